/- Texts joined. -/
import Derived.Test.YtbmbhcheonjigaaGreatDoorQE
import Derived.Test.YtbmbhcheonjigaaGreatDoorQD
import Derived.Test.YtbmbhcheonjigaaGreatDoorQH
import Derived.Test.YtbmbhcheonjigaaGreatDoorQF
import Derived.Test.YtbmbhcheonjigaaGreatDoorQG
/- The reference's Parse, lifted. -/
set_option linter.unusedSimpArgs false
set_option linter.defProp false
set_option linter.unusedVariables false
set_option maxRecDepth 100000
namespace Go.Proofs.YtbmbhcheonjigaaGreatDoor
section
open Go Go.Am Go.Proofs
abbrev tP:Type:=ByteArray×Int×Int×Int×Int×Nat×FI×FI×FS×FI
def ec5:AR tP:=λx=>([.ptr 0 0,st x.1],[some (.blk [.ro 4 x.p5 (λj=>[i64 (x.p6 j),i64 (x.p7 j),st (x.p8 j),i64 (x.q9 j)]),i64 x.2.1,i64 x.2.2.1,i64 x.p3,i64 x.p4,j0])])
theorem gg2:VI ec5:=vd λt=>((vS (ag t 1)),vI (cc t 0 1),vI (cc t 0 2),vI (cc t 0 3),vI (cc t 0 4),r7 (cc t 0 0),dTI (cc t 0 0) 0,dTI (cc t 0 0) 1,dTS (cc t 0 0) 2,dTI (cc t 0 0) 3)
noncomputable def cb4(q:Nat)(x:tP):Option SR:=aH q (x.1,x.2.1,x.2.2.1,x.2.2.2.1,x.2.2.2.2.1,x.2.2.2.2.2.1,x.2.2.2.2.2.2.1,x.2.2.2.2.2.2.2.1,x.2.2.2.2.2.2.2.2.1,x.2.2.2.2.2.2.2.2.2,0,λ_=>ByteArray.empty)
theorem fl9(q:Nat):Lw E5 48 ec5 bn2 (cb4 q):=by
 intro x z h;have this:=un7 (gF q _ z h) (by kernel_rfl);refine SC.virtB 0 [.ro 4 x.2.2.2.2.2.1 (λj=>[i64 (x.2.2.2.2.2.2.1 j),i64 (x.2.2.2.2.2.2.2.1 j),st (x.2.2.2.2.2.2.2.2.1 j),i64 (x.2.2.2.2.2.2.2.2.2 j)]),i64 x.2.1,i64 x.2.2.1,i64 x.2.2.2.1,i64 x.2.2.2.2.1,.sl 1 1 0 0] 9 1 (λj=>[st ByteArray.empty]) (by decide) this rfl (λβ S w us b hb hd=>?_) (by show 1<=1;decide) (by show 1<=1;decide);simp only[d9]at hd⊢;obtain⟨u1,r1,rfl,h1,u2,r2,rfl,h2,u3,r3,rfl,h3,u4,r4,rfl,h4,u5,r5,rfl,h5,u6,r6,rfl,h6,rfl⟩:=hd;exact⟨u1,_,rfl,h1,u2,_,rfl,h2,u3,_,rfl,h3,u4,_,rfl,h4,u5,_,rfl,h5,u6,_,rfl,bc3 (by show 1<2;decide) hb h6,rfl⟩
abbrev qH:Type:=(SR)⊕(Nat×FS×FS×SR)
def bs1:qH->Z3:=Sum.elim (λz:SR=>.ret j0 (hHR z)) (λz:Nat×FS×FS×SR=>.ret (.sl 2 2 0 z.1) [some (.blk [.ro 4 z.p7 (λj=>[i64 (z.p8 j),i64 (z.p9 j),st (z.p10 j),i64 (z.p11 j)]),i64 z.p3,i64 z.p4,i64 z.p5,i64 z.p6,.sl 1 1 0 z.p12]),some (.row 9 1 z.p12 (λj=>[st (z.q13 j)])),some (.row 174 2 z.1 (λj=>[st (z.2.1 j),st (z.2.2.1 j)]))])
abbrev aN:Type:=(Bool×SB)⊕(Bool×Nat×FI×FI×FS×FI×Int×Int×Int×Int×Nat×FS×FS×FS×Nat)
abbrev aZ:Type:=(SB)⊕(Nat×Nat×FI×FI×FS×FI×Int×Int×Int×Int×Nat×FS×FS×FS)
def ca5(x:SR)(y:Bool×SB):St:={fr:=[V.ptr 0 0,V.junk,V.junk,j0,bo y.1]++jk 71,H:=hp [some (hRB y.2),some (gv8 y.2)],nx:=2,rt:=1,me:=50}
def bp4(x:SR)(y:Bool×Nat×FI×FI×FS×FI×Int×Int×Int×Int×Nat×FS×FS×FS×Nat):St:={fr:=[V.ptr 0 0,V.junk,V.junk,V.sl 2 2 0 y.q14,bo y.1]++jk 71,H:=hp [some (hRB y.2),some (hRV y.2),some (Z1.row 174 2 y.q14 λj=>[st (y.p12 j),st (y.p13 j)])],nx:=3,rt:=1,me:=50}
def ce0(x:SR):aN->St:=(Sum.elim (ca5 x) (bp4 x))
theorem ce6(x:SR):VL (ce0 x):=vl λs=>(match s.nx==2 with|true=>(.inl (((vB (fv s 4)),r7 (cb s 0 0),dTI (cb s 0 0) 0,dTI (cb s 0 0) 1,dTS (cb s 0 0) 2,dTI (cb s 0 0) 3,vI (cb s 0 1),vI (cb s 0 2),vI (cb s 0 3),vI (cb s 0 4),aV (cb s 0 5),dRS (s.H 1) 0))) |false=>(.inr (((vB (fv s 4)),r7 (cb s 0 0),dTI (cb s 0 0) 0,dTI (cb s 0 0) 1,dTS (cb s 0 0) 2,dTI (cb s 0 0) 3,vI (cb s 0 1),vI (cb s 0 2),vI (cb s 0 3),vI (cb s 0 4),aV (cb s 0 5),dRS (s.H 1) 0,dRS (s.H 2) 0,dRS (s.H 2) 1,aV (fv s 3)))))
def cg4(x:SR):aZ->Ex×St:=(Sum.elim (λz=>(Ex.exit 0,{fr:=[V.ptr 0 0,V.junk,V.junk,j0]++jk 72,H:=hp [some (hRB z),some (gv8 z)],nx:=2,rt:=1,me:=50})) (λz=>(Ex.exit 0,{fr:=[V.ptr 0 0,V.junk,V.junk,V.sl 2 2 0 z.1]++jk 72,H:=hp [some (hRB z.2),some (hRV z.2),some (Z1.row 174 2 z.1 λj=>[st (z.p12 j),st (z.q13 j)])],nx:=3,rt:=1,me:=50})))
abbrev pW{β:Type}(A:i7->Option SR)(B:i7->Option dB)(C:f8->Option i7)(D:i7->Option dB)(E:f8->Option SR)(F:sH->Option Bool)(x:SR)(y:Bool×SB)(nx:aN->Option β)(dn:aZ->Option β):Option β:=
 U11 y λA B G H I J K L M N O=>if A then(C (12,K,L,M,N,B,G,H,I,J,O)).bind λa=>if(a.2.2.2.2.2.2.2.2.2.2.1+1)*16<=b6/\a.2.2.2.2.2.2.2.2.2.2.1+1<=maxLen/\a.2.2.2.2.2.2.2.2.2.2.1<=a.2.2.2.2.2.2.2.2.2.2.1 then(D (⟨#[58]⟩,a.2.1,a.2.2.1,a.2.2.2.1,a.2.2.2.2.1,a.2.2.2.2.2.1,a.2.2.2.2.2.2.1,a.2.2.2.2.2.2.2.1,a.2.2.2.2.2.2.2.2.1,a.2.2.2.2.2.2.2.2.2.1,a.2.2.2.2.2.2.2.2.2.2.1+1,λj=>if j<a.2.2.2.2.2.2.2.2.2.2.1 then a.2.2.2.2.2.2.2.2.2.2.2 j else a.1)).bind λb=>if b.1 then if 0<=b.2.1/\b.2.1< (b.2.2.2.2.2.1:Int)then if(b.2.2.2.2.2.2.1 (Int.toNat b.2.1)!=1) then(E (11,b.2)).bind λc=>(F (b.2.2.2.2.2.2.1 (Int.toNat b.2.1),b.2.2.2.2.2.2.2.1 (Int.toNat b.2.1),b.2.2.2.2.2.2.2.2.1 (Int.toNat b.2.1),b.2.2.2.2.2.2.2.2.2.1 (Int.toNat b.2.1))).bind λd=>if(!d) then(E (10,c)).bind λe=>(D (b.2.2.2.2.2.2.2.2.1 (Int.toNat b.2.1),e)).bind λf=>(D (⟨#[44]⟩,f.2)).bind λg=>nx (.inr (g.1,g.2.2.2.2.2.1,g.2.2.2.2.2.2.1,g.2.2.2.2.2.2.2.1,g.2.2.2.2.2.2.2.2.1,g.2.2.2.2.2.2.2.2.2.1,g.2.1,g.2.2.1,g.2.2.2.1,g.2.2.2.2.1,g.2.2.2.2.2.2.2.2.2.2.1,g.2.2.2.2.2.2.2.2.2.2.2,λj=>a.1,λj=>b.2.2.2.2.2.2.2.2.1 (Int.toNat b.2.1),1))else(D (b.2.2.2.2.2.2.2.2.1 (Int.toNat b.2.1),c)).bind λh=>(D (⟨#[44]⟩,h.2)).bind λi=>nx (.inr (i.1,i.2.2.2.2.2.1,i.2.2.2.2.2.2.1,i.2.2.2.2.2.2.2.1,i.2.2.2.2.2.2.2.2.1,i.2.2.2.2.2.2.2.2.2.1,i.2.1,i.2.2.1,i.2.2.2.1,i.2.2.2.2.1,i.2.2.2.2.2.2.2.2.2.2.1,i.2.2.2.2.2.2.2.2.2.2.2,λj=>a.1,λj=>b.2.2.2.2.2.2.2.2.1 (Int.toNat b.2.1),1))else(F (b.2.2.2.2.2.2.1 (Int.toNat b.2.1),b.2.2.2.2.2.2.2.1 (Int.toNat b.2.1),b.2.2.2.2.2.2.2.2.1 (Int.toNat b.2.1),b.2.2.2.2.2.2.2.2.2.1 (Int.toNat b.2.1))).bind λk=>if(!k) then(E (10,b.2)).bind λl=>(D (b.2.2.2.2.2.2.2.2.1 (Int.toNat b.2.1),l)).bind λm=>(D (⟨#[44]⟩,m.2)).bind λn=>nx (.inr (n.1,n.2.2.2.2.2.1,n.2.2.2.2.2.2.1,n.2.2.2.2.2.2.2.1,n.2.2.2.2.2.2.2.2.1,n.2.2.2.2.2.2.2.2.2.1,n.2.1,n.2.2.1,n.2.2.2.1,n.2.2.2.2.1,n.2.2.2.2.2.2.2.2.2.2.1,n.2.2.2.2.2.2.2.2.2.2.2,λj=>a.1,λj=>b.2.2.2.2.2.2.2.2.1 (Int.toNat b.2.1),1))else(D (b.2.2.2.2.2.2.2.2.1 (Int.toNat b.2.1),b.2)).bind λo=>(D (⟨#[44]⟩,o.2)).bind λp=>nx (.inr (p.1,p.2.2.2.2.2.1,p.2.2.2.2.2.2.1,p.2.2.2.2.2.2.2.1,p.2.2.2.2.2.2.2.2.1,p.2.2.2.2.2.2.2.2.2.1,p.2.1,p.2.2.1,p.2.2.2.1,p.2.2.2.2.1,p.2.2.2.2.2.2.2.2.2.2.1,p.2.2.2.2.2.2.2.2.2.2.2,λj=>a.1,λj=>b.2.2.2.2.2.2.2.2.1 (Int.toNat b.2.1),1))else none else(D (⟨#[44]⟩,b.2)).bind λq=>nx (.inr (q.1,q.2.2.2.2.2.1,q.2.2.2.2.2.2.1,q.2.2.2.2.2.2.2.1,q.2.2.2.2.2.2.2.2.1,q.2.2.2.2.2.2.2.2.2.1,q.2.1,q.2.2.1,q.2.2.2.1,q.2.2.2.2.1,q.2.2.2.2.2.2.2.2.2.2.1,q.2.2.2.2.2.2.2.2.2.2.2,λj=>a.1,λj=>⟨#[]⟩,1))else none else dn (.inl y.2)
abbrev rC{β:Type}(A:i7->Option SR)(B:i7->Option dB)(C:f8->Option i7)(D:i7->Option dB)(E:f8->Option SR)(F:sH->Option Bool)(x:SR)(y:Bool×Nat×FI×FI×FS×FI×Int×Int×Int×Int×Nat×FS×FS×FS×Nat)(nx:aN->Option β)(dn:aZ->Option β):Option β:=
 U15 y λA B G H I J K L M N O P Q R S=>if A then(C (12,K,L,M,N,B,G,H,I,J,O,P)).bind λa=>if(a.2.2.2.2.2.2.2.2.2.2.1+1)*16<=b6/\a.2.2.2.2.2.2.2.2.2.2.1+1<=maxLen/\a.2.2.2.2.2.2.2.2.2.2.1<=a.2.2.2.2.2.2.2.2.2.2.1 then(D (⟨#[58]⟩,a.2.1,a.2.2.1,a.2.2.2.1,a.2.2.2.2.1,a.2.2.2.2.2.1,a.2.2.2.2.2.2.1,a.2.2.2.2.2.2.2.1,a.2.2.2.2.2.2.2.2.1,a.2.2.2.2.2.2.2.2.2.1,a.2.2.2.2.2.2.2.2.2.2.1+1,λj=>if j<a.2.2.2.2.2.2.2.2.2.2.1 then a.2.2.2.2.2.2.2.2.2.2.2 j else a.1)).bind λb=>if b.1 then if 0<=b.2.1/\b.2.1< (b.2.2.2.2.2.1:Int)then if(b.2.2.2.2.2.2.1 (Int.toNat b.2.1)!=1) then(E (11,b.2)).bind λc=>(F (b.2.2.2.2.2.2.1 (Int.toNat b.2.1),b.2.2.2.2.2.2.2.1 (Int.toNat b.2.1),b.2.2.2.2.2.2.2.2.1 (Int.toNat b.2.1),b.2.2.2.2.2.2.2.2.2.1 (Int.toNat b.2.1))).bind λd=>if(!d) then(E (10,c)).bind λe=>(D (b.2.2.2.2.2.2.2.2.1 (Int.toNat b.2.1),e)).bind λf=>if(S+1)*32<=b6/\S+1<=maxLen/\S<=S then(D (⟨#[44]⟩,f.2)).bind λg=>nx (.inr (g.1,g.2.2.2.2.2.1,g.2.2.2.2.2.2.1,g.2.2.2.2.2.2.2.1,g.2.2.2.2.2.2.2.2.1,g.2.2.2.2.2.2.2.2.2.1,g.2.1,g.2.2.1,g.2.2.2.1,g.2.2.2.2.1,g.2.2.2.2.2.2.2.2.2.2.1,g.2.2.2.2.2.2.2.2.2.2.2,λj=>if j<S then Q j else a.1,λj=>if j<S then R j else b.2.2.2.2.2.2.2.2.1 (Int.toNat b.2.1),S+1))else none else(D (b.2.2.2.2.2.2.2.2.1 (Int.toNat b.2.1),c)).bind λh=>if(S+1)*32<=b6/\S+1<=maxLen/\S<=S then(D (⟨#[44]⟩,h.2)).bind λi=>nx (.inr (i.1,i.2.2.2.2.2.1,i.2.2.2.2.2.2.1,i.2.2.2.2.2.2.2.1,i.2.2.2.2.2.2.2.2.1,i.2.2.2.2.2.2.2.2.2.1,i.2.1,i.2.2.1,i.2.2.2.1,i.2.2.2.2.1,i.2.2.2.2.2.2.2.2.2.2.1,i.2.2.2.2.2.2.2.2.2.2.2,λj=>if j<S then Q j else a.1,λj=>if j<S then R j else b.2.2.2.2.2.2.2.2.1 (Int.toNat b.2.1),S+1))else none else(F (b.2.2.2.2.2.2.1 (Int.toNat b.2.1),b.2.2.2.2.2.2.2.1 (Int.toNat b.2.1),b.2.2.2.2.2.2.2.2.1 (Int.toNat b.2.1),b.2.2.2.2.2.2.2.2.2.1 (Int.toNat b.2.1))).bind λk=>if(!k) then(E (10,b.2)).bind λl=>(D (b.2.2.2.2.2.2.2.2.1 (Int.toNat b.2.1),l)).bind λm=>if(S+1)*32<=b6/\S+1<=maxLen/\S<=S then(D (⟨#[44]⟩,m.2)).bind λn=>nx (.inr (n.1,n.2.2.2.2.2.1,n.2.2.2.2.2.2.1,n.2.2.2.2.2.2.2.1,n.2.2.2.2.2.2.2.2.1,n.2.2.2.2.2.2.2.2.2.1,n.2.1,n.2.2.1,n.2.2.2.1,n.2.2.2.2.1,n.2.2.2.2.2.2.2.2.2.2.1,n.2.2.2.2.2.2.2.2.2.2.2,λj=>if j<S then Q j else a.1,λj=>if j<S then R j else b.2.2.2.2.2.2.2.2.1 (Int.toNat b.2.1),S+1))else none else(D (b.2.2.2.2.2.2.2.2.1 (Int.toNat b.2.1),b.2)).bind λo=>if(S+1)*32<=b6/\S+1<=maxLen/\S<=S then(D (⟨#[44]⟩,o.2)).bind λp=>nx (.inr (p.1,p.2.2.2.2.2.1,p.2.2.2.2.2.2.1,p.2.2.2.2.2.2.2.1,p.2.2.2.2.2.2.2.2.1,p.2.2.2.2.2.2.2.2.2.1,p.2.1,p.2.2.1,p.2.2.2.1,p.2.2.2.2.1,p.2.2.2.2.2.2.2.2.2.2.1,p.2.2.2.2.2.2.2.2.2.2.2,λj=>if j<S then Q j else a.1,λj=>if j<S then R j else b.2.2.2.2.2.2.2.2.1 (Int.toNat b.2.1),S+1))else none else none else if(S+1)*32<=b6/\S+1<=maxLen/\S<=S then(D (⟨#[44]⟩,b.2)).bind λq=>nx (.inr (q.1,q.2.2.2.2.2.1,q.2.2.2.2.2.2.1,q.2.2.2.2.2.2.2.1,q.2.2.2.2.2.2.2.2.1,q.2.2.2.2.2.2.2.2.2.1,q.2.1,q.2.2.1,q.2.2.2.1,q.2.2.2.2.1,q.2.2.2.2.2.2.2.2.2.2.1,q.2.2.2.2.2.2.2.2.2.2.2,λj=>if j<S then Q j else a.1,λj=>if j<S then R j else⟨#[]⟩,S+1))else none else none else dn (.inr (S,B,G,H,I,J,K,L,M,N,O,P,Q,R))
noncomputable def mS(A:i7->Option SR)(B:i7->Option dB)(C:f8->Option i7)(D:i7->Option dB)(E:f8->Option SR)(F:sH->Option Bool)(q:Nat)(x:SR):aN->Option aZ:=lpG (Sum.elim (λy=>pW A B C D E F x y (λy=>some (.inl y)) (λz=>some (.inr z))) (λy=>rC A B C D E F x y (λy=>some (.inl y)) (λz=>some (.inr z)))) q
abbrev wK{β:Type}(A:i7->Option SR)(B:i7->Option dB)(C:f8->Option i7)(D:i7->Option dB)(E:f8->Option SR)(F:sH->Option Bool)(G:aN->Option aZ)(x:SR)(dn:qH->Option β):Option β:=
 (A (⟨#[40]⟩,x)).bind λa=>if(a.2.2.1==0) then(B (⟨#[41]⟩,a)).bind λb=>(G (.inl (!b.1,b.2.2.2.2.2.1,b.2.2.2.2.2.2.1,b.2.2.2.2.2.2.2.1,b.2.2.2.2.2.2.2.2.1,b.2.2.2.2.2.2.2.2.2.1,b.2.1,b.2.2.1,b.2.2.2.1,b.2.2.2.2.1,b.2.2.2.2.2.2.2.2.2.2))).bind λc=>Sum.elim (λd=>(A (⟨#[41]⟩,d.2.2.2.2.2.1,d.2.2.2.2.2.2.1,d.2.2.2.2.2.2.2.1,d.2.2.2.2.2.2.2.2.1,d.1,d.2.1,d.2.2.1,d.2.2.2.1,d.2.2.2.2.1,d.2.2.2.2.2.2.2.2.2)).bind λe=>dn (.inl e)) (λf=>(A (⟨#[41]⟩,f.2.2.2.2.2.2.1,f.2.2.2.2.2.2.2.1,f.2.2.2.2.2.2.2.2.1,f.2.2.2.2.2.2.2.2.2.1,f.2.1,f.2.2.1,f.2.2.2.1,f.2.2.2.2.1,f.2.2.2.2.2.1,f.2.2.2.2.2.2.2.2.2.2.1,f.2.2.2.2.2.2.2.2.2.2.2.1)).bind λg=>dn (.inr (f.1,f.2.2.2.2.2.2.2.2.2.2.2.2.1,f.2.2.2.2.2.2.2.2.2.2.2.2.2,g))) c else(G (.inl (false,a.2.2.2.2.1,a.2.2.2.2.2.1,a.2.2.2.2.2.2.1,a.2.2.2.2.2.2.2.1,a.2.2.2.2.2.2.2.2.1,a.1,a.2.1,a.2.2.1,a.2.2.2.1,a.2.2.2.2.2.2.2.2.2))).bind λh=>Sum.elim (λi=>(A (⟨#[41]⟩,i.2.2.2.2.2.1,i.2.2.2.2.2.2.1,i.2.2.2.2.2.2.2.1,i.2.2.2.2.2.2.2.2.1,i.1,i.2.1,i.2.2.1,i.2.2.2.1,i.2.2.2.2.1,i.2.2.2.2.2.2.2.2.2)).bind λj=>dn (.inl j)) (λk=>(A (⟨#[41]⟩,k.2.2.2.2.2.2.1,k.2.2.2.2.2.2.2.1,k.2.2.2.2.2.2.2.2.1,k.2.2.2.2.2.2.2.2.2.1,k.2.1,k.2.2.1,k.2.2.2.1,k.2.2.2.2.1,k.2.2.2.2.2.1,k.2.2.2.2.2.2.2.2.2.2.1,k.2.2.2.2.2.2.2.2.2.2.2.1)).bind λl=>dn (.inr (k.1,k.2.2.2.2.2.2.2.2.2.2.2.2.1,k.2.2.2.2.2.2.2.2.2.2.2.2.2,l))) h
noncomputable def ar5(q:Nat)(x:SR):Option qH:=wK (aH q) (ris q) (qQ q) (dN q) (dZ q) (zY q) (mS (aH q) (ris q) (qQ q) (dN q) (dZ q) (zY q) q x) x some
theorem ee1(q:Nat):Lw E5 50 bF bs1 (ar5 q):=have K:=(kc eE (u7 (gF q) λ_=>by kernel_rfl) (kc eE (u7 (av8 q) λ_=>by kernel_rfl) (kg (λa L=> !iA (a.getD 1 .junk)&&L.length==2) dr2 (u7 (cl2 q) λ_=>by kernel_rfl) (kc eE (u7 (uW q) λ_=>by kernel_rfl) (kc fQ (u7 (mN q) λ_=>by kernel_rfl) (kc fi2 (u7 (ee3 q) λ_=>by kernel_rfl) kn))))));sl hW5 hX5 K (λx=>(lc 0 (ce6 x) (lp2 hX5 (cg4 x) 50 0 25 [(0,9)] 4 K ln q (λc l β=>pW (β:=β) c.1 c.2.1 c.2.2.1 c.2.2.2.1 c.2.2.2.2.1 c.2.2.2.2.2.1 x) λc l β=>rC (β:=β) c.1 c.2.1 c.2.2.1 c.2.2.2.1 c.2.2.2.2.1 c.2.2.2.2.2.1 x) ln)) λc l β=>wK (β:=β) c.1 c.2.1 c.2.2.1 c.2.2.2.1 c.2.2.2.2.1 c.2.2.2.2.2.1 l.1
abbrev lH:Type:=Int×Int×Int×Int×Nat×FI×FI×FS×FI
abbrev gV:Type:=Nat×FS×FS×SR
def cl9:AR lH:=λx=>([.ptr 0 0],[some (.blk [.ro 4 x.p4 (λj=>[i64 (x.p5 j),i64 (x.p6 j),st (x.p7 j),i64 (x.q8 j)]),i64 x.1,i64 x.2.1,i64 x.2.2.1,i64 x.p3,j0])])
theorem fr7:VI cl9:=vd λt=>((vI (cc t 0 1)),vI (cc t 0 2),vI (cc t 0 3),vI (cc t 0 4),r7 (cc t 0 0),dTI (cc t 0 0) 0,dTI (cc t 0 0) 1,dTS (cc t 0 0) 2,dTI (cc t 0 0) 3)
def cn1:gV->Z3:=λz=>.ret (.ro 2 z.1 (λj=>[st (z.2.1 j),st (z.2.2.1 j)])) (hHR z.q3)
def iU:qH->gV:=Sum.elim (λz=>(0,λ_=>ByteArray.empty,λ_=>ByteArray.empty,z)) (λz=>z)
theorem dy3{args:List V}{L:List (Option Z1)}(z:qH)(h:SC E5 50 args L (bs1 z)):SC E5 50 args L (cn1 (iU z)):=by
 rcases z with z|z
 ·exact AG h AH
 ·have h2:=SC.giveM (L2:=[some (.blk [.ro 4 z.2.2.2.2.2.2.2.1 (λj=>[i64 (z.2.2.2.2.2.2.2.2.1 j),i64 (z.2.2.2.2.2.2.2.2.2.1 j),st (z.2.2.2.2.2.2.2.2.2.2.1 j),i64 (z.2.2.2.2.2.2.2.2.2.2.2.1 j)]),i64 z.2.2.2.1,i64 z.2.2.2.2.1,i64 z.2.2.2.2.2.1,i64 z.2.2.2.2.2.2.1,.sl 1 1 0 z.2.2.2.2.2.2.2.2.2.2.2.2.1]),some (.row 9 1 z.2.2.2.2.2.2.2.2.2.2.2.2.1 (λj=>[st (z.2.2.2.2.2.2.2.2.2.2.2.2.2 j)]))]) 2 h (by rfl) (by simp[V.bw,V.bw2,V.bw1,hp,V.pure,n4]);simp only[V.bw,V.bw2,V.bw1,hp,List.getD_eq_getElem?_getD,List.getElem?_cons_succ,List.getElem?_cons_zero,Option.getD_some,Nat.zero_add,Nat.le_refl,and_self,if_true]at h2;exact h2
noncomputable def kO(q:Nat)(x:lH):Option gV:=(ar5 q (x.1,x.2.1,x.2.2.1,x.2.2.2.1,x.2.2.2.2.1,x.2.2.2.2.2.1,x.2.2.2.2.2.2.1,x.2.2.2.2.2.2.2.1,x.2.2.2.2.2.2.2.2,0,λ_=>ByteArray.empty)).map iU
theorem ev2(q:Nat):Lw E5 50 cl9 cn1 (kO q):=by
 intro x z h;obtain⟨y,hy,rfl⟩:=Option.map_eq_some_iff.1 h;have this:=dy3 y (ee1 q _ y hy);refine SC.virtB 0 [.ro 4 x.2.2.2.2.1 (λj=>[i64 (x.2.2.2.2.2.1 j),i64 (x.2.2.2.2.2.2.1 j),st (x.2.2.2.2.2.2.2.1 j),i64 (x.2.2.2.2.2.2.2.2 j)]),i64 x.1,i64 x.2.1,i64 x.2.2.1,i64 x.2.2.2.1,.sl 1 1 0 0] 9 1 (λj=>[st ByteArray.empty]) (by decide) this rfl (λβ S w us b hb hd=>?_) (by show 1<=1;decide) (by show 1<=1;decide);simp only[d9]at hd⊢;obtain⟨u1,r1,rfl,h1,u2,r2,rfl,h2,u3,r3,rfl,h3,u4,r4,rfl,h4,u5,r5,rfl,h5,u6,r6,rfl,h6,rfl⟩:=hd;exact⟨u1,_,rfl,h1,u2,_,rfl,h2,u3,_,rfl,h3,u4,_,rfl,h4,u5,_,rfl,h5,u6,_,rfl,bc3 (by show 1<2;decide) hb h6,rfl⟩
def bq1:qP->d8:=Sum.elim (λz=>(z.1,z.2,0,λ_=>0,λ_=>0,λ_=>ByteArray.empty,λ_=>0)) id
noncomputable def ai1(q:Nat)(x:ByteArray):Option d8:=(dc0 q x).map bq1
theorem gq5(q:Nat):Lw E5 47 j7 bc2 (ai1 q):=by
 intro x z h;obtain⟨y,hy,rfl⟩:=Option.map_eq_some_iff.1 h;have hs:=eh2 q x y hy;rcases y with y|y
 ·exact AG hs (Le.tup (AE AH (AE (AD _) (AE (AD _) AF))))
 ·have h2:=SC.giveM (L2:=[]) 0 hs (by rfl) (by simp[V.bw,V.bw2,V.bw1,hp,V.pure,n4]);simp only[V.bw,V.bw2,V.bw1,hp,List.map_cons,List.map_nil,List.getD_eq_getElem?_getD,List.getElem?_cons_succ,List.getElem?_cons_zero,Option.getD_some,Nat.zero_add,Nat.le_refl,and_self,if_true]at h2;exact h2
abbrev cT:Type:=(Nat×FI×FI×FS×FI)⊕(Nat×FI×FI×FS×FI×Int×Int×Int×Int×Nat×FS×FS×FN×FM×FI×FI×FS×FN×FM×Nat×FS)
abbrev eH:Type:=(Nat×FI×FI×FS×FI)⊕(Nat×Nat×FI×FI×FS×FI×Int×Int×Int×Int×Nat×FS×FS×FN×FM×FI×FI×FS×FN×FM)
def cg6(x:ByteArray)(y:Nat×FI×FI×FS×FI):St:={fr:=jk 8++[V.ptr 0 0,j0,j0]++jk 74,H:=hp [some (Z1.blk [V.ro 4 y.1 λj=>[i64 (y.2.1 j),i64 (y.2.2.1 j),st (y.p3 j),i64 (y.q4 j)],i64 0,i64 0,i64 0,i64 0,j0])],nx:=1,rt:=0,me:=15}
def cd8(x:ByteArray)(y:Nat×FI×FI×FS×FI×Int×Int×Int×Int×Nat×FS×FS×FN×FM×FI×FI×FS×FN×FM×Nat×FS):St:={fr:=jk 8++[V.ptr 0 0,V.sl 2 6 0 y.p19,V.sl 3 1 0 y.p19]++jk 74,H:=hp [some (hRB y),some (hRV y),some (Z1.row 40 6 y.p19 λj=>[st (y.p11 j),V.ro 2 (y.p12 j) (y.p13 j),i64 (y.p14 j),i64 (y.p15 j),st (y.p16 j),V.ro 4 (y.p17 j) (y.p18 j)]),some (Z1.row 9 1 y.p19 λj=>[st (y.q20 j)])],nx:=4,rt:=0,me:=15}
def dd0(x:ByteArray):cT->St:=(Sum.elim (cg6 x) (cd8 x))
theorem df5(x:ByteArray):VL (dd0 x):=vl λs=>(match s.nx==1 with|true=>(.inl (((r7 (cb s 0 0)),dTI (cb s 0 0) 0,dTI (cb s 0 0) 1,dTS (cb s 0 0) 2,dTI (cb s 0 0) 3))) |false=>(.inr (((r7 (cb s 0 0)),dTI (cb s 0 0) 0,dTI (cb s 0 0) 1,dTS (cb s 0 0) 2,dTI (cb s 0 0) 3,vI (cb s 0 1),vI (cb s 0 2),vI (cb s 0 3),vI (cb s 0 4),aV (cb s 0 5),dRS (s.H 1) 0,dRS (s.H 2) 0,dRN (s.H 2) 1,dRF (s.H 2) 1,dRI (s.H 2) 2,dRI (s.H 2) 3,dRS (s.H 2) 4,dRN (s.H 2) 5,dRF (s.H 2) 5,aV (fv s 9),dRS (s.H 3) 0))))
def df3(x:ByteArray):eH->Ex×St:=(Sum.elim (λz=>(Ex.exit 0,{fr:=jk 8++[V.ptr 0 0,j0]++jk 75,H:=hp [some (Z1.blk [V.ro 4 z.1 λj=>[i64 (z.2.1 j),i64 (z.2.2.1 j),st (z.p3 j),i64 (z.q4 j)],i64 0,i64 0,i64 0,i64 0,j0])],nx:=1,rt:=0,me:=15})) (λz=>(Ex.exit 0,{fr:=jk 8++[V.ptr 0 0,V.sl 2 6 0 z.1]++jk 75,H:=hp [some (hRB z.2),some (hRV z.2),some (Z1.row 40 6 z.1 λj=>[st (z.p12 j),V.ro 2 (z.p13 j) (z.p14 j),i64 (z.p15 j),i64 (z.p16 j),st (z.p17 j),V.ro 4 (z.p18 j) (z.q19 j)])],nx:=3,rt:=0,me:=15})))
abbrev tA{β:Type}(A:ByteArray->Option d8)(B:tP->Option SR)(C:i7->Option SR)(D:f8->Option i7)(E:pZ->Option qE)(F:lH->Option gV)(G:SR->Option b5)(x:ByteArray)(y:Nat×FI×FI×FS×FI)(nx:cT->Option β)(dn:eH->Option β):Option β:=
 if(0:Int)<=0/\0< (y.1:Int)then if(y.2.1 0 !=0) then(B (⟨#[112,114,111,99,101,100,117,114,101]⟩,0,0,0,0,y)).bind λa=>(D (1,a)).bind λb=>(F (b.2.1,b.2.2.1,b.2.2.2.1,b.2.2.2.2.1,b.2.2.2.2.2.1,b.2.2.2.2.2.2.1,b.2.2.2.2.2.2.2.1,b.2.2.2.2.2.2.2.2.1,b.2.2.2.2.2.2.2.2.2.1)).bind λc=>(G c.2.2.2).bind λd=>nx (.inr (d.2.2.2.2.2.2.2.2.2.1,d.2.2.2.2.2.2.2.2.2.2.1,d.2.2.2.2.2.2.2.2.2.2.2.1,d.2.2.2.2.2.2.2.2.2.2.2.2.1,d.2.2.2.2.2.2.2.2.2.2.2.2.2.1,d.2.2.2.2.2.1,d.2.2.2.2.2.2.1,d.2.2.2.2.2.2.2.1,d.2.2.2.2.2.2.2.2.1,d.2.2.2.2.2.2.2.2.2.2.2.2.2.2.1,d.2.2.2.2.2.2.2.2.2.2.2.2.2.2.2,λj=>b.1,λj=>c.1,λ(j j_1:Nat)=>[st (c.2.1 j_1),st (c.2.2.1 j_1)],λj=>d.1,λj=>d.2.1,λj=>d.2.2.1,λj=>d.2.2.2.1,λj=>d.2.2.2.2.1,1,λj=>b.1))else dn (.inl y)else none
abbrev mC{β:Type}(A:ByteArray->Option d8)(B:tP->Option SR)(C:i7->Option SR)(D:f8->Option i7)(E:pZ->Option qE)(F:lH->Option gV)(G:SR->Option b5)(x:ByteArray)(y:Nat×FI×FI×FS×FI×Int×Int×Int×Int×Nat×FS×FS×FN×FM×FI×FI×FS×FN×FM×Nat×FS)(nx:cT->Option β)(dn:eH->Option β):Option β:=
 U21 y λA B D H I J K L M N O P Q R S T U V W X Y=>if(L==0) then if 0<=J/\J< (A:Int)then if(B (Int.toNat J)!=0) then(C (⟨#[112,114,111,99,101,100,117,114,101]⟩,J,K,L,M,A,B,D,H,I,N,O)).bind λa=>(E (w ((X:Int)+1),X,Y,a)).bind λb=>if(X+1)*16<=b6/\X+1<=maxLen/\X<=b.2.1 then(F (b.2.2.2.1,b.2.2.2.2.1,b.2.2.2.2.2.1,b.2.2.2.2.2.2.1,b.2.2.2.2.2.2.2.1,b.2.2.2.2.2.2.2.2.1,b.2.2.2.2.2.2.2.2.2.1,b.2.2.2.2.2.2.2.2.2.2.1,b.2.2.2.2.2.2.2.2.2.2.2.1)).bind λc=>(G c.2.2.2).bind λd=>if(X+1)*96<=b6/\X+1<=maxLen/\X<=X then nx (.inr (d.2.2.2.2.2.2.2.2.2.1,d.2.2.2.2.2.2.2.2.2.2.1,d.2.2.2.2.2.2.2.2.2.2.2.1,d.2.2.2.2.2.2.2.2.2.2.2.2.1,d.2.2.2.2.2.2.2.2.2.2.2.2.2.1,d.2.2.2.2.2.1,d.2.2.2.2.2.2.1,d.2.2.2.2.2.2.2.1,d.2.2.2.2.2.2.2.2.1,d.2.2.2.2.2.2.2.2.2.2.2.2.2.2.1,d.2.2.2.2.2.2.2.2.2.2.2.2.2.2.2,λj=>if j<X then P j else b.1,λj=>if j<X then Q j else c.1,λ(j j_1:Nat)=>if j<X then R j j_1 else[st (c.2.1 j_1),st (c.2.2.1 j_1)],λj=>if j<X then S j else d.1,λj=>if j<X then T j else d.2.1,λj=>if j<X then U j else d.2.2.1,λj=>if j<X then V j else d.2.2.2.1,λ(j j_1:Nat)=>if j<X then W j j_1 else d.2.2.2.2.1 j_1,X+1,λj=>if j<X then b.2.2.1 j else b.1))else none else none else dn (.inr (X,A,B,D,H,I,J,K,L,M,N,O,P,Q,R,S,T,U,V,W))else none else dn (.inr (X,A,B,D,H,I,J,K,L,M,N,O,P,Q,R,S,T,U,V,W))
noncomputable def qU(A:ByteArray->Option d8)(B:tP->Option SR)(C:i7->Option SR)(D:f8->Option i7)(E:pZ->Option qE)(F:lH->Option gV)(G:SR->Option b5)(q:Nat)(x:ByteArray):cT->Option eH:=lpG (Sum.elim (λy=>tA A B C D E F G x y (λy=>some (.inl y)) (λz=>some (.inr z))) (λy=>mC A B C D E F G x y (λy=>some (.inl y)) (λz=>some (.inr z)))) q
abbrev ac5{β:Type}(A:ByteArray->Option d8)(B:tP->Option SR)(C:i7->Option SR)(D:f8->Option i7)(E:pZ->Option qE)(F:lH->Option gV)(G:SR->Option b5)(H:cT->Option eH)(x:ByteArray)(dn:tM->Option β):Option β:=
 (A x).bind λa=>if(a.2.1 !=0) then dn (.inl (a.1,a.2.1))else(H (.inl a.2.2)).bind λb=>Sum.elim (λc=>dn (.inl (0,0))) (λd=>if(d.2.2.2.2.2.2.2.2.1 !=0) then dn (.inl (d.2.2.2.2.2.2.2.2.2.1,d.2.2.2.2.2.2.2.2.1))else dn (.inr (d.1,d.2.2.2.2.2.2.2.2.2.2.2.2))) b
noncomputable def as7(q:Nat)(x:ByteArray):Option tM:=ac5 (ai1 q) (cb4 q) (aH q) (kL q) (xT q) (kO q) (qC q) (qU (ai1 q) (cb4 q) (aH q) (kL q) (xT q) (kO q) (qC q) q x) x some
theorem xR(q:Nat):Lw E5 15 j7 du0 (as7 q):=have K:=(kc l5 (gq5 q) (kg (λ_ L=>L.length==1) gg2 (fl9 q) (kc eE (u7 (gF q) λ_=>by kernel_rfl) (kg (λa L=>iA (a.getD 1 .junk)) bu1 (u7 (ay1 q) λ_=>by kernel_rfl) (kg (λa L=>L.length==3) gn6 (u7 (fw3 q) λ_=>by kernel_rfl) (kg (λ_ L=>L.length==1) fr7 (ev2 q) (kc gJ (fs6 q) kn)))))));sl hW5 hX5 K (λx=>(lc 0 (df5 x) (lp2 hX5 (df3 x) 15 0 1792 [(0,768)] 28 K ln q (λc l β=>tA (β:=β) c.1 c.2.1 c.2.2.1 c.2.2.2.1 c.2.2.2.2.1 c.2.2.2.2.2.1 c.2.2.2.2.2.2.1 x) λc l β=>mC (β:=β) c.1 c.2.1 c.2.2.1 c.2.2.2.1 c.2.2.2.2.1 c.2.2.2.2.2.1 c.2.2.2.2.2.2.1 x) ln)) λc l β=>ac5 (β:=β) c.1 c.2.1 c.2.2.1 c.2.2.2.1 c.2.2.2.2.1 c.2.2.2.2.2.1 c.2.2.2.2.2.2.1 l.1
end
section
open Go Go.Am Go.Proofs.Lx
theorem ea0(s:ByteArray)(q:Nat)(hq:5000<q):
 (∃z:d8,ai1 q s=some z/\z.2.1≠0/\∃p:Nat,z.1=(p:Int)/\fP s ([],p,z.2.1))\/
 (∃acc:List Tkn,ai1 q s=some (0,0,uI (acc.length+1) (aA s acc))/\Z4 (acc.length+1) (aA s acc)/\fP s (acc++[am7 s],0,0)):=by
 unfold ai1 dc0 bd7;by_cases hbig:4000<s.size
 ·refine .inl ⟨(4000,2,0,λ_=>0,λ_=>0,λ_=>ByteArray.empty,λ_=>0),?_,by decide,4000,rfl,.inl ⟨hbig,rfl⟩⟩;rw[if_pos (decide_eq_true (show((s.size:Nat):Int)>4000 by omega))];rfl
 ·have hs:s.size<=4000:=by omega
  rw[if_neg (λh=>hbig (by have:=of_decide_eq_true h;omega))];obtain⟨p0,k1,k2⟩:=cd0 q s 0 hs (Nat.zero_le _) (by omega);have hle:=aa2 (s.data.toList.drop 0) false;simp only[List.drop_zero]at hle;have hlen:s.data.toList.length=s.size:=by simp
  obtain⟨z,h1,h2⟩:=fq5 q s hs (by omega) q (0+bO false (s.data.toList.drop 0)) [] (.inl p0) ⟨rfl,k2⟩ (by rw[List.drop_zero];omega) (by omega) (Nat.zero_le _) (λr h=>dt7 s.size 0 (by omega) (Nat.zero_le _) h) (cq2 s.size 0 (by omega) (Nat.zero_le _));have k1':ap1 q (s,(0:Int))=some p0:=k1;rw[k1'];dsimp only[Option.bind_some];rw[h1];dsimp only[Option.bind_some];rcases z with z|z|z
  ·obtain⟨p,g1,g2,g3⟩:=h2;exact .inl ⟨_,rfl,g2,p,g1,.inr ⟨hs,g3⟩⟩
  ·refine .inr ⟨[],?_,bm1 (by simp) (by simp),.inr ⟨hs,h2⟩⟩;rfl
  ·obtain⟨acc,g1,g2,g3,g4⟩:=h2;have hgood:=dy2 g4 (by simp);have hN:=bm1 (s:=s) (acc:=acc) (by omega) (λx hx=>hgood x (List.mem_append_left _ hx));refine .inr ⟨acc,?_,hN,.inr ⟨hs,g4⟩⟩;obtain⟨n,k,a,t,v⟩:=z;dsimp only at g1 g3⊢;subst g1
   have key:∀j,(if j<acc.length then k j else 0)=(aA s acc j).k/\(if j<acc.length then a j else((s.size:Nat):Int))=(aA s acc j).a/\(if j<acc.length then t j else⟨#[]⟩)=(aA s acc j).t/\(if j<acc.length then v j else 0)=(aA s acc j).n:=by
    intro j;unfold aA;by_cases hj:j<acc.length
    ·have e:=List.getElem?_eq_getElem hj;obtain⟨k1,k2,k3,k4⟩:=g3 j _ e;simp only[hj,if_true];rw[List.getD_eq_getElem?_getD,e];exact⟨k1,k4,k2,k3⟩
    ·simp only[hj,if_false];rw[List.getD_eq_getElem?_getD,List.getElem?_eq_none (by omega)];exact⟨rfl,rfl,rfl,rfl⟩
   show Option.map bq1 (if _ then some (Sum.inr _)else none)=_;rw[if_pos ⟨by unfold b6;omega,by unfold maxLen;omega,Nat.le_refl _⟩];show some _=some _;have f1:(λj=>if j<acc.length then k j else 0)=λj=>(aA s acc j).k:=funext λj=>(key j).1;have f2:(λj=>if j<acc.length then a j else((s.size:Nat):Int))=λj=>(aA s acc j).a:=funext λj=>(key j).2.1;have f3:(λj=>if j<acc.length then t j else(⟨#[]⟩:ByteArray))=λj=>(aA s acc j).t:=funext λj=>(key j).2.2.1;have f4:(λj=>if j<acc.length then v j else 0)=λj=>(aA s acc j).n:=funext λj=>(key j).2.2.2;unfold uI;rw[<-f1,<-f2,<-f3,<-f4];rfl
def rst(N:Nat)(T:Nat->Tkn)(p:Nat)(o b l:Int)(nv:Nat)(vs:Nat->ByteArray):SR:=((p:Int),o,b,l,N,λj=>(T j).k,λj=>(T j).a,λj=>(T j).t,λj=>(T j).n,nv,vs)
section
variable {N:Nat} {T:Nat->Tkn} {p:Nat} {o l:Int} {nv:Nat} {vs:Nat->ByteArray}
theorem rA(q:Nat)(e:Int)(hp:p<N):dZ q (e,rst N T p o 0 l nv vs)=some (rst N T p o e (T p).a nv vs):=by
 unfold dZ av6 U9;refine(if_pos (show((0:Int)==0)=true from rfl)).trans ((if_pos (show(0:Int)<=((p:Nat):Int)/\((p:Nat):Int)< ((N:Nat):Int)by omega)).trans ?_);rfl
theorem af0(q:Nat)(e:Int){b:Int}(hb:b≠0):dZ q (e,rst N T p o b l nv vs)=some (rst N T p o b l nv vs):=by
 unfold dZ av6 U9;refine(if_neg (λh=>hb (beq_iff_eq.1 (show(b==0)=true from h)))).trans ?_;rfl
theorem be1(q:Nat)(s:ByteArray)(hp:p<N):ris q (s,rst N T p o 0 l nv vs)=some (decide ((T p).t=s),rst N T p o 0 l nv vs):=by
 unfold ris fi0 U10;refine(if_pos (show((0:Int)==0)=true from rfl)).trans ((if_pos (show(0:Int)<=((p:Nat):Int)/\((p:Nat):Int)< ((N:Nat):Int)by omega)).trans ?_);refine congrArg some (Prod.ext ?_ rfl);rw[Bool.eq_iff_iff,decide_eq_true_iff];exact tl_eq
theorem fc2(q:Nat)(s:ByteArray){b:Int}(hb:b≠0):ris q (s,rst N T p o b l nv vs)=some (false,rst N T p o b l nv vs):=by
 unfold ris fi0 U10;refine(if_neg (λh=>hb (beq_iff_eq.1 (show(b==0)=true from h)))).trans ?_;rfl
theorem bd9(q:Nat)(s:ByteArray)(hp:p<N)(hN:N<=4001)(h:(T p).t=s):dN q (s,rst N T p o 0 l nv vs)=some (true,rst N T (p+1) o 0 l nv vs):=by
 unfold dN aq7;rw[be1 q s hp,decide_eq_true h];dsimp only[Option.bind_some,Bool.not_true];rw[if_neg (by decide)];refine congrArg some (Prod.ext rfl (Prod.ext ?_ rfl));exact o7 (by omega)
theorem dy0(q:Nat)(s:ByteArray)(hp:p<N)(h:(T p).t≠s):dN q (s,rst N T p o 0 l nv vs)=some (false,rst N T p o 0 l nv vs):=by
 unfold dN aq7;rw[be1 q s hp,decide_eq_false h];rfl
theorem lG(q:Nat)(s:ByteArray){b:Int}(hb:b≠0):dN q (s,rst N T p o b l nv vs)=some (false,rst N T p o b l nv vs):=by
 unfold dN aq7;rw[fc2 q s hb];rfl
end
section
variable {N:Nat} {T:Nat->Tkn} {p:Nat} {o l:Int} {nv:Nat} {vs:Nat->ByteArray}
theorem fp4(q:Nat)(s:ByteArray)(hp:p<N)(hN:N<=4001)(h:(T p).t=s):aH q (s,rst N T p o 0 l nv vs)=some (rst N T (p+1) o 0 l nv vs):=by
 unfold aH ap2;rw[bd9 q s hp hN h];rfl
theorem gi9(q:Nat)(s:ByteArray)(hp:p<N)(h:(T p).t≠s):aH q (s,rst N T p o 0 l nv vs)=some (rst N T p o 11 (T p).a nv vs):=by
 unfold aH ap2;rw[dy0 q s hp h];dsimp only[Option.bind_some,Bool.not_false];rw[if_pos (show(!false)=true from rfl),rA q 11 hp];rfl
theorem fo8(q:Nat)(s:ByteArray){b:Int}(hb:b≠0):aH q (s,rst N T p o b l nv vs)=some (rst N T p o b l nv vs):=by
 unfold aH ap2;rw[lG q s hb];dsimp only[Option.bind_some,Bool.not_false];rw[if_pos (show(!false)=true from rfl),af0 q 11 hb];rfl
end
section
variable {N:Nat} {T:Nat->Tkn} {p:Nat} {o l:Int} {nv:Nat} {vs:Nat->ByteArray}
theorem ej2(q:Nat)(s:ByteArray)(hp:p<N)(hN:N<=4001)(h:(T p).t=s)(ho:o<12):bL q (s,rst N T p o 0 l nv vs)=some (rst N T (p+1) (w (o+1)) 0 l nv vs):=by
 unfold bL uS;rw[be1 q s hp,decide_eq_true h];dsimp only[Option.bind_some];refine(if_neg (show¬(!true)=true by decide)).trans ((if_neg (λhh=>by have:=of_decide_eq_true hh;have h2:o>=12:=this;omega)).trans ?_);rw[bd9 q s hp hN h];rfl
theorem dv7(q:Nat)(s:ByteArray)(hp:p<N)(h:(T p).t=s)(ho:12<=o):bL q (s,rst N T p o 0 l nv vs)=some (rst N T p (w (o+1)) 2 (T p).a nv vs):=by
 unfold bL uS;rw[be1 q s hp,decide_eq_true h];dsimp only[Option.bind_some];refine(if_neg (show¬(!true)=true by decide)).trans ((if_pos (decide_eq_true (show o>=12 from ho))).trans ?_);rw[rA q 2 hp];dsimp only[Option.bind_some];rw[lG q s (by decide)];rfl
end
section
variable {N:Nat} {T:Nat->Tkn} {p:Nat} {o l:Int} {nv:Nat} {vs:Nat->ByteArray}
theorem er6(q:Nat)(s:ByteArray){b:Int}(hb:b≠0):bL q (s,rst N T p o b l nv vs)=some (rst N T p (w (o+1)) b l nv vs):=by
 unfold bL uS;rw[fc2 q s hb];dsimp only[Option.bind_some];refine(if_pos (show(!false)=true from rfl)).trans ?_;rw[af0 q 11 hb];dsimp only[Option.bind_some];by_cases ho:o>=12
 ·refine(if_pos (decide_eq_true ho)).trans ?_;rw[af0 q 2 hb];dsimp only[Option.bind_some];rw[lG q s hb];rfl
 ·refine(if_neg (λhh=>ho (of_decide_eq_true hh))).trans ?_;rw[lG q s hb];rfl
end
section
variable {N:Nat} {T:Nat->Tkn} {p:Nat} {o l:Int} {nv:Nat} {vs:Nat->ByteArray}
theorem ft5(q:Nat)(s:ByteArray)(hp:p<N)(h:(T p).t≠s):bL q (s,rst N T p o 0 l nv vs)=some (rst N T p (w (o+1)) 11 (T p).a nv vs):=by
 unfold bL uS;rw[be1 q s hp,decide_eq_false h];dsimp only[Option.bind_some];refine(if_pos (show(!false)=true from rfl)).trans ?_;rw[rA q 11 hp];dsimp only[Option.bind_some];by_cases ho:o>=12
 ·refine(if_pos (decide_eq_true ho)).trans ?_;rw[af0 q 2 (by decide)];dsimp only[Option.bind_some];rw[lG q s (by decide)];rfl
 ·refine(if_neg (λhh=>ho (of_decide_eq_true hh))).trans ?_;rw[lG q s (by decide)];rfl
end
theorem aP(q:Nat)(e:Int)(x:SR)(hb:x.2.2.1≠0):dZ q (e,x)=some x:=by
 unfold dZ av6 U9;exact if_neg (λh=>hb (beq_iff_eq.1 h))
theorem cu0(q:Nat)(lo hi:Int)(x:SR)(hb:x.2.2.1≠0)(hp:(0:Int)<=x.1/\x.1< ((x.2.2.2.2.1:Nat):Int)):eG q (lo,hi,x)=some (0,x):=by
 unfold eG pU U12;dsimp only;rw[if_pos hp];simp only[aP q _ x hb,Option.bind_some,bne_iff_ne,ne_eq,hb,not_false_eq_true,if_true,ite_self]
section
variable {N:Nat} {T:Nat->Tkn} {p:Nat} {o l:Int} {nv:Nat} {vs:Nat->ByteArray}
theorem qS(b:Int)(hp:p<N):(0:Int)<=(rst N T p o b l nv vs).1/\(rst N T p o b l nv vs).1< (((rst N T p o b l nv vs).2.2.2.2.1:Nat):Int):=by
 show(0:Int)<=((p:Nat):Int)/\((p:Nat):Int)< ((N:Nat):Int);omega
theorem cz5(q:Nat)(lo hi:Int)(hp:p<N)(h:(T p).k≠2):eG q (lo,hi,rst N T p o 0 l nv vs)=some (0,rst N T p o 11 (T p).a nv vs):=by
 have hb:(rst N T p o 11 (T p).a nv vs).2.2.1≠0:=by show(11:Int)≠0;decide
 unfold eG pU U12;dsimp only;refine(if_pos (qS 0 hp)).trans ((if_pos (bne_iff_ne.2 (show(T p).k≠2 from h))).trans ?_);rw[rA q 11 hp];simp only[aP q _ _ hb,Option.bind_some,bne_iff_ne,ne_eq,hb,not_false_eq_true,if_true,ite_self]
theorem cg1(q:Nat)(lo hi:Int)(hp:p<N)(h:(T p).k=2)(hr:(T p).n<lo\/hi< (T p).n):eG q (lo,hi,rst N T p o 0 l nv vs)=some (0,rst N T p o 5 (T p).a nv vs):=by
 have hb:(rst N T p o 5 (T p).a nv vs).2.2.1≠0:=by show(5:Int)≠0;decide
 unfold eG pU U12;dsimp only;refine(if_pos (qS 0 hp)).trans ((if_neg (λhh=>bne_iff_ne.1 hh (show(T p).k=2 from h))).trans ?_);rw[rA q 5 hp];by_cases h1:(T p).n<lo
 ·refine(if_pos (decide_eq_true (show(T p).n<lo from h1))).trans ?_;simp only[Option.bind_some,bne_iff_ne,ne_eq,hb,not_false_eq_true,if_true,ite_self]
 ·refine(if_neg (λhh=>h1 (of_decide_eq_true hh))).trans ((if_pos (decide_eq_true (show(T p).n>hi by omega))).trans ?_);simp only[Option.bind_some,bne_iff_ne,ne_eq,hb,not_false_eq_true,if_true,ite_self]
theorem eo2(q:Nat)(lo hi:Int)(hp:p<N)(hN:N<=4001)(h:(T p).k=2)(hr:¬((T p).n<lo\/hi< (T p).n)):eG q (lo,hi,rst N T p o 0 l nv vs)=some ((T p).n,rst N T (p+1) o 0 l nv vs):=by
 unfold eG pU U12;dsimp only;refine(if_pos (qS 0 hp)).trans ((if_neg (λhh=>bne_iff_ne.1 hh (show(T p).k=2 from h))).trans ?_);refine(if_neg (λhh=>hr (.inl (of_decide_eq_true hh)))).trans ((if_neg (λhh=>hr (.inr (of_decide_eq_true hh)))).trans ?_);refine(if_neg (show¬((0:Int)!=0)=true by decide)).trans ?_;refine congrArg some (Prod.ext rfl (Prod.ext ?_ rfl));exact o7 (by omega)
end
theorem cv5(q:Nat)(t:ByteArray):Rs (gQ q t) (λz=>z=Lx.resP t):=by
 have pos_kw:∀{k:ByteArray},t=k->(h:inP keywords k=true:=by decide)->true=Lx.resP t:=by
  intro k e h;rw[e];exact h.symm
 unfold gQ zG;refine Rs.ite (λh=>AJ (pos_kw (tl_eq.1 h))) λc1=>?_;refine Rs.ite (λh=>AJ (pos_kw (tl_eq.1 h))) λc2=>?_;refine Rs.ite (λh=>AJ (pos_kw (tl_eq.1 h))) λc3=>?_;refine Rs.ite (λh=>AJ (pos_kw (tl_eq.1 h))) λc4=>?_;refine Rs.ite (λh=>AJ (pos_kw (tl_eq.1 h))) λc5=>?_;refine Rs.ite (λh=>AJ (pos_kw (tl_eq.1 h))) λc6=>?_;refine Rs.ite (λh=>AJ (pos_kw (tl_eq.1 h))) λc7=>?_;refine Rs.ite (λh=>AJ (pos_kw (tl_eq.1 h))) λc8=>?_;refine Rs.ite (λh=>AJ (pos_kw (tl_eq.1 h))) λc9=>?_;refine Rs.ite (λh=>AJ (pos_kw (tl_eq.1 h))) λc10=>?_;refine Rs.ite (λh=>AJ (pos_kw (tl_eq.1 h))) λc11=>?_;refine Rs.ite (λh=>AJ (pos_kw (tl_eq.1 h))) λc12=>?_;refine Rs.ite (λh=>AJ (pos_kw (tl_eq.1 h))) λc13=>?_;refine Rs.ite (λh=>AJ (pos_kw (tl_eq.1 h))) λc14=>?_;refine Rs.ite (λh=>AJ (pos_kw (tl_eq.1 h))) λc15=>?_;refine Rs.ite (λh=>AJ (pos_kw (tl_eq.1 h))) λc16=>?_;refine Rs.ite (λh=>AJ (pos_kw (tl_eq.1 h))) λc17=>?_;refine Rs.ite (λh=>AJ (pos_kw (tl_eq.1 h))) λc18=>?_;refine Rs.ite (λh=>AJ (pos_kw (tl_eq.1 h))) λc19=>?_;refine AJ ?_;show false=Lx.resP t;symm;rw[Bool.eq_false_iff,Ne,Lx.resP,oS];intro hm;simp only[keywords,List.mem_cons,List.not_mem_nil,or_false]at hm;rcases hm with h|h|h|h|h|h|h|h|h|h|h|h|h|h|h|h|h|h|h<;>first|exact c1 (tl_eq.2 h) |exact c2 (tl_eq.2 h) |exact c3 (tl_eq.2 h) |exact c4 (tl_eq.2 h) |exact c5 (tl_eq.2 h) |exact c6 (tl_eq.2 h) |exact c7 (tl_eq.2 h) |exact c8 (tl_eq.2 h) |exact c9 (tl_eq.2 h) |exact c10 (tl_eq.2 h) |exact c11 (tl_eq.2 h) |exact c12 (tl_eq.2 h) |exact c13 (tl_eq.2 h) |exact c14 (tl_eq.2 h) |exact c15 (tl_eq.2 h) |exact c16 (tl_eq.2 h) |exact c17 (tl_eq.2 h) |exact c18 (tl_eq.2 h) |exact c19 (tl_eq.2 h)
theorem gS(q:Nat)(t:ByteArray):gQ q t=some (Lx.resP t):=by
 obtain⟨z,h,e⟩:=cv5 q t;rw[h,e]
theorem ag8(q:Nat)(t:ByteArray):er4 (q+1) t=some false:=rfl
def XG(N:Nat)(T:Nat->Tkn)(s:PS)(x:SR):Prop:=∃l v,x=rst N T s.p (s.o:Int) 0 l s.vs.length v/\Ag v s.vs/\s.p<N/\s.o<=12/\s.vs.length<=12
def XB(N:Nat)(T:Nat->Tkn)(p:Nat)(c:Int)(x:SR):Prop:=c≠0/\∃p' o nv v,x=rst N T p' o c (T p).a nv v/\p'<N
def PV{ζ α:Type}(N:Nat)(T:Nat->Tkn)(pj:ζ->SR)(R:α->ζ->Prop)(r:PR α)(z:ζ):Prop:=match r with
 | .ok a s=>R a z/\XG N T s (pj z)
 | .err p c=>p<N/\XB N T p c (pj z)
 | .out=>False
section
variable {N:Nat} {T:Nat->Tkn}
theorem PV.seq{ζ ξ α β:Type}{pj:ζ->SR}{R:α->ζ->Prop}{pk:ξ->SR}{S:β->ξ->Prop}{o:Option ζ}{k:ζ->Option ξ}{r:PR α}{f:α->PS->PR β}(h:Rs o (PV N T pj R r))
 (hok:∀a s z,r= .ok a s->R a z->XG N T s (pj z)->Rs (k z) (PV N T pk S (f a s)))
 (hbad:∀p c z,XB N T p c (pj z)->Rs (k z) (λy=>XB N T p c (pk y))):Rs (o.bind k) (PV N T pk S (r.bind f)):=by
 obtain⟨z,rfl,hz⟩:=h;cases r with
 |ok a s=>exact hok a s z rfl hz.1 hz.2
 |err p c=>
  obtain⟨y,h1,h2⟩:=hbad p c z hz.2;exact⟨y,h1,hz.1,h2⟩
 |out=>exact hz.elim
def BH:=@PV.seq
theorem PV.last{ζ ξ α:Type}{pj:ζ->SR}{R:α->ζ->Prop}{pk:ξ->SR}{S:α->ξ->Prop}{o:Option ζ}{k:ζ->Option ξ}{r:PR α}(h:Rs o (PV N T pj R r))
 (hok:∀a s z,r= .ok a s->R a z->XG N T s (pj z)->Rs (k z) (λy=>S a y/\XG N T s (pk y)))
 (hbad:∀p c z,XB N T p c (pj z)->Rs (k z) (λy=>XB N T p c (pk y))):Rs (o.bind k) (PV N T pk S r):=by
 obtain⟨z,rfl,hz⟩:=h;cases r with
 |ok a s=>exact hok a s z rfl hz.1 hz.2
 |err p c=>
  obtain⟨y,h1,h2⟩:=hbad p c z hz.2;exact⟨y,h1,hz.1,h2⟩
 |out=>exact hz.elim
variable {s:PS} {x:SR} {p:Nat} {c:Int}
theorem XB.bad(h:XB N T p c x):x.2.2.1≠0:=by
 obtain⟨h1,p',o,nv,v,rfl,_⟩:=h;exact h1
theorem XB.bounds(h:XB N T p c x):(0:Int)<=x.1/\x.1< ((x.2.2.2.2.1:Nat):Int):=by
 obtain⟨h1,p',o,nv,v,rfl,hp⟩:=h;exact qS c hp
theorem XG.bounds(h:XG N T s x):(0:Int)<=x.1/\x.1< ((x.2.2.2.2.1:Nat):Int):=by
 obtain⟨l,v,rfl,_,hp,_⟩:=h;exact qS 0 hp
theorem XG.good(h:XG N T s x):x.2.2.1=0:=by
 obtain⟨l,v,rfl,_⟩:=h;rfl
theorem XB.opn(h:XB N T p c x)(o:Int):XB N T p c (x.1,o,x.2.2):=by
 obtain⟨h1,p',o',nv,v,rfl,hp⟩:=h;exact⟨h1,p',o,nv,v,rfl,hp⟩
theorem XG.adv(hT:Z4 N T)(h:XG N T s x)(hk:(T s.p).t≠⟨#[]⟩\/(T s.p).k≠0):XG N T (adv s) (w (x.1+1),x.2):=by
 obtain⟨l,v,rfl,h1,h2,h3,h4⟩:=h;refine⟨l,v,?_,h1,hT.lt h2 hk,h3,h4⟩;have:=hT.big;exact Prod.ext (o7 (by omega)) rfl
theorem XG.close(h:XG N T s x)(ho:1<=s.o):XG N T (rI s) (x.1,w (x.2.1-1),x.2.2):=by
 obtain⟨l,v,rfl,h1,h2,h3,h4⟩:=h;refine⟨l,v,?_,h1,h2,(by show s.o-1<=12;omega),h4⟩;refine Prod.ext rfl (Prod.ext ?_ rfl);show w (((s.o:Nat):Int)-1)=((s.o-1:Nat):Int);rw[dJ (by omega) (by omega)];omega
theorem XG.says(h:XG N T s x){c:Int}(hc:c≠0)(q:Nat):Rs (dZ q (c,x)) (XB N T s.p c):=by
 obtain⟨l,v,rfl,h1,h2,h3,h4⟩:=h;exact⟨_,rA q c h2,hc,s.p,_,_,v,rfl,h2⟩
theorem XB.says(h:XB N T p c x)(q:Nat)(e:Int):Rs (dZ q (e,x)) (XB N T p c):=⟨x,aP q e x h.bad,h⟩
theorem aw1(q:Nat)(h:XG N T s x)(b:ByteArray):ris q (b,x)=some (isP T b s,x):=by
 obtain⟨l,v,rfl,h1,h2,h3,h4⟩:=h;exact be1 q b h2
theorem t7(hT:Z4 N T)(q:Nat)(h:XG N T s x)(b:ByteArray):dN q (b,x)=some (isP T b s,if isP T b s then(w (x.1+1),x.2)else x):=by
 obtain⟨l,v,rfl,h1,h2,h3,h4⟩:=h;have:=hT.big;by_cases hb:(T s.p).t=b
 ·have e:isP T b s=true:=decide_eq_true hb;rw[bd9 q b h2 (by omega) hb,e,if_pos rfl];exact congrArg some (Prod.ext rfl (Prod.ext (o7 (by omega)).symm rfl))
 ·have e:isP T b s=false:=decide_eq_false hb;rw[dy0 q b h2 hb,e];rfl
theorem fB(q:Nat)(h:XB N T p c x)(b:ByteArray):dN q (b,x)=some (false,x):=by
 obtain⟨h1,p',o,nv,v,rfl,hp⟩:=h;exact lG q b h1
theorem cV(hT:Z4 N T)(q:Nat)(h:XG N T s x)(b:ByteArray)(hb:b≠⟨#[]⟩):Rs (aH q (b,x)) (PV N T id (λ_ _=>True) (x7 T b s)):=by
 obtain⟨l,v,rfl,h1,h2,h3,h4⟩:=h;have:=hT.big;unfold x7;by_cases e:(T s.p).t=b
 ·rw[if_pos (show isP T b s=true from decide_eq_true e)];refine⟨_,fp4 q b h2 (by omega) e,trivial,l,v,rfl,h1,hT.lt h2 (.inl (by rw[e];exact hb)),h3,h4⟩
 ·rw[if_neg (show¬isP T b s=true from λhh=>e (of_decide_eq_true hh))];exact⟨_,gi9 q b h2 e,h2,by decide,s.p,_,_,v,rfl,h2⟩
theorem bB(q:Nat)(h:XB N T p c x)(b:ByteArray):Rs (aH q (b,x)) (XB N T p c):=by
 obtain⟨h1,p',o,nv,v,rfl,hp⟩:=h;exact⟨_,fo8 q b h1,h1,p',o,nv,v,rfl,hp⟩
end
section
variable {N:Nat} {T:Nat->Tkn} {s:PS} {x:SR} {p:Nat} {c:Int}
theorem PV.err{ξ β:Type}{pk:ξ->SR}{S:β->ξ->Prop}{o:Option ξ}(hp:p<N)(h:Rs o (λy=>XB N T p c (pk y))):Rs o (PV N T pk S (.err p c)):=Rs.mono h λ_ hz=>⟨hp,hz⟩
theorem PV.ok{ξ β:Type}{pk:ξ->SR}{S:β->ξ->Prop}{a:β}{y:ξ}(h:S a y)(g:XG N T s (pk y)):Rs (some y) (PV N T pk S (.ok a s)):=⟨y,rfl,h,g⟩
def BI:=@PV.ok
theorem XG.lt(h:XG N T s x):s.p<N:=by obtain⟨l,v,rfl,h1,h2,h3,h4⟩:=h;exact h2
theorem XG.kind(h:XG N T s x):x.2.2.2.2.2.1 (Int.toNat x.1)=(T s.p).k:=by obtain⟨l,v,rfl,h1,h2,h3,h4⟩:=h;rfl
theorem XG.at_(h:XG N T s x):x.2.2.2.2.2.2.1 (Int.toNat x.1)=(T s.p).a:=by obtain⟨l,v,rfl,h1,h2,h3,h4⟩:=h;rfl
theorem XG.text(h:XG N T s x):x.2.2.2.2.2.2.2.1 (Int.toNat x.1)=(T s.p).t:=by obtain⟨l,v,rfl,h1,h2,h3,h4⟩:=h;rfl
theorem XG.num(h:XG N T s x):x.2.2.2.2.2.2.2.2.1 (Int.toNat x.1)=(T s.p).n:=by obtain⟨l,v,rfl,h1,h2,h3,h4⟩:=h;rfl
theorem ba6(hT:Z4 N T)(q:Nat)(h:XG N T s x)(b:ByteArray)(hb:b≠⟨#[]⟩):Rs (bL q (b,x)) (PV N T id (λ_ _=>True) (fF T b s)):=by
 obtain⟨l,v,rfl,h1,h2,h3,h4⟩:=h;have:=hT.big;unfold fF;by_cases e:(T s.p).t=b
 ·rw[if_pos (show isP T b s=true from decide_eq_true e)];by_cases ho:s.o=12
  ·rw[if_pos ho];exact⟨_,dv7 q b h2 e (by omega),h2,by decide,s.p,_,_,v,rfl,h2⟩
  ·rw[if_neg ho];refine⟨_,ej2 q b h2 (by omega) e (by omega),trivial,l,v,?_,h1,hT.lt h2 (.inl (by rw[e];exact hb)),(by show s.o+1<=12;omega),h4⟩;show rst N T (s.p+1) (w (((s.o:Nat):Int)+1)) 0 l s.vs.length v=_;rw[o7 (by omega)]
 ·rw[if_neg (show¬isP T b s=true from λhh=>e (of_decide_eq_true hh))];exact⟨_,ft5 q b h2 e,h2,by decide,s.p,_,_,v,rfl,h2⟩
theorem fy4(q:Nat)(h:XB N T p c x)(b:ByteArray):Rs (bL q (b,x)) (XB N T p c):=by
 obtain⟨h1,p',o,nv,v,rfl,hp⟩:=h;exact⟨_,er6 q b h1,h1,p',_,nv,v,rfl,hp⟩
theorem vW(hT:Z4 N T)(q:Nat)(h:XG N T s x)(lo hi:Int):Rs (eG q (lo,hi,x)) (PV N T (λz=>z.2) (λa z=>z.1=a) (mH T lo hi s)):=by
 obtain⟨l,v,rfl,h1,h2,h3,h4⟩:=h;have:=hT.big;unfold mH;by_cases e:(T s.p).k≠2
 ·rw[if_pos e];exact⟨_,cz5 q lo hi h2 e,h2,by decide,s.p,_,_,v,rfl,h2⟩
 ·rw[if_neg e];by_cases hr:(T s.p).n<lo\/hi< (T s.p).n
  ·rw[if_pos hr];exact⟨_,cg1 q lo hi h2 (by omega) hr,h2,by decide,s.p,_,_,v,rfl,h2⟩
  ·rw[if_neg hr];exact⟨_,eo2 q lo hi h2 (by omega) (by omega) hr,rfl,l,v,rfl,h1,hT.lt h2 (.inr (by omega)),h3,h4⟩
theorem eo0(q:Nat)(h:XB N T p c x)(lo hi:Int):Rs (eG q (lo,hi,x)) (λz=>XB N T p c z.2):=⟨_,cu0 q lo hi x h.bad h.bounds,h⟩
end
theorem gc6(a:ByteArray)(l:List ByteArray)(t:ByteArray):inP (a::l) t=(decide (a=t)||inP l t):=rfl
theorem ep6{l:List ByteArray}{f:Nat->ByteArray}{t:ByteArray}(hf:Ag f l)(hb:l.length<=4000000000):∀(k i:Nat),i+k=l.length->∀m,k<m->Rs (yQ m (l.length,f,t) ((i:Nat):Int)) (λz=>z=if inP (l.drop i) t then .inl ()else .inr ()):=by
 intro k
 induction k with
 |zero=>
  intro i hi m hm;obtain⟨m,rfl⟩:∃k,m=k+1:=⟨m-1,by omega⟩;unfold yQ;refine AO λQ hQ=>?_;unfold wF;refine AM (λh=>?_) (AJ ?_)
  ·have h2:((i:Nat):Int)< ((l.length:Nat):Int):=of_decide_eq_true h;omega
  ·rw[List.drop_of_length_le (by omega)];rfl
 |succ k ih=>
  intro i hi m hm;obtain⟨m,rfl⟩:∃k,m=k+1:=⟨m-1,by omega⟩;have hl:i<l.length:=by omega
  have hc:inP (l.drop i) t=(decide (l[i]=t)||inP (l.drop (i+1)) t):=by rw[List.drop_eq_getElem_cons hl,gc6]
  have hfi:f i=l[i]:=hf i _ (List.getElem?_eq_getElem hl);rw[hc];unfold yQ;refine AO λQ hQ=>?_;unfold wF;have b1:((i:Nat):Int)< ((l.length:Nat):Int):=by omega
  have b2:(0:Int)<=((i:Nat):Int):=by omega
  refine AL (decide_eq_true b1) (AL ⟨b2,b1⟩ ?_);refine Rs.ite (λh=>AJ ?_) (λh=>AJ ?_)
  ·have e:l[i]=t:=by rw[<-hfi];exact tl_eq.1 h
   show Sum.inl ()=_;rw[decide_eq_true e];rfl
  ·have e:¬l[i]=t:=λe=>h (tl_eq.2 (show f i=t by rw[hfi];exact e));refine hQ _ ?_;rw[decide_eq_false e,Bool.false_or];rw[o7 (by omega)];exact ih (i+1) (by omega) m (by omega)
theorem bp0{l:List ByteArray}{f:Nat->ByteArray}(hf:Ag f l)(hb:l.length<=4000000000)(t:ByteArray)(q:Nat)(hq:l.length<q):dw5 q (l.length,f,t)=some (inP l t):=by
 obtain⟨z,h,e⟩:=ep6 (t:=t) hf hb l.length 0 (by omega) q hq;unfold dw5 dg7;rw[show yQ q (l.length,f,t) (0:Int)=some z from h,e,List.drop_zero];by_cases hi:inP l t=true
 ·rw[if_pos hi,hi];rfl
 ·rw[if_neg hi,Bool.eq_false_iff.2 hi];rfl
theorem gh3(q:Nat)(t:ByteArray):Rs (cm9 q t) (λz=>z.2.2.2.2.2.2=jW t):=by
 unfold cm9 bl7
 repeat' refine Rs.ite (λh=>?_) (λh=>?_)
 all_goals refine AJ ?_
 all_goals simp only[tl_eq]at*
 all_goals first
  | (subst_vars;decide)
  | (show false=jW t;symm;rw[Bool.eq_false_iff,Ne,jW,oS];simp only[eu2,List.mem_cons,List.not_mem_nil,or_false,not_or];refine⟨?_,?_,?_,?_,?_,?_,?_,?_,?_,?_,?_,?_,?_⟩<;>(intro e;subst e;contradiction))
theorem dm6(q:Nat)(k a:Int)(t:ByteArray)(n:Int):zY q (k,a,t,n)=some (decide (k=1)&&jW t):=by
 obtain⟨z,h,e⟩:=gh3 q t;unfold zY dh1;dsimp only;rw[h];dsimp only[Option.bind_some];by_cases hk:k=1
 ·rw[if_pos (show(k==(1:Int))=true from beq_iff_eq.2 hk),e,decide_eq_true hk,Bool.true_and]
 ·rw[if_neg (show¬(k==(1:Int))=true from λhh=>hk (beq_iff_eq.1 hh)),decide_eq_false hk,Bool.false_and]
section
variable {N:Nat} {T:Nat->Tkn} {s:PS} {x:SR} {p:Nat} {c:Int}
theorem ag7(hT:Z4 N T)(q:Nat)(h:XG N T s x):Rs (kL (q+1) (1,x)) (PV N T (λz=>z.2) (λa z=>z.1=a) (aQ T s)):=by
 unfold kL ap5 aQ U10;dsimp only;rw[if_pos h.bounds,h.kind,h.text];by_cases hk:(T s.p).k=1
 ·refine AM (λhh=>bne_iff_ne.1 hh hk) ?_;rw[gS];dsimp only[Option.bind_some];by_cases hr:Lx.resP (T s.p).t=true
  ·rw[if_pos (show _\/_ from .inr hr),if_pos hr];refine PV.err h.lt (AI (h.says (by decide) _) λz hz=>?_);rw[ag8];simp only[aP _ _ _ hz.bad,Option.bind_some,bne_iff_ne,ne_eq,hz.bad,not_false_eq_true,if_true,ite_self,if_false,Bool.false_eq_true];exact AJ hz
  ·rw[if_neg (show¬(_\/_)from λhh=>hh.elim (λe=>e hk) hr),if_neg hr,ag8];dsimp only[Option.bind_some];refine AM (by decide) (AM (λhh=>absurd (show(0:Int)>=1 from of_decide_eq_true hh) (by decide)) (AM (λhh=>bne_iff_ne.1 hh h.good) ?_));exact BI rfl (h.adv hT (.inr (by rw[hk];decide)))
 ·rw[if_pos (show _\/_ from .inl hk)];refine AL (bne_iff_ne.2 hk) (PV.err h.lt (AI (h.says (by decide) _) λz hz=>?_));rw[ag8];simp only[aP _ _ _ hz.bad,Option.bind_some,bne_iff_ne,ne_eq,hz.bad,not_false_eq_true,if_true,ite_self,if_false,Bool.false_eq_true];exact AJ hz
theorem ck8(q:Nat)(h:XB N T p c x)(m:Int):Rs (kL (q+1) (m,x)) (λz=>XB N T p c z.2):=by
 unfold kL ap5 U10;dsimp only;rw[if_pos h.bounds,gS,ag8];simp only[aP _ _ _ h.bad,Option.bind_some,bne_iff_ne,ne_eq,h.bad,not_false_eq_true,if_true,ite_self,if_false,Bool.false_eq_true];exact AJ h
end
end
end Go.Proofs.YtbmbhcheonjigaaGreatDoor
namespace Go.Proofs.Lx
section
def bt9(T:Nat->Tkn)(l:List ByteArray)(s:PS):PR ByteArray:=(aQ T s).bind λx s'=>if inP l x then .err s.p 4 else .ok x s'
def sU(T:Nat->Tkn)(s:PS):PR ByteArray:=(aQ T s).bind λx s'=>if inP s.vs x then .err s.p 4 else if s.vs.length=12 then .err s.p 2 else .ok x s'
theorem dt9{T:Nat->Tkn}{s s':PS}{a:ByteArray}(h:aQ T s= .ok a s'):s'.vs=s.vs/\s'.o=s.o:=by
 unfold aQ at h;split at h
 ·cases h
 ·injection h with h1 h2;rw[<-h2];exact⟨rfl,rfl⟩
theorem dr3(T:Nat->Tkn)(s:PS):kZ T s=(sU T s).bind λx s'=>.ok x {s' with vs:=s'.vs++[x]}:=by
 unfold kZ sU;cases h:aQ T s with
 |ok a s'=>
  dsimp only[PR.bind];by_cases h1:inP s.vs a=true
  ·rw[if_pos h1,if_pos h1]
  ·rw[if_neg h1,if_neg h1];by_cases h2:s.vs.length=12
   ·rw[if_pos h2,if_pos h2]
   ·rw[if_neg h2,if_neg h2];show PR.ok a _=PR.ok a {s' with vs:=s'.vs++[a]};rw[(dt9 h).1]
 |err p c=>rfl
 |out=>rfl
end
end Go.Proofs.Lx
namespace Go.Proofs.YtbmbhcheonjigaaGreatDoor
section
open Go Go.Am Go.Proofs.Lx
section
variable {N:Nat} {T:Nat->Tkn} {s:PS} {x:SR} {p:Nat} {c:Int}
theorem XG.says'(h:XG N T s x){c:Int}(hc:c≠0)(q:Nat):Rs (dZ q (c,x)) (λz=>XB N T s.p c z/\z.2.2.2.2.2.2.2.2.2.1=x.2.2.2.2.2.2.2.2.2.1/\z.2.2.2.2.2.2.2.2.2.2=x.2.2.2.2.2.2.2.2.2.2):=by
 obtain⟨l,v,rfl,h1,h2,h3,h4⟩:=h;exact⟨_,rA q c h2,⟨hc,s.p,_,_,v,rfl,h2⟩,rfl,rfl⟩
theorem XG.names(h:XG N T s x):x.2.2.2.2.2.2.2.2.2.1=s.vs.length/\Ag (λj=>x.2.2.2.2.2.2.2.2.2.2 (0+j)) s.vs/\s.vs.length<=12:=by
 obtain⟨l,v,rfl,h1,h2,h3,h4⟩:=h;exact⟨rfl,λj b hb=>(congrArg v (Nat.zero_add j)).trans (h1 j b hb),h4⟩
theorem PV.err2{ξ β:Type}{pk:ξ->SR}{S:β->ξ->Prop}{D:ξ->Prop}{o:Option ξ}(hp:p<N)(h:Rs o (λy=>XB N T p c (pk y)/\D y)):Rs o (λy=>PV N T pk S (.err p c) y/\D y):=Rs.mono h λ_ hz=>⟨⟨hp,hz.1⟩,hz.2⟩
theorem cj0(hT:Z4 N T)(q:Nat)(hq:12<q)(h:XG N T s x):Rs (qQ q (12,x)) (λz=>PV N T (λz=>z.2) (λa z=>z.1=a) (sU T s) z/\z.2.2.2.2.2.2.2.2.2.2.1=s.vs.length):=by
 obtain⟨n1,n2,n3⟩:=h.names;have ha:=λt=>bp0 n2 (by omega) t q (by omega);unfold qQ cd4 sU aQ U12;dsimp only;rw[if_pos h.bounds,h.kind,h.text,n1];by_cases hk:(T s.p).k=1
 ·refine AM (λhh=>bne_iff_ne.1 hh hk) ?_;rw[gS];dsimp only[Option.bind_some];by_cases hr:Lx.resP (T s.p).t=true
  ·rw[if_pos (show _\/_ from .inr hr),if_pos hr];refine PV.err2 h.lt (AI (h.says' (by decide) _) λz hz=>?_);obtain⟨hz,e1,e2⟩:=hz;rw[e1,e2,n1,ha];refine AL ⟨by omega,rfl⟩ ?_;simp only[aP _ _ _ hz.bad,Option.bind_some,bne_iff_ne,ne_eq,hz.bad,not_false_eq_true,if_true,ite_self,if_false,Bool.false_eq_true];exact AJ ⟨hz,e1.trans n1⟩
  ·rw[if_neg (show¬(_\/_)from λhh=>hh.elim (λe=>e hk) hr),if_neg hr,ha];dsimp only[Option.bind_some,PR.bind];refine AL ⟨by omega,rfl⟩ ?_;by_cases hi:inP s.vs (T s.p).t=true
   ·rw[if_pos hi,if_pos hi];refine PV.err2 h.lt (AI (h.says' (by decide) _) λz hz=>?_);obtain⟨hz,e1,e2⟩:=hz;simp only[aP _ _ _ hz.bad,Option.bind_some,bne_iff_ne,ne_eq,hz.bad,not_false_eq_true,if_true,ite_self,if_false,Bool.false_eq_true];exact AJ ⟨hz,e1.trans n1⟩
   ·rw[if_neg hi,if_neg hi];by_cases hl:s.vs.length=12
    ·rw[if_pos hl];refine AL (decide_eq_true (show((s.vs.length:Nat):Int)>=12 by omega)) (PV.err2 h.lt (AI (h.says' (by decide) _) λz hz=>?_));obtain⟨hz,e1,e2⟩:=hz;simp only[aP _ _ _ hz.bad,Option.bind_some,bne_iff_ne,ne_eq,hz.bad,not_false_eq_true,if_true,ite_self,if_false,Bool.false_eq_true];exact AJ ⟨hz,e1.trans n1⟩
    ·rw[if_neg hl];refine AM (λhh=>by have:((s.vs.length:Nat):Int)>=12:=of_decide_eq_true hh;omega) (AM (λhh=>bne_iff_ne.1 hh h.good) ?_);exact AJ ⟨⟨rfl,h.adv hT (.inr (by rw[hk];decide))⟩,n1⟩
 ·rw[if_pos (show _\/_ from .inl hk)];refine AL (bne_iff_ne.2 hk) (PV.err2 h.lt (AI (h.says' (by decide) _) λz hz=>?_));obtain⟨hz,e1,e2⟩:=hz;rw[e1,e2,n1,ha];refine AL ⟨by omega,rfl⟩ ?_;simp only[aP _ _ _ hz.bad,Option.bind_some,bne_iff_ne,ne_eq,hz.bad,not_false_eq_true,if_true,ite_self,if_false,Bool.false_eq_true];exact AJ ⟨hz,e1.trans n1⟩
theorem fv4(hT:Z4 N T)(q:Nat){l:List ByteArray}{f:Nat->ByteArray}(hf:Ag f l)(hb:l.length<=4000000000)(hq:l.length<q)(h:XG N T s x):Rs (xT q (((l.length:Nat):Int)+1,l.length,f,x)) (λz=>PV N T (λz=>z.2.2.2) (λa z=>z.1=a/\z.2.2.1=f) (bt9 T l s) z/\z.2.1=l.length):=by
 have ha:=λt=>bp0 (f:=λj=>f (0+j)) (λj b hj=>(congrArg f (Nat.zero_add j)).trans (hf j b hj)) hb t q hq;unfold xT aq5 bt9 aQ U12;dsimp only;rw[if_pos h.bounds,h.kind,h.text];by_cases hk:(T s.p).k=1
 ·refine AM (λhh=>bne_iff_ne.1 hh hk) ?_;rw[gS];dsimp only[Option.bind_some];by_cases hr:Lx.resP (T s.p).t=true
  ·rw[if_pos (show _\/_ from .inr hr),if_pos hr];refine PV.err2 h.lt (AI (h.says (by decide) _) λz hz=>?_);rw[ha];refine AL ⟨by omega,rfl⟩ ?_;simp only[aP _ _ _ hz.bad,Option.bind_some,bne_iff_ne,ne_eq,hz.bad,not_false_eq_true,if_true,ite_self,if_false,Bool.false_eq_true];exact AJ ⟨hz,rfl⟩
  ·rw[if_neg (show¬(_\/_)from λhh=>hh.elim (λe=>e hk) hr),if_neg hr,ha];dsimp only[Option.bind_some,PR.bind];refine AL ⟨by omega,rfl⟩ ?_;by_cases hi:inP l (T s.p).t=true
   ·rw[if_pos hi,if_pos hi];refine PV.err2 h.lt (AI (h.says (by decide) _) λz hz=>?_);simp only[aP _ _ _ hz.bad,Option.bind_some,bne_iff_ne,ne_eq,hz.bad,not_false_eq_true,if_true,ite_self,if_false,Bool.false_eq_true];exact AJ ⟨hz,rfl⟩
   ·rw[if_neg hi,if_neg hi];refine AM (λhh=>by have:((l.length:Nat):Int)>=((l.length:Nat):Int)+1:=of_decide_eq_true hh;omega) (AM (λhh=>bne_iff_ne.1 hh h.good) ?_);exact AJ ⟨⟨⟨rfl,rfl⟩,h.adv hT (.inr (by rw[hk];decide))⟩,rfl⟩
 ·rw[if_pos (show _\/_ from .inl hk)];refine AL (bne_iff_ne.2 hk) (PV.err2 h.lt (AI (h.says (by decide) _) λz hz=>?_));rw[ha];refine AL ⟨by omega,rfl⟩ ?_;simp only[aP _ _ _ hz.bad,Option.bind_some,bne_iff_ne,ne_eq,hz.bad,not_false_eq_true,if_true,ite_self,if_false,Bool.false_eq_true];exact AJ ⟨hz,rfl⟩
theorem fv7(q:Nat){l:List ByteArray}{f:Nat->ByteArray}(hf:Ag f l)(hb:l.length<=4000000000)(hq:l.length<q)(h:XB N T p c x)(m:Int):Rs (xT q (m,l.length,f,x)) (λz=>XB N T p c z.2.2.2/\z.2.1=l.length):=by
 have ha:=λt=>bp0 (f:=λj=>f (0+j)) (λj b hj=>(congrArg f (Nat.zero_add j)).trans (hf j b hj)) hb t q hq;unfold xT aq5 U12;dsimp only;rw[if_pos h.bounds,gS,ha];simp only[aP _ _ _ h.bad,Option.bind_some,bne_iff_ne,ne_eq,h.bad,not_false_eq_true,if_true,ite_self,if_false,Bool.false_eq_true,Nat.zero_add,Nat.le_refl,and_self];exact AJ ⟨h,rfl⟩
end
abbrev RN(t:Tr)(z:b5):Prop:=Z7 t (z.1,z.2.1,z.2.2.1,z.2.2.2.1,z.2.2.2.2.1)
abbrev pN(z:b5):SR:=z.2.2.2.2.2
theorem hu2{t:ByteArray}:cF t=1↔t=sOr:=by
 unfold cF;constructor
 ·intro h
  repeat' split at h
  all_goals first|assumption|omega
 ·intro h;rw[h];rfl
theorem hq9{t:ByteArray}:cF t=2↔t=zI:=by
 unfold cF;constructor
 ·intro h
  repeat' split at h
  all_goals first|assumption|omega
 ·intro h;rw[h];rfl
theorem hp9{t:ByteArray}:cF t=4↔t=sLt\/t=sLe\/t=sGt\/t=sGe\/t=sEq\/t=sNe:=by
 unfold cF;constructor
 ·intro h
  repeat' split at h
  all_goals first|assumption|omega
 ·intro h;rcases h with h|h|h|h|h|h<;>(rw[h];rfl)
theorem hq7{t:ByteArray}:cF t=5↔t=dw1\/t=yC:=by
 unfold cF;constructor
 ·intro h
  repeat' split at h
  all_goals first|assumption|omega
 ·intro h;rcases h with h|h<;>(rw[h];rfl)
theorem ht9{t:ByteArray}:cF t=6↔t=do7\/t=ex7:=by
 unfold cF;constructor
 ·intro h
  repeat' split at h
  all_goals first|assumption|omega
 ·intro h;rcases h with h|h<;>(rw[h];rfl)
section
variable {N:Nat} {T:Nat->Tkn} {s:PS} {x:SR} {p:Nat} {c:Int}
theorem nK(hT:Z4 N T)(q:Nat)(h:XG N T s x):Rs (iF q x) (PV N T pN RN (oE T s)):=by
 unfold iF;refine AK (P:=PV N T (λy=>pN (mR y)) (λa y=>RN a (mR y)) (oE T s)) ?_ λz hz=>hz;unfold ab5 rR oE;refine BH (vW hT q h 0 2147483647) (λn s1 z e hr h1=>?_) (λp c z hb=>?_)
 ·have h1:XG N T s1 z.2:=h1;have hr:z.1=n:=hr;refine AL h1.bounds (AL (beq_iff_eq.2 h1.good) ?_);rw[h1.kind,h1.at_,h1.text,h1.num,dm6,hr];dsimp only[Option.bind_some];by_cases hk:(T s1.p).k=1/\jW (T s1.p).t=true
  ·rw[if_pos hk,decide_eq_true hk.1,hk.2];exact AL rfl (BI AQ (h1.adv hT (.inr (by rw[hk.1];decide))))
  ·rw[if_neg hk];refine AM (λhh=>hk ?_) (BI AQ h1);rw[Bool.and_eq_true,decide_eq_true_eq]at hh;exact hh
 ·have hb:XB N T p c z.2:=hb;refine AL hb.bounds (AM (λhh=>hb.bad (beq_iff_eq.1 hh)) ?_);exact AJ hb
theorem sJ(q:Nat)(h:XB N T p c x):Rs (iF q x) (λz=>XB N T p c (pN z)):=by
 unfold iF;refine AK (P:=λy=>XB N T p c (pN (mR y))) ?_ λz hz=>hz;unfold ab5 rR;refine AI (eo0 q h 0 2147483647) λz hb=>?_;refine AL hb.bounds (AM (λhh=>hb.bad (beq_iff_eq.1 hh)) ?_);exact AJ hb
theorem nz1:((1:Nat)=0)=False:=eq_false (by decide)
theorem nz2:((2:Nat)=0)=False:=eq_false (by decide)
theorem nz3:((3:Nat)=0)=False:=eq_false (by decide)
theorem nz4:((4:Nat)=0)=False:=eq_false (by decide)
theorem nz5:((5:Nat)=0)=False:=eq_false (by decide)
theorem fz3(hT:Z4 N T)(q:Nat)(h:XG N T s x):l6 q (1,x)=some (if cF (T s.p).t=1 then((T s.p).t,w (x.1+1),x.2)else(⟨#[]⟩,x)):=by
 unfold l6 bN;rw[show operators q ((1,x):Int×SR).1=some (.inl sOr)from rfl];dsimp only[Option.bind_some,Sum.elim_inl,Sum.elim_inr];by_cases e:cF (T s.p).t=1
 ·rw[if_pos e];rw[hu2]at e;have i0:isP T sOr s=true:=decide_eq_true e;simp only[t7 hT q h,i0,Option.bind_some,if_true,if_false,Bool.false_eq_true,eq_self_iff_true,nz1,nz2,nz3,nz4,nz5];rw[e]
 ·rw[if_neg e];rw[hu2]at e;have i0:isP T sOr s=false:=decide_eq_false e;simp only[t7 hT q h,i0,Option.bind_some,if_true,if_false,Bool.false_eq_true,eq_self_iff_true,nz1,nz2,nz3,nz4,nz5]
theorem cw7(q:Nat)(h:XB N T p c x):l6 q (1,x)=some (⟨#[]⟩,x):=by
 unfold l6 bN;rw[show operators q ((1,x):Int×SR).1=some (.inl sOr)from rfl];simp only[fB q h,Sum.elim_inl,Sum.elim_inr,Option.bind_some,if_true,if_false,Bool.false_eq_true,eq_self_iff_true,nz1,nz2,nz3,nz4,nz5]
theorem fn5(hT:Z4 N T)(q:Nat)(h:XG N T s x):l6 q (2,x)=some (if cF (T s.p).t=2 then((T s.p).t,w (x.1+1),x.2)else(⟨#[]⟩,x)):=by
 unfold l6 bN;rw[show operators q ((2,x):Int×SR).1=some (.inl zI)from rfl];dsimp only[Option.bind_some,Sum.elim_inl,Sum.elim_inr];by_cases e:cF (T s.p).t=2
 ·rw[if_pos e];rw[hq9]at e;have i0:isP T zI s=true:=decide_eq_true e;simp only[t7 hT q h,i0,Option.bind_some,if_true,if_false,Bool.false_eq_true,eq_self_iff_true,nz1,nz2,nz3,nz4,nz5];rw[e]
 ·rw[if_neg e];rw[hq9]at e;have i0:isP T zI s=false:=decide_eq_false e;simp only[t7 hT q h,i0,Option.bind_some,if_true,if_false,Bool.false_eq_true,eq_self_iff_true,nz1,nz2,nz3,nz4,nz5]
theorem dg1(q:Nat)(h:XB N T p c x):l6 q (2,x)=some (⟨#[]⟩,x):=by
 unfold l6 bN;rw[show operators q ((2,x):Int×SR).1=some (.inl zI)from rfl];simp only[fB q h,Sum.elim_inl,Sum.elim_inr,Option.bind_some,if_true,if_false,Bool.false_eq_true,eq_self_iff_true,nz1,nz2,nz3,nz4,nz5]
theorem fz2(hT:Z4 N T)(q:Nat)(h:XG N T s x):l6 q (4,x)=some (if cF (T s.p).t=4 then((T s.p).t,w (x.1+1),x.2)else(⟨#[]⟩,x)):=by
 unfold l6 bN;rw[show operators q ((4,x):Int×SR).1=some (.inr (.inr (sLt,sLe,sGt,sGe,sEq,sNe)))from rfl];dsimp only[Option.bind_some,Sum.elim_inl,Sum.elim_inr];by_cases e:cF (T s.p).t=4
 ·rw[if_pos e];rw[hp9]at e;rcases e with e|e|e|e|e|e
  ·have i0:isP T sLt s=true:=decide_eq_true e;simp only[t7 hT q h,i0,Option.bind_some,if_true,if_false,Bool.false_eq_true,eq_self_iff_true,nz1,nz2,nz3,nz4,nz5];rw[e]
  ·have i0:isP T sLt s=false:=by unfold isP;rw[e];rfl
   have i1:isP T sLe s=true:=decide_eq_true e;simp only[t7 hT q h,i0,i1,Option.bind_some,if_true,if_false,Bool.false_eq_true,eq_self_iff_true,nz1,nz2,nz3,nz4,nz5];rw[e]
  ·have i0:isP T sLt s=false:=by unfold isP;rw[e];rfl
   have i1:isP T sLe s=false:=by unfold isP;rw[e];rfl
   have i2:isP T sGt s=true:=decide_eq_true e;simp only[t7 hT q h,i0,i1,i2,Option.bind_some,if_true,if_false,Bool.false_eq_true,eq_self_iff_true,nz1,nz2,nz3,nz4,nz5];rw[e]
  ·have i0:isP T sLt s=false:=by unfold isP;rw[e];rfl
   have i1:isP T sLe s=false:=by unfold isP;rw[e];rfl
   have i2:isP T sGt s=false:=by unfold isP;rw[e];rfl
   have i3:isP T sGe s=true:=decide_eq_true e;simp only[t7 hT q h,i0,i1,i2,i3,Option.bind_some,if_true,if_false,Bool.false_eq_true,eq_self_iff_true,nz1,nz2,nz3,nz4,nz5];rw[e]
  ·have i0:isP T sLt s=false:=by unfold isP;rw[e];rfl
   have i1:isP T sLe s=false:=by unfold isP;rw[e];rfl
   have i2:isP T sGt s=false:=by unfold isP;rw[e];rfl
   have i3:isP T sGe s=false:=by unfold isP;rw[e];rfl
   have i4:isP T sEq s=true:=decide_eq_true e;simp only[t7 hT q h,i0,i1,i2,i3,i4,Option.bind_some,if_true,if_false,Bool.false_eq_true,eq_self_iff_true,nz1,nz2,nz3,nz4,nz5];rw[e]
  ·have i0:isP T sLt s=false:=by unfold isP;rw[e];rfl
   have i1:isP T sLe s=false:=by unfold isP;rw[e];rfl
   have i2:isP T sGt s=false:=by unfold isP;rw[e];rfl
   have i3:isP T sGe s=false:=by unfold isP;rw[e];rfl
   have i4:isP T sEq s=false:=by unfold isP;rw[e];rfl
   have i5:isP T sNe s=true:=decide_eq_true e;simp only[t7 hT q h,i0,i1,i2,i3,i4,i5,Option.bind_some,if_true,if_false,Bool.false_eq_true,eq_self_iff_true,nz1,nz2,nz3,nz4,nz5];rw[e]
 ·rw[if_neg e];rw[hp9]at e;simp only[not_or]at e;have i0:isP T sLt s=false:=decide_eq_false e.1;have i1:isP T sLe s=false:=decide_eq_false e.2.1;have i2:isP T sGt s=false:=decide_eq_false e.2.2.1;have i3:isP T sGe s=false:=decide_eq_false e.2.2.2.1;have i4:isP T sEq s=false:=decide_eq_false e.2.2.2.2.1;have i5:isP T sNe s=false:=decide_eq_false e.2.2.2.2.2;simp only[t7 hT q h,i0,i1,i2,i3,i4,i5,Option.bind_some,if_true,if_false,Bool.false_eq_true,eq_self_iff_true,nz1,nz2,nz3,nz4,nz5]
theorem da2(q:Nat)(h:XB N T p c x):l6 q (4,x)=some (⟨#[]⟩,x):=by
 unfold l6 bN;rw[show operators q ((4,x):Int×SR).1=some (.inr (.inr (sLt,sLe,sGt,sGe,sEq,sNe)))from rfl];simp only[fB q h,Sum.elim_inl,Sum.elim_inr,Option.bind_some,if_true,if_false,Bool.false_eq_true,eq_self_iff_true,nz1,nz2,nz3,nz4,nz5]
theorem fs8(hT:Z4 N T)(q:Nat)(h:XG N T s x):l6 q (5,x)=some (if cF (T s.p).t=5 then((T s.p).t,w (x.1+1),x.2)else(⟨#[]⟩,x)):=by
 unfold l6 bN;rw[show operators q ((5,x):Int×SR).1=some (.inr (.inl (dw1,yC)))from rfl];dsimp only[Option.bind_some,Sum.elim_inl,Sum.elim_inr];by_cases e:cF (T s.p).t=5
 ·rw[if_pos e];rw[hq7]at e;rcases e with e|e
  ·have i0:isP T dw1 s=true:=decide_eq_true e;simp only[t7 hT q h,i0,Option.bind_some,if_true,if_false,Bool.false_eq_true,eq_self_iff_true,nz1,nz2,nz3,nz4,nz5];rw[e]
  ·have i0:isP T dw1 s=false:=by unfold isP;rw[e];rfl
   have i1:isP T yC s=true:=decide_eq_true e;simp only[t7 hT q h,i0,i1,Option.bind_some,if_true,if_false,Bool.false_eq_true,eq_self_iff_true,nz1,nz2,nz3,nz4,nz5];rw[e]
 ·rw[if_neg e];rw[hq7]at e;simp only[not_or]at e;have i0:isP T dw1 s=false:=decide_eq_false e.1;have i1:isP T yC s=false:=decide_eq_false e.2;simp only[t7 hT q h,i0,i1,Option.bind_some,if_true,if_false,Bool.false_eq_true,eq_self_iff_true,nz1,nz2,nz3,nz4,nz5]
theorem de7(q:Nat)(h:XB N T p c x):l6 q (5,x)=some (⟨#[]⟩,x):=by
 unfold l6 bN;rw[show operators q ((5,x):Int×SR).1=some (.inr (.inl (dw1,yC)))from rfl];simp only[fB q h,Sum.elim_inl,Sum.elim_inr,Option.bind_some,if_true,if_false,Bool.false_eq_true,eq_self_iff_true,nz1,nz2,nz3,nz4,nz5]
theorem fo4(hT:Z4 N T)(q:Nat)(h:XG N T s x):l6 q (6,x)=some (if cF (T s.p).t=6 then((T s.p).t,w (x.1+1),x.2)else(⟨#[]⟩,x)):=by
 unfold l6 bN;rw[show operators q ((6,x):Int×SR).1=some (.inr (.inl (do7,ex7)))from rfl];dsimp only[Option.bind_some,Sum.elim_inl,Sum.elim_inr];by_cases e:cF (T s.p).t=6
 ·rw[if_pos e];rw[ht9]at e;rcases e with e|e
  ·have i0:isP T do7 s=true:=decide_eq_true e;simp only[t7 hT q h,i0,Option.bind_some,if_true,if_false,Bool.false_eq_true,eq_self_iff_true,nz1,nz2,nz3,nz4,nz5];rw[e]
  ·have i0:isP T do7 s=false:=by unfold isP;rw[e];rfl
   have i1:isP T ex7 s=true:=decide_eq_true e;simp only[t7 hT q h,i0,i1,Option.bind_some,if_true,if_false,Bool.false_eq_true,eq_self_iff_true,nz1,nz2,nz3,nz4,nz5];rw[e]
 ·rw[if_neg e];rw[ht9]at e;simp only[not_or]at e;have i0:isP T do7 s=false:=decide_eq_false e.1;have i1:isP T ex7 s=false:=decide_eq_false e.2;simp only[t7 hT q h,i0,i1,Option.bind_some,if_true,if_false,Bool.false_eq_true,eq_self_iff_true,nz1,nz2,nz3,nz4,nz5]
theorem dg9(q:Nat)(h:XB N T p c x):l6 q (6,x)=some (⟨#[]⟩,x):=by
 unfold l6 bN;rw[show operators q ((6,x):Int×SR).1=some (.inr (.inl (do7,ex7)))from rfl];simp only[fB q h,Sum.elim_inl,Sum.elim_inr,Option.bind_some,if_true,if_false,Bool.false_eq_true,eq_self_iff_true,nz1,nz2,nz3,nz4,nz5]
theorem yV(hT:Z4 N T)(q:Nat)(h:XG N T s x)(lv:Nat)(h1:1<=lv)(h2:lv<=6)(h3:lv≠3):l6 q (((lv:Nat):Int),x)=some (if cF (T s.p).t=lv then((T s.p).t,w (x.1+1),x.2)else(⟨#[]⟩,x)):=by
 have:lv=1\/lv=2\/lv=4\/lv=5\/lv=6:=by omega
 rcases this with rfl|rfl|rfl|rfl|rfl
 ·exact fz3 hT q h
 ·exact fn5 hT q h
 ·exact fz2 hT q h
 ·exact fs8 hT q h
 ·exact fo4 hT q h
theorem yH(q:Nat)(h:XB N T p c x)(lv:Nat)(h1:1<=lv)(h2:lv<=6)(h3:lv≠3):l6 q (((lv:Nat):Int),x)=some (⟨#[]⟩,x):=by
 have:lv=1\/lv=2\/lv=4\/lv=5\/lv=6:=by omega
 rcases this with rfl|rfl|rfl|rfl|rfl
 ·exact cw7 q h
 ·exact dg1 q h
 ·exact da2 q h
 ·exact de7 q h
 ·exact dg9 q h
end
abbrev Zr0:Type:=ByteArray×Nat×(Nat->Int)×(Nat->Int)×(Nat->ByteArray)×(Nat->Int)×Int×Int×Int×Int×Nat×(Nat->ByteArray)×n9
abbrev Zr1:Type:=ByteArray×Nat×(Nat->Int)×(Nat->Int)×(Nat->ByteArray)×(Nat->Int)×Int×Int×Int×Int×Nat×(Nat->ByteArray)×ByteArray×Int×Int×ByteArray×Nat×(Nat->List V)×n9
def zr0(op:ByteArray)(x:SR)(a:n9):Zr0:=(op,x.2.2.2.2.1,x.2.2.2.2.2.1,x.2.2.2.2.2.2.1,x.2.2.2.2.2.2.2.1,x.2.2.2.2.2.2.2.2.1,x.1,x.2.1,x.2.2.1,x.2.2.2.1,x.2.2.2.2.2.2.2.2.2.1,x.2.2.2.2.2.2.2.2.2.2,a)
def zr1(op:ByteArray)(x:SR)(o:ByteArray)(a b:n9):Zr1:=(op,x.2.2.2.2.1,x.2.2.2.2.2.1,x.2.2.2.2.2.2.1,x.2.2.2.2.2.2.2.1,x.2.2.2.2.2.2.2.2.1,x.1,x.2.1,x.2.2.1,x.2.2.2.1,x.2.2.2.2.2.2.2.2.2.1,x.2.2.2.2.2.2.2.2.2.2,o,a.1,a.2.1,a.2.2.1,a.2.2.2.1,a.2.2.2.2,b)
def LRq(N:Nat)(T:Nat->Tkn):PR Tr->jJ->Prop
 | .ok t s,.inl z=>∃x n,z=(zr0 ⟨#[]⟩ x n).2/\Z7 t n/\XG N T s x
 | .ok t s,.inr z=>∃x o a b ta tb,z=(zr1 ⟨#[]⟩ x o a b).2/\t= .node 20 0 o [ta,tb]/\Z7 ta a/\Z7 tb b/\XG N T s x
 | .err p c,.inl z=>∃x n,z=(zr0 ⟨#[]⟩ x n).2/\p<N/\XB N T p c x
 | .err p c,.inr z=>∃x o a b,z=(zr1 ⟨#[]⟩ x o a b).2/\p<N/\XB N T p c x
 | .out,_=>False
def LRt(n:Tr)(op:ByteArray)(x:SR):gB->Prop
 | .inl y=>∃a,y=zr0 op x a/\Z7 n a
 | .inr y=>∃o a b ta tb,y=zr1 op x o a b/\n= .node 20 0 o [ta,tb]/\Z7 ta a/\Z7 tb b
section
variable {N:Nat} {T:Nat->Tkn}
def HEq(N:Nat)(T:Nat->Tkn)(f q:Nat):Prop:=∀g,g<=f->∀lv,1<=lv->lv<=7->∀(s:PS) (x:SR),XG N T s x->l9 T g lv s≠ .out->Rs (hY q ((lv:Int),x)) (PV N T pN RN (l9 T g lv s))
theorem cl8(q m:Nat)(c:f8)(x:SR)(a:n9):dS (ris q) (rG q) (hY q) (gN q) (l6 q) (m+1) c (.inl (zr0 ⟨#[]⟩ x a))=some (.inl (zr0 ⟨#[]⟩ x a).2):=by
 refine Rs.eq ?_;unfold dS;refine AO λQ hQ=>?_;rw[Sum.elim_inl];unfold oA U17;exact AM (show¬(!ByteArray.toList {data:=#[]}==ByteArray.toList {data:=#[]})=true by simp) (AJ rfl)
theorem ck1(q m:Nat)(c:f8)(x:SR)(o:ByteArray)(a b:n9):dS (ris q) (rG q) (hY q) (gN q) (l6 q) (m+1) c (.inr (zr1 ⟨#[]⟩ x o a b))=some (.inr (zr1 ⟨#[]⟩ x o a b).2):=by
 refine Rs.eq ?_;unfold dS;refine AO λQ hQ=>?_;rw[Sum.elim_inr];unfold oX U23;exact AM (show¬(!ByteArray.toList {data:=#[]}==ByteArray.toList {data:=#[]})=true by simp) (AJ rfl)
theorem cz4{t:ByteArray}{lv:Nat}(h:cF t=lv)(h1:1<=lv):t≠⟨#[]⟩:=by
 rintro rfl;have:cF ⟨#[]⟩=0:=rfl;omega
theorem dm7{t:ByteArray}{lv:Nat}(h:cF t=lv)(h1:1<=lv):lv<=6/\lv≠3:=by
 unfold cF at h
 repeat' split at h
 all_goals omega
theorem cu1{t:ByteArray}(h:t≠⟨#[]⟩):(!ByteArray.toList t==ByteArray.toList {data:=#[]})=true:=by
 rw[ay4,decide_eq_false h];rfl
theorem dg3{g lv:Nat}{n:Tr}{s:PS}(h:cF (T s.p).t≠lv):dP T (g+1) lv n s= .ok n s:=by
 rw[dP,if_neg (λhh=>h hh.1)]
theorem hi6 (hT : Z4 N T) {f q : Nat} (hE : HEq N T f q) (lv : Nat) (hl1 : 1 <= lv) (c0 : SR) : ∀ (g : Nat), g <= f -> ∀ (m : Nat), g + 1 < m -> ∀ (n : Tr) (s : PS) (x : SR) (y : gB), LRt n (T s.p).t x y -> cF (T s.p).t = lv -> XG N T (adv s) x -> dP T g lv n s ≠ .out ->
 Rs (dS (ris q) (rG q) (hY q) (gN q) (l6 q) m (((lv : Nat) : Int), c0) y) (LRq N T (dP T g lv n s)) := by
 intro g
 induction g with
 | zero => intro _ m _ n s x y _ _ _ ho; exact absurd rfl ho
 | succ g ih =>
  intro hg m hm n s x y hy hlv h ho;obtain ⟨m, rfl⟩ : ∃ k, m = k + 1 := ⟨m - 1, by omega⟩;obtain ⟨hl6, hl3⟩ := dm7 hlv hl1;have hk : (T s.p).k = 3 := Classical.byContradiction λhk => by have := hT.sym _ hk; omega
  have hop : dP T (g + 1) lv n s = (l9 T g (lv + 1) (adv s)).bind λm s' => if lv = 4 then .ok (.node 20 0 (T s.p).t [n, m]) s' else dP T g lv (.node 20 0 (T s.p).t [n, m]) s' := by rw [dP, if_pos ⟨hlv, hk⟩]
  have hne := cu1 (cz4 hlv hl1);rw [hop] at ho ⊢;have key := hE g (by omega) (lv + 1) (by omega) (by omega) (adv s) x h (AT ho);obtain ⟨z, hz1, hz2⟩ := key;have w1 : w (((lv : Nat) : Int) + (1 : Int)) = ((lv + 1 : Nat) : Int) := o7 (by omega)
  -- what the round goes on with
  have fin : ∀ (a : n9) (ha : Z7 n a) (P' : Prop), ((∀ op' (x' : SR), (match l9 T g (lv + 1) (adv s) with | .ok m s' => (lv ≠ 4 /\ cF (T s'.p).t = lv /\ op' = (T s'.p).t /\ XG N T (adv s') x') \/ (op' = ⟨#[]⟩ /\ XG N T s' x' /\ (lv = 4 \/ cF (T s'.p).t ≠ lv)) | .err p c => op' = ⟨#[]⟩ /\ XB N T p c x' | .out => False) ->
   Rs (dS (ris q) (rG q) (hY q) (gN q) (l6 q) m (((lv : Nat) : Int), c0) (.inr (zr1 op' x' (T s.p).t a (z.1, z.2.1, z.2.2.1, z.2.2.2.1, z.2.2.2.2.1)))) (LRq N T ((l9 T g (lv + 1) (adv s)).bind λm s' => if lv = 4 then .ok (.node 20 0 (T s.p).t [n, m]) s' else dP T g lv (.node 20 0 (T s.p).t [n, m]) s'))) -> P') -> P' := by
   intro a ha P' hP;refine hP λop' x' hx => ?_;obtain ⟨m, rfl⟩ : ∃ k, m = k + 1 := ⟨m - 1, by omega⟩;cases e : l9 T g (lv + 1) (adv s) with
   | ok t s' =>
    rw [e] at hx hz2 ho;dsimp only [PR.bind] at hx ho ⊢;rcases hx with ⟨h4, hl', rfl, hx⟩ | ⟨rfl, hx, h4⟩
    ·rw [if_neg h4] at ho ⊢;exact ih (by omega) (m + 1) (by omega) _ s' x' _ ⟨_, a, _, n, t, rfl, rfl, ha, hz2.1⟩ hl' hx ho
    ·refine ⟨_, ck1 q m _ x' _ a _, ?_⟩
     have hr : (if lv = 4 then PR.ok (Tr.node 20 0 (T s.p).t [n, t]) s' else dP T g lv (.node 20 0 (T s.p).t [n, t]) s') = .ok (.node 20 0 (T s.p).t [n, t]) s' := by
      by_cases h5 : lv = 4
      ·rw [if_pos h5]
      ·rw [if_neg h5] at ho ⊢
       obtain ⟨g, rfl⟩ : ∃ k, g = k + 1 := by
        cases g with
        | zero => exact absurd rfl ho
        | succ g => exact ⟨g, rfl⟩
       exact dg3 (h4.resolve_left h5)
     rw [hr];exact ⟨x', _, a, _, n, t, rfl, rfl, ha, hz2.1, hx⟩
   | err p c =>
    rw [e] at hx hz2;obtain ⟨rfl, hx⟩ := hx;exact ⟨_, ck1 q m _ x' _ a _, x', _, a, _, rfl, hz2.1, hx⟩
   | out => rw [e] at hz2; exact hz2.elim
  unfold dS at fin ⊢;refine AO λQ hQ => ?_;rcases y with y | y
  ·obtain ⟨a, rfl, ha⟩ := hy;refine fin a ha _ λfin => ?_;rw [Sum.elim_inl];unfold oA U17;refine AL hne ?_;dsimp only [zr0];rw [w1, show hY q (((lv + 1 : Nat) : Int), x.1, x.2.1, x.2.2.1, x.2.2.2.1, x.2.2.2.2.1, x.2.2.2.2.2.1, x.2.2.2.2.2.2.1, x.2.2.2.2.2.2.2.1, x.2.2.2.2.2.2.2.2.1, x.2.2.2.2.2.2.2.2.2.1, x.2.2.2.2.2.2.2.2.2.2) = some z from hz1];dsimp only [Option.bind_some];cases e : l9 T g (lv + 1) (adv s) with
   | ok t s' =>
    rw [e] at hz2;have hz3 : XG N T s' z.2.2.2.2.2 := hz2.2;by_cases h4 : lv = 4
    ·refine AM (λhh => bne_iff_ne.1 hh (by omega)) (AJ (hQ _ (fin ⟨#[]⟩ z.2.2.2.2.2 ?_)));rw [e];exact .inr ⟨rfl, hz3, .inl h4⟩
    ·refine AL (bne_iff_ne.2 (by omega)) ?_;rw [yV hT q hz3 lv hl1 hl6 hl3];by_cases h5 : cF (T s'.p).t = lv
     ·rw [if_pos h5];refine AJ (hQ _ (fin (T s'.p).t (w (z.2.2.2.2.2.1 + 1), z.2.2.2.2.2.2) ?_));rw [e];exact .inl ⟨h4, h5, rfl, hz3.adv hT (.inl (cz4 h5 hl1))⟩
     ·rw [if_neg h5];refine AJ (hQ _ (fin ⟨#[]⟩ z.2.2.2.2.2 ?_));rw [e];exact .inr ⟨rfl, hz3, .inr h5⟩
   | err p c =>
    rw [e] at hz2;have hz3 : XB N T p c z.2.2.2.2.2 := hz2.2;by_cases h4 : lv = 4
    ·refine AM (λhh => bne_iff_ne.1 hh (by omega)) (AJ (hQ _ (fin ⟨#[]⟩ z.2.2.2.2.2 ?_)));rw [e];exact ⟨rfl, hz3⟩
    ·refine AL (bne_iff_ne.2 (by omega)) ?_;rw [yH q hz3 lv hl1 hl6 hl3];refine AJ (hQ _ (fin ⟨#[]⟩ z.2.2.2.2.2 ?_));rw [e];exact ⟨rfl, hz3⟩
   | out => rw [e] at hz2; exact hz2.elim
  ·obtain ⟨o, a, b, ta, tb, rfl, rfl, ha, hb⟩ := hy;refine fin _ (show Z7 (.node 20 0 o [ta, tb]) (20, 0, o, 2, λj => [i64 (if 0 + j = 0 then a.1 else b.1), i64 (if 0 + j = 0 then a.2.1 else b.2.1), st (if 0 + j = 0 then a.2.2.1 else b.2.2.1), .ro 4 (if 0 + j = 0 then a.2.2.2.1 else b.2.2.2.1) λi => if 0 + j = 0 then a.2.2.2.2 i else b.2.2.2.2 i]) from ?_) _ λfin => ?_
   ·simp only [Z7, n5, List.length_cons, List.length_nil];exact ⟨trivial, trivial, trivial, trivial, ⟨a, rfl, ha⟩, ⟨b, rfl, hb⟩, trivial⟩
   rw [Sum.elim_inr];unfold oX U23;refine AL hne ?_;dsimp only [zr1];rw [w1, show hY q (((lv + 1 : Nat) : Int), x.1, x.2.1, x.2.2.1, x.2.2.2.1, x.2.2.2.2.1, x.2.2.2.2.2.1, x.2.2.2.2.2.2.1, x.2.2.2.2.2.2.2.1, x.2.2.2.2.2.2.2.2.1, x.2.2.2.2.2.2.2.2.2.1, x.2.2.2.2.2.2.2.2.2.2) = some z from hz1];dsimp only [Option.bind_some];cases e : l9 T g (lv + 1) (adv s) with
   | ok t s' =>
    rw [e] at hz2;have hz3 : XG N T s' z.2.2.2.2.2 := hz2.2;by_cases h4 : lv = 4
    ·refine AM (λhh => bne_iff_ne.1 hh (by omega)) (AJ (hQ _ (fin ⟨#[]⟩ z.2.2.2.2.2 ?_)));rw [e];exact .inr ⟨rfl, hz3, .inl h4⟩
    ·refine AL (bne_iff_ne.2 (by omega)) ?_;rw [yV hT q hz3 lv hl1 hl6 hl3];by_cases h5 : cF (T s'.p).t = lv
     ·rw [if_pos h5];refine AJ (hQ _ (fin (T s'.p).t (w (z.2.2.2.2.2.1 + 1), z.2.2.2.2.2.2) ?_));rw [e];exact .inl ⟨h4, h5, rfl, hz3.adv hT (.inl (cz4 h5 hl1))⟩
     ·rw [if_neg h5];refine AJ (hQ _ (fin ⟨#[]⟩ z.2.2.2.2.2 ?_));rw [e];exact .inr ⟨rfl, hz3, .inr h5⟩
   | err p c =>
    rw [e] at hz2;have hz3 : XB N T p c z.2.2.2.2.2 := hz2.2;by_cases h4 : lv = 4
    ·refine AM (λhh => bne_iff_ne.1 hh (by omega)) (AJ (hQ _ (fin ⟨#[]⟩ z.2.2.2.2.2 ?_)));rw [e];exact ⟨rfl, hz3⟩
    ·refine AL (bne_iff_ne.2 (by omega)) ?_;rw [yH q hz3 lv hl1 hl6 hl3];refine AJ (hQ _ (fin ⟨#[]⟩ z.2.2.2.2.2 ?_));rw [e];exact ⟨rfl, hz3⟩
   | out => rw [e] at hz2; exact hz2.elim
end
section
variable {N:Nat} {T:Nat->Tkn} {s:PS} {x:SR} {p:Nat} {c:Int}
def HUq(N:Nat)(T:Nat->Tkn)(f q:Nat):Prop:=∀g,g<=f->∀b:ByteArray,b≠⟨#[]⟩->∀lv,1<=lv->lv<=7->∀(s:PS) (x:SR),XG N T s x->aM T g b lv s≠ .out->Rs (rG q (b,(lv:Int),x)) (PV N T pN RN (aM T g b lv s))
def HPq(N:Nat)(T:Nat->Tkn)(f q:Nat):Prop:=∀g,g<=f->∀(s:PS) (x:SR),XG N T s x->dK T g s≠ .out->Rs (gN q x) (PV N T pN RN (dK T g s))
theorem PV.same{ζ ξ α:Type}{pj:ζ->SR}{R:α->ζ->Prop}{pk:ξ->SR}{S:α->ξ->Prop}{o:Option ζ}{k:ζ->ξ}{r:PR α}(h:Rs o (PV N T pj R r))(hR:∀a z,R a z->S a (k z))(hp:∀z,pk (k z)=pj z):Rs (o.bind λz=>some (k z)) (PV N T pk S r):=
 PV.last h (λa s z e ha hs=>AJ ⟨hR a z ha,by rw[hp];exact hs⟩) (λp c z hb=>AJ (by rw[hp];exact hb))
def BJ:=@PV.same
theorem uD(q:Nat)(h:XB N T p c x)(lv:Int):Rs (hY (q+1) (lv,x)) (λz=>XB N T p c (pN z)):=by
 show Rs ((uY (ris q) (rG q) (hY q) (gN q) (l6 q) (dS (ris q) (rG q) (hY q) (gN q) (l6 q) q (lv,x)) (lv,x) some).map qN) _;refine AK (P:=λy=>XB N T p c (pN (qN y))) ?_ λz hz=>hz;unfold uY;exact AL (bne_iff_ne.2 h.bad) (AJ h)
theorem gg0{f lv:Nat}{r:PR Tr}(h:r≠ .out->f≠0)(hl:lv=3\/lv=7):(r.bind λn s'=>dP T f lv n s')=r:=by
 cases r with
 |ok t s'=>
  obtain⟨f,rfl⟩:∃k,f=k+1:=⟨f-1,by have:=h (λh=>by cases h);omega⟩;refine dg3 (λe=>?_);have:=dm7 e (by omega);omega
 |err p c=>rfl
 |out=>rfl
theorem bu7{f lv:Nat}{s:PS}(h:l9 T f lv s≠ .out):f≠0:=by
 rintro rfl;rw[l9]at h;exact h rfl
theorem ey2(hT:Z4 N T){f q:Nat}(hq:f+1<q)(hE:HEq N T f q)(hU:HUq N T f q)(hP:HPq N T f q)(lv:Nat)(hl1:1<=lv)(hl:lv<=7)(s:PS)(x:SR)(h:XG N T s x)(ho:l9 T (f+1) lv s≠ .out):
 Rs (hY (q+1) (((lv:Nat):Int),x)) (PV N T pN RN (l9 T (f+1) lv s)):=by
 show Rs ((uY (ris q) (rG q) (hY q) (gN q) (l6 q) (dS (ris q) (rG q) (hY q) (gN q) (l6 q) q (((lv:Nat):Int),x)) (((lv:Nat):Int),x) some).map qN) _;refine AK (P:=PV N T (λy=>pN (qN y)) (λa y=>RN a (qN y)) (l9 T (f+1) lv s)) ?_ λz hz=>hz;unfold uY;refine AM (λhh=>bne_iff_ne.1 hh h.good) ?_;dsimp only;have hop:l9 T (f+1) lv s=if lv=3/\isP T bt3 s then aM T f bt3 3 s else if lv=7/\isP T yC s then aM T f yC 7 s else if lv=8 then dK T f s else(l9 T f (lv+1) s).bind λn s'=>dP T f lv n s':=by rw[l9]
 rw[if_neg (show¬lv=8 by omega)]at hop;by_cases h3:lv=3
 ·subst h3;refine AL (by decide) ?_;rw[aw1 q h];dsimp only[Option.bind_some];by_cases hi:isP T bt3 s=true
  ·rw[if_pos ⟨rfl,hi⟩]at hop;rw[hop]at ho⊢;refine AL hi ?_;exact BJ (hU f (Nat.le_refl _) bt3 (by decide) 3 (by decide) (by decide) s x h ho) (λa z h=>h) (λz=>rfl)
  ·rw[if_neg (λh=>hi h.2),if_neg (λh=>by omega),gg0 bu7 (.inl rfl)]at hop;rw[hop]at ho⊢;refine AM hi ?_;exact BJ (hE f (Nat.le_refl _) 4 (by decide) (by decide) s x h ho) (λa z h=>h) (λz=>rfl)
 ·rw[if_neg (λh=>h3 h.1)]at hop;refine AM (λhh=>h3 (by have:=beq_iff_eq.1 hh;omega)) ?_;by_cases h7:lv=7
  ·subst h7;refine AL (by decide) ?_;rw[aw1 q h];dsimp only[Option.bind_some];by_cases hi:isP T yC s=true
   ·rw[if_pos ⟨rfl,hi⟩]at hop;rw[hop]at ho⊢;refine AL hi ?_;exact BJ (hU f (Nat.le_refl _) yC (by decide) 7 (by decide) (by decide) s x h ho) (λa z h=>h) (λz=>rfl)
   ·rw[if_neg (λh=>hi h.2),gg0 bu7 (.inr rfl)]at hop;rw[hop]at ho⊢;refine AM hi ?_;obtain⟨g,rfl⟩:∃k,f=k+1:=⟨f-1,by have:=bu7 ho;omega⟩
    have e8:l9 T (g+1) (7+1) s=dK T g s:=by
     rw[l9,if_neg (λh=>absurd h.1 (by decide)),if_neg (λh=>absurd h.1 (by decide)),if_pos rfl]
    rw[e8]at ho⊢;exact BJ (hP g (by omega) s x h ho) (λa z h=>h) (λz=>rfl)
  ·rw[if_neg (λh=>h7 h.1)]at hop;rw[hop]at ho⊢;refine AM (λhh=>h7 (by have:=beq_iff_eq.1 hh;omega)) ?_;rw[o7 (i:=lv) (by omega)];refine BH (hE f (Nat.le_refl _) (lv+1) (by omega) (by omega) s x h (AT ho)) (λt s1 z e hr h1=>?_) (λp c z hb=>?_)
   ·have h1:XG N T s1 z.2.2.2.2.2:=h1;rw[e]at ho;have ho:dP T f lv t s1≠ .out:=ho;have hf:f≠0:=by rintro rfl;rw[dP]at ho;exact ho rfl
    rw[yV hT q h1 lv hl1 (by omega) h3];dsimp only[Option.bind_some];obtain⟨m,rfl⟩:∃k,q=k+1:=⟨q-1,by omega⟩
    have hfin:Rs (dS (ris (m+1)) (rG (m+1)) (hY (m+1)) (gN (m+1)) (l6 (m+1)) (m+1) (((lv:Nat):Int),x) (.inl (zr0 (if cF (T s1.p).t=lv then((T s1.p).t,w (z.2.2.2.2.2.1+1),z.2.2.2.2.2.2)else(⟨#[]⟩,z.2.2.2.2.2)).1 (if cF (T s1.p).t=lv then((T s1.p).t,w (z.2.2.2.2.2.1+1),z.2.2.2.2.2.2)else(⟨#[]⟩,z.2.2.2.2.2)).2 (z.1,z.2.1,z.2.2.1,z.2.2.2.1,z.2.2.2.2.1)))) (LRq N T (dP T f lv t s1)):=by
     by_cases hl':cF (T s1.p).t=lv
     ·rw[if_pos hl'];exact hi6 hT hE lv hl1 x f (Nat.le_refl _) (m+1) (by omega) t s1 _ _ ⟨_,rfl,hr⟩ hl' (h1.adv hT (.inl (cz4 hl' hl1))) ho
     ·rw[if_neg hl'];refine⟨_,cl8 (m+1) m _ _ _,?_⟩;obtain⟨g,rfl⟩:∃k,f=k+1:=⟨f-1,by omega⟩;rw[dg3 hl'];exact⟨_,_,rfl,hr,h1⟩
    refine AI hfin λy hy=>?_;cases e2:dP T f lv t s1 with
    |out=>exact absurd e2 ho
    |ok a s2=>
     rw[e2]at hy;rcases y with y|y
     ·obtain⟨x',n,rfl,g1,g2⟩:=hy;exact AJ ⟨g1,g2⟩
     ·obtain⟨x',o,na,nb,ta,tb,rfl,rfl,g1,g2,g3⟩:=hy;exact AJ ⟨Z7.k2 g1 g2,g3⟩
    |err p c=>
     rw[e2]at hy;rcases y with y|y
     ·obtain⟨x',n,rfl,g1,g2⟩:=hy;exact AJ ⟨g1,g2⟩
     ·obtain⟨x',o,na,nb,rfl,g1,g2⟩:=hy;exact AJ ⟨g1,g2⟩
   ·have hb:XB N T p c z.2.2.2.2.2:=hb;rw[yH q hb lv hl1 (by omega) h3];dsimp only[Option.bind_some];obtain⟨m,rfl⟩:∃k,q=k+1:=⟨q-1,by omega⟩;refine AI (P:=λy=>y= .inl (zr0 ⟨#[]⟩ z.2.2.2.2.2 (z.1,z.2.1,z.2.2.1,z.2.2.2.1,z.2.2.2.2.1)).2) ⟨_,cl8 (m+1) m _ _ _,rfl⟩ λy hy=>?_;rw[hy];exact AJ hb
theorem dq5(hT:Z4 N T){f q:Nat}(hE:HEq N T f (q+1))(b:ByteArray)(hb:b≠⟨#[]⟩)(lv:Nat)(hl1:1<=lv)(hl:lv<=7)(s:PS)(x:SR)(h:XG N T s x)(ho:aM T (f+1) b lv s≠ .out):
 Rs (rG (q+2) (b,((lv:Nat):Int),x)) (PV N T pN RN (aM T (f+1) b lv s)):=by
 show Rs ((ah5 (bL (q+1)) (hY (q+1)) (b,((lv:Nat):Int),x) some).map uC) _;refine AK (P:=PV N T (λy=>pN (uC y)) (λa y=>RN a (uC y)) (aM T (f+1) b lv s)) ?_ λz hz=>hz;unfold ah5;dsimp only;have hop:aM T (f+1) b lv s=(fF T b s).bind λ_ s1=>(l9 T f lv s1).bind λn s2=>.ok (.node 19 0 b [n]) (rI s2):=by rw[aM]
 rw[hop]at ho⊢;refine BH (ba6 hT (q+1) h b hb) (λu s1 z e _ h1=>?_) (λp c z hb=>?_)
 ·have o1:=kG (T:=T) b s;rw[e]at ho o1;have o1:s1.o=s.o+1:=o1;have ho:(l9 T f lv s1).bind _≠ .out:=ho;refine BH (hE f (Nat.le_refl _) lv hl1 hl s1 z h1 (AT ho)) (λt s2 y e hr h2=>?_) (λp c y hb=>?_)
  ·have o2:=(oO (T:=T) f).1 lv s1;rw[e]at o2;have o2:s2.o=s1.o:=o2;have h2:XG N T s2 y.2.2.2.2.2:=h2;exact BI (AS hr) (h2.close (by omega))
  ·have hb:XB N T p c y.2.2.2.2.2:=hb;exact AJ (hb.opn _)
 ·refine AI (uD q hb _) λy hb=>?_;have hb:XB N T p c y.2.2.2.2.2:=hb;exact AJ (hb.opn _)
theorem ev5(hT:Z4 N T){f q:Nat}(hE:HEq N T f (q+1))(s:PS)(x:SR)(h:XG N T s x)(ho:dK T (f+1) s≠ .out):
 Rs (gN (q+2) x) (PV N T pN RN (dK T (f+1) s)):=by
 show Rs ((sM (iF (q+1)) (dN (q+1)) (aH (q+1)) (kL (q+1)) (ris (q+1)) (bL (q+1)) (hY (q+1)) x some).map nD) _;refine AK (P:=PV N T (λy=>pN (nD y)) (λa y=>RN a (nD y)) (dK T (f+1) s)) ?_ λz hz=>hz;unfold sM U7;refine AL h.bounds ?_;rw[h.kind]
 have hop:dK T (f+1) s=if(T s.p).k=2 then oE T s
  else if isP T bb7 s then .ok (.node 16 1 ⟨#[]⟩ []) (adv s)
  else if isP T ag2 s then .ok (.node 16 0 ⟨#[]⟩ []) (adv s)
  else if isP T cn0 s then(x7 T fw6 (adv s)).bind λ_ s1=>(aQ T s1).bind λx s2=>.ok (.node 18 0 x []) s2
  else if isP T kB s then(fF T kB s).bind λ_ s1=>(l9 T f 1 s1).bind λn s2=>(x7 T dV s2).bind λ_ s3=>.ok n (rI s3)
  else(aQ T s).bind λx s1=>.ok (.node 17 0 x []) s1:=by rw[dK]
 by_cases hk:(T s.p).k=2
 ·rw[if_pos hk]at hop;rw[hop]at ho⊢;refine AL (beq_iff_eq.2 hk) ?_;exact BJ (nK hT (q+1) h) (λa z h=>h) (λz=>rfl)
 ·rw[if_neg hk]at hop;refine AM (λhh=>hk (beq_iff_eq.1 hh)) ?_;rw[t7 hT (q+1) h];dsimp only[Option.bind_some];by_cases h1:isP T bb7 s=true
  ·rw[if_pos h1]at hop;rw[hop]at ho⊢;refine AL h1 ?_;rw[if_pos h1];exact BI AQ (h.adv hT (w8 (by decide) h1))
  ·rw[if_neg h1]at hop;refine AM h1 ?_;rw[if_neg h1,t7 hT (q+1) h];dsimp only[Option.bind_some];by_cases h2:isP T ag2 s=true
   ·rw[if_pos h2]at hop;rw[hop]at ho⊢;refine AL h2 ?_;rw[if_pos h2];exact BI AQ (h.adv hT (w8 (by decide) h2))
   ·rw[if_neg h2]at hop;refine AM h2 ?_;rw[if_neg h2,t7 hT (q+1) h];dsimp only[Option.bind_some];by_cases h3:isP T cn0 s=true
    ·rw[if_pos h3]at hop;rw[hop]at ho⊢;refine AL h3 ?_;rw[if_pos h3];refine BH (cV hT (q+1) (h.adv hT (w8 (by decide) h3)) fw6 (by decide)) (λu s1 z e _ g1=>?_) (λp c z hb=>?_)
     ·refine BH (ag7 hT q g1) (λa s2 y e ha g2=>?_) (λp c y hb=>?_)
      ·have ha:y.1=a:=ha;refine BI ?_ g2;rw[<-ha];exact AQ
      ·exact AJ hb
     ·exact AI (ck8 q hb 1) λy hb=>AJ hb
    ·rw[if_neg h3]at hop;refine AM h3 ?_;rw[if_neg h3,aw1 (q+1) h];dsimp only[Option.bind_some];by_cases h4:isP T kB s=true
     ·rw[if_pos h4]at hop;rw[hop]at ho⊢;refine AL h4 ?_;refine BH (ba6 hT (q+1) h kB (by decide)) (λu s1 z e _ g1=>?_) (λp c z hb=>?_)
      ·have o1:=kG (T:=T) kB s;rw[e]at ho o1;have o1:s1.o=s.o+1:=o1;have ho:(l9 T f 1 s1).bind _≠ .out:=ho;refine BH (hE f (Nat.le_refl _) 1 (by decide) (by decide) s1 z g1 (AT ho)) (λt s2 y e hr g2=>?_) (λp c y hb=>?_)
       ·have o2:=(oO (T:=T) f).1 1 s1;rw[e]at o2;have o2:s2.o=s1.o:=o2;refine BH (cV hT (q+1) g2 dV (by decide)) (λu s3 v e _ g3=>?_) (λp c v hb=>?_)
        ·have o3:=oI (T:=T) dV s2;rw[e]at o3;have o3:s3.o=s2.o:=o3;have g3:XG N T s3 v:=g3;exact BI hr (g3.close (by omega))
        ·have hb:XB N T p c v:=hb;exact AJ (hb.opn _)
       ·refine AI (bB (q+1) hb dV) λv hb=>?_;exact AJ (hb.opn _)
      ·refine AI (uD q hb 1) λy hb=>AI (bB (q+1) hb dV) λv hb=>?_;exact AJ (hb.opn _)
     ·rw[if_neg h4]at hop;rw[hop]at ho⊢;refine AM h4 ?_;refine BH (ag7 hT q h) (λa s2 y e ha g2=>?_) (λp c y hb=>?_)
      ·have ha:y.1=a:=ha;refine BI ?_ g2;rw[<-ha];exact AQ
      ·exact AJ hb
theorem ev7(hT:Z4 N T):∀f q,f+3<=q->HEq N T f q/\HUq N T f q/\HPq N T f q:=by
 intro f
 induction f with
 |zero=>
  intro q _;refine⟨λg hg lv _ _ s x _ ho=>?_,λg hg b _ lv _ _ s x _ ho=>?_,λg hg s x _ ho=>?_⟩
  all_goals
   obtain rfl:g=0:=by omega
  ·rw[l9]at ho;exact absurd rfl ho
  ·rw[aM]at ho;exact absurd rfl ho
  ·rw[dK]at ho;exact absurd rfl ho
 |succ f ih=>
  intro q hq;obtain⟨q,rfl⟩:∃k,q=k+2:=⟨q-2,by omega⟩;obtain⟨a1,a2,a3⟩:=ih (q+2) (by omega);obtain⟨b1,b2,b3⟩:=ih (q+1) (by omega);refine⟨λg hg lv h1 h2 s x h ho=>?_,λg hg b hb lv h1 h2 s x h ho=>?_,λg hg s x h ho=>?_⟩
  ·by_cases e:g<=f
   ·exact a1 g e lv h1 h2 s x h ho
   ·obtain rfl:g=f+1:=by omega
    exact ey2 hT (by omega) b1 b2 b3 lv h1 h2 s x h ho
  ·by_cases e:g<=f
   ·exact a2 g e b hb lv h1 h2 s x h ho
   ·obtain rfl:g=f+1:=by omega
    exact dq5 hT b1 b hb lv h1 h2 s x h ho
  ·by_cases e:g<=f
   ·exact a3 g e s x h ho
   ·obtain rfl:g=f+1:=by omega
    exact ev5 hT b1 s x h ho
end
section
variable {N:Nat} {T:Nat->Tkn} {s:PS} {x:SR} {p:Nat} {c:Int}
theorem ac8(hT:Z4 N T)(q:Nat){t:Tr}{y:n9}(hr:Z7 t y)(h:XG N T s x):Rs (qI q (y.1,y.2.1,y.2.2.1,y.2.2.2.1,y.2.2.2.2,x)) (PV N T pN RN (Lx.endP T t s)):=by
 unfold qI bk5 ae0 Lx.endP U6;exact BH (cV hT q h ai6 (by decide)) (λu s1 z e _ h1=>BI hr h1) (λp c z hb=>AJ hb)
theorem ac4(hT:Z4 N T)(q:Nat){t:Tr}{y:n9}(hr:Z7 t y)(h:XG N T s x):Rs (am2 q (y.1,y.2.1,y.2.2.1,y.2.2.2.1,y.2.2.2.2,x)) (PV N T pN RN (Lx.endP T t s)):=by
 unfold am2 ao2 Lx.endP U6;exact BH (cV hT q h ai6 (by decide)) (λu s1 z e _ h1=>BI hr h1) (λp c z hb=>AJ hb)
theorem fo0(hT:Z4 N T)(q:Nat)(k n:Int)(b:ByteArray)(h:XG N T s x):Rs (bb5 q (k,n,b,x)) (PV N T pN RN (Lx.endP T (.node k n b []) s)):=by
 unfold bb5;refine AK (P:=PV N T (λy=>pN (uF y)) (λa y=>RN a (uF y)) (Lx.endP T (.node k n b []) s)) ?_ λz hz=>hz;unfold bj5 ad8 Lx.endP;exact BH (cV hT q h ai6 (by decide)) (λu s1 z e _ h1=>BI AQ h1) (λp c z hb=>AJ hb)
theorem cM(q:Nat)(y:n9)(h:XB N T p c x):Rs (qI q (y.1,y.2.1,y.2.2.1,y.2.2.2.1,y.2.2.2.2,x)) (λz=>XB N T p c (pN z)):=by
 unfold qI bk5 ae0 U6;exact AI (bB q h ai6) λz hb=>AJ hb
theorem ac3(q:Nat)(y:n9)(h:XB N T p c x):Rs (am2 q (y.1,y.2.1,y.2.2.1,y.2.2.2.1,y.2.2.2.2,x)) (λz=>XB N T p c (pN z)):=by
 unfold am2 ao2 U6;exact AI (bB q h ai6) λz hb=>AJ hb
theorem ft9(q:Nat)(k n:Int)(b:ByteArray)(h:XB N T p c x):Rs (bb5 q (k,n,b,x)) (λz=>XB N T p c (pN z)):=by
 unfold bb5;refine AK (P:=λy=>XB N T p c (pN (uF y))) ?_ λz hz=>hz;unfold bj5 ad8;exact AI (bB q h ai6) λz hb=>AJ hb
theorem Z7.ro1{k n:Int}{b:ByteArray}{a:Tr}{z:b5}(h:RN a z):Z7 (.node k n b [a]) (k,n,b,1,cN [[i64 (z.1),i64 (z.2.1),st (z.2.2.1),V.ro 4 (z.2.2.2.1) (z.2.2.2.2.1)]]):=AS (y:=(z.1,z.2.1,z.2.2.1,z.2.2.2.1,z.2.2.2.2.1)) h
theorem Z7.fn1{k n:Int}{b:ByteArray}{a:Tr}{y:n9}(h:Z7 a y):Z7 (.node k n b [a]) (k,n,b,1,λ_=>[i64 y.1,i64 y.2.1,st y.2.2.1,.ro 4 y.2.2.2.1 y.2.2.2.2]):=by
 simp only[Z7,n5,List.length_cons,List.length_nil];exact⟨trivial,trivial,trivial,trivial,⟨y,rfl,h⟩,trivial⟩
theorem ai0(hT:Z4 N T)(q:Nat)(k:Int)(b:ByteArray)(hb:b≠⟨#[]⟩)(h:XG N T s x):Rs (lE q (k,7,b,x)) (PV N T pN RN (bu8 T k b s)):=by
 unfold lE sK bu8 U4;refine BH (vW hT q h 0 7) (λn s1 z e hn h1=>?_) (λp c z hx=>?_)
 ·have hn:z.1=n:=hn;refine AL (cu1 hb) ?_;refine BH (cV hT q h1 b hb) (λu s2 y e _ h2=>?_) (λp c y hx=>?_)
  ·refine BH (nK hT q h2) (λt s3 v e hr h3=>?_) (λp c v hx=>?_)
   ·rw[<-hn];exact BJ (ac8 hT q (Z7.ro1 hr) h3) (λa z h=>h) (λz=>rfl)
   ·exact AI (cM q (k,z.1,_,1,_) hx) λv hb=>AJ hb
  ·exact AI (sJ q hx) λv hx=>AI (cM q (k,z.1,_,1,_) hx) λv hb=>AJ hb
 ·refine AL (cu1 hb) ?_;exact AI (bB q hx b) λv hx=>AI (sJ q hx) λv hx=>AI (cM q (k,z.1,_,1,_) hx) λv hb=>AJ hb
theorem aj2(hT:Z4 N T)(q:Nat)(k hi:Int)(h:XG N T s x):Rs (lE q (k,hi,⟨#[]⟩,x)) (PV N T pN RN (cb2 T k hi s)):=by
 have hne:¬(!ByteArray.toList {data:=#[]}==ByteArray.toList {data:=#[]})=true:=by simp
 unfold lE sK cb2 U4;refine BH (vW hT q h 0 hi) (λn s1 z e hn h1=>?_) (λp c z hx=>?_)
 ·have hn:z.1=n:=hn;refine AM hne ?_;rw[<-hn];exact BJ (fo0 hT q k z.1 _ h1) (λa z h=>h) (λz=>rfl)
 ·refine AM hne ?_;exact AI (ft9 q k z.1 _ hx) λv hb=>AJ hb
theorem bq5(hT:Z4 N T)(q:Nat)(h:XG N T s x)(b:ByteArray)(hb:b≠⟨#[]⟩)(hi:isP T b s=true):Rs (aH q (b,x)) (XG N T (adv s)):=by
 obtain⟨z,h1,h2⟩:=cV hT q h b hb;unfold x7 at h2;rw[if_pos hi]at h2;exact⟨z,h1,h2.2⟩
end
abbrev Zb0:Type:=Nat×(Nat->Int)×(Nat->Int)×(Nat->ByteArray)×(Nat->Int)×Int×Int×Int×Int×Nat×(Nat->ByteArray)
def rb0(x:SR):Zb0:=(x.2.2.2.2.1,x.2.2.2.2.2.1,x.2.2.2.2.2.2.1,x.2.2.2.2.2.2.2.1,x.2.2.2.2.2.2.2.2.1,x.1,x.2.1,x.2.2.1,x.2.2.2.1,x.2.2.2.2.2.2.2.2.2.1,x.2.2.2.2.2.2.2.2.2.2)
def rba(x:SR)(a:ap8):Nat×(Nat->Int)×(Nat->Int)×(Nat->ByteArray)×(Nat->Int)×Int×Int×Int×Int×Nat×(Nat->ByteArray)×ap8:=(x.2.2.2.2.1,x.2.2.2.2.2.1,x.2.2.2.2.2.2.1,x.2.2.2.2.2.2.2.1,x.2.2.2.2.2.2.2.2.1,x.1,x.2.1,x.2.2.1,x.2.2.2.1,x.2.2.2.2.2.2.2.2.2.1,x.2.2.2.2.2.2.2.2.2.2,a)
def rbb(x:SR)(a:ap8):Nat×(Nat->Int)×(Nat->Int)×(Nat->ByteArray)×(Nat->Int)×Int×Int×Int×Int×Nat×(Nat->ByteArray)×Nat×(Nat->Int)×(Nat->Int)×(Nat->ByteArray)×(Nat->Nat)×(Nat->Nat->List V):=(x.2.2.2.2.1,x.2.2.2.2.2.1,x.2.2.2.2.2.2.1,x.2.2.2.2.2.2.2.1,x.2.2.2.2.2.2.2.2.1,x.1,x.2.1,x.2.2.1,x.2.2.2.1,x.2.2.2.2.2.2.2.2.2.1,x.2.2.2.2.2.2.2.2.2.2,a.2.2.2.2.2,a.1,a.2.1,a.2.2.1,a.2.2.2.1,a.2.2.2.2.1)
def LBr(N:Nat)(T:Nat->Tkn)(acc:List Tr):PR (List Tr)->gR->Prop
 | .ok l s,.inl z=>acc++l=[]/\∃sE x,z=rb0 x/\s=adv sE/\isP T rN sE=true/\XG N T sE x
 | .ok l s,.inr z=>∃sE x a,z=rbb x a/\s=adv sE/\isP T rN sE=true/\X7 (acc++l) a/\XG N T sE x
 | .err p c,.inl z=>∃x,z=rb0 x/\p<N/\XB N T p c x
 | .err p c,.inr z=>∃x a,z=rbb x a/\p<N/\XB N T p c x
 | .out,_=>False
def BSr(acc:List Tr)(x:SR):eN->Prop
 | .inl y=>acc=[]/\y=rb0 x
 | .inr y=>∃a,y=rba x a/\X7 acc a
section
variable {N:Nat} {T:Nat->Tkn} {p:Nat} {c:Int}
def HSq(N:Nat)(T:Nat->Tkn)(f q:Nat):Prop:=∀g,g<=f->∀(s:PS) (x:SR),XG N T s x->m9 T g s≠ .out->Rs (dD q x) (PV N T pN RN (m9 T g s))
def HBq(N:Nat)(T:Nat->Tkn)(f q:Nat):Prop:=∀g,g<=f->∀(s:PS) (x:SR),XG N T s x->t8 T g s≠ .out->Rs (qC q x) (PV N T pN RN (t8 T g s))
theorem cb5(q m:Nat)(c0:SR)(x:SR)(h:x.2.2.1≠0):dH (bL q) (ris q) (aH q) (dD q) (m+1) c0 (.inl (rb0 x))=some (.inl (rb0 x)):=by
 refine Rs.eq ?_;unfold dH;refine AO λQ hQ=>?_;rw[Sum.elim_inl];unfold lR U10;exact AM (λhh=>h (beq_iff_eq.1 hh)) (AJ rfl)
theorem el3(q m:Nat)(c0:SR)(x:SR)(a:ap8)(h:x.2.2.1≠0):dH (bL q) (ris q) (aH q) (dD q) (m+1) c0 (.inr (rba x a))=some (.inr (rbb x a)):=by
 refine Rs.eq ?_;unfold dH;refine AO λQ hQ=>?_;rw[Sum.elim_inr];unfold lU U17;exact AM (λhh=>h (beq_iff_eq.1 hh)) (AJ rfl)
theorem gk2 (hT : Z4 N T) {f q : Nat} (hS : HSq N T f q) (c0 : SR) : ∀ (g : Nat), g <= f -> ∀ (m : Nat), g + 1 < m -> ∀ (acc : List Tr) (s : PS) (x : SR) (y : eN), BSr acc x y -> acc.length + g <= 1000000000 -> XG N T s x -> s8 T g s ≠ .out ->
 Rs (dH (bL q) (ris q) (aH q) (dD q) m c0 y) (LBr N T acc (s8 T g s)) := by
 intro g
 induction g with
 | zero => intro _ m _ acc s x y _ _ _ ho; rw [s8] at ho; exact absurd rfl ho
 | succ g ih =>
  intro hg m hm acc s x y hy hb h ho;obtain ⟨m, rfl⟩ : ∃ k, m = k + 2 := ⟨m - 2, by omega⟩;have hop : s8 T (g + 1) s = if isP T rN s = true then .ok [] (adv s) else (m9 T g s).bind λn s1 => (s8 T g s1).bind λl s2 => .ok (n :: l) s2 := by rw [s8]
  rw [hop] at ho ⊢
  -- what the next round answers
  have next : ¬ isP T rN s = true -> ∀ (z : b5) (a : ap8), PV N T pN RN (m9 T g s) z -> (∀ t, RN t z -> X7 (acc ++ [t]) a) -> Rs (dH (bL q) (ris q) (aH q) (dD q) (m + 1) c0 (.inr (rba z.2.2.2.2.2 a))) (LBr N T acc (if isP T rN s = true then .ok [] (adv s) else (m9 T g s).bind λn s1 => (s8 T g s1).bind λl s2 => .ok (n :: l) s2)) := by
   intro hi z a hz ha;rw [if_neg hi] at ho ⊢;cases e : m9 T g s with
   | out => rw [e] at hz; exact hz.elim
   | err p c =>
    rw [e] at hz;exact ⟨_, el3 q m c0 _ a hz.2.bad, _, a, rfl, hz.1, hz.2⟩
   | ok t s1 =>
    rw [e] at hz ho;have ho2 : s8 T g s1 ≠ .out := AT (show (s8 T g s1).bind _ ≠ .out from ho);show Rs _ (LBr N T acc ((s8 T g s1).bind λl s2 => .ok (t :: l) s2));refine (ih (by omega) (m + 1) (by omega) (acc ++ [t]) s1 z.2.2.2.2.2 (.inr (rba z.2.2.2.2.2 a)) ⟨a, rfl, ha t hz.1⟩ (by simp; omega) hz.2 ho2).mono λv hv => ?_;cases e2 : s8 T g s1 with
    | out => exact absurd e2 ho2
    | err p c => rw [e2] at hv; rcases v with v | v <;> exact hv
    | ok l s3 =>
     rw [e2] at hv;rcases v with v | v
     ·exact absurd hv.1 (by simp)
     ·rw [show LBr N T (acc ++ [t]) (.ok l s3) (.inr v) = ∃ sE x a, v = rbb x a /\ s3 = adv sE /\ isP T rN sE = true /\ X7 ((acc ++ [t]) ++ l) a /\ XG N T sE x from rfl, List.append_assoc] at hv;exact hv
  unfold dH at next ⊢
  refine AO λQ hQ => ?_;rcases y with y | y
  ·obtain ⟨rfl, rfl⟩ := hy;rw [Sum.elim_inl];unfold lR U10;dsimp only [rb0];refine AL (beq_iff_eq.2 h.good) (AI (P := λz => z = (isP T rN s, x)) (AN (aw1 q h rN)) λz hz => ?_);subst hz;by_cases hi : isP T rN s = true
   ·refine AM (λhh => by rw [hi] at hh; cases hh) (AJ ?_);rw [if_pos hi];exact ⟨rfl, s, x, rfl, rfl, hi, h⟩
   ·refine AL (by rw [Bool.eq_false_iff.2 hi]; rfl) ?_;have ho1 : m9 T g s ≠ .out := by rw [if_neg hi] at ho; exact AT ho
    refine AI (hS g (by omega) s x h ho1) λz hz => AJ (hQ _ ?_);exact next hi z (hm3 (z.1, z.2.1, z.2.2.1, z.2.2.2.1, z.2.2.2.2.1)) hz λt ht => dq6 ht
  ·obtain ⟨a, rfl, ha⟩ := hy;rw [Sum.elim_inr];unfold lU U17;dsimp only [rba];refine AL (beq_iff_eq.2 h.good) (AI (P := λz => z = (isP T rN s, x)) (AN (aw1 q h rN)) λz hz => ?_);subst hz;by_cases hi : isP T rN s = true
   ·refine AM (λhh => by rw [hi] at hh; cases hh) (AJ ?_);rw [if_pos hi];exact ⟨s, x, a, rfl, rfl, hi, by rw [List.append_nil]; exact ha, h⟩
   ·refine AL (by rw [Bool.eq_false_iff.2 hi]; rfl) ?_;have ho1 : m9 T g s ≠ .out := by rw [if_neg hi] at ho; exact AT ho
    refine AI (hS g (by omega) s x h ho1) λz hz => ?_;have hal := ha.1;refine AL ⟨by unfold b6; omega, by unfold maxLen; omega, Nat.le_refl _⟩ (AJ (hQ _ ?_));exact next hi z (fn4 a (z.1, z.2.1, z.2.2.1, z.2.2.2.1, z.2.2.2.2.1)) hz λt ht => ec1 ha ht
theorem ah4(q:Nat){x:SR}(h:XB N T p c x):Rs (qC (q+2) x) (λz=>XB N T p c (pN z)):=by
 show Rs ((pM (bL (q+1)) (ris (q+1)) (aH (q+1)) (dD (q+1)) (dH (bL (q+1)) (ris (q+1)) (aH (q+1)) (dD (q+1)) (q+1) x) x some).map lD) _;refine AK (P:=λy=>XB N T p c (pN (lD y))) ?_ λz hz=>hz;unfold pM;refine AI (fy4 (q+1) h ct2) λz hz=>?_;refine AI (P:=λy=>y= .inl (rb0 z)) (AN (cb5 (q+1) q x z hz.bad)) λy hy=>?_;subst hy;dsimp only[Sum.elim_inl];refine AI (bB (q+1) hz rN) λv hb=>?_;exact AJ (hb.opn _)
theorem dj4(hT:Z4 N T){f q:Nat}(hq:f<q)(hf:f<=1000000000)(hS:HSq N T f (q+1)){s:PS}{x:SR}(h:XG N T s x)(ho:t8 T (f+1) s≠ .out):Rs (qC (q+2) x) (PV N T pN RN (t8 T (f+1) s)):=by
 show Rs ((pM (bL (q+1)) (ris (q+1)) (aH (q+1)) (dD (q+1)) (dH (bL (q+1)) (ris (q+1)) (aH (q+1)) (dD (q+1)) (q+1) x) x some).map lD) _;refine AK (P:=PV N T (λy=>pN (lD y)) (λa y=>RN a (lD y)) (t8 T (f+1) s)) ?_ λz hz=>hz;unfold pM;have hop:t8 T (f+1) s=(fF T ct2 s).bind λ_ s1=>(s8 T f s1).bind λl s2=>.ok (.node 14 0 ⟨#[]⟩ l) (rI s2):=by rw[t8]
 rw[hop]at ho⊢;refine BH (ba6 hT (q+1) h ct2 (by decide)) (λu s1 z e _ h1=>?_) (λp c z hz=>?_)
 ·have o1:=kG (T:=T) ct2 s;rw[e]at ho o1;have o1:s1.o=s.o+1:=o1;have ho2:s8 T f s1≠ .out:=AT (show(s8 T f s1).bind _≠ .out from ho);have o2:=(fg4 (T:=T) f).2.1 s1;refine AI (gk2 hT hS x f (Nat.le_refl _) (q+1) (by omega) [] s1 z (.inl (rb0 z)) ⟨rfl,rfl⟩ (by simpa using hf) h1 ho2) λy hy=>?_;cases e2:s8 T f s1 with
  |out=>exact absurd e2 ho2
  |ok l s2=>
   rw[e2]at hy o2;have o2:s2.o=s1.o:=o2;rcases y with y|y
   ·obtain⟨hl,sE,v,rfl,rfl,hi,g⟩:=hy;rw[List.nil_append]at hl;subst hl;dsimp only[Sum.elim_inl,PR.bind];refine AI (bq5 hT (q+1) g rN (by decide) hi) λv hb=>?_;exact BI AQ (hb.close (by omega))
   ·obtain⟨sE,v,a,rfl,rfl,hi,ha,g⟩:=hy;rw[List.nil_append]at ha;dsimp only[Sum.elim_inr,PR.bind];refine AI (bq5 hT (q+1) g rN (by decide) hi) λv hb=>?_;exact BI ha.node (hb.close (by omega))
  |err p c=>
   rw[e2]at hy;dsimp only[PR.bind];rcases y with y|y
   ·obtain⟨v,rfl,hp,hb⟩:=hy;refine PV.err hp ?_;exact AI (bB (q+1) hb rN) λv hb=>AJ (hb.opn _)
   ·obtain⟨v,a,rfl,hp,hb⟩:=hy;refine PV.err hp ?_;exact AI (bB (q+1) hb rN) λv hb=>AJ (hb.opn _)
 ·refine AI (P:=λy=>y= .inl (rb0 z)) (AN (cb5 (q+1) q x z hz.bad)) λy hy=>?_;subst hy;dsimp only[Sum.elim_inl];refine AI (bB (q+1) hz rN) λv hb=>?_;exact AJ (hb.opn _)
end
section
variable {N:Nat} {T:Nat->Tkn} {s:PS} {x:SR} {p:Nat} {c:Int}
theorem aa0(q:Nat)(y:au6):one q y=some y:=rfl
theorem iO{b:ByteArray}(h:(T s.p).t=b):isP T b s=true:=decide_eq_true h
theorem iS{b:ByteArray}(h:(T s.p).t≠b):¬isP T b s=true:=λhh=>h (of_decide_eq_true hh)
theorem f7{a b:ByteArray}(h:(T s.p).t=a)(hab:a≠b):¬isP T b s=true:=λhh=>hab (h.symm.trans (of_decide_eq_true hh))
theorem ga4(f:Nat)(e:(T s.p).t=bo5):m9 T (f+1) s=(kZ T (adv s)).bind λx s1=>ba1 T f 1 x s1:=by
 rw[m9,if_pos (iO e)]
theorem ha2(f:Nat)(e:(T s.p).t=ex2):m9 T (f+1) s=brQ T f (adv s):=by
 rw[m9,if_neg (f7 e (by decide)),if_pos (iO e)];rfl
theorem dn6(f:Nat)(e:(T s.p).t=qD):m9 T (f+1) s=ej7 T f (adv s):=by
 rw[m9,if_neg (f7 e (by decide)),if_neg (f7 e (by decide)),if_pos (iO e)];rfl
theorem eo5(f:Nat)(e:(T s.p).t=wX):m9 T (f+1) s=an3 T f (adv s):=by
 rw[m9,if_neg (f7 e (by decide)),if_neg (f7 e (by decide)),if_neg (f7 e (by decide)),if_pos (iO e)]
theorem fp2(f:Nat)(e:(T s.p).t=am9):m9 T (f+1) s=bz0 T 5 (adv s):=by
 rw[m9,if_neg (f7 e (by decide)),if_neg (f7 e (by decide)),if_neg (f7 e (by decide)),if_neg (f7 e (by decide)),if_pos (iO e)]
theorem fu5(f:Nat)(e:(T s.p).t=tC):m9 T (f+1) s=bz0 T 11 (adv s):=by
 rw[m9,if_neg (f7 e (by decide)),if_neg (f7 e (by decide)),if_neg (f7 e (by decide)),if_neg (f7 e (by decide)),if_neg (f7 e (by decide)),if_pos (iO e)]
theorem di3(f:Nat)(e:(T s.p).t=lF):m9 T (f+1) s=Lx.oneP T f 7 (adv s):=by
 rw[m9,if_neg (f7 e (by decide)),if_neg (f7 e (by decide)),if_neg (f7 e (by decide)),if_neg (f7 e (by decide)),if_neg (f7 e (by decide)),if_neg (f7 e (by decide)),if_pos (iO e)]
theorem ej5(f:Nat)(e:(T s.p).t=mA):m9 T (f+1) s=Lx.oneP T f 8 (adv s):=by
 rw[m9,if_neg (f7 e (by decide)),if_neg (f7 e (by decide)),if_neg (f7 e (by decide)),if_neg (f7 e (by decide)),if_neg (f7 e (by decide)),if_neg (f7 e (by decide)),if_neg (f7 e (by decide)),if_pos (iO e)]
theorem gl6(f:Nat)(e:(T s.p).t=ar8):m9 T (f+1) s=bu8 T 9 bf7 (adv s):=by
 rw[m9,if_neg (f7 e (by decide)),if_neg (f7 e (by decide)),if_neg (f7 e (by decide)),if_neg (f7 e (by decide)),if_neg (f7 e (by decide)),if_neg (f7 e (by decide)),if_neg (f7 e (by decide)),if_neg (f7 e (by decide)),if_pos (iO e)]
theorem fw8(f:Nat)(e:(T s.p).t=aj4):m9 T (f+1) s=bu8 T 10 bM (adv s):=by
 rw[m9,if_neg (f7 e (by decide)),if_neg (f7 e (by decide)),if_neg (f7 e (by decide)),if_neg (f7 e (by decide)),if_neg (f7 e (by decide)),if_neg (f7 e (by decide)),if_neg (f7 e (by decide)),if_neg (f7 e (by decide)),if_neg (f7 e (by decide)),if_pos (iO e)]
theorem fu6(f:Nat)(e:(T s.p).t=xU):m9 T (f+1) s=cb2 T 12 99 (adv s):=by
 rw[m9,if_neg (f7 e (by decide)),if_neg (f7 e (by decide)),if_neg (f7 e (by decide)),if_neg (f7 e (by decide)),if_neg (f7 e (by decide)),if_neg (f7 e (by decide)),if_neg (f7 e (by decide)),if_neg (f7 e (by decide)),if_neg (f7 e (by decide)),if_neg (f7 e (by decide)),if_pos (iO e)]
theorem eh0(f:Nat)(e:(T s.p).t=nZ):m9 T (f+1) s=cb2 T 13 999 (adv s):=by
 rw[m9,if_neg (f7 e (by decide)),if_neg (f7 e (by decide)),if_neg (f7 e (by decide)),if_neg (f7 e (by decide)),if_neg (f7 e (by decide)),if_neg (f7 e (by decide)),if_neg (f7 e (by decide)),if_neg (f7 e (by decide)),if_neg (f7 e (by decide)),if_neg (f7 e (by decide)),if_neg (f7 e (by decide)),if_pos (iO e)]
theorem fe2(f:Nat)(e0:(T s.p).t≠bo5)(e1:(T s.p).t≠ex2)(e2:(T s.p).t≠qD)(e3:(T s.p).t≠wX)(e4:(T s.p).t≠am9)(e5:(T s.p).t≠tC)(e6:(T s.p).t≠lF)(e7:(T s.p).t≠mA)(e8:(T s.p).t≠ar8)(e9:(T s.p).t≠aj4)(e10:(T s.p).t≠xU)(e11:(T s.p).t≠nZ):m9 T (f+1) s=(aQ T s).bind λx s1=>ba1 T f 2 x s1:=by
 rw[m9,if_neg (iS e0),if_neg (iS e1),if_neg (iS e2),if_neg (iS e3),if_neg (iS e4),if_neg (iS e5),if_neg (iS e6),if_neg (iS e7),if_neg (iS e8),if_neg (iS e9),if_neg (iS e10),if_neg (iS e11)]
theorem XG.push(h:XG N T s x)(hl:s.vs.length<12)(a:ByteArray):XG N T {s with vs:=s.vs++[a]} (x.1,x.2.1,x.2.2.1,x.2.2.2.1,x.2.2.2.2.1,x.2.2.2.2.2.1,x.2.2.2.2.2.2.1,x.2.2.2.2.2.2.2.1,x.2.2.2.2.2.2.2.2.1,x.2.2.2.2.2.2.2.2.2.1+1,λj=>if j<x.2.2.2.2.2.2.2.2.2.1 then x.2.2.2.2.2.2.2.2.2.2 j else a):=by
 obtain⟨l,v,rfl,h1,h2,h3,h4⟩:=h;refine⟨l,_,?_,h1.push (x:=a),h2,h3,?_⟩
 ·show _=rst N T s.p _ 0 l (s.vs++[a]).length _;rw[List.length_append];rfl
 ·show(s.vs++[a]).length<=12;rw[List.length_append,List.length_singleton];omega
theorem XB.push(h:XB N T p c x)(n:Nat)(v:Nat->ByteArray):XB N T p c (x.1,x.2.1,x.2.2.1,x.2.2.2.1,x.2.2.2.2.1,x.2.2.2.2.2.1,x.2.2.2.2.2.2.1,x.2.2.2.2.2.2.2.1,x.2.2.2.2.2.2.2.2.1,n,v):=by
 obtain⟨h1,p',o,nv,v',rfl,hp⟩:=h;exact⟨h1,p',o,n,v,rfl,hp⟩
theorem bh2{a:ByteArray}{s':PS}(hl:s.vs.length<=12)(h:sU T s= .ok a s'):s'.vs=s.vs/\s'.vs.length<12:=by
 unfold sU at h;cases e:aQ T s with
 |ok b s1=>
  rw[e]at h;dsimp only[PR.bind]at h;obtain⟨e1,e2⟩:=dt9 e;split at h
  ·cases h
  ·split at h
   ·cases h
   ·rename_i hne;injection h with h1 h2;rw[<-h2,e1];exact⟨rfl,by omega⟩
 |err p c=>rw[e]at h;cases h
 |out=>rw[e]at h;cases h
theorem ap4(hT:Z4 N T){f q:Nat}(hq:20<=q)(hE:HEq N T f (q+1))(hB:HBq N T f (q+1))(h:XG N T s x)(hk:(T s.p).k=1)(hres:Lx.resP (T s.p).t=true)(ho:m9 T (f+1) s≠ .out):
 Rs (dj0 (q+2) ((T s.p).t,x)) (PV N T pN RN (m9 T (f+1) s)):=by
 show Rs ((vX (qQ (q+1)) (aH (q+1)) (hY (q+1)) (qC (q+1)) (dN (q+1)) (eG (q+1)) (iF (q+1)) (one (q+1)) (lE (q+1)) (qI (q+1)) (am2 (q+1)) (dZ (q+1)) ((T s.p).t,x) some).map jB) _;refine AK (P:=PV N T (λy=>pN (jB y)) (λa y=>RN a (jB y)) (m9 T (f+1) s)) ?_ λz hz=>hz;obtain⟨q',rfl⟩:∃k,q=k+1:=⟨q-1,by omega⟩;unfold vX U3;by_cases e:(T s.p).t=bo5
 ·refine AL (tl_eq.2 e) ?_;rw[ga4 f e]at ho⊢;have hp:=h.adv hT (.inl (by rw[e];decide))
  have e0:((kZ T (adv s)).bind λx s1=>ba1 T f 1 x s1)=(sU T (adv s)).bind λa s1=>(x7 T am6 {s1 with vs:=s1.vs++[a]}).bind λ_ s2=>(l9 T f 1 s2).bind λn s3=>Lx.endP T (.node 1 0 a [n]) s3:=by
   rw[dr3,AX];rfl
  rw[e0]at ho⊢;obtain⟨z,hz1,hz2,hz3⟩:=cj0 hT (q'+2) (by omega) hp;have hl:(adv s).vs.length<=12:=hp.names.2.2;rw[hz1];dsimp only[Option.bind_some];refine AL ⟨by rw[hz3];unfold b6;omega,by rw[hz3];unfold maxLen;omega,Nat.le_refl _⟩ ?_;cases e1:sU T (adv s)with
  |out=>rw[e1]at hz2;exact hz2.elim
  |err p c=>
   rw[e1]at hz2;refine PV.err hz2.1 ?_;have hb:XB N T p c z.2:=hz2.2;exact AI (bB (q'+2) (hb.push _ _) am6) λv hb=>AI (uD (q'+1) hb 1) λv hb=>AI (cM (q'+2) (1,0,z.1,1,_) hb) λv hb=>AJ hb
  |ok a s1=>
   rw[e1]at hz2 ho;have ha:z.1=a:=hz2.1;have hg:XG N T s1 z.2:=hz2.2;obtain⟨r1,r2⟩:=bh2 hl e1;have hg2:=hg.push r2 z.1;rw[ha]at hg2;dsimp only[PR.bind]at ho⊢;rw[ha];refine BH (cV hT (q'+2) hg2 am6 (by decide)) (λu s2 y e2 _ h2=>?_) (λp c y hb=>?_)
   ·rw[e2]at ho;refine BH (hE f (Nat.le_refl _) 1 (by decide) (by decide) s2 y h2 (AT (show(l9 T f 1 s2).bind _≠ .out from ho))) (λt s3 v e3 hr h3=>?_) (λp c v hb=>?_)
    ·exact BJ (ac8 hT (q'+2) (Z7.ro1 hr) h3) (λa z h=>h) (λz=>rfl)
    ·exact AI (cM (q'+2) (1,0,_,1,_) hb) λv hb=>AJ hb
   ·exact AI (uD (q'+1) hb 1) λv hb=>AI (cM (q'+2) (1,0,_,1,_) hb) λv hb=>AJ hb
 have e0:=e;clear e;refine AM (λhh=>e0 (tl_eq.1 hh)) ?_;by_cases e:(T s.p).t=ex2
 ·refine AL (tl_eq.2 e) ?_;rw[ha2 f e]at ho⊢;have hp:=h.adv hT (.inl (by rw[e];decide));unfold brQ at ho⊢;refine BH (hE f (Nat.le_refl _) 1 (by decide) (by decide) _ _ hp (AT ho)) (λt1 s1 z1 e1 hr1 h1=>?_) (λp c z1 hb=>?_)
  ·rw[e1]at ho;dsimp only[PR.bind]at ho;refine BH (hB f (Nat.le_refl _) s1 _ h1 (AT ho)) (λt2 s2 z2 e2 hr2 h2=>?_) (λp c z2 hb=>?_)
   ·rw[e2]at ho;dsimp only[PR.bind]at ho;have h2:XG N T s2 z2.2.2.2.2.2:=h2;rw[t7 hT (q'+2) h2];dsimp only[Option.bind_some];by_cases hi:isP T ax0 s2=true
    ·rw[if_pos hi]at ho;refine AL hi ?_;rw[if_pos hi,if_pos hi];refine BH (hB f (Nat.le_refl _) (adv s2) _ (h2.adv hT (w8 (by decide) hi)) (AT ho)) (λt3 s3 z3 e3 hr3 h3=>?_) (λp c z3 hb=>AJ hb);refine BI ?_ h3;simp only[RN,Z7,n5,List.length_cons,List.length_nil,jB,Sum.elim_inl,Sum.elim_inr];exact⟨trivial,trivial,trivial,trivial,⟨(z1.1,z1.2.1,z1.2.2.1,z1.2.2.2.1,z1.2.2.2.2.1),rfl,hr1⟩,⟨(z2.1,z2.2.1,z2.2.2.1,z2.2.2.2.1,z2.2.2.2.2.1),rfl,hr2⟩,⟨(z3.1,z3.2.1,z3.2.2.1,z3.2.2.2.1,z3.2.2.2.2.1),rfl,hr3⟩,trivial⟩
    ·rw[if_neg hi]at ho;refine AM hi ?_;rw[if_neg hi,if_neg hi];refine BI ?_ h2;simp only[RN,Z7,n5,List.length_cons,List.length_nil,jB,Sum.elim_inl,Sum.elim_inr];exact⟨trivial,trivial,trivial,trivial,⟨(z1.1,z1.2.1,z1.2.2.1,z1.2.2.2.1,z1.2.2.2.2.1),rfl,hr1⟩,⟨(z2.1,z2.2.1,z2.2.2.1,z2.2.2.2.1,z2.2.2.2.2.1),rfl,hr2⟩,⟨(14,0,⟨#[]⟩,0,λ_=>[]),rfl,by simp⟩,trivial⟩
   ·rw[fB (q'+2) hb];dsimp only[Option.bind_some];exact AM (λhh=>by cases hh) (AJ hb)
  ·refine AI (ah4 q' hb) λz2 hb=>?_;rw[fB (q'+2) hb];dsimp only[Option.bind_some];exact AM (λhh=>by cases hh) (AJ hb)
 have e1:=e;clear e;refine AM (λhh=>e1 (tl_eq.1 hh)) ?_;by_cases e:(T s.p).t=qD
 ·refine AL (tl_eq.2 e) ?_;rw[dn6 f e]at ho⊢;have hp:=h.adv hT (.inl (by rw[e];decide));unfold ej7 at ho⊢;refine BH (vW hT (q'+2) hp 1 100) (λn s1 z e1 hn h1=>?_) (λp c z hb=>?_)
  ·rw[e1]at ho;dsimp only[PR.bind]at ho;have hn:z.1=n:=hn;refine BH (hB f (Nat.le_refl _) s1 _ h1 (AT ho)) (λt2 s2 z2 e2 hr2 h2=>?_) (λp c z2 hb=>AJ hb);rw[<-hn];exact BI (Z7.ro1 hr2) h2
  ·exact AI (ah4 q' hb) λz2 hb=>AJ hb
 have e2:=e;clear e;refine AM (λhh=>e2 (tl_eq.1 hh)) ?_;by_cases e:(T s.p).t=am9
 ·refine AL (tl_eq.2 e) ?_;rw[fp2 f e]at ho⊢;have hp:=h.adv hT (.inl (by rw[e];decide));unfold bz0;refine BH (nK hT (q'+2) hp) (λt s1 z e1 hr h1=>?_) (λp c z hb=>?_)
  ·rw[aa0];dsimp only[Option.bind_some];exact BJ (ac4 hT (q'+2) (y:=(5,0,⟨#[]⟩,1,_)) (Z7.fn1 (y:=(z.1,z.2.1,z.2.2.1,z.2.2.2.1,z.2.2.2.2.1)) hr) h1) (λa z h=>h) (λz=>rfl)
  ·rw[aa0];dsimp only[Option.bind_some];exact AI (ac3 (q'+2) (5,0,_,1,_) hb) λv hb=>AJ hb
 have e3:=e;clear e;refine AM (λhh=>e3 (tl_eq.1 hh)) ?_;by_cases e:(T s.p).t=wX
 ·refine AL (tl_eq.2 e) ?_;rw[eo5 f e]at ho⊢;have hp:=h.adv hT (.inl (by rw[e];decide));unfold an3 at ho⊢;refine BH (hE f (Nat.le_refl _) 1 (by decide) (by decide) _ _ hp (AT ho)) (λt s1 z e1 hr h1=>?_) (λp c z hb=>?_)
  ·refine BH (cV hT (q'+2) h1 mV (by decide)) (λu s2 y e2 _ h2=>?_) (λp c y hb=>?_)
   ·refine BH (nK hT (q'+2) h2) (λt2 s3 v e3 hr2 h3=>?_) (λp c v hb=>?_)
    ·exact BJ (ac8 hT (q'+2) (y:=(6,0,⟨#[]⟩,2,_)) (Z7.k2 (y:=(z.1,z.2.1,z.2.2.1,z.2.2.2.1,z.2.2.2.2.1)) (z:=(v.1,v.2.1,v.2.2.1,v.2.2.2.1,v.2.2.2.2.1)) hr hr2) h3) (λa z h=>h) (λz=>rfl)
    ·exact AI (cM (q'+2) (6,0,_,2,_) hb) λv hb=>AJ hb
   ·exact AI (sJ (q'+2) hb) λv hb=>AI (cM (q'+2) (6,0,_,2,_) hb) λv hb=>AJ hb
  ·exact AI (bB (q'+2) hb mV) λv hb=>AI (sJ (q'+2) hb) λv hb=>AI (cM (q'+2) (6,0,_,2,_) hb) λv hb=>AJ hb
 have e4:=e;clear e;refine AM (λhh=>e4 (tl_eq.1 hh)) ?_;by_cases e:(T s.p).t=lF
 ·refine AL (tl_eq.2 e) ?_;rw[di3 f e]at ho⊢;have hp:=h.adv hT (.inl (by rw[e];decide));unfold Lx.oneP at ho⊢;refine BH (hE f (Nat.le_refl _) 1 (by decide) (by decide) _ _ hp (AT ho)) (λt s1 z e1 hr h1=>?_) (λp c z hb=>?_)
  ·rw[aa0];dsimp only[Option.bind_some];exact BJ (ac4 hT (q'+2) (y:=(7,0,⟨#[]⟩,1,_)) (Z7.fn1 (y:=(z.1,z.2.1,z.2.2.1,z.2.2.2.1,z.2.2.2.2.1)) hr) h1) (λa z h=>h) (λz=>rfl)
  ·rw[aa0];dsimp only[Option.bind_some];exact AI (ac3 (q'+2) (7,0,_,1,_) hb) λv hb=>AJ hb
 have e5:=e;clear e;refine AM (λhh=>e5 (tl_eq.1 hh)) ?_;by_cases e:(T s.p).t=mA
 ·refine AL (tl_eq.2 e) ?_;rw[ej5 f e]at ho⊢;have hp:=h.adv hT (.inl (by rw[e];decide));unfold Lx.oneP at ho⊢;refine BH (hE f (Nat.le_refl _) 1 (by decide) (by decide) _ _ hp (AT ho)) (λt s1 z e1 hr h1=>?_) (λp c z hb=>?_)
  ·rw[aa0];dsimp only[Option.bind_some];exact BJ (ac4 hT (q'+2) (y:=(8,0,⟨#[]⟩,1,_)) (Z7.fn1 (y:=(z.1,z.2.1,z.2.2.1,z.2.2.2.1,z.2.2.2.2.1)) hr) h1) (λa z h=>h) (λz=>rfl)
  ·rw[aa0];dsimp only[Option.bind_some];exact AI (ac3 (q'+2) (8,0,_,1,_) hb) λv hb=>AJ hb
 have e6:=e;clear e;refine AM (λhh=>e6 (tl_eq.1 hh)) ?_;by_cases e:(T s.p).t=ar8
 ·refine AL (tl_eq.2 e) ?_;rw[gl6 f e]at ho⊢;have hp:=h.adv hT (.inl (by rw[e];decide));exact BJ (ai0 hT (q'+2) 9 bf7 (by decide) hp) (λa z h=>h) (λz=>rfl)
 have e7:=e;clear e;refine AM (λhh=>e7 (tl_eq.1 hh)) ?_;by_cases e:(T s.p).t=aj4
 ·refine AL (tl_eq.2 e) ?_;rw[fw8 f e]at ho⊢;have hp:=h.adv hT (.inl (by rw[e];decide));exact BJ (ai0 hT (q'+2) 10 bM (by decide) hp) (λa z h=>h) (λz=>rfl)
 have e8:=e;clear e;refine AM (λhh=>e8 (tl_eq.1 hh)) ?_;by_cases e:(T s.p).t=tC
 ·refine AL (tl_eq.2 e) ?_;rw[fu5 f e]at ho⊢;have hp:=h.adv hT (.inl (by rw[e];decide));unfold bz0;refine BH (nK hT (q'+2) hp) (λt s1 z e1 hr h1=>?_) (λp c z hb=>?_)
  ·rw[aa0];dsimp only[Option.bind_some];exact BJ (ac4 hT (q'+2) (y:=(11,0,⟨#[]⟩,1,_)) (Z7.fn1 (y:=(z.1,z.2.1,z.2.2.1,z.2.2.2.1,z.2.2.2.2.1)) hr) h1) (λa z h=>h) (λz=>rfl)
  ·rw[aa0];dsimp only[Option.bind_some];exact AI (ac3 (q'+2) (11,0,_,1,_) hb) λv hb=>AJ hb
 have e9:=e;clear e;refine AM (λhh=>e9 (tl_eq.1 hh)) ?_;by_cases e:(T s.p).t=xU
 ·refine AL (tl_eq.2 e) ?_;rw[fu6 f e]at ho⊢;have hp:=h.adv hT (.inl (by rw[e];decide));exact BJ (aj2 hT (q'+2) 12 99 hp) (λa z h=>h) (λz=>rfl)
 have e10:=e;clear e;refine AM (λhh=>e10 (tl_eq.1 hh)) ?_;by_cases e:(T s.p).t=nZ
 ·refine AL (tl_eq.2 e) ?_;rw[eh0 f e]at ho⊢;have hp:=h.adv hT (.inl (by rw[e];decide));exact BJ (aj2 hT (q'+2) 13 999 hp) (λa z h=>h) (λz=>rfl)
 have e11:=e;clear e;refine AM (λhh=>e11 (tl_eq.1 hh)) ?_;rw[fe2 f e0 e1 e2 e4 e3 e9 e5 e6 e7 e8 e10 e11];have hn:aQ T s= .err s.p 11:=if_pos (.inr hres);rw[hn];exact PV.err h.lt (AI (h.says (by decide) _) λz hz=>AJ hz)
end
section
variable {N:Nat} {T:Nat->Tkn} {p:Nat} {c:Int}
def fo3(N:Nat)(T:Nat->Tkn):Prop:=∀j,j<N->Lx.resP (T j).t=true->(T j).k=1
def HWq(N:Nat)(T:Nat->Tkn)(f q:Nat):Prop:=∀g,g<=f->∀(s:PS) (x:SR),XG N T s x->(T s.p).k=1->Lx.resP (T s.p).t=true->m9 T g s≠ .out->Rs (dj0 q ((T s.p).t,x)) (PV N T pN RN (m9 T g s))
theorem bi1(hT:Z4 N T)(hK:fo3 N T){f q:Nat}(hE:HEq N T f (q+1))(hW:HWq N T (f+1) (q+1)){s:PS}{x:SR}(h:XG N T s x)(ho:m9 T (f+1) s≠ .out):
 Rs (dD (q+2) x) (PV N T pN RN (m9 T (f+1) s)):=by
 show Rs ((lP (gQ (q+1)) (dj0 (q+1)) (kL (q+1)) (aH (q+1)) (hY (q+1)) (qI (q+1)) x some).map dC) _;refine AK (P:=PV N T (λy=>pN (dC y)) (λa y=>RN a (dC y)) (m9 T (f+1) s)) ?_ λz hz=>hz;unfold lP U9;refine AL h.bounds (AL h.bounds ?_);rw[h.kind,h.text,gS];dsimp only[Option.bind_some]
 have plain:¬Lx.resP (T s.p).t=true->m9 T (f+1) s≠ .out->Rs ((kL (q+1) (1,x)).bind λz27=>(aH (q+1) ({data:=#[(61:UInt8)]},z27.2)).bind λz40=>(hY (q+1) (1,z40)).bind λz53=>
  (qI (q+1) (2,0,z27.1,1,cN [[i64 (z53.1),i64 (z53.2.1),st (z53.2.2.1),V.ro 4 (z53.2.2.2.1) (z53.2.2.2.2.1)]],z53.2.2.2.2.2)).bind λz70=>some z70) (PV N T (λy=>pN (dC y)) (λa y=>RN a (dC y)) (m9 T (f+1) s)):=by
  intro hr ho;have ne:∀{b:ByteArray},Lx.resP b=true->(T s.p).t≠b:=λhb e=>hr (by rw[e];exact hb);rw[fe2 f (ne rfl) (ne rfl) (ne rfl) (ne rfl) (ne rfl) (ne rfl) (ne rfl) (ne rfl) (ne rfl) (ne rfl) (ne rfl) (ne rfl)]at ho⊢;refine BH (ag7 hT q h) (λa s1 z e ha h1=>?_) (λp c z hb=>?_)
  ·have ha:z.1=a:=ha;rw[e]at ho;have ho:(x7 T am6 s1).bind _≠ .out:=ho;unfold ba1;refine BH (cV hT (q+1) h1 am6 (by decide)) (λu s2 y e2 _ h2=>?_) (λp c y hb=>?_)
   ·rw[e2]at ho;refine BH (hE f (Nat.le_refl _) 1 (by decide) (by decide) s2 y h2 (AT (show(l9 T f 1 s2).bind _≠ .out from ho))) (λt s3 v e3 hr h3=>?_) (λp c v hb=>?_)
    ·rw[<-ha];exact BJ (ac8 hT (q+1) (Z7.ro1 hr) h3) (λa z h=>h) (λz=>rfl)
    ·exact AI (cM (q+1) (2,0,_,1,_) hb) λv hb=>AJ hb
   ·exact AI (uD q hb 1) λv hb=>AI (cM (q+1) (2,0,_,1,_) hb) λv hb=>AJ hb
  ·exact AI (bB (q+1) hb am6) λv hb=>AI (uD q hb 1) λv hb=>AI (cM (q+1) (2,0,_,1,_) hb) λv hb=>AJ hb
 by_cases hk:(T s.p).k=1
 ·refine AL (beq_iff_eq.2 hk) ?_;by_cases hr:Lx.resP (T s.p).t=true
  ·refine AL hr ?_;exact BJ (hW (f+1) (Nat.le_refl _) s x h hk hr ho) (λa z h=>h) (λz=>rfl)
  ·refine AM hr ?_;exact plain hr ho
 ·refine AM (λhh=>hk (beq_iff_eq.1 hh)) ?_;exact plain (λhr=>hk (hK s.p h.lt hr)) ho
theorem hg6(hT:Z4 N T)(hK:fo3 N T):∀f,f<=1000000000->∀q,2*f+26<=q->HSq N T f q/\HBq N T f q/\HWq N T f q:=by
 intro f
 induction f with
 |zero=>
  intro _ q _;refine⟨λg hg s x _ ho=>?_,λg hg s x _ ho=>?_,λg hg s x _ _ _ ho=>?_⟩
  all_goals
   obtain rfl:g=0:=by omega
  ·rw[m9]at ho;exact absurd rfl ho
  ·rw[t8]at ho;exact absurd rfl ho
  ·rw[m9]at ho;exact absurd rfl ho
 |succ f ih=>
  intro hf q hq;obtain⟨q,rfl⟩:∃k,q=k+3:=⟨q-3,by omega⟩;obtain⟨a1,a2,a3⟩:=ih (by omega) (q+3) (by omega);obtain⟨b1,b2,b3⟩:=ih (by omega) (q+2) (by omega);obtain⟨c1,c2,c3⟩:=ih (by omega) (q+1) (by omega)
  have w1:HWq N T (f+1) (q+2):=λg hg s x h hk hr ho=>by
   by_cases e:g<=f
   ·exact b3 g e s x h hk hr ho
   ·obtain rfl:g=f+1:=by omega
    exact ap4 hT (by omega) (ev7 hT f (q+1) (by omega)).1 c2 h hk hr ho
  refine⟨λg hg s x h ho=>?_,λg hg s x h ho=>?_,λg hg s x h hk hr ho=>?_⟩
  ·by_cases e:g<=f
   ·exact a1 g e s x h ho
   ·obtain rfl:g=f+1:=by omega
    exact bi1 hT hK (ev7 hT f (q+2) (by omega)).1 w1 h ho
  ·by_cases e:g<=f
   ·exact a2 g e s x h ho
   ·obtain rfl:g=f+1:=by omega
    exact dj4 hT (by omega) (by omega) b1 h ho
  ·by_cases e:g<=f
   ·exact a3 g e s x h hk hr ho
   ·obtain rfl:g=f+1:=by omega
    exact ap4 hT (by omega) (ev7 hT f (q+2) (by omega)).1 b2 h hk hr ho
end
noncomputable def ha4{β:Type}(q:Nat)(x:SR)(k:ByteArray->ByteArray->SR->Option β):Option β:=
 (qQ q (12,x)).bind λa=>
  if(a.2.2.2.2.2.2.2.2.2.2.1+1)*16<=b6/\a.2.2.2.2.2.2.2.2.2.2.1+1<=maxLen/\a.2.2.2.2.2.2.2.2.2.2.1<=a.2.2.2.2.2.2.2.2.2.2.1 then
   (dN q (vY,(a.2.1,a.2.2.1,a.2.2.2.1,a.2.2.2.2.1,a.2.2.2.2.2.1,a.2.2.2.2.2.2.1,a.2.2.2.2.2.2.2.1,a.2.2.2.2.2.2.2.2.1,a.2.2.2.2.2.2.2.2.2.1,a.2.2.2.2.2.2.2.2.2.2.1+1,λj=>if j<a.2.2.2.2.2.2.2.2.2.2.1 then a.2.2.2.2.2.2.2.2.2.2.2 j else a.1))).bind λb=>
    if b.1 then
     if 0<=b.2.1/\b.2.1< (b.2.2.2.2.2.1:Int)then
      if(b.2.2.2.2.2.2.1 (Int.toNat (b.2.1))!=1) then
       (dZ q (11,b.2)).bind λc=>(zY q (b.2.2.2.2.2.2.1 (Int.toNat (b.2.1)),b.2.2.2.2.2.2.2.1 (Int.toNat (b.2.1)),b.2.2.2.2.2.2.2.2.1 (Int.toNat (b.2.1)),b.2.2.2.2.2.2.2.2.2.1 (Int.toNat (b.2.1)))).bind λd=>
        if(!d) then(dZ q (10,c)).bind λe=>(dN q ((b.2.2.2.2.2.2.2.2.1 (Int.toNat (b.2.1))),e)).bind λf=>k a.1 (b.2.2.2.2.2.2.2.2.1 (Int.toNat (b.2.1))) f.2
        else(dN q ((b.2.2.2.2.2.2.2.2.1 (Int.toNat (b.2.1))),c)).bind λf=>k a.1 (b.2.2.2.2.2.2.2.2.1 (Int.toNat (b.2.1))) f.2
      else(zY q (b.2.2.2.2.2.2.1 (Int.toNat (b.2.1)),b.2.2.2.2.2.2.2.1 (Int.toNat (b.2.1)),b.2.2.2.2.2.2.2.2.1 (Int.toNat (b.2.1)),b.2.2.2.2.2.2.2.2.2.1 (Int.toNat (b.2.1)))).bind λd=>
       if(!d) then(dZ q (10,b.2)).bind λe=>(dN q ((b.2.2.2.2.2.2.2.2.1 (Int.toNat (b.2.1))),e)).bind λf=>k a.1 (b.2.2.2.2.2.2.2.2.1 (Int.toNat (b.2.1))) f.2
       else(dN q ((b.2.2.2.2.2.2.2.2.1 (Int.toNat (b.2.1))),b.2)).bind λf=>k a.1 (b.2.2.2.2.2.2.2.2.1 (Int.toNat (b.2.1))) f.2
     else none
    else k a.1 ⟨#[]⟩ b.2
  else none
def pr0(m:Bool)(x:SR):Bool×Nat×(Nat->Int)×(Nat->Int)×(Nat->ByteArray)×(Nat->Int)×Int×Int×Int×Int×Nat×(Nat->ByteArray):=(m,rb0 x)
def prA(m:Bool)(x:SR)(a:PrT):Bool×Nat×(Nat->Int)×(Nat->Int)×(Nat->ByteArray)×(Nat->Int)×Int×Int×Int×Int×Nat×(Nat->ByteArray)×PrT:=(m,x.2.2.2.2.1,x.2.2.2.2.2.1,x.2.2.2.2.2.2.1,x.2.2.2.2.2.2.2.1,x.2.2.2.2.2.2.2.2.1,x.1,x.2.1,x.2.2.1,x.2.2.2.1,x.2.2.2.2.2.2.2.2.2.1,x.2.2.2.2.2.2.2.2.2.2,a)
def prE(x:SR)(a:PrT):Nat×Nat×(Nat->Int)×(Nat->Int)×(Nat->ByteArray)×(Nat->Int)×Int×Int×Int×Int×Nat×(Nat->ByteArray)×(Nat->ByteArray)×(Nat->ByteArray):=(a.2.2,x.2.2.2.2.1,x.2.2.2.2.2.1,x.2.2.2.2.2.2.1,x.2.2.2.2.2.2.2.1,x.2.2.2.2.2.2.2.2.1,x.1,x.2.1,x.2.2.1,x.2.2.2.1,x.2.2.2.2.2.2.2.2.2.1,x.2.2.2.2.2.2.2.2.2.2,a.1,a.2.1)
theorem gi4{β:Type}(q:Nat)(c0:SR)(m:Bool)(x:SR)(nx:aN->Option β)(dn:aZ->Option β):pW (aH q) (ris q) (qQ q) (dN q) (dZ q) (zY q) c0 (pr0 m x) nx dn=
 if m then ha4 q x (λnm u v=>(dN q (bM,v)).bind λy=>nx (.inr (prA y.1 y.2 (gu0 nm u))))else dn (.inl (rb0 x)):=rfl
theorem go4{β:Type}(q:Nat)(c0:SR)(m:Bool)(x:SR)(a:PrT)(nx:aN->Option β)(dn:aZ->Option β):rC (aH q) (ris q) (qQ q) (dN q) (dZ q) (zY q) c0 (prA m x a) nx dn=
 if m then ha4 q x (λnm u v=>if(a.2.2+1)*32<=b6/\a.2.2+1<=maxLen/\a.2.2<=a.2.2 then(dN q (bM,v)).bind λy=>nx (.inr (prA y.1 y.2 (eq6 a nm u)))else none)else dn (.inr (prE x a)):=rfl
section
variable {N:Nat} {T:Nat->Tkn} {s:PS} {x:SR} {p:Nat} {c:Int}
theorem fb7{β:Type}{k:ByteArray->ByteArray->SR->Option β}{P:β->Prop}(hT:Z4 N T)(q:Nat)(hq:12<q)(h:XG N T s x)
 (hok:∀m s1 v,ak6 T s= .ok m s1->XG N T s1 v->Rs (k m.x m.u v) P) (hbad:∀p c nm u v,ak6 T s= .err p c->p<N->XB N T p c v->Rs (k nm u v) P):Rs (ha4 q x k) P:=by
 obtain⟨z,hz1,hz2,hz3⟩:=cj0 hT q hq h;have hl:s.vs.length<=12:=h.names.2.2
 have hpm:ak6 T s=(sU T s).bind λx s0=>if isP T vY {s0 with vs:=s0.vs++[x]} then
  (if(T (s0.p+1)).k≠1 then .err (s0.p+1) 11 else if jW (T (s0.p+1)).t=false then .err (s0.p+1) 10 else .ok ⟨x,(T (s0.p+1)).t⟩ (adv (adv {s0 with vs:=s0.vs++[x]})))
  else .ok ⟨x,⟨#[]⟩⟩ {s0 with vs:=s0.vs++[x]}:=by
  unfold ak6;rw[dr3,AX];rfl
 unfold ha4;rw[hz1];dsimp only[Option.bind_some];refine AL ⟨by rw[hz3];unfold b6;omega,by rw[hz3];unfold maxLen;omega,Nat.le_refl _⟩ ?_;cases e1:sU T s with
 |out=>rw[e1]at hz2;exact hz2.elim
 |err p c=>
  rw[e1]at hz2 hpm;have hb:XB N T p c z.2:=hz2.2;rw[fB q (hb.push _ _) vY];dsimp only[Option.bind_some];exact AM (λhh=>by cases hh) (hbad p c _ _ _ hpm hz2.1 (hb.push _ _))
 |ok b s0=>
  rw[e1]at hz2 hpm;have hbn:z.1=b:=hz2.1;have hg:XG N T s0 z.2:=hz2.2;obtain⟨r1,r2⟩:=bh2 hl e1;have hg2:=hg.push r2 z.1;rw[hbn]at hg2⊢;dsimp only[PR.bind]at hpm;rw[t7 hT q hg2 vY];dsimp only[Option.bind_some];by_cases hc:isP T vY {s0 with vs:=s0.vs++[b]}=true
  ·rw[if_pos hc]at hpm;refine AL hc ?_;rw[if_pos hc];have hg3:=hg2.adv hT (w8 (by decide) hc);refine AL hg3.bounds ?_;rw[hg3.kind,hg3.text,hg3.at_,hg3.num,dm6];dsimp only[Option.bind_some];by_cases hk:(T (s0.p+1)).k=1
   ·rw[if_neg (λh=>h hk)]at hpm;refine AM (λhh=>bne_iff_ne.1 hh hk) ?_;by_cases hu:jW (T (s0.p+1)).t=true
    ·rw[if_neg (by rw[hu];decide)]at hpm;refine AM (λhh=>?_) ?_
     ·have hh:(!(decide ((T (s0.p+1)).k=1)&&jW (T (s0.p+1)).t))=true:=hh;rw[decide_eq_true hk,hu]at hh;cases hh
     ·have ht:isP T (T (s0.p+1)).t (adv {s0 with vs:=s0.vs++[b]})=true:=decide_eq_true rfl;have hr:=t7 hT q hg3 (T (s0.p+1)).t;rw[ht,if_pos rfl]at hr;refine AI (AN hr) λy hy=>?_;rw[hy];exact hok _ _ _ hpm (hg3.adv hT (.inr (show(T (s0.p+1)).k≠0 by rw[hk];decide)))
    ·rw[if_pos (Bool.eq_false_iff.2 hu)]at hpm;refine AL (show(!(decide ((T (s0.p+1)).k=1)&&jW (T (s0.p+1)).t))=true by rw[Bool.eq_false_iff.2 hu,Bool.and_false];rfl) ?_;refine AI (hg3.says (by decide) q) λv hb=>AI (AN (fB q hb _)) λy hy=>?_;rw[hy];exact hbad _ _ _ _ _ hpm hg3.lt hb
   ·rw[if_pos hk]at hpm;refine AL (bne_iff_ne.2 hk) ?_;refine AI (hg3.says (by decide) q) λv hb=>?_;refine AL (show(!(decide ((T (s0.p+1)).k=1)&&jW (T (s0.p+1)).t))=true by rw[decide_eq_false hk,Bool.false_and];rfl) ?_;refine AI (hb.says q 10) λv hb=>AI (AN (fB q hb _)) λy hy=>?_;rw[hy];exact hbad _ _ _ _ _ hpm hg3.lt hb
  ·rw[if_neg hc]at hpm;refine AM hc ?_;rw[if_neg hc];exact hok _ _ _ hpm hg2
def LPr(N:Nat)(T:Nat->Tkn)(acc:List Prm):PR (List Prm)->aZ->Prop
 | .ok l s,.inr z=>∃x a,z=prE x a/\X2 (acc++l) a/\XG N T s x
 | .err p c,.inr z=>∃x a,z=prE x a/\p<N/\XB N T p c x
 |_,_=>False
def PSr(acc:List Prm)(x:SR):aN->Prop
 | .inl y=>acc=[]/\y=pr0 true x
 | .inr y=>∃a,y=prA true x a/\X2 acc a
noncomputable abbrev plp(q m:Nat)(c0:SR):aN->Option aZ:=mS (aH q) (ris q) (qQ q) (dN q) (dZ q) (zY q) m c0
theorem cc4(q m:Nat)(c0 x:SR):plp q (m+1) c0 (.inl (pr0 false x))=some (.inl (rb0 x)):=by
 refine Rs.eq ?_;unfold plp mS;refine AO λQ hQ=>?_;rw[Sum.elim_inl,gi4];exact AM (by decide) (AJ rfl)
theorem du7(q m:Nat)(c0 x:SR)(a:PrT):plp q (m+1) c0 (.inr (prA false x a))=some (.inr (prE x a)):=by
 refine Rs.eq ?_;unfold plp mS;refine AO λQ hQ=>?_;rw[Sum.elim_inr,go4];exact AM (by decide) (AJ rfl)
theorem hb3(hT:Z4 N T){q:Nat}(hq:12<q)(c0:SR):∀(g m:Nat),g+1<m->∀(acc:List Prm) (s:PS) (x:SR) (y:aN),PSr acc x y->acc.length+g<=1000000000->XG N T s x->bD T g s≠ .out->Rs (plp q m c0 y) (LPr N T acc (bD T g s)):=by
 intro g
 induction g with
 |zero=>intro m _ acc s x y _ _ _ ho;rw[bD]at ho;exact absurd rfl ho
 |succ g ih=>
  intro m hm acc s x y hy hb h ho;obtain⟨m,rfl⟩:∃k,m=k+2:=⟨m-2,by omega⟩;rw[bD]at ho⊢
  have next:∀(v:SR) (a:PrT) (b:Bool×SR),
   (match ak6 T s with| .ok m s1=>b=(isP T bM s1,if isP T bM s1 then(w (v.1+1),v.2)else v)/\XG N T s1 v/\X2 (acc++[m]) a| .err p c=>b=(false,v)/\p<N/\XB N T p c v| .out=>False)->
   Rs (plp q (m+1) c0 (.inr (prA b.1 b.2 a))) (LPr N T acc ((ak6 T s).bind λx s1=>if isP T bM s1 then(bD T g (adv s1)).bind λl s2=>.ok (x::l) s2 else .ok [x] s1)):=by
   intro v a b hw;cases e:ak6 T s with
   |out=>rw[e]at hw;exact hw.elim
   |err p c=>
    rw[e]at hw;obtain⟨rfl,hp,hx⟩:=hw;exact⟨_,du7 q m c0 v a,v,a,rfl,hp,hx⟩
   |ok pm s1=>
    rw[e]at hw ho;obtain⟨rfl,hx,ha⟩:=hw;dsimp only[PR.bind]at ho⊢;by_cases hc:isP T bM s1=true
    ·rw[if_pos hc]at ho⊢;rw[hc,if_pos rfl];have ho2:=AT (show(bD T g (adv s1)).bind _≠ .out from ho);refine(ih (m+1) (by omega) (acc++[pm]) (adv s1) (w (v.1+1),v.2) (.inr (prA true (w (v.1+1),v.2) a)) ⟨a,rfl,ha⟩ (by simp;omega) (hx.adv hT (w8 (by decide) hc)) ho2).mono λz hz=>?_;cases e2:bD T g (adv s1)with
     |out=>exact absurd e2 ho2
     |err p c=>rw[e2]at hz;rcases z with z|z<;>exact hz
     |ok l s3=>
      rw[e2]at hz;rcases z with z|z
      ·exact hz.elim
      ·rw[show LPr N T (acc++[pm]) (.ok l s3) (.inr z)=∃x a,z=prE x a/\X2 ((acc++[pm])++l) a/\XG N T s3 x from rfl,List.append_assoc]at hz;exact hz
    ·rw[if_neg hc,Bool.eq_false_iff.2 hc];exact⟨_,du7 q m c0 _ a,v,a,rfl,ha,hx⟩
  unfold plp mS at next⊢
  refine AO λQ hQ=>?_;rcases y with y|y
  ·obtain⟨rfl,rfl⟩:=hy;rw[Sum.elim_inl,gi4];refine AL rfl (fb7 hT q hq h (λpm s1 v e hv=>?_) (λp c nm u v e hp hv=>?_))
   ·refine AI (AN (t7 hT q hv bM)) λy hy=>AJ (hQ _ (next v _ y ?_));rw[e];exact⟨hy,hv,aa3 _ _⟩
   ·refine AI (AN (fB q hv bM)) λy hy=>AJ (hQ _ (next v _ y ?_));rw[e];exact⟨hy,hp,hv⟩
  ·obtain⟨a,rfl,ha⟩:=hy;have hal:=ha.1;rw[Sum.elim_inr,go4];refine AL rfl (fb7 hT q hq h (λpm s1 v e hv=>AL ⟨by unfold b6;omega,by unfold maxLen;omega,Nat.le_refl _⟩ ?_) (λp c nm u v e hp hv=>AL ⟨by unfold b6;omega,by unfold maxLen;omega,Nat.le_refl _⟩ ?_))
   ·refine AI (AN (t7 hT q hv bM)) λy hy=>AJ (hQ _ (next v _ y ?_));rw[e];exact⟨hy,hv,zV ha _ _⟩
   ·refine AI (AN (fB q hv bM)) λy hy=>AJ (hQ _ (next v _ y ?_));rw[e];exact⟨hy,hp,hv⟩
end
def ff8(x:SR):lH:=(x.1,x.2.1,x.2.2.1,x.2.2.2.1,x.2.2.2.2.1,x.2.2.2.2.2.1,x.2.2.2.2.2.2.1,x.2.2.2.2.2.2.2.1,x.2.2.2.2.2.2.2.2.1)
section
variable {N:Nat} {T:Nat->Tkn} {s:PS} {x:SR} {p:Nat} {c:Int}
theorem XG.clear(h:XG N T s x):XG N T {s with vs:=[]} (x.1,x.2.1,x.2.2.1,x.2.2.2.1,x.2.2.2.2.1,x.2.2.2.2.2.1,x.2.2.2.2.2.2.1,x.2.2.2.2.2.2.2.1,x.2.2.2.2.2.2.2.2.1,0,λ_=>ByteArray.empty):=by
 obtain⟨l,v,rfl,h1,h2,h3,h4⟩:=h;exact⟨l,_,rfl,λj b e=>by simp at e,h2,h3,by simp⟩
theorem X2.nil(f g:Nat->ByteArray):X2 [] (f,g,0):=⟨rfl,λj m e=>by simp at e⟩
theorem eo4(hT:Z4 N T){f q:Nat}(hq:12<q)(hf:f+1<q)(hf2:f<=1000000000)(h:XG N T s x)(ho:aU T f {s with vs:=[]}≠ .out):Rs (kO q (ff8 x)) (PV N T (λz=>z.2.2.2) (λl z=>X2 l (z.2.1,z.2.2.1,z.1)) (aU T f {s with vs:=[]})):=by
 unfold kO;refine AK (P:=PV N T (λy=>(iU y).2.2.2) (λl y=>X2 l ((iU y).2.1,(iU y).2.2.1,(iU y).1)) (aU T f {s with vs:=[]})) ?_ λz hz=>hz;unfold ar5 wK
 have hop:aU T f {s with vs:=[]}=(x7 T kB {s with vs:=[]}).bind λ_ s1=>if isP T dV s1 then .ok [] (adv s1)else(bD T f s1).bind λl s2=>(x7 T dV s2).bind λ_ s3=>.ok l s3:=by
  unfold aU;congr 1;funext u s1;rw[dg5]
 rw[hop]at ho⊢;obtain⟨m,rfl⟩:∃k,q=k+1:=⟨q-1,by omega⟩;refine BH (cV hT (m+1) h.clear kB (by decide)) (λu s1 z e _ h1=>?_) (λp c z hb=>?_)
 ·have h1:XG N T s1 z:=h1;rw[e]at ho;dsimp only[PR.bind]at ho;refine AL (beq_iff_eq.2 h1.good) ?_;rw[aw1 (m+1) h1];dsimp only[Option.bind_some];by_cases hi:isP T dV s1=true
  ·rw[if_pos hi]at ho⊢;rw[hi];refine AI (P:=λy=>y= .inl (rb0 z)) (AN (cc4 (m+1) m _ z)) λy hy=>?_;subst hy;dsimp only[Sum.elim_inl];refine AI (bq5 hT (m+1) h1 dV (by decide) hi) λv hv=>?_;exact BI (X2.nil _ _) hv
  ·rw[if_neg hi]at ho⊢;rw[Bool.eq_false_iff.2 hi];have ho2:=AT ho;refine AI (hb3 hT hq _ f (m+1) hf [] s1 z (.inl (pr0 true z)) ⟨rfl,rfl⟩ (by simpa using hf2) h1 ho2) λy hy=>?_;cases e2:bD T f s1 with
   |out=>exact absurd e2 ho2
   |err p c=>
    rw[e2]at hy;dsimp only[PR.bind];rcases y with y|y
    ·exact hy.elim
    ·obtain⟨v,a,rfl,hp,hb⟩:=hy;exact PV.err hp (AI (bB (m+1) hb dV) λv hb=>AJ hb)
   |ok l s2=>
    rw[e2]at hy;dsimp only[PR.bind];rcases y with y|y
    ·exact hy.elim
    ·obtain⟨v,a,rfl,ha,hv⟩:=hy;rw[List.nil_append]at ha;exact BH (cV hT (m+1) hv dV (by decide)) (λu s3 w e _ h3=>BI ha h3) (λp c w hb=>AJ hb)
 ·have hb:XB N T p c z:=hb;refine AM (λhh=>hb.bad (beq_iff_eq.1 hh)) ?_;refine AI (P:=λy=>y= .inl (rb0 z)) (AN (cc4 (m+1) m _ z)) λy hy=>?_;subst hy;dsimp only[Sum.elim_inl];exact AI (bB (m+1) hb dV) λv hb=>AJ hb
theorem ew5(q:Nat)(h:XB N T p c x):Rs (kO (q+1) (ff8 x)) (λz=>XB N T p c z.2.2.2):=by
 unfold kO;refine AK (P:=λy=>XB N T p c (iU y).2.2.2) ?_ λz hz=>hz;unfold ar5 wK;refine AI (bB (q+1) (h.push 0 λ_=>ByteArray.empty) kB) λz hb=>?_;refine AM (λhh=>hb.bad (beq_iff_eq.1 hh)) ?_;refine AI (P:=λy=>y= .inl (rb0 z)) (AN (cc4 (q+1) q _ z)) λy hy=>?_;subst hy;dsimp only[Sum.elim_inl];exact AI (bB (q+1) hb dV) λv hb=>AJ hb
def au7(T:Nat->Tkn)(f:Nat)(s:PS):PR (List Prm×Tr):=(aU T f {s with vs:=[]}).bind λl s3=>(t8 T f s3).bind λb s4=>.ok (l,b) s4
theorem cw2(T:Nat->Tkn)(f:Nat)(pr:List ByteArray)(s:PS):iD T f pr s=(x7 T aS s).bind λ_ s1=>(bt9 T pr s1).bind λa s2=>(au7 T f s2).bind λy s4=>.ok ⟨a,y.1,y.2⟩ s4:=by
 unfold iD bt9 au7;congr 1;funext u s1;rw[AX];congr 1;funext a s2;by_cases h:inP pr a=true
 ·rw[if_pos h,if_pos h];rfl
 ·rw[if_neg h,if_neg h];show _=(((aU T f {s2 with vs:=[]}).bind λl s3=>(t8 T f s3).bind λb s4=>PR.ok (l,b) s4).bind λy s4=>PR.ok (Prc.mk a y.1 y.2) s4);rw[AX];congr 1;funext l s3;rw[AX];rfl
theorem fj4{β:Type}{k:gV->b5->Option β}{P:β->Prop}(hT:Z4 N T)(hK:fo3 N T){f q:Nat}(hq:2*f+26<=q)(hf2:f<=1000000000)(h:XG N T s x)(ho:au7 T f s≠ .out)
 (hok:∀l b s4 zl zb,au7 T f s= .ok (l,b) s4->X2 l (zl.2.1,zl.2.2.1,zl.1)->RN b zb->XG N T s4 (pN zb)->Rs (k zl zb) P) (hbad:∀p c zl zb,au7 T f s= .err p c->p<N->XB N T p c (pN zb)->Rs (k zl zb) P):
 Rs ((kO q (ff8 x)).bind λl=>(qC q l.2.2.2).bind λb=>k l b) P:=by
 obtain⟨z,hz1,hz2⟩:=eo4 hT (q:=q) (by omega) (by omega) hf2 h (AT ho);rw[hz1];dsimp only[Option.bind_some];unfold au7 at ho hok hbad;cases e:aU T f {s with vs:=[]}with
 |out=>rw[e]at hz2;exact hz2.elim
 |err p c=>
  rw[e]at hz2 hbad;obtain⟨q',rfl⟩:∃k,q=k+2:=⟨q-2,by omega⟩;exact AI (ah4 q' hz2.2) λb hb=>hbad p c z b rfl hz2.1 hb
 |ok l s3=>
  rw[e]at hz2 ho hok hbad;dsimp only[PR.bind]at ho hok hbad;have ho2:=AT ho;obtain⟨b,hb1,hb2⟩:=(hg6 hT hK f hf2 q hq).2.1 f (Nat.le_refl _) s3 _ hz2.2 ho2;rw[hb1];dsimp only[Option.bind_some];cases e2:t8 T f s3 with
  |out=>exact absurd e2 ho2
  |err p c=>
   rw[e2]at hb2 hbad;exact hbad p c z b rfl hb2.1 hb2.2
  |ok t s4=>
   rw[e2]at hb2 hok;exact hok l t s4 z b rfl hz2.1 hb2.1 hb2.2
theorem bj7{β:Type}{k:gV->b5->Option β}{P:β->Prop}(q:Nat)(h:XB N T p c x)(hbad:∀zl zb,XB N T p c (pN zb)->Rs (k zl zb) P):Rs ((kO (q+2) (ff8 x)).bind λl=>(qC (q+2) l.2.2.2).bind λb=>k l b) P:=
 AI (ew5 (q+1) h) λl hl=>AI (ah4 q hl) λb hb=>hbad l b hb
end
def Kw(x:Tkn):Prop:=Lx.resP x.t=true->x.k=1
theorem gy5{t:ByteArray}(h:Lx.resP t=true):∃c l,t.data.toList=c::l/\aC c.toNat=true:=by
 rw[Lx.resP,oS]at h;simp only[keywords,List.mem_cons,List.not_mem_nil,or_false]at h;rcases h with h|h|h|h|h|h|h|h|h|h|h|h|h|h|h|h|h|h|h<;>(rw[h];exact⟨_,_,rfl,by decide⟩)
theorem fh7{s:ByteArray}{p n:Nat}(hp:p<s.size){c:UInt8}{l:List UInt8}(h:((s.extract p s.size).extract 0 n).data.toList=c::l):c=s.get! p:=by
 rw[y4,y4,List.drop_zero,y9 s p hp]at h;have h2:s.size-p=(s.size-p-1)+1:=by omega
 rw[h2,List.take_succ_cons]at h;cases hn:n-0 with
 |zero=>rw[hn]at h;simp at h
 |succ m=>
  rw[hn,List.take_succ_cons]at h;injection h with h1 h2;exact h1.symm
theorem ha8{s:ByteArray}{p:Nat}{x:Tkn}(hp:p<s.size)(h:fH s p=(x,0)):Kw x:=by
 intro hr;obtain⟨c,l,h3,h4⟩:=gy5 hr;by_cases h1:aC ((s.get! p).toNat:Int)=true
 ·rw[ae1 h1]at h;unfold ai7 at h;split at h
  ·cases h
  ·cases h;rfl
 ·by_cases h2:j8 ((s.get! p).toNat:Int)=true
  ·rw[au8 h1 h2]at h;unfold gZ at h;split at h
   ·cases h
   ·split at h
    ·cases h
    ·cases h;have:=fh7 hp h3;rw[this]at h4;exact absurd h4 h1
  ·rw[ao1 h1 h2]at h;unfold eS at h;split at h
   ·cases h
   ·cases h;have:=fh7 hp h3;rw[this]at h4;exact absurd h4 h1
theorem gp1(s:ByteArray):Kw (am7 s):=λh=>by
 have h2:Lx.resP ⟨#[]⟩=true:=h;exact absurd h2 (by decide)
theorem hj8{s:ByteArray}{p:Nat}{acc:List Tkn}{r:List Tkn×Nat×Int}(h:Lex s p acc r):(∀x∈acc,Kw x)->∀x∈r.1,Kw x:=by
 induction h with
 |fin _=>
  intro ha x hx;rcases List.mem_append.1 hx with h|h
  ·exact ha x h
  ·simp only[List.mem_singleton]at h;subst h;exact gp1 s
 |white _ _ _ ih=>exact ih
 |hash _ _ _ ih=>exact ih
 |tok h1 h2 h3 h4 _ ih=>
  intro ha;refine ih λx hx=>?_;rcases List.mem_append.1 hx with h|h
  ·exact ha x h
  ·simp only[List.mem_singleton]at h;subst h;exact(ha8 h1 h4:Kw _)
 |err _ _ _ _ _=>intro _ x hx;cases hx
theorem fi1{s:ByteArray}{acc:List Tkn}(h:fP s (acc++[am7 s],0,0)):fo3 (acc.length+1) (aA s acc):=by
 intro j _
 have ha:∀x∈acc,Kw x:=by
  rcases h with⟨_,h⟩ | ⟨_,h⟩
  ·have:=congrArg (λr:List Tkn×Nat×Int=>r.1.length) h;simp at this
  ·exact λx hx=>hj8 h (λx hx=>by cases hx) x (List.mem_append_left _ hx)
 show Kw (aA s acc j);unfold aA;rw[List.getD_eq_getElem?_getD];cases e:acc[j]?with
 |none=>exact gp1 s
 |some x=>exact ha x (List.mem_of_getElem? e)
def xz(N:Nat)(T:Nat->Tkn):SR:=(0,0,0,0,N,(λj=>(T j).k),(λj=>(T j).a),(λj=>(T j).t),(λj=>(T j).n),0,(λ_=>ByteArray.empty))
theorem gy8{N:Nat}{T:Nat->Tkn}(hT:Z4 N T):XG N T ⟨0,0,[]⟩ (xz N T):=⟨0,_,rfl,λj b e=>by simp at e,hT.pos,Nat.zero_le _,by simp⟩
def pcA(x:SR)(a:AcP)(nm:Nat->ByteArray):Nat×(Nat->Int)×(Nat->Int)×(Nat->ByteArray)×(Nat->Int)×Int×Int×Int×Int×Nat×(Nat->ByteArray)×(Nat->ByteArray)×(Nat->Nat)×(Nat->Nat->List V)×(Nat->Int)×(Nat->Int)×(Nat->ByteArray)×(Nat->Nat)×(Nat->Nat->List V)×Nat×(Nat->ByteArray):=
 (x.2.2.2.2.1,x.2.2.2.2.2.1,x.2.2.2.2.2.2.1,x.2.2.2.2.2.2.2.1,x.2.2.2.2.2.2.2.2.1,x.1,x.2.1,x.2.2.1,x.2.2.2.1,x.2.2.2.2.2.2.2.2.2.1,x.2.2.2.2.2.2.2.2.2.2,a.1,a.2.1,a.2.2.1,a.2.2.2.1,a.2.2.2.2.1,a.2.2.2.2.2.1,a.2.2.2.2.2.2.1,a.2.2.2.2.2.2.2.1,a.2.2.2.2.2.2.2.2,nm)
def pcE(x:SR)(a:AcP):Nat×Nat×(Nat->Int)×(Nat->Int)×(Nat->ByteArray)×(Nat->Int)×Int×Int×Int×Int×Nat×(Nat->ByteArray)×(Nat->ByteArray)×(Nat->Nat)×(Nat->Nat->List V)×(Nat->Int)×(Nat->Int)×(Nat->ByteArray)×(Nat->Nat)×(Nat->Nat->List V):=
 (a.2.2.2.2.2.2.2.2,x.2.2.2.2.1,x.2.2.2.2.2.1,x.2.2.2.2.2.2.1,x.2.2.2.2.2.2.2.1,x.2.2.2.2.2.2.2.2.1,x.1,x.2.1,x.2.2.1,x.2.2.2.1,x.2.2.2.2.2.2.2.2.2.1,x.2.2.2.2.2.2.2.2.2.2,a.1,a.2.1,a.2.2.1,a.2.2.2.1,a.2.2.2.2.1,a.2.2.2.2.2.1,a.2.2.2.2.2.2.1,a.2.2.2.2.2.2.2.1)
noncomputable abbrev gn4(q m:Nat)(src:ByteArray):cT->Option eH:=qU (ai1 q) (cb4 q) (aH q) (kL q) (xT q) (kO q) (qC q) m src
def LPP(N:Nat)(T:Nat->Tkn)(acc:List Prc):PR (List Prc)->eH->Prop
 | .ok l s,.inl z=>acc++l=[]
 | .ok l s,.inr z=>∃x a,z=pcE x a/\br2 (acc++l) a/\XG N T s x
 | .err p c,.inr z=>∃x a,z=pcE x a/\p<N/\XB N T p c x
 |_,_=>False
def PCs(N:Nat)(T:Nat->Tkn)(acc:List Prc)(pr:List ByteArray)(s:PS)(x:SR):cT->Prop
 | .inl y=>acc=[]/\pr=[]/\s=⟨0,0,[]⟩/\x=xz N T/\y=uI N T
 | .inr y=>∃a nm,y=pcA x a nm/\br2 acc a/\Ag nm pr/\pr.length=acc.length
section
variable {N:Nat} {T:Nat->Tkn}
theorem gj1(q m:Nat)(src:ByteArray)(x:SR)(a:AcP)(nm:Nat->ByteArray)(h:x.2.2.1≠0):gn4 q (m+1) src (.inr (pcA x a nm))=some (.inr (pcE x a)):=by
 refine Rs.eq ?_;unfold gn4 qU;refine AO λQ hQ=>?_;rw[Sum.elim_inr];unfold mC U21;exact AM (λhh=>h (beq_iff_eq.1 hh)) (AJ rfl)
theorem cl4{f:Nat}{pr:List ByteArray}{s:PS}{p:Nat}{c:Int}(e:x7 T aS s= .err p c):iD T f pr s= .err p c:=by
 rw[cw2,e];rfl
theorem cn4{f:Nat}{pr:List ByteArray}{s s1:PS}{u:Unit}{p:Nat}{c:Int}(e:x7 T aS s= .ok u s1)(e2:bt9 T pr s1= .err p c):iD T f pr s= .err p c:=by
 rw[cw2,e];show(bt9 T pr s1).bind _=_;rw[e2];rfl
theorem pL{f:Nat}{pr:List ByteArray}{s s1 s2:PS}{u:Unit}{b:ByteArray}(e:x7 T aS s= .ok u s1)(e2:bt9 T pr s1= .ok b s2):iD T f pr s=(au7 T f s2).bind λy s4=>.ok ⟨b,y.1,y.2⟩ s4:=by
 rw[cw2,e];show(bt9 T pr s1).bind _=_;rw[e2];rfl
theorem fu7(hT:Z4 N T)(hK:fo3 N T)(src:ByteArray){F q:Nat}(hF:F<=1000000000)(hq:2*F+100<=q):∀g,g<=F->∀m,g+1<m->∀(acc:List Prc) (pr:List ByteArray) (s:PS) (x:SR) (y:cT),PCs N T acc pr s x y->acc.length+g<=F->XG N T s x->n7 T g pr s≠ .out->
 Rs (gn4 q m src y) (LPP N T acc (n7 T g pr s)):=by
 intro g
 induction g with
 |zero=>intro _ m _ acc pr s x y _ _ _ ho;rw[n7]at ho;exact absurd rfl ho
 |succ g ih=>
  intro hg m hm acc pr s x y hy hb h ho;obtain⟨m,rfl⟩:∃k,m=k+2:=⟨m-2,by omega⟩;rw[n7]at ho⊢
  have next:¬(T s.p).k=0->∀(v:SR) (a:AcP) (nm:Nat->ByteArray),pr.length=acc.length->∀r,iD T g pr s=r->
   (match r with| .ok c s1=>XG N T s1 v/\br2 (acc++[c]) a/\Ag nm (pr++[c.x]) | .err p c=>p<N/\XB N T p c v| .out=>False)->
   Rs (gn4 q (m+1) src (.inr (pcA v a nm))) (LPP N T acc (if(T s.p).k=0 then .ok [] s else(iD T g pr s).bind λx s1=>(n7 T g (pr++[x.x]) s1).bind λl s2=>.ok (x::l) s2)):=by
   intro hk v a nm hl r e hw;rw[if_neg hk]at ho⊢;cases r with
   |out=>exact hw.elim
   |err p c=>
    rw[e];exact⟨_,gj1 q m src v a nm hw.2.bad,v,a,rfl,hw.1,hw.2⟩
   |ok c s1=>
    rw[e]at ho⊢;dsimp only[PR.bind]at ho⊢;have ho2:=AT ho;refine(ih (by omega) (m+1) (by omega) (acc++[c]) (pr++[c.x]) s1 v (.inr (pcA v a nm)) ⟨a,nm,rfl,hw.2.1,hw.2.2,by simp[hl]⟩ (by simp;omega) hw.1 ho2).mono λz hz=>?_;cases e2:n7 T g (pr++[c.x]) s1 with
    |out=>exact absurd e2 ho2
    |err p c=>rw[e2]at hz;rcases z with z|z<;>exact hz
    |ok l s3=>
     rw[e2]at hz;rcases z with z|z
     ·have hz:(acc++[c])++l=[]:=hz;exact absurd hz (by simp)
     ·rw[show LPP N T (acc++[c]) (.ok l s3) (.inr z)=∃x a,z=pcE x a/\br2 ((acc++[c])++l) a/\XG N T s3 x from rfl,List.append_assoc]at hz;exact hz
  obtain⟨q',rfl⟩:∃k,q=k+2:=⟨q-2,by omega⟩;unfold gn4 qU at next⊢
  refine AO λQ hQ=>?_;rcases y with y|y
  ·obtain⟨rfl,rfl,rfl,rfl,rfl⟩:=hy;rw[Sum.elim_inl];unfold tA;have hpos:=hT.pos;refine AL (show(0:Int)<=0/\(0:Int)< ((N:Nat):Int)by omega) ?_;by_cases hk:(T 0).k=0
   ·refine AM (λhh=>bne_iff_ne.1 hh hk) (AJ ?_);rw[if_pos hk];exact rfl
   ·refine AL (bne_iff_ne.2 hk) ?_;obtain⟨z,hz1,hz2⟩:=cV hT (q'+2) h aS (by decide);refine AI (P:=λy=>y=z) (AN hz1) λy hy=>?_;rw[hy];cases e:x7 T aS ⟨0,0,[]⟩with
    |out=>rw[e]at hz2;exact hz2.elim
    |err p c=>
     rw[e]at hz2;refine AI (ck8 (q'+1) hz2.2 1) λv hv=>bj7 q' hv λzl zb hx=>AJ (hQ _ ?_);exact next hk (pN zb) (dx2 (v.1,zl.1,zl.2.1,zl.2.2.1,(zb.1,zb.2.1,zb.2.2.1,zb.2.2.2.1,zb.2.2.2.2.1))) (λ_=>v.1) rfl _ (cl4 e) ⟨hz2.1,hx⟩
    |ok u s1=>
     rw[e]at hz2
     have hn:bt9 T [] s1=aQ T s1:=by
      unfold bt9;cases aQ T s1<;>rfl
     obtain⟨v,hv1,hv2⟩:=ag7 hT (q'+1) hz2.2;refine AI (P:=λy=>y=v) (AN hv1) λy hy=>?_;rw[hy];cases e2:aQ T s1 with
     |out=>rw[e2]at hv2;exact hv2.elim
     |err p c=>
      rw[e2]at hv2;refine bj7 q' hv2.2 λzl zb hx=>AJ (hQ _ ?_);exact next hk (pN zb) (dx2 (v.1,zl.1,zl.2.1,zl.2.2.1,(zb.1,zb.2.1,zb.2.2.1,zb.2.2.2.1,zb.2.2.2.2.1))) (λ_=>v.1) rfl _ (cn4 e (hn.trans e2)) ⟨hv2.1,hx⟩
     |ok b s2=>
      rw[e2]at hv2;have hvb:v.1=b:=hv2.1
      have ho2:au7 T g s2≠ .out:=by
       rw[if_neg hk,pL e (hn.trans e2)]at ho;exact AT (AT ho)
      refine fj4 hT hK (q:=q'+2) (by omega) (by omega) hv2.2 ho2 (λl t s4 zl zb e3 hl ht hx=>AJ (hQ _ ?_)) (λp c zl zb e3 hp hx=>AJ (hQ _ ?_))
      ·exact next hk (pN zb) (dx2 (v.1,zl.1,zl.2.1,zl.2.2.1,(zb.1,zb.2.1,zb.2.2.1,zb.2.2.2.1,zb.2.2.2.2.1))) (λ_=>v.1) rfl (.ok ⟨b,l,t⟩ s4) (by rw[pL e (hn.trans e2),e3];rfl) ⟨hx,bv0 ⟨hvb,hl,ht⟩,λj b' hb'=>by
        cases j with
        |zero=>simp only[List.nil_append,List.getElem?_cons_zero,Option.some.injEq]at hb';rw[<-hb'];exact hvb
        |succ j=>simp at hb'⟩
      ·exact next hk (pN zb) (dx2 (v.1,zl.1,zl.2.1,zl.2.2.1,(zb.1,zb.2.1,zb.2.2.1,zb.2.2.2.1,zb.2.2.2.2.1))) (λ_=>v.1) rfl (.err p c) (by rw[pL e (hn.trans e2),e3];rfl) ⟨hp,hx⟩
  ·obtain⟨a,nm,rfl,ha,hnm,hlen⟩:=hy;have hal:=ha.1;rw[Sum.elim_inr];unfold mC U21;refine AL (beq_iff_eq.2 h.good) (AL h.bounds ?_);have hkk:(pcA x a nm).2.1 (Int.toNat (pcA x a nm).2.2.2.2.2.1)=(T s.p).k:=h.kind;rw[hkk];by_cases hk:(T s.p).k=0
   ·refine AM (λhh=>bne_iff_ne.1 hh hk) (AJ ?_);rw[if_pos hk];exact⟨x,a,rfl,by rw[List.append_nil];exact ha,h⟩
   ·refine AL (bne_iff_ne.2 hk) ?_;have hcnt:(pcA x a nm).2.2.2.2.2.2.2.2.2.2.2.2.2.2.2.2.2.2.2.1=pr.length:=hal.trans hlen.symm;have g1:(pr.length+1)*16<=b6/\pr.length+1<=maxLen:=⟨by unfold b6;omega,by unfold maxLen;omega⟩;have g2:(pr.length+1)*96<=b6/\pr.length+1<=maxLen/\pr.length<=pr.length:=⟨by unfold b6;omega,by unfold maxLen;omega,Nat.le_refl _⟩;have wl:w (((pr.length:Nat):Int)+(1:Int))=((pr.length:Nat):Int)+1:=by rw[o7 (by omega)];omega
    have hpl:pr.length<=4000000000:=by omega
    have hpq:pr.length<q'+2:=by omega
    rw[hcnt,wl];obtain⟨z,hz1,hz2⟩:=cV hT (q'+2) h aS (by decide);refine AI (P:=λy=>y=z) (AN hz1) λy hy=>?_;rw[hy];cases e:x7 T aS s with
    |out=>rw[e]at hz2;exact hz2.elim
    |err p c=>
     rw[e]at hz2;refine AI (fv7 (q'+2) hnm hpl hpq hz2.2 (((pr.length:Nat):Int)+1)) λv hv=>?_;refine AL ⟨g1.1,g1.2,by rw[hv.2];exact Nat.le_refl _⟩ (bj7 q' hv.1 λzl zb hx=>AL g2 (AJ (hQ _ ?_)));have key:=next hk (pN zb) (ap6 a (v.1,zl.1,zl.2.1,zl.2.2.1,(zb.1,zb.2.1,zb.2.2.1,zb.2.2.2.1,zb.2.2.2.2.1))) (λj=>if j<pr.length then v.2.2.1 j else v.1) hlen _ (cl4 e) ⟨hz2.1,hx⟩
     unfold ap6 at key;rw[hal,<-hlen]at key;exact key
    |ok u s1=>
     rw[e]at hz2;obtain⟨v,hv1,hv2,hv3⟩:=fv4 hT (q'+2) hnm hpl hpq hz2.2;refine AI (P:=λy=>y=v) (AN hv1) λy hy=>?_;rw[hy];refine AL ⟨g1.1,g1.2,by rw[hv3];exact Nat.le_refl _⟩ ?_;cases e2:bt9 T pr s1 with
     |out=>rw[e2]at hv2;exact hv2.elim
     |err p c=>
      rw[e2]at hv2;refine bj7 q' hv2.2 λzl zb hx=>AL g2 (AJ (hQ _ ?_));have key:=next hk (pN zb) (ap6 a (v.1,zl.1,zl.2.1,zl.2.2.1,(zb.1,zb.2.1,zb.2.2.1,zb.2.2.2.1,zb.2.2.2.2.1))) (λj=>if j<pr.length then v.2.2.1 j else v.1) hlen _ (cn4 e e2) ⟨hv2.1,hx⟩
      unfold ap6 at key;rw[hal,<-hlen]at key;exact key
     |ok b s2=>
      rw[e2]at hv2;have hvb:v.1=b:=hv2.1.1;have hvn:v.2.2.1=nm:=hv2.1.2
      have ho2:au7 T g s2≠ .out:=by
       rw[if_neg hk,pL e e2]at ho;exact AT (AT ho)
      refine fj4 hT hK (q:=q'+2) (by omega) (by omega) hv2.2 ho2 (λl t s4 zl zb e3 hl ht hx=>AL g2 (AJ (hQ _ ?_))) (λp c zl zb e3 hp hx=>AL g2 (AJ (hQ _ ?_)))
      ·have key:=next hk (pN zb) (ap6 a (v.1,zl.1,zl.2.1,zl.2.2.1,(zb.1,zb.2.1,zb.2.2.1,zb.2.2.2.1,zb.2.2.2.2.1))) (λj=>if j<pr.length then v.2.2.1 j else v.1) hlen (.ok ⟨b,l,t⟩ s4) (by rw[pL e e2,e3];rfl) ⟨hx,bx9 ha ⟨hvb,hl,ht⟩,by rw[hvn,hvb];exact hnm.push⟩
       unfold ap6 at key;rw[hal,<-hlen]at key;exact key
      ·have key:=next hk (pN zb) (ap6 a (v.1,zl.1,zl.2.1,zl.2.2.1,(zb.1,zb.2.1,zb.2.2.1,zb.2.2.2.1,zb.2.2.2.2.1))) (λj=>if j<pr.length then v.2.2.1 j else v.1) hlen (.err p c) (by rw[pL e e2,e3];rfl) ⟨hp,hx⟩
       unfold ap6 at key;rw[hal,<-hlen]at key;exact key
end
theorem em8{q:Nat}{s:ByteArray}{z:d8}(hz:ai1 q s=some z)(he:z.2.1≠0):SC E5 15 [st s] [] (.ret (.tup [yS [],i64 z.1,i64 z.2.1]) []):=by
 have hp:as7 q s=some (.inl (z.1,z.2.1)):=by
  unfold as7 ac5;rw[hz];dsimp only[Option.bind_some];rw[if_pos (by simpa using he)]
 exact AG (xR q s _ hp) (Le.tup (AE AH (AE (AD _) (AE (AD _) AF))))
theorem bx7{N:Nat}{T:Nat->Tkn}(hT:Z4 N T)(hK:fo3 N T){F q:Nat}(hF:F<=1000000000)(hq:2*F+100<=q){s:ByteArray}(hz:ai1 q s=some (0,0,uI N T))(ho:n7 T F [] ⟨0,0,[]⟩≠ .out):
 match n7 T F [] ⟨0,0,[]⟩with
 | .ok l _=>SC E5 15 [st s] [] (.ret (.tup [yS l,i64 0,i64 0]) [])
 | .err p c=>SC E5 15 [st s] [] (.ret (.tup [yS [],i64 (T p).a,i64 c]) [])
 | .out=>True:=by
 obtain⟨z,h1,h2⟩:=fu7 hT hK s hF hq F (Nat.le_refl _) q (by omega) [] [] ⟨0,0,[]⟩ (xz N T) (.inl (uI N T)) ⟨rfl,rfl,rfl,rfl,rfl⟩ (by simp) (gy8 hT) ho
 have hp:∀r,(Sum.elim (λz538a=>(some (.inl ((0:Int),(0:Int))):Option tM)) (λz538b:Nat×Nat×(Nat->Int)×(Nat->Int)×(Nat->ByteArray)×(Nat->Int)×Int×Int×Int×Int×Nat×(Nat->ByteArray)×(Nat->ByteArray)×(Nat->Nat)×(Nat->Nat->List V)×(Nat->Int)×(Nat->Int)×(Nat->ByteArray)×(Nat->Nat)×(Nat->Nat->List V)=>
  if(z538b.2.2.2.2.2.2.2.2.1 !=(0:Int)) then some (.inl ((z538b.2.2.2.2.2.2.2.2.2.1,z538b.2.2.2.2.2.2.2.2.1)))
  else some (.inr ((z538b.1,z538b.2.2.2.2.2.2.2.2.2.2.2.2)))) z)=some r->as7 q s=some r:=by
  intro r hr;unfold as7 ac5;rw[hz];dsimp only[Option.bind_some];rw[if_neg (by simp)];rw[show qU (ai1 q) (cb4 q) (aH q) (kL q) (xT q) (kO q) (qC q) q s (.inl (uI N T))=some z from h1];exact hr
 cases hr:n7 T F [] ⟨0,0,[]⟩with
 |out=>trivial
 |err p c=>
  rw[hr]at h2;rcases z with z|z
  ·exact h2.elim
  ·obtain⟨x,a,rfl,hpN,hb⟩:=h2;obtain⟨b1,p',o,nv,v,rfl,hp'⟩:=hb;have key:=hp (.inl ((T p).a,c)) (if_pos (bne_iff_ne.2 b1));exact AG (xR q s _ key) (Le.tup (AE AH (AE (AD _) (AE (AD _) AF))))
 |ok l s2=>
  rw[hr]at h2;rcases z with z|z
  ·have e:l=[]:=by simpa[LPP]using h2
   subst e;exact AG (xR q s _ (hp (.inl (0,0)) rfl)) (Le.tup (AE AH (AE (AD _) (AE (AD _) AF))))
  ·obtain⟨x,b,rfl,hb,hx⟩:=h2;rw[List.nil_append]at hb;have hg:=hx.good;have key:=hp (.inr (b.2.2.2.2.2.2.2.2,b.1,b.2.1,b.2.2.1,b.2.2.2.1,b.2.2.2.2.1,b.2.2.2.2.2.1,b.2.2.2.2.2.2.1,b.2.2.2.2.2.2.2.1)) (if_neg (λhh=>bne_iff_ne.1 hh hg));have h3:=SC.giveM (L2:=[]) 0 (xR q s _ key) (by rfl) (by simp[V.bw,V.bw2,V.bw1,Am.hp,V.pure,n4]);simp only[V.bw,V.bw2,V.bw1,Am.hp,List.map_cons,List.map_nil,List.getD_eq_getElem?_getD,List.getElem?_cons_succ,List.getElem?_cons_zero,Option.getD_some,Nat.zero_add,Nat.le_refl,and_self,if_true]at h3;exact AG h3 (Le.tup (AE (leP hb) (AE (AD _) (AE (AD _) AF))))
theorem eo7{s:ByteArray}{r:List Prc×Int×Int}(h:X5 s r):SC E5 15 [st s] [] (.ret (.tup [yS r.1,i64 r.2.1,i64 r.2.2]) []):=by
 rcases ea0 s 300000 (by decide)with⟨z,h1,h2,p,h3,h4⟩ | ⟨acc,h1,h2,h3⟩
 ·cases h with
  |lex p' e g1 g2=>
   have:=mL h4 g1;have e1:p=p':=congrArg (λr=>r.2.1) this;have e2:z.2.1=e:=congrArg (λr=>r.2.2) this;have:=em8 h1 h2;rw[h3,e1,e2]at this;exact this
  |ok acc l s' g1 g2 g3=>
   have:=congrArg (λr=>r.2.2) (mL h4 g1);exact absurd this h2
  |err acc p' c g1 g2 g3 g4=>
   have:=congrArg (λr=>r.2.2) (mL h4 g1);exact absurd this h2
 ·have inj:∀{acc':List Tkn},fP s (acc'++[am7 s],0,0)->acc'=acc:=λg=>by
   have:=congrArg (λr=>r.1) (mL g h3);exact List.append_cancel_right this
  cases h with
  |lex p' e g1 g2=>
   have:=congrArg (λr=>r.2.2) (mL g1 h3);exact absurd this g2
  |ok acc' l s' g1 g2 g3=>
   obtain rfl:=inj g1;have hr:=bx7 h2 (fi1 h3) (F:=ai9) (q:=300000) (by decide) (by decide) h1 (by rw[g3];intro h;cases h);rw[g3]at hr;exact hr
  |err acc' p' c g1 g2 g3 g4=>
   obtain rfl:=inj g1;have hr:=bx7 h2 (fi1 h3) (F:=ai9) (q:=300000) (by decide) (by decide) h1 (by rw[g4];intro h;cases h);rw[g4]at hr;exact hr
end
section
open Go Go.Am Go.Proofs Go.Proofs.Lx
abbrev fA:Type:=Nat×(Nat->ByteArray)×(Nat->Nat)×(Nat->Nat->ByteArray)×(Nat->Nat->ByteArray)×(Nat->Int)×(Nat->Int)×(Nat->ByteArray)×(Nat->Nat)×(Nat->Nat->List V)×Int×Int
def bu2:fA->Z3:=λz=>.ret (.tup [.ro 6 z.1 (λj=>[st (z.2.1 j),.ro 2 (z.2.2.1 j) (λi=>[st (z.2.2.2.1 j i),st (z.2.2.2.2.1 j i)]),i64 (z.2.2.2.2.2.1 j),i64 (z.2.2.2.2.2.2.1 j),st (z.2.2.2.2.2.2.2.1 j),.ro 4 (z.2.2.2.2.2.2.2.2.1 j) (z.2.2.2.2.2.2.2.2.2.1 j)]),i64 z.2.2.2.2.2.2.2.2.2.2.1,i64 z.2.2.2.2.2.2.2.2.2.2.2]) []
noncomputable def pcl(l:List Prc)(j:Nat):List V:=(l.map nN).getD j gt1
noncomputable def pOf(r:List Prc×Int×Int):fA:=(r.1.length,λj=>vS ((pcl r.1 j).getD 0 .junk),λj=>r7 ((pcl r.1 j).getD 1 .junk),λj i=>vS ((aW ((pcl r.1 j).getD 1 .junk) i).getD 0 .junk),λj i=>vS ((aW ((pcl r.1 j).getD 1 .junk) i).getD 1 .junk),λj=>vI ((pcl r.1 j).getD 2 .junk),λj=>vI ((pcl r.1 j).getD 3 .junk),λj=>vS ((pcl r.1 j).getD 4 .junk),λj=>r7 ((pcl r.1 j).getD 5 .junk),λj=>aW ((pcl r.1 j).getD 5 .junk),r.2.1,r.2.2)
theorem gk4{f:FuncId}{args:List V}{L:List (Option Z1)}{r:List Prc×Int×Int}(h:SC E5 f args L (.ret (.tup [yS r.1,i64 r.2.1,i64 r.2.2]) [])):SC E5 f args L (bu2 (pOf r)):=by
 refine AG h (Le.tup (AE (Le.ro_eq λj hj=>?_) (LeL.refl _)));have e:(r.1.map nN).getD j gt1=nN (r.1[j]):=by simp[List.getD_eq_getElem?_getD,hj]
 have e2:pcl r.1 j=nN (r.1[j]):=e;refine⟨?_,by simp[n4,V.pure,st,i64]⟩;rw[e];unfold pOf;dsimp only;rw[e2];generalize r.1[j]=c;obtain⟨x,ps,⟨k,n,s,l⟩⟩:=c
 have hp:(λi=>(ps.map wC).getD i [st ⟨#[]⟩,st ⟨#[]⟩])=λi=>[st (vS (((ps.map wC).getD i [st ⟨#[]⟩,st ⟨#[]⟩]).getD 0 .junk)),st (vS (((ps.map wC).getD i [st ⟨#[]⟩,st ⟨#[]⟩]).getD 1 .junk))]:=by
  funext i;rw[List.getD_eq_getElem?_getD,List.getElem?_map];cases ps[i]?with
  |none=>rfl
  |some m=>rfl
 show st x:: .ro 2 ps.length (λi=>(ps.map wC).getD i [st ⟨#[]⟩,st ⟨#[]⟩])::_=_;rw[hp];rfl
noncomputable def wI(s:ByteArray):List Prc×Int×Int:=Classical.choose (ba9 s)
theorem bs3(s:ByteArray):X5 s (wI s):=(Classical.choose_spec (ba9 s)).1
noncomputable def ca4(q:Nat)(s:ByteArray):Option fA:=some (pOf (wI s))
theorem fw0(q:Nat):Lw E5 38 j7 bu2 (ca4 q):=λx z h=>by
 obtain rfl:=Option.some.inj h;exact gk4 (Classical.choose_spec (ba9 x)).2
noncomputable def ap7(q:Nat)(s:ByteArray):Option fA:=some (pOf (wI s))
theorem eq1(q:Nat):Lw E5 15 j7 bu2 (ap7 q):=λx z h=>by
 obtain rfl:=Option.some.inj h;exact gk4 (eo7 (bs3 x))
end
end Go.Proofs.YtbmbhcheonjigaaGreatDoor
namespace Go.Proofs.YtbmbhcheonjigaaGreatDoor.Ty
section
open Go Go.Am Go.Proofs Go.Proofs.YtbmbhcheonjigaaGreatDoor Go.Proofs.Lx
def Okr{α:Type}(P:α->PS->Prop):PR α->Prop
 | .ok a s=>P a s
 |_=>True
theorem Okr.bind{α β:Type}{P:α->PS->Prop}{Q:β->PS->Prop}{r:PR α}{f:α->PS->PR β}(h:Okr P r)(g:∀a s,P a s->Okr Q (f a s)):Okr Q (r.bind f):=by
 cases r with
 |ok a s=>exact g a s h
 |err p c=>trivial
 |out=>trivial
theorem Okr.mono{α:Type}{P Q:α->PS->Prop}{r:PR α}(h:Okr P r)(g:∀a s,P a s->Q a s):Okr Q r:=by
 cases r with
 |ok a s=>exact g a s h
 |err p c=>trivial
 |out=>trivial
theorem Okr.ite{α:Type}{P:α->PS->Prop}{c:Prop}[Decidable c]{a b:PR α}(h:c->Okr P a)(g:¬c->Okr P b):Okr P (if c then a else b):=by
 by_cases hc:c
 ·rw[if_pos hc];exact h hc
 ·rw[if_neg hc];exact g hc
def BK:=@Okr.ite
theorem bk{k n:Int}{s:ByteArray}{l:List Tr}(hk:k≠16)(h:oD l):bOk (.node k n s l):=by
 simp only[bOk];exact⟨λe=>absurd e hk,h⟩
theorem bk1{a:Tr}(h:bOk a):oD [a]:=by simp only[oD];exact⟨h,trivial⟩
theorem bk2{a b:Tr}(h:bOk a)(g:bOk b):oD [a,b]:=by simp only[oD];exact⟨h,g,trivial⟩
theorem bk3{a b c:Tr}(h:bOk a)(g:bOk b)(i:bOk c):oD [a,b,c]:=by simp only[oD];exact⟨h,g,i,trivial⟩
theorem bk0:oD []:=by simp only[oD]
theorem fk1(k n:Int)(b:ByteArray)(x:Tr):siz (.node k n b [x])=siz x+1:=by simp only[siz,i9];omega
theorem hn3(k n:Int)(b:ByteArray)(x y:Tr):siz (.node k n b [x,y])=siz x+siz y+1:=by simp only[siz,i9];omega
theorem hq4(k n:Int)(b:ByteArray)(x y z:Tr):siz (.node k n b [x,y,z])=siz x+siz y+siz z+1:=by simp only[siz,i9];omega
theorem ht5(k n:Int)(b:ByteArray):siz (.node k n b [])=1:=rfl
def Gd(p:Nat)(t:Tr)(s':PS):Prop:=bOk t/\siz t+p<=s'.p
section
variable {T:Nat->Tkn}
theorem kF(b:ByteArray)(s:PS):Okr (λ_ s'=>s'.p=s.p+1) (x7 T b s):=BK (λ_=>rfl) λ_=>trivial
theorem ax5(b:ByteArray)(s:PS):Okr (λ_ s'=>s'.p=s.p+1) (fF T b s):=BK (λ_=>BK (λ_=>trivial) λ_=>rfl) λ_=>trivial
theorem yT(s:PS):Okr (λ_ s'=>s'.p=s.p+1) (aQ T s):=BK (λ_=>trivial) λ_=>rfl
theorem bm4(lo hi:Int)(s:PS):Okr (λ_ s'=>s'.p=s.p+1) (mH T lo hi s):=BK (λ_=>trivial) λ_=>BK (λ_=>trivial) λ_=>rfl
theorem do4(s:PS):Okr (λ_ s'=>s'.p=s.p+1) (kZ T s):=(yT s).bind λa s1 h=>BK (λ_=>trivial) λ_=>BK (λ_=>trivial) λ_=>h
theorem bl3(s:PS):Okr (Gd s.p) (oE T s):=(bm4 _ _ s).bind λn s1 h=>BK (λ_=>⟨bk (by decide) bk0,by show 1+0+s.p<=s1.p+1;omega⟩) λ_=>⟨bk (by decide) bk0,by show 1+0+s.p<=s1.p;omega⟩
theorem Gd.mono{p p':Nat}{t:Tr}{s s':PS}(h:Gd p t s)(h1:p'<=p)(h2:s.p<=s'.p):Gd p' t s':=⟨h.1,by have:=h.2;omega⟩
theorem Gd.lt{p:Nat}{t:Tr}{s:PS}(h:Gd p t s):p+1<=s.p:=by have:=h.2;have:=aJ t;omega
theorem aq3:∀f,(∀lv s,Okr (Gd s.p) (l9 T f lv s))/\(∀lv n s,bOk n->Okr (λt s'=>bOk t/\siz t+s.p<=siz n+s'.p) (dP T f lv n s))/\
 (∀b lv s,Okr (Gd s.p) (aM T f b lv s))/\(∀s,Okr (Gd s.p) (dK T f s)):=by
 intro f
 induction f with
 |zero=>exact⟨λ_ _=>by rw[l9];trivial,λ_ _ _ _=>by rw[dP];trivial,λ_ _ _=>by rw[aM];trivial,λ_=>by rw[dK];trivial⟩
 |succ f ih=>
  obtain⟨h1,h2,h3,h4⟩:=ih;refine⟨λlv s=>?_,λlv n s hn=>?_,λb lv s=>?_,λs=>?_⟩
  ·rw[l9];exact BK (λ_=>h3 _ _ _) λ_=>BK (λ_=>h3 _ _ _) λ_=>BK (λ_=>h4 _) λ_=>(h1 _ _).bind λt s1 e=>(h2 _ _ _ e.1).mono λu s2 e2=>⟨e2.1,by have:=e.2;have:=e2.2;omega⟩
  ·rw[dP];refine BK (λ_=>(h1 _ _).bind λt s1 e=>?_) λ_=>⟨hn,Nat.le_refl _⟩;have e3:siz t+(s.p+1)<=s1.p:=e.2;refine BK (λ_=>⟨bk (by decide) (bk2 hn e.1),?_⟩) λ_=>(h2 _ _ _ (bk (by decide) (bk2 hn e.1))).mono λu s2 e2=>⟨e2.1,?_⟩
   ·rw[hn3];omega
   ·have:=e2.2;rw[hn3]at this;omega
  ·rw[aM];refine(ax5 b s).bind λ_ s1 e1=>(h1 lv s1).bind λt s2 e2=>⟨bk (by decide) (bk1 e2.1),?_⟩;show siz _+s.p<=s2.p;have:=e2.2;rw[fk1];omega
  ·rw[dK];refine BK (λ_=>bl3 s) λ_=>?_;refine BK (λ_=>⟨?_,?_⟩) λ_=>BK (λ_=>⟨?_,?_⟩) λ_=>BK (λ_=>?_) λ_=>BK (λ_=>?_) λ_=>?_
   ·rw[bOk];exact⟨λ_=>rfl,bk0⟩
   ·show 1+0+s.p<=s.p+1;omega
   ·rw[bOk];exact⟨λ_=>rfl,bk0⟩
   ·show 1+0+s.p<=s.p+1;omega
   ·refine(kF _ _).bind λ_ s1 e1=>(yT s1).bind λx s2 e2=>⟨bk (by decide) bk0,?_⟩;have e1:s1.p=s.p+1+1:=e1;show 1+0+s.p<=s2.p;omega
   ·refine(ax5 _ s).bind λ_ s1 e1=>(h1 1 s1).bind λt s2 e2=>(kF _ s2).bind λ_ s3 e3=>e2.mono (by omega) ?_;show s2.p<=s3.p;omega
   ·refine(yT s).bind λx s1 e1=>⟨bk (by decide) bk0,?_⟩;show 1+0+s.p<=s1.p;omega
theorem ac7(n:Tr)(s:PS):Okr (λt s'=>t=n/\s'.p=s.p+1) (Lx.endP T n s):=(kF _ s).bind λ_ s1 e=>⟨rfl,e⟩
theorem fb0(f:Nat){k:Int}(hk:k≠16)(x:ByteArray)(s:PS):Okr (Gd s.p) (ba1 T f k x s):=
 (kF _ s).bind λ_ s1 e1=>((aq3 f).1 1 s1).bind λt s2 e2=>(ac7 _ s2).mono λu s3 e3=>by obtain⟨rfl,e3⟩:=e3;exact⟨bk hk (bk1 e2.1),by have:=e2.2;rw[fk1];omega⟩
theorem fj1(f:Nat){k:Int}(hk:k≠16)(s:PS):Okr (Gd s.p) (Lx.oneP T f k s):=
 ((aq3 f).1 1 s).bind λt s2 e2=>(ac7 _ s2).mono λu s3 e3=>by obtain⟨rfl,e3⟩:=e3;exact⟨bk hk (bk1 e2.1),by have:=e2.2;rw[fk1];omega⟩
theorem fa3{k:Int}(hk:k≠16)(s:PS):Okr (Gd s.p) (bz0 T k s):=
 (bl3 s).bind λt s2 e2=>(ac7 _ s2).mono λu s3 e3=>by obtain⟨rfl,e3⟩:=e3;exact⟨bk hk (bk1 e2.1),by have:=e2.2;rw[fk1];omega⟩
theorem fr1(f:Nat)(s:PS):Okr (Gd s.p) (an3 T f s):=
 ((aq3 f).1 1 s).bind λt s1 e1=>(kF _ s1).bind λ_ s2 e2=>(bl3 s2).bind λn s3 e3=>(ac7 _ s3).mono λu s4 e4=>by obtain⟨rfl,e4⟩:=e4;exact⟨bk (by decide) (bk2 e1.1 e3.1),by have:=e1.2;have:=e3.2;rw[hn3];omega⟩
theorem fd7{k:Int}(hk:k≠16)(hi:Int)(s:PS):Okr (Gd s.p) (cb2 T k hi s):=
 (bm4 _ _ s).bind λn s2 e2=>(ac7 _ s2).mono λu s3 e3=>by obtain⟨rfl,e3⟩:=e3;exact⟨bk hk bk0,by rw[ht5];omega⟩
theorem fe0{k:Int}(hk:k≠16)(b:ByteArray)(s:PS):Okr (Gd s.p) (bu8 T k b s):=
 (bm4 _ _ s).bind λn s1 e1=>(kF _ s1).bind λ_ s2 e2=>(bl3 s2).bind λt s3 e3=>(ac7 _ s3).mono λu s4 e4=>by obtain⟨rfl,e4⟩:=e4;exact⟨bk hk (bk1 e3.1),by have:=e3.2;rw[fk1];omega⟩
theorem gk1:∀f,(∀s,Okr (λt s'=>bOk t/\siz t+1+s.p<=s'.p) (t8 T f s))/\(∀s,Okr (λl s'=>oD l/\i9 l+1+s.p<=s'.p) (s8 T f s))/\(∀s,Okr (Gd s.p) (m9 T f s)):=by
 intro f
 induction f with
 |zero=>exact⟨λ_=>by rw[t8];trivial,λ_=>by rw[s8];trivial,λ_=>by rw[m9];trivial⟩
 |succ f ih=>
  obtain⟨h1,h2,h3⟩:=ih;refine⟨λs=>?_,λs=>?_,λs=>?_⟩
  ·rw[t8];refine(ax5 _ s).bind λ_ s1 e1=>(h2 s1).bind λl s2 e2=>⟨bk (by decide) e2.1,?_⟩;show 1+i9 l+1+s.p<=s2.p;have:=e2.2;omega
  ·rw[s8];refine BK (λ_=>⟨bk0,?_⟩) λ_=>(h3 s).bind λt s1 e1=>(h2 s1).bind λl s2 e2=>⟨?_,?_⟩
   ·show 0+1+s.p<=s.p+1;omega
   ·simp only[oD];exact⟨e1.1,e2.1⟩
   ·show siz t+i9 l+1+s.p<=s2.p;have:=e1.2;have:=e2.2;omega
  ·rw[m9];have ea:(adv s).p=s.p+1:=rfl;have up:∀{r:PR Tr},Okr (Gd (adv s).p) r->Okr (Gd s.p) r:=λh=>h.mono λt s' e=>e.mono (by omega) (Nat.le_refl _);refine BK (λ_=>(do4 _).bind λx s1 e1=>(fb0 f (by decide) x s1).mono λt s2 e2=>e2.mono (by omega) (Nat.le_refl _)) λ_=>?_;refine BK (λ_=>?_) λ_=>?_
   ·refine((aq3 f).1 1 _).bind λc s1 e1=>(h1 s1).bind λy s2 e2=>BK (λ_=>(h1 _).bind λn s3 e3=>⟨bk (by decide) (bk3 e1.1 e2.1 e3.1),?_⟩) λ_=>⟨bk (by decide) (bk3 e1.1 e2.1 (bk (by decide) bk0)),?_⟩
    ·have e4:siz n+1+(s2.p+1)<=s3.p:=e3.2;have:=e1.2;have:=e2.2;rw[hq4];omega
    ·have:=e1.2;have:=e2.2;rw[hq4,ht5];omega
   refine BK (λ_=>?_) λ_=>?_
   ·refine(bm4 _ _ _).bind λn s1 e1=>(h1 s1).bind λy s2 e2=>⟨bk (by decide) (bk1 e2.1),?_⟩;have:=e2.2;rw[fk1];omega
   refine BK (λ_=>up (fr1 f _)) λ_=>BK (λ_=>up (fa3 (by decide) _)) λ_=>BK (λ_=>up (fa3 (by decide) _)) λ_=>BK (λ_=>up (fj1 f (by decide) _)) λ_=>BK (λ_=>up (fj1 f (by decide) _)) λ_=>BK (λ_=>up (fe0 (by decide) _ _)) λ_=>BK (λ_=>up (fe0 (by decide) _ _)) λ_=>BK (λ_=>up (fd7 (by decide) _ _)) λ_=>BK (λ_=>up (fd7 (by decide) _ _)) λ_=>?_;exact(yT s).bind λx s1 e1=>(fb0 f (by decide) x s1).mono λt s2 e2=>e2.mono (by omega) (Nat.le_refl _)
theorem gx1(s:PS):Okr (λ_ s'=>s.p+1<=s'.p) (ak6 T s):=by
 unfold ak6;refine(do4 s).bind λx s1 e1=>BK (λ_=>BK (λ_=>trivial) λ_=>BK (λ_=>trivial) λ_=>?_) λ_=>?_
 ·show s.p+1<=s1.p+1+1;omega
 ·show s.p+1<=s1.p;omega
theorem ds3:∀f s,Okr (λl s'=>l.length+s.p<=s'.p) (aj0 T f s)
 |0,s=>by rw[aj0];trivial
 |f+1,s=>by
  rw[aj0];refine(gx1 s).bind λx s1 e1=>BK (λ_=>(ds3 f _).bind λl s2 e2=>?_) λ_=>(kF _ s1).bind λ_ s2 e2=>?_
  ·have e2:l.length+(s1.p+1)<=s2.p:=e2;show l.length+1+s.p<=s2.p;omega
  ·show 1+s.p<=s2.p;omega
theorem ey6(f:Nat)(s:PS):Okr (λl s'=>l.length+s.p<=s'.p) (aU T f s):=by
 unfold aU;refine(kF _ s).bind λ_ s1 e1=>BK (λ_=>?_) λ_=>(ds3 f s1).mono λl s2 e2=>by omega
 show 0+s.p<=s1.p+1;omega
def SmC(n:Nat)(c:Prc):Prop:=bOk c.b/\siz c.b<=n/\c.ps.length<=n
theorem cj8:∀f pr s,Okr (λl s'=>l.length+s.p<=s'.p/\∀c∈l,SmC s'.p c) (n7 T f pr s)
 |0,pr,s=>by rw[n7];trivial
 |f+1,pr,s=>by
  rw[n7];refine BK (λ_=>⟨by simp,λc hc=>by cases hc⟩) λ_=>?_
  have hp:Okr (λc s'=>s.p+1<=s'.p/\SmC s'.p c) (iD T f pr s):=by
   unfold iD;refine(kF _ s).bind λ_ s1 e1=>(yT s1).bind λx s2 e2=>BK (λ_=>trivial) λ_=>(ey6 f _).bind λl s3 e3=>((gk1 f).1 s3).bind λb s4 e4=>?_;have e3:l.length+s2.p<=s3.p:=e3;have:=e4.2;exact⟨by omega,e4.1,by show siz b<=_;omega,by show l.length<=_;omega⟩
  refine hp.bind λc s1 e1=>(cj8 f _ s1).bind λl s2 e2=>⟨?_,λd hd=>?_⟩
  ·show l.length+1+s.p<=s2.p;have:=e1.1;have:=e2.1;omega
  ·rcases List.mem_cons.1 hd with h|h
   ·rw[h];have:=e1.2;have:=e2.1;exact⟨e1.2.1,Nat.le_trans e1.2.2.1 (by omega),Nat.le_trans e1.2.2.2 (by omega)⟩
   ·exact e2.2 d h
end
theorem yL{s:ByteArray}{r:List Prc×Int×Int}(h:X5 s r):r.1.length<=5000/\∀c∈r.1,SmC 5000 c:=by
 cases h with
 |lex p e g1 g2=>exact⟨by simp,λc hc=>by cases hc⟩
 |err acc p c g1 g2 g3 g4=>exact⟨by simp,λc hc=>by cases hc⟩
 |ok acc l s' g1 g2 g3=>
  have h1:=cj8 (T:=aA s acc) ai9 [] ⟨0,0,[]⟩;have h2:=bb3 g2 ai9 [] ⟨0,0,[]⟩ g2.pos (by have:=g2.big;show 20*(acc.length+1-0)+13<=100000;omega);rw[g3]at h1 h2;have hb:=g2.big;have h3:s'.p<acc.length+1:=h2.2;obtain⟨h4,h5⟩:=h1;have h4:l.length+0<=s'.p:=h4;refine⟨by show l.length<=5000;omega,λc hc=>?_⟩;have:=h5 c hc;exact⟨this.1,Nat.le_trans this.2.1 (by omega),Nat.le_trans this.2.2 (by omega)⟩
theorem gl0:∀(l:List Tr) (j:Nat) (t:Tr),l[j]? =some t->(eQ l).getD j dfl=iX t
 | [],j,t,h=>by simp at h
 |a::l,0,t,h=>by simp only[List.getElem?_cons_zero,Option.some.injEq]at h;subst h;simp only[eQ,List.getD_cons_zero]
 |a::l,j+1,t,h=>by simp only[eQ,List.getD_cons_succ];exact gl0 l j t (by simpa using h)
theorem ch3(k n:Int)(s:ByteArray)(l:List Tr):iX (.node k n s l)=[i64 k,i64 n,st s,.ro 4 l.length (λj=>(eQ l).getD j dfl)]:=by simp only[iX]
theorem gs7(l:List Tr):hJ (λj=>(eQ l).getD j dfl):=λj=>by
 show(eQ l).getD j dfl=_;unfold opK opN opS opM opF;dsimp only;by_cases h:j<l.length
 ·rw[gl0 l j _ (List.getElem?_eq_getElem h)];generalize l[j]=t;obtain⟨k,n,s,m⟩:=t;rw[ch3];rfl
 ·have hl:∀l:List Tr,(eQ l).length=l.length:=λl=>by
   induction l with
   |nil=>simp[eQ]
   |cons a l ih=>simp[eQ,ih]
  rw[List.getD_eq_getElem?_getD,List.getElem?_eq_none (by rw[hl];omega)];rfl
theorem bd0 : ∀ (n : Nat) (t : Tr), siz t <= n -> n <= 5000 -> ∀ f : Nat -> List V, ∀ j, f j = iX t -> Rep t (o6 f j)
  | 0, t, h, _, _, _, _ => by have := aJ t; omega
  | n + 1, .node k a s l, h, hn, f, j, e => by
    simp only [siz] at h;have hll := gG l;rw [ch3] at e
    have hk : o6 f j = (k, a, s, l.length, λj => (eQ l).getD j dfl) := by
      unfold o6 opK opN opS opM opF;rw [e]; rfl
    rw [hk];rw [Rep]
    refine ⟨rfl, rfl, rfl, rfl, by have : Go.maxLen = 9223372036854775807 := by decide
                                   omega, gs7 l, da5 l _ 0 λi t' e' => ?_⟩
    have hi := bn3 l i t' e';exact bd0 n t' (by omega) (by omega) _ _ (by rw [Nat.zero_add]; exact gl0 l i t' e')
end
end Go.Proofs.YtbmbhcheonjigaaGreatDoor.Ty
namespace Go.Proofs.YtbmbhcheonjigaaGreatDoor
section
open Go Go.Am Go.Proofs
abbrev qR:Type:=ByteArray×Int×Int×Nat×(Nat->Int)×(Nat->Int)×ByteArray×Int×Int×Nat×(Nat->Int)×(Nat->Int)
def gp0:AR qR:=λx=>([.agg [st (x.1),i64 (x.2.1),i64 (x.2.2.1),.ro 2 (x.p3) (λi=>[i64 (x.p4 i),i64 (x.p5 i)])],.agg [st (x.p6),i64 (x.p7),i64 (x.p8),.ro 2 (x.p9) (λi=>[i64 (x.p10 i),i64 (x.q11 i)])]],[])
theorem hm1:VI gp0:=vd λt=>((vS (ca t 0 0)),(vI (ca t 0 1)),(vI (ca t 0 2)),(r7 (ca t 0 3)),(dTI (ca t 0 3) 0),(dTI (ca t 0 3) 1),(vS (ca t 1 0)),(vI (ca t 1 1)),(vI (ca t 1 2)),(r7 (ca t 1 3)),(dTI (ca t 1 3) 0),(dTI (ca t 1 3) 1))
def fx6(x:qR)(y:Int):St:={fr:=[V.junk,V.junk,V.ptr 0 0,V.ptr 1 0,V.junk,i64 y]++jk 46,H:=hp [some (Z1.blk [st (x.1),i64 (x.2.1),i64 (x.2.2.1),V.ro 2 (x.p3) λj=>[i64 (x.p4 j),i64 (x.p5 j)]]),some (Z1.blk [st (x.p6),i64 (x.p7),i64 (x.p8),V.ro 2 (x.p9) λj=>[i64 (x.p10 j),i64 (x.q11 j)]])],nx:=2,rt:=0,me:=45}
theorem fm6(x:qR):VL (fx6 x):=vl λs=>(vI (fv s 5))
def ft4(x:qR):y7->Ex×St:=(Sum.elim (λz=>(Ex.ret,{fr:=jk 4++[bo false]++jk 47,H:=hp [],nx:=0,rt:=0,me:=45})) (λz=>(Ex.exit 0,{fr:=[V.junk]++jk 51,H:=hp [],nx:=0,rt:=0,me:=45})))
abbrev ae4{β:Type}(x:qR)(y:Int)(nx:Int->Option β)(dn:y7->Option β):Option β:=
 U12 x λA B C D E F G H I J K L=>if decide (y< (D:Int)) then if 0<=y/\y< (D:Int)then if 0<=y/\y< (J:Int)then if(if true then !(E (Int.toNat y)==K (Int.toNat y)&&(F (Int.toNat y)==L (Int.toNat y)&&true))else E (Int.toNat y)==K (Int.toNat y)&&(F (Int.toNat y)==L (Int.toNat y)&&true)) then dn (.inl ())else nx (w (y+1))else none else none else dn (.inr ())
noncomputable def fb2(q:Nat)(x:qR):Int->Option y7:=lpG (λy=>ae4 x y (λy=>some (.inl y)) (λz=>some (.inr z))) q
abbrev eh7{β:Type}(A:Int->Option y7)(x:qR)(dn:Bool->Option β):Option β:=
 U11 x λB C D E F G H I J K L=>if(!ByteArray.toList (B)==ByteArray.toList (H)) then dn false else if(C !=I) then dn false else if(D !=J) then dn false else if((E:Int)!=(K:Int)) then dn false else(A (0)).bind λa=>Sum.elim (λb=>dn false) (λc=>dn true) a
noncomputable def X6(q:Nat)(x:qR):Option Bool:=eh7 (fb2 q x) x some
theorem gx7(q:Nat):Lw E5 45 gp0 qX (X6 q):=have K:=kn;sl hW5 hX5 K (λx=>(lc 0 (fm6 x) (lp hX5 (ft4 x) 45 0 44 [(0,0)] 16 K ln q λc l β=>ae4 (β:=β) x) ln)) λc l β=>eh7 (β:=β) l.1
abbrev dF:Type:=Nat×(Nat->ByteArray)×(Nat->Int)×(Nat->Int)×(Nat->Nat)×(Nat->Nat->Int)×(Nat->Nat->Int)×Nat×(Nat->ByteArray)×(Nat->Int)×(Nat->Int)×(Nat->Nat)×(Nat->Nat->Int)×(Nat->Nat->Int)
def cb1:AR dF:=λx=>([.ro 4 x.1 (λj=>[st (x.2.1 j),i64 (x.2.2.1 j),i64 (x.p3 j),.ro 2 (x.p4 j) (λi=>[i64 (x.p5 j i),i64 (x.p6 j i)])]),.ro 4 x.p7 (λj=>[st (x.p8 j),i64 (x.p9 j),i64 (x.p10 j),.ro 2 (x.p11 j) (λi=>[i64 (x.p12 j i),i64 (x.q13 j i)])])],[])
theorem bu6:VI cb1:=vd λt=>(r7 (ag t 0),(dTS (ag t 0) 0),(dTI (ag t 0) 1),(dTI (ag t 0) 2),(dTN (ag t 0) 3),(λj i=>vI ((aW ((aW (ag t 0) j).getD 3 .junk) i).getD 0 .junk)),(λj i=>vI ((aW ((aW (ag t 0) j).getD 3 .junk) i).getD 1 .junk)),r7 (ag t 1),(dTS (ag t 1) 0),(dTI (ag t 1) 1),(dTI (ag t 1) 2),(dTN (ag t 1) 3),(λj i=>vI ((aW ((aW (ag t 1) j).getD 3 .junk) i).getD 0 .junk)),(λj i=>vI ((aW ((aW (ag t 1) j).getD 3 .junk) i).getD 1 .junk)))
def cg2(x:dF)(y:Int):St:={fr:=[V.ro 4 (x.1) λj=>[st (x.2.1 j),i64 (x.2.2.1 j),i64 (x.p3 j),V.ro 2 (x.p4 j) λj_1=>[i64 (x.p5 j j_1),i64 (x.p6 j j_1)]],V.ro 4 (x.p7) λj=>[st (x.p8 j),i64 (x.p9 j),i64 (x.p10 j),V.ro 2 (x.p11 j) λj_1=>[i64 (x.p12 j j_1),i64 (x.q13 j j_1)]],V.junk,V.junk,V.junk,i64 y]++jk 21,H:=hp [],nx:=0,rt:=0,me:=12}
theorem cf9(x:dF):VL (cg2 x):=vl λs=>(vI (fv s 5))
def cg5(x:dF):y7->Ex×St:=(Sum.elim (λz=>(Ex.ret,{fr:=jk 4++[bo false]++jk 22,H:=hp [],nx:=0,rt:=0,me:=12})) (λz=>(Ex.exit 0,{fr:=[V.junk]++jk 26,H:=hp [],nx:=0,rt:=0,me:=12})))
abbrev lY{β:Type}(A:qR->Option Bool)(x:dF)(y:Int)(nx:Int->Option β)(dn:y7->Option β):Option β:=
 U14 x λB C D E F G H I J K L M N O=>if decide (y< (B:Int)) then if 0<=y/\y< (B:Int)then if 0<=y/\y< (I:Int)then(A ((C (Int.toNat y),D (Int.toNat y),E (Int.toNat y),F (Int.toNat y),G (Int.toNat y),H (Int.toNat y),J (Int.toNat y),K (Int.toNat y),L (Int.toNat y),M (Int.toNat y),N (Int.toNat y),O (Int.toNat y)))).bind λa=>if(!a) then dn (.inl ())else nx (w (y+1))else none else none else dn (.inr ())
noncomputable def bf2(A:qR->Option Bool)(q:Nat)(x:dF):Int->Option y7:=lpG (λy=>lY A x y (λy=>some (.inl y)) (λz=>some (.inr z))) q
abbrev an2{β:Type}(A:qR->Option Bool)(B:Int->Option y7)(x:dF)(dn:Bool->Option β):Option β:=
 if((x.1:Int)!=(x.2.2.2.2.2.2.2.1:Int)) then dn false else(B (0)).bind λa=>Sum.elim (λb=>dn false) (λc=>dn true) a
noncomputable def rB(q:Nat)(x:dF):Option Bool:=an2 (X6 q) (bf2 (X6 q) q x) x some
theorem be5(q:Nat):Lw E5 12 cb1 qX (rB q):=have K:=(kc hm1 (gx7 q) kn);sl hW5 hX5 K (λx=>(lc 0 (cf9 x) (lp hX5 (cg5 x) 12 0 35 [(0,0)] 16 K ln q λc l β=>lY (β:=β) c.1 x) ln)) λc l β=>an2 (β:=β) c.1 l.1
end
end Go.Proofs.YtbmbhcheonjigaaGreatDoor
namespace Go.Proofs.YtbmbhcheonjigaaGreatDoor.Ty
section
open Go Go.Am Go.Proofs Go.Proofs.YtbmbhcheonjigaaGreatDoor
def gs1(x y:ByteArray×Int×Int×f0):Prop:=x.1=y.1/\x.2.1=y.2.1/\x.2.2.1=y.2.2.1/\x.2.2.2.1=y.2.2.2.1/\(∀j,j<x.2.2.2.1->x.2.2.2.2.1 j=y.2.2.2.2.1 j/\x.2.2.2.2.2 j=y.2.2.2.2.2 j)/\x.2.2.2.1<=300
theorem gx2{A:CoT}{n:ByteArray}{p v:Int}{x y:f0}(hx:Y3 A x)(hy:Y3 A y)(h:A.length<=300):gs1 (n,p,v,x) (n,p,v,y):=by
 have h1:=hx.1;have h2:=hy.1;refine⟨rfl,rfl,rfl,h1.trans h2.symm,λj hj=>?_,by show x.1<=300;omega⟩;have hj:j<A.length:=by rw[<-h1];exact hj
 have e:=List.getElem?_eq_getElem hj;have e1:=hx.2 j _ e;have e2:=hy.2 j _ e;exact⟨e1.1.trans e2.1.symm,e1.2.trans e2.2.symm⟩
theorem hn0{x y:ByteArray×Int×Int×f0}{q:Nat}(h:gs1 x y)(hq:301<q):Z2 (X6 q (x.1,x.2.1,x.2.2.1,x.2.2.2.1,x.2.2.2.2.1,x.2.2.2.2.2,y)) (λb=>b=true):=by
 obtain⟨n,p,v,l,o,a⟩:=x;obtain⟨n',p',v',l',o',a'⟩:=y;obtain⟨h1,h2,h3,h4,h5,h6⟩:=h;simp only at h1 h2 h3 h4 h5 h6;subst h1 h2 h3 h4
 have key:∀(r i q:Nat),i+r=l->r<q->Z2 (fb2 q (n,p,v,l,o,a,n,p,v,l,o',a') (i:Int)) (λg=>Sum.elim (λ_=>False) (λ_=>True) g):=by
  intro r
  induction r with
  |zero=>
   intro i q hi hq;obtain⟨q,rfl⟩:∃k,q=k+1:=⟨q-1,by omega⟩;refine i6 ?_;dsimp only[ae4,U12];exact BE (by rw[decide_eq_true_eq];omega) (BC trivial)
  |succ r ih=>
   intro i q hi hq;obtain⟨q,rfl⟩:∃k,q=k+1:=⟨q-1,by omega⟩;obtain⟨g1,g2⟩:=h5 i (by omega);have nx:=ih (i+1) q (by omega) (by omega);refine i6 ?_;dsimp only[ae4,U12];refine BD (by rw[decide_eq_true_eq];omega) (BD (by omega) (BD (by omega) (BE ?_ (BC ?_))))
   ·rw[Int.toNat_natCast,g1,g2];simp
   ·rw[o7 (by omega)];exact nx
 unfold X6 eh7 U11;dsimp only;refine BE (by simp) (BE (by simp) (BE (by simp) (BE (by simp) ?_)));refine BB (key l 0 q (by omega) (by omega)) λz hz=>?_;rcases z with z|z
 ·exact hz.elim
 ·exact BC rfl
abbrev ah8:Type:=Nat×(Nat->ByteArray)×(Nat->Int)×(Nat->Int)×(Nat->Nat)×(Nat->Nat->Int)×(Nat->Nat->Int)
abbrev cAt(x:ah8)(j:Nat):ByteArray×Int×Int×f0:=(x.2.1 j,x.2.2.1 j,x.2.2.2.1 j,x.2.2.2.2.1 j,x.2.2.2.2.2.1 j,x.2.2.2.2.2.2 j)
theorem al6{x y:ah8}{q:Nat}(h0:x.1=y.1)(h:∀j,j<x.1->gs1 (cAt x j) (cAt y j))(hl:(x.1:Int)<BG)(hq:x.1+301<q):Z2 (rB q (x.1,x.2.1,x.2.2.1,x.2.2.2.1,x.2.2.2.2.1,x.2.2.2.2.2.1,x.2.2.2.2.2.2,y)) (λb=>b=true):=by
 obtain⟨n,c1,c2,c3,c4,c5,c6⟩:=x;obtain⟨n',d1,d2,d3,d4,d5,d6⟩:=y;simp only at h0;subst h0;have hBG:BG=1000000000:=rfl;have hl:(n:Int)<BG:=hl;have hq:n+301<q:=hq
 have key:∀(r i qq:Nat),i+r=n->r<qq->Z2 (bf2 (X6 q) qq (n,c1,c2,c3,c4,c5,c6,n,d1,d2,d3,d4,d5,d6) (i:Int)) (λg=>Sum.elim (λ_=>False) (λ_=>True) g):=by
  intro r
  induction r with
  |zero=>
   intro i qq hi hqq;obtain⟨qq,rfl⟩:∃k,qq=k+1:=⟨qq-1,by omega⟩;refine i6 ?_;dsimp only[lY,U14];exact BE (by rw[decide_eq_true_eq];omega) (BC trivial)
  |succ r ih=>
   intro i qq hi hqq;obtain⟨qq,rfl⟩:∃k,qq=k+1:=⟨qq-1,by omega⟩;have nx:=ih (i+1) qq (by omega) (by omega);refine i6 ?_;dsimp only[lY,U14];refine BD (by rw[decide_eq_true_eq];omega) (BD (by omega) (BD (by omega) ?_));refine BB (P:=λb=>b=true) (by rw[Int.toNat_natCast];exact hn0 (h i (by show i<n;omega)) (by omega)) λb hb=>?_;subst hb;refine BE (by decide) (BC ?_);rw[o7 (by omega)];exact nx
 unfold rB an2;dsimp only;refine BE (by simp) ?_;refine BB (key n 0 q (by omega) (by omega)) λz hz=>?_;rcases z with z|z
 ·exact hz.elim
 ·exact BC rfl
end
section
open Go Go.Am Go.Proofs Go.Proofs.YtbmbhcheonjigaaGreatDoor
open Go.Proofs.Lx (Tr)
theorem fa9(q:Nat)(u:ByteArray):Z2 (gT q u) (λz=>z=n8 u/\R8 (z.1,z.2.1,z.2.2.1,z.2.2.2.1,z.2.2.2.2.1)):=by
 obtain⟨z,h1,h2,h3,_⟩:=nB 0 q u;refine⟨z,h2,?_,h3⟩;have:=sN 0 u;rw[h1]at this;exact Option.some.inj this
def fx5(r:Int×Sg)(z:eD):Prop:=Sum.elim (λe=>e≠0/\r.1=e) (Sum.elim (λ_=>r=(0,0,λ_=>none)) (λv=>r.1=0/\VOk v/\gO v=r.2)) z
theorem cg9{u:ByteArray}(h:¬u={data:=#[]})(hf:¬(n8 u).2.2.2.2.2.2=true):nA u=none:=by unfold nA;rw[if_neg h,if_neg hf]
theorem cn9{u:ByteArray}(h:¬u={data:=#[]})(hf:(n8 u).2.2.2.2.2.2=true):nA u=some ((n8 u).1,(n8 u).2.1,(n8 u).2.2.1,(n8 u).2.2.2.1,(n8 u).2.2.2.2.1):=by unfold nA;rw[if_neg h,if_pos hf]
theorem cp0{u:ByteArray}(h:u={data:=#[]}):nA u=some (0,0,0,0,0):=by unfold nA;rw[if_pos h]
theorem ci2{pa pu:Nat->ByteArray}{r i:Nat}{g:Sg}(h:nA (pu i)=none):jD pa pu (r+1) i g=(10,g):=by rw[jD,h]
theorem cj3{pa pu:Nat->ByteArray}{r i:Nat}{g:Sg}{d:dR}(h:nA (pu i)=some d):jD pa pu (r+1) i g=if(cW (pa i) d g).1=0 then jD pa pu r (i+1) (cW (pa i) d g).2 else cW (pa i) d g:=by rw[jD,h]
theorem ha6{pm:Nat}{pa pu:Nat->ByteArray}{q':Nat}(hm:pm<=9223372036854775807)(hq':20<q'):
 ∀(r q i:Nat) (v:kM),i+r=pm->r<q->VOk v->Z2 (tO (gT q') (rK q') (aw7 q') q (pm,pa,pu) (.inr (v.1,v.2.1,v.2.2.1,v.2.2.2.1,v.2.2.2.2.1,v.2.2.2.2.2.1,v.2.2.2.2.2.2,(i:Int)))) (fx5 (jD pa pu r i (gO v))):=by
 intro r
 induction r with
 |zero=>
  intro q i v hi hq hv;obtain⟨q,rfl⟩:∃k,q=k+1:=⟨q-1,by omega⟩;refine i6 ?_;dsimp only[Sum.elim_inr];unfold oC U3 U8;exact BE (show¬decide ((i:Int)< (pm:Int))=true by simp only[decide_eq_true_eq];omega) (BC ⟨rfl,hv,rfl⟩)
 |succ r ih=>
  intro q i v hi hq hv;obtain⟨q,rfl⟩:∃k,q=k+1:=⟨q-1,by omega⟩;refine i6 ?_;dsimp only[Sum.elim_inr];unfold oC U3 U8;have hI:(0:Int)<=(i:Int)/\(i:Int)< (pm:Int):=⟨by omega,by omega⟩;refine BD (show decide ((i:Int)< (pm:Int))=true by simp only[decide_eq_true_eq];omega) (BD hI ?_);dsimp only;rw[Int.toNat_natCast,o7 (i:=i) (by omega)]
  have dcl:∀d:dR,nA (pu i)=some d->R8 d->Z2 ((aw7 q' (v.1,v.2.1,v.2.2.1,v.2.2.2.1,v.2.2.2.2.1,v.2.2.2.2.2.1,v.2.2.2.2.2.2,pa i,d.1,d.2.1,d.2.2.1,d.2.2.2.1,d.2.2.2.2)).bind λz=>if(z.2.2.2.2.2.2.2 !=(0:Int)) then(some (.inr (.inl z.2.2.2.2.2.2.2)):Option (gC⊕eD))else some (.inl (.inr (mkD (cf7 z) ((i+1:Nat):Int)))))
   (λr'=>Sum.elim (λy'=>Z2 (tO (gT q') (rK q') (aw7 q') q (pm,pa,pu) y') (fx5 (jD pa pu (r+1) i (gO v)))) (fx5 (jD pa pu (r+1) i (gO v))) r'):=λd hd h8=>by
   refine BB (gm2 hv h8 hq') λz hz=>?_;obtain⟨h1,h2⟩:=hz;rw[cj3 hd];refine BF (λh=>BC ?_) λh=>BC ?_
   ·have h:¬z.2.2.2.2.2.2.2=0:=by simpa using h
    have h:¬cf0 z=0:=h;rw[if_neg (by rw[<-h1];exact h)];exact⟨h,h1.symm⟩
   ·have h:z.2.2.2.2.2.2.2=0:=by simpa using h
    have h:cf0 z=0:=h;obtain⟨h3,h4⟩:=h2 h;rw[if_pos (by rw[<-h1];exact h),<-h4];exact ih q (i+1) (cf7 z) (by omega) (by omega) h3
  refine BF (λh=>BD hI ?_) λh=>BD hI ?_
  ·have h:¬pu i={data:=#[]}:=λe=>by
    rw[e]at h;simp at h
   refine BB (fa9 q' (pu i)) λz hz=>?_;obtain⟨rfl,h8⟩:=hz;by_cases hf:(n8 (pu i)).2.2.2.2.2.2=true
   ·refine BE (by rw[hf];decide) (BD hI ?_);exact dcl ((n8 (pu i)).1,(n8 (pu i)).2.1,(n8 (pu i)).2.2.1,(n8 (pu i)).2.2.2.1,(n8 (pu i)).2.2.2.2.1) (cn9 h hf) h8
   ·refine BD (by simpa using hf) (BC ?_);rw[ci2 (cg9 h hf)];exact⟨by decide,rfl⟩
  ·have h:pu i={data:=#[]}:=tl_eq.1 (by simpa using h);exact dcl (0,0,0,0,0) (cp0 h) r8z
theorem gv4{pm:Nat}{pa pu:Nat->ByteArray}{q':Nat}(hm:pm<=9223372036854775807)(hq':20<q'){q:Nat}(hq:pm<q):Z2 (tO (gT q') (rK q') (aw7 q') q (pm,pa,pu) (.inl ())) (fx5 (jD pa pu pm 0 (0,λ_=>none))):=by
 obtain⟨q,rfl⟩:∃k,q=k+1:=⟨q-1,by omega⟩;refine i6 ?_;dsimp only[Sum.elim_inl];unfold wT U3;refine BF (λh=>?_) λh=>BC ?_
 ·have h:(0:Int)< (pm:Int):=of_decide_eq_true h;have hI:(0:Int)<=(0:Int)/\(0:Int)< (pm:Int):=⟨by omega,h⟩;obtain⟨r,rfl⟩:∃r,pm=r+1:=⟨pm-1,by omega⟩;refine BD hI ?_;dsimp only
  have dcl:∀d:dR,nA (pu 0)=some d->R8 d->Z2 ((rK q' (pa 0,d.1,d.2.1,d.2.2.1,d.2.2.2.1,d.2.2.2.2)).bind λz=>if(z.2.2.2.2.2.2.2 !=(0:Int)) then(some (.inr (.inl z.2.2.2.2.2.2.2)):Option (gC⊕eD))else some (.inl (.inr (mkD (cf7 z) ((1:Nat):Int)))))
   (λr'=>Sum.elim (λy'=>Z2 (tO (gT q') (rK q') (aw7 q') q (r+1,pa,pu) y') (fx5 (jD pa pu (r+1) 0 (0,λ_=>none)))) (fx5 (jD pa pu (r+1) 0 (0,λ_=>none))) r'):=λd hd h8=>by
   refine BB (ha3 h8 hq') λz hz=>?_;obtain⟨h1,h2⟩:=hz;rw[cj3 hd];refine BF (λh=>BC ?_) λh=>BC ?_
   ·have h:¬z.2.2.2.2.2.2.2=0:=by simpa using h
    have h:¬cf0 z=0:=h;rw[if_neg (by rw[<-h1];exact h)];exact⟨h,h1.symm⟩
   ·have h:z.2.2.2.2.2.2.2=0:=by simpa using h
    have h:cf0 z=0:=h;obtain⟨h3,h4⟩:=h2 h;rw[if_pos (by rw[<-h1];exact h),<-h4];exact ha6 hm hq' r q 1 (cf7 z) (by omega) (by omega) h3
  refine BF (λh=>BD hI ?_) λh=>BD hI ?_
  ·have h:¬pu 0={data:=#[]}:=λe=>by
    rw[e]at h;simp at h
   refine BB (fa9 q' (pu 0)) λz hz=>?_;obtain⟨rfl,h8⟩:=hz;by_cases hf:(n8 (pu 0)).2.2.2.2.2.2=true
   ·refine BE (by rw[hf];decide) (BD hI ?_);exact dcl ((n8 (pu 0)).1,(n8 (pu 0)).2.1,(n8 (pu 0)).2.2.1,(n8 (pu 0)).2.2.2.1,(n8 (pu 0)).2.2.2.2.1) (cn9 h hf) h8
   ·refine BD (by simpa using hf) (BC ?_);rw[ci2 (cg9 h hf)];exact⟨by decide,rfl⟩
  ·have h:pu 0={data:=#[]}:=tl_eq.1 (by simpa using h);exact dcl (0,0,0,0,0) (cp0 h) r8z
 ·have h:¬(0:Int)< (pm:Int):=by simpa using h
  have:pm=0:=by omega
  subst this;rfl
theorem gl5{pm:Nat}{pa pu:Nat->ByteArray}(hm:pm<=9223372036854775807){q:Nat}(hq:pm+20<q):Z2 (at8 q (pm,pa,pu)) (Z9 (jD pa pu pm 0 (0,λ_=>none))):=by
 have key:Z2 (cs8 q (pm,pa,pu)) (λz=>Z9 (jD pa pu pm 0 (0,λ_=>none)) (co9 z)):=by
  unfold cs8 by9;refine BB (gv4 hm (by omega) (by omega)) λz hz=>?_;generalize jD pa pu pm 0 (0,λ_=>none)=r at hz⊢;rcases z with z|z|z
  ·obtain⟨h1,h2⟩:=hz;refine BC ?_;show Z9 r (mkD (0,(λ_=>ByteArray.empty),(λ_=>0),(λ_=>0),(λ_=>0),(λ_=>0),(λ_=>0)) z);exact Z9.bad h2.symm h1
  ·have hz:r=(0,0,λ_=>none):=hz;subst hz;refine BC ?_;refine⟨rfl,λ_=>⟨⟨by show(0:Nat)<=12;omega,λi j _ hj=>absurd hj (Nat.not_lt_zero _),λj hj=>absurd hj (Nat.not_lt_zero _)⟩,?_⟩⟩;refine Prod.ext rfl ?_;funext x;rfl
  ·obtain⟨h1,h2,h3⟩:=hz;refine BC ?_;exact⟨h1.symm,λ_=>⟨h2,h3⟩⟩
 obtain⟨z,h1,h2⟩:=key;unfold at8;rw[h1];exact⟨_,rfl,h2⟩
theorem dl2{pn:ByteArray}{pm:Nat}{pa pu:Nat->ByteArray}{b:Tr}{nd:n9}{q:Nat}(hr:Rep b nd)(hm:pm<=9223372036854775807)(hq:pm+2*siz b+50<q)(hs:siz b<=100000):
 Z2 (yN q (pn,pm,pa,pu,nd)) (λ(e:Int)=>e=lL pm pa pu b):=by
 unfold yN br0 lL U9;refine BB (gl5 hm (by omega)) λz hz=>?_;obtain⟨h1,h2⟩:=hz;generalize jD pa pu pm 0 (0,λ_=>none)=o at h1 h2⊢;have hkd:nd.1=kdT b:=cu8 hr;by_cases h0:cf0 z=0
 ·obtain⟨h3,h4⟩:=h2 h0;have h0':z.2.2.2.2.2.2.2=0:=h0;rw[if_pos (show o.1=0 by rw[<-h1];exact h0)];refine BE (by simpa using h0') ?_;by_cases hk:kdT b=14
  ·rw[if_pos hk,<-h4];refine BE (by show¬(!(nd.1==(14:Int)))=true;rw[hkd,hk];decide) (BB ((hr7 q).1 b nd (cf7 z) h3 hr (by omega) hs) λy hy=>BC hy.1)
  ·rw[if_neg hk];exact BD (by show(!(nd.1==(14:Int)))=true;rw[hkd];simpa using hk) (BC rfl)
 ·have h0':¬z.2.2.2.2.2.2.2=0:=h0;rw[if_neg (show¬o.1=0 by rw[<-h1];exact h0)];exact BD (by simpa using h0') (BC h1)
end
end Go.Proofs.YtbmbhcheonjigaaGreatDoor.Ty
