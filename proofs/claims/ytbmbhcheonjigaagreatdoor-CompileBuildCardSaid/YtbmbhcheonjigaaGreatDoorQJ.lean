/- Texts joined. -/
import Derived.Test.YtbmbhcheonjigaaGreatDoorQI
import Derived.Test.YtbmbhcheonjigaaGreatDoorQF
import Derived.Test.YtbmbhcheonjigaaGreatDoorQC
/- Build of both, lifted. -/
set_option linter.unusedSimpArgs false
set_option linter.defProp false
set_option linter.unusedVariables false
set_option maxRecDepth 100000
namespace Go.Proofs.YtbmbhcheonjigaaGreatDoor
section
open Go Go.Am Go.Proofs
abbrev oP:Type:=Int⊕(Nat×(Nat->ByteArray)×(Nat->Int)×(Nat->Int)×(Nat->Nat)×(Nat->Nat->List V))
def dd8:oP->Z3:=Sum.elim (λz:Int=>Z3.ret (V.tup [j0,i64 z]) []) (λz:Nat×(Nat->ByteArray)×(Nat->Int)×(Nat->Int)×(Nat->Nat)×(Nat->Nat->List V)=>Z3.ret (V.tup [V.sl 0 4 0 (z.1),i64 0]) [some (Z1.row 43 4 (z.1) λj=>[st (z.2.1 j),i64 (z.2.2.1 j),i64 (z.p3 j),V.ro 2 (z.p4 j) (z.q5 j)])])
abbrev iV:Type:=(Nat×(Nat->ByteArray)×(Nat->Nat)×(Nat->Nat->ByteArray)×(Nat->Nat->ByteArray)×(Nat->Int)×(Nat->Int)×(Nat->ByteArray)×(Nat->Nat)×(Nat->Nat->List V)×Int)⊕(Nat×(Nat->ByteArray)×(Nat->Nat)×(Nat->Nat->ByteArray)×(Nat->Nat->ByteArray)×(Nat->Int)×(Nat->Int)×(Nat->ByteArray)×(Nat->Nat)×(Nat->Nat->List V)×Int×(Nat->ByteArray)×(Nat->Int)×(Nat->Int)×(Nat->Nat)×Nat×Int×(Nat->Nat->List V))
abbrev cA:Type:=(Int)⊕(Unit)⊕(Nat×(Nat->ByteArray)×(Nat->Int)×(Nat->Int)×(Nat->Nat)×(Nat->Nat->List V))
def eb7(x:ByteArray)(y:Nat×(Nat->ByteArray)×(Nat->Nat)×(Nat->Nat->ByteArray)×(Nat->Nat->ByteArray)×(Nat->Int)×(Nat->Int)×(Nat->ByteArray)×(Nat->Nat)×(Nat->Nat->List V)×Int):St:={fr:=jk 7++[j0]++jk 14++[V.ro 6 (y.1) λj=>[st (y.2.1 j),V.ro 2 (y.2.2.1 j) λj_1=>[st (y.p3 j j_1),st (y.p4 j j_1)],i64 (y.p5 j),i64 (y.p6 j),st (y.p7 j),V.ro 4 (y.p8 j) (y.p9 j)],i64 (y.q10),i64 0]++jk 22,H:=hp [],nx:=0,rt:=0,me:=10}
def dv0(x:ByteArray)(y:Nat×(Nat->ByteArray)×(Nat->Nat)×(Nat->Nat->ByteArray)×(Nat->Nat->ByteArray)×(Nat->Int)×(Nat->Int)×(Nat->ByteArray)×(Nat->Nat)×(Nat->Nat->List V)×Int×(Nat->ByteArray)×(Nat->Int)×(Nat->Int)×(Nat->Nat)×Nat×Int×(Nat->Nat->List V)):St:={fr:=jk 7++[V.sl 0 4 0 (y.p15)]++jk 14++[V.ro 6 (y.1) λj=>[st (y.2.1 j),V.ro 2 (y.2.2.1 j) λj_1=>[st (y.p3 j j_1),st (y.p4 j j_1)],i64 (y.p5 j),i64 (y.p6 j),st (y.p7 j),V.ro 4 (y.p8 j) (y.p9 j)],i64 (y.p10),i64 (y.p16)]++jk 22,H:=hp [some (Z1.row 43 4 (y.p15) λj=>[st (y.p11 j),i64 (y.p12 j),i64 (y.p13 j),V.ro 2 (y.p14 j) (y.q17 j)])],nx:=1,rt:=0,me:=10}
def ej9(x:ByteArray):iV->St:=(Sum.elim (eb7 x) (dv0 x))
theorem eu4(x:ByteArray):VL (ej9 x):=vl λs=>(match s.nx==0 with|true=>(.inl (((r7 (fv s 22)),(dTS (fv s 22) 0),(dTN (fv s 22) 1),(λj i=>vS ((aW (((aW (fv s 22)) j).getD 1 .junk) i).getD 0 .junk)),(λj i=>vS ((aW (((aW (fv s 22)) j).getD 1 .junk) i).getD 1 .junk)),(dTI (fv s 22) 2),(dTI (fv s 22) 3),(dTS (fv s 22) 4),(dTN (fv s 22) 5),(dTF (fv s 22) 5),(vI (fv s 23))))) |false=>(.inr (((r7 (fv s 22)),(dTS (fv s 22) 0),(dTN (fv s 22) 1),(λj i=>vS ((aW (((aW (fv s 22)) j).getD 1 .junk) i).getD 0 .junk)),(λj i=>vS ((aW (((aW (fv s 22)) j).getD 1 .junk) i).getD 1 .junk)),(dTI (fv s 22) 2),(dTI (fv s 22) 3),(dTS (fv s 22) 4),(dTN (fv s 22) 5),(dTF (fv s 22) 5),(vI (fv s 23)),(dRS (s.H 0) 0),(dRI (s.H 0) 1),(dRI (s.H 0) 2),(dRN (s.H 0) 3),(aV (fv s 7)),(vI (fv s 24)),(dRF (s.H 0) 3)))))
def ey1(x:ByteArray):cA->Ex×St:=(Sum.elim (λz=>(Ex.ret,{fr:=[V.junk,V.junk,j0,i64 z]++jk 43,H:=hp [],nx:=0,rt:=0,me:=10})) (Sum.elim (λz=>(Ex.exit 0,{fr:=jk 7++[j0]++jk 39,H:=hp [],nx:=0,rt:=0,me:=10})) (λz=>(Ex.exit 0,{fr:=jk 7++[V.sl 0 4 0 (z.1)]++jk 39,H:=hp [some (Z1.row 43 4 (z.1) λj=>[st (z.2.1 j),i64 (z.2.2.1 j),i64 (z.p3 j),V.ro 2 (z.p4 j) (z.q5 j)])],nx:=1,rt:=0,me:=10}))))
abbrev nH{β:Type}(A:ByteArray->Option fA)(B:j3->Option Int)(C:j3->Option m5)(x:ByteArray)(y:Nat×(Nat->ByteArray)×(Nat->Nat)×(Nat->Nat->ByteArray)×(Nat->Nat->ByteArray)×(Nat->Int)×(Nat->Int)×(Nat->ByteArray)×(Nat->Nat)×(Nat->Nat->List V)×Int)(nx:iV->Option β)(dn:cA->Option β):Option β:=
 U11 y λA D E F G H I J K L M=>if decide (0<M) then if(0:Int)<=(0:Int)/\0< (A:Int)then(B ((D 0,E 0,F 0,G 0,H 0,I 0,J 0,K 0,L 0))).bind λa=>if(a !=0) then dn (.inl a)else(C ((D 0,E 0,F 0,G 0,H 0,I 0,J 0,K 0,L 0))).bind λb=>if(b.2.2.2.2.2.2 !=0) then dn (.inl (b.2.2.2.2.2.2))else nx (.inr ((A,D,E,F,G,H,I,J,K,L,M,λj=>b.1,λj=>b.2.1,λj=>b.2.2.1,λj=>b.2.2.2.1,1,1,λ(j j_1:Nat)=>[i64 (b.2.2.2.2.1 j_1),i64 (b.2.2.2.2.2.1 j_1)])))else none else dn (.inr (.inl ()))
abbrev nI{β:Type}(A:ByteArray->Option fA)(B:j3->Option Int)(C:j3->Option m5)(x:ByteArray)(y:Nat×(Nat->ByteArray)×(Nat->Nat)×(Nat->Nat->ByteArray)×(Nat->Nat->ByteArray)×(Nat->Int)×(Nat->Int)×(Nat->ByteArray)×(Nat->Nat)×(Nat->Nat->List V)×Int×(Nat->ByteArray)×(Nat->Int)×(Nat->Int)×(Nat->Nat)×Nat×Int×(Nat->Nat->List V))(nx:iV->Option β)(dn:cA->Option β):Option β:=
 U18 y λA D E F G H I J K L M N O P Q R S T=>if decide (S<M) then if 0<=S/\S< (A:Int)then(B ((D (Int.toNat (S)),E (Int.toNat (S)),F (Int.toNat (S)),G (Int.toNat (S)),H (Int.toNat (S)),I (Int.toNat (S)),J (Int.toNat (S)),K (Int.toNat (S)),L (Int.toNat (S))))).bind λa=>if(a !=0) then dn (.inl a)else(C ((D (Int.toNat (S)),E (Int.toNat (S)),F (Int.toNat (S)),G (Int.toNat (S)),H (Int.toNat (S)),I (Int.toNat (S)),J (Int.toNat (S)),K (Int.toNat (S)),L (Int.toNat (S))))).bind λb=>if(b.2.2.2.2.2.2 !=0) then dn (.inl (b.2.2.2.2.2.2))else if(R+1)*56<=b6/\R+1<=maxLen/\R<=R then nx (.inr ((A,D,E,F,G,H,I,J,K,L,M,λj=>if j<R then N j else b.1,λj=>if j<R then O j else b.2.1,λj=>if j<R then P j else b.2.2.1,λj=>if j<R then Q j else b.2.2.2.1,R+1,w (S+1),λ(j j_1:Nat)=>if j<R then T j j_1 else[i64 (b.2.2.2.2.1 j_1),i64 (b.2.2.2.2.2.1 j_1)])))else none else none else dn (.inr (.inr ((R,N,O,P,Q,T))))
noncomputable def bp9(A:ByteArray->Option fA)(B:j3->Option Int)(C:j3->Option m5)(q:Nat)(x:ByteArray):iV->Option cA:=lpG (Sum.elim (λy=>nH A B C x y (λy=>some (.inl y)) (λz=>some (.inr z))) (λy=>nI A B C x y (λy=>some (.inl y)) (λz=>some (.inr z)))) q
abbrev bj9{β:Type}(A:ByteArray->Option fA)(B:j3->Option Int)(C:j3->Option m5)(D:iV->Option cA)(x:ByteArray)(dn:oP->Option β):Option β:=
 (A x).bind λa=>if(a.2.2.2.2.2.2.2.2.2.2.2 !=0) then dn (.inl (a.2.2.2.2.2.2.2.2.2.2.2))else(D (.inl ((a.1,a.2.1,a.2.2.1,a.2.2.2.1,a.2.2.2.2.1,a.2.2.2.2.2.1,a.2.2.2.2.2.2.1,a.2.2.2.2.2.2.2.1,a.2.2.2.2.2.2.2.2.1,a.2.2.2.2.2.2.2.2.2.1,(a.1:Int))))).bind λb=>Sum.elim (λc=>dn (.inl c)) (λd=>Sum.elim (λe=>dn (.inl (0))) (λf=>dn (.inr f)) d) b
noncomputable def Build(q:Nat)(x:ByteArray):Option oP:=bj9 (ca4 q) (ai3 q) (tK q) (bp9 (ca4 q) (ai3 q) (tK q) q x) x some
theorem gb7(q:Nat):Lw E5 10 j7 dd8 (Build q):=have K:=(kc l5 (fw0 q) (kc at0 (gb3 q) (kc at0 (dm9 q) kn)));sl hW5 hX5 K (λx=>(lc 0 (eu4 x) (lp2 hX5 (ey1 x) 10 0 29360256 [(0,128)] 12 K ln q (λc l β=>nH (β:=β) c.1 c.2.1 c.2.2.1 x) λc l β=>nI (β:=β) c.1 c.2.1 c.2.2.1 x) ln)) λc l β=>bj9 (β:=β) c.1 c.2.1 c.2.2.1 l.1
abbrev gA:Type:=(Nat×(Nat->ByteArray)×(Nat->Nat)×(Nat->Nat->ByteArray)×(Nat->Nat->ByteArray)×(Nat->Int)×(Nat->Int)×(Nat->ByteArray)×(Nat->Nat)×(Nat->Nat->List V))⊕(Nat×(Nat->ByteArray)×(Nat->Nat)×(Nat->Nat->ByteArray)×(Nat->Nat->ByteArray)×(Nat->Int)×(Nat->Int)×(Nat->ByteArray)×(Nat->Nat)×(Nat->Nat->List V)×(Nat->ByteArray)×(Nat->Int)×(Nat->Int)×(Nat->Nat)×Nat×Int×(Nat->Nat->List V))
def cx9(x:ByteArray)(y:Nat×(Nat->ByteArray)×(Nat->Nat)×(Nat->Nat->ByteArray)×(Nat->Nat->ByteArray)×(Nat->Int)×(Nat->Int)×(Nat->ByteArray)×(Nat->Nat)×(Nat->Nat->List V)):St:={fr:=jk 4++[V.ro 6 (y.1) λj=>[st (y.2.1 j),V.ro 2 (y.2.2.1 j) λj_1=>[st (y.p3 j j_1),st (y.p4 j j_1)],i64 (y.p5 j),i64 (y.p6 j),st (y.p7 j),V.ro 4 (y.p8 j) (y.q9 j)],V.junk,V.junk,j0,i64 0]++jk 41,H:=hp [],nx:=0,rt:=0,me:=11}
def dc4(x:ByteArray)(y:Nat×(Nat->ByteArray)×(Nat->Nat)×(Nat->Nat->ByteArray)×(Nat->Nat->ByteArray)×(Nat->Int)×(Nat->Int)×(Nat->ByteArray)×(Nat->Nat)×(Nat->Nat->List V)×(Nat->ByteArray)×(Nat->Int)×(Nat->Int)×(Nat->Nat)×Nat×Int×(Nat->Nat->List V)):St:={fr:=jk 4++[V.ro 6 (y.1) λj=>[st (y.2.1 j),V.ro 2 (y.2.2.1 j) λj_1=>[st (y.p3 j j_1),st (y.p4 j j_1)],i64 (y.p5 j),i64 (y.p6 j),st (y.p7 j),V.ro 4 (y.p8 j) (y.p9 j)],V.junk,V.junk,V.sl 0 4 0 (y.p14),i64 (y.p15)]++jk 41,H:=hp [some (Z1.row 43 4 (y.p14) λj=>[st (y.p10 j),i64 (y.p11 j),i64 (y.p12 j),V.ro 2 (y.p13 j) (y.q16 j)])],nx:=1,rt:=0,me:=11}
def ec0(x:ByteArray):gA->St:=(Sum.elim (cx9 x) (dc4 x))
theorem ed2(x:ByteArray):VL (ec0 x):=vl λs=>(match s.nx==0 with|true=>(.inl (((r7 (fv s 4)),(dTS (fv s 4) 0),(dTN (fv s 4) 1),(λj i=>vS ((aW (((aW (fv s 4)) j).getD 1 .junk) i).getD 0 .junk)),(λj i=>vS ((aW (((aW (fv s 4)) j).getD 1 .junk) i).getD 1 .junk)),(dTI (fv s 4) 2),(dTI (fv s 4) 3),(dTS (fv s 4) 4),(dTN (fv s 4) 5),(dTF (fv s 4) 5)))) |false=>(.inr (((r7 (fv s 4)),(dTS (fv s 4) 0),(dTN (fv s 4) 1),(λj i=>vS ((aW (((aW (fv s 4)) j).getD 1 .junk) i).getD 0 .junk)),(λj i=>vS ((aW (((aW (fv s 4)) j).getD 1 .junk) i).getD 1 .junk)),(dTI (fv s 4) 2),(dTI (fv s 4) 3),(dTS (fv s 4) 4),(dTN (fv s 4) 5),(dTF (fv s 4) 5),(dRS (s.H 0) 0),(dRI (s.H 0) 1),(dRI (s.H 0) 2),(dRN (s.H 0) 3),(aV (fv s 7)),(vI (fv s 8)),(dRF (s.H 0) 3)))))
def dj3(x:ByteArray):cA->Ex×St:=(Sum.elim (λz=>(Ex.ret,{fr:=[V.junk,V.junk,j0,i64 z]++jk 46,H:=hp [],nx:=0,rt:=0,me:=11})) (Sum.elim (λz=>(Ex.exit 0,{fr:=jk 7++[j0]++jk 42,H:=hp [],nx:=0,rt:=0,me:=11})) (λz=>(Ex.exit 0,{fr:=jk 7++[V.sl 0 4 0 (z.1)]++jk 42,H:=hp [some (Z1.row 43 4 (z.1) λj=>[st (z.2.1 j),i64 (z.2.2.1 j),i64 (z.p3 j),V.ro 2 (z.p4 j) (z.q5 j)])],nx:=1,rt:=0,me:=11}))))
abbrev kC{β:Type}(A:ByteArray->Option fA)(B:j3->Option Int)(C:j3->Option m5)(x:ByteArray)(y:Nat×(Nat->ByteArray)×(Nat->Nat)×(Nat->Nat->ByteArray)×(Nat->Nat->ByteArray)×(Nat->Int)×(Nat->Int)×(Nat->ByteArray)×(Nat->Nat)×(Nat->Nat->List V))(nx:gA->Option β)(dn:cA->Option β):Option β:=
 U10 y λA D E F G H I J K L=>if decide (0< (A:Int)) then if(0:Int)<=(0:Int)/\0< (A:Int)then(B ((D 0,E 0,F 0,G 0,H 0,I 0,J 0,K 0,L 0))).bind λa=>if(a !=0) then dn (.inl a)else if(0:Int)<=(0:Int)/\0< (A:Int)then(C ((D 0,E 0,F 0,G 0,H 0,I 0,J 0,K 0,L 0))).bind λb=>if(b.2.2.2.2.2.2 !=0) then dn (.inl (b.2.2.2.2.2.2))else nx (.inr ((A,D,E,F,G,H,I,J,K,L,λj=>b.1,λj=>b.2.1,λj=>b.2.2.1,λj=>b.2.2.2.1,1,1,λ(j j_1:Nat)=>[i64 (b.2.2.2.2.1 j_1),i64 (b.2.2.2.2.2.1 j_1)])))else none else none else dn (.inr (.inl ()))
abbrev kN{β:Type}(A:ByteArray->Option fA)(B:j3->Option Int)(C:j3->Option m5)(x:ByteArray)(y:Nat×(Nat->ByteArray)×(Nat->Nat)×(Nat->Nat->ByteArray)×(Nat->Nat->ByteArray)×(Nat->Int)×(Nat->Int)×(Nat->ByteArray)×(Nat->Nat)×(Nat->Nat->List V)×(Nat->ByteArray)×(Nat->Int)×(Nat->Int)×(Nat->Nat)×Nat×Int×(Nat->Nat->List V))(nx:gA->Option β)(dn:cA->Option β):Option β:=
 U17 y λA D E F G H I J K L M N O P Q R S=>if decide (R< (A:Int)) then if 0<=R/\R< (A:Int)then(B ((D (Int.toNat (R)),E (Int.toNat (R)),F (Int.toNat (R)),G (Int.toNat (R)),H (Int.toNat (R)),I (Int.toNat (R)),J (Int.toNat (R)),K (Int.toNat (R)),L (Int.toNat (R))))).bind λa=>if(a !=0) then dn (.inl a)else if 0<=R/\R< (A:Int)then(C ((D (Int.toNat (R)),E (Int.toNat (R)),F (Int.toNat (R)),G (Int.toNat (R)),H (Int.toNat (R)),I (Int.toNat (R)),J (Int.toNat (R)),K (Int.toNat (R)),L (Int.toNat (R))))).bind λb=>if(b.2.2.2.2.2.2 !=0) then dn (.inl (b.2.2.2.2.2.2))else if(Q+1)*56<=b6/\Q+1<=maxLen/\Q<=Q then nx (.inr ((A,D,E,F,G,H,I,J,K,L,λj=>if j<Q then M j else b.1,λj=>if j<Q then N j else b.2.1,λj=>if j<Q then O j else b.2.2.1,λj=>if j<Q then P j else b.2.2.2.1,Q+1,w (R+1),λ(j j_1:Nat)=>if j<Q then S j j_1 else[i64 (b.2.2.2.2.1 j_1),i64 (b.2.2.2.2.2.1 j_1)])))else none else none else none else dn (.inr (.inr ((Q,M,N,O,P,S))))
noncomputable def aw5(A:ByteArray->Option fA)(B:j3->Option Int)(C:j3->Option m5)(q:Nat)(x:ByteArray):gA->Option cA:=lpG (Sum.elim (λy=>kC A B C x y (λy=>some (.inl y)) (λz=>some (.inr z))) (λy=>kN A B C x y (λy=>some (.inl y)) (λz=>some (.inr z)))) q
abbrev av1{β:Type}(A:ByteArray->Option fA)(B:j3->Option Int)(C:j3->Option m5)(D:gA->Option cA)(x:ByteArray)(dn:oP->Option β):Option β:=
 (A x).bind λa=>if(a.2.2.2.2.2.2.2.2.2.2.2 !=0) then dn (.inl (a.2.2.2.2.2.2.2.2.2.2.2))else(D (.inl ((a.1,a.2.1,a.2.2.1,a.2.2.2.1,a.2.2.2.2.1,a.2.2.2.2.2.1,a.2.2.2.2.2.2.1,a.2.2.2.2.2.2.2.1,a.2.2.2.2.2.2.2.2.1,a.2.2.2.2.2.2.2.2.2.1)))).bind λb=>Sum.elim (λc=>dn (.inl c)) (λd=>Sum.elim (λe=>dn (.inl (0))) (λf=>dn (.inr f)) d) b
noncomputable def aw8(q:Nat)(x:ByteArray):Option oP:=av1 (ap7 q) (yN q) (pR q) (aw5 (ap7 q) (yN q) (pR q) q x) x some
theorem fo7(q:Nat):Lw E5 11 j7 dd8 (aw8 q):=have K:=(kc l5 (eq1 q) (kc at0 (fq2 q) (kc at0 (cq6 q) kn)));sl hW5 hX5 K (λx=>(lc 0 (ed2 x) (lp2 hX5 (dj3 x) 11 0 400 [(0,128)] 12 K ln q (λc l β=>kC (β:=β) c.1 c.2.1 c.2.2.1 x) λc l β=>kN (β:=β) c.1 c.2.1 c.2.2.1 x) ln)) λc l β=>av1 (β:=β) c.1 c.2.1 c.2.2.1 l.1
end
end Go.Proofs.YtbmbhcheonjigaaGreatDoor
namespace Go.Proofs.YtbmbhcheonjigaaGreatDoor.Ty
section
open Go Go.Am Go.Proofs Go.Proofs.YtbmbhcheonjigaaGreatDoor Go.Proofs.Lx
abbrev iI:Type:=ByteArray×Int×Int×CoT
def CoB(C:iI)(b:ByteArray×Int×Int×f0):Prop:=b.1=C.1/\b.2.1=C.2.1/\b.2.2.1=C.2.2.1/\Y3 C.2.2.2 b.2.2.2
def bOf(b:m5):ByteArray×Int×Int×f0:=(b.1,b.2.1,b.2.2.1,b.2.2.2.1,b.2.2.2.2.1,b.2.2.2.2.2.1)
def PrR(o:Int⊕iI)(ck:Option Int)(cv:Option m5):Prop:=
 Z2 ck (λa=>(a≠0/\o= .inl a)\/(a=0/\Z2 cv (λb=>(b.2.2.2.2.2.2≠0/\o= .inl b.2.2.2.2.2.2)\/(b.2.2.2.2.2.2=0/\∃C,o= .inr C/\CoB C (bOf b)))))
theorem PrR.step{o:Int⊕iI}{ck:Option Int}{cv:Option m5}(h:PrR o ck cv){β:Type}{K1:Int->Option β}{K2:m5->Option β}{Q:β->Prop}(h1:∀e,e≠0->o= .inl e->Z2 (K1 e) Q)(h2:∀b C,o= .inr C->CoB C (bOf b)->Z2 (K2 b) Q):
 Z2 (ck.bind λa=>if(a !=(0:Int)) then K1 a else cv.bind λb=>if(b.2.2.2.2.2.2 !=(0:Int)) then K1 b.2.2.2.2.2.2 else K2 b) Q:=by
 refine BB h λa ha=>?_;rcases ha with⟨h0,ho⟩ | ⟨h0,hv⟩
 ·exact BD (by simpa using h0) (h1 a h0 ho)
 refine BE (by simpa using h0) (BB hv λb hb=>?_);rcases hb with⟨g0,ho⟩ | ⟨g0,C,ho,hC⟩
 ·exact BD (by simpa using g0) (h1 _ g0 ho)
 ·exact BE (by simpa using g0) (h2 b C ho hC)
theorem PrR.step2{o:Int⊕iI}{ck:Option Int}{cv:Option m5}(h:PrR o ck cv){β:Type}{K1:Int->Option β}{K2:m5->Option β}{Q:β->Prop}{c:Prop}[Decidable c](hc:c)(h1:∀e,e≠0->o= .inl e->Z2 (K1 e) Q)(h2:∀b C,o= .inr C->CoB C (bOf b)->Z2 (K2 b) Q):
 Z2 (ck.bind λa=>if(a !=(0:Int)) then K1 a else if c then cv.bind λb=>if(b.2.2.2.2.2.2 !=(0:Int)) then K1 b.2.2.2.2.2.2 else K2 b else none) Q:=by
 rw[if_pos hc];exact h.step h1 h2
def paC(c:Prc)(i:Nat):ByteArray:=vS (((c.ps.map wC).getD i [st ⟨#[]⟩,st ⟨#[]⟩]).getD 0 .junk)
def puC(c:Prc)(i:Nat):ByteArray:=vS (((c.ps.map wC).getD i [st ⟨#[]⟩,st ⟨#[]⟩]).getD 1 .junk)
def prc(c:Prc):j3:=(c.x,c.ps.length,paC c,puC c,o6 (λ_=>iX c.b) 0)
theorem aa5{r:List Prc×Int×Int}{j:Nat}{c:Prc}(h:r.1[j]? =some c):
 ((pOf r).2.1 j,(pOf r).2.2.1 j,(pOf r).2.2.2.1 j,(pOf r).2.2.2.2.1 j,(pOf r).2.2.2.2.2.1 j,(pOf r).2.2.2.2.2.2.1 j,(pOf r).2.2.2.2.2.2.2.1 j,(pOf r).2.2.2.2.2.2.2.2.1 j,(pOf r).2.2.2.2.2.2.2.2.2.1 j)=prc c:=by
 have e:pcl r.1 j=nN c:=by unfold pcl;rw[List.getD_eq_getElem?_getD,List.getElem?_map,h];rfl
 unfold pOf;dsimp only;rw[e];obtain⟨x,ps,⟨k,n,s,l⟩⟩:=c;simp only[nN,prc,iX];rfl
theorem ev0(c:Prc):Y5 (c.ps.map Prm.x) c.ps.length (paC c):=by
 refine⟨by simp,λj b h=>?_⟩;rw[List.getElem?_map]at h;obtain⟨m,h1,h2⟩:=Option.map_eq_some_iff.1 h
 have e:(c.ps.map wC).getD j [st ⟨#[]⟩,st ⟨#[]⟩]=wC m:=by
  rw[List.getD_eq_getElem?_getD,List.getElem?_map,h1];rfl
 unfold paC;rw[e,<-h2];rfl
theorem cvp{nm:ByteArray}{np vn:Nat}{A:CoT}{d:Int}{w:Bool}{ob:Option cH}(h:Z2 ob (RcP nm np vn A d w)):
 Z2 (ob.map cvC) (λb=>(b.2.2.2.2.2.2≠0/\eF A d w≠0/\b.2.2.2.2.2.2=eF A d w)\/(b.2.2.2.2.2.2=0/\eF A d w=0/\CoB (nm,np,vn,A++[(28,0)]) (bOf b))):=by
 refine gy6 (h.mono λz hz=>?_);rcases z with z|z
 ·obtain⟨h1,h2⟩:=hz;exact .inl ⟨h1,by rw[<-h2];exact h1,h2⟩
 ·obtain⟨h1,h2,h3,h4,h5⟩:=hz;exact .inr ⟨rfl,h1,h2,h3,h4,h5⟩
theorem fo2{A:CoT}{d:Int}{w:Bool}(h:eF A d w=0):A.length+1<=300:=by
 unfold eF at h;split at h
 ·cases h
 split at h
 ·cases h
 omega
def PrB(q:Nat)(c:Prc)(o:Int⊕iI):Prop:=PrR o (ai3 q (prc c)) (tK q (prc c))/\PrR o (yN q (prc c)) (pR q (prc c))/\∀C,o= .inr C->C.2.2.2.length<=300
theorem gr8{c:Prc}(h:SmC 5000 c){q:Nat}(hq:40000<q)(h0:lL c.ps.length (paC c) (puC c) c.b=0){m1:VM}{A:CoT}{d:Int}{w:Bool}(hk:kdT c.b=14)(hF:bh0 m0V (c.ps.map Prm.x))(hc:CoS c.b (putL m0V (c.ps.map Prm.x)) 0 m1 A d w):
 PrB q c (if eF A d w=0 then .inr (c.x,c.ps.length,m1.1,A++[(28,0)])else .inl (eF A d w)):=by
 obtain⟨hb,hs,hp⟩:=h;have hBG:BG=1000000000:=rfl;have hr:Rep c.b (o6 (λ_=>iX c.b) 0):=bd0 5000 c.b hs (Nat.le_refl _) _ 0 rfl;have hm:(c.ps.map Prm.x).length=c.ps.length:=by simp
 have hck:=ff4 (pn:=c.x) (pm:=c.ps.length) (pa:=paC c) (pu:=puC c) (q:=q) hr (by omega) (by omega) (by omega);have hrk:=dl2 (pn:=c.x) (pm:=c.ps.length) (pa:=paC c) (pu:=puC c) (q:=q) hr (by omega) (by omega) (by omega);have h14:(o6 (λ_=>iX c.b) 0).1=14:=by rw[cu8 hr];exact hk
 have g1:Z2 (zD q (prc c)) (RcP c.x c.ps.length m1.1 A d w):=by
  unfold zD;exact BD h14 (dz3 q (ev0 c) hF hc h14 hr (by rw[hm];omega) (by rw[hm];omega))
 have g1:=cvp g1;have g2:=cvp (eq4 q (nm:=c.x) (pt:=puC c) (ev0 c) (num0.putL hF) hc hr (by rw[hm];omega) (by rw[hm];omega))
 have key:∀{ck:Option Int} {cv:Option m5},Z2 ck (λ(e:Int)=>e=lL c.ps.length (paC c) (puC c) c.b)->Z2 cv (λb=>(b.2.2.2.2.2.2≠0/\eF A d w≠0/\b.2.2.2.2.2.2=eF A d w)\/(b.2.2.2.2.2.2=0/\eF A d w=0/\CoB (c.x,c.ps.length,m1.1,A++[(28,0)]) (bOf b)))->
  PrR (if eF A d w=0 then .inr (c.x,c.ps.length,m1.1,A++[(28,0)])else .inl (eF A d w)) ck cv:=λh1 h2=>by
  refine h1.mono λa ha=>.inr ⟨by rw[ha,h0],h2.mono λb hb=>?_⟩;rcases hb with⟨h,g,h'⟩ | ⟨h,g,h'⟩
  ·rw[if_neg g];exact .inl ⟨h,by rw[h']⟩
  ·rw[if_pos g];exact .inr ⟨h,_,rfl,h'⟩
 refine⟨key hck g1,key hrk g2,λC hC=>?_⟩;by_cases hE:eF A d w=0
 ·rw[if_pos hE]at hC;obtain rfl:=Sum.inr.inj hC;have:=fo2 hE;simp;omega
 ·rw[if_neg hE]at hC;cases hC
theorem hp5{c:Prc}(h:SmC 5000 c){q:Nat}(hq:40000<q):∃o:Int⊕iI,PrB q c o:=by
 by_cases h0:lL c.ps.length (paC c) (puC c) c.b=0
 ·obtain⟨hk,hF,m1,A,d,w,hc⟩:=ew6 (ev0 c) h.1 h0;exact⟨_,gr8 h hq h0 hk hF hc⟩
 ·obtain⟨hb,hs,hp⟩:=h;have hr:Rep c.b (o6 (λ_=>iX c.b) 0):=bd0 5000 c.b hs (Nat.le_refl _) _ 0 rfl;have hck:=ff4 (pn:=c.x) (pm:=c.ps.length) (pa:=paC c) (pu:=puC c) (q:=q) hr (by omega) (by omega) (by omega);have hrk:=dl2 (pn:=c.x) (pm:=c.ps.length) (pa:=paC c) (pu:=puC c) (q:=q) hr (by omega) (by omega) (by omega);exact⟨.inl (lL c.ps.length (paC c) (puC c) c.b),hck.mono λa ha=>.inl ⟨by rw[ha];exact h0,by rw[ha]⟩,hrk.mono λa ha=>.inl ⟨by rw[ha];exact h0,by rw[ha]⟩,λC hC=>nomatch hC⟩
inductive BdO(q:Nat):List Prc->List iI->Int⊕List iI->Prop
 |nil (L:List iI):BdO q [] L (.inr L)
 |err (c:Prc) (l:List Prc) (L:List iI) (e:Int):PrB q c (.inl e)->BdO q (c::l) L (.inl e)
 |cons (c:Prc) (l:List Prc) (L:List iI) (C:iI) (o:Int⊕List iI):PrB q c (.inr C)->BdO q l (L++[C]) o->BdO q (c::l) L o
theorem gl9{q:Nat}(hq:40000<q):∀(l:List Prc) (L:List iI),(∀c∈l,SmC 5000 c)->∃o,BdO q l L o
 | [],L,_=>⟨_,.nil L⟩
 |c::l,L,h=>by
  obtain⟨o1,p⟩:=hp5 (h c (.head _)) hq;rcases o1 with e|C
  ·exact⟨_,.err c l L e p⟩
  ·obtain⟨o,h2⟩:=gl9 hq l (L++[C]) λd hd=>h d (.tail _ hd);exact⟨o,.cons c l L C o p h2⟩
theorem BdO.few{q:Nat}{l:List Prc}{L:List iI}{o:Int⊕List iI}(h:BdO q l L o):∀C,o= .inr C->∃M,C=L++M/\M.length=l.length/\∀D∈M,D.2.2.2.length<=300:=by
 induction h with
 |nil L=>exact λC hC=>⟨[],by rw[List.append_nil];exact(Sum.inr.inj hC).symm,rfl,λD hD=>by cases hD⟩
 |err c l L e p=>exact λC hC=>nomatch hC
 |cons c l L C o p _ ih=>
  intro D hD;obtain⟨M,h1,h2,h3⟩:=ih D hD;refine⟨C::M,by rw[h1,List.append_assoc];rfl,by simp[h2],λE hE=>?_⟩;rcases List.mem_cons.1 hE with h|h
  ·rw[h];exact p.2.2 C rfl
  ·exact h3 E h
def el2(x:ah8)(j i:Nat):List V:=[i64 (x.2.2.2.2.2.1 j i),i64 (x.2.2.2.2.2.2 j i)]
def X0(L:List iI)(x:ah8):Prop:=x.1=L.length/\∀j C,L[j]? =some C->CoB C (cAt x j)
def hn7(b:m5):ah8:=(1,λ_=>b.1,λ_=>b.2.1,λ_=>b.2.2.1,λ_=>b.2.2.2.1,λ_ j=>b.2.2.2.2.1 j,λ_ j=>b.2.2.2.2.2.1 j)
def bq2(x:ah8)(b:m5):ah8:=(x.1+1,λj=>if j<x.1 then x.2.1 j else b.1,λj=>if j<x.1 then x.2.2.1 j else b.2.1,λj=>if j<x.1 then x.2.2.2.1 j else b.2.2.1,λj=>if j<x.1 then x.2.2.2.2.1 j else b.2.2.2.1,λj i=>if j<x.1 then x.2.2.2.2.2.1 j i else b.2.2.2.2.1 i,λj i=>if j<x.1 then x.2.2.2.2.2.2 j i else b.2.2.2.2.2.1 i)
theorem X0.one{C:iI}{b:m5}(h:CoB C (bOf b)):X0 [C] (hn7 b):=⟨rfl,λj D hj=>by
 cases j with
 |zero=>simp only[List.getElem?_cons_zero,Option.some.injEq]at hj;subst hj;exact h
 |succ j=>simp at hj⟩
theorem X0.push{L:List iI}{x:ah8}{C:iI}{b:m5}(g:X0 L x)(h:CoB C (bOf b)):X0 (L++[C]) (bq2 x b):=by
 refine⟨by simp[bq2,g.1],λj D hj=>?_⟩;unfold cAt bq2;dsimp only;by_cases hl:j<L.length
 ·rw[List.getElem?_append_left hl]at hj;have:=g.2 j D hj;simp only[g.1,if_pos hl];exact this
 ·by_cases hl2:j=L.length
  ·subst hl2;simp at hj;subst hj;simp only[g.1,if_neg hl];exact h
  ·rw[List.getElem?_eq_none (by simp;omega)]at hj;cases hj
theorem dy8(x:ah8)(b:m5):(λ(j j_1:Nat)=>if j<x.1 then el2 x j j_1 else[i64 (b.2.2.2.2.1 j_1),i64 (b.2.2.2.2.2.1 j_1)])=el2 (bq2 x b):=by
 funext j i;unfold el2 bq2;dsimp only;by_cases h:j<x.1
 ·rw[if_pos h,if_pos h,if_pos h]
 ·rw[if_neg h,if_neg h,if_neg h]
def LpR(o:Int⊕List iI):cA->Prop:=Sum.elim (λe=>e≠0/\o= .inl e) (Sum.elim (λ_=>o= .inr []) (λz=>∃(L:List iI) (x:ah8),o= .inr L/\X0 L x/\z=(x.1,x.2.1,x.2.2.1,x.2.2.2.1,x.2.2.2.2.1,el2 x)))
noncomputable def stB(r:List Prc×Int×Int)(i:Nat)(x:ah8):iV:=.inr ((pOf r).1,(pOf r).2.1,(pOf r).2.2.1,(pOf r).2.2.2.1,(pOf r).2.2.2.2.1,(pOf r).2.2.2.2.2.1,(pOf r).2.2.2.2.2.2.1,(pOf r).2.2.2.2.2.2.2.1,(pOf r).2.2.2.2.2.2.2.2.1,(pOf r).2.2.2.2.2.2.2.2.2.1,(((pOf r).1:Nat):Int),x.2.1,x.2.2.1,x.2.2.2.1,x.2.2.2.2.1,x.1,(i:Int),el2 x)
noncomputable def stR(r:List Prc×Int×Int)(i:Nat)(x:ah8):gA:=.inr ((pOf r).1,(pOf r).2.1,(pOf r).2.2.1,(pOf r).2.2.2.1,(pOf r).2.2.2.2.1,(pOf r).2.2.2.2.2.1,(pOf r).2.2.2.2.2.2.1,(pOf r).2.2.2.2.2.2.2.1,(pOf r).2.2.2.2.2.2.2.2.1,(pOf r).2.2.2.2.2.2.2.2.2.1,x.2.1,x.2.2.1,x.2.2.2.1,x.2.2.2.2.1,x.1,(i:Int),el2 x)
theorem gu2{r:List Prc×Int×Int}(hl:r.1.length<=5000){q:Nat}{s:ByteArray}{l:List Prc}{L:List iI}{o:Int⊕List iI}(h:BdO q l L o):∀i,r.1.drop i=l->i<=r.1.length->L.length=i->
 (∀qq x,l.length<qq->X0 L x->Z2 (bp9 (ca4 q) (ai3 q) (tK q) qq s (stB r i x)) (LpR o))/\
 (∀qq x,l.length<qq->X0 L x->Z2 (aw5 (ap7 q) (yN q) (pR q) qq s (stR r i x)) (LpR o)):=by
 have e1:(pOf r).1=r.1.length:=rfl
 have hd1:∀{i:Nat} {c:Prc} {l:List Prc},r.1.drop i=c::l->r.1.length=i+(l.length+1)/\r.1[i]? =some c/\r.1.drop (i+1)=l:=λ{i c l} hd=>by
  have hlen:(r.1.drop i).length=l.length+1:=by rw[hd];rfl
  rw[List.length_drop]at hlen;refine⟨by omega,?_,by rw[<-List.drop_drop,hd];rfl⟩;have:=congrArg (λl=>l[0]?) hd;simpa using this
 induction h with
 |nil L=>
  intro i hd hi hL;have hn:r.1.length<=i:=List.drop_eq_nil_iff.1 hd;refine⟨λqq x hqq hx=>?_,λqq x hqq hx=>?_⟩
  ·obtain⟨qq,rfl⟩:∃k,qq=k+1:=⟨qq-1,by omega⟩;refine i6 ?_;dsimp only[Sum.elim_inr,stB];unfold nI U18;exact BE (by rw[decide_eq_true_eq];dsimp only;omega) (BC ⟨L,x,rfl,hx,rfl⟩)
  ·obtain⟨qq,rfl⟩:∃k,qq=k+1:=⟨qq-1,by omega⟩;refine i6 ?_;dsimp only[Sum.elim_inr,stR];unfold kN U17;exact BE (by rw[decide_eq_true_eq];dsimp only;omega) (BC ⟨L,x,rfl,hx,rfl⟩)
 |err c l L e p=>
  intro i hd hi hL;obtain⟨hn,hc,_⟩:=hd1 hd;refine⟨λqq x hqq hx=>?_,λqq x hqq hx=>?_⟩
  ·obtain⟨qq,rfl⟩:∃k,qq=k+1:=⟨qq-1,by omega⟩;refine i6 ?_;dsimp only[Sum.elim_inr,stB];unfold nI U18;dsimp only;refine BD (by rw[decide_eq_true_eq];omega) (BD ⟨by omega,by omega⟩ ?_);rw[Int.toNat_natCast,aa5 hc];exact p.1.step (λe' h0 ho=>BC ⟨h0,by obtain rfl:=Sum.inl.inj ho;rfl⟩) λb C ho _=>nomatch ho
  ·obtain⟨qq,rfl⟩:∃k,qq=k+1:=⟨qq-1,by omega⟩;refine i6 ?_;dsimp only[Sum.elim_inr,stR];unfold kN U17;dsimp only;refine BD (by rw[decide_eq_true_eq];omega) (BD ⟨by omega,by omega⟩ ?_);rw[Int.toNat_natCast,aa5 hc];exact p.2.1.step2 ⟨by omega,by omega⟩ (λe' h0 ho=>BC ⟨h0,by obtain rfl:=Sum.inl.inj ho;rfl⟩) λb C ho _=>nomatch ho
 |cons c l L C o p _ ih=>
  intro i hd hi hL;obtain⟨hn,hc,hdr⟩:=hd1 hd;obtain⟨i1,i2⟩:=ih (i+1) hdr (by omega) (by simp[hL])
  have hroom:∀x:ah8,X0 L x->(x.1+1)*56<=b6/\x.1+1<=maxLen/\x.1<=x.1:=λx hx=>by
   have:=hx.1;have hr:(56*6000<=b6):=by decide
   have hm:(6000<=maxLen):=by decide
   exact⟨by omega,by omega,Nat.le_refl _⟩
  refine⟨λqq x hqq hx=>?_,λqq x hqq hx=>?_⟩
  ·obtain⟨qq,rfl⟩:∃k,qq=k+1:=⟨qq-1,by omega⟩;refine i6 ?_;dsimp only[Sum.elim_inr,stB];unfold nI U18;dsimp only;refine BD (by rw[decide_eq_true_eq];omega) (BD ⟨by omega,by omega⟩ ?_);rw[Int.toNat_natCast,aa5 hc,o7 (i:=i) (by omega)];refine p.1.step (λe' h0 ho=>nomatch ho) λb C' ho hC=>BD (hroom x hx) (BC ?_);obtain rfl:=Sum.inr.inj ho;rw[dy8];exact i1 qq (bq2 x b) (by simp at hqq;omega) (hx.push hC)
  ·obtain⟨qq,rfl⟩:∃k,qq=k+1:=⟨qq-1,by omega⟩;refine i6 ?_;dsimp only[Sum.elim_inr,stR];unfold kN U17;dsimp only;refine BD (by rw[decide_eq_true_eq];omega) (BD ⟨by omega,by omega⟩ ?_);rw[Int.toNat_natCast,aa5 hc,o7 (i:=i) (by omega)];refine p.2.1.step2 ⟨by omega,by omega⟩ (λe' h0 ho=>nomatch ho) λb C' ho hC=>BD (hroom x hx) (BC ?_);obtain rfl:=Sum.inr.inj ho;rw[dy8];exact i2 qq (bq2 x b) (by simp at hqq;omega) (hx.push hC)
end
end Go.Proofs.YtbmbhcheonjigaaGreatDoor.Ty
namespace Go.Proofs.YtbmbhcheonjigaaGreatDoor
section
open Go Go.Am Go.Proofs
abbrev kW:Type:=Nat×(Nat->ByteArray)×(Nat->Int)×(Nat->Int)×(Nat->Nat)×(Nat->Nat->Int)×(Nat->Nat->Int)×Int
def cc5:kW->Z3:=λz=>.ret (.tup [.ro 4 z.1 (λj=>[st (z.2.1 j),i64 (z.2.2.1 j),i64 (z.2.2.2.1 j),.ro 2 (z.2.2.2.2.1 j) (λi=>[i64 (z.2.2.2.2.2.1 j i),i64 (z.2.2.2.2.2.2.1 j i)])]),i64 z.2.2.2.2.2.2.2]) []
open Classical in
noncomputable def bdC:oP->Option kW:=Sum.elim (λe=>some (0,λ_=>⟨#[]⟩,λ_=>0,λ_=>0,λ_=>0,λ_ _=>0,λ_ _=>0,e))
 (λz=>if∀j i,z.2.2.2.2.2 j i=[i64 (vI ((z.2.2.2.2.2 j i).getD 0 .junk)),i64 (vI ((z.2.2.2.2.2 j i).getD 1 .junk))]then some (z.1,z.2.1,z.2.2.1,z.2.2.2.1,z.2.2.2.2.1,λj i=>vI ((z.2.2.2.2.2 j i).getD 0 .junk),λj i=>vI ((z.2.2.2.2.2 j i).getD 1 .junk),0)else none)
theorem hs3{f:FuncId}{args:List V}{L0:List (Option Z1)}{e:Int}{m:Nat}{g:Nat->List V}(h:SC E5 f args L0 (.ret (.tup [.sl 0 4 0 m,i64 e]) [some (.row 43 4 m g)])):SC E5 f args L0 (.ret (.tup [.ro 4 m g,i64 e]) []):=by
 have:=SC.give h (by simp[V.bw,V.bw1,V.bw2,hp,V.pure,n4,st,i64]);simpa[V.bw,V.bw1,V.bw2,hp,st,i64]using this
theorem gm0{f:FuncId}{args:List V}{L:List (Option Z1)}{y:oP}{z:kW}(h:SC E5 f args L (dd8 y))(hz:bdC y=some z):SC E5 f args L (cc5 z):=by
 rcases y with y|y
 ·obtain rfl:=Option.some.inj hz;exact AG h (Le.tup (AE AH (LeL.refl _)))
 ·unfold bdC at hz;dsimp only[Sum.elim_inr]at hz;split at hz
  ·rename_i hc;obtain rfl:=Option.some.inj hz;have e:y.2.2.2.2.2=λj i=>[i64 (vI ((y.2.2.2.2.2 j i).getD 0 .junk)),i64 (vI ((y.2.2.2.2.2 j i).getD 1 .junk))]:=funext λj=>funext λi=>hc j i;have h:=hs3 h;show SC E5 f args L (.ret (.tup [.ro 4 y.1 (λj=>[st (y.2.1 j),i64 (y.2.2.1 j),i64 (y.2.2.2.1 j),.ro 2 (y.2.2.2.2.1 j) ((λj i=>[i64 (vI ((y.2.2.2.2.2 j i).getD 0 .junk)),i64 (vI ((y.2.2.2.2.2 j i).getD 1 .junk))]) j)]),i64 0]) []);rw[<-e];exact h
  ·cases hz
noncomputable def by0(q:Nat)(x:ByteArray):Option kW:=(Build q x).bind bdC
theorem cj2(q:Nat):Lw E5 10 j7 cc5 (by0 q):=λx z h=>by
 obtain⟨y,h1,h2⟩:=Option.bind_eq_some_iff.1 h;exact gm0 (gb7 q x y h1) h2
noncomputable def df0(q:Nat)(x:ByteArray):Option kW:=(aw8 q x).bind bdC
theorem ev1(q:Nat):Lw E5 11 j7 cc5 (df0 q):=λx z h=>by
 obtain⟨y,h1,h2⟩:=Option.bind_eq_some_iff.1 h;exact gm0 (fo7 q x y h1) h2
end
end Go.Proofs.YtbmbhcheonjigaaGreatDoor
namespace Go.Proofs.YtbmbhcheonjigaaGreatDoor.Ty
section
open Go Go.Am Go.Proofs Go.Proofs.YtbmbhcheonjigaaGreatDoor Go.Proofs.Lx
def BdR(o:Int⊕List iI):oP->Prop:=Sum.elim (λe=>(e≠0/\o= .inl e)\/(e=0/\o= .inr [])) (λz=>∃(L:List iI) (x:ah8),o= .inr L/\X0 L x/\z=(x.1,x.2.1,x.2.2.1,x.2.2.2.1,x.2.2.2.2.1,el2 x))
noncomputable def aB(r:List Prc×Int×Int):iV:=.inl ((pOf r).1,(pOf r).2.1,(pOf r).2.2.1,(pOf r).2.2.2.1,(pOf r).2.2.2.2.1,(pOf r).2.2.2.2.2.1,(pOf r).2.2.2.2.2.2.1,(pOf r).2.2.2.2.2.2.2.1,(pOf r).2.2.2.2.2.2.2.2.1,(pOf r).2.2.2.2.2.2.2.2.2.1,(((pOf r).1:Nat):Int))
noncomputable def aR(r:List Prc×Int×Int):gA:=.inl ((pOf r).1,(pOf r).2.1,(pOf r).2.2.1,(pOf r).2.2.2.1,(pOf r).2.2.2.2.1,(pOf r).2.2.2.2.2.1,(pOf r).2.2.2.2.2.2.1,(pOf r).2.2.2.2.2.2.2.1,(pOf r).2.2.2.2.2.2.2.2.1,(pOf r).2.2.2.2.2.2.2.2.2.1)
theorem fz6{r:List Prc×Int×Int}(hl:r.1.length<=5000){q:Nat}(hq:40000<q){s:ByteArray}{o:Int⊕List iI}(h:BdO q r.1 [] o):
 Z2 (bp9 (ca4 q) (ai3 q) (tK q) q s (aB r)) (LpR o)/\Z2 (aw5 (ap7 q) (yN q) (pR q) q s (aR r)) (LpR o):=by
 have e1:(pOf r).1=r.1.length:=rfl;obtain⟨q',rfl⟩:∃k,q=k+1:=⟨q-1,by omega⟩;generalize hr:r.1=l at h;have hlen:r.1.length=l.length:=by rw[hr]
 cases h with
 |nil=>
  rw[List.length_nil]at hlen;refine⟨?_,?_⟩
  ·refine i6 ?_;dsimp only[Sum.elim_inl,aB];unfold nH U11;exact BE (by rw[decide_eq_true_eq];dsimp only;omega) (BC rfl)
  ·refine i6 ?_;dsimp only[Sum.elim_inl,aR];unfold kC U10;exact BE (by rw[decide_eq_true_eq];dsimp only;omega) (BC rfl)
 |err c l _ e p=>
  have hc:r.1[0]? =some c:=by rw[hr];rfl
  rw[List.length_cons]at hlen;refine⟨?_,?_⟩
  ·refine i6 ?_;dsimp only[Sum.elim_inl,aB];unfold nH U11;dsimp only;refine BD (by rw[decide_eq_true_eq];omega) (BD ⟨by omega,by omega⟩ ?_);rw[aa5 hc];exact p.1.step (λe' h0 ho=>BC ⟨h0,by obtain rfl:=Sum.inl.inj ho;rfl⟩) λb C ho _=>nomatch ho
  ·refine i6 ?_;dsimp only[Sum.elim_inl,aR];unfold kC U10;dsimp only;refine BD (by rw[decide_eq_true_eq];omega) (BD ⟨by omega,by omega⟩ ?_);rw[aa5 hc];exact p.2.1.step2 ⟨by omega,by omega⟩ (λe' h0 ho=>BC ⟨h0,by obtain rfl:=Sum.inl.inj ho;rfl⟩) λb C ho _=>nomatch ho
 |cons c l _ C _ p h=>
  have hc:r.1[0]? =some c:=by rw[hr];rfl
  rw[List.length_cons]at hlen;obtain⟨i1,i2⟩:=gu2 hl (s:=s) h 1 (by rw[hr];rfl) (by omega) rfl;refine⟨?_,?_⟩
  ·refine i6 ?_;dsimp only[Sum.elim_inl,aB];unfold nH U11;dsimp only;refine BD (by rw[decide_eq_true_eq];omega) (BD ⟨by omega,by omega⟩ ?_);rw[aa5 hc];refine p.1.step (λe' h0 ho=>nomatch ho) λb C' ho hC=>BC ?_;obtain rfl:=Sum.inr.inj ho;exact i1 q' (hn7 b) (by omega) (X0.one hC)
  ·refine i6 ?_;dsimp only[Sum.elim_inl,aR];unfold kC U10;dsimp only;refine BD (by rw[decide_eq_true_eq];omega) (BD ⟨by omega,by omega⟩ ?_);rw[aa5 hc];refine p.2.1.step2 ⟨by omega,by omega⟩ (λe' h0 ho=>nomatch ho) λb C' ho hC=>BC ?_;obtain rfl:=Sum.inr.inj ho;exact i2 q' (hn7 b) (by omega) (X0.one hC)
theorem fb1{s:ByteArray}{q:Nat}(hq:40000<q)(h0:(wI s).2.2=0){o:Int⊕List iI}(h:BdO q (wI s).1 [] o):Z2 (Build q s) (BdR o)/\Z2 (aw8 q s) (BdR o):=by
 obtain⟨hl,hs⟩:=yL (bs3 s);have h0':(pOf (wI s)).2.2.2.2.2.2.2.2.2.2.2=0:=h0;obtain⟨r1,r2⟩:=fz6 hl hq (s:=s) h;refine⟨?_,?_⟩
 ·unfold Build bj9;refine BB (P:=λa=>a=pOf (wI s)) ⟨_,rfl,rfl⟩ λa ha=>?_;subst ha;refine BE (by rw[h0'];decide) (BB r1 λb hb=>?_);rcases b with e|u|z
  ·exact BC (.inl hb)
  ·exact BC (.inr ⟨rfl,hb⟩)
  ·exact BC hb
 ·unfold aw8 av1;refine BB (P:=λa=>a=pOf (wI s)) ⟨_,rfl,rfl⟩ λa ha=>?_;subst ha;refine BE (by rw[h0'];decide) (BB r2 λb hb=>?_);rcases b with e|u|z
  ·exact BC (.inl hb)
  ·exact BC (.inr ⟨rfl,hb⟩)
  ·exact BC hb
theorem eo3(s:ByteArray){q:Nat}(hq:40000<q):∃o,(∀C,o= .inr C->C.length<=5000/\∀D∈C,D.2.2.2.length<=300)/\Z2 (Build q s) (BdR o)/\Z2 (aw8 q s) (BdR o):=by
 obtain⟨hl,hs⟩:=yL (bs3 s);by_cases h0:(wI s).2.2=0
 ·obtain⟨o,h⟩:=gl9 hq (wI s).1 [] hs;refine⟨o,λC hC=>?_,fb1 hq h0 h⟩;obtain⟨M,rfl,h2,h3⟩:=h.few C hC;exact⟨Nat.le_trans (Nat.le_of_eq h2) hl,h3⟩
 ·have h0':¬(pOf (wI s)).2.2.2.2.2.2.2.2.2.2.2=0:=h0;refine⟨.inl (wI s).2.2,(λC hC=>nomatch hC),?_,?_⟩
  ·unfold Build bj9;refine BB (P:=λa=>a=pOf (wI s)) ⟨_,rfl,rfl⟩ λa ha=>?_;subst ha;exact BD (by simpa using h0') (BC (.inl ⟨h0,rfl⟩))
  ·unfold aw8 av1;refine BB (P:=λa=>a=pOf (wI s)) ⟨_,rfl,rfl⟩ λa ha=>?_;subst ha;exact BD (by simpa using h0') (BC (.inl ⟨h0,rfl⟩))
def TdR(o:Int⊕List iI)(z:kW):Prop:=Sum.elim (λe=>e≠0/\z.2.2.2.2.2.2.2=e/\z.1=0) (λL=>z.2.2.2.2.2.2.2=0/\X0 L (z.1,z.2.1,z.2.2.1,z.2.2.2.1,z.2.2.2.2.1,z.2.2.2.2.2.1,z.2.2.2.2.2.2.1)) o
theorem gh7{o:Int⊕List iI}{ob:Option oP}(h:Z2 ob (BdR o)):Z2 (ob.bind bdC) (TdR o):=by
 refine BB h λy hy=>?_;rcases y with e|z
 ·refine BC ?_;rcases hy with⟨h0,rfl⟩ | ⟨rfl,rfl⟩
  ·exact⟨h0,rfl,rfl⟩
  ·exact⟨rfl,rfl,λj C hj=>by simp at hj⟩
 ·obtain⟨L,x,rfl,hx,rfl⟩:=hy;unfold bdC;dsimp only[Sum.elim_inr];split
  ·exact BC ⟨rfl,hx⟩
  ·rename_i h;exact absurd (λj i=>rfl) h
theorem gq3{L:List iI}{x y:ah8}(hx:X0 L x)(hy:X0 L y)(hD:∀D∈L,D.2.2.2.length<=300):∀j,j<x.1->gs1 (cAt x j) (cAt y j):=λj hj=>by
 have hl:j<L.length:=by rw[<-hx.1];exact hj
 have e:=List.getElem?_eq_getElem hl;obtain⟨a1,a2,a3,a4⟩:=hx.2 j _ e;obtain⟨b1,b2,b3,b4⟩:=hy.2 j _ e;have:=gx2 (n:=(L[j]).1) (p:=(L[j]).2.1) (v:=(L[j]).2.2.1) a4 b4 (hD _ (List.getElem_mem hl));rw[<-a1,<-a2,<-a3]at this;obtain⟨g1,g2,g3,g4,g5,g6⟩:=this;exact⟨a1.trans b1.symm,a2.trans b2.symm,a3.trans b3.symm,g4,g5,g6⟩
theorem fv1(s:ByteArray){q:Nat}(hq:40000<q):∃a b,by0 q s=some a/\df0 q s=some b/\a.2.2.2.2.2.2.2=b.2.2.2.2.2.2.2/\Z2 (rB q (a.1,a.2.1,a.2.2.1,a.2.2.2.1,a.2.2.2.2.1,a.2.2.2.2.2.1,a.2.2.2.2.2.2.1,b.1,b.2.1,b.2.2.1,b.2.2.2.1,b.2.2.2.2.1,b.2.2.2.2.2.1,b.2.2.2.2.2.2.1)) (λz=>z=true):=by
 have hBG:BG=1000000000:=rfl;obtain⟨o,hf,h1,h2⟩:=eo3 s hq;obtain⟨a,ha,ra⟩:=gh7 h1;obtain⟨b,hb,rb⟩:=gh7 h2;refine⟨a,b,ha,hb,?_⟩;rcases o with e|L
 ·obtain⟨_,e1,z1⟩:=ra;obtain⟨_,e2,z2⟩:=rb;refine⟨e1.trans e2.symm,al6 (x:=(a.1,a.2.1,a.2.2.1,a.2.2.2.1,a.2.2.2.2.1,a.2.2.2.2.2.1,a.2.2.2.2.2.2.1)) (y:=(b.1,b.2.1,b.2.2.1,b.2.2.2.1,b.2.2.2.2.1,b.2.2.2.2.2.1,b.2.2.2.2.2.2.1)) (z1.trans z2.symm) (λj hj=>?_) (by show((a.1:Nat):Int)<_;omega) (by show a.1+301<q;omega)⟩;have hj:j<a.1:=hj;omega
 ·obtain⟨e1,z1⟩:=ra;obtain⟨e2,z2⟩:=rb;obtain⟨f1,f2⟩:=hf L rfl;have l1:=z1.1;have l2:=z2.1;exact⟨e1.trans e2.symm,al6 (l1.trans l2.symm) (gq3 z1 z2 f2) (by rw[l1];omega) (by rw[l1];omega)⟩
end
end Go.Proofs.YtbmbhcheonjigaaGreatDoor.Ty
namespace Go.Proofs.YtbmbhcheonjigaaGreatDoor
section
open Go Go.Am Go.Proofs
abbrev dr9:Type:=ByteArray
theorem do2:VI j7:=l5
abbrev bk9:Type:=Unit
def fh2:AR bk9:=λx=>([],[])
theorem gy1:VI fh2:=vd λt=>()
def gs6:Bool->Z3:=(λz:Bool=>.ret (bo z) [])
abbrev dh3{β:Type}(A:dr9->Option kW)(B:dF->Option Bool)(x:bk9)(dn:Bool->Option β):Option β:=
 (A (⟨#[112,114,111,99,101,100,117,114,101,32,112,40,120,41,32,123,32,105,102,32,120,32,62,32,49,32,123,32,101,109,105,116,32,52,59,32,125,32,119,97,105,116,32,50,32,109,105,110,59,32,125]⟩)).bind λa=>(A (⟨#[112,114,111,99,101,100,117,114,101,32,113,40,41,32,123,32,114,101,112,101,97,116,32,51,32,123,32,117,115,101,32,50,32,102,111,114,32,53,32,115,59,32,125,32,125]⟩)).bind λb=>if(a.2.2.2.2.2.2.2 !=0) then dn false else if(b.2.2.2.2.2.2.2 !=0) then dn false else(B ((a.1,a.2.1,a.2.2.1,a.2.2.2.1,a.2.2.2.2.1,a.2.2.2.2.2.1,a.2.2.2.2.2.2.1,1,λj=>⟨#[112]⟩,λj=>1,λj=>1,λj=>8,λ(j j_1:Nat)=>if 0+j_1=0 then 2 else if 0+j_1-1=0 then 1 else if 0+j_1-1-1=0 then 11 else if 0+j_1-1-1-1=0 then 13 else if 0+j_1-1-1-1-1=0 then 15 else if 0+j_1-1-1-1-1-1=0 then 26 else if 0+j_1-1-1-1-1-1-1=0 then 18 else 28,λ(j j_1:Nat)=>if 0+j_1=0 then 0 else if 0+j_1-1=0 then 1 else if 0+j_1-1-1=0 then 0 else if 0+j_1-1-1-1=0 then 0 else if 0+j_1-1-1-1-1=0 then 6 else if 0+j_1-1-1-1-1-1=0 then 4 else if 0+j_1-1-1-1-1-1-1=0 then 120 else 0))).bind λc=>if(!c) then dn false else(B ((b.1,b.2.1,b.2.2.1,b.2.2.2.1,b.2.2.2.2.1,b.2.2.2.2.2.1,b.2.2.2.2.2.2.1,1,λj=>⟨#[113]⟩,λj=>0,λj=>0,λj=>4,λ(j j_1:Nat)=>if 0+j_1=0 then 16 else if 0+j_1-1=0 then 23 else if 0+j_1-1-1=0 then 17 else 28,λ(j j_1:Nat)=>if 0+j_1=0 then 3 else if 0+j_1-1=0 then 2000005 else if 0+j_1-1-1=0 then 1 else 0))).bind λd=>if(!d) then dn false else dn true
noncomputable def fc0(q:Nat)(x:bk9):Option Bool:=dh3 (by0 q) (rB q) x some
theorem gd8(q:Nat):Lw E5 13 fh2 gs6 (fc0 q):=so hW5 hX5 (kc do2 (cj2 q) (kc bu6 (be5 q) (kb (iR hW5 hX5 20).1))) λc β=>dh3 (β:=β) c.1 c.2.1
end
end Go.Proofs.YtbmbhcheonjigaaGreatDoor
namespace Go.Proofs.YtbmbhcheonjigaaGreatDoor.Ty
section
open Go Go.Am Go.Proofs Go.Proofs.YtbmbhcheonjigaaGreatDoor Go.Proofs.Lx
theorem gf5{s:ByteArray}{acc:List Tkn}{l:List Prc}(h:fP s (acc++[am7 s],0,0))(g:(match n7 (aA s acc) ai9 [] ⟨0,0,[]⟩with| .ok l _=>l|_=>[])=l)(hl:l≠[]):wI s=(l,0,0):=by
 have hp:=bs3 s;generalize wI s=r at hp;cases hp with
 |lex p e h1 h2=>
  have:=congrArg (λr:List Tkn×Nat×Int=>r.1.length) (mL h h1);simp at this
 |ok a l' s' h1 h2 h3=>
  have:=congrArg Prod.fst (mL h h1);obtain rfl:=List.append_cancel_right this;rw[h3]at g;rw[<-g]
 |err a p c h1 h2 h3 h4=>
  have:=congrArg Prod.fst (mL h h1);obtain rfl:=List.append_cancel_right this;rw[h4]at g;exact absurd g.symm hl
def hr4:ByteArray:=⟨#[112,114,111,99,101,100,117,114,101,32,112,40,120,41,32,123,32,105,102,32,120,32,62,32,49,32,123,32,101,109,105,116,32,52,59,32,125,32,119,97,105,116,32,50,32,109,105,110,59,32,125]⟩
def hq8:ByteArray:=⟨#[112,114,111,99,101,100,117,114,101,32,113,40,41,32,123,32,114,101,112,101,97,116,32,51,32,123,32,117,115,101,32,50,32,102,111,114,32,53,32,115,59,32,125,32,125]⟩
def hf1(s:ByteArray):List Tkn:=match ek4 s 100 0 []with|some (l,_,_)=>l.dropLast|none=>[]
def prc1:Prc:=⟨⟨#[112]⟩,[⟨⟨#[120]⟩,⟨#[]⟩⟩],.node 14 0 ⟨#[]⟩ [.node 3 0 ⟨#[]⟩ [.node 20 0 ⟨#[62]⟩ [.node 17 0 ⟨#[120]⟩ [],.node 15 1 ⟨#[]⟩ []],.node 14 0 ⟨#[]⟩ [.node 12 4 ⟨#[]⟩ []],.node 14 0 ⟨#[]⟩ []],.node 5 0 ⟨#[]⟩ [.node 15 2 ⟨#[109,105,110]⟩ []]]⟩
def prc2:Prc:=⟨⟨#[113]⟩,[],.node 14 0 ⟨#[]⟩ [.node 4 3 ⟨#[]⟩ [.node 14 0 ⟨#[]⟩ [.node 9 2 ⟨#[]⟩ [.node 15 5 ⟨#[115]⟩ []]]]]⟩
theorem hv0:wI hr4=([prc1],0,0):=gf5 (acc:=hf1 hr4) (.inr ⟨by decide,fi9 100 0 [] _ (by kernel_rfl)⟩) (by kernel_rfl) (by simp)
theorem hu5:wI hq8=([prc2],0,0):=gf5 (acc:=hf1 hq8) (.inr ⟨by decide,fi9 100 0 [] _ (by kernel_rfl)⟩) (by kernel_rfl) (by simp)
def mX:VM:=putL m0V [⟨#[120]⟩]
abbrev sMn:ByteArray:=⟨#[109,105,110]⟩
abbrev sSc:ByteArray:=⟨#[115]⟩
theorem look_min:(n8 sMn).2.2.2.2.2.2=true/\(n8 sMn).2.2.2.2.2.1=60:=by
 have e:=sN 0 sMn;unfold dG uL at e;simp only[cD]at e;have e:=Option.some.inj e;rw[<-e];exact⟨rfl,rfl⟩
theorem look_s:(n8 sSc).2.2.2.2.2.2=true/\(n8 sSc).2.2.2.2.2.1=1:=by
 have e:=sN 0 sSc;unfold dG uL at e;simp only[cD]at e;have e:=Option.some.inj e;rw[<-e];exact⟨rfl,rfl⟩
theorem df8:fI 2 sMn=120:=by unfold fI;rw[if_pos look_min.1,look_min.2];decide
theorem gl2:fI 5 sSc=5:=by unfold fI;rw[if_pos look_s.1,look_s.2];decide
abbrev hh5:Tr:=.node 20 0 ⟨#[62]⟩ [.node 17 0 ⟨#[120]⟩ [],.node 15 1 ⟨#[]⟩ []]
theorem hv4:okX (dmV mX) hh5:=by
 rw[okX,okX,okX];exact⟨rfl,by simp[ei9],.inr (.inr (.inl ⟨rfl,by rfl⟩)),.inl ⟨rfl,.inl rfl,by rw[zF];decide,by rw[zF];decide⟩⟩
theorem ce1:cE (fvM mX.2) hh5 0=[(2,0),(1,1),(11,0),(13,0)]:=by
 simp only[cE];rw[zF];rfl
theorem co1:∃d w,CoS prc1.b mX 0 mX [(2,0),(1,1),(11,0),(13,0),(15,6),(26,4),(18,120)] d w/\eF [(2,0),(1,1),(11,0),(13,0),(15,6),(26,4),(18,120)] d w=0:=by
 have h1:=CoS.ifE 0 ⟨#[]⟩ hh5 (.node 14 0 ⟨#[]⟩ [.node 12 4 ⟨#[]⟩ []]) 0 ⟨#[]⟩ mX mX 0 _ _ _ hv4 rfl (.blk 0 ⟨#[]⟩ _ _ _ _ _ _ _ (.cons _ _ _ _ _ _ _ _ _ _ _ _ (.emit 4 ⟨#[]⟩ mX _ (by decide) (by decide)) (.nil _ _)));rw[ce1]at h1;have h2:=CoS.wait 0 ⟨#[]⟩ 2 sMn mX 6 ⟨.inr look_min.1,by rw[df8];decide,by rw[df8];decide⟩;rw[df8]at h2;exact⟨_,_,.blk 0 ⟨#[]⟩ _ _ _ _ _ _ _ (.cons _ _ _ _ _ _ _ _ _ _ _ _ h1 (.cons _ _ _ _ _ _ _ _ _ _ _ _ h2 (.nil _ _))),by rfl⟩
theorem co2:∃d w,CoS prc2.b m0V 0 m0V [(16,3),(23,2000005),(17,1)] d w/\eF [(16,3),(23,2000005),(17,1)] d w=0:=by
 have h2:=CoS.use 2 ⟨#[]⟩ 5 sSc m0V 1 (by decide) (by decide) ⟨.inr look_s.1,by rw[gl2];decide,by rw[gl2];decide⟩;rw[gl2]at h2;exact⟨_,_,.blk 0 ⟨#[]⟩ _ _ _ _ _ _ _ (.cons _ _ _ _ _ _ _ _ _ _ _ _ (.rep 3 ⟨#[]⟩ _ _ _ _ _ _ _ (by decide) (by decide) rfl (.blk 0 ⟨#[]⟩ _ _ _ _ _ _ _ (.cons _ _ _ _ _ _ _ _ _ _ _ _ h2 (.nil _ _)))) (.nil _ _)),by rfl⟩
theorem cn3{s:ByteArray}{c:Prc}{m1:VM}{A:CoT}(hp:wI s=([c],0,0))(h0:lL c.ps.length (paC c) (puC c) c.b=0)(hk:kdT c.b=14)(hF:bh0 m0V (c.ps.map Prm.x))(hc:∃d w,CoS c.b (putL m0V (c.ps.map Prm.x)) 0 m1 A d w/\eF A d w=0){q:Nat}(hq:40000<q):Z2 (by0 q s) (TdR (.inr [(c.x,c.ps.length,m1.1,A++[(28,0)])])):=by
 obtain⟨d,w,hc,hE⟩:=hc;have hs:SmC 5000 c:=(yL (bs3 s)).2 c (by rw[hp];exact .head _);have h:=gr8 hs hq h0 hk hF hc;rw[if_pos hE]at h;exact gh7 (fb1 hq (by rw[hp]) (by rw[hp];exact .cons c [] [] _ _ h (.nil _))).1
theorem hu9:lL prc1.ps.length (paC prc1) (puC prc1) prc1.b=0:=by kernel_rfl
theorem hu8:lL prc2.ps.length (paC prc2) (puC prc2) prc2.b=0:=by kernel_rfl
theorem gt8{q:Nat}(hq:40000<q):Z2 (fc0 q ()) (λb=>b=true):=by
 have same:∀{C:iI} {x y:ah8},X0 [C] x->X0 [C] y->C.2.2.2.length<=300->Z2 (rB q (x.1,x.2.1,x.2.2.1,x.2.2.2.1,x.2.2.2.2.1,x.2.2.2.2.2.1,x.2.2.2.2.2.2,y)) (λb=>b=true):=λ{C x y} hx hy hl=>by
  have hBG:BG=1000000000:=rfl;have e:x.1=1:=hx.1;exact al6 (hx.1.trans hy.1.symm) (gq3 hx hy λD hD=>by rcases List.mem_cons.1 hD with h|h;rw[h];exact hl;cases h) (by rw[e];decide) (by rw[e];omega)
 unfold fc0 dh3;refine BB (cn3 hv0 hu9 rfl ⟨rfl,trivial⟩ co1 hq) λa ha=>BB (cn3 hu5 hu8 rfl trivial co2 hq) λb hb=>?_;obtain⟨e1,r1⟩:=ha;obtain⟨e2,r2⟩:=hb;refine BE (by rw[e1];decide) (BE (by rw[e2];decide) ?_);refine BB (same r1 ⟨rfl,λj D hj=>?_⟩ (by decide)) λc hc=>?_
 ·cases j with
  |succ j=>simp at hj
  |zero=>
   obtain rfl:=Option.some.inj (show some _=some D from hj);refine⟨rfl,rfl,rfl,rfl,λi p hi=>?_⟩;rcases i with _|_|_|_|_|_|_|_|i<;>first| (obtain rfl:=Option.some.inj (show some _=some p from hi);exact⟨rfl,rfl⟩) |cases hi
 subst hc;refine BE (by decide) (BB (same r2 ⟨rfl,λj D hj=>?_⟩ (by decide)) λc hc=>?_)
 ·cases j with
  |succ j=>simp at hj
  |zero=>
   obtain rfl:=Option.some.inj (show some _=some D from hj);refine⟨rfl,rfl,rfl,rfl,λi p hi=>?_⟩;rcases i with _|_|_|_|i<;>first| (obtain rfl:=Option.some.inj (show some _=some p from hi);exact⟨rfl,rfl⟩) |cases hi
 subst hc;exact BE (by decide) (BC rfl)
end
end Go.Proofs.YtbmbhcheonjigaaGreatDoor.Ty
namespace Go.Proofs.YtbmbhcheonjigaaGreatDoor
section
open Go Go.Am Go.Proofs
abbrev fz0:Type:=ByteArray
abbrev fu3:Type:=kW
theorem fy6:VI j7:=l5
def ho7:Bool->Z3:=(λz:Bool=>.ret (bo z) [])
abbrev ei7{β:Type}(A:dr9->Option kW)(B:fz0->Option fu3)(C:dF->Option Bool)(D:bk9->Option Bool)(x:ByteArray)(dn:Bool->Option β):Option β:=
 (A x).bind λa=>(B x).bind λb=>if(a.2.2.2.2.2.2.2==b.2.2.2.2.2.2.2) then(C ((a.1,a.2.1,a.2.2.1,a.2.2.2.1,a.2.2.2.2.1,a.2.2.2.2.2.1,a.2.2.2.2.2.2.1,b.1,b.2.1,b.2.2.1,b.2.2.2.1,b.2.2.2.2.1,b.2.2.2.2.2.1,b.2.2.2.2.2.2.1))).bind λc=>if c then(D ()).bind λd=>dn d else dn false else dn false
noncomputable def hp2(q:Nat)(x:ByteArray):Option Bool:=ei7 (by0 q) (df0 q) (rB q) (fc0 q) x some
theorem hc8(q:Nat):Lw E5 3 j7 ho7 (hp2 q):=so hW5 hX5 (kc do2 (cj2 q) (kc fy6 (ev1 q) (kc bu6 (be5 q) (kc gy1 (gd8 q) kn)))) λc β=>ei7 (β:=β) c.1 c.2.1 c.2.2.1 c.2.2.2.1
end
section
open Go Go.Am Go.Proofs Ty
theorem ft3(s:ByteArray):SC E5 3 [st s] [] (.ret (bo true) []):=by
 obtain⟨a,b,ha,hb,he,z,hz,rfl⟩:=fv1 s (q:=50000) (by decide)
 have h:hp2 50000 s=some true:=by
  unfold hp2 ei7;rw[ha];simp only[Option.bind_some];rw[hb];simp only[Option.bind_some,he];rw[if_pos (by simp),hz];simp only[Option.bind_some,if_true];obtain⟨u,hu,rfl⟩:=gt8 (q:=50000) (by decide);rw[hu];rfl
 exact hc8 50000 s true h
theorem compileBuild(v0:V)(h0:WTV E.P 9 v0):∃l',LeL [v0] l'/\SC E 3 l' [] (.ret (bo true) []):=by
 obtain⟨s,rfl,_⟩:=h0.str (by kernel_rfl) (by kernel_rfl);exact⟨[st s],LeL.refl _,sc5.1 (ft3 s)⟩
end
end Go.Proofs.YtbmbhcheonjigaaGreatDoor
