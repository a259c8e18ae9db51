/- Texts joined. -/
import Derived.Test.YtbmbhcheonjigaaGreatDoorQD
import Derived.Test.YtbmbhcheonjigaaGreatDoorQC
/- The reference's parser, lifted. -/
set_option linter.unusedSimpArgs false
set_option linter.defProp false
set_option linter.unusedVariables false
set_option maxRecDepth 100000
namespace Go.Proofs.YtbmbhcheonjigaaGreatDoor
section
open Go Go.Am Go.Proofs
noncomputable def E7:Env:={E5 with allR:=true}
theorem hW7:WF E7:=WF.of E7 (λ_=>rfl) (by kernel_rfl) hW.1.1
theorem hX7:Z6 E7:=Z6.none λ_ _=>rfl
abbrev zG{β:Type}(x:ByteArray)(dn:Bool->Option β):Option β:=
 if(x.toList==ByteArray.toList ⟨#[112,114,111,99,101,100,117,114,101]⟩) then dn true else if(x.toList==ByteArray.toList ⟨#[108,101,116]⟩) then dn true else if(x.toList==ByteArray.toList ⟨#[105,102]⟩) then dn true else if(x.toList==ByteArray.toList ⟨#[101,108,115,101]⟩) then dn true else if(x.toList==ByteArray.toList ⟨#[114,101,112,101,97,116]⟩) then dn true else if(x.toList==ByteArray.toList ⟨#[119,97,105,116]⟩) then dn true else if(x.toList==ByteArray.toList ⟨#[97,119,97,105,116]⟩) then dn true else if(x.toList==ByteArray.toList ⟨#[119,105,116,104,105,110]⟩) then dn true else if(x.toList==ByteArray.toList ⟨#[114,101,113,117,105,114,101]⟩) then dn true else if(x.toList==ByteArray.toList ⟨#[112,111,105,110,116]⟩) then dn true else if(x.toList==ByteArray.toList ⟨#[117,115,101]⟩) then dn true else if(x.toList==ByteArray.toList ⟨#[102,111,114]⟩) then dn true else if(x.toList==ByteArray.toList ⟨#[115,101,110,100]⟩) then dn true else if(x.toList==ByteArray.toList ⟨#[107,101,101,112]⟩) then dn true else if(x.toList==ByteArray.toList ⟨#[101,109,105,116]⟩) then dn true else if(x.toList==ByteArray.toList ⟨#[97,98,111,114,116]⟩) then dn true else if(x.toList==ByteArray.toList ⟨#[116,114,117,101]⟩) then dn true else if(x.toList==ByteArray.toList ⟨#[102,97,108,115,101]⟩) then dn true else if(x.toList==ByteArray.toList ⟨#[116,108,109]⟩) then dn true else dn false
noncomputable def gQ(q:Nat)(x:ByteArray):Option Bool:=zG x some
theorem oZ(q:Nat):Lw E7 111 j7 aX (gQ q):=so hW7 hX7 kn λc β=>zG (β:=β)
abbrev bl7{β:Type}(x:ByteArray)(dn:l7->Option β):Option β:=
 if(x.toList==ByteArray.toList ⟨#[74]⟩) then dn (1,0,0,0,0,1,true)else if(x.toList==ByteArray.toList ⟨#[107,74]⟩) then dn (1,0,0,0,0,1000,true)else if(x.toList==ByteArray.toList ⟨#[87,104]⟩) then dn (1,0,0,0,0,3600,true)else if(x.toList==ByteArray.toList ⟨#[66]⟩) then dn (0,1,0,0,0,1,true)else if(x.toList==ByteArray.toList ⟨#[107,66]⟩) then dn (0,1,0,0,0,1000,true)else if(x.toList==ByteArray.toList ⟨#[115]⟩) then dn (0,0,1,0,0,1,true)else if(x.toList==ByteArray.toList ⟨#[109,105,110]⟩) then dn (0,0,1,0,0,60,true)else if(x.toList==ByteArray.toList ⟨#[104]⟩) then dn (0,0,1,0,0,3600,true)else if(x.toList==ByteArray.toList ⟨#[100,101,103]⟩) then dn (0,0,0,1,0,1,true)else if(x.toList==ByteArray.toList ⟨#[75]⟩) then dn (0,0,0,0,1,1,true)else if(x.toList==ByteArray.toList ⟨#[87]⟩) then dn (1,0,(-1),0,0,1,true)else if(x.toList==ByteArray.toList ⟨#[107,87]⟩) then dn (1,0,(-1),0,0,1000,true)else if(x.toList==ByteArray.toList ⟨#[66,112,115]⟩) then dn (0,1,(-1),0,0,1,true)else dn (0,0,0,0,0,0,false)
noncomputable def cm9(q:Nat)(x:ByteArray):Option l7:=bl7 x some
theorem eb8(q:Nat):Lw E7 117 j7 ee7 (cm9 q):=so hW7 hX7 kn λc β=>bl7 (β:=β)
abbrev sH:Type:=Int×Int×ByteArray×Int
def fc6:AR sH:=λx=>([.agg [i64 x.1,i64 x.2.1,st x.2.2.1,i64 x.q3]],[])
theorem fi2:VI fc6:=vd λt=>((vI (ca t 0 0)),vI (ca t 0 1),vS (ca t 0 2),vI (ca t 0 3))
abbrev dh1{β:Type}(A:ByteArray->Option l7)(x:sH)(dn:Bool->Option β):Option β:=
 (A x.2.2.1).bind λa=>if(x.1==1) then dn a.2.2.2.2.2.2 else dn false
noncomputable def zY(q:Nat)(x:sH):Option Bool:=dh1 (cm9 q) x some
theorem ee3(q:Nat):Lw E7 114 fc6 aX (zY q):=so hW7 hX7 (kc l5 (eb8 q) kn) λc β=>dh1 (β:=β) c.1
abbrev f8:Type:=Int×SR
def ae7:AR f8:=λx=>([.ptr 0 0,i64 x.1],(hHR x.2))
theorem fQ:VI ae7:=vd λt=>((vI (ag t 1)),dHR t.2)
def bn2:SR->Z3:=λz=>.ret (.tup []) (hHR z)
abbrev av6{β:Type}(x:f8)(dn:SR->Option β):Option β:=
 U9 x λA B C D E F G H I=>if(D==0) then if 0<=B/\B< (F:Int)then dn (B,C,A,H (Int.toNat B),x.2.2.2.2.2)else none else dn x.2
noncomputable def dZ(q:Nat)(x:f8):Option SR:=av6 x some
theorem mN(q:Nat):Lw E7 110 ae7 bn2 (dZ q):=so hW7 hX7 kn λc β=>av6 (β:=β)
abbrev i7:Type:=ByteArray×SR
abbrev dB:Type:=Bool×SR
def bs5:AR i7:=λx=>([.ptr 0 0,st x.1],(hHR x.2))
theorem eE:VI bs5:=vd λt=>((vS (ag t 1)),dHR t.2)
def he4:dB->Z3:=λz=>.ret (bo z.1) (hHR z.2)
abbrev fi0{β:Type}(x:i7)(dn:dB->Option β):Option β:=
 U10 x λA B C D E F G H I J=>if(D==0) then if 0<=B/\B< (F:Int)then dn (ByteArray.toList (I (Int.toNat B))==A.toList,x.2)else none else dn (false,x.2)
noncomputable def ris(q:Nat)(x:i7):Option dB:=fi0 x some
theorem av8(q:Nat):Lw E7 113 bs5 he4 (ris q):=so hW7 hX7 kn λc β=>fi0 (β:=β)
abbrev aq7{β:Type}(A:i7->Option dB)(x:i7)(dn:dB->Option β):Option β:=
 (A x).bind λa=>if(!a.1) then dn (false,a.2)else dn (true,w (a.2.1+1),a.2.2)
noncomputable def dN(q:Nat)(x:i7):Option dB:=aq7 (ris q) x some
theorem uW(q:Nat):Lw E7 109 bs5 he4 (dN q):=so hW7 hX7 (kc eE (av8 q) kn) λc β=>aq7 (β:=β) c.1
abbrev ap2{β:Type}(A:i7->Option dB)(B:f8->Option SR)(x:i7)(dn:SR->Option β):Option β:=
 (A x).bind λa=>if(!a.1) then(B (11,a.2)).bind λb=>dn b else dn a.2
noncomputable def aH(q:Nat)(x:i7):Option SR:=ap2 (dN q) (dZ q) x some
theorem gF(q:Nat):Lw E7 48 bs5 bn2 (aH q):=so hW7 hX7 (kc eE (uW q) (kc fQ (mN q) kn)) λc β=>ap2 (β:=β) c.1 c.2.1
abbrev uS{β:Type}(A:i7->Option dB)(B:i7->Option dB)(C:f8->Option SR)(x:i7)(dn:SR->Option β):Option β:=
 (A x).bind λa=>if(!a.1) then(C (11,a.2)).bind λb=>if decide (b.2.1>=12) then(C (2,b)).bind λc=>(B (x.1,c)).bind λd=>dn (d.2.1,w (d.2.2.1+1),d.2.2.2)else(B (x.1,b)).bind λe=>dn (e.2.1,w (e.2.2.1+1),e.2.2.2)else if decide (a.2.2.1>=12) then(C (2,a.2)).bind λf=>(B (x.1,f)).bind λg=>dn (g.2.1,w (g.2.2.1+1),g.2.2.2)else(B (x.1,a.2)).bind λh=>dn (h.2.1,w (h.2.2.1+1),h.2.2.2)
noncomputable def bL(q:Nat)(x:i7):Option SR:=uS (ris q) (dN q) (dZ q) x some
theorem az4(q:Nat):Lw E7 115 bs5 bn2 (bL q):=so hW7 hX7 (kc eE (av8 q) (kc eE (uW q) (kc fQ (mN q) kn))) λc β=>uS (β:=β) c.1 c.2.1 c.2.2.1
abbrev pJ:Type:=Int×Int×SR
def co0:AR pJ:=λx=>([.ptr 0 0,i64 x.1,i64 x.2.1],(hHR x.2.2))
theorem av9:VI co0:=vd λt=>((vI (ag t 1)),vI (ag t 2),dHR t.2)
def ft2:f8->Z3:=λz=>.ret (i64 z.1) (hHR z.2)
abbrev pU{β:Type}(A:f8->Option SR)(x:pJ)(dn:f8->Option β):Option β:=
 U12 x λB C D E F G H I J K L M=>if 0<=D/\D< (H:Int)then if(I (Int.toNat D)!=2) then(A (11,x.2.2)).bind λa=>if decide (L (Int.toNat D)<B) then(A (5,a)).bind λb=>if(b.2.2.1 !=0) then dn (0,b)else dn (L (Int.toNat D),w (b.1+1),b.2)else if decide (L (Int.toNat D)>C) then(A (5,a)).bind λc=>if(c.2.2.1 !=0) then dn (0,c)else dn (L (Int.toNat D),w (c.1+1),c.2)else if(a.2.2.1 !=0) then dn (0,a)else dn (L (Int.toNat D),w (a.1+1),a.2)else if decide (L (Int.toNat D)<B) then(A (5,x.2.2)).bind λd=>if(d.2.2.1 !=0) then dn (0,d)else dn (L (Int.toNat D),w (d.1+1),d.2)else if decide (L (Int.toNat D)>C) then(A (5,x.2.2)).bind λe=>if(e.2.2.1 !=0) then dn (0,e)else dn (L (Int.toNat D),w (e.1+1),e.2)else if(F !=0) then dn (0,x.2.2)else dn (L (Int.toNat D),w (D+1),x.2.2.2)else none
noncomputable def eG(q:Nat)(x:pJ):Option f8:=pU (dZ q) x some
theorem ak2(q:Nat):Lw E7 260 co0 ft2 (eG q):=so hW7 hX7 (kc fQ (mN q) kn) λc β=>pU (β:=β) c.1
abbrev lZ:Type:=Nat×FS×ByteArray
def fa1:AR lZ:=λx=>([.ro 1 x.1 (λj=>[st (x.2.1 j)]),st x.2.2],[])
theorem fj0:VI fa1:=vd λt=>((r7 (ag t 0)),dTS (ag t 0) 0,vS (ag t 1))
abbrev y7:Type:=(Unit)⊕(Unit)
def er5(x:lZ)(y:Int):St:={fr:=[V.ro 1 x.1 λj=>[st (x.2.1 j)],st x.2.2,V.junk,V.junk,V.junk,i64 y]++jk 12,H:=hp [],nx:=0,rt:=0,me:=112}
theorem ey8(x:lZ):VL (er5 x):=vl λs=>(vI (fv s 5))
def eq8(x:lZ):y7->Ex×St:=(Sum.elim (λz=>(Ex.ret,{fr:=jk 4++[bo true]++jk 13,H:=hp [],nx:=0,rt:=0,me:=112})) (λz=>(Ex.exit 0,{fr:=[V.junk]++jk 17,H:=hp [],nx:=0,rt:=0,me:=112})))
abbrev wF{β:Type}(x:lZ)(y:Int)(nx:Int->Option β)(dn:y7->Option β):Option β:=
 if decide (y< (x.1:Int)) then if 0<=y/\y< (x.1:Int)then if(ByteArray.toList (x.2.1 (Int.toNat y))==x.2.2.toList) then dn (.inl ())else nx (w (y+1))else none else dn (.inr ())
noncomputable def yQ(q:Nat)(x:lZ):Int->Option y7:=lpG (λy=>wF x y (λy=>some (.inl y)) (λz=>some (.inr z))) q
abbrev dg7{β:Type}(A:Int->Option y7)(x:lZ)(dn:Bool->Option β):Option β:=
 (A (0)).bind λa=>Sum.elim (λb=>dn true) (λc=>dn false) a
noncomputable def dw5(q:Nat)(x:lZ):Option Bool:=dg7 (yQ q x) x some
theorem du2(q:Nat):Lw E7 112 fa1 aX (dw5 q):=have K:=kn;sl hW7 hX7 K (λx=>(lc 0 (ey8 x) (lp hX7 (eq8 x) 112 0 35 [(0,0)] 16 K ln q λc l β=>wF (β:=β) x) ln)) λc l β=>dg7 (β:=β) l.1
def bv3:AR ByteArray:=λx=>([j0,st x],[])
theorem dz4:VI bv3:=vd λt=>(vS (ag t 1))
def ed1(x:ByteArray)(y:Unit):St:={fr:=[j0,st x,V.junk,V.junk,V.junk,i64 0]++jk 12,H:=hp [],nx:=0,rt:=0,me:=112}
theorem dj9(x:ByteArray):VL (ed1 x):=vl λs=>()
def ef5(x:ByteArray):Unit->Ex×St:=(λz=>(Ex.exit 0,{fr:=[V.junk]++jk 17,H:=hp [],nx:=0,rt:=0,me:=112}))
abbrev bf4{β:Type}(x:ByteArray)(y:Unit)(nx:Unit->Option β)(dn:Unit->Option β):Option β:=
 dn ()
noncomputable def fr9(q:Nat)(x:ByteArray):Unit->Option Unit:=lpG (λy=>bf4 x y (λy=>some (.inl y)) (λz=>some (.inr z))) q
abbrev dr1{β:Type}(A:Unit->Option Unit)(x:ByteArray)(dn:Bool->Option β):Option β:=
 (A ()).bind λa=>dn false
noncomputable def er4(q:Nat)(x:ByteArray):Option Bool:=dr1 (fr9 q x) x some
theorem fx1(q:Nat):Lw E7 112 bv3 aX (er4 q):=have K:=kn;sl hW7 hX7 K (λx=>(lc 0 (dj9 x) (lp hX7 (ef5 x) 112 0 35 [(0,0)] 16 K ln q λc l β=>bf4 (β:=β) x) ln)) λc l β=>dr1 (β:=β) l.1
def dm3:AR f8:=λx=>([.ptr 0 0,j0,i64 x.1],(hHR x.2))
theorem bu1:VI dm3:=vd λt=>((vI (ag t 2)),dHR t.2)
def bo7:i7->Z3:=λz=>.ret (st z.1) (hHR z.2)
abbrev ap5{β:Type}(A:ByteArray->Option Bool)(B:f8->Option SR)(C:ByteArray->Option Bool)(x:f8)(dn:i7->Option β):Option β:=
 U10 x λD E F G H I J K L M=>if 0<=E/\E< (I:Int)then if(J (Int.toNat E)!=1) then(B (11,x.2)).bind λa=>(C (L (Int.toNat E))).bind λb=>if b then(B (4,a)).bind λc=>if decide (0>=D) then(B (2,c)).bind λd=>if(d.2.2.1 !=0) then dn (⟨#[]⟩,d)else dn (L (Int.toNat E),w (d.1+1),d.2)else if(c.2.2.1 !=0) then dn (⟨#[]⟩,c)else dn (L (Int.toNat E),w (c.1+1),c.2)else if decide (0>=D) then(B (2,a)).bind λe=>if(e.2.2.1 !=0) then dn (⟨#[]⟩,e)else dn (L (Int.toNat E),w (e.1+1),e.2)else if(a.2.2.1 !=0) then dn (⟨#[]⟩,a)else dn (L (Int.toNat E),w (a.1+1),a.2)else(A (L (Int.toNat E))).bind λf=>if f then(B (11,x.2)).bind λg=>(C (L (Int.toNat E))).bind λh=>if h then(B (4,g)).bind λi=>if decide (0>=D) then(B (2,i)).bind λj=>if(j.2.2.1 !=0) then dn (⟨#[]⟩,j)else dn (L (Int.toNat E),w (j.1+1),j.2)else if(i.2.2.1 !=0) then dn (⟨#[]⟩,i)else dn (L (Int.toNat E),w (i.1+1),i.2)else if decide (0>=D) then(B (2,g)).bind λk=>if(k.2.2.1 !=0) then dn (⟨#[]⟩,k)else dn (L (Int.toNat E),w (k.1+1),k.2)else if(g.2.2.1 !=0) then dn (⟨#[]⟩,g)else dn (L (Int.toNat E),w (g.1+1),g.2)else(C (L (Int.toNat E))).bind λl=>if l then(B (4,x.2)).bind λm=>if decide (0>=D) then(B (2,m)).bind λn=>if(n.2.2.1 !=0) then dn (⟨#[]⟩,n)else dn (L (Int.toNat E),w (n.1+1),n.2)else if(m.2.2.1 !=0) then dn (⟨#[]⟩,m)else dn (L (Int.toNat E),w (m.1+1),m.2)else if decide (0>=D) then(B (2,x.2)).bind λo=>if(o.2.2.1 !=0) then dn (⟨#[]⟩,o)else dn (L (Int.toNat E),w (o.1+1),o.2)else if(G !=0) then dn (⟨#[]⟩,x.2)else dn (L (Int.toNat E),w (E+1),x.2.2)else none
noncomputable def kL(q:Nat)(x:f8):Option i7:=ap5 (gQ q) (dZ q) (er4 q) x some
theorem ay1(q:Nat):Lw E7 49 dm3 bo7 (kL q):=so hW7 hX7 (kc l5 (oZ q) (kc fQ (mN q) (kg (λa _=>iA (a.getD 0 .junk)) dz4 (fx1 q) kn))) λc β=>ap5 (β:=β) c.1 c.2.1 c.2.2.1
def ed5:AR f8:=λx=>([.ptr 0 0,.sl 1 1 0 x.p10,i64 x.1],(hHR x.2))
theorem dr2:VI ed5:=vd λt=>((vI (ag t 2)),vI (cc t 0 1),vI (cc t 0 2),vI (cc t 0 3),vI (cc t 0 4),r7 (cc t 0 0),dTI (cc t 0 0) 0,dTI (cc t 0 0) 1,dTS (cc t 0 0) 2,dTI (cc t 0 0) 3,aV (ag t 1),dRS (co t 1) 0)
abbrev cd4{β:Type}(A:ByteArray->Option Bool)(B:f8->Option SR)(C:lZ->Option Bool)(x:f8)(dn:i7->Option β):Option β:=
 U12 x λD E F G H I J K L M N O=>if 0<=E/\E< (I:Int)then if(J (Int.toNat E)!=1) then(B (11,x.2)).bind λa=>if 0+N<=a.2.2.2.2.2.2.2.2.2.1/\1=1 then(C (N,λj=>a.2.2.2.2.2.2.2.2.2.2 (0+j),L (Int.toNat E))).bind λb=>if b then(B (4,a)).bind λc=>if decide ((N:Int)>=D) then(B (2,c)).bind λd=>if(d.2.2.1 !=0) then dn (⟨#[]⟩,d)else dn (L (Int.toNat E),w (d.1+1),d.2)else if(c.2.2.1 !=0) then dn (⟨#[]⟩,c)else dn (L (Int.toNat E),w (c.1+1),c.2)else if decide ((N:Int)>=D) then(B (2,a)).bind λe=>if(e.2.2.1 !=0) then dn (⟨#[]⟩,e)else dn (L (Int.toNat E),w (e.1+1),e.2)else if(a.2.2.1 !=0) then dn (⟨#[]⟩,a)else dn (L (Int.toNat E),w (a.1+1),a.2)else none else(A (L (Int.toNat E))).bind λf=>if f then(B (11,x.2)).bind λg=>if 0+N<=g.2.2.2.2.2.2.2.2.2.1/\1=1 then(C (N,λj=>g.2.2.2.2.2.2.2.2.2.2 (0+j),L (Int.toNat E))).bind λh=>if h then(B (4,g)).bind λi=>if decide ((N:Int)>=D) then(B (2,i)).bind λk=>if(k.2.2.1 !=0) then dn (⟨#[]⟩,k)else dn (L (Int.toNat E),w (k.1+1),k.2)else if(i.2.2.1 !=0) then dn (⟨#[]⟩,i)else dn (L (Int.toNat E),w (i.1+1),i.2)else if decide ((N:Int)>=D) then(B (2,g)).bind λl=>if(l.2.2.1 !=0) then dn (⟨#[]⟩,l)else dn (L (Int.toNat E),w (l.1+1),l.2)else if(g.2.2.1 !=0) then dn (⟨#[]⟩,g)else dn (L (Int.toNat E),w (g.1+1),g.2)else none else if 0+N<=N/\1=1 then(C (N,λj=>O (0+j),L (Int.toNat E))).bind λm=>if m then(B (4,x.2)).bind λn=>if decide ((N:Int)>=D) then(B (2,n)).bind λo=>if(o.2.2.1 !=0) then dn (⟨#[]⟩,o)else dn (L (Int.toNat E),w (o.1+1),o.2)else if(n.2.2.1 !=0) then dn (⟨#[]⟩,n)else dn (L (Int.toNat E),w (n.1+1),n.2)else if decide ((N:Int)>=D) then(B (2,x.2)).bind λp=>if(p.2.2.1 !=0) then dn (⟨#[]⟩,p)else dn (L (Int.toNat E),w (p.1+1),p.2)else if(G !=0) then dn (⟨#[]⟩,x.2)else dn (L (Int.toNat E),w (E+1),x.2.2)else none else none
noncomputable def qQ(q:Nat)(x:f8):Option i7:=cd4 (gQ q) (dZ q) (dw5 q) x some
theorem cl2(q:Nat):Lw E7 49 ed5 bo7 (qQ q):=so hW7 hX7 (kc l5 (oZ q) (kc fQ (mN q) (kg (λa _=> !iA (a.getD 0 .junk)) fj0 (du2 q) kn))) λc β=>cd4 (β:=β) c.1 c.2.1 c.2.2.1
abbrev pZ:Type:=Int×Nat×FS×SR
abbrev qE:Type:=ByteArray×Nat×FS×SR
def dt0:AR pZ:=λx=>([.ptr 0 0,.sl 1 1 0 x.2.1,i64 x.1],[some (.blk [.ro 4 x.p7 (λj=>[i64 (x.p8 j),i64 (x.p9 j),st (x.p10 j),i64 (x.p11 j)]),i64 x.p3,i64 x.p4,i64 x.p5,i64 x.p6,.sl 2 1 0 x.p12]),some (.row 9 1 x.2.1 (λj=>[st (x.2.2.1 j)])),some (.row 9 1 x.p12 (λj=>[st (x.q13 j)]))])
theorem gn6:VI dt0:=vd λt=>((vI (ag t 2)),aV (ag t 1),dRS (co t 1) 0,vI (cc t 0 1),vI (cc t 0 2),vI (cc t 0 3),vI (cc t 0 4),r7 (cc t 0 0),dTI (cc t 0 0) 0,dTI (cc t 0 0) 1,dTS (cc t 0 0) 2,dTI (cc t 0 0) 3,aV (cc t 0 5),dRS (co t 2) 0)
def gn9:qE->Z3:=λz=>.ret (st z.1) [some (.blk [.ro 4 z.p7 (λj=>[i64 (z.p8 j),i64 (z.p9 j),st (z.p10 j),i64 (z.p11 j)]),i64 z.p3,i64 z.p4,i64 z.p5,i64 z.p6,.sl 2 1 0 z.p12]),some (.row 9 1 z.2.1 (λj=>[st (z.2.2.1 j)])),some (.row 9 1 z.p12 (λj=>[st (z.q13 j)]))]
abbrev aq5{β:Type}(A:ByteArray->Option Bool)(B:f8->Option SR)(C:lZ->Option Bool)(x:pZ)(dn:qE->Option β):Option β:=
 U12 x λD E F G H I J K L M N O=>if 0<=G/\G< (K:Int)then if(L (Int.toNat G)!=1) then(B (11,x.2.2.2)).bind λa=>if 0+E<=E/\1=1 then(C (E,λj=>F (0+j),N (Int.toNat G))).bind λb=>if b then(B (4,a)).bind λc=>if decide ((E:Int)>=D) then(B (2,c)).bind λd=>if(d.2.2.1 !=0) then dn (⟨#[]⟩,E,F,d)else dn (N (Int.toNat G),E,F,w (d.1+1),d.2)else if(c.2.2.1 !=0) then dn (⟨#[]⟩,E,F,c)else dn (N (Int.toNat G),E,F,w (c.1+1),c.2)else if decide ((E:Int)>=D) then(B (2,a)).bind λe=>if(e.2.2.1 !=0) then dn (⟨#[]⟩,E,F,e)else dn (N (Int.toNat G),E,F,w (e.1+1),e.2)else if(a.2.2.1 !=0) then dn (⟨#[]⟩,E,F,a)else dn (N (Int.toNat G),E,F,w (a.1+1),a.2)else none else(A (N (Int.toNat G))).bind λf=>if f then(B (11,x.2.2.2)).bind λg=>if 0+E<=E/\1=1 then(C (E,λj=>F (0+j),N (Int.toNat G))).bind λh=>if h then(B (4,g)).bind λi=>if decide ((E:Int)>=D) then(B (2,i)).bind λk=>if(k.2.2.1 !=0) then dn (⟨#[]⟩,E,F,k)else dn (N (Int.toNat G),E,F,w (k.1+1),k.2)else if(i.2.2.1 !=0) then dn (⟨#[]⟩,E,F,i)else dn (N (Int.toNat G),E,F,w (i.1+1),i.2)else if decide ((E:Int)>=D) then(B (2,g)).bind λl=>if(l.2.2.1 !=0) then dn (⟨#[]⟩,E,F,l)else dn (N (Int.toNat G),E,F,w (l.1+1),l.2)else if(g.2.2.1 !=0) then dn (⟨#[]⟩,E,F,g)else dn (N (Int.toNat G),E,F,w (g.1+1),g.2)else none else if 0+E<=E/\1=1 then(C (E,λj=>F (0+j),N (Int.toNat G))).bind λm=>if m then(B (4,x.2.2.2)).bind λn=>if decide ((E:Int)>=D) then(B (2,n)).bind λo=>if(o.2.2.1 !=0) then dn (⟨#[]⟩,E,F,o)else dn (N (Int.toNat G),E,F,w (o.1+1),o.2)else if(n.2.2.1 !=0) then dn (⟨#[]⟩,E,F,n)else dn (N (Int.toNat G),E,F,w (n.1+1),n.2)else if decide ((E:Int)>=D) then(B (2,x.2.2.2)).bind λp=>if(p.2.2.1 !=0) then dn (⟨#[]⟩,E,F,p)else dn (N (Int.toNat G),E,F,w (p.1+1),p.2)else if(I !=0) then dn (⟨#[]⟩,x.2)else dn (N (Int.toNat G),E,F,w (G+1),x.2.2.2.2)else none else none
noncomputable def xT(q:Nat)(x:pZ):Option qE:=aq5 (gQ q) (dZ q) (dw5 q) x some
theorem fw3(q:Nat):Lw E7 49 dt0 gn9 (xT q):=so hW7 hX7 (kc l5 (oZ q) (kc fQ (mN q) (kg (λa _=> !iA (a.getD 0 .junk)) fj0 (du2 q) kn))) λc β=>aq5 (β:=β) c.1 c.2.1 c.2.2.1
abbrev rZ:Type:=(ByteArray)⊕(ByteArray×ByteArray)⊕(ByteArray×ByteArray×ByteArray×ByteArray×ByteArray×ByteArray)
def bg3:AR Int:=λx=>([i64 x],[])
theorem dv9:VI bg3:=vd λt=>(vI (ag t 0))
def dz9:rZ->Z3:=Sum.elim (λz:ByteArray=>.ret (.sl 0 1 0 1) [some (.row 9 1 1 (cN [[st z]]))]) (Sum.elim (λz:ByteArray×ByteArray=>.ret (.sl 0 1 0 2) [some (.row 9 1 2 (cN [[st z.1],[st z.2]]))]) (λz:ByteArray×ByteArray×ByteArray×ByteArray×ByteArray×ByteArray=>.ret (.sl 0 1 0 6) [some (.row 9 1 6 (cN [[st z.1],[st z.2.1],[st z.2.2.1],[st z.p3],[st z.p4],[st z.q5]]))]))
abbrev bg4{β:Type}(x:Int)(dn:rZ->Option β):Option β:=
 if(x==1) then dn (.inl (⟨#[124,124]⟩))else if(x==2) then dn (.inl (⟨#[38,38]⟩))else if(x==4) then dn (.inr (.inr (⟨#[60]⟩,⟨#[60,61]⟩,⟨#[62]⟩,⟨#[62,61]⟩,⟨#[61,61]⟩,⟨#[33,61]⟩)))else if(x==5) then dn (.inr (.inl (⟨#[43]⟩,⟨#[45]⟩)))else dn (.inr (.inl (⟨#[42]⟩,⟨#[47]⟩)))
noncomputable def operators(q:Nat)(x:Int):Option rZ:=bg4 x some
theorem de6(q:Nat):Lw E7 316 bg3 dz9 (operators q):=so hW7 hX7 kn λc β=>bg4 (β:=β)
abbrev bN{β:Type}(A:Int->Option rZ)(B:i7->Option dB)(x:f8)(dn:i7->Option β):Option β:=
 (A x.1).bind λa=>Sum.elim (λb=>(B (b,x.2)).bind λc=>if c.1 then dn (b,c.2)else dn (⟨#[]⟩,c.2)) (λd=>Sum.elim (λe=>(B (if 0=0 then e.1 else e.2,x.2)).bind λf=>if f.1 then dn (if 0=0 then e.1 else e.2,f.2)else(B (if 1=0 then e.1 else e.2,f.2)).bind λg=>if g.1 then dn (if 1=0 then e.1 else e.2,g.2)else dn (⟨#[]⟩,g.2)) (λh=>(B (if 0=0 then h.1 else if 0=0 then h.2.1 else if 0=0 then h.2.2.1 else if 0=0 then h.2.2.2.1 else if 0=0 then h.2.2.2.2.1 else h.2.2.2.2.2,x.2)).bind λi=>if i.1 then dn (if 0=0 then h.1 else if 0=0 then h.2.1 else if 0=0 then h.2.2.1 else if 0=0 then h.2.2.2.1 else if 0=0 then h.2.2.2.2.1 else h.2.2.2.2.2,i.2)else(B (if 1=0 then h.1 else if 0=0 then h.2.1 else if 0=0 then h.2.2.1 else if 0=0 then h.2.2.2.1 else if 0=0 then h.2.2.2.2.1 else h.2.2.2.2.2,i.2)).bind λj=>if j.1 then dn (if 1=0 then h.1 else if 0=0 then h.2.1 else if 0=0 then h.2.2.1 else if 0=0 then h.2.2.2.1 else if 0=0 then h.2.2.2.2.1 else h.2.2.2.2.2,j.2)else(B (if 2=0 then h.1 else if 1=0 then h.2.1 else if 0=0 then h.2.2.1 else if 0=0 then h.2.2.2.1 else if 0=0 then h.2.2.2.2.1 else h.2.2.2.2.2,j.2)).bind λk=>if k.1 then dn (if 2=0 then h.1 else if 1=0 then h.2.1 else if 0=0 then h.2.2.1 else if 0=0 then h.2.2.2.1 else if 0=0 then h.2.2.2.2.1 else h.2.2.2.2.2,k.2)else(B (if 3=0 then h.1 else if 2=0 then h.2.1 else if 1=0 then h.2.2.1 else if 0=0 then h.2.2.2.1 else if 0=0 then h.2.2.2.2.1 else h.2.2.2.2.2,k.2)).bind λl=>if l.1 then dn (if 3=0 then h.1 else if 2=0 then h.2.1 else if 1=0 then h.2.2.1 else if 0=0 then h.2.2.2.1 else if 0=0 then h.2.2.2.2.1 else h.2.2.2.2.2,l.2)else(B (if 4=0 then h.1 else if 3=0 then h.2.1 else if 2=0 then h.2.2.1 else if 1=0 then h.2.2.2.1 else if 0=0 then h.2.2.2.2.1 else h.2.2.2.2.2,l.2)).bind λm=>if m.1 then dn (if 4=0 then h.1 else if 3=0 then h.2.1 else if 2=0 then h.2.2.1 else if 1=0 then h.2.2.2.1 else if 0=0 then h.2.2.2.2.1 else h.2.2.2.2.2,m.2)else(B (if 5=0 then h.1 else if 4=0 then h.2.1 else if 3=0 then h.2.2.1 else if 2=0 then h.2.2.2.1 else if 1=0 then h.2.2.2.2.1 else h.2.2.2.2.2,m.2)).bind λn=>if n.1 then dn (if 5=0 then h.1 else if 4=0 then h.2.1 else if 3=0 then h.2.2.1 else if 2=0 then h.2.2.2.1 else if 1=0 then h.2.2.2.2.1 else h.2.2.2.2.2,n.2)else dn (⟨#[]⟩,n.2)) d) a
noncomputable def l6(q:Nat)(x:f8):Option i7:=bN (operators q) (dN q) x some
theorem dt6(q:Nat):Lw E7 266 ae7 bo7 (l6 q):=have K:=(kc dv9 (de6 q) (kc eE (uW q) kn));sl hW7 hX7 K (λx=>(lu [0] hX7 K ln)) λc l β=>bN (β:=β) c.1 c.2.1
theorem un7{f:FuncId}{args:List V}{L:List (Option Z1)}{cr:Z3}(h:SC E7 f args L cr)(hr:Nat.ble (cR false (hp L) args).length (cR true (hp L) args).length=true):SC E5 f args L cr:=by
 refine⟨h.1,λβ S w us h1 h2 h3=>(h.2 β S w us h1 h2 ⟨h3.rd,h3.inv⟩).mono ?_⟩;intro e w' hp';cases cr with
 |ret v L'=>
  obtain⟨u,β',S',g0,g1,g2,g3,g4⟩:=hp';exact⟨u,β',S',g0,g1,g2,g3,λi bm hi hb=>g4 i bm (Nat.lt_of_lt_of_le hi (Nat.le_of_ble_eq_true hr)) hb⟩
 |pan v=>exact hp'
theorem fz1{f:FuncId}{args:List V}{L H:List (Option Z1)}{a b:Int}{s:ByteArray}{g:Nat->List V}(h:SC E5 f args L (.ret (.agg [i64 a,i64 b,st s,j0]) H)):SC E5 f args L (.ret (.agg [i64 a,i64 b,st s,.ro 4 0 g]) H):=
 AG h (Le.agg (AE (AD _) (AE (AD _) (AE (AD _) (AE AH AF)))))
theorem hm8{f:FuncId}{args:List V}{L:List (Option Z1)}{a b pa po pb pl:Int}{s:ByteArray}{tn nv m:Nat}{tf vf g:Nat->List V}
 (h:SC E5 f args L (.ret (.agg [i64 a,i64 b,st s,.sl 2 4 0 m]) [some (.blk [.ro 4 tn tf,i64 pa,i64 po,i64 pb,i64 pl,.sl 1 1 0 nv]),some (.row 9 1 nv vf),some (.row 37 4 m g)])):
 SC E5 f args L (.ret (.agg [i64 a,i64 b,st s,.ro 4 m g]) [some (.blk [.ro 4 tn tf,i64 pa,i64 po,i64 pb,i64 pl,.sl 1 1 0 nv]),some (.row 9 1 nv vf)]):=by
 have h2:=SC.giveM (L2:=[some (.blk [.ro 4 tn tf,i64 pa,i64 po,i64 pb,i64 pl,.sl 1 1 0 nv]),some (.row 9 1 nv vf)]) 2 h (by rfl) (by simp[V.bw,V.bw2,V.bw1,hp,V.pure,n4]);simpa[V.bw,V.bw2,V.bw1,hp]using h2
theorem hh0{f:FuncId}{args:List V}{L:List (Option Z1)}{a b pa po pb pl:Int}{s:ByteArray}{tn nv m:Nat}{tf vf g:Nat->List V}
 (h:SC E5 f args L (.ret (.agg [i64 a,i64 b,st s,.sl 2 4 0 m]) [some (.blk [.ro 4 tn tf,i64 pa,i64 po,i64 pb,i64 pl,.sl 1 1 0 nv]),some (.row 9 1 nv vf),some (.row 37 4 m g)])):
 SC E5 f args L (.ret (.agg [i64 a,i64 b,st s,.ro 4 m g]) [some (.blk [.ro 4 tn tf,i64 pa,i64 po,i64 pb,i64 pl,.sl 1 1 0 nv]),some (.row 9 1 nv vf)]):=hm8 h
theorem hu7{f:FuncId}{args:List V}{L:List (Option Z1)}{a b pa po pb pl:Int}{s:ByteArray}{tn nv m:Nat}{tf vf g:Nat->List V}
 (h:SC E5 f args L (.ret (.agg [i64 a,i64 b,st s,.sl 2 4 0 m]) [some (.blk [.ro 4 tn tf,i64 pa,i64 po,i64 pb,i64 pl,.sl 1 1 0 nv]),some (.row 9 1 nv vf),some (.row 37 4 m g)])):
 SC E5 f args L (.ret (.agg [i64 a,i64 b,st s,.ro 4 m (λj=>fixC (g j))]) [some (.blk [.ro 4 tn tf,i64 pa,i64 po,i64 pb,i64 pl,.sl 1 1 0 nv]),some (.row 9 1 nv vf)]):=
 AG (hm8 h) (Le.agg (AE (AD _) (AE (AD _) (AE (AD _) (AE Le.ro_fix AF)))))
theorem u7{f:FuncId}{α γ:Type}{A:AR α}{R:γ->Z3}{c:α->Option γ}(h:Lw E7 f A R c)(hr:∀x,Nat.ble (cR false (hp (A x).2) (A x).1).length (cR true (hp (A x).2) (A x).1).length=true):Lw E5 f A R c:=λx z hx=>un7 (h x z hx) (hr x)
abbrev r9:Type:=Int×Int×ByteArray×SR
def bF:AR SR:=λx=>([.ptr 0 0],(hHR x))
theorem gJ:VI bF:=vd λt=>(dHR t.2)
def sA:r9->Z3:=λz=>.ret (.agg [i64 z.1,i64 z.2.1,st z.2.2.1,j0]) (hHR z.q3)
abbrev rR{β:Type}(A:pJ->Option f8)(B:sH->Option Bool)(x:SR)(dn:r9->Option β):Option β:=
 (A (0,2147483647,x)).bind λa=>if 0<=a.2.1/\a.2.1< (a.2.2.2.2.2.1:Int)then if(a.2.2.2.1==0) then(B (a.2.2.2.2.2.2.1 (Int.toNat a.2.1),a.2.2.2.2.2.2.2.1 (Int.toNat a.2.1),a.2.2.2.2.2.2.2.2.1 (Int.toNat a.2.1),a.2.2.2.2.2.2.2.2.2.1 (Int.toNat a.2.1))).bind λb=>if b then dn (15,a.1,a.2.2.2.2.2.2.2.2.1 (Int.toNat a.2.1),w (a.2.1+1),a.2.2)else dn (15,a.1,⟨#[]⟩,a.2)else dn (15,a.1,⟨#[]⟩,a.2)else none
noncomputable def ab5(q:Nat)(x:SR):Option r9:=rR (eG q) (zY q) x some
theorem dd3(q:Nat):Lw E5 262 bF sA (ab5 q):=so hW5 hX5 (kc av9 (u7 (ak2 q) λ_=>by kernel_rfl) (kc fi2 (u7 (ee3 q) λ_=>by kernel_rfl) kn)) λc β=>rR (β:=β) c.1 c.2.1
abbrev b5:Type:=Int×Int×ByteArray×Nat×FL×SR
def o9:b5->Z3:=λz=>.ret (.agg [i64 z.1,i64 z.2.1,st z.2.2.1,.ro 4 z.p3 z.p4]) (hHR z.q5)
def mR:r9->b5:=λz=>(z.1,z.2.1,z.2.2.1,0,λ_=>[],z.2.2.2)
theorem di1{args:List V}{L:List (Option Z1)}(z:r9)(h:SC E5 262 args L (sA z)):SC E5 262 args L (o9 (mR z)):=by
 exact fz1 h
noncomputable def iF(q:Nat)(x:SR):Option b5:=(ab5 q x).map mR
theorem yW(q:Nat):Lw E5 262 bF o9 (iF q):=by
 intro x z h;obtain⟨y,hy,rfl⟩:=Option.map_eq_some_iff.1 h;exact di1 y (dd3 q x y hy)
abbrev mO:Type:=ByteArray×Int×SR
def bw3:AR mO:=λx=>([.ptr 0 0,st x.1,i64 x.2.1],(hHR x.2.2))
theorem gh8:VI bw3:=vd λt=>((vS (ag t 1)),vI (ag t 2),dHR t.2)
abbrev au2:Type:=(Int×Int×ByteArray×Nat×FL×SR)⊕(Int×Int×ByteArray×SR)⊕(Int×Int×ByteArray×Int×Int×ByteArray×Nat×FL×Int×Int×ByteArray×Nat×FL×SR)
def gg8:au2->Z3:=Sum.elim (λz:Int×Int×ByteArray×Nat×FL×SR=>.ret (.agg [i64 z.1,i64 z.2.1,st z.2.2.1,.ro 4 z.p3 z.p4]) (hHR z.q5)) (Sum.elim (λz:Int×Int×ByteArray×SR=>.ret (.agg [i64 z.1,i64 z.2.1,st z.2.2.1,j0]) (hHR z.q3)) (λz:Int×Int×ByteArray×Int×Int×ByteArray×Nat×FL×Int×Int×ByteArray×Nat×FL×SR=>.ret (.agg [i64 z.1,i64 z.2.1,st z.2.2.1,.sl 2 4 0 2]) [some (.blk [.ro 4 z.p17 (λj=>[i64 (z.p18 j),i64 (z.p19 j),st (z.p20 j),i64 (z.p21 j)]),i64 z.p13,i64 z.p14,i64 z.p15,i64 z.p16,.sl 1 1 0 z.p22]),some (.row 9 1 z.p22 (λj=>[st (z.q23 j)])),some (.row 37 4 2 (cN [[i64 z.p3,i64 z.p4,st z.p5,.ro 4 z.p6 z.p7],[i64 z.p8,i64 z.p9,st z.p10,.ro 4 z.p11 z.p12]]))]))
abbrev ag6:Type:=Int×Int×ByteArray×Int×Int×ByteArray×Nat×FL×SR
def fu8:ag6->Z3:=λz=>.ret (.agg [i64 z.1,i64 z.2.1,st z.2.2.1,.sl 2 4 0 1]) [some (.blk [.ro 4 z.p12 (λj=>[i64 (z.p13 j),i64 (z.p14 j),st (z.p15 j),i64 (z.p16 j)]),i64 z.p8,i64 z.p9,i64 z.p10,i64 z.p11,.sl 1 1 0 z.p17]),some (.row 9 1 z.p17 (λj=>[st (z.q18 j)])),some (.row 37 4 1 (cN [[i64 z.p3,i64 z.p4,st z.p5,.ro 4 z.p6 z.p7]]))]
abbrev sL:Type:=(Int×Int×ByteArray×Nat×FL×SR)⊕(Int×Int×ByteArray×SR)
def ef7:sL->Z3:=Sum.elim (λz:Int×Int×ByteArray×Nat×FL×SR=>.ret (.agg [i64 z.1,i64 z.2.1,st z.2.2.1,.ro 4 z.p3 z.p4]) (hHR z.q5)) (λz:Int×Int×ByteArray×SR=>.ret (.agg [i64 z.1,i64 z.2.1,st z.2.2.1,j0]) (hHR z.q3))
abbrev gB:Type:=(ByteArray×Nat×FI×FI×FS×FI×Int×Int×Int×Int×Nat×FS×Int×Int×ByteArray×Nat×FL)⊕(ByteArray×Nat×FI×FI×FS×FI×Int×Int×Int×Int×Nat×FS×ByteArray×Int×Int×ByteArray×Nat×FL×Int×Int×ByteArray×Nat×FL)
abbrev jJ:Type:=(Nat×FI×FI×FS×FI×Int×Int×Int×Int×Nat×FS×Int×Int×ByteArray×Nat×FL)⊕(Nat×FI×FI×FS×FI×Int×Int×Int×Int×Nat×FS×ByteArray×Int×Int×ByteArray×Nat×FL×Int×Int×ByteArray×Nat×FL)
def cq5(x:f8)(y:ByteArray×Nat×FI×FI×FS×FI×Int×Int×Int×Int×Nat×FS×Int×Int×ByteArray×Nat×FL):St:={fr:=[V.ptr 0 0,i64 x.1,V.junk,V.junk,V.ptr 2 0,V.ptr 3 0,st y.1]++jk 45,H:=hp [some (hRB y.2),some (hRV y.2),some (Z1.blk [i64 0,i64 0,st ⟨#[]⟩,j0]),some (Z1.blk [i64 y.p12,i64 y.p13,st y.p14,V.ro 4 y.p15 y.q16])],nx:=4,rt:=1,me:=185}
def dc6(x:f8)(y:ByteArray×Nat×FI×FI×FS×FI×Int×Int×Int×Int×Nat×FS×ByteArray×Int×Int×ByteArray×Nat×FL×Int×Int×ByteArray×Nat×FL):St:={fr:=[V.ptr 0 0,i64 x.1,V.junk,V.junk,V.ptr 2 0,V.ptr 3 0,st y.1]++jk 45,H:=hp [some (hRB y.2),some (hRV y.2),some (Z1.blk [i64 0,i64 0,st ⟨#[]⟩,j0]),some (Z1.blk [i64 20,i64 0,st y.p12,V.sl 4 4 0 2]),some (Z1.row 37 4 2 (cN [[i64 y.p13,i64 y.p14,st y.p15,V.ro 4 y.p16 y.p17],[i64 y.p18,i64 y.p19,st y.p20,V.ro 4 y.p21 y.q22]]))],nx:=5,rt:=1,me:=185}
def dl1(x:f8):gB->St:=(Sum.elim (cq5 x) (dc6 x))
theorem dp5(x:f8):VL (dl1 x):=vl λs=>(match s.nx==4 with|true=>(.inl (((vS (fv s 6)),r7 (cb s 0 0),dTI (cb s 0 0) 0,dTI (cb s 0 0) 1,dTS (cb s 0 0) 2,dTI (cb s 0 0) 3,vI (cb s 0 1),vI (cb s 0 2),vI (cb s 0 3),vI (cb s 0 4),aV (cb s 0 5),dRS (s.H 1) 0,vI (cb s 3 0),vI (cb s 3 1),vS (cb s 3 2),r7 (cb s 3 3),aW (cb s 3 3)))) |false=>(.inr (((vS (fv s 6)),r7 (cb s 0 0),dTI (cb s 0 0) 0,dTI (cb s 0 0) 1,dTS (cb s 0 0) 2,dTI (cb s 0 0) 3,vI (cb s 0 1),vI (cb s 0 2),vI (cb s 0 3),vI (cb s 0 4),aV (cb s 0 5),dRS (s.H 1) 0,vS (cb s 3 2),(vI (((chF (s.H 4)) 0).getD 0 .junk)),(vI (((chF (s.H 4)) 0).getD 1 .junk)),(vS (((chF (s.H 4)) 0).getD 2 .junk)),(r7 (((chF (s.H 4)) 0).getD 3 .junk)),(aW (((chF (s.H 4)) 0).getD 3 .junk)),(vI (((chF (s.H 4)) 1).getD 0 .junk)),(vI (((chF (s.H 4)) 1).getD 1 .junk)),(vS (((chF (s.H 4)) 1).getD 2 .junk)),(r7 (((chF (s.H 4)) 1).getD 3 .junk)),(aW (((chF (s.H 4)) 1).getD 3 .junk))))))
def dl4(x:f8):jJ->Ex×St:=(Sum.elim (λz=>(Ex.exit 0,{fr:=jk 4++[V.ptr 2 0,V.ptr 3 0]++jk 46,H:=hp [some (hRB z),some (hRV z),some (Z1.blk [i64 0,i64 0,st ⟨#[]⟩,j0]),some (Z1.blk [i64 z.p11,i64 z.p12,st z.p13,V.ro 4 z.p14 z.q15])],nx:=4,rt:=1,me:=185})) (λz=>(Ex.exit 0,{fr:=jk 4++[V.ptr 2 0,V.ptr 3 0]++jk 46,H:=hp [some (hRB z),some (hRV z),some (Z1.blk [i64 0,i64 0,st ⟨#[]⟩,j0]),some (Z1.blk [i64 20,i64 0,st z.p11,V.sl 4 4 0 2]),some (Z1.row 37 4 2 (cN [[i64 z.p12,i64 z.p13,st z.p14,V.ro 4 z.p15 z.p16],[i64 z.p17,i64 z.p18,st z.p19,V.ro 4 z.p20 z.q21]]))],nx:=5,rt:=1,me:=185})))
abbrev oA{β:Type}(A:i7->Option dB)(B:mO->Option b5)(C:f8->Option b5)(D:SR->Option b5)(E:f8->Option i7)(x:f8)(y:ByteArray×Nat×FI×FI×FS×FI×Int×Int×Int×Int×Nat×FS×Int×Int×ByteArray×Nat×FL)(nx:gB->Option β)(dn:jJ->Option β):Option β:=
 U17 y λA B D F G H I J K L M N O P Q R S=>if(!A.toList==ByteArray.toList ⟨#[]⟩) then(C (w (x.1+1),I,J,K,L,B,D,F,G,H,M,N)).bind λa=>if(x.1 !=4) then(E (x.1,a.2.2.2.2.2)).bind λb=>nx (.inr (b.1,b.2.2.2.2.2.1,b.2.2.2.2.2.2.1,b.2.2.2.2.2.2.2.1,b.2.2.2.2.2.2.2.2.1,b.2.2.2.2.2.2.2.2.2.1,b.2.1,b.2.2.1,b.2.2.2.1,b.2.2.2.2.1,b.2.2.2.2.2.2.2.2.2.2.1,b.2.2.2.2.2.2.2.2.2.2.2,A,O,P,Q,R,S,a.1,a.2.1,a.2.2.1,a.2.2.2.1,a.2.2.2.2.1))else nx (.inr (⟨#[]⟩,a.2.2.2.2.2.2.2.2.2.1,a.2.2.2.2.2.2.2.2.2.2.1,a.2.2.2.2.2.2.2.2.2.2.2.1,a.2.2.2.2.2.2.2.2.2.2.2.2.1,a.2.2.2.2.2.2.2.2.2.2.2.2.2.1,a.2.2.2.2.2.1,a.2.2.2.2.2.2.1,a.2.2.2.2.2.2.2.1,a.2.2.2.2.2.2.2.2.1,a.2.2.2.2.2.2.2.2.2.2.2.2.2.2.1,a.2.2.2.2.2.2.2.2.2.2.2.2.2.2.2,A,O,P,Q,R,S,a.1,a.2.1,a.2.2.1,a.2.2.2.1,a.2.2.2.2.1))else dn (.inl y.2)
abbrev oX{β:Type}(A:i7->Option dB)(B:mO->Option b5)(C:f8->Option b5)(D:SR->Option b5)(E:f8->Option i7)(x:f8)(y:ByteArray×Nat×FI×FI×FS×FI×Int×Int×Int×Int×Nat×FS×ByteArray×Int×Int×ByteArray×Nat×FL×Int×Int×ByteArray×Nat×FL)(nx:gB->Option β)(dn:jJ->Option β):Option β:=
 U23 y λA B D F G H I J K L M N O P Q R S T U W X Y Z=>if(!A.toList==ByteArray.toList ⟨#[]⟩) then(C (w (x.1+1),I,J,K,L,B,D,F,G,H,M,N)).bind λa=>if(x.1 !=4) then(E (x.1,a.2.2.2.2.2)).bind λb=>nx (.inr (b.1,b.2.2.2.2.2.1,b.2.2.2.2.2.2.1,b.2.2.2.2.2.2.2.1,b.2.2.2.2.2.2.2.2.1,b.2.2.2.2.2.2.2.2.2.1,b.2.1,b.2.2.1,b.2.2.2.1,b.2.2.2.2.1,b.2.2.2.2.2.2.2.2.2.2.1,b.2.2.2.2.2.2.2.2.2.2.2,A,20,0,O,2,λj=>[i64 (if 0+j=0 then P else U),i64 (if 0+j=0 then Q else W),st (if 0+j=0 then R else X),V.ro 4 (if 0+j=0 then S else Y) λj_1=>if 0+j=0 then T j_1 else Z j_1],a.1,a.2.1,a.2.2.1,a.2.2.2.1,a.2.2.2.2.1))else nx (.inr (⟨#[]⟩,a.2.2.2.2.2.2.2.2.2.1,a.2.2.2.2.2.2.2.2.2.2.1,a.2.2.2.2.2.2.2.2.2.2.2.1,a.2.2.2.2.2.2.2.2.2.2.2.2.1,a.2.2.2.2.2.2.2.2.2.2.2.2.2.1,a.2.2.2.2.2.1,a.2.2.2.2.2.2.1,a.2.2.2.2.2.2.2.1,a.2.2.2.2.2.2.2.2.1,a.2.2.2.2.2.2.2.2.2.2.2.2.2.2.1,a.2.2.2.2.2.2.2.2.2.2.2.2.2.2.2,A,20,0,O,2,λj=>[i64 (if 0+j=0 then P else U),i64 (if 0+j=0 then Q else W),st (if 0+j=0 then R else X),V.ro 4 (if 0+j=0 then S else Y) λj_1=>if 0+j=0 then T j_1 else Z j_1],a.1,a.2.1,a.2.2.1,a.2.2.2.1,a.2.2.2.2.1))else dn (.inr y.2)
noncomputable def dS(A:i7->Option dB)(B:mO->Option b5)(C:f8->Option b5)(D:SR->Option b5)(E:f8->Option i7)(q:Nat)(x:f8):gB->Option jJ:=lpG (Sum.elim (λy=>oA A B C D E x y (λy=>some (.inl y)) (λz=>some (.inr z))) (λy=>oX A B C D E x y (λy=>some (.inl y)) (λz=>some (.inr z)))) q
abbrev uY{β:Type}(A:i7->Option dB)(B:mO->Option b5)(C:f8->Option b5)(D:SR->Option b5)(E:f8->Option i7)(F:gB->Option jJ)(x:f8)(dn:au2->Option β):Option β:=
 if(x.2.2.2.1 !=0) then dn (.inr (.inl (0,0,⟨#[]⟩,x.2)))else if(x.1==3) then(A (⟨#[33]⟩,x.2)).bind λa=>if a.1 then(B (⟨#[33]⟩,3,a.2)).bind λb=>dn (.inl b)else(C (4,a.2)).bind λc=>dn (.inl c)else if(x.1==7) then(A (⟨#[45]⟩,x.2)).bind λd=>if d.1 then(B (⟨#[45]⟩,7,d.2)).bind λe=>dn (.inl e)else(D d.2).bind λf=>dn (.inl f)else(C (w (x.1+1),x.2)).bind λg=>(E (x.1,g.2.2.2.2.2)).bind λh=>(F (.inl (h.1,h.2.2.2.2.2.1,h.2.2.2.2.2.2.1,h.2.2.2.2.2.2.2.1,h.2.2.2.2.2.2.2.2.1,h.2.2.2.2.2.2.2.2.2.1,h.2.1,h.2.2.1,h.2.2.2.1,h.2.2.2.2.1,h.2.2.2.2.2.2.2.2.2.2.1,h.2.2.2.2.2.2.2.2.2.2.2,g.1,g.2.1,g.2.2.1,g.2.2.2.1,g.2.2.2.2.1))).bind λi=>Sum.elim (λj=>dn (.inl (j.2.2.2.2.2.2.2.2.2.2.2.1,j.2.2.2.2.2.2.2.2.2.2.2.2.1,j.2.2.2.2.2.2.2.2.2.2.2.2.2.1,j.2.2.2.2.2.2.2.2.2.2.2.2.2.2.1,j.2.2.2.2.2.2.2.2.2.2.2.2.2.2.2,j.2.2.2.2.2.1,j.2.2.2.2.2.2.1,j.2.2.2.2.2.2.2.1,j.2.2.2.2.2.2.2.2.1,j.1,j.2.1,j.2.2.1,j.2.2.2.1,j.2.2.2.2.1,j.2.2.2.2.2.2.2.2.2.1,j.2.2.2.2.2.2.2.2.2.2.1))) (λk=>dn (.inr (.inr (20,0,k.2.2.2.2.2.2.2.2.2.2.2.1,k.2.2.2.2.2.2.2.2.2.2.2.2.1,k.2.2.2.2.2.2.2.2.2.2.2.2.2.1,k.2.2.2.2.2.2.2.2.2.2.2.2.2.2.1,k.2.2.2.2.2.2.2.2.2.2.2.2.2.2.2.1,k.2.2.2.2.2.2.2.2.2.2.2.2.2.2.2.2.1,k.2.2.2.2.2.2.2.2.2.2.2.2.2.2.2.2.2.1,k.2.2.2.2.2.2.2.2.2.2.2.2.2.2.2.2.2.2.1,k.2.2.2.2.2.2.2.2.2.2.2.2.2.2.2.2.2.2.2.1,k.2.2.2.2.2.2.2.2.2.2.2.2.2.2.2.2.2.2.2.2.1,k.2.2.2.2.2.2.2.2.2.2.2.2.2.2.2.2.2.2.2.2.2,k.2.2.2.2.2.1,k.2.2.2.2.2.2.1,k.2.2.2.2.2.2.2.1,k.2.2.2.2.2.2.2.2.1,k.1,k.2.1,k.2.2.1,k.2.2.2.1,k.2.2.2.2.1,k.2.2.2.2.2.2.2.2.2.1,k.2.2.2.2.2.2.2.2.2.2.1)))) i
abbrev ah5{β:Type}(A:i7->Option SR)(B:f8->Option b5)(x:mO)(dn:ag6->Option β):Option β:=
 (A (x.1,x.2.2)).bind λa=>(B (x.2.1,a)).bind λb=>dn (19,0,x.1,b.1,b.2.1,b.2.2.1,b.2.2.2.1,b.2.2.2.2.1,b.2.2.2.2.2.1,w (b.2.2.2.2.2.2.1-1),b.2.2.2.2.2.2.2)
abbrev sM{β:Type}(A:SR->Option b5)(B:i7->Option dB)(C:i7->Option SR)(D:f8->Option i7)(E:i7->Option dB)(F:i7->Option SR)(G:f8->Option b5)(x:SR)(dn:sL->Option β):Option β:=
 U7 x λH I J K L M N=>if 0<=H/\H< (L:Int)then if(M (Int.toNat H)==2) then(A x).bind λa=>dn (.inl a)else(B (⟨#[116,114,117,101]⟩,x)).bind λb=>if b.1 then dn (.inr (16,1,⟨#[]⟩,b.2))else(B (⟨#[102,97,108,115,101]⟩,b.2)).bind λc=>if c.1 then dn (.inr (16,0,⟨#[]⟩,c.2))else(B (⟨#[116,108,109]⟩,c.2)).bind λd=>if d.1 then(C (⟨#[46]⟩,d.2)).bind λe=>(D (1,e)).bind λf=>dn (.inr (18,0,f))else(E (⟨#[40]⟩,d.2)).bind λg=>if g.1 then(F (⟨#[40]⟩,g.2)).bind λh=>(G (1,h)).bind λi=>(C (⟨#[41]⟩,i.2.2.2.2.2)).bind λj=>dn (.inl (i.1,i.2.1,i.2.2.1,i.2.2.2.1,i.2.2.2.2.1,j.1,w (j.2.1-1),j.2.2))else(D (1,g.2)).bind λk=>dn (.inr (17,0,k))else none
def qN:au2->b5:=Sum.elim (λz=>z) (Sum.elim (λz=>(z.1,z.2.1,z.2.2.1,0,λ_=>[],z.2.2.2)) (λz=>(z.1,z.2.1,z.2.2.1,2,cN [[i64 z.2.2.2.1,i64 z.2.2.2.2.1,st z.2.2.2.2.2.1,.ro 4 z.2.2.2.2.2.2.1 z.2.2.2.2.2.2.2.1],[i64 z.2.2.2.2.2.2.2.2.1,i64 z.2.2.2.2.2.2.2.2.2.1,st z.2.2.2.2.2.2.2.2.2.2.1,.ro 4 z.2.2.2.2.2.2.2.2.2.2.2.1 z.2.2.2.2.2.2.2.2.2.2.2.2.1]],z.2.2.2.2.2.2.2.2.2.2.2.2.2)))
theorem fs9{args:List V}{L:List (Option Z1)}(z:au2)(h:SC E5 185 args L (gg8 z)):SC E5 185 args L (o9 (qN z)):=by
 rcases z with z|z|z
 ·exact h
 ·exact fz1 h
 ·exact hh0 h
def uC:ag6->b5:=λz=>(z.1,z.2.1,z.2.2.1,1,cN [[i64 z.2.2.2.1,i64 z.2.2.2.2.1,st z.2.2.2.2.2.1,.ro 4 z.2.2.2.2.2.2.1 z.2.2.2.2.2.2.2.1]],z.2.2.2.2.2.2.2.2)
theorem em9{args:List V}{L:List (Option Z1)}(z:ag6)(h:SC E5 264 args L (fu8 z)):SC E5 264 args L (o9 (uC z)):=by
 exact hh0 h
def nD:sL->b5:=Sum.elim (λz=>z) (λz=>(z.1,z.2.1,z.2.2.1,0,λ_=>[],z.2.2.2))
theorem cv7{args:List V}{L:List (Option Z1)}(z:sL)(h:SC E5 265 args L (ef7 z)):SC E5 265 args L (o9 (nD z)):=by
 rcases z with z|z
 ·exact h
 ·exact fz1 h
noncomputable def ao0:Nat->(f8->Option b5)×(mO->Option b5)×(SR->Option b5)
 |0=>(λ_=>none,λ_=>none,λ_=>none)
 |q+1=>(λx=>(uY ((ris q)) ((ao0 q).2.1) ((ao0 q).1) ((ao0 q).2.2) ((l6 q)) (dS ((ris q)) ((ao0 q).2.1) ((ao0 q).1) ((ao0 q).2.2) ((l6 q)) q x) x some).map qN,
  λx=>(ah5 ((bL q)) ((ao0 q).1) x some).map uC,
  λx=>(sM ((iF q)) ((dN q)) ((aH q)) ((kL q)) ((ris q)) ((bL q)) ((ao0 q).1) x some).map nD)
theorem fd0:∀q,(∀x z,(ao0 q).1 x=some z->SC E5 185 (ae7 x).1 (ae7 x).2 (o9 z))/\(∀x z,(ao0 q).2.1 x=some z->SC E5 264 (bw3 x).1 (bw3 x).2 (o9 z))/\(∀x z,(ao0 q).2.2 x=some z->SC E5 265 (bF x).1 (bF x).2 (o9 z))
 |0=>⟨(λx z h=>by cases h),(λx z h=>by cases h),(λx z h=>by cases h)⟩
 |q+1=>by
  obtain⟨h0,h1,h2⟩:=fd0 q
  exact⟨(λx z h=>by
   obtain⟨y,hy,rfl⟩:=Option.map_eq_some_iff.1 h
   exact fs9 y ((have K:=(kc eE (u7 (av8 q) λ_=>by kernel_rfl) (kc gh8 (h1) (kc fQ (h0) (kc gJ (h2) (kc fQ (u7 (dt6 q) λ_=>by kernel_rfl) kn)))));sl hW5 hX5 K (λx=>(lc 0 (dp5 x) (lp2 hX5 (dl4 x) 185 0 115 [(0,48)] 16 K ln q (λc l β=>oA (β:=β) c.1 c.2.1 c.2.2.1 c.2.2.2.1 c.2.2.2.2.1 x) λc l β=>oX (β:=β) c.1 c.2.1 c.2.2.1 c.2.2.2.1 c.2.2.2.2.1 x) ln)) λc l β=>uY (β:=β) c.1 c.2.1 c.2.2.1 c.2.2.2.1 c.2.2.2.2.1 l.1) x y hy)),(λx z h=>by
   obtain⟨y,hy,rfl⟩:=Option.map_eq_some_iff.1 h
   exact em9 y ((so hW5 hX5 (kc eE (u7 (az4 q) λ_=>by kernel_rfl) (kc fQ (h0) kn)) λc β=>ah5 (β:=β) c.1 c.2.1) x y hy)),(λx z h=>by
   obtain⟨y,hy,rfl⟩:=Option.map_eq_some_iff.1 h
   exact cv7 y ((so hW5 hX5 (kc gJ (yW q) (kc eE (u7 (uW q) λ_=>by kernel_rfl) (kc eE (u7 (gF q) λ_=>by kernel_rfl) (kg (λa L=>iA (a.getD 1 .junk)) bu1 (u7 (ay1 q) λ_=>by kernel_rfl) (kc eE (u7 (av8 q) λ_=>by kernel_rfl) (kc eE (u7 (az4 q) λ_=>by kernel_rfl) (kc fQ (h0) kn))))))) λc β=>sM (β:=β) c.1 c.2.1 c.2.2.1 c.2.2.2.1 c.2.2.2.2.1 c.2.2.2.2.2.1 c.2.2.2.2.2.2.1) x y hy))⟩
noncomputable def hY(q:Nat):f8->Option b5:=(ao0 q).1
theorem ef0(q:Nat):Lw E5 185 ae7 o9 (hY q):=(fd0 q).1
noncomputable def rG(q:Nat):mO->Option b5:=(ao0 q).2.1
noncomputable def gN(q:Nat):SR->Option b5:=(ao0 q).2.2
def dk3:AR b5:=λx=>([.ptr 0 0,.agg [i64 x.1,i64 x.2.1,st x.2.2.1,.ro 4 x.p3 x.p4]],(hHR x.q5))
theorem gm7:VI dk3:=vd λt=>((vI (ca t 1 0)),vI (ca t 1 1),vS (ca t 1 2),r7 (ca t 1 3),aW (ca t 1 3),dHR t.2)
abbrev ao2{β:Type}(A:i7->Option SR)(x:b5)(dn:b5->Option β):Option β:=
 U6 x λB C D E F G=>(A (⟨#[59]⟩,G)).bind λa=>dn (B,C,D,E,F,a)
noncomputable def am2(q:Nat)(x:b5):Option b5:=ao2 (aH q) x some
theorem fs0(q:Nat):Lw E5 184 dk3 o9 (am2 q):=so hW5 hX5 (kc eE (u7 (gF q) λ_=>by kernel_rfl) kn) λc β=>ao2 (β:=β) c.1
def ay0:AR r9:=λx=>([.ptr 0 0,.agg [i64 x.1,i64 x.2.1,st x.2.2.1,j0]],(hHR x.q3))
theorem fl1:VI ay0:=vd λt=>((vI (ca t 1 0)),vI (ca t 1 1),vS (ca t 1 2),dHR t.2)
abbrev ad8{β:Type}(A:i7->Option SR)(x:r9)(dn:r9->Option β):Option β:=
 (A (⟨#[59]⟩,x.2.2.2)).bind λa=>dn (x.1,x.2.1,x.2.2.1,a)
noncomputable def bj5(q:Nat)(x:r9):Option r9:=ad8 (aH q) x some
theorem em7(q:Nat):Lw E5 184 ay0 sA (bj5 q):=so hW5 hX5 (kc eE (u7 (gF q) λ_=>by kernel_rfl) kn) λc β=>ad8 (β:=β) c.1
def uF:r9->b5:=λz=>(z.1,z.2.1,z.2.2.1,0,λ_=>[],z.2.2.2)
theorem eu7{args:List V}{L:List (Option Z1)}(z:r9)(h:SC E5 184 args L (sA z)):SC E5 184 args L (o9 (uF z)):=by
 exact fz1 h
noncomputable def bb5(q:Nat)(x:r9):Option b5:=(bj5 q x).map uF
theorem fs2(q:Nat):Lw E5 184 ay0 o9 (bb5 q):=by
 intro x z h;obtain⟨y,hy,rfl⟩:=Option.map_eq_some_iff.1 h;exact eu7 y (em7 q x y hy)
def ay7:AR b5:=λx=>([.ptr 0 0,.agg [i64 x.1,i64 x.2.1,st x.2.2.1,.sl 1 4 0 x.p3]],[some (.blk [.ro 4 x.p9 (λj=>[i64 (x.p10 j),i64 (x.p11 j),st (x.p12 j),i64 (x.p13 j)]),i64 x.p5,i64 x.p6,i64 x.p7,i64 x.p8,.sl 2 1 0 x.p14]),some (.row 37 4 x.p3 x.p4),some (.row 9 1 x.p14 (λj=>[st (x.q15 j)]))])
theorem aw2:VI ay7:=vd λt=>((vI (ca t 1 0)),vI (ca t 1 1),vS (ca t 1 2),aV (ca t 1 3),(chF (co t 1)),vI (cc t 0 1),vI (cc t 0 2),vI (cc t 0 3),vI (cc t 0 4),r7 (cc t 0 0),dTI (cc t 0 0) 0,dTI (cc t 0 0) 1,dTS (cc t 0 0) 2,dTI (cc t 0 0) 3,aV (cc t 0 5),dRS (co t 2) 0)
def fq4:b5->Z3:=λz=>.ret (.agg [i64 z.1,i64 z.2.1,st z.2.2.1,.sl 1 4 0 z.p3]) [some (.blk [.ro 4 z.p9 (λj=>[i64 (z.p10 j),i64 (z.p11 j),st (z.p12 j),i64 (z.p13 j)]),i64 z.p5,i64 z.p6,i64 z.p7,i64 z.p8,.sl 2 1 0 z.p14]),some (.row 37 4 z.p3 z.p4),some (.row 9 1 z.p14 (λj=>[st (z.q15 j)]))]
abbrev ae0{β:Type}(A:i7->Option SR)(x:b5)(dn:b5->Option β):Option β:=
 U6 x λB C D E F G=>(A (⟨#[59]⟩,G)).bind λa=>dn (B,C,D,E,F,a)
noncomputable def bk5(q:Nat)(x:b5):Option b5:=ae0 (aH q) x some
theorem ek1(q:Nat):Lw E5 184 ay7 fq4 (bk5 q):=so hW5 hX5 (kc eE (u7 (gF q) λ_=>by kernel_rfl) kn) λc β=>ae0 (β:=β) c.1
def gj4:b5->Z3:=λz=>.ret (.agg [i64 z.1,i64 z.2.1,st z.2.2.1,.ro 4 z.p3 z.p4]) [some (.blk [.ro 4 z.p9 (λj=>[i64 (z.p10 j),i64 (z.p11 j),st (z.p12 j),i64 (z.p13 j)]),i64 z.p5,i64 z.p6,i64 z.p7,i64 z.p8,.sl 2 1 0 z.p14]),none,some (.row 9 1 z.p14 (λj=>[st (z.q15 j)]))]
noncomputable def qI(q:Nat)(x:b5):Option b5:=bk5 q x
theorem az7(q:Nat):Lw E5 184 ay7 gj4 (qI q):=by
 intro x z h;have h2:=SC.giveM (L2:=[some (.blk [.ro 4 z.2.2.2.2.2.2.2.2.2.1 (λj=>[i64 (z.2.2.2.2.2.2.2.2.2.2.1 j),i64 (z.2.2.2.2.2.2.2.2.2.2.2.1 j),st (z.2.2.2.2.2.2.2.2.2.2.2.2.1 j),i64 (z.2.2.2.2.2.2.2.2.2.2.2.2.2.1 j)]),i64 z.2.2.2.2.2.1,i64 z.2.2.2.2.2.2.1,i64 z.2.2.2.2.2.2.2.1,i64 z.2.2.2.2.2.2.2.2.1,.sl 2 1 0 z.2.2.2.2.2.2.2.2.2.2.2.2.2.2.1]),none,some (.row 9 1 z.2.2.2.2.2.2.2.2.2.2.2.2.2.2.1 (λj=>[st (z.2.2.2.2.2.2.2.2.2.2.2.2.2.2.2 j)]))]) 3 (ek1 q x z h) (by rfl) (by simp[V.bw,V.bw2,V.bw1,hp,V.pure,n4]);simp only[V.bw,V.bw2,V.bw1,hp,List.map_cons,List.map_nil,List.getD_eq_getElem?_getD,List.getElem?_cons_succ,List.getElem?_cons_zero,Option.getD_some,Nat.zero_add,Nat.le_refl,and_self,if_true]at h2;exact h2
abbrev au6:Type:=Int×Int×Int×ByteArray×Nat×FL
def he7:AR au6:=λx=>([i64 x.1,.agg [i64 x.2.1,i64 x.2.2.1,st x.p3,.ro 4 x.p4 x.q5]],[])
theorem ht6:VI he7:=vd λt=>((vI (ag t 0)),vI (ca t 1 0),vI (ca t 1 1),vS (ca t 1 2),r7 (ca t 1 3),aW (ca t 1 3))
def ht7:au6->Z3:=λz=>.ret (.agg [i64 z.1,i64 0,st ⟨#[]⟩,.sl 0 4 0 1]) [some (.row 37 4 1 (cN [[i64 z.2.1,i64 z.2.2.1,st z.p3,.ro 4 z.p4 z.q5]]))]
abbrev hf4{β:Type}(x:au6)(dn:au6->Option β):Option β:=
 dn x
noncomputable def one(q:Nat)(x:au6):Option au6:=hf4 x some
theorem hm6(q:Nat):Lw E5 261 he7 ht7 (one q):=so hW5 hX5 kn λc β=>hf4 (β:=β)
def bf9:AR r9:=λx=>([.ptr 0 0,i64 x.1,i64 x.2.1,st x.2.2.1],(hHR x.q3))
theorem dw4:VI bf9:=vd λt=>((vI (ag t 1)),vI (ag t 2),vS (ag t 3),dHR t.2)
abbrev sK{β:Type}(A:pJ->Option f8)(B:i7->Option SR)(C:SR->Option b5)(D:r9->Option b5)(E:b5->Option b5)(x:r9)(dn:b5->Option β):Option β:=
 U4 x λF G H I=>(A (0,G,I)).bind λa=>if(!H.toList==ByteArray.toList ⟨#[]⟩) then(B (H,a.2)).bind λb=>(C b).bind λc=>(E (F,a.1,⟨#[]⟩,1,cN [[i64 c.1,i64 c.2.1,st c.2.2.1,V.ro 4 c.2.2.2.1 c.2.2.2.2.1]],c.2.2.2.2.2)).bind λd=>dn d else(D (F,a.1,⟨#[]⟩,a.2)).bind λe=>dn e
noncomputable def lE(q:Nat)(x:r9):Option b5:=sK (eG q) (aH q) (iF q) (bb5 q) (qI q) x some
theorem cr1(q:Nat):Lw E5 263 bf9 o9 (lE q):=so hW5 hX5 (kc av9 (u7 (ak2 q) λ_=>by kernel_rfl) (kc eE (u7 (gF q) λ_=>by kernel_rfl) (kc gJ (yW q) (kg (λa L=>L.length==2&&(iA ((vAg (a.getD 1 .junk)).getD 3 .junk))) fl1 (fs2 q) (kg (λa L=>L.length==3) aw2 (az7 q) kn))))) λc β=>sK (β:=β) c.1 c.2.1 c.2.2.1 c.2.2.2.1 c.2.2.2.2.1
abbrev ab3:Type:=(Int×Int×ByteArray×SR)⊕(Int×Int×ByteArray×Nat×FL×SR)
def fl7:ab3->Z3:=Sum.elim (λz:Int×Int×ByteArray×SR=>.ret (.agg [i64 z.1,i64 z.2.1,st z.2.2.1,j0]) (hHR z.q3)) (λz:Int×Int×ByteArray×Nat×FL×SR=>.ret (.agg [i64 z.1,i64 z.2.1,st z.2.2.1,.sl 2 4 0 z.p3]) ((hHR z.q5)++[some (.row 37 4 z.p3 z.p4)]))
abbrev xO:Type:=(Int×Int×ByteArray×Nat×FL×SR)⊕(Int×Int×ByteArray×FL×SR)⊕(Int×Int×ByteArray×Int×Int×ByteArray×Nat×FL×SR)⊕(Int×Int×ByteArray×SR)
def eh4:xO->Z3:=Sum.elim (λz:Int×Int×ByteArray×Nat×FL×SR=>.ret (.agg [i64 z.1,i64 z.2.1,st z.2.2.1,.ro 4 z.p3 z.p4]) (hHR z.q5)) (Sum.elim (λz:Int×Int×ByteArray×FL×SR=>.ret (.agg [i64 z.1,i64 z.2.1,st z.2.2.1,.sl 2 4 0 3]) [some (.blk [.ro 4 z.p8 (λj=>[i64 (z.p9 j),i64 (z.p10 j),st (z.p11 j),i64 (z.p12 j)]),i64 z.p4,i64 z.p5,i64 z.p6,i64 z.p7,.sl 1 1 0 z.p13]),some (.row 9 1 z.p13 (λj=>[st (z.q14 j)])),some (.row 37 4 3 z.p3)]) (Sum.elim (λz:Int×Int×ByteArray×Int×Int×ByteArray×Nat×FL×SR=>.ret (.agg [i64 z.1,i64 z.2.1,st z.2.2.1,.sl 2 4 0 1]) [some (.blk [.ro 4 z.p12 (λj=>[i64 (z.p13 j),i64 (z.p14 j),st (z.p15 j),i64 (z.p16 j)]),i64 z.p8,i64 z.p9,i64 z.p10,i64 z.p11,.sl 1 1 0 z.p17]),some (.row 9 1 z.p17 (λj=>[st (z.q18 j)])),some (.row 37 4 1 (cN [[i64 z.p3,i64 z.p4,st z.p5,.ro 4 z.p6 z.p7]]))]) (λz:Int×Int×ByteArray×SR=>.ret (.agg [i64 z.1,i64 z.2.1,st z.2.2.1,j0]) (hHR z.q3))))
abbrev eN:Type:=(SB)⊕(Nat×FI×FI×FS×FI×Int×Int×Int×Int×Nat×FS×FI×FI×FS×FN×FM×Nat)
abbrev gR:Type:=(SB)⊕(Nat×FI×FI×FS×FI×Int×Int×Int×Int×Nat×FS×Nat×FI×FI×FS×FN×FM)
def cg7(x:SR)(y:SB):St:={fr:=[V.ptr 0 0,V.junk,V.ptr 2 0,V.ptr 3 0]++jk 30,H:=hp [some (hRB y),some (gv8 y),some (Z1.blk [i64 0,i64 0,st ⟨#[]⟩,j0]),some (Z1.blk [i64 14,i64 0,st ⟨#[]⟩,j0])],nx:=4,rt:=1,me:=51}
def ce5(x:SR)(y:Nat×FI×FI×FS×FI×Int×Int×Int×Int×Nat×FS×FI×FI×FS×FN×FM×Nat):St:={fr:=[V.ptr 0 0,V.junk,V.ptr 2 0,V.ptr 3 0]++jk 30,H:=hp [some (hRB y),some (hRV y),some (Z1.blk [i64 0,i64 0,st ⟨#[]⟩,j0]),some (Z1.blk [i64 14,i64 0,st ⟨#[]⟩,V.sl 4 4 0 y.q16]),some (Z1.row 37 4 y.q16 λj=>[i64 (y.p11 j),i64 (y.p12 j),st (y.p13 j),V.ro 4 (y.p14 j) (y.p15 j)])],nx:=5,rt:=1,me:=51}
def dd6(x:SR):eN->St:=(Sum.elim (cg7 x) (ce5 x))
theorem cz3(x:SR):VL (dd6 x):=vl λs=>(match s.nx==4 with|true=>(.inl (((r7 (cb s 0 0)),dTI (cb s 0 0) 0,dTI (cb s 0 0) 1,dTS (cb s 0 0) 2,dTI (cb s 0 0) 3,vI (cb s 0 1),vI (cb s 0 2),vI (cb s 0 3),vI (cb s 0 4),aV (cb s 0 5),dRS (s.H 1) 0))) |false=>(.inr (((r7 (cb s 0 0)),dTI (cb s 0 0) 0,dTI (cb s 0 0) 1,dTS (cb s 0 0) 2,dTI (cb s 0 0) 3,vI (cb s 0 1),vI (cb s 0 2),vI (cb s 0 3),vI (cb s 0 4),aV (cb s 0 5),dRS (s.H 1) 0,dRI (s.H 4) 0,dRI (s.H 4) 1,dRS (s.H 4) 2,dRN (s.H 4) 3,dRF (s.H 4) 3,aV (cb s 3 3)))))
def ct0(x:SR):gR->Ex×St:=(Sum.elim (λz=>(Ex.exit 0,{fr:=[V.ptr 0 0,V.junk,V.ptr 2 0,V.ptr 3 0]++jk 30,H:=hp [some (hRB z),some (gv8 z),some (Z1.blk [i64 0,i64 0,st ⟨#[]⟩,j0]),some (Z1.blk [i64 14,i64 0,st ⟨#[]⟩,j0])],nx:=4,rt:=1,me:=51})) (λz=>(Ex.exit 0,{fr:=[V.ptr 0 0,V.junk,V.ptr 2 0,V.ptr 3 0]++jk 30,H:=hp [some (hRB z),some (hRV z),some (Z1.blk [i64 0,i64 0,st ⟨#[]⟩,j0]),some (Z1.blk [i64 14,i64 0,st ⟨#[]⟩,V.sl 4 4 0 z.p11]),some (Z1.row 37 4 z.p11 λj=>[i64 (z.p12 j),i64 (z.p13 j),st (z.p14 j),V.ro 4 (z.p15 j) (z.q16 j)])],nx:=5,rt:=1,me:=51})))
abbrev lR{β:Type}(A:i7->Option SR)(B:i7->Option dB)(C:i7->Option SR)(D:SR->Option b5)(x:SR)(y:SB)(nx:eN->Option β)(dn:gR->Option β):Option β:=
 U10 y λA C E F G H I J K L=>if(J==0) then(B (⟨#[125]⟩,H,I,J,K,A,C,E,F,G,L)).bind λa=>if(!a.1) then(D a.2).bind λb=>nx (.inr (b.2.2.2.2.2.2.2.2.2.1,b.2.2.2.2.2.2.2.2.2.2.1,b.2.2.2.2.2.2.2.2.2.2.2.1,b.2.2.2.2.2.2.2.2.2.2.2.2.1,b.2.2.2.2.2.2.2.2.2.2.2.2.2.1,b.2.2.2.2.2.1,b.2.2.2.2.2.2.1,b.2.2.2.2.2.2.2.1,b.2.2.2.2.2.2.2.2.1,b.2.2.2.2.2.2.2.2.2.2.2.2.2.2.1,b.2.2.2.2.2.2.2.2.2.2.2.2.2.2.2,λj=>b.1,λj=>b.2.1,λj=>b.2.2.1,λj=>b.2.2.2.1,λj=>b.2.2.2.2.1,1))else dn (.inl (a.2.2.2.2.2.1,a.2.2.2.2.2.2.1,a.2.2.2.2.2.2.2.1,a.2.2.2.2.2.2.2.2.1,a.2.2.2.2.2.2.2.2.2.1,a.2.1,a.2.2.1,a.2.2.2.1,a.2.2.2.2.1,a.2.2.2.2.2.2.2.2.2.2))else dn (.inl y)
abbrev lU{β:Type}(A:i7->Option SR)(B:i7->Option dB)(C:i7->Option SR)(D:SR->Option b5)(x:SR)(y:Nat×FI×FI×FS×FI×Int×Int×Int×Int×Nat×FS×FI×FI×FS×FN×FM×Nat)(nx:eN->Option β)(dn:gR->Option β):Option β:=
 U17 y λA C E F G H I J K L M N O P Q R S=>if(J==0) then(B (⟨#[125]⟩,H,I,J,K,A,C,E,F,G,L,M)).bind λa=>if(!a.1) then(D a.2).bind λb=>if(S+1)*56<=b6/\S+1<=maxLen/\S<=S then nx (.inr (b.2.2.2.2.2.2.2.2.2.1,b.2.2.2.2.2.2.2.2.2.2.1,b.2.2.2.2.2.2.2.2.2.2.2.1,b.2.2.2.2.2.2.2.2.2.2.2.2.1,b.2.2.2.2.2.2.2.2.2.2.2.2.2.1,b.2.2.2.2.2.1,b.2.2.2.2.2.2.1,b.2.2.2.2.2.2.2.1,b.2.2.2.2.2.2.2.2.1,b.2.2.2.2.2.2.2.2.2.2.2.2.2.2.1,b.2.2.2.2.2.2.2.2.2.2.2.2.2.2.2,λj=>if j<S then N j else b.1,λj=>if j<S then O j else b.2.1,λj=>if j<S then P j else b.2.2.1,λj=>if j<S then Q j else b.2.2.2.1,λ(j j_1:Nat)=>if j<S then R j j_1 else b.2.2.2.2.1 j_1,S+1))else none else dn (.inr (a.2.2.2.2.2.1,a.2.2.2.2.2.2.1,a.2.2.2.2.2.2.2.1,a.2.2.2.2.2.2.2.2.1,a.2.2.2.2.2.2.2.2.2.1,a.2.1,a.2.2.1,a.2.2.2.1,a.2.2.2.2.1,a.2.2.2.2.2.2.2.2.2.2.1,a.2.2.2.2.2.2.2.2.2.2.2,S,N,O,P,Q,R))else dn (.inr (A,C,E,F,G,H,I,J,K,L,M,S,N,O,P,Q,R))
noncomputable def dH(A:i7->Option SR)(B:i7->Option dB)(C:i7->Option SR)(D:SR->Option b5)(q:Nat)(x:SR):eN->Option gR:=lpG (Sum.elim (λy=>lR A B C D x y (λy=>some (.inl y)) (λz=>some (.inr z))) (λy=>lU A B C D x y (λy=>some (.inl y)) (λz=>some (.inr z)))) q
abbrev pM{β:Type}(A:i7->Option SR)(B:i7->Option dB)(C:i7->Option SR)(D:SR->Option b5)(E:eN->Option gR)(x:SR)(dn:ab3->Option β):Option β:=
 (A (⟨#[123]⟩,x)).bind λa=>(E (.inl (a.2.2.2.2.1,a.2.2.2.2.2.1,a.2.2.2.2.2.2.1,a.2.2.2.2.2.2.2.1,a.2.2.2.2.2.2.2.2.1,a.1,a.2.1,a.2.2.1,a.2.2.2.1,a.2.2.2.2.2.2.2.2.2))).bind λb=>Sum.elim (λc=>(C (⟨#[125]⟩,c.2.2.2.2.2.1,c.2.2.2.2.2.2.1,c.2.2.2.2.2.2.2.1,c.2.2.2.2.2.2.2.2.1,c.1,c.2.1,c.2.2.1,c.2.2.2.1,c.2.2.2.2.1,c.2.2.2.2.2.2.2.2.2)).bind λd=>dn (.inl (14,0,⟨#[]⟩,d.1,w (d.2.1-1),d.2.2))) (λe=>(C (⟨#[125]⟩,e.2.2.2.2.2.1,e.2.2.2.2.2.2.1,e.2.2.2.2.2.2.2.1,e.2.2.2.2.2.2.2.2.1,e.1,e.2.1,e.2.2.1,e.2.2.2.1,e.2.2.2.2.1,e.2.2.2.2.2.2.2.2.2.1,e.2.2.2.2.2.2.2.2.2.2.1)).bind λf=>dn (.inr (14,0,⟨#[]⟩,e.2.2.2.2.2.2.2.2.2.2.2.1,λj=>[i64 (e.2.2.2.2.2.2.2.2.2.2.2.2.1 j),i64 (e.2.2.2.2.2.2.2.2.2.2.2.2.2.1 j),st (e.2.2.2.2.2.2.2.2.2.2.2.2.2.2.1 j),V.ro 4 (e.2.2.2.2.2.2.2.2.2.2.2.2.2.2.2.1 j) (e.2.2.2.2.2.2.2.2.2.2.2.2.2.2.2.2 j)],f.1,w (f.2.1-1),f.2.2))) b
abbrev vX{β:Type}(A:f8->Option i7)(B:i7->Option SR)(C:f8->Option b5)(D:SR->Option b5)(E:i7->Option dB)(F:pJ->Option f8)(G:SR->Option b5)(H:au6->Option au6)(I:r9->Option b5)(J:b5->Option b5)(K:b5->Option b5)(L:f8->Option SR)(x:i7)(dn:xO->Option β):Option β:=
 U3 x λM N O=>if(M.toList==ByteArray.toList ⟨#[108,101,116]⟩) then(A (12,w (N+1),O)).bind λa=>if(a.2.2.2.2.2.2.2.2.2.2.1+1)*16<=b6/\a.2.2.2.2.2.2.2.2.2.2.1+1<=maxLen/\a.2.2.2.2.2.2.2.2.2.2.1<=a.2.2.2.2.2.2.2.2.2.2.1 then(B (⟨#[61]⟩,a.2.1,a.2.2.1,a.2.2.2.1,a.2.2.2.2.1,a.2.2.2.2.2.1,a.2.2.2.2.2.2.1,a.2.2.2.2.2.2.2.1,a.2.2.2.2.2.2.2.2.1,a.2.2.2.2.2.2.2.2.2.1,a.2.2.2.2.2.2.2.2.2.2.1+1,λj=>if j<a.2.2.2.2.2.2.2.2.2.2.1 then a.2.2.2.2.2.2.2.2.2.2.2 j else a.1)).bind λb=>(C (1,b)).bind λc=>(J (1,0,a.1,1,cN [[i64 c.1,i64 c.2.1,st c.2.2.1,V.ro 4 c.2.2.2.1 c.2.2.2.2.1]],c.2.2.2.2.2)).bind λd=>dn (.inl d)else none else if(M.toList==ByteArray.toList ⟨#[105,102]⟩) then(C (1,w (N+1),O)).bind λe=>(D e.2.2.2.2.2).bind λf=>(E (⟨#[101,108,115,101]⟩,f.2.2.2.2.2)).bind λg=>if g.1 then(D g.2).bind λh=>dn (.inr (.inl (3,0,⟨#[]⟩,cN [[i64 e.1,i64 e.2.1,st e.2.2.1,V.ro 4 e.2.2.2.1 e.2.2.2.2.1],[i64 f.1,i64 f.2.1,st f.2.2.1,V.ro 4 f.2.2.2.1 f.2.2.2.2.1],[i64 h.1,i64 h.2.1,st h.2.2.1,V.ro 4 h.2.2.2.1 h.2.2.2.2.1]],h.2.2.2.2.2)))else dn (.inr (.inl (3,0,⟨#[]⟩,cN [[i64 e.1,i64 e.2.1,st e.2.2.1,V.ro 4 e.2.2.2.1 e.2.2.2.2.1],[i64 f.1,i64 f.2.1,st f.2.2.1,V.ro 4 f.2.2.2.1 f.2.2.2.2.1],[i64 14,i64 0,st ⟨#[]⟩,j0]],g.2)))else if(M.toList==ByteArray.toList ⟨#[114,101,112,101,97,116]⟩) then(F (1,100,w (N+1),O)).bind λi=>(D i.2).bind λk=>dn (.inr (.inr (.inl (4,i.1,⟨#[]⟩,k))))else if(M.toList==ByteArray.toList ⟨#[119,97,105,116]⟩) then(G (w (N+1),O)).bind λl=>(H (5,l.1,l.2.1,l.2.2.1,l.2.2.2.1,l.2.2.2.2.1)).bind λm=>(K (m.1,0,⟨#[]⟩,1,λj=>[i64 m.2.1,i64 m.2.2.1,st m.2.2.2.1,V.ro 4 m.2.2.2.2.1 m.2.2.2.2.2],l.2.2.2.2.2)).bind λn=>dn (.inl n)else if(M.toList==ByteArray.toList ⟨#[97,119,97,105,116]⟩) then(C (1,w (N+1),O)).bind λo=>(B (⟨#[119,105,116,104,105,110]⟩,o.2.2.2.2.2)).bind λp=>(G p).bind λq=>(J (6,0,⟨#[]⟩,2,cN [[i64 o.1,i64 o.2.1,st o.2.2.1,V.ro 4 o.2.2.2.1 o.2.2.2.2.1],[i64 q.1,i64 q.2.1,st q.2.2.1,V.ro 4 q.2.2.2.1 q.2.2.2.2.1]],q.2.2.2.2.2)).bind λr=>dn (.inl r)else if(M.toList==ByteArray.toList ⟨#[114,101,113,117,105,114,101]⟩) then(C (1,w (N+1),O)).bind λs=>(H (7,s.1,s.2.1,s.2.2.1,s.2.2.2.1,s.2.2.2.2.1)).bind λt=>(K (t.1,0,⟨#[]⟩,1,λj=>[i64 t.2.1,i64 t.2.2.1,st t.2.2.2.1,V.ro 4 t.2.2.2.2.1 t.2.2.2.2.2],s.2.2.2.2.2)).bind λu=>dn (.inl u)else if(M.toList==ByteArray.toList ⟨#[112,111,105,110,116]⟩) then(C (1,w (N+1),O)).bind λv=>(H (8,v.1,v.2.1,v.2.2.1,v.2.2.2.1,v.2.2.2.2.1)).bind λz=>(K (z.1,0,⟨#[]⟩,1,λj=>[i64 z.2.1,i64 z.2.2.1,st z.2.2.2.1,V.ro 4 z.2.2.2.2.1 z.2.2.2.2.2],v.2.2.2.2.2)).bind λaa=>dn (.inl aa)else if(M.toList==ByteArray.toList ⟨#[117,115,101]⟩) then(I (9,7,⟨#[102,111,114]⟩,w (N+1),O)).bind λab=>dn (.inl ab)else if(M.toList==ByteArray.toList ⟨#[115,101,110,100]⟩) then(I (10,7,⟨#[44]⟩,w (N+1),O)).bind λac=>dn (.inl ac)else if(M.toList==ByteArray.toList ⟨#[107,101,101,112]⟩) then(G (w (N+1),O)).bind λad=>(H (11,ad.1,ad.2.1,ad.2.2.1,ad.2.2.2.1,ad.2.2.2.2.1)).bind λae=>(K (ae.1,0,⟨#[]⟩,1,λj=>[i64 ae.2.1,i64 ae.2.2.1,st ae.2.2.2.1,V.ro 4 ae.2.2.2.2.1 ae.2.2.2.2.2],ad.2.2.2.2.2)).bind λaf=>dn (.inl af)else if(M.toList==ByteArray.toList ⟨#[101,109,105,116]⟩) then(I (12,99,⟨#[]⟩,w (N+1),O)).bind λag=>dn (.inl ag)else if(M.toList==ByteArray.toList ⟨#[97,98,111,114,116]⟩) then(I (13,999,⟨#[]⟩,w (N+1),O)).bind λah=>dn (.inl ah)else(L (11,x.2)).bind λai=>dn (.inr (.inr (.inr (0,0,⟨#[]⟩,ai))))
abbrev lP{β:Type}(A:ByteArray->Option Bool)(B:i7->Option b5)(C:f8->Option i7)(D:i7->Option SR)(E:f8->Option b5)(F:b5->Option b5)(x:SR)(dn:b5->Option β):Option β:=
 U9 x λG H I J K L M N O=>if 0<=G/\G< (K:Int)then if 0<=G/\G< (K:Int)then if(L (Int.toNat G)==1) then(A (N (Int.toNat G))).bind λa=>if a then(B (N (Int.toNat G),x)).bind λb=>dn b else(C (1,x)).bind λc=>(D (⟨#[61]⟩,c.2)).bind λd=>(E (1,d)).bind λe=>(F (2,0,c.1,1,cN [[i64 e.1,i64 e.2.1,st e.2.2.1,V.ro 4 e.2.2.2.1 e.2.2.2.2.1]],e.2.2.2.2.2)).bind λf=>dn f else(C (1,x)).bind λg=>(D (⟨#[61]⟩,g.2)).bind λh=>(E (1,h)).bind λi=>(F (2,0,g.1,1,cN [[i64 i.1,i64 i.2.1,st i.2.2.1,V.ro 4 i.2.2.2.1 i.2.2.2.2.1]],i.2.2.2.2.2)).bind λj=>dn j else none else none
def lD:ab3->b5:=Sum.elim (λz=>(z.1,z.2.1,z.2.2.1,0,λ_=>[],z.2.2.2)) (λz=>z)
theorem ev9{args:List V}{L:List (Option Z1)}(z:ab3)(h:SC E5 51 args L (fl7 z)):SC E5 51 args L (o9 (lD z)):=by
 rcases z with z|z
 ·exact fz1 h
 ·exact hm8 h
def jB:xO->b5:=Sum.elim (λz=>z) (Sum.elim (λz=>(z.1,z.2.1,z.2.2.1,3,λj=>fixC (z.2.2.2.1 j),z.2.2.2.2)) (Sum.elim (λz=>(z.1,z.2.1,z.2.2.1,1,cN [[i64 z.2.2.2.1,i64 z.2.2.2.2.1,st z.2.2.2.2.2.1,.ro 4 z.2.2.2.2.2.2.1 z.2.2.2.2.2.2.2.1]],z.2.2.2.2.2.2.2.2)) (λz=>(z.1,z.2.1,z.2.2.1,0,λ_=>[],z.2.2.2))))
theorem dx7{args:List V}{L:List (Option Z1)}(z:xO)(h:SC E5 183 args L (eh4 z)):SC E5 183 args L (o9 (jB z)):=by
 rcases z with z|z|z|z
 ·exact h
 ·exact hu7 h
 ·exact hh0 h
 ·exact fz1 h
def dC:b5->b5:=λz=>z
theorem bp2{args:List V}{L:List (Option Z1)}(z:b5)(h:SC E5 116 args L (o9 z)):SC E5 116 args L (o9 (dC z)):=by
 exact h
noncomputable def cf5:Nat->(SR->Option b5)×(i7->Option b5)×(SR->Option b5)
 |0=>(λ_=>none,λ_=>none,λ_=>none)
 |q+1=>(λx=>(pM ((bL q)) ((ris q)) ((aH q)) ((cf5 q).2.2) (dH ((bL q)) ((ris q)) ((aH q)) ((cf5 q).2.2) q x) x some).map lD,
  λx=>(vX ((qQ q)) ((aH q)) ((hY q)) ((cf5 q).1) ((dN q)) ((eG q)) ((iF q)) ((one q)) ((lE q)) ((qI q)) ((am2 q)) ((dZ q)) x some).map jB,
  λx=>(lP ((gQ q)) ((cf5 q).2.1) ((kL q)) ((aH q)) ((hY q)) ((qI q)) x some).map dC)
theorem fj2:∀q,(∀x z,(cf5 q).1 x=some z->SC E5 51 (bF x).1 (bF x).2 (o9 z))/\(∀x z,(cf5 q).2.1 x=some z->SC E5 183 (bs5 x).1 (bs5 x).2 (o9 z))/\(∀x z,(cf5 q).2.2 x=some z->SC E5 116 (bF x).1 (bF x).2 (o9 z))
 |0=>⟨(λx z h=>by cases h),(λx z h=>by cases h),(λx z h=>by cases h)⟩
 |q+1=>by
  obtain⟨h0,h1,h2⟩:=fj2 q
  exact⟨(λx z h=>by
   obtain⟨y,hy,rfl⟩:=Option.map_eq_some_iff.1 h
   exact ev9 y ((have K:=(kc eE (u7 (az4 q) λ_=>by kernel_rfl) (kc eE (u7 (av8 q) λ_=>by kernel_rfl) (kc eE (u7 (gF q) λ_=>by kernel_rfl) (kc gJ (h2) kn))));sl hW5 hX5 K (λx=>(lc 0 (cz3 x) (lp2 hX5 (ct0 x) 51 0 13 [(0,13)] 4 K ln q (λc l β=>lR (β:=β) c.1 c.2.1 c.2.2.1 c.2.2.2.1 x) λc l β=>lU (β:=β) c.1 c.2.1 c.2.2.1 c.2.2.2.1 x) ln)) λc l β=>pM (β:=β) c.1 c.2.1 c.2.2.1 c.2.2.2.1 l.1) x y hy)),(λx z h=>by
   obtain⟨y,hy,rfl⟩:=Option.map_eq_some_iff.1 h
   exact dx7 y ((so hW5 hX5 (kg (λa L=> !iA (a.getD 1 .junk)&&L.length==2) dr2 (u7 (cl2 q) λ_=>by kernel_rfl) (kc eE (u7 (gF q) λ_=>by kernel_rfl) (kc fQ (ef0 q) (kc gJ (h0) (kc eE (u7 (uW q) λ_=>by kernel_rfl) (kc av9 (u7 (ak2 q) λ_=>by kernel_rfl) (kc gJ (yW q) (kc ht6 (hm6 q) (kc dw4 (cr1 q) (kg (λa L=>L.length==3) aw2 (az7 q) (kg (λa L=>L.length==2&& !(iA ((vAg (a.getD 1 .junk)).getD 3 .junk))) gm7 (fs0 q) (kc fQ (u7 (mN q) λ_=>by kernel_rfl) kn)))))))))))) λc β=>vX (β:=β) c.1 c.2.1 c.2.2.1 c.2.2.2.1 c.2.2.2.2.1 c.2.2.2.2.2.1 c.2.2.2.2.2.2.1 c.2.2.2.2.2.2.2.1 c.2.2.2.2.2.2.2.2.1 c.2.2.2.2.2.2.2.2.2.1 c.2.2.2.2.2.2.2.2.2.2.1 c.2.2.2.2.2.2.2.2.2.2.2.1) x y hy)),(λx z h=>by
   obtain⟨y,hy,rfl⟩:=Option.map_eq_some_iff.1 h
   exact bp2 y ((so hW5 hX5 (kc l5 (u7 (oZ q) λ_=>by kernel_rfl) (kc eE (h1) (kg (λa L=>iA (a.getD 1 .junk)) bu1 (u7 (ay1 q) λ_=>by kernel_rfl) (kc eE (u7 (gF q) λ_=>by kernel_rfl) (kc fQ (ef0 q) (kg (λa L=>L.length==3) aw2 (az7 q) kn)))))) λc β=>lP (β:=β) c.1 c.2.1 c.2.2.1 c.2.2.2.1 c.2.2.2.2.1 c.2.2.2.2.2.1) x y hy))⟩
noncomputable def qC(q:Nat):SR->Option b5:=(cf5 q).1
theorem fs6(q:Nat):Lw E5 51 bF o9 (qC q):=(fj2 q).1
noncomputable def dj0(q:Nat):i7->Option b5:=(cf5 q).2.1
noncomputable def dD(q:Nat):SR->Option b5:=(cf5 q).2.2
def fr2:l7->Z3:=(λz:Int×Int×Int×Int×Int×Int×Bool=>.ret (.tup [.agg [i64 z.1,i64 z.2.1,i64 z.2.2.1,i64 z.p3,i64 z.p4],i64 z.p5,bo z.q6]) [])
noncomputable def gT(q:Nat)(x:ByteArray):Option l7:=cm9 q x
theorem ak1(q:Nat):Lw E5 117 j7 fr2 (gT q):=λx z h=>un7 (eb8 q x z h) (by kernel_rfl)
abbrev an9{β:Type}(A:ByteArray->Option l7)(x:g8)(dn:Int->Option β):Option β:=
 if(ByteArray.toList (x.2.2.1)==ByteArray.toList ⟨#[]⟩) then dn (x.2.1)else(A (x.2.2.1)).bind λa=>dn (w (x.2.1*a.2.2.2.2.2.1))
noncomputable def dW(q:Nat)(x:g8):Option Int:=an9 (gT q) x some
theorem yF(q:Nat):Lw E5 53 eP eL (dW q):=so hW5 hX5 (kc l5 (ak1 q) kn) λc β=>an9 (β:=β) c.1
abbrev bY:Type:=Nat×(Nat->ByteArray)×ByteArray
def cm7:AR bY:=λx=>([.ro 1 x.1 (λj=>[st (x.2.1 j)]),st x.2.2],[])
theorem co3:VI cm7:=vd λt=>((r7 (ag t 0)),(dTS (ag t 0) 0),(vS (ag t 1)))
def da3(x:bY)(y:Int):St:={fr:=[V.ro 1 (x.1) λj=>[st (x.2.1 j)],st (x.2.2),V.junk,V.junk,V.junk,i64 y]++jk 13,H:=hp [],nx:=0,rt:=0,me:=56}
theorem cy6(x:bY):VL (da3 x):=vl λs=>(vI (fv s 5))
def df4(x:bY):j4->Ex×St:=(Sum.elim (λz=>(Ex.ret,{fr:=jk 4++[i64 z]++jk 14,H:=hp [],nx:=0,rt:=0,me:=56})) (λz=>(Ex.exit 0,{fr:=[V.junk]++jk 18,H:=hp [],nx:=0,rt:=0,me:=56})))
abbrev oM{β:Type}(x:bY)(y:Int)(nx:Int->Option β)(dn:j4->Option β):Option β:=
 if decide (y< (x.1:Int)) then if 0<=y/\y< (x.1:Int)then if(ByteArray.toList (x.2.1 (Int.toNat y))==ByteArray.toList (x.2.2)) then dn (.inl y)else nx (w (y+1))else none else dn (.inr ())
noncomputable def br6(q:Nat)(x:bY):Int->Option j4:=lpG (λy=>oM x y (λy=>some (.inl y)) (λz=>some (.inr z))) q
abbrev ay9{β:Type}(A:Int->Option j4)(x:bY)(dn:Int->Option β):Option β:=
 (A (0)).bind λa=>Sum.elim (λb=>dn b) (λc=>dn ((-1:Int))) a
noncomputable def pC(q:Nat)(x:bY):Option Int:=ay9 (br6 q x) x some
theorem bt2(q:Nat):Lw E5 56 cm7 eL (pC q):=have K:=kn;sl hW5 hX5 K (λx=>(lc 0 (cy6 x) (lp hX5 (df4 x) 56 0 35 [(0,0)] 16 K ln q λc l β=>oM (β:=β) x) ln)) λc l β=>ay9 (β:=β) l.1
def ec4(x:ByteArray)(y:Int):St:={fr:=[st x,V.junk,V.junk,V.sl 0 1 0 6,i64 y]++jk 14,H:=hp [some (Z1.row 9 1 6 (cN [[st {data:=#[(98:UInt8),(97:UInt8),(116:UInt8),(116:UInt8),(101:UInt8),(114:UInt8),(121:UInt8)]}],[st {data:=#[(104:UInt8),(101:UInt8),(97:UInt8),(116:UInt8)]}],[st {data:=#[(97:UInt8),(110:UInt8),(103:UInt8),(108:UInt8),(101:UInt8)]}],[st {data:=#[(110:UInt8),(111:UInt8),(119:UInt8)]}],[st {data:=#[(109:UInt8),(111:UInt8),(100:UInt8),(101:UInt8)]}],[st {data:=#[(102:UInt8),(114:UInt8),(101:UInt8),(101:UInt8)]}]]))],nx:=1,rt:=0,me:=57}
theorem dv2(x:ByteArray):VL (ec4 x):=vl λs=>(vI (fv s 4))
def dk8(x:ByteArray):j4->Ex×St:=(Sum.elim (λz=>(Ex.ret,{fr:=[V.junk,V.junk,i64 z]++jk 16,H:=hp [],nx:=0,rt:=0,me:=57})) (λz=>(Ex.exit 0,{fr:=[V.junk]++jk 18,H:=hp [],nx:=0,rt:=0,me:=57})))
abbrev bh3{β:Type}(x:ByteArray)(y:Int)(nx:Int->Option β)(dn:j4->Option β):Option β:=
 if decide (y< 6) then if 0<=y/\y< 6 then if 0+Int.toNat y<6/\1=1 then if(ByteArray.toList (if 0+Int.toNat y=0 then⟨#[98,97,116,116,101,114,121]⟩else if 0+Int.toNat y-1=0 then⟨#[104,101,97,116]⟩else if 0+Int.toNat y-1-1=0 then⟨#[97,110,103,108,101]⟩else if 0+Int.toNat y-1-1-1=0 then⟨#[110,111,119]⟩else if 0+Int.toNat y-1-1-1-1=0 then⟨#[109,111,100,101]⟩else⟨#[102,114,101,101]⟩)==ByteArray.toList x) then dn (.inl y)else nx (w (y+1))else none else none else dn (.inr ())
noncomputable def fk0(q:Nat)(x:ByteArray):Int->Option j4:=lpG (λy=>bh3 x y (λy=>some (.inl y)) (λz=>some (.inr z))) q
abbrev dw8{β:Type}(A:Int->Option j4)(x:ByteArray)(dn:Int->Option β):Option β:=
 (A (0)).bind λa=>Sum.elim (λb=>dn b) (λc=>dn ((-1:Int))) a
noncomputable def bz6(q:Nat)(x:ByteArray):Option Int:=dw8 (fk0 q x) x some
theorem fl6(q:Nat):Lw E5 57 j7 eL (bz6 q):=have K:=(kb (iR hW5 hX5 20).1);sl hW5 hX5 K (λx=>(lc 0 (dv2 x) (lp hX5 (dk8 x) 57 0 25 [(0,0)] 4 K ln q λc l β=>bh3 (β:=β) x) ln)) λc l β=>dw8 (β:=β) l.1
def hd4:eW->Z3:=(λz:Int×Bool=>.ret (.tup [i64 z.1,bo z.2]) [])
abbrev bm5{β:Type}(x:ByteArray)(dn:eW->Option β):Option β:=
 if(ByteArray.toList x==ByteArray.toList ⟨#[43]⟩) then dn ((5,false))else if(ByteArray.toList x==ByteArray.toList ⟨#[45]⟩) then dn ((6,false))else if(ByteArray.toList x==ByteArray.toList ⟨#[42]⟩) then dn ((7,false))else if(ByteArray.toList x==ByteArray.toList ⟨#[47]⟩) then dn ((8,false))else if(ByteArray.toList x==ByteArray.toList ⟨#[60]⟩) then dn ((10,false))else if(ByteArray.toList x==ByteArray.toList ⟨#[60,61]⟩) then dn ((11,false))else if(ByteArray.toList x==ByteArray.toList ⟨#[61,61]⟩) then dn ((12,false))else if(ByteArray.toList x==ByteArray.toList ⟨#[62]⟩) then dn ((11,true))else if(ByteArray.toList x==ByteArray.toList ⟨#[62,61]⟩) then dn ((10,true))else dn ((12,true))
noncomputable def gk6(q:Nat)(x:ByteArray):Option eW:=bm5 x some
theorem fz7(q:Nat):Lw E5 315 j7 hd4 (gk6 q):=so hW5 hX5 kn λc β=>bm5 (β:=β)
def eu1:AR o8:=λx=>([i64 x.1,i64 x.2],[])
theorem gq1:VI eu1:=vd λt=>((vI (ag t 0)),(vI (ag t 1)))
def hp4:o8->Z3:=(λz:Int×Int=>Z3.ret (V.sl 0 2 0 1) [some (Z1.row 49 2 1 (cN [[i64 (z.1),i64 (z.2)]]))])
abbrev gb5{β:Type}(x:o8)(dn:o8->Option β):Option β:=
 dn x
noncomputable def hr6(q:Nat)(x:o8):Option o8:=gb5 x some
theorem gy2(q:Nat):Lw E5 178 eu1 hp4 (hr6 q):=so hW5 hX5 kn λc β=>gb5 (β:=β)
abbrev iQ:Type:=Nat×(Nat->Int)×(Nat->Int)×Int×Int
abbrev di0:Type:=(Nat->Int)×(Nat->Int)×Nat
def di8:AR iQ:=λx=>([.ro 2 x.1 (λj=>[i64 (x.2.1 j),i64 (x.2.2.1 j)]),i64 x.p3,i64 x.q4],[])
theorem au4:VI di8:=vd λt=>((r7 (ag t 0)),(dTI (ag t 0) 0),(dTI (ag t 0) 1),(vI (ag t 1)),(vI (ag t 2)))
def gu5:di0->Z3:=(λz:(Nat->Int)×(Nat->Int)×Nat=>Z3.ret (V.sl 0 2 0 (z.2.2)) [some (Z1.row 49 2 (z.2.2) λj=>[i64 (z.1 j),i64 (z.2.1 j)])])
abbrev cv3{β:Type}(x:iQ)(dn:di0->Option β):Option β:=
 U5 x λA B C D E=>if A=0 then dn ((λj=>D,λj=>E,1))else if A*16<=b6/\A<=maxLen then if(A+1)*16<=b6/\A+1<=maxLen/\A<=A then dn ((λj=>if j<A then B j else D,λj=>if j<A then C j else E,A+1))else none else none
noncomputable def gh0(q:Nat)(x:iQ):Option di0:=cv3 x some
theorem gb4(q:Nat):Lw E5 102 di8 gu5 (gh0 q):=so hW5 hX5 kn λc β=>cv3 (β:=β)
abbrev mF:Type:=Nat×(Nat->Int)×(Nat->Int)×Nat×(Nat->Int)×(Nat->Int)
abbrev dc3:Type:=Unit⊕(Nat×(Nat->Int)×(Nat->Int))
def dd9:AR mF:=λx=>([.ro 2 x.1 (λj=>[i64 (x.2.1 j),i64 (x.2.2.1 j)]),.ro 2 x.p3 (λj=>[i64 (x.p4 j),i64 (x.q5 j)])],[])
theorem dc8:VI dd9:=vd λt=>((r7 (ag t 0)),(dTI (ag t 0) 0),(dTI (ag t 0) 1),(r7 (ag t 1)),(dTI (ag t 1) 0),(dTI (ag t 1) 1))
def gz9:dc3->Z3:=Sum.elim (λz:Unit=>Z3.ret (j0) []) (λz:Nat×(Nat->Int)×(Nat->Int)=>Z3.ret (V.sl 0 2 0 (z.1)) [some (Z1.row 49 2 (z.1) λj=>[i64 (z.2.1 j),i64 (z.2.2 j)])])
abbrev da8{β:Type}(x:mF)(dn:dc3->Option β):Option β:=
 U6 x λA B C D E F=>if A=0 then if D=0 then dn (.inl ())else if D*16<=b6/\D<=maxLen then dn (.inr (x.2.2.2))else none else if A*16<=b6/\A<=maxLen then if(A+D)*16<=b6/\A+D<=maxLen/\A<=A then dn (.inr ((A+D,λj=>if j<A then B j else E (j-A),λj=>if j<A then C j else F (j-A))))else none else none
noncomputable def ga5(q:Nat)(x:mF):Option dc3:=da8 x some
theorem ed3(q:Nat):Lw E5 177 dd9 gz9 (ga5 q):=so hW5 hX5 kn λc β=>da8 (β:=β)
abbrev f0:Type:=Nat×(Nat->Int)×(Nat->Int)
def iN:f0->Z3:=(λz:Nat×(Nat->Int)×(Nat->Int)=>.ret (.ro 2 z.1 (λj=>[i64 (z.2.1 j),i64 (z.2.2 j)])) [])
noncomputable def bh4(q:Nat)(x:o8):Option f0:=(hr6 q x).map (λz=>(1,λ_=>z.1,λ_=>z.2))
theorem ed0(q:Nat):Lw E5 178 eu1 iN (bh4 q):=λx z h=>by
 obtain⟨y,hy,rfl⟩:=Option.map_eq_some_iff.1 h;exact dn0 (gy2 q x y hy)
noncomputable def nQ(q:Nat)(x:iQ):Option f0:=(gh0 q x).map (λz=>(z.2.2,z.1,z.2.1))
theorem uA(q:Nat):Lw E5 102 di8 iN (nQ q):=λx z h=>by
 obtain⟨y,hy,rfl⟩:=Option.map_eq_some_iff.1 h;exact dn0 (gb4 q x y hy)
noncomputable def qV(q:Nat)(x:mF):Option f0:=(ga5 q x).map (Sum.elim (λz=>(0,λ_=>0,λ_=>0)) (λz=>z))
theorem ag5(q:Nat):Lw E5 177 dd9 iN (qV q):=λx z h=>by
 obtain⟨y,hy,rfl⟩:=Option.map_eq_some_iff.1 h
 exact by
  rcases y with y|y
  ·exact fi4 (ed3 q x _ hy)
  ·exact dn0 (ed3 q x _ hy)
def dz2:AR f0:=λx=>([j0,.ro 2 x.1 (λj=>[i64 (x.2.1 j),i64 (x.2.2 j)])],[])
theorem gn8:VI dz2:=vd λt=>((r7 (ag t 1)),(dTI (ag t 1) 0),(dTI (ag t 1) 1))
noncomputable def ba7(q:Nat)(x:f0):Option f0:=qV q (0,λ_=>0,λ_=>0,x)
theorem fy1(q:Nat):Lw E5 177 dz2 iN (ba7 q):=λx z h=>SC.arg (ag5 q _ z h) (AE AH (LeL.refl _)) rfl rfl
abbrev bH:Type:=Int×Int×ByteArray×Nat×(Nat->List V)×Nat×(Nat->ByteArray)×Int
def xJ:AR bH:=λx=>([.agg [i64 x.1,i64 x.2.1,st x.2.2.1,.ro 4 x.p3 x.p4],.ro 1 x.p5 (λj=>[st (x.p6 j)]),i64 x.q7],[])
theorem vM:VI xJ:=vd λt=>((vI ((vAg (ag t 0)).getD 0 .junk)),(vI ((vAg (ag t 0)).getD 1 .junk)),(vS ((vAg (ag t 0)).getD 2 .junk)),(r7 ((vAg (ag t 0)).getD 3 .junk)),(aW ((vAg (ag t 0)).getD 3 .junk)),(r7 (ag t 1)),(dTS (ag t 1) 0),vI (ag t 2))
abbrev dT:Type:=Int×Int×ByteArray×Nat×(Nat->Int)×(Nat->Int)×(Nat->ByteArray)×(Nat->Nat)×(Nat->Nat->List V)×Nat×(Nat->ByteArray)×Int
def am8:AR dT:=λx=>([.agg [i64 x.1,i64 x.2.1,st x.2.2.1,.ro 4 x.p3 (λj=>[i64 (x.p4 j),i64 (x.p5 j),st (x.p6 j),.ro 4 (x.p7 j) (x.p8 j)])],.ro 1 x.p9 (λj=>[st (x.p10 j)]),i64 x.q11],[])
theorem gg4:VI am8:=vd λt=>((vI (ca t 0 0)),(vI (ca t 0 1)),(vS (ca t 0 2)),(r7 (ca t 0 3)),(dTI (ca t 0 3) 0),(dTI (ca t 0 3) 1),(dTS (ca t 0 3) 2),(dTN (ca t 0 3) 3),(dTF (ca t 0 3) 3),(r7 (ag t 1)),(dTS (ag t 1) 0),(vI (ag t 2)))
abbrev ex8{β:Type}(A:bH->Option f0)(B:iQ->Option f0)(C:mF->Option f0)(D:ByteArray->Option eW)(x:dT)(dn:f0->Option β):Option β:=
 U12 x λE F G H I J K L M N O P=>if(0:Int)<=(0:Int)/\0< (H:Int)then(A ((I 0,J 0,K 0,L 0,M 0,x.2.2.2.2.2.2.2.2.2))).bind λa=>if(ByteArray.toList (G)==ByteArray.toList ⟨#[38,38]⟩) then if(0:Int)<=(1:Int)/\1< (H:Int)then(A ((I 1,J 1,K 1,L 1,M 1,N,O,w (w (P+(a.1:Int))+1)))).bind λb=>(B ((a.1,a.2.1,a.2.2,15,w (w (w (w (P+(a.1:Int))+1)+(b.1:Int))+1)))).bind λc=>(B ((b.1,b.2.1,b.2.2,14,w (w (w (w (w (P+(a.1:Int))+1)+(b.1:Int))+1)+1)))).bind λd=>(C ((c.1,c.2.1,c.2.2,d))).bind λe=>(B ((e.1,e.2.1,e.2.2,1,0))).bind λf=>dn f else none else if(ByteArray.toList (G)==ByteArray.toList ⟨#[124,124]⟩) then if(0:Int)<=(1:Int)/\1< (H:Int)then(A ((I 1,J 1,K 1,L 1,M 1,N,O,w (w (P+(a.1:Int))+3)))).bind λg=>(B ((a.1,a.2.1,a.2.2,15,w (w (P+(a.1:Int))+3)))).bind λh=>(B ((h.1,h.2.1,h.2.2,1,1))).bind λi=>(B ((i.1,i.2.1,i.2.2,14,w (w (w (P+(a.1:Int))+3)+(g.1:Int))))).bind λj=>(C ((j.1,j.2.1,j.2.2,g))).bind λk=>dn k else none else if(0:Int)<=(1:Int)/\1< (H:Int)then(A ((I 1,J 1,K 1,L 1,M 1,N,O,w (P+(a.1:Int))))).bind λl=>(D (G)).bind λm=>(C ((a.1,a.2.1,a.2.2,l))).bind λn=>(B ((n.1,n.2.1,n.2.2,m.1,0))).bind λo=>if m.2 then(B ((o.1,o.2.1,o.2.2,13,0))).bind λp=>dn p else dn o else none else none
abbrev ca9{β:Type}(A:o8->Option f0)(B:g8->Option Int)(C:bY->Option Int)(D:ByteArray->Option Int)(E:iQ->Option f0)(F:bH->Option f0)(G:dT->Option f0)(x:dT)(dn:f0->Option β):Option β:=
 U12 x λH I J K L M N O P Q R S=>if(H==15) then(B ((H,I,J,K,λj=>[i64 (L j),i64 (M j),st (N j),V.ro 4 (O j) (P j)]))).bind λa=>(A ((1,a))).bind λb=>dn b else if(H==16) then(A ((1,I))).bind λc=>dn c else if(H==17) then(C ((Q,R,J))).bind λd=>(A ((2,d))).bind λe=>dn e else if(H==18) then(D (J)).bind λf=>(A ((4,f))).bind λg=>dn g else if(H==19) then if(ByteArray.toList (J)==ByteArray.toList ⟨#[45]⟩) then if(0:Int)<=(0:Int)/\0< (K:Int)then(F ((L 0,M 0,N 0,O 0,P 0,x.2.2.2.2.2.2.2.2.2))).bind λh=>(E ((h.1,h.2.1,h.2.2,9,0))).bind λi=>dn i else none else if(0:Int)<=(0:Int)/\0< (K:Int)then(F ((L 0,M 0,N 0,O 0,P 0,x.2.2.2.2.2.2.2.2.2))).bind λk=>(E ((k.1,k.2.1,k.2.2,13,0))).bind λl=>dn l else none else(G x).bind λm=>dn m
noncomputable def gn3(c:bH->Option f0)(q:Nat)(x:dT):Option f0:=ex8 c (nQ q) (qV q) (gk6 q) x some
theorem gd3{c:bH->Option f0}(h:Lw E5 175 xJ iN c)(q:Nat):Lw E5 259 am8 iN (gn3 c q):=so hW5 hX5 (kc vM h (kc au4 (uA q) (kg (λa _=> !iA (a.getD 0 .junk)) dc8 (ag5 q) (kc l5 (fz7 q) kn)))) λc β=>ex8 (β:=β) c.1 c.2.1 c.2.2.1 c.2.2.2.1
open Classical in
noncomputable def tZ:Nat->bH->Option f0
 |0,_=>none
 |q+1,x=>if hJ (x.2.2.2.2.1)then ca9 (bh4 q) (dW q) (pC q) (bz6 q) (nQ q) (tZ q) (gn3 (tZ q) q) (x.1,x.2.1,x.2.2.1,x.2.2.2.1,opK x.2.2.2.2.1,opN x.2.2.2.2.1,opS x.2.2.2.2.1,opM x.2.2.2.2.1,opF x.2.2.2.2.1,x.2.2.2.2.2.1,x.2.2.2.2.2.2.1,x.2.2.2.2.2.2.2) some else none
theorem dy1:∀q,Lw E5 175 xJ iN (tZ q):=by
 intro q
 induction q with
 |zero=>intro x z h;cases h
 |succ q ih=>
  intro x z h;unfold tZ at h;split at h
  ·rename_i hO;have this:=(so hW5 hX5 (kc gq1 (ed0 q) (kc cJ (yF q) (kc co3 (bt2 q) (kc l5 (fl6 q) (kc au4 (uA q) (kc vM ih (kc gg4 (gd3 ih q) kn))))))) λc β=>ca9 (β:=β) c.1 c.2.1 c.2.2.1 c.2.2.2.1 c.2.2.2.2.1 c.2.2.2.2.2.1 c.2.2.2.2.2.2.1:Lw E5 175 am8 iN _) (x.1,x.2.1,x.2.2.1,x.2.2.2.1,opK x.2.2.2.2.1,opN x.2.2.2.2.1,opS x.2.2.2.2.1,opM x.2.2.2.2.1,opF x.2.2.2.2.1,x.2.2.2.2.2.1,x.2.2.2.2.2.2.1,x.2.2.2.2.2.2.2) z h;unfold am8 at this;unfold xJ;simp only at this⊢;rw[cY hO]at this;exact this
  ·cases h
abbrev aq1:Type:=(Nat×(Nat->Int)×(Nat->Int))⊕Unit
def dx6:aq1->Z3:=Sum.elim (λz:Nat×(Nat->Int)×(Nat->Int)=>Z3.ret (V.ro 2 (z.1) λj=>[i64 (z.2.1 j),i64 (z.2.2 j)]) []) (λz:Unit=>Z3.ret (j0) [])
abbrev ag1{β:Type}(A:bH->Option f0)(B:bH->Option f0)(C:iQ->Option f0)(D:mF->Option f0)(x:dT)(dn:f0->Option β):Option β:=
 U12 x λE F G H I J K L M N O P=>if(0:Int)<=(0:Int)/\0< (H:Int)then(A ((I 0,J 0,K 0,L 0,M 0,x.2.2.2.2.2.2.2.2.2))).bind λa=>if(0:Int)<=(1:Int)/\1< (H:Int)then(B ((I 1,J 1,K 1,L 1,M 1,N,O,w (w (P+(a.1:Int))+1)))).bind λb=>if(0:Int)<=(2:Int)/\2< (H:Int)then if(((L 2:Nat):Int)==0) then(C ((a.1,a.2.1,a.2.2,15,w (w (w (P+(a.1:Int))+1)+(b.1:Int))))).bind λc=>(D ((c.1,c.2.1,c.2.2,b))).bind λd=>dn d else if(0:Int)<=(2:Int)/\2< (H:Int)then(B ((I 2,J 2,K 2,L 2,M 2,N,O,w (w (w (w (P+(a.1:Int))+1)+(b.1:Int))+1)))).bind λe=>(C ((a.1,a.2.1,a.2.2,15,w (w (w (w (P+(a.1:Int))+1)+(b.1:Int))+1)))).bind λf=>(C ((b.1,b.2.1,b.2.2,14,w (w (w (w (w (P+(a.1:Int))+1)+(b.1:Int))+1)+(e.1:Int))))).bind λg=>(D ((f.1,f.2.1,f.2.2,g))).bind λh=>(D ((h.1,h.2.1,h.2.2,e))).bind λi=>dn i else none else none else none else none
abbrev mM:Type:=(Unit)⊕(Nat×(Nat->Int)×(Nat->Int)×Int)
abbrev mT:Type:=(Unit)⊕(Nat×(Nat->Int)×(Nat->Int))
def ct4(x:dT)(y:Unit):St:={fr:=[V.junk,V.ro 1 (x.p9) λj=>[st (x.p10 j)],i64 (x.q11),V.ptr 0 0]++jk 5++[j0,i64 0]++jk 153,H:=hp [some (Z1.blk [i64 (x.1),i64 (x.2.1),st (x.2.2.1),V.ro 4 (x.p3) λj=>[i64 (x.p4 j),i64 (x.p5 j),st (x.p6 j),V.ro 4 (x.p7 j) (x.p8 j)]])],nx:=1,rt:=0,me:=103}
def cw4(x:dT)(y:Nat×(Nat->Int)×(Nat->Int)×Int):St:={fr:=[V.junk,V.ro 1 (x.p9) λj=>[st (x.p10 j)],i64 (x.q11),V.ptr 0 0]++jk 5++[V.ro 2 (y.1) λj=>[i64 (y.2.1 j),i64 (y.2.2.1 j)],i64 (y.q3)]++jk 153,H:=hp [some (Z1.blk [i64 (x.1),i64 (x.2.1),st (x.2.2.1),V.ro 4 (x.p3) λj=>[i64 (x.p4 j),i64 (x.p5 j),st (x.p6 j),V.ro 4 (x.p7 j) (x.p8 j)]])],nx:=1,rt:=0,me:=103}
def ec2(x:dT):mM->St:=(Sum.elim (ct4 x) (cw4 x))
theorem do3(x:dT):VL (ec2 x):=vl λs=>(match iA (fv s 9)with|true=>(.inl (())) |false=>(.inr (((r7 (fv s 9)),(dTI (fv s 9) 0),(dTI (fv s 9) 1),(vI (fv s 10))))))
def ea9(x:dT):mT->Ex×St:=(Sum.elim (λz=>(Ex.exit 1,{fr:=jk 9++[j0]++jk 154,H:=hp [],nx:=0,rt:=0,me:=103})) (λz=>(Ex.exit 1,{fr:=jk 9++[V.ro 2 (z.1) λj=>[i64 (z.2.1 j),i64 (z.2.2 j)]]++jk 154,H:=hp [],nx:=0,rt:=0,me:=103})))
abbrev oG{β:Type}(A:bH->Option f0)(B:iQ->Option f0)(C:bY->Option Int)(D:dT->Option f0)(E:bH->Option f0)(F:mF->Option f0)(G:f0->Option f0)(H:o8->Option f0)(I:g8->Option Int)(x:dT)(y:Unit)(nx:mM->Option β)(dn:mT->Option β):Option β:=
 U12 x λA B C D F H I J K L M N=>if decide (0< (D:Int)) then if(0:Int)<=(0:Int)/\0< (D:Int)then(E ((F 0,H 0,I 0,J 0,K 0,L,M,w (N+0)))).bind λa=>(G a).bind λb=>nx (.inr ((b.1,b.2.1,b.2.2,1)))else none else dn (.inl ())
abbrev oJ{β:Type}(A:bH->Option f0)(B:iQ->Option f0)(C:bY->Option Int)(D:dT->Option f0)(E:bH->Option f0)(F:mF->Option f0)(G:f0->Option f0)(H:o8->Option f0)(I:g8->Option Int)(x:dT)(y:Nat×(Nat->Int)×(Nat->Int)×Int)(nx:mM->Option β)(dn:mT->Option β):Option β:=
 U12 x λA B C D G H I J K L M N=>U4 y λA B C O=>if decide (O< (D:Int)) then if 0<=O/\O< (D:Int)then(E ((G (Int.toNat (O)),H (Int.toNat (O)),I (Int.toNat (O)),J (Int.toNat (O)),K (Int.toNat (O)),L,M,w (N+(A:Int))))).bind λa=>(F ((A,B,C,a))).bind λb=>nx (.inr ((b.1,b.2.1,b.2.2,w (O+1))))else none else dn (.inr ((A,B,C)))
noncomputable def pT(A:bH->Option f0)(B:iQ->Option f0)(C:bY->Option Int)(D:dT->Option f0)(E:bH->Option f0)(F:mF->Option f0)(G:f0->Option f0)(H:o8->Option f0)(I:g8->Option Int)(q:Nat)(x:dT):mM->Option mT:=lpG (Sum.elim (λy=>oG A B C D E F G H I x y (λy=>some (.inl y)) (λz=>some (.inr z))) (λy=>oJ A B C D E F G H I x y (λy=>some (.inl y)) (λz=>some (.inr z)))) q
abbrev br5{β:Type}(A:bH->Option f0)(B:iQ->Option f0)(C:bY->Option Int)(D:dT->Option f0)(E:bH->Option f0)(F:mF->Option f0)(G:f0->Option f0)(H:o8->Option f0)(I:g8->Option Int)(J:mM->Option mT)(x:dT)(dn:aq1->Option β):Option β:=
 U12 x λG K L M N O P Q R S T U=>if(G==1) then if(0:Int)<=(0:Int)/\0< (M:Int)then(A ((N 0,O 0,P 0,Q 0,R 0,x.2.2.2.2.2.2.2.2.2))).bind λa=>(C ((S,T,L))).bind λb=>(B ((a.1,a.2.1,a.2.2,3,b))).bind λc=>dn (.inl c)else none else if(G==2) then if(0:Int)<=(0:Int)/\0< (M:Int)then(A ((N 0,O 0,P 0,Q 0,R 0,x.2.2.2.2.2.2.2.2.2))).bind λd=>(C ((S,T,L))).bind λe=>(B ((d.1,d.2.1,d.2.2,3,e))).bind λf=>dn (.inl f)else none else if(G==3) then(D x).bind λg=>dn (.inl g)else if(G==4) then if(0:Int)<=(0:Int)/\0< (M:Int)then(E ((N 0,O 0,P 0,Q 0,R 0,S,T,w (U+1)))).bind λh=>(H ((16,K))).bind λi=>(F ((i.1,i.2.1,i.2.2,h))).bind λj=>(B ((j.1,j.2.1,j.2.2,17,w (U+1)))).bind λk=>dn (.inl k)else none else if(G==5) then if(0:Int)<=(0:Int)/\0< (M:Int)then(I ((N 0,O 0,P 0,Q 0,R 0))).bind λl=>(H ((18,l))).bind λm=>dn (.inl m)else none else if(G==6) then if(0:Int)<=(0:Int)/\0< (M:Int)then(A ((N 0,O 0,P 0,Q 0,R 0,S,T,w (U+1)))).bind λn=>if(0:Int)<=(1:Int)/\1< (M:Int)then(I ((N 1,O 1,P 1,Q 1,R 1))).bind λo=>(H ((19,o))).bind λp=>(F ((p.1,p.2.1,p.2.2,n))).bind λq=>(B ((q.1,q.2.1,q.2.2,20,w (U+1)))).bind λr=>dn (.inl r)else none else none else if(G==7) then if(0:Int)<=(0:Int)/\0< (M:Int)then(A ((N 0,O 0,P 0,Q 0,R 0,x.2.2.2.2.2.2.2.2.2))).bind λs=>(B ((s.1,s.2.1,s.2.2,21,0))).bind λt=>dn (.inl t)else none else if(G==8) then if(0:Int)<=(0:Int)/\0< (M:Int)then(A ((N 0,O 0,P 0,Q 0,R 0,x.2.2.2.2.2.2.2.2.2))).bind λu=>(B ((u.1,u.2.1,u.2.2,22,0))).bind λv=>dn (.inl v)else none else if(G==9) then if(0:Int)<=(0:Int)/\0< (M:Int)then(I ((N 0,O 0,P 0,Q 0,R 0))).bind λz=>(H ((23,w (w (K*1000000)+z)))).bind λaa=>dn (.inl aa)else none else if(G==10) then if(0:Int)<=(0:Int)/\0< (M:Int)then(I ((N 0,O 0,P 0,Q 0,R 0))).bind λab=>(H ((24,w (w (ab*8)+K)))).bind λac=>dn (.inl ac)else none else if(G==11) then if(0:Int)<=(0:Int)/\0< (M:Int)then(I ((N 0,O 0,P 0,Q 0,R 0))).bind λad=>(H ((25,ad))).bind λae=>dn (.inl ae)else none else if(G==12) then(H ((26,K))).bind λaf=>dn (.inl af)else if(G==13) then(H ((27,K))).bind λag=>dn (.inl ag)else(J (.inl ())).bind λah=>Sum.elim (λai=>dn (.inr ())) (λaj=>dn (.inl aj)) ah
noncomputable def mP(c:bH->Option f0)(q:Nat)(x:dT):Option f0:=ag1 (tZ q) c (nQ q) (qV q) x some
theorem dy6{c:bH->Option f0}(h:Lw E5 103 xJ iN c)(q:Nat):Lw E5 176 am8 iN (mP c q):=so hW5 hX5 (kc vM (dy1 q) (kc vM h (kc au4 (uA q) (kg (λa _=> !iA (a.getD 0 .junk)) dc8 (ag5 q) kn)))) λc β=>ag1 (β:=β) c.1 c.2.1 c.2.2.1 c.2.2.2.1
def ed4:aq1->f0:=Sum.elim (λz=>z) (λ_=>(0,λ_=>0,λ_=>0))
theorem fw7(args:List V)(L:List (Option Z1))(z:aq1)(h:SC E5 103 args L (dx6 z)):SC E5 103 args L (iN (ed4 z)):=by
 rcases z with z|z
 ·exact h
 ·exact fi4 h
open Classical in
noncomputable def qK:Nat->bH->Option f0
 |0,_=>none
 |q+1,x=>if hJ (x.2.2.2.2.1)then(br5 (tZ q) (nQ q) (pC q) (mP (qK q) q) (qK q) (qV q) (ba7 q) (bh4 q) (dW q) (pT (tZ q) (nQ q) (pC q) (mP (qK q) q) (qK q) (qV q) (ba7 q) (bh4 q) (dW q) q (x.1,x.2.1,x.2.2.1,x.2.2.2.1,opK x.2.2.2.2.1,opN x.2.2.2.2.1,opS x.2.2.2.2.1,opM x.2.2.2.2.1,opF x.2.2.2.2.1,x.2.2.2.2.2.1,x.2.2.2.2.2.2.1,x.2.2.2.2.2.2.2)) (x.1,x.2.1,x.2.2.1,x.2.2.2.1,opK x.2.2.2.2.1,opN x.2.2.2.2.1,opS x.2.2.2.2.1,opM x.2.2.2.2.1,opF x.2.2.2.2.1,x.2.2.2.2.2.1,x.2.2.2.2.2.2.1,x.2.2.2.2.2.2.2) some).map ed4 else none
theorem fz5:∀q,Lw E5 103 xJ iN (qK q):=by
 intro q
 induction q with
 |zero=>intro x z h;cases h
 |succ q ih=>
  intro x z h;unfold qK at h;split at h
  ·rename_i hO;obtain⟨z2,h2,rfl⟩:=Option.map_eq_some_iff.1 h;have this:=(have K:=(kc vM (dy1 q) (kc au4 (uA q) (kc co3 (bt2 q) (kc gg4 (dy6 ih q) (kc vM ih (kg (λa _=> !iA (a.getD 0 .junk)) dc8 (ag5 q) (kg (λa _=>iA (a.getD 0 .junk)) gn8 (fy1 q) (kc gq1 (ed0 q) (kc cJ (yF q) kn)))))))));sl hW5 hX5 K (λx=>(lc 1 (do3 x) (lp2 hX5 (ea9 x) 103 1 1550 [(1,512)] 64 K ln q (λc l β=>oG (β:=β) c.1 c.2.1 c.2.2.1 c.2.2.2.1 c.2.2.2.2.1 c.2.2.2.2.2.1 c.2.2.2.2.2.2.1 c.2.2.2.2.2.2.2.1 c.2.2.2.2.2.2.2.2.1 x) λc l β=>oJ (β:=β) c.1 c.2.1 c.2.2.1 c.2.2.2.1 c.2.2.2.2.1 c.2.2.2.2.2.1 c.2.2.2.2.2.2.1 c.2.2.2.2.2.2.2.1 c.2.2.2.2.2.2.2.2.1 x) ln)) λc l β=>br5 (β:=β) c.1 c.2.1 c.2.2.1 c.2.2.2.1 c.2.2.2.2.1 c.2.2.2.2.2.1 c.2.2.2.2.2.2.1 c.2.2.2.2.2.2.2.1 c.2.2.2.2.2.2.2.2.1 l.1:Lw E5 103 am8 dx6 _) (x.1,x.2.1,x.2.2.1,x.2.2.2.1,opK x.2.2.2.2.1,opN x.2.2.2.2.1,opS x.2.2.2.2.1,opM x.2.2.2.2.1,opF x.2.2.2.2.1,x.2.2.2.2.2.1,x.2.2.2.2.2.2.1,x.2.2.2.2.2.2.2) z2 h2;unfold am8 at this;unfold xJ;simp only at this⊢;rw[cY hO]at this;exact fw7 _ _ _ this
  ·cases h
def qX:Bool->Z3:=(λz:Bool=>.ret (bo z) [])
abbrev s5:Type:=Int×Int×ByteArray×Nat×(Nat->Int)×(Nat->Int)×(Nat->ByteArray)×(Nat->Nat)×(Nat->Nat->List V)
def oQ:AR s5:=λx=>([.agg [i64 x.1,i64 x.2.1,st x.2.2.1,.ro 4 x.p3 (λj=>[i64 (x.p4 j),i64 (x.p5 j),st (x.p6 j),.ro 4 (x.p7 j) (x.q8 j)])]],[])
theorem fj5:VI oQ:=vd λt=>((vI (ca t 0 0)),(vI (ca t 0 1)),(vS (ca t 0 2)),(r7 (ca t 0 3)),(dTI (ca t 0 3) 0),(dTI (ca t 0 3) 1),(dTS (ca t 0 3) 2),(dTN (ca t 0 3) 3),(dTF (ca t 0 3) 3))
def ez1(x:s5)(y:Int):St:={fr:=[V.junk,V.ptr 0 0,V.junk,i64 y]++jk 47,H:=hp [some (Z1.blk [i64 (x.1),i64 (x.2.1),st (x.2.2.1),V.ro 4 (x.p3) λj=>[i64 (x.p4 j),i64 (x.p5 j),st (x.p6 j),V.ro 4 (x.p7 j) (x.q8 j)]])],nx:=1,rt:=0,me:=100}
theorem ek0(x:s5):VL (ez1 x):=vl λs=>(vI (fv s 3))
def en0(x:s5):y7->Ex×St:=(Sum.elim (λz=>(Ex.ret,{fr:=[V.junk,V.junk,bo true]++jk 48,H:=hp [],nx:=0,rt:=0,me:=100})) (λz=>(Ex.exit 1,{fr:=[V.junk]++jk 50,H:=hp [],nx:=0,rt:=0,me:=100})))
abbrev vA{β:Type}(A:g8->Option Int)(B:g8->Option Bool)(x:s5)(y:Int)(nx:Int->Option β)(dn:y7->Option β):Option β:=
 U9 x λA C D E F G H I J=>if decide (y< (E:Int)) then if 0<=y/\y< (E:Int)then(B ((F (Int.toNat y),G (Int.toNat y),H (Int.toNat y),I (Int.toNat y),J (Int.toNat y)))).bind λa=>if a then dn (.inl ())else nx (w (y+1))else none else dn (.inr ())
noncomputable def dq2(A:g8->Option Int)(B:g8->Option Bool)(q:Nat)(x:s5):Int->Option y7:=lpG (λy=>vA A B x y (λy=>some (.inl y)) (λz=>some (.inr z))) q
abbrev cu6{β:Type}(A:g8->Option Int)(B:g8->Option Bool)(C:Int->Option y7)(x:s5)(dn:Bool->Option β):Option β:=
 U9 x λB D E F G H I J K=>if(B==5) then if(0:Int)<=(0:Int)/\0< (F:Int)then(A ((G 0,H 0,I 0,J 0,K 0))).bind λa=>dn (decide (a>1000000))else none else if(B==6) then if(0:Int)<=(1:Int)/\1< (F:Int)then(A ((G 1,H 1,I 1,J 1,K 1))).bind λb=>dn (decide (b>1000000))else none else if(B==9) then if(0:Int)<=(0:Int)/\0< (F:Int)then(A ((G 0,H 0,I 0,J 0,K 0))).bind λc=>dn (decide (c>999999))else none else if(B==10) then if(0:Int)<=(0:Int)/\0< (F:Int)then(A ((G 0,H 0,I 0,J 0,K 0))).bind λd=>dn (decide (d>268435455))else none else(C (0)).bind λe=>Sum.elim (λf=>dn true) (λg=>dn false) e
open Classical in
noncomputable def j2:Nat->g8->Option Bool
 |0,_=>none
 |q+1,x=>if hJ (x.2.2.2.2)then cu6 (dW q) (j2 q) (dq2 (dW q) (j2 q) q (x.1,x.2.1,x.2.2.1,x.2.2.2.1,opK x.2.2.2.2,opN x.2.2.2.2,opS x.2.2.2.2,opM x.2.2.2.2,opF x.2.2.2.2)) (x.1,x.2.1,x.2.2.1,x.2.2.2.1,opK x.2.2.2.2,opN x.2.2.2.2,opS x.2.2.2.2,opM x.2.2.2.2,opF x.2.2.2.2) some else none
theorem hb9:∀q,Lw E5 100 eP qX (j2 q):=by
 intro q
 induction q with
 |zero=>intro x z h;cases h
 |succ q ih=>
  intro x z h;unfold j2 at h;split at h
  ·rename_i hO;have this:=(have K:=(kc cJ (yF q) (kc cJ ih kn));sl hW5 hX5 K (λx=>(lc 1 (ek0 x) (lp hX5 (en0 x) 100 1 10 [(1,0)] 4 K ln q λc l β=>vA (β:=β) c.1 c.2.1 x) ln)) λc l β=>cu6 (β:=β) c.1 c.2.1 l.1:Lw E5 100 oQ qX _) (x.1,x.2.1,x.2.2.1,x.2.2.2.1,opK x.2.2.2.2,opN x.2.2.2.2,opS x.2.2.2.2,opM x.2.2.2.2,opF x.2.2.2.2) z h;unfold oQ at this;unfold eP;simp only at this⊢;rw[cY hO]at this;exact this
  ·cases h
def et8(x:s5)(y:o8):St:={fr:=[V.junk,V.ptr 0 0,V.junk,i64 (y.1),i64 (y.2)]++jk 40,H:=hp [some (Z1.blk [i64 (x.1),i64 (x.2.1),st (x.2.2.1),V.ro 4 (x.p3) λj=>[i64 (x.p4 j),i64 (x.p5 j),st (x.p6 j),V.ro 4 (x.p7 j) (x.q8 j)]])],nx:=1,rt:=0,me:=104}
theorem el5(x:s5):VL (et8 x):=vl λs=>((vI (fv s 3)),(vI (fv s 4)))
def ev8(x:s5):Int->Ex×St:=(λz=>(Ex.exit 0,{fr:=[V.junk,V.junk,V.junk,i64 z]++jk 41,H:=hp [],nx:=0,rt:=0,me:=104}))
abbrev vU{β:Type}(A:g8->Option Int)(x:s5)(y:o8)(nx:o8->Option β)(dn:Int->Option β):Option β:=
 U9 x λB C D E F G H I J=>if decide (y.2< (E:Int)) then if 0<=y.2/\y.2< (E:Int)then(A ((F (Int.toNat (y.2)),G (Int.toNat (y.2)),H (Int.toNat (y.2)),I (Int.toNat (y.2)),J (Int.toNat (y.2))))).bind λa=>if(B==20) then if(y.2==1) then if(!ByteArray.toList (D)==ByteArray.toList ⟨#[38,38]⟩) then if(!ByteArray.toList (D)==ByteArray.toList ⟨#[124,124]⟩) then nx ((if w (a+1)>y.1 then w (a+1)else y.1,w (y.2+1)))else nx ((if a>y.1 then a else y.1,w (y.2+1)))else nx ((if a>y.1 then a else y.1,w (y.2+1)))else nx ((if a>y.1 then a else y.1,w (y.2+1)))else nx ((if a>y.1 then a else y.1,w (y.2+1)))else none else dn (y.1)
noncomputable def bx8(A:g8->Option Int)(q:Nat)(x:s5):o8->Option Int:=lpG (λy=>vU A x y (λy=>some (.inl y)) (λz=>some (.inr z))) q
abbrev cs1{β:Type}(A:g8->Option Int)(B:o8->Option Int)(x:s5)(dn:Int->Option β):Option β:=
 if decide (x.1>=15) then(B ((1,0))).bind λa=>dn a else(B ((0,0))).bind λb=>dn b
open Classical in
noncomputable def at6:Nat->g8->Option Int
 |0,_=>none
 |q+1,x=>if hJ (x.2.2.2.2)then cs1 (at6 q) (bx8 (at6 q) q (x.1,x.2.1,x.2.2.1,x.2.2.2.1,opK x.2.2.2.2,opN x.2.2.2.2,opS x.2.2.2.2,opM x.2.2.2.2,opF x.2.2.2.2)) (x.1,x.2.1,x.2.2.1,x.2.2.2.1,opK x.2.2.2.2,opN x.2.2.2.2,opS x.2.2.2.2,opM x.2.2.2.2,opF x.2.2.2.2) some else none
theorem gh4:∀q,Lw E5 104 eP eL (at6 q):=by
 intro q
 induction q with
 |zero=>intro x z h;cases h
 |succ q ih=>
  intro x z h;unfold at6 at h;split at h
  ·rename_i hO;have this:=(have K:=(kc cJ ih kn);sl hW5 hX5 K (λx=>(lc 0 (el5 x) (lp hX5 (ev8 x) 104 0 26 [(0,8)] 4 K ln q λc l β=>vU (β:=β) c.1 x) ln)) λc l β=>cs1 (β:=β) c.1 l.1:Lw E5 104 oQ eL _) (x.1,x.2.1,x.2.2.1,x.2.2.2.1,opK x.2.2.2.2,opN x.2.2.2.2,opS x.2.2.2.2,opM x.2.2.2.2,opF x.2.2.2.2) z h;unfold oQ at this;unfold eP;simp only at this⊢;rw[cY hO]at this;exact this
  ·cases h
abbrev bA:Type:=Nat×(Nat->ByteArray)
def ct9:bA->Z3:=(λz:Nat×(Nat->ByteArray)=>.ret (.ro 1 z.1 (λj=>[st (z.2 j)])) [])
abbrev bn5:Type:=(Nat×(Nat->ByteArray))⊕Unit
def fc5:bn5->Z3:=Sum.elim (λz:Nat×(Nat->ByteArray)=>Z3.ret (V.sl 0 1 0 (z.1)) [some (Z1.row 9 1 (z.1) λj=>[st (z.2 j)])]) (λz:Unit=>Z3.ret (j0) [])
abbrev qJ:Type:=Nat×Int×(Nat->ByteArray)
def ei3(x:s5)(y:qJ):St:={fr:=[V.junk,V.ptr 0 0,V.junk,V.sl 1 1 0 (y.1),i64 (y.2.1)]++jk 24,H:=hp [some (Z1.blk [i64 (x.1),i64 (x.2.1),st (x.2.2.1),V.ro 4 (x.p3) λj=>[i64 (x.p4 j),i64 (x.p5 j),st (x.p6 j),V.ro 4 (x.p7 j) (x.q8 j)]]),some (Z1.row 9 1 (y.1) λj=>[st (y.2.2 j)])],nx:=2,rt:=0,me:=174}
theorem ep9(x:s5):VL (ei3 x):=vl λs=>((aV (fv s 3)),(vI (fv s 4)),(dRS (s.H 1) 0))
def ep4(x:s5):bA->Ex×St:=(λz=>(Ex.exit 0,{fr:=[V.junk,V.junk,V.junk,V.sl 0 1 0 (z.1)]++jk 25,H:=hp [some (Z1.row 9 1 (z.1) λj=>[st (z.2 j)])],nx:=1,rt:=0,me:=174}))
abbrev wN{β:Type}(A:g8->Option bA)(x:s5)(y:qJ)(nx:qJ->Option β)(dn:bA->Option β):Option β:=
 U9 x λB C D E F G H I J=>U3 y λB C D=>if decide (C< (E:Int)) then if 0<=C/\C< (E:Int)then(A ((F (Int.toNat (C)),G (Int.toNat (C)),H (Int.toNat (C)),I (Int.toNat (C)),J (Int.toNat (C))))).bind λa=>if(B+a.1)*16<=b6/\B+a.1<=maxLen/\B<=B then nx ((B+a.1,w (C+1),λj=>if j<B then D j else a.2 (j-B)))else none else none else dn ((B,D))
noncomputable def dm5(A:g8->Option bA)(q:Nat)(x:s5):qJ->Option bA:=lpG (λy=>wN A x y (λy=>some (.inl y)) (λz=>some (.inr z))) q
abbrev kI:Type:=(Int)⊕(Nat×(Nat->ByteArray)×Int)
abbrev jX:Type:=(Unit)⊕(Nat×(Nat->ByteArray))
def ce7(x:s5)(y:Int):St:={fr:=[V.junk,V.ptr 0 0,V.junk,j0,i64 y]++jk 24,H:=hp [some (Z1.blk [i64 (x.1),i64 (x.2.1),st (x.2.2.1),V.ro 4 (x.p3) λj=>[i64 (x.p4 j),i64 (x.p5 j),st (x.p6 j),V.ro 4 (x.p7 j) (x.q8 j)]])],nx:=1,rt:=0,me:=174}
def cd9(x:s5)(y:Nat×(Nat->ByteArray)×Int):St:={fr:=[V.junk,V.ptr 0 0,V.junk,V.sl 1 1 0 (y.1),i64 (y.2.2)]++jk 24,H:=hp [some (Z1.blk [i64 (x.1),i64 (x.2.1),st (x.2.2.1),V.ro 4 (x.p3) λj=>[i64 (x.p4 j),i64 (x.p5 j),st (x.p6 j),V.ro 4 (x.p7 j) (x.q8 j)]]),some (Z1.row 9 1 (y.1) λj=>[st (y.2.1 j)])],nx:=2,rt:=0,me:=174}
def dc5(x:s5):kI->St:=(Sum.elim (ce7 x) (cd9 x))
theorem cw6(x:s5):VL (dc5 x):=vl λs=>(match s.nx==1 with|true=>(.inl ((vI (fv s 4)))) |false=>(.inr (((aV (fv s 3)),(dRS (s.H 1) 0),(vI (fv s 4))))))
def cx4(x:s5):jX->Ex×St:=(Sum.elim (λz=>(Ex.exit 0,{fr:=[V.junk,V.junk,V.junk,j0]++jk 25,H:=hp [],nx:=0,rt:=0,me:=174})) (λz=>(Ex.exit 0,{fr:=[V.junk,V.junk,V.junk,V.sl 0 1 0 (z.1)]++jk 25,H:=hp [some (Z1.row 9 1 (z.1) λj=>[st (z.2 j)])],nx:=1,rt:=0,me:=174})))
abbrev lW{β:Type}(A:g8->Option bA)(x:s5)(y:Int)(nx:kI->Option β)(dn:jX->Option β):Option β:=
 U9 x λB C D E F G H I J=>if decide (y< (E:Int)) then if 0<=y/\y< (E:Int)then(A ((F (Int.toNat y),G (Int.toNat y),H (Int.toNat y),I (Int.toNat y),J (Int.toNat y)))).bind λa=>if a.1=0 then nx (.inl (w (y+1)))else if a.1*16<=b6/\a.1<=maxLen then nx (.inr ((a.1,a.2,w (y+1))))else none else none else dn (.inl ())
abbrev mE{β:Type}(A:g8->Option bA)(x:s5)(y:Nat×(Nat->ByteArray)×Int)(nx:kI->Option β)(dn:jX->Option β):Option β:=
 U9 x λB C D E F G H I J=>U3 y λB C D=>if decide (D< (E:Int)) then if 0<=D/\D< (E:Int)then(A ((F (Int.toNat (D)),G (Int.toNat (D)),H (Int.toNat (D)),I (Int.toNat (D)),J (Int.toNat (D))))).bind λa=>if(B+a.1)*16<=b6/\B+a.1<=maxLen/\B<=B then nx (.inr ((B+a.1,λj=>if j<B then C j else a.2 (j-B),w (D+1))))else none else none else dn (.inr ((B,C)))
noncomputable def am0(A:g8->Option bA)(q:Nat)(x:s5):kI->Option jX:=lpG (Sum.elim (λy=>lW A x y (λy=>some (.inl y)) (λz=>some (.inr z))) (λy=>mE A x y (λy=>some (.inl y)) (λz=>some (.inr z)))) q
abbrev db5{β:Type}(A:g8->Option bA)(B:qJ->Option bA)(C:kI->Option jX)(x:s5)(dn:bn5->Option β):Option β:=
 if(x.1==1) then(B ((1,0,λj=>x.2.2.1))).bind λa=>dn (.inl a)else(C (.inl (0))).bind λb=>Sum.elim (λc=>dn (.inr ())) (λd=>dn (.inl d)) b
def dv3:bn5->bA:=Sum.elim (λz=>z) (λ_=>(0,λ_=>⟨#[]⟩))
theorem fq1(args:List V)(L:List (Option Z1))(z:bn5)(h:SC E5 174 args L (fc5 z)):SC E5 174 args L (ct9 (dv3 z)):=by
 rcases z with z|z
 ·exact dn0 h
 ·exact fi4 h
open Classical in
noncomputable def pX:Nat->g8->Option bA
 |0,_=>none
 |q+1,x=>if hJ (x.2.2.2.2)then(db5 (pX q) (dm5 (pX q) q (x.1,x.2.1,x.2.2.1,x.2.2.2.1,opK x.2.2.2.2,opN x.2.2.2.2,opS x.2.2.2.2,opM x.2.2.2.2,opF x.2.2.2.2)) (am0 (pX q) q (x.1,x.2.1,x.2.2.1,x.2.2.2.1,opK x.2.2.2.2,opN x.2.2.2.2,opS x.2.2.2.2,opM x.2.2.2.2,opF x.2.2.2.2)) (x.1,x.2.1,x.2.2.1,x.2.2.2.1,opK x.2.2.2.2,opN x.2.2.2.2,opS x.2.2.2.2,opM x.2.2.2.2,opF x.2.2.2.2) some).map dv3 else none
theorem ge9:∀q,Lw E5 174 eP ct9 (pX q):=by
 intro q
 induction q with
 |zero=>intro x z h;cases h
 |succ q ih=>
  intro x z h;unfold pX at h;split at h
  ·rename_i hO;obtain⟨z2,h2,rfl⟩:=Option.map_eq_some_iff.1 h;have this:=(have K:=(kc cJ ih kn);sl hW5 hX5 K (λx=>(lg (λs=>s.nx==2) 0 (ep9 x) (lp hX5 (ep4 x) 174 0 26 [(0,8)] 4 K ln q λc l β=>wN (β:=β) c.1 x) (lg (λs=>s.nx==1) 0 (cw6 x) (lp2 hX5 (cx4 x) 174 0 26 [(0,8)] 4 K ln q (λc l β=>lW (β:=β) c.1 x) λc l β=>mE (β:=β) c.1 x) ln))) λc l β=>db5 (β:=β) c.1 l.1 l.2.1:Lw E5 174 oQ fc5 _) (x.1,x.2.1,x.2.2.1,x.2.2.2.1,opK x.2.2.2.2,opN x.2.2.2.2,opS x.2.2.2.2,opM x.2.2.2.2,opF x.2.2.2.2) z2 h2;unfold oQ at this;unfold eP;simp only at this⊢;rw[cY hO]at this;exact fq1 _ _ _ this
  ·cases h
abbrev j3:Type:=ByteArray×Nat×(Nat->ByteArray)×(Nat->ByteArray)×Int×Int×ByteArray×Nat×(Nat->List V)
abbrev ct7:Type:=Unit⊕(Nat×(Nat->ByteArray))
def oT:AR j3:=λx=>([.agg [st x.1,.ro 2 x.2.1 (λj=>[st (x.2.2.1 j),st (x.p3 j)]),i64 x.p4,i64 x.p5,st x.p6,.ro 4 x.p7 x.q8]],[])
theorem at0:VI oT:=vd λt=>((vS (ca t 0 0)),(r7 (ca t 0 1)),(dTS (ca t 0 1) 0),(dTS (ca t 0 1) 1),(vI (ca t 0 2)),(vI (ca t 0 3)),(vS (ca t 0 4)),(r7 (ca t 0 5)),(aW (ca t 0 5)))
def gs9:ct7->Z3:=Sum.elim (λz:Unit=>Z3.ret (j0) []) (λz:Nat×(Nat->ByteArray)=>Z3.ret (V.sl 0 1 0 (z.1)) [some (Z1.row 9 1 (z.1) λj=>[st (z.2 j)])])
abbrev rE:Type:=(Unit)⊕(Nat×Int×(Nat->ByteArray))
abbrev qF:Type:=(Unit)⊕(Nat×(Nat->ByteArray))
def dq1(x:j3)(y:Unit):St:={fr:=[V.junk,V.ptr 0 0,V.junk,j0,i64 0]++jk 21,H:=hp [some (Z1.blk [st (x.1),V.ro 2 (x.2.1) λj=>[st (x.2.2.1 j),st (x.p3 j)],i64 (x.p4),i64 (x.p5),st (x.p6),V.ro 4 (x.p7) (x.q8)])],nx:=1,rt:=0,me:=101}
def dw9(x:j3)(y:Nat×Int×(Nat->ByteArray)):St:={fr:=[V.junk,V.ptr 0 0,V.junk,V.sl 1 1 0 (y.1),i64 (y.2.1)]++jk 21,H:=hp [some (Z1.blk [st (x.1),V.ro 2 (x.2.1) λj=>[st (x.2.2.1 j),st (x.p3 j)],i64 (x.p4),i64 (x.p5),st (x.p6),V.ro 4 (x.p7) (x.q8)]),some (Z1.row 9 1 (y.1) λj=>[st (y.2.2 j)])],nx:=2,rt:=0,me:=101}
def el0(x:j3):rE->St:=(Sum.elim (dq1 x) (dw9 x))
theorem eg1(x:j3):VL (el0 x):=vl λs=>(match s.nx==1 with|true=>(.inl (())) |false=>(.inr (((aV (fv s 3)),(vI (fv s 4)),(dRS (s.H 1) 0)))))
def ep1(x:j3):qF->Ex×St:=(Sum.elim (λz=>(Ex.exit 0,{fr:=[V.junk,V.ptr 0 0,V.junk,j0]++jk 22,H:=hp [some (Z1.blk [st (x.1),V.ro 2 (x.2.1) λj=>[st (x.2.2.1 j),st (x.p3 j)],i64 (x.p4),i64 (x.p5),st (x.p6),V.ro 4 (x.p7) (x.q8)])],nx:=1,rt:=0,me:=101})) (λz=>(Ex.exit 0,{fr:=[V.junk,V.ptr 0 0,V.junk,V.sl 1 1 0 (z.1)]++jk 22,H:=hp [some (Z1.blk [st (x.1),V.ro 2 (x.2.1) λj=>[st (x.2.2.1 j),st (x.p3 j)],i64 (x.p4),i64 (x.p5),st (x.p6),V.ro 4 (x.p7) (x.q8)]),some (Z1.row 9 1 (z.1) λj=>[st (z.2 j)])],nx:=2,rt:=0,me:=101})))
abbrev zA{β:Type}(A:g8->Option bA)(x:j3)(y:Unit)(nx:rE->Option β)(dn:qF->Option β):Option β:=
 if decide (0< (x.2.1:Int)) then if(0:Int)<=(0:Int)/\0< (x.2.1:Int)then nx (.inr ((1,1,λj=>x.2.2.1 0)))else none else dn (.inl ())
abbrev rQ{β:Type}(A:g8->Option bA)(x:j3)(y:Nat×Int×(Nat->ByteArray))(nx:rE->Option β)(dn:qF->Option β):Option β:=
 U3 y λA B C=>if decide (B< (x.2.1:Int)) then if 0<=B/\B< (x.2.1:Int)then if(A+1)*16<=b6/\A+1<=maxLen/\A<=A then nx (.inr ((A+1,w (B+1),λj=>if j<A then C j else x.2.2.1 (Int.toNat (B)))))else none else none else dn (.inr ((A,C)))
noncomputable def yZ(A:g8->Option bA)(q:Nat)(x:j3):rE->Option qF:=lpG (Sum.elim (λy=>zA A x y (λy=>some (.inl y)) (λz=>some (.inr z))) (λy=>rQ A x y (λy=>some (.inl y)) (λz=>some (.inr z)))) q
abbrev de1{β:Type}(A:g8->Option bA)(B:rE->Option qF)(x:j3)(dn:ct7->Option β):Option β:=
 (B (.inl ())).bind λa=>Sum.elim (λb=>(A (x.2.2.2.2)).bind λc=>if c.1=0 then dn (.inl ())else if c.1*16<=b6/\c.1<=maxLen then dn (.inr c)else none) (λd=>(A (x.2.2.2.2)).bind λe=>if(d.1+e.1)*16<=b6/\d.1+e.1<=maxLen/\d.1<=d.1 then dn (.inr ((d.1+e.1,λj=>if j<d.1 then d.2 j else e.2 (j-d.1))))else none) a
noncomputable def ff1(q:Nat)(x:j3):Option ct7:=de1 (pX q) (yZ (pX q) q x) x some
theorem du5(q:Nat):Lw E5 101 oT gs9 (ff1 q):=have K:=(kc cJ (ge9 q) kn);sl hW5 hX5 K (λx=>(lc 0 (eg1 x) (lp2 hX5 (ep1 x) 101 0 26 [(0,10)] 4 K ln q (λc l β=>zA (β:=β) c.1 x) λc l β=>rQ (β:=β) c.1 x) ln)) λc l β=>de1 (β:=β) c.1 l.1
end
end Go.Proofs.YtbmbhcheonjigaaGreatDoor
