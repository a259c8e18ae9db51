/- Texts joined. -/
import Derived.Test.YtbmbhcheonjigaaGreatDoorQE
import Derived.Laws.RangeAny
import Derived.Lib.Bytealg
import Derived.Lib.IndexMore
import Derived.Test.YtbmbhcheonjigaaGreatDoorQD
/- Types, lifted. -/
set_option linter.unusedSimpArgs false
set_option linter.defProp false
set_option linter.unusedVariables false
set_option maxRecDepth 100000
namespace Go.Proofs.YtbmbhcheonjigaaGreatDoor
section
open Go Go.Am Go.Proofs
def gf3:List V->Bool| .sc (.slice none 0 0)::_=>true|_=>false
abbrev cr7{β:Type}(x:ByteArray)(dn:Int->Option β):Option β:=
 if(ByteArray.toList ⟨#[124,124]⟩==ByteArray.toList x) then dn (1)else if(ByteArray.toList ⟨#[38,38]⟩==ByteArray.toList x) then dn (1)else if(ByteArray.toList ⟨#[43]⟩==ByteArray.toList x) then dn (2)else if(ByteArray.toList ⟨#[45]⟩==ByteArray.toList x) then dn (2)else if(ByteArray.toList ⟨#[42]⟩==ByteArray.toList x) then dn (3)else if(ByteArray.toList ⟨#[47]⟩==ByteArray.toList x) then dn (3)else if(ByteArray.toList ⟨#[60]⟩==ByteArray.toList x) then dn (4)else if(ByteArray.toList ⟨#[60,61]⟩==ByteArray.toList x) then dn (4)else if(ByteArray.toList ⟨#[62]⟩==ByteArray.toList x) then dn (4)else if(ByteArray.toList ⟨#[62,61]⟩==ByteArray.toList x) then dn (4)else if(ByteArray.toList ⟨#[61,61]⟩==ByteArray.toList x) then dn (4)else if(ByteArray.toList ⟨#[33,61]⟩==ByteArray.toList x) then dn (4)else dn (0)
noncomputable def kind(q:Nat)(x:ByteArray):Option Int:=cr7 x some
theorem fa2(q:Nat):Lw E5 336 j7 eL (kind q):=have K:=kn;sl hW5 hX5 K (λx=>(lu [0] hX5 K ln)) λc l β=>cr7 (β:=β)
abbrev bc8{β:Type}(A:ByteArray->Option Int)(x:g8)(dn:Int->Option β):Option β:=
 U4 x λB C D E=>if(B==16) then if(C !=0) then if(C !=1) then dn ((-1:Int))else dn (0)else dn (0)else if(B==15) then dn (0)else if(B==17) then dn (0)else if(B==18) then dn (0)else if(B==19) then if(ByteArray.toList (D)==ByteArray.toList ⟨#[33]⟩) then dn (1)else if(ByteArray.toList (D)==ByteArray.toList ⟨#[45]⟩) then dn (1)else dn ((-1:Int))else if(B==20) then(A (D)).bind λa=>if decide (a>0) then dn (2)else dn ((-1:Int))else dn ((-1:Int))
noncomputable def av4(q:Nat)(x:g8):Option Int:=bc8 (kind q) x some
theorem gt0(q:Nat):Lw E5 307 eP eL (av4 q):=so hW5 hX5 (kc l5 (fa2 q) kn) λc β=>bc8 (β:=β) c.1
abbrev jS:Type:=Int×Int×Int×Int×Int
def gr2:AR jS:=λx=>([.agg [i64 x.1,i64 x.2.1,i64 x.2.2.1,i64 x.p3,i64 x.q4]],[])
theorem he8:VI gr2:=vd λt=>((vI (ca t 0 0)),(vI (ca t 0 1)),(vI (ca t 0 2)),(vI (ca t 0 3)),(vI (ca t 0 4)))
abbrev fd5{β:Type}(x:jS)(dn:Bool->Option β):Option β:=
 U5 x λA B C D E=>if decide (A< (-8:Int)) then dn false else if decide (A>8) then dn false else if decide (B< (-8:Int)) then dn false else if decide (B>8) then dn false else if decide (C< (-8:Int)) then dn false else if decide (C>8) then dn false else if decide (D< (-8:Int)) then dn false else if decide (D>8) then dn false else if decide (E< (-8:Int)) then dn false else if decide (E>8) then dn false else dn true
noncomputable def adm(q:Nat)(x:jS):Option Bool:=fd5 x some
theorem hj7(q:Nat):Lw E5 339 gr2 qX (adm q):=have K:=kn;sl hW5 hX5 K (λx=>(lu [0] hX5 K ln)) λc l β=>fd5 (β:=β)
abbrev jQ:Type:=Int×Int×Int×Int×Int×Int
def cp5:jQ->Z3:=(λz:Int×Int×Int×Int×Int×Int=>.ret (.tup [.agg [i64 z.1,i64 z.2.1,i64 z.2.2.1,i64 z.p3,i64 z.p4],i64 z.q5]) [])
abbrev ad7{β:Type}(A:ByteArray->Option l7)(x:g8)(dn:jQ->Option β):Option β:=
 U4 x λB C D E=>if(!ByteArray.toList (D)==ByteArray.toList ⟨#[]⟩) then(A (D)).bind λa=>if(!a.2.2.2.2.2.2) then dn ((0,0,0,0,0,10))else if decide (C< 0) then dn ((0,0,0,0,0,5))else if a.2.2.2.2.2.1=0 then none else if decide (C>w (Int.tdiv 2147483647 (a.2.2.2.2.2.1))) then dn ((0,0,0,0,0,5))else dn ((a.1,a.2.1,a.2.2.1,a.2.2.2.1,a.2.2.2.2.1,0))else if decide (C< 0) then dn ((0,0,0,0,0,5))else if decide (C>2147483647) then dn ((0,0,0,0,0,5))else dn ((0,0,0,0,0,0))
noncomputable def pD(q:Nat)(x:g8):Option jQ:=ad7 (dG q) x some
theorem ek3(q:Nat):Lw E5 308 eP cp5 (pD q):=so hW5 hX5 (kc l5 (tW q) kn) λc β=>ad7 (β:=β) c.1
abbrev bm7:Type:=Int×Int×Int×Int×Int×Bool
abbrev aK:Type:=Bool×Int×Int×Int×Int×Int×Int
def fh4:AR bm7:=λx=>([.agg [i64 x.1,i64 x.2.1,i64 x.2.2.1,i64 x.p3,i64 x.p4],bo x.q5],[])
theorem gt3:VI fh4:=vd λt=>((vI (ca t 0 0)),(vI (ca t 0 1)),(vI (ca t 0 2)),(vI (ca t 0 3)),(vI (ca t 0 4)),(vB (ag t 1)))
def ah6:aK->Z3:=(λz:Bool×Int×Int×Int×Int×Int×Int=>.ret (.tup [bo z.1,.agg [i64 z.2.1,i64 z.2.2.1,i64 z.p3,i64 z.p4,i64 z.p5],i64 z.q6]) [])
abbrev aq6{β:Type}(x:bm7)(dn:aK->Option β):Option β:=
 U6 x λA B C D E F=>if(!F) then dn ((false,0,0,0,0,0,3))else dn ((false,A,B,C,D,E,0))
noncomputable def cl0(q:Nat)(x:bm7):Option aK:=aq6 x some
theorem gp3(q:Nat):Lw E5 309 fh4 ah6 (cl0 q):=so hW5 hX5 kn λc β=>aq6 (β:=β)
abbrev eO:Type:=Int×Int×Int×Int×Int×Int×Int×Int×Int×Int
def as4:AR eO:=λx=>([.agg [i64 x.1,i64 x.2.1,i64 x.2.2.1,i64 x.p3,i64 x.p4],.agg [i64 x.p5,i64 x.p6,i64 x.p7,i64 x.p8,i64 x.q9]],[])
theorem bj4:VI as4:=vd λt=>((vI (ca t 0 0)),(vI (ca t 0 1)),(vI (ca t 0 2)),(vI (ca t 0 3)),(vI (ca t 0 4)),(vI (ca t 1 0)),(vI (ca t 1 1)),(vI (ca t 1 2)),(vI (ca t 1 3)),(vI (ca t 1 4)))
def bl0:jS->Z3:=(λz:Int×Int×Int×Int×Int=>.ret (.agg [i64 z.1,i64 z.2.1,i64 z.2.2.1,i64 z.p3,i64 z.q4]) [])
abbrev ff0{β:Type}(x:eO)(dn:jS->Option β):Option β:=
 U10 x λA B C D E F G H I J=>dn ((w (A+w (1*F)),w (B+w (1*G)),w (C+w (1*H)),w (D+w (1*I)),w (E+w (1*J))))
noncomputable def ci3(q:Nat)(x:eO):Option jS:=ff0 x some
theorem ge8(q:Nat):Lw E5 337 as4 bl0 (ci3 q):=so hW5 hX5 (kb (iR hW5 hX5 20).1) λc β=>ff0 (β:=β)
abbrev gk8{β:Type}(x:eO)(dn:jS->Option β):Option β:=
 U10 x λA B C D E F G H I J=>dn ((w (A+w ((-1:Int)*F)),w (B+w ((-1:Int)*G)),w (C+w ((-1:Int)*H)),w (D+w ((-1:Int)*I)),w (E+w ((-1:Int)*J))))
noncomputable def Over(q:Nat)(x:eO):Option jS:=gk8 x some
theorem gv9(q:Nat):Lw E5 338 as4 bl0 (Over q):=so hW5 hX5 (kb (iR hW5 hX5 20).1) λc β=>gk8 (β:=β)
abbrev gI:Type:=ByteArray×Bool×Bool×Int×Int×Int×Int×Int×Int×Int×Int×Int×Int
def dw0:AR gI:=λx=>([st x.1,.agg [bo x.2.1,bo x.2.2.1],.agg [i64 x.p3,i64 x.p4,i64 x.p5,i64 x.p6,i64 x.p7,i64 x.p8,i64 x.p9,i64 x.p10,i64 x.p11,i64 x.q12]],[])
theorem gk7:VI dw0:=vd λt=>((vS (ag t 0)),(vB (ca t 1 0)),(vB (ca t 1 1)),(vI (ca t 2 0)),(vI (ca t 2 1)),(vI (ca t 2 2)),(vI (ca t 2 3)),(vI (ca t 2 4)),(vI (ca t 2 5)),(vI (ca t 2 6)),(vI (ca t 2 7)),(vI (ca t 2 8)),(vI (ca t 2 9)))
abbrev av2{β:Type}(A:ByteArray->Option Int)(B:jS->Option Bool)(C:eO->Option jS)(D:eO->Option jS)(x:gI)(dn:aK->Option β):Option β:=
 (A (x.1)).bind λa=>if(!x.2.1==(a==1)) then dn ((false,0,0,0,0,0,12))else if(!x.2.2.1==(a==1)) then dn ((false,0,0,0,0,0,12))else if(a==1) then dn ((true,0,0,0,0,0,0))else if(a==3) then(C (x.2.2.2)).bind λb=>if(ByteArray.toList (x.1)==ByteArray.toList ⟨#[47]⟩) then(D (x.2.2.2)).bind λc=>(B c).bind λd=>if(!d) then dn ((false,0,0,0,0,0,5))else dn ((false,c.1,c.2.1,c.2.2.1,c.2.2.2.1,c.2.2.2.2,0))else(B b).bind λe=>if(!e) then dn ((false,0,0,0,0,0,5))else dn ((false,b.1,b.2.1,b.2.2.1,b.2.2.2.1,b.2.2.2.2,0))else if(if true then !(x.2.2.2.1==x.2.2.2.2.2.2.2.2.1&&(x.2.2.2.2.1==x.2.2.2.2.2.2.2.2.2.1&&(x.2.2.2.2.2.1==x.2.2.2.2.2.2.2.2.2.2.1&&(x.2.2.2.2.2.2.1==x.2.2.2.2.2.2.2.2.2.2.2.1&&(x.2.2.2.2.2.2.2.1==x.2.2.2.2.2.2.2.2.2.2.2.2&&true)))))else x.2.2.2.1==x.2.2.2.2.2.2.2.2.1&&(x.2.2.2.2.1==x.2.2.2.2.2.2.2.2.2.1&&(x.2.2.2.2.2.1==x.2.2.2.2.2.2.2.2.2.2.1&&(x.2.2.2.2.2.2.1==x.2.2.2.2.2.2.2.2.2.2.2.1&&(x.2.2.2.2.2.2.2.1==x.2.2.2.2.2.2.2.2.2.2.2.2&&true))))) then dn ((false,0,0,0,0,0,10))else if(a==4) then dn ((true,0,0,0,0,0,0))else dn ((false,x.2.2.2.1,x.2.2.2.2.1,x.2.2.2.2.2.1,x.2.2.2.2.2.2.1,x.2.2.2.2.2.2.2.1,0))
noncomputable def wS(q:Nat)(x:gI):Option aK:=av2 (kind q) (adm q) (ci3 q) (Over q) x some
theorem fl8(q:Nat):Lw E5 311 dw0 ah6 (wS q):=so hW5 hX5 (kc l5 (fa2 q) (kc he8 (hj7 q) (kc bj4 (ge8 q) (kc bj4 (gv9 q) kn)))) λc β=>av2 (β:=β) c.1 c.2.1 c.2.2.1 c.2.2.2.1
abbrev aj9{β:Type}(x:ByteArray)(dn:Int->Option β):Option β:=
 if(ByteArray.toList x==ByteArray.toList ⟨#[124,124]⟩) then dn (1)else if(ByteArray.toList x==ByteArray.toList ⟨#[38,38]⟩) then dn (1)else if(ByteArray.toList x==ByteArray.toList ⟨#[43]⟩) then dn (2)else if(ByteArray.toList x==ByteArray.toList ⟨#[45]⟩) then dn (2)else if(ByteArray.toList x==ByteArray.toList ⟨#[42]⟩) then dn (3)else if(ByteArray.toList x==ByteArray.toList ⟨#[47]⟩) then dn (3)else if(ByteArray.toList x==ByteArray.toList ⟨#[60]⟩) then dn (4)else if(ByteArray.toList x==ByteArray.toList ⟨#[60,61]⟩) then dn (4)else if(ByteArray.toList x==ByteArray.toList ⟨#[62]⟩) then dn (4)else if(ByteArray.toList x==ByteArray.toList ⟨#[62,61]⟩) then dn (4)else if(ByteArray.toList x==ByteArray.toList ⟨#[61,61]⟩) then dn (4)else if(ByteArray.toList x==ByteArray.toList ⟨#[33,61]⟩) then dn (4)else dn (0)
noncomputable def aa4(q:Nat)(x:ByteArray):Option Int:=aj9 x some
theorem bg7(q:Nat):Lw E5 317 j7 eL (aa4 q):=so hW5 hX5 kn λc β=>aj9 (β:=β)
abbrev bu5{β:Type}(A:ByteArray->Option Int)(x:g8)(dn:Bool->Option β):Option β:=
 U5 x λB C D E F=>if(B==15) then dn ((E:Int)==0)else if(B==17) then dn ((E:Int)==0)else if(B==18) then dn ((E:Int)==0)else if(B==16) then if((E:Int)==0) then if(C==0) then dn true else dn (C==1)else dn false else if(B==19) then if((E:Int)==1) then if(ByteArray.toList (D)==ByteArray.toList ⟨#[33]⟩) then dn true else dn (ByteArray.toList (D)==ByteArray.toList ⟨#[45]⟩)else dn false else if(B==20) then if((E:Int)==2) then(A (D)).bind λa=>dn (decide (a>0))else dn false else dn false
noncomputable def tD(q:Nat)(x:g8):Option Bool:=bu5 (aa4 q) x some
theorem fj9(q:Nat):Lw E5 267 eP qX (tD q):=so hW5 hX5 (kc l5 (bg7 q) kn) λc β=>bu5 (β:=β) c.1
abbrev dg4{β:Type}(x:jS)(dn:Bool->Option β):Option β:=
 U5 x λA B C D E=>if decide ((if E>if D>if C>if B>A then B else A then C else if B>A then B else A then D else if C>if B>A then B else A then C else if B>A then B else A then E else if D>if C>if B>A then B else A then C else if B>A then B else A then D else if C>if B>A then B else A then C else if B>A then B else A)<=8) then dn (decide ((if E<if D<if C<if B<A then B else A then C else if B<A then B else A then D else if C<if B<A then B else A then C else if B<A then B else A then E else if D<if C<if B<A then B else A then C else if B<A then B else A then D else if C<if B<A then B else A then C else if B<A then B else A)>=(-8:Int)))else dn false
noncomputable def ge3(q:Nat)(x:jS):Option Bool:=dg4 x some
theorem gs5(q:Nat):Lw E5 322 gr2 qX (ge3 q):=so hW5 hX5 kn λc β=>dg4 (β:=β)
abbrev zS{β:Type}(A:ByteArray->Option l7)(x:g8)(dn:jQ->Option β):Option β:=
 U4 x λB C D E=>if(!ByteArray.toList (D)==ByteArray.toList ⟨#[]⟩) then(A (D)).bind λa=>if(!a.2.2.2.2.2.2) then dn ((0,0,0,0,0,10))else if decide (C< 0) then dn ((0,0,0,0,0,5))else if a.2.2.2.2.2.1=0 then none else if decide (C>w (Int.tdiv 2147483647 (a.2.2.2.2.2.1))) then dn ((0,0,0,0,0,5))else dn ((a.1,a.2.1,a.2.2.1,a.2.2.2.1,a.2.2.2.2.1,0))else if decide (C< 0) then dn ((0,0,0,0,0,5))else if decide (C>2147483647) then dn ((0,0,0,0,0,5))else dn ((0,0,0,0,0,0))
noncomputable def ah0(q:Nat)(x:g8):Option jQ:=zS (gT q) x some
theorem da6(q:Nat):Lw E5 318 eP cp5 (ah0 q):=so hW5 hX5 (kc l5 (ak1 q) kn) λc β=>zS (β:=β) c.1
abbrev bx6{β:Type}(x:eO)(dn:jS->Option β):Option β:=
 U10 x λA B C D E F G H I J=>dn ((w (A+F),w (B+G),w (C+H),w (D+I),w (E+J)))
noncomputable def db7(q:Nat)(x:eO):Option jS:=bx6 x some
theorem fy2(q:Nat):Lw E5 320 as4 bl0 (db7 q):=so hW5 hX5 (kb (iR hW5 hX5 20).1) λc β=>bx6 (β:=β)
abbrev fe3{β:Type}(x:eO)(dn:jS->Option β):Option β:=
 U10 x λA B C D E F G H I J=>dn ((w (A+w ((-1:Int)*F)),w (B+w ((-1:Int)*G)),w (C+w ((-1:Int)*H)),w (D+w ((-1:Int)*I)),w (E+w ((-1:Int)*J))))
noncomputable def go1(q:Nat)(x:eO):Option jS:=fe3 x some
theorem gh1(q:Nat):Lw E5 321 as4 bl0 (go1 q):=so hW5 hX5 (kb (iR hW5 hX5 20).1) λc β=>fe3 (β:=β)
def cn2:AR gI:=λx=>([st x.1,bo x.2.1,bo x.2.2.1,.agg [i64 x.p3,i64 x.p4,i64 x.p5,i64 x.p6,i64 x.p7],.agg [i64 x.p8,i64 x.p9,i64 x.p10,i64 x.p11,i64 x.q12]],[])
theorem fw1:VI cn2:=vd λt=>((vS (ag t 0)),(vB (ag t 1)),(vB (ag t 2)),(vI (ca t 3 0)),(vI (ca t 3 1)),(vI (ca t 3 2)),(vI (ca t 3 3)),(vI (ca t 3 4)),(vI (ca t 4 0)),(vI (ca t 4 1)),(vI (ca t 4 2)),(vI (ca t 4 3)),(vI (ca t 4 4)))
abbrev bd2{β:Type}(A:ByteArray->Option Int)(B:jS->Option Bool)(C:eO->Option jS)(D:eO->Option jS)(x:gI)(dn:aK->Option β):Option β:=
 U13 x λE F G H I J K L M N O P Q=>(A (E)).bind λa=>if(a==1) then if(!F) then dn ((false,0,0,0,0,0,12))else if(!G) then dn ((false,0,0,0,0,0,12))else if(a !=1) then if F then dn ((false,0,0,0,0,0,12))else if G then dn ((false,0,0,0,0,0,12))else if(a==1) then dn ((true,0,0,0,0,0,0))else if(a==3) then(C (x.2.2.2)).bind λb=>if(ByteArray.toList (E)==ByteArray.toList ⟨#[47]⟩) then(D (x.2.2.2)).bind λc=>(B c).bind λd=>if(!d) then dn ((false,0,0,0,0,0,5))else dn ((false,c.1,c.2.1,c.2.2.1,c.2.2.2.1,c.2.2.2.2,0))else(B b).bind λe=>if(!e) then dn ((false,0,0,0,0,0,5))else dn ((false,b.1,b.2.1,b.2.2.1,b.2.2.2.1,b.2.2.2.2,0))else if(if true then !(H==M&&(I==N&&(J==O&&(K==P&&(L==Q&&true)))))else H==M&&(I==N&&(J==O&&(K==P&&(L==Q&&true))))) then dn ((false,0,0,0,0,0,10))else if(a==4) then dn ((true,0,0,0,0,0,0))else dn ((false,H,I,J,K,L,0))else if(a==1) then dn ((true,0,0,0,0,0,0))else if(a==3) then(C (x.2.2.2)).bind λf=>if(ByteArray.toList (E)==ByteArray.toList ⟨#[47]⟩) then(D (x.2.2.2)).bind λg=>(B g).bind λh=>if(!h) then dn ((false,0,0,0,0,0,5))else dn ((false,g.1,g.2.1,g.2.2.1,g.2.2.2.1,g.2.2.2.2,0))else(B f).bind λi=>if(!i) then dn ((false,0,0,0,0,0,5))else dn ((false,f.1,f.2.1,f.2.2.1,f.2.2.2.1,f.2.2.2.2,0))else if(if true then !(H==M&&(I==N&&(J==O&&(K==P&&(L==Q&&true)))))else H==M&&(I==N&&(J==O&&(K==P&&(L==Q&&true))))) then dn ((false,0,0,0,0,0,10))else if(a==4) then dn ((true,0,0,0,0,0,0))else dn ((false,H,I,J,K,L,0))else if(a !=1) then if F then dn ((false,0,0,0,0,0,12))else if G then dn ((false,0,0,0,0,0,12))else if(a==1) then dn ((true,0,0,0,0,0,0))else if(a==3) then(C (x.2.2.2)).bind λj=>if(ByteArray.toList (E)==ByteArray.toList ⟨#[47]⟩) then(D (x.2.2.2)).bind λk=>(B k).bind λl=>if(!l) then dn ((false,0,0,0,0,0,5))else dn ((false,k.1,k.2.1,k.2.2.1,k.2.2.2.1,k.2.2.2.2,0))else(B j).bind λm=>if(!m) then dn ((false,0,0,0,0,0,5))else dn ((false,j.1,j.2.1,j.2.2.1,j.2.2.2.1,j.2.2.2.2,0))else if(if true then !(H==M&&(I==N&&(J==O&&(K==P&&(L==Q&&true)))))else H==M&&(I==N&&(J==O&&(K==P&&(L==Q&&true))))) then dn ((false,0,0,0,0,0,10))else if(a==4) then dn ((true,0,0,0,0,0,0))else dn ((false,H,I,J,K,L,0))else if(a==1) then dn ((true,0,0,0,0,0,0))else if(a==3) then(C (x.2.2.2)).bind λn=>if(ByteArray.toList (E)==ByteArray.toList ⟨#[47]⟩) then(D (x.2.2.2)).bind λo=>(B o).bind λp=>if(!p) then dn ((false,0,0,0,0,0,5))else dn ((false,o.1,o.2.1,o.2.2.1,o.2.2.2.1,o.2.2.2.2,0))else(B n).bind λq=>if(!q) then dn ((false,0,0,0,0,0,5))else dn ((false,n.1,n.2.1,n.2.2.1,n.2.2.2.1,n.2.2.2.2,0))else if(if true then !(H==M&&(I==N&&(J==O&&(K==P&&(L==Q&&true)))))else H==M&&(I==N&&(J==O&&(K==P&&(L==Q&&true))))) then dn ((false,0,0,0,0,0,10))else if(a==4) then dn ((true,0,0,0,0,0,0))else dn ((false,H,I,J,K,L,0))
noncomputable def bk8(q:Nat)(x:gI):Option aK:=bd2 (aa4 q) (ge3 q) (db7 q) (go1 q) x some
theorem ew0(q:Nat):Lw E5 269 cn2 ah6 (bk8 q):=so hW5 hX5 (kc l5 (bg7 q) (kc he8 (gs5 q) (kc bj4 (fy2 q) (kc bj4 (gh1 q) kn)))) λc β=>bd2 (β:=β) c.1 c.2.1 c.2.2.1 c.2.2.2.1
abbrev cz6{β:Type}(x:ByteArray)(dn:l7->Option β):Option β:=
 if(ByteArray.toList x==ByteArray.toList ⟨#[98,97,116,116,101,114,121]⟩) then dn ((0,1,0,0,0,0,true))else if(ByteArray.toList x==ByteArray.toList ⟨#[104,101,97,116]⟩) then dn ((1,0,0,0,0,1,true))else if(ByteArray.toList x==ByteArray.toList ⟨#[97,110,103,108,101]⟩) then dn ((2,0,0,0,1,0,true))else if(ByteArray.toList x==ByteArray.toList ⟨#[110,111,119]⟩) then dn ((3,0,0,1,0,0,true))else if(ByteArray.toList x==ByteArray.toList ⟨#[109,111,100,101]⟩) then dn ((4,0,0,0,0,0,true))else if(ByteArray.toList x==ByteArray.toList ⟨#[102,114,101,101]⟩) then dn ((5,0,1,0,0,0,true))else dn ((0,0,0,0,0,0,false))
noncomputable def fe7(q:Nat)(x:ByteArray):Option l7:=cz6 x some
theorem gf9(q:Nat):Lw E5 319 j7 gd5 (fe7 q):=so hW5 hX5 kn λc β=>cz6 (β:=β)
abbrev pY:Type:=Nat×(Nat->ByteArray)×(Nat->Int)×(Nat->Int)×(Nat->Int)×(Nat->Int)×(Nat->Int)×ByteArray
def gq0:AR pY:=λx=>([.ro 6 x.1 (λj=>[st (x.2.1 j),i64 (x.2.2.1 j),i64 (x.p3 j),i64 (x.p4 j),i64 (x.p5 j),i64 (x.p6 j)]),st x.q7],[])
theorem et1:VI gq0:=vd λt=>((r7 (ag t 0)),(dTS (ag t 0) 0),(dTI (ag t 0) 1),(dTI (ag t 0) 2),(dTI (ag t 0) 3),(dTI (ag t 0) 4),(dTI (ag t 0) 5),(vS (ag t 1)))
def fk9(x:pY)(y:Int):St:={fr:=[V.ro 6 (x.1) λj=>[st (x.2.1 j),i64 (x.2.2.1 j),i64 (x.p3 j),i64 (x.p4 j),i64 (x.p5 j),i64 (x.p6 j)],st (x.q7),V.junk,V.junk,V.junk,i64 y]++jk 14,H:=hp [],nx:=0,rt:=0,me:=187}
theorem fx0(x:pY):VL (fk9 x):=vl λs=>(vI (fv s 5))
def fn0(x:pY):j4->Ex×St:=(Sum.elim (λz=>(Ex.ret,{fr:=jk 4++[i64 z]++jk 15,H:=hp [],nx:=0,rt:=0,me:=187})) (λz=>(Ex.exit 0,{fr:=[V.junk]++jk 19,H:=hp [],nx:=0,rt:=0,me:=187})))
abbrev af6{β:Type}(x:pY)(y:Int)(nx:Int->Option β)(dn:j4->Option β):Option β:=
 if decide (y< (x.1:Int)) then if 0<=y/\y< (x.1:Int)then if(ByteArray.toList (x.2.1 (Int.toNat y))==ByteArray.toList (x.2.2.2.2.2.2.2)) then dn (.inl y)else nx (w (y+1))else none else dn (.inr ())
noncomputable def fi6(q:Nat)(x:pY):Int->Option j4:=lpG (λy=>af6 x y (λy=>some (.inl y)) (λz=>some (.inr z))) q
abbrev ez3{β:Type}(A:Int->Option j4)(x:pY)(dn:Int->Option β):Option β:=
 (A (0)).bind λa=>Sum.elim (λb=>dn b) (λc=>dn ((-1:Int))) a
noncomputable def fx8(q:Nat)(x:pY):Option Int:=ez3 (fi6 q x) x some
theorem di5(q:Nat):Lw E5 187 gq0 eL (fx8 q):=have K:=kn;sl hW5 hX5 K (λx=>(lc 0 (fx0 x) (lp hX5 (fn0 x) 187 0 35 [(0,0)] 16 K ln q λc l β=>af6 (β:=β) x) ln)) λc l β=>ez3 (β:=β) l.1
def em0(x:ByteArray)(y:Unit):St:={fr:=[j0,st x,V.junk,V.junk,V.junk,i64 0]++jk 14,H:=hp [],nx:=0,rt:=0,me:=187}
theorem ez4(x:ByteArray):VL (em0 x):=vl λs=>()
def es3(x:ByteArray):Unit->Ex×St:=(λz=>(Ex.exit 0,{fr:=[V.junk]++jk 19,H:=hp [],nx:=0,rt:=0,me:=187}))
abbrev ak5{β:Type}(x:ByteArray)(y:Unit)(nx:Unit->Option β)(dn:Unit->Option β):Option β:=
 dn ()
noncomputable def gp6(q:Nat)(x:ByteArray):Unit->Option Unit:=lpG (λy=>ak5 x y (λy=>some (.inl y)) (λz=>some (.inr z))) q
abbrev cx0{β:Type}(A:Unit->Option Unit)(x:ByteArray)(dn:Int->Option β):Option β:=
 (A ()).bind λa=>dn ((-1:Int))
noncomputable def ga3(q:Nat)(x:ByteArray):Option Int:=cx0 (gp6 q x) x some
theorem gc4(q:Nat):Lw E5 187 bv3 eL (ga3 q):=have K:=kn;sl hW5 hX5 K (λx=>(lc 0 (ez4 x) (lp hX5 (es3 x) 187 0 35 [(0,0)] 16 K ln q λc l β=>ak5 (β:=β) x) ln)) λc l β=>cx0 (β:=β) l.1
abbrev tS:Type:=Int×Int×ByteArray×Nat×(Nat->List V)×Nat×(ByteArray->Bool)×(ByteArray->Int)×(ByteArray->Int)×(ByteArray->Int)×(ByteArray->Int)×(ByteArray->Int)
abbrev em4:Type:=Bool×Int×Int×Int×Int×Int×Int×Nat×(ByteArray->Bool)×(ByteArray->Int)×(ByteArray->Int)×(ByteArray->Int)×(ByteArray->Int)×(ByteArray->Int)
def hm9:AR tS:=λx=>([.agg [i64 x.1,i64 x.2.1,st x.2.2.1,.ro 4 x.p3 x.p4],.mp 0],[some (.smap x.p5 x.p6 (λj=>.agg [i64 (x.p7 j),i64 (x.p8 j),i64 (x.p9 j),i64 (x.p10 j),i64 (x.q11 j)]))])
theorem gv6:VI hm9:=vd λt=>((vI (ca t 0 0)),(vI (ca t 0 1)),(vS (ca t 0 2)),(r7 (ca t 0 3)),(aW (ca t 0 3)),(smN (co t 0)),(smH (co t 0)),(dMI (co t 0) 0),(dMI (co t 0) 1),(dMI (co t 0) 2),(dMI (co t 0) 3),(dMI (co t 0) 4))
def ht4:em4->Z3:=(λz:Bool×Int×Int×Int×Int×Int×Int×Nat×(ByteArray->Bool)×(ByteArray->Int)×(ByteArray->Int)×(ByteArray->Int)×(ByteArray->Int)×(ByteArray->Int)=>.ret (.tup [bo z.1,.agg [i64 z.2.1,i64 z.2.2.1,i64 z.p3,i64 z.p4,i64 z.p5],i64 z.p6]) [some (.smap z.p7 z.p8 (λj=>.agg [i64 (z.p9 j),i64 (z.p10 j),i64 (z.p11 j),i64 (z.p12 j),i64 (z.q13 j)]))])
abbrev ca8:Type:=Int×Int×ByteArray×Nat×(Nat->Int)×(Nat->Int)×(Nat->ByteArray)×(Nat->Nat)×(Nat->Nat->List V)×Nat×(ByteArray->Bool)×(ByteArray->Int)×(ByteArray->Int)×(ByteArray->Int)×(ByteArray->Int)×(ByteArray->Int)
def hf5:AR ca8:=λx=>([.agg [i64 x.1,i64 x.2.1,st x.2.2.1,.ro 4 x.p3 (λj=>[i64 (x.p4 j),i64 (x.p5 j),st (x.p6 j),.ro 4 (x.p7 j) (x.p8 j)])],.mp 0],[some (.smap x.p9 x.p10 (λj=>.agg [i64 (x.p11 j),i64 (x.p12 j),i64 (x.p13 j),i64 (x.p14 j),i64 (x.q15 j)]))])
abbrev ai4{β:Type}(A:g8->Option Int)(B:tS->Option em4)(C:g8->Option jQ)(D:bm7->Option aK)(E:ByteArray->Option l7)(F:gI->Option aK)(x:ca8)(dn:em4->Option β):Option β:=
 U16 x λG H I J K L M N O P Q R S T U W=>(A ((G,H,I,J,λj=>[i64 (K j),i64 (L j),st (M j),V.ro 4 (N j) (O j)]))).bind λa=>if(a !=(J:Int)) then dn ((false,0,0,0,0,0,7,x.2.2.2.2.2.2.2.2.2))else if decide (0< (J:Int)) then if(0:Int)<=(0:Int)/\0< (J:Int)then(B ((K 0,L 0,M 0,N 0,O 0,x.2.2.2.2.2.2.2.2.2))).bind λb=>if(b.2.2.2.2.2.2.1 !=0) then dn ((false,0,0,0,0,0,b.2.2.2.2.2.2))else if decide (1< (J:Int)) then if(0:Int)<=(1:Int)/\1< (J:Int)then(B ((K 1,L 1,M 1,N 1,O 1,b.2.2.2.2.2.2.2))).bind λc=>if(c.2.2.2.2.2.2.1 !=0) then dn ((false,0,0,0,0,0,c.2.2.2.2.2.2))else if decide (2< (J:Int)) then if(0:Int)<=(2:Int)/\2< (J:Int)then(B ((K 2,L 2,M 2,N 2,O 2,c.2.2.2.2.2.2.2))).bind λd=>none else none else if(G==15) then(C ((G,H,I,J,λj=>[i64 (K j),i64 (L j),st (M j),V.ro 4 (N j) (O j)]))).bind λe=>dn ((false,e.1,e.2.1,e.2.2.1,e.2.2.2.1,e.2.2.2.2.1,e.2.2.2.2.2,c.2.2.2.2.2.2.2))else if(G==16) then dn ((true,0,0,0,0,0,0,c.2.2.2.2.2.2.2))else if(G==17) then(D ((if c.2.2.2.2.2.2.2.2.1 (I) then c.2.2.2.2.2.2.2.2.2.1 (I)else 0,if c.2.2.2.2.2.2.2.2.1 (I) then c.2.2.2.2.2.2.2.2.2.2.1 (I)else 0,if c.2.2.2.2.2.2.2.2.1 (I) then c.2.2.2.2.2.2.2.2.2.2.2.1 (I)else 0,if c.2.2.2.2.2.2.2.2.1 (I) then c.2.2.2.2.2.2.2.2.2.2.2.2.1 (I)else 0,if c.2.2.2.2.2.2.2.2.1 (I) then c.2.2.2.2.2.2.2.2.2.2.2.2.2 (I)else 0,c.2.2.2.2.2.2.2.2.1 (I)))).bind λf=>dn ((f.1,f.2.1,f.2.2.1,f.2.2.2.1,f.2.2.2.2.1,f.2.2.2.2.2.1,f.2.2.2.2.2.2,c.2.2.2.2.2.2.2))else if(G==18) then(E (I)).bind λg=>(D (g.2)).bind λh=>dn ((h.1,h.2.1,h.2.2.1,h.2.2.2.1,h.2.2.2.2.1,h.2.2.2.2.2.1,h.2.2.2.2.2.2,c.2.2.2.2.2.2.2))else if(G==19) then if(!b.1==(ByteArray.toList (I)==ByteArray.toList ⟨#[33]⟩)) then dn ((false,0,0,0,0,0,12,c.2.2.2.2.2.2.2))else dn ((b.1,b.2.1,b.2.2.1,b.2.2.2.1,b.2.2.2.2.1,b.2.2.2.2.2.1,0,c.2.2.2.2.2.2.2))else(F ((I,b.1,c.1,b.2.1,b.2.2.1,b.2.2.2.1,b.2.2.2.2.1,b.2.2.2.2.2.1,c.2.1,c.2.2.1,c.2.2.2.1,c.2.2.2.2.1,c.2.2.2.2.2.1))).bind λi=>dn ((i.1,i.2.1,i.2.2.1,i.2.2.2.1,i.2.2.2.2.1,i.2.2.2.2.2.1,i.2.2.2.2.2.2,c.2.2.2.2.2.2.2))else none else if(G==15) then(C ((G,H,I,J,λj=>[i64 (K j),i64 (L j),st (M j),V.ro 4 (N j) (O j)]))).bind λk=>dn ((false,k.1,k.2.1,k.2.2.1,k.2.2.2.1,k.2.2.2.2.1,k.2.2.2.2.2,b.2.2.2.2.2.2.2))else if(G==16) then dn ((true,0,0,0,0,0,0,b.2.2.2.2.2.2.2))else if(G==17) then(D ((if b.2.2.2.2.2.2.2.2.1 (I) then b.2.2.2.2.2.2.2.2.2.1 (I)else 0,if b.2.2.2.2.2.2.2.2.1 (I) then b.2.2.2.2.2.2.2.2.2.2.1 (I)else 0,if b.2.2.2.2.2.2.2.2.1 (I) then b.2.2.2.2.2.2.2.2.2.2.2.1 (I)else 0,if b.2.2.2.2.2.2.2.2.1 (I) then b.2.2.2.2.2.2.2.2.2.2.2.2.1 (I)else 0,if b.2.2.2.2.2.2.2.2.1 (I) then b.2.2.2.2.2.2.2.2.2.2.2.2.2 (I)else 0,b.2.2.2.2.2.2.2.2.1 (I)))).bind λl=>dn ((l.1,l.2.1,l.2.2.1,l.2.2.2.1,l.2.2.2.2.1,l.2.2.2.2.2.1,l.2.2.2.2.2.2,b.2.2.2.2.2.2.2))else if(G==18) then(E (I)).bind λm=>(D (m.2)).bind λn=>dn ((n.1,n.2.1,n.2.2.1,n.2.2.2.1,n.2.2.2.2.1,n.2.2.2.2.2.1,n.2.2.2.2.2.2,b.2.2.2.2.2.2.2))else if(G==19) then if(!b.1==(ByteArray.toList (I)==ByteArray.toList ⟨#[33]⟩)) then dn ((false,0,0,0,0,0,12,b.2.2.2.2.2.2.2))else dn ((b.1,b.2.1,b.2.2.1,b.2.2.2.1,b.2.2.2.2.1,b.2.2.2.2.2.1,0,b.2.2.2.2.2.2.2))else(F ((I,b.1,false,b.2.1,b.2.2.1,b.2.2.2.1,b.2.2.2.2.1,b.2.2.2.2.2.1,0,0,0,0,0))).bind λo=>dn ((o.1,o.2.1,o.2.2.1,o.2.2.2.1,o.2.2.2.2.1,o.2.2.2.2.2.1,o.2.2.2.2.2.2,b.2.2.2.2.2.2.2))else none else if(G==15) then(C ((G,H,I,J,λj=>[i64 (K j),i64 (L j),st (M j),V.ro 4 (N j) (O j)]))).bind λp=>dn ((false,p.1,p.2.1,p.2.2.1,p.2.2.2.1,p.2.2.2.2.1,p.2.2.2.2.2,x.2.2.2.2.2.2.2.2.2))else if(G==16) then dn ((true,0,0,0,0,0,0,x.2.2.2.2.2.2.2.2.2))else if(G==17) then(D ((if Q (I) then R (I)else 0,if Q (I) then S (I)else 0,if Q (I) then T (I)else 0,if Q (I) then U (I)else 0,if Q (I) then W (I)else 0,Q (I)))).bind λq=>dn ((q.1,q.2.1,q.2.2.1,q.2.2.2.1,q.2.2.2.2.1,q.2.2.2.2.2.1,q.2.2.2.2.2.2,x.2.2.2.2.2.2.2.2.2))else if(G==18) then(E (I)).bind λr=>(D (r.2)).bind λs=>dn ((s.1,s.2.1,s.2.2.1,s.2.2.2.1,s.2.2.2.2.1,s.2.2.2.2.2.1,s.2.2.2.2.2.2,x.2.2.2.2.2.2.2.2.2))else if(G==19) then if(!false==(ByteArray.toList (I)==ByteArray.toList ⟨#[33]⟩)) then dn ((false,0,0,0,0,0,12,x.2.2.2.2.2.2.2.2.2))else dn ((false,0,0,0,0,0,0,x.2.2.2.2.2.2.2.2.2))else(F ((I,false,false,0,0,0,0,0,0,0,0,0,0))).bind λt=>dn ((t.1,t.2.1,t.2.2.1,t.2.2.2.1,t.2.2.2.2.1,t.2.2.2.2.2.1,t.2.2.2.2.2.2,x.2.2.2.2.2.2.2.2.2))
open Classical in
noncomputable def Of:Nat->tS->Option em4
 |0,_=>none
 |q+1,x=>if hJ (x.2.2.2.2.1)then ai4 (av4 q) (Of q) (pD q) (cl0 q) (cf4 q) (wS q) (x.1,x.2.1,x.2.2.1,x.2.2.2.1,opK x.2.2.2.2.1,opN x.2.2.2.2.1,opS x.2.2.2.2.1,opM x.2.2.2.2.1,opF x.2.2.2.2.1,x.2.2.2.2.2.1,x.2.2.2.2.2.2.1,x.2.2.2.2.2.2.2.1,x.2.2.2.2.2.2.2.2.1,x.2.2.2.2.2.2.2.2.2.1,x.2.2.2.2.2.2.2.2.2.2.1,x.2.2.2.2.2.2.2.2.2.2.2) some else none
theorem gc8:∀q,Lw E5 240 hm9 ht4 (Of q):=by
 intro q
 induction q with
 |zero=>intro x z h;cases h
 |succ q ih=>
  intro x z h;unfold Of at h;split at h
  ·rename_i hO;have this:=(have K:=(kc cJ (gt0 q) (kc gv6 ih (kc cJ (ek3 q) (kc gt3 (gp3 q) (kc l5 (fb9 q) (kc gk7 (fl8 q) kn))))));sl hW5 hX5 K (λx=>(lu [0] hX5 K ln)) λc l β=>ai4 (β:=β) c.1 c.2.1 c.2.2.1 c.2.2.2.1 c.2.2.2.2.1 c.2.2.2.2.2.1:Lw E5 240 hf5 ht4 _) (x.1,x.2.1,x.2.2.1,x.2.2.2.1,opK x.2.2.2.2.1,opN x.2.2.2.2.1,opS x.2.2.2.2.1,opM x.2.2.2.2.1,opF x.2.2.2.2.1,x.2.2.2.2.2.1,x.2.2.2.2.2.2.1,x.2.2.2.2.2.2.2.1,x.2.2.2.2.2.2.2.2.1,x.2.2.2.2.2.2.2.2.2.1,x.2.2.2.2.2.2.2.2.2.2.1,x.2.2.2.2.2.2.2.2.2.2.2) z h;unfold hf5 at this;unfold hm9;simp only at this⊢;rw[cY hO]at this;exact this
  ·cases h
abbrev bP:Type:=Int×Int×ByteArray×Nat×(Nat->List V)×Nat×(Nat->ByteArray)×(Nat->Int)×(Nat->Int)×(Nat->Int)×(Nat->Int)×(Nat->Int)
def rY:AR bP:=λx=>([.agg [i64 x.1,i64 x.2.1,st x.2.2.1,.ro 4 x.p3 x.p4],.ro 6 x.p5 (λj=>[st (x.p6 j),i64 (x.p7 j),i64 (x.p8 j),i64 (x.p9 j),i64 (x.p10 j),i64 (x.q11 j)])],[])
theorem sQ:VI rY:=vd λt=>((vI (ca t 0 0)),(vI (ca t 0 1)),(vS (ca t 0 2)),(r7 (ca t 0 3)),(aW (ca t 0 3)),(r7 (ag t 1)),(dTS (ag t 1) 0),(dTI (ag t 1) 1),(dTI (ag t 1) 2),(dTI (ag t 1) 3),(dTI (ag t 1) 4),(dTI (ag t 1) 5))
abbrev ae3{β:Type}(A:g8->Option jQ)(B:pY->Option Int)(C:ByteArray->Option l7)(x:bP)(dn:aK->Option β):Option β:=
 if(x.1==15) then(A ((x.1,x.2.1,x.2.2.1,x.2.2.2.1,x.2.2.2.2.1))).bind λa=>dn ((false,a))else if(x.1==16) then dn ((true,0,0,0,0,0,0))else if(x.1==17) then(B ((x.2.2.2.2.2.1,x.2.2.2.2.2.2.1,x.2.2.2.2.2.2.2.1,x.2.2.2.2.2.2.2.2.1,x.2.2.2.2.2.2.2.2.2.1,x.2.2.2.2.2.2.2.2.2.2.1,x.2.2.2.2.2.2.2.2.2.2.2,x.2.2.1))).bind λb=>if decide (b< 0) then dn ((false,0,0,0,0,0,3))else if 0<=b/\b< (x.2.2.2.2.2.1:Int)then dn ((false,x.2.2.2.2.2.2.2.1 (Int.toNat b),x.2.2.2.2.2.2.2.2.1 (Int.toNat b),x.2.2.2.2.2.2.2.2.2.1 (Int.toNat b),x.2.2.2.2.2.2.2.2.2.2.1 (Int.toNat b),x.2.2.2.2.2.2.2.2.2.2.2 (Int.toNat b),0))else none else(C (x.2.2.1)).bind λc=>if(!c.2.2.2.2.2.2) then dn ((false,0,0,0,0,0,3))else dn ((false,c.2.1,c.2.2.1,c.2.2.2.1,c.2.2.2.2.1,c.2.2.2.2.2.1,0))
noncomputable def cq0(q:Nat)(x:bP):Option aK:=ae3 (ah0 q) (fx8 q) (fe7 q) x some
theorem gp4(q:Nat):Lw E5 268 rY ah6 (cq0 q):=so hW5 hX5 (kc cJ (da6 q) (kc et1 (di5 q) (kc l5 (gf9 q) kn))) λc β=>ae3 (β:=β) c.1 c.2.1 c.2.2.1
abbrev bc9:Type:=Int×Int×ByteArray×Nat×(Nat->Int)×(Nat->Int)×(Nat->ByteArray)×(Nat->Nat)×(Nat->Nat->List V)×Nat×(Nat->ByteArray)×(Nat->Int)×(Nat->Int)×(Nat->Int)×(Nat->Int)×(Nat->Int)
def az8:AR bc9:=λx=>([.agg [i64 x.1,i64 x.2.1,st x.2.2.1,.ro 4 x.p3 (λj=>[i64 (x.p4 j),i64 (x.p5 j),st (x.p6 j),.ro 4 (x.p7 j) (x.p8 j)])],.ro 6 x.p9 (λj=>[st (x.p10 j),i64 (x.p11 j),i64 (x.p12 j),i64 (x.p13 j),i64 (x.p14 j),i64 (x.q15 j)])],[])
theorem hm4:VI az8:=vd λt=>((vI (ca t 0 0)),(vI (ca t 0 1)),(vS (ca t 0 2)),(r7 (ca t 0 3)),(dTI (ca t 0 3) 0),(dTI (ca t 0 3) 1),(dTS (ca t 0 3) 2),(dTN (ca t 0 3) 3),(dTF (ca t 0 3) 3),(r7 (ag t 1)),(dTS (ag t 1) 0),(dTI (ag t 1) 1),(dTI (ag t 1) 2),(dTI (ag t 1) 3),(dTI (ag t 1) 4),(dTI (ag t 1) 5))
abbrev be0{β:Type}(A:g8->Option Bool)(B:bP->Option aK)(C:bP->Option aK)(D:gI->Option aK)(x:bc9)(dn:aK->Option β):Option β:=
 U10 x λE F G H I J K L M N=>(A ((E,F,G,H,λj=>[i64 (I j),i64 (J j),st (K j),V.ro 4 (L j) (M j)]))).bind λa=>if(!a) then dn ((false,0,0,0,0,0,7))else if((H:Int)==0) then(B ((E,F,G,H,λj=>[i64 (I j),i64 (J j),st (K j),V.ro 4 (L j) (M j)],N))).bind λb=>dn b else if(0:Int)<=(0:Int)/\0< (H:Int)then(C ((I 0,J 0,K 0,L 0,M 0,N))).bind λc=>if(c.2.2.2.2.2.2 !=0) then dn ((false,0,0,0,0,0,c.2.2.2.2.2.2))else if(E==19) then if(!c.1==(ByteArray.toList (G)==ByteArray.toList ⟨#[33]⟩)) then dn ((false,0,0,0,0,0,12))else dn ((c.1,c.2.1,c.2.2.1,c.2.2.2.1,c.2.2.2.2.1,c.2.2.2.2.2.1,0))else if(0:Int)<=(1:Int)/\1< (H:Int)then(C ((I 1,J 1,K 1,L 1,M 1,N))).bind λd=>if(d.2.2.2.2.2.2 !=0) then dn ((false,0,0,0,0,0,d.2.2.2.2.2.2))else(D ((G,c.1,d.1,c.2.1,c.2.2.1,c.2.2.2.1,c.2.2.2.2.1,c.2.2.2.2.2.1,d.2.1,d.2.2.1,d.2.2.2.1,d.2.2.2.2.1,d.2.2.2.2.2.1))).bind λe=>dn e else none else none
open Classical in
noncomputable def ROf:Nat->bP->Option aK
 |0,_=>none
 |q+1,x=>if hJ (x.2.2.2.2.1)then be0 (tD q) (cq0 q) (ROf q) (bk8 q) (x.1,x.2.1,x.2.2.1,x.2.2.2.1,opK x.2.2.2.2.1,opN x.2.2.2.2.1,opS x.2.2.2.2.1,opM x.2.2.2.2.1,opF x.2.2.2.2.1,x.2.2.2.2.2.1,x.2.2.2.2.2.2.1,x.2.2.2.2.2.2.2.1,x.2.2.2.2.2.2.2.2.1,x.2.2.2.2.2.2.2.2.2.1,x.2.2.2.2.2.2.2.2.2.2.1,x.2.2.2.2.2.2.2.2.2.2.2) some else none
theorem et0:∀q,Lw E5 189 rY ah6 (ROf q):=by
 intro q
 induction q with
 |zero=>intro x z h;cases h
 |succ q ih=>
  intro x z h;unfold ROf at h;split at h
  ·rename_i hO;have this:=(so hW5 hX5 (kc cJ (fj9 q) (kc sQ (gp4 q) (kc sQ ih (kc fw1 (ew0 q) kn)))) λc β=>be0 (β:=β) c.1 c.2.1 c.2.2.1 c.2.2.2.1:Lw E5 189 az8 ah6 _) (x.1,x.2.1,x.2.2.1,x.2.2.2.1,opK x.2.2.2.2.1,opN x.2.2.2.2.1,opS x.2.2.2.2.1,opM x.2.2.2.2.1,opF x.2.2.2.2.1,x.2.2.2.2.2.1,x.2.2.2.2.2.2.1,x.2.2.2.2.2.2.2.1,x.2.2.2.2.2.2.2.2.1,x.2.2.2.2.2.2.2.2.2.1,x.2.2.2.2.2.2.2.2.2.2.1,x.2.2.2.2.2.2.2.2.2.2.2) z h;unfold az8 at this;unfold rY;simp only at this⊢;rw[cY hO]at this;exact this
  ·cases h
abbrev iZ:Type:=ByteArray×Int×Int×Int×Int×Int×Nat×(ByteArray->Bool)×(ByteArray->Int)×(ByteArray->Int)×(ByteArray->Int)×(ByteArray->Int)×(ByteArray->Int)
abbrev f6:Type:=Int×Nat×(ByteArray->Bool)×(ByteArray->Int)×(ByteArray->Int)×(ByteArray->Int)×(ByteArray->Int)×(ByteArray->Int)
def cc1:AR iZ:=λx=>([.ptr 0 0,st x.1,.agg [i64 x.2.1,i64 x.2.2.1,i64 x.p3,i64 x.p4,i64 x.p5]],[some (.blk [.mp 1]),some (.smap x.p6 x.p7 (λj=>.agg [i64 (x.p8 j),i64 (x.p9 j),i64 (x.p10 j),i64 (x.p11 j),i64 (x.q12 j)]))])
theorem by2:VI cc1:=vd λt=>((vS (ag t 1)),(vI (ca t 2 0)),(vI (ca t 2 1)),(vI (ca t 2 2)),(vI (ca t 2 3)),(vI (ca t 2 4)),(smN (co t 1)),(smH (co t 1)),(dMI (co t 1) 0),(dMI (co t 1) 1),(dMI (co t 1) 2),(dMI (co t 1) 3),(dMI (co t 1) 4))
def eR:f6->Z3:=(λz:Int×Nat×(ByteArray->Bool)×(ByteArray->Int)×(ByteArray->Int)×(ByteArray->Int)×(ByteArray->Int)×(ByteArray->Int)=>.ret (i64 z.1) [some (.blk [.mp 1]),some (.smap z.2.1 z.2.2.1 (λj=>.agg [i64 (z.p3 j),i64 (z.p4 j),i64 (z.p5 j),i64 (z.p6 j),i64 (z.q7 j)]))])
abbrev al9{β:Type}(x:iZ)(dn:f6->Option β):Option β:=
 U13 x λA B C D E F G H I J K L M=>if H (A) then dn ((4,x.2.2.2.2.2.2))else if decide ((G:Int)>=12) then dn ((2,x.2.2.2.2.2.2))else dn ((0,if H (A) then G else G+1,λ(q:ByteArray)=>q==A||H q,λ(j:ByteArray)=>if(j==A) then B else I j,λ(j:ByteArray)=>if(j==A) then C else J j,λ(j:ByteArray)=>if(j==A) then D else K j,λ(j:ByteArray)=>if(j==A) then E else L j,λ(j:ByteArray)=>if(j==A) then F else M j))
noncomputable def iJ(q:Nat)(x:iZ):Option f6:=al9 x some
theorem bh5(q:Nat):Lw E5 96 cc1 eR (iJ q):=so hW5 hX5 kn λc β=>al9 (β:=β)
abbrev db4{β:Type}(x:s5)(dn:Bool->Option β):Option β:=
 U6 x λA B C D E F=>if(A==14) then dn true else if(A==1) then dn ((D:Int)==1)else if(A==2) then dn ((D:Int)==1)else if(A==7) then dn ((D:Int)==1)else if(A==8) then dn ((D:Int)==1)else if(A==5) then if((D:Int)==1) then if(0:Int)<=(0:Int)/\0< (D:Int)then dn (E 0==(15:Int))else none else dn false else if(A==11) then if((D:Int)==1) then if(0:Int)<=(0:Int)/\0< (D:Int)then dn (E 0==(15:Int))else none else dn false else if(A==9) then if((D:Int)==1) then if(0:Int)<=(0:Int)/\0< (D:Int)then dn (E 0==(15:Int))else none else dn false else if(A==10) then if((D:Int)==1) then if(0:Int)<=(0:Int)/\0< (D:Int)then dn (E 0==(15:Int))else none else dn false else if(A==6) then if((D:Int)==2) then if(0:Int)<=(1:Int)/\1< (D:Int)then dn (E 1==(15:Int))else none else dn false else if(A==3) then if((D:Int)==3) then if(0:Int)<=(1:Int)/\1< (D:Int)then if(E 1==(14:Int)) then if(0:Int)<=(2:Int)/\2< (D:Int)then dn (E 2==(14:Int))else none else dn false else none else dn false else if(A==4) then if((D:Int)==1) then if(0:Int)<=(0:Int)/\0< (D:Int)then dn (E 0==(14:Int))else none else dn false else if(A==12) then dn ((D:Int)==0)else if(A==13) then dn ((D:Int)==0)else dn false
noncomputable def fg8(q:Nat)(x:s5):Option Bool:=db4 x some
theorem gr6(q:Nat):Lw E5 167 oQ qX (fg8 q):=so hW5 hX5 (kb (iR hW5 hX5 20).1) λc β=>db4 (β:=β)
abbrev aw6{β:Type}(x:g8)(dn:Bool->Option β):Option β:=
 if(x.1==4) then if decide (x.2.1>=1) then dn (decide (x.2.1<=100))else dn false else if(x.1==9) then if decide (x.2.1>=0) then dn (decide (x.2.1<=7))else dn false else if(x.1==10) then if decide (x.2.1>=0) then dn (decide (x.2.1<=7))else dn false else if(x.1==12) then if decide (x.2.1>=0) then dn (decide (x.2.1<=99))else dn false else if(x.1==13) then if decide (x.2.1>=0) then dn (decide (x.2.1<=999))else dn false else dn true
noncomputable def bl2(q:Nat)(x:g8):Option Bool:=aw6 x some
theorem eh9(q:Nat):Lw E5 168 eP qX (bl2 q):=so hW5 hX5 kn λc β=>aw6 (β:=β)
def br3:AR tS:=λx=>([.ptr 0 0,.agg [i64 x.1,i64 x.2.1,st x.2.2.1,.ro 4 x.p3 x.p4]],[some (.blk [.mp 1]),some (.smap x.p5 x.p6 (λj=>.agg [i64 (x.p7 j),i64 (x.p8 j),i64 (x.p9 j),i64 (x.p10 j),i64 (x.q11 j)]))])
theorem ei1:VI br3:=vd λt=>((vI (ca t 1 0)),(vI (ca t 1 1)),(vS (ca t 1 2)),(r7 (ca t 1 3)),(aW (ca t 1 3)),(smN (co t 1)),(smH (co t 1)),(dMI (co t 1) 0),(dMI (co t 1) 1),(dMI (co t 1) 2),(dMI (co t 1) 3),(dMI (co t 1) 4))
abbrev el8{β:Type}(A:tS->Option em4)(x:tS)(dn:f6->Option β):Option β:=
 (A x).bind λa=>if(a.2.2.2.2.2.2.1==0) then if(!a.1) then dn ((12,a.2.2.2.2.2.2.2))else dn (a.2.2.2.2.2.2)else dn (a.2.2.2.2.2.2)
noncomputable def cond(q:Nat)(x:tS):Option f6:=el8 (Of q) x some
theorem gy3(q:Nat):Lw E5 170 br3 eR (cond q):=so hW5 hX5 (kc gv6 (gc8 q) kn) λc β=>el8 (β:=β) c.1
abbrev bn6:Type:=Int×Int×ByteArray×Nat×(Nat->List V)×Int×Int×Int×Int×Int×Nat×(ByteArray->Bool)×(ByteArray->Int)×(ByteArray->Int)×(ByteArray->Int)×(ByteArray->Int)×(ByteArray->Int)
def fe5:AR bn6:=λx=>([.ptr 0 0,.agg [i64 x.1,i64 x.2.1,st x.2.2.1,.ro 4 x.p3 x.p4],.agg [i64 x.p5,i64 x.p6,i64 x.p7,i64 x.p8,i64 x.p9]],[some (.blk [.mp 1]),some (.smap x.p10 x.p11 (λj=>.agg [i64 (x.p12 j),i64 (x.p13 j),i64 (x.p14 j),i64 (x.p15 j),i64 (x.q16 j)]))])
theorem gx3:VI fe5:=vd λt=>((vI (ca t 1 0)),(vI (ca t 1 1)),(vS (ca t 1 2)),(r7 (ca t 1 3)),(aW (ca t 1 3)),(vI (ca t 2 0)),(vI (ca t 2 1)),(vI (ca t 2 2)),(vI (ca t 2 3)),(vI (ca t 2 4)),(smN (co t 1)),(smH (co t 1)),(dMI (co t 1) 0),(dMI (co t 1) 1),(dMI (co t 1) 2),(dMI (co t 1) 3),(dMI (co t 1) 4))
abbrev cv0{β:Type}(A:tS->Option em4)(x:bn6)(dn:f6->Option β):Option β:=
 U11 x λB C D E F G H I J K L=>(A ((B,C,D,E,F,L))).bind λa=>if(a.2.2.2.2.2.2.1 !=0) then dn (a.2.2.2.2.2.2)else if a.1 then dn ((12,a.2.2.2.2.2.2.2))else if(if true then !(a.2.1==G&&(a.2.2.1==H&&(a.2.2.2.1==I&&(a.2.2.2.2.1==J&&(a.2.2.2.2.2.1==K&&true)))))else a.2.1==G&&(a.2.2.1==H&&(a.2.2.2.1==I&&(a.2.2.2.2.1==J&&(a.2.2.2.2.2.1==K&&true))))) then dn ((10,a.2.2.2.2.2.2.2))else dn ((0,a.2.2.2.2.2.2.2))
noncomputable def fd8(q:Nat)(x:bn6):Option f6:=cv0 (Of q) x some
theorem ga1(q:Nat):Lw E5 171 fe5 eR (fd8 q):=so hW5 hX5 (kc gv6 (gc8 q) kn) λc β=>cv0 (β:=β) c.1
def bj6:AR ca8:=λx=>([.ptr 0 0,.agg [i64 x.1,i64 x.2.1,st x.2.2.1,.ro 4 x.p3 (λj=>[i64 (x.p4 j),i64 (x.p5 j),st (x.p6 j),.ro 4 (x.p7 j) (x.p8 j)])]],[some (.blk [.mp 1]),some (.smap x.p9 x.p10 (λj=>.agg [i64 (x.p11 j),i64 (x.p12 j),i64 (x.p13 j),i64 (x.p14 j),i64 (x.q15 j)]))])
theorem gw3:VI bj6:=vd λt=>((vI (ca t 1 0)),(vI (ca t 1 1)),(vS (ca t 1 2)),(r7 (ca t 1 3)),(dTI (ca t 1 3) 0),(dTI (ca t 1 3) 1),(dTS (ca t 1 3) 2),(dTN (ca t 1 3) 3),(dTF (ca t 1 3) 3),(smN (co t 1)),(smH (co t 1)),(dMI (co t 1) 0),(dMI (co t 1) 1),(dMI (co t 1) 2),(dMI (co t 1) 3),(dMI (co t 1) 4))
abbrev cu3{β:Type}(A:tS->Option em4)(B:iZ->Option f6)(x:ca8)(dn:f6->Option β):Option β:=
 U10 x λC D E F G H I J K L=>if(0:Int)<=(0:Int)/\0< (F:Int)then(A ((G 0,H 0,I 0,J 0,K 0,L))).bind λa=>if(a.2.2.2.2.2.2.1 !=0) then dn (a.2.2.2.2.2.2)else if(C==2) then if(!a.2.2.2.2.2.2.2.2.1 (E)) then dn ((3,a.2.2.2.2.2.2.2))else if a.1 then dn ((12,a.2.2.2.2.2.2.2))else if(C==2) then if(if true then !((if a.2.2.2.2.2.2.2.2.1 (E) then a.2.2.2.2.2.2.2.2.2.1 (E)else 0)==a.2.1&&((if a.2.2.2.2.2.2.2.2.1 (E) then a.2.2.2.2.2.2.2.2.2.2.1 (E)else 0)==a.2.2.1&&((if a.2.2.2.2.2.2.2.2.1 (E) then a.2.2.2.2.2.2.2.2.2.2.2.1 (E)else 0)==a.2.2.2.1&&((if a.2.2.2.2.2.2.2.2.1 (E) then a.2.2.2.2.2.2.2.2.2.2.2.2.1 (E)else 0)==a.2.2.2.2.1&&((if a.2.2.2.2.2.2.2.2.1 (E) then a.2.2.2.2.2.2.2.2.2.2.2.2.2 (E)else 0)==a.2.2.2.2.2.1&&true)))))else(if a.2.2.2.2.2.2.2.2.1 (E) then a.2.2.2.2.2.2.2.2.2.1 (E)else 0)==a.2.1&&((if a.2.2.2.2.2.2.2.2.1 (E) then a.2.2.2.2.2.2.2.2.2.2.1 (E)else 0)==a.2.2.1&&((if a.2.2.2.2.2.2.2.2.1 (E) then a.2.2.2.2.2.2.2.2.2.2.2.1 (E)else 0)==a.2.2.2.1&&((if a.2.2.2.2.2.2.2.2.1 (E) then a.2.2.2.2.2.2.2.2.2.2.2.2.1 (E)else 0)==a.2.2.2.2.1&&((if a.2.2.2.2.2.2.2.2.1 (E) then a.2.2.2.2.2.2.2.2.2.2.2.2.2 (E)else 0)==a.2.2.2.2.2.1&&true))))) then dn ((10,a.2.2.2.2.2.2.2))else if(C==2) then dn ((0,a.2.2.2.2.2.2.2))else(B ((E,a.2.1,a.2.2.1,a.2.2.2.1,a.2.2.2.2.1,a.2.2.2.2.2.1,a.2.2.2.2.2.2.2))).bind λb=>dn b else if(C==2) then dn ((0,a.2.2.2.2.2.2.2))else(B ((E,a.2.1,a.2.2.1,a.2.2.2.1,a.2.2.2.2.1,a.2.2.2.2.2.1,a.2.2.2.2.2.2.2))).bind λc=>dn c else if a.1 then dn ((12,a.2.2.2.2.2.2.2))else if(C==2) then if(if true then !((if a.2.2.2.2.2.2.2.2.1 (E) then a.2.2.2.2.2.2.2.2.2.1 (E)else 0)==a.2.1&&((if a.2.2.2.2.2.2.2.2.1 (E) then a.2.2.2.2.2.2.2.2.2.2.1 (E)else 0)==a.2.2.1&&((if a.2.2.2.2.2.2.2.2.1 (E) then a.2.2.2.2.2.2.2.2.2.2.2.1 (E)else 0)==a.2.2.2.1&&((if a.2.2.2.2.2.2.2.2.1 (E) then a.2.2.2.2.2.2.2.2.2.2.2.2.1 (E)else 0)==a.2.2.2.2.1&&((if a.2.2.2.2.2.2.2.2.1 (E) then a.2.2.2.2.2.2.2.2.2.2.2.2.2 (E)else 0)==a.2.2.2.2.2.1&&true)))))else(if a.2.2.2.2.2.2.2.2.1 (E) then a.2.2.2.2.2.2.2.2.2.1 (E)else 0)==a.2.1&&((if a.2.2.2.2.2.2.2.2.1 (E) then a.2.2.2.2.2.2.2.2.2.2.1 (E)else 0)==a.2.2.1&&((if a.2.2.2.2.2.2.2.2.1 (E) then a.2.2.2.2.2.2.2.2.2.2.2.1 (E)else 0)==a.2.2.2.1&&((if a.2.2.2.2.2.2.2.2.1 (E) then a.2.2.2.2.2.2.2.2.2.2.2.2.1 (E)else 0)==a.2.2.2.2.1&&((if a.2.2.2.2.2.2.2.2.1 (E) then a.2.2.2.2.2.2.2.2.2.2.2.2.2 (E)else 0)==a.2.2.2.2.2.1&&true))))) then dn ((10,a.2.2.2.2.2.2.2))else if(C==2) then dn ((0,a.2.2.2.2.2.2.2))else(B ((E,a.2.1,a.2.2.1,a.2.2.2.1,a.2.2.2.2.1,a.2.2.2.2.2.1,a.2.2.2.2.2.2.2))).bind λd=>dn d else if(C==2) then dn ((0,a.2.2.2.2.2.2.2))else(B ((E,a.2.1,a.2.2.1,a.2.2.2.1,a.2.2.2.2.1,a.2.2.2.2.2.1,a.2.2.2.2.2.2.2))).bind λe=>dn e else none
noncomputable def fa7(q:Nat)(x:ca8):Option f6:=cu3 (Of q) (iJ q) x some
theorem gl7(q:Nat):Lw E5 169 bj6 eR (fa7 q):=so hW5 hX5 (kc gv6 (gc8 q) (kc by2 (bh5 q) kn)) λc β=>cu3 (β:=β) c.1 c.2.1
abbrev cz8:Type:=Nat×(Nat->List V)×Nat×(ByteArray->Bool)×(ByteArray->Int)×(ByteArray->Int)×(ByteArray->Int)×(ByteArray->Int)×(ByteArray->Int)
def el4:AR cz8:=λx=>([.ptr 0 0,.ro 4 x.1 x.2.1],[some (.blk [.mp 1]),some (.smap x.2.2.1 x.p3 (λj=>.agg [i64 (x.p4 j),i64 (x.p5 j),i64 (x.p6 j),i64 (x.p7 j),i64 (x.q8 j)]))])
theorem hj5:VI el4:=vd λt=>((r7 (ag t 1)),(aW (ag t 1)),(smN (co t 1)),(smH (co t 1)),(dMI (co t 1) 0),(dMI (co t 1) 1),(dMI (co t 1) 2),(dMI (co t 1) 3),(dMI (co t 1) 4))
abbrev vV:Type:=Nat×(Nat->Int)×(Nat->Int)×(Nat->ByteArray)×(Nat->Nat)×(Nat->Nat->List V)×Nat×(ByteArray->Bool)×(ByteArray->Int)×(ByteArray->Int)×(ByteArray->Int)×(ByteArray->Int)×(ByteArray->Int)
def ff7:AR vV:=λx=>([.ptr 0 0,.ro 4 x.1 (λj=>[i64 (x.2.1 j),i64 (x.2.2.1 j),st (x.p3 j),.ro 4 (x.p4 j) (x.p5 j)])],[some (.blk [.mp 1]),some (.smap x.p6 x.p7 (λj=>.agg [i64 (x.p8 j),i64 (x.p9 j),i64 (x.p10 j),i64 (x.p11 j),i64 (x.q12 j)]))])
abbrev cr8{β:Type}(A:s5->Option Bool)(B:g8->Option Bool)(C:ca8->Option f6)(D:tS->Option f6)(E:bn6->Option f6)(F:cz8->Option f6)(x:ca8)(dn:f6->Option β):Option β:=
 U10 x λG H I J K L M N O P=>(A ((G,H,I,J,K,L,M,N,O))).bind λa=>if(!a) then dn ((7,P))else(B ((G,H,I,J,λj=>[i64 (K j),i64 (L j),st (M j),V.ro 4 (N j) (O j)]))).bind λb=>if(!b) then dn ((5,P))else if(G==1) then(C x).bind λc=>dn c else if(G==2) then(C x).bind λd=>dn d else if(G==7) then if(0:Int)<=(0:Int)/\0< (J:Int)then(D ((K 0,L 0,M 0,N 0,O 0,P))).bind λe=>dn e else none else if(G==8) then if(0:Int)<=(0:Int)/\0< (J:Int)then(E ((K 0,L 0,M 0,N 0,O 0,0,0,0,1,0,P))).bind λf=>dn f else none else if(G==5) then if(0:Int)<=(0:Int)/\0< (J:Int)then(E ((K 0,L 0,M 0,N 0,O 0,0,0,1,0,0,P))).bind λg=>dn g else none else if(G==9) then if(0:Int)<=(0:Int)/\0< (J:Int)then(E ((K 0,L 0,M 0,N 0,O 0,0,0,1,0,0,P))).bind λh=>dn h else none else if(G==10) then if(0:Int)<=(0:Int)/\0< (J:Int)then(E ((K 0,L 0,M 0,N 0,O 0,0,1,0,0,0,P))).bind λi=>dn i else none else if(G==11) then if(0:Int)<=(0:Int)/\0< (J:Int)then(E ((K 0,L 0,M 0,N 0,O 0,0,1,0,0,0,P))).bind λk=>dn k else none else if(G==6) then if(0:Int)<=(0:Int)/\0< (J:Int)then(D ((K 0,L 0,M 0,N 0,O 0,P))).bind λl=>if(l.1 !=0) then dn l else if(0:Int)<=(1:Int)/\1< (J:Int)then(E ((K 1,L 1,M 1,N 1,O 1,0,0,1,0,0,l.2))).bind λm=>dn m else none else none else if(G==3) then if(0:Int)<=(0:Int)/\0< (J:Int)then(D ((K 0,L 0,M 0,N 0,O 0,P))).bind λn=>if(n.1 !=0) then dn n else if(0:Int)<=(1:Int)/\1<=(J:Int)/\(J:Int)<=(J:Int)then(F ((Int.toNat (J:Int)-1,λj=>[i64 (K (1+j)),i64 (L (1+j)),st (M (1+j)),V.ro 4 (N (1+j)) (O (1+j))],n.2))).bind λo=>dn o else none else none else(F ((J,λj=>[i64 (K j),i64 (L j),st (M j),V.ro 4 (N j) (O j)],P))).bind λp=>dn p
abbrev vJ:Type:=(Int×Nat×(ByteArray->Bool)×(ByteArray->Int)×(ByteArray->Int)×(ByteArray->Int)×(ByteArray->Int)×(ByteArray->Int))⊕(Nat×(ByteArray->Bool)×(ByteArray->Int)×(ByteArray->Int)×(ByteArray->Int)×(ByteArray->Int)×(ByteArray->Int))
def ef9(x:vV)(y:f6):St:={fr:=[V.ptr 0 0]++jk 7++[V.ro 4 (x.1) λj=>[i64 (x.2.1 j),i64 (x.2.2.1 j),st (x.p3 j),V.ro 4 (x.p4 j) (x.p5 j)],i64 (x.1:Int),i64 (y.1)]++jk 10,H:=hp [some (Z1.blk [V.mp 1]),some (Z1.smap (y.2.1) (y.2.2.1) λ(j:ByteArray)=>V.agg [i64 (y.p3 j),i64 (y.p4 j),i64 (y.p5 j),i64 (y.p6 j),i64 (y.q7 j)])],nx:=2,rt:=1,me:=172}
theorem ex5(x:vV):VL (ef9 x):=vl λs=>((vI (fv s 10)),(smN (s.H 1)),(smH (s.H 1)),(dMI (s.H 1) 0),(dMI (s.H 1) 1),(dMI (s.H 1) 2),(dMI (s.H 1) 3),(dMI (s.H 1) 4))
def ej8(x:vV):vJ->Ex×St:=(Sum.elim (λz=>(Ex.ret,{fr:=jk 4++[i64 (z.1)]++jk 16,H:=hp [some (Z1.blk [V.mp 1]),some (Z1.smap (z.2.1) (z.2.2.1) λ(j:ByteArray)=>V.agg [i64 (z.p3 j),i64 (z.p4 j),i64 (z.p5 j),i64 (z.p6 j),i64 (z.q7 j)])],nx:=2,rt:=1,me:=172})) (λz=>(Ex.exit 0,{fr:=[V.junk]++jk 20,H:=hp [some (Z1.blk [V.mp 1]),some (Z1.smap (z.1) (z.2.1) λ(j:ByteArray)=>V.agg [i64 (z.2.2.1 j),i64 (z.p3 j),i64 (z.p4 j),i64 (z.p5 j),i64 (z.q6 j)])],nx:=2,rt:=1,me:=172})))
abbrev wR{β:Type}(A:tS->Option f6)(x:vV)(y:f6)(nx:f6->Option β)(dn:vJ->Option β):Option β:=
 U7 x λB C D E F G H=>if decide (y.1< (B:Int)) then if 0<=y.1/\y.1< (B:Int)then(A ((C (Int.toNat (y.1)),D (Int.toNat (y.1)),E (Int.toNat (y.1)),F (Int.toNat (y.1)),G (Int.toNat (y.1)),y.2))).bind λa=>if(a.1 !=0) then dn (.inl a)else nx ((w (y.1+1),a.2))else none else dn (.inr (y.2))
noncomputable def ds8(A:tS->Option f6)(q:Nat)(x:vV):f6->Option vJ:=lpG (λy=>wR A x y (λy=>some (.inl y)) (λz=>some (.inr z))) q
abbrev de5{β:Type}(A:tS->Option f6)(B:f6->Option vJ)(x:vV)(dn:f6->Option β):Option β:=
 (B ((0,x.2.2.2.2.2.2))).bind λa=>Sum.elim (λb=>dn b) (λc=>dn ((0,c))) a
open Classical in
noncomputable def cg3:Nat->(tS->Option f6)×(cz8->Option f6)
 |0=>(λ_=>none,λ_=>none)
 |q+1=>(λx=>if hJ (x.2.2.2.2.1)then cr8 (fg8 q) (bl2 q) (fa7 q) (cond q) (fd8 q) (cg3 q).2 (x.1,x.2.1,x.2.2.1,x.2.2.2.1,opK x.2.2.2.2.1,opN x.2.2.2.2.1,opS x.2.2.2.2.1,opM x.2.2.2.2.1,opF x.2.2.2.2.1,x.2.2.2.2.2.1,x.2.2.2.2.2.2.1,x.2.2.2.2.2.2.2.1,x.2.2.2.2.2.2.2.2.1,x.2.2.2.2.2.2.2.2.2.1,x.2.2.2.2.2.2.2.2.2.2.1,x.2.2.2.2.2.2.2.2.2.2.2) some else none,
  λx=>if hJ (x.2.1)then de5 (cg3 q).1 (ds8 (cg3 q).1 q (x.1,opK x.2.1,opN x.2.1,opS x.2.1,opM x.2.1,opF x.2.1,x.2.2.1,x.2.2.2.1,x.2.2.2.2.1,x.2.2.2.2.2.1,x.2.2.2.2.2.2.1,x.2.2.2.2.2.2.2.1,x.2.2.2.2.2.2.2.2)) (x.1,opK x.2.1,opN x.2.1,opS x.2.1,opM x.2.1,opF x.2.1,x.2.2.1,x.2.2.2.1,x.2.2.2.2.1,x.2.2.2.2.2.1,x.2.2.2.2.2.2.1,x.2.2.2.2.2.2.2.1,x.2.2.2.2.2.2.2.2) some else none)
noncomputable def en2(q:Nat):tS->Option f6:=(cg3 q).1
noncomputable def gv2(q:Nat):cz8->Option f6:=(cg3 q).2
theorem gz6:∀q,Lw E5 97 br3 eR (en2 q)/\Lw E5 172 el4 eR (gv2 q):=by
 intro q
 induction q with
 |zero=>exact⟨(λx z h=>by cases h),(λx z h=>by cases h)⟩
 |succ q ih=>
  obtain⟨h0,h1⟩:=ih;refine⟨λx z h=>?_,λx z h=>?_⟩
  ·unfold en2 cg3 at h;dsimp only at h;split at h
   ·rename_i hO;have this:=(so hW5 hX5 (kc fj5 (gr6 q) (kc cJ (eh9 q) (kc gw3 (gl7 q) (kc ei1 (gy3 q) (kc gx3 (ga1 q) (kc hj5 h1 kn)))))) λc β=>cr8 (β:=β) c.1 c.2.1 c.2.2.1 c.2.2.2.1 c.2.2.2.2.1 c.2.2.2.2.2.1:Lw E5 97 bj6 eR _) (x.1,x.2.1,x.2.2.1,x.2.2.2.1,opK x.2.2.2.2.1,opN x.2.2.2.2.1,opS x.2.2.2.2.1,opM x.2.2.2.2.1,opF x.2.2.2.2.1,x.2.2.2.2.2.1,x.2.2.2.2.2.2.1,x.2.2.2.2.2.2.2.1,x.2.2.2.2.2.2.2.2.1,x.2.2.2.2.2.2.2.2.2.1,x.2.2.2.2.2.2.2.2.2.2.1,x.2.2.2.2.2.2.2.2.2.2.2) z h;unfold bj6 at this;unfold br3;simp only at this⊢;rw[cY hO]at this;exact this
   ·cases h
  ·unfold gv2 cg3 at h;dsimp only at h;split at h
   ·rename_i hO;have this:=(have K:=(kc ei1 h0 kn);sl hW5 hX5 K (λx=>(lc 0 (ex5 x) (lp hX5 (ej8 x) 172 0 1793 [(0,0)] 16 K ln q λc l β=>wR (β:=β) c.1 x) ln)) λc l β=>de5 (β:=β) c.1 l.1:Lw E5 172 ff7 eR _) (x.1,opK x.2.1,opN x.2.1,opS x.2.1,opM x.2.1,opF x.2.1,x.2.2.1,x.2.2.2.1,x.2.2.2.2.1,x.2.2.2.2.2.1,x.2.2.2.2.2.2.1,x.2.2.2.2.2.2.2.1,x.2.2.2.2.2.2.2.2) z h;unfold ff7 at this;unfold el4;simp only at this⊢;rw[cY hO]at this;exact this
   ·cases h
theorem gu3(q:Nat):Lw E5 97 br3 eR (en2 q):=(gz6 q).1
abbrev lB:Type:=(Int)⊕(Nat×(ByteArray->Bool)×(ByteArray->Int)×(ByteArray->Int)×(ByteArray->Int)×(ByteArray->Int)×(ByteArray->Int))
def er2(x:j3)(y:f6):St:={fr:=[V.junk,V.ptr 0 0,V.junk,V.ptr 1 0]++jk 9++[V.ro 2 (x.2.1) λj=>[st (x.2.2.1 j),st (x.p3 j)],i64 (x.2.1:Int),i64 (y.1)]++jk 32,H:=hp [some (Z1.blk [st (x.1),V.ro 2 (x.2.1) λj=>[st (x.2.2.1 j),st (x.p3 j)],i64 (x.p4),i64 (x.p5),st (x.p6),V.ro 4 (x.p7) (x.q8)]),some (Z1.blk [V.mp 2]),some (Z1.smap (y.2.1) (y.2.2.1) λ(j:ByteArray)=>V.agg [i64 (y.p3 j),i64 (y.p4 j),i64 (y.p5 j),i64 (y.p6 j),i64 (y.q7 j)])],nx:=3,rt:=0,me:=42}
theorem ex3(x:j3):VL (er2 x):=vl λs=>((vI (fv s 15)),(smN (s.H 2)),(smH (s.H 2)),(dMI (s.H 2) 0),(dMI (s.H 2) 1),(dMI (s.H 2) 2),(dMI (s.H 2) 3),(dMI (s.H 2) 4))
def eg9(x:j3):lB->Ex×St:=(Sum.elim (λz=>(Ex.ret,{fr:=[V.junk,V.junk,i64 z]++jk 45,H:=hp [],nx:=0,rt:=0,me:=42})) (λz=>(Ex.exit 0,{fr:=[V.junk,V.ptr 0 0,V.junk,V.ptr 1 0]++jk 44,H:=hp [some (Z1.blk [st (x.1),V.ro 2 (x.2.1) λj=>[st (x.2.2.1 j),st (x.p3 j)],i64 (x.p4),i64 (x.p5),st (x.p6),V.ro 4 (x.p7) (x.q8)]),some (Z1.blk [V.mp 2]),some (Z1.smap (z.1) (z.2.1) λ(j:ByteArray)=>V.agg [i64 (z.2.2.1 j),i64 (z.p3 j),i64 (z.p4 j),i64 (z.p5 j),i64 (z.q6 j)])],nx:=3,rt:=0,me:=42})))
abbrev xL{β:Type}(A:ByteArray->Option l7)(B:iZ->Option f6)(C:tS->Option f6)(x:j3)(y:f6)(nx:f6->Option β)(dn:lB->Option β):Option β:=
 U5 x λC D E F G=>if decide (y.1< (D:Int)) then if 0<=y.1/\y.1< (D:Int)then if(!ByteArray.toList (F (Int.toNat (y.1)))==ByteArray.toList ⟨#[]⟩) then(A (F (Int.toNat (y.1)))).bind λa=>if(!a.2.2.2.2.2.2) then dn (.inl (10))else(B ((E (Int.toNat (y.1)),a.1,a.2.1,a.2.2.1,a.2.2.2.1,a.2.2.2.2.1,y.2))).bind λb=>if(b.1 !=0) then dn (.inl (b.1))else nx ((w (y.1+1),b.2))else(B ((E (Int.toNat (y.1)),0,0,0,0,0,y.2))).bind λc=>if(c.1 !=0) then dn (.inl (c.1))else nx ((w (y.1+1),c.2))else none else dn (.inr (y.2))
noncomputable def ca7(A:ByteArray->Option l7)(B:iZ->Option f6)(C:tS->Option f6)(q:Nat)(x:j3):f6->Option lB:=lpG (λy=>xL A B C x y (λy=>some (.inl y)) (λz=>some (.inr z))) q
abbrev cv9{β:Type}(A:ByteArray->Option l7)(B:iZ->Option f6)(C:tS->Option f6)(D:f6->Option lB)(x:j3)(dn:Int->Option β):Option β:=
 (D ((0,0,λ(x:ByteArray)=>false,λ(j:ByteArray)=>0,λ(j:ByteArray)=>0,λ(j:ByteArray)=>0,λ(j:ByteArray)=>0,λ(j:ByteArray)=>0))).bind λa=>Sum.elim (λb=>dn b) (λc=>if(x.2.2.2.2.1 !=14) then dn (7)else(C ((x.2.2.2.2.1,x.2.2.2.2.2.1,x.2.2.2.2.2.2.1,x.2.2.2.2.2.2.2.1,x.2.2.2.2.2.2.2.2,c))).bind λd=>dn (d.1)) a
noncomputable def ai3(q:Nat)(x:j3):Option Int:=cv9 (dG q) (iJ q) (en2 q) (ca7 (dG q) (iJ q) (en2 q) q x) x some
theorem gb3(q:Nat):Lw E5 42 oT eL (ai3 q):=have K:=(kc l5 (tW q) (kc by2 (bh5 q) (kc ei1 (gu3 q) kn)));sl hW5 hX5 K (λx=>(lc 0 (ex3 x) (lp hX5 (eg9 x) 42 0 57354 [(0,10)] 4 K ln q λc l β=>xL (β:=β) c.1 c.2.1 c.2.2.1 x) ln)) λc l β=>cv9 (β:=β) c.1 c.2.1 c.2.2.1 l.1
abbrev lQ:Type:=Nat×(Nat->ByteArray)×(Nat->Int)×(Nat->Int)×(Nat->Int)×(Nat->Int)×(Nat->Int)×ByteArray×Int×Int×Int×Int×Int
abbrev rW:Type:=(Nat×(Nat->ByteArray)×(Nat->Int)×(Nat->Int)×(Nat->Int)×(Nat->Int)×(Nat->Int)×Int)⊕(Nat×(Nat->ByteArray)×(Nat->Int)×(Nat->Int)×(Nat->Int)×(Nat->Int)×(Nat->Int))
def bm3:AR lQ:=λx=>([.ro 6 x.1 (λj=>[st (x.2.1 j),i64 (x.2.2.1 j),i64 (x.p3 j),i64 (x.p4 j),i64 (x.p5 j),i64 (x.p6 j)]),.agg [st x.p7,i64 x.p8,i64 x.p9,i64 x.p10,i64 x.p11,i64 x.q12]],[])
theorem fd6:VI bm3:=vd λt=>((r7 (ag t 0)),(dTS (ag t 0) 0),(dTI (ag t 0) 1),(dTI (ag t 0) 2),(dTI (ag t 0) 3),(dTI (ag t 0) 4),(dTI (ag t 0) 5),(vS (ca t 1 0)),(vI (ca t 1 1)),(vI (ca t 1 2)),(vI (ca t 1 3)),(vI (ca t 1 4)),(vI (ca t 1 5)))
def gw1:rW->Z3:=Sum.elim (λz:Nat×(Nat->ByteArray)×(Nat->Int)×(Nat->Int)×(Nat->Int)×(Nat->Int)×(Nat->Int)×Int=>Z3.ret (V.tup [V.ro 6 (z.1) λj=>[st (z.2.1 j),i64 (z.2.2.1 j),i64 (z.p3 j),i64 (z.p4 j),i64 (z.p5 j),i64 (z.p6 j)],i64 (z.q7)]) []) (λz:Nat×(Nat->ByteArray)×(Nat->Int)×(Nat->Int)×(Nat->Int)×(Nat->Int)×(Nat->Int)=>Z3.ret (V.tup [V.sl 0 6 0 (z.1),i64 0]) [some (Z1.row 209 6 (z.1) λj=>[st (z.2.1 j),i64 (z.2.2.1 j),i64 (z.p3 j),i64 (z.p4 j),i64 (z.p5 j),i64 (z.q6 j)])])
abbrev cy9{β:Type}(A:pY->Option Int)(x:lQ)(dn:rW->Option β):Option β:=
 U13 x λB C D E F G H I J K L M N=>(A ((B,C,D,E,F,G,H,I))).bind λa=>if decide (a>=0) then dn (.inl ((B,C,D,E,F,G,H,4)))else if decide ((B:Int)>=12) then dn (.inl ((B,C,D,E,F,G,H,2)))else if(0+B)*56<=b6/\0+B<=maxLen/\0<=0 then if(0+B+1)*56<=b6/\0+B+1<=maxLen/\0+B<=0+B then dn (.inr ((0+B+1,λj=>if j<0+B then C j else I,λj=>if j<0+B then D j else J,λj=>if j<0+B then E j else K,λj=>if j<0+B then F j else L,λj=>if j<0+B then G j else M,λj=>if j<0+B then H j else N)))else none else none
noncomputable def fh9(q:Nat)(x:lQ):Option rW:=cy9 (fx8 q) x some
theorem gp2(q:Nat):Lw E5 121 bm3 gw1 (fh9 q):=so hW5 hX5 (kc et1 (di5 q) kn) λc β=>cy9 (β:=β) c.1
abbrev oK:Type:=ByteArray×Int×Int×Int×Int×Int
abbrev bk4:Type:=Unit⊕((Nat->ByteArray)×(Nat->Int)×(Nat->Int)×(Nat->Int)×(Nat->Int)×(Nat->Int))
def bl6:AR oK:=λx=>([j0,.agg [st x.1,i64 x.2.1,i64 x.2.2.1,i64 x.p3,i64 x.p4,i64 x.q5]],[])
theorem hc7:VI bl6:=vd λt=>((vS (ca t 1 0)),(vI (ca t 1 1)),(vI (ca t 1 2)),(vI (ca t 1 3)),(vI (ca t 1 4)),(vI (ca t 1 5)))
def gx8:bk4->Z3:=Sum.elim (λz:Unit=>Z3.ret (V.tup [j0,i64 4]) []) (λz:(Nat->ByteArray)×(Nat->Int)×(Nat->Int)×(Nat->Int)×(Nat->Int)×(Nat->Int)=>Z3.ret (V.tup [V.sl 0 6 0 1,i64 0]) [some (Z1.row 209 6 1 λj=>[st (z.1 j),i64 (z.2.1 j),i64 (z.2.2.1 j),i64 (z.p3 j),i64 (z.p4 j),i64 (z.q5 j)])])
abbrev db6{β:Type}(A:ByteArray->Option Int)(x:oK)(dn:bk4->Option β):Option β:=
 U6 x λB C D E F G=>(A (B)).bind λa=>if decide (a>=0) then dn (.inl ())else dn (.inr ((λj=>B,λj=>C,λj=>D,λj=>E,λj=>F,λj=>G)))
noncomputable def fj7(q:Nat)(x:oK):Option bk4:=db6 (ga3 q) x some
theorem gj0(q:Nat):Lw E5 121 bl6 gx8 (fj7 q):=so hW5 hX5 (kg (λa _=>gf3 a) dz4 (gc4 q) kn) λc β=>db6 (β:=β) c.1
abbrev s6:Type:=Nat×(Nat->ByteArray)×(Nat->Int)×(Nat->Int)×(Nat->Int)×(Nat->Int)×(Nat->Int)×Int
def xE:s6->Z3:=(λz:Nat×(Nat->ByteArray)×(Nat->Int)×(Nat->Int)×(Nat->Int)×(Nat->Int)×(Nat->Int)×Int=>.ret (.tup [.ro 6 z.1 (λj=>[st (z.2.1 j),i64 (z.2.2.1 j),i64 (z.p3 j),i64 (z.p4 j),i64 (z.p5 j),i64 (z.p6 j)]),i64 z.q7]) [])
theorem Le.tup2{a a':V}{e:V}(h:Le a a'):Le (.tup [a,e]) (.tup [a',e]):=by
 intro β S w D u hd;simp only[Am.den]at hd⊢;obtain⟨us,h1,h2⟩:=hd;refine⟨us,h1,?_⟩;simp only[d9]at h2⊢;obtain⟨x,xs,rfl,h3,h4⟩:=h2;exact⟨x,xs,rfl,h _ _ _ _ _ h3,h4⟩
def bm8:rW->s6:=Sum.elim id (λz=>(z.1,z.2.1,z.2.2.1,z.2.2.2.1,z.2.2.2.2.1,z.2.2.2.2.2.1,z.2.2.2.2.2.2,0))
noncomputable def aw7(q:Nat)(x:lQ):Option s6:=(fh9 q x).map bm8
theorem fc9(q:Nat):∀(x:lQ) (z:s6),aw7 q x=some z->SC E5 121 (bm3 x).1 (bm3 x).2 (xE z):=by
 intro x z h;unfold aw7 at h;obtain⟨z2,h2,rfl⟩:=Option.map_eq_some_iff.1 h;have g:=gp2 q _ _ h2;rcases z2 with z2|z2
 ·exact g
 ·exact(SC.give g (by simp[V.bw,V.bw2,V.bw1,hp,V.pure,n4])).le (Le.of_eq (by simp[V.bw,V.bw2,V.bw1,hp]<;>exact⟨⟨rfl,rfl⟩,rfl⟩))
def cp8:bk4->s6:=Sum.elim (λ_=>(0,(λ_=>ByteArray.empty),(λ_=>0),(λ_=>0),(λ_=>0),(λ_=>0),(λ_=>0),4)) (λz=>(1,z.1,z.2.1,z.2.2.1,z.2.2.2.1,z.2.2.2.2.1,z.2.2.2.2.2,0))
noncomputable def rK(q:Nat)(x:oK):Option s6:=(fj7 q x).map cp8
theorem fo5(q:Nat):∀(x:oK) (z:s6),rK q x=some z->SC E5 121 (bl6 x).1 (bl6 x).2 (xE z):=by
 intro x z h;unfold rK at h;obtain⟨z2,h2,rfl⟩:=Option.map_eq_some_iff.1 h;have g:=gj0 q _ _ h2;rcases z2 with z2|z2
 ·exact g.le (Le.tup2 AH)
 ·exact(SC.give g (by simp[V.bw,V.bw2,V.bw1,hp,V.pure,n4])).le (Le.of_eq (by simp[V.bw,V.bw2,V.bw1,hp]<;>exact⟨⟨rfl,rfl⟩,rfl⟩))
abbrev cX:Type:=Nat×(Nat->ByteArray)×(Nat->ByteArray)
abbrev at7:Type:=Int⊕(Nat×(Nat->ByteArray)×(Nat->Int)×(Nat->Int)×(Nat->Int)×(Nat->Int)×(Nat->Int))
def as3:AR cX:=λx=>([.ro 2 x.1 (λj=>[st (x.2.1 j),st (x.2.2 j)])],[])
theorem gq2:VI as3:=vd λt=>((r7 (ag t 0)),(dTS (ag t 0) 0),(dTS (ag t 0) 1))
def gg3:at7->Z3:=Sum.elim (λz:Int=>Z3.ret (V.tup [j0,i64 z]) []) (λz:Nat×(Nat->ByteArray)×(Nat->Int)×(Nat->Int)×(Nat->Int)×(Nat->Int)×(Nat->Int)=>Z3.ret (V.tup [V.ro 6 (z.1) λj=>[st (z.2.1 j),i64 (z.2.2.1 j),i64 (z.p3 j),i64 (z.p4 j),i64 (z.p5 j),i64 (z.q6 j)],i64 0]) [])
abbrev gC:Type:=(Unit)⊕(Nat×(Nat->ByteArray)×(Nat->Int)×(Nat->Int)×(Nat->Int)×(Nat->Int)×(Nat->Int)×Int)
abbrev eD:Type:=(Int)⊕(Unit)⊕(Nat×(Nat->ByteArray)×(Nat->Int)×(Nat->Int)×(Nat->Int)×(Nat->Int)×(Nat->Int))
def cy7(x:cX)(y:Unit):St:={fr:=[V.ro 2 (x.1) λj=>[st (x.2.1 j),st (x.2.2 j)],V.junk,V.junk,V.junk,j0,i64 0]++jk 46,H:=hp [],nx:=0,rt:=0,me:=63}
def dc2(x:cX)(y:Nat×(Nat->ByteArray)×(Nat->Int)×(Nat->Int)×(Nat->Int)×(Nat->Int)×(Nat->Int)×Int):St:={fr:=[V.ro 2 (x.1) λj=>[st (x.2.1 j),st (x.2.2 j)],V.junk,V.junk,V.junk,V.ro 6 (y.1) λj=>[st (y.2.1 j),i64 (y.2.2.1 j),i64 (y.p3 j),i64 (y.p4 j),i64 (y.p5 j),i64 (y.p6 j)],i64 (y.q7)]++jk 46,H:=hp [],nx:=0,rt:=0,me:=63}
def dr4(x:cX):gC->St:=(Sum.elim (cy7 x) (dc2 x))
theorem dj2(x:cX):VL (dr4 x):=vl λs=>(match iA (fv s 4)with|true=>(.inl (())) |false=>(.inr (((r7 (fv s 4)),(dTS (fv s 4) 0),(dTI (fv s 4) 1),(dTI (fv s 4) 2),(dTI (fv s 4) 3),(dTI (fv s 4) 4),(dTI (fv s 4) 5),(vI (fv s 5))))))
def dr0(x:cX):eD->Ex×St:=(Sum.elim (λz=>(Ex.ret,{fr:=[V.junk,V.junk,j0,i64 z]++jk 48,H:=hp [],nx:=0,rt:=0,me:=63})) (Sum.elim (λz=>(Ex.exit 0,{fr:=jk 4++[j0]++jk 47,H:=hp [],nx:=0,rt:=0,me:=63})) (λz=>(Ex.exit 0,{fr:=jk 4++[V.ro 6 (z.1) λj=>[st (z.2.1 j),i64 (z.2.2.1 j),i64 (z.p3 j),i64 (z.p4 j),i64 (z.p5 j),i64 (z.q6 j)]]++jk 47,H:=hp [],nx:=0,rt:=0,me:=63}))))
abbrev wT{β:Type}(A:ByteArray->Option l7)(B:oK->Option s6)(C:lQ->Option s6)(x:cX)(y:Unit)(nx:gC->Option β)(dn:eD->Option β):Option β:=
 U3 x λC D E=>if decide (0< (C:Int)) then if(0:Int)<=(0:Int)/\0< (C:Int)then if(!ByteArray.toList (E 0)==ByteArray.toList ⟨#[]⟩) then if(0:Int)<=(0:Int)/\0< (C:Int)then(A (E 0)).bind λa=>if(!a.2.2.2.2.2.2) then dn (.inl (10))else if(0:Int)<=(0:Int)/\0< (C:Int)then(B ((D 0,a.1,a.2.1,a.2.2.1,a.2.2.2.1,a.2.2.2.2.1))).bind λb=>if(b.2.2.2.2.2.2.2 !=0) then dn (.inl (b.2.2.2.2.2.2.2))else nx (.inr ((b.1,b.2.1,b.2.2.1,b.2.2.2.1,b.2.2.2.2.1,b.2.2.2.2.2.1,b.2.2.2.2.2.2.1,1)))else none else none else if(0:Int)<=(0:Int)/\0< (C:Int)then(B ((D 0,0,0,0,0,0))).bind λc=>if(c.2.2.2.2.2.2.2 !=0) then dn (.inl (c.2.2.2.2.2.2.2))else nx (.inr ((c.1,c.2.1,c.2.2.1,c.2.2.2.1,c.2.2.2.2.1,c.2.2.2.2.2.1,c.2.2.2.2.2.2.1,1)))else none else none else dn (.inr (.inl ()))
abbrev oC{β:Type}(A:ByteArray->Option l7)(B:oK->Option s6)(C:lQ->Option s6)(x:cX)(y:Nat×(Nat->ByteArray)×(Nat->Int)×(Nat->Int)×(Nat->Int)×(Nat->Int)×(Nat->Int)×Int)(nx:gC->Option β)(dn:eD->Option β):Option β:=
 U3 x λB D E=>U8 y λF G H I J K L M=>if decide (M< (B:Int)) then if 0<=M/\M< (B:Int)then if(!ByteArray.toList (E (Int.toNat (M)))==ByteArray.toList ⟨#[]⟩) then if 0<=M/\M< (B:Int)then(A (E (Int.toNat (M)))).bind λa=>if(!a.2.2.2.2.2.2) then dn (.inl (10))else if 0<=M/\M< (B:Int)then(C ((F,G,H,I,J,K,L,D (Int.toNat (M)),a.1,a.2.1,a.2.2.1,a.2.2.2.1,a.2.2.2.2.1))).bind λb=>if(b.2.2.2.2.2.2.2 !=0) then dn (.inl (b.2.2.2.2.2.2.2))else nx (.inr ((b.1,b.2.1,b.2.2.1,b.2.2.2.1,b.2.2.2.2.1,b.2.2.2.2.2.1,b.2.2.2.2.2.2.1,w (M+1))))else none else none else if 0<=M/\M< (B:Int)then(C ((F,G,H,I,J,K,L,D (Int.toNat (M)),0,0,0,0,0))).bind λc=>if(c.2.2.2.2.2.2.2 !=0) then dn (.inl (c.2.2.2.2.2.2.2))else nx (.inr ((c.1,c.2.1,c.2.2.1,c.2.2.2.1,c.2.2.2.2.1,c.2.2.2.2.2.1,c.2.2.2.2.2.2.1,w (M+1))))else none else none else dn (.inr (.inr ((F,G,H,I,J,K,L))))
noncomputable def tO(A:ByteArray->Option l7)(B:oK->Option s6)(C:lQ->Option s6)(q:Nat)(x:cX):gC->Option eD:=lpG (Sum.elim (λy=>wT A B C x y (λy=>some (.inl y)) (λz=>some (.inr z))) (λy=>oC A B C x y (λy=>some (.inl y)) (λz=>some (.inr z)))) q
abbrev by9{β:Type}(A:ByteArray->Option l7)(B:oK->Option s6)(C:lQ->Option s6)(D:gC->Option eD)(x:cX)(dn:at7->Option β):Option β:=
 (D (.inl ())).bind λa=>Sum.elim (λb=>dn (.inl b)) (λc=>Sum.elim (λd=>dn (.inl (0))) (λe=>dn (.inr e)) c) a
noncomputable def cs8(q:Nat)(x:cX):Option at7:=by9 (gT q) (rK q) (aw7 q) (tO (gT q) (rK q) (aw7 q) q x) x some
theorem fr6(q:Nat):Lw E5 63 as3 gg3 (cs8 q):=have K:=(kc l5 (ak1 q) (kg (λa _=>gf3 a) hc7 (fo5 q) (kc fd6 (fc9 q) kn)));sl hW5 hX5 K (λx=>(lc 0 (dj2 x) (lp2 hX5 (dr0 x) 63 0 49 [(0,16)] 12 K ln q (λc l β=>wT (β:=β) c.1 c.2.1 c.2.2.1 x) λc l β=>oC (β:=β) c.1 c.2.1 c.2.2.1 x) ln)) λc l β=>by9 (β:=β) c.1 c.2.1 c.2.2.1 l.1
def co9:at7->s6:=Sum.elim (λe=>(0,(λ_=>ByteArray.empty),(λ_=>0),(λ_=>0),(λ_=>0),(λ_=>0),(λ_=>0),e)) (λz=>(z.1,z.2.1,z.2.2.1,z.2.2.2.1,z.2.2.2.2.1,z.2.2.2.2.2.1,z.2.2.2.2.2.2,0))
noncomputable def at8(q:Nat)(x:cX):Option s6:=(cs8 q x).map co9
theorem ek8(q:Nat):∀(x:cX) (z:s6),at8 q x=some z->SC E5 63 (as3 x).1 (as3 x).2 (xE z):=by
 intro x z h;unfold at8 at h;obtain⟨z2,h2,rfl⟩:=Option.map_eq_some_iff.1 h;have g:=fr6 q _ _ h2;rcases z2 with z2|z2
 ·exact g.le (Le.tup2 AH)
 ·exact g
abbrev cw9{β:Type}(A:bP->Option aK)(x:bP)(dn:Int->Option β):Option β:=
 (A x).bind λa=>if(a.2.2.2.2.2.2==0) then if(!a.1) then dn (12)else dn (a.2.2.2.2.2.2)else dn (a.2.2.2.2.2.2)
noncomputable def fa0(q:Nat)(x:bP):Option Int:=cw9 (ROf q) x some
theorem gr1(q:Nat):Lw E5 126 rY eL (fa0 q):=so hW5 hX5 (kc sQ (et0 q) kn) λc β=>cw9 (β:=β) c.1
abbrev at1:Type:=Int×Int×ByteArray×Nat×(Nat->List V)×Nat×(Nat->ByteArray)×(Nat->Int)×(Nat->Int)×(Nat->Int)×(Nat->Int)×(Nat->Int)×Int×Int×Int×Int×Int
def dr8:AR at1:=λx=>([.agg [i64 x.1,i64 x.2.1,st x.2.2.1,.ro 4 x.p3 x.p4],.ro 6 x.p5 (λj=>[st (x.p6 j),i64 (x.p7 j),i64 (x.p8 j),i64 (x.p9 j),i64 (x.p10 j),i64 (x.p11 j)]),.agg [i64 x.p12,i64 x.p13,i64 x.p14,i64 x.p15,i64 x.q16]],[])
theorem gg5:VI dr8:=vd λt=>((vI (ca t 0 0)),(vI (ca t 0 1)),(vS (ca t 0 2)),(r7 (ca t 0 3)),(aW (ca t 0 3)),(r7 (ag t 1)),(dTS (ag t 1) 0),(dTI (ag t 1) 1),(dTI (ag t 1) 2),(dTI (ag t 1) 3),(dTI (ag t 1) 4),(dTI (ag t 1) 5),(vI (ca t 2 0)),(vI (ca t 2 1)),(vI (ca t 2 2)),(vI (ca t 2 3)),(vI (ca t 2 4)))
abbrev cc6{β:Type}(A:bP->Option aK)(x:at1)(dn:Int->Option β):Option β:=
 U17 x λB C D E F G H I J K L M N O P Q R=>(A ((B,C,D,E,F,G,H,I,J,K,L,M))).bind λa=>if(a.2.2.2.2.2.2==0) then if a.1 then dn (12)else if(a.2.2.2.2.2.2==0) then if(if true then !(a.2.1==N&&(a.2.2.1==O&&(a.2.2.2.1==P&&(a.2.2.2.2.1==Q&&(a.2.2.2.2.2.1==R&&true)))))else a.2.1==N&&(a.2.2.1==O&&(a.2.2.2.1==P&&(a.2.2.2.2.1==Q&&(a.2.2.2.2.2.1==R&&true))))) then dn (10)else dn (a.2.2.2.2.2.2)else dn (a.2.2.2.2.2.2)else if(a.2.2.2.2.2.2==0) then if(if true then !(a.2.1==N&&(a.2.2.1==O&&(a.2.2.2.1==P&&(a.2.2.2.2.1==Q&&(a.2.2.2.2.2.1==R&&true)))))else a.2.1==N&&(a.2.2.1==O&&(a.2.2.2.1==P&&(a.2.2.2.2.1==Q&&(a.2.2.2.2.2.1==R&&true))))) then dn (10)else dn (a.2.2.2.2.2.2)else dn (a.2.2.2.2.2.2)
noncomputable def bv7(q:Nat)(x:at1):Option Int:=cc6 (ROf q) x some
theorem fv3(q:Nat):Lw E5 127 dr8 eL (bv7 q):=so hW5 hX5 (kc sQ (et0 q) kn) λc β=>cc6 (β:=β) c.1
abbrev ex4{β:Type}(A:bP->Option aK)(B:pY->Option Int)(C:lQ->Option s6)(x:bc9)(dn:s6->Option β):Option β:=
 U16 x λD E F G H I J K L M N O P Q R S=>if(0:Int)<=(0:Int)/\0< (G:Int)then(A ((H 0,I 0,J 0,K 0,L 0,x.2.2.2.2.2.2.2.2.2))).bind λa=>(B ((M,N,O,P,Q,R,S,F))).bind λb=>if(a.2.2.2.2.2.2 !=0) then dn ((M,N,O,P,Q,R,S,a.2.2.2.2.2.2))else if(D==2) then if decide (b< 0) then dn ((M,N,O,P,Q,R,S,3))else if a.1 then dn ((M,N,O,P,Q,R,S,12))else if(D==2) then if 0<=b/\b< (M:Int)then if(if true then !(O (Int.toNat b)==a.2.1&&(P (Int.toNat b)==a.2.2.1&&(Q (Int.toNat b)==a.2.2.2.1&&(R (Int.toNat b)==a.2.2.2.2.1&&(S (Int.toNat b)==a.2.2.2.2.2.1&&true)))))else O (Int.toNat b)==a.2.1&&(P (Int.toNat b)==a.2.2.1&&(Q (Int.toNat b)==a.2.2.2.1&&(R (Int.toNat b)==a.2.2.2.2.1&&(S (Int.toNat b)==a.2.2.2.2.2.1&&true))))) then dn ((M,N,O,P,Q,R,S,10))else dn ((M,N,O,P,Q,R,S,0))else none else(C ((M,N,O,P,Q,R,S,F,a.2.1,a.2.2.1,a.2.2.2.1,a.2.2.2.2.1,a.2.2.2.2.2.1))).bind λc=>dn c else if a.1 then dn ((M,N,O,P,Q,R,S,12))else if(D==2) then if 0<=b/\b< (M:Int)then if(if true then !(O (Int.toNat b)==a.2.1&&(P (Int.toNat b)==a.2.2.1&&(Q (Int.toNat b)==a.2.2.2.1&&(R (Int.toNat b)==a.2.2.2.2.1&&(S (Int.toNat b)==a.2.2.2.2.2.1&&true)))))else O (Int.toNat b)==a.2.1&&(P (Int.toNat b)==a.2.2.1&&(Q (Int.toNat b)==a.2.2.2.1&&(R (Int.toNat b)==a.2.2.2.2.1&&(S (Int.toNat b)==a.2.2.2.2.2.1&&true))))) then dn ((M,N,O,P,Q,R,S,10))else dn ((M,N,O,P,Q,R,S,0))else none else(C ((M,N,O,P,Q,R,S,F,a.2.1,a.2.2.1,a.2.2.2.1,a.2.2.2.2.1,a.2.2.2.2.2.1))).bind λd=>dn d else none
noncomputable def gu6(q:Nat)(x:bc9):Option s6:=ex4 (ROf q) (fx8 q) (aw7 q) x some
theorem gu8(q:Nat):Lw E5 125 az8 xE (gu6 q):=so hW5 hX5 (kc sQ (et0 q) (kc et1 (di5 q) (kc fd6 (fc9 q) kn))) λc β=>ex4 (β:=β) c.1 c.2.1 c.2.2.1
abbrev ch9{β:Type}(x:s5)(dn:Bool->Option β):Option β:=
 U6 x λA B C D E F=>if(A==14) then dn true else if(A==1) then dn ((D:Int)==1)else if(A==2) then dn ((D:Int)==1)else if(A==7) then dn ((D:Int)==1)else if(A==8) then dn ((D:Int)==1)else if(A==5) then if((D:Int)==1) then if(0:Int)<=(0:Int)/\0< (D:Int)then dn (E 0==(15:Int))else none else dn false else if(A==11) then if((D:Int)==1) then if(0:Int)<=(0:Int)/\0< (D:Int)then dn (E 0==(15:Int))else none else dn false else if(A==9) then if((D:Int)==1) then if(0:Int)<=(0:Int)/\0< (D:Int)then dn (E 0==(15:Int))else none else dn false else if(A==10) then if((D:Int)==1) then if(0:Int)<=(0:Int)/\0< (D:Int)then dn (E 0==(15:Int))else none else dn false else if(A==6) then if((D:Int)==2) then if(0:Int)<=(1:Int)/\1< (D:Int)then dn (E 1==(15:Int))else none else dn false else if(A==3) then if((D:Int)==3) then if(0:Int)<=(1:Int)/\1< (D:Int)then if(E 1==(14:Int)) then if(0:Int)<=(2:Int)/\2< (D:Int)then dn (E 2==(14:Int))else none else dn false else none else dn false else if(A==4) then if((D:Int)==1) then if(0:Int)<=(0:Int)/\0< (D:Int)then dn (E 0==(14:Int))else none else dn false else if(A==12) then dn ((D:Int)==0)else if(A==13) then dn ((D:Int)==0)else dn false
noncomputable def fg9(q:Nat)(x:s5):Option Bool:=ch9 x some
theorem ek5(q:Nat):Lw E5 122 oQ qX (fg9 q):=so hW5 hX5 (kb (iR hW5 hX5 20).1) λc β=>ch9 (β:=β)
abbrev cn7{β:Type}(x:g8)(dn:Bool->Option β):Option β:=
 if(x.1==4) then if decide (x.2.1>=1) then dn (decide (x.2.1<=100))else dn false else if(x.1==9) then if decide (x.2.1>=0) then dn (decide (x.2.1<=7))else dn false else if(x.1==10) then if decide (x.2.1>=0) then dn (decide (x.2.1<=7))else dn false else if(x.1==12) then if decide (x.2.1>=0) then dn (decide (x.2.1<=99))else dn false else if(x.1==13) then if decide (x.2.1>=0) then dn (decide (x.2.1<=999))else dn false else dn true
noncomputable def ff3(q:Nat)(x:g8):Option Bool:=cn7 x some
theorem ew4(q:Nat):Lw E5 123 eP qX (ff3 q):=so hW5 hX5 kn λc β=>cn7 (β:=β)
abbrev cq8:Type:=Int×Int×ByteArray×Nat×(Nat->List V)×Int×Nat×(Nat->ByteArray)×(Nat->Int)×(Nat->Int)×(Nat->Int)×(Nat->Int)×(Nat->Int)
def eg7:AR cq8:=λx=>([.agg [i64 x.1,i64 x.2.1,st x.2.2.1,.ro 4 x.p3 x.p4],i64 x.p5,.ro 6 x.p6 (λj=>[st (x.p7 j),i64 (x.p8 j),i64 (x.p9 j),i64 (x.p10 j),i64 (x.p11 j),i64 (x.q12 j)])],[])
theorem hi4:VI eg7:=vd λt=>((vI (ca t 0 0)),(vI (ca t 0 1)),(vS (ca t 0 2)),(r7 (ca t 0 3)),(aW (ca t 0 3)),(vI (ag t 1)),(r7 (ag t 2)),(dTS (ag t 2) 0),(dTI (ag t 2) 1),(dTI (ag t 2) 2),(dTI (ag t 2) 3),(dTI (ag t 2) 4),(dTI (ag t 2) 5))
abbrev wH:Type:=Int×Int×ByteArray×Nat×(Nat->Int)×(Nat->Int)×(Nat->ByteArray)×(Nat->Nat)×(Nat->Nat->List V)×Int×Nat×(Nat->ByteArray)×(Nat->Int)×(Nat->Int)×(Nat->Int)×(Nat->Int)×(Nat->Int)
def fe1:AR wH:=λx=>([.agg [i64 x.1,i64 x.2.1,st x.2.2.1,.ro 4 x.p3 (λj=>[i64 (x.p4 j),i64 (x.p5 j),st (x.p6 j),.ro 4 (x.p7 j) (x.p8 j)])],i64 x.p9,.ro 6 x.p10 (λj=>[st (x.p11 j),i64 (x.p12 j),i64 (x.p13 j),i64 (x.p14 j),i64 (x.p15 j),i64 (x.q16 j)])],[])
abbrev ca2{β:Type}(A:s5->Option Bool)(B:g8->Option Bool)(C:cq8->Option s6)(D:bc9->Option s6)(E:bP->Option Int)(F:at1->Option Int)(x:bc9)(dn:s6->Option β):Option β:=
 U16 x λG H I J K L M N O P Q R S T U W=>(A ((G,H,I,J,K,L,M,N,O))).bind λa=>if(!a) then dn ((P,Q,R,S,T,U,W,7))else(B ((G,H,I,J,λj=>[i64 (K j),i64 (L j),st (M j),V.ro 4 (N j) (O j)]))).bind λb=>if(!b) then dn ((P,Q,R,S,T,U,W,5))else if(G==14) then(C ((G,H,I,J,λj=>[i64 (K j),i64 (L j),st (M j),V.ro 4 (N j) (O j)],0,x.2.2.2.2.2.2.2.2.2))).bind λc=>dn c else if(G==4) then(C ((G,H,I,J,λj=>[i64 (K j),i64 (L j),st (M j),V.ro 4 (N j) (O j)],0,x.2.2.2.2.2.2.2.2.2))).bind λd=>dn d else if(G==1) then(D x).bind λe=>dn e else if(G==2) then(D x).bind λf=>dn f else if(G==3) then if(0:Int)<=(0:Int)/\0< (J:Int)then(E ((K 0,L 0,M 0,N 0,O 0,x.2.2.2.2.2.2.2.2.2))).bind λg=>if(g !=0) then dn ((P,Q,R,S,T,U,W,g))else(C ((G,H,I,J,λj=>[i64 (K j),i64 (L j),st (M j),V.ro 4 (N j) (O j)],1,x.2.2.2.2.2.2.2.2.2))).bind λh=>dn h else none else if(G==6) then if(0:Int)<=(0:Int)/\0< (J:Int)then(E ((K 0,L 0,M 0,N 0,O 0,x.2.2.2.2.2.2.2.2.2))).bind λi=>if(i !=0) then dn ((P,Q,R,S,T,U,W,i))else if(0:Int)<=(1:Int)/\1< (J:Int)then(F ((K 1,L 1,M 1,N 1,O 1,P,Q,R,S,T,U,W,0,0,1,0,0))).bind λk=>dn ((P,Q,R,S,T,U,W,k))else none else none else if(G==7) then if(0:Int)<=(0:Int)/\0< (J:Int)then(E ((K 0,L 0,M 0,N 0,O 0,x.2.2.2.2.2.2.2.2.2))).bind λl=>dn ((P,Q,R,S,T,U,W,l))else none else if(G==8) then if(0:Int)<=(0:Int)/\0< (J:Int)then(F ((K 0,L 0,M 0,N 0,O 0,P,Q,R,S,T,U,W,0,0,0,1,0))).bind λm=>dn ((P,Q,R,S,T,U,W,m))else none else if(G==5) then if(0:Int)<=(0:Int)/\0< (J:Int)then(F ((K 0,L 0,M 0,N 0,O 0,P,Q,R,S,T,U,W,0,0,1,0,0))).bind λn=>dn ((P,Q,R,S,T,U,W,n))else none else if(G==9) then if(0:Int)<=(0:Int)/\0< (J:Int)then(F ((K 0,L 0,M 0,N 0,O 0,P,Q,R,S,T,U,W,0,0,1,0,0))).bind λo=>dn ((P,Q,R,S,T,U,W,o))else none else if(G==10) then if(0:Int)<=(0:Int)/\0< (J:Int)then(F ((K 0,L 0,M 0,N 0,O 0,P,Q,R,S,T,U,W,0,1,0,0,0))).bind λp=>dn ((P,Q,R,S,T,U,W,p))else none else if(G==11) then if(0:Int)<=(0:Int)/\0< (J:Int)then(F ((K 0,L 0,M 0,N 0,O 0,P,Q,R,S,T,U,W,0,1,0,0,0))).bind λq=>dn ((P,Q,R,S,T,U,W,q))else none else dn ((P,Q,R,S,T,U,W,0))
def eu9(x:wH)(y:s6):St:={fr:=[V.junk,V.junk,V.ro 6 (y.1) λj=>[st (y.2.1 j),i64 (y.2.2.1 j),i64 (y.p3 j),i64 (y.p4 j),i64 (y.p5 j),i64 (y.p6 j)],V.ptr 0 0]++jk 4++[i64 (y.q7)]++jk 26,H:=hp [some (Z1.blk [i64 (x.1),i64 (x.2.1),st (x.2.2.1),V.ro 4 (x.p3) λj=>[i64 (x.p4 j),i64 (x.p5 j),st (x.p6 j),V.ro 4 (x.p7 j) (x.p8 j)]])],nx:=1,rt:=0,me:=124}
theorem ey4(x:wH):VL (eu9 x):=vl λs=>((r7 (fv s 2)),(dTS (fv s 2) 0),(dTI (fv s 2) 1),(dTI (fv s 2) 2),(dTI (fv s 2) 3),(dTI (fv s 2) 4),(dTI (fv s 2) 5),(vI (fv s 8)))
def ew1(x:wH):rW->Ex×St:=(Sum.elim (λz=>(Ex.ret,{fr:=jk 6++[V.ro 6 (z.1) λj=>[st (z.2.1 j),i64 (z.2.2.1 j),i64 (z.p3 j),i64 (z.p4 j),i64 (z.p5 j),i64 (z.p6 j)],i64 (z.q7)]++jk 27,H:=hp [],nx:=0,rt:=0,me:=124})) (λz=>(Ex.exit 0,{fr:=[V.junk,V.junk,V.ro 6 (z.1) λj=>[st (z.2.1 j),i64 (z.2.2.1 j),i64 (z.p3 j),i64 (z.p4 j),i64 (z.p5 j),i64 (z.q6 j)]]++jk 32,H:=hp [],nx:=0,rt:=0,me:=124})))
abbrev vT{β:Type}(A:bP->Option s6)(x:wH)(y:s6)(nx:s6->Option β)(dn:rW->Option β):Option β:=
 if decide (y.2.2.2.2.2.2.2< (x.2.2.2.1:Int)) then if 0<=y.2.2.2.2.2.2.2/\y.2.2.2.2.2.2.2< (x.2.2.2.1:Int)then(A ((x.2.2.2.2.1 (Int.toNat (y.2.2.2.2.2.2.2)),x.2.2.2.2.2.1 (Int.toNat (y.2.2.2.2.2.2.2)),x.2.2.2.2.2.2.1 (Int.toNat (y.2.2.2.2.2.2.2)),x.2.2.2.2.2.2.2.1 (Int.toNat (y.2.2.2.2.2.2.2)),x.2.2.2.2.2.2.2.2.1 (Int.toNat (y.2.2.2.2.2.2.2)),y.1,y.2.1,y.2.2.1,y.2.2.2.1,y.2.2.2.2.1,y.2.2.2.2.2.1,y.2.2.2.2.2.2.1))).bind λa=>if(a.2.2.2.2.2.2.2 !=0) then dn (.inl ((y.1,y.2.1,y.2.2.1,y.2.2.2.1,y.2.2.2.2.1,y.2.2.2.2.2.1,y.2.2.2.2.2.2.1,a.2.2.2.2.2.2.2)))else nx ((a.1,a.2.1,a.2.2.1,a.2.2.2.1,a.2.2.2.2.1,a.2.2.2.2.2.1,a.2.2.2.2.2.2.1,w (y.2.2.2.2.2.2.2+1)))else none else dn (.inr ((y.1,y.2.1,y.2.2.1,y.2.2.2.1,y.2.2.2.2.1,y.2.2.2.2.2.1,y.2.2.2.2.2.2.1)))
noncomputable def dr7(A:bP->Option s6)(q:Nat)(x:wH):s6->Option rW:=lpG (λy=>vT A x y (λy=>some (.inl y)) (λz=>some (.inr z))) q
abbrev cw1{β:Type}(A:bP->Option s6)(B:s6->Option rW)(x:wH)(dn:s6->Option β):Option β:=
 U17 x λA C D E F G H I J K L M N O P Q R=>(B ((L,M,N,O,P,Q,R,K))).bind λa=>Sum.elim (λb=>dn b) (λc=>dn ((c.1,c.2.1,c.2.2.1,c.2.2.2.1,c.2.2.2.2.1,c.2.2.2.2.2.1,c.2.2.2.2.2.2,0))) a
open Classical in
noncomputable def rSB:Nat->(bP->Option s6)×(cq8->Option s6)
 |0=>(λ_=>none,λ_=>none)
 |q+1=>(λx=>if hJ (x.2.2.2.2.1)then ca2 (fg9 q) (ff3 q) (rSB q).2 (gu6 q) (fa0 q) (bv7 q) (x.1,x.2.1,x.2.2.1,x.2.2.2.1,opK x.2.2.2.2.1,opN x.2.2.2.2.1,opS x.2.2.2.2.1,opM x.2.2.2.2.1,opF x.2.2.2.2.1,x.2.2.2.2.2.1,x.2.2.2.2.2.2.1,x.2.2.2.2.2.2.2.1,x.2.2.2.2.2.2.2.2.1,x.2.2.2.2.2.2.2.2.2.1,x.2.2.2.2.2.2.2.2.2.2.1,x.2.2.2.2.2.2.2.2.2.2.2) some else none,
  λx=>if hJ (x.2.2.2.2.1)then cw1 (rSB q).1 (dr7 (rSB q).1 q (x.1,x.2.1,x.2.2.1,x.2.2.2.1,opK x.2.2.2.2.1,opN x.2.2.2.2.1,opS x.2.2.2.2.1,opM x.2.2.2.2.1,opF x.2.2.2.2.1,x.2.2.2.2.2.1,x.2.2.2.2.2.2.1,x.2.2.2.2.2.2.2.1,x.2.2.2.2.2.2.2.2.1,x.2.2.2.2.2.2.2.2.2.1,x.2.2.2.2.2.2.2.2.2.2.1,x.2.2.2.2.2.2.2.2.2.2.2.1,x.2.2.2.2.2.2.2.2.2.2.2.2)) (x.1,x.2.1,x.2.2.1,x.2.2.2.1,opK x.2.2.2.2.1,opN x.2.2.2.2.1,opS x.2.2.2.2.1,opM x.2.2.2.2.1,opF x.2.2.2.2.1,x.2.2.2.2.2.1,x.2.2.2.2.2.2.1,x.2.2.2.2.2.2.2.1,x.2.2.2.2.2.2.2.2.1,x.2.2.2.2.2.2.2.2.2.1,x.2.2.2.2.2.2.2.2.2.2.1,x.2.2.2.2.2.2.2.2.2.2.2.1,x.2.2.2.2.2.2.2.2.2.2.2.2) some else none)
noncomputable def co6(q:Nat):bP->Option s6:=(rSB q).1
noncomputable def gx4(q:Nat):cq8->Option s6:=(rSB q).2
theorem hf9:∀q,Lw E5 65 rY xE (co6 q)/\Lw E5 124 eg7 xE (gx4 q):=by
 intro q
 induction q with
 |zero=>exact⟨(λx z h=>by cases h),(λx z h=>by cases h)⟩
 |succ q ih=>
  obtain⟨h0,h1⟩:=ih;refine⟨λx z h=>?_,λx z h=>?_⟩
  ·unfold co6 rSB at h;dsimp only at h;split at h
   ·rename_i hO;have this:=(so hW5 hX5 (kc fj5 (ek5 q) (kc cJ (ew4 q) (kc hi4 h1 (kc hm4 (gu8 q) (kc sQ (gr1 q) (kc gg5 (fv3 q) kn)))))) λc β=>ca2 (β:=β) c.1 c.2.1 c.2.2.1 c.2.2.2.1 c.2.2.2.2.1 c.2.2.2.2.2.1:Lw E5 65 az8 xE _) (x.1,x.2.1,x.2.2.1,x.2.2.2.1,opK x.2.2.2.2.1,opN x.2.2.2.2.1,opS x.2.2.2.2.1,opM x.2.2.2.2.1,opF x.2.2.2.2.1,x.2.2.2.2.2.1,x.2.2.2.2.2.2.1,x.2.2.2.2.2.2.2.1,x.2.2.2.2.2.2.2.2.1,x.2.2.2.2.2.2.2.2.2.1,x.2.2.2.2.2.2.2.2.2.2.1,x.2.2.2.2.2.2.2.2.2.2.2) z h;unfold az8 at this;unfold rY;simp only at this⊢;rw[cY hO]at this;exact this
   ·cases h
  ·unfold gx4 rSB at h;dsimp only at h;split at h
   ·rename_i hO;have this:=(have K:=(kc sQ h0 kn);sl hW5 hX5 K (λx=>(lc 0 (ey4 x) (lp hX5 (ew1 x) 124 0 268 [(0,4)] 192 K ln q λc l β=>vT (β:=β) c.1 x) ln)) λc l β=>cw1 (β:=β) c.1 l.1:Lw E5 124 fe1 xE _) (x.1,x.2.1,x.2.2.1,x.2.2.2.1,opK x.2.2.2.2.1,opN x.2.2.2.2.1,opS x.2.2.2.2.1,opM x.2.2.2.2.1,opF x.2.2.2.2.1,x.2.2.2.2.2.1,x.2.2.2.2.2.2.1,x.2.2.2.2.2.2.2.1,x.2.2.2.2.2.2.2.2.1,x.2.2.2.2.2.2.2.2.2.1,x.2.2.2.2.2.2.2.2.2.2.1,x.2.2.2.2.2.2.2.2.2.2.2.1,x.2.2.2.2.2.2.2.2.2.2.2.2) z h;unfold fe1 at this;unfold eg7;simp only at this⊢;rw[cY hO]at this;exact this
   ·cases h
theorem ge5(q:Nat):Lw E5 65 rY xE (co6 q):=(hf9 q).1
abbrev br0{β:Type}(A:cX->Option s6)(B:bP->Option s6)(x:j3)(dn:Int->Option β):Option β:=
 U9 x λC D E F G H I J K=>(A ((D,E,F))).bind λa=>if(a.2.2.2.2.2.2.2 !=0) then dn (a.2.2.2.2.2.2.2)else if(!G==14) then dn (7)else(B ((G,H,I,J,K,a.1,a.2.1,a.2.2.1,a.2.2.2.1,a.2.2.2.2.1,a.2.2.2.2.2.1,a.2.2.2.2.2.2.1))).bind λb=>dn (b.2.2.2.2.2.2.2)
noncomputable def yN(q:Nat)(x:j3):Option Int:=br0 (at8 q) (co6 q) x some
theorem fq2(q:Nat):Lw E5 21 oT eL (yN q):=so hW5 hX5 (kc gq2 (ek8 q) (kc sQ (ge5 q) (kb (iR hW5 hX5 20).1))) λc β=>br0 (β:=β) c.1 c.2.1
end
end Go.Proofs.YtbmbhcheonjigaaGreatDoor
namespace Go.Proofs.Lx
section
open Go
def g9(g:Int->Bool)(l:List UInt8):Nat:=(l.takeWhile (λb=>g b.toNat)).length
def ds7(g:Int->Bool):Prop:=∀c:Int,128<=c->g c=g 128
theorem bj0(s:ByteArray)(p n:Nat)(h:p<s.size)(hn:1<=n)(hc:∀k,1<=k->k<n->p+k<s.size/\128<=(s.get! (p+k)).toNat):
 1<=n/\p+n<=s.size/\∀j,p<j->j<p+n->128<=(s.get! j).toNat:=by
 refine⟨hn,?_,λj h1 h2=>?_⟩
 ·rcases Nat.lt_or_ge 1 n with hl|hl
  ·have:=(hc (n-1) (by omega) (by omega)).1;omega
  ·omega
 ·have:=(hc (j-p) (by omega) (by omega)).2
  rwa [show p+(j-p)=j by omega]at this
theorem qL(s:ByteArray)(p:Nat)(h:p<s.size):
 1<=(Utf8.decode s p).2/\p+(Utf8.decode s p).2<=s.size/\∀j,p<j->j<p+(Utf8.decode s p).2->128<=(s.get! j).toNat:=by
 have hc:∀k,(decide (p+k<s.size)&&((s.get! (p+k)).toNat/64==2))=true->p+k<s.size/\128<=(s.get! (p+k)).toNat:=by
  intro k hk;simp at hk;omega
 have one:=bj0 s p 1 h (by omega) (λk h1 h2=>by omega);simp only[Utf8.decode];split
 ·exact one
 ·split
  ·rename_i hx;rw[Bool.and_eq_true]at hx;have h1:=hc 1 hx.2;split
   ·exact bj0 s p 2 h (by omega) (λk hk1 hk2=>by obtain rfl:k=1:=(by omega);exact h1)
   ·exact one
  ·split
   ·rename_i hx;rw[Bool.and_eq_true,Bool.and_eq_true]at hx;have h1:=hc 1 hx.1.2;have h2:=hc 2 hx.2;split
    ·refine bj0 s p 3 h (by omega) (λk hk1 hk2=>?_);have:k=1\/k=2:=by omega
     rcases this with rfl|rfl
     ·exact h1
     ·exact h2
    ·exact one
   ·split
    ·rename_i hx;rw[Bool.and_eq_true,Bool.and_eq_true,Bool.and_eq_true]at hx;have h1:=hc 1 hx.1.1.2;have h2:=hc 2 hx.1.2;have h3:=hc 3 hx.2;split
     ·refine bj0 s p 4 h (by omega) (λk hk1 hk2=>?_);have:k=1\/k=2\/k=3:=by omega
      rcases this with rfl|rfl|rfl
      ·exact h1
      ·exact h2
      ·exact h3
     ·exact one
    ·exact one
theorem kK(s:ByteArray)(p:Nat)(h:p<s.size):s.data.toList[p]? =some (s.get! p):=by
 rw[List.getElem?_eq_getElem (by simpa using h)];congr 1;have:=get_at s p h;simp only[Nat.add_zero]at this;rw[this];rfl
theorem mG(s:ByteArray)(g:Int->Bool)(hf:ds7 g)(p:Nat)(h:p<s.size):g ((Utf8.decode s p).1:Int)=g ((s.get! p).toNat:Int):=by
 have e:=get_at s p h;simp only[Nat.add_zero]at e;by_cases ha:(s.get! p).toNat<128
 ·rw[decode_ascii s p h (by rw[<-e];exact ha),<-e]
 ·have hh:=(decode_high s p h (by rw[<-e];omega)).1;rw[hf _ (by omega),hf ((s.get! p).toNat:Int) (by omega)]
theorem y9(s:ByteArray)(p:Nat)(h:p<s.size):s.data.toList.drop p=s.get! p::s.data.toList.drop (p+1):=by
 have hg:=kK s p h;rw[List.getElem?_eq_some_iff]at hg;obtain⟨hl,he⟩:=hg;rw[List.drop_eq_getElem_cons hl,he]
theorem cp2(s:ByteArray)(g:Int->Bool)(p:Nat)(h:p<s.size)(hg:g ((s.get! p).toNat:Int)=false):g9 g (s.data.toList.drop p)=0:=by
 rw[y9 s p h];simp[g9,hg]
theorem ci1(s:ByteArray)(g:Int->Bool)(n:Nat):∀p,p+n<=s.size->(∀j,p<=j->j<p+n->g ((s.get! j).toNat:Int)=true)->g9 g (s.data.toList.drop p)=n+g9 g (s.data.toList.drop (p+n)):=by
 induction n with
 |zero=>intro p _ _;simp
 |succ n ih=>
  intro p h hg;have h0:=hg p (by omega) (by omega);rw[y9 s p (by omega)];have:=ih (p+1) (by omega) (λj h1 h2=>hg j (by omega) (by omega));have e:p+(n+1)=p+1+n:=by omega
  rw[e,g9,List.takeWhile_cons,h0];simp only[if_true,List.length_cons];unfold g9 at this;unfold g9;omega
theorem bz9(s:ByteArray)(g:Int->Bool):g9 g (s.data.toList.drop s.size)=0:=by
 rw[List.drop_of_length_le (by simp)];rfl
theorem ft0(s:ByteArray)(g:Int->Bool)(hf:ds7 g)(p:Nat)(h:p<s.size)(hg:g ((Utf8.decode s p).1:Int)=true):
 g9 g (s.data.toList.drop p)=(Utf8.decode s p).2+g9 g (s.data.toList.drop (p+(Utf8.decode s p).2)):=by
 obtain⟨h1,h2,h3⟩:=qL s p h;refine ci1 s g _ p h2 λj hj1 hj2=>?_;rw[mG s g hf p h]at hg;rcases Nat.eq_or_lt_of_le hj1 with rfl|hlt
 ·exact hg
 ·have hb:=h3 j hlt hj2;have hcont:1< (Utf8.decode s p).2:=by omega
  have hhi:128<=(s.get! p).toNat:=by
   rcases Nat.lt_or_ge (s.get! p).toNat 128 with hl|hl
   ·have e:=get_at s p h;simp only[Nat.add_zero]at e;rw[decode_ascii s p h (by rw[<-e];exact hl)]at hcont;simp at hcont
   ·exact hl
  rw[hf _ (by omega)]at hg⊢;exact hg
theorem y4(r:ByteArray)(a b:Nat):(r.extract a b).data.toList=(r.data.toList.drop a).take (b-a):=by
 simp[ByteArray.data_extract,List.extract_eq_take_drop]
def sym1:List UInt8:=[123,125,40,41,61,59,44,58,60,62,43,45,42,47,33,46]
def oF:List (List UInt8):=[[124,124],[38,38],[60,61],[62,61],[61,61],[33,61]]
def lK(l:List UInt8):Nat:=
 if 1<l.length/\l.take 2∈oF then 2 else cond ((l.head?).any (λb=>sym1.contains b)) 1 0
theorem fd2(l:List UInt8)(c:UInt8):l.contains c=true↔0<=Lib.indexByte l c:=by
 induction l with
 |nil=>simp[Lib.indexByte]
 |cons b l ih=>
  have hg:=Lib.indexByte_ge l c;have e:Lib.indexByte (b::l) c=if b==c then 0 else if Lib.indexByte l c== -1 then-1 else Lib.indexByte l c+1:=rfl
  rw[e,List.contains_cons,Bool.or_eq_true,ih];by_cases hb:b=c
  ·subst hb;simp
  ·have hb':(b==c)=false:=by simpa using hb
   have hc':¬((c==b)=true):=by simpa using λh=>hb h.symm
   simp only[hb',Bool.false_eq_true,if_false,hc',false_or];by_cases hm:Lib.indexByte l c= -1
   ·simp[hm]
   ·have:(Lib.indexByte l c== -1)=false:=by simpa using hm
    simp only[this,Bool.false_eq_true,if_false];omega
theorem ge0{r t:ByteArray}(h1:1<r.size)(ht:t=r.extract 0 2)(hm:t.data.toList∈oF):lK r.data.toList=2:=by
 rw[ht,y4]at hm;simp only[List.drop_zero]at hm;unfold lK;rw[if_pos ⟨by simpa using h1,hm⟩]
theorem dl3{r:ByteArray}(h0:0<r.size)(hm:¬(1<r.data.toList.length/\r.data.toList.take 2∈oF)):lK r.data.toList=if(0:Int)<=Lib.indexByte sym1 r[0]then 1 else 0:=by
 have hg:=y9 r 0 h0;have e:=get_at r 0 h0;simp only[Nat.add_zero]at e;rw[List.drop_zero,e]at hg;unfold lK;rw[if_neg hm,hg];simp only[List.head?_cons,Option.any_some];by_cases h:(0:Int)<=Lib.indexByte sym1 r[0]
 ·rw[if_pos h,(fd2 _ _).2 h];rfl
 ·rw[if_neg h,Bool.eq_false_iff.2 (λh'=>h ((fd2 _ _).1 h'))];rfl
theorem dx9{r t:ByteArray}(ht:t=r.extract 0 2)(hm:∀l∈oF,t≠⟨l.toArray⟩):¬(1<r.data.toList.length/\r.data.toList.take 2∈oF):=by
 rintro⟨_,h⟩;refine hm _ h ?_;rw[ht];have:=y4 r 0 2;simp only[List.drop_zero]at this;rw[<-this]
structure Tkn where
 k:Int
 a:Int
 t:ByteArray
 n:Int
def Tkn.cells(x:Tkn):List Value:=[.int .i64 x.k,.int .i64 x.a,.string x.t,.int .i64 x.n]
def aC(c:Int):Bool:=decide (97<=c/\c<=122)||decide (65<=c/\c<=90)
def j8(c:Int):Bool:=decide (48<=c/\c<=57)
def aT(c:Int):Bool:=decide (c=32\/c=9\/c=10\/c=13)
def bG(c:Int):Bool:=aC c||j8 c
def uN:Tkn:=⟨0,0,⟨#[]⟩,0⟩
def aa9(n:Int)(l:List UInt8):Int:=l.foldl (λn b=>10*n+((b.toNat:Int)-48)) n
def ai7(r:ByteArray):Tkn×Int:=if 12<g9 bG r.data.toList then(uN,2)else(⟨1,0,r.extract 0 (g9 bG r.data.toList),0⟩,0)
def gZ(t:ByteArray):Tkn×Int:=
 if 1<t.size/\t.data.toList[0]? =some 48 then(uN,11)
 else if aa9 0 t.data.toList>2147483647 then(uN,5)
 else(⟨2,0,t,aa9 0 t.data.toList⟩,0)
def eS(r:ByteArray):Tkn×Int:=if lK r.data.toList=0 then(uN,11)else(⟨3,0,r.extract 0 (lK r.data.toList),0⟩,0)
def fH(s:ByteArray)(p:Nat):Tkn×Int:=
 if aC (s.get! p).toNat then ai7 (s.extract p s.size)
 else if j8 (s.get! p).toNat then gZ ((s.extract p s.size).extract 0 (g9 j8 (s.extract p s.size).data.toList))
 else eS (s.extract p s.size)
def bS(c:Int):Bool:= !(c==10)
inductive Lex(s:ByteArray):Nat->List Tkn->List Tkn×Nat×Int->Prop where
 |fin {p:Nat} {acc:List Tkn}:s.size<=p->Lex s p acc (acc++[⟨0,s.size,⟨#[]⟩,0⟩],0,0)
 |white {p:Nat} {acc:List Tkn} {r:List Tkn×Nat×Int}:p<s.size->aT (s.get! p).toNat=true->Lex s (p+1) acc r->Lex s p acc r
 |hash {p:Nat} {acc:List Tkn} {r:List Tkn×Nat×Int}:p<s.size->(s.get! p).toNat=35->Lex s (p+g9 bS (s.data.toList.drop p)) acc r->Lex s p acc r
 |tok {p:Nat} {acc:List Tkn} {r:List Tkn×Nat×Int} {x:Tkn}:p<s.size->aT (s.get! p).toNat=false->(s.get! p).toNat≠35->fH s p=(x,0)->Lex s (p+x.t.size) (acc++[{x with a:=p}]) r->Lex s p acc r
 |err {p:Nat} {acc:List Tkn} {x:Tkn} {e:Int}:p<s.size->aT (s.get! p).toNat=false->(s.get! p).toNat≠35->fH s p=(x,e)->e≠0->Lex s p acc ([],p,e)
def Bd(s:ByteArray)(p d:Nat):Prop:=(∀j,p<=j->j<d->(s.get! j).toNat<128)\/d=s.size\/(d<s.size/\(s.get! d).toNat<128)
theorem Bd.step{s:ByteArray}{p d:Nat}(h:Bd s p d)(hp:p<d)(hd:d<=s.size):p+(Utf8.decode s p).2<=d/\Bd s (p+(Utf8.decode s p).2) d:=by
 have hl:=qL s p (by omega);refine⟨?_,?_⟩
 ·rcases h with h|h| ⟨h1,h2⟩
  ·have h0:=h p (Nat.le_refl _) hp;have e:=get_at s p (by omega);simp only[Nat.add_zero]at e;rw[decode_ascii s p (by omega) (by rw[<-e];exact h0)];exact hp
  ·omega
  ·rcases Nat.lt_or_ge d (p+(Utf8.decode s p).2)with hlt|hge
   ·have:=hl.2.2 d hp hlt;omega
   ·exact hge
 ·exact h.imp (λh j hj1 hj2=>h j (by omega) hj2) id
theorem Bd.refl(s:ByteArray)(p d:Nat)(h:d<=p):Bd s p d:=.inl λj h1 h2=>by omega
theorem mK(g:Int->Bool)(l:List UInt8):g9 g l<=l.length:=(List.takeWhile_sublist _).length_le
theorem aw0(g:Int->Bool)(l:List UInt8):∀j,j<g9 g l->∃b,l[j]? =some b/\g b.toNat=true:=by
 induction l with
 |nil=>intro j h;simp[g9]at h
 |cons b l ih=>
  intro j h;cases hb:g b.toNat
  ·simp[g9,List.takeWhile_cons,hb]at h
  ·cases j with
   |zero=>exact⟨b,rfl,hb⟩
   |succ j=>
    have:j<g9 g l:=by
     simp only[g9,List.takeWhile_cons,hb,if_true,List.length_cons]at h⊢;omega
    obtain⟨c,h1,h2⟩:=ih j this;exact⟨c,by simpa using h1,h2⟩
theorem cj9(g:Int->Bool)(b:UInt8)(l:List UInt8)(h:g b.toNat=true):1<=g9 g (b::l):=by
 simp[g9,List.takeWhile_cons,h]
theorem nL(s:ByteArray)(p:Nat)(h:p<=s.size):(s.extract p s.size).data.toList=s.data.toList.drop p:=by
 rw[y4,List.take_of_length_le (by simp)]
theorem gf2(s:ByteArray)(p:Nat):(s.extract p s.size).size=s.size-p:=by simp
theorem hg9{a b:ByteArray}(h:a.data.toList=b.data.toList):a=b:=by
 obtain⟨⟨a⟩⟩:=a;obtain⟨⟨b⟩⟩:=b;simp only at h;rw[h]
theorem bm0(s:ByteArray)(p n:Nat)(h:p+n<=s.size):(s.extract p s.size).extract 0 n=s.extract p (p+n):=by
 have e:((s.extract p s.size).extract 0 n).data.toList=(s.extract p (p+n)).data.toList:=by
  rw[y4,y4,y4,List.drop_zero,Nat.sub_zero,List.take_take,Nat.min_eq_left (by omega),Nat.add_sub_cancel_left]
 exact hg9 e
theorem gq7(s:ByteArray)(j:Nat)(b:UInt8)(h:s.data.toList[j]? =some b):j<s.size/\s.get! j=b:=by
 have hl:j<s.size:=by
  rw[List.getElem?_eq_some_iff]at h;obtain⟨h,_⟩:=h;simpa using h
 rw[kK s j hl]at h;exact⟨hl,by injection h⟩
theorem fv6(c:Int)(h:bG c=true):c<128:=by simp[bG,aC,j8]at h;omega
theorem dy9(c:Int)(h:j8 c=true):c<128:=by simp[j8]at h;omega
theorem em3{s:ByteArray}{p:Nat}(g:Int->Bool)(hg:∀c,g c=true->c<128)(hp:p<s.size)(h0:g (s.get! p).toNat=true):
 1<=g9 g (s.data.toList.drop p)/\p+g9 g (s.data.toList.drop p)<=s.size/\∀j,p<=j->j<p+g9 g (s.data.toList.drop p)->(s.get! j).toNat<128:=by
 refine⟨?_,?_,?_⟩
 ·rw[y9 s p hp];exact cj9 g _ _ h0
 ·have:=mK g (s.data.toList.drop p);simp at this;omega
 ·intro j h1 h2;obtain⟨b,hb,hgb⟩:=aw0 g (s.data.toList.drop p) (j-p) (by omega);rw[List.getElem?_drop,show p+(j-p)=j by omega]at hb;rw[(gq7 s j b hb).2];have:=hg _ hgb;omega
theorem ez6{s:ByteArray}{p:Nat}(hp:p<s.size)(hn:lK (s.data.toList.drop p)≠0):
 1<=lK (s.data.toList.drop p)/\p+lK (s.data.toList.drop p)<=s.size/\∀j,p<=j->j<p+lK (s.data.toList.drop p)->(s.get! j).toNat<128:=by
 unfold lK at hn⊢;by_cases h2:1< (s.data.toList.drop p).length/\(s.data.toList.drop p).take 2∈oF
 ·rw[if_pos h2];obtain⟨hl,hm⟩:=h2;have hl':p+2<=s.size:=by simp at hl;omega
  refine⟨by omega,hl',λj h1 h2=>?_⟩;rw[y9 s p hp,y9 s (p+1) (by omega)]at hm;simp only[List.take_succ_cons,List.take_zero,oF,List.mem_cons,List.cons.injEq,and_true,List.not_mem_nil,or_false]at hm;have hj:j=p\/j=p+1:=by omega
  rcases hj with rfl|rfl<;>rcases hm with h|h|h|h|h|h<;>simp[h.1,h.2]
 ·rw[if_neg h2]at hn⊢;rw[y9 s p hp]at hn⊢;simp only[List.head?_cons,Option.any_some]at hn⊢;cases hc:sym1.contains (s.get! p)
  ·rw[hc]at hn;exact absurd rfl hn
  ·simp only[cond_true];refine⟨by omega,by omega,λj h1 h2=>?_⟩;obtain rfl:j=p:=by omega
   have hm:=List.contains_iff_mem.1 hc;simp only[sym1,List.mem_cons,List.not_mem_nil,or_false]at hm;rcases hm with h|h|h|h|h|h|h|h|h|h|h|h|h|h|h|h<;>simp[h]
theorem vZ{s:ByteArray}{p:Nat}{x:Tkn}(hp:p<s.size)(h:fH s p=(x,0)):
 x.a=0/\1<=x.t.size/\p+x.t.size<=s.size/\x.t=s.extract p (p+x.t.size)/\∀j,p<=j->j<p+x.t.size->(s.get! j).toNat<128:=by
 have hsz:∀n,p+n<=s.size->(s.extract p (p+n)).size=n:=λn hn=>by simp;omega
 have fin:∀n,1<=n->p+n<=s.size->(∀j,p<=j->j<p+n->(s.get! j).toNat<128)->∀y:Tkn,y.a=0->y.t=(s.extract p s.size).extract 0 n->
  y.a=0/\1<=y.t.size/\p+y.t.size<=s.size/\y.t=s.extract p (p+y.t.size)/\∀j,p<=j->j<p+y.t.size->(s.get! j).toNat<128:=by
  intro n h1 h2 h3 y ha hy;rw[bm0 s p n h2]at hy;rw[hy,hsz n h2];exact⟨ha,h1,h2,rfl,h3⟩
 unfold fH at h;by_cases hl:aC (s.get! p).toNat=true
 ·rw[if_pos hl]at h;unfold ai7 at h;by_cases h12:12<g9 bG (s.extract p s.size).data.toList
  ·rw[if_pos h12]at h;simp at h
  ·rw[if_neg h12,nL s p (by omega)]at h;have hw:bG (s.get! p).toNat=true:=by simp[bG,hl]
   obtain⟨h1,h2,h3⟩:=em3 bG fv6 hp hw;simp only[Prod.mk.injEq,and_true]at h;subst h;exact fin _ h1 h2 h3 _ rfl rfl
 ·rw[if_neg hl]at h;by_cases hd:j8 (s.get! p).toNat=true
  ·rw[if_pos hd,nL s p (by omega)]at h;obtain⟨h1,h2,h3⟩:=em3 j8 dy9 hp hd;unfold gZ at h;split at h
   ·simp at h
   ·split at h
    ·simp at h
    ·simp only[Prod.mk.injEq,and_true]at h;subst h;exact fin _ h1 h2 h3 _ rfl rfl
  ·rw[if_neg hd]at h;unfold eS at h;rw[nL s p (by omega)]at h;by_cases h0:lK (s.data.toList.drop p)=0
   ·rw[if_pos h0]at h;simp at h
   ·rw[if_neg h0]at h;obtain⟨h1,h2,h3⟩:=ez6 hp h0;simp only[Prod.mk.injEq,and_true]at h;subst h;exact fin _ h1 h2 h3 _ rfl rfl
theorem dg6 {s : ByteArray} {p : Nat} (hp : p < s.size) (h : (s.get! p).toNat = 35) :
 1 <= g9 bS (s.data.toList.drop p) /\ p + g9 bS (s.data.toList.drop p) <= s.size /\ Bd s p (p + g9 bS (s.data.toList.drop p)) := by
 have h1 : 1 <= g9 bS (s.data.toList.drop p) := by rw [y9 s p hp]; exact cj9 _ _ _ (by rw [h]; rfl)
 have h2 : p + g9 bS (s.data.toList.drop p) <= s.size := by
  have := mK bS (s.data.toList.drop p);simp at this;omega
 refine ⟨h1, h2, ?_⟩;rcases Nat.eq_or_lt_of_le h2 with he | hlt
 ·exact .inr (.inl he)
 ·right; right;refine ⟨hlt, ?_⟩
  -- the byte behind the kY is a line feed
  have key : ∀ (l : List UInt8), g9 bS l < l.length -> l[g9 bS l]? = some 10 := by
   intro l
   induction l with
   | nil => intro h; simp at h
   | cons b l ih =>
    intro h;cases hb : bS b.toNat
    ·have : b.toNat = 10 := by simp [bS] at hb; omega
     have hb10 : b = 10 := UInt8.toNat_inj.1 (by simpa using this);simp [g9, hb10, bS]
    ·have e : g9 bS (b :: l) = g9 bS l + 1 := by simp [g9, List.takeWhile_cons, hb]
     rw [e] at h ⊢;simpa using ih (by simpa using h)
  have := key (s.data.toList.drop p) (by simp; omega);rw [List.getElem?_drop] at this;rw [(gq7 s _ _ this).2];decide
theorem gu1{s:ByteArray}{p:Nat}{acc:List Tkn}{r r':List Tkn×Nat×Int}(h:Lex s p acc r):Lex s p acc r'->r=r':=by
 induction h with
 |fin hp=>intro h';cases h'<;>first|rfl|omega
 |white hp hw _ ih=>
  intro h';cases h' with
  |fin h=>omega
  |white _ _ h=>exact ih h
  |hash _ h35 _=>rw[h35]at hw;exact absurd hw (by decide)
  |tok _ h _ _ _=>rw[hw]at h;cases h
  |err _ h _ _ _=>rw[hw]at h;cases h
 |hash hp h35 _ ih=>
  intro h';cases h' with
  |fin h=>omega
  |white _ hw _=>rw[h35]at hw;exact absurd hw (by decide)
  |hash _ _ h=>exact ih h
  |tok _ _ h _ _=>exact absurd h35 h
  |err _ _ h _ _=>exact absurd h35 h
 |tok hp hw h35 ht _ ih=>
  intro h';cases h' with
  |fin h=>omega
  |white _ h _=>rw[hw]at h;cases h
  |hash _ h _=>exact absurd h h35
  |tok _ _ _ h h2=>
   rw[ht]at h;simp only[Prod.mk.injEq,and_true]at h;subst h;exact ih h2
  |err _ _ _ h he=>
   rw[ht]at h;simp only[Prod.mk.injEq]at h;exact absurd h.2.symm he
 |err hp hw h35 ht he=>
  intro h';cases h' with
  |fin h=>omega
  |white _ h _=>rw[hw]at h;cases h
  |hash _ h _=>exact absurd h h35
  |tok _ _ _ h _=>
   rw[ht]at h;simp only[Prod.mk.injEq]at h;exact absurd h.2 he
  |err _ _ _ h _=>
   rw[ht]at h;simp only[Prod.mk.injEq]at h;rw[h.2]
def ek4(s:ByteArray):Nat->Nat->List Tkn->Option (List Tkn×Nat×Int)
 |0,_,_=>none
 |f+1,p,acc=>
  if p<s.size then
   if aT (s.get! p).toNat then ek4 s f (p+1) acc
   else if(s.get! p).toNat=35 then ek4 s f (p+g9 bS (s.data.toList.drop p)) acc
   else if(fH s p).2=0 then ek4 s f (p+(fH s p).1.t.size) (acc++[{(fH s p).1 with a:=p}])
   else some ([],p,(fH s p).2)
  else some (acc++[⟨0,s.size,⟨#[]⟩,0⟩],0,0)
theorem fi9{s:ByteArray}:∀(f p:Nat) (acc:List Tkn) (r:List Tkn×Nat×Int),ek4 s f p acc=some r->Lex s p acc r:=by
 intro f
 induction f with
 |zero=>intro p acc r h;simp[ek4]at h
 |succ f ih=>
  intro p acc r h;rw[ek4]at h;by_cases hp:p<s.size
  ·rw[if_pos hp]at h;by_cases hw:aT (s.get! p).toNat=true
   ·rw[if_pos hw]at h;exact .white hp hw (ih _ _ _ h)
   ·rw[if_neg hw]at h;have hw':aT (s.get! p).toNat=false:=by simpa using hw
    by_cases h35:(s.get! p).toNat=35
    ·rw[if_pos h35]at h;exact .hash hp h35 (ih _ _ _ h)
    ·rw[if_neg h35]at h;by_cases ht:(fH s p).2=0
     ·rw[if_pos ht]at h;exact .tok (x:=(fH s p).1) hp hw' h35 (Prod.ext rfl ht) (ih _ _ _ h)
     ·rw[if_neg ht,Option.some.injEq]at h;subst h;exact .err (x:=(fH s p).1) hp hw' h35 rfl ht
  ·rw[if_neg hp,Option.some.injEq]at h;subst h;exact .fin (by omega)
def fP(s:ByteArray)(r:List Tkn×Nat×Int):Prop:=(4000<s.size/\r=([],4000,2))\/(s.size<=4000/\Lex s 0 [] r)
theorem mL{s:ByteArray}{r r':List Tkn×Nat×Int}(h:fP s r)(h':fP s r'):r=r':=by
 rcases h with⟨h1,rfl⟩ | ⟨h1,h2⟩<;>rcases h' with⟨h3,rfl⟩ | ⟨h3,h4⟩
 ·rfl
 ·omega
 ·omega
 ·exact gu1 h2 h4
abbrev sOr:ByteArray:=⟨#[124,124]⟩
abbrev zI:ByteArray:=⟨#[38,38]⟩
abbrev sLt:ByteArray:=⟨#[60]⟩
abbrev sLe:ByteArray:=⟨#[60,61]⟩
abbrev sGt:ByteArray:=⟨#[62]⟩
abbrev sGe:ByteArray:=⟨#[62,61]⟩
abbrev sEq:ByteArray:=⟨#[61,61]⟩
abbrev sNe:ByteArray:=⟨#[33,61]⟩
abbrev dw1:ByteArray:=⟨#[43]⟩
abbrev yC:ByteArray:=⟨#[45]⟩
abbrev do7:ByteArray:=⟨#[42]⟩
abbrev ex7:ByteArray:=⟨#[47]⟩
abbrev bt3:ByteArray:=⟨#[33]⟩
abbrev kB:ByteArray:=⟨#[40]⟩
abbrev dV:ByteArray:=⟨#[41]⟩
abbrev ct2:ByteArray:=⟨#[123]⟩
abbrev rN:ByteArray:=⟨#[125]⟩
abbrev am6:ByteArray:=⟨#[61]⟩
abbrev ai6:ByteArray:=⟨#[59]⟩
abbrev bM:ByteArray:=⟨#[44]⟩
abbrev vY:ByteArray:=⟨#[58]⟩
abbrev fw6:ByteArray:=⟨#[46]⟩
abbrev aS:ByteArray:=⟨#[112,114,111,99,101,100,117,114,101]⟩
abbrev bo5:ByteArray:=⟨#[108,101,116]⟩
abbrev ex2:ByteArray:=⟨#[105,102]⟩
abbrev ax0:ByteArray:=⟨#[101,108,115,101]⟩
abbrev qD:ByteArray:=⟨#[114,101,112,101,97,116]⟩
abbrev am9:ByteArray:=⟨#[119,97,105,116]⟩
abbrev wX:ByteArray:=⟨#[97,119,97,105,116]⟩
abbrev mV:ByteArray:=⟨#[119,105,116,104,105,110]⟩
abbrev lF:ByteArray:=⟨#[114,101,113,117,105,114,101]⟩
abbrev mA:ByteArray:=⟨#[112,111,105,110,116]⟩
abbrev ar8:ByteArray:=⟨#[117,115,101]⟩
abbrev bf7:ByteArray:=⟨#[102,111,114]⟩
abbrev aj4:ByteArray:=⟨#[115,101,110,100]⟩
abbrev tC:ByteArray:=⟨#[107,101,101,112]⟩
abbrev xU:ByteArray:=⟨#[101,109,105,116]⟩
abbrev nZ:ByteArray:=⟨#[97,98,111,114,116]⟩
abbrev bb7:ByteArray:=⟨#[116,114,117,101]⟩
abbrev ag2:ByteArray:=⟨#[102,97,108,115,101]⟩
abbrev cn0:ByteArray:=⟨#[116,108,109]⟩
def keywords:List ByteArray:=[aS,bo5,ex2,ax0,qD,am9,wX,mV,lF,mA,ar8,bf7,aj4,tC,xU,nZ,bb7,ag2,cn0]
def eu2:List ByteArray:=[⟨#[74]⟩,⟨#[107,74]⟩,⟨#[87,104]⟩,⟨#[66]⟩,⟨#[107,66]⟩,⟨#[115]⟩,⟨#[109,105,110]⟩,⟨#[104]⟩,⟨#[100,101,103]⟩,⟨#[75]⟩,⟨#[87]⟩,⟨#[107,87]⟩,⟨#[66,112,115]⟩]
def inP(l:List ByteArray)(x:ByteArray):Bool:=l.any λv=>decide (v=x)
theorem oS{l:List ByteArray}{x:ByteArray}:inP l x=true↔x∈l:=by
 simp only[inP,List.any_eq_true,decide_eq_true_eq];exact⟨λ⟨v,h,e⟩=>e▸h,λh=>⟨x,h,rfl⟩⟩
def resP(s:ByteArray):Bool:=inP keywords s
def jW(s:ByteArray):Bool:=inP eu2 s
def cF(s:ByteArray):Nat:=
 if s=sOr then 1 else if s=zI then 2 else if s=sLt\/s=sLe\/s=sGt\/s=sGe\/s=sEq\/s=sNe then 4 else if s=dw1\/s=yC then 5 else if s=do7\/s=ex7 then 6 else 0
inductive Tr where
 |node (k n:Int) (s:ByteArray) (l:List Tr):Tr
structure PS where
 p:Nat
 o:Nat
 vs:List ByteArray
inductive PR(α:Type) where
 |ok (x:α) (s:PS)
 |err (p:Nat) (c:Int)
 |out
def PR.bind{α β:Type}(r:PR α)(f:α->PS->PR β):PR β:=match r with
 | .ok x s=>f x s
 | .err p c=>.err p c
 | .out=>.out
section
variable (T:Nat->Tkn)
def adv(s:PS):PS:={s with p:=s.p+1}
def isP(w:ByteArray)(s:PS):Bool:=decide ((T s.p).t=w)
def x7(w:ByteArray)(s:PS):PR Unit:=if isP T w s then .ok () (adv s)else .err s.p 11
def fF(w:ByteArray)(s:PS):PR Unit:=if isP T w s then(if s.o=12 then .err s.p 2 else .ok () {s with p:=s.p+1,o:=s.o+1})else .err s.p 11
def rI(s:PS):PS:={s with o:=s.o-1}
def aQ(s:PS):PR ByteArray:=if(T s.p).k≠1\/resP (T s.p).t then .err s.p 11 else .ok (T s.p).t (adv s)
def kZ(s:PS):PR ByteArray:=(aQ T s).bind λx s'=>
 if inP s.vs x then .err s.p 4 else if s.vs.length=12 then .err s.p 2 else .ok x {s' with vs:=s.vs++[x]}
def mH(lo hi:Int)(s:PS):PR Int:=if(T s.p).k≠2 then .err s.p 11 else if(T s.p).n<lo\/hi< (T s.p).n then .err s.p 5 else .ok (T s.p).n (adv s)
def oE(s:PS):PR Tr:=(mH T 0 2147483647 s).bind λn s'=>
 if(T s'.p).k=1/\jW (T s'.p).t then .ok (.node 15 n (T s'.p).t []) (adv s')else .ok (.node 15 n ⟨#[]⟩ []) s'
mutual
def l9:Nat->Nat->PS->PR Tr
 |0,_,_=>.out
 |f+1,lv,s=>
  if lv=3/\isP T bt3 s then aM f bt3 3 s
  else if lv=7/\isP T yC s then aM f yC 7 s
  else if lv=8 then dK f s
  else(l9 f (lv+1) s).bind λn s'=>dP f lv n s'
def dP:Nat->Nat->Tr->PS->PR Tr
 |0,_,_,_=>.out
 |f+1,lv,n,s=>
  if cF (T s.p).t=lv/\(T s.p).k=3 then
   (l9 f (lv+1) (adv s)).bind λm s'=>if lv=4 then .ok (.node 20 0 (T s.p).t [n,m]) s' else dP f lv (.node 20 0 (T s.p).t [n,m]) s'
  else .ok n s
def aM:Nat->ByteArray->Nat->PS->PR Tr
 |0,_,_,_=>.out
 |f+1,w,lv,s=>(fF T w s).bind λ_ s1=>(l9 f lv s1).bind λn s2=>.ok (.node 19 0 w [n]) (rI s2)
def dK:Nat->PS->PR Tr
 |0,_=>.out
 |f+1,s=>
  if(T s.p).k=2 then oE T s
  else if isP T bb7 s then .ok (.node 16 1 ⟨#[]⟩ []) (adv s)
  else if isP T ag2 s then .ok (.node 16 0 ⟨#[]⟩ []) (adv s)
  else if isP T cn0 s then(x7 T fw6 (adv s)).bind λ_ s1=>(aQ T s1).bind λx s2=>.ok (.node 18 0 x []) s2
  else if isP T kB s then(fF T kB s).bind λ_ s1=>(l9 f 1 s1).bind λn s2=>(x7 T dV s2).bind λ_ s3=>.ok n (rI s3)
  else(aQ T s).bind λx s1=>.ok (.node 17 0 x []) s1
end
def endP(n:Tr)(s:PS):PR Tr:=(x7 T ai6 s).bind λ_ s'=>.ok n s'
def ba1(f:Nat)(k:Int)(x:ByteArray)(s:PS):PR Tr:=(x7 T am6 s).bind λ_ s1=>(l9 T f 1 s1).bind λn s2=>endP T (.node k 0 x [n]) s2
def oneP(f:Nat)(k:Int)(s:PS):PR Tr:=(l9 T f 1 s).bind λn s2=>endP T (.node k 0 ⟨#[]⟩ [n]) s2
def bz0(k:Int)(s:PS):PR Tr:=(oE T s).bind λn s2=>endP T (.node k 0 ⟨#[]⟩ [n]) s2
def an3(f:Nat)(s:PS):PR Tr:=(l9 T f 1 s).bind λc s1=>(x7 T mV s1).bind λ_ s2=>(oE T s2).bind λn s3=>endP T (.node 6 0 ⟨#[]⟩ [c,n]) s3
def cb2(k hi:Int)(s:PS):PR Tr:=(mH T 0 hi s).bind λn s1=>endP T (.node k n ⟨#[]⟩ []) s1
def bu8(k:Int)(w:ByteArray)(s:PS):PR Tr:=(mH T 0 7 s).bind λn s1=>(x7 T w s1).bind λ_ s2=>(oE T s2).bind λm s3=>endP T (.node k n ⟨#[]⟩ [m]) s3
mutual
def t8:Nat->PS->PR Tr
 |0,_=>.out
 |f+1,s=>(fF T ct2 s).bind λ_ s1=>(s8 f s1).bind λl s2=>.ok (.node 14 0 ⟨#[]⟩ l) (rI s2)
def s8:Nat->PS->PR (List Tr)
 |0,_=>.out
 |f+1,s=>if isP T rN s then .ok [] (adv s)else(m9 f s).bind λn s1=>(s8 f s1).bind λl s2=>.ok (n::l) s2
def m9:Nat->PS->PR Tr
 |0,_=>.out
 |f+1,s=>
  if isP T bo5 s then(kZ T (adv s)).bind λx s1=>ba1 T f 1 x s1
  else if isP T ex2 s then(l9 T f 1 (adv s)).bind λc s1=>(t8 f s1).bind λy s2=>
   if isP T ax0 s2 then(t8 f (adv s2)).bind λn s3=>.ok (.node 3 0 ⟨#[]⟩ [c,y,n]) s3 else .ok (.node 3 0 ⟨#[]⟩ [c,y,.node 14 0 ⟨#[]⟩ []]) s2
  else if isP T qD s then(mH T 1 100 (adv s)).bind λn s1=>(t8 f s1).bind λy s2=>.ok (.node 4 n ⟨#[]⟩ [y]) s2
  else if isP T wX s then an3 T f (adv s)
  else if isP T am9 s then bz0 T 5 (adv s)
  else if isP T tC s then bz0 T 11 (adv s)
  else if isP T lF s then oneP T f 7 (adv s)
  else if isP T mA s then oneP T f 8 (adv s)
  else if isP T ar8 s then bu8 T 9 bf7 (adv s)
  else if isP T aj4 s then bu8 T 10 bM (adv s)
  else if isP T xU s then cb2 T 12 99 (adv s)
  else if isP T nZ s then cb2 T 13 999 (adv s)
  else(aQ T s).bind λx s1=>ba1 T f 2 x s1
end
structure Prm where
 x:ByteArray
 u:ByteArray
structure Prc where
 x:ByteArray
 ps:List Prm
 b:Tr
def ak6(s:PS):PR Prm:=(kZ T s).bind λx s1=>
 if isP T vY s1 then
  (if(T (s1.p+1)).k≠1 then .err (s1.p+1) 11 else if jW (T (s1.p+1)).t=false then .err (s1.p+1) 10 else .ok ⟨x,(T (s1.p+1)).t⟩ (adv (adv s1)))
 else .ok ⟨x,⟨#[]⟩⟩ s1
def aj0:Nat->PS->PR (List Prm)
 |0,_=>.out
 |f+1,s=>(ak6 T s).bind λx s1=>if isP T bM s1 then(aj0 f (adv s1)).bind λl s2=>.ok (x::l) s2 else(x7 T dV s1).bind λ_ s2=>.ok [x] s2
def aU(f:Nat)(s:PS):PR (List Prm):=(x7 T kB s).bind λ_ s1=>if isP T dV s1 then .ok [] (adv s1)else aj0 T f s1
def iD(f:Nat)(pr:List ByteArray)(s:PS):PR Prc:=(x7 T aS s).bind λ_ s1=>(aQ T s1).bind λx s2=>
 if inP pr x then .err s1.p 4 else(aU T f {s2 with vs:=[]}).bind λl s3=>(t8 T f s3).bind λb s4=>.ok ⟨x,l,b⟩ s4
def n7:Nat->List ByteArray->PS->PR (List Prc)
 |0,_,_=>.out
 |f+1,pr,s=>if(T s.p).k=0 then .ok [] s else(iD T f pr s).bind λx s1=>(n7 f (pr++[x.x]) s1).bind λl s2=>.ok (x::l) s2
end
theorem ct1(s sub:List UInt8):Lib.contains s sub=true↔∃a b,s=a++(sub++b):=by
 unfold Lib.contains;rw[decide_eq_true_eq];constructor
 ·intro h;rcases Lib.index_spec s sub with⟨h1,_⟩ | ⟨i,h1,h2,h3,_⟩
  ·omega
  ·unfold Lib.occAt at h3;obtain⟨b,hb⟩:=List.isPrefixOf_iff_prefix.1 h3;exact⟨s.take i,b,by rw[hb,List.take_append_drop]⟩
 ·rintro⟨a,b,rfl⟩;rcases Lib.index_spec (a++(sub++b)) sub with⟨h1,h2⟩ | ⟨i,h1,_⟩
  ·have:=h2 a.length (by simp);unfold Lib.occAt at this;rw[List.drop_left]at this;have h3:sub.isPrefixOf (sub++b)=true:=List.isPrefixOf_iff_prefix.2 ⟨b,rfl⟩;rw[h3]at this;cases this
  ·omega
def xG(ws:List (List UInt8)):List UInt8:=ws.flatMap λw=>w++[32]
theorem dp3{w t a b:List UInt8}(hw:∀c∈w,c≠32)(ht:∀c∈t,c≠32)(h:w++32::a=t++32::b):w=t/\a=b:=by
 induction w generalizing t with
 |nil=>
  cases t with
  |nil=>simp only[List.nil_append,List.cons.injEq,true_and]at h;exact⟨rfl,h⟩
  |cons c t=>simp only[List.nil_append,List.cons_append,List.cons.injEq]at h;exact absurd h.1.symm (ht c (.head _))
 |cons c w ih=>
  cases t with
  |nil=>simp only[List.nil_append,List.cons_append,List.cons.injEq]at h;exact absurd h.1 (hw c (.head _))
  |cons d t=>
   simp only[List.cons_append,List.cons.injEq]at h;obtain⟨h1,h2⟩:=ih (λc hc=>hw c (.tail _ hc)) (λc hc=>ht c (.tail _ hc)) h.2;exact⟨by rw[h.1,h1],h2⟩
theorem es5{w x a z:List UInt8}(hw:∀c∈w,c≠32)(h:w++32::x=a++32::z):a=w/\x=z\/∃a',a=w++32::a'/\x=a'++32::z:=by
 induction w generalizing a with
 |nil=>
  cases a with
  |nil=>simp only[List.nil_append,List.cons.injEq,true_and]at h;exact .inl ⟨rfl,h⟩
  |cons c a=>simp only[List.nil_append,List.cons_append,List.cons.injEq]at h;exact .inr ⟨a,by rw[h.1];rfl,h.2⟩
 |cons c w ih=>
  cases a with
  |nil=>simp only[List.nil_append,List.cons_append,List.cons.injEq]at h;exact absurd h.1 (hw c (.head _))
  |cons d a=>
   simp only[List.cons_append,List.cons.injEq]at h;rcases ih (λc hc=>hw c (.tail _ hc)) h.2 with⟨h1,h2⟩ | ⟨a',h1,h2⟩
   ·exact .inl ⟨by rw[h.1,h1],h2⟩
   ·exact .inr ⟨a',by rw[h.1,h1];rfl,h2⟩
theorem bv1{t:List UInt8}(ht:∀c∈t,c≠32):∀{ws:List (List UInt8)},(∀w∈ws,∀c∈w,c≠32)->((∃a b,32::xG ws=a++32::(t++32::b))↔t∈ws)
 | [],_=>by
  simp only[xG,List.flatMap_nil,List.not_mem_nil,iff_false];rintro⟨a,b,h⟩;have:=congrArg List.length h;simp at this;omega
 |w::ws,hw=>by
  have ih:=bv1 ht (ws:=ws) λw h=>hw w (.tail _ h);have e:xG (w::ws)=w++32::xG ws:=by simp[xG]
  rw[e,List.mem_cons,<-ih];constructor
  ·rintro⟨a,b,h⟩;cases a with
   |nil=>
    simp only[List.nil_append,List.cons.injEq,true_and]at h;exact .inl (dp3 (hw w (.head _)) ht h).1.symm
   |cons c a=>
    simp only[List.cons_append,List.cons.injEq]at h;rcases es5 (hw w (.head _)) h.2 with⟨_,h2⟩ | ⟨a',_,h2⟩
    ·exact .inr ⟨[],b,by rw[h2];rfl⟩
    ·exact .inr ⟨32::a',b,by rw[h2];rfl⟩
  ·rintro(rfl| ⟨a,b,h⟩)
   ·exact⟨[],xG ws,rfl⟩
   ·exact⟨32::(w++a),b,by
     show 32::(w++32::xG ws)=_
     rw[h];simp⟩
def kwL:List UInt8:=32::xG (keywords.map λw=>w.data.toList)
theorem hc5{t:ByteArray}(ht:∀c∈t.data.toList,c≠32):Lib.contains kwL (32::(t.data.toList++[32]))=resP t:=by
 rw[Bool.eq_iff_iff,ct1];have h:=bv1 ht (ws:=keywords.map λw=>w.data.toList) (by decide);unfold resP;rw[oS]
 have e:(∃a b,kwL=a++(32::(t.data.toList++[32])++b))↔∃a b,32::xG (keywords.map λw=>w.data.toList)=a++32::(t.data.toList++32::b):=by
  constructor<;>rintro⟨a,b,h⟩<;>exact⟨a,b,by simpa[kwL]using h⟩
 rw[e,h,List.mem_map];constructor
 ·rintro⟨w,hw,he⟩
  have:w=t:=by
   obtain⟨⟨x⟩⟩:=w;obtain⟨⟨y⟩⟩:=t;simp only at he;rw[he]
  rw[<-this];exact hw
 ·intro h;exact⟨t,h,rfl⟩
end
end Go.Proofs.Lx
namespace Go.Proofs.YtbmbhcheonjigaaGreatDoor
section
open Go Go.Am Go.Proofs.Lx
theorem tl_eq{a b:ByteArray}:((ByteArray.toList a==ByteArray.toList b)=true)↔a=b:=by
 rw[beq_iff_eq,ByteArray.toList_eq,ByteArray.toList_eq];constructor
 ·intro h;obtain⟨⟨x⟩⟩:=a;obtain⟨⟨y⟩⟩:=b;simp only at h;rw[h]
 ·rintro rfl;rfl
theorem ay4{a b:ByteArray}:(ByteArray.toList a==ByteArray.toList b)=decide (a=b):=by
 rw[Bool.eq_iff_iff,tl_eq,decide_eq_true_eq]
theorem dJ{n:Int}(h1: -9223372036854775808<=n)(h2:n<=9223372036854775807):w n=n:=by
 unfold w;rw[IntKind.wrap_i64];omega
theorem o7{i:Nat}(h:i<=4000000000):w ((i:Int)+1)=((i+1:Nat):Int):=by rw[dJ (by omega) (by omega)];omega
abbrev StT:Type:=Int×Int×Nat×(Nat->Int)×(Nat->Int)×(Nat->ByteArray)×(Nat->Int)×Nat×(Nat->ByteArray)×Nat×(Nat->ByteArray)
def Ag(v:Nat->ByteArray)(l:List ByteArray):Prop:=∀j b,l[j]? =some b->v j=b
theorem Ag.push{v:Nat->ByteArray}{l:List ByteArray}{x:ByteArray}(h:Ag v l):Ag (λj=>if j<l.length then v j else x) (l++[x]):=by
 intro j b hb;by_cases hj:j<l.length
 ·rw[List.getElem?_append_left hj]at hb;simp only[hj,if_true];exact h j b hb
 ·rw[List.getElem?_append_right (by omega)]at hb;simp only[hj,if_false];cases hk:j-l.length with
  |zero=>rw[hk]at hb;simpa using hb
  |succ n=>rw[hk]at hb;simp at hb
structure Z4(N:Nat)(T:Nat->Tkn):Prop where
 pos:0<N
 big:N<=4001
 endk:(T (N-1)).k=0
 endt:(T (N-1)).t=⟨#[]⟩
 sym:∀j,(T j).k≠3->cF (T j).t=0
 word:∀j,(T j).k=1->(T j).t.size<=12/\∀c∈(T j).t.data.toList,c≠32
def RS(N:Nat)(T:Nat->Tkn)(pr:List ByteArray)(s:PS)(x:StT):Prop:=
 ∃v u,x=((s.p:Int),(s.o:Int),N,(λj=>(T j).k),(λj=>(T j).a),(λj=>(T j).t),(λj=>(T j).n),s.vs.length,v,pr.length,u)/\
  Ag v s.vs/\Ag u pr/\s.p<N/\s.o<=12/\s.vs.length<=12/\pr.length<=2000000000
section
variable {N:Nat} {T:Nat->Tkn} {pr:List ByteArray} {s:PS} {x:StT}
theorem Z4.lt(hT:Z4 N T){p:Nat}(hp:p<N)(h:(T p).t≠⟨#[]⟩\/(T p).k≠0):p+1<N:=by
 by_cases e:p=N-1
 ·subst e;rcases h with h|h
  ·exact absurd hT.endt h
  ·exact absurd hT.endk h
 ·have:=hT.pos;omega
theorem RS.adv(hT:Z4 N T)(h:RS N T pr s x)(hk:(T s.p).t≠⟨#[]⟩\/(T s.p).k≠0):RS N T pr (adv s) (w (x.1+1),x.2):=by
 obtain⟨v,u,rfl,h1,h2,h3,h4,h5,h6⟩:=h;refine⟨v,u,?_,h1,h2,hT.lt h3 hk,h4,h5,h6⟩;have:=hT.big;show(w ((s.p:Int)+1),_)=_;rw[o7 (by omega)];rfl
def AP:=@RS.adv
end
section
variable {N:Nat} {T:Nat->Tkn} {pr:List ByteArray} {s:PS} {x:StT}
theorem eI(q:Nat)(h:RS N T pr s x)(c:Int):fail q (c,x)=some ((T s.p).a,c):=by
 obtain⟨v,u,rfl,h1,h2,h3,h4,h5,h6⟩:=h;unfold fail ev6 U7;dsimp only;rw[if_pos ⟨by omega,by omega⟩,Int.toNat_natCast]
theorem eK(q:Nat)(h:RS N T pr s x):next q x=some ((T s.p).k,(T s.p).a,(T s.p).t,(T s.p).n,x):=by
 obtain⟨v,u,rfl,h1,h2,h3,h4,h5,h6⟩:=h;unfold next en6 U8
 dsimp only;rw[if_pos ⟨by omega,by omega⟩,Int.toNat_natCast]
theorem br9(q:Nat)(h:RS N T pr s x)(b:ByteArray):is q (b,x)=some (isP T b s,x):=by
 obtain⟨v,u,rfl,h1,h2,h3,h4,h5,h6⟩:=h;unfold is hi5 U8;dsimp only;rw[if_pos ⟨by omega,by omega⟩,Int.toNat_natCast,ay4];rfl
theorem fR(q:Nat)(h:RS N T pr s x)(b:ByteArray):take q (b,x)=some (if isP T b s then(true,w (x.1+1),x.2)else(false,x)):=by
 unfold take et2;rw[br9 q h];dsimp only[Option.bind_some];by_cases hb:isP T b s=true
 ·rw[if_pos hb,if_pos hb]
 ·rw[if_neg hb,if_neg hb]
end
def PU(N:Nat)(T:Nat->Tkn)(pr:List ByteArray):PR Unit->StT⊕(Int×Int)->Prop
 | .ok _ s,.inl x=>RS N T pr s x
 | .err p c,.inr e=>p<N/\e=((T p).a,c)
 |_,_=>False
def PX{α:Type}(N:Nat)(T:Nat->Tkn)(pr:List ByteArray):PR α->(α×StT)⊕(Int×Int)->Prop
 | .ok a s,.inl z=>z.1=a/\RS N T pr s z.2
 | .err p c,.inr e=>p<N/\e=((T p).a,c)
 |_,_=>False
section
variable {N:Nat} {T:Nat->Tkn} {pr:List ByteArray} {s:PS} {x:StT}
theorem w8{b:ByteArray}(hb:b≠⟨#[]⟩)(h:isP T b s=true):(T s.p).t≠⟨#[]⟩\/(T s.p).k≠0:=by
 simp only[isP,decide_eq_true_eq]at h;exact .inl (h▸hb)
theorem mB(hT:Z4 N T)(q:Nat)(h:RS N T pr s x)(b:ByteArray)(hb:b≠⟨#[]⟩):Rs (uR q (b,x)) (PU N T pr (x7 T b s)):=by
 unfold uR ey5 x7;rw[fR q h];dsimp only[Option.bind_some];by_cases hi:isP T b s=true
 ·rw[if_pos hi,if_pos hi];exact AM (by simp) (AJ (AP hT h (w8 hb hi)))
 ·rw[if_neg hi,if_neg hi];refine AL (by simp) ?_;rw[eI q h];have h3:=h.choose_spec.choose_spec.2.2.2.1;exact AJ ⟨h3,rfl⟩
theorem RS.lt(h:RS N T pr s x):s.p<N:=h.choose_spec.choose_spec.2.2.2.1
theorem bv6(hT:Z4 N T)(q:Nat)(h:RS N T pr s x)(b:ByteArray)(hb:b≠⟨#[]⟩):Rs (nC q (b,x)) (PU N T pr (fF T b s)):=by
 unfold nC de4 fF;rw[br9 q h];dsimp only[Option.bind_some];by_cases hi:isP T b s=true
 ·rw[if_pos hi];refine AM (by simp[hi]) ?_;obtain⟨v,u,rfl,h1,h2,h3,h4,h5,h6⟩:=h;dsimp only;by_cases ho:s.o=12
  ·rw[if_pos ho];refine AL (by simp[ho]) ?_;rw[eI q ⟨v,u,rfl,h1,h2,h3,h4,h5,h6⟩];exact AJ ⟨h3,rfl⟩
  ·rw[if_neg ho];refine AM (by simp;omega) (AJ ?_);have:=hT.big;refine⟨v,u,?_,h1,h2,hT.lt h3 (w8 hb hi),(by show s.o+1<=12;omega),h5,h6⟩;rw[o7 (by omega),o7 (by omega)]
 ·rw[if_neg hi];refine AL (by simp[hi]) ?_;rw[eI q h];exact AJ ⟨h.lt,rfl⟩
theorem dp2(q:Nat){t:ByteArray}(h1:t.size<=12)(h2:∀c∈t.data.toList,c≠32):tI q t=some (resP t):=by
 unfold tI al0;have hs:(({data:=#[32]}:ByteArray)++t).size=1+t.size:=by simp[ByteArray.size_append];rfl
 rw[if_pos (by unfold maxLen;omega),if_pos (by rw[hs];unfold maxLen;omega)];unfold aq4;rw[if_pos (by dsimp only;decide)];dsimp only[Option.bind_some];rw[<-hc5 h2];refine congrArg some (congr (congrArg Lib.contains ?_) ?_)
 ·decide
 ·simp
theorem at2(hT:Z4 N T)(q:Nat)(h:RS N T pr s x):Rs (name q x) (PX N T pr (aQ T s)):=by
 unfold name eq3 aQ;rw[eK q h];dsimp only[Option.bind_some];by_cases hk:(T s.p).k=1
 ·refine AM (by simp[hk]) ?_;obtain⟨g1,g2⟩:=hT.word s.p hk;rw[dp2 q g1 g2];dsimp only[Option.bind_some];by_cases hr:resP (T s.p).t=true
  ·rw[if_pos hr,if_pos (.inr hr),eI q h];exact AJ ⟨h.lt,rfl⟩
  ·rw[if_neg hr,if_neg (by simp[hk,hr])];exact AJ ⟨rfl,AP hT h (.inr (by rw[hk];decide))⟩
 ·refine AL (by simp[hk]) ?_;rw[if_pos (.inl hk),eI q h];exact AJ ⟨h.lt,rfl⟩
theorem ac2(hT:Z4 N T)(q:Nat)(h:RS N T pr s x)(lo hi:Int):Rs (nR q (lo,hi,x)) (PX N T pr (mH T lo hi s)):=by
 unfold nR cc7;rw[eK q h];dsimp only[Option.bind_some];by_cases hk:(T s.p).k=2
 ·refine AM (by simp[hk]) ?_;by_cases h1:(T s.p).n<lo
  ·have e:mH T lo hi s= .err s.p 5:=by unfold mH;rw[if_neg (by simp[hk]),if_pos (.inl h1)]
   refine AL (by simp[h1]) ?_;rw[eI q h,e];exact AJ ⟨h.lt,rfl⟩
  ·refine AM (by simpa using h1) ?_;by_cases h2:hi< (T s.p).n
   ·have e:mH T lo hi s= .err s.p 5:=by unfold mH;rw[if_neg (by simp[hk]),if_pos (.inr h2)]
    refine AL (by simpa using h2) ?_;rw[eI q h,e];exact AJ ⟨h.lt,rfl⟩
   ·have e:mH T lo hi s= .ok (T s.p).n (adv s):=by unfold mH;rw[if_neg (by simp[hk]),if_neg (by omega)]
    rw[e];exact AM (by simpa using h2) (AJ ⟨rfl,AP hT h (.inr (by rw[hk];decide))⟩)
 ·have e:mH T lo hi s= .err s.p 11:=by unfold mH;rw[if_pos hk]
  refine AL (by simp[hk]) ?_;rw[eI q h,e];exact AJ ⟨h.lt,rfl⟩
theorem aw9(q:Nat)(t:ByteArray):Rs (dG q t) (λz=>z.2.2.2.2.2.2=jW t):=by
 unfold dG uL
 repeat' refine Rs.ite (λh=>?_) (λh=>?_)
 all_goals refine AJ ?_
 all_goals simp only[tl_eq]at*
 all_goals first
  | (subst_vars;decide)
  | (show false=jW t;symm;rw[Bool.eq_false_iff,Ne,jW,oS];simp only[eu2,List.mem_cons,List.not_mem_nil,or_false,not_or];refine⟨?_,?_,?_,?_,?_,?_,?_,?_,?_,?_,?_,?_,?_⟩<;>(intro e;subst e;contradiction))
theorem dn8{a:ByteArray}{s':PS}(h:aQ T s= .ok a s'):a=(T s.p).t/\s'=adv s/\(T s.p).k=1/\resP (T s.p).t=false:=by
 unfold aQ at h;split at h
 ·cases h
 ·rename_i hn;cases h;simp only[not_or,Decidable.not_not,Bool.not_eq_true]at hn;exact⟨rfl,rfl,hn.1,hn.2⟩
theorem cy5(q:Nat)(x0:SP)(a:ByteArray){v u:Nat->ByteArray}(h1:Ag v s.vs)(h2:Ag u pr)(h3:s.p<N)(h4:s.o<=12)(h5:s.vs.length<=12)(h6:pr.length<=2000000000):
 ∀(n i m:Nat),i+n=s.vs.length->n<m->(∀j,j<i->s.vs[j]? ≠some a)->
 Rs (lpG (λy=>jZ (name q) (fail q) x0 y (λy=>some (.inl y)) (λz=>some (.inr z))) m (a,s.vs.length,((s.vs.length:Nat):Int),N,(λj=>(T j).k),(λj=>(T j).a),(λj=>(T j).t),(λj=>(T j).n),((s.p:Nat):Int),((s.o:Nat):Int),pr.length,v,u,((i:Nat):Int)))
  (λz=>if inP s.vs a then z= .inl ((T s.p).a,4)else z= .inr (a,N,(λj=>(T j).k),(λj=>(T j).a),(λj=>(T j).t),(λj=>(T j).n),((s.p:Nat):Int),((s.o:Nat):Int),s.vs.length,pr.length,v,u)):=by
 intro n
 induction n with
 |zero=>
  intro i m hi hm hno;obtain⟨m,rfl⟩:∃k,m=k+1:=⟨m-1,by omega⟩;refine Rs.step ?_;unfold jZ U14;dsimp only;refine AM (by simp;omega) (AJ ?_)
  have hnin:¬inP s.vs a=true:=by
   rw[oS,List.mem_iff_getElem?];rintro⟨j,hj⟩;have:=(List.getElem?_eq_some_iff.1 hj).1;exact hno j (by omega) hj
  show(if inP s.vs a then _ else _);rw[if_neg hnin]
 |succ n ih=>
  intro i m hi hm hno;obtain⟨m,rfl⟩:∃k,m=k+1:=⟨m-1,by omega⟩;refine Rs.step ?_;unfold jZ U14;dsimp only;refine AL (by simp;omega) (AL ⟨by omega,by omega⟩ (AL ⟨by simp;omega,rfl⟩ ?_))
  have hget:s.vs[i]? =some (v i):=by
   have hlt:i<s.vs.length:=by omega
   have:=List.getElem?_eq_getElem hlt;rw[this,h1 i _ this]
  have e:0+Int.toNat ((i:Nat):Int)=i:=by omega
  rw[e];refine Rs.ite (λheq=>?_) (λhne=>?_)
  ·rw[tl_eq]at heq
   have hin:inP s.vs a=true:=by
    rw[oS,<-heq];exact List.mem_iff_getElem?.2 ⟨i,hget⟩
   rw[eI q (s:=s) (pr:=pr) (N:=N) (T:=T) ⟨v,u,rfl,h1,h2,h3,h4,h5,h6⟩];refine AJ ?_;show(if inP s.vs a then _ else _);rw[if_pos hin]
  ·rw[tl_eq]at hne;refine AJ ?_;show Rs (lpG _ m _) _;rw[o7 (by omega)];refine ih (i+1) m (by omega) (by omega) λj hj=>?_;by_cases hji:j=i
   ·subst hji;rw[hget];simpa using hne
   ·exact hno j (by omega)
theorem an7(hT:Z4 N T)(q:Nat)(hq:20<=q)(h:RS N T pr s x):Rs (wB q x) (PX N T pr (kZ T s)):=by
 unfold wB ax4 kZ;refine AI (at2 hT q h) λz hz=>?_;cases hn:aQ T s with
 |out=>rw[hn]at hz;rcases z with z|z<;>exact hz.elim
 |err p c=>
  rw[hn]at hz;rcases z with z|z
  ·exact hz.elim
  ·exact AJ hz
 |ok a s'=>
  rw[hn]at hz;obtain⟨rfl,rfl,hk,hr⟩:=dn8 hn;rcases z with z|z
  rotate_left
  ·exact hz.elim
  obtain⟨z1,z2⟩:=z;obtain⟨rfl,v,u,rfl,h1,h2,h3,h4,h5,h6⟩:=hz;dsimp only[Sum.elim_inl,PR.bind];have hsp:=h.lt;have hN:=hT.big
  have e1:w (((adv s).p:Int)-1)=((s.p:Nat):Int):=by
   show w (((s.p+1:Nat):Int)-1)=_;rw[dJ (by omega) (by omega)];omega
  rw[e1];unfold bv4;refine AI (cy5 (s:=s) q x _ h1 h2 hsp h4 h5 h6 s.vs.length 0 q (by omega) (by show s.vs.length<q;have:s.vs.length<=12:=h5;omega) (λj hj=>absurd hj (Nat.not_lt_zero j))) λz hz=>?_;by_cases hin:inP s.vs (T s.p).t=true
  ·rw[if_pos hin]at hz;subst hz;rw[if_pos hin];exact AJ ⟨hsp,rfl⟩
  ·rw[if_neg hin]at hz;subst hz;rw[if_neg hin];dsimp only[Sum.elim_inr,Sum.elim_inl];by_cases hl:s.vs.length=12
   ·rw[if_pos hl];refine AL (by simp[hl]) ?_;rw[eI q (s:=s) (pr:=pr) (N:=N) (T:=T) ⟨v,u,rfl,h1,h2,hsp,h4,h5,h6⟩];exact AJ ⟨hsp,rfl⟩
   ·rw[if_neg hl];refine AM (by simp;omega) (AL ?_ (AJ ⟨rfl,?_⟩))
    ·have:s.vs.length<=12:=h5;exact⟨by unfold b6;omega,by unfold maxLen;omega,by omega⟩
    ·refine⟨_,u,?_,h1.push,h2,h3,h4,(by simp;have:s.vs.length<=12:=h5;omega),h6⟩;rw[o7 (by omega)];simp[adv];rfl
end
theorem ah1(q:Nat)(c:Int):wE q c=some (aC c):=by
 unfold wE by8 aC;simp only[ge_iff_le,decide_eq_true_eq];by_cases h1:97<=c<;>by_cases h2:c<=122<;>by_cases h3:65<=c<;>by_cases h4:c<=90<;>simp[h1,h2,h3,h4]<;>omega
theorem zB(q:Nat)(c:Int):xZ q c=some (j8 c):=by
 unfold xZ df2 j8;simp only[ge_iff_le,decide_eq_true_eq];by_cases h1:48<=c<;>by_cases h2:c<=57<;>simp[h1,h2]
theorem gk9(q:Nat)(c:Int):du8 q c=some (bS c):=rfl
theorem ga0(q:Nat)(c:Int):co4 q c=some (bG c):=by
 unfold co4 dd7;rw[ah1];dsimp only[Option.bind_some];unfold bG;by_cases h:aC c=true
 ·rw[if_pos h,h];rfl
 ·rw[if_neg h,zB];simp only[Bool.not_eq_true]at h;rw[h];rfl
theorem yM:ds7 aC:=λc h=>by rw[Bool.eq_iff_iff];simp[aC];omega
theorem wJ:ds7 j8:=λc h=>by rw[Bool.eq_iff_iff];simp[j8];omega
theorem br1:ds7 aT:=λc h=>by rw[Bool.eq_iff_iff];simp[aT];omega
theorem fw4:ds7 bG:=λc h=>by unfold bG;rw[yM c h,wJ c h]
theorem fy8:ds7 bS:=λc h=>by rw[Bool.eq_iff_iff];simp[bS];omega
def lN(g:Int->Bool)(s:ByteArray)(y:Nat):Option (Nat⊕(Int⊕Unit)):=
 if y<s.size then(if(!(g ((Utf8.decode s y).1:Int))) then some (.inr (.inl (y:Int)))else some (.inl (y+(Utf8.decode s y).2)))else some (.inr (.inr ()))
theorem bw6(g:Int->Bool)(hg:ds7 g)(s:ByteArray):∀(m y:Nat),y<=s.size->s.size-y<m->∃r,lpG (lN g s) m y=some r/\(r= .inl (((y+g9 g (s.data.toList.drop y):Nat):Nat):Int)\/(r= .inr ()/\y+g9 g (s.data.toList.drop y)=s.size)):=by
 intro m
 induction m with
 |zero=>intro y _ h;omega
 |succ m ih=>
  intro y hy hm;rw[bo3];by_cases h:y<s.size
  ·by_cases hc:g ((Utf8.decode s y).1:Int)=true
   ·have e:lN g s y=some (.inl (y+(Utf8.decode s y).2)):=by unfold lN;rw[if_pos h,if_neg (by rw[hc];simp)]
    rw[e];obtain⟨h1,h2,_⟩:=qL s y h;have e2:=ft0 s g hg y h hc;obtain⟨r,k1,k2⟩:=ih (y+(Utf8.decode s y).2) h2 (by omega);refine⟨r,k1,?_⟩;rw[e2];rw[Nat.add_assoc]at k2;exact k2
   ·have e:lN g s y=some (.inr (.inl ((y:Nat):Int))):=by unfold lN;rw[if_pos h,if_pos (by simpa using hc)]
    rw[e];refine⟨_,rfl,.inl ?_⟩;rw[cp2 s g y h (by rw[<-mG s g hg y h];simpa using hc)];rfl
  ·have e:lN g s y=some (.inr (.inr ())):=by unfold lN;rw[if_neg h]
   rw[e];have:y=s.size:=by omega
   subst this;exact⟨_,rfl,.inr ⟨rfl,by rw[bz9];rfl⟩⟩
theorem bq6(g:Int->Bool)(s:ByteArray):g9 g s.data.toList<=s.size:=by
 have:=mK g s.data.toList;simpa using this
theorem ds5(q:Nat)(s:ByteArray)(hq:s.size<q):be8 q s=some ((g9 bS s.data.toList:Nat):Int):=by
 unfold be8 cr4 ed6
 have e:(λy=>xW (du8 q) s y (λy=>(some (.inl y):Option (Nat⊕j4))) (λz=>some (.inr z)))=lN bS s:=by
  funext y;unfold xW lN;simp only[gk9,Option.bind_some]
 rw[e];obtain⟨r,k1,k2⟩:=bw6 bS fy8 s q 0 (Nat.zero_le _) (by omega);rw[k1];rw[List.drop_zero,Nat.zero_add]at k2;rcases k2 with rfl| ⟨rfl,k2⟩
 ·rfl
 ·rw[k2];rfl
theorem gm3(q:Nat)(s:ByteArray)(hq:s.size<q):cc0 q s=some ((g9 j8 s.data.toList:Nat):Int):=by
 unfold cc0 cr0 ea6
 have e:(λy=>xM (xZ q) s y (λy=>(some (.inl y):Option (Nat⊕j4))) (λz=>some (.inr z)))=lN j8 s:=by
  funext y;unfold xM lN;simp only[zB,Option.bind_some]
 rw[e];obtain⟨r,k1,k2⟩:=bw6 j8 wJ s q 0 (Nat.zero_le _) (by omega);rw[k1];rw[List.drop_zero,Nat.zero_add]at k2;rcases k2 with rfl| ⟨rfl,k2⟩
 ·rfl
 ·rw[k2];rfl
theorem gi0(q:Nat)(s:ByteArray)(hq:s.size<q):ez7 q s=some ((g9 bG s.data.toList:Nat):Int):=by
 unfold ez7 cy8 ds6
 have e:(λy=>vL (co4 q) s y (λy=>(some (.inl y):Option (Nat⊕j4))) (λz=>some (.inr z)))=lN bG s:=by
  funext y;unfold vL lN;simp only[ga0,Option.bind_some]
 rw[e];obtain⟨r,k1,k2⟩:=bw6 bG fw4 s q 0 (Nat.zero_le _) (by omega);rw[k1];rw[List.drop_zero,Nat.zero_add]at k2;rcases k2 with rfl| ⟨rfl,k2⟩
 ·rfl
 ·rw[k2];rfl
def lA(z:Tkn×Int):Int×Int×ByteArray×Int×Int:=(z.1.k,z.1.a,z.1.t,z.1.n,z.2)
theorem fa4(q:Nat)(s:ByteArray)(hq:s.size<q):word q s=some (lA (ai7 s)):=by
 unfold word eu5 ai7;rw[gi0 q s hq];dsimp only[Option.bind_some];have hl:=bq6 bG s;generalize g9 bG s.data.toList=k at hl⊢;by_cases h:12<k
 ·have h':(k:Int)>12:=by omega
  rw[if_pos h,if_pos (decide_eq_true h')];rfl
 ·have h':¬(k:Int)>12:=by omega
  have h3:(0:Int)<=0/\(0:Int)<=((k:Nat):Int)/\((k:Nat):Int)<=((s.size:Nat):Int):=by omega
  rw[if_neg h,if_neg (λhh=>h' (of_decide_eq_true hh)),if_pos h3];rfl
theorem iP{s:ByteArray}(h1:1<s.size){l:List UInt8}(hl:l∈oF)(e:s.extract 0 2=⟨l.toArray⟩):((3,0,s.extract 0 2,0,0):Int×Int×ByteArray×Int×Int)=lA (eS s):=by
 have h2:lK s.data.toList=2:=ge0 (t:=s.extract 0 2) h1 rfl (by rw[e];exact hl);unfold eS;rw[h2,if_neg (by decide)];rfl
theorem fg1{s:ByteArray}(h0:0<s.size)(hn:¬(1<s.data.toList.length/\s.data.toList.take 2∈oF))(hi:(0:Int)<=Lib.indexByte sym1 s[0]):((3,0,s.extract 0 1,0,0):Int×Int×ByteArray×Int×Int)=lA (eS s):=by
 have h2:=dl3 h0 hn;rw[if_pos hi]at h2;unfold eS;rw[h2,if_neg (by decide)];rfl
theorem ge6{s:ByteArray}(h0:0<s.size)(hn:¬(1<s.data.toList.length/\s.data.toList.take 2∈oF))(hi:¬(0:Int)<=Lib.indexByte sym1 s[0]):((0,0,⟨#[]⟩,0,11):Int×Int×ByteArray×Int×Int)=lA (eS s):=by
 have h2:=dl3 h0 hn;rw[if_neg hi]at h2;unfold eS;rw[h2,if_pos rfl];rfl
theorem fh0(q:Nat)(s:ByteArray)(h0:0<s.size):Rs (dl6 q s) (λz=>z=lA (eS s)):=by
 unfold dl6 en7;refine AL (show(0:Int)<=0/\(0:Int)< ((s.size:Nat):Int)by omega) ?_;have hg:=y9 s 0 h0;have e:=get_at s 0 h0;simp only[Nat.add_zero]at e;rw[List.drop_zero,e]at hg;have hb:List.getD s.data.toList 0 (0:UInt8)=s[0]:=by rw[hg];rfl
 have hix:∀q,af8 q ({data:=#[123,125,40,41,61,59,44,58,60,62,43,45,42,47,33,46]},((UInt8.toNat (List.getD s.data.toList 0 (0:UInt8)):Nat):Int))=some (Lib.indexByte sym1 s[0]):=by
  intro q;unfold af8;dsimp only;rw[hb,Int.toNat_natCast,UInt8.ofNat_toNat];rfl
 refine AI ⟨_,hix q,rfl⟩ λz hz=>?_;subst hz;by_cases hi:(0:Int)<=Lib.indexByte sym1 s[0]
 ·refine AL (decide_eq_true hi) ?_;have hb1:(0:Int)<=0/\(0:Int)<=1/\(1:Int)<=((s.size:Nat):Int):=by omega
  by_cases h1:1<s.size
  ·have hbn:(0:Int)<=0/\(0:Int)<=2/\(2:Int)<=((s.size:Nat):Int):=by omega
   refine AL (decide_eq_true (show((s.size:Nat):Int)>1 by omega)) (AL hbn ?_);by_cases c1:s.extract 0 2=sOr
   ·exact AL (tl_eq.2 c1) (AL hbn (AJ (iP h1 (by decide) c1)))
   refine AM (λh=>c1 (tl_eq.1 h)) ?_;by_cases c2:s.extract 0 2=zI
   ·exact AL (tl_eq.2 c2) (AL hbn (AJ (iP h1 (by decide) c2)))
   refine AM (λh=>c2 (tl_eq.1 h)) ?_;by_cases c3:s.extract 0 2=sLe
   ·exact AL (tl_eq.2 c3) (AL hbn (AJ (iP h1 (by decide) c3)))
   refine AM (λh=>c3 (tl_eq.1 h)) ?_;by_cases c4:s.extract 0 2=sGe
   ·exact AL (tl_eq.2 c4) (AL hbn (AJ (iP h1 (by decide) c4)))
   refine AM (λh=>c4 (tl_eq.1 h)) ?_;by_cases c5:s.extract 0 2=sEq
   ·exact AL (tl_eq.2 c5) (AL hbn (AJ (iP h1 (by decide) c5)))
   refine AM (λh=>c5 (tl_eq.1 h)) ?_;by_cases c6:s.extract 0 2=sNe
   ·exact AL (tl_eq.2 c6) (AL hbn (AJ (iP h1 (by decide) c6)))
   refine AM (λh=>c6 (tl_eq.1 h)) ?_
   have hn:¬(1<s.data.toList.length/\s.data.toList.take 2∈oF):=dx9 rfl (by
    intro l hl;simp only[oF,List.mem_cons,List.not_mem_nil,or_false]at hl;rcases hl with rfl|rfl|rfl|rfl|rfl|rfl
    ·exact c1
    ·exact c2
    ·exact c3
    ·exact c4
    ·exact c5
    ·exact c6)
   exact AL hb1 (AJ (fg1 h0 hn hi))
  ·have hn:¬(1<s.data.toList.length/\s.data.toList.take 2∈oF):=λh=>h1 (by simpa using h.1);refine AM (λh=>h1 (by have:=of_decide_eq_true h;omega)) ?_;exact AL hb1 (AJ (fg1 h0 hn hi))
 ·refine AM (λh=>hi (of_decide_eq_true h)) ?_;by_cases h1:1<s.size
  ·have hbn:(0:Int)<=0/\(0:Int)<=2/\(2:Int)<=((s.size:Nat):Int):=by omega
   refine AL (decide_eq_true (show((s.size:Nat):Int)>1 by omega)) (AL hbn ?_);by_cases c1:s.extract 0 2=sOr
   ·exact AL (tl_eq.2 c1) (AL hbn (AJ (iP h1 (by decide) c1)))
   refine AM (λh=>c1 (tl_eq.1 h)) ?_;by_cases c2:s.extract 0 2=zI
   ·exact AL (tl_eq.2 c2) (AL hbn (AJ (iP h1 (by decide) c2)))
   refine AM (λh=>c2 (tl_eq.1 h)) ?_;by_cases c3:s.extract 0 2=sLe
   ·exact AL (tl_eq.2 c3) (AL hbn (AJ (iP h1 (by decide) c3)))
   refine AM (λh=>c3 (tl_eq.1 h)) ?_;by_cases c4:s.extract 0 2=sGe
   ·exact AL (tl_eq.2 c4) (AL hbn (AJ (iP h1 (by decide) c4)))
   refine AM (λh=>c4 (tl_eq.1 h)) ?_;by_cases c5:s.extract 0 2=sEq
   ·exact AL (tl_eq.2 c5) (AL hbn (AJ (iP h1 (by decide) c5)))
   refine AM (λh=>c5 (tl_eq.1 h)) ?_;by_cases c6:s.extract 0 2=sNe
   ·exact AL (tl_eq.2 c6) (AL hbn (AJ (iP h1 (by decide) c6)))
   refine AM (λh=>c6 (tl_eq.1 h)) ?_
   have hn:¬(1<s.data.toList.length/\s.data.toList.take 2∈oF):=dx9 rfl (by
    intro l hl;simp only[oF,List.mem_cons,List.not_mem_nil,or_false]at hl;rcases hl with rfl|rfl|rfl|rfl|rfl|rfl
    ·exact c1
    ·exact c2
    ·exact c3
    ·exact c4
    ·exact c5
    ·exact c6)
   exact AJ (ge6 h0 hn hi)
  ·have hn:¬(1<s.data.toList.length/\s.data.toList.take 2∈oF):=λh=>h1 (by simpa using h.1);refine AM (λh=>h1 (by have:=of_decide_eq_true h;omega)) ?_;exact AJ (ge6 h0 hn hi)
theorem ge2:∀(l:List UInt8) (n:Int),(∀b∈l,j8 b.toNat=true)->0<=n->n<=aa9 n l
 | [],n,_,_=>Int.le_refl _
 |b::l,n,h,h0=>by
  have hb:=h b (.head _);simp[j8]at hb;have:=ge2 l (10*n+((b.toNat:Int)-48)) (λc hc=>h c (.tail _ hc)) (by omega);show n<=aa9 (10*n+((b.toNat:Int)-48)) l;omega
theorem gi7(q:Nat)(x0:ByteArray)(t:ByteArray)(hd:∀b∈t.data.toList,j8 b.toNat=true):∀(m p:Nat) (n:Int),p<=t.size->t.size-p<m->0<=n->n<=2147483647->
 Rs (lpG (λy=>ab4 (cc0 q) x0 y (λy=>some (.inl y)) (λz=>some (.inr z))) m (t,n,p)) (λr=>if aa9 n (t.data.toList.drop p)>2147483647 then r= .inl ()else r= .inr (t,aa9 n (t.data.toList.drop p))):=by
 intro m
 induction m with
 |zero=>intro p n _ h;omega
 |succ m ih=>
  intro p n hp hm h0 h1;refine AO λQ hQ=>?_;unfold ab4 U3;dsimp only;by_cases h:p<t.size
  ·refine AL h ?_;have hg:=y9 t p h;have hdg:j8 ((t.get! p).toNat:Int)=true:=hd _ (List.mem_of_getElem? (kK t p h));have hdg':=hdg;simp[j8]at hdg';have e:=get_at t p h;simp only[Nat.add_zero]at e
   have hdec:Utf8.decode t p=((t.get! p).toNat,1):=by
    have:=decode_ascii t p h (by rw[<-e];omega);rw[this,<-e]
   rw[hdec];dsimp only
   have e32:IntKind.wrap .i32 (((t.get! p).toNat:Int)-48)=((t.get! p).toNat:Int)-48:=by
    simp[IntKind.wrap,IntKind.bits,IntKind.signed];omega
   have ew:w (w (10*n)+w (IntKind.wrap .i32 (((t.get! p).toNat:Int)-48)))=10*n+(((t.get! p).toNat:Int)-48):=by
    rw[e32,dJ (n:=10*n) (by omega) (by omega),dJ (n:=((t.get! p).toNat:Int)-48) (by omega) (by omega),dJ (by omega) (by omega)]
   rw[ew];have ev:aa9 n (t.data.toList.drop p)=aa9 (10*n+(((t.get! p).toNat:Int)-48)) (t.data.toList.drop (p+1)):=by rw[hg];rfl
   by_cases hc:10*n+(((t.get! p).toNat:Int)-48)>2147483647
   ·refine AL (decide_eq_true hc) (AJ ?_);have hv:=ge2 (t.data.toList.drop (p+1)) (10*n+(((t.get! p).toNat:Int)-48)) (λb hb=>hd b (List.mem_of_mem_drop hb)) (by omega);show(if _ then _ else _);rw[if_pos (by rw[ev];omega)]
   ·refine AM (λhh=>hc (of_decide_eq_true hh)) (AJ (hQ _ ?_));rw[ev];exact ih (p+1) _ h (by omega) (by omega) (by omega)
  ·refine AM h (AJ ?_);have hlen:t.data.toList.length=t.size:=by simp
   have:t.data.toList.drop p=[]:=List.drop_of_length_le (by omega);show(if _ then _ else _);rw[this];rw[if_neg (show¬(aa9 n []>2147483647)by show¬n>2147483647;omega)];rfl
theorem fe4(q:Nat)(s:ByteArray)(hq:s.size<q):Rs (dn1 q s) (λz=>z=lA (gZ (s.extract 0 (g9 j8 s.data.toList)))):=by
 unfold dn1 eg0;rw[gm3 q s hq];dsimp only[Option.bind_some];have hl:=bq6 j8 s
 have hd:∀b∈(s.extract 0 (g9 j8 s.data.toList)).data.toList,j8 b.toNat=true:=by
  intro b hb;rw[y4]at hb;simp only[List.drop_zero,Nat.sub_zero]at hb;obtain⟨j,hj⟩:=List.mem_iff_getElem?.1 hb;rw[List.getElem?_take]at hj;split at hj
  ·rename_i hlt;obtain⟨c,h1,h2⟩:=aw0 j8 s.data.toList j hlt;rw[h1]at hj;cases hj;exact h2
  ·cases hj
 have ht:(s.extract 0 (g9 j8 s.data.toList)).size<=s.size:=by simp;omega
 generalize hk:g9 j8 s.data.toList=k at hl hd ht⊢;have e0:Int.toNat ((k:Nat):Int)=k:=by omega
 rw[e0];refine AL (show(0:Int)<=0/\(0:Int)<=((k:Nat):Int)/\((k:Nat):Int)<=((s.size:Nat):Int)by omega) ?_;generalize s.extract 0 k=t at hd ht⊢;have hloop:=gi7 q s t hd q 0 0 (Nat.zero_le _) (by omega) (by omega) (by omega);rw[List.drop_zero]at hloop
 have tail:¬(1<t.size/\t.data.toList[0]? =some 48)->Rs ((fg6 (cc0 q) q s (t,0,0)).bind λz16=>Sum.elim (λz16a=>(some (((0:Int),(0:Int),{data:=#[]},(0:Int),(5:Int))):Option bE)) (λz16b=>some (((2:Int),(0:Int),z16b.1,z16b.2,(0:Int)))) z16) (λz=>z=lA (gZ t)):=by
  intro hno;refine AI hloop λr hr=>?_;unfold gZ;rw[if_neg hno];by_cases hv:aa9 0 t.data.toList>2147483647
  ·rw[if_pos hv]at hr⊢;subst hr;exact AJ rfl
  ·rw[if_neg hv]at hr⊢;subst hr;exact AJ rfl
 by_cases h1:1<t.size
 ·refine AL (decide_eq_true (show((t.size:Nat):Int)>1 by omega)) (AL (show(0:Int)<=0/\(0:Int)< ((t.size:Nat):Int)by omega) ?_);have hg:=y9 t 0 (by omega);rw[List.drop_zero]at hg;have hb:List.getD t.data.toList 0 (0:UInt8)=t.get! 0:=by rw[hg];rfl
  rw[hb];by_cases hc:(((t.get! 0).toNat:Nat):Int)=48
  ·refine AL (by simpa using hc) (AJ ?_);unfold gZ;rw[if_pos ⟨h1,by rw[hg];simp only[List.getElem?_cons_zero,Option.some.injEq];exact UInt8.toNat_inj.1 (by show(t.get! 0).toNat=48;omega)⟩];rfl
  ·refine AM (by simpa using hc) (tail λh=>hc ?_);have:=h.2;rw[hg]at this;simp only[List.getElem?_cons_zero,Option.some.injEq]at this;rw[this];rfl
 ·exact AM (λh=>h1 (by have:=of_decide_eq_true h;omega)) (tail λh=>h1 h.1)
abbrev TkT:Type:=(Nat->Int)×(Nat->ByteArray)×(Nat->Int)×(Nat->Int)
def X8(l:List Tkn)(a:TkT):Prop:=∀j x,l[j]? =some x->a.1 j=x.k/\a.2.1 j=x.t/\a.2.2.1 j=x.n/\a.2.2.2 j=x.a
theorem X8.push{l:List Tkn}{a:TkT}(h:X8 l a)(x:Tkn):X8 (l++[x]) (λj=>if j<l.length then a.1 j else x.k,λj=>if j<l.length then a.2.1 j else x.t,λj=>if j<l.length then a.2.2.1 j else x.n,λj=>if j<l.length then a.2.2.2 j else x.a):=by
 intro j y e;by_cases hj:j<l.length
 ·rw[List.getElem?_append_left hj]at e;simp only[hj,if_true];exact h j y e
 ·rw[List.getElem?_append_right (by omega)]at e;simp only[hj,if_false];cases hk:j-l.length with
  |zero=>rw[hk]at e;simp only[List.getElem?_cons_zero,Option.some.injEq]at e;subst e;exact⟨rfl,rfl,rfl,rfl⟩
  |succ n=>rw[hk]at e;simp at e
theorem X8.one(x:Tkn):X8 [x] (λ_=>x.k,λ_=>x.t,λ_=>x.n,λ_=>x.a):=by
 intro j y e;cases j with
 |zero=>simp only[List.getElem?_cons_zero,Option.some.injEq]at e;subst e;exact⟨rfl,rfl,rfl,rfl⟩
 |succ j=>simp at e
def am7(s:ByteArray):Tkn:=⟨0,(s.size:Nat),⟨#[]⟩,0⟩
def TL(s:ByteArray):bC->Prop
 | .inl z=>∃p:Nat,z.1=(p:Int)/\z.2≠0/\Lex s 0 [] ([],p,z.2)
 | .inr (.inl _)=>Lex s 0 [] ([am7 s],0,0)
 | .inr (.inr z)=>∃acc:List Tkn,z.1=acc.length/\acc.length<=s.size/\X8 acc (z.2.1,z.2.2.2.1,z.2.2.2.2,z.2.2.1)/\Lex s 0 [] (acc++[am7 s],0,0)
def TS(acc:List Tkn)(p d:Nat):gL->Prop
 | .inl y=>acc=[]/\y=(p,(d:Int))
 | .inr y=>∃(a:TkT) (n:Nat),y=((d:Int),a.1,a.2.1,a.2.2.1,a.2.2.2,p,n)/\n=acc.length/\X8 acc a
theorem ae1{s:ByteArray}{p:Nat}(h:aC ((s.get! p).toNat:Int)=true):fH s p=ai7 (s.extract p s.size):=by unfold fH;rw[if_pos h]
theorem au8{s:ByteArray}{p:Nat}(h:¬aC ((s.get! p).toNat:Int)=true)(h2:j8 ((s.get! p).toNat:Int)=true):fH s p=gZ ((s.extract p s.size).extract 0 (g9 j8 (s.extract p s.size).data.toList)):=by unfold fH;rw[if_neg h,if_pos h2]
theorem ao1{s:ByteArray}{p:Nat}(h:¬aC ((s.get! p).toNat:Int)=true)(h2:¬j8 ((s.get! p).toNat:Int)=true):fH s p=eS (s.extract p s.size):=by unfold fH;rw[if_neg h,if_neg h2]
theorem cL(c:Int):aT c=true↔c=32\/c=9\/c=10\/c=13:=by simp[aT]
set_option maxHeartbeats 1000000 in
theorem ga6(q:Nat)(s:ByteArray)(hs:s.size<=4000)(hq:4000<q):∀(m p d:Nat) (acc:List Tkn) (y:gL),TS acc p d y->p<=s.size->d<=s.size->s.size-p<m->Bd s p d->acc.length<=max p d->(∀r,Lex s (max p d) acc r->Lex s 0 [] r)->
 Rs (tL (wE q) (xZ q) (be8 q) (word q) (dn1 q) (dl6 q) m s y) (TL s):=by
 intro m
 induction m with
 |zero=>intro p d acc y _ _ _ h;omega
 |succ m ih=>
  intro p d acc y hy hp hd hm hbd hacc hinv;unfold tL;refine AO λQ hQ=>?_;have e1:Int.toNat ((p:Nat):Int)=p:=by omega
  have e2:Int.toNat ((s.size:Nat):Int)=s.size:=by omega
  have hr:(s.extract p s.size).size=s.size-p:=gf2 s p;rcases y with y|y
  ·obtain⟨rfl,rfl⟩:=hy;rw[Sum.elim_inl];unfold wM;dsimp only;by_cases hlt:p<s.size
   ·obtain⟨hw1,hw2,_⟩:=qL s p hlt;refine AL hlt ?_;by_cases hpd:p<d
    ·refine AL (decide_eq_true (Int.ofNat_lt.2 hpd)) (AJ ?_);obtain⟨b1,b2⟩:=hbd.step hpd hd;refine hQ _ (ih (p+(Utf8.decode s p).2) d [] _ ⟨rfl,rfl⟩ hw2 hd (by omega) b2 (by omega) λr h=>hinv r ?_)
     rwa [Nat.max_eq_right (by omega)]at h⊢
    ·refine AM (λh=>hpd (Int.ofNat_lt.1 (of_decide_eq_true h))) (AL (show(0:Int)<=((p:Nat):Int)/\((p:Nat):Int)<=((s.size:Nat):Int)/\((s.size:Nat):Int)<=((s.size:Nat):Int)by omega) ?_);have hmax:max p d=p:=Nat.max_eq_left (by omega);rw[hmax]at hinv hacc;have hi:=hinv;have e:=get_at s p hlt;simp only[Nat.add_zero]at e;have hW:=mG s aT br1 p hlt;have hLt:=mG s aC yM p hlt;have hDg:=mG s j8 wJ p hlt
     have hlo:(s.get! p).toNat<128->Utf8.decode s p=((s.get! p).toNat,1):=λh=>by
      have:=decode_ascii s p hlt (by rw[<-e];exact h);rw[this,<-e]
     have hhi:128<=(s.get! p).toNat->128<=(Utf8.decode s p).1:=λh=>(decode_high s p hlt (by rw[<-e];exact h)).1
     have skip:aT (((Utf8.decode s p).1:Nat):Int)=true->Rs (tL (wE q) (xZ q) (be8 q) (word q) (dn1 q) (dl6 q) m s (.inl (p+(Utf8.decode s p).2,((d:Nat):Int)))) (TL s):=by
      intro hwh;rw[hW]at hwh;have hb:(s.get! p).toNat<128:=by have:=(cL _).1 hwh;omega
      have hd1:=hlo hb;refine ih _ d [] _ ⟨rfl,rfl⟩ hw2 hd (by omega) (Bd.refl _ _ _ (by omega)) (by omega) λr h=>hi r (.white hlt hwh ?_);rw[hd1]at h
      rwa [Nat.max_eq_left (by show d<=p+1;omega)]at h
     by_cases c1:(((Utf8.decode s p).1:Nat):Int)=32
     ·exact AL (beq_iff_eq.2 c1) (AJ (hQ _ (skip ((cL _).2 (.inl c1)))))
     refine AM (λh=>c1 (beq_iff_eq.1 h)) ?_;by_cases c2:(((Utf8.decode s p).1:Nat):Int)=9
     ·exact AL (beq_iff_eq.2 c2) (AJ (hQ _ (skip ((cL _).2 (.inr (.inl c2))))))
     refine AM (λh=>c2 (beq_iff_eq.1 h)) ?_;by_cases c3:(((Utf8.decode s p).1:Nat):Int)=10
     ·exact AL (beq_iff_eq.2 c3) (AJ (hQ _ (skip ((cL _).2 (.inr (.inr (.inl c3)))))))
     refine AM (λh=>c3 (beq_iff_eq.1 h)) ?_;by_cases c4:(((Utf8.decode s p).1:Nat):Int)=13
     ·exact AL (beq_iff_eq.2 c4) (AJ (hQ _ (skip ((cL _).2 (.inr (.inr (.inr c4)))))))
     refine AM (λh=>c4 (beq_iff_eq.1 h)) ?_
     have hwf:aT ((s.get! p).toNat:Int)=false:=by
      rw[<-hW,Bool.eq_false_iff];intro h;rcases(cL _).1 h with h|h|h|h
      ·exact c1 h
      ·exact c2 h
      ·exact c3 h
      ·exact c4 h
     rw[e1,e2];by_cases c5:(((Utf8.decode s p).1:Nat):Int)=35
     ·have hb:(s.get! p).toNat<128:=by
       rcases Nat.lt_or_ge (s.get! p).toNat 128 with h|h
       ·exact h
       ·have:=hhi h;omega
      have hd1:=hlo hb;have h35:(s.get! p).toNat=35:=by have hh:=c5;rw[hd1]at hh;dsimp only at hh;omega
      obtain⟨k1,k2,k3⟩:=dg6 hlt h35;refine AL (beq_iff_eq.2 c5) ?_;rw[ds5 q _ (by omega),nL s p (by omega)];dsimp only[Option.bind_some];refine AJ (hQ _ ?_);have ew:w (((p:Nat):Int)+((g9 bS (s.data.toList.drop p):Nat):Int))=((p+g9 bS (s.data.toList.drop p):Nat):Int):=by rw[dJ (by omega) (by omega)];omega
      rw[ew];obtain⟨b1,b2⟩:=k3.step (by omega) k2;refine ih (p+(Utf8.decode s p).2) (p+g9 bS (s.data.toList.drop p)) [] _ ⟨rfl,rfl⟩ hw2 k2 (by omega) b2 (by omega) λr h=>hi r (.hash hlt h35 ?_)
      rwa [Nat.max_eq_right b1]at h
     refine AM (λh=>c5 (beq_iff_eq.1 h)) ?_;have h35:(s.get! p).toNat≠35:=λh=>c5 (by rw[hlo (by omega),h];rfl);rw[ah1];dsimp only[Option.bind_some];obtain⟨x,er,hx⟩:∃x er,fH s p=(x,er):=⟨_,_,rfl⟩;by_cases cl:aC (((Utf8.decode s p).1:Nat):Int)=true
     ·refine AL cl ?_
      have hz:ai7 (s.extract p s.size)=(x,er):=by
       rw[hLt]at cl;exact(ae1 cl).symm.trans hx
      rw[fa4 q _ (by omega),hz];dsimp only[Option.bind_some];refine Rs.ite (λhe=>?_) (λhe=>?_)
      ·refine AJ ?_;have he':er≠0:=by simpa[lA]using he
       exact⟨p,rfl,he',hi _ (.err hlt hwf h35 hx he')⟩
      ·have he':er=0:=by simpa[lA]using he
       subst he';obtain⟨o1,o2,o3,o4,o5⟩:=vZ hlt hx;refine AJ (hQ _ ?_);have ew:w (((p:Nat):Int)+((x.t.size:Nat):Int))=((p+x.t.size:Nat):Int):=by rw[dJ (by omega) (by omega)];omega
       dsimp only[lA];rw[ew];have hbs:Bd s p (p+x.t.size):=.inl o5;obtain⟨b1,b2⟩:=hbs.step (by omega) o3;refine ih (p+(Utf8.decode s p).2) (p+x.t.size) ([]++[{x with a:=(p:Int)}]) _ ⟨_,_,rfl,rfl,X8.one {x with a:=(p:Int)}⟩ hw2 o3 (by omega) b2 (by simp;omega) λr h=>hi r (.tok hlt hwf h35 hx ?_)
       rwa [Nat.max_eq_right b1]at h
     refine AM cl ?_;rw[zB];dsimp only[Option.bind_some];by_cases cd:j8 (((Utf8.decode s p).1:Nat):Int)=true
     ·refine AL cd ?_
      have hz:gZ ((s.extract p s.size).extract 0 (g9 j8 (s.extract p s.size).data.toList))=(x,er):=by
       rw[hLt]at cl;rw[hDg]at cd;exact(au8 cl cd).symm.trans hx
      refine AI (fe4 q _ (by omega)) λz hzz=>?_;rw[hz]at hzz;subst hzz;refine Rs.ite (λhe=>?_) (λhe=>?_)
      ·refine AJ ?_;have he':er≠0:=by simpa[lA]using he
       exact⟨p,rfl,he',hi _ (.err hlt hwf h35 hx he')⟩
      ·have he':er=0:=by simpa[lA]using he
       subst he';obtain⟨o1,o2,o3,o4,o5⟩:=vZ hlt hx;refine AJ (hQ _ ?_);have ew:w (((p:Nat):Int)+((x.t.size:Nat):Int))=((p+x.t.size:Nat):Int):=by rw[dJ (by omega) (by omega)];omega
       dsimp only[lA];rw[ew];have hbs:Bd s p (p+x.t.size):=.inl o5;obtain⟨b1,b2⟩:=hbs.step (by omega) o3;refine ih (p+(Utf8.decode s p).2) (p+x.t.size) ([]++[{x with a:=(p:Int)}]) _ ⟨_,_,rfl,rfl,X8.one {x with a:=(p:Int)}⟩ hw2 o3 (by omega) b2 (by simp;omega) λr h=>hi r (.tok hlt hwf h35 hx ?_)
       rwa [Nat.max_eq_right b1]at h
     refine AM cd ?_
     have hz:eS (s.extract p s.size)=(x,er):=by
      rw[hLt]at cl;rw[hDg]at cd;exact(ao1 cl cd).symm.trans hx
     refine AI (fh0 q _ (by omega)) λz hzz=>?_;rw[hz]at hzz;subst hzz;refine Rs.ite (λhe=>?_) (λhe=>?_)
     ·refine AJ ?_;have he':er≠0:=by simpa[lA]using he
      exact⟨p,rfl,he',hi _ (.err hlt hwf h35 hx he')⟩
     ·have he':er=0:=by simpa[lA]using he
      subst he';obtain⟨o1,o2,o3,o4,o5⟩:=vZ hlt hx;refine AJ (hQ _ ?_);have ew:w (((p:Nat):Int)+((x.t.size:Nat):Int))=((p+x.t.size:Nat):Int):=by rw[dJ (by omega) (by omega)];omega
      dsimp only[lA];rw[ew];have hbs:Bd s p (p+x.t.size):=.inl o5;obtain⟨b1,b2⟩:=hbs.step (by omega) o3;refine ih (p+(Utf8.decode s p).2) (p+x.t.size) ([]++[{x with a:=(p:Int)}]) _ ⟨_,_,rfl,rfl,X8.one {x with a:=(p:Int)}⟩ hw2 o3 (by omega) b2 (by simp;omega) λr h=>hi r (.tok hlt hwf h35 hx ?_)
      rwa [Nat.max_eq_right b1]at h
   ·refine AM hlt (AJ ?_);exact hinv _ (.fin (by omega))
  ·obtain⟨a,_,rfl,rfl,ha⟩:=hy;rw[Sum.elim_inr];unfold xA U7;dsimp only;by_cases hlt:p<s.size
   ·obtain⟨hw1,hw2,_⟩:=qL s p hlt;refine AL hlt ?_;by_cases hpd:p<d
    ·refine AL (decide_eq_true (Int.ofNat_lt.2 hpd)) (AJ ?_);obtain⟨b1,b2⟩:=hbd.step hpd hd;refine hQ _ (ih (p+(Utf8.decode s p).2) d acc _ ⟨a,_,rfl,rfl,ha⟩ hw2 hd (by omega) b2 (by omega) λr h=>hinv r ?_)
     rwa [Nat.max_eq_right (by omega)]at h⊢
    ·refine AM (λh=>hpd (Int.ofNat_lt.1 (of_decide_eq_true h))) (AL (show(0:Int)<=((p:Nat):Int)/\((p:Nat):Int)<=((s.size:Nat):Int)/\((s.size:Nat):Int)<=((s.size:Nat):Int)by omega) ?_);have hmax:max p d=p:=Nat.max_eq_left (by omega);rw[hmax]at hinv hacc;have hi:=hinv;have e:=get_at s p hlt;simp only[Nat.add_zero]at e;have hW:=mG s aT br1 p hlt;have hLt:=mG s aC yM p hlt;have hDg:=mG s j8 wJ p hlt
     have hlo:(s.get! p).toNat<128->Utf8.decode s p=((s.get! p).toNat,1):=λh=>by
      have:=decode_ascii s p hlt (by rw[<-e];exact h);rw[this,<-e]
     have hhi:128<=(s.get! p).toNat->128<=(Utf8.decode s p).1:=λh=>(decode_high s p hlt (by rw[<-e];exact h)).1
     have skip:aT (((Utf8.decode s p).1:Nat):Int)=true->Rs (tL (wE q) (xZ q) (be8 q) (word q) (dn1 q) (dl6 q) m s (.inr (((d:Nat):Int),a.1,a.2.1,a.2.2.1,a.2.2.2,p+(Utf8.decode s p).2,acc.length))) (TL s):=by
      intro hwh;rw[hW]at hwh;have hb:(s.get! p).toNat<128:=by have:=(cL _).1 hwh;omega
      have hd1:=hlo hb;refine ih _ d acc _ ⟨a,_,rfl,rfl,ha⟩ hw2 hd (by omega) (Bd.refl _ _ _ (by omega)) (by omega) λr h=>hi r (.white hlt hwh ?_);rw[hd1]at h
      rwa [Nat.max_eq_left (by show d<=p+1;omega)]at h
     by_cases c1:(((Utf8.decode s p).1:Nat):Int)=32
     ·exact AL (beq_iff_eq.2 c1) (AJ (hQ _ (skip ((cL _).2 (.inl c1)))))
     refine AM (λh=>c1 (beq_iff_eq.1 h)) ?_;by_cases c2:(((Utf8.decode s p).1:Nat):Int)=9
     ·exact AL (beq_iff_eq.2 c2) (AJ (hQ _ (skip ((cL _).2 (.inr (.inl c2))))))
     refine AM (λh=>c2 (beq_iff_eq.1 h)) ?_;by_cases c3:(((Utf8.decode s p).1:Nat):Int)=10
     ·exact AL (beq_iff_eq.2 c3) (AJ (hQ _ (skip ((cL _).2 (.inr (.inr (.inl c3)))))))
     refine AM (λh=>c3 (beq_iff_eq.1 h)) ?_;by_cases c4:(((Utf8.decode s p).1:Nat):Int)=13
     ·exact AL (beq_iff_eq.2 c4) (AJ (hQ _ (skip ((cL _).2 (.inr (.inr (.inr c4)))))))
     refine AM (λh=>c4 (beq_iff_eq.1 h)) ?_
     have hwf:aT ((s.get! p).toNat:Int)=false:=by
      rw[<-hW,Bool.eq_false_iff];intro h;rcases(cL _).1 h with h|h|h|h
      ·exact c1 h
      ·exact c2 h
      ·exact c3 h
      ·exact c4 h
     rw[e1,e2];by_cases c5:(((Utf8.decode s p).1:Nat):Int)=35
     ·have hb:(s.get! p).toNat<128:=by
       rcases Nat.lt_or_ge (s.get! p).toNat 128 with h|h
       ·exact h
       ·have:=hhi h;omega
      have hd1:=hlo hb;have h35:(s.get! p).toNat=35:=by have hh:=c5;rw[hd1]at hh;dsimp only at hh;omega
      obtain⟨k1,k2,k3⟩:=dg6 hlt h35;refine AL (beq_iff_eq.2 c5) ?_;rw[ds5 q _ (by omega),nL s p (by omega)];dsimp only[Option.bind_some];refine AJ (hQ _ ?_);have ew:w (((p:Nat):Int)+((g9 bS (s.data.toList.drop p):Nat):Int))=((p+g9 bS (s.data.toList.drop p):Nat):Int):=by rw[dJ (by omega) (by omega)];omega
      rw[ew];obtain⟨b1,b2⟩:=k3.step (by omega) k2;refine ih (p+(Utf8.decode s p).2) (p+g9 bS (s.data.toList.drop p)) acc _ ⟨a,_,rfl,rfl,ha⟩ hw2 k2 (by omega) b2 (by omega) λr h=>hi r (.hash hlt h35 ?_)
      rwa [Nat.max_eq_right b1]at h
     refine AM (λh=>c5 (beq_iff_eq.1 h)) ?_;have h35:(s.get! p).toNat≠35:=λh=>c5 (by rw[hlo (by omega),h];rfl);rw[ah1];dsimp only[Option.bind_some];obtain⟨x,er,hx⟩:∃x er,fH s p=(x,er):=⟨_,_,rfl⟩;by_cases cl:aC (((Utf8.decode s p).1:Nat):Int)=true
     ·refine AL cl ?_
      have hz:ai7 (s.extract p s.size)=(x,er):=by
       rw[hLt]at cl;exact(ae1 cl).symm.trans hx
      rw[fa4 q _ (by omega),hz];dsimp only[Option.bind_some];refine Rs.ite (λhe=>?_) (λhe=>?_)
      ·refine AJ ?_;have he':er≠0:=by simpa[lA]using he
       exact⟨p,rfl,he',hi _ (.err hlt hwf h35 hx he')⟩
      ·have he':er=0:=by simpa[lA]using he
       subst he';obtain⟨o1,o2,o3,o4,o5⟩:=vZ hlt hx;refine AL ⟨by unfold b6;omega,by unfold maxLen;omega,Nat.le_refl _⟩ ?_;refine AJ (hQ _ ?_);have ew:w (((p:Nat):Int)+((x.t.size:Nat):Int))=((p+x.t.size:Nat):Int):=by rw[dJ (by omega) (by omega)];omega
       dsimp only[lA];rw[ew];have hbs:Bd s p (p+x.t.size):=.inl o5;obtain⟨b1,b2⟩:=hbs.step (by omega) o3;refine ih (p+(Utf8.decode s p).2) (p+x.t.size) (acc++[{x with a:=(p:Int)}]) _ ⟨_,_,rfl,by simp,ha.push {x with a:=(p:Int)}⟩ hw2 o3 (by omega) b2 (by simp;omega) λr h=>hi r (.tok hlt hwf h35 hx ?_)
       rwa [Nat.max_eq_right b1]at h
     refine AM cl ?_;rw[zB];dsimp only[Option.bind_some];by_cases cd:j8 (((Utf8.decode s p).1:Nat):Int)=true
     ·refine AL cd ?_
      have hz:gZ ((s.extract p s.size).extract 0 (g9 j8 (s.extract p s.size).data.toList))=(x,er):=by
       rw[hLt]at cl;rw[hDg]at cd;exact(au8 cl cd).symm.trans hx
      refine AI (fe4 q _ (by omega)) λz hzz=>?_;rw[hz]at hzz;subst hzz;refine Rs.ite (λhe=>?_) (λhe=>?_)
      ·refine AJ ?_;have he':er≠0:=by simpa[lA]using he
       exact⟨p,rfl,he',hi _ (.err hlt hwf h35 hx he')⟩
      ·have he':er=0:=by simpa[lA]using he
       subst he';obtain⟨o1,o2,o3,o4,o5⟩:=vZ hlt hx;refine AL ⟨by unfold b6;omega,by unfold maxLen;omega,Nat.le_refl _⟩ ?_;refine AJ (hQ _ ?_);have ew:w (((p:Nat):Int)+((x.t.size:Nat):Int))=((p+x.t.size:Nat):Int):=by rw[dJ (by omega) (by omega)];omega
       dsimp only[lA];rw[ew];have hbs:Bd s p (p+x.t.size):=.inl o5;obtain⟨b1,b2⟩:=hbs.step (by omega) o3;refine ih (p+(Utf8.decode s p).2) (p+x.t.size) (acc++[{x with a:=(p:Int)}]) _ ⟨_,_,rfl,by simp,ha.push {x with a:=(p:Int)}⟩ hw2 o3 (by omega) b2 (by simp;omega) λr h=>hi r (.tok hlt hwf h35 hx ?_)
       rwa [Nat.max_eq_right b1]at h
     refine AM cd ?_
     have hz:eS (s.extract p s.size)=(x,er):=by
      rw[hLt]at cl;rw[hDg]at cd;exact(ao1 cl cd).symm.trans hx
     refine AI (fh0 q _ (by omega)) λz hzz=>?_;rw[hz]at hzz;subst hzz;refine Rs.ite (λhe=>?_) (λhe=>?_)
     ·refine AJ ?_;have he':er≠0:=by simpa[lA]using he
      exact⟨p,rfl,he',hi _ (.err hlt hwf h35 hx he')⟩
     ·have he':er=0:=by simpa[lA]using he
      subst he';obtain⟨o1,o2,o3,o4,o5⟩:=vZ hlt hx;refine AL ⟨by unfold b6;omega,by unfold maxLen;omega,Nat.le_refl _⟩ ?_;refine AJ (hQ _ ?_);have ew:w (((p:Nat):Int)+((x.t.size:Nat):Int))=((p+x.t.size:Nat):Int):=by rw[dJ (by omega) (by omega)];omega
      dsimp only[lA];rw[ew];have hbs:Bd s p (p+x.t.size):=.inl o5;obtain⟨b1,b2⟩:=hbs.step (by omega) o3;refine ih (p+(Utf8.decode s p).2) (p+x.t.size) (acc++[{x with a:=(p:Int)}]) _ ⟨_,_,rfl,by simp,ha.push {x with a:=(p:Int)}⟩ hw2 o3 (by omega) b2 (by simp;omega) λr h=>hi r (.tok hlt hwf h35 hx ?_)
      rwa [Nat.max_eq_right b1]at h
   ·refine AM hlt (AJ ?_);exact⟨acc,rfl,by omega,ha,hinv _ (.fin (by omega))⟩
abbrev n9:Type:=Int×Int×ByteArray×Nat×(Nat->List V)
mutual
def Z7:Tr->n9->Prop
 | .node k n s l,x=>x.1=k/\x.2.1=n/\x.2.2.1=s/\x.2.2.2.1=l.length/\n5 l x.2.2.2.2 0
def n5:List Tr->(Nat->List V)->Nat->Prop
 | [],_,_=>True
 |t::l,f,j=>(∃y:n9,f j=[i64 y.1,i64 y.2.1,st y.2.2.1,.ro 4 y.2.2.2.1 y.2.2.2.2]/\Z7 t y)/\n5 l f (j+1)
end
theorem Z7.leaf{k n:Int}{s:ByteArray}{f:Nat->List V}:Z7 (.node k n s []) (k,n,s,0,f):=by simp[Z7,n5]
def AQ:=@Z7.leaf
theorem Z7.k1{k n:Int}{s:ByteArray}{a:Tr}{y:n9}(h:Z7 a y):Z7 (.node k n s [a]) (k,n,s,1,cN [[i64 y.1,i64 y.2.1,st y.2.2.1,.ro 4 y.2.2.2.1 y.2.2.2.2]]):=by
 simp only[Z7,n5,List.length_cons,List.length_nil];exact⟨trivial,trivial,trivial,trivial,⟨y,rfl,h⟩,trivial⟩
def AS:=@Z7.k1
theorem Z7.k2{k n:Int}{s:ByteArray}{a b:Tr}{y z:n9}(h:Z7 a y)(g:Z7 b z):Z7 (.node k n s [a,b]) (k,n,s,2,cN [[i64 y.1,i64 y.2.1,st y.2.2.1,.ro 4 y.2.2.2.1 y.2.2.2.2],[i64 z.1,i64 z.2.1,st z.2.2.1,.ro 4 z.2.2.2.1 z.2.2.2.2]]):=by
 simp only[Z7,n5,List.length_cons,List.length_nil];exact⟨trivial,trivial,trivial,trivial,⟨y,rfl,h⟩,⟨z,rfl,g⟩,trivial⟩
def PN(N:Nat)(T:Nat->Tkn)(pr:List ByteArray):PR Tr->(Int×Int×ByteArray×Nat×(Nat->List V)×StT)⊕(Int×Int)->Prop
 | .ok a s,.inl z=>Z7 a (z.1,z.2.1,z.2.2.1,z.2.2.2.1,z.2.2.2.2.1)/\RS N T pr s z.2.2.2.2.2
 | .err p c,.inr e=>p<N/\e=((T p).a,c)
 |_,_=>False
theorem PR.bind_out{α β:Type}{r:PR α}{k:α->PS->PR β}(h:r.bind k≠ .out):r≠ .out:=by rintro rfl;exact h rfl
def AT:=@PR.bind_out
section
variable {N:Nat} {T:Nat->Tkn} {pr:List ByteArray} {γ:Type} {P:γ->Prop}
theorem PU.bind{r:PR Unit}{o:Option (StT⊕(Int×Int))}{f:StT->Option γ}{g:Int×Int->Option γ}(h:Rs o (PU N T pr r))(hok:∀s x,r= .ok () s->RS N T pr s x->Rs (f x) P)(herr:∀p c,r= .err p c->p<N->Rs (g ((T p).a,c)) P):
 Rs (o.bind λz=>Sum.elim f g z) P:=by
 obtain⟨z,rfl,hp⟩:=h;cases r with
 |ok u s=>cases z with
  |inl z=>exact hok s z rfl hp
  |inr z=>exact hp.elim
 |err p c=>cases z with
  |inl z=>exact hp.elim
  |inr z=>obtain⟨h1,rfl⟩:=hp;exact herr p c rfl h1
 |out=>cases z<;>exact hp.elim
def AU:=@PU.bind
theorem PX.bind{α:Type}{r:PR α}{o:Option ((α×StT)⊕(Int×Int))}{f:α×StT->Option γ}{g:Int×Int->Option γ}(h:Rs o (PX N T pr r))(hok:∀a s x,r= .ok a s->RS N T pr s x->Rs (f (a,x)) P)(herr:∀p c,r= .err p c->p<N->Rs (g ((T p).a,c)) P):
 Rs (o.bind λz=>Sum.elim f g z) P:=by
 obtain⟨z,rfl,hp⟩:=h;cases r with
 |ok a s=>cases z with
  |inl z=>obtain⟨z1,z2⟩:=z;obtain⟨rfl,h2⟩:=hp;exact hok _ s z2 rfl h2
  |inr z=>exact hp.elim
 |err p c=>cases z with
  |inl z=>exact hp.elim
  |inr z=>obtain⟨h1,rfl⟩:=hp;exact herr p c rfl h1
 |out=>cases z<;>exact hp.elim
def AV:=@PX.bind
theorem PN.bind{r:PR Tr}{o:Option ((Int×Int×ByteArray×Nat×(Nat->List V)×StT)⊕(Int×Int))}{f:Int×Int×ByteArray×Nat×(Nat->List V)×StT->Option γ}{g:Int×Int->Option γ}(h:Rs o (PN N T pr r))
 (hok:∀t s k n b m c x,r= .ok t s->Z7 t (k,n,b,m,c)->RS N T pr s x->Rs (f (k,n,b,m,c,x)) P) (herr:∀p c,r= .err p c->p<N->Rs (g ((T p).a,c)) P):
 Rs (o.bind λz=>Sum.elim f g z) P:=by
 obtain⟨z,rfl,hp⟩:=h;cases r with
 |ok a s=>cases z with
  |inl z=>obtain⟨k,n,b,m,c,x⟩:=z;exact hok a s k n b m c x rfl hp.1 hp.2
  |inr z=>exact hp.elim
 |err p c=>cases z with
  |inl z=>exact hp.elim
  |inr z=>obtain⟨h1,rfl⟩:=hp;exact herr p c rfl h1
 |out=>cases z<;>exact hp.elim
def AW:=@PN.bind
end
theorem bw7(q:Nat)(t:ByteArray):rP q t=some ((cF t:Nat):Int):=by
 unfold rP ba0 cF;simp only[tl_eq];by_cases e0:t=sOr
 ·subst e0;rfl
 by_cases e1:t=zI
 ·subst e1;rfl
 by_cases e2:t=sLt
 ·subst e2;rfl
 by_cases e3:t=sLe
 ·subst e3;rfl
 by_cases e4:t=sGt
 ·subst e4;rfl
 by_cases e5:t=sGe
 ·subst e5;rfl
 by_cases e6:t=sEq
 ·subst e6;rfl
 by_cases e7:t=sNe
 ·subst e7;rfl
 by_cases e8:t=dw1
 ·subst e8;rfl
 by_cases e9:t=yC
 ·subst e9;rfl
 by_cases e10:t=do7
 ·subst e10;rfl
 by_cases e11:t=ex7
 ·subst e11;rfl
 simp only[e0,e1,e2,e3,e4,e5,e6,e7,e8,e9,e10,e11,or_self,if_false];rfl
section
variable {N:Nat} {T:Nat->Tkn} {pr:List ByteArray} {s:PS} {x:StT}
theorem qB(hT:Z4 N T)(q:Nat)(h:RS N T pr s x):Rs (pA q x) (PN N T pr (oE T s)):=by
 unfold pA;refine AK (P:=λy=>PN N T pr (oE T s) (ak4 y)) ?_ λz hz=>hz;unfold cd5 an0 oE;refine AV (ac2 hT q h 0 2147483647) (λn s1 x1 e h1=>?_) (λp c e hp=>?_)
 ·rw[e];dsimp only[PR.bind];rw[eK q h1];dsimp only[Option.bind_some];by_cases hk:(T s1.p).k=1
  ·refine AL (by simp[hk]) ?_;refine AI (aw9 q (T s1.p).t) λz hz=>?_;by_cases hu:jW (T s1.p).t=true
   ·refine AL (hz.trans hu) (AJ ?_);rw[if_pos (show _/\_ from⟨hk,hu⟩)];exact⟨AQ,AP hT h1 (.inr (by rw[hk];decide))⟩
   ·refine AM (by rw[hz];exact hu) (AJ ?_);rw[if_neg (show¬(_/\_)from λh=>hu h.2)];exact⟨AQ,h1⟩
  ·refine AM (by simp[hk]) (AJ ?_);rw[if_neg (show¬(_/\_)from λh=>hk h.1)];exact⟨AQ,h1⟩
 ·rw[e];exact AJ ⟨hp,rfl⟩
end
abbrev Y0:Type:=Nat×(Nat->Int)×(Nat->Int)×(Nat->ByteArray)×(Nat->Int)×Int×Int×Nat×Nat×(Nat->ByteArray)×(Nat->ByteArray)×n9
abbrev Y1:Type:=Nat×(Nat->Int)×(Nat->Int)×(Nat->ByteArray)×(Nat->Int)×Int×Int×Nat×Nat×(Nat->ByteArray)×(Nat->ByteArray)×ByteArray×Int×Int×ByteArray×Nat×(Nat->List V)×n9
def y0(x:StT)(n:n9):Y0:=(x.2.2.1,x.2.2.2.1,x.2.2.2.2.1,x.2.2.2.2.2.1,x.2.2.2.2.2.2.1,x.1,x.2.1,x.2.2.2.2.2.2.2.1,x.2.2.2.2.2.2.2.2.2.1,x.2.2.2.2.2.2.2.2.1,x.2.2.2.2.2.2.2.2.2.2,n)
def y1(x:StT)(op:ByteArray)(a b:n9):Y1:=(x.2.2.1,x.2.2.2.1,x.2.2.2.2.1,x.2.2.2.2.2.1,x.2.2.2.2.2.2.1,x.1,x.2.1,x.2.2.2.2.2.2.2.1,x.2.2.2.2.2.2.2.2.2.1,x.2.2.2.2.2.2.2.2.1,x.2.2.2.2.2.2.2.2.2.2,op,a.1,a.2.1,a.2.2.1,a.2.2.2.1,a.2.2.2.2,b)
def LP(N:Nat)(T:Nat->Tkn)(pr:List ByteArray):PR Tr->lM->Prop
 | .ok t s,.inl z=>∃x op a b ta tb,z=y1 x op a b/\t= .node 20 0 op [ta,tb]/\Z7 ta a/\Z7 tb b/\RS N T pr s x
 | .ok t s,.inr (.inr z)=>∃x n,z=y0 x n/\Z7 t n/\RS N T pr s x
 | .err p c,.inr (.inl e)=>p<N/\e=((T p).a,c)
 |_,_=>False
def LS(n:Tr)(x:StT):iT->Prop
 | .inl y=>∃a,y=y0 x a/\Z7 n a
 | .inr y=>∃op a b ta tb,y=y1 x op a b/\n= .node 20 0 op [ta,tb]/\Z7 ta a/\Z7 tb b
section
variable {N:Nat} {T:Nat->Tkn} {pr:List ByteArray}
def HE(N:Nat)(T:Nat->Tkn)(pr:List ByteArray)(f q:Nat):Prop:=∀g,g<=f->∀lv,1<=lv->lv<=8->∀(s:PS) (x:StT),RS N T pr s x->l9 T g lv s≠ .out->Rs (expr q ((lv:Int),x)) (PN N T pr (l9 T g lv s))
theorem bx2(hT:Z4 N T){f q:Nat}(hE:HE N T pr f q)(lv:Nat)(hl1:1<=lv)(hl:lv<=7)(x0:StT):∀(g:Nat),g<=f->∀(m:Nat),g<m->∀(n:Tr) (s:PS) (x:StT) (y:iT),LS n x y->RS N T pr s x->dP T g lv n s≠ .out->
 Rs (av0 (is q) (du3 q) (aq9 q) (expr q) (next q) (rP q) m (((lv:Nat):Int),x0) y) (LP N T pr (dP T g lv n s)):=by
 intro g
 induction g with
 |zero=>intro _ m _ n s x y _ _ ho;exact absurd rfl ho
 |succ g ih=>
  intro hg m hm n s x y hy h ho;obtain⟨m,rfl⟩:∃k,m=k+1:=⟨m-1,by omega⟩;unfold av0;refine AO λQ hQ=>?_;have h0:=h;obtain⟨v,u,rfl,h1,h2,h3,h4,h5,h6⟩:=h;have hN:=hT.big;have hop:dP T (g+1) lv n s=if cF (T s.p).t=lv/\(T s.p).k=3 then(l9 T g (lv+1) (adv s)).bind λm s'=>if lv=4 then .ok (.node 20 0 (T s.p).t [n,m]) s' else dP T g lv (.node 20 0 (T s.p).t [n,m]) s' else .ok n s:=by rw[dP]
  rcases y with y|y
  ·obtain⟨a,rfl,ha⟩:=hy;rw[Sum.elim_inl];unfold yO U16;dsimp only[y0,y1];rw[eK q (s:=s) (pr:=pr) (N:=N) (T:=T) h0];dsimp only[Option.bind_some];rw[bw7];dsimp only[Option.bind_some];by_cases hlv:cF (T s.p).t=lv
   ·refine AL (by simp[hlv]) ?_;rw[eK q (s:=s) (pr:=pr) (N:=N) (T:=T) h0];dsimp only[Option.bind_some];by_cases hk:(T s.p).k=3
    ·refine AL (by simp[hk]) ?_;rw[eK q (s:=s) (pr:=pr) (N:=N) (T:=T) h0];dsimp only[Option.bind_some];rw[if_pos ⟨hlv,hk⟩]at hop;rw[o7 (i:=lv) (by omega)];have hadv:=AP hT h0 (.inr (by rw[hk];decide));refine AW (hE g (by omega) (lv+1) (by omega) (by omega) (adv s) _ hadv (AT (hop▸ho))) (λt s2 k1 n1 b1 m1 c1 x1 e hr hx=>?_) (λp c e hp=>?_)
     ·rw[e]at hop;dsimp only[PR.bind]at hop;by_cases h4':lv=4
      ·rw[if_pos h4']at hop;refine AL (by simp[h4']) (AJ ?_);show LP N T pr (dP T (g+1) lv _ s) _;rw[hop];exact⟨x1,_,a,(k1,n1,b1,m1,c1),_,t,rfl,rfl,ha,hr,hx⟩
      ·rw[if_neg h4']at hop;refine AM (by simp;omega) (AJ ?_);refine hQ _ ?_;rw[hop];exact ih (by omega) m (by omega) _ s2 x1 (.inr (y1 x1 (T s.p).t a (k1,n1,b1,m1,c1))) ⟨_,a,(k1,n1,b1,m1,c1),_,t,rfl,rfl,ha,hr⟩ hx (hop▸ho)
     ·refine AJ ?_;show LP N T pr (dP T (g+1) lv _ s) _;rw[hop,e];exact⟨hp,rfl⟩
    ·refine AM (by simp[hk]) (AJ ?_);rw[if_neg (λh=>hk h.2)]at hop;show LP N T pr (dP T (g+1) lv _ s) _;rw[hop];exact⟨_,a,rfl,ha,h0⟩
   ·refine AM (λhh=>hlv (by have hh:=(by simpa using hh:((cF (T s.p).t:Nat):Int)=lv);omega)) (AJ ?_);rw[if_neg (λh=>hlv h.1)]at hop;show LP N T pr (dP T (g+1) lv _ s) _;rw[hop];exact⟨_,a,rfl,ha,h0⟩
  ·obtain⟨op,a,b,ta,tb,rfl,rfl,ha,hb⟩:=hy
   have hab:Z7 (.node 20 0 op [ta,tb]) (20,0,op,2,λj=>[i64 (if 0+j=0 then a.1 else b.1),i64 (if 0+j=0 then a.2.1 else b.2.1),st (if 0+j=0 then a.2.2.1 else b.2.2.1),.ro 4 (if 0+j=0 then a.2.2.2.1 else b.2.2.2.1) λi=>if 0+j=0 then a.2.2.2.2 i else b.2.2.2.2 i]):=by
    simp only[Z7,n5,List.length_cons,List.length_nil];exact⟨trivial,trivial,trivial,trivial,⟨a,rfl,ha⟩,⟨b,rfl,hb⟩,trivial⟩
   rw[Sum.elim_inr];unfold yK U22;dsimp only[y0,y1];rw[eK q (s:=s) (pr:=pr) (N:=N) (T:=T) h0];dsimp only[Option.bind_some];rw[bw7];dsimp only[Option.bind_some];by_cases hlv:cF (T s.p).t=lv
   ·refine AL (by simp[hlv]) ?_;rw[eK q (s:=s) (pr:=pr) (N:=N) (T:=T) h0];dsimp only[Option.bind_some];by_cases hk:(T s.p).k=3
    ·refine AL (by simp[hk]) ?_;rw[eK q (s:=s) (pr:=pr) (N:=N) (T:=T) h0];dsimp only[Option.bind_some];rw[if_pos ⟨hlv,hk⟩]at hop;rw[o7 (i:=lv) (by omega)];have hadv:=AP hT h0 (.inr (by rw[hk];decide));refine AW (hE g (by omega) (lv+1) (by omega) (by omega) (adv s) _ hadv (AT (hop▸ho))) (λt s2 k1 n1 b1 m1 c1 x1 e hr hx=>?_) (λp c e hp=>?_)
     ·rw[e]at hop;dsimp only[PR.bind]at hop;by_cases h4':lv=4
      ·rw[if_pos h4']at hop;refine AL (by simp[h4']) (AJ ?_);show LP N T pr (dP T (g+1) lv _ s) _;rw[hop];exact⟨x1,_,(20,0,op,2,λj=>[i64 (if 0+j=0 then a.1 else b.1),i64 (if 0+j=0 then a.2.1 else b.2.1),st (if 0+j=0 then a.2.2.1 else b.2.2.1),.ro 4 (if 0+j=0 then a.2.2.2.1 else b.2.2.2.1) λi=>if 0+j=0 then a.2.2.2.2 i else b.2.2.2.2 i]),(k1,n1,b1,m1,c1),_,t,rfl,rfl,hab,hr,hx⟩
      ·rw[if_neg h4']at hop;refine AM (by simp;omega) (AJ ?_);refine hQ _ ?_;rw[hop];exact ih (by omega) m (by omega) _ s2 x1 (.inr (y1 x1 (T s.p).t (20,0,op,2,λj=>[i64 (if 0+j=0 then a.1 else b.1),i64 (if 0+j=0 then a.2.1 else b.2.1),st (if 0+j=0 then a.2.2.1 else b.2.2.1),.ro 4 (if 0+j=0 then a.2.2.2.1 else b.2.2.2.1) λi=>if 0+j=0 then a.2.2.2.2 i else b.2.2.2.2 i]) (k1,n1,b1,m1,c1))) ⟨_,(20,0,op,2,λj=>[i64 (if 0+j=0 then a.1 else b.1),i64 (if 0+j=0 then a.2.1 else b.2.1),st (if 0+j=0 then a.2.2.1 else b.2.2.1),.ro 4 (if 0+j=0 then a.2.2.2.1 else b.2.2.2.1) λi=>if 0+j=0 then a.2.2.2.2 i else b.2.2.2.2 i]),(k1,n1,b1,m1,c1),_,t,rfl,rfl,hab,hr⟩ hx (hop▸ho)
     ·refine AJ ?_;show LP N T pr (dP T (g+1) lv _ s) _;rw[hop,e];exact⟨hp,rfl⟩
    ·refine AM (by simp[hk]) (AJ ?_);rw[if_neg (λh=>hk h.2)]at hop;show LP N T pr (dP T (g+1) lv _ s) _;rw[hop];exact⟨_,op,a,b,ta,tb,rfl,rfl,ha,hb,h0⟩
   ·refine AM (λhh=>hlv (by have hh:=(by simpa using hh:((cF (T s.p).t:Nat):Int)=lv);omega)) (AJ ?_);rw[if_neg (λh=>hlv h.1)]at hop;show LP N T pr (dP T (g+1) lv _ s) _;rw[hop];exact⟨_,op,a,b,ta,tb,rfl,rfl,ha,hb,h0⟩
end
section
variable {N:Nat} {T:Nat->Tkn} {pr:List ByteArray}
def HU(N:Nat)(T:Nat->Tkn)(pr:List ByteArray)(f q:Nat):Prop:=∀g,g<=f->∀b:ByteArray,b≠⟨#[]⟩->∀lv,1<=lv->lv<=8->∀(s:PS) (x:StT),RS N T pr s x->aM T g b lv s≠ .out->Rs (du3 q (b,(lv:Int),x)) (PN N T pr (aM T g b lv s))
def HP(N:Nat)(T:Nat->Tkn)(pr:List ByteArray)(f q:Nat):Prop:=∀g,g<=f->∀(s:PS) (x:StT),RS N T pr s x->dK T g s≠ .out->Rs (aq9 q x) (PN N T pr (dK T g s))
theorem RS.close{s:PS}{x:StT}(hT:Z4 N T)(h:RS N T pr s x)(ho:1<=s.o):RS N T pr (rI s) (x.1,w (x.2.1-1),x.2.2):=by
 obtain⟨v,u,rfl,h1,h2,h3,h4,h5,h6⟩:=h;refine⟨v,u,?_,h1,h2,h3,(by show s.o-1<=12;omega),h5,h6⟩;show(((s.p:Nat):Int),w (((s.o:Nat):Int)-1),_)=_;rw[dJ (by omega) (by omega)];have e:((s.o:Nat):Int)-1=((s.o-1:Nat):Int):=by omega
 rw[e];rfl
end
section
variable {T:Nat->Tkn}
def Op{α:Type}(o:Nat):PR α->Prop
 | .ok _ s=>s.o=o
 |_=>True
theorem Op.bind{α β:Type}{o o':Nat}{r:PR α}{k:α->PS->PR β}(h:Op o r)(hk:∀a s,s.o=o->Op o' (k a s)):Op o' (r.bind k):=by
 cases r with
 |ok a s=>exact hk a s h
 |err p c=>trivial
 |out=>trivial
theorem oI(b:ByteArray)(s:PS):Op s.o (x7 T b s):=by unfold x7;split<;>trivial
theorem bj1(s:PS):Op s.o (aQ T s):=by unfold aQ;split<;>trivial
theorem df1(lo hi:Int)(s:PS):Op s.o (mH T lo hi s):=by unfold mH;repeat' (split<;>try trivial)
theorem kG(b:ByteArray)(s:PS):Op (s.o+1) (fF T b s):=by unfold fF;repeat' (split<;>try trivial)
theorem cs4(s:PS):Op s.o (oE T s):=by
 unfold oE;refine(df1 0 2147483647 s).bind λa s1 h=>?_;split
 ·exact h
 ·exact h
theorem oO:∀f,(∀lv s,Op s.o (l9 T f lv s))/\(∀lv n s,Op s.o (dP T f lv n s))/\(∀b lv s,Op s.o (aM T f b lv s))/\(∀s,Op s.o (dK T f s)):=by
 intro f
 induction f with
 |zero=>exact⟨λ_ _=>by rw[l9];trivial,λ_ _ _=>by rw[dP];trivial,λ_ _ _=>by rw[aM];trivial,λ_=>by rw[dK];trivial⟩
 |succ f ih=>
  obtain⟨h1,h2,h3,h4⟩:=ih;refine⟨λlv s=>?_,λlv n s=>?_,λb lv s=>?_,λs=>?_⟩
  ·rw[l9];split
   ·exact h3 _ _ _
   ·split
    ·exact h3 _ _ _
    ·split
     ·exact h4 _
     ·refine(h1 _ _).bind λa s1 e=>?_;rw[<-e];exact h2 _ _ _
  ·rw[dP];split
   ·refine(h1 (lv+1) (adv s)).bind λa s1 e=>?_;split
    ·exact e
    ·have:=h2 lv (.node 20 0 (T s.p).t [n,a]) s1;rw[e]at this;exact this
   ·rfl
  ·rw[aM];refine(kG b s).bind λ_ s1 e1=>(h1 lv s1).bind λn s2 e2=>?_;show s2.o-1=s.o;omega
  ·rw[dK];split
   ·exact cs4 s
   ·split
    ·rfl
    ·split
     ·rfl
     ·split
      ·exact(oI fw6 (adv s)).bind λ_ s1 e1=>by
        have:=bj1 (T:=T) s1;rw[e1]at this;exact this.bind λx s2 e2=>e2
      ·split
       ·refine(kG kB s).bind λ_ s1 e1=>(h1 1 s1).bind λn s2 e2=>(oI dV s2).bind λ_ s3 e3=>?_;show s3.o-1=s.o;omega
       ·exact(bj1 s).bind λx s1 e1=>e1
end
end
end Go.Proofs.YtbmbhcheonjigaaGreatDoor
