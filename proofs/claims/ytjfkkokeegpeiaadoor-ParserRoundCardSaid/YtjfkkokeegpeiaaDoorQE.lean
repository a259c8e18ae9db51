/- Texts joined. -/
import Derived.Test.YtjfkkokeegpeiaaDoorQD
import Derived.Test.YtjfkkokeegpeiaaDoorQC
import Derived.Laws.RangeAny
import Derived.Lib.Bytealg
import Derived.Lib.IndexMore
/- The lexers, lifted. -/
set_option linter.unusedSimpArgs false
set_option linter.unusedVariables false
namespace Go.Proofs.YtjfkkokeegpeiaaDoor
open Go Go.Am Go.Proofs
set_option maxRecDepth 100000
def fx8:V->Nat| .fn g _=>g|_=>0
abbrev i32(n:Int):V:=.sc (.int .i32 n)
abbrev u8(n:Int):V:=.sc (.int .u8 n)
abbrev yQ:Type:=ByteArray×Int
abbrev ap9:Type:=Int
def yJ:AR yQ:=λx=>([st x.1,u8 x.2],[])
def ea3(t:TT):yQ:=(vS (ag t 0),vI (ag t 1))
theorem el2:VI yJ:=vd ea3 λ_=>rfl
def by0:ap9->CRes:=λz=>.ret (i64 z) []
noncomputable def zI(q:Nat)(x:yQ):Option ap9:=some (Lib.indexByte x.1.data.toList (UInt8.ofNat x.2.toNat))
theorem do8(q:Nat):Lw E5 43 yJ by0 (zI q):=by
 rintro⟨s,c⟩ z h;cases h;exact sc5.2 (SC.ext hX rfl)
abbrev pI:Type:=Int
abbrev oS:Type:=Bool
def eE:AR pI:=λx=>([i32 x],[])
def gd2(t:TT):pI:=(vI (ag t 0))
theorem bm3:VI eE:=vd gd2 λ_=>rfl
def xF:oS->CRes:=λz=>.ret (bo z) []
def zF{β:Type}(x:pI)(dn:oS->Option β):Option β:=
 if decide (x>=97)=true then if decide (x<=122)=true then dn true else if decide (x>=65)=true then dn (decide (x<=90))else dn false else if decide (x>=65)=true then dn (decide (x<=90))else dn false
theorem gu6{β:Type}(x)(dn:oS->Option β):zF x dn=(zF x some).bind dn:=by
 unfold zF
 repeat' first|exact n0|refine n1 λ_=>?_|refine n2 ?_ ?_|refine n3 (λ_=>?_) λ_=>?_|rfl
theorem gq3(x):f7 E5 ca0 lo0 27 (eE x).1 (eE x).2 K=zF x (λz=>some (.c (xF z))):=by kernel_rfl
noncomputable def pW(q:Nat)(x:pI):Option oS:=zF x some
theorem bo2(q:Nat):Lw E5 27 eE xF (pW q):=sof hW5 hX5 a8 (λ_=>cB) λx=>(gq3 x).trans (by rw[gu6]<;>rfl)
abbrev lS:Type:=Int
abbrev lT:Type:=Bool
def cO:AR lS:=λx=>([i32 x],[])
def gz3(t:TT):lS:=(vI (ag t 0))
theorem ax3:VI cO:=vd gz3 λ_=>rfl
def rM:lT->CRes:=λz=>.ret (bo z) []
def aw6{β:Type}(x:lS)(dn:lT->Option β):Option β:=
 if decide (x>=48)=true then dn (decide (x<=57))else dn false
theorem hm7{β:Type}(x)(dn:lT->Option β):aw6 x dn=(aw6 x some).bind dn:=by
 unfold aw6
 repeat' first|exact n0|refine n1 λ_=>?_|refine n2 ?_ ?_|refine n3 (λ_=>?_) λ_=>?_|rfl
theorem hf3(x):f7 E5 ca0 lo0 29 (cO x).1 (cO x).2 K=aw6 x (λz=>some (.c (rM z))):=by kernel_rfl
noncomputable def oZ(q:Nat)(x:lS):Option lT:=aw6 x some
theorem al5(q:Nat):Lw E5 29 cO rM (oZ q):=sof hW5 hX5 a8 (λ_=>cB) λx=>(hf3 x).trans (by rw[hm7]<;>rfl)
abbrev ag9:Type:=Int
abbrev ad9:Type:=Bool
def tT:AR ag9:=λx=>([i32 x],[])
def hb3(t:TT):ag9:=(vI (ag t 0))
theorem fm1:VI tT:=vd hb3 λ_=>rfl
def bi8:ad9->CRes:=λz=>.ret (bo z) []
def bi9{β:Type}(x:ag9)(dn:ad9->Option β):Option β:=
 dn (x !=10)
theorem hj8{β:Type}(x)(dn:ad9->Option β):bi9 x dn=(bi9 x some).bind dn:=by
 unfold bi9
 repeat' first|exact n0|refine n1 λ_=>?_|refine n2 ?_ ?_|refine n3 (λ_=>?_) λ_=>?_|rfl
theorem ha9(x):f7 E5 ca0 lo0 26 (tT x).1 (tT x).2 K=bi9 x (λz=>some (.c (bi8 z))):=by kernel_rfl
noncomputable def by9(q:Nat)(x:ag9):Option ad9:=bi9 x some
theorem du9(q:Nat):Lw E5 26 tT bi8 (by9 q):=sof hW5 hX5 a8 (λ_=>cB) λx=>(ha9 x).trans (by rw[hj8]<;>rfl)
abbrev ai7:Type:=Int
abbrev ad2:Type:=Bool
def tY:AR ai7:=λx=>([i32 x],[])
def gx9(t:TT):ai7:=(vI (ag t 0))
theorem ff8:VI tY:=vd gx9 λ_=>rfl
def bh6:ad2->CRes:=λz=>.ret (bo z) []
def ax8{β:Type}(c_letter:pI->Option oS)(c_digit:lS->Option lT)(x:ai7)(dn:ad2->Option β):Option β:=
 (c_letter x).bind λz1=>if z1=true then dn true else(c_digit x).bind λz3=>dn z3
theorem gx3{β:Type}(c_letter c_digit)(x)(dn:ad2->Option β):ax8 c_letter c_digit x dn=(ax8 c_letter c_digit x some).bind dn:=by
 unfold ax8
 repeat' first|exact n0|refine n1 λ_=>?_|refine n2 ?_ ?_|refine n3 (λ_=>?_) λ_=>?_|rfl
theorem gy0(c_letter c_digit)(x):f7 E5 (ftb 27 eE xF c_letter (ftb 29 cO rM c_digit ca0)) lo0 42 (tY x).1 (tY x).2 K=ax8 (vf eE c_letter) (vf cO c_digit) x (λz=>some (.c (bh6 z))):=by kernel_rfl
noncomputable def bj4(q:Nat)(x:ai7):Option ad2:=ax8 (pW q) (oZ q) x some
theorem ef8(q:Nat):Lw E5 42 tY bh6 (bj4 q):=sof hW5 hX5 (fk (bo2 q) (fk (al5 q) a8)) (λ_=>cB) λx=>(gy0 (pW q) (oZ q) x).trans (by rw[bm3,ax3,gx3]<;>rfl)
abbrev iF:Type:=ByteArray
abbrev yL:Type:=Int
def oV:AR iF:=λx=>([st x,.fn 26 []],[])
def gy2(t:TT):iF:=(vS (ag t 0))
theorem dm1:VI oV:=vd gy2 λ_=>rfl
def aw0:yL->CRes:=λz=>.ret (i64 z) []
abbrev jI:Type:=Nat
abbrev wZ:Type:=(Int)⊕(Unit)
def qQ(x:iF)(y:jI):St:={fr:=[st x,V.fn 26 []]++jk 6++[V.ptr 0 0]++jk 11,H:=hp [some (Chunk.iter x y)],nx:=1,rt:=0,me:=25}
def ez9(s:St):jI:=(chP (s.H 0))
theorem er2(x:iF):VL (qQ x):=vl ez9 λ_=>rfl
def ai1(x:iF):wZ->Ex×St:=(Sum.elim (λz=>(Ex.ret,{fr:=jk 4++[i64 z]++jk 15,H:=hp [],nx:=0,rt:=0,me:=25})) (λz=>(Ex.exit 0,{fr:=[st x]++jk 19,H:=hp [],nx:=0,rt:=0,me:=25})))
def mE{β:Type}(c_notLf:ag9->Option ad9)(x:iF)(y:jI)(nx:jI->Option β)(dn:wZ->Option β):Option β:=
 if y<x.size then(c_notLf ((Prod.fst (Utf8.decode x y):Nat):Int)).bind λz14=>if(!z14)=true then dn (.inl ((y:Nat):Int))else nx (y+Prod.snd (Utf8.decode x y))else dn (.inr ())
theorem ey8{β:Type}(c_notLf)(x)(y)(nx:jI->Option β)(dn):mE c_notLf x y nx dn=(mE c_notLf x y (λy=>some (.inl y)) (λz=>some (.inr z))).bind λr=>Sum.elim nx dn r:=by
 unfold mE
 repeat' first|exact n0|refine n1 λ_=>?_|refine n2 ?_ ?_|refine n3 (λ_=>?_) λ_=>?_|rfl
theorem eq4(c_notLf)(x)(y)(lo:f5):n8 E5 (ftb 26 tT bi8 c_notLf ca0) lo 0 259 (h9 E5 25 0) (qQ x y) (KCM [(0,1)] 16)=mE (vf tT c_notLf) x y (λy=>lo 0 259 (h9 E5 25 0) (qQ x y) (KCM [(0,1)] 16)) (λz=>some (.l (ai1 x z).1 (ai1 x z).2)):=by kernel_rfl
noncomputable def bf1(c_notLf:ag9->Option ad9)(q:Nat)(x:iF):jI->Option wZ:=lpG (λy=>mE c_notLf x y (λy=>some (.inl y)) (λz=>some (.inr z))) q
theorem ex9(c_notLf)(h_notLf:Lw E5 26 tT bi8 c_notLf)(q:Nat)(x:iF):Ll E5 (h9 E5 25 0) (qQ x) (ai1 x) (bf1 c_notLf q x):=
 slp (fk h_notLf a8) hX5 (λlo y=>(eq4 c_notLf x y lo).trans (by rw[fm1];exact ey8 _ _ _ _ _)) (λz=>by rcases z with z|z<;>kernel_rfl) q
def av5{β:Type}(c_notLf:ag9->Option ad9)(l_spanN_l0:jI->Option wZ)(x:iF)(dn:yL->Option β):Option β:=
 (l_spanN_l0 (0)).bind λz8=>Sum.elim (λz8a=>dn z8a) (λz8b=>dn (x.size:Int)) z8
theorem hm3{β:Type}(c_notLf)(l_spanN_l0)(x)(dn:yL->Option β):av5 c_notLf l_spanN_l0 x dn=(av5 c_notLf l_spanN_l0 x some).bind dn:=by
 unfold av5
 repeat' first|exact n0|refine n1 λ_=>?_|refine n2 ?_ ?_|refine n3 (λ_=>?_) λ_=>?_|rfl
theorem hn1(c_notLf)(l_spanN_l0)(x):f7 E5 (ftb 26 tT bi8 c_notLf ca0) (lt2 0 (λ_=>true) (h9 E5 25 0) (qQ x) (ai1 x) l_spanN_l0 lo0) 25 (oV x).1 (oV x).2 K=av5 (vf tT c_notLf) (lf (h9 E5 25 0) (qQ x) l_spanN_l0) x (λz=>some (.c (aw0 z))):=by kernel_rfl
noncomputable def am2(q:Nat)(x:iF):Option yL:=av5 (by9 q) (bf1 (by9 q) q x) x some
theorem ds6(q:Nat):Lw E5 25 oV aw0 (am2 q):=sof hW5 hX5 (fk (du9 q) a8) (λx=>(lk2 (ex9 (by9 q) (du9 q) q x) cB)) λx=>(hn1 (by9 q) (bf1 (by9 q) q x) x).trans (by rw[fm1,er2,hm3]<;>rfl)
abbrev kD:Type:=ByteArray
abbrev af0:Type:=Int
def uB:AR kD:=λx=>([st x,.fn 29 []],[])
def gz1(t:TT):kD:=(vS (ag t 0))
theorem fk6:VI uB:=vd gz1 λ_=>rfl
def bi3:af0->CRes:=λz=>.ret (i64 z) []
abbrev jR:Type:=Nat
abbrev xA:Type:=(Int)⊕(Unit)
def pM(x:kD)(y:jR):St:={fr:=[st x,V.fn 29 []]++jk 6++[V.ptr 0 0]++jk 11,H:=hp [some (Chunk.iter x y)],nx:=1,rt:=0,me:=25}
def et5(s:St):jR:=(chP (s.H 0))
theorem fa0(x:kD):VL (pM x):=vl et5 λ_=>rfl
def ag0(x:kD):xA->Ex×St:=(Sum.elim (λz=>(Ex.ret,{fr:=jk 4++[i64 z]++jk 15,H:=hp [],nx:=0,rt:=0,me:=25})) (λz=>(Ex.exit 0,{fr:=[st x]++jk 19,H:=hp [],nx:=0,rt:=0,me:=25})))
def mH{β:Type}(c_digit:lS->Option lT)(x:kD)(y:jR)(nx:jR->Option β)(dn:xA->Option β):Option β:=
 if y<x.size then(c_digit ((Prod.fst (Utf8.decode x y):Nat):Int)).bind λz14=>if(!z14)=true then dn (.inl ((y:Nat):Int))else nx (y+Prod.snd (Utf8.decode x y))else dn (.inr ())
theorem fc3{β:Type}(c_digit)(x)(y)(nx:jR->Option β)(dn):mH c_digit x y nx dn=(mH c_digit x y (λy=>some (.inl y)) (λz=>some (.inr z))).bind λr=>Sum.elim nx dn r:=by
 unfold mH
 repeat' first|exact n0|refine n1 λ_=>?_|refine n2 ?_ ?_|refine n3 (λ_=>?_) λ_=>?_|rfl
theorem ex5(c_digit)(x)(y)(lo:f5):n8 E5 (ftb 29 cO rM c_digit ca0) lo 0 259 (h9 E5 25 0) (pM x y) (KCM [(0,1)] 16)=mH (vf cO c_digit) x y (λy=>lo 0 259 (h9 E5 25 0) (pM x y) (KCM [(0,1)] 16)) (λz=>some (.l (ag0 x z).1 (ag0 x z).2)):=by kernel_rfl
noncomputable def bk4(c_digit:lS->Option lT)(q:Nat)(x:kD):jR->Option xA:=lpG (λy=>mH c_digit x y (λy=>some (.inl y)) (λz=>some (.inr z))) q
theorem eq2(c_digit)(h_digit:Lw E5 29 cO rM c_digit)(q:Nat)(x:kD):Ll E5 (h9 E5 25 0) (pM x) (ag0 x) (bk4 c_digit q x):=
 slp (fk h_digit a8) hX5 (λlo y=>(ex5 c_digit x y lo).trans (by rw[ax3];exact fc3 _ _ _ _ _)) (λz=>by rcases z with z|z<;>kernel_rfl) q
def as9{β:Type}(c_digit:lS->Option lT)(l_spanD_l0:jR->Option xA)(x:kD)(dn:af0->Option β):Option β:=
 (l_spanD_l0 (0)).bind λz8=>Sum.elim (λz8a=>dn z8a) (λz8b=>dn (x.size:Int)) z8
theorem hm2{β:Type}(c_digit)(l_spanD_l0)(x)(dn:af0->Option β):as9 c_digit l_spanD_l0 x dn=(as9 c_digit l_spanD_l0 x some).bind dn:=by
 unfold as9
 repeat' first|exact n0|refine n1 λ_=>?_|refine n2 ?_ ?_|refine n3 (λ_=>?_) λ_=>?_|rfl
theorem hc8(c_digit)(l_spanD_l0)(x):f7 E5 (ftb 29 cO rM c_digit ca0) (lt2 0 (λ_=>true) (h9 E5 25 0) (pM x) (ag0 x) l_spanD_l0 lo0) 25 (uB x).1 (uB x).2 K=as9 (vf cO c_digit) (lf (h9 E5 25 0) (pM x) l_spanD_l0) x (λz=>some (.c (bi3 z))):=by kernel_rfl
noncomputable def az5(q:Nat)(x:kD):Option af0:=as9 (oZ q) (bk4 (oZ q) q x) x some
theorem en0(q:Nat):Lw E5 25 uB bi3 (az5 q):=sof hW5 hX5 (fk (al5 q) a8) (λx=>(lk2 (eq2 (oZ q) (al5 q) q x) cB)) λx=>(hc8 (oZ q) (bk4 (oZ q) q x) x).trans (by rw[ax3,fa0,hm2]<;>rfl)
abbrev oE:Type:=ByteArray
abbrev bh2:Type:=Int
def ar5:AR oE:=λx=>([st x,.fn 42 []],[])
def hh0(t:TT):oE:=(vS (ag t 0))
theorem hi4:VI ar5:=vd hh0 λ_=>rfl
def dr2:bh2->CRes:=λz=>.ret (i64 z) []
abbrev iV:Type:=Nat
abbrev vZ:Type:=(Int)⊕(Unit)
def qD(x:oE)(y:iV):St:={fr:=[st x,V.fn 42 []]++jk 6++[V.ptr 0 0]++jk 11,H:=hp [some (Chunk.iter x y)],nx:=1,rt:=0,me:=25}
def fb5(s:St):iV:=(chP (s.H 0))
theorem ew7(x:oE):VL (qD x):=vl fb5 λ_=>rfl
def aj2(x:oE):vZ->Ex×St:=(Sum.elim (λz=>(Ex.ret,{fr:=jk 4++[i64 z]++jk 15,H:=hp [],nx:=0,rt:=0,me:=25})) (λz=>(Ex.exit 0,{fr:=[st x]++jk 19,H:=hp [],nx:=0,rt:=0,me:=25})))
def mS{β:Type}(c_wordC:ai7->Option ad2)(x:oE)(y:iV)(nx:iV->Option β)(dn:vZ->Option β):Option β:=
 if y<x.size then(c_wordC ((Prod.fst (Utf8.decode x y):Nat):Int)).bind λz14=>if(!z14)=true then dn (.inl ((y:Nat):Int))else nx (y+Prod.snd (Utf8.decode x y))else dn (.inr ())
theorem ey9{β:Type}(c_wordC)(x)(y)(nx:iV->Option β)(dn):mS c_wordC x y nx dn=(mS c_wordC x y (λy=>some (.inl y)) (λz=>some (.inr z))).bind λr=>Sum.elim nx dn r:=by
 unfold mS
 repeat' first|exact n0|refine n1 λ_=>?_|refine n2 ?_ ?_|refine n3 (λ_=>?_) λ_=>?_|rfl
theorem eu3(c_wordC)(x)(y)(lo:f5):n8 E5 (ftb 42 tY bh6 c_wordC ca0) lo 0 259 (h9 E5 25 0) (qD x y) (KCM [(0,1)] 16)=mS (vf tY c_wordC) x y (λy=>lo 0 259 (h9 E5 25 0) (qD x y) (KCM [(0,1)] 16)) (λz=>some (.l (aj2 x z).1 (aj2 x z).2)):=by kernel_rfl
noncomputable def bf2(c_wordC:ai7->Option ad2)(q:Nat)(x:oE):iV->Option vZ:=lpG (λy=>mS c_wordC x y (λy=>some (.inl y)) (λz=>some (.inr z))) q
theorem ex0(c_wordC)(h_wordC:Lw E5 42 tY bh6 c_wordC)(q:Nat)(x:oE):Ll E5 (h9 E5 25 0) (qD x) (aj2 x) (bf2 c_wordC q x):=
 slp (fk h_wordC a8) hX5 (λlo y=>(eu3 c_wordC x y lo).trans (by rw[ff8];exact ey9 _ _ _ _ _)) (λz=>by rcases z with z|z<;>kernel_rfl) q
def as0{β:Type}(c_wordC:ai7->Option ad2)(l_spanW_l0:iV->Option vZ)(x:oE)(dn:bh2->Option β):Option β:=
 (l_spanW_l0 (0)).bind λz8=>Sum.elim (λz8a=>dn z8a) (λz8b=>dn (x.size:Int)) z8
theorem he7{β:Type}(c_wordC)(l_spanW_l0)(x)(dn:bh2->Option β):as0 c_wordC l_spanW_l0 x dn=(as0 c_wordC l_spanW_l0 x some).bind dn:=by
 unfold as0
 repeat' first|exact n0|refine n1 λ_=>?_|refine n2 ?_ ?_|refine n3 (λ_=>?_) λ_=>?_|rfl
theorem gz4(c_wordC)(l_spanW_l0)(x):f7 E5 (ftb 42 tY bh6 c_wordC ca0) (lt2 0 (λ_=>true) (h9 E5 25 0) (qD x) (aj2 x) l_spanW_l0 lo0) 25 (ar5 x).1 (ar5 x).2 K=as0 (vf tY c_wordC) (lf (h9 E5 25 0) (qD x) l_spanW_l0) x (λz=>some (.c (dr2 z))):=by kernel_rfl
noncomputable def ej7(q:Nat)(x:oE):Option bh2:=as0 (bj4 q) (bf2 (bj4 q) q x) x some
theorem gj0(q:Nat):Lw E5 25 ar5 dr2 (ej7 q):=sof hW5 hX5 (fk (ef8 q) a8) (λx=>(lk2 (ex0 (bj4 q) (ef8 q) q x) cB)) λx=>(gz4 (bj4 q) (bf2 (bj4 q) q x) x).trans (by rw[ff8,ew7,he7]<;>rfl)
abbrev ap4:Type:=ByteArray
abbrev aq6:Type:=Int×Int×ByteArray×Int×Int
def wJ:AR ap4:=λx=>([st x],[])
def hw4(t:TT):ap4:=(vS (ag t 0))
theorem ex7:VI wJ:=vd hw4 λ_=>rfl
def bs6:aq6->CRes:=λz=>.ret (.tup [.agg [i64 z.1,i64 z.2.1,st z.2.2.1,i64 z.2.2.2.1],i64 z.2.2.2.2]) []
def br0{β:Type}(c_spanW:oE->Option bh2)(x:ap4)(dn:aq6->Option β):Option β:=
 (c_spanW x).bind λz1=>if decide (z1>12)=true then dn (0,0,⟨#[]⟩,0,2)else if(0:Int)<=0/\0<=z1/\z1<=(x.size:Int)then dn (1,0,ByteArray.extract x 0 (Int.toNat z1),0,0)else none
theorem ic0{β:Type}(c_spanW)(x)(dn:aq6->Option β):br0 c_spanW x dn=(br0 c_spanW x some).bind dn:=by
 unfold br0
 repeat' first|exact n0|refine n1 λ_=>?_|refine n2 ?_ ?_|refine n3 (λ_=>?_) λ_=>?_|rfl
theorem hz7(c_spanW)(x):f7 E5 (ftg 25 (λa _=>fx8 (a.getD 1 .junk)==42) ar5 dr2 c_spanW ca0) lo0 28 (wJ x).1 (wJ x).2 K=br0 (vf ar5 c_spanW) x (λz=>some (.c (bs6 z))):=by kernel_rfl
noncomputable def word(q:Nat)(x:ap4):Option aq6:=br0 (ej7 q) x some
theorem fn3(q:Nat):Lw E5 28 wJ bs6 (word q):=sof hW5 hX5 (fk (gj0 q) a8) (λ_=>cB) λx=>(hz7 (ej7 q) x).trans (by rw[hi4,ic0]<;>rfl)
abbrev mL:Type:=ByteArray
abbrev ae1:Type:=Int×Int×ByteArray×Int×Int
def wN:AR mL:=λx=>([st x],[])
def ie5(t:TT):mL:=(vS (ag t 0))
theorem eu6:VI wN:=vd ie5 λ_=>rfl
def br1:ae1->CRes:=λz=>.ret (.tup [.agg [i64 z.1,i64 z.2.1,st z.2.2.1,i64 z.2.2.2.1],i64 z.2.2.2.2]) []
abbrev qT:Type:=ByteArray×Int×Nat
abbrev as2:Type:=(Unit)⊕(ByteArray×Int)
def uT(x:mL)(y:qT):St:={fr:=[V.junk,V.junk,V.ptr 0 0,V.junk,st y.1,i64 y.2.1]++jk 16++[V.ptr 1 0]++jk 15,H:=hp [some (Chunk.blk [i64 0,i64 0,st ⟨#[]⟩,i64 0]),some (Chunk.iter y.1 y.2.2)],nx:=2,rt:=0,me:=30}
def fp5(s:St):qT:=((vS (s.fr.getD 4 .junk)),vI (s.fr.getD 5 .junk),(chP (s.H 1)))
theorem gc3(x:mL):VL (uT x):=vl fp5 λ_=>rfl
def au9(x:mL):as2->Ex×St:=(Sum.elim (λz=>(Ex.ret,{fr:=[V.junk,V.junk,V.ptr 0 0,i64 5]++jk 34,H:=hp [some (Chunk.blk [i64 0,i64 0,st ⟨#[]⟩,i64 0])],nx:=1,rt:=0,me:=30})) (λz=>(Ex.exit 0,{fr:=[V.junk,V.junk,V.ptr 0 0,V.junk,st z.1,i64 z.2]++jk 32,H:=hp [some (Chunk.blk [i64 0,i64 0,st ⟨#[]⟩,i64 0])],nx:=1,rt:=0,me:=30})))
def qE{β:Type}(c_spanD:kD->Option af0)(x:mL)(y:qT)(nx:qT->Option β)(dn:as2->Option β):Option β:=
 if y.2.2<y.1.size then if decide (w (w (10*y.2.1)+w (IntKind.wrap IntKind.i32 (((Prod.fst (Utf8.decode y.1 y.2.2):Nat):Int)-48)))>2147483647)=true then dn (.inl ())else nx ((y.1,w (w (10*y.2.1)+w (IntKind.wrap IntKind.i32 (((Prod.fst (Utf8.decode y.1 y.2.2):Nat):Int)-48))),y.2.2+Prod.snd (Utf8.decode y.1 y.2.2)))else dn (.inr (y.1,y.2.1))
theorem gb7{β:Type}(c_spanD)(x)(y)(nx:qT->Option β)(dn):qE c_spanD x y nx dn=(qE c_spanD x y (λy=>some (.inl y)) (λz=>some (.inr z))).bind λr=>Sum.elim nx dn r:=by
 unfold qE
 repeat' first|exact n0|refine n1 λ_=>?_|refine n2 ?_ ?_|refine n3 (λ_=>?_) λ_=>?_|rfl
theorem fq0(c_spanD)(x)(y)(lo:f5):n8 E5 (ftg 25 (λa _=>fx8 (a.getD 1 .junk)==29) uB bi3 c_spanD ca0) lo 0 4194356 (h9 E5 30 0) (uT x y) (KCM [(0,52)] 12)=qE (vf uB c_spanD) x y (λy=>lo 0 4194356 (h9 E5 30 0) (uT x y) (KCM [(0,52)] 12)) (λz=>some (.l (au9 x z).1 (au9 x z).2)):=by kernel_rfl
noncomputable def ca5(c_spanD:kD->Option af0)(q:Nat)(x:mL):qT->Option as2:=lpG (λy=>qE c_spanD x y (λy=>some (.inl y)) (λz=>some (.inr z))) q
theorem fz9(c_spanD)(h_spanD:Lw E5 25 uB bi3 c_spanD)(q:Nat)(x:mL):Ll E5 (h9 E5 30 0) (uT x) (au9 x) (ca5 c_spanD q x):=
 slp (fk h_spanD a8) hX5 (λlo y=>(fq0 c_spanD x y lo).trans (by rw[fk6];exact gb7 _ _ _ _ _)) (λz=>by rcases z with z|z<;>kernel_rfl) q
def bu2{β:Type}(c_spanD:kD->Option af0)(l_lnum_l0:qT->Option as2)(x:mL)(dn:ae1->Option β):Option β:=
 (c_spanD x).bind λz1=>if(0:Int)<=0/\0<=z1/\z1<=(x.size:Int)then if decide ((ByteArray.size (ByteArray.extract x 0 (Int.toNat z1)):Int)>1)=true then if(0:Int)<=0/\0< (ByteArray.size (ByteArray.extract x 0 (Int.toNat z1)):Int)then if(((UInt8.toNat (List.getD (Array.toList (ByteArray.data (ByteArray.extract x 0 (Int.toNat z1)))) 0 0):Nat):Int)==48)=true then dn (0,0,⟨#[]⟩,0,11)else(l_lnum_l0 (ByteArray.extract x 0 (Int.toNat z1),0,0)).bind λz16=>Sum.elim (λz16a=>dn (0,0,⟨#[]⟩,0,5)) (λz16b=>dn (2,0,z16b.1,z16b.2,0)) z16 else none else(l_lnum_l0 (ByteArray.extract x 0 (Int.toNat z1),0,0)).bind λz18=>Sum.elim (λz18a=>dn (0,0,⟨#[]⟩,0,5)) (λz18b=>dn (2,0,z18b.1,z18b.2,0)) z18 else none
theorem hx9{β:Type}(c_spanD)(l_lnum_l0)(x)(dn:ae1->Option β):bu2 c_spanD l_lnum_l0 x dn=(bu2 c_spanD l_lnum_l0 x some).bind dn:=by
 unfold bu2
 repeat' first|exact n0|refine n1 λ_=>?_|refine n2 ?_ ?_|refine n3 (λ_=>?_) λ_=>?_|rfl
theorem hw6(c_spanD)(l_lnum_l0)(x):f7 E5 (ftg 25 (λa _=>fx8 (a.getD 1 .junk)==29) uB bi3 c_spanD ca0) (lt2 0 (λ_=>true) (h9 E5 30 0) (uT x) (au9 x) l_lnum_l0 lo0) 30 (wN x).1 (wN x).2 K=bu2 (vf uB c_spanD) (lf (h9 E5 30 0) (uT x) l_lnum_l0) x (λz=>some (.c (br1 z))):=by kernel_rfl
noncomputable def ci2(q:Nat)(x:mL):Option ae1:=bu2 (az5 q) (ca5 (az5 q) q x) x some
theorem fi6(q:Nat):Lw E5 30 wN br1 (ci2 q):=sof hW5 hX5 (fk (en0 q) a8) (λx=>(lk2 (fz9 (az5 q) (en0 q) q x) cB)) λx=>(hw6 (az5 q) (ca5 (az5 q) q x) x).trans (by rw[fk6,gc3,hx9]<;>rfl)
abbrev am0:Type:=ByteArray
abbrev ao9:Type:=Int×Int×ByteArray×Int×Int
def xM:AR am0:=λx=>([st x],[])
def hy0(t:TT):am0:=(vS (ag t 0))
theorem es6:VI xM:=vd hy0 λ_=>rfl
def bp1:ao9->CRes:=λz=>.ret (.tup [.agg [i64 z.1,i64 z.2.1,st z.2.2.1,i64 z.2.2.2.1],i64 z.2.2.2.2]) []
def bu4{β:Type}(c_IndexByte:yQ->Option ap9)(x:am0)(dn:ao9->Option β):Option β:=
 if(0:Int)<=0/\0< (x.size:Int)then(c_IndexByte ((⟨#[123,125,40,41,61,59,44,58,60,62,43,45,42,47,33,46]⟩,((UInt8.toNat (List.getD (Array.toList x.data) 0 0):Nat):Int)))).bind λz2=>if decide (z2>=0)=true then if decide ((x.size:Int)>1)=true then if(0:Int)<=0/\(0:Int)<=2/\2<=(x.size:Int)then if(ByteArray.toList (ByteArray.extract x 0 2)==ByteArray.toList ⟨#[124,124]⟩)=true then if(0:Int)<=0/\(0:Int)<=2/\2<=(x.size:Int)then dn (3,0,ByteArray.extract x 0 2,0,0)else none else if(ByteArray.toList (ByteArray.extract x 0 2)==ByteArray.toList ⟨#[38,38]⟩)=true then if(0:Int)<=0/\(0:Int)<=2/\2<=(x.size:Int)then dn (3,0,ByteArray.extract x 0 2,0,0)else none else if(ByteArray.toList (ByteArray.extract x 0 2)==ByteArray.toList ⟨#[60,61]⟩)=true then if(0:Int)<=0/\(0:Int)<=2/\2<=(x.size:Int)then dn (3,0,ByteArray.extract x 0 2,0,0)else none else if(ByteArray.toList (ByteArray.extract x 0 2)==ByteArray.toList ⟨#[62,61]⟩)=true then if(0:Int)<=0/\(0:Int)<=2/\2<=(x.size:Int)then dn (3,0,ByteArray.extract x 0 2,0,0)else none else if(ByteArray.toList (ByteArray.extract x 0 2)==ByteArray.toList ⟨#[61,61]⟩)=true then if(0:Int)<=0/\(0:Int)<=2/\2<=(x.size:Int)then dn (3,0,ByteArray.extract x 0 2,0,0)else none else if(ByteArray.toList (ByteArray.extract x 0 2)==ByteArray.toList ⟨#[33,61]⟩)=true then if(0:Int)<=0/\(0:Int)<=2/\2<=(x.size:Int)then dn (3,0,ByteArray.extract x 0 2,0,0)else none else if(0:Int)<=0/\(0:Int)<=1/\1<=(x.size:Int)then dn (3,0,ByteArray.extract x 0 1,0,0)else none else none else if(0:Int)<=0/\(0:Int)<=1/\1<=(x.size:Int)then dn (3,0,ByteArray.extract x 0 1,0,0)else none else if decide ((x.size:Int)>1)=true then if(0:Int)<=0/\(0:Int)<=2/\2<=(x.size:Int)then if(ByteArray.toList (ByteArray.extract x 0 2)==ByteArray.toList ⟨#[124,124]⟩)=true then if(0:Int)<=0/\(0:Int)<=2/\2<=(x.size:Int)then dn (3,0,ByteArray.extract x 0 2,0,0)else none else if(ByteArray.toList (ByteArray.extract x 0 2)==ByteArray.toList ⟨#[38,38]⟩)=true then if(0:Int)<=0/\(0:Int)<=2/\2<=(x.size:Int)then dn (3,0,ByteArray.extract x 0 2,0,0)else none else if(ByteArray.toList (ByteArray.extract x 0 2)==ByteArray.toList ⟨#[60,61]⟩)=true then if(0:Int)<=0/\(0:Int)<=2/\2<=(x.size:Int)then dn (3,0,ByteArray.extract x 0 2,0,0)else none else if(ByteArray.toList (ByteArray.extract x 0 2)==ByteArray.toList ⟨#[62,61]⟩)=true then if(0:Int)<=0/\(0:Int)<=2/\2<=(x.size:Int)then dn (3,0,ByteArray.extract x 0 2,0,0)else none else if(ByteArray.toList (ByteArray.extract x 0 2)==ByteArray.toList ⟨#[61,61]⟩)=true then if(0:Int)<=0/\(0:Int)<=2/\2<=(x.size:Int)then dn (3,0,ByteArray.extract x 0 2,0,0)else none else if(ByteArray.toList (ByteArray.extract x 0 2)==ByteArray.toList ⟨#[33,61]⟩)=true then if(0:Int)<=0/\(0:Int)<=2/\2<=(x.size:Int)then dn (3,0,ByteArray.extract x 0 2,0,0)else none else dn (0,0,⟨#[]⟩,0,11)else none else dn (0,0,⟨#[]⟩,0,11)else none
theorem hy6{β:Type}(c_IndexByte)(x)(dn:ao9->Option β):bu4 c_IndexByte x dn=(bu4 c_IndexByte x some).bind dn:=by
 unfold bu4
 repeat' first|exact n0|refine n1 λ_=>?_|refine n2 ?_ ?_|refine n3 (λ_=>?_) λ_=>?_|rfl
theorem hz8(c_IndexByte)(x):f7 E5 (ftb 43 yJ by0 c_IndexByte ca0) lo0 31 (xM x).1 (xM x).2 K=bu4 (vf yJ c_IndexByte) x (λz=>some (.c (bp1 z))):=by kernel_rfl
noncomputable def cm9(q:Nat)(x:am0):Option ao9:=bu4 (zI q) x some
theorem fl4(q:Nat):Lw E5 31 xM bp1 (cm9 q):=sof hW5 hX5 (fk (do8 q) a8) (λ_=>cB) λx=>(hz8 (zI q) x).trans (by rw[el2,hy6]<;>rfl)
abbrev gJ:Type:=ByteArray
abbrev an4:Type:=(Int×Int)⊕(Int×Int×Nat×FI×FI×FS×FI)
def cr1:AR gJ:=λx=>([st x],[])
def dx0:an4->CRes:=Sum.elim (λz:Int×Int=>.ret (.tup [g8,i64 z.1,i64 z.2]) []) (λz:Int×Int×Nat×FI×FI×FS×FI=>.ret (.tup [.sl 0 4 0 z.2.2.1,i64 z.1,i64 z.2.1]) [some (.row 35 4 z.2.2.1 (λj=>[i64 (z.2.2.2.1 j),i64 (z.2.2.2.2.1 j),st (z.2.2.2.2.2.1 j),i64 (z.2.2.2.2.2.2 j)]))])
abbrev bO:Type:=(Nat×Int)⊕(Int×FI×FS×FI×FI×Nat×Nat)
abbrev nV:Type:=(Int×Int)⊕(Unit)⊕(Nat×FI×FI×FS×FI)
def dg1(x:gJ)(y:Nat×Int):St:={fr:=[st x]++jk 4++[g8,i64 y.2]++jk 9++[V.ptr 0 0]++jk 74,H:=hp [some (Chunk.iter x y.1)],nx:=1,rt:=0,me:=13}
def dl8(s:St):Nat×Int:=((chP (s.H 0)),vI (s.fr.getD 6 .junk))
def dd2(x:gJ)(y:Int×FI×FS×FI×FI×Nat×Nat):St:={fr:=[st x]++jk 4++[V.sl 0 4 0 y.2.2.2.2.2.2,i64 y.1]++jk 9++[V.ptr 1 0]++jk 74,H:=hp [some (Chunk.row 35 4 y.2.2.2.2.2.2 λj=>[i64 (y.2.1 j),i64 (y.2.2.2.2.1 j),st (y.2.2.1 j),i64 (y.2.2.2.1 j)]),some (Chunk.iter x y.2.2.2.2.2.1)],nx:=2,rt:=0,me:=13}
def dn7(s:St):Int×FI×FS×FI×FI×Nat×Nat:=((vI (s.fr.getD 6 .junk)),dRI (s.H 0) 0,dRS (s.H 0) 2,dRI (s.H 0) 3,dRI (s.H 0) 1,(chP (s.H 1)),dB (s.fr.getD 5 .junk))
def fF(x:gJ):bO->St:=(Sum.elim (dg1 x) (dd2 x))
def ek4(s:St):bO:=(match s.nx==1 with|true=>(.inl (dl8 s)) |false=>(.inr (dn7 s)))
theorem eb9(x:gJ):VL (fF x):=vl ek4 (λy=>by rcases y with y|y<;>rfl)
def nO(x:gJ):nV->Ex×St:=(Sum.elim (λz=>(Ex.ret,{fr:=[V.junk,V.junk,g8,i64 z.1,i64 z.2]++jk 86,H:=hp [],nx:=0,rt:=0,me:=13})) (Sum.elim (λz=>(Ex.exit 0,{fr:=[st x]++jk 4++[g8]++jk 85,H:=hp [],nx:=0,rt:=0,me:=13})) (λz=>(Ex.exit 0,{fr:=[st x]++jk 4++[V.sl 0 4 0 z.1]++jk 85,H:=hp [some (Chunk.row 35 4 z.1 λj=>[i64 (z.2.1 j),i64 (z.2.2.1 j),st (z.2.2.2.1 j),i64 (z.2.2.2.2 j)])],nx:=1,rt:=0,me:=13}))))
def kB{β:Type}(c_letter:pI->Option oS)(c_digit:lS->Option lT)(c_spanN:iF->Option yL)(c_word:ap4->Option aq6)(c_lnum:mL->Option ae1)(c_lsym:am0->Option ao9)(x:gJ)(y:Nat×Int)(nx:bO->Option β)(dn:nV->Option β):Option β:=
 if y.1<x.size then if decide (((y.1:Nat):Int)<y.2)=true then nx (.inl (y.1+Prod.snd (Utf8.decode x y.1),y.2))else if 0<=((y.1:Nat):Int)/\((y.1:Nat):Int)<=(x.size:Int)/\(x.size:Int)<=(x.size:Int)then if(((Prod.fst (Utf8.decode x y.1):Nat):Int)==32)=true then nx (.inl (y.1+Prod.snd (Utf8.decode x y.1),y.2))else if(((Prod.fst (Utf8.decode x y.1):Nat):Int)==9)=true then nx (.inl (y.1+Prod.snd (Utf8.decode x y.1),y.2))else if(((Prod.fst (Utf8.decode x y.1):Nat):Int)==10)=true then nx (.inl (y.1+Prod.snd (Utf8.decode x y.1),y.2))else if(((Prod.fst (Utf8.decode x y.1):Nat):Int)==13)=true then nx (.inl (y.1+Prod.snd (Utf8.decode x y.1),y.2))else if(((Prod.fst (Utf8.decode x y.1):Nat):Int)==35)=true then(c_spanN (ByteArray.extract x (Int.toNat ((y.1:Nat):Int)) (Int.toNat (x.size:Int)))).bind λz476=>nx (.inl (y.1+Prod.snd (Utf8.decode x y.1),w (((y.1:Nat):Int)+z476)))else(c_letter ((Prod.fst (Utf8.decode x y.1):Nat):Int)).bind λz478=>if z478=true then(c_word (ByteArray.extract x (Int.toNat ((y.1:Nat):Int)) (Int.toNat (x.size:Int)))).bind λz480=>if(z480.2.2.2.2 !=0)=true then dn (.inl (((y.1:Nat):Int),z480.2.2.2.2))else nx (.inr (w (((y.1:Nat):Int)+(z480.2.2.1.size:Int)),λj=>z480.1,λj=>z480.2.2.1,λj=>z480.2.2.2.1,λj=>((y.1:Nat):Int),y.1+Prod.snd (Utf8.decode x y.1),1))else(c_digit ((Prod.fst (Utf8.decode x y.1):Nat):Int)).bind λz482=>if z482=true then(c_lnum (ByteArray.extract x (Int.toNat ((y.1:Nat):Int)) (Int.toNat (x.size:Int)))).bind λz484=>if(z484.2.2.2.2 !=0)=true then dn (.inl (((y.1:Nat):Int),z484.2.2.2.2))else nx (.inr (w (((y.1:Nat):Int)+(z484.2.2.1.size:Int)),λj=>z484.1,λj=>z484.2.2.1,λj=>z484.2.2.2.1,λj=>((y.1:Nat):Int),y.1+Prod.snd (Utf8.decode x y.1),1))else(c_lsym (ByteArray.extract x (Int.toNat ((y.1:Nat):Int)) (Int.toNat (x.size:Int)))).bind λz486=>if(z486.2.2.2.2 !=0)=true then dn (.inl (((y.1:Nat):Int),z486.2.2.2.2))else nx (.inr (w (((y.1:Nat):Int)+(z486.2.2.1.size:Int)),λj=>z486.1,λj=>z486.2.2.1,λj=>z486.2.2.2.1,λj=>((y.1:Nat):Int),y.1+Prod.snd (Utf8.decode x y.1),1))else none else dn (.inr (.inl ()))
theorem dn9{β:Type}(c_letter c_digit)(c_spanN c_word)(c_lnum c_lsym)(x)(y)(nx:bO->Option β)(dn):kB c_letter c_digit c_spanN c_word c_lnum c_lsym x y nx dn=(kB c_letter c_digit c_spanN c_word c_lnum c_lsym x y (λy=>some (.inl y)) (λz=>some (.inr z))).bind λr=>Sum.elim nx dn r:=by
 unfold kB
 repeat' first|exact n0|refine n1 λ_=>?_|refine n2 ?_ ?_|refine n3 (λ_=>?_) λ_=>?_|rfl
theorem dh8(c_letter c_digit)(c_spanN c_word)(c_lnum c_lsym)(x)(y)(lo:f5):n8 E5 (ftb 27 eE xF c_letter (ftb 29 cO rM c_digit (ftg 25 (λa _=>fx8 (a.getD 1 .junk)==26) oV aw0 c_spanN (ftb 28 wJ bs6 c_word (ftb 30 wN br1 c_lnum (ftb 31 xM bp1 c_lsym ca0)))))) lo 0 65633 (h9 E5 13 0) (fF x (.inl y)) (KCM [(0,33)] 28)=kB (vf eE c_letter) (vf cO c_digit) (vf oV c_spanN) (vf wJ c_word) (vf wN c_lnum) (vf xM c_lsym) x y (λy=>lo 0 65633 (h9 E5 13 0) (fF x y) (KCM [(0,33)] 28)) (λz=>some (.l (nO x z).1 (nO x z).2)):=by kernel_rfl
def kV{β:Type}(c_letter:pI->Option oS)(c_digit:lS->Option lT)(c_spanN:iF->Option yL)(c_word:ap4->Option aq6)(c_lnum:mL->Option ae1)(c_lsym:am0->Option ao9)(x:gJ)(y:Int×FI×FS×FI×FI×Nat×Nat)(nx:bO->Option β)(dn:nV->Option β):Option β:=
 if y.2.2.2.2.2.1<x.size then if decide (((y.2.2.2.2.2.1:Nat):Int)<y.1)=true then nx (.inr (y.1,y.2.1,y.2.2.1,y.2.2.2.1,y.2.2.2.2.1,y.2.2.2.2.2.1+Prod.snd (Utf8.decode x y.2.2.2.2.2.1),y.2.2.2.2.2.2))else if 0<=((y.2.2.2.2.2.1:Nat):Int)/\((y.2.2.2.2.2.1:Nat):Int)<=(x.size:Int)/\(x.size:Int)<=(x.size:Int)then if(((Prod.fst (Utf8.decode x y.2.2.2.2.2.1):Nat):Int)==32)=true then nx (.inr (y.1,y.2.1,y.2.2.1,y.2.2.2.1,y.2.2.2.2.1,y.2.2.2.2.2.1+Prod.snd (Utf8.decode x y.2.2.2.2.2.1),y.2.2.2.2.2.2))else if(((Prod.fst (Utf8.decode x y.2.2.2.2.2.1):Nat):Int)==9)=true then nx (.inr (y.1,y.2.1,y.2.2.1,y.2.2.2.1,y.2.2.2.2.1,y.2.2.2.2.2.1+Prod.snd (Utf8.decode x y.2.2.2.2.2.1),y.2.2.2.2.2.2))else if(((Prod.fst (Utf8.decode x y.2.2.2.2.2.1):Nat):Int)==10)=true then nx (.inr (y.1,y.2.1,y.2.2.1,y.2.2.2.1,y.2.2.2.2.1,y.2.2.2.2.2.1+Prod.snd (Utf8.decode x y.2.2.2.2.2.1),y.2.2.2.2.2.2))else if(((Prod.fst (Utf8.decode x y.2.2.2.2.2.1):Nat):Int)==13)=true then nx (.inr (y.1,y.2.1,y.2.2.1,y.2.2.2.1,y.2.2.2.2.1,y.2.2.2.2.2.1+Prod.snd (Utf8.decode x y.2.2.2.2.2.1),y.2.2.2.2.2.2))else if(((Prod.fst (Utf8.decode x y.2.2.2.2.2.1):Nat):Int)==35)=true then(c_spanN (ByteArray.extract x (Int.toNat ((y.2.2.2.2.2.1:Nat):Int)) (Int.toNat (x.size:Int)))).bind λz489=>nx (.inr (w (((y.2.2.2.2.2.1:Nat):Int)+z489),y.2.1,y.2.2.1,y.2.2.2.1,y.2.2.2.2.1,y.2.2.2.2.2.1+Prod.snd (Utf8.decode x y.2.2.2.2.2.1),y.2.2.2.2.2.2))else(c_letter ((Prod.fst (Utf8.decode x y.2.2.2.2.2.1):Nat):Int)).bind λz491=>if z491=true then(c_word (ByteArray.extract x (Int.toNat ((y.2.2.2.2.2.1:Nat):Int)) (Int.toNat (x.size:Int)))).bind λz493=>if(z493.2.2.2.2 !=0)=true then dn (.inl (((y.2.2.2.2.2.1:Nat):Int),z493.2.2.2.2))else if(y.2.2.2.2.2.2+1)*40<=d5/\y.2.2.2.2.2.2+1<=maxLen/\y.2.2.2.2.2.2<=y.2.2.2.2.2.2 then nx (.inr (w (((y.2.2.2.2.2.1:Nat):Int)+(z493.2.2.1.size:Int)),λj=>if j<y.2.2.2.2.2.2 then y.2.1 j else z493.1,λj=>if j<y.2.2.2.2.2.2 then y.2.2.1 j else z493.2.2.1,λj=>if j<y.2.2.2.2.2.2 then y.2.2.2.1 j else z493.2.2.2.1,λj=>if j<y.2.2.2.2.2.2 then y.2.2.2.2.1 j else((y.2.2.2.2.2.1:Nat):Int),y.2.2.2.2.2.1+Prod.snd (Utf8.decode x y.2.2.2.2.2.1),y.2.2.2.2.2.2+1))else none else(c_digit ((Prod.fst (Utf8.decode x y.2.2.2.2.2.1):Nat):Int)).bind λz495=>if z495=true then(c_lnum (ByteArray.extract x (Int.toNat ((y.2.2.2.2.2.1:Nat):Int)) (Int.toNat (x.size:Int)))).bind λz497=>if(z497.2.2.2.2 !=0)=true then dn (.inl (((y.2.2.2.2.2.1:Nat):Int),z497.2.2.2.2))else if(y.2.2.2.2.2.2+1)*40<=d5/\y.2.2.2.2.2.2+1<=maxLen/\y.2.2.2.2.2.2<=y.2.2.2.2.2.2 then nx (.inr (w (((y.2.2.2.2.2.1:Nat):Int)+(z497.2.2.1.size:Int)),λj=>if j<y.2.2.2.2.2.2 then y.2.1 j else z497.1,λj=>if j<y.2.2.2.2.2.2 then y.2.2.1 j else z497.2.2.1,λj=>if j<y.2.2.2.2.2.2 then y.2.2.2.1 j else z497.2.2.2.1,λj=>if j<y.2.2.2.2.2.2 then y.2.2.2.2.1 j else((y.2.2.2.2.2.1:Nat):Int),y.2.2.2.2.2.1+Prod.snd (Utf8.decode x y.2.2.2.2.2.1),y.2.2.2.2.2.2+1))else none else(c_lsym (ByteArray.extract x (Int.toNat ((y.2.2.2.2.2.1:Nat):Int)) (Int.toNat (x.size:Int)))).bind λz499=>if(z499.2.2.2.2 !=0)=true then dn (.inl (((y.2.2.2.2.2.1:Nat):Int),z499.2.2.2.2))else if(y.2.2.2.2.2.2+1)*40<=d5/\y.2.2.2.2.2.2+1<=maxLen/\y.2.2.2.2.2.2<=y.2.2.2.2.2.2 then nx (.inr (w (((y.2.2.2.2.2.1:Nat):Int)+(z499.2.2.1.size:Int)),λj=>if j<y.2.2.2.2.2.2 then y.2.1 j else z499.1,λj=>if j<y.2.2.2.2.2.2 then y.2.2.1 j else z499.2.2.1,λj=>if j<y.2.2.2.2.2.2 then y.2.2.2.1 j else z499.2.2.2.1,λj=>if j<y.2.2.2.2.2.2 then y.2.2.2.2.1 j else((y.2.2.2.2.2.1:Nat):Int),y.2.2.2.2.2.1+Prod.snd (Utf8.decode x y.2.2.2.2.2.1),y.2.2.2.2.2.2+1))else none else none else dn (.inr (.inr (y.2.2.2.2.2.2,y.2.1,y.2.2.2.2.1,y.2.2.1,y.2.2.2.1)))
theorem dd9{β:Type}(c_letter c_digit)(c_spanN c_word)(c_lnum c_lsym)(x)(y)(nx:bO->Option β)(dn):kV c_letter c_digit c_spanN c_word c_lnum c_lsym x y nx dn=(kV c_letter c_digit c_spanN c_word c_lnum c_lsym x y (λy=>some (.inl y)) (λz=>some (.inr z))).bind λr=>Sum.elim nx dn r:=by
 unfold kV
 repeat' first|exact n0|refine n1 λ_=>?_|refine n2 ?_ ?_|refine n3 (λ_=>?_) λ_=>?_|rfl
theorem do5(c_letter c_digit)(c_spanN c_word)(c_lnum c_lsym)(x)(y)(lo:f5):n8 E5 (ftb 27 eE xF c_letter (ftb 29 cO rM c_digit (ftg 25 (λa _=>fx8 (a.getD 1 .junk)==26) oV aw0 c_spanN (ftb 28 wJ bs6 c_word (ftb 30 wN br1 c_lnum (ftb 31 xM bp1 c_lsym ca0)))))) lo 0 65633 (h9 E5 13 0) (fF x (.inr y)) (KCM [(0,33)] 28)=kV (vf eE c_letter) (vf cO c_digit) (vf oV c_spanN) (vf wJ c_word) (vf wN c_lnum) (vf xM c_lsym) x y (λy=>lo 0 65633 (h9 E5 13 0) (fF x y) (KCM [(0,33)] 28)) (λz=>some (.l (nO x z).1 (nO x z).2)):=by kernel_rfl
noncomputable def pO(c_letter:pI->Option oS)(c_digit:lS->Option lT)(c_spanN:iF->Option yL)(c_word:ap4->Option aq6)(c_lnum:mL->Option ae1)(c_lsym:am0->Option ao9)(q:Nat)(x:gJ):bO->Option nV:=lpG (Sum.elim (λy=>kB c_letter c_digit c_spanN c_word c_lnum c_lsym x y (λy=>some (.inl y)) (λz=>some (.inr z))) (λy=>kV c_letter c_digit c_spanN c_word c_lnum c_lsym x y (λy=>some (.inl y)) (λz=>some (.inr z)))) q
theorem ed3(c_letter)(h_letter:Lw E5 27 eE xF c_letter)(c_digit)(h_digit:Lw E5 29 cO rM c_digit)(c_spanN)(h_spanN:Lw E5 25 oV aw0 c_spanN)(c_word)(h_word:Lw E5 28 wJ bs6 c_word)(c_lnum)(h_lnum:Lw E5 30 wN br1 c_lnum)(c_lsym)(h_lsym:Lw E5 31 xM bp1 c_lsym)(q:Nat)(x:gJ):Ll E5 (h9 E5 13 0) (fF x) (nO x) (pO c_letter c_digit c_spanN c_word c_lnum c_lsym q x):=
 slp (fk h_letter (fk h_digit (fk h_spanN (fk h_word (fk h_lnum (fk h_lsym a8)))))) hX5 (λlo y=>by
  rcases y with y|y
  ·exact(dh8 c_letter c_digit c_spanN c_word c_lnum c_lsym x y lo).trans (by rw[bm3,ax3,dm1,ex7,eu6,es6];exact dn9 _ _ _ _ _ _ _ _ _ _)
  ·exact(do5 c_letter c_digit c_spanN c_word c_lnum c_lsym x y lo).trans (by rw[bm3,ax3,dm1,ex7,eu6,es6];exact dd9 _ _ _ _ _ _ _ _ _ _)) (λz=>by rcases z with z|z|z<;>kernel_rfl) q
def aa3{β:Type}(c_letter:pI->Option oS)(c_digit:lS->Option lT)(c_spanN:iF->Option yL)(c_word:ap4->Option aq6)(c_lnum:mL->Option ae1)(c_lsym:am0->Option ao9)(l_Tokens_l0:bO->Option nV)(x:gJ)(dn:an4->Option β):Option β:=
 if decide ((x.size:Int)>4000)=true then dn (.inl (4000,2))else(l_Tokens_l0 (.inl (0,0))).bind λz461=>Sum.elim (λz461a=>dn (.inl z461a)) (λz461b=>Sum.elim (λz461ba=>dn (.inr (0,0,1,λj=>0,λj=>(x.size:Int),λj=>⟨#[]⟩,λj=>0))) (λz461bb=>if(z461bb.1+1)*40<=d5/\z461bb.1+1<=maxLen/\z461bb.1<=z461bb.1 then dn (.inr (0,0,z461bb.1+1,λj=>if j<z461bb.1 then z461bb.2.1 j else 0,λj=>if j<z461bb.1 then z461bb.2.2.1 j else(x.size:Int),λj=>if j<z461bb.1 then z461bb.2.2.2.1 j else⟨#[]⟩,λj=>if j<z461bb.1 then z461bb.2.2.2.2 j else 0))else none) z461b) z461
theorem gt0{β:Type}(c_letter c_digit)(c_spanN c_word)(c_lnum c_lsym)(l_Tokens_l0)(x)(dn:an4->Option β):aa3 c_letter c_digit c_spanN c_word c_lnum c_lsym l_Tokens_l0 x dn=(aa3 c_letter c_digit c_spanN c_word c_lnum c_lsym l_Tokens_l0 x some).bind dn:=by
 unfold aa3
 repeat' first|exact n0|refine n1 λ_=>?_|refine n2 ?_ ?_|refine n3 (λ_=>?_) λ_=>?_|rfl
theorem gs4(c_letter c_digit)(c_spanN c_word)(c_lnum c_lsym)(l_Tokens_l0)(x):f7 E5 (ftb 27 eE xF c_letter (ftb 29 cO rM c_digit (ftg 25 (λa _=>fx8 (a.getD 1 .junk)==26) oV aw0 c_spanN (ftb 28 wJ bs6 c_word (ftb 30 wN br1 c_lnum (ftb 31 xM bp1 c_lsym ca0)))))) (lt3 0 (λ_=>true) (h9 E5 13 0) (fF x) (nO x) l_Tokens_l0 lo0) 13 (cr1 x).1 (cr1 x).2 K=aa3 (vf eE c_letter) (vf cO c_digit) (vf oV c_spanN) (vf wJ c_word) (vf wN c_lnum) (vf xM c_lsym) (lf (h9 E5 13 0) (fF x) l_Tokens_l0) x (λz=>some (.c (dx0 z))):=by kernel_rfl
noncomputable def ey7(q:Nat)(x:gJ):Option an4:=aa3 (pW q) (oZ q) (am2 q) (word q) (ci2 q) (cm9 q) (pO (pW q) (oZ q) (am2 q) (word q) (ci2 q) (cm9 q) q x) x some
theorem fs9(q:Nat):Lw E5 13 cr1 dx0 (ey7 q):=sof hW5 hX5 (fk (bo2 q) (fk (al5 q) (fk (ds6 q) (fk (fn3 q) (fk (fi6 q) (fk (fl4 q) a8)))))) (λx=>(lk3 (ed3 (pW q) (bo2 q) (oZ q) (al5 q) (am2 q) (ds6 q) (word q) (fn3 q) (ci2 q) (fi6 q) (cm9 q) (fl4 q) q x) cB)) λx=>(gs4 (pW q) (oZ q) (am2 q) (word q) (ci2 q) (cm9 q) (pO (pW q) (oZ q) (am2 q) (word q) (ci2 q) (cm9 q) q x) x).trans (by rw[bm3,ax3,dm1,ex7,eu6,es6,eb9,gt0]<;>rfl)
end Go.Proofs.YtjfkkokeegpeiaaDoor
/- Parse, lifted where it returns. -/
namespace Go.Proofs.YtjfkkokeegpeiaaDoor
open Go Go.Am Go.Proofs
set_option maxRecDepth 100000
abbrev nR:Type:=ByteArray
abbrev dF:Type:=Int×Int×Nat×FI×FI×FS×FI
def aV:AR nR:=λx=>([st x],[])
def fy4(t:TT):nR:=(vS (ag t 0))
theorem au7:VI aV:=vd fy4 λ_=>rfl
def vM:dF->CRes:=λz=>.ret (.tup [.ro 4 z.2.2.1 (λj=>[i64 (z.2.2.2.1 j),i64 (z.2.2.2.2.1 j),st (z.2.2.2.2.2.1 j),i64 (z.2.2.2.2.2.2 j)]),i64 z.1,i64 z.2.1]) []
def dc9:an4->dF:=Sum.elim (λz=>(z.1,z.2,0,λ_=>0,λ_=>0,λ_=>ByteArray.empty,λ_=>0)) id
noncomputable def bJ(q:Nat)(x:nR):Option dF:=(ey7 q x).map dc9
theorem bc6(q:Nat):Lw E5 13 aV vM (bJ q):=by
 intro x z h;obtain⟨y,hy,rfl⟩:=Option.map_eq_some_iff.1 h;have hs:=fs9 q x y hy;rcases y with y|y
 ·exact SC.le hs (Le.tup (LeL.cons Le.nil_ro (LeL.cons (Le.refl _) (LeL.cons (Le.refl _) LeL.nil))))
 ·have h2:=SC.giveM (L2:=[]) 0 hs (by rfl) (by simp[V.bw,V.bw2,V.bw1,hp,V.pure,m8]);simp only[V.bw,V.bw2,V.bw1,hp,List.map_cons,List.map_nil,List.getD_eq_getElem?_getD,List.getElem?_cons_succ,List.getElem?_cons_zero,Option.getD_some,Nat.zero_add,Nat.le_refl,and_self,if_true]at h2;exact h2
abbrev mB:Type:=Int×Int×Nat×FI×FI×FS×FI
abbrev lV:Type:=Int×Int×ByteArray×Int×Int×Int×Nat×FI×FI×FS×FI
def aK:AR mB:=λx=>([.ptr 0 0],[some (.blk [.ro 4 x.2.2.1 (λj=>[i64 (x.2.2.2.1 j),i64 (x.2.2.2.2.1 j),st (x.2.2.2.2.2.1 j),i64 (x.2.2.2.2.2.2 j)]),i64 x.1,i64 x.2.1,g8,g8])])
def hl9(t:TT):mB:=((vI (cc t 0 1)),vI (cc t 0 2),u7 (cc t 0 0),dTI (cc t 0 0) 0,dTI (cc t 0 0) 1,dTS (cc t 0 0) 2,dTI (cc t 0 0) 3)
theorem av8:VI aK:=vd hl9 λ_=>rfl
def oK:lV->CRes:=λz=>.ret (.agg [i64 z.1,i64 z.2.1,st z.2.2.1,i64 z.2.2.2.1]) [some (.blk [.ro 4 z.2.2.2.2.2.2.1 (λj=>[i64 (z.2.2.2.2.2.2.2.1 j),i64 (z.2.2.2.2.2.2.2.2.1 j),st (z.2.2.2.2.2.2.2.2.2.1 j),i64 (z.2.2.2.2.2.2.2.2.2.2 j)]),i64 z.2.2.2.2.1,i64 z.2.2.2.2.2.1,g8,g8])]
def at3{β:Type}(x:mB)(dn:lV->Option β):Option β:=
 if 0<=x.1/\x.1< ((x.2.2.1:Nat):Int)then dn (x.2.2.2.1 (Int.toNat x.1),x.2.2.2.2.1 (Int.toNat x.1),x.2.2.2.2.2.1 (Int.toNat x.1),x.2.2.2.2.2.2 (Int.toNat x.1),x)else none
theorem hf9{β:Type}(x)(dn:lV->Option β):at3 x dn=(at3 x some).bind dn:=by
 unfold at3
 repeat' first|exact n0|refine n1 λ_=>?_|refine n2 ?_ ?_|refine n3 (λ_=>?_) λ_=>?_|rfl
theorem ho0(x):f7 E5 ca0 lo0 18 (aK x).1 (aK x).2 K=at3 x (λz=>some (.c (oK z))):=by kernel_rfl
noncomputable def zP(q:Nat)(x:mB):Option lV:=at3 x some
theorem cl6(q:Nat):Lw E5 18 aK oK (zP q):=sof hW5 hX5 a8 (λ_=>cB) λx=>(ho0 x).trans (by rw[hf9]<;>rfl)
abbrev eK:Type:=ByteArray
abbrev bl6:Type:=(Int×Int)⊕(Nat×FS×FN×FM×FI×FI×FS×FN×FM)
def cq6:AR eK:=λx=>([st x],[])
def ec4:bl6->CRes:=Sum.elim (λz=>CRes.ret (V.tup [g8,i64 z.1,i64 z.2]) []:(Int×Int)->CRes) (λz=>CRes.ret (V.tup [V.sl 0 6 0 z.1,i64 0,i64 0]) [some (Chunk.row 42 6 z.1 λj=>[st (z.2.1 j),V.ro 2 (z.2.2.1 j) (z.2.2.2.1 j),i64 (z.2.2.2.2.1 j),i64 (z.2.2.2.2.2.1 j),st (z.2.2.2.2.2.2.1 j),V.ro 4 (z.2.2.2.2.2.2.2.1 j) (z.2.2.2.2.2.2.2.2 j)])]:(Nat×FS×FN×FM×FI×FI×FS×FN×FM)->CRes)
abbrev bN:Type:=(Int×Int×Nat×FI×FI×FS×FI)⊕(FS×FN×FM×FI×FI×FS×FN×FM×Int×Int×Nat×FI×FI×FS×FI×Int×Int×Nat×Nat×FS×FS×Nat)
abbrev nK:Type:=(Int×Int×Int×Int)⊕(Int×Int)⊕(Int×Int×Nat×FS×FN×FM×FI×FI×FS×FN×FM×Int×Int)⊕(Nat×FS×FN×FM×FI×FI×FS×FN×FM×Int×Int)
def dq4(x:eK)(y:Int×Int×Nat×FI×FI×FS×FI):St:={fr:=[V.junk,V.junk,V.ptr 0 0,V.ptr 1 0,V.ptr 2 0,V.junk,V.ptr 3 0]++jk 24,H:=hp [some (Chunk.blk [g8]),some (Chunk.blk [i64 y.1]),some (Chunk.blk [i64 y.2.1]),some (Chunk.blk [V.ro 4 y.2.2.1 λj=>[i64 (y.2.2.2.1 j),i64 (y.2.2.2.2.1 j),st (y.2.2.2.2.2.1 j),i64 (y.2.2.2.2.2.2 j)],i64 0,i64 0,g8,g8])],nx:=4,rt:=0,me:=8}
def dk2(s:St):Int×Int×Nat×FI×FI×FS×FI:=((vI (cb s 1 0)),vI (cb s 2 0),u7 (cb s 3 0),dTI (cb s 3 0) 0,dTI (cb s 3 0) 1,dTS (cb s 3 0) 2,dTI (cb s 3 0) 3)
def dq2(x:eK)(y:FS×FN×FM×FI×FI×FS×FN×FM×Int×Int×Nat×FI×FI×FS×FI×Int×Int×Nat×Nat×FS×FS×Nat):St:={fr:=[V.junk,V.junk,V.ptr 0 0,V.ptr 2 0,V.ptr 3 0,V.junk,V.ptr 4 0]++jk 24,H:=hp [some (Chunk.blk [V.sl 1 6 0 y.2.2.2.2.2.2.2.2.2.2.2.2.2.2.2.2.2.2.2.2.2]),some (Chunk.row 42 6 y.2.2.2.2.2.2.2.2.2.2.2.2.2.2.2.2.2.2.2.2.2 λj=>[st (y.1 j),V.ro 2 (y.2.1 j) (y.2.2.1 j),i64 (y.2.2.2.1 j),i64 (y.2.2.2.2.1 j),st (y.2.2.2.2.2.1 j),V.ro 4 (y.2.2.2.2.2.2.1 j) (y.2.2.2.2.2.2.2.1 j)]),some (Chunk.blk [i64 y.2.2.2.2.2.2.2.2.1]),some (Chunk.blk [i64 y.2.2.2.2.2.2.2.2.2.1]),some (Chunk.blk [V.ro 4 y.2.2.2.2.2.2.2.2.2.2.1 λj=>[i64 (y.2.2.2.2.2.2.2.2.2.2.2.1 j),i64 (y.2.2.2.2.2.2.2.2.2.2.2.2.1 j),st (y.2.2.2.2.2.2.2.2.2.2.2.2.2.1 j),i64 (y.2.2.2.2.2.2.2.2.2.2.2.2.2.2.1 j)],i64 y.2.2.2.2.2.2.2.2.2.2.2.2.2.2.2.1,i64 y.2.2.2.2.2.2.2.2.2.2.2.2.2.2.2.2.1,V.sl 5 1 0 y.2.2.2.2.2.2.2.2.2.2.2.2.2.2.2.2.2.1,V.sl 6 1 0 y.2.2.2.2.2.2.2.2.2.2.2.2.2.2.2.2.2.2.1]),some (Chunk.row 9 1 y.2.2.2.2.2.2.2.2.2.2.2.2.2.2.2.2.2.1 λj=>[st (y.2.2.2.2.2.2.2.2.2.2.2.2.2.2.2.2.2.2.2.1 j)]),some (Chunk.row 9 1 y.2.2.2.2.2.2.2.2.2.2.2.2.2.2.2.2.2.2.1 λj=>[st (y.2.2.2.2.2.2.2.2.2.2.2.2.2.2.2.2.2.2.2.2.1 j)])],nx:=7,rt:=0,me:=8}
def do0(s:St):FS×FN×FM×FI×FI×FS×FN×FM×Int×Int×Nat×FI×FI×FS×FI×Int×Int×Nat×Nat×FS×FS×Nat:=((dRS (s.H 1) 0),dRN (s.H 1) 1,dRF (s.H 1) 1,dRI (s.H 1) 2,dRI (s.H 1) 3,dRS (s.H 1) 4,dRN (s.H 1) 5,dRF (s.H 1) 5,vI (cb s 2 0),vI (cb s 3 0),u7 (cb s 4 0),dTI (cb s 4 0) 0,dTI (cb s 4 0) 1,dTS (cb s 4 0) 2,dTI (cb s 4 0) 3,vI (cb s 4 1),vI (cb s 4 2),dB (cb s 4 3),dB (cb s 4 4),dRS (s.H 5) 0,dRS (s.H 6) 0,dB (cb s 0 0))
def fA(x:eK):bN->St:=(Sum.elim (dq4 x) (dq2 x))
def eg0(s:St):bN:=(match s.nx==4 with|true=>(.inl (dk2 s)) |false=>(.inr (do0 s)))
theorem ec1(x:eK):VL (fA x):=vl eg0 (λy=>by rcases y with y|y<;>rfl)
def nD(x:eK):nK->Ex×St:=(Sum.elim (λz=>(Ex.panic (V.ifc 51 (V.agg [i64 z.1,i64 z.2.1])),{fr:=[V.junk,V.junk,V.ptr 0 0,V.ptr 1 0,V.ptr 2 0]++jk 26,H:=hp [some (Chunk.blk [g8]),some (Chunk.blk [i64 z.2.2.1]),some (Chunk.blk [i64 z.2.2.2])],nx:=3,rt:=0,me:=8})) (Sum.elim (λz=>(Ex.exit 0,{fr:=[V.junk,V.junk,V.ptr 0 0,V.ptr 1 0,V.ptr 2 0]++jk 26,H:=hp [some (Chunk.blk [g8]),some (Chunk.blk [i64 z.1]),some (Chunk.blk [i64 z.2])],nx:=3,rt:=0,me:=8})) (Sum.elim (λz=>(Ex.panic (V.ifc 51 (V.agg [i64 z.1,i64 z.2.1])),{fr:=[V.junk,V.junk,V.ptr 0 0,V.ptr 2 0,V.ptr 3 0]++jk 26,H:=hp [some (Chunk.blk [V.sl 1 6 0 z.2.2.1]),some (Chunk.row 42 6 z.2.2.1 λj=>[st (z.2.2.2.1 j),V.ro 2 (z.2.2.2.2.1 j) (z.2.2.2.2.2.1 j),i64 (z.2.2.2.2.2.2.1 j),i64 (z.2.2.2.2.2.2.2.1 j),st (z.2.2.2.2.2.2.2.2.1 j),V.ro 4 (z.2.2.2.2.2.2.2.2.2.1 j) (z.2.2.2.2.2.2.2.2.2.2.1 j)]),some (Chunk.blk [i64 z.2.2.2.2.2.2.2.2.2.2.2.1]),some (Chunk.blk [i64 z.2.2.2.2.2.2.2.2.2.2.2.2])],nx:=4,rt:=0,me:=8})) (λz=>(Ex.exit 0,{fr:=[V.junk,V.junk,V.ptr 0 0,V.ptr 2 0,V.ptr 3 0]++jk 26,H:=hp [some (Chunk.blk [V.sl 1 6 0 z.1]),some (Chunk.row 42 6 z.1 λj=>[st (z.2.1 j),V.ro 2 (z.2.2.1 j) (z.2.2.2.1 j),i64 (z.2.2.2.2.1 j),i64 (z.2.2.2.2.2.1 j),st (z.2.2.2.2.2.2.1 j),V.ro 4 (z.2.2.2.2.2.2.2.1 j) (z.2.2.2.2.2.2.2.2.1 j)]),some (Chunk.blk [i64 z.2.2.2.2.2.2.2.2.2.1]),some (Chunk.blk [i64 z.2.2.2.2.2.2.2.2.2.2])],nx:=4,rt:=0,me:=8})))))
def kA{β:Type}(c_TokensV:nR->Option dF)(c_nextZ:mB->Option lV)(c_next:aM->Option aL)(c_procedureZ:v7->Option aI)(c_procedure:m7->Option t6)(x:eK)(y:Int×Int×Nat×FI×FI×FS×FI)(nx:bN->Option β)(dn:nK->Option β):Option β:=
 (c_nextZ (0,0,y.2.2)).bind λz412=>if(z412.1 !=0)=true then(c_procedureZ z412.2.2.2.2).bind λz420=>Sum.elim (λz420a=>nx (.inr (λj=>z420a.1,λj=>z420a.2.1,λ(j j_1:Nat)=>[st (z420a.2.2.1 j_1),st (z420a.2.2.2.1 j_1)],λj=>z420a.2.2.2.2.1,λj=>z420a.2.2.2.2.2.1,λj=>z420a.2.2.2.2.2.2.1,λj=>z420a.2.2.2.2.2.2.2.1,λj=>z420a.2.2.2.2.2.2.2.2.1,y.1,y.2.1,z420a.2.2.2.2.2.2.2.2.2.2.2.1,z420a.2.2.2.2.2.2.2.2.2.2.2.2.1,z420a.2.2.2.2.2.2.2.2.2.2.2.2.2.1,z420a.2.2.2.2.2.2.2.2.2.2.2.2.2.2.1,z420a.2.2.2.2.2.2.2.2.2.2.2.2.2.2.2.1,z420a.2.2.2.2.2.2.2.2.2.1,z420a.2.2.2.2.2.2.2.2.2.2.1,z420a.2.2.2.2.2.2.2.2.2.2.2.2.2.2.2.2.1,z420a.2.2.2.2.2.2.2.2.2.2.2.2.2.2.2.2.2.2.1,z420a.2.2.2.2.2.2.2.2.2.2.2.2.2.2.2.2.2.1,z420a.2.2.2.2.2.2.2.2.2.2.2.2.2.2.2.2.2.2.2,1))) (λz420b=>dn (.inl (z420b.1,z420b.2,y.1,y.2.1))) z420 else dn (.inr (.inl (y.1,y.2.1)))
theorem dn5{β:Type}(c_TokensV c_nextZ)(c_next c_procedureZ c_procedure)(x)(y)(nx:bN->Option β)(dn):kA c_TokensV c_nextZ c_next c_procedureZ c_procedure x y nx dn=(kA c_TokensV c_nextZ c_next c_procedureZ c_procedure x y (λy=>some (.inl y)) (λz=>some (.inr z))).bind λr=>Sum.elim nx dn r:=by
 unfold kA
 repeat' first|exact n0|refine n1 λ_=>?_|refine n2 ?_ ?_|refine n3 (λ_=>?_) λ_=>?_|rfl
theorem dl7(c_TokensV c_nextZ)(c_next c_procedureZ c_procedure)(x)(y)(lo:f5):n8 E5 (ftb 13 aV vM c_TokensV (ftg 18 (λ_ L=>L.length==1) aK oK c_nextZ (ftb 18 j7 y6 c_next (fg2 19 (λ_ L=>L.length==1) l5 w6 c_procedureZ (fg2 19 (λ_ L=>L.length==3) l7 aN c_procedure ca0))))) lo 0 92 (h9 E5 8 0) (fA x (.inl y)) (KCM [(0,28),(1000,28)] 28)=kA (vf aV c_TokensV) (vf aK c_nextZ) (vf j7 c_next) (vf l5 c_procedureZ) (vf l7 c_procedure) x y (λy=>lo 0 92 (h9 E5 8 0) (fA x y) (KCM [(0,28),(1000,28)] 28)) (λz=>some (.l (nD x z).1 (nD x z).2)):=by kernel_rfl
def kO{β:Type}(c_TokensV:nR->Option dF)(c_nextZ:mB->Option lV)(c_next:aM->Option aL)(c_procedureZ:v7->Option aI)(c_procedure:m7->Option t6)(x:eK)(y:FS×FN×FM×FI×FI×FS×FN×FM×Int×Int×Nat×FI×FI×FS×FI×Int×Int×Nat×Nat×FS×FS×Nat)(nx:bN->Option β)(dn:nK->Option β):Option β:=
 (c_next (y.2.2.2.2.2.2.2.2.2.2.2.2.2.2.2.1,y.2.2.2.2.2.2.2.2.2.2.2.2.2.2.2.2.1,y.2.2.2.2.2.2.2.2.2.2.1,y.2.2.2.2.2.2.2.2.2.2.2.1,y.2.2.2.2.2.2.2.2.2.2.2.2.1,y.2.2.2.2.2.2.2.2.2.2.2.2.2.1,y.2.2.2.2.2.2.2.2.2.2.2.2.2.2.1,y.2.2.2.2.2.2.2.2.2.2.2.2.2.2.2.2.2.1,y.2.2.2.2.2.2.2.2.2.2.2.2.2.2.2.2.2.2.2.1,y.2.2.2.2.2.2.2.2.2.2.2.2.2.2.2.2.2.2.1,y.2.2.2.2.2.2.2.2.2.2.2.2.2.2.2.2.2.2.2.2.1)).bind λz434=>if(z434.1 !=0)=true then(c_procedure z434.2.2.2.2).bind λz446=>Sum.elim (λz446a=>if(y.2.2.2.2.2.2.2.2.2.2.2.2.2.2.2.2.2.2.2.2.2+1)*96<=d5/\y.2.2.2.2.2.2.2.2.2.2.2.2.2.2.2.2.2.2.2.2.2+1<=maxLen/\y.2.2.2.2.2.2.2.2.2.2.2.2.2.2.2.2.2.2.2.2.2<=y.2.2.2.2.2.2.2.2.2.2.2.2.2.2.2.2.2.2.2.2.2 then nx (.inr (λj=>if j<y.2.2.2.2.2.2.2.2.2.2.2.2.2.2.2.2.2.2.2.2.2 then y.1 j else z446a.1,λj=>if j<y.2.2.2.2.2.2.2.2.2.2.2.2.2.2.2.2.2.2.2.2.2 then y.2.1 j else z446a.2.1,λ(j j_1:Nat)=>if j<y.2.2.2.2.2.2.2.2.2.2.2.2.2.2.2.2.2.2.2.2.2 then y.2.2.1 j j_1 else[st (z446a.2.2.1 j_1),st (z446a.2.2.2.1 j_1)],λj=>if j<y.2.2.2.2.2.2.2.2.2.2.2.2.2.2.2.2.2.2.2.2.2 then y.2.2.2.1 j else z446a.2.2.2.2.1,λj=>if j<y.2.2.2.2.2.2.2.2.2.2.2.2.2.2.2.2.2.2.2.2.2 then y.2.2.2.2.1 j else z446a.2.2.2.2.2.1,λj=>if j<y.2.2.2.2.2.2.2.2.2.2.2.2.2.2.2.2.2.2.2.2.2 then y.2.2.2.2.2.1 j else z446a.2.2.2.2.2.2.1,λj=>if j<y.2.2.2.2.2.2.2.2.2.2.2.2.2.2.2.2.2.2.2.2.2 then y.2.2.2.2.2.2.1 j else z446a.2.2.2.2.2.2.2.1,λ(j j_1:Nat)=>if j<y.2.2.2.2.2.2.2.2.2.2.2.2.2.2.2.2.2.2.2.2.2 then y.2.2.2.2.2.2.2.1 j j_1 else z446a.2.2.2.2.2.2.2.2.1 j_1,y.2.2.2.2.2.2.2.2.1,y.2.2.2.2.2.2.2.2.2.1,z446a.2.2.2.2.2.2.2.2.2.2.2.1,z446a.2.2.2.2.2.2.2.2.2.2.2.2.1,z446a.2.2.2.2.2.2.2.2.2.2.2.2.2.1,z446a.2.2.2.2.2.2.2.2.2.2.2.2.2.2.1,z446a.2.2.2.2.2.2.2.2.2.2.2.2.2.2.2.1,z446a.2.2.2.2.2.2.2.2.2.1,z446a.2.2.2.2.2.2.2.2.2.2.1,z446a.2.2.2.2.2.2.2.2.2.2.2.2.2.2.2.2.1,z446a.2.2.2.2.2.2.2.2.2.2.2.2.2.2.2.2.2.2.1,z446a.2.2.2.2.2.2.2.2.2.2.2.2.2.2.2.2.2.1,z446a.2.2.2.2.2.2.2.2.2.2.2.2.2.2.2.2.2.2.2,y.2.2.2.2.2.2.2.2.2.2.2.2.2.2.2.2.2.2.2.2.2+1))else none) (λz446b=>dn (.inr (.inr (.inl (z446b.1,z446b.2,y.2.2.2.2.2.2.2.2.2.2.2.2.2.2.2.2.2.2.2.2.2,y.1,y.2.1,y.2.2.1,y.2.2.2.1,y.2.2.2.2.1,y.2.2.2.2.2.1,y.2.2.2.2.2.2.1,y.2.2.2.2.2.2.2.1,y.2.2.2.2.2.2.2.2.1,y.2.2.2.2.2.2.2.2.2.1))))) z446 else dn (.inr (.inr (.inr (y.2.2.2.2.2.2.2.2.2.2.2.2.2.2.2.2.2.2.2.2.2,y.1,y.2.1,y.2.2.1,y.2.2.2.1,y.2.2.2.2.1,y.2.2.2.2.2.1,y.2.2.2.2.2.2.1,y.2.2.2.2.2.2.2.1,y.2.2.2.2.2.2.2.2.1,y.2.2.2.2.2.2.2.2.2.1))))
theorem de8{β:Type}(c_TokensV c_nextZ)(c_next c_procedureZ c_procedure)(x)(y)(nx:bN->Option β)(dn):kO c_TokensV c_nextZ c_next c_procedureZ c_procedure x y nx dn=(kO c_TokensV c_nextZ c_next c_procedureZ c_procedure x y (λy=>some (.inl y)) (λz=>some (.inr z))).bind λr=>Sum.elim nx dn r:=by
 unfold kO
 repeat' first|exact n0|refine n1 λ_=>?_|refine n2 ?_ ?_|refine n3 (λ_=>?_) λ_=>?_|rfl
theorem dn6(c_TokensV c_nextZ)(c_next c_procedureZ c_procedure)(x)(y)(lo:f5):n8 E5 (ftb 13 aV vM c_TokensV (ftg 18 (λ_ L=>L.length==1) aK oK c_nextZ (ftb 18 j7 y6 c_next (fg2 19 (λ_ L=>L.length==1) l5 w6 c_procedureZ (fg2 19 (λ_ L=>L.length==3) l7 aN c_procedure ca0))))) lo 0 92 (h9 E5 8 0) (fA x (.inr y)) (KCM [(0,28),(1000,28)] 28)=kO (vf aV c_TokensV) (vf aK c_nextZ) (vf j7 c_next) (vf l5 c_procedureZ) (vf l7 c_procedure) x y (λy=>lo 0 92 (h9 E5 8 0) (fA x y) (KCM [(0,28),(1000,28)] 28)) (λz=>some (.l (nD x z).1 (nD x z).2)):=by kernel_rfl
noncomputable def zH(c_TokensV:nR->Option dF)(c_nextZ:mB->Option lV)(c_next:aM->Option aL)(c_procedureZ:v7->Option aI)(c_procedure:m7->Option t6)(q:Nat)(x:eK):bN->Option nK:=lpG (Sum.elim (λy=>kA c_TokensV c_nextZ c_next c_procedureZ c_procedure x y (λy=>some (.inl y)) (λz=>some (.inr z))) (λy=>kO c_TokensV c_nextZ c_next c_procedureZ c_procedure x y (λy=>some (.inl y)) (λz=>some (.inr z)))) q
theorem ea9(c_TokensV)(h_TokensV:Lw E5 13 aV vM c_TokensV)(c_nextZ)(h_nextZ:Lw E5 18 aK oK c_nextZ)(c_next)(h_next:Lw E5 18 j7 y6 c_next)(c_procedureZ)(h_procedureZ:Lw E5 19 l5 w6 c_procedureZ)(c_procedure)(h_procedure:Lw E5 19 l7 aN c_procedure)(q:Nat)(x:eK):Ll E5 (h9 E5 8 0) (fA x) (nD x) (zH c_TokensV c_nextZ c_next c_procedureZ c_procedure q x):=
 slp (fk h_TokensV (fk h_nextZ (fk h_next (fk2 h_procedureZ (fk2 h_procedure a8))))) hX5 (λlo y=>by
  rcases y with y|y
  ·exact(dl7 c_TokensV c_nextZ c_next c_procedureZ c_procedure x y lo).trans (by rw[au7,av8,iD,lB,oA];exact dn5 _ _ _ _ _ _ _ _ _)
  ·exact(dn6 c_TokensV c_nextZ c_next c_procedureZ c_procedure x y lo).trans (by rw[au7,av8,iD,lB,oA];exact de8 _ _ _ _ _ _ _ _ _)) (λz=>by rcases z with z|z|z|z<;>kernel_rfl) q
def sX{β:Type}(c_TokensV:nR->Option dF)(c_nextZ:mB->Option lV)(c_next:aM->Option aL)(c_procedureZ:v7->Option aI)(c_procedure:m7->Option t6)(l_ParseT_l0:bN->Option nK)(x:eK)(dn:bl6->Option β):Option β:=
 (c_TokensV x).bind λz1=>if(z1.2.1 !=0)=true then dn (.inl (z1.1,z1.2.1))else(l_ParseT_l0 (.inl z1)).bind λz388=>Sum.elim (λz388a=>none) (λz388b=>Sum.elim (λz388ba=>dn (.inl (0,0))) (λz388bb=>Sum.elim (λz388bba=>none) (λz388bbb=>dn (.inr (z388bbb.1,z388bbb.2.1,z388bbb.2.2.1,z388bbb.2.2.2.1,z388bbb.2.2.2.2.1,z388bbb.2.2.2.2.2.1,z388bbb.2.2.2.2.2.2.1,z388bbb.2.2.2.2.2.2.2.1,z388bbb.2.2.2.2.2.2.2.2.1))) z388bb) z388b) z388
theorem gp0{β:Type}(c_TokensV c_nextZ)(c_next c_procedureZ c_procedure)(l_ParseT_l0)(x)(dn:bl6->Option β):sX c_TokensV c_nextZ c_next c_procedureZ c_procedure l_ParseT_l0 x dn=(sX c_TokensV c_nextZ c_next c_procedureZ c_procedure l_ParseT_l0 x some).bind dn:=by
 unfold sX
 repeat' first|exact n0|refine n1 λ_=>?_|refine n2 ?_ ?_|refine n3 (λ_=>?_) λ_=>?_|rfl
theorem ge8(c_TokensV c_nextZ)(c_next c_procedureZ c_procedure)(l_ParseT_l0)(x):f7 E5 (ftb 13 aV vM c_TokensV (ftg 18 (λ_ L=>L.length==1) aK oK c_nextZ (ftb 18 j7 y6 c_next (fg2 19 (λ_ L=>L.length==1) l5 w6 c_procedureZ (fg2 19 (λ_ L=>L.length==3) l7 aN c_procedure ca0))))) (lt4 0 (λ_=>true) (h9 E5 8 0) (fA x) (nD x) l_ParseT_l0 lo0) 8 (cq6 x).1 (cq6 x).2 K=sX (vf aV c_TokensV) (vf aK c_nextZ) (vf j7 c_next) (vf l5 c_procedureZ) (vf l7 c_procedure) (lf (h9 E5 8 0) (fA x) l_ParseT_l0) x (λz=>some (.c (ec4 z))):=by kernel_rfl
noncomputable def bc5(q:Nat)(x:eK):Option bl6:=sX (bJ q) (zP q) (next q) (y8 q) (y9 q) (zH (bJ q) (zP q) (next q) (y8 q) (y9 q) q x) x some
theorem bu7(q:Nat):Lw E5 8 cq6 ec4 (bc5 q):=sof hW5 hX5 (fk (bc6 q) (fk (cl6 q) (fk (lU q) (fk2 (yU q) (fk2 (tQ q) a8))))) (λx=>(lk4 (ea9 (bJ q) (bc6 q) (zP q) (cl6 q) (next q) (lU q) (y8 q) (yU q) (y9 q) (tQ q) q x) cB)) λx=>(ge8 (bJ q) (zP q) (next q) (y8 q) (y9 q) (zH (bJ q) (zP q) (next q) (y8 q) (y9 q) q x) x).trans (by rw[au7,av8,iD,lB,oA,ec1,gp0]<;>rfl)
end Go.Proofs.YtjfkkokeegpeiaaDoor
/- Blocks that keep their names over a call. -/
namespace Go.Proofs.YtjfkkokeegpeiaaDoor
open Go Go.Am Go.Proofs
set_option maxRecDepth 100000
noncomputable def E7:Env:={E5 with allR:=true}
theorem un7{f:FuncId}{args:List V}{L:List (Option Chunk)}{cr:CRes}(h:SC E7 f args L cr)(hr:Nat.ble (bM false (hp L) args).length (bM true (hp L) args).length=true):SC E5 f args L cr:=by
 refine⟨h.1,λβ S w us h1 h2 h3=>(h.2 β S w us h1 h2 ⟨h3.rd,h3.inv⟩).mono ?_⟩;intro e w' hp';cases cr with
 |ret v L'=>
  obtain⟨u,β',S',g0,g1,g2,g3,g4⟩:=hp';exact⟨u,β',S',g0,g1,g2,g3,λi bm hi hb=>g4 i bm (Nat.lt_of_lt_of_le hi (Nat.le_of_ble_eq_true hr)) hb⟩
 |pan v=>exact hp'
end Go.Proofs.YtjfkkokeegpeiaaDoor
/- Same, SameAll, Expr, lifted. -/
namespace Go.Proofs.YtjfkkokeegpeiaaDoor
open Go Go.Am Go.Proofs
set_option maxRecDepth 100000
def opK(f:Nat->List V)(j:Nat):Int:=vI ((f j).getD 0 .junk)
def opN(f:Nat->List V)(j:Nat):Int:=vI ((f j).getD 1 .junk)
def opS(f:Nat->List V)(j:Nat):ByteArray:=vS ((f j).getD 2 .junk)
def opM(f:Nat->List V)(j:Nat):Nat:=u7 ((f j).getD 3 .junk)
def opF(f:Nat->List V)(j:Nat):Nat->List V:=iU ((f j).getD 3 .junk)
def xW(f:Nat->List V):Prop:=∀j,f j=[i64 (opK f j),i64 (opN f j),st (opS f j),.ro 4 (opM f j) (opF f j)]
theorem cV{f:Nat->List V}(h:xW f):(λj=>[i64 (opK f j),i64 (opN f j),st (opS f j),.ro 4 (opM f j) (opF f j)])=f:=funext λj=>(h j).symm
abbrev dn0:Type:=Int×Int×ByteArray×Nat×FL×Int×Int×ByteArray×Nat×FL
abbrev dk5:Type:=Bool
def hd0:AR dn0:=λx=>([.agg [i64 x.1,i64 x.2.1,st x.2.2.1,.ro 4 x.2.2.2.1 x.2.2.2.2.1],.agg [i64 x.2.2.2.2.2.1,i64 x.2.2.2.2.2.2.1,st x.2.2.2.2.2.2.2.1,.ro 4 x.2.2.2.2.2.2.2.2.1 x.2.2.2.2.2.2.2.2.2]],[])
def jh5(t:TT):dn0:=((vI (ca t 0 0)),vI (ca t 0 1),vS (ca t 0 2),u7 (ca t 0 3),iU (ca t 0 3),vI (ca t 1 0),vI (ca t 1 1),vS (ca t 1 2),u7 (ca t 1 3),iU (ca t 1 3))
theorem is2:VI hd0:=vd jh5 λ_=>rfl
def io1:dk5->CRes:=λz=>.ret (bo z) []
abbrev dl3:Type:=Int×Int×ByteArray×Nat×FI×FI×FS×FN×FM×Int×Int×ByteArray×Nat×FI×FI×FS×FN×FM
abbrev gy9:Type:=Bool
def ir6:AR dl3:=λx=>([.agg [i64 x.1,i64 x.2.1,st x.2.2.1,.ro 4 x.2.2.2.1 (λj=>[i64 (x.2.2.2.2.1 j),i64 (x.2.2.2.2.2.1 j),st (x.2.2.2.2.2.2.1 j),.ro 4 (x.2.2.2.2.2.2.2.1 j) (x.2.2.2.2.2.2.2.2.1 j)])],.agg [i64 x.2.2.2.2.2.2.2.2.2.1,i64 x.2.2.2.2.2.2.2.2.2.2.1,st x.2.2.2.2.2.2.2.2.2.2.2.1,.ro 4 x.2.2.2.2.2.2.2.2.2.2.2.2.1 (λj=>[i64 (x.2.2.2.2.2.2.2.2.2.2.2.2.2.1 j),i64 (x.2.2.2.2.2.2.2.2.2.2.2.2.2.2.1 j),st (x.2.2.2.2.2.2.2.2.2.2.2.2.2.2.2.1 j),.ro 4 (x.2.2.2.2.2.2.2.2.2.2.2.2.2.2.2.2.1 j) (x.2.2.2.2.2.2.2.2.2.2.2.2.2.2.2.2.2 j)])]],[])
def iz5:gy9->CRes:=λz=>.ret (bo z) []
abbrev af2:Type:=Int
abbrev bd9:Type:=(Unit)⊕(Unit)
def in2(x:dl3)(y:af2):St:={fr:=[V.junk,V.junk,V.ptr 0 0,V.ptr 1 0,V.junk,i64 y]++jk 47,H:=hp [some (Chunk.blk [i64 x.1,i64 x.2.1,st x.2.2.1,V.ro 4 x.2.2.2.1 λj=>[i64 (x.2.2.2.2.1 j),i64 (x.2.2.2.2.2.1 j),st (x.2.2.2.2.2.2.1 j),V.ro 4 (x.2.2.2.2.2.2.2.1 j) (x.2.2.2.2.2.2.2.2.1 j)]]),some (Chunk.blk [i64 x.2.2.2.2.2.2.2.2.2.1,i64 x.2.2.2.2.2.2.2.2.2.2.1,st x.2.2.2.2.2.2.2.2.2.2.2.1,V.ro 4 x.2.2.2.2.2.2.2.2.2.2.2.2.1 λj=>[i64 (x.2.2.2.2.2.2.2.2.2.2.2.2.2.1 j),i64 (x.2.2.2.2.2.2.2.2.2.2.2.2.2.2.1 j),st (x.2.2.2.2.2.2.2.2.2.2.2.2.2.2.2.1 j),V.ro 4 (x.2.2.2.2.2.2.2.2.2.2.2.2.2.2.2.2.1 j) (x.2.2.2.2.2.2.2.2.2.2.2.2.2.2.2.2.2 j)]])],nx:=2,rt:=0,me:=24}
def ix1(s:St):af2:=(vI (s.fr.getD 5 .junk))
theorem ix9(x:dl3):VL (in2 x):=vl ix1 λ_=>rfl
def io5(x:dl3):bd9->Ex×St:=(Sum.elim (λz=>(Ex.ret,{fr:=jk 4++[bo false]++jk 48,H:=hp [],nx:=0,rt:=0,me:=24})) (λz=>(Ex.exit 0,{fr:=[V.junk]++jk 52,H:=hp [],nx:=0,rt:=0,me:=24})))
def ey1{β:Type}(c_Same:dn0->Option dk5)(x:dl3)(y:af2)(nx:af2->Option β)(dn:bd9->Option β):Option β:=
 if decide (y< ((x.2.2.2.1:Nat):Int))=true then if 0<=y/\y< ((x.2.2.2.1:Nat):Int)then if 0<=y/\y< ((x.2.2.2.2.2.2.2.2.2.2.2.2.1:Nat):Int)then(c_Same (x.2.2.2.2.1 (Int.toNat y),x.2.2.2.2.2.1 (Int.toNat y),x.2.2.2.2.2.2.1 (Int.toNat y),x.2.2.2.2.2.2.2.1 (Int.toNat y),x.2.2.2.2.2.2.2.2.1 (Int.toNat y),x.2.2.2.2.2.2.2.2.2.2.2.2.2.1 (Int.toNat y),x.2.2.2.2.2.2.2.2.2.2.2.2.2.2.1 (Int.toNat y),x.2.2.2.2.2.2.2.2.2.2.2.2.2.2.2.1 (Int.toNat y),x.2.2.2.2.2.2.2.2.2.2.2.2.2.2.2.2.1 (Int.toNat y),x.2.2.2.2.2.2.2.2.2.2.2.2.2.2.2.2.2 (Int.toNat y))).bind λz57=>if(!z57)=true then dn (.inl ())else nx (w (y+1))else none else none else dn (.inr ())
theorem iy4{β:Type}(c_Same)(x)(y)(nx:af2->Option β)(dn):ey1 c_Same x y nx dn=(ey1 c_Same x y (λy=>some (.inl y)) (λz=>some (.inr z))).bind λr=>Sum.elim nx dn r:=by
 unfold ey1
 repeat' first|exact n0|refine n1 λ_=>?_|refine n2 ?_ ?_|refine n3 (λ_=>?_) λ_=>?_|rfl
theorem ix4(c_Same)(x)(y)(lo:f5):n8 E5 (ftb 24 hd0 io1 c_Same ca0) lo 0 44 (h9 E5 24 0) (in2 x y) (KCM [(0,0)] 16)=ey1 (vf hd0 c_Same) x y (λy=>lo 0 44 (h9 E5 24 0) (in2 x y) (KCM [(0,0)] 16)) (λz=>some (.l (io5 x z).1 (io5 x z).2)):=by kernel_rfl
noncomputable def gi7(c_Same:dn0->Option dk5)(q:Nat)(x:dl3):af2->Option bd9:=lpG (λy=>ey1 c_Same x y (λy=>some (.inl y)) (λz=>some (.inr z))) q
theorem ix3(c_Same)(h_Same:Lw E5 24 hd0 io1 c_Same)(q:Nat)(x:dl3):Ll E5 (h9 E5 24 0) (in2 x) (io5 x) (gi7 c_Same q x):=
 slp (fk h_Same a8) hX5 (λlo y=>(ix4 c_Same x y lo).trans (by rw[is2];exact iy4 _ _ _ _ _)) (λz=>by rcases z with z|z<;>kernel_rfl) q
def he4{β:Type}(c_Same:dn0->Option dk5)(l_SameN_l0:af2->Option bd9)(x:dl3)(dn:gy9->Option β):Option β:=
 if(x.1 !=x.2.2.2.2.2.2.2.2.2.1)=true then dn false else if(x.2.1 !=x.2.2.2.2.2.2.2.2.2.2.1)=true then dn false else if(!x.2.2.1.toList==x.2.2.2.2.2.2.2.2.2.2.2.1.toList)=true then dn false else if(((x.2.2.2.1:Nat):Int)!=((x.2.2.2.2.2.2.2.2.2.2.2.2.1:Nat):Int))=true then dn false else(l_SameN_l0 (0)).bind λz25=>Sum.elim (λz25a=>dn false) (λz25b=>dn true) z25
theorem jf0{β:Type}(c_Same)(l_SameN_l0)(x)(dn:gy9->Option β):he4 c_Same l_SameN_l0 x dn=(he4 c_Same l_SameN_l0 x some).bind dn:=by
 unfold he4
 repeat' first|exact n0|refine n1 λ_=>?_|refine n2 ?_ ?_|refine n3 (λ_=>?_) λ_=>?_|rfl
theorem je8(c_Same)(l_SameN_l0)(x):f7 E5 (ftb 24 hd0 io1 c_Same ca0) (lt2 0 (λ_=>true) (h9 E5 24 0) (in2 x) (io5 x) l_SameN_l0 lo0) 24 (ir6 x).1 (ir6 x).2 K=he4 (vf hd0 c_Same) (lf (h9 E5 24 0) (in2 x) l_SameN_l0) x (λz=>some (.c (iz5 z))):=by kernel_rfl
theorem je6(c_Same)(h_Same:Lw E5 24 hd0 io1 c_Same)(q:Nat):Lw E5 24 ir6 iz5 λx=>he4 c_Same (gi7 c_Same q x) x some:=sof hW5 hX5 (fk h_Same a8) (λx=>(lk2 (ix3 c_Same h_Same q x) cB)) λx=>(je8 c_Same (gi7 c_Same q x) x).trans (by rw[is2,ix9,jf0]<;>rfl)
open Classical in
noncomputable def Same:Nat->dn0->Option dk5
 |0,_=>none
 |q+1,x=>if xW x.2.2.2.2.1/\xW x.2.2.2.2.2.2.2.2.2 then he4 (Same q) (gi7 (Same q) q (x.1,x.2.1,x.2.2.1,x.2.2.2.1,opK x.2.2.2.2.1,opN x.2.2.2.2.1,opS x.2.2.2.2.1,opM x.2.2.2.2.1,opF x.2.2.2.2.1,x.2.2.2.2.2.1,x.2.2.2.2.2.2.1,x.2.2.2.2.2.2.2.1,x.2.2.2.2.2.2.2.2.1,opK x.2.2.2.2.2.2.2.2.2,opN x.2.2.2.2.2.2.2.2.2,opS x.2.2.2.2.2.2.2.2.2,opM x.2.2.2.2.2.2.2.2.2,opF x.2.2.2.2.2.2.2.2.2)) (x.1,x.2.1,x.2.2.1,x.2.2.2.1,opK x.2.2.2.2.1,opN x.2.2.2.2.1,opS x.2.2.2.2.1,opM x.2.2.2.2.1,opF x.2.2.2.2.1,x.2.2.2.2.2.1,x.2.2.2.2.2.2.1,x.2.2.2.2.2.2.2.1,x.2.2.2.2.2.2.2.2.1,opK x.2.2.2.2.2.2.2.2.2,opN x.2.2.2.2.2.2.2.2.2,opS x.2.2.2.2.2.2.2.2.2,opM x.2.2.2.2.2.2.2.2.2,opF x.2.2.2.2.2.2.2.2.2) some else none
theorem iz2:∀q x z,Same q x=some z->SC E5 24 (hd0 x).1 (hd0 x).2 (io1 z):=by
 intro q
 induction q with
 |zero=>intro x z h;cases h
 |succ q ih=>
  intro x z h;unfold Same at h;split at h
  ·rename_i hO;have this:=je6 (Same q) ih q (x.1,x.2.1,x.2.2.1,x.2.2.2.1,opK x.2.2.2.2.1,opN x.2.2.2.2.1,opS x.2.2.2.2.1,opM x.2.2.2.2.1,opF x.2.2.2.2.1,x.2.2.2.2.2.1,x.2.2.2.2.2.2.1,x.2.2.2.2.2.2.2.1,x.2.2.2.2.2.2.2.2.1,opK x.2.2.2.2.2.2.2.2.2,opN x.2.2.2.2.2.2.2.2.2,opS x.2.2.2.2.2.2.2.2.2,opM x.2.2.2.2.2.2.2.2.2,opF x.2.2.2.2.2.2.2.2.2) z h;unfold ir6 at this;unfold hd0;simp only at this⊢;rw[cV hO.1,cV hO.2]at this;exact this
  ·cases h
end Go.Proofs.YtjfkkokeegpeiaaDoor
/- The reference's Expr, lifted. -/
namespace Go.Proofs.YtjfkkokeegpeiaaDoor
open Go Go.Am Go.Proofs
set_option maxRecDepth 100000
abbrev cR:Type:=Nat×FS×FN×(Nat->Nat->ByteArray)×(Nat->Nat->ByteArray)×FI×FI×FS×FN×FM×Nat×FS×FN×(Nat->Nat->ByteArray)×(Nat->Nat->ByteArray)×FI×FI×FS×FN×FM
abbrev ip3:Type:=Bool
def iq6:AR cR:=λx=>([.ro 6 x.1 (λj=>[st (x.2.1 j),.ro 2 (x.2.2.1 j) (λi=>[st (x.2.2.2.1 j i),st (x.2.2.2.2.1 j i)]),i64 (x.2.2.2.2.2.1 j),i64 (x.2.2.2.2.2.2.1 j),st (x.2.2.2.2.2.2.2.1 j),.ro 4 (x.2.2.2.2.2.2.2.2.1 j) (x.2.2.2.2.2.2.2.2.2.1 j)]),.ro 6 x.2.2.2.2.2.2.2.2.2.2.1 (λj=>[st (x.2.2.2.2.2.2.2.2.2.2.2.1 j),.ro 2 (x.2.2.2.2.2.2.2.2.2.2.2.2.1 j) (λi=>[st (x.2.2.2.2.2.2.2.2.2.2.2.2.2.1 j i),st (x.2.2.2.2.2.2.2.2.2.2.2.2.2.2.1 j i)]),i64 (x.2.2.2.2.2.2.2.2.2.2.2.2.2.2.2.1 j),i64 (x.2.2.2.2.2.2.2.2.2.2.2.2.2.2.2.2.1 j),st (x.2.2.2.2.2.2.2.2.2.2.2.2.2.2.2.2.2.1 j),.ro 4 (x.2.2.2.2.2.2.2.2.2.2.2.2.2.2.2.2.2.2.1 j) (x.2.2.2.2.2.2.2.2.2.2.2.2.2.2.2.2.2.2.2 j)])],[])
def is8:ip3->CRes:=λz=>.ret (bo z) []
abbrev vN:Type:=Int×Int
abbrev in6:Type:=(Unit)⊕(Int)
def ha2(x:cR)(y:vN):St:={fr:=[V.ro 6 x.1 λj=>[st (x.2.1 j),V.ro 2 (x.2.2.1 j) λj_1=>[st (x.2.2.2.1 j j_1),st (x.2.2.2.2.1 j j_1)],i64 (x.2.2.2.2.2.1 j),i64 (x.2.2.2.2.2.2.1 j),st (x.2.2.2.2.2.2.2.1 j),V.ro 4 (x.2.2.2.2.2.2.2.2.1 j) (x.2.2.2.2.2.2.2.2.2.1 j)],V.ro 6 x.2.2.2.2.2.2.2.2.2.2.1 λj=>[st (x.2.2.2.2.2.2.2.2.2.2.2.1 j),V.ro 2 (x.2.2.2.2.2.2.2.2.2.2.2.2.1 j) λj_1=>[st (x.2.2.2.2.2.2.2.2.2.2.2.2.2.1 j j_1),st (x.2.2.2.2.2.2.2.2.2.2.2.2.2.2.1 j j_1)],i64 (x.2.2.2.2.2.2.2.2.2.2.2.2.2.2.2.1 j),i64 (x.2.2.2.2.2.2.2.2.2.2.2.2.2.2.2.2.1 j),st (x.2.2.2.2.2.2.2.2.2.2.2.2.2.2.2.2.2.1 j),V.ro 4 (x.2.2.2.2.2.2.2.2.2.2.2.2.2.2.2.2.2.2.1 j) (x.2.2.2.2.2.2.2.2.2.2.2.2.2.2.2.2.2.2.2 j)],V.junk,V.junk,V.junk,i64 y.1,i64 y.2]++jk 78,H:=hp [],nx:=0,rt:=0,me:=11}
def it9(s:St):vN:=((vI (s.fr.getD 5 .junk)),vI (s.fr.getD 6 .junk))
theorem iv2(x:cR):VL (ha2 x):=vl it9 λ_=>rfl
def im8(x:cR):in6->Ex×St:=(Sum.elim (λz=>(Ex.ret,{fr:=jk 4++[bo false]++jk 80,H:=hp [],nx:=0,rt:=0,me:=11})) (λz=>(Ex.exit 2,{fr:=[V.ro 6 x.1 λj=>[st (x.2.1 j),V.ro 2 (x.2.2.1 j) λj_1=>[st (x.2.2.2.1 j j_1),st (x.2.2.2.2.1 j j_1)],i64 (x.2.2.2.2.2.1 j),i64 (x.2.2.2.2.2.2.1 j),st (x.2.2.2.2.2.2.2.1 j),V.ro 4 (x.2.2.2.2.2.2.2.2.1 j) (x.2.2.2.2.2.2.2.2.2.1 j)],V.ro 6 x.2.2.2.2.2.2.2.2.2.2.1 λj=>[st (x.2.2.2.2.2.2.2.2.2.2.2.1 j),V.ro 2 (x.2.2.2.2.2.2.2.2.2.2.2.2.1 j) λj_1=>[st (x.2.2.2.2.2.2.2.2.2.2.2.2.2.1 j j_1),st (x.2.2.2.2.2.2.2.2.2.2.2.2.2.2.1 j j_1)],i64 (x.2.2.2.2.2.2.2.2.2.2.2.2.2.2.2.1 j),i64 (x.2.2.2.2.2.2.2.2.2.2.2.2.2.2.2.2.1 j),st (x.2.2.2.2.2.2.2.2.2.2.2.2.2.2.2.2.2.1 j),V.ro 4 (x.2.2.2.2.2.2.2.2.2.2.2.2.2.2.2.2.2.2.1 j) (x.2.2.2.2.2.2.2.2.2.2.2.2.2.2.2.2.2.2.2 j)],V.junk,V.junk,V.junk,i64 z]++jk 79,H:=hp [],nx:=0,rt:=0,me:=11})))
def rS{β:Type}(c_Same:dn0->Option dk5)(x:cR)(y:vN)(nx:vN->Option β)(dn:in6->Option β):Option β:=
 if 0<=y.1/\y.1< ((x.1:Nat):Int)then if decide (y.2< ((x.2.2.1 (Int.toNat y.1):Nat):Int))=true then if 0<=y.1/\y.1< ((x.1:Nat):Int)then if 0<=y.2/\y.2< ((x.2.2.1 (Int.toNat y.1):Nat):Int)then if 0<=y.1/\y.1< ((x.2.2.2.2.2.2.2.2.2.2.1:Nat):Int)then if 0<=y.2/\y.2< ((x.2.2.2.2.2.2.2.2.2.2.2.2.1 (Int.toNat y.1):Nat):Int)then if(if true=true then !(ByteArray.toList (x.2.2.2.1 (Int.toNat y.1) (Int.toNat y.2))==ByteArray.toList (x.2.2.2.2.2.2.2.2.2.2.2.2.2.1 (Int.toNat y.1) (Int.toNat y.2))&&(ByteArray.toList (x.2.2.2.2.1 (Int.toNat y.1) (Int.toNat y.2))==ByteArray.toList (x.2.2.2.2.2.2.2.2.2.2.2.2.2.2.1 (Int.toNat y.1) (Int.toNat y.2))&&true))else ByteArray.toList (x.2.2.2.1 (Int.toNat y.1) (Int.toNat y.2))==ByteArray.toList (x.2.2.2.2.2.2.2.2.2.2.2.2.2.1 (Int.toNat y.1) (Int.toNat y.2))&&(ByteArray.toList (x.2.2.2.2.1 (Int.toNat y.1) (Int.toNat y.2))==ByteArray.toList (x.2.2.2.2.2.2.2.2.2.2.2.2.2.2.1 (Int.toNat y.1) (Int.toNat y.2))&&true))=true then dn (.inl ())else nx (y.1,w (y.2+1))else none else none else none else none else dn (.inr y.1)else none
theorem iu1{β:Type}(c_Same)(x)(y)(nx:vN->Option β)(dn):rS c_Same x y nx dn=(rS c_Same x y (λy=>some (.inl y)) (λz=>some (.inr z))).bind λr=>Sum.elim nx dn r:=by
 unfold rS
 repeat' first|exact n0|refine n1 λ_=>?_|refine n2 ?_ ?_|refine n3 (λ_=>?_) λ_=>?_|rfl
theorem it7(c_Same)(x)(y)(lo:f5):n8 E5 (ftb 24 hd0 io1 c_Same ca0) lo 2 99 (h9 E5 11 2) (ha2 x y) (KCM [(2,35),(1,35),(0,0)] 16)=rS (vf hd0 c_Same) x y (λy=>lo 2 99 (h9 E5 11 2) (ha2 x y) (KCM [(2,35),(1,35),(0,0)] 16)) (λz=>some (.l (im8 x z).1 (im8 x z).2)):=by kernel_rfl
noncomputable def he2(c_Same:dn0->Option dk5)(q:Nat)(x:cR):vN->Option in6:=lpG (λy=>rS c_Same x y (λy=>some (.inl y)) (λz=>some (.inr z))) q
theorem iv0(c_Same)(h_Same:Lw E5 24 hd0 io1 c_Same)(q:Nat)(x:cR):Ll E5 (h9 E5 11 2) (ha2 x) (im8 x) (he2 c_Same q x):=
 slp (fk h_Same a8) hX5 (λlo y=>(it7 c_Same x y lo).trans (by rw[is2];exact iu1 _ _ _ _ _)) (λz=>by rcases z with z|z<;>kernel_rfl) q
abbrev ha0:Type:=Int
abbrev in4:Type:=(Unit)⊕(Unit)
def ha1(x:cR)(y:ha0):St:={fr:=[V.ro 6 x.1 λj=>[st (x.2.1 j),V.ro 2 (x.2.2.1 j) λj_1=>[st (x.2.2.2.1 j j_1),st (x.2.2.2.2.1 j j_1)],i64 (x.2.2.2.2.2.1 j),i64 (x.2.2.2.2.2.2.1 j),st (x.2.2.2.2.2.2.2.1 j),V.ro 4 (x.2.2.2.2.2.2.2.2.1 j) (x.2.2.2.2.2.2.2.2.2.1 j)],V.ro 6 x.2.2.2.2.2.2.2.2.2.2.1 λj=>[st (x.2.2.2.2.2.2.2.2.2.2.2.1 j),V.ro 2 (x.2.2.2.2.2.2.2.2.2.2.2.2.1 j) λj_1=>[st (x.2.2.2.2.2.2.2.2.2.2.2.2.2.1 j j_1),st (x.2.2.2.2.2.2.2.2.2.2.2.2.2.2.1 j j_1)],i64 (x.2.2.2.2.2.2.2.2.2.2.2.2.2.2.2.1 j),i64 (x.2.2.2.2.2.2.2.2.2.2.2.2.2.2.2.2.1 j),st (x.2.2.2.2.2.2.2.2.2.2.2.2.2.2.2.2.2.1 j),V.ro 4 (x.2.2.2.2.2.2.2.2.2.2.2.2.2.2.2.2.2.2.1 j) (x.2.2.2.2.2.2.2.2.2.2.2.2.2.2.2.2.2.2.2 j)],V.junk,V.junk,V.junk,i64 y]++jk 79,H:=hp [],nx:=0,rt:=0,me:=11}
def iu5(s:St):ha0:=(vI (s.fr.getD 5 .junk))
theorem iv3(x:cR):VL (ha1 x):=vl iu5 λ_=>rfl
def im7(x:cR):in4->Ex×St:=(Sum.elim (λz=>(Ex.ret,{fr:=jk 4++[bo false]++jk 80,H:=hp [],nx:=0,rt:=0,me:=11})) (λz=>(Ex.exit 0,{fr:=[V.junk]++jk 84,H:=hp [],nx:=0,rt:=0,me:=11})))
def pT{β:Type}(c_Same:dn0->Option dk5)(l_SameAll_l2:vN->Option in6)(x:cR)(y:ha0)(nx:ha0->Option β)(dn:in4->Option β):Option β:=
 if decide (y< ((x.1:Nat):Int))=true then if 0<=y/\y< ((x.1:Nat):Int)then if 0<=y/\y< ((x.2.2.2.2.2.2.2.2.2.2.1:Nat):Int)then if(!ByteArray.toList (x.2.1 (Int.toNat y))==ByteArray.toList (x.2.2.2.2.2.2.2.2.2.2.2.1 (Int.toNat y)))=true then dn (.inl ())else if 0<=y/\y< ((x.1:Nat):Int)then if 0<=y/\y< ((x.2.2.2.2.2.2.2.2.2.2.1:Nat):Int)then if(((x.2.2.1 (Int.toNat y):Nat):Int)!=((x.2.2.2.2.2.2.2.2.2.2.2.2.1 (Int.toNat y):Nat):Int))=true then dn (.inl ())else if 0<=y/\y< ((x.1:Nat):Int)then if 0<=y/\y< ((x.2.2.2.2.2.2.2.2.2.2.1:Nat):Int)then(c_Same (x.2.2.2.2.2.1 (Int.toNat y),x.2.2.2.2.2.2.1 (Int.toNat y),x.2.2.2.2.2.2.2.1 (Int.toNat y),x.2.2.2.2.2.2.2.2.1 (Int.toNat y),x.2.2.2.2.2.2.2.2.2.1 (Int.toNat y),x.2.2.2.2.2.2.2.2.2.2.2.2.2.2.2.1 (Int.toNat y),x.2.2.2.2.2.2.2.2.2.2.2.2.2.2.2.2.1 (Int.toNat y),x.2.2.2.2.2.2.2.2.2.2.2.2.2.2.2.2.2.1 (Int.toNat y),x.2.2.2.2.2.2.2.2.2.2.2.2.2.2.2.2.2.2.1 (Int.toNat y),x.2.2.2.2.2.2.2.2.2.2.2.2.2.2.2.2.2.2.2 (Int.toNat y))).bind λz74=>if(!z74)=true then dn (.inl ())else(l_SameAll_l2 (y,0)).bind λz83=>Sum.elim (λz83a=>dn (.inl ())) (λz83b=>nx (w (z83b+1))) z83 else none else none else none else none else none else none else dn (.inr ())
theorem iu3{β:Type}(c_Same)(l_SameAll_l2)(x)(y)(nx:ha0->Option β)(dn):pT c_Same l_SameAll_l2 x y nx dn=(pT c_Same l_SameAll_l2 x y (λy=>some (.inl y)) (λz=>some (.inr z))).bind λr=>Sum.elim nx dn r:=by
 unfold pT
 repeat' first|exact n0|refine n1 λ_=>?_|refine n2 ?_ ?_|refine n3 (λ_=>?_) λ_=>?_|rfl
theorem it8(c_Same)(l_SameAll_l2)(x)(y)(lo:f5):n8 E5 (ftb 24 hd0 io1 c_Same ca0) (lt2 2 (λ_=>true) (h9 E5 11 2) (ha2 x) (im8 x) l_SameAll_l2 lo) 0 35 (h9 E5 11 0) (ha1 x y) (KCM [(0,0)] 16)=pT (vf hd0 c_Same) (lf (h9 E5 11 2) (ha2 x) l_SameAll_l2) x y (λy=>lo 0 35 (h9 E5 11 0) (ha1 x y) (KCM [(0,0)] 16)) (λz=>some (.l (im7 x z).1 (im7 x z).2)):=by kernel_rfl
noncomputable def io6(c_Same:dn0->Option dk5)(q:Nat)(x:cR):ha0->Option in4:=lpG (λy=>pT c_Same (he2 c_Same q x) x y (λy=>some (.inl y)) (λz=>some (.inr z))) q
theorem iu8(c_Same)(h_Same:Lw E5 24 hd0 io1 c_Same)(q:Nat)(x:cR):Ll E5 (h9 E5 11 0) (ha1 x) (im7 x) (io6 c_Same q x):=
 SL.lp (LT:=λlo=>(lt2 2 (λ_=>true) (h9 E5 11 2) (ha2 x) (im8 x) (he2 c_Same q x) lo)) (T:=im7 x) (S:=ha1 x) (fk h_Same a8) hX5 (λlo h=>(lk2 (iv0 c_Same h_Same q x) h)) (λlo y=>(it8 c_Same (he2 c_Same q x) x y lo).trans (by rw[is2,iv2];exact iu3 _ _ _ _ _ _)) (λz=>by rcases z with z|z<;>kernel_rfl) q
def in7{β:Type}(c_Same:dn0->Option dk5)(l_SameAll_l0:ha0->Option in4)(x:cR)(dn:ip3->Option β):Option β:=
 if(((x.1:Nat):Int)!=((x.2.2.2.2.2.2.2.2.2.2.1:Nat):Int))=true then dn false else(l_SameAll_l0 (0)).bind λz40=>Sum.elim (λz40a=>dn false) (λz40b=>dn true) z40
theorem jb9{β:Type}(c_Same)(l_SameAll_l0)(x)(dn:ip3->Option β):in7 c_Same l_SameAll_l0 x dn=(in7 c_Same l_SameAll_l0 x some).bind dn:=by
 unfold in7
 repeat' first|exact n0|refine n1 λ_=>?_|refine n2 ?_ ?_|refine n3 (λ_=>?_) λ_=>?_|rfl
theorem jb1(c_Same)(l_SameAll_l0)(x):f7 E5 (ftb 24 hd0 io1 c_Same ca0) (lt2 0 (λ_=>true) (h9 E5 11 0) (ha1 x) (im7 x) l_SameAll_l0 lo0) 11 (iq6 x).1 (iq6 x).2 K=in7 (vf hd0 c_Same) (lf (h9 E5 11 0) (ha1 x) l_SameAll_l0) x (λz=>some (.c (is8 z))):=by kernel_rfl
noncomputable def SameAll(q:Nat)(x:cR):Option ip3:=in7 (Same q) (io6 (Same q) q x) x some
theorem iy1(q:Nat):Lw E5 11 iq6 is8 (SameAll q):=sof hW5 hX5 (fk (iz2 q) a8) (λx=>(lk2 (iu8 (Same q) (iz2 q) q x) cB)) λx=>(jb1 (Same q) (io6 (Same q) q x) x).trans (by rw[is2,iv3,jb9]<;>rfl)
end Go.Proofs.YtjfkkokeegpeiaaDoor
/- Plain laws on bytes: what a range over a string meets. -/
namespace Go.Proofs.Lx
open Go
def j6(g:Int->Bool)(l:List UInt8):Nat:=(l.takeWhile (λb=>g b.toNat)).length
def eo8(g:Int->Bool):Prop:=∀c:Int,128<=c->g c=g 128
theorem cc2(s:ByteArray)(p n:Nat)(h:p<s.size)(hn:1<=n)(hc:∀k,1<=k->k<n->p+k<s.size/\128<=(s.get! (p+k)).toNat):
 1<=n/\p+n<=s.size/\∀j,p<j->j<p+n->128<=(s.get! j).toNat:=by
 refine⟨hn,?_,λj h1 h2=>?_⟩
 ·rcases Nat.lt_or_ge 1 n with hl|hl
  ·have:=(hc (n-1) (by omega) (by omega)).1;omega
  ·omega
 ·have:=(hc (j-p) (by omega) (by omega)).2
  rwa [show p+(j-p)=j by omega]at this
theorem vX(s:ByteArray)(p:Nat)(h:p<s.size):
 1<=(Utf8.decode s p).2/\p+(Utf8.decode s p).2<=s.size/\∀j,p<j->j<p+(Utf8.decode s p).2->128<=(s.get! j).toNat:=by
 have hc:∀k,(decide (p+k<s.size)&&((s.get! (p+k)).toNat/64==2))=true->p+k<s.size/\128<=(s.get! (p+k)).toNat:=by
  intro k hk;simp at hk;omega
 have one:=cc2 s p 1 h (by omega) (λk h1 h2=>by omega);simp only[Utf8.decode];split
 ·exact one
 ·split
  ·rename_i hx;rw[Bool.and_eq_true]at hx;have h1:=hc 1 hx.2;split
   ·exact cc2 s p 2 h (by omega) (λk hk1 hk2=>by obtain rfl:k=1:=(by omega);exact h1)
   ·exact one
  ·split
   ·rename_i hx;rw[Bool.and_eq_true,Bool.and_eq_true]at hx;have h1:=hc 1 hx.1.2;have h2:=hc 2 hx.2;split
    ·refine cc2 s p 3 h (by omega) (λk hk1 hk2=>?_);have:k=1\/k=2:=by omega
     rcases this with rfl|rfl
     ·exact h1
     ·exact h2
    ·exact one
   ·split
    ·rename_i hx;rw[Bool.and_eq_true,Bool.and_eq_true,Bool.and_eq_true]at hx;have h1:=hc 1 hx.1.1.2;have h2:=hc 2 hx.1.2;have h3:=hc 3 hx.2;split
     ·refine cc2 s p 4 h (by omega) (λk hk1 hk2=>?_);have:k=1\/k=2\/k=3:=by omega
      rcases this with rfl|rfl|rfl
      ·exact h1
      ·exact h2
      ·exact h3
     ·exact one
    ·exact one
theorem co4(s:ByteArray)(p:Nat)(h:p<s.size):s.data.toList[p]? =some (s.get! p):=by
 rw[List.getElem?_eq_getElem (by simpa using h)];congr 1;have:=get_at s p h;simp only[Nat.add_zero]at this;rw[this];rfl
theorem sG(s:ByteArray)(g:Int->Bool)(hf:eo8 g)(p:Nat)(h:p<s.size):g ((Utf8.decode s p).1:Int)=g ((s.get! p).toNat:Int):=by
 have e:=get_at s p h;simp only[Nat.add_zero]at e;by_cases ha:(s.get! p).toNat<128
 ·rw[decode_ascii s p h (by rw[<-e];exact ha),<-e]
 ·have hh:=(decode_high s p h (by rw[<-e];omega)).1;rw[hf _ (by omega),hf ((s.get! p).toNat:Int) (by omega)]
theorem iS(s:ByteArray)(p:Nat)(h:p<s.size):s.data.toList.drop p=s.get! p::s.data.toList.drop (p+1):=by
 have hg:=co4 s p h;rw[List.getElem?_eq_some_iff]at hg;obtain⟨hl,he⟩:=hg;rw[List.drop_eq_getElem_cons hl,he]
theorem fv2(s:ByteArray)(g:Int->Bool)(p:Nat)(h:p<s.size)(hg:g ((s.get! p).toNat:Int)=false):j6 g (s.data.toList.drop p)=0:=by
 rw[iS s p h];simp[j6,hg]
theorem fx3(s:ByteArray)(g:Int->Bool)(n:Nat):∀p,p+n<=s.size->(∀j,p<=j->j<p+n->g ((s.get! j).toNat:Int)=true)->j6 g (s.data.toList.drop p)=n+j6 g (s.data.toList.drop (p+n)):=by
 induction n with
 |zero=>intro p _ _;simp
 |succ n ih=>
  intro p h hg;have h0:=hg p (by omega) (by omega);rw[iS s p (by omega)];have:=ih (p+1) (by omega) (λj h1 h2=>hg j (by omega) (by omega));have e:p+(n+1)=p+1+n:=by omega
  rw[e,j6,List.takeWhile_cons,h0];simp only[if_true,List.length_cons];unfold j6 at this;unfold j6;omega
theorem gi3(s:ByteArray)(g:Int->Bool):j6 g (s.data.toList.drop s.size)=0:=by
 rw[List.drop_of_length_le (by simp)];rfl
theorem fo8(s:ByteArray)(g:Int->Bool)(hf:eo8 g)(p:Nat)(h:p<s.size)(hg:g ((Utf8.decode s p).1:Int)=true):
 j6 g (s.data.toList.drop p)=(Utf8.decode s p).2+j6 g (s.data.toList.drop (p+(Utf8.decode s p).2)):=by
 obtain⟨h1,h2,h3⟩:=vX s p h;refine fx3 s g _ p h2 λj hj1 hj2=>?_;rw[sG s g hf p h]at hg;rcases Nat.eq_or_lt_of_le hj1 with rfl|hlt
 ·exact hg
 ·have hb:=h3 j hlt hj2;have hcont:1< (Utf8.decode s p).2:=by omega
  have hhi:128<=(s.get! p).toNat:=by
   rcases Nat.lt_or_ge (s.get! p).toNat 128 with hl|hl
   ·have e:=get_at s p h;simp only[Nat.add_zero]at e;rw[decode_ascii s p h (by rw[<-e];exact hl)]at hcont;simp at hcont
   ·exact hl
  rw[hf _ (by omega)]at hg⊢;exact hg
end Go.Proofs.Lx
/- Plain: which symbol a string begins with. -/
namespace Go.Proofs.Lx
open Go
theorem dM(r:ByteArray)(a b:Nat):(r.extract a b).data.toList=(r.data.toList.drop a).take (b-a):=by
 simp[ByteArray.data_extract,List.extract_eq_take_drop]
def sym1:List UInt8:=[123,125,40,41,61,59,44,58,60,62,43,45,42,47,33,46]
def aj1:List (List UInt8):=[[124,124],[38,38],[60,61],[62,61],[61,61],[33,61]]
def ac8(l:List UInt8):Nat:=
 if 1<l.length/\l.take 2∈aj1 then 2 else cond ((l.head?).any (λb=>sym1.contains b)) 1 0
theorem fj8(l:List UInt8)(c:UInt8):l.contains c=true↔0<=Lib.indexByte l c:=by
 induction l with
 |nil=>simp[Lib.indexByte]
 |cons b l ih=>
  have hg:=Lib.indexByte_ge l c;have e:Lib.indexByte (b::l) c=if b==c then 0 else if Lib.indexByte l c== -1 then-1 else Lib.indexByte l c+1:=rfl
  rw[e,List.contains_cons,Bool.or_eq_true,ih];by_cases hb:b=c
  ·subst hb;simp
  ·have hb':(b==c)=false:=by simpa using hb
   have hc':¬((c==b)=true):=by simpa using λh=>hb h.symm
   simp only[hb',Bool.false_eq_true,if_false,hc',false_or];by_cases hm:Lib.indexByte l c= -1
   ·simp[hm]
   ·have:(Lib.indexByte l c== -1)=false:=by simpa using hm
    simp only[this,Bool.false_eq_true,if_false];omega
theorem gt8{r t:ByteArray}(h1:1<r.size)(ht:t=r.extract 0 2)(hm:t.data.toList∈aj1):ac8 r.data.toList=2:=by
 rw[ht,dM]at hm;simp only[List.drop_zero]at hm;unfold ac8;rw[if_pos ⟨by simpa using h1,hm⟩]
theorem ei6{r:ByteArray}(h0:0<r.size)(hm:¬(1<r.data.toList.length/\r.data.toList.take 2∈aj1)):ac8 r.data.toList=if(0:Int)<=Lib.indexByte sym1 r[0]then 1 else 0:=by
 have hg:=iS r 0 h0;have e:=get_at r 0 h0;simp only[Nat.add_zero]at e;rw[List.drop_zero,e]at hg;unfold ac8;rw[if_neg hm,hg];simp only[List.head?_cons,Option.any_some];by_cases h:(0:Int)<=Lib.indexByte sym1 r[0]
 ·rw[if_pos h,(fj8 _ _).2 h];rfl
 ·rw[if_neg h,Bool.eq_false_iff.2 (λh'=>h ((fj8 _ _).1 h'))];rfl
theorem ef0{r t:ByteArray}(ht:t=r.extract 0 2)(hm:∀l∈aj1,t≠⟨l.toArray⟩):¬(1<r.data.toList.length/\r.data.toList.take 2∈aj1):=by
 rintro⟨_,h⟩;refine hm _ h ?_;rw[ht];have:=dM r 0 2;simp only[List.drop_zero]at this;rw[<-this]
end Go.Proofs.Lx
/- Plain: the tokens of a source, as a relation. -/
namespace Go.Proofs.Lx
open Go
structure Tkn where
 k:Int
 a:Int
 t:ByteArray
 n:Int
def Tkn.cells(x:Tkn):List Value:=[.int .i64 x.k,.int .i64 x.a,.string x.t,.int .i64 x.n]
def p8(c:Int):Bool:=decide (97<=c/\c<=122)||decide (65<=c/\c<=90)
def l6(c:Int):Bool:=decide (48<=c/\c<=57)
def bD(c:Int):Bool:=decide (c=32\/c=9\/c=10\/c=13)
def aE(c:Int):Bool:=p8 c||l6 c
def bh8:Tkn:=⟨0,0,⟨#[]⟩,0⟩
def bc0(n:Int)(l:List UInt8):Int:=l.foldl (λn b=>10*n+((b.toNat:Int)-48)) n
def by5(r:ByteArray):Tkn×Int:=if 12<j6 aE r.data.toList then(bh8,2)else(⟨1,0,r.extract 0 (j6 aE r.data.toList),0⟩,0)
def rO(t:ByteArray):Tkn×Int:=
 if 1<t.size/\t.data.toList[0]? =some 48 then(bh8,11)
 else if bc0 0 t.data.toList>2147483647 then(bh8,5)
 else(⟨2,0,t,bc0 0 t.data.toList⟩,0)
def lD(r:ByteArray):Tkn×Int:=if ac8 r.data.toList=0 then(bh8,11)else(⟨3,0,r.extract 0 (ac8 r.data.toList),0⟩,0)
def wM(s:ByteArray)(p:Nat):Tkn×Int:=
 if p8 (s.get! p).toNat then by5 (s.extract p s.size)
 else if l6 (s.get! p).toNat then rO ((s.extract p s.size).extract 0 (j6 l6 (s.extract p s.size).data.toList))
 else lD (s.extract p s.size)
def qV(c:Int):Bool:= !(c==10)
inductive Lex(s:ByteArray):Nat->List Tkn->List Tkn×Nat×Int->Prop where
 |fin {p:Nat} {acc:List Tkn}:s.size<=p->Lex s p acc (acc++[⟨0,s.size,⟨#[]⟩,0⟩],0,0)
 |white {p:Nat} {acc:List Tkn} {r:List Tkn×Nat×Int}:p<s.size->bD (s.get! p).toNat=true->Lex s (p+1) acc r->Lex s p acc r
 |hash {p:Nat} {acc:List Tkn} {r:List Tkn×Nat×Int}:p<s.size->(s.get! p).toNat=35->Lex s (p+j6 qV (s.data.toList.drop p)) acc r->Lex s p acc r
 |tok {p:Nat} {acc:List Tkn} {r:List Tkn×Nat×Int} {x:Tkn}:p<s.size->bD (s.get! p).toNat=false->(s.get! p).toNat≠35->wM s p=(x,0)->Lex s (p+x.t.size) (acc++[{x with a:=p}]) r->Lex s p acc r
 |err {p:Nat} {acc:List Tkn} {x:Tkn} {e:Int}:p<s.size->bD (s.get! p).toNat=false->(s.get! p).toNat≠35->wM s p=(x,e)->e≠0->Lex s p acc ([],p,e)
def Bd(s:ByteArray)(p d:Nat):Prop:=(∀j,p<=j->j<d->(s.get! j).toNat<128)\/d=s.size\/(d<s.size/\(s.get! d).toNat<128)
theorem Bd.step{s:ByteArray}{p d:Nat}(h:Bd s p d)(hp:p<d)(hd:d<=s.size):p+(Utf8.decode s p).2<=d/\Bd s (p+(Utf8.decode s p).2) d:=by
 have hl:=vX s p (by omega);refine⟨?_,?_⟩
 ·rcases h with h|h| ⟨h1,h2⟩
  ·have h0:=h p (Nat.le_refl _) hp;have e:=get_at s p (by omega);simp only[Nat.add_zero]at e;rw[decode_ascii s p (by omega) (by rw[<-e];exact h0)];exact hp
  ·omega
  ·rcases Nat.lt_or_ge d (p+(Utf8.decode s p).2)with hlt|hge
   ·have:=hl.2.2 d hp hlt;omega
   ·exact hge
 ·exact h.imp (λh j hj1 hj2=>h j (by omega) hj2) id
theorem Bd.refl(s:ByteArray)(p d:Nat)(h:d<=p):Bd s p d:=.inl λj h1 h2=>by omega
end Go.Proofs.Lx
/- Plain: what a token's text is. -/
namespace Go.Proofs.Lx
open Go
theorem cg7(g:Int->Bool)(l:List UInt8):j6 g l<=l.length:=(List.takeWhile_sublist _).length_le
theorem bt7(g:Int->Bool)(l:List UInt8):∀j,j<j6 g l->∃b,l[j]? =some b/\g b.toNat=true:=by
 induction l with
 |nil=>intro j h;simp[j6]at h
 |cons b l ih=>
  intro j h;cases hb:g b.toNat
  ·simp[j6,List.takeWhile_cons,hb]at h
  ·cases j with
   |zero=>exact⟨b,rfl,hb⟩
   |succ j=>
    have:j<j6 g l:=by
     simp only[j6,List.takeWhile_cons,hb,if_true,List.length_cons]at h⊢;omega
    obtain⟨c,h1,h2⟩:=ih j this;exact⟨c,by simpa using h1,h2⟩
theorem dc1(g:Int->Bool)(b:UInt8)(l:List UInt8)(h:g b.toNat=true):1<=j6 g (b::l):=by
 simp[j6,List.takeWhile_cons,h]
theorem an2(s:ByteArray)(p:Nat)(h:p<=s.size):(s.extract p s.size).data.toList=s.data.toList.drop p:=by
 rw[dM,List.take_of_length_le (by simp)]
theorem gi1(s:ByteArray)(p:Nat):(s.extract p s.size).size=s.size-p:=by simp
theorem aB{a b:ByteArray}(h:a.data.toList=b.data.toList):a=b:=by
 obtain⟨⟨a⟩⟩:=a;obtain⟨⟨b⟩⟩:=b;simp only at h;rw[h]
theorem hg9(s:ByteArray)(p n:Nat)(h:p+n<=s.size):(s.extract p s.size).extract 0 n=s.extract p (p+n):=by
 have e:((s.extract p s.size).extract 0 n).data.toList=(s.extract p (p+n)).data.toList:=by
  rw[dM,dM,dM,List.drop_zero,Nat.sub_zero,List.take_take,Nat.min_eq_left (by omega),Nat.add_sub_cancel_left]
 exact aB e
theorem gs2(s:ByteArray)(j:Nat)(b:UInt8)(h:s.data.toList[j]? =some b):j<s.size/\s.get! j=b:=by
 have hl:j<s.size:=by
  rw[List.getElem?_eq_some_iff]at h;obtain⟨h,_⟩:=h;simpa using h
 rw[co4 s j hl]at h;exact⟨hl,by injection h⟩
theorem fs7(c:Int)(h:aE c=true):c<128:=by simp[aE,p8,l6]at h;omega
theorem ge3(c:Int)(h:l6 c=true):c<128:=by simp[l6]at h;omega
theorem gv9{s:ByteArray}{p:Nat}(g:Int->Bool)(hg:∀c,g c=true->c<128)(hp:p<s.size)(h0:g (s.get! p).toNat=true):
 1<=j6 g (s.data.toList.drop p)/\p+j6 g (s.data.toList.drop p)<=s.size/\∀j,p<=j->j<p+j6 g (s.data.toList.drop p)->(s.get! j).toNat<128:=by
 refine⟨?_,?_,?_⟩
 ·rw[iS s p hp];exact dc1 g _ _ h0
 ·have:=cg7 g (s.data.toList.drop p);simp at this;omega
 ·intro j h1 h2;obtain⟨b,hb,hgb⟩:=bt7 g (s.data.toList.drop p) (j-p) (by omega);rw[List.getElem?_drop,show p+(j-p)=j by omega]at hb;rw[(gs2 s j b hb).2];have:=hg _ hgb;omega
theorem id6{s:ByteArray}{p:Nat}(hp:p<s.size)(hn:ac8 (s.data.toList.drop p)≠0):
 1<=ac8 (s.data.toList.drop p)/\p+ac8 (s.data.toList.drop p)<=s.size/\∀j,p<=j->j<p+ac8 (s.data.toList.drop p)->(s.get! j).toNat<128:=by
 unfold ac8 at hn⊢;by_cases h2:1< (s.data.toList.drop p).length/\(s.data.toList.drop p).take 2∈aj1
 ·rw[if_pos h2];obtain⟨hl,hm⟩:=h2;have hl':p+2<=s.size:=by simp at hl;omega
  refine⟨by omega,hl',λj h1 h2=>?_⟩;rw[iS s p hp,iS s (p+1) (by omega)]at hm;simp only[List.take_succ_cons,List.take_zero,aj1,List.mem_cons,List.cons.injEq,and_true,List.not_mem_nil,or_false]at hm;have hj:j=p\/j=p+1:=by omega
  rcases hj with rfl|rfl<;>rcases hm with h|h|h|h|h|h<;>simp[h.1,h.2]
 ·rw[if_neg h2]at hn⊢;rw[iS s p hp]at hn⊢;simp only[List.head?_cons,Option.any_some]at hn⊢;cases hc:sym1.contains (s.get! p)
  ·rw[hc]at hn;exact absurd rfl hn
  ·simp only[cond_true];refine⟨by omega,by omega,λj h1 h2=>?_⟩;obtain rfl:j=p:=by omega
   have hm:=List.contains_iff_mem.1 hc;simp only[sym1,List.mem_cons,List.not_mem_nil,or_false]at hm;rcases hm with h|h|h|h|h|h|h|h|h|h|h|h|h|h|h|h<;>simp[h]
theorem at4{s:ByteArray}{p:Nat}{x:Tkn}(hp:p<s.size)(h:wM s p=(x,0)):
 x.a=0/\1<=x.t.size/\p+x.t.size<=s.size/\x.t=s.extract p (p+x.t.size)/\∀j,p<=j->j<p+x.t.size->(s.get! j).toNat<128:=by
 have hsz:∀n,p+n<=s.size->(s.extract p (p+n)).size=n:=λn hn=>by simp;omega
 have fin:∀n,1<=n->p+n<=s.size->(∀j,p<=j->j<p+n->(s.get! j).toNat<128)->∀y:Tkn,y.a=0->y.t=(s.extract p s.size).extract 0 n->
  y.a=0/\1<=y.t.size/\p+y.t.size<=s.size/\y.t=s.extract p (p+y.t.size)/\∀j,p<=j->j<p+y.t.size->(s.get! j).toNat<128:=by
  intro n h1 h2 h3 y ha hy;rw[hg9 s p n h2]at hy;rw[hy,hsz n h2];exact⟨ha,h1,h2,rfl,h3⟩
 unfold wM at h;by_cases hl:p8 (s.get! p).toNat=true
 ·rw[if_pos hl]at h;unfold by5 at h;by_cases h12:12<j6 aE (s.extract p s.size).data.toList
  ·rw[if_pos h12]at h;simp at h
  ·rw[if_neg h12,an2 s p (by omega)]at h;have hw:aE (s.get! p).toNat=true:=by simp[aE,hl]
   obtain⟨h1,h2,h3⟩:=gv9 aE fs7 hp hw;simp only[Prod.mk.injEq,and_true]at h;subst h;exact fin _ h1 h2 h3 _ rfl rfl
 ·rw[if_neg hl]at h;by_cases hd:l6 (s.get! p).toNat=true
  ·rw[if_pos hd,an2 s p (by omega)]at h;obtain⟨h1,h2,h3⟩:=gv9 l6 ge3 hp hd;unfold rO at h;split at h
   ·simp at h
   ·split at h
    ·simp at h
    ·simp only[Prod.mk.injEq,and_true]at h;subst h;exact fin _ h1 h2 h3 _ rfl rfl
  ·rw[if_neg hd]at h;unfold lD at h;rw[an2 s p (by omega)]at h;by_cases h0:ac8 (s.data.toList.drop p)=0
   ·rw[if_pos h0]at h;simp at h
   ·rw[if_neg h0]at h;obtain⟨h1,h2,h3⟩:=id6 hp h0;simp only[Prod.mk.injEq,and_true]at h;subst h;exact fin _ h1 h2 h3 _ rfl rfl
theorem fm2 {s : ByteArray} {p : Nat} (hp : p < s.size) (h : (s.get! p).toNat = 35) :
 1 <= j6 qV (s.data.toList.drop p) /\ p + j6 qV (s.data.toList.drop p) <= s.size /\ Bd s p (p + j6 qV (s.data.toList.drop p)) := by
 have h1 : 1 <= j6 qV (s.data.toList.drop p) := by rw [iS s p hp]; exact dc1 _ _ _ (by rw [h]; rfl)
 have h2 : p + j6 qV (s.data.toList.drop p) <= s.size := by
  have := cg7 qV (s.data.toList.drop p);simp at this;omega
 refine ⟨h1, h2, ?_⟩;rcases Nat.eq_or_lt_of_le h2 with he | hlt
 ·exact .inr (.inl he)
 ·right; right;refine ⟨hlt, ?_⟩
  -- the byte behind the pL is a line feed
  have key : ∀ (l : List UInt8), j6 qV l < l.length -> l[j6 qV l]? = some 10 := by
   intro l
   induction l with
   | nil => intro h; simp at h
   | cons b l ih =>
    intro h;cases hb : qV b.toNat
    ·have : b.toNat = 10 := by simp [qV] at hb; omega
     have hb10 : b = 10 := UInt8.toNat_inj.1 (by simpa using this);simp [j6, hb10, qV]
    ·have e : j6 qV (b :: l) = j6 qV l + 1 := by simp [j6, List.takeWhile_cons, hb]
     rw [e] at h ⊢;simpa using ih (by simpa using h)
  have := key (s.data.toList.drop p) (by simp; omega);rw [List.getElem?_drop] at this;rw [(gs2 s _ _ this).2];decide
end Go.Proofs.Lx
/- Plain: Lex is a function; it is reckoned. -/
namespace Go.Proofs.Lx
open Go
theorem hi7{s:ByteArray}{p:Nat}{acc:List Tkn}{r r':List Tkn×Nat×Int}(h:Lex s p acc r):Lex s p acc r'->r=r':=by
 induction h with
 |fin hp=>intro h';cases h'<;>first|rfl|omega
 |white hp hw _ ih=>
  intro h';cases h' with
  |fin h=>omega
  |white _ _ h=>exact ih h
  |hash _ h35 _=>rw[h35]at hw;exact absurd hw (by decide)
  |tok _ h _ _ _=>rw[hw]at h;cases h
  |err _ h _ _ _=>rw[hw]at h;cases h
 |hash hp h35 _ ih=>
  intro h';cases h' with
  |fin h=>omega
  |white _ hw _=>rw[h35]at hw;exact absurd hw (by decide)
  |hash _ _ h=>exact ih h
  |tok _ _ h _ _=>exact absurd h35 h
  |err _ _ h _ _=>exact absurd h35 h
 |tok hp hw h35 ht _ ih=>
  intro h';cases h' with
  |fin h=>omega
  |white _ h _=>rw[hw]at h;cases h
  |hash _ h _=>exact absurd h h35
  |tok _ _ _ h h2=>
   rw[ht]at h;simp only[Prod.mk.injEq,and_true]at h;subst h;exact ih h2
  |err _ _ _ h he=>
   rw[ht]at h;simp only[Prod.mk.injEq]at h;exact absurd h.2.symm he
 |err hp hw h35 ht he=>
  intro h';cases h' with
  |fin h=>omega
  |white _ h _=>rw[hw]at h;cases h
  |hash _ h _=>exact absurd h h35
  |tok _ _ _ h _=>
   rw[ht]at h;simp only[Prod.mk.injEq]at h;exact absurd h.2 he
  |err _ _ _ h _=>
   rw[ht]at h;simp only[Prod.mk.injEq]at h;rw[h.2]
def gb4(s:ByteArray):Nat->Nat->List Tkn->Option (List Tkn×Nat×Int)
 |0,_,_=>none
 |f+1,p,acc=>
  if p<s.size then
   if bD (s.get! p).toNat=true then gb4 s f (p+1) acc
   else if(s.get! p).toNat=35 then gb4 s f (p+j6 qV (s.data.toList.drop p)) acc
   else if(wM s p).2=0 then gb4 s f (p+(wM s p).1.t.size) (acc++[{(wM s p).1 with a:=p}])
   else some ([],p,(wM s p).2)
  else some (acc++[⟨0,s.size,⟨#[]⟩,0⟩],0,0)
theorem dm7{s:ByteArray}:∀(f p:Nat) (acc:List Tkn) (r:List Tkn×Nat×Int),gb4 s f p acc=some r->Lex s p acc r:=by
 intro f
 induction f with
 |zero=>intro p acc r h;simp[gb4]at h
 |succ f ih=>
  intro p acc r h;rw[gb4]at h;by_cases hp:p<s.size
  ·rw[if_pos hp]at h;by_cases hw:bD (s.get! p).toNat=true
   ·rw[if_pos hw]at h;exact .white hp hw (ih _ _ _ h)
   ·rw[if_neg hw]at h;have hw':bD (s.get! p).toNat=false:=by simpa using hw
    by_cases h35:(s.get! p).toNat=35
    ·rw[if_pos h35]at h;exact .hash hp h35 (ih _ _ _ h)
    ·rw[if_neg h35]at h;by_cases ht:(wM s p).2=0
     ·rw[if_pos ht]at h;exact .tok (x:=(wM s p).1) hp hw' h35 (Prod.ext rfl ht) (ih _ _ _ h)
     ·rw[if_neg ht,Option.some.injEq]at h;subst h;exact .err (x:=(wM s p).1) hp hw' h35 rfl ht
  ·rw[if_neg hp,Option.some.injEq]at h;subst h;exact .fin (by omega)
def fN(s:ByteArray)(r:List Tkn×Nat×Int):Prop:=(4000<s.size/\r=([],4000,2))\/(s.size<=4000/\Lex s 0 [] r)
theorem wT{s:ByteArray}{r r':List Tkn×Nat×Int}(h:fN s r)(h':fN s r'):r=r':=by
 rcases h with⟨h1,rfl⟩ | ⟨h1,h2⟩<;>rcases h' with⟨h3,rfl⟩ | ⟨h3,h4⟩
 ·rfl
 ·omega
 ·omega
 ·exact hi7 h2 h4
def ex1:List Tkn:=[⟨1,0,⟨#[120]⟩,0⟩,⟨3,1,⟨#[60,61]⟩,0⟩,⟨2,3,⟨#[49,48]⟩,10⟩,⟨0,9,⟨#[]⟩,0⟩]
end Go.Proofs.Lx
/- Plain: the parser, as a function of tokens. -/
namespace Go.Proofs.Lx
open Go
abbrev sOr:ByteArray:=⟨#[124,124]⟩
abbrev gj9:ByteArray:=⟨#[38,38]⟩
abbrev sLt:ByteArray:=⟨#[60]⟩
abbrev sLe:ByteArray:=⟨#[60,61]⟩
abbrev sGt:ByteArray:=⟨#[62]⟩
abbrev sGe:ByteArray:=⟨#[62,61]⟩
abbrev sEq:ByteArray:=⟨#[61,61]⟩
abbrev sNe:ByteArray:=⟨#[33,61]⟩
abbrev ib6:ByteArray:=⟨#[43]⟩
abbrev sW:ByteArray:=⟨#[45]⟩
abbrev hv0:ByteArray:=⟨#[42]⟩
abbrev hw8:ByteArray:=⟨#[47]⟩
abbrev oH:ByteArray:=⟨#[33]⟩
abbrev nG:ByteArray:=⟨#[40]⟩
abbrev jS:ByteArray:=⟨#[41]⟩
abbrev cv8:ByteArray:=⟨#[123]⟩
abbrev dk1:ByteArray:=⟨#[125]⟩
abbrev cm8:ByteArray:=⟨#[61]⟩
abbrev aj6:ByteArray:=⟨#[59]⟩
abbrev mN:ByteArray:=⟨#[44]⟩
abbrev cl8:ByteArray:=⟨#[58]⟩
abbrev eo6:ByteArray:=⟨#[46]⟩
abbrev w_procedure:ByteArray:=⟨#[112,114,111,99,101,100,117,114,101]⟩
abbrev w_let:ByteArray:=⟨#[108,101,116]⟩
abbrev w_if:ByteArray:=⟨#[105,102]⟩
abbrev w_else:ByteArray:=⟨#[101,108,115,101]⟩
abbrev w_repeat:ByteArray:=⟨#[114,101,112,101,97,116]⟩
abbrev be2:ByteArray:=⟨#[119,97,105,116]⟩
abbrev w_await:ByteArray:=⟨#[97,119,97,105,116]⟩
abbrev w_within:ByteArray:=⟨#[119,105,116,104,105,110]⟩
abbrev qO:ByteArray:=⟨#[114,101,113,117,105,114,101]⟩
abbrev rI:ByteArray:=⟨#[112,111,105,110,116]⟩
abbrev w_use:ByteArray:=⟨#[117,115,101]⟩
abbrev w_for:ByteArray:=⟨#[102,111,114]⟩
abbrev w_send:ByteArray:=⟨#[115,101,110,100]⟩
abbrev yW:ByteArray:=⟨#[107,101,101,112]⟩
abbrev yV:ByteArray:=⟨#[101,109,105,116]⟩
abbrev uE:ByteArray:=⟨#[97,98,111,114,116]⟩
abbrev w_true:ByteArray:=⟨#[116,114,117,101]⟩
abbrev w_false:ByteArray:=⟨#[102,97,108,115,101]⟩
abbrev ch7:ByteArray:=⟨#[116,108,109]⟩
def keywords:List ByteArray:=[w_procedure,w_let,w_if,w_else,w_repeat,be2,w_await,w_within,qO,rI,w_use,w_for,w_send,yW,yV,uE,w_true,w_false,ch7]
def ad0:List ByteArray:=[⟨#[74]⟩,⟨#[107,74]⟩,⟨#[87,104]⟩,⟨#[66]⟩,⟨#[107,66]⟩,⟨#[115]⟩,⟨#[109,105,110]⟩,⟨#[104]⟩,⟨#[100,101,103]⟩,⟨#[75]⟩,⟨#[87]⟩,⟨#[107,87]⟩,⟨#[66,112,115]⟩]
def inP(l:List ByteArray)(x:ByteArray):Bool:=l.any λv=>decide (v=x)
theorem inP_iff{l:List ByteArray}{x:ByteArray}:inP l x=true↔x∈l:=by
 simp only[inP,List.any_eq_true,decide_eq_true_eq];exact⟨λ⟨v,h,e⟩=>e▸h,λh=>⟨x,h,rfl⟩⟩
def io4(s:ByteArray):Bool:=inP keywords s
def vW(s:ByteArray):Bool:=inP ad0 s
def j8(s:ByteArray):Nat:=
 if s=sOr then 1 else if s=gj9 then 2 else if s=sLt\/s=sLe\/s=sGt\/s=sGe\/s=sEq\/s=sNe then 4 else if s=ib6\/s=sW then 5 else if s=hv0\/s=hw8 then 6 else 0
inductive Tr where
 |node (k n:Int) (s:ByteArray) (l:List Tr):Tr
structure PS where
 p:Nat
 o:Nat
 vs:List ByteArray
inductive PR(α:Type) where
 |ok (x:α) (s:PS)
 |err (p:Nat) (c:Int)
 |out
def PR.bind{α β:Type}(r:PR α)(f:α->PS->PR β):PR β:=match r with
 | .ok x s=>f x s
 | .err p c=>.err p c
 | .out=>.out
section
variable (T:Nat->Tkn)
def adv(s:PS):PS:={s with p:=s.p+1}
def isP(w:ByteArray)(s:PS):Bool:=decide ((T s.p).t=w)
def y7(w:ByteArray)(s:PS):PR Unit:=if isP T w s then .ok () (adv s)else .err s.p 11
def eG(w:ByteArray)(s:PS):PR Unit:=if isP T w s then(if s.o=12 then .err s.p 2 else .ok () {s with p:=s.p+1,o:=s.o+1})else .err s.p 11
def lI(s:PS):PS:={s with o:=s.o-1}
def fD(s:PS):PR ByteArray:=if(T s.p).k≠1\/io4 (T s.p).t=true then .err s.p 11 else .ok (T s.p).t (adv s)
def zL(s:PS):PR ByteArray:=(fD T s).bind λx s'=>
 if inP s.vs x=true then .err s.p 4 else if s.vs.length=12 then .err s.p 2 else .ok x {s' with vs:=s.vs++[x]}
def tB(lo hi:Int)(s:PS):PR Int:=if(T s.p).k≠2 then .err s.p 11 else if(T s.p).n<lo\/hi< (T s.p).n then .err s.p 5 else .ok (T s.p).n (adv s)
def tA(s:PS):PR Tr:=(tB T 0 2147483647 s).bind λn s'=>
 if(T s'.p).k=1/\vW (T s'.p).t=true then .ok (.node 15 n (T s'.p).t []) (adv s')else .ok (.node 15 n ⟨#[]⟩ []) s'
mutual
def o9:Nat->Nat->PS->PR Tr
 |0,_,_=>.out
 |f+1,lv,s=>
  if lv=3/\isP T oH s=true then fQ f oH 3 s
  else if lv=7/\isP T sW s=true then fQ f sW 7 s
  else if lv=8 then jX f s
  else(o9 f (lv+1) s).bind λn s'=>mP f lv n s'
def mP:Nat->Nat->Tr->PS->PR Tr
 |0,_,_,_=>.out
 |f+1,lv,n,s=>
  if j8 (T s.p).t=lv/\(T s.p).k=3 then
   (o9 f (lv+1) (adv s)).bind λm s'=>if lv=4 then .ok (.node 20 0 (T s.p).t [n,m]) s' else mP f lv (.node 20 0 (T s.p).t [n,m]) s'
  else .ok n s
def fQ:Nat->ByteArray->Nat->PS->PR Tr
 |0,_,_,_=>.out
 |f+1,w,lv,s=>(eG T w s).bind λ_ s1=>(o9 f lv s1).bind λn s2=>.ok (.node 19 0 w [n]) (lI s2)
def jX:Nat->PS->PR Tr
 |0,_=>.out
 |f+1,s=>
  if(T s.p).k=2 then tA T s
  else if isP T w_true s=true then .ok (.node 16 1 ⟨#[]⟩ []) (adv s)
  else if isP T w_false s=true then .ok (.node 16 0 ⟨#[]⟩ []) (adv s)
  else if isP T ch7 s=true then(y7 T eo6 (adv s)).bind λ_ s1=>(fD T s1).bind λx s2=>.ok (.node 18 0 x []) s2
  else if isP T nG s=true then(eG T nG s).bind λ_ s1=>(o9 f 1 s1).bind λn s2=>(y7 T jS s2).bind λ_ s3=>.ok n (lI s3)
  else(fD T s).bind λx s1=>.ok (.node 17 0 x []) s1
end
def endP(n:Tr)(s:PS):PR Tr:=(y7 T aj6 s).bind λ_ s'=>.ok n s'
def el7(f:Nat)(k:Int)(x:ByteArray)(s:PS):PR Tr:=(y7 T cm8 s).bind λ_ s1=>(o9 T f 1 s1).bind λn s2=>endP T (.node k 0 x [n]) s2
def oneP(f:Nat)(k:Int)(s:PS):PR Tr:=(o9 T f 1 s).bind λn s2=>endP T (.node k 0 ⟨#[]⟩ [n]) s2
def ga8(k:Int)(s:PS):PR Tr:=(tA T s).bind λn s2=>endP T (.node k 0 ⟨#[]⟩ [n]) s2
def dn2(f:Nat)(s:PS):PR Tr:=(o9 T f 1 s).bind λc s1=>(y7 T w_within s1).bind λ_ s2=>(tA T s2).bind λn s3=>endP T (.node 6 0 ⟨#[]⟩ [c,n]) s3
def fu2(k hi:Int)(s:PS):PR Tr:=(tB T 0 hi s).bind λn s1=>endP T (.node k n ⟨#[]⟩ []) s1
def fq6(k:Int)(w:ByteArray)(s:PS):PR Tr:=(tB T 0 7 s).bind λn s1=>(y7 T w s1).bind λ_ s2=>(tA T s2).bind λm s3=>endP T (.node k n ⟨#[]⟩ [m]) s3
mutual
def bC:Nat->PS->PR Tr
 |0,_=>.out
 |f+1,s=>(eG T cv8 s).bind λ_ s1=>(dZ f s1).bind λl s2=>.ok (.node 14 0 ⟨#[]⟩ l) (lI s2)
def dZ:Nat->PS->PR (List Tr)
 |0,_=>.out
 |f+1,s=>if isP T dk1 s=true then .ok [] (adv s)else(xQ f s).bind λn s1=>(dZ f s1).bind λl s2=>.ok (n::l) s2
def xQ:Nat->PS->PR Tr
 |0,_=>.out
 |f+1,s=>
  if isP T w_let s=true then(zL T (adv s)).bind λx s1=>el7 T f 1 x s1
  else if isP T w_if s=true then(o9 T f 1 (adv s)).bind λc s1=>(bC f s1).bind λy s2=>
   if isP T w_else s2=true then(bC f (adv s2)).bind λn s3=>.ok (.node 3 0 ⟨#[]⟩ [c,y,n]) s3 else .ok (.node 3 0 ⟨#[]⟩ [c,y,.node 14 0 ⟨#[]⟩ []]) s2
  else if isP T w_repeat s=true then(tB T 1 100 (adv s)).bind λn s1=>(bC f s1).bind λy s2=>.ok (.node 4 n ⟨#[]⟩ [y]) s2
  else if isP T w_await s=true then dn2 T f (adv s)
  else if isP T be2 s=true then ga8 T 5 (adv s)
  else if isP T yW s=true then ga8 T 11 (adv s)
  else if isP T qO s=true then oneP T f 7 (adv s)
  else if isP T rI s=true then oneP T f 8 (adv s)
  else if isP T w_use s=true then fq6 T 9 w_for (adv s)
  else if isP T w_send s=true then fq6 T 10 mN (adv s)
  else if isP T yV s=true then fu2 T 12 99 (adv s)
  else if isP T uE s=true then fu2 T 13 999 (adv s)
  else(fD T s).bind λx s1=>el7 T f 2 x s1
end
structure Prm where
 x:ByteArray
 u:ByteArray
structure Prc where
 x:ByteArray
 ps:List Prm
 b:Tr
def ga3(s:PS):PR Prm:=(zL T s).bind λx s1=>
 if isP T cl8 s1=true then
  (if(T (s1.p+1)).k≠1 then .err (s1.p+1) 11 else if vW (T (s1.p+1)).t=false then .err (s1.p+1) 10 else .ok ⟨x,(T (s1.p+1)).t⟩ (adv (adv s1)))
 else .ok ⟨x,⟨#[]⟩⟩ s1
def cf6:Nat->PS->PR (List Prm)
 |0,_=>.out
 |f+1,s=>(ga3 T s).bind λx s1=>if isP T mN s1=true then(cf6 f (adv s1)).bind λl s2=>.ok (x::l) s2 else(y7 T jS s1).bind λ_ s2=>.ok [x] s2
def mC(f:Nat)(s:PS):PR (List Prm):=(y7 T nG s).bind λ_ s1=>if isP T jS s1=true then .ok [] (adv s1)else cf6 T f s1
def aj7(f:Nat)(pr:List ByteArray)(s:PS):PR Prc:=(y7 T w_procedure s).bind λ_ s1=>(fD T s1).bind λx s2=>
 if inP pr x=true then .err s1.p 4 else(mC T f {s2 with vs:=[]}).bind λl s3=>(bC T f s3).bind λb s4=>.ok ⟨x,l,b⟩ s4
def s5:Nat->List ByteArray->PS->PR (List Prc)
 |0,_,_=>.out
 |f+1,pr,s=>if(T s.p).k=0 then .ok [] s else(aj7 T f pr s).bind λx s1=>(s5 f (pr++[x.x]) s1).bind λl s2=>.ok (x::l) s2
end
end Go.Proofs.Lx
/- Plain: a word between spaces in a list of words. -/
namespace Go.Proofs.Lx
open Go
theorem dd5(s sub:List UInt8):Lib.contains s sub=true↔∃a b,s=a++(sub++b):=by
 unfold Lib.contains;rw[decide_eq_true_eq];constructor
 ·intro h;rcases Lib.index_spec s sub with⟨h1,_⟩ | ⟨i,h1,h2,h3,_⟩
  ·omega
  ·unfold Lib.occAt at h3;obtain⟨b,hb⟩:=List.isPrefixOf_iff_prefix.1 h3;exact⟨s.take i,b,by rw[hb,List.take_append_drop]⟩
 ·rintro⟨a,b,rfl⟩;rcases Lib.index_spec (a++(sub++b)) sub with⟨h1,h2⟩ | ⟨i,h1,_⟩
  ·have:=h2 a.length (by simp);unfold Lib.occAt at this;rw[List.drop_left]at this;have h3:sub.isPrefixOf (sub++b)=true:=List.isPrefixOf_iff_prefix.2 ⟨b,rfl⟩;rw[h3]at this;cases this
  ·omega
def ae2(ws:List (List UInt8)):List UInt8:=ws.flatMap λw=>w++[32]
theorem dt2{w t a b:List UInt8}(hw:∀c∈w,c≠32)(ht:∀c∈t,c≠32)(h:w++32::a=t++32::b):w=t/\a=b:=by
 induction w generalizing t with
 |nil=>
  cases t with
  |nil=>simp only[List.nil_append,List.cons.injEq,true_and]at h;exact⟨rfl,h⟩
  |cons c t=>simp only[List.nil_append,List.cons_append,List.cons.injEq]at h;exact absurd h.1.symm (ht c (.head _))
 |cons c w ih=>
  cases t with
  |nil=>simp only[List.nil_append,List.cons_append,List.cons.injEq]at h;exact absurd h.1 (hw c (.head _))
  |cons d t=>
   simp only[List.cons_append,List.cons.injEq]at h;obtain⟨h1,h2⟩:=ih (λc hc=>hw c (.tail _ hc)) (λc hc=>ht c (.tail _ hc)) h.2;exact⟨by rw[h.1,h1],h2⟩
theorem ev8{w x a z:List UInt8}(hw:∀c∈w,c≠32)(h:w++32::x=a++32::z):a=w/\x=z\/∃a',a=w++32::a'/\x=a'++32::z:=by
 induction w generalizing a with
 |nil=>
  cases a with
  |nil=>simp only[List.nil_append,List.cons.injEq,true_and]at h;exact .inl ⟨rfl,h⟩
  |cons c a=>simp only[List.nil_append,List.cons_append,List.cons.injEq]at h;exact .inr ⟨a,by rw[h.1];rfl,h.2⟩
 |cons c w ih=>
  cases a with
  |nil=>simp only[List.nil_append,List.cons_append,List.cons.injEq]at h;exact absurd h.1 (hw c (.head _))
  |cons d a=>
   simp only[List.cons_append,List.cons.injEq]at h;rcases ih (λc hc=>hw c (.tail _ hc)) h.2 with⟨h1,h2⟩ | ⟨a',h1,h2⟩
   ·exact .inl ⟨by rw[h.1,h1],h2⟩
   ·exact .inr ⟨a',by rw[h.1,h1];rfl,h2⟩
theorem ci0{t:List UInt8}(ht:∀c∈t,c≠32):∀{ws:List (List UInt8)},(∀w∈ws,∀c∈w,c≠32)->((∃a b,32::ae2 ws=a++32::(t++32::b))↔t∈ws)
 | [],_=>by
  simp only[ae2,List.flatMap_nil,List.not_mem_nil,iff_false];rintro⟨a,b,h⟩;have:=congrArg List.length h;simp at this;omega
 |w::ws,hw=>by
  have ih:=ci0 ht (ws:=ws) λw h=>hw w (.tail _ h);have e:ae2 (w::ws)=w++32::ae2 ws:=by simp[ae2]
  rw[e,List.mem_cons,<-ih];constructor
  ·rintro⟨a,b,h⟩;cases a with
   |nil=>
    simp only[List.nil_append,List.cons.injEq,true_and]at h;exact .inl (dt2 (hw w (.head _)) ht h).1.symm
   |cons c a=>
    simp only[List.cons_append,List.cons.injEq]at h;rcases ev8 (hw w (.head _)) h.2 with⟨_,h2⟩ | ⟨a',_,h2⟩
    ·exact .inr ⟨[],b,by rw[h2];rfl⟩
    ·exact .inr ⟨32::a',b,by rw[h2];rfl⟩
  ·rintro(rfl| ⟨a,b,h⟩)
   ·exact⟨[],ae2 ws,rfl⟩
   ·exact⟨32::(w++a),b,by
     show 32::(w++32::ae2 ws)=_
     rw[h];simp⟩
def kwL:List UInt8:=32::ae2 (keywords.map λw=>w.data.toList)
theorem gy6{t:ByteArray}(ht:∀c∈t.data.toList,c≠32):Lib.contains kwL (32::(t.data.toList++[32]))=io4 t:=by
 rw[Bool.eq_iff_iff,dd5];have h:=ci0 ht (ws:=keywords.map λw=>w.data.toList) (by decide);unfold io4;rw[inP_iff]
 have e:(∃a b,kwL=a++(32::(t.data.toList++[32])++b))↔∃a b,32::ae2 (keywords.map λw=>w.data.toList)=a++32::(t.data.toList++32::b):=by
  constructor<;>rintro⟨a,b,h⟩<;>exact⟨a,b,by simpa[kwL]using h⟩
 rw[e,h,List.mem_map];constructor
 ·rintro⟨w,hw,he⟩
  have:w=t:=by
   obtain⟨⟨x⟩⟩:=w;obtain⟨⟨y⟩⟩:=t;simp only at he;rw[he]
  rw[<-this];exact hw
 ·intro h;exact⟨t,h,rfl⟩
end Go.Proofs.Lx
/- The parser's small methods do what the plain parser says. -/
namespace Go.Proofs.YtjfkkokeegpeiaaDoor
open Go Go.Am Go.Proofs.Lx
set_option maxRecDepth 100000
theorem tl_eq{a b:ByteArray}:((ByteArray.toList a==ByteArray.toList b)=true)↔a=b:=by
 rw[beq_iff_eq,ByteArray.toList_eq,ByteArray.toList_eq];constructor
 ·intro h;obtain⟨⟨x⟩⟩:=a;obtain⟨⟨y⟩⟩:=b;simp only at h;rw[h]
 ·rintro rfl;rfl
theorem oU{a b:ByteArray}:(ByteArray.toList a==ByteArray.toList b)=decide (a=b):=by
 rw[Bool.eq_iff_iff,tl_eq,decide_eq_true_eq]
theorem xR{n:Int}(h1: -9223372036854775808<=n)(h2:n<=9223372036854775807):w n=n:=by
 unfold w;rw[IntKind.wrap_i64];omega
theorem s9{i:Nat}(h:i<=4000000000):w ((i:Int)+1)=((i+1:Nat):Int):=by rw[xR (by omega) (by omega)];omega
abbrev StT:Type:=Int×Int×Nat×(Nat->Int)×(Nat->Int)×(Nat->ByteArray)×(Nat->Int)×Nat×(Nat->ByteArray)×Nat×(Nat->ByteArray)
def Ag(v:Nat->ByteArray)(l:List ByteArray):Prop:=∀j b,l[j]? =some b->v j=b
theorem Ag.push{v:Nat->ByteArray}{l:List ByteArray}{x:ByteArray}(h:Ag v l):Ag (λj=>if j<l.length then v j else x) (l++[x]):=by
 intro j b hb;by_cases hj:j<l.length
 ·rw[List.getElem?_append_left hj]at hb;simp only[hj,if_true];exact h j b hb
 ·rw[List.getElem?_append_right (by omega)]at hb;simp only[hj,if_false];cases hk:j-l.length with
  |zero=>rw[hk]at hb;simpa using hb
  |succ n=>rw[hk]at hb;simp at hb
structure TokN(N:Nat)(T:Nat->Tkn):Prop where
 pos:0<N
 big:N<=4001
 endk:(T (N-1)).k=0
 endt:(T (N-1)).t=⟨#[]⟩
 sym:∀j,(T j).k≠3->j8 (T j).t=0
 word:∀j,(T j).k=1->(T j).t.size<=12/\∀c∈(T j).t.data.toList,c≠32
def RS(N:Nat)(T:Nat->Tkn)(pr:List ByteArray)(s:PS)(x:StT):Prop:=
 ∃v u,x=(((s.p:Nat):Int),((s.o:Nat):Int),N,(λj=>(T j).k),(λj=>(T j).a),(λj=>(T j).t),(λj=>(T j).n),s.vs.length,v,pr.length,u)/\
  Ag v s.vs/\Ag u pr/\s.p<N/\s.o<=12/\s.vs.length<=12/\pr.length<=2000000000
section
variable {N:Nat} {T:Nat->Tkn} {pr:List ByteArray} {s:PS} {x:StT}
theorem TokN.lt(hT:TokN N T){p:Nat}(hp:p<N)(h:(T p).t≠⟨#[]⟩\/(T p).k≠0):p+1<N:=by
 by_cases e:p=N-1
 ·subst e;rcases h with h|h
  ·exact absurd hT.endt h
  ·exact absurd hT.endk h
 ·have:=hT.pos;omega
theorem RS.adv(hT:TokN N T)(h:RS N T pr s x)(hk:(T s.p).t≠⟨#[]⟩\/(T s.p).k≠0):RS N T pr (adv s) (w (x.1+1),x.2):=by
 obtain⟨v,u,rfl,h1,h2,h3,h4,h5,h6⟩:=h;refine⟨v,u,?_,h1,h2,hT.lt h3 hk,h4,h5,h6⟩;have:=hT.big;show(w ((s.p:Int)+1),_)=_;rw[s9 (by omega)];rfl
end
section
variable {N:Nat} {T:Nat->Tkn} {pr:List ByteArray} {s:PS} {x:StT}
theorem fY(q:Nat)(h:RS N T pr s x)(c:Int):fail q (c,x)=some ((T s.p).a,c):=by
 obtain⟨v,u,rfl,h1,h2,h3,h4,h5,h6⟩:=h;unfold fail bq8;dsimp only;rw[if_pos ⟨by omega,by omega⟩,Int.toNat_natCast]
theorem gH(q:Nat)(h:RS N T pr s x):next q x=some ((T s.p).k,(T s.p).a,(T s.p).t,(T s.p).n,x):=by
 obtain⟨v,u,rfl,h1,h2,h3,h4,h5,h6⟩:=h;unfold next bt9
 dsimp only;rw[if_pos ⟨by omega,by omega⟩,Int.toNat_natCast]
theorem cg5(q:Nat)(h:RS N T pr s x)(b:ByteArray):is q (b,x)=some (isP T b s,x):=by
 obtain⟨v,u,rfl,h1,h2,h3,h4,h5,h6⟩:=h;unfold is fp7;dsimp only;rw[if_pos ⟨by omega,by omega⟩,Int.toNat_natCast,oU];rfl
theorem iK(q:Nat)(h:RS N T pr s x)(b:ByteArray):take q (b,x)=some (if isP T b s=true then(true,w (x.1+1),x.2)else(false,x)):=by
 unfold take bq1;rw[cg5 q h];dsimp only[Option.bind_some];by_cases hb:isP T b s=true
 ·rw[if_pos hb,if_pos hb]
 ·rw[if_neg hb,if_neg hb]
end
def PU(N:Nat)(T:Nat->Tkn)(pr:List ByteArray):PR Unit->StT⊕(Int×Int)->Prop
 | .ok _ s,.inl x=>RS N T pr s x
 | .err p c,.inr e=>p<N/\e=((T p).a,c)
 |_,_=>False
def PX{α:Type}(N:Nat)(T:Nat->Tkn)(pr:List ByteArray):PR α->(α×StT)⊕(Int×Int)->Prop
 | .ok a s,.inl z=>z.1=a/\RS N T pr s z.2
 | .err p c,.inr e=>p<N/\e=((T p).a,c)
 |_,_=>False
section
variable {N:Nat} {T:Nat->Tkn} {pr:List ByteArray} {s:PS} {x:StT}
theorem u6{b:ByteArray}(hb:b≠⟨#[]⟩)(h:isP T b s=true):(T s.p).t≠⟨#[]⟩\/(T s.p).k≠0:=by
 simp only[isP,decide_eq_true_eq]at h;exact .inl (h▸hb)
theorem rR(hT:TokN N T)(q:Nat)(h:RS N T pr s x)(b:ByteArray)(hb:b≠⟨#[]⟩):Rs (mK q (b,x)) (PU N T pr (y7 T b s)):=by
 unfold mK bv6 y7;rw[iK q h];dsimp only[Option.bind_some];by_cases hi:isP T b s=true
 ·rw[if_pos hi,if_pos hi];exact Rs.neg (by simp) (Rs.some (RS.adv hT h (u6 hb hi)))
 ·rw[if_neg hi,if_neg hi];refine Rs.pos (by simp) ?_;rw[fY q h];have h3:=h.choose_spec.choose_spec.2.2.2.1;exact Rs.some ⟨h3,rfl⟩
theorem RS.lt(h:RS N T pr s x):s.p<N:=h.choose_spec.choose_spec.2.2.2.1
theorem cp0(hT:TokN N T)(q:Nat)(h:RS N T pr s x)(b:ByteArray)(hb:b≠⟨#[]⟩):Rs (tP q (b,x)) (PU N T pr (eG T b s)):=by
 unfold tP au2 eG;rw[cg5 q h];dsimp only[Option.bind_some];by_cases hi:isP T b s=true
 ·rw[if_pos hi];refine Rs.neg (by simp[hi]) ?_;obtain⟨v,u,rfl,h1,h2,h3,h4,h5,h6⟩:=h;dsimp only;by_cases ho:s.o=12
  ·rw[if_pos ho];refine Rs.pos (by simp[ho]) ?_;rw[fY q ⟨v,u,rfl,h1,h2,h3,h4,h5,h6⟩];exact Rs.some ⟨h3,rfl⟩
  ·rw[if_neg ho];refine Rs.neg (by simp;omega) (Rs.some ?_);have:=hT.big;refine⟨v,u,?_,h1,h2,hT.lt h3 (u6 hb hi),(by show s.o+1<=12;omega),h5,h6⟩;rw[s9 (by omega),s9 (by omega)]
 ·rw[if_neg hi];refine Rs.pos (by simp[hi]) ?_;rw[fY q h];exact Rs.some ⟨h.lt,rfl⟩
theorem dz8(q:Nat){t:ByteArray}(h1:t.size<=12)(h2:∀c∈t.data.toList,c≠32):zS q t=some (io4 t):=by
 unfold zS qX;have hs:(({data:=#[32]}:ByteArray)++t).size=1+t.size:=by simp[ByteArray.size_append];rfl
 rw[if_pos (by unfold maxLen;omega),if_pos (by rw[hs];unfold maxLen;omega)];unfold an7;rw[if_pos (by dsimp only;decide)];dsimp only[Option.bind_some];rw[<-gy6 h2];refine congrArg some (congr (congrArg Lib.contains ?_) ?_)
 ·decide
 ·simp
theorem bm4(hT:TokN N T)(q:Nat)(h:RS N T pr s x):Rs (name q x) (PX N T pr (fD T s)):=by
 unfold name bw4 fD;rw[gH q h];dsimp only[Option.bind_some];by_cases hk:(T s.p).k=1
 ·refine Rs.neg (by simp[hk]) ?_;obtain⟨g1,g2⟩:=hT.word s.p hk;rw[dz8 q g1 g2];dsimp only[Option.bind_some];by_cases hr:io4 (T s.p).t=true
  ·rw[if_pos hr,if_pos (.inr hr),fY q h];exact Rs.some ⟨h.lt,rfl⟩
  ·rw[if_neg hr,if_neg (by simp[hk,hr])];exact Rs.some ⟨rfl,RS.adv hT h (.inr (by rw[hk];decide))⟩
 ·refine Rs.pos (by simp[hk]) ?_;rw[if_pos (.inl hk),fY q h];exact Rs.some ⟨h.lt,rfl⟩
theorem av4(hT:TokN N T)(q:Nat)(h:RS N T pr s x)(lo hi:Int):Rs (oI q (lo,hi,x)) (PX N T pr (tB T lo hi s)):=by
 unfold oI ac1;rw[gH q h];dsimp only[Option.bind_some];by_cases hk:(T s.p).k=2
 ·refine Rs.neg (by simp[hk]) ?_;by_cases h1:(T s.p).n<lo
  ·have e:tB T lo hi s= .err s.p 5:=by unfold tB;rw[if_neg (by simp[hk]),if_pos (.inl h1)]
   refine Rs.pos (by simp[h1]) ?_;rw[fY q h,e];exact Rs.some ⟨h.lt,rfl⟩
  ·refine Rs.neg (by simpa using h1) ?_;by_cases h2:hi< (T s.p).n
   ·have e:tB T lo hi s= .err s.p 5:=by unfold tB;rw[if_neg (by simp[hk]),if_pos (.inr h2)]
    refine Rs.pos (by simpa using h2) ?_;rw[fY q h,e];exact Rs.some ⟨h.lt,rfl⟩
   ·have e:tB T lo hi s= .ok (T s.p).n (adv s):=by unfold tB;rw[if_neg (by simp[hk]),if_neg (by omega)]
    rw[e];exact Rs.neg (by simpa using h2) (Rs.some ⟨rfl,RS.adv hT h (.inr (by rw[hk];decide))⟩)
 ·have e:tB T lo hi s= .err s.p 11:=by unfold tB;rw[if_pos hk]
  refine Rs.pos (by simp[hk]) ?_;rw[fY q h,e];exact Rs.some ⟨h.lt,rfl⟩
theorem bp4(q:Nat)(t:ByteArray):Rs (xB q t) (λz=>z.2.2.2.2.2.2=vW t):=by
 unfold xB aa8
 repeat' refine Rs.ite (λh=>?_) (λh=>?_)
 all_goals refine Rs.some ?_
 all_goals simp only[tl_eq]at*
 all_goals first
  | (subst_vars;decide)
  | (show false=vW t;symm;rw[Bool.eq_false_iff,Ne,vW,inP_iff];simp only[ad0,List.mem_cons,List.not_mem_nil,or_false,not_or];refine⟨?_,?_,?_,?_,?_,?_,?_,?_,?_,?_,?_,?_,?_⟩<;>(intro e;subst e;contradiction))
theorem ed5{a:ByteArray}{s':PS}(h:fD T s= .ok a s'):a=(T s.p).t/\s'=adv s/\(T s.p).k=1/\io4 (T s.p).t=false:=by
 unfold fD at h;split at h
 ·cases h
 ·rename_i hn;cases h;simp only[not_or,Decidable.not_not,Bool.not_eq_true]at hn;exact⟨rfl,rfl,hn.1,hn.2⟩
theorem dn3(q:Nat)(x0:y5)(a:ByteArray){v u:Nat->ByteArray}(h1:Ag v s.vs)(h2:Ag u pr)(h3:s.p<N)(h4:s.o<=12)(h5:s.vs.length<=12)(h6:pr.length<=2000000000):
 ∀(n i m:Nat),i+n=s.vs.length->n<m->(∀j,j<i->s.vs[j]? ≠some a)->
 Rs (lpG (λy=>dN (name q) (fail q) x0 y (λy=>some (.inl y)) (λz=>some (.inr z))) m (a,s.vs.length,((s.vs.length:Nat):Int),N,(λj=>(T j).k),(λj=>(T j).a),(λj=>(T j).t),(λj=>(T j).n),((s.p:Nat):Int),((s.o:Nat):Int),pr.length,v,u,((i:Nat):Int)))
  (λz=>if inP s.vs a=true then z= .inl ((T s.p).a,4)else z= .inr (a,N,(λj=>(T j).k),(λj=>(T j).a),(λj=>(T j).t),(λj=>(T j).n),((s.p:Nat):Int),((s.o:Nat):Int),s.vs.length,pr.length,v,u)):=by
 intro n
 induction n with
 |zero=>
  intro i m hi hm hno;obtain⟨m,rfl⟩:∃k,m=k+1:=⟨m-1,by omega⟩;refine Rs.step ?_;unfold dN;dsimp only;refine Rs.neg (by simp;omega) (Rs.some ?_)
  have hnin:¬inP s.vs a=true:=by
   rw[inP_iff,List.mem_iff_getElem?];rintro⟨j,hj⟩;have:=(List.getElem?_eq_some_iff.1 hj).1;exact hno j (by omega) hj
  show(if inP s.vs a=true then _ else _);rw[if_neg hnin]
 |succ n ih=>
  intro i m hi hm hno;obtain⟨m,rfl⟩:∃k,m=k+1:=⟨m-1,by omega⟩;refine Rs.step ?_;unfold dN;dsimp only;refine Rs.pos (by simp;omega) (Rs.pos ⟨by omega,by omega⟩ (Rs.pos ⟨by simp;omega,rfl⟩ ?_))
  have hget:s.vs[i]? =some (v i):=by
   have hlt:i<s.vs.length:=by omega
   have:=List.getElem?_eq_getElem hlt;rw[this,h1 i _ this]
  have e:0+Int.toNat ((i:Nat):Int)=i:=by omega
  rw[e];refine Rs.ite (λheq=>?_) (λhne=>?_)
  ·rw[tl_eq]at heq
   have hin:inP s.vs a=true:=by
    rw[inP_iff,<-heq];exact List.mem_iff_getElem?.2 ⟨i,hget⟩
   rw[fY q (s:=s) (pr:=pr) (N:=N) (T:=T) ⟨v,u,rfl,h1,h2,h3,h4,h5,h6⟩];refine Rs.some ?_;show(if inP s.vs a=true then _ else _);rw[if_pos hin]
  ·rw[tl_eq]at hne;refine Rs.some ?_;show Rs (lpG _ m _) _;rw[s9 (by omega)];refine ih (i+1) m (by omega) (by omega) λj hj=>?_;by_cases hji:j=i
   ·subst hji;rw[hget];simpa using hne
   ·exact hno j (by omega)
theorem ba5(hT:TokN N T)(q:Nat)(hq:20<=q)(h:RS N T pr s x):Rs (pA q x) (PX N T pr (zL T s)):=by
 unfold pA vE zL;refine Rs.bind (bm4 hT q h) λz hz=>?_;cases hn:fD T s with
 |out=>rw[hn]at hz;rcases z with z|z<;>exact hz.elim
 |err p c=>
  rw[hn]at hz;rcases z with z|z
  ·exact hz.elim
  ·exact Rs.some hz
 |ok a s'=>
  rw[hn]at hz;obtain⟨rfl,rfl,hk,hr⟩:=ed5 hn;rcases z with z|z
  rotate_left
  ·exact hz.elim
  obtain⟨z1,z2⟩:=z;obtain⟨rfl,v,u,rfl,h1,h2,h3,h4,h5,h6⟩:=hz;dsimp only[Sum.elim_inl,PR.bind];have hsp:=h.lt;have hN:=hT.big
  have e1:w (((adv s).p:Int)-1)=((s.p:Nat):Int):=by
   show w (((s.p+1:Nat):Int)-1)=_;rw[xR (by omega) (by omega)];omega
  rw[e1];unfold ag7;refine Rs.bind (dn3 (s:=s) q x _ h1 h2 hsp h4 h5 h6 s.vs.length 0 q (by omega) (by show s.vs.length<q;have:s.vs.length<=12:=h5;omega) (λj hj=>absurd hj (Nat.not_lt_zero j))) λz hz=>?_;by_cases hin:inP s.vs (T s.p).t=true
  ·rw[if_pos hin]at hz;subst hz;rw[if_pos hin];exact Rs.some ⟨hsp,rfl⟩
  ·rw[if_neg hin]at hz;subst hz;rw[if_neg hin];dsimp only[Sum.elim_inr,Sum.elim_inl];by_cases hl:s.vs.length=12
   ·rw[if_pos hl];refine Rs.pos (by simp[hl]) ?_;rw[fY q (s:=s) (pr:=pr) (N:=N) (T:=T) ⟨v,u,rfl,h1,h2,hsp,h4,h5,h6⟩];exact Rs.some ⟨hsp,rfl⟩
   ·rw[if_neg hl];refine Rs.neg (by simp;omega) (Rs.pos ?_ (Rs.some ⟨rfl,?_⟩))
    ·have:s.vs.length<=12:=h5;exact⟨by unfold d5;omega,by unfold maxLen;omega,by omega⟩
    ·refine⟨_,u,?_,h1.push,h2,h3,h4,(by simp;have:s.vs.length<=12:=h5;omega),h6⟩;rw[s9 (by omega)];simp[adv];rfl
end
end Go.Proofs.YtjfkkokeegpeiaaDoor
/- Expressions are read as the plain parser reads them. -/
namespace Go.Proofs.YtjfkkokeegpeiaaDoor
open Go Go.Am Go.Proofs.Lx
set_option maxRecDepth 100000
abbrev n4:Type:=Int×Int×ByteArray×Nat×(Nat->List V)
mutual
def RepN:Tr->n4->Prop
 | .node k n s l,x=>x.1=k/\x.2.1=n/\x.2.2.1=s/\x.2.2.2.1=l.length/\rW l x.2.2.2.2 0
def rW:List Tr->(Nat->List V)->Nat->Prop
 | [],_,_=>True
 |t::l,f,j=>(∃y:n4,f j=[i64 y.1,i64 y.2.1,st y.2.2.1,.ro 4 y.2.2.2.1 y.2.2.2.2]/\RepN t y)/\rW l f (j+1)
end
theorem RepN.leaf{k n:Int}{s:ByteArray}{f:Nat->List V}:RepN (.node k n s []) (k,n,s,0,f):=by simp[RepN,rW]
theorem RepN.k1{k n:Int}{s:ByteArray}{a:Tr}{y:n4}(h:RepN a y):RepN (.node k n s [a]) (k,n,s,1,gP [[i64 y.1,i64 y.2.1,st y.2.2.1,.ro 4 y.2.2.2.1 y.2.2.2.2]]):=by
 simp only[RepN,rW,List.length_cons,List.length_nil];exact⟨trivial,trivial,trivial,trivial,⟨y,rfl,h⟩,trivial⟩
theorem RepN.k2{k n:Int}{s:ByteArray}{a b:Tr}{y z:n4}(h:RepN a y)(g:RepN b z):RepN (.node k n s [a,b]) (k,n,s,2,gP [[i64 y.1,i64 y.2.1,st y.2.2.1,.ro 4 y.2.2.2.1 y.2.2.2.2],[i64 z.1,i64 z.2.1,st z.2.2.1,.ro 4 z.2.2.2.1 z.2.2.2.2]]):=by
 simp only[RepN,rW,List.length_cons,List.length_nil];exact⟨trivial,trivial,trivial,trivial,⟨y,rfl,h⟩,⟨z,rfl,g⟩,trivial⟩
def PN(N:Nat)(T:Nat->Tkn)(pr:List ByteArray):PR Tr->(Int×Int×ByteArray×Nat×(Nat->List V)×StT)⊕(Int×Int)->Prop
 | .ok a s,.inl z=>RepN a (z.1,z.2.1,z.2.2.1,z.2.2.2.1,z.2.2.2.2.1)/\RS N T pr s z.2.2.2.2.2
 | .err p c,.inr e=>p<N/\e=((T p).a,c)
 |_,_=>False
theorem PR.bind_out{α β:Type}{r:PR α}{k:α->PS->PR β}(h:r.bind k≠ .out):r≠ .out:=by rintro rfl;exact h rfl
section
variable {N:Nat} {T:Nat->Tkn} {pr:List ByteArray} {γ:Type} {P:γ->Prop}
theorem PU.bind{r:PR Unit}{o:Option (StT⊕(Int×Int))}{f:StT->Option γ}{g:Int×Int->Option γ}(h:Rs o (PU N T pr r))(hok:∀s x,r= .ok () s->RS N T pr s x->Rs (f x) P)(herr:∀p c,r= .err p c->p<N->Rs (g ((T p).a,c)) P):
 Rs (o.bind λz=>Sum.elim f g z) P:=by
 obtain⟨z,rfl,hp⟩:=h;cases r with
 |ok u s=>cases z with
  |inl z=>exact hok s z rfl hp
  |inr z=>exact hp.elim
 |err p c=>cases z with
  |inl z=>exact hp.elim
  |inr z=>obtain⟨h1,rfl⟩:=hp;exact herr p c rfl h1
 |out=>cases z<;>exact hp.elim
theorem PX.bind{α:Type}{r:PR α}{o:Option ((α×StT)⊕(Int×Int))}{f:α×StT->Option γ}{g:Int×Int->Option γ}(h:Rs o (PX N T pr r))(hok:∀a s x,r= .ok a s->RS N T pr s x->Rs (f (a,x)) P)(herr:∀p c,r= .err p c->p<N->Rs (g ((T p).a,c)) P):
 Rs (o.bind λz=>Sum.elim f g z) P:=by
 obtain⟨z,rfl,hp⟩:=h;cases r with
 |ok a s=>cases z with
  |inl z=>obtain⟨z1,z2⟩:=z;obtain⟨rfl,h2⟩:=hp;exact hok _ s z2 rfl h2
  |inr z=>exact hp.elim
 |err p c=>cases z with
  |inl z=>exact hp.elim
  |inr z=>obtain⟨h1,rfl⟩:=hp;exact herr p c rfl h1
 |out=>cases z<;>exact hp.elim
theorem PN.bind{r:PR Tr}{o:Option ((Int×Int×ByteArray×Nat×(Nat->List V)×StT)⊕(Int×Int))}{f:Int×Int×ByteArray×Nat×(Nat->List V)×StT->Option γ}{g:Int×Int->Option γ}(h:Rs o (PN N T pr r))
 (hok:∀t s k n b m c x,r= .ok t s->RepN t (k,n,b,m,c)->RS N T pr s x->Rs (f (k,n,b,m,c,x)) P) (herr:∀p c,r= .err p c->p<N->Rs (g ((T p).a,c)) P):
 Rs (o.bind λz=>Sum.elim f g z) P:=by
 obtain⟨z,rfl,hp⟩:=h;cases r with
 |ok a s=>cases z with
  |inl z=>obtain⟨k,n,b,m,c,x⟩:=z;exact hok a s k n b m c x rfl hp.1 hp.2
  |inr z=>exact hp.elim
 |err p c=>cases z with
  |inl z=>exact hp.elim
  |inr z=>obtain⟨h1,rfl⟩:=hp;exact herr p c rfl h1
 |out=>cases z<;>exact hp.elim
end
theorem bb2(q:Nat)(t:ByteArray):oF q t=some ((j8 t:Nat):Int):=by
 unfold oF vJ j8;simp only[tl_eq];by_cases e0:t=sOr
 ·subst e0;rfl
 by_cases e1:t=gj9
 ·subst e1;rfl
 by_cases e2:t=sLt
 ·subst e2;rfl
 by_cases e3:t=sLe
 ·subst e3;rfl
 by_cases e4:t=sGt
 ·subst e4;rfl
 by_cases e5:t=sGe
 ·subst e5;rfl
 by_cases e6:t=sEq
 ·subst e6;rfl
 by_cases e7:t=sNe
 ·subst e7;rfl
 by_cases e8:t=ib6
 ·subst e8;rfl
 by_cases e9:t=sW
 ·subst e9;rfl
 by_cases e10:t=hv0
 ·subst e10;rfl
 by_cases e11:t=hw8
 ·subst e11;rfl
 simp only[e0,e1,e2,e3,e4,e5,e6,e7,e8,e9,e10,e11,or_self,if_false];rfl
section
variable {N:Nat} {T:Nat->Tkn} {pr:List ByteArray} {s:PS} {x:StT}
theorem xI(hT:TokN N T)(q:Nat)(h:RS N T pr s x):Rs (kK q x) (PN N T pr (tA T s)):=by
 unfold kK;refine Rs.map (P:=λy=>PN N T pr (tA T s) (ba7 y)) ?_ λz hz=>hz;unfold cl1 pU tA;refine PX.bind (av4 hT q h 0 2147483647) (λn s1 x1 e h1=>?_) (λp c e hp=>?_)
 ·rw[e];dsimp only[PR.bind];rw[gH q h1];dsimp only[Option.bind_some];by_cases hk:(T s1.p).k=1
  ·refine Rs.pos (by simp[hk]) ?_;refine Rs.bind (bp4 q (T s1.p).t) λz hz=>?_;by_cases hu:vW (T s1.p).t=true
   ·refine Rs.pos (hz.trans hu) (Rs.some ?_);rw[if_pos (show _/\_ from⟨hk,hu⟩)];exact⟨RepN.leaf,RS.adv hT h1 (.inr (by rw[hk];decide))⟩
   ·refine Rs.neg (by rw[hz];exact hu) (Rs.some ?_);rw[if_neg (show¬(_/\_)from λh=>hu h.2)];exact⟨RepN.leaf,h1⟩
  ·refine Rs.neg (by simp[hk]) (Rs.some ?_);rw[if_neg (show¬(_/\_)from λh=>hk h.1)];exact⟨RepN.leaf,h1⟩
 ·rw[e];exact Rs.some ⟨hp,rfl⟩
end
end Go.Proofs.YtjfkkokeegpeiaaDoor
/- Expressions are read as the plain parser reads them (2). -/
namespace Go.Proofs.YtjfkkokeegpeiaaDoor
open Go Go.Am Go.Proofs.Lx
set_option maxRecDepth 100000
abbrev Y0:Type:=Nat×(Nat->Int)×(Nat->Int)×(Nat->ByteArray)×(Nat->Int)×Int×Int×Nat×Nat×(Nat->ByteArray)×(Nat->ByteArray)×n4
abbrev Y1:Type:=Nat×(Nat->Int)×(Nat->Int)×(Nat->ByteArray)×(Nat->Int)×Int×Int×Nat×Nat×(Nat->ByteArray)×(Nat->ByteArray)×ByteArray×Int×Int×ByteArray×Nat×(Nat->List V)×n4
def y0(x:StT)(n:n4):Y0:=(x.2.2.1,x.2.2.2.1,x.2.2.2.2.1,x.2.2.2.2.2.1,x.2.2.2.2.2.2.1,x.1,x.2.1,x.2.2.2.2.2.2.2.1,x.2.2.2.2.2.2.2.2.2.1,x.2.2.2.2.2.2.2.2.1,x.2.2.2.2.2.2.2.2.2.2,n)
def y1(x:StT)(op:ByteArray)(a b:n4):Y1:=(x.2.2.1,x.2.2.2.1,x.2.2.2.2.1,x.2.2.2.2.2.1,x.2.2.2.2.2.2.1,x.1,x.2.1,x.2.2.2.2.2.2.2.1,x.2.2.2.2.2.2.2.2.2.1,x.2.2.2.2.2.2.2.2.1,x.2.2.2.2.2.2.2.2.2.2,op,a.1,a.2.1,a.2.2.1,a.2.2.2.1,a.2.2.2.2,b)
def LP(N:Nat)(T:Nat->Tkn)(pr:List ByteArray):PR Tr->qS->Prop
 | .ok t s,.inl z=>∃x op a b ta tb,z=y1 x op a b/\t= .node 20 0 op [ta,tb]/\RepN ta a/\RepN tb b/\RS N T pr s x
 | .ok t s,.inr (.inr z)=>∃x n,z=y0 x n/\RepN t n/\RS N T pr s x
 | .err p c,.inr (.inl e)=>p<N/\e=((T p).a,c)
 |_,_=>False
def LS(n:Tr)(x:StT):dX->Prop
 | .inl y=>∃a,y=y0 x a/\RepN n a
 | .inr y=>∃op a b ta tb,y=y1 x op a b/\n= .node 20 0 op [ta,tb]/\RepN ta a/\RepN tb b
section
variable {N:Nat} {T:Nat->Tkn} {pr:List ByteArray}
def HE(N:Nat)(T:Nat->Tkn)(pr:List ByteArray)(f q:Nat):Prop:=∀g,g<=f->∀lv,1<=lv->lv<=8->∀(s:PS) (x:StT),RS N T pr s x->o9 T g lv s≠ .out->Rs (af8 q (((lv:Nat):Int),x)) (PN N T pr (o9 T g lv s))
theorem cj9(hT:TokN N T){f q:Nat}(hE:HE N T pr f q)(lv:Nat)(hl1:1<=lv)(hl:lv<=7)(x0:StT):∀(g:Nat),g<=f->∀(m:Nat),g<m->∀(n:Tr) (s:PS) (x:StT) (y:dX),LS n x y->RS N T pr s x->mP T g lv n s≠ .out->
 Rs (wW (is q) (eb7 q) (bg8 q) (af8 q) (next q) (oF q) m (((lv:Nat):Int),x0) y) (LP N T pr (mP T g lv n s)):=by
 intro g
 induction g with
 |zero=>intro _ m _ n s x y _ _ ho;exact absurd rfl ho
 |succ g ih=>
  intro hg m hm n s x y hy h ho;obtain⟨m,rfl⟩:∃k,m=k+1:=⟨m-1,by omega⟩;unfold wW;refine Rs.step3 λQ hQ=>?_;have h0:=h;obtain⟨v,u,rfl,h1,h2,h3,h4,h5,h6⟩:=h;have hN:=hT.big;have hop:mP T (g+1) lv n s=if j8 (T s.p).t=lv/\(T s.p).k=3 then(o9 T g (lv+1) (adv s)).bind λm s'=>if lv=4 then .ok (.node 20 0 (T s.p).t [n,m]) s' else mP T g lv (.node 20 0 (T s.p).t [n,m]) s' else .ok n s:=by rw[mP]
  rcases y with y|y
  ·obtain⟨a,rfl,ha⟩:=hy;rw[Sum.elim_inl];unfold mY;dsimp only[y0,y1];rw[gH q (s:=s) (pr:=pr) (N:=N) (T:=T) h0];dsimp only[Option.bind_some];rw[bb2];dsimp only[Option.bind_some];by_cases hlv:j8 (T s.p).t=lv
   ·refine Rs.pos (by simp[hlv]) ?_;rw[gH q (s:=s) (pr:=pr) (N:=N) (T:=T) h0];dsimp only[Option.bind_some];by_cases hk:(T s.p).k=3
    ·refine Rs.pos (by simp[hk]) ?_;rw[gH q (s:=s) (pr:=pr) (N:=N) (T:=T) h0];dsimp only[Option.bind_some];rw[if_pos ⟨hlv,hk⟩]at hop;rw[s9 (i:=lv) (by omega)];have hadv:=RS.adv hT h0 (.inr (by rw[hk];decide));refine PN.bind (hE g (by omega) (lv+1) (by omega) (by omega) (adv s) _ hadv (PR.bind_out (hop▸ho))) (λt s2 k1 n1 b1 m1 c1 x1 e hr hx=>?_) (λp c e hp=>?_)
     ·rw[e]at hop;dsimp only[PR.bind]at hop;by_cases h4':lv=4
      ·rw[if_pos h4']at hop;refine Rs.pos (by simp[h4']) (Rs.some ?_);show LP N T pr (mP T (g+1) lv _ s) _;rw[hop];exact⟨x1,_,a,(k1,n1,b1,m1,c1),_,t,rfl,rfl,ha,hr,hx⟩
      ·rw[if_neg h4']at hop;refine Rs.neg (by simp;omega) (Rs.some ?_);refine hQ _ ?_;rw[hop];exact ih (by omega) m (by omega) _ s2 x1 (.inr (y1 x1 (T s.p).t a (k1,n1,b1,m1,c1))) ⟨_,a,(k1,n1,b1,m1,c1),_,t,rfl,rfl,ha,hr⟩ hx (hop▸ho)
     ·refine Rs.some ?_;show LP N T pr (mP T (g+1) lv _ s) _;rw[hop,e];exact⟨hp,rfl⟩
    ·refine Rs.neg (by simp[hk]) (Rs.some ?_);rw[if_neg (λh=>hk h.2)]at hop;show LP N T pr (mP T (g+1) lv _ s) _;rw[hop];exact⟨_,a,rfl,ha,h0⟩
   ·refine Rs.neg (λhh=>hlv (by have hh:=(by simpa using hh:((j8 (T s.p).t:Nat):Int)=lv);omega)) (Rs.some ?_);rw[if_neg (λh=>hlv h.1)]at hop;show LP N T pr (mP T (g+1) lv _ s) _;rw[hop];exact⟨_,a,rfl,ha,h0⟩
  ·obtain⟨op,a,b,ta,tb,rfl,rfl,ha,hb⟩:=hy
   have hab:RepN (.node 20 0 op [ta,tb]) (20,0,op,2,λj=>[i64 (if 0+j=0 then a.1 else b.1),i64 (if 0+j=0 then a.2.1 else b.2.1),st (if 0+j=0 then a.2.2.1 else b.2.2.1),.ro 4 (if 0+j=0 then a.2.2.2.1 else b.2.2.2.1) λi=>if 0+j=0 then a.2.2.2.2 i else b.2.2.2.2 i]):=by
    simp only[RepN,rW,List.length_cons,List.length_nil];exact⟨trivial,trivial,trivial,trivial,⟨a,rfl,ha⟩,⟨b,rfl,hb⟩,trivial⟩
   rw[Sum.elim_inr];unfold mW;dsimp only[y0,y1];rw[gH q (s:=s) (pr:=pr) (N:=N) (T:=T) h0];dsimp only[Option.bind_some];rw[bb2];dsimp only[Option.bind_some];by_cases hlv:j8 (T s.p).t=lv
   ·refine Rs.pos (by simp[hlv]) ?_;rw[gH q (s:=s) (pr:=pr) (N:=N) (T:=T) h0];dsimp only[Option.bind_some];by_cases hk:(T s.p).k=3
    ·refine Rs.pos (by simp[hk]) ?_;rw[gH q (s:=s) (pr:=pr) (N:=N) (T:=T) h0];dsimp only[Option.bind_some];rw[if_pos ⟨hlv,hk⟩]at hop;rw[s9 (i:=lv) (by omega)];have hadv:=RS.adv hT h0 (.inr (by rw[hk];decide));refine PN.bind (hE g (by omega) (lv+1) (by omega) (by omega) (adv s) _ hadv (PR.bind_out (hop▸ho))) (λt s2 k1 n1 b1 m1 c1 x1 e hr hx=>?_) (λp c e hp=>?_)
     ·rw[e]at hop;dsimp only[PR.bind]at hop;by_cases h4':lv=4
      ·rw[if_pos h4']at hop;refine Rs.pos (by simp[h4']) (Rs.some ?_);show LP N T pr (mP T (g+1) lv _ s) _;rw[hop];exact⟨x1,_,(20,0,op,2,λj=>[i64 (if 0+j=0 then a.1 else b.1),i64 (if 0+j=0 then a.2.1 else b.2.1),st (if 0+j=0 then a.2.2.1 else b.2.2.1),.ro 4 (if 0+j=0 then a.2.2.2.1 else b.2.2.2.1) λi=>if 0+j=0 then a.2.2.2.2 i else b.2.2.2.2 i]),(k1,n1,b1,m1,c1),_,t,rfl,rfl,hab,hr,hx⟩
      ·rw[if_neg h4']at hop;refine Rs.neg (by simp;omega) (Rs.some ?_);refine hQ _ ?_;rw[hop];exact ih (by omega) m (by omega) _ s2 x1 (.inr (y1 x1 (T s.p).t (20,0,op,2,λj=>[i64 (if 0+j=0 then a.1 else b.1),i64 (if 0+j=0 then a.2.1 else b.2.1),st (if 0+j=0 then a.2.2.1 else b.2.2.1),.ro 4 (if 0+j=0 then a.2.2.2.1 else b.2.2.2.1) λi=>if 0+j=0 then a.2.2.2.2 i else b.2.2.2.2 i]) (k1,n1,b1,m1,c1))) ⟨_,(20,0,op,2,λj=>[i64 (if 0+j=0 then a.1 else b.1),i64 (if 0+j=0 then a.2.1 else b.2.1),st (if 0+j=0 then a.2.2.1 else b.2.2.1),.ro 4 (if 0+j=0 then a.2.2.2.1 else b.2.2.2.1) λi=>if 0+j=0 then a.2.2.2.2 i else b.2.2.2.2 i]),(k1,n1,b1,m1,c1),_,t,rfl,rfl,hab,hr⟩ hx (hop▸ho)
     ·refine Rs.some ?_;show LP N T pr (mP T (g+1) lv _ s) _;rw[hop,e];exact⟨hp,rfl⟩
    ·refine Rs.neg (by simp[hk]) (Rs.some ?_);rw[if_neg (λh=>hk h.2)]at hop;show LP N T pr (mP T (g+1) lv _ s) _;rw[hop];exact⟨_,op,a,b,ta,tb,rfl,rfl,ha,hb,h0⟩
   ·refine Rs.neg (λhh=>hlv (by have hh:=(by simpa using hh:((j8 (T s.p).t:Nat):Int)=lv);omega)) (Rs.some ?_);rw[if_neg (λh=>hlv h.1)]at hop;show LP N T pr (mP T (g+1) lv _ s) _;rw[hop];exact⟨_,op,a,b,ta,tb,rfl,rfl,ha,hb,h0⟩
end
end Go.Proofs.YtjfkkokeegpeiaaDoor
/- Expressions are read as the plain parser reads them (3). -/
namespace Go.Proofs.YtjfkkokeegpeiaaDoor
open Go Go.Am Go.Proofs.Lx
set_option maxRecDepth 100000
section
variable {N:Nat} {T:Nat->Tkn} {pr:List ByteArray}
def HU(N:Nat)(T:Nat->Tkn)(pr:List ByteArray)(f q:Nat):Prop:=∀g,g<=f->∀b:ByteArray,b≠⟨#[]⟩->∀lv,1<=lv->lv<=8->∀(s:PS) (x:StT),RS N T pr s x->fQ T g b lv s≠ .out->Rs (eb7 q (b,((lv:Nat):Int),x)) (PN N T pr (fQ T g b lv s))
def HP(N:Nat)(T:Nat->Tkn)(pr:List ByteArray)(f q:Nat):Prop:=∀g,g<=f->∀(s:PS) (x:StT),RS N T pr s x->jX T g s≠ .out->Rs (bg8 q x) (PN N T pr (jX T g s))
theorem RS.close{s:PS}{x:StT}(hT:TokN N T)(h:RS N T pr s x)(ho:1<=s.o):RS N T pr (lI s) (x.1,w (x.2.1-1),x.2.2):=by
 obtain⟨v,u,rfl,h1,h2,h3,h4,h5,h6⟩:=h;refine⟨v,u,?_,h1,h2,h3,(by show s.o-1<=12;omega),h5,h6⟩;show(((s.p:Nat):Int),w (((s.o:Nat):Int)-1),_)=_;rw[xR (by omega) (by omega)];have e:((s.o:Nat):Int)-1=((s.o-1:Nat):Int):=by omega
 rw[e];rfl
end
section
variable {T:Nat->Tkn}
def Op{α:Type}(o:Nat):PR α->Prop
 | .ok _ s=>s.o=o
 |_=>True
theorem Op.bind{α β:Type}{o o':Nat}{r:PR α}{k:α->PS->PR β}(h:Op o r)(hk:∀a s,s.o=o->Op o' (k a s)):Op o' (r.bind k):=by
 cases r with
 |ok a s=>exact hk a s h
 |err p c=>trivial
 |out=>trivial
theorem yG(b:ByteArray)(s:PS):Op s.o (y7 T b s):=by unfold y7;split<;>trivial
theorem cd3(s:PS):Op s.o (fD T s):=by unfold fD;split<;>trivial
theorem dq0(lo hi:Int)(s:PS):Op s.o (tB T lo hi s):=by unfold tB;repeat' (split<;>try trivial)
theorem zG(b:ByteArray)(s:PS):Op (s.o+1) (eG T b s):=by unfold eG;repeat' (split<;>try trivial)
theorem dm3(s:PS):Op s.o (tA T s):=by
 unfold tA;refine(dq0 0 2147483647 s).bind λa s1 h=>?_;split
 ·exact h
 ·exact h
theorem ae9:∀f,(∀lv s,Op s.o (o9 T f lv s))/\(∀lv n s,Op s.o (mP T f lv n s))/\(∀b lv s,Op s.o (fQ T f b lv s))/\(∀s,Op s.o (jX T f s)):=by
 intro f
 induction f with
 |zero=>exact⟨λ_ _=>by rw[o9];trivial,λ_ _ _=>by rw[mP];trivial,λ_ _ _=>by rw[fQ];trivial,λ_=>by rw[jX];trivial⟩
 |succ f ih=>
  obtain⟨h1,h2,h3,h4⟩:=ih;refine⟨λlv s=>?_,λlv n s=>?_,λb lv s=>?_,λs=>?_⟩
  ·rw[o9];split
   ·exact h3 _ _ _
   ·split
    ·exact h3 _ _ _
    ·split
     ·exact h4 _
     ·refine(h1 _ _).bind λa s1 e=>?_;rw[<-e];exact h2 _ _ _
  ·rw[mP];split
   ·refine(h1 (lv+1) (adv s)).bind λa s1 e=>?_;split
    ·exact e
    ·have:=h2 lv (.node 20 0 (T s.p).t [n,a]) s1;rw[e]at this;exact this
   ·rfl
  ·rw[fQ];refine(zG b s).bind λ_ s1 e1=>(h1 lv s1).bind λn s2 e2=>?_;show s2.o-1=s.o;omega
  ·rw[jX];split
   ·exact dm3 s
   ·split
    ·rfl
    ·split
     ·rfl
     ·split
      ·exact(yG eo6 (adv s)).bind λ_ s1 e1=>by
        have:=cd3 (T:=T) s1;rw[e1]at this;exact this.bind λx s2 e2=>e2
      ·split
       ·refine(zG nG s).bind λ_ s1 e1=>(h1 1 s1).bind λn s2 e2=>(yG jS s2).bind λ_ s3 e3=>?_;show s3.o-1=s.o;omega
       ·exact(cd3 s).bind λx s1 e1=>e1
end
end Go.Proofs.YtjfkkokeegpeiaaDoor
/- Expressions are read as the plain parser reads them (4). -/
namespace Go.Proofs.YtjfkkokeegpeiaaDoor
open Go Go.Am Go.Proofs.Lx
set_option maxRecDepth 100000
section
variable {N:Nat} {T:Nat->Tkn} {pr:List ByteArray}
theorem gb0(hT:TokN N T){f q:Nat}(hq:f<q)(hE:HE N T pr f q)(hU:HU N T pr f q)(hP:HP N T pr f q)(lv:Nat)(hl1:1<=lv)(hl:lv<=8)(s:PS)(x:StT)(h:RS N T pr s x)(ho:o9 T (f+1) lv s≠ .out):
 Rs (af8 (q+1) (((lv:Nat):Int),x)) (PN N T pr (o9 T (f+1) lv s)):=by
 show Rs ((xU (is q) (eb7 q) (bg8 q) (af8 q) (next q) (oF q) (wW (is q) (eb7 q) (bg8 q) (af8 q) (next q) (oF q) q (((lv:Nat):Int),x)) (((lv:Nat):Int),x) some).map cc5) _;refine Rs.map (P:=λy=>PN N T pr (o9 T (f+1) lv s) (cc5 y)) ?_ λz hz=>hz;unfold xU;dsimp only;have hop:o9 T (f+1) lv s=if lv=3/\isP T oH s=true then fQ T f oH 3 s else if lv=7/\isP T sW s=true then fQ T f sW 7 s else if lv=8 then jX T f s else(o9 T f (lv+1) s).bind λn s'=>mP T f lv n s':=by rw[o9]
 by_cases h3:lv=3
 ·refine Rs.pos (by simp[h3]) ?_;rw[cg5 q h];dsimp only[Option.bind_some];by_cases hi:isP T oH s=true
  ·rw[if_pos ⟨h3,hi⟩]at hop;refine Rs.pos hi ?_;refine PN.bind (hU f (Nat.le_refl _) oH (by decide) 3 (by decide) (by decide) s x h (hop▸ho)) (λt s1 k n b m c x1 e hr hx=>?_) (λp c e hp=>?_)
   ·rw[hop,e];exact Rs.some ⟨hr,hx⟩
   ·rw[hop,e];exact Rs.some ⟨hp,rfl⟩
  ·rw[if_neg (λh=>hi h.2),if_neg (λh=>by omega),if_neg (by omega)]at hop;refine Rs.neg hi (Rs.neg (by simp;omega) (Rs.neg (by simp;omega) ?_));rw[s9 (i:=lv) (by omega)];refine PN.bind (hE f (Nat.le_refl _) (lv+1) (by omega) (by omega) s x h (PR.bind_out (hop▸ho))) (λt s1 k n b m c x1 e hr hx=>?_) (λp c e hp=>?_)
   ·rw[e]at hop;dsimp only[PR.bind]at hop;refine Rs.bind (cj9 hT hE lv hl1 (by omega) x f (Nat.le_refl _) q (by omega) t s1 x1 (.inl (y0 x1 (k,n,b,m,c))) ⟨_,rfl,hr⟩ hx (hop▸ho)) (λz hz=>?_);rw[hop];cases hr2:mP T f lv t s1 with
    |out=>rw[hop,hr2]at ho;exact absurd rfl ho
    |err p c=>
     rw[hr2]at hz;rcases z with z|z|z
     ·exact hz.elim
     ·exact Rs.some hz
     ·exact hz.elim
    |ok a s2=>
     rw[hr2]at hz;rcases z with z|z|z
     ·obtain⟨x2,op,na,nb,ta,tb,rfl,rfl,g1,g2,g3⟩:=hz;exact Rs.some ⟨RepN.k2 g1 g2,g3⟩
     ·exact hz.elim
     ·obtain⟨x2,nd,rfl,g1,g3⟩:=hz;exact Rs.some ⟨g1,g3⟩
   ·rw[hop,e];exact Rs.some ⟨hp,rfl⟩
 ·refine Rs.neg (by simp;omega) ?_;rw[if_neg (λh=>h3 h.1)]at hop;by_cases h7:lv=7
  ·refine Rs.pos (by simp[h7]) ?_;rw[cg5 q h];dsimp only[Option.bind_some];by_cases hi:isP T sW s=true
   ·rw[if_pos ⟨h7,hi⟩]at hop;refine Rs.pos hi ?_;refine PN.bind (hU f (Nat.le_refl _) sW (by decide) 7 (by decide) (by decide) s x h (hop▸ho)) (λt s1 k n b m c x1 e hr hx=>?_) (λp c e hp=>?_)
    ·rw[hop,e];exact Rs.some ⟨hr,hx⟩
    ·rw[hop,e];exact Rs.some ⟨hp,rfl⟩
   ·rw[if_neg (λh=>hi h.2),if_neg (by omega)]at hop;refine Rs.neg hi (Rs.neg (by simp;omega) ?_);rw[s9 (i:=lv) (by omega)];refine PN.bind (hE f (Nat.le_refl _) (lv+1) (by omega) (by omega) s x h (PR.bind_out (hop▸ho))) (λt s1 k n b m c x1 e hr hx=>?_) (λp c e hp=>?_)
    ·rw[e]at hop;dsimp only[PR.bind]at hop;refine Rs.bind (cj9 hT hE lv hl1 (by omega) x f (Nat.le_refl _) q (by omega) t s1 x1 (.inl (y0 x1 (k,n,b,m,c))) ⟨_,rfl,hr⟩ hx (hop▸ho)) (λz hz=>?_);rw[hop];cases hr2:mP T f lv t s1 with
     |out=>rw[hop,hr2]at ho;exact absurd rfl ho
     |err p c=>
      rw[hr2]at hz;rcases z with z|z|z
      ·exact hz.elim
      ·exact Rs.some hz
      ·exact hz.elim
     |ok a s2=>
      rw[hr2]at hz;rcases z with z|z|z
      ·obtain⟨x2,op,na,nb,ta,tb,rfl,rfl,g1,g2,g3⟩:=hz;exact Rs.some ⟨RepN.k2 g1 g2,g3⟩
      ·exact hz.elim
      ·obtain⟨x2,nd,rfl,g1,g3⟩:=hz;exact Rs.some ⟨g1,g3⟩
    ·rw[hop,e];exact Rs.some ⟨hp,rfl⟩
  ·refine Rs.neg (by simp;omega) ?_;rw[if_neg (λh=>h7 h.1)]at hop;by_cases h8:lv=8
   ·rw[if_pos h8]at hop;refine Rs.pos (by simp[h8]) ?_;refine PN.bind (hP f (Nat.le_refl _) s x h (hop▸ho)) (λt s1 k n b m c x1 e hr hx=>?_) (λp c e hp=>?_)
    ·rw[hop,e];exact Rs.some ⟨hr,hx⟩
    ·rw[hop,e];exact Rs.some ⟨hp,rfl⟩
   ·rw[if_neg h8]at hop;refine Rs.neg (by simp;omega) ?_;rw[s9 (i:=lv) (by omega)];refine PN.bind (hE f (Nat.le_refl _) (lv+1) (by omega) (by omega) s x h (PR.bind_out (hop▸ho))) (λt s1 k n b m c x1 e hr hx=>?_) (λp c e hp=>?_)
    ·rw[e]at hop;dsimp only[PR.bind]at hop;refine Rs.bind (cj9 hT hE lv hl1 (by omega) x f (Nat.le_refl _) q (by omega) t s1 x1 (.inl (y0 x1 (k,n,b,m,c))) ⟨_,rfl,hr⟩ hx (hop▸ho)) (λz hz=>?_);rw[hop];cases hr2:mP T f lv t s1 with
     |out=>rw[hop,hr2]at ho;exact absurd rfl ho
     |err p c=>
      rw[hr2]at hz;rcases z with z|z|z
      ·exact hz.elim
      ·exact Rs.some hz
      ·exact hz.elim
     |ok a s2=>
      rw[hr2]at hz;rcases z with z|z|z
      ·obtain⟨x2,op,na,nb,ta,tb,rfl,rfl,g1,g2,g3⟩:=hz;exact Rs.some ⟨RepN.k2 g1 g2,g3⟩
      ·exact hz.elim
      ·obtain⟨x2,nd,rfl,g1,g3⟩:=hz;exact Rs.some ⟨g1,g3⟩
    ·rw[hop,e];exact Rs.some ⟨hp,rfl⟩
theorem fc0(hT:TokN N T){f q:Nat}(hE:HE N T pr f q)(b:ByteArray)(hb:b≠⟨#[]⟩)(lv:Nat)(hl1:1<=lv)(hl:lv<=8)(s:PS)(x:StT)(h:RS N T pr s x)(ho:fQ T (f+1) b lv s≠ .out):
 Rs (eb7 (q+1) (b,((lv:Nat):Int),x)) (PN N T pr (fQ T (f+1) b lv s)):=by
 show Rs ((sN (tP q) (af8 q) (b,((lv:Nat):Int),x) some).map bi2) _;refine Rs.map (P:=λy=>PN N T pr (fQ T (f+1) b lv s) (bi2 y)) ?_ λz hz=>hz;unfold sN;dsimp only;have hop:fQ T (f+1) b lv s=(eG T b s).bind λ_ s1=>(o9 T f lv s1).bind λn s2=>.ok (.node 19 0 b [n]) (lI s2):=by rw[fQ]
 refine PU.bind (cp0 hT q h b hb) (λs1 x1 e1 h1=>?_) (λp c e hp=>?_)
 ·have o1:=zG (T:=T) b s;rw[e1]at hop o1;dsimp only[PR.bind]at hop;refine PN.bind (hE f (Nat.le_refl _) lv hl1 hl s1 x1 h1 (PR.bind_out (hop▸ho))) (λt s2 k n b m c x2 e hr hx=>?_) (λp c e hp=>?_)
  ·have o2:=(ae9 (T:=T) f).1 lv s1;rw[e]at hop o2;rw[hop];have o1:s1.o=s.o+1:=o1;have o2:s2.o=s1.o:=o2;exact Rs.some ⟨RepN.k1 hr,hx.close hT (by omega)⟩
  ·rw[hop,e];exact Rs.some ⟨hp,rfl⟩
 ·rw[hop,e];exact Rs.some ⟨hp,rfl⟩
theorem fz0(hT:TokN N T){f q:Nat}(hE:HE N T pr f q)(s:PS)(x:StT)(h:RS N T pr s x)(ho:jX T (f+1) s≠ .out):
 Rs (bg8 (q+1) x) (PN N T pr (jX T (f+1) s)):=by
 show Rs ((jQ (next q) (kK q) (take q) (mK q) (name q) (is q) (tP q) (af8 q) x some).map ad6) _;refine Rs.map (P:=λy=>PN N T pr (jX T (f+1) s) (ad6 y)) ?_ λz hz=>hz;unfold jQ;rw[gH q h];dsimp only[Option.bind_some]
 have hop:jX T (f+1) s=if(T s.p).k=2 then tA T s
  else if isP T w_true s=true then .ok (.node 16 1 ⟨#[]⟩ []) (adv s)
  else if isP T w_false s=true then .ok (.node 16 0 ⟨#[]⟩ []) (adv s)
  else if isP T ch7 s=true then(y7 T eo6 (adv s)).bind λ_ s1=>(fD T s1).bind λx s2=>.ok (.node 18 0 x []) s2
  else if isP T nG s=true then(eG T nG s).bind λ_ s1=>(o9 T f 1 s1).bind λn s2=>(y7 T jS s2).bind λ_ s3=>.ok n (lI s3)
  else(fD T s).bind λx s1=>.ok (.node 17 0 x []) s1:=by rw[jX]
 by_cases hk:(T s.p).k=2
 ·rw[if_pos hk]at hop;refine Rs.pos (by simp[hk]) ?_;refine PN.bind (xI hT q h) (λt s1 k n b m c x1 e hr hx=>?_) (λp c e hp=>?_)
  ·rw[hop,e];exact Rs.some ⟨hr,hx⟩
  ·rw[hop,e];exact Rs.some ⟨hp,rfl⟩
 ·rw[if_neg hk]at hop;refine Rs.neg (by simp[hk]) ?_;rw[iK q h];dsimp only[Option.bind_some];by_cases h1:isP T w_true s=true
  ·rw[if_pos h1]at hop⊢;refine Rs.pos rfl ?_;rw[hop];exact Rs.some ⟨RepN.leaf,RS.adv hT h (u6 (by decide) h1)⟩
  ·rw[if_neg h1]at hop⊢;refine Rs.neg (by simp) ?_;rw[iK q h];dsimp only[Option.bind_some];by_cases h2:isP T w_false s=true
   ·rw[if_pos h2]at hop⊢;refine Rs.pos rfl ?_;rw[hop];exact Rs.some ⟨RepN.leaf,RS.adv hT h (u6 (by decide) h2)⟩
   ·rw[if_neg h2]at hop⊢;refine Rs.neg (by simp) ?_;rw[iK q h];dsimp only[Option.bind_some];by_cases h3:isP T ch7 s=true
    ·rw[if_pos h3]at hop⊢;refine Rs.pos rfl ?_;refine PU.bind (rR hT q (RS.adv hT h (u6 (by decide) h3)) eo6 (by decide)) (λs1 x1 e1 g1=>?_) (λp c e hp=>?_)
     ·rw[e1]at hop;dsimp only[PR.bind]at hop;refine PX.bind (bm4 hT q g1) (λa s2 x2 e2 g2=>?_) (λp c e hp=>?_)
      ·rw[hop,e2];exact Rs.some ⟨RepN.leaf,g2⟩
      ·rw[hop,e];exact Rs.some ⟨hp,rfl⟩
     ·rw[hop,e];exact Rs.some ⟨hp,rfl⟩
    ·rw[if_neg h3]at hop⊢;refine Rs.neg (by simp) ?_;rw[cg5 q h];dsimp only[Option.bind_some];by_cases h4:isP T nG s=true
     ·rw[if_pos h4]at hop;refine Rs.pos h4 ?_;refine PU.bind (cp0 hT q h nG (by decide)) (λs1 x1 e1 g1=>?_) (λp c e hp=>?_)
      ·have o1:=zG (T:=T) nG s;rw[e1]at hop o1;dsimp only[PR.bind]at hop;refine PN.bind (hE f (Nat.le_refl _) 1 (by decide) (by decide) s1 x1 g1 (PR.bind_out (hop▸ho))) (λt s2 k n b m c x2 e hr hx=>?_) (λp c e hp=>?_)
       ·have o2:=(ae9 (T:=T) f).1 1 s1;rw[e]at hop o2;dsimp only[PR.bind]at hop;refine PU.bind (rR hT q hx jS (by decide)) (λs3 x3 e3 g3=>?_) (λp c e hp=>?_)
        ·have o3:=yG (T:=T) jS s2;rw[e3]at hop o3;have o1:s1.o=s.o+1:=o1;have o2:s2.o=s1.o:=o2;have o3:s3.o=s2.o:=o3;rw[hop];exact Rs.some ⟨hr,g3.close hT (by omega)⟩
        ·rw[hop,e];exact Rs.some ⟨hp,rfl⟩
       ·rw[hop,e];exact Rs.some ⟨hp,rfl⟩
      ·rw[hop,e];exact Rs.some ⟨hp,rfl⟩
     ·rw[if_neg h4]at hop;refine Rs.neg h4 ?_;refine PX.bind (bm4 hT q h) (λa s2 x2 e2 g2=>?_) (λp c e hp=>?_)
      ·rw[hop,e2];exact Rs.some ⟨RepN.leaf,g2⟩
      ·rw[hop,e];exact Rs.some ⟨hp,rfl⟩
theorem hq5(hT:TokN N T):∀f q,f+1<=q->HE N T pr f q/\HU N T pr f q/\HP N T pr f q:=by
 intro f
 induction f with
 |zero=>
  intro q _;refine⟨λg hg lv _ _ s x _ ho=>?_,λg hg b _ lv _ _ s x _ ho=>?_,λg hg s x _ ho=>?_⟩
  all_goals
   obtain rfl:g=0:=by omega
  ·rw[o9]at ho;exact absurd rfl ho
  ·rw[fQ]at ho;exact absurd rfl ho
  ·rw[jX]at ho;exact absurd rfl ho
 |succ f ih=>
  intro q hq;obtain⟨q,rfl⟩:∃k,q=k+1:=⟨q-1,by omega⟩;obtain⟨a1,a2,a3⟩:=ih (q+1) (by omega);obtain⟨b1,b2,b3⟩:=ih q (by omega);refine⟨λg hg lv h1 h2 s x h ho=>?_,λg hg b hb lv h1 h2 s x h ho=>?_,λg hg s x h ho=>?_⟩
  ·by_cases e:g<=f
   ·exact a1 g e lv h1 h2 s x h ho
   ·obtain rfl:g=f+1:=by omega
    exact gb0 hT (by omega) b1 b2 b3 lv h1 h2 s x h ho
  ·by_cases e:g<=f
   ·exact a2 g e b hb lv h1 h2 s x h ho
   ·obtain rfl:g=f+1:=by omega
    exact fc0 hT b1 b hb lv h1 h2 s x h ho
  ·by_cases e:g<=f
   ·exact a3 g e s x h ho
   ·obtain rfl:g=f+1:=by omega
    exact fz0 hT b1 s x h ho
end
end Go.Proofs.YtjfkkokeegpeiaaDoor
/- Statements without blocks are read as the plain parser reads them. -/
namespace Go.Proofs.YtjfkkokeegpeiaaDoor
open Go Go.Am Go.Proofs.Lx
set_option maxRecDepth 100000
theorem PR.bind_assoc{α β γ:Type}(r:PR α)(f:α->PS->PR β)(g:β->PS->PR γ):(r.bind f).bind g=r.bind λa s=>(f a s).bind g:=by cases r<;>rfl
section
variable (T:Nat->Tkn)
def ee9(f:Nat)(s:PS):PR Tr:=(zL T s).bind λa s1=>(y7 T cm8 s1).bind λ_ s2=>(o9 T f 1 s2).bind λn s3=>.ok (.node 1 0 a [n]) s3
def ed1(f:Nat)(s:PS):PR Tr:=(fD T s).bind λa s1=>(y7 T cm8 s1).bind λ_ s2=>(o9 T f 1 s2).bind λn s3=>.ok (.node 2 0 a [n]) s3
def am4(f:Nat)(s:PS):PR Tr:=(o9 T f 1 s).bind λc s1=>(y7 T w_within s1).bind λ_ s2=>(tA T s2).bind λn s3=>.ok (.node 6 0 ⟨#[]⟩ [c,n]) s3
def eh3(k:Int)(s:PS):PR Tr:=(tA T s).bind λn s2=>.ok (.node k 0 ⟨#[]⟩ [n]) s2
def ei9(f:Nat)(k:Int)(s:PS):PR Tr:=(o9 T f 1 s).bind λn s2=>.ok (.node k 0 ⟨#[]⟩ [n]) s2
def ee5(k hi:Int)(s:PS):PR Tr:=(tB T 0 hi s).bind λn s1=>.ok (.node k n ⟨#[]⟩ []) s1
def dr3(k:Int)(b:ByteArray)(s:PS):PR Tr:=(tB T 0 7 s).bind λn s1=>(y7 T b s1).bind λ_ s2=>(tA T s2).bind λm s3=>.ok (.node k n ⟨#[]⟩ [m]) s3
end
theorem fd6(T:Nat->Tkn)(f:Nat)(s:PS):((zL T s).bind λx s1=>el7 T f 1 x s1)=(ee9 T f s).bind (Lx.endP T):=by
 simp only[ee9,el7,PR.bind_assoc];rfl
theorem eu5(T:Nat->Tkn)(f:Nat)(s:PS):((fD T s).bind λx s1=>el7 T f 2 x s1)=(ed1 T f s).bind (Lx.endP T):=by
 simp only[ed1,el7,PR.bind_assoc];rfl
theorem cl2(T:Nat->Tkn)(f:Nat)(s:PS):dn2 T f s=(am4 T f s).bind (Lx.endP T):=by
 simp only[am4,dn2,PR.bind_assoc];rfl
theorem bo3(T:Nat->Tkn)(k:Int)(s:PS):ga8 T k s=(eh3 T k s).bind (Lx.endP T):=by
 simp only[eh3,ga8,PR.bind_assoc];rfl
theorem bq5(T:Nat->Tkn)(f:Nat)(k:Int)(s:PS):oneP T f k s=(ei9 T f k s).bind (Lx.endP T):=by
 simp only[ei9,oneP,PR.bind_assoc];rfl
theorem bu3(T:Nat->Tkn)(k hi:Int)(s:PS):fu2 T k hi s=(ee5 T k hi s).bind (Lx.endP T):=by
 simp only[ee5,fu2,PR.bind_assoc];rfl
theorem bv9(T:Nat->Tkn)(k:Int)(b:ByteArray)(s:PS):fq6 T k b s=(dr3 T k b s).bind (Lx.endP T):=by
 simp only[dr3,fq6,PR.bind_assoc];rfl
section
variable {N:Nat} {T:Nat->Tkn} {pr:List ByteArray} {s:PS} {x:StT}
theorem fw0(hT:TokN N T){f q:Nat}(hE:HE N T pr f q)(h:RS N T pr s x)(ho:ed1 T f s≠ .out):Rs (assign q x) (PN N T pr (ed1 T f s)):=by
 unfold assign;refine Rs.map (P:=λy=>PN N T pr (ed1 T f s) (bu9 y)) ?_ λz hz=>hz;unfold de9 uU;have hop:ed1 T f s=(fD T s).bind λa s1=>(y7 T cm8 s1).bind λ_ s2=>(o9 T f 1 s2).bind λn s3=>.ok (.node 2 0 a [n]) s3:=rfl;refine PX.bind (bm4 hT q h) (λa s1 x1 e1 g1=>?_) (λp c e hp=>?_)
 ·rw[e1]at hop;dsimp only[PR.bind]at hop;refine PU.bind (rR hT q g1 cm8 (by decide)) (λs2 x2 e2 g2=>?_) (λp c e hp=>?_)
  ·rw[e2]at hop;dsimp only[PR.bind]at hop;refine PN.bind (hE f (Nat.le_refl _) 1 (by decide) (by decide) s2 x2 g2 (PR.bind_out (hop▸ho))) (λt s3 k n b m c x3 e hr hx=>?_) (λp c e hp=>?_)
   ·rw[hop,e];exact Rs.some ⟨RepN.k1 hr,hx⟩
   ·(rw[hop,e];exact Rs.some ⟨hp,rfl⟩)
  ·(rw[hop,e];exact Rs.some ⟨hp,rfl⟩)
 ·(rw[hop,e];exact Rs.some ⟨hp,rfl⟩)
theorem hv4(hT:TokN N T){f q:Nat}(hq:20<=q)(hE:HE N T pr f q)(h:RS N T pr s x)(hne:(T s.p).t≠⟨#[]⟩\/(T s.p).k≠0)(ho:ee9 T f (adv s)≠ .out):Rs (fp9 q x) (PN N T pr (ee9 T f (adv s))):=by
 unfold fp9;refine Rs.map (P:=λy=>PN N T pr (ee9 T f (adv s)) (dm2 y)) ?_ λz hz=>hz;unfold gp4 at0;have hop:ee9 T f (adv s)=(zL T (adv s)).bind λa s1=>(y7 T cm8 s1).bind λ_ s2=>(o9 T f 1 s2).bind λn s3=>.ok (.node 1 0 a [n]) s3:=rfl;refine PX.bind (ba5 hT q hq (h.adv hT hne)) (λa s1 x1 e1 g1=>?_) (λp c e hp=>?_)
 ·rw[e1]at hop;dsimp only[PR.bind]at hop;refine PU.bind (rR hT q g1 cm8 (by decide)) (λs2 x2 e2 g2=>?_) (λp c e hp=>?_)
  ·rw[e2]at hop;dsimp only[PR.bind]at hop;refine PN.bind (hE f (Nat.le_refl _) 1 (by decide) (by decide) s2 x2 g2 (PR.bind_out (hop▸ho))) (λt s3 k n b m c x3 e hr hx=>?_) (λp c e hp=>?_)
   ·rw[hop,e];exact Rs.some ⟨RepN.k1 hr,hx⟩
   ·(rw[hop,e];exact Rs.some ⟨hp,rfl⟩)
  ·(rw[hop,e];exact Rs.some ⟨hp,rfl⟩)
 ·(rw[hop,e];exact Rs.some ⟨hp,rfl⟩)
theorem RepN.two{k n:Int}{s:ByteArray}{ta tb:Tr}{a b:n4}(ha:RepN ta a)(hb:RepN tb b):RepN (.node k n s [ta,tb]) (k,n,s,2,λj=>[i64 (if j<1 then a.1 else b.1),i64 (if j<1 then a.2.1 else b.2.1),st (if j<1 then a.2.2.1 else b.2.2.1),.ro 4 (if j<1 then a.2.2.2.1 else b.2.2.2.1) λi=>if j<1 then a.2.2.2.2 i else b.2.2.2.2 i]):=by
 simp only[RepN,rW,List.length_cons,List.length_nil];exact⟨trivial,trivial,trivial,trivial,⟨a,rfl,ha⟩,⟨b,rfl,hb⟩,trivial⟩
theorem gn2(hT:TokN N T){f q:Nat}(hE:HE N T pr f q)(h:RS N T pr s x)(hne:(T s.p).t≠⟨#[]⟩\/(T s.p).k≠0)(ho:am4 T f (adv s)≠ .out):Rs (await q x) (PN N T pr (am4 T f (adv s))):=by
 unfold await;refine Rs.map (P:=λy=>PN N T pr (am4 T f (adv s)) (cr5 y)) ?_ λz hz=>hz;unfold fa3 aa2;have hop:am4 T f (adv s)=(o9 T f 1 (adv s)).bind λc s1=>(y7 T w_within s1).bind λ_ s2=>(tA T s2).bind λn s3=>.ok (.node 6 0 ⟨#[]⟩ [c,n]) s3:=rfl;refine PN.bind (hE f (Nat.le_refl _) 1 (by decide) (by decide) (adv s) _ (h.adv hT hne) (PR.bind_out ho)) (λt s1 k n b m c x1 e1 hr1 g1=>?_) (λp c e hp=>?_)
 ·rw[e1]at hop;dsimp only[PR.bind]at hop;refine PU.bind (rR hT q g1 w_within (by decide)) (λs2 x2 e2 g2=>?_) (λp c e hp=>?_)
  ·rw[e2]at hop;dsimp only[PR.bind]at hop;refine PN.bind (xI hT q g2) (λt2 s3 k2 n2 b2 m2 c2 x3 e hr hx=>?_) (λp c e hp=>?_)
   ·rw[hop,e];exact Rs.some ⟨RepN.two hr1 hr,hx⟩
   ·(rw[hop,e];exact Rs.some ⟨hp,rfl⟩)
  ·(rw[hop,e];exact Rs.some ⟨hp,rfl⟩)
 ·(rw[hop,e];exact Rs.some ⟨hp,rfl⟩)
theorem dc6(hT:TokN N T)(q:Nat)(h:RS N T pr s x)(hne:(T s.p).t≠⟨#[]⟩\/(T s.p).k≠0):Rs (bn5 q x) (PN N T pr (eh3 T (if isP T yW s=true then 11 else 5) (adv s))):=by
 unfold bn5;refine Rs.map (P:=λy=>PN N T pr (eh3 T (if isP T yW s=true then 11 else 5) (adv s)) (bn8 y)) ?_ λz hz=>hz;unfold dk9 vP;rw[cg5 q h];dsimp only[Option.bind_some];by_cases hi:isP T yW s=true
 ·refine Rs.pos hi ?_;rw[if_pos hi];have hop:eh3 T 11 (adv s)=(tA T (adv s)).bind λn s2=>.ok (.node 11 0 ⟨#[]⟩ [n]) s2:=rfl;refine PN.bind (xI hT q (h.adv hT hne)) (λt2 s3 k2 n2 b2 m2 c2 x3 e hr hx=>?_) (λp c e hp=>?_)
  ·rw[hop,e];exact Rs.some ⟨RepN.k1 hr,hx⟩
  ·(rw[hop,e];exact Rs.some ⟨hp,rfl⟩)
 ·refine Rs.neg hi ?_;rw[if_neg hi];have hop:eh3 T 5 (adv s)=(tA T (adv s)).bind λn s2=>.ok (.node 5 0 ⟨#[]⟩ [n]) s2:=rfl;refine PN.bind (xI hT q (h.adv hT hne)) (λt2 s3 k2 n2 b2 m2 c2 x3 e hr hx=>?_) (λp c e hp=>?_)
  ·rw[hop,e];exact Rs.some ⟨RepN.k1 hr,hx⟩
  ·(rw[hop,e];exact Rs.some ⟨hp,rfl⟩)
theorem cz7(hT:TokN N T){f q:Nat}(hE:HE N T pr f q)(h:RS N T pr s x)(hne:(T s.p).t≠⟨#[]⟩\/(T s.p).k≠0)(ho:o9 T f 1 (adv s)≠ .out):Rs (bn3 q x) (PN N T pr (ei9 T f (if isP T rI s=true then 8 else 7) (adv s))):=by
 unfold bn3;refine Rs.map (P:=λy=>PN N T pr (ei9 T f (if isP T rI s=true then 8 else 7) (adv s)) (bq6 y)) ?_ λz hz=>hz;unfold dq9 vD;rw[cg5 q h];dsimp only[Option.bind_some];by_cases hi:isP T rI s=true
 ·refine Rs.pos hi ?_;rw[if_pos hi];have hop:ei9 T f 8 (adv s)=(o9 T f 1 (adv s)).bind λn s2=>.ok (.node 8 0 ⟨#[]⟩ [n]) s2:=rfl;refine PN.bind (hE f (Nat.le_refl _) 1 (by decide) (by decide) (adv s) _ (h.adv hT hne) ho) (λt2 s3 k2 n2 b2 m2 c2 x3 e hr hx=>?_) (λp c e hp=>?_)
  ·rw[hop,e];exact Rs.some ⟨RepN.k1 hr,hx⟩
  ·(rw[hop,e];exact Rs.some ⟨hp,rfl⟩)
 ·refine Rs.neg hi ?_;rw[if_neg hi];have hop:ei9 T f 7 (adv s)=(o9 T f 1 (adv s)).bind λn s2=>.ok (.node 7 0 ⟨#[]⟩ [n]) s2:=rfl;refine PN.bind (hE f (Nat.le_refl _) 1 (by decide) (by decide) (adv s) _ (h.adv hT hne) ho) (λt2 s3 k2 n2 b2 m2 c2 x3 e hr hx=>?_) (λp c e hp=>?_)
  ·rw[hop,e];exact Rs.some ⟨RepN.k1 hr,hx⟩
  ·(rw[hop,e];exact Rs.some ⟨hp,rfl⟩)
def cf5(T:Nat->Tkn)(s:PS):PR Tr:=if isP T yV s=true then ee5 T 12 99 (adv s)else if isP T uE s=true then ee5 T 13 999 (adv s)else if isP T w_use s=true then dr3 T 9 w_for (adv s)else dr3 T 10 mN (adv s)
theorem go5(hT:TokN N T)(q:Nat)(h:RS N T pr s x)(hne:(T s.p).t≠⟨#[]⟩\/(T s.p).k≠0)(kd:Int)(bb:ByteArray)(hb:bb≠⟨#[]⟩):
 Rs ((oI q (0,7,w (x.1+1),x.2)).bind λz=>Sum.elim (λza=>(mK q (bb,za.2)).bind λy=>Sum.elim (λya=>(kK q ya).bind λv=>Sum.elim (λva=>(some (.inr (.inl (kd,za.1,(⟨#[]⟩:ByteArray),va))):Option eZ)) (λvb=>some (.inr (.inr vb))) v) (λyb=>some (.inr (.inr yb))) y) (λzb=>some (.inr (.inr zb))) z) (λy=>PN N T pr (dr3 T kd bb (adv s)) (sB y)):=by
 have hop:dr3 T kd bb (adv s)=(tB T 0 7 (adv s)).bind λn s1=>(y7 T bb s1).bind λ_ s2=>(tA T s2).bind λm s3=>.ok (.node kd n ⟨#[]⟩ [m]) s3:=rfl;refine PX.bind (av4 hT q (h.adv hT hne) 0 7) (λa s1 x1 e1 g1=>?_) (λp c e hp=>?_)
 ·rw[e1]at hop;dsimp only[PR.bind]at hop;refine PU.bind (rR hT q g1 bb hb) (λs2 x2 e2 g2=>?_) (λp c e hp=>?_)
  ·rw[e2]at hop;dsimp only[PR.bind]at hop;refine PN.bind (xI hT q g2) (λt2 s3 k2 n2 b2 m2 c2 x3 e hr hx=>?_) (λp c e hp=>?_)
   ·rw[hop,e];exact Rs.some ⟨RepN.k1 hr,hx⟩
   ·(rw[hop,e];exact Rs.some ⟨hp,rfl⟩)
  ·(rw[hop,e];exact Rs.some ⟨hp,rfl⟩)
 ·(rw[hop,e];exact Rs.some ⟨hp,rfl⟩)
theorem gj8(hT:TokN N T)(q:Nat)(h:RS N T pr s x)(hne:(T s.p).t≠⟨#[]⟩\/(T s.p).k≠0)(kd hi:Int):
 Rs ((oI q (0,hi,w (x.1+1),x.2)).bind λz=>Sum.elim (λza=>(some (.inl (kd,za.1,(⟨#[]⟩:ByteArray),za.2)):Option eZ)) (λzb=>some (.inr (.inr zb))) z) (λy=>PN N T pr (ee5 T kd hi (adv s)) (sB y)):=by
 have hop:ee5 T kd hi (adv s)=(tB T 0 hi (adv s)).bind λn s1=>.ok (.node kd n ⟨#[]⟩ []) s1:=rfl;refine PX.bind (av4 hT q (h.adv hT hne) 0 hi) (λa s1 x1 e1 g1=>?_) (λp c e hp=>?_)
 ·rw[hop,e1];exact Rs.some ⟨RepN.leaf,g1⟩
 ·(rw[hop,e];exact Rs.some ⟨hp,rfl⟩)
theorem yA(hT:TokN N T)(q:Nat)(h:RS N T pr s x)(hne:(T s.p).t≠⟨#[]⟩\/(T s.p).k≠0):Rs (numbered q x) (PN N T pr (cf5 T s)):=by
 unfold numbered;refine Rs.map (P:=λy=>PN N T pr (cf5 T s) (sB y)) ?_ λz hz=>hz;unfold bp7 nT cf5;rw[gH q h];dsimp only[Option.bind_some];rw[oU,oU,oU];by_cases h1:isP T yV s=true
 ·rw[if_pos h1];exact Rs.pos h1 (gj8 hT q h hne 12 99)
 ·rw[if_neg h1];refine Rs.neg h1 ?_;by_cases h2:isP T uE s=true
  ·rw[if_pos h2];exact Rs.pos h2 (gj8 hT q h hne 13 999)
  ·rw[if_neg h2];refine Rs.neg h2 ?_;by_cases h3:isP T w_use s=true
   ·rw[if_pos h3];exact Rs.pos h3 (go5 hT q h hne 9 w_for (by decide))
   ·rw[if_neg h3];exact Rs.neg h3 (go5 hT q h hne 10 mN (by decide))
end
end Go.Proofs.YtjfkkokeegpeiaaDoor
/- Blocks are read as the plain parser reads them. -/
namespace Go.Proofs.YtjfkkokeegpeiaaDoor
open Go Go.Am Go.Proofs.Lx
set_option maxRecDepth 100000
section
variable {T:Nat->Tkn}
theorem Op.of{α:Type}{o o':Nat}{r:PR α}(h:Op o r)(e:o=o'):Op o' r:=e▸h
theorem Op.ite{α:Type}{o:Nat}{c:Prop}[Decidable c]{a b:PR α}(h1:Op o a)(h2:Op o b):Op o (if c then a else b):=by
 by_cases h:c
 ·rw[if_pos h];exact h1
 ·rw[if_neg h];exact h2
theorem hf6(s:PS):Op s.o (zL T s):=by
 unfold zL;refine(cd3 s).bind λa s1 e=>?_
 repeat' split
 all_goals first|trivial|exact e
theorem hs8(n:Tr)(s:PS):Op s.o (Lx.endP T n s):=(yG aj6 s).bind λ_ s1 e=>e
theorem gx1(f:Nat)(s:PS):Op s.o (ee9 T f s):=(hf6 s).bind λa s1 e1=>(yG cm8 s1).bind λ_ s2 e2=>((ae9 (T:=T) f).1 1 s2).bind λn s3 e3=>by show s3.o=s.o;omega
theorem hi0(f:Nat)(s:PS):Op s.o (ed1 T f s):=(cd3 s).bind λa s1 e1=>(yG cm8 s1).bind λ_ s2 e2=>((ae9 (T:=T) f).1 1 s2).bind λn s3 e3=>by show s3.o=s.o;omega
theorem ft5(f:Nat)(s:PS):Op s.o (am4 T f s):=((ae9 (T:=T) f).1 1 s).bind λn s1 e1=>(yG w_within s1).bind λ_ s2 e2=>(dm3 s2).bind λm s3 e3=>by show s3.o=s.o;omega
theorem fn6(k:Int)(s:PS):Op s.o (eh3 T k s):=(dm3 s).bind λn s1 e1=>e1
theorem fh4(f:Nat)(k:Int)(s:PS):Op s.o (ei9 T f k s):=((ae9 (T:=T) f).1 1 s).bind λn s1 e1=>e1
theorem ff4(k hi:Int)(s:PS):Op s.o (ee5 T k hi s):=(dq0 0 hi s).bind λn s1 e1=>e1
theorem fh5(k:Int)(b:ByteArray)(s:PS):Op s.o (dr3 T k b s):=(dq0 0 7 s).bind λn s1 e1=>(yG b s1).bind λ_ s2 e2=>(dm3 s2).bind λm s3 e3=>by show s3.o=s.o;omega
theorem pB{r:PR Tr}{o:Nat}(h:Op o r):Op o (r.bind (Lx.endP T)):=h.bind λn s e=>(hs8 n s).of e
theorem ho3:∀f,(∀s,Op s.o (bC T f s))/\(∀s,Op s.o (dZ T f s))/\(∀s,Op s.o (xQ T f s)):=by
 intro f
 induction f with
 |zero=>exact⟨λ_=>by rw[bC];trivial,λ_=>by rw[dZ];trivial,λ_=>by rw[xQ];trivial⟩
 |succ f ih=>
  obtain⟨h1,h2,h3⟩:=ih;refine⟨λs=>?_,λs=>?_,λs=>?_⟩
  ·rw[bC];refine(zG cv8 s).bind λ_ s1 e1=>(h2 s1).bind λl s2 e2=>?_;show s2.o-1=s.o;omega
  ·rw[dZ];split
   ·rfl
   ·exact(h3 s).bind λn s1 e1=>(h2 s1).bind λl s2 e2=>by show s2.o=s.o;omega
  ·rw[xQ];refine Op.ite ?_ ?_
   ·rw[fd6];exact pB (gx1 f (adv s))
   refine Op.ite ?_ ?_
   ·refine((ae9 (T:=T) f).1 1 (adv s)).bind λc s1 e1=>(h1 s1).bind λy s2 e2=>?_;have e1:s1.o=s.o:=e1;refine Op.ite ?_ ?_
    ·exact(h1 (adv s2)).bind λn s3 e3=>by
      have e3:s3.o=s2.o:=e3;show s3.o=s.o;omega
    ·show s2.o=s.o;omega
   refine Op.ite ?_ ?_
   ·exact(dq0 1 100 (adv s)).bind λn s1 e1=>(h1 s1).bind λy s2 e2=>by
     have e1:s1.o=s.o:=e1;show s2.o=s.o;omega
   refine Op.ite ?_ ?_
   ·rw[cl2];exact pB (ft5 f (adv s))
   refine Op.ite ?_ ?_
   ·rw[bo3];exact pB (fn6 5 (adv s))
   refine Op.ite ?_ ?_
   ·rw[bo3];exact pB (fn6 11 (adv s))
   refine Op.ite ?_ ?_
   ·rw[bq5];exact pB (fh4 f 7 (adv s))
   refine Op.ite ?_ ?_
   ·rw[bq5];exact pB (fh4 f 8 (adv s))
   refine Op.ite ?_ ?_
   ·rw[bv9];exact pB (fh5 9 w_for (adv s))
   refine Op.ite ?_ ?_
   ·rw[bv9];exact pB (fh5 10 mN (adv s))
   refine Op.ite ?_ ?_
   ·rw[bu3];exact pB (ff4 12 99 (adv s))
   refine Op.ite ?_ ?_
   ·rw[bu3];exact pB (ff4 13 999 (adv s))
   ·rw[eu5];exact pB (hi0 f s)
end
abbrev Z0:Type:=Nat×(Nat->Int)×(Nat->Int)×(Nat->ByteArray)×(Nat->Int)×Int×Int×Nat×Nat×(Nat->ByteArray)×(Nat->ByteArray)
abbrev df8:Type:=(Nat->Int)×(Nat->Int)×(Nat->ByteArray)×(Nat->Nat)×(Nat->Nat->List V)×Nat
def z0(x:StT):Z0:=(x.2.2.1,x.2.2.2.1,x.2.2.2.2.1,x.2.2.2.2.2.1,x.2.2.2.2.2.2.1,x.1,x.2.1,x.2.2.2.2.2.2.2.1,x.2.2.2.2.2.2.2.2.2.1,x.2.2.2.2.2.2.2.2.1,x.2.2.2.2.2.2.2.2.2.2)
def za(x:StT)(a:df8):Nat×(Nat->Int)×(Nat->Int)×(Nat->ByteArray)×(Nat->Int)×Int×Int×Nat×Nat×(Nat->ByteArray)×(Nat->ByteArray)×df8:=(x.2.2.1,x.2.2.2.1,x.2.2.2.2.1,x.2.2.2.2.2.1,x.2.2.2.2.2.2.1,x.1,x.2.1,x.2.2.2.2.2.2.2.1,x.2.2.2.2.2.2.2.2.2.1,x.2.2.2.2.2.2.2.2.1,x.2.2.2.2.2.2.2.2.2.2,a)
def zb(x:StT)(a:df8):Nat×(Nat->Int)×(Nat->Int)×(Nat->ByteArray)×(Nat->Int)×Int×Int×Nat×Nat×(Nat->ByteArray)×(Nat->ByteArray)×Nat×(Nat->Int)×(Nat->Int)×(Nat->ByteArray)×(Nat->Nat)×(Nat->Nat->List V):=(x.2.2.1,x.2.2.2.1,x.2.2.2.2.1,x.2.2.2.2.2.1,x.2.2.2.2.2.2.1,x.1,x.2.1,x.2.2.2.2.2.2.2.1,x.2.2.2.2.2.2.2.2.2.1,x.2.2.2.2.2.2.2.2.1,x.2.2.2.2.2.2.2.2.2.2,a.2.2.2.2.2,a.1,a.2.1,a.2.2.1,a.2.2.2.1,a.2.2.2.2.1)
def RepA(l:List Tr)(a:df8):Prop:=a.2.2.2.2.2=l.length/\∀j t,l[j]? =some t->RepN t (a.1 j,a.2.1 j,a.2.2.1 j,a.2.2.2.1 j,a.2.2.2.2.1 j)
theorem ff1{f:Nat->List V}:∀(l:List Tr) (i:Nat),(∀j t,l[j]? =some t->∃y:n4,f (i+j)=[i64 y.1,i64 y.2.1,st y.2.2.1,.ro 4 y.2.2.2.1 y.2.2.2.2]/\RepN t y)->rW l f i
 | [],_,_=>by simp[rW]
 |t::l,i,h=>by
  simp only[rW];refine⟨h 0 t rfl,ff1 l (i+1) λj t' e=>?_⟩;have:=h (j+1) t' (by simpa using e)
  rwa [show i+(j+1)=i+1+j by omega]at this
theorem RepA.node{l:List Tr}{a:df8}(h:RepA l a):RepN (.node 14 0 ⟨#[]⟩ l) (14,0,⟨#[]⟩,a.2.2.2.2.2,λj=>[i64 (a.1 j),i64 (a.2.1 j),st (a.2.2.1 j),.ro 4 (a.2.2.2.1 j) (a.2.2.2.2.1 j)]):=by
 simp only[RepN];refine⟨trivial,trivial,trivial,h.1,ff1 l 0 λj t e=>⟨(a.1 j,a.2.1 j,a.2.2.1 j,a.2.2.2.1 j,a.2.2.2.2.1 j),by rw[Nat.zero_add],h.2 j t e⟩⟩
def ig8(y:n4):df8:=(λ_=>y.1,λ_=>y.2.1,λ_=>y.2.2.1,λ_=>y.2.2.2.1,λ_=>y.2.2.2.2,1)
theorem gf8{t:Tr}{y:n4}(h:RepN t y):RepA [t] (ig8 y):=by
 refine⟨rfl,λj t' e=>?_⟩;cases j with
 |zero=>simp only[List.getElem?_cons_zero,Option.some.injEq]at e;subst e;exact h
 |succ j=>simp at e
def gm6(a:df8)(y:n4):df8:=(λj=>if j<a.2.2.2.2.2 then a.1 j else y.1,λj=>if j<a.2.2.2.2.2 then a.2.1 j else y.2.1,λj=>if j<a.2.2.2.2.2 then a.2.2.1 j else y.2.2.1,λj=>if j<a.2.2.2.2.2 then a.2.2.2.1 j else y.2.2.2.1,λj i=>if j<a.2.2.2.2.2 then a.2.2.2.2.1 j i else y.2.2.2.2 i,a.2.2.2.2.2+1)
theorem gc7{l:List Tr}{a:df8}{t:Tr}{y:n4}(h:RepA l a)(g:RepN t y):RepA (l++[t]) (gm6 a y):=by
 refine⟨by simp[gm6,h.1],λj t' e=>?_⟩;by_cases hj:j<l.length
 ·rw[List.getElem?_append_left hj]at e;have:=h.2 j t' e;simp only[gm6,h.1,hj,if_true];exact this
 ·rw[List.getElem?_append_right (by omega)]at e;simp only[gm6,h.1,hj,if_false];cases hk:j-l.length with
  |zero=>rw[hk]at e;simp only[List.getElem?_cons_zero,Option.some.injEq]at e;subst e;exact g
  |succ n=>rw[hk]at e;simp at e
section
variable {N:Nat} {T:Nat->Tkn} {pr:List ByteArray}
def BL(N:Nat)(T:Nat->Tkn)(pr:List ByteArray)(acc:List Tr):PR (List Tr)->mV->Prop
 | .ok l s,.inr (.inl z)=>acc++l=[]/\∃x,z=z0 x/\RS N T pr s x
 | .ok l s,.inr (.inr z)=>∃x a,z=zb x a/\RepA (acc++l) a/\RS N T pr s x
 | .err p c,.inl e=>p<N/\e=((T p).a,c)
 |_,_=>False
def BS(acc:List Tr)(x:StT):bR->Prop
 | .inl y=>acc=[]/\y=z0 x
 | .inr y=>∃a,y=za x a/\RepA acc a
def HS(N:Nat)(T:Nat->Tkn)(pr:List ByteArray)(f q:Nat):Prop:=∀g,g<=f->∀(s:PS) (x:StT),RS N T pr s x->xQ T g s≠ .out->Rs (ac0 q x) (PN N T pr (xQ T g s))
def HB(N:Nat)(T:Nat->Tkn)(pr:List ByteArray)(f q:Nat):Prop:=∀g,g<=f->∀(s:PS) (x:StT),RS N T pr s x->bC T g s≠ .out->Rs (block q x) (PN N T pr (bC T g s))
theorem eu1(hT:TokN N T){f q:Nat}(hS:HS N T pr f q)(x0:StT):∀(g:Nat),g<=f->∀(m:Nat),g<m->∀(acc:List Tr) (s:PS) (x:StT) (y:bR),BS acc x y->acc.length+g<=1000000000->RS N T pr s x->dZ T g s≠ .out->
 Rs (qW (tP q) (take q) (ac0 q) m x0 y) (BL N T pr acc (dZ T g s)):=by
 intro g
 induction g with
 |zero=>intro _ m _ acc s x y _ _ _ ho;rw[dZ]at ho;exact absurd rfl ho
 |succ g ih=>
  intro hg m hm acc s x y hy hb h ho;obtain⟨m,rfl⟩:∃k,m=k+1:=⟨m-1,by omega⟩;unfold qW;refine Rs.step3 λQ hQ=>?_;have h0:=h;obtain⟨v,u,rfl,h1,h2,h3,h4,h5,h6⟩:=h;have hop:dZ T (g+1) s=if isP T dk1 s=true then .ok [] (adv s)else(xQ T g s).bind λn s1=>(dZ T g s1).bind λl s2=>.ok (n::l) s2:=by rw[dZ]
  rcases y with y|y
  ·obtain⟨rfl,rfl⟩:=hy;rw[Sum.elim_inl];unfold kN;dsimp only[z0];rw[iK q (s:=s) (pr:=pr) (N:=N) (T:=T) h0];dsimp only[Option.bind_some];by_cases hi:isP T dk1 s=true
   ·rw[if_pos hi]at hop⊢;refine Rs.neg (by simp) (Rs.some ?_);show BL N T pr [] (dZ T (g+1) s) _;rw[hop];exact⟨rfl,_,rfl,h0.adv hT (u6 (by decide) hi)⟩
   ·rw[if_neg hi]at hop⊢;refine Rs.pos (by simp) ?_;refine PN.bind (hS g (by omega) s _ h0 (PR.bind_out (hop▸ho))) (λt s2 k1 n1 b1 m1 c1 x1 e hr hx=>?_) (λp c e hp=>?_)
    ·rw[e]at hop;dsimp only[PR.bind]at hop;refine Rs.some (hQ _ ?_);have ho2:=PR.bind_out (hop▸ho);refine(ih (by omega) m (by omega) [t] s2 x1 (.inr (za x1 (ig8 (k1,n1,b1,m1,c1)))) ⟨_,rfl,gf8 hr⟩ (by simp;omega) hx ho2).mono λz hz=>?_;rw[hop];cases hr2:dZ T g s2 with
     |out=>exact absurd hr2 ho2
     |err p c=>rw[hr2]at hz;rcases z with z|z|z<;>exact hz
     |ok l s3=>
      rw[hr2]at hz;rcases z with z|z|z
      ·exact hz.elim
      ·exact absurd hz.1 (by simp)
      ·exact hz
    ·refine Rs.some ?_;show BL N T pr [] (dZ T (g+1) s) _;rw[hop,e];exact⟨hp,rfl⟩
  ·obtain⟨a,rfl,ha⟩:=hy;rw[Sum.elim_inr];unfold kJ;dsimp only[za];rw[iK q (s:=s) (pr:=pr) (N:=N) (T:=T) h0];dsimp only[Option.bind_some];by_cases hi:isP T dk1 s=true
   ·rw[if_pos hi]at hop⊢;refine Rs.neg (by simp) (Rs.some ?_);show BL N T pr acc (dZ T (g+1) s) _;rw[hop];exact⟨_,a,rfl,by rw[List.append_nil];exact ha,h0.adv hT (u6 (by decide) hi)⟩
   ·rw[if_neg hi]at hop⊢;refine Rs.pos (by simp) ?_;refine PN.bind (hS g (by omega) s _ h0 (PR.bind_out (hop▸ho))) (λt s2 k1 n1 b1 m1 c1 x1 e hr hx=>?_) (λp c e hp=>?_)
    ·rw[e]at hop;dsimp only[PR.bind]at hop;have hal:=ha.1;refine Rs.pos ⟨by unfold d5;omega,by unfold maxLen;omega,Nat.le_refl _⟩ (Rs.some (hQ _ ?_));have ho2:=PR.bind_out (hop▸ho);refine(ih (by omega) m (by omega) (acc++[t]) s2 x1 (.inr (za x1 (gm6 a (k1,n1,b1,m1,c1)))) ⟨_,rfl,gc7 ha hr⟩ (by simp;omega) hx ho2).mono λz hz=>?_;rw[hop];cases hr2:dZ T g s2 with
     |out=>exact absurd hr2 ho2
     |err p c=>rw[hr2]at hz;rcases z with z|z|z<;>exact hz
     |ok l s3=>
      rw[hr2]at hz;rcases z with z|z|z
      ·exact hz.elim
      ·exact absurd hz.1 (by simp)
      ·obtain⟨x2,a2,e1,e2,e3⟩:=hz;exact⟨x2,a2,e1,by simpa using e2,e3⟩
    ·refine Rs.some ?_;show BL N T pr acc (dZ T (g+1) s) _;rw[hop,e];exact⟨hp,rfl⟩
end
end Go.Proofs.YtjfkkokeegpeiaaDoor
/- Statements are read as the plain parser reads them. -/
namespace Go.Proofs.YtjfkkokeegpeiaaDoor
open Go Go.Am Go.Proofs.Lx
set_option maxRecDepth 100000
section
variable (T:Nat->Tkn)
def brQ(f:Nat)(s:PS):PR Tr:=(o9 T f 1 s).bind λc s1=>(bC T f s1).bind λy s2=>
 if isP T w_else s2=true then(bC T f (adv s2)).bind λn s3=>.ok (.node 3 0 ⟨#[]⟩ [c,y,n]) s3 else .ok (.node 3 0 ⟨#[]⟩ [c,y,.node 14 0 ⟨#[]⟩ []]) s2
def gg2(f:Nat)(s:PS):PR Tr:=(tB T 1 100 s).bind λn s1=>(bC T f s1).bind λy s2=>.ok (.node 4 n ⟨#[]⟩ [y]) s2
end
section
variable {N:Nat} {T:Nat->Tkn} {pr:List ByteArray} {s:PS} {x:StT}
theorem fa9(hT:TokN N T){f q:Nat}(hq:f<q)(hf:f<=1000000000)(hS:HS N T pr f q)(h:RS N T pr s x)(ho:bC T (f+1) s≠ .out):Rs (block (q+1) x) (PN N T pr (bC T (f+1) s)):=by
 show Rs ((rX (tP q) (take q) (ac0 q) (qW (tP q) (take q) (ac0 q) q x) x some).map bm1) _;refine Rs.map (P:=λy=>PN N T pr (bC T (f+1) s) (bm1 y)) ?_ λz hz=>hz;unfold rX;have hop:bC T (f+1) s=(eG T cv8 s).bind λ_ s1=>(dZ T f s1).bind λl s2=>.ok (.node 14 0 ⟨#[]⟩ l) (lI s2):=by rw[bC]
 refine PU.bind (cp0 hT q h cv8 (by decide)) (λs1 x1 e1 g1=>?_) (λp c e hp=>?_)
 ·have o1:=zG (T:=T) cv8 s;rw[e1]at hop o1;dsimp only[PR.bind]at hop;have o1:s1.o=s.o+1:=o1;have ho2:=PR.bind_out (hop▸ho);refine Rs.bind (eu1 hT hS x f (Nat.le_refl _) q hq [] s1 x1 (.inl (z0 x1)) ⟨rfl,rfl⟩ (by simpa using hf) g1 ho2) λz hz=>?_;rw[hop];have o2:=(ho3 (T:=T) f).2.1 s1;cases hr2:dZ T f s1 with
  |out=>exact absurd hr2 ho2
  |err p c=>
   rw[hr2]at hz;rcases z with z|z|z
   ·exact Rs.some hz
   ·exact hz.elim
   ·exact hz.elim
  |ok l s2=>
   rw[hr2]at hz o2;have o2:s2.o=s1.o:=o2;rcases z with z|z|z
   ·exact hz.elim
   ·obtain⟨e1,x2,rfl,g3⟩:=hz;simp only[List.nil_append]at e1;subst e1;exact Rs.some ⟨RepN.leaf,g3.close hT (by omega)⟩
   ·obtain⟨x2,a,rfl,ha,g3⟩:=hz;exact Rs.some ⟨RepA.node ha,g3.close hT (by omega)⟩
 ·(rw[hop,e];exact Rs.some ⟨hp,rfl⟩)
theorem fu5(hT:TokN N T){f q:Nat}(hB:HB N T pr f q)(h:RS N T pr s x)(hne:(T s.p).t≠⟨#[]⟩\/(T s.p).k≠0)(ho:gg2 T f (adv s)≠ .out):Rs (fg5 (q+1) x) (PN N T pr (gg2 T f (adv s))):=by
 show Rs ((jH (oI q) (block q) x some).map ag2) _;refine Rs.map (P:=λy=>PN N T pr (gg2 T f (adv s)) (ag2 y)) ?_ λz hz=>hz;unfold jH;have hop:gg2 T f (adv s)=(tB T 1 100 (adv s)).bind λn s1=>(bC T f s1).bind λy s2=>.ok (.node 4 n ⟨#[]⟩ [y]) s2:=rfl;refine PX.bind (av4 hT q (h.adv hT hne) 1 100) (λa s1 x1 e1 g1=>?_) (λp c e hp=>?_)
 ·rw[e1]at hop;dsimp only[PR.bind]at hop;refine PN.bind (hB f (Nat.le_refl _) s1 x1 g1 (PR.bind_out (hop▸ho))) (λt s3 k n b m c x3 e hr hx=>?_) (λp c e hp=>?_)
  ·rw[hop,e];exact Rs.some ⟨RepN.k1 hr,hx⟩
  ·(rw[hop,e];exact Rs.some ⟨hp,rfl⟩)
 ·(rw[hop,e];exact Rs.some ⟨hp,rfl⟩)
theorem ft4(hT:TokN N T){f q:Nat}(hE:HE N T pr f q)(hB:HB N T pr f q)(h:RS N T pr s x)(hne:(T s.p).t≠⟨#[]⟩\/(T s.p).k≠0)(ho:brQ T f (adv s)≠ .out):Rs (gt1 (q+1) x) (PN N T pr (brQ T f (adv s))):=by
 show Rs ((nM (af8 q) (block q) (take q) x some).map vL) _;refine Rs.map (P:=λy=>PN N T pr (brQ T f (adv s)) (vL y)) ?_ λz hz=>hz;unfold nM
 have hop:brQ T f (adv s)=(o9 T f 1 (adv s)).bind λc s1=>(bC T f s1).bind λy s2=>
  if isP T w_else s2=true then(bC T f (adv s2)).bind λn s3=>.ok (.node 3 0 ⟨#[]⟩ [c,y,n]) s3 else .ok (.node 3 0 ⟨#[]⟩ [c,y,.node 14 0 ⟨#[]⟩ []]) s2:=rfl
 refine PN.bind (hE f (Nat.le_refl _) 1 (by decide) (by decide) (adv s) _ (h.adv hT hne) (PR.bind_out ho)) (λt1 s1 k1 n1 b1 m1 c1 x1 e1 hr1 g1=>?_) (λp c e hp=>?_)
 ·rw[e1]at hop;dsimp only[PR.bind]at hop;refine PN.bind (hB f (Nat.le_refl _) s1 x1 g1 (PR.bind_out (hop▸ho))) (λt2 s2 k2 n2 b2 m2 c2 x2 e2 hr2 g2=>?_) (λp c e hp=>?_)
  ·rw[e2]at hop;dsimp only[PR.bind]at hop;rw[iK q g2];dsimp only[Option.bind_some];by_cases hi:isP T w_else s2=true
   ·rw[if_pos hi]at hop⊢;refine Rs.pos rfl ?_;refine PN.bind (hB f (Nat.le_refl _) (adv s2) _ (g2.adv hT (u6 (by decide) hi)) (PR.bind_out (hop▸ho))) (λt3 s3 k3 n3 b3 m3 c3 x3 e hr hx=>?_) (λp c e hp=>?_)
    ·rw[hop,e];refine Rs.some ⟨?_,hx⟩;simp only[RepN,rW,List.length_cons,List.length_nil,vL,Sum.elim_inl];exact⟨trivial,trivial,trivial,trivial,⟨(k1,n1,b1,m1,c1),rfl,hr1⟩,⟨(k2,n2,b2,m2,c2),rfl,hr2⟩,⟨(k3,n3,b3,m3,c3),rfl,hr⟩,trivial⟩
    ·(rw[hop,e];exact Rs.some ⟨hp,rfl⟩)
   ·rw[if_neg hi]at hop⊢;refine Rs.neg (by simp) ?_;rw[hop];refine Rs.some ⟨?_,g2⟩;simp only[RepN,rW,List.length_cons,List.length_nil,vL,Sum.elim_inl];exact⟨trivial,trivial,trivial,trivial,⟨(k1,n1,b1,m1,c1),rfl,hr1⟩,⟨(k2,n2,b2,m2,c2),rfl,hr2⟩,⟨(14,0,⟨#[]⟩,0,λ_=>[]),rfl,by simp⟩,trivial⟩
  ·(rw[hop,e];exact Rs.some ⟨hp,rfl⟩)
 ·(rw[hop,e];exact Rs.some ⟨hp,rfl⟩)
theorem oY(hT:TokN N T)(q:Nat){r:PR Tr}{o:Option bK}(h:Rs o (PN N T pr r)):
 Rs (o.bind λz=>Sum.elim (λza=>(mK q (aj6,za.2.2.2.2.2)).bind λy=>Sum.elim (λya=>(some (.inl (za.1,za.2.1,za.2.2.1,za.2.2.2.1,za.2.2.2.2.1,ya)):Option gE)) (λyb=>some (.inr yb)) y) (λzb=>some (.inr zb)) z) (λy=>PN N T pr (r.bind (Lx.endP T)) (dH y)):=by
 refine PN.bind h (λt s3 k n b m c x3 e hr hx=>?_) (λp c e hp=>?_)
 ·subst e;refine PU.bind (rR hT q hx aj6 (by decide)) (λs4 x4 e4 g4=>?_) (λp c e hp=>?_)
  ·show Rs _ λy=>PN N T pr (Lx.endP T t s3) (dH y);unfold Lx.endP;rw[e4];exact Rs.some ⟨hr,g4⟩
  ·show Rs _ λy=>PN N T pr (Lx.endP T t s3) (dH y);unfold Lx.endP;rw[e];exact Rs.some ⟨hp,rfl⟩
 ·subst e;exact Rs.some ⟨hp,rfl⟩
theorem fn0{r:PR Tr}{o:Option bK}(h:Rs o (PN N T pr r)):
 Rs (o.bind λz=>Sum.elim (λza=>(some (.inl za):Option gE)) (λzb=>some (.inr zb)) z) (λy=>PN N T pr r (dH y)):=by
 refine PN.bind h (λt s3 k n b m c x3 e hr hx=>?_) (λp c e hp=>?_)
 ·subst e;exact Rs.some ⟨hr,hx⟩
 ·subst e;exact Rs.some ⟨hp,rfl⟩
theorem au6{a b:ByteArray}(hab:a≠b)(h:isP T a s=true):¬isP T b s=true:=by
 simp only[isP,decide_eq_true_eq]at h⊢;rw[h];exact hab
theorem fw8(hT:TokN N T){f q:Nat}(hq:20<=q)(hE:HE N T pr f (q+1))(hE0:HE N T pr f q)(hB:HB N T pr f q)(h:RS N T pr s x)(ho:xQ T (f+1) s≠ .out):Rs (ac0 (q+2) x) (PN N T pr (xQ T (f+1) s)):=by
 show Rs ((dJ (next (q+1)) (fp9 (q+1)) (gt1 (q+1)) (fg5 (q+1)) (await (q+1)) (bn5 (q+1)) (bn3 (q+1)) (numbered (q+1)) (assign (q+1)) (mK (q+1)) x some).map dH) _;refine Rs.map (P:=λy=>PN N T pr (xQ T (f+1) s) (dH y)) ?_ λz hz=>hz;unfold dJ;rw[gH (q+1) h];dsimp only[Option.bind_some];simp only[oU]
 have hop:xQ T (f+1) s=if isP T w_let s=true then(zL T (adv s)).bind λx s1=>el7 T f 1 x s1
  else if isP T w_if s=true then brQ T f (adv s)
  else if isP T w_repeat s=true then gg2 T f (adv s)
  else if isP T w_await s=true then dn2 T f (adv s)
  else if isP T be2 s=true then ga8 T 5 (adv s)
  else if isP T yW s=true then ga8 T 11 (adv s)
  else if isP T qO s=true then oneP T f 7 (adv s)
  else if isP T rI s=true then oneP T f 8 (adv s)
  else if isP T w_use s=true then fq6 T 9 w_for (adv s)
  else if isP T w_send s=true then fq6 T 10 mN (adv s)
  else if isP T yV s=true then fu2 T 12 99 (adv s)
  else if isP T uE s=true then fu2 T 13 999 (adv s)
  else(fD T s).bind λx s1=>el7 T f 2 x s1:=by rw[xQ];rfl
 by_cases c1:isP T w_let s=true
 ·rw[if_pos c1,fd6]at hop;rw[hop];exact Rs.pos c1 (oY hT (q+1) (hv4 hT (by omega) hE h (u6 (by decide) c1) (PR.bind_out (hop▸ho))))
 rw[if_neg c1]at hop;refine Rs.neg c1 ?_;by_cases c2:isP T w_if s=true
 ·rw[if_pos c2]at hop;rw[hop];exact Rs.pos c2 (fn0 (ft4 hT hE0 hB h (u6 (by decide) c2) (hop▸ho)))
 rw[if_neg c2]at hop;refine Rs.neg c2 ?_;by_cases c3:isP T w_repeat s=true
 ·rw[if_pos c3]at hop;rw[hop];exact Rs.pos c3 (fn0 (fu5 hT hB h (u6 (by decide) c3) (hop▸ho)))
 rw[if_neg c3]at hop;refine Rs.neg c3 ?_;by_cases c4:isP T w_await s=true
 ·rw[if_pos c4,cl2]at hop;rw[hop];exact Rs.pos c4 (oY hT (q+1) (gn2 hT hE h (u6 (by decide) c4) (PR.bind_out (hop▸ho))))
 rw[if_neg c4]at hop;refine Rs.neg c4 ?_;by_cases c5:isP T be2 s=true
 ·rw[if_pos c5,bo3]at hop;rw[hop];have:=dc6 hT (q+1) h (u6 (by decide) c5);rw[if_neg (au6 (by decide) c5)]at this;exact Rs.pos c5 (oY hT (q+1) this)
 rw[if_neg c5]at hop;refine Rs.neg c5 ?_;by_cases c6:isP T yW s=true
 ·rw[if_pos c6,bo3]at hop;rw[hop];have:=dc6 hT (q+1) h (u6 (by decide) c6);rw[if_pos c6]at this;exact Rs.pos c6 (oY hT (q+1) this)
 rw[if_neg c6]at hop;refine Rs.neg c6 ?_;by_cases c7:isP T qO s=true
 ·rw[if_pos c7,bq5]at hop;rw[hop];have:=cz7 hT hE h (u6 (by decide) c7) (PR.bind_out (PR.bind_out (hop▸ho)));rw[if_neg (au6 (by decide) c7)]at this;exact Rs.pos c7 (oY hT (q+1) this)
 rw[if_neg c7]at hop;refine Rs.neg c7 ?_;by_cases c8:isP T rI s=true
 ·rw[if_pos c8,bq5]at hop;rw[hop];have:=cz7 hT hE h (u6 (by decide) c8) (PR.bind_out (PR.bind_out (hop▸ho)));rw[if_pos c8]at this;exact Rs.pos c8 (oY hT (q+1) this)
 rw[if_neg c8]at hop;refine Rs.neg c8 ?_;by_cases c9:isP T w_use s=true
 ·rw[if_pos c9,bv9]at hop;rw[hop];have:=yA hT (q+1) h (u6 (by decide) c9);unfold cf5 at this;rw[if_neg (au6 (by decide) c9),if_neg (au6 (by decide) c9),if_pos c9]at this;exact Rs.pos c9 (oY hT (q+1) this)
 rw[if_neg c9]at hop;refine Rs.neg c9 ?_;by_cases c10:isP T w_send s=true
 ·rw[if_pos c10,bv9]at hop;rw[hop];have:=yA hT (q+1) h (u6 (by decide) c10);unfold cf5 at this;rw[if_neg (au6 (by decide) c10),if_neg (au6 (by decide) c10),if_neg c9]at this;exact Rs.pos c10 (oY hT (q+1) this)
 rw[if_neg c10]at hop;refine Rs.neg c10 ?_;by_cases c11:isP T yV s=true
 ·rw[if_pos c11,bu3]at hop;rw[hop];have:=yA hT (q+1) h (u6 (by decide) c11);unfold cf5 at this;rw[if_pos c11]at this;exact Rs.pos c11 (oY hT (q+1) this)
 rw[if_neg c11]at hop;refine Rs.neg c11 ?_;by_cases c12:isP T uE s=true
 ·rw[if_pos c12,bu3]at hop;rw[hop];have:=yA hT (q+1) h (u6 (by decide) c12);unfold cf5 at this;rw[if_neg c11,if_pos c12]at this;exact Rs.pos c12 (oY hT (q+1) this)
 rw[if_neg c12]at hop;refine Rs.neg c12 ?_;rw[eu5]at hop;rw[hop];exact oY hT (q+1) (fw0 hT hE h (PR.bind_out (hop▸ho)))
end
end Go.Proofs.YtjfkkokeegpeiaaDoor
/- Statements are read as the plain parser reads them (2). -/
namespace Go.Proofs.YtjfkkokeegpeiaaDoor
open Go Go.Am Go.Proofs.Lx
set_option maxRecDepth 100000
section
variable {N:Nat} {T:Nat->Tkn} {pr:List ByteArray}
theorem if4(hT:TokN N T):∀f,f<=1000000000->∀q,2*f+22<=q->HS N T pr f q/\HB N T pr f q:=by
 intro f
 induction f with
 |zero=>
  intro _ q _;refine⟨λg hg s x _ ho=>?_,λg hg s x _ ho=>?_⟩
  all_goals
   obtain rfl:g=0:=by omega
  ·rw[xQ]at ho;exact absurd rfl ho
  ·rw[bC]at ho;exact absurd rfl ho
 |succ f ih=>
  intro hf q hq;obtain⟨q,rfl⟩:∃k,q=k+2:=⟨q-2,by omega⟩;obtain⟨a1,a2⟩:=ih (by omega) (q+2) (by omega);obtain⟨b1,b2⟩:=ih (by omega) (q+1) (by omega);obtain⟨c1,c2⟩:=ih (by omega) q (by omega);refine⟨λg hg s x h ho=>?_,λg hg s x h ho=>?_⟩
  ·by_cases e:g<=f
   ·exact a1 g e s x h ho
   ·obtain rfl:g=f+1:=by omega
    exact fw8 hT (by omega) (hq5 hT f (q+1) (by omega)).1 (hq5 hT f q (by omega)).1 c2 h ho
  ·by_cases e:g<=f
   ·exact a2 g e s x h ho
   ·obtain rfl:g=f+1:=by omega
    exact fa9 hT (by omega) (by omega) b1 h ho
end
end Go.Proofs.YtjfkkokeegpeiaaDoor
/- Parameters are read as the plain parser reads them. -/
namespace Go.Proofs.YtjfkkokeegpeiaaDoor
open Go Go.Am Go.Proofs.Lx
set_option maxRecDepth 100000
section
variable (T:Nat->Tkn)
def fI:Nat->PS->PR (List Prm)
 |0,_=>.out
 |f+1,s=>(ga3 T s).bind λx s1=>if isP T mN s1=true then(fI f (adv s1)).bind λl s2=>.ok (x::l) s2 else .ok [x] s1
theorem fg9:∀f s,cf6 T f s=(fI T f s).bind λl s2=>(y7 T jS s2).bind λ_ s3=>.ok l s3
 |0,s=>by rw[cf6,fI];rfl
 |f+1,s=>by
  rw[cf6,fI,PR.bind_assoc];congr 1;funext x s1;by_cases h:isP T mN s1=true
  ·rw[if_pos h,if_pos h,fg9 f,PR.bind_assoc,PR.bind_assoc];congr 1;funext l s2;show((y7 T jS s2).bind λ_ s3=>PR.ok l s3).bind _=(y7 T jS s2).bind _;rw[PR.bind_assoc];rfl
  ·rw[if_neg h,if_neg h];rfl
end
abbrev PrT:Type:=(Nat->ByteArray)×(Nat->ByteArray)×Nat
def zq(x:StT)(a:PrT):Nat×(Nat->Int)×(Nat->Int)×(Nat->ByteArray)×(Nat->Int)×Int×Int×Nat×Nat×(Nat->ByteArray)×(Nat->ByteArray)×PrT:=(x.2.2.1,x.2.2.2.1,x.2.2.2.2.1,x.2.2.2.2.2.1,x.2.2.2.2.2.2.1,x.1,x.2.1,x.2.2.2.2.2.2.2.1,x.2.2.2.2.2.2.2.2.2.1,x.2.2.2.2.2.2.2.2.1,x.2.2.2.2.2.2.2.2.2.2,a)
def ix8(l:List Prm)(a:PrT):Prop:=a.2.2=l.length/\∀j m,l[j]? =some m->a.1 j=m.x/\a.2.1 j=m.u
def hw3(x u:ByteArray):PrT:=(λ_=>x,λ_=>u,1)
theorem bf3(x u:ByteArray):ix8 [⟨x,u⟩] (hw3 x u):=by
 refine⟨rfl,λj m e=>?_⟩;cases j with
 |zero=>simp only[List.getElem?_cons_zero,Option.some.injEq]at e;subst e;exact⟨rfl,rfl⟩
 |succ j=>simp at e
def gb9(a:PrT)(x u:ByteArray):PrT:=(λj=>if j<a.2.2 then a.1 j else x,λj=>if j<a.2.2 then a.2.1 j else u,a.2.2+1)
theorem bf4{l:List Prm}{a:PrT}(h:ix8 l a)(x u:ByteArray):ix8 (l++[⟨x,u⟩]) (gb9 a x u):=by
 refine⟨by simp[gb9,h.1],λj m e=>?_⟩;by_cases hj:j<l.length
 ·rw[List.getElem?_append_left hj]at e;have:=h.2 j m e;simp only[gb9,h.1,hj,if_true];exact this
 ·rw[List.getElem?_append_right (by omega)]at e;simp only[gb9,h.1,hj,if_false];cases hk:j-l.length with
  |zero=>rw[hk]at e;simp only[List.getElem?_cons_zero,Option.some.injEq]at e;subst e;exact⟨rfl,rfl⟩
  |succ n=>rw[hk]at e;simp at e
section
variable {N:Nat} {T:Nat->Tkn} {pr:List ByteArray}
def BQ(N:Nat)(T:Nat->Tkn)(pr:List ByteArray)(acc:List Prm):PR (List Prm)->kL->Prop
 | .ok l s,.inr z=>∃x a,z=zq x a/\ix8 (acc++l) a/\RS N T pr s x
 | .err p c,.inl e=>p<N/\e=((T p).a,c)
 |_,_=>False
def QS(acc:List Prm)(x:StT):aG->Prop
 | .inl y=>acc=[]/\y=z0 x
 | .inr y=>∃a,y=zq x a/\ix8 acc a
theorem gn8{s:PS}{x:StT}(h:RS N T pr (adv s) x):s.p+1<N:=h.choose_spec.choose_spec.2.2.2.1
theorem gc1(hT:TokN N T){q:Nat}(hq:20<=q)(x0:bU):∀(g:Nat),∀(m:Nat),g<m->∀(acc:List Prm) (s:PS) (x:StT) (y:aG),QS acc x y->acc.length+g<=1000000000->RS N T pr s x->fI T g s≠ .out->
 Rs (wE (mK q) (take q) (pA q) (next q) (xB q) (fail q) m x0 y) (BQ N T pr acc (fI T g s)):=by
 intro g
 induction g with
 |zero=>intro m _ acc s x y _ _ _ ho;rw[fI]at ho;exact absurd rfl ho
 |succ g ih=>
  intro m hm acc s x y hy hb h ho;obtain⟨m,rfl⟩:∃k,m=k+1:=⟨m-1,by omega⟩;unfold wE;refine Rs.step3 λQ hQ=>?_;have h0:=h;obtain⟨v,u,rfl,h1,h2,h3,h4,h5,h6⟩:=h;have hop:fI T (g+1) s=(ga3 T s).bind λx s1=>if isP T mN s1=true then(fI T g (adv s1)).bind λl s2=>.ok (x::l) s2 else .ok [x] s1:=by rw[fI]
  have hpp:ga3 T s=(zL T s).bind λx s1=>if isP T cl8 s1=true then(if(T (s1.p+1)).k≠1 then .err (s1.p+1) 11 else if vW (T (s1.p+1)).t=false then .err (s1.p+1) 10 else .ok ⟨x,(T (s1.p+1)).t⟩ (adv (adv s1)))else .ok ⟨x,⟨#[]⟩⟩ s1:=rfl
  rcases y with y|y
  ·obtain⟨rfl,rfl⟩:=hy;rw[Sum.elim_inl];unfold gU;dsimp only[z0,zq];refine PX.bind (ba5 hT q hq h0) (λb s1 x1 e1 g1=>?_) (λp c e hp=>?_)
   ·rw[e1]at hpp;dsimp only[PR.bind]at hpp⊢;rw[iK q g1];dsimp only[Option.bind_some];by_cases hc:isP T cl8 s1=true
    ·rw[if_pos hc]at hpp⊢;refine Rs.pos rfl ?_;have g2:=RS.adv hT g1 (u6 (by decide) hc);have hl2:s1.p+1<N:=gn8 g2;rw[gH q g2];dsimp only[Option.bind_some];refine Rs.bind (bp4 q (T (adv s1).p).t) λz hz=>?_;by_cases hk:(T (s1.p+1)).k=1
     ·refine Rs.neg (by simpa[Lx.adv]using hk) ?_;rw[if_neg (λh=>h hk)]at hpp;by_cases hu:vW (T (s1.p+1)).t=false
      ·rw[if_pos hu]at hpp;rw[hpp]at hop;refine Rs.pos (by rw[hz];simpa[Lx.adv]using hu) ?_;rw[fY q g2];refine Rs.some ?_;show BQ N T pr [] (fI T (g+1) s) _;rw[hop];exact⟨hl2,rfl⟩
      ·rw[if_neg hu]at hpp;rw[hpp]at hop;dsimp only[PR.bind]at hop;refine Rs.neg (by rw[hz];simpa[Lx.adv]using hu) ?_;have g3:=RS.adv hT g2 (.inr (by show(T (s1.p+1)).k≠0;rw[hk];decide));dsimp only at g3⊢;rw[iK q g3];dsimp only[Option.bind_some];by_cases hi:isP T mN (adv (adv s1))=true
       ·rw[if_pos hi]at hop⊢;refine Rs.neg (by simp) (Rs.some (hQ _ ?_));have ho2:=PR.bind_out (hop▸ho);refine(ih m (by omega) ([]++[⟨b,(T (s1.p+1)).t⟩]) (adv (adv (adv s1))) _ (.inr (zq (w ((w (w (x1.1+1)+1),x1.2).1+1),(w (w (x1.1+1)+1),x1.2).2) (hw3 b (T (s1.p+1)).t))) ⟨_,rfl,(bf3 b (T (s1.p+1)).t)⟩ (by simp at hb⊢;omega) (RS.adv hT g3 (u6 (by decide) hi)) ho2).mono λz hz=>?_;rw[hop];cases hr2:fI T g (adv (adv (adv s1)))with
        |out=>exact absurd hr2 ho2
        |err p c=>rw[hr2]at hz;rcases z with z|z<;>exact hz
        |ok l s3=>
         rw[hr2]at hz;rcases z with z|z
         ·exact hz.elim
         ·obtain⟨x2,a2,e1,e2,e3⟩:=hz;exact⟨x2,a2,e1,by simpa using e2,e3⟩
       ·rw[if_neg hi]at hop⊢;refine Rs.pos (by simp) (Rs.some ?_);show BQ N T pr [] (fI T (g+1) s) _;rw[hop];exact⟨_,_,rfl,(bf3 b (T (s1.p+1)).t),g3⟩
     ·rw[if_pos hk]at hpp;rw[hpp]at hop;refine Rs.pos (by simpa[Lx.adv]using hk) ?_;rw[fY q g2];refine Rs.some ?_;show BQ N T pr [] (fI T (g+1) s) _;rw[hop];exact⟨hl2,rfl⟩
    ·rw[if_neg hc]at hpp⊢;rw[hpp]at hop;dsimp only[PR.bind]at hop;refine Rs.neg (by simp) ?_;dsimp only;rw[iK q g1];dsimp only[Option.bind_some];by_cases hi:isP T mN s1=true
     ·rw[if_pos hi]at hop⊢;refine Rs.neg (by simp) (Rs.some (hQ _ ?_));have ho2:=PR.bind_out (hop▸ho);refine(ih m (by omega) ([]++[⟨b,⟨#[]⟩⟩]) (adv s1) _ (.inr (zq (w (x1.1+1),x1.2) (hw3 b ⟨#[]⟩))) ⟨_,rfl,(bf3 b ⟨#[]⟩)⟩ (by simp at hb⊢;omega) (RS.adv hT g1 (u6 (by decide) hi)) ho2).mono λz hz=>?_;rw[hop];cases hr2:fI T g (adv s1)with
      |out=>exact absurd hr2 ho2
      |err p c=>rw[hr2]at hz;rcases z with z|z<;>exact hz
      |ok l s3=>
       rw[hr2]at hz;rcases z with z|z
       ·exact hz.elim
       ·obtain⟨x2,a2,e1,e2,e3⟩:=hz;exact⟨x2,a2,e1,by simpa using e2,e3⟩
     ·rw[if_neg hi]at hop⊢;refine Rs.pos (by simp) (Rs.some ?_);show BQ N T pr [] (fI T (g+1) s) _;rw[hop];exact⟨_,_,rfl,(bf3 b ⟨#[]⟩),g1⟩
   ·rw[e]at hpp;rw[hpp]at hop;refine Rs.some ?_;show BQ N T pr [] (fI T (g+1) s) _;rw[hop];exact⟨hp,rfl⟩
  ·obtain⟨a,rfl,ha⟩:=hy;have hal:=ha.1;rw[Sum.elim_inr];unfold gS;dsimp only[z0,zq];refine PX.bind (ba5 hT q hq h0) (λb s1 x1 e1 g1=>?_) (λp c e hp=>?_)
   ·rw[e1]at hpp;dsimp only[PR.bind]at hpp⊢;rw[iK q g1];dsimp only[Option.bind_some];by_cases hc:isP T cl8 s1=true
    ·rw[if_pos hc]at hpp⊢;refine Rs.pos rfl ?_;have g2:=RS.adv hT g1 (u6 (by decide) hc);have hl2:s1.p+1<N:=gn8 g2;rw[gH q g2];dsimp only[Option.bind_some];refine Rs.bind (bp4 q (T (adv s1).p).t) λz hz=>?_;by_cases hk:(T (s1.p+1)).k=1
     ·refine Rs.neg (by simpa[Lx.adv]using hk) ?_;rw[if_neg (λh=>h hk)]at hpp;by_cases hu:vW (T (s1.p+1)).t=false
      ·rw[if_pos hu]at hpp;rw[hpp]at hop;refine Rs.pos (by rw[hz];simpa[Lx.adv]using hu) ?_;rw[fY q g2];refine Rs.some ?_;show BQ N T pr acc (fI T (g+1) s) _;rw[hop];exact⟨hl2,rfl⟩
      ·rw[if_neg hu]at hpp;rw[hpp]at hop;dsimp only[PR.bind]at hop;refine Rs.neg (by rw[hz];simpa[Lx.adv]using hu) ?_;have g3:=RS.adv hT g2 (.inr (by show(T (s1.p+1)).k≠0;rw[hk];decide));dsimp only at g3⊢;refine Rs.pos ⟨by unfold d5;omega,by unfold maxLen;omega,Nat.le_refl _⟩ ?_;rw[iK q g3];dsimp only[Option.bind_some];by_cases hi:isP T mN (adv (adv s1))=true
       ·rw[if_pos hi]at hop⊢;refine Rs.neg (by simp) (Rs.some (hQ _ ?_));have ho2:=PR.bind_out (hop▸ho);refine(ih m (by omega) (acc++[⟨b,(T (s1.p+1)).t⟩]) (adv (adv (adv s1))) _ (.inr (zq (w ((w (w (x1.1+1)+1),x1.2).1+1),(w (w (x1.1+1)+1),x1.2).2) (gb9 a b (T (s1.p+1)).t))) ⟨_,rfl,(bf4 ha b (T (s1.p+1)).t)⟩ (by simp at hb⊢;omega) (RS.adv hT g3 (u6 (by decide) hi)) ho2).mono λz hz=>?_;rw[hop];cases hr2:fI T g (adv (adv (adv s1)))with
        |out=>exact absurd hr2 ho2
        |err p c=>rw[hr2]at hz;rcases z with z|z<;>exact hz
        |ok l s3=>
         rw[hr2]at hz;rcases z with z|z
         ·exact hz.elim
         ·obtain⟨x2,a2,e1,e2,e3⟩:=hz;exact⟨x2,a2,e1,by simpa using e2,e3⟩
       ·rw[if_neg hi]at hop⊢;refine Rs.pos (by simp) (Rs.some ?_);show BQ N T pr acc (fI T (g+1) s) _;rw[hop];exact⟨_,_,rfl,(bf4 ha b (T (s1.p+1)).t),g3⟩
     ·rw[if_pos hk]at hpp;rw[hpp]at hop;refine Rs.pos (by simpa[Lx.adv]using hk) ?_;rw[fY q g2];refine Rs.some ?_;show BQ N T pr acc (fI T (g+1) s) _;rw[hop];exact⟨hl2,rfl⟩
    ·rw[if_neg hc]at hpp⊢;rw[hpp]at hop;dsimp only[PR.bind]at hop;refine Rs.neg (by simp) ?_;dsimp only;refine Rs.pos ⟨by unfold d5;omega,by unfold maxLen;omega,Nat.le_refl _⟩ ?_;rw[iK q g1];dsimp only[Option.bind_some];by_cases hi:isP T mN s1=true
     ·rw[if_pos hi]at hop⊢;refine Rs.neg (by simp) (Rs.some (hQ _ ?_));have ho2:=PR.bind_out (hop▸ho);refine(ih m (by omega) (acc++[⟨b,⟨#[]⟩⟩]) (adv s1) _ (.inr (zq (w (x1.1+1),x1.2) (gb9 a b ⟨#[]⟩))) ⟨_,rfl,(bf4 ha b ⟨#[]⟩)⟩ (by simp at hb⊢;omega) (RS.adv hT g1 (u6 (by decide) hi)) ho2).mono λz hz=>?_;rw[hop];cases hr2:fI T g (adv s1)with
      |out=>exact absurd hr2 ho2
      |err p c=>rw[hr2]at hz;rcases z with z|z<;>exact hz
      |ok l s3=>
       rw[hr2]at hz;rcases z with z|z
       ·exact hz.elim
       ·obtain⟨x2,a2,e1,e2,e3⟩:=hz;exact⟨x2,a2,e1,by simpa using e2,e3⟩
     ·rw[if_neg hi]at hop⊢;refine Rs.pos (by simp) (Rs.some ?_);show BQ N T pr acc (fI T (g+1) s) _;rw[hop];exact⟨_,_,rfl,(bf4 ha b ⟨#[]⟩),g1⟩
   ·rw[e]at hpp;rw[hpp]at hop;refine Rs.some ?_;show BQ N T pr acc (fI T (g+1) s) _;rw[hop];exact⟨hp,rfl⟩
end
end Go.Proofs.YtjfkkokeegpeiaaDoor
/- Procedures are read as the plain parser reads them. -/
namespace Go.Proofs.YtjfkkokeegpeiaaDoor
open Go Go.Am Go.Proofs.Lx
set_option maxRecDepth 100000
section
variable {N:Nat} {T:Nat->Tkn} {pr:List ByteArray} {s:PS} {x:StT}
def PPm(N:Nat)(T:Nat->Tkn)(pr:List ByteArray):PR (List Prm)->(Nat×(Nat->ByteArray)×(Nat->ByteArray)×StT)⊕(Int×Int)->Prop
 | .ok l s,.inl z=>ix8 l (z.2.1,z.2.2.1,z.1)/\RS N T pr s z.2.2.2
 | .err p c,.inr e=>p<N/\e=((T p).a,c)
 |_,_=>False
theorem fb4(hT:TokN N T){f q:Nat}(hq:20<=q)(hf:f<q)(hf2:f<=1000000000)(h:RS N T pr s x)(ho:mC T f s≠ .out):Rs (cd5 q x) (λy=>PPm N T pr (mC T f s) (at2 y)):=by
 unfold cd5 uQ
 have hop:mC T f s=(y7 T nG s).bind λ_ s1=>if isP T jS s1=true then .ok [] (adv s1)else(fI T f s1).bind λl s2=>(y7 T jS s2).bind λ_ s3=>.ok l s3:=by
  unfold mC;simp only[fg9]
 refine PU.bind (rR hT q h nG (by decide)) (λs1 x1 e1 g1=>?_) (λp c e hp=>?_)
 ·rw[e1]at hop;dsimp only[PR.bind]at hop;rw[iK q g1];dsimp only[Option.bind_some];by_cases hi:isP T jS s1=true
  ·rw[if_pos hi]at hop⊢;refine Rs.pos rfl ?_;rw[hop];exact Rs.some ⟨⟨rfl,λj m e=>by simp at e⟩,g1.adv hT (u6 (by decide) hi)⟩
  ·rw[if_neg hi]at hop⊢;refine Rs.neg (by simp) ?_;have ho2:=PR.bind_out (hop▸ho);refine Rs.bind (gc1 hT hq x f q hf [] s1 x1 (.inl (z0 x1)) ⟨rfl,rfl⟩ (by simpa using hf2) g1 ho2) λz hz=>?_;cases hr2:fI T f s1 with
   |out=>exact absurd hr2 ho2
   |err p c=>
    rw[hr2]at hz hop;rcases z with z|z
    ·rw[hop];exact Rs.some hz
    ·exact hz.elim
   |ok l s2=>
    rw[hr2]at hz hop;dsimp only[PR.bind]at hop;rcases z with z|z
    ·exact hz.elim
    ·obtain⟨x2,a,rfl,ha,g3⟩:=hz;refine PU.bind (rR hT q g3 jS (by decide)) (λs3 x3 e g4=>?_) (λp c e hp=>?_)
     ·rw[hop,e];exact Rs.some ⟨ha,g4⟩
     ·(rw[hop,e];exact Rs.some ⟨hp,rfl⟩)
 ·(rw[hop,e];exact Rs.some ⟨hp,rfl⟩)
theorem ft3(hT:TokN N T){f q:Nat}(hq:20<=q)(hf:f<q)(hf2:f<=1000000000){u:Nat->ByteArray}(hu:Ag u pr)(hp:s.p<N)(ho4:s.o<=12)(hl:pr.length<=2000000000)(ho:mC T f {s with vs:=[]}≠ .out):
 Rs (params q (((s.p:Nat):Int),((s.o:Nat):Int),N,(λj=>(T j).k),(λj=>(T j).a),(λj=>(T j).t),(λj=>(T j).n),pr.length,u)) (PPm N T pr (mC T f {s with vs:=[]})):=by
 unfold params;refine Rs.map (P:=λy=>PPm N T pr (mC T f {s with vs:=[]}) (at2 y)) ?_ λz hz=>hz;exact fb4 hT hq hf hf2 (s:={s with vs:=[]}) ⟨λ_=>ByteArray.empty,u,rfl,λj b e=>by simp at e,hu,hp,ho4,by simp,hl⟩ ho
def ia4(c:Prc)(z:ByteArray×Nat×(Nat->ByteArray)×(Nat->ByteArray)×n4):Prop:=z.1=c.x/\ix8 c.ps (z.2.2.1,z.2.2.2.1,z.2.1)/\RepN c.b z.2.2.2.2
def PC(N:Nat)(T:Nat->Tkn)(pr:List ByteArray):PR Prc->t6->Prop
 | .ok c s,.inl z=>ia4 c (z.1,z.2.1,z.2.2.1,z.2.2.2.1,z.2.2.2.2.1,z.2.2.2.2.2.1,z.2.2.2.2.2.2.1,z.2.2.2.2.2.2.2.1,z.2.2.2.2.2.2.2.2.1)/\RS N T (pr++[c.x]) s z.2.2.2.2.2.2.2.2.2
 | .err p c,.inr e=>p<N/\e=((T p).a,c)
 |_,_=>False
theorem et7(q:Nat)(x0:m7)(a:ByteArray){v u:Nat->ByteArray}(h1:Ag v s.vs)(h2:Ag u pr)(h3:s.p<N)(hN:N<=4001)(h4:s.o<=12)(h5:s.vs.length<=12)(h6:pr.length<=2000000000):
 ∀(n i m:Nat),i+n=pr.length->n<m->(∀j,j<i->pr[j]? ≠some a)->
 Rs (lpG (λy=>aP (mK q) (name q) (fail q) (params q) (block q) x0 y (λy=>some (.inl y)) (λz=>some (.inr z))) m (pr.length,((pr.length:Nat):Int),N,(λj=>(T j).k),(λj=>(T j).a),(λj=>(T j).t),(λj=>(T j).n),(((s.p+1:Nat):Nat):Int),((s.o:Nat):Int),s.vs.length,v,u,a,((i:Nat):Int)))
  (λz=>if inP pr a=true then z= .inl ((T s.p).a,4)else z= .inr (N,(λj=>(T j).k),(λj=>(T j).a),(λj=>(T j).t),(λj=>(T j).n),(((s.p+1:Nat):Nat):Int),((s.o:Nat):Int),s.vs.length,pr.length,v,u,a)):=by
 intro n
 induction n with
 |zero=>
  intro i m hi hm hno;obtain⟨m,rfl⟩:∃k,m=k+1:=⟨m-1,by omega⟩;refine Rs.step ?_;unfold aP;dsimp only;refine Rs.neg (by simp;omega) (Rs.some ?_)
  have hnin:¬inP pr a=true:=by
   rw[inP_iff,List.mem_iff_getElem?];rintro⟨j,hj⟩;have:=(List.getElem?_eq_some_iff.1 hj).1;exact hno j (by omega) hj
  show(if inP pr a=true then _ else _);rw[if_neg hnin]
 |succ n ih=>
  intro i m hi hm hno;obtain⟨m,rfl⟩:∃k,m=k+1:=⟨m-1,by omega⟩;refine Rs.step ?_;unfold aP;dsimp only;refine Rs.pos (by simp;omega) (Rs.pos ⟨by omega,by omega⟩ (Rs.pos ⟨by simp;omega,rfl⟩ ?_))
  have hget:pr[i]? =some (u i):=by
   have hlt:i<pr.length:=by omega
   have:=List.getElem?_eq_getElem hlt;rw[this,h2 i _ this]
  have e:0+Int.toNat ((i:Nat):Int)=i:=by omega
  rw[e];refine Rs.ite (λheq=>?_) (λhne=>?_)
  ·rw[tl_eq]at heq
   have hin:inP pr a=true:=by
    rw[inP_iff,<-heq];exact List.mem_iff_getElem?.2 ⟨i,hget⟩
   have e2:w ((((s.p+1:Nat):Nat):Int)-1)=((s.p:Nat):Int):=by rw[xR (by omega) (by omega)];omega
   rw[e2,fY q (s:=s) (pr:=pr) (N:=N) (T:=T) ⟨v,u,rfl,h1,h2,h3,h4,h5,h6⟩];refine Rs.some ?_;show(if inP pr a=true then _ else _);rw[if_pos hin]
  ·rw[tl_eq]at hne;refine Rs.some ?_;show Rs (lpG _ m _) _;rw[s9 (by omega)];refine ih (i+1) m (by omega) (by omega) λj hj=>?_;by_cases hji:j=i
   ·subst hji;rw[hget];simpa using hne
   ·exact hno j (by omega)
theorem tR(hT:TokN N T){f q:Nat}(hq:2*f+2000000100<=q)(hf2:f<=1000000000)(h:RS N T pr s x)(hl:pr.length<=1999999999)(ho:aj7 T f pr s≠ .out):Rs (y9 q x) (PC N T pr (aj7 T f pr s)):=by
 unfold y9 nP;have hop:aj7 T f pr s=(y7 T w_procedure s).bind λ_ s1=>(fD T s1).bind λx s2=>if inP pr x=true then .err s1.p 4 else(mC T f {s2 with vs:=[]}).bind λl s3=>(bC T f s3).bind λb s4=>.ok ⟨x,l,b⟩ s4:=rfl
 refine PU.bind (rR hT q h w_procedure (by decide)) (λs1 x1 e1 g1=>?_) (λp c e hp=>?_)
 ·rw[e1]at hop;dsimp only[PR.bind]at hop;refine PX.bind (bm4 hT q g1) (λa s2 x2 e2 g2=>?_) (λp c e hp=>?_)
  ·obtain⟨rfl,rfl,hk,hr⟩:=ed5 e2;rw[e2]at hop;dsimp only[PR.bind]at hop;obtain⟨v,u,rfl,h1,h2,h3,h4,h5,h6⟩:=g2;have hsp:=g1.lt;have hN:=hT.big;unfold uC;refine Rs.bind (et7 (s:=s1) (pr:=pr) q x _ h1 h2 hsp hN h4 h5 h6 pr.length 0 q (by omega) (by omega) (λj hj=>absurd hj (Nat.not_lt_zero j))) λz hz=>?_;by_cases hin:inP pr (T s1.p).t=true
   ·rw[if_pos hin]at hz hop;subst hz;rw[hop];exact Rs.some ⟨hsp,rfl⟩
   ·rw[if_neg hin]at hz hop;subst hz;dsimp only[Sum.elim_inr,Sum.elim_inl];refine Rs.pos ⟨by unfold d5;omega,by unfold maxLen;omega,Nat.le_refl _⟩ ?_;have hl2:(pr++[(T s1.p).t]).length=pr.length+1:=by simp
    have hpar:=ft3 (s:=adv s1) (pr:=pr++[(T s1.p).t]) hT (by omega:20<=q) (by omega:f<q) hf2 (h2.push (x:=(T s1.p).t)) h3 h4 (by omega) (PR.bind_out (hop▸ho));rw[hl2]at hpar;refine Rs.bind hpar λz hz2=>?_;cases hr3:mC T f {adv s1 with vs:=[]}with
    |out=>rw[hr3]at hz2;rcases z with z|z<;>exact hz2.elim
    |err p c=>
     rw[hr3]at hz2 hop;rcases z with z|z
     ·exact hz2.elim
     ·rw[hop];exact Rs.some hz2
    |ok l s3=>
     rw[hr3]at hz2 hop;dsimp only[PR.bind]at hop;rcases z with z|z
     ·obtain⟨z1,z2,z3,x3⟩:=z;obtain⟨k1,k2⟩:=hz2;dsimp only[Sum.elim_inl]at k1 k2⊢;refine PN.bind ((if4 hT f hf2 q (by omega)).2 f (Nat.le_refl _) s3 x3 k2 (PR.bind_out (hop▸ho))) (λt s4 k n b m c x4 e hr hx=>?_) (λp c e hp=>?_)
      ·rw[hop,e];exact Rs.some ⟨⟨rfl,k1,hr⟩,hx⟩
      ·(rw[hop,e];exact Rs.some ⟨hp,rfl⟩)
     ·exact hz2.elim
  ·(rw[hop,e];exact Rs.some ⟨hp,rfl⟩)
 ·(rw[hop,e];exact Rs.some ⟨hp,rfl⟩)
end
end Go.Proofs.YtjfkkokeegpeiaaDoor

