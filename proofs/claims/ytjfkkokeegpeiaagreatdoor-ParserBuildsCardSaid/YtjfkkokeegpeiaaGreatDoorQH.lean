/- Texts joined. -/
import Derived.Test.YtjfkkokeegpeiaaGreatDoorQG
/- The printer of the program, lifted: procedures. -/
set_option linter.unusedSimpArgs false
set_option linter.unusedVariables false
namespace Go.Proofs.YtjfkkokeegpeiaaGreatDoor
open Go Go.Am Go.Proofs Go.Proofs.Lx
set_option maxRecDepth 100000
theorem ek7(q:Nat→ByteArray):∀l:List Nat,ca2 (l.map fun j=>[st (q j)])=some (l.map q)
 | []=>rfl
 |a::l=>by
  have:=ek7 q l
  simp only[List.map_cons,ca2,st]at this⊢
  rw[this]
abbrev pC:Type:=Nat×FS×ByteArray
abbrev qJ:Type:=ByteArray
def fX:AR pC:=fun x=>([.ro 1 x.1 (fun j=>[st (x.2.1 j)]),st x.2.2],[])
def id4(t:TT):pC:=(u7 (ag t 0),dTS (ag t 0) 0,vS (ag t 1))
theorem bc3:VI fX:=vd id4 fun _=>rfl
def wO:qJ→CRes:=fun z=>.ret (st z) []
noncomputable def Join(q:Nat)(x:pC):Option qJ:=if(Lib.join (((List.range x.1).map x.2.1).map (·.data.toList)) x.2.2.data.toList).length≤140737488355328∧x.1≤140737488355328 then some ⟨(Lib.join (((List.range x.1).map x.2.1).map (·.data.toList)) x.2.2.data.toList).toArray⟩else none
theorem ff0(q:Nat):Lw E8 35 fX wO (Join q):=by
 rintro⟨n,f,s⟩ z h
 unfold Join at h
 split at h
 ·rename_i hn
  cases h
  refine sc8.2 (sc5.2 (SC.ext hX ?_))
  show bz9 35 [.ro 1 n (fun j=>[st (f j)]),st s]=_
  have e:bz9 35 [.ro 1 n (fun j=>[st (f j)]),st s]=(match ca2 ((List.range n).map fun j=>[st (f j)])with
   |some xs=>if(Lib.join (xs.map (·.data.toList)) s.data.toList).length≤140737488355328∧n≤140737488355328 then some (st ⟨(Lib.join (xs.map (·.data.toList)) s.data.toList).toArray⟩)else none
   |none=>none):=rfl
  rw[e,ek7]
  exact if_pos hn
 ·cases h
abbrev iG:Type:=ByteArray
abbrev kR:Type:=Unit
def bI:AR iG:=fun x=>([.sc (.slice none 0 0),st x],[])
def hm4(t:TT):iG:=(vS (ag t 1))
theorem ad7:VI bI:=vd hm4 fun _=>rfl
def oN:kR→CRes:=(fun _=>.ret (st ⟨#[]⟩) []:(Unit)→CRes)
noncomputable def zZ(q:Nat)(x:iG):Option kR:=some ()
theorem ee7(q:Nat):Lw E8 35 bI oN (zZ q):=by
 intro s z h
 exact sc8.2 (sc5.2 (SC.ext hX (show bz9 35 [.sc (.slice none 0 0),st s]=some (st ⟨#[]⟩)from rfl)))
abbrev dQ:Type:=Nat×FI
abbrev eP:Type:=ByteArray
def w8:AR dQ:=fun x=>([.ptr 0 0],[some (.tbk 79 [.ptr 0 0,.sl 1 1 0 x.1]),some (.row 5 1 x.1 (fun j=>[u8 (x.2 j)]))])
def gd8(t:TT):dQ:=((chN (co t 1)),dRI (co t 1) 0)
theorem wI:VI w8:=vd gd8 fun _=>rfl
def jM:eP→CRes:=fun z=>.ret (st z) [none,none]
noncomputable def am5(n:Nat)(f:Nat→Int):List UInt8:=(List.range n).map fun j=>UInt8.ofNat (f j).toNat
noncomputable def String(q:Nat)(x:dQ):Option eP:=@ite _ (0<x.1∧∀j,j<x.1→0≤x.2 j∧x.2 j<256) (Classical.propDecidable _) (some ⟨(am5 x.1 x.2).toArray⟩) none
theorem db7(q:Nat):Lw E8 37 w8 jM (String q):=by
 rintro⟨n,f⟩ z h
 unfold String at h
 split at h
 ·rename_i hc
  obtain⟨h0,h1⟩:=hc
  cases h
  refine gp7 (E:=E8) rfl (.ptr 0 0) (n:=n) (f:=fun j=>[u8 (f j)]) (l:=am5 n f) (by simp[am5]) (by
   intro e
   have:(am5 n f).length=n:=by simp[am5]
   rw[e]at this
   simp at this
   omega) fun j x hx=>?_
  unfold am5 at hx
  rw[List.getElem?_map,Option.map_eq_some_iff]at hx
  obtain⟨i,hi,rfl⟩:=hx
  obtain⟨g1,g2⟩:=List.getElem?_eq_some_iff.1 hi
  simp at g1 g2
  subst g2
  have:0≤f j∧f j<256:=h1 j g1
  have e:((UInt8.ofNat (f j).toNat).toNat:Int)=f j:=by rw[UInt8.toNat_ofNat'];omega
  rw[e]
 ·cases h
abbrev aT:Type:=Unit
abbrev bT:Type:=Unit
def q7:aT→List V×List (Option Chunk):=(fun _=>(([.ptr 0 0]:List V),([some (.tbk 79 [.sc (.pointer none),g8])]:List (Option Chunk))))
def fp4(t:TT):aT:=()
theorem pQ:VI q7:=vd fp4 fun _=>rfl
def eR:bT→CRes:=(fun _=>.ret (st ⟨#[]⟩) [none]:(Unit)→CRes)
noncomputable def kE(q:Nat)(x:aT):Option bT:=some ()
theorem cg1(q:Nat):Lw E8 37 q7 eR (kE q):=by
 intro x z h
 exact ew1 rfl _
abbrev i6:Type:=Nat×FS×FN×(Nat→Nat→ByteArray)×(Nat→Nat→ByteArray)×FI×FI×FS×FN×FM
abbrev cd2:Type:=ByteArray
def dl2:AR i6:=fun x=>([.ro 6 x.1 (fun j=>[st (x.2.1 j),.ro 2 (x.2.2.1 j) (fun i=>[st (x.2.2.2.1 j i),st (x.2.2.2.2.1 j i)]),i64 (x.2.2.2.2.2.1 j),i64 (x.2.2.2.2.2.2.1 j),st (x.2.2.2.2.2.2.2.1 j),.ro 4 (x.2.2.2.2.2.2.2.2.1 j) (x.2.2.2.2.2.2.2.2.2 j)])],[])
def fi0:cd2→CRes:=fun z=>.ret (st z) []
abbrev cL:Type:=(Unit)⊕(FS×Nat×Int)
abbrev pX:Type:=(Unit)⊕(Nat×FS)
def dv2(x:i6)(y:Unit):St:={fr:=[V.junk,V.junk,V.junk,V.ptr 0 0,V.junk,V.ptr 1 0,g8,V.junk,V.junk,V.junk,V.ro 6 x.1 fun j=>[st (x.2.1 j),V.ro 2 (x.2.2.1 j) fun j_1=>[st (x.2.2.2.1 j j_1),st (x.2.2.2.2.1 j j_1)],i64 (x.2.2.2.2.2.1 j),i64 (x.2.2.2.2.2.2.1 j),st (x.2.2.2.2.2.2.2.1 j),V.ro 4 (x.2.2.2.2.2.2.2.2.1 j) (x.2.2.2.2.2.2.2.2.2 j)],i64 ((x.1:Nat):Int),i64 0]++jk 4++[V.ro 2 (x.2.2.1 0) fun j=>[st (x.2.2.2.1 0 j),st (x.2.2.2.2.1 0 j)],i64 ((x.2.2.1 0:Nat):Int),i64 0]++jk 32,H:=hp [some (Chunk.tbk 79 [V.sc (Value.pointer none),g8]),some (Chunk.blk [st (x.2.1 0),V.ro 2 (x.2.2.1 0) fun j=>[st (x.2.2.2.1 0 j),st (x.2.2.2.2.1 0 j)],i64 (x.2.2.2.2.2.1 0),i64 (x.2.2.2.2.2.2.1 0),st (x.2.2.2.2.2.2.2.1 0),V.ro 4 (x.2.2.2.2.2.2.2.2.1 0) (x.2.2.2.2.2.2.2.2.2 0)])],nx:=2,rt:=0,me:=13}
def en3(s:St):Unit:=()
def eh8(x:i6)(y:FS×Nat×Int):St:={fr:=[V.junk,V.junk,V.junk,V.ptr 0 0,V.junk,V.ptr 1 0,V.sl 2 1 0 y.2.1,V.junk,V.junk,V.junk,V.ro 6 x.1 fun j=>[st (x.2.1 j),V.ro 2 (x.2.2.1 j) fun j_1=>[st (x.2.2.2.1 j j_1),st (x.2.2.2.2.1 j j_1)],i64 (x.2.2.2.2.2.1 j),i64 (x.2.2.2.2.2.2.1 j),st (x.2.2.2.2.2.2.2.1 j),V.ro 4 (x.2.2.2.2.2.2.2.2.1 j) (x.2.2.2.2.2.2.2.2.2 j)],i64 ((x.1:Nat):Int),i64 0]++jk 4++[V.ro 2 (x.2.2.1 0) fun j=>[st (x.2.2.2.1 0 j),st (x.2.2.2.2.1 0 j)],i64 ((x.2.2.1 0:Nat):Int),i64 y.2.2]++jk 32,H:=hp [some (Chunk.tbk 79 [V.sc (Value.pointer none),g8]),some (Chunk.blk [st (x.2.1 0),V.ro 2 (x.2.2.1 0) fun j=>[st (x.2.2.2.1 0 j),st (x.2.2.2.2.1 0 j)],i64 (x.2.2.2.2.2.1 0),i64 (x.2.2.2.2.2.2.1 0),st (x.2.2.2.2.2.2.2.1 0),V.ro 4 (x.2.2.2.2.2.2.2.2.1 0) (x.2.2.2.2.2.2.2.2.2 0)]),some (Chunk.row 9 1 y.2.1 fun j=>[st (y.1 j)])],nx:=3,rt:=0,me:=13}
def ej3(s:St):FS×Nat×Int:=((dRS (s.H 2) 0),dB (s.fr.getD 6 .junk),vI (s.fr.getD 19 .junk))
def cM(x:i6):cL→St:=(Sum.elim (dv2 x) (eh8 x))
def eu2(s:St):cL:=(match s.nx==2 with|true=>(.inl (en3 s)) |false=>(.inr (ej3 s)))
theorem co0(x:i6):VL (cM x):=vl eu2 (fun y=>by rcases y with y|y<;>rfl)
def jJ(x:i6):pX→Ex×St:=(Sum.elim (fun z=>(Ex.exit 2,{fr:=[V.junk,V.junk,V.junk,V.ptr 0 0,V.junk,V.ptr 1 0,g8,V.junk,V.junk,V.junk,V.ro 6 x.1 fun j=>[st (x.2.1 j),V.ro 2 (x.2.2.1 j) fun j_1=>[st (x.2.2.2.1 j j_1),st (x.2.2.2.2.1 j j_1)],i64 (x.2.2.2.2.2.1 j),i64 (x.2.2.2.2.2.2.1 j),st (x.2.2.2.2.2.2.2.1 j),V.ro 4 (x.2.2.2.2.2.2.2.2.1 j) (x.2.2.2.2.2.2.2.2.2 j)],i64 ((x.1:Nat):Int),i64 0]++jk 39,H:=hp [some (Chunk.tbk 79 [V.sc (Value.pointer none),g8]),some (Chunk.blk [st (x.2.1 0),V.ro 2 (x.2.2.1 0) fun j=>[st (x.2.2.2.1 0 j),st (x.2.2.2.2.1 0 j)],i64 (x.2.2.2.2.2.1 0),i64 (x.2.2.2.2.2.2.1 0),st (x.2.2.2.2.2.2.2.1 0),V.ro 4 (x.2.2.2.2.2.2.2.2.1 0) (x.2.2.2.2.2.2.2.2.2 0)])],nx:=2,rt:=0,me:=13})) (fun z=>(Ex.exit 2,{fr:=[V.junk,V.junk,V.junk,V.ptr 0 0,V.junk,V.ptr 1 0,V.sl 2 1 0 z.1,V.junk,V.junk,V.junk,V.ro 6 x.1 fun j=>[st (x.2.1 j),V.ro 2 (x.2.2.1 j) fun j_1=>[st (x.2.2.2.1 j j_1),st (x.2.2.2.2.1 j j_1)],i64 (x.2.2.2.2.2.1 j),i64 (x.2.2.2.2.2.2.1 j),st (x.2.2.2.2.2.2.2.1 j),V.ro 4 (x.2.2.2.2.2.2.2.2.1 j) (x.2.2.2.2.2.2.2.2.2 j)],i64 ((x.1:Nat):Int),i64 0]++jk 39,H:=hp [some (Chunk.tbk 79 [V.sc (Value.pointer none),g8]),some (Chunk.blk [st (x.2.1 0),V.ro 2 (x.2.2.1 0) fun j=>[st (x.2.2.2.1 0 j),st (x.2.2.2.2.1 0 j)],i64 (x.2.2.2.2.2.1 0),i64 (x.2.2.2.2.2.2.1 0),st (x.2.2.2.2.2.2.2.1 0),V.ro 4 (x.2.2.2.2.2.2.2.2.1 0) (x.2.2.2.2.2.2.2.2.2 0)]),some (Chunk.row 9 1 z.1 fun j=>[st (z.2 j)])],nx:=3,rt:=0,me:=13})))
def nC{β:Type}(c_Join:pC→Option qJ)(c_JoinZ:iG→Option kR)(c_lineF:fT→Option fK)(c_lineS:y4→Option eC)(c_pbk:tI→Option tK)(c_String:dQ→Option eP)(c_StringZ:aT→Option bT)(x:i6)(y:Unit)(nx:cL→Option β)(dn:pX→Option β):Option β:=
 if decide (0< ((x.2.2.1 0:Nat):Int))=true then if(0:Int)≤0∧0< ((x.2.2.1 0:Nat):Int)then if(!ByteArray.toList (x.2.2.2.2.1 0 0)==ByteArray.toList ⟨#[]⟩)=true then if 2+ByteArray.size (x.2.2.2.2.1 0 0)≤maxLen then if ByteArray.size (x.2.2.2.1 0 0)+ByteArray.size (⟨#[58,32]⟩++x.2.2.2.2.1 0 0)≤maxLen then nx (.inr (fun j=>x.2.2.2.1 0 0++(⟨#[58,32]⟩++x.2.2.2.2.1 0 0),1,1))else none else none else nx (.inr (fun j=>x.2.2.2.1 0 0,1,1))else none else dn (.inl ())
theorem dx3{β:Type}(c_Join c_JoinZ)(c_lineF c_lineS)(c_pbk c_String c_StringZ)(x)(y)(nx:cL→Option β)(dn):nC c_Join c_JoinZ c_lineF c_lineS c_pbk c_String c_StringZ x y nx dn=(nC c_Join c_JoinZ c_lineF c_lineS c_pbk c_String c_StringZ x y (fun y=>some (.inl y)) (fun z=>some (.inr z))).bind fun r=>Sum.elim nx dn r:=by
 unfold nC
 repeat' first|exact n0|refine n1 fun _=>?_|refine n2 ?_ ?_|refine n3 (fun _=>?_) fun _=>?_|rfl
theorem ee2(c_Join c_JoinZ)(c_lineF c_lineS)(c_pbk c_String c_StringZ)(x)(y)(lo:f5):n8 E8 (ftg 35 (fun a _=>match a with| [.sc _,_]=>false|_=>true) fX wO c_Join (ftg 35 (fun a _=>match a with| [.sc _,_]=>true|_=>false) bI oN c_JoinZ (ftg 34 (fun _ L=>match L with| [some (.tbk 79 [.sc (.pointer none),_]),_]=>true|_=>false) aJ mA c_lineF (ftg 34 (fun _ L=>L.length==3) t7 iL c_lineS (ftb 36 gL yO c_pbk (ftg 37 (fun _ L=>L.length==2) w8 jM c_String (ftg 37 (fun _ L=>L.length==1) q7 eR c_StringZ ca0))))))) lo 2 924776 (b5 E8 13 2) (cM x (.inl y)) (KCM [(2,7272),(1,7176),(0,8)] 4)=nC (vf fX c_Join) (vf bI c_JoinZ) (vf aJ c_lineF) (vf t7 c_lineS) (vf gL c_pbk) (vf w8 c_String) (vf q7 c_StringZ) x y (fun y=>lo 2 924776 (b5 E8 13 2) (cM x y) (KCM [(2,7272),(1,7176),(0,8)] 4)) (fun z=>some (.l (jJ x z).1 (jJ x z).2)):=by kernel_rfl
def mX{β:Type}(c_Join:pC→Option qJ)(c_JoinZ:iG→Option kR)(c_lineF:fT→Option fK)(c_lineS:y4→Option eC)(c_pbk:tI→Option tK)(c_String:dQ→Option eP)(c_StringZ:aT→Option bT)(x:i6)(y:FS×Nat×Int)(nx:cL→Option β)(dn:pX→Option β):Option β:=
 if decide (y.2.2< ((x.2.2.1 0:Nat):Int))=true then if 0≤y.2.2∧y.2.2< ((x.2.2.1 0:Nat):Int)then if(!ByteArray.toList (x.2.2.2.2.1 0 (Int.toNat y.2.2))==ByteArray.toList ⟨#[]⟩)=true then if 2+ByteArray.size (x.2.2.2.2.1 0 (Int.toNat y.2.2))≤maxLen then if ByteArray.size (x.2.2.2.1 0 (Int.toNat y.2.2))+ByteArray.size (⟨#[58,32]⟩++x.2.2.2.2.1 0 (Int.toNat y.2.2))≤maxLen then if(y.2.1+1)*16≤d5∧y.2.1+1≤maxLen∧y.2.1≤y.2.1 then nx (.inr (fun j=>if j<y.2.1 then y.1 j else x.2.2.2.1 0 (Int.toNat y.2.2)++(⟨#[58,32]⟩++x.2.2.2.2.1 0 (Int.toNat y.2.2)),y.2.1+1,w (y.2.2+1)))else none else none else none else if(y.2.1+1)*16≤d5∧y.2.1+1≤maxLen∧y.2.1≤y.2.1 then nx (.inr (fun j=>if j<y.2.1 then y.1 j else x.2.2.2.1 0 (Int.toNat y.2.2),y.2.1+1,w (y.2.2+1)))else none else none else dn (.inr (y.2.1,y.1))
theorem dt3{β:Type}(c_Join c_JoinZ)(c_lineF c_lineS)(c_pbk c_String c_StringZ)(x)(y)(nx:cL→Option β)(dn):mX c_Join c_JoinZ c_lineF c_lineS c_pbk c_String c_StringZ x y nx dn=(mX c_Join c_JoinZ c_lineF c_lineS c_pbk c_String c_StringZ x y (fun y=>some (.inl y)) (fun z=>some (.inr z))).bind fun r=>Sum.elim nx dn r:=by
 unfold mX
 repeat' first|exact n0|refine n1 fun _=>?_|refine n2 ?_ ?_|refine n3 (fun _=>?_) fun _=>?_|rfl
theorem ek8(c_Join c_JoinZ)(c_lineF c_lineS)(c_pbk c_String c_StringZ)(x)(y)(lo:f5):n8 E8 (ftg 35 (fun a _=>match a with| [.sc _,_]=>false|_=>true) fX wO c_Join (ftg 35 (fun a _=>match a with| [.sc _,_]=>true|_=>false) bI oN c_JoinZ (ftg 34 (fun _ L=>match L with| [some (.tbk 79 [.sc (.pointer none),_]),_]=>true|_=>false) aJ mA c_lineF (ftg 34 (fun _ L=>L.length==3) t7 iL c_lineS (ftb 36 gL yO c_pbk (ftg 37 (fun _ L=>L.length==2) w8 jM c_String (ftg 37 (fun _ L=>L.length==1) q7 eR c_StringZ ca0))))))) lo 2 924776 (b5 E8 13 2) (cM x (.inr y)) (KCM [(2,7272),(1,7176),(0,8)] 4)=mX (vf fX c_Join) (vf bI c_JoinZ) (vf aJ c_lineF) (vf t7 c_lineS) (vf gL c_pbk) (vf w8 c_String) (vf q7 c_StringZ) x y (fun y=>lo 2 924776 (b5 E8 13 2) (cM x y) (KCM [(2,7272),(1,7176),(0,8)] 4)) (fun z=>some (.l (jJ x z).1 (jJ x z).2)):=by kernel_rfl
noncomputable def gN(c_Join:pC→Option qJ)(c_JoinZ:iG→Option kR)(c_lineF:fT→Option fK)(c_lineS:y4→Option eC)(c_pbk:tI→Option tK)(c_String:dQ→Option eP)(c_StringZ:aT→Option bT)(q:Nat)(x:i6):cL→Option pX:=lpG (Sum.elim (fun y=>nC c_Join c_JoinZ c_lineF c_lineS c_pbk c_String c_StringZ x y (fun y=>some (.inl y)) (fun z=>some (.inr z))) (fun y=>mX c_Join c_JoinZ c_lineF c_lineS c_pbk c_String c_StringZ x y (fun y=>some (.inl y)) (fun z=>some (.inr z)))) q
theorem fc5(c_Join)(h_Join:Lw E8 35 fX wO c_Join)(c_JoinZ)(h_JoinZ:Lw E8 35 bI oN c_JoinZ)(c_lineF)(h_lineF:Lw E8 34 aJ mA c_lineF)(c_lineS)(h_lineS:Lw E8 34 t7 iL c_lineS)(c_pbk)(h_pbk:Lw E8 36 gL yO c_pbk)(c_String)(h_String:Lw E8 37 w8 jM c_String)(c_StringZ)(h_StringZ:Lw E8 37 q7 eR c_StringZ)(q:Nat)(x:i6):Ll E8 (b5 E8 13 2) (cM x) (jJ x) (gN c_Join c_JoinZ c_lineF c_lineS c_pbk c_String c_StringZ q x):=
 slp (fk h_Join (fk h_JoinZ (fk h_lineF (fk h_lineS (fk h_pbk (fk h_String (fk h_StringZ a8))))))) hX8 (fun lo y=>by
  rcases y with y|y
  ·exact(ee2 c_Join c_JoinZ c_lineF c_lineS c_pbk c_String c_StringZ x y lo).trans (by rw[bc3,ad7,ah8,yI,bx7,wI,pQ];exact dx3 _ _ _ _ _ _ _ _ _ _ _)
  ·exact(ek8 c_Join c_JoinZ c_lineF c_lineS c_pbk c_String c_StringZ x y lo).trans (by rw[bc3,ad7,ah8,yI,bx7,wI,pQ];exact dt3 _ _ _ _ _ _ _ _ _ _ _)) (fun z=>by rcases z with z|z<;>kernel_rfl) q
abbrev x6:Type:=(Int×Nat×FS×FS×Int×Nat×FI×ByteArray×Int×Int×ByteArray×Nat×FL)⊕(Int×Nat×FS×FS×Int×Nat×FI×ByteArray×Int×Int×ByteArray×Nat×FL×FS×Nat×Int)
abbrev bB:Type:=(Int×Nat×FI×ByteArray×Nat×FS×FS×Int×Int×ByteArray×Nat×FL)⊕(Nat×Int×Nat×FI×ByteArray×Nat×FS×FS×Int×Int×ByteArray×Nat×FL×FS)
def cs4(x:i6)(y:Int×Nat×FS×FS×Int×Nat×FI×ByteArray×Int×Int×ByteArray×Nat×FL):St:={fr:=[V.junk,V.junk,V.junk,V.ptr 0 0,V.junk,V.ptr 2 0,g8,V.junk,V.junk,V.junk,V.ro 6 (x.1) fun(j:Nat)=>[st (x.2.1 j),V.ro 2 (x.2.2.1 j) fun(j_1:Nat)=>[st (x.2.2.2.1 j j_1),st (x.2.2.2.2.1 j j_1)],i64 (x.2.2.2.2.2.1 j),i64 (x.2.2.2.2.2.2.1 j),st (x.2.2.2.2.2.2.2.1 j),V.ro 4 (x.2.2.2.2.2.2.2.2.1 j) (x.2.2.2.2.2.2.2.2.2 j)],i64 ((x.1:Nat):Int),i64 (y.1)]++jk 4++[V.ro 2 (y.2.1) fun(j:Nat)=>[st (y.2.2.1 j),st (y.2.2.2.1 j)],i64 (y.2.2.2.2.1),i64 (0:Int)]++jk 32,H:=hp [some (Chunk.tbk 79 [V.ptr 0 0,V.sl 1 1 0 (y.2.2.2.2.2.1)]),some (Chunk.row 5 1 (y.2.2.2.2.2.1) fun(j:Nat)=>[V.sc (Value.int IntKind.u8 (y.2.2.2.2.2.2.1 j))]),some (Chunk.blk [st (y.2.2.2.2.2.2.2.1),V.ro 2 (y.2.1) fun(j:Nat)=>[st (y.2.2.1 j),st (y.2.2.2.1 j)],i64 (y.2.2.2.2.2.2.2.2.1),i64 (y.2.2.2.2.2.2.2.2.2.1),st (y.2.2.2.2.2.2.2.2.2.2.1),V.ro 4 (y.2.2.2.2.2.2.2.2.2.2.2.1) (y.2.2.2.2.2.2.2.2.2.2.2.2)])],nx:=3,rt:=0,me:=13}
def cs8(s:St):Int×Nat×FS×FS×Int×Nat×FI×ByteArray×Int×Int×ByteArray×Nat×FL:=((vI (s.fr.getD 12 .junk)),(u7 (s.fr.getD 17 .junk)),(fun j=>(vS (((iU (s.fr.getD 17 .junk)) j).getD 0 .junk))),(fun j=>(vS (((iU (s.fr.getD 17 .junk)) j).getD 1 .junk))),(vI (s.fr.getD 18 .junk)),(dB ((chT (s.H 0)).getD 1 .junk)),(fun j=>(vI (((chF (s.H 1)) j).getD 0 .junk))),(vS ((chB (s.H 2)).getD 0 .junk)),(vI ((chB (s.H 2)).getD 2 .junk)),(vI ((chB (s.H 2)).getD 3 .junk)),(vS ((chB (s.H 2)).getD 4 .junk)),(u7 ((chB (s.H 2)).getD 5 .junk)),(iU ((chB (s.H 2)).getD 5 .junk)))
def cu6(x:i6)(y:Int×Nat×FS×FS×Int×Nat×FI×ByteArray×Int×Int×ByteArray×Nat×FL×FS×Nat×Int):St:={fr:=[V.junk,V.junk,V.junk,V.ptr 0 0,V.junk,V.ptr 2 0,V.sl 3 1 0 (y.2.2.2.2.2.2.2.2.2.2.2.2.2.2.1),V.junk,V.junk,V.junk,V.ro 6 (x.1) fun(j:Nat)=>[st (x.2.1 j),V.ro 2 (x.2.2.1 j) fun(j_1:Nat)=>[st (x.2.2.2.1 j j_1),st (x.2.2.2.2.1 j j_1)],i64 (x.2.2.2.2.2.1 j),i64 (x.2.2.2.2.2.2.1 j),st (x.2.2.2.2.2.2.2.1 j),V.ro 4 (x.2.2.2.2.2.2.2.2.1 j) (x.2.2.2.2.2.2.2.2.2 j)],i64 ((x.1:Nat):Int),i64 (y.1)]++jk 4++[V.ro 2 (y.2.1) fun(j:Nat)=>[st (y.2.2.1 j),st (y.2.2.2.1 j)],i64 (y.2.2.2.2.1),i64 (y.2.2.2.2.2.2.2.2.2.2.2.2.2.2.2)]++jk 32,H:=hp [some (Chunk.tbk 79 [V.ptr 0 0,V.sl 1 1 0 (y.2.2.2.2.2.1)]),some (Chunk.row 5 1 (y.2.2.2.2.2.1) fun(j:Nat)=>[V.sc (Value.int IntKind.u8 (y.2.2.2.2.2.2.1 j))]),some (Chunk.blk [st (y.2.2.2.2.2.2.2.1),V.ro 2 (y.2.1) fun(j:Nat)=>[st (y.2.2.1 j),st (y.2.2.2.1 j)],i64 (y.2.2.2.2.2.2.2.2.1),i64 (y.2.2.2.2.2.2.2.2.2.1),st (y.2.2.2.2.2.2.2.2.2.2.1),V.ro 4 (y.2.2.2.2.2.2.2.2.2.2.2.1) (y.2.2.2.2.2.2.2.2.2.2.2.2.1)]),some (Chunk.row 9 1 (y.2.2.2.2.2.2.2.2.2.2.2.2.2.2.1) fun(j:Nat)=>[st (y.2.2.2.2.2.2.2.2.2.2.2.2.2.1 j)])],nx:=4,rt:=0,me:=13}
def cv7(s:St):Int×Nat×FS×FS×Int×Nat×FI×ByteArray×Int×Int×ByteArray×Nat×FL×FS×Nat×Int:=((vI (s.fr.getD 12 .junk)),(u7 (s.fr.getD 17 .junk)),(fun j=>(vS (((iU (s.fr.getD 17 .junk)) j).getD 0 .junk))),(fun j=>(vS (((iU (s.fr.getD 17 .junk)) j).getD 1 .junk))),(vI (s.fr.getD 18 .junk)),(dB ((chT (s.H 0)).getD 1 .junk)),(fun j=>(vI (((chF (s.H 1)) j).getD 0 .junk))),(vS ((chB (s.H 2)).getD 0 .junk)),(vI ((chB (s.H 2)).getD 2 .junk)),(vI ((chB (s.H 2)).getD 3 .junk)),(vS ((chB (s.H 2)).getD 4 .junk)),(u7 ((chB (s.H 2)).getD 5 .junk)),(iU ((chB (s.H 2)).getD 5 .junk)),(fun j=>(vS (((chF (s.H 3)) j).getD 0 .junk))),(dB (s.fr.getD 6 .junk)),(vI (s.fr.getD 19 .junk)))
def n7(x:i6):x6→St:=(Sum.elim (cs4 x) (cu6 x))
def dp5(s:St):x6:=(match s.nx==3 with|true=>(.inl (cs8 s)) |false=>(.inr (cv7 s)))
theorem bl3(x:i6):∀y y',n7 x y=n7 x y'→y=y':=fun y y' h=>by rcases y with y|y<;>rcases y' with y|y<;>exact(congrArg dp5 h:)
def i8(x:i6):bB→Ex×St:=(Sum.elim (fun z=>(Ex.exit 2,{fr:=[V.junk,V.junk,V.junk,V.ptr 0 0,V.junk,V.ptr 2 0,g8,V.junk,V.junk,V.junk,V.ro 6 (x.1) fun(j:Nat)=>[st (x.2.1 j),V.ro 2 (x.2.2.1 j) fun(j_1:Nat)=>[st (x.2.2.2.1 j j_1),st (x.2.2.2.2.1 j j_1)],i64 (x.2.2.2.2.2.1 j),i64 (x.2.2.2.2.2.2.1 j),st (x.2.2.2.2.2.2.2.1 j),V.ro 4 (x.2.2.2.2.2.2.2.2.1 j) (x.2.2.2.2.2.2.2.2.2 j)],i64 ((x.1:Nat):Int),i64 (z.1)]++jk 39,H:=hp [some (Chunk.tbk 79 [V.ptr 0 0,V.sl 1 1 0 (z.2.1)]),some (Chunk.row 5 1 (z.2.1) fun(j:Nat)=>[V.sc (Value.int IntKind.u8 (z.2.2.1 j))]),some (Chunk.blk [st (z.2.2.2.1),V.ro 2 (z.2.2.2.2.1) fun(j:Nat)=>[st (z.2.2.2.2.2.1 j),st (z.2.2.2.2.2.2.1 j)],i64 (z.2.2.2.2.2.2.2.1),i64 (z.2.2.2.2.2.2.2.2.1),st (z.2.2.2.2.2.2.2.2.2.1),V.ro 4 (z.2.2.2.2.2.2.2.2.2.2.1) (z.2.2.2.2.2.2.2.2.2.2.2)])],nx:=3,rt:=0,me:=13})) (fun z=>(Ex.exit 2,{fr:=[V.junk,V.junk,V.junk,V.ptr 0 0,V.junk,V.ptr 2 0,V.sl 3 1 0 (z.1),V.junk,V.junk,V.junk,V.ro 6 (x.1) fun(j:Nat)=>[st (x.2.1 j),V.ro 2 (x.2.2.1 j) fun(j_1:Nat)=>[st (x.2.2.2.1 j j_1),st (x.2.2.2.2.1 j j_1)],i64 (x.2.2.2.2.2.1 j),i64 (x.2.2.2.2.2.2.1 j),st (x.2.2.2.2.2.2.2.1 j),V.ro 4 (x.2.2.2.2.2.2.2.2.1 j) (x.2.2.2.2.2.2.2.2.2 j)],i64 ((x.1:Nat):Int),i64 (z.2.1)]++jk 39,H:=hp [some (Chunk.tbk 79 [V.ptr 0 0,V.sl 1 1 0 (z.2.2.1)]),some (Chunk.row 5 1 (z.2.2.1) fun(j:Nat)=>[V.sc (Value.int IntKind.u8 (z.2.2.2.1 j))]),some (Chunk.blk [st (z.2.2.2.2.1),V.ro 2 (z.2.2.2.2.2.1) fun(j:Nat)=>[st (z.2.2.2.2.2.2.1 j),st (z.2.2.2.2.2.2.2.1 j)],i64 (z.2.2.2.2.2.2.2.2.1),i64 (z.2.2.2.2.2.2.2.2.2.1),st (z.2.2.2.2.2.2.2.2.2.2.1),V.ro 4 (z.2.2.2.2.2.2.2.2.2.2.2.1) (z.2.2.2.2.2.2.2.2.2.2.2.2.1)]),some (Chunk.row 9 1 (z.1) fun(j:Nat)=>[st (z.2.2.2.2.2.2.2.2.2.2.2.2.2 j)])],nx:=4,rt:=0,me:=13})))
def uD(x:i6)(z:bB)(k:KX):Option Ans:=Sum.elim (fun za=>k (i8 x (.inl za)).1 (i8 x (.inl za)).2) (fun zb=>k (i8 x (.inr zb)).1 (i8 x (.inr zb)).2) z
theorem cs6(x:i6):∀z k,uD x z k=k (i8 x z).1 (i8 x z).2:=fun z k=>by
 rcases z with z|z<;>rfl
theorem cs1(x:i6)(z:Int×Nat×FI×ByteArray×Nat×FS×FS×Int×Int×ByteArray×Nat×FL):KCM [(2,7272),(1,7176),(0,8)] 4 (i8 x (.inl z)).1 (i8 x (.inl z)).2=some (.l (i8 x (.inl z)).1 (i8 x (.inl z)).2):=by kernel_rfl
theorem cs3(x:i6)(z:Nat×Int×Nat×FI×ByteArray×Nat×FS×FS×Int×Int×ByteArray×Nat×FL×FS):KCM [(2,7272),(1,7176),(0,8)] 4 (i8 x (.inr z)).1 (i8 x (.inr z)).2=some (.l (i8 x (.inr z)).1 (i8 x (.inr z)).2):=by kernel_rfl
def gT{β:Type}(c_Join:pC→Option qJ)(c_JoinZ:iG→Option kR)(c_lineF:fT→Option fK)(c_lineS:y4→Option eC)(c_pbk:tI→Option tK)(c_String:dQ→Option eP)(c_StringZ:aT→Option bT)(x:i6)(y:Int×Nat×FS×FS×Int×Nat×FI×ByteArray×Int×Int×ByteArray×Nat×FL)(nx:x6→Option β)(dn:bB→Option β):Option β:=
 if decide ((0:Int)<y.2.2.2.2.1)=true then
  if(0:Int)≤(0:Int)∧(0:Int)< ((y.2.1:Nat):Int)then
   if(!ByteArray.toList (y.2.2.2.1 0)==ByteArray.toList ⟨#[]⟩)=true then
    if 2+ByteArray.size (y.2.2.2.1 0)≤maxLen then
     if ByteArray.size (y.2.2.1 0)+ByteArray.size (⟨#[58,32]⟩++y.2.2.2.1 0)≤maxLen then
      nx (.inr ((y.1,y.2.1,y.2.2.1,y.2.2.2.1,y.2.2.2.2.1,y.2.2.2.2.2.1,y.2.2.2.2.2.2.1,y.2.2.2.2.2.2.2.1,y.2.2.2.2.2.2.2.2.1,y.2.2.2.2.2.2.2.2.2.1,y.2.2.2.2.2.2.2.2.2.2.1,y.2.2.2.2.2.2.2.2.2.2.2.1,y.2.2.2.2.2.2.2.2.2.2.2.2,fun(j:Nat)=>y.2.2.1 0++(⟨#[58,32]⟩++y.2.2.2.1 0),1,(1:Int))))
     else
      none
    else
     none
   else
    nx (.inr ((y.1,y.2.1,y.2.2.1,y.2.2.2.1,y.2.2.2.2.1,y.2.2.2.2.2.1,y.2.2.2.2.2.2.1,y.2.2.2.2.2.2.2.1,y.2.2.2.2.2.2.2.2.1,y.2.2.2.2.2.2.2.2.2.1,y.2.2.2.2.2.2.2.2.2.2.1,y.2.2.2.2.2.2.2.2.2.2.2.1,y.2.2.2.2.2.2.2.2.2.2.2.2,fun(j:Nat)=>y.2.2.1 0,1,(1:Int))))
  else
   none
 else
  dn (.inl ((y.1,y.2.2.2.2.2.1,y.2.2.2.2.2.2.1,y.2.2.2.2.2.2.2.1,y.2.1,y.2.2.1,y.2.2.2.1,y.2.2.2.2.2.2.2.2)))
theorem cr9{β:Type}(c_Join c_JoinZ)(c_lineF c_lineS)(c_pbk c_String c_StringZ)(x:i6)(y:Int×Nat×FS×FS×Int×Nat×FI×ByteArray×Int×Int×ByteArray×Nat×FL)(nx:x6→Option β)(dn:bB→Option β):gT c_Join c_JoinZ c_lineF c_lineS c_pbk c_String c_StringZ x y nx dn=(gT c_Join c_JoinZ c_lineF c_lineS c_pbk c_String c_StringZ x y (fun y=>some (.inl y)) (fun z=>some (.inr z))).bind fun r=>Sum.elim nx dn r:=by
 unfold gT
 repeat' first|exact n0|refine n1 fun _=>?_|refine n2 ?_ ?_|refine n3 (fun _=>?_) fun _=>?_|rfl
theorem cv2(c_Join c_JoinZ)(c_lineF c_lineS)(c_pbk c_String c_StringZ)(x:i6)(y:Int×Nat×FS×FS×Int×Nat×FI×ByteArray×Int×Int×ByteArray×Nat×FL)(lo:f5):n8 E8 (ftg 35 (fun a _=>match a with| [.sc _,_]=>false|_=>true) fX wO c_Join (ftg 35 (fun a _=>match a with| [.sc _,_]=>true|_=>false) bI oN c_JoinZ (ftg 34 (fun _ L=>match L with| [some (.tbk 79 [.sc (.pointer none),_]),_]=>true|_=>false) aJ mA c_lineF (ftg 34 (fun _ L=>L.length==3) t7 iL c_lineS (ftb 36 gL yO c_pbk (ftg 37 (fun _ L=>L.length==2) w8 jM c_String (ftg 37 (fun _ L=>L.length==1) q7 eR c_StringZ ca0))))))) lo 2 924776 (b5 E8 13 2) (n7 x (.inl y)) (KCM [(2,7272),(1,7176),(0,8)] 4)=gT (vf fX c_Join) (vf bI c_JoinZ) (vf aJ c_lineF) (vf t7 c_lineS) (vf gL c_pbk) (vf w8 c_String) (vf q7 c_StringZ) x y (fun y=>lo 2 924776 (b5 E8 13 2) (n7 x y) (KCM [(2,7272),(1,7176),(0,8)] 4)) (fun z=>some (.l (i8 x z).1 (i8 x z).2)):=by kernel_rfl
def hJ{β:Type}(c_Join:pC→Option qJ)(c_JoinZ:iG→Option kR)(c_lineF:fT→Option fK)(c_lineS:y4→Option eC)(c_pbk:tI→Option tK)(c_String:dQ→Option eP)(c_StringZ:aT→Option bT)(x:i6)(y:Int×Nat×FS×FS×Int×Nat×FI×ByteArray×Int×Int×ByteArray×Nat×FL×FS×Nat×Int)(nx:x6→Option β)(dn:bB→Option β):Option β:=
 if decide (y.2.2.2.2.2.2.2.2.2.2.2.2.2.2.2<y.2.2.2.2.1)=true then
  if(0:Int)≤y.2.2.2.2.2.2.2.2.2.2.2.2.2.2.2∧y.2.2.2.2.2.2.2.2.2.2.2.2.2.2.2< ((y.2.1:Nat):Int)then
   if(!ByteArray.toList (y.2.2.2.1 (Int.toNat (y.2.2.2.2.2.2.2.2.2.2.2.2.2.2.2)))==ByteArray.toList ⟨#[]⟩)=true then
    if 2+ByteArray.size (y.2.2.2.1 (Int.toNat (y.2.2.2.2.2.2.2.2.2.2.2.2.2.2.2)))≤maxLen then
     if ByteArray.size (y.2.2.1 (Int.toNat (y.2.2.2.2.2.2.2.2.2.2.2.2.2.2.2)))+ByteArray.size (⟨#[58,32]⟩++y.2.2.2.1 (Int.toNat (y.2.2.2.2.2.2.2.2.2.2.2.2.2.2.2)))≤maxLen then
      if(y.2.2.2.2.2.2.2.2.2.2.2.2.2.2.1+1)*16≤d5∧y.2.2.2.2.2.2.2.2.2.2.2.2.2.2.1+1≤maxLen∧y.2.2.2.2.2.2.2.2.2.2.2.2.2.2.1≤y.2.2.2.2.2.2.2.2.2.2.2.2.2.2.1 then
       nx (.inr ((y.1,y.2.1,y.2.2.1,y.2.2.2.1,y.2.2.2.2.1,y.2.2.2.2.2.1,y.2.2.2.2.2.2.1,y.2.2.2.2.2.2.2.1,y.2.2.2.2.2.2.2.2.1,y.2.2.2.2.2.2.2.2.2.1,y.2.2.2.2.2.2.2.2.2.2.1,y.2.2.2.2.2.2.2.2.2.2.2.1,y.2.2.2.2.2.2.2.2.2.2.2.2.1,fun(j:Nat)=>if j<y.2.2.2.2.2.2.2.2.2.2.2.2.2.2.1 then y.2.2.2.2.2.2.2.2.2.2.2.2.2.1 j else y.2.2.1 (Int.toNat (y.2.2.2.2.2.2.2.2.2.2.2.2.2.2.2))++(⟨#[58,32]⟩++y.2.2.2.1 (Int.toNat (y.2.2.2.2.2.2.2.2.2.2.2.2.2.2.2))),y.2.2.2.2.2.2.2.2.2.2.2.2.2.2.1+1,w (y.2.2.2.2.2.2.2.2.2.2.2.2.2.2.2+(1:Int)))))
      else
       none
     else
      none
    else
     none
   else
    if(y.2.2.2.2.2.2.2.2.2.2.2.2.2.2.1+1)*16≤d5∧y.2.2.2.2.2.2.2.2.2.2.2.2.2.2.1+1≤maxLen∧y.2.2.2.2.2.2.2.2.2.2.2.2.2.2.1≤y.2.2.2.2.2.2.2.2.2.2.2.2.2.2.1 then
     nx (.inr ((y.1,y.2.1,y.2.2.1,y.2.2.2.1,y.2.2.2.2.1,y.2.2.2.2.2.1,y.2.2.2.2.2.2.1,y.2.2.2.2.2.2.2.1,y.2.2.2.2.2.2.2.2.1,y.2.2.2.2.2.2.2.2.2.1,y.2.2.2.2.2.2.2.2.2.2.1,y.2.2.2.2.2.2.2.2.2.2.2.1,y.2.2.2.2.2.2.2.2.2.2.2.2.1,fun(j:Nat)=>if j<y.2.2.2.2.2.2.2.2.2.2.2.2.2.2.1 then y.2.2.2.2.2.2.2.2.2.2.2.2.2.1 j else y.2.2.1 (Int.toNat (y.2.2.2.2.2.2.2.2.2.2.2.2.2.2.2)),y.2.2.2.2.2.2.2.2.2.2.2.2.2.2.1+1,w (y.2.2.2.2.2.2.2.2.2.2.2.2.2.2.2+(1:Int)))))
    else
     none
  else
   none
 else
  dn (.inr ((y.2.2.2.2.2.2.2.2.2.2.2.2.2.2.1,y.1,y.2.2.2.2.2.1,y.2.2.2.2.2.2.1,y.2.2.2.2.2.2.2.1,y.2.1,y.2.2.1,y.2.2.2.1,y.2.2.2.2.2.2.2.2.1,y.2.2.2.2.2.2.2.2.2.1,y.2.2.2.2.2.2.2.2.2.2.1,y.2.2.2.2.2.2.2.2.2.2.2.1,y.2.2.2.2.2.2.2.2.2.2.2.2.1,y.2.2.2.2.2.2.2.2.2.2.2.2.2.1)))
theorem cw0{β:Type}(c_Join c_JoinZ)(c_lineF c_lineS)(c_pbk c_String c_StringZ)(x:i6)(y:Int×Nat×FS×FS×Int×Nat×FI×ByteArray×Int×Int×ByteArray×Nat×FL×FS×Nat×Int)(nx:x6→Option β)(dn:bB→Option β):hJ c_Join c_JoinZ c_lineF c_lineS c_pbk c_String c_StringZ x y nx dn=(hJ c_Join c_JoinZ c_lineF c_lineS c_pbk c_String c_StringZ x y (fun y=>some (.inl y)) (fun z=>some (.inr z))).bind fun r=>Sum.elim nx dn r:=by
 unfold hJ
 repeat' first|exact n0|refine n1 fun _=>?_|refine n2 ?_ ?_|refine n3 (fun _=>?_) fun _=>?_|rfl
theorem cu8(c_Join c_JoinZ)(c_lineF c_lineS)(c_pbk c_String c_StringZ)(x:i6)(y:Int×Nat×FS×FS×Int×Nat×FI×ByteArray×Int×Int×ByteArray×Nat×FL×FS×Nat×Int)(lo:f5):n8 E8 (ftg 35 (fun a _=>match a with| [.sc _,_]=>false|_=>true) fX wO c_Join (ftg 35 (fun a _=>match a with| [.sc _,_]=>true|_=>false) bI oN c_JoinZ (ftg 34 (fun _ L=>match L with| [some (.tbk 79 [.sc (.pointer none),_]),_]=>true|_=>false) aJ mA c_lineF (ftg 34 (fun _ L=>L.length==3) t7 iL c_lineS (ftb 36 gL yO c_pbk (ftg 37 (fun _ L=>L.length==2) w8 jM c_String (ftg 37 (fun _ L=>L.length==1) q7 eR c_StringZ ca0))))))) lo 2 924776 (b5 E8 13 2) (n7 x (.inr y)) (KCM [(2,7272),(1,7176),(0,8)] 4)=hJ (vf fX c_Join) (vf bI c_JoinZ) (vf aJ c_lineF) (vf t7 c_lineS) (vf gL c_pbk) (vf w8 c_String) (vf q7 c_StringZ) x y (fun y=>lo 2 924776 (b5 E8 13 2) (n7 x y) (KCM [(2,7272),(1,7176),(0,8)] 4)) (fun z=>some (.l (i8 x z).1 (i8 x z).2)):=by kernel_rfl
noncomputable def x9(c_Join:pC→Option qJ)(c_JoinZ:iG→Option kR)(c_lineF:fT→Option fK)(c_lineS:y4→Option eC)(c_pbk:tI→Option tK)(c_String:dQ→Option eP)(c_StringZ:aT→Option bT)(q:Nat)(x:i6):x6→Option bB:=lpG (Sum.elim (fun y=>gT c_Join c_JoinZ c_lineF c_lineS c_pbk c_String c_StringZ x y (fun y=>some (.inl y)) (fun z=>some (.inr z))) (fun y=>hJ c_Join c_JoinZ c_lineF c_lineS c_pbk c_String c_StringZ x y (fun y=>some (.inl y)) (fun z=>some (.inr z)))) q
theorem do6(c_Join)(h_Join:Lw E8 35 fX wO c_Join)(c_JoinZ)(h_JoinZ:Lw E8 35 bI oN c_JoinZ)(c_lineF)(h_lineF:Lw E8 34 aJ mA c_lineF)(c_lineS)(h_lineS:Lw E8 34 t7 iL c_lineS)(c_pbk)(h_pbk:Lw E8 36 gL yO c_pbk)(c_String)(h_String:Lw E8 37 w8 jM c_String)(c_StringZ)(h_StringZ:Lw E8 37 q7 eR c_StringZ)(q:Nat)(x:i6):∀y z,x9 c_Join c_JoinZ c_lineF c_lineS c_pbk c_String c_StringZ q x y=some z→SL E8 (b5 E8 13 2) (n7 x y) (i8 x z).1 (i8 x z).2:=
 SL.lp (LT:=fun lo=>lo) (T:=i8 x) (S:=n7 x) (fk h_Join (fk h_JoinZ (fk h_lineF (fk h_lineS (fk h_pbk (fk h_String (fk h_StringZ a8))))))) hX8 (fun lo h=>h) (fun lo y=>by
  rcases y with y|y
  ·exact(cv2 c_Join c_JoinZ c_lineF c_lineS c_pbk c_String c_StringZ x y lo).trans (by rw[bc3,ad7,ah8,yI,bx7,wI,pQ];exact cr9 _ _ _ _ _ _ _ _ _ _ _)
  ·exact(cu8 c_Join c_JoinZ c_lineF c_lineS c_pbk c_String c_StringZ x y lo).trans (by rw[bc3,ad7,ah8,yI,bx7,wI,pQ];exact cw0 _ _ _ _ _ _ _ _ _ _ _)) (fun z=>by rcases z with z|z<;>first|exact cs1 x z|exact cs3 x z) q
abbrev dW:Type:=(Unit)⊕(Nat×FI×Int)
abbrev qH:Type:=(Unit)⊕(Nat×FI)
def eo4(x:i6)(y:Unit):St:={fr:=[V.junk,V.junk,V.junk,V.ptr 0 0]++jk 6++[V.ro 6 x.1 fun j=>[st (x.2.1 j),V.ro 2 (x.2.2.1 j) fun j_1=>[st (x.2.2.2.1 j j_1),st (x.2.2.2.2.1 j j_1)],i64 (x.2.2.2.2.2.1 j),i64 (x.2.2.2.2.2.2.1 j),st (x.2.2.2.2.2.2.2.1 j),V.ro 4 (x.2.2.2.2.2.2.2.2.1 j) (x.2.2.2.2.2.2.2.2.2 j)],i64 ((x.1:Nat):Int),i64 0]++jk 39,H:=hp [some (Chunk.tbk 79 [V.sc (Value.pointer none),g8])],nx:=1,rt:=0,me:=13}
def ed9(s:St):Unit:=()
def du1(x:i6)(y:Nat×FI×Int):St:={fr:=[V.junk,V.junk,V.junk,V.ptr 0 0]++jk 6++[V.ro 6 x.1 fun j=>[st (x.2.1 j),V.ro 2 (x.2.2.1 j) fun j_1=>[st (x.2.2.2.1 j j_1),st (x.2.2.2.2.1 j j_1)],i64 (x.2.2.2.2.2.1 j),i64 (x.2.2.2.2.2.2.1 j),st (x.2.2.2.2.2.2.2.1 j),V.ro 4 (x.2.2.2.2.2.2.2.2.1 j) (x.2.2.2.2.2.2.2.2.2 j)],i64 ((x.1:Nat):Int),i64 y.2.2]++jk 39,H:=hp [some (Chunk.tbk 79 [V.ptr 0 0,V.sl 1 1 0 y.1]),some (Chunk.row 5 1 y.1 fun j=>[V.sc (Value.int IntKind.u8 (y.2.1 j))])],nx:=2,rt:=0,me:=13}
def dv9(s:St):Nat×FI×Int:=((dB ((chT (s.H 0)).getD 1 .junk)),dRI (s.H 1) 0,vI (s.fr.getD 12 .junk))
def fZ(x:i6):dW→St:=(Sum.elim (eo4 x) (du1 x))
def ev4(s:St):dW:=(match s.nx==1 with|true=>(.inl (ed9 s)) |false=>(.inr (dv9 s)))
theorem fe3(x:i6):VL (fZ x):=vl ev4 (fun y=>by rcases y with y|y<;>rfl)
def mU(x:i6):qH→Ex×St:=(Sum.elim (fun z=>(Ex.exit 0,{fr:=[V.junk,V.junk,V.junk,V.ptr 0 0]++jk 48,H:=hp [some (Chunk.tbk 79 [V.sc (Value.pointer none),g8])],nx:=1,rt:=0,me:=13})) (fun z=>(Ex.exit 0,{fr:=[V.junk,V.junk,V.junk,V.ptr 0 0]++jk 48,H:=hp [some (Chunk.tbk 79 [V.ptr 0 0,V.sl 1 1 0 z.1]),some (Chunk.row 5 1 z.1 fun j=>[V.sc (Value.int IntKind.u8 (z.2 j))])],nx:=2,rt:=0,me:=13})))
def jP{β:Type}(c_Join:pC→Option qJ)(c_JoinZ:iG→Option kR)(c_lineF:fT→Option fK)(c_lineS:y4→Option eC)(c_pbk:tI→Option tK)(c_String:dQ→Option eP)(c_StringZ:aT→Option bT)(l_Print_l2:cL→Option pX)(l_Print_l2_2:x6→Option bB)(x:i6)(y:Unit)(nx:dW→Option β)(dn:qH→Option β):Option β:=
 if decide (0< ((x.1:Nat):Int))=true then if(0:Int)≤0∧0< ((x.1:Nat):Int)then(l_Print_l2 (.inl ())).bind fun z855=>Sum.elim (fun z855a=>(c_JoinZ (⟨#[44,32]⟩)).bind fun z857=>(c_lineF (x.2.1 0,⟨#[]⟩)).bind fun z860=>(c_pbk (x.2.2.2.2.2.1 0,x.2.2.2.2.2.2.1 0,x.2.2.2.2.2.2.2.1 0,x.2.2.2.2.2.2.2.2.1 0,x.2.2.2.2.2.2.2.2.2 0,0,z860.1,z860.2.2)).bind fun z869=>(c_lineS (0,1,fun j=>⟨#[125]⟩,z869)).bind fun z875=>nx (.inr (z875.2.2.1,z875.2.2.2,1))) (fun z855b=>if 0+z855b.1≤z855b.1∧1=1 then(c_Join (z855b.1,fun j=>z855b.2 (0+j),⟨#[44,32]⟩)).bind fun z880=>(c_lineF (x.2.1 0,z880)).bind fun z883=>(c_pbk (x.2.2.2.2.2.1 0,x.2.2.2.2.2.2.1 0,x.2.2.2.2.2.2.2.1 0,x.2.2.2.2.2.2.2.2.1 0,x.2.2.2.2.2.2.2.2.2 0,0,z883.1,z883.2.2)).bind fun z892=>(c_lineS (0,1,fun j=>⟨#[125]⟩,z892)).bind fun z898=>nx (.inr (z898.2.2.1,z898.2.2.2,1))else none) z855 else none else dn (.inl ())
theorem ei4{β:Type}(c_Join c_JoinZ)(c_lineF c_lineS)(c_pbk c_String c_StringZ)(l_Print_l2)(l_Print_l2_2)(x)(y)(nx:dW→Option β)(dn):jP c_Join c_JoinZ c_lineF c_lineS c_pbk c_String c_StringZ l_Print_l2 l_Print_l2_2 x y nx dn=(jP c_Join c_JoinZ c_lineF c_lineS c_pbk c_String c_StringZ l_Print_l2 l_Print_l2_2 x y (fun y=>some (.inl y)) (fun z=>some (.inr z))).bind fun r=>Sum.elim nx dn r:=by
 unfold jP
 repeat' first|exact n0|refine n1 fun _=>?_|refine n2 ?_ ?_|refine n3 (fun _=>?_) fun _=>?_|rfl
theorem ek9(c_Join c_JoinZ)(c_lineF c_lineS)(c_pbk c_String c_StringZ)(l_Print_l2)(l_Print_l2_2)(x)(y)(lo:f5):n8 E8 (ftg 35 (fun a _=>match a with| [.sc _,_]=>false|_=>true) fX wO c_Join (ftg 35 (fun a _=>match a with| [.sc _,_]=>true|_=>false) bI oN c_JoinZ (ftg 34 (fun _ L=>match L with| [some (.tbk 79 [.sc (.pointer none),_]),_]=>true|_=>false) aJ mA c_lineF (ftg 34 (fun _ L=>L.length==3) t7 iL c_lineS (ftb 36 gL yO c_pbk (ftg 37 (fun _ L=>L.length==2) w8 jM c_String (ftg 37 (fun _ L=>L.length==1) q7 eR c_StringZ ca0))))))) (lt2 2 (fun s=>match s.H 0 with|some (.tbk _ (.sc _::_))=>true|_=>false) (b5 E8 13 2) (cM x) (jJ x) l_Print_l2 (aj8 2 (fun s=>match s.H 0 with|some (.tbk _ (.ptr _ _::_))=>true|_=>false) (b5 E8 13 2) (n7 x) (uD x) l_Print_l2_2 lo)) 0 7176 (b5 E8 13 0) (fZ x (.inl y)) (KCM [(0,8)] 4)=jP (vf fX c_Join) (vf bI c_JoinZ) (vf aJ c_lineF) (vf t7 c_lineS) (vf gL c_pbk) (vf w8 c_String) (vf q7 c_StringZ) (lf (b5 E8 13 2) (cM x) l_Print_l2) (fun y=>ay3 (fun y=>(b5 E8 13 2,n7 x y)) l_Print_l2_2 (b5 E8 13 2,n7 x y)) x y (fun y=>lo 0 7176 (b5 E8 13 0) (fZ x y) (KCM [(0,8)] 4)) (fun z=>some (.l (mU x z).1 (mU x z).2)):=by kernel_rfl
def eV{β:Type}(c_Join:pC→Option qJ)(c_JoinZ:iG→Option kR)(c_lineF:fT→Option fK)(c_lineS:y4→Option eC)(c_pbk:tI→Option tK)(c_String:dQ→Option eP)(c_StringZ:aT→Option bT)(l_Print_l2:cL→Option pX)(l_Print_l2_2:x6→Option bB)(x:i6)(y:Nat×FI×Int)(nx:dW→Option β)(dn:qH→Option β):Option β:=
 if decide (y.2.2< ((x.1:Nat):Int))=true then if 0≤y.2.2∧y.2.2< ((x.1:Nat):Int)then(l_Print_l2_2 (.inl (y.2.2,x.2.2.1 (Int.toNat y.2.2),x.2.2.2.1 (Int.toNat y.2.2),x.2.2.2.2.1 (Int.toNat y.2.2),((x.2.2.1 (Int.toNat y.2.2):Nat):Int),y.1,y.2.1,x.2.1 (Int.toNat y.2.2),x.2.2.2.2.2.1 (Int.toNat y.2.2),x.2.2.2.2.2.2.1 (Int.toNat y.2.2),x.2.2.2.2.2.2.2.1 (Int.toNat y.2.2),x.2.2.2.2.2.2.2.2.1 (Int.toNat y.2.2),x.2.2.2.2.2.2.2.2.2 (Int.toNat y.2.2)))).bind fun z1268=>Sum.elim (fun z1268a=>(c_JoinZ (⟨#[44,32]⟩)).bind fun z1270=>(c_lineS (0,5,fun j=>if j=0 then⟨#[112,114,111,99,101,100,117,114,101,32]⟩else if j-1=0 then z1268a.2.2.2.1 else if j-1-1=0 then⟨#[40]⟩else if j-1-1-1=0 then⟨#[]⟩else⟨#[41,32,123]⟩,z1268a.2.1,z1268a.2.2.1)).bind fun z1276=>(c_pbk (z1268a.2.2.2.2.2.2.2.1,z1268a.2.2.2.2.2.2.2.2.1,z1268a.2.2.2.2.2.2.2.2.2.1,z1268a.2.2.2.2.2.2.2.2.2.2.1,z1268a.2.2.2.2.2.2.2.2.2.2.2,0,z1276.2.2)).bind fun z1285=>(c_lineS (0,1,fun j=>⟨#[125]⟩,z1285)).bind fun z1291=>nx (.inr (z1291.2.2.1,z1291.2.2.2,w (z1268a.1+1)))) (fun z1268b=>if 0+z1268b.1≤z1268b.1∧1=1 then(c_Join (z1268b.1,fun j=>z1268b.2.2.2.2.2.2.2.2.2.2.2.2.2 (0+j),⟨#[44,32]⟩)).bind fun z1296=>(c_lineS (0,5,fun j=>if j=0 then⟨#[112,114,111,99,101,100,117,114,101,32]⟩else if j-1=0 then z1268b.2.2.2.2.1 else if j-1-1=0 then⟨#[40]⟩else if j-1-1-1=0 then z1296 else⟨#[41,32,123]⟩,z1268b.2.2.1,z1268b.2.2.2.1)).bind fun z1302=>(c_pbk (z1268b.2.2.2.2.2.2.2.2.1,z1268b.2.2.2.2.2.2.2.2.2.1,z1268b.2.2.2.2.2.2.2.2.2.2.1,z1268b.2.2.2.2.2.2.2.2.2.2.2.1,z1268b.2.2.2.2.2.2.2.2.2.2.2.2.1,0,z1302.2.2)).bind fun z1311=>(c_lineS (0,1,fun j=>⟨#[125]⟩,z1311)).bind fun z1317=>nx (.inr (z1317.2.2.1,z1317.2.2.2,w (z1268b.2.1+1)))else none) z1268 else none else dn (.inr (y.1,y.2.1))
theorem ea0{β:Type}(c_Join c_JoinZ)(c_lineF c_lineS)(c_pbk c_String c_StringZ)(l_Print_l2)(l_Print_l2_2)(x)(y)(nx:dW→Option β)(dn):eV c_Join c_JoinZ c_lineF c_lineS c_pbk c_String c_StringZ l_Print_l2 l_Print_l2_2 x y nx dn=(eV c_Join c_JoinZ c_lineF c_lineS c_pbk c_String c_StringZ l_Print_l2 l_Print_l2_2 x y (fun y=>some (.inl y)) (fun z=>some (.inr z))).bind fun r=>Sum.elim nx dn r:=by
 unfold eV
 repeat' first|exact n0|refine n1 fun _=>?_|refine n2 ?_ ?_|refine n3 (fun _=>?_) fun _=>?_|rfl
theorem ds9(c_Join c_JoinZ)(c_lineF c_lineS)(c_pbk c_String c_StringZ)(l_Print_l2)(l_Print_l2_2)(x)(y)(lo:f5):n8 E8 (ftg 35 (fun a _=>match a with| [.sc _,_]=>false|_=>true) fX wO c_Join (ftg 35 (fun a _=>match a with| [.sc _,_]=>true|_=>false) bI oN c_JoinZ (ftg 34 (fun _ L=>match L with| [some (.tbk 79 [.sc (.pointer none),_]),_]=>true|_=>false) aJ mA c_lineF (ftg 34 (fun _ L=>L.length==3) t7 iL c_lineS (ftb 36 gL yO c_pbk (ftg 37 (fun _ L=>L.length==2) w8 jM c_String (ftg 37 (fun _ L=>L.length==1) q7 eR c_StringZ ca0))))))) (lt2 2 (fun s=>match s.H 0 with|some (.tbk _ (.sc _::_))=>true|_=>false) (b5 E8 13 2) (cM x) (jJ x) l_Print_l2 (aj8 2 (fun s=>match s.H 0 with|some (.tbk _ (.ptr _ _::_))=>true|_=>false) (b5 E8 13 2) (n7 x) (uD x) l_Print_l2_2 lo)) 0 7176 (b5 E8 13 0) (fZ x (.inr y)) (KCM [(0,8)] 4)=eV (vf fX c_Join) (vf bI c_JoinZ) (vf aJ c_lineF) (vf t7 c_lineS) (vf gL c_pbk) (vf w8 c_String) (vf q7 c_StringZ) (lf (b5 E8 13 2) (cM x) l_Print_l2) (fun y=>ay3 (fun y=>(b5 E8 13 2,n7 x y)) l_Print_l2_2 (b5 E8 13 2,n7 x y)) x y (fun y=>lo 0 7176 (b5 E8 13 0) (fZ x y) (KCM [(0,8)] 4)) (fun z=>some (.l (mU x z).1 (mU x z).2)):=by kernel_rfl
noncomputable def bl8(c_Join:pC→Option qJ)(c_JoinZ:iG→Option kR)(c_lineF:fT→Option fK)(c_lineS:y4→Option eC)(c_pbk:tI→Option tK)(c_String:dQ→Option eP)(c_StringZ:aT→Option bT)(q:Nat)(x:i6):dW→Option qH:=lpG (Sum.elim (fun y=>jP c_Join c_JoinZ c_lineF c_lineS c_pbk c_String c_StringZ (gN c_Join c_JoinZ c_lineF c_lineS c_pbk c_String c_StringZ q x) (x9 c_Join c_JoinZ c_lineF c_lineS c_pbk c_String c_StringZ q x) x y (fun y=>some (.inl y)) (fun z=>some (.inr z))) (fun y=>eV c_Join c_JoinZ c_lineF c_lineS c_pbk c_String c_StringZ (gN c_Join c_JoinZ c_lineF c_lineS c_pbk c_String c_StringZ q x) (x9 c_Join c_JoinZ c_lineF c_lineS c_pbk c_String c_StringZ q x) x y (fun y=>some (.inl y)) (fun z=>some (.inr z)))) q
theorem ez1(c_Join)(h_Join:Lw E8 35 fX wO c_Join)(c_JoinZ)(h_JoinZ:Lw E8 35 bI oN c_JoinZ)(c_lineF)(h_lineF:Lw E8 34 aJ mA c_lineF)(c_lineS)(h_lineS:Lw E8 34 t7 iL c_lineS)(c_pbk)(h_pbk:Lw E8 36 gL yO c_pbk)(c_String)(h_String:Lw E8 37 w8 jM c_String)(c_StringZ)(h_StringZ:Lw E8 37 q7 eR c_StringZ)(q:Nat)(x:i6):Ll E8 (b5 E8 13 0) (fZ x) (mU x) (bl8 c_Join c_JoinZ c_lineF c_lineS c_pbk c_String c_StringZ q x):=
 SL.lp (LT:=fun lo=>(lt2 2 (fun s=>match s.H 0 with|some (.tbk _ (.sc _::_))=>true|_=>false) (b5 E8 13 2) (cM x) (jJ x) (gN c_Join c_JoinZ c_lineF c_lineS c_pbk c_String c_StringZ q x) (aj8 2 (fun s=>match s.H 0 with|some (.tbk _ (.ptr _ _::_))=>true|_=>false) (b5 E8 13 2) (n7 x) (uD x) (x9 c_Join c_JoinZ c_lineF c_lineS c_pbk c_String c_StringZ q x) lo))) (T:=mU x) (S:=fZ x) (fk h_Join (fk h_JoinZ (fk h_lineF (fk h_lineS (fk h_pbk (fk h_String (fk h_StringZ a8))))))) hX8 (fun lo h=>(lk2 (fc5 c_Join h_Join c_JoinZ h_JoinZ c_lineF h_lineF c_lineS h_lineS c_pbk h_pbk c_String h_String c_StringZ h_StringZ q x) (pP (do6 c_Join h_Join c_JoinZ h_JoinZ c_lineF h_lineF c_lineS h_lineS c_pbk h_pbk c_String h_String c_StringZ h_StringZ q x) (cs6 x) h))) (fun lo y=>by
  rcases y with y|y
  ·exact(ek9 c_Join c_JoinZ c_lineF c_lineS c_pbk c_String c_StringZ (gN c_Join c_JoinZ c_lineF c_lineS c_pbk c_String c_StringZ q x) (x9 c_Join c_JoinZ c_lineF c_lineS c_pbk c_String c_StringZ q x) x y lo).trans (by rw[bc3,ad7,ah8,yI,bx7,wI,pQ,co0,br2 (ap1 (b5 E8 13 2) (bl3 x)) (x9 c_Join c_JoinZ c_lineF c_lineS c_pbk c_String c_StringZ q x)];exact ei4 _ _ _ _ _ _ _ _ _ _ _ _ _)
  ·exact(ds9 c_Join c_JoinZ c_lineF c_lineS c_pbk c_String c_StringZ (gN c_Join c_JoinZ c_lineF c_lineS c_pbk c_String c_StringZ q x) (x9 c_Join c_JoinZ c_lineF c_lineS c_pbk c_String c_StringZ q x) x y lo).trans (by rw[bc3,ad7,ah8,yI,bx7,wI,pQ,co0,br2 (ap1 (b5 E8 13 2) (bl3 x)) (x9 c_Join c_JoinZ c_lineF c_lineS c_pbk c_String c_StringZ q x)];exact ea0 _ _ _ _ _ _ _ _ _ _ _ _ _)) (fun z=>by rcases z with z|z<;>kernel_rfl) q
def as1{β:Type}(c_Join:pC→Option qJ)(c_JoinZ:iG→Option kR)(c_lineF:fT→Option fK)(c_lineS:y4→Option eC)(c_pbk:tI→Option tK)(c_String:dQ→Option eP)(c_StringZ:aT→Option bT)(l_Print_l0:dW→Option qH)(x:i6)(dn:cd2→Option β):Option β:=
 (l_Print_l0 (.inl ())).bind fun z812=>Sum.elim (fun z812a=>(c_StringZ ()).bind fun z813=>dn (⟨#[]⟩)) (fun z812b=>(c_String z812b).bind fun z817=>dn z817) z812
theorem he8{β:Type}(c_Join c_JoinZ)(c_lineF c_lineS)(c_pbk c_String c_StringZ)(l_Print_l0)(x)(dn:cd2→Option β):as1 c_Join c_JoinZ c_lineF c_lineS c_pbk c_String c_StringZ l_Print_l0 x dn=(as1 c_Join c_JoinZ c_lineF c_lineS c_pbk c_String c_StringZ l_Print_l0 x some).bind dn:=by
 unfold as1
 repeat' first|exact n0|refine n1 fun _=>?_|refine n2 ?_ ?_|refine n3 (fun _=>?_) fun _=>?_|rfl
theorem hd4(c_Join c_JoinZ)(c_lineF c_lineS)(c_pbk c_String c_StringZ)(l_Print_l0)(x):f7 E8 (ftg 35 (fun a _=>match a with| [.sc _,_]=>false|_=>true) fX wO c_Join (ftg 35 (fun a _=>match a with| [.sc _,_]=>true|_=>false) bI oN c_JoinZ (ftg 34 (fun _ L=>match L with| [some (.tbk 79 [.sc (.pointer none),_]),_]=>true|_=>false) aJ mA c_lineF (ftg 34 (fun _ L=>L.length==3) t7 iL c_lineS (ftb 36 gL yO c_pbk (ftg 37 (fun _ L=>L.length==2) w8 jM c_String (ftg 37 (fun _ L=>L.length==1) q7 eR c_StringZ ca0))))))) (lt2 0 (fun _=>true) (b5 E8 13 0) (fZ x) (mU x) l_Print_l0 lo0) 13 (dl2 x).1 (dl2 x).2 K=as1 (vf fX c_Join) (vf bI c_JoinZ) (vf aJ c_lineF) (vf t7 c_lineS) (vf gL c_pbk) (vf w8 c_String) (vf q7 c_StringZ) (lf (b5 E8 13 0) (fZ x) l_Print_l0) x (fun z=>some (.c (fi0 z))):=by kernel_rfl
noncomputable def ek5(q:Nat)(x:i6):Option cd2:=as1 (Join q) (zZ q) (wV q) (gM q) (pbk q) (String q) (kE q) (bl8 (Join q) (zZ q) (wV q) (gM q) (pbk q) (String q) (kE q) q x) x some
theorem gh1(q:Nat):Lw E8 13 dl2 fi0 (ek5 q):=sof hW8 hX8 (fk (ff0 q) (fk (ee7 q) (fk (em7 q) (fk (cm6 q) (fk (gt5 q) (fk (db7 q) (fk (cg1 q) a8))))))) (fun x=>(lk2 (ez1 (Join q) (ff0 q) (zZ q) (ee7 q) (wV q) (em7 q) (gM q) (cm6 q) (pbk q) (gt5 q) (String q) (db7 q) (kE q) (cg1 q) q x) b6)) fun x=>(hd4 (Join q) (zZ q) (wV q) (gM q) (pbk q) (String q) (kE q) (bl8 (Join q) (zZ q) (wV q) (gM q) (pbk q) (String q) (kE q) q x) x).trans (by rw[bc3,ad7,ah8,yI,bx7,wI,pQ,fe3,he8]<;>rfl)
end Go.Proofs.YtjfkkokeegpeiaaGreatDoor
/- The law of Parens: the text of an expression, in some parentheses, is read as the expression. -/
namespace Go.Proofs.YtjfkkokeegpeiaaGreatDoor
open Go Go.Am Go.Proofs.Lx
set_option maxRecDepth 100000
theorem ao5:∀s∈bb9,am8 s:=by
 intro s hs
 have:∀s∈bb9,Lx.resP s=false∧s.size≤12∧(s.data.toList.headD 0::s.data.toList.tail=s.data.toList)∧p8 (s.data.toList.headD 0).toNat=true∧∀b∈s.data.toList,aE b.toNat=true:=by decide
 obtain⟨h0,h1,h2,h3,h4⟩:=this s hs
 exact⟨h0,h1,_,_,h2.symm,h3,by rw[h2];exact h4⟩
theorem en9(s:ByteArray)(h:s∈wY):s=⟨#[]⟩∨s∈ad0:=((show∀s∈wY,s=⟨#[]⟩∨inP ad0 s=true by decide) s h).imp_right inP_iff.1
theorem Mk.pr{d:Nat}{t:Tr}(h:Mk d t):∃x l e,Pr t x l e∧e≤2*d:=by
 have hp:∀lv t e,df3 lv t e≤e+1:=by intro lv t e;unfold df3;split<;>omega
 induction h with
 |int d n s h0 h1 h2=>
  rcases en9 s h2 with rfl|h2
  ·exact⟨_,_,_,.lit n h0 h1,by omega⟩
  ·exact⟨_,_,_,.qty n s h0 h1 h2,by omega⟩
 |var d s h=>exact⟨_,_,_,.var s (ao5 s h).1 (ao5 s h).2,by omega⟩
 |tlm d s h=>exact⟨_,_,_,.tlm s (ao5 s h).1 (ao5 s h).2,by omega⟩
 |bool d n h=>
  rcases h with rfl|rfl
  ·exact⟨_,_,_,.no,by omega⟩
  ·exact⟨_,_,_,.yes,by omega⟩
 |un d s a h _ ih=>
  obtain⟨x,l,e,hP,he⟩:=ih
  have:=hp (lvT (.node 19 0 s [a])) a e
  exact⟨_,_,_,.un s a x l e h hP,by omega⟩
 |bin d s a b h _ _ ih1 ih2=>
  obtain⟨x,l,e,hP,he⟩:=ih1
  obtain⟨y,m,f,hQ,hf⟩:=ih2
  have h1:=hp (if j8 s=4 then 5 else j8 s) a e
  have h2:=hp (j8 s+1) b f
  exact⟨_,_,_,.bin s a b x y l m e f h hP hQ,by omega⟩
theorem oM(a b:List UInt8):mkB (a++b)=mkB a++mkB b:=aB (by rw[m4,ByteArray.data_append,Array.toList_append,m4,m4])
theorem ep7(lv:Nat)(t:Tr)(x:List UInt8):mkB (dg4 lv t x)=par lv t (mkB x):=by
 unfold dg4 par
 split
 ·rw[show(40::(x++[41]))=[40]++x++[41]by simp,oM,oM];rfl
 ·rfl
theorem bj0:∀s∈ad0,s≠⟨#[]⟩∧s.size≤12:=by decide
theorem ez5{t:Tr}{x:List UInt8}{l:List Tkn}{d:Nat}(h:Pr t x l d):Txt t (mkB x):=by
 induction h with
 |lit n h0 h1=>have:=Txt.int n ⟨#[]⟩ h0 h1 (by decide);rw[if_pos rfl]at this;rw[jU];exact this
 |qty n s h0 h1 hs=>
  have:=Txt.int n s h0 h1 (bj0 s hs).2
  rw[if_neg (bj0 s hs).1]at this
  have e:mkB ((itS n).data.toList++32::s.data.toList)=itS n++⟨#[32]⟩++s:=by
   rw[show(itS n).data.toList++32::s.data.toList=(itS n).data.toList++[32]++s.data.toList by simp,oM,oM,jU,jU];rfl
  rw[e];exact this
 |yes=>have:=Txt.bool 1 ⟨#[]⟩;rw[if_pos rfl]at this;rw[jU];exact this
 |no=>have:=Txt.bool 0 ⟨#[]⟩;rw[if_neg (by decide)]at this;rw[jU];exact this
 |var s _ hw=>rw[jU];exact Txt.var 0 s hw.1
 |tlm s _ hw=>
  have:=Txt.tlm 0 s hw.1
  have e:mkB (116::108::109::46::s.data.toList)=⟨#[116,108,109,46]⟩++s:=by
   rw[show(116::108::109::46::s.data.toList)=[116,108,109,46]++s.data.toList by rfl,oM,jU];rfl
  rw[e];exact this
 |un s a x l d hs _ ih=>
  rw[oM,jU,ep7]
  exact Txt.un 0 s a (mkB x) hs ih
 |bin s a b x y l m d e hs _ _ ih1 ih2=>
  have:=Txt.bin 0 s a b (mkB x) (mkB y) hs ih1 ih2
  rw[←ep7,←ep7]at this
  have e:∀u v:List UInt8,mkB (u++32::(s.data.toList++32::v))=mkB u++⟨#[32]⟩++s++⟨#[32]⟩++mkB v:=by
   intro u v
   rw[show u++32::(s.data.toList++32::v)=u++[32]++s.data.toList++[32]++v by simp,oM,oM,oM,oM,jU];rfl
  rw[e];exact this
theorem hc9{t:Tr}{x y:ByteArray}(h:Txt t x):Txt t y→x=y:=by
 induction h generalizing y with
 |int n s h0 h1 h2=>intro g;cases g;rfl
 |bool n s=>intro g;cases g;rfl
 |var n s h=>intro g;cases g;rfl
 |tlm n s h=>intro g;cases g;rfl
 |un n s a x hs _ ih=>
  intro g
  cases g with
  |un _ _ _ x' _ g=>rw[ih g]
 |bin n s a b x1 x2 hs _ _ ih1 ih2=>
  intro g
  cases g with
  |bin _ _ _ _ y1 y2 _ g1 g2=>rw[ih1 g1,ih2 g2]
mutual
theorem fj6:∀(t u:Tr) (x:n4),RepN t x→RepN u x→t=u
 | .node k n s l,.node k' n' s' l',x,h,g=>by
  simp only[RepN]at h g
  obtain⟨h1,h2,h3,h4,h5⟩:=h
  obtain⟨g1,g2,g3,g4,g5⟩:=g
  rw[eg9 l l' _ 0 (by omega) h5 g5]
  congr 1
  ·exact h1.symm.trans g1
  ·exact h2.symm.trans g2
  ·exact h3.symm.trans g3
theorem eg9:∀(l m:List Tr) (f:FL) (i:Nat),l.length=m.length→rW l f i→rW m f i→l=m
 | [],[],f,i,_,_,_=>rfl
 | [],_::_,f,i,e,_,_=>by simp at e
 |_::_,[],f,i,e,_,_=>by simp at e
 |t::l,u::m,f,i,e,h,g=>by
  simp only[rW]at h g
  obtain⟨⟨y,h1,h2⟩,h3⟩:=h
  obtain⟨⟨z,g1,g2⟩,g3⟩:=g
  have hyz:y=z:=by
   rw[h1]at g1
   simp only[List.cons.injEq,i64,st,V.sc.injEq,Value.int.injEq,Value.string.injEq,V.ro.injEq,and_true,true_and]at g1
   obtain⟨e1,e2,e3,e4,e5⟩:=g1
   exact Prod.ext e1 (Prod.ext e2 (Prod.ext e3 (Prod.ext e4 e5)))
  subst hyz
  rw[fj6 t u y h2 g2,eg9 l m f (i+1) (by simpa using e) h3 g3]
end
theorem ds5(q:Nat){t:Tr}{b:ByteArray}{z:n4}(h:Txt t b)(hr:RepN t z)(hs:szT t≤1000000):by1 q z=some b:=by
 have hE:∃p:Tr×ByteArray,Txt p.1 p.2∧RepN p.1 z∧szT p.1≤1000000:=⟨(t,b),h,hr,hs⟩
 have e:(Classical.choose hE).2=b:=by
  obtain⟨h1,h2,_⟩:=Classical.choose_spec hE
  have:=fj6 _ _ _ h2 hr
  rw[this]at h1
  exact hc9 h1 h
 unfold by1
 rw[←e]
 exact dif_pos hE
structure Rdb(t:Tr)(y:List UInt8)(m:List Tkn)(d:Nat):Prop where
 hd:Hd y
 lx:∀(r:List UInt8) (k:List Tkn),Sep r→ec8 r→Ls r k→Ls (y++r) (m++k)
 rd:∀(T:Nat→Tkn) (s:PS),At T s.p m→s.o+d≤12→∀w,(T (s.p+m.length)).t=w→j8 w=0→vW w=false→Ex T 1 s t (go s m.length)
theorem Rdb.of{t:Tr}{x:List UInt8}{l:List Tkn}{d:Nat}(h:Pr t x l d):Rdb t x l d:=
 ⟨bh7 h,ia2 h,fun T s hA hd w h1 h2 h3=>hh8 h hA hd h1 h2 h3⟩
end Go.Proofs.YtjfkkokeegpeiaaGreatDoor
/- The law of Parens. -/
namespace Go.Proofs.YtjfkkokeegpeiaaGreatDoor
open Go Go.Am Go.Proofs.Lx
set_option maxRecDepth 100000
mutual
theorem ex4:∀t:Tr,RepN t (eT t)
 | .node k n s l=>by
  simp only[eT,RepN]
  exact⟨trivial,trivial,trivial,trivial,cn5 l _ 0 fun j t h=>by rw[Nat.zero_add];exact ai0 l j t h⟩
theorem cn5:∀(l:List Tr) (f:FL) (i:Nat),(∀j t,l[j]? =some t→f (i+j)=wR t)→rW l f i
 | [],f,i,_=>by simp[rW]
 |t::l,f,i,h=>by
  simp only[rW]
  refine⟨⟨eT t,?_,ex4 t⟩,cn5 l f (i+1) fun j u hj=>?_⟩
  ·have:=h 0 t rfl
   rw[Nat.add_zero]at this
   rw[this,ac3]
  ·have:=h (j+1) u (by simpa using hj)
   rw[show i+1+j=i+(j+1)by omega]
   exact this
end
end Go.Proofs.YtjfkkokeegpeiaaGreatDoor
/- What the printer of the program writes: lines and statements. -/
namespace Go.Proofs.YtjfkkokeegpeiaaGreatDoor
open Go Go.Am Go.Proofs.Lx
set_option maxRecDepth 100000
def RB(b:List UInt8)(z:Nat×FI):Prop:=z.1=b.length∧∀j,j<b.length→z.2 j=((b.getD j 0).toNat:Int)
theorem dr5(a b:List UInt8)(j:Nat):(a++b).getD j 0=if j<a.length then a.getD j 0 else b.getD (j-a.length) 0:=by
 rw[List.getD_eq_getElem?_getD,List.getD_eq_getElem?_getD,List.getD_eq_getElem?_getD]
 split
 ·rename_i h;rw[List.getElem?_append_left h]
 ·rename_i h;rw[List.getElem?_append_right (by omega)]
theorem cy6(q:Nat){b:List UInt8}{s:ByteArray}{z:Nat×FI}(h:RB b z)(hl:b.length+s.size≤1000000000):Rs (WS q (s,z)) (fun y=>RB (b++s.data.toList) y.2):=by
 obtain⟨n,f⟩:=z
 obtain⟨h1,h2⟩:=h
 have h1:n=b.length:=h1
 subst h1
 unfold WS fu0 CC
 refine Rs.bind (Rs.of rfl) fun z2 e=>?_
 subst e
 refine Rs.pos ⟨by show(b.length+s.size)*1≤d5;unfold d5;omega,by show b.length+s.size≤maxLen;unfold maxLen;omega,Nat.le_refl _⟩ (Rs.some ⟨?_,fun j hj=>?_⟩)
 ·show b.length+s.size=(b++s.data.toList).length
  rw[List.length_append,eD]
 ·show(if j<b.length then f j else _)=_
  rw[dr5]
  split
  ·rename_i hjb;exact h2 j hjb
  ·rfl
theorem ho9(q:Nat){b:List UInt8}{z:Nat×FI}(h:RB b z)(hl:b.length+1≤1000000000):Rs (WB q (10,z)) (RB (b++[10])):=by
 obtain⟨n,f⟩:=z
 obtain⟨h1,h2⟩:=h
 have h1:n=b.length:=h1
 subst h1
 unfold WB gb6 CC
 refine Rs.bind (Rs.of rfl) fun z2 e=>?_
 subst e
 refine Rs.pos ⟨by show(b.length+1)*1≤d5;unfold d5;omega,by show b.length+1≤maxLen;unfold maxLen;omega,Nat.le_refl _⟩ (Rs.some ⟨?_,fun j hj=>?_⟩)
 ·show b.length+1=(b++[10]).length
  simp
 ·show(if j<b.length then f j else 10)=_
  rw[dr5]
  split
  ·rename_i hjb;exact h2 j hjb
  ·rename_i hjb
   have:j-b.length=0:=by simp at hj;omega
   rw[this];rfl
def am7(ps:List ByteArray):List UInt8:=ps.flatMap (·.data.toList)
theorem he9(n:Nat):Lib.repeatL [32,32] n=j5 n:=by
 unfold j5
 induction n with
 |zero=>rfl
 |succ n ih=>
  show[32,32]++Lib.repeatL [32,32] n=_
  rw[ih,show 2*(n+1)=2*n+1+1 by omega,List.replicate_succ,List.replicate_succ]
  rfl
theorem cx2(q0:Nat)(x0:y4){ps:List ByteArray}(hn:x0.2.1=ps.length)(hp:∀j (h:j<ps.length),x0.2.2.1 j=ps[j]):∀(q i:Nat) (b:List UInt8) (z:Nat×FI),i≤ps.length→ps.length-i<q→RB b z→b.length+(am7 (ps.drop i)).length≤1000000000→i≤1000→ps.length≤1000→
 Rs (aq0 (Repeat q0) (WS q0) (WB q0) q x0 (z.1,z.2,(i:Int))) (RB (b++am7 (ps.drop i)))
 |0,i,b,z,hi,hq,_,_,_,_=>by omega
 |q+1,i,b,z,hi,hq,hz,hl,hi2,hp2=>by
  unfold aq0
  refine Rs.step3 fun Q hQ=>?_
  unfold rA
  dsimp only
  rw[hn]
  by_cases hil:i<ps.length
  ·have e1:ps.drop i=ps[i]::ps.drop (i+1):=List.drop_eq_getElem_cons hil
   have e2:am7 (ps.drop i)=ps[i].data.toList++am7 (ps.drop (i+1)):=by rw[e1];rfl
   rw[e2,List.length_append,eD]at hl
   refine Rs.pos (decide_eq_true (by omega)) (Rs.pos ⟨by omega,by omega⟩ (Rs.pos ⟨by omega,rfl⟩ ?_))
   rw[Int.toNat_natCast,Nat.zero_add,hp i hil]
   refine Rs.bind (cy6 q0 (z:=(z.1,z.2)) hz (by omega)) fun y hy=>Rs.some (hQ _ ?_)
   rw[s9 (by omega),e2,←List.append_assoc]
   exact cx2 q0 x0 hn hp q (i+1) _ (y.2.1,y.2.2) (by omega) (by omega) hy (by rw[List.length_append,eD];omega) (by omega) hp2
  ·refine Rs.neg (fun h=>hil (by have:=of_decide_eq_true h;omega)) (Rs.some ?_)
   rw[List.drop_eq_nil_of_le (by omega)]
   simpa[am7]using hz
theorem ca8{q:Nat}{dp:Nat}{ps:List ByteArray}{p:Nat→ByteArray}{b:List UInt8}{z:Nat×FI}(hq:ps.length<q)(hp2:ps.length≤1000)(hd:dp≤400)(hp:∀j (h:j<ps.length),p j=ps[j])(hz:RB b z)(hl:b.length+(j5 dp++(am7 ps++[10])).length≤1000000000):
 Rs (gM q ((dp:Int),ps.length,p,z)) (fun y=>RB (b++(j5 dp++(am7 ps++[10]))) y.2.2):=by
 unfold gM aw2
 rw[List.length_append,List.length_append,List.length_cons,List.length_nil]at hl
 have e1:Repeat q (⟨#[32,32]⟩,(dp:Int))=some (mkB (j5 dp)):=by
  unfold Repeat
  rw[if_pos ⟨by omega,by omega,show 2≤1000 by decide⟩]
  show some (mkB (Lib.repeatL [32,32] (dp:Int).toNat))=_
  rw[Int.toNat_natCast,he9]
 refine Rs.bind (Rs.of e1) fun z2 e=>?_
 subst e
 refine Rs.bind (cy6 q hz (by rw[b9];omega)) fun z6 h6=>?_
 rw[m4]at h6
 refine Rs.bind (cx2 q ((dp:Int),ps.length,p,z) rfl hp q 0 _ (z6.2.1,z6.2.2) (by omega) (by omega) h6 (by rw[List.length_append,List.drop_zero];omega) (by omega) hp2) fun z28 h28=>?_
 rw[List.drop_zero]at h28
 refine Rs.bind (ho9 q h28 (by rw[List.length_append,List.length_append];omega)) fun z32 h32=>Rs.some ?_
 show RB _ (z32.1,z32.2)
 have e:b++(j5 dp++(am7 ps++[10]))=b++j5 dp++am7 ps++[10]:=by simp
 rw[e];exact h32
end Go.Proofs.YtjfkkokeegpeiaaGreatDoor
/- What the printer of the program writes: statements. -/
namespace Go.Proofs.YtjfkkokeegpeiaaGreatDoor
open Go Go.Am Go.Proofs.Lx
set_option maxRecDepth 100000
def szZ:Tr⊕List Tr→Nat
 | .inl t=>szT t
 | .inr l=>szL l
theorem yS{t:Tr}{x:List UInt8}{l:List Tkn}{d:Nat}(h:Pr t x l d):x.length≤30*szT t:=by
 have:=wS (ez5 h)
 rwa [b9]at this
theorem ep1{s:ByteArray}(h:am8 s):(bL s).length≤12:=by unfold bL;rw[eD];exact h.2.1
theorem ca6{n:Int}(h0:0≤n)(h1:n≤1000):(bL (itS n)).length≤10:=by unfold bL;rw[eD];exact jC h0 (by omega)
theorem p7(i:Nat):(j5 i).length=2*i:=by simp[j5]
theorem ha6{i:Nat}{z:Tr⊕List Tr}{x:List UInt8}{l:List Tkn}{d:Nat}{v:List ByteArray}(h:PrS i z x l d v):i+d≤30→x.length≤250*szZ z:=by
 have key:∀w:ByteArray,w∈keywords→(bL w).length≤12:=fun w hw=>by unfold bL;rw[eD];exact(ar1 w hw).1
 induction h with
 |«let» i y a x l d hn hP=>
  intro hd
  have h1:=yS hP;have h2:=ep1 hn;have h3:=p7 i
  simp only[szZ,szT,szL,List.length_append,List.length_cons,List.length_nil]at*
  have:(bL bk8).length=3:=rfl
  omega
 |set i y a x l d hn hP=>
  intro hd
  have h1:=yS hP;have h2:=ep1 hn;have h3:=p7 i
  simp only[szZ,szT,szL,List.length_append,List.length_cons,List.length_nil]at*
  omega
 |cond i c ys x l d xy ly dy vy hP hY ih=>
  intro hd
  have h1:=yS hP;have h3:=p7 i;have h4:=ih (by omega)
  simp only[szZ,szT,szL,List.length_append,List.length_cons,List.length_nil]at*
  have:(bL sU).length=2:=rfl
  omega
 |both i c ys n0 ns x l d xy ly dy vy xn ln dn vn hP hY hN ih1 ih2=>
  intro hd
  have h1:=yS hP;have h3:=p7 i;have h4:=ih1 (by omega);have h5:=ih2 (by omega)
  simp only[szZ,szT,szL,List.length_append,List.length_cons,List.length_nil]at*
  have:(bL sU).length=2:=rfl
  have:(bL oO).length=4:=rfl
  omega
 |rep i n ys xy ly dy vy g0 g1 hY ih=>
  intro hd
  have h2:=ca6 (n:=n) (by omega) (by omega);have h3:=p7 i;have h4:=ih (by omega)
  simp only[szZ,szT,szL,List.length_append,List.length_cons,List.length_nil]at*
  have:(bL bX).length=6:=rfl
  omega
 |amt i k w n u x l d hk hP=>
  intro hd
  have h1:=yS hP;have h3:=p7 i
  have h2:(bL w).length≤12:=key w (inP_iff.1 (by rcases hk with⟨_,rfl⟩ | ⟨_,rfl⟩<;>decide))
  simp only[szZ,szT,szL,List.length_append,List.length_cons,List.length_nil]at*
  omega
 |await i c y m e n u x l d hC hP=>
  intro hd
  have h1:=yS hP;have h2:=yS hC;have h3:=p7 i
  simp only[szZ,szT,szL,List.length_append,List.length_cons,List.length_nil]at*
  have:(bL tS).length=5:=rfl
  have:(bL jF).length=6:=rfl
  omega
 |one i k w a x l d hk hP=>
  intro hd
  have h1:=yS hP;have h3:=p7 i
  have h2:(bL w).length≤12:=key w (inP_iff.1 (by rcases hk with⟨_,rfl⟩ | ⟨_,rfl⟩<;>decide))
  simp only[szZ,szT,szL,List.length_append,List.length_cons,List.length_nil]at*
  omega
 |use i j n u x l d g0 g1 hP=>
  intro hd
  have h1:=yS hP;have h2:=ca6 g0 (by omega);have h3:=p7 i
  simp only[szZ,szT,szL,List.length_append,List.length_cons,List.length_nil]at*
  have:(bL an0).length=3:=rfl
  have:(bL al3).length=3:=rfl
  omega
 |send i j n u x l d g0 g1 hP=>
  intro hd
  have h1:=yS hP;have h2:=ca6 g0 (by omega);have h3:=p7 i
  simp only[szZ,szT,szL,List.length_append,List.length_cons,List.length_nil]at*
  have:(bL ac9).length=4:=rfl
  omega
 |nmb i k w j hk g0=>
  intro hd
  have h2:=ca6 g0 (by rcases hk with⟨_,_,h⟩ | ⟨_,_,h⟩<;>omega);have h3:=p7 i
  have h4:(bL w).length≤12:=key w (inP_iff.1 (by rcases hk with⟨_,rfl,_⟩ | ⟨_,rfl,_⟩<;>decide))
  simp only[szZ,szT,szL,List.length_append,List.length_cons,List.length_nil]at*
  omega
 |nil i=>intro _;simp
 |cons i t ts x l d v xs ls ds vs _ _ ih1 ih2=>
  intro hd
  have h1:=ih1 (by omega);have h2:=ih2 (by omega)
  simp only[szZ,szL,List.length_append]at*
  omega
def aS(t:Tr)(i:Nat)(z:Nat×FI):by7:=((eT t).1,(eT t).2.1,(eT t).2.2.1,(eT t).2.2.2.1,(eT t).2.2.2.2,(i:Int),z)
abbrev kF(l:List Tr):FL:=fun j=>(r9 l).getD j dfl
abbrev kC(k n:Int)(s:ByteArray)(l:List Tr):Int×Int×ByteArray×Nat×FI×FI×FS×FN×FM:=(k,n,s,l.length,opK (kF l),opN (kF l),opS (kF l),opM (kF l),opF (kF l))
theorem sZ(q:Nat)(k n:Int)(s:ByteArray){l:List Tr}(j:Nat){c:Tr}{y:List UInt8}{m:List Tkn}{d:Nat}(hc:l[j]? =some c)(hP:Pr c y m d)(hs:szT c≤1000000):Rs (kid q ((j:Int),kC k n s l)) (fun z=>z=(mkB y,kC k n s l)):=by
 unfold kid da0
 obtain⟨h1,_⟩:=List.getElem?_eq_some_iff.1 hc
 refine Rs.pos ⟨by omega,show(j:Int)< ((l.length:Nat):Int)by omega⟩ ?_
 have e:=mR hc
 have:=ds5 q (ez5 hP) (ex4 c) hs
 rw[←e]at this
 refine Rs.bind (Rs.of this) fun z hz=>Rs.some (by rw[hz])
theorem oQ(q:Nat)(n:Int)(h: -9223372036854775808≤n∧n≤9223372036854775807):Rs (bz2 q n) (fun z=>z=itS n):=by
 unfold bz2
 exact Rs.pos h (Rs.some rfl)
open Classical in
theorem iW{q:Nat}{k n:Int}{s:ByteArray}{l:List Tr}{i:Nat}{z:Nat×FI}{P:ch6→Prop}(h:Rs (fP (bz2 q) (kid q) (gM q) (pbk q) (k,n,s,l.length,opK (kF l),opN (kF l),opS (kF l),opM (kF l),opF (kF l),(i:Int),z) some) P):Rs (pst (q+1) (aS (.node k n s l) i z)) P:=by
 show Rs (if xW (kF l)then fP (bz2 q) (kid q) (gM q) (cu3 q).2 (k,n,s,l.length,opK (kF l),opN (kF l),opS (kF l),opM (kF l),opF (kF l),(i:Int),z) some else none) P
 exact Rs.pos (f8 l) h
open Classical in
theorem gv5{q:Nat}{k n:Int}{s:ByteArray}{l:List Tr}{i:Nat}{z:Nat×FI}{P:tK→Prop}(h:Rs (uA (pst q) q (k,n,s,l.length,opK (kF l),opN (kF l),opS (kF l),opM (kF l),opF (kF l),(i:Int),z) (0,z)) P):Rs (pbk (q+1) (aS (.node k n s l) i z)) P:=by
 show Rs (if xW (kF l)then ak7 (cu3 q).1 (uA (cu3 q).1 q (k,n,s,l.length,opK (kF l),opN (kF l),opS (kF l),opM (kF l),opF (kF l),(i:Int),z)) (k,n,s,l.length,opK (kF l),opN (kF l),opS (kF l),opM (kF l),opF (kF l),(i:Int),z) some else none) P
 refine Rs.pos (f8 l) ?_
 unfold ak7
 exact Rs.bind h fun z hz=>Rs.some hz
theorem if1{a:ByteArray}{p:Nat→ByteArray}(h0:p 0=a):∀j (h:j< [a].length),p j=[a][j]
 |0,_=>h0
 |j+1,h=>by simp only[List.length_cons,List.length_nil]at h;omega
theorem il1{a b c:ByteArray}{p:Nat→ByteArray}(h0:p 0=a)(h1:p 1=b)(h2:p 2=c):∀j (h:j< [a,b,c].length),p j=[a,b,c][j]
 |0,_=>h0
 |1,_=>h1
 |2,_=>h2
 |j+3,h=>by simp only[List.length_cons,List.length_nil]at h;omega
theorem ij1{a b c d:ByteArray}{p:Nat→ByteArray}(h0:p 0=a)(h1:p 1=b)(h2:p 2=c)(h3:p 3=d):∀j (h:j< [a,b,c,d].length),p j=[a,b,c,d][j]
 |0,_=>h0
 |1,_=>h1
 |2,_=>h2
 |3,_=>h3
 |j+4,h=>by simp only[List.length_cons,List.length_nil]at h;omega
theorem ii6{a b c d e:ByteArray}{p:Nat→ByteArray}(h0:p 0=a)(h1:p 1=b)(h2:p 2=c)(h3:p 3=d)(h4:p 4=e):∀j (h:j< [a,b,c,d,e].length),p j=[a,b,c,d,e][j]
 |0,_=>h0
 |1,_=>h1
 |2,_=>h2
 |3,_=>h3
 |4,_=>h4
 |j+5,h=>by simp only[List.length_cons,List.length_nil]at h;omega
theorem ln1{q i:Nat}{a:ByteArray}{p:Nat→ByteArray}{b x:List UInt8}{z:Nat×FI}(hq:5<q)(hd:i≤400)(h0:p 0=a)(hz:RB b z)(e:x=j5 i++(a.data.toList++[10]))(hl:b.length+x.length≤1000000000):Rs (gM q ((i:Int),1,p,z)) (fun y=>RB (b++x) y.2.2):=by
 have e2:x=j5 i++(am7 [a]++[10]):=by rw[e];simp[am7]
 rw[e2]at hl⊢
 exact ca8 (ps:=[a]) (by show 1<q;omega) (show 1≤1000 by decide) hd (if1 h0) hz hl
theorem ln3{q i:Nat}{a1 a2 a3:ByteArray}{p:Nat→ByteArray}{b x:List UInt8}{z:Nat×FI}(hq:5<q)(hd:i≤400)(h0:p 0=a1)(h1:p 1=a2)(h2:p 2=a3)(hz:RB b z)(e:x=j5 i++(a1.data.toList++(a2.data.toList++(a3.data.toList++[10]))))(hl:b.length+x.length≤1000000000):Rs (gM q ((i:Int),3,p,z)) (fun y=>RB (b++x) y.2.2):=by
 have e2:x=j5 i++(am7 [a1,a2,a3]++[10]):=by rw[e];simp[am7]
 rw[e2]at hl⊢
 exact ca8 (ps:=[a1,a2,a3]) (by show 3<q;omega) (show 3≤1000 by decide) hd (il1 h0 h1 h2) hz hl
theorem ln4{q i:Nat}{a1 a2 a3 a4:ByteArray}{p:Nat→ByteArray}{b x:List UInt8}{z:Nat×FI}(hq:5<q)(hd:i≤400)(h0:p 0=a1)(h1:p 1=a2)(h2:p 2=a3)(h3:p 3=a4)(hz:RB b z)(e:x=j5 i++(a1.data.toList++(a2.data.toList++(a3.data.toList++(a4.data.toList++[10])))))(hl:b.length+x.length≤1000000000):Rs (gM q ((i:Int),4,p,z)) (fun y=>RB (b++x) y.2.2):=by
 have e2:x=j5 i++(am7 [a1,a2,a3,a4]++[10]):=by rw[e];simp[am7]
 rw[e2]at hl⊢
 exact ca8 (ps:=[a1,a2,a3,a4]) (by show 4<q;omega) (show 4≤1000 by decide) hd (ij1 h0 h1 h2 h3) hz hl
theorem ln5{q i:Nat}{a1 a2 a3 a4 a5:ByteArray}{p:Nat→ByteArray}{b x:List UInt8}{z:Nat×FI}(hq:5<q)(hd:i≤400)(h0:p 0=a1)(h1:p 1=a2)(h2:p 2=a3)(h3:p 3=a4)(h4:p 4=a5)(hz:RB b z)(e:x=j5 i++(a1.data.toList++(a2.data.toList++(a3.data.toList++(a4.data.toList++(a5.data.toList++[10]))))))(hl:b.length+x.length≤1000000000):Rs (gM q ((i:Int),5,p,z)) (fun y=>RB (b++x) y.2.2):=by
 have e2:x=j5 i++(am7 [a1,a2,a3,a4,a5]++[10]):=by rw[e];simp[am7]
 rw[e2]at hl⊢
 exact ca8 (ps:=[a1,a2,a3,a4,a5]) (by show 5<q;omega) (show 5≤1000 by decide) hd (ii6 h0 h1 h2 h3 h4) hz hl
def hq3(i:Nat)(x:List UInt8):Tr⊕List Tr→Prop
 | .inl t=>∀(q:Nat) (b:List UInt8) (z:Nat×FI),3*szT t+20≤q→RB b z→b.length+x.length≤1000000000→szT t≤1000000→Rs (pst q (aS t i z)) (RB (b++x))
 | .inr ys=>∀(q q2 j:Nat) (k n:Int) (s:ByteArray) (L:List Tr) (z0:Nat×FI) (b:List UInt8) (z:Nat×FI),1≤i→3*szL ys+20≤q→ys.length<q2→L.drop j=ys→j≤L.length→L.length≤1000000→RB b z→b.length+x.length≤1000000000→szL ys≤1000000→
  Rs (uA (pst q) q2 (k,n,s,L.length,opK (kF L),opN (kF L),opS (kF L),opM (kF L),opF (kF L),((i-1:Nat):Int),z0) ((j:Int),z)) (RB (b++x))
theorem cq0{q i:Nat}{ys:List Tr}{x:List UInt8}(h:hq3 (i+1) x (.inr ys)){b:List UInt8}{z:Nat×FI}(hq:3*szL ys+21≤q)(hz:RB b z)(hl:b.length+x.length≤1000000000)(hs:szL ys≤1000000)(k n:Int)(s:ByteArray):Rs (pbk q (aS (.node k n s ys) i z)) (RB (b++x)):=by
 obtain⟨q,rfl⟩:∃q',q=q'+1:=⟨q-1,by omega⟩
 have hlen:=ff5 ys
 refine gv5 ?_
 exact h q q 0 k n s ys z b z (by omega) (by omega) (by omega) rfl (Nat.zero_le _) (by omega) hz hl hs
theorem ht7{i:Nat}{z:Tr⊕List Tr}{x:List UInt8}{l:List Tkn}{d:Nat}{v:List ByteArray}(h:PrS i z x l d v):i+d≤30→hq3 i x z:=by
 induction h with
 |«let» i y a x l d hn hP=>
  intro hd q b z hq hz hl hs
  simp only[szT,szL]at hq hs
  obtain⟨q,rfl⟩:∃q',q=q'+1:=⟨q-1,by omega⟩
  refine iW ?_
  unfold fP
  dsimp only
  refine Rs.bind (oQ q 0 (by decide)) fun z1 _=>Rs.pos rfl ?_
  refine Rs.bind (sZ q 1 0 y (l:=[a]) 0 rfl hP (by omega)) fun z2 e2=>?_
  subst e2
  refine Rs.pos rfl ?_
  refine Rs.bind (ln5 (x:=j5 i++(bL bk8++32::(bL y++32::61::32::(x++[59,10])))) (by omega) (by omega) rfl rfl rfl rfl rfl hz (by simp[bL,mkB]) hl) fun z3 h3=>Rs.some h3
 |set i y a x l d hn hP=>
  intro hd q b z hq hz hl hs
  simp only[szT,szL]at hq hs
  obtain⟨q,rfl⟩:∃q',q=q'+1:=⟨q-1,by omega⟩
  refine iW ?_
  unfold fP
  dsimp only
  refine Rs.bind (oQ q 0 (by decide)) fun z1 _=>Rs.neg (by decide) (Rs.pos rfl ?_)
  refine Rs.bind (sZ q 2 0 y (l:=[a]) 0 rfl hP (by omega)) fun z2 e2=>?_
  subst e2
  refine Rs.pos rfl ?_
  refine Rs.bind (ln4 (x:=j5 i++(bL y++32::61::32::(x++[59,10]))) (by omega) (by omega) rfl rfl rfl rfl hz (by simp[bL,mkB]) hl) fun z3 h3=>Rs.some h3
 |cond i c ys x l d xy ly dy vy hP hY ih=>
  intro hd q b z hq hz hl hs
  have ih:=ih (by omega)
  have hi:=p7 i
  simp only[szT,szL]at hq hs
  simp only[List.length_append,List.length_cons,List.length_nil]at hl
  obtain⟨q,rfl⟩:∃q',q=q'+1:=⟨q-1,by omega⟩
  refine iW ?_
  unfold fP
  dsimp only
  refine Rs.bind (oQ q 0 (by decide)) fun z1 _=>Rs.neg (by decide) (Rs.neg (by decide) (Rs.pos rfl ?_))
  refine Rs.bind (sZ q 3 0 ⟨#[]⟩ (l:=[c,.node 14 0 ⟨#[]⟩ ys,.node 14 0 ⟨#[]⟩ []]) 0 rfl hP (by omega)) fun z2 e2=>?_
  subst e2
  have hx1:(j5 i++(bL sU++32::(x++[32,123,10]))).length=(j5 i).length+((bL sU).length+(x.length+(0+1+1+1)+1)):=by simp only[List.length_append,List.length_cons,List.length_nil]
  refine Rs.bind (ln3 (x:=j5 i++(bL sU++32::(x++[32,123,10]))) (by omega) (by omega) rfl rfl rfl hz (by simp[bL,mkB]) (by rw[hx1];omega)) fun z3 h3=>?_
  refine Rs.pos ⟨by decide,show(1:Int)< ((3:Nat):Int)by decide⟩ ?_
  have e1:(opK (kF [c,.node 14 0 ⟨#[]⟩ ys,.node 14 0 ⟨#[]⟩ []]) 1,opN (kF [c,.node 14 0 ⟨#[]⟩ ys,.node 14 0 ⟨#[]⟩ []]) 1,opS (kF [c,.node 14 0 ⟨#[]⟩ ys,.node 14 0 ⟨#[]⟩ []]) 1,opM (kF [c,.node 14 0 ⟨#[]⟩ ys,.node 14 0 ⟨#[]⟩ []]) 1,opF (kF [c,.node 14 0 ⟨#[]⟩ ys,.node 14 0 ⟨#[]⟩ []]) 1,(i:Int),z3.2.2)=aS (.node 14 0 ⟨#[]⟩ ys) i z3.2.2:=rfl
  rw[e1]
  refine Rs.bind (cq0 ih (by omega) h3 (by rw[List.length_append,hx1];omega) (by omega) 14 0 ⟨#[]⟩) fun z4 h4=>?_
  refine Rs.pos ⟨by decide,show(2:Int)< ((3:Nat):Int)by decide⟩ (Rs.neg (show¬decide (((0:Nat):Int)>0)=true by decide) ?_)
  have hl5:(b++(j5 i++(bL sU++32::(x++[32,123,10])))++xy).length=b.length+((j5 i).length+((bL sU).length+(x.length+(0+1+1+1)+1)))+xy.length:=by rw[List.length_append,List.length_append,hx1]
  refine Rs.bind (ln1 (i:=i) (x:=j5 i++[125,10]) (by omega) (by omega) rfl h4 rfl (by rw[hl5,List.length_append];show _+(_+2)≤_;omega)) fun z5 h5=>Rs.some ?_
  have e5:b++(j5 i++(bL sU++32::(x++[32,123,10])))++xy++(j5 i++[125,10])=b++(j5 i++(bL sU++32::(x++32::123::10::(xy++(j5 i++[125,10]))))):=by simp
  rw[e5]at h5
  exact h5
 |both i c ys n0 ns x l d xy ly dy vy xn ln dn vn hP hY hN ih1 ih2=>
  intro hd q b z hq hz hl hs
  have ih1:=ih1 (by omega)
  have ih2:=ih2 (by omega)
  have hi:=p7 i
  simp only[szT]at hq hs
  rw[show szL [c,.node 14 0 ⟨#[]⟩ ys,.node 14 0 ⟨#[]⟩ (n0::ns)]=szT c+(1+szL ys+(1+szL (n0::ns)+0+1)+1)+1 by simp only[szL,szT]]at hq hs
  simp only[List.length_append,List.length_cons,List.length_nil]at hl
  obtain⟨q,rfl⟩:∃q',q=q'+1:=⟨q-1,by omega⟩
  refine iW ?_
  unfold fP
  dsimp only
  refine Rs.bind (oQ q 0 (by decide)) fun z1 _=>Rs.neg (by decide) (Rs.neg (by decide) (Rs.pos rfl ?_))
  generalize hL:[c,.node 14 0 ⟨#[]⟩ ys,.node 14 0 ⟨#[]⟩ (n0::ns)]=L
  have h0:L[0]? =some c:=by rw[←hL];rfl
  have h1:L[1]? =some (.node 14 0 ⟨#[]⟩ ys):=by rw[←hL];rfl
  have h2:L[2]? =some (.node 14 0 ⟨#[]⟩ (n0::ns)):=by rw[←hL];rfl
  have hL3:L.length=3:=by rw[←hL];rfl
  clear hL
  refine Rs.bind (sZ q 3 0 ⟨#[]⟩ (l:=L) 0 h0 hP (by omega)) fun z2 e2=>?_
  subst e2
  have hx1:(j5 i++(bL sU++32::(x++[32,123,10]))).length=(j5 i).length+((bL sU).length+(x.length+(0+1+1+1)+1)):=by simp only[List.length_append,List.length_cons,List.length_nil]
  refine Rs.bind (ln3 (x:=j5 i++(bL sU++32::(x++[32,123,10]))) (by omega) (by omega) rfl rfl rfl hz (by simp[bL,mkB]) (by rw[hx1];omega)) fun z3 h3=>?_
  refine Rs.pos ⟨by decide,show(1:Int)< ((L.length:Nat):Int)by omega⟩ ?_
  have e1:(opK (kF L) 1,opN (kF L) 1,opS (kF L) 1,opM (kF L) 1,opF (kF L) 1,(i:Int),z3.2.2)=aS (.node 14 0 ⟨#[]⟩ ys) i z3.2.2:=by
   have this:=mR h1
   have a1:=congrArg (fun y:n4=>y.1) this
   have a2:=congrArg (fun y:n4=>y.2.1) this
   have a3:=congrArg (fun y:n4=>y.2.2.1) this
   have a4:=congrArg (fun y:n4=>y.2.2.2.1) this
   have a5:=congrArg (fun y:n4=>y.2.2.2.2) this
   dsimp only at a1 a2 a3 a4 a5
   unfold aS
   rw[←a1,←a2,←a3,←a4,←a5]
  have e2:∀w:Nat×FI,(opK (kF L) 2,opN (kF L) 2,opS (kF L) 2,opM (kF L) 2,opF (kF L) 2,(i:Int),w)=aS (.node 14 0 ⟨#[]⟩ (n0::ns)) i w:=by
   intro w
   have this:=mR h2
   have a1:=congrArg (fun y:n4=>y.1) this
   have a2:=congrArg (fun y:n4=>y.2.1) this
   have a3:=congrArg (fun y:n4=>y.2.2.1) this
   have a4:=congrArg (fun y:n4=>y.2.2.2.1) this
   have a5:=congrArg (fun y:n4=>y.2.2.2.2) this
   dsimp only at a1 a2 a3 a4 a5
   unfold aS
   rw[←a1,←a2,←a3,←a4,←a5]
  have e3:opM (kF L) 2=(n0::ns).length:=by
   exact congrArg (fun y:n4=>y.2.2.2.1) (mR h2)
  rw[e1]
  refine Rs.bind (cq0 ih1 (by omega) h3 (by rw[List.length_append,hx1];omega) (by omega) 14 0 ⟨#[]⟩) fun z4 h4=>?_
  refine Rs.pos ⟨by decide,show(2:Int)< ((L.length:Nat):Int)by omega⟩ (Rs.pos ?_ ?_)
  ·refine decide_eq_true ?_
   show((opM (kF L) 2:Nat):Int)>0
   rw[e3,List.length_cons];omega
  have hl5:(b++(j5 i++(bL sU++32::(x++[32,123,10])))++xy).length=b.length+((j5 i).length+((bL sU).length+(x.length+(0+1+1+1)+1)))+xy.length:=by rw[List.length_append,List.length_append,hx1]
  have hx2:(j5 i++(125::32::(bL oO++[32,123,10]))).length=(j5 i).length+((bL oO).length+(0+1+1+1)+1+1):=by simp only[List.length_append,List.length_cons,List.length_nil]
  refine Rs.bind (ln1 (i:=i) (x:=j5 i++(125::32::(bL oO++[32,123,10]))) (by omega) (by omega) rfl h4 rfl (by rw[hl5,hx2];omega)) fun z5 h5=>?_
  refine Rs.pos ⟨by decide,show(2:Int)< ((L.length:Nat):Int)by omega⟩ ?_
  rw[e2]
  refine Rs.bind (cq0 ih2 (by omega) h5 (by rw[List.length_append,hl5,hx2];omega) (by omega) 14 0 ⟨#[]⟩) fun z6 h6=>?_
  refine Rs.bind (ln1 (i:=i) (x:=j5 i++[125,10]) (by omega) (by omega) rfl h6 rfl (by rw[List.length_append,List.length_append,hl5,hx2,List.length_append];show _+(_+2)≤_;omega)) fun z7 h7=>Rs.some ?_
  have e5:b++(j5 i++(bL sU++32::(x++[32,123,10])))++xy++(j5 i++(125::32::(bL oO++[32,123,10])))++xn++(j5 i++[125,10])=b++(j5 i++(bL sU++32::(x++32::123::10::(xy++(j5 i++125::32::(bL oO++32::123::10::(xn++(j5 i++[125,10])))))))):=by simp
  rw[e5]at h7
  exact h7
 |rep i n ys xy ly dy vy g0 g1 hY ih=>
  intro hd q b z hq hz hl hs
  have ih:=ih (by omega)
  have hi:=p7 i
  simp only[szT,szL]at hq hs
  simp only[List.length_append,List.length_cons,List.length_nil]at hl
  obtain⟨q,rfl⟩:∃q',q=q'+1:=⟨q-1,by omega⟩
  refine iW ?_
  unfold fP
  dsimp only
  refine Rs.bind (oQ q n (by omega)) fun z1 e1=>Rs.neg (by decide) (Rs.neg (by decide) (Rs.neg (by decide) (Rs.pos rfl ?_)))
  subst e1
  have hx1:(j5 i++(bL bX++32::(bL (itS n)++[32,123,10]))).length=(j5 i).length+((bL bX).length+((bL (itS n)).length+(0+1+1+1)+1)):=by simp only[List.length_append,List.length_cons,List.length_nil]
  refine Rs.bind (ln3 (x:=j5 i++(bL bX++32::(bL (itS n)++[32,123,10]))) (by omega) (by omega) rfl rfl rfl hz (by simp[bL]) (by rw[hx1];omega)) fun z3 h3=>?_
  refine Rs.pos ⟨by decide,show(0:Int)< ((1:Nat):Int)by decide⟩ ?_
  have e1:(opK (kF [.node 14 0 ⟨#[]⟩ ys]) 0,opN (kF [.node 14 0 ⟨#[]⟩ ys]) 0,opS (kF [.node 14 0 ⟨#[]⟩ ys]) 0,opM (kF [.node 14 0 ⟨#[]⟩ ys]) 0,opF (kF [.node 14 0 ⟨#[]⟩ ys]) 0,(i:Int),z3.2.2)=aS (.node 14 0 ⟨#[]⟩ ys) i z3.2.2:=rfl
  rw[e1]
  refine Rs.bind (cq0 ih (by omega) h3 (by rw[List.length_append,hx1];omega) (by omega) 14 0 ⟨#[]⟩) fun z4 h4=>?_
  have hl5:(b++(j5 i++(bL bX++32::(bL (itS n)++[32,123,10])))++xy).length=b.length+((j5 i).length+((bL bX).length+((bL (itS n)).length+(0+1+1+1)+1)))+xy.length:=by rw[List.length_append,List.length_append,hx1]
  refine Rs.bind (ln1 (i:=i) (x:=j5 i++[125,10]) (by omega) (by omega) rfl h4 rfl (by rw[hl5,List.length_append];show _+(_+2)≤_;omega)) fun z5 h5=>Rs.some ?_
  have e5:b++(j5 i++(bL bX++32::(bL (itS n)++[32,123,10])))++xy++(j5 i++[125,10])=b++(j5 i++(bL bX++32::(bL (itS n)++32::123::10::(xy++(j5 i++[125,10]))))):=by simp
  rw[e5]at h5
  exact h5
 |amt i k w n u x l d hk hP=>
  intro hd q b z hq hz hl hs
  simp only[szT,szL]at hq hs
  obtain⟨q,rfl⟩:∃q',q=q'+1:=⟨q-1,by omega⟩
  refine iW ?_
  unfold fP
  dsimp only
  have hsz:szT (.node 15 n u [])≤1000000:=by simp only[szT,szL];omega
  refine Rs.bind (oQ q 0 (by decide)) fun z1 _=>?_
  rcases hk with⟨rfl,rfl⟩ | ⟨rfl,rfl⟩
  ·refine Rs.neg (by decide) (Rs.neg (by decide) (Rs.neg (by decide) (Rs.neg (by decide) (Rs.pos rfl ?_))))
   refine Rs.bind (sZ q 5 0 ⟨#[]⟩ (l:=[.node 15 n u []]) 0 rfl hP hsz) fun z2 e2=>?_
   subst e2
   exact Rs.bind (ln3 (x:=j5 i++(bL be2++32::(x++[59,10]))) (by omega) (by omega) rfl rfl rfl hz (by simp[bL,mkB]) hl) fun z3 h3=>Rs.some h3
  ·refine Rs.neg (by decide) (Rs.neg (by decide) (Rs.neg (by decide) (Rs.neg (by decide) (Rs.neg (by decide) (Rs.neg (by decide) (Rs.neg (by decide) (Rs.neg (by decide) (Rs.neg (by decide) (Rs.neg (by decide) (Rs.pos rfl ?_))))))))))
   refine Rs.bind (sZ q 11 0 ⟨#[]⟩ (l:=[.node 15 n u []]) 0 rfl hP hsz) fun z2 e2=>?_
   subst e2
   exact Rs.bind (ln3 (x:=j5 i++(bL yW++32::(x++[59,10]))) (by omega) (by omega) rfl rfl rfl hz (by simp[bL,mkB]) hl) fun z3 h3=>Rs.some h3
 |await i c y m e n u x l d hC hP=>
  intro hd q b z hq hz hl hs
  have hsz:szT (.node 15 n u [])≤1000000:=by simp only[szT,szL];omega
  simp only[szT,szL]at hq hs
  obtain⟨q,rfl⟩:∃q',q=q'+1:=⟨q-1,by omega⟩
  refine iW ?_
  unfold fP
  dsimp only
  refine Rs.bind (oQ q 0 (by decide)) fun z1 _=>Rs.neg (by decide) (Rs.neg (by decide) (Rs.neg (by decide) (Rs.neg (by decide) (Rs.neg (by decide) (Rs.pos rfl ?_)))))
  refine Rs.bind (sZ q 6 0 ⟨#[]⟩ (l:=[c,.node 15 n u []]) 0 rfl hC (by omega)) fun z2 e2=>?_
  subst e2
  refine Rs.bind (sZ q 6 0 ⟨#[]⟩ (l:=[c,.node 15 n u []]) 1 rfl hP hsz) fun z3 e3=>?_
  subst e3
  exact Rs.bind (ln5 (x:=j5 i++(bL tS++32::(y++32::(bL jF++32::(x++[59,10]))))) (by omega) (by omega) rfl rfl rfl rfl rfl hz (by simp[bL,mkB]) hl) fun z3 h3=>Rs.some h3
 |one i k w a x l d hk hP=>
  intro hd q b z hq hz hl hs
  simp only[szT,szL]at hq hs
  obtain⟨q,rfl⟩:∃q',q=q'+1:=⟨q-1,by omega⟩
  refine iW ?_
  unfold fP
  dsimp only
  refine Rs.bind (oQ q 0 (by decide)) fun z1 _=>?_
  rcases hk with⟨rfl,rfl⟩ | ⟨rfl,rfl⟩
  ·refine Rs.neg (by decide) (Rs.neg (by decide) (Rs.neg (by decide) (Rs.neg (by decide) (Rs.neg (by decide) (Rs.neg (by decide) (Rs.pos rfl ?_))))))
   refine Rs.bind (sZ q 7 0 ⟨#[]⟩ (l:=[a]) 0 rfl hP (by omega)) fun z2 e2=>?_
   subst e2
   exact Rs.bind (ln3 (x:=j5 i++(bL qO++32::(x++[59,10]))) (by omega) (by omega) rfl rfl rfl hz (by simp[bL,mkB]) hl) fun z3 h3=>Rs.some h3
  ·refine Rs.neg (by decide) (Rs.neg (by decide) (Rs.neg (by decide) (Rs.neg (by decide) (Rs.neg (by decide) (Rs.neg (by decide) (Rs.neg (by decide) (Rs.pos rfl ?_)))))))
   refine Rs.bind (sZ q 8 0 ⟨#[]⟩ (l:=[a]) 0 rfl hP (by omega)) fun z2 e2=>?_
   subst e2
   exact Rs.bind (ln3 (x:=j5 i++(bL rI++32::(x++[59,10]))) (by omega) (by omega) rfl rfl rfl hz (by simp[bL,mkB]) hl) fun z3 h3=>Rs.some h3
 |use i j n u x l d g0 g1 hP=>
  intro hd q b z hq hz hl hs
  have hsz:szT (.node 15 n u [])≤1000000:=by simp only[szT,szL];omega
  simp only[szT,szL]at hq hs
  obtain⟨q,rfl⟩:∃q',q=q'+1:=⟨q-1,by omega⟩
  refine iW ?_
  unfold fP
  dsimp only
  refine Rs.bind (oQ q j (by omega)) fun z1 e1=>?_
  subst e1
  refine Rs.neg (by decide) (Rs.neg (by decide) (Rs.neg (by decide) (Rs.neg (by decide) (Rs.neg (by decide) (Rs.neg (by decide) (Rs.neg (by decide) (Rs.neg (by decide) (Rs.pos rfl ?_))))))))
  refine Rs.bind (sZ q 9 j ⟨#[]⟩ (l:=[.node 15 n u []]) 0 rfl hP hsz) fun z2 e2=>?_
  subst e2
  exact Rs.bind (ln5 (x:=j5 i++(bL an0++32::(bL (itS j)++32::(bL al3++32::(x++[59,10]))))) (by omega) (by omega) rfl rfl rfl rfl rfl hz (by simp[bL,mkB]) hl) fun z3 h3=>Rs.some h3
 |send i j n u x l d g0 g1 hP=>
  intro hd q b z hq hz hl hs
  have hsz:szT (.node 15 n u [])≤1000000:=by simp only[szT,szL];omega
  simp only[szT,szL]at hq hs
  obtain⟨q,rfl⟩:∃q',q=q'+1:=⟨q-1,by omega⟩
  refine iW ?_
  unfold fP
  dsimp only
  refine Rs.bind (oQ q j (by omega)) fun z1 e1=>?_
  subst e1
  refine Rs.neg (by decide) (Rs.neg (by decide) (Rs.neg (by decide) (Rs.neg (by decide) (Rs.neg (by decide) (Rs.neg (by decide) (Rs.neg (by decide) (Rs.neg (by decide) (Rs.neg (by decide) (Rs.pos rfl ?_)))))))))
  refine Rs.bind (sZ q 10 j ⟨#[]⟩ (l:=[.node 15 n u []]) 0 rfl hP hsz) fun z2 e2=>?_
  subst e2
  exact Rs.bind (ln5 (x:=j5 i++(bL ac9++32::(bL (itS j)++44::32::(x++[59,10])))) (by omega) (by omega) rfl rfl rfl rfl rfl hz (by simp[bL,mkB]) hl) fun z3 h3=>Rs.some h3
 |nmb i k w j hk g0=>
  intro hd q b z hq hz hl hs
  simp only[szT,szL]at hq hs
  obtain⟨q,rfl⟩:∃q',q=q'+1:=⟨q-1,by omega⟩
  refine iW ?_
  unfold fP
  dsimp only
  refine Rs.bind (oQ q j (by rcases hk with⟨_,_,h⟩ | ⟨_,_,h⟩<;>omega)) fun z1 e1=>?_
  subst e1
  rcases hk with⟨rfl,rfl,h⟩ | ⟨rfl,rfl,h⟩
  ·refine Rs.neg (by decide) (Rs.neg (by decide) (Rs.neg (by decide) (Rs.neg (by decide) (Rs.neg (by decide) (Rs.neg (by decide) (Rs.neg (by decide) (Rs.neg (by decide) (Rs.neg (by decide) (Rs.neg (by decide) (Rs.neg (by decide) (Rs.pos rfl ?_)))))))))))
   exact Rs.bind (ln3 (x:=j5 i++(bL yV++32::(bL (itS j)++[59,10]))) (by omega) (by omega) rfl rfl rfl hz (by simp[bL,mkB]) hl) fun z3 h3=>Rs.some h3
  ·refine Rs.neg (by decide) (Rs.neg (by decide) (Rs.neg (by decide) (Rs.neg (by decide) (Rs.neg (by decide) (Rs.neg (by decide) (Rs.neg (by decide) (Rs.neg (by decide) (Rs.neg (by decide) (Rs.neg (by decide) (Rs.neg (by decide) (Rs.neg (by decide) (Rs.pos rfl ?_))))))))))))
   exact Rs.bind (ln3 (x:=j5 i++(bL uE++32::(bL (itS j)++[59,10]))) (by omega) (by omega) rfl rfl rfl hz (by simp[bL,mkB]) hl) fun z3 h3=>Rs.some h3
 |nil i=>
  intro hd q q2 j k n s L z0 b z hi hq hq2 hL hj hLl hz hl hs
  obtain⟨q2,rfl⟩:∃q',q2=q'+1:=⟨q2-1,by simp at hq2;omega⟩
  have hjl:L.length≤j:=List.drop_eq_nil_iff.1 hL
  unfold uA
  refine Rs.step ?_
  unfold rC
  dsimp only
  refine Rs.neg (fun h=>by have:=of_decide_eq_true h;omega) (Rs.some ?_)
  show RB (b++[]) z
  rw[List.append_nil];exact hz
 |cons i t ts x l d v xs ls ds vs h1 h2 ih1 ih2=>
  intro hd q q2 j k n s L z0 b z hi hq hq2 hL hj hLl hz hl hs
  have ih1:=ih1 (by omega)
  have ih2:=ih2 (by omega)
  obtain⟨q2,rfl⟩:∃q',q2=q'+1:=⟨q2-1,by simp at hq2;omega⟩
  simp only[szL]at hq hs
  rw[List.length_append]at hl
  have hjt:L[j]? =some t:=by
   have:(L.drop j)[0]? =some t:=by rw[hL];rfl
   rw[List.getElem?_drop]at this
   simpa using this
  obtain⟨hjl,_⟩:=List.getElem?_eq_some_iff.1 hjt
  have hL2:L.drop (j+1)=ts:=by
   have:(L.drop j).drop 1=ts:=by rw[hL];rfl
   rw[List.drop_drop]at this
   exact this
  unfold uA
  refine Rs.step3 fun Q hQ=>?_
  unfold rC
  dsimp only
  refine Rs.pos (decide_eq_true (by omega)) (Rs.pos ⟨by omega,by omega⟩ ?_)
  rw[Int.toNat_natCast,s9 (by omega),show i-1+1=i by omega]
  have e1:(opK (kF L) j,opN (kF L) j,opS (kF L) j,opM (kF L) j,opF (kF L) j,(i:Int),z)=aS t i z:=by
   have this:=mR hjt
   have a1:=congrArg (fun y:n4=>y.1) this
   have a2:=congrArg (fun y:n4=>y.2.1) this
   have a3:=congrArg (fun y:n4=>y.2.2.1) this
   have a4:=congrArg (fun y:n4=>y.2.2.2.1) this
   have a5:=congrArg (fun y:n4=>y.2.2.2.2) this
   dsimp only at a1 a2 a3 a4 a5
   unfold aS
   rw[←a1,←a2,←a3,←a4,←a5]
  rw[e1]
  refine Rs.bind (ih1 q b z (by omega) hz (by omega) (by omega)) fun z2 h2=>Rs.some (hQ _ ?_)
  rw[s9 (by omega),←List.append_assoc]
  exact ih2 q q2 (j+1) k n s L z0 (b++x) z2 hi (by omega) (by simp at hq2;omega) hL2 hjl hLl h2 (by rw[List.length_append];omega) (by omega)
end Go.Proofs.YtjfkkokeegpeiaaGreatDoor
/- What the printer of the program writes: procedures. -/
namespace Go.Proofs.YtjfkkokeegpeiaaGreatDoor
open Go Go.Am Go.Proofs.Lx
set_option maxRecDepth 100000
def ay7(m:Prm):ByteArray:=if m.u=⟨#[]⟩then m.x else m.x++(⟨#[58,32]⟩++m.u)
theorem da1(m:Prm):(ay7 m).data.toList=ay5 m:=by
 unfold ay7 ay5 bL
 split
 ·simp
 ·rw[ByteArray.data_append,ByteArray.data_append,Array.toList_append,Array.toList_append];rfl
theorem cc8{β:Type}{m:Prm}(h:az7 m){A:ByteArray→Option β}{P:β→Prop}(hA:Rs (A (ay7 m)) P):
 Rs (if(!ByteArray.toList m.u==ByteArray.toList ⟨#[]⟩)=true then if 2+ByteArray.size m.u≤maxLen then if ByteArray.size m.x+ByteArray.size (⟨#[58,32]⟩++m.u)≤maxLen then A (m.x++(⟨#[58,32]⟩++m.u))else none else none else A m.x) P:=by
 obtain⟨⟨_,hx,_⟩,hu⟩:=h
 have hu:m.u.size≤12:=by
  rcases hu with hu|hu
  ·rw[hu];decide
  ·exact(bj0 _ hu).2
 unfold ay7 at hA
 rw[oU]
 by_cases e:m.u=⟨#[]⟩
 ·rw[if_pos e]at hA
  exact Rs.neg (by rw[decide_eq_true e];decide) hA
 ·rw[if_neg e]at hA
  refine Rs.pos (by rw[decide_eq_false e];rfl) (Rs.pos (by unfold maxLen;omega) (Rs.pos ?_ hA))
  rw[ByteArray.size_append]
  show _+(2+_)≤maxLen
  unfold maxLen;omega
theorem fz8(l:List Prm):Lib.join (l.map fun m=>(ay7 m).data.toList) [44,32]=cK l:=by
 have tail:∀(m:Prm) (l:List Prm),Lib.join ((m::l).map fun m=>(ay7 m).data.toList) [44,32]=cK (m::l):=by
  intro m l
  induction l generalizing m with
  |nil=>rw[List.map_cons,List.map_nil,Lib.join_one,da1];rfl
  |cons n l ih=>
   have:=ih n
   rw[List.map_cons,Lib.join_cons]at this⊢
   rw[List.map_cons]
   show _++([44,32]++(ay7 n).data.toList++Lib.joinTail [44,32] (l.map fun m=>(ay7 m).data.toList))=ay5 m++44::32::cK (n::l)
   rw[da1,List.append_assoc,this]
   rfl
 cases l with
 |nil=>rfl
 |cons m l=>exact tail m l
section
variable (cJ:pC→Option qJ) (cZ:iG→Option kR) (cF:fT→Option fK) (cS:y4→Option eC) (cP:tI→Option tK) (cG:dQ→Option eP) (cH:aT→Option bT)
theorem fj5(x0:i6){ps:List Prm}(hm:∀m∈ps,az7 m)(h12:ps.length≤12)(hQ:x0.2.2.1 0=ps.length)(hN:∀j (h:j<ps.length),x0.2.2.2.1 0 j=ps[j].x)(hU:∀j (h:j<ps.length),x0.2.2.2.2.1 0 j=ps[j].u):∀(q i:Nat) (g:FS),0<i→i≤ps.length→ps.length-i<q→(∀j (h:j<ps.length),j<i→g j=ay7 ps[j])→
 Rs (gN cJ cZ cF cS cP cG cH q x0 (.inr (g,i,(i:Int)))) (fun z=>∃g,z= .inr (ps.length,g)∧∀j (h:j<ps.length),g j=ay7 ps[j])
 |0,i,g,_,_,hq,_=>by omega
 |q+1,i,g,h0,hi,hq,hg=>by
  unfold gN
  refine Rs.step3 fun Q hQ2=>?_
  dsimp only[Sum.elim]
  unfold mX
  dsimp only
  rw[hQ]
  by_cases hil:i<ps.length
  ·refine Rs.pos (decide_eq_true (by omega)) (Rs.pos ⟨by omega,by omega⟩ ?_)
   rw[Int.toNat_natCast,hN i hil,hU i hil]
   refine cc8 (hm _ (List.getElem_mem hil)) (A:=fun t=>if(i+1)*16≤d5∧i+1≤maxLen∧i≤i then some (Sum.inl (Sum.inr (fun j=>if j<i then g j else t,i+1,w ((i:Int)+1)):cL))else none) ?_
   refine Rs.pos ⟨by unfold d5;omega,by unfold maxLen;omega,Nat.le_refl _⟩ (Rs.some (hQ2 _ ?_))
   rw[s9 (by omega)]
   refine fj5 x0 hm h12 hQ hN hU q (i+1) _ (by omega) hil (by omega) fun j hj hj1=>?_
   by_cases hji:j<i
   ·rw[if_pos hji];exact hg j hj hji
   ·rw[if_neg hji]
    obtain rfl:j=i:=by omega
    rfl
  ·obtain rfl:i=ps.length:=by omega
   exact Rs.neg (fun h=>by have:=of_decide_eq_true h;omega) (Rs.some ⟨g,rfl,fun j hj=>hg j hj hj⟩)
theorem ii9(x0:i6){ps:List Prm}(hm:∀m∈ps,az7 m)(h12:ps.length≤12)(hQ:x0.2.2.1 0=ps.length)(hN:∀j (h:j<ps.length),x0.2.2.2.1 0 j=ps[j].x)(hU:∀j (h:j<ps.length),x0.2.2.2.2.1 0 j=ps[j].u){q:Nat}(hq:20≤q):
 Rs (gN cJ cZ cF cS cP cG cH q x0 (.inl ())) (fun z=>(ps=[]∧z= .inl ())∨∃g,z= .inr (ps.length,g)∧∀j (h:j<ps.length),g j=ay7 ps[j]):=by
 obtain⟨q,rfl⟩:∃q',q=q'+1:=⟨q-1,by omega⟩
 unfold gN
 refine Rs.step3 fun Q hQ2=>?_
 dsimp only[Sum.elim]
 unfold nC
 dsimp only
 rw[hQ]
 cases ps with
 |nil=>exact Rs.neg (by decide) (Rs.some (.inl ⟨rfl,rfl⟩))
 |cons m ps=>
  refine Rs.pos (decide_eq_true (by rw[List.length_cons];omega)) (Rs.pos ⟨by omega,by rw[List.length_cons];omega⟩ ?_)
  rw[hN 0 (by simp),hU 0 (by simp)]
  refine cc8 (m:=m) (hm m (by simp)) (A:=fun t=>some (Sum.inl (Sum.inr (fun _=>t,1,1):cL))) (Rs.some (hQ2 _ ?_))
  refine(fj5 cJ cZ cF cS cP cG cH x0 hm h12 hQ hN hU q 1 _ (by omega) (by simp) (by omega) fun j hj hj1=>?_).mono fun z h=>.inr h
  obtain rfl:j=0:=by omega
  rfl
theorem eg3(x0:i6){ps:List Prm}(hm:∀m∈ps,az7 m)(h12:ps.length≤12)(i0:Int)(Nf Uf:FS)(bn:Nat)(bf:FI)(nm:ByteArray)(k n:Int)(s:ByteArray)(c:Nat)(f:FL)(hN:∀j (h:j<ps.length),Nf j=ps[j].x)(hU:∀j (h:j<ps.length),Uf j=ps[j].u):∀(q i:Nat) (g:FS),0<i→i≤ps.length→ps.length-i<q→(∀j (h:j<ps.length),j<i→g j=ay7 ps[j])→
 Rs (x9 cJ cZ cF cS cP cG cH q x0 (.inr (i0,ps.length,Nf,Uf,((ps.length:Nat):Int),bn,bf,nm,k,n,s,c,f,g,i,(i:Int)))) (fun z=>∃g,z= .inr (ps.length,i0,bn,bf,nm,ps.length,Nf,Uf,k,n,s,c,f,g)∧∀j (h:j<ps.length),g j=ay7 ps[j])
 |0,i,g,_,_,hq,_=>by omega
 |q+1,i,g,h0,hi,hq,hg=>by
  unfold x9
  refine Rs.step3 fun Q hQ2=>?_
  dsimp only[Sum.elim]
  unfold hJ
  dsimp only
  by_cases hil:i<ps.length
  ·refine Rs.pos (decide_eq_true (by omega)) (Rs.pos ⟨by omega,by omega⟩ ?_)
   have em:ps[i]=⟨Nf i,Uf i⟩:=by
    have e1:=hN i hil
    have e2:=hU i hil
    generalize ps[i]=m at*
    cases m
    rw[e1,e2]
   refine cc8 (m:=⟨Nf i,Uf i⟩) (em▸hm _ (List.getElem_mem hil)) (A:=fun t=>if(i+1)*16≤d5∧i+1≤maxLen∧i≤i then some (Sum.inl (Sum.inr (i0,ps.length,Nf,Uf,((ps.length:Nat):Int),bn,bf,nm,k,n,s,c,f,fun j=>if j<i then g j else t,i+1,w ((i:Int)+1)):x6))else none) ?_
   refine Rs.pos ⟨by unfold d5;omega,by unfold maxLen;omega,Nat.le_refl _⟩ (Rs.some (hQ2 _ ?_))
   rw[s9 (by omega)]
   refine eg3 x0 hm h12 i0 Nf Uf bn bf nm k n s c f hN hU q (i+1) _ (by omega) hil (by omega) fun j hj hj1=>?_
   by_cases hji:j<i
   ·rw[if_pos hji];exact hg j hj hji
   ·rw[if_neg hji]
    obtain rfl:j=i:=by omega
    rw[em]
  ·obtain rfl:i=ps.length:=by omega
   exact Rs.neg (fun h=>by have:=of_decide_eq_true h;omega) (Rs.some ⟨g,rfl,fun j hj=>hg j hj hj⟩)
theorem ib3(x0:i6){ps:List Prm}(hm:∀m∈ps,az7 m)(h12:ps.length≤12)(i0:Int)(Nf Uf:FS)(bn:Nat)(bf:FI)(nm:ByteArray)(k n:Int)(s:ByteArray)(c:Nat)(f:FL)(hN:∀j (h:j<ps.length),Nf j=ps[j].x)(hU:∀j (h:j<ps.length),Uf j=ps[j].u){q:Nat}(hq:20≤q):
 Rs (x9 cJ cZ cF cS cP cG cH q x0 (.inl (i0,ps.length,Nf,Uf,((ps.length:Nat):Int),bn,bf,nm,k,n,s,c,f))) (fun z=>(ps=[]∧z= .inl (i0,bn,bf,nm,ps.length,Nf,Uf,k,n,s,c,f))∨∃g,z= .inr (ps.length,i0,bn,bf,nm,ps.length,Nf,Uf,k,n,s,c,f,g)∧∀j (h:j<ps.length),g j=ay7 ps[j]):=by
 obtain⟨q,rfl⟩:∃q',q=q'+1:=⟨q-1,by omega⟩
 unfold x9
 refine Rs.step3 fun Q hQ2=>?_
 dsimp only[Sum.elim]
 unfold gT
 dsimp only
 cases ps with
 |nil=>exact Rs.neg (show¬decide ((0:Int)< ((0:Nat):Int))=true by decide) (Rs.some (.inl ⟨rfl,rfl⟩))
 |cons m ps=>
  refine Rs.pos (decide_eq_true (by rw[List.length_cons];omega)) (Rs.pos ⟨by omega,by rw[List.length_cons];omega⟩ ?_)
  have em:m=⟨Nf 0,Uf 0⟩:=by
   have e1:Nf 0=m.x:=hN 0 (by simp)
   have e2:Uf 0=m.u:=hU 0 (by simp)
   rw[e1,e2]
  refine cc8 (m:=⟨Nf 0,Uf 0⟩) (em▸hm m (by simp)) (A:=fun t=>some (Sum.inl (Sum.inr (i0,(m::ps).length,Nf,Uf,(((m::ps).length:Nat):Int),bn,bf,nm,k,n,s,c,f,fun _=>t,1,1):x6))) (Rs.some (hQ2 _ ?_))
  refine(eg3 cJ cZ cF cS cP cG cH x0 hm h12 i0 Nf Uf bn bf nm k n s c f hN hU q 1 _ (by omega) (by simp) (by omega) fun j hj hj1=>?_).mono fun z h=>.inr h
  obtain rfl:j=0:=by omega
  rw[←em]
  rfl
end
end Go.Proofs.YtjfkkokeegpeiaaGreatDoor
/- ek5 of the program: the text of procedures. -/
namespace Go.Proofs.YtjfkkokeegpeiaaGreatDoor
open Go Go.Am Go.Proofs.Lx
set_option maxRecDepth 100000
abbrev bProc:ByteArray:=⟨#[112,114,111,99,101,100,117,114,101,32]⟩
def hdL(c:Prc):List UInt8:=bProc.data.toList++(c.x.data.toList++(40::(cK c.ps++[41,32,123,10])))
theorem fn1{q:Nat}{c:Prc}{t:ByteArray}{b:List UInt8}{z:Nat×FI}(hq:5<q)(ht:t=mkB (cK c.ps))(hz:RB b z)(hl:b.length+(hdL c).length≤1000000000):
 Rs (gM q (0,5,fun j=>if j=0 then⟨#[112,114,111,99,101,100,117,114,101,32]⟩else if j-1=0 then c.x else if j-1-1=0 then⟨#[40]⟩else if j-1-1-1=0 then t else⟨#[41,32,123]⟩,z)) (fun y=>RB (b++hdL c) y.2.2):=by
 subst ht
 exact ln5 (i:=0) hq (by omega) rfl rfl rfl rfl rfl hz (by simp[hdL,j5,mkB]) hl
theorem en4{q:Nat}{c:Prc}{t:ByteArray}(ht:t=mkB (cK c.ps))(hl:(hdL c).length≤1000000000):Rs (wV q (c.x,t)) (fun y=>RB (hdL c) (y.1,y.2.2)):=by
 subst ht
 have s0:bProc.data.toList.length=10:=rfl
 have s1:c.x.data.toList.length=c.x.size:=eD _
 have s2:(⟨#[40]⟩:ByteArray).data.toList.length=1:=rfl
 have s3:(mkB (cK c.ps)).data.toList.length=(cK c.ps).length:=by rw[m4]
 have s4:(⟨#[41,32,123]⟩:ByteArray).data.toList.length=3:=rfl
 have hlen:(hdL c).length=10+(c.x.size+((cK c.ps).length+(0+1+1+1+1)+1)):=by
  unfold hdL
  simp only[List.length_append,List.length_cons,List.length_nil,s1,s0]
 unfold wV aw1
 refine Rs.bind (Rs.of rfl) fun z0 _=>Rs.bind (P:=fun _=>True) ⟨_,rfl,trivial⟩ fun z1 _=>?_
 have hN:Rs (WSN q ()) (fun y=>RB bProc.data.toList y.2):=by
  refine⟨_,rfl,rfl,fun j hj=>rfl⟩
 refine Rs.bind hN fun z2 h2=>?_
 refine Rs.bind (cy6 q (s:=c.x) (z:=z2.2) h2 (by rw[s0];omega)) fun z6 h6=>?_
 refine Rs.bind (cy6 q (s:=⟨#[40]⟩) (z:=z6.2) h6 (by rw[List.length_append,s0,s1];show 10+c.x.size+1≤_;omega)) fun z10 h10=>?_
 refine Rs.bind (cy6 q (s:=mkB (cK c.ps)) (z:=z10.2) h10 (by rw[List.length_append,List.length_append,s0,s1,s2,b9];omega)) fun z14 h14=>?_
 refine Rs.bind (cy6 q (s:=⟨#[41,32,123]⟩) (z:=z14.2) h14 (by rw[List.length_append,List.length_append,List.length_append,s0,s1,s2,s3];show 10+c.x.size+1+_+3≤_;omega)) fun z18 h18=>?_
 refine Rs.bind (ho9 q (z:=z18.2) h18 (by rw[List.length_append,List.length_append,List.length_append,List.length_append,s0,s1,s2,s3,s4];omega)) fun z22 h22=>Rs.some ?_
 have e:bProc.data.toList++c.x.data.toList++(⟨#[40]⟩:ByteArray).data.toList++(mkB (cK c.ps)).data.toList++(⟨#[41,32,123]⟩:ByteArray).data.toList++[10]=hdL c:=by simp[hdL,mkB]
 rw[e]at h22
 exact h22
theorem fi5{ps:List Prm}{g:FS}(hg:∀j (h:j<ps.length),g j=ay7 ps[j])(hl:(cK ps).length≤1000000000)(hn:ps.length≤1000)(q:Nat):Join q (ps.length,fun j=>g (0+j),⟨#[44,32]⟩)=some (mkB (cK ps)):=by
 have e:(List.range ps.length).map (fun j=>g (0+j))=ps.map ay7:=by
  apply List.ext_getElem
  ·simp
  ·intro j h1 h2
   simp only[List.length_map,List.length_range]at h1
   rw[List.getElem_map,List.getElem_map,List.getElem_range,Nat.zero_add]
   exact hg j h1
 have e2:Lib.join (((List.range ps.length).map (fun j=>g (0+j))).map (·.data.toList)) (⟨#[44,32]⟩:ByteArray).data.toList=cK ps:=by
  rw[e,List.map_map]
  exact fz8 ps
 unfold Join
 show(if(Lib.join (((List.range ps.length).map (fun j=>g (0+j))).map (·.data.toList)) (⟨#[44,32]⟩:ByteArray).data.toList).length≤140737488355328∧ps.length≤140737488355328 then some (mkB (Lib.join (((List.range ps.length).map (fun j=>g (0+j))).map (·.data.toList)) (⟨#[44,32]⟩:ByteArray).data.toList))else none)=_
 rw[e2,if_pos ⟨by omega,by omega⟩]
theorem bj9{q:Nat}{c:Prc}{x:List UInt8}{l:List Tkn}(h:PrP c x l)(hq:3*szT c.b+30≤q)(hs:szT c.b≤1000000){b0:List UInt8}{z:Nat×FI}(hz:RB (b0++hdL c) z)(hl:b0.length+x.length≤1000000000):
 Rs (pbk q ((eT c.b).1,(eT c.b).2.1,(eT c.b).2.2.1,(eT c.b).2.2.2.1,(eT c.b).2.2.2.2,0,z)) (fun z=>Rs (gM q (0,1,fun j=>⟨#[125]⟩,z)) (fun y=>RB (b0++x) y.2.2)):=by
 obtain⟨_,hm,ys,xy,ly,dy,vy,hS,hb,hd,hv1,hv2,hx,rfl⟩:=h
 have hx2:x=hdL c++(xy++[125,10]):=by
  rw[hx];unfold hdL bL
  simp
 rw[hb]at hq hs⊢
 simp only[szT]at hq hs
 have hlx:x.length=(hdL c).length+(xy.length+2):=by rw[hx2,List.length_append,List.length_append];rfl
 have hp:=ht7 hS (by omega)
 have e1:((eT (.node 14 0 ⟨#[]⟩ ys)).1,(eT (.node 14 0 ⟨#[]⟩ ys)).2.1,(eT (.node 14 0 ⟨#[]⟩ ys)).2.2.1,(eT (.node 14 0 ⟨#[]⟩ ys)).2.2.2.1,(eT (.node 14 0 ⟨#[]⟩ ys)).2.2.2.2,(0:Int),z)=aS (.node 14 0 ⟨#[]⟩ ys) 0 z:=rfl
 rw[e1]
 refine(cq0 hp (by omega) hz (by rw[List.length_append];omega) (by omega) 14 0 ⟨#[]⟩).mono fun z2 h2=>?_
 refine(ln1 (i:=0) (x:=[125,10]) (by omega) (by omega) rfl h2 rfl (by rw[List.length_append,List.length_append];show _+2≤_;omega)).mono fun z3 h3=>?_
 rw[hx2]
 have e:b0++hdL c++xy++[125,10]=b0++(hdL c++(xy++[125,10])):=by simp
 rw[e]at h3
 exact h3
theorem gs6{c:Prc}{x:List UInt8}{l:List Tkn}(h:PrP c x l):(hdL c).length≤x.length∧(cK c.ps).length≤x.length∧c.ps.length≤12:=by
 obtain⟨_,hm,ys,xy,ly,dy,vy,hS,hb,hd,hv1,hv2,hx,rfl⟩:=h
 have hx2:x=hdL c++(xy++[125,10]):=by
  rw[hx];unfold hdL bL
  simp
 refine⟨by rw[hx2,List.length_append];omega,?_,?_⟩
 ·rw[hx];simp only[List.length_append,List.length_cons];omega
 ·rw[List.length_append,List.length_map]at hv2;omega
def bc1(cs:List Prc):i6:=(cs.length,cX cs,cQ cs,cN cs,cU cs,fun j=>(cT cs j).1,fun j=>(cT cs j).2.1,fun j=>(cT cs j).2.2.1,fun j=>(cT cs j).2.2.2.1,fun j=>(cT cs j).2.2.2.2)
theorem hd3{cs:List Prc}{i:Nat}{c:Prc}(h:cs[i]? =some c):cX cs i=c.x∧cQ cs i=c.ps.length∧(∀j (h:j<c.ps.length),cN cs i j=c.ps[j].x)∧(∀j (h:j<c.ps.length),cU cs i j=c.ps[j].u)∧cT cs i=eT c.b:=by
 have e:cs.getD i dC=c:=by rw[List.getD_eq_getElem?_getD,h];rfl
 unfold cX cQ cN cU cT
 rw[e]
 refine⟨rfl,rfl,fun j h=>?_,fun j h=>?_,rfl⟩<;>(rw[List.getD_eq_getElem?_getD,List.getElem?_eq_getElem h];rfl)
noncomputable def cx6(q Q0:Nat)(x:i6):dW→Option (dW⊕qH):=Sum.elim (fun y=>jP (Join q) (zZ q) (wV q) (gM q) (pbk q) (String q) (kE q) (gN (Join q) (zZ q) (wV q) (gM q) (pbk q) (String q) (kE q) Q0 x) (x9 (Join q) (zZ q) (wV q) (gM q) (pbk q) (String q) (kE q) Q0 x) x y (fun y=>some (.inl y)) (fun z=>some (.inr z))) (fun y=>eV (Join q) (zZ q) (wV q) (gM q) (pbk q) (String q) (kE q) (gN (Join q) (zZ q) (wV q) (gM q) (pbk q) (String q) (kE q) Q0 x) (x9 (Join q) (zZ q) (wV q) (gM q) (pbk q) (String q) (kE q) Q0 x) x y (fun y=>some (.inl y)) (fun z=>some (.inr z)))
theorem er6{q Q0:Nat}(cs0:List Prc)(hq:∀c∈cs0,3*szT c.b+30≤q∧szT c.b≤1000000)(hq0:30≤q)(hQ:20≤Q0)(hn:cs0.length≤10000){cs:List Prc}{x:List UInt8}{l:List Tkn}(h:PrPs cs x l):∀(q2 i:Nat) (b:List UInt8) (z:Nat×FI),cs.length<q2→cs0.drop i=cs→i≤cs0.length→RB b z→b.length+x.length≤1000000000→
 Rs (lpG (cx6 q Q0 (bc1 cs0)) q2 (.inr (z.1,z.2,(i:Int)))) (fun y=>∃z,y= .inr z∧RB (b++x) z):=by
 induction h with
 |nil=>
  intro q2 i b z hlt hd hi hz hl
  obtain⟨q2,rfl⟩:∃q',q2=q'+1:=⟨q2-1,by simp at hlt;omega⟩
  have:cs0.length≤i:=List.drop_eq_nil_iff.1 hd
  refine Rs.step ?_
  dsimp only[cx6,Sum.elim]
  unfold eV
  dsimp only[bc1]
  refine Rs.neg (fun h=>by have:=of_decide_eq_true h;omega) (Rs.some ⟨z,rfl,?_⟩)
  rw[List.append_nil];exact hz
 |cons c cs x l xs ls hP _ ih=>
  intro q2 i b z hlt hd hi hz hl
  obtain⟨q2,rfl⟩:∃q',q2=q'+1:=⟨q2-1,by simp at hlt;omega⟩
  rw[List.length_append]at hl
  have hc:cs0[i]? =some c:=by
   have:(cs0.drop i)[0]? =some c:=by rw[hd];rfl
   rw[List.getElem?_drop]at this
   simpa using this
  obtain⟨hil,hci⟩:=List.getElem?_eq_some_iff.1 hc
  have hd2:cs0.drop (i+1)=cs:=by
   have:(cs0.drop i).drop 1=cs:=by rw[hd];rfl
   rw[List.drop_drop]at this
   exact this
  obtain⟨eX,eQ,eN,eU,eT'⟩:=hd3 hc
  obtain⟨k1,k2,k3⟩:=gs6 hP
  have hmem:c∈cs0:=by rw[←hci];exact List.getElem_mem hil
  obtain⟨s1,s2⟩:=hq c hmem
  refine Rs.step3 fun Q hQ2=>?_
  dsimp only[cx6,Sum.elim]
  unfold eV
  dsimp only[bc1]
  refine Rs.pos (decide_eq_true (by omega)) (Rs.pos ⟨by omega,by omega⟩ ?_)
  rw[Int.toNat_natCast,eX,eQ,eT']
  refine Rs.bind (ib3 _ _ _ _ _ _ _ _ hP.pm k3 (i:Int) (cN cs0 i) (cU cs0 i) z.1 z.2 c.x _ _ _ _ _ eN eU hQ) fun y hy=>?_
  rcases hy with⟨e,rfl⟩ | ⟨g,rfl,hg⟩
  ·dsimp only[Sum.elim]
   refine Rs.bind (Rs.of rfl) fun _ _=>?_
   refine Rs.bind (fn1 (c:=c) (t:=⟨#[]⟩) (z:=(z.1,z.2)) (by omega) (by rw[e];rfl) hz (by omega)) fun y1 h1=>?_
   refine Rs.bind (bj9 hP s1 s2 h1 (by omega)) fun y2 h2=>?_
   refine Rs.bind h2 fun y3 h3=>Rs.some (hQ2 _ ?_)
   rw[s9 (by omega),←List.append_assoc]
   exact ih q2 (i+1) (b++x) (y3.2.2.1,y3.2.2.2) (by simp at hlt;omega) hd2 hil h3 (by rw[List.length_append];omega)
  ·dsimp only[Sum.elim]
   refine Rs.pos ⟨by omega,rfl⟩ ?_
   refine Rs.bind (Rs.of (fi5 hg (by omega) (by omega) q)) fun t ht=>?_
   refine Rs.bind (fn1 (c:=c) (t:=t) (z:=(z.1,z.2)) (by omega) ht hz (by omega)) fun y1 h1=>?_
   refine Rs.bind (bj9 hP s1 s2 h1 (by omega)) fun y2 h2=>?_
   refine Rs.bind h2 fun y3 h3=>Rs.some (hQ2 _ ?_)
   rw[s9 (by omega),←List.append_assoc]
   exact ih q2 (i+1) (b++x) (y3.2.2.1,y3.2.2.2) (by simp at hlt;omega) hd2 hil h3 (by rw[List.length_append];omega)
theorem ga5{b:List UInt8}{z:Nat×FI}(h:RB b z):am5 z.1 z.2=b:=by
 obtain⟨h1,h2⟩:=h
 unfold am5
 rw[h1]
 apply List.ext_getElem
 ·simp
 ·intro j g1 g2
  rw[List.getElem_map,List.getElem_range,h2 j g2,List.getD_eq_getElem?_getD,List.getElem?_eq_getElem g2]
  simp
theorem gk2{cs:List Prc}{x:List UInt8}{l:List Tkn}(h:PrPs cs x l){q:Nat}(hq:∀c∈cs,3*szT c.b+30≤q∧szT c.b≤1000000)(hn:cs.length+30≤q)(hn2:cs.length≤10000)(hl:x.length≤1000000000):ek5 q (bc1 cs)=some (mkB x):=by
 refine Rs.eq ?_
 unfold ek5 as1
 have hloop:Rs (bl8 (Join q) (zZ q) (wV q) (gM q) (pbk q) (String q) (kE q) q (bc1 cs) (.inl ())) (fun y=>(x=[]∧y= .inl ())∨∃z,y= .inr z∧RB x z∧0<x.length):=by
  show Rs (lpG (cx6 q q (bc1 cs)) q (.inl ())) _
  obtain⟨q2,rfl⟩:∃q',q=q'+1:=⟨q-1,by omega⟩
  refine Rs.step3 fun Q hQ2=>?_
  dsimp only[cx6,Sum.elim]
  unfold jP
  dsimp only[bc1]
  cases h with
  |nil=>exact Rs.neg (by decide) (Rs.some (.inl ⟨rfl,rfl⟩))
  |cons c cs x l xs ls hP hPs=>
   obtain⟨eX,eQ,eN,eU,eT'⟩:=hd3 (cs:=c::cs) (i:=0) rfl
   obtain⟨k1,k2,k3⟩:=gs6 hP
   rw[List.length_append]at hl
   obtain⟨s1,s2⟩:=hq c (by simp)
   refine Rs.pos (decide_eq_true (by rw[List.length_cons];omega)) (Rs.pos ⟨by omega,by rw[List.length_cons];omega⟩ ?_)
   rw[eX,eT']
   have hxl:0<x.length:=by
    have:0< (hdL c).length:=by unfold hdL;simp
    omega
   have fin:∀z:Nat×FI,RB x z→Rs (lpG (cx6 (q2+1) (q2+1) (bc1 (c::cs))) q2 (.inr (z.1,z.2,((1:Nat):Int)))) (fun y=>(x++xs=[]∧y= .inl ())∨∃z,y= .inr z∧RB (x++xs) z∧0< (x++xs).length):=by
    intro z hz
    refine(er6 (c::cs) hq (by omega) (by omega) hn2 hPs q2 1 x z (by simp only[List.length_cons]at hn;omega) rfl (by simp) hz (by omega)).mono ?_
    rintro y ⟨z,rfl,h2⟩
    exact .inr ⟨z,rfl,h2,by rw[List.length_append];omega⟩
   refine Rs.bind (ii9 _ _ _ _ _ _ _ (bc1 (c::cs)) hP.pm k3 eQ eN eU (q:=q2+1) (by omega)) fun y hy=>?_
   rcases hy with⟨e,rfl⟩ | ⟨g,rfl,hg⟩
   ·dsimp only[Sum.elim]
    refine Rs.bind (Rs.of rfl) fun _ _=>?_
    refine Rs.bind (en4 (c:=c) (t:=⟨#[]⟩) (by rw[e];rfl) (by omega)) fun y1 h1=>?_
    refine Rs.bind (bj9 hP s1 s2 (b0:=[]) h1 (by simp;omega)) fun y2 h2=>?_
    exact Rs.bind h2 fun y3 h3=>Rs.some (hQ2 _ (fin _ h3))
   ·dsimp only[Sum.elim]
    refine Rs.pos ⟨by omega,rfl⟩ ?_
    refine Rs.bind (Rs.of (fi5 hg (by omega) (by omega) (q2+1))) fun t ht=>?_
    refine Rs.bind (en4 (c:=c) (t:=t) ht (by omega)) fun y1 h1=>?_
    refine Rs.bind (bj9 hP s1 s2 (b0:=[]) h1 (by simp;omega)) fun y2 h2=>?_
    exact Rs.bind h2 fun y3 h3=>Rs.some (hQ2 _ (fin _ h3))
 refine Rs.bind hloop fun y hy=>?_
 rcases hy with⟨rfl,rfl⟩ | ⟨z,rfl,h1,h2⟩
 ·dsimp only[Sum.elim]
  exact Rs.bind (Rs.of rfl) fun _ _=>Rs.some rfl
 ·dsimp only[Sum.elim]
  refine Rs.bind (P:=fun t=>t=mkB x) ?_ fun t ht=>Rs.some ht
  unfold String
  refine Rs.pos ⟨by rw[h1.1];exact h2,fun j hj=>?_⟩ (Rs.some (by rw[ga5 h1];rfl))
  rw[h1.2 j (by rw[←h1.1];exact hj)]
  have:=(x.getD j 0).toNat_lt
  omega
end Go.Proofs.YtjfkkokeegpeiaaGreatDoor
/- What the printer of the reference writes. -/
namespace Go.Proofs.YtjfkkokeegpeiaaGreatDoor
open Go Go.Am Go.Proofs.Lx
set_option maxRecDepth 100000
theorem d6(s:ByteArray):(bL s).length=s.size:=eD s
theorem aU{n:Int}(h0:0≤n)(h1:n<4000000000){q:Nat}(hq:12≤q):Rs (f9 q n) (fun z=>z=itS n):=by
 obtain⟨z,h,e⟩:=ci4 h0 h1
 refine⟨z,?_,e⟩
 unfold f9 nQ at h⊢
 by_cases hn:(n==0)=true
 ·rw[if_pos hn]at h⊢
  exact h
 ·rw[if_neg hn]at h⊢
  cases hl:iX 12 n (⟨#[]⟩,n)with
  |none=>rw[hl]at h;cases h
  |some y=>
   rw[hl]at h
   unfold iX at hl⊢
   rw[cp6 (fun _ _ h=>h) hq hl]
   exact h
end Go.Proofs.YtjfkkokeegpeiaaGreatDoor
/- Procedures made from numbers, lifted. -/
namespace Go.Proofs.YtjfkkokeegpeiaaGreatDoor
open Go Go.Am Go.Proofs Go.Proofs.Lx
set_option maxRecDepth 100000
abbrev aR:Type:=Int×Nat×FI×Int×Int
abbrev aQ:Type:=Int×Int×ByteArray×Nat×FL×Nat×FI×Int×Int
def o7:AR aR:=fun x=>([.ptr 0 0,i64 x.1],[some (.blk [.ro 1 x.2.1 (fun j=>[i64 (x.2.2.1 j)]),i64 x.2.2.2.1,i64 x.2.2.2.2])])
def gl9(t:TT):aR:=((vI (ag t 1)),u7 (cc t 0 0),dTI (cc t 0 0) 0,vI (cc t 0 1),vI (cc t 0 2))
theorem sS:VI o7:=vd gl9 fun _=>rfl
def cD:aQ→CRes:=fun z=>.ret (.agg [i64 z.1,i64 z.2.1,st z.2.2.1,.ro 4 z.2.2.2.1 z.2.2.2.2.1]) [some (.blk [.ro 1 z.2.2.2.2.2.1 (fun j=>[i64 (z.2.2.2.2.2.2.1 j)]),i64 z.2.2.2.2.2.2.2.1,i64 z.2.2.2.2.2.2.2.2])]
abbrev ai6:Type:=Int×Nat×FI×Int×Int
abbrev io7:Type:=Int×Int×ByteArray×Nat×FL×Nat×FI×Int×Int
def oB:AR ai6:=fun x=>([.ptr 0 0,i64 x.1],[some (.blk [.ro 1 x.2.1 (fun j=>[i64 (x.2.2.1 j)]),i64 x.2.2.2.1,i64 x.2.2.2.2])])
def hg4(t:TT):ai6:=((vI (ag t 1)),u7 (cc t 0 0),dTI (cc t 0 0) 0,vI (cc t 0 1),vI (cc t 0 2))
theorem di8:VI oB:=vd hg4 fun _=>rfl
def ag6:io7→CRes:=fun z=>.ret (.agg [i64 z.1,i64 z.2.1,st z.2.2.1,.ro 4 z.2.2.2.1 z.2.2.2.2.1]) [some (.blk [.ro 1 z.2.2.2.2.2.1 (fun j=>[i64 (z.2.2.2.2.2.2.1 j)]),i64 z.2.2.2.2.2.2.2.1,i64 z.2.2.2.2.2.2.2.2])]
abbrev dE:Type:=Int×Nat×FI×Int×Int
abbrev ac4:Type:=(Int×Int×ByteArray×Nat×FI×Int×Int)⊕(Int×Int×ByteArray×Nat×FL×Nat×FI×Int×Int)
def bu0:AR dE:=fun x=>([.ptr 0 0,i64 x.1],[some (.blk [.ro 1 x.2.1 (fun j=>[i64 (x.2.2.1 j)]),i64 x.2.2.2.1,i64 x.2.2.2.2])])
def bq7:ac4→CRes:=Sum.elim (fun z:Int×Int×ByteArray×Nat×FI×Int×Int=>.ret (.agg [i64 z.1,i64 z.2.1,st z.2.2.1,g8]) [some (.blk [.ro 1 z.2.2.2.1 (fun j=>[i64 (z.2.2.2.2.1 j)]),i64 z.2.2.2.2.2.1,i64 z.2.2.2.2.2.2])]) (fun z:Int×Int×ByteArray×Nat×FL×Nat×FI×Int×Int=>.ret (.agg [i64 z.1,i64 z.2.1,st z.2.2.1,.sl 1 4 0 z.2.2.2.1]) ([some (.blk [.ro 1 z.2.2.2.2.2.1 (fun j=>[i64 (z.2.2.2.2.2.2.1 j)]),i64 z.2.2.2.2.2.2.2.1,i64 z.2.2.2.2.2.2.2.2])]++[some (.row 35 4 z.2.2.2.1 z.2.2.2.2.1)]))
abbrev cr6:Type:=Int×Nat×FI×Int×Int
abbrev vU:Type:=(Int×Int×ByteArray×Nat×FI×Int×Int)⊕(Int×Int×ByteArray×Nat×FL×Nat×FI×Int×Int)⊕(Int×Int×ByteArray×Int×Int×ByteArray×Nat×FL×Nat×FI×Int×Int)⊕(Int×Int×ByteArray×Int×Int×ByteArray×Nat×FL×Int×Int×ByteArray×Nat×FL×Nat×FI×Int×Int)⊕(Int×Int×ByteArray×Int×Int×ByteArray×Nat×FL×Int×Int×ByteArray×Nat×FL×Int×Int×ByteArray×Nat×FL×Nat×FI×Int×Int)
def ck2:AR cr6:=fun x=>([.ptr 0 0,i64 x.1],[some (.blk [.ro 1 x.2.1 (fun j=>[i64 (x.2.2.1 j)]),i64 x.2.2.2.1,i64 x.2.2.2.2])])
def ci8:vU→CRes:=Sum.elim (fun z:Int×Int×ByteArray×Nat×FI×Int×Int=>.ret (.agg [i64 z.1,i64 z.2.1,st z.2.2.1,g8]) [some (.blk [.ro 1 z.2.2.2.1 (fun j=>[i64 (z.2.2.2.2.1 j)]),i64 z.2.2.2.2.2.1,i64 z.2.2.2.2.2.2])]) (Sum.elim (fun z:Int×Int×ByteArray×Nat×FL×Nat×FI×Int×Int=>.ret (.agg [i64 z.1,i64 z.2.1,st z.2.2.1,.ro 4 z.2.2.2.1 z.2.2.2.2.1]) [some (.blk [.ro 1 z.2.2.2.2.2.1 (fun j=>[i64 (z.2.2.2.2.2.2.1 j)]),i64 z.2.2.2.2.2.2.2.1,i64 z.2.2.2.2.2.2.2.2])]) (Sum.elim (fun z:Int×Int×ByteArray×Int×Int×ByteArray×Nat×FL×Nat×FI×Int×Int=>.ret (.agg [i64 z.1,i64 z.2.1,st z.2.2.1,.sl 1 4 0 1]) [some (.blk [.ro 1 z.2.2.2.2.2.2.2.2.1 (fun j=>[i64 (z.2.2.2.2.2.2.2.2.2.1 j)]),i64 z.2.2.2.2.2.2.2.2.2.2.1,i64 z.2.2.2.2.2.2.2.2.2.2.2]),some (.row 35 4 1 (gP [[i64 z.2.2.2.1,i64 z.2.2.2.2.1,st z.2.2.2.2.2.1,.ro 4 z.2.2.2.2.2.2.1 z.2.2.2.2.2.2.2.1]]))]) (Sum.elim (fun z:Int×Int×ByteArray×Int×Int×ByteArray×Nat×FL×Int×Int×ByteArray×Nat×FL×Nat×FI×Int×Int=>.ret (.agg [i64 z.1,i64 z.2.1,st z.2.2.1,.sl 1 4 0 2]) [some (.blk [.ro 1 z.2.2.2.2.2.2.2.2.2.2.2.2.2.1 (fun j=>[i64 (z.2.2.2.2.2.2.2.2.2.2.2.2.2.2.1 j)]),i64 z.2.2.2.2.2.2.2.2.2.2.2.2.2.2.2.1,i64 z.2.2.2.2.2.2.2.2.2.2.2.2.2.2.2.2]),some (.row 35 4 2 (gP [[i64 z.2.2.2.1,i64 z.2.2.2.2.1,st z.2.2.2.2.2.1,.ro 4 z.2.2.2.2.2.2.1 z.2.2.2.2.2.2.2.1],[i64 z.2.2.2.2.2.2.2.2.1,i64 z.2.2.2.2.2.2.2.2.2.1,st z.2.2.2.2.2.2.2.2.2.2.1,.ro 4 z.2.2.2.2.2.2.2.2.2.2.2.1 z.2.2.2.2.2.2.2.2.2.2.2.2.1]]))]) (fun z:Int×Int×ByteArray×Int×Int×ByteArray×Nat×FL×Int×Int×ByteArray×Nat×FL×Int×Int×ByteArray×Nat×FL×Nat×FI×Int×Int=>.ret (.agg [i64 z.1,i64 z.2.1,st z.2.2.1,.sl 1 4 0 3]) [some (.blk [.ro 1 z.2.2.2.2.2.2.2.2.2.2.2.2.2.2.2.2.2.2.1 (fun j=>[i64 (z.2.2.2.2.2.2.2.2.2.2.2.2.2.2.2.2.2.2.2.1 j)]),i64 z.2.2.2.2.2.2.2.2.2.2.2.2.2.2.2.2.2.2.2.2.1,i64 z.2.2.2.2.2.2.2.2.2.2.2.2.2.2.2.2.2.2.2.2.2]),some (.row 35 4 3 (gP [[i64 z.2.2.2.1,i64 z.2.2.2.2.1,st z.2.2.2.2.2.1,.ro 4 z.2.2.2.2.2.2.1 z.2.2.2.2.2.2.2.1],[i64 z.2.2.2.2.2.2.2.2.1,i64 z.2.2.2.2.2.2.2.2.2.1,st z.2.2.2.2.2.2.2.2.2.2.1,.ro 4 z.2.2.2.2.2.2.2.2.2.2.2.1 z.2.2.2.2.2.2.2.2.2.2.2.2.1],[i64 z.2.2.2.2.2.2.2.2.2.2.2.2.2.1,i64 z.2.2.2.2.2.2.2.2.2.2.2.2.2.2.1,st z.2.2.2.2.2.2.2.2.2.2.2.2.2.2.2.1,.ro 4 z.2.2.2.2.2.2.2.2.2.2.2.2.2.2.2.2.1 z.2.2.2.2.2.2.2.2.2.2.2.2.2.2.2.2.2.1]]))]))))
abbrev dI:Type:=(Int×Nat×FI×Int×Int)⊕(Int×Nat×FI×Int×Int×FI×FI×FS×FN×FM×Int×Nat)
abbrev pK:Type:=(Nat×FI×Int×Int)⊕(Nat×FI×Int×Int×Nat×FI×FI×FS×FN×FM)
def cu7(x:dE)(y:Int×Nat×FI×Int×Int):St:={fr:=[V.ptr 0 0,i64 x.1,V.junk,V.junk,V.ptr 1 0,V.ptr 2 0,i64 y.1,i64 0]++jk 17,H:=hp [some (Chunk.blk [V.ro 1 y.2.1 fun j=>[i64 (y.2.2.1 j)],i64 y.2.2.2.1,i64 y.2.2.2.2]),some (Chunk.blk [i64 0,i64 0,st ⟨#[]⟩,g8]),some (Chunk.blk [i64 14,i64 0,st ⟨#[]⟩,g8])],nx:=3,rt:=1,me:=33}
def cv4(s:St):Int×Nat×FI×Int×Int:=((vI (s.fr.getD 6 .junk)),u7 (cb s 0 0),dTI (cb s 0 0) 0,vI (cb s 0 1),vI (cb s 0 2))
def cv6(x:dE)(y:Int×Nat×FI×Int×Int×FI×FI×FS×FN×FM×Int×Nat):St:={fr:=[V.ptr 0 0,i64 x.1,V.junk,V.junk,V.ptr 1 0,V.ptr 2 0,i64 y.1,i64 y.2.2.2.2.2.2.2.2.2.2.1]++jk 17,H:=hp [some (Chunk.blk [V.ro 1 y.2.1 fun j=>[i64 (y.2.2.1 j)],i64 y.2.2.2.1,i64 y.2.2.2.2.1]),some (Chunk.blk [i64 0,i64 0,st ⟨#[]⟩,g8]),some (Chunk.blk [i64 14,i64 0,st ⟨#[]⟩,V.sl 3 4 0 y.2.2.2.2.2.2.2.2.2.2.2]),some (Chunk.row 35 4 y.2.2.2.2.2.2.2.2.2.2.2 fun j=>[i64 (y.2.2.2.2.2.1 j),i64 (y.2.2.2.2.2.2.1 j),st (y.2.2.2.2.2.2.2.1 j),V.ro 4 (y.2.2.2.2.2.2.2.2.1 j) (y.2.2.2.2.2.2.2.2.2.1 j)])],nx:=4,rt:=1,me:=33}
def cu1(s:St):Int×Nat×FI×Int×Int×FI×FI×FS×FN×FM×Int×Nat:=((vI (s.fr.getD 6 .junk)),u7 (cb s 0 0),dTI (cb s 0 0) 0,vI (cb s 0 1),vI (cb s 0 2),dRI (s.H 3) 0,dRI (s.H 3) 1,dRS (s.H 3) 2,dRN (s.H 3) 3,dRF (s.H 3) 3,vI (s.fr.getD 7 .junk),dB (cb s 2 3))
def dU(x:dE):dI→St:=(Sum.elim (cu7 x) (cv6 x))
def dq8(s:St):dI:=(match s.nx==3 with|true=>(.inl (cv4 s)) |false=>(.inr (cu1 s)))
theorem dl4(x:dE):VL (dU x):=vl dq8 (fun y=>by rcases y with y|y<;>rfl)
def kI(x:dE):pK→Ex×St:=(Sum.elim (fun z=>(Ex.exit 0,{fr:=jk 4++[V.ptr 1 0,V.ptr 2 0]++jk 19,H:=hp [some (Chunk.blk [V.ro 1 z.1 fun j=>[i64 (z.2.1 j)],i64 z.2.2.1,i64 z.2.2.2]),some (Chunk.blk [i64 0,i64 0,st ⟨#[]⟩,g8]),some (Chunk.blk [i64 14,i64 0,st ⟨#[]⟩,g8])],nx:=3,rt:=1,me:=33})) (fun z=>(Ex.exit 0,{fr:=jk 4++[V.ptr 1 0,V.ptr 2 0]++jk 19,H:=hp [some (Chunk.blk [V.ro 1 z.1 fun j=>[i64 (z.2.1 j)],i64 z.2.2.1,i64 z.2.2.2.1]),some (Chunk.blk [i64 0,i64 0,st ⟨#[]⟩,g8]),some (Chunk.blk [i64 14,i64 0,st ⟨#[]⟩,V.sl 3 4 0 z.2.2.2.2.1]),some (Chunk.row 35 4 z.2.2.2.2.1 fun j=>[i64 (z.2.2.2.2.2.1 j),i64 (z.2.2.2.2.2.2.1 j),st (z.2.2.2.2.2.2.2.1 j),V.ro 4 (z.2.2.2.2.2.2.2.2.1 j) (z.2.2.2.2.2.2.2.2.2 j)])],nx:=4,rt:=1,me:=33})))
def gZ{β:Type}(c_Next:bG→Option aZ)(c_MStmt:ai6→Option io7)(x:dE)(y:Int×Nat×FI×Int×Int)(nx:dI→Option β)(dn:pK→Option β):Option β:=
 if decide (0<y.1)=true then(c_MStmt (x.1,y.2)).bind fun z214=>nx (.inr (y.1,z214.2.2.2.2.2.1,z214.2.2.2.2.2.2.1,z214.2.2.2.2.2.2.2.1,z214.2.2.2.2.2.2.2.2,fun j=>z214.1,fun j=>z214.2.1,fun j=>z214.2.2.1,fun j=>z214.2.2.2.1,fun j=>z214.2.2.2.2.1,1,1))else dn (.inl y.2)
theorem cs7{β:Type}(c_Next c_MStmt)(x)(y)(nx:dI→Option β)(dn):gZ c_Next c_MStmt x y nx dn=(gZ c_Next c_MStmt x y (fun y=>some (.inl y)) (fun z=>some (.inr z))).bind fun r=>Sum.elim nx dn r:=by
 unfold gZ
 repeat' first|exact n0|refine n1 fun _=>?_|refine n2 ?_ ?_|refine n3 (fun _=>?_) fun _=>?_|rfl
theorem cu9(c_Next c_MStmt)(x)(y)(lo:f5):n8 E5 (ftb 30 n9 dD c_Next (ftb 69 oB ag6 c_MStmt ca0)) lo 0 243 (b5 E5 33 0) (dU x (.inl y)) (KCM [(0,48)] 16)=gZ (vf n9 c_Next) (vf oB c_MStmt) x y (fun y=>lo 0 243 (b5 E5 33 0) (dU x y) (KCM [(0,48)] 16)) (fun z=>some (.l (kI x z).1 (kI x z).2)):=by kernel_rfl
def iA{β:Type}(c_Next:bG→Option aZ)(c_MStmt:ai6→Option io7)(x:dE)(y:Int×Nat×FI×Int×Int×FI×FI×FS×FN×FM×Int×Nat)(nx:dI→Option β)(dn:pK→Option β):Option β:=
 if decide (y.2.2.2.2.2.2.2.2.2.2.1<y.1)=true then(c_MStmt (x.1,y.2.1,y.2.2.1,y.2.2.2.1,y.2.2.2.2.1)).bind fun z221=>if(y.2.2.2.2.2.2.2.2.2.2.2+1)*56≤d5∧y.2.2.2.2.2.2.2.2.2.2.2+1≤maxLen∧y.2.2.2.2.2.2.2.2.2.2.2≤y.2.2.2.2.2.2.2.2.2.2.2 then nx (.inr (y.1,z221.2.2.2.2.2.1,z221.2.2.2.2.2.2.1,z221.2.2.2.2.2.2.2.1,z221.2.2.2.2.2.2.2.2,fun j=>if j<y.2.2.2.2.2.2.2.2.2.2.2 then y.2.2.2.2.2.1 j else z221.1,fun j=>if j<y.2.2.2.2.2.2.2.2.2.2.2 then y.2.2.2.2.2.2.1 j else z221.2.1,fun j=>if j<y.2.2.2.2.2.2.2.2.2.2.2 then y.2.2.2.2.2.2.2.1 j else z221.2.2.1,fun j=>if j<y.2.2.2.2.2.2.2.2.2.2.2 then y.2.2.2.2.2.2.2.2.1 j else z221.2.2.2.1,fun(j j_1:Nat)=>if j<y.2.2.2.2.2.2.2.2.2.2.2 then y.2.2.2.2.2.2.2.2.2.1 j j_1 else z221.2.2.2.2.1 j_1,w (y.2.2.2.2.2.2.2.2.2.2.1+1),y.2.2.2.2.2.2.2.2.2.2.2+1))else none else dn (.inr (y.2.1,y.2.2.1,y.2.2.2.1,y.2.2.2.2.1,y.2.2.2.2.2.2.2.2.2.2.2,y.2.2.2.2.2.1,y.2.2.2.2.2.2.1,y.2.2.2.2.2.2.2.1,y.2.2.2.2.2.2.2.2.1,y.2.2.2.2.2.2.2.2.2.1))
theorem cv9{β:Type}(c_Next c_MStmt)(x)(y)(nx:dI→Option β)(dn):iA c_Next c_MStmt x y nx dn=(iA c_Next c_MStmt x y (fun y=>some (.inl y)) (fun z=>some (.inr z))).bind fun r=>Sum.elim nx dn r:=by
 unfold iA
 repeat' first|exact n0|refine n1 fun _=>?_|refine n2 ?_ ?_|refine n3 (fun _=>?_) fun _=>?_|rfl
theorem ct9(c_Next c_MStmt)(x)(y)(lo:f5):n8 E5 (ftb 30 n9 dD c_Next (ftb 69 oB ag6 c_MStmt ca0)) lo 0 243 (b5 E5 33 0) (dU x (.inr y)) (KCM [(0,48)] 16)=iA (vf n9 c_Next) (vf oB c_MStmt) x y (fun y=>lo 0 243 (b5 E5 33 0) (dU x y) (KCM [(0,48)] 16)) (fun z=>some (.l (kI x z).1 (kI x z).2)):=by kernel_rfl
noncomputable def gF(c_Next:bG→Option aZ)(c_MStmt:ai6→Option io7)(q:Nat)(x:dE):dI→Option pK:=lpG (Sum.elim (fun y=>gZ c_Next c_MStmt x y (fun y=>some (.inl y)) (fun z=>some (.inr z))) (fun y=>iA c_Next c_MStmt x y (fun y=>some (.inl y)) (fun z=>some (.inr z)))) q
theorem dk8(c_Next)(h_Next:Lw E5 30 n9 dD c_Next)(c_MStmt)(h_MStmt:Lw E5 69 oB ag6 c_MStmt)(q:Nat)(x:dE):Ll E5 (b5 E5 33 0) (dU x) (kI x) (gF c_Next c_MStmt q x):=
 slp (fk h_Next (fk h_MStmt a8)) hX5 (fun lo y=>by
  rcases y with y|y
  ·exact(cu9 c_Next c_MStmt x y lo).trans (by rw[qG,di8];exact cs7 _ _ _ _ _ _)
  ·exact(ct9 c_Next c_MStmt x y lo).trans (by rw[qG,di8];exact cv9 _ _ _ _ _ _)) (fun z=>by rcases z with z|z<;>kernel_rfl) q
def nB{β:Type}(c_Next:bG→Option aZ)(c_MStmt:ai6→Option io7)(l_MBlockR_l0:dI→Option pK)(x:dE)(dn:ac4→Option β):Option β:=
 (c_Next (5,x.2)).bind fun z5=>(l_MBlockR_l0 (.inl z5)).bind fun z185=>Sum.elim (fun z185a=>dn (.inl (14,0,⟨#[]⟩,z185a))) (fun z185b=>dn (.inr (14,0,⟨#[]⟩,z185b.2.2.2.2.1,fun j=>[i64 (z185b.2.2.2.2.2.1 j),i64 (z185b.2.2.2.2.2.2.1 j),st (z185b.2.2.2.2.2.2.2.1 j),V.ro 4 (z185b.2.2.2.2.2.2.2.2.1 j) (z185b.2.2.2.2.2.2.2.2.2 j)],z185b.1,z185b.2.1,z185b.2.2.1,z185b.2.2.2.1))) z185
theorem fs1{β:Type}(c_Next c_MStmt)(l_MBlockR_l0)(x)(dn:ac4→Option β):nB c_Next c_MStmt l_MBlockR_l0 x dn=(nB c_Next c_MStmt l_MBlockR_l0 x some).bind dn:=by
 unfold nB
 repeat' first|exact n0|refine n1 fun _=>?_|refine n2 ?_ ?_|refine n3 (fun _=>?_) fun _=>?_|rfl
theorem fy9(c_Next c_MStmt)(l_MBlockR_l0)(x):f7 E5 (ftb 30 n9 dD c_Next (ftb 69 oB ag6 c_MStmt ca0)) (lt2 0 (fun _=>true) (b5 E5 33 0) (dU x) (kI x) l_MBlockR_l0 lo0) 33 (bu0 x).1 (bu0 x).2 K=nB (vf n9 c_Next) (vf oB c_MStmt) (lf (b5 E5 33 0) (dU x) l_MBlockR_l0) x (fun z=>some (.c (bq7 z))):=by kernel_rfl
theorem fv8(c_Next)(h_Next:Lw E5 30 n9 dD c_Next)(c_MStmt)(h_MStmt:Lw E5 69 oB ag6 c_MStmt)(q:Nat):Lw E5 33 bu0 bq7 fun x=>nB c_Next c_MStmt (gF c_Next c_MStmt q x) x some:=sof hW5 hX5 (fk h_Next (fk h_MStmt a8)) (fun x=>(lk2 (dk8 c_Next h_Next c_MStmt h_MStmt q x) b6)) fun x=>(fy9 c_Next c_MStmt (gF c_Next c_MStmt q x) x).trans (by rw[qG,di8,dl4,fs1]<;>rfl)
def sE{β:Type}(c_Next:bG→Option aZ)(c_Decimal:m6→Option s6)(c_Word:ag1→Option ah9)(c_MExpr:rQ→Option oC)(c_Literal:pS→Option pR)(c_one:cz2→Option da8)(c_MBlock:aR→Option aQ)(x:cr6)(dn:vU→Option β):Option β:=
 (c_Next (13,x.2)).bind fun z5=>if decide (x.1≤0)=true then if(z5.1==2)=true then(c_Next (7,z5.2)).bind fun z11=>(c_Word z11.1).bind fun z13=>(c_MExpr (3,z11.2)).bind fun z19=>dn (.inr (.inr (.inl (2,0,z13,z19))))else if(z5.1==3)=true then(c_Next (7,z5.2)).bind fun z25=>(c_Word z25.1).bind fun z27=>(c_MExpr (3,z25.2)).bind fun z33=>dn (.inr (.inr (.inl (2,0,z27,z33))))else if(z5.1==0)=true then if decide (w (z5.2.2.2.2+1)>12)=true then dn (.inl (12,0,⟨#[]⟩,z5.2.1,z5.2.2.1,z5.2.2.2.1,w (z5.2.2.2.2+1)))else(c_Decimal (w (z5.2.2.2.2+1))).bind fun z35=>if 1+z35.size≤maxLen then(c_MExpr (3,z5.2.1,z5.2.2.1,z5.2.2.2.1,w (z5.2.2.2.2+1))).bind fun z41=>dn (.inr (.inr (.inl (1,0,⟨#[118]⟩++z35,z41))))else none else if(z5.1==1)=true then(c_Next (7,z5.2)).bind fun z47=>(c_Word z47.1).bind fun z49=>(c_MExpr (3,z47.2)).bind fun z55=>dn (.inr (.inr (.inl (2,0,z49,z55))))else if(z5.1==2)=true then(c_MExpr (2,z5.2)).bind fun z61=>(c_MBlock (w (x.1-1),z61.2.2.2.2.2)).bind fun z67=>(c_MBlock (w (x.1-1),z67.2.2.2.2.2)).bind fun z73=>dn (.inr (.inr (.inr (.inr (3,0,⟨#[]⟩,z61.1,z61.2.1,z61.2.2.1,z61.2.2.2.1,z61.2.2.2.2.1,z67.1,z67.2.1,z67.2.2.1,z67.2.2.2.1,z67.2.2.2.2.1,z73)))))else if(z5.1==3)=true then(c_Next (100,z5.2)).bind fun z79=>(c_MBlock (w (x.1-1),z79.2)).bind fun z85=>dn (.inr (.inr (.inl (4,w (1+z79.1),⟨#[]⟩,z85))))else if(z5.1==4)=true then(c_Literal z5.2).bind fun z90=>(c_one (5,z90.1,z90.2.1,z90.2.2.1,z90.2.2.2.1,z90.2.2.2.2.1)).bind fun z97=>dn (.inr (.inl (z97.1,0,⟨#[]⟩,1,fun j=>[i64 z97.2.1,i64 z97.2.2.1,st z97.2.2.2.1,V.ro 4 z97.2.2.2.2.1 z97.2.2.2.2.2],z90.2.2.2.2.2)))else if(z5.1==5)=true then(c_MExpr (3,z5.2)).bind fun z103=>(c_Literal z103.2.2.2.2.2).bind fun z108=>dn (.inr (.inr (.inr (.inl (6,0,⟨#[]⟩,z103.1,z103.2.1,z103.2.2.1,z103.2.2.2.1,z103.2.2.2.2.1,z108)))))else if(z5.1==6)=true then(c_MExpr (4,z5.2)).bind fun z114=>(c_one (7,z114.1,z114.2.1,z114.2.2.1,z114.2.2.2.1,z114.2.2.2.2.1)).bind fun z121=>dn (.inr (.inl (z121.1,0,⟨#[]⟩,1,fun j=>[i64 z121.2.1,i64 z121.2.2.1,st z121.2.2.2.1,V.ro 4 z121.2.2.2.2.1 z121.2.2.2.2.2],z114.2.2.2.2.2)))else if(z5.1==7)=true then(c_MExpr (3,z5.2)).bind fun z127=>(c_one (8,z127.1,z127.2.1,z127.2.2.1,z127.2.2.2.1,z127.2.2.2.2.1)).bind fun z134=>dn (.inr (.inl (z134.1,0,⟨#[]⟩,1,fun j=>[i64 z134.2.1,i64 z134.2.2.1,st z134.2.2.2.1,V.ro 4 z134.2.2.2.2.1 z134.2.2.2.2.2],z127.2.2.2.2.2)))else if(z5.1==8)=true then(c_Next (8,z5.2)).bind fun z140=>(c_Literal z140.2).bind fun z145=>dn (.inr (.inr (.inl (9,z140.1,⟨#[]⟩,z145))))else if(z5.1==9)=true then(c_Next (8,z5.2)).bind fun z151=>(c_Literal z151.2).bind fun z156=>dn (.inr (.inr (.inl (10,z151.1,⟨#[]⟩,z156))))else if(z5.1==10)=true then(c_Literal z5.2).bind fun z161=>(c_one (11,z161.1,z161.2.1,z161.2.2.1,z161.2.2.2.1,z161.2.2.2.2.1)).bind fun z168=>dn (.inr (.inl (z168.1,0,⟨#[]⟩,1,fun j=>[i64 z168.2.1,i64 z168.2.2.1,st z168.2.2.2.1,V.ro 4 z168.2.2.2.2.1 z168.2.2.2.2.2],z161.2.2.2.2.2)))else if(z5.1==11)=true then(c_Next (100,z5.2)).bind fun z174=>dn (.inl (12,z174.1,⟨#[]⟩,z174.2))else(c_Next (1000,z5.2)).bind fun z180=>dn (.inl (13,z180.1,⟨#[]⟩,z180.2))else if(z5.1==0)=true then if decide (w (z5.2.2.2.2+1)>12)=true then dn (.inl (12,0,⟨#[]⟩,z5.2.1,z5.2.2.1,z5.2.2.2.1,w (z5.2.2.2.2+1)))else(c_Decimal (w (z5.2.2.2.2+1))).bind fun z182=>if 1+z182.size≤maxLen then(c_MExpr (3,z5.2.1,z5.2.2.1,z5.2.2.2.1,w (z5.2.2.2.2+1))).bind fun z188=>dn (.inr (.inr (.inl (1,0,⟨#[118]⟩++z182,z188))))else none else if(z5.1==1)=true then(c_Next (7,z5.2)).bind fun z194=>(c_Word z194.1).bind fun z196=>(c_MExpr (3,z194.2)).bind fun z202=>dn (.inr (.inr (.inl (2,0,z196,z202))))else if(z5.1==2)=true then(c_MExpr (2,z5.2)).bind fun z208=>(c_MBlock (w (x.1-1),z208.2.2.2.2.2)).bind fun z214=>(c_MBlock (w (x.1-1),z214.2.2.2.2.2)).bind fun z220=>dn (.inr (.inr (.inr (.inr (3,0,⟨#[]⟩,z208.1,z208.2.1,z208.2.2.1,z208.2.2.2.1,z208.2.2.2.2.1,z214.1,z214.2.1,z214.2.2.1,z214.2.2.2.1,z214.2.2.2.2.1,z220)))))else if(z5.1==3)=true then(c_Next (100,z5.2)).bind fun z226=>(c_MBlock (w (x.1-1),z226.2)).bind fun z232=>dn (.inr (.inr (.inl (4,w (1+z226.1),⟨#[]⟩,z232))))else if(z5.1==4)=true then(c_Literal z5.2).bind fun z237=>(c_one (5,z237.1,z237.2.1,z237.2.2.1,z237.2.2.2.1,z237.2.2.2.2.1)).bind fun z244=>dn (.inr (.inl (z244.1,0,⟨#[]⟩,1,fun j=>[i64 z244.2.1,i64 z244.2.2.1,st z244.2.2.2.1,V.ro 4 z244.2.2.2.2.1 z244.2.2.2.2.2],z237.2.2.2.2.2)))else if(z5.1==5)=true then(c_MExpr (3,z5.2)).bind fun z250=>(c_Literal z250.2.2.2.2.2).bind fun z255=>dn (.inr (.inr (.inr (.inl (6,0,⟨#[]⟩,z250.1,z250.2.1,z250.2.2.1,z250.2.2.2.1,z250.2.2.2.2.1,z255)))))else if(z5.1==6)=true then(c_MExpr (4,z5.2)).bind fun z261=>(c_one (7,z261.1,z261.2.1,z261.2.2.1,z261.2.2.2.1,z261.2.2.2.2.1)).bind fun z268=>dn (.inr (.inl (z268.1,0,⟨#[]⟩,1,fun j=>[i64 z268.2.1,i64 z268.2.2.1,st z268.2.2.2.1,V.ro 4 z268.2.2.2.2.1 z268.2.2.2.2.2],z261.2.2.2.2.2)))else if(z5.1==7)=true then(c_MExpr (3,z5.2)).bind fun z274=>(c_one (8,z274.1,z274.2.1,z274.2.2.1,z274.2.2.2.1,z274.2.2.2.2.1)).bind fun z281=>dn (.inr (.inl (z281.1,0,⟨#[]⟩,1,fun j=>[i64 z281.2.1,i64 z281.2.2.1,st z281.2.2.2.1,V.ro 4 z281.2.2.2.2.1 z281.2.2.2.2.2],z274.2.2.2.2.2)))else if(z5.1==8)=true then(c_Next (8,z5.2)).bind fun z287=>(c_Literal z287.2).bind fun z292=>dn (.inr (.inr (.inl (9,z287.1,⟨#[]⟩,z292))))else if(z5.1==9)=true then(c_Next (8,z5.2)).bind fun z298=>(c_Literal z298.2).bind fun z303=>dn (.inr (.inr (.inl (10,z298.1,⟨#[]⟩,z303))))else if(z5.1==10)=true then(c_Literal z5.2).bind fun z308=>(c_one (11,z308.1,z308.2.1,z308.2.2.1,z308.2.2.2.1,z308.2.2.2.2.1)).bind fun z315=>dn (.inr (.inl (z315.1,0,⟨#[]⟩,1,fun j=>[i64 z315.2.1,i64 z315.2.2.1,st z315.2.2.2.1,V.ro 4 z315.2.2.2.2.1 z315.2.2.2.2.2],z308.2.2.2.2.2)))else if(z5.1==11)=true then(c_Next (100,z5.2)).bind fun z321=>dn (.inl (12,z321.1,⟨#[]⟩,z321.2))else(c_Next (1000,z5.2)).bind fun z327=>dn (.inl (13,z327.1,⟨#[]⟩,z327.2))
theorem gk9{β:Type}(c_Next c_Decimal)(c_Word c_MExpr)(c_Literal c_one c_MBlock)(x)(dn:vU→Option β):sE c_Next c_Decimal c_Word c_MExpr c_Literal c_one c_MBlock x dn=(sE c_Next c_Decimal c_Word c_MExpr c_Literal c_one c_MBlock x some).bind dn:=by
 unfold sE
 repeat' first|exact n0|refine n1 fun _=>?_|refine n2 ?_ ?_|refine n3 (fun _=>?_) fun _=>?_|rfl
theorem gt4(c_Next c_Decimal)(c_Word c_MExpr)(c_Literal c_one c_MBlock)(x):f7 E5 (ftb 30 n9 dD c_Next (ftb 31 j3 s7 c_Decimal (ftb 77 yT bv5 c_Word (ftb 39 rN aj4 c_MExpr (ftb 76 nH vO c_Literal (ftb 99 ck7 fg8 c_one (ftb 33 o7 cD c_MBlock ca0))))))) lo0 69 (ck2 x).1 (ck2 x).2 K=sE (vf n9 c_Next) (vf j3 c_Decimal) (vf yT c_Word) (vf rN c_MExpr) (vf nH c_Literal) (vf ck7 c_one) (vf o7 c_MBlock) x (fun z=>some (.c (ci8 z))):=by kernel_rfl
theorem gu4(c_Next)(h_Next:Lw E5 30 n9 dD c_Next)(c_Decimal)(h_Decimal:Lw E5 31 j3 s7 c_Decimal)(c_Word)(h_Word:Lw E5 77 yT bv5 c_Word)(c_MExpr)(h_MExpr:Lw E5 39 rN aj4 c_MExpr)(c_Literal)(h_Literal:Lw E5 76 nH vO c_Literal)(c_one)(h_one:Lw E5 99 ck7 fg8 c_one)(c_MBlock)(h_MBlock:Lw E5 33 o7 cD c_MBlock)(q:Nat):Lw E5 69 ck2 ci8 fun x=>sE c_Next c_Decimal c_Word c_MExpr c_Literal c_one c_MBlock x some:=sof hW5 hX5 (fk h_Next (fk h_Decimal (fk h_Word (fk h_MExpr (fk h_Literal (fk h_one (fk h_MBlock a8))))))) (fun _=>b6) fun x=>(gt4 c_Next c_Decimal c_Word c_MExpr c_Literal c_one c_MBlock x).trans (by rw[qG,gR,gd6,fn8,cx0,if5,sS,gk9]<;>rfl)
def av6:ac4→aQ:=Sum.elim (fun z=>(z.1,z.2.1,z.2.2.1,0,fun _=>[],z.2.2.2)) (fun z=>z)
theorem fc2{args:List V}{L:List (Option Chunk)}(z:ac4)(h:SC E5 33 args L (bq7 z)):SC E5 33 args L (cD (av6 z)):=by
 rcases z with z|z
 ·exact gx4 h
 ·exact ig4 h
def sM:vU→io7:=Sum.elim (fun z=>(z.1,z.2.1,z.2.2.1,0,fun _=>[],z.2.2.2)) (Sum.elim (fun z=>z) (Sum.elim (fun z=>(z.1,z.2.1,z.2.2.1,1,gP [[i64 z.2.2.2.1,i64 z.2.2.2.2.1,st z.2.2.2.2.2.1,.ro 4 z.2.2.2.2.2.2.1 z.2.2.2.2.2.2.2.1]],z.2.2.2.2.2.2.2.2)) (Sum.elim (fun z=>(z.1,z.2.1,z.2.2.1,2,gP [[i64 z.2.2.2.1,i64 z.2.2.2.2.1,st z.2.2.2.2.2.1,.ro 4 z.2.2.2.2.2.2.1 z.2.2.2.2.2.2.2.1],[i64 z.2.2.2.2.2.2.2.2.1,i64 z.2.2.2.2.2.2.2.2.2.1,st z.2.2.2.2.2.2.2.2.2.2.1,.ro 4 z.2.2.2.2.2.2.2.2.2.2.2.1 z.2.2.2.2.2.2.2.2.2.2.2.2.1]],z.2.2.2.2.2.2.2.2.2.2.2.2.2)) (fun z=>(z.1,z.2.1,z.2.2.1,3,gP [[i64 z.2.2.2.1,i64 z.2.2.2.2.1,st z.2.2.2.2.2.1,.ro 4 z.2.2.2.2.2.2.1 z.2.2.2.2.2.2.2.1],[i64 z.2.2.2.2.2.2.2.2.1,i64 z.2.2.2.2.2.2.2.2.2.1,st z.2.2.2.2.2.2.2.2.2.2.1,.ro 4 z.2.2.2.2.2.2.2.2.2.2.2.1 z.2.2.2.2.2.2.2.2.2.2.2.2.1],[i64 z.2.2.2.2.2.2.2.2.2.2.2.2.2.1,i64 z.2.2.2.2.2.2.2.2.2.2.2.2.2.2.1,st z.2.2.2.2.2.2.2.2.2.2.2.2.2.2.2.1,.ro 4 z.2.2.2.2.2.2.2.2.2.2.2.2.2.2.2.2.1 z.2.2.2.2.2.2.2.2.2.2.2.2.2.2.2.2.2.1]],z.2.2.2.2.2.2.2.2.2.2.2.2.2.2.2.2.2.2)))))
theorem fu8{args:List V}{L:List (Option Chunk)}(z:vU)(h:SC E5 69 args L (ci8 z)):SC E5 69 args L (ag6 (sM z)):=by
 rcases z with z|z|z|z|z
 ·exact gx4 h
 ·exact h
 ·exact gt2 h
 ·exact gt2 h
 ·exact gt2 h
noncomputable def ag4:Nat→(aR→Option aQ)×(ai6→Option io7)
 |0=>(fun _=>none,fun _=>none)
 |q+1=>(fun x=>(nB ((Next q)) ((ag4 q).2) (gF ((Next q)) ((ag4 q).2) q x) x some).map av6,
  fun x=>(sE ((Next q)) ((f9 q)) ((ba9 q)) ((az2 q)) ((iI q)) ((one q)) ((ag4 q).1) x some).map sM)
theorem fg3:∀q,(∀x z,(ag4 q).1 x=some z→SC E5 33 (o7 x).1 (o7 x).2 (cD z))∧(∀x z,(ag4 q).2 x=some z→SC E5 69 (oB x).1 (oB x).2 (ag6 z))
 |0=>⟨(fun x z h=>by cases h),(fun x z h=>by cases h)⟩
 |q+1=>by
  obtain⟨h0,h1⟩:=fg3 q
  exact⟨(fun x z h=>by
   obtain⟨y,hy,rfl⟩:=Option.map_eq_some_iff.1 h
   exact fc2 y (fv8 ((Next q)) ((ax5 q)) ((ag4 q).2) (h1) q x y hy)),(fun x z h=>by
   obtain⟨y,hy,rfl⟩:=Option.map_eq_some_iff.1 h
   exact fu8 y (gu4 ((Next q)) ((ax5 q)) ((f9 q)) ((wC q)) ((ba9 q)) ((fi2 q)) ((az2 q)) ((gq0 q)) ((iI q)) ((ck9 q)) ((one q)) ((hw7 q)) ((ag4 q).1) (h0) q x y hy))⟩
noncomputable def dA(q:Nat):aR→Option aQ:=(ag4 q).1
theorem cw7(q:Nat):Lw E5 33 o7 cD (dA q):=(fg3 q).1
abbrev fb6:Type:=Nat×FI×Int
abbrev bo8:Type:=(Unit)⊕(Nat×FI)
def fd3:AR fb6:=fun x=>([.ro 1 x.1 (fun j=>[i64 (x.2.1 j)]),i64 x.2.2],[])
def fb1:bo8→CRes:=Sum.elim (fun z=>CRes.ret (g8) []:(Unit)→CRes) (fun z=>CRes.ret (V.sl 0 1 0 z.1) [some (Chunk.row 3 1 z.1 fun j=>[i64 (z.2 j)])]:(Nat×FI)→CRes)
def bt8{β:Type}(x:fb6)(dn:bo8→Option β):Option β:=
 if(0:Int)≤0∧(0≤if x.2.2< ((x.1:Nat):Int)then x.2.2 else((x.1:Nat):Int))∧(if x.2.2< ((x.1:Nat):Int)then x.2.2 else((x.1:Nat):Int))≤((x.1:Nat):Int)then if Int.toNat (if x.2.2< ((x.1:Nat):Int)then x.2.2 else((x.1:Nat):Int))-0=0 then dn (.inl ())else if(Int.toNat (if x.2.2< ((x.1:Nat):Int)then x.2.2 else((x.1:Nat):Int))-0)*8≤d5∧Int.toNat (if x.2.2< ((x.1:Nat):Int)then x.2.2 else((x.1:Nat):Int))-0≤maxLen then dn (.inr (Int.toNat (if x.2.2< ((x.1:Nat):Int)then x.2.2 else((x.1:Nat):Int))-0,fun j=>x.2.1 (0+j)))else none else none
theorem ib8{β:Type}(x)(dn:bo8→Option β):bt8 x dn=(bt8 x some).bind dn:=by
 unfold bt8
 repeat' first|exact n0|refine n1 fun _=>?_|refine n2 ?_ ?_|refine n3 (fun _=>?_) fun _=>?_|rfl
theorem hw5(x):f7 E5 ca0 lo0 29 (fd3 x).1 (fd3 x).2 K=bt8 x (fun z=>some (.c (fb1 z))):=by kernel_rfl
noncomputable def hu3(q:Nat)(x:fb6):Option bo8:=bt8 x some
theorem ho6(q:Nat):Lw E5 29 fd3 fb1 (hu3 q):=sof hW5 hX5 a8 (fun _=>b6) fun x=>(hw5 x).trans (by rw[ib8]<;>rfl)
end Go.Proofs.YtjfkkokeegpeiaaGreatDoor
/- Make, lifted. -/
namespace Go.Proofs.YtjfkkokeegpeiaaGreatDoor
open Go Go.Am Go.Proofs Go.Proofs.Lx
set_option maxRecDepth 100000
noncomputable def E9:Env:={E5 with rows:=false,push:=false}
theorem hW9:WF E9:=WF.of E9 (fun _=>rfl) (by kernel_rfl) hW.1.1
theorem hX9:SoundX E9:=SoundX.none fun _ _=>rfl
theorem sc9{f:FuncId}{args:List V}{L:List (Option Chunk)}{cr:CRes}:SC E9 f args L cr↔SC E5 f args L cr:=
 ⟨fun h=>⟨h.1,fun β S w us h1 h2 h3=>h.2 β S w us h1 h2 ⟨h3.rd,h3.inv⟩⟩,fun h=>⟨h.1,fun β S w us h1 h2 h3=>h.2 β S w us h1 h2 ⟨h3.rd,h3.inv⟩⟩⟩
abbrev iJ:Type:=Nat×FI×Int
abbrev iM:Type:=Nat×FI
def bE:AR iJ:=fun x=>([.ro 1 x.1 (fun j=>[i64 (x.2.1 j)]),i64 x.2.2],[])
def hj3(t:TT):iJ:=(u7 (ag t 0),dTI (ag t 0) 0,vI (ag t 1))
theorem ad1:VI bE:=vd hj3 fun _=>rfl
def lX:iM→CRes:=fun z=>.ret (.ro 1 z.1 (fun j=>[i64 (z.2 j)])) []
def bm5:bo8→iM:=Sum.elim (fun _=>(0,fun _=>0)) (fun z=>z)
theorem fv0{args:List V}{L:List (Option Chunk)}(z:bo8)(h:SC E5 29 args L (fb1 z)):SC E5 29 args L (lX (bm5 z)):=by
 rcases z with z|z
 ·exact SC.le h Le.nil_ro
 ·have h2:=SC.giveM (L2:=[]) 0 h (by rfl) (by simp[V.bw,V.bw2,V.bw1,hp,V.pure,m8])
  simp[V.bw,V.bw2,V.bw1,hp]at h2
  exact h2
noncomputable def jK(q:Nat)(x:iJ):Option iM:=(hu3 q x).map bm5
theorem ea6(q:Nat):Lw E5 29 bE lX (jK q):=by
 intro x z h
 obtain⟨y,hy,rfl⟩:=Option.map_eq_some_iff.1 h
 exact fv0 y (ho6 q x y hy)
abbrev g9:Type:=Nat×FI
abbrev ar3:Type:=(Unit)⊕(Nat×FL)
def dd8:AR g9:=fun x=>([.ro 1 x.1 (fun j=>[i64 (x.2 j)])],[])
def dp3:ar3→CRes:=Sum.elim (fun _=>.ret (.sc (.slice none 0 0)) []:(Unit)→CRes) (fun z:Nat×FL=>.ret (.sl 0 6 0 z.1) [some (.row 56 6 z.1 z.2)])
abbrev gA:Type:=(Int×Nat×FI×Int×Int×ByteArray)⊕(Int×Nat×FI×Int×Int×ByteArray×FL×Int×Nat)
abbrev pN:Type:=(Int×Nat×FI×Int×Int×ByteArray)⊕(Int×Nat×FI×Int×Int×ByteArray×Nat×FL)
def ei8(x:g9)(y:Int×Nat×FI×Int×Int×ByteArray):St:={fr:=[V.junk,V.junk,V.junk,V.ptr 0 0,g8,i64 y.1,i64 0,V.ptr 1 0,i64 0]++jk 49,H:=hp [some (Chunk.blk [V.ro 1 y.2.1 fun j=>[i64 (y.2.2.1 j)],i64 y.2.2.2.1,i64 y.2.2.2.2.1]),some (Chunk.blk [st y.2.2.2.2.2,g8,i64 0,i64 0,st ⟨#[]⟩,g8])],nx:=2,rt:=0,me:=12}
def dx7(s:St):Int×Nat×FI×Int×Int×ByteArray:=((vI (s.fr.getD 5 .junk)),u7 (cb s 0 0),dTI (cb s 0 0) 0,vI (cb s 0 1),vI (cb s 0 2),vS (cb s 1 0))
def eb1(x:g9)(y:Int×Nat×FI×Int×Int×ByteArray×FL×Int×Nat):St:={fr:=[V.junk,V.junk,V.junk,V.ptr 0 0,g8,i64 y.1,i64 0,V.ptr 1 0,i64 y.2.2.2.2.2.2.2.1]++jk 49,H:=hp [some (Chunk.blk [V.ro 1 y.2.1 fun j=>[i64 (y.2.2.1 j)],i64 y.2.2.2.1,i64 y.2.2.2.2.1]),some (Chunk.blk [st y.2.2.2.2.2.1,V.sl 2 2 0 y.2.2.2.2.2.2.2.2,i64 0,i64 0,st ⟨#[]⟩,g8]),some (Chunk.row 66 2 y.2.2.2.2.2.2.2.2 y.2.2.2.2.2.2.1)],nx:=3,rt:=0,me:=12}
def dr6(s:St):Int×Nat×FI×Int×Int×ByteArray×FL×Int×Nat:=((vI (s.fr.getD 5 .junk)),u7 (cb s 0 0),dTI (cb s 0 0) 0,vI (cb s 0 1),vI (cb s 0 2),vS (cb s 1 0),(chF (s.H 2)),vI (s.fr.getD 8 .junk),dB (cb s 1 1))
def bY(x:g9):gA→St:=(Sum.elim (ei8 x) (eb1 x))
def ez2(s:St):gA:=(match s.nx==2 with|true=>(.inl (dx7 s)) |false=>(.inr (dr6 s)))
theorem cm0(x:g9):VL (bY x):=vl ez2 (fun y=>by rcases y with y|y<;>rfl)
def jW(x:g9):pN→Ex×St:=(Sum.elim (fun z=>(Ex.exit 2,{fr:=[V.junk,V.junk,V.junk,V.ptr 0 0,g8,i64 z.1,i64 0,V.ptr 1 0]++jk 50,H:=hp [some (Chunk.blk [V.ro 1 z.2.1 fun j=>[i64 (z.2.2.1 j)],i64 z.2.2.2.1,i64 z.2.2.2.2.1]),some (Chunk.blk [st z.2.2.2.2.2,g8,i64 0,i64 0,st ⟨#[]⟩,g8])],nx:=2,rt:=0,me:=12})) (fun z=>(Ex.exit 2,{fr:=[V.junk,V.junk,V.junk,V.ptr 0 0,g8,i64 z.1,i64 0,V.ptr 1 0]++jk 50,H:=hp [some (Chunk.blk [V.ro 1 z.2.1 fun j=>[i64 (z.2.2.1 j)],i64 z.2.2.2.1,i64 z.2.2.2.2.1]),some (Chunk.blk [st z.2.2.2.2.2.1,V.sl 2 2 0 z.2.2.2.2.2.2.1,i64 0,i64 0,st ⟨#[]⟩,g8]),some (Chunk.row 66 2 z.2.2.2.2.2.2.1 z.2.2.2.2.2.2.2)],nx:=3,rt:=0,me:=12})))
def nE{β:Type}(c_IntsV:iJ→Option iM)(c_Next:bG→Option aZ)(c_Decimal:m6→Option s6)(c_UnitM:fW→Option fS)(c_MBlock:aR→Option aQ)(x:g9)(y:Int×Nat×FI×Int×Int×ByteArray)(nx:gA→Option β)(dn:pN→Option β):Option β:=
 if decide (0<y.2.2.2.2.1)=true then(c_Decimal (1)).bind fun z1630=>if 1+z1630.size≤maxLen then(c_Next (9,y.2.1,y.2.2.1,y.2.2.2.1,y.2.2.2.2.1)).bind fun z1636=>(c_UnitM z1636.1).bind fun z1638=>nx (.inr (y.1,z1636.2.1,z1636.2.2.1,z1636.2.2.2.1,z1636.2.2.2.2,y.2.2.2.2.2,fun j=>ay4 false [[st (⟨#[118]⟩++z1630),st z1638]] (0+j),1,1))else none else dn (.inl y)
theorem dw9{β:Type}(c_IntsV c_Next)(c_Decimal c_UnitM c_MBlock)(x)(y)(nx:gA→Option β)(dn):nE c_IntsV c_Next c_Decimal c_UnitM c_MBlock x y nx dn=(nE c_IntsV c_Next c_Decimal c_UnitM c_MBlock x y (fun y=>some (.inl y)) (fun z=>some (.inr z))).bind fun r=>Sum.elim nx dn r:=by
 unfold nE
 repeat' first|exact n0|refine n1 fun _=>?_|refine n2 ?_ ?_|refine n3 (fun _=>?_) fun _=>?_|rfl
theorem du2(c_IntsV c_Next)(c_Decimal c_UnitM c_MBlock)(x)(y)(lo:f5):n8 E9 (ftb 29 bE lX c_IntsV (ftb 30 n9 dD c_Next (ftb 31 j3 s7 c_Decimal (ftb 32 v8 kP c_UnitM (ftb 33 o7 cD c_MBlock ca0))))) lo 2 504 (b5 E9 12 2) (bY x (.inl y)) (KCM [(2,248),(1,120),(0,16)] 4)=nE (vf bE c_IntsV) (vf n9 c_Next) (vf j3 c_Decimal) (vf v8 c_UnitM) (vf o7 c_MBlock) x y (fun y=>lo 2 504 (b5 E9 12 2) (bY x y) (KCM [(2,248),(1,120),(0,16)] 4)) (fun z=>some (.l (jW x z).1 (jW x z).2)):=by kernel_rfl
def nN{β:Type}(c_IntsV:iJ→Option iM)(c_Next:bG→Option aZ)(c_Decimal:m6→Option s6)(c_UnitM:fW→Option fS)(c_MBlock:aR→Option aQ)(x:g9)(y:Int×Nat×FI×Int×Int×ByteArray×FL×Int×Nat)(nx:gA→Option β)(dn:pN→Option β):Option β:=
 if decide (y.2.2.2.2.2.2.2.1<y.2.2.2.2.1)=true then(c_Decimal (w (y.2.2.2.2.2.2.2.1+1))).bind fun z1641=>if 1+z1641.size≤maxLen then(c_Next (9,y.2.1,y.2.2.1,y.2.2.2.1,y.2.2.2.2.1)).bind fun z1647=>(c_UnitM z1647.1).bind fun z1649=>if(y.2.2.2.2.2.2.2.2+1)*32≤d5∧y.2.2.2.2.2.2.2.2+1≤maxLen∧y.2.2.2.2.2.2.2.2≤y.2.2.2.2.2.2.2.2 then nx (.inr (y.1,z1647.2.1,z1647.2.2.1,z1647.2.2.2.1,z1647.2.2.2.2,y.2.2.2.2.2.1,ak1 false 1 y.2.2.2.2.2.2.2.2 y.2.2.2.2.2.2.1 fun j=>ay4 false [[st (⟨#[118]⟩++z1641),st z1649]] (0+j),w (y.2.2.2.2.2.2.2.1+1),y.2.2.2.2.2.2.2.2+1))else none else none else dn (.inr (y.1,y.2.1,y.2.2.1,y.2.2.2.1,y.2.2.2.2.1,y.2.2.2.2.2.1,y.2.2.2.2.2.2.2.2,y.2.2.2.2.2.2.1))
theorem ef2{β:Type}(c_IntsV c_Next)(c_Decimal c_UnitM c_MBlock)(x)(y)(nx:gA→Option β)(dn):nN c_IntsV c_Next c_Decimal c_UnitM c_MBlock x y nx dn=(nN c_IntsV c_Next c_Decimal c_UnitM c_MBlock x y (fun y=>some (.inl y)) (fun z=>some (.inr z))).bind fun r=>Sum.elim nx dn r:=by
 unfold nN
 repeat' first|exact n0|refine n1 fun _=>?_|refine n2 ?_ ?_|refine n3 (fun _=>?_) fun _=>?_|rfl
theorem ee3(c_IntsV c_Next)(c_Decimal c_UnitM c_MBlock)(x)(y)(lo:f5):n8 E9 (ftb 29 bE lX c_IntsV (ftb 30 n9 dD c_Next (ftb 31 j3 s7 c_Decimal (ftb 32 v8 kP c_UnitM (ftb 33 o7 cD c_MBlock ca0))))) lo 2 504 (b5 E9 12 2) (bY x (.inr y)) (KCM [(2,248),(1,120),(0,16)] 4)=nN (vf bE c_IntsV) (vf n9 c_Next) (vf j3 c_Decimal) (vf v8 c_UnitM) (vf o7 c_MBlock) x y (fun y=>lo 2 504 (b5 E9 12 2) (bY x y) (KCM [(2,248),(1,120),(0,16)] 4)) (fun z=>some (.l (jW x z).1 (jW x z).2)):=by kernel_rfl
noncomputable def bV(c_IntsV:iJ→Option iM)(c_Next:bG→Option aZ)(c_Decimal:m6→Option s6)(c_UnitM:fW→Option fS)(c_MBlock:aR→Option aQ)(q:Nat)(x:g9):gA→Option pN:=lpG (Sum.elim (fun y=>nE c_IntsV c_Next c_Decimal c_UnitM c_MBlock x y (fun y=>some (.inl y)) (fun z=>some (.inr z))) (fun y=>nN c_IntsV c_Next c_Decimal c_UnitM c_MBlock x y (fun y=>some (.inl y)) (fun z=>some (.inr z)))) q
theorem eq1(c_IntsV)(h_IntsV:Lw E9 29 bE lX c_IntsV)(c_Next)(h_Next:Lw E9 30 n9 dD c_Next)(c_Decimal)(h_Decimal:Lw E9 31 j3 s7 c_Decimal)(c_UnitM)(h_UnitM:Lw E9 32 v8 kP c_UnitM)(c_MBlock)(h_MBlock:Lw E9 33 o7 cD c_MBlock)(q:Nat)(x:g9):Ll E9 (b5 E9 12 2) (bY x) (jW x) (bV c_IntsV c_Next c_Decimal c_UnitM c_MBlock q x):=
 slp (fk h_IntsV (fk h_Next (fk h_Decimal (fk h_UnitM (fk h_MBlock a8))))) hX9 (fun lo y=>by
  rcases y with y|y
  ·exact(du2 c_IntsV c_Next c_Decimal c_UnitM c_MBlock x y lo).trans (by rw[ad1,qG,gR,xT,sS];exact dw9 _ _ _ _ _ _ _ _ _)
  ·exact(ee3 c_IntsV c_Next c_Decimal c_UnitM c_MBlock x y lo).trans (by rw[ad1,qG,gR,xT,sS];exact ef2 _ _ _ _ _ _ _ _ _)) (fun z=>by rcases z with z|z<;>kernel_rfl) q
abbrev bA:Type:=(Nat×Int×Int×Nat×FI×Int×Int×FL×ByteArray)⊕(Nat×Int×Int×Nat×FI×Int×Int×FL×ByteArray×FL×Int×Nat)
abbrev bH:Type:=(Nat×Int×Int×Nat×FI×Int×Int×FL×ByteArray)⊕(Nat×Int×Int×Nat×FI×Int×Int×FL×ByteArray×Nat×FL)
def cv3(x:g9)(y:Nat×Int×Int×Nat×FI×Int×Int×FL×ByteArray):St:={fr:=[V.junk,V.junk,V.junk,V.ptr 0 0,V.sl 1 6 0 (y.1),i64 (y.2.1),i64 (y.2.2.1),V.ptr 2 0,i64 (0:Int)]++jk 49,H:=hp [some (Chunk.blk [V.ro 1 (y.2.2.2.1) fun(j:Nat)=>[i64 (y.2.2.2.2.1 j)],i64 (y.2.2.2.2.2.1),i64 (y.2.2.2.2.2.2.1)]),some (Chunk.row 56 6 (y.1) (y.2.2.2.2.2.2.2.1)),some (Chunk.blk [st (y.2.2.2.2.2.2.2.2),g8,i64 (0:Int),i64 (0:Int),st ⟨#[]⟩,g8])],nx:=3,rt:=0,me:=12}
def cr7(s:St):Nat×Int×Int×Nat×FI×Int×Int×FL×ByteArray:=((dB (s.fr.getD 4 .junk)),(vI (s.fr.getD 5 .junk)),(vI (s.fr.getD 6 .junk)),(u7 ((chB (s.H 0)).getD 0 .junk)),(fun j=>(vI (((iU ((chB (s.H 0)).getD 0 .junk)) j).getD 0 .junk))),(vI ((chB (s.H 0)).getD 1 .junk)),(vI ((chB (s.H 0)).getD 2 .junk)),(chF (s.H 1)),(vS ((chB (s.H 2)).getD 0 .junk)))
def cw2(x:g9)(y:Nat×Int×Int×Nat×FI×Int×Int×FL×ByteArray×FL×Int×Nat):St:={fr:=[V.junk,V.junk,V.junk,V.ptr 0 0,V.sl 1 6 0 (y.1),i64 (y.2.1),i64 (y.2.2.1),V.ptr 2 0,i64 (y.2.2.2.2.2.2.2.2.2.2.1)]++jk 49,H:=hp [some (Chunk.blk [V.ro 1 (y.2.2.2.1) fun(j:Nat)=>[i64 (y.2.2.2.2.1 j)],i64 (y.2.2.2.2.2.1),i64 (y.2.2.2.2.2.2.1)]),some (Chunk.row 56 6 (y.1) (y.2.2.2.2.2.2.2.1)),some (Chunk.blk [st (y.2.2.2.2.2.2.2.2.1),V.sl 3 2 0 (y.2.2.2.2.2.2.2.2.2.2.2),i64 (0:Int),i64 (0:Int),st ⟨#[]⟩,g8]),some (Chunk.row 66 2 (y.2.2.2.2.2.2.2.2.2.2.2) (y.2.2.2.2.2.2.2.2.2.1))],nx:=4,rt:=0,me:=12}
def ct3(s:St):Nat×Int×Int×Nat×FI×Int×Int×FL×ByteArray×FL×Int×Nat:=((dB (s.fr.getD 4 .junk)),(vI (s.fr.getD 5 .junk)),(vI (s.fr.getD 6 .junk)),(u7 ((chB (s.H 0)).getD 0 .junk)),(fun j=>(vI (((iU ((chB (s.H 0)).getD 0 .junk)) j).getD 0 .junk))),(vI ((chB (s.H 0)).getD 1 .junk)),(vI ((chB (s.H 0)).getD 2 .junk)),(chF (s.H 1)),(vS ((chB (s.H 2)).getD 0 .junk)),(chF (s.H 3)),(vI (s.fr.getD 8 .junk)),(dB ((chB (s.H 2)).getD 1 .junk)))
def n6(x:g9):bA→St:=(Sum.elim (cv3 x) (cw2 x))
def df2(s:St):bA:=(match s.nx==3 with|true=>(.inl (cr7 s)) |false=>(.inr (ct3 s)))
theorem bf5(x:g9):∀y y',n6 x y=n6 x y'→y=y':=fun y y' h=>by rcases y with y|y<;>rcases y' with y|y<;>exact(congrArg df2 h:)
def j0(x:g9):bH→Ex×St:=(Sum.elim (fun z=>(Ex.exit 2,{fr:=[V.junk,V.junk,V.junk,V.ptr 0 0,V.sl 1 6 0 (z.1),i64 (z.2.1),i64 (z.2.2.1),V.ptr 2 0]++jk 50,H:=hp [some (Chunk.blk [V.ro 1 (z.2.2.2.1) fun(j:Nat)=>[i64 (z.2.2.2.2.1 j)],i64 (z.2.2.2.2.2.1),i64 (z.2.2.2.2.2.2.1)]),some (Chunk.row 56 6 (z.1) (z.2.2.2.2.2.2.2.1)),some (Chunk.blk [st (z.2.2.2.2.2.2.2.2),g8,i64 (0:Int),i64 (0:Int),st ⟨#[]⟩,g8])],nx:=3,rt:=0,me:=12})) (fun z=>(Ex.exit 2,{fr:=[V.junk,V.junk,V.junk,V.ptr 0 0,V.sl 1 6 0 (z.1),i64 (z.2.1),i64 (z.2.2.1),V.ptr 2 0]++jk 50,H:=hp [some (Chunk.blk [V.ro 1 (z.2.2.2.1) fun(j:Nat)=>[i64 (z.2.2.2.2.1 j)],i64 (z.2.2.2.2.2.1),i64 (z.2.2.2.2.2.2.1)]),some (Chunk.row 56 6 (z.1) (z.2.2.2.2.2.2.2.1)),some (Chunk.blk [st (z.2.2.2.2.2.2.2.2.1),V.sl 3 2 0 (z.2.2.2.2.2.2.2.2.2.1),i64 (0:Int),i64 (0:Int),st ⟨#[]⟩,g8]),some (Chunk.row 66 2 (z.2.2.2.2.2.2.2.2.2.1) (z.2.2.2.2.2.2.2.2.2.2))],nx:=4,rt:=0,me:=12})))
def uP(x:g9)(z:bH)(k:KX):Option Ans:=Sum.elim (fun za=>k (j0 x (.inl za)).1 (j0 x (.inl za)).2) (fun zb=>k (j0 x (.inr zb)).1 (j0 x (.inr zb)).2) z
theorem cw4(x:g9):∀z k,uP x z k=k (j0 x z).1 (j0 x z).2:=fun z k=>by
 rcases z with z|z<;>rfl
theorem cu2(x:g9)(z:Nat×Int×Int×Nat×FI×Int×Int×FL×ByteArray):KCM [(2,248),(1,120),(0,16)] 4 (j0 x (.inl z)).1 (j0 x (.inl z)).2=some (.l (j0 x (.inl z)).1 (j0 x (.inl z)).2):=by kernel_rfl
theorem cv1(x:g9)(z:Nat×Int×Int×Nat×FI×Int×Int×FL×ByteArray×Nat×FL):KCM [(2,248),(1,120),(0,16)] 4 (j0 x (.inr z)).1 (j0 x (.inr z)).2=some (.l (j0 x (.inr z)).1 (j0 x (.inr z)).2):=by kernel_rfl
def gX{β:Type}(c_IntsV:iJ→Option iM)(c_Next:bG→Option aZ)(c_Decimal:m6→Option s6)(c_UnitM:fW→Option fS)(c_MBlock:aR→Option aQ)(x:g9)(y:Nat×Int×Int×Nat×FI×Int×Int×FL×ByteArray)(nx:bA→Option β)(dn:bH→Option β):Option β:=
 if decide ((0:Int)<y.2.2.2.2.2.2.1)=true then
  (c_Decimal ((1:Int))).bind fun z1652=>
   if 1+ByteArray.size z1652≤maxLen then
    (c_Next (((9:Int),y.2.2.2.1,y.2.2.2.2.1,y.2.2.2.2.2.1,y.2.2.2.2.2.2.1))).bind fun z1658=>
     (c_UnitM (z1658.1)).bind fun z1660=>
      nx (.inr ((y.1,y.2.1,y.2.2.1,z1658.2.1,z1658.2.2.1,z1658.2.2.2.1,z1658.2.2.2.2,y.2.2.2.2.2.2.2.1,y.2.2.2.2.2.2.2.2,fun(j:Nat)=>ay4 false [[st (⟨#[118]⟩++z1652),st z1660]] (0+j),(1:Int),1)))
   else
    none
 else
  dn (.inl y)
theorem cu5{β:Type}(c_IntsV c_Next)(c_Decimal c_UnitM c_MBlock)(x:g9)(y:Nat×Int×Int×Nat×FI×Int×Int×FL×ByteArray)(nx:bA→Option β)(dn:bH→Option β):gX c_IntsV c_Next c_Decimal c_UnitM c_MBlock x y nx dn=(gX c_IntsV c_Next c_Decimal c_UnitM c_MBlock x y (fun y=>some (.inl y)) (fun z=>some (.inr z))).bind fun r=>Sum.elim nx dn r:=by
 unfold gX
 repeat' first|exact n0|refine n1 fun _=>?_|refine n2 ?_ ?_|refine n3 (fun _=>?_) fun _=>?_|rfl
theorem ct7(c_IntsV c_Next)(c_Decimal c_UnitM c_MBlock)(x:g9)(y:Nat×Int×Int×Nat×FI×Int×Int×FL×ByteArray)(lo:f5):n8 E9 (ftb 29 bE lX c_IntsV (ftb 30 n9 dD c_Next (ftb 31 j3 s7 c_Decimal (ftb 32 v8 kP c_UnitM (ftb 33 o7 cD c_MBlock ca0))))) lo 2 504 (b5 E9 12 2) (n6 x (.inl y)) (KCM [(2,248),(1,120),(0,16)] 4)=gX (vf bE c_IntsV) (vf n9 c_Next) (vf j3 c_Decimal) (vf v8 c_UnitM) (vf o7 c_MBlock) x y (fun y=>lo 2 504 (b5 E9 12 2) (n6 x y) (KCM [(2,248),(1,120),(0,16)] 4)) (fun z=>some (.l (j0 x z).1 (j0 x z).2)):=by kernel_rfl
def gW{β:Type}(c_IntsV:iJ→Option iM)(c_Next:bG→Option aZ)(c_Decimal:m6→Option s6)(c_UnitM:fW→Option fS)(c_MBlock:aR→Option aQ)(x:g9)(y:Nat×Int×Int×Nat×FI×Int×Int×FL×ByteArray×FL×Int×Nat)(nx:bA→Option β)(dn:bH→Option β):Option β:=
 if decide (y.2.2.2.2.2.2.2.2.2.2.1<y.2.2.2.2.2.2.1)=true then
  (c_Decimal (w (y.2.2.2.2.2.2.2.2.2.2.1+(1:Int)))).bind fun z1663=>
   if 1+ByteArray.size z1663≤maxLen then
    (c_Next (((9:Int),y.2.2.2.1,y.2.2.2.2.1,y.2.2.2.2.2.1,y.2.2.2.2.2.2.1))).bind fun z1669=>
     (c_UnitM (z1669.1)).bind fun z1671=>
      if(y.2.2.2.2.2.2.2.2.2.2.2+1)*32≤d5∧y.2.2.2.2.2.2.2.2.2.2.2+1≤maxLen∧y.2.2.2.2.2.2.2.2.2.2.2≤y.2.2.2.2.2.2.2.2.2.2.2 then
       nx (.inr ((y.1,y.2.1,y.2.2.1,z1669.2.1,z1669.2.2.1,z1669.2.2.2.1,z1669.2.2.2.2,y.2.2.2.2.2.2.2.1,y.2.2.2.2.2.2.2.2.1,ak1 false 1 (y.2.2.2.2.2.2.2.2.2.2.2) (y.2.2.2.2.2.2.2.2.2.1) fun(j:Nat)=>ay4 false [[st (⟨#[118]⟩++z1663),st z1671]] (0+j),w (y.2.2.2.2.2.2.2.2.2.2.1+(1:Int)),y.2.2.2.2.2.2.2.2.2.2.2+1)))
      else
       none
   else
    none
 else
  dn (.inr ((y.1,y.2.1,y.2.2.1,y.2.2.2.1,y.2.2.2.2.1,y.2.2.2.2.2.1,y.2.2.2.2.2.2.1,y.2.2.2.2.2.2.2.1,y.2.2.2.2.2.2.2.2.1,y.2.2.2.2.2.2.2.2.2.2.2,y.2.2.2.2.2.2.2.2.2.1)))
theorem cu4{β:Type}(c_IntsV c_Next)(c_Decimal c_UnitM c_MBlock)(x:g9)(y:Nat×Int×Int×Nat×FI×Int×Int×FL×ByteArray×FL×Int×Nat)(nx:bA→Option β)(dn:bH→Option β):gW c_IntsV c_Next c_Decimal c_UnitM c_MBlock x y nx dn=(gW c_IntsV c_Next c_Decimal c_UnitM c_MBlock x y (fun y=>some (.inl y)) (fun z=>some (.inr z))).bind fun r=>Sum.elim nx dn r:=by
 unfold gW
 repeat' first|exact n0|refine n1 fun _=>?_|refine n2 ?_ ?_|refine n3 (fun _=>?_) fun _=>?_|rfl
theorem cu0(c_IntsV c_Next)(c_Decimal c_UnitM c_MBlock)(x:g9)(y:Nat×Int×Int×Nat×FI×Int×Int×FL×ByteArray×FL×Int×Nat)(lo:f5):n8 E9 (ftb 29 bE lX c_IntsV (ftb 30 n9 dD c_Next (ftb 31 j3 s7 c_Decimal (ftb 32 v8 kP c_UnitM (ftb 33 o7 cD c_MBlock ca0))))) lo 2 504 (b5 E9 12 2) (n6 x (.inr y)) (KCM [(2,248),(1,120),(0,16)] 4)=gW (vf bE c_IntsV) (vf n9 c_Next) (vf j3 c_Decimal) (vf v8 c_UnitM) (vf o7 c_MBlock) x y (fun y=>lo 2 504 (b5 E9 12 2) (n6 x y) (KCM [(2,248),(1,120),(0,16)] 4)) (fun z=>some (.l (j0 x z).1 (j0 x z).2)):=by kernel_rfl
noncomputable def o8(c_IntsV:iJ→Option iM)(c_Next:bG→Option aZ)(c_Decimal:m6→Option s6)(c_UnitM:fW→Option fS)(c_MBlock:aR→Option aQ)(q:Nat)(x:g9):bA→Option bH:=lpG (Sum.elim (fun y=>gX c_IntsV c_Next c_Decimal c_UnitM c_MBlock x y (fun y=>some (.inl y)) (fun z=>some (.inr z))) (fun y=>gW c_IntsV c_Next c_Decimal c_UnitM c_MBlock x y (fun y=>some (.inl y)) (fun z=>some (.inr z)))) q
theorem dj8(c_IntsV)(h_IntsV:Lw E9 29 bE lX c_IntsV)(c_Next)(h_Next:Lw E9 30 n9 dD c_Next)(c_Decimal)(h_Decimal:Lw E9 31 j3 s7 c_Decimal)(c_UnitM)(h_UnitM:Lw E9 32 v8 kP c_UnitM)(c_MBlock)(h_MBlock:Lw E9 33 o7 cD c_MBlock)(q:Nat)(x:g9):∀y z,o8 c_IntsV c_Next c_Decimal c_UnitM c_MBlock q x y=some z→SL E9 (b5 E9 12 2) (n6 x y) (j0 x z).1 (j0 x z).2:=
 SL.lp (LT:=fun lo=>lo) (T:=j0 x) (S:=n6 x) (fk h_IntsV (fk h_Next (fk h_Decimal (fk h_UnitM (fk h_MBlock a8))))) hX9 (fun lo h=>h) (fun lo y=>by
  rcases y with y|y
  ·exact(ct7 c_IntsV c_Next c_Decimal c_UnitM c_MBlock x y lo).trans (by rw[ad1,qG,gR,xT,sS];exact cu5 _ _ _ _ _ _ _ _ _)
  ·exact(cu0 c_IntsV c_Next c_Decimal c_UnitM c_MBlock x y lo).trans (by rw[ad1,qG,gR,xT,sS];exact cu4 _ _ _ _ _ _ _ _ _)) (fun z=>by rcases z with z|z<;>first|exact cu2 x z|exact cv1 x z) q
abbrev iT:Type:=(Int×Nat×FI×Int×Int)⊕(Int×Nat×FI×Int×Int×FL×Nat×Int)
abbrev wB:Type:=(Unit)⊕(Nat×FL)
def ed0(x:g9)(y:Int×Nat×FI×Int×Int):St:={fr:=[V.junk,V.junk,V.junk,V.ptr 0 0,g8,i64 y.1,i64 0]++jk 51,H:=hp [some (Chunk.blk [V.ro 1 y.2.1 fun j=>[i64 (y.2.2.1 j)],i64 y.2.2.2.1,i64 y.2.2.2.2])],nx:=1,rt:=0,me:=12}
def dx1(s:St):Int×Nat×FI×Int×Int:=((vI (s.fr.getD 5 .junk)),u7 (cb s 0 0),dTI (cb s 0 0) 0,vI (cb s 0 1),vI (cb s 0 2))
def ec5(x:g9)(y:Int×Nat×FI×Int×Int×FL×Nat×Int):St:={fr:=[V.junk,V.junk,V.junk,V.ptr 0 0,V.sl 1 6 0 y.2.2.2.2.2.2.1,i64 y.1,i64 y.2.2.2.2.2.2.2]++jk 51,H:=hp [some (Chunk.blk [V.ro 1 y.2.1 fun j=>[i64 (y.2.2.1 j)],i64 y.2.2.2.1,i64 y.2.2.2.2.1]),some (Chunk.row 56 6 y.2.2.2.2.2.2.1 y.2.2.2.2.2.1)],nx:=2,rt:=0,me:=12}
def dz7(s:St):Int×Nat×FI×Int×Int×FL×Nat×Int:=((vI (s.fr.getD 5 .junk)),u7 (cb s 0 0),dTI (cb s 0 0) 0,vI (cb s 0 1),vI (cb s 0 2),(chF (s.H 1)),dB (s.fr.getD 4 .junk),vI (s.fr.getD 6 .junk))
def fM(x:g9):iT→St:=(Sum.elim (ed0 x) (ec5 x))
def es4(s:St):iT:=(match s.nx==1 with|true=>(.inl (dx1 s)) |false=>(.inr (dz7 s)))
theorem eq7(x:g9):VL (fM x):=vl es4 (fun y=>by rcases y with y|y<;>rfl)
def mJ(x:g9):wB→Ex×St:=(Sum.elim (fun z=>(Ex.exit 0,{fr:=jk 4++[g8]++jk 53,H:=hp [],nx:=0,rt:=0,me:=12})) (fun z=>(Ex.exit 0,{fr:=jk 4++[V.sl 0 6 0 z.1]++jk 53,H:=hp [some (Chunk.row 56 6 z.1 z.2)],nx:=1,rt:=0,me:=12})))
def eW{β:Type}(c_IntsV:iJ→Option iM)(c_Next:bG→Option aZ)(c_Decimal:m6→Option s6)(c_UnitM:fW→Option fS)(c_MBlock:aR→Option aQ)(l_MakeR_l2:gA→Option pN)(l_MakeR_l2_2:bA→Option bH)(x:g9)(y:Int×Nat×FI×Int×Int)(nx:iT→Option β)(dn:wB→Option β):Option β:=
 if decide (0<y.1)=true then(c_Decimal (0)).bind fun z1192=>if 1+z1192.size≤maxLen then(c_Next (4,y.2)).bind fun z1198=>(l_MakeR_l2 (.inl (y.1,z1198.2.1,z1198.2.2.1,z1198.2.2.2.1,z1198.1,⟨#[112]⟩++z1192))).bind fun z1371=>Sum.elim (fun z1371a=>(c_MBlock (2,z1371a.2.1,z1371a.2.2.1,z1371a.2.2.2.1,z1371a.2.2.2.2.1)).bind fun z1377=>nx (.inr (z1371a.1,z1377.2.2.2.2.2.1,z1377.2.2.2.2.2.2.1,z1377.2.2.2.2.2.2.2.1,z1377.2.2.2.2.2.2.2.2,fun j=>ay4 false [[st z1371a.2.2.2.2.2,g8,i64 z1377.1,i64 z1377.2.1,st z1377.2.2.1,V.ro 4 z1377.2.2.2.1 z1377.2.2.2.2.1]] (0+j),1,1))) (fun z1371b=>(c_MBlock (2,z1371b.2.1,z1371b.2.2.1,z1371b.2.2.2.1,z1371b.2.2.2.2.1)).bind fun z1384=>if 0+z1371b.2.2.2.2.2.2.1≤z1371b.2.2.2.2.2.2.1∧2=2 then nx (.inr (z1371b.1,z1384.2.2.2.2.2.1,z1384.2.2.2.2.2.2.1,z1384.2.2.2.2.2.2.2.1,z1384.2.2.2.2.2.2.2.2,fun j=>ay4 false [[st z1371b.2.2.2.2.2.1,V.ro 2 z1371b.2.2.2.2.2.2.1 fun j=>z1371b.2.2.2.2.2.2.2 (0+j),i64 z1384.1,i64 z1384.2.1,st z1384.2.2.1,V.ro 4 z1384.2.2.2.1 z1384.2.2.2.2.1]] (0+j),1,1))else none) z1371 else none else dn (.inl ())
theorem ej0{β:Type}(c_IntsV c_Next)(c_Decimal c_UnitM c_MBlock)(l_MakeR_l2)(l_MakeR_l2_2)(x)(y)(nx:iT→Option β)(dn):eW c_IntsV c_Next c_Decimal c_UnitM c_MBlock l_MakeR_l2 l_MakeR_l2_2 x y nx dn=(eW c_IntsV c_Next c_Decimal c_UnitM c_MBlock l_MakeR_l2 l_MakeR_l2_2 x y (fun y=>some (.inl y)) (fun z=>some (.inr z))).bind fun r=>Sum.elim nx dn r:=by
 unfold eW
 repeat' first|exact n0|refine n1 fun _=>?_|refine n2 ?_ ?_|refine n3 (fun _=>?_) fun _=>?_|rfl
theorem ee8(c_IntsV c_Next)(c_Decimal c_UnitM c_MBlock)(l_MakeR_l2)(l_MakeR_l2_2)(x)(y)(lo:f5):n8 E9 (ftb 29 bE lX c_IntsV (ftb 30 n9 dD c_Next (ftb 31 j3 s7 c_Decimal (ftb 32 v8 kP c_UnitM (ftb 33 o7 cD c_MBlock ca0))))) (lt2 2 (fun s=>bs1 (s.fr.getD 4 .junk)) (b5 E9 12 2) (bY x) (jW x) l_MakeR_l2 (aj8 2 (fun s=> !bs1 (s.fr.getD 4 .junk)) (b5 E9 12 2) (n6 x) (uP x) l_MakeR_l2_2 lo)) 0 120 (b5 E9 12 0) (fM x (.inl y)) (KCM [(0,16)] 4)=eW (vf bE c_IntsV) (vf n9 c_Next) (vf j3 c_Decimal) (vf v8 c_UnitM) (vf o7 c_MBlock) (lf (b5 E9 12 2) (bY x) l_MakeR_l2) (fun y=>ay3 (fun y=>(b5 E9 12 2,n6 x y)) l_MakeR_l2_2 (b5 E9 12 2,n6 x y)) x y (fun y=>lo 0 120 (b5 E9 12 0) (fM x y) (KCM [(0,16)] 4)) (fun z=>some (.l (mJ x z).1 (mJ x z).2)):=by kernel_rfl
def eY{β:Type}(c_IntsV:iJ→Option iM)(c_Next:bG→Option aZ)(c_Decimal:m6→Option s6)(c_UnitM:fW→Option fS)(c_MBlock:aR→Option aQ)(l_MakeR_l2:gA→Option pN)(l_MakeR_l2_2:bA→Option bH)(x:g9)(y:Int×Nat×FI×Int×Int×FL×Nat×Int)(nx:iT→Option β)(dn:wB→Option β):Option β:=
 if decide (y.2.2.2.2.2.2.2<y.1)=true then(c_Decimal y.2.2.2.2.2.2.2).bind fun z1387=>if 1+z1387.size≤maxLen then(c_Next (4,y.2.1,y.2.2.1,y.2.2.2.1,y.2.2.2.2.1)).bind fun z1393=>(l_MakeR_l2_2 (.inl (y.2.2.2.2.2.2.1,y.1,y.2.2.2.2.2.2.2,z1393.2.1,z1393.2.2.1,z1393.2.2.2.1,z1393.1,y.2.2.2.2.2.1,⟨#[112]⟩++z1387))).bind fun z1614=>Sum.elim (fun z1614a=>(c_MBlock (2,z1614a.2.2.2.1,z1614a.2.2.2.2.1,z1614a.2.2.2.2.2.1,z1614a.2.2.2.2.2.2.1)).bind fun z1620=>if(z1614a.1+1)*96≤d5∧z1614a.1+1≤maxLen∧z1614a.1≤z1614a.1 then nx (.inr (z1614a.2.1,z1620.2.2.2.2.2.1,z1620.2.2.2.2.2.2.1,z1620.2.2.2.2.2.2.2.1,z1620.2.2.2.2.2.2.2.2,ak1 false 1 z1614a.1 z1614a.2.2.2.2.2.2.2.1 fun j=>ay4 false [[st z1614a.2.2.2.2.2.2.2.2,g8,i64 z1620.1,i64 z1620.2.1,st z1620.2.2.1,V.ro 4 z1620.2.2.2.1 z1620.2.2.2.2.1]] (0+j),z1614a.1+1,w (z1614a.2.2.1+1)))else none) (fun z1614b=>(c_MBlock (2,z1614b.2.2.2.1,z1614b.2.2.2.2.1,z1614b.2.2.2.2.2.1,z1614b.2.2.2.2.2.2.1)).bind fun z1627=>if 0+z1614b.2.2.2.2.2.2.2.2.2.1≤z1614b.2.2.2.2.2.2.2.2.2.1∧2=2 then if(z1614b.1+1)*96≤d5∧z1614b.1+1≤maxLen∧z1614b.1≤z1614b.1 then nx (.inr (z1614b.2.1,z1627.2.2.2.2.2.1,z1627.2.2.2.2.2.2.1,z1627.2.2.2.2.2.2.2.1,z1627.2.2.2.2.2.2.2.2,ak1 false 1 z1614b.1 z1614b.2.2.2.2.2.2.2.1 fun j=>ay4 false [[st z1614b.2.2.2.2.2.2.2.2.1,V.ro 2 z1614b.2.2.2.2.2.2.2.2.2.1 fun j=>z1614b.2.2.2.2.2.2.2.2.2.2 (0+j),i64 z1627.1,i64 z1627.2.1,st z1627.2.2.1,V.ro 4 z1627.2.2.2.1 z1627.2.2.2.2.1]] (0+j),z1614b.1+1,w (z1614b.2.2.1+1)))else none else none) z1614 else none else dn (.inr (y.2.2.2.2.2.2.1,y.2.2.2.2.2.1))
theorem ee0{β:Type}(c_IntsV c_Next)(c_Decimal c_UnitM c_MBlock)(l_MakeR_l2)(l_MakeR_l2_2)(x)(y)(nx:iT→Option β)(dn):eY c_IntsV c_Next c_Decimal c_UnitM c_MBlock l_MakeR_l2 l_MakeR_l2_2 x y nx dn=(eY c_IntsV c_Next c_Decimal c_UnitM c_MBlock l_MakeR_l2 l_MakeR_l2_2 x y (fun y=>some (.inl y)) (fun z=>some (.inr z))).bind fun r=>Sum.elim nx dn r:=by
 unfold eY
 repeat' first|exact n0|refine n1 fun _=>?_|refine n2 ?_ ?_|refine n3 (fun _=>?_) fun _=>?_|rfl
theorem eh6(c_IntsV c_Next)(c_Decimal c_UnitM c_MBlock)(l_MakeR_l2)(l_MakeR_l2_2)(x)(y)(lo:f5):n8 E9 (ftb 29 bE lX c_IntsV (ftb 30 n9 dD c_Next (ftb 31 j3 s7 c_Decimal (ftb 32 v8 kP c_UnitM (ftb 33 o7 cD c_MBlock ca0))))) (lt2 2 (fun s=>bs1 (s.fr.getD 4 .junk)) (b5 E9 12 2) (bY x) (jW x) l_MakeR_l2 (aj8 2 (fun s=> !bs1 (s.fr.getD 4 .junk)) (b5 E9 12 2) (n6 x) (uP x) l_MakeR_l2_2 lo)) 0 120 (b5 E9 12 0) (fM x (.inr y)) (KCM [(0,16)] 4)=eY (vf bE c_IntsV) (vf n9 c_Next) (vf j3 c_Decimal) (vf v8 c_UnitM) (vf o7 c_MBlock) (lf (b5 E9 12 2) (bY x) l_MakeR_l2) (fun y=>ay3 (fun y=>(b5 E9 12 2,n6 x y)) l_MakeR_l2_2 (b5 E9 12 2,n6 x y)) x y (fun y=>lo 0 120 (b5 E9 12 0) (fM x y) (KCM [(0,16)] 4)) (fun z=>some (.l (mJ x z).1 (mJ x z).2)):=by kernel_rfl
noncomputable def am9(c_IntsV:iJ→Option iM)(c_Next:bG→Option aZ)(c_Decimal:m6→Option s6)(c_UnitM:fW→Option fS)(c_MBlock:aR→Option aQ)(q:Nat)(x:g9):iT→Option wB:=lpG (Sum.elim (fun y=>eW c_IntsV c_Next c_Decimal c_UnitM c_MBlock (bV c_IntsV c_Next c_Decimal c_UnitM c_MBlock q x) (o8 c_IntsV c_Next c_Decimal c_UnitM c_MBlock q x) x y (fun y=>some (.inl y)) (fun z=>some (.inr z))) (fun y=>eY c_IntsV c_Next c_Decimal c_UnitM c_MBlock (bV c_IntsV c_Next c_Decimal c_UnitM c_MBlock q x) (o8 c_IntsV c_Next c_Decimal c_UnitM c_MBlock q x) x y (fun y=>some (.inl y)) (fun z=>some (.inr z)))) q
theorem fc7(c_IntsV)(h_IntsV:Lw E9 29 bE lX c_IntsV)(c_Next)(h_Next:Lw E9 30 n9 dD c_Next)(c_Decimal)(h_Decimal:Lw E9 31 j3 s7 c_Decimal)(c_UnitM)(h_UnitM:Lw E9 32 v8 kP c_UnitM)(c_MBlock)(h_MBlock:Lw E9 33 o7 cD c_MBlock)(q:Nat)(x:g9):Ll E9 (b5 E9 12 0) (fM x) (mJ x) (am9 c_IntsV c_Next c_Decimal c_UnitM c_MBlock q x):=
 SL.lp (LT:=fun lo=>(lt2 2 (fun s=>bs1 (s.fr.getD 4 .junk)) (b5 E9 12 2) (bY x) (jW x) (bV c_IntsV c_Next c_Decimal c_UnitM c_MBlock q x) (aj8 2 (fun s=> !bs1 (s.fr.getD 4 .junk)) (b5 E9 12 2) (n6 x) (uP x) (o8 c_IntsV c_Next c_Decimal c_UnitM c_MBlock q x) lo))) (T:=mJ x) (S:=fM x) (fk h_IntsV (fk h_Next (fk h_Decimal (fk h_UnitM (fk h_MBlock a8))))) hX9 (fun lo h=>(lk2 (eq1 c_IntsV h_IntsV c_Next h_Next c_Decimal h_Decimal c_UnitM h_UnitM c_MBlock h_MBlock q x) (pP (dj8 c_IntsV h_IntsV c_Next h_Next c_Decimal h_Decimal c_UnitM h_UnitM c_MBlock h_MBlock q x) (cw4 x) h))) (fun lo y=>by
  rcases y with y|y
  ·exact(ee8 c_IntsV c_Next c_Decimal c_UnitM c_MBlock (bV c_IntsV c_Next c_Decimal c_UnitM c_MBlock q x) (o8 c_IntsV c_Next c_Decimal c_UnitM c_MBlock q x) x y lo).trans (by rw[ad1,qG,gR,xT,sS,cm0,br2 (ap1 (b5 E9 12 2) (bf5 x)) (o8 c_IntsV c_Next c_Decimal c_UnitM c_MBlock q x)];exact ej0 _ _ _ _ _ _ _ _ _ _ _)
  ·exact(eh6 c_IntsV c_Next c_Decimal c_UnitM c_MBlock (bV c_IntsV c_Next c_Decimal c_UnitM c_MBlock q x) (o8 c_IntsV c_Next c_Decimal c_UnitM c_MBlock q x) x y lo).trans (by rw[ad1,qG,gR,xT,sS,cm0,br2 (ap1 (b5 E9 12 2) (bf5 x)) (o8 c_IntsV c_Next c_Decimal c_UnitM c_MBlock q x)];exact ee0 _ _ _ _ _ _ _ _ _ _ _)) (fun z=>by rcases z with z|z<;>kernel_rfl) q
def au0{β:Type}(c_IntsV:iJ→Option iM)(c_Next:bG→Option aZ)(c_Decimal:m6→Option s6)(c_UnitM:fW→Option fS)(c_MBlock:aR→Option aQ)(l_MakeR_l0:iT→Option wB)(x:g9)(dn:ar3→Option β):Option β:=
 (c_IntsV (x.1,x.2,200)).bind fun z3=>(c_Next (4,z3.1,z3.2,0,0)).bind fun z9=>(l_MakeR_l0 (.inl z9)).bind fun z1184=>Sum.elim (fun z1184a=>dn (.inl ())) (fun z1184b=>dn (.inr z1184b)) z1184
theorem gx2{β:Type}(c_IntsV c_Next)(c_Decimal c_UnitM c_MBlock)(l_MakeR_l0)(x)(dn:ar3→Option β):au0 c_IntsV c_Next c_Decimal c_UnitM c_MBlock l_MakeR_l0 x dn=(au0 c_IntsV c_Next c_Decimal c_UnitM c_MBlock l_MakeR_l0 x some).bind dn:=by
 unfold au0
 repeat' first|exact n0|refine n1 fun _=>?_|refine n2 ?_ ?_|refine n3 (fun _=>?_) fun _=>?_|rfl
theorem he3(c_IntsV c_Next)(c_Decimal c_UnitM c_MBlock)(l_MakeR_l0)(x):f7 E9 (ftb 29 bE lX c_IntsV (ftb 30 n9 dD c_Next (ftb 31 j3 s7 c_Decimal (ftb 32 v8 kP c_UnitM (ftb 33 o7 cD c_MBlock ca0))))) (lt2 0 (fun _=>true) (b5 E9 12 0) (fM x) (mJ x) l_MakeR_l0 lo0) 12 (dd8 x).1 (dd8 x).2 K=au0 (vf bE c_IntsV) (vf n9 c_Next) (vf j3 c_Decimal) (vf v8 c_UnitM) (vf o7 c_MBlock) (lf (b5 E9 12 0) (fM x) l_MakeR_l0) x (fun z=>some (.c (dp3 z))):=by kernel_rfl
noncomputable def fj3(q:Nat)(x:g9):Option ar3:=au0 (jK q) (Next q) (f9 q) (dS q) (dA q) (am9 (jK q) (Next q) (f9 q) (dS q) (dA q) q x) x some
theorem gl4(q:Nat):Lw E9 12 dd8 dp3 (fj3 q):=sof hW9 hX9 (fk (fun x z h=>sc9.2 (ea6 q x z h)) (fk (fun x z h=>sc9.2 (ax5 q x z h)) (fk (fun x z h=>sc9.2 (wC q x z h)) (fk (fun x z h=>sc9.2 (cn0 q x z h)) (fk (fun x z h=>sc9.2 (cw7 q x z h)) a8))))) (fun x=>(lk2 (fc7 (jK q) (fun x z h=>sc9.2 (ea6 q x z h)) (Next q) (fun x z h=>sc9.2 (ax5 q x z h)) (f9 q) (fun x z h=>sc9.2 (wC q x z h)) (dS q) (fun x z h=>sc9.2 (cn0 q x z h)) (dA q) (fun x z h=>sc9.2 (cw7 q x z h)) q x) b6)) fun x=>(he3 (jK q) (Next q) (f9 q) (dS q) (dA q) (am9 (jK q) (Next q) (f9 q) (dS q) (dA q) q x) x).trans (by rw[ad1,qG,gR,xT,sS,eq7,gx2]<;>rfl)
end Go.Proofs.YtjfkkokeegpeiaaGreatDoor
/- Procedures made from numbers, plain: what the maker makes of statements and blocks. -/
namespace Go.Proofs.YtjfkkokeegpeiaaGreatDoor
open Go Go.Am Go.Proofs.Lx
set_option maxRecDepth 100000
def vN(n:Nat):ByteArray:=⟨#[118]⟩++itS (n:Int)
def nmL(a b:Nat):List ByteArray:=(List.range (min b 12-min a 12)).map fun j=>vN (min a 12+j+1)
theorem eI(a:Nat):nmL a a=[]:=by unfold nmL;rw[Nat.sub_self];rfl
theorem cc4{a b c:Nat}(h1:a≤b)(h2:b≤c):nmL a b++nmL b c=nmL a c:=by
 unfold nmL
 rw[show min c 12-min a 12=(min b 12-min a 12)+(min c 12-min b 12)by omega,List.range_add,List.map_append,List.map_map]
 congr 1
 refine List.map_congr_left fun j _=>?_
 show vN (min b 12+j+1)=vN (min a 12+(min b 12-min a 12+j)+1)
 rw[show min a 12+(min b 12-min a 12+j)+1=min b 12+j+1 by omega]
theorem ff9{a:Nat}(h:a<12):nmL a (a+1)=[vN (a+1)]:=by
 unfold nmL
 rw[show min (a+1) 12-min a 12=1 by omega]
 show[vN (min a 12+0+1)]=_
 rw[show min a 12+0+1=a+1 by omega]
theorem gi0{a b:Nat}(h:12≤a)(hb:a≤b):nmL a b=[]:=by
 unfold nmL
 rw[show min b 12-min a 12=0 by omega]
 rfl
theorem hq4:∀n,1≤n→n≤12→am8 (vN n):=by
 intro n h1 h2
 have key:∀n,n<12→Lx.resP (⟨#[118]⟩++mkB (if n<9 then[UInt8.ofNat (49+n)]else[49,UInt8.ofNat (39+n)]))=false∧(⟨#[118]⟩++mkB (if n<9 then[UInt8.ofNat (49+n)]else[49,UInt8.ofNat (39+n)]):ByteArray).size≤12∧(⟨#[118]⟩++mkB (if n<9 then[UInt8.ofNat (49+n)]else[49,UInt8.ofNat (39+n)]):ByteArray).data.toList=118::(if n<9 then[UInt8.ofNat (49+n)]else[49,UInt8.ofNat (39+n)])∧∀b∈118::(if n<9 then[UInt8.ofNat (49+n)]else[49,UInt8.ofNat (39+n)]),aE b.toNat=true:=by decide
 have e:itS (n:Int)=mkB (if n-1<9 then[UInt8.ofNat (49+(n-1))]else[49,UInt8.ofNat (39+(n-1))]):=by
  refine aB ?_
  rw[sA (by omega),Int.toNat_natCast,m4]
  split
  ·rw[Lib.decDigits,dif_pos (by omega),show 49+(n-1)=48+n by omega]
  ·rw[Lib.decDigits,dif_neg (by omega),show n/10=1 by omega,show n%10=n-10 by omega,Lib.decDigits,dif_pos (by decide),show 39+(n-1)=48+(n-10)by omega]
   rfl
 obtain⟨k1,k2,k3,k4⟩:=key (n-1) (by omega)
 unfold vN
 rw[e]
 exact⟨k1,k2,_,_,k3,by decide,k4⟩
theorem id7{m n:Nat}(h:vN m=vN n):m=n:=by
 have h1:(vN m).data.toList=(vN n).data.toList:=by rw[h]
 unfold vN at h1
 rw[ByteArray.data_append,ByteArray.data_append,Array.toList_append,Array.toList_append,sA (by omega),sA (by omega),Int.toNat_natCast,Int.toNat_natCast]at h1
 have h2:=List.append_cancel_left h1
 have v1:=(vB m).2.2.1
 have v2:=(vB n).2.2.1
 rw[h2]at v1
 omega
theorem RepN.one{k n:Int}{s:ByteArray}{a:Tr}{y:n4}(h:RepN a y):RepN (.node k n s [a]) (k,n,s,1,fun _=>[i64 y.1,i64 y.2.1,st y.2.2.1,.ro 4 y.2.2.2.1 y.2.2.2.2]):=by
 simp only[_root_.Go.Proofs.YtjfkkokeegpeiaaGreatDoor.RepN,rW,List.length_cons,List.length_nil]
 exact⟨trivial,trivial,trivial,trivial,⟨y,rfl,h⟩,trivial⟩
theorem RepN.k3{k n:Int}{s:ByteArray}{a b c:Tr}{y z u:n4}(h:RepN a y)(g:RepN b z)(f:RepN c u):RepN (.node k n s [a,b,c]) (k,n,s,3,gP [[i64 y.1,i64 y.2.1,st y.2.2.1,.ro 4 y.2.2.2.1 y.2.2.2.2],[i64 z.1,i64 z.2.1,st z.2.2.1,.ro 4 z.2.2.2.1 z.2.2.2.2],[i64 u.1,i64 u.2.1,st u.2.2.1,.ro 4 u.2.2.2.1 u.2.2.2.2]]):=by
 simp only[_root_.Go.Proofs.YtjfkkokeegpeiaaGreatDoor.RepN,rW,List.length_cons,List.length_nil]
 exact⟨trivial,trivial,trivial,trivial,⟨y,rfl,h⟩,⟨z,rfl,g⟩,⟨u,rfl,f⟩,trivial⟩
def NS:Nat→Nat
 |0=>200
 |d+1=>200+2*(1+4*NS d)
def NB(d:Nat):Nat:=1+4*NS d
def SS:Nat→Nat
 |0=>200
 |d+1=>200+2*(4*(SS d+1)+4)
def MS(ln:Nat)(lf:Nat→Int)(P:Tr→Nat→Prop)(a b n:Nat)(z:io7):Prop:=∃(t:Tr) (y:n4) (a' b':Nat),z=(y.1,y.2.1,y.2.2.1,y.2.2.2.1,y.2.2.2.2,ln,lf,(a':Int),(b':Int))∧P t b'∧RepN t y∧a≤a'∧a'≤a+n∧b≤b'∧b'≤b+n
def PS1(d b:Nat)(t:Tr)(b':Nat):Prop:=szT t≤SS d∧∀i,∃x l e,PrS i (.inl t) x l e (nmL b b')∧e≤8+d
def PB1(d b:Nat)(t:Tr)(b':Nat):Prop:=∃ts,t= .node 14 0 ⟨#[]⟩ ts∧szL ts≤4*(SS d+1)∧∀i,∃x l e,PrS i (.inr ts) x l e (nmL b b')∧e≤8+d
def dst(c_Next:bG→Option aZ)(c_Decimal:m6→Option s6)(c_Word:ag1→Option ah9)(c_MExpr:rQ→Option oC)(c_Literal:pS→Option pR)(c_one:cz2→Option da8)(c_MBlock:aR→Option aQ)(dp k:Int)(s:Nat×FI×Int×Int):Option vU:=
 if(k==0)=true then if decide (w (s.2.2.2+1)>12)=true then some (.inl (12,0,⟨#[]⟩,s.1,s.2.1,s.2.2.1,w (s.2.2.2+1)))else(c_Decimal (w (s.2.2.2+1))).bind fun z182=>if 1+z182.size≤maxLen then(c_MExpr (3,s.1,s.2.1,s.2.2.1,w (s.2.2.2+1))).bind fun z188=>some (.inr (.inr (.inl (1,0,⟨#[118]⟩++z182,z188))))else none else if(k==1)=true then(c_Next (7,s)).bind fun z194=>(c_Word z194.1).bind fun z196=>(c_MExpr (3,z194.2)).bind fun z202=>some (.inr (.inr (.inl (2,0,z196,z202))))else if(k==2)=true then(c_MExpr (2,s)).bind fun z208=>(c_MBlock (w (dp-1),z208.2.2.2.2.2)).bind fun z214=>(c_MBlock (w (dp-1),z214.2.2.2.2.2)).bind fun z220=>some (.inr (.inr (.inr (.inr (3,0,⟨#[]⟩,z208.1,z208.2.1,z208.2.2.1,z208.2.2.2.1,z208.2.2.2.2.1,z214.1,z214.2.1,z214.2.2.1,z214.2.2.2.1,z214.2.2.2.2.1,z220)))))else if(k==3)=true then(c_Next (100,s)).bind fun z226=>(c_MBlock (w (dp-1),z226.2)).bind fun z232=>some (.inr (.inr (.inl (4,w (1+z226.1),⟨#[]⟩,z232))))else if(k==4)=true then(c_Literal s).bind fun z237=>(c_one (5,z237.1,z237.2.1,z237.2.2.1,z237.2.2.2.1,z237.2.2.2.2.1)).bind fun z244=>some (.inr (.inl (z244.1,0,⟨#[]⟩,1,fun j=>[i64 z244.2.1,i64 z244.2.2.1,st z244.2.2.2.1,V.ro 4 z244.2.2.2.2.1 z244.2.2.2.2.2],z237.2.2.2.2.2)))else if(k==5)=true then(c_MExpr (3,s)).bind fun z250=>(c_Literal z250.2.2.2.2.2).bind fun z255=>some (.inr (.inr (.inr (.inl (6,0,⟨#[]⟩,z250.1,z250.2.1,z250.2.2.1,z250.2.2.2.1,z250.2.2.2.2.1,z255)))))else if(k==6)=true then(c_MExpr (4,s)).bind fun z261=>(c_one (7,z261.1,z261.2.1,z261.2.2.1,z261.2.2.2.1,z261.2.2.2.2.1)).bind fun z268=>some (.inr (.inl (z268.1,0,⟨#[]⟩,1,fun j=>[i64 z268.2.1,i64 z268.2.2.1,st z268.2.2.2.1,V.ro 4 z268.2.2.2.2.1 z268.2.2.2.2.2],z261.2.2.2.2.2)))else if(k==7)=true then(c_MExpr (3,s)).bind fun z274=>(c_one (8,z274.1,z274.2.1,z274.2.2.1,z274.2.2.2.1,z274.2.2.2.2.1)).bind fun z281=>some (.inr (.inl (z281.1,0,⟨#[]⟩,1,fun j=>[i64 z281.2.1,i64 z281.2.2.1,st z281.2.2.2.1,V.ro 4 z281.2.2.2.2.1 z281.2.2.2.2.2],z274.2.2.2.2.2)))else if(k==8)=true then(c_Next (8,s)).bind fun z287=>(c_Literal z287.2).bind fun z292=>some (.inr (.inr (.inl (9,z287.1,⟨#[]⟩,z292))))else if(k==9)=true then(c_Next (8,s)).bind fun z298=>(c_Literal z298.2).bind fun z303=>some (.inr (.inr (.inl (10,z298.1,⟨#[]⟩,z303))))else if(k==10)=true then(c_Literal s).bind fun z308=>(c_one (11,z308.1,z308.2.1,z308.2.2.1,z308.2.2.2.1,z308.2.2.2.2.1)).bind fun z315=>some (.inr (.inl (z315.1,0,⟨#[]⟩,1,fun j=>[i64 z315.2.1,i64 z315.2.2.1,st z315.2.2.2.1,V.ro 4 z315.2.2.2.2.1 z315.2.2.2.2.2],z308.2.2.2.2.2)))else if(k==11)=true then(c_Next (100,s)).bind fun z321=>some (.inl (12,z321.1,⟨#[]⟩,z321.2))else(c_Next (1000,s)).bind fun z327=>some (.inl (13,z327.1,⟨#[]⟩,z327.2))
def asg(c_Next:bG→Option aZ)(c_Word:ag1→Option ah9)(c_MExpr:rQ→Option oC)(s:Nat×FI×Int×Int):Option vU:=(c_Next (7,s)).bind fun z=>(c_Word z.1).bind fun v=>(c_MExpr (3,z.2)).bind fun e=>some (.inr (.inr (.inl (2,0,v,e))))
theorem ib4(c_Next c_Decimal c_Word c_MExpr c_Literal c_one c_MBlock)(x:cr6):sE c_Next c_Decimal c_Word c_MExpr c_Literal c_one c_MBlock x some=(c_Next (13,x.2)).bind fun z=>if decide (x.1≤0)=true then(if(z.1==2)=true then asg c_Next c_Word c_MExpr z.2 else if(z.1==3)=true then asg c_Next c_Word c_MExpr z.2 else dst c_Next c_Decimal c_Word c_MExpr c_Literal c_one c_MBlock x.1 z.1 z.2)else dst c_Next c_Decimal c_Word c_MExpr c_Literal c_one c_MBlock x.1 z.1 z.2:=rfl
theorem gs1(d:Nat):200≤NS d:=by cases d<;>simp only[NS]<;>omega
theorem gr9(d:Nat):200≤SS d:=by cases d<;>simp only[SS]<;>omega
section
variable {q:Nat} {ln:Nat} {lf:Nat→Int}
theorem cx5(hr:uI ln lf)(d:Nat)(hd:d≤4)(hq:10<q)(a b:Nat)(ha:a+100≤1000000):Rs (az2 q ((d:Int),ln,lf,(a:Int),(b:Int))) (fun z=>∃(t:Tr) (y:n4) (a':Nat),z=(y.1,y.2.1,y.2.2.1,y.2.2.2.1,y.2.2.2.2,ln,lf,(a':Int),(b:Int))∧Mk d t∧RepN t y∧a≤a'∧a'≤a+78):=by
 have hp:2^d≤2^4:=Nat.pow_le_pow_right (by decide) hd
 refine(gj1 hr (b:Int) q d (by omega) (by omega) a (by omega)).mono fun z hz=>?_
 obtain⟨t,y,a',h1,h2,h3,h4,h5⟩:=hz
 exact⟨t,y,a',h1,h2,h3,h4,by omega⟩
theorem ec9(hr:uI ln lf)(a b:Nat)(ha:a+10≤1000000):Rs (iI q (ln,lf,(a:Int),(b:Int))) (fun z=>∃(n:Int) (s:ByteArray) (y:n4) (a':Nat),z=(y.1,y.2.1,y.2.2.1,y.2.2.2.1,y.2.2.2.2,ln,lf,(a':Int),(b:Int))∧(∃x l e,Pr (.node 15 n s []) x l e∧e≤8)∧RepN (.node 15 n s []) y∧a≤a'∧a'≤a+2):=by
 refine(gk4 q hr a (by omega) (by omega) (b:Int) 0).mono fun z hz=>?_
 obtain⟨t,y,a',h1,⟨n,s,rfl,g0,g1,g2⟩,h3,h4,h5⟩:=hz
 obtain⟨x,l,e,hP,he⟩:=(Mk.int 0 n s g0 g1 g2).pr
 exact⟨n,s,y,a',h1,⟨x,l,e,hP,by omega⟩,h3,h4,h5⟩
theorem da9{d:Nat}{t:Tr}(h:Mk d t)(hd:d≤4):szT t≤125:=by
 have hp:2^d≤2^4:=Nat.pow_le_pow_right (by decide) hd
 have:=h.size
 omega
theorem cx7{d:Nat}{t:Tr}(h:Mk d t)(hd:d≤4):∃x l e,Pr t x l e∧e≤8:=by
 obtain⟨x,l,e,h1,h2⟩:=h.pr
 exact⟨x,l,e,h1,by omega⟩
theorem cq8(n:Int)(s:ByteArray):szT (.node 15 n s [])=1:=by simp[szT,szL]
theorem gs8(hr:uI ln lf)(d:Nat)(hq:10<q)(a b:Nat)(ha:a+150≤1000000):Rs (asg (Next q) (ba9 q) (az2 q) (ln,lf,(a:Int),(b:Int))) (fun z=>MS ln lf (PS1 d b) a b 150 (sM z)):=by
 unfold asg
 refine Rs.bind (w7 q hr a (by omega) (b:Int) 7 (by decide)) fun z hz=>?_
 obtain⟨j,rfl,g0,g1⟩:=hz
 refine Rs.bind (dl1 q g0) fun s hs=>?_
 refine Rs.bind (cx5 hr 3 (by decide) hq (a+1) b (by omega)) fun z hz=>Rs.some ?_
 obtain⟨t,y,a',rfl,h1,h2,h3,h4⟩:=hz
 have hsz:=da9 h1 (by decide)
 have hS:=gr9 d
 refine⟨.node 2 0 s [t],_,a',b,rfl,⟨by simp only[szT,szL];omega,fun i=>?_⟩,RepN.k1 h2,by omega,by omega,by omega,by omega⟩
 obtain⟨x,l,e,hP,he⟩:=cx7 h1 (by decide)
 rw[eI]
 exact⟨_,_,e,.set i s t x l e (ao5 s hs) hP,by omega⟩
theorem fj1(kd:Int)(y:n4):Rs (one q (kd,y)) (fun z=>z=(kd,y)):=by
 unfold one cz8
 exact Rs.some rfl
theorem hu0(hr:uI ln lf)(d:Nat)(hd:d≤2)(hq:12≤q)
 (ih:∀d',d'<d→∀a b:Nat,a+NB d'≤1000000→b+NB d'≤1000000→Rs ((ag4 q).1 ((d':Int),ln,lf,(a:Int),(b:Int))) (MS ln lf (PB1 d' b) a b (NB d')))
 (k:Int) (h0:0≤k) (hk0:d=0→k≠2∧k≠3) (a b:Nat) (n:Nat) (hn:n+5=NS d) (ha:a+n≤1000000) (hb:b+n≤1000000):
 Rs (dst (Next q) (f9 q) (ba9 q) (az2 q) (iI q) (one q) (ag4 q).1 (d:Int) k (ln,lf,(a:Int),(b:Int))) (fun z=>MS ln lf (PS1 d b) a b n (sM z)):=by
 have hN:=gs1 d
 have hS:=gr9 d
 have hw:d≠0→w ((d:Int)-1)=((d-1:Nat):Int):=fun h=>by rw[xR (by omega) (by omega)];omega
 unfold dst
 dsimp only
 refine Rs.ite (fun _=>?_) fun k0=>Rs.ite (fun _=>?_) fun k1=>Rs.ite (fun k2=>?_) fun k2=>Rs.ite (fun k3=>?_) fun k3=>Rs.ite (fun _=>?_) fun k4=>Rs.ite (fun _=>?_) fun k5=>Rs.ite (fun _=>?_) fun k6=>Rs.ite (fun _=>?_) fun k7=>Rs.ite (fun _=>?_) fun k8=>Rs.ite (fun _=>?_) fun k9=>Rs.ite (fun _=>?_) fun k10=>Rs.ite (fun _=>?_) fun k11=>?_
 ·rw[s9 (i:=b) (by omega)]
  refine Rs.ite (fun h=>Rs.some ?_) fun h=>?_
  ·have h:((b+1:Nat):Int)>12:=of_decide_eq_true h
   refine⟨.node 12 0 ⟨#[]⟩ [],(12,0,⟨#[]⟩,0,fun _=>[]),a,b+1,rfl,⟨by simp only[szT,szL];omega,fun i=>?_⟩,RepN.leaf,by omega,by omega,by omega,by omega⟩
   rw[gi0 (by omega) (by omega)]
   exact⟨_,_,0,.nmb i 12 yV 0 (.inl ⟨rfl,rfl,by decide⟩) (by decide),by omega⟩
  ·have h:¬((b+1:Nat):Int)>12:=fun g=>h (decide_eq_true g)
   have hs:(itS ((b+1:Nat):Int)).size≤10:=jC (by omega) (by omega)
   refine Rs.bind (aU (n:=((b+1:Nat):Int)) (by omega) (by omega) hq) fun z e=>?_
   subst e
   refine Rs.pos (by unfold maxLen;omega) ?_
   refine Rs.bind (cx5 hr 3 (by decide) (by omega) a (b+1) (by omega)) fun z hz=>Rs.some ?_
   obtain⟨t,y,a',rfl,h1,h2,h3,h4⟩:=hz
   have hsz:=da9 h1 (by decide)
   refine⟨.node 1 0 (vN (b+1)) [t],_,a',b+1,rfl,⟨by simp only[szT,szL];omega,fun i=>?_⟩,RepN.k1 h2,by omega,by omega,by omega,by omega⟩
   obtain⟨x,l,e,hP,he⟩:=cx7 h1 (by decide)
   rw[ff9 (by omega)]
   exact⟨_,_,e,.let i (vN (b+1)) t x l e (hq4 (b+1) (by omega) (by omega)) hP,by omega⟩
 ·refine(gs8 hr d (by omega) a b (by omega)).mono fun z hz=>?_
  obtain⟨t,y,a',b',h1,h2,h3,h4,h5,h6,h7⟩:=hz
  exact⟨t,y,a',b',h1,h2,h3,h4,by omega,h6,by omega⟩
 ·have hd0:d≠0:=fun e=>(hk0 e).1 (by simpa using k2)
  rw[hw hd0]
  obtain⟨d,rfl⟩:∃e,d=e+1:=⟨d-1,by omega⟩
  have ih:=ih d (by omega)
  have hn2:n+5=200+2*NB d:=hn
  have hS2:SS (d+1)=200+2*(4*(SS d+1)+4):=rfl
  refine Rs.bind (cx5 hr 2 (by decide) (by omega) a b (by omega)) fun z hz=>?_
  obtain⟨t,y,a1,rfl,h1,h2,h3,h4⟩:=hz
  refine Rs.bind (ih a1 b (by omega) (by omega)) fun z hz=>?_
  obtain⟨t1,y1,a2,b2,rfl,⟨ts,rfl,s1,p1⟩,r1,h5,h6,h7,h8⟩:=hz
  refine Rs.bind (ih a2 b2 (by omega) (by omega)) fun z hz=>Rs.some ?_
  obtain⟨t2,y2,a3,b3,rfl,⟨us,rfl,s2,p2⟩,r2,h9,h10,h11,h12⟩:=hz
  have hsz:=da9 h1 (by decide)
  refine⟨.node 3 0 ⟨#[]⟩ [t,.node 14 0 ⟨#[]⟩ ts,.node 14 0 ⟨#[]⟩ us],_,a3,b3,rfl,⟨by simp only[szT,szL];omega,fun i=>?_⟩,RepN.k3 h2 r1 r2,by omega,by omega,by omega,by omega⟩
  obtain⟨x,l,e,hP,he⟩:=cx7 h1 (by decide)
  obtain⟨x1,l1,e1,g1,f1⟩:=p1 (i+1)
  obtain⟨x2,l2,e2,g2,f2⟩:=p2 (i+1)
  rw[←cc4 h7 h11]
  cases us with
  |nil=>
   have hv:nmL b2 b3=[]:=by
    generalize nmL b2 b3=v at g2
    cases g2
    rfl
   rw[hv,List.append_nil]
   exact⟨_,_,_,.cond i t ts x l e x1 l1 e1 _ hP g1,by omega⟩
  |cons u us=>exact⟨_,_,_,.both i t ts u us x l e x1 l1 e1 _ x2 l2 e2 _ hP g1 g2,by omega⟩
 ·have hd0:d≠0:=fun e=>(hk0 e).2 (by simpa using k3)
  rw[hw hd0]
  obtain⟨d,rfl⟩:∃e,d=e+1:=⟨d-1,by omega⟩
  have ih:=ih d (by omega)
  have hn2:n+5=200+2*NB d:=hn
  have hS2:SS (d+1)=200+2*(4*(SS d+1)+4):=rfl
  refine Rs.bind (w7 q hr a (by omega) (b:Int) 100 (by decide)) fun z hz=>?_
  obtain⟨j,rfl,g0,g1⟩:=hz
  refine Rs.bind (ih (a+1) b (by omega) (by omega)) fun z hz=>Rs.some ?_
  obtain⟨t1,y1,a2,b2,rfl,⟨ts,rfl,s1,p1⟩,r1,h5,h6,h7,h8⟩:=hz
  have hj:w (1+j)=1+j:=xR (by omega) (by omega)
  refine⟨.node 4 (w (1+j)) ⟨#[]⟩ [.node 14 0 ⟨#[]⟩ ts],_,a2,b2,rfl,⟨by simp only[szT,szL];omega,fun i=>?_⟩,RepN.k1 r1,by omega,by omega,by omega,by omega⟩
  obtain⟨x1,l1,e1,g1',f1⟩:=p1 (i+1)
  exact⟨_,_,_,.rep i _ ts x1 l1 e1 _ (by omega) (by omega) g1',by omega⟩
 ·refine Rs.bind (ec9 hr a b (by omega)) fun z hz=>?_
  obtain⟨n1,s,y,a',rfl,⟨x,l,e,hP,he⟩,h2,h3,h4⟩:=hz
  refine Rs.bind (fj1 5 y) fun z hz=>Rs.some ?_
  subst hz
  have hsz:=cq8 n1 s
  refine⟨.node 5 0 ⟨#[]⟩ [.node 15 n1 s []],(5,0,⟨#[]⟩,1,_),a',b,rfl,⟨by simp only[szT,szL];omega,fun i=>?_⟩,RepN.one h2,by omega,by omega,by omega,by omega⟩
  rw[eI]
  exact⟨_,_,e,.amt i 5 be2 n1 s x l e (.inl ⟨rfl,rfl⟩) hP,by omega⟩
 ·refine Rs.bind (cx5 hr 3 (by decide) (by omega) a b (by omega)) fun z hz=>?_
  obtain⟨t,y,a1,rfl,h1,h2,h3,h4⟩:=hz
  refine Rs.bind (ec9 hr a1 b (by omega)) fun z hz=>Rs.some ?_
  obtain⟨n1,s,y2,a',rfl,⟨x,l,e,hP,he⟩,h5,h6,h7⟩:=hz
  have hsz:=da9 h1 (by decide)
  have hsz2:=cq8 n1 s
  refine⟨.node 6 0 ⟨#[]⟩ [t,.node 15 n1 s []],_,a',b,rfl,⟨by simp only[szT,szL];omega,fun i=>?_⟩,RepN.k2 h2 h5,by omega,by omega,by omega,by omega⟩
  obtain⟨x2,l2,e2,hP2,he2⟩:=cx7 h1 (by decide)
  rw[eI]
  exact⟨_,_,e2,.await i t x2 l2 e2 n1 s x l e hP2 hP,by omega⟩
 ·refine Rs.bind (cx5 hr 4 (by decide) (by omega) a b (by omega)) fun z hz=>?_
  obtain⟨t,y,a',rfl,h1,h2,h3,h4⟩:=hz
  refine Rs.bind (fj1 7 y) fun z hz=>Rs.some ?_
  subst hz
  have hsz:=da9 h1 (by decide)
  refine⟨.node 7 0 ⟨#[]⟩ [t],(7,0,⟨#[]⟩,1,_),a',b,rfl,⟨by simp only[szT,szL];omega,fun i=>?_⟩,RepN.one h2,by omega,by omega,by omega,by omega⟩
  obtain⟨x,l,e,hP,he⟩:=cx7 h1 (by decide)
  rw[eI]
  exact⟨_,_,e,.one i 7 qO t x l e (.inl ⟨rfl,rfl⟩) hP,by omega⟩
 ·refine Rs.bind (cx5 hr 3 (by decide) (by omega) a b (by omega)) fun z hz=>?_
  obtain⟨t,y,a',rfl,h1,h2,h3,h4⟩:=hz
  refine Rs.bind (fj1 8 y) fun z hz=>Rs.some ?_
  subst hz
  have hsz:=da9 h1 (by decide)
  refine⟨.node 8 0 ⟨#[]⟩ [t],(8,0,⟨#[]⟩,1,_),a',b,rfl,⟨by simp only[szT,szL];omega,fun i=>?_⟩,RepN.one h2,by omega,by omega,by omega,by omega⟩
  obtain⟨x,l,e,hP,he⟩:=cx7 h1 (by decide)
  rw[eI]
  exact⟨_,_,e,.one i 8 rI t x l e (.inr ⟨rfl,rfl⟩) hP,by omega⟩
 ·refine Rs.bind (w7 q hr a (by omega) (b:Int) 8 (by decide)) fun z hz=>?_
  obtain⟨j,rfl,g0,g1⟩:=hz
  refine Rs.bind (ec9 hr (a+1) b (by omega)) fun z hz=>Rs.some ?_
  obtain⟨n1,s,y,a',rfl,⟨x,l,e,hP,he⟩,h2,h3,h4⟩:=hz
  have hsz:=cq8 n1 s
  refine⟨.node 9 j ⟨#[]⟩ [.node 15 n1 s []],_,a',b,rfl,⟨by simp only[szT,szL];omega,fun i=>?_⟩,RepN.k1 h2,by omega,by omega,by omega,by omega⟩
  rw[eI]
  exact⟨_,_,e,.use i j n1 s x l e g0 (by omega) hP,by omega⟩
 ·refine Rs.bind (w7 q hr a (by omega) (b:Int) 8 (by decide)) fun z hz=>?_
  obtain⟨j,rfl,g0,g1⟩:=hz
  refine Rs.bind (ec9 hr (a+1) b (by omega)) fun z hz=>Rs.some ?_
  obtain⟨n1,s,y,a',rfl,⟨x,l,e,hP,he⟩,h2,h3,h4⟩:=hz
  have hsz:=cq8 n1 s
  refine⟨.node 10 j ⟨#[]⟩ [.node 15 n1 s []],_,a',b,rfl,⟨by simp only[szT,szL];omega,fun i=>?_⟩,RepN.k1 h2,by omega,by omega,by omega,by omega⟩
  rw[eI]
  exact⟨_,_,e,.send i j n1 s x l e g0 (by omega) hP,by omega⟩
 ·refine Rs.bind (ec9 hr a b (by omega)) fun z hz=>?_
  obtain⟨n1,s,y,a',rfl,⟨x,l,e,hP,he⟩,h2,h3,h4⟩:=hz
  refine Rs.bind (fj1 11 y) fun z hz=>Rs.some ?_
  subst hz
  have hsz:=cq8 n1 s
  refine⟨.node 11 0 ⟨#[]⟩ [.node 15 n1 s []],(11,0,⟨#[]⟩,1,_),a',b,rfl,⟨by simp only[szT,szL];omega,fun i=>?_⟩,RepN.one h2,by omega,by omega,by omega,by omega⟩
  rw[eI]
  exact⟨_,_,e,.amt i 11 yW n1 s x l e (.inr ⟨rfl,rfl⟩) hP,by omega⟩
 ·refine Rs.bind (w7 q hr a (by omega) (b:Int) 100 (by decide)) fun z hz=>Rs.some ?_
  obtain⟨j,rfl,g0,g1⟩:=hz
  refine⟨.node 12 j ⟨#[]⟩ [],(12,j,⟨#[]⟩,0,fun _=>[]),a+1,b,rfl,⟨by simp only[szT,szL];omega,fun i=>?_⟩,RepN.leaf,by omega,by omega,by omega,by omega⟩
  rw[eI]
  exact⟨_,_,0,.nmb i 12 yV j (.inl ⟨rfl,rfl,by omega⟩) g0,by omega⟩
 ·refine Rs.bind (w7 q hr a (by omega) (b:Int) 1000 (by decide)) fun z hz=>Rs.some ?_
  obtain⟨j,rfl,g0,g1⟩:=hz
  refine⟨.node 13 j ⟨#[]⟩ [],(13,j,⟨#[]⟩,0,fun _=>[]),a+1,b,rfl,⟨by simp only[szT,szL];omega,fun i=>?_⟩,RepN.leaf,by omega,by omega,by omega,by omega⟩
  rw[eI]
  exact⟨_,_,0,.nmb i 13 uE j (.inr ⟨rfl,rfl,by omega⟩) g0,by omega⟩
end
end Go.Proofs.YtjfkkokeegpeiaaGreatDoor
/- What the maker makes: blocks. -/
namespace Go.Proofs.YtjfkkokeegpeiaaGreatDoor
open Go Go.Am Go.Proofs.Lx
set_option maxRecDepth 100000
theorem ds2{i:Nat}{t:Tr}{x':List UInt8}{l':List Tkn}{d':Nat}{v':List ByteArray}(g:PrS i (.inl t) x' l' d' v'):∀(ts:List Tr) (x:List UInt8) (l:List Tkn) (d:Nat) (v:List ByteArray),PrS i (.inr ts) x l d v→∃x'' l'' d'',PrS i (.inr (ts++[t])) x'' l'' d'' (v++v')∧d''≤max d d'
 | [],x,l,d,v,h=>by
  cases h
  obtain⟨x2,l2,d2,h2,h3⟩:∃x2 l2 d2,PrS i (.inr [t]) x2 l2 d2 (v'++[])∧d2≤max 0 d':=⟨_,_,_,.cons i t [] x' l' d' v' [] [] 0 [] g (.nil i),by omega⟩
  rw[List.append_nil]at h2
  exact⟨x2,l2,d2,h2,h3⟩
 |u::ts,x,l,d,v,h=>by
  cases h with
  |cons _ _ _ x1 l1 d1 v1 xs ls ds vs h1 h2=>
   obtain⟨x2,l2,d2,h3,h4⟩:=ds2 g ts xs ls ds vs h2
   rw[List.append_assoc]
   exact⟨_,_,_,.cons i u (ts++[t]) x1 l1 d1 v1 x2 l2 d2 (vs++v') h1 h3,by omega⟩
theorem fh9:∀(l:List Tr) (f:FL) (i:Nat),(∀j t,l[j]? =some t→∃y:n4,f (i+j)=[i64 y.1,i64 y.2.1,st y.2.2.1,.ro 4 y.2.2.2.1 y.2.2.2.2]∧RepN t y)→rW l f i
 | [],f,i,_=>by simp[rW]
 |t::l,f,i,h=>by
  simp only[rW]
  refine⟨h 0 t rfl,fh9 l f (i+1) fun j u hj=>?_⟩
  have:=h (j+1) u (by simpa using hj)
  rwa [show i+1+j=i+(j+1)by omega]
theorem fi8:∀(l m:List Tr),szL (l++m)=szL l+szL m
 | [],m=>by simp[szL]
 |t::l,m=>by rw[List.cons_append,szL,fi8 l m,szL];omega
section
variable {q:Nat} {ln:Nat} {lf:Nat→Int}
structure BI(d b0:Nat)(ts:List Tr)(b:Nat)(kf nf:FI)(sf:FS)(mf:FN)(ff:FM):Prop where
 rep:∀j t,ts[j]? =some t→RepN t (kf j,nf j,sf j,mf j,ff j)
 sz:szL ts≤ts.length*(SS d+1)
 pr:∀i,∃x l e,PrS i (.inr ts) x l e (nmL b0 b)∧e≤8+d
theorem BI.snoc{d b0:Nat}{ts:List Tr}{b b':Nat}{kf nf:FI}{sf:FS}{mf:FN}{ff:FM}(h:BI d b0 ts b kf nf sf mf ff)(h0:b0≤b)(h1:b≤b'){t:Tr}{y:n4}(hy:RepN t y)(hp:PS1 d b t b'){kf' nf':FI}{sf':FS}{mf':FN}{ff':FM}
 (e1:∀j,(kf' j,nf' j,sf' j,mf' j,ff' j)=if j<ts.length then(kf j,nf j,sf j,mf j,ff j)else y):BI d b0 (ts++[t]) b' kf' nf' sf' mf' ff':=by
 obtain⟨s1,p1⟩:=hp
 refine⟨fun j u hj=>?_,?_,fun i=>?_⟩
 ·rw[e1]
  by_cases hjl:j<ts.length
  ·rw[if_pos hjl]
   rw[List.getElem?_append_left hjl]at hj
   exact h.rep j u hj
  ·rw[if_neg hjl]
   rw[List.getElem?_append_right (by omega)]at hj
   have:j-ts.length=0:=by
    have:=(List.getElem?_eq_some_iff.1 hj).1
    simp at this;omega
   rw[this]at hj
   simp at hj
   subst hj
   exact hy
 ·rw[fi8,List.length_append]
  have:=h.sz
  simp only[szL,List.length_cons,List.length_nil]
  rw[Nat.add_mul]
  omega
 ·obtain⟨x,l,e,g1,g2⟩:=h.pr i
  obtain⟨x',l',e',g3,g4⟩:=p1 i
  obtain⟨x2,l2,e2,g5,g6⟩:=ds2 g3 ts x l e _ g1
  rw[←cc4 h0 h1]
  exact⟨x2,l2,e2,g5,by omega⟩
theorem fk3(d:Nat)(K a0 b0:Nat)(hms:∀a b:Nat,a+NS d≤1000000→b+NS d≤1000000→Rs ((ag4 q).2 ((d:Int),ln,lf,(a:Int),(b:Int))) (MS ln lf (PS1 d b) a b (NS d)))(hK:K≤4)(ha0:a0+4*NS d≤1000000)(hb0:b0+4*NS d≤1000000)(x0:dE)(hx0:x0.1=(d:Int)):
 ∀(q2:Nat) (ts:List Tr) (a b:Nat) (kf nf:FI) (sf:FS) (mf:FN) (ff:FM),K-ts.length<q2→ts.length≤K→a0≤a→a≤a0+ts.length*NS d→b0≤b→b≤b0+ts.length*NS d→BI d b0 ts b kf nf sf mf ff→
 Rs (gF (Next q) (ag4 q).2 q2 x0 (.inr ((K:Int),ln,lf,(a:Int),(b:Int),kf,nf,sf,mf,ff,(ts.length:Int),ts.length)))
  (fun z=>∃(ts:List Tr) (a b:Nat) (kf nf:FI) (sf:FS) (mf:FN) (ff:FM),z= .inr (ln,lf,(a:Int),(b:Int),ts.length,kf,nf,sf,mf,ff)∧ts.length≤K∧a0≤a∧a≤a0+4*NS d∧b0≤b∧b≤b0+4*NS d∧BI d b0 ts b kf nf sf mf ff)
 |0,ts,a,b,kf,nf,sf,mf,ff,hq,_,_,_,_,_,_=>by omega
 |q2+1,ts,a,b,kf,nf,sf,mf,ff,hq,hk,h1,h2,h3,h4,hB=>by
  have hle:ts.length*NS d≤K*NS d:=Nat.mul_le_mul_right _ hk
  have hle2:K*NS d≤4*NS d:=Nat.mul_le_mul_right _ hK
  unfold gF
  refine Rs.step3 fun Q hQ=>?_
  dsimp only[Sum.elim]
  unfold iA
  dsimp only
  by_cases hlt:ts.length<K
  ·have hle3:(ts.length+1)*NS d≤4*NS d:=Nat.mul_le_mul_right _ (by omega)
   rw[Nat.add_mul,Nat.one_mul]at hle3
   refine Rs.pos (decide_eq_true (by omega)) ?_
   rw[hx0]
   refine Rs.bind (hms a b (by omega) (by omega)) fun z hz=>?_
   obtain⟨t,y,a',b',rfl,hp,hy,g1,g2,g3,g4⟩:=hz
   refine Rs.pos ⟨by unfold d5;omega,by unfold maxLen;omega,Nat.le_refl _⟩ (Rs.some (hQ _ ?_))
   rw[s9 (by omega)]
   have:=fk3 d K a0 b0 hms hK ha0 hb0 x0 hx0 q2 (ts++[t]) a' b' (fun j=>if j<ts.length then kf j else y.1) (fun j=>if j<ts.length then nf j else y.2.1) (fun j=>if j<ts.length then sf j else y.2.2.1) (fun j=>if j<ts.length then mf j else y.2.2.2.1) (fun j i=>if j<ts.length then ff j i else y.2.2.2.2 i) (by rw[List.length_append];show K-(ts.length+1)<q2;omega) (by rw[List.length_append];exact hlt) (by omega) (by rw[List.length_append];show a'≤a0+(ts.length+1)*NS d;rw[Nat.add_mul,Nat.one_mul];omega) (by omega) (by rw[List.length_append];show b'≤b0+(ts.length+1)*NS d;rw[Nat.add_mul,Nat.one_mul];omega) (hB.snoc h3 g3 hy hp fun j=>by
    by_cases hj:j<ts.length
    ·simp only[if_pos hj]
    ·simp only[if_neg hj])
   rw[List.length_append]at this
   exact this
  ·exact Rs.neg (fun h=>by have:=of_decide_eq_true h;omega) (Rs.some ⟨ts,a,b,kf,nf,sf,mf,ff,rfl,hk,h1,by omega,h3,by omega,hB⟩)
end
theorem if9{ln:Nat}{lf:Nat→Int}(hr:uI ln lf):∀(d:Nat),d≤2→∀q,2*d+16≤q→∀a b:Nat,a+NB d≤1000000→b+NB d≤1000000→Rs ((ag4 q).1 ((d:Int),ln,lf,(a:Int),(b:Int))) (MS ln lf (PB1 d b) a b (NB d)):=by
 intro d
 induction d using Nat.strongRecOn with
 |_ d ih=>
  intro hd q hq a b ha hb
  obtain⟨q,rfl⟩:∃q',q=q'+1+1:=⟨q-2,by omega⟩
  have hNB:NB d=1+4*NS d:=rfl
  have hNS:=gs1 d
  have hms:∀a b:Nat,a+NS d≤1000000→b+NS d≤1000000→Rs ((ag4 (q+1)).2 ((d:Int),ln,lf,(a:Int),(b:Int))) (MS ln lf (PS1 d b) a b (NS d)):=by
   intro a b ha hb
   show Rs ((sE (Next q) (f9 q) (ba9 q) (az2 q) (iI q) (one q) (ag4 q).1 ((d:Int),ln,lf,(a:Int),(b:Int)) some).map sM) _
   refine Rs.map (P:=fun z=>MS ln lf (PS1 d b) a b (NS d) (sM z)) ?_ fun z h=>h
   rw[ib4]
   refine Rs.bind (w7 q hr a (by omega) (b:Int) 13 (by decide)) fun z hz=>?_
   obtain⟨k,rfl,g0,g1⟩:=hz
   have up:∀z,MS ln lf (PS1 d b) (a+1) b (NS d-5) z→MS ln lf (PS1 d b) a b (NS d) z:=by
    rintro z ⟨t,y,a',b',h1,h2,h3,h4,h5,h6,h7⟩
    exact⟨t,y,a',b',h1,h2,h3,by omega,by omega,h6,by omega⟩
   have hasg:Rs (asg (Next q) (ba9 q) (az2 q) (ln,lf,((a+1:Nat):Int),(b:Int))) (fun z=>MS ln lf (PS1 d b) a b (NS d) (sM z)):=by
    refine(gs8 hr d (by omega) (a+1) b (by omega)).mono fun z hz=>?_
    obtain⟨t,y,a',b',h1,h2,h3,h4,h5,h6,h7⟩:=hz
    exact⟨t,y,a',b',h1,h2,h3,by omega,by omega,h6,by omega⟩
   have hdst:(d=0→k≠2∧k≠3)→Rs (dst (Next q) (f9 q) (ba9 q) (az2 q) (iI q) (one q) (ag4 q).1 (d:Int) k (ln,lf,((a+1:Nat):Int),(b:Int))) (fun z=>MS ln lf (PS1 d b) a b (NS d) (sM z)):=by
    intro hk
    exact(hu0 hr d hd (by omega) (fun d' h=>ih d' h (by omega) q (by omega)) k g0 hk (a+1) b (NS d-5) (by omega) (by omega) (by omega)).mono fun z hz=>up _ hz
   refine Rs.ite (fun h0=>?_) fun h0=>hdst fun e=>absurd (decide_eq_true (show((d:Nat):Int)≤0 by omega)) h0
   refine Rs.ite (fun _=>hasg) fun h2=>Rs.ite (fun _=>hasg) fun h3=>hdst fun _=>⟨fun e=>h2 (by rw[e];rfl),fun e=>h3 (by rw[e];rfl)⟩
  show Rs ((nB (Next (q+1)) (ag4 (q+1)).2 (gF (Next (q+1)) (ag4 (q+1)).2 (q+1) ((d:Int),ln,lf,(a:Int),(b:Int))) ((d:Int),ln,lf,(a:Int),(b:Int)) some).map av6) _
  refine Rs.map (P:=fun z=>MS ln lf (PB1 d b) a b (NB d) (av6 z)) ?_ fun z h=>h
  unfold nB
  refine Rs.bind (w7 (q+1) hr a (by omega) (b:Int) 5 (by decide)) fun z hz=>?_
  obtain⟨K,rfl,g0,g1⟩:=hz
  obtain⟨K,rfl⟩:∃k:Nat,K=(k:Int):=⟨K.toNat,by omega⟩
  have hl:Rs (gF (Next (q+1)) (ag4 (q+1)).2 (q+1) ((d:Int),ln,lf,(a:Int),(b:Int)) (.inl ((K:Int),ln,lf,((a+1:Nat):Int),(b:Int)))) (fun z=>(z= .inl (ln,lf,((a+1:Nat):Int),(b:Int)))∨∃(ts:List Tr) (a' b':Nat) (kf nf:FI) (sf:FS) (mf:FN) (ff:FM),z= .inr (ln,lf,(a':Int),(b':Int),ts.length,kf,nf,sf,mf,ff)∧ts.length≤K∧a+1≤a'∧a'≤a+1+4*NS d∧b≤b'∧b'≤b+4*NS d∧BI d b ts b' kf nf sf mf ff):=by
   unfold gF
   refine Rs.step3 fun Q hQ=>?_
   dsimp only[Sum.elim]
   unfold gZ
   dsimp only
   by_cases hK:0<K
   ·refine Rs.pos (decide_eq_true (by omega)) ?_
    refine Rs.bind (hms (a+1) b (by omega) (by omega)) fun z hz=>Rs.some (hQ _ ?_)
    obtain⟨t,y,a',b',rfl,hp,hy,k1,k2,k3,k4⟩:=hz
    have hB0:BI d b [] b (fun _=>0) (fun _=>0) (fun _=>⟨#[]⟩) (fun _=>0) (fun _ _=>[]):=⟨fun j t h=>(by simp at h),by simp[szL],fun i=>⟨_,_,_,by rw[eI];exact .nil i,by omega⟩⟩
    have hB1:=hB0.snoc (Nat.le_refl _) k3 hy hp (kf':=fun _=>y.1) (nf':=fun _=>y.2.1) (sf':=fun _=>y.2.2.1) (mf':=fun _=>y.2.2.2.1) (ff':=fun _=>y.2.2.2.2) fun j=>by simp
    have:=fk3 d K (a+1) b hms (by omega) (by omega) (by omega) ((d:Int),ln,lf,(a:Int),(b:Int)) rfl q [t] a' b' _ _ _ _ _ (by show K-1<q;omega) (by show 1≤K;omega) k1 (by show a'≤a+1+1*NS d;omega) k3 (by show b'≤b+1*NS d;omega) hB1
    refine this.mono fun z hz=>.inr ?_
    exact hz
   ·exact Rs.neg (fun h=>hK (by have:=of_decide_eq_true h;omega)) (Rs.some (.inl rfl))
  refine Rs.bind hl fun z hz=>?_
  rcases hz with rfl| ⟨ts,a',b',kf,nf,sf,mf,ff,rfl,k0,k1,k2,k3,k4,hB⟩
  ·dsimp only[Sum.elim]
   refine Rs.some ⟨.node 14 0 ⟨#[]⟩ [],(14,0,⟨#[]⟩,0,fun _=>[]),a+1,b,rfl,⟨[],rfl,by simp[szL],fun i=>?_⟩,RepN.leaf,by omega,by omega,by omega,by omega⟩
   rw[eI]
   exact⟨_,_,_,.nil i,by omega⟩
  ·dsimp only[Sum.elim]
   refine Rs.some ⟨.node 14 0 ⟨#[]⟩ ts,(14,0,⟨#[]⟩,ts.length,fun j=>[i64 (kf j),i64 (nf j),st (sf j),.ro 4 (mf j) (ff j)]),a',b',rfl,⟨ts,rfl,?_,hB.pr⟩,?_,by omega,by omega,by omega,by omega⟩
   ·have:=hB.sz
    have h4:ts.length*(SS d+1)≤4*(SS d+1):=Nat.mul_le_mul_right _ (by omega)
    omega
   ·simp only[_root_.Go.Proofs.YtjfkkokeegpeiaaGreatDoor.RepN]
    exact⟨trivial,trivial,trivial,trivial,fh9 ts _ 0 fun j t hj=>⟨(kf j,nf j,sf j,mf j,ff j),by rw[Nat.zero_add],hB.rep j t hj⟩⟩
end Go.Proofs.YtjfkkokeegpeiaaGreatDoor
/- What the maker makes: procedures. -/
namespace Go.Proofs.YtjfkkokeegpeiaaGreatDoor
open Go Go.Am Go.Proofs.Lx
set_option maxRecDepth 100000
theorem ha8(q:Nat){ln:Nat}{lf:Nat→Int}(hr:uI ln lf):Rs (jK q (ln,lf,200)) (fun z=>uI z.1 z.2):=by
 unfold jK hu3 bt8
 refine Rs.map (P:=fun z=>uI (bm5 z).1 (bm5 z).2) ?_ fun z h=>h
 dsimp only
 refine Rs.pos ⟨by decide,by split<;>omega,by split<;>omega⟩ ?_
 refine Rs.ite (fun _=>Rs.some fun j hj=>absurd hj (Nat.not_lt_zero j)) fun h0=>?_
 have hle:Int.toNat (if(200:Int)< ((ln:Nat):Int)then 200 else((ln:Nat):Int))-0≤200∧Int.toNat (if(200:Int)< ((ln:Nat):Int)then 200 else((ln:Nat):Int))-0≤ln:=by split<;>omega
 refine Rs.pos ⟨by unfold d5;omega,by unfold maxLen;omega⟩ (Rs.some fun j hj=>?_)
 show-9223372036854775808≤lf (0+j)∧lf (0+j)≤9223372036854775807
 rw[Nat.zero_add]
 exact hr j (Nat.lt_of_lt_of_le hj hle.2)
structure PM(m:Nat)(ps:List Prm):Prop where
 len:ps.length=m
 ok:∀p∈ps,az7 p
 nm:ps.map Prm.x=nmL 0 m
theorem PM.nil:PM 0 []:=⟨rfl,(fun p h=>by cases h),(eI 0).symm⟩
theorem PM.snoc{m:Nat}{ps:List Prm}(h:PM m ps)(hm:m<12){u:ByteArray}(hu:u∈wY):PM (m+1) (ps++[⟨vN (m+1),u⟩]):=by
 refine⟨by rw[List.length_append,h.len];rfl,fun p hp=>?_,?_⟩
 ·rcases List.mem_append.1 hp with hp|hp
  ·exact h.ok p hp
  ·obtain rfl:=List.mem_singleton.1 hp
   exact⟨hq4 (m+1) (by omega) (by omega),en9 u hu⟩
 ·rw[List.map_append,h.nm,←cc4 (a:=0) (b:=m) (c:=m+1) (by omega) (by omega),ff9 hm]
  rfl
def PRow(ps:List Prm)(g:FL):Prop:=∀j p,ps[j]? =some p→g j=[st p.x,st p.u]
theorem PRow.snoc{ps:List Prm}{g:FL}(h:PRow ps g){p:Prm}{n:Nat}(hn:n=ps.length){g':FL}(e:∀j,g' j=if j<n then g j else[st p.x,st p.u]):PRow (ps++[p]) g':=by
 intro j r hj
 rw[e,hn]
 by_cases hjl:j<ps.length
 ·rw[if_pos hjl]
  rw[List.getElem?_append_left hjl]at hj
  exact h j r hj
 ·rw[if_neg hjl]
  rw[List.getElem?_append_right (by omega)]at hj
  have:j-ps.length=0:=by
   have:=(List.getElem?_eq_some_iff.1 hj).1
   simp at this;omega
  rw[this]at hj
  simp at hj
  subst hj
  rfl
theorem em9{ps:List Prm}{g:FL}(hP:PM ps.length ps)(hR:PRow ps g)(h12:ps.length<12){u:ByteArray}(hu:u∈wY):PM (ps.length+1) (ps++[⟨vN (ps.length+1),u⟩])∧PRow (ps++[⟨vN (ps.length+1),u⟩]) (ak1 false 1 ps.length g fun j=>ay4 false [[st (vN (ps.length+1)),st u]] (0+j)):=by
 refine⟨hP.snoc h12 hu,fun j r hj=>?_⟩
 show az3 ps.length g (fun j=>ay4 false [[st (vN (ps.length+1)),st u]] (0+j)) j=_
 unfold az3
 by_cases hjl:j<ps.length
 ·rw[if_pos hjl]
  rw[List.getElem?_append_left hjl]at hj
  exact hR j r hj
 ·rw[if_neg hjl]
  rw[List.getElem?_append_right (by omega)]at hj
  have e0:j-ps.length=0:=by
   have:=(List.getElem?_eq_some_iff.1 hj).1
   simp at this;omega
  rw[e0]at hj⊢
  simp at hj
  subst hj
  rfl
theorem dc4{u:ByteArray}(hu:u∈wY):PM 1 [⟨vN 1,u⟩]∧PRow [⟨vN 1,u⟩] (fun j=>ay4 false [[st (vN 1),st u]] (0+j)):=by
 refine⟨PM.nil.snoc (by decide) hu,fun j r hj=>?_⟩
 match j,hj with
 |0,hj=>simp at hj;subst hj;rfl
 |j+1,hj=>simp at hj
section
variable {q:Nat} {ln:Nat} {lf:Nat→Int} (cI:iJ→Option iM) (cB:aR→Option aQ)
theorem fh6(q:Nat)(hq:12≤q)(m:Nat)(hm:m≤10):Rs (f9 q ((m:Nat):Int)) (fun z=>(⟨#[118]⟩:ByteArray)++z=vN m∧z.size≤10):=by
 refine(aU (n:=(m:Int)) (by omega) (by omega) hq).mono fun z hz=>?_
 subst hz
 exact⟨rfl,jC (by omega) (by omega)⟩
theorem ej5(hr:uI ln lf)(hq:12≤q)(x0:g9)(k0:Int)(nm:ByteArray)(m:Nat)(hm:m≤3):∀(q2:Nat) (ps:List Prm) (g:FL) (a:Nat),ps.length≤m→m-ps.length<q2→a+(m-ps.length)≤999990→PM ps.length ps→PRow ps g→
 Rs (bV cI (Next q) (f9 q) (dS q) cB q2 x0 (.inr (k0,ln,lf,(a:Int),(m:Int),nm,g,(ps.length:Int),ps.length))) (fun z=>∃(ps1:List Prm) (g1:FL) (a':Nat),z= .inr (k0,ln,lf,(a':Int),(m:Int),nm,ps1.length,g1)∧PM m ps1∧PRow ps1 g1∧a≤a'∧a'≤a+(m-ps.length))
 |0,ps,g,a,_,hq2,_,_,_=>by omega
 |q2+1,ps,g,a,hle,hq2,ha,hP,hR=>by
  unfold bV
  refine Rs.step3 fun Q hQ=>?_
  dsimp only[Sum.elim]
  unfold nN
  dsimp only
  by_cases hlt:ps.length<m
  ·refine Rs.pos (decide_eq_true (by omega)) ?_
   rw[s9 (by omega)]
   refine Rs.bind (fh6 q hq (ps.length+1) (by omega)) fun z hz=>?_
   obtain⟨e1,e2⟩:=hz
   refine Rs.pos (by unfold maxLen;omega) ?_
   refine Rs.bind (w7 q hr a (by omega) (m:Int) 9 (by decide)) fun y hy=>?_
   obtain⟨j,rfl,g0,g1⟩:=hy
   refine Rs.bind (bm2 q g0) fun u hu=>?_
   refine Rs.pos ⟨by unfold d5;omega,by unfold maxLen;omega,Nat.le_refl _⟩ (Rs.some (hQ _ ?_))
   rw[e1]
   obtain⟨hP2,hR2⟩:=em9 hP hR (by omega) hu
   have:=ej5 hr hq x0 k0 nm m hm q2 (ps++[⟨vN (ps.length+1),u⟩]) _ (a+1) (by rw[List.length_append];exact hlt) (by rw[List.length_append];show m-(ps.length+1)<q2;omega) (by rw[List.length_append];show a+1+(m-(ps.length+1))≤999990;omega) (by rw[List.length_append];exact hP2) hR2
   rw[List.length_append]at this
   refine this.mono fun z hz=>?_
   obtain⟨ps',g',a',h1,h2,h3,h4,h5⟩:=hz
   exact⟨ps',g',a',h1,h2,h3,by omega,by have:[(⟨vN (ps.length+1),u⟩:Prm)].length=1:=rfl;omega⟩
  ·refine Rs.neg (fun h=>by have:=of_decide_eq_true h;omega) (Rs.some ⟨ps,g,a,rfl,?_,hR,by omega,by omega⟩)
   rw[show m=ps.length by omega]
   exact hP
theorem ht8(hr:uI ln lf)(hq:12≤q)(x0:g9)(k0:Int)(nm:ByteArray)(m:Nat)(hm:m≤3)(a:Nat)(ha:a+m≤999990):
 Rs (bV cI (Next q) (f9 q) (dS q) cB q x0 (.inl (k0,ln,lf,(a:Int),(m:Int),nm))) (fun z=>(z= .inl (k0,ln,lf,(a:Int),(m:Int),nm)∧m=0)∨∃(ps1:List Prm) (g1:FL) (a':Nat),z= .inr (k0,ln,lf,(a':Int),(m:Int),nm,ps1.length,g1)∧PM m ps1∧PRow ps1 g1∧a≤a'∧a'≤a+m):=by
 obtain⟨q2,hq2⟩:∃q',q=q'+1:=⟨q-1,by omega⟩
 have main:Rs (bV cI (Next q) (f9 q) (dS q) cB (q2+1) x0 (.inl (k0,ln,lf,(a:Int),(m:Int),nm))) (fun z=>(z= .inl (k0,ln,lf,(a:Int),(m:Int),nm)∧m=0)∨∃(ps1:List Prm) (g1:FL) (a':Nat),z= .inr (k0,ln,lf,(a':Int),(m:Int),nm,ps1.length,g1)∧PM m ps1∧PRow ps1 g1∧a≤a'∧a'≤a+m):=by
  unfold bV
  refine Rs.step3 fun Q hQ=>?_
  dsimp only[Sum.elim]
  unfold nE
  dsimp only
  by_cases h0:0<m
  ·refine Rs.pos (decide_eq_true (by omega)) ?_
   refine Rs.bind (fh6 q hq 1 (by omega)) fun z hz=>?_
   obtain⟨e1,e2⟩:=hz
   refine Rs.pos (by unfold maxLen;omega) ?_
   refine Rs.bind (w7 q hr a (by omega) (m:Int) 9 (by decide)) fun y hy=>?_
   obtain⟨j,rfl,g0,g1⟩:=hy
   refine Rs.bind (bm2 q g0) fun u hu=>Rs.some (hQ _ ?_)
   rw[e1]
   obtain⟨hP2,hR2⟩:=dc4 hu
   have:=ej5 cI cB hr hq x0 k0 nm m hm q2 [⟨vN 1,u⟩] _ (a+1) (by show 1≤m;omega) (by show m-1<q2;omega) (by show a+1+(m-1)≤999990;omega) hP2 hR2
   refine this.mono fun z hz=>?_
   obtain⟨ps',g',a',h1,h2,h3,h4,h5⟩:=hz
   exact .inr ⟨ps',g',a',h1,h2,h3,by omega,by have h5:a'≤a+1+(m-1):=h5;omega⟩
  ·exact Rs.neg (fun h=>h0 (by have:=of_decide_eq_true h;omega)) (Rs.some (.inl ⟨rfl,by omega⟩))
 rw[←hq2]at main
 exact main
theorem db0(hr:uI ln lf)(hq:12≤q)(x0:g9)(n0:Nat)(k0 i0:Int)(f0:FL)(nm:ByteArray)(m:Nat)(hm:m≤3):∀(q2:Nat) (ps:List Prm) (g:FL) (a:Nat),ps.length≤m→m-ps.length<q2→a+(m-ps.length)≤999990→PM ps.length ps→PRow ps g→
 Rs (o8 cI (Next q) (f9 q) (dS q) cB q2 x0 (.inr (n0,k0,i0,ln,lf,(a:Int),(m:Int),f0,nm,g,(ps.length:Int),ps.length))) (fun z=>∃(ps1:List Prm) (g1:FL) (a':Nat),z= .inr (n0,k0,i0,ln,lf,(a':Int),(m:Int),f0,nm,ps1.length,g1)∧PM m ps1∧PRow ps1 g1∧a≤a'∧a'≤a+(m-ps.length))
 |0,ps,g,a,_,hq2,_,_,_=>by omega
 |q2+1,ps,g,a,hle,hq2,ha,hP,hR=>by
  unfold o8
  refine Rs.step3 fun Q hQ=>?_
  dsimp only[Sum.elim]
  unfold gW
  dsimp only
  by_cases hlt:ps.length<m
  ·refine Rs.pos (decide_eq_true (by omega)) ?_
   rw[s9 (by omega)]
   refine Rs.bind (fh6 q hq (ps.length+1) (by omega)) fun z hz=>?_
   obtain⟨e1,e2⟩:=hz
   refine Rs.pos (by unfold maxLen;omega) ?_
   refine Rs.bind (w7 q hr a (by omega) (m:Int) 9 (by decide)) fun y hy=>?_
   obtain⟨j,rfl,g0,g1⟩:=hy
   refine Rs.bind (bm2 q g0) fun u hu=>?_
   refine Rs.pos ⟨by unfold d5;omega,by unfold maxLen;omega,Nat.le_refl _⟩ (Rs.some (hQ _ ?_))
   rw[e1]
   obtain⟨hP2,hR2⟩:=em9 hP hR (by omega) hu
   have:=db0 hr hq x0 n0 k0 i0 f0 nm m hm q2 (ps++[⟨vN (ps.length+1),u⟩]) _ (a+1) (by rw[List.length_append];exact hlt) (by rw[List.length_append];show m-(ps.length+1)<q2;omega) (by rw[List.length_append];show a+1+(m-(ps.length+1))≤999990;omega) (by rw[List.length_append];exact hP2) hR2
   rw[List.length_append]at this
   refine this.mono fun z hz=>?_
   obtain⟨ps',g',a',h1,h2,h3,h4,h5⟩:=hz
   exact⟨ps',g',a',h1,h2,h3,by omega,by have:[(⟨vN (ps.length+1),u⟩:Prm)].length=1:=rfl;omega⟩
  ·refine Rs.neg (fun h=>by have:=of_decide_eq_true h;omega) (Rs.some ⟨ps,g,a,rfl,?_,hR,by omega,by omega⟩)
   rw[show m=ps.length by omega]
   exact hP
theorem hf4(hr:uI ln lf)(hq:12≤q)(x0:g9)(n0:Nat)(k0 i0:Int)(f0:FL)(nm:ByteArray)(m:Nat)(hm:m≤3)(a:Nat)(ha:a+m≤999990):
 Rs (o8 cI (Next q) (f9 q) (dS q) cB q x0 (.inl (n0,k0,i0,ln,lf,(a:Int),(m:Int),f0,nm))) (fun z=>(z= .inl (n0,k0,i0,ln,lf,(a:Int),(m:Int),f0,nm)∧m=0)∨∃(ps1:List Prm) (g1:FL) (a':Nat),z= .inr (n0,k0,i0,ln,lf,(a':Int),(m:Int),f0,nm,ps1.length,g1)∧PM m ps1∧PRow ps1 g1∧a≤a'∧a'≤a+m):=by
 obtain⟨q2,hq2⟩:∃q',q=q'+1:=⟨q-1,by omega⟩
 have main:Rs (o8 cI (Next q) (f9 q) (dS q) cB (q2+1) x0 (.inl (n0,k0,i0,ln,lf,(a:Int),(m:Int),f0,nm))) (fun z=>(z= .inl (n0,k0,i0,ln,lf,(a:Int),(m:Int),f0,nm)∧m=0)∨∃(ps1:List Prm) (g1:FL) (a':Nat),z= .inr (n0,k0,i0,ln,lf,(a':Int),(m:Int),f0,nm,ps1.length,g1)∧PM m ps1∧PRow ps1 g1∧a≤a'∧a'≤a+m):=by
  unfold o8
  refine Rs.step3 fun Q hQ=>?_
  dsimp only[Sum.elim]
  unfold gX
  dsimp only
  by_cases h0:0<m
  ·refine Rs.pos (decide_eq_true (by omega)) ?_
   refine Rs.bind (fh6 q hq 1 (by omega)) fun z hz=>?_
   obtain⟨e1,e2⟩:=hz
   refine Rs.pos (by unfold maxLen;omega) ?_
   refine Rs.bind (w7 q hr a (by omega) (m:Int) 9 (by decide)) fun y hy=>?_
   obtain⟨j,rfl,g0,g1⟩:=hy
   refine Rs.bind (bm2 q g0) fun u hu=>Rs.some (hQ _ ?_)
   rw[e1]
   obtain⟨hP2,hR2⟩:=dc4 hu
   have:=db0 cI cB hr hq x0 n0 k0 i0 f0 nm m hm q2 [⟨vN 1,u⟩] _ (a+1) (by show 1≤m;omega) (by show m-1<q2;omega) (by show a+1+(m-1)≤999990;omega) hP2 hR2
   refine this.mono fun z hz=>?_
   obtain⟨ps',g',a',h1,h2,h3,h4,h5⟩:=hz
   exact .inr ⟨ps',g',a',h1,h2,h3,by omega,by have h5:a'≤a+1+(m-1):=h5;omega⟩
  ·exact Rs.neg (fun h=>h0 (by have:=of_decide_eq_true h;omega)) (Rs.some (.inl ⟨rfl,by omega⟩))
 rw[←hq2]at main
 exact main
end
end Go.Proofs.YtjfkkokeegpeiaaGreatDoor

