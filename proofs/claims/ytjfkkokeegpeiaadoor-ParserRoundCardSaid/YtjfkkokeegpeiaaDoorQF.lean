/- Texts joined. -/
import Derived.Test.YtjfkkokeegpeiaaDoorQE
import Derived.Test.YtjfkkokeegpeiaaDoorQC
import Derived.Test.YtjfkkokeegpeiaaDoorQD
/- Parse, lifted where it panics and recovers. -/
set_option linter.unusedSimpArgs false
set_option linter.unusedVariables false
namespace Go.Proofs.YtjfkkokeegpeiaaDoor
open Go Go.Am Go.Proofs
set_option maxRecDepth 100000
noncomputable def E6(ds:List Deferred):Env:={E5 with dok:=false,dls:=ds}
theorem hX6(ds:List Deferred):SoundX (E6 ds):=SoundX.none λ_ _=>rfl
theorem sc6{ds:List Deferred}{f:FuncId}{args:List V}{L:List (Option Chunk)}{cr:CRes}:SC (E6 ds) f args L cr↔SC E5 f args L cr:=
 ⟨λh=>⟨h.1,λβ S w us h1 h2 h3=>h.2 β S w us h1 h2 ⟨h3.rd,h3.inv⟩⟩,λh=>⟨h.1,λβ S w us h1 h2 h3=>h.2 β S w us h1 h2 ⟨h3.rd,h3.inv⟩⟩⟩
variable {ds:List Deferred}
abbrev bW:Type:=Int×Nat×FI×FI×FS×FI
abbrev zU:Type:=Int×Int
def ac6:bW->List V×List (Option Chunk):=(λx=>(λ(a:Int) (tn:Nat) (tk:Nat->Int) (ta:Nat->Int) (tt:Nat->ByteArray) (tv:Nat->Int)=>((([.junk,.junk,.ptr 0 0,.ptr 1 0,.ptr 2 0,.ro 4 tn (λj=>[i64 (tk j),i64 (ta j),st (tt j),i64 (tv j)])]++jk 25):List V),([some (.blk [g8]),some (.blk [i64 a]),some (.blk [i64 0])]:List (Option Chunk)))) x.1 x.2.1 x.2.2.1 x.2.2.2.1 x.2.2.2.2.1 x.2.2.2.2.2)
def cr0:zU->CRes:=λz=>.pan (.ifc 51 (.agg [i64 z.1,i64 z.2]))
abbrev bQ:Type:=(Unit)⊕(FS×FN×FM×FI×FI×FS×FN×FM×Nat×FI×FI×FS×FI×Int×Int×Nat×Nat×FS×FS×Nat)
abbrev nI:Type:=(Int×Int)⊕(Unit)⊕(Int×Int×Nat×FS×FN×FM×FI×FI×FS×FN×FM)⊕(Nat×FS×FN×FM×FI×FI×FS×FN×FM)
def de3(x:bW)(y:Unit):St:={fr:=[V.junk,V.junk,V.ptr 0 0,V.ptr 1 0,V.ptr 2 0,V.junk,V.ptr 3 0]++jk 24,H:=hp [some (Chunk.blk [g8]),some (Chunk.blk [i64 x.1]),some (Chunk.blk [i64 0]),some (Chunk.blk [V.ro 4 x.2.1 λj=>[i64 (x.2.2.1 j),i64 (x.2.2.2.1 j),st (x.2.2.2.2.1 j),i64 (x.2.2.2.2.2 j)],i64 0,i64 0,g8,g8])],nx:=4,rt:=3,me:=8}
def dk3(s:St):Unit:=()
def dp2(x:bW)(y:FS×FN×FM×FI×FI×FS×FN×FM×Nat×FI×FI×FS×FI×Int×Int×Nat×Nat×FS×FS×Nat):St:={fr:=[V.junk,V.junk,V.ptr 0 0,V.ptr 1 0,V.ptr 2 0,V.junk,V.ptr 4 0]++jk 24,H:=hp [some (Chunk.blk [V.sl 3 6 0 y.2.2.2.2.2.2.2.2.2.2.2.2.2.2.2.2.2.2.2]),some (Chunk.blk [i64 x.1]),some (Chunk.blk [i64 0]),some (Chunk.row 42 6 y.2.2.2.2.2.2.2.2.2.2.2.2.2.2.2.2.2.2.2 λj=>[st (y.1 j),V.ro 2 (y.2.1 j) (y.2.2.1 j),i64 (y.2.2.2.1 j),i64 (y.2.2.2.2.1 j),st (y.2.2.2.2.2.1 j),V.ro 4 (y.2.2.2.2.2.2.1 j) (y.2.2.2.2.2.2.2.1 j)]),some (Chunk.blk [V.ro 4 y.2.2.2.2.2.2.2.2.1 λj=>[i64 (y.2.2.2.2.2.2.2.2.2.1 j),i64 (y.2.2.2.2.2.2.2.2.2.2.1 j),st (y.2.2.2.2.2.2.2.2.2.2.2.1 j),i64 (y.2.2.2.2.2.2.2.2.2.2.2.2.1 j)],i64 y.2.2.2.2.2.2.2.2.2.2.2.2.2.1,i64 y.2.2.2.2.2.2.2.2.2.2.2.2.2.2.1,V.sl 5 1 0 y.2.2.2.2.2.2.2.2.2.2.2.2.2.2.2.1,V.sl 6 1 0 y.2.2.2.2.2.2.2.2.2.2.2.2.2.2.2.2.1]),some (Chunk.row 9 1 y.2.2.2.2.2.2.2.2.2.2.2.2.2.2.2.1 λj=>[st (y.2.2.2.2.2.2.2.2.2.2.2.2.2.2.2.2.2.1 j)]),some (Chunk.row 9 1 y.2.2.2.2.2.2.2.2.2.2.2.2.2.2.2.2.1 λj=>[st (y.2.2.2.2.2.2.2.2.2.2.2.2.2.2.2.2.2.2.1 j)])],nx:=7,rt:=3,me:=8}
def dl5(s:St):FS×FN×FM×FI×FI×FS×FN×FM×Nat×FI×FI×FS×FI×Int×Int×Nat×Nat×FS×FS×Nat:=((dRS (s.H 3) 0),dRN (s.H 3) 1,dRF (s.H 3) 1,dRI (s.H 3) 2,dRI (s.H 3) 3,dRS (s.H 3) 4,dRN (s.H 3) 5,dRF (s.H 3) 5,u7 (cb s 4 0),dTI (cb s 4 0) 0,dTI (cb s 4 0) 1,dTS (cb s 4 0) 2,dTI (cb s 4 0) 3,vI (cb s 4 1),vI (cb s 4 2),dB (cb s 4 3),dB (cb s 4 4),dRS (s.H 5) 0,dRS (s.H 6) 0,dB (cb s 0 0))
def fE(x:bW):bQ->St:=(Sum.elim (de3 x) (dp2 x))
def ei0(s:St):bQ:=(match s.nx==4 with|true=>(.inl (dk3 s)) |false=>(.inr (dl5 s)))
theorem eb3(x:bW):VL (fE x):=vl ei0 (λy=>by rcases y with y|y<;>rfl)
def nS(x:bW):nI->Ex×St:=(Sum.elim (λz=>(Ex.panic (V.ifc 51 (V.agg [i64 z.1,i64 z.2])),{fr:=[V.junk,V.junk,V.ptr 0 0,V.ptr 1 0,V.ptr 2 0]++jk 26,H:=hp [some (Chunk.blk [g8]),some (Chunk.blk [i64 x.1]),some (Chunk.blk [i64 0])],nx:=3,rt:=3,me:=8})) (Sum.elim (λz=>(Ex.exit 0,{fr:=[V.junk,V.junk,V.ptr 0 0,V.ptr 1 0,V.ptr 2 0]++jk 26,H:=hp [some (Chunk.blk [g8]),some (Chunk.blk [i64 x.1]),some (Chunk.blk [i64 0])],nx:=3,rt:=3,me:=8})) (Sum.elim (λz=>(Ex.panic (V.ifc 51 (V.agg [i64 z.1,i64 z.2.1])),{fr:=[V.junk,V.junk,V.ptr 0 0,V.ptr 1 0,V.ptr 2 0]++jk 26,H:=hp [some (Chunk.blk [V.sl 3 6 0 z.2.2.1]),some (Chunk.blk [i64 x.1]),some (Chunk.blk [i64 0]),some (Chunk.row 42 6 z.2.2.1 λj=>[st (z.2.2.2.1 j),V.ro 2 (z.2.2.2.2.1 j) (z.2.2.2.2.2.1 j),i64 (z.2.2.2.2.2.2.1 j),i64 (z.2.2.2.2.2.2.2.1 j),st (z.2.2.2.2.2.2.2.2.1 j),V.ro 4 (z.2.2.2.2.2.2.2.2.2.1 j) (z.2.2.2.2.2.2.2.2.2.2 j)])],nx:=4,rt:=3,me:=8})) (λz=>(Ex.exit 0,{fr:=[V.junk,V.junk,V.ptr 0 0,V.ptr 1 0,V.ptr 2 0]++jk 26,H:=hp [some (Chunk.blk [V.sl 3 6 0 z.1]),some (Chunk.blk [i64 x.1]),some (Chunk.blk [i64 0]),some (Chunk.row 42 6 z.1 λj=>[st (z.2.1 j),V.ro 2 (z.2.2.1 j) (z.2.2.2.1 j),i64 (z.2.2.2.2.1 j),i64 (z.2.2.2.2.2.1 j),st (z.2.2.2.2.2.2.1 j),V.ro 4 (z.2.2.2.2.2.2.2.1 j) (z.2.2.2.2.2.2.2.2 j)])],nx:=4,rt:=3,me:=8})))))
def kU{β:Type}(c_nextZ:mB->Option lV)(c_next:aM->Option aL)(c_procedureZ:v7->Option aI)(c_procedure:m7->Option t6)(x:bW)(y:Unit)(nx:bQ->Option β)(dn:nI->Option β):Option β:=
 (c_nextZ (0,0,x.2)).bind λz359=>if(z359.1 !=0)=true then(c_procedureZ z359.2.2.2.2).bind λz367=>Sum.elim (λz367a=>nx (.inr (λj=>z367a.1,λj=>z367a.2.1,λ(j j_1:Nat)=>[st (z367a.2.2.1 j_1),st (z367a.2.2.2.1 j_1)],λj=>z367a.2.2.2.2.1,λj=>z367a.2.2.2.2.2.1,λj=>z367a.2.2.2.2.2.2.1,λj=>z367a.2.2.2.2.2.2.2.1,λj=>z367a.2.2.2.2.2.2.2.2.1,z367a.2.2.2.2.2.2.2.2.2.2.2.1,z367a.2.2.2.2.2.2.2.2.2.2.2.2.1,z367a.2.2.2.2.2.2.2.2.2.2.2.2.2.1,z367a.2.2.2.2.2.2.2.2.2.2.2.2.2.2.1,z367a.2.2.2.2.2.2.2.2.2.2.2.2.2.2.2.1,z367a.2.2.2.2.2.2.2.2.2.1,z367a.2.2.2.2.2.2.2.2.2.2.1,z367a.2.2.2.2.2.2.2.2.2.2.2.2.2.2.2.2.1,z367a.2.2.2.2.2.2.2.2.2.2.2.2.2.2.2.2.2.2.1,z367a.2.2.2.2.2.2.2.2.2.2.2.2.2.2.2.2.2.1,z367a.2.2.2.2.2.2.2.2.2.2.2.2.2.2.2.2.2.2.2,1))) (λz367b=>dn (.inl z367b)) z367 else dn (.inr (.inl ()))
theorem dh6{β:Type}(c_nextZ c_next)(c_procedureZ c_procedure)(x)(y)(nx:bQ->Option β)(dn):kU c_nextZ c_next c_procedureZ c_procedure x y nx dn=(kU c_nextZ c_next c_procedureZ c_procedure x y (λy=>some (.inl y)) (λz=>some (.inr z))).bind λr=>Sum.elim nx dn r:=by
 unfold kU
 repeat' first|exact n0|refine n1 λ_=>?_|refine n2 ?_ ?_|refine n3 (λ_=>?_) λ_=>?_|rfl
theorem dd7(c_nextZ c_next)(c_procedureZ c_procedure)(x)(y)(lo:f5):n8 (E6 ds) (ftg 18 (λ_ L=>L.length==1) aK oK c_nextZ (ftb 18 j7 y6 c_next (fg2 19 (λ_ L=>L.length==1) l5 w6 c_procedureZ (fg2 19 (λ_ L=>L.length==3) l7 aN c_procedure ca0)))) lo 0 92 (h9 (E6 ds) 8 0) (fE x (.inl y)) (KCM [(0,28),(1000,28)] 28)=kU (vf aK c_nextZ) (vf j7 c_next) (vf l5 c_procedureZ) (vf l7 c_procedure) x y (λy=>lo 0 92 (h9 (E6 ds) 8 0) (fE x y) (KCM [(0,28),(1000,28)] 28)) (λz=>some (.l (nS x z).1 (nS x z).2)):=by kernel_rfl
def kH{β:Type}(c_nextZ:mB->Option lV)(c_next:aM->Option aL)(c_procedureZ:v7->Option aI)(c_procedure:m7->Option t6)(x:bW)(y:FS×FN×FM×FI×FI×FS×FN×FM×Nat×FI×FI×FS×FI×Int×Int×Nat×Nat×FS×FS×Nat)(nx:bQ->Option β)(dn:nI->Option β):Option β:=
 (c_next (y.2.2.2.2.2.2.2.2.2.2.2.2.2.1,y.2.2.2.2.2.2.2.2.2.2.2.2.2.2.1,y.2.2.2.2.2.2.2.2.1,y.2.2.2.2.2.2.2.2.2.1,y.2.2.2.2.2.2.2.2.2.2.1,y.2.2.2.2.2.2.2.2.2.2.2.1,y.2.2.2.2.2.2.2.2.2.2.2.2.1,y.2.2.2.2.2.2.2.2.2.2.2.2.2.2.2.1,y.2.2.2.2.2.2.2.2.2.2.2.2.2.2.2.2.2.1,y.2.2.2.2.2.2.2.2.2.2.2.2.2.2.2.2.1,y.2.2.2.2.2.2.2.2.2.2.2.2.2.2.2.2.2.2.1)).bind λz381=>if(z381.1 !=0)=true then(c_procedure z381.2.2.2.2).bind λz393=>Sum.elim (λz393a=>if(y.2.2.2.2.2.2.2.2.2.2.2.2.2.2.2.2.2.2.2+1)*96<=d5/\y.2.2.2.2.2.2.2.2.2.2.2.2.2.2.2.2.2.2.2+1<=maxLen/\y.2.2.2.2.2.2.2.2.2.2.2.2.2.2.2.2.2.2.2<=y.2.2.2.2.2.2.2.2.2.2.2.2.2.2.2.2.2.2.2 then nx (.inr (λj=>if j<y.2.2.2.2.2.2.2.2.2.2.2.2.2.2.2.2.2.2.2 then y.1 j else z393a.1,λj=>if j<y.2.2.2.2.2.2.2.2.2.2.2.2.2.2.2.2.2.2.2 then y.2.1 j else z393a.2.1,λ(j j_1:Nat)=>if j<y.2.2.2.2.2.2.2.2.2.2.2.2.2.2.2.2.2.2.2 then y.2.2.1 j j_1 else[st (z393a.2.2.1 j_1),st (z393a.2.2.2.1 j_1)],λj=>if j<y.2.2.2.2.2.2.2.2.2.2.2.2.2.2.2.2.2.2.2 then y.2.2.2.1 j else z393a.2.2.2.2.1,λj=>if j<y.2.2.2.2.2.2.2.2.2.2.2.2.2.2.2.2.2.2.2 then y.2.2.2.2.1 j else z393a.2.2.2.2.2.1,λj=>if j<y.2.2.2.2.2.2.2.2.2.2.2.2.2.2.2.2.2.2.2 then y.2.2.2.2.2.1 j else z393a.2.2.2.2.2.2.1,λj=>if j<y.2.2.2.2.2.2.2.2.2.2.2.2.2.2.2.2.2.2.2 then y.2.2.2.2.2.2.1 j else z393a.2.2.2.2.2.2.2.1,λ(j j_1:Nat)=>if j<y.2.2.2.2.2.2.2.2.2.2.2.2.2.2.2.2.2.2.2 then y.2.2.2.2.2.2.2.1 j j_1 else z393a.2.2.2.2.2.2.2.2.1 j_1,z393a.2.2.2.2.2.2.2.2.2.2.2.1,z393a.2.2.2.2.2.2.2.2.2.2.2.2.1,z393a.2.2.2.2.2.2.2.2.2.2.2.2.2.1,z393a.2.2.2.2.2.2.2.2.2.2.2.2.2.2.1,z393a.2.2.2.2.2.2.2.2.2.2.2.2.2.2.2.1,z393a.2.2.2.2.2.2.2.2.2.1,z393a.2.2.2.2.2.2.2.2.2.2.1,z393a.2.2.2.2.2.2.2.2.2.2.2.2.2.2.2.2.1,z393a.2.2.2.2.2.2.2.2.2.2.2.2.2.2.2.2.2.2.1,z393a.2.2.2.2.2.2.2.2.2.2.2.2.2.2.2.2.2.1,z393a.2.2.2.2.2.2.2.2.2.2.2.2.2.2.2.2.2.2.2,y.2.2.2.2.2.2.2.2.2.2.2.2.2.2.2.2.2.2.2+1))else none) (λz393b=>dn (.inr (.inr (.inl (z393b.1,z393b.2,y.2.2.2.2.2.2.2.2.2.2.2.2.2.2.2.2.2.2.2,y.1,y.2.1,y.2.2.1,y.2.2.2.1,y.2.2.2.2.1,y.2.2.2.2.2.1,y.2.2.2.2.2.2.1,y.2.2.2.2.2.2.2.1))))) z393 else dn (.inr (.inr (.inr (y.2.2.2.2.2.2.2.2.2.2.2.2.2.2.2.2.2.2.2,y.1,y.2.1,y.2.2.1,y.2.2.2.1,y.2.2.2.2.1,y.2.2.2.2.2.1,y.2.2.2.2.2.2.1,y.2.2.2.2.2.2.2.1))))
theorem dh2{β:Type}(c_nextZ c_next)(c_procedureZ c_procedure)(x)(y)(nx:bQ->Option β)(dn):kH c_nextZ c_next c_procedureZ c_procedure x y nx dn=(kH c_nextZ c_next c_procedureZ c_procedure x y (λy=>some (.inl y)) (λz=>some (.inr z))).bind λr=>Sum.elim nx dn r:=by
 unfold kH
 repeat' first|exact n0|refine n1 λ_=>?_|refine n2 ?_ ?_|refine n3 (λ_=>?_) λ_=>?_|rfl
theorem di9(c_nextZ c_next)(c_procedureZ c_procedure)(x)(y)(lo:f5):n8 (E6 ds) (ftg 18 (λ_ L=>L.length==1) aK oK c_nextZ (ftb 18 j7 y6 c_next (fg2 19 (λ_ L=>L.length==1) l5 w6 c_procedureZ (fg2 19 (λ_ L=>L.length==3) l7 aN c_procedure ca0)))) lo 0 92 (h9 (E6 ds) 8 0) (fE x (.inr y)) (KCM [(0,28),(1000,28)] 28)=kH (vf aK c_nextZ) (vf j7 c_next) (vf l5 c_procedureZ) (vf l7 c_procedure) x y (λy=>lo 0 92 (h9 (E6 ds) 8 0) (fE x y) (KCM [(0,28),(1000,28)] 28)) (λz=>some (.l (nS x z).1 (nS x z).2)):=by kernel_rfl
noncomputable def vH(c_nextZ:mB->Option lV)(c_next:aM->Option aL)(c_procedureZ:v7->Option aI)(c_procedure:m7->Option t6)(q:Nat)(x:bW):bQ->Option nI:=lpG (Sum.elim (λy=>kU c_nextZ c_next c_procedureZ c_procedure x y (λy=>some (.inl y)) (λz=>some (.inr z))) (λy=>kH c_nextZ c_next c_procedureZ c_procedure x y (λy=>some (.inl y)) (λz=>some (.inr z)))) q
theorem eh0(c_nextZ)(h_nextZ:∀x z,c_nextZ x=some z->SC (E6 ds) 18 (aK x).1 (aK x).2 (oK z))(c_next)(h_next:∀x z,c_next x=some z->SC (E6 ds) 18 (j7 x).1 (j7 x).2 (y6 z))(c_procedureZ)(h_procedureZ:∀x z,c_procedureZ x=some z->SC (E6 ds) 19 (l5 x).1 (l5 x).2 (w6 z))(c_procedure)(h_procedure:∀x z,c_procedure x=some z->SC (E6 ds) 19 (l7 x).1 (l7 x).2 (aN z))(q:Nat)(x:bW):Ll (E6 ds) (h9 (E6 ds) 8 0) (fE x) (nS x) (vH c_nextZ c_next c_procedureZ c_procedure q x):=
 slp (fk h_nextZ (fk h_next (fk2 h_procedureZ (fk2 h_procedure a8)))) (hX6 ds) (λlo y=>by
  rcases y with y|y
  ·exact(dd7 c_nextZ c_next c_procedureZ c_procedure x y lo).trans (by rw[av8,iD,lB,oA];exact dh6 _ _ _ _ _ _ _ _)
  ·exact(di9 c_nextZ c_next c_procedureZ c_procedure x y lo).trans (by rw[av8,iD,lB,oA];exact dh2 _ _ _ _ _ _ _ _)) (λz=>by rcases z with z|z|z|z<;>kernel_rfl) q
def wG{β:Type}(c_nextZ:mB->Option lV)(c_next:aM->Option aL)(c_procedureZ:v7->Option aI)(c_procedure:m7->Option t6)(l_ParseP_l0:bQ->Option nI)(x:bW)(dn:zU->Option β):Option β:=
 (l_ParseP_l0 (.inl ())).bind λz339=>Sum.elim (λz339a=>dn z339a) (λz339b=>Sum.elim (λz339ba=>none) (λz339bb=>Sum.elim (λz339bba=>dn (z339bba.1,z339bba.2.1)) (λz339bbb=>none) z339bb) z339b) z339
theorem gu0{β:Type}(c_nextZ c_next)(c_procedureZ c_procedure)(l_ParseP_l0)(x)(dn:zU->Option β):wG c_nextZ c_next c_procedureZ c_procedure l_ParseP_l0 x dn=(wG c_nextZ c_next c_procedureZ c_procedure l_ParseP_l0 x some).bind dn:=by
 unfold wG
 repeat' first|exact n0|refine n1 λ_=>?_|refine n2 ?_ ?_|refine n3 (λ_=>?_) λ_=>?_|rfl
theorem gu2(c_nextZ c_next)(c_procedureZ c_procedure)(l_ParseP_l0)(x):gr7 4 3 (E6 ds) (ftg 18 (λ_ L=>L.length==1) aK oK c_nextZ (ftb 18 j7 y6 c_next (fg2 19 (λ_ L=>L.length==1) l5 w6 c_procedureZ (fg2 19 (λ_ L=>L.length==3) l7 aN c_procedure ca0)))) (lt4 0 (λ_=>true) (h9 (E6 ds) 8 0) (fE x) (nS x) l_ParseP_l0 lo0) 8 (ac6 x).1 (ac6 x).2 K=wG (vf aK c_nextZ) (vf j7 c_next) (vf l5 c_procedureZ) (vf l7 c_procedure) (lf (h9 (E6 ds) 8 0) (fE x) l_ParseP_l0) x (λz=>some (.c (cr0 z))):=by kernel_rfl
theorem gi2(c_nextZ)(h_nextZ:∀x z,c_nextZ x=some z->SC (E6 ds) 18 (aK x).1 (aK x).2 (oK z))(c_next)(h_next:∀x z,c_next x=some z->SC (E6 ds) 18 (j7 x).1 (j7 x).2 (y6 z))(c_procedureZ)(h_procedureZ:∀x z,c_procedureZ x=some z->SC (E6 ds) 19 (l5 x).1 (l5 x).2 (w6 z))(c_procedure)(h_procedure:∀x z,c_procedure x=some z->SC (E6 ds) 19 (l7 x).1 (l7 x).2 (aN z))(q:Nat)(x:bW)(z:zU)(h:wG c_nextZ c_next c_procedureZ c_procedure (vH c_nextZ c_next c_procedureZ c_procedure q x) x some=some z):RC 4 3 (E6 ds) 8 (ac6 x).1 (ac6 x).2 (cr0 z):=by
 refine RC.of (hX6 ds) (fk h_nextZ (fk h_next (fk2 h_procedureZ (fk2 h_procedure a8)))) (lk4 (eh0 c_nextZ h_nextZ c_next h_next c_procedureZ h_procedureZ c_procedure h_procedure q x) cB) ((gu2 c_nextZ c_next c_procedureZ c_procedure (vH c_nextZ c_next c_procedureZ c_procedure q x) x).trans ?_);rw[av8,iD,lB,oA,eb3,gu0,h];rfl
noncomputable def dk7(q:Nat)(x:bW):Option zU:=wG (zP q) (next q) (y8 q) (y9 q) (vH (zP q) (next q) (y8 q) (y9 q) q x) x some
theorem fo3(q:Nat):∀(x:bW) (z:zU),dk7 q x=some z->RC 4 3 (E6 ds) 8 (ac6 x).1 (ac6 x).2 (cr0 z):=λx z h=>gi2 (zP q) (λx z h=>sc6.2 (cl6 q x z h)) (next q) (λx z h=>sc6.2 (lU q x z h)) (y8 q) (λx z h=>sc6.2 (yU q x z h)) (y9 q) (λx z h=>sc6.2 (tQ q x z h)) q x z h
end Go.Proofs.YtjfkkokeegpeiaaDoor
/- Parse panics and recovers. -/
namespace Go.Proofs.YtjfkkokeegpeiaaDoor
open Go Go.Am Go.RowKit
set_option maxRecDepth 100000
noncomputable def c8:ACode:=match E5.code 8 with|some c=>c|none=>.skip
noncomputable def c21:ACode:=match E5.code 17 with|some c=>c|none=>.skip
theorem if2:E5.code 8=some c8:=by kernel_rfl
def hu4 : Array Oper := #[{ dst := some 17, op := Op.makeFunc (Fn.func 17) #[] #[Operand.tmp 2, Operand.tmp 3, Operand.tmp 4], type := 1, pos := "parser.go:391", after := #[], guard := none },
  { dst := none, op := Op.defer { callee := Callee.value (Operand.tmp 17), args := #[], argTypes := #[] }, type := 0, pos := "parser.go:391", after := #[{ on := 0, ground := Ground.data }], guard := none }]
theorem ig2:c8.erase= .seq (fw1 0 c8).erase (.seq (fw1 1 c8).erase (.seq (fw1 2 c8).erase (.seq (.region 4 hu4 false) (dh7 4 c8).erase))):=by kernel_rfl
def dcl(u0 u1 u2:Value):Deferred:={target:=.fn (.func 17) #[u0,u1,u2],args:=#[]}
theorem yM{Q:Exit->Act->World->Prop}{a:Act}{w:World}(hs:a.tmps.size=31)
 (hQ:Q .normal {tmps:=a.tmps.setIfInBounds 17 (.func (.func 17) #[] #[a.tmps.getD 2 undef,a.tmps.getD 3 undef,a.tmps.getD 4 undef]),defers:=dcl (a.tmps.getD 2 undef) (a.tmps.getD 3 undef) (a.tmps.getD 4 undef)::a.defers} w):
 (Code.region 4 hu4 false).wp Tryd.prog Q a w:=by
 apply wp_region;simp[hu4,wpOps,go_sem,hs];left;left;simpa[hs,dcl]using hQ
theorem zM{β:Bt}{S D:Pr}{w:World}:∀us:List Value,b8 β S w D (List.replicate us.length .junk) us
 | []=>by simp[b8]
 |u::us=>by
  simp only[List.length_cons,List.replicate_succ,b8];exact⟨u,us,rfl,(by simp[den]),zM us⟩
def ic1(a c:Int):List V:=[.ptr 0 0,.ptr 1 0,.ptr 2 0,.ifc 51 (.agg [i64 a,i64 c])]++List.replicate 16 .junk
def H3(x0 x1 x2:V):List (Option Chunk):=[some (.blk [x0]),some (.blk [x1]),some (.blk [x2])]
theorem ih7(a c:Int):aW E5 ca0 lo0 (dh7 1 c21) {fr:=ic1 a c,H:=hp (H3 .junk .junk .junk),nx:=3,rt:=3,me:=17} (KN 0)=some (.l .normal {fr:=List.replicate 20 .junk,H:=hp (H3 g8 (i64 a) (i64 c)),nx:=3,rt:=3,me:=17}):=by kernel_rfl
theorem ij3(a c:Int):Am.Ends E5 (dh7 1 c21) {fr:=ic1 a c,H:=hp (H3 .junk .junk .junk),nx:=3,rt:=3,me:=17} .normal {fr:=List.replicate 20 .junk,H:=hp (H3 g8 (i64 a) (i64 c)),nx:=3,rt:=3,me:=17}:=
 Am.Ends.of hX5 a8 cB (ih7 a c)
theorem ik1{β:Bt}{S:Pr}{w:World}{a c:Int}{u0 u1 u2 u:Value}(hM:Mem β S (· <3) (hp (H3 .junk .junk .junk)) w)(hG:Glob E5 S w)
 (h0:den β S w (· <3) (.ptr 0 0) u0) (h1:den β S w (· <3) (.ptr 1 0) u1) (h2:den β S w (· <3) (.ptr 2 0) u2) (hv:den β S w (· <3) (.ifc 51 (.agg [i64 a,i64 c])) u):
 CallsD Tryd.prog 17 #[u0,u1,u2] (.panicking [{v:=u,recovered:=false}]) w λe u' w'=>(∃v,e= .returned v)/\u'= .panicking [{v:=u,recovered:=true}]/\
  ∃β' S',Mem β' S' (· <3) (hp (H3 g8 (i64 a) (i64 c))) w'/\Glob E5 S' w'/\Evo β S w β' S' w'/\tL 3 β β':=by
 refine callsD_of_wpS Tryd.func17 rfl λc₀ cs hu=>?_;apply wpS_seq;apply wpS_region;simp[wpOpsS,go_sem,recoverD,hu,Tryd.ntmps17,Exit.thenS];refine wpS_of_wp ?_;refine(congrArg (λc=>Code.wp Tryd.prog c _ _ _) (?_:(dh7 1 c21).erase=_)).mp (wp_mono (ij3 a c β S (· <3) _ w ⟨?_,hM,⟨λ_=>rfl,λd h=>(by cases h),λh=>nomatch (show true=false from h)⟩,λi hi=>hi,hG,λi hi=>hi⟩) ?_)
 ·kernel_rfl
 ·have e:(#[u0,u1,u2]++((Array.replicate 17 undef).setIfInBounds 3 u).setIfInBounds 0 u).toList=[u0,u1,u2,u]++([undef,undef,u]++List.replicate 13 undef):=by
   simp[List.replicate]
  show b8 β S w (· <3) (ic1 a c) (#[u0,u1,u2]++((Array.replicate 17 undef).setIfInBounds 3 u).setIfInBounds 0 u).toList;rw[e];refine bP ?_ ?_
  ·simp only[b8];exact⟨_,_,rfl,h0,_,_,rfl,h1,_,_,rfl,h2,_,_,rfl,hv,rfl⟩
  ·exact zM [undef,undef,u,undef,undef,undef,undef,undef,undef,undef,undef,undef,undef,undef,undef,undef]
 ·intro e' a' w' hp;obtain⟨rfl,β',S',D',g1,g2,g3,g4,g5⟩:=rV hp
  have hD:D'=(· <3):=by
   funext i;exact propext ⟨g1.lt i,g1.rtD i⟩
  subst hD;refine⟨g1.df.1 rfl,_,?_,_,by simp[results,Tryd.results17,go_sem];rfl,⟨_,rfl⟩,rfl,β',S',g1.mem,g1.gl,g2,g3⟩;cases c₀;simp_all
theorem cn6{E:Env}{c:ACode}{s t:St}(h:Am.Ends E c s .normal t){β:Bt}{S D:Pr}{a:Act}{w:World}(hR:Rel E β S D s a w){rest:Code}{Q:Exit->Act->World->Prop}
 (hQ:∀β' S' D' a' w',Rel E β' S' D' t a' w'->Evo β S w β' S' w'->rest.wp E.P Q a' w'):(Code.seq c.erase rest).wp E.P Q a w:=
 wp_seq (wp_mono (h β S D a w hR) λe' a' w' hp=>by
  obtain⟨rfl,β',S',D',h1,h2,h3,_,_⟩:=rV hp
  exact hQ β' S' D' a' w' h1 h2)
def s0(s:ByteArray):St:={fr:=[st s]++List.replicate 30 (.sc undef),H:=hp [],nx:=0,rt:=0,me:=8}
def s1(s:ByteArray):St:={fr:=[st s,.junk,.ptr 0 0,.ptr 1 0,.ptr 2 0]++jk 26,H:=hp (H3 g8 (i64 0) (i64 0)),nx:=3,rt:=0,me:=8}
def s2(rt:Nat)(z:dF):St:={fr:=[.junk,.junk,.ptr 0 0,.ptr 1 0,.ptr 2 0,.ro 4 z.2.2.1 (λj=>[i64 (z.2.2.2.1 j),i64 (z.2.2.2.2.1 j),st (z.2.2.2.2.2.1 j),i64 (z.2.2.2.2.2.2 j)])]++jk 25,H:=hp (H3 g8 (i64 z.1) (i64 z.2.1)),nx:=3,rt:=rt,me:=8}
theorem st1(s:ByteArray):aW (E6 []) ca0 lo0 (fw1 0 c8) (s0 s) (KN 29)=some (.l .normal (s1 s)):=by kernel_rfl
theorem st2(c:nR->Option dF)(s:ByteArray):aW (E6 []) (ftb 13 aV vM c ca0) lo0 (fw1 1 c8) (s1 s) (KN 60)=(ay3 aV c (aV s)).bind λz=>some (.l .normal (s2 0 z)):=by kernel_rfl
theorem st3(a:Int)(T:Nat×(Nat->Int)×(Nat->Int)×(Nat->ByteArray)×(Nat->Int)):aW (E6 []) ca0 lo0 (fw1 2 c8) (s2 0 (a,0,T)) (KN 60)=some (.l .normal (s2 0 (a,0,T))):=by kernel_rfl
def K3(n:Nat)(a c:Int):St:={fr:=.junk:: .junk:: .ptr 0 0:: .ptr 1 0:: .ptr 2 0::List.replicate n .junk,H:=hp (H3 g8 (i64 a) (i64 c)),nx:=3,rt:=3,me:=8}
end Go.Proofs.YtjfkkokeegpeiaaDoor
/- Parse where it panics: what it returns. -/
namespace Go.Proofs.YtjfkkokeegpeiaaDoor
open Go Go.Am Go.RowKit
set_option maxRecDepth 100000
theorem do2{β:Bt}{S D:Pr}{w:World}:∀{l:List V} {us:List Value},l.length=us.length->(∀i,den β S w D (l.getD i .junk) (us.getD i undef))->b8 β S w D l us
 | [],[],_,_=>by simp[b8]
 |v::l,u::us,hl,h=>by
  simp only[b8];exact⟨u,us,rfl,by simpa using h 0,do2 (by simpa using hl) λi=>by simpa using h (i+1)⟩
theorem uX{β β':Bt}{S S' D D':Pr}{w w':World}{i o n:Nat}{u:Value}(hr:tL n β β')(hi:i<n)(hD:D' i)(h:den β S w D (.ptr i o) u):den β' S' w' D' (.ptr i o) u:=by
 simp only[den]at h⊢;exact⟨⟨hD,h.1.2⟩,λb m hb=>h.2 b m (hr i _ hi hb)⟩
theorem io4(ds:List Deferred)(n:Nat)(a c:Int):ck8 (E6 ds) (K3 n a c) [.cell 2 22,.cell 3 3,.cell 4 23] (λvs=>some (.c (.ret (one1 vs) [])))=some (.c (.ret (.tup [g8,i64 a,i64 c]) [])):=by kernel_rfl
theorem fw4 (q : Nat) (s : ByteArray) (a : Int) (T : Nat × (Nat -> Int) × (Nat -> Int) × (Nat -> ByteArray) × (Nat -> Int)) (hz : bJ q s = some (a, 0, T)) (e : Int × Int) (hp : dk7 q (a, T) = some e) :
 SC E5 8 [st s] [] (.ret (.tup [g8, i64 e.1, i64 e.2]) []) := by
 refine ⟨⟨_, Tryd.func8, by kernel_rfl, by intro e; exact absurd e (by decide +kernel)⟩, λβ S w us hus hM hG => ?_⟩;obtain rfl : us = [.string s] := by simpa [b8, den] using hus
 refine calls_of_wp_defers Tryd.func8 rfl ?_;refine (congrArg (λc => Code.wp Tryd.prog c _ _ _) (?_ : c8.erase = _)).mp ?_
 ·kernel_rfl
 rw [ig2]
 have R0 : Rel (E6 []) β S (· < 0) (s0 s) { tmps := [Value.string s].toArray ++ Array.replicate (31 - [Value.string s].toArray.size) undef, defers := [] } w := by
  refine ⟨?_, hM, ⟨λ_ => rfl, λd hd => (by cases hd), λ_ => rfl⟩, λi hi => hi, ⟨hG.rd, hG.inv⟩, λi hi => hi⟩;have e : ([Value.string s].toArray ++ Array.replicate (31 - [Value.string s].toArray.size) undef).toList = [Value.string s] ++ List.replicate 30 undef := by simp
  rw [e];refine bP hus ?_;have := lO (β := β) (S := S) (w := w) (D := (· < 0)) (f := λ_ : Nat => V.sc undef) (g := λ_ => undef) (l := List.range 30) (λ_ _ => by simp [den]);simpa [List.map_const'] using this
 refine cn6 (E := E6 []) (Am.Ends.of (hX6 []) a8 cB (st1 s)) R0 λβ1 S1 D1 a1 w1 R1 v1 => ?_
 refine cn6 (E := E6 []) (Am.Ends.of (hX6 []) (fk (λx z h => sc6.2 (bc6 q x z h)) a8) cB ((st2 (bJ q) s).trans (by
  rw [show ay3 aV (bJ q) (aV s) = bJ q s from congrFun (au7 (bJ q)) s, hz]; rfl))) R1 λβ2 S2 D2 a2 w2 R2 v2 => ?_
 refine cn6 (E := E6 []) (Am.Ends.of (hX6 []) a8 cB (st3 a T)) R2 λβ3 S3 D3 a3 w3 R3 v3 => ?_
 have hsz : a3.tmps.size = 31 := by
  have := q9 R3.fr;simpa [s2, jk] using this.symm
 have d0 : den β3 S3 w3 D3 (.ptr 0 0) (a3.tmps.getD 2 undef) := by simpa [s2] using hZ R3.fr 2
 have d1 : den β3 S3 w3 D3 (.ptr 1 0) (a3.tmps.getD 3 undef) := by simpa [s2] using hZ R3.fr 3
 have d2 : den β3 S3 w3 D3 (.ptr 2 0) (a3.tmps.getD 4 undef) := by simpa [s2] using hZ R3.fr 4
 have hdf : a3.defers = [] := R3.df.2.2 rfl;refine wp_seq (yM hsz ?_);show Code.wp Tryd.prog (dh7 4 c8).erase _ _ w3;rw [hdf]
 have R4 : Rel (E6 [dcl (a3.tmps.getD 2 undef) (a3.tmps.getD 3 undef) (a3.tmps.getD 4 undef)]) β3 S3 D3 (s2 3 (a, 0, T))
  { tmps := a3.tmps.setIfInBounds 17 (.func (.func 17) #[] #[a3.tmps.getD 2 undef, a3.tmps.getD 3 undef, a3.tmps.getD 4 undef]), defers := [dcl (a3.tmps.getD 2 undef) (a3.tmps.getD 3 undef) (a3.tmps.getD 4 undef)] } w3 := by
  refine ⟨?_, R3.mem, ⟨λh => (nomatch (show true = false from h)), λd hd => ?_, λ_ => rfl⟩, R3.lt, ⟨R3.gl.rd, R3.gl.inv⟩, λi hi => ?_⟩
  ·have hfr := R3.fr;refine do2 (by simp [s2, jk, hsz]) λi => ?_;by_cases h17 : i = 17
   ·subst h17;simp [s2, jk, den]
   ·have := hZ hfr i
    have e : (a3.tmps.setIfInBounds 17 (.func (.func 17) #[] #[a3.tmps.getD 2 undef, a3.tmps.getD 3 undef, a3.tmps.getD 4 undef])).toList.getD i undef = a3.tmps.toList.getD i undef := by
     rw [Array.toList_setIfInBounds, List.getD_eq_getElem?_getD, List.getD_eq_getElem?_getD, List.getElem?_set_ne (λh => h17 h.symm)]
    rw [e];exact this
  ·simp only [List.mem_singleton] at hd;subst hd;exact ⟨17, _, rfl, rfl⟩
  ·match i, hi with
   | 0, _ => simp only [den] at d0; exact d0.1.1
   | 1, _ => simp only [den] at d1; exact d1.1.1
   | 2, _ => simp only [den] at d2; exact d2.1.1
 obtain ⟨v, s', hv, hE, x0, x1, x2, y0, y1, l, ef, e0, e1, e2⟩ := fo3 (ds := [dcl (a3.tmps.getD 2 undef) (a3.tmps.getD 3 undef) (a3.tmps.getD 4 undef)]) q _ e hp c8 if2;cases hv;refine wp_mono (hE _ _ _ _ _ R4) λe' a' w' hpost => ?_;obtain ⟨β', S', D', q1, q2, q3, q4, q5, q6⟩ := hpost.ex;cases e' <;> simp only [ExR] at q1;obtain ⟨u, rfl, g1, g2⟩ := q1;show Leaves _ _ _ _ a'.defers (.panicking _) w';rw [show a'.defers = [dcl (a3.tmps.getD 2 undef) (a3.tmps.getD 3 undef) (a3.tmps.getD 4 undef)] from q2.df.2.2 rfl]
 -- the blocks of the results alone
 have M5 : Mem (ofOrder β' [0, 1, 2]) S' (· < 3) (Am.hp (H3 .junk .junk .junk)) w' := by
  have h := q2.mem.renum (order := [0, 1, 2]) (by decide);refine Mem.le h (gw5 ?_);simp only [keep, List.map_cons, List.map_nil, e0, e1, e2, Option.map_some, Chunk.ren, H3, ay8];exact ⟨ChLe.blk (LeL.cons (Le.junk _) LeL.nil), ChLe.blk (LeL.cons (Le.junk _) LeL.nil), ChLe.blk (LeL.cons (Le.junk _) LeL.nil), trivial⟩
 have r5 : tL 3 β3 (ofOrder β' [0, 1, 2]) := by
  intro i bm hi hb;refine q4 i bm hi ?_
  match i, hi, hb with
  | 0, _, hb => exact hb
  | 1, _, hb => exact hb
  | 2, _, hb => exact hb
 have v5 : Evo β3 S3 w3 (ofOrder β' [0, 1, 2]) S' w' := q3.trans ⟨rfl, rfl, rfl, Nat.le_refl _, λ_ _ _ => rfl, λ_ h => h, λ_ h => .inl h, λi b m hb h0 => by
  obtain ⟨j, _, hj⟩ := o6 hb
  exact .inr ⟨j, m, h0, hj⟩⟩
 have k0 := uX r5 (show 0 < 3 by decide) (show (· < 3) 0 by decide) d0 (S' := S') (w' := w') (D' := (· < 3));have k1 := uX r5 (show 1 < 3 by decide) (show (· < 3) 1 by decide) d1 (S' := S') (w' := w') (D' := (· < 3));have k2 := uX r5 (show 2 < 3 by decide) (show (· < 3) 2 by decide) d2 (S' := S') (w' := w') (D' := (· < 3));have hv5 : den (ofOrder β' [0, 1, 2]) S' w' (· < 3) (.ifc 51 (.agg [i64 e.1, i64 e.2])) u := q8 (λ_ h => h) (λ_ _ => rfl) _ _ g1 g2
 refine leaves_cons (f := 17) (args := #[a3.tmps.getD 2 undef, a3.tmps.getD 3 undef, a3.tmps.getD 4 undef]) (by simp) (by
  have hcal := (gr5 #[a3.tmps.getD 2 undef, a3.tmps.getD 3 undef, a3.tmps.getD 4 undef] w' rfl).1;simp only [invoke, Array.append_empty]
  exact hcal) ((ik1 M5 ⟨q2.gl.rd, q2.gl.inv⟩ k0 k1 k2 hv5).mono ?_)
 rintro e5 u5 w5 ⟨⟨vv, rfl⟩, rfl, β6, S6, M6, G6, v6, r6⟩;show Leaves _ _ _ _ [] .returning w5
 -- the results are read
 have t2 := hZ q2.fr 2;have t3 := hZ q2.fr 3;have t4 := hZ q2.fr 4;rw [ef] at t2 t3 t4
 have r6' : tL 3 β' β6 := by
  intro i bm hi hb;have hb := r6 i bm hi hb
  match i, hi, hb with
  | 0, _, hb => exact hb
  | 1, _, hb => exact hb
  | 2, _, hb => exact hb
 have R7 : Rel (E6 []) β6 S6 (· < 3) (K3 l.length e.1 e.2) { a' with defers := [] } w5 := by
  refine ⟨do2 ?_ λi => ?_, M6, ⟨λ_ => rfl, λd hd => (by cases hd), λ_ => rfl⟩, λi hi => hi, ⟨G6.rd, G6.inv⟩, λi hi => hi⟩
  ·have := q9 q2.fr;rw [ef] at this;simpa [K3] using this
  ·match i with
   | 0 => simp [K3, den]
   | 1 => simp [K3, den]
   | 2 => exact uX r6' (show 0 < 3 by decide) (show (· < 3) 0 by decide) t2
   | 3 => exact uX r6' (show 1 < 3 by decide) (show (· < 3) 1 by decide) t3
   | 4 => exact uX r6' (show 2 < 3 by decide) (show (· < 3) 2 by decide) t4
   | i + 5 =>
    have e : (K3 l.length e.1 e.2).fr.getD (i + 5) V.junk = .junk := by
     simp only [K3, List.getD_eq_getElem?_getD, List.getElem?_cons_succ, List.getElem?_replicate];split <;> rfl
    rw [e];simp [den]
 obtain ⟨vs, h3, h4⟩ := bb4 _ (io4 [] l.length e.1 e.2);simp only [Option.some.injEq, Ans.c.injEq, CRes.ret.injEq, and_true] at h3;obtain ⟨rs, g3, g4⟩ := h4 β6 S6 (· < 3) { a' with defers := [] } w5 R7;refine ⟨(if h : rs.toArray.size = 1 then rs.toArray[0] else .tuple rs.toArray), ?_, ?_⟩
 ·rw [ck0, Sem.run_bind]
  have hrun : ((#[.cell 2 22, .cell 3 3, .cell 4 23] : Array ResultVar).mapM (eq9 a'.tmps)).run Tryd.prog w5 = .ok rs.toArray w5 := by
   rw [Array.mapM_eq_mapM_toList, Sem.run_map];have g3' : (List.mapM (eq9 a'.tmps) [ResultVar.cell 2 22, .cell 3 3, .cell 4 23]).run Tryd.prog w5 = .ok rs w5 := g3;rw [show (#[ResultVar.cell 2 22, .cell 3 3, .cell 4 23]).toList = [.cell 2 22, .cell 3 3, .cell 4 23] from rfl, g3'];rfl
  exact (congrArg (λr => Result.andThen r _) hrun).trans rfl
 ·have hd := ed6 g4;rw [h3] at hd;have M8 := M6.renum (order := []) (by decide)
  refine ⟨_, _, S6, rfl, M8, q8 (λ_ h => h) (λ_ _ => rfl) _ _ (by simp [V.pure, m8]) hd, (((v1.trans v2).trans v3).trans v5).trans (v6.trans ⟨rfl, rfl, rfl, Nat.le_refl _, λ_ _ _ => rfl, λ_ h => h, λ_ h => .inl h, λi b m hb h0 => by
   obtain ⟨j, _, hj⟩ := o6 hb
   exact .inr ⟨j, m, h0, hj⟩⟩), λi bm _ hb => ?_⟩
  obtain ⟨j, hj, _⟩ := o6 hb;cases hj
end Go.Proofs.YtjfkkokeegpeiaaDoor
/- Parse reads as the plain parser reads. -/
namespace Go.Proofs.YtjfkkokeegpeiaaDoor
open Go Go.Am Go.Proofs.Lx
set_option maxRecDepth 100000
abbrev AcP:Type:=(Nat->ByteArray)×(Nat->Nat)×(Nat->Nat->List V)×(Nat->Int)×(Nat->Int)×(Nat->ByteArray)×(Nat->Nat)×(Nat->Nat->List V)×Nat
def ez8(l:List Prc)(a:AcP):Prop:=a.2.2.2.2.2.2.2.2=l.length/\∀j c,l[j]? =some c->a.1 j=c.x/\a.2.1 j=c.ps.length/\(∀i m,c.ps[i]? =some m->a.2.2.1 j i=[st m.x,st m.u])/\RepN c.b (a.2.2.2.1 j,a.2.2.2.2.1 j,a.2.2.2.2.2.1 j,a.2.2.2.2.2.2.1 j,a.2.2.2.2.2.2.2.1 j)
abbrev hm1:Type:=ByteArray×Nat×(Nat->ByteArray)×(Nat->ByteArray)×n4
def ha4(z:hm1):AcP:=(λ_=>z.1,λ_=>z.2.1,λ_ i=>[st (z.2.2.1 i),st (z.2.2.2.1 i)],λ_=>z.2.2.2.2.1,λ_=>z.2.2.2.2.2.1,λ_=>z.2.2.2.2.2.2.1,λ_=>z.2.2.2.2.2.2.2.1,λ_=>z.2.2.2.2.2.2.2.2,1)
theorem eb8{c:Prc}{z:hm1}(h:ia4 c z):ez8 [c] (ha4 z):=by
 refine⟨rfl,λj c' e=>?_⟩;cases j with
 |zero=>
  simp only[List.getElem?_cons_zero,Option.some.injEq]at e;subst e;obtain⟨h1,⟨h2,h3⟩,h4⟩:=h;exact⟨h1,h2,λi m e=>by obtain⟨g1,g2⟩:=h3 i m e;simp only at g1 g2;simp only[ha4,g1,g2],h4⟩
 |succ j=>simp at e
def gb2(a:AcP)(z:hm1):AcP:=(λj=>if j<a.2.2.2.2.2.2.2.2 then a.1 j else z.1,λj=>if j<a.2.2.2.2.2.2.2.2 then a.2.1 j else z.2.1,λj i=>if j<a.2.2.2.2.2.2.2.2 then a.2.2.1 j i else[st (z.2.2.1 i),st (z.2.2.2.1 i)],λj=>if j<a.2.2.2.2.2.2.2.2 then a.2.2.2.1 j else z.2.2.2.2.1,λj=>if j<a.2.2.2.2.2.2.2.2 then a.2.2.2.2.1 j else z.2.2.2.2.2.1,λj=>if j<a.2.2.2.2.2.2.2.2 then a.2.2.2.2.2.1 j else z.2.2.2.2.2.2.1,λj=>if j<a.2.2.2.2.2.2.2.2 then a.2.2.2.2.2.2.1 j else z.2.2.2.2.2.2.2.1,λj i=>if j<a.2.2.2.2.2.2.2.2 then a.2.2.2.2.2.2.2.1 j i else z.2.2.2.2.2.2.2.2 i,a.2.2.2.2.2.2.2.2+1)
theorem dw2{l:List Prc}{a:AcP}{c:Prc}{z:hm1}(h:ez8 l a)(g:ia4 c z):ez8 (l++[c]) (gb2 a z):=by
 refine⟨by simp[gb2,h.1],λj c' e=>?_⟩;by_cases hj:j<l.length
 ·rw[List.getElem?_append_left hj]at e;have:=h.2 j c' e;simp only[gb2,h.1,hj,if_true];exact this
 ·rw[List.getElem?_append_right (by omega)]at e;simp only[gb2,h.1,hj,if_false];cases hk:j-l.length with
  |zero=>
   rw[hk]at e;simp only[List.getElem?_cons_zero,Option.some.injEq]at e;subst e;obtain⟨h1,⟨h2,h3⟩,h4⟩:=g;exact⟨h1,h2,λi m e=>by obtain⟨g1,g2⟩:=h3 i m e;simp only at g1 g2;simp only[g1,g2],h4⟩
  |succ n=>rw[hk]at e;simp at e
def x00(N:Nat)(T:Nat->Tkn):StT:=(0,0,N,(λj=>(T j).k),(λj=>(T j).a),(λj=>(T j).t),(λj=>(T j).n),0,(λ_=>ByteArray.empty),0,(λ_=>ByteArray.empty))
theorem de4{N:Nat}{T:Nat->Tkn}(hT:TokN N T):RS N T [] ⟨0,0,[]⟩ (x00 N T):=⟨_,_,rfl,λj b e=>by simp at e,λj b e=>by simp at e,hT.pos,Nat.zero_le _,by simp,by simp⟩
def bl4(N:Nat)(T:Nat->Tkn):Nat×(Nat->Int)×(Nat->Int)×(Nat->ByteArray)×(Nat->Int):=(N,(λj=>(T j).k),(λj=>(T j).a),(λj=>(T j).t),(λj=>(T j).n))
theorem dy9{N:Nat}{T:Nat->Tkn}(hT:TokN N T)(q:Nat):zP q (0,0,bl4 N T)=some ((T 0).k,(T 0).a,(T 0).t,(T 0).n,0,0,bl4 N T):=by
 unfold zP at3;have:=hT.pos;refine(if_pos ?_).trans rfl;show(0:Int)<=0/\(0:Int)< ((N:Nat):Int);omega
theorem dr9{N:Nat}{T:Nat->Tkn}{pr:List ByteArray}{s:PS}{x:StT}(q:Nat)(h:RS N T pr s x):next q (x.1,x.2.1,x.2.2.1,x.2.2.2.1,x.2.2.2.2.1,x.2.2.2.2.2.1,x.2.2.2.2.2.2.1,x.2.2.2.2.2.2.2.1,x.2.2.2.2.2.2.2.2.1,x.2.2.2.2.2.2.2.2.2.1,x.2.2.2.2.2.2.2.2.2.2)=some ((T s.p).k,(T s.p).a,(T s.p).t,(T s.p).n,x):=gH q h
section
variable {N:Nat} {T:Nat->Tkn}
def spT(a0 e0:Int)(x:StT)(a:AcP):=(a.1,a.2.1,a.2.2.1,a.2.2.2.1,a.2.2.2.2.1,a.2.2.2.2.2.1,a.2.2.2.2.2.2.1,a.2.2.2.2.2.2.2.1,a0,e0,x.2.2.1,x.2.2.2.1,x.2.2.2.2.1,x.2.2.2.2.2.1,x.2.2.2.2.2.2.1,x.1,x.2.1,x.2.2.2.2.2.2.2.1,x.2.2.2.2.2.2.2.2.2.1,x.2.2.2.2.2.2.2.2.1,x.2.2.2.2.2.2.2.2.2.2,a.2.2.2.2.2.2.2.2)
def BPT(T:Nat->Tkn)(N:Nat)(a0 e0:Int)(acc:List Prc):PR (List Prc)->nK->Prop
 | .ok l s,.inr (.inl _)=>acc++l=[]
 | .ok l s,.inr (.inr (.inr z))=>∃a:AcP,z=(a.2.2.2.2.2.2.2.2,a.1,a.2.1,a.2.2.1,a.2.2.2.1,a.2.2.2.2.1,a.2.2.2.2.2.1,a.2.2.2.2.2.2.1,a.2.2.2.2.2.2.2.1,a0,e0)/\ez8 (acc++l) a
 | .err p c,.inl e=>p<N/\e.1=(T p).a/\e.2.1=c
 | .err p c,.inr (.inr (.inl e))=>p<N/\e.1=(T p).a/\e.2.1=c
 |_,_=>False
def PST(N:Nat)(T:Nat->Tkn)(a0 e0:Int)(acc:List Prc)(pr:List ByteArray)(s:PS)(x:StT):bN->Prop
 | .inl y=>acc=[]/\pr=[]/\s=⟨0,0,[]⟩/\x=x00 N T/\y=(a0,e0,bl4 N T)
 | .inr y=>∃a,y=spT a0 e0 x a/\ez8 acc a
theorem ee4(hT:TokN N T)(a0 e0:Int){F q:Nat}(hF:F<=1000000000)(hq:2*F+2000000100<=q)(x0:eK):∀(g:Nat),g<=F->∀(m:Nat),g<m->∀(acc:List Prc) (pr:List ByteArray) (s:PS) (x:StT) (y:bN),PST N T a0 e0 acc pr s x y->acc.length+g<=1000000000->pr.length+g<=1000000000->RS N T pr s x->s5 T g pr s≠ .out->
 Rs (zH (bJ q) (zP q) (next q) (y8 q) (y9 q) m x0 y) (BPT T N a0 e0 acc (s5 T g pr s)):=by
 intro g
 induction g with
 |zero=>intro _ m _ acc pr s x y _ _ _ _ ho;rw[s5]at ho;exact absurd rfl ho
 |succ g ih=>
  intro hg m hm acc pr s x y hy hb hb2 h ho;obtain⟨m,rfl⟩:∃k,m=k+1:=⟨m-1,by omega⟩;unfold zH;refine Rs.step3 λQ hQ=>?_;have hop:s5 T (g+1) pr s=if(T s.p).k=0 then .ok [] s else(aj7 T g pr s).bind λx s1=>(s5 T g (pr++[x.x]) s1).bind λl s2=>.ok (x::l) s2:=by rw[s5]
  rcases y with y|y
  ·obtain⟨rfl,rfl,rfl,rfl,rfl⟩:=hy;rw[Sum.elim_inl];unfold kA;dsimp only;rw[dy9 hT];dsimp only[Option.bind_some];by_cases hk:(T 0).k=0
   ·rw[if_pos hk]at hop;refine Rs.neg (by simp[hk]) (Rs.some ?_);show BPT T N a0 e0 [] (s5 T (g+1) [] ⟨0,0,[]⟩) _;rw[hop];rfl
   ·rw[if_neg hk]at hop;refine Rs.pos (by simpa using hk) ?_;have hp:=tR (f:=g) (q:=q) hT (by omega) (by omega) (de4 hT) (by simp) (PR.bind_out (hop▸ho));refine Rs.bind (f:=_) (show Rs (y8 q (0,0,bl4 N T)) _ from hp) λz hz=>?_;cases hr:aj7 T g [] ⟨0,0,[]⟩with
    |out=>rw[hr]at hz;rcases z with z|z<;>exact hz.elim
    |err p c=>
     rw[hr]at hz hop;rcases z with z|z
     ·exact hz.elim
     ·refine Rs.some ?_;show BPT T N a0 e0 [] (s5 T (g+1) [] ⟨0,0,[]⟩) _;rw[hop];exact⟨hz.1,by rw[hz.2],by rw[hz.2]⟩
    |ok c s2=>
     rw[hr]at hz hop;dsimp only[PR.bind]at hop;rcases z with z|z
     ·obtain⟨zc,zx⟩:=hz;refine Rs.some (hQ _ ?_);have ho2:=PR.bind_out (hop▸ho);refine(ih (by omega) m (by omega) [c] ([]++[c.x]) s2 _ (.inr (spT a0 e0 z.2.2.2.2.2.2.2.2.2 (ha4 (z.1,z.2.1,z.2.2.1,z.2.2.2.1,z.2.2.2.2.1,z.2.2.2.2.2.1,z.2.2.2.2.2.2.1,z.2.2.2.2.2.2.2.1,z.2.2.2.2.2.2.2.2.1)))) ⟨_,rfl,eb8 zc⟩ (by simp;omega) (by simp;omega) zx ho2).mono λz hz=>?_;rw[hop];cases hr2:s5 T g ([]++[c.x]) s2 with
      |out=>exact absurd hr2 ho2
      |err p c=>rw[hr2]at hz;rcases z with z|z|z|z<;>exact hz
      |ok l s3=>
       rw[hr2]at hz;rcases z with z|z|z|z
       ·exact hz.elim
       ·exact absurd (show[c]++l=[]from hz) (by simp)
       ·exact hz.elim
       ·exact hz
     ·exact hz.elim
  ·obtain⟨a,rfl,ha⟩:=hy;have hal:=ha.1;rw[Sum.elim_inr];unfold kO;dsimp only[spT];rw[dr9 q h];dsimp only[Option.bind_some];by_cases hk:(T s.p).k=0
   ·rw[if_pos hk]at hop;refine Rs.neg (by simp[hk]) (Rs.some ?_);show BPT T N a0 e0 acc (s5 T (g+1) pr s) _;rw[hop];exact⟨a,rfl,by rw[List.append_nil];exact ha⟩
   ·rw[if_neg hk]at hop;refine Rs.pos (by simpa using hk) ?_;have hp:=tR (f:=g) (q:=q) hT (by omega) (by omega) h (by omega) (PR.bind_out (hop▸ho));refine Rs.bind hp λz hz=>?_;cases hr:aj7 T g pr s with
    |out=>rw[hr]at hz;rcases z with z|z<;>exact hz.elim
    |err p c=>
     rw[hr]at hz hop;rcases z with z|z
     ·exact hz.elim
     ·refine Rs.some ?_;show BPT T N a0 e0 acc (s5 T (g+1) pr s) _;rw[hop];exact⟨hz.1,by rw[hz.2],by rw[hz.2]⟩
    |ok c s2=>
     rw[hr]at hz hop;dsimp only[PR.bind]at hop;rcases z with z|z
     ·obtain⟨zc,zx⟩:=hz;refine Rs.pos ⟨by unfold d5;omega,by unfold maxLen;omega,Nat.le_refl _⟩ (Rs.some (hQ _ ?_));have ho2:=PR.bind_out (hop▸ho);refine(ih (by omega) m (by omega) (acc++[c]) (pr++[c.x]) s2 _ (.inr (spT a0 e0 z.2.2.2.2.2.2.2.2.2 (gb2 a (z.1,z.2.1,z.2.2.1,z.2.2.2.1,z.2.2.2.2.1,z.2.2.2.2.2.1,z.2.2.2.2.2.2.1,z.2.2.2.2.2.2.2.1,z.2.2.2.2.2.2.2.2.1)))) ⟨_,rfl,dw2 ha zc⟩ (by simp;omega) (by simp;omega) zx ho2).mono λz hz=>?_;rw[hop];cases hr2:s5 T g (pr++[c.x]) s2 with
      |out=>exact absurd hr2 ho2
      |err p c=>rw[hr2]at hz;rcases z with z|z|z|z<;>exact hz
      |ok l s3=>
       rw[hr2]at hz;rcases z with z|z|z|z
       ·exact hz.elim
       ·exact absurd (show(acc++[c])++l=[]from hz) (by simp)
       ·exact hz.elim
       ·obtain⟨a2,e1,e2⟩:=hz;exact⟨a2,e1,by simpa using e2⟩
     ·exact hz.elim
end
end Go.Proofs.YtjfkkokeegpeiaaDoor
/- Parse reads as the plain parser reads. -/
namespace Go.Proofs.YtjfkkokeegpeiaaDoor
open Go Go.Am Go.Proofs.Lx
set_option maxRecDepth 100000
section
variable {N:Nat} {T:Nat->Tkn}
def spP(x:StT)(a:AcP):=(a.1,a.2.1,a.2.2.1,a.2.2.2.1,a.2.2.2.2.1,a.2.2.2.2.2.1,a.2.2.2.2.2.2.1,a.2.2.2.2.2.2.2.1,x.2.2.1,x.2.2.2.1,x.2.2.2.2.1,x.2.2.2.2.2.1,x.2.2.2.2.2.2.1,x.1,x.2.1,x.2.2.2.2.2.2.2.1,x.2.2.2.2.2.2.2.2.2.1,x.2.2.2.2.2.2.2.2.1,x.2.2.2.2.2.2.2.2.2.2,a.2.2.2.2.2.2.2.2)
def BPP(T:Nat->Tkn)(N:Nat)(acc:List Prc):PR (List Prc)->nI->Prop
 | .ok l s,.inr (.inl _)=>acc++l=[]
 | .ok l s,.inr (.inr (.inr z))=>True
 | .err p c,.inl e=>p<N/\e.1=(T p).a/\e.2=c
 | .err p c,.inr (.inr (.inl e))=>p<N/\e.1=(T p).a/\e.2.1=c
 |_,_=>False
def PSP(N:Nat)(T:Nat->Tkn)(acc:List Prc)(pr:List ByteArray)(s:PS)(x:StT):bQ->Prop
 | .inl y=>acc=[]/\pr=[]/\s=⟨0,0,[]⟩/\x=x00 N T/\y=()
 | .inr y=>∃a,y=spP x a/\ez8 acc a
theorem ed7(hT:TokN N T){F q:Nat}(hF:F<=1000000000)(hq:2*F+2000000100<=q)(x0:bW)(hx0:x0.2=bl4 N T):∀(g:Nat),g<=F->∀(m:Nat),g<m->∀(acc:List Prc) (pr:List ByteArray) (s:PS) (x:StT) (y:bQ),PSP N T acc pr s x y->acc.length+g<=1000000000->pr.length+g<=1000000000->RS N T pr s x->s5 T g pr s≠ .out->
 Rs (vH (zP q) (next q) (y8 q) (y9 q) m x0 y) (BPP T N acc (s5 T g pr s)):=by
 intro g
 induction g with
 |zero=>intro _ m _ acc pr s x y _ _ _ _ ho;rw[s5]at ho;exact absurd rfl ho
 |succ g ih=>
  intro hg m hm acc pr s x y hy hb hb2 h ho;obtain⟨m,rfl⟩:∃k,m=k+1:=⟨m-1,by omega⟩;unfold vH;refine Rs.step3 λQ hQ=>?_;have hop:s5 T (g+1) pr s=if(T s.p).k=0 then .ok [] s else(aj7 T g pr s).bind λx s1=>(s5 T g (pr++[x.x]) s1).bind λl s2=>.ok (x::l) s2:=by rw[s5]
  rcases y with y|y
  ·obtain⟨rfl,rfl,rfl,rfl,rfl⟩:=hy;rw[Sum.elim_inl];unfold kU;rw[hx0];rw[dy9 hT];dsimp only[Option.bind_some];by_cases hk:(T 0).k=0
   ·rw[if_pos hk]at hop;refine Rs.neg (by simp[hk]) (Rs.some ?_);show BPP T N [] (s5 T (g+1) [] ⟨0,0,[]⟩) _;rw[hop];rfl
   ·rw[if_neg hk]at hop;refine Rs.pos (by simpa using hk) ?_;have hp:=tR (f:=g) (q:=q) hT (by omega) (by omega) (de4 hT) (by simp) (PR.bind_out (hop▸ho));refine Rs.bind (f:=_) (show Rs (y8 q (0,0,bl4 N T)) _ from hp) λz hz=>?_;cases hr:aj7 T g [] ⟨0,0,[]⟩with
    |out=>rw[hr]at hz;rcases z with z|z<;>exact hz.elim
    |err p c=>
     rw[hr]at hz hop;rcases z with z|z
     ·exact hz.elim
     ·refine Rs.some ?_;show BPP T N [] (s5 T (g+1) [] ⟨0,0,[]⟩) _;rw[hop];exact⟨hz.1,by rw[hz.2],by rw[hz.2]⟩
    |ok c s2=>
     rw[hr]at hz hop;dsimp only[PR.bind]at hop;rcases z with z|z
     ·obtain⟨zc,zx⟩:=hz;refine Rs.some (hQ _ ?_);have ho2:=PR.bind_out (hop▸ho);refine(ih (by omega) m (by omega) [c] ([]++[c.x]) s2 _ (.inr (spP z.2.2.2.2.2.2.2.2.2 (ha4 (z.1,z.2.1,z.2.2.1,z.2.2.2.1,z.2.2.2.2.1,z.2.2.2.2.2.1,z.2.2.2.2.2.2.1,z.2.2.2.2.2.2.2.1,z.2.2.2.2.2.2.2.2.1)))) ⟨_,rfl,eb8 zc⟩ (by simp;omega) (by simp;omega) zx ho2).mono λz hz=>?_;rw[hop];cases hr2:s5 T g ([]++[c.x]) s2 with
      |out=>exact absurd hr2 ho2
      |err p c=>rw[hr2]at hz;rcases z with z|z|z|z<;>exact hz
      |ok l s3=>
       rw[hr2]at hz;rcases z with z|z|z|z
       ·exact hz.elim
       ·exact absurd (show[c]++l=[]from hz) (by simp)
       ·exact hz.elim
       ·trivial
     ·exact hz.elim
  ·obtain⟨a,rfl,ha⟩:=hy;have hal:=ha.1;rw[Sum.elim_inr];unfold kH;dsimp only[spP];rw[dr9 q h];dsimp only[Option.bind_some];by_cases hk:(T s.p).k=0
   ·rw[if_pos hk]at hop;refine Rs.neg (by simp[hk]) (Rs.some ?_);show BPP T N acc (s5 T (g+1) pr s) _;rw[hop];trivial
   ·rw[if_neg hk]at hop;refine Rs.pos (by simpa using hk) ?_;have hp:=tR (f:=g) (q:=q) hT (by omega) (by omega) h (by omega) (PR.bind_out (hop▸ho));refine Rs.bind hp λz hz=>?_;cases hr:aj7 T g pr s with
    |out=>rw[hr]at hz;rcases z with z|z<;>exact hz.elim
    |err p c=>
     rw[hr]at hz hop;rcases z with z|z
     ·exact hz.elim
     ·refine Rs.some ?_;show BPP T N acc (s5 T (g+1) pr s) _;rw[hop];exact⟨hz.1,by rw[hz.2],by rw[hz.2]⟩
    |ok c s2=>
     rw[hr]at hz hop;dsimp only[PR.bind]at hop;rcases z with z|z
     ·obtain⟨zc,zx⟩:=hz;refine Rs.pos ⟨by unfold d5;omega,by unfold maxLen;omega,Nat.le_refl _⟩ (Rs.some (hQ _ ?_));have ho2:=PR.bind_out (hop▸ho);refine(ih (by omega) m (by omega) (acc++[c]) (pr++[c.x]) s2 _ (.inr (spP z.2.2.2.2.2.2.2.2.2 (gb2 a (z.1,z.2.1,z.2.2.1,z.2.2.2.1,z.2.2.2.2.1,z.2.2.2.2.2.1,z.2.2.2.2.2.2.1,z.2.2.2.2.2.2.2.1,z.2.2.2.2.2.2.2.2.1)))) ⟨_,rfl,dw2 ha zc⟩ (by simp;omega) (by simp;omega) zx ho2).mono λz hz=>?_;rw[hop];cases hr2:s5 T g (pr++[c.x]) s2 with
      |out=>exact absurd hr2 ho2
      |err p c=>rw[hr2]at hz;rcases z with z|z|z|z<;>exact hz
      |ok l s3=>
       rw[hr2]at hz;rcases z with z|z|z|z
       ·exact hz.elim
       ·exact absurd (show(acc++[c])++l=[]from hz) (by simp)
       ·exact hz.elim
       ·trivial
     ·exact hz.elim
end
end Go.Proofs.YtjfkkokeegpeiaaDoor
/- Trees, procedures as values; what Parse returns. -/
namespace Go.Proofs.YtjfkkokeegpeiaaDoor
open Go Go.Am Go.Proofs.Lx
set_option maxRecDepth 100000
def dfl:List V:=[i64 0,i64 0,st ⟨#[]⟩,.ro 4 0 (λ_=>[])]
mutual
def wR:Tr->List V
 | .node k n s l=>[i64 k,i64 n,st s,.ro 4 l.length (λj=>(r9 l).getD j dfl)]
def r9:List Tr->List (List V)
 | []=>[]
 |t::l=>wR t::r9 l
end
def gh5(m:Prm):List V:=[st m.x,st m.u]
def lF(c:Prc):List V:=st c.x:: .ro 2 c.ps.length (λj=>(c.ps.map gh5).getD j [st ⟨#[]⟩,st ⟨#[]⟩])::wR c.b
def gl0:List V:=st ⟨#[]⟩:: .ro 2 0 (λ_=>[])::dfl
def aj5(l:List Prc):V:=.ro 6 l.length (λj=>(l.map lF).getD j gl0)
theorem fm8(t:Tr):m8 (wR t)=true:=by cases t;simp[wR,m8,V.pure]
theorem gd4:∀(l:List Tr) (j:Nat),m8 ((r9 l).getD j dfl)=true
 | [],j=>by simp[r9,dfl,m8,V.pure]
 |t::l,0=>by simp only[r9,List.getD_cons_zero];exact fm8 t
 |t::l,j+1=>by simp only[r9,List.getD_cons_succ];exact gd4 l j
mutual
theorem leT:∀(t:Tr) (x:n4),RepN t x->LeL [i64 x.1,i64 x.2.1,st x.2.2.1,.ro 4 x.2.2.2.1 x.2.2.2.2] (wR t)
 | .node k n s l,x,h=>by
  simp only[RepN]at h;obtain⟨h1,h2,h3,h4,h5⟩:=h;simp only[wR,h1,h2,h3,h4];refine LeL.cons (Le.refl _) (LeL.cons (Le.refl _) (LeL.cons (Le.refl _) (LeL.cons (Le.ro λj hj=>⟨?_,gd4 l j⟩) LeL.nil)));have:=ij4 l x.2.2.2.2 0 h5 j hj
  rwa [Nat.zero_add]at this
theorem ij4:∀(l:List Tr) (f:Nat->List V) (i:Nat),rW l f i->∀j,j<l.length->LeL (f (i+j)) ((r9 l).getD j dfl)
 | [],_,_,_,j,hj=>by simp at hj
 |t::l,f,i,h,0,_=>by
  simp only[rW]at h;obtain⟨⟨y,e,hy⟩,_⟩:=h;simp only[r9,List.getD_cons_zero,Nat.add_zero];rw[e];exact leT t y hy
 |t::l,f,i,h,j+1,hj=>by
  simp only[rW]at h;have:=ij4 l f (i+1) h.2 j (by simpa using hj);simp only[r9,List.getD_cons_succ]
  rwa [show i+(j+1)=i+1+j by omega]
end
theorem if8(c:Prc):m8 (lF c)=true:=by
 have:=fm8 c.b;simp only[lF,m8,V.pure,Bool.and_eq_true];exact⟨trivial,trivial,this⟩
theorem leP{l:List Prc}{a:AcP}(h:ez8 l a):Le (.ro 6 a.2.2.2.2.2.2.2.2 (λj=>[st (a.1 j),.ro 2 (a.2.1 j) (a.2.2.1 j),i64 (a.2.2.2.1 j),i64 (a.2.2.2.2.1 j),st (a.2.2.2.2.2.1 j),.ro 4 (a.2.2.2.2.2.2.1 j) (a.2.2.2.2.2.2.2.1 j)])) (aj5 l):=by
 unfold aj5;rw[h.1];refine Le.ro λj hj=>?_;have hj':l[j]? =some l[j]:=List.getElem?_eq_getElem hj;obtain⟨h1,h2,h3,h4⟩:=h.2 j _ hj'
 have e:(l.map lF).getD j gl0=lF l[j]:=by
  rw[List.getD_eq_getElem?_getD,List.getElem?_map,hj'];rfl
 rw[e];refine⟨?_,if8 _⟩;unfold lF;rw[h1,h2];refine LeL.cons (Le.refl _) (LeL.cons (Le.ro_eq λi hi=>?_) (leT _ _ h4));have hi':l[j].ps[i]? =some l[j].ps[i]:=List.getElem?_eq_getElem hi;rw[h3 i _ hi',List.getD_eq_getElem?_getD,List.getElem?_map,hi'];exact⟨rfl,rfl⟩
theorem ft7{q:Nat}{s:ByteArray}{z:dF}(hz:bJ q s=some z)(he:z.2.1≠0):SC E5 8 [st s] [] (.ret (.tup [aj5 [],i64 z.1,i64 z.2.1]) []):=by
 have hp:bc5 q s=some (.inl (z.1,z.2.1)):=by
  unfold bc5 sX;rw[hz];dsimp only[Option.bind_some];rw[if_pos (by simpa using he)]
 exact SC.le (bu7 q s _ hp) (Le.tup (LeL.cons Le.nil_ro (LeL.cons (Le.refl _) (LeL.cons (Le.refl _) LeL.nil))))
theorem fn9{N:Nat}{T:Nat->Tkn}(hT:TokN N T){F q:Nat}(hF:F<=1000000000)(hq:2*F+2000000100<=q){s:ByteArray}{a:Int}(hz:bJ q s=some (a,0,bl4 N T)):
 match s5 T F [] ⟨0,0,[]⟩with
 | .ok l _=>SC E5 8 [st s] [] (.ret (.tup [aj5 l,i64 0,i64 0]) [])
 | .err p c=>p<N/\SC E5 8 [st s] [] (.ret (.tup [aj5 [],i64 (T p).a,i64 c]) [])
 | .out=>True:=by
 cases hr:s5 T F [] ⟨0,0,[]⟩with
 |out=>trivial
 |err p c=>
  obtain⟨z,h1,h2⟩:=ed7 (N:=N) hT hF hq (a,bl4 N T) rfl F (Nat.le_refl _) q (by omega) [] [] ⟨0,0,[]⟩ (x00 N T) (.inl ()) ⟨rfl,rfl,rfl,rfl,rfl⟩ (by simpa using hF) (by simpa using hF) (de4 hT) (by rw[hr];intro h;cases h);rw[hr]at h2
  have key:∃e:Int×Int,dk7 q (a,bl4 N T)=some e/\p<N/\e=((T p).a,c):=by
   unfold dk7 wG;rw[h1];dsimp only[Option.bind_some];rcases z with z|z|z|z
   ·obtain⟨g1,g2,g3⟩:=h2;exact⟨z,rfl,g1,Prod.ext g2 g3⟩
   ·exact h2.elim
   ·obtain⟨g1,g2,g3⟩:=h2;exact⟨(z.1,z.2.1),rfl,g1,Prod.ext g2 g3⟩
   ·exact h2.elim
  obtain⟨e,k1,k2,rfl⟩:=key;exact⟨k2,SC.le (fw4 q s a (bl4 N T) hz _ k1) (Le.tup (LeL.cons Le.nil_ro (LeL.cons (Le.refl _) (LeL.cons (Le.refl _) LeL.nil))))⟩
 |ok l s2=>
  obtain⟨z,h1,h2⟩:=ee4 (N:=N) hT a 0 hF hq s F (Nat.le_refl _) q (by omega) [] [] ⟨0,0,[]⟩ (x00 N T) (.inl (a,0,bl4 N T)) ⟨rfl,rfl,rfl,rfl,rfl⟩ (by simpa using hF) (by simpa using hF) (de4 hT) (by rw[hr];intro h;cases h);rw[hr]at h2;rcases z with z|z|z|z
  ·exact h2.elim
  ·have e:l=[]:=by simpa[BPT]using h2
   subst e
   have hp:bc5 q s=some (.inl (0,0)):=by
    unfold bc5 sX;rw[hz];dsimp only[Option.bind_some];rw[if_neg (by simp),h1];rfl
   exact SC.le (bu7 q s _ hp) (Le.tup (LeL.cons Le.nil_ro (LeL.cons (Le.refl _) (LeL.cons (Le.refl _) LeL.nil))))
  ·exact h2.elim
  ·obtain⟨b,rfl,hb⟩:=h2;rw[List.nil_append]at hb
   have hpt:bc5 q s=some (.inr (b.2.2.2.2.2.2.2.2,b.1,b.2.1,b.2.2.1,b.2.2.2.1,b.2.2.2.2.1,b.2.2.2.2.2.1,b.2.2.2.2.2.2.1,b.2.2.2.2.2.2.2.1)):=by
    unfold bc5 sX;rw[hz];dsimp only[Option.bind_some];rw[if_neg (by simp),h1];rfl
   have h3:=SC.giveM (L2:=[]) 0 (bu7 q s _ hpt) (by rfl) (by simp[V.bw,V.bw2,V.bw1,Am.hp,V.pure,m8]);simp only[V.bw,V.bw2,V.bw1,Am.hp,List.map_cons,List.map_nil,List.getD_eq_getElem?_getD,List.getElem?_cons_succ,List.getElem?_cons_zero,Option.getD_some,Nat.zero_add,Nat.le_refl,and_self,if_true]at h3;exact SC.le h3 (Le.tup (LeL.cons (leP hb) (LeL.cons (Le.refl _) (LeL.cons (Le.refl _) LeL.nil))))
end Go.Proofs.YtjfkkokeegpeiaaDoor
/- Same, of trees as they are handed on: are they equal? -/
namespace Go.Proofs.YtjfkkokeegpeiaaDoor
open Go Go.Am Go.Proofs.Lx
set_option maxRecDepth 100000
def eT:Tr->n4| .node k n s l=>(k,n,s,l.length,λj=>(r9 l).getD j dfl)
theorem ac3(t:Tr):wR t=[i64 (eT t).1,i64 (eT t).2.1,st (eT t).2.2.1,.ro 4 (eT t).2.2.2.1 (eT t).2.2.2.2]:=by cases t;simp[wR,eT]
def im2:Tr:=.node 0 0 ⟨#[]⟩ []
theorem ai0:∀(l:List Tr) (j:Nat) (t:Tr),l[j]? =some t->(r9 l).getD j dfl=wR t
 | [],j,t,h=>by simp at h
 |t::l,0,u,h=>by simp only[List.getElem?_cons_zero,Option.some.injEq]at h;subst h;simp[r9]
 |t::l,j+1,u,h=>by
  simp only[r9,List.getD_cons_succ];exact ai0 l j u (by simpa using h)
theorem bx4:∀(l:List Tr) (j:Nat),l.length<=j->(r9 l).getD j dfl=dfl
 | [],j,_=>by simp[r9]
 |t::l,0,h=>by simp at h
 |t::l,j+1,h=>by
  simp only[r9,List.getD_cons_succ];exact bx4 l j (by simpa using h)
theorem f8(l:List Tr):xW (λj=>(r9 l).getD j dfl):=by
 intro j;cases h:l[j]?with
 |none=>
  have:l.length<=j:=by
   rcases Nat.lt_or_ge j l.length with hl|hl
   ·rw[List.getElem?_eq_getElem hl]at h;cases h
   ·exact hl
  unfold opK opN opS opM opF;dsimp only;rw[bx4 l j this];rfl
 |some t=>
  unfold opK opN opS opM opF;dsimp only;rw[ai0 l j t h,ac3];rfl
theorem mR{l:List Tr}{j:Nat}{t:Tr}(h:l[j]? =some t):(opK (λj=>(r9 l).getD j dfl) j,opN (λj=>(r9 l).getD j dfl) j,opS (λj=>(r9 l).getD j dfl) j,opM (λj=>(r9 l).getD j dfl) j,opF (λj=>(r9 l).getD j dfl) j)=eT t:=by
 unfold opK opN opS opM opF;dsimp only;rw[ai0 l j t h,ac3];rfl
mutual
def szT:Tr->Nat
 | .node _ _ _ l=>1+szL l
def szL:List Tr->Nat
 | []=>0
 |t::l=>szT t+szL l+1
end
theorem ja0:∀(l:List Tr) (j:Nat) (t:Tr),l[j]? =some t->szT t<szL l+1/\l.length<=szL l
 | [],j,t,h=>by simp at h
 |t::l,0,u,h=>by
  simp only[List.getElem?_cons_zero,Option.some.injEq]at h;subst h;simp only[szL,List.length_cons]
  have:l.length<=szL l:=by
   clear t
   induction l with
   |nil=>simp[szL]
   |cons a l ih=>simp only[szL,List.length_cons];omega
  omega
 |t::l,j+1,u,h=>by
  have:=ja0 l j u (by simpa using h);simp only[szL,List.length_cons];omega
theorem ff5(l:List Tr):l.length<=szL l:=by
 induction l with
 |nil=>simp[szL]
 |cons a l ih=>simp only[szL,List.length_cons];omega
theorem je7:∀(q:Nat) (t u:Tr),szT t<q->szL [t]<=1000000000->Rs (Same q ((eT t).1,(eT t).2.1,(eT t).2.2.1,(eT t).2.2.2.1,(eT t).2.2.2.2,eT u)) (λb=>b=true↔t=u):=by
 intro q
 induction q with
 |zero=>intro t u h;omega
 |succ q ih=>
  intro t u hq hb;obtain⟨k,n,s,l⟩:=t;obtain⟨k',n',s',l'⟩:=u;unfold Same;dsimp only[eT];refine Rs.pos ⟨f8 l,f8 l'⟩ ?_;unfold he4;dsimp only;by_cases h1:k=k'
  ·refine Rs.neg (by simp[h1]) ?_;by_cases h2:n=n'
   ·refine Rs.neg (by simp[h2]) ?_;by_cases h3:s=s'
    ·refine Rs.neg (by rw[oU];simp[h3]) ?_;by_cases h4:l.length=l'.length
     ·refine Rs.neg (by simp[h4]) ?_;subst h1 h2 h3;simp only[szT]at hq;simp only[szL,szT]at hb;have hlen:=ff5 l;unfold gi7
      have key:∀(m i:Nat),l.length-i<m->i<=l.length->(∀j,j<i->l[j]? =l'[j]?)->Rs (lpG (λy=>ey1 (Same q) (k,n,s,l.length,opK (λj=>(r9 l).getD j dfl),opN (λj=>(r9 l).getD j dfl),opS (λj=>(r9 l).getD j dfl),opM (λj=>(r9 l).getD j dfl),opF (λj=>(r9 l).getD j dfl),k,n,s,l'.length,opK (λj=>(r9 l').getD j dfl),opN (λj=>(r9 l').getD j dfl),opS (λj=>(r9 l').getD j dfl),opM (λj=>(r9 l').getD j dfl),opF (λj=>(r9 l').getD j dfl)) y (λy=>some (.inl y)) (λz=>some (.inr z))) m ((i:Nat):Int)) (λz=>(z= .inr ()/\l=l')\/(z= .inl ()/\l≠l')):=by
       intro m
       induction m with
       |zero=>intro i h;omega
       |succ m ihm=>
        intro i hm hi hno;refine Rs.step3 λQ hQ=>?_;unfold ey1;dsimp only;by_cases hil:i<l.length
        ·refine Rs.pos (decide_eq_true (show((i:Nat):Int)< ((l.length:Nat):Int)by omega)) (Rs.pos (show(0:Int)<=((i:Nat):Int)/\((i:Nat):Int)< ((l.length:Nat):Int)by omega) (Rs.pos (show(0:Int)<=((i:Nat):Int)/\((i:Nat):Int)< ((l'.length:Nat):Int)by omega) ?_));rw[Int.toNat_natCast];have e1:l[i]? =some l[i]:=List.getElem?_eq_getElem hil;have hil':i<l'.length:=by omega
         have e2:l'[i]? =some l'[i]:=List.getElem?_eq_getElem hil';have hsz:=(ja0 l i _ e1).1;have:=ih l[i] l'[i] (by omega) (by simp only[szL];omega)
         have e3:((eT l[i]).1,(eT l[i]).2.1,(eT l[i]).2.2.1,(eT l[i]).2.2.2.1,(eT l[i]).2.2.2.2,eT l'[i])=(opK (λj=>(r9 l).getD j dfl) i,opN (λj=>(r9 l).getD j dfl) i,opS (λj=>(r9 l).getD j dfl) i,opM (λj=>(r9 l).getD j dfl) i,opF (λj=>(r9 l).getD j dfl) i,opK (λj=>(r9 l').getD j dfl) i,opN (λj=>(r9 l').getD j dfl) i,opS (λj=>(r9 l').getD j dfl) i,opM (λj=>(r9 l').getD j dfl) i,opF (λj=>(r9 l').getD j dfl) i):=by
          rw[<-mR e1,<-mR e2]
         rw[e3]at this;refine Rs.bind this λb hb2=>?_;cases b with
         |false=>
          refine Rs.pos rfl (Rs.some (.inr ⟨rfl,λh=>?_⟩))
          have:l[i]=l'[i]:=by
           have e4:l[i]? =l'[i]? :=by rw[h]
           rw[e1,e2]at e4;exact Option.some.inj e4
          exact absurd (hb2.2 this) (by decide)
         |true=>
          refine Rs.neg (by decide) (Rs.some (hQ _ ?_));rw[s9 (by omega)];refine ihm (i+1) (by omega) hil λj hj=>?_;by_cases hji:j=i
          ·subst hji;rw[e1,e2,hb2.1 rfl]
          ·exact hno j (by omega)
        ·refine Rs.neg (λh=>hil (Int.ofNat_lt.1 (of_decide_eq_true h))) (Rs.some (.inl ⟨rfl,?_⟩));apply List.ext_getElem?;intro j;by_cases hj:j<i
         ·exact hno j hj
         ·have a1:l[j]? =none:=List.getElem?_eq_none (by omega);have a2:l'[j]? =none:=List.getElem?_eq_none (by omega);rw[a1,a2]
      refine Rs.bind (key q 0 (by omega) (Nat.zero_le _) (λj hj=>absurd hj (Nat.not_lt_zero j))) λz hz=>?_;rcases hz with⟨rfl,e⟩ | ⟨rfl,e⟩
      ·exact Rs.some ⟨λ_=>(by rw[e]),λ_=>rfl⟩
      ·exact Rs.some ⟨λh=>(by cases h),λh=>absurd (by injection h) e⟩
     ·refine Rs.pos (by simp;omega) (Rs.some ⟨λh=>(by cases h),λh=>absurd (by injection h with _ _ _ h;rw[h]) h4⟩)
    ·refine Rs.pos (by rw[oU];simp[h3]) (Rs.some ⟨λh=>(by cases h),λh=>absurd (by injection h) h3⟩)
   ·refine Rs.pos (by simp[h2]) (Rs.some ⟨λh=>(by cases h),λh=>absurd (by injection h) h2⟩)
  ·refine Rs.pos (by simp[h1]) (Rs.some ⟨λh=>(by cases h),λh=>absurd (by injection h) h1⟩)
end Go.Proofs.YtjfkkokeegpeiaaDoor
/- Expr, lifted. -/
namespace Go.Proofs.YtjfkkokeegpeiaaDoor
open Go Go.Am Go.Proofs Go.Proofs.Lx
set_option maxRecDepth 100000
abbrev cj0:Type:=Int
abbrev dn8:Type:=ByteArray
def al2:AR cj0:=λx=>([i64 x],[])
def id1(t:TT):cj0:=(vI (ag t 0))
theorem gi5:VI al2:=vd id1 λ_=>rfl
def cp9:dn8->CRes:=λz=>.ret (st z) []
noncomputable def bz2(q:Nat)(x:cj0):Option dn8:=if-9223372036854775808<=x/\x<=9223372036854775807 then some ⟨(Lib.itoa x).toArray⟩else none
theorem fm3(q:Nat):Lw E5 54 al2 cp9 (bz2 q):=by
 intro n z h;unfold bz2 at h;split at h
 ·rename_i hn;cases h
  exact sc5.2 (SC.ext hX (by
   show bz9 54 [i64 n]=_;simp only[bz9,if_pos,i64]
   exact if_pos hn))
 ·cases h
abbrev at1:Type:=Int×Int×ByteArray×Nat×FL
abbrev at7:Type:=Int
def rK:AR at1:=λx=>([.agg [i64 x.1,i64 x.2.1,st x.2.2.1,.ro 4 x.2.2.2.1 x.2.2.2.2]],[])
def hj6(t:TT):at1:=((vI (ca t 0 0)),vI (ca t 0 1),vS (ca t 0 2),u7 (ca t 0 3),iU (ca t 0 3))
theorem ff7:VI rK:=vd hj6 λ_=>rfl
def aw3:at7->CRes:=λz=>.ret (i64 z) []
def ax6{β:Type}(c_levelOf:lA->Option jZ)(x:at1)(dn:at7->Option β):Option β:=
 if(x.1==20)=true then(c_levelOf x.2.2.1).bind λz1=>dn z1 else if(x.1==19)=true then if(x.2.2.1.toList==ByteArray.toList ⟨#[33]⟩)=true then dn (3)else if(x.1==19)=true then dn (7)else dn (8)else if(x.1==19)=true then dn (7)else dn (8)
theorem hl3{β:Type}(c_levelOf)(x)(dn:at7->Option β):ax6 c_levelOf x dn=(ax6 c_levelOf x some).bind dn:=by
 unfold ax6
 repeat' first|exact n0|refine n1 λ_=>?_|refine n2 ?_ ?_|refine n3 (λ_=>?_) λ_=>?_|rfl
theorem hg8(c_levelOf)(x):f7 E5 (ftb 83 aX nU c_levelOf ca0) lo0 74 (rK x).1 (rK x).2 K=ax6 (vf aX c_levelOf) x (λz=>some (.c (aw3 z))):=by kernel_rfl
noncomputable def tN(q:Nat)(x:at1):Option at7:=ax6 (oF q) x some
theorem en1(q:Nat):Lw E5 74 rK aw3 (tN q):=sof hW5 hX5 (fk (co5 q) a8) (λ_=>cB) λx=>(hg8 (oF q) x).trans (by rw[as7,hl3]<;>rfl)
abbrev cj4:Type:=Int×Int×ByteArray×Nat×FL
abbrev dj3:Type:=ByteArray
def ae4:AR cj4:=λx=>([.agg [i64 x.1,i64 x.2.1,st x.2.2.1,.ro 4 x.2.2.2.1 x.2.2.2.2]],[])
def ib5(t:TT):cj4:=((vI (ca t 0 0)),vI (ca t 0 1),vS (ca t 0 2),u7 (ca t 0 3),iU (ca t 0 3))
theorem ib1:VI ae4:=vd ib5 λ_=>rfl
def dd4:dj3->CRes:=λz=>.ret (st z) []
abbrev ac5:Type:=Int×Int×ByteArray×Nat×FL×Int
abbrev av1:Type:=ByteArray
def vG:AR ac5:=λx=>([.agg [i64 x.1,i64 x.2.1,st x.2.2.1,.ro 4 x.2.2.2.1 x.2.2.2.2.1],i64 x.2.2.2.2.2],[])
def fz6(t:TT):ac5:=((vI (ca t 0 0)),vI (ca t 0 1),vS (ca t 0 2),u7 (ca t 0 3),iU (ca t 0 3),vI (ag t 1))
theorem fx7:VI vG:=vd fz6 λ_=>rfl
def bt0:av1->CRes:=λz=>.ret (st z) []
abbrev cl4:Type:=Int×Int×ByteArray×Nat×FL×Int
abbrev bd2:Type:=ByteArray
def bb8:AR cl4:=λx=>([.agg [i64 x.1,i64 x.2.1,st x.2.2.1,.ro 4 x.2.2.2.1 x.2.2.2.2.1],i64 x.2.2.2.2.2],[])
def cm1:bd2->CRes:=λz=>.ret (st z) []
abbrev fm6:Type:=Int×Int×ByteArray×Nat×FI×FI×FS×FN×FM
abbrev dl0:Type:=ByteArray
def cd6:AR fm6:=λx=>([.agg [i64 x.1,i64 x.2.1,st x.2.2.1,.ro 4 x.2.2.2.1 (λj=>[i64 (x.2.2.2.2.1 j),i64 (x.2.2.2.2.2.1 j),st (x.2.2.2.2.2.2.1 j),.ro 4 (x.2.2.2.2.2.2.2.1 j) (x.2.2.2.2.2.2.2.2 j)])]],[])
def fl6:dl0->CRes:=λz=>.ret (st z) []
def iR{β:Type}(c_level:at1->Option at7)(c_Expr:cj4->Option dj3)(x:cl4)(dn:bd2->Option β):Option β:=
 (c_level (x.1,x.2.1,x.2.2.1,x.2.2.2.1,x.2.2.2.2.1)).bind λz5=>if decide (z5<x.2.2.2.2.2)=true then(c_Expr (x.1,x.2.1,x.2.2.1,x.2.2.2.1,x.2.2.2.2.1)).bind λz11=>if 1+z11.size<=maxLen then if ByteArray.size (⟨#[40]⟩++z11)+1<=maxLen then dn (⟨#[40]⟩++z11++⟨#[41]⟩)else none else none else(c_Expr (x.1,x.2.1,x.2.2.1,x.2.2.2.1,x.2.2.2.2.1)).bind λz17=>dn z17
theorem fa8{β:Type}(c_level c_Expr)(x)(dn:bd2->Option β):iR c_level c_Expr x dn=(iR c_level c_Expr x some).bind dn:=by
 unfold iR
 repeat' first|exact n0|refine n1 λ_=>?_|refine n2 ?_ ?_|refine n3 (λ_=>?_) λ_=>?_|rfl
theorem fc6(c_level c_Expr)(x):f7 E5 (ftb 74 rK aw3 c_level (ftb 56 ae4 dd4 c_Expr ca0)) lo0 76 (bb8 x).1 (bb8 x).2 K=iR (vf rK c_level) (vf ae4 c_Expr) x (λz=>some (.c (cm1 z))):=by kernel_rfl
theorem ev2(c_level)(h_level:Lw E5 74 rK aw3 c_level)(c_Expr)(h_Expr:Lw E5 56 ae4 dd4 c_Expr)(q:Nat):Lw E5 76 bb8 cm1 λx=>iR c_level c_Expr x some:=sof hW5 hX5 (fk h_level (fk h_Expr a8)) (λ_=>cB) λx=>(fc6 c_level c_Expr x).trans (by rw[ff7,ib1,fa8]<;>rfl)
def lZ{β:Type}(c_level:at1->Option at7)(c_Itoa:cj0->Option dn8)(c_operand:ac5->Option av1)(x:fm6)(dn:dl0->Option β):Option β:=
 (c_level (x.1,x.2.1,x.2.2.1,x.2.2.2.1,λj=>[i64 (x.2.2.2.2.1 j),i64 (x.2.2.2.2.2.1 j),st (x.2.2.2.2.2.2.1 j),V.ro 4 (x.2.2.2.2.2.2.2.1 j) (x.2.2.2.2.2.2.2.2 j)])).bind λz5=>if(x.1==15)=true then if(x.2.2.1.toList==ByteArray.toList ⟨#[]⟩)=true then(c_Itoa x.2.1).bind λz7=>dn z7 else(c_Itoa x.2.1).bind λz9=>if z9.size+1<=maxLen then if ByteArray.size (z9++⟨#[32]⟩)+x.2.2.1.size<=maxLen then dn (z9++⟨#[32]⟩++x.2.2.1)else none else none else if(x.1==16)=true then if(x.2.1==1)=true then dn (⟨#[116,114,117,101]⟩)else dn (⟨#[102,97,108,115,101]⟩)else if(x.1==17)=true then dn x.2.2.1 else if(x.1==18)=true then if 4+x.2.2.1.size<=maxLen then dn (⟨#[116,108,109,46]⟩++x.2.2.1)else none else if(x.1==19)=true then if(0:Int)<=0/\0< ((x.2.2.2.1:Nat):Int)then(c_operand (x.2.2.2.2.1 0,x.2.2.2.2.2.1 0,x.2.2.2.2.2.2.1 0,x.2.2.2.2.2.2.2.1 0,x.2.2.2.2.2.2.2.2 0,z5)).bind λz16=>if x.2.2.1.size+z16.size<=maxLen then dn (x.2.2.1++z16)else none else none else if(z5==4)=true then if(0:Int)<=0/\0< ((x.2.2.2.1:Nat):Int)then(c_operand (x.2.2.2.2.1 0,x.2.2.2.2.2.1 0,x.2.2.2.2.2.2.1 0,x.2.2.2.2.2.2.2.1 0,x.2.2.2.2.2.2.2.2 0,5)).bind λz23=>if z23.size+1<=maxLen then if ByteArray.size (z23++⟨#[32]⟩)+x.2.2.1.size<=maxLen then if ByteArray.size (z23++⟨#[32]⟩++x.2.2.1)+1<=maxLen then if(0:Int)<=1/\1< ((x.2.2.2.1:Nat):Int)then(c_operand (x.2.2.2.2.1 1,x.2.2.2.2.2.1 1,x.2.2.2.2.2.2.1 1,x.2.2.2.2.2.2.2.1 1,x.2.2.2.2.2.2.2.2 1,w (z5+1))).bind λz30=>if ByteArray.size (z23++⟨#[32]⟩++x.2.2.1++⟨#[32]⟩)+z30.size<=maxLen then dn (z23++⟨#[32]⟩++x.2.2.1++⟨#[32]⟩++z30)else none else none else none else none else none else none else if(0:Int)<=0/\0< ((x.2.2.2.1:Nat):Int)then(c_operand (x.2.2.2.2.1 0,x.2.2.2.2.2.1 0,x.2.2.2.2.2.2.1 0,x.2.2.2.2.2.2.2.1 0,x.2.2.2.2.2.2.2.2 0,z5)).bind λz37=>if z37.size+1<=maxLen then if ByteArray.size (z37++⟨#[32]⟩)+x.2.2.1.size<=maxLen then if ByteArray.size (z37++⟨#[32]⟩++x.2.2.1)+1<=maxLen then if(0:Int)<=1/\1< ((x.2.2.2.1:Nat):Int)then(c_operand (x.2.2.2.2.1 1,x.2.2.2.2.2.1 1,x.2.2.2.2.2.2.1 1,x.2.2.2.2.2.2.2.1 1,x.2.2.2.2.2.2.2.2 1,w (z5+1))).bind λz44=>if ByteArray.size (z37++⟨#[32]⟩++x.2.2.1++⟨#[32]⟩)+z44.size<=maxLen then dn (z37++⟨#[32]⟩++x.2.2.1++⟨#[32]⟩++z44)else none else none else none else none else none else none
theorem hc6{β:Type}(c_level c_Itoa c_operand)(x)(dn:dl0->Option β):lZ c_level c_Itoa c_operand x dn=(lZ c_level c_Itoa c_operand x some).bind dn:=by
 unfold lZ
 repeat' first|exact n0|refine n1 λ_=>?_|refine n2 ?_ ?_|refine n3 (λ_=>?_) λ_=>?_|rfl
theorem hd5(c_level c_Itoa c_operand)(x):f7 E5 (ftb 74 rK aw3 c_level (ftb 54 al2 cp9 c_Itoa (ftb 76 vG bt0 c_operand (bk3 E5 20)))) lo0 56 (cd6 x).1 (cd6 x).2 K=lZ (vf rK c_level) (vf al2 c_Itoa) (vf vG c_operand) x (λz=>some (.c (fl6 z))):=by kernel_rfl
theorem hc7(c_level)(h_level:Lw E5 74 rK aw3 c_level)(c_Itoa)(h_Itoa:Lw E5 54 al2 cp9 c_Itoa)(c_operand)(h_operand:Lw E5 76 vG bt0 c_operand)(q:Nat):Lw E5 56 cd6 fl6 λx=>lZ c_level c_Itoa c_operand x some:=sof hW5 hX5 (fk h_level (fk h_Itoa (fk h_operand (bk1 hW5 hX5 20).1))) (λ_=>cB) λx=>(hd5 c_level c_Itoa c_operand x).trans (by rw[ff7,gi5,fx7,hc6]<;>rfl)
open Classical in
noncomputable def exE:Nat->(cj4->Option dj3)×(ac5->Option av1)
 |0=>(λ_=>none,λ_=>none)
 |q+1=>(λx=>if xW x.2.2.2.2 then lZ ((tN q)) ((bz2 q)) ((exE q).2) (x.1,x.2.1,x.2.2.1,x.2.2.2.1,opK x.2.2.2.2,opN x.2.2.2.2,opS x.2.2.2.2,opM x.2.2.2.2,opF x.2.2.2.2) some else none,λx=>iR ((tN q)) ((exE q).1) x some)
theorem hs9:∀q,(∀x z,(exE q).1 x=some z->SC E5 56 (ae4 x).1 (ae4 x).2 (dd4 z))/\(∀x z,(exE q).2 x=some z->SC E5 76 (vG x).1 (vG x).2 (bt0 z)):=by
 intro q
 induction q with
 |zero=>exact⟨(λx z h=>by cases h),(λx z h=>by cases h)⟩
 |succ q ih=>
  obtain⟨h1,h2⟩:=ih;refine⟨λx z h=>?_,λx z h=>ev2 ((tN q)) (en1 q) ((exE q).1) h1 q x z h⟩;unfold exE at h;dsimp only at h;split at h
  ·rename_i hO;have this:=hc7 ((tN q)) (en1 q) ((bz2 q)) (fm3 q) ((exE q).2) h2 q (x.1,x.2.1,x.2.2.1,x.2.2.2.1,opK x.2.2.2.2,opN x.2.2.2.2,opS x.2.2.2.2,opM x.2.2.2.2,opF x.2.2.2.2) z h;unfold cd6 at this;unfold ae4;simp only at this⊢;rw[cV hO]at this;exact this
  ·cases h
noncomputable def Expr(q:Nat):cj4->Option dj3:=(exE q).1
noncomputable def fi7(q:Nat):ac5->Option av1:=(exE q).2
theorem gz5(q:Nat):∀x z,Expr q x=some z->SC E5 56 (ae4 x).1 (ae4 x).2 (dd4 z):=(hs9 q).1
end Go.Proofs.YtjfkkokeegpeiaaDoor
/- The text of an expression. -/
namespace Go.Proofs.YtjfkkokeegpeiaaDoor
open Go Go.Am Go.Proofs.Lx
set_option maxRecDepth 100000
def itS(n:Int):ByteArray:=⟨(Lib.itoa n).toArray⟩
theorem jC{n:Int}(h0:0<=n)(h1:n<4000000000):(itS n).size<=10:=by
 have key:∀(k u:Nat),u<10^(k+1)->(Lib.decDigits u).length<=k+1:=by
  intro k
  induction k with
  |zero=>intro u h;rw[Lib.decDigits,dif_pos (by simpa using h)];simp
  |succ k ih=>
   intro u h;rw[Lib.decDigits];split
   ·simp
   ·rw[List.length_append];have:=ih (u/10) (by rw[Nat.pow_succ]at h;omega);simp only[List.length_cons,List.length_nil];omega
 unfold itS Lib.itoa;show(Array.size _)<=10;rw[List.size_toArray,if_neg (by omega)];exact key 9 n.toNat (Nat.lt_trans (show n.toNat<4000000000 by omega) (by decide))
def lvT:Tr->Nat
 | .node k _ s _=>if k=20 then j8 s else if k=19 then(if s=oH then 3 else 7)else 8
def par(lv:Nat)(t:Tr)(x:ByteArray):ByteArray:=if lvT t<lv then⟨#[40]⟩++x++⟨#[41]⟩else x
def cs5:List ByteArray:=[sOr,gj9,sLt,sLe,sGt,sGe,sEq,sNe,ib6,sW,hv0,hw8]
inductive Txt:Tr->ByteArray->Prop
 |int (n:Int) (s:ByteArray):0<=n->n<=2147483647->s.size<=12->Txt (.node 15 n s []) (if s=⟨#[]⟩then itS n else itS n++⟨#[32]⟩++s)
 |bool (n:Int) (s:ByteArray):Txt (.node 16 n s []) (if n=1 then w_true else w_false)
 |var (n:Int) (s:ByteArray):s.size<=12->Txt (.node 17 n s []) s
 |tlm (n:Int) (s:ByteArray):s.size<=12->Txt (.node 18 n s []) (⟨#[116,108,109,46]⟩++s)
 |un (n:Int) (s:ByteArray) (a:Tr) (x:ByteArray):s=oH\/s=sW->Txt a x->Txt (.node 19 n s [a]) (s++par (lvT (.node 19 n s [a])) a x)
 |bin (n:Int) (s:ByteArray) (a b:Tr) (x y:ByteArray):s∈cs5->Txt a x->Txt b y->Txt (.node 20 n s [a,b]) (par (if j8 s=4 then 5 else j8 s) a x++⟨#[32]⟩++s++⟨#[32]⟩++par (j8 s+1) b y)
theorem oG(lv:Nat)(t:Tr)(x:ByteArray):(par lv t x).size<=x.size+2:=by
 unfold par;split
 ·rw[ByteArray.size_append,ByteArray.size_append];show 1+x.size+1<=x.size+2;omega
 ·omega
theorem aq2:∀s∈cs5,s.size<=2/\(j8 s=1\/j8 s=2\/j8 s=4\/j8 s=5\/j8 s=6):=by decide
theorem wS{t:Tr}{x:ByteArray}(h:Txt t x):x.size<=30*szT t:=by
 induction h with
 |int n s h0 h1 hs=>
  have:=jC h0 (by omega);simp only[szT,szL];split
  ·omega
  ·rw[ByteArray.size_append,ByteArray.size_append];show _+1+_<=_;omega
 |bool n s=>simp only[szT,szL];split<;>decide
 |var n s hs=>simp only[szT,szL];omega
 |tlm n s hs=>
  simp only[szT,szL];rw[ByteArray.size_append];show 4+_<=_;omega
 |un n s a x hs _ ih=>
  simp only[szT,szL];rw[ByteArray.size_append];have:=oG (lvT (.node 19 n s [a])) a x;have:s.size<=1:=by rcases hs with rfl|rfl<;>decide
  omega
 |bin n s a b x y hs _ _ ih1 ih2=>
  simp only[szT,szL];have h1:=oG (if j8 s=4 then 5 else j8 s) a x;have h2:=oG (j8 s+1) b y;have h3:=(aq2 s hs).1;rw[ByteArray.size_append,ByteArray.size_append,ByteArray.size_append,ByteArray.size_append];show _+1+_+1+_<=_;omega
theorem wL(q:Nat)(t:Tr):tN q (eT t)=some ((lvT t:Nat):Int):=by
 obtain⟨k,n,s,l⟩:=t;unfold tN ax6 lvT eT;dsimp only;rw[bb2];by_cases h20:k=20
 ·subst h20;rfl
 ·rw[if_neg (show¬(k==(20:Int))=true by simpa using h20),if_neg h20];by_cases h19:k=19
  ·subst h19;simp only[beq_self_eq_true,if_true];by_cases hs:s=oH
   ·subst hs;simp[oU]
   ·rw[if_neg (by rw[tl_eq];exact hs),if_neg hs];rfl
  ·rw[if_neg (show¬(k==(19:Int))=true by simpa using h19),if_neg (show¬(k==(19:Int))=true by simpa using h19),if_neg h19];rfl
end Go.Proofs.YtjfkkokeegpeiaaDoor
/- Expr answers the text of a tree; so does the specification's. -/
namespace Go.Proofs.YtjfkkokeegpeiaaDoor
open Go Go.Am Go.Proofs.Lx
set_option maxRecDepth 100000
theorem bb5{q:Nat}{t:Tr}{x:ByteArray}(ht:Txt t x)(hx:x.size<=100000000)(h:Rs (Expr q (eT t)) (λz=>z=x))(lv:Nat):
 Rs (fi7 (q+1) ((eT t).1,(eT t).2.1,(eT t).2.2.1,(eT t).2.2.2.1,(eT t).2.2.2.2,(lv:Int))) (λz=>z=par lv t x):=by
 show Rs (iR (tN q) ((exE q).1) _ some) _;unfold iR;refine Rs.bind (Rs.of (show tN q (eT t)=some ((lvT t:Nat):Int)from wL q t)) λz e=>?_;subst e;refine Rs.ite (λhl=>?_) λhl=>?_
 ·have hl:lvT t<lv:=by have:=of_decide_eq_true hl;exact Int.ofNat_lt.1 this
  refine Rs.bind h λz e=>?_;subst e;refine Rs.pos (by unfold maxLen;omega) (Rs.pos ?_ (Rs.some ?_))
  ·rw[ByteArray.size_append];show 1+z.size+1<=maxLen;unfold maxLen;omega
  ·unfold par;rw[if_pos hl]
 ·have hl:¬lvT t<lv:=λh=>hl (decide_eq_true (Int.ofNat_lt.2 h));refine Rs.bind h λz e=>Rs.some ?_;subst e;unfold par;rw[if_neg hl]
theorem hn4{t:Tr}{x:ByteArray}(h:Txt t x):szT t<=1000000->∀q,2*szT t+20<=q->Rs (Expr q (eT t)) (λz=>z=x):=by
 induction h with
 |int n s h0 h1 hs=>
  intro hsz q hq;obtain⟨q,rfl⟩:∃q',q=q'+1:=⟨q-1,by omega⟩;have h:Txt (.node 15 n s []) _:=.int n s h0 h1 hs;have hi:=jC h0 (by omega);refine Rs.pos (f8 []) ?_;unfold lZ;dsimp only[eT];rw[cV (f8 [])];refine Rs.bind (Rs.of (show tN q (eT (.node 15 n s []))=some _ from wL q _)) λz e=>?_;clear e
  have hd:Rs (bz2 q n) (λz=>z=itS n):=by
   unfold bz2;exact Rs.pos ⟨show(-9223372036854775808:Int)<=n by omega,show n<=(9223372036854775807:Int)by omega⟩ (Rs.some rfl)
  refine Rs.pos rfl ?_;by_cases hs0:s=⟨#[]⟩
  ·subst hs0;rw[if_pos rfl];refine Rs.pos (beq_self_eq_true _) (Rs.bind hd λz e=>Rs.some e)
  ·rw[if_neg hs0];refine Rs.neg (by rw[tl_eq];exact hs0) (Rs.bind hd λz e=>?_);subst e;refine Rs.pos (by unfold maxLen;omega) (Rs.pos ?_ (Rs.some rfl));rw[ByteArray.size_append];show _+1+s.size<=maxLen;unfold maxLen;omega
 |bool n s=>
  intro hsz q hq;obtain⟨q,rfl⟩:∃q',q=q'+1:=⟨q-1,by omega⟩;have h:Txt (.node 16 n s []) _:=.bool n s;refine Rs.pos (f8 []) ?_;unfold lZ;dsimp only[eT];rw[cV (f8 [])];refine Rs.bind (Rs.of (show tN q (eT (.node 16 n s []))=some _ from wL q _)) λz e=>?_;refine Rs.neg (show¬((16:Int)==15)=true by decide) (Rs.pos rfl ?_);by_cases hn:n=1
  ·exact Rs.pos (by simpa using hn) (Rs.some (by rw[if_pos hn]))
  ·exact Rs.neg (by simpa using hn) (Rs.some (by rw[if_neg hn]))
 |var n s hs=>
  intro hsz q hq;obtain⟨q,rfl⟩:∃q',q=q'+1:=⟨q-1,by omega⟩;have h:Txt (.node 17 n s []) _:=.var n s hs;refine Rs.pos (f8 []) ?_;unfold lZ;dsimp only[eT];rw[cV (f8 [])];refine Rs.bind (Rs.of (show tN q (eT (.node 17 n s []))=some _ from wL q _)) λz e=>?_;exact Rs.neg (show¬((17:Int)==15)=true by decide) (Rs.neg (show¬((17:Int)==16)=true by decide) (Rs.pos rfl (Rs.some rfl)))
 |tlm n s hs=>
  intro hsz q hq;obtain⟨q,rfl⟩:∃q',q=q'+1:=⟨q-1,by omega⟩;have h:Txt (.node 18 n s []) _:=.tlm n s hs;refine Rs.pos (f8 []) ?_;unfold lZ;dsimp only[eT];rw[cV (f8 [])];refine Rs.bind (Rs.of (show tN q (eT (.node 18 n s []))=some _ from wL q _)) λz e=>?_;exact Rs.neg (show¬((18:Int)==15)=true by decide) (Rs.neg (show¬((18:Int)==16)=true by decide) (Rs.neg (show¬((18:Int)==17)=true by decide) (Rs.pos rfl (Rs.pos (show 4+s.size<=maxLen by unfold maxLen;omega) (Rs.some rfl)))))
 |un n s a x hs ha ih=>
  intro hsz q hq;simp only[szT,szL]at hsz hq;obtain⟨q,rfl⟩:∃q',q=q'+1+1:=⟨q-2,by omega⟩;have h:Txt (.node 19 n s [a]) _:=.un n s a x hs ha;have hx:=wS ha;have hp:=oG (lvT (.node 19 n s [a])) a x;have hss:s.size<=1:=by rcases hs with rfl|rfl<;>decide
  refine Rs.pos (f8 [a]) ?_;unfold lZ;dsimp only[eT];rw[cV (f8 [a])];refine Rs.bind (Rs.of (show tN (q+1) (eT (.node 19 n s [a]))=some _ from wL (q+1) _)) λz e=>?_;subst e;refine Rs.neg (show¬((19:Int)==15)=true by decide) (Rs.neg (show¬((19:Int)==16)=true by decide) (Rs.neg (show¬((19:Int)==17)=true by decide) (Rs.neg (show¬((19:Int)==18)=true by decide) (Rs.pos rfl (Rs.pos ⟨Int.le_refl 0,show(0:Int)< (([a]:List Tr).length:Int)by simp⟩ ?_)))));have ho:=bb5 ha (by omega) (ih (by omega) q (by omega)) (lvT (.node 19 n s [a]));have e1:=mR (l:=[a]) (j:=0) rfl;rw[<-e1]at ho;refine Rs.bind ho λz e=>?_;subst e;exact Rs.pos (show s.size+_<=maxLen by unfold maxLen;omega) (Rs.some rfl)
 |bin n s a b x y hs ha hb ih1 ih2=>
  intro hsz q hq;simp only[szT,szL]at hsz hq;obtain⟨q,rfl⟩:∃q',q=q'+1+1:=⟨q-2,by omega⟩;have h:Txt (.node 20 n s [a,b]) _:=.bin n s a b x y hs ha hb;have hx:=wS ha;have hy:=wS hb;obtain⟨hss,hlv⟩:=aq2 s hs;have hlvt:lvT (.node 20 n s [a,b])=j8 s:=rfl;refine Rs.pos (f8 [a,b]) ?_;unfold lZ;dsimp only[eT];rw[cV (f8 [a,b])];refine Rs.bind (Rs.of (show tN (q+1) (eT (.node 20 n s [a,b]))=some _ from wL (q+1) _)) λz e=>?_;subst e;rw[hlvt];refine Rs.neg (show¬((20:Int)==15)=true by decide) (Rs.neg (show¬((20:Int)==16)=true by decide) (Rs.neg (show¬((20:Int)==17)=true by decide) (Rs.neg (show¬((20:Int)==18)=true by decide) (Rs.neg (show¬((20:Int)==19)=true by decide) ?_))));have b0:(0:Int)<=0/\(0:Int)< (([a,b]:List Tr).length:Int):=⟨Int.le_refl 0,by simp⟩;have b1:(0:Int)<=1/\(1:Int)< (([a,b]:List Tr).length:Int):=⟨by decide,by simp⟩;have e1:=mR (l:=[a,b]) (j:=0) rfl;have e2:=mR (l:=[a,b]) (j:=1) rfl;have ho2:=bb5 hb (by omega) (ih2 (by omega) q (by omega)) (j8 s+1);rw[<-e2]at ho2;have hw:w (((j8 s:Nat):Int)+1)=((j8 s+1:Nat):Int):=s9 (by omega)
  have fin:∀lv,Rs (fi7 (q+1) ((opK (λj=>(r9 [a,b]).getD j dfl) 0),(opN (λj=>(r9 [a,b]).getD j dfl) 0),(opS (λj=>(r9 [a,b]).getD j dfl) 0),(opM (λj=>(r9 [a,b]).getD j dfl) 0),(opF (λj=>(r9 [a,b]).getD j dfl) 0),((lv:Nat):Int))) (λz=>z=par lv a x):=by
   intro lv;have ho:=bb5 ha (by omega) (ih1 (by omega) q (by omega)) lv;rw[<-e1]at ho;exact ho
  have szs:∀lv,(par lv a x).size+1<=maxLen/\(par lv a x++(⟨#[32]⟩:ByteArray)).size+s.size<=maxLen/\(par lv a x++(⟨#[32]⟩:ByteArray)++s).size+1<=maxLen/\(par lv a x++(⟨#[32]⟩:ByteArray)++s++(⟨#[32]⟩:ByteArray)).size+(par (j8 s+1) b y).size<=maxLen:=by
   intro lv;have p1:=oG lv a x;have p2:=oG (j8 s+1) b y;have c1:(par lv a x++(⟨#[32]⟩:ByteArray)).size=(par lv a x).size+1:=by rw[ByteArray.size_append];rfl
   have c2:(par lv a x++(⟨#[32]⟩:ByteArray)++s).size=(par lv a x).size+1+s.size:=by rw[ByteArray.size_append,c1]
   have c3:(par lv a x++(⟨#[32]⟩:ByteArray)++s++(⟨#[32]⟩:ByteArray)).size=(par lv a x).size+1+s.size+1:=by rw[ByteArray.size_append,c2];rfl
   rw[c1,c2,c3];unfold maxLen;exact⟨by omega,by omega,by omega,by omega⟩
  by_cases h4:j8 s=4
  ·obtain⟨s1,s2,s3,s4⟩:=szs 5;refine Rs.pos (by rw[h4];rfl) (Rs.pos b0 (Rs.bind (fin 5) λz e=>?_));subst e;refine Rs.pos s1 (Rs.pos s2 (Rs.pos s3 (Rs.pos b1 ?_)));rw[hw];refine Rs.bind ho2 λz e=>?_;subst e;refine Rs.pos s4 (Rs.some ?_);rw[if_pos h4]
  ·obtain⟨s1,s2,s3,s4⟩:=szs (j8 s);refine Rs.neg (show¬(((j8 s:Nat):Int)==(4:Int))=true from λh=>h4 (by have:=eq_of_beq h;omega)) (Rs.pos b0 (Rs.bind (fin (j8 s)) λz e=>?_));subst e;refine Rs.pos s1 (Rs.pos s2 (Rs.pos s3 (Rs.pos b1 ?_)));rw[hw];refine Rs.bind ho2 λz e=>?_;subst e;refine Rs.pos s4 (Rs.some ?_);rw[if_neg h4]
end Go.Proofs.YtjfkkokeegpeiaaDoor
/- The library's builder, in a block of the printer's type: copyCheck, String. -/
namespace Go.Proofs.YtjfkkokeegpeiaaDoor
open Go Go.Am Go.RowKit Go.Shelf
set_option maxRecDepth 100000
section
variable {P:Program} {ρ:Ren}
set_option maxHeartbeats 1000000 in
theorem az9(L:Lays.n240 P ρ){j:TypeInfo}(hj:P.info? (ρ.t 72)=some j)(b:Nat)(w:World)(h0:w.cell? ⟨b,0,none⟩=some (.pointer (some ⟨b,0,none⟩))):
 Calls P (ρ.f 240) #[.pointer (some ⟨b,0,none⟩)] w λe w'=>e= .returned (.tuple #[])/\w'=w:=by
 have mixed:=L.mixed;have t72:=L.t72;have a72:=L.a72;have z72:=L.z72;have v72:=L.v72;have u72:=run_underlying L.t72;have t70:=L.t70;have a70:=L.a70;have z70:=L.z70;have v70:=L.v70;have u70:=run_underlying L.t70;have t9:=L.t9;have a9:=L.a9;have z9:=L.z9;have v9:=L.v9;have u9:=run_underlying L.t9;have t4:=L.t4;have a4:=L.a4;have z4:=L.z4;have v4:=L.v4;have u4:=run_underlying L.t4;have t164:=L.t164;have a164:=L.a164;have z164:=L.z164;have v164:=L.v164;have u164:=run_underlying L.t164
 go_enter L.f240,Body.n240_ntmps ρ
 go_wp2
 rw[Lib.run_neq_ptr_same w _ L.t70 hj]
 go_wp2
 go_end0
 exact⟨rfl,rfl⟩
set_option maxHeartbeats 1000000 in
theorem ay6(L:Lays.n240 P ρ){j:TypeInfo}(hj:P.info? (ρ.t 72)=some j)(hjs:j.size=2){T:TypeId}(hl:liesAt P P.depth T (2/P.cellsOf T) 0 (ρ.t 72) 1=true)(b:Nat)(w:World)(h0:w.cell? ⟨b,0,none⟩=some (.pointer none))(hsh:w.shape? b=some (T,2))(hfz:w.frozen? ⟨b,0,none⟩=false):
 Calls P (ρ.f 240) #[.pointer (some ⟨b,0,none⟩)] w λe w'=>e= .returned (.tuple #[])/\w'=w.setCell ⟨b,0,none⟩ (.pointer (some ⟨b,0,none⟩)):=by
 have mixed:=L.mixed;have t72:=L.t72;have a72:=L.a72;have z72:=L.z72;have v72:=L.v72;have u72:=run_underlying L.t72;have t70:=L.t70;have a70:=L.a70;have z70:=L.z70;have v70:=L.v70;have u70:=run_underlying L.t70;have t9:=L.t9;have a9:=L.a9;have z9:=L.z9;have v9:=L.v9;have u9:=run_underlying L.t9;have t4:=L.t4;have a4:=L.a4;have z4:=L.z4;have v4:=L.v4;have u4:=run_underlying L.t4;have t164:=L.t164;have a164:=L.a164;have z164:=L.z164;have v164:=L.v164;have u164:=run_underlying L.t164
 go_enter L.f240,Body.n240_ntmps ρ
 go_wp2
 rw[Lib.run_to_unsafe w ⟨b,0,none⟩ L.t70 L.t164 hj (by rw[hjs];decide) hsh (Nat.zero_lt_succ 1)];simp only[Result.andThen];rw[Oper.upon_value]
 go_wp2
 rw[run_callFunc_extern L.f276 (by kernel_rfl) (by kernel_rfl) (by kernel_rfl) (e:=Extern.AbiNoEscape.same) (by kernel_rfl)];rw[Lib.run_noEscape];simp only[Result.andThen];rw[Oper.upon_value]
 go_wp2
 rw[Lib.run_from_unsafe w ⟨b,0,none⟩ L.t164 L.t70 hj hsh hl];simp only[Result.andThen];rw[Oper.upon_value]
 go_wp2
 go_end0
 exact⟨rfl,rfl⟩
set_option maxHeartbeats 2000000 in
theorem ce5(L:Lays.n169 P ρ)(X:Builder.Extra P ρ)(b g cap len:Nat)(cur:Array Value)(w:World)(l:List UInt8)(hlen:l.length=len)(h0:l≠[])(c1':w.drew.cell? ⟨b,1,none⟩=some (.slice (some ⟨g,0,none⟩) len cap))(hg:w.heap[g]? =some (.cells cur (ρ.t 5) (0,0)))
 (hcm:cap<=maxLen) (hnc:len<=cap) (hcs:cur.size=cap) (hcell:∀j x,l[j]? =some x->w.cell? ⟨g,j,none⟩=some (.int .u8 x.toNat)):
 Calls P (ρ.f 169) #[.pointer (some ⟨b,0,none⟩)] w λe w'=>e= .returned (.string ⟨l.toArray⟩)/\w'=w.drew.freeze ⟨g,0,none⟩ len:=by
 subst hlen;have hl0:l.length≠0:=by simpa using h0
 have c1:=c1'
 have hSD:(Builtin.unsafeSliceData_ #[(ρ.t 37)] (ρ.t 127) #[.slice (some ⟨g,0,none⟩) l.length cap]).run P w.drew= .ok (.pointer (some ⟨g,0,none⟩)) w.drew:=
  Lib.run_unsafeSliceData_row _ _ _ _ _ _ (by omega)
 have hUS:(Builtin.unsafeString_ #[(ρ.t 127),(ρ.t 3)] (ρ.t 9) #[.pointer (some ⟨g,0,none⟩),.int .i64 l.length]).run P w.drew= .ok (.string ⟨l.toArray⟩) (w.drew.freeze ⟨g,0,none⟩ l.length):=by
  refine Lib.run_unsafeString_row w.drew (ρ.t 127) (ρ.t 3) (ρ.t 9) (ρ.t 5) L.t127 X.cellsByte g cur.size (by have hg':w.drew.heap[g]? =some (.cells cur (ρ.t 5) (0,0)):=hg;simp[World.shape?,hg']) l h0 (by omega) (by unfold maxLen at hcm;omega) ?_;intro j x hx;have:=hcell j x hx;rw[dP,Nat.zero_add];exact this
 have mixed:=L.mixed;have t72:=L.t72;have a72:=L.a72;have z72:=L.z72;have v72:=L.v72;have u72:=run_underlying L.t72;have t70:=L.t70;have a70:=L.a70;have z70:=L.z70;have v70:=L.v70;have u70:=run_underlying L.t70;have t37:=L.t37;have a37:=L.a37;have z37:=L.z37;have v37:=L.v37;have u37:=run_underlying L.t37;have t127:=L.t127;have a127:=L.a127;have z127:=L.z127;have v127:=L.v127;have u127:=run_underlying L.t127;have t3:=L.t3;have a3:=L.a3;have z3:=L.z3;have v3:=L.v3;have u3:=run_underlying L.t3;have t9:=L.t9;have a9:=L.a9;have z9:=L.z9;have v9:=L.v9;have u9:=run_underlying L.t9;have t5:=X.t5;have a5:=X.a5;have z5:=X.z5;have v5:=X.v5;have u5:=run_underlying X.t5
 go_enter L.f169,Body.n169_ntmps ρ
 go_wp2
 go_region_o
 all_goals (go_wp2;go_ret;exact⟨rfl,rfl⟩)
end
theorem ff2:Lays.n240 Tryd.prog Tryd.lays105_ren:={Tryd.lays105 with}
theorem lays169:Lays.n169 Tryd.prog Tryd.lays105_ren:={Tryd.lays105 with}
theorem ef7:∃j,Tryd.prog.info? 62=some j/\j.size=2:=⟨_,rfl,by kernel_rfl⟩
theorem gr3:liesAt Tryd.prog Tryd.prog.depth 64 (2/Tryd.prog.cellsOf 64) 0 62 1=true:=by kernel_rfl
theorem hn0(b:Nat)(w:World)(h0:w.cell? ⟨b,0,none⟩=some (.pointer (some ⟨b,0,none⟩))):Calls Tryd.prog 49 #[.pointer (some ⟨b,0,none⟩)] w λe w'=>e= .returned (.tuple #[])/\w'=w:=by
 obtain⟨j,hj,_⟩:=ef7;exact az9 ff2 hj b w h0
theorem gk7(b:Nat)(w:World)(h0:w.cell? ⟨b,0,none⟩=some (.pointer none))(hsh:w.shape? b=some (64,2))(hfz:w.frozen? ⟨b,0,none⟩=false):
 Calls Tryd.prog 49 #[.pointer (some ⟨b,0,none⟩)] w λe w'=>e= .returned (.tuple #[])/\w'=w.setCell ⟨b,0,none⟩ (.pointer (some ⟨b,0,none⟩)):=by
 obtain⟨j,hj,hs⟩:=ef7;exact ay6 ff2 hj hs gr3 b w h0 hsh hfz
theorem gz8(b g cap len:Nat)(cur:Array Value)(w:World)(l:List UInt8)(hlen:l.length=len)(h0:l≠[])(c1:w.drew.cell? ⟨b,1,none⟩=some (.slice (some ⟨g,0,none⟩) len cap))(hg:w.heap[g]? =some (.cells cur 5 (0,0)))
 (hcm:cap<=maxLen) (hnc:len<=cap) (hcs:cur.size=cap) (hcell:∀j x,l[j]? =some x->w.cell? ⟨g,j,none⟩=some (.int .u8 x.toNat)):
 Calls Tryd.prog 23 #[.pointer (some ⟨b,0,none⟩)] w λe w'=>e= .returned (.string ⟨l.toArray⟩)/\w'=w.drew.freeze ⟨g,0,none⟩ len:=
 ce5 lays169 Tryd.Builder_Extra_105 b g cap len cur w l hlen h0 c1 hg hcm hnc hcs hcell
end Go.Proofs.YtjfkkokeegpeiaaDoor
/- The library's builder, in a block of the printer's type: laws over memory. -/
namespace Go.Proofs.YtjfkkokeegpeiaaDoor
open Go Go.Am Go.RowKit
set_option maxRecDepth 100000
theorem cb0{β:Bt}{S D:Pr}{w:World}{b m:Nat}{c0 v:V}(h:b7 β S w D b m (.tbk 64 [c0,v])):0<m/\∃x y,w.heap[b]? =some (.cells #[x,y] 64 (0,0))/\den β S w D c0 x/\den β S w D v y/\x.oneCell'=true/\y.oneCell'=true:=by
 simp only[b7]at h;obtain⟨h0,us,h1,h2,h3⟩:=h;simp only[b8]at h2;obtain⟨x,_,rfl,hx,y,_,rfl,hy,rfl⟩:=h2;simp only[List.all_cons,List.all_nil,Bool.and_true,Bool.and_eq_true]at h3;exact⟨h0,x,y,h1,hx,hy,h3.1,h3.2⟩
theorem be1{E:Env}(hP:E.P=Tryd.prog)(v:V)(rest:List (Option Chunk)):SC E 49 [.ptr 0 0] (some (.tbk 64 [.ptr 0 0,v])::rest) (.ret (.tup []) (some (.tbk 64 [.ptr 0 0,v])::rest)):=by
 refine⟨by rw[hP];exact⟨_,Tryd.func49,by kernel_rfl,by intro e;exact absurd e (by decide+kernel)⟩,λβ S w us hd hM hG=>?_⟩;rw[hP];obtain⟨b,m,hb,hc⟩:=hM.live 0 (.tbk 64 [.ptr 0 0,v]) rfl;obtain⟨h0,x,y,h1,hx,hy,_,_⟩:=cb0 hc;simp only[b8]at hd;obtain⟨u,_,rfl,hu,rfl⟩:=hd;simp only[den]at hu hx;have hu:=hu.2 b m hb;have hx:=hx.2 b m hb;subst hu hx;refine(hn0 b w (by simp[World.cell?,h1])).mono ?_;rintro e w' ⟨rfl,rfl⟩;exact⟨_,β,S,rfl,hM,by simp only[den,b8];exact⟨[],rfl,rfl⟩,Evo.refl _ _ _,λi bm hi h=>h⟩
theorem by2{E:Env}(hP:E.P=Tryd.prog)(v:V)(rest:List (Option Chunk)):SC E 49 [.ptr 0 0] (some (.tbk 64 [.sc (.pointer none),v])::rest) (.ret (.tup []) (some (.tbk 64 [.ptr 0 0,v])::rest)):=by
 refine⟨by rw[hP];exact⟨_,Tryd.func49,by kernel_rfl,by intro e;exact absurd e (by decide+kernel)⟩,λβ S w us hd hM hG=>?_⟩;rw[hP];obtain⟨b,m,hb,hc⟩:=hM.live 0 (.tbk 64 [.sc (.pointer none),v]) rfl;obtain⟨h0,x,y,h1,hx,hy,o1,o2⟩:=cb0 hc;simp only[b8]at hd;obtain⟨u,_,rfl,hu,rfl⟩:=hd;simp only[den]at hu hx;have hu':=hu.2 b m hb;subst hu' hx;refine(gk7 b w (by simp[World.cell?,h1]) (by simp[World.shape?,h1]) (by simp[World.frozen?,h1])).mono ?_;rintro e w' ⟨rfl,rfl⟩;have hg:w.grownBy (w.setCell ⟨b,0,none⟩ (.pointer (some ⟨b,0,none⟩))) (some b):=⟨rfl,rfl,rfl,by simp[World.setCell],λk _ hk=>Below.heap_setCell _ _ _ _ (λe=>hk (by simp[e]))⟩;have hk:Kept S w (w.setCell ⟨b,0,none⟩ (.pointer (some ⟨b,0,none⟩))):=λz hz=>hg.block z (hM.st z hz) (λe=>by cases e;exact(hM.own 0 b m hb h0).2 hz)
 obtain⟨q1,q2⟩:=hM.put (c':=.tbk 64 [.ptr 0 0,v]) rfl hb h0 hg (by
  simp only[b7];refine⟨h0,[.pointer (some ⟨b,0,none⟩),y],?_,?_,?_⟩
  ·simp[World.setCell,Array.getElem?_modify,h1]
  ·simp only[b8];refine⟨_,_,rfl,?_,_,_,rfl,pV (λ_ _=>.inl rfl) (λ_ h=>h) (λ_ h=>h) hk _ _ hy,rfl⟩;simp only[den];exact hu
  ·simp only[List.all_cons,List.all_nil,Bool.and_true,Bool.and_eq_true]
   exact⟨rfl,o2⟩)
 refine⟨_,β,S,rfl,?_,by simp only[den,b8];exact⟨[],rfl,rfl⟩,q2,λi bm hi h=>h⟩;have e:hp (some (.tbk 64 [.ptr 0 0,v])::rest)=upd (hp (some (.tbk 64 [.sc (.pointer none),v])::rest)) 0 (some (.tbk 64 [.ptr 0 0,v])):=gd7 (some (.tbk 64 [.sc (.pointer none),v])::rest) 0 _ (by simp);rw[e];exact q1
theorem hz5{β:Bt}{S D:Pr}{w:World}{b m n:Nat}{f:Nat->List V}{l:List UInt8}(h:b7 β S w D b m (.row 5 1 n f))(hl:l.length=n)(hn:l≠[])(hf:∀j x,l[j]? =some x->f j=[.sc (.int .u8 ((x.toNat:Nat):Int))]):
 n<=m/\m<=maxLen/\0<m/\∃cur:Array Value,w.heap[b]? =some (.cells cur 5 (0,0))/\cur.size=m/\∀j x,l[j]? =some x->w.cell? ⟨b,j,none⟩=some (.int .u8 x.toNat):=by
 simp only[b7]at h;obtain⟨h1,h2,h3,h4⟩:=h
 have h0:0<n:=by
  rw[<-hl];exact List.length_pos_iff.2 hn
 obtain⟨cur,k1,k2,k3⟩:=h4 (by omega);refine⟨h1,h2,by omega,cur,k1,by simpa using k2,λj x hx=>?_⟩;have hj:j<n:=by rw[<-hl];exact(List.getElem?_eq_some_iff.1 hx).1
 obtain⟨us,g1,_,_,_,g5⟩:=k3 j hj;rw[hf j x hx]at g1;simp only[b8,den]at g1;obtain⟨_,_,rfl,rfl,rfl⟩:=g1;have:=g5 0 _ rfl;simp only[World.cell?,k1];simpa using this
theorem gp7{E:Env}(hP:E.P=Tryd.prog)(c0:V){n:Nat}{f:Nat->List V}{l:List UInt8}(hl:l.length=n)(hn:l≠[])(hf:∀j x,l[j]? =some x->f j=[.sc (.int .u8 ((x.toNat:Nat):Int))]):
 SC E 23 [.ptr 0 0] [some (.tbk 64 [c0,.sl 1 1 0 n]),some (.row 5 1 n f)] (.ret (st ⟨l.toArray⟩) [none,none]):=by
 refine⟨by rw[hP];exact⟨_,Tryd.func23,by kernel_rfl,by intro e;exact absurd e (by decide+kernel)⟩,λβ S w us hd hM hG=>?_⟩;rw[hP];obtain⟨b,m,hb,hc⟩:=hM.live 0 (.tbk 64 [c0,.sl 1 1 0 n]) rfl;obtain⟨g,M,hg,hr⟩:=hM.live 1 (.row 5 1 n f) rfl;obtain⟨h0,x,y,h1,hx,hy,_,_⟩:=cb0 hc;obtain⟨r1,r2,r3,cur,r4,r5,r6⟩:=hz5 hr hl hn hf;simp only[b8]at hd;obtain⟨u,_,rfl,hu,rfl⟩:=hd;simp only[den]at hu hy;have hu:=hu.2 b m hb;obtain⟨g1,B,hyu,g2⟩:=hy.2 g M hg;simp only[Nat.zero_mul,Nat.sub_zero,Nat.zero_add]at hyu g1 g2;rw[g2 r3]at hyu;subst hu hyu
 refine(gz8 b g M n cur w l hl hn (by
  show w.cell? ⟨b,1,none⟩=_
  simp[World.cell?,h1]) r4 r2 r1 r5 r6).mono ?_
 rintro e w' ⟨rfl,rfl⟩
 have hfz:∀k,k≠g->(w.drew.freeze ⟨g,0,none⟩ n).heap[k]? =w.heap[k]? :=by
  intro k hk;unfold World.freeze;split
  ·rfl
  ·simp only[Array.getElem?_modify];rw[if_neg (λe=>hk e.symm)];rfl
 have hsz:(w.drew.freeze ⟨g,0,none⟩ n).heap.size=w.heap.size:=by
  unfold World.freeze;split
  ·rfl
  ·simp only[Array.size_modify];rfl
 have ho:(w.drew.freeze ⟨g,0,none⟩ n).os=w.os/\(w.drew.freeze ⟨g,0,none⟩ n).tape=w.tape/\(w.drew.freeze ⟨g,0,none⟩ n).output=w.output:=by
  unfold World.freeze;split<;>exact⟨rfl,rfl,rfl⟩
 refine⟨_,λ_=>none,S,rfl,⟨λi c hc=>?_,λi _=>rfl,λi b m h=>(by cases h),λi b m h=>(by cases h),λi j b m m' h=>(by cases h),λz hz=>by rw[hsz];exact hM.st z hz⟩,by simp only[den],⟨ho.1,ho.2.1,ho.2.2,by rw[hsz];exact Nat.le_refl _,λz hz hn=>hfz z (λe=>by subst e;exact hn 1 M r3 hg),λ_ h=>h,λ_ h=>.inl h,λi b m h=>(by cases h)⟩,λi bm hi h=>(by cases h)⟩
 match i with
 |0=>cases hc
 |1=>cases hc
 |i+2=>simp[hp]at hc
end Go.Proofs.YtjfkkokeegpeiaaDoor
/- An example of the chapter is printed. -/
namespace Go.Proofs.YtjfkkokeegpeiaaDoor
open Go Go.Am Go.RowKit Go.Proofs.Lx
set_option maxRecDepth 100000
noncomputable def EP:Env:={E with allR:=true,push:=false,rows:=false,sett:=λ_=>false}
theorem hWP:WF EP:=WF.of EP (λ_=>rfl) (by kernel_rfl) hW.1.1
theorem hXP:SoundX EP:=λf args v h=>by
 obtain⟨h1,h2,h3⟩:=hX f args v h;exact⟨h1,h2,λβ S D w us a b c=>h3 β S D w us a ⟨b.rd,b.inv⟩ c⟩
theorem scP{f:FuncId}{args:List V}{L:List (Option Chunk)}{cr:CRes}(h:SC EP f args L cr)(hr:Nat.ble (bM false (hp L) args).length (bM true (hp L) args).length=true):SC E5 f args L cr:=by
 refine un7 (h:= ?_) hr;exact⟨h.1,λβ S w us h1 h2 h3=>h.2 β S w us h1 h2 ⟨h3.rd,h3.inv⟩⟩
def gd5:List V->Bool
 | [.sc (.int .u8 x)]=>decide (0<=x)&&decide (x<256)
 |_=>false
def id2:l8:=λf args L k=>
 match f,args,L with
 |49,[.ptr 0 0],some (.tbk 64 [.ptr 0 0,v])::rest=>k (.ret (.tup []) (some (.tbk 64 [.ptr 0 0,v])::rest))
 |49,[.ptr 0 0],some (.tbk 64 [.sc (.pointer none),v])::rest=>k (.ret (.tup []) (some (.tbk 64 [.ptr 0 0,v])::rest))
 |23,[.ptr 0 0],[some (.tbk 64 [c0,.sl 1 1 0 n]),some (.row 5 1 n' f)]=>if n=n'/\0<n/\(List.range n).all (λj=>gd5 (f j))=true then k (.ret (st (bu6 n f)) [none,none])else none
 |_,_,_=>none
theorem gi8{l:List V}(h:gd5 l=true):∃x:UInt8,l=[.sc (.int .u8 ((x.toNat:Nat):Int))]/\UInt8.ofNat (u8I l).toNat=x:=by
 unfold gd5 at h;split at h
 ·rename_i x;simp only[Bool.and_eq_true,decide_eq_true_eq]at h;have hx:x.toNat<256:=by omega
  refine⟨UInt8.ofNat x.toNat,?_,rfl⟩
  have:((UInt8.ofNat x.toNat).toNat:Int)=x:=by
   simp only[UInt8.toNat_ofNat'];omega
  rw[this]
 ·cases h
theorem es9:r8 EP id2:=by
 intro f args L k r h;unfold id2 at h;split at h
 ·exact⟨_,h,be1 rfl _ _⟩
 ·exact⟨_,h,by2 rfl _ _⟩
 ·rename_i c0 n n' f;split at h
  ·rename_i hc;obtain⟨rfl,h0,hall⟩:=hc;rw[List.all_eq_true]at hall;refine⟨_,h,?_⟩;have hl:((List.range n).map λj=>UInt8.ofNat (u8I (f j)).toNat).length=n:=by simp
   have:=gp7 (E:=EP) rfl c0 (n:=n) (f:=f) (l:=(List.range n).map λj=>UInt8.ofNat (u8I (f j)).toNat) hl (by
    intro e;rw[e]at hl;simp at hl
    omega) (λj x hx=>by
    rw[List.getElem?_map,Option.map_eq_some_iff]at hx;obtain⟨i,hi,rfl⟩:=hx;obtain⟨h1,h2⟩:=List.getElem?_eq_some_iff.1 hi;simp at h1 h2;subst h2;obtain⟨y,e1,e2⟩:=gi8 (hall j (by simpa using h1));rw[e2]
    exact e1)
   unfold bu6 strOfNums;rw[List.map_map];exact this
  ·cases h
 ·cases h
def spB(f:FuncId):Bool:=f==49||f==23
def prc1:List Prc:=[⟨⟨#[112]⟩,[⟨⟨#[116]⟩,⟨#[115]⟩⟩],.node 14 0 ⟨#[]⟩ [.node 1 0 ⟨#[120]⟩ [.node 20 0 ⟨#[42]⟩ [.node 15 2 ⟨#[]⟩ [],.node 20 0 ⟨#[43]⟩ [.node 15 1 ⟨#[]⟩ [],.node 18 0 ⟨#[98,97,116,116,101,114,121]⟩ []]]]]⟩]
def ia3:ByteArray:=⟨#[112,114,111,99,101,100,117,114,101,32,112,40,116,58,32,115,41,32,123,10,32,32,108,101,116,32,120,32,61,32,50,32,42,32,40,49,32,43,32,116,108,109,46,98,97,116,116,101,114,121,41,59,10,125,10]⟩
theorem ie0:SC E5 9 [aj5 prc1] [] (.ret (st ia3) []):=scP (SC.closedB (sp:=spB) (base:=id2) hWP hXP es9 80 (by kernel_rfl)) (by kernel_rfl)
end Go.Proofs.YtjfkkokeegpeiaaDoor
/- The program's lexer, of words: the plain one. -/
namespace Go.Proofs.YtjfkkokeegpeiaaDoor
open Go Go.Am Go.Proofs.Lx
set_option maxRecDepth 100000
theorem bp3(q:Nat)(c:Int):pW q c=some (p8 c):=by
 unfold pW zF p8;simp only[ge_iff_le,decide_eq_true_eq];by_cases h1:97<=c<;>by_cases h2:c<=122<;>by_cases h3:65<=c<;>by_cases h4:c<=90<;>simp[h1,h2,h3,h4]<;>omega
theorem bh0(q:Nat)(c:Int):oZ q c=some (l6 c):=by
 unfold oZ aw6 l6;simp only[ge_iff_le,decide_eq_true_eq];by_cases h1:48<=c<;>by_cases h2:c<=57<;>simp[h1,h2]
theorem gr8(q:Nat)(c:Int):by9 q c=some (qV c):=rfl
theorem gh8(q:Nat)(c:Int):bj4 q c=some (aE c):=by
 unfold bj4 ax8;rw[bp3];dsimp only[Option.bind_some];unfold aE;by_cases h:p8 c=true
 ·rw[if_pos h,h];rfl
 ·rw[if_neg h,bh0];simp only[Bool.not_eq_true]at h;rw[h];rfl
theorem ao0:eo8 p8:=λc h=>by rw[Bool.eq_iff_iff];simp[p8];omega
theorem ah1:eo8 l6:=λc h=>by rw[Bool.eq_iff_iff];simp[l6];omega
theorem cg9:eo8 bD:=λc h=>by rw[Bool.eq_iff_iff];simp[bD];omega
theorem fr3:eo8 aE:=λc h=>by unfold aE;rw[ao0 c h,ah1 c h]
theorem ga4:eo8 qV:=λc h=>by rw[Bool.eq_iff_iff];simp[qV];omega
def rF(g:Int->Bool)(s:ByteArray)(y:Nat):Option (Nat⊕(Int⊕Unit)):=
 if y<s.size then(if(!(g ((Utf8.decode s y).1:Int)))=true then some (.inr (.inl ((y:Nat):Int)))else some (.inl (y+(Utf8.decode s y).2)))else some (.inr (.inr ()))
theorem cg3(g:Int->Bool)(hg:eo8 g)(s:ByteArray):∀(m y:Nat),y<=s.size->s.size-y<m->∃r,lpG (rF g s) m y=some r/\(r= .inl (((y+j6 g (s.data.toList.drop y):Nat):Nat):Int)\/(r= .inr ()/\y+j6 g (s.data.toList.drop y)=s.size)):=by
 intro m
 induction m with
 |zero=>intro y _ h;omega
 |succ m ih=>
  intro y hy hm;rw[ce7];by_cases h:y<s.size
  ·by_cases hc:g ((Utf8.decode s y).1:Int)=true
   ·have e:rF g s y=some (.inl (y+(Utf8.decode s y).2)):=by unfold rF;rw[if_pos h,if_neg (by rw[hc];simp)]
    rw[e];obtain⟨h1,h2,_⟩:=vX s y h;have e2:=fo8 s g hg y h hc;obtain⟨r,k1,k2⟩:=ih (y+(Utf8.decode s y).2) h2 (by omega);refine⟨r,k1,?_⟩;rw[e2];rw[Nat.add_assoc]at k2;exact k2
   ·have e:rF g s y=some (.inr (.inl ((y:Nat):Int))):=by unfold rF;rw[if_pos h,if_pos (by simpa using hc)]
    rw[e];refine⟨_,rfl,.inl ?_⟩;rw[fv2 s g y h (by rw[<-sG s g hg y h];simpa using hc)];rfl
  ·have e:rF g s y=some (.inr (.inr ())):=by unfold rF;rw[if_neg h]
   rw[e];have:y=s.size:=by omega
   subst this;exact⟨_,rfl,.inr ⟨rfl,by rw[gi3];rfl⟩⟩
theorem span_len(g:Int->Bool)(s:ByteArray):j6 g s.data.toList<=s.size:=by
 have:=cg7 g s.data.toList;simpa using this
theorem en8(q:Nat)(s:ByteArray)(hq:s.size<q):am2 q s=some ((j6 qV s.data.toList:Nat):Int):=by
 unfold am2 av5 bf1
 have e:(λy=>mE (by9 q) s y (λy=>(some (.inl y):Option (jI⊕wZ))) (λz=>some (.inr z)))=rF qV s:=by
  funext y;unfold mE rF;simp only[gr8,Option.bind_some]
 rw[e];obtain⟨r,k1,k2⟩:=cg3 qV ga4 s q 0 (Nat.zero_le _) (by omega);rw[k1];rw[List.drop_zero,Nat.zero_add]at k2;rcases k2 with rfl| ⟨rfl,k2⟩
 ·rfl
 ·rw[k2];rfl
theorem gr2(q:Nat)(s:ByteArray)(hq:s.size<q):az5 q s=some ((j6 l6 s.data.toList:Nat):Int):=by
 unfold az5 as9 bk4
 have e:(λy=>mH (oZ q) s y (λy=>(some (.inl y):Option (jR⊕xA))) (λz=>some (.inr z)))=rF l6 s:=by
  funext y;unfold mH rF;simp only[bh0,Option.bind_some]
 rw[e];obtain⟨r,k1,k2⟩:=cg3 l6 ah1 s q 0 (Nat.zero_le _) (by omega);rw[k1];rw[List.drop_zero,Nat.zero_add]at k2;rcases k2 with rfl| ⟨rfl,k2⟩
 ·rfl
 ·rw[k2];rfl
theorem gv4(q:Nat)(s:ByteArray)(hq:s.size<q):ej7 q s=some ((j6 aE s.data.toList:Nat):Int):=by
 unfold ej7 as0 bf2
 have e:(λy=>mS (bj4 q) s y (λy=>(some (.inl y):Option (iV⊕vZ))) (λz=>some (.inr z)))=rF aE s:=by
  funext y;unfold mS rF;simp only[gh8,Option.bind_some]
 rw[e];obtain⟨r,k1,k2⟩:=cg3 aE fr3 s q 0 (Nat.zero_le _) (by omega);rw[k1];rw[List.drop_zero,Nat.zero_add]at k2;rcases k2 with rfl| ⟨rfl,k2⟩
 ·rfl
 ·rw[k2];rfl
def tE(z:Tkn×Int):Int×Int×ByteArray×Int×Int:=(z.1.k,z.1.a,z.1.t,z.1.n,z.2)
theorem fj2(q:Nat)(s:ByteArray)(hq:s.size<q):word q s=some (tE (by5 s)):=by
 unfold word br0 by5;rw[gv4 q s hq];dsimp only[Option.bind_some];have hl:=span_len aE s;generalize j6 aE s.data.toList=k at hl⊢;by_cases h:12<k
 ·have h':(k:Int)>12:=by omega
  rw[if_pos h,if_pos (decide_eq_true h')];rfl
 ·have h':¬(k:Int)>12:=by omega
  have h3:(0:Int)<=0/\(0:Int)<=((k:Nat):Int)/\((k:Nat):Int)<=((s.size:Nat):Int):=by omega
  rw[if_neg h,if_neg (λhh=>h' (of_decide_eq_true hh)),if_pos h3];rfl
end Go.Proofs.YtjfkkokeegpeiaaDoor
/- The program's lexer, of symbols and numbers: the plain one. -/
namespace Go.Proofs.YtjfkkokeegpeiaaDoor
open Go Go.Am Go.Proofs.Lx
set_option maxRecDepth 100000
theorem mD{s:ByteArray}(h1:1<s.size){l:List UInt8}(hl:l∈aj1)(e:s.extract 0 2=⟨l.toArray⟩):((3,0,s.extract 0 2,0,0):Int×Int×ByteArray×Int×Int)=tE (lD s):=by
 have h2:ac8 s.data.toList=2:=gt8 (t:=s.extract 0 2) h1 rfl (by rw[e];exact hl);unfold lD;rw[h2,if_neg (by decide)];rfl
theorem fi1{s:ByteArray}(h0:0<s.size)(hn:¬(1<s.data.toList.length/\s.data.toList.take 2∈aj1))(hi:(0:Int)<=Lib.indexByte sym1 s[0]):((3,0,s.extract 0 1,0,0):Int×Int×ByteArray×Int×Int)=tE (lD s):=by
 have h2:=ei6 h0 hn;rw[if_pos hi]at h2;unfold lD;rw[h2,if_neg (by decide)];rfl
theorem gj3{s:ByteArray}(h0:0<s.size)(hn:¬(1<s.data.toList.length/\s.data.toList.take 2∈aj1))(hi:¬(0:Int)<=Lib.indexByte sym1 s[0]):((0,0,⟨#[]⟩,0,11):Int×Int×ByteArray×Int×Int)=tE (lD s):=by
 have h2:=ei6 h0 hn;rw[if_neg hi]at h2;unfold lD;rw[h2,if_pos rfl];rfl
theorem fh8(q:Nat)(s:ByteArray)(h0:0<s.size):Rs (cm9 q s) (λz=>z=tE (lD s)):=by
 unfold cm9 bu4;refine Rs.pos (show(0:Int)<=0/\(0:Int)< ((s.size:Nat):Int)by omega) ?_;have hg:=iS s 0 h0;have e:=get_at s 0 h0;simp only[Nat.add_zero]at e;rw[List.drop_zero,e]at hg;have hb:List.getD s.data.toList 0 (0:UInt8)=s[0]:=by rw[hg];rfl
 have hix:∀q,zI q ({data:=#[123,125,40,41,61,59,44,58,60,62,43,45,42,47,33,46]},((UInt8.toNat (List.getD s.data.toList 0 (0:UInt8)):Nat):Int))=some (Lib.indexByte sym1 s[0]):=by
  intro q;unfold zI;dsimp only;rw[hb,Int.toNat_natCast,UInt8.ofNat_toNat];rfl
 refine Rs.bind ⟨_,hix q,rfl⟩ λz hz=>?_;subst hz;by_cases hi:(0:Int)<=Lib.indexByte sym1 s[0]
 ·refine Rs.pos (decide_eq_true hi) ?_;have hb1:(0:Int)<=0/\(0:Int)<=1/\(1:Int)<=((s.size:Nat):Int):=by omega
  by_cases h1:1<s.size
  ·have hbn:(0:Int)<=0/\(0:Int)<=2/\(2:Int)<=((s.size:Nat):Int):=by omega
   refine Rs.pos (decide_eq_true (show((s.size:Nat):Int)>1 by omega)) (Rs.pos hbn ?_);by_cases c1:s.extract 0 2=sOr
   ·exact Rs.pos (tl_eq.2 c1) (Rs.pos hbn (Rs.some (mD h1 (by decide) c1)))
   refine Rs.neg (λh=>c1 (tl_eq.1 h)) ?_;by_cases c2:s.extract 0 2=gj9
   ·exact Rs.pos (tl_eq.2 c2) (Rs.pos hbn (Rs.some (mD h1 (by decide) c2)))
   refine Rs.neg (λh=>c2 (tl_eq.1 h)) ?_;by_cases c3:s.extract 0 2=sLe
   ·exact Rs.pos (tl_eq.2 c3) (Rs.pos hbn (Rs.some (mD h1 (by decide) c3)))
   refine Rs.neg (λh=>c3 (tl_eq.1 h)) ?_;by_cases c4:s.extract 0 2=sGe
   ·exact Rs.pos (tl_eq.2 c4) (Rs.pos hbn (Rs.some (mD h1 (by decide) c4)))
   refine Rs.neg (λh=>c4 (tl_eq.1 h)) ?_;by_cases c5:s.extract 0 2=sEq
   ·exact Rs.pos (tl_eq.2 c5) (Rs.pos hbn (Rs.some (mD h1 (by decide) c5)))
   refine Rs.neg (λh=>c5 (tl_eq.1 h)) ?_;by_cases c6:s.extract 0 2=sNe
   ·exact Rs.pos (tl_eq.2 c6) (Rs.pos hbn (Rs.some (mD h1 (by decide) c6)))
   refine Rs.neg (λh=>c6 (tl_eq.1 h)) ?_
   have hn:¬(1<s.data.toList.length/\s.data.toList.take 2∈aj1):=ef0 rfl (by
    intro l hl;simp only[aj1,List.mem_cons,List.not_mem_nil,or_false]at hl;rcases hl with rfl|rfl|rfl|rfl|rfl|rfl
    ·exact c1
    ·exact c2
    ·exact c3
    ·exact c4
    ·exact c5
    ·exact c6)
   exact Rs.pos hb1 (Rs.some (fi1 h0 hn hi))
  ·have hn:¬(1<s.data.toList.length/\s.data.toList.take 2∈aj1):=λh=>h1 (by simpa using h.1);refine Rs.neg (λh=>h1 (by have:=of_decide_eq_true h;omega)) ?_;exact Rs.pos hb1 (Rs.some (fi1 h0 hn hi))
 ·refine Rs.neg (λh=>hi (of_decide_eq_true h)) ?_;by_cases h1:1<s.size
  ·have hbn:(0:Int)<=0/\(0:Int)<=2/\(2:Int)<=((s.size:Nat):Int):=by omega
   refine Rs.pos (decide_eq_true (show((s.size:Nat):Int)>1 by omega)) (Rs.pos hbn ?_);by_cases c1:s.extract 0 2=sOr
   ·exact Rs.pos (tl_eq.2 c1) (Rs.pos hbn (Rs.some (mD h1 (by decide) c1)))
   refine Rs.neg (λh=>c1 (tl_eq.1 h)) ?_;by_cases c2:s.extract 0 2=gj9
   ·exact Rs.pos (tl_eq.2 c2) (Rs.pos hbn (Rs.some (mD h1 (by decide) c2)))
   refine Rs.neg (λh=>c2 (tl_eq.1 h)) ?_;by_cases c3:s.extract 0 2=sLe
   ·exact Rs.pos (tl_eq.2 c3) (Rs.pos hbn (Rs.some (mD h1 (by decide) c3)))
   refine Rs.neg (λh=>c3 (tl_eq.1 h)) ?_;by_cases c4:s.extract 0 2=sGe
   ·exact Rs.pos (tl_eq.2 c4) (Rs.pos hbn (Rs.some (mD h1 (by decide) c4)))
   refine Rs.neg (λh=>c4 (tl_eq.1 h)) ?_;by_cases c5:s.extract 0 2=sEq
   ·exact Rs.pos (tl_eq.2 c5) (Rs.pos hbn (Rs.some (mD h1 (by decide) c5)))
   refine Rs.neg (λh=>c5 (tl_eq.1 h)) ?_;by_cases c6:s.extract 0 2=sNe
   ·exact Rs.pos (tl_eq.2 c6) (Rs.pos hbn (Rs.some (mD h1 (by decide) c6)))
   refine Rs.neg (λh=>c6 (tl_eq.1 h)) ?_
   have hn:¬(1<s.data.toList.length/\s.data.toList.take 2∈aj1):=ef0 rfl (by
    intro l hl;simp only[aj1,List.mem_cons,List.not_mem_nil,or_false]at hl;rcases hl with rfl|rfl|rfl|rfl|rfl|rfl
    ·exact c1
    ·exact c2
    ·exact c3
    ·exact c4
    ·exact c5
    ·exact c6)
   exact Rs.some (gj3 h0 hn hi)
  ·have hn:¬(1<s.data.toList.length/\s.data.toList.take 2∈aj1):=λh=>h1 (by simpa using h.1);refine Rs.neg (λh=>h1 (by have:=of_decide_eq_true h;omega)) ?_;exact Rs.some (gj3 h0 hn hi)
theorem gu3:∀(l:List UInt8) (n:Int),(∀b∈l,l6 b.toNat=true)->0<=n->n<=bc0 n l
 | [],n,_,_=>Int.le_refl _
 |b::l,n,h,h0=>by
  have hb:=h b (.head _);simp[l6]at hb;have:=gu3 l (10*n+((b.toNat:Int)-48)) (λc hc=>h c (.tail _ hc)) (by omega);show n<=bc0 (10*n+((b.toNat:Int)-48)) l;omega
theorem gh9(q:Nat)(x0:mL)(t:ByteArray)(hd:∀b∈t.data.toList,l6 b.toNat=true):∀(m p:Nat) (n:Int),p<=t.size->t.size-p<m->0<=n->n<=2147483647->
 Rs (lpG (λy=>qE (az5 q) x0 y (λy=>some (.inl y)) (λz=>some (.inr z))) m (t,n,p)) (λr=>if bc0 n (t.data.toList.drop p)>2147483647 then r= .inl ()else r= .inr (t,bc0 n (t.data.toList.drop p))):=by
 intro m
 induction m with
 |zero=>intro p n _ h;omega
 |succ m ih=>
  intro p n hp hm h0 h1;refine Rs.step3 λQ hQ=>?_;unfold qE;dsimp only;by_cases h:p<t.size
  ·refine Rs.pos h ?_;have hg:=iS t p h;have hdg:l6 ((t.get! p).toNat:Int)=true:=hd _ (List.mem_of_getElem? (co4 t p h));have hdg':=hdg;simp[l6]at hdg';have e:=get_at t p h;simp only[Nat.add_zero]at e
   have hdec:Utf8.decode t p=((t.get! p).toNat,1):=by
    have:=decode_ascii t p h (by rw[<-e];omega);rw[this,<-e]
   rw[hdec];dsimp only
   have e32:IntKind.wrap .i32 (((t.get! p).toNat:Int)-48)=((t.get! p).toNat:Int)-48:=by
    simp[IntKind.wrap,IntKind.bits,IntKind.signed];omega
   have ew:w (w (10*n)+w (IntKind.wrap .i32 (((t.get! p).toNat:Int)-48)))=10*n+(((t.get! p).toNat:Int)-48):=by
    rw[e32,xR (n:=10*n) (by omega) (by omega),xR (n:=((t.get! p).toNat:Int)-48) (by omega) (by omega),xR (by omega) (by omega)]
   rw[ew];have ev:bc0 n (t.data.toList.drop p)=bc0 (10*n+(((t.get! p).toNat:Int)-48)) (t.data.toList.drop (p+1)):=by rw[hg];rfl
   by_cases hc:10*n+(((t.get! p).toNat:Int)-48)>2147483647
   ·refine Rs.pos (decide_eq_true hc) (Rs.some ?_);have hv:=gu3 (t.data.toList.drop (p+1)) (10*n+(((t.get! p).toNat:Int)-48)) (λb hb=>hd b (List.mem_of_mem_drop hb)) (by omega);show(if _ then _ else _);rw[if_pos (by rw[ev];omega)]
   ·refine Rs.neg (λhh=>hc (of_decide_eq_true hh)) (Rs.some (hQ _ ?_));rw[ev];exact ih (p+1) _ h (by omega) (by omega) (by omega)
  ·refine Rs.neg h (Rs.some ?_);have hlen:t.data.toList.length=t.size:=by simp
   have:t.data.toList.drop p=[]:=List.drop_of_length_le (by omega);show(if _ then _ else _);rw[this];rw[if_neg (show¬(bc0 n []>2147483647)by show¬n>2147483647;omega)];rfl
theorem fk0(q:Nat)(s:ByteArray)(hq:s.size<q):Rs (ci2 q s) (λz=>z=tE (rO (s.extract 0 (j6 l6 s.data.toList)))):=by
 unfold ci2 bu2;rw[gr2 q s hq];dsimp only[Option.bind_some];have hl:=span_len l6 s
 have hd:∀b∈(s.extract 0 (j6 l6 s.data.toList)).data.toList,l6 b.toNat=true:=by
  intro b hb;rw[dM]at hb;simp only[List.drop_zero,Nat.sub_zero]at hb;obtain⟨j,hj⟩:=List.mem_iff_getElem?.1 hb;rw[List.getElem?_take]at hj;split at hj
  ·rename_i hlt;obtain⟨c,h1,h2⟩:=bt7 l6 s.data.toList j hlt;rw[h1]at hj;cases hj;exact h2
  ·cases hj
 have ht:(s.extract 0 (j6 l6 s.data.toList)).size<=s.size:=by simp;omega
 generalize hk:j6 l6 s.data.toList=k at hl hd ht⊢;have e0:Int.toNat ((k:Nat):Int)=k:=by omega
 rw[e0];refine Rs.pos (show(0:Int)<=0/\(0:Int)<=((k:Nat):Int)/\((k:Nat):Int)<=((s.size:Nat):Int)by omega) ?_;generalize s.extract 0 k=t at hd ht⊢;have hloop:=gh9 q s t hd q 0 0 (Nat.zero_le _) (by omega) (by omega) (by omega);rw[List.drop_zero]at hloop
 have tail:¬(1<t.size/\t.data.toList[0]? =some 48)->Rs ((ca5 (az5 q) q s (t,0,0)).bind λz16=>Sum.elim (λz16a=>(some (((0:Int),(0:Int),{data:=#[]},(0:Int),(5:Int))):Option ae1)) (λz16b=>some (((2:Int),(0:Int),z16b.1,z16b.2,(0:Int)))) z16) (λz=>z=tE (rO t)):=by
  intro hno;refine Rs.bind hloop λr hr=>?_;unfold rO;rw[if_neg hno];by_cases hv:bc0 0 t.data.toList>2147483647
  ·rw[if_pos hv]at hr⊢;subst hr;exact Rs.some rfl
  ·rw[if_neg hv]at hr⊢;subst hr;exact Rs.some rfl
 by_cases h1:1<t.size
 ·refine Rs.pos (decide_eq_true (show((t.size:Nat):Int)>1 by omega)) (Rs.pos (show(0:Int)<=0/\(0:Int)< ((t.size:Nat):Int)by omega) ?_);have hg:=iS t 0 (by omega);rw[List.drop_zero]at hg;have hb:List.getD t.data.toList 0 (0:UInt8)=t.get! 0:=by rw[hg];rfl
  rw[hb];by_cases hc:(((t.get! 0).toNat:Nat):Int)=48
  ·refine Rs.pos (by simpa using hc) (Rs.some ?_);unfold rO;rw[if_pos ⟨h1,by rw[hg];simp only[List.getElem?_cons_zero,Option.some.injEq];exact UInt8.toNat_inj.1 (by show(t.get! 0).toNat=48;omega)⟩];rfl
  ·refine Rs.neg (by simpa using hc) (tail λh=>hc ?_);have:=h.2;rw[hg]at this;simp only[List.getElem?_cons_zero,Option.some.injEq]at this;rw[this];rfl
 ·exact Rs.neg (λh=>h1 (by have:=of_decide_eq_true h;omega)) (tail λh=>h1 h.1)
end Go.Proofs.YtjfkkokeegpeiaaDoor
/- The program's lexer: the plain one. -/
namespace Go.Proofs.YtjfkkokeegpeiaaDoor
open Go Go.Am Go.Proofs.Lx
set_option maxRecDepth 100000
abbrev TkT:Type:=(Nat->Int)×(Nat->ByteArray)×(Nat->Int)×(Nat->Int)
def RepK(l:List Tkn)(a:TkT):Prop:=∀j x,l[j]? =some x->a.1 j=x.k/\a.2.1 j=x.t/\a.2.2.1 j=x.n/\a.2.2.2 j=x.a
theorem RepK.push{l:List Tkn}{a:TkT}(h:RepK l a)(x:Tkn):RepK (l++[x]) (λj=>if j<l.length then a.1 j else x.k,λj=>if j<l.length then a.2.1 j else x.t,λj=>if j<l.length then a.2.2.1 j else x.n,λj=>if j<l.length then a.2.2.2 j else x.a):=by
 intro j y e;by_cases hj:j<l.length
 ·rw[List.getElem?_append_left hj]at e;simp only[hj,if_true];exact h j y e
 ·rw[List.getElem?_append_right (by omega)]at e;simp only[hj,if_false];cases hk:j-l.length with
  |zero=>rw[hk]at e;simp only[List.getElem?_cons_zero,Option.some.injEq]at e;subst e;exact⟨rfl,rfl,rfl,rfl⟩
  |succ n=>rw[hk]at e;simp at e
theorem RepK.one(x:Tkn):RepK [x] (λ_=>x.k,λ_=>x.t,λ_=>x.n,λ_=>x.a):=by
 intro j y e;cases j with
 |zero=>simp only[List.getElem?_cons_zero,Option.some.injEq]at e;subst e;exact⟨rfl,rfl,rfl,rfl⟩
 |succ j=>simp at e
def ay2(s:ByteArray):Tkn:=⟨0,(s.size:Nat),⟨#[]⟩,0⟩
def TL(s:ByteArray):nV->Prop
 | .inl z=>∃p:Nat,z.1=(p:Int)/\z.2≠0/\Lex s 0 [] ([],p,z.2)
 | .inr (.inl _)=>Lex s 0 [] ([ay2 s],0,0)
 | .inr (.inr z)=>∃acc:List Tkn,z.1=acc.length/\acc.length<=s.size/\RepK acc (z.2.1,z.2.2.2.1,z.2.2.2.2,z.2.2.1)/\Lex s 0 [] (acc++[ay2 s],0,0)
def TS(acc:List Tkn)(p d:Nat):bO->Prop
 | .inl y=>acc=[]/\y=(p,((d:Nat):Int))
 | .inr y=>∃(a:TkT) (n:Nat),y=(((d:Nat):Int),a.1,a.2.1,a.2.2.1,a.2.2.2,p,n)/\n=acc.length/\RepK acc a
theorem bn7{s:ByteArray}{p:Nat}(h:p8 ((s.get! p).toNat:Int)=true):wM s p=by5 (s.extract p s.size):=by unfold wM;rw[if_pos h]
theorem ck4{s:ByteArray}{p:Nat}(h:¬p8 ((s.get! p).toNat:Int)=true)(h2:l6 ((s.get! p).toNat:Int)=true):wM s p=rO ((s.extract p s.size).extract 0 (j6 l6 (s.extract p s.size).data.toList)):=by unfold wM;rw[if_neg h,if_pos h2]
theorem cj1{s:ByteArray}{p:Nat}(h:¬p8 ((s.get! p).toNat:Int)=true)(h2:¬l6 ((s.get! p).toNat:Int)=true):wM s p=lD (s.extract p s.size):=by unfold wM;rw[if_neg h,if_neg h2]
theorem dG(c:Int):bD c=true↔c=32\/c=9\/c=10\/c=13:=by simp[bD]
set_option maxHeartbeats 1000000 in
theorem gv1(q:Nat)(s:ByteArray)(hs:s.size<=4000)(hq:4000<q):∀(m p d:Nat) (acc:List Tkn) (y:bO),TS acc p d y->p<=s.size->d<=s.size->s.size-p<m->Bd s p d->acc.length<=max p d->(∀r,Lex s (max p d) acc r->Lex s 0 [] r)->
 Rs (pO (pW q) (oZ q) (am2 q) (word q) (ci2 q) (cm9 q) m s y) (TL s):=by
 intro m
 induction m with
 |zero=>intro p d acc y _ _ _ h;omega
 |succ m ih=>
  intro p d acc y hy hp hd hm hbd hacc hinv;unfold pO;refine Rs.step3 λQ hQ=>?_;have e1:Int.toNat ((p:Nat):Int)=p:=by omega
  have e2:Int.toNat ((s.size:Nat):Int)=s.size:=by omega
  have hr:(s.extract p s.size).size=s.size-p:=gi1 s p;rcases y with y|y
  ·obtain⟨rfl,rfl⟩:=hy;rw[Sum.elim_inl];unfold kB;dsimp only;by_cases hlt:p<s.size
   ·obtain⟨hw1,hw2,_⟩:=vX s p hlt;refine Rs.pos hlt ?_;by_cases hpd:p<d
    ·refine Rs.pos (decide_eq_true (Int.ofNat_lt.2 hpd)) (Rs.some ?_);obtain⟨b1,b2⟩:=hbd.step hpd hd;refine hQ _ (ih (p+(Utf8.decode s p).2) d [] _ ⟨rfl,rfl⟩ hw2 hd (by omega) b2 (by omega) λr h=>hinv r ?_)
     rwa [Nat.max_eq_right (by omega)]at h⊢
    ·refine Rs.neg (λh=>hpd (Int.ofNat_lt.1 (of_decide_eq_true h))) (Rs.pos (show(0:Int)<=((p:Nat):Int)/\((p:Nat):Int)<=((s.size:Nat):Int)/\((s.size:Nat):Int)<=((s.size:Nat):Int)by omega) ?_);have hmax:max p d=p:=Nat.max_eq_left (by omega);rw[hmax]at hinv hacc;have hi:=hinv;have e:=get_at s p hlt;simp only[Nat.add_zero]at e;have hW:=sG s bD cg9 p hlt;have hLt:=sG s p8 ao0 p hlt;have hDg:=sG s l6 ah1 p hlt
     have hlo:(s.get! p).toNat<128->Utf8.decode s p=((s.get! p).toNat,1):=λh=>by
      have:=decode_ascii s p hlt (by rw[<-e];exact h);rw[this,<-e]
     have hhi:128<=(s.get! p).toNat->128<=(Utf8.decode s p).1:=λh=>(decode_high s p hlt (by rw[<-e];exact h)).1
     have skip:bD (((Utf8.decode s p).1:Nat):Int)=true->Rs (pO (pW q) (oZ q) (am2 q) (word q) (ci2 q) (cm9 q) m s (.inl (p+(Utf8.decode s p).2,((d:Nat):Int)))) (TL s):=by
      intro hwh;rw[hW]at hwh;have hb:(s.get! p).toNat<128:=by have:=(dG _).1 hwh;omega
      have hd1:=hlo hb;refine ih _ d [] _ ⟨rfl,rfl⟩ hw2 hd (by omega) (Bd.refl _ _ _ (by omega)) (by omega) λr h=>hi r (.white hlt hwh ?_);rw[hd1]at h
      rwa [Nat.max_eq_left (by show d<=p+1;omega)]at h
     by_cases c1:(((Utf8.decode s p).1:Nat):Int)=32
     ·exact Rs.pos (beq_iff_eq.2 c1) (Rs.some (hQ _ (skip ((dG _).2 (.inl c1)))))
     refine Rs.neg (λh=>c1 (beq_iff_eq.1 h)) ?_;by_cases c2:(((Utf8.decode s p).1:Nat):Int)=9
     ·exact Rs.pos (beq_iff_eq.2 c2) (Rs.some (hQ _ (skip ((dG _).2 (.inr (.inl c2))))))
     refine Rs.neg (λh=>c2 (beq_iff_eq.1 h)) ?_;by_cases c3:(((Utf8.decode s p).1:Nat):Int)=10
     ·exact Rs.pos (beq_iff_eq.2 c3) (Rs.some (hQ _ (skip ((dG _).2 (.inr (.inr (.inl c3)))))))
     refine Rs.neg (λh=>c3 (beq_iff_eq.1 h)) ?_;by_cases c4:(((Utf8.decode s p).1:Nat):Int)=13
     ·exact Rs.pos (beq_iff_eq.2 c4) (Rs.some (hQ _ (skip ((dG _).2 (.inr (.inr (.inr c4)))))))
     refine Rs.neg (λh=>c4 (beq_iff_eq.1 h)) ?_
     have hwf:bD ((s.get! p).toNat:Int)=false:=by
      rw[<-hW,Bool.eq_false_iff];intro h;rcases(dG _).1 h with h|h|h|h
      ·exact c1 h
      ·exact c2 h
      ·exact c3 h
      ·exact c4 h
     rw[e1,e2];by_cases c5:(((Utf8.decode s p).1:Nat):Int)=35
     ·have hb:(s.get! p).toNat<128:=by
       rcases Nat.lt_or_ge (s.get! p).toNat 128 with h|h
       ·exact h
       ·have:=hhi h;omega
      have hd1:=hlo hb;have h35:(s.get! p).toNat=35:=by have hh:=c5;rw[hd1]at hh;dsimp only at hh;omega
      obtain⟨k1,k2,k3⟩:=fm2 hlt h35;refine Rs.pos (beq_iff_eq.2 c5) ?_;rw[en8 q _ (by omega),an2 s p (by omega)];dsimp only[Option.bind_some];refine Rs.some (hQ _ ?_);have ew:w (((p:Nat):Int)+((j6 qV (s.data.toList.drop p):Nat):Int))=((p+j6 qV (s.data.toList.drop p):Nat):Int):=by rw[xR (by omega) (by omega)];omega
      rw[ew];obtain⟨b1,b2⟩:=k3.step (by omega) k2;refine ih (p+(Utf8.decode s p).2) (p+j6 qV (s.data.toList.drop p)) [] _ ⟨rfl,rfl⟩ hw2 k2 (by omega) b2 (by omega) λr h=>hi r (.hash hlt h35 ?_)
      rwa [Nat.max_eq_right b1]at h
     refine Rs.neg (λh=>c5 (beq_iff_eq.1 h)) ?_;have h35:(s.get! p).toNat≠35:=λh=>c5 (by rw[hlo (by omega),h];rfl);rw[bp3];dsimp only[Option.bind_some];obtain⟨x,er,hx⟩:∃x er,wM s p=(x,er):=⟨_,_,rfl⟩;by_cases cl:p8 (((Utf8.decode s p).1:Nat):Int)=true
     ·refine Rs.pos cl ?_
      have hz:by5 (s.extract p s.size)=(x,er):=by
       rw[hLt]at cl;exact(bn7 cl).symm.trans hx
      rw[fj2 q _ (by omega),hz];dsimp only[Option.bind_some];refine Rs.ite (λhe=>?_) (λhe=>?_)
      ·refine Rs.some ?_;have he':er≠0:=by simpa[tE]using he
       exact⟨p,rfl,he',hi _ (.err hlt hwf h35 hx he')⟩
      ·have he':er=0:=by simpa[tE]using he
       subst he';obtain⟨o1,o2,o3,o4,o5⟩:=at4 hlt hx;refine Rs.some (hQ _ ?_);have ew:w (((p:Nat):Int)+((x.t.size:Nat):Int))=((p+x.t.size:Nat):Int):=by rw[xR (by omega) (by omega)];omega
       dsimp only[tE];rw[ew];have hbs:Bd s p (p+x.t.size):=.inl o5;obtain⟨b1,b2⟩:=hbs.step (by omega) o3;refine ih (p+(Utf8.decode s p).2) (p+x.t.size) ([]++[{x with a:=(p:Int)}]) _ ⟨_,_,rfl,rfl,RepK.one {x with a:=(p:Int)}⟩ hw2 o3 (by omega) b2 (by simp;omega) λr h=>hi r (.tok hlt hwf h35 hx ?_)
       rwa [Nat.max_eq_right b1]at h
     refine Rs.neg cl ?_;rw[bh0];dsimp only[Option.bind_some];by_cases cd:l6 (((Utf8.decode s p).1:Nat):Int)=true
     ·refine Rs.pos cd ?_
      have hz:rO ((s.extract p s.size).extract 0 (j6 l6 (s.extract p s.size).data.toList))=(x,er):=by
       rw[hLt]at cl;rw[hDg]at cd;exact(ck4 cl cd).symm.trans hx
      refine Rs.bind (fk0 q _ (by omega)) λz hzz=>?_;rw[hz]at hzz;subst hzz;refine Rs.ite (λhe=>?_) (λhe=>?_)
      ·refine Rs.some ?_;have he':er≠0:=by simpa[tE]using he
       exact⟨p,rfl,he',hi _ (.err hlt hwf h35 hx he')⟩
      ·have he':er=0:=by simpa[tE]using he
       subst he';obtain⟨o1,o2,o3,o4,o5⟩:=at4 hlt hx;refine Rs.some (hQ _ ?_);have ew:w (((p:Nat):Int)+((x.t.size:Nat):Int))=((p+x.t.size:Nat):Int):=by rw[xR (by omega) (by omega)];omega
       dsimp only[tE];rw[ew];have hbs:Bd s p (p+x.t.size):=.inl o5;obtain⟨b1,b2⟩:=hbs.step (by omega) o3;refine ih (p+(Utf8.decode s p).2) (p+x.t.size) ([]++[{x with a:=(p:Int)}]) _ ⟨_,_,rfl,rfl,RepK.one {x with a:=(p:Int)}⟩ hw2 o3 (by omega) b2 (by simp;omega) λr h=>hi r (.tok hlt hwf h35 hx ?_)
       rwa [Nat.max_eq_right b1]at h
     refine Rs.neg cd ?_
     have hz:lD (s.extract p s.size)=(x,er):=by
      rw[hLt]at cl;rw[hDg]at cd;exact(cj1 cl cd).symm.trans hx
     refine Rs.bind (fh8 q _ (by omega)) λz hzz=>?_;rw[hz]at hzz;subst hzz;refine Rs.ite (λhe=>?_) (λhe=>?_)
     ·refine Rs.some ?_;have he':er≠0:=by simpa[tE]using he
      exact⟨p,rfl,he',hi _ (.err hlt hwf h35 hx he')⟩
     ·have he':er=0:=by simpa[tE]using he
      subst he';obtain⟨o1,o2,o3,o4,o5⟩:=at4 hlt hx;refine Rs.some (hQ _ ?_);have ew:w (((p:Nat):Int)+((x.t.size:Nat):Int))=((p+x.t.size:Nat):Int):=by rw[xR (by omega) (by omega)];omega
      dsimp only[tE];rw[ew];have hbs:Bd s p (p+x.t.size):=.inl o5;obtain⟨b1,b2⟩:=hbs.step (by omega) o3;refine ih (p+(Utf8.decode s p).2) (p+x.t.size) ([]++[{x with a:=(p:Int)}]) _ ⟨_,_,rfl,rfl,RepK.one {x with a:=(p:Int)}⟩ hw2 o3 (by omega) b2 (by simp;omega) λr h=>hi r (.tok hlt hwf h35 hx ?_)
      rwa [Nat.max_eq_right b1]at h
   ·refine Rs.neg hlt (Rs.some ?_);exact hinv _ (.fin (by omega))
  ·obtain⟨a,_,rfl,rfl,ha⟩:=hy;rw[Sum.elim_inr];unfold kV;dsimp only;by_cases hlt:p<s.size
   ·obtain⟨hw1,hw2,_⟩:=vX s p hlt;refine Rs.pos hlt ?_;by_cases hpd:p<d
    ·refine Rs.pos (decide_eq_true (Int.ofNat_lt.2 hpd)) (Rs.some ?_);obtain⟨b1,b2⟩:=hbd.step hpd hd;refine hQ _ (ih (p+(Utf8.decode s p).2) d acc _ ⟨a,_,rfl,rfl,ha⟩ hw2 hd (by omega) b2 (by omega) λr h=>hinv r ?_)
     rwa [Nat.max_eq_right (by omega)]at h⊢
    ·refine Rs.neg (λh=>hpd (Int.ofNat_lt.1 (of_decide_eq_true h))) (Rs.pos (show(0:Int)<=((p:Nat):Int)/\((p:Nat):Int)<=((s.size:Nat):Int)/\((s.size:Nat):Int)<=((s.size:Nat):Int)by omega) ?_);have hmax:max p d=p:=Nat.max_eq_left (by omega);rw[hmax]at hinv hacc;have hi:=hinv;have e:=get_at s p hlt;simp only[Nat.add_zero]at e;have hW:=sG s bD cg9 p hlt;have hLt:=sG s p8 ao0 p hlt;have hDg:=sG s l6 ah1 p hlt
     have hlo:(s.get! p).toNat<128->Utf8.decode s p=((s.get! p).toNat,1):=λh=>by
      have:=decode_ascii s p hlt (by rw[<-e];exact h);rw[this,<-e]
     have hhi:128<=(s.get! p).toNat->128<=(Utf8.decode s p).1:=λh=>(decode_high s p hlt (by rw[<-e];exact h)).1
     have skip:bD (((Utf8.decode s p).1:Nat):Int)=true->Rs (pO (pW q) (oZ q) (am2 q) (word q) (ci2 q) (cm9 q) m s (.inr (((d:Nat):Int),a.1,a.2.1,a.2.2.1,a.2.2.2,p+(Utf8.decode s p).2,acc.length))) (TL s):=by
      intro hwh;rw[hW]at hwh;have hb:(s.get! p).toNat<128:=by have:=(dG _).1 hwh;omega
      have hd1:=hlo hb;refine ih _ d acc _ ⟨a,_,rfl,rfl,ha⟩ hw2 hd (by omega) (Bd.refl _ _ _ (by omega)) (by omega) λr h=>hi r (.white hlt hwh ?_);rw[hd1]at h
      rwa [Nat.max_eq_left (by show d<=p+1;omega)]at h
     by_cases c1:(((Utf8.decode s p).1:Nat):Int)=32
     ·exact Rs.pos (beq_iff_eq.2 c1) (Rs.some (hQ _ (skip ((dG _).2 (.inl c1)))))
     refine Rs.neg (λh=>c1 (beq_iff_eq.1 h)) ?_;by_cases c2:(((Utf8.decode s p).1:Nat):Int)=9
     ·exact Rs.pos (beq_iff_eq.2 c2) (Rs.some (hQ _ (skip ((dG _).2 (.inr (.inl c2))))))
     refine Rs.neg (λh=>c2 (beq_iff_eq.1 h)) ?_;by_cases c3:(((Utf8.decode s p).1:Nat):Int)=10
     ·exact Rs.pos (beq_iff_eq.2 c3) (Rs.some (hQ _ (skip ((dG _).2 (.inr (.inr (.inl c3)))))))
     refine Rs.neg (λh=>c3 (beq_iff_eq.1 h)) ?_;by_cases c4:(((Utf8.decode s p).1:Nat):Int)=13
     ·exact Rs.pos (beq_iff_eq.2 c4) (Rs.some (hQ _ (skip ((dG _).2 (.inr (.inr (.inr c4)))))))
     refine Rs.neg (λh=>c4 (beq_iff_eq.1 h)) ?_
     have hwf:bD ((s.get! p).toNat:Int)=false:=by
      rw[<-hW,Bool.eq_false_iff];intro h;rcases(dG _).1 h with h|h|h|h
      ·exact c1 h
      ·exact c2 h
      ·exact c3 h
      ·exact c4 h
     rw[e1,e2];by_cases c5:(((Utf8.decode s p).1:Nat):Int)=35
     ·have hb:(s.get! p).toNat<128:=by
       rcases Nat.lt_or_ge (s.get! p).toNat 128 with h|h
       ·exact h
       ·have:=hhi h;omega
      have hd1:=hlo hb;have h35:(s.get! p).toNat=35:=by have hh:=c5;rw[hd1]at hh;dsimp only at hh;omega
      obtain⟨k1,k2,k3⟩:=fm2 hlt h35;refine Rs.pos (beq_iff_eq.2 c5) ?_;rw[en8 q _ (by omega),an2 s p (by omega)];dsimp only[Option.bind_some];refine Rs.some (hQ _ ?_);have ew:w (((p:Nat):Int)+((j6 qV (s.data.toList.drop p):Nat):Int))=((p+j6 qV (s.data.toList.drop p):Nat):Int):=by rw[xR (by omega) (by omega)];omega
      rw[ew];obtain⟨b1,b2⟩:=k3.step (by omega) k2;refine ih (p+(Utf8.decode s p).2) (p+j6 qV (s.data.toList.drop p)) acc _ ⟨a,_,rfl,rfl,ha⟩ hw2 k2 (by omega) b2 (by omega) λr h=>hi r (.hash hlt h35 ?_)
      rwa [Nat.max_eq_right b1]at h
     refine Rs.neg (λh=>c5 (beq_iff_eq.1 h)) ?_;have h35:(s.get! p).toNat≠35:=λh=>c5 (by rw[hlo (by omega),h];rfl);rw[bp3];dsimp only[Option.bind_some];obtain⟨x,er,hx⟩:∃x er,wM s p=(x,er):=⟨_,_,rfl⟩;by_cases cl:p8 (((Utf8.decode s p).1:Nat):Int)=true
     ·refine Rs.pos cl ?_
      have hz:by5 (s.extract p s.size)=(x,er):=by
       rw[hLt]at cl;exact(bn7 cl).symm.trans hx
      rw[fj2 q _ (by omega),hz];dsimp only[Option.bind_some];refine Rs.ite (λhe=>?_) (λhe=>?_)
      ·refine Rs.some ?_;have he':er≠0:=by simpa[tE]using he
       exact⟨p,rfl,he',hi _ (.err hlt hwf h35 hx he')⟩
      ·have he':er=0:=by simpa[tE]using he
       subst he';obtain⟨o1,o2,o3,o4,o5⟩:=at4 hlt hx;refine Rs.pos ⟨by unfold d5;omega,by unfold maxLen;omega,Nat.le_refl _⟩ ?_;refine Rs.some (hQ _ ?_);have ew:w (((p:Nat):Int)+((x.t.size:Nat):Int))=((p+x.t.size:Nat):Int):=by rw[xR (by omega) (by omega)];omega
       dsimp only[tE];rw[ew];have hbs:Bd s p (p+x.t.size):=.inl o5;obtain⟨b1,b2⟩:=hbs.step (by omega) o3;refine ih (p+(Utf8.decode s p).2) (p+x.t.size) (acc++[{x with a:=(p:Int)}]) _ ⟨_,_,rfl,by simp,ha.push {x with a:=(p:Int)}⟩ hw2 o3 (by omega) b2 (by simp;omega) λr h=>hi r (.tok hlt hwf h35 hx ?_)
       rwa [Nat.max_eq_right b1]at h
     refine Rs.neg cl ?_;rw[bh0];dsimp only[Option.bind_some];by_cases cd:l6 (((Utf8.decode s p).1:Nat):Int)=true
     ·refine Rs.pos cd ?_
      have hz:rO ((s.extract p s.size).extract 0 (j6 l6 (s.extract p s.size).data.toList))=(x,er):=by
       rw[hLt]at cl;rw[hDg]at cd;exact(ck4 cl cd).symm.trans hx
      refine Rs.bind (fk0 q _ (by omega)) λz hzz=>?_;rw[hz]at hzz;subst hzz;refine Rs.ite (λhe=>?_) (λhe=>?_)
      ·refine Rs.some ?_;have he':er≠0:=by simpa[tE]using he
       exact⟨p,rfl,he',hi _ (.err hlt hwf h35 hx he')⟩
      ·have he':er=0:=by simpa[tE]using he
       subst he';obtain⟨o1,o2,o3,o4,o5⟩:=at4 hlt hx;refine Rs.pos ⟨by unfold d5;omega,by unfold maxLen;omega,Nat.le_refl _⟩ ?_;refine Rs.some (hQ _ ?_);have ew:w (((p:Nat):Int)+((x.t.size:Nat):Int))=((p+x.t.size:Nat):Int):=by rw[xR (by omega) (by omega)];omega
       dsimp only[tE];rw[ew];have hbs:Bd s p (p+x.t.size):=.inl o5;obtain⟨b1,b2⟩:=hbs.step (by omega) o3;refine ih (p+(Utf8.decode s p).2) (p+x.t.size) (acc++[{x with a:=(p:Int)}]) _ ⟨_,_,rfl,by simp,ha.push {x with a:=(p:Int)}⟩ hw2 o3 (by omega) b2 (by simp;omega) λr h=>hi r (.tok hlt hwf h35 hx ?_)
       rwa [Nat.max_eq_right b1]at h
     refine Rs.neg cd ?_
     have hz:lD (s.extract p s.size)=(x,er):=by
      rw[hLt]at cl;rw[hDg]at cd;exact(cj1 cl cd).symm.trans hx
     refine Rs.bind (fh8 q _ (by omega)) λz hzz=>?_;rw[hz]at hzz;subst hzz;refine Rs.ite (λhe=>?_) (λhe=>?_)
     ·refine Rs.some ?_;have he':er≠0:=by simpa[tE]using he
      exact⟨p,rfl,he',hi _ (.err hlt hwf h35 hx he')⟩
     ·have he':er=0:=by simpa[tE]using he
      subst he';obtain⟨o1,o2,o3,o4,o5⟩:=at4 hlt hx;refine Rs.pos ⟨by unfold d5;omega,by unfold maxLen;omega,Nat.le_refl _⟩ ?_;refine Rs.some (hQ _ ?_);have ew:w (((p:Nat):Int)+((x.t.size:Nat):Int))=((p+x.t.size:Nat):Int):=by rw[xR (by omega) (by omega)];omega
      dsimp only[tE];rw[ew];have hbs:Bd s p (p+x.t.size):=.inl o5;obtain⟨b1,b2⟩:=hbs.step (by omega) o3;refine ih (p+(Utf8.decode s p).2) (p+x.t.size) (acc++[{x with a:=(p:Int)}]) _ ⟨_,_,rfl,by simp,ha.push {x with a:=(p:Int)}⟩ hw2 o3 (by omega) b2 (by simp;omega) λr h=>hi r (.tok hlt hwf h35 hx ?_)
      rwa [Nat.max_eq_right b1]at h
   ·refine Rs.neg hlt (Rs.some ?_);exact⟨acc,rfl,by omega,ha,hinv _ (.fin (by omega))⟩
end Go.Proofs.YtjfkkokeegpeiaaDoor
/- The program's tokens: what the plain lexer says; what is true of them. -/
namespace Go.Proofs.YtjfkkokeegpeiaaDoor
open Go Go.Am Go.Proofs.Lx
set_option maxRecDepth 100000
def eB(x:Tkn):Prop:=(x.k≠3->j8 x.t=0)/\(x.k=1->x.t.size<=12/\∀c∈x.t.data.toList,c≠32)
theorem ec2(s:ByteArray):eB (ay2 s):=⟨λ_=>(by decide:j8 ⟨#[]⟩=0),λh=>absurd h (show¬(0:Int)=1 by decide)⟩
theorem du6{t:ByteArray}(h:∀c∈t.data.toList,aE c.toNat=true):j8 t=0:=by
 have no:∀(b:UInt8) (l:List UInt8),aE b.toNat=false->t≠⟨(b::l).toArray⟩:=by
  intro b l hb e;have:=h b (by rw[e];simp);rw[hb]at this;cases this
 unfold j8;rw[if_neg (no 124 [124] (by decide)),if_neg (no 38 [38] (by decide)),if_neg,if_neg,if_neg]
 ·rintro(e|e)
  ·exact no 42 [] (by decide) e
  ·exact no 47 [] (by decide) e
 ·rintro(e|e)
  ·exact no 43 [] (by decide) e
  ·exact no 45 [] (by decide) e
 ·rintro(e|e|e|e|e|e)
  ·exact no 60 [] (by decide) e
  ·exact no 60 [61] (by decide) e
  ·exact no 62 [] (by decide) e
  ·exact no 62 [61] (by decide) e
  ·exact no 61 [61] (by decide) e
  ·exact no 33 [61] (by decide) e
theorem ch5(g:Int->Bool)(s:ByteArray):∀c∈(s.extract 0 (j6 g s.data.toList)).data.toList,g c.toNat=true:=by
 intro b hb;rw[dM]at hb;simp only[List.drop_zero,Nat.sub_zero]at hb;obtain⟨j,hj⟩:=List.mem_iff_getElem?.1 hb;rw[List.getElem?_take]at hj;split at hj
 ·rename_i hlt;obtain⟨c,h1,h2⟩:=bt7 g s.data.toList j hlt;rw[h1]at hj;cases hj;exact h2
 ·cases hj
theorem es3{c:Int}(h:l6 c=true):aE c=true:=by unfold aE;rw[h];simp
theorem fo2{c:UInt8}(h:aE c.toNat=true):c≠32:=by rintro rfl;revert h;decide
theorem cy1{s:ByteArray}{p:Nat}{x:Tkn}(h:wM s p=(x,0)):eB x:=by
 by_cases h1:p8 ((s.get! p).toNat:Int)=true
 ·rw[bn7 h1]at h;unfold by5 at h;split at h
  ·cases h
  ·rename_i h12;cases h;have hw:=ch5 aE (s.extract p s.size);refine⟨λ_=>du6 hw,λ_=>⟨?_,λc hc=>fo2 (hw c hc)⟩⟩;have:=span_len aE (s.extract p s.size);simp only[ByteArray.size_extract]at*;omega
 ·by_cases h2:l6 ((s.get! p).toNat:Int)=true
  ·rw[ck4 h1 h2]at h;have hw:=ch5 l6 (s.extract p s.size);unfold rO at h;split at h
   ·cases h
   ·split at h
    ·cases h
    ·cases h;exact⟨λ_=>du6 λc hc=>es3 (hw c hc),λh=>absurd h (show¬(2:Int)=1 by decide)⟩
  ·rw[cj1 h1 h2]at h;unfold lD at h;split at h
   ·cases h
   ·cases h;exact⟨λh=>absurd rfl h,λh=>absurd h (show¬(3:Int)=1 by decide)⟩
theorem gn1{s:ByteArray}{p:Nat}{acc:List Tkn}{r:List Tkn×Nat×Int}(h:Lex s p acc r):(∀x∈acc,eB x)->∀x∈r.1,eB x:=by
 induction h with
 |fin _=>
  intro ha x hx;rcases List.mem_append.1 hx with h|h
  ·exact ha x h
  ·simp only[List.mem_singleton]at h;subst h;exact ec2 s
 |white _ _ _ ih=>exact ih
 |hash _ _ _ ih=>exact ih
 |tok h1 h2 h3 h4 _ ih=>
  intro ha;refine ih λx hx=>?_;rcases List.mem_append.1 hx with h|h
  ·exact ha x h
  ·simp only[List.mem_singleton]at h;subst h;exact⟨(cy1 h4).1,(cy1 h4).2⟩
 |err _ _ _ _ _=>intro _ x hx;cases hx
def dL(s:ByteArray)(l:List Tkn)(j:Nat):Tkn:=l.getD j (ay2 s)
theorem fm9{s:ByteArray}{acc:List Tkn}(hs:acc.length<=4000)(hg:∀x∈acc,eB x):TokN (acc.length+1) (dL s acc):=by
 have he:∀j,dL s acc j=ay2 s\/dL s acc j∈acc:=by
  intro j;unfold dL;rw[List.getD_eq_getElem?_getD];cases h:acc[j]?with
  |none=>exact .inl rfl
  |some x=>exact .inr (List.mem_of_getElem? h)
 have hgood:∀j,eB (dL s acc j):=λj=>by
  rcases he j with h|h
  ·rw[h];exact ec2 s
  ·exact hg _ h
 have hlast:dL s acc (acc.length+1-1)=ay2 s:=by
  unfold dL;rw[List.getD_eq_getElem?_getD,List.getElem?_eq_none (by omega)];rfl
 exact⟨by omega,by omega,by rw[hlast];rfl,by rw[hlast];rfl,λj=>(hgood j).1,λj=>(hgood j).2⟩
theorem dv6(s:ByteArray)(q:Nat)(hq:5000<q):
 (∃z:dF,bJ q s=some z/\z.2.1≠0/\z.2.2.1=0/\∃p:Nat,z.1=(p:Int)/\fN s ([],p,z.2.1))\/
 (∃acc:List Tkn,bJ q s=some (0,0,bl4 (acc.length+1) (dL s acc))/\TokN (acc.length+1) (dL s acc)/\fN s (acc++[ay2 s],0,0)):=by
 unfold bJ ey7 aa3;by_cases hbig:4000<s.size
 ·refine .inl ⟨(4000,2,0,λ_=>0,λ_=>0,λ_=>ByteArray.empty,λ_=>0),?_,by decide,rfl,4000,rfl,.inl ⟨hbig,rfl⟩⟩;rw[if_pos (decide_eq_true (show((s.size:Nat):Int)>4000 by omega))];rfl
 ·have hs:s.size<=4000:=by omega
  rw[if_neg (λh=>hbig (by have:=of_decide_eq_true h;omega))];obtain⟨z,h1,h2⟩:=gv1 q s hs (by omega) q 0 0 [] (.inl (0,0)) ⟨rfl,rfl⟩ (Nat.zero_le _) (Nat.zero_le _) (by omega) (Bd.refl _ _ _ (Nat.le_refl _)) (Nat.zero_le _) (λr h=>h);rw[h1];dsimp only[Option.bind_some];rcases z with z|z|z
  ·obtain⟨p,g1,g2,g3⟩:=h2;exact .inl ⟨_,rfl,g2,rfl,p,g1,.inr ⟨hs,g3⟩⟩
  ·refine .inr ⟨[],?_,fm9 (by simp) (by simp),.inr ⟨hs,h2⟩⟩;rfl
  ·obtain⟨acc,g1,g2,g3,g4⟩:=h2;have hgood:=gn1 g4 (by simp);have hN:=fm9 (s:=s) (acc:=acc) (by omega) (λx hx=>hgood x (List.mem_append_left _ hx));refine .inr ⟨acc,?_,hN,.inr ⟨hs,g4⟩⟩;obtain⟨n,k,a,t,v⟩:=z;dsimp only at g1 g3⊢;subst g1
   have key:∀j,(if j<acc.length then k j else 0)=(dL s acc j).k/\(if j<acc.length then a j else((s.size:Nat):Int))=(dL s acc j).a/\(if j<acc.length then t j else⟨#[]⟩)=(dL s acc j).t/\(if j<acc.length then v j else 0)=(dL s acc j).n:=by
    intro j;unfold dL;by_cases hj:j<acc.length
    ·have e:=List.getElem?_eq_getElem hj;obtain⟨k1,k2,k3,k4⟩:=g3 j _ e;simp only[hj,if_true];rw[List.getD_eq_getElem?_getD,e];exact⟨k1,k4,k2,k3⟩
    ·simp only[hj,if_false];rw[List.getD_eq_getElem?_getD,List.getElem?_eq_none (by omega)];exact⟨rfl,rfl,rfl,rfl⟩
   show Option.map dc9 (if _ then some (Sum.inr _)else none)=_;rw[if_pos ⟨by unfold d5;omega,by unfold maxLen;omega,Nat.le_refl _⟩];show some _=some _;have f1:(λj=>if j<acc.length then k j else 0)=λj=>(dL s acc j).k:=funext λj=>(key j).1;have f2:(λj=>if j<acc.length then a j else((s.size:Nat):Int))=λj=>(dL s acc j).a:=funext λj=>(key j).2.1;have f3:(λj=>if j<acc.length then t j else(⟨#[]⟩:ByteArray))=λj=>(dL s acc j).t:=funext λj=>(key j).2.2.1;have f4:(λj=>if j<acc.length then v j else 0)=λj=>(dL s acc j).n:=funext λj=>(key j).2.2.2;unfold bl4;rw[<-f1,<-f2,<-f3,<-f4];rfl
theorem cf3(s:ByteArray)(q:Nat)(hq:5000<q):
 (∃z:dF,bJ q s=some z/\z.2.1≠0/\∃p:Nat,z.1=(p:Int)/\fN s ([],p,z.2.1))\/
 (∃acc:List Tkn,bJ q s=some (0,0,bl4 (acc.length+1) (dL s acc))/\TokN (acc.length+1) (dL s acc)/\fN s (acc++[ay2 s],0,0)):=
 (dv6 s q hq).imp (λ⟨z,h1,h2,_,h3⟩=>⟨z,h1,h2,h3⟩) id
end Go.Proofs.YtjfkkokeegpeiaaDoor
/- The plain parser comes to an end. -/
namespace Go.Proofs.YtjfkkokeegpeiaaDoor
open Go Go.Am Go.Proofs.Lx
set_option maxRecDepth 100000
def Tot{α:Type}(N p:Nat):PR α->Prop
 | .ok _ s=>p<=s.p/\s.p<N
 | .err _ _=>True
 | .out=>False
theorem Tot.bind{α β:Type}{N p p':Nat}{r:PR α}{k:α->PS->PR β}(h:Tot N p r)(hk:∀a s,p<=s.p->s.p<N->Tot N p' (k a s)):Tot N p' (r.bind k):=by
 cases r with
 |ok a s=>exact hk a s h.1 h.2
 |err p c=>trivial
 |out=>exact h.elim
theorem Tot.mono{α:Type}{N p p':Nat}{r:PR α}(h:Tot N p r)(hp:p'<=p):Tot N p' r:=by
 cases r with
 |ok a s=>exact⟨Nat.le_trans hp h.1,h.2⟩
 |err p c=>trivial
 |out=>exact h.elim
theorem Tot.ite{α:Type}{N p:Nat}{c:Prop}[Decidable c]{a b:PR α}(h1:c->Tot N p a)(h2:¬c->Tot N p b):Tot N p (if c then a else b):=by
 by_cases h:c
 ·rw[if_pos h];exact h1 h
 ·rw[if_neg h];exact h2 h
section
variable {N:Nat} {T:Nat->Tkn} {s:PS}
theorem lP(hT:TokN N T)(hp:s.p<N){b:ByteArray}(hb:b≠⟨#[]⟩):Tot N (s.p+1) (y7 T b s):=by
 unfold y7;exact Tot.ite (λh=>⟨Nat.le_refl _,hT.lt hp (u6 hb h)⟩) λ_=>trivial
theorem bt2(hT:TokN N T)(hp:s.p<N){b:ByteArray}(hb:b≠⟨#[]⟩):Tot N (s.p+1) (eG T b s):=by
 unfold eG;exact Tot.ite (λh=>Tot.ite (λ_=>trivial) λ_=>⟨Nat.le_refl _,hT.lt hp (u6 hb h)⟩) λ_=>trivial
theorem ap5(hT:TokN N T)(hp:s.p<N):Tot N (s.p+1) (fD T s):=by
 unfold fD;refine Tot.ite (λ_=>trivial) λh=>⟨Nat.le_refl _,hT.lt hp (.inr ?_)⟩
 have:(T s.p).k=1:=by
  by_cases e:(T s.p).k=1
  ·exact e
  ·exact absurd (Or.inl e) h
 rw[this];decide
theorem cc6(hT:TokN N T)(hp:s.p<N)(lo hi:Int):Tot N (s.p+1) (tB T lo hi s):=by
 unfold tB;refine Tot.ite (λ_=>trivial) λh=>Tot.ite (λ_=>trivial) λ_=>⟨Nat.le_refl _,hT.lt hp (.inr ?_)⟩;have:(T s.p).k=2:=Decidable.not_not.1 h;rw[this];decide
theorem ea2(hT:TokN N T)(hp:s.p<N):Tot N (s.p+1) (zL T s):=by
 unfold zL;exact(ap5 hT hp).bind λa s1 h1 h2=>Tot.ite (λ_=>trivial) λ_=>Tot.ite (λ_=>trivial) λ_=>⟨h1,h2⟩
theorem cc3(hT:TokN N T)(hp:s.p<N):Tot N (s.p+1) (tA T s):=by
 unfold tA;refine(cc6 hT hp _ _).bind λa s1 h1 h2=>Tot.ite (λh=>⟨by show s.p+1<=s1.p+1;omega,hT.lt h2 (.inr ?_)⟩) λ_=>⟨h1,h2⟩;rw[h.1];decide
theorem af4(hT:TokN N T)(hp:s.p<N){b:ByteArray}(hb:b≠⟨#[]⟩)(h:isP T b s=true):(adv s).p<N:=hT.lt hp (u6 hb h)
end
section
variable {N:Nat} {T:Nat->Tkn}
theorem al1(hT:TokN N T):∀f,(∀lv s,1<=lv->lv<=8->s.p<N->20*(N-s.p)+10-lv<=f->Tot N s.p (o9 T f lv s))/\
 (∀lv n s,1<=lv->lv<=7->s.p<N->20*(N-s.p)+1<=f->Tot N s.p (mP T f lv n s))/\
 (∀b lv s,b≠⟨#[]⟩->1<=lv->lv<=8->s.p<N->20*(N-s.p)<=f->Tot N s.p (fQ T f b lv s))/\
 (∀s,s.p<N->20*(N-s.p)<=f->Tot N s.p (jX T f s)):=by
 intro f
 induction f with
 |zero=>exact⟨λlv s _ _ h1 h2=>by omega,λlv n s _ _ h1 h2=>by omega,λb lv s _ _ _ h1 h2=>by omega,λs h1 h2=>by omega⟩
 |succ f ih=>
  obtain⟨i1,i2,i3,i4⟩:=ih;refine⟨λlv s l1 l2 hp hf=>?_,λlv n s l1 l2 hp hf=>?_,λb lv s hb l1 l2 hp hf=>?_,λs hp hf=>?_⟩
  ·rw[o9];refine Tot.ite (λh=>i3 oH 3 s (by decide) (by decide) (by decide) hp (by omega)) λh3=>Tot.ite (λh=>i3 sW 7 s (by decide) (by decide) (by decide) hp (by omega)) λh7=>Tot.ite (λh=>i4 s hp (by omega)) λh8=>?_;refine(i1 (lv+1) s (by omega) (by omega) hp (by omega)).bind λn s1 h1 h2=>?_;exact(i2 lv n s1 l1 (by omega) h2 (by omega)).mono h1
  ·rw[mP];refine Tot.ite (λh=>?_) λ_=>⟨Nat.le_refl _,hp⟩;have ha:(adv s).p<N:=hT.lt hp (.inr (by rw[h.2];decide));have hap:(adv s).p=s.p+1:=rfl;refine(i1 (lv+1) (adv s) (by omega) (by omega) ha (by omega)).bind λm s1 h1 h2=>Tot.ite (λ_=>⟨by omega,h2⟩) λ_=>?_;exact(i2 lv _ s1 l1 l2 h2 (by omega)).mono (by omega)
  ·rw[fQ];refine(bt2 hT hp hb).bind λ_ s1 h1 h2=>(i1 lv s1 l1 l2 h2 (by omega)).bind λn s2 h3 h4=>⟨?_,h4⟩;show s.p<=s2.p;omega
  ·rw[jX];refine Tot.ite (λ_=>(cc3 hT hp).mono (by omega)) λ_=>Tot.ite (λh=>⟨Nat.le_succ _,af4 hT hp (by decide) h⟩) λ_=>Tot.ite (λh=>⟨Nat.le_succ _,af4 hT hp (by decide) h⟩) λ_=>Tot.ite (λh=>?_) λ_=>Tot.ite (λh=>?_) λ_=>(ap5 hT hp).bind λx s1 h1 h2=>⟨by omega,h2⟩
   ·have hap:(adv s).p=s.p+1:=rfl;exact(lP hT (af4 hT hp (by decide) h) (by decide)).bind λ_ s1 h1 h2=>(ap5 hT h2).bind λx s2 h3 h4=>⟨by omega,h4⟩
   ·refine(bt2 hT hp (by decide)).bind λ_ s1 h1 h2=>(i1 1 s1 (by decide) (by decide) h2 (by omega)).bind λn s2 h3 h4=>(lP hT h4 (by decide)).bind λ_ s3 h5 h6=>⟨?_,h6⟩;show s.p<=s3.p;omega
end
end Go.Proofs.YtjfkkokeegpeiaaDoor
/- The plain parser comes to an end (2); what Parse returns, for every source. -/
namespace Go.Proofs.YtjfkkokeegpeiaaDoor
open Go Go.Am Go.Proofs.Lx
set_option maxRecDepth 100000
section
variable {N:Nat} {T:Nat->Tkn} {s:PS}
theorem hl6(hT:TokN N T)(hp:s.p<N)(n:Tr):Tot N s.p (Lx.endP T n s):=(lP hT hp (by decide)).bind λ_ s1 h1 h2=>⟨by omega,h2⟩
theorem jE(hT:TokN N T){r:PR Tr}{p:Nat}(h:Tot N p r):Tot N p (r.bind (Lx.endP T)):=h.bind λn s1 h1 h2=>(hl6 hT h2 n).mono h1
theorem gf6(hT:TokN N T){f:Nat}(hp:s.p<N)(hf:20*(N-s.p)+10<=f):Tot N s.p (ee9 T f s):=(ea2 hT hp).bind λa s1 h1 h2=>(lP hT h2 (by decide)).bind λ_ s2 h3 h4=>((al1 hT f).1 1 s2 (by decide) (by decide) h4 (by omega)).bind λn s3 h5 h6=>⟨by omega,h6⟩
theorem gw4(hT:TokN N T){f:Nat}(hp:s.p<N)(hf:20*(N-s.p)<=f+1):Tot N (s.p+1) (ed1 T f s):=(ap5 hT hp).bind λa s1 h1 h2=>(lP hT h2 (by decide)).bind λ_ s2 h3 h4=>((al1 hT f).1 1 s2 (by decide) (by decide) h4 (by omega)).bind λn s3 h5 h6=>⟨by omega,h6⟩
theorem fe0(hT:TokN N T){f:Nat}(hp:s.p<N)(hf:20*(N-s.p)+10<=f):Tot N s.p (am4 T f s):=((al1 hT f).1 1 s (by decide) (by decide) hp (by omega)).bind λn s1 h1 h2=>(lP hT h2 (by decide)).bind λ_ s2 h3 h4=>(cc3 hT h4).bind λm s3 h5 h6=>⟨by omega,h6⟩
theorem ek6(hT:TokN N T)(hp:s.p<N)(k:Int):Tot N s.p (eh3 T k s):=(cc3 hT hp).bind λn s1 h1 h2=>⟨by omega,h2⟩
theorem eg5(hT:TokN N T){f:Nat}(hp:s.p<N)(hf:20*(N-s.p)+10<=f)(k:Int):Tot N s.p (ei9 T f k s):=((al1 hT f).1 1 s (by decide) (by decide) hp (by omega)).bind λn s1 h1 h2=>⟨h1,h2⟩
theorem el9(hT:TokN N T)(hp:s.p<N)(k hi:Int):Tot N s.p (ee5 T k hi s):=(cc6 hT hp 0 hi).bind λn s1 h1 h2=>⟨by omega,h2⟩
theorem dz9(hT:TokN N T)(hp:s.p<N)(k:Int){b:ByteArray}(hb:b≠⟨#[]⟩):Tot N s.p (dr3 T k b s):=(cc6 hT hp 0 7).bind λn s1 h1 h2=>(lP hT h2 hb).bind λ_ s2 h3 h4=>(cc3 hT h4).bind λm s3 h5 h6=>⟨by omega,h6⟩
end
section
variable {N:Nat} {T:Nat->Tkn}
theorem gj4(hT:TokN N T):∀f,(∀s,s.p<N->20*(N-s.p)+12<=f->Tot N (s.p+1) (bC T f s))/\(∀s,s.p<N->20*(N-s.p)+11<=f->Tot N s.p (dZ T f s))/\(∀s,s.p<N->20*(N-s.p)+10<=f->Tot N (s.p+1) (xQ T f s)):=by
 intro f
 induction f with
 |zero=>exact⟨λs h1 h2=>by omega,λs h1 h2=>by omega,λs h1 h2=>by omega⟩
 |succ f ih=>
  obtain⟨i1,i2,i3⟩:=ih;refine⟨λs hp hf=>?_,λs hp hf=>?_,λs hp hf=>?_⟩
  ·rw[bC];refine(bt2 hT hp (by decide)).bind λ_ s1 h1 h2=>(i2 s1 h2 (by omega)).bind λl s2 h3 h4=>⟨?_,h4⟩;show s.p+1<=s2.p;omega
  ·rw[dZ];refine Tot.ite (λh=>⟨Nat.le_succ _,af4 hT hp (by decide) h⟩) λ_=>?_;exact(i3 s hp (by omega)).bind λn s1 h1 h2=>(i2 s1 h2 (by omega)).bind λl s2 h3 h4=>⟨by omega,h4⟩
  ·rw[xQ];have hap:(adv s).p=s.p+1:=rfl;have ha:∀{b:ByteArray},b≠⟨#[]⟩->isP T b s=true->(adv s).p<N:=λhb h=>af4 hT hp hb h;refine Tot.ite (λh=>?_) λ_=>?_
   ·rw[fd6];have:=ha (by decide) h;exact jE hT (gf6 hT this (by omega))
   refine Tot.ite (λh=>?_) λ_=>?_
   ·have hh:=ha (by decide) h;refine((al1 hT f).1 1 (adv s) (by decide) (by decide) hh (by omega)).bind λc s1 h1 h2=>(i1 s1 h2 (by omega)).bind λy s2 h3 h4=>Tot.ite (λh=>?_) λ_=>⟨by omega,h4⟩;have hap2:(adv s2).p=s2.p+1:=rfl;have h5:(adv s2).p<N:=af4 hT h4 (by decide) h;exact(i1 (adv s2) h5 (by omega)).bind λn s3 h6 h7=>⟨by omega,h7⟩
   refine Tot.ite (λh=>?_) λ_=>?_
   ·have hh:=ha (by decide) h;exact(cc6 hT hh 1 100).bind λn s1 h1 h2=>(i1 s1 h2 (by omega)).bind λy s2 h3 h4=>⟨by omega,h4⟩
   refine Tot.ite (λh=>?_) λ_=>?_
   ·rw[cl2];have:=ha (by decide) h;exact jE hT (fe0 hT this (by omega))
   refine Tot.ite (λh=>?_) λ_=>?_
   ·rw[bo3];exact jE hT (ek6 hT (ha (by decide) h) _)
   refine Tot.ite (λh=>?_) λ_=>?_
   ·rw[bo3];exact jE hT (ek6 hT (ha (by decide) h) _)
   refine Tot.ite (λh=>?_) λ_=>?_
   ·rw[bq5];have:=ha (by decide) h;exact jE hT (eg5 hT this (by omega) _)
   refine Tot.ite (λh=>?_) λ_=>?_
   ·rw[bq5];have:=ha (by decide) h;exact jE hT (eg5 hT this (by omega) _)
   refine Tot.ite (λh=>?_) λ_=>?_
   ·rw[bv9];exact jE hT (dz9 hT (ha (by decide) h) _ (by decide))
   refine Tot.ite (λh=>?_) λ_=>?_
   ·rw[bv9];exact jE hT (dz9 hT (ha (by decide) h) _ (by decide))
   refine Tot.ite (λh=>?_) λ_=>?_
   ·rw[bu3];exact jE hT (el9 hT (ha (by decide) h) _ _)
   refine Tot.ite (λh=>?_) λ_=>?_
   ·rw[bu3];exact jE hT (el9 hT (ha (by decide) h) _ _)
   rw[eu5];exact jE hT (gw4 hT hp (by omega))
theorem hn8(hT:TokN N T){s:PS}(hp:s.p<N):Tot N (s.p+1) (ga3 T s):=by
 unfold ga3;refine(ea2 hT hp).bind λx s1 h1 h2=>Tot.ite (λh=>?_) λ_=>⟨h1,h2⟩;have h3:s1.p+1<N:=af4 hT h2 (by decide) h;refine Tot.ite (λ_=>trivial) λhk=>Tot.ite (λ_=>trivial) λ_=>⟨?_,?_⟩
 ·show s.p+1<=s1.p+1+1;omega
 ·have hk:(T (s1.p+1)).k=1:=Decidable.not_not.1 hk;exact hT.lt h3 (.inr (by show(T (s1.p+1)).k≠0;rw[hk];decide))
theorem dy1(hT:TokN N T):∀f s,s.p<N->20*(N-s.p)<=f->Tot N s.p (cf6 T f s)
 |0,s,h1,h2=>by omega
 |f+1,s,hp,hf=>by
  rw[cf6];refine(hn8 hT hp).bind λx s1 h1 h2=>Tot.ite (λh=>?_) λ_=>(lP hT h2 (by decide)).bind λ_ s2 h3 h4=>⟨by omega,h4⟩;have hap:(adv s1).p=s1.p+1:=rfl;exact(dy1 hT f (adv s1) (af4 hT h2 (by decide) h) (by omega)).bind λl s2 h3 h4=>⟨by omega,h4⟩
theorem fa7(hT:TokN N T){f:Nat}{s:PS}(hp:s.p<N)(hf:20*(N-s.p)<=f):Tot N s.p (mC T f s):=by
 unfold mC;refine(lP hT hp (by decide)).bind λ_ s1 h1 h2=>Tot.ite (λh=>⟨?_,af4 hT h2 (by decide) h⟩) λ_=>(dy1 hT f s1 h2 (by omega)).mono (by omega);show s.p<=s1.p+1;omega
theorem gn4(hT:TokN N T){f:Nat}{pr:List ByteArray}{s:PS}(hp:s.p<N)(hf:20*(N-s.p)+12<=f):Tot N (s.p+1) (aj7 T f pr s):=by
 unfold aj7;refine(lP hT hp (by decide)).bind λ_ s1 h1 h2=>(ap5 hT h2).bind λx s2 h3 h4=>Tot.ite (λ_=>trivial) λ_=>?_;refine(fa7 hT (s:={s2 with vs:=[]}) h4 (by show 20*(N-s2.p)<=f;omega)).bind λl s3 h5 h6=>?_;have h5:s2.p<=s3.p:=h5;exact((gj4 hT f).1 s3 h6 (by omega)).bind λb s4 h7 h8=>⟨by omega,h8⟩
theorem cy4(hT:TokN N T):∀f pr s,s.p<N->20*(N-s.p)+13<=f->Tot N s.p (s5 T f pr s)
 |0,pr,s,h1,h2=>by omega
 |f+1,pr,s,hp,hf=>by
  rw[s5];refine Tot.ite (λ_=>⟨Nat.le_refl _,hp⟩) λ_=>(gn4 hT hp (by omega)).bind λx s1 h1 h2=>?_;exact(cy4 hT f _ s1 h2 (by omega)).bind λl s2 h3 h4=>⟨by omega,h4⟩
end
def cy2:Nat:=100000
inductive ParseR(s:ByteArray):List Prc×Int×Int->Prop
 |lex (p:Nat) (e:Int):fN s ([],p,e)->e≠0->ParseR s ([],p,e)
 |ok (acc:List Tkn) (l:List Prc) (s':PS):fN s (acc++[ay2 s],0,0)->TokN (acc.length+1) (dL s acc)->s5 (dL s acc) cy2 [] ⟨0,0,[]⟩= .ok l s'->ParseR s (l,0,0)
 |err (acc:List Tkn) (p:Nat) (c:Int):fN s (acc++[ay2 s],0,0)->TokN (acc.length+1) (dL s acc)->p<acc.length+1->s5 (dL s acc) cy2 [] ⟨0,0,[]⟩= .err p c->ParseR s ([],(dL s acc p).a,c)
theorem bs3(s:ByteArray):∃r,ParseR s r/\SC E5 8 [st s] [] (.ret (.tup [aj5 r.1,i64 r.2.1,i64 r.2.2]) []):=by
 rcases cf3 s 3000000000 (by decide)with⟨z,h1,h2,p,h3,h4⟩ | ⟨acc,h1,h2,h3⟩
 ·refine⟨([],z.1,z.2.1),?_,ft7 h1 h2⟩;rw[h3];exact .lex p _ h4 h2
 ·have ht:=cy4 h2 cy2 [] ⟨0,0,[]⟩ h2.pos (by have:=h2.big;show 20*(acc.length+1-0)+13<=100000;omega);have hr:=fn9 h2 (F:=cy2) (q:=3000000000) (by decide) (by decide) h1;cases hp:s5 (dL s acc) cy2 [] ⟨0,0,[]⟩with
  |out=>rw[hp]at ht;exact ht.elim
  |ok l s'=>
   rw[hp]at hr;exact⟨(l,0,0),.ok acc l s' h3 h2 hp,hr⟩
  |err p c=>
   rw[hp]at hr;exact⟨([],(dL s acc p).a,c),.err acc p c h3 h2 hr.1 hp,hr.2⟩
end Go.Proofs.YtjfkkokeegpeiaaDoor
/- Plain: what is read is not bigger than what was read. -/
namespace Go.Proofs.YtjfkkokeegpeiaaDoor
open Go Go.Am Go.Proofs.Lx
set_option maxRecDepth 100000
def Okr{α:Type}(P:α->PS->Prop):PR α->Prop
 | .ok a s=>P a s
 |_=>True
theorem Okr.bind{α β:Type}{P:α->PS->Prop}{Q:β->PS->Prop}{r:PR α}{f:α->PS->PR β}(h:Okr P r)(g:∀a s,P a s->Okr Q (f a s)):Okr Q (r.bind f):=by
 cases r with
 |ok a s=>exact g a s h
 |err p c=>trivial
 |out=>trivial
theorem Okr.mono{α:Type}{P Q:α->PS->Prop}{r:PR α}(h:Okr P r)(g:∀a s,P a s->Q a s):Okr Q r:=by
 cases r with
 |ok a s=>exact g a s h
 |err p c=>trivial
 |out=>trivial
theorem Okr.ite{α:Type}{P:α->PS->Prop}{c:Prop}[Decidable c]{a b:PR α}(h:c->Okr P a)(g:¬c->Okr P b):Okr P (if c then a else b):=by
 by_cases hc:c
 ·rw[if_pos hc];exact h hc
 ·rw[if_neg hc];exact g hc
section
variable {T:Nat->Tkn}
theorem im6(b:ByteArray)(s:PS):Okr (λ_ s'=>s'.p=s.p+1) (y7 T b s):=Okr.ite (λ_=>rfl) λ_=>trivial
theorem iq8(b:ByteArray)(s:PS):Okr (λ_ s'=>s'.p=s.p+1) (eG T b s):=Okr.ite (λ_=>Okr.ite (λ_=>trivial) λ_=>rfl) λ_=>trivial
theorem io3(s:PS):Okr (λ_ s'=>s'.p=s.p+1) (fD T s):=Okr.ite (λ_=>trivial) λ_=>rfl
theorem ir2(lo hi:Int)(s:PS):Okr (λ_ s'=>s'.p=s.p+1) (tB T lo hi s):=Okr.ite (λ_=>trivial) λ_=>Okr.ite (λ_=>trivial) λ_=>rfl
theorem iw3(s:PS):Okr (λ_ s'=>s'.p=s.p+1) (zL T s):=(io3 s).bind λa s1 h=>Okr.ite (λ_=>trivial) λ_=>Okr.ite (λ_=>trivial) λ_=>h
theorem ir1(s:PS):Okr (λt s'=>szT t=1/\s.p+1<=s'.p) (tA T s):=(ir2 _ _ s).bind λn s1 h=>Okr.ite (λ_=>⟨rfl,by show s.p+1<=s1.p+1;omega⟩) λ_=>⟨rfl,by omega⟩
theorem in9(k n:Int)(b:ByteArray)(x:Tr):szT (.node k n b [x])=szT x+2:=by simp only[szT,szL];omega
theorem ix0(k n:Int)(b:ByteArray)(x y:Tr):szT (.node k n b [x,y])=szT x+szT y+3:=by simp only[szT,szL];omega
theorem iz1(k n:Int)(b:ByteArray)(x y z:Tr):szT (.node k n b [x,y,z])=szT x+szT y+szT z+4:=by simp only[szT,szL];omega
theorem io9(k n:Int)(b:ByteArray):szT (.node k n b [])=1:=rfl
theorem iq5:∀f,(∀lv s,Okr (λt s'=>szT t+3+4*s.p<=4*s'.p) (o9 T f lv s))/\(∀lv n s,Okr (λt s'=>szT t+4*s.p<=szT n+4*s'.p) (mP T f lv n s))/\
 (∀b lv s,Okr (λt s'=>szT t+3+4*s.p<=4*s'.p) (fQ T f b lv s))/\(∀s,Okr (λt s'=>szT t+3+4*s.p<=4*s'.p) (jX T f s)):=by
 intro f
 induction f with
 |zero=>exact⟨λ_ _=>by rw[o9];trivial,λ_ _ _=>by rw[mP];trivial,λ_ _ _=>by rw[fQ];trivial,λ_=>by rw[jX];trivial⟩
 |succ f ih=>
  obtain⟨h1,h2,h3,h4⟩:=ih;refine⟨λlv s=>?_,λlv n s=>?_,λb lv s=>?_,λs=>?_⟩
  ·rw[o9];exact Okr.ite (λ_=>h3 _ _ _) λ_=>Okr.ite (λ_=>h3 _ _ _) λ_=>Okr.ite (λ_=>h4 _) λ_=>(h1 _ _).bind λt s1 e=>(h2 _ _ _).mono λu s2 e2=>by omega
  ·rw[mP];refine Okr.ite (λ_=>(h1 _ _).bind λt s1 e=>?_) λ_=>Nat.le_refl _;have e:szT t+3+4*(s.p+1)<=4*s1.p:=e;refine Okr.ite (λ_=>?_) λ_=>(h2 _ _ _).mono λu s2 e2=>?_
   ·show szT _+_<=_;rw[ix0];omega
   ·rw[ix0]at e2;omega
  ·rw[fQ];refine(iq8 b s).bind λ_ s1 e1=>(h1 lv s1).bind λt s2 e2=>?_;show szT _+3+4*s.p<=4*s2.p;rw[in9];omega
  ·rw[jX];refine Okr.ite (λ_=>(ir1 s).mono λt s1 e=>by omega) λ_=>?_;refine Okr.ite (λ_=>?_) λ_=>Okr.ite (λ_=>?_) λ_=>Okr.ite (λ_=>?_) λ_=>Okr.ite (λ_=>?_) λ_=>?_
   ·show szT _+3+4*s.p<=4*(s.p+1);rw[io9];omega
   ·show szT _+3+4*s.p<=4*(s.p+1);rw[io9];omega
   ·refine(im6 _ _).bind λ_ s1 e1=>(io3 s1).bind λx s2 e2=>?_;have e1:s1.p=s.p+1+1:=e1;show szT _+3+4*s.p<=4*s2.p;rw[io9];omega
   ·refine(iq8 _ s).bind λ_ s1 e1=>(h1 1 s1).bind λt s2 e2=>(im6 _ s2).bind λ_ s3 e3=>?_;show szT _+3+4*s.p<=4*s3.p;omega
   ·refine(io3 s).bind λx s1 e1=>?_;show szT _+3+4*s.p<=4*s1.p;rw[io9];omega
theorem ip4(n:Tr)(s:PS):Okr (λt s'=>t=n/\s'.p=s.p+1) (Lx.endP T n s):=(im6 _ s).bind λ_ s1 e=>⟨rfl,e⟩
theorem iz9(f:Nat)(k:Int)(x:ByteArray)(s:PS):Okr (λt s'=>szT t+3+4*s.p<=4*s'.p) (el7 T f k x s):=
 (im6 _ s).bind λ_ s1 e1=>((iq5 f).1 1 s1).bind λt s2 e2=>(ip4 _ s2).mono λu s3 e3=>by obtain⟨rfl,e3⟩:=e3;rw[in9];omega
theorem ja1(f:Nat)(k:Int)(s:PS):Okr (λt s'=>szT t+3+4*s.p<=4*s'.p) (Lx.oneP T f k s):=
 ((iq5 f).1 1 s).bind λt s2 e2=>(ip4 _ s2).mono λu s3 e3=>by obtain⟨rfl,e3⟩:=e3;rw[in9];omega
theorem iy8(k:Int)(s:PS):Okr (λt s'=>szT t+3+4*s.p<=4*s'.p) (ga8 T k s):=
 (ir1 s).bind λt s2 e2=>(ip4 _ s2).mono λu s3 e3=>by obtain⟨rfl,e3⟩:=e3;rw[in9];omega
theorem ja9(f:Nat)(s:PS):Okr (λt s'=>szT t+3+4*s.p<=4*s'.p) (dn2 T f s):=
 ((iq5 f).1 1 s).bind λt s1 e1=>(im6 _ s1).bind λ_ s2 e2=>(ir1 s2).bind λn s3 e3=>(ip4 _ s3).mono λu s4 e4=>by obtain⟨rfl,e4⟩:=e4;rw[ix0];omega
theorem ja2(k hi:Int)(s:PS):Okr (λt s'=>szT t+3+4*s.p<=4*s'.p) (fu2 T k hi s):=
 (ir2 _ _ s).bind λn s2 e2=>(ip4 _ s2).mono λu s3 e3=>by obtain⟨rfl,e3⟩:=e3;rw[io9];omega
theorem ja3(k:Int)(b:ByteArray)(s:PS):Okr (λt s'=>szT t+3+4*s.p<=4*s'.p) (fq6 T k b s):=
 (ir2 _ _ s).bind λn s1 e1=>(im6 _ s1).bind λ_ s2 e2=>(ir1 s2).bind λt s3 e3=>(ip4 _ s3).mono λu s4 e4=>by obtain⟨rfl,e4⟩:=e4;rw[in9];omega
theorem iw2:∀f,(∀s,Okr (λt s'=>szT t+3+4*s.p<=4*s'.p) (bC T f s))/\(∀s,Okr (λl s'=>szL l+4*s.p<=4*s'.p) (dZ T f s))/\(∀s,Okr (λt s'=>szT t+3+4*s.p<=4*s'.p) (xQ T f s)):=by
 intro f
 induction f with
 |zero=>exact⟨λ_=>by rw[bC];trivial,λ_=>by rw[dZ];trivial,λ_=>by rw[xQ];trivial⟩
 |succ f ih=>
  obtain⟨h1,h2,h3⟩:=ih;refine⟨λs=>?_,λs=>?_,λs=>?_⟩
  ·rw[bC];refine(iq8 _ s).bind λ_ s1 e1=>(h2 s1).bind λl s2 e2=>?_;show 1+szL l+3+4*s.p<=4*s2.p;omega
  ·rw[dZ];refine Okr.ite (λ_=>?_) λ_=>(h3 s).bind λt s1 e1=>(h2 s1).bind λl s2 e2=>?_
   ·show 0+4*s.p<=4*(s.p+1);omega
   ·show szT t+szL l+1+4*s.p<=4*s2.p;omega
  ·rw[xQ]
   have up:∀{r:PR Tr},Okr (λt s'=>szT t+3+4*(adv s).p<=4*s'.p) r->Okr (λt s'=>szT t+3+4*s.p<=4*s'.p) r:=λh=>h.mono λt s' e=>by
    have:(adv s).p=s.p+1:=rfl;omega
   have ea:(adv s).p=s.p+1:=rfl;refine Okr.ite (λ_=>(iw3 _).bind λx s1 e1=>(iz9 f 1 x s1).mono λt s2 e2=>by omega) λ_=>?_;refine Okr.ite (λ_=>?_) λ_=>?_
   ·refine((iq5 f).1 1 _).bind λc s1 e1=>(h1 s1).bind λy s2 e2=>Okr.ite (λ_=>(h1 _).bind λn s3 e3=>?_) λ_=>?_
    ·have e3:szT n+3+4*(s2.p+1)<=4*s3.p:=e3;show szT _+3+4*s.p<=4*s3.p;rw[iz1];omega
    ·show szT _+3+4*s.p<=4*s2.p;rw[iz1,io9];omega
   refine Okr.ite (λ_=>?_) λ_=>?_
   ·refine(ir2 _ _ _).bind λn s1 e1=>(h1 s1).bind λy s2 e2=>?_;show szT _+3+4*s.p<=4*s2.p;rw[in9];omega
   refine Okr.ite (λ_=>up (ja9 f _)) λ_=>Okr.ite (λ_=>up (iy8 _ _)) λ_=>Okr.ite (λ_=>up (iy8 _ _)) λ_=>Okr.ite (λ_=>up (ja1 f _ _)) λ_=>Okr.ite (λ_=>up (ja1 f _ _)) λ_=>Okr.ite (λ_=>up (ja3 _ _ _)) λ_=>Okr.ite (λ_=>up (ja3 _ _ _)) λ_=>Okr.ite (λ_=>up (ja2 _ _ _)) λ_=>Okr.ite (λ_=>up (ja2 _ _ _)) λ_=>?_;exact(io3 s).bind λx s1 e1=>(iz9 f 2 x s1).mono λt s2 e2=>by omega
theorem jg2(s:PS):Okr (λ_ s'=>s.p+1<=s'.p) (ga3 T s):=by
 unfold ga3;refine(iw3 s).bind λx s1 e1=>Okr.ite (λ_=>Okr.ite (λ_=>trivial) λ_=>Okr.ite (λ_=>trivial) λ_=>?_) λ_=>?_
 ·show s.p+1<=s1.p+1+1;omega
 ·show s.p+1<=s1.p;omega
theorem iv5:∀f s,Okr (λl s'=>l.length+s.p<=s'.p) (cf6 T f s)
 |0,s=>by rw[cf6];trivial
 |f+1,s=>by
  rw[cf6];refine(jg2 s).bind λx s1 e1=>Okr.ite (λ_=>(iv5 f _).bind λl s2 e2=>?_) λ_=>(im6 _ s1).bind λ_ s2 e2=>?_
  ·have e2:l.length+(s1.p+1)<=s2.p:=e2;show l.length+1+s.p<=s2.p;omega
  ·show 1+s.p<=s2.p;omega
theorem ir7(f:Nat)(s:PS):Okr (λl s'=>l.length+s.p<=s'.p) (mC T f s):=by
 unfold mC;refine(im6 _ s).bind λ_ s1 e1=>Okr.ite (λ_=>?_) λ_=>(iv5 f s1).mono λl s2 e2=>by omega
 show 0+s.p<=s1.p+1;omega
def SmC(n:Nat)(c:Prc):Prop:=szT c.b<=n/\c.ps.length<=n
theorem it0:∀f pr s,Okr (λl s'=>l.length+s.p<=s'.p/\∀c∈l,SmC (4*s'.p) c) (s5 T f pr s)
 |0,pr,s=>by rw[s5];trivial
 |f+1,pr,s=>by
  rw[s5];refine Okr.ite (λ_=>⟨by simp,λc hc=>by cases hc⟩) λ_=>?_
  have hp:Okr (λc s'=>s.p+1<=s'.p/\SmC (4*s'.p) c) (aj7 T f pr s):=by
   unfold aj7;refine(im6 _ s).bind λ_ s1 e1=>(io3 s1).bind λx s2 e2=>Okr.ite (λ_=>trivial) λ_=>(ir7 f _).bind λl s3 e3=>((iw2 f).1 s3).bind λb s4 e4=>?_;have e3:l.length+s2.p<=s3.p:=e3;exact⟨by omega,by show szT b<=_;omega,by show l.length<=_;omega⟩
  refine hp.bind λc s1 e1=>(it0 f _ s1).bind λl s2 e2=>⟨?_,λd hd=>?_⟩
  ·show l.length+1+s.p<=s2.p;omega
  ·rcases List.mem_cons.1 hd with h|h
   ·rw[h];have:=e1.2;exact⟨Nat.le_trans this.1 (by omega),Nat.le_trans this.2 (by omega)⟩
   ·exact e2.2 d h
end
theorem iw8{s:ByteArray}{r:List Prc×Int×Int}(h:ParseR s r):r.1.length<=20000/\∀c∈r.1,SmC 20000 c:=by
 cases h with
 |lex p e g1 g2=>exact⟨by simp,λc hc=>by cases hc⟩
 |err acc p c g1 g2 g3 g4=>exact⟨by simp,λc hc=>by cases hc⟩
 |ok acc l s' g1 g2 g3=>
  have h1:=it0 (T:=dL s acc) cy2 [] ⟨0,0,[]⟩;have h2:=cy4 g2 cy2 [] ⟨0,0,[]⟩ g2.pos (by have:=g2.big;show 20*(acc.length+1-0)+13<=100000;omega);rw[g3]at h1 h2;have hb:=g2.big;have h3:s'.p<acc.length+1:=h2.2;obtain⟨h4,h5⟩:=h1;have h4:l.length+0<=s'.p:=h4;refine⟨by show l.length<=20000;omega,λc hc=>?_⟩;have:=h5 c hc;exact⟨Nat.le_trans this.1 (by omega),Nat.le_trans this.2 (by omega)⟩
end Go.Proofs.YtjfkkokeegpeiaaDoor
/- SameAll, of lists of procedures as they are handed on: are they equal? -/
namespace Go.Proofs.YtjfkkokeegpeiaaDoor
open Go Go.Am Go.Proofs.Lx
set_option maxRecDepth 100000
def dC:Prc:=⟨⟨#[]⟩,[],im2⟩
def dPm:Prm:=⟨⟨#[]⟩,⟨#[]⟩⟩
def cX(l:List Prc)(j:Nat):ByteArray:=(l.getD j dC).x
def cQ(l:List Prc)(j:Nat):Nat:=(l.getD j dC).ps.length
def cN(l:List Prc)(j i:Nat):ByteArray:=((l.getD j dC).ps.getD i dPm).x
def cU(l:List Prc)(j i:Nat):ByteArray:=((l.getD j dC).ps.getD i dPm).u
def cT(l:List Prc)(j:Nat):n4:=eT (l.getD j dC).b
def xS(l m:List Prc):cR:=(l.length,cX l,cQ l,cN l,cU l,(λj=>(cT l j).1),(λj=>(cT l j).2.1),(λj=>(cT l j).2.2.1),(λj=>(cT l j).2.2.2.1),(λj=>(cT l j).2.2.2.2),m.length,cX m,cQ m,cN m,cU m,(λj=>(cT m j).1),(λj=>(cT m j).2.1),(λj=>(cT m j).2.2.1),(λj=>(cT m j).2.2.2.1),(λj=>(cT m j).2.2.2.2))
theorem ad5{α:Type}{l:List α}{j:Nat}{d a:α}(h:l[j]? =some a):l.getD j d=a:=by rw[List.getD_eq_getElem?_getD,h];rfl
theorem jh9{a b:Prm}(h:a.x=b.x)(g:a.u=b.u):a=b:=by cases a;cases b;simp only at h g;rw[h,g]
section
variable {l m:List Prc} {q:Nat}
theorem ja8(i:Nat){c d:Prc}(hc:l[i]? =some c)(hd:m[i]? =some d)(hlen:c.ps.length=d.ps.length)(hb:c.ps.length<=1000000000)(hl:i<l.length)(hm:i<m.length):∀(n k:Nat),k+n=c.ps.length->∀r,n<r->(∀j,j<k->c.ps[j]? =d.ps[j]?)->
 Rs (he2 (Same q) r (xS l m) (((i:Nat):Int),((k:Nat):Int))) (λz=>(z= .inr ((i:Nat):Int)/\c.ps=d.ps)\/(z= .inl ()/\c.ps≠d.ps)):=by
 have e1:cQ l i=c.ps.length:=by unfold cQ;rw[ad5 hc]
 have e2:cQ m i=c.ps.length:=by unfold cQ;rw[ad5 hd,hlen]
 intro n
 induction n with
 |zero=>
  intro k hk r hr hi;obtain⟨r,rfl⟩:∃t,r=t+1:=⟨r-1,by omega⟩;unfold he2;refine Rs.step3 λQ hQ=>?_;unfold rS;dsimp only[xS];refine Rs.pos (show(0:Int)<=((i:Nat):Int)/\((i:Nat):Int)< ((l.length:Nat):Int)by omega) ?_;rw[Int.toNat_natCast];refine Rs.neg (λhh=>by have:((k:Nat):Int)< ((cQ l i:Nat):Int):=of_decide_eq_true hh;omega) (Rs.some (.inl ⟨rfl,?_⟩));apply List.ext_getElem?;intro j;by_cases hj:j<k
  ·exact hi j hj
  ·rw[List.getElem?_eq_none (show c.ps.length<=j by omega),List.getElem?_eq_none (show d.ps.length<=j by omega)]
 |succ n ih=>
  intro k hk r hr hi;obtain⟨r,rfl⟩:∃t,r=t+1:=⟨r-1,by omega⟩;have hk1:k<c.ps.length:=by omega
  have hk2:k<d.ps.length:=by omega
  have g1:c.ps[k]? =some c.ps[k]:=List.getElem?_eq_getElem hk1;have g2:d.ps[k]? =some d.ps[k]:=List.getElem?_eq_getElem hk2;have a1:cN l i k=c.ps[k].x:=by unfold cN;rw[ad5 hc,ad5 g1]
  have a2:cU l i k=c.ps[k].u:=by unfold cU;rw[ad5 hc,ad5 g1]
  have a3:cN m i k=d.ps[k].x:=by unfold cN;rw[ad5 hd,ad5 g2]
  have a4:cU m i k=d.ps[k].u:=by unfold cU;rw[ad5 hd,ad5 g2]
  unfold he2;refine Rs.step3 λQ hQ=>?_;unfold rS;dsimp only[xS];have b1:(0:Int)<=((i:Nat):Int)/\((i:Nat):Int)< ((l.length:Nat):Int):=by omega
  have b2:(0:Int)<=((i:Nat):Int)/\((i:Nat):Int)< ((m.length:Nat):Int):=by omega
  have b3:(0:Int)<=((k:Nat):Int)/\((k:Nat):Int)< ((cQ l i:Nat):Int):=by omega
  have b4:(0:Int)<=((k:Nat):Int)/\((k:Nat):Int)< ((cQ m i:Nat):Int):=by omega
  refine Rs.pos b1 ?_;rw[Int.toNat_natCast,Int.toNat_natCast];refine Rs.pos (decide_eq_true b3.2) (Rs.pos b1 (Rs.pos b3 (Rs.pos b2 (Rs.pos b4 ?_))));by_cases hx:c.ps[k].x=d.ps[k].x
  ·by_cases hu:c.ps[k].u=d.ps[k].u
   ·refine Rs.neg (by rw[a1,a2,a3,a4,hx,hu];simp) (Rs.some (hQ _ ?_));rw[s9 (by omega)];refine ih (k+1) (by omega) r (by omega) λj hj=>?_;by_cases hjk:j=k
    ·subst hjk;rw[g1,g2,jh9 hx hu]
    ·exact hi j (by omega)
   ·refine Rs.pos (by rw[a1,a2,a3,a4];simp only[oU,decide_eq_false hu];simp) (Rs.some (.inr ⟨rfl,λh=>hu ?_⟩));have e:c.ps[k]? =d.ps[k]? :=by rw[h]
    rw[g1,g2]at e;rw[Option.some.inj e]
  ·refine Rs.pos (by rw[a1,a2,a3,a4];simp only[oU,decide_eq_false hx];simp) (Rs.some (.inr ⟨rfl,λh=>hx ?_⟩));have e:c.ps[k]? =d.ps[k]? :=by rw[h]
   rw[g1,g2]at e;rw[Option.some.inj e]
theorem jh3{a b:Prc}(h:a.x=b.x)(g:a.ps=b.ps)(k:a.b=b.b):a=b:=by cases a;cases b;simp only at h g k;rw[h,g,k]
theorem ix7(hq:1000000<q)(hlen:l.length=m.length)(hb:l.length<=20000)(hs:∀c∈l,SmC 20000 c):∀(n i:Nat),i+n=l.length->∀r,n<r->(∀j,j<i->l[j]? =m[j]?)->
 Rs (lpG (λy=>pT (Same q) (he2 (Same q) q (xS l m)) (xS l m) y (λy=>some (.inl y)) (λz=>some (.inr z))) r ((i:Nat):Int)) (λz=>(z= .inr ()/\l=m)\/(z= .inl ()/\l≠m)):=by
 intro n
 induction n with
 |zero=>
  intro i hi r hr hj;obtain⟨r,rfl⟩:∃t,r=t+1:=⟨r-1,by omega⟩;refine Rs.step3 λQ hQ=>?_;unfold pT;dsimp only[xS];refine Rs.neg (λhh=>by have:((i:Nat):Int)< ((l.length:Nat):Int):=of_decide_eq_true hh;omega) (Rs.some (.inl ⟨rfl,?_⟩));apply List.ext_getElem?;intro j;by_cases hji:j<i
  ·exact hj j hji
  ·rw[List.getElem?_eq_none (show l.length<=j by omega),List.getElem?_eq_none (show m.length<=j by omega)]
 |succ n ih=>
  intro i hi r hr hj;obtain⟨r,rfl⟩:∃t,r=t+1:=⟨r-1,by omega⟩;have hi1:i<l.length:=by omega
  have hi2:i<m.length:=by omega
  have hc:l[i]? =some l[i]:=List.getElem?_eq_getElem hi1;have hd:m[i]? =some m[i]:=List.getElem?_eq_getElem hi2;obtain⟨s1,s2⟩:=hs l[i] (List.getElem_mem hi1)
  have no:(l[i]≠m[i])->l≠m:=λh e=>h (by
   have e2:l[i]? =m[i]? :=by rw[e]
   rw[hc,hd]at e2
   exact Option.some.inj e2)
  refine Rs.step3 λQ hQ=>?_;unfold pT;dsimp only[xS];have b1:(0:Int)<=((i:Nat):Int)/\((i:Nat):Int)< ((l.length:Nat):Int):=by omega
  have b2:(0:Int)<=((i:Nat):Int)/\((i:Nat):Int)< ((m.length:Nat):Int):=by omega
  refine Rs.pos (decide_eq_true b1.2) (Rs.pos b1 (Rs.pos b2 ?_));rw[Int.toNat_natCast];have a1:cX l i=l[i].x:=by unfold cX;rw[ad5 hc]
  have a2:cX m i=m[i].x:=by unfold cX;rw[ad5 hd]
  have a3:cQ l i=l[i].ps.length:=by unfold cQ;rw[ad5 hc]
  have a4:cQ m i=m[i].ps.length:=by unfold cQ;rw[ad5 hd]
  have a5:cT l i=eT l[i].b:=by unfold cT;rw[ad5 hc]
  have a6:cT m i=eT m[i].b:=by unfold cT;rw[ad5 hd]
  by_cases hx:l[i].x=m[i].x
  ·refine Rs.neg (by rw[a1,a2,hx];simp) (Rs.pos b1 (Rs.pos b2 ?_));by_cases hp:l[i].ps.length=m[i].ps.length
   ·refine Rs.neg (λhh=>bne_iff_ne.1 hh (by rw[a3,a4,hp])) (Rs.pos b1 (Rs.pos b2 ?_));rw[a5,a6];refine Rs.bind (je7 q l[i].b m[i].b (by omega) (by simp only[szL];omega)) λv hv=>?_;cases v with
    |false=>
     refine Rs.pos rfl (Rs.some (.inr ⟨rfl,no λe=>?_⟩));have:=hv.2 (by rw[e]);cases this
    |true=>
     have hbb:l[i].b=m[i].b:=hv.1 rfl;refine Rs.neg (by decide) (Rs.bind (ja8 (q:=q) i hc hd hp (by omega) hi1 hi2 l[i].ps.length 0 (by omega) q (by omega) (λj h=>absurd h (Nat.not_lt_zero j))) λv hv=>?_);rcases hv with⟨rfl,e⟩ | ⟨rfl,e⟩
     ·dsimp only[Sum.elim_inr];refine Rs.some (hQ _ ?_);rw[s9 (by omega)];refine ih (i+1) (by omega) r (by omega) λj hji=>?_;by_cases hjk:j=i
      ·subst hjk;rw[hc,hd,jh3 hx e hbb]
      ·exact hj j (by omega)
     ·dsimp only[Sum.elim_inl];exact Rs.some (.inr ⟨rfl,no λh=>e (by rw[h])⟩)
   ·refine Rs.pos (bne_iff_ne.2 (by rw[a3,a4];omega)) (Rs.some (.inr ⟨rfl,no λe=>hp (by rw[e])⟩))
  ·refine Rs.pos (by rw[a1,a2,oU,decide_eq_false hx];rfl) (Rs.some (.inr ⟨rfl,no λe=>hx (by rw[e])⟩))
theorem ix5(hq:1000000<q)(hb:l.length<=20000)(hs:∀c∈l,SmC 20000 c):Rs (SameAll q (xS l m)) (λb=>b=true↔l=m):=by
 unfold SameAll in7;by_cases hlen:l.length=m.length
 ·refine Rs.neg (λhh=>bne_iff_ne.1 hh (show((l.length:Nat):Int)=((m.length:Nat):Int)by omega)) ?_;unfold io6;refine Rs.bind (ix7 hq hlen hb hs l.length 0 (by omega) q (by omega) (λj h=>absurd h (Nat.not_lt_zero j))) λz hz=>?_;rcases hz with⟨rfl,e⟩ | ⟨rfl,e⟩
  ·exact Rs.some ⟨λ_=>e,λ_=>rfl⟩
  ·exact Rs.some ⟨λh=>(by cases h),λh=>absurd h e⟩
 ·exact Rs.pos (bne_iff_ne.2 (show((l.length:Nat):Int)≠((m.length:Nat):Int)by omega)) (Rs.some ⟨λh=>(by cases h),λh=>absurd (by rw[h]) hlen⟩)
end
end Go.Proofs.YtjfkkokeegpeiaaDoor
/- SameAll, of what Parse hands back. -/
namespace Go.Proofs.YtjfkkokeegpeiaaDoor
open Go Go.Am Go.Proofs.Lx
set_option maxRecDepth 100000
theorem fl5(l:List Prc):Le (aj5 l) (.ro 6 l.length (λj=>[st (cX l j),.ro 2 (cQ l j) (λi=>[st (cN l j i),st (cU l j i)]),i64 (cT l j).1,i64 (cT l j).2.1,st (cT l j).2.2.1,.ro 4 (cT l j).2.2.2.1 (cT l j).2.2.2.2])):=by
 unfold aj5;refine Le.ro λj hj=>?_;have hc:l[j]? =some l[j]:=List.getElem?_eq_getElem hj;have e:(l.map lF).getD j gl0=lF l[j]:=by rw[List.getD_eq_getElem?_getD,List.getElem?_map,hc];rfl
 have e1:cX l j=l[j].x:=by unfold cX;rw[ad5 hc]
 have e2:cQ l j=l[j].ps.length:=by unfold cQ;rw[ad5 hc]
 have e3:cT l j=eT l[j].b:=by unfold cT;rw[ad5 hc]
 have e4:wR l[j].b=[i64 (eT l[j].b).1,i64 (eT l[j].b).2.1,st (eT l[j].b).2.2.1,.ro 4 (eT l[j].b).2.2.2.1 (eT l[j].b).2.2.2.2]:=ac3 _;rw[e,e1,e2,e3];unfold lF;have hp:=fm8 l[j].b;rw[e4]at hp⊢;refine⟨LeL.cons (Le.refl _) (LeL.cons (Le.ro_eq λi hi=>?_) (LeL.cons (Le.refl _) (LeL.cons (Le.refl _) (LeL.cons (Le.refl _) (LeL.cons (Le.refl _) LeL.nil))))),?_⟩
 ·have hi':l[j].ps[i]? =some l[j].ps[i]:=List.getElem?_eq_getElem hi;have g1:cN l j i=l[j].ps[i].x:=by unfold cN;rw[ad5 hc,ad5 hi']
  have g2:cU l j i=l[j].ps[i].u:=by unfold cU;rw[ad5 hc,ad5 hi']
  rw[g1,g2,List.getD_eq_getElem?_getD,List.getElem?_map,hi'];exact⟨rfl,rfl⟩
 ·simp only[m8,V.pure,Bool.and_eq_true]at hp⊢;exact⟨trivial,trivial,hp⟩
theorem iy2{l:List Prc}(m:List Prc)(hb:l.length<=20000)(hs:∀c∈l,SmC 20000 c):∃b:Bool,(b=true↔l=m)/\SC E5 11 [aj5 l,aj5 m] [] (.ret (bo b) []):=by
 obtain⟨b,h1,h2⟩:=ix5 (l:=l) (m:=m) (q:=2000000) (by decide) hb hs;refine⟨b,h2,?_⟩;have h3:=iy1 2000000 (xS l m) b h1;exact SC.arg h3 (LeL.cons (fl5 l) (LeL.cons (fl5 m) LeL.nil)) rfl rfl
end Go.Proofs.YtjfkkokeegpeiaaDoor
/- The chapter's examples are parsed. -/
namespace Go.Proofs.YtjfkkokeegpeiaaDoor
open Go Go.Am Go.RowKit Go.Proofs.Lx
set_option maxRecDepth 100000
theorem bg2{s:ByteArray}{acc acc':List Tkn}(h:fN s (acc++[ay2 s],0,0))(g:fN s (acc'++[ay2 s],0,0)):acc=acc':=List.append_cancel_right (congrArg (λr:List Tkn×Nat×Int=>r.1) (wT h g))
theorem ew2{s:ByteArray}{r r':List Prc×Int×Int}(h:ParseR s r)(g:ParseR s r'):r=r':=by
 cases h with
 |lex p e h1 h2=>
  cases g with
  |lex p' e' g1 g2=>
   have:=wT h1 g1;have e1:p=p':=congrArg (λr=>r.2.1) this;have e2:e=e':=congrArg (λr=>r.2.2) this;rw[e1,e2]
  |ok acc l s' g1 g2 g3=>exact absurd (congrArg (λr=>r.2.2) (wT h1 g1)) h2
  |err acc p c g1 g2 g3 g4=>exact absurd (congrArg (λr=>r.2.2) (wT h1 g1)) h2
 |ok acc l s1 h1 h2 h3=>
  cases g with
  |lex p' e' g1 g2=>exact absurd (congrArg (λr=>r.2.2) (wT g1 h1)) g2
  |ok acc' l' s' g1 g2 g3=>
   obtain rfl:=bg2 h1 g1;rw[h3]at g3;injection g3 with e1 e2;rw[e1]
  |err acc' p c g1 g2 g3 g4=>
   obtain rfl:=bg2 h1 g1;rw[h3]at g4;cases g4
 |err acc p c h1 h2 h3 h4=>
  cases g with
  |lex p' e' g1 g2=>exact absurd (congrArg (λr=>r.2.2) (wT g1 h1)) g2
  |ok acc' l' s' g1 g2 g3=>
   obtain rfl:=bg2 h1 g1;rw[h4]at g3;cases g3
  |err acc' p' c' g1 g2 g3 g4=>
   obtain rfl:=bg2 h1 g1;rw[h4]at g4;injection g4 with e1 e2;rw[e1,e2]
theorem cf4{s:ByteArray}{acc:List Tkn}(h:fN s (acc++[ay2 s],0,0)):TokN (acc.length+1) (dL s acc):=by
 rcases cf3 s 3000000000 (by decide)with⟨z,h1,h2,p,h3,h4⟩ | ⟨acc',h1,h2,h3⟩
 ·exact absurd (congrArg (λr=>r.2.2) (wT h4 h)) h2
 ·obtain rfl:=bg2 h h3;exact h2
def gj5:ByteArray:=⟨#[112,114,111,99,101,100,117,114,101,32,112,40,116,58,32,115,41,32,123,32,108,101,116,32,120,32,61,32,50,32,42,32,40,49,32,43,32,116,108,109,46,98,97,116,116,101,114,121,41,59,32,125]⟩
def hc4:ByteArray:=⟨#[112,114,111,99,101,100,117,114,101,32,112,40,41,32,123,32,114,101,112,101,97,116,32,48,32,123,32,125,32,125]⟩
def hl7:ByteArray:=⟨#[112,114,111,99,101,100,117,114,101,32,112,40,120,58,32,121,41,32,123,32,125]⟩
def gk3:List Tkn:=[⟨1,0,⟨#[112,114,111,99,101,100,117,114,101]⟩,0⟩,⟨1,10,⟨#[112]⟩,0⟩,⟨3,11,⟨#[40]⟩,0⟩,⟨1,12,⟨#[116]⟩,0⟩,⟨3,13,⟨#[58]⟩,0⟩,⟨1,15,⟨#[115]⟩,0⟩,⟨3,16,⟨#[41]⟩,0⟩,⟨3,18,⟨#[123]⟩,0⟩,⟨1,20,⟨#[108,101,116]⟩,0⟩,⟨1,24,⟨#[120]⟩,0⟩,⟨3,26,⟨#[61]⟩,0⟩,⟨2,28,⟨#[50]⟩,2⟩,⟨3,30,⟨#[42]⟩,0⟩,⟨3,32,⟨#[40]⟩,0⟩,⟨2,33,⟨#[49]⟩,1⟩,⟨3,35,⟨#[43]⟩,0⟩,⟨1,37,⟨#[116,108,109]⟩,0⟩,⟨3,40,⟨#[46]⟩,0⟩,⟨1,41,⟨#[98,97,116,116,101,114,121]⟩,0⟩,⟨3,48,⟨#[41]⟩,0⟩,⟨3,49,⟨#[59]⟩,0⟩,⟨3,51,⟨#[125]⟩,0⟩]
theorem ih8:fN gj5 (gk3++[ay2 gj5],0,0):=.inr ⟨by decide,dm7 100 _ _ _ (by kernel_rfl)⟩
def hp1:List Tkn:=[⟨1,0,⟨#[112,114,111,99,101,100,117,114,101]⟩,0⟩,⟨1,10,⟨#[112]⟩,0⟩,⟨3,11,⟨#[40]⟩,0⟩,⟨3,12,⟨#[41]⟩,0⟩,⟨3,14,⟨#[123]⟩,0⟩,⟨1,16,⟨#[114,101,112,101,97,116]⟩,0⟩,⟨2,23,⟨#[48]⟩,0⟩,⟨3,25,⟨#[123]⟩,0⟩,⟨3,27,⟨#[125]⟩,0⟩,⟨3,29,⟨#[125]⟩,0⟩]
theorem ik8:fN hc4 (hp1++[ay2 hc4],0,0):=.inr ⟨by decide,dm7 100 _ _ _ (by kernel_rfl)⟩
def hr4:List Tkn:=[⟨1,0,⟨#[112,114,111,99,101,100,117,114,101]⟩,0⟩,⟨1,10,⟨#[112]⟩,0⟩,⟨3,11,⟨#[40]⟩,0⟩,⟨1,12,⟨#[120]⟩,0⟩,⟨3,13,⟨#[58]⟩,0⟩,⟨1,15,⟨#[121]⟩,0⟩,⟨3,16,⟨#[41]⟩,0⟩,⟨3,18,⟨#[123]⟩,0⟩,⟨3,20,⟨#[125]⟩,0⟩]
theorem ig5:fN hl7 (hr4++[ay2 hl7],0,0):=.inr ⟨by decide,dm7 100 _ _ _ (by kernel_rfl)⟩
theorem ex1:ParseR gj5 (prc1,0,0):=by
 have h:∃s,s5 (dL gj5 gk3) cy2 [] ⟨0,0,[]⟩= .ok prc1 s:=⟨⟨22,0,[⟨#[116]⟩,⟨#[120]⟩]⟩,by kernel_rfl⟩;obtain⟨s,hs⟩:=h;exact .ok gk3 prc1 s ih8 (cf4 ih8) hs
theorem ex2:ParseR hc4 ([],23,5):=.err hp1 6 5 ik8 (cf4 ik8) (by decide) (by kernel_rfl)
theorem ex3:ParseR hl7 ([],15,10):=.err hr4 5 10 ig5 (cf4 ig5) (by decide) (by kernel_rfl)
end Go.Proofs.YtjfkkokeegpeiaaDoor
/- tO, and the law of Parse, lifted. -/
namespace Go.Proofs.YtjfkkokeegpeiaaDoor
open Go Go.Am Go.Proofs Go.Proofs.Lx
set_option maxRecDepth 100000
def pF(l:List Prc):Nat->List V:=λj=>(l.map lF).getD j gl0
noncomputable def fs5(s:ByteArray):List Prc×Int×Int:=Classical.choose (bs3 s)
theorem gz0(s:ByteArray):ParseR s (fs5 s):=(Classical.choose_spec (bs3 s)).1
theorem hg7{s:ByteArray}{r:List Prc×Int×Int}(h:ParseR s r):fs5 s=r:=ew2 (gz0 s) h
abbrev bh1:Type:=ByteArray
abbrev co8:Type:=Nat×FL×Int×Int
def bj6:AR bh1:=λx=>([st x],[])
def gl6(t:TT):bh1:=(vS (ag t 0))
theorem go0:VI bj6:=vd gl6 λ_=>rfl
def ds3:co8->CRes:=λz=>.ret (.tup [.ro 6 z.1 z.2.1,i64 z.2.2.1,i64 z.2.2.2]) []
noncomputable def ai3(q:Nat)(x:bh1):Option co8:=some ((fs5 x).1.length,pF (fs5 x).1,(fs5 x).2.1,(fs5 x).2.2)
theorem gc6(q:Nat):Lw E5 8 bj6 ds3 (ai3 q):=by
 intro x z h;unfold ai3 at h;cases h;exact(Classical.choose_spec (bs3 x)).2
abbrev ir4:Type:=Nat×FL×Nat×FL
abbrev it2:Type:=Bool
def ir0:AR ir4:=λx=>([.ro 6 x.1 x.2.1,.ro 6 x.2.2.1 x.2.2.2],[])
def jf6(t:TT):ir4:=(u7 (ag t 0),iU (ag t 0),u7 (ag t 1),iU (ag t 1))
theorem jf7:VI ir0:=vd jf6 λ_=>rfl
def iz6:it2->CRes:=λz=>.ret (bo z) []
noncomputable def iw0(q:Nat)(x:ir4):Option it2:=@ite _ (∃l:List Prc,x=(l.length,pF l,l.length,pF l)/\l.length<=20000/\∀c∈l,SmC 20000 c) (Classical.propDecidable _) (some true) none
theorem jc1(q:Nat):Lw E5 11 ir0 iz6 (iw0 q):=by
 intro x z h;unfold iw0 at h;split at h
 ·rename_i hc;obtain⟨l,rfl,h1,h2⟩:=hc;cases h;obtain⟨b,h3,h4⟩:=iy2 l h1 h2;have e:b=true:=h3.2 rfl;rw[e]at h4;exact h4
 ·cases h
abbrev bi0:Type:=Nat×FL
abbrev cg6:Type:=ByteArray
def be5:AR bi0:=λx=>([.ro 6 x.1 x.2],[])
def gl8(t:TT):bi0:=(u7 (ag t 0),iU (ag t 0))
theorem gq4:VI be5:=vd gl8 λ_=>rfl
def dx6:cg6->CRes:=λz=>.ret (st z) []
noncomputable def bu1(q:Nat)(x:bi0):Option cg6:=@ite _ (x=(prc1.length,pF prc1)) (Classical.propDecidable _) (some ia3) none
theorem fo0(q:Nat):Lw E5 9 be5 dx6 (bu1 q):=by
 intro x z h;unfold bu1 at h;split at h
 ·rename_i hc;subst hc;cases h;exact ie0
 ·cases h
abbrev bf9:Type:=Unit
abbrev bj8:Type:=Bool
def ax1:bf9->List V×List (Option Chunk):=(λ_=>(([]:List V),([]:List (Option Chunk))))
def hk9(t:TT):bf9:=()
theorem hn5:VI ax1:=vd hk9 λ_=>rfl
def dg0:bj8->CRes:=λz=>.ret (bo z) []
def as8{β:Type}(c_ParseV:bh1->Option co8)(c_PrintV:bi0->Option cg6)(x:bf9)(dn:bj8->Option β):Option β:=
 (c_ParseV (⟨#[112,114,111,99,101,100,117,114,101,32,112,40,116,58,32,115,41,32,123,32,108,101,116,32,120,32,61,32,50,32,42,32,40,49,32,43,32,116,108,109,46,98,97,116,116,101,114,121,41,59,32,125]⟩)).bind λz1=>(c_ParseV (⟨#[112,114,111,99,101,100,117,114,101,32,112,40,41,32,123,32,114,101,112,101,97,116,32,48,32,123,32,125,32,125]⟩)).bind λz3=>(c_ParseV (⟨#[112,114,111,99,101,100,117,114,101,32,112,40,120,58,32,121,41,32,123,32,125]⟩)).bind λz5=>if(z1.2.2.2==0)=true then if(((z1.1:Nat):Int)==1)=true then(c_PrintV (z1.1,z1.2.1)).bind λz8=>if(z8.toList==ByteArray.toList ⟨#[112,114,111,99,101,100,117,114,101,32,112,40,116,58,32,115,41,32,123,10,32,32,108,101,116,32,120,32,61,32,50,32,42,32,40,49,32,43,32,116,108,109,46,98,97,116,116,101,114,121,41,59,10,125,10]⟩)=true then if(z3.2.2.1==23)=true then if(z3.2.2.2==5)=true then if(z5.2.2.1==15)=true then dn (z5.2.2.2==10)else dn false else dn false else dn false else dn false else dn false else dn false
theorem hb5{β:Type}(c_ParseV c_PrintV)(x)(dn:bj8->Option β):as8 c_ParseV c_PrintV x dn=(as8 c_ParseV c_PrintV x some).bind dn:=by
 unfold as8
 repeat' first|exact n0|refine n1 λ_=>?_|refine n2 ?_ ?_|refine n3 (λ_=>?_) λ_=>?_|rfl
theorem gy7(c_ParseV c_PrintV)(x):f7 E5 (ftb 8 bj6 ds3 c_ParseV (ftb 9 be5 dx6 c_PrintV ca0)) lo0 10 (ax1 x).1 (ax1 x).2 K=as8 (vf bj6 c_ParseV) (vf be5 c_PrintV) x (λz=>some (.c (dg0 z))):=by kernel_rfl
noncomputable def eo3(q:Nat)(x:bf9):Option bj8:=as8 (ai3 q) (bu1 q) x some
theorem gj2(q:Nat):Lw E5 10 ax1 dg0 (eo3 q):=sof hW5 hX5 (fk (gc6 q) (fk (fo0 q) a8)) (λ_=>cB) λx=>(gy7 (ai3 q) (bu1 q) x).trans (by rw[go0,gq4,hb5]<;>rfl)
end Go.Proofs.YtjfkkokeegpeiaaDoor
/- The examples hold; Parse agrees with the specification. -/
namespace Go.Proofs.YtjfkkokeegpeiaaDoor
open Go Go.Am Go.Proofs.Lx
set_option maxRecDepth 100000
theorem br7(q:Nat){s:ByteArray}{r:List Prc×Int×Int}(h:ParseR s r):ai3 q s=some (r.1.length,pF r.1,r.2.1,r.2.2):=by
 unfold ai3;rw[hg7 h]
theorem ey2(q:Nat):eo3 q ()=some true:=by
 have h1:ai3 q gj5=some (1,pF prc1,0,0):=br7 q ex1;have h2:ai3 q hc4=some (0,pF [],23,5):=br7 q ex2;have h3:ai3 q hl7=some (0,pF [],15,10):=br7 q ex3
 have h4:bu1 q (1,pF prc1)=some ia3:=by
  unfold bu1;exact if_pos rfl
 refine Rs.eq ?_;unfold eo3 as8;refine Rs.bind (Rs.of h1) λz1 e1=>?_;refine Rs.bind (Rs.of h2) λz2 e2=>?_;refine Rs.bind (Rs.of h3) λz3 e3=>?_;subst e1 e2 e3;refine Rs.pos rfl (Rs.pos rfl ?_);refine Rs.bind (Rs.of h4) λz4 e4=>?_;subst e4;refine Rs.pos (tl_eq.2 rfl) (Rs.pos rfl (Rs.pos rfl (Rs.pos rfl (Rs.some rfl))))
end Go.Proofs.YtjfkkokeegpeiaaDoor
/- The printer of the program, lifted: lines. -/
namespace Go.Proofs.YtjfkkokeegpeiaaDoor
open Go Go.Am Go.Proofs Go.Proofs.Lx
set_option maxRecDepth 100000
def chT:Option Chunk->List V|some (.tbk _ l)=>l|_=>[]
noncomputable def E8:Env:={E5 with lit:=λ_=>false}
theorem hW8:WF E8:=WF.of E8 (λ_=>rfl) (by kernel_rfl) hW.1.1
theorem hX8:SoundX E8:=SoundX.none λ_ _=>rfl
theorem sc8{f:FuncId}{args:List V}{L:List (Option Chunk)}{cr:CRes}:SC E8 f args L cr↔SC E5 f args L cr:=
 ⟨λh=>⟨h.1,λβ S w us h1 h2 h3=>h.2 β S w us h1 h2 ⟨h3.rd,h3.inv⟩⟩,λh=>⟨h.1,λβ S w us h1 h2 h3=>h.2 β S w us h1 h2 ⟨h3.rd,h3.inv⟩⟩⟩
abbrev fe9:Type:=Unit
abbrev ge9:Type:=Unit
def fh2:fe9->List V×List (Option Chunk):=(λ_=>(([.ptr 0 0]:List V),([some (.tbk 64 [.sc (.pointer none),g8])]:List (Option Chunk))))
def ij7(t:TT):fe9:=()
theorem ig0:VI fh2:=vd ij7 λ_=>rfl
def hp0:ge9->CRes:=(λ_=>.ret (.tup []) [some (.tbk 64 [.ptr 0 0,g8])]:(Unit)->CRes)
noncomputable def CCF(q:Nat)(x:fe9):Option ge9:=some ()
theorem ie4(q:Nat):Lw E8 49 fh2 hp0 (CCF q):=by
 intro x z h;unfold CCF at h;cases h;exact by2 rfl _ _
abbrev fk8:Type:=Unit
abbrev gn0:Type:=Unit
def fj7:fk8->List V×List (Option Chunk):=(λ_=>(([.ptr 0 0]:List V),([some (.tbk 64 [.ptr 0 0,g8])]:List (Option Chunk))))
def ii1(t:TT):fk8:=()
theorem ij9:VI fj7:=vd ii1 λ_=>rfl
def hq1:gn0->CRes:=(λ_=>.ret (.tup []) [some (.tbk 64 [.ptr 0 0,g8])]:(Unit)->CRes)
noncomputable def CCN(q:Nat)(x:fk8):Option gn0:=some ()
theorem ia8(q:Nat):Lw E8 49 fj7 hq1 (CCN q):=by
 intro x z h;unfold CCN at h;cases h;exact be1 rfl _ _
abbrev gl1:Type:=Nat×FI
abbrev hk8:Type:=Nat×FI
def fy5:AR gl1:=λx=>([.ptr 0 0],[some (.tbk 64 [.ptr 0 0,.sl 1 1 0 x.1]),some (.row 5 1 x.1 (λj=>[u8 (x.2 j)]))])
def il8(t:TT):gl1:=((chN (co t 1)),dRI (co t 1) 0)
theorem ij0:VI fy5:=vd il8 λ_=>rfl
def ie3:hk8->CRes:=λz=>.ret (.tup []) [some (.tbk 64 [.ptr 0 0,.sl 1 1 0 z.1]),some (.row 5 1 z.1 (λj=>[u8 (z.2 j)]))]
noncomputable def CC(q:Nat)(x:gl1):Option hk8:=some x
theorem hq7(q:Nat):Lw E8 49 fy5 ie3 (CC q):=by
 intro x z h;unfold CC at h;cases h;exact be1 rfl _ _
abbrev zQ:Type:=ByteArray×Int
abbrev ak3:Type:=ByteArray
def xE:AR zQ:=λx=>([st x.1,i64 x.2],[])
def gg6(t:TT):zQ:=(vS (ag t 0),vI (ag t 1))
theorem eb0:VI xE:=vd gg6 λ_=>rfl
def bg4:ak3->CRes:=λz=>.ret (st z) []
noncomputable def Repeat(q:Nat)(x:zQ):Option ak3:=if 0<=x.2/\x.2<=1000/\x.1.size<=1000 then some ⟨(Lib.repeatL x.1.data.toList x.2.toNat).toArray⟩else none
theorem bq4(q:Nat):Lw E8 38 xE bg4 (Repeat q):=by
 rintro⟨s,n⟩ z h;unfold Repeat at h;split at h
 ·rename_i hn;cases h
  exact sc8.2 (sc5.2 (SC.ext hX (by
   show bz9 38 [st s,i64 n]=_;simp only[bz9,if_pos,st,i64]
   exact if_pos hn)))
 ·cases h
abbrev dv5:Type:=ByteArray×Nat×FI
abbrev ed8:Type:=Int×Nat×FI
def bz6:AR dv5:=λx=>([.ptr 0 0,st x.1],[some (.tbk 64 [.ptr 0 0,.sl 1 1 0 x.2.1]),some (.row 5 1 x.2.1 (λj=>[u8 (x.2.2 j)]))])
def il3(t:TT):dv5:=((vS (ag t 1)),dB ((chT (co t 0)).getD 1 .junk),dRI (co t 1) 0)
theorem hr8:VI bz6:=vd il3 λ_=>rfl
def ep9:ed8->CRes:=λz=>.ret (.tup [i64 z.1,.sc .nilIface]) [some (.tbk 64 [.ptr 0 0,.sl 1 1 0 z.2.1]),some (.row 5 1 z.2.1 (λj=>[u8 (z.2.2 j)]))]
def fu0{β:Type}(c_CC:gl1->Option hk8)(x:dv5)(dn:ed8->Option β):Option β:=
 (c_CC x.2).bind λz2=>if(z2.1+x.1.size)*1<=d5/\z2.1+x.1.size<=maxLen/\z2.1<=z2.1 then dn (((x.1.size:Int),z2.1+x.1.size,λj=>if j<z2.1 then z2.2 j else((UInt8.toNat (List.getD (Array.toList x.1.data) (j-z2.1) 0):Nat):Int)))else none
theorem im3{β:Type}(c_CC)(x)(dn:ed8->Option β):fu0 c_CC x dn=(fu0 c_CC x some).bind dn:=by
 unfold fu0
 repeat' first|exact n0|refine n1 λ_=>?_|refine n2 ?_ ?_|refine n3 (λ_=>?_) λ_=>?_|rfl
theorem il7(c_CC)(x):f7 E8 (ftg 49 (λ_ L=>L.length==2) fy5 ie3 c_CC ca0) lo0 37 (bz6 x).1 (bz6 x).2 K=fu0 (vf fy5 c_CC) x (λz=>some (.c (ep9 z))):=by kernel_rfl
noncomputable def WS(q:Nat)(x:dv5):Option ed8:=fu0 (CC q) x some
theorem fm7(q:Nat):Lw E8 37 bz6 ep9 (WS q):=sof hW8 hX8 (fk (hq7 q) a8) (λ_=>cB) λx=>(il7 (CC q) x).trans (by rw[ij0,im3]<;>rfl)
abbrev em3:Type:=Int×Nat×FI
abbrev eh7:Type:=Nat×FI
def ca3:AR em3:=λx=>([.ptr 0 0,u8 x.1],[some (.tbk 64 [.ptr 0 0,.sl 1 1 0 x.2.1]),some (.row 5 1 x.2.1 (λj=>[u8 (x.2.2 j)]))])
def il4(t:TT):em3:=((vI (ag t 1)),dB ((chT (co t 0)).getD 1 .junk),dRI (co t 1) 0)
theorem id3:VI ca3:=vd il4 λ_=>rfl
def es7:eh7->CRes:=λz=>.ret (.sc .nilIface) [some (.tbk 64 [.ptr 0 0,.sl 1 1 0 z.1]),some (.row 5 1 z.1 (λj=>[u8 (z.2 j)]))]
def gb6{β:Type}(c_CC:gl1->Option hk8)(x:em3)(dn:eh7->Option β):Option β:=
 (c_CC x.2).bind λz2=>if(z2.1+1)*1<=d5/\z2.1+1<=maxLen/\z2.1<=z2.1 then dn (z2.1+1,λj=>if j<z2.1 then z2.2 j else x.1)else none
theorem im0{β:Type}(c_CC)(x)(dn:eh7->Option β):gb6 c_CC x dn=(gb6 c_CC x some).bind dn:=by
 unfold gb6
 repeat' first|exact n0|refine n1 λ_=>?_|refine n2 ?_ ?_|refine n3 (λ_=>?_) λ_=>?_|rfl
theorem im4(c_CC)(x):f7 E8 (ftg 49 (λ_ L=>L.length==2) fy5 ie3 c_CC ca0) lo0 39 (ca3 x).1 (ca3 x).2 K=gb6 (vf fy5 c_CC) x (λz=>some (.c (es7 z))):=by kernel_rfl
noncomputable def WB(q:Nat)(x:em3):Option eh7:=gb6 (CC q) x some
theorem fk7(q:Nat):Lw E8 39 ca3 es7 (WB q):=sof hW8 hX8 (fk (hq7 q) a8) (λ_=>cB) λx=>(im4 (CC q) x).trans (by rw[ij0,im0]<;>rfl)
abbrev y4:Type:=Int×Nat×FS×Nat×FI
abbrev eC:Type:=Nat×FS×Nat×FI
def t7:AR y4:=λx=>([.ptr 0 0,i64 x.1,.sl 1 1 0 x.2.1],[some (.tbk 64 [.ptr 0 0,.sl 2 1 0 x.2.2.2.1]),some (.row 9 1 x.2.1 (λj=>[st (x.2.2.1 j)])),some (.row 5 1 x.2.2.2.1 (λj=>[u8 (x.2.2.2.2 j)]))])
def hk3(t:TT):y4:=((vI (ag t 1)),dB (ag t 2),dRS (co t 1) 0,dB ((chT (co t 0)).getD 1 .junk),dRI (co t 2) 0)
theorem yI:VI t7:=vd hk3 λ_=>rfl
def iL:eC->CRes:=λz=>.ret (.tup []) [some (.tbk 64 [.ptr 0 0,.sl 2 1 0 z.2.2.1]),some (.row 9 1 z.1 (λj=>[st (z.2.1 j)])),some (.row 5 1 z.2.2.1 (λj=>[u8 (z.2.2.2 j)]))]
abbrev mI:Type:=Nat×FI×Int
abbrev ae8:Type:=Nat×FI
def qR(x:y4)(y:mI):St:={fr:=[V.ptr 0 0]++jk 13++[V.sl 1 1 0 x.2.1,i64 ((x.2.1:Nat):Int),i64 y.2.2]++jk 13,H:=hp [some (Chunk.tbk 64 [V.ptr 0 0,V.sl 2 1 0 y.1]),some (Chunk.row 9 1 x.2.1 λj=>[st (x.2.2.1 j)]),some (Chunk.row 5 1 y.1 λj=>[V.sc (Value.int IntKind.u8 (y.2.1 j))])],nx:=3,rt:=2,me:=20}
def eq5(s:St):mI:=((dB ((chT (s.H 0)).getD 1 .junk)),dRI (s.H 2) 0,vI (s.fr.getD 16 .junk))
theorem fd8(x:y4):VL (qR x):=vl eq5 λ_=>rfl
def aj0(x:y4):ae8->Ex×St:=(λz=>(Ex.exit 0,{fr:=[V.ptr 0 0]++jk 29,H:=hp [some (Chunk.tbk 64 [V.ptr 0 0,V.sl 2 1 0 z.1]),some (Chunk.row 9 1 x.2.1 λj=>[st (x.2.2.1 j)]),some (Chunk.row 5 1 z.1 λj=>[V.sc (Value.int IntKind.u8 (z.2 j))])],nx:=3,rt:=2,me:=20}))
def rA{β:Type}(c_Repeat:zQ->Option ak3)(c_WS:dv5->Option ed8)(c_WB:em3->Option eh7)(x:y4)(y:mI)(nx:mI->Option β)(dn:ae8->Option β):Option β:=
 if decide (y.2.2< ((x.2.1:Nat):Int))=true then if 0<=y.2.2/\y.2.2< ((x.2.1:Nat):Int)then if 0+Int.toNat y.2.2<x.2.1/\1=1 then(c_WS (x.2.2.1 (0+Int.toNat y.2.2),y.1,y.2.1)).bind λz46=>nx (z46.2.1,z46.2.2,w (y.2.2+1))else none else none else dn (y.1,y.2.1)
theorem ey0{β:Type}(c_Repeat c_WS c_WB)(x)(y)(nx:mI->Option β)(dn):rA c_Repeat c_WS c_WB x y nx dn=(rA c_Repeat c_WS c_WB x y (λy=>some (.inl y)) (λz=>some (.inr z))).bind λr=>Sum.elim nx dn r:=by
 unfold rA
 repeat' first|exact n0|refine n1 λ_=>?_|refine n2 ?_ ?_|refine n3 (λ_=>?_) λ_=>?_|rfl
theorem fb3(c_Repeat c_WS c_WB)(x)(y)(lo:f5):n8 E8 (ftb 38 xE bg4 c_Repeat (ftg 37 (λ_ L=>L.length==2) bz6 ep9 c_WS (ftg 39 (λ_ L=>L.length==2) ca3 es7 c_WB ca0))) lo 0 114689 (h9 E8 20 0) (qR x y) (KCM [(0,1)] 0)=rA (vf xE c_Repeat) (vf bz6 c_WS) (vf ca3 c_WB) x y (λy=>lo 0 114689 (h9 E8 20 0) (qR x y) (KCM [(0,1)] 0)) (λz=>some (.l (aj0 x z).1 (aj0 x z).2)):=by kernel_rfl
noncomputable def aq0(c_Repeat:zQ->Option ak3)(c_WS:dv5->Option ed8)(c_WB:em3->Option eh7)(q:Nat)(x:y4):mI->Option ae8:=lpG (λy=>rA c_Repeat c_WS c_WB x y (λy=>some (.inl y)) (λz=>some (.inr z))) q
theorem er9(c_Repeat)(h_Repeat:Lw E8 38 xE bg4 c_Repeat)(c_WS)(h_WS:Lw E8 37 bz6 ep9 c_WS)(c_WB)(h_WB:Lw E8 39 ca3 es7 c_WB)(q:Nat)(x:y4):Ll E8 (h9 E8 20 0) (qR x) (aj0 x) (aq0 c_Repeat c_WS c_WB q x):=
 slp (fk h_Repeat (fk h_WS (fk h_WB a8))) hX8 (λlo y=>(fb3 c_Repeat c_WS c_WB x y lo).trans (by rw[eb0,hr8,id3];exact ey0 _ _ _ _ _ _ _)) (λ_=>by kernel_rfl) q
def aw2{β:Type}(c_Repeat:zQ->Option ak3)(c_WS:dv5->Option ed8)(c_WB:em3->Option eh7)(l_lineS_l0:mI->Option ae8)(x:y4)(dn:eC->Option β):Option β:=
 (c_Repeat (⟨#[32,32]⟩,x.1)).bind λz2=>(c_WS (z2,x.2.2.2)).bind λz6=>(l_lineS_l0 (z6.2.1,z6.2.2,0)).bind λz28=>(c_WB (10,z28)).bind λz32=>dn (x.2.1,x.2.2.1,z32)
theorem gw7{β:Type}(c_Repeat c_WS c_WB)(l_lineS_l0)(x)(dn:eC->Option β):aw2 c_Repeat c_WS c_WB l_lineS_l0 x dn=(aw2 c_Repeat c_WS c_WB l_lineS_l0 x some).bind dn:=by
 unfold aw2
 repeat' first|exact n0|refine n1 λ_=>?_|refine n2 ?_ ?_|refine n3 (λ_=>?_) λ_=>?_|rfl
theorem hk6(c_Repeat c_WS c_WB)(l_lineS_l0)(x):f7 E8 (ftb 38 xE bg4 c_Repeat (ftg 37 (λ_ L=>L.length==2) bz6 ep9 c_WS (ftg 39 (λ_ L=>L.length==2) ca3 es7 c_WB ca0))) (lt1 0 (λ_=>true) (h9 E8 20 0) (qR x) (aj0 x) l_lineS_l0 lo0) 20 (t7 x).1 (t7 x).2 K=aw2 (vf xE c_Repeat) (vf bz6 c_WS) (vf ca3 c_WB) (lf (h9 E8 20 0) (qR x) l_lineS_l0) x (λz=>some (.c (iL z))):=by kernel_rfl
noncomputable def gM(q:Nat)(x:y4):Option eC:=aw2 (Repeat q) (WS q) (WB q) (aq0 (Repeat q) (WS q) (WB q) q x) x some
theorem cm6(q:Nat):Lw E8 20 t7 iL (gM q):=sof hW8 hX8 (fk (bq4 q) (fk (fm7 q) (fk (fk7 q) a8))) (λx=>(lk1 (er9 (Repeat q) (bq4 q) (WS q) (fm7 q) (WB q) (fk7 q) q x) cB)) λx=>(hk6 (Repeat q) (WS q) (WB q) (aq0 (Repeat q) (WS q) (WB q) q x) x).trans (by rw[eb0,hr8,id3,fd8,gw7]<;>rfl)
abbrev ar0:Type:=Unit
abbrev br5:Type:=Unit
def zT:ar0->List V×List (Option Chunk):=(λ_=>(([st ⟨#[32,32]⟩,i64 0]:List V),([]:List (Option Chunk))))
def fx0(t:TT):ar0:=()
theorem fx5:VI zT:=vd fx0 λ_=>rfl
def bv3:br5->CRes:=(λ_=>.ret (st ⟨#[]⟩) []:(Unit)->CRes)
noncomputable def dj9(q:Nat)(x:ar0):Option br5:=some ()
theorem cl5(q:Nat):Lw E8 38 zT bv3 (dj9 q):=by
 intro x z h;exact bq4 0 (⟨#[32,32]⟩,0) ⟨#[]⟩ (by unfold Repeat;exact(if_pos (by decide)))
abbrev dt6:Type:=Unit
abbrev dt9:Type:=Int
def cp2:dt6->List V×List (Option Chunk):=(λ_=>(([.ptr 0 0,st ⟨#[]⟩]:List V),([some (.tbk 64 [.sc (.pointer none),g8])]:List (Option Chunk))))
def ik2(t:TT):dt6:=()
theorem if3:VI cp2:=vd ik2 λ_=>rfl
def fl9:dt9->CRes:=λz=>.ret (.tup [i64 z,.sc .nilIface]) [some (.tbk 64 [.ptr 0 0,g8])]
def eg2{β:Type}(c_CCF:fe9->Option ge9)(x:dt6)(dn:dt9->Option β):Option β:=
 (c_CCF ()).bind λz0=>dn (0)
theorem ih0{β:Type}(c_CCF)(x)(dn:dt9->Option β):eg2 c_CCF x dn=(eg2 c_CCF x some).bind dn:=by
 unfold eg2
 repeat' first|exact n0|refine n1 λ_=>?_|refine n2 ?_ ?_|refine n3 (λ_=>?_) λ_=>?_|rfl
theorem ih6(c_CCF)(x):f7 E8 (ftg 49 (λ_ L=>match L with| [some (.tbk 64 [.sc (.pointer none),_])]=>true|_=>false) fh2 hp0 c_CCF ca0) lo0 37 (cp2 x).1 (cp2 x).2 K=eg2 (vf fh2 c_CCF) x (λz=>some (.c (fl9 z))):=by kernel_rfl
noncomputable def WSF(q:Nat)(x:dt6):Option dt9:=eg2 (CCF q) x some
theorem gr0(q:Nat):Lw E8 37 cp2 fl9 (WSF q):=sof hW8 hX8 (fk (ie4 q) a8) (λ_=>cB) λx=>(ih6 (CCF q) x).trans (by rw[ig0,ih0]<;>rfl)
abbrev el0:Type:=Unit
abbrev el8:Type:=Int×Nat×FI
def cf0:el0->List V×List (Option Chunk):=(λ_=>(([.ptr 0 0,st ⟨#[112,114,111,99,101,100,117,114,101,32]⟩]:List V),([some (.tbk 64 [.ptr 0 0,g8])]:List (Option Chunk))))
def ik0(t:TT):el0:=()
theorem ii2:VI cf0:=vd ik0 λ_=>rfl
def fn2:el8->CRes:=λz=>.ret (.tup [i64 z.1,.sc .nilIface]) [some (.tbk 64 [.ptr 0 0,.sl 1 1 0 z.2.1]),some (.row 5 1 z.2.1 (λj=>[u8 (z.2.2 j)]))]
def dx4{β:Type}(c_CCN:fk8->Option gn0)(x:el0)(dn:el8->Option β):Option β:=
 (c_CCN ()).bind λz0=>dn (10,10,λj=>((UInt8.toNat (List.getD (Array.toList #[112,114,111,99,101,100,117,114,101,32]) j 0):Nat):Int))
theorem ik6{β:Type}(c_CCN)(x)(dn:el8->Option β):dx4 c_CCN x dn=(dx4 c_CCN x some).bind dn:=by
 unfold dx4
 repeat' first|exact n0|refine n1 λ_=>?_|refine n2 ?_ ?_|refine n3 (λ_=>?_) λ_=>?_|rfl
theorem ik3(c_CCN)(x):f7 E8 (ftg 49 (λ_ L=>match L with| [some (.tbk 64 [.ptr 0 0,.sc (.slice none 0 0)])]=>true|_=>false) fj7 hq1 c_CCN ca0) lo0 37 (cf0 x).1 (cf0 x).2 K=dx4 (vf fj7 c_CCN) x (λz=>some (.c (fn2 z))):=by kernel_rfl
noncomputable def WSN(q:Nat)(x:el0):Option el8:=dx4 (CCN q) x some
theorem gt6(q:Nat):Lw E8 37 cf0 fn2 (WSN q):=sof hW8 hX8 (fk (ia8 q) a8) (λ_=>cB) λx=>(ik3 (CCN q) x).trans (by rw[ij9,ik6]<;>rfl)
abbrev fT:Type:=ByteArray×ByteArray
abbrev fK:Type:=Nat×FS×FI
def aJ:AR fT:=λx=>([.ptr 0 0,i64 0,.sl 1 1 0 5],[some (.tbk 64 [.sc (.pointer none),g8]),some (.row 9 1 5 (λj=>[st (if j=0 then⟨#[112,114,111,99,101,100,117,114,101,32]⟩else if j-1=0 then x.1 else if j-1-1=0 then⟨#[40]⟩else if j-1-1-1=0 then x.2 else⟨#[41,32,123]⟩)]))])
def ha7(t:TT):fT:=(vS (((chF (co t 1)) 1).getD 0 .junk),vS (((chF (co t 1)) 3).getD 0 .junk))
theorem ah8:VI aJ:=vd ha7 λ_=>rfl
def mA:fK->CRes:=(λz=>CRes.ret (V.tup []) [some (Chunk.tbk 64 [V.ptr 0 0,V.sl 2 1 0 z.1]),some (Chunk.row 9 1 5 λj=>[st (z.2.1 j)]),some (Chunk.row 5 1 z.1 λj=>[V.sc (Value.int IntKind.u8 (z.2.2 j))])]:(Nat×FS×FI)->CRes)
def aw1{β:Type}(c_RepeatZ:ar0->Option br5)(c_WSF:dt6->Option dt9)(c_WSN:el0->Option el8)(c_WS:dv5->Option ed8)(c_WB:em3->Option eh7)(x:fT)(dn:fK->Option β):Option β:=
 (c_RepeatZ ()).bind λz0=>(c_WSF ()).bind λz1=>(c_WSN ()).bind λz2=>(c_WS (if 1=0 then⟨#[112,114,111,99,101,100,117,114,101,32]⟩else if 0=0 then x.1 else if 0=0 then⟨#[40]⟩else if 0=0 then x.2 else⟨#[41,32,123]⟩,z2.2)).bind λz6=>(c_WS (if 2=0 then⟨#[112,114,111,99,101,100,117,114,101,32]⟩else if 1=0 then x.1 else if 0=0 then⟨#[40]⟩else if 0=0 then x.2 else⟨#[41,32,123]⟩,z6.2)).bind λz10=>(c_WS (if 3=0 then⟨#[112,114,111,99,101,100,117,114,101,32]⟩else if 2=0 then x.1 else if 1=0 then⟨#[40]⟩else if 0=0 then x.2 else⟨#[41,32,123]⟩,z10.2)).bind λz14=>(c_WS (if 4=0 then⟨#[112,114,111,99,101,100,117,114,101,32]⟩else if 3=0 then x.1 else if 2=0 then⟨#[40]⟩else if 1=0 then x.2 else⟨#[41,32,123]⟩,z14.2)).bind λz18=>(c_WB (10,z18.2)).bind λz22=>dn (z22.1,λj=>if j=0 then⟨#[112,114,111,99,101,100,117,114,101,32]⟩else if j-1=0 then x.1 else if j-1-1=0 then⟨#[40]⟩else if j-1-1-1=0 then x.2 else⟨#[41,32,123]⟩,z22.2)
theorem hi9{β:Type}(c_RepeatZ c_WSF)(c_WSN c_WS c_WB)(x)(dn:fK->Option β):aw1 c_RepeatZ c_WSF c_WSN c_WS c_WB x dn=(aw1 c_RepeatZ c_WSF c_WSN c_WS c_WB x some).bind dn:=by
 unfold aw1
 repeat' first|exact n0|refine n1 λ_=>?_|refine n2 ?_ ?_|refine n3 (λ_=>?_) λ_=>?_|rfl
theorem hn6(c_RepeatZ c_WSF)(c_WSN c_WS c_WB)(x):f7 E8 (ftb 38 zT bv3 c_RepeatZ (ftg 37 (λ_ L=>match L with| [some (.tbk 64 [.sc (.pointer none),_])]=>true|_=>false) cp2 fl9 c_WSF (ftg 37 (λ_ L=>match L with| [some (.tbk 64 [.ptr 0 0,.sc (.slice none 0 0)])]=>true|_=>false) cf0 fn2 c_WSN (ftg 37 (λ_ L=>L.length==2) bz6 ep9 c_WS (ftg 39 (λ_ L=>L.length==2) ca3 es7 c_WB ca0))))) (loU E8 (ftb 38 zT bv3 c_RepeatZ (ftg 37 (λ_ L=>match L with| [some (.tbk 64 [.sc (.pointer none),_])]=>true|_=>false) cp2 fl9 c_WSF (ftg 37 (λ_ L=>match L with| [some (.tbk 64 [.ptr 0 0,.sc (.slice none 0 0)])]=>true|_=>false) cf0 fn2 c_WSN (ftg 37 (λ_ L=>L.length==2) bz6 ep9 c_WS (ftg 39 (λ_ L=>L.length==2) ca3 es7 c_WB ca0))))) [0] lo0 20) 20 (aJ x).1 (aJ x).2 K=aw1 (vf zT c_RepeatZ) (vf cp2 c_WSF) (vf cf0 c_WSN) (vf bz6 c_WS) (vf ca3 c_WB) x (λz=>some (.c (mA z))):=by kernel_rfl
noncomputable def wV(q:Nat)(x:fT):Option fK:=aw1 (dj9 q) (WSF q) (WSN q) (WS q) (WB q) x some
theorem em7(q:Nat):Lw E8 20 aJ mA (wV q):=sof hW8 hX8 (fk (cl5 q) (fk (gr0 q) (fk (gt6 q) (fk (fm7 q) (fk (fk7 q) a8))))) (λ_=>(au4 (fk (cl5 q) (fk (gr0 q) (fk (gt6 q) (fk (fm7 q) (fk (fk7 q) a8))))) hX8 cB 20)) λx=>(hn6 (dj9 q) (WSF q) (WSN q) (WS q) (WB q) x).trans (by rw[fx5,if3,ii2,hr8,id3,hi9]<;>rfl)
end Go.Proofs.YtjfkkokeegpeiaaDoor
/- Plain: a token is known by its own bytes and the byte behind it; sources joined, moved, cut. -/
namespace Go.Proofs.Lx
open Go
def mkB(l:List UInt8):ByteArray:=⟨l.toArray⟩
theorem b9(l:List UInt8):(mkB l).size=l.length:=by simp[mkB,ByteArray.size]
theorem m4(l:List UInt8):(mkB l).data.toList=l:=by simp[mkB]
def ig1(D:List UInt8):Tkn×Int:=if 1<D.length/\D[0]? =some 48 then(bh8,11)else if bc0 0 D>2147483647 then(bh8,5)else(⟨2,0,mkB D,bc0 0 D⟩,0)
def gm3(l:List UInt8):Tkn×Int:=
 if p8 (l.headD 0).toNat then(if 12<j6 aE l then(bh8,2)else(⟨1,0,mkB (l.take (j6 aE l)),0⟩,0))
 else if l6 (l.headD 0).toNat then ig1 (l.take (j6 l6 l))
 else if ac8 l=0 then(bh8,11)else(⟨3,0,mkB (l.take (ac8 l)),0⟩,0)
theorem iu6(s:ByteArray)(p n:Nat)(h:p<=s.size):(s.extract p s.size).extract 0 n=mkB ((s.data.toList.drop p).take n):=aB (by rw[dM,an2 s p h,m4];simp)
theorem je3{s:ByteArray}{p:Nat}(hp:p<s.size):s.get! p=(s.data.toList.drop p).headD 0:=by rw[iS s p hp];rfl
theorem jb3(D:List UInt8):rO (mkB D)=ig1 D:=by
 unfold rO ig1;rw[b9,m4]
theorem jh1{s:ByteArray}{p:Nat}(hp:p<s.size):wM s p=gm3 (s.data.toList.drop p):=by
 unfold wM gm3;rw[je3 hp,iu6 s p _ (by omega)];unfold by5 lD;rw[jb3,iu6 s p _ (by omega),iu6 s p _ (by omega),an2 s p (by omega)]
end Go.Proofs.Lx

