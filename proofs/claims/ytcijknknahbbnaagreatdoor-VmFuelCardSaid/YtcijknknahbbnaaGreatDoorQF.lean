/- Texts joined. -/
import Derived.Test.YtcijknknahbbnaaGreatDoorQE
import Derived.Test.YtcijknknahbbnaaGreatDoorQC
import Derived.Test.YtcijknknahbbnaaGreatDoorQD
import Derived.Lib.Strings
import Derived.Deep.LoopGhost
import Derived.Lib.Walk
import Derived.Lib.SliceRun
/- Parse, lifted where it panics and recovers. -/
set_option linter.unusedSimpArgs false
set_option linter.unusedVariables false
namespace Go.Proofs.YtcijknknahbbnaaGreatDoor
open Go Go.Am Go.Proofs
set_option maxRecDepth 100000
noncomputable def E6(ds:List Deferred):Env:={E5 with dok:=false,dls:=ds}
theorem hX6(ds:List Deferred):SoundX (E6 ds):=SoundX.none fun _ _=>rfl
theorem sc6{ds:List Deferred}{f:FuncId}{args:List V}{L:List (Option Chunk)}{cr:CRes}:SC (E6 ds) f args L cr↔SC E5 f args L cr:=
 ⟨fun h=>⟨h.1,fun β S w us h1 h2 h3=>h.2 β S w us h1 h2 ⟨h3.rd,h3.inv⟩⟩,fun h=>⟨h.1,fun β S w us h1 h2 h3=>h.2 β S w us h1 h2 ⟨h3.rd,h3.inv⟩⟩⟩
variable {ds:List Deferred}
abbrev bD:Type:=Int×Nat×FI×FI×FS×FI
abbrev tO:Type:=Int×Int
def tL:bD→List V×List (Option Chunk):=(fun x=>(fun(a:Int) (tn:Nat) (tk:Nat→Int) (ta:Nat→Int) (tt:Nat→ByteArray) (tv:Nat→Int)=>((([.junk,.junk,.ptr 0 0,.ptr 1 0,.ptr 2 0,.ro 4 tn (fun j=>[i64 (tk j),i64 (ta j),st (tt j),i64 (tv j)])]++jk 25):List V),([some (.blk [g9]),some (.blk [i64 a]),some (.blk [i64 0])]:List (Option Chunk)))) x.1 x.2.1 x.2.2.1 x.2.2.2.1 x.2.2.2.2.1 x.2.2.2.2.2)
def bf4:tO→CRes:=fun z=>.pan (.ifc 67 (.agg [i64 z.1,i64 z.2]))
abbrev aQ:Type:=(Unit)⊕(FS×FN×FM×FI×FI×FS×FN×FM×Nat×FI×FI×FS×FI×Int×Int×Nat×Nat×FS×FS×Nat)
abbrev iS:Type:=(Int×Int)⊕(Unit)⊕(Int×Int×Nat×FS×FN×FM×FI×FI×FS×FN×FM)⊕(Nat×FS×FN×FM×FI×FI×FS×FN×FM)
def ca8(x:bD)(y:Unit):St:={fr:=[V.junk,V.junk,V.ptr 0 0,V.ptr 1 0,V.ptr 2 0,V.junk,V.ptr 3 0]++jk 24,H:=hp [some (Chunk.blk [g9]),some (Chunk.blk [i64 x.1]),some (Chunk.blk [i64 0]),some (Chunk.blk [V.ro 4 x.2.1 fun j=>[i64 (x.2.2.1 j),i64 (x.2.2.2.1 j),st (x.2.2.2.2.1 j),i64 (x.2.2.2.2.2 j)],i64 0,i64 0,g9,g9])],nx:=4,rt:=3,me:=8}
def cf5(s:St):Unit:=()
def cf0(x:bD)(y:FS×FN×FM×FI×FI×FS×FN×FM×Nat×FI×FI×FS×FI×Int×Int×Nat×Nat×FS×FS×Nat):St:={fr:=[V.junk,V.junk,V.ptr 0 0,V.ptr 1 0,V.ptr 2 0,V.junk,V.ptr 4 0]++jk 24,H:=hp [some (Chunk.blk [V.sl 3 6 0 y.2.2.2.2.2.2.2.2.2.2.2.2.2.2.2.2.2.2.2]),some (Chunk.blk [i64 x.1]),some (Chunk.blk [i64 0]),some (Chunk.row 48 6 y.2.2.2.2.2.2.2.2.2.2.2.2.2.2.2.2.2.2.2 fun j=>[st (y.1 j),V.ro 2 (y.2.1 j) (y.2.2.1 j),i64 (y.2.2.2.1 j),i64 (y.2.2.2.2.1 j),st (y.2.2.2.2.2.1 j),V.ro 4 (y.2.2.2.2.2.2.1 j) (y.2.2.2.2.2.2.2.1 j)]),some (Chunk.blk [V.ro 4 y.2.2.2.2.2.2.2.2.1 fun j=>[i64 (y.2.2.2.2.2.2.2.2.2.1 j),i64 (y.2.2.2.2.2.2.2.2.2.2.1 j),st (y.2.2.2.2.2.2.2.2.2.2.2.1 j),i64 (y.2.2.2.2.2.2.2.2.2.2.2.2.1 j)],i64 y.2.2.2.2.2.2.2.2.2.2.2.2.2.1,i64 y.2.2.2.2.2.2.2.2.2.2.2.2.2.2.1,V.sl 5 1 0 y.2.2.2.2.2.2.2.2.2.2.2.2.2.2.2.1,V.sl 6 1 0 y.2.2.2.2.2.2.2.2.2.2.2.2.2.2.2.2.1]),some (Chunk.row 9 1 y.2.2.2.2.2.2.2.2.2.2.2.2.2.2.2.1 fun j=>[st (y.2.2.2.2.2.2.2.2.2.2.2.2.2.2.2.2.2.1 j)]),some (Chunk.row 9 1 y.2.2.2.2.2.2.2.2.2.2.2.2.2.2.2.2.1 fun j=>[st (y.2.2.2.2.2.2.2.2.2.2.2.2.2.2.2.2.2.2.1 j)])],nx:=7,rt:=3,me:=8}
def bx2(s:St):FS×FN×FM×FI×FI×FS×FN×FM×Nat×FI×FI×FS×FI×Int×Int×Nat×Nat×FS×FS×Nat:=((dRS (s.H 3) 0),dRN (s.H 3) 1,dRF (s.H 3) 1,dRI (s.H 3) 2,dRI (s.H 3) 3,dRS (s.H 3) 4,dRN (s.H 3) 5,dRF (s.H 3) 5,kP (cb s 4 0),dTI (cb s 4 0) 0,dTI (cb s 4 0) 1,dTS (cb s 4 0) 2,dTI (cb s 4 0) 3,vI (cb s 4 1),vI (cb s 4 2),fE (cb s 4 3),fE (cb s 4 4),dRS (s.H 5) 0,dRS (s.H 6) 0,fE (cb s 0 0))
def cU(x:bD):aQ→St:=(Sum.elim (ca8 x) (cf0 x))
def cu3(s:St):aQ:=(match s.nx==4 with|true=>(.inl (cf5 s)) |false=>(.inr (bx2 s)))
theorem cv8(x:bD):VL (cU x):=vl cu3 (fun y=>by rcases y with y|y<;>rfl)
def iU(x:bD):iS→Ex×St:=(Sum.elim (fun z=>(Ex.panic (V.ifc 67 (V.agg [i64 z.1,i64 z.2])),{fr:=[V.junk,V.junk,V.ptr 0 0,V.ptr 1 0,V.ptr 2 0]++jk 26,H:=hp [some (Chunk.blk [g9]),some (Chunk.blk [i64 x.1]),some (Chunk.blk [i64 0])],nx:=3,rt:=3,me:=8})) (Sum.elim (fun z=>(Ex.exit 0,{fr:=[V.junk,V.junk,V.ptr 0 0,V.ptr 1 0,V.ptr 2 0]++jk 26,H:=hp [some (Chunk.blk [g9]),some (Chunk.blk [i64 x.1]),some (Chunk.blk [i64 0])],nx:=3,rt:=3,me:=8})) (Sum.elim (fun z=>(Ex.panic (V.ifc 67 (V.agg [i64 z.1,i64 z.2.1])),{fr:=[V.junk,V.junk,V.ptr 0 0,V.ptr 1 0,V.ptr 2 0]++jk 26,H:=hp [some (Chunk.blk [V.sl 3 6 0 z.2.2.1]),some (Chunk.blk [i64 x.1]),some (Chunk.blk [i64 0]),some (Chunk.row 48 6 z.2.2.1 fun j=>[st (z.2.2.2.1 j),V.ro 2 (z.2.2.2.2.1 j) (z.2.2.2.2.2.1 j),i64 (z.2.2.2.2.2.2.1 j),i64 (z.2.2.2.2.2.2.2.1 j),st (z.2.2.2.2.2.2.2.2.1 j),V.ro 4 (z.2.2.2.2.2.2.2.2.2.1 j) (z.2.2.2.2.2.2.2.2.2.2 j)])],nx:=4,rt:=3,me:=8})) (fun z=>(Ex.exit 0,{fr:=[V.junk,V.junk,V.ptr 0 0,V.ptr 1 0,V.ptr 2 0]++jk 26,H:=hp [some (Chunk.blk [V.sl 3 6 0 z.1]),some (Chunk.blk [i64 x.1]),some (Chunk.blk [i64 0]),some (Chunk.row 48 6 z.1 fun j=>[st (z.2.1 j),V.ro 2 (z.2.2.1 j) (z.2.2.2.1 j),i64 (z.2.2.2.2.1 j),i64 (z.2.2.2.2.2.1 j),st (z.2.2.2.2.2.2.1 j),V.ro 4 (z.2.2.2.2.2.2.2.1 j) (z.2.2.2.2.2.2.2.2 j)])],nx:=4,rt:=3,me:=8})))))
def fR{β:Type}(c_nextZ:gZ→Option gU)(c_next:v8→Option y5)(c_procedureZ:p9→Option v7)(c_procedure:j5→Option o0)(x:bD)(y:Unit)(nx:aQ→Option β)(dn:iS→Option β):Option β:=
 (c_nextZ (0,0,x.2)).bind fun z359=>if(z359.1 !=0)=true then(c_procedureZ z359.2.2.2.2).bind fun z367=>Sum.elim (fun z367a=>nx (.inr (fun j=>z367a.1,fun j=>z367a.2.1,fun(j j_1:Nat)=>[st (z367a.2.2.1 j_1),st (z367a.2.2.2.1 j_1)],fun j=>z367a.2.2.2.2.1,fun j=>z367a.2.2.2.2.2.1,fun j=>z367a.2.2.2.2.2.2.1,fun j=>z367a.2.2.2.2.2.2.2.1,fun j=>z367a.2.2.2.2.2.2.2.2.1,z367a.2.2.2.2.2.2.2.2.2.2.2.1,z367a.2.2.2.2.2.2.2.2.2.2.2.2.1,z367a.2.2.2.2.2.2.2.2.2.2.2.2.2.1,z367a.2.2.2.2.2.2.2.2.2.2.2.2.2.2.1,z367a.2.2.2.2.2.2.2.2.2.2.2.2.2.2.2.1,z367a.2.2.2.2.2.2.2.2.2.1,z367a.2.2.2.2.2.2.2.2.2.2.1,z367a.2.2.2.2.2.2.2.2.2.2.2.2.2.2.2.2.1,z367a.2.2.2.2.2.2.2.2.2.2.2.2.2.2.2.2.2.2.1,z367a.2.2.2.2.2.2.2.2.2.2.2.2.2.2.2.2.2.1,z367a.2.2.2.2.2.2.2.2.2.2.2.2.2.2.2.2.2.2.2,1))) (fun z367b=>dn (.inl z367b)) z367 else dn (.inr (.inl ()))
theorem cf2{β:Type}(c_nextZ c_next)(c_procedureZ c_procedure)(x)(y)(nx:aQ→Option β)(dn):fR c_nextZ c_next c_procedureZ c_procedure x y nx dn=(fR c_nextZ c_next c_procedureZ c_procedure x y (fun y=>some (.inl y)) (fun z=>some (.inr z))).bind fun r=>Sum.elim nx dn r:=by
 unfold fR
 repeat' first|exact n0|refine n1 fun _=>?_|refine n2 ?_ ?_|refine n3 (fun _=>?_) fun _=>?_|rfl
theorem bx3(c_nextZ c_next)(c_procedureZ c_procedure)(x)(y)(lo:f7):r9 (E6 ds) (ftg 18 (fun _ L=>L.length==1) u7 kK c_nextZ (ftb 18 g8 s6 c_next (fg2 19 (fun _ L=>L.length==1) i6 q7 c_procedureZ (fg2 19 (fun _ L=>L.length==3) i8 w7 c_procedure ca0)))) lo 0 92 (b6 (E6 ds) 8 0) (cU x (.inl y)) (KCM [(0,28),(1000,28)] 28)=fR (vf u7 c_nextZ) (vf g8 c_next) (vf i6 c_procedureZ) (vf i8 c_procedure) x y (fun y=>lo 0 92 (b6 (E6 ds) 8 0) (cU x y) (KCM [(0,28),(1000,28)] 28)) (fun z=>some (.l (iU x z).1 (iU x z).2)):=by kernel_rfl
def fX{β:Type}(c_nextZ:gZ→Option gU)(c_next:v8→Option y5)(c_procedureZ:p9→Option v7)(c_procedure:j5→Option o0)(x:bD)(y:FS×FN×FM×FI×FI×FS×FN×FM×Nat×FI×FI×FS×FI×Int×Int×Nat×Nat×FS×FS×Nat)(nx:aQ→Option β)(dn:iS→Option β):Option β:=
 (c_next (y.2.2.2.2.2.2.2.2.2.2.2.2.2.1,y.2.2.2.2.2.2.2.2.2.2.2.2.2.2.1,y.2.2.2.2.2.2.2.2.1,y.2.2.2.2.2.2.2.2.2.1,y.2.2.2.2.2.2.2.2.2.2.1,y.2.2.2.2.2.2.2.2.2.2.2.1,y.2.2.2.2.2.2.2.2.2.2.2.2.1,y.2.2.2.2.2.2.2.2.2.2.2.2.2.2.2.1,y.2.2.2.2.2.2.2.2.2.2.2.2.2.2.2.2.2.1,y.2.2.2.2.2.2.2.2.2.2.2.2.2.2.2.2.1,y.2.2.2.2.2.2.2.2.2.2.2.2.2.2.2.2.2.2.1)).bind fun z381=>if(z381.1 !=0)=true then(c_procedure z381.2.2.2.2).bind fun z393=>Sum.elim (fun z393a=>if(y.2.2.2.2.2.2.2.2.2.2.2.2.2.2.2.2.2.2.2+1)*96≤d9∧y.2.2.2.2.2.2.2.2.2.2.2.2.2.2.2.2.2.2.2+1≤maxLen∧y.2.2.2.2.2.2.2.2.2.2.2.2.2.2.2.2.2.2.2≤y.2.2.2.2.2.2.2.2.2.2.2.2.2.2.2.2.2.2.2 then nx (.inr (fun j=>if j<y.2.2.2.2.2.2.2.2.2.2.2.2.2.2.2.2.2.2.2 then y.1 j else z393a.1,fun j=>if j<y.2.2.2.2.2.2.2.2.2.2.2.2.2.2.2.2.2.2.2 then y.2.1 j else z393a.2.1,fun(j j_1:Nat)=>if j<y.2.2.2.2.2.2.2.2.2.2.2.2.2.2.2.2.2.2.2 then y.2.2.1 j j_1 else[st (z393a.2.2.1 j_1),st (z393a.2.2.2.1 j_1)],fun j=>if j<y.2.2.2.2.2.2.2.2.2.2.2.2.2.2.2.2.2.2.2 then y.2.2.2.1 j else z393a.2.2.2.2.1,fun j=>if j<y.2.2.2.2.2.2.2.2.2.2.2.2.2.2.2.2.2.2.2 then y.2.2.2.2.1 j else z393a.2.2.2.2.2.1,fun j=>if j<y.2.2.2.2.2.2.2.2.2.2.2.2.2.2.2.2.2.2.2 then y.2.2.2.2.2.1 j else z393a.2.2.2.2.2.2.1,fun j=>if j<y.2.2.2.2.2.2.2.2.2.2.2.2.2.2.2.2.2.2.2 then y.2.2.2.2.2.2.1 j else z393a.2.2.2.2.2.2.2.1,fun(j j_1:Nat)=>if j<y.2.2.2.2.2.2.2.2.2.2.2.2.2.2.2.2.2.2.2 then y.2.2.2.2.2.2.2.1 j j_1 else z393a.2.2.2.2.2.2.2.2.1 j_1,z393a.2.2.2.2.2.2.2.2.2.2.2.1,z393a.2.2.2.2.2.2.2.2.2.2.2.2.1,z393a.2.2.2.2.2.2.2.2.2.2.2.2.2.1,z393a.2.2.2.2.2.2.2.2.2.2.2.2.2.2.1,z393a.2.2.2.2.2.2.2.2.2.2.2.2.2.2.2.1,z393a.2.2.2.2.2.2.2.2.2.1,z393a.2.2.2.2.2.2.2.2.2.2.1,z393a.2.2.2.2.2.2.2.2.2.2.2.2.2.2.2.2.1,z393a.2.2.2.2.2.2.2.2.2.2.2.2.2.2.2.2.2.2.1,z393a.2.2.2.2.2.2.2.2.2.2.2.2.2.2.2.2.2.1,z393a.2.2.2.2.2.2.2.2.2.2.2.2.2.2.2.2.2.2.2,y.2.2.2.2.2.2.2.2.2.2.2.2.2.2.2.2.2.2.2+1))else none) (fun z393b=>dn (.inr (.inr (.inl (z393b.1,z393b.2,y.2.2.2.2.2.2.2.2.2.2.2.2.2.2.2.2.2.2.2,y.1,y.2.1,y.2.2.1,y.2.2.2.1,y.2.2.2.2.1,y.2.2.2.2.2.1,y.2.2.2.2.2.2.1,y.2.2.2.2.2.2.2.1))))) z393 else dn (.inr (.inr (.inr (y.2.2.2.2.2.2.2.2.2.2.2.2.2.2.2.2.2.2.2,y.1,y.2.1,y.2.2.1,y.2.2.2.1,y.2.2.2.2.1,y.2.2.2.2.2.1,y.2.2.2.2.2.2.1,y.2.2.2.2.2.2.2.1))))
theorem bt9{β:Type}(c_nextZ c_next)(c_procedureZ c_procedure)(x)(y)(nx:aQ→Option β)(dn):fX c_nextZ c_next c_procedureZ c_procedure x y nx dn=(fX c_nextZ c_next c_procedureZ c_procedure x y (fun y=>some (.inl y)) (fun z=>some (.inr z))).bind fun r=>Sum.elim nx dn r:=by
 unfold fX
 repeat' first|exact n0|refine n1 fun _=>?_|refine n2 ?_ ?_|refine n3 (fun _=>?_) fun _=>?_|rfl
theorem ce6(c_nextZ c_next)(c_procedureZ c_procedure)(x)(y)(lo:f7):r9 (E6 ds) (ftg 18 (fun _ L=>L.length==1) u7 kK c_nextZ (ftb 18 g8 s6 c_next (fg2 19 (fun _ L=>L.length==1) i6 q7 c_procedureZ (fg2 19 (fun _ L=>L.length==3) i8 w7 c_procedure ca0)))) lo 0 92 (b6 (E6 ds) 8 0) (cU x (.inr y)) (KCM [(0,28),(1000,28)] 28)=fX (vf u7 c_nextZ) (vf g8 c_next) (vf i6 c_procedureZ) (vf i8 c_procedure) x y (fun y=>lo 0 92 (b6 (E6 ds) 8 0) (cU x y) (KCM [(0,28),(1000,28)] 28)) (fun z=>some (.l (iU x z).1 (iU x z).2)):=by kernel_rfl
noncomputable def oV(c_nextZ:gZ→Option gU)(c_next:v8→Option y5)(c_procedureZ:p9→Option v7)(c_procedure:j5→Option o0)(q:Nat)(x:bD):aQ→Option iS:=lpG (Sum.elim (fun y=>fR c_nextZ c_next c_procedureZ c_procedure x y (fun y=>some (.inl y)) (fun z=>some (.inr z))) (fun y=>fX c_nextZ c_next c_procedureZ c_procedure x y (fun y=>some (.inl y)) (fun z=>some (.inr z)))) q
theorem cs7(c_nextZ)(h_nextZ:∀x z,c_nextZ x=some z→SC (E6 ds) 18 (u7 x).1 (u7 x).2 (kK z))(c_next)(h_next:∀x z,c_next x=some z→SC (E6 ds) 18 (g8 x).1 (g8 x).2 (s6 z))(c_procedureZ)(h_procedureZ:∀x z,c_procedureZ x=some z→SC (E6 ds) 19 (i6 x).1 (i6 x).2 (q7 z))(c_procedure)(h_procedure:∀x z,c_procedure x=some z→SC (E6 ds) 19 (i8 x).1 (i8 x).2 (w7 z))(q:Nat)(x:bD):Ll (E6 ds) (b6 (E6 ds) 8 0) (cU x) (iU x) (oV c_nextZ c_next c_procedureZ c_procedure q x):=
 slp (fk h_nextZ (fk h_next (fk2 h_procedureZ (fk2 h_procedure a8)))) (hX6 ds) (fun lo y=>by
  rcases y with y|y
  ·exact(bx3 c_nextZ c_next c_procedureZ c_procedure x y lo).trans (by rw[zO,eA,fM,jK];exact cf2 _ _ _ _ _ _ _ _)
  ·exact(ce6 c_nextZ c_next c_procedureZ c_procedure x y lo).trans (by rw[zO,eA,fM,jK];exact bt9 _ _ _ _ _ _ _ _)) (fun z=>by rcases z with z|z|z|z<;>kernel_rfl) q
def qE{β:Type}(c_nextZ:gZ→Option gU)(c_next:v8→Option y5)(c_procedureZ:p9→Option v7)(c_procedure:j5→Option o0)(l_ParseP_l0:aQ→Option iS)(x:bD)(dn:tO→Option β):Option β:=
 (l_ParseP_l0 (.inl ())).bind fun z339=>Sum.elim (fun z339a=>dn z339a) (fun z339b=>Sum.elim (fun z339ba=>none) (fun z339bb=>Sum.elim (fun z339bba=>dn (z339bba.1,z339bba.2.1)) (fun z339bbb=>none) z339bb) z339b) z339
theorem eh4{β:Type}(c_nextZ c_next)(c_procedureZ c_procedure)(l_ParseP_l0)(x)(dn:tO→Option β):qE c_nextZ c_next c_procedureZ c_procedure l_ParseP_l0 x dn=(qE c_nextZ c_next c_procedureZ c_procedure l_ParseP_l0 x some).bind dn:=by
 unfold qE
 repeat' first|exact n0|refine n1 fun _=>?_|refine n2 ?_ ?_|refine n3 (fun _=>?_) fun _=>?_|rfl
theorem el2(c_nextZ c_next)(c_procedureZ c_procedure)(l_ParseP_l0)(x):ei7 4 3 (E6 ds) (ftg 18 (fun _ L=>L.length==1) u7 kK c_nextZ (ftb 18 g8 s6 c_next (fg2 19 (fun _ L=>L.length==1) i6 q7 c_procedureZ (fg2 19 (fun _ L=>L.length==3) i8 w7 c_procedure ca0)))) (lt4 0 (fun _=>true) (b6 (E6 ds) 8 0) (cU x) (iU x) l_ParseP_l0 lo0) 8 (tL x).1 (tL x).2 K=qE (vf u7 c_nextZ) (vf g8 c_next) (vf i6 c_procedureZ) (vf i8 c_procedure) (lf (b6 (E6 ds) 8 0) (cU x) l_ParseP_l0) x (fun z=>some (.c (bf4 z))):=by kernel_rfl
theorem el3(c_nextZ)(h_nextZ:∀x z,c_nextZ x=some z→SC (E6 ds) 18 (u7 x).1 (u7 x).2 (kK z))(c_next)(h_next:∀x z,c_next x=some z→SC (E6 ds) 18 (g8 x).1 (g8 x).2 (s6 z))(c_procedureZ)(h_procedureZ:∀x z,c_procedureZ x=some z→SC (E6 ds) 19 (i6 x).1 (i6 x).2 (q7 z))(c_procedure)(h_procedure:∀x z,c_procedure x=some z→SC (E6 ds) 19 (i8 x).1 (i8 x).2 (w7 z))(q:Nat)(x:bD)(z:tO)(h:qE c_nextZ c_next c_procedureZ c_procedure (oV c_nextZ c_next c_procedureZ c_procedure q x) x some=some z):RC 4 3 (E6 ds) 8 (tL x).1 (tL x).2 (bf4 z):=by
 refine RC.of (hX6 ds) (fk h_nextZ (fk h_next (fk2 h_procedureZ (fk2 h_procedure a8)))) (lk4 (cs7 c_nextZ h_nextZ c_next h_next c_procedureZ h_procedureZ c_procedure h_procedure q x) b8) ((el2 c_nextZ c_next c_procedureZ c_procedure (oV c_nextZ c_next c_procedureZ c_procedure q x) x).trans ?_)
 rw[zO,eA,fM,jK,cv8,eh4,h];rfl
noncomputable def cc0(q:Nat)(x:bD):Option tO:=qE (tC q) (next q) (t7 q) (aC q) (oV (tC q) (next q) (t7 q) (aC q) q x) x some
theorem ea4(q:Nat):∀(x:bD) (z:tO),cc0 q x=some z→RC 4 3 (E6 ds) 8 (tL x).1 (tL x).2 (bf4 z):=fun x z h=>el3 (tC q) (fun x z h=>sc6.2 (bj0 q x z h)) (next q) (fun x z h=>sc6.2 (gW q x z h)) (t7 q) (fun x z h=>sc6.2 (sN q x z h)) (aC q) (fun x z h=>sc6.2 (oG q x z h)) q x z h
end Go.Proofs.YtcijknknahbbnaaGreatDoor
/- Parse panics and recovers. -/
namespace Go.Proofs.YtcijknknahbbnaaGreatDoor
open Go Go.Am Go.RowKit
set_option maxRecDepth 100000
noncomputable def c8:ACode:=match E5.code 8 with|some c=>c|none=>.skip
noncomputable def c21:ACode:=match E5.code 17 with|some c=>c|none=>.skip
theorem fm0:E5.code 8=some c8:=by kernel_rfl
def fj6 : Array Oper := #[{ dst := some 17, op := Op.makeFunc (Fn.func 17) #[] #[Operand.tmp 2, Operand.tmp 3, Operand.tmp 4], type := 1, pos := "parser.go:391", after := #[], guard := none },
  { dst := none, op := Op.defer { callee := Callee.value (Operand.tmp 17), args := #[], argTypes := #[] }, type := 0, pos := "parser.go:391", after := #[{ on := 0, ground := Ground.data }], guard := none }]
theorem fm9:c8.erase= .seq (dv4 0 c8).erase (.seq (dv4 1 c8).erase (.seq (dv4 2 c8).erase (.seq (.region 4 fj6 false) (bz7 4 c8).erase))):=by kernel_rfl
def dcl(u0 u1 u2:Value):Deferred:={target:=.fn (.func 17) #[u0,u1,u2],args:=#[]}
theorem rQ{Q:Exit→Act→World→Prop}{a:Act}{w:World}(hs:a.tmps.size=31)
 (hQ:Q .normal {tmps:=a.tmps.setIfInBounds 17 (.func (.func 17) #[] #[a.tmps.getD 2 undef,a.tmps.getD 3 undef,a.tmps.getD 4 undef]),defers:=dcl (a.tmps.getD 2 undef) (a.tmps.getD 3 undef) (a.tmps.getD 4 undef)::a.defers} w):
 (Code.region 4 fj6 false).wp Tryz.prog Q a w:=by
 apply wp_region
 simp[fj6,wpOps,go_sem,hs]
 left;left
 simpa[hs,dcl]using hQ
theorem tE{β:Bt}{S D:Pr}{w:World}:∀us:List Value,b7 β S w D (List.replicate us.length .junk) us
 | []=>by simp[b7]
 |u::us=>by
  simp only[List.length_cons,List.replicate_succ,b7]
  exact⟨u,us,rfl,(by simp[den]),tE us⟩
def fg8(a c:Int):List V:=[.ptr 0 0,.ptr 1 0,.ptr 2 0,.ifc 67 (.agg [i64 a,i64 c])]++List.replicate 16 .junk
def H3(x0 x1 x2:V):List (Option Chunk):=[some (.blk [x0]),some (.blk [x1]),some (.blk [x2])]
theorem fn9(a c:Int):aA E5 ca0 lo0 (bz7 1 c21) {fr:=fg8 a c,H:=hp (H3 .junk .junk .junk),nx:=3,rt:=3,me:=17} (KN 0)=some (.l .normal {fr:=List.replicate 20 .junk,H:=hp (H3 g9 (i64 a) (i64 c)),nx:=3,rt:=3,me:=17}):=by kernel_rfl
theorem fl4(a c:Int):Am.Ends E5 (bz7 1 c21) {fr:=fg8 a c,H:=hp (H3 .junk .junk .junk),nx:=3,rt:=3,me:=17} .normal {fr:=List.replicate 20 .junk,H:=hp (H3 g9 (i64 a) (i64 c)),nx:=3,rt:=3,me:=17}:=
 Am.Ends.of hX5 a8 b8 (fn9 a c)
theorem fl9{β:Bt}{S:Pr}{w:World}{a c:Int}{u0 u1 u2 u:Value}(hM:Mem β S (· <3) (hp (H3 .junk .junk .junk)) w)(hG:Glob E5 S w)
 (h0:den β S w (· <3) (.ptr 0 0) u0) (h1:den β S w (· <3) (.ptr 1 0) u1) (h2:den β S w (· <3) (.ptr 2 0) u2) (hv:den β S w (· <3) (.ifc 67 (.agg [i64 a,i64 c])) u):
 CallsD Tryz.prog 17 #[u0,u1,u2] (.panicking [{v:=u,recovered:=false}]) w fun e u' w'=>(∃v,e= .returned v)∧u'= .panicking [{v:=u,recovered:=true}]∧
  ∃β' S',Mem β' S' (· <3) (hp (H3 g9 (i64 a) (i64 c))) w'∧Glob E5 S' w'∧Evo β S w β' S' w'∧nU 3 β β':=by
 refine callsD_of_wpS Tryz.func17 rfl fun c₀ cs hu=>?_
 apply wpS_seq
 apply wpS_region
 simp[wpOpsS,go_sem,recoverD,hu,Tryz.ntmps17,Exit.thenS]
 refine wpS_of_wp ?_
 refine(congrArg (fun c=>Code.wp Tryz.prog c _ _ _) (?_:(bz7 1 c21).erase=_)).mp (wp_mono (fl4 a c β S (· <3) _ w ⟨?_,hM,⟨fun _=>rfl,fun d h=>(by cases h),fun h=>nomatch (show true=false from h)⟩,fun i hi=>hi,hG,fun i hi=>hi⟩) ?_)
 ·kernel_rfl
 ·have e:(#[u0,u1,u2]++((Array.replicate 17 undef).setIfInBounds 3 u).setIfInBounds 0 u).toList=[u0,u1,u2,u]++([undef,undef,u]++List.replicate 13 undef):=by
   simp[List.replicate]
  show b7 β S w (· <3) (fg8 a c) (#[u0,u1,u2]++((Array.replicate 17 undef).setIfInBounds 3 u).setIfInBounds 0 u).toList
  rw[e]
  refine aO ?_ ?_
  ·simp only[b7]
   exact⟨_,_,rfl,h0,_,_,rfl,h1,_,_,rfl,h2,_,_,rfl,hv,rfl⟩
  ·exact tE [undef,undef,u,undef,undef,undef,undef,undef,undef,undef,undef,undef,undef,undef,undef,undef]
 ·intro e' a' w' hp
  obtain⟨rfl,β',S',D',g1,g2,g3,g4,g5⟩:=mQ hp
  have hD:D'=(· <3):=by
   funext i
   exact propext ⟨g1.lt i,g1.rtD i⟩
  subst hD
  refine⟨g1.df.1 rfl,_,?_,_,by simp[results,Tryz.results17,go_sem];rfl,⟨_,rfl⟩,rfl,β',S',g1.mem,g1.gl,g2,g3⟩
  cases c₀;simp_all
theorem be6{E:Env}{c:ACode}{s t:St}(h:Am.Ends E c s .normal t){β:Bt}{S D:Pr}{a:Act}{w:World}(hR:Rel E β S D s a w){rest:Code}{Q:Exit→Act→World→Prop}
 (hQ:∀β' S' D' a' w',Rel E β' S' D' t a' w'→Evo β S w β' S' w'→rest.wp E.P Q a' w'):(Code.seq c.erase rest).wp E.P Q a w:=
 wp_seq (wp_mono (h β S D a w hR) fun e' a' w' hp=>by
  obtain⟨rfl,β',S',D',h1,h2,h3,_,_⟩:=mQ hp
  exact hQ β' S' D' a' w' h1 h2)
def s0(s:ByteArray):St:={fr:=[st s]++List.replicate 30 (.sc undef),H:=hp [],nx:=0,rt:=0,me:=8}
def s1(s:ByteArray):St:={fr:=[st s,.junk,.ptr 0 0,.ptr 1 0,.ptr 2 0]++jk 26,H:=hp (H3 g9 (i64 0) (i64 0)),nx:=3,rt:=0,me:=8}
def s2(rt:Nat)(z:bN):St:={fr:=[.junk,.junk,.ptr 0 0,.ptr 1 0,.ptr 2 0,.ro 4 z.2.2.1 (fun j=>[i64 (z.2.2.2.1 j),i64 (z.2.2.2.2.1 j),st (z.2.2.2.2.2.1 j),i64 (z.2.2.2.2.2.2 j)])]++jk 25,H:=hp (H3 g9 (i64 z.1) (i64 z.2.1)),nx:=3,rt:=rt,me:=8}
theorem st1(s:ByteArray):aA (E6 []) ca0 lo0 (dv4 0 c8) (s0 s) (KN 29)=some (.l .normal (s1 s)):=by kernel_rfl
theorem st2(c:jI→Option bN)(s:ByteArray):aA (E6 []) (ftb 16 aD pG c ca0) lo0 (dv4 1 c8) (s1 s) (KN 60)=(eK aD c (aD s)).bind fun z=>some (.l .normal (s2 0 z)):=by kernel_rfl
theorem st3(a:Int)(T:Nat×(Nat→Int)×(Nat→Int)×(Nat→ByteArray)×(Nat→Int)):aA (E6 []) ca0 lo0 (dv4 2 c8) (s2 0 (a,0,T)) (KN 60)=some (.l .normal (s2 0 (a,0,T))):=by kernel_rfl
def K3(n:Nat)(a c:Int):St:={fr:=.junk:: .junk:: .ptr 0 0:: .ptr 1 0:: .ptr 2 0::List.replicate n .junk,H:=hp (H3 g9 (i64 a) (i64 c)),nx:=3,rt:=3,me:=8}
end Go.Proofs.YtcijknknahbbnaaGreatDoor
/- Parse where it panics: what it returns. -/
namespace Go.Proofs.YtcijknknahbbnaaGreatDoor
open Go Go.Am Go.RowKit
set_option maxRecDepth 100000
theorem cb6{β:Bt}{S D:Pr}{w:World}:∀{l:List V} {us:List Value},l.length=us.length→(∀i,den β S w D (l.getD i .junk) (us.getD i undef))→b7 β S w D l us
 | [],[],_,_=>by simp[b7]
 |v::l,u::us,hl,h=>by
  simp only[b7]
  exact⟨u,us,rfl,by simpa using h 0,cb6 (by simpa using hl) fun i=>by simpa using h (i+1)⟩
theorem oW{β β':Bt}{S S' D D':Pr}{w w':World}{i o n:Nat}{u:Value}(hr:nU n β β')(hi:i<n)(hD:D' i)(h:den β S w D (.ptr i o) u):den β' S' w' D' (.ptr i o) u:=by
 simp only[den]at h⊢
 exact⟨⟨hD,h.1.2⟩,fun b m hb=>h.2 b m (hr i _ hi hb)⟩
theorem wO(ds:List Deferred)(n:Nat)(a c:Int):bg3 (E6 ds) (K3 n a c) [.cell 2 40,.cell 3 3,.cell 4 24] (fun vs=>some (.c (.ret (one1 vs) [])))=some (.c (.ret (.tup [g9,i64 a,i64 c]) [])):=by kernel_rfl
theorem dy4 (q : Nat) (s : ByteArray) (a : Int) (T : Nat × (Nat → Int) × (Nat → Int) × (Nat → ByteArray) × (Nat → Int)) (hz : aK q s = some (a, 0, T)) (e : Int × Int) (hp : cc0 q (a, T) = some e) :
 SC E5 8 [st s] [] (.ret (.tup [g9, i64 e.1, i64 e.2]) []) := by
 refine ⟨⟨_, Tryz.func8, by kernel_rfl, by intro e; exact absurd e (by decide +kernel)⟩, fun β S w us hus hM hG => ?_⟩
 obtain rfl : us = [.string s] := by simpa [b7, den] using hus
 refine calls_of_wp_defers Tryz.func8 rfl ?_
 refine (congrArg (fun c => Code.wp Tryz.prog c _ _ _) (?_ : c8.erase = _)).mp ?_
 ·kernel_rfl
 rw [fm9]
 have R0 : Rel (E6 []) β S (· < 0) (s0 s) { tmps := [Value.string s].toArray ++ Array.replicate (31 - [Value.string s].toArray.size) undef, defers := [] } w := by
  refine ⟨?_, hM, ⟨fun _ => rfl, fun d hd => (by cases hd), fun _ => rfl⟩, fun i hi => hi, ⟨hG.rd, hG.inv⟩, fun i hi => hi⟩
  have e : ([Value.string s].toArray ++ Array.replicate (31 - [Value.string s].toArray.size) undef).toList = [Value.string s] ++ List.replicate 30 undef := by simp
  rw [e]
  refine aO hus ?_
  have := gT (β := β) (S := S) (w := w) (D := (· < 0)) (f := fun _ : Nat => V.sc undef) (g := fun _ => undef) (l := List.range 30) (fun _ _ => by simp [den])
  simpa [List.map_const'] using this
 refine be6 (E := E6 []) (Am.Ends.of (hX6 []) a8 b8 (st1 s)) R0 fun β1 S1 D1 a1 w1 R1 v1 => ?_
 refine be6 (E := E6 []) (Am.Ends.of (hX6 []) (fk (fun x z h => sc6.2 (af9 q x z h)) a8) b8 ((st2 (aK q) s).trans (by
  rw [show eK aD (aK q) (aD s) = aK q s from congrFun (zP (aK q)) s, hz]; rfl))) R1 fun β2 S2 D2 a2 w2 R2 v2 => ?_
 refine be6 (E := E6 []) (Am.Ends.of (hX6 []) a8 b8 (st3 a T)) R2 fun β3 S3 D3 a3 w3 R3 v3 => ?_
 have hsz : a3.tmps.size = 31 := by
  have := m9 R3.fr
  simpa [s2, jk] using this.symm
 have d0 : den β3 S3 w3 D3 (.ptr 0 0) (a3.tmps.getD 2 undef) := by simpa [s2] using dR R3.fr 2
 have d1 : den β3 S3 w3 D3 (.ptr 1 0) (a3.tmps.getD 3 undef) := by simpa [s2] using dR R3.fr 3
 have d2 : den β3 S3 w3 D3 (.ptr 2 0) (a3.tmps.getD 4 undef) := by simpa [s2] using dR R3.fr 4
 have hdf : a3.defers = [] := R3.df.2.2 rfl
 refine wp_seq (rQ hsz ?_)
 show Code.wp Tryz.prog (bz7 4 c8).erase _ _ w3
 rw [hdf]
 have R4 : Rel (E6 [dcl (a3.tmps.getD 2 undef) (a3.tmps.getD 3 undef) (a3.tmps.getD 4 undef)]) β3 S3 D3 (s2 3 (a, 0, T))
  { tmps := a3.tmps.setIfInBounds 17 (.func (.func 17) #[] #[a3.tmps.getD 2 undef, a3.tmps.getD 3 undef, a3.tmps.getD 4 undef]), defers := [dcl (a3.tmps.getD 2 undef) (a3.tmps.getD 3 undef) (a3.tmps.getD 4 undef)] } w3 := by
  refine ⟨?_, R3.mem, ⟨fun h => (nomatch (show true = false from h)), fun d hd => ?_, fun _ => rfl⟩, R3.lt, ⟨R3.gl.rd, R3.gl.inv⟩, fun i hi => ?_⟩
  ·have hfr := R3.fr
   refine cb6 (by simp [s2, jk, hsz]) fun i => ?_
   by_cases h17 : i = 17
   ·subst h17
    simp [s2, jk, den]
   ·have := dR hfr i
    have e : (a3.tmps.setIfInBounds 17 (.func (.func 17) #[] #[a3.tmps.getD 2 undef, a3.tmps.getD 3 undef, a3.tmps.getD 4 undef])).toList.getD i undef = a3.tmps.toList.getD i undef := by
     rw [Array.toList_setIfInBounds, List.getD_eq_getElem?_getD, List.getD_eq_getElem?_getD, List.getElem?_set_ne (fun h => h17 h.symm)]
    rw [e]
    exact this
  ·simp only [List.mem_singleton] at hd
   subst hd
   exact ⟨17, _, rfl, rfl⟩
  ·match i, hi with
   | 0, _ => simp only [den] at d0; exact d0.1.1
   | 1, _ => simp only [den] at d1; exact d1.1.1
   | 2, _ => simp only [den] at d2; exact d2.1.1
 obtain ⟨v, s', hv, hE, x0, x1, x2, y0, y1, l, ef, e0, e1, e2⟩ := ea4 (ds := [dcl (a3.tmps.getD 2 undef) (a3.tmps.getD 3 undef) (a3.tmps.getD 4 undef)]) q _ e hp c8 fm0
 cases hv
 refine wp_mono (hE _ _ _ _ _ R4) fun e' a' w' hpost => ?_
 obtain ⟨β', S', D', q1, q2, q3, q4, q5, q6⟩ := hpost.ex
 cases e' <;> simp only [ExR] at q1
 obtain ⟨u, rfl, g1, g2⟩ := q1
 show Leaves _ _ _ _ a'.defers (.panicking _) w'
 rw [show a'.defers = [dcl (a3.tmps.getD 2 undef) (a3.tmps.getD 3 undef) (a3.tmps.getD 4 undef)] from q2.df.2.2 rfl]
 -- the blocks of the results alone
 have M5 : Mem (ofOrder β' [0, 1, 2]) S' (· < 3) (Am.hp (H3 .junk .junk .junk)) w' := by
  have h := q2.mem.renum (order := [0, 1, 2]) (by decide)
  refine Mem.le h (en8 ?_)
  simp only [keep, List.map_cons, List.map_nil, e0, e1, e2, Option.map_some, Chunk.ren, H3, ab8]
  exact ⟨ChLe.blk (LeL.cons (Le.junk _) LeL.nil), ChLe.blk (LeL.cons (Le.junk _) LeL.nil), ChLe.blk (LeL.cons (Le.junk _) LeL.nil), trivial⟩
 have r5 : nU 3 β3 (ofOrder β' [0, 1, 2]) := by
  intro i bm hi hb
  refine q4 i bm hi ?_
  match i, hi, hb with
  | 0, _, hb => exact hb
  | 1, _, hb => exact hb
  | 2, _, hb => exact hb
 have v5 : Evo β3 S3 w3 (ofOrder β' [0, 1, 2]) S' w' := q3.trans ⟨rfl, rfl, rfl, Nat.le_refl _, fun _ _ _ => rfl, fun _ h => h, fun _ h => .inl h, fun i b m hb h0 => by
  obtain ⟨j, _, hj⟩ := m5 hb
  exact .inr ⟨j, m, h0, hj⟩⟩
 have k0 := oW r5 (show 0 < 3 by decide) (show (· < 3) 0 by decide) d0 (S' := S') (w' := w') (D' := (· < 3))
 have k1 := oW r5 (show 1 < 3 by decide) (show (· < 3) 1 by decide) d1 (S' := S') (w' := w') (D' := (· < 3))
 have k2 := oW r5 (show 2 < 3 by decide) (show (· < 3) 2 by decide) d2 (S' := S') (w' := w') (D' := (· < 3))
 have hv5 : den (ofOrder β' [0, 1, 2]) S' w' (· < 3) (.ifc 67 (.agg [i64 e.1, i64 e.2])) u := m8 (fun _ h => h) (fun _ _ => rfl) _ _ g1 g2
 refine leaves_cons (f := 17) (args := #[a3.tmps.getD 2 undef, a3.tmps.getD 3 undef, a3.tmps.getD 4 undef]) (by simp) (by
  have hcal := (cd5 #[a3.tmps.getD 2 undef, a3.tmps.getD 3 undef, a3.tmps.getD 4 undef] w' rfl).1
  simp only [invoke, Array.append_empty]
  exact hcal) ((fl9 M5 ⟨q2.gl.rd, q2.gl.inv⟩ k0 k1 k2 hv5).mono ?_)
 rintro e5 u5 w5 ⟨⟨vv, rfl⟩, rfl, β6, S6, M6, G6, v6, r6⟩
 show Leaves _ _ _ _ [] .returning w5
 -- the results are read
 have t2 := dR q2.fr 2
 have t3 := dR q2.fr 3
 have t4 := dR q2.fr 4
 rw [ef] at t2 t3 t4
 have r6' : nU 3 β' β6 := by
  intro i bm hi hb
  have hb := r6 i bm hi hb
  match i, hi, hb with
  | 0, _, hb => exact hb
  | 1, _, hb => exact hb
  | 2, _, hb => exact hb
 have R7 : Rel (E6 []) β6 S6 (· < 3) (K3 l.length e.1 e.2) { a' with defers := [] } w5 := by
  refine ⟨cb6 ?_ fun i => ?_, M6, ⟨fun _ => rfl, fun d hd => (by cases hd), fun _ => rfl⟩, fun i hi => hi, ⟨G6.rd, G6.inv⟩, fun i hi => hi⟩
  ·have := m9 q2.fr
   rw [ef] at this
   simpa [K3] using this
  ·match i with
   | 0 => simp [K3, den]
   | 1 => simp [K3, den]
   | 2 => exact oW r6' (show 0 < 3 by decide) (show (· < 3) 0 by decide) t2
   | 3 => exact oW r6' (show 1 < 3 by decide) (show (· < 3) 1 by decide) t3
   | 4 => exact oW r6' (show 2 < 3 by decide) (show (· < 3) 2 by decide) t4
   | i + 5 =>
    have e : (K3 l.length e.1 e.2).fr.getD (i + 5) V.junk = .junk := by
     simp only [K3, List.getD_eq_getElem?_getD, List.getElem?_cons_succ, List.getElem?_replicate]
     split <;> rfl
    rw [e]
    simp [den]
 obtain ⟨vs, h3, h4⟩ := af7 _ (wO [] l.length e.1 e.2)
 simp only [Option.some.injEq, Ans.c.injEq, CRes.ret.injEq, and_true] at h3
 obtain ⟨rs, g3, g4⟩ := h4 β6 S6 (· < 3) { a' with defers := [] } w5 R7
 refine ⟨(if h : rs.toArray.size = 1 then rs.toArray[0] else .tuple rs.toArray), ?_, ?_⟩
 ·rw [bf2, Sem.run_bind]
  have hrun : ((#[.cell 2 40, .cell 3 3, .cell 4 24] : Array ResultVar).mapM (de9 a'.tmps)).run Tryz.prog w5 = .ok rs.toArray w5 := by
   rw [Array.mapM_eq_mapM_toList, Sem.run_map]
   have g3' : (List.mapM (de9 a'.tmps) [ResultVar.cell 2 40, .cell 3 3, .cell 4 24]).run Tryz.prog w5 = .ok rs w5 := g3
   rw [show (#[ResultVar.cell 2 40, .cell 3 3, .cell 4 24]).toList = [.cell 2 40, .cell 3 3, .cell 4 24] from rfl, g3']
   rfl
  exact (congrArg (fun r => Result.andThen r _) hrun).trans rfl
 ·have hd := cs1 g4
  rw [h3] at hd
  have M8 := M6.renum (order := []) (by decide)
  refine ⟨_, _, S6, rfl, M8, m8 (fun _ h => h) (fun _ _ => rfl) _ _ (by simp [V.pure, j7]) hd, (((v1.trans v2).trans v3).trans v5).trans (v6.trans ⟨rfl, rfl, rfl, Nat.le_refl _, fun _ _ _ => rfl, fun _ h => h, fun _ h => .inl h, fun i b m hb h0 => by
   obtain ⟨j, _, hj⟩ := m5 hb
   exact .inr ⟨j, m, h0, hj⟩⟩), fun i bm _ hb => ?_⟩
  obtain ⟨j, hj, _⟩ := m5 hb
  cases hj
end Go.Proofs.YtcijknknahbbnaaGreatDoor
/- Parse reads as the plain parser reads. -/
namespace Go.Proofs.YtcijknknahbbnaaGreatDoor
open Go Go.Am Go.Proofs.Lx
set_option maxRecDepth 100000
abbrev AcP:Type:=(Nat→ByteArray)×(Nat→Nat)×(Nat→Nat→List V)×(Nat→Int)×(Nat→Int)×(Nat→ByteArray)×(Nat→Nat)×(Nat→Nat→List V)×Nat
def cy7(l:List Prc)(a:AcP):Prop:=a.2.2.2.2.2.2.2.2=l.length∧∀j c,l[j]? =some c→a.1 j=c.x∧a.2.1 j=c.ps.length∧(∀i m,c.ps[i]? =some m→a.2.2.1 j i=[st m.x,st m.u])∧RepN c.b (a.2.2.2.1 j,a.2.2.2.2.1 j,a.2.2.2.2.2.1 j,a.2.2.2.2.2.2.1 j,a.2.2.2.2.2.2.2.1 j)
abbrev ey1:Type:=ByteArray×Nat×(Nat→ByteArray)×(Nat→ByteArray)×mI
def ew6(z:ey1):AcP:=(fun _=>z.1,fun _=>z.2.1,fun _ i=>[st (z.2.2.1 i),st (z.2.2.2.1 i)],fun _=>z.2.2.2.2.1,fun _=>z.2.2.2.2.2.1,fun _=>z.2.2.2.2.2.2.1,fun _=>z.2.2.2.2.2.2.2.1,fun _=>z.2.2.2.2.2.2.2.2,1)
theorem cv7{c:Prc}{z:ey1}(h:fk4 c z):cy7 [c] (ew6 z):=by
 refine⟨rfl,fun j c' e=>?_⟩
 cases j with
 |zero=>
  simp only[List.getElem?_cons_zero,Option.some.injEq]at e;subst e
  obtain⟨h1,⟨h2,h3⟩,h4⟩:=h
  exact⟨h1,h2,fun i m e=>by obtain⟨g1,g2⟩:=h3 i m e;simp only at g1 g2;simp only[ew6,g1,g2],h4⟩
 |succ j=>simp at e
def dw5(a:AcP)(z:ey1):AcP:=(fun j=>if j<a.2.2.2.2.2.2.2.2 then a.1 j else z.1,fun j=>if j<a.2.2.2.2.2.2.2.2 then a.2.1 j else z.2.1,fun j i=>if j<a.2.2.2.2.2.2.2.2 then a.2.2.1 j i else[st (z.2.2.1 i),st (z.2.2.2.1 i)],fun j=>if j<a.2.2.2.2.2.2.2.2 then a.2.2.2.1 j else z.2.2.2.2.1,fun j=>if j<a.2.2.2.2.2.2.2.2 then a.2.2.2.2.1 j else z.2.2.2.2.2.1,fun j=>if j<a.2.2.2.2.2.2.2.2 then a.2.2.2.2.2.1 j else z.2.2.2.2.2.2.1,fun j=>if j<a.2.2.2.2.2.2.2.2 then a.2.2.2.2.2.2.1 j else z.2.2.2.2.2.2.2.1,fun j i=>if j<a.2.2.2.2.2.2.2.2 then a.2.2.2.2.2.2.2.1 j i else z.2.2.2.2.2.2.2.2 i,a.2.2.2.2.2.2.2.2+1)
theorem cm7{l:List Prc}{a:AcP}{c:Prc}{z:ey1}(h:cy7 l a)(g:fk4 c z):cy7 (l++[c]) (dw5 a z):=by
 refine⟨by simp[dw5,h.1],fun j c' e=>?_⟩
 by_cases hj:j<l.length
 ·rw[List.getElem?_append_left hj]at e
  have:=h.2 j c' e
  simp only[dw5,h.1,hj,if_true]
  exact this
 ·rw[List.getElem?_append_right (by omega)]at e
  simp only[dw5,h.1,hj,if_false]
  cases hk:j-l.length with
  |zero=>
   rw[hk]at e;simp only[List.getElem?_cons_zero,Option.some.injEq]at e;subst e
   obtain⟨h1,⟨h2,h3⟩,h4⟩:=g
   exact⟨h1,h2,fun i m e=>by obtain⟨g1,g2⟩:=h3 i m e;simp only at g1 g2;simp only[g1,g2],h4⟩
  |succ n=>rw[hk]at e;simp at e
def x00(N:Nat)(T:Nat→Tkn):StT:=(0,0,N,(fun j=>(T j).k),(fun j=>(T j).a),(fun j=>(T j).t),(fun j=>(T j).n),0,(fun _=>ByteArray.empty),0,(fun _=>ByteArray.empty))
theorem bw9{N:Nat}{T:Nat→Tkn}(hT:TokN N T):RS N T [] ⟨0,0,[]⟩ (x00 N T):=⟨_,_,rfl,fun j b e=>by simp at e,fun j b e=>by simp at e,hT.pos,Nat.zero_le _,by simp,by simp⟩
def aj9(N:Nat)(T:Nat→Tkn):Nat×(Nat→Int)×(Nat→Int)×(Nat→ByteArray)×(Nat→Int):=(N,(fun j=>(T j).k),(fun j=>(T j).a),(fun j=>(T j).t),(fun j=>(T j).n))
theorem cw2{N:Nat}{T:Nat→Tkn}(hT:TokN N T)(q:Nat):tC q (0,0,aj9 N T)=some ((T 0).k,(T 0).a,(T 0).t,(T 0).n,0,0,aj9 N T):=by
 unfold tC aa5
 have:=hT.pos
 refine(if_pos ?_).trans rfl
 show(0:Int)≤0∧(0:Int)< ((N:Nat):Int)
 omega
theorem cx2{N:Nat}{T:Nat→Tkn}{pr:List ByteArray}{s:PS}{x:StT}(q:Nat)(h:RS N T pr s x):next q (x.1,x.2.1,x.2.2.1,x.2.2.2.1,x.2.2.2.2.1,x.2.2.2.2.2.1,x.2.2.2.2.2.2.1,x.2.2.2.2.2.2.2.1,x.2.2.2.2.2.2.2.2.1,x.2.2.2.2.2.2.2.2.2.1,x.2.2.2.2.2.2.2.2.2.2)=some ((T s.p).k,(T s.p).a,(T s.p).t,(T s.p).n,x):=dG q h
section
variable {N:Nat} {T:Nat→Tkn}
def spT(a0 e0:Int)(x:StT)(a:AcP):=(a.1,a.2.1,a.2.2.1,a.2.2.2.1,a.2.2.2.2.1,a.2.2.2.2.2.1,a.2.2.2.2.2.2.1,a.2.2.2.2.2.2.2.1,a0,e0,x.2.2.1,x.2.2.2.1,x.2.2.2.2.1,x.2.2.2.2.2.1,x.2.2.2.2.2.2.1,x.1,x.2.1,x.2.2.2.2.2.2.2.1,x.2.2.2.2.2.2.2.2.2.1,x.2.2.2.2.2.2.2.2.1,x.2.2.2.2.2.2.2.2.2.2,a.2.2.2.2.2.2.2.2)
def BPT(T:Nat→Tkn)(N:Nat)(a0 e0:Int)(acc:List Prc):PR (List Prc)→iX→Prop
 | .ok l s,.inr (.inl _)=>acc++l=[]
 | .ok l s,.inr (.inr (.inr z))=>∃a:AcP,z=(a.2.2.2.2.2.2.2.2,a.1,a.2.1,a.2.2.1,a.2.2.2.1,a.2.2.2.2.1,a.2.2.2.2.2.1,a.2.2.2.2.2.2.1,a.2.2.2.2.2.2.2.1,a0,e0)∧cy7 (acc++l) a
 | .err p c,.inl e=>p<N∧e.1=(T p).a∧e.2.1=c
 | .err p c,.inr (.inr (.inl e))=>p<N∧e.1=(T p).a∧e.2.1=c
 |_,_=>False
def PST(N:Nat)(T:Nat→Tkn)(a0 e0:Int)(acc:List Prc)(pr:List ByteArray)(s:PS)(x:StT):aM→Prop
 | .inl y=>acc=[]∧pr=[]∧s=⟨0,0,[]⟩∧x=x00 N T∧y=(a0,e0,aj9 N T)
 | .inr y=>∃a,y=spT a0 e0 x a∧cy7 acc a
theorem cq5(hT:TokN N T)(a0 e0:Int){F q:Nat}(hF:F≤1000000000)(hq:2*F+2000000100≤q)(x0:cR):∀(g:Nat),g≤F→∀(m:Nat),g<m→∀(acc:List Prc) (pr:List ByteArray) (s:PS) (x:StT) (y:aM),PST N T a0 e0 acc pr s x y→acc.length+g≤1000000000→pr.length+g≤1000000000→RS N T pr s x→i7 T g pr s≠ .out→
 Rs (tD (aK q) (tC q) (next q) (t7 q) (aC q) m x0 y) (BPT T N a0 e0 acc (i7 T g pr s)):=by
 intro g
 induction g with
 |zero=>intro _ m _ acc pr s x y _ _ _ _ ho;rw[i7]at ho;exact absurd rfl ho
 |succ g ih=>
  intro hg m hm acc pr s x y hy hb hb2 h ho
  obtain⟨m,rfl⟩:∃k,m=k+1:=⟨m-1,by omega⟩
  unfold tD
  refine Rs.step3 fun Q hQ=>?_
  have hop:i7 T (g+1) pr s=if(T s.p).k=0 then .ok [] s else(kR T g pr s).bind fun x s1=>(i7 T g (pr++[x.x]) s1).bind fun l s2=>.ok (x::l) s2:=by rw[i7]
  rcases y with y|y
  ·obtain⟨rfl,rfl,rfl,rfl,rfl⟩:=hy
   rw[Sum.elim_inl]
   unfold fY
   dsimp only
   rw[cw2 hT]
   dsimp only[Option.bind_some]
   by_cases hk:(T 0).k=0
   ·rw[if_pos hk]at hop
    refine Rs.neg (by simp[hk]) (Rs.some ?_)
    show BPT T N a0 e0 [] (i7 T (g+1) [] ⟨0,0,[]⟩) _
    rw[hop]
    rfl
   ·rw[if_neg hk]at hop
    refine Rs.pos (by simpa using hk) ?_
    have hp:=nY (f:=g) (q:=q) hT (by omega) (by omega) (bw9 hT) (by simp) (PR.bind_out (hop▸ho))
    refine Rs.bind (f:=_) (show Rs (t7 q (0,0,aj9 N T)) _ from hp) fun z hz=>?_
    cases hr:kR T g [] ⟨0,0,[]⟩with
    |out=>rw[hr]at hz;rcases z with z|z<;>exact hz.elim
    |err p c=>
     rw[hr]at hz hop
     rcases z with z|z
     ·exact hz.elim
     ·refine Rs.some ?_
      show BPT T N a0 e0 [] (i7 T (g+1) [] ⟨0,0,[]⟩) _
      rw[hop]
      exact⟨hz.1,by rw[hz.2],by rw[hz.2]⟩
    |ok c s2=>
     rw[hr]at hz hop
     dsimp only[PR.bind]at hop
     rcases z with z|z
     ·obtain⟨zc,zx⟩:=hz
      refine Rs.some (hQ _ ?_)
      have ho2:=PR.bind_out (hop▸ho)
      refine(ih (by omega) m (by omega) [c] ([]++[c.x]) s2 _ (.inr (spT a0 e0 z.2.2.2.2.2.2.2.2.2 (ew6 (z.1,z.2.1,z.2.2.1,z.2.2.2.1,z.2.2.2.2.1,z.2.2.2.2.2.1,z.2.2.2.2.2.2.1,z.2.2.2.2.2.2.2.1,z.2.2.2.2.2.2.2.2.1)))) ⟨_,rfl,cv7 zc⟩ (by simp;omega) (by simp;omega) zx ho2).mono fun z hz=>?_
      rw[hop]
      cases hr2:i7 T g ([]++[c.x]) s2 with
      |out=>exact absurd hr2 ho2
      |err p c=>rw[hr2]at hz;rcases z with z|z|z|z<;>exact hz
      |ok l s3=>
       rw[hr2]at hz
       rcases z with z|z|z|z
       ·exact hz.elim
       ·exact absurd (show[c]++l=[]from hz) (by simp)
       ·exact hz.elim
       ·exact hz
     ·exact hz.elim
  ·obtain⟨a,rfl,ha⟩:=hy
   have hal:=ha.1
   rw[Sum.elim_inr]
   unfold fW
   dsimp only[spT]
   rw[cx2 q h]
   dsimp only[Option.bind_some]
   by_cases hk:(T s.p).k=0
   ·rw[if_pos hk]at hop
    refine Rs.neg (by simp[hk]) (Rs.some ?_)
    show BPT T N a0 e0 acc (i7 T (g+1) pr s) _
    rw[hop]
    exact⟨a,rfl,by rw[List.append_nil];exact ha⟩
   ·rw[if_neg hk]at hop
    refine Rs.pos (by simpa using hk) ?_
    have hp:=nY (f:=g) (q:=q) hT (by omega) (by omega) h (by omega) (PR.bind_out (hop▸ho))
    refine Rs.bind hp fun z hz=>?_
    cases hr:kR T g pr s with
    |out=>rw[hr]at hz;rcases z with z|z<;>exact hz.elim
    |err p c=>
     rw[hr]at hz hop
     rcases z with z|z
     ·exact hz.elim
     ·refine Rs.some ?_
      show BPT T N a0 e0 acc (i7 T (g+1) pr s) _
      rw[hop]
      exact⟨hz.1,by rw[hz.2],by rw[hz.2]⟩
    |ok c s2=>
     rw[hr]at hz hop
     dsimp only[PR.bind]at hop
     rcases z with z|z
     ·obtain⟨zc,zx⟩:=hz
      refine Rs.pos ⟨by unfold d9;omega,by unfold maxLen;omega,Nat.le_refl _⟩ (Rs.some (hQ _ ?_))
      have ho2:=PR.bind_out (hop▸ho)
      refine(ih (by omega) m (by omega) (acc++[c]) (pr++[c.x]) s2 _ (.inr (spT a0 e0 z.2.2.2.2.2.2.2.2.2 (dw5 a (z.1,z.2.1,z.2.2.1,z.2.2.2.1,z.2.2.2.2.1,z.2.2.2.2.2.1,z.2.2.2.2.2.2.1,z.2.2.2.2.2.2.2.1,z.2.2.2.2.2.2.2.2.1)))) ⟨_,rfl,cm7 ha zc⟩ (by simp;omega) (by simp;omega) zx ho2).mono fun z hz=>?_
      rw[hop]
      cases hr2:i7 T g (pr++[c.x]) s2 with
      |out=>exact absurd hr2 ho2
      |err p c=>rw[hr2]at hz;rcases z with z|z|z|z<;>exact hz
      |ok l s3=>
       rw[hr2]at hz
       rcases z with z|z|z|z
       ·exact hz.elim
       ·exact absurd (show(acc++[c])++l=[]from hz) (by simp)
       ·exact hz.elim
       ·obtain⟨a2,e1,e2⟩:=hz
        exact⟨a2,e1,by simpa using e2⟩
     ·exact hz.elim
end
end Go.Proofs.YtcijknknahbbnaaGreatDoor
/- Parse reads as the plain parser reads. -/
namespace Go.Proofs.YtcijknknahbbnaaGreatDoor
open Go Go.Am Go.Proofs.Lx
set_option maxRecDepth 100000
section
variable {N:Nat} {T:Nat→Tkn}
def spP(x:StT)(a:AcP):=(a.1,a.2.1,a.2.2.1,a.2.2.2.1,a.2.2.2.2.1,a.2.2.2.2.2.1,a.2.2.2.2.2.2.1,a.2.2.2.2.2.2.2.1,x.2.2.1,x.2.2.2.1,x.2.2.2.2.1,x.2.2.2.2.2.1,x.2.2.2.2.2.2.1,x.1,x.2.1,x.2.2.2.2.2.2.2.1,x.2.2.2.2.2.2.2.2.2.1,x.2.2.2.2.2.2.2.2.1,x.2.2.2.2.2.2.2.2.2.2,a.2.2.2.2.2.2.2.2)
def BPP(T:Nat→Tkn)(N:Nat)(acc:List Prc):PR (List Prc)→iS→Prop
 | .ok l s,.inr (.inl _)=>acc++l=[]
 | .ok l s,.inr (.inr (.inr z))=>True
 | .err p c,.inl e=>p<N∧e.1=(T p).a∧e.2=c
 | .err p c,.inr (.inr (.inl e))=>p<N∧e.1=(T p).a∧e.2.1=c
 |_,_=>False
def PSP(N:Nat)(T:Nat→Tkn)(acc:List Prc)(pr:List ByteArray)(s:PS)(x:StT):aQ→Prop
 | .inl y=>acc=[]∧pr=[]∧s=⟨0,0,[]⟩∧x=x00 N T∧y=()
 | .inr y=>∃a,y=spP x a∧cy7 acc a
theorem cm1(hT:TokN N T){F q:Nat}(hF:F≤1000000000)(hq:2*F+2000000100≤q)(x0:bD)(hx0:x0.2=aj9 N T):∀(g:Nat),g≤F→∀(m:Nat),g<m→∀(acc:List Prc) (pr:List ByteArray) (s:PS) (x:StT) (y:aQ),PSP N T acc pr s x y→acc.length+g≤1000000000→pr.length+g≤1000000000→RS N T pr s x→i7 T g pr s≠ .out→
 Rs (oV (tC q) (next q) (t7 q) (aC q) m x0 y) (BPP T N acc (i7 T g pr s)):=by
 intro g
 induction g with
 |zero=>intro _ m _ acc pr s x y _ _ _ _ ho;rw[i7]at ho;exact absurd rfl ho
 |succ g ih=>
  intro hg m hm acc pr s x y hy hb hb2 h ho
  obtain⟨m,rfl⟩:∃k,m=k+1:=⟨m-1,by omega⟩
  unfold oV
  refine Rs.step3 fun Q hQ=>?_
  have hop:i7 T (g+1) pr s=if(T s.p).k=0 then .ok [] s else(kR T g pr s).bind fun x s1=>(i7 T g (pr++[x.x]) s1).bind fun l s2=>.ok (x::l) s2:=by rw[i7]
  rcases y with y|y
  ·obtain⟨rfl,rfl,rfl,rfl,rfl⟩:=hy
   rw[Sum.elim_inl]
   unfold fR
   rw[hx0]
   rw[cw2 hT]
   dsimp only[Option.bind_some]
   by_cases hk:(T 0).k=0
   ·rw[if_pos hk]at hop
    refine Rs.neg (by simp[hk]) (Rs.some ?_)
    show BPP T N [] (i7 T (g+1) [] ⟨0,0,[]⟩) _
    rw[hop]
    rfl
   ·rw[if_neg hk]at hop
    refine Rs.pos (by simpa using hk) ?_
    have hp:=nY (f:=g) (q:=q) hT (by omega) (by omega) (bw9 hT) (by simp) (PR.bind_out (hop▸ho))
    refine Rs.bind (f:=_) (show Rs (t7 q (0,0,aj9 N T)) _ from hp) fun z hz=>?_
    cases hr:kR T g [] ⟨0,0,[]⟩with
    |out=>rw[hr]at hz;rcases z with z|z<;>exact hz.elim
    |err p c=>
     rw[hr]at hz hop
     rcases z with z|z
     ·exact hz.elim
     ·refine Rs.some ?_
      show BPP T N [] (i7 T (g+1) [] ⟨0,0,[]⟩) _
      rw[hop]
      exact⟨hz.1,by rw[hz.2],by rw[hz.2]⟩
    |ok c s2=>
     rw[hr]at hz hop
     dsimp only[PR.bind]at hop
     rcases z with z|z
     ·obtain⟨zc,zx⟩:=hz
      refine Rs.some (hQ _ ?_)
      have ho2:=PR.bind_out (hop▸ho)
      refine(ih (by omega) m (by omega) [c] ([]++[c.x]) s2 _ (.inr (spP z.2.2.2.2.2.2.2.2.2 (ew6 (z.1,z.2.1,z.2.2.1,z.2.2.2.1,z.2.2.2.2.1,z.2.2.2.2.2.1,z.2.2.2.2.2.2.1,z.2.2.2.2.2.2.2.1,z.2.2.2.2.2.2.2.2.1)))) ⟨_,rfl,cv7 zc⟩ (by simp;omega) (by simp;omega) zx ho2).mono fun z hz=>?_
      rw[hop]
      cases hr2:i7 T g ([]++[c.x]) s2 with
      |out=>exact absurd hr2 ho2
      |err p c=>rw[hr2]at hz;rcases z with z|z|z|z<;>exact hz
      |ok l s3=>
       rw[hr2]at hz
       rcases z with z|z|z|z
       ·exact hz.elim
       ·exact absurd (show[c]++l=[]from hz) (by simp)
       ·exact hz.elim
       ·trivial
     ·exact hz.elim
  ·obtain⟨a,rfl,ha⟩:=hy
   have hal:=ha.1
   rw[Sum.elim_inr]
   unfold fX
   dsimp only[spP]
   rw[cx2 q h]
   dsimp only[Option.bind_some]
   by_cases hk:(T s.p).k=0
   ·rw[if_pos hk]at hop
    refine Rs.neg (by simp[hk]) (Rs.some ?_)
    show BPP T N acc (i7 T (g+1) pr s) _
    rw[hop]
    trivial
   ·rw[if_neg hk]at hop
    refine Rs.pos (by simpa using hk) ?_
    have hp:=nY (f:=g) (q:=q) hT (by omega) (by omega) h (by omega) (PR.bind_out (hop▸ho))
    refine Rs.bind hp fun z hz=>?_
    cases hr:kR T g pr s with
    |out=>rw[hr]at hz;rcases z with z|z<;>exact hz.elim
    |err p c=>
     rw[hr]at hz hop
     rcases z with z|z
     ·exact hz.elim
     ·refine Rs.some ?_
      show BPP T N acc (i7 T (g+1) pr s) _
      rw[hop]
      exact⟨hz.1,by rw[hz.2],by rw[hz.2]⟩
    |ok c s2=>
     rw[hr]at hz hop
     dsimp only[PR.bind]at hop
     rcases z with z|z
     ·obtain⟨zc,zx⟩:=hz
      refine Rs.pos ⟨by unfold d9;omega,by unfold maxLen;omega,Nat.le_refl _⟩ (Rs.some (hQ _ ?_))
      have ho2:=PR.bind_out (hop▸ho)
      refine(ih (by omega) m (by omega) (acc++[c]) (pr++[c.x]) s2 _ (.inr (spP z.2.2.2.2.2.2.2.2.2 (dw5 a (z.1,z.2.1,z.2.2.1,z.2.2.2.1,z.2.2.2.2.1,z.2.2.2.2.2.1,z.2.2.2.2.2.2.1,z.2.2.2.2.2.2.2.1,z.2.2.2.2.2.2.2.2.1)))) ⟨_,rfl,cm7 ha zc⟩ (by simp;omega) (by simp;omega) zx ho2).mono fun z hz=>?_
      rw[hop]
      cases hr2:i7 T g (pr++[c.x]) s2 with
      |out=>exact absurd hr2 ho2
      |err p c=>rw[hr2]at hz;rcases z with z|z|z|z<;>exact hz
      |ok l s3=>
       rw[hr2]at hz
       rcases z with z|z|z|z
       ·exact hz.elim
       ·exact absurd (show(acc++[c])++l=[]from hz) (by simp)
       ·exact hz.elim
       ·trivial
     ·exact hz.elim
end
end Go.Proofs.YtcijknknahbbnaaGreatDoor
/- Trees, procedures as values; what Parse returns. -/
namespace Go.Proofs.YtcijknknahbbnaaGreatDoor
open Go Go.Am Go.Proofs.Lx
set_option maxRecDepth 100000
def dfl:List V:=[i64 0,i64 0,st ⟨#[]⟩,.ro 4 0 (fun _=>[])]
mutual
def nQ:Tr→List V
 | .node k n s l=>[i64 k,i64 n,st s,.ro 4 l.length (fun j=>(sI l).getD j dfl)]
def sI:List Tr→List (List V)
 | []=>[]
 |t::l=>nQ t::sI l
end
def fg3(m:Prm):List V:=[st m.x,st m.u]
def ae9(c:Prc):List V:=st c.x:: .ro 2 c.ps.length (fun j=>(c.ps.map fg3).getD j [st ⟨#[]⟩,st ⟨#[]⟩])::nQ c.b
def fl5:List V:=st ⟨#[]⟩:: .ro 2 0 (fun _=>[])::dfl
def aw5(l:List Prc):V:=.ro 6 l.length (fun j=>(l.map ae9).getD j fl5)
theorem fc2(t:Tr):j7 (nQ t)=true:=by cases t;simp[nQ,j7,V.pure]
theorem el1:∀(l:List Tr) (j:Nat),j7 ((sI l).getD j dfl)=true
 | [],j=>by simp[sI,dfl,j7,V.pure]
 |t::l,0=>by simp only[sI,List.getD_cons_zero];exact fc2 t
 |t::l,j+1=>by simp only[sI,List.getD_cons_succ];exact el1 l j
mutual
theorem leT:∀(t:Tr) (x:mI),RepN t x→LeL [i64 x.1,i64 x.2.1,st x.2.2.1,.ro 4 x.2.2.2.1 x.2.2.2.2] (nQ t)
 | .node k n s l,x,h=>by
  simp only[RepN]at h
  obtain⟨h1,h2,h3,h4,h5⟩:=h
  simp only[nQ,h1,h2,h3,h4]
  refine LeL.cons (Le.refl _) (LeL.cons (Le.refl _) (LeL.cons (Le.refl _) (LeL.cons (Le.ro fun j hj=>⟨?_,el1 l j⟩) LeL.nil)))
  have:=fn1 l x.2.2.2.2 0 h5 j hj
  rwa [Nat.zero_add]at this
theorem fn1:∀(l:List Tr) (f:Nat→List V) (i:Nat),ad2 l f i→∀j,j<l.length→LeL (f (i+j)) ((sI l).getD j dfl)
 | [],_,_,_,j,hj=>by simp at hj
 |t::l,f,i,h,0,_=>by
  simp only[ad2]at h
  obtain⟨⟨y,e,hy⟩,_⟩:=h
  simp only[sI,List.getD_cons_zero,Nat.add_zero]
  rw[e]
  exact leT t y hy
 |t::l,f,i,h,j+1,hj=>by
  simp only[ad2]at h
  have:=fn1 l f (i+1) h.2 j (by simpa using hj)
  simp only[sI,List.getD_cons_succ]
  rwa [show i+(j+1)=i+1+j by omega]
end
theorem fn7(c:Prc):j7 (ae9 c)=true:=by
 have:=fc2 c.b
 simp only[ae9,j7,V.pure,Bool.and_eq_true]
 exact⟨trivial,trivial,this⟩
theorem leP{l:List Prc}{a:AcP}(h:cy7 l a):Le (.ro 6 a.2.2.2.2.2.2.2.2 (fun j=>[st (a.1 j),.ro 2 (a.2.1 j) (a.2.2.1 j),i64 (a.2.2.2.1 j),i64 (a.2.2.2.2.1 j),st (a.2.2.2.2.2.1 j),.ro 4 (a.2.2.2.2.2.2.1 j) (a.2.2.2.2.2.2.2.1 j)])) (aw5 l):=by
 unfold aw5
 rw[h.1]
 refine Le.ro fun j hj=>?_
 have hj':l[j]? =some l[j]:=List.getElem?_eq_getElem hj
 obtain⟨h1,h2,h3,h4⟩:=h.2 j _ hj'
 have e:(l.map ae9).getD j fl5=ae9 l[j]:=by
  rw[List.getD_eq_getElem?_getD,List.getElem?_map,hj'];rfl
 rw[e]
 refine⟨?_,fn7 _⟩
 unfold ae9
 rw[h1,h2]
 refine LeL.cons (Le.refl _) (LeL.cons (Le.ro_eq fun i hi=>?_) (leT _ _ h4))
 have hi':l[j].ps[i]? =some l[j].ps[i]:=List.getElem?_eq_getElem hi
 rw[h3 i _ hi',List.getD_eq_getElem?_getD,List.getElem?_map,hi']
 exact⟨rfl,rfl⟩
theorem dx0{q:Nat}{s:ByteArray}{z:bN}(hz:aK q s=some z)(he:z.2.1≠0):SC E5 8 [st s] [] (.ret (.tup [aw5 [],i64 z.1,i64 z.2.1]) []):=by
 have hp:ae1 q s=some (.inl (z.1,z.2.1)):=by
  unfold ae1 mH
  rw[hz]
  dsimp only[Option.bind_some]
  rw[if_pos (by simpa using he)]
 exact SC.le (as8 q s _ hp) (Le.tup (LeL.cons Le.nil_ro (LeL.cons (Le.refl _) (LeL.cons (Le.refl _) LeL.nil))))
theorem dx9{N:Nat}{T:Nat→Tkn}(hT:TokN N T){F q:Nat}(hF:F≤1000000000)(hq:2*F+2000000100≤q){s:ByteArray}{a:Int}(hz:aK q s=some (a,0,aj9 N T)):
 match i7 T F [] ⟨0,0,[]⟩with
 | .ok l _=>SC E5 8 [st s] [] (.ret (.tup [aw5 l,i64 0,i64 0]) [])
 | .err p c=>p<N∧SC E5 8 [st s] [] (.ret (.tup [aw5 [],i64 (T p).a,i64 c]) [])
 | .out=>True:=by
 cases hr:i7 T F [] ⟨0,0,[]⟩with
 |out=>trivial
 |err p c=>
  obtain⟨z,h1,h2⟩:=cm1 (N:=N) hT hF hq (a,aj9 N T) rfl F (Nat.le_refl _) q (by omega) [] [] ⟨0,0,[]⟩ (x00 N T) (.inl ()) ⟨rfl,rfl,rfl,rfl,rfl⟩ (by simpa using hF) (by simpa using hF) (bw9 hT) (by rw[hr];intro h;cases h)
  rw[hr]at h2
  have key:∃e:Int×Int,cc0 q (a,aj9 N T)=some e∧p<N∧e=((T p).a,c):=by
   unfold cc0 qE
   rw[h1]
   dsimp only[Option.bind_some]
   rcases z with z|z|z|z
   ·obtain⟨g1,g2,g3⟩:=h2
    exact⟨z,rfl,g1,Prod.ext g2 g3⟩
   ·exact h2.elim
   ·obtain⟨g1,g2,g3⟩:=h2
    exact⟨(z.1,z.2.1),rfl,g1,Prod.ext g2 g3⟩
   ·exact h2.elim
  obtain⟨e,k1,k2,rfl⟩:=key
  exact⟨k2,SC.le (dy4 q s a (aj9 N T) hz _ k1) (Le.tup (LeL.cons Le.nil_ro (LeL.cons (Le.refl _) (LeL.cons (Le.refl _) LeL.nil))))⟩
 |ok l s2=>
  obtain⟨z,h1,h2⟩:=cq5 (N:=N) hT a 0 hF hq s F (Nat.le_refl _) q (by omega) [] [] ⟨0,0,[]⟩ (x00 N T) (.inl (a,0,aj9 N T)) ⟨rfl,rfl,rfl,rfl,rfl⟩ (by simpa using hF) (by simpa using hF) (bw9 hT) (by rw[hr];intro h;cases h)
  rw[hr]at h2
  rcases z with z|z|z|z
  ·exact h2.elim
  ·have e:l=[]:=by simpa[BPT]using h2
   subst e
   have hp:ae1 q s=some (.inl (0,0)):=by
    unfold ae1 mH
    rw[hz]
    dsimp only[Option.bind_some]
    rw[if_neg (by simp),h1]
    rfl
   exact SC.le (as8 q s _ hp) (Le.tup (LeL.cons Le.nil_ro (LeL.cons (Le.refl _) (LeL.cons (Le.refl _) LeL.nil))))
  ·exact h2.elim
  ·obtain⟨b,rfl,hb⟩:=h2
   rw[List.nil_append]at hb
   have hpt:ae1 q s=some (.inr (b.2.2.2.2.2.2.2.2,b.1,b.2.1,b.2.2.1,b.2.2.2.1,b.2.2.2.2.1,b.2.2.2.2.2.1,b.2.2.2.2.2.2.1,b.2.2.2.2.2.2.2.1)):=by
    unfold ae1 mH
    rw[hz]
    dsimp only[Option.bind_some]
    rw[if_neg (by simp),h1]
    rfl
   have h3:=SC.giveM (L2:=[]) 0 (as8 q s _ hpt) (by rfl) (by simp[V.bw,V.bw2,V.bw1,Am.hp,V.pure,j7])
   simp only[V.bw,V.bw2,V.bw1,Am.hp,List.map_cons,List.map_nil,List.getD_eq_getElem?_getD,List.getElem?_cons_succ,List.getElem?_cons_zero,Option.getD_some,Nat.zero_add,Nat.le_refl,and_self,if_true]at h3
   exact SC.le h3 (Le.tup (LeL.cons (leP hb) (LeL.cons (Le.refl _) (LeL.cons (Le.refl _) LeL.nil))))
end Go.Proofs.YtcijknknahbbnaaGreatDoor
/- The program's tokens: what the plain lexer says; what is true of them. -/
namespace Go.Proofs.YtcijknknahbbnaaGreatDoor
open Go Go.Am Go.Proofs.Lx
set_option maxRecDepth 100000
def cE(x:Tkn):Prop:=(x.k≠3→n6 x.t=0)∧(x.k=1→x.t.size≤12∧∀c∈x.t.data.toList,c≠32)
theorem ci3(s:ByteArray):cE (as7 s):=⟨fun _=>(by decide:n6 ⟨#[]⟩=0),fun h=>absurd h (show¬(0:Int)=1 by decide)⟩
theorem cw9{t:ByteArray}(h:∀c∈t.data.toList,aP c.toNat=true):n6 t=0:=by
 have no:∀(b:UInt8) (l:List UInt8),aP b.toNat=false→t≠⟨(b::l).toArray⟩:=by
  intro b l hb e
  have:=h b (by rw[e];simp)
  rw[hb]at this;cases this
 unfold n6
 rw[if_neg (no 124 [124] (by decide)),if_neg (no 38 [38] (by decide)),if_neg,if_neg,if_neg]
 ·rintro(e|e)
  ·exact no 42 [] (by decide) e
  ·exact no 47 [] (by decide) e
 ·rintro(e|e)
  ·exact no 43 [] (by decide) e
  ·exact no 45 [] (by decide) e
 ·rintro(e|e|e|e|e|e)
  ·exact no 60 [] (by decide) e
  ·exact no 60 [61] (by decide) e
  ·exact no 62 [] (by decide) e
  ·exact no 62 [61] (by decide) e
  ·exact no 61 [61] (by decide) e
  ·exact no 33 [61] (by decide) e
theorem bk5(g:Int→Bool)(s:ByteArray):∀c∈(s.extract 0 (f9 g s.data.toList)).data.toList,g c.toNat=true:=by
 intro b hb
 rw[aI]at hb
 simp only[List.drop_zero,Nat.sub_zero]at hb
 obtain⟨j,hj⟩:=List.mem_iff_getElem?.1 hb
 rw[List.getElem?_take]at hj
 split at hj
 ·rename_i hlt
  obtain⟨c,h1,h2⟩:=au3 g s.data.toList j hlt
  rw[h1]at hj
  cases hj
  exact h2
 ·cases hj
theorem dg5{c:Int}(h:i9 c=true):aP c=true:=by unfold aP;rw[h];simp
theorem dw0{c:UInt8}(h:aP c.toNat=true):c≠32:=by rintro rfl;revert h;decide
theorem bs9{s:ByteArray}{p:Nat}{x:Tkn}(h:af2 s p=(x,0)):cE x:=by
 by_cases h1:o8 ((s.get! p).toNat:Int)=true
 ·rw[aq0 h1]at h
  unfold ah8 at h
  split at h
  ·cases h
  ·rename_i h12
   cases h
   have hw:=bk5 aP (s.extract p s.size)
   refine⟨fun _=>cw9 hw,fun _=>⟨?_,fun c hc=>dw0 (hw c hc)⟩⟩
   have:=uC aP (s.extract p s.size)
   simp only[ByteArray.size_extract]at*
   omega
 ·by_cases h2:i9 ((s.get! p).toNat:Int)=true
  ·rw[bd5 h1 h2]at h
   have hw:=bk5 i9 (s.extract p s.size)
   unfold hO at h
   split at h
   ·cases h
   ·split at h
    ·cases h
    ·cases h
     exact⟨fun _=>cw9 fun c hc=>dg5 (hw c hc),fun h=>absurd h (show¬(2:Int)=1 by decide)⟩
  ·rw[bk8 h1 h2]at h
   unfold eE at h
   split at h
   ·cases h
   ·cases h
    exact⟨fun h=>absurd rfl h,fun h=>absurd h (show¬(3:Int)=1 by decide)⟩
theorem en4{s:ByteArray}{p:Nat}{acc:List Tkn}{r:List Tkn×Nat×Int}(h:Lex s p acc r):(∀x∈acc,cE x)→∀x∈r.1,cE x:=by
 induction h with
 |fin _=>
  intro ha x hx
  rcases List.mem_append.1 hx with h|h
  ·exact ha x h
  ·simp only[List.mem_singleton]at h;subst h;exact ci3 s
 |white _ _ _ ih=>exact ih
 |hash _ _ _ ih=>exact ih
 |tok h1 h2 h3 h4 _ ih=>
  intro ha
  refine ih fun x hx=>?_
  rcases List.mem_append.1 hx with h|h
  ·exact ha x h
  ·simp only[List.mem_singleton]at h;subst h;exact⟨(bs9 h4).1,(bs9 h4).2⟩
 |err _ _ _ _ _=>intro _ x hx;cases hx
def s8(s:ByteArray)(l:List Tkn)(j:Nat):Tkn:=l.getD j (as7 s)
theorem do6{s:ByteArray}{acc:List Tkn}(hs:acc.length≤4000)(hg:∀x∈acc,cE x):TokN (acc.length+1) (s8 s acc):=by
 have he:∀j,s8 s acc j=as7 s∨s8 s acc j∈acc:=by
  intro j
  unfold s8
  rw[List.getD_eq_getElem?_getD]
  cases h:acc[j]?with
  |none=>exact .inl rfl
  |some x=>exact .inr (List.mem_of_getElem? h)
 have hgood:∀j,cE (s8 s acc j):=fun j=>by
  rcases he j with h|h
  ·rw[h];exact ci3 s
  ·exact hg _ h
 have hlast:s8 s acc (acc.length+1-1)=as7 s:=by
  unfold s8
  rw[List.getD_eq_getElem?_getD,List.getElem?_eq_none (by omega)]
  rfl
 exact⟨by omega,by omega,by rw[hlast];rfl,by rw[hlast];rfl,fun j=>(hgood j).1,fun j=>(hgood j).2⟩
theorem ch9(s:ByteArray)(q:Nat)(hq:5000<q):
 (∃z:bN,aK q s=some z∧z.2.1≠0∧z.2.2.1=0∧∃p:Nat,z.1=(p:Int)∧fT s ([],p,z.2.1))∨
 (∃acc:List Tkn,aK q s=some (0,0,aj9 (acc.length+1) (s8 s acc))∧TokN (acc.length+1) (s8 s acc)∧fT s (acc++[as7 s],0,0)):=by
 unfold aK cz0 sT
 by_cases hbig:4000<s.size
 ·refine .inl ⟨(4000,2,0,fun _=>0,fun _=>0,fun _=>ByteArray.empty,fun _=>0),?_,by decide,rfl,4000,rfl,.inl ⟨hbig,rfl⟩⟩
  rw[if_pos (decide_eq_true (show((s.size:Nat):Int)>4000 by omega))]
  rfl
 ·have hs:s.size≤4000:=by omega
  rw[if_neg (fun h=>hbig (by have:=of_decide_eq_true h;omega))]
  obtain⟨z,h1,h2⟩:=eg8 q s hs (by omega) q 0 0 [] (.inl (0,0)) ⟨rfl,rfl⟩ (Nat.zero_le _) (Nat.zero_le _) (by omega) (Bd.refl _ _ _ (Nat.le_refl _)) (Nat.zero_le _) (fun r h=>h)
  rw[h1]
  dsimp only[Option.bind_some]
  rcases z with z|z|z
  ·obtain⟨p,g1,g2,g3⟩:=h2
   exact .inl ⟨_,rfl,g2,rfl,p,g1,.inr ⟨hs,g3⟩⟩
  ·refine .inr ⟨[],?_,do6 (by simp) (by simp),.inr ⟨hs,h2⟩⟩
   rfl
  ·obtain⟨acc,g1,g2,g3,g4⟩:=h2
   have hgood:=en4 g4 (by simp)
   have hN:=do6 (s:=s) (acc:=acc) (by omega) (fun x hx=>hgood x (List.mem_append_left _ hx))
   refine .inr ⟨acc,?_,hN,.inr ⟨hs,g4⟩⟩
   obtain⟨n,k,a,t,v⟩:=z
   dsimp only at g1 g3⊢
   subst g1
   have key:∀j,(if j<acc.length then k j else 0)=(s8 s acc j).k∧(if j<acc.length then a j else((s.size:Nat):Int))=(s8 s acc j).a∧(if j<acc.length then t j else⟨#[]⟩)=(s8 s acc j).t∧(if j<acc.length then v j else 0)=(s8 s acc j).n:=by
    intro j
    unfold s8
    by_cases hj:j<acc.length
    ·have e:=List.getElem?_eq_getElem hj
     obtain⟨k1,k2,k3,k4⟩:=g3 j _ e
     simp only[hj,if_true]
     rw[List.getD_eq_getElem?_getD,e]
     exact⟨k1,k4,k2,k3⟩
    ·simp only[hj,if_false]
     rw[List.getD_eq_getElem?_getD,List.getElem?_eq_none (by omega)]
     exact⟨rfl,rfl,rfl,rfl⟩
   show Option.map bo7 (if _ then some (Sum.inr _)else none)=_
   rw[if_pos ⟨by unfold d9;omega,by unfold maxLen;omega,Nat.le_refl _⟩]
   show some _=some _
   have f1:(fun j=>if j<acc.length then k j else 0)=fun j=>(s8 s acc j).k:=funext fun j=>(key j).1
   have f2:(fun j=>if j<acc.length then a j else((s.size:Nat):Int))=fun j=>(s8 s acc j).a:=funext fun j=>(key j).2.1
   have f3:(fun j=>if j<acc.length then t j else(⟨#[]⟩:ByteArray))=fun j=>(s8 s acc j).t:=funext fun j=>(key j).2.2.1
   have f4:(fun j=>if j<acc.length then v j else 0)=fun j=>(s8 s acc j).n:=funext fun j=>(key j).2.2.2
   unfold aj9
   rw[←f1,←f2,←f3,←f4]
   rfl
theorem bh0(s:ByteArray)(q:Nat)(hq:5000<q):
 (∃z:bN,aK q s=some z∧z.2.1≠0∧∃p:Nat,z.1=(p:Int)∧fT s ([],p,z.2.1))∨
 (∃acc:List Tkn,aK q s=some (0,0,aj9 (acc.length+1) (s8 s acc))∧TokN (acc.length+1) (s8 s acc)∧fT s (acc++[as7 s],0,0)):=
 (ch9 s q hq).imp (fun⟨z,h1,h2,_,h3⟩=>⟨z,h1,h2,h3⟩) id
end Go.Proofs.YtcijknknahbbnaaGreatDoor
/- The plain parser comes to an end. -/
namespace Go.Proofs.YtcijknknahbbnaaGreatDoor
open Go Go.Am Go.Proofs.Lx
set_option maxRecDepth 100000
def Tot{α:Type}(N p:Nat):PR α→Prop
 | .ok _ s=>p≤s.p∧s.p<N
 | .err _ _=>True
 | .out=>False
theorem Tot.bind{α β:Type}{N p p':Nat}{r:PR α}{k:α→PS→PR β}(h:Tot N p r)(hk:∀a s,p≤s.p→s.p<N→Tot N p' (k a s)):Tot N p' (r.bind k):=by
 cases r with
 |ok a s=>exact hk a s h.1 h.2
 |err p c=>trivial
 |out=>exact h.elim
theorem Tot.mono{α:Type}{N p p':Nat}{r:PR α}(h:Tot N p r)(hp:p'≤p):Tot N p' r:=by
 cases r with
 |ok a s=>exact⟨Nat.le_trans hp h.1,h.2⟩
 |err p c=>trivial
 |out=>exact h.elim
theorem Tot.ite{α:Type}{N p:Nat}{c:Prop}[Decidable c]{a b:PR α}(h1:c→Tot N p a)(h2:¬c→Tot N p b):Tot N p (if c then a else b):=by
 by_cases h:c
 ·rw[if_pos h];exact h1 h
 ·rw[if_neg h];exact h2 h
section
variable {N:Nat} {T:Nat→Tkn} {s:PS}
theorem gM(hT:TokN N T)(hp:s.p<N){b:ByteArray}(hb:b≠⟨#[]⟩):Tot N (s.p+1) (n4 T b s):=by
 unfold n4
 exact Tot.ite (fun h=>⟨Nat.le_refl _,hT.lt hp (o9 hb h)⟩) fun _=>trivial
theorem ap4(hT:TokN N T)(hp:s.p<N){b:ByteArray}(hb:b≠⟨#[]⟩):Tot N (s.p+1) (aE T b s):=by
 unfold aE
 exact Tot.ite (fun h=>Tot.ite (fun _=>trivial) fun _=>⟨Nat.le_refl _,hT.lt hp (o9 hb h)⟩) fun _=>trivial
theorem xD(hT:TokN N T)(hp:s.p<N):Tot N (s.p+1) (aB T s):=by
 unfold aB
 refine Tot.ite (fun _=>trivial) fun h=>⟨Nat.le_refl _,hT.lt hp (.inr ?_)⟩
 have:(T s.p).k=1:=by
  by_cases e:(T s.p).k=1
  ·exact e
  ·exact absurd (Or.inl e) h
 rw[this];decide
theorem ba6(hT:TokN N T)(hp:s.p<N)(lo hi:Int):Tot N (s.p+1) (iD T lo hi s):=by
 unfold iD
 refine Tot.ite (fun _=>trivial) fun h=>Tot.ite (fun _=>trivial) fun _=>⟨Nat.le_refl _,hT.lt hp (.inr ?_)⟩
 have:(T s.p).k=2:=Decidable.not_not.1 h
 rw[this];decide
theorem cw4(hT:TokN N T)(hp:s.p<N):Tot N (s.p+1) (jV T s):=by
 unfold jV
 exact(xD hT hp).bind fun a s1 h1 h2=>Tot.ite (fun _=>trivial) fun _=>Tot.ite (fun _=>trivial) fun _=>⟨h1,h2⟩
theorem bb0(hT:TokN N T)(hp:s.p<N):Tot N (s.p+1) (fQ T s):=by
 unfold fQ
 refine(ba6 hT hp _ _).bind fun a s1 h1 h2=>Tot.ite (fun h=>⟨by show s.p+1≤s1.p+1;omega,hT.lt h2 (.inr ?_)⟩) fun _=>⟨h1,h2⟩
 rw[h.1];decide
theorem vZ(hT:TokN N T)(hp:s.p<N){b:ByteArray}(hb:b≠⟨#[]⟩)(h:isP T b s=true):(adv s).p<N:=hT.lt hp (o9 hb h)
end
section
variable {N:Nat} {T:Nat→Tkn}
theorem yQ(hT:TokN N T):∀f,(∀lv s,1≤lv→lv≤8→s.p<N→20*(N-s.p)+10-lv≤f→Tot N s.p (j9 T f lv s))∧
 (∀lv n s,1≤lv→lv≤7→s.p<N→20*(N-s.p)+1≤f→Tot N s.p (dX T f lv n s))∧
 (∀b lv s,b≠⟨#[]⟩→1≤lv→lv≤8→s.p<N→20*(N-s.p)≤f→Tot N s.p (aJ T f b lv s))∧
 (∀s,s.p<N→20*(N-s.p)≤f→Tot N s.p (cD T f s)):=by
 intro f
 induction f with
 |zero=>exact⟨fun lv s _ _ h1 h2=>by omega,fun lv n s _ _ h1 h2=>by omega,fun b lv s _ _ _ h1 h2=>by omega,fun s h1 h2=>by omega⟩
 |succ f ih=>
  obtain⟨i1,i2,i3,i4⟩:=ih
  refine⟨fun lv s l1 l2 hp hf=>?_,fun lv n s l1 l2 hp hf=>?_,fun b lv s hb l1 l2 hp hf=>?_,fun s hp hf=>?_⟩
  ·rw[j9]
   refine Tot.ite (fun h=>i3 kV 3 s (by decide) (by decide) (by decide) hp (by omega)) fun h3=>Tot.ite (fun h=>i3 nS 7 s (by decide) (by decide) (by decide) hp (by omega)) fun h7=>Tot.ite (fun h=>i4 s hp (by omega)) fun h8=>?_
   refine(i1 (lv+1) s (by omega) (by omega) hp (by omega)).bind fun n s1 h1 h2=>?_
   exact(i2 lv n s1 l1 (by omega) h2 (by omega)).mono h1
  ·rw[dX]
   refine Tot.ite (fun h=>?_) fun _=>⟨Nat.le_refl _,hp⟩
   have ha:(adv s).p<N:=hT.lt hp (.inr (by rw[h.2];decide))
   have hap:(adv s).p=s.p+1:=rfl
   refine(i1 (lv+1) (adv s) (by omega) (by omega) ha (by omega)).bind fun m s1 h1 h2=>Tot.ite (fun _=>⟨by omega,h2⟩) fun _=>?_
   exact(i2 lv _ s1 l1 l2 h2 (by omega)).mono (by omega)
  ·rw[aJ]
   refine(ap4 hT hp hb).bind fun _ s1 h1 h2=>(i1 lv s1 l1 l2 h2 (by omega)).bind fun n s2 h3 h4=>⟨?_,h4⟩
   show s.p≤s2.p
   omega
  ·rw[cD]
   refine Tot.ite (fun _=>(bb0 hT hp).mono (by omega)) fun _=>Tot.ite (fun h=>⟨Nat.le_succ _,vZ hT hp (by decide) h⟩) fun _=>Tot.ite (fun h=>⟨Nat.le_succ _,vZ hT hp (by decide) h⟩) fun _=>Tot.ite (fun h=>?_) fun _=>Tot.ite (fun h=>?_) fun _=>(xD hT hp).bind fun x s1 h1 h2=>⟨by omega,h2⟩
   ·have hap:(adv s).p=s.p+1:=rfl
    exact(gM hT (vZ hT hp (by decide) h) (by decide)).bind fun _ s1 h1 h2=>(xD hT h2).bind fun x s2 h3 h4=>⟨by omega,h4⟩
   ·refine(ap4 hT hp (by decide)).bind fun _ s1 h1 h2=>(i1 1 s1 (by decide) (by decide) h2 (by omega)).bind fun n s2 h3 h4=>(gM hT h4 (by decide)).bind fun _ s3 h5 h6=>⟨?_,h6⟩
    show s.p≤s3.p
    omega
end
end Go.Proofs.YtcijknknahbbnaaGreatDoor
/- The plain parser comes to an end (2); what Parse returns, for every source. -/
namespace Go.Proofs.YtcijknknahbbnaaGreatDoor
open Go Go.Am Go.Proofs.Lx
set_option maxRecDepth 100000
section
variable {N:Nat} {T:Nat→Tkn} {s:PS}
theorem es3(hT:TokN N T)(hp:s.p<N)(n:Tr):Tot N s.p (Lx.endP T n s):=(gM hT hp (by decide)).bind fun _ s1 h1 h2=>⟨by omega,h2⟩
theorem eL(hT:TokN N T){r:PR Tr}{p:Nat}(h:Tot N p r):Tot N p (r.bind (Lx.endP T)):=h.bind fun n s1 h1 h2=>(es3 hT h2 n).mono h1
theorem el0(hT:TokN N T){f:Nat}(hp:s.p<N)(hf:20*(N-s.p)+10≤f):Tot N s.p (cs6 T f s):=(cw4 hT hp).bind fun a s1 h1 h2=>(gM hT h2 (by decide)).bind fun _ s2 h3 h4=>((yQ hT f).1 1 s2 (by decide) (by decide) h4 (by omega)).bind fun n s3 h5 h6=>⟨by omega,h6⟩
theorem em2(hT:TokN N T){f:Nat}(hp:s.p<N)(hf:20*(N-s.p)≤f+1):Tot N (s.p+1) (cq3 T f s):=(xD hT hp).bind fun a s1 h1 h2=>(gM hT h2 (by decide)).bind fun _ s2 h3 h4=>((yQ hT f).1 1 s2 (by decide) (by decide) h4 (by omega)).bind fun n s3 h5 h6=>⟨by omega,h6⟩
theorem dg2(hT:TokN N T){f:Nat}(hp:s.p<N)(hf:20*(N-s.p)+10≤f):Tot N s.p (wU T f s):=((yQ hT f).1 1 s (by decide) (by decide) hp (by omega)).bind fun n s1 h1 h2=>(gM hT h2 (by decide)).bind fun _ s2 h3 h4=>(bb0 hT h4).bind fun m s3 h5 h6=>⟨by omega,h6⟩
theorem cm4(hT:TokN N T)(hp:s.p<N)(k:Int):Tot N s.p (cl9 T k s):=(bb0 hT hp).bind fun n s1 h1 h2=>⟨by omega,h2⟩
theorem cm8(hT:TokN N T){f:Nat}(hp:s.p<N)(hf:20*(N-s.p)+10≤f)(k:Int):Tot N s.p (co3 T f k s):=((yQ hT f).1 1 s (by decide) (by decide) hp (by omega)).bind fun n s1 h1 h2=>⟨h1,h2⟩
theorem cw5(hT:TokN N T)(hp:s.p<N)(k hi:Int):Tot N s.p (co8 T k hi s):=(ba6 hT hp 0 hi).bind fun n s1 h1 h2=>⟨by omega,h2⟩
theorem cp8(hT:TokN N T)(hp:s.p<N)(k:Int){b:ByteArray}(hb:b≠⟨#[]⟩):Tot N s.p (cg2 T k b s):=(ba6 hT hp 0 7).bind fun n s1 h1 h2=>(gM hT h2 hb).bind fun _ s2 h3 h4=>(bb0 hT h4).bind fun m s3 h5 h6=>⟨by omega,h6⟩
end
section
variable {N:Nat} {T:Nat→Tkn}
theorem ef4(hT:TokN N T):∀f,(∀s,s.p<N→20*(N-s.p)+12≤f→Tot N (s.p+1) (m4 T f s))∧(∀s,s.p<N→20*(N-s.p)+11≤f→Tot N s.p (n9 T f s))∧(∀s,s.p<N→20*(N-s.p)+10≤f→Tot N (s.p+1) (t8 T f s)):=by
 intro f
 induction f with
 |zero=>exact⟨fun s h1 h2=>by omega,fun s h1 h2=>by omega,fun s h1 h2=>by omega⟩
 |succ f ih=>
  obtain⟨i1,i2,i3⟩:=ih
  refine⟨fun s hp hf=>?_,fun s hp hf=>?_,fun s hp hf=>?_⟩
  ·rw[m4]
   refine(ap4 hT hp (by decide)).bind fun _ s1 h1 h2=>(i2 s1 h2 (by omega)).bind fun l s2 h3 h4=>⟨?_,h4⟩
   show s.p+1≤s2.p
   omega
  ·rw[n9]
   refine Tot.ite (fun h=>⟨Nat.le_succ _,vZ hT hp (by decide) h⟩) fun _=>?_
   exact(i3 s hp (by omega)).bind fun n s1 h1 h2=>(i2 s1 h2 (by omega)).bind fun l s2 h3 h4=>⟨by omega,h4⟩
  ·rw[t8]
   have hap:(adv s).p=s.p+1:=rfl
   have ha:∀{b:ByteArray},b≠⟨#[]⟩→isP T b s=true→(adv s).p<N:=fun hb h=>vZ hT hp hb h
   refine Tot.ite (fun h=>?_) fun _=>?_
   ·rw[db6];have:=ha (by decide) h;exact eL hT (el0 hT this (by omega))
   refine Tot.ite (fun h=>?_) fun _=>?_
   ·have hh:=ha (by decide) h
    refine((yQ hT f).1 1 (adv s) (by decide) (by decide) hh (by omega)).bind fun c s1 h1 h2=>(i1 s1 h2 (by omega)).bind fun y s2 h3 h4=>Tot.ite (fun h=>?_) fun _=>⟨by omega,h4⟩
    have hap2:(adv s2).p=s2.p+1:=rfl
    have h5:(adv s2).p<N:=vZ hT h4 (by decide) h
    exact(i1 (adv s2) h5 (by omega)).bind fun n s3 h6 h7=>⟨by omega,h7⟩
   refine Tot.ite (fun h=>?_) fun _=>?_
   ·have hh:=ha (by decide) h
    exact(ba6 hT hh 1 100).bind fun n s1 h1 h2=>(i1 s1 h2 (by omega)).bind fun y s2 h3 h4=>⟨by omega,h4⟩
   refine Tot.ite (fun h=>?_) fun _=>?_
   ·rw[bj3];have:=ha (by decide) h;exact eL hT (dg2 hT this (by omega))
   refine Tot.ite (fun h=>?_) fun _=>?_
   ·rw[ao0];exact eL hT (cm4 hT (ha (by decide) h) _)
   refine Tot.ite (fun h=>?_) fun _=>?_
   ·rw[ao0];exact eL hT (cm4 hT (ha (by decide) h) _)
   refine Tot.ite (fun h=>?_) fun _=>?_
   ·rw[an5];have:=ha (by decide) h;exact eL hT (cm8 hT this (by omega) _)
   refine Tot.ite (fun h=>?_) fun _=>?_
   ·rw[an5];have:=ha (by decide) h;exact eL hT (cm8 hT this (by omega) _)
   refine Tot.ite (fun h=>?_) fun _=>?_
   ·rw[an9];exact eL hT (cp8 hT (ha (by decide) h) _ (by decide))
   refine Tot.ite (fun h=>?_) fun _=>?_
   ·rw[an9];exact eL hT (cp8 hT (ha (by decide) h) _ (by decide))
   refine Tot.ite (fun h=>?_) fun _=>?_
   ·rw[ar9];exact eL hT (cw5 hT (ha (by decide) h) _ _)
   refine Tot.ite (fun h=>?_) fun _=>?_
   ·rw[ar9];exact eL hT (cw5 hT (ha (by decide) h) _ _)
   rw[dd2]
   exact eL hT (em2 hT hp (by omega))
theorem fb3(hT:TokN N T){s:PS}(hp:s.p<N):Tot N (s.p+1) (at5 T s):=by
 unfold at5
 refine(cw4 hT hp).bind fun x s1 h1 h2=>Tot.ite (fun h=>?_) fun _=>⟨h1,h2⟩
 have h3:s1.p+1<N:=vZ hT h2 (by decide) h
 refine Tot.ite (fun _=>trivial) fun hk=>Tot.ite (fun _=>trivial) fun _=>⟨?_,?_⟩
 ·show s.p+1≤s1.p+1+1
  omega
 ·have hk:(T (s1.p+1)).k=1:=Decidable.not_not.1 hk
  exact hT.lt h3 (.inr (by show(T (s1.p+1)).k≠0;rw[hk];decide))
theorem cv2(hT:TokN N T):∀f s,s.p<N→20*(N-s.p)≤f→Tot N s.p (mJ T f s)
 |0,s,h1,h2=>by omega
 |f+1,s,hp,hf=>by
  rw[mJ]
  refine(fb3 hT hp).bind fun x s1 h1 h2=>Tot.ite (fun h=>?_) fun _=>(gM hT h2 (by decide)).bind fun _ s2 h3 h4=>⟨by omega,h4⟩
  have hap:(adv s1).p=s1.p+1:=rfl
  exact(cv2 hT f (adv s1) (vZ hT h2 (by decide) h) (by omega)).bind fun l s2 h3 h4=>⟨by omega,h4⟩
theorem df6(hT:TokN N T){f:Nat}{s:PS}(hp:s.p<N)(hf:20*(N-s.p)≤f):Tot N s.p (bY T f s):=by
 unfold bY
 refine(gM hT hp (by decide)).bind fun _ s1 h1 h2=>Tot.ite (fun h=>⟨?_,vZ hT h2 (by decide) h⟩) fun _=>(cv2 hT f s1 h2 (by omega)).mono (by omega)
 show s.p≤s1.p+1
 omega
theorem em8(hT:TokN N T){f:Nat}{pr:List ByteArray}{s:PS}(hp:s.p<N)(hf:20*(N-s.p)+12≤f):Tot N (s.p+1) (kR T f pr s):=by
 unfold kR
 refine(gM hT hp (by decide)).bind fun _ s1 h1 h2=>(xD hT h2).bind fun x s2 h3 h4=>Tot.ite (fun _=>trivial) fun _=>?_
 refine(df6 hT (s:={s2 with vs:=[]}) h4 (by show 20*(N-s2.p)≤f;omega)).bind fun l s3 h5 h6=>?_
 have h5:s2.p≤s3.p:=h5
 exact((ef4 hT f).1 s3 h6 (by omega)).bind fun b s4 h7 h8=>⟨by omega,h8⟩
theorem bo6(hT:TokN N T):∀f pr s,s.p<N→20*(N-s.p)+13≤f→Tot N s.p (i7 T f pr s)
 |0,pr,s,h1,h2=>by omega
 |f+1,pr,s,hp,hf=>by
  rw[i7]
  refine Tot.ite (fun _=>⟨Nat.le_refl _,hp⟩) fun _=>(em8 hT hp (by omega)).bind fun x s1 h1 h2=>?_
  exact(bo6 hT f _ s1 h2 (by omega)).bind fun l s2 h3 h4=>⟨by omega,h4⟩
end
def ax2:Nat:=100000
inductive ParseR(s:ByteArray):List Prc×Int×Int→Prop
 |lex (p:Nat) (e:Int):fT s ([],p,e)→e≠0→ParseR s ([],p,e)
 |ok (acc:List Tkn) (l:List Prc) (s':PS):fT s (acc++[as7 s],0,0)→TokN (acc.length+1) (s8 s acc)→i7 (s8 s acc) ax2 [] ⟨0,0,[]⟩= .ok l s'→ParseR s (l,0,0)
 |err (acc:List Tkn) (p:Nat) (c:Int):fT s (acc++[as7 s],0,0)→TokN (acc.length+1) (s8 s acc)→p<acc.length+1→i7 (s8 s acc) ax2 [] ⟨0,0,[]⟩= .err p c→ParseR s ([],(s8 s acc p).a,c)
theorem as4(s:ByteArray):∃r,ParseR s r∧SC E5 8 [st s] [] (.ret (.tup [aw5 r.1,i64 r.2.1,i64 r.2.2]) []):=by
 rcases bh0 s 3000000000 (by decide)with⟨z,h1,h2,p,h3,h4⟩ | ⟨acc,h1,h2,h3⟩
 ·refine⟨([],z.1,z.2.1),?_,dx0 h1 h2⟩
  rw[h3]
  exact .lex p _ h4 h2
 ·have ht:=bo6 h2 ax2 [] ⟨0,0,[]⟩ h2.pos (by have:=h2.big;show 20*(acc.length+1-0)+13≤100000;omega)
  have hr:=dx9 h2 (F:=ax2) (q:=3000000000) (by decide) (by decide) h1
  cases hp:i7 (s8 s acc) ax2 [] ⟨0,0,[]⟩with
  |out=>rw[hp]at ht;exact ht.elim
  |ok l s'=>
   rw[hp]at hr
   exact⟨(l,0,0),.ok acc l s' h3 h2 hp,hr⟩
  |err p c=>
   rw[hp]at hr
   exact⟨([],(s8 s acc p).a,c),.err acc p c h3 h2 hr.1 hp,hr.2⟩
end Go.Proofs.YtcijknknahbbnaaGreatDoor
/- Levels, numbers: what of the printer the plain texts need. -/
namespace Go.Proofs.YtcijknknahbbnaaGreatDoor
open Go Go.Am Go.Proofs.Lx
set_option maxRecDepth 100000
def itS(n:Int):ByteArray:=⟨(Lib.itoa n).toArray⟩
def ek7(u:Nat):List UInt8:=if u=0 then[]else Lib.decDigits u
theorem cq0{n:Int}(h0:0≤n)(h1:n<4000000000):(itS n).size≤10:=by
 have key:∀(k u:Nat),u<10^(k+1)→(Lib.decDigits u).length≤k+1:=by
  intro k
  induction k with
  |zero=>intro u h;rw[Lib.decDigits,dif_pos (by simpa using h)];simp
  |succ k ih=>
   intro u h
   rw[Lib.decDigits]
   split
   ·simp
   ·rw[List.length_append]
    have:=ih (u/10) (by rw[Nat.pow_succ]at h;omega)
    simp only[List.length_cons,List.length_nil];omega
 unfold itS Lib.itoa
 show(Array.size _)≤10
 rw[List.size_toArray,if_neg (by omega)]
 exact key 9 n.toNat (Nat.lt_trans (show n.toNat<4000000000 by omega) (by decide))
def lvT:Tr→Nat
 | .node k _ s _=>if k=20 then n6 s else if k=19 then(if s=kV then 3 else 7)else 8
def fn0:List ByteArray:=[sOr,en1,sLt,sLe,sGt,sGe,sEq,sNe,fk5,nS,ff1,ff3]
theorem cv0:∀s∈fn0,s.size≤2∧(n6 s=1∨n6 s=2∨n6 s=4∨n6 s=5∨n6 s=6):=by decide
end Go.Proofs.YtcijknknahbbnaaGreatDoor
/- Plain: a token is known by its own bytes and the byte behind it; sources joined, moved, cut. -/
namespace Go.Proofs.Lx
open Go
def mkB(l:List UInt8):ByteArray:=⟨l.toArray⟩
theorem ek4(l:List UInt8):(mkB l).size=l.length:=by simp[mkB,ByteArray.size]
theorem bj9(l:List UInt8):(mkB l).data.toList=l:=by simp[mkB]
def es4(D:List UInt8):Tkn×Int:=if 1<D.length∧D[0]? =some 48 then(aw6,11)else if ae8 0 D>2147483647 then(aw6,5)else(⟨2,0,mkB D,ae8 0 D⟩,0)
def dw9(l:List UInt8):Tkn×Int:=
 if o8 (l.headD 0).toNat then(if 12<f9 aP l then(aw6,2)else(⟨1,0,mkB (l.take (f9 aP l)),0⟩,0))
 else if i9 (l.headD 0).toNat then es4 (l.take (f9 i9 l))
 else if xH l=0 then(aw6,11)else(⟨3,0,mkB (l.take (xH l)),0⟩,0)
theorem cd7(s:ByteArray)(p n:Nat)(h:p≤s.size):(s.extract p s.size).extract 0 n=mkB ((s.data.toList.drop p).take n):=da8 (by rw[aI,rB s p h,bj9];simp)
theorem ef0{s:ByteArray}{p:Nat}(hp:p<s.size):s.get! p=(s.data.toList.drop p).headD 0:=by rw[cH s p hp];rfl
theorem dt1(D:List UInt8):hO (mkB D)=es4 D:=by
 unfold hO es4
 rw[ek4,bj9]
theorem fi5{s:ByteArray}{p:Nat}(hp:p<s.size):af2 s p=dw9 (s.data.toList.drop p):=by
 unfold af2 dw9
 rw[ef0 hp,cd7 s p _ (by omega)]
 unfold ah8 eE
 rw[dt1,cd7 s p _ (by omega),cd7 s p _ (by omega),rB s p (by omega)]
end Go.Proofs.Lx
/- Plain: tokens of an expression's text are read as the expression. -/
namespace Go.Proofs.Lx
open Go Go.Proofs.YtcijknknahbbnaaGreatDoor
set_option maxRecDepth 100000
def tkW(s:ByteArray):Tkn:=⟨1,0,s,0⟩
def tkN(n:Int):Tkn:=⟨2,0,itS n,n⟩
def tkY(s:ByteArray):Tkn:=⟨3,0,s,0⟩
def bs3(s:ByteArray):Prop:=s.size≤12∧∃c l,s.data.toList=c::l∧o8 c.toNat=true∧∀b∈c::l,aP b.toNat=true
def y9(lv:Nat)(t:Tr)(l:List Tkn):List Tkn:=if lvT t<lv then tkY fH::(l++[tkY aF])else l
def fe8(lv:Nat)(t:Tr)(x:List UInt8):List UInt8:=if lvT t<lv then 40::(x++[41])else x
def dj9(lv:Nat)(t:Tr)(d:Nat):Nat:=if lvT t<lv then d+1 else d
inductive Pr:Tr→List UInt8→List Tkn→Nat→Prop
 |lit (n:Int):0≤n→n≤2147483647→Pr (.node 15 n ⟨#[]⟩ []) (itS n).data.toList [tkN n] 0
 |qty (n:Int) (s:ByteArray):0≤n→n≤2147483647→s∈bu4→Pr (.node 15 n s []) ((itS n).data.toList++32::s.data.toList) [tkN n,tkW s] 0
 |yes:Pr (.node 16 1 ⟨#[]⟩ []) w_true.data.toList [tkW w_true] 0
 |no:Pr (.node 16 0 ⟨#[]⟩ []) w_false.data.toList [tkW w_false] 0
 |var (s:ByteArray):wO s=false→bs3 s→Pr (.node 17 0 s []) s.data.toList [tkW s] 0
 |tlm (s:ByteArray):wO s=false→bs3 s→Pr (.node 18 0 s []) (116::108::109::46::s.data.toList) [tkW bd0,tkY cl7,tkW s] 0
 |un (s:ByteArray) (a:Tr) (x:List UInt8) (l:List Tkn) (d:Nat):s=kV∨s=nS→Pr a x l d→Pr (.node 19 0 s [a]) (s.data.toList++fe8 (lvT (.node 19 0 s [a])) a x) (tkY s::y9 (lvT (.node 19 0 s [a])) a l) (1+dj9 (lvT (.node 19 0 s [a])) a d)
 |bin (s:ByteArray) (a b:Tr) (x y:List UInt8) (l m:List Tkn) (d e:Nat):s∈fn0→Pr a x l d→Pr b y m e→
  Pr (.node 20 0 s [a,b]) (fe8 (if n6 s=4 then 5 else n6 s) a x++32::(s.data.toList++32::fe8 (n6 s+1) b y)) (y9 (if n6 s=4 then 5 else n6 s) a l++tkY s::y9 (n6 s+1) b m) (max (dj9 (if n6 s=4 then 5 else n6 s) a d) (dj9 (n6 s+1) b e))
def At(T:Nat→Tkn):Nat→List Tkn→Prop
 |_,[]=>True
 |p,x::l=>((T p).k=x.k∧(T p).t=x.t∧(T p).n=x.n)∧At T (p+1) l
theorem At.app{T:Nat→Tkn}:∀{l m:List Tkn} {p:Nat},At T p (l++m)→At T p l∧At T (p+l.length) m
 | [],m,p,h=>⟨trivial,by simpa using h⟩
 |x::l,m,p,h=>by
  obtain⟨h1,h2⟩:=h
  obtain⟨h3,h4⟩:=At.app h2
  exact⟨⟨h1,h3⟩,by rw[List.length_cons,show p+(l.length+1)=p+1+l.length by omega];exact h4⟩
def Ev{α:Type}(f:Nat→PR α)(r:PR α):Prop:=∃f0,∀q,f0≤q→f q=r
theorem Ev.const{α:Type}{r:PR α}:Ev (fun _=>r) r:=⟨0,fun _ _=>rfl⟩
theorem Ev.step{α:Type}{g h:Nat→PR α}{r:PR α}(hs:∀f,g (f+1)=h f)(k:Ev h r):Ev g r:=by
 obtain⟨f0,k⟩:=k
 refine⟨f0+1,fun q hq=>?_⟩
 obtain⟨q,rfl⟩:∃q',q=q'+1:=⟨q-1,by omega⟩
 rw[hs];exact k q (by omega)
theorem Ev.bind{α β:Type}{g:Nat→PR α}{k:Nat→α→PS→PR β}{a:α}{s:PS}{r:PR β}(h:Ev g (.ok a s))(hk:Ev (fun f=>k f a s) r):Ev (fun f=>(g f).bind (k f)) r:=by
 obtain⟨f0,h⟩:=h
 obtain⟨f1,hk⟩:=hk
 refine⟨max f0 f1,fun q hq=>?_⟩
 show(g q).bind (k q)=r
 rw[h q (by omega)]
 exact hk q (by omega)
theorem Ev.det{α:Type}{g:Nat→PR α}{r r':PR α}(h:Ev g r)(h':Ev g r'):r=r':=by
 obtain⟨f0,h⟩:=h
 obtain⟨f1,h'⟩:=h'
 rw[←h (max f0 f1) (by omega),h' (max f0 f1) (by omega)]
theorem Ev.congr{α:Type}{g h:Nat→PR α}{r:PR α}(e:∀f,g f=h f)(k:Ev h r):Ev g r:=by
 obtain⟨f0,k⟩:=k
 exact⟨f0,fun q hq=>by rw[e];exact k q hq⟩
section
variable {T:Nat→Tkn}
def Ex(T:Nat→Tkn)(lv:Nat)(s:PS)(t:Tr)(s':PS):Prop:=Ev (fun f=>j9 T f lv s) (.ok t s')
def Ops(T:Nat→Tkn)(lv:Nat)(n:Tr)(s:PS)(t:Tr)(s':PS):Prop:=Ev (fun f=>dX T f lv n s) (.ok t s')
def go(s:PS)(k:Nat):PS:={s with p:=s.p+k}
theorem mO{lv:Nat}{n:Tr}{s:PS}(h:¬(n6 (T s.p).t=lv∧(T s.p).k=3)):Ops T lv n s n s:=by
 refine Ev.step (h:=fun _=>.ok n s) (fun f=>?_) Ev.const
 rw[dX,if_neg h]
theorem fh7{lv:Nat}{n m u:Tr}{s s1 s2:PS}(h:n6 (T s.p).t=lv∧(T s.p).k=3)(h4:lv≠4)(hm:Ex T (lv+1) (adv s) m s1)(hu:Ops T lv (.node 20 0 (T s.p).t [n,m]) s1 u s2):Ops T lv n s u s2:=by
 refine Ev.step (h:=fun f=>(j9 T f (lv+1) (adv s)).bind fun m s'=>if lv=4 then .ok (.node 20 0 (T s.p).t [n,m]) s' else dX T f lv (.node 20 0 (T s.p).t [n,m]) s') (fun f=>?_) (Ev.bind hm ?_)
 ·rw[dX,if_pos h]
 ·exact Ev.congr (fun f=>if_neg h4) hu
theorem fa0{n m:Tr}{s s1:PS}(h:n6 (T s.p).t=4∧(T s.p).k=3)(hm:Ex T 5 (adv s) m s1):Ops T 4 n s (.node 20 0 (T s.p).t [n,m]) s1:=by
 refine Ev.step (h:=fun f=>(j9 T f 5 (adv s)).bind fun m s'=>if 4=4 then .ok (.node 20 0 (T s.p).t [n,m]) s' else dX T f 4 (.node 20 0 (T s.p).t [n,m]) s') (fun f=>?_) (Ev.bind hm ?_)
 ·rw[dX,if_pos h]
 ·exact Ev.congr (fun f=>if_pos rfl) Ev.const
theorem cf1{lv:Nat}{n u:Tr}{s s1 s2:PS}(h3:¬(lv=3∧isP T kV s=true))(h7:¬(lv=7∧isP T nS s=true))(h8:lv≠8)(hn:Ex T (lv+1) s n s1)(hu:Ops T lv n s1 u s2):Ex T lv s u s2:=by
 refine Ev.step (h:=fun f=>(j9 T f (lv+1) s).bind fun n s'=>dX T f lv n s') (fun f=>?_) (Ev.bind hn hu)
 rw[j9,if_neg h3,if_neg h7,if_neg h8]
theorem ch3(x:ByteArray):n6 x≠3∧n6 x≠7∧n6 x≤6:=by
 unfold n6
 split
 ·decide
 ·split
  ·decide
  ·split
   ·decide
   ·split
    ·decide
    ·split<;>decide
theorem dp2{lv:Nat}{n u:Tr}{s s2:PS}(h:¬(n6 (T s.p).t=lv∧(T s.p).k=3))(hu:Ops T lv n s u s2):u=n∧s2=s:=by
 have:=Ev.det hu (mO h)
 cases this
 exact⟨rfl,rfl⟩
def Fol(lv:Nat)(x:Tkn):Prop:=(x.k=3→n6 x.t≤lv∧(lv=4→n6 x.t≠4))∧¬(x.k=1∧kS x.t=true)
theorem er5{lv lv':Nat}{x:Tkn}(h:Fol lv x)(h1:lv≤lv')(h4:lv'≠4):Fol lv' x:=⟨fun g=>⟨Nat.le_trans (h.1 g).1 h1,fun e=>absurd e h4⟩,h.2⟩
theorem en2{s s':PS}{t:Tr}:∀(k lv lv':Nat),lv+k+1=lv'→lv'≤8→(∀j,lv≤j→j<lv'→¬(j=3∧isP T kV s=true)∧¬(j=7∧isP T nS s=true))→Ex T lv' s t s'→Fol lv (T s'.p)→∀u s2,Ops T lv t s' u s2→Ex T lv s u s2
 |0,lv,lv',e,h8,hj,hx,hF,u,s2,hu=>by
  subst e
  exact cf1 (hj lv (Nat.le_refl _) (by omega)).1 (hj lv (Nat.le_refl _) (by omega)).2 (by omega) hx hu
 |k+1,lv,lv',e,h8,hj,hx,hF,u,s2,hu=>by
  have hF1:¬(n6 (T s'.p).t=lv+1∧(T s'.p).k=3):=fun h=>by have:=hF.1 h.2;omega
  have hF':Fol (lv+1) (T s'.p):=⟨fun h=>by have:=hF.1 h;omega,hF.2⟩
  have:=en2 (s:=s) (s':=s') (t:=t) k (lv+1) lv' (by omega) h8 (fun j h1 h2=>hj j (by omega) h2) hx hF' t s' (mO hF1)
  exact cf1 (hj lv (Nat.le_refl _) (by omega)).1 (hj lv (Nat.le_refl _) (by omega)).2 (by omega) this hu
theorem vF{s s':PS}{t:Tr}(h:Ev (fun f=>cD T f s) (.ok t s')):Ex T 8 s t s':=by
 refine Ev.step (fun f=>?_) h
 rw[j9,if_neg (by simp),if_neg (by simp),if_pos rfl]
theorem fm6{s s1:PS}{w:ByteArray}{a:Tr}{lv:Nat}(hw:(w=kV∧lv=3)∨(w=nS∧lv=7))(hi:(T s.p).t=w)(ho:s.o<12)(ha:Ex T lv {s with p:=s.p+1,o:=s.o+1} a s1):Ex T lv s (.node 19 0 w [a]) (cM s1):=by
 have hip:isP T w s=true:=decide_eq_true hi
 refine Ev.step (h:=fun f=>aJ T f w lv s) (fun f=>?_) ?_
 ·rcases hw with⟨rfl,rfl⟩ | ⟨rfl,rfl⟩
  ·rw[j9,if_pos ⟨rfl,hip⟩]
  ·rw[j9,if_neg (by simp),if_pos ⟨rfl,hip⟩]
 ·refine Ev.step (h:=fun f=>(aE T w s).bind fun _ s1=>(j9 T f lv s1).bind fun n s2=>.ok (.node 19 0 w [n]) (cM s2)) (fun f=>by rw[aJ]) ?_
  have:aE T w s= .ok () {s with p:=s.p+1,o:=s.o+1}:=by
   unfold aE
   rw[if_pos hip,if_neg (by omega)]
  refine Ev.bind (g:=fun _=>aE T w s) (by rw[this];exact Ev.const) ?_
  exact Ev.bind ha Ev.const
theorem ee3{s s1:PS}{a:Tr}(hk:(T s.p).k=3)(hi:(T s.p).t=fH)(ho:s.o<12)(ha:Ex T 1 {s with p:=s.p+1,o:=s.o+1} a s1)(hr:(T s1.p).t=aF):Ex T 8 s a (cM (adv s1)):=by
 refine vF (Ev.step (h:=fun f=>(aE T fH s).bind fun _ s1=>(j9 T f 1 s1).bind fun n s2=>(n4 T aF s2).bind fun _ s3=>.ok n (cM s3)) (fun f=>?_) ?_)
 ·rw[cD,if_neg (by rw[hk];decide),if_neg (by unfold isP;rw[hi];decide),if_neg (by unfold isP;rw[hi];decide),if_neg (by unfold isP;rw[hi];decide),if_pos (by unfold isP;rw[hi];decide)]
 ·have:aE T fH s= .ok () {s with p:=s.p+1,o:=s.o+1}:=by
   unfold aE isP
   rw[hi,if_pos (by decide),if_neg (by omega)]
  refine Ev.bind (g:=fun _=>aE T fH s) (by rw[this];exact Ev.const) (Ev.bind ha ?_)
  have:n4 T aF s1= .ok () (adv s1):=by
   unfold n4 isP
   rw[hr,if_pos (by decide)]
  exact Ev.bind (g:=fun _=>n4 T aF s1) (by rw[this];exact Ev.const) Ev.const
theorem do5{t:Tr}{x:List UInt8}{l:List Tkn}{d:Nat}(h:Pr t x l d):1≤lvT t∧lvT t≤8:=by
 have leaf:∀k n s l,k≠20→k≠19→1≤lvT (.node k n s l)∧lvT (.node k n s l)≤8:=by
  intro k n s l h1 h2
  show 1≤(if k=20 then n6 s else if k=19 then(if s=kV then 3 else 7)else 8)∧(if k=20 then n6 s else if k=19 then(if s=kV then 3 else 7)else 8)≤8
  rw[if_neg h1,if_neg h2]
  decide
 cases h with
 |un s a x l d hs _=>
  rcases hs with rfl|rfl
  ·show 1≤3∧3≤8;decide
  ·show 1≤7∧7≤8;decide
 |bin s a b x y l m d e hs _ _=>
  have:=(cv0 s hs).2
  show 1≤n6 s∧n6 s≤8
  omega
 |_=>exact leaf _ _ _ _ (by decide) (by decide)
theorem bw3{s:ByteArray}(h:bs3 s):s≠kV∧s≠nS∧s≠fH:=by
 obtain⟨_,c,l,e,h1,_⟩:=h
 refine⟨?_,?_,?_⟩<;>(rintro rfl;simp at e;obtain⟨rfl,_⟩:=e;exact absurd h1 (by decide))
theorem en5{n:Int}(h0:0≤n):∀c l,(itS n).data.toList=c::l→48≤c.toNat∧c.toNat≤57:=by
 intro c l h
 have key:∀(k u:Nat),u<k→∀b∈Lib.decDigits u,48≤b.toNat∧b.toNat≤57:=by
  intro k
  induction k with
  |zero=>intro u h;omega
  |succ k ih=>
   intro u hu b hb
   rw[Lib.decDigits]at hb
   split at hb
   ·obtain rfl:=List.mem_singleton.1 hb
    rename_i h10
    have:(UInt8.ofNat (48+u)).toNat=48+u:=by rw[UInt8.toNat_ofNat'];omega
    omega
   ·rename_i h10
    rw[List.mem_append]at hb
    rcases hb with hb|hb
    ·exact ih (u/10) (by omega) b hb
    ·obtain rfl:=List.mem_singleton.1 hb
     have:u%10<10:=Nat.mod_lt _ (by decide)
     have:(UInt8.ofNat (48+u%10)).toNat=48+u%10:=by rw[UInt8.toNat_ofNat'];omega
     omega
 unfold itS Lib.itoa at h
 rw[if_neg (by omega)]at h
 exact key (n.toNat+1) n.toNat (by omega) c (by simp at h;rw[h];simp)
theorem rP{n:Int}(h0:0≤n):itS n≠kV∧itS n≠nS:=by
 refine⟨fun e=>?_,fun e=>?_⟩
 ·have:=en5 h0 33 [] (by rw[e]);exact absurd this.1 (by decide)
 ·have:=en5 h0 45 [] (by rw[e]);exact absurd this.1 (by decide)
theorem dq3 {t : Tr} {x : List UInt8} {l : List Tkn} {d : Nat} (h : Pr t x l d) : ∃ y m, l = y :: m ∧ (4 ≤ lvT t → y.t ≠ kV) ∧ (8 ≤ lvT t → y.t ≠ nS) := by
  have p1 : ∀ {lv : Nat} {a : Tr} {l : List Tkn}, (∃ y m, l = y :: m ∧ (4 ≤ lvT a → y.t ≠ kV) ∧ (8 ≤ lvT a → y.t ≠ nS)) → ∃ y m, y9 lv a l = y :: m ∧ (4 ≤ lv → y.t ≠ kV) ∧ (8 ≤ lv → y.t ≠ nS) := by
    rintro lv a l ⟨y, m, rfl, h1, h2⟩
    unfold y9
    split
    · exact ⟨_, _, rfl, fun _ => by decide, fun _ => by decide⟩
    · exact ⟨_, _, rfl, fun h => h1 (by omega), fun h => h2 (by omega)⟩
  induction h with
  | lit n h0 _ => exact ⟨_, _, rfl, fun _ => (rP h0).1, fun _ => (rP h0).2⟩
  | qty n s h0 _ _ => exact ⟨_, _, rfl, fun _ => (rP h0).1, fun _ => (rP h0).2⟩
  | yes => exact ⟨_, _, rfl, fun _ => by decide, fun _ => by decide⟩
  | no => exact ⟨_, _, rfl, fun _ => by decide, fun _ => by decide⟩
  | var s _ hw => exact ⟨_, _, rfl, fun _ => (bw3 hw).1, fun _ => (bw3 hw).2.1⟩
  | tlm s _ hw => exact ⟨_, _, rfl, fun _ => by decide, fun _ => by decide⟩
  | un s a x l d hs _ _ => rcases hs with rfl | rfl
                           · exact ⟨_, _, rfl, fun h => absurd h (by show ¬ 4 ≤ 3; decide), fun h => absurd h (by show ¬ 8 ≤ 3; decide)⟩
                           · exact ⟨_, _, rfl, fun _ => by show nS ≠ kV; decide, fun h => absurd h (by show ¬ 8 ≤ 7; decide)⟩
  | bin s a b x y l m d e hs _ _ ih1 _ =>
    obtain ⟨z, k, e1, h1, h2⟩ := p1 (lv := if n6 s = 4 then 5 else n6 s) ih1
    refine ⟨z, k ++ tkY s :: y9 (n6 s + 1) b m, by rw [e1]; rfl, fun h => h1 ?_, fun h => ?_⟩
    · have h : 4 ≤ n6 s := h
      split <;> omega
    · have h : 8 ≤ n6 s := h
      have := ch3 s
      omega
theorem fe5{s:ByteArray}(h:wO s=false):s≠w_true∧s≠w_false∧s≠bd0:=by
 refine⟨?_,?_,?_⟩<;>(rintro rfl;exact absurd h (by decide))
theorem lR{s s':PS}{t:Tr}{lv:Nat}(h1:1≤lv)(h7:lv≤7)(hx:Ex T 8 s t s')(hn:(T s.p).t≠kV)(hm:(T s.p).t≠nS)(hF:Fol lv (T s'.p)):∀u s2,Ops T lv t s' u s2→Ex T lv s u s2:=
 en2 (7-lv) lv 8 (by omega) (Nat.le_refl _) (fun j _ _=>⟨fun h=>hn (of_decide_eq_true h.2),fun h=>hm (of_decide_eq_true h.2)⟩) hx hF
theorem eb3{t:Tr}{x:List UInt8}{l:List Tkn}{d:Nat}(h:Pr t x l d):∀(s:PS) (lv:Nat),1≤lv→lv≤7→lv≤lvT t→At T s.p l→s.o+d≤12→Fol lv (T (s.p+l.length))→∀u s2,Ops T lv t (go s l.length) u s2→Ex T lv s u s2:=by
 have full:∀{a:Tr} {x:List UInt8} {m:List Tkn} {e:Nat},Pr a x m e→(∀(s:PS) (lv:Nat),1≤lv→lv≤7→lv≤lvT a→At T s.p m→s.o+e≤12→Fol lv (T (s.p+m.length))→∀u s2,Ops T lv a (go s m.length) u s2→Ex T lv s u s2)→
  ∀(s:PS) (lv:Nat),1≤lv→lv≤7→At T s.p (y9 lv a m)→s.o+dj9 lv a e≤12→Fol lv (T (s.p+(y9 lv a m).length))→∀u s2,Ops T lv a (go s (y9 lv a m).length) u s2→Ex T lv s u s2:=by
  intro a x m e hP hc s lv h1 h7 hA hd hF u s2 hu
  unfold y9 at hA hF hu
  unfold dj9 at hd
  by_cases hl:lvT a<lv
  ·rw[if_pos hl]at hA hF hu hd
   obtain⟨⟨k1,k2,_⟩,hA⟩:=hA
   obtain⟨hA,⟨_,k5,_⟩,_⟩:=hA.app
   have hin:Ex T 1 {s with p:=s.p+1,o:=s.o+1} a (go {s with p:=s.p+1,o:=s.o+1} m.length):=by
    have hno:¬(n6 (T (s.p+1+m.length)).t=1∧(T (s.p+1+m.length)).k=3):=by rw[k5];exact fun h=>absurd h.1 (by decide)
    refine hc {s with p:=s.p+1,o:=s.o+1} 1 (Nat.le_refl _) (by decide) (do5 hP).1 hA (by show s.o+1+e≤12;omega) ⟨fun _=>?_,fun h=>?_⟩ a _ (mO hno)
    ·show n6 (T (s.p+1+m.length)).t≤1∧_
     rw[k5];exact⟨by decide,fun h=>absurd h (by decide)⟩
    ·have h:(T (s.p+1+m.length)).k=1∧kS (T (s.p+1+m.length)).t=true:=h
     rw[k5]at h;exact absurd h.2 (by decide)
   have hp:=ee3 k1 k2 (by omega) hin k5
   have e1:cM (adv (go {s with p:=s.p+1,o:=s.o+1} m.length))=go s (tkY fH::(m++[tkY aF])).length:=by
    simp only[cM,adv,go,List.length_cons,List.length_append,List.length_nil]
    congr 1<;>omega
   rw[e1]at hp
   exact lR h1 h7 hp (by rw[k2];decide) (by rw[k2];decide) hF u s2 hu
  ·rw[if_neg hl]at hA hF hu hd
   exact hc s lv h1 h7 (by omega) hA hd hF u s2 hu
 have lit0:∀(s:PS) (n:Int),(T s.p).k=2→(T s.p).n=n→0≤n→n≤2147483647→iD T 0 2147483647 s= .ok n (adv s):=by
  intro s n k1 k2 h0 h1
  unfold iD
  rw[k1,k2,if_neg (by decide),if_neg (by omega)]
 induction h with
 |lit n h0 h1=>
  intro s lv g1 g7 _ hA hd hF
  obtain⟨⟨k1,k2,k3⟩,_⟩:=hA
  have k1:(T s.p).k=2:=k1
  refine lR g1 g7 (vF ?_) (by rw[k2];exact(rP h0).1) (by rw[k2];exact(rP h0).2) hF
  refine Ev.step (h:=fun _=>fQ T s) (fun f=>by rw[cD,if_pos k1]) ?_
  have:fQ T s= .ok (.node 15 n ⟨#[]⟩ []) (go s 1):=by
   unfold fQ
   rw[lit0 s n k1 k3 h0 h1]
   exact if_neg hF.2
  rw[this];exact Ev.const
 |qty n y h0 h1 hy=>
  intro s lv g1 g7 _ hA hd hF
  obtain⟨⟨k1,k2,k3⟩,⟨k4,k5,_⟩,_⟩:=hA
  have k1:(T s.p).k=2:=k1
  have k4:(T (s.p+1)).k=1:=k4
  have k5:(T (s.p+1)).t=y:=k5
  refine lR g1 g7 (vF ?_) (by rw[k2];exact(rP h0).1) (by rw[k2];exact(rP h0).2) hF
  refine Ev.step (h:=fun _=>fQ T s) (fun f=>by rw[cD,if_pos k1]) ?_
  have:fQ T s= .ok (.node 15 n y []) (go s 2):=by
   unfold fQ
   rw[lit0 s n k1 k3 h0 h1]
   show(if(T (s.p+1)).k=1∧kS (T (s.p+1)).t=true then PR.ok (Tr.node 15 n (T (s.p+1)).t []) (adv (adv s))else _)=_
   rw[k5,if_pos ⟨k4,inP_iff.2 hy⟩]
   rfl
  rw[this];exact Ev.const
 |yes=>
  intro s lv g1 g7 _ hA hd hF
  obtain⟨⟨k1,k2,k3⟩,_⟩:=hA
  refine lR g1 g7 (vF ?_) (by rw[k2];decide) (by rw[k2];decide) hF
  refine Ev.step (h:=fun _=>.ok (.node 16 1 ⟨#[]⟩ []) (adv s)) (fun f=>?_) Ev.const
  rw[cD,if_neg (by rw[k1];decide),if_pos (by unfold isP;rw[k2];decide)]
 |no=>
  intro s lv g1 g7 _ hA hd hF
  obtain⟨⟨k1,k2,k3⟩,_⟩:=hA
  refine lR g1 g7 (vF ?_) (by rw[k2];decide) (by rw[k2];decide) hF
  refine Ev.step (h:=fun _=>.ok (.node 16 0 ⟨#[]⟩ []) (adv s)) (fun f=>?_) Ev.const
  rw[cD,if_neg (by rw[k1];decide),if_neg (by unfold isP;rw[k2];decide),if_pos (by unfold isP;rw[k2];decide)]
 |var y hr hw=>
  intro s lv g1 g7 _ hA hd hF
  obtain⟨⟨k1,k2,k3⟩,_⟩:=hA
  have k1:(T s.p).k=1:=k1
  have k2:(T s.p).t=y:=k2
  obtain⟨r1,r2,r3⟩:=fe5 hr
  obtain⟨w1,w2,w3⟩:=bw3 hw
  refine lR g1 g7 (vF ?_) (by rw[k2];exact w1) (by rw[k2];exact w2) hF
  refine Ev.step (h:=fun _=>.ok (.node 17 0 y []) (adv s)) (fun f=>?_) Ev.const
  have hn:aB T s= .ok y (adv s):=by
   unfold aB
   rw[k1,k2,hr,if_neg (by decide)]
  rw[cD,if_neg (by rw[k1];decide),if_neg (by unfold isP;rw[k2];simpa using r1),if_neg (by unfold isP;rw[k2];simpa using r2),if_neg (by unfold isP;rw[k2];simpa using r3),if_neg (by unfold isP;rw[k2];simpa using w3),hn]
  rfl
 |tlm y hr hw=>
  intro s lv g1 g7 _ hA hd hF
  obtain⟨⟨k1,k2,k3⟩,⟨k4,k5,k6⟩,⟨k7,k8,k9⟩,_⟩:=hA
  have k7:(T (s.p+1+1)).k=1:=k7
  have k8:(T (s.p+1+1)).t=y:=k8
  have k5:(T (s.p+1)).t=cl7:=k5
  refine lR g1 g7 (vF ?_) (by rw[k2];decide) (by rw[k2];decide) hF
  refine Ev.step (h:=fun _=>.ok (.node 18 0 y []) (go s 3)) (fun f=>?_) Ev.const
  have hm:n4 T cl7 (adv s)= .ok () (adv (adv s)):=by
   unfold n4
   exact if_pos (decide_eq_true k5)
  have hn:aB T (adv (adv s))= .ok y (adv (adv (adv s))):=by
   unfold aB
   show(if(T (s.p+1+1)).k≠1∨wO (T (s.p+1+1)).t=true then PR.err _ 11 else PR.ok (T (s.p+1+1)).t _)=_
   rw[k7,k8,hr,if_neg (by decide)]
  rw[cD,if_neg (by rw[k1];decide),if_neg (by unfold isP;rw[k2];decide),if_neg (by unfold isP;rw[k2];decide),if_pos (by unfold isP;rw[k2];decide),hm]
  show(aB T (adv (adv s))).bind _=_
  rw[hn]
  rfl
 |un y a x l d hs hP ih=>
  intro s lv g1 g7 gl hA hd hF u s2 hu
  obtain⟨⟨k1,k2,k3⟩,hA⟩:=hA
  have k2:(T s.p).t=y:=k2
  generalize hL:lvT (.node 19 0 y [a])=L at*
  have hcase:(y=kV∧L=3)∨(y=nS∧L=7):=by
   rcases hs with rfl|rfl
   ·exact .inl ⟨rfl,hL.symm⟩
   ·exact .inr ⟨rfl,hL.symm⟩
  have hL37:L=3∨L=7:=by omega
  have hFp:T (s.p+(tkY y::y9 L a l).length)=T (s.p+1+(y9 L a l).length):=by rw[List.length_cons,show s.p+((y9 L a l).length+1)=s.p+1+(y9 L a l).length by omega]
  rw[hFp]at hF
  have hno:∀p,¬(n6 (T p).t=L∧(T p).k=3):=fun p h=>by have:=ch3 (T p).t;omega
  have ha:=full hP ih {s with p:=s.p+1,o:=s.o+1} L (by omega) (by omega) hA (by show s.o+1+dj9 L a d≤12;omega) (er5 hF (by omega) (by omega)) a _ (mO (hno _))
  have hx:=fm6 hcase k2 (by omega) ha
  have e1:cM (go {s with p:=s.p+1,o:=s.o+1} (y9 L a l).length)=go s (tkY y::y9 L a l).length:=by
   simp only[cM,go,List.length_cons]
   congr 1<;>omega
  rw[e1]at hx
  rcases Nat.lt_or_ge lv L with hlt|hge
  ·refine en2 (L-lv-1) lv L (by omega) (by omega) (fun j j1 j2=>⟨fun h=>?_,fun h=>by omega⟩) hx (by show Fol lv (T (s.p+(tkY y::y9 L a l).length));rw[hFp];exact hF) u s2 hu
   have:=of_decide_eq_true h.2
   rw[k2]at this
   rcases hcase with⟨rfl,rfl⟩ | ⟨rfl,rfl⟩
   ·omega
   ·exact absurd this (by decide)
  ·obtain rfl:lv=L:=by omega
   obtain⟨rfl,rfl⟩:=dp2 (hno _) hu
   exact hx
 |bin y a b x1 x2 l m d e hs hP1 hP2 ih1 ih2=>
  intro s lv g1 g7 gl hA hd hF u s2 hu
  have gl:lv≤n6 y:=gl
  obtain⟨hA1,⟨k1,k2,k3⟩,hA2⟩:=hA.app
  have k2:(T (s.p+(y9 (if n6 y=4 then 5 else n6 y) a l).length)).t=y:=k2
  have hL:=(cv0 y hs).2
  generalize hla:(if n6 y=4 then 5 else n6 y)=la at*
  generalize hLe:n6 y=L at*
  have hlen:∀p,p+(y9 la a l++tkY y::y9 (L+1) b m).length=p+(y9 la a l).length+1+(y9 (L+1) b m).length:=by intro p;rw[List.length_append,List.length_cons];omega
  rw[hlen]at hF
  have hst:n6 (T (go s (y9 la a l).length).p).t=L∧(T (go s (y9 la a l).length).p).k=3:=⟨by show n6 (T (s.p+(y9 la a l).length)).t=L;rw[k2];exact hLe,k1⟩
  have hFb:∀j,lv<j→¬(n6 (T (s.p+(y9 la a l).length+1+(y9 (L+1) b m).length)).t=j∧(T (s.p+(y9 la a l).length+1+(y9 (L+1) b m).length)).k=3):=fun j hj h=>by have:=hF.1 h.2;omega
  have hb:=full hP2 ih2 (adv (go s (y9 la a l).length)) (L+1) (by omega) (by omega) hA2 (by show s.o+dj9 (L+1) b e≤12;omega) (er5 hF (by omega) (by omega)) b _ (mO (hFb (L+1) (by omega)))
  have he:go (adv (go s (y9 la a l).length)) (y9 (L+1) b m).length=go s (y9 la a l++tkY y::y9 (L+1) b m).length:=by
   simp only[adv,go]
   congr 1
   rw[hlen]
  rw[he]at hb
  have hfirst:4≤la→isP T kV s=false:=by
   intro h4
   obtain⟨z,k,e1,f1,_⟩:=dq3 hP1
   unfold isP
   have:(T s.p).t≠kV:=by
    unfold y9 at hA1
    split at hA1
    ·rw[hA1.1.2.1];decide
    ·rename_i hge
     rw[e1]at hA1
     rw[hA1.1.2.1];exact f1 (by omega)
   simpa using this
  have hjs:∀j,lv≤j→j<L→¬(j=3∧isP T kV s=true)∧¬(j=7∧isP T nS s=true):=by
   intro j h1 h2
   refine⟨fun h=>?_,fun h=>by omega⟩
   rw[hfirst (by rw[←hla];split<;>omega)]at h
   exact absurd h.2 (by decide)
  have hFe:T (go s (y9 la a l++tkY y::y9 (L+1) b m).length).p=T (s.p+(y9 la a l).length+1+(y9 (L+1) b m).length):=by show T (s.p+_)=_;rw[hlen]
  by_cases h4:L=4
  ·subst h4
   rw[if_pos rfl]at hla
   subst hla
   have ha:=full hP1 ih1 s 5 (by omega) (by omega) hA1 (by omega) ⟨fun _=>⟨by rw[show n6 (T (s.p+(y9 5 a l).length)).t=4 from hst.1];decide,fun h=>absurd h (by decide)⟩,fun h=>by rw[show(T (s.p+(y9 5 a l).length)).k=3 from hst.2]at h;exact absurd h.1 (by decide)⟩ a _ (mO (fun h=>by rw[hst.1]at h;exact absurd h.1 (by decide)))
   have hc:=fa0 (n:=a) hst hb
   rw[show(T (go s (y9 5 a l).length).p).t=y from k2]at hc
   have hx:=cf1 (fun h=>absurd h.1 (by decide)) (fun h=>absurd h.1 (by decide)) (by decide) ha hc
   rcases Nat.lt_or_ge lv 4 with hlt|hge
   ·exact en2 (4-lv-1) lv 4 (by omega) (by omega) hjs hx (by rw[hFe];exact hF) u s2 hu
   ·obtain rfl:lv=4:=by omega
    have hno:¬(n6 (T (go s (y9 5 a l++tkY y::y9 (4+1) b m).length).p).t=4∧(T (go s (y9 5 a l++tkY y::y9 (4+1) b m).length).p).k=3):=by
     rw[hFe]
     exact fun h=>absurd h.1 ((hF.1 h.2).2 rfl)
    obtain⟨rfl,rfl⟩:=dp2 hno hu
    exact hx
  ·rw[if_neg h4]at hla
   subst hla
   have hF0:Fol L (T (s.p+(y9 L a l).length)):=⟨fun _=>⟨by rw[show n6 (T (s.p+(y9 L a l).length)).t=L from hst.1];exact Nat.le_refl _,fun h=>absurd h h4⟩,fun h=>by rw[show(T (s.p+(y9 L a l).length)).k=3 from hst.2]at h;exact absurd h.1 (by decide)⟩
   have key:∀u s2,Ops T L (.node 20 0 y [a,b]) (go s (y9 L a l++tkY y::y9 (L+1) b m).length) u s2→Ex T L s u s2:=by
    intro u s2 hu
    refine full hP1 ih1 s L (by omega) (by omega) hA1 (by omega) hF0 u s2 (fh7 hst h4 hb ?_)
    rw[show(T (go s (y9 L a l).length).p).t=y from k2]
    exact hu
   rcases Nat.lt_or_ge lv L with hlt|hge
   ·exact en2 (L-lv-1) lv L (by omega) (by omega) hjs (key _ _ (mO (by rw[hFe];exact hFb L hlt))) (by rw[hFe];exact hF) u s2 hu
   ·obtain rfl:lv=L:=by omega
    exact key u s2 hu
end
end Go.Proofs.Lx
/- Plain: sources joined, moved, cut. -/
namespace Go.Proofs.Lx
open Go
theorem lG(s:ByteArray):s.data.toList.length=s.size:=by rw[Array.length_toList];rfl
end Go.Proofs.Lx
/- Plain: tokens joined by spaces are the same tokens. -/
namespace Go.Proofs.Lx
open Go
def fc0(x y:Tkn):Prop:=x.k=y.k∧x.t=y.t∧x.n=y.n
inductive Same3:List Tkn→List Tkn→Prop where
 |nil:Same3 [] []
 |cons {x y:Tkn} {l m:List Tkn}:fc0 x y→Same3 l m→Same3 (x::l) (y::m)
theorem Same3.len{l m:List Tkn}(h:Same3 l m):l.length=m.length:=by
 induction h with
 |nil=>rfl
 |cons _ _ ih=>simp[ih]
theorem Same3.get{l m:List Tkn}(h:Same3 l m):∀(i:Nat) (hi:i<l.length) (hj:i<m.length),fc0 l[i] m[i]:=by
 induction h with
 |nil=>intro i hi;simp at hi
 |cons h1 _ ih=>
  intro i hi hj
  cases i with
  |zero=>exact h1
  |succ i=>exact ih i (by simpa using hi) (by simpa using hj)
end Go.Proofs.Lx
/- Plain: the text of an expression has its tokens. -/
namespace Go.Proofs.Lx
open Go Go.Proofs.YtcijknknahbbnaaGreatDoor
set_option maxRecDepth 100000
inductive Ls:List UInt8→List Tkn→Prop
 |nil:Ls [] []
 |white {c:UInt8} {r:List UInt8} {l:List Tkn}:cQ c.toNat=true→Ls r l→Ls (c::r) l
 |tok {r:List UInt8} {l:List Tkn} {x:Tkn}:r≠[]→cQ (r.headD 0).toNat=false→(r.headD 0).toNat≠35→dw9 r=(x,0)→Ls (r.drop x.t.size) l→Ls r (x::l)
theorem fg1{r:List UInt8}{l:List Tkn}(h:Ls r l):∀(s:ByteArray) (p:Nat) (acc:List Tkn),s.data.toList.drop p=r→∃ts,Lex s p acc (acc++ts++[⟨0,s.size,⟨#[]⟩,0⟩],0,0)∧Same3 ts l:=by
 have hlt:∀(s:ByteArray) (p:Nat),s.data.toList.drop p≠[]→p<s.size:=by
  intro s p h
  rcases Nat.lt_or_ge p s.size with h'|h'
  ·exact h'
  ·rw[←lG]at h'
   exact absurd (List.drop_eq_nil_of_le h') h
 induction h with
 |nil=>
  intro s p acc e
  have:s.size≤p:=by rw[←lG];exact List.drop_eq_nil_iff.1 e
  exact⟨[],by rw[List.append_nil];exact .fin this,.nil⟩
 | @white c r l hw _ ih=>
  intro s p acc e
  have hp:p<s.size:=hlt s p (by rw[e];simp)
  have h1:=cH s p hp
  rw[e]at h1
  obtain⟨e1,e2⟩:=List.cons.inj h1
  obtain⟨ts,h2,h3⟩:=ih s (p+1) acc e2.symm
  exact⟨ts,.white hp (by rw[←e1];exact hw) h2,h3⟩
 | @tok r l x hr hw hh ht _ ih=>
  intro s p acc e
  have hp:p<s.size:=hlt s p (by rw[e];exact hr)
  have hg:=ef0 hp
  rw[e]at hg
  obtain⟨ts,h2,h3⟩:=ih s (p+x.t.size) (acc++[{x with a:=p}]) (by rw[←e,List.drop_drop])
  refine⟨{x with a:=p}::ts,?_,.cons ⟨rfl,rfl,rfl⟩ h3⟩
  have:acc++{x with a:=p}::ts=acc++[{x with a:=p}]++ts:=by simp
  rw[this]
  exact .tok hp (by rw[hg];exact hw) (by rw[hg];exact hh) (by rw[fi5 hp,e];exact ht) h2
theorem eb4{s:ByteArray}{l:List Tkn}(h:Ls s.data.toList l)(hs:s.size≤4000):∃ts,fT s (ts++[⟨0,s.size,⟨#[]⟩,0⟩],0,0)∧Same3 ts l:=by
 obtain⟨ts,h1,h2⟩:=fg1 h s 0 [] rfl
 exact⟨ts,.inr ⟨hs,by simpa using h1⟩,h2⟩
def Sep(r:List UInt8):Prop:=∀c,r.head? =some c→aP c.toNat=false
def fm7(r:List UInt8):Prop:=∀c,r.head? =some c→c≠61
theorem uC{g:Int→Bool}{l r:List UInt8}(hl:∀b∈l,g b.toNat=true)(hr:∀c,r.head? =some c→g c.toNat=false):f9 g (l++r)=l.length:=by
 induction l with
 |nil=>cases r with
  |nil=>rfl
  |cons c r=>simp[f9,hr c rfl]
 |cons b l ih=>
  have e2:∀m,f9 g (b::m)=f9 g m+1:=fun m=>by simp[f9,hl b (by simp)]
  rw[List.cons_append,e2,ih fun b hb=>hl b (by simp[hb])]
  rfl
theorem cn6(s:ByteArray):mkB s.data.toList=s:=da8 (bj9 _)
theorem dl6{s:ByteArray}{r:List UInt8}{m:List Tkn}(hs:bs3 s)(hr:Sep r)(h:Ls r m):Ls (s.data.toList++r) (tkW s::m):=by
 obtain⟨h12,c,l,e,hc,hw⟩:=hs
 have hsp:f9 aP (s.data.toList++r)=s.data.toList.length:=uC (by rw[e];exact hw) hr
 have hhd:(s.data.toList++r).headD 0=c:=by rw[e];rfl
 have hcw:cQ c.toNat=false∧c.toNat≠35:=by
  simp only[o8,Bool.or_eq_true,decide_eq_true_eq]at hc
  simp only[cQ,decide_eq_false_iff_not]
  omega
 refine .tok (by rw[e];simp) (by rw[hhd];exact hcw.1) (by rw[hhd];exact hcw.2) (x:=tkW s) ?_ ?_
 ·unfold dw9
  rw[hhd,if_pos hc,hsp,if_neg (by rw[lG];omega),List.take_left,cn6]
  rfl
 ·show Ls ((s.data.toList++r).drop s.size) m
  rw[←lG,List.drop_left]
  exact h
theorem dw4(u:Nat):(∀b∈Lib.decDigits u,i9 b.toNat=true)∧Lib.decDigits u≠[]∧ae8 0 (Lib.decDigits u)=(u:Int)∧(1≤u→∀c l,Lib.decDigits u=c::l→c≠48):=by
 induction u using Nat.strongRecOn with
 |_ u ih=>
  rw[Lib.decDigits]
  split
  ·rename_i h10
   have hb:(UInt8.ofNat (48+u)).toNat=48+u:=by rw[UInt8.toNat_ofNat'];omega
   refine⟨?_,by simp,?_,?_⟩
   ·intro b h
    obtain rfl:=List.mem_singleton.1 h
    rw[hb];simp only[i9,decide_eq_true_eq];omega
   ·show 10*(0:Int)+(((UInt8.ofNat (48+u)).toNat:Int)-48)=u
    rw[hb];omega
   ·intro h1 c l e
    obtain⟨rfl,_⟩:=List.cons.inj e
    intro e
    have:=congrArg UInt8.toNat e
    rw[hb]at this
    have:48+u=48:=this
    omega
  ·rename_i h10
   obtain⟨i1,i2,i3,i4⟩:=ih (u/10) (by omega)
   have hm:u%10<10:=Nat.mod_lt _ (by decide)
   have hb:(UInt8.ofNat (48+u%10)).toNat=48+u%10:=by rw[UInt8.toNat_ofNat'];omega
   refine⟨?_,by simp,?_,?_⟩
   ·intro b h
    rcases List.mem_append.1 h with h|h
    ·exact i1 b h
    ·obtain rfl:=List.mem_singleton.1 h
     rw[hb];simp only[i9,decide_eq_true_eq];omega
   ·unfold ae8 at i3⊢
    rw[List.foldl_append,i3]
    show 10*((u/10:Nat):Int)+(((UInt8.ofNat (48+u%10)).toNat:Int)-48)=u
    rw[hb];omega
   ·intro _ c l e
    cases hd:Lib.decDigits (u/10)with
    |nil=>exact absurd hd i2
    |cons c' l'=>
     rw[hd]at e
     obtain⟨rfl,_⟩:=List.cons.inj e
     exact i4 (by omega) c' l' hd
theorem eg1{n:Int}(h0:0≤n):(itS n).data.toList=Lib.decDigits n.toNat:=by
 unfold itS Lib.itoa
 rw[if_neg (by omega)]
theorem eh6{n:Int}{r:List UInt8}{m:List Tkn}(h0:0≤n)(h1:n≤2147483647)(hr:Sep r)(h:Ls r m):Ls ((itS n).data.toList++r) (tkN n::m):=by
 obtain⟨d1,d2,d3,d4⟩:=dw4 n.toNat
 have e:=eg1 h0
 have hsep:∀c,r.head? =some c→i9 c.toNat=false:=by
  intro c hc
  have:=hr c hc
  simp only[aP,Bool.or_eq_false_iff]at this
  exact this.2
 have hsp:f9 i9 ((itS n).data.toList++r)=(itS n).data.toList.length:=uC (by rw[e];exact d1) hsep
 cases hd:Lib.decDigits n.toNat with
 |nil=>exact absurd hd d2
 |cons c l=>
  have hhd:((itS n).data.toList++r).headD 0=c:=by rw[e,hd];rfl
  have hc:=d1 c (by rw[hd];simp)
  have hcw:cQ c.toNat=false∧c.toNat≠35∧o8 c.toNat=false:=by
   simp only[i9,decide_eq_true_eq]at hc
   simp only[cQ,o8,decide_eq_false_iff_not,Bool.or_eq_false_iff]
   omega
  refine .tok (by rw[e,hd];simp) (by rw[hhd];exact hcw.1) (by rw[hhd];exact hcw.2.1) (x:=tkN n) ?_ ?_
  ·unfold dw9
   rw[hhd,if_neg (by rw[hcw.2.2];decide),if_pos hc,hsp,List.take_left]
   unfold es4
   have hv:ae8 0 (itS n).data.toList=n:=by rw[e,d3];omega
   rw[hv,if_neg,if_neg (by omega),cn6]
   ·rfl
   ·rintro⟨g1,g2⟩
    rw[e,hd]at g1 g2
    simp at g2
    rcases Nat.lt_or_ge n.toNat 1 with h'|h'
    ·have:n.toNat=0:=by omega
     rw[this,Lib.decDigits,dif_pos (by decide)]at hd
     obtain⟨_,rfl⟩:=List.cons.inj hd
     simp at g1
    ·exact d4 h' c l hd g2
  ·show Ls (((itS n).data.toList++r).drop (itS n).size) m
   rw[←lG,List.drop_left]
   exact h
theorem dq4:∀c∈sym1,cQ c.toNat=false∧c.toNat≠35∧o8 c.toNat=false∧i9 c.toNat=false:=by decide
theorem et3:∀x∈xF,x.headD 0∈sym1→x=[x.headD 0,61]:=by decide
theorem ac8{c:UInt8}{r:List UInt8}{m:List Tkn}(hc:c∈sym1)(hr:fm7 r)(h:Ls r m):Ls (c::r) (tkY (mkB [c])::m):=by
 obtain⟨f1,f2,f3,f4⟩:=dq4 c hc
 have hN:xH (c::r)=1:=by
  unfold xH
  rw[if_neg,List.head?_cons,Option.any_some]
  ·have:sym1.contains c=true:=by simpa using hc
   rw[this];rfl
  ·rintro⟨_,hm⟩
   have:=et3 _ hm (by cases r<;>exact hc)
   cases r with
   |nil=>simp at this
   |cons d r=>
    simp at this
    exact hr d rfl this
 refine .tok (by simp) f1 f2 (x:=tkY (mkB [c])) ?_ ?_
 ·unfold dw9
  rw[List.headD_cons,if_neg (by rw[f3];decide),if_neg (by rw[f4];decide),hN,if_neg (by decide)]
  rfl
 ·exact h
theorem qM{r:List UInt8}{m:List Tkn}(h:Ls r m):Ls (32::r) m:=.white (by decide) h
theorem al8{c:UInt8}{r:List UInt8}(h:aP c.toNat=false):Sep (c::r):=by intro d hd;cases hd;exact h
theorem oY{c:UInt8}{r:List UInt8}(h:c≠61):fm7 (c::r):=by intro d hd;cases hd;exact h
theorem dx6:∀s∈keywords,bs3 s:=by
 intro s hs
 have:∀s∈keywords,s.size≤12∧(s.data.toList.headD 0::s.data.toList.tail=s.data.toList)∧o8 (s.data.toList.headD 0).toNat=true∧∀b∈s.data.toList,aP b.toNat=true:=by decide
 obtain⟨h1,h2,h3,h4⟩:=this s hs
 exact⟨h1,_,_,h2.symm,h3,by rw[h2];exact h4⟩
end Go.Proofs.Lx
/- Plain: the parser looks at no token behind those that it takes, but for one; tokens that are moved, or of which only the offsets differ, are parsed alike; more fuel does no harm. -/
namespace Go.Proofs.Lx
open Go
structure Eq3(x y:Tkn):Prop where
 k:x.k=y.k
 t:x.t=y.t
 n:x.n=y.n
def PS.up(d:Nat)(s:PS):PS:={s with p:=d+s.p}
def PR.up{α:Type}(d:Nat):PR α→PR α
 | .ok x s=>.ok x (s.up d)
 | .err p c=>.err (d+p) c
 | .out=>.out
def Ee{α:Type}(b:Nat):PR α→Nat
 | .ok _ s=>s.p+b
 | .err p _=>p+1
 | .out=>0
structure Lc{α:Type}(b d e p:Nat)(f g:PR α):Prop where
 gr:f≠ .out→p<Ee b f
 eq:f≠ .out→Ee b f≤e→g=f.up d
variable {α β:Type} {b b' d e p:Nat}
theorem Lc.out{g:PR α}:Lc b d e p (.out:PR α) g:=⟨fun h=>absurd rfl h,fun h=>absurd rfl h⟩
theorem Lc.err{q:Nat}{c:Int}(h:p≤q):Lc b d e p (.err q c:PR α) (.err (d+q) c):=⟨fun _=>Nat.lt_succ_of_le h,fun _ _=>rfl⟩
theorem Lc.ok0{x:α}{s:PS}(h:p<s.p):Lc 0 d e p (.ok x s) (.ok x (s.up d)):=⟨fun _=>h,fun _ _=>rfl⟩
theorem Lc.ok1{x:α}{s:PS}(h:p≤s.p):Lc 1 d e p (.ok x s) (.ok x (s.up d)):=⟨fun _=>Nat.lt_succ_of_le h,fun _ _=>rfl⟩
theorem Lc.one{f g:PR α}(h:Lc 0 d e p f g):Lc 1 d e p f g:=by
 refine⟨fun h0=>?_,fun h0 h1=>h.eq h0 ?_⟩
 ·have:=h.gr h0;cases f<;>simp only[Ee]at this⊢ <;>omega
 ·cases f<;>simp only[Ee]at h1⊢ <;>omega
theorem Lc.le{p':Nat}{f g:PR α}(h:Lc b d e p' f g)(hp:p≤p'):Lc b d e p f g:=⟨fun h0=>Nat.lt_of_le_of_lt hp (h.gr h0),h.eq⟩
theorem Lc.sub{f g g':PR α}(h:Lc b d e p f g')(hg:p<e→g=g'):Lc b d e p f g:=⟨h.gr,fun h0 h1=>(hg (Nat.lt_of_lt_of_le (h.gr h0) h1)).trans (h.eq h0 h1)⟩
theorem Lc.ite{c c':Prop}[Decidable c][Decidable c']{f g f' g':PR α}(hc:p<e→(c'↔c))(h1:c→Lc b d e p f g)(h2:¬c→Lc b d e p f' g'):Lc b d e p (if c then f else f') (if c' then g else g'):=by
 by_cases h:c
 ·rw[if_pos h]
  exact(h1 h).sub fun hp=>if_pos ((hc hp).2 h)
 ·rw[if_neg h]
  exact(h2 h).sub fun hp=>if_neg fun h'=>h ((hc hp).1 h')
theorem Lc.bind{r r':PR β}{k k':β→PS→PR α}(hb:b≤1)(h:Lc b d e p r r')(hk:∀a s,p≤s.p→Lc b' d e s.p (k a s) (k' a (s.up d))):Lc b' d e p (r.bind k) (r'.bind k'):=by
 cases r with
 |out=>exact Lc.out
 |err q c=>
  have h1:=h.gr (by simp)
  refine⟨fun _=>h1,fun _ h2=>?_⟩
  rw[h.eq (by simp) h2];rfl
 |ok a s=>
  have h1:p<s.p+b:=h.gr (by simp)
  have hs:=hk a s (by omega)
  refine⟨fun h0=>?_,fun h0 h2=>?_⟩
  ·have:=hs.gr h0
   show p<Ee b' (k a s)
   omega
  ·have h3:s.p<Ee b' (k a s):=hs.gr h0
   have h2':Ee b' (k a s)≤e:=h2
   rw[h.eq (by simp) (show s.p+b≤e by omega)]
   exact hs.eq h0 h2
theorem Lc.map{r r':PR β}(F:β→α)(G:PS→PS)(h:Lc b d e p r r')(h1:∀s,(G s).p=s.p)(h2:∀s:PS,G (s.up d)=(G s).up d):Lc b d e p (r.bind fun a s=>.ok (F a) (G s)) (r'.bind fun a s=>.ok (F a) (G s)):=by
 cases r with
 |out=>exact Lc.out
 |err q c=>
  refine⟨fun _=>h.gr (by simp),fun _ h2=>?_⟩
  rw[h.eq (by simp) h2];rfl
 |ok a s=>
  have h3:p<s.p+b:=h.gr (by simp)
  refine⟨fun _=>?_,fun _ h4=>?_⟩
  ·show p< (G s).p+b
   rw[h1];exact h3
  ·have h4:(G s).p+b≤e:=h4
   rw[h1]at h4
   rw[h.eq (by simp) h4]
   show PR.ok (F a) (G (s.up d))= .ok (F a) ((G s).up d)
   rw[h2]
section
variable {T U:Nat→Tkn} {s:PS}
theorem dQ(hU:∀j,j<e→Eq3 (U (d+j)) (T j))(w:ByteArray)(h:s.p<e):(isP U w (s.up d)=true↔isP T w s=true):=by
 unfold isP
 rw[show(U (s.up d).p).t=(T s.p).t from(hU _ h).t]
theorem oB(hU:∀j,j<e→Eq3 (U (d+j)) (T j))(w:ByteArray)(s:PS):Lc 0 d e s.p (n4 T w s) (n4 U w (s.up d)):=
 Lc.ite (dQ hU w) (fun _=>Lc.ok0 (Nat.lt_succ_self _)) fun _=>Lc.err (Nat.le_refl _)
theorem bd1(hU:∀j,j<e→Eq3 (U (d+j)) (T j))(w:ByteArray)(s:PS):Lc 0 d e s.p (aE T w s) (aE U w (s.up d)):=
 Lc.ite (dQ hU w) (fun _=>Lc.ite (fun _=>Iff.rfl) (fun _=>Lc.err (Nat.le_refl _)) fun _=>Lc.ok0 (Nat.lt_succ_self s.p)) fun _=>Lc.err (Nat.le_refl _)
theorem cb1(hU:∀j,j<e→Eq3 (U (d+j)) (T j))(s:PS):Lc 0 d e s.p (aB T s) (aB U (s.up d)):=by
 unfold aB
 refine Lc.ite (fun h=>?_) (fun _=>Lc.err (Nat.le_refl _)) fun _=>(Lc.ok0 (Nat.lt_succ_self s.p)).sub fun h=>?_
 ·rw[show(U (s.up d).p).t=(T s.p).t from(hU _ h).t,show(U (s.up d).p).k=(T s.p).k from(hU _ h).k]
 ·rw[show(U (s.up d).p).t=(T s.p).t from(hU _ h).t];rfl
theorem aa6{k:ByteArray→PS→PR α}:(aB T s).bind k=if(T s.p).k≠1∨wO (T s.p).t=true then .err s.p 11 else k (T s.p).t (adv s):=by
 unfold aB
 split<;>rfl
theorem do3(hU:∀j,j<e→Eq3 (U (d+j)) (T j))(s:PS):Lc 0 d e s.p (jV T s) (jV U (s.up d)):=by
 unfold jV
 rw[aa6,aa6]
 refine Lc.ite (fun h=>?_) (fun _=>Lc.err (Nat.le_refl _)) fun _=>Lc.ite (fun h=>?_) (fun _=>Lc.err (Nat.le_refl _)) fun _=>Lc.ite (fun _=>Iff.rfl) (fun _=>Lc.err (Nat.le_refl _)) fun _=>?_
 ·rw[show(U (s.up d).p).t=(T s.p).t from(hU _ h).t,show(U (s.up d).p).k=(T s.p).k from(hU _ h).k]
 ·rw[show(U (s.up d).p).t=(T s.p).t from(hU _ h).t];exact Iff.rfl
 ·refine Lc.sub (Lc.ok0 (Nat.lt_succ_self s.p)) fun h=>?_
  rw[show(U (s.up d).p).t=(T s.p).t from(hU _ h).t];rfl
theorem bt8(hU:∀j,j<e→Eq3 (U (d+j)) (T j))(lo hi:Int)(s:PS):Lc 0 d e s.p (iD T lo hi s) (iD U lo hi (s.up d)):=by
 unfold iD
 refine Lc.ite (fun h=>?_) (fun _=>Lc.err (Nat.le_refl _)) fun _=>Lc.ite (fun h=>?_) (fun _=>Lc.err (Nat.le_refl _)) fun _=>(Lc.ok0 (Nat.lt_succ_self s.p)).sub fun h=>?_
 ·rw[show(U (s.up d).p).k=(T s.p).k from(hU _ h).k]
 ·rw[show(U (s.up d).p).n=(T s.p).n from(hU _ h).n]
 ·rw[show(U (s.up d).p).n=(T s.p).n from(hU _ h).n];rfl
theorem bx0(hU:∀j,j<e→Eq3 (U (d+j)) (T j))(s:PS):Lc 1 d e s.p (fQ T s) (fQ U (s.up d)):=by
 unfold fQ
 refine Lc.bind (Nat.zero_le _) (bt8 hU 0 2147483647 s) fun n s1 h1=>Lc.ite (fun h=>?_) (fun _=>?_) fun _=>Lc.ok1 (Nat.le_refl _)
 ·rw[show(U (s1.up d).p).t=(T s1.p).t from(hU _ h).t,show(U (s1.up d).p).k=(T s1.p).k from(hU _ h).k]
 ·refine Lc.sub (Lc.ok1 (Nat.le_succ s1.p)) fun h=>?_
  rw[show(U (s1.up d).p).t=(T s1.p).t from(hU _ h).t];rfl
theorem ak6(hU:∀j,j<e→Eq3 (U (d+j)) (T j)):∀f f',f≤f'→(∀lv s,Lc 1 d e s.p (j9 T f lv s) (j9 U f' lv (s.up d)))∧(∀lv n s,Lc 1 d e s.p (dX T f lv n s) (dX U f' lv n (s.up d)))∧
 (∀w lv s,Lc 1 d e s.p (aJ T f w lv s) (aJ U f' w lv (s.up d)))∧(∀s,Lc 1 d e s.p (cD T f s) (cD U f' (s.up d)))
 |0,f',_=>by
  refine⟨fun lv s=>?_,fun lv n s=>?_,fun w lv s=>?_,fun s=>?_⟩
  ·rw[j9];exact Lc.out
  ·rw[dX];exact Lc.out
  ·rw[aJ];exact Lc.out
  ·rw[cD];exact Lc.out
 |f+1,0,h=>absurd h (Nat.not_succ_le_zero f)
 |f+1,f'+1,h=>by
  obtain⟨i1,i2,i3,i4⟩:=ak6 hU f f' (Nat.le_of_succ_le_succ h)
  refine⟨fun lv s=>?_,fun lv n s=>?_,fun w lv s=>?_,fun s=>?_⟩
  ·rw[j9,j9]
   refine Lc.ite (fun h=>?_) (fun _=>i3 kV 3 s) fun _=>Lc.ite (fun h=>?_) (fun _=>i3 nS 7 s) fun _=>Lc.ite (fun _=>Iff.rfl) (fun _=>i4 s) fun _=>Lc.bind (Nat.le_refl _) (i1 (lv+1) s) fun n s1 _=>i2 lv n s1
   ·rw[dQ hU kV h]
   ·rw[dQ hU nS h]
  ·rw[dX,dX]
   refine Lc.ite (fun h=>?_) (fun _=>?_) fun _=>Lc.ok1 (Nat.le_refl _)
   ·rw[show(U (s.up d).p).t=(T s.p).t from(hU _ h).t,show(U (s.up d).p).k=(T s.p).k from(hU _ h).k]
   ·refine Lc.sub (g':=(j9 U f' (lv+1) ((adv s).up d)).bind fun m s'=>if lv=4 then .ok (.node 20 0 (T s.p).t [n,m]) s' else dX U f' lv (.node 20 0 (T s.p).t [n,m]) s') ?_ fun h=>?_
    ·exact(Lc.bind (Nat.le_refl _) (i1 (lv+1) (adv s)) fun m s1 _=>Lc.ite (fun _=>Iff.rfl) (fun _=>Lc.ok1 (Nat.le_refl _)) fun _=>i2 lv _ s1).le (Nat.le_succ _)
    ·rw[show(U (s.up d).p).t=(T s.p).t from(hU _ h).t];rfl
  ·rw[aJ,aJ]
   exact Lc.bind (Nat.zero_le _) (bd1 hU w s) fun _ s1 _=>Lc.map (fun n=>Tr.node 19 0 w [n]) cM (i1 lv s1) (fun _=>rfl) fun _=>rfl
  ·rw[cD,cD]
   refine Lc.ite (fun h=>?_) (fun _=>bx0 hU s) fun _=>Lc.ite (dQ hU w_true) (fun _=>Lc.ok1 (Nat.le_succ s.p)) fun _=>Lc.ite (dQ hU w_false) (fun _=>Lc.ok1 (Nat.le_succ s.p)) fun _=>Lc.ite (dQ hU bd0) (fun _=>?_) fun _=>Lc.ite (dQ hU fH) (fun _=>?_) fun _=>?_
   ·rw[show(U (s.up d).p).k=(T s.p).k from(hU _ h).k]
   ·exact((Lc.bind (Nat.zero_le _) (oB hU cl7 (adv s)) fun _ s1 _=>Lc.map (fun x=>Tr.node 18 0 x []) id (cb1 hU s1) (fun _=>rfl) fun _=>rfl).le (Nat.le_succ _)).one
   ·exact(Lc.bind (Nat.zero_le _) (bd1 hU fH s) fun _ s1 _=>Lc.bind (Nat.le_refl _) (i1 1 s1) fun n s2 _=>Lc.map (fun _=>n) cM (oB hU aF s2) (fun _=>rfl) fun _=>rfl).one
   ·exact(Lc.map (fun x=>Tr.node 17 0 x []) id (cb1 hU s) (fun _=>rfl) fun _=>rfl).one
theorem yT(hU:∀j,j<e→Eq3 (U (d+j)) (T j))(n:Tr)(s:PS):Lc 0 d e s.p (endP T n s) (endP U n (s.up d)):=Lc.map (fun _=>n) id (oB hU eF s) (fun _=>rfl) fun _=>rfl
theorem ek9(hU:∀j,j<e→Eq3 (U (d+j)) (T j)){f f':Nat}(hf:f≤f')(k:Int)(x:ByteArray)(s:PS):Lc 0 d e s.p (ai9 T f k x s) (ai9 U f' k x (s.up d)):=
 Lc.bind (Nat.zero_le _) (oB hU ae5 s) fun _ s1 _=>Lc.bind (Nat.le_refl _) ((ak6 hU f f' hf).1 1 s1) fun n s2 _=>yT hU _ s2
theorem ee5(hU:∀j,j<e→Eq3 (U (d+j)) (T j)){f f':Nat}(hf:f≤f')(k:Int)(s:PS):Lc 0 d e s.p (bn2 T f k s) (bn2 U f' k (s.up d)):=
 Lc.bind (Nat.le_refl _) ((ak6 hU f f' hf).1 1 s) fun n s2 _=>yT hU _ s2
theorem ef3(hU:∀j,j<e→Eq3 (U (d+j)) (T j))(k:Int)(s:PS):Lc 0 d e s.p (bl8 T k s) (bl8 U k (s.up d)):=
 Lc.bind (Nat.le_refl _) (bx0 hU s) fun n s2 _=>yT hU _ s2
theorem em9(hU:∀j,j<e→Eq3 (U (d+j)) (T j)){f f':Nat}(hf:f≤f')(s:PS):Lc 0 d e s.p (yM T f s) (yM U f' (s.up d)):=
 Lc.bind (Nat.le_refl _) ((ak6 hU f f' hf).1 1 s) fun c s1 _=>Lc.bind (Nat.zero_le _) (oB hU jT s1) fun _ s2 _=>Lc.bind (Nat.le_refl _) (bx0 hU s2) fun n s3 _=>yT hU _ s3
theorem ec1(hU:∀j,j<e→Eq3 (U (d+j)) (T j))(k hi:Int)(s:PS):Lc 0 d e s.p (ay6 T k hi s) (ay6 U k hi (s.up d)):=
 Lc.bind (Nat.zero_le _) (bt8 hU 0 hi s) fun n s1 _=>yT hU _ s1
theorem eg2(hU:∀j,j<e→Eq3 (U (d+j)) (T j))(k:Int)(w:ByteArray)(s:PS):Lc 0 d e s.p (ay1 T k w s) (ay1 U k w (s.up d)):=
 Lc.bind (Nat.zero_le _) (bt8 hU 0 7 s) fun n s1 _=>Lc.bind (Nat.zero_le _) (oB hU w s1) fun _ s2 _=>Lc.bind (Nat.le_refl _) (bx0 hU s2) fun m s3 _=>yT hU _ s3
theorem do1(hU:∀j,j<e→Eq3 (U (d+j)) (T j)):∀f f',f≤f'→(∀s,Lc 0 d e s.p (m4 T f s) (m4 U f' (s.up d)))∧(∀s,Lc 0 d e s.p (n9 T f s) (n9 U f' (s.up d)))∧(∀s,Lc 1 d e s.p (t8 T f s) (t8 U f' (s.up d)))
 |0,f',_=>by
  refine⟨fun s=>?_,fun s=>?_,fun s=>?_⟩
  ·rw[m4];exact Lc.out
  ·rw[n9];exact Lc.out
  ·rw[t8];exact Lc.out
 |f+1,0,h=>absurd h (Nat.not_succ_le_zero f)
 |f+1,f'+1,h=>by
  have hf:=Nat.le_of_succ_le_succ h
  obtain⟨i1,i2,i3⟩:=do1 hU f f' hf
  refine⟨fun s=>?_,fun s=>?_,fun s=>?_⟩
  ·rw[m4,m4]
   exact Lc.bind (Nat.zero_le _) (bd1 hU xQ s) fun _ s1 _=>Lc.map (fun l=>Tr.node 14 0 ⟨#[]⟩ l) cM (i2 s1) (fun _=>rfl) fun _=>rfl
  ·rw[n9,n9]
   exact Lc.ite (dQ hU rH) (fun _=>Lc.ok0 (Nat.lt_succ_self s.p)) fun _=>Lc.bind (Nat.le_refl _) (i3 s) fun n s1 _=>Lc.map (fun l=>n::l) id (i2 s1) (fun _=>rfl) fun _=>rfl
  ·rw[t8,t8]
   have nx:∀{g g':PR Tr},Lc 0 d e (adv s).p g g'→Lc 1 d e s.p g g':=fun h=>(h.le (Nat.le_succ _)).one
   refine Lc.ite (dQ hU an0) (fun _=>nx (Lc.bind (Nat.zero_le _) (do3 hU (adv s)) fun x s1 _=>ek9 hU hf 1 x s1)) fun _=>?_
   refine Lc.ite (dQ hU ax9) (fun _=>(Lc.bind (Nat.le_refl _) ((ak6 hU f f' hf).1 1 (adv s)) fun c s1 _=>Lc.bind (Nat.zero_le _) (i1 s1) fun y s2 _=>Lc.ite (dQ hU iK) (fun _=>?_) fun _=>Lc.ok1 (Nat.le_refl _)).le (Nat.le_succ _)) fun _=>?_
   ·exact((Lc.map (fun n=>Tr.node 3 0 ⟨#[]⟩ [c,y,n]) id (i1 (adv s2)) (fun _=>rfl) fun _=>rfl).le (Nat.le_succ _)).one
   refine Lc.ite (dQ hU cI) (fun _=>nx (Lc.bind (Nat.zero_le _) (bt8 hU 1 100 (adv s)) fun n s1 _=>Lc.map (fun y=>Tr.node 4 n ⟨#[]⟩ [y]) id (i1 s1) (fun _=>rfl) fun _=>rfl)) fun _=>?_
   refine Lc.ite (dQ hU rS) (fun _=>nx (em9 hU hf (adv s))) fun _=>?_
   refine Lc.ite (dQ hU at8) (fun _=>nx (ef3 hU 5 (adv s))) fun _=>?_
   refine Lc.ite (dQ hU uV) (fun _=>nx (ef3 hU 11 (adv s))) fun _=>?_
   refine Lc.ite (dQ hU pJ) (fun _=>nx (ee5 hU hf 7 (adv s))) fun _=>?_
   refine Lc.ite (dQ hU oQ) (fun _=>nx (ee5 hU hf 8 (adv s))) fun _=>?_
   refine Lc.ite (dQ hU ac0) (fun _=>nx (eg2 hU 9 wL (adv s))) fun _=>?_
   refine Lc.ite (dQ hU yO) (fun _=>nx (eg2 hU 10 aG (adv s))) fun _=>?_
   refine Lc.ite (dQ hU jP) (fun _=>nx (ec1 hU 12 99 (adv s))) fun _=>?_
   refine Lc.ite (dQ hU rK) (fun _=>nx (ec1 hU 13 999 (adv s))) fun _=>?_
   exact(Lc.bind (Nat.zero_le _) (cb1 hU s) fun x s1 _=>ek9 hU hf 2 x s1).one
theorem fh2(hU:∀j,j<e→Eq3 (U (d+j)) (T j))(s:PS):Lc 1 d e s.p (at5 T s) (at5 U (s.up d)):=by
 unfold at5
 refine Lc.bind (Nat.zero_le _) (do3 hU s) fun x s1 _=>Lc.ite (dQ hU vO) (fun _=>?_) fun _=>Lc.ok1 (Nat.le_refl _)
 have hq:s1.p+1<e→Eq3 (U ((s1.up d).p+1)) (T (s1.p+1)):=fun h=>hU _ h
 refine Lc.le (p':=s1.p+1) (Lc.ite (fun h=>?_) (fun _=>Lc.err (Nat.le_refl _)) fun _=>Lc.ite (fun h=>?_) (fun _=>Lc.err (Nat.le_refl _)) fun _=>?_) (Nat.le_succ _)
 ·rw[(hq h).k]
 ·rw[(hq h).t]
 ·refine Lc.sub (Lc.ok1 (Nat.le_succ (s1.p+1))) fun h=>?_
  rw[(hq h).t];rfl
theorem do7(hU:∀j,j<e→Eq3 (U (d+j)) (T j)):∀f f',f≤f'→∀s,Lc 0 d e s.p (mJ T f s) (mJ U f' (s.up d))
 |0,f',_,s=>by rw[mJ];exact Lc.out
 |f+1,0,h,s=>absurd h (Nat.not_succ_le_zero f)
 |f+1,f'+1,h,s=>by
  rw[mJ,mJ]
  refine Lc.bind (Nat.le_refl _) (fh2 hU s) fun x s1 _=>Lc.ite (dQ hU aG) (fun _=>?_) fun _=>Lc.map (fun _=>[x]) id (oB hU aF s1) (fun _=>rfl) fun _=>rfl
  exact(Lc.map (fun l=>x::l) id (do7 hU f f' (Nat.le_of_succ_le_succ h) (adv s1)) (fun _=>rfl) fun _=>rfl).le (Nat.le_succ _)
theorem du1(hU:∀j,j<e→Eq3 (U (d+j)) (T j)){f f':Nat}(hf:f≤f')(s:PS):Lc 0 d e s.p (bY T f s) (bY U f' (s.up d)):=
 Lc.bind (Nat.zero_le _) (oB hU fH s) fun _ s1 _=>Lc.ite (dQ hU aF) (fun _=>Lc.ok0 (Nat.lt_succ_self s1.p)) fun _=>do7 hU f f' hf s1
theorem ex2(hU:∀j,j<e→Eq3 (U (d+j)) (T j)){f f':Nat}(hf:f≤f')(pr:List ByteArray)(s:PS):Lc 0 d e s.p (kR T f pr s) (kR U f' pr (s.up d)):=by
 unfold kR
 refine Lc.bind (Nat.zero_le _) (oB hU o7 s) fun _ s1 _=>?_
 rw[aa6,aa6]
 have hq:s1.p<e→Eq3 (U (s1.up d).p) (T s1.p):=fun h=>hU _ h
 refine Lc.ite (fun h=>?_) (fun _=>Lc.err (Nat.le_refl _)) fun _=>Lc.ite (fun h=>?_) (fun _=>Lc.err (Nat.le_refl _)) fun _=>?_
 ·rw[(hq h).t,(hq h).k]
 ·rw[(hq h).t]
 ·refine Lc.sub (g':=(bY U f' (PS.up d {adv s1 with vs:=[]})).bind fun l s3=>(m4 U f' s3).bind fun b s4=>.ok ⟨(T s1.p).t,l,b⟩ s4) ?_ fun h=>?_
  ·exact(Lc.bind (Nat.zero_le _) (du1 hU hf {adv s1 with vs:=[]}) fun l s3 _=>Lc.map (fun b=>Prc.mk (T s1.p).t l b) id ((do1 hU f f' hf).1 s3) (fun _=>rfl) fun _=>rfl).le (Nat.le_succ _)
  ·rw[(hq h).t];rfl
theorem co6(hU:∀j,j<e→Eq3 (U (d+j)) (T j)):∀f f',f≤f'→∀pr s,Lc 1 d e s.p (i7 T f pr s) (i7 U f' pr (s.up d))
 |0,f',_,pr,s=>by rw[i7];exact Lc.out
 |f+1,0,h,pr,s=>absurd h (Nat.not_succ_le_zero f)
 |f+1,f'+1,h,pr,s=>by
  have hf:=Nat.le_of_succ_le_succ h
  rw[i7,i7]
  refine Lc.ite (fun h=>?_) (fun _=>Lc.ok1 (Nat.le_refl _)) fun _=>Lc.bind (Nat.zero_le _) (ex2 hU hf pr s) fun x s1 _=>Lc.map (fun l=>x::l) id (co6 hU f f' hf (pr++[x.x]) s1) (fun _=>rfl) fun _=>rfl
  rw[show(U (s.up d).p).k=(T s.p).k from(hU _ h).k]
theorem cu7(hU:∀j,Eq3 (U j) (T j)){f f':Nat}(hf:f≤f')(pr:List ByteArray)(s:PS)(ho:i7 T f pr s≠ .out):i7 U f' pr s=i7 T f pr s:=by
 have h:=co6 (T:=T) (U:=U) (d:=0) (e:=Ee 1 (i7 T f pr s)) (fun j _=>by rw[Nat.zero_add];exact hU j) f f' hf pr s
 have h1:=h.eq ho (Nat.le_refl _)
 have e0:∀s:PS,s.up 0=s:=fun s=>by cases s;simp[PS.up]
 rw[e0]at h1
 rw[h1]
 cases i7 T f pr s<;>simp[PR.up,e0]
end
end Go.Proofs.Lx
/- Plain: tokens of statements' and procedures' texts are read as the statements and procedures. -/
namespace Go.Proofs.Lx
open Go Go.Proofs.YtcijknknahbbnaaGreatDoor
set_option maxRecDepth 100000
def ag3(i:Nat):List UInt8:=List.replicate (2*i) 32
def bL(s:ByteArray):List UInt8:=s.data.toList
def bg6(s:ByteArray):Prop:=wO s=false∧bs3 s
inductive PrS:Nat→(Tr⊕List Tr)→List UInt8→List Tkn→Nat→List ByteArray→Prop
 |let(i:Nat) (s:ByteArray) (a:Tr) (x:List UInt8) (l:List Tkn) (d:Nat):bg6 s→Pr a x l d→
  PrS i (.inl (.node 1 0 s [a])) (ag3 i++(bL an0++32::(bL s++32::61::32::(x++[59,10])))) (tkW an0::tkW s::tkY ae5::(l++[tkY eF])) d [s]
 |set (i:Nat) (s:ByteArray) (a:Tr) (x:List UInt8) (l:List Tkn) (d:Nat):bg6 s→Pr a x l d→
  PrS i (.inl (.node 2 0 s [a])) (ag3 i++(bL s++32::61::32::(x++[59,10]))) (tkW s::tkY ae5::(l++[tkY eF])) d []
 |cond (i:Nat) (c:Tr) (ys:List Tr) (x:List UInt8) (l:List Tkn) (d:Nat) (xy:List UInt8) (ly:List Tkn) (dy:Nat) (vy:List ByteArray):Pr c x l d→PrS (i+1) (.inr ys) xy ly dy vy→
  PrS i (.inl (.node 3 0 ⟨#[]⟩ [c,.node 14 0 ⟨#[]⟩ ys,.node 14 0 ⟨#[]⟩ []])) (ag3 i++(bL ax9++32::(x++32::123::10::(xy++(ag3 i++[125,10]))))) (tkW ax9::(l++tkY xQ::(ly++[tkY rH]))) (max d (dy+1)) vy
 |both (i:Nat) (c:Tr) (ys:List Tr) (n0:Tr) (ns:List Tr) (x:List UInt8) (l:List Tkn) (d:Nat) (xy:List UInt8) (ly:List Tkn) (dy:Nat) (vy:List ByteArray) (xn:List UInt8) (ln:List Tkn) (dn:Nat) (vn:List ByteArray):Pr c x l d→PrS (i+1) (.inr ys) xy ly dy vy→PrS (i+1) (.inr (n0::ns)) xn ln dn vn→
  PrS i (.inl (.node 3 0 ⟨#[]⟩ [c,.node 14 0 ⟨#[]⟩ ys,.node 14 0 ⟨#[]⟩ (n0::ns)])) (ag3 i++(bL ax9++32::(x++32::123::10::(xy++(ag3 i++125::32::(bL iK++32::123::10::(xn++(ag3 i++[125,10]))))))))
   (tkW ax9::(l++tkY xQ::(ly++tkY rH::tkW iK::tkY xQ::(ln++[tkY rH])))) (max d (max (dy+1) (dn+1))) (vy++vn)
 |rep (i:Nat) (n:Int) (ys:List Tr) (xy:List UInt8) (ly:List Tkn) (dy:Nat) (vy:List ByteArray):1≤n→n≤100→PrS (i+1) (.inr ys) xy ly dy vy→
  PrS i (.inl (.node 4 n ⟨#[]⟩ [.node 14 0 ⟨#[]⟩ ys])) (ag3 i++(bL cI++32::(bL (itS n)++32::123::10::(xy++(ag3 i++[125,10]))))) (tkW cI::tkN n::tkY xQ::(ly++[tkY rH])) (dy+1) vy
 |amt (i:Nat) (k:Int) (w:ByteArray) (n:Int) (u:ByteArray) (x:List UInt8) (l:List Tkn) (d:Nat):(k=5∧w=at8)∨(k=11∧w=uV)→Pr (.node 15 n u []) x l d→
  PrS i (.inl (.node k 0 ⟨#[]⟩ [.node 15 n u []])) (ag3 i++(bL w++32::(x++[59,10]))) (tkW w::(l++[tkY eF])) d []
 |aw4 (i:Nat) (c:Tr) (y:List UInt8) (m:List Tkn) (e:Nat) (n:Int) (u:ByteArray) (x:List UInt8) (l:List Tkn) (d:Nat):Pr c y m e→Pr (.node 15 n u []) x l d→
  PrS i (.inl (.node 6 0 ⟨#[]⟩ [c,.node 15 n u []])) (ag3 i++(bL rS++32::(y++32::(bL jT++32::(x++[59,10]))))) (tkW rS::(m++tkW jT::(l++[tkY eF]))) e []
 |one (i:Nat) (k:Int) (w:ByteArray) (a:Tr) (x:List UInt8) (l:List Tkn) (d:Nat):(k=7∧w=pJ)∨(k=8∧w=oQ)→Pr a x l d→
  PrS i (.inl (.node k 0 ⟨#[]⟩ [a])) (ag3 i++(bL w++32::(x++[59,10]))) (tkW w::(l++[tkY eF])) d []
 |use (i:Nat) (j:Int) (n:Int) (u:ByteArray) (x:List UInt8) (l:List Tkn) (d:Nat):0≤j→j≤7→Pr (.node 15 n u []) x l d→
  PrS i (.inl (.node 9 j ⟨#[]⟩ [.node 15 n u []])) (ag3 i++(bL ac0++32::(bL (itS j)++32::(bL wL++32::(x++[59,10]))))) (tkW ac0::tkN j::tkW wL::(l++[tkY eF])) d []
 |send (i:Nat) (j:Int) (n:Int) (u:ByteArray) (x:List UInt8) (l:List Tkn) (d:Nat):0≤j→j≤7→Pr (.node 15 n u []) x l d→
  PrS i (.inl (.node 10 j ⟨#[]⟩ [.node 15 n u []])) (ag3 i++(bL yO++32::(bL (itS j)++44::32::(x++[59,10])))) (tkW yO::tkN j::tkY aG::(l++[tkY eF])) d []
 |nmb (i:Nat) (k:Int) (w:ByteArray) (j:Int):(k=12∧w=jP∧j≤99)∨(k=13∧w=rK∧j≤999)→0≤j→
  PrS i (.inl (.node k j ⟨#[]⟩ [])) (ag3 i++(bL w++32::(bL (itS j)++[59,10]))) [tkW w,tkN j,tkY eF] 0 []
 |nil (i:Nat):PrS i (.inr []) [] [] 0 []
 |cons (i:Nat) (t:Tr) (ts:List Tr) (x:List UInt8) (l:List Tkn) (d:Nat) (v:List ByteArray) (xs:List UInt8) (ls:List Tkn) (ds:Nat) (vs:List ByteArray):PrS i (.inl t) x l d v→PrS i (.inr ts) xs ls ds vs→
  PrS i (.inr (t::ts)) (x++xs) (l++ls) (max d ds) (v++vs)
section
variable {T:Nat→Tkn}
theorem rY{w:ByteArray}{s:PS}(h:(T s.p).t=w):n4 T w s= .ok () (adv s):=by
 unfold n4 isP
 rw[h,if_pos (by simp)]
theorem kQ{w:ByteArray}{s:PS}(h:(T s.p).t=w):isP T w s=true:=decide_eq_true h
theorem d8{w v:ByteArray}{s:PS}(h:(T s.p).t=v)(hn:v≠w):isP T w s=false:=by
 unfold isP
 rw[h]
 exact decide_eq_false hn
theorem er8{w:ByteArray}{s:PS}(h:(T s.p).t=w)(ho:s.o<12):aE T w s= .ok () {s with p:=s.p+1,o:=s.o+1}:=by
 unfold aE isP
 rw[h,if_pos (by simp),if_neg (by omega)]
theorem ar0{s:PS}{n lo hi:Int}(k1:(T s.p).k=2)(k2:(T s.p).n=n)(h0:lo≤n)(h1:n≤hi):iD T lo hi s= .ok n (adv s):=by
 unfold iD
 rw[k1,k2,if_neg (by decide),if_neg (by omega)]
theorem bu1{s:PS}{y:ByteArray}(k1:(T s.p).k=1)(k2:(T s.p).t=y)(hr:wO y=false):aB T s= .ok y (adv s):=by
 unfold aB
 rw[k1,k2,hr,if_neg (by decide)]
theorem ec0{l:List ByteArray}{x:ByteArray}(h:x∉l):inP l x=false:=by
 cases e:inP l x with
 |false=>rfl
 |true=>exact absurd (inP_iff.1 e) h
theorem bu3{s:PS}{y:ByteArray}(k1:(T s.p).k=1)(k2:(T s.p).t=y)(hr:wO y=false)(hn:y∉s.vs)(hl:s.vs.length<12):jV T s= .ok y {s with p:=s.p+1,vs:=s.vs++[y]}:=by
 unfold jV
 rw[bu1 k1 k2 hr]
 show(if inP s.vs y=true then PR.err _ _ else if s.vs.length=12 then PR.err _ _ else _)=_
 rw[ec0 hn,if_neg (by decide),if_neg (by omega)]
 rfl
theorem cf6{n:Int}{u:ByteArray}{x:List UInt8}{l:List Tkn}{d:Nat}(h:Pr (.node 15 n u []) x l d){s:PS}(hA:At T s.p l)(hf:¬((T (s.p+l.length)).k=1∧kS (T (s.p+l.length)).t=true)):fQ T s= .ok (.node 15 n u []) (go s l.length):=by
 cases h with
 |lit n h0 h1=>
  obtain⟨⟨k1,k2,k3⟩,_⟩:=hA
  unfold fQ
  rw[ar0 k1 k3 h0 h1]
  exact if_neg hf
 |qty n u h0 h1 hu=>
  obtain⟨⟨k1,k2,k3⟩,⟨k4,k5,_⟩,_⟩:=hA
  unfold fQ
  rw[ar0 k1 k3 h0 h1]
  show(if(T (s.p+1)).k=1∧kS (T (s.p+1)).t=true then PR.ok (Tr.node 15 n (T (s.p+1)).t []) (adv (adv s))else _)=_
  rw[k5,if_pos ⟨k4,inP_iff.2 hu⟩]
  rfl
theorem ff4{x:Tkn}{w:ByteArray}(lv:Nat)(h1:1≤lv)(h:x.t=w)(hl:n6 w=0)(hu:kS w=false):Fol lv x∧¬(n6 x.t=lv∧x.k=3):=by
 refine⟨⟨fun _=>⟨by rw[h,hl];omega,fun _=>by rw[h,hl];decide⟩,fun g=>?_⟩,fun g=>?_⟩
 ·rw[h,hu]at g;exact absurd g.2 (by decide)
 ·rw[h,hl]at g;omega
theorem am8{t:Tr}{x:List UInt8}{l:List Tkn}{d:Nat}(h:Pr t x l d){s:PS}{w:ByteArray}(hA:At T s.p l)(hd:s.o+d≤12)(hw:(T (s.p+l.length)).t=w)(hl:n6 w=0)(hu:kS w=false):Ex T 1 s t (go s l.length):=by
 obtain⟨f1,f2⟩:=ff4 (x:=T (s.p+l.length)) 1 (Nat.le_refl _) hw hl hu
 exact eb3 h s 1 (Nat.le_refl _) (by decide) (do5 h).1 hA hd f1 t _ (mO f2)
theorem evc{α:Type}{r r':PR α}(h:r=r'):Ev (fun _=>r) r':=by rw[h];exact Ev.const
theorem ae3{n:Tr}{s:PS}(h:(T s.p).t=eF):endP T n s= .ok n (adv s):=by
 unfold endP
 rw[rY h]
 rfl
theorem en3{k:Int}{y:ByteArray}{a:Tr}{x:List UInt8}{l:List Tkn}{d:Nat}(h:Pr a x l d){s:PS}(hA:At T s.p (tkY ae5::(l++[tkY eF])))(hd:s.o+d≤12):Ev (fun f=>ai9 T f k y s) (.ok (.node k 0 y [a]) (go s (l.length+2))):=by
 obtain⟨⟨_,k2,_⟩,hA⟩:=hA
 obtain⟨hA,⟨_,k5,_⟩,_⟩:=hA.app
 unfold ai9
 refine Ev.bind (evc (rY k2)) (Ev.bind (am8 h (s:=adv s) hA hd k5 (by decide) (by decide)) ?_)
 refine evc ((ae3 k5).trans ?_)
 simp only[adv,go]
 congr 2
 omega
def Ok1(s:PS)(v:List ByteArray):Prop:=(s.vs++v).Nodup∧(s.vs++v).length≤12
def fc8(T:Nat→Tkn)(z:Tr⊕List Tr)(l:List Tkn)(d:Nat)(v:List ByteArray):Prop:=match z with
 | .inl t=>∀s:PS,At T s.p l→s.o+d≤12→Ok1 s v→(T (s.p+l.length)).t≠iK→Ev (fun f=>t8 T f s) (.ok t {p:=s.p+l.length,o:=s.o,vs:=s.vs++v})
 | .inr ts=>∀s:PS,At T s.p (l++[tkY rH])→s.o+d≤12→Ok1 s v→Ev (fun f=>n9 T f s) (.ok ts {p:=s.p+l.length+1,o:=s.o,vs:=s.vs++v})
theorem bi9{i:Nat}{t:Tr}{x:List UInt8}{l:List Tkn}{d:Nat}{v:List ByteArray}(h:PrS i (.inl t) x l d v):∃y m,l=y::m∧y.t≠rH∧y.t≠iK:=by
 cases h with
 |set _ s a x l d hn _=>
  refine⟨_,_,rfl,?_,?_⟩
  ·rintro e
   have e:s=rH:=e
   subst e
   obtain⟨_,_,c,l,e,h1,_⟩:=hn
   simp at e;obtain⟨rfl,_⟩:=e;exact absurd h1 (by decide)
  ·rintro e
   have e:s=iK:=e
   subst e
   exact absurd hn.1 (by decide)
 |amt _ k w n u x l d hk _=>rcases hk with⟨_,rfl⟩ | ⟨_,rfl⟩<;>exact⟨_,_,rfl,by decide,by decide⟩
 |one _ k w a x l d hk _=>rcases hk with⟨_,rfl⟩ | ⟨_,rfl⟩<;>exact⟨_,_,rfl,by decide,by decide⟩
 |nmb _ k w j hk _=>rcases hk with⟨_,rfl,_⟩ | ⟨_,rfl,_⟩<;>exact⟨_,_,rfl,by decide,by decide⟩
 |_=>exact⟨_,_,rfl,by decide,by decide⟩
theorem yI{ys:List Tr}{l:List Tkn}{d:Nat}{v:List ByteArray}(h:fc8 T (.inr ys) l d v){s:PS}(hA:At T s.p (tkY xQ::(l++[tkY rH])))(hd:s.o+(d+1)≤12)(hv:Ok1 s v):Ev (fun f=>m4 T f s) (.ok (.node 14 0 ⟨#[]⟩ ys) {p:=s.p+(l.length+2),o:=s.o,vs:=s.vs++v}):=by
 obtain⟨⟨_,k2,_⟩,hA⟩:=hA
 refine Ev.step (h:=fun f=>(aE T xQ s).bind fun _ s1=>(n9 T f s1).bind fun l s2=>.ok (.node 14 0 ⟨#[]⟩ l) (cM s2)) (fun f=>by rw[m4]) ?_
 refine Ev.bind (evc (er8 k2 (by omega))) (Ev.bind (h {s with p:=s.p+1,o:=s.o+1} hA (by show s.o+1+d≤12;omega) hv) (evc ?_))
 simp only[cM]
 congr 2
 omega
theorem Ok1.left{s:PS}{v w:List ByteArray}(h:Ok1 s (v++w)):Ok1 s v:=by
 obtain⟨h1,h2⟩:=h
 rw[←List.append_assoc]at h1 h2
 exact⟨(List.nodup_append.1 h1).1,by rw[List.length_append]at h2;omega⟩
theorem Ok1.right{s s':PS}{v w:List ByteArray}(h:Ok1 s (v++w))(e:s'.vs=s.vs++v):Ok1 s' w:=by
 unfold Ok1 at h⊢
 rw[e,List.append_assoc]
 exact h
theorem fg0{y:ByteArray}(hr:wO y=false):∀w∈keywords,y≠w:=by
 rintro w hw rfl
 unfold wO at hr
 rw[inP_iff.2 hw]at hr
 cases hr
theorem du6{i:Nat}{z:Tr⊕List Tr}{x:List UInt8}{l:List Tkn}{d:Nat}{v:List ByteArray}(h:PrS i z x l d v):fc8 T z l d v:=by
 induction h with
 |«let» i y a x l d hn hP=>
  intro s hA hd hv _
  obtain⟨⟨_,k2,_⟩,⟨k4,k5,_⟩,hA⟩:=hA
  have k2:(T s.p).t=an0:=k2
  refine Ev.step (h:=fun f=>(jV T (adv s)).bind fun x s1=>ai9 T f 1 x s1) (fun f=>by rw[t8,if_pos (kQ k2)]) ?_
  have hnd:y∉s.vs:=by
   have:=List.nodup_append.1 hv.1
   intro hm
   exact this.2.2 y hm y (by simp) rfl
  have hl:s.vs.length<12:=by have:=hv.2;rw[List.length_append]at this;simp at this;omega
  refine Ev.bind (evc (bu3 (s:=adv s) k4 k5 hn.1 hnd hl)) ((?_:Ev _ _))
  have:=en3 (T:=T) (k:=1) (y:=y) hP (s:={s with p:=s.p+2,vs:=s.vs++[y]}) hA hd
  have e:go {s with p:=s.p+2,vs:=s.vs++[y]} (l.length+2)={p:=s.p+(tkW an0::tkW y::tkY ae5::(l++[tkY eF])).length,o:=s.o,vs:=s.vs++[y]}:=by
   simp only[go,List.length_cons,List.length_append,List.length_nil]
   congr 1;omega
  rw[e]at this
  exact this
 |set i y a x l d hn hP=>
  intro s hA hd hv _
  obtain⟨⟨k1,k2,_⟩,hA⟩:=hA
  have k2:(T s.p).t=y:=k2
  have hk:=fg0 hn.1
  refine Ev.step (h:=fun f=>(aB T s).bind fun x s1=>ai9 T f 2 x s1) (fun f=>?_) ?_
  ·rw[t8,d8 k2 (hk _ (inP_iff.1 (by decide))),d8 k2 (hk _ (inP_iff.1 (by decide))),d8 k2 (hk _ (inP_iff.1 (by decide))),d8 k2 (hk _ (inP_iff.1 (by decide))),d8 k2 (hk _ (inP_iff.1 (by decide))),d8 k2 (hk _ (inP_iff.1 (by decide))),d8 k2 (hk _ (inP_iff.1 (by decide))),d8 k2 (hk _ (inP_iff.1 (by decide))),d8 k2 (hk _ (inP_iff.1 (by decide))),d8 k2 (hk _ (inP_iff.1 (by decide))),d8 k2 (hk _ (inP_iff.1 (by decide))),d8 k2 (hk _ (inP_iff.1 (by decide)))]
   rfl
  refine Ev.bind (evc (bu1 k1 k2 hn.1)) ((?_:Ev _ _))
  have:=en3 (T:=T) (k:=2) (y:=y) hP (s:=adv s) hA hd
  have e:go (adv s) (l.length+2)={p:=s.p+(tkW y::tkY ae5::(l++[tkY eF])).length,o:=s.o,vs:=s.vs++[]}:=by
   simp only[go,adv,List.length_cons,List.length_append,List.length_nil,List.append_nil]
   congr 1;omega
  rw[e]at this
  exact this
 |cond i c ys x l d xy ly dy vy hP hY ih=>
  intro s hA hd hv hf
  obtain⟨⟨_,k2,_⟩,hA⟩:=hA
  have k2:(T s.p).t=ax9:=k2
  obtain⟨hA,hB⟩:=hA.app
  have k5:=hB.1.2.1
  refine Ev.step (h:=fun f=>(j9 T f 1 (adv s)).bind fun c s1=>(m4 T f s1).bind fun y s2=>if isP T iK s2=true then(m4 T f (adv s2)).bind fun n s3=>.ok (.node 3 0 ⟨#[]⟩ [c,y,n]) s3 else .ok (.node 3 0 ⟨#[]⟩ [c,y,.node 14 0 ⟨#[]⟩ []]) s2) (fun f=>by rw[t8,d8 k2 (by decide),if_neg (by decide),if_pos (kQ k2)]) ?_
  refine Ev.bind (am8 hP (s:=adv s) hA (by show s.o+d≤12;omega) k5 (by decide) (by decide)) (Ev.bind (yI ih (s:=go (adv s) l.length) hB (by show s.o+(dy+1)≤12;omega) hv) ?_)
  have e:s.p+(tkW ax9::(l++tkY xQ::(ly++[tkY rH]))).length=s.p+1+l.length+(ly.length+2):=by simp only[List.length_cons,List.length_append,List.length_nil];omega
  rw[e]at hf⊢
  refine Ev.congr (fun f=>if_neg (by rw[d8 rfl hf];decide)) Ev.const
 |both i c ys n0 ns x l d xy ly dy vy xn ln dn vn hP hY hN ih1 ih2=>
  intro s hA hd hv hf
  obtain⟨⟨_,k2,_⟩,hA⟩:=hA
  have k2:(T s.p).t=ax9:=k2
  obtain⟨hA,hB⟩:=hA.app
  have k5:=hB.1.2.1
  obtain⟨hB0,hB⟩:=hB
  obtain⟨hB1,hB2⟩:=hB.app
  obtain⟨hB3,⟨_,k8,_⟩,hC⟩:=hB2
  have hB':At T (s.p+1+l.length) (tkY xQ::(ly++[tkY rH])):=by
   refine⟨hB0,?_⟩
   have iI:∀{a b:List Tkn} {p:Nat},At T p a→At T (p+a.length) b→At T p (a++b):=by
    intro a
    induction a with
    |nil=>intro b p _ h;simpa using h
    |cons z a iha=>intro b p h1 h2;exact⟨h1.1,iha h1.2 (by rw[show p+1+a.length=p+(z::a).length by simp only[List.length_cons];omega];exact h2)⟩
   exact iI hB1 ⟨hB3,trivial⟩
  refine Ev.step (h:=fun f=>(j9 T f 1 (adv s)).bind fun c s1=>(m4 T f s1).bind fun y s2=>if isP T iK s2=true then(m4 T f (adv s2)).bind fun n s3=>.ok (.node 3 0 ⟨#[]⟩ [c,y,n]) s3 else .ok (.node 3 0 ⟨#[]⟩ [c,y,.node 14 0 ⟨#[]⟩ []]) s2) (fun f=>by rw[t8,d8 k2 (by decide),if_neg (by decide),if_pos (kQ k2)]) ?_
  refine Ev.bind (am8 hP (s:=adv s) hA (by show s.o+d≤12;omega) k5 (by decide) (by decide)) (Ev.bind (yI ih1 (s:=go (adv s) l.length) hB' (by show s.o+(dy+1)≤12;omega) hv.left) ?_)
  have k8':(T (s.p+1+l.length+(ly.length+2))).t=iK:=by
   rw[show s.p+1+l.length+(ly.length+2)=s.p+1+l.length+1+ly.length+1 by omega];exact k8
  refine Ev.congr (fun f=>if_pos (kQ k8')) ?_
  refine Ev.bind (yI ih2 (s:={p:=s.p+1+l.length+(ly.length+2)+1,o:=s.o,vs:=s.vs++vy}) (by
   show At T (s.p+1+l.length+(ly.length+2)+1) _
   rw[show s.p+1+l.length+(ly.length+2)+1=s.p+1+l.length+1+ly.length+1+1 by omega];exact hC) (by show s.o+(dn+1)≤12;omega) (hv.right rfl)) (evc ?_)
  simp only[List.length_cons,List.length_append,List.length_nil,List.append_assoc]
  congr 2
  omega
 |rep i n ys xy ly dy vy h0 h1 hY ih=>
  intro s hA hd hv hf
  obtain⟨⟨_,k2,_⟩,⟨k4,k5,k6⟩,hB⟩:=hA
  have k2:(T s.p).t=cI:=k2
  have k6:(T (s.p+1)).n=n:=k6
  refine Ev.step (h:=fun f=>(iD T 1 100 (adv s)).bind fun n s1=>(m4 T f s1).bind fun y s2=>.ok (.node 4 n ⟨#[]⟩ [y]) s2) (fun f=>by rw[t8,d8 k2 (by decide),if_neg (by decide),d8 k2 (by decide),if_neg (by decide),if_pos (kQ k2)]) ?_
  refine Ev.bind (evc (ar0 (s:=adv s) k4 k6 h0 h1)) (Ev.bind (yI ih (s:=adv (adv s)) hB hd hv) (evc ?_))
  simp only[List.length_cons,List.length_append,List.length_nil,adv]
  congr 2
  omega
 |amt i k w n u x l d hk hP=>
  intro s hA hd hv hf
  obtain⟨⟨_,k2,_⟩,hA⟩:=hA
  have k2:(T s.p).t=w:=k2
  obtain⟨hA,⟨_,k5,_⟩,_⟩:=hA.app
  have hl:=cf6 hP (s:=adv s) hA (by rw[show(T ((adv s).p+l.length)).t=eF from k5];exact fun h=>absurd h.2 (by decide))
  refine Ev.step (h:=fun f=>bl8 T k (adv s)) (fun f=>?_) (evc ?_)
  ·rcases hk with⟨rfl,rfl⟩ | ⟨rfl,rfl⟩
   ·rw[t8,d8 k2 (by decide),if_neg (by decide),d8 k2 (by decide),if_neg (by decide),d8 k2 (by decide),if_neg (by decide),d8 k2 (by decide),if_neg (by decide),if_pos (kQ k2)]
   ·rw[t8,d8 k2 (by decide),if_neg (by decide),d8 k2 (by decide),if_neg (by decide),d8 k2 (by decide),if_neg (by decide),d8 k2 (by decide),if_neg (by decide),d8 k2 (by decide),if_neg (by decide),if_pos (kQ k2)]
  ·unfold bl8
   rw[hl]
   refine(ae3 k5).trans ?_
   simp only[adv,go,List.length_cons,List.length_append,List.length_nil,List.append_nil]
   congr 2
   omega
 |aw4 i c y m e n u x l d hC hP=>
  intro s hA hd hv hf
  obtain⟨⟨_,k2,_⟩,hA⟩:=hA
  have k2:(T s.p).t=rS:=k2
  obtain⟨hA,⟨_,k5,_⟩,hB⟩:=hA.app
  obtain⟨hB,⟨_,k8,_⟩,_⟩:=hB.app
  have hl:=cf6 hP (s:=adv (go (adv s) m.length)) hB (by rw[show(T ((adv (go (adv s) m.length)).p+l.length)).t=eF from k8];exact fun h=>absurd h.2 (by decide))
  refine Ev.step (h:=fun f=>yM T f (adv s)) (fun f=>by rw[t8,d8 k2 (by decide),if_neg (by decide),d8 k2 (by decide),if_neg (by decide),d8 k2 (by decide),if_neg (by decide),if_pos (kQ k2)]) ?_
  unfold yM
  refine Ev.bind (am8 hC (s:=adv s) hA hd k5 (by decide) (by decide)) (Ev.bind (evc (rY k5)) (evc ?_))
  show(fQ T (adv (go (adv s) m.length))).bind _=_
  rw[hl]
  refine(ae3 k8).trans ?_
  simp only[adv,go,List.length_cons,List.length_append,List.length_nil,List.append_nil]
  congr 2
  omega
 |one i k w a x l d hk hP=>
  intro s hA hd hv hf
  obtain⟨⟨_,k2,_⟩,hA⟩:=hA
  have k2:(T s.p).t=w:=k2
  obtain⟨hA,⟨_,k5,_⟩,_⟩:=hA.app
  refine Ev.step (h:=fun f=>bn2 T f k (adv s)) (fun f=>?_) ?_
  ·rcases hk with⟨rfl,rfl⟩ | ⟨rfl,rfl⟩
   ·rw[t8,d8 k2 (by decide),if_neg (by decide),d8 k2 (by decide),if_neg (by decide),d8 k2 (by decide),if_neg (by decide),d8 k2 (by decide),if_neg (by decide),d8 k2 (by decide),if_neg (by decide),d8 k2 (by decide),if_neg (by decide),if_pos (kQ k2)]
   ·rw[t8,d8 k2 (by decide),if_neg (by decide),d8 k2 (by decide),if_neg (by decide),d8 k2 (by decide),if_neg (by decide),d8 k2 (by decide),if_neg (by decide),d8 k2 (by decide),if_neg (by decide),d8 k2 (by decide),if_neg (by decide),d8 k2 (by decide),if_neg (by decide),if_pos (kQ k2)]
  ·unfold bn2
   refine Ev.bind (am8 hP (s:=adv s) hA hd k5 (by decide) (by decide)) (evc ((ae3 k5).trans ?_))
   simp only[adv,go,List.length_cons,List.length_append,List.length_nil,List.append_nil]
   congr 2
   omega
 |use i j n u x l d h0 h1 hP=>
  intro s hA hd hv hf
  obtain⟨⟨_,k2,_⟩,⟨k4,_,k6⟩,⟨_,k8,_⟩,hA⟩:=hA
  have k2:(T s.p).t=ac0:=k2
  have k6:(T (s.p+1)).n=j:=k6
  have k8:(T (s.p+1+1)).t=wL:=k8
  obtain⟨hA,⟨_,k11,_⟩,_⟩:=hA.app
  have hl:=cf6 hP (s:=adv (adv (adv s))) hA (by rw[show(T ((adv (adv (adv s))).p+l.length)).t=eF from k11];exact fun h=>absurd h.2 (by decide))
  refine Ev.step (h:=fun f=>ay1 T 9 wL (adv s)) (fun f=>?_) (evc ?_)
  ·rw[t8,d8 k2 (by decide),if_neg (by decide),d8 k2 (by decide),if_neg (by decide),d8 k2 (by decide),if_neg (by decide),d8 k2 (by decide),if_neg (by decide),d8 k2 (by decide),if_neg (by decide),d8 k2 (by decide),if_neg (by decide),d8 k2 (by decide),if_neg (by decide),d8 k2 (by decide),if_neg (by decide),if_pos (kQ k2)]
  ·unfold ay1
   rw[ar0 (s:=adv s) k4 k6 h0 h1]
   show(n4 T wL (adv (adv s))).bind _=_
   rw[rY (s:=adv (adv s)) k8]
   show(fQ T (adv (adv (adv s)))).bind _=_
   rw[hl]
   refine(ae3 k11).trans ?_
   simp only[adv,go,List.length_cons,List.length_append,List.length_nil,List.append_nil]
   congr 2
   omega
 |send i j n u x l d h0 h1 hP=>
  intro s hA hd hv hf
  obtain⟨⟨_,k2,_⟩,⟨k4,_,k6⟩,⟨_,k8,_⟩,hA⟩:=hA
  have k2:(T s.p).t=yO:=k2
  have k6:(T (s.p+1)).n=j:=k6
  have k8:(T (s.p+1+1)).t=aG:=k8
  obtain⟨hA,⟨_,k11,_⟩,_⟩:=hA.app
  have hl:=cf6 hP (s:=adv (adv (adv s))) hA (by rw[show(T ((adv (adv (adv s))).p+l.length)).t=eF from k11];exact fun h=>absurd h.2 (by decide))
  refine Ev.step (h:=fun f=>ay1 T 10 aG (adv s)) (fun f=>?_) (evc ?_)
  ·rw[t8,d8 k2 (by decide),if_neg (by decide),d8 k2 (by decide),if_neg (by decide),d8 k2 (by decide),if_neg (by decide),d8 k2 (by decide),if_neg (by decide),d8 k2 (by decide),if_neg (by decide),d8 k2 (by decide),if_neg (by decide),d8 k2 (by decide),if_neg (by decide),d8 k2 (by decide),if_neg (by decide),d8 k2 (by decide),if_neg (by decide),if_pos (kQ k2)]
  ·unfold ay1
   rw[ar0 (s:=adv s) k4 k6 h0 h1]
   show(n4 T aG (adv (adv s))).bind _=_
   rw[rY (s:=adv (adv s)) k8]
   show(fQ T (adv (adv (adv s)))).bind _=_
   rw[hl]
   refine(ae3 k11).trans ?_
   simp only[adv,go,List.length_cons,List.length_append,List.length_nil,List.append_nil]
   congr 2
   omega
 |nmb i k w j hk h0=>
  intro s hA hd hv hf
  obtain⟨⟨_,k2,_⟩,⟨k4,_,k6⟩,⟨_,k8,_⟩,_⟩:=hA
  have k2:(T s.p).t=w:=k2
  have k6:(T (s.p+1)).n=j:=k6
  have k8:(T (s.p+1+1)).t=eF:=k8
  have fin:∀hi,j≤hi→ay6 T k hi (adv s)= .ok (.node k j ⟨#[]⟩ []) {p:=s.p+[tkW w,tkN j,tkY eF].length,o:=s.o,vs:=s.vs++[]}:=by
   intro hi h1
   unfold ay6
   rw[ar0 (s:=adv s) k4 k6 h0 h1]
   refine(ae3 k8).trans ?_
   simp only[adv,go,List.length_cons,List.length_nil,List.append_nil]
  rcases hk with⟨rfl,rfl,h1⟩ | ⟨rfl,rfl,h1⟩
  ·refine Ev.step (h:=fun f=>ay6 T 12 99 (adv s)) (fun f=>?_) (evc (fin 99 h1))
   rw[t8,d8 k2 (by decide),if_neg (by decide),d8 k2 (by decide),if_neg (by decide),d8 k2 (by decide),if_neg (by decide),d8 k2 (by decide),if_neg (by decide),d8 k2 (by decide),if_neg (by decide),d8 k2 (by decide),if_neg (by decide),d8 k2 (by decide),if_neg (by decide),d8 k2 (by decide),if_neg (by decide),d8 k2 (by decide),if_neg (by decide),d8 k2 (by decide),if_neg (by decide),if_pos (kQ k2)]
  ·refine Ev.step (h:=fun f=>ay6 T 13 999 (adv s)) (fun f=>?_) (evc (fin 999 h1))
   rw[t8,d8 k2 (by decide),if_neg (by decide),d8 k2 (by decide),if_neg (by decide),d8 k2 (by decide),if_neg (by decide),d8 k2 (by decide),if_neg (by decide),d8 k2 (by decide),if_neg (by decide),d8 k2 (by decide),if_neg (by decide),d8 k2 (by decide),if_neg (by decide),d8 k2 (by decide),if_neg (by decide),d8 k2 (by decide),if_neg (by decide),d8 k2 (by decide),if_neg (by decide),d8 k2 (by decide),if_neg (by decide),if_pos (kQ k2)]
 |nil i=>
  intro s hA hd hv
  obtain⟨⟨_,k2,_⟩,_⟩:=hA
  have k2:(T s.p).t=rH:=k2
  refine Ev.step (h:=fun f=>.ok [] (adv s)) (fun f=>by rw[n9,if_pos (kQ k2)]) (evc ?_)
  simp only[adv,List.length_nil,List.append_nil,Nat.add_zero]
 |cons i t ts x l d v xs ls ds vs h1 h2 ih1 ih2=>
  intro s hA hd hv
  rw[List.append_assoc]at hA
  obtain⟨hA1,hA2⟩:=hA.app
  obtain⟨y,m,e1,f1,f2⟩:=bi9 h1
  have hne:(T (s.p+l.length)).t≠iK:=by
   cases h2 with
   |nil=>rw[hA2.1.2.1];decide
   |cons _ t' ts' x' l' d' v' xs' ls' ds' vs' g1 g2=>
    obtain⟨y',m',e',f1',f2'⟩:=bi9 g1
    rw[e']at hA2
    rw[hA2.1.2.1];exact f2'
  have hno:isP T rH s=false:=by
   rw[e1]at hA1
   exact d8 hA1.1.2.1 f1
  refine Ev.step (h:=fun f=>(t8 T f s).bind fun n s1=>(n9 T f s1).bind fun l s2=>.ok (n::l) s2) (fun f=>by rw[n9,if_neg (by rw[hno];decide)]) ?_
  refine Ev.bind (ih1 s hA1 (by omega) hv.left hne) (Ev.bind (ih2 {p:=s.p+l.length,o:=s.o,vs:=s.vs++v} hA2 (by show s.o+ds≤12;omega) (hv.right rfl)) (evc ?_))
  simp only[List.length_append,List.append_assoc]
  congr 2
  omega
def au0(m:Prm):List Tkn:=tkW m.x::(if m.u=⟨#[]⟩then[]else[tkY vO,tkW m.u])
def fl7(m:Prm):List UInt8:=bL m.x++(if m.u=⟨#[]⟩then[]else 58::32::bL m.u)
def tS:List Prm→List Tkn
 | []=>[]
 | [m]=>au0 m
 |m::n::l=>au0 m++tkY aG::tS (n::l)
def fc6:List Prm→List UInt8
 | []=>[]
 | [m]=>fl7 m
 |m::n::l=>fl7 m++44::32::fc6 (n::l)
def ep1(m:Prm):Prop:=bg6 m.x∧(m.u=⟨#[]⟩∨m.u∈bu4)
structure PrP(c:Prc)(x:List UInt8)(l:List Tkn):Prop where
 mk'::
 nm:bg6 c.x
 pm:∀m∈c.ps,ep1 m
 bd:∃ys xy ly dy vy,PrS 1 (.inr ys) xy ly dy vy∧c.b= .node 14 0 ⟨#[]⟩ ys∧dy+1≤12∧(c.ps.map Prm.x++vy).Nodup∧(c.ps.map Prm.x++vy).length≤12∧
  x=bL o7++32::(bL c.x++40::(fc6 c.ps++41::32::123::10::(xy++[125,10])))∧l=tkW o7::tkW c.x::tkY fH::(tS c.ps++tkY aF::tkY xQ::(ly++[tkY rH]))
theorem eq8{m:Prm}(h:ep1 m){s:PS}(hA:At T s.p (au0 m))(hv:Ok1 s [m.x])(hc:(T (s.p+(au0 m).length)).t≠vO):at5 T s= .ok m {p:=s.p+(au0 m).length,o:=s.o,vs:=s.vs++[m.x]}:=by
 obtain⟨x,u⟩:=m
 obtain⟨⟨h1,_⟩,h2⟩:=h
 have hnd:x∉s.vs:=by
  have:=List.nodup_append.1 hv.1
  intro hm
  exact this.2.2 x hm x (by simp) rfl
 have hl:s.vs.length<12:=by have:=hv.2;rw[List.length_append]at this;simp at this;omega
 unfold au0 at hA hc⊢
 dsimp only at hA hc⊢
 unfold at5
 by_cases hu:u=⟨#[]⟩
 ·subst hu
  rw[if_pos rfl]at hA hc⊢
  rw[bu3 hA.1.1 hA.1.2.1 h1 hnd hl]
  show(if isP T vO _=true then _ else _)=_
  rw[d8 rfl hc,if_neg (by decide)]
  rfl
 ·rw[if_neg hu]at hA hc⊢
  obtain⟨⟨k1,k2,_⟩,⟨_,k5,_⟩,⟨k7,k8,_⟩,_⟩:=hA
  have k8:(T (s.p+1+1)).t=u:=k8
  rw[bu3 k1 k2 h1 hnd hl]
  show(if isP T vO _=true then(if(T (s.p+1+1)).k≠1 then _ else if kS (T (s.p+1+1)).t=false then _ else PR.ok (Prm.mk x (T (s.p+1+1)).t) _)else _)=_
  have hu2:kS u=true:=by
   rcases h2 with h2|h2
   ·exact absurd h2 hu
   ·exact inP_iff.2 h2
  have k7:(T (s.p+1+1)).k=1:=k7
  rw[if_pos (kQ k5),k7,if_neg (by decide),k8,hu2,if_neg (by decide)]
  rfl
theorem dm3:∀{l:List Prm} {s:PS},l≠[]→(∀m∈l,ep1 m)→At T s.p (tS l++[tkY aF])→Ok1 s (l.map Prm.x)→Ev (fun f=>mJ T f s) (.ok l {p:=s.p+(tS l).length+1,o:=s.o,vs:=s.vs++l.map Prm.x})
 | [],s,h0,_,_,_=>absurd rfl h0
 | [m],s,_,hm,hA,hv=>by
  obtain⟨hA1,⟨_,k2,_⟩,_⟩:=hA.app
  have k2:(T (s.p+(au0 m).length)).t=aF:=k2
  refine Ev.step (h:=fun f=>(at5 T s).bind fun x s1=>if isP T aG s1=true then(mJ T f (adv s1)).bind fun l s2=>.ok (x::l) s2 else(n4 T aF s1).bind fun _ s2=>.ok [x] s2) (fun f=>by rw[mJ]) ?_
  refine Ev.bind (evc (eq8 (hm m (by simp)) hA1 hv (by rw[k2];decide))) ?_
  refine Ev.congr (fun f=>if_neg (by rw[d8 (s:={p:=s.p+(au0 m).length,o:=s.o,vs:=s.vs++[m.x]}) k2 (by decide)];decide)) (evc ?_)
  rw[rY (s:={p:=s.p+(au0 m).length,o:=s.o,vs:=s.vs++[m.x]}) k2]
  rfl
 |m::n::l,s,_,hm,hA,hv=>by
  rw[show tS (m::n::l)++[tkY aF]=au0 m++tkY aG::(tS (n::l)++[tkY aF])by simp[tS]]at hA
  obtain⟨hA1,⟨_,k2,_⟩,hA2⟩:=hA.app
  have k2:(T (s.p+(au0 m).length)).t=aG:=k2
  have hv:Ok1 s ([m.x]++(n::l).map Prm.x):=hv
  refine Ev.step (h:=fun f=>(at5 T s).bind fun x s1=>if isP T aG s1=true then(mJ T f (adv s1)).bind fun l s2=>.ok (x::l) s2 else(n4 T aF s1).bind fun _ s2=>.ok [x] s2) (fun f=>by rw[mJ]) ?_
  refine Ev.bind (evc (eq8 (hm m (by simp)) hA1 hv.left (by rw[k2];decide))) ?_
  refine Ev.congr (fun f=>if_pos (kQ (s:={p:=s.p+(au0 m).length,o:=s.o,vs:=s.vs++[m.x]}) k2)) ?_
  refine Ev.bind (dm3 (l:=n::l) (s:={p:=s.p+(au0 m).length+1,o:=s.o,vs:=s.vs++[m.x]}) (by simp) (fun m' h=>hm m' (by simp at h⊢;exact .inr h)) hA2 (hv.right rfl)) (evc ?_)
  simp only[tS,List.length_append,List.length_cons,List.map_cons,List.append_assoc,List.cons_append,List.nil_append]
  congr 2
  omega
theorem ew1{c:Prc}{x:List UInt8}{l:List Tkn}(h:PrP c x l){pr:List ByteArray}{s:PS}(hA:At T s.p l)(ho:s.o=0)(hn:c.x∉pr):∃v,Ev (fun f=>kR T f pr s) (.ok c {p:=s.p+l.length,o:=0,vs:=v}):=by
 obtain⟨⟨hr,_⟩,hm,ys,xy,ly,dy,vy,hS,hb,hd,hv1,hv2,rfl,rfl⟩:=h
 obtain⟨cx,ps,cb⟩:=c
 dsimp only at*
 subst hb
 obtain⟨⟨_,k2,_⟩,⟨k4,k5,_⟩,⟨_,k8,_⟩,hA⟩:=hA
 have k5:(T (s.p+1)).t=cx:=k5
 obtain⟨hA,hB⟩:=hA.app
 refine⟨ps.map Prm.x++vy,?_⟩
 unfold kR
 refine Ev.bind (evc (rY k2)) (Ev.bind (evc (bu1 (s:=adv s) k4 k5 hr)) ?_)
 refine Ev.congr (fun f=>if_neg (by rw[ec0 hn];decide)) ?_
 have hps:Ev (fun f=>bY T f {(adv (adv s))with vs:=[]}) (.ok ps {p:=s.p+1+1+1+(tS ps).length+1,o:=s.o,vs:=ps.map Prm.x}):=by
  unfold bY
  refine Ev.bind (evc (rY (s:={(adv (adv s))with vs:=[]}) k8)) ?_
  cases ps with
  |nil=>
   have k9:(T (s.p+1+1+1)).t=aF:=hB.1.2.1
   refine Ev.congr (fun f=>if_pos (kQ (s:=adv {(adv (adv s))with vs:=[]}) k9)) (evc rfl)
  |cons m ps=>
   have hfst:(T (s.p+1+1+1)).t=m.x:=by
    have:∀ps:List Prm,∃r,tS (m::ps)=tkW m.x::r:=by
     intro ps
     cases ps with
     |nil=>exact⟨_,rfl⟩
     |cons a b=>exact⟨_,rfl⟩
    obtain⟨r,e⟩:=this ps
    rw[e]at hA
    exact hA.1.2.1
   have hnp:m.x≠aF:=by
    intro e
    obtain⟨_,_,c,l,e1,h1,_⟩:=(hm m (by simp)).1
    rw[e]at e1
    simp at e1;obtain⟨rfl,_⟩:=e1;exact absurd h1 (by decide)
   refine Ev.congr (fun f=>if_neg (by rw[d8 (s:=adv {(adv (adv s))with vs:=[]}) hfst hnp];decide)) ?_
   have iI:∀{a b:List Tkn} {p:Nat},At T p a→At T (p+a.length) b→At T p (a++b):=by
    intro a
    induction a with
    |nil=>intro b p _ h;simpa using h
    |cons z a iha=>intro b p h1 h2;exact⟨h1.1,iha h1.2 (by rw[show p+1+a.length=p+(z::a).length by simp only[List.length_cons];omega];exact h2)⟩
   have hok:Ok1 (adv {(adv (adv s))with vs:=[]}) ((m::ps).map Prm.x):=by
    refine⟨?_,?_⟩
    ·show([]++(m::ps).map Prm.x).Nodup
     rw[List.nil_append]
     exact(List.nodup_append.1 hv1).1
    ·show([]++(m::ps).map Prm.x).length≤12
     rw[List.nil_append]
     rw[List.length_append]at hv2;omega
   have:=dm3 (T:=T) (l:=m::ps) (s:=adv {(adv (adv s))with vs:=[]}) (by simp) hm (iI hA ⟨hB.1,trivial⟩) hok
   exact this
 refine Ev.bind hps ?_
 have hbl:=yI (T:=T) (du6 hS) (s:={p:=s.p+1+1+1+(tS ps).length+1,o:=s.o,vs:=ps.map Prm.x}) hB.2 (by show s.o+(dy+1)≤12;omega) ⟨hv1,hv2⟩
 refine Ev.bind hbl (evc ?_)
 simp only[List.length_cons,List.length_append,List.length_nil,ho]
 congr 2
 omega
inductive PrPs:List Prc→List UInt8→List Tkn→Prop
 |nil:PrPs [] [] []
 |cons (c:Prc) (cs:List Prc) (x:List UInt8) (l:List Tkn) (xs:List UInt8) (ls:List Tkn):PrP c x l→PrPs cs xs ls→PrPs (c::cs) (x++xs) (l++ls)
theorem ex0{c:Prc}{x:List UInt8}{l:List Tkn}(h:PrP c x l):∃r,l=tkW o7::r:=by
 obtain⟨_,_,ys,xy,ly,dy,vy,hS,hb,hd,hv1,hv2,rfl,rfl⟩:=h
 exact⟨_,rfl⟩
theorem ed1{cs:List Prc}{x:List UInt8}{l:List Tkn}(h:PrPs cs x l):∀{pr:List ByteArray} {s:PS},At T s.p l→s.o=0→(T (s.p+l.length)).k=0→(pr++cs.map Prc.x).Nodup→∃s',Ev (fun f=>i7 T f pr s) (.ok cs s'):=by
 induction h with
 |nil=>
  intro pr s _ _ hk _
  have hk:(T s.p).k=0:=hk
  exact⟨s,Ev.step (h:=fun f=>.ok [] s) (fun f=>by rw[i7,if_pos hk]) Ev.const⟩
 |cons c cs x l xs ls hP _ ih=>
  intro pr s hA ho hk hn
  obtain⟨hA1,hA2⟩:=hA.app
  have hcx:c.x∉pr:=by
   have:=List.nodup_append.1 hn
   intro hm
   exact this.2.2 c.x hm c.x (by simp) rfl
  obtain⟨v,hc⟩:=ew1 hP hA1 ho hcx
  obtain⟨s',hs'⟩:=ih (pr:=pr++[c.x]) (s:={p:=s.p+l.length,o:=0,vs:=v}) hA2 rfl (by
   show(T (s.p+l.length+ls.length)).k=0
   rw[List.length_append,←Nat.add_assoc]at hk
   exact hk) (by rw[List.append_assoc];exact hn)
  refine⟨s',Ev.step (h:=fun f=>(kR T f pr s).bind fun x s1=>(i7 T f (pr++[x.x]) s1).bind fun l s2=>.ok (x::l) s2) (fun f=>?_) (Ev.bind hc (Ev.bind hs' Ev.const))⟩
  obtain⟨r,rfl⟩:=ex0 hP
  have hk1:(T s.p).k=1:=hA1.1.1
  rw[i7,if_neg (by rw[hk1];decide)]
end
end Go.Proofs.Lx
/- The chapter's examples are parsed. -/
namespace Go.Proofs.YtcijknknahbbnaaGreatDoor
open Go Go.Am Go.RowKit Go.Proofs.Lx
set_option maxRecDepth 100000
theorem uJ{s:ByteArray}{acc acc':List Tkn}(h:fT s (acc++[as7 s],0,0))(g:fT s (acc'++[as7 s],0,0)):acc=acc':=List.append_cancel_right (congrArg (fun r:List Tkn×Nat×Int=>r.1) (nE h g))
theorem bc0{s:ByteArray}{r r':List Prc×Int×Int}(h:ParseR s r)(g:ParseR s r'):r=r':=by
 cases h with
 |lex p e h1 h2=>
  cases g with
  |lex p' e' g1 g2=>
   have:=nE h1 g1
   have e1:p=p':=congrArg (fun r=>r.2.1) this
   have e2:e=e':=congrArg (fun r=>r.2.2) this
   rw[e1,e2]
  |ok acc l s' g1 g2 g3=>exact absurd (congrArg (fun r=>r.2.2) (nE h1 g1)) h2
  |err acc p c g1 g2 g3 g4=>exact absurd (congrArg (fun r=>r.2.2) (nE h1 g1)) h2
 |ok acc l s1 h1 h2 h3=>
  cases g with
  |lex p' e' g1 g2=>exact absurd (congrArg (fun r=>r.2.2) (nE g1 h1)) g2
  |ok acc' l' s' g1 g2 g3=>
   obtain rfl:=uJ h1 g1
   rw[h3]at g3
   injection g3 with e1 e2
   rw[e1]
  |err acc' p c g1 g2 g3 g4=>
   obtain rfl:=uJ h1 g1
   rw[h3]at g4
   cases g4
 |err acc p c h1 h2 h3 h4=>
  cases g with
  |lex p' e' g1 g2=>exact absurd (congrArg (fun r=>r.2.2) (nE g1 h1)) g2
  |ok acc' l' s' g1 g2 g3=>
   obtain rfl:=uJ h1 g1
   rw[h4]at g3
   cases g3
  |err acc' p' c' g1 g2 g3 g4=>
   obtain rfl:=uJ h1 g1
   rw[h4]at g4
   injection g4 with e1 e2
   rw[e1,e2]
theorem ej7{s:ByteArray}{acc:List Tkn}(h:fT s (acc++[as7 s],0,0)):TokN (acc.length+1) (s8 s acc):=by
 rcases bh0 s 3000000000 (by decide)with⟨z,h1,h2,p,h3,h4⟩ | ⟨acc',h1,h2,h3⟩
 ·exact absurd (congrArg (fun r=>r.2.2) (nE h4 h)) h2
 ·obtain rfl:=uJ h h3
  exact h2
end Go.Proofs.YtcijknknahbbnaaGreatDoor
/- Plain: the text of procedures has its tokens; what is printed is read. -/
namespace Go.Proofs.Lx
open Go Go.Proofs.YtcijknknahbbnaaGreatDoor
set_option maxRecDepth 100000
theorem dj5{w:ByteArray}(hw:inP keywords w=true){r:List UInt8}{m:List Tkn}(h:Ls r m):Ls (bL w++32::r) (tkW w::m):=dl6 (dx6 w (inP_iff.1 hw)) (al8 (by decide)) (qM h)
theorem et9{s:ByteArray}{ts l:List Tkn}(h:Same3 ts l):At (s8 s ts) 0 l:=by
 have key:∀{ts l:List Tkn},Same3 ts l→∀(T:Nat→Tkn) (p:Nat),(∀j (hj:j<ts.length),T (p+j)=ts[j])→At T p l:=by
  intro ts l h
  induction h with
  |nil=>intro T p _;trivial
  |cons h1 _ ih=>
   intro T p hT
   have h0:=hT 0 (by simp)
   refine⟨?_,ih T (p+1) fun j hj=>?_⟩
   ·rw[Nat.add_zero]at h0
    rw[h0];exact h1
   ·have:=hT (j+1) (by simpa using hj)
    rw[show p+1+j=p+(j+1)by omega,this]
    rfl
 refine key h _ 0 fun j hj=>?_
 unfold s8
 rw[Nat.zero_add,List.getD_eq_getElem?_getD,List.getElem?_eq_getElem hj]
 rfl
theorem db7{s:ByteArray}{l:List Tkn}{cs:List Prc}(hl:Ls s.data.toList l)(hs:s.size≤4000)(h:∀T:Nat→Tkn,At T 0 l→(T l.length).k=0→∃s',Ev (fun f=>i7 T f [] ⟨0,0,[]⟩) (.ok cs s')):ParseR s (cs,0,0):=by
 obtain⟨ts,h1,h2⟩:=eb4 hl hs
 have hN:=ej7 (s:=s) (acc:=ts) h1
 have hend:(s8 s ts l.length).k=0:=by
  unfold s8
  rw[List.getD_eq_getElem?_getD,List.getElem?_eq_none (by rw[h2.len];exact Nat.le_refl _)]
  rfl
 obtain⟨s',f0,hf⟩:=h (s8 s ts) (et9 h2) hend
 have hr:=as4 s
 have e:i7 (s8 s ts) ax2 [] ⟨0,0,[]⟩= .ok cs s':=by
  obtain⟨r,hr,_⟩:=as4 s
  have hno:i7 (s8 s ts) ax2 [] ⟨0,0,[]⟩≠ .out:=by
   cases hr with
   |lex p e g1 g2=>exact absurd (congrArg (fun r=>r.2.2) (nE g1 h1)) g2
   |ok acc l s'' g1 g2 g3=>
    obtain rfl:=uJ h1 g1
    rw[g3];intro e;cases e
   |err acc p c g1 g2 g3 g4=>
    obtain rfl:=uJ h1 g1
    rw[g4];intro e;cases e
  have:=cu7 (T:=s8 s ts) (U:=s8 s ts) (fun j=>⟨rfl,rfl,rfl⟩) (Nat.le_max_right f0 ax2) [] ⟨0,0,[]⟩ hno
  rw[←this]
  exact hf _ (Nat.le_max_left _ _)
 exact .ok ts cs s' h1 hN e
end Go.Proofs.Lx
/- Plain: the sources of VmFuel, as they are parsed. -/
namespace Go.Proofs.Lx
open Go Go.Proofs.YtcijknknahbbnaaGreatDoor
set_option maxRecDepth 100000
def ag8:Tr:=.node 12 5 ⟨#[]⟩ []
def pW:Nat→List UInt8
 |0=>[]
 |k+1=>bL jP++32::((itS 5).data.toList++59::32::pW k)
def ad9:Nat→List Tkn
 |0=>[]
 |k+1=>[tkW jP,tkN 5,tkY eF]++ad9 k
theorem cj2{r:List UInt8}{m:List Tkn}(h:Ls r m):∀k,Ls (pW k++r) (ad9 k++m)
 |0=>h
 |k+1=>by
  have:=dj5 (w:=jP) (by decide) (eh6 (n:=5) (by decide) (by decide) (al8 (by decide)) (ac8 (c:=59) (by decide) (oY (by decide)) (qM (cj2 h k))))
  simpa[pW,ad9,bL,mkB]using this
theorem cu4(i:Nat):∀k,∃x,PrS i (.inr (List.replicate k ag8)) x (ad9 k) 0 []
 |0=>⟨_,.nil i⟩
 |k+1=>by
  obtain⟨x,h⟩:=cu4 i k
  exact⟨_,.cons i ag8 (List.replicate k ag8) _ _ 0 [] x (ad9 k) 0 [] (.nmb i 12 jP 5 (.inl ⟨rfl,rfl,by decide⟩) (by decide)) h⟩
def pN:ByteArray:=⟨#[112]⟩
def cm3(t:Int)(k:Nat):Prc:=⟨pN,[],.node 14 0 ⟨#[]⟩ [.node 4 t ⟨#[]⟩ [.node 14 0 ⟨#[]⟩ (List.replicate k ag8)]]⟩
def bj6(t:Int)(k:Nat):List UInt8:=bL o7++32::(bL pN++40::41::32::123::32::(bL cI++32::((itS t).data.toList++32::123::32::(pW k++125::32::[125]))))
def eh2(t:Int)(k:Nat):List Tkn:=tkW o7::tkW pN::tkY fH::(tS []++tkY aF::tkY xQ::(((tkW cI::tkN t::tkY xQ::(ad9 k++[tkY rH]))++[])++[tkY rH]))
theorem pN_ok:bg6 pN:=⟨by decide,by decide,112,[],rfl,by decide,by decide⟩
theorem er4{t:Int}(h0:1≤t)(h1:t≤100)(k:Nat):∃x,PrP (cm3 t k) x (eh2 t k):=by
 obtain⟨xy,hy⟩:=cu4 2 k
 exact⟨_,pN_ok,fun m hm=>(by cases hm),_,_,_,_,_,.cons 1 _ [] _ _ _ _ _ _ _ _ (.rep 1 t _ xy (ad9 k) 0 [] h0 h1 hy) (.nil 1),rfl,by decide,List.nodup_nil,Nat.zero_le _,rfl,rfl⟩
theorem eu9{t:Int}(h0:1≤t)(h1:t≤100)(k:Nat):Ls (bj6 t k) (eh2 t k):=by
 have e1:Ls (125::32::[125]) [tkY rH,tkY rH]:=ac8 (c:=125) (by decide) (oY (by decide)) (qM (ac8 (c:=125) (by decide) (fun d hd=>by cases hd) .nil))
 have e2:=dj5 (w:=cI) (by decide) (eh6 (n:=t) (by omega) (by omega) (al8 (by decide)) (qM (ac8 (c:=123) (by decide) (oY (by decide)) (qM (cj2 e1 k)))))
 have e3:=dj5 (w:=o7) (by decide) (dl6 pN_ok.2 (al8 (c:=40) (by decide)) (ac8 (c:=40) (by decide) (oY (by decide)) (ac8 (c:=41) (by decide) (oY (by decide)) (qM (ac8 (c:=123) (by decide) (oY (by decide)) (qM e2))))))
 simpa[bj6,eh2,bL,mkB,tS]using e3
theorem bk0:∀k,(pW k).length=8*k
 |0=>rfl
 |k+1=>by
  have e:(itS 5).data.toList=[53]:=by decide+kernel
  have e2:bL jP=[101,109,105,116]:=rfl
  simp only[pW,e,e2,List.length_append,List.length_cons,List.length_nil,bk0 k]
  omega
theorem ae4{t:Int}(h0:1≤t)(h1:t≤100){k:Nat}(hk:k≤9){s:ByteArray}(hs:s.data.toList=bj6 t k):ParseR s ([cm3 t k],0,0):=by
 obtain⟨x,hP⟩:=er4 h0 h1 k
 refine db7 (l:=eh2 t k) (by rw[hs];exact eu9 h0 h1 k) ?_ fun T hA hz=>?_
 ·have e:s.size=(bj6 t k).length:=by rw[←hs];exact(lG s).symm
  have e2:(itS t).data.toList.length≤10:=by
   rw[lG]
   exact cq0 (by omega) (by omega)
  have e3:bL o7=[112,114,111,99,101,100,117,114,101]:=rfl
  have e4:bL cI=[114,101,112,101,97,116]:=rfl
  have e5:bL pN=[112]:=rfl
  rw[e]
  simp only[bj6,e3,e4,e5,List.length_append,List.length_cons,List.length_nil,bk0]
  omega
 ·have h2:=PrPs.cons (cm3 t k) [] x (eh2 t k) [] [] hP .nil
  simp only[List.append_nil]at h2
  exact ed1 h2 hA rfl (by rw[Nat.zero_add];exact hz) (by simp)
end Go.Proofs.Lx
/- Check of the family of VmFuel's trees, lifted. -/
namespace Go.Proofs.YtcijknknahbbnaaGreatDoor
open Go Go.Am Go.Proofs Go.Proofs.Lx
set_option maxRecDepth 100000
abbrev m7:Type:=Int×Nat
abbrev eR:Type:=Int
def bT:m7→List V×List (Option Chunk):=(fun x=>(fun(t:Int) (k:Nat)=>(([.agg [st ⟨#[112]⟩,.ro 2 0 (fun _=>[]),i64 14,i64 0,st ⟨#[]⟩,.ro 4 1 (fun _=>[i64 4,i64 t,st ⟨#[]⟩,.ro 4 1 (fun _=>[i64 14,i64 0,st ⟨#[]⟩,.ro 4 k (fun _=>[i64 12,i64 5,st ⟨#[]⟩,.ro 4 0 (fun _=>[])])])])]]:List V),([]:List (Option Chunk)))) x.1 x.2)
def eg4(t:List V×List (Option Chunk)):m7:=(vI ((nX ((vAg (t.1.getD 0 .junk)).getD 5 .junk) 0).getD 1 .junk),kP ((nX ((nX ((vAg (t.1.getD 0 .junk)).getD 5 .junk) 0).getD 3 .junk) 0).getD 3 .junk))
theorem ef7:∀x y,bT x=bT y→x=y:=fun x y h=>(congrArg eg4 h:)
def sR:eR→CRes:=(fun z=>CRes.ret (i64 z) []:(Int)→CRes)
def bl5(z:eR)(k:CRes→Option Ans):Option Ans:=k (sR z)
theorem bq1:∀z k,bl5 z k=k (sR z):=fun z k=>rfl
abbrev w8:Type:=Unit
abbrev cT:Type:=Unit
def bU(x:m7)(y:w8):St:={fr:=[V.junk,V.ptr 0 0,V.junk,V.ptr 1 0]++jk 9++[V.ro 2 0 fun(j:Nat)=>[],i64 (0:Int),i64 (0:Int)]++jk 32,H:=hp [some (Chunk.blk [st {data:=#[(112:UInt8)]},V.ro 2 0 fun(j:Nat)=>[],i64 (14:Int),i64 (0:Int),st {data:=#[]},V.ro 4 1 fun(j:Nat)=>[i64 (4:Int),i64 (x.1),st {data:=#[]},V.ro 4 1 fun(j:Nat)=>[i64 (14:Int),i64 (0:Int),st {data:=#[]},V.ro 4 (x.2) fun(j:Nat)=>[i64 (12:Int),i64 (5:Int),st {data:=#[]},V.ro 4 0 fun(j:Nat)=>[]]]]]),some (Chunk.blk [V.mp 2]),some (Chunk.smap 0 (fun(x:ByteArray)=>false) fun(j:ByteArray)=>V.agg [i64 (0:Int),i64 (0:Int),i64 (0:Int),i64 (0:Int),i64 (0:Int)])],nx:=3,rt:=0,me:=9}
def cl8(s:St):w8:=()
theorem ct9(x:m7):∀y y',bU x y=bU x y'→y=y':=fun y y' h=>(congrArg cl8 h:)
def o6(x:m7):cT→Ex×St:=(fun z=>(Ex.exit 0,{fr:=[V.junk,V.ptr 0 0,V.junk,V.ptr 1 0]++jk 44,H:=hp [some (Chunk.blk [st {data:=#[(112:UInt8)]},V.ro 2 0 fun(j:Nat)=>[],i64 (14:Int),i64 (0:Int),st {data:=#[]},V.ro 4 1 fun(j:Nat)=>[i64 (4:Int),i64 (x.1),st {data:=#[]},V.ro 4 1 fun(j:Nat)=>[i64 (14:Int),i64 (0:Int),st {data:=#[]},V.ro 4 (x.2) fun(j:Nat)=>[i64 (12:Int),i64 (5:Int),st {data:=#[]},V.ro 4 0 fun(j:Nat)=>[]]]]]),some (Chunk.blk [V.mp 2]),some (Chunk.smap 0 (fun(x:ByteArray)=>false) fun(j:ByteArray)=>V.agg [i64 (0:Int),i64 (0:Int),i64 (0:Int),i64 (0:Int),i64 (0:Int)])],nx:=3,rt:=0,me:=9}))
def av5(x:m7)(z:cT)(k:KX):Option Ans:=k (o6 x z).1 (o6 x z).2
theorem cb0(x:m7):∀z k,av5 x z k=k (o6 x z).1 (o6 x z).2:=fun z k=>rfl
theorem bz3(x:m7)(z:Unit):KCM [(0,10)] 4 (o6 x z).1 (o6 x z).2=some (.l (o6 x z).1 (o6 x z).2):=by kernel_rfl
def mU{β:Type}(x:m7)(y:w8)(nx:w8→Option β)(dn:cT→Option β):Option β:=
 dn ()
theorem ct7{β:Type}(x:m7)(y:w8)(nx:w8→Option β)(dn:cT→Option β):mU x y nx dn=(mU x y (fun y=>some (.inl y)) (fun z=>some (.inr z))).bind fun r=>Sum.elim nx dn r:=by
 unfold mU
 repeat' first|exact aW|refine aU (fun z=>?_) |refine cL ?_ ?_|refine cF (fun z=>?_) (fun z=>?_) |rfl
theorem cg6(x:m7)(y:w8)(lo:f7):r9 E5 (wX E5 20) lo 0 57354 (b6 E5 9 0) (bU x y) (KCM [(0,10)] 4)=mU x y (fun y=>lo 0 57354 (b6 E5 9 0) (bU x y) (KCM [(0,10)] 4)) (fun z=>some (.l (o6 x z).1 (o6 x z).2)):=by kernel_rfl
noncomputable def tK(q:Nat)(x:m7):w8→Option cT:=lpG (fun y=>mU x y (fun y=>some (.inl y)) (fun z=>some (.inr z))) q
theorem cl1(q:Nat)(x:m7):∀y z,tK q x y=some z→SL E5 (b6 E5 9 0) (bU x y) (o6 x z).1 (o6 x z).2:=
 SL.lp (LT:=fun lo=>lo) (T:=o6 x) (S:=bU x) (vV hW5 hX5 20).1 hX5 (fun lo h=>h) (fun lo y=>(cg6 x y lo).trans (by exact ct7  _ _ _ _)) (bz3 x) q
def mV{β:Type}(l_CheckF_l0:w8→Option cT)(x:m7)(dn:eR→Option β):Option β:=
 (l_CheckF_l0 ()).bind fun z0=>
  if decide (x.1≥(1:Int))=true then
   if(!decide (x.1≤(100:Int)))=true then
    dn ((5:Int))
   else
    if decide ((0:Int)< ((x.2:Nat):Int))=true then
     if(0:Int)≤(0:Int)∧(0:Int)< ((x.2:Nat):Int)then
      if decide ((1:Int)< ((x.2:Nat):Int))=true then
       if(0:Int)≤(1:Int)∧(1:Int)< ((x.2:Nat):Int)then
        if decide ((2:Int)< ((x.2:Nat):Int))=true then
         if(0:Int)≤(2:Int)∧(2:Int)< ((x.2:Nat):Int)then
          if decide ((3:Int)< ((x.2:Nat):Int))=true then
           if(0:Int)≤(3:Int)∧(3:Int)< ((x.2:Nat):Int)then
            if decide ((4:Int)< ((x.2:Nat):Int))=true then
             if(0:Int)≤(4:Int)∧(4:Int)< ((x.2:Nat):Int)then
              if decide ((5:Int)< ((x.2:Nat):Int))=true then
               if(0:Int)≤(5:Int)∧(5:Int)< ((x.2:Nat):Int)then
                if decide ((6:Int)< ((x.2:Nat):Int))=true then
                 if(0:Int)≤(6:Int)∧(6:Int)< ((x.2:Nat):Int)then
                  if decide ((7:Int)< ((x.2:Nat):Int))=true then
                   if(0:Int)≤(7:Int)∧(7:Int)< ((x.2:Nat):Int)then
                    if decide ((8:Int)< ((x.2:Nat):Int))=true then
                     if(0:Int)≤(8:Int)∧(8:Int)< ((x.2:Nat):Int)then
                      if decide ((9:Int)< ((x.2:Nat):Int))=true then
                       if(0:Int)≤(9:Int)∧(9:Int)< ((x.2:Nat):Int)then
                        none
                       else
                        none
                      else
                       dn ((0:Int))
                     else
                      none
                    else
                     dn ((0:Int))
                   else
                    none
                  else
                   dn ((0:Int))
                 else
                  none
                else
                 dn ((0:Int))
               else
                none
              else
               dn ((0:Int))
             else
              none
            else
             dn ((0:Int))
           else
            none
          else
           dn ((0:Int))
         else
          none
        else
         dn ((0:Int))
       else
        none
      else
       dn ((0:Int))
     else
      none
    else
     dn ((0:Int))
  else
   dn ((5:Int))
theorem ej9{β:Type}(l_CheckF_l0:w8→Option cT)(x:m7)(dn:eR→Option β):mV l_CheckF_l0 x dn=(mV l_CheckF_l0 x some).bind dn:=by
 unfold mV
 repeat' first|exact aW|refine aU (fun z=>?_) |refine cL ?_ ?_|refine cF (fun z=>?_) (fun z=>?_) |rfl
theorem ef8(l_CheckF_l0:w8→Option cT)(x:m7):j8 E5 (wX E5 20) (ac4 0 (fun _=>true) (b6 E5 9 0) (bU x) (av5 x) l_CheckF_l0 lo0) 9 (bT x).1 (bT x).2 K=mV (fun y=>eK (fun y=>(b6 E5 9 0,bU x y)) l_CheckF_l0 (b6 E5 9 0,bU x y)) x (fun z=>some (.c (sR z))):=by kernel_rfl
theorem er7(q:Nat)(x:m7)(z:eR)(h:mV (tK q x) x some=some z):SC E5 9 (bT x).1 (bT x).2 (sR z):=by
 refine SC.of hW5 hX5 (vV hW5 hX5 20).1 (eO (cl1 q x) (cb0 x) b8) ((ef8 (tK q x) x).trans ?_)
 rw[y7 (xB (b6 E5 9 0) (ct9 x)) (tK q x),ej9,h];rfl
noncomputable def bb7(q:Nat)(x:m7):Option eR:=mV (tK q x) x some
theorem dz0(q:Nat):∀(x:m7) (z:eR),bb7 q x=some z→SC E5 9 (bT x).1 (bT x).2 (sR z):=fun x z h=>er7 q x z h
end Go.Proofs.YtcijknknahbbnaaGreatDoor
/- Compile of the family of VmFuel's trees, lifted. -/
namespace Go.Proofs.YtcijknknahbbnaaGreatDoor
open Go Go.Am Go.Proofs Go.Proofs.Lx
set_option maxRecDepth 100000
abbrev j0:Type:=Int×Nat
abbrev aZ:Type:=(Nat→Int)×Nat×(Nat→Int)
def r7:j0→List V×List (Option Chunk):=(fun x=>(fun(t:Int) (k:Nat)=>(([.agg [st ⟨#[112]⟩,.ro 2 0 (fun _=>[]),i64 14,i64 0,st ⟨#[]⟩,.ro 4 1 (fun _=>[i64 4,i64 t,st ⟨#[]⟩,.ro 4 1 (fun _=>[i64 14,i64 0,st ⟨#[]⟩,.ro 4 k (fun _=>[i64 12,i64 5,st ⟨#[]⟩,.ro 4 0 (fun _=>[])])])])]]:List V),([]:List (Option Chunk)))) x.1 x.2)
def db1(t:List V×List (Option Chunk)):j0:=(vI ((nX ((vAg (t.1.getD 0 .junk)).getD 5 .junk) 0).getD 1 .junk),kP ((nX ((nX ((vAg (t.1.getD 0 .junk)).getD 5 .junk) 0).getD 3 .junk) 0).getD 3 .junk))
theorem df1:∀x y,r7 x=r7 y→x=y:=fun x y h=>(congrArg db1 h:)
def lB:aZ→CRes:=(fun z=>CRes.ret (V.tup [V.agg [st {data:=#[(112:UInt8)]},i64 (0:Int),i64 (0:Int),V.sl 0 2 0 (z.2.1)],i64 (0:Int)]) [some (Chunk.row 108 2 (z.2.1) fun(j:Nat)=>[i64 (z.2.2 j),i64 (z.1 j)])]:((Nat→Int)×Nat×(Nat→Int))→CRes)
def ad7(z:aZ)(k:CRes→Option Ans):Option Ans:=k (lB z)
theorem ax3:∀z k,ad7 z k=k (lB z):=fun z k=>rfl
abbrev n8:Type:=Unit
abbrev aN:Type:=Unit
def u9(x:j0)(y:n8):St:={fr:=[V.junk,V.ptr 0 0,V.ptr 1 0,V.junk,V.ptr 2 0]++jk 6++[V.ro 2 0 fun(j:Nat)=>[],i64 (0:Int),i64 (0:Int)]++jk 59,H:=hp [some (Chunk.blk [st {data:=#[(112:UInt8)]},V.ro 2 0 fun(j:Nat)=>[],i64 (14:Int),i64 (0:Int),st {data:=#[]},V.ro 4 1 fun(j:Nat)=>[i64 (4:Int),i64 (x.1),st {data:=#[]},V.ro 4 1 fun(j:Nat)=>[i64 (14:Int),i64 (0:Int),st {data:=#[]},V.ro 4 (x.2) fun(j:Nat)=>[i64 (12:Int),i64 (5:Int),st {data:=#[]},V.ro 4 0 fun(j:Nat)=>[]]]]]),some (Chunk.blk [st {data:=#[]},i64 (0:Int),i64 (0:Int),g9]),some (Chunk.blk [g9,V.mp 3,i64 (0:Int),i64 (0:Int),i64 (0:Int)]),some (Chunk.smap 0 (fun(x:ByteArray)=>false) fun(j:ByteArray)=>i64 (0:Int))],nx:=4,rt:=0,me:=10}
def bn6(s:St):n8:=()
theorem bm3(x:j0):∀y y',u9 x y=u9 x y'→y=y':=fun y y' h=>(congrArg bn6 h:)
def l7(x:j0):aN→Ex×St:=(fun z=>(Ex.exit 0,{fr:=[V.junk,V.ptr 0 0,V.ptr 1 0,V.junk,V.ptr 2 0]++jk 68,H:=hp [some (Chunk.blk [st {data:=#[(112:UInt8)]},V.ro 2 0 fun(j:Nat)=>[],i64 (14:Int),i64 (0:Int),st {data:=#[]},V.ro 4 1 fun(j:Nat)=>[i64 (4:Int),i64 (x.1),st {data:=#[]},V.ro 4 1 fun(j:Nat)=>[i64 (14:Int),i64 (0:Int),st {data:=#[]},V.ro 4 (x.2) fun(j:Nat)=>[i64 (12:Int),i64 (5:Int),st {data:=#[]},V.ro 4 0 fun(j:Nat)=>[]]]]]),some (Chunk.blk [st {data:=#[]},i64 (0:Int),i64 (0:Int),g9]),some (Chunk.blk [g9,V.mp 3,i64 (0:Int),i64 (0:Int),i64 (0:Int)]),some (Chunk.smap 0 (fun(x:ByteArray)=>false) fun(j:ByteArray)=>i64 (0:Int))],nx:=4,rt:=0,me:=10}))
def ac5(x:j0)(z:aN)(k:KX):Option Ans:=k (l7 x z).1 (l7 x z).2
theorem bg9(x:j0):∀z k,ac5 x z k=k (l7 x z).1 (l7 x z).2:=fun z k=>rfl
theorem bj2(x:j0)(z:Unit):KCM [(0,22)] 12 (l7 x z).1 (l7 x z).2=some (.l (l7 x z).1 (l7 x z).2):=by kernel_rfl
def gO{β:Type}(x:j0)(y:n8)(nx:n8→Option β)(dn:aN→Option β):Option β:=
 dn ()
theorem bn4{β:Type}(x:j0)(y:n8)(nx:n8→Option β)(dn:aN→Option β):gO x y nx dn=(gO x y (fun y=>some (.inl y)) (fun z=>some (.inr z))).bind fun r=>Sum.elim nx dn r:=by
 unfold gO
 repeat' first|exact aW|refine aU (fun z=>?_) |refine cL ?_ ?_|refine cF (fun z=>?_) (fun z=>?_) |rfl
theorem bm6(x:j0)(y:n8)(lo:f7):r9 E5 (wX E5 20) lo 0 14358 (b6 E5 10 0) (u9 x y) (KCM [(0,22)] 12)=gO x y (fun y=>lo 0 14358 (b6 E5 10 0) (u9 x y) (KCM [(0,22)] 12)) (fun z=>some (.l (l7 x z).1 (l7 x z).2)):=by kernel_rfl
noncomputable def mK(q:Nat)(x:j0):n8→Option aN:=lpG (fun y=>gO x y (fun y=>some (.inl y)) (fun z=>some (.inr z))) q
theorem bm2(q:Nat)(x:j0):∀y z,mK q x y=some z→SL E5 (b6 E5 10 0) (u9 x y) (l7 x z).1 (l7 x z).2:=
 SL.lp (LT:=fun lo=>lo) (T:=l7 x) (S:=u9 x) (vV hW5 hX5 20).1 hX5 (fun lo h=>h) (fun lo y=>(bm6 x y lo).trans (by exact bn4  _ _ _ _)) (bj2 x) q
def lH{β:Type}(l_CompileF_l0:n8→Option aN)(x:j0)(dn:aZ→Option β):Option β:=
 (l_CompileF_l0 ()).bind fun z0=>
  if decide ((0:Int)< ((x.2:Nat):Int))=true then
   if(0:Int)≤(0:Int)∧(0:Int)< ((x.2:Nat):Int)then
    if decide ((1:Int)< ((x.2:Nat):Int))=true then
     if(0:Int)≤(1:Int)∧(1:Int)< ((x.2:Nat):Int)then
      if decide ((2:Int)< ((x.2:Nat):Int))=true then
       if(0:Int)≤(2:Int)∧(2:Int)< ((x.2:Nat):Int)then
        if decide ((3:Int)< ((x.2:Nat):Int))=true then
         if(0:Int)≤(3:Int)∧(3:Int)< ((x.2:Nat):Int)then
          if decide ((4:Int)< ((x.2:Nat):Int))=true then
           if(0:Int)≤(4:Int)∧(4:Int)< ((x.2:Nat):Int)then
            if decide ((5:Int)< ((x.2:Nat):Int))=true then
             if(0:Int)≤(5:Int)∧(5:Int)< ((x.2:Nat):Int)then
              if decide ((6:Int)< ((x.2:Nat):Int))=true then
               if(0:Int)≤(6:Int)∧(6:Int)< ((x.2:Nat):Int)then
                if decide ((7:Int)< ((x.2:Nat):Int))=true then
                 if(0:Int)≤(7:Int)∧(7:Int)< ((x.2:Nat):Int)then
                  if decide ((8:Int)< ((x.2:Nat):Int))=true then
                   if(0:Int)≤(8:Int)∧(8:Int)< ((x.2:Nat):Int)then
                    if decide ((9:Int)< ((x.2:Nat):Int))=true then
                     if(0:Int)≤(9:Int)∧(9:Int)< ((x.2:Nat):Int)then
                      if decide ((10:Int)< ((x.2:Nat):Int))=true then
                       if(0:Int)≤(10:Int)∧(10:Int)< ((x.2:Nat):Int)then
                        none
                       else
                        none
                      else
                       dn ((fun j=>if j<12 then if j<11 then if j<10 then if j<9 then if j<8 then if j<7 then if j<6 then if j<5 then if j<4 then if j<3 then if j<2 then if j<1 then x.1 else(5:Int)else(5:Int)else(5:Int)else(5:Int)else(5:Int)else(5:Int)else(5:Int)else(5:Int)else(5:Int)else(5:Int)else(1:Int)else(0:Int),13,fun(j:Nat)=>if j<12 then if j<11 then if j<10 then if j<9 then if j<8 then if j<7 then if j<6 then if j<5 then if j<4 then if j<3 then if j<2 then if j<1 then(16:Int)else(26:Int)else(26:Int)else(26:Int)else(26:Int)else(26:Int)else(26:Int)else(26:Int)else(26:Int)else(26:Int)else(26:Int)else(17:Int)else(28:Int)))
                     else
                      none
                    else
                     dn ((fun j=>if j<11 then if j<10 then if j<9 then if j<8 then if j<7 then if j<6 then if j<5 then if j<4 then if j<3 then if j<2 then if j<1 then x.1 else(5:Int)else(5:Int)else(5:Int)else(5:Int)else(5:Int)else(5:Int)else(5:Int)else(5:Int)else(5:Int)else(1:Int)else(0:Int),12,fun(j:Nat)=>if j<11 then if j<10 then if j<9 then if j<8 then if j<7 then if j<6 then if j<5 then if j<4 then if j<3 then if j<2 then if j<1 then(16:Int)else(26:Int)else(26:Int)else(26:Int)else(26:Int)else(26:Int)else(26:Int)else(26:Int)else(26:Int)else(26:Int)else(17:Int)else(28:Int)))
                   else
                    none
                  else
                   dn ((fun j=>if j<10 then if j<9 then if j<8 then if j<7 then if j<6 then if j<5 then if j<4 then if j<3 then if j<2 then if j<1 then x.1 else(5:Int)else(5:Int)else(5:Int)else(5:Int)else(5:Int)else(5:Int)else(5:Int)else(5:Int)else(1:Int)else(0:Int),11,fun(j:Nat)=>if j<10 then if j<9 then if j<8 then if j<7 then if j<6 then if j<5 then if j<4 then if j<3 then if j<2 then if j<1 then(16:Int)else(26:Int)else(26:Int)else(26:Int)else(26:Int)else(26:Int)else(26:Int)else(26:Int)else(26:Int)else(17:Int)else(28:Int)))
                 else
                  none
                else
                 dn ((fun j=>if j<9 then if j<8 then if j<7 then if j<6 then if j<5 then if j<4 then if j<3 then if j<2 then if j<1 then x.1 else(5:Int)else(5:Int)else(5:Int)else(5:Int)else(5:Int)else(5:Int)else(5:Int)else(1:Int)else(0:Int),10,fun(j:Nat)=>if j<9 then if j<8 then if j<7 then if j<6 then if j<5 then if j<4 then if j<3 then if j<2 then if j<1 then(16:Int)else(26:Int)else(26:Int)else(26:Int)else(26:Int)else(26:Int)else(26:Int)else(26:Int)else(17:Int)else(28:Int)))
               else
                none
              else
               dn ((fun j=>if j<8 then if j<7 then if j<6 then if j<5 then if j<4 then if j<3 then if j<2 then if j<1 then x.1 else(5:Int)else(5:Int)else(5:Int)else(5:Int)else(5:Int)else(5:Int)else(1:Int)else(0:Int),9,fun(j:Nat)=>if j<8 then if j<7 then if j<6 then if j<5 then if j<4 then if j<3 then if j<2 then if j<1 then(16:Int)else(26:Int)else(26:Int)else(26:Int)else(26:Int)else(26:Int)else(26:Int)else(17:Int)else(28:Int)))
             else
              none
            else
             dn ((fun j=>if j<7 then if j<6 then if j<5 then if j<4 then if j<3 then if j<2 then if j<1 then x.1 else(5:Int)else(5:Int)else(5:Int)else(5:Int)else(5:Int)else(1:Int)else(0:Int),8,fun(j:Nat)=>if j<7 then if j<6 then if j<5 then if j<4 then if j<3 then if j<2 then if j<1 then(16:Int)else(26:Int)else(26:Int)else(26:Int)else(26:Int)else(26:Int)else(17:Int)else(28:Int)))
           else
            none
          else
           dn ((fun j=>if j<6 then if j<5 then if j<4 then if j<3 then if j<2 then if j<1 then x.1 else(5:Int)else(5:Int)else(5:Int)else(5:Int)else(1:Int)else(0:Int),7,fun(j:Nat)=>if j<6 then if j<5 then if j<4 then if j<3 then if j<2 then if j<1 then(16:Int)else(26:Int)else(26:Int)else(26:Int)else(26:Int)else(17:Int)else(28:Int)))
         else
          none
        else
         dn ((fun j=>if j<5 then if j<4 then if j<3 then if j<2 then if j<1 then x.1 else(5:Int)else(5:Int)else(5:Int)else(1:Int)else(0:Int),6,fun(j:Nat)=>if j<5 then if j<4 then if j<3 then if j<2 then if j<1 then(16:Int)else(26:Int)else(26:Int)else(26:Int)else(17:Int)else(28:Int)))
       else
        none
      else
       dn ((fun j=>if j<4 then if j<3 then if j<2 then if j<1 then x.1 else(5:Int)else(5:Int)else(1:Int)else(0:Int),5,fun(j:Nat)=>if j<4 then if j<3 then if j<2 then if j<1 then(16:Int)else(26:Int)else(26:Int)else(17:Int)else(28:Int)))
     else
      none
    else
     dn ((fun j=>if j<3 then if j<2 then if j<1 then x.1 else(5:Int)else(1:Int)else(0:Int),4,fun(j:Nat)=>if j<3 then if j<2 then if j<1 then(16:Int)else(26:Int)else(17:Int)else(28:Int)))
   else
    none
  else
   dn ((fun j=>if j<2 then if j<1 then x.1 else(1:Int)else(0:Int),3,fun(j:Nat)=>if j<2 then if j<1 then(16:Int)else(17:Int)else(28:Int)))
theorem dj4{β:Type}(l_CompileF_l0:n8→Option aN)(x:j0)(dn:aZ→Option β):lH l_CompileF_l0 x dn=(lH l_CompileF_l0 x some).bind dn:=by
 unfold lH
 repeat' first|exact aW|refine aU (fun z=>?_) |refine cL ?_ ?_|refine cF (fun z=>?_) (fun z=>?_) |rfl
theorem dg0(l_CompileF_l0:n8→Option aN)(x:j0):j8 E5 (wX E5 20) (ac4 0 (fun _=>true) (b6 E5 10 0) (u9 x) (ac5 x) l_CompileF_l0 lo0) 10 (r7 x).1 (r7 x).2 K=lH (fun y=>eK (fun y=>(b6 E5 10 0,u9 x y)) l_CompileF_l0 (b6 E5 10 0,u9 x y)) x (fun z=>some (.c (lB z))):=by kernel_rfl
theorem dk0(q:Nat)(x:j0)(z:aZ)(h:lH (mK q x) x some=some z):SC E5 10 (r7 x).1 (r7 x).2 (lB z):=by
 refine SC.of hW5 hX5 (vV hW5 hX5 20).1 (eO (bm2 q x) (bg9 x) b8) ((dg0 (mK q x) x).trans ?_)
 rw[y7 (xB (b6 E5 10 0) (bm3 x)) (mK q x),dj4,h];rfl
noncomputable def yK(q:Nat)(x:j0):Option aZ:=lH (mK q x) x some
theorem cn1(q:Nat):∀(x:j0) (z:aZ),yK q x=some z→SC E5 10 (r7 x).1 (r7 x).2 (lB z):=fun x z h=>dk0 q x z h
end Go.Proofs.YtcijknknahbbnaaGreatDoor
/- Plain: Check and Compile of the family. -/
namespace Go.Proofs.YtcijknknahbbnaaGreatDoor
open Go Go.Am Go.Proofs Go.Proofs.Lx
set_option maxRecDepth 100000
theorem ds5(q:Nat){t:Int}(h0:1≤t)(h1:t≤100){k:Nat}(hk:k≤9):bb7 (q+1) (t,k)=some 0:=by
 have e1:decide (t≥1)=true:=decide_eq_true h0
 have e2:¬(!decide (t≤100))=true:=by rw[decide_eq_true h1];decide
 show mV (fun _=>some ()) (t,k) some=some 0
 unfold mV
 dsimp only[Option.bind_some]
 rw[if_pos e1,if_neg e2]
 have:k=0∨k=1∨k=2∨k=3∨k=4∨k=5∨k=6∨k=7∨k=8∨k=9:=by omega
 rcases this with rfl|rfl|rfl|rfl|rfl|rfl|rfl|rfl|rfl|rfl<;>rfl
def opF(k j:Nat):Int:=if j=0 then 16 else if j≤k then 26 else if j=k+1 then 17 else 28
def inF(t:Int)(k j:Nat):Int:=if j=0 then t else if j≤k then 5 else if j=k+1 then 1 else 0
theorem cq6(q:Nat)(t:Int){k:Nat}(hk:k≤9):∃f g,yK (q+1) (t,k)=some (f,k+3,g)∧∀j,j<k+3→f j=inF t k j∧g j=opF k j:=by
 have:k=0∨k=1∨k=2∨k=3∨k=4∨k=5∨k=6∨k=7∨k=8∨k=9:=by omega
 have fin:∀(n:Nat) (P:Nat→Prop),(∀j,j<n→P j)→∀j,j<n→P j:=fun _ _ h=>h
 rcases this with rfl|rfl|rfl|rfl|rfl|rfl|rfl|rfl|rfl|rfl<;>refine⟨_,_,rfl,?_⟩<;>intro j hj<;>(rcases j with _|_|_|_|_|_|_|_|_|_|_|_|j<;>first|exact⟨rfl,rfl⟩ | (exfalso;omega))
end Go.Proofs.YtcijknknahbbnaaGreatDoor
/- What Parse hands back of a source of VmFuel, as typed cells. -/
namespace Go.Proofs.YtcijknknahbbnaaGreatDoor
open Go Go.Am Go.Proofs Go.Proofs.Lx
set_option maxRecDepth 100000
abbrev emC:Nat→List V:=fun _=>[i64 12,i64 5,st ⟨#[]⟩,.ro 4 0 (fun _=>[])]
abbrev blC(k:Nat):Nat→List V:=fun _=>[i64 14,i64 0,st ⟨#[]⟩,.ro 4 k emC]
abbrev reC(t:Int)(k:Nat):Nat→List V:=fun _=>[i64 4,i64 t,st ⟨#[]⟩,.ro 4 1 (blC k)]
abbrev prC(t:Int)(k:Nat):Nat→List V:=fun _=>[st ⟨#[112]⟩,.ro 2 0 (fun _=>[]),i64 14,i64 0,st ⟨#[]⟩,.ro 4 1 (reC t k)]
theorem cy5{j:Nat}(h:j<1):j=0:=by omega
theorem el6:∀(k j:Nat),j<k→(sI (List.replicate k ag8)).getD j dfl=nQ ag8
 |0,j,h=>absurd h (Nat.not_lt_zero j)
 |k+1,0,_=>rfl
 |k+1,j+1,h=>el6 k j (by omega)
theorem le4{a b c d d':V}(h:Le d d'):LeL [a,b,c,d] [a,b,c,d']:=LeL.cons (Le.refl _) (LeL.cons (Le.refl _) (LeL.cons (Le.refl _) (LeL.cons h LeL.nil)))
theorem fo3:LeL (nQ ag8) (emC 0):=le4 (Le.ro fun j hj=>absurd hj (Nat.not_lt_zero j))
theorem fm3(k:Nat):LeL (nQ (.node 14 0 ⟨#[]⟩ (List.replicate k ag8))) (blC k 0):=by
 simp only[nQ,List.length_replicate]
 exact le4 (Le.ro fun j hj=>⟨by rw[el6 k j hj];exact fo3,by simp[j7,V.pure]⟩)
theorem fm1(t:Int)(k:Nat):LeL (nQ (.node 4 t ⟨#[]⟩ [.node 14 0 ⟨#[]⟩ (List.replicate k ag8)])) (reC t k 0):=by
 rw[nQ]
 refine le4 (Le.ro fun j hj=>⟨?_,by simp[j7,V.pure]⟩)
 obtain rfl:=cy5 hj
 exact fm3 k
theorem fm4(t:Int)(k:Nat):LeL (ae9 (cm3 t k)) (prC t k 0):=by
 show LeL [st ⟨#[112]⟩,.ro 2 0 _,i64 14,i64 0,st ⟨#[]⟩,.ro 4 1 _] _
 refine LeL.cons (Le.refl _) (LeL.cons (Le.ro fun j hj=>absurd hj (Nat.not_lt_zero j)) (LeL.cons (Le.refl _) (LeL.cons (Le.refl _) (LeL.cons (Le.refl _) (LeL.cons (Le.ro fun j hj=>⟨?_,by simp[j7,V.pure]⟩) LeL.nil)))))
 obtain rfl:=cy5 hj
 exact fm1 t k
theorem ex1(t:Int)(k:Nat):Le (aw5 [cm3 t k]) (.ro 6 1 (prC t k)):=by
 unfold aw5
 refine Le.ro fun j hj=>⟨?_,by simp[j7,V.pure]⟩
 obtain rfl:=cy5 hj
 exact fm4 t k
theorem ev9{t:Int}(h0:1≤t)(h1:t≤100){k:Nat}(hk:k≤9){s:ByteArray}(hs:s.data.toList=bj6 t k):SC E5 8 [st s] [] (.ret (.tup [.ro 6 1 (prC t k),i64 0,i64 0]) []):=by
 obtain⟨r,hr,h⟩:=as4 s
 obtain rfl:=bc0 hr (ae4 h0 h1 hk hs)
 exact SC.le h (Le.tup (LeL.cons (ex1 t k) (LeL.cons (Le.refl _) (LeL.cons (Le.refl _) LeL.nil))))
end Go.Proofs.YtcijknknahbbnaaGreatDoor
/- Build of VmFuel's trees, lifted. -/
namespace Go.Proofs.YtcijknknahbbnaaGreatDoor
open Go Go.Am Go.Proofs Go.Proofs.Lx
set_option maxRecDepth 100000
abbrev nB:Type:=ByteArray
abbrev mX:Type:=Int×Nat
def gL:nB→List V×List (Option Chunk):=(fun x=>(fun(s:ByteArray)=>(([st s]:List V),([]:List (Option Chunk)))) x)
def en7(t:List V×List (Option Chunk)):nB:=(vS (t.1.getD 0 .junk))
theorem ek2:∀x y,gL x=gL y→x=y:=fun x y h=>(congrArg en7 h:)
def ai8:mX→CRes:=(fun z=>(fun(t:Int) (k:Nat)=>.ret (.tup [.ro 6 1 (fun _=>[st ⟨#[112]⟩,.ro 2 0 (fun _=>[]),i64 14,i64 0,st ⟨#[]⟩,.ro 4 1 (fun _=>[i64 4,i64 t,st ⟨#[]⟩,.ro 4 1 (fun _=>[i64 14,i64 0,st ⟨#[]⟩,.ro 4 k (fun _=>[i64 12,i64 5,st ⟨#[]⟩,.ro 4 0 (fun _=>[])])])])]),i64 0,i64 0]) []) z.1 z.2:(Int×Nat)→CRes)
def bc5(z:mX)(k:CRes→Option Ans):Option Ans:=k (ai8 z)
theorem bp3:∀z k,bc5 z k=k (ai8 z):=fun z k=>rfl
noncomputable def aq9(q:Nat)(x:nB):Option mX:=@dite _ (∃p:Int×Nat,1≤p.1∧p.1≤100∧p.2≤9∧x.data.toList=bj6 p.1 p.2) (Classical.propDecidable _) (fun h=>some (Classical.choose h)) (fun _=>none)
theorem dr7(q:Nat):∀(x:nB) (z:mX),aq9 q x=some z→SC E5 8 (gL x).1 (gL x).2 (ai8 z):=by
 intro x z h
 unfold aq9 at h
 split at h
 ·rename_i hc
  cases h
  obtain⟨h1,h2,h3,h4⟩:=Classical.choose_spec hc
  exact ev9 h1 h2 h3 h4
 ·cases h
abbrev s7:Type:=ByteArray
abbrev y8:Type:=(Int)⊕((Nat→Nat)×(Nat→Nat→Int)×(Nat→Nat→Int))
def s9:s7→List V×List (Option Chunk):=(fun x=>(fun(s:ByteArray)=>(([st s]:List V),([]:List (Option Chunk)))) x)
def el4(t:List V×List (Option Chunk)):s7:=((vS (t.1.getD 0 .junk)))
theorem ci5:∀x y,s9 x=s9 y→x=y:=fun x y h=>(congrArg el4 h:)
def nC:y8→CRes:=Sum.elim ((fun z=>CRes.ret (V.tup [g9,i64 z]) []:(Int)→CRes)) ((fun z=>CRes.ret (V.tup [V.sl 0 4 0 1,i64 (0:Int)]) [some (Chunk.row 36 4 1 fun(j:Nat)=>[st {data:=#[(112:UInt8)]},i64 (0:Int),i64 (0:Int),V.ro 2 (z.1 j) fun(j_1:Nat)=>[i64 (z.2.1 j j_1),i64 (z.2.2 j j_1)]])]:((Nat→Nat)×(Nat→Nat→Int)×(Nat→Nat→Int))→CRes))
def be1(z:y8)(k:CRes→Option Ans):Option Ans:=Sum.elim (fun za=>k (nC (.inl za))) (fun zb=>k (nC (.inr zb))) z
theorem bs2:∀z k,be1 z k=k (nC z):=fun z k=>by
 rcases z with z|z<;>rfl
def qK{β:Type}(c_ParseF:nB→Option mX)(c_CheckF:m7→Option eR)(c_CompileF:j0→Option aZ)(x:s7)(dn:y8→Option β):Option β:=
 (c_ParseF x).bind fun z1=>
  (c_CheckF z1).bind fun z4=>
   if(z4 !=(0:Int))=true then
    dn (.inl z4)
   else
    (c_CompileF z1).bind fun z7=>
     if 0+z7.2.1≤z7.2.1∧2=2 then
      dn (.inr ((fun j=>z7.2.1,fun(j j_1:Nat)=>z7.2.2 (0+j_1),fun(j j_1:Nat)=>z7.1 (0+j_1))))
     else
      none
theorem ej8{β:Type}(c_ParseF:nB→Option mX)(c_CheckF:m7→Option eR)(c_CompileF:j0→Option aZ)(x:s7)(dn:y8→Option β):qK c_ParseF c_CheckF c_CompileF x dn=(qK c_ParseF c_CheckF c_CompileF x some).bind dn:=by
 unfold qK
 repeat' first|exact aW|refine aU (fun z=>?_) |refine cL ?_ ?_|refine cF (fun z=>?_) (fun z=>?_) |rfl
theorem ee4(c_ParseF:nB→Option mX)(c_CheckF:m7→Option eR)(c_CompileF:j0→Option aZ)(x:s7):j8 E5 (jL 8 (fun _ _=>true) gL bc5 c_ParseF (jL 9 (fun _ _=>true) bT bl5 c_CheckF (jL 10 (fun _ _=>true) r7 ad7 c_CompileF ca0))) (loU E5 (jL 8 (fun _ _=>true) gL bc5 c_ParseF (jL 9 (fun _ _=>true) bT bl5 c_CheckF (jL 10 (fun _ _=>true) r7 ad7 c_CompileF ca0))) [0] lo0 20) 5 (s9 x).1 (s9 x).2 K=qK (fun x=>eK gL c_ParseF (gL x)) (fun x=>eK bT c_CheckF (bT x)) (fun x=>eK r7 c_CompileF (r7 x)) x (fun z=>some (.c (nC z))):=by kernel_rfl
theorem el8(c_ParseF:nB→Option mX)(h_ParseF:∀x z,c_ParseF x=some z→SC E5 8 (gL x).1 (gL x).2 (ai8 z))(c_CheckF:m7→Option eR)(h_CheckF:∀x z,c_CheckF x=some z→SC E5 9 (bT x).1 (bT x).2 (sR z))(c_CompileF:j0→Option aZ)(h_CompileF:∀x z,c_CompileF x=some z→SC E5 10 (r7 x).1 (r7 x).2 (lB z))(q:Nat)(x:s7)(z:y8)(h:qK c_ParseF c_CheckF c_CompileF x some=some z):SC E5 5 (s9 x).1 (s9 x).2 (nC z):=by
 refine SC.of hW5 hX5 (j3 h_ParseF bp3 (j3 h_CheckF bq1 (j3 h_CompileF ax3 a8))) (aa9 (j3 h_ParseF bp3 (j3 h_CheckF bq1 (j3 h_CompileF ax3 a8))) hX5 b8 20) ((ee4 c_ParseF c_CheckF c_CompileF x).trans ?_)
 rw[y7 ek2 c_ParseF,y7 ef7 c_CheckF,y7 df1 c_CompileF,ej8,h];rfl
noncomputable def as6(q:Nat)(x:s7):Option y8:=qK (aq9 q) (bb7 q) (yK q) x some
theorem dv6(q:Nat):∀(x:s7) (z:y8),as6 q x=some z→SC E5 5 (s9 x).1 (s9 x).2 (nC z):=fun x z h=>el8 (aq9 q) (dr7 q) (bb7 q) (dz0 q) (yK q) (cn1 q) q x z h
end Go.Proofs.YtcijknknahbbnaaGreatDoor
/- Plain: what Build answers to a source of VmFuel. -/
namespace Go.Proofs.YtcijknknahbbnaaGreatDoor
open Go Go.Am Go.Proofs Go.Proofs.Lx
set_option maxRecDepth 100000
theorem ec4{t t':Int}{k k':Nat}(h:cm3 t k=cm3 t' k'):(t,k)=(t',k'):=by
 simp only[cm3,Prc.mk.injEq,Tr.node.injEq,List.cons.injEq,true_and,and_true]at h
 obtain⟨h1,h2⟩:=h
 have:=congrArg List.length h2
 simp only[List.length_replicate]at this
 rw[h1,this]
theorem dz1(q:Nat){t:Int}(h0:1≤t)(h1:t≤100){k:Nat}(hk:k≤9){s:ByteArray}(hs:s.data.toList=bj6 t k):aq9 q s=some (t,k):=by
 have hE:∃p:Int×Nat,1≤p.1∧p.1≤100∧p.2≤9∧s.data.toList=bj6 p.1 p.2:=⟨(t,k),h0,h1,hk,hs⟩
 have e:Classical.choose hE=(t,k):=by
  obtain⟨a,b,c,d⟩:=Classical.choose_spec hE
  have:=bc0 (ae4 a b c d) (ae4 h0 h1 hk hs)
  simp only[Prod.mk.injEq,List.cons.injEq,and_true]at this
  exact ec4 this
 unfold aq9
 rw[←e]
 exact dif_pos hE
theorem ea0(q:Nat){t:Int}(h0:1≤t)(h1:t≤100){k:Nat}(hk:k≤9){s:ByteArray}(hs:s.data.toList=bj6 t k):
 ∃f g,as6 (q+1) s=some (.inr (fun _=>k+3,g,f))∧∀j,j<k+3→f 0 j=inF t k j∧g 0 j=opF k j:=by
 obtain⟨f,g,hc,hj⟩:=cq6 q t hk
 refine⟨fun _ i=>f (0+i),fun _ i=>g (0+i),?_,fun j h=>by show f (0+j)=_∧g (0+j)=_;rw[Nat.zero_add];exact hj j h⟩
 unfold as6 qK
 rw[dz1 (q+1) h0 h1 hk hs]
 show(bb7 (q+1) (t,k)).bind _=_
 rw[ds5 q h0 h1 hk]
 show(yK (q+1) (t,k)).bind _=_
 rw[hc]
 exact if_pos ⟨by show 0+(k+3)≤k+3;omega,rfl⟩
end Go.Proofs.YtcijknknahbbnaaGreatDoor
/- Slices cloned: what the library's function does, walked. -/
namespace Go.Proofs.YtcijknknahbbnaaGreatDoor
open Go Go.Am Go.RowKit Go.Lib
theorem ew8:Tryz.prog.underlying 28=some (.slice 3):=by kernel_rfl
theorem fa8:Tryz.prog.underlying 29=some (.slice 100):=by kernel_rfl
theorem in3:∃i,Tryz.prog.info? 3=some i∧i.zero=some (.int .i64 0)∧i.size=1∧i.bytes=8:=by
 have h:((Tryz.prog.info? 3).map fun i=>(i.zero,i.size,i.bytes))=some (some (.int .i64 0),1,8):=by kernel_rfl
 obtain⟨i,h1,h2⟩:=Option.map_eq_some_iff.1 h
 exact⟨i,h1,congrArg Prod.fst h2,congrArg (·.2.1) h2,congrArg (·.2.2) h2⟩
theorem fo9:∃i,Tryz.prog.info? 100=some i∧i.zero=some (.agg #[.int .i64 0,.int .i64 0])∧i.size=2∧i.bytes=16:=by
 have h:((Tryz.prog.info? 100).map fun i=>(i.zero,i.size,i.bytes))=some (some (.agg #[.int .i64 0,.int .i64 0]),2,16):=by kernel_rfl
 obtain⟨i,h1,h2⟩:=Option.map_eq_some_iff.1 h
 exact⟨i,h1,congrArg Prod.fst h2,congrArg (·.2.1) h2,congrArg (·.2.2) h2⟩
set_option maxHeartbeats 2000000 in
set_option maxRecDepth 100000 in
theorem cp7(n cp:Nat)(w:World):Calls Tryz.prog 27 #[.slice none n cp] w fun e w'=>e= .returned (.slice none 0 0)∧w'=w:=by
 have q22:∀(w:World) (a:Option Addr) (n c n' c':Nat),(binOp .eql 28 (.slice a n c) (.slice none n' c')).run Tryz.prog w= .ok (.bool a.isNone) w:=fun w a n c n' c'=>Lib.run_eql_slice_nil w _ _ a n c n' c' ew8
 go_enter Tryz.func27,Tryz.ntmps27
 go_wp2
 go_ret
 exact⟨rfl,rfl⟩
set_option maxHeartbeats 2000000 in
set_option maxRecDepth 100000 in
theorem by0(a:Addr)(n cp:Nat)(news:List Value)(hl:news.length=n*1)(hbig:n*8≤140737488355328)(hn:n≤maxLen)(w:World)(hc:∀j u,news[j]? =some u→w.cell? (a.add j)=some u)(h1:∀u∈news,u.oneCell'=true):
 Calls Tryz.prog 27 #[.slice (some a) n cp] w fun e w'=>∃v',e= .returned v'∧w'.ownsRow w.heap.size 3 1 v' n news∧Below w.heap.size w w':=by
 obtain⟨i0,hi,hz0,hz1,hz2⟩:=in3
 have q22:∀(w:World) (a:Option Addr) (n c n' c':Nat),(binOp .eql 28 (.slice a n c) (.slice none n' c')).run Tryz.prog w= .ok (.bool a.isNone) w:=fun w a n c n' c'=>Lib.run_eql_slice_nil w _ _ a n c n' c' ew8
 have u22:∀w,Sem.run Tryz.prog (underlying 28) w= .ok (TypeDesc.slice 3) w:=run_underlying ew8
 have A:Aside (∀j u,news[j]? =some u→w.cell? (a.add j)=some u):=hc
 clear hc
 go_enter Tryz.func27,Tryz.ntmps27
 go_wp2_with (at_builtin;refine wpList_append_own _ rfl _ _ 28 rfl w.heap.size 3 i0 (.int .i64 0) 1 8 ew8 hi hz0 hz1 hz2 rfl (by decide) _ _ _ rfl (World.ownsRow_made w #[] 0 (Nat.le_refl _) (Nat.zero_le _) rfl) a n cp news rfl ?qc1 ?qc2 ?qc3 ?qc4 ?qc5 ?qc6 ?_)
 case qc1=>exact hl
 case qc2=>intro j u hj;exact Lib.cell?_alloc_some _ (A.out j u hj)
 case qc3=>exact h1
 case qc4=>simpa using hn
 case qc5=>simpa using hbig
 case qc6=>simp
 intro v' w1 hown hgrow hnil
 go_wp2
 go_ret
 refine⟨v',rfl,by simpa using hown,?_⟩
 exact((Below.refl _ w).alloc (Nat.le_refl _) _).grown hgrow (by simp) (by intro k hk;simp[Value.ownBlock]at hk;omega)
theorem dl7:al9 Tryz.prog 27 3 1 8:=by
 refine⟨⟨_,Tryz.func27,by kernel_rfl,by intro e;exact absurd e (by decide+kernel)⟩,fun w A ad n cap us hr hm hA hus=>?_⟩
 cases A with
 |none=>
  have hn:n=0:=by
   cases n with
   |zero=>rfl
   |succ n=>exact absurd (hA (Nat.succ_pos n)) (by simp)
  subst hn
  refine(cp7 0 cap w).mono ?_
  rintro e w' ⟨rfl,rfl⟩
  exact⟨_,rfl,⟨by simp,.inl ⟨rfl,rfl⟩⟩,Below.refl _ _⟩
 |some a=>
  have hlen:(((List.range n).map us).flatten).length=n*1:=by
   have h:∀m,m≤n→(((List.range m).map us).flatten).length=m*1:=by
    intro m
    induction m with
    |zero=>intro _;rfl
    |succ m ih=>
     intro hm
     rw[List.range_succ,List.map_append,List.flatten_append,List.length_append,ih (by omega)]
     simp[(hus m (by omega)).1]
     all_goals omega
   exact h n (Nat.le_refl _)
  refine by0 a n cap _ hlen hr hm w ?_ ?_
  ·intro j u hj
   have hjl:j<n*1:=by rw[←hlen];exact(List.getElem?_eq_some_iff.1 hj).1
   have hq:j/1<n:=by omega
   have e0:a=ad:=by have:=hA (by omega);simpa using this
   subst e0
   have h1:=rC (us:=us) (fun j hj=>(hus j hj).1) hq (i:=j%1) (by omega)
   have e1:j/1*1+j%1=j:=by omega
   rw[e1,hj]at h1
   have:=(hus (j/1) hq).2.2 (j%1) u h1.symm
   rw[e1]at this
   exact this
  ·intro u hu
   rw[List.mem_flatten]at hu
   obtain⟨l,hl,hul⟩:=hu
   obtain⟨q,hq,rfl⟩:=List.mem_map.1 hl
   exact List.all_eq_true.1 (hus q (List.mem_range.1 hq)).2.1 u hul
set_option maxHeartbeats 2000000 in
set_option maxRecDepth 100000 in
theorem cr6(n cp:Nat)(w:World):Calls Tryz.prog 28 #[.slice none n cp] w fun e w'=>e= .returned (.slice none 0 0)∧w'=w:=by
 have q22:∀(w:World) (a:Option Addr) (n c n' c':Nat),(binOp .eql 29 (.slice a n c) (.slice none n' c')).run Tryz.prog w= .ok (.bool a.isNone) w:=fun w a n c n' c'=>Lib.run_eql_slice_nil w _ _ a n c n' c' fa8
 go_enter Tryz.func28,Tryz.ntmps28
 go_wp2
 go_ret
 exact⟨rfl,rfl⟩
set_option maxHeartbeats 2000000 in
set_option maxRecDepth 100000 in
theorem bu0(a:Addr)(n cp:Nat)(news:List Value)(hl:news.length=n*2)(hbig:n*16≤140737488355328)(hn:n≤maxLen)(w:World)(hc:∀j u,news[j]? =some u→w.cell? (a.add j)=some u)(h1:∀u∈news,u.oneCell'=true):
 Calls Tryz.prog 28 #[.slice (some a) n cp] w fun e w'=>∃v',e= .returned v'∧w'.ownsRow w.heap.size 100 2 v' n news∧Below w.heap.size w w':=by
 obtain⟨i0,hi,hz0,hz1,hz2⟩:=fo9
 have q22:∀(w:World) (a:Option Addr) (n c n' c':Nat),(binOp .eql 29 (.slice a n c) (.slice none n' c')).run Tryz.prog w= .ok (.bool a.isNone) w:=fun w a n c n' c'=>Lib.run_eql_slice_nil w _ _ a n c n' c' fa8
 have u22:∀w,Sem.run Tryz.prog (underlying 29) w= .ok (TypeDesc.slice 100) w:=run_underlying fa8
 have A:Aside (∀j u,news[j]? =some u→w.cell? (a.add j)=some u):=hc
 clear hc
 go_enter Tryz.func28,Tryz.ntmps28
 go_wp2_with (at_builtin;refine wpList_append_own _ rfl _ _ 29 rfl w.heap.size 100 i0 (.agg #[.int .i64 0,.int .i64 0]) 2 16 fa8 hi hz0 hz1 hz2 rfl (by decide) _ _ _ rfl (World.ownsRow_made w #[] 0 (Nat.le_refl _) (Nat.zero_le _) rfl) a n cp news rfl ?qc1 ?qc2 ?qc3 ?qc4 ?qc5 ?qc6 ?_)
 case qc1=>exact hl
 case qc2=>intro j u hj;exact Lib.cell?_alloc_some _ (A.out j u hj)
 case qc3=>exact h1
 case qc4=>simpa using hn
 case qc5=>simpa using hbig
 case qc6=>simp
 intro v' w1 hown hgrow hnil
 go_wp2
 go_ret
 refine⟨v',rfl,by simpa using hown,?_⟩
 exact((Below.refl _ w).alloc (Nat.le_refl _) _).grown hgrow (by simp) (by intro k hk;simp[Value.ownBlock]at hk;omega)
theorem dn8:al9 Tryz.prog 28 100 2 16:=by
 refine⟨⟨_,Tryz.func28,by kernel_rfl,by intro e;exact absurd e (by decide+kernel)⟩,fun w A ad n cap us hr hm hA hus=>?_⟩
 cases A with
 |none=>
  have hn:n=0:=by
   cases n with
   |zero=>rfl
   |succ n=>exact absurd (hA (Nat.succ_pos n)) (by simp)
  subst hn
  refine(cr6 0 cap w).mono ?_
  rintro e w' ⟨rfl,rfl⟩
  exact⟨_,rfl,⟨by simp,.inl ⟨rfl,rfl⟩⟩,Below.refl _ _⟩
 |some a=>
  have hlen:(((List.range n).map us).flatten).length=n*2:=by
   have h:∀m,m≤n→(((List.range m).map us).flatten).length=m*2:=by
    intro m
    induction m with
    |zero=>intro _;rfl
    |succ m ih=>
     intro hm
     rw[List.range_succ,List.map_append,List.flatten_append,List.length_append,ih (by omega)]
     simp[(hus m (by omega)).1]
     all_goals omega
   exact h n (Nat.le_refl _)
  refine bu0 a n cap _ hlen hr hm w ?_ ?_
  ·intro j u hj
   have hjl:j<n*2:=by rw[←hlen];exact(List.getElem?_eq_some_iff.1 hj).1
   have hq:j/2<n:=by omega
   have e0:a=ad:=by have:=hA (by omega);simpa using this
   subst e0
   have h1:=rC (us:=us) (fun j hj=>(hus j hj).1) hq (i:=j%2) (by omega)
   have e1:j/2*2+j%2=j:=by omega
   rw[e1,hj]at h1
   have:=(hus (j/2) hq).2.2 (j%2) u h1.symm
   rw[e1]at this
   exact this
  ·intro u hu
   rw[List.mem_flatten]at hu
   obtain⟨l,hl,hul⟩:=hu
   obtain⟨q,hq,rfl⟩:=List.mem_map.1 hl
   exact List.all_eq_true.1 (hus q (List.mem_range.1 hq)).2.1 u hul
end Go.Proofs.YtcijknknahbbnaaGreatDoor

