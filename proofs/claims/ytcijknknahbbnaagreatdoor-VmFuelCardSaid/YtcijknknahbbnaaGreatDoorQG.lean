/- Texts joined. -/
import Derived.Test.YtcijknknahbbnaaGreatDoorQF
import Derived.Test.YtcijknknahbbnaaGreatDoorQD
import Derived.Test.YtcijknknahbbnaaGreatDoorQC
/- Play of the codes of VmFuel, lifted. -/
set_option linter.unusedSimpArgs false
set_option linter.unusedVariables false
namespace Go.Proofs.YtcijknknahbbnaaGreatDoor
open Go Go.Am Go.Proofs Go.Proofs.Lx
set_option maxRecDepth 100000
noncomputable def cf9:h9:=fun f a L k=>if(decide (f<54)||f==69||f==70||f==79||f==81)=true then wX E5 20 f a L k else none
theorem ax5:m6 E5 cf9:=fun f a L k r h=>by
 unfold cf9 at h
 split at h
 ·exact(vV hW5 hX5 20).1 _ _ _ _ _ h
 ·cases h
abbrev y3:Type:=Nat×(Nat→Int)
abbrev w9:Type:=Nat×(Nat→Int)
def x8:y3→List V×List (Option Chunk):=(fun x=>(fun(n:Nat) (y:Nat→Int)=>(([.ro 1 n (fun j=>[i64 (y j)])]:List V),([]:List (Option Chunk)))) x.1 x.2)
def ec7(t:List V×List (Option Chunk)):y3:=((kP (t.1.getD 0 .junk)),(fun j=>(vI ((nX (t.1.getD 0 .junk) j).getD 0 .junk))))
theorem bb6:∀x y,x8 x=x8 y→x=y:=fun x y h=>(congrArg ec7 h:)
def yA:w9→CRes:=(fun z=>(fun(n:Nat) (y:Nat→Int)=>.ret (.sl 0 1 0 n) [some (.row 3 1 n (fun j=>[i64 (y j)]))]) z.1 z.2:(Nat×(Nat→Int))→CRes)
def aj5(z:w9)(k:CRes→Option Ans):Option Ans:=k (yA z)
theorem bq6:∀z k,aj5 z k=k (yA z):=fun z k=>rfl
noncomputable def at4(q:Nat)(x:y3):Option w9:=if x.1≤1000 then some x else none
theorem dr6(q:Nat):∀(x:y3) (z:w9),at4 q x=some z→SC E5 27 (x8 x).1 (x8 x).2 (yA z):=by
 rintro⟨n,y⟩ z h
 unfold at4 at h
 split at h
 ·rename_i hn
  cases h
  have hn:n≤1000:=hn
  exact bi2 (E:=E5) (L:=[]) (x:=.ro 1 n (fun j=>[i64 (y j)])) (by decide) dl7 rfl (.inl rfl) (by unfold d9;omega) (by unfold Go.maxLen;omega)
 ·cases h
abbrev x9:Type:=Nat×(Nat→Int)×(Nat→Int)
abbrev w6:Type:=Nat×(Nat→Int)×(Nat→Int)
def x6:x9→List V×List (Option Chunk):=(fun x=>(fun(n:Nat) (y:Nat→Int) (z:Nat→Int)=>(([.ro 2 n (fun j=>[i64 (y j),i64 (z j)])]:List V),([]:List (Option Chunk)))) x.1 x.2.1 x.2.2)
def ep5(t:List V×List (Option Chunk)):x9:=((kP (t.1.getD 0 .junk)),(fun j=>(vI ((nX (t.1.getD 0 .junk) j).getD 0 .junk))),(fun j=>(vI ((nX (t.1.getD 0 .junk) j).getD 1 .junk))))
theorem bf8:∀x y,x6 x=x6 y→x=y:=fun x y h=>(congrArg ep5 h:)
def xV:w6→CRes:=(fun z=>(fun(n:Nat) (y:Nat→Int) (z:Nat→Int)=>.ret (.sl 0 2 0 n) [some (.row 100 2 n (fun j=>[i64 (y j),i64 (z j)]))]) z.1 z.2.1 z.2.2:(Nat×(Nat→Int)×(Nat→Int))→CRes)
def al0(z:w6)(k:CRes→Option Ans):Option Ans:=k (xV z)
theorem bp5:∀z k,al0 z k=k (xV z):=fun z k=>rfl
noncomputable def ao3(q:Nat)(x:x9):Option w6:=if x.1≤1000 then some x else none
theorem du4(q:Nat):∀(x:x9) (z:w6),ao3 q x=some z→SC E5 28 (x6 x).1 (x6 x).2 (xV z):=by
 rintro⟨n,y,z⟩ z h
 unfold ao3 at h
 split at h
 ·rename_i hn
  cases h
  have hn:n≤1000:=hn
  exact bi2 (E:=E5) (L:=[]) (x:=.ro 2 n (fun j=>[i64 (y j),i64 (z j)])) (by decide) dn8 rfl (.inl rfl) (by unfold d9;omega) (by unfold Go.maxLen;omega)
 ·cases h
abbrev qX:Type:=ByteArray×Nat×(Nat→Int)×(Nat→Int)
abbrev sV:Type:=Unit
def sX:qX→List V×List (Option Chunk):=(fun x=>(fun(nm:ByteArray) (n:Nat) (op:Nat→Int) (ar:Nat→Int)=>(([.agg [st nm,i64 0,i64 0,.ro 2 n (fun j=>[i64 (op j),i64 (ar j)])],g9]:List V),([]:List (Option Chunk)))) x.1 x.2.1 x.2.2.1 x.2.2.2)
def bb9:sV→CRes:=(fun z=>CRes.ret (V.tup [V.agg [i64 (0:Int),i64 (0:Int),i64 (-1:Int),i64 (-1:Int),V.sl 0 1 0 0,g9,g9,i64 (0:Int),i64 (0:Int)],i64 (0:Int)]) [some (Chunk.row 3 1 0 fun(j:Nat)=>[i64 (0:Int)])]:(Unit)→CRes)
def uF{β:Type}(x:qX)(dn:sV→Option β):Option β:=
 dn ()
theorem ei3{β:Type}(x:qX)(dn:sV→Option β):uF x dn=(uF x some).bind dn:=by
 unfold uF
 repeat' first|exact aW|refine aU (fun z=>?_) |refine cL ?_ ?_|refine cF (fun z=>?_) (fun z=>?_) |rfl
theorem eo0(x:qX):j8 E5 (wX E5 20) lo0 11 (sX x).1 (sX x).2 K=uF x (fun z=>some (.c (bb9 z))):=by kernel_rfl
theorem ei5(q:Nat)(x:qX)(z:sV)(h:uF x some=some z):SC E5 11 (sX x).1 (sX x).2 (bb9 z):=by
 refine SC.of hW5 hX5 (vV hW5 hX5 20).1 b8 ((eo0 x).trans ?_)
 rw[ei3,h];rfl
noncomputable def ej6(q:Nat)(x:qX):Option sV:=uF x some
theorem du9(q:Nat):∀(x:qX) (z:sV),ej6 q x=some z→SC E5 11 (sX x).1 (sX x).2 (bb9 z):=fun x z h=>ei5 q x z h
abbrev mL:Type:=ByteArray×Nat×(Nat→Int)×(Nat→Int)
abbrev mM:Type:=Unit
def gJ:mL→List V×List (Option Chunk):=(fun x=>(fun(nm:ByteArray) (n:Nat) (op:Nat→Int) (ar:Nat→Int)=>(([.agg [st nm,i64 0,i64 0,.ro 2 n (fun j=>[i64 (op j),i64 (ar j)])],g9]:List V),([]:List (Option Chunk)))) x.1 x.2.1 x.2.2.1 x.2.2.2)
def en9(t:List V×List (Option Chunk)):mL:=((vS ((vAg (t.1.getD 0 .junk)).getD 0 .junk)),(kP ((vAg (t.1.getD 0 .junk)).getD 3 .junk)),(fun j=>(vI ((nX ((vAg (t.1.getD 0 .junk)).getD 3 .junk) j).getD 0 .junk))),(fun j=>(vI ((nX ((vAg (t.1.getD 0 .junk)).getD 3 .junk) j).getD 1 .junk))))
theorem ei8:∀x y,gJ x=gJ y→x=y:=fun x y h=>(congrArg en9 h:)
def am3:mM→CRes:=(fun _=>.ret (.tup [.agg [i64 0,i64 0,i64 (-1),i64 (-1),.ro 1 0 (fun _=>[i64 0]),.ro 1 0 (fun _=>[i64 0]),.ro 2 0 (fun _=>[i64 0,i64 0]),i64 0,i64 0],i64 0]) []:(Unit)→CRes)
def be7(z:mM)(k:CRes→Option Ans):Option Ans:=k (am3 z)
theorem bo5:∀z k,be7 z k=k (am3 z):=fun z k=>rfl
noncomputable def dj2(q:Nat)(x:mL):Option mM:=ej6 q x
theorem eb5(q:Nat):∀(x:mL) (z:mM),dj2 q x=some z→SC E5 11 (gJ x).1 (gJ x).2 (am3 z):=fun x z h=>
 SC.le (SC.give (du9 q x z h) (by rfl)) (Le.tup (LeL.cons (Le.agg (LeL.cons (Le.refl _) (LeL.cons (Le.refl _) (LeL.cons (Le.refl _) (LeL.cons (Le.refl _) (LeL.cons (Le.ro fun j hj=>absurd hj (Nat.not_lt_zero j)) (LeL.cons Le.nil_ro (LeL.cons Le.nil_ro (LeL.refl _))))))))) (LeL.refl _)))
abbrev l6:Type:=ByteArray×Nat×(Nat→Int)×(Nat→Int)
abbrev jU:Type:=(Int×Nat×(Nat→Int)×Int×Int)⊕(Int×Nat×Nat×(Nat→Int)×(Nat→Int)×(Nat→Int)×(Nat→Int)×Int×Int)
def eD:l6→List V×List (Option Chunk):=(fun x=>(fun(nm:ByteArray) (n:Nat) (op:Nat→Int) (ar:Nat→Int)=>(([.agg [st nm,i64 0,i64 0,.ro 2 n (fun j=>[i64 (op j),i64 (ar j)])],.agg [i64 0,i64 0,i64 (-1),i64 (-1),.ro 1 0 (fun _=>[i64 0]),.ro 1 0 (fun _=>[i64 0]),.ro 2 0 (fun _=>[i64 0,i64 0]),i64 0,i64 0],.agg [i64 0,i64 0,i64 0,i64 0,i64 0,i64 0]]:List V),([]:List (Option Chunk)))) x.1 x.2.1 x.2.2.1 x.2.2.2)
def ex4(t:List V×List (Option Chunk)):l6:=((vS ((vAg (t.1.getD 0 .junk)).getD 0 .junk)),(kP ((vAg (t.1.getD 0 .junk)).getD 3 .junk)),(fun j=>(vI (((nX ((vAg (t.1.getD 0 .junk)).getD 3 .junk)) j).getD 0 .junk))),(fun j=>(vI (((nX ((vAg (t.1.getD 0 .junk)).getD 3 .junk)) j).getD 1 .junk))))
theorem et5:∀x y,eD x=eD y→x=y:=fun x y h=>(congrArg ex4 h:)
def vG:jU→CRes:=Sum.elim ((fun z=>CRes.ret (V.tup [V.agg [i64 (z.1),i64 (0:Int),i64 (-1:Int),i64 (-1:Int),V.sl 0 1 0 (z.2.1),g9,g9,i64 (z.2.2.2.1),i64 (z.2.2.2.2)],g9]) [some (Chunk.row 3 1 (z.2.1) fun(j:Nat)=>[i64 (z.2.2.1 j)])]:(Int×Nat×(Nat→Int)×Int×Int)→CRes)) ((fun z=>CRes.ret (V.tup [V.agg [i64 (z.1),i64 (0:Int),i64 (-1:Int),i64 (-1:Int),V.sl 0 1 0 (z.2.1),g9,g9,i64 (z.2.2.2.2.2.2.2.1),i64 (z.2.2.2.2.2.2.2.2)],V.sl 1 3 0 (z.2.2.1)]) [some (Chunk.row 3 1 (z.2.1) fun(j:Nat)=>[i64 (z.2.2.2.1 j)]),some (Chunk.row 59 3 (z.2.2.1) fun(j:Nat)=>[i64 (z.2.2.2.2.1 j),i64 (z.2.2.2.2.2.1 j),i64 (z.2.2.2.2.2.2.1 j)])]:(Int×Nat×Nat×(Nat→Int)×(Nat→Int)×(Nat→Int)×(Nat→Int)×Int×Int)→CRes))
def bw8(z:jU)(k:CRes→Option Ans):Option Ans:=Sum.elim (fun za=>k (vG (.inl za))) (fun zb=>k (vG (.inr zb))) z
theorem cn7:∀z k,bw8 z k=k (vG z):=fun z k=>by
 rcases z with z|z<;>rfl
abbrev cA:Type:=(Nat×Nat×Nat×(Nat→Int)×(Nat→Int)×(Nat→Int)×(Nat→Int)×Int×Int×Nat)⊕(Nat×Nat×Nat×(Nat→Int)×(Nat→Int)×(Nat→Int)×(Nat→Int)×Int×(Nat→Int)×Int×Nat×Nat×(Nat→Int)×(Nat→Int))
abbrev bE:Type:=(Int×Nat×(Nat→Int))⊕(Int×Nat×Nat×Nat×(Nat→Int)×(Nat→Int)×Nat×(Nat→Int)×(Nat→Int))⊕(Nat×Int×Nat×(Nat→Int)×(Nat→Int)×(Nat→Int)×(Nat→Int))⊕(Nat×(Nat→Int)×(Nat→Int)×(Nat→Int)×Int×Nat×Nat×Nat×(Nat→Int)×(Nat→Int)×Nat×(Nat→Int)×(Nat→Int))
def ci6(x:l6)(y:Nat×Nat×Nat×(Nat→Int)×(Nat→Int)×(Nat→Int)×(Nat→Int)×Int×Int×Nat):St:={fr:=[V.junk,V.junk,V.junk,V.ptr 0 0,V.junk,V.junk,V.ptr 1 0,V.junk,V.ptr 2 0,V.ptr 3 0,V.mp 7]++jk 36++[i64 (y.2.2.2.2.2.2.2.1)]++jk 35,H:=hp [some (Chunk.blk [st (x.1),i64 (0:Int),i64 (0:Int),V.ro 2 (x.2.1) fun(j:Nat)=>[i64 (x.2.2.1 j),i64 (x.2.2.2 j)]]),some (Chunk.blk [i64 (0:Int),i64 (0:Int),i64 (0:Int),i64 (0:Int),g9,g9,g9,i64 (0:Int),i64 (0:Int)]),some (Chunk.blk [g9]),some (Chunk.blk [i64 (y.2.2.2.2.2.2.2.2.1),i64 (0:Int),i64 (-1:Int),i64 (-1:Int),V.sl 4 1 0 (y.1),V.sl 5 1 0 (y.2.1),V.sl 6 2 0 (y.2.2.1),i64 (0:Int),i64 (0:Int),i64 (0:Int),i64 (0:Int),i64 (0:Int),i64 (0:Int),i64 (0:Int),i64 (0:Int),V.fn 29 [V.ptr 2 0],bo false]),some (Chunk.row 3 1 (y.1) fun(j:Nat)=>[i64 (y.2.2.2.1 j)]),some (Chunk.row 3 1 (y.2.1) fun(j:Nat)=>[i64 (y.2.2.2.2.1 j)]),some (Chunk.row 100 2 (y.2.2.2.2.2.2.2.2.2) fun(j:Nat)=>[i64 (y.2.2.2.2.2.1 j),i64 (y.2.2.2.2.2.2.1 j)]),some (Chunk.map [((1:Int),V.fn 54 []),((2:Int),V.fn 55 []),((3:Int),V.fn 56 []),((4:Int),V.fn 57 []),((5:Int),V.fn 58 []),((6:Int),V.fn 59 []),((7:Int),V.fn 60 []),((8:Int),V.fn 61 []),((9:Int),V.fn 62 []),((10:Int),V.fn 63 []),((11:Int),V.fn 64 []),((12:Int),V.fn 65 []),((13:Int),V.fn 66 []),((14:Int),V.fn 67 []),((15:Int),V.fn 68 []),((16:Int),V.fn 69 []),((17:Int),V.fn 70 []),((18:Int),V.fn 71 []),((19:Int),V.fn 72 []),((20:Int),V.fn 73 []),((21:Int),V.fn 74 []),((22:Int),V.fn 75 []),((23:Int),V.fn 76 []),((24:Int),V.fn 77 []),((25:Int),V.fn 78 []),((26:Int),V.fn 79 []),((27:Int),V.fn 80 []),((28:Int),V.fn 81 [])])],nx:=8,rt:=0,me:=12}
def cv5(s:St):Nat×Nat×Nat×(Nat→Int)×(Nat→Int)×(Nat→Int)×(Nat→Int)×Int×Int×Nat:=((fE ((chB (s.H 3)).getD 4 .junk)),(fE ((chB (s.H 3)).getD 5 .junk)),(fE ((chB (s.H 3)).getD 6 .junk)),(fun j=>(vI (((chF (s.H 4)) j).getD 0 .junk))),(fun j=>(vI (((chF (s.H 5)) j).getD 0 .junk))),(fun j=>(vI (((chF (s.H 6)) j).getD 0 .junk))),(fun j=>(vI (((chF (s.H 6)) j).getD 1 .junk))),(vI (s.fr.getD 47 .junk)),(vI ((chB (s.H 3)).getD 0 .junk)),(chN (s.H 6)))
def cm5(x:l6)(y:Nat×Nat×Nat×(Nat→Int)×(Nat→Int)×(Nat→Int)×(Nat→Int)×Int×(Nat→Int)×Int×Nat×Nat×(Nat→Int)×(Nat→Int)):St:={fr:=[V.junk,V.junk,V.junk,V.ptr 0 0,V.junk,V.junk,V.ptr 1 0,V.junk,V.ptr 2 0,V.ptr 4 0,V.mp 8]++jk 36++[i64 (y.2.2.2.2.2.2.2.1)]++jk 35,H:=hp [some (Chunk.blk [st (x.1),i64 (0:Int),i64 (0:Int),V.ro 2 (x.2.1) fun(j:Nat)=>[i64 (x.2.2.1 j),i64 (x.2.2.2 j)]]),some (Chunk.blk [i64 (0:Int),i64 (0:Int),i64 (0:Int),i64 (0:Int),g9,g9,g9,i64 (0:Int),i64 (0:Int)]),some (Chunk.blk [V.sl 3 3 0 (y.2.2.2.2.2.2.2.2.2.2.2.1)]),some (Chunk.row 59 3 (y.2.2.2.2.2.2.2.2.2.2.2.1) fun(j:Nat)=>[i64 (y.2.2.2.2.2.2.2.2.2.2.2.2.1 j),i64 (y.2.2.2.2.2.2.2.2.1 j),i64 (y.2.2.2.2.2.2.2.2.2.2.2.2.2 j)]),some (Chunk.blk [i64 (y.2.2.2.2.2.2.2.2.2.1),i64 (0:Int),i64 (-1:Int),i64 (-1:Int),V.sl 5 1 0 (y.1),V.sl 6 1 0 (y.2.1),V.sl 7 2 0 (y.2.2.1),i64 (0:Int),i64 (0:Int),i64 (0:Int),i64 (0:Int),i64 (0:Int),i64 (0:Int),i64 (0:Int),i64 (0:Int),V.fn 29 [V.ptr 2 0],bo false]),some (Chunk.row 3 1 (y.1) fun(j:Nat)=>[i64 (y.2.2.2.1 j)]),some (Chunk.row 3 1 (y.2.1) fun(j:Nat)=>[i64 (y.2.2.2.2.1 j)]),some (Chunk.row 100 2 (y.2.2.2.2.2.2.2.2.2.2.1) fun(j:Nat)=>[i64 (y.2.2.2.2.2.1 j),i64 (y.2.2.2.2.2.2.1 j)]),some (Chunk.map [((1:Int),V.fn 54 []),((2:Int),V.fn 55 []),((3:Int),V.fn 56 []),((4:Int),V.fn 57 []),((5:Int),V.fn 58 []),((6:Int),V.fn 59 []),((7:Int),V.fn 60 []),((8:Int),V.fn 61 []),((9:Int),V.fn 62 []),((10:Int),V.fn 63 []),((11:Int),V.fn 64 []),((12:Int),V.fn 65 []),((13:Int),V.fn 66 []),((14:Int),V.fn 67 []),((15:Int),V.fn 68 []),((16:Int),V.fn 69 []),((17:Int),V.fn 70 []),((18:Int),V.fn 71 []),((19:Int),V.fn 72 []),((20:Int),V.fn 73 []),((21:Int),V.fn 74 []),((22:Int),V.fn 75 []),((23:Int),V.fn 76 []),((24:Int),V.fn 77 []),((25:Int),V.fn 78 []),((26:Int),V.fn 79 []),((27:Int),V.fn 80 []),((28:Int),V.fn 81 [])])],nx:=9,rt:=0,me:=12}
def co5(s:St):Nat×Nat×Nat×(Nat→Int)×(Nat→Int)×(Nat→Int)×(Nat→Int)×Int×(Nat→Int)×Int×Nat×Nat×(Nat→Int)×(Nat→Int):=((fE ((chB (s.H 4)).getD 4 .junk)),(fE ((chB (s.H 4)).getD 5 .junk)),(fE ((chB (s.H 4)).getD 6 .junk)),(fun j=>(vI (((chF (s.H 5)) j).getD 0 .junk))),(fun j=>(vI (((chF (s.H 6)) j).getD 0 .junk))),(fun j=>(vI (((chF (s.H 7)) j).getD 0 .junk))),(fun j=>(vI (((chF (s.H 7)) j).getD 1 .junk))),(vI (s.fr.getD 47 .junk)),(fun j=>(vI (((chF (s.H 3)) j).getD 1 .junk))),(vI ((chB (s.H 4)).getD 0 .junk)),(chN (s.H 7)),(fE ((chB (s.H 2)).getD 0 .junk)),(fun j=>(vI (((chF (s.H 3)) j).getD 0 .junk))),(fun j=>(vI (((chF (s.H 3)) j).getD 2 .junk))))
def bC(x:l6):cA→St:=(Sum.elim (ci6 x) (cm5 x))
def dc4(s:St):cA:=(match s.nx==8 with|true=>(.inl (cv5 s)) |false=>(.inr (co5 s)))
theorem cz4(x:l6):∀y y',bC x y=bC x y'→y=y':=fun y y' h=>by rcases y with y|y<;>rcases y' with y|y<;>exact(congrArg dc4 h:)
def d6(x:l6):bE→Ex×St:=(Sum.elim (fun z=>(Ex.ret,{fr:=jk 6++[V.ptr 0 0,g9]++jk 75,H:=hp [some (Chunk.blk [i64 (z.1),i64 (0:Int),i64 (-1:Int),i64 (-1:Int),V.sl 1 1 0 (z.2.1),g9,g9,i64 (1:Int),i64 (0:Int)]),some (Chunk.row 3 1 (z.2.1) fun(j:Nat)=>[i64 (z.2.2 j)])],nx:=2,rt:=0,me:=12})) (Sum.elim (fun z=>(Ex.exit 0,{fr:=jk 6++[V.ptr 0 0,V.junk,V.ptr 1 0,V.ptr 2 0]++jk 73,H:=hp [some (Chunk.blk [i64 (0:Int),i64 (0:Int),i64 (0:Int),i64 (0:Int),g9,g9,g9,i64 (0:Int),i64 (0:Int)]),some (Chunk.blk [g9]),some (Chunk.blk [i64 (z.1),i64 (0:Int),i64 (-1:Int),i64 (-1:Int),V.sl 3 1 0 (z.2.1),V.sl 4 1 0 (z.2.2.1),V.sl 5 2 0 (z.2.2.2.1),i64 (0:Int),i64 (0:Int),i64 (0:Int),i64 (0:Int),i64 (0:Int),i64 (0:Int),i64 (0:Int),i64 (0:Int),V.fn 29 [V.ptr 1 0],bo false]),some (Chunk.row 3 1 (z.2.1) fun(j:Nat)=>[i64 (z.2.2.2.2.1 j)]),some (Chunk.row 3 1 (z.2.2.1) fun(j:Nat)=>[i64 (z.2.2.2.2.2.1 j)]),some (Chunk.row 100 2 (z.2.2.2.2.2.2.1) fun(j:Nat)=>[i64 (z.2.2.2.2.2.2.2.1 j),i64 (z.2.2.2.2.2.2.2.2 j)])],nx:=6,rt:=0,me:=12})) (Sum.elim (fun z=>(Ex.ret,{fr:=jk 6++[V.ptr 0 0,V.sl 2 3 0 (z.1)]++jk 75,H:=hp [some (Chunk.blk [i64 (z.2.1),i64 (0:Int),i64 (-1:Int),i64 (-1:Int),V.sl 1 1 0 (z.2.2.1),g9,g9,i64 (1:Int),i64 (0:Int)]),some (Chunk.row 3 1 (z.2.2.1) fun(j:Nat)=>[i64 (z.2.2.2.1 j)]),some (Chunk.row 59 3 (z.1) fun(j:Nat)=>[i64 (z.2.2.2.2.1 j),i64 (z.2.2.2.2.2.1 j),i64 (z.2.2.2.2.2.2 j)])],nx:=3,rt:=0,me:=12})) (fun z=>(Ex.exit 0,{fr:=jk 6++[V.ptr 0 0,V.junk,V.ptr 1 0,V.ptr 3 0]++jk 73,H:=hp [some (Chunk.blk [i64 (0:Int),i64 (0:Int),i64 (0:Int),i64 (0:Int),g9,g9,g9,i64 (0:Int),i64 (0:Int)]),some (Chunk.blk [V.sl 2 3 0 (z.1)]),some (Chunk.row 59 3 (z.1) fun(j:Nat)=>[i64 (z.2.1 j),i64 (z.2.2.1 j),i64 (z.2.2.2.1 j)]),some (Chunk.blk [i64 (z.2.2.2.2.1),i64 (0:Int),i64 (-1:Int),i64 (-1:Int),V.sl 4 1 0 (z.2.2.2.2.2.1),V.sl 5 1 0 (z.2.2.2.2.2.2.1),V.sl 6 2 0 (z.2.2.2.2.2.2.2.1),i64 (0:Int),i64 (0:Int),i64 (0:Int),i64 (0:Int),i64 (0:Int),i64 (0:Int),i64 (0:Int),i64 (0:Int),V.fn 29 [V.ptr 1 0],bo false]),some (Chunk.row 3 1 (z.2.2.2.2.2.1) fun(j:Nat)=>[i64 (z.2.2.2.2.2.2.2.2.1 j)]),some (Chunk.row 3 1 (z.2.2.2.2.2.2.1) fun(j:Nat)=>[i64 (z.2.2.2.2.2.2.2.2.2.1 j)]),some (Chunk.row 100 2 (z.2.2.2.2.2.2.2.2.2.2.1) fun(j:Nat)=>[i64 (z.2.2.2.2.2.2.2.2.2.2.2.1 j),i64 (z.2.2.2.2.2.2.2.2.2.2.2.2 j)])],nx:=7,rt:=0,me:=12})))))
def be8(x:l6)(z:bE)(k:KX):Option Ans:=Sum.elim (fun za=>k (d6 x (.inl za)).1 (d6 x (.inl za)).2) (fun zb=>Sum.elim (fun zba=>k (d6 x (.inr (.inl zba))).1 (d6 x (.inr (.inl zba))).2) (fun zbb=>Sum.elim (fun zbba=>k (d6 x (.inr (.inr (.inl zbba)))).1 (d6 x (.inr (.inr (.inl zbba)))).2) (fun zbbb=>k (d6 x (.inr (.inr (.inr zbbb)))).1 (d6 x (.inr (.inr (.inr zbbb)))).2) zbb) zb) z
theorem co0(x:l6):∀z k,be8 x z k=k (d6 x z).1 (d6 x z).2:=fun z k=>by
 rcases z with z|z|z|z<;>rfl
theorem ck6(x:l6)(z:Int×Nat×(Nat→Int)):KCM [(0,832)] 192 (d6 x (.inl z)).1 (d6 x (.inl z)).2=some (.l (d6 x (.inl z)).1 (d6 x (.inl z)).2):=by kernel_rfl
theorem ci7(x:l6)(z:Int×Nat×Nat×Nat×(Nat→Int)×(Nat→Int)×Nat×(Nat→Int)×(Nat→Int)):KCM [(0,832)] 192 (d6 x (.inr (.inl z))).1 (d6 x (.inr (.inl z))).2=some (.l (d6 x (.inr (.inl z))).1 (d6 x (.inr (.inl z))).2):=by kernel_rfl
theorem cw7(x:l6)(z:Nat×Int×Nat×(Nat→Int)×(Nat→Int)×(Nat→Int)×(Nat→Int)):KCM [(0,832)] 192 (d6 x (.inr (.inr (.inl z)))).1 (d6 x (.inr (.inr (.inl z)))).2=some (.l (d6 x (.inr (.inr (.inl z)))).1 (d6 x (.inr (.inr (.inl z)))).2):=by kernel_rfl
theorem cn8(x:l6)(z:Nat×(Nat→Int)×(Nat→Int)×(Nat→Int)×Int×Nat×Nat×Nat×(Nat→Int)×(Nat→Int)×Nat×(Nat→Int)×(Nat→Int)):KCM [(0,832)] 192 (d6 x (.inr (.inr (.inr z)))).1 (d6 x (.inr (.inr (.inr z)))).2=some (.l (d6 x (.inr (.inr (.inr z)))).1 (d6 x (.inr (.inr (.inr z)))).2):=by kernel_rfl
def x7{β:Type}(c_CloneI:y3→Option w9)(c_CloneL:x9→Option w6)(x:l6)(y:Nat×Nat×Nat×(Nat→Int)×(Nat→Int)×(Nat→Int)×(Nat→Int)×Int×Int×Nat)(nx:cA→Option β)(dn:bE→Option β):Option β:=
 if decide (y.2.2.2.2.2.2.2.1< (200:Int))=true then
  if(0:Int)≤y.2.2.2.2.2.2.2.2.1∧y.2.2.2.2.2.2.2.2.1< ((x.2.1:Nat):Int)then
   if x.2.2.1 (Int.toNat (y.2.2.2.2.2.2.2.2.1))=(1:Int)then
    none
   else
    if x.2.2.1 (Int.toNat (y.2.2.2.2.2.2.2.2.1))=(2:Int)then
     none
    else
     if x.2.2.1 (Int.toNat (y.2.2.2.2.2.2.2.2.1))=(3:Int)then
      none
     else
      if x.2.2.1 (Int.toNat (y.2.2.2.2.2.2.2.2.1))=(4:Int)then
       none
      else
       if x.2.2.1 (Int.toNat (y.2.2.2.2.2.2.2.2.1))=(5:Int)then
        none
       else
        if x.2.2.1 (Int.toNat (y.2.2.2.2.2.2.2.2.1))=(6:Int)then
         none
        else
         if x.2.2.1 (Int.toNat (y.2.2.2.2.2.2.2.2.1))=(7:Int)then
          none
         else
          if x.2.2.1 (Int.toNat (y.2.2.2.2.2.2.2.2.1))=(8:Int)then
           none
          else
           if x.2.2.1 (Int.toNat (y.2.2.2.2.2.2.2.2.1))=(9:Int)then
            none
           else
            if x.2.2.1 (Int.toNat (y.2.2.2.2.2.2.2.2.1))=(10:Int)then
             none
            else
             if x.2.2.1 (Int.toNat (y.2.2.2.2.2.2.2.2.1))=(11:Int)then
              none
             else
              if x.2.2.1 (Int.toNat (y.2.2.2.2.2.2.2.2.1))=(12:Int)then
               none
              else
               if x.2.2.1 (Int.toNat (y.2.2.2.2.2.2.2.2.1))=(13:Int)then
                none
               else
                if x.2.2.1 (Int.toNat (y.2.2.2.2.2.2.2.2.1))=(14:Int)then
                 none
                else
                 if x.2.2.1 (Int.toNat (y.2.2.2.2.2.2.2.2.1))=(15:Int)then
                  none
                 else
                  if x.2.2.1 (Int.toNat (y.2.2.2.2.2.2.2.2.1))=(16:Int)then
                   if(y.2.2.1+1)*16≤d9∧y.2.2.1+1≤maxLen∧y.2.2.1≤y.2.2.2.2.2.2.2.2.2 then
                    nx (.inl ((y.1,y.2.1,y.2.2.1+1,y.2.2.2.1,y.2.2.2.2.1,fun(j:Nat)=>if j<y.2.2.1 then y.2.2.2.2.2.1 j else w (y.2.2.2.2.2.2.2.2.1+(1:Int)),fun(j:Nat)=>if j<y.2.2.1 then y.2.2.2.2.2.2.1 j else x.2.2.2 (Int.toNat (y.2.2.2.2.2.2.2.2.1)),w (y.2.2.2.2.2.2.2.1+(1:Int)),w (y.2.2.2.2.2.2.2.2.1+(1:Int)),y.2.2.1+1)))
                   else
                    none
                  else
                   if x.2.2.1 (Int.toNat (y.2.2.2.2.2.2.2.2.1))=(17:Int)then
                    if(0:Int)≤w (((y.2.2.1:Nat):Int)-(1:Int))∧w (((y.2.2.1:Nat):Int)-(1:Int))< ((y.2.2.1:Nat):Int)then
                     if 0+Int.toNat (w (((y.2.2.1:Nat):Int)-(1:Int)))<y.2.2.2.2.2.2.2.2.2∧2=2 then
                      if(0:Int)≤w (((y.2.2.1:Nat):Int)-(1:Int))∧w (((y.2.2.1:Nat):Int)-(1:Int))< ((y.2.2.1:Nat):Int)then
                       if 0+Int.toNat (w (((y.2.2.1:Nat):Int)-(1:Int)))<y.2.2.2.2.2.2.2.2.2∧2=2 then
                        if(0:Int)≤w (((y.2.2.1:Nat):Int)-(1:Int))∧w (((y.2.2.1:Nat):Int)-(1:Int))< ((y.2.2.1:Nat):Int)then
                         if 0+Int.toNat (w (((y.2.2.1:Nat):Int)-(1:Int)))<y.2.2.2.2.2.2.2.2.2∧2=2 then
                          if decide ((if 0+Int.toNat (w (((y.2.2.1:Nat):Int)-(1:Int)))=0+Int.toNat (w (((y.2.2.1:Nat):Int)-(1:Int)))then w (y.2.2.2.2.2.2.1 (0+Int.toNat (w (((y.2.2.1:Nat):Int)-(1:Int))))-(1:Int))else y.2.2.2.2.2.2.1 (0+Int.toNat (w (((y.2.2.1:Nat):Int)-(1:Int)))))>(0:Int))=true then
                           if(0:Int)≤w (((y.2.2.1:Nat):Int)-(1:Int))∧w (((y.2.2.1:Nat):Int)-(1:Int))< ((y.2.2.1:Nat):Int)then
                            if 0+Int.toNat (w (((y.2.2.1:Nat):Int)-(1:Int)))<y.2.2.2.2.2.2.2.2.2∧2=2 then
                             nx (.inl ((y.1,y.2.1,y.2.2.1,y.2.2.2.1,y.2.2.2.2.1,y.2.2.2.2.2.1,fun(j:Nat)=>if j=0+Int.toNat (w (((y.2.2.1:Nat):Int)-(1:Int)))then w (y.2.2.2.2.2.2.1 (0+Int.toNat (w (((y.2.2.1:Nat):Int)-(1:Int))))-(1:Int))else y.2.2.2.2.2.2.1 j,w (y.2.2.2.2.2.2.2.1+(1:Int)),y.2.2.2.2.2.1 (0+Int.toNat (w (((y.2.2.1:Nat):Int)-(1:Int)))),y.2.2.2.2.2.2.2.2.2)))
                            else
                             none
                           else
                            none
                          else
                           if(0:Int)≤(0:Int)∧(0:Int)≤w (((y.2.2.1:Nat):Int)-(1:Int))∧w (((y.2.2.1:Nat):Int)-(1:Int))≤((y.2.2.1:Nat):Int)then
                            nx (.inl ((y.1,y.2.1,Int.toNat (w (((y.2.2.1:Nat):Int)-(1:Int)))-0,y.2.2.2.1,y.2.2.2.2.1,y.2.2.2.2.2.1,fun(j:Nat)=>if j=0+Int.toNat (w (((y.2.2.1:Nat):Int)-(1:Int)))then w (y.2.2.2.2.2.2.1 (0+Int.toNat (w (((y.2.2.1:Nat):Int)-(1:Int))))-(1:Int))else y.2.2.2.2.2.2.1 j,w (y.2.2.2.2.2.2.2.1+(1:Int)),w (y.2.2.2.2.2.2.2.2.1+(1:Int)),y.2.2.2.2.2.2.2.2.2)))
                           else
                            none
                         else
                          none
                        else
                         none
                       else
                        none
                      else
                       none
                     else
                      none
                    else
                     none
                   else
                    if x.2.2.1 (Int.toNat (y.2.2.2.2.2.2.2.2.1))=(18:Int)then
                     none
                    else
                     if x.2.2.1 (Int.toNat (y.2.2.2.2.2.2.2.2.1))=(19:Int)then
                      none
                     else
                      if x.2.2.1 (Int.toNat (y.2.2.2.2.2.2.2.2.1))=(20:Int)then
                       none
                      else
                       if x.2.2.1 (Int.toNat (y.2.2.2.2.2.2.2.2.1))=(21:Int)then
                        none
                       else
                        if x.2.2.1 (Int.toNat (y.2.2.2.2.2.2.2.2.1))=(22:Int)then
                         none
                        else
                         if x.2.2.1 (Int.toNat (y.2.2.2.2.2.2.2.2.1))=(23:Int)then
                          none
                         else
                          if x.2.2.1 (Int.toNat (y.2.2.2.2.2.2.2.2.1))=(24:Int)then
                           none
                          else
                           if x.2.2.1 (Int.toNat (y.2.2.2.2.2.2.2.2.1))=(25:Int)then
                            none
                           else
                            if x.2.2.1 (Int.toNat (y.2.2.2.2.2.2.2.2.1))=(26:Int)then
                             nx (.inr ((y.1,y.2.1,y.2.2.1,y.2.2.2.1,y.2.2.2.2.1,y.2.2.2.2.2.1,y.2.2.2.2.2.2.1,w (y.2.2.2.2.2.2.2.1+(1:Int)),fun(j:Nat)=>x.2.2.2 (Int.toNat (y.2.2.2.2.2.2.2.2.1)),w (y.2.2.2.2.2.2.2.2.1+(1:Int)),y.2.2.2.2.2.2.2.2.2,1,fun(j:Nat)=>(5:Int),fun(j:Nat)=>(0:Int))))
                            else
                             if x.2.2.1 (Int.toNat (y.2.2.2.2.2.2.2.2.1))=(27:Int)then
                              none
                             else
                              if x.2.2.1 (Int.toNat (y.2.2.2.2.2.2.2.2.1))=(28:Int)then
                               dn (.inl ((y.2.2.2.2.2.2.2.2.1,y.1,y.2.2.2.1)))
                              else
                               none
  else
   none
 else
  dn (.inr (.inl ((y.2.2.2.2.2.2.2.2.1,y.1,y.2.1,y.2.2.1,y.2.2.2.1,y.2.2.2.2.1,y.2.2.2.2.2.2.2.2.2,y.2.2.2.2.2.1,y.2.2.2.2.2.2.1))))
theorem ck2{β:Type}(c_CloneI:y3→Option w9)(c_CloneL:x9→Option w6)(x:l6)(y:Nat×Nat×Nat×(Nat→Int)×(Nat→Int)×(Nat→Int)×(Nat→Int)×Int×Int×Nat)(nx:cA→Option β)(dn:bE→Option β):x7 c_CloneI c_CloneL x y nx dn=(x7 c_CloneI c_CloneL x y (fun y=>some (.inl y)) (fun z=>some (.inr z))).bind fun r=>Sum.elim nx dn r:=by
 unfold x7
 repeat' first|exact aW|refine aU (fun z=>?_) |refine cL ?_ ?_|refine cF (fun z=>?_) (fun z=>?_) |rfl
theorem cx3(c_CloneI:y3→Option w9)(c_CloneL:x9→Option w6)(x:l6)(y:Nat×Nat×Nat×(Nat→Int)×(Nat→Int)×(Nat→Int)×(Nat→Int)×Int×Int×Nat)(lo:f7):r9 E5 (jL 27 (fun _ _=>true) x8 aj5 c_CloneI (jL 28 (fun _ _=>true) x6 al0 c_CloneL cf9)) lo 0 140737488357192 (b6 E5 12 0) (bC x (.inl y)) (KCM [(0,832)] 192)=x7 (fun x=>eK x8 c_CloneI (x8 x)) (fun x=>eK x6 c_CloneL (x6 x)) x y (fun y=>lo 0 140737488357192 (b6 E5 12 0) (bC x y) (KCM [(0,832)] 192)) (fun z=>some (.l (d6 x z).1 (d6 x z).2)):=by kernel_rfl
def y6{β:Type}(c_CloneI:y3→Option w9)(c_CloneL:x9→Option w6)(x:l6)(y:Nat×Nat×Nat×(Nat→Int)×(Nat→Int)×(Nat→Int)×(Nat→Int)×Int×(Nat→Int)×Int×Nat×Nat×(Nat→Int)×(Nat→Int))(nx:cA→Option β)(dn:bE→Option β):Option β:=
 if decide (y.2.2.2.2.2.2.2.1< (200:Int))=true then
  if(0:Int)≤y.2.2.2.2.2.2.2.2.2.1∧y.2.2.2.2.2.2.2.2.2.1< ((x.2.1:Nat):Int)then
   if x.2.2.1 (Int.toNat (y.2.2.2.2.2.2.2.2.2.1))=(1:Int)then
    none
   else
    if x.2.2.1 (Int.toNat (y.2.2.2.2.2.2.2.2.2.1))=(2:Int)then
     none
    else
     if x.2.2.1 (Int.toNat (y.2.2.2.2.2.2.2.2.2.1))=(3:Int)then
      none
     else
      if x.2.2.1 (Int.toNat (y.2.2.2.2.2.2.2.2.2.1))=(4:Int)then
       none
      else
       if x.2.2.1 (Int.toNat (y.2.2.2.2.2.2.2.2.2.1))=(5:Int)then
        none
       else
        if x.2.2.1 (Int.toNat (y.2.2.2.2.2.2.2.2.2.1))=(6:Int)then
         none
        else
         if x.2.2.1 (Int.toNat (y.2.2.2.2.2.2.2.2.2.1))=(7:Int)then
          none
         else
          if x.2.2.1 (Int.toNat (y.2.2.2.2.2.2.2.2.2.1))=(8:Int)then
           none
          else
           if x.2.2.1 (Int.toNat (y.2.2.2.2.2.2.2.2.2.1))=(9:Int)then
            none
           else
            if x.2.2.1 (Int.toNat (y.2.2.2.2.2.2.2.2.2.1))=(10:Int)then
             none
            else
             if x.2.2.1 (Int.toNat (y.2.2.2.2.2.2.2.2.2.1))=(11:Int)then
              none
             else
              if x.2.2.1 (Int.toNat (y.2.2.2.2.2.2.2.2.2.1))=(12:Int)then
               none
              else
               if x.2.2.1 (Int.toNat (y.2.2.2.2.2.2.2.2.2.1))=(13:Int)then
                none
               else
                if x.2.2.1 (Int.toNat (y.2.2.2.2.2.2.2.2.2.1))=(14:Int)then
                 none
                else
                 if x.2.2.1 (Int.toNat (y.2.2.2.2.2.2.2.2.2.1))=(15:Int)then
                  none
                 else
                  if x.2.2.1 (Int.toNat (y.2.2.2.2.2.2.2.2.2.1))=(16:Int)then
                   if(y.2.2.1+1)*16≤d9∧y.2.2.1+1≤maxLen∧y.2.2.1≤y.2.2.2.2.2.2.2.2.2.2.1 then
                    nx (.inr ((y.1,y.2.1,y.2.2.1+1,y.2.2.2.1,y.2.2.2.2.1,fun(j:Nat)=>if j<y.2.2.1 then y.2.2.2.2.2.1 j else w (y.2.2.2.2.2.2.2.2.2.1+(1:Int)),fun(j:Nat)=>if j<y.2.2.1 then y.2.2.2.2.2.2.1 j else x.2.2.2 (Int.toNat (y.2.2.2.2.2.2.2.2.2.1)),w (y.2.2.2.2.2.2.2.1+(1:Int)),y.2.2.2.2.2.2.2.2.1,w (y.2.2.2.2.2.2.2.2.2.1+(1:Int)),y.2.2.1+1,y.2.2.2.2.2.2.2.2.2.2.2)))
                   else
                    none
                  else
                   if x.2.2.1 (Int.toNat (y.2.2.2.2.2.2.2.2.2.1))=(17:Int)then
                    if(0:Int)≤w (((y.2.2.1:Nat):Int)-(1:Int))∧w (((y.2.2.1:Nat):Int)-(1:Int))< ((y.2.2.1:Nat):Int)then
                     if 0+Int.toNat (w (((y.2.2.1:Nat):Int)-(1:Int)))<y.2.2.2.2.2.2.2.2.2.2.1∧2=2 then
                      if(0:Int)≤w (((y.2.2.1:Nat):Int)-(1:Int))∧w (((y.2.2.1:Nat):Int)-(1:Int))< ((y.2.2.1:Nat):Int)then
                       if 0+Int.toNat (w (((y.2.2.1:Nat):Int)-(1:Int)))<y.2.2.2.2.2.2.2.2.2.2.1∧2=2 then
                        if(0:Int)≤w (((y.2.2.1:Nat):Int)-(1:Int))∧w (((y.2.2.1:Nat):Int)-(1:Int))< ((y.2.2.1:Nat):Int)then
                         if 0+Int.toNat (w (((y.2.2.1:Nat):Int)-(1:Int)))<y.2.2.2.2.2.2.2.2.2.2.1∧2=2 then
                          if decide ((if 0+Int.toNat (w (((y.2.2.1:Nat):Int)-(1:Int)))=0+Int.toNat (w (((y.2.2.1:Nat):Int)-(1:Int)))then w (y.2.2.2.2.2.2.1 (0+Int.toNat (w (((y.2.2.1:Nat):Int)-(1:Int))))-(1:Int))else y.2.2.2.2.2.2.1 (0+Int.toNat (w (((y.2.2.1:Nat):Int)-(1:Int)))))>(0:Int))=true then
                           if(0:Int)≤w (((y.2.2.1:Nat):Int)-(1:Int))∧w (((y.2.2.1:Nat):Int)-(1:Int))< ((y.2.2.1:Nat):Int)then
                            if 0+Int.toNat (w (((y.2.2.1:Nat):Int)-(1:Int)))<y.2.2.2.2.2.2.2.2.2.2.1∧2=2 then
                             nx (.inr ((y.1,y.2.1,y.2.2.1,y.2.2.2.1,y.2.2.2.2.1,y.2.2.2.2.2.1,fun(j:Nat)=>if j=0+Int.toNat (w (((y.2.2.1:Nat):Int)-(1:Int)))then w (y.2.2.2.2.2.2.1 (0+Int.toNat (w (((y.2.2.1:Nat):Int)-(1:Int))))-(1:Int))else y.2.2.2.2.2.2.1 j,w (y.2.2.2.2.2.2.2.1+(1:Int)),y.2.2.2.2.2.2.2.2.1,y.2.2.2.2.2.1 (0+Int.toNat (w (((y.2.2.1:Nat):Int)-(1:Int)))),y.2.2.2.2.2.2.2.2.2.2)))
                            else
                             none
                           else
                            none
                          else
                           if(0:Int)≤(0:Int)∧(0:Int)≤w (((y.2.2.1:Nat):Int)-(1:Int))∧w (((y.2.2.1:Nat):Int)-(1:Int))≤((y.2.2.1:Nat):Int)then
                            nx (.inr ((y.1,y.2.1,Int.toNat (w (((y.2.2.1:Nat):Int)-(1:Int)))-0,y.2.2.2.1,y.2.2.2.2.1,y.2.2.2.2.2.1,fun(j:Nat)=>if j=0+Int.toNat (w (((y.2.2.1:Nat):Int)-(1:Int)))then w (y.2.2.2.2.2.2.1 (0+Int.toNat (w (((y.2.2.1:Nat):Int)-(1:Int))))-(1:Int))else y.2.2.2.2.2.2.1 j,w (y.2.2.2.2.2.2.2.1+(1:Int)),y.2.2.2.2.2.2.2.2.1,w (y.2.2.2.2.2.2.2.2.2.1+(1:Int)),y.2.2.2.2.2.2.2.2.2.2)))
                           else
                            none
                         else
                          none
                        else
                         none
                       else
                        none
                      else
                       none
                     else
                      none
                    else
                     none
                   else
                    if x.2.2.1 (Int.toNat (y.2.2.2.2.2.2.2.2.2.1))=(18:Int)then
                     none
                    else
                     if x.2.2.1 (Int.toNat (y.2.2.2.2.2.2.2.2.2.1))=(19:Int)then
                      none
                     else
                      if x.2.2.1 (Int.toNat (y.2.2.2.2.2.2.2.2.2.1))=(20:Int)then
                       none
                      else
                       if x.2.2.1 (Int.toNat (y.2.2.2.2.2.2.2.2.2.1))=(21:Int)then
                        none
                       else
                        if x.2.2.1 (Int.toNat (y.2.2.2.2.2.2.2.2.2.1))=(22:Int)then
                         none
                        else
                         if x.2.2.1 (Int.toNat (y.2.2.2.2.2.2.2.2.2.1))=(23:Int)then
                          none
                         else
                          if x.2.2.1 (Int.toNat (y.2.2.2.2.2.2.2.2.2.1))=(24:Int)then
                           none
                          else
                           if x.2.2.1 (Int.toNat (y.2.2.2.2.2.2.2.2.2.1))=(25:Int)then
                            none
                           else
                            if x.2.2.1 (Int.toNat (y.2.2.2.2.2.2.2.2.2.1))=(26:Int)then
                             if(y.2.2.2.2.2.2.2.2.2.2.2.1+1)*24≤d9∧y.2.2.2.2.2.2.2.2.2.2.2.1+1≤maxLen∧y.2.2.2.2.2.2.2.2.2.2.2.1≤y.2.2.2.2.2.2.2.2.2.2.2.1 then
                              nx (.inr ((y.1,y.2.1,y.2.2.1,y.2.2.2.1,y.2.2.2.2.1,y.2.2.2.2.2.1,y.2.2.2.2.2.2.1,w (y.2.2.2.2.2.2.2.1+(1:Int)),fun(j:Nat)=>if j<y.2.2.2.2.2.2.2.2.2.2.2.1 then y.2.2.2.2.2.2.2.2.1 j else x.2.2.2 (Int.toNat (y.2.2.2.2.2.2.2.2.2.1)),w (y.2.2.2.2.2.2.2.2.2.1+(1:Int)),y.2.2.2.2.2.2.2.2.2.2.1,y.2.2.2.2.2.2.2.2.2.2.2.1+1,fun(j:Nat)=>if j<y.2.2.2.2.2.2.2.2.2.2.2.1 then y.2.2.2.2.2.2.2.2.2.2.2.2.1 j else(5:Int),fun(j:Nat)=>if j<y.2.2.2.2.2.2.2.2.2.2.2.1 then y.2.2.2.2.2.2.2.2.2.2.2.2.2 j else(0:Int))))
                             else
                              none
                            else
                             if x.2.2.1 (Int.toNat (y.2.2.2.2.2.2.2.2.2.1))=(27:Int)then
                              none
                             else
                              if x.2.2.1 (Int.toNat (y.2.2.2.2.2.2.2.2.2.1))=(28:Int)then
                               dn (.inr (.inr (.inl ((y.2.2.2.2.2.2.2.2.2.2.2.1,y.2.2.2.2.2.2.2.2.2.1,y.1,y.2.2.2.1,y.2.2.2.2.2.2.2.2.2.2.2.2.1,y.2.2.2.2.2.2.2.2.1,y.2.2.2.2.2.2.2.2.2.2.2.2.2)))))
                              else
                               none
  else
   none
 else
  dn (.inr (.inr (.inr ((y.2.2.2.2.2.2.2.2.2.2.2.1,y.2.2.2.2.2.2.2.2.2.2.2.2.1,y.2.2.2.2.2.2.2.2.1,y.2.2.2.2.2.2.2.2.2.2.2.2.2,y.2.2.2.2.2.2.2.2.2.1,y.1,y.2.1,y.2.2.1,y.2.2.2.1,y.2.2.2.2.1,y.2.2.2.2.2.2.2.2.2.2.1,y.2.2.2.2.2.1,y.2.2.2.2.2.2.1)))))
theorem cv4{β:Type}(c_CloneI:y3→Option w9)(c_CloneL:x9→Option w6)(x:l6)(y:Nat×Nat×Nat×(Nat→Int)×(Nat→Int)×(Nat→Int)×(Nat→Int)×Int×(Nat→Int)×Int×Nat×Nat×(Nat→Int)×(Nat→Int))(nx:cA→Option β)(dn:bE→Option β):y6 c_CloneI c_CloneL x y nx dn=(y6 c_CloneI c_CloneL x y (fun y=>some (.inl y)) (fun z=>some (.inr z))).bind fun r=>Sum.elim nx dn r:=by
 unfold y6
 repeat' first|exact aW|refine aU (fun z=>?_) |refine cL ?_ ?_|refine cF (fun z=>?_) (fun z=>?_) |rfl
theorem cg9(c_CloneI:y3→Option w9)(c_CloneL:x9→Option w6)(x:l6)(y:Nat×Nat×Nat×(Nat→Int)×(Nat→Int)×(Nat→Int)×(Nat→Int)×Int×(Nat→Int)×Int×Nat×Nat×(Nat→Int)×(Nat→Int))(lo:f7):r9 E5 (jL 27 (fun _ _=>true) x8 aj5 c_CloneI (jL 28 (fun _ _=>true) x6 al0 c_CloneL cf9)) lo 0 140737488357192 (b6 E5 12 0) (bC x (.inr y)) (KCM [(0,832)] 192)=y6 (fun x=>eK x8 c_CloneI (x8 x)) (fun x=>eK x6 c_CloneL (x6 x)) x y (fun y=>lo 0 140737488357192 (b6 E5 12 0) (bC x y) (KCM [(0,832)] 192)) (fun z=>some (.l (d6 x z).1 (d6 x z).2)):=by kernel_rfl
noncomputable def pT(c_CloneI:y3→Option w9)(c_CloneL:x9→Option w6)(q:Nat)(x:l6):cA→Option bE:=lpG (Sum.elim (fun y=>x7 c_CloneI c_CloneL x y (fun y=>some (.inl y)) (fun z=>some (.inr z))) (fun y=>y6 c_CloneI c_CloneL x y (fun y=>some (.inl y)) (fun z=>some (.inr z)))) q
theorem cz5(c_CloneI:y3→Option w9)(h_CloneI:∀x z,c_CloneI x=some z→SC E5 27 (x8 x).1 (x8 x).2 (yA z))(c_CloneL:x9→Option w6)(h_CloneL:∀x z,c_CloneL x=some z→SC E5 28 (x6 x).1 (x6 x).2 (xV z))(q:Nat)(x:l6):∀y z,pT c_CloneI c_CloneL q x y=some z→SL E5 (b6 E5 12 0) (bC x y) (d6 x z).1 (d6 x z).2:=
 SL.lp (LT:=fun lo=>lo) (T:=d6 x) (S:=bC x) (j3 h_CloneI bq6 (j3 h_CloneL bp5 ax5)) hX5 (fun lo h=>h) (fun lo y=>by
  rcases y with y|y
  ·exact(cx3 c_CloneI c_CloneL x y lo).trans (by rw[y7 bb6 c_CloneI,y7 bf8 c_CloneL];exact ck2 _ _ _ _ _ _)
  ·exact(cg9 c_CloneI c_CloneL x y lo).trans (by rw[y7 bb6 c_CloneI,y7 bf8 c_CloneL];exact cv4 _ _ _ _ _ _)) (fun z=>by rcases z with z|z|z|z<;>first|exact ck6 x z|exact ci7 x z|exact cw7 x z|exact cn8 x z) q
def uU{β:Type}(c_CloneI:y3→Option w9)(c_CloneL:x9→Option w6)(l_StepF_l0:cA→Option bE)(x:l6)(dn:jU→Option β):Option β:=
 (c_CloneI ((0,fun(j:Nat)=>(0:Int)))).bind fun z2=>
  (c_CloneI ((0,fun(j:Nat)=>(0:Int)))).bind fun z5=>
   (c_CloneL ((0,fun(j:Nat)=>(0:Int),fun(j:Nat)=>(0:Int)))).bind fun z9=>
    (l_StepF_l0 (.inl ((z2.1,z5.1,z9.1,z2.2,z5.2,z9.2.1,z9.2.2,(0:Int),(0:Int),z9.1)))).bind fun z432=>
     Sum.elim (fun z432a=>
     dn (.inl ((z432a.1,z432a.2.1,z432a.2.2,(1:Int),(0:Int))))) (fun z432b=>
     Sum.elim (fun z432ba=>
     dn (.inl ((z432ba.1,z432ba.2.1,z432ba.2.2.2.2.1,(2:Int),(1003:Int))))) (fun z432bb=>
     Sum.elim (fun z432bba=>
     dn (.inr ((z432bba.2.1,z432bba.2.2.1,z432bba.1,z432bba.2.2.2.1,z432bba.2.2.2.2.1,z432bba.2.2.2.2.2.1,z432bba.2.2.2.2.2.2,(1:Int),(0:Int))))) (fun z432bbb=>
     dn (.inr ((z432bbb.2.2.2.2.1,z432bbb.2.2.2.2.2.1,z432bbb.1,z432bbb.2.2.2.2.2.2.2.2.1,z432bbb.2.1,z432bbb.2.2.1,z432bbb.2.2.2.1,(2:Int),(1003:Int))))) z432bb) z432b) z432
theorem fa4{β:Type}(c_CloneI:y3→Option w9)(c_CloneL:x9→Option w6)(l_StepF_l0:cA→Option bE)(x:l6)(dn:jU→Option β):uU c_CloneI c_CloneL l_StepF_l0 x dn=(uU c_CloneI c_CloneL l_StepF_l0 x some).bind dn:=by
 unfold uU
 repeat' first|exact aW|refine aU (fun z=>?_) |refine cL ?_ ?_|refine cF (fun z=>?_) (fun z=>?_) |rfl
theorem ez9(c_CloneI:y3→Option w9)(c_CloneL:x9→Option w6)(l_StepF_l0:cA→Option bE)(x:l6):j8 E5 (jL 27 (fun _ _=>true) x8 aj5 c_CloneI (jL 28 (fun _ _=>true) x6 al0 c_CloneL cf9)) (ac4 0 (fun _=>true) (b6 E5 12 0) (bC x) (be8 x) l_StepF_l0 lo0) 12 (eD x).1 (eD x).2 K=uU (fun x=>eK x8 c_CloneI (x8 x)) (fun x=>eK x6 c_CloneL (x6 x)) (fun y=>eK (fun y=>(b6 E5 12 0,bC x y)) l_StepF_l0 (b6 E5 12 0,bC x y)) x (fun z=>some (.c (vG z))):=by kernel_rfl
theorem fa1(c_CloneI:y3→Option w9)(h_CloneI:∀x z,c_CloneI x=some z→SC E5 27 (x8 x).1 (x8 x).2 (yA z))(c_CloneL:x9→Option w6)(h_CloneL:∀x z,c_CloneL x=some z→SC E5 28 (x6 x).1 (x6 x).2 (xV z))(q:Nat)(x:l6)(z:jU)(h:uU c_CloneI c_CloneL (pT c_CloneI c_CloneL q x) x some=some z):SC E5 12 (eD x).1 (eD x).2 (vG z):=by
 refine SC.of hW5 hX5 (j3 h_CloneI bq6 (j3 h_CloneL bp5 ax5)) (eO (cz5 c_CloneI h_CloneI c_CloneL h_CloneL q x) (co0 x) b8) ((ez9 c_CloneI c_CloneL (pT c_CloneI c_CloneL q x) x).trans ?_)
 rw[y7 bb6 c_CloneI,y7 bf8 c_CloneL,y7 (xB (b6 E5 12 0) (cz4 x)) (pT c_CloneI c_CloneL q x),fa4,h];rfl
noncomputable def dp9(q:Nat)(x:l6):Option jU:=uU (at4 q) (ao3 q) (pT (at4 q) (ao3 q) q x) x some
theorem ed0(q:Nat):∀(x:l6) (z:jU),dp9 q x=some z→SC E5 12 (eD x).1 (eD x).2 (vG z):=fun x z h=>fa1 (at4 q) (dr6 q) (ao3 q) (du4 q) q x z h
abbrev rW:Type:=ByteArray×Nat×(Nat→Int)×(Nat→Int)×Int×Nat×(Nat→Int)×Int×Int
abbrev sC:Type:=Unit
def lZ:rW→List V×List (Option Chunk):=(fun x=>(fun(nm:ByteArray) (n:Nat) (op:Nat→Int) (ar:Nat→Int) (pc:Int) (vn:Nat) (vf:Nat→Int) (stt:Int) (cde:Int)=>(([.agg [st nm,i64 0,i64 0,.ro 2 n (fun j=>[i64 (op j),i64 (ar j)])],.agg [i64 pc,i64 0,i64 (-1),i64 (-1),.ro 1 vn (fun j=>[i64 (vf j)]),g9,g9,i64 stt,i64 cde],.agg [i64 0,i64 0,i64 0,i64 0,i64 0,i64 0]]:List V),([]:List (Option Chunk)))) x.1 x.2.1 x.2.2.1 x.2.2.2.1 x.2.2.2.2.1 x.2.2.2.2.2.1 x.2.2.2.2.2.2.1 x.2.2.2.2.2.2.2.1 x.2.2.2.2.2.2.2.2)
def ew7(t:List V×List (Option Chunk)):rW:=((vS ((vAg (t.1.getD 0 .junk)).getD 0 .junk)),(kP ((vAg (t.1.getD 0 .junk)).getD 3 .junk)),(fun j=>(vI ((nX ((vAg (t.1.getD 0 .junk)).getD 3 .junk) j).getD 0 .junk))),(fun j=>(vI ((nX ((vAg (t.1.getD 0 .junk)).getD 3 .junk) j).getD 1 .junk))),vI ((vAg (t.1.getD 1 .junk)).getD 0 .junk),kP ((vAg (t.1.getD 1 .junk)).getD 4 .junk),(fun j=>(vI ((nX ((vAg (t.1.getD 1 .junk)).getD 4 .junk) j).getD 0 .junk))),vI ((vAg (t.1.getD 1 .junk)).getD 7 .junk),vI ((vAg (t.1.getD 1 .junk)).getD 8 .junk))
theorem eu4:∀x y,lZ x=lZ y→x=y:=fun x y h=>(congrArg ew7 h:)
def ba0:sC→CRes:=(fun _=>.ret (.tup []) []:(Unit)→CRes)
def bu5(z:sC)(k:CRes→Option Ans):Option Ans:=k (ba0 z)
theorem cp1:∀z k,bu5 z k=k (ba0 z):=fun z k=>rfl
noncomputable def eh0(q:Nat)(x:rW):Option sC:=none
theorem eo9(q:Nat):∀(x:rW) (z:sC),eh0 q x=some z→SC E5 12 (lZ x).1 (lZ x).2 (ba0 z):=by
 intro x z h
 cases h
abbrev bI:Type:=ByteArray×Nat×(Nat→Int)×(Nat→Int)
abbrev bH:Type:=(Int×Nat×(Nat→Int)×Int×Int)⊕(Int×Nat×(Nat→Int)×Int×Int×(Nat→Nat)×(Nat→Nat→Int)×(Nat→Nat→Int)×(Nat→Nat→Int))
def bG:bI→List V×List (Option Chunk):=(fun x=>(fun(nm:ByteArray) (n:Nat) (op:Nat→Int) (ar:Nat→Int)=>(([.agg [st nm,i64 0,i64 0,.ro 2 n (fun j=>[i64 (op j),i64 (ar j)])],g9,g9,i64 5]:List V),([]:List (Option Chunk)))) x.1 x.2.1 x.2.2.1 x.2.2.2)
def ev8(t:List V×List (Option Chunk)):bI:=((vS ((vAg (t.1.getD 0 .junk)).getD 0 .junk)),(kP ((vAg (t.1.getD 0 .junk)).getD 3 .junk)),(fun j=>(vI (((nX ((vAg (t.1.getD 0 .junk)).getD 3 .junk)) j).getD 0 .junk))),(fun j=>(vI (((nX ((vAg (t.1.getD 0 .junk)).getD 3 .junk)) j).getD 1 .junk))))
theorem dm7:∀x y,bG x=bG y→x=y:=fun x y h=>(congrArg ev8 h:)
def rZ:bH→CRes:=Sum.elim ((fun z=>CRes.ret (V.tup [V.sl 0 1 0 1,V.agg [i64 (z.1),i64 (0:Int),i64 (-1:Int),i64 (-1:Int),V.ro 1 (z.2.1) fun(j:Nat)=>[i64 (z.2.2.1 j)],g9,g9,i64 (z.2.2.2.1),i64 (z.2.2.2.2)],i64 (0:Int)]) [some (Chunk.row 37 1 1 fun(j:Nat)=>[g9])]:(Int×Nat×(Nat→Int)×Int×Int)→CRes)) ((fun z=>CRes.ret (V.tup [V.sl 0 1 0 1,V.agg [i64 (z.1),i64 (0:Int),i64 (-1:Int),i64 (-1:Int),V.ro 1 (z.2.1) fun(j:Nat)=>[i64 (z.2.2.1 j)],g9,g9,i64 (z.2.2.2.1),i64 (z.2.2.2.2.1)],i64 (0:Int)]) [some (Chunk.row 37 1 1 fun(j:Nat)=>[V.ro 3 (z.2.2.2.2.2.1 j) fun(j_1:Nat)=>[i64 (z.2.2.2.2.2.2.1 j j_1),i64 (z.2.2.2.2.2.2.2.1 j j_1),i64 (z.2.2.2.2.2.2.2.2 j j_1)]])]:(Int×Nat×(Nat→Int)×Int×Int×(Nat→Nat)×(Nat→Nat→Int)×(Nat→Nat→Int)×(Nat→Nat→Int))→CRes))
def bw4(z:bH)(k:CRes→Option Ans):Option Ans:=Sum.elim (fun za=>k (rZ (.inl za))) (fun zb=>k (rZ (.inr zb))) z
theorem ci2:∀z k,bw4 z k=k (rZ z):=fun z k=>by
 rcases z with z|z<;>rfl
def uQ{β:Type}(c_StartU:mL→Option mM)(c_StepF:l6→Option jU)(c_StepN:rW→Option sC)(x:bI)(dn:bH→Option β):Option β:=
 (c_StartU x).bind fun z4=>
  (c_StepF x).bind fun z9=>
   Sum.elim (fun z9a=>
   if 0+z9a.2.1≤z9a.2.1∧1=1 then
    if(z9a.2.2.2.1==(0:Int))=true then
     (c_StepN ((x.1,x.2.1,x.2.2.1,x.2.2.2,z9a.1,z9a.2.1,fun(j:Nat)=>z9a.2.2.1 (0+j),z9a.2.2.2))).bind fun z19=>
      none
    else
     dn (.inl ((z9a.1,z9a.2.1,fun(j:Nat)=>z9a.2.2.1 (0+j),z9a.2.2.2)))
   else
    none) (fun z9b=>
   if 0+z9b.2.1≤z9b.2.1∧1=1 then
    if 0+z9b.2.2.1≤z9b.2.2.1∧3=3 then
     if(z9b.2.2.2.2.2.2.2.1==(0:Int))=true then
      (c_StepN ((x.1,x.2.1,x.2.2.1,x.2.2.2,z9b.1,z9b.2.1,fun(j:Nat)=>z9b.2.2.2.1 (0+j),z9b.2.2.2.2.2.2.2))).bind fun z30=>
       none
     else
      dn (.inr ((z9b.1,z9b.2.1,fun(j:Nat)=>z9b.2.2.2.1 (0+j),z9b.2.2.2.2.2.2.2.1,z9b.2.2.2.2.2.2.2.2,fun(j:Nat)=>z9b.2.2.1,fun(j j_1:Nat)=>z9b.2.2.2.2.1 (0+j_1),fun(j j_1:Nat)=>z9b.2.2.2.2.2.1 (0+j_1),fun(j j_1:Nat)=>z9b.2.2.2.2.2.2.1 (0+j_1))))
    else
     none
   else
    none) z9
theorem er9{β:Type}(c_StartU:mL→Option mM)(c_StepF:l6→Option jU)(c_StepN:rW→Option sC)(x:bI)(dn:bH→Option β):uQ c_StartU c_StepF c_StepN x dn=(uQ c_StartU c_StepF c_StepN x some).bind dn:=by
 unfold uQ
 repeat' first|exact aW|refine aU (fun z=>?_) |refine cL ?_ ?_|refine cF (fun z=>?_) (fun z=>?_) |rfl
theorem ez0(c_StartU:mL→Option mM)(c_StepF:l6→Option jU)(c_StepN:rW→Option sC)(x:bI):j8 E5 (jL 11 (fun _ _=>true) gJ be7 c_StartU (jL 12 (fun a _=> !cb4 ((vAg (a.getD 1 .junk)).getD 5 .junk)) eD bw8 c_StepF (jL 12 (fun a _=>cb4 ((vAg (a.getD 1 .junk)).getD 5 .junk)) lZ bu5 c_StepN ca0))) (loU E5 (jL 11 (fun _ _=>true) gJ be7 c_StartU (jL 12 (fun a _=> !cb4 ((vAg (a.getD 1 .junk)).getD 5 .junk)) eD bw8 c_StepF (jL 12 (fun a _=>cb4 ((vAg (a.getD 1 .junk)).getD 5 .junk)) lZ bu5 c_StepN ca0))) [0] lo0 20) 6 (bG x).1 (bG x).2 K=uQ (fun x=>eK gJ c_StartU (gJ x)) (fun x=>eK eD c_StepF (eD x)) (fun x=>eK lZ c_StepN (lZ x)) x (fun z=>some (.c (rZ z))):=by kernel_rfl
theorem eu0(c_StartU:mL→Option mM)(h_StartU:∀x z,c_StartU x=some z→SC E5 11 (gJ x).1 (gJ x).2 (am3 z))(c_StepF:l6→Option jU)(h_StepF:∀x z,c_StepF x=some z→SC E5 12 (eD x).1 (eD x).2 (vG z))(c_StepN:rW→Option sC)(h_StepN:∀x z,c_StepN x=some z→SC E5 12 (lZ x).1 (lZ x).2 (ba0 z))(q:Nat)(x:bI)(z:bH)(h:uQ c_StartU c_StepF c_StepN x some=some z):SC E5 6 (bG x).1 (bG x).2 (rZ z):=by
 refine SC.of hW5 hX5 (j3 h_StartU bo5 (j3 h_StepF cn7 (j3 h_StepN cp1 a8))) (aa9 (j3 h_StartU bo5 (j3 h_StepF cn7 (j3 h_StepN cp1 a8))) hX5 b8 20) ((ez0 c_StartU c_StepF c_StepN x).trans ?_)
 rw[y7 ei8 c_StartU,y7 et5 c_StepF,y7 eu4 c_StepN,er9,h];rfl
noncomputable def bp2(q:Nat)(x:bI):Option bH:=uQ (dj2 q) (dp9 q) (eh0 q) x some
theorem ef6(q:Nat):∀(x:bI) (z:bH),bp2 q x=some z→SC E5 6 (bG x).1 (bG x).2 (rZ z):=fun x z h=>eu0 (dj2 q) (eb5 q) (dp9 q) (ed0 q) (eh0 q) (eo9 q) q x z h
end Go.Proofs.YtcijknknahbbnaaGreatDoor
/- Plain: the run of a code of VmFuel within a tick. -/
namespace Go.Proofs.YtcijknknahbbnaaGreatDoor
open Go Go.Am Go.Proofs Go.Proofs.Lx
set_option maxRecDepth 100000
def eW(t k:Nat):Nat→Nat→Nat→Nat→Nat×Nat
 |0,_,_,a=>(2,a)
 |f+1,p,l,a=>if p=0 then eW t k f 1 t a else if p≤k then eW t k f (p+1) l (a+1)else if p=k+1 then(if 1<l then eW t k f 1 (l-1) a else eW t k f (k+2) 0 a)else(1,a)
def LpF(k p l lk ln:Nat)(la lb:Nat→Int):Prop:=(p=0∧lk=0)∨(1≤p∧p≤k+1∧lk=1∧1≤ln∧la 0=1∧lb 0=(l:Int)∧1≤l∧l≤100)∨p=k+2
def fj4:bE→Nat×Nat→Prop
 | .inl _,r=>r=(1,0)
 | .inr (.inl _),r=>r=(2,0)
 | .inr (.inr (.inl z)),r=>r=(1,z.1)
 | .inr (.inr (.inr z)),r=>r=(2,z.1)
section
variable {t k n:Nat} {nm:ByteArray} {op ar:Nat→Int} {c1:y3→Option w9} {c2:x9→Option w6}
 (h0:1≤t) (h1:t≤100) (hk:k≤9) (hn:n=k+3) (hop:∀j,j<k+3→ar j=inF t k j∧op j=opF k j)
include h0 h1 hk hn hop
theorem ff6:∀(f q p l a i:Nat),f+i=200→f<q→p≤k+2→a≤i→
 (∀vn sn lk vf sf la lb ln,a=0→LpF k p l lk ln la lb→Rs (pT c1 c2 q (nm,n,op,ar) (.inl (vn,sn,lk,vf,sf,la,lb,(i:Int),(p:Int),ln))) (fun z=>fj4 z (eW t k f p l a)))∧
 (∀vn sn lk vf sf la lb ax ln ay az,LpF k p l lk ln la lb→Rs (pT c1 c2 q (nm,n,op,ar) (.inr (vn,sn,lk,vf,sf,la,lb,(i:Int),ax,(p:Int),ln,a,ay,az))) (fun z=>fj4 z (eW t k f p l a))):=by
 intro f
 induction f with
 |zero=>
  intro q p l a i hi hq hp ha
  obtain⟨q,rfl⟩:∃k,q=k+1:=⟨q-1,by omega⟩
  have e:¬decide ((i:Int)<200)=true:=by rw[decide_eq_true_eq];omega
  refine⟨fun vn sn lk vf sf la lb ln h hl=>Rs.step ?_,fun vn sn lk vf sf la lb ax ln ay az hl=>Rs.step ?_⟩
  ·simp only[Sum.elim_inl]
   unfold x7
   exact Rs.neg e (Rs.some (by subst h;rfl))
  ·simp only[Sum.elim_inr]
   unfold y6
   exact Rs.neg e (Rs.some rfl)
 |succ f ih=>
  intro q p l a i hi hq hp ha
  obtain⟨q,rfl⟩:∃k,q=k+1:=⟨q-1,by omega⟩
  have e:decide ((i:Int)<200)=true:=by rw[decide_eq_true_eq];omega
  have ep:(0:Int)≤(p:Int)∧(p:Int)< ((n:Nat):Int):=by omega
  have wi:w ((i:Int)+1)=((i+1:Nat):Int):=iE (by omega)
  have wp:w ((p:Int)+1)=((p+1:Nat):Int):=iE (by omega)
  have w1:w (((1:Nat):Int)-1)=0:=by decide+kernel
  obtain⟨ea,eo⟩:=hop p (by omega)
  unfold opF at eo
  unfold inF at ea
  have rb:d9=140737488355328:=rfl
  have ml:281474976710655≤maxLen:=by unfold maxLen;omega
  by_cases hp0:p=0
  ·subst hp0
   rw[if_pos rfl]at ea eo
   have lp:∀{lk ln:Nat} {la lb:Nat→Int},LpF k 0 l lk ln la lb→lk=0:=fun h=>by rcases h with h|h|h<;>omega
   have nxt:∀(ln:Nat) (la lb:Nat→Int),LpF k 1 t (0+1) (0+1) (fun j=>if j<0 then la j else w (((0:Nat):Int)+1)) (fun j=>if j<0 then lb j else ar (Int.toNat ((0:Nat):Int))):=fun ln la lb=>.inr (.inl ⟨Nat.le_refl 1,by omega,rfl,Nat.le_refl 1,(by show w (((0:Nat):Int)+1)=1;decide+kernel),ea,by omega,by omega⟩)
   have er:eW t k (f+1) 0 l a=eW t k f 1 t a:=if_pos rfl
   rw[er]
   refine⟨fun vn sn lk vf sf la lb ln h hl=>Rs.step3 fun Q hQ=>?_,fun vn sn lk vf sf la lb ax ln ay az hl=>Rs.step3 fun Q hQ=>?_⟩
   ·obtain rfl:=lp hl
    simp only[Sum.elim_inl]
    unfold x7
    dsimp only
    refine Rs.pos e (Rs.pos ep ?_)
    iterate 15 refine Rs.neg (fun h=>absurd (eo.symm.trans h) (by decide)) ?_
    refine Rs.pos eo (Rs.pos ⟨by omega,by omega,Nat.zero_le _⟩ (Rs.some (hQ _ ?_)))
    rw[wi]
    exact(ih q 1 t a (i+1) (by omega) (by omega) (by omega) (by omega)).1 _ _ _ _ _ _ _ _ h (nxt ln la lb)
   ·obtain rfl:=lp hl
    simp only[Sum.elim_inr]
    unfold y6
    dsimp only
    refine Rs.pos e (Rs.pos ep ?_)
    iterate 15 refine Rs.neg (fun h=>absurd (eo.symm.trans h) (by decide)) ?_
    refine Rs.pos eo (Rs.pos ⟨by omega,by omega,Nat.zero_le _⟩ (Rs.some (hQ _ ?_)))
    rw[wi]
    exact(ih q 1 t a (i+1) (by omega) (by omega) (by omega) (by omega)).2 _ _ _ _ _ _ _ _ _ _ _ (nxt ln la lb)
  rw[if_neg hp0]at ea eo
  by_cases hpk:p≤k
  ·rw[if_pos hpk]at ea eo
   have lp:∀{lk ln:Nat} {la lb:Nat→Int},LpF k p l lk ln la lb→LpF k (p+1) l lk ln la lb:=fun h=>by
    rcases h with h| ⟨h,h2,h3⟩ |h
    ·omega
    ·exact .inr (.inl ⟨by omega,by omega,h3⟩)
    ·omega
   have er:eW t k (f+1) p l a=eW t k f (p+1) l (a+1):=by rw[eW,if_neg hp0,if_pos hpk]
   rw[er]
   refine⟨fun vn sn lk vf sf la lb ln h hl=>Rs.step3 fun Q hQ=>?_,fun vn sn lk vf sf la lb ax ln ay az hl=>Rs.step3 fun Q hQ=>?_⟩
   ·simp only[Sum.elim_inl]
    unfold x7
    dsimp only
    refine Rs.pos e (Rs.pos ep ?_)
    iterate 25 refine Rs.neg (fun h=>absurd (eo.symm.trans h) (by decide)) ?_
    refine Rs.pos eo (Rs.some (hQ _ ?_))
    rw[wi,wp]
    subst h
    exact(ih q (p+1) l 1 (i+1) (by omega) (by omega) (by omega) (by omega)).2 _ _ _ _ _ _ _ _ _ _ _ (lp hl)
   ·simp only[Sum.elim_inr]
    unfold y6
    dsimp only
    refine Rs.pos e (Rs.pos ep ?_)
    iterate 25 refine Rs.neg (fun h=>absurd (eo.symm.trans h) (by decide)) ?_
    refine Rs.pos eo (Rs.pos ⟨by omega,by omega,Nat.le_refl _⟩ (Rs.some (hQ _ ?_)))
    rw[wi,wp]
    exact(ih q (p+1) l (a+1) (i+1) (by omega) (by omega) (by omega) (by omega)).2 _ _ _ _ _ _ _ _ _ _ _ (lp hl)
  rw[if_neg hpk]at ea eo
  by_cases hpn:p=k+1
  ·rw[if_pos hpn]at ea eo
   have lp:∀{lk ln:Nat} {la lb:Nat→Int},LpF k p l lk ln la lb→lk=1∧1≤ln∧la 0=1∧lb 0=(l:Int)∧1≤l∧l≤100:=fun h=>by
    rcases h with h| ⟨h,h2,h3⟩ |h
    ·omega
    ·exact h3
    ·omega
   have wl:1≤l→l≤100→w ((l:Int)-1)=((l-1:Nat):Int):=fun g1 g2=>by rw[sO (by omega) (by omega)];omega
   refine⟨fun vn sn lk vf sf la lb ln h hl=>?_,fun vn sn lk vf sf la lb ax ln ay az hl=>?_⟩
   ·obtain⟨rfl,g1,g2,g3,g4,g5⟩:=lp hl
    by_cases hl1:1<l
    ·have er:eW t k (f+1) p l a=eW t k f 1 (l-1) a:=by rw[eW,if_neg hp0,if_neg hpk,if_pos hpn,if_pos hl1]
     rw[er]
     refine Rs.step3 fun Q hQ=>?_
     simp only[Sum.elim_inl]
     unfold x7
     dsimp only
     simp only[w1,Int.toNat_zero,Nat.add_zero,if_true]
     refine Rs.pos e (Rs.pos ep ?_)
     iterate 16 refine Rs.neg (fun h=>absurd (eo.symm.trans h) (by decide)) ?_
     refine Rs.pos eo (Rs.pos (by decide) (Rs.pos ⟨by omega,trivial⟩ (Rs.pos (by decide) (Rs.pos ⟨by omega,trivial⟩ (Rs.pos (by decide) (Rs.pos ⟨by omega,trivial⟩ (Rs.pos ?_ (Rs.pos (by decide) (Rs.pos ⟨by omega,trivial⟩ (Rs.some (hQ _ ?_)))))))))))
     ·rw[g3,wl g4 g5,decide_eq_true_eq];omega
     ·rw[wi,g2]
      exact(ih q 1 (l-1) a (i+1) (by omega) (by omega) (by omega) (by omega)).1 _ _ _ _ _ _ _ _ h (.inr (.inl ⟨Nat.le_refl 1,by omega,rfl,g1,g2,by show(if(0:Nat)=0 then w (lb 0-1)else lb 0)=_;rw[if_pos rfl,g3,wl g4 g5],by omega,by omega⟩))
    ·have er:eW t k (f+1) p l a=eW t k f (k+2) 0 a:=by rw[eW,if_neg hp0,if_neg hpk,if_pos hpn,if_neg hl1]
     rw[er]
     refine Rs.step3 fun Q hQ=>?_
     simp only[Sum.elim_inl]
     unfold x7
     dsimp only
     simp only[w1,Int.toNat_zero,Nat.add_zero,if_true]
     refine Rs.pos e (Rs.pos ep ?_)
     iterate 16 refine Rs.neg (fun h=>absurd (eo.symm.trans h) (by decide)) ?_
     refine Rs.pos eo (Rs.pos (by decide) (Rs.pos ⟨by omega,trivial⟩ (Rs.pos (by decide) (Rs.pos ⟨by omega,trivial⟩ (Rs.pos (by decide) (Rs.pos ⟨by omega,trivial⟩ (Rs.neg ?_ (Rs.pos (by decide) (Rs.some (hQ _ ?_))))))))))
     ·rw[g3,wl g4 g5,decide_eq_true_eq];omega
     ·rw[wi,wp,hpn]
      exact(ih q (k+2) 0 a (i+1) (by omega) (by omega) (by omega) (by omega)).1 _ _ _ _ _ _ _ _ h (.inr (.inr rfl))
   ·obtain⟨rfl,g1,g2,g3,g4,g5⟩:=lp hl
    by_cases hl1:1<l
    ·have er:eW t k (f+1) p l a=eW t k f 1 (l-1) a:=by rw[eW,if_neg hp0,if_neg hpk,if_pos hpn,if_pos hl1]
     rw[er]
     refine Rs.step3 fun Q hQ=>?_
     simp only[Sum.elim_inr]
     unfold y6
     dsimp only
     simp only[w1,Int.toNat_zero,Nat.add_zero,if_true]
     refine Rs.pos e (Rs.pos ep ?_)
     iterate 16 refine Rs.neg (fun h=>absurd (eo.symm.trans h) (by decide)) ?_
     refine Rs.pos eo (Rs.pos (by decide) (Rs.pos ⟨by omega,trivial⟩ (Rs.pos (by decide) (Rs.pos ⟨by omega,trivial⟩ (Rs.pos (by decide) (Rs.pos ⟨by omega,trivial⟩ (Rs.pos ?_ (Rs.pos (by decide) (Rs.pos ⟨by omega,trivial⟩ (Rs.some (hQ _ ?_)))))))))))
     ·rw[g3,wl g4 g5,decide_eq_true_eq];omega
     ·rw[wi,g2]
      exact(ih q 1 (l-1) a (i+1) (by omega) (by omega) (by omega) (by omega)).2 _ _ _ _ _ _ _ _ _ _ _ (.inr (.inl ⟨Nat.le_refl 1,by omega,rfl,g1,g2,by show(if(0:Nat)=0 then w (lb 0-1)else lb 0)=_;rw[if_pos rfl,g3,wl g4 g5],by omega,by omega⟩))
    ·have er:eW t k (f+1) p l a=eW t k f (k+2) 0 a:=by rw[eW,if_neg hp0,if_neg hpk,if_pos hpn,if_neg hl1]
     rw[er]
     refine Rs.step3 fun Q hQ=>?_
     simp only[Sum.elim_inr]
     unfold y6
     dsimp only
     simp only[w1,Int.toNat_zero,Nat.add_zero,if_true]
     refine Rs.pos e (Rs.pos ep ?_)
     iterate 16 refine Rs.neg (fun h=>absurd (eo.symm.trans h) (by decide)) ?_
     refine Rs.pos eo (Rs.pos (by decide) (Rs.pos ⟨by omega,trivial⟩ (Rs.pos (by decide) (Rs.pos ⟨by omega,trivial⟩ (Rs.pos (by decide) (Rs.pos ⟨by omega,trivial⟩ (Rs.neg ?_ (Rs.pos (by decide) (Rs.some (hQ _ ?_))))))))))
     ·rw[g3,wl g4 g5,decide_eq_true_eq];omega
     ·rw[wi,wp,hpn]
      exact(ih q (k+2) 0 a (i+1) (by omega) (by omega) (by omega) (by omega)).2 _ _ _ _ _ _ _ _ _ _ _ (.inr (.inr rfl))
  rw[if_neg hpn]at ea eo
  have er:eW t k (f+1) p l a=(1,a):=by rw[eW,if_neg hp0,if_neg hpk,if_neg hpn]
  rw[er]
  refine⟨fun vn sn lk vf sf la lb ln h hl=>Rs.step ?_,fun vn sn lk vf sf la lb ax ln ay az hl=>Rs.step ?_⟩
  ·simp only[Sum.elim_inl]
   unfold x7
   dsimp only
   refine Rs.pos e (Rs.pos ep ?_)
   iterate 27 refine Rs.neg (fun h=>absurd (eo.symm.trans h) (by decide)) ?_
   exact Rs.pos eo (Rs.some (by subst h;rfl))
  ·simp only[Sum.elim_inr]
   unfold y6
   dsimp only
   refine Rs.pos e (Rs.pos ep ?_)
   iterate 27 refine Rs.neg (fun h=>absurd (eo.symm.trans h) (by decide)) ?_
   exact Rs.pos eo (Rs.some rfl)
def PlF:bH→Nat×Nat→Prop
 | .inl z,r=>r.2=0∧z.2.2.2.1=(r.1:Int)∧(r.1=2→z.2.2.2.2=1003)
 | .inr z,r=>z.2.2.2.2.2.1 0=r.2∧z.2.2.2.1=(r.1:Int)∧(r.1=2→z.2.2.2.2.1=1003)
theorem em4{q:Nat}(hq:200<q):Rs (bp2 q (nm,n,op,ar)) (fun z=>PlF z (eW t k 200 0 0 0)):=by
 have hf:∀r,fj4 r (eW t k 200 0 0 0)→(eW t k 200 0 0 0).1=1∨(eW t k 200 0 0 0).1=2:=fun r h=>by
  rcases r with r|r|r|r<;>(have h:eW t k 200 0 0 0=_:=h)<;>rw[h]<;>simp
 unfold bp2 uQ
 refine Rs.bind (P:=fun _=>True) ⟨_,rfl,trivial⟩ fun _ _=>?_
 refine Rs.bind (P:=fun z=>(∃y,z= .inl y∧eW t k 200 0 0 0=(y.2.2.2.1.toNat,0)∧((y.2.2.2.1=1∧y.2.2.2.2=0)∨(y.2.2.2.1=2∧y.2.2.2.2=1003)))∨∃y,z= .inr y∧eW t k 200 0 0 0=(y.2.2.2.2.2.2.2.1.toNat,y.2.2.1)∧((y.2.2.2.2.2.2.2.1=1∧y.2.2.2.2.2.2.2.2=0)∨(y.2.2.2.2.2.2.2.1=2∧y.2.2.2.2.2.2.2.2=1003))) ?_ fun z hz=>?_
 ·unfold dp9 uU
  have ec:∀f,at4 q (0,f)=some (0,f):=fun f=>if_pos (Nat.zero_le _)
  have el:∀f g,ao3 q (0,f,g)=some (0,f,g):=fun f g=>if_pos (Nat.zero_le _)
  rw[ec,el]
  simp only[Option.bind_some]
  refine Rs.bind ((ff6 h0 h1 hk hn hop 200 q 0 0 0 0 rfl hq (by omega) (Nat.le_refl _)).1 _ _ _ _ _ _ _ _ rfl (.inl ⟨rfl,rfl⟩)) fun z hz=>?_
  rcases z with z|z|z|z
  ·exact Rs.some (.inl ⟨_,rfl,hz,.inl ⟨rfl,rfl⟩⟩)
  ·exact Rs.some (.inl ⟨_,rfl,hz,.inr ⟨rfl,rfl⟩⟩)
  ·exact Rs.some (.inr ⟨_,rfl,hz,.inl ⟨rfl,rfl⟩⟩)
  ·exact Rs.some (.inr ⟨_,rfl,hz,.inr ⟨rfl,rfl⟩⟩)
 ·rcases hz with⟨y,rfl,e,hs⟩ | ⟨y,rfl,e,hs⟩
  ·simp only[Sum.elim_inl]
   refine Rs.pos ⟨by omega,trivial⟩ (Rs.neg ?_ (Rs.some ?_))
   ·rcases hs with⟨a,_⟩ | ⟨a,_⟩<;>rw[a]<;>decide
   ·show PlF (.inl _) _
    rw[e]
    rcases hs with⟨a,b⟩ | ⟨a,b⟩
    ·exact⟨rfl,by show y.2.2.2.1=_;rw[a];rfl,fun g=>by rw[a]at g;exact absurd (show(1:Nat)=2 from g) (by decide)⟩
    ·exact⟨rfl,by show y.2.2.2.1=_;rw[a];rfl,fun _=>b⟩
  ·simp only[Sum.elim_inr]
   refine Rs.pos ⟨by omega,trivial⟩ (Rs.pos ⟨by omega,trivial⟩ (Rs.neg ?_ (Rs.some ?_)))
   ·rcases hs with⟨a,_⟩ | ⟨a,_⟩<;>rw[a]<;>decide
   ·show PlF (.inr _) _
    rw[e]
    rcases hs with⟨a,b⟩ | ⟨a,b⟩
    ·exact⟨rfl,by show y.2.2.2.2.2.2.2.1=_;rw[a];rfl,fun g=>by rw[a]at g;exact absurd (show(1:Nat)=2 from g) (by decide)⟩
    ·exact⟨rfl,by show y.2.2.2.2.2.2.2.1=_;rw[a];rfl,fun _=>b⟩
end
end Go.Proofs.YtcijknknahbbnaaGreatDoor
/- Decimal of the reference. -/
namespace Go.Proofs.YtcijknknahbbnaaGreatDoor
open Go Go.Am Go.Proofs Go.Proofs.Lx
set_option maxRecDepth 100000
abbrev dU:Type:=Int
abbrev zE:Type:=ByteArray
def ap3:AR dU:=fun x=>([i64 x],[])
def bq9:zE→CRes:=fun z=>.ret (st z) []
abbrev dD:Type:=ByteArray×Int
abbrev oJ:Type:=ByteArray
def fZ(x:dU)(y:dD):St:={fr:=[i64 x,V.junk,V.junk,st ⟨#[48,49,50,51,52,53,54,55,56,57]⟩,st y.1,i64 y.2]++jk 26,H:=hp [],nx:=0,rt:=0,me:=4}
def ce9(s:St):dD:=((vS (s.fr.getD 4 .junk)),vI (s.fr.getD 5 .junk))
theorem bu2(x:dU):VL (fZ x):=vl ce9 fun _=>rfl
def oD(x:dU):oJ→Ex×St:=(fun z=>(Ex.exit 0,{fr:=[i64 x,V.junk,V.junk,V.junk,st z]++jk 27,H:=hp [],nx:=0,rt:=0,me:=4}))
def fS{β:Type}(x:dU)(y:dD)(nx:dD→Option β)(dn:oJ→Option β):Option β:=
 if(y.2 !=0)=true then if decide (Int.tmod y.2 (10:Int)<0)=true then if 0≤w (0-Int.tmod y.2 10)∧w (0-Int.tmod y.2 10)≤w (w (0-Int.tmod y.2 10)+1)∧w (w (0-Int.tmod y.2 10)+1)≤10 then if ByteArray.size (ByteArray.extract ⟨#[48,49,50,51,52,53,54,55,56,57]⟩ (Int.toNat (w (0-Int.tmod y.2 10))) (Int.toNat (w (w (0-Int.tmod y.2 10)+1))))+y.1.size≤maxLen then nx ((ByteArray.extract ⟨#[48,49,50,51,52,53,54,55,56,57]⟩ (Int.toNat (w (0-Int.tmod y.2 10))) (Int.toNat (w (w (0-Int.tmod y.2 10)+1)))++y.1,w (Int.tdiv y.2 10)))else none else none else if 0≤Int.tmod y.2 10∧Int.tmod y.2 10≤w (Int.tmod y.2 (10:Int)+1)∧w (Int.tmod y.2 (10:Int)+1)≤10 then if ByteArray.size (ByteArray.extract ⟨#[48,49,50,51,52,53,54,55,56,57]⟩ (Int.toNat (Int.tmod y.2 10)) (Int.toNat (w (Int.tmod y.2 (10:Int)+1))))+y.1.size≤maxLen then nx (ByteArray.extract ⟨#[48,49,50,51,52,53,54,55,56,57]⟩ (Int.toNat (Int.tmod y.2 10)) (Int.toNat (w (Int.tmod y.2 (10:Int)+1)))++y.1,w (Int.tdiv y.2 10))else none else none else dn y.1
theorem bt1{β:Type}(x)(y)(nx:dD→Option β)(dn):fS x y nx dn=(fS x y (fun y=>some (.inl y)) (fun z=>some (.inr z))).bind fun r=>Sum.elim nx dn r:=by
 unfold fS
 repeat' first|exact n0|refine n1 fun _=>?_|refine n2 ?_ ?_|refine n3 (fun _=>?_) fun _=>?_|rfl
theorem bz9(x)(y)(lo:f7):r9 E5 ca0 lo 0 57 (b6 E5 4 0) (fZ x y) (KCM [(0,17)] 4)=fS x y (fun y=>lo 0 57 (b6 E5 4 0) (fZ x y) (KCM [(0,17)] 4)) (fun z=>some (.l (oD x z).1 (oD x z).2)):=by kernel_rfl
noncomputable def kZ(q:Nat)(x:dU):dD→Option oJ:=lpG (fun y=>fS x y (fun y=>some (.inl y)) (fun z=>some (.inr z))) q
theorem bv9(q:Nat)(x:dU):Ll E5 (b6 E5 4 0) (fZ x) (oD x) (kZ q x):=
 slp a8 hX5 (fun lo y=>(bz9 x y lo).trans (by exact bt1  _ _ _ _)) (fun _=>by kernel_rfl) q
def lN{β:Type}(l_Decimal_l0:dD→Option oJ)(x:dU)(dn:zE→Option β):Option β:=
 if(x==0)=true then dn (⟨#[48]⟩)else(l_Decimal_l0 (⟨#[]⟩,x)).bind fun z9=>if decide (x<0)=true then if 1+z9.size≤maxLen then dn (⟨#[45]⟩++z9)else none else dn z9
theorem dx7{β:Type}(l_Decimal_l0)(x)(dn:zE→Option β):lN l_Decimal_l0 x dn=(lN l_Decimal_l0 x some).bind dn:=by
 unfold lN
 repeat' first|exact n0|refine n1 fun _=>?_|refine n2 ?_ ?_|refine n3 (fun _=>?_) fun _=>?_|rfl
theorem du3(l_Decimal_l0)(x):j8 E5 ca0 (lt1 0 (fun _=>true) (b6 E5 4 0) (fZ x) (oD x) l_Decimal_l0 lo0) 4 (ap3 x).1 (ap3 x).2 K=lN (lf (b6 E5 4 0) (fZ x) l_Decimal_l0) x (fun z=>some (.c (bq9 z))):=by kernel_rfl
noncomputable def Decimal(q:Nat)(x:dU):Option zE:=lN (kZ q x) x some
theorem dd7(q:Nat):Lw E5 4 ap3 bq9 (Decimal q):=sof hW5 hX5 a8 (fun x=>(lk1 (bv9 q x) b8)) fun x=>(du3 (kZ q x) x).trans (by rw[bu2,dx7]<;>rfl)
abbrev dgs:ByteArray:=⟨#[48,49,50,51,52,53,54,55,56,57]⟩
theorem dq5{u:Nat}(h:u≠0):ek7 u=ek7 (u/10)++[UInt8.ofNat (48+u%10)]:=by
 unfold ek7
 rw[if_neg h,Lib.decDigits]
 split
 ·rename_i h10
  rw[if_pos (show u/10=0 by omega),show u%10=u by omega];rfl
 ·rename_i h10
  rw[if_neg (show¬u/10=0 by omega)]
theorem fl8:∀d,d<10→dgs.extract d (d+1)=⟨#[UInt8.ofNat (48+d)]⟩:=by decide
theorem cl5(x0:dU):∀(q u:Nat) (a:ByteArray),u<10^q→u<4000000000→a.size≤100-q→q≤100→Rs (kZ (q+1) x0 (a,(u:Int))) (fun z=>z.data.toList=ek7 u++a.data.toList)
 |q,u,a,hu,hb,ha,hq=>by
  refine Rs.step ?_
  unfold fS
  dsimp only
  by_cases h0:u=0
  ·subst h0
   exact Rs.neg (by decide) (Rs.some rfl)
  ·have hq0:q≠0:=by rintro rfl;simp at hu;omega
   obtain⟨q',rfl⟩:∃q',q=q'+1:=⟨q-1,by omega⟩
   have e1:Int.tmod (u:Int) 10=((u%10:Nat):Int):=rfl
   have e2:Int.tdiv (u:Int) 10=((u/10:Nat):Int):=rfl
   have hd:u%10<10:=Nat.mod_lt _ (by decide)
   have e3:w (((u%10:Nat):Int)+1)=((u%10+1:Nat):Int):=iE (by omega)
   have e4:w (((u/10:Nat):Int))=((u/10:Nat):Int):=sO (by omega) (by omega)
   refine Rs.pos (by simpa using h0) ?_
   rw[e1,e2,e3,e4,Int.toNat_natCast,Int.toNat_natCast,fl8 _ hd]
   refine Rs.neg (by rw[decide_eq_true_eq];omega) (Rs.pos (by omega) (Rs.pos ?_ (Rs.some ?_)))
   ·show 1+a.size≤maxLen
    unfold maxLen;omega
   ·refine(cl5 x0 q' (u/10) _ (by rw[Nat.pow_succ]at hu;omega) (by omega) (by rw[ByteArray.size_append];show 1+a.size≤_;omega) (by omega)).mono fun z hz=>?_
    rw[hz,dq5 h0]
    simp[ByteArray.data_append]
theorem de8{n:Int}(h0:0≤n)(h1:n<4000000000):Rs (Decimal 12 n) (fun z=>z=itS n):=by
 obtain⟨u,rfl⟩:∃u:Nat,n=(u:Int):=⟨n.toNat,by omega⟩
 unfold Decimal lN
 by_cases hu:u=0
 ·subst hu
  exact Rs.pos rfl (Rs.some (by unfold itS Lib.itoa;rw[if_neg (by decide),Lib.decDigits,dif_pos (by decide)];rfl))
 ·refine Rs.neg (by simpa using hu) (Rs.bind (cl5 (u:Int) 11 u ⟨#[]⟩ (Nat.lt_trans (show u<4000000000 by omega) (by decide)) (by omega) (by decide) (by decide)) fun z hz=>Rs.neg (fun h=>absurd (of_decide_eq_true h) (show¬((u:Nat):Int)<0 by omega)) (Rs.some ?_))
  apply ByteArray.ext
  apply Array.ext'
  rw[hz]
  unfold itS Lib.itoa ek7
  rw[if_neg hu,if_neg (by omega)]
  simp
theorem by2{n:Int}(h0:0≤n)(h1:n<4000000000){q:Nat}(hq:12≤q):Rs (Decimal q n) (fun z=>z=itS n):=by
 obtain⟨u,rfl⟩:∃u:Nat,n=(u:Int):=⟨n.toNat,by omega⟩
 obtain⟨z,hz,e⟩:=de8 h0 h1
 refine⟨z,?_,e⟩
 unfold Decimal lN at hz⊢
 skip
 split
 ·rename_i h
  rw[if_pos h]at hz
  exact hz
 ·rename_i h
  rw[if_neg h]at hz
  cases hl:kZ 12 (u:Int) (⟨#[]⟩,(u:Int))with
  |none=>rw[hl]at hz;cases hz
  |some y=>
   rw[hl]at hz
   rw[show kZ q (u:Int) (⟨#[]⟩,(u:Int))=some y from cp6 (fun x r h=>h) hq hl]
   exact hz
end Go.Proofs.YtcijknknahbbnaaGreatDoor
/- For closed runs. -/
namespace Go.Proofs.YtcijknknahbbnaaGreatDoor
open Go Go.Am
def ba9:List (Nat×List (Nat×Nat)):=[(3,[(0,480)]),(4,[(0,57)]),(5,[(0,29360256)]),(6,[(0,27164)]),(8,[(0,92)]),(9,[(0,57354)]),(10,[(0,14358)]),(12,[(0,140737488357192)]),(15,[(0,294920)]),(16,[(0,65633)]),(19,[(0,114701)]),(20,[(0,901)]),(33,[(0,35)]),(34,[(0,259)]),(39,[(0,4194356)]),(44,[(0,9)]),(45,[(0,13)]),(51,[(0,1793)]),(53,[(0,387)]),(86,[(0,1835017)]),(90,[(0,939524518)]),(103,[(0,897)]),(141,[(1,51)]),(144,[(0,97)]),(147,[(0,98304)]),(148,[(1,2019)]),(155,[(0,995),(2,1507)]),(156,[(0,49),(2,464)])]
def fn6(a b:Nat):Am.Way:=if b∈[15,33]then .lend else if b∈[5]then .give else way a b
def fl1(f:FuncId):Bool:=f==7
noncomputable def EL:Env:={P:=Tryz.prog,glob:=br1,ext:=di1,way:=fn6,lit:=fl1,code:=dl1 ba9 Tryz.prog,inv:=[(1,uL .i64)],dfn:=et2,idle:=ac2,push:=false}
set_option maxRecDepth 100000 in
theorem hWL:WF EL:=WF.ofL EL ba9 rfl (by kernel_rfl) (fun g n h=>by
 have h':ac2 g=some n:=h
 unfold ac2 at h'
 split at h'
 ·rename_i hg;subst hg;cases h';exact cd5
 ·cases h')
theorem hXL:SoundX EL:=fun f args v h=>by
 obtain⟨h1,h2,h3⟩:=hX f args v h
 exact⟨h1,h2,fun β S D w us a b c=>h3 β S D w us a ⟨b.rd,b.inv⟩ c⟩
theorem scL{f:FuncId}{args:List V}{L:List (Option Chunk)}{cr:CRes}(h:SC EL f args L cr):SC E f args L cr:=
 ⟨h.1,fun β S w us h1 h2 h3=>h.2 β S w us h1 h2 ⟨h3.rd,h3.inv⟩⟩
end Go.Proofs.YtcijknknahbbnaaGreatDoor
/- An example of the chapter, compiled. -/
namespace Go.Proofs.YtcijknknahbbnaaGreatDoor
open Go Go.Am
def fo2:ByteArray:=⟨#[112,114,111,99,101,100,117,114,101,32,113,40,41,32,123,32,114,101,112,101,97,116,32,50,32,123,32,117,115,101,32,50,32,102,111,114,32,50,32,115,59,32,101,109,105,116,32,55,59,32,125,32,125]⟩
def ins1:List (List V):=[[i64 16,i64 2],[i64 23,i64 2000002],[i64 26,i64 7],[i64 17,i64 1],[i64 28,i64 0]]
def fl0:V:=.tup [.ro 4 1 (fun j=>[[st ⟨#[113]⟩,i64 0,i64 0,.ro 2 5 (fun j=>ins1.getD j [])]].getD j []),i64 0]
theorem fo4:SC E 5 [st fo2] [] (.ret fl0 []):=scL (SC.closedEnd hWL hXL 80 20 _ (by kernel_rfl))
end Go.Proofs.YtcijknknahbbnaaGreatDoor
/- An example of the chapter, compiled. -/
namespace Go.Proofs.YtcijknknahbbnaaGreatDoor
open Go Go.Am
def fn5:ByteArray:=⟨#[112,114,111,99,101,100,117,114,101,32,112,40,120,41,32,123,32,97,119,97,105,116,32,120,32,62,32,116,108,109,46,109,111,100,101,32,119,105,116,104,105,110,32,50,32,115,59,32,101,109,105,116,32,49,59,32,125]⟩
def ins2:List (List V):=[[i64 19,i64 2],[i64 2,i64 0],[i64 4,i64 4],[i64 11,i64 0],[i64 13,i64 0],[i64 20,i64 1],[i64 26,i64 1],[i64 28,i64 0]]
def fn4:V:=.tup [.ro 4 1 (fun j=>[[st ⟨#[112]⟩,i64 1,i64 1,.ro 2 8 (fun j=>ins2.getD j [])]].getD j []),i64 0]
theorem fp2:SC E 5 [st fn5] [] (.ret fn4 []):=scL (SC.closedEnd hWL hXL 80 20 _ (by kernel_rfl))
end Go.Proofs.YtcijknknahbbnaaGreatDoor
/- An example of the chapter, compiled. -/
namespace Go.Proofs.YtcijknknahbbnaaGreatDoor
open Go Go.Am
def fo1:ByteArray:=⟨#[112,114,111,99,101,100,117,114,101,32,114,40,120,41,32,123,32,108,101,116,32,97,32,61,32,50,49,52,55,52,56,51,54,52,55,59,32,97,32,61,32,97,32,43,32,120,59,32,125]⟩
def ins3:List (List V):=[[i64 1,i64 2147483647],[i64 3,i64 1],[i64 2,i64 1],[i64 2,i64 0],[i64 5,i64 0],[i64 3,i64 1],[i64 28,i64 0]]
def fl2:V:=.tup [.ro 4 1 (fun j=>[[st ⟨#[114]⟩,i64 1,i64 2,.ro 2 7 (fun j=>ins3.getD j [])]].getD j []),i64 0]
theorem fo8:SC E 5 [st fo1] [] (.ret fl2 []):=scL (SC.closedEnd hWL hXL 80 20 _ (by kernel_rfl))
end Go.Proofs.YtcijknknahbbnaaGreatDoor
/- The examples of the chapter hold. -/
namespace Go.Proofs.YtcijknknahbbnaaGreatDoor
open Go Go.Am Go.RowKit
theorem fi1{E:Env}{f:FuncId}{args:List V}{v:V}(h:SC E f args [] (.ret v []))(hp':v.pure=true)(ha:j7 args=true)(β:Bt)(S D:Pr)(w:World)(us:List Value)(hd:b7 β S w D args us)(hG:Glob E S w)(hS:∀b,S b→b<w.heap.size):
 Calls E.P f us.toArray w fun e w'=>∃u S',e= .returned u∧Below w.heap.size w w'∧den (fun _=>none) S' w' (fun _=>False) v u∧(∀b,S b→S' b)∧∀b,S' b→S b∨(w.heap.size≤b∧b<w'.heap.size):=by
 refine(h.2 (fun _=>none) S w us (l8 (fun _ h=>h) (fun _ _=>rfl) _ _ ha hd) ⟨fun i c hc=>(by simp[hp]at hc),fun _ _=>rfl,fun i b m h=>(by cases h),fun i b m h=>(by cases h),fun i j b m m' h=>(by cases h),hS⟩ hG).mono ?_
 rintro e w' ⟨u,β',S',rfl,g1,g2,g3,g4⟩
 refine⟨u,S',rfl,kL g3,m8 (fun _ h=>h) (fun _ _=>rfl) _ _ hp' g2,g3.sub,fun b hb=>?_⟩
 rcases g3.newS b hb with h|h| ⟨i,m,h0,h⟩
 ·exact .inl h
 ·exact .inr ⟨h,g1.st b hb⟩
 ·cases h
noncomputable def fd3(f:FuncId)(args:List V):Option V:=
 if f=5 then match args with
  | [.sc (.string s)]=>if s=fo2 then some fl0 else if s=fn5 then some fn4 else if s=fo1 then some fl2 else none
  |_=>none
 else di1 f args
noncomputable def EM:Env:={P:=Tryz.prog,glob:=br1,ext:=fd3,way:=fn6,lit:=fl1,code:=dl1 ba9 Tryz.prog,inv:=[(1,uL .i64)],dfn:=et2,idle:=ac2,push:=false,allR:=true}
theorem hXM:SoundX EM:=fun f args v h=>by
 have h':fd3 f args=some v:=h
 unfold fd3 at h'
 split at h'
 ·rename_i hf;subst hf
  have hcal:gQ EM.P 5:=⟨_,Tryz.func5,by kernel_rfl,by intro e;exact absurd e (by decide+kernel)⟩
  have key:∀(s:ByteArray) (x:V),x.pure=true→SC E 5 [st s] [] (.ret x [])→some x=some v→args=[.sc (.string s)]→gQ EM.P 5∧v.pure=true∧∀(β:Bt) (S D:Pr) (w:World) (us:List Value),b7 β S w D args us→Glob EM S w→(∀b,S b→b<w.heap.size)→
   Calls EM.P 5 us.toArray w fun e w'=>∃u S',e= .returned u∧Below w.heap.size w w'∧den (fun _=>none) S' w' (fun _=>False) v u∧(∀b,S b→S' b)∧∀b,S' b→S b∨(w.heap.size≤b∧b<w'.heap.size):=by
   rintro s x hx hs hv rfl
   cases hv
   exact⟨hcal,hx,fun β S D w us hd hG hS=>fi1 hs hx rfl β S D w us hd ⟨hG.rd,hG.inv⟩ hS⟩
  split at h'
  ·rename_i s
   split at h'
   ·rename_i e;subst e;exact key _ _ rfl fo4 h' rfl
   split at h'
   ·rename_i e;subst e;exact key _ _ rfl fp2 h' rfl
   split at h'
   ·rename_i e;subst e;exact key _ _ rfl fo8 h' rfl
   ·cases h'
  ·cases h'
 ·obtain⟨g1,g2,g3⟩:=hX f args v h'
  exact⟨g1,g2,fun β S D w us a b c=>g3 β S D w us a ⟨b.rd,b.inv⟩ c⟩
set_option maxRecDepth 100000 in
theorem hWM:WF EM:=WF.ofL EM ba9 rfl (by kernel_rfl) (fun g n h=>by
 have h':ac2 g=some n:=h
 unfold ac2 at h'
 split at h'
 ·rename_i hg;subst hg;cases h';exact cd5
 ·cases h')
theorem scM{f:FuncId}{cr:CRes}(h:SC EM f [] [] cr):SC E f [] [] cr:=by
 refine⟨h.1,fun β S w us h1 h2 h3=>(h.2 β S w us h1 h2 ⟨h3.rd,h3.inv⟩).mono ?_⟩
 intro e w' hp'
 cases cr with
 |ret v L'=>
  obtain⟨u,β',S',g0,g1,g2,g3,g4⟩:=hp'
  exact⟨u,β',S',g0,g1,g2,g3,fun i bm hi hb=>absurd (show i< (z6 false (hp []) []).length from hi) (Nat.not_lt_zero i)⟩
 |pan v=>exact hp'
def clF(f:FuncId):Bool:=f==27||f==28
noncomputable def clT:h9:=dj8 [(27,3,1,8),(28,100,2,16)]
theorem dz6:m6 EM clT:=bu8 fun p hp=>by
 simp only[List.mem_cons,List.mem_nil_iff,or_false]at hp
 rcases hp with rfl|rfl
 ·exact dl7
 ·exact dn8
theorem da4:SC E 7 [] [] (.ret (bo true) []):=scM (SC.closedB (sp:=clF) hWM hXM dz6 80 (by kernel_rfl))
end Go.Proofs.YtcijknknahbbnaaGreatDoor
/- The law VmFuel, lifted. -/
namespace Go.Proofs.YtcijknknahbbnaaGreatDoor
open Go Go.Am Go.Proofs Go.Proofs.Lx
set_option maxRecDepth 100000
abbrev sD:Type:=Int
abbrev rR:Type:=ByteArray
def rJ:sD→List V×List (Option Chunk):=(fun x=>(fun(n:Int)=>(([i64 n]:List V),([]:List (Option Chunk)))) x)
def fn8(t:List V×List (Option Chunk)):sD:=(vI (t.1.getD 0 .junk))
theorem fb7:∀x y,rJ x=rJ y→x=y:=fun x y h=>(congrArg fn8 h:)
def ct1:rR→CRes:=(fun z=>(fun(s:ByteArray)=>.ret (st s) []) z:(ByteArray)→CRes)
def eq1(z:rR)(k:CRes→Option Ans):Option Ans:=k (ct1 z)
theorem ek1:∀z k,eq1 z k=k (ct1 z):=fun z k=>rfl
noncomputable def Dec(q:Nat)(x:sD):Option rR:=Decimal q x
theorem fh4(q:Nat):∀(x:sD) (z:rR),Dec q x=some z→SC E5 4 (rJ x).1 (rJ x).2 (ct1 z):=dd7 q
abbrev eH:Type:=Unit
abbrev eI:Type:=Bool
def eB:eH→List V×List (Option Chunk):=(fun _=>(([]:List V),([]:List (Option Chunk))))
def ev1(t:List V×List (Option Chunk)):eH:=()
theorem do4:∀x y,eB x=eB y→x=y:=fun x y h=>(congrArg ev1 h:)
def am1:eI→CRes:=(fun z=>(fun(b:Bool)=>.ret (bo b) []) z:(Bool)→CRes)
def bz8(z:eI)(k:CRes→Option Ans):Option Ans:=k (am1 z)
theorem cg8:∀z k,bz8 z k=k (am1 z):=fun z k=>rfl
noncomputable def dl5(q:Nat)(x:eH):Option eI:=some true
theorem em6(q:Nat):∀(x:eH) (z:eI),dl5 q x=some z→SC E5 7 (eB x).1 (eB x).2 (am1 z):=by
 intro x z h
 cases h
 exact sc5.2 da4
abbrev bF:Type:=Int×Int
abbrev yV:Type:=Bool
def zC:bF→List V×List (Option Chunk):=(fun x=>(fun(nn:Int) (kk:Int)=>(([u8 nn,u8 kk]:List V),([]:List (Option Chunk)))) x.1 x.2)
def cc7:yV→CRes:=(fun z=>(fun(b:Bool)=>.ret (bo b) []) z:(Bool)→CRes)
abbrev aY:Type:=ByteArray×Int
abbrev eY:Type:=ByteArray
def dK(x:bF)(y:aY):St:={fr:=jk 5++[i64 (w ((1:Int)+w (Int.tmod (x.1) (100:Int)))),i64 (w (Int.tmod (x.2) (10:Int))),st (y.1),i64 (y.2)]++jk 111,H:=hp [],nx:=0,rt:=0,me:=3}
def dd8(s:St):aY:=((vS (s.fr.getD 7 .junk)),(vI (s.fr.getD 8 .junk)))
theorem db0(x:bF):∀y y',dK x y=dK x y'→y=y':=fun y y' h=>(congrArg dd8 h:)
def t6(x:bF):eY→Ex×St:=(fun z=>(Ex.exit 0,{fr:=jk 5++[i64 (w ((1:Int)+w (Int.tmod (x.1) (100:Int)))),i64 (w (Int.tmod (x.2) (10:Int))),st z]++jk 112,H:=hp [],nx:=0,rt:=0,me:=3}))
def bk6(x:bF)(z:eY)(k:KX):Option Ans:=k (t6 x z).1 (t6 x z).2
theorem cx0(x:bF):∀z k,bk6 x z k=k (t6 x z).1 (t6 x z).2:=fun z k=>rfl
theorem cr3(x:bF)(z:ByteArray):KCM [(0,224)] 16 (t6 x z).1 (t6 x z).2=some (.l (t6 x z).1 (t6 x z).2):=by kernel_rfl
def hZ{β:Type}(c_Dec:sD→Option rR)(c_BuildF:s7→Option y8)(c_PlayF:bI→Option bH)(c_Lives:eH→Option eI)(x:bF)(y:aY)(nx:aY→Option β)(dn:eY→Option β):Option β:=
 if decide (y.2<w (Int.tmod (x.2) (10:Int)))=true then
  if ByteArray.size (y.1)+8≤maxLen then
   nx ((y.1++{data:=#[(101:UInt8),(109:UInt8),(105:UInt8),(116:UInt8),(32:UInt8),(53:UInt8),(59:UInt8),(32:UInt8)]},w (y.2+(1:Int))))
  else
   none
 else
  dn (y.1)
theorem db2{β:Type}(c_Dec:sD→Option rR)(c_BuildF:s7→Option y8)(c_PlayF:bI→Option bH)(c_Lives:eH→Option eI)(x:bF)(y:aY)(nx:aY→Option β)(dn:eY→Option β):hZ c_Dec c_BuildF c_PlayF c_Lives x y nx dn=(hZ c_Dec c_BuildF c_PlayF c_Lives x y (fun y=>some (.inl y)) (fun z=>some (.inr z))).bind fun r=>Sum.elim nx dn r:=by
 unfold hZ
 repeat' first|exact aW|refine aU (fun z=>?_) |refine cL ?_ ?_|refine cF (fun z=>?_) (fun z=>?_) |rfl
theorem da6(c_Dec:sD→Option rR)(c_BuildF:s7→Option y8)(c_PlayF:bI→Option bH)(c_Lives:eH→Option eI)(x:bF)(y:aY)(lo:f7):r9 E5 (jL 4 (fun _ _=>true) rJ eq1 c_Dec (jL 5 (fun _ _=>true) s9 be1 c_BuildF (jL 6 (fun _ _=>true) bG bw4 c_PlayF (jL 7 (fun _ _=>true) eB bz8 c_Lives ca0)))) lo 0 480 (b6 E5 3 0) (dK x y) (KCM [(0,224)] 16)=hZ (fun x=>eK rJ c_Dec (rJ x)) (fun x=>eK s9 c_BuildF (s9 x)) (fun x=>eK bG c_PlayF (bG x)) (fun x=>eK eB c_Lives (eB x)) x y (fun y=>lo 0 480 (b6 E5 3 0) (dK x y) (KCM [(0,224)] 16)) (fun z=>some (.l (t6 x z).1 (t6 x z).2)):=by kernel_rfl
noncomputable def tP(c_Dec:sD→Option rR)(c_BuildF:s7→Option y8)(c_PlayF:bI→Option bH)(c_Lives:eH→Option eI)(q:Nat)(x:bF):aY→Option eY:=lpG (fun y=>hZ c_Dec c_BuildF c_PlayF c_Lives x y (fun y=>some (.inl y)) (fun z=>some (.inr z))) q
theorem dc9(c_Dec:sD→Option rR)(h_Dec:∀x z,c_Dec x=some z→SC E5 4 (rJ x).1 (rJ x).2 (ct1 z))(c_BuildF:s7→Option y8)(h_BuildF:∀x z,c_BuildF x=some z→SC E5 5 (s9 x).1 (s9 x).2 (nC z))(c_PlayF:bI→Option bH)(h_PlayF:∀x z,c_PlayF x=some z→SC E5 6 (bG x).1 (bG x).2 (rZ z))(c_Lives:eH→Option eI)(h_Lives:∀x z,c_Lives x=some z→SC E5 7 (eB x).1 (eB x).2 (am1 z))(q:Nat)(x:bF):∀y z,tP c_Dec c_BuildF c_PlayF c_Lives q x y=some z→SL E5 (b6 E5 3 0) (dK x y) (t6 x z).1 (t6 x z).2:=
 SL.lp (LT:=fun lo=>lo) (T:=t6 x) (S:=dK x) (j3 h_Dec ek1 (j3 h_BuildF bs2 (j3 h_PlayF ci2 (j3 h_Lives cg8 a8)))) hX5 (fun lo h=>h) (fun lo y=>(da6 c_Dec c_BuildF c_PlayF c_Lives x y lo).trans (by rw[y7 fb7 c_Dec,y7 ci5 c_BuildF,y7 dm7 c_PlayF,y7 do4 c_Lives];exact db2 _ _ _ _ _ _ _ _)) (cr3 x) q
def uM{β:Type}(c_Dec:sD→Option rR)(c_BuildF:s7→Option y8)(c_PlayF:bI→Option bH)(c_Lives:eH→Option eI)(l_FuelT_l0:aY→Option eY)(x:bF)(dn:yV→Option β):Option β:=
 (c_Dec (w ((1:Int)+w (Int.tmod (x.1) (100:Int))))).bind fun z1=>
  if 23+ByteArray.size z1≤maxLen then
   if ByteArray.size ({data:=#[(112:UInt8),(114:UInt8),(111:UInt8),(99:UInt8),(101:UInt8),(100:UInt8),(117:UInt8),(114:UInt8),(101:UInt8),(32:UInt8),(112:UInt8),(40:UInt8),(41:UInt8),(32:UInt8),(123:UInt8),(32:UInt8),(114:UInt8),(101:UInt8),(112:UInt8),(101:UInt8),(97:UInt8),(116:UInt8),(32:UInt8)]}++z1)+3≤maxLen then
    (l_FuelT_l0 (({data:=#[(112:UInt8),(114:UInt8),(111:UInt8),(99:UInt8),(101:UInt8),(100:UInt8),(117:UInt8),(114:UInt8),(101:UInt8),(32:UInt8),(112:UInt8),(40:UInt8),(41:UInt8),(32:UInt8),(123:UInt8),(32:UInt8),(114:UInt8),(101:UInt8),(112:UInt8),(101:UInt8),(97:UInt8),(116:UInt8),(32:UInt8)]}++z1++{data:=#[(32:UInt8),(123:UInt8),(32:UInt8)]},(0:Int)))).bind fun z10=>
     if ByteArray.size z10+3≤maxLen then
      (c_BuildF (z10++{data:=#[(125:UInt8),(32:UInt8),(125:UInt8)]})).bind fun z12=>
       Sum.elim (fun z12a=>
       if(z12a !=(0:Int))=true then
        dn false
       else
        dn false) (fun z12b=>
       (c_PlayF (({data:=#[(112:UInt8)]},z12b.1 0,z12b.2.1 0,z12b.2.2 0))).bind fun z18=>
        Sum.elim (fun z18a=>
        if decide (w ((2:Int)+w (w ((1:Int)+w (Int.tmod (x.1) (100:Int)))*w (w (Int.tmod (x.2) (10:Int))+(1:Int))))≤(200:Int))=true then
         if((0:Int)==w (w ((1:Int)+w (Int.tmod (x.1) (100:Int)))*w (Int.tmod (x.2) (10:Int))))=true then
          if(z18a.2.2.2.1==(1:Int))=true then
           (c_Lives ()).bind fun z19=>
            dn z19
          else
           dn false
         else
          dn false
        else
         if w (w (Int.tmod (x.2) (10:Int))+(1:Int))=(0:Int)then
          none
         else
          if w (w (Int.tmod (x.2) (10:Int))+(1:Int))=(0:Int)then
           none
          else
           if((0:Int)==if w (w ((1:Int)+w (Int.tmod (x.1) (100:Int)))*w (Int.tmod (x.2) (10:Int)))<w (w (w (Int.tdiv (199:Int) (w (w (Int.tmod (x.2) (10:Int))+(1:Int))))*w (Int.tmod (x.2) (10:Int)))+if w (Int.tmod (x.2) (10:Int))<Int.tmod (199:Int) (w (w (Int.tmod (x.2) (10:Int))+(1:Int)))then w (Int.tmod (x.2) (10:Int))else Int.tmod (199:Int) (w (w (Int.tmod (x.2) (10:Int))+(1:Int))))then w (w ((1:Int)+w (Int.tmod (x.1) (100:Int)))*w (Int.tmod (x.2) (10:Int)))else w (w (w (Int.tdiv (199:Int) (w (w (Int.tmod (x.2) (10:Int))+(1:Int))))*w (Int.tmod (x.2) (10:Int)))+if w (Int.tmod (x.2) (10:Int))<Int.tmod (199:Int) (w (w (Int.tmod (x.2) (10:Int))+(1:Int)))then w (Int.tmod (x.2) (10:Int))else Int.tmod (199:Int) (w (w (Int.tmod (x.2) (10:Int))+(1:Int)))))=true then
            if(z18a.2.2.2.1==(2:Int))=true then
             if(z18a.2.2.2.2==(1003:Int))=true then
              (c_Lives ()).bind fun z20=>
               dn z20
             else
              dn false
            else
             dn false
           else
            dn false) (fun z18b=>
        if decide (w ((2:Int)+w (w ((1:Int)+w (Int.tmod (x.1) (100:Int)))*w (w (Int.tmod (x.2) (10:Int))+(1:Int))))≤(200:Int))=true then
         if(((z18b.2.2.2.2.2.1 0:Nat):Int)==w (w ((1:Int)+w (Int.tmod (x.1) (100:Int)))*w (Int.tmod (x.2) (10:Int))))=true then
          if(z18b.2.2.2.1==(1:Int))=true then
           (c_Lives ()).bind fun z22=>
            dn z22
          else
           dn false
         else
          dn false
        else
         if w (w (Int.tmod (x.2) (10:Int))+(1:Int))=(0:Int)then
          none
         else
          if w (w (Int.tmod (x.2) (10:Int))+(1:Int))=(0:Int)then
           none
          else
           if(((z18b.2.2.2.2.2.1 0:Nat):Int)==if w (w ((1:Int)+w (Int.tmod (x.1) (100:Int)))*w (Int.tmod (x.2) (10:Int)))<w (w (w (Int.tdiv (199:Int) (w (w (Int.tmod (x.2) (10:Int))+(1:Int))))*w (Int.tmod (x.2) (10:Int)))+if w (Int.tmod (x.2) (10:Int))<Int.tmod (199:Int) (w (w (Int.tmod (x.2) (10:Int))+(1:Int)))then w (Int.tmod (x.2) (10:Int))else Int.tmod (199:Int) (w (w (Int.tmod (x.2) (10:Int))+(1:Int))))then w (w ((1:Int)+w (Int.tmod (x.1) (100:Int)))*w (Int.tmod (x.2) (10:Int)))else w (w (w (Int.tdiv (199:Int) (w (w (Int.tmod (x.2) (10:Int))+(1:Int))))*w (Int.tmod (x.2) (10:Int)))+if w (Int.tmod (x.2) (10:Int))<Int.tmod (199:Int) (w (w (Int.tmod (x.2) (10:Int))+(1:Int)))then w (Int.tmod (x.2) (10:Int))else Int.tmod (199:Int) (w (w (Int.tmod (x.2) (10:Int))+(1:Int)))))=true then
            if(z18b.2.2.2.1==(2:Int))=true then
             if(z18b.2.2.2.2.1==(1003:Int))=true then
              (c_Lives ()).bind fun z23=>
               dn z23
             else
              dn false
            else
             dn false
           else
            dn false) z18) z12
     else
      none
   else
    none
  else
   none
theorem fb1{β:Type}(c_Dec:sD→Option rR)(c_BuildF:s7→Option y8)(c_PlayF:bI→Option bH)(c_Lives:eH→Option eI)(l_FuelT_l0:aY→Option eY)(x:bF)(dn:yV→Option β):uM c_Dec c_BuildF c_PlayF c_Lives l_FuelT_l0 x dn=(uM c_Dec c_BuildF c_PlayF c_Lives l_FuelT_l0 x some).bind dn:=by
 unfold uM
 repeat' first|exact aW|refine aU (fun z=>?_) |refine cL ?_ ?_|refine cF (fun z=>?_) (fun z=>?_) |rfl
theorem ez1(c_Dec:sD→Option rR)(c_BuildF:s7→Option y8)(c_PlayF:bI→Option bH)(c_Lives:eH→Option eI)(l_FuelT_l0:aY→Option eY)(x:bF):j8 E5 (jL 4 (fun _ _=>true) rJ eq1 c_Dec (jL 5 (fun _ _=>true) s9 be1 c_BuildF (jL 6 (fun _ _=>true) bG bw4 c_PlayF (jL 7 (fun _ _=>true) eB bz8 c_Lives ca0)))) (ac4 0 (fun _=>true) (b6 E5 3 0) (dK x) (bk6 x) l_FuelT_l0 lo0) 3 (zC x).1 (zC x).2 K=uM (fun x=>eK rJ c_Dec (rJ x)) (fun x=>eK s9 c_BuildF (s9 x)) (fun x=>eK bG c_PlayF (bG x)) (fun x=>eK eB c_Lives (eB x)) (fun y=>eK (fun y=>(b6 E5 3 0,dK x y)) l_FuelT_l0 (b6 E5 3 0,dK x y)) x (fun z=>some (.c (cc7 z))):=by kernel_rfl
theorem et1(c_Dec:sD→Option rR)(h_Dec:∀x z,c_Dec x=some z→SC E5 4 (rJ x).1 (rJ x).2 (ct1 z))(c_BuildF:s7→Option y8)(h_BuildF:∀x z,c_BuildF x=some z→SC E5 5 (s9 x).1 (s9 x).2 (nC z))(c_PlayF:bI→Option bH)(h_PlayF:∀x z,c_PlayF x=some z→SC E5 6 (bG x).1 (bG x).2 (rZ z))(c_Lives:eH→Option eI)(h_Lives:∀x z,c_Lives x=some z→SC E5 7 (eB x).1 (eB x).2 (am1 z))(q:Nat)(x:bF)(z:yV)(h:uM c_Dec c_BuildF c_PlayF c_Lives (tP c_Dec c_BuildF c_PlayF c_Lives q x) x some=some z):SC E5 3 (zC x).1 (zC x).2 (cc7 z):=by
 refine SC.of hW5 hX5 (j3 h_Dec ek1 (j3 h_BuildF bs2 (j3 h_PlayF ci2 (j3 h_Lives cg8 a8)))) (eO (dc9 c_Dec h_Dec c_BuildF h_BuildF c_PlayF h_PlayF c_Lives h_Lives q x) (cx0 x) b8) ((ez1 c_Dec c_BuildF c_PlayF c_Lives (tP c_Dec c_BuildF c_PlayF c_Lives q x) x).trans ?_)
 rw[y7 fb7 c_Dec,y7 ci5 c_BuildF,y7 dm7 c_PlayF,y7 do4 c_Lives,y7 (xB (b6 E5 3 0) (db0 x)) (tP c_Dec c_BuildF c_PlayF c_Lives q x),fb1,h];rfl
noncomputable def eh5(q:Nat)(x:bF):Option yV:=uM (Dec q) (as6 q) (bp2 q) (dl5 q) (tP (Dec q) (as6 q) (bp2 q) (dl5 q) q x) x some
theorem ed2(q:Nat):∀(x:bF) (z:yV),eh5 q x=some z→SC E5 3 (zC x).1 (zC x).2 (cc7 z):=fun x z h=>et1 (Dec q) (fh4 q) (as6 q) (dv6 q) (bp2 q) (ef6 q) (dl5 q) (em6 q) q x z h
end Go.Proofs.YtcijknknahbbnaaGreatDoor
/- VmFuel: plain. -/
namespace Go.Proofs.YtcijknknahbbnaaGreatDoor
open Go Go.Am Go.Proofs Go.Proofs.Lx
set_option maxRecDepth 100000
def fl3(T K:Int)(s a:Nat):Bool:=
 if decide (w (2+w (T*w (K+1)))≤200)=true then(((a:Nat):Int)==w (T*K))&&(s==1)
 else(w (K+1)!=0)&&(((a:Nat):Int)==if w (T*K)<w (w (w (Int.tdiv 199 (w (K+1)))*K)+if K<Int.tmod 199 (w (K+1))then K else Int.tmod 199 (w (K+1)))then w (T*K)else w (w (w (Int.tdiv 199 (w (K+1)))*K)+if K<Int.tmod 199 (w (K+1))then K else Int.tmod 199 (w (K+1))))&&(s==2)
set_option maxRecDepth 1000000 in
theorem ee9:∀t,t<100→∀k,k<10→fl3 (((1+t:Nat)):Int) ((k:Nat):Int) (eW (1+t) k 200 0 0 0).1 (eW (1+t) k 200 0 0 0).2=true:=by decide+kernel
abbrev emB:List UInt8:=[101,109,105,116,32,53,59,32]
theorem cv9:∀k,pW (k+1)=emB++pW k:=fun k=>by
 have e:(itS 5).data.toList=[53]:=by decide+kernel
 have e2:bL jP=[101,109,105,116]:=rfl
 rw[pW,e,e2];rfl
variable {c1:sD→Option rR} {c2:s7→Option y8} {c3:bI→Option bH} {c4:eH→Option eI}
theorem dx1{u:Int}{v k:Nat}(hk:k=v%10):∀(r q i:Nat) (s:ByteArray),r+i=k→r<q→s.size≤100+8*i→Rs (tP c1 c2 c3 c4 q (u,(v:Int)) (s,(i:Int))) (fun z=>z.data.toList=s.data.toList++pW r∧z.size≤200):=by
 have e1:w (Int.tmod ((v:Nat):Int) 10)=((k:Nat):Int):=by rw[hk];show w ((v%10:Nat):Int)=_;exact sO (by omega) (by omega)
 intro r
 induction r with
 |zero=>
  intro q i s hi hq hs
  obtain⟨q,rfl⟩:∃k,q=k+1:=⟨q-1,by omega⟩
  refine Rs.step ?_
  unfold hZ
  dsimp only
  refine Rs.neg (by rw[e1,decide_eq_true_eq];omega) (Rs.some ⟨by simp[pW],by omega⟩)
 |succ r ih=>
  intro q i s hi hq hs
  obtain⟨q,rfl⟩:∃k,q=k+1:=⟨q-1,by omega⟩
  refine Rs.step3 fun Q hQ=>?_
  unfold hZ
  dsimp only
  have hk9:k≤9:=by omega
  refine Rs.pos (by rw[e1,decide_eq_true_eq];omega) (Rs.pos (by unfold maxLen;omega) (Rs.some (hQ _ ?_)))
  rw[iE (by omega)]
  refine(ih q (i+1) _ (by omega) (by omega) (by rw[ByteArray.size_append];show s.size+8≤_;omega)).mono fun z hz=>⟨?_,hz.2⟩
  rw[hz.1,cv9]
  simp[ByteArray.data_append]
theorem et4{u v:Nat}(hu:u<256)(hv:v<256):Rs (eh5 201 ((u:Int),(v:Int))) (fun z=>z=true):=by
 obtain⟨t,ht⟩:∃t,t=1+u%100:=⟨_,rfl⟩
 obtain⟨k,hk⟩:∃k,k=v%10:=⟨_,rfl⟩
 have eu:w (Int.tmod ((u:Nat):Int) 100)=((u%100:Nat):Int):=by show w ((u%100:Nat):Int)=_;exact sO (by omega) (by omega)
 have et:w (1+w (Int.tmod ((u:Nat):Int) 100))=((t:Nat):Int):=by rw[eu,sO (by omega) (by omega)];omega
 have ek:w (Int.tmod ((v:Nat):Int) 10)=((k:Nat):Int):=by rw[hk];show w ((v%10:Nat):Int)=_;exact sO (by omega) (by omega)
 have hask:=ee9 (u%100) (by omega) k (by omega)
 rw[←ht]at hask
 unfold eh5 uM
 dsimp only
 rw[et,ek]
 refine Rs.bind (by2 (n:=(t:Int)) (q:=201) (by omega) (by omega) (by decide)) fun z1 hz1=>?_
 have s1:z1.size≤10:=by rw[hz1];exact cq0 (by omega) (by omega)
 refine Rs.pos (by unfold maxLen;omega) (Rs.pos (by rw[ByteArray.size_append];unfold maxLen;show 23+z1.size+3≤_;omega) ?_)
 refine Rs.bind (dx1 hk k 201 0 _ rfl (by omega) (by rw[ByteArray.size_append,ByteArray.size_append];show 23+z1.size+3≤_;omega)) fun z2 hz2=>?_
 obtain⟨e2,s2⟩:=hz2
 refine Rs.pos (by unfold maxLen;omega) ?_
 obtain⟨f,g,hb,hj⟩:=ea0 200 (t:=(t:Int)) (by omega) (by omega) (k:=k) (by omega) (s:=z2++⟨#[125,32,125]⟩) (by
  have e3:bL o7=[112,114,111,99,101,100,117,114,101]:=rfl
  have e4:bL cI=[114,101,112,101,97,116]:=rfl
  have e5:bL pN=[112]:=rfl
  rw[ByteArray.data_append,Array.toList_append,e2,bj6,e3,e4,e5,hz1]
  simp[ByteArray.data_append])
 rw[hb]
 simp only[Option.bind_some,Sum.elim_inr]
 refine Rs.bind (em4 (t:=t) (k:=k) (n:=k+3) (by omega) (by omega) (by omega) rfl hj (q:=201) (by decide)) fun z hz=>?_
 generalize eW t k 200 0 0 0=r at hask hz
 obtain⟨s,a⟩:=r
 unfold fl3 at hask
 rcases z with z|z
 ·obtain⟨g1,g2,g3⟩:=hz
  simp only at g1 g2 g3 hask
  subst g1
  simp only[Sum.elim_inl]
  refine Rs.ite (fun hc=>?_) fun hc=>?_
  ·rw[if_pos hc,Bool.and_eq_true]at hask
   have hs:s=1:=beq_iff_eq.1 hask.2
   subst hs
   exact Rs.pos hask.1 (Rs.pos (by rw[g2];rfl) (Rs.some rfl))
  ·rw[if_neg hc,Bool.and_eq_true,Bool.and_eq_true]at hask
   have hs:s=2:=beq_iff_eq.1 hask.2
   subst hs
   have hn:¬w (((k:Nat):Int)+1)=0:=by simpa using hask.1.1
   exact Rs.neg hn (Rs.neg hn (Rs.pos hask.1.2 (Rs.pos (by rw[g2];rfl) (Rs.pos (by rw[g3 rfl];rfl) (Rs.some rfl)))))
 ·obtain⟨g1,g2,g3⟩:=hz
  simp only at g1 g2 g3 hask
  simp only[Sum.elim_inr]
  refine Rs.ite (fun hc=>?_) fun hc=>?_
  ·rw[if_pos hc,Bool.and_eq_true]at hask
   have hs:s=1:=beq_iff_eq.1 hask.2
   subst hs
   exact Rs.pos (by rw[g1];exact hask.1) (Rs.pos (by rw[g2];rfl) (Rs.some rfl))
  ·rw[if_neg hc,Bool.and_eq_true,Bool.and_eq_true]at hask
   have hs:s=2:=beq_iff_eq.1 hask.2
   subst hs
   have hn:¬w (((k:Nat):Int)+1)=0:=by simpa using hask.1.1
   exact Rs.neg hn (Rs.neg hn (Rs.pos (by rw[g1];exact hask.1.2) (Rs.pos (by rw[g2];rfl) (Rs.pos (by rw[g3 rfl];rfl) (Rs.some rfl)))))
theorem eo2{u v:Nat}(hu:u<256)(hv:v<256):SC E5 3 [u8 (u:Int),u8 (v:Int)] [] (.ret (bo true) []):=by
 obtain⟨z,h,rfl⟩:=et4 hu hv
 exact ed2 201 _ _ h
end Go.Proofs.YtcijknknahbbnaaGreatDoor
/- The law VmFuel, of the row's arguments. -/
namespace Go.Proofs.YtcijknknahbbnaaGreatDoor
open Go Go.Am Go.Proofs
theorem ed4{v:V}(h:WTV E.P 5 v):∃n:Nat,v=u8 (n:Int)∧n<256:=by
 obtain⟨n,rfl,hn⟩:=WTV.int h (by kernel_rfl) (k:=.u8) (by kernel_rfl)
 simp only[Lit.wf,Bool.and_eq_true,decide_eq_true_eq]at hn
 have h1:(0:Int)≤n:=hn.1
 have h2:n≤255:=hn.2
 exact⟨n.toNat,by rw[Int.toNat_of_nonneg h1],by omega⟩
theorem vmFuel(v0 v1:V)(h0:WTV E.P 5 v0)(h1:WTV E.P 5 v1):∃l',LeL [v0,v1] l'∧SC E 3 l' [] (.ret (bo true) []):=by
 obtain⟨u,rfl,hu⟩:=ed4 h0
 obtain⟨v,rfl,hv⟩:=ed4 h1
 exact⟨_,LeL.refl _,sc5.1 (eo2 hu hv)⟩
end Go.Proofs.YtcijknknahbbnaaGreatDoor

