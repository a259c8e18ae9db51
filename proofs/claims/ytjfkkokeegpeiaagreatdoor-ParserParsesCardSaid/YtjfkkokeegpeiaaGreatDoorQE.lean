/- Texts joined. -/
import Derived.Test.YtjfkkokeegpeiaaGreatDoorQD
import Derived.Test.YtjfkkokeegpeiaaGreatDoorQC
import Derived.Laws.RangeAny
import Derived.Lib.Bytealg
import Derived.Lib.IndexMore
/- The reference's parser of trees, lifted. -/
set_option linter.unusedSimpArgs false
set_option linter.unusedVariables false
namespace Go.Proofs.YtjfkkokeegpeiaaGreatDoor
open Go Go.Am Go.Proofs
set_option maxRecDepth 100000
theorem un7{f:FuncId}{args:List V}{L:List (Option Chunk)}{cr:CRes}(h:SC E7 f args L cr)(hr:Nat.ble (roots false (hp L) args).length (roots true (hp L) args).length=true):SC E5 f args L cr:=by
 refine⟨h.1,fun β S w us h1 h2 h3=>(h.2 β S w us h1 h2 ⟨h3.rd,h3.inv⟩).mono ?_⟩
 intro e w' hp'
 cases cr with
 |ret v L'=>
  obtain⟨u,β',S',g0,g1,g2,g3,g4⟩:=hp'
  exact⟨u,β',S',g0,g1,g2,g3,fun i bm hi hb=>g4 i bm (Nat.lt_of_lt_of_le hi (Nat.le_of_ble_eq_true hr)) hb⟩
 |pan v=>exact hp'
theorem cy_z{f:FuncId}{args:List V}{L H:List (Option Chunk)}{a b:Int}{s:ByteArray}{g:Nat→List V}(h:SC E5 f args L (.ret (.agg [i64 a,i64 b,st s,nilS]) H)):SC E5 f args L (.ret (.agg [i64 a,i64 b,st s,.ro 4 0 g]) H):=
 SC.le h (Le.agg (LeL.cons (Le.refl _) (LeL.cons (Le.refl _) (LeL.cons (Le.refl _) (LeL.cons Le.nil_ro LeL.nil)))))
theorem cy_r{f:FuncId}{args:List V}{L:List (Option Chunk)}{a b pa po pb pl:Int}{s:ByteArray}{tn nv m:Nat}{tf vf g:Nat→List V}
 (h:SC E5 f args L (.ret (.agg [i64 a,i64 b,st s,.sl 2 4 0 m]) [some (.blk [.ro 4 tn tf,i64 pa,i64 po,i64 pb,i64 pl,.sl 1 1 0 nv]),some (.row 9 1 nv vf),some (.row 35 4 m g)])):
 SC E5 f args L (.ret (.agg [i64 a,i64 b,st s,.ro 4 m g]) [some (.blk [.ro 4 tn tf,i64 pa,i64 po,i64 pb,i64 pl,.sl 1 1 0 nv]),some (.row 9 1 nv vf)]):=by
 have h2:=SC.giveM (L2:=[some (.blk [.ro 4 tn tf,i64 pa,i64 po,i64 pb,i64 pl,.sl 1 1 0 nv]),some (.row 9 1 nv vf)]) 2 h (by rfl) (by simp[V.bw,V.bw2,V.bw1,hp,V.pure,pureL])
 simpa[V.bw,V.bw2,V.bw1,hp]using h2
theorem cy_k{f:FuncId}{args:List V}{L:List (Option Chunk)}{a b pa po pb pl:Int}{s:ByteArray}{tn nv m:Nat}{tf vf g:Nat→List V}
 (h:SC E5 f args L (.ret (.agg [i64 a,i64 b,st s,.sl 2 4 0 m]) [some (.blk [.ro 4 tn tf,i64 pa,i64 po,i64 pb,i64 pl,.sl 1 1 0 nv]),some (.row 9 1 nv vf),some (.row 35 4 m g)])):
 SC E5 f args L (.ret (.agg [i64 a,i64 b,st s,.ro 4 m g]) [some (.blk [.ro 4 tn tf,i64 pa,i64 po,i64 pb,i64 pl,.sl 1 1 0 nv]),some (.row 9 1 nv vf)]):=cy_r h
theorem cy_F{f:FuncId}{args:List V}{L:List (Option Chunk)}{a b pa po pb pl:Int}{s:ByteArray}{tn nv m:Nat}{tf vf g:Nat→List V}
 (h:SC E5 f args L (.ret (.agg [i64 a,i64 b,st s,.sl 2 4 0 m]) [some (.blk [.ro 4 tn tf,i64 pa,i64 po,i64 pb,i64 pl,.sl 1 1 0 nv]),some (.row 9 1 nv vf),some (.row 35 4 m g)])):
 SC E5 f args L (.ret (.agg [i64 a,i64 b,st s,.ro 4 m (fun j=>fixC (g j))]) [some (.blk [.ro 4 tn tf,i64 pa,i64 po,i64 pb,i64 pl,.sl 1 1 0 nv]),some (.row 9 1 nv vf)]):=
 SC.le (cy_r h) (Le.agg (LeL.cons (Le.refl _) (LeL.cons (Le.refl _) (LeL.cons (Le.refl _) (LeL.cons Le.ro_fix LeL.nil)))))
theorem u7{f:FuncId}{α γ:Type}{A:AR α}{R:γ→CRes}{c:α→Option γ}(h:Lw E7 f A R c)(hr:∀x,Nat.ble (roots false (hp (A x).2) (A x).1).length (roots true (hp (A x).2) (A x).1).length=true):Lw E5 f A R c:=fun x z hx=>un7 (h x z hx) (hr x)
abbrev a_rliteralR:Type:=SR
abbrev g_rliteralR:Type:=Int×Int×ByteArray×SR
def A_rliteralR:AR a_rliteralR:=fun x=>([.ptr 0 0],(hHR x))
def R_rliteralR:g_rliteralR→CRes:=fun z=>.ret (.agg [i64 z.1,i64 z.2.1,st z.2.2.1,nilS]) (hHR z.2.2.2)
def t_rliteralR{β:Type}(c_rnumber:a_rnumber→Option g_rnumber)(c_known:a_known→Option g_known)(x:a_rliteralR)(dn:g_rliteralR→Option β):Option β:=
 (c_rnumber (0,2147483647,x)).bind fun z13=>if 0≤z13.2.1∧z13.2.1< ((z13.2.2.2.2.2.1:Nat):Int)then if(z13.2.2.2.1==0)=true then(c_known (z13.2.2.2.2.2.2.1 (Int.toNat z13.2.1),z13.2.2.2.2.2.2.2.1 (Int.toNat z13.2.1),z13.2.2.2.2.2.2.2.2.1 (Int.toNat z13.2.1),z13.2.2.2.2.2.2.2.2.2.1 (Int.toNat z13.2.1))).bind fun z18=>if z18=true then dn (15,z13.1,z13.2.2.2.2.2.2.2.2.1 (Int.toNat z13.2.1),w (z13.2.1+1),z13.2.2)else dn (15,z13.1,⟨#[]⟩,z13.2)else dn (15,z13.1,⟨#[]⟩,z13.2)else none
theorem n_rliteralR{β:Type}(c_rnumber c_known)(x)(dn:g_rliteralR→Option β):t_rliteralR c_rnumber c_known x dn=(t_rliteralR c_rnumber c_known x some).bind dn:=by
 unfold t_rliteralR
 repeat' first|exact n0|refine n1 fun _=>?_|refine n2 ?_ ?_|refine n3 (fun _=>?_) fun _=>?_|rfl
theorem r_rliteralR(c_rnumber c_known)(x):callK E5 (ftb 119 A_rnumber R_rnumber c_rnumber (ftb 65 A_known R_known c_known ca0)) lo0 120 (A_rliteralR x).1 (A_rliteralR x).2 K=t_rliteralR (vf A_rnumber c_rnumber) (vf A_known c_known) x (fun z=>some (.c (R_rliteralR z))):=by kernel_rfl
noncomputable def rliteralR(q:Nat)(x:a_rliteralR):Option g_rliteralR:=t_rliteralR (rnumber q) (known q) x some
theorem sc_rliteralR(q:Nat):Lw E5 120 A_rliteralR R_rliteralR (rliteralR q):=sof hW5 hX5 (fk (u7 (sc_rnumber q) fun _=>by kernel_rfl) (fk (u7 (sc_known q) fun _=>by kernel_rfl) ca0_sound)) (fun _=>lo0_sound) fun x=>(r_rliteralR (rnumber q) (known q) x).trans (by rw[v_rnumber,v_known,n_rliteralR]<;>rfl)
abbrev a_rliteral:Type:=SR
abbrev g_rliteral:Type:=Int×Int×ByteArray×Nat×FL×SR
def A_rliteral:AR a_rliteral:=fun x=>([.ptr 0 0],(hHR x))
def d_rliteral(t:TT):a_rliteral:=(dHR t.2)
theorem v_rliteral:VI A_rliteral:=vd d_rliteral fun _=>rfl
def R_rliteral:g_rliteral→CRes:=fun z=>.ret (.agg [i64 z.1,i64 z.2.1,st z.2.2.1,.ro 4 z.2.2.2.1 z.2.2.2.2.1]) (hHR z.2.2.2.2.2)
def cv_rliteral:g_rliteralR→g_rliteral:=fun z=>(z.1,z.2.1,z.2.2.1,0,fun _=>[],z.2.2.2)
theorem cvs_rliteral{args:List V}{L:List (Option Chunk)}(z:g_rliteralR)(h:SC E5 120 args L (R_rliteralR z)):SC E5 120 args L (R_rliteral (cv_rliteral z)):=by
 exact cy_z h
noncomputable def rliteral(q:Nat)(x:a_rliteral):Option g_rliteral:=(rliteralR q x).map cv_rliteral
theorem sc_rliteral(q:Nat):Lw E5 120 A_rliteral R_rliteral (rliteral q):=by
 intro x z h
 obtain⟨y,hy,rfl⟩:=Option.map_eq_some_iff.1 h
 exact cvs_rliteral y (sc_rliteralR q x y hy)
abbrev a_rexpr:Type:=Int×SR
abbrev g_rexpr:Type:=Int×Int×ByteArray×Nat×FL×SR
def A_rexpr:AR a_rexpr:=fun x=>([.ptr 0 0,i64 x.1],(hHR x.2))
def d_rexpr(t:TT):a_rexpr:=((vI (ag t 1)),dHR t.2)
theorem v_rexpr:VI A_rexpr:=vd d_rexpr fun _=>rfl
def R_rexpr:g_rexpr→CRes:=fun z=>.ret (.agg [i64 z.1,i64 z.2.1,st z.2.2.1,.ro 4 z.2.2.2.1 z.2.2.2.2.1]) (hHR z.2.2.2.2.2)
abbrev a_runary:Type:=ByteArray×Int×SR
abbrev g_runary:Type:=Int×Int×ByteArray×Nat×FL×SR
def A_runary:AR a_runary:=fun x=>([.ptr 0 0,st x.1,i64 x.2.1],(hHR x.2.2))
def d_runary(t:TT):a_runary:=((vS (ag t 1)),vI (ag t 2),dHR t.2)
theorem v_runary:VI A_runary:=vd d_runary fun _=>rfl
def R_runary:g_runary→CRes:=fun z=>.ret (.agg [i64 z.1,i64 z.2.1,st z.2.2.1,.ro 4 z.2.2.2.1 z.2.2.2.2.1]) (hHR z.2.2.2.2.2)
abbrev a_rprimary:Type:=SR
abbrev g_rprimary:Type:=Int×Int×ByteArray×Nat×FL×SR
def A_rprimary:AR a_rprimary:=fun x=>([.ptr 0 0],(hHR x))
def d_rprimary(t:TT):a_rprimary:=(dHR t.2)
theorem v_rprimary:VI A_rprimary:=vd d_rprimary fun _=>rfl
def R_rprimary:g_rprimary→CRes:=fun z=>.ret (.agg [i64 z.1,i64 z.2.1,st z.2.2.1,.ro 4 z.2.2.2.1 z.2.2.2.2.1]) (hHR z.2.2.2.2.2)
abbrev a_rexprR:Type:=Int×SR
abbrev g_rexprR:Type:=(Int×Int×ByteArray×Nat×FL×SR)⊕(Int×Int×ByteArray×SR)⊕(Int×Int×ByteArray×Int×Int×ByteArray×Nat×FL×Int×Int×ByteArray×Nat×FL×SR)
def A_rexprR:AR a_rexprR:=fun x=>([.ptr 0 0,i64 x.1],(hHR x.2))
def R_rexprR:g_rexprR→CRes:=Sum.elim (fun z:Int×Int×ByteArray×Nat×FL×SR=>.ret (.agg [i64 z.1,i64 z.2.1,st z.2.2.1,.ro 4 z.2.2.2.1 z.2.2.2.2.1]) (hHR z.2.2.2.2.2)) (Sum.elim (fun z:Int×Int×ByteArray×SR=>.ret (.agg [i64 z.1,i64 z.2.1,st z.2.2.1,nilS]) (hHR z.2.2.2)) (fun z:Int×Int×ByteArray×Int×Int×ByteArray×Nat×FL×Int×Int×ByteArray×Nat×FL×SR=>.ret (.agg [i64 z.1,i64 z.2.1,st z.2.2.1,.sl 2 4 0 2]) [some (.blk [.ro 4 z.2.2.2.2.2.2.2.2.2.2.2.2.2.2.2.2.2.1 (fun j=>[i64 (z.2.2.2.2.2.2.2.2.2.2.2.2.2.2.2.2.2.2.1 j),i64 (z.2.2.2.2.2.2.2.2.2.2.2.2.2.2.2.2.2.2.2.1 j),st (z.2.2.2.2.2.2.2.2.2.2.2.2.2.2.2.2.2.2.2.2.1 j),i64 (z.2.2.2.2.2.2.2.2.2.2.2.2.2.2.2.2.2.2.2.2.2.1 j)]),i64 z.2.2.2.2.2.2.2.2.2.2.2.2.2.1,i64 z.2.2.2.2.2.2.2.2.2.2.2.2.2.2.1,i64 z.2.2.2.2.2.2.2.2.2.2.2.2.2.2.2.1,i64 z.2.2.2.2.2.2.2.2.2.2.2.2.2.2.2.2.1,.sl 1 1 0 z.2.2.2.2.2.2.2.2.2.2.2.2.2.2.2.2.2.2.2.2.2.2.1]),some (.row 9 1 z.2.2.2.2.2.2.2.2.2.2.2.2.2.2.2.2.2.2.2.2.2.2.1 (fun j=>[st (z.2.2.2.2.2.2.2.2.2.2.2.2.2.2.2.2.2.2.2.2.2.2.2 j)])),some (.row 35 4 2 (selL [[i64 z.2.2.2.1,i64 z.2.2.2.2.1,st z.2.2.2.2.2.1,.ro 4 z.2.2.2.2.2.2.1 z.2.2.2.2.2.2.2.1],[i64 z.2.2.2.2.2.2.2.2.1,i64 z.2.2.2.2.2.2.2.2.2.1,st z.2.2.2.2.2.2.2.2.2.2.1,.ro 4 z.2.2.2.2.2.2.2.2.2.2.2.1 z.2.2.2.2.2.2.2.2.2.2.2.2.1]]))]))
abbrev a_runaryR:Type:=ByteArray×Int×SR
abbrev g_runaryR:Type:=Int×Int×ByteArray×Int×Int×ByteArray×Nat×FL×SR
def A_runaryR:AR a_runaryR:=fun x=>([.ptr 0 0,st x.1,i64 x.2.1],(hHR x.2.2))
def R_runaryR:g_runaryR→CRes:=fun z=>.ret (.agg [i64 z.1,i64 z.2.1,st z.2.2.1,.sl 2 4 0 1]) [some (.blk [.ro 4 z.2.2.2.2.2.2.2.2.2.2.2.2.1 (fun j=>[i64 (z.2.2.2.2.2.2.2.2.2.2.2.2.2.1 j),i64 (z.2.2.2.2.2.2.2.2.2.2.2.2.2.2.1 j),st (z.2.2.2.2.2.2.2.2.2.2.2.2.2.2.2.1 j),i64 (z.2.2.2.2.2.2.2.2.2.2.2.2.2.2.2.2.1 j)]),i64 z.2.2.2.2.2.2.2.2.1,i64 z.2.2.2.2.2.2.2.2.2.1,i64 z.2.2.2.2.2.2.2.2.2.2.1,i64 z.2.2.2.2.2.2.2.2.2.2.2.1,.sl 1 1 0 z.2.2.2.2.2.2.2.2.2.2.2.2.2.2.2.2.2.1]),some (.row 9 1 z.2.2.2.2.2.2.2.2.2.2.2.2.2.2.2.2.2.1 (fun j=>[st (z.2.2.2.2.2.2.2.2.2.2.2.2.2.2.2.2.2.2 j)])),some (.row 35 4 1 (selL [[i64 z.2.2.2.1,i64 z.2.2.2.2.1,st z.2.2.2.2.2.1,.ro 4 z.2.2.2.2.2.2.1 z.2.2.2.2.2.2.2.1]]))]
abbrev a_rprimaryR:Type:=SR
abbrev g_rprimaryR:Type:=(Int×Int×ByteArray×Nat×FL×SR)⊕(Int×Int×ByteArray×SR)
def A_rprimaryR:AR a_rprimaryR:=fun x=>([.ptr 0 0],(hHR x))
def R_rprimaryR:g_rprimaryR→CRes:=Sum.elim (fun z:Int×Int×ByteArray×Nat×FL×SR=>.ret (.agg [i64 z.1,i64 z.2.1,st z.2.2.1,.ro 4 z.2.2.2.1 z.2.2.2.2.1]) (hHR z.2.2.2.2.2)) (fun z:Int×Int×ByteArray×SR=>.ret (.agg [i64 z.1,i64 z.2.1,st z.2.2.1,nilS]) (hHR z.2.2.2))
abbrev rexprR_l0_a:Type:=(ByteArray×Nat×FI×FI×FS×FI×Int×Int×Int×Int×Nat×FS×Int×Int×ByteArray×Nat×FL)⊕(ByteArray×Nat×FI×FI×FS×FI×Int×Int×Int×Int×Nat×FS×ByteArray×Int×Int×ByteArray×Nat×FL×Int×Int×ByteArray×Nat×FL)
abbrev rexprR_l0_g:Type:=(Nat×FI×FI×FS×FI×Int×Int×Int×Int×Nat×FS×Int×Int×ByteArray×Nat×FL)⊕(Nat×FI×FI×FS×FI×Int×Int×Int×Int×Nat×FS×ByteArray×Int×Int×ByteArray×Nat×FL×Int×Int×ByteArray×Nat×FL)
def rexprR_l0_S0(x:a_rexprR)(y:ByteArray×Nat×FI×FI×FS×FI×Int×Int×Int×Int×Nat×FS×Int×Int×ByteArray×Nat×FL):St:={fr:=[V.ptr 0 0,i64 x.1,V.junk,V.junk,V.ptr 2 0,V.ptr 3 0,st y.1]++jk 45,H:=hp [some (hRB y.2),some (hRV y.2),some (Chunk.blk [i64 0,i64 0,st ⟨#[]⟩,nilS]),some (Chunk.blk [i64 y.2.2.2.2.2.2.2.2.2.2.2.2.1,i64 y.2.2.2.2.2.2.2.2.2.2.2.2.2.1,st y.2.2.2.2.2.2.2.2.2.2.2.2.2.2.1,V.ro 4 y.2.2.2.2.2.2.2.2.2.2.2.2.2.2.2.1 y.2.2.2.2.2.2.2.2.2.2.2.2.2.2.2.2])],nx:=4,rt:=1,me:=97}
def rexprR_l0_d0(s:St):ByteArray×Nat×FI×FI×FS×FI×Int×Int×Int×Int×Nat×FS×Int×Int×ByteArray×Nat×FL:=((vS (s.fr.getD 6 .junk)),vRoN (cb s 0 0),dTI (cb s 0 0) 0,dTI (cb s 0 0) 1,dTS (cb s 0 0) 2,dTI (cb s 0 0) 3,vI (cb s 0 1),vI (cb s 0 2),vI (cb s 0 3),vI (cb s 0 4),vSlN (cb s 0 5),dRS (s.H 1) 0,vI (cb s 3 0),vI (cb s 3 1),vS (cb s 3 2),vRoN (cb s 3 3),vRoF (cb s 3 3))
def rexprR_l0_S1(x:a_rexprR)(y:ByteArray×Nat×FI×FI×FS×FI×Int×Int×Int×Int×Nat×FS×ByteArray×Int×Int×ByteArray×Nat×FL×Int×Int×ByteArray×Nat×FL):St:={fr:=[V.ptr 0 0,i64 x.1,V.junk,V.junk,V.ptr 2 0,V.ptr 3 0,st y.1]++jk 45,H:=hp [some (hRB y.2),some (hRV y.2),some (Chunk.blk [i64 0,i64 0,st ⟨#[]⟩,nilS]),some (Chunk.blk [i64 20,i64 0,st y.2.2.2.2.2.2.2.2.2.2.2.2.1,V.sl 4 4 0 2]),some (Chunk.row 35 4 2 (selL [[i64 y.2.2.2.2.2.2.2.2.2.2.2.2.2.1,i64 y.2.2.2.2.2.2.2.2.2.2.2.2.2.2.1,st y.2.2.2.2.2.2.2.2.2.2.2.2.2.2.2.1,V.ro 4 y.2.2.2.2.2.2.2.2.2.2.2.2.2.2.2.2.1 y.2.2.2.2.2.2.2.2.2.2.2.2.2.2.2.2.2.1],[i64 y.2.2.2.2.2.2.2.2.2.2.2.2.2.2.2.2.2.2.1,i64 y.2.2.2.2.2.2.2.2.2.2.2.2.2.2.2.2.2.2.2.1,st y.2.2.2.2.2.2.2.2.2.2.2.2.2.2.2.2.2.2.2.2.1,V.ro 4 y.2.2.2.2.2.2.2.2.2.2.2.2.2.2.2.2.2.2.2.2.2.1 y.2.2.2.2.2.2.2.2.2.2.2.2.2.2.2.2.2.2.2.2.2.2]]))],nx:=5,rt:=1,me:=97}
def rexprR_l0_d1(s:St):ByteArray×Nat×FI×FI×FS×FI×Int×Int×Int×Int×Nat×FS×ByteArray×Int×Int×ByteArray×Nat×FL×Int×Int×ByteArray×Nat×FL:=((vS (s.fr.getD 6 .junk)),vRoN (cb s 0 0),dTI (cb s 0 0) 0,dTI (cb s 0 0) 1,dTS (cb s 0 0) 2,dTI (cb s 0 0) 3,vI (cb s 0 1),vI (cb s 0 2),vI (cb s 0 3),vI (cb s 0 4),vSlN (cb s 0 5),dRS (s.H 1) 0,vS (cb s 3 2),(vI (((chF (s.H 4)) 0).getD 0 .junk)),(vI (((chF (s.H 4)) 0).getD 1 .junk)),(vS (((chF (s.H 4)) 0).getD 2 .junk)),(vRoN (((chF (s.H 4)) 0).getD 3 .junk)),(vRoF (((chF (s.H 4)) 0).getD 3 .junk)),(vI (((chF (s.H 4)) 1).getD 0 .junk)),(vI (((chF (s.H 4)) 1).getD 1 .junk)),(vS (((chF (s.H 4)) 1).getD 2 .junk)),(vRoN (((chF (s.H 4)) 1).getD 3 .junk)),(vRoF (((chF (s.H 4)) 1).getD 3 .junk)))
def rexprR_l0_S(x:a_rexprR):rexprR_l0_a→St:=(Sum.elim (rexprR_l0_S0 x) (rexprR_l0_S1 x))
def rexprR_l0_d(s:St):rexprR_l0_a:=(match s.nx==4 with|true=>(.inl (rexprR_l0_d0 s)) |false=>(.inr (rexprR_l0_d1 s)))
theorem rexprR_l0_u(x:a_rexprR):VL (rexprR_l0_S x):=vl rexprR_l0_d (fun y=>by rcases y with y|y<;>rfl)
def rexprR_l0_T(x:a_rexprR):rexprR_l0_g→Ex×St:=(Sum.elim (fun z=>(Ex.exit 0,{fr:=jk 4++[V.ptr 2 0,V.ptr 3 0]++jk 46,H:=hp [some (hRB z),some (hRV z),some (Chunk.blk [i64 0,i64 0,st ⟨#[]⟩,nilS]),some (Chunk.blk [i64 z.2.2.2.2.2.2.2.2.2.2.2.1,i64 z.2.2.2.2.2.2.2.2.2.2.2.2.1,st z.2.2.2.2.2.2.2.2.2.2.2.2.2.1,V.ro 4 z.2.2.2.2.2.2.2.2.2.2.2.2.2.2.1 z.2.2.2.2.2.2.2.2.2.2.2.2.2.2.2])],nx:=4,rt:=1,me:=97})) (fun z=>(Ex.exit 0,{fr:=jk 4++[V.ptr 2 0,V.ptr 3 0]++jk 46,H:=hp [some (hRB z),some (hRV z),some (Chunk.blk [i64 0,i64 0,st ⟨#[]⟩,nilS]),some (Chunk.blk [i64 20,i64 0,st z.2.2.2.2.2.2.2.2.2.2.2.1,V.sl 4 4 0 2]),some (Chunk.row 35 4 2 (selL [[i64 z.2.2.2.2.2.2.2.2.2.2.2.2.1,i64 z.2.2.2.2.2.2.2.2.2.2.2.2.2.1,st z.2.2.2.2.2.2.2.2.2.2.2.2.2.2.1,V.ro 4 z.2.2.2.2.2.2.2.2.2.2.2.2.2.2.2.1 z.2.2.2.2.2.2.2.2.2.2.2.2.2.2.2.2.1],[i64 z.2.2.2.2.2.2.2.2.2.2.2.2.2.2.2.2.2.1,i64 z.2.2.2.2.2.2.2.2.2.2.2.2.2.2.2.2.2.2.1,st z.2.2.2.2.2.2.2.2.2.2.2.2.2.2.2.2.2.2.2.1,V.ro 4 z.2.2.2.2.2.2.2.2.2.2.2.2.2.2.2.2.2.2.2.2.1 z.2.2.2.2.2.2.2.2.2.2.2.2.2.2.2.2.2.2.2.2.2]]))],nx:=5,rt:=1,me:=97})))
def rexprR_l0_t0{β:Type}(c_ris:a_ris→Option g_ris)(c_runary:a_runary→Option g_runary)(c_rexpr:a_rexpr→Option g_rexpr)(c_rprimary:a_rprimary→Option g_rprimary)(c_operator:a_operator→Option g_operator)(x:a_rexprR)(y:ByteArray×Nat×FI×FI×FS×FI×Int×Int×Int×Int×Nat×FS×Int×Int×ByteArray×Nat×FL)(nx:rexprR_l0_a→Option β)(dn:rexprR_l0_g→Option β):Option β:=
 if(!y.1.toList==ByteArray.toList ⟨#[]⟩)=true then(c_rexpr (w (x.1+1),y.2.2.2.2.2.2.1,y.2.2.2.2.2.2.2.1,y.2.2.2.2.2.2.2.2.1,y.2.2.2.2.2.2.2.2.2.1,y.2.1,y.2.2.1,y.2.2.2.1,y.2.2.2.2.1,y.2.2.2.2.2.1,y.2.2.2.2.2.2.2.2.2.2.1,y.2.2.2.2.2.2.2.2.2.2.2.1)).bind fun z609=>if(x.1 !=4)=true then(c_operator (x.1,z609.2.2.2.2.2)).bind fun z622=>nx (.inr (z622.1,z622.2.2.2.2.2.1,z622.2.2.2.2.2.2.1,z622.2.2.2.2.2.2.2.1,z622.2.2.2.2.2.2.2.2.1,z622.2.2.2.2.2.2.2.2.2.1,z622.2.1,z622.2.2.1,z622.2.2.2.1,z622.2.2.2.2.1,z622.2.2.2.2.2.2.2.2.2.2.1,z622.2.2.2.2.2.2.2.2.2.2.2,y.1,y.2.2.2.2.2.2.2.2.2.2.2.2.1,y.2.2.2.2.2.2.2.2.2.2.2.2.2.1,y.2.2.2.2.2.2.2.2.2.2.2.2.2.2.1,y.2.2.2.2.2.2.2.2.2.2.2.2.2.2.2.1,y.2.2.2.2.2.2.2.2.2.2.2.2.2.2.2.2,z609.1,z609.2.1,z609.2.2.1,z609.2.2.2.1,z609.2.2.2.2.1))else nx (.inr (⟨#[]⟩,z609.2.2.2.2.2.2.2.2.2.1,z609.2.2.2.2.2.2.2.2.2.2.1,z609.2.2.2.2.2.2.2.2.2.2.2.1,z609.2.2.2.2.2.2.2.2.2.2.2.2.1,z609.2.2.2.2.2.2.2.2.2.2.2.2.2.1,z609.2.2.2.2.2.1,z609.2.2.2.2.2.2.1,z609.2.2.2.2.2.2.2.1,z609.2.2.2.2.2.2.2.2.1,z609.2.2.2.2.2.2.2.2.2.2.2.2.2.2.1,z609.2.2.2.2.2.2.2.2.2.2.2.2.2.2.2,y.1,y.2.2.2.2.2.2.2.2.2.2.2.2.1,y.2.2.2.2.2.2.2.2.2.2.2.2.2.1,y.2.2.2.2.2.2.2.2.2.2.2.2.2.2.1,y.2.2.2.2.2.2.2.2.2.2.2.2.2.2.2.1,y.2.2.2.2.2.2.2.2.2.2.2.2.2.2.2.2,z609.1,z609.2.1,z609.2.2.1,z609.2.2.2.1,z609.2.2.2.2.1))else dn (.inl y.2)
theorem rexprR_l0_n0{β:Type}(c_ris c_runary)(c_rexpr c_rprimary c_operator)(x)(y)(nx:rexprR_l0_a→Option β)(dn):rexprR_l0_t0 c_ris c_runary c_rexpr c_rprimary c_operator x y nx dn=(rexprR_l0_t0 c_ris c_runary c_rexpr c_rprimary c_operator x y (fun y=>some (.inl y)) (fun z=>some (.inr z))).bind fun r=>Sum.elim nx dn r:=by
 unfold rexprR_l0_t0
 repeat' first|exact n0|refine n1 fun _=>?_|refine n2 ?_ ?_|refine n3 (fun _=>?_) fun _=>?_|rfl
theorem rexprR_l0_r0(c_ris c_runary)(c_rexpr c_rprimary c_operator)(x)(y)(lo:LoopT):loopK E5 (ftb 64 A_ris R_ris c_ris (ftb 122 A_runary R_runary c_runary (ftb 97 A_rexpr R_rexpr c_rexpr (ftb 123 A_rprimary R_rprimary c_rprimary (ftb 124 A_operator R_operator c_operator ca0))))) lo 0 115 (bodyOf E5 97 0) (rexprR_l0_S x (.inl y)) (KCM [(0,48)] 16)=rexprR_l0_t0 (vf A_ris c_ris) (vf A_runary c_runary) (vf A_rexpr c_rexpr) (vf A_rprimary c_rprimary) (vf A_operator c_operator) x y (fun y=>lo 0 115 (bodyOf E5 97 0) (rexprR_l0_S x y) (KCM [(0,48)] 16)) (fun z=>some (.l (rexprR_l0_T x z).1 (rexprR_l0_T x z).2)):=by kernel_rfl
def rexprR_l0_t1{β:Type}(c_ris:a_ris→Option g_ris)(c_runary:a_runary→Option g_runary)(c_rexpr:a_rexpr→Option g_rexpr)(c_rprimary:a_rprimary→Option g_rprimary)(c_operator:a_operator→Option g_operator)(x:a_rexprR)(y:ByteArray×Nat×FI×FI×FS×FI×Int×Int×Int×Int×Nat×FS×ByteArray×Int×Int×ByteArray×Nat×FL×Int×Int×ByteArray×Nat×FL)(nx:rexprR_l0_a→Option β)(dn:rexprR_l0_g→Option β):Option β:=
 if(!y.1.toList==ByteArray.toList ⟨#[]⟩)=true then(c_rexpr (w (x.1+1),y.2.2.2.2.2.2.1,y.2.2.2.2.2.2.2.1,y.2.2.2.2.2.2.2.2.1,y.2.2.2.2.2.2.2.2.2.1,y.2.1,y.2.2.1,y.2.2.2.1,y.2.2.2.2.1,y.2.2.2.2.2.1,y.2.2.2.2.2.2.2.2.2.2.1,y.2.2.2.2.2.2.2.2.2.2.2.1)).bind fun z636=>if(x.1 !=4)=true then(c_operator (x.1,z636.2.2.2.2.2)).bind fun z649=>nx (.inr (z649.1,z649.2.2.2.2.2.1,z649.2.2.2.2.2.2.1,z649.2.2.2.2.2.2.2.1,z649.2.2.2.2.2.2.2.2.1,z649.2.2.2.2.2.2.2.2.2.1,z649.2.1,z649.2.2.1,z649.2.2.2.1,z649.2.2.2.2.1,z649.2.2.2.2.2.2.2.2.2.2.1,z649.2.2.2.2.2.2.2.2.2.2.2,y.1,20,0,y.2.2.2.2.2.2.2.2.2.2.2.2.1,2,fun j=>[i64 (if 0+j=0 then y.2.2.2.2.2.2.2.2.2.2.2.2.2.1 else y.2.2.2.2.2.2.2.2.2.2.2.2.2.2.2.2.2.2.1),i64 (if 0+j=0 then y.2.2.2.2.2.2.2.2.2.2.2.2.2.2.1 else y.2.2.2.2.2.2.2.2.2.2.2.2.2.2.2.2.2.2.2.1),st (if 0+j=0 then y.2.2.2.2.2.2.2.2.2.2.2.2.2.2.2.1 else y.2.2.2.2.2.2.2.2.2.2.2.2.2.2.2.2.2.2.2.2.1),V.ro 4 (if 0+j=0 then y.2.2.2.2.2.2.2.2.2.2.2.2.2.2.2.2.1 else y.2.2.2.2.2.2.2.2.2.2.2.2.2.2.2.2.2.2.2.2.2.1) fun j_1=>if 0+j=0 then y.2.2.2.2.2.2.2.2.2.2.2.2.2.2.2.2.2.1 j_1 else y.2.2.2.2.2.2.2.2.2.2.2.2.2.2.2.2.2.2.2.2.2.2 j_1],z636.1,z636.2.1,z636.2.2.1,z636.2.2.2.1,z636.2.2.2.2.1))else nx (.inr (⟨#[]⟩,z636.2.2.2.2.2.2.2.2.2.1,z636.2.2.2.2.2.2.2.2.2.2.1,z636.2.2.2.2.2.2.2.2.2.2.2.1,z636.2.2.2.2.2.2.2.2.2.2.2.2.1,z636.2.2.2.2.2.2.2.2.2.2.2.2.2.1,z636.2.2.2.2.2.1,z636.2.2.2.2.2.2.1,z636.2.2.2.2.2.2.2.1,z636.2.2.2.2.2.2.2.2.1,z636.2.2.2.2.2.2.2.2.2.2.2.2.2.2.1,z636.2.2.2.2.2.2.2.2.2.2.2.2.2.2.2,y.1,20,0,y.2.2.2.2.2.2.2.2.2.2.2.2.1,2,fun j=>[i64 (if 0+j=0 then y.2.2.2.2.2.2.2.2.2.2.2.2.2.1 else y.2.2.2.2.2.2.2.2.2.2.2.2.2.2.2.2.2.2.1),i64 (if 0+j=0 then y.2.2.2.2.2.2.2.2.2.2.2.2.2.2.1 else y.2.2.2.2.2.2.2.2.2.2.2.2.2.2.2.2.2.2.2.1),st (if 0+j=0 then y.2.2.2.2.2.2.2.2.2.2.2.2.2.2.2.1 else y.2.2.2.2.2.2.2.2.2.2.2.2.2.2.2.2.2.2.2.2.1),V.ro 4 (if 0+j=0 then y.2.2.2.2.2.2.2.2.2.2.2.2.2.2.2.2.1 else y.2.2.2.2.2.2.2.2.2.2.2.2.2.2.2.2.2.2.2.2.2.1) fun j_1=>if 0+j=0 then y.2.2.2.2.2.2.2.2.2.2.2.2.2.2.2.2.2.1 j_1 else y.2.2.2.2.2.2.2.2.2.2.2.2.2.2.2.2.2.2.2.2.2.2 j_1],z636.1,z636.2.1,z636.2.2.1,z636.2.2.2.1,z636.2.2.2.2.1))else dn (.inr y.2)
theorem rexprR_l0_n1{β:Type}(c_ris c_runary)(c_rexpr c_rprimary c_operator)(x)(y)(nx:rexprR_l0_a→Option β)(dn):rexprR_l0_t1 c_ris c_runary c_rexpr c_rprimary c_operator x y nx dn=(rexprR_l0_t1 c_ris c_runary c_rexpr c_rprimary c_operator x y (fun y=>some (.inl y)) (fun z=>some (.inr z))).bind fun r=>Sum.elim nx dn r:=by
 unfold rexprR_l0_t1
 repeat' first|exact n0|refine n1 fun _=>?_|refine n2 ?_ ?_|refine n3 (fun _=>?_) fun _=>?_|rfl
theorem rexprR_l0_r1(c_ris c_runary)(c_rexpr c_rprimary c_operator)(x)(y)(lo:LoopT):loopK E5 (ftb 64 A_ris R_ris c_ris (ftb 122 A_runary R_runary c_runary (ftb 97 A_rexpr R_rexpr c_rexpr (ftb 123 A_rprimary R_rprimary c_rprimary (ftb 124 A_operator R_operator c_operator ca0))))) lo 0 115 (bodyOf E5 97 0) (rexprR_l0_S x (.inr y)) (KCM [(0,48)] 16)=rexprR_l0_t1 (vf A_ris c_ris) (vf A_runary c_runary) (vf A_rexpr c_rexpr) (vf A_rprimary c_rprimary) (vf A_operator c_operator) x y (fun y=>lo 0 115 (bodyOf E5 97 0) (rexprR_l0_S x y) (KCM [(0,48)] 16)) (fun z=>some (.l (rexprR_l0_T x z).1 (rexprR_l0_T x z).2)):=by kernel_rfl
noncomputable def rexprR_l0(c_ris:a_ris→Option g_ris)(c_runary:a_runary→Option g_runary)(c_rexpr:a_rexpr→Option g_rexpr)(c_rprimary:a_rprimary→Option g_rprimary)(c_operator:a_operator→Option g_operator)(q:Nat)(x:a_rexprR):rexprR_l0_a→Option rexprR_l0_g:=lpG (Sum.elim (fun y=>rexprR_l0_t0 c_ris c_runary c_rexpr c_rprimary c_operator x y (fun y=>some (.inl y)) (fun z=>some (.inr z))) (fun y=>rexprR_l0_t1 c_ris c_runary c_rexpr c_rprimary c_operator x y (fun y=>some (.inl y)) (fun z=>some (.inr z)))) q
theorem rexprR_l0_s(c_ris)(h_ris:Lw E5 64 A_ris R_ris c_ris)(c_runary)(h_runary:Lw E5 122 A_runary R_runary c_runary)(c_rexpr)(h_rexpr:Lw E5 97 A_rexpr R_rexpr c_rexpr)(c_rprimary)(h_rprimary:Lw E5 123 A_rprimary R_rprimary c_rprimary)(c_operator)(h_operator:Lw E5 124 A_operator R_operator c_operator)(q:Nat)(x:a_rexprR):Ll E5 (bodyOf E5 97 0) (rexprR_l0_S x) (rexprR_l0_T x) (rexprR_l0 c_ris c_runary c_rexpr c_rprimary c_operator q x):=
 slp (fk h_ris (fk h_runary (fk h_rexpr (fk h_rprimary (fk h_operator ca0_sound))))) hX5 (fun lo y=>by
  rcases y with y|y
  ·exact(rexprR_l0_r0 c_ris c_runary c_rexpr c_rprimary c_operator x y lo).trans (by rw[v_ris,v_runary,v_rexpr,v_rprimary,v_operator];exact rexprR_l0_n0 _ _ _ _ _ _ _ _ _)
  ·exact(rexprR_l0_r1 c_ris c_runary c_rexpr c_rprimary c_operator x y lo).trans (by rw[v_ris,v_runary,v_rexpr,v_rprimary,v_operator];exact rexprR_l0_n1 _ _ _ _ _ _ _ _ _)) (fun z=>by rcases z with z|z<;>kernel_rfl) q
def t_rexprR{β:Type}(c_ris:a_ris→Option g_ris)(c_runary:a_runary→Option g_runary)(c_rexpr:a_rexpr→Option g_rexpr)(c_rprimary:a_rprimary→Option g_rprimary)(c_operator:a_operator→Option g_operator)(l_rexprR_l0:rexprR_l0_a→Option rexprR_l0_g)(x:a_rexprR)(dn:g_rexprR→Option β):Option β:=
 if(x.2.2.2.1 !=0)=true then dn (.inr (.inl (0,0,⟨#[]⟩,x.2)))else if(x.1==3)=true then(c_ris (⟨#[33]⟩,x.2)).bind fun z12=>if z12.1=true then(c_runary (⟨#[33]⟩,3,z12.2)).bind fun z26=>dn (.inl z26)else(c_rexpr (4,z12.2)).bind fun z39=>dn (.inl z39)else if(x.1==7)=true then(c_ris (⟨#[45]⟩,x.2)).bind fun z52=>if z52.1=true then(c_runary (⟨#[45]⟩,7,z52.2)).bind fun z66=>dn (.inl z66)else(c_rprimary z52.2).bind fun z78=>dn (.inl z78)else(c_rexpr (w (x.1+1),x.2)).bind fun z91=>(c_operator (x.1,z91.2.2.2.2.2)).bind fun z104=>(l_rexprR_l0 (.inl (z104.1,z104.2.2.2.2.2.1,z104.2.2.2.2.2.2.1,z104.2.2.2.2.2.2.2.1,z104.2.2.2.2.2.2.2.2.1,z104.2.2.2.2.2.2.2.2.2.1,z104.2.1,z104.2.2.1,z104.2.2.2.1,z104.2.2.2.2.1,z104.2.2.2.2.2.2.2.2.2.2.1,z104.2.2.2.2.2.2.2.2.2.2.2,z91.1,z91.2.1,z91.2.2.1,z91.2.2.2.1,z91.2.2.2.2.1))).bind fun z528=>Sum.elim (fun z528a=>dn (.inl (z528a.2.2.2.2.2.2.2.2.2.2.2.1,z528a.2.2.2.2.2.2.2.2.2.2.2.2.1,z528a.2.2.2.2.2.2.2.2.2.2.2.2.2.1,z528a.2.2.2.2.2.2.2.2.2.2.2.2.2.2.1,z528a.2.2.2.2.2.2.2.2.2.2.2.2.2.2.2,z528a.2.2.2.2.2.1,z528a.2.2.2.2.2.2.1,z528a.2.2.2.2.2.2.2.1,z528a.2.2.2.2.2.2.2.2.1,z528a.1,z528a.2.1,z528a.2.2.1,z528a.2.2.2.1,z528a.2.2.2.2.1,z528a.2.2.2.2.2.2.2.2.2.1,z528a.2.2.2.2.2.2.2.2.2.2.1))) (fun z528b=>dn (.inr (.inr (20,0,z528b.2.2.2.2.2.2.2.2.2.2.2.1,z528b.2.2.2.2.2.2.2.2.2.2.2.2.1,z528b.2.2.2.2.2.2.2.2.2.2.2.2.2.1,z528b.2.2.2.2.2.2.2.2.2.2.2.2.2.2.1,z528b.2.2.2.2.2.2.2.2.2.2.2.2.2.2.2.1,z528b.2.2.2.2.2.2.2.2.2.2.2.2.2.2.2.2.1,z528b.2.2.2.2.2.2.2.2.2.2.2.2.2.2.2.2.2.1,z528b.2.2.2.2.2.2.2.2.2.2.2.2.2.2.2.2.2.2.1,z528b.2.2.2.2.2.2.2.2.2.2.2.2.2.2.2.2.2.2.2.1,z528b.2.2.2.2.2.2.2.2.2.2.2.2.2.2.2.2.2.2.2.2.1,z528b.2.2.2.2.2.2.2.2.2.2.2.2.2.2.2.2.2.2.2.2.2,z528b.2.2.2.2.2.1,z528b.2.2.2.2.2.2.1,z528b.2.2.2.2.2.2.2.1,z528b.2.2.2.2.2.2.2.2.1,z528b.1,z528b.2.1,z528b.2.2.1,z528b.2.2.2.1,z528b.2.2.2.2.1,z528b.2.2.2.2.2.2.2.2.2.1,z528b.2.2.2.2.2.2.2.2.2.2.1)))) z528
theorem n_rexprR{β:Type}(c_ris c_runary)(c_rexpr c_rprimary c_operator)(l_rexprR_l0)(x)(dn:g_rexprR→Option β):t_rexprR c_ris c_runary c_rexpr c_rprimary c_operator l_rexprR_l0 x dn=(t_rexprR c_ris c_runary c_rexpr c_rprimary c_operator l_rexprR_l0 x some).bind dn:=by
 unfold t_rexprR
 repeat' first|exact n0|refine n1 fun _=>?_|refine n2 ?_ ?_|refine n3 (fun _=>?_) fun _=>?_|rfl
theorem r_rexprR(c_ris c_runary)(c_rexpr c_rprimary c_operator)(l_rexprR_l0)(x):callK E5 (ftb 64 A_ris R_ris c_ris (ftb 122 A_runary R_runary c_runary (ftb 97 A_rexpr R_rexpr c_rexpr (ftb 123 A_rprimary R_rprimary c_rprimary (ftb 124 A_operator R_operator c_operator ca0))))) (lt2 0 (fun _=>true) (bodyOf E5 97 0) (rexprR_l0_S x) (rexprR_l0_T x) l_rexprR_l0 lo0) 97 (A_rexprR x).1 (A_rexprR x).2 K=t_rexprR (vf A_ris c_ris) (vf A_runary c_runary) (vf A_rexpr c_rexpr) (vf A_rprimary c_rprimary) (vf A_operator c_operator) (lf (bodyOf E5 97 0) (rexprR_l0_S x) l_rexprR_l0) x (fun z=>some (.c (R_rexprR z))):=by kernel_rfl
theorem s_rexprR(c_ris)(h_ris:Lw E5 64 A_ris R_ris c_ris)(c_runary)(h_runary:Lw E5 122 A_runary R_runary c_runary)(c_rexpr)(h_rexpr:Lw E5 97 A_rexpr R_rexpr c_rexpr)(c_rprimary)(h_rprimary:Lw E5 123 A_rprimary R_rprimary c_rprimary)(c_operator)(h_operator:Lw E5 124 A_operator R_operator c_operator)(q:Nat):Lw E5 97 A_rexprR R_rexprR fun x=>t_rexprR c_ris c_runary c_rexpr c_rprimary c_operator (rexprR_l0 c_ris c_runary c_rexpr c_rprimary c_operator q x) x some:=sof hW5 hX5 (fk h_ris (fk h_runary (fk h_rexpr (fk h_rprimary (fk h_operator ca0_sound))))) (fun x=>(lk2 (rexprR_l0_s c_ris h_ris c_runary h_runary c_rexpr h_rexpr c_rprimary h_rprimary c_operator h_operator q x) lo0_sound)) fun x=>(r_rexprR c_ris c_runary c_rexpr c_rprimary c_operator (rexprR_l0 c_ris c_runary c_rexpr c_rprimary c_operator q x) x).trans (by rw[v_ris,v_runary,v_rexpr,v_rprimary,v_operator,rexprR_l0_u,n_rexprR]<;>rfl)
def t_runaryR{β:Type}(c_ropens:a_ropens→Option g_ropens)(c_rexpr:a_rexpr→Option g_rexpr)(x:a_runaryR)(dn:g_runaryR→Option β):Option β:=
 (c_ropens (x.1,x.2.2)).bind fun z12=>(c_rexpr (x.2.1,z12)).bind fun z25=>dn (19,0,x.1,z25.1,z25.2.1,z25.2.2.1,z25.2.2.2.1,z25.2.2.2.2.1,z25.2.2.2.2.2.1,w (z25.2.2.2.2.2.2.1-1),z25.2.2.2.2.2.2.2)
theorem n_runaryR{β:Type}(c_ropens c_rexpr)(x)(dn:g_runaryR→Option β):t_runaryR c_ropens c_rexpr x dn=(t_runaryR c_ropens c_rexpr x some).bind dn:=by
 unfold t_runaryR
 repeat' first|exact n0|refine n1 fun _=>?_|refine n2 ?_ ?_|refine n3 (fun _=>?_) fun _=>?_|rfl
theorem r_runaryR(c_ropens c_rexpr)(x):callK E5 (ftb 66 A_ropens R_ropens c_ropens (ftb 97 A_rexpr R_rexpr c_rexpr ca0)) lo0 122 (A_runaryR x).1 (A_runaryR x).2 K=t_runaryR (vf A_ropens c_ropens) (vf A_rexpr c_rexpr) x (fun z=>some (.c (R_runaryR z))):=by kernel_rfl
theorem s_runaryR(c_ropens)(h_ropens:Lw E5 66 A_ropens R_ropens c_ropens)(c_rexpr)(h_rexpr:Lw E5 97 A_rexpr R_rexpr c_rexpr)(q:Nat):Lw E5 122 A_runaryR R_runaryR fun x=>t_runaryR c_ropens c_rexpr x some:=sof hW5 hX5 (fk h_ropens (fk h_rexpr ca0_sound)) (fun _=>lo0_sound) fun x=>(r_runaryR c_ropens c_rexpr x).trans (by rw[v_ropens,v_rexpr,n_runaryR]<;>rfl)
def t_rprimaryR{β:Type}(c_rliteral:a_rliteral→Option g_rliteral)(c_rtake:a_rtake→Option g_rtake)(c_rmust:a_rmust→Option g_rmust)(c_rnameZ:a_rnameZ→Option g_rnameZ)(c_ris:a_ris→Option g_ris)(c_ropens:a_ropens→Option g_ropens)(c_rexpr:a_rexpr→Option g_rexpr)(x:a_rprimaryR)(dn:g_rprimaryR→Option β):Option β:=
 if 0≤x.1∧x.1< ((x.2.2.2.2.1:Nat):Int)then if(x.2.2.2.2.2.1 (Int.toNat x.1)==2)=true then(c_rliteral x).bind fun z11=>dn (.inl z11)else(c_rtake (⟨#[116,114,117,101]⟩,x)).bind fun z24=>if z24.1=true then dn (.inr (16,1,⟨#[]⟩,z24.2))else(c_rtake (⟨#[102,97,108,115,101]⟩,z24.2)).bind fun z37=>if z37.1=true then dn (.inr (16,0,⟨#[]⟩,z37.2))else(c_rtake (⟨#[116,108,109]⟩,z37.2)).bind fun z50=>if z50.1=true then(c_rmust (⟨#[46]⟩,z50.2)).bind fun z63=>(c_rnameZ (1,z63)).bind fun z76=>dn (.inr (18,0,z76))else(c_ris (⟨#[40]⟩,z50.2)).bind fun z89=>if z89.1=true then(c_ropens (⟨#[40]⟩,z89.2)).bind fun z102=>(c_rexpr (1,z102)).bind fun z115=>(c_rmust (⟨#[41]⟩,z115.2.2.2.2.2)).bind fun z128=>dn (.inl (z115.1,z115.2.1,z115.2.2.1,z115.2.2.2.1,z115.2.2.2.2.1,z128.1,w (z128.2.1-1),z128.2.2))else(c_rnameZ (1,z89.2)).bind fun z141=>dn (.inr (17,0,z141))else none
theorem n_rprimaryR{β:Type}(c_rliteral c_rtake)(c_rmust c_rnameZ)(c_ris c_ropens c_rexpr)(x)(dn:g_rprimaryR→Option β):t_rprimaryR c_rliteral c_rtake c_rmust c_rnameZ c_ris c_ropens c_rexpr x dn=(t_rprimaryR c_rliteral c_rtake c_rmust c_rnameZ c_ris c_ropens c_rexpr x some).bind dn:=by
 unfold t_rprimaryR
 repeat' first|exact n0|refine n1 fun _=>?_|refine n2 ?_ ?_|refine n3 (fun _=>?_) fun _=>?_|rfl
theorem r_rprimaryR(c_rliteral c_rtake)(c_rmust c_rnameZ)(c_ris c_ropens c_rexpr)(x):callK E5 (ftb 120 A_rliteral R_rliteral c_rliteral (ftb 60 A_rtake R_rtake c_rtake (ftb 25 A_rmust R_rmust c_rmust (ftg 26 (fun a L=>isNilV (a.getD 1 .junk)) A_rnameZ R_rnameZ c_rnameZ (ftb 64 A_ris R_ris c_ris (ftb 66 A_ropens R_ropens c_ropens (ftb 97 A_rexpr R_rexpr c_rexpr ca0))))))) lo0 123 (A_rprimaryR x).1 (A_rprimaryR x).2 K=t_rprimaryR (vf A_rliteral c_rliteral) (vf A_rtake c_rtake) (vf A_rmust c_rmust) (vf A_rnameZ c_rnameZ) (vf A_ris c_ris) (vf A_ropens c_ropens) (vf A_rexpr c_rexpr) x (fun z=>some (.c (R_rprimaryR z))):=by kernel_rfl
theorem s_rprimaryR(c_rliteral)(h_rliteral:Lw E5 120 A_rliteral R_rliteral c_rliteral)(c_rtake)(h_rtake:Lw E5 60 A_rtake R_rtake c_rtake)(c_rmust)(h_rmust:Lw E5 25 A_rmust R_rmust c_rmust)(c_rnameZ)(h_rnameZ:Lw E5 26 A_rnameZ R_rnameZ c_rnameZ)(c_ris)(h_ris:Lw E5 64 A_ris R_ris c_ris)(c_ropens)(h_ropens:Lw E5 66 A_ropens R_ropens c_ropens)(c_rexpr)(h_rexpr:Lw E5 97 A_rexpr R_rexpr c_rexpr)(q:Nat):Lw E5 123 A_rprimaryR R_rprimaryR fun x=>t_rprimaryR c_rliteral c_rtake c_rmust c_rnameZ c_ris c_ropens c_rexpr x some:=sof hW5 hX5 (fk h_rliteral (fk h_rtake (fk h_rmust (fk h_rnameZ (fk h_ris (fk h_ropens (fk h_rexpr ca0_sound))))))) (fun _=>lo0_sound) fun x=>(r_rprimaryR c_rliteral c_rtake c_rmust c_rnameZ c_ris c_ropens c_rexpr x).trans (by rw[v_rliteral,v_rtake,v_rmust,v_rnameZ,v_ris,v_ropens,v_rexpr,n_rprimaryR]<;>rfl)
def cv_rexpr:g_rexprR→g_rexpr:=Sum.elim (fun z=>z) (Sum.elim (fun z=>(z.1,z.2.1,z.2.2.1,0,fun _=>[],z.2.2.2)) (fun z=>(z.1,z.2.1,z.2.2.1,2,selL [[i64 z.2.2.2.1,i64 z.2.2.2.2.1,st z.2.2.2.2.2.1,.ro 4 z.2.2.2.2.2.2.1 z.2.2.2.2.2.2.2.1],[i64 z.2.2.2.2.2.2.2.2.1,i64 z.2.2.2.2.2.2.2.2.2.1,st z.2.2.2.2.2.2.2.2.2.2.1,.ro 4 z.2.2.2.2.2.2.2.2.2.2.2.1 z.2.2.2.2.2.2.2.2.2.2.2.2.1]],z.2.2.2.2.2.2.2.2.2.2.2.2.2)))
theorem cvs_rexpr{args:List V}{L:List (Option Chunk)}(z:g_rexprR)(h:SC E5 97 args L (R_rexprR z)):SC E5 97 args L (R_rexpr (cv_rexpr z)):=by
 rcases z with z|z|z
 ·exact h
 ·exact cy_z h
 ·exact cy_k h
def cv_runary:g_runaryR→g_runary:=fun z=>(z.1,z.2.1,z.2.2.1,1,selL [[i64 z.2.2.2.1,i64 z.2.2.2.2.1,st z.2.2.2.2.2.1,.ro 4 z.2.2.2.2.2.2.1 z.2.2.2.2.2.2.2.1]],z.2.2.2.2.2.2.2.2)
theorem cvs_runary{args:List V}{L:List (Option Chunk)}(z:g_runaryR)(h:SC E5 122 args L (R_runaryR z)):SC E5 122 args L (R_runary (cv_runary z)):=by
 exact cy_k h
def cv_rprimary:g_rprimaryR→g_rprimary:=Sum.elim (fun z=>z) (fun z=>(z.1,z.2.1,z.2.2.1,0,fun _=>[],z.2.2.2))
theorem cvs_rprimary{args:List V}{L:List (Option Chunk)}(z:g_rprimaryR)(h:SC E5 123 args L (R_rprimaryR z)):SC E5 123 args L (R_rprimary (cv_rprimary z)):=by
 rcases z with z|z
 ·exact h
 ·exact cy_z h
noncomputable def rexS:Nat→(a_rexpr→Option g_rexpr)×(a_runary→Option g_runary)×(a_rprimary→Option g_rprimary)
 |0=>(fun _=>none,fun _=>none,fun _=>none)
 |q+1=>(fun x=>(t_rexprR ((ris q)) ((rexS q).2.1) ((rexS q).1) ((rexS q).2.2) ((operator q)) (rexprR_l0 ((ris q)) ((rexS q).2.1) ((rexS q).1) ((rexS q).2.2) ((operator q)) q x) x some).map cv_rexpr,
  fun x=>(t_runaryR ((ropens q)) ((rexS q).1) x some).map cv_runary,
  fun x=>(t_rprimaryR ((rliteral q)) ((rtake q)) ((rmust q)) ((rnameZ q)) ((ris q)) ((ropens q)) ((rexS q).1) x some).map cv_rprimary)
theorem rexS_sc:∀q,(∀x z,(rexS q).1 x=some z→SC E5 97 (A_rexpr x).1 (A_rexpr x).2 (R_rexpr z))∧(∀x z,(rexS q).2.1 x=some z→SC E5 122 (A_runary x).1 (A_runary x).2 (R_runary z))∧(∀x z,(rexS q).2.2 x=some z→SC E5 123 (A_rprimary x).1 (A_rprimary x).2 (R_rprimary z))
 |0=>⟨(fun x z h=>by cases h),(fun x z h=>by cases h),(fun x z h=>by cases h)⟩
 |q+1=>by
  obtain⟨h0,h1,h2⟩:=rexS_sc q
  exact⟨(fun x z h=>by
   obtain⟨y,hy,rfl⟩:=Option.map_eq_some_iff.1 h
   exact cvs_rexpr y (s_rexprR ((ris q)) (u7 (sc_ris q) fun _=>by kernel_rfl) ((rexS q).2.1) (h1) ((rexS q).1) (h0) ((rexS q).2.2) (h2) ((operator q)) (u7 (sc_operator q) fun _=>by kernel_rfl) q x y hy)),(fun x z h=>by
   obtain⟨y,hy,rfl⟩:=Option.map_eq_some_iff.1 h
   exact cvs_runary y (s_runaryR ((ropens q)) (u7 (sc_ropens q) fun _=>by kernel_rfl) ((rexS q).1) (h0) q x y hy)),(fun x z h=>by
   obtain⟨y,hy,rfl⟩:=Option.map_eq_some_iff.1 h
   exact cvs_rprimary y (s_rprimaryR ((rliteral q)) ((sc_rliteral q)) ((rtake q)) (u7 (sc_rtake q) fun _=>by kernel_rfl) ((rmust q)) (u7 (sc_rmust q) fun _=>by kernel_rfl) ((rnameZ q)) (u7 (sc_rnameZ q) fun _=>by kernel_rfl) ((ris q)) (u7 (sc_ris q) fun _=>by kernel_rfl) ((ropens q)) (u7 (sc_ropens q) fun _=>by kernel_rfl) ((rexS q).1) (h0) q x y hy))⟩
noncomputable def rexpr(q:Nat):a_rexpr→Option g_rexpr:=(rexS q).1
theorem sc_rexpr(q:Nat):Lw E5 97 A_rexpr R_rexpr (rexpr q):=(rexS_sc q).1
noncomputable def runary(q:Nat):a_runary→Option g_runary:=(rexS q).2.1
noncomputable def rprimary(q:Nat):a_rprimary→Option g_rprimary:=(rexS q).2.2
abbrev a_endedO:Type:=Int×Int×ByteArray×Nat×FL×SR
abbrev g_endedO:Type:=Int×Int×ByteArray×Nat×FL×SR
def A_endedO:AR a_endedO:=fun x=>([.ptr 0 0,.agg [i64 x.1,i64 x.2.1,st x.2.2.1,.ro 4 x.2.2.2.1 x.2.2.2.2.1]],(hHR x.2.2.2.2.2))
def d_endedO(t:TT):a_endedO:=((vI (ca t 1 0)),vI (ca t 1 1),vS (ca t 1 2),vRoN (ca t 1 3),vRoF (ca t 1 3),dHR t.2)
theorem v_endedO:VI A_endedO:=vd d_endedO fun _=>rfl
def R_endedO:g_endedO→CRes:=fun z=>.ret (.agg [i64 z.1,i64 z.2.1,st z.2.2.1,.ro 4 z.2.2.2.1 z.2.2.2.2.1]) (hHR z.2.2.2.2.2)
def t_endedO{β:Type}(c_rmust:a_rmust→Option g_rmust)(x:a_endedO)(dn:g_endedO→Option β):Option β:=
 (c_rmust (⟨#[59]⟩,x.2.2.2.2.2)).bind fun z12=>dn (x.1,x.2.1,x.2.2.1,x.2.2.2.1,x.2.2.2.2.1,z12)
theorem n_endedO{β:Type}(c_rmust)(x)(dn:g_endedO→Option β):t_endedO c_rmust x dn=(t_endedO c_rmust x some).bind dn:=by
 unfold t_endedO
 repeat' first|exact n0|refine n1 fun _=>?_|refine n2 ?_ ?_|refine n3 (fun _=>?_) fun _=>?_|rfl
theorem r_endedO(c_rmust)(x):callK E5 (ftb 25 A_rmust R_rmust c_rmust ca0) lo0 96 (A_endedO x).1 (A_endedO x).2 K=t_endedO (vf A_rmust c_rmust) x (fun z=>some (.c (R_endedO z))):=by kernel_rfl
noncomputable def endedO(q:Nat)(x:a_endedO):Option g_endedO:=t_endedO (rmust q) x some
theorem sc_endedO(q:Nat):Lw E5 96 A_endedO R_endedO (endedO q):=sof hW5 hX5 (fk (u7 (sc_rmust q) fun _=>by kernel_rfl) ca0_sound) (fun _=>lo0_sound) fun x=>(r_endedO (rmust q) x).trans (by rw[v_rmust,n_endedO]<;>rfl)
abbrev a_endedZR:Type:=Int×Int×ByteArray×SR
abbrev g_endedZR:Type:=Int×Int×ByteArray×SR
def A_endedZR:AR a_endedZR:=fun x=>([.ptr 0 0,.agg [i64 x.1,i64 x.2.1,st x.2.2.1,nilS]],(hHR x.2.2.2))
def R_endedZR:g_endedZR→CRes:=fun z=>.ret (.agg [i64 z.1,i64 z.2.1,st z.2.2.1,nilS]) (hHR z.2.2.2)
def t_endedZR{β:Type}(c_rmust:a_rmust→Option g_rmust)(x:a_endedZR)(dn:g_endedZR→Option β):Option β:=
 (c_rmust (⟨#[59]⟩,x.2.2.2)).bind fun z12=>dn (x.1,x.2.1,x.2.2.1,z12)
theorem n_endedZR{β:Type}(c_rmust)(x)(dn:g_endedZR→Option β):t_endedZR c_rmust x dn=(t_endedZR c_rmust x some).bind dn:=by
 unfold t_endedZR
 repeat' first|exact n0|refine n1 fun _=>?_|refine n2 ?_ ?_|refine n3 (fun _=>?_) fun _=>?_|rfl
theorem r_endedZR(c_rmust)(x):callK E5 (ftb 25 A_rmust R_rmust c_rmust ca0) lo0 96 (A_endedZR x).1 (A_endedZR x).2 K=t_endedZR (vf A_rmust c_rmust) x (fun z=>some (.c (R_endedZR z))):=by kernel_rfl
noncomputable def endedZR(q:Nat)(x:a_endedZR):Option g_endedZR:=t_endedZR (rmust q) x some
theorem sc_endedZR(q:Nat):Lw E5 96 A_endedZR R_endedZR (endedZR q):=sof hW5 hX5 (fk (u7 (sc_rmust q) fun _=>by kernel_rfl) ca0_sound) (fun _=>lo0_sound) fun x=>(r_endedZR (rmust q) x).trans (by rw[v_rmust,n_endedZR]<;>rfl)
abbrev a_endedZ:Type:=Int×Int×ByteArray×SR
abbrev g_endedZ:Type:=Int×Int×ByteArray×Nat×FL×SR
def A_endedZ:AR a_endedZ:=fun x=>([.ptr 0 0,.agg [i64 x.1,i64 x.2.1,st x.2.2.1,nilS]],(hHR x.2.2.2))
def d_endedZ(t:TT):a_endedZ:=((vI (ca t 1 0)),vI (ca t 1 1),vS (ca t 1 2),dHR t.2)
theorem v_endedZ:VI A_endedZ:=vd d_endedZ fun _=>rfl
def R_endedZ:g_endedZ→CRes:=fun z=>.ret (.agg [i64 z.1,i64 z.2.1,st z.2.2.1,.ro 4 z.2.2.2.1 z.2.2.2.2.1]) (hHR z.2.2.2.2.2)
def cv_endedZ:g_endedZR→g_endedZ:=fun z=>(z.1,z.2.1,z.2.2.1,0,fun _=>[],z.2.2.2)
theorem cvs_endedZ{args:List V}{L:List (Option Chunk)}(z:g_endedZR)(h:SC E5 96 args L (R_endedZR z)):SC E5 96 args L (R_endedZ (cv_endedZ z)):=by
 exact cy_z h
noncomputable def endedZ(q:Nat)(x:a_endedZ):Option g_endedZ:=(endedZR q x).map cv_endedZ
theorem sc_endedZ(q:Nat):Lw E5 96 A_endedZ R_endedZ (endedZ q):=by
 intro x z h
 obtain⟨y,hy,rfl⟩:=Option.map_eq_some_iff.1 h
 exact cvs_endedZ y (sc_endedZR q x y hy)
abbrev a_endedKR:Type:=Int×Int×ByteArray×Nat×FL×SR
abbrev g_endedKR:Type:=Int×Int×ByteArray×Nat×FL×SR
def A_endedKR:AR a_endedKR:=fun x=>([.ptr 0 0,.agg [i64 x.1,i64 x.2.1,st x.2.2.1,.sl 1 4 0 x.2.2.2.1]],[some (.blk [.ro 4 x.2.2.2.2.2.2.2.2.2.1 (fun j=>[i64 (x.2.2.2.2.2.2.2.2.2.2.1 j),i64 (x.2.2.2.2.2.2.2.2.2.2.2.1 j),st (x.2.2.2.2.2.2.2.2.2.2.2.2.1 j),i64 (x.2.2.2.2.2.2.2.2.2.2.2.2.2.1 j)]),i64 x.2.2.2.2.2.1,i64 x.2.2.2.2.2.2.1,i64 x.2.2.2.2.2.2.2.1,i64 x.2.2.2.2.2.2.2.2.1,.sl 2 1 0 x.2.2.2.2.2.2.2.2.2.2.2.2.2.2.1]),some (.row 35 4 x.2.2.2.1 x.2.2.2.2.1),some (.row 9 1 x.2.2.2.2.2.2.2.2.2.2.2.2.2.2.1 (fun j=>[st (x.2.2.2.2.2.2.2.2.2.2.2.2.2.2.2 j)]))])
def R_endedKR:g_endedKR→CRes:=fun z=>.ret (.agg [i64 z.1,i64 z.2.1,st z.2.2.1,.sl 1 4 0 z.2.2.2.1]) [some (.blk [.ro 4 z.2.2.2.2.2.2.2.2.2.1 (fun j=>[i64 (z.2.2.2.2.2.2.2.2.2.2.1 j),i64 (z.2.2.2.2.2.2.2.2.2.2.2.1 j),st (z.2.2.2.2.2.2.2.2.2.2.2.2.1 j),i64 (z.2.2.2.2.2.2.2.2.2.2.2.2.2.1 j)]),i64 z.2.2.2.2.2.1,i64 z.2.2.2.2.2.2.1,i64 z.2.2.2.2.2.2.2.1,i64 z.2.2.2.2.2.2.2.2.1,.sl 2 1 0 z.2.2.2.2.2.2.2.2.2.2.2.2.2.2.1]),some (.row 35 4 z.2.2.2.1 z.2.2.2.2.1),some (.row 9 1 z.2.2.2.2.2.2.2.2.2.2.2.2.2.2.1 (fun j=>[st (z.2.2.2.2.2.2.2.2.2.2.2.2.2.2.2 j)]))]
def t_endedKR{β:Type}(c_rmust:a_rmust→Option g_rmust)(x:a_endedKR)(dn:g_endedKR→Option β):Option β:=
 (c_rmust (⟨#[59]⟩,x.2.2.2.2.2)).bind fun z12=>dn (x.1,x.2.1,x.2.2.1,x.2.2.2.1,x.2.2.2.2.1,z12)
theorem n_endedKR{β:Type}(c_rmust)(x)(dn:g_endedKR→Option β):t_endedKR c_rmust x dn=(t_endedKR c_rmust x some).bind dn:=by
 unfold t_endedKR
 repeat' first|exact n0|refine n1 fun _=>?_|refine n2 ?_ ?_|refine n3 (fun _=>?_) fun _=>?_|rfl
theorem r_endedKR(c_rmust)(x):callK E5 (ftb 25 A_rmust R_rmust c_rmust ca0) lo0 96 (A_endedKR x).1 (A_endedKR x).2 K=t_endedKR (vf A_rmust c_rmust) x (fun z=>some (.c (R_endedKR z))):=by kernel_rfl
noncomputable def endedKR(q:Nat)(x:a_endedKR):Option g_endedKR:=t_endedKR (rmust q) x some
theorem sc_endedKR(q:Nat):Lw E5 96 A_endedKR R_endedKR (endedKR q):=sof hW5 hX5 (fk (u7 (sc_rmust q) fun _=>by kernel_rfl) ca0_sound) (fun _=>lo0_sound) fun x=>(r_endedKR (rmust q) x).trans (by rw[v_rmust,n_endedKR]<;>rfl)
abbrev a_endedK:Type:=Int×Int×ByteArray×Nat×FL×SR
abbrev g_endedK:Type:=Int×Int×ByteArray×Nat×FL×SR
def A_endedK:AR a_endedK:=fun x=>([.ptr 0 0,.agg [i64 x.1,i64 x.2.1,st x.2.2.1,.sl 1 4 0 x.2.2.2.1]],[some (.blk [.ro 4 x.2.2.2.2.2.2.2.2.2.1 (fun j=>[i64 (x.2.2.2.2.2.2.2.2.2.2.1 j),i64 (x.2.2.2.2.2.2.2.2.2.2.2.1 j),st (x.2.2.2.2.2.2.2.2.2.2.2.2.1 j),i64 (x.2.2.2.2.2.2.2.2.2.2.2.2.2.1 j)]),i64 x.2.2.2.2.2.1,i64 x.2.2.2.2.2.2.1,i64 x.2.2.2.2.2.2.2.1,i64 x.2.2.2.2.2.2.2.2.1,.sl 2 1 0 x.2.2.2.2.2.2.2.2.2.2.2.2.2.2.1]),some (.row 35 4 x.2.2.2.1 x.2.2.2.2.1),some (.row 9 1 x.2.2.2.2.2.2.2.2.2.2.2.2.2.2.1 (fun j=>[st (x.2.2.2.2.2.2.2.2.2.2.2.2.2.2.2 j)]))])
def d_endedK(t:TT):a_endedK:=((vI (ca t 1 0)),vI (ca t 1 1),vS (ca t 1 2),vSlN (ca t 1 3),(chF (co t 1)),vI (cc t 0 1),vI (cc t 0 2),vI (cc t 0 3),vI (cc t 0 4),vRoN (cc t 0 0),dTI (cc t 0 0) 0,dTI (cc t 0 0) 1,dTS (cc t 0 0) 2,dTI (cc t 0 0) 3,vSlN (cc t 0 5),dRS (co t 2) 0)
theorem v_endedK:VI A_endedK:=vd d_endedK fun _=>rfl
def R_endedK:g_endedK→CRes:=fun z=>.ret (.agg [i64 z.1,i64 z.2.1,st z.2.2.1,.ro 4 z.2.2.2.1 z.2.2.2.2.1]) [some (.blk [.ro 4 z.2.2.2.2.2.2.2.2.2.1 (fun j=>[i64 (z.2.2.2.2.2.2.2.2.2.2.1 j),i64 (z.2.2.2.2.2.2.2.2.2.2.2.1 j),st (z.2.2.2.2.2.2.2.2.2.2.2.2.1 j),i64 (z.2.2.2.2.2.2.2.2.2.2.2.2.2.1 j)]),i64 z.2.2.2.2.2.1,i64 z.2.2.2.2.2.2.1,i64 z.2.2.2.2.2.2.2.1,i64 z.2.2.2.2.2.2.2.2.1,.sl 2 1 0 z.2.2.2.2.2.2.2.2.2.2.2.2.2.2.1]),none,some (.row 9 1 z.2.2.2.2.2.2.2.2.2.2.2.2.2.2.1 (fun j=>[st (z.2.2.2.2.2.2.2.2.2.2.2.2.2.2.2 j)]))]
noncomputable def endedK(q:Nat)(x:a_endedK):Option g_endedK:=endedKR q x
theorem sc_endedK(q:Nat):Lw E5 96 A_endedK R_endedK (endedK q):=by
 intro x z h
 have h2:=SC.giveM (L2:=[some (.blk [.ro 4 z.2.2.2.2.2.2.2.2.2.1 (fun j=>[i64 (z.2.2.2.2.2.2.2.2.2.2.1 j),i64 (z.2.2.2.2.2.2.2.2.2.2.2.1 j),st (z.2.2.2.2.2.2.2.2.2.2.2.2.1 j),i64 (z.2.2.2.2.2.2.2.2.2.2.2.2.2.1 j)]),i64 z.2.2.2.2.2.1,i64 z.2.2.2.2.2.2.1,i64 z.2.2.2.2.2.2.2.1,i64 z.2.2.2.2.2.2.2.2.1,.sl 2 1 0 z.2.2.2.2.2.2.2.2.2.2.2.2.2.2.1]),none,some (.row 9 1 z.2.2.2.2.2.2.2.2.2.2.2.2.2.2.1 (fun j=>[st (z.2.2.2.2.2.2.2.2.2.2.2.2.2.2.2 j)]))]) 3 (sc_endedKR q x z h) (by rfl) (by simp[V.bw,V.bw2,V.bw1,hp,V.pure,pureL])
 simp only[V.bw,V.bw2,V.bw1,hp,List.map_cons,List.map_nil,List.getD_eq_getElem?_getD,List.getElem?_cons_succ,List.getElem?_cons_zero,Option.getD_some,Nat.zero_add,Nat.le_refl,and_self,if_true]at h2
 exact h2
abbrev a_one:Type:=Int×Int×Int×ByteArray×Nat×FL
abbrev g_one:Type:=Int×Int×Int×ByteArray×Nat×FL
def A_one:AR a_one:=fun x=>([i64 x.1,.agg [i64 x.2.1,i64 x.2.2.1,st x.2.2.2.1,.ro 4 x.2.2.2.2.1 x.2.2.2.2.2]],[])
def d_one(t:TT):a_one:=((vI (ag t 0)),vI (ca t 1 0),vI (ca t 1 1),vS (ca t 1 2),vRoN (ca t 1 3),vRoF (ca t 1 3))
theorem v_one:VI A_one:=vd d_one fun _=>rfl
def R_one:g_one→CRes:=fun z=>.ret (.agg [i64 z.1,i64 0,st ⟨#[]⟩,.sl 0 4 0 1]) [some (.row 35 4 1 (selL [[i64 z.2.1,i64 z.2.2.1,st z.2.2.2.1,.ro 4 z.2.2.2.2.1 z.2.2.2.2.2]]))]
def t_one{β:Type}(x:a_one)(dn:g_one→Option β):Option β:=
 dn x
theorem n_one{β:Type}(x)(dn:g_one→Option β):t_one x dn=(t_one x some).bind dn:=by
 unfold t_one
 repeat' first|exact n0|refine n1 fun _=>?_|refine n2 ?_ ?_|refine n3 (fun _=>?_) fun _=>?_|rfl
theorem r_one(x):callK E5 ca0 lo0 99 (A_one x).1 (A_one x).2 K=t_one x (fun z=>some (.c (R_one z))):=by kernel_rfl
noncomputable def one(q:Nat)(x:a_one):Option g_one:=t_one x some
theorem sc_one(q:Nat):Lw E5 99 A_one R_one (one q):=sof hW5 hX5 ca0_sound (fun _=>lo0_sound) fun x=>(r_one x).trans (by rw[n_one]<;>rfl)
abbrev a_rnumbered:Type:=Int×Int×ByteArray×SR
abbrev g_rnumbered:Type:=Int×Int×ByteArray×Nat×FL×SR
def A_rnumbered:AR a_rnumbered:=fun x=>([.ptr 0 0,i64 x.1,i64 x.2.1,st x.2.2.1],(hHR x.2.2.2))
def d_rnumbered(t:TT):a_rnumbered:=((vI (ag t 1)),vI (ag t 2),vS (ag t 3),dHR t.2)
theorem v_rnumbered:VI A_rnumbered:=vd d_rnumbered fun _=>rfl
def R_rnumbered:g_rnumbered→CRes:=fun z=>.ret (.agg [i64 z.1,i64 z.2.1,st z.2.2.1,.ro 4 z.2.2.2.1 z.2.2.2.2.1]) (hHR z.2.2.2.2.2)
def t_rnumbered{β:Type}(c_rnumber:a_rnumber→Option g_rnumber)(c_rmust:a_rmust→Option g_rmust)(c_rliteral:a_rliteral→Option g_rliteral)(c_endedZ:a_endedZ→Option g_endedZ)(c_endedK:a_endedK→Option g_endedK)(x:a_rnumbered)(dn:g_rnumbered→Option β):Option β:=
 (c_rnumber (0,x.2.1,x.2.2.2)).bind fun z13=>if(!x.2.2.1.toList==ByteArray.toList ⟨#[]⟩)=true then(c_rmust (x.2.2.1,z13.2)).bind fun z26=>(c_rliteral z26).bind fun z38=>(c_endedK (x.1,z13.1,⟨#[]⟩,1,selL [[i64 z38.1,i64 z38.2.1,st z38.2.2.1,V.ro 4 z38.2.2.2.1 z38.2.2.2.2.1]],z38.2.2.2.2.2)).bind fun z55=>dn z55 else(c_endedZ (x.1,z13.1,⟨#[]⟩,z13.2)).bind fun z70=>dn z70
theorem n_rnumbered{β:Type}(c_rnumber c_rmust)(c_rliteral c_endedZ c_endedK)(x)(dn:g_rnumbered→Option β):t_rnumbered c_rnumber c_rmust c_rliteral c_endedZ c_endedK x dn=(t_rnumbered c_rnumber c_rmust c_rliteral c_endedZ c_endedK x some).bind dn:=by
 unfold t_rnumbered
 repeat' first|exact n0|refine n1 fun _=>?_|refine n2 ?_ ?_|refine n3 (fun _=>?_) fun _=>?_|rfl
theorem r_rnumbered(c_rnumber c_rmust)(c_rliteral c_endedZ c_endedK)(x):callK E5 (ftb 119 A_rnumber R_rnumber c_rnumber (ftb 25 A_rmust R_rmust c_rmust (ftb 120 A_rliteral R_rliteral c_rliteral (ftg 96 (fun a L=>L.length==2&&(isNilV ((vAg (a.getD 1 .junk)).getD 3 .junk))) A_endedZ R_endedZ c_endedZ (ftg 96 (fun a L=>L.length==3) A_endedK R_endedK c_endedK ca0))))) lo0 121 (A_rnumbered x).1 (A_rnumbered x).2 K=t_rnumbered (vf A_rnumber c_rnumber) (vf A_rmust c_rmust) (vf A_rliteral c_rliteral) (vf A_endedZ c_endedZ) (vf A_endedK c_endedK) x (fun z=>some (.c (R_rnumbered z))):=by kernel_rfl
noncomputable def rnumbered(q:Nat)(x:a_rnumbered):Option g_rnumbered:=t_rnumbered (rnumber q) (rmust q) (rliteral q) (endedZ q) (endedK q) x some
theorem sc_rnumbered(q:Nat):Lw E5 121 A_rnumbered R_rnumbered (rnumbered q):=sof hW5 hX5 (fk (u7 (sc_rnumber q) fun _=>by kernel_rfl) (fk (u7 (sc_rmust q) fun _=>by kernel_rfl) (fk (sc_rliteral q) (fk (sc_endedZ q) (fk (sc_endedK q) ca0_sound))))) (fun _=>lo0_sound) fun x=>(r_rnumbered (rnumber q) (rmust q) (rliteral q) (endedZ q) (endedK q) x).trans (by rw[v_rnumber,v_rmust,v_rliteral,v_endedZ,v_endedK,n_rnumbered]<;>rfl)
abbrev a_rblock:Type:=SR
abbrev g_rblock:Type:=Int×Int×ByteArray×Nat×FL×SR
def A_rblock:AR a_rblock:=fun x=>([.ptr 0 0],(hHR x))
def d_rblock(t:TT):a_rblock:=(dHR t.2)
theorem v_rblock:VI A_rblock:=vd d_rblock fun _=>rfl
def R_rblock:g_rblock→CRes:=fun z=>.ret (.agg [i64 z.1,i64 z.2.1,st z.2.2.1,.ro 4 z.2.2.2.1 z.2.2.2.2.1]) (hHR z.2.2.2.2.2)
abbrev a_rworded:Type:=ByteArray×SR
abbrev g_rworded:Type:=Int×Int×ByteArray×Nat×FL×SR
def A_rworded:AR a_rworded:=fun x=>([.ptr 0 0,st x.1],(hHR x.2))
def d_rworded(t:TT):a_rworded:=((vS (ag t 1)),dHR t.2)
theorem v_rworded:VI A_rworded:=vd d_rworded fun _=>rfl
def R_rworded:g_rworded→CRes:=fun z=>.ret (.agg [i64 z.1,i64 z.2.1,st z.2.2.1,.ro 4 z.2.2.2.1 z.2.2.2.2.1]) (hHR z.2.2.2.2.2)
abbrev a_rstatement:Type:=SR
abbrev g_rstatement:Type:=Int×Int×ByteArray×Nat×FL×SR
def A_rstatement:AR a_rstatement:=fun x=>([.ptr 0 0],(hHR x))
def d_rstatement(t:TT):a_rstatement:=(dHR t.2)
theorem v_rstatement:VI A_rstatement:=vd d_rstatement fun _=>rfl
def R_rstatement:g_rstatement→CRes:=fun z=>.ret (.agg [i64 z.1,i64 z.2.1,st z.2.2.1,.ro 4 z.2.2.2.1 z.2.2.2.2.1]) (hHR z.2.2.2.2.2)
abbrev a_rblockR:Type:=SR
abbrev g_rblockR:Type:=(Int×Int×ByteArray×SR)⊕(Int×Int×ByteArray×Nat×FL×SR)
def A_rblockR:AR a_rblockR:=fun x=>([.ptr 0 0],(hHR x))
def R_rblockR:g_rblockR→CRes:=Sum.elim (fun z:Int×Int×ByteArray×SR=>.ret (.agg [i64 z.1,i64 z.2.1,st z.2.2.1,nilS]) (hHR z.2.2.2)) (fun z:Int×Int×ByteArray×Nat×FL×SR=>.ret (.agg [i64 z.1,i64 z.2.1,st z.2.2.1,.sl 2 4 0 z.2.2.2.1]) ((hHR z.2.2.2.2.2)++[some (.row 35 4 z.2.2.2.1 z.2.2.2.2.1)]))
abbrev a_rwordedR:Type:=ByteArray×SR
abbrev g_rwordedR:Type:=(Int×Int×ByteArray×Nat×FL×SR)⊕(Int×Int×ByteArray×FL×SR)⊕(Int×Int×ByteArray×Int×Int×ByteArray×Nat×FL×SR)⊕(Int×Int×ByteArray×SR)
def A_rwordedR:AR a_rwordedR:=fun x=>([.ptr 0 0,st x.1],(hHR x.2))
def R_rwordedR:g_rwordedR→CRes:=Sum.elim (fun z:Int×Int×ByteArray×Nat×FL×SR=>.ret (.agg [i64 z.1,i64 z.2.1,st z.2.2.1,.ro 4 z.2.2.2.1 z.2.2.2.2.1]) (hHR z.2.2.2.2.2)) (Sum.elim (fun z:Int×Int×ByteArray×FL×SR=>.ret (.agg [i64 z.1,i64 z.2.1,st z.2.2.1,.sl 2 4 0 3]) [some (.blk [.ro 4 z.2.2.2.2.2.2.2.2.1 (fun j=>[i64 (z.2.2.2.2.2.2.2.2.2.1 j),i64 (z.2.2.2.2.2.2.2.2.2.2.1 j),st (z.2.2.2.2.2.2.2.2.2.2.2.1 j),i64 (z.2.2.2.2.2.2.2.2.2.2.2.2.1 j)]),i64 z.2.2.2.2.1,i64 z.2.2.2.2.2.1,i64 z.2.2.2.2.2.2.1,i64 z.2.2.2.2.2.2.2.1,.sl 1 1 0 z.2.2.2.2.2.2.2.2.2.2.2.2.2.1]),some (.row 9 1 z.2.2.2.2.2.2.2.2.2.2.2.2.2.1 (fun j=>[st (z.2.2.2.2.2.2.2.2.2.2.2.2.2.2 j)])),some (.row 35 4 3 z.2.2.2.1)]) (Sum.elim (fun z:Int×Int×ByteArray×Int×Int×ByteArray×Nat×FL×SR=>.ret (.agg [i64 z.1,i64 z.2.1,st z.2.2.1,.sl 2 4 0 1]) [some (.blk [.ro 4 z.2.2.2.2.2.2.2.2.2.2.2.2.1 (fun j=>[i64 (z.2.2.2.2.2.2.2.2.2.2.2.2.2.1 j),i64 (z.2.2.2.2.2.2.2.2.2.2.2.2.2.2.1 j),st (z.2.2.2.2.2.2.2.2.2.2.2.2.2.2.2.1 j),i64 (z.2.2.2.2.2.2.2.2.2.2.2.2.2.2.2.2.1 j)]),i64 z.2.2.2.2.2.2.2.2.1,i64 z.2.2.2.2.2.2.2.2.2.1,i64 z.2.2.2.2.2.2.2.2.2.2.1,i64 z.2.2.2.2.2.2.2.2.2.2.2.1,.sl 1 1 0 z.2.2.2.2.2.2.2.2.2.2.2.2.2.2.2.2.2.1]),some (.row 9 1 z.2.2.2.2.2.2.2.2.2.2.2.2.2.2.2.2.2.1 (fun j=>[st (z.2.2.2.2.2.2.2.2.2.2.2.2.2.2.2.2.2.2 j)])),some (.row 35 4 1 (selL [[i64 z.2.2.2.1,i64 z.2.2.2.2.1,st z.2.2.2.2.2.1,.ro 4 z.2.2.2.2.2.2.1 z.2.2.2.2.2.2.2.1]]))]) (fun z:Int×Int×ByteArray×SR=>.ret (.agg [i64 z.1,i64 z.2.1,st z.2.2.1,nilS]) (hHR z.2.2.2))))
abbrev a_rstatementR:Type:=SR
abbrev g_rstatementR:Type:=Int×Int×ByteArray×Nat×FL×SR
def A_rstatementR:AR a_rstatementR:=fun x=>([.ptr 0 0],(hHR x))
def R_rstatementR:g_rstatementR→CRes:=fun z=>.ret (.agg [i64 z.1,i64 z.2.1,st z.2.2.1,.ro 4 z.2.2.2.1 z.2.2.2.2.1]) (hHR z.2.2.2.2.2)
abbrev rblockR_l0_a:Type:=(SB)⊕(Nat×FI×FI×FS×FI×Int×Int×Int×Int×Nat×FS×FI×FI×FS×FN×FM×Nat)
abbrev rblockR_l0_g:Type:=(SB)⊕(Nat×FI×FI×FS×FI×Int×Int×Int×Int×Nat×FS×Nat×FI×FI×FS×FN×FM)
def rblockR_l0_S0(x:a_rblockR)(y:SB):St:={fr:=[V.ptr 0 0,V.junk,V.ptr 2 0,V.ptr 3 0]++jk 30,H:=hp [some (hRB y),some (hRV0 y),some (Chunk.blk [i64 0,i64 0,st ⟨#[]⟩,nilS]),some (Chunk.blk [i64 14,i64 0,st ⟨#[]⟩,nilS])],nx:=4,rt:=1,me:=28}
def rblockR_l0_d0(s:St):SB:=((vRoN (cb s 0 0)),dTI (cb s 0 0) 0,dTI (cb s 0 0) 1,dTS (cb s 0 0) 2,dTI (cb s 0 0) 3,vI (cb s 0 1),vI (cb s 0 2),vI (cb s 0 3),vI (cb s 0 4),vSlN (cb s 0 5),dRS (s.H 1) 0)
def rblockR_l0_S1(x:a_rblockR)(y:Nat×FI×FI×FS×FI×Int×Int×Int×Int×Nat×FS×FI×FI×FS×FN×FM×Nat):St:={fr:=[V.ptr 0 0,V.junk,V.ptr 2 0,V.ptr 3 0]++jk 30,H:=hp [some (hRB y),some (hRV y),some (Chunk.blk [i64 0,i64 0,st ⟨#[]⟩,nilS]),some (Chunk.blk [i64 14,i64 0,st ⟨#[]⟩,V.sl 4 4 0 y.2.2.2.2.2.2.2.2.2.2.2.2.2.2.2.2]),some (Chunk.row 35 4 y.2.2.2.2.2.2.2.2.2.2.2.2.2.2.2.2 fun j=>[i64 (y.2.2.2.2.2.2.2.2.2.2.2.1 j),i64 (y.2.2.2.2.2.2.2.2.2.2.2.2.1 j),st (y.2.2.2.2.2.2.2.2.2.2.2.2.2.1 j),V.ro 4 (y.2.2.2.2.2.2.2.2.2.2.2.2.2.2.1 j) (y.2.2.2.2.2.2.2.2.2.2.2.2.2.2.2.1 j)])],nx:=5,rt:=1,me:=28}
def rblockR_l0_d1(s:St):Nat×FI×FI×FS×FI×Int×Int×Int×Int×Nat×FS×FI×FI×FS×FN×FM×Nat:=((vRoN (cb s 0 0)),dTI (cb s 0 0) 0,dTI (cb s 0 0) 1,dTS (cb s 0 0) 2,dTI (cb s 0 0) 3,vI (cb s 0 1),vI (cb s 0 2),vI (cb s 0 3),vI (cb s 0 4),vSlN (cb s 0 5),dRS (s.H 1) 0,dRI (s.H 4) 0,dRI (s.H 4) 1,dRS (s.H 4) 2,dRN (s.H 4) 3,dRF (s.H 4) 3,vSlN (cb s 3 3))
def rblockR_l0_S(x:a_rblockR):rblockR_l0_a→St:=(Sum.elim (rblockR_l0_S0 x) (rblockR_l0_S1 x))
def rblockR_l0_d(s:St):rblockR_l0_a:=(match s.nx==4 with|true=>(.inl (rblockR_l0_d0 s)) |false=>(.inr (rblockR_l0_d1 s)))
theorem rblockR_l0_u(x:a_rblockR):VL (rblockR_l0_S x):=vl rblockR_l0_d (fun y=>by rcases y with y|y<;>rfl)
def rblockR_l0_T(x:a_rblockR):rblockR_l0_g→Ex×St:=(Sum.elim (fun z=>(Ex.exit 0,{fr:=[V.ptr 0 0,V.junk,V.ptr 2 0,V.ptr 3 0]++jk 30,H:=hp [some (hRB z),some (hRV0 z),some (Chunk.blk [i64 0,i64 0,st ⟨#[]⟩,nilS]),some (Chunk.blk [i64 14,i64 0,st ⟨#[]⟩,nilS])],nx:=4,rt:=1,me:=28})) (fun z=>(Ex.exit 0,{fr:=[V.ptr 0 0,V.junk,V.ptr 2 0,V.ptr 3 0]++jk 30,H:=hp [some (hRB z),some (hRV z),some (Chunk.blk [i64 0,i64 0,st ⟨#[]⟩,nilS]),some (Chunk.blk [i64 14,i64 0,st ⟨#[]⟩,V.sl 4 4 0 z.2.2.2.2.2.2.2.2.2.2.2.1]),some (Chunk.row 35 4 z.2.2.2.2.2.2.2.2.2.2.2.1 fun j=>[i64 (z.2.2.2.2.2.2.2.2.2.2.2.2.1 j),i64 (z.2.2.2.2.2.2.2.2.2.2.2.2.2.1 j),st (z.2.2.2.2.2.2.2.2.2.2.2.2.2.2.1 j),V.ro 4 (z.2.2.2.2.2.2.2.2.2.2.2.2.2.2.2.1 j) (z.2.2.2.2.2.2.2.2.2.2.2.2.2.2.2.2 j)])],nx:=5,rt:=1,me:=28})))
def rblockR_l0_t0{β:Type}(c_ropens:a_ropens→Option g_ropens)(c_ris:a_ris→Option g_ris)(c_rmust:a_rmust→Option g_rmust)(c_rstatement:a_rstatement→Option g_rstatement)(x:a_rblockR)(y:SB)(nx:rblockR_l0_a→Option β)(dn:rblockR_l0_g→Option β):Option β:=
 if(y.2.2.2.2.2.2.2.1==0)=true then(c_ris (⟨#[125]⟩,y.2.2.2.2.2.1,y.2.2.2.2.2.2.1,y.2.2.2.2.2.2.2.1,y.2.2.2.2.2.2.2.2.1,y.1,y.2.1,y.2.2.1,y.2.2.2.1,y.2.2.2.2.1,y.2.2.2.2.2.2.2.2.2)).bind fun z527=>if(!z527.1)=true then(c_rstatement z527.2).bind fun z539=>nx (.inr (z539.2.2.2.2.2.2.2.2.2.1,z539.2.2.2.2.2.2.2.2.2.2.1,z539.2.2.2.2.2.2.2.2.2.2.2.1,z539.2.2.2.2.2.2.2.2.2.2.2.2.1,z539.2.2.2.2.2.2.2.2.2.2.2.2.2.1,z539.2.2.2.2.2.1,z539.2.2.2.2.2.2.1,z539.2.2.2.2.2.2.2.1,z539.2.2.2.2.2.2.2.2.1,z539.2.2.2.2.2.2.2.2.2.2.2.2.2.2.1,z539.2.2.2.2.2.2.2.2.2.2.2.2.2.2.2,fun j=>z539.1,fun j=>z539.2.1,fun j=>z539.2.2.1,fun j=>z539.2.2.2.1,fun j=>z539.2.2.2.2.1,1))else dn (.inl (z527.2.2.2.2.2.1,z527.2.2.2.2.2.2.1,z527.2.2.2.2.2.2.2.1,z527.2.2.2.2.2.2.2.2.1,z527.2.2.2.2.2.2.2.2.2.1,z527.2.1,z527.2.2.1,z527.2.2.2.1,z527.2.2.2.2.1,z527.2.2.2.2.2.2.2.2.2.2))else dn (.inl y)
theorem rblockR_l0_n0{β:Type}(c_ropens c_ris)(c_rmust c_rstatement)(x)(y)(nx:rblockR_l0_a→Option β)(dn):rblockR_l0_t0 c_ropens c_ris c_rmust c_rstatement x y nx dn=(rblockR_l0_t0 c_ropens c_ris c_rmust c_rstatement x y (fun y=>some (.inl y)) (fun z=>some (.inr z))).bind fun r=>Sum.elim nx dn r:=by
 unfold rblockR_l0_t0
 repeat' first|exact n0|refine n1 fun _=>?_|refine n2 ?_ ?_|refine n3 (fun _=>?_) fun _=>?_|rfl
theorem rblockR_l0_r0(c_ropens c_ris)(c_rmust c_rstatement)(x)(y)(lo:LoopT):loopK E5 (ftb 66 A_ropens R_ropens c_ropens (ftb 64 A_ris R_ris c_ris (ftb 25 A_rmust R_rmust c_rmust (ftb 67 A_rstatement R_rstatement c_rstatement ca0)))) lo 0 13 (bodyOf E5 28 0) (rblockR_l0_S x (.inl y)) (KCM [(0,13)] 4)=rblockR_l0_t0 (vf A_ropens c_ropens) (vf A_ris c_ris) (vf A_rmust c_rmust) (vf A_rstatement c_rstatement) x y (fun y=>lo 0 13 (bodyOf E5 28 0) (rblockR_l0_S x y) (KCM [(0,13)] 4)) (fun z=>some (.l (rblockR_l0_T x z).1 (rblockR_l0_T x z).2)):=by kernel_rfl
def rblockR_l0_t1{β:Type}(c_ropens:a_ropens→Option g_ropens)(c_ris:a_ris→Option g_ris)(c_rmust:a_rmust→Option g_rmust)(c_rstatement:a_rstatement→Option g_rstatement)(x:a_rblockR)(y:Nat×FI×FI×FS×FI×Int×Int×Int×Int×Nat×FS×FI×FI×FS×FN×FM×Nat)(nx:rblockR_l0_a→Option β)(dn:rblockR_l0_g→Option β):Option β:=
 if(y.2.2.2.2.2.2.2.1==0)=true then(c_ris (⟨#[125]⟩,y.2.2.2.2.2.1,y.2.2.2.2.2.2.1,y.2.2.2.2.2.2.2.1,y.2.2.2.2.2.2.2.2.1,y.1,y.2.1,y.2.2.1,y.2.2.2.1,y.2.2.2.2.1,y.2.2.2.2.2.2.2.2.2.1,y.2.2.2.2.2.2.2.2.2.2.1)).bind fun z553=>if(!z553.1)=true then(c_rstatement z553.2).bind fun z565=>if(y.2.2.2.2.2.2.2.2.2.2.2.2.2.2.2.2+1)*56≤roomBound∧y.2.2.2.2.2.2.2.2.2.2.2.2.2.2.2.2+1≤maxLen∧y.2.2.2.2.2.2.2.2.2.2.2.2.2.2.2.2≤y.2.2.2.2.2.2.2.2.2.2.2.2.2.2.2.2 then nx (.inr (z565.2.2.2.2.2.2.2.2.2.1,z565.2.2.2.2.2.2.2.2.2.2.1,z565.2.2.2.2.2.2.2.2.2.2.2.1,z565.2.2.2.2.2.2.2.2.2.2.2.2.1,z565.2.2.2.2.2.2.2.2.2.2.2.2.2.1,z565.2.2.2.2.2.1,z565.2.2.2.2.2.2.1,z565.2.2.2.2.2.2.2.1,z565.2.2.2.2.2.2.2.2.1,z565.2.2.2.2.2.2.2.2.2.2.2.2.2.2.1,z565.2.2.2.2.2.2.2.2.2.2.2.2.2.2.2,fun j=>if j<y.2.2.2.2.2.2.2.2.2.2.2.2.2.2.2.2 then y.2.2.2.2.2.2.2.2.2.2.2.1 j else z565.1,fun j=>if j<y.2.2.2.2.2.2.2.2.2.2.2.2.2.2.2.2 then y.2.2.2.2.2.2.2.2.2.2.2.2.1 j else z565.2.1,fun j=>if j<y.2.2.2.2.2.2.2.2.2.2.2.2.2.2.2.2 then y.2.2.2.2.2.2.2.2.2.2.2.2.2.1 j else z565.2.2.1,fun j=>if j<y.2.2.2.2.2.2.2.2.2.2.2.2.2.2.2.2 then y.2.2.2.2.2.2.2.2.2.2.2.2.2.2.1 j else z565.2.2.2.1,fun(j j_1:Nat)=>if j<y.2.2.2.2.2.2.2.2.2.2.2.2.2.2.2.2 then y.2.2.2.2.2.2.2.2.2.2.2.2.2.2.2.1 j j_1 else z565.2.2.2.2.1 j_1,y.2.2.2.2.2.2.2.2.2.2.2.2.2.2.2.2+1))else none else dn (.inr (z553.2.2.2.2.2.1,z553.2.2.2.2.2.2.1,z553.2.2.2.2.2.2.2.1,z553.2.2.2.2.2.2.2.2.1,z553.2.2.2.2.2.2.2.2.2.1,z553.2.1,z553.2.2.1,z553.2.2.2.1,z553.2.2.2.2.1,z553.2.2.2.2.2.2.2.2.2.2.1,z553.2.2.2.2.2.2.2.2.2.2.2,y.2.2.2.2.2.2.2.2.2.2.2.2.2.2.2.2,y.2.2.2.2.2.2.2.2.2.2.2.1,y.2.2.2.2.2.2.2.2.2.2.2.2.1,y.2.2.2.2.2.2.2.2.2.2.2.2.2.1,y.2.2.2.2.2.2.2.2.2.2.2.2.2.2.1,y.2.2.2.2.2.2.2.2.2.2.2.2.2.2.2.1))else dn (.inr (y.1,y.2.1,y.2.2.1,y.2.2.2.1,y.2.2.2.2.1,y.2.2.2.2.2.1,y.2.2.2.2.2.2.1,y.2.2.2.2.2.2.2.1,y.2.2.2.2.2.2.2.2.1,y.2.2.2.2.2.2.2.2.2.1,y.2.2.2.2.2.2.2.2.2.2.1,y.2.2.2.2.2.2.2.2.2.2.2.2.2.2.2.2,y.2.2.2.2.2.2.2.2.2.2.2.1,y.2.2.2.2.2.2.2.2.2.2.2.2.1,y.2.2.2.2.2.2.2.2.2.2.2.2.2.1,y.2.2.2.2.2.2.2.2.2.2.2.2.2.2.1,y.2.2.2.2.2.2.2.2.2.2.2.2.2.2.2.1))
theorem rblockR_l0_n1{β:Type}(c_ropens c_ris)(c_rmust c_rstatement)(x)(y)(nx:rblockR_l0_a→Option β)(dn):rblockR_l0_t1 c_ropens c_ris c_rmust c_rstatement x y nx dn=(rblockR_l0_t1 c_ropens c_ris c_rmust c_rstatement x y (fun y=>some (.inl y)) (fun z=>some (.inr z))).bind fun r=>Sum.elim nx dn r:=by
 unfold rblockR_l0_t1
 repeat' first|exact n0|refine n1 fun _=>?_|refine n2 ?_ ?_|refine n3 (fun _=>?_) fun _=>?_|rfl
theorem rblockR_l0_r1(c_ropens c_ris)(c_rmust c_rstatement)(x)(y)(lo:LoopT):loopK E5 (ftb 66 A_ropens R_ropens c_ropens (ftb 64 A_ris R_ris c_ris (ftb 25 A_rmust R_rmust c_rmust (ftb 67 A_rstatement R_rstatement c_rstatement ca0)))) lo 0 13 (bodyOf E5 28 0) (rblockR_l0_S x (.inr y)) (KCM [(0,13)] 4)=rblockR_l0_t1 (vf A_ropens c_ropens) (vf A_ris c_ris) (vf A_rmust c_rmust) (vf A_rstatement c_rstatement) x y (fun y=>lo 0 13 (bodyOf E5 28 0) (rblockR_l0_S x y) (KCM [(0,13)] 4)) (fun z=>some (.l (rblockR_l0_T x z).1 (rblockR_l0_T x z).2)):=by kernel_rfl
noncomputable def rblockR_l0(c_ropens:a_ropens→Option g_ropens)(c_ris:a_ris→Option g_ris)(c_rmust:a_rmust→Option g_rmust)(c_rstatement:a_rstatement→Option g_rstatement)(q:Nat)(x:a_rblockR):rblockR_l0_a→Option rblockR_l0_g:=lpG (Sum.elim (fun y=>rblockR_l0_t0 c_ropens c_ris c_rmust c_rstatement x y (fun y=>some (.inl y)) (fun z=>some (.inr z))) (fun y=>rblockR_l0_t1 c_ropens c_ris c_rmust c_rstatement x y (fun y=>some (.inl y)) (fun z=>some (.inr z)))) q
theorem rblockR_l0_s(c_ropens)(h_ropens:Lw E5 66 A_ropens R_ropens c_ropens)(c_ris)(h_ris:Lw E5 64 A_ris R_ris c_ris)(c_rmust)(h_rmust:Lw E5 25 A_rmust R_rmust c_rmust)(c_rstatement)(h_rstatement:Lw E5 67 A_rstatement R_rstatement c_rstatement)(q:Nat)(x:a_rblockR):Ll E5 (bodyOf E5 28 0) (rblockR_l0_S x) (rblockR_l0_T x) (rblockR_l0 c_ropens c_ris c_rmust c_rstatement q x):=
 slp (fk h_ropens (fk h_ris (fk h_rmust (fk h_rstatement ca0_sound)))) hX5 (fun lo y=>by
  rcases y with y|y
  ·exact(rblockR_l0_r0 c_ropens c_ris c_rmust c_rstatement x y lo).trans (by rw[v_ropens,v_ris,v_rmust,v_rstatement];exact rblockR_l0_n0 _ _ _ _ _ _ _ _)
  ·exact(rblockR_l0_r1 c_ropens c_ris c_rmust c_rstatement x y lo).trans (by rw[v_ropens,v_ris,v_rmust,v_rstatement];exact rblockR_l0_n1 _ _ _ _ _ _ _ _)) (fun z=>by rcases z with z|z<;>kernel_rfl) q
def t_rblockR{β:Type}(c_ropens:a_ropens→Option g_ropens)(c_ris:a_ris→Option g_ris)(c_rmust:a_rmust→Option g_rmust)(c_rstatement:a_rstatement→Option g_rstatement)(l_rblockR_l0:rblockR_l0_a→Option rblockR_l0_g)(x:a_rblockR)(dn:g_rblockR→Option β):Option β:=
 (c_ropens (⟨#[123]⟩,x)).bind fun z12=>(l_rblockR_l0 (.inl (z12.2.2.2.2.1,z12.2.2.2.2.2.1,z12.2.2.2.2.2.2.1,z12.2.2.2.2.2.2.2.1,z12.2.2.2.2.2.2.2.2.1,z12.1,z12.2.1,z12.2.2.1,z12.2.2.2.1,z12.2.2.2.2.2.2.2.2.2))).bind fun z445=>Sum.elim (fun z445a=>(c_rmust (⟨#[125]⟩,z445a.2.2.2.2.2.1,z445a.2.2.2.2.2.2.1,z445a.2.2.2.2.2.2.2.1,z445a.2.2.2.2.2.2.2.2.1,z445a.1,z445a.2.1,z445a.2.2.1,z445a.2.2.2.1,z445a.2.2.2.2.1,z445a.2.2.2.2.2.2.2.2.2)).bind fun z458=>dn (.inl (14,0,⟨#[]⟩,z458.1,w (z458.2.1-1),z458.2.2))) (fun z445b=>(c_rmust (⟨#[125]⟩,z445b.2.2.2.2.2.1,z445b.2.2.2.2.2.2.1,z445b.2.2.2.2.2.2.2.1,z445b.2.2.2.2.2.2.2.2.1,z445b.1,z445b.2.1,z445b.2.2.1,z445b.2.2.2.1,z445b.2.2.2.2.1,z445b.2.2.2.2.2.2.2.2.2.1,z445b.2.2.2.2.2.2.2.2.2.2.1)).bind fun z472=>dn (.inr (14,0,⟨#[]⟩,z445b.2.2.2.2.2.2.2.2.2.2.2.1,fun j=>[i64 (z445b.2.2.2.2.2.2.2.2.2.2.2.2.1 j),i64 (z445b.2.2.2.2.2.2.2.2.2.2.2.2.2.1 j),st (z445b.2.2.2.2.2.2.2.2.2.2.2.2.2.2.1 j),V.ro 4 (z445b.2.2.2.2.2.2.2.2.2.2.2.2.2.2.2.1 j) (z445b.2.2.2.2.2.2.2.2.2.2.2.2.2.2.2.2 j)],z472.1,w (z472.2.1-1),z472.2.2))) z445
theorem n_rblockR{β:Type}(c_ropens c_ris)(c_rmust c_rstatement)(l_rblockR_l0)(x)(dn:g_rblockR→Option β):t_rblockR c_ropens c_ris c_rmust c_rstatement l_rblockR_l0 x dn=(t_rblockR c_ropens c_ris c_rmust c_rstatement l_rblockR_l0 x some).bind dn:=by
 unfold t_rblockR
 repeat' first|exact n0|refine n1 fun _=>?_|refine n2 ?_ ?_|refine n3 (fun _=>?_) fun _=>?_|rfl
theorem r_rblockR(c_ropens c_ris)(c_rmust c_rstatement)(l_rblockR_l0)(x):callK E5 (ftb 66 A_ropens R_ropens c_ropens (ftb 64 A_ris R_ris c_ris (ftb 25 A_rmust R_rmust c_rmust (ftb 67 A_rstatement R_rstatement c_rstatement ca0)))) (lt2 0 (fun _=>true) (bodyOf E5 28 0) (rblockR_l0_S x) (rblockR_l0_T x) l_rblockR_l0 lo0) 28 (A_rblockR x).1 (A_rblockR x).2 K=t_rblockR (vf A_ropens c_ropens) (vf A_ris c_ris) (vf A_rmust c_rmust) (vf A_rstatement c_rstatement) (lf (bodyOf E5 28 0) (rblockR_l0_S x) l_rblockR_l0) x (fun z=>some (.c (R_rblockR z))):=by kernel_rfl
theorem s_rblockR(c_ropens)(h_ropens:Lw E5 66 A_ropens R_ropens c_ropens)(c_ris)(h_ris:Lw E5 64 A_ris R_ris c_ris)(c_rmust)(h_rmust:Lw E5 25 A_rmust R_rmust c_rmust)(c_rstatement)(h_rstatement:Lw E5 67 A_rstatement R_rstatement c_rstatement)(q:Nat):Lw E5 28 A_rblockR R_rblockR fun x=>t_rblockR c_ropens c_ris c_rmust c_rstatement (rblockR_l0 c_ropens c_ris c_rmust c_rstatement q x) x some:=sof hW5 hX5 (fk h_ropens (fk h_ris (fk h_rmust (fk h_rstatement ca0_sound)))) (fun x=>(lk2 (rblockR_l0_s c_ropens h_ropens c_ris h_ris c_rmust h_rmust c_rstatement h_rstatement q x) lo0_sound)) fun x=>(r_rblockR c_ropens c_ris c_rmust c_rstatement (rblockR_l0 c_ropens c_ris c_rmust c_rstatement q x) x).trans (by rw[v_ropens,v_ris,v_rmust,v_rstatement,rblockR_l0_u,n_rblockR]<;>rfl)
def t_rwordedR{β:Type}(c_rnameV:a_rnameV→Option g_rnameV)(c_rmust:a_rmust→Option g_rmust)(c_rexpr:a_rexpr→Option g_rexpr)(c_rblock:a_rblock→Option g_rblock)(c_rtake:a_rtake→Option g_rtake)(c_rnumber:a_rnumber→Option g_rnumber)(c_rliteral:a_rliteral→Option g_rliteral)(c_one:a_one→Option g_one)(c_rnumbered:a_rnumbered→Option g_rnumbered)(c_endedK:a_endedK→Option g_endedK)(c_endedO:a_endedO→Option g_endedO)(c_rfail:a_rfail→Option g_rfail)(x:a_rwordedR)(dn:g_rwordedR→Option β):Option β:=
 if(x.1.toList==ByteArray.toList ⟨#[108,101,116]⟩)=true then(c_rnameV (12,w (x.2.1+1),x.2.2)).bind fun z12=>if(z12.2.2.2.2.2.2.2.2.2.2.1+1)*16≤roomBound∧z12.2.2.2.2.2.2.2.2.2.2.1+1≤maxLen∧z12.2.2.2.2.2.2.2.2.2.2.1≤z12.2.2.2.2.2.2.2.2.2.2.1 then(c_rmust (⟨#[61]⟩,z12.2.1,z12.2.2.1,z12.2.2.2.1,z12.2.2.2.2.1,z12.2.2.2.2.2.1,z12.2.2.2.2.2.2.1,z12.2.2.2.2.2.2.2.1,z12.2.2.2.2.2.2.2.2.1,z12.2.2.2.2.2.2.2.2.2.1,z12.2.2.2.2.2.2.2.2.2.2.1+1,fun j=>if j<z12.2.2.2.2.2.2.2.2.2.2.1 then z12.2.2.2.2.2.2.2.2.2.2.2 j else z12.1)).bind fun z25=>(c_rexpr (1,z25)).bind fun z38=>(c_endedK (1,0,z12.1,1,selL [[i64 z38.1,i64 z38.2.1,st z38.2.2.1,V.ro 4 z38.2.2.2.1 z38.2.2.2.2.1]],z38.2.2.2.2.2)).bind fun z55=>dn (.inl z55)else none else if(x.1.toList==ByteArray.toList ⟨#[105,102]⟩)=true then(c_rexpr (1,w (x.2.1+1),x.2.2)).bind fun z68=>(c_rblock z68.2.2.2.2.2).bind fun z80=>(c_rtake (⟨#[101,108,115,101]⟩,z80.2.2.2.2.2)).bind fun z93=>if z93.1=true then(c_rblock z93.2).bind fun z105=>dn (.inr (.inl (3,0,⟨#[]⟩,selL [[i64 z68.1,i64 z68.2.1,st z68.2.2.1,V.ro 4 z68.2.2.2.1 z68.2.2.2.2.1],[i64 z80.1,i64 z80.2.1,st z80.2.2.1,V.ro 4 z80.2.2.2.1 z80.2.2.2.2.1],[i64 z105.1,i64 z105.2.1,st z105.2.2.1,V.ro 4 z105.2.2.2.1 z105.2.2.2.2.1]],z105.2.2.2.2.2)))else dn (.inr (.inl (3,0,⟨#[]⟩,selL [[i64 z68.1,i64 z68.2.1,st z68.2.2.1,V.ro 4 z68.2.2.2.1 z68.2.2.2.2.1],[i64 z80.1,i64 z80.2.1,st z80.2.2.1,V.ro 4 z80.2.2.2.1 z80.2.2.2.2.1],[i64 14,i64 0,st ⟨#[]⟩,nilS]],z93.2)))else if(x.1.toList==ByteArray.toList ⟨#[114,101,112,101,97,116]⟩)=true then(c_rnumber (1,100,w (x.2.1+1),x.2.2)).bind fun z119=>(c_rblock z119.2).bind fun z131=>dn (.inr (.inr (.inl (4,z119.1,⟨#[]⟩,z131))))else if(x.1.toList==ByteArray.toList ⟨#[119,97,105,116]⟩)=true then(c_rliteral (w (x.2.1+1),x.2.2)).bind fun z143=>(c_one (5,z143.1,z143.2.1,z143.2.2.1,z143.2.2.2.1,z143.2.2.2.2.1)).bind fun z150=>(c_endedO (z150.1,0,⟨#[]⟩,1,fun j=>[i64 z150.2.1,i64 z150.2.2.1,st z150.2.2.2.1,V.ro 4 z150.2.2.2.2.1 z150.2.2.2.2.2],z143.2.2.2.2.2)).bind fun z167=>dn (.inl z167)else if(x.1.toList==ByteArray.toList ⟨#[97,119,97,105,116]⟩)=true then(c_rexpr (1,w (x.2.1+1),x.2.2)).bind fun z180=>(c_rmust (⟨#[119,105,116,104,105,110]⟩,z180.2.2.2.2.2)).bind fun z193=>(c_rliteral z193).bind fun z205=>(c_endedK (6,0,⟨#[]⟩,2,selL [[i64 z180.1,i64 z180.2.1,st z180.2.2.1,V.ro 4 z180.2.2.2.1 z180.2.2.2.2.1],[i64 z205.1,i64 z205.2.1,st z205.2.2.1,V.ro 4 z205.2.2.2.1 z205.2.2.2.2.1]],z205.2.2.2.2.2)).bind fun z222=>dn (.inl z222)else if(x.1.toList==ByteArray.toList ⟨#[114,101,113,117,105,114,101]⟩)=true then(c_rexpr (1,w (x.2.1+1),x.2.2)).bind fun z235=>(c_one (7,z235.1,z235.2.1,z235.2.2.1,z235.2.2.2.1,z235.2.2.2.2.1)).bind fun z242=>(c_endedO (z242.1,0,⟨#[]⟩,1,fun j=>[i64 z242.2.1,i64 z242.2.2.1,st z242.2.2.2.1,V.ro 4 z242.2.2.2.2.1 z242.2.2.2.2.2],z235.2.2.2.2.2)).bind fun z259=>dn (.inl z259)else if(x.1.toList==ByteArray.toList ⟨#[112,111,105,110,116]⟩)=true then(c_rexpr (1,w (x.2.1+1),x.2.2)).bind fun z272=>(c_one (8,z272.1,z272.2.1,z272.2.2.1,z272.2.2.2.1,z272.2.2.2.2.1)).bind fun z279=>(c_endedO (z279.1,0,⟨#[]⟩,1,fun j=>[i64 z279.2.1,i64 z279.2.2.1,st z279.2.2.2.1,V.ro 4 z279.2.2.2.2.1 z279.2.2.2.2.2],z272.2.2.2.2.2)).bind fun z296=>dn (.inl z296)else if(x.1.toList==ByteArray.toList ⟨#[117,115,101]⟩)=true then(c_rnumbered (9,7,⟨#[102,111,114]⟩,w (x.2.1+1),x.2.2)).bind fun z311=>dn (.inl z311)else if(x.1.toList==ByteArray.toList ⟨#[115,101,110,100]⟩)=true then(c_rnumbered (10,7,⟨#[44]⟩,w (x.2.1+1),x.2.2)).bind fun z326=>dn (.inl z326)else if(x.1.toList==ByteArray.toList ⟨#[107,101,101,112]⟩)=true then(c_rliteral (w (x.2.1+1),x.2.2)).bind fun z338=>(c_one (11,z338.1,z338.2.1,z338.2.2.1,z338.2.2.2.1,z338.2.2.2.2.1)).bind fun z345=>(c_endedO (z345.1,0,⟨#[]⟩,1,fun j=>[i64 z345.2.1,i64 z345.2.2.1,st z345.2.2.2.1,V.ro 4 z345.2.2.2.2.1 z345.2.2.2.2.2],z338.2.2.2.2.2)).bind fun z362=>dn (.inl z362)else if(x.1.toList==ByteArray.toList ⟨#[101,109,105,116]⟩)=true then(c_rnumbered (12,99,⟨#[]⟩,w (x.2.1+1),x.2.2)).bind fun z377=>dn (.inl z377)else if(x.1.toList==ByteArray.toList ⟨#[97,98,111,114,116]⟩)=true then(c_rnumbered (13,999,⟨#[]⟩,w (x.2.1+1),x.2.2)).bind fun z392=>dn (.inl z392)else(c_rfail (11,x.2)).bind fun z405=>dn (.inr (.inr (.inr (0,0,⟨#[]⟩,z405))))
theorem n_rwordedR{β:Type}(c_rnameV c_rmust)(c_rexpr c_rblock)(c_rtake c_rnumber)(c_rliteral c_one)(c_rnumbered c_endedK)(c_endedO c_rfail)(x)(dn:g_rwordedR→Option β):t_rwordedR c_rnameV c_rmust c_rexpr c_rblock c_rtake c_rnumber c_rliteral c_one c_rnumbered c_endedK c_endedO c_rfail x dn=(t_rwordedR c_rnameV c_rmust c_rexpr c_rblock c_rtake c_rnumber c_rliteral c_one c_rnumbered c_endedK c_endedO c_rfail x some).bind dn:=by
 unfold t_rwordedR
 repeat' first|exact n0|refine n1 fun _=>?_|refine n2 ?_ ?_|refine n3 (fun _=>?_) fun _=>?_|rfl
theorem r_rwordedR(c_rnameV c_rmust)(c_rexpr c_rblock)(c_rtake c_rnumber)(c_rliteral c_one)(c_rnumbered c_endedK)(c_endedO c_rfail)(x):callK E5 (ftg 26 (fun a L=> !isNilV (a.getD 1 .junk)&&L.length==2) A_rnameV R_rnameV c_rnameV (ftb 25 A_rmust R_rmust c_rmust (ftb 97 A_rexpr R_rexpr c_rexpr (ftb 28 A_rblock R_rblock c_rblock (ftb 60 A_rtake R_rtake c_rtake (ftb 119 A_rnumber R_rnumber c_rnumber (ftb 120 A_rliteral R_rliteral c_rliteral (ftb 99 A_one R_one c_one (ftb 121 A_rnumbered R_rnumbered c_rnumbered (ftg 96 (fun a L=>L.length==3) A_endedK R_endedK c_endedK (ftg 96 (fun a L=>L.length==2&& !(isNilV ((vAg (a.getD 1 .junk)).getD 3 .junk))) A_endedO R_endedO c_endedO (ftb 61 A_rfail R_rfail c_rfail ca0)))))))))))) lo0 95 (A_rwordedR x).1 (A_rwordedR x).2 K=t_rwordedR (vf A_rnameV c_rnameV) (vf A_rmust c_rmust) (vf A_rexpr c_rexpr) (vf A_rblock c_rblock) (vf A_rtake c_rtake) (vf A_rnumber c_rnumber) (vf A_rliteral c_rliteral) (vf A_one c_one) (vf A_rnumbered c_rnumbered) (vf A_endedK c_endedK) (vf A_endedO c_endedO) (vf A_rfail c_rfail) x (fun z=>some (.c (R_rwordedR z))):=by kernel_rfl
theorem s_rwordedR(c_rnameV)(h_rnameV:Lw E5 26 A_rnameV R_rnameV c_rnameV)(c_rmust)(h_rmust:Lw E5 25 A_rmust R_rmust c_rmust)(c_rexpr)(h_rexpr:Lw E5 97 A_rexpr R_rexpr c_rexpr)(c_rblock)(h_rblock:Lw E5 28 A_rblock R_rblock c_rblock)(c_rtake)(h_rtake:Lw E5 60 A_rtake R_rtake c_rtake)(c_rnumber)(h_rnumber:Lw E5 119 A_rnumber R_rnumber c_rnumber)(c_rliteral)(h_rliteral:Lw E5 120 A_rliteral R_rliteral c_rliteral)(c_one)(h_one:Lw E5 99 A_one R_one c_one)(c_rnumbered)(h_rnumbered:Lw E5 121 A_rnumbered R_rnumbered c_rnumbered)(c_endedK)(h_endedK:Lw E5 96 A_endedK R_endedK c_endedK)(c_endedO)(h_endedO:Lw E5 96 A_endedO R_endedO c_endedO)(c_rfail)(h_rfail:Lw E5 61 A_rfail R_rfail c_rfail)(q:Nat):Lw E5 95 A_rwordedR R_rwordedR fun x=>t_rwordedR c_rnameV c_rmust c_rexpr c_rblock c_rtake c_rnumber c_rliteral c_one c_rnumbered c_endedK c_endedO c_rfail x some:=sof hW5 hX5 (fk h_rnameV (fk h_rmust (fk h_rexpr (fk h_rblock (fk h_rtake (fk h_rnumber (fk h_rliteral (fk h_one (fk h_rnumbered (fk h_endedK (fk h_endedO (fk h_rfail ca0_sound)))))))))))) (fun _=>lo0_sound) fun x=>(r_rwordedR c_rnameV c_rmust c_rexpr c_rblock c_rtake c_rnumber c_rliteral c_one c_rnumbered c_endedK c_endedO c_rfail x).trans (by rw[v_rnameV,v_rmust,v_rexpr,v_rblock,v_rtake,v_rnumber,v_rliteral,v_one,v_rnumbered,v_endedK,v_endedO,v_rfail,n_rwordedR]<;>rfl)
def t_rstatementR{β:Type}(c_RReserved:a_RReserved→Option g_RReserved)(c_rworded:a_rworded→Option g_rworded)(c_rnameZ:a_rnameZ→Option g_rnameZ)(c_rmust:a_rmust→Option g_rmust)(c_rexpr:a_rexpr→Option g_rexpr)(c_endedK:a_endedK→Option g_endedK)(x:a_rstatementR)(dn:g_rstatementR→Option β):Option β:=
 if 0≤x.1∧x.1< ((x.2.2.2.2.1:Nat):Int)then if 0≤x.1∧x.1< ((x.2.2.2.2.1:Nat):Int)then if(x.2.2.2.2.2.1 (Int.toNat x.1)==1)=true then(c_RReserved (x.2.2.2.2.2.2.2.1 (Int.toNat x.1))).bind fun z1=>if z1=true then(c_rworded (x.2.2.2.2.2.2.2.1 (Int.toNat x.1),x)).bind fun z14=>dn z14 else(c_rnameZ (1,x)).bind fun z27=>(c_rmust (⟨#[61]⟩,z27.2)).bind fun z40=>(c_rexpr (1,z40)).bind fun z53=>(c_endedK (2,0,z27.1,1,selL [[i64 z53.1,i64 z53.2.1,st z53.2.2.1,V.ro 4 z53.2.2.2.1 z53.2.2.2.2.1]],z53.2.2.2.2.2)).bind fun z70=>dn z70 else(c_rnameZ (1,x)).bind fun z83=>(c_rmust (⟨#[61]⟩,z83.2)).bind fun z96=>(c_rexpr (1,z96)).bind fun z109=>(c_endedK (2,0,z83.1,1,selL [[i64 z109.1,i64 z109.2.1,st z109.2.2.1,V.ro 4 z109.2.2.2.1 z109.2.2.2.2.1]],z109.2.2.2.2.2)).bind fun z126=>dn z126 else none else none
theorem n_rstatementR{β:Type}(c_RReserved c_rworded)(c_rnameZ c_rmust)(c_rexpr c_endedK)(x)(dn:g_rstatementR→Option β):t_rstatementR c_RReserved c_rworded c_rnameZ c_rmust c_rexpr c_endedK x dn=(t_rstatementR c_RReserved c_rworded c_rnameZ c_rmust c_rexpr c_endedK x some).bind dn:=by
 unfold t_rstatementR
 repeat' first|exact n0|refine n1 fun _=>?_|refine n2 ?_ ?_|refine n3 (fun _=>?_) fun _=>?_|rfl
theorem r_rstatementR(c_RReserved c_rworded)(c_rnameZ c_rmust)(c_rexpr c_endedK)(x):callK E5 (ftb 62 A_RReserved R_RReserved c_RReserved (ftb 95 A_rworded R_rworded c_rworded (ftg 26 (fun a L=>isNilV (a.getD 1 .junk)) A_rnameZ R_rnameZ c_rnameZ (ftb 25 A_rmust R_rmust c_rmust (ftb 97 A_rexpr R_rexpr c_rexpr (ftg 96 (fun a L=>L.length==3) A_endedK R_endedK c_endedK ca0)))))) lo0 67 (A_rstatementR x).1 (A_rstatementR x).2 K=t_rstatementR (vf A_RReserved c_RReserved) (vf A_rworded c_rworded) (vf A_rnameZ c_rnameZ) (vf A_rmust c_rmust) (vf A_rexpr c_rexpr) (vf A_endedK c_endedK) x (fun z=>some (.c (R_rstatementR z))):=by kernel_rfl
theorem s_rstatementR(c_RReserved)(h_RReserved:Lw E5 62 A_RReserved R_RReserved c_RReserved)(c_rworded)(h_rworded:Lw E5 95 A_rworded R_rworded c_rworded)(c_rnameZ)(h_rnameZ:Lw E5 26 A_rnameZ R_rnameZ c_rnameZ)(c_rmust)(h_rmust:Lw E5 25 A_rmust R_rmust c_rmust)(c_rexpr)(h_rexpr:Lw E5 97 A_rexpr R_rexpr c_rexpr)(c_endedK)(h_endedK:Lw E5 96 A_endedK R_endedK c_endedK)(q:Nat):Lw E5 67 A_rstatementR R_rstatementR fun x=>t_rstatementR c_RReserved c_rworded c_rnameZ c_rmust c_rexpr c_endedK x some:=sof hW5 hX5 (fk h_RReserved (fk h_rworded (fk h_rnameZ (fk h_rmust (fk h_rexpr (fk h_endedK ca0_sound)))))) (fun _=>lo0_sound) fun x=>(r_rstatementR c_RReserved c_rworded c_rnameZ c_rmust c_rexpr c_endedK x).trans (by rw[v_RReserved,v_rworded,v_rnameZ,v_rmust,v_rexpr,v_endedK,n_rstatementR]<;>rfl)
def cv_rblock:g_rblockR→g_rblock:=Sum.elim (fun z=>(z.1,z.2.1,z.2.2.1,0,fun _=>[],z.2.2.2)) (fun z=>z)
theorem cvs_rblock{args:List V}{L:List (Option Chunk)}(z:g_rblockR)(h:SC E5 28 args L (R_rblockR z)):SC E5 28 args L (R_rblock (cv_rblock z)):=by
 rcases z with z|z
 ·exact cy_z h
 ·exact cy_r h
def cv_rworded:g_rwordedR→g_rworded:=Sum.elim (fun z=>z) (Sum.elim (fun z=>(z.1,z.2.1,z.2.2.1,3,fun j=>fixC (z.2.2.2.1 j),z.2.2.2.2)) (Sum.elim (fun z=>(z.1,z.2.1,z.2.2.1,1,selL [[i64 z.2.2.2.1,i64 z.2.2.2.2.1,st z.2.2.2.2.2.1,.ro 4 z.2.2.2.2.2.2.1 z.2.2.2.2.2.2.2.1]],z.2.2.2.2.2.2.2.2)) (fun z=>(z.1,z.2.1,z.2.2.1,0,fun _=>[],z.2.2.2))))
theorem cvs_rworded{args:List V}{L:List (Option Chunk)}(z:g_rwordedR)(h:SC E5 95 args L (R_rwordedR z)):SC E5 95 args L (R_rworded (cv_rworded z)):=by
 rcases z with z|z|z|z
 ·exact h
 ·exact cy_F h
 ·exact cy_k h
 ·exact cy_z h
def cv_rstatement:g_rstatementR→g_rstatement:=fun z=>z
theorem cvs_rstatement{args:List V}{L:List (Option Chunk)}(z:g_rstatementR)(h:SC E5 67 args L (R_rstatementR z)):SC E5 67 args L (R_rstatement (cv_rstatement z)):=by
 exact h
noncomputable def rstS:Nat→(a_rblock→Option g_rblock)×(a_rworded→Option g_rworded)×(a_rstatement→Option g_rstatement)
 |0=>(fun _=>none,fun _=>none,fun _=>none)
 |q+1=>(fun x=>(t_rblockR ((ropens q)) ((ris q)) ((rmust q)) ((rstS q).2.2) (rblockR_l0 ((ropens q)) ((ris q)) ((rmust q)) ((rstS q).2.2) q x) x some).map cv_rblock,
  fun x=>(t_rwordedR ((rnameV q)) ((rmust q)) ((rexpr q)) ((rstS q).1) ((rtake q)) ((rnumber q)) ((rliteral q)) ((one q)) ((rnumbered q)) ((endedK q)) ((endedO q)) ((rfail q)) x some).map cv_rworded,
  fun x=>(t_rstatementR ((RReserved q)) ((rstS q).2.1) ((rnameZ q)) ((rmust q)) ((rexpr q)) ((endedK q)) x some).map cv_rstatement)
theorem rstS_sc:∀q,(∀x z,(rstS q).1 x=some z→SC E5 28 (A_rblock x).1 (A_rblock x).2 (R_rblock z))∧(∀x z,(rstS q).2.1 x=some z→SC E5 95 (A_rworded x).1 (A_rworded x).2 (R_rworded z))∧(∀x z,(rstS q).2.2 x=some z→SC E5 67 (A_rstatement x).1 (A_rstatement x).2 (R_rstatement z))
 |0=>⟨(fun x z h=>by cases h),(fun x z h=>by cases h),(fun x z h=>by cases h)⟩
 |q+1=>by
  obtain⟨h0,h1,h2⟩:=rstS_sc q
  exact⟨(fun x z h=>by
   obtain⟨y,hy,rfl⟩:=Option.map_eq_some_iff.1 h
   exact cvs_rblock y (s_rblockR ((ropens q)) (u7 (sc_ropens q) fun _=>by kernel_rfl) ((ris q)) (u7 (sc_ris q) fun _=>by kernel_rfl) ((rmust q)) (u7 (sc_rmust q) fun _=>by kernel_rfl) ((rstS q).2.2) (h2) q x y hy)),(fun x z h=>by
   obtain⟨y,hy,rfl⟩:=Option.map_eq_some_iff.1 h
   exact cvs_rworded y (s_rwordedR ((rnameV q)) (u7 (sc_rnameV q) fun _=>by kernel_rfl) ((rmust q)) (u7 (sc_rmust q) fun _=>by kernel_rfl) ((rexpr q)) ((sc_rexpr q)) ((rstS q).1) (h0) ((rtake q)) (u7 (sc_rtake q) fun _=>by kernel_rfl) ((rnumber q)) (u7 (sc_rnumber q) fun _=>by kernel_rfl) ((rliteral q)) ((sc_rliteral q)) ((one q)) ((sc_one q)) ((rnumbered q)) ((sc_rnumbered q)) ((endedK q)) ((sc_endedK q)) ((endedO q)) ((sc_endedO q)) ((rfail q)) (u7 (sc_rfail q) fun _=>by kernel_rfl) q x y hy)),(fun x z h=>by
   obtain⟨y,hy,rfl⟩:=Option.map_eq_some_iff.1 h
   exact cvs_rstatement y (s_rstatementR ((RReserved q)) (u7 (sc_RReserved q) fun _=>by kernel_rfl) ((rstS q).2.1) (h1) ((rnameZ q)) (u7 (sc_rnameZ q) fun _=>by kernel_rfl) ((rmust q)) (u7 (sc_rmust q) fun _=>by kernel_rfl) ((rexpr q)) ((sc_rexpr q)) ((endedK q)) ((sc_endedK q)) q x y hy))⟩
noncomputable def rblock(q:Nat):a_rblock→Option g_rblock:=(rstS q).1
theorem sc_rblock(q:Nat):Lw E5 28 A_rblock R_rblock (rblock q):=(rstS_sc q).1
noncomputable def rworded(q:Nat):a_rworded→Option g_rworded:=(rstS q).2.1
noncomputable def rstatement(q:Nat):a_rstatement→Option g_rstatement:=(rstS q).2.2
end Go.Proofs.YtjfkkokeegpeiaaGreatDoor
/- Expressions, lifted. -/
namespace Go.Proofs.YtjfkkokeegpeiaaGreatDoor
open Go Go.Am Go.Proofs
set_option maxRecDepth 100000
theorem cv_z{f:FuncId}{args:List V}{L H:List (Option Chunk)}{a b:Int}{s:ByteArray}{g:Nat→List V}(h:SC E5 f args L (.ret (.agg [i64 a,i64 b,st s,nilS]) H)):SC E5 f args L (.ret (.agg [i64 a,i64 b,st s,.ro 4 0 g]) H):=
 SC.le h (Le.agg (LeL.cons (Le.refl _) (LeL.cons (Le.refl _) (LeL.cons (Le.refl _) (LeL.cons Le.nil_ro LeL.nil)))))
theorem cv_r{f:FuncId}{args:List V}{L:List (Option Chunk)}{a b pa po:Int}{s:ByteArray}{tn nv np m:Nat}{tf vf pf g:Nat→List V}
 (h:SC E5 f args L (.ret (.agg [i64 a,i64 b,st s,.sl 3 4 0 m]) [some (.blk [.ro 4 tn tf,i64 pa,i64 po,.sl 1 1 0 nv,.sl 2 1 0 np]),some (.row 9 1 nv vf),some (.row 9 1 np pf),some (.row 35 4 m g)])):
 SC E5 f args L (.ret (.agg [i64 a,i64 b,st s,.ro 4 m g]) [some (.blk [.ro 4 tn tf,i64 pa,i64 po,.sl 1 1 0 nv,.sl 2 1 0 np]),some (.row 9 1 nv vf),some (.row 9 1 np pf)]):=by
 have h2:=SC.giveM (L2:=[some (.blk [.ro 4 tn tf,i64 pa,i64 po,.sl 1 1 0 nv,.sl 2 1 0 np]),some (.row 9 1 nv vf),some (.row 9 1 np pf)]) 3 h (by rfl) (by simp[V.bw,V.bw2,V.bw1,hp,V.pure,pureL])
 simpa[V.bw,V.bw2,V.bw1,hp]using h2
theorem cv_k{f:FuncId}{args:List V}{L:List (Option Chunk)}{a b pa po:Int}{s:ByteArray}{tn nv np m:Nat}{tf vf pf g:Nat→List V}
 (h:SC E5 f args L (.ret (.agg [i64 a,i64 b,st s,.sl 3 4 0 m]) [some (.blk [.ro 4 tn tf,i64 pa,i64 po,.sl 1 1 0 nv,.sl 2 1 0 np]),some (.row 9 1 nv vf),some (.row 9 1 np pf),some (.row 35 4 m g)])):
 SC E5 f args L (.ret (.agg [i64 a,i64 b,st s,.ro 4 m g]) [some (.blk [.ro 4 tn tf,i64 pa,i64 po,.sl 1 1 0 nv,.sl 2 1 0 np]),some (.row 9 1 nv vf),some (.row 9 1 np pf)]):=cv_r h
theorem cv_F{f:FuncId}{args:List V}{L:List (Option Chunk)}{a b pa po:Int}{s:ByteArray}{tn nv np m:Nat}{tf vf pf g:Nat→List V}
 (h:SC E5 f args L (.ret (.agg [i64 a,i64 b,st s,.sl 3 4 0 m]) [some (.blk [.ro 4 tn tf,i64 pa,i64 po,.sl 1 1 0 nv,.sl 2 1 0 np]),some (.row 9 1 nv vf),some (.row 9 1 np pf),some (.row 35 4 m g)])):
 SC E5 f args L (.ret (.agg [i64 a,i64 b,st s,.ro 4 m (fun j=>fixC (g j))]) [some (.blk [.ro 4 tn tf,i64 pa,i64 po,.sl 1 1 0 nv,.sl 2 1 0 np]),some (.row 9 1 nv vf),some (.row 9 1 np pf)]):=
 SC.le (cv_r h) (Le.agg (LeL.cons (Le.refl _) (LeL.cons (Le.refl _) (LeL.cons (Le.refl _) (LeL.cons Le.ro_fix LeL.nil)))))
abbrev a_literalR:Type:=SP
abbrev g_literalR:Type:=(Int×Int×ByteArray×SP)⊕(Int×Int)
def A_literalR:AR a_literalR:=fun x=>([.ptr 0 0],(hHP x))
def R_literalR:g_literalR→CRes:=Sum.elim (fun z:Int×Int×ByteArray×SP=>.ret (.agg [i64 z.1,i64 z.2.1,st z.2.2.1,nilS]) (hHP z.2.2.2)) (fun z:Int×Int=>.pan (.ifc 45 (.agg [i64 z.1,i64 z.2])))
def t_literalR{β:Type}(c_number:a_number→Option g_number)(c_next:a_next→Option g_next)(c_Lookup:a_Lookup→Option g_Lookup)(x:a_literalR)(dn:g_literalR→Option β):Option β:=
 (c_number (0,2147483647,x)).bind fun z13=>Sum.elim (fun z13a=>(c_next z13a.2).bind fun z25=>if(z25.1==1)=true then(c_Lookup z25.2.2.1).bind fun z27=>if z27.2.2.2.2.2.2=true then dn (.inl (15,z13a.1,z25.2.2.1,w (z25.2.2.2.2.1+1),z25.2.2.2.2.2))else dn (.inl (15,z13a.1,⟨#[]⟩,z25.2.2.2.2))else dn (.inl (15,z13a.1,⟨#[]⟩,z25.2.2.2.2))) (fun z13b=>dn (.inr z13b)) z13
theorem n_literalR{β:Type}(c_number c_next c_Lookup)(x)(dn:g_literalR→Option β):t_literalR c_number c_next c_Lookup x dn=(t_literalR c_number c_next c_Lookup x some).bind dn:=by
 unfold t_literalR
 repeat' first|exact n0|refine n1 fun _=>?_|refine n2 ?_ ?_|refine n3 (fun _=>?_) fun _=>?_|rfl
theorem r_literalR(c_number c_next c_Lookup)(x):callK E5 (ft2 137 A_number R_number c_number (ftb 22 A_next R_next c_next (ftb 87 A_Lookup R_Lookup c_Lookup ca0))) lo0 138 (A_literalR x).1 (A_literalR x).2 K=t_literalR (vf A_number c_number) (vf A_next c_next) (vf A_Lookup c_Lookup) x (fun z=>some (.c (R_literalR z))):=by kernel_rfl
noncomputable def literalR(q:Nat)(x:a_literalR):Option g_literalR:=t_literalR (number q) (next q) (Lookup q) x some
theorem sc_literalR(q:Nat):Lw E5 138 A_literalR R_literalR (literalR q):=sof hW5 hX5 (fk2 (sc_number q) (fk (sc_next q) (fk (sc_Lookup q) ca0_sound))) (fun _=>lo0_sound) fun x=>(r_literalR (number q) (next q) (Lookup q) x).trans (by rw[v_number,v_next,v_Lookup,n_literalR]<;>rfl)
abbrev a_literal:Type:=SP
abbrev g_literal:Type:=(Int×Int×ByteArray×Nat×FL×SP)⊕(Int×Int)
def A_literal:AR a_literal:=fun x=>([.ptr 0 0],(hHP x))
def d_literal(t:TT):a_literal:=(dHP t.2)
theorem v_literal:VI A_literal:=vd d_literal fun _=>rfl
def R_literal:g_literal→CRes:=Sum.elim (fun z:Int×Int×ByteArray×Nat×FL×SP=>.ret (.agg [i64 z.1,i64 z.2.1,st z.2.2.1,.ro 4 z.2.2.2.1 z.2.2.2.2.1]) (hHP z.2.2.2.2.2)) (fun z:Int×Int=>.pan (.ifc 45 (.agg [i64 z.1,i64 z.2])))
def cv_literal:g_literalR→g_literal:=Sum.elim (fun z=>.inl (z.1,z.2.1,z.2.2.1,0,fun _=>[],z.2.2.2)) (fun z=>.inr z)
theorem cvs_literal{args:List V}{L:List (Option Chunk)}(z:g_literalR)(h:SC E5 138 args L (R_literalR z)):SC E5 138 args L (R_literal (cv_literal z)):=by
 rcases z with z|z
 ·exact cv_z h
 ·exact h
noncomputable def literal(q:Nat)(x:a_literal):Option g_literal:=(literalR q x).map cv_literal
theorem sc_literal(q:Nat):Lw E5 138 A_literal R_literal (literal q):=by
 intro x z h
 obtain⟨y,hy,rfl⟩:=Option.map_eq_some_iff.1 h
 exact cvs_literal y (sc_literalR q x y hy)
abbrev a_expr:Type:=Int×SP
abbrev g_expr:Type:=(Int×Int×ByteArray×Nat×FL×SP)⊕(Int×Int)
def A_expr:AR a_expr:=fun x=>([.ptr 0 0,i64 x.1],(hHP x.2))
def d_expr(t:TT):a_expr:=((vI (ag t 1)),dHP t.2)
theorem v_expr:VI A_expr:=vd d_expr fun _=>rfl
def R_expr:g_expr→CRes:=Sum.elim (fun z:Int×Int×ByteArray×Nat×FL×SP=>.ret (.agg [i64 z.1,i64 z.2.1,st z.2.2.1,.ro 4 z.2.2.2.1 z.2.2.2.2.1]) (hHP z.2.2.2.2.2)) (fun z:Int×Int=>.pan (.ifc 45 (.agg [i64 z.1,i64 z.2])))
abbrev a_unary:Type:=ByteArray×Int×SP
abbrev g_unary:Type:=(Int×Int×ByteArray×Nat×FL×SP)⊕(Int×Int)
def A_unary:AR a_unary:=fun x=>([.ptr 0 0,st x.1,i64 x.2.1],(hHP x.2.2))
def d_unary(t:TT):a_unary:=((vS (ag t 1)),vI (ag t 2),dHP t.2)
theorem v_unary:VI A_unary:=vd d_unary fun _=>rfl
def R_unary:g_unary→CRes:=Sum.elim (fun z:Int×Int×ByteArray×Nat×FL×SP=>.ret (.agg [i64 z.1,i64 z.2.1,st z.2.2.1,.ro 4 z.2.2.2.1 z.2.2.2.2.1]) (hHP z.2.2.2.2.2)) (fun z:Int×Int=>.pan (.ifc 45 (.agg [i64 z.1,i64 z.2])))
abbrev a_primary:Type:=SP
abbrev g_primary:Type:=(Int×Int×ByteArray×Nat×FL×SP)⊕(Int×Int)
def A_primary:AR a_primary:=fun x=>([.ptr 0 0],(hHP x))
def d_primary(t:TT):a_primary:=(dHP t.2)
theorem v_primary:VI A_primary:=vd d_primary fun _=>rfl
def R_primary:g_primary→CRes:=Sum.elim (fun z:Int×Int×ByteArray×Nat×FL×SP=>.ret (.agg [i64 z.1,i64 z.2.1,st z.2.2.1,.ro 4 z.2.2.2.1 z.2.2.2.2.1]) (hHP z.2.2.2.2.2)) (fun z:Int×Int=>.pan (.ifc 45 (.agg [i64 z.1,i64 z.2])))
abbrev a_exprR:Type:=Int×SP
abbrev g_exprR:Type:=(Int×Int×ByteArray×Nat×FL×SP)⊕(Int×Int)⊕(Int×Int×ByteArray×Int×Int×ByteArray×Nat×FL×Int×Int×ByteArray×Nat×FL×SP)
def A_exprR:AR a_exprR:=fun x=>([.ptr 0 0,i64 x.1],(hHP x.2))
def R_exprR:g_exprR→CRes:=Sum.elim (fun z:Int×Int×ByteArray×Nat×FL×SP=>.ret (.agg [i64 z.1,i64 z.2.1,st z.2.2.1,.ro 4 z.2.2.2.1 z.2.2.2.2.1]) (hHP z.2.2.2.2.2)) (Sum.elim (fun z:Int×Int=>.pan (.ifc 45 (.agg [i64 z.1,i64 z.2]))) (fun z:Int×Int×ByteArray×Int×Int×ByteArray×Nat×FL×Int×Int×ByteArray×Nat×FL×SP=>.ret (.agg [i64 z.1,i64 z.2.1,st z.2.2.1,.sl 3 4 0 2]) [some (.blk [.ro 4 z.2.2.2.2.2.2.2.2.2.2.2.2.2.2.2.1 (fun j=>[i64 (z.2.2.2.2.2.2.2.2.2.2.2.2.2.2.2.2.1 j),i64 (z.2.2.2.2.2.2.2.2.2.2.2.2.2.2.2.2.2.1 j),st (z.2.2.2.2.2.2.2.2.2.2.2.2.2.2.2.2.2.2.1 j),i64 (z.2.2.2.2.2.2.2.2.2.2.2.2.2.2.2.2.2.2.2.1 j)]),i64 z.2.2.2.2.2.2.2.2.2.2.2.2.2.1,i64 z.2.2.2.2.2.2.2.2.2.2.2.2.2.2.1,.sl 1 1 0 z.2.2.2.2.2.2.2.2.2.2.2.2.2.2.2.2.2.2.2.2.1,.sl 2 1 0 z.2.2.2.2.2.2.2.2.2.2.2.2.2.2.2.2.2.2.2.2.2.2.1]),some (.row 9 1 z.2.2.2.2.2.2.2.2.2.2.2.2.2.2.2.2.2.2.2.2.1 (fun j=>[st (z.2.2.2.2.2.2.2.2.2.2.2.2.2.2.2.2.2.2.2.2.2.1 j)])),some (.row 9 1 z.2.2.2.2.2.2.2.2.2.2.2.2.2.2.2.2.2.2.2.2.2.2.1 (fun j=>[st (z.2.2.2.2.2.2.2.2.2.2.2.2.2.2.2.2.2.2.2.2.2.2.2 j)])),some (.row 35 4 2 (selL [[i64 z.2.2.2.1,i64 z.2.2.2.2.1,st z.2.2.2.2.2.1,.ro 4 z.2.2.2.2.2.2.1 z.2.2.2.2.2.2.2.1],[i64 z.2.2.2.2.2.2.2.2.1,i64 z.2.2.2.2.2.2.2.2.2.1,st z.2.2.2.2.2.2.2.2.2.2.1,.ro 4 z.2.2.2.2.2.2.2.2.2.2.2.1 z.2.2.2.2.2.2.2.2.2.2.2.2.1]]))]))
abbrev a_unaryR:Type:=ByteArray×Int×SP
abbrev g_unaryR:Type:=(Int×Int×ByteArray×Int×Int×ByteArray×Nat×FL×SP)⊕(Int×Int)
def A_unaryR:AR a_unaryR:=fun x=>([.ptr 0 0,st x.1,i64 x.2.1],(hHP x.2.2))
def R_unaryR:g_unaryR→CRes:=Sum.elim (fun z:Int×Int×ByteArray×Int×Int×ByteArray×Nat×FL×SP=>.ret (.agg [i64 z.1,i64 z.2.1,st z.2.2.1,.sl 3 4 0 1]) [some (.blk [.ro 4 z.2.2.2.2.2.2.2.2.2.2.1 (fun j=>[i64 (z.2.2.2.2.2.2.2.2.2.2.2.1 j),i64 (z.2.2.2.2.2.2.2.2.2.2.2.2.1 j),st (z.2.2.2.2.2.2.2.2.2.2.2.2.2.1 j),i64 (z.2.2.2.2.2.2.2.2.2.2.2.2.2.2.1 j)]),i64 z.2.2.2.2.2.2.2.2.1,i64 z.2.2.2.2.2.2.2.2.2.1,.sl 1 1 0 z.2.2.2.2.2.2.2.2.2.2.2.2.2.2.2.1,.sl 2 1 0 z.2.2.2.2.2.2.2.2.2.2.2.2.2.2.2.2.2.1]),some (.row 9 1 z.2.2.2.2.2.2.2.2.2.2.2.2.2.2.2.1 (fun j=>[st (z.2.2.2.2.2.2.2.2.2.2.2.2.2.2.2.2.1 j)])),some (.row 9 1 z.2.2.2.2.2.2.2.2.2.2.2.2.2.2.2.2.2.1 (fun j=>[st (z.2.2.2.2.2.2.2.2.2.2.2.2.2.2.2.2.2.2 j)])),some (.row 35 4 1 (selL [[i64 z.2.2.2.1,i64 z.2.2.2.2.1,st z.2.2.2.2.2.1,.ro 4 z.2.2.2.2.2.2.1 z.2.2.2.2.2.2.2.1]]))]) (fun z:Int×Int=>.pan (.ifc 45 (.agg [i64 z.1,i64 z.2])))
abbrev a_primaryR:Type:=SP
abbrev g_primaryR:Type:=(Int×Int×ByteArray×Nat×FL×SP)⊕(Int×Int)⊕(Int×Int×ByteArray×SP)
def A_primaryR:AR a_primaryR:=fun x=>([.ptr 0 0],(hHP x))
def R_primaryR:g_primaryR→CRes:=Sum.elim (fun z:Int×Int×ByteArray×Nat×FL×SP=>.ret (.agg [i64 z.1,i64 z.2.1,st z.2.2.1,.ro 4 z.2.2.2.1 z.2.2.2.2.1]) (hHP z.2.2.2.2.2)) (Sum.elim (fun z:Int×Int=>.pan (.ifc 45 (.agg [i64 z.1,i64 z.2]))) (fun z:Int×Int×ByteArray×SP=>.ret (.agg [i64 z.1,i64 z.2.1,st z.2.2.1,nilS]) (hHP z.2.2.2)))
abbrev exprR_l1_a:Type:=(Nat×FI×FI×FS×FI×Int×Int×Nat×Nat×FS×FS×Int×Int×ByteArray×Nat×FL)⊕(Nat×FI×FI×FS×FI×Int×Int×Nat×Nat×FS×FS×ByteArray×Int×Int×ByteArray×Nat×FL×Int×Int×ByteArray×Nat×FL)
abbrev exprR_l1_g:Type:=(Nat×FI×FI×FS×FI×Int×Int×Nat×Nat×FS×FS×ByteArray×Int×Int×ByteArray×Nat×FL×Int×Int×ByteArray×Nat×FL)⊕(Int×Int)⊕(Nat×FI×FI×FS×FI×Int×Int×Nat×Nat×FS×FS×Int×Int×ByteArray×Nat×FL)
def exprR_l1_S0(x:a_exprR)(y:Nat×FI×FI×FS×FI×Int×Int×Nat×Nat×FS×FS×Int×Int×ByteArray×Nat×FL):St:={fr:=[V.ptr 0 0,i64 x.1,V.junk,V.junk,V.ptr 3 0,V.ptr 4 0]++jk 61,H:=hp [some (hPB y),some (hPV y),some (hPQ y),some (Chunk.blk [i64 0,i64 0,st ⟨#[]⟩,nilS]),some (Chunk.blk [i64 y.2.2.2.2.2.2.2.2.2.2.2.1,i64 y.2.2.2.2.2.2.2.2.2.2.2.2.1,st y.2.2.2.2.2.2.2.2.2.2.2.2.2.1,V.ro 4 y.2.2.2.2.2.2.2.2.2.2.2.2.2.2.1 y.2.2.2.2.2.2.2.2.2.2.2.2.2.2.2])],nx:=5,rt:=1,me:=136}
def exprR_l1_d0(s:St):Nat×FI×FI×FS×FI×Int×Int×Nat×Nat×FS×FS×Int×Int×ByteArray×Nat×FL:=((vRoN (cb s 0 0)),dTI (cb s 0 0) 0,dTI (cb s 0 0) 1,dTS (cb s 0 0) 2,dTI (cb s 0 0) 3,vI (cb s 0 1),vI (cb s 0 2),vSlN (cb s 0 3),vSlN (cb s 0 4),dRS (s.H 1) 0,dRS (s.H 2) 0,vI (cb s 4 0),vI (cb s 4 1),vS (cb s 4 2),vRoN (cb s 4 3),vRoF (cb s 4 3))
def exprR_l1_S1(x:a_exprR)(y:Nat×FI×FI×FS×FI×Int×Int×Nat×Nat×FS×FS×ByteArray×Int×Int×ByteArray×Nat×FL×Int×Int×ByteArray×Nat×FL):St:={fr:=[V.ptr 0 0,i64 x.1,V.junk,V.junk,V.ptr 3 0,V.ptr 4 0]++jk 61,H:=hp [some (hPB y),some (hPV y),some (hPQ y),some (Chunk.blk [i64 0,i64 0,st ⟨#[]⟩,nilS]),some (Chunk.blk [i64 20,i64 0,st y.2.2.2.2.2.2.2.2.2.2.2.1,V.sl 5 4 0 2]),some (Chunk.row 35 4 2 (selL [[i64 y.2.2.2.2.2.2.2.2.2.2.2.2.1,i64 y.2.2.2.2.2.2.2.2.2.2.2.2.2.1,st y.2.2.2.2.2.2.2.2.2.2.2.2.2.2.1,V.ro 4 y.2.2.2.2.2.2.2.2.2.2.2.2.2.2.2.1 y.2.2.2.2.2.2.2.2.2.2.2.2.2.2.2.2.1],[i64 y.2.2.2.2.2.2.2.2.2.2.2.2.2.2.2.2.2.1,i64 y.2.2.2.2.2.2.2.2.2.2.2.2.2.2.2.2.2.2.1,st y.2.2.2.2.2.2.2.2.2.2.2.2.2.2.2.2.2.2.2.1,V.ro 4 y.2.2.2.2.2.2.2.2.2.2.2.2.2.2.2.2.2.2.2.2.1 y.2.2.2.2.2.2.2.2.2.2.2.2.2.2.2.2.2.2.2.2.2]]))],nx:=6,rt:=1,me:=136}
def exprR_l1_d1(s:St):Nat×FI×FI×FS×FI×Int×Int×Nat×Nat×FS×FS×ByteArray×Int×Int×ByteArray×Nat×FL×Int×Int×ByteArray×Nat×FL:=((vRoN (cb s 0 0)),dTI (cb s 0 0) 0,dTI (cb s 0 0) 1,dTS (cb s 0 0) 2,dTI (cb s 0 0) 3,vI (cb s 0 1),vI (cb s 0 2),vSlN (cb s 0 3),vSlN (cb s 0 4),dRS (s.H 1) 0,dRS (s.H 2) 0,vS (cb s 4 2),(vI (((chF (s.H 5)) 0).getD 0 .junk)),(vI (((chF (s.H 5)) 0).getD 1 .junk)),(vS (((chF (s.H 5)) 0).getD 2 .junk)),(vRoN (((chF (s.H 5)) 0).getD 3 .junk)),(vRoF (((chF (s.H 5)) 0).getD 3 .junk)),(vI (((chF (s.H 5)) 1).getD 0 .junk)),(vI (((chF (s.H 5)) 1).getD 1 .junk)),(vS (((chF (s.H 5)) 1).getD 2 .junk)),(vRoN (((chF (s.H 5)) 1).getD 3 .junk)),(vRoF (((chF (s.H 5)) 1).getD 3 .junk)))
def exprR_l1_S(x:a_exprR):exprR_l1_a→St:=(Sum.elim (exprR_l1_S0 x) (exprR_l1_S1 x))
def exprR_l1_d(s:St):exprR_l1_a:=(match s.nx==5 with|true=>(.inl (exprR_l1_d0 s)) |false=>(.inr (exprR_l1_d1 s)))
theorem exprR_l1_u(x:a_exprR):VL (exprR_l1_S x):=vl exprR_l1_d (fun y=>by rcases y with y|y<;>rfl)
def exprR_l1_T(x:a_exprR):exprR_l1_g→Ex×St:=(Sum.elim (fun z=>(Ex.exit 1,{fr:=jk 4++[V.ptr 3 0,V.ptr 4 0]++jk 61,H:=hp [some (hPB z),some (hPV z),some (hPQ z),some (Chunk.blk [i64 0,i64 0,st ⟨#[]⟩,nilS]),some (Chunk.blk [i64 20,i64 0,st z.2.2.2.2.2.2.2.2.2.2.2.1,V.sl 5 4 0 2]),some (Chunk.row 35 4 2 (selL [[i64 z.2.2.2.2.2.2.2.2.2.2.2.2.1,i64 z.2.2.2.2.2.2.2.2.2.2.2.2.2.1,st z.2.2.2.2.2.2.2.2.2.2.2.2.2.2.1,V.ro 4 z.2.2.2.2.2.2.2.2.2.2.2.2.2.2.2.1 z.2.2.2.2.2.2.2.2.2.2.2.2.2.2.2.2.1],[i64 z.2.2.2.2.2.2.2.2.2.2.2.2.2.2.2.2.2.1,i64 z.2.2.2.2.2.2.2.2.2.2.2.2.2.2.2.2.2.2.1,st z.2.2.2.2.2.2.2.2.2.2.2.2.2.2.2.2.2.2.2.1,V.ro 4 z.2.2.2.2.2.2.2.2.2.2.2.2.2.2.2.2.2.2.2.2.1 z.2.2.2.2.2.2.2.2.2.2.2.2.2.2.2.2.2.2.2.2.2]]))],nx:=6,rt:=1,me:=136})) (Sum.elim (fun z=>(Ex.panic (V.ifc 45 (V.agg [i64 z.1,i64 z.2])),{fr:=[V.junk]++jk 66,H:=hp [none],nx:=1,rt:=1,me:=136})) (fun z=>(Ex.exit 1,{fr:=jk 4++[V.ptr 3 0,V.ptr 4 0]++jk 61,H:=hp [some (hPB z),some (hPV z),some (hPQ z),some (Chunk.blk [i64 0,i64 0,st ⟨#[]⟩,nilS]),some (Chunk.blk [i64 z.2.2.2.2.2.2.2.2.2.2.2.1,i64 z.2.2.2.2.2.2.2.2.2.2.2.2.1,st z.2.2.2.2.2.2.2.2.2.2.2.2.2.1,V.ro 4 z.2.2.2.2.2.2.2.2.2.2.2.2.2.2.1 z.2.2.2.2.2.2.2.2.2.2.2.2.2.2.2])],nx:=5,rt:=1,me:=136}))))
def exprR_l1_t0{β:Type}(c_is:a_is→Option g_is)(c_unary:a_unary→Option g_unary)(c_primary:a_primary→Option g_primary)(c_expr:a_expr→Option g_expr)(c_next:a_next→Option g_next)(c_levelOf:a_levelOf→Option g_levelOf)(x:a_exprR)(y:Nat×FI×FI×FS×FI×Int×Int×Nat×Nat×FS×FS×Int×Int×ByteArray×Nat×FL)(nx:exprR_l1_a→Option β)(dn:exprR_l1_g→Option β):Option β:=
 (c_next (y.2.2.2.2.2.1,y.2.2.2.2.2.2.1,y.1,y.2.1,y.2.2.1,y.2.2.2.1,y.2.2.2.2.1,y.2.2.2.2.2.2.2.1,y.2.2.2.2.2.2.2.2.2.1,y.2.2.2.2.2.2.2.2.1,y.2.2.2.2.2.2.2.2.2.2.1)).bind fun z765=>(c_levelOf z765.2.2.1).bind fun z767=>if(z767==x.1)=true then(c_next z765.2.2.2.2).bind fun z779=>if(z779.1==3)=true then(c_next z779.2.2.2.2).bind fun z791=>(c_expr (w (x.1+1),w (z791.2.2.2.2.1+1),z791.2.2.2.2.2)).bind fun z804=>Sum.elim (fun z804a=>if(x.1==4)=true then dn (.inl (z804a.2.2.2.2.2.2.2.1,z804a.2.2.2.2.2.2.2.2.1,z804a.2.2.2.2.2.2.2.2.2.1,z804a.2.2.2.2.2.2.2.2.2.2.1,z804a.2.2.2.2.2.2.2.2.2.2.2.1,z804a.2.2.2.2.2.1,z804a.2.2.2.2.2.2.1,z804a.2.2.2.2.2.2.2.2.2.2.2.2.1,z804a.2.2.2.2.2.2.2.2.2.2.2.2.2.2.1,z804a.2.2.2.2.2.2.2.2.2.2.2.2.2.1,z804a.2.2.2.2.2.2.2.2.2.2.2.2.2.2.2,z791.2.2.1,y.2.2.2.2.2.2.2.2.2.2.2.1,y.2.2.2.2.2.2.2.2.2.2.2.2.1,y.2.2.2.2.2.2.2.2.2.2.2.2.2.1,y.2.2.2.2.2.2.2.2.2.2.2.2.2.2.1,y.2.2.2.2.2.2.2.2.2.2.2.2.2.2.2,z804a.1,z804a.2.1,z804a.2.2.1,z804a.2.2.2.1,z804a.2.2.2.2.1))else nx (.inr (z804a.2.2.2.2.2.2.2.1,z804a.2.2.2.2.2.2.2.2.1,z804a.2.2.2.2.2.2.2.2.2.1,z804a.2.2.2.2.2.2.2.2.2.2.1,z804a.2.2.2.2.2.2.2.2.2.2.2.1,z804a.2.2.2.2.2.1,z804a.2.2.2.2.2.2.1,z804a.2.2.2.2.2.2.2.2.2.2.2.2.1,z804a.2.2.2.2.2.2.2.2.2.2.2.2.2.2.1,z804a.2.2.2.2.2.2.2.2.2.2.2.2.2.1,z804a.2.2.2.2.2.2.2.2.2.2.2.2.2.2.2,z791.2.2.1,y.2.2.2.2.2.2.2.2.2.2.2.1,y.2.2.2.2.2.2.2.2.2.2.2.2.1,y.2.2.2.2.2.2.2.2.2.2.2.2.2.1,y.2.2.2.2.2.2.2.2.2.2.2.2.2.2.1,y.2.2.2.2.2.2.2.2.2.2.2.2.2.2.2,z804a.1,z804a.2.1,z804a.2.2.1,z804a.2.2.2.1,z804a.2.2.2.2.1))) (fun z804b=>dn (.inr (.inl z804b))) z804 else dn (.inr (.inr (z779.2.2.2.2.2.2.1,z779.2.2.2.2.2.2.2.1,z779.2.2.2.2.2.2.2.2.1,z779.2.2.2.2.2.2.2.2.2.1,z779.2.2.2.2.2.2.2.2.2.2.1,z779.2.2.2.2.1,z779.2.2.2.2.2.1,z779.2.2.2.2.2.2.2.2.2.2.2.1,z779.2.2.2.2.2.2.2.2.2.2.2.2.2.1,z779.2.2.2.2.2.2.2.2.2.2.2.2.1,z779.2.2.2.2.2.2.2.2.2.2.2.2.2.2,y.2.2.2.2.2.2.2.2.2.2.2)))else dn (.inr (.inr (z765.2.2.2.2.2.2.1,z765.2.2.2.2.2.2.2.1,z765.2.2.2.2.2.2.2.2.1,z765.2.2.2.2.2.2.2.2.2.1,z765.2.2.2.2.2.2.2.2.2.2.1,z765.2.2.2.2.1,z765.2.2.2.2.2.1,z765.2.2.2.2.2.2.2.2.2.2.2.1,z765.2.2.2.2.2.2.2.2.2.2.2.2.2.1,z765.2.2.2.2.2.2.2.2.2.2.2.2.1,z765.2.2.2.2.2.2.2.2.2.2.2.2.2.2,y.2.2.2.2.2.2.2.2.2.2.2)))
theorem exprR_l1_n0{β:Type}(c_is c_unary)(c_primary c_expr)(c_next c_levelOf)(x)(y)(nx:exprR_l1_a→Option β)(dn):exprR_l1_t0 c_is c_unary c_primary c_expr c_next c_levelOf x y nx dn=(exprR_l1_t0 c_is c_unary c_primary c_expr c_next c_levelOf x y (fun y=>some (.inl y)) (fun z=>some (.inr z))).bind fun r=>Sum.elim nx dn r:=by
 unfold exprR_l1_t0
 repeat' first|exact n0|refine n1 fun _=>?_|refine n2 ?_ ?_|refine n3 (fun _=>?_) fun _=>?_|rfl
theorem exprR_l1_r0(c_is c_unary)(c_primary c_expr)(c_next c_levelOf)(x)(y)(lo:LoopT):loopK E5 (ftb 109 A_is R_is c_is (ft2 145 A_unary R_unary c_unary (ft2 146 A_primary R_primary c_primary (ft2 136 A_expr R_expr c_expr (ftb 22 A_next R_next c_next (ftb 78 A_levelOf R_levelOf c_levelOf ca0)))))) lo 1 51 (bodyOf E5 136 1) (exprR_l1_S x (.inl y)) (KCM [(1,48)] 16)=exprR_l1_t0 (vf A_is c_is) (vf A_unary c_unary) (vf A_primary c_primary) (vf A_expr c_expr) (vf A_next c_next) (vf A_levelOf c_levelOf) x y (fun y=>lo 1 51 (bodyOf E5 136 1) (exprR_l1_S x y) (KCM [(1,48)] 16)) (fun z=>some (.l (exprR_l1_T x z).1 (exprR_l1_T x z).2)):=by kernel_rfl
def exprR_l1_t1{β:Type}(c_is:a_is→Option g_is)(c_unary:a_unary→Option g_unary)(c_primary:a_primary→Option g_primary)(c_expr:a_expr→Option g_expr)(c_next:a_next→Option g_next)(c_levelOf:a_levelOf→Option g_levelOf)(x:a_exprR)(y:Nat×FI×FI×FS×FI×Int×Int×Nat×Nat×FS×FS×ByteArray×Int×Int×ByteArray×Nat×FL×Int×Int×ByteArray×Nat×FL)(nx:exprR_l1_a→Option β)(dn:exprR_l1_g→Option β):Option β:=
 (c_next (y.2.2.2.2.2.1,y.2.2.2.2.2.2.1,y.1,y.2.1,y.2.2.1,y.2.2.2.1,y.2.2.2.2.1,y.2.2.2.2.2.2.2.1,y.2.2.2.2.2.2.2.2.2.1,y.2.2.2.2.2.2.2.2.1,y.2.2.2.2.2.2.2.2.2.2.1)).bind fun z818=>(c_levelOf z818.2.2.1).bind fun z820=>if(z820==x.1)=true then(c_next z818.2.2.2.2).bind fun z832=>if(z832.1==3)=true then(c_next z832.2.2.2.2).bind fun z844=>(c_expr (w (x.1+1),w (z844.2.2.2.2.1+1),z844.2.2.2.2.2)).bind fun z857=>Sum.elim (fun z857a=>if(x.1==4)=true then dn (.inl (z857a.2.2.2.2.2.2.2.1,z857a.2.2.2.2.2.2.2.2.1,z857a.2.2.2.2.2.2.2.2.2.1,z857a.2.2.2.2.2.2.2.2.2.2.1,z857a.2.2.2.2.2.2.2.2.2.2.2.1,z857a.2.2.2.2.2.1,z857a.2.2.2.2.2.2.1,z857a.2.2.2.2.2.2.2.2.2.2.2.2.1,z857a.2.2.2.2.2.2.2.2.2.2.2.2.2.2.1,z857a.2.2.2.2.2.2.2.2.2.2.2.2.2.1,z857a.2.2.2.2.2.2.2.2.2.2.2.2.2.2.2,z844.2.2.1,20,0,y.2.2.2.2.2.2.2.2.2.2.2.1,2,fun j=>[i64 (if 0+j=0 then y.2.2.2.2.2.2.2.2.2.2.2.2.1 else y.2.2.2.2.2.2.2.2.2.2.2.2.2.2.2.2.2.1),i64 (if 0+j=0 then y.2.2.2.2.2.2.2.2.2.2.2.2.2.1 else y.2.2.2.2.2.2.2.2.2.2.2.2.2.2.2.2.2.2.1),st (if 0+j=0 then y.2.2.2.2.2.2.2.2.2.2.2.2.2.2.1 else y.2.2.2.2.2.2.2.2.2.2.2.2.2.2.2.2.2.2.2.1),V.ro 4 (if 0+j=0 then y.2.2.2.2.2.2.2.2.2.2.2.2.2.2.2.1 else y.2.2.2.2.2.2.2.2.2.2.2.2.2.2.2.2.2.2.2.2.1) fun j_1=>if 0+j=0 then y.2.2.2.2.2.2.2.2.2.2.2.2.2.2.2.2.1 j_1 else y.2.2.2.2.2.2.2.2.2.2.2.2.2.2.2.2.2.2.2.2.2 j_1],z857a.1,z857a.2.1,z857a.2.2.1,z857a.2.2.2.1,z857a.2.2.2.2.1))else nx (.inr (z857a.2.2.2.2.2.2.2.1,z857a.2.2.2.2.2.2.2.2.1,z857a.2.2.2.2.2.2.2.2.2.1,z857a.2.2.2.2.2.2.2.2.2.2.1,z857a.2.2.2.2.2.2.2.2.2.2.2.1,z857a.2.2.2.2.2.1,z857a.2.2.2.2.2.2.1,z857a.2.2.2.2.2.2.2.2.2.2.2.2.1,z857a.2.2.2.2.2.2.2.2.2.2.2.2.2.2.1,z857a.2.2.2.2.2.2.2.2.2.2.2.2.2.1,z857a.2.2.2.2.2.2.2.2.2.2.2.2.2.2.2,z844.2.2.1,20,0,y.2.2.2.2.2.2.2.2.2.2.2.1,2,fun j=>[i64 (if 0+j=0 then y.2.2.2.2.2.2.2.2.2.2.2.2.1 else y.2.2.2.2.2.2.2.2.2.2.2.2.2.2.2.2.2.1),i64 (if 0+j=0 then y.2.2.2.2.2.2.2.2.2.2.2.2.2.1 else y.2.2.2.2.2.2.2.2.2.2.2.2.2.2.2.2.2.2.1),st (if 0+j=0 then y.2.2.2.2.2.2.2.2.2.2.2.2.2.2.1 else y.2.2.2.2.2.2.2.2.2.2.2.2.2.2.2.2.2.2.2.1),V.ro 4 (if 0+j=0 then y.2.2.2.2.2.2.2.2.2.2.2.2.2.2.2.1 else y.2.2.2.2.2.2.2.2.2.2.2.2.2.2.2.2.2.2.2.2.1) fun j_1=>if 0+j=0 then y.2.2.2.2.2.2.2.2.2.2.2.2.2.2.2.2.1 j_1 else y.2.2.2.2.2.2.2.2.2.2.2.2.2.2.2.2.2.2.2.2.2 j_1],z857a.1,z857a.2.1,z857a.2.2.1,z857a.2.2.2.1,z857a.2.2.2.2.1))) (fun z857b=>dn (.inr (.inl z857b))) z857 else dn (.inl (z832.2.2.2.2.2.2.1,z832.2.2.2.2.2.2.2.1,z832.2.2.2.2.2.2.2.2.1,z832.2.2.2.2.2.2.2.2.2.1,z832.2.2.2.2.2.2.2.2.2.2.1,z832.2.2.2.2.1,z832.2.2.2.2.2.1,z832.2.2.2.2.2.2.2.2.2.2.2.1,z832.2.2.2.2.2.2.2.2.2.2.2.2.2.1,z832.2.2.2.2.2.2.2.2.2.2.2.2.1,z832.2.2.2.2.2.2.2.2.2.2.2.2.2.2,y.2.2.2.2.2.2.2.2.2.2.2))else dn (.inl (z818.2.2.2.2.2.2.1,z818.2.2.2.2.2.2.2.1,z818.2.2.2.2.2.2.2.2.1,z818.2.2.2.2.2.2.2.2.2.1,z818.2.2.2.2.2.2.2.2.2.2.1,z818.2.2.2.2.1,z818.2.2.2.2.2.1,z818.2.2.2.2.2.2.2.2.2.2.2.1,z818.2.2.2.2.2.2.2.2.2.2.2.2.2.1,z818.2.2.2.2.2.2.2.2.2.2.2.2.1,z818.2.2.2.2.2.2.2.2.2.2.2.2.2.2,y.2.2.2.2.2.2.2.2.2.2.2))
theorem exprR_l1_n1{β:Type}(c_is c_unary)(c_primary c_expr)(c_next c_levelOf)(x)(y)(nx:exprR_l1_a→Option β)(dn):exprR_l1_t1 c_is c_unary c_primary c_expr c_next c_levelOf x y nx dn=(exprR_l1_t1 c_is c_unary c_primary c_expr c_next c_levelOf x y (fun y=>some (.inl y)) (fun z=>some (.inr z))).bind fun r=>Sum.elim nx dn r:=by
 unfold exprR_l1_t1
 repeat' first|exact n0|refine n1 fun _=>?_|refine n2 ?_ ?_|refine n3 (fun _=>?_) fun _=>?_|rfl
theorem exprR_l1_r1(c_is c_unary)(c_primary c_expr)(c_next c_levelOf)(x)(y)(lo:LoopT):loopK E5 (ftb 109 A_is R_is c_is (ft2 145 A_unary R_unary c_unary (ft2 146 A_primary R_primary c_primary (ft2 136 A_expr R_expr c_expr (ftb 22 A_next R_next c_next (ftb 78 A_levelOf R_levelOf c_levelOf ca0)))))) lo 1 51 (bodyOf E5 136 1) (exprR_l1_S x (.inr y)) (KCM [(1,48)] 16)=exprR_l1_t1 (vf A_is c_is) (vf A_unary c_unary) (vf A_primary c_primary) (vf A_expr c_expr) (vf A_next c_next) (vf A_levelOf c_levelOf) x y (fun y=>lo 1 51 (bodyOf E5 136 1) (exprR_l1_S x y) (KCM [(1,48)] 16)) (fun z=>some (.l (exprR_l1_T x z).1 (exprR_l1_T x z).2)):=by kernel_rfl
noncomputable def exprR_l1(c_is:a_is→Option g_is)(c_unary:a_unary→Option g_unary)(c_primary:a_primary→Option g_primary)(c_expr:a_expr→Option g_expr)(c_next:a_next→Option g_next)(c_levelOf:a_levelOf→Option g_levelOf)(q:Nat)(x:a_exprR):exprR_l1_a→Option exprR_l1_g:=lpG (Sum.elim (fun y=>exprR_l1_t0 c_is c_unary c_primary c_expr c_next c_levelOf x y (fun y=>some (.inl y)) (fun z=>some (.inr z))) (fun y=>exprR_l1_t1 c_is c_unary c_primary c_expr c_next c_levelOf x y (fun y=>some (.inl y)) (fun z=>some (.inr z)))) q
theorem exprR_l1_s(c_is)(h_is:Lw E5 109 A_is R_is c_is)(c_unary)(h_unary:Lw E5 145 A_unary R_unary c_unary)(c_primary)(h_primary:Lw E5 146 A_primary R_primary c_primary)(c_expr)(h_expr:Lw E5 136 A_expr R_expr c_expr)(c_next)(h_next:Lw E5 22 A_next R_next c_next)(c_levelOf)(h_levelOf:Lw E5 78 A_levelOf R_levelOf c_levelOf)(q:Nat)(x:a_exprR):Ll E5 (bodyOf E5 136 1) (exprR_l1_S x) (exprR_l1_T x) (exprR_l1 c_is c_unary c_primary c_expr c_next c_levelOf q x):=
 slp (fk h_is (fk2 h_unary (fk2 h_primary (fk2 h_expr (fk h_next (fk h_levelOf ca0_sound)))))) hX5 (fun lo y=>by
  rcases y with y|y
  ·exact(exprR_l1_r0 c_is c_unary c_primary c_expr c_next c_levelOf x y lo).trans (by rw[v_is,v_unary,v_primary,v_expr,v_next,v_levelOf];exact exprR_l1_n0 _ _ _ _ _ _ _ _ _ _)
  ·exact(exprR_l1_r1 c_is c_unary c_primary c_expr c_next c_levelOf x y lo).trans (by rw[v_is,v_unary,v_primary,v_expr,v_next,v_levelOf];exact exprR_l1_n1 _ _ _ _ _ _ _ _ _ _)) (fun z=>by rcases z with z|z|z<;>kernel_rfl) q
def t_exprR{β:Type}(c_is:a_is→Option g_is)(c_unary:a_unary→Option g_unary)(c_primary:a_primary→Option g_primary)(c_expr:a_expr→Option g_expr)(c_next:a_next→Option g_next)(c_levelOf:a_levelOf→Option g_levelOf)(l_exprR_l1:exprR_l1_a→Option exprR_l1_g)(x:a_exprR)(dn:g_exprR→Option β):Option β:=
 if(x.1==3)=true then(c_is (⟨#[33]⟩,x.2)).bind fun z12=>if z12.1=true then(c_unary (⟨#[33]⟩,3,z12.2)).bind fun z26=>Sum.elim (fun z26a=>dn (.inl z26a)) (fun z26b=>dn (.inr (.inl z26b))) z26 else if(x.1==7)=true then(c_is (⟨#[45]⟩,z12.2)).bind fun z40=>if z40.1=true then(c_unary (⟨#[45]⟩,7,z40.2)).bind fun z54=>Sum.elim (fun z54a=>dn (.inl z54a)) (fun z54b=>dn (.inr (.inl z54b))) z54 else if(x.1==8)=true then(c_primary z40.2).bind fun z67=>Sum.elim (fun z67a=>dn (.inl z67a)) (fun z67b=>dn (.inr (.inl z67b))) z67 else(c_expr (w (x.1+1),z40.2)).bind fun z81=>Sum.elim (fun z81a=>(l_exprR_l1 (.inl (z81a.2.2.2.2.2.2.2.1,z81a.2.2.2.2.2.2.2.2.1,z81a.2.2.2.2.2.2.2.2.2.1,z81a.2.2.2.2.2.2.2.2.2.2.1,z81a.2.2.2.2.2.2.2.2.2.2.2.1,z81a.2.2.2.2.2.1,z81a.2.2.2.2.2.2.1,z81a.2.2.2.2.2.2.2.2.2.2.2.2.1,z81a.2.2.2.2.2.2.2.2.2.2.2.2.2.2.1,z81a.2.2.2.2.2.2.2.2.2.2.2.2.2.1,z81a.2.2.2.2.2.2.2.2.2.2.2.2.2.2.2,z81a.1,z81a.2.1,z81a.2.2.1,z81a.2.2.2.1,z81a.2.2.2.2.1))).bind fun z577=>Sum.elim (fun z577a=>dn (.inr (.inr (20,0,z577a.2.2.2.2.2.2.2.2.2.2.2.1,z577a.2.2.2.2.2.2.2.2.2.2.2.2.1,z577a.2.2.2.2.2.2.2.2.2.2.2.2.2.1,z577a.2.2.2.2.2.2.2.2.2.2.2.2.2.2.1,z577a.2.2.2.2.2.2.2.2.2.2.2.2.2.2.2.1,z577a.2.2.2.2.2.2.2.2.2.2.2.2.2.2.2.2.1,z577a.2.2.2.2.2.2.2.2.2.2.2.2.2.2.2.2.2.1,z577a.2.2.2.2.2.2.2.2.2.2.2.2.2.2.2.2.2.2.1,z577a.2.2.2.2.2.2.2.2.2.2.2.2.2.2.2.2.2.2.2.1,z577a.2.2.2.2.2.2.2.2.2.2.2.2.2.2.2.2.2.2.2.2.1,z577a.2.2.2.2.2.2.2.2.2.2.2.2.2.2.2.2.2.2.2.2.2,z577a.2.2.2.2.2.1,z577a.2.2.2.2.2.2.1,z577a.1,z577a.2.1,z577a.2.2.1,z577a.2.2.2.1,z577a.2.2.2.2.1,z577a.2.2.2.2.2.2.2.1,z577a.2.2.2.2.2.2.2.2.2.1,z577a.2.2.2.2.2.2.2.2.1,z577a.2.2.2.2.2.2.2.2.2.2.1)))) (fun z577b=>Sum.elim (fun z577ba=>dn (.inr (.inl z577ba))) (fun z577bb=>dn (.inl (z577bb.2.2.2.2.2.2.2.2.2.2.2.1,z577bb.2.2.2.2.2.2.2.2.2.2.2.2.1,z577bb.2.2.2.2.2.2.2.2.2.2.2.2.2.1,z577bb.2.2.2.2.2.2.2.2.2.2.2.2.2.2.1,z577bb.2.2.2.2.2.2.2.2.2.2.2.2.2.2.2,z577bb.2.2.2.2.2.1,z577bb.2.2.2.2.2.2.1,z577bb.1,z577bb.2.1,z577bb.2.2.1,z577bb.2.2.2.1,z577bb.2.2.2.2.1,z577bb.2.2.2.2.2.2.2.1,z577bb.2.2.2.2.2.2.2.2.2.1,z577bb.2.2.2.2.2.2.2.2.1,z577bb.2.2.2.2.2.2.2.2.2.2.1))) z577b) z577) (fun z81b=>dn (.inr (.inl z81b))) z81 else if(x.1==8)=true then(c_primary z12.2).bind fun z592=>Sum.elim (fun z592a=>dn (.inl z592a)) (fun z592b=>dn (.inr (.inl z592b))) z592 else(c_expr (w (x.1+1),z12.2)).bind fun z606=>Sum.elim (fun z606a=>(l_exprR_l1 (.inl (z606a.2.2.2.2.2.2.2.1,z606a.2.2.2.2.2.2.2.2.1,z606a.2.2.2.2.2.2.2.2.2.1,z606a.2.2.2.2.2.2.2.2.2.2.1,z606a.2.2.2.2.2.2.2.2.2.2.2.1,z606a.2.2.2.2.2.1,z606a.2.2.2.2.2.2.1,z606a.2.2.2.2.2.2.2.2.2.2.2.2.1,z606a.2.2.2.2.2.2.2.2.2.2.2.2.2.2.1,z606a.2.2.2.2.2.2.2.2.2.2.2.2.2.1,z606a.2.2.2.2.2.2.2.2.2.2.2.2.2.2.2,z606a.1,z606a.2.1,z606a.2.2.1,z606a.2.2.2.1,z606a.2.2.2.2.1))).bind fun z607=>Sum.elim (fun z607a=>dn (.inr (.inr (20,0,z607a.2.2.2.2.2.2.2.2.2.2.2.1,z607a.2.2.2.2.2.2.2.2.2.2.2.2.1,z607a.2.2.2.2.2.2.2.2.2.2.2.2.2.1,z607a.2.2.2.2.2.2.2.2.2.2.2.2.2.2.1,z607a.2.2.2.2.2.2.2.2.2.2.2.2.2.2.2.1,z607a.2.2.2.2.2.2.2.2.2.2.2.2.2.2.2.2.1,z607a.2.2.2.2.2.2.2.2.2.2.2.2.2.2.2.2.2.1,z607a.2.2.2.2.2.2.2.2.2.2.2.2.2.2.2.2.2.2.1,z607a.2.2.2.2.2.2.2.2.2.2.2.2.2.2.2.2.2.2.2.1,z607a.2.2.2.2.2.2.2.2.2.2.2.2.2.2.2.2.2.2.2.2.1,z607a.2.2.2.2.2.2.2.2.2.2.2.2.2.2.2.2.2.2.2.2.2,z607a.2.2.2.2.2.1,z607a.2.2.2.2.2.2.1,z607a.1,z607a.2.1,z607a.2.2.1,z607a.2.2.2.1,z607a.2.2.2.2.1,z607a.2.2.2.2.2.2.2.1,z607a.2.2.2.2.2.2.2.2.2.1,z607a.2.2.2.2.2.2.2.2.1,z607a.2.2.2.2.2.2.2.2.2.2.1)))) (fun z607b=>Sum.elim (fun z607ba=>dn (.inr (.inl z607ba))) (fun z607bb=>dn (.inl (z607bb.2.2.2.2.2.2.2.2.2.2.2.1,z607bb.2.2.2.2.2.2.2.2.2.2.2.2.1,z607bb.2.2.2.2.2.2.2.2.2.2.2.2.2.1,z607bb.2.2.2.2.2.2.2.2.2.2.2.2.2.2.1,z607bb.2.2.2.2.2.2.2.2.2.2.2.2.2.2.2,z607bb.2.2.2.2.2.1,z607bb.2.2.2.2.2.2.1,z607bb.1,z607bb.2.1,z607bb.2.2.1,z607bb.2.2.2.1,z607bb.2.2.2.2.1,z607bb.2.2.2.2.2.2.2.1,z607bb.2.2.2.2.2.2.2.2.2.1,z607bb.2.2.2.2.2.2.2.2.1,z607bb.2.2.2.2.2.2.2.2.2.2.1))) z607b) z607) (fun z606b=>dn (.inr (.inl z606b))) z606 else if(x.1==7)=true then(c_is (⟨#[45]⟩,x.2)).bind fun z623=>if z623.1=true then(c_unary (⟨#[45]⟩,7,z623.2)).bind fun z637=>Sum.elim (fun z637a=>dn (.inl z637a)) (fun z637b=>dn (.inr (.inl z637b))) z637 else if(x.1==8)=true then(c_primary z623.2).bind fun z650=>Sum.elim (fun z650a=>dn (.inl z650a)) (fun z650b=>dn (.inr (.inl z650b))) z650 else(c_expr (w (x.1+1),z623.2)).bind fun z664=>Sum.elim (fun z664a=>(l_exprR_l1 (.inl (z664a.2.2.2.2.2.2.2.1,z664a.2.2.2.2.2.2.2.2.1,z664a.2.2.2.2.2.2.2.2.2.1,z664a.2.2.2.2.2.2.2.2.2.2.1,z664a.2.2.2.2.2.2.2.2.2.2.2.1,z664a.2.2.2.2.2.1,z664a.2.2.2.2.2.2.1,z664a.2.2.2.2.2.2.2.2.2.2.2.2.1,z664a.2.2.2.2.2.2.2.2.2.2.2.2.2.2.1,z664a.2.2.2.2.2.2.2.2.2.2.2.2.2.1,z664a.2.2.2.2.2.2.2.2.2.2.2.2.2.2.2,z664a.1,z664a.2.1,z664a.2.2.1,z664a.2.2.2.1,z664a.2.2.2.2.1))).bind fun z665=>Sum.elim (fun z665a=>dn (.inr (.inr (20,0,z665a.2.2.2.2.2.2.2.2.2.2.2.1,z665a.2.2.2.2.2.2.2.2.2.2.2.2.1,z665a.2.2.2.2.2.2.2.2.2.2.2.2.2.1,z665a.2.2.2.2.2.2.2.2.2.2.2.2.2.2.1,z665a.2.2.2.2.2.2.2.2.2.2.2.2.2.2.2.1,z665a.2.2.2.2.2.2.2.2.2.2.2.2.2.2.2.2.1,z665a.2.2.2.2.2.2.2.2.2.2.2.2.2.2.2.2.2.1,z665a.2.2.2.2.2.2.2.2.2.2.2.2.2.2.2.2.2.2.1,z665a.2.2.2.2.2.2.2.2.2.2.2.2.2.2.2.2.2.2.2.1,z665a.2.2.2.2.2.2.2.2.2.2.2.2.2.2.2.2.2.2.2.2.1,z665a.2.2.2.2.2.2.2.2.2.2.2.2.2.2.2.2.2.2.2.2.2,z665a.2.2.2.2.2.1,z665a.2.2.2.2.2.2.1,z665a.1,z665a.2.1,z665a.2.2.1,z665a.2.2.2.1,z665a.2.2.2.2.1,z665a.2.2.2.2.2.2.2.1,z665a.2.2.2.2.2.2.2.2.2.1,z665a.2.2.2.2.2.2.2.2.1,z665a.2.2.2.2.2.2.2.2.2.2.1)))) (fun z665b=>Sum.elim (fun z665ba=>dn (.inr (.inl z665ba))) (fun z665bb=>dn (.inl (z665bb.2.2.2.2.2.2.2.2.2.2.2.1,z665bb.2.2.2.2.2.2.2.2.2.2.2.2.1,z665bb.2.2.2.2.2.2.2.2.2.2.2.2.2.1,z665bb.2.2.2.2.2.2.2.2.2.2.2.2.2.2.1,z665bb.2.2.2.2.2.2.2.2.2.2.2.2.2.2.2,z665bb.2.2.2.2.2.1,z665bb.2.2.2.2.2.2.1,z665bb.1,z665bb.2.1,z665bb.2.2.1,z665bb.2.2.2.1,z665bb.2.2.2.2.1,z665bb.2.2.2.2.2.2.2.1,z665bb.2.2.2.2.2.2.2.2.2.1,z665bb.2.2.2.2.2.2.2.2.1,z665bb.2.2.2.2.2.2.2.2.2.2.1))) z665b) z665) (fun z664b=>dn (.inr (.inl z664b))) z664 else if(x.1==8)=true then(c_primary x.2).bind fun z680=>Sum.elim (fun z680a=>dn (.inl z680a)) (fun z680b=>dn (.inr (.inl z680b))) z680 else(c_expr (w (x.1+1),x.2)).bind fun z694=>Sum.elim (fun z694a=>(l_exprR_l1 (.inl (z694a.2.2.2.2.2.2.2.1,z694a.2.2.2.2.2.2.2.2.1,z694a.2.2.2.2.2.2.2.2.2.1,z694a.2.2.2.2.2.2.2.2.2.2.1,z694a.2.2.2.2.2.2.2.2.2.2.2.1,z694a.2.2.2.2.2.1,z694a.2.2.2.2.2.2.1,z694a.2.2.2.2.2.2.2.2.2.2.2.2.1,z694a.2.2.2.2.2.2.2.2.2.2.2.2.2.2.1,z694a.2.2.2.2.2.2.2.2.2.2.2.2.2.1,z694a.2.2.2.2.2.2.2.2.2.2.2.2.2.2.2,z694a.1,z694a.2.1,z694a.2.2.1,z694a.2.2.2.1,z694a.2.2.2.2.1))).bind fun z695=>Sum.elim (fun z695a=>dn (.inr (.inr (20,0,z695a.2.2.2.2.2.2.2.2.2.2.2.1,z695a.2.2.2.2.2.2.2.2.2.2.2.2.1,z695a.2.2.2.2.2.2.2.2.2.2.2.2.2.1,z695a.2.2.2.2.2.2.2.2.2.2.2.2.2.2.1,z695a.2.2.2.2.2.2.2.2.2.2.2.2.2.2.2.1,z695a.2.2.2.2.2.2.2.2.2.2.2.2.2.2.2.2.1,z695a.2.2.2.2.2.2.2.2.2.2.2.2.2.2.2.2.2.1,z695a.2.2.2.2.2.2.2.2.2.2.2.2.2.2.2.2.2.2.1,z695a.2.2.2.2.2.2.2.2.2.2.2.2.2.2.2.2.2.2.2.1,z695a.2.2.2.2.2.2.2.2.2.2.2.2.2.2.2.2.2.2.2.2.1,z695a.2.2.2.2.2.2.2.2.2.2.2.2.2.2.2.2.2.2.2.2.2,z695a.2.2.2.2.2.1,z695a.2.2.2.2.2.2.1,z695a.1,z695a.2.1,z695a.2.2.1,z695a.2.2.2.1,z695a.2.2.2.2.1,z695a.2.2.2.2.2.2.2.1,z695a.2.2.2.2.2.2.2.2.2.1,z695a.2.2.2.2.2.2.2.2.1,z695a.2.2.2.2.2.2.2.2.2.2.1)))) (fun z695b=>Sum.elim (fun z695ba=>dn (.inr (.inl z695ba))) (fun z695bb=>dn (.inl (z695bb.2.2.2.2.2.2.2.2.2.2.2.1,z695bb.2.2.2.2.2.2.2.2.2.2.2.2.1,z695bb.2.2.2.2.2.2.2.2.2.2.2.2.2.1,z695bb.2.2.2.2.2.2.2.2.2.2.2.2.2.2.1,z695bb.2.2.2.2.2.2.2.2.2.2.2.2.2.2.2,z695bb.2.2.2.2.2.1,z695bb.2.2.2.2.2.2.1,z695bb.1,z695bb.2.1,z695bb.2.2.1,z695bb.2.2.2.1,z695bb.2.2.2.2.1,z695bb.2.2.2.2.2.2.2.1,z695bb.2.2.2.2.2.2.2.2.2.1,z695bb.2.2.2.2.2.2.2.2.1,z695bb.2.2.2.2.2.2.2.2.2.2.1))) z695b) z695) (fun z694b=>dn (.inr (.inl z694b))) z694
theorem n_exprR{β:Type}(c_is c_unary)(c_primary c_expr)(c_next c_levelOf)(l_exprR_l1)(x)(dn:g_exprR→Option β):t_exprR c_is c_unary c_primary c_expr c_next c_levelOf l_exprR_l1 x dn=(t_exprR c_is c_unary c_primary c_expr c_next c_levelOf l_exprR_l1 x some).bind dn:=by
 unfold t_exprR
 repeat' first|exact n0|refine n1 fun _=>?_|refine n2 ?_ ?_|refine n3 (fun _=>?_) fun _=>?_|rfl
theorem r_exprR(c_is c_unary)(c_primary c_expr)(c_next c_levelOf)(l_exprR_l1)(x):callK E5 (ftb 109 A_is R_is c_is (ft2 145 A_unary R_unary c_unary (ft2 146 A_primary R_primary c_primary (ft2 136 A_expr R_expr c_expr (ftb 22 A_next R_next c_next (ftb 78 A_levelOf R_levelOf c_levelOf ca0)))))) (lt3 1 (fun _=>true) (bodyOf E5 136 1) (exprR_l1_S x) (exprR_l1_T x) l_exprR_l1 lo0) 136 (A_exprR x).1 (A_exprR x).2 K=t_exprR (vf A_is c_is) (vf A_unary c_unary) (vf A_primary c_primary) (vf A_expr c_expr) (vf A_next c_next) (vf A_levelOf c_levelOf) (lf (bodyOf E5 136 1) (exprR_l1_S x) l_exprR_l1) x (fun z=>some (.c (R_exprR z))):=by kernel_rfl
theorem s_exprR(c_is)(h_is:Lw E5 109 A_is R_is c_is)(c_unary)(h_unary:Lw E5 145 A_unary R_unary c_unary)(c_primary)(h_primary:Lw E5 146 A_primary R_primary c_primary)(c_expr)(h_expr:Lw E5 136 A_expr R_expr c_expr)(c_next)(h_next:Lw E5 22 A_next R_next c_next)(c_levelOf)(h_levelOf:Lw E5 78 A_levelOf R_levelOf c_levelOf)(q:Nat):Lw E5 136 A_exprR R_exprR fun x=>t_exprR c_is c_unary c_primary c_expr c_next c_levelOf (exprR_l1 c_is c_unary c_primary c_expr c_next c_levelOf q x) x some:=sof hW5 hX5 (fk h_is (fk2 h_unary (fk2 h_primary (fk2 h_expr (fk h_next (fk h_levelOf ca0_sound)))))) (fun x=>(lk3 (exprR_l1_s c_is h_is c_unary h_unary c_primary h_primary c_expr h_expr c_next h_next c_levelOf h_levelOf q x) lo0_sound)) fun x=>(r_exprR c_is c_unary c_primary c_expr c_next c_levelOf (exprR_l1 c_is c_unary c_primary c_expr c_next c_levelOf q x) x).trans (by rw[v_is,v_unary,v_primary,v_expr,v_next,v_levelOf,exprR_l1_u,n_exprR]<;>rfl)
def t_unaryR{β:Type}(c_opens:a_opens→Option g_opens)(c_expr:a_expr→Option g_expr)(x:a_unaryR)(dn:g_unaryR→Option β):Option β:=
 (c_opens (x.1,x.2.2)).bind fun z12=>Sum.elim (fun z12a=>(c_expr (x.2.1,z12a)).bind fun z25=>Sum.elim (fun z25a=>dn (.inl (19,0,x.1,z25a.1,z25a.2.1,z25a.2.2.1,z25a.2.2.2.1,z25a.2.2.2.2.1,z25a.2.2.2.2.2.1,w (z25a.2.2.2.2.2.2.1-1),z25a.2.2.2.2.2.2.2))) (fun z25b=>dn (.inr z25b)) z25) (fun z12b=>dn (.inr z12b)) z12
theorem n_unaryR{β:Type}(c_opens c_expr)(x)(dn:g_unaryR→Option β):t_unaryR c_opens c_expr x dn=(t_unaryR c_opens c_expr x some).bind dn:=by
 unfold t_unaryR
 repeat' first|exact n0|refine n1 fun _=>?_|refine n2 ?_ ?_|refine n3 (fun _=>?_) fun _=>?_|rfl
theorem r_unaryR(c_opens c_expr)(x):callK E5 (ft2 88 A_opens R_opens c_opens (ft2 136 A_expr R_expr c_expr ca0)) lo0 145 (A_unaryR x).1 (A_unaryR x).2 K=t_unaryR (vf A_opens c_opens) (vf A_expr c_expr) x (fun z=>some (.c (R_unaryR z))):=by kernel_rfl
theorem s_unaryR(c_opens)(h_opens:Lw E5 88 A_opens R_opens c_opens)(c_expr)(h_expr:Lw E5 136 A_expr R_expr c_expr)(q:Nat):Lw E5 145 A_unaryR R_unaryR fun x=>t_unaryR c_opens c_expr x some:=sof hW5 hX5 (fk2 h_opens (fk2 h_expr ca0_sound)) (fun _=>lo0_sound) fun x=>(r_unaryR c_opens c_expr x).trans (by rw[v_opens,v_expr,n_unaryR]<;>rfl)
def t_primaryR{β:Type}(c_next:a_next→Option g_next)(c_literal:a_literal→Option g_literal)(c_take:a_take→Option g_take)(c_must:a_must→Option g_must)(c_name:a_name→Option g_name)(c_is:a_is→Option g_is)(c_opens:a_opens→Option g_opens)(c_expr:a_expr→Option g_expr)(x:a_primaryR)(dn:g_primaryR→Option β):Option β:=
 (c_next x).bind fun z11=>if(z11.1==2)=true then(c_literal z11.2.2.2.2).bind fun z23=>Sum.elim (fun z23a=>dn (.inl z23a)) (fun z23b=>dn (.inr (.inl z23b))) z23 else(c_take (⟨#[116,114,117,101]⟩,z11.2.2.2.2)).bind fun z37=>if z37.1=true then dn (.inr (.inr (16,1,⟨#[]⟩,z37.2)))else(c_take (⟨#[102,97,108,115,101]⟩,z37.2)).bind fun z50=>if z50.1=true then dn (.inr (.inr (16,0,⟨#[]⟩,z50.2)))else(c_take (⟨#[116,108,109]⟩,z50.2)).bind fun z63=>if z63.1=true then(c_must (⟨#[46]⟩,z63.2)).bind fun z76=>Sum.elim (fun z76a=>(c_name z76a).bind fun z88=>Sum.elim (fun z88a=>dn (.inr (.inr (18,0,z88a)))) (fun z88b=>dn (.inr (.inl z88b))) z88) (fun z76b=>dn (.inr (.inl z76b))) z76 else(c_is (⟨#[40]⟩,z63.2)).bind fun z103=>if z103.1=true then(c_opens (⟨#[40]⟩,z103.2)).bind fun z116=>Sum.elim (fun z116a=>(c_expr (1,z116a)).bind fun z129=>Sum.elim (fun z129a=>(c_must (⟨#[41]⟩,z129a.2.2.2.2.2)).bind fun z142=>Sum.elim (fun z142a=>dn (.inl (z129a.1,z129a.2.1,z129a.2.2.1,z129a.2.2.2.1,z129a.2.2.2.2.1,z142a.1,w (z142a.2.1-1),z142a.2.2))) (fun z142b=>dn (.inr (.inl z142b))) z142) (fun z129b=>dn (.inr (.inl z129b))) z129) (fun z116b=>dn (.inr (.inl z116b))) z116 else(c_name z103.2).bind fun z157=>Sum.elim (fun z157a=>dn (.inr (.inr (17,0,z157a)))) (fun z157b=>dn (.inr (.inl z157b))) z157
theorem n_primaryR{β:Type}(c_next c_literal)(c_take c_must)(c_name c_is)(c_opens c_expr)(x)(dn:g_primaryR→Option β):t_primaryR c_next c_literal c_take c_must c_name c_is c_opens c_expr x dn=(t_primaryR c_next c_literal c_take c_must c_name c_is c_opens c_expr x some).bind dn:=by
 unfold t_primaryR
 repeat' first|exact n0|refine n1 fun _=>?_|refine n2 ?_ ?_|refine n3 (fun _=>?_) fun _=>?_|rfl
theorem r_primaryR(c_next c_literal)(c_take c_must)(c_name c_is)(c_opens c_expr)(x):callK E5 (ftb 22 A_next R_next c_next (ft2 138 A_literal R_literal c_literal (ftb 84 A_take R_take c_take (ft2 53 A_must R_must c_must (ft2 54 A_name R_name c_name (ftb 109 A_is R_is c_is (ft2 88 A_opens R_opens c_opens (ft2 136 A_expr R_expr c_expr ca0)))))))) lo0 146 (A_primaryR x).1 (A_primaryR x).2 K=t_primaryR (vf A_next c_next) (vf A_literal c_literal) (vf A_take c_take) (vf A_must c_must) (vf A_name c_name) (vf A_is c_is) (vf A_opens c_opens) (vf A_expr c_expr) x (fun z=>some (.c (R_primaryR z))):=by kernel_rfl
theorem s_primaryR(c_next)(h_next:Lw E5 22 A_next R_next c_next)(c_literal)(h_literal:Lw E5 138 A_literal R_literal c_literal)(c_take)(h_take:Lw E5 84 A_take R_take c_take)(c_must)(h_must:Lw E5 53 A_must R_must c_must)(c_name)(h_name:Lw E5 54 A_name R_name c_name)(c_is)(h_is:Lw E5 109 A_is R_is c_is)(c_opens)(h_opens:Lw E5 88 A_opens R_opens c_opens)(c_expr)(h_expr:Lw E5 136 A_expr R_expr c_expr)(q:Nat):Lw E5 146 A_primaryR R_primaryR fun x=>t_primaryR c_next c_literal c_take c_must c_name c_is c_opens c_expr x some:=sof hW5 hX5 (fk h_next (fk2 h_literal (fk h_take (fk2 h_must (fk2 h_name (fk h_is (fk2 h_opens (fk2 h_expr ca0_sound)))))))) (fun _=>lo0_sound) fun x=>(r_primaryR c_next c_literal c_take c_must c_name c_is c_opens c_expr x).trans (by rw[v_next,v_literal,v_take,v_must,v_name,v_is,v_opens,v_expr,n_primaryR]<;>rfl)
def cv_expr:g_exprR→g_expr:=Sum.elim (fun z=>.inl z) (Sum.elim (fun z=>.inr z) (fun z=>.inl (z.1,z.2.1,z.2.2.1,2,selL [[i64 z.2.2.2.1,i64 z.2.2.2.2.1,st z.2.2.2.2.2.1,.ro 4 z.2.2.2.2.2.2.1 z.2.2.2.2.2.2.2.1],[i64 z.2.2.2.2.2.2.2.2.1,i64 z.2.2.2.2.2.2.2.2.2.1,st z.2.2.2.2.2.2.2.2.2.2.1,.ro 4 z.2.2.2.2.2.2.2.2.2.2.2.1 z.2.2.2.2.2.2.2.2.2.2.2.2.1]],z.2.2.2.2.2.2.2.2.2.2.2.2.2)))
theorem cvs_expr{args:List V}{L:List (Option Chunk)}(z:g_exprR)(h:SC E5 136 args L (R_exprR z)):SC E5 136 args L (R_expr (cv_expr z)):=by
 rcases z with z|z|z
 ·exact h
 ·exact h
 ·exact cv_k h
def cv_unary:g_unaryR→g_unary:=Sum.elim (fun z=>.inl (z.1,z.2.1,z.2.2.1,1,selL [[i64 z.2.2.2.1,i64 z.2.2.2.2.1,st z.2.2.2.2.2.1,.ro 4 z.2.2.2.2.2.2.1 z.2.2.2.2.2.2.2.1]],z.2.2.2.2.2.2.2.2)) (fun z=>.inr z)
theorem cvs_unary{args:List V}{L:List (Option Chunk)}(z:g_unaryR)(h:SC E5 145 args L (R_unaryR z)):SC E5 145 args L (R_unary (cv_unary z)):=by
 rcases z with z|z
 ·exact cv_k h
 ·exact h
def cv_primary:g_primaryR→g_primary:=Sum.elim (fun z=>.inl z) (Sum.elim (fun z=>.inr z) (fun z=>.inl (z.1,z.2.1,z.2.2.1,0,fun _=>[],z.2.2.2)))
theorem cvs_primary{args:List V}{L:List (Option Chunk)}(z:g_primaryR)(h:SC E5 146 args L (R_primaryR z)):SC E5 146 args L (R_primary (cv_primary z)):=by
 rcases z with z|z|z
 ·exact h
 ·exact h
 ·exact cv_z h
noncomputable def exS:Nat→(a_expr→Option g_expr)×(a_unary→Option g_unary)×(a_primary→Option g_primary)
 |0=>(fun _=>none,fun _=>none,fun _=>none)
 |q+1=>(fun x=>(t_exprR ((is q)) ((exS q).2.1) ((exS q).2.2) ((exS q).1) ((next q)) ((levelOf q)) (exprR_l1 ((is q)) ((exS q).2.1) ((exS q).2.2) ((exS q).1) ((next q)) ((levelOf q)) q x) x some).map cv_expr,
  fun x=>(t_unaryR ((opens q)) ((exS q).1) x some).map cv_unary,
  fun x=>(t_primaryR ((next q)) ((literal q)) ((take q)) ((must q)) ((name q)) ((is q)) ((opens q)) ((exS q).1) x some).map cv_primary)
theorem exS_sc:∀q,(∀x z,(exS q).1 x=some z→SC E5 136 (A_expr x).1 (A_expr x).2 (R_expr z))∧(∀x z,(exS q).2.1 x=some z→SC E5 145 (A_unary x).1 (A_unary x).2 (R_unary z))∧(∀x z,(exS q).2.2 x=some z→SC E5 146 (A_primary x).1 (A_primary x).2 (R_primary z))
 |0=>⟨(fun x z h=>by cases h),(fun x z h=>by cases h),(fun x z h=>by cases h)⟩
 |q+1=>by
  obtain⟨h0,h1,h2⟩:=exS_sc q
  exact⟨(fun x z h=>by
   obtain⟨y,hy,rfl⟩:=Option.map_eq_some_iff.1 h
   exact cvs_expr y (s_exprR ((is q)) ((sc_is q)) ((exS q).2.1) (h1) ((exS q).2.2) (h2) ((exS q).1) (h0) ((next q)) ((sc_next q)) ((levelOf q)) ((sc_levelOf q)) q x y hy)),(fun x z h=>by
   obtain⟨y,hy,rfl⟩:=Option.map_eq_some_iff.1 h
   exact cvs_unary y (s_unaryR ((opens q)) ((sc_opens q)) ((exS q).1) (h0) q x y hy)),(fun x z h=>by
   obtain⟨y,hy,rfl⟩:=Option.map_eq_some_iff.1 h
   exact cvs_primary y (s_primaryR ((next q)) ((sc_next q)) ((literal q)) ((sc_literal q)) ((take q)) ((sc_take q)) ((must q)) ((sc_must q)) ((name q)) ((sc_name q)) ((is q)) ((sc_is q)) ((opens q)) ((sc_opens q)) ((exS q).1) (h0) q x y hy))⟩
noncomputable def expr(q:Nat):a_expr→Option g_expr:=(exS q).1
theorem sc_expr(q:Nat):Lw E5 136 A_expr R_expr (expr q):=(exS_sc q).1
noncomputable def unary(q:Nat):a_unary→Option g_unary:=(exS q).2.1
noncomputable def primary(q:Nat):a_primary→Option g_primary:=(exS q).2.2
end Go.Proofs.YtjfkkokeegpeiaaGreatDoor
/- Plain laws on bytes: what a range over a string meets. -/
namespace Go.Proofs.Lx
open Go
def spanL(g:Int→Bool)(l:List UInt8):Nat:=(l.takeWhile (fun b=>g b.toNat)).length
def Flat(g:Int→Bool):Prop:=∀c:Int,128≤c→g c=g 128
theorem at_more(s:ByteArray)(p n:Nat)(h:p<s.size)(hn:1≤n)(hc:∀k,1≤k→k<n→p+k<s.size∧128≤(s.get! (p+k)).toNat):
 1≤n∧p+n≤s.size∧∀j,p<j→j<p+n→128≤(s.get! j).toNat:=by
 refine⟨hn,?_,fun j h1 h2=>?_⟩
 ·rcases Nat.lt_or_ge 1 n with hl|hl
  ·have:=(hc (n-1) (by omega) (by omega)).1
   omega
  ·omega
 ·have:=(hc (j-p) (by omega) (by omega)).2
  rwa [show p+(j-p)=j by omega]at this
theorem decode_len (s : ByteArray) (p : Nat) (h : p < s.size) :
    1 ≤ (Utf8.decode s p).2 ∧ p + (Utf8.decode s p).2 ≤ s.size ∧ ∀ j, p < j → j < p + (Utf8.decode s p).2 → 128 ≤ (s.get! j).toNat := by
  have hc : ∀ k, (decide (p + k < s.size) && ((s.get! (p + k)).toNat / 64 == 2)) = true → p + k < s.size ∧ 128 ≤ (s.get! (p + k)).toNat := by
    intro k hk
    simp at hk
    omega
  have one := at_more s p 1 h (by omega) (fun k h1 h2 => by omega)
  simp only [Utf8.decode]
  split
  · exact one
  · split
    · rename_i hx
      rw [Bool.and_eq_true] at hx
      have h1 := hc 1 hx.2
      split
      · exact at_more s p 2 h (by omega) (fun k hk1 hk2 => by obtain rfl : k = 1 := by omega
                                                              exact h1)
      · exact one
    · split
      · rename_i hx
        rw [Bool.and_eq_true, Bool.and_eq_true] at hx
        have h1 := hc 1 hx.1.2
        have h2 := hc 2 hx.2
        split
        · refine at_more s p 3 h (by omega) (fun k hk1 hk2 => ?_)
          have : k = 1 ∨ k = 2 := by omega
          rcases this with rfl | rfl
          · exact h1
          · exact h2
        · exact one
      · split
        · rename_i hx
          rw [Bool.and_eq_true, Bool.and_eq_true, Bool.and_eq_true] at hx
          have h1 := hc 1 hx.1.1.2
          have h2 := hc 2 hx.1.2
          have h3 := hc 3 hx.2
          split
          · refine at_more s p 4 h (by omega) (fun k hk1 hk2 => ?_)
            have : k = 1 ∨ k = 2 ∨ k = 3 := by omega
            rcases this with rfl | rfl | rfl
            · exact h1
            · exact h2
            · exact h3
          · exact one
        · exact one
theorem get_list(s:ByteArray)(p:Nat)(h:p<s.size):s.data.toList[p]? =some (s.get! p):=by
 rw[List.getElem?_eq_getElem (by simpa using h)]
 congr 1
 have:=get_at s p h
 simp only[Nat.add_zero]at this
 rw[this]
 rfl
theorem decode_g(s:ByteArray)(g:Int→Bool)(hf:Flat g)(p:Nat)(h:p<s.size):g ((Utf8.decode s p).1:Int)=g ((s.get! p).toNat:Int):=by
 have e:=get_at s p h
 simp only[Nat.add_zero]at e
 by_cases ha:(s.get! p).toNat<128
 ·rw[decode_ascii s p h (by rw[←e];exact ha),←e]
 ·have hh:=(decode_high s p h (by rw[←e];omega)).1
  rw[hf _ (by omega),hf ((s.get! p).toNat:Int) (by omega)]
theorem drop_get(s:ByteArray)(p:Nat)(h:p<s.size):s.data.toList.drop p=s.get! p::s.data.toList.drop (p+1):=by
 have hg:=get_list s p h
 rw[List.getElem?_eq_some_iff]at hg
 obtain⟨hl,he⟩:=hg
 rw[List.drop_eq_getElem_cons hl,he]
theorem span_stop(s:ByteArray)(g:Int→Bool)(p:Nat)(h:p<s.size)(hg:g ((s.get! p).toNat:Int)=false):spanL g (s.data.toList.drop p)=0:=by
 rw[drop_get s p h]
 simp[spanL,hg]
theorem span_more(s:ByteArray)(g:Int→Bool)(n:Nat):∀p,p+n≤s.size→(∀j,p≤j→j<p+n→g ((s.get! j).toNat:Int)=true)→spanL g (s.data.toList.drop p)=n+spanL g (s.data.toList.drop (p+n)):=by
 induction n with
 |zero=>intro p _ _;simp
 |succ n ih=>
  intro p h hg
  have h0:=hg p (by omega) (by omega)
  rw[drop_get s p (by omega)]
  have:=ih (p+1) (by omega) (fun j h1 h2=>hg j (by omega) (by omega))
  have e:p+(n+1)=p+1+n:=by omega
  rw[e,spanL,List.takeWhile_cons,h0]
  simp only[if_true,List.length_cons]
  unfold spanL at this
  unfold spanL
  omega
theorem span_end(s:ByteArray)(g:Int→Bool):spanL g (s.data.toList.drop s.size)=0:=by
 rw[List.drop_of_length_le (by simp)];rfl
theorem span_step(s:ByteArray)(g:Int→Bool)(hf:Flat g)(p:Nat)(h:p<s.size)(hg:g ((Utf8.decode s p).1:Int)=true):
 spanL g (s.data.toList.drop p)=(Utf8.decode s p).2+spanL g (s.data.toList.drop (p+(Utf8.decode s p).2)):=by
 obtain⟨h1,h2,h3⟩:=decode_len s p h
 refine span_more s g _ p h2 fun j hj1 hj2=>?_
 rw[decode_g s g hf p h]at hg
 rcases Nat.eq_or_lt_of_le hj1 with rfl|hlt
 ·exact hg
 ·have hb:=h3 j hlt hj2
  have hcont:1< (Utf8.decode s p).2:=by omega
  have hhi:128≤(s.get! p).toNat:=by
   rcases Nat.lt_or_ge (s.get! p).toNat 128 with hl|hl
   ·have e:=get_at s p h
    simp only[Nat.add_zero]at e
    rw[decode_ascii s p h (by rw[←e];exact hl)]at hcont
    simp at hcont
   ·exact hl
  rw[hf _ (by omega)]at hg⊢
  exact hg
end Go.Proofs.Lx
/- Plain: which symbol a string begins with. -/
namespace Go.Proofs.Lx
open Go
theorem extract_list(r:ByteArray)(a b:Nat):(r.extract a b).data.toList=(r.data.toList.drop a).take (b-a):=by
 simp[ByteArray.data_extract,List.extract_eq_take_drop]
def sym1:List UInt8:=[123,125,40,41,61,59,44,58,60,62,43,45,42,47,33,46]
def sym2:List (List UInt8):=[[124,124],[38,38],[60,61],[62,61],[61,61],[33,61]]
def symN(l:List UInt8):Nat:=
 if 1<l.length∧l.take 2∈sym2 then 2 else cond ((l.head?).any (fun b=>sym1.contains b)) 1 0
theorem idx_mem(l:List UInt8)(c:UInt8):l.contains c=true↔0≤Lib.indexByte l c:=by
 induction l with
 |nil=>simp[Lib.indexByte]
 |cons b l ih=>
  have hg:=Lib.indexByte_ge l c
  have e:Lib.indexByte (b::l) c=if b==c then 0 else if Lib.indexByte l c== -1 then-1 else Lib.indexByte l c+1:=rfl
  rw[e,List.contains_cons,Bool.or_eq_true,ih]
  by_cases hb:b=c
  ·subst hb;simp
  ·have hb':(b==c)=false:=by simpa using hb
   have hc':¬((c==b)=true):=by simpa using fun h=>hb h.symm
   simp only[hb',Bool.false_eq_true,if_false,hc',false_or]
   by_cases hm:Lib.indexByte l c= -1
   ·simp[hm]
   ·have:(Lib.indexByte l c== -1)=false:=by simpa using hm
    simp only[this,Bool.false_eq_true,if_false]
    omega
theorem symN_two{r t:ByteArray}(h1:1<r.size)(ht:t=r.extract 0 2)(hm:t.data.toList∈sym2):symN r.data.toList=2:=by
 rw[ht,extract_list]at hm
 simp only[List.drop_zero]at hm
 unfold symN
 rw[if_pos ⟨by simpa using h1,hm⟩]
theorem symN_one{r:ByteArray}(h0:0<r.size)(hm:¬(1<r.data.toList.length∧r.data.toList.take 2∈sym2)):symN r.data.toList=if(0:Int)≤Lib.indexByte sym1 r[0]then 1 else 0:=by
 have hg:=drop_get r 0 h0
 have e:=get_at r 0 h0
 simp only[Nat.add_zero]at e
 rw[List.drop_zero,e]at hg
 unfold symN
 rw[if_neg hm,hg]
 simp only[List.head?_cons,Option.any_some]
 by_cases h:(0:Int)≤Lib.indexByte sym1 r[0]
 ·rw[if_pos h,(idx_mem _ _).2 h];rfl
 ·rw[if_neg h,Bool.eq_false_iff.2 (fun h'=>h ((idx_mem _ _).1 h'))];rfl
theorem sym2_not{r t:ByteArray}(ht:t=r.extract 0 2)(hm:∀l∈sym2,t≠⟨l.toArray⟩):¬(1<r.data.toList.length∧r.data.toList.take 2∈sym2):=by
 rintro⟨_,h⟩
 refine hm _ h ?_
 rw[ht]
 have:=extract_list r 0 2
 simp only[List.drop_zero]at this
 rw[←this]
end Go.Proofs.Lx
/- Plain: the tokens of a source, as a relation. -/
namespace Go.Proofs.Lx
open Go
structure Tkn where
 k:Int
 a:Int
 t:ByteArray
 n:Int
def Tkn.cells(x:Tkn):List Value:=[.int .i64 x.k,.int .i64 x.a,.string x.t,.int .i64 x.n]
def letterI(c:Int):Bool:=decide (97≤c∧c≤122)||decide (65≤c∧c≤90)
def digitI(c:Int):Bool:=decide (48≤c∧c≤57)
def whiteI(c:Int):Bool:=decide (c=32∨c=9∨c=10∨c=13)
def wordI(c:Int):Bool:=letterI c||digitI c
def noTok:Tkn:=⟨0,0,⟨#[]⟩,0⟩
def valI(n:Int)(l:List UInt8):Int:=l.foldl (fun n b=>10*n+((b.toNat:Int)-48)) n
def wordP(r:ByteArray):Tkn×Int:=if 12<spanL wordI r.data.toList then(noTok,2)else(⟨1,0,r.extract 0 (spanL wordI r.data.toList),0⟩,0)
def numberP(t:ByteArray):Tkn×Int:=
 if 1<t.size∧t.data.toList[0]? =some 48 then(noTok,11)
 else if valI 0 t.data.toList>2147483647 then(noTok,5)
 else(⟨2,0,t,valI 0 t.data.toList⟩,0)
def symbolP(r:ByteArray):Tkn×Int:=if symN r.data.toList=0 then(noTok,11)else(⟨3,0,r.extract 0 (symN r.data.toList),0⟩,0)
def tokP(s:ByteArray)(p:Nat):Tkn×Int:=
 if letterI (s.get! p).toNat then wordP (s.extract p s.size)
 else if digitI (s.get! p).toNat then numberP ((s.extract p s.size).extract 0 (spanL digitI (s.extract p s.size).data.toList))
 else symbolP (s.extract p s.size)
def ne10(c:Int):Bool:= !(c==10)
inductive Lex(s:ByteArray):Nat→List Tkn→List Tkn×Nat×Int→Prop where
 |fin {p:Nat} {acc:List Tkn}:s.size≤p→Lex s p acc (acc++[⟨0,s.size,⟨#[]⟩,0⟩],0,0)
 |white {p:Nat} {acc:List Tkn} {r:List Tkn×Nat×Int}:p<s.size→whiteI (s.get! p).toNat=true→Lex s (p+1) acc r→Lex s p acc r
 |hash {p:Nat} {acc:List Tkn} {r:List Tkn×Nat×Int}:p<s.size→(s.get! p).toNat=35→Lex s (p+spanL ne10 (s.data.toList.drop p)) acc r→Lex s p acc r
 |tok {p:Nat} {acc:List Tkn} {r:List Tkn×Nat×Int} {x:Tkn}:p<s.size→whiteI (s.get! p).toNat=false→(s.get! p).toNat≠35→tokP s p=(x,0)→Lex s (p+x.t.size) (acc++[{x with a:=p}]) r→Lex s p acc r
 |err {p:Nat} {acc:List Tkn} {x:Tkn} {e:Int}:p<s.size→whiteI (s.get! p).toNat=false→(s.get! p).toNat≠35→tokP s p=(x,e)→e≠0→Lex s p acc ([],p,e)
def Bd(s:ByteArray)(p d:Nat):Prop:=(∀j,p≤j→j<d→(s.get! j).toNat<128)∨d=s.size∨(d<s.size∧(s.get! d).toNat<128)
theorem Bd.step{s:ByteArray}{p d:Nat}(h:Bd s p d)(hp:p<d)(hd:d≤s.size):p+(Utf8.decode s p).2≤d∧Bd s (p+(Utf8.decode s p).2) d:=by
 have hl:=decode_len s p (by omega)
 refine⟨?_,?_⟩
 ·rcases h with h|h| ⟨h1,h2⟩
  ·have h0:=h p (Nat.le_refl _) hp
   have e:=get_at s p (by omega)
   simp only[Nat.add_zero]at e
   rw[decode_ascii s p (by omega) (by rw[←e];exact h0)]
   exact hp
  ·omega
  ·rcases Nat.lt_or_ge d (p+(Utf8.decode s p).2)with hlt|hge
   ·have:=hl.2.2 d hp hlt
    omega
   ·exact hge
 ·exact h.imp (fun h j hj1 hj2=>h j (by omega) hj2) id
theorem Bd.refl(s:ByteArray)(p d:Nat)(h:d≤p):Bd s p d:=.inl fun j h1 h2=>by omega
end Go.Proofs.Lx
/- Plain: what a token's text is. -/
namespace Go.Proofs.Lx
open Go
theorem spanL_le(g:Int→Bool)(l:List UInt8):spanL g l≤l.length:=(List.takeWhile_sublist _).length_le
theorem spanL_get(g:Int→Bool)(l:List UInt8):∀j,j<spanL g l→∃b,l[j]? =some b∧g b.toNat=true:=by
 induction l with
 |nil=>intro j h;simp[spanL]at h
 |cons b l ih=>
  intro j h
  cases hb:g b.toNat
  ·simp[spanL,List.takeWhile_cons,hb]at h
  ·cases j with
   |zero=>exact⟨b,rfl,hb⟩
   |succ j=>
    have:j<spanL g l:=by
     simp only[spanL,List.takeWhile_cons,hb,if_true,List.length_cons]at h⊢
     omega
    obtain⟨c,h1,h2⟩:=ih j this
    exact⟨c,by simpa using h1,h2⟩
theorem spanL_pos(g:Int→Bool)(b:UInt8)(l:List UInt8)(h:g b.toNat=true):1≤spanL g (b::l):=by
 simp[spanL,List.takeWhile_cons,h]
theorem ext_list(s:ByteArray)(p:Nat)(h:p≤s.size):(s.extract p s.size).data.toList=s.data.toList.drop p:=by
 rw[extract_list,List.take_of_length_le (by simp)]
theorem ext_size(s:ByteArray)(p:Nat):(s.extract p s.size).size=s.size-p:=by simp
theorem ba_ext{a b:ByteArray}(h:a.data.toList=b.data.toList):a=b:=by
 obtain⟨⟨a⟩⟩:=a
 obtain⟨⟨b⟩⟩:=b
 simp only at h
 rw[h]
theorem ext_ext(s:ByteArray)(p n:Nat)(h:p+n≤s.size):(s.extract p s.size).extract 0 n=s.extract p (p+n):=by
 have e:((s.extract p s.size).extract 0 n).data.toList=(s.extract p (p+n)).data.toList:=by
  rw[extract_list,extract_list,extract_list,List.drop_zero,Nat.sub_zero,List.take_take,Nat.min_eq_left (by omega),Nat.add_sub_cancel_left]
 exact ba_ext e
theorem get_of(s:ByteArray)(j:Nat)(b:UInt8)(h:s.data.toList[j]? =some b):j<s.size∧s.get! j=b:=by
 have hl:j<s.size:=by
  rw[List.getElem?_eq_some_iff]at h
  obtain⟨h,_⟩:=h
  simpa using h
 rw[get_list s j hl]at h
 exact⟨hl,by injection h⟩
theorem letter_lt(c:Int)(h:wordI c=true):c<128:=by simp[wordI,letterI,digitI]at h;omega
theorem digit_lt(c:Int)(h:digitI c=true):c<128:=by simp[digitI]at h;omega
theorem seg_ok{s:ByteArray}{p:Nat}(g:Int→Bool)(hg:∀c,g c=true→c<128)(hp:p<s.size)(h0:g (s.get! p).toNat=true):
 1≤spanL g (s.data.toList.drop p)∧p+spanL g (s.data.toList.drop p)≤s.size∧∀j,p≤j→j<p+spanL g (s.data.toList.drop p)→(s.get! j).toNat<128:=by
 refine⟨?_,?_,?_⟩
 ·rw[drop_get s p hp];exact spanL_pos g _ _ h0
 ·have:=spanL_le g (s.data.toList.drop p)
  simp at this
  omega
 ·intro j h1 h2
  obtain⟨b,hb,hgb⟩:=spanL_get g (s.data.toList.drop p) (j-p) (by omega)
  rw[List.getElem?_drop,show p+(j-p)=j by omega]at hb
  rw[(get_of s j b hb).2]
  have:=hg _ hgb
  omega
theorem sym_ok{s:ByteArray}{p:Nat}(hp:p<s.size)(hn:symN (s.data.toList.drop p)≠0):
 1≤symN (s.data.toList.drop p)∧p+symN (s.data.toList.drop p)≤s.size∧∀j,p≤j→j<p+symN (s.data.toList.drop p)→(s.get! j).toNat<128:=by
 unfold symN at hn⊢
 by_cases h2:1< (s.data.toList.drop p).length∧(s.data.toList.drop p).take 2∈sym2
 ·rw[if_pos h2]
  obtain⟨hl,hm⟩:=h2
  have hl':p+2≤s.size:=by simp at hl;omega
  refine⟨by omega,hl',fun j h1 h2=>?_⟩
  rw[drop_get s p hp,drop_get s (p+1) (by omega)]at hm
  simp only[List.take_succ_cons,List.take_zero,sym2,List.mem_cons,List.cons.injEq,and_true,List.not_mem_nil,or_false]at hm
  have hj:j=p∨j=p+1:=by omega
  rcases hj with rfl|rfl<;>rcases hm with h|h|h|h|h|h<;>simp[h.1,h.2]
 ·rw[if_neg h2]at hn⊢
  rw[drop_get s p hp]at hn⊢
  simp only[List.head?_cons,Option.any_some]at hn⊢
  cases hc:sym1.contains (s.get! p)
  ·rw[hc]at hn;exact absurd rfl hn
  ·simp only[cond_true]
   refine⟨by omega,by omega,fun j h1 h2=>?_⟩
   obtain rfl:j=p:=by omega
   have hm:=List.contains_iff_mem.1 hc
   simp only[sym1,List.mem_cons,List.not_mem_nil,or_false]at hm
   rcases hm with h|h|h|h|h|h|h|h|h|h|h|h|h|h|h|h<;>simp[h]
theorem tokP_ok{s:ByteArray}{p:Nat}{x:Tkn}(hp:p<s.size)(h:tokP s p=(x,0)):
 x.a=0∧1≤x.t.size∧p+x.t.size≤s.size∧x.t=s.extract p (p+x.t.size)∧∀j,p≤j→j<p+x.t.size→(s.get! j).toNat<128:=by
 have hsz:∀n,p+n≤s.size→(s.extract p (p+n)).size=n:=fun n hn=>by simp;omega
 have fin:∀n,1≤n→p+n≤s.size→(∀j,p≤j→j<p+n→(s.get! j).toNat<128)→∀y:Tkn,y.a=0→y.t=(s.extract p s.size).extract 0 n→
  y.a=0∧1≤y.t.size∧p+y.t.size≤s.size∧y.t=s.extract p (p+y.t.size)∧∀j,p≤j→j<p+y.t.size→(s.get! j).toNat<128:=by
  intro n h1 h2 h3 y ha hy
  rw[ext_ext s p n h2]at hy
  rw[hy,hsz n h2]
  exact⟨ha,h1,h2,rfl,h3⟩
 unfold tokP at h
 by_cases hl:letterI (s.get! p).toNat=true
 ·rw[if_pos hl]at h
  unfold wordP at h
  by_cases h12:12<spanL wordI (s.extract p s.size).data.toList
  ·rw[if_pos h12]at h;simp at h
  ·rw[if_neg h12,ext_list s p (by omega)]at h
   have hw:wordI (s.get! p).toNat=true:=by simp[wordI,hl]
   obtain⟨h1,h2,h3⟩:=seg_ok wordI letter_lt hp hw
   simp only[Prod.mk.injEq,and_true]at h
   subst h
   exact fin _ h1 h2 h3 _ rfl rfl
 ·rw[if_neg hl]at h
  by_cases hd:digitI (s.get! p).toNat=true
  ·rw[if_pos hd,ext_list s p (by omega)]at h
   obtain⟨h1,h2,h3⟩:=seg_ok digitI digit_lt hp hd
   unfold numberP at h
   split at h
   ·simp at h
   ·split at h
    ·simp at h
    ·simp only[Prod.mk.injEq,and_true]at h
     subst h
     exact fin _ h1 h2 h3 _ rfl rfl
  ·rw[if_neg hd]at h
   unfold symbolP at h
   rw[ext_list s p (by omega)]at h
   by_cases h0:symN (s.data.toList.drop p)=0
   ·rw[if_pos h0]at h;simp at h
   ·rw[if_neg h0]at h
    obtain⟨h1,h2,h3⟩:=sym_ok hp h0
    simp only[Prod.mk.injEq,and_true]at h
    subst h
    exact fin _ h1 h2 h3 _ rfl rfl
theorem hash_ok {s : ByteArray} {p : Nat} (hp : p < s.size) (h : (s.get! p).toNat = 35) :
 1 ≤ spanL ne10 (s.data.toList.drop p) ∧ p + spanL ne10 (s.data.toList.drop p) ≤ s.size ∧ Bd s p (p + spanL ne10 (s.data.toList.drop p)) := by
 have h1 : 1 ≤ spanL ne10 (s.data.toList.drop p) := by rw [drop_get s p hp]; exact spanL_pos _ _ _ (by rw [h]; rfl)
 have h2 : p + spanL ne10 (s.data.toList.drop p) ≤ s.size := by
  have := spanL_le ne10 (s.data.toList.drop p)
  simp at this
  omega
 refine ⟨h1, h2, ?_⟩
 rcases Nat.eq_or_lt_of_le h2 with he | hlt
 ·exact .inr (.inl he)
 ·right; right
  refine ⟨hlt, ?_⟩
  -- the byte behind the span is a line feed
  have key : ∀ (l : List UInt8), spanL ne10 l < l.length → l[spanL ne10 l]? = some 10 := by
   intro l
   induction l with
   | nil => intro h; simp at h
   | cons b l ih =>
    intro h
    cases hb : ne10 b.toNat
    ·have : b.toNat = 10 := by simp [ne10] at hb; omega
     have hb10 : b = 10 := UInt8.toNat_inj.1 (by simpa using this)
     simp [spanL, hb10, ne10]
    ·have e : spanL ne10 (b :: l) = spanL ne10 l + 1 := by simp [spanL, List.takeWhile_cons, hb]
     rw [e] at h ⊢
     simpa using ih (by simpa using h)
  have := key (s.data.toList.drop p) (by simp; omega)
  rw [List.getElem?_drop] at this
  rw [(get_of s _ _ this).2]
  decide
end Go.Proofs.Lx
/- Plain: Lex is a function; it is reckoned. -/
namespace Go.Proofs.Lx
open Go
theorem lex_det{s:ByteArray}{p:Nat}{acc:List Tkn}{r r':List Tkn×Nat×Int}(h:Lex s p acc r):Lex s p acc r'→r=r':=by
 induction h with
 |fin hp=>intro h';cases h'<;>first|rfl|omega
 |white hp hw _ ih=>
  intro h'
  cases h' with
  |fin h=>omega
  |white _ _ h=>exact ih h
  |hash _ h35 _=>rw[h35]at hw;exact absurd hw (by decide)
  |tok _ h _ _ _=>rw[hw]at h;cases h
  |err _ h _ _ _=>rw[hw]at h;cases h
 |hash hp h35 _ ih=>
  intro h'
  cases h' with
  |fin h=>omega
  |white _ hw _=>rw[h35]at hw;exact absurd hw (by decide)
  |hash _ _ h=>exact ih h
  |tok _ _ h _ _=>exact absurd h35 h
  |err _ _ h _ _=>exact absurd h35 h
 |tok hp hw h35 ht _ ih=>
  intro h'
  cases h' with
  |fin h=>omega
  |white _ h _=>rw[hw]at h;cases h
  |hash _ h _=>exact absurd h h35
  |tok _ _ _ h h2=>
   rw[ht]at h
   simp only[Prod.mk.injEq,and_true]at h
   subst h
   exact ih h2
  |err _ _ _ h he=>
   rw[ht]at h
   simp only[Prod.mk.injEq]at h
   exact absurd h.2.symm he
 |err hp hw h35 ht he=>
  intro h'
  cases h' with
  |fin h=>omega
  |white _ h _=>rw[hw]at h;cases h
  |hash _ h _=>exact absurd h h35
  |tok _ _ _ h _=>
   rw[ht]at h
   simp only[Prod.mk.injEq]at h
   exact absurd h.2 he
  |err _ _ _ h _=>
   rw[ht]at h
   simp only[Prod.mk.injEq]at h
   rw[h.2]
def lexF(s:ByteArray):Nat→Nat→List Tkn→Option (List Tkn×Nat×Int)
 |0,_,_=>none
 |f+1,p,acc=>
  if p<s.size then
   if whiteI (s.get! p).toNat=true then lexF s f (p+1) acc
   else if(s.get! p).toNat=35 then lexF s f (p+spanL ne10 (s.data.toList.drop p)) acc
   else if(tokP s p).2=0 then lexF s f (p+(tokP s p).1.t.size) (acc++[{(tokP s p).1 with a:=p}])
   else some ([],p,(tokP s p).2)
  else some (acc++[⟨0,s.size,⟨#[]⟩,0⟩],0,0)
theorem lexF_ok{s:ByteArray}:∀(f p:Nat) (acc:List Tkn) (r:List Tkn×Nat×Int),lexF s f p acc=some r→Lex s p acc r:=by
 intro f
 induction f with
 |zero=>intro p acc r h;simp[lexF]at h
 |succ f ih=>
  intro p acc r h
  rw[lexF]at h
  by_cases hp:p<s.size
  ·rw[if_pos hp]at h
   by_cases hw:whiteI (s.get! p).toNat=true
   ·rw[if_pos hw]at h;exact .white hp hw (ih _ _ _ h)
   ·rw[if_neg hw]at h
    have hw':whiteI (s.get! p).toNat=false:=by simpa using hw
    by_cases h35:(s.get! p).toNat=35
    ·rw[if_pos h35]at h;exact .hash hp h35 (ih _ _ _ h)
    ·rw[if_neg h35]at h
     by_cases ht:(tokP s p).2=0
     ·rw[if_pos ht]at h;exact .tok (x:=(tokP s p).1) hp hw' h35 (Prod.ext rfl ht) (ih _ _ _ h)
     ·rw[if_neg ht,Option.some.injEq]at h
      subst h
      exact .err (x:=(tokP s p).1) hp hw' h35 rfl ht
  ·rw[if_neg hp,Option.some.injEq]at h
   subst h
   exact .fin (by omega)
def TokensR(s:ByteArray)(r:List Tkn×Nat×Int):Prop:=(4000<s.size∧r=([],4000,2))∨(s.size≤4000∧Lex s 0 [] r)
theorem tokR_det{s:ByteArray}{r r':List Tkn×Nat×Int}(h:TokensR s r)(h':TokensR s r'):r=r':=by
 rcases h with⟨h1,rfl⟩ | ⟨h1,h2⟩<;>rcases h' with⟨h3,rfl⟩ | ⟨h3,h4⟩
 ·rfl
 ·omega
 ·omega
 ·exact lex_det h2 h4
def ex1:List Tkn:=[⟨1,0,⟨#[120]⟩,0⟩,⟨3,1,⟨#[60,61]⟩,0⟩,⟨2,3,⟨#[49,48]⟩,10⟩,⟨0,9,⟨#[]⟩,0⟩]
end Go.Proofs.Lx
/- Plain: the parser, as a function of tokens. -/
namespace Go.Proofs.Lx
open Go
abbrev sOr:ByteArray:=⟨#[124,124]⟩
abbrev sAnd:ByteArray:=⟨#[38,38]⟩
abbrev sLt:ByteArray:=⟨#[60]⟩
abbrev sLe:ByteArray:=⟨#[60,61]⟩
abbrev sGt:ByteArray:=⟨#[62]⟩
abbrev sGe:ByteArray:=⟨#[62,61]⟩
abbrev sEq:ByteArray:=⟨#[61,61]⟩
abbrev sNe:ByteArray:=⟨#[33,61]⟩
abbrev sAdd:ByteArray:=⟨#[43]⟩
abbrev sSub:ByteArray:=⟨#[45]⟩
abbrev sMul:ByteArray:=⟨#[42]⟩
abbrev sDiv:ByteArray:=⟨#[47]⟩
abbrev sNot:ByteArray:=⟨#[33]⟩
abbrev sLPar:ByteArray:=⟨#[40]⟩
abbrev sRPar:ByteArray:=⟨#[41]⟩
abbrev sLBr:ByteArray:=⟨#[123]⟩
abbrev sRBr:ByteArray:=⟨#[125]⟩
abbrev sSet:ByteArray:=⟨#[61]⟩
abbrev sSemi:ByteArray:=⟨#[59]⟩
abbrev sComma:ByteArray:=⟨#[44]⟩
abbrev sColon:ByteArray:=⟨#[58]⟩
abbrev sDot:ByteArray:=⟨#[46]⟩
abbrev w_procedure:ByteArray:=⟨#[112,114,111,99,101,100,117,114,101]⟩
abbrev w_let:ByteArray:=⟨#[108,101,116]⟩
abbrev w_if:ByteArray:=⟨#[105,102]⟩
abbrev w_else:ByteArray:=⟨#[101,108,115,101]⟩
abbrev w_repeat:ByteArray:=⟨#[114,101,112,101,97,116]⟩
abbrev w_wait:ByteArray:=⟨#[119,97,105,116]⟩
abbrev w_await:ByteArray:=⟨#[97,119,97,105,116]⟩
abbrev w_within:ByteArray:=⟨#[119,105,116,104,105,110]⟩
abbrev w_require:ByteArray:=⟨#[114,101,113,117,105,114,101]⟩
abbrev w_point:ByteArray:=⟨#[112,111,105,110,116]⟩
abbrev w_use:ByteArray:=⟨#[117,115,101]⟩
abbrev w_for:ByteArray:=⟨#[102,111,114]⟩
abbrev w_send:ByteArray:=⟨#[115,101,110,100]⟩
abbrev w_keep:ByteArray:=⟨#[107,101,101,112]⟩
abbrev w_emit:ByteArray:=⟨#[101,109,105,116]⟩
abbrev w_abort:ByteArray:=⟨#[97,98,111,114,116]⟩
abbrev w_true:ByteArray:=⟨#[116,114,117,101]⟩
abbrev w_false:ByteArray:=⟨#[102,97,108,115,101]⟩
abbrev w_tlm:ByteArray:=⟨#[116,108,109]⟩
def keywords:List ByteArray:=[w_procedure,w_let,w_if,w_else,w_repeat,w_wait,w_await,w_within,w_require,w_point,w_use,w_for,w_send,w_keep,w_emit,w_abort,w_true,w_false,w_tlm]
def unitsL:List ByteArray:=[⟨#[74]⟩,⟨#[107,74]⟩,⟨#[87,104]⟩,⟨#[66]⟩,⟨#[107,66]⟩,⟨#[115]⟩,⟨#[109,105,110]⟩,⟨#[104]⟩,⟨#[100,101,103]⟩,⟨#[75]⟩,⟨#[87]⟩,⟨#[107,87]⟩,⟨#[66,112,115]⟩]
def inP(l:List ByteArray)(x:ByteArray):Bool:=l.any fun v=>decide (v=x)
theorem inP_iff{l:List ByteArray}{x:ByteArray}:inP l x=true↔x∈l:=by
 simp only[inP,List.any_eq_true,decide_eq_true_eq]
 exact⟨fun⟨v,h,e⟩=>e▸h,fun h=>⟨x,h,rfl⟩⟩
def resP(s:ByteArray):Bool:=inP keywords s
def unitP(s:ByteArray):Bool:=inP unitsL s
def levP(s:ByteArray):Nat:=
 if s=sOr then 1 else if s=sAnd then 2 else if s=sLt∨s=sLe∨s=sGt∨s=sGe∨s=sEq∨s=sNe then 4 else if s=sAdd∨s=sSub then 5 else if s=sMul∨s=sDiv then 6 else 0
inductive Tr where
 |node (k n:Int) (s:ByteArray) (l:List Tr):Tr
structure PS where
 p:Nat
 o:Nat
 vs:List ByteArray
inductive PR(α:Type) where
 |ok (x:α) (s:PS)
 |err (p:Nat) (c:Int)
 |out
def PR.bind{α β:Type}(r:PR α)(f:α→PS→PR β):PR β:=match r with
 | .ok x s=>f x s
 | .err p c=>.err p c
 | .out=>.out
section
variable (T:Nat→Tkn)
def adv(s:PS):PS:={s with p:=s.p+1}
def isP(w:ByteArray)(s:PS):Bool:=decide ((T s.p).t=w)
def mustP(w:ByteArray)(s:PS):PR Unit:=if isP T w s then .ok () (adv s)else .err s.p 11
def opensP(w:ByteArray)(s:PS):PR Unit:=if isP T w s then(if s.o=12 then .err s.p 2 else .ok () {s with p:=s.p+1,o:=s.o+1})else .err s.p 11
def closeP(s:PS):PS:={s with o:=s.o-1}
def nameP(s:PS):PR ByteArray:=if(T s.p).k≠1∨resP (T s.p).t=true then .err s.p 11 else .ok (T s.p).t (adv s)
def declP(s:PS):PR ByteArray:=(nameP T s).bind fun x s'=>
 if inP s.vs x=true then .err s.p 4 else if s.vs.length=12 then .err s.p 2 else .ok x {s' with vs:=s.vs++[x]}
def numP(lo hi:Int)(s:PS):PR Int:=if(T s.p).k≠2 then .err s.p 11 else if(T s.p).n<lo∨hi< (T s.p).n then .err s.p 5 else .ok (T s.p).n (adv s)
def litP(s:PS):PR Tr:=(numP T 0 2147483647 s).bind fun n s'=>
 if(T s'.p).k=1∧unitP (T s'.p).t=true then .ok (.node 15 n (T s'.p).t []) (adv s')else .ok (.node 15 n ⟨#[]⟩ []) s'
mutual
def exprP:Nat→Nat→PS→PR Tr
 |0,_,_=>.out
 |f+1,lv,s=>
  if lv=3∧isP T sNot s=true then unaryP f sNot 3 s
  else if lv=7∧isP T sSub s=true then unaryP f sSub 7 s
  else if lv=8 then primP f s
  else(exprP f (lv+1) s).bind fun n s'=>opsP f lv n s'
def opsP:Nat→Nat→Tr→PS→PR Tr
 |0,_,_,_=>.out
 |f+1,lv,n,s=>
  if levP (T s.p).t=lv∧(T s.p).k=3 then
   (exprP f (lv+1) (adv s)).bind fun m s'=>if lv=4 then .ok (.node 20 0 (T s.p).t [n,m]) s' else opsP f lv (.node 20 0 (T s.p).t [n,m]) s'
  else .ok n s
def unaryP:Nat→ByteArray→Nat→PS→PR Tr
 |0,_,_,_=>.out
 |f+1,w,lv,s=>(opensP T w s).bind fun _ s1=>(exprP f lv s1).bind fun n s2=>.ok (.node 19 0 w [n]) (closeP s2)
def primP:Nat→PS→PR Tr
 |0,_=>.out
 |f+1,s=>
  if(T s.p).k=2 then litP T s
  else if isP T w_true s=true then .ok (.node 16 1 ⟨#[]⟩ []) (adv s)
  else if isP T w_false s=true then .ok (.node 16 0 ⟨#[]⟩ []) (adv s)
  else if isP T w_tlm s=true then(mustP T sDot (adv s)).bind fun _ s1=>(nameP T s1).bind fun x s2=>.ok (.node 18 0 x []) s2
  else if isP T sLPar s=true then(opensP T sLPar s).bind fun _ s1=>(exprP f 1 s1).bind fun n s2=>(mustP T sRPar s2).bind fun _ s3=>.ok n (closeP s3)
  else(nameP T s).bind fun x s1=>.ok (.node 17 0 x []) s1
end
def endP(n:Tr)(s:PS):PR Tr:=(mustP T sSemi s).bind fun _ s'=>.ok n s'
def setP(f:Nat)(k:Int)(x:ByteArray)(s:PS):PR Tr:=(mustP T sSet s).bind fun _ s1=>(exprP T f 1 s1).bind fun n s2=>endP T (.node k 0 x [n]) s2
def oneP(f:Nat)(k:Int)(s:PS):PR Tr:=(exprP T f 1 s).bind fun n s2=>endP T (.node k 0 ⟨#[]⟩ [n]) s2
def amtP(k:Int)(s:PS):PR Tr:=(litP T s).bind fun n s2=>endP T (.node k 0 ⟨#[]⟩ [n]) s2
def awaitP(f:Nat)(s:PS):PR Tr:=(exprP T f 1 s).bind fun c s1=>(mustP T w_within s1).bind fun _ s2=>(litP T s2).bind fun n s3=>endP T (.node 6 0 ⟨#[]⟩ [c,n]) s3
def nmbP(k hi:Int)(s:PS):PR Tr:=(numP T 0 hi s).bind fun n s1=>endP T (.node k n ⟨#[]⟩ []) s1
def useP(k:Int)(w:ByteArray)(s:PS):PR Tr:=(numP T 0 7 s).bind fun n s1=>(mustP T w s1).bind fun _ s2=>(litP T s2).bind fun m s3=>endP T (.node k n ⟨#[]⟩ [m]) s3
mutual
def blockP:Nat→PS→PR Tr
 |0,_=>.out
 |f+1,s=>(opensP T sLBr s).bind fun _ s1=>(stmtsP f s1).bind fun l s2=>.ok (.node 14 0 ⟨#[]⟩ l) (closeP s2)
def stmtsP:Nat→PS→PR (List Tr)
 |0,_=>.out
 |f+1,s=>if isP T sRBr s=true then .ok [] (adv s)else(stmtP f s).bind fun n s1=>(stmtsP f s1).bind fun l s2=>.ok (n::l) s2
def stmtP:Nat→PS→PR Tr
 |0,_=>.out
 |f+1,s=>
  if isP T w_let s=true then(declP T (adv s)).bind fun x s1=>setP T f 1 x s1
  else if isP T w_if s=true then(exprP T f 1 (adv s)).bind fun c s1=>(blockP f s1).bind fun y s2=>
   if isP T w_else s2=true then(blockP f (adv s2)).bind fun n s3=>.ok (.node 3 0 ⟨#[]⟩ [c,y,n]) s3 else .ok (.node 3 0 ⟨#[]⟩ [c,y,.node 14 0 ⟨#[]⟩ []]) s2
  else if isP T w_repeat s=true then(numP T 1 100 (adv s)).bind fun n s1=>(blockP f s1).bind fun y s2=>.ok (.node 4 n ⟨#[]⟩ [y]) s2
  else if isP T w_await s=true then awaitP T f (adv s)
  else if isP T w_wait s=true then amtP T 5 (adv s)
  else if isP T w_keep s=true then amtP T 11 (adv s)
  else if isP T w_require s=true then oneP T f 7 (adv s)
  else if isP T w_point s=true then oneP T f 8 (adv s)
  else if isP T w_use s=true then useP T 9 w_for (adv s)
  else if isP T w_send s=true then useP T 10 sComma (adv s)
  else if isP T w_emit s=true then nmbP T 12 99 (adv s)
  else if isP T w_abort s=true then nmbP T 13 999 (adv s)
  else(nameP T s).bind fun x s1=>setP T f 2 x s1
end
structure Prm where
 x:ByteArray
 u:ByteArray
structure Prc where
 x:ByteArray
 ps:List Prm
 b:Tr
def prmP(s:PS):PR Prm:=(declP T s).bind fun x s1=>
 if isP T sColon s1=true then
  (if(T (s1.p+1)).k≠1 then .err (s1.p+1) 11 else if unitP (T (s1.p+1)).t=false then .err (s1.p+1) 10 else .ok ⟨x,(T (s1.p+1)).t⟩ (adv (adv s1)))
 else .ok ⟨x,⟨#[]⟩⟩ s1
def prmsP:Nat→PS→PR (List Prm)
 |0,_=>.out
 |f+1,s=>(prmP T s).bind fun x s1=>if isP T sComma s1=true then(prmsP f (adv s1)).bind fun l s2=>.ok (x::l) s2 else(mustP T sRPar s1).bind fun _ s2=>.ok [x] s2
def paramsP(f:Nat)(s:PS):PR (List Prm):=(mustP T sLPar s).bind fun _ s1=>if isP T sRPar s1=true then .ok [] (adv s1)else prmsP T f s1
def procP(f:Nat)(pr:List ByteArray)(s:PS):PR Prc:=(mustP T w_procedure s).bind fun _ s1=>(nameP T s1).bind fun x s2=>
 if inP pr x=true then .err s1.p 4 else(paramsP T f {s2 with vs:=[]}).bind fun l s3=>(blockP T f s3).bind fun b s4=>.ok ⟨x,l,b⟩ s4
def procsP:Nat→List ByteArray→PS→PR (List Prc)
 |0,_,_=>.out
 |f+1,pr,s=>if(T s.p).k=0 then .ok [] s else(procP T f pr s).bind fun x s1=>(procsP f (pr++[x.x]) s1).bind fun l s2=>.ok (x::l) s2
end
end Go.Proofs.Lx
/- Plain: a word between spaces in a list of words. -/
namespace Go.Proofs.Lx
open Go
theorem contains_iff(s sub:List UInt8):Lib.contains s sub=true↔∃a b,s=a++(sub++b):=by
 unfold Lib.contains
 rw[decide_eq_true_eq]
 constructor
 ·intro h
  rcases Lib.index_spec s sub with⟨h1,_⟩ | ⟨i,h1,h2,h3,_⟩
  ·omega
  ·unfold Lib.occAt at h3
   obtain⟨b,hb⟩:=List.isPrefixOf_iff_prefix.1 h3
   exact⟨s.take i,b,by rw[hb,List.take_append_drop]⟩
 ·rintro⟨a,b,rfl⟩
  rcases Lib.index_spec (a++(sub++b)) sub with⟨h1,h2⟩ | ⟨i,h1,_⟩
  ·have:=h2 a.length (by simp)
   unfold Lib.occAt at this
   rw[List.drop_left]at this
   have h3:sub.isPrefixOf (sub++b)=true:=List.isPrefixOf_iff_prefix.2 ⟨b,rfl⟩
   rw[h3]at this
   cases this
  ·omega
def spaced(ws:List (List UInt8)):List UInt8:=ws.flatMap fun w=>w++[32]
theorem first_space{w t a b:List UInt8}(hw:∀c∈w,c≠32)(ht:∀c∈t,c≠32)(h:w++32::a=t++32::b):w=t∧a=b:=by
 induction w generalizing t with
 |nil=>
  cases t with
  |nil=>simp only[List.nil_append,List.cons.injEq,true_and]at h;exact⟨rfl,h⟩
  |cons c t=>simp only[List.nil_append,List.cons_append,List.cons.injEq]at h;exact absurd h.1.symm (ht c (.head _))
 |cons c w ih=>
  cases t with
  |nil=>simp only[List.nil_append,List.cons_append,List.cons.injEq]at h;exact absurd h.1 (hw c (.head _))
  |cons d t=>
   simp only[List.cons_append,List.cons.injEq]at h
   obtain⟨h1,h2⟩:=ih (fun c hc=>hw c (.tail _ hc)) (fun c hc=>ht c (.tail _ hc)) h.2
   exact⟨by rw[h.1,h1],h2⟩
theorem after_word{w x a z:List UInt8}(hw:∀c∈w,c≠32)(h:w++32::x=a++32::z):a=w∧x=z∨∃a',a=w++32::a'∧x=a'++32::z:=by
 induction w generalizing a with
 |nil=>
  cases a with
  |nil=>simp only[List.nil_append,List.cons.injEq,true_and]at h;exact .inl ⟨rfl,h⟩
  |cons c a=>simp only[List.nil_append,List.cons_append,List.cons.injEq]at h;exact .inr ⟨a,by rw[h.1];rfl,h.2⟩
 |cons c w ih=>
  cases a with
  |nil=>simp only[List.nil_append,List.cons_append,List.cons.injEq]at h;exact absurd h.1 (hw c (.head _))
  |cons d a=>
   simp only[List.cons_append,List.cons.injEq]at h
   rcases ih (fun c hc=>hw c (.tail _ hc)) h.2 with⟨h1,h2⟩ | ⟨a',h1,h2⟩
   ·exact .inl ⟨by rw[h.1,h1],h2⟩
   ·exact .inr ⟨a',by rw[h.1,h1];rfl,h2⟩
theorem spaced_iff{t:List UInt8}(ht:∀c∈t,c≠32):∀{ws:List (List UInt8)},(∀w∈ws,∀c∈w,c≠32)→((∃a b,32::spaced ws=a++32::(t++32::b))↔t∈ws)
 | [],_=>by
  simp only[spaced,List.flatMap_nil,List.not_mem_nil,iff_false]
  rintro⟨a,b,h⟩
  have:=congrArg List.length h
  simp at this
  omega
 |w::ws,hw=>by
  have ih:=spaced_iff ht (ws:=ws) fun w h=>hw w (.tail _ h)
  have e:spaced (w::ws)=w++32::spaced ws:=by simp[spaced]
  rw[e,List.mem_cons,←ih]
  constructor
  ·rintro⟨a,b,h⟩
   cases a with
   |nil=>
    simp only[List.nil_append,List.cons.injEq,true_and]at h
    exact .inl (first_space (hw w (.head _)) ht h).1.symm
   |cons c a=>
    simp only[List.cons_append,List.cons.injEq]at h
    rcases after_word (hw w (.head _)) h.2 with⟨_,h2⟩ | ⟨a',_,h2⟩
    ·exact .inr ⟨[],b,by rw[h2];rfl⟩
    ·exact .inr ⟨32::a',b,by rw[h2];rfl⟩
  ·rintro(rfl| ⟨a,b,h⟩)
   ·exact⟨[],spaced ws,rfl⟩
   ·exact⟨32::(w++a),b,by
     show 32::(w++32::spaced ws)=_
     rw[h];simp⟩
def kwL:List UInt8:=32::spaced (keywords.map fun w=>w.data.toList)
theorem res_iff{t:ByteArray}(ht:∀c∈t.data.toList,c≠32):Lib.contains kwL (32::(t.data.toList++[32]))=resP t:=by
 rw[Bool.eq_iff_iff,contains_iff]
 have h:=spaced_iff ht (ws:=keywords.map fun w=>w.data.toList) (by decide)
 unfold resP
 rw[inP_iff]
 have e:(∃a b,kwL=a++(32::(t.data.toList++[32])++b))↔∃a b,32::spaced (keywords.map fun w=>w.data.toList)=a++32::(t.data.toList++32::b):=by
  constructor<;>rintro⟨a,b,h⟩<;>exact⟨a,b,by simpa[kwL]using h⟩
 rw[e,h,List.mem_map]
 constructor
 ·rintro⟨w,hw,he⟩
  have:w=t:=by
   obtain⟨⟨x⟩⟩:=w;obtain⟨⟨y⟩⟩:=t
   simp only at he
   rw[he]
  rw[←this];exact hw
 ·intro h
  exact⟨t,h,rfl⟩
end Go.Proofs.Lx
/- The parser's small methods do what the plain parser says. -/
namespace Go.Proofs.YtjfkkokeegpeiaaGreatDoor
open Go Go.Am Go.Proofs.Lx
set_option maxRecDepth 100000
theorem tl_eq{a b:ByteArray}:((ByteArray.toList a==ByteArray.toList b)=true)↔a=b:=by
 rw[beq_iff_eq,ByteArray.toList_eq,ByteArray.toList_eq]
 constructor
 ·intro h
  obtain⟨⟨x⟩⟩:=a
  obtain⟨⟨y⟩⟩:=b
  simp only at h
  rw[h]
 ·rintro rfl;rfl
theorem tl_dec{a b:ByteArray}:(ByteArray.toList a==ByteArray.toList b)=decide (a=b):=by
 rw[Bool.eq_iff_iff,tl_eq,decide_eq_true_eq]
theorem w_in{n:Int}(h1: -9223372036854775808≤n)(h2:n≤9223372036854775807):w n=n:=by
 unfold w;rw[IntKind.wrap_i64];omega
theorem w_succ{i:Nat}(h:i≤4000000000):w ((i:Int)+1)=((i+1:Nat):Int):=by rw[w_in (by omega) (by omega)];omega
abbrev StT:Type:=Int×Int×Nat×(Nat→Int)×(Nat→Int)×(Nat→ByteArray)×(Nat→Int)×Nat×(Nat→ByteArray)×Nat×(Nat→ByteArray)
def Ag(v:Nat→ByteArray)(l:List ByteArray):Prop:=∀j b,l[j]? =some b→v j=b
theorem Ag.push{v:Nat→ByteArray}{l:List ByteArray}{x:ByteArray}(h:Ag v l):Ag (fun j=>if j<l.length then v j else x) (l++[x]):=by
 intro j b hb
 by_cases hj:j<l.length
 ·rw[List.getElem?_append_left hj]at hb
  simp only[hj,if_true]
  exact h j b hb
 ·rw[List.getElem?_append_right (by omega)]at hb
  simp only[hj,if_false]
  cases hk:j-l.length with
  |zero=>rw[hk]at hb;simpa using hb
  |succ n=>rw[hk]at hb;simp at hb
structure TokN(N:Nat)(T:Nat→Tkn):Prop where
 pos:0<N
 big:N≤4001
 endk:(T (N-1)).k=0
 endt:(T (N-1)).t=⟨#[]⟩
 sym:∀j,(T j).k≠3→levP (T j).t=0
 word:∀j,(T j).k=1→(T j).t.size≤12∧∀c∈(T j).t.data.toList,c≠32
def RS(N:Nat)(T:Nat→Tkn)(pr:List ByteArray)(s:PS)(x:StT):Prop:=
 ∃v u,x=(((s.p:Nat):Int),((s.o:Nat):Int),N,(fun j=>(T j).k),(fun j=>(T j).a),(fun j=>(T j).t),(fun j=>(T j).n),s.vs.length,v,pr.length,u)∧
  Ag v s.vs∧Ag u pr∧s.p<N∧s.o≤12∧s.vs.length≤12∧pr.length≤2000000000
section
variable {N:Nat} {T:Nat→Tkn} {pr:List ByteArray} {s:PS} {x:StT}
theorem TokN.lt(hT:TokN N T){p:Nat}(hp:p<N)(h:(T p).t≠⟨#[]⟩∨(T p).k≠0):p+1<N:=by
 by_cases e:p=N-1
 ·subst e
  rcases h with h|h
  ·exact absurd hT.endt h
  ·exact absurd hT.endk h
 ·have:=hT.pos
  omega
theorem RS.adv(hT:TokN N T)(h:RS N T pr s x)(hk:(T s.p).t≠⟨#[]⟩∨(T s.p).k≠0):RS N T pr (adv s) (w (x.1+1),x.2):=by
 obtain⟨v,u,rfl,h1,h2,h3,h4,h5,h6⟩:=h
 refine⟨v,u,?_,h1,h2,hT.lt h3 hk,h4,h5,h6⟩
 have:=hT.big
 show(w ((s.p:Int)+1),_)=_
 rw[w_succ (by omega)]
 rfl
end
section
variable {N:Nat} {T:Nat→Tkn} {pr:List ByteArray} {s:PS} {x:StT}
theorem fail_eq(q:Nat)(h:RS N T pr s x)(c:Int):fail q (c,x)=some ((T s.p).a,c):=by
 obtain⟨v,u,rfl,h1,h2,h3,h4,h5,h6⟩:=h
 unfold fail t_fail
 dsimp only
 rw[if_pos ⟨by omega,by omega⟩,Int.toNat_natCast]
theorem next_eq(q:Nat)(h:RS N T pr s x):next q x=some ((T s.p).k,(T s.p).a,(T s.p).t,(T s.p).n,x):=by
 obtain⟨v,u,rfl,h1,h2,h3,h4,h5,h6⟩:=h
 unfold next t_next
 dsimp only
 rw[if_pos ⟨by omega,by omega⟩,Int.toNat_natCast]
theorem is_eq(q:Nat)(h:RS N T pr s x)(b:ByteArray):is q (b,x)=some (isP T b s,x):=by
 obtain⟨v,u,rfl,h1,h2,h3,h4,h5,h6⟩:=h
 unfold is t_is
 dsimp only
 rw[if_pos ⟨by omega,by omega⟩,Int.toNat_natCast,tl_dec]
 rfl
theorem take_eq(q:Nat)(h:RS N T pr s x)(b:ByteArray):take q (b,x)=some (if isP T b s=true then(true,w (x.1+1),x.2)else(false,x)):=by
 unfold take t_take
 rw[is_eq q h]
 dsimp only[Option.bind_some]
 by_cases hb:isP T b s=true
 ·rw[if_pos hb,if_pos hb]
 ·rw[if_neg hb,if_neg hb]
end
def PU(N:Nat)(T:Nat→Tkn)(pr:List ByteArray):PR Unit→StT⊕(Int×Int)→Prop
 | .ok _ s,.inl x=>RS N T pr s x
 | .err p c,.inr e=>p<N∧e=((T p).a,c)
 |_,_=>False
def PX{α:Type}(N:Nat)(T:Nat→Tkn)(pr:List ByteArray):PR α→(α×StT)⊕(Int×Int)→Prop
 | .ok a s,.inl z=>z.1=a∧RS N T pr s z.2
 | .err p c,.inr e=>p<N∧e=((T p).a,c)
 |_,_=>False
section
variable {N:Nat} {T:Nat→Tkn} {pr:List ByteArray} {s:PS} {x:StT}
theorem isP_ne{b:ByteArray}(hb:b≠⟨#[]⟩)(h:isP T b s=true):(T s.p).t≠⟨#[]⟩∨(T s.p).k≠0:=by
 simp only[isP,decide_eq_true_eq]at h
 exact .inl (h▸hb)
theorem must_rs(hT:TokN N T)(q:Nat)(h:RS N T pr s x)(b:ByteArray)(hb:b≠⟨#[]⟩):Rs (must q (b,x)) (PU N T pr (mustP T b s)):=by
 unfold must t_must mustP
 rw[take_eq q h]
 dsimp only[Option.bind_some]
 by_cases hi:isP T b s=true
 ·rw[if_pos hi,if_pos hi]
  exact Rs.neg (by simp) (Rs.some (RS.adv hT h (isP_ne hb hi)))
 ·rw[if_neg hi,if_neg hi]
  refine Rs.pos (by simp) ?_
  rw[fail_eq q h]
  have h3:=h.choose_spec.choose_spec.2.2.2.1
  exact Rs.some ⟨h3,rfl⟩
theorem RS.lt(h:RS N T pr s x):s.p<N:=h.choose_spec.choose_spec.2.2.2.1
theorem opens_rs(hT:TokN N T)(q:Nat)(h:RS N T pr s x)(b:ByteArray)(hb:b≠⟨#[]⟩):Rs (opens q (b,x)) (PU N T pr (opensP T b s)):=by
 unfold opens t_opens opensP
 rw[is_eq q h]
 dsimp only[Option.bind_some]
 by_cases hi:isP T b s=true
 ·rw[if_pos hi]
  refine Rs.neg (by simp[hi]) ?_
  obtain⟨v,u,rfl,h1,h2,h3,h4,h5,h6⟩:=h
  dsimp only
  by_cases ho:s.o=12
  ·rw[if_pos ho]
   refine Rs.pos (by simp[ho]) ?_
   rw[fail_eq q ⟨v,u,rfl,h1,h2,h3,h4,h5,h6⟩]
   exact Rs.some ⟨h3,rfl⟩
  ·rw[if_neg ho]
   refine Rs.neg (by simp;omega) (Rs.some ?_)
   have:=hT.big
   refine⟨v,u,?_,h1,h2,hT.lt h3 (isP_ne hb hi),(by show s.o+1≤12;omega),h5,h6⟩
   rw[w_succ (by omega),w_succ (by omega)]
 ·rw[if_neg hi]
  refine Rs.pos (by simp[hi]) ?_
  rw[fail_eq q h]
  exact Rs.some ⟨h.lt,rfl⟩
theorem reserved_eq(q:Nat){t:ByteArray}(h1:t.size≤12)(h2:∀c∈t.data.toList,c≠32):reserved q t=some (resP t):=by
 unfold reserved t_reserved
 have hs:(({data:=#[32]}:ByteArray)++t).size=1+t.size:=by simp[ByteArray.size_append];rfl
 rw[if_pos (by unfold maxLen;omega),if_pos (by rw[hs];unfold maxLen;omega)]
 unfold Contains
 rw[if_pos (by dsimp only;decide)]
 dsimp only[Option.bind_some]
 rw[←res_iff h2]
 refine congrArg some (congr (congrArg Lib.contains ?_) ?_)
 ·decide
 ·simp
theorem name_rs(hT:TokN N T)(q:Nat)(h:RS N T pr s x):Rs (name q x) (PX N T pr (nameP T s)):=by
 unfold name t_name nameP
 rw[next_eq q h]
 dsimp only[Option.bind_some]
 by_cases hk:(T s.p).k=1
 ·refine Rs.neg (by simp[hk]) ?_
  obtain⟨g1,g2⟩:=hT.word s.p hk
  rw[reserved_eq q g1 g2]
  dsimp only[Option.bind_some]
  by_cases hr:resP (T s.p).t=true
  ·rw[if_pos hr,if_pos (.inr hr),fail_eq q h]
   exact Rs.some ⟨h.lt,rfl⟩
  ·rw[if_neg hr,if_neg (by simp[hk,hr])]
   exact Rs.some ⟨rfl,RS.adv hT h (.inr (by rw[hk];decide))⟩
 ·refine Rs.pos (by simp[hk]) ?_
  rw[if_pos (.inl hk),fail_eq q h]
  exact Rs.some ⟨h.lt,rfl⟩
theorem number_rs(hT:TokN N T)(q:Nat)(h:RS N T pr s x)(lo hi:Int):Rs (number q (lo,hi,x)) (PX N T pr (numP T lo hi s)):=by
 unfold number t_number
 rw[next_eq q h]
 dsimp only[Option.bind_some]
 by_cases hk:(T s.p).k=2
 ·refine Rs.neg (by simp[hk]) ?_
  by_cases h1:(T s.p).n<lo
  ·have e:numP T lo hi s= .err s.p 5:=by unfold numP;rw[if_neg (by simp[hk]),if_pos (.inl h1)]
   refine Rs.pos (by simp[h1]) ?_
   rw[fail_eq q h,e]
   exact Rs.some ⟨h.lt,rfl⟩
  ·refine Rs.neg (by simpa using h1) ?_
   by_cases h2:hi< (T s.p).n
   ·have e:numP T lo hi s= .err s.p 5:=by unfold numP;rw[if_neg (by simp[hk]),if_pos (.inr h2)]
    refine Rs.pos (by simpa using h2) ?_
    rw[fail_eq q h,e]
    exact Rs.some ⟨h.lt,rfl⟩
   ·have e:numP T lo hi s= .ok (T s.p).n (adv s):=by unfold numP;rw[if_neg (by simp[hk]),if_neg (by omega)]
    rw[e]
    exact Rs.neg (by simpa using h2) (Rs.some ⟨rfl,RS.adv hT h (.inr (by rw[hk];decide))⟩)
 ·have e:numP T lo hi s= .err s.p 11:=by unfold numP;rw[if_pos hk]
  refine Rs.pos (by simp[hk]) ?_
  rw[fail_eq q h,e]
  exact Rs.some ⟨h.lt,rfl⟩
theorem Lookup_rs(q:Nat)(t:ByteArray):Rs (Lookup q t) (fun z=>z.2.2.2.2.2.2=unitP t):=by
 unfold Lookup t_Lookup
 repeat' refine Rs.ite (fun h=>?_) (fun h=>?_)
 all_goals refine Rs.some ?_
 all_goals simp only[tl_eq]at*
 all_goals first
  | (subst_vars;decide)
  | (show false=unitP t;symm;rw[Bool.eq_false_iff,Ne,unitP,inP_iff];simp only[unitsL,List.mem_cons,List.not_mem_nil,or_false,not_or];refine⟨?_,?_,?_,?_,?_,?_,?_,?_,?_,?_,?_,?_,?_⟩<;>(intro e;subst e;contradiction))
theorem nameP_ok{a:ByteArray}{s':PS}(h:nameP T s= .ok a s'):a=(T s.p).t∧s'=adv s∧(T s.p).k=1∧resP (T s.p).t=false:=by
 unfold nameP at h
 split at h
 ·cases h
 ·rename_i hn
  cases h
  simp only[not_or,Decidable.not_not,Bool.not_eq_true]at hn
  exact⟨rfl,rfl,hn.1,hn.2⟩
theorem declare_loop(q:Nat)(x0:a_declare)(a:ByteArray){v u:Nat→ByteArray}(h1:Ag v s.vs)(h2:Ag u pr)(h3:s.p<N)(h4:s.o≤12)(h5:s.vs.length≤12)(h6:pr.length≤2000000000):
 ∀(n i m:Nat),i+n=s.vs.length→n<m→(∀j,j<i→s.vs[j]? ≠some a)→
 Rs (lpG (fun y=>declare_l0_t (name q) (fail q) x0 y (fun y=>some (.inl y)) (fun z=>some (.inr z))) m (a,s.vs.length,((s.vs.length:Nat):Int),N,(fun j=>(T j).k),(fun j=>(T j).a),(fun j=>(T j).t),(fun j=>(T j).n),((s.p:Nat):Int),((s.o:Nat):Int),pr.length,v,u,((i:Nat):Int)))
  (fun z=>if inP s.vs a=true then z= .inl ((T s.p).a,4)else z= .inr (a,N,(fun j=>(T j).k),(fun j=>(T j).a),(fun j=>(T j).t),(fun j=>(T j).n),((s.p:Nat):Int),((s.o:Nat):Int),s.vs.length,pr.length,v,u)):=by
 intro n
 induction n with
 |zero=>
  intro i m hi hm hno
  obtain⟨m,rfl⟩:∃k,m=k+1:=⟨m-1,by omega⟩
  refine Rs.step ?_
  unfold declare_l0_t
  dsimp only
  refine Rs.neg (by simp;omega) (Rs.some ?_)
  have hnin:¬inP s.vs a=true:=by
   rw[inP_iff,List.mem_iff_getElem?]
   rintro⟨j,hj⟩
   have:=(List.getElem?_eq_some_iff.1 hj).1
   exact hno j (by omega) hj
  show(if inP s.vs a=true then _ else _)
  rw[if_neg hnin]
 |succ n ih=>
  intro i m hi hm hno
  obtain⟨m,rfl⟩:∃k,m=k+1:=⟨m-1,by omega⟩
  refine Rs.step ?_
  unfold declare_l0_t
  dsimp only
  refine Rs.pos (by simp;omega) (Rs.pos ⟨by omega,by omega⟩ (Rs.pos ⟨by simp;omega,rfl⟩ ?_))
  have hget:s.vs[i]? =some (v i):=by
   have hlt:i<s.vs.length:=by omega
   have:=List.getElem?_eq_getElem hlt
   rw[this,h1 i _ this]
  have e:0+Int.toNat ((i:Nat):Int)=i:=by omega
  rw[e]
  refine Rs.ite (fun heq=>?_) (fun hne=>?_)
  ·rw[tl_eq]at heq
   have hin:inP s.vs a=true:=by
    rw[inP_iff,←heq]
    exact List.mem_iff_getElem?.2 ⟨i,hget⟩
   rw[fail_eq q (s:=s) (pr:=pr) (N:=N) (T:=T) ⟨v,u,rfl,h1,h2,h3,h4,h5,h6⟩]
   refine Rs.some ?_
   show(if inP s.vs a=true then _ else _)
   rw[if_pos hin]
  ·rw[tl_eq]at hne
   refine Rs.some ?_
   show Rs (lpG _ m _) _
   rw[w_succ (by omega)]
   refine ih (i+1) m (by omega) (by omega) fun j hj=>?_
   by_cases hji:j=i
   ·subst hji
    rw[hget]
    simpa using hne
   ·exact hno j (by omega)
theorem declare_rs(hT:TokN N T)(q:Nat)(hq:20≤q)(h:RS N T pr s x):Rs (declare q x) (PX N T pr (declP T s)):=by
 unfold declare t_declare declP
 refine Rs.bind (name_rs hT q h) fun z hz=>?_
 cases hn:nameP T s with
 |out=>rw[hn]at hz;rcases z with z|z<;>exact hz.elim
 |err p c=>
  rw[hn]at hz
  rcases z with z|z
  ·exact hz.elim
  ·exact Rs.some hz
 |ok a s'=>
  rw[hn]at hz
  obtain⟨rfl,rfl,hk,hr⟩:=nameP_ok hn
  rcases z with z|z
  rotate_left
  ·exact hz.elim
  obtain⟨z1,z2⟩:=z
  obtain⟨rfl,v,u,rfl,h1,h2,h3,h4,h5,h6⟩:=hz
  dsimp only[Sum.elim_inl,PR.bind]
  have hsp:=h.lt
  have hN:=hT.big
  have e1:w (((adv s).p:Int)-1)=((s.p:Nat):Int):=by
   show w (((s.p+1:Nat):Int)-1)=_
   rw[w_in (by omega) (by omega)];omega
  rw[e1]
  unfold declare_l0
  refine Rs.bind (declare_loop (s:=s) q x _ h1 h2 hsp h4 h5 h6 s.vs.length 0 q (by omega) (by show s.vs.length<q;have:s.vs.length≤12:=h5;omega) (fun j hj=>absurd hj (Nat.not_lt_zero j))) fun z hz=>?_
  by_cases hin:inP s.vs (T s.p).t=true
  ·rw[if_pos hin]at hz
   subst hz
   rw[if_pos hin]
   exact Rs.some ⟨hsp,rfl⟩
  ·rw[if_neg hin]at hz
   subst hz
   rw[if_neg hin]
   dsimp only[Sum.elim_inr,Sum.elim_inl]
   by_cases hl:s.vs.length=12
   ·rw[if_pos hl]
    refine Rs.pos (by simp[hl]) ?_
    rw[fail_eq q (s:=s) (pr:=pr) (N:=N) (T:=T) ⟨v,u,rfl,h1,h2,hsp,h4,h5,h6⟩]
    exact Rs.some ⟨hsp,rfl⟩
   ·rw[if_neg hl]
    refine Rs.neg (by simp;omega) (Rs.pos ?_ (Rs.some ⟨rfl,?_⟩))
    ·have:s.vs.length≤12:=h5
     exact⟨by unfold roomBound;omega,by unfold maxLen;omega,by omega⟩
    ·refine⟨_,u,?_,h1.push,h2,h3,h4,(by simp;have:s.vs.length≤12:=h5;omega),h6⟩
     rw[w_succ (by omega)]
     simp[adv]
     rfl
end
end Go.Proofs.YtjfkkokeegpeiaaGreatDoor
/- Expressions are read as the plain parser reads them. -/
namespace Go.Proofs.YtjfkkokeegpeiaaGreatDoor
open Go Go.Am Go.Proofs.Lx
set_option maxRecDepth 100000
abbrev NodeT:Type:=Int×Int×ByteArray×Nat×(Nat→List V)
mutual
def RepN:Tr→NodeT→Prop
 | .node k n s l,x=>x.1=k∧x.2.1=n∧x.2.2.1=s∧x.2.2.2.1=l.length∧RepL l x.2.2.2.2 0
def RepL:List Tr→(Nat→List V)→Nat→Prop
 | [],_,_=>True
 |t::l,f,j=>(∃y:NodeT,f j=[i64 y.1,i64 y.2.1,st y.2.2.1,.ro 4 y.2.2.2.1 y.2.2.2.2]∧RepN t y)∧RepL l f (j+1)
end
theorem RepN.leaf{k n:Int}{s:ByteArray}{f:Nat→List V}:RepN (.node k n s []) (k,n,s,0,f):=by simp[RepN,RepL]
theorem RepN.k1{k n:Int}{s:ByteArray}{a:Tr}{y:NodeT}(h:RepN a y):RepN (.node k n s [a]) (k,n,s,1,selL [[i64 y.1,i64 y.2.1,st y.2.2.1,.ro 4 y.2.2.2.1 y.2.2.2.2]]):=by
 simp only[RepN,RepL,List.length_cons,List.length_nil]
 exact⟨trivial,trivial,trivial,trivial,⟨y,rfl,h⟩,trivial⟩
theorem RepN.k2{k n:Int}{s:ByteArray}{a b:Tr}{y z:NodeT}(h:RepN a y)(g:RepN b z):RepN (.node k n s [a,b]) (k,n,s,2,selL [[i64 y.1,i64 y.2.1,st y.2.2.1,.ro 4 y.2.2.2.1 y.2.2.2.2],[i64 z.1,i64 z.2.1,st z.2.2.1,.ro 4 z.2.2.2.1 z.2.2.2.2]]):=by
 simp only[RepN,RepL,List.length_cons,List.length_nil]
 exact⟨trivial,trivial,trivial,trivial,⟨y,rfl,h⟩,⟨z,rfl,g⟩,trivial⟩
def PN(N:Nat)(T:Nat→Tkn)(pr:List ByteArray):PR Tr→(Int×Int×ByteArray×Nat×(Nat→List V)×StT)⊕(Int×Int)→Prop
 | .ok a s,.inl z=>RepN a (z.1,z.2.1,z.2.2.1,z.2.2.2.1,z.2.2.2.2.1)∧RS N T pr s z.2.2.2.2.2
 | .err p c,.inr e=>p<N∧e=((T p).a,c)
 |_,_=>False
theorem PR.bind_out{α β:Type}{r:PR α}{k:α→PS→PR β}(h:r.bind k≠ .out):r≠ .out:=by rintro rfl;exact h rfl
section
variable {N:Nat} {T:Nat→Tkn} {pr:List ByteArray} {γ:Type} {P:γ→Prop}
theorem PU.bind{r:PR Unit}{o:Option (StT⊕(Int×Int))}{f:StT→Option γ}{g:Int×Int→Option γ}(h:Rs o (PU N T pr r))(hok:∀s x,r= .ok () s→RS N T pr s x→Rs (f x) P)(herr:∀p c,r= .err p c→p<N→Rs (g ((T p).a,c)) P):
 Rs (o.bind fun z=>Sum.elim f g z) P:=by
 obtain⟨z,rfl,hp⟩:=h
 cases r with
 |ok u s=>cases z with
  |inl z=>exact hok s z rfl hp
  |inr z=>exact hp.elim
 |err p c=>cases z with
  |inl z=>exact hp.elim
  |inr z=>obtain⟨h1,rfl⟩:=hp;exact herr p c rfl h1
 |out=>cases z<;>exact hp.elim
theorem PX.bind{α:Type}{r:PR α}{o:Option ((α×StT)⊕(Int×Int))}{f:α×StT→Option γ}{g:Int×Int→Option γ}(h:Rs o (PX N T pr r))(hok:∀a s x,r= .ok a s→RS N T pr s x→Rs (f (a,x)) P)(herr:∀p c,r= .err p c→p<N→Rs (g ((T p).a,c)) P):
 Rs (o.bind fun z=>Sum.elim f g z) P:=by
 obtain⟨z,rfl,hp⟩:=h
 cases r with
 |ok a s=>cases z with
  |inl z=>obtain⟨z1,z2⟩:=z;obtain⟨rfl,h2⟩:=hp;exact hok _ s z2 rfl h2
  |inr z=>exact hp.elim
 |err p c=>cases z with
  |inl z=>exact hp.elim
  |inr z=>obtain⟨h1,rfl⟩:=hp;exact herr p c rfl h1
 |out=>cases z<;>exact hp.elim
theorem PN.bind{r:PR Tr}{o:Option ((Int×Int×ByteArray×Nat×(Nat→List V)×StT)⊕(Int×Int))}{f:Int×Int×ByteArray×Nat×(Nat→List V)×StT→Option γ}{g:Int×Int→Option γ}(h:Rs o (PN N T pr r))
 (hok:∀t s k n b m c x,r= .ok t s→RepN t (k,n,b,m,c)→RS N T pr s x→Rs (f (k,n,b,m,c,x)) P) (herr:∀p c,r= .err p c→p<N→Rs (g ((T p).a,c)) P):
 Rs (o.bind fun z=>Sum.elim f g z) P:=by
 obtain⟨z,rfl,hp⟩:=h
 cases r with
 |ok a s=>cases z with
  |inl z=>obtain⟨k,n,b,m,c,x⟩:=z;exact hok a s k n b m c x rfl hp.1 hp.2
  |inr z=>exact hp.elim
 |err p c=>cases z with
  |inl z=>exact hp.elim
  |inr z=>obtain⟨h1,rfl⟩:=hp;exact herr p c rfl h1
 |out=>cases z<;>exact hp.elim
end
theorem levelOf_eq(q:Nat)(t:ByteArray):levelOf q t=some ((levP t:Nat):Int):=by
 unfold levelOf t_levelOf levP
 simp only[tl_eq]
 by_cases e0:t=sOr
 ·subst e0;rfl
 by_cases e1:t=sAnd
 ·subst e1;rfl
 by_cases e2:t=sLt
 ·subst e2;rfl
 by_cases e3:t=sLe
 ·subst e3;rfl
 by_cases e4:t=sGt
 ·subst e4;rfl
 by_cases e5:t=sGe
 ·subst e5;rfl
 by_cases e6:t=sEq
 ·subst e6;rfl
 by_cases e7:t=sNe
 ·subst e7;rfl
 by_cases e8:t=sAdd
 ·subst e8;rfl
 by_cases e9:t=sSub
 ·subst e9;rfl
 by_cases e10:t=sMul
 ·subst e10;rfl
 by_cases e11:t=sDiv
 ·subst e11;rfl
 simp only[e0,e1,e2,e3,e4,e5,e6,e7,e8,e9,e10,e11,or_self,if_false]
 rfl
section
variable {N:Nat} {T:Nat→Tkn} {pr:List ByteArray} {s:PS} {x:StT}
theorem literal_rs(hT:TokN N T)(q:Nat)(h:RS N T pr s x):Rs (literal q x) (PN N T pr (litP T s)):=by
 unfold literal
 refine Rs.map (P:=fun y=>PN N T pr (litP T s) (cv_literal y)) ?_ fun z hz=>hz
 unfold literalR t_literalR litP
 refine PX.bind (number_rs hT q h 0 2147483647) (fun n s1 x1 e h1=>?_) (fun p c e hp=>?_)
 ·rw[e]
  dsimp only[PR.bind]
  rw[next_eq q h1]
  dsimp only[Option.bind_some]
  by_cases hk:(T s1.p).k=1
  ·refine Rs.pos (by simp[hk]) ?_
   refine Rs.bind (Lookup_rs q (T s1.p).t) fun z hz=>?_
   by_cases hu:unitP (T s1.p).t=true
   ·refine Rs.pos (hz.trans hu) (Rs.some ?_)
    rw[if_pos (show _∧_ from⟨hk,hu⟩)]
    exact⟨RepN.leaf,RS.adv hT h1 (.inr (by rw[hk];decide))⟩
   ·refine Rs.neg (by rw[hz];exact hu) (Rs.some ?_)
    rw[if_neg (show¬(_∧_)from fun h=>hu h.2)]
    exact⟨RepN.leaf,h1⟩
  ·refine Rs.neg (by simp[hk]) (Rs.some ?_)
   rw[if_neg (show¬(_∧_)from fun h=>hk h.1)]
   exact⟨RepN.leaf,h1⟩
 ·rw[e]
  exact Rs.some ⟨hp,rfl⟩
end
end Go.Proofs.YtjfkkokeegpeiaaGreatDoor
/- Expressions are read as the plain parser reads them (2). -/
namespace Go.Proofs.YtjfkkokeegpeiaaGreatDoor
open Go Go.Am Go.Proofs.Lx
set_option maxRecDepth 100000
abbrev Y0:Type:=Nat×(Nat→Int)×(Nat→Int)×(Nat→ByteArray)×(Nat→Int)×Int×Int×Nat×Nat×(Nat→ByteArray)×(Nat→ByteArray)×NodeT
abbrev Y1:Type:=Nat×(Nat→Int)×(Nat→Int)×(Nat→ByteArray)×(Nat→Int)×Int×Int×Nat×Nat×(Nat→ByteArray)×(Nat→ByteArray)×ByteArray×Int×Int×ByteArray×Nat×(Nat→List V)×NodeT
def y0(x:StT)(n:NodeT):Y0:=(x.2.2.1,x.2.2.2.1,x.2.2.2.2.1,x.2.2.2.2.2.1,x.2.2.2.2.2.2.1,x.1,x.2.1,x.2.2.2.2.2.2.2.1,x.2.2.2.2.2.2.2.2.2.1,x.2.2.2.2.2.2.2.2.1,x.2.2.2.2.2.2.2.2.2.2,n)
def y1(x:StT)(op:ByteArray)(a b:NodeT):Y1:=(x.2.2.1,x.2.2.2.1,x.2.2.2.2.1,x.2.2.2.2.2.1,x.2.2.2.2.2.2.1,x.1,x.2.1,x.2.2.2.2.2.2.2.1,x.2.2.2.2.2.2.2.2.2.1,x.2.2.2.2.2.2.2.2.1,x.2.2.2.2.2.2.2.2.2.2,op,a.1,a.2.1,a.2.2.1,a.2.2.2.1,a.2.2.2.2,b)
def LP(N:Nat)(T:Nat→Tkn)(pr:List ByteArray):PR Tr→exprR_l1_g→Prop
 | .ok t s,.inl z=>∃x op a b ta tb,z=y1 x op a b∧t= .node 20 0 op [ta,tb]∧RepN ta a∧RepN tb b∧RS N T pr s x
 | .ok t s,.inr (.inr z)=>∃x n,z=y0 x n∧RepN t n∧RS N T pr s x
 | .err p c,.inr (.inl e)=>p<N∧e=((T p).a,c)
 |_,_=>False
def LS(n:Tr)(x:StT):exprR_l1_a→Prop
 | .inl y=>∃a,y=y0 x a∧RepN n a
 | .inr y=>∃op a b ta tb,y=y1 x op a b∧n= .node 20 0 op [ta,tb]∧RepN ta a∧RepN tb b
section
variable {N:Nat} {T:Nat→Tkn} {pr:List ByteArray}
def HE(N:Nat)(T:Nat→Tkn)(pr:List ByteArray)(f q:Nat):Prop:=∀g,g≤f→∀lv,1≤lv→lv≤8→∀(s:PS) (x:StT),RS N T pr s x→exprP T g lv s≠ .out→Rs (expr q (((lv:Nat):Int),x)) (PN N T pr (exprP T g lv s))
theorem ops_loop(hT:TokN N T){f q:Nat}(hE:HE N T pr f q)(lv:Nat)(hl1:1≤lv)(hl:lv≤7)(x0:StT):∀(g:Nat),g≤f→∀(m:Nat),g<m→∀(n:Tr) (s:PS) (x:StT) (y:exprR_l1_a),LS n x y→RS N T pr s x→opsP T g lv n s≠ .out→
 Rs (exprR_l1 (is q) (unary q) (primary q) (expr q) (next q) (levelOf q) m (((lv:Nat):Int),x0) y) (LP N T pr (opsP T g lv n s)):=by
 intro g
 induction g with
 |zero=>intro _ m _ n s x y _ _ ho;exact absurd rfl ho
 |succ g ih=>
  intro hg m hm n s x y hy h ho
  obtain⟨m,rfl⟩:∃k,m=k+1:=⟨m-1,by omega⟩
  unfold exprR_l1
  refine Rs.step3 fun Q hQ=>?_
  have h0:=h
  obtain⟨v,u,rfl,h1,h2,h3,h4,h5,h6⟩:=h
  have hN:=hT.big
  have hop:opsP T (g+1) lv n s=if levP (T s.p).t=lv∧(T s.p).k=3 then(exprP T g (lv+1) (adv s)).bind fun m s'=>if lv=4 then .ok (.node 20 0 (T s.p).t [n,m]) s' else opsP T g lv (.node 20 0 (T s.p).t [n,m]) s' else .ok n s:=by rw[opsP]
  rcases y with y|y
  ·obtain⟨a,rfl,ha⟩:=hy
   rw[Sum.elim_inl]
   unfold exprR_l1_t0
   dsimp only[y0,y1]
   rw[next_eq q (s:=s) (pr:=pr) (N:=N) (T:=T) h0]
   dsimp only[Option.bind_some]
   rw[levelOf_eq]
   dsimp only[Option.bind_some]
   by_cases hlv:levP (T s.p).t=lv
   ·refine Rs.pos (by simp[hlv]) ?_
    rw[next_eq q (s:=s) (pr:=pr) (N:=N) (T:=T) h0]
    dsimp only[Option.bind_some]
    by_cases hk:(T s.p).k=3
    ·refine Rs.pos (by simp[hk]) ?_
     rw[next_eq q (s:=s) (pr:=pr) (N:=N) (T:=T) h0]
     dsimp only[Option.bind_some]
     rw[if_pos ⟨hlv,hk⟩]at hop
     rw[w_succ (i:=lv) (by omega)]
     have hadv:=RS.adv hT h0 (.inr (by rw[hk];decide))
     refine PN.bind (hE g (by omega) (lv+1) (by omega) (by omega) (adv s) _ hadv (PR.bind_out (hop▸ho))) (fun t s2 k1 n1 b1 m1 c1 x1 e hr hx=>?_) (fun p c e hp=>?_)
     ·rw[e]at hop
      dsimp only[PR.bind]at hop
      by_cases h4':lv=4
      ·rw[if_pos h4']at hop
       refine Rs.pos (by simp[h4']) (Rs.some ?_)
       show LP N T pr (opsP T (g+1) lv _ s) _
       rw[hop]
       exact⟨x1,_,a,(k1,n1,b1,m1,c1),_,t,rfl,rfl,ha,hr,hx⟩
      ·rw[if_neg h4']at hop
       refine Rs.neg (by simp;omega) (Rs.some ?_)
       refine hQ _ ?_
       rw[hop]
       exact ih (by omega) m (by omega) _ s2 x1 (.inr (y1 x1 (T s.p).t a (k1,n1,b1,m1,c1))) ⟨_,a,(k1,n1,b1,m1,c1),_,t,rfl,rfl,ha,hr⟩ hx (hop▸ho)
     ·refine Rs.some ?_
      show LP N T pr (opsP T (g+1) lv _ s) _
      rw[hop,e]
      exact⟨hp,rfl⟩
    ·refine Rs.neg (by simp[hk]) (Rs.some ?_)
     rw[if_neg (fun h=>hk h.2)]at hop
     show LP N T pr (opsP T (g+1) lv _ s) _
     rw[hop]
     exact⟨_,a,rfl,ha,h0⟩
   ·refine Rs.neg (fun hh=>hlv (by have hh:=(by simpa using hh:((levP (T s.p).t:Nat):Int)=lv);omega)) (Rs.some ?_)
    rw[if_neg (fun h=>hlv h.1)]at hop
    show LP N T pr (opsP T (g+1) lv _ s) _
    rw[hop]
    exact⟨_,a,rfl,ha,h0⟩
  ·obtain⟨op,a,b,ta,tb,rfl,rfl,ha,hb⟩:=hy
   have hab:RepN (.node 20 0 op [ta,tb]) (20,0,op,2,fun j=>[i64 (if 0+j=0 then a.1 else b.1),i64 (if 0+j=0 then a.2.1 else b.2.1),st (if 0+j=0 then a.2.2.1 else b.2.2.1),.ro 4 (if 0+j=0 then a.2.2.2.1 else b.2.2.2.1) fun i=>if 0+j=0 then a.2.2.2.2 i else b.2.2.2.2 i]):=by
    simp only[RepN,RepL,List.length_cons,List.length_nil]
    exact⟨trivial,trivial,trivial,trivial,⟨a,rfl,ha⟩,⟨b,rfl,hb⟩,trivial⟩
   rw[Sum.elim_inr]
   unfold exprR_l1_t1
   dsimp only[y0,y1]
   rw[next_eq q (s:=s) (pr:=pr) (N:=N) (T:=T) h0]
   dsimp only[Option.bind_some]
   rw[levelOf_eq]
   dsimp only[Option.bind_some]
   by_cases hlv:levP (T s.p).t=lv
   ·refine Rs.pos (by simp[hlv]) ?_
    rw[next_eq q (s:=s) (pr:=pr) (N:=N) (T:=T) h0]
    dsimp only[Option.bind_some]
    by_cases hk:(T s.p).k=3
    ·refine Rs.pos (by simp[hk]) ?_
     rw[next_eq q (s:=s) (pr:=pr) (N:=N) (T:=T) h0]
     dsimp only[Option.bind_some]
     rw[if_pos ⟨hlv,hk⟩]at hop
     rw[w_succ (i:=lv) (by omega)]
     have hadv:=RS.adv hT h0 (.inr (by rw[hk];decide))
     refine PN.bind (hE g (by omega) (lv+1) (by omega) (by omega) (adv s) _ hadv (PR.bind_out (hop▸ho))) (fun t s2 k1 n1 b1 m1 c1 x1 e hr hx=>?_) (fun p c e hp=>?_)
     ·rw[e]at hop
      dsimp only[PR.bind]at hop
      by_cases h4':lv=4
      ·rw[if_pos h4']at hop
       refine Rs.pos (by simp[h4']) (Rs.some ?_)
       show LP N T pr (opsP T (g+1) lv _ s) _
       rw[hop]
       exact⟨x1,_,(20,0,op,2,fun j=>[i64 (if 0+j=0 then a.1 else b.1),i64 (if 0+j=0 then a.2.1 else b.2.1),st (if 0+j=0 then a.2.2.1 else b.2.2.1),.ro 4 (if 0+j=0 then a.2.2.2.1 else b.2.2.2.1) fun i=>if 0+j=0 then a.2.2.2.2 i else b.2.2.2.2 i]),(k1,n1,b1,m1,c1),_,t,rfl,rfl,hab,hr,hx⟩
      ·rw[if_neg h4']at hop
       refine Rs.neg (by simp;omega) (Rs.some ?_)
       refine hQ _ ?_
       rw[hop]
       exact ih (by omega) m (by omega) _ s2 x1 (.inr (y1 x1 (T s.p).t (20,0,op,2,fun j=>[i64 (if 0+j=0 then a.1 else b.1),i64 (if 0+j=0 then a.2.1 else b.2.1),st (if 0+j=0 then a.2.2.1 else b.2.2.1),.ro 4 (if 0+j=0 then a.2.2.2.1 else b.2.2.2.1) fun i=>if 0+j=0 then a.2.2.2.2 i else b.2.2.2.2 i]) (k1,n1,b1,m1,c1))) ⟨_,(20,0,op,2,fun j=>[i64 (if 0+j=0 then a.1 else b.1),i64 (if 0+j=0 then a.2.1 else b.2.1),st (if 0+j=0 then a.2.2.1 else b.2.2.1),.ro 4 (if 0+j=0 then a.2.2.2.1 else b.2.2.2.1) fun i=>if 0+j=0 then a.2.2.2.2 i else b.2.2.2.2 i]),(k1,n1,b1,m1,c1),_,t,rfl,rfl,hab,hr⟩ hx (hop▸ho)
     ·refine Rs.some ?_
      show LP N T pr (opsP T (g+1) lv _ s) _
      rw[hop,e]
      exact⟨hp,rfl⟩
    ·refine Rs.neg (by simp[hk]) (Rs.some ?_)
     rw[if_neg (fun h=>hk h.2)]at hop
     show LP N T pr (opsP T (g+1) lv _ s) _
     rw[hop]
     exact⟨_,op,a,b,ta,tb,rfl,rfl,ha,hb,h0⟩
   ·refine Rs.neg (fun hh=>hlv (by have hh:=(by simpa using hh:((levP (T s.p).t:Nat):Int)=lv);omega)) (Rs.some ?_)
    rw[if_neg (fun h=>hlv h.1)]at hop
    show LP N T pr (opsP T (g+1) lv _ s) _
    rw[hop]
    exact⟨_,op,a,b,ta,tb,rfl,rfl,ha,hb,h0⟩
end
end Go.Proofs.YtjfkkokeegpeiaaGreatDoor
/- Expressions are read as the plain parser reads them (3). -/
namespace Go.Proofs.YtjfkkokeegpeiaaGreatDoor
open Go Go.Am Go.Proofs.Lx
set_option maxRecDepth 100000
section
variable {N:Nat} {T:Nat→Tkn} {pr:List ByteArray}
def HU(N:Nat)(T:Nat→Tkn)(pr:List ByteArray)(f q:Nat):Prop:=∀g,g≤f→∀b:ByteArray,b≠⟨#[]⟩→∀lv,1≤lv→lv≤8→∀(s:PS) (x:StT),RS N T pr s x→unaryP T g b lv s≠ .out→Rs (unary q (b,((lv:Nat):Int),x)) (PN N T pr (unaryP T g b lv s))
def HP(N:Nat)(T:Nat→Tkn)(pr:List ByteArray)(f q:Nat):Prop:=∀g,g≤f→∀(s:PS) (x:StT),RS N T pr s x→primP T g s≠ .out→Rs (primary q x) (PN N T pr (primP T g s))
theorem RS.close{s:PS}{x:StT}(hT:TokN N T)(h:RS N T pr s x)(ho:1≤s.o):RS N T pr (closeP s) (x.1,w (x.2.1-1),x.2.2):=by
 obtain⟨v,u,rfl,h1,h2,h3,h4,h5,h6⟩:=h
 refine⟨v,u,?_,h1,h2,h3,(by show s.o-1≤12;omega),h5,h6⟩
 show(((s.p:Nat):Int),w (((s.o:Nat):Int)-1),_)=_
 rw[w_in (by omega) (by omega)]
 have e:((s.o:Nat):Int)-1=((s.o-1:Nat):Int):=by omega
 rw[e]
 rfl
end
section
variable {T:Nat→Tkn}
def Op{α:Type}(o:Nat):PR α→Prop
 | .ok _ s=>s.o=o
 |_=>True
theorem Op.bind{α β:Type}{o o':Nat}{r:PR α}{k:α→PS→PR β}(h:Op o r)(hk:∀a s,s.o=o→Op o' (k a s)):Op o' (r.bind k):=by
 cases r with
 |ok a s=>exact hk a s h
 |err p c=>trivial
 |out=>trivial
theorem must_op(b:ByteArray)(s:PS):Op s.o (mustP T b s):=by unfold mustP;split<;>trivial
theorem name_op(s:PS):Op s.o (nameP T s):=by unfold nameP;split<;>trivial
theorem num_op(lo hi:Int)(s:PS):Op s.o (numP T lo hi s):=by unfold numP;repeat' (split<;>try trivial)
theorem opens_op(b:ByteArray)(s:PS):Op (s.o+1) (opensP T b s):=by unfold opensP;repeat' (split<;>try trivial)
theorem lit_op(s:PS):Op s.o (litP T s):=by
 unfold litP
 refine(num_op 0 2147483647 s).bind fun a s1 h=>?_
 split
 ·exact h
 ·exact h
theorem expr_op:∀f,(∀lv s,Op s.o (exprP T f lv s))∧(∀lv n s,Op s.o (opsP T f lv n s))∧(∀b lv s,Op s.o (unaryP T f b lv s))∧(∀s,Op s.o (primP T f s)):=by
 intro f
 induction f with
 |zero=>exact⟨fun _ _=>by rw[exprP];trivial,fun _ _ _=>by rw[opsP];trivial,fun _ _ _=>by rw[unaryP];trivial,fun _=>by rw[primP];trivial⟩
 |succ f ih=>
  obtain⟨h1,h2,h3,h4⟩:=ih
  refine⟨fun lv s=>?_,fun lv n s=>?_,fun b lv s=>?_,fun s=>?_⟩
  ·rw[exprP]
   split
   ·exact h3 _ _ _
   ·split
    ·exact h3 _ _ _
    ·split
     ·exact h4 _
     ·refine(h1 _ _).bind fun a s1 e=>?_
      rw[←e];exact h2 _ _ _
  ·rw[opsP]
   split
   ·refine(h1 (lv+1) (adv s)).bind fun a s1 e=>?_
    split
    ·exact e
    ·have:=h2 lv (.node 20 0 (T s.p).t [n,a]) s1
     rw[e]at this;exact this
   ·rfl
  ·rw[unaryP]
   refine(opens_op b s).bind fun _ s1 e1=>(h1 lv s1).bind fun n s2 e2=>?_
   show s2.o-1=s.o
   omega
  ·rw[primP]
   split
   ·exact lit_op s
   ·split
    ·rfl
    ·split
     ·rfl
     ·split
      ·exact(must_op sDot (adv s)).bind fun _ s1 e1=>by
        have:=name_op (T:=T) s1
        rw[e1]at this
        exact this.bind fun x s2 e2=>e2
      ·split
       ·refine(opens_op sLPar s).bind fun _ s1 e1=>(h1 1 s1).bind fun n s2 e2=>(must_op sRPar s2).bind fun _ s3 e3=>?_
        show s3.o-1=s.o
        omega
       ·exact(name_op s).bind fun x s1 e1=>e1
end
end Go.Proofs.YtjfkkokeegpeiaaGreatDoor
/- Expressions are read as the plain parser reads them (4). -/
namespace Go.Proofs.YtjfkkokeegpeiaaGreatDoor
open Go Go.Am Go.Proofs.Lx
set_option maxRecDepth 100000
section
variable {N:Nat} {T:Nat→Tkn} {pr:List ByteArray}
theorem expr_step(hT:TokN N T){f q:Nat}(hq:f<q)(hE:HE N T pr f q)(hU:HU N T pr f q)(hP:HP N T pr f q)(lv:Nat)(hl1:1≤lv)(hl:lv≤8)(s:PS)(x:StT)(h:RS N T pr s x)(ho:exprP T (f+1) lv s≠ .out):
 Rs (expr (q+1) (((lv:Nat):Int),x)) (PN N T pr (exprP T (f+1) lv s)):=by
 show Rs ((t_exprR (is q) (unary q) (primary q) (expr q) (next q) (levelOf q) (exprR_l1 (is q) (unary q) (primary q) (expr q) (next q) (levelOf q) q (((lv:Nat):Int),x)) (((lv:Nat):Int),x) some).map cv_expr) _
 refine Rs.map (P:=fun y=>PN N T pr (exprP T (f+1) lv s) (cv_expr y)) ?_ fun z hz=>hz
 unfold t_exprR
 dsimp only
 have hop:exprP T (f+1) lv s=if lv=3∧isP T sNot s=true then unaryP T f sNot 3 s else if lv=7∧isP T sSub s=true then unaryP T f sSub 7 s else if lv=8 then primP T f s else(exprP T f (lv+1) s).bind fun n s'=>opsP T f lv n s':=by rw[exprP]
 by_cases h3:lv=3
 ·refine Rs.pos (by simp[h3]) ?_
  rw[is_eq q h]
  dsimp only[Option.bind_some]
  by_cases hi:isP T sNot s=true
  ·rw[if_pos ⟨h3,hi⟩]at hop
   refine Rs.pos hi ?_
   refine PN.bind (hU f (Nat.le_refl _) sNot (by decide) 3 (by decide) (by decide) s x h (hop▸ho)) (fun t s1 k n b m c x1 e hr hx=>?_) (fun p c e hp=>?_)
   ·rw[hop,e];exact Rs.some ⟨hr,hx⟩
   ·rw[hop,e];exact Rs.some ⟨hp,rfl⟩
  ·rw[if_neg (fun h=>hi h.2),if_neg (fun h=>by omega),if_neg (by omega)]at hop
   refine Rs.neg hi (Rs.neg (by simp;omega) (Rs.neg (by simp;omega) ?_))
   rw[w_succ (i:=lv) (by omega)]
   refine PN.bind (hE f (Nat.le_refl _) (lv+1) (by omega) (by omega) s x h (PR.bind_out (hop▸ho))) (fun t s1 k n b m c x1 e hr hx=>?_) (fun p c e hp=>?_)
   ·rw[e]at hop
    dsimp only[PR.bind]at hop
    refine Rs.bind (ops_loop hT hE lv hl1 (by omega) x f (Nat.le_refl _) q (by omega) t s1 x1 (.inl (y0 x1 (k,n,b,m,c))) ⟨_,rfl,hr⟩ hx (hop▸ho)) (fun z hz=>?_)
    rw[hop]
    cases hr2:opsP T f lv t s1 with
    |out=>rw[hop,hr2]at ho;exact absurd rfl ho
    |err p c=>
     rw[hr2]at hz
     rcases z with z|z|z
     ·exact hz.elim
     ·exact Rs.some hz
     ·exact hz.elim
    |ok a s2=>
     rw[hr2]at hz
     rcases z with z|z|z
     ·obtain⟨x2,op,na,nb,ta,tb,rfl,rfl,g1,g2,g3⟩:=hz
      exact Rs.some ⟨RepN.k2 g1 g2,g3⟩
     ·exact hz.elim
     ·obtain⟨x2,nd,rfl,g1,g3⟩:=hz
      exact Rs.some ⟨g1,g3⟩
   ·rw[hop,e]
    exact Rs.some ⟨hp,rfl⟩
 ·refine Rs.neg (by simp;omega) ?_
  rw[if_neg (fun h=>h3 h.1)]at hop
  by_cases h7:lv=7
  ·refine Rs.pos (by simp[h7]) ?_
   rw[is_eq q h]
   dsimp only[Option.bind_some]
   by_cases hi:isP T sSub s=true
   ·rw[if_pos ⟨h7,hi⟩]at hop
    refine Rs.pos hi ?_
    refine PN.bind (hU f (Nat.le_refl _) sSub (by decide) 7 (by decide) (by decide) s x h (hop▸ho)) (fun t s1 k n b m c x1 e hr hx=>?_) (fun p c e hp=>?_)
    ·rw[hop,e];exact Rs.some ⟨hr,hx⟩
    ·rw[hop,e];exact Rs.some ⟨hp,rfl⟩
   ·rw[if_neg (fun h=>hi h.2),if_neg (by omega)]at hop
    refine Rs.neg hi (Rs.neg (by simp;omega) ?_)
    rw[w_succ (i:=lv) (by omega)]
    refine PN.bind (hE f (Nat.le_refl _) (lv+1) (by omega) (by omega) s x h (PR.bind_out (hop▸ho))) (fun t s1 k n b m c x1 e hr hx=>?_) (fun p c e hp=>?_)
    ·rw[e]at hop
     dsimp only[PR.bind]at hop
     refine Rs.bind (ops_loop hT hE lv hl1 (by omega) x f (Nat.le_refl _) q (by omega) t s1 x1 (.inl (y0 x1 (k,n,b,m,c))) ⟨_,rfl,hr⟩ hx (hop▸ho)) (fun z hz=>?_)
     rw[hop]
     cases hr2:opsP T f lv t s1 with
     |out=>rw[hop,hr2]at ho;exact absurd rfl ho
     |err p c=>
      rw[hr2]at hz
      rcases z with z|z|z
      ·exact hz.elim
      ·exact Rs.some hz
      ·exact hz.elim
     |ok a s2=>
      rw[hr2]at hz
      rcases z with z|z|z
      ·obtain⟨x2,op,na,nb,ta,tb,rfl,rfl,g1,g2,g3⟩:=hz
       exact Rs.some ⟨RepN.k2 g1 g2,g3⟩
      ·exact hz.elim
      ·obtain⟨x2,nd,rfl,g1,g3⟩:=hz
       exact Rs.some ⟨g1,g3⟩
    ·rw[hop,e]
     exact Rs.some ⟨hp,rfl⟩
  ·refine Rs.neg (by simp;omega) ?_
   rw[if_neg (fun h=>h7 h.1)]at hop
   by_cases h8:lv=8
   ·rw[if_pos h8]at hop
    refine Rs.pos (by simp[h8]) ?_
    refine PN.bind (hP f (Nat.le_refl _) s x h (hop▸ho)) (fun t s1 k n b m c x1 e hr hx=>?_) (fun p c e hp=>?_)
    ·rw[hop,e];exact Rs.some ⟨hr,hx⟩
    ·rw[hop,e];exact Rs.some ⟨hp,rfl⟩
   ·rw[if_neg h8]at hop
    refine Rs.neg (by simp;omega) ?_
    rw[w_succ (i:=lv) (by omega)]
    refine PN.bind (hE f (Nat.le_refl _) (lv+1) (by omega) (by omega) s x h (PR.bind_out (hop▸ho))) (fun t s1 k n b m c x1 e hr hx=>?_) (fun p c e hp=>?_)
    ·rw[e]at hop
     dsimp only[PR.bind]at hop
     refine Rs.bind (ops_loop hT hE lv hl1 (by omega) x f (Nat.le_refl _) q (by omega) t s1 x1 (.inl (y0 x1 (k,n,b,m,c))) ⟨_,rfl,hr⟩ hx (hop▸ho)) (fun z hz=>?_)
     rw[hop]
     cases hr2:opsP T f lv t s1 with
     |out=>rw[hop,hr2]at ho;exact absurd rfl ho
     |err p c=>
      rw[hr2]at hz
      rcases z with z|z|z
      ·exact hz.elim
      ·exact Rs.some hz
      ·exact hz.elim
     |ok a s2=>
      rw[hr2]at hz
      rcases z with z|z|z
      ·obtain⟨x2,op,na,nb,ta,tb,rfl,rfl,g1,g2,g3⟩:=hz
       exact Rs.some ⟨RepN.k2 g1 g2,g3⟩
      ·exact hz.elim
      ·obtain⟨x2,nd,rfl,g1,g3⟩:=hz
       exact Rs.some ⟨g1,g3⟩
    ·rw[hop,e]
     exact Rs.some ⟨hp,rfl⟩
theorem unary_step(hT:TokN N T){f q:Nat}(hE:HE N T pr f q)(b:ByteArray)(hb:b≠⟨#[]⟩)(lv:Nat)(hl1:1≤lv)(hl:lv≤8)(s:PS)(x:StT)(h:RS N T pr s x)(ho:unaryP T (f+1) b lv s≠ .out):
 Rs (unary (q+1) (b,((lv:Nat):Int),x)) (PN N T pr (unaryP T (f+1) b lv s)):=by
 show Rs ((t_unaryR (opens q) (expr q) (b,((lv:Nat):Int),x) some).map cv_unary) _
 refine Rs.map (P:=fun y=>PN N T pr (unaryP T (f+1) b lv s) (cv_unary y)) ?_ fun z hz=>hz
 unfold t_unaryR
 dsimp only
 have hop:unaryP T (f+1) b lv s=(opensP T b s).bind fun _ s1=>(exprP T f lv s1).bind fun n s2=>.ok (.node 19 0 b [n]) (closeP s2):=by rw[unaryP]
 refine PU.bind (opens_rs hT q h b hb) (fun s1 x1 e1 h1=>?_) (fun p c e hp=>?_)
 ·have o1:=opens_op (T:=T) b s
  rw[e1]at hop o1
  dsimp only[PR.bind]at hop
  refine PN.bind (hE f (Nat.le_refl _) lv hl1 hl s1 x1 h1 (PR.bind_out (hop▸ho))) (fun t s2 k n b m c x2 e hr hx=>?_) (fun p c e hp=>?_)
  ·have o2:=(expr_op (T:=T) f).1 lv s1
   rw[e]at hop o2
   rw[hop]
   have o1:s1.o=s.o+1:=o1
   have o2:s2.o=s1.o:=o2
   exact Rs.some ⟨RepN.k1 hr,hx.close hT (by omega)⟩
  ·rw[hop,e];exact Rs.some ⟨hp,rfl⟩
 ·rw[hop,e];exact Rs.some ⟨hp,rfl⟩
theorem prim_step(hT:TokN N T){f q:Nat}(hE:HE N T pr f q)(s:PS)(x:StT)(h:RS N T pr s x)(ho:primP T (f+1) s≠ .out):
 Rs (primary (q+1) x) (PN N T pr (primP T (f+1) s)):=by
 show Rs ((t_primaryR (next q) (literal q) (take q) (must q) (name q) (is q) (opens q) (expr q) x some).map cv_primary) _
 refine Rs.map (P:=fun y=>PN N T pr (primP T (f+1) s) (cv_primary y)) ?_ fun z hz=>hz
 unfold t_primaryR
 rw[next_eq q h]
 dsimp only[Option.bind_some]
 have hop:primP T (f+1) s=if(T s.p).k=2 then litP T s
  else if isP T w_true s=true then .ok (.node 16 1 ⟨#[]⟩ []) (adv s)
  else if isP T w_false s=true then .ok (.node 16 0 ⟨#[]⟩ []) (adv s)
  else if isP T w_tlm s=true then(mustP T sDot (adv s)).bind fun _ s1=>(nameP T s1).bind fun x s2=>.ok (.node 18 0 x []) s2
  else if isP T sLPar s=true then(opensP T sLPar s).bind fun _ s1=>(exprP T f 1 s1).bind fun n s2=>(mustP T sRPar s2).bind fun _ s3=>.ok n (closeP s3)
  else(nameP T s).bind fun x s1=>.ok (.node 17 0 x []) s1:=by rw[primP]
 by_cases hk:(T s.p).k=2
 ·rw[if_pos hk]at hop
  refine Rs.pos (by simp[hk]) ?_
  refine PN.bind (literal_rs hT q h) (fun t s1 k n b m c x1 e hr hx=>?_) (fun p c e hp=>?_)
  ·rw[hop,e];exact Rs.some ⟨hr,hx⟩
  ·rw[hop,e];exact Rs.some ⟨hp,rfl⟩
 ·rw[if_neg hk]at hop
  refine Rs.neg (by simp[hk]) ?_
  rw[take_eq q h]
  dsimp only[Option.bind_some]
  by_cases h1:isP T w_true s=true
  ·rw[if_pos h1]at hop⊢
   refine Rs.pos rfl ?_
   rw[hop]
   exact Rs.some ⟨RepN.leaf,RS.adv hT h (isP_ne (by decide) h1)⟩
  ·rw[if_neg h1]at hop⊢
   refine Rs.neg (by simp) ?_
   rw[take_eq q h]
   dsimp only[Option.bind_some]
   by_cases h2:isP T w_false s=true
   ·rw[if_pos h2]at hop⊢
    refine Rs.pos rfl ?_
    rw[hop]
    exact Rs.some ⟨RepN.leaf,RS.adv hT h (isP_ne (by decide) h2)⟩
   ·rw[if_neg h2]at hop⊢
    refine Rs.neg (by simp) ?_
    rw[take_eq q h]
    dsimp only[Option.bind_some]
    by_cases h3:isP T w_tlm s=true
    ·rw[if_pos h3]at hop⊢
     refine Rs.pos rfl ?_
     refine PU.bind (must_rs hT q (RS.adv hT h (isP_ne (by decide) h3)) sDot (by decide)) (fun s1 x1 e1 g1=>?_) (fun p c e hp=>?_)
     ·rw[e1]at hop
      dsimp only[PR.bind]at hop
      refine PX.bind (name_rs hT q g1) (fun a s2 x2 e2 g2=>?_) (fun p c e hp=>?_)
      ·rw[hop,e2]
       exact Rs.some ⟨RepN.leaf,g2⟩
      ·rw[hop,e];exact Rs.some ⟨hp,rfl⟩
     ·rw[hop,e];exact Rs.some ⟨hp,rfl⟩
    ·rw[if_neg h3]at hop⊢
     refine Rs.neg (by simp) ?_
     rw[is_eq q h]
     dsimp only[Option.bind_some]
     by_cases h4:isP T sLPar s=true
     ·rw[if_pos h4]at hop
      refine Rs.pos h4 ?_
      refine PU.bind (opens_rs hT q h sLPar (by decide)) (fun s1 x1 e1 g1=>?_) (fun p c e hp=>?_)
      ·have o1:=opens_op (T:=T) sLPar s
       rw[e1]at hop o1
       dsimp only[PR.bind]at hop
       refine PN.bind (hE f (Nat.le_refl _) 1 (by decide) (by decide) s1 x1 g1 (PR.bind_out (hop▸ho))) (fun t s2 k n b m c x2 e hr hx=>?_) (fun p c e hp=>?_)
       ·have o2:=(expr_op (T:=T) f).1 1 s1
        rw[e]at hop o2
        dsimp only[PR.bind]at hop
        refine PU.bind (must_rs hT q hx sRPar (by decide)) (fun s3 x3 e3 g3=>?_) (fun p c e hp=>?_)
        ·have o3:=must_op (T:=T) sRPar s2
         rw[e3]at hop o3
         have o1:s1.o=s.o+1:=o1
         have o2:s2.o=s1.o:=o2
         have o3:s3.o=s2.o:=o3
         rw[hop]
         exact Rs.some ⟨hr,g3.close hT (by omega)⟩
        ·rw[hop,e];exact Rs.some ⟨hp,rfl⟩
       ·rw[hop,e];exact Rs.some ⟨hp,rfl⟩
      ·rw[hop,e];exact Rs.some ⟨hp,rfl⟩
     ·rw[if_neg h4]at hop
      refine Rs.neg h4 ?_
      refine PX.bind (name_rs hT q h) (fun a s2 x2 e2 g2=>?_) (fun p c e hp=>?_)
      ·rw[hop,e2]
       exact Rs.some ⟨RepN.leaf,g2⟩
      ·rw[hop,e];exact Rs.some ⟨hp,rfl⟩
theorem exprs(hT:TokN N T):∀f q,f+1≤q→HE N T pr f q∧HU N T pr f q∧HP N T pr f q:=by
 intro f
 induction f with
 |zero=>
  intro q _
  refine⟨fun g hg lv _ _ s x _ ho=>?_,fun g hg b _ lv _ _ s x _ ho=>?_,fun g hg s x _ ho=>?_⟩
  all_goals
   obtain rfl:g=0:=by omega
  ·rw[exprP]at ho;exact absurd rfl ho
  ·rw[unaryP]at ho;exact absurd rfl ho
  ·rw[primP]at ho;exact absurd rfl ho
 |succ f ih=>
  intro q hq
  obtain⟨q,rfl⟩:∃k,q=k+1:=⟨q-1,by omega⟩
  obtain⟨a1,a2,a3⟩:=ih (q+1) (by omega)
  obtain⟨b1,b2,b3⟩:=ih q (by omega)
  refine⟨fun g hg lv h1 h2 s x h ho=>?_,fun g hg b hb lv h1 h2 s x h ho=>?_,fun g hg s x h ho=>?_⟩
  ·by_cases e:g≤f
   ·exact a1 g e lv h1 h2 s x h ho
   ·obtain rfl:g=f+1:=by omega
    exact expr_step hT (by omega) b1 b2 b3 lv h1 h2 s x h ho
  ·by_cases e:g≤f
   ·exact a2 g e b hb lv h1 h2 s x h ho
   ·obtain rfl:g=f+1:=by omega
    exact unary_step hT b1 b hb lv h1 h2 s x h ho
  ·by_cases e:g≤f
   ·exact a3 g e s x h ho
   ·obtain rfl:g=f+1:=by omega
    exact prim_step hT b1 s x h ho
end
end Go.Proofs.YtjfkkokeegpeiaaGreatDoor

