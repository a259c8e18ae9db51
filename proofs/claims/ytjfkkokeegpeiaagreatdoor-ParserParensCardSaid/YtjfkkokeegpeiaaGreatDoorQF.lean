/- Texts joined. -/
import Derived.Test.YtjfkkokeegpeiaaGreatDoorQE
import Derived.Test.YtjfkkokeegpeiaaGreatDoorQD
import Derived.Test.YtjfkkokeegpeiaaGreatDoorQC
/- Parse, lifted where it returns. -/
set_option linter.unusedSimpArgs false
set_option linter.unusedVariables false
namespace Go.Proofs.YtjfkkokeegpeiaaGreatDoor
open Go Go.Am Go.Proofs
set_option maxRecDepth 100000
abbrev a_TokensV:Type:=ByteArray
abbrev g_TokensV:Type:=Int×Int×Nat×FI×FI×FS×FI
def A_TokensV:AR a_TokensV:=fun x=>([st x],[])
def d_TokensV(t:TT):a_TokensV:=(vS (ag t 0))
theorem v_TokensV:VI A_TokensV:=vd d_TokensV fun _=>rfl
def R_TokensV:g_TokensV→CRes:=fun z=>.ret (.tup [.ro 4 z.2.2.1 (fun j=>[i64 (z.2.2.2.1 j),i64 (z.2.2.2.2.1 j),st (z.2.2.2.2.2.1 j),i64 (z.2.2.2.2.2.2 j)]),i64 z.1,i64 z.2.1]) []
def cv_Tokens:g_Tokens→g_TokensV:=Sum.elim (fun z=>(z.1,z.2,0,fun _=>0,fun _=>0,fun _=>ByteArray.empty,fun _=>0)) id
noncomputable def TokensV(q:Nat)(x:a_TokensV):Option g_TokensV:=(Tokens q x).map cv_Tokens
theorem sc_TokensV(q:Nat):Lw E5 20 A_TokensV R_TokensV (TokensV q):=by
 intro x z h
 obtain⟨y,hy,rfl⟩:=Option.map_eq_some_iff.1 h
 have hs:=sc_Tokens q x y hy
 rcases y with y|y
 ·exact SC.le hs (Le.tup (LeL.cons Le.nil_ro (LeL.cons (Le.refl _) (LeL.cons (Le.refl _) LeL.nil))))
 ·have h2:=SC.giveM (L2:=[]) 0 hs (by rfl) (by simp[V.bw,V.bw2,V.bw1,hp,V.pure,pureL])
  simp only[V.bw,V.bw2,V.bw1,hp,List.map_cons,List.map_nil,List.getD_eq_getElem?_getD,List.getElem?_cons_succ,List.getElem?_cons_zero,Option.getD_some,Nat.zero_add,Nat.le_refl,and_self,if_true]at h2
  exact h2
abbrev a_nextZ:Type:=Int×Int×Nat×FI×FI×FS×FI
abbrev g_nextZ:Type:=Int×Int×ByteArray×Int×Int×Int×Nat×FI×FI×FS×FI
def A_nextZ:AR a_nextZ:=fun x=>([.ptr 0 0],[some (.blk [.ro 4 x.2.2.1 (fun j=>[i64 (x.2.2.2.1 j),i64 (x.2.2.2.2.1 j),st (x.2.2.2.2.2.1 j),i64 (x.2.2.2.2.2.2 j)]),i64 x.1,i64 x.2.1,nilS,nilS])])
def d_nextZ(t:TT):a_nextZ:=((vI (cc t 0 1)),vI (cc t 0 2),vRoN (cc t 0 0),dTI (cc t 0 0) 0,dTI (cc t 0 0) 1,dTS (cc t 0 0) 2,dTI (cc t 0 0) 3)
theorem v_nextZ:VI A_nextZ:=vd d_nextZ fun _=>rfl
def R_nextZ:g_nextZ→CRes:=fun z=>.ret (.agg [i64 z.1,i64 z.2.1,st z.2.2.1,i64 z.2.2.2.1]) [some (.blk [.ro 4 z.2.2.2.2.2.2.1 (fun j=>[i64 (z.2.2.2.2.2.2.2.1 j),i64 (z.2.2.2.2.2.2.2.2.1 j),st (z.2.2.2.2.2.2.2.2.2.1 j),i64 (z.2.2.2.2.2.2.2.2.2.2 j)]),i64 z.2.2.2.2.1,i64 z.2.2.2.2.2.1,nilS,nilS])]
def t_nextZ{β:Type}(x:a_nextZ)(dn:g_nextZ→Option β):Option β:=
 if 0≤x.1∧x.1< ((x.2.2.1:Nat):Int)then dn (x.2.2.2.1 (Int.toNat x.1),x.2.2.2.2.1 (Int.toNat x.1),x.2.2.2.2.2.1 (Int.toNat x.1),x.2.2.2.2.2.2 (Int.toNat x.1),x)else none
theorem n_nextZ{β:Type}(x)(dn:g_nextZ→Option β):t_nextZ x dn=(t_nextZ x some).bind dn:=by
 unfold t_nextZ
 repeat' first|exact n0|refine n1 fun _=>?_|refine n2 ?_ ?_|refine n3 (fun _=>?_) fun _=>?_|rfl
theorem r_nextZ(x):callK E5 ca0 lo0 22 (A_nextZ x).1 (A_nextZ x).2 K=t_nextZ x (fun z=>some (.c (R_nextZ z))):=by kernel_rfl
noncomputable def nextZ(q:Nat)(x:a_nextZ):Option g_nextZ:=t_nextZ x some
theorem sc_nextZ(q:Nat):Lw E5 22 A_nextZ R_nextZ (nextZ q):=sof hW5 hX5 ca0_sound (fun _=>lo0_sound) fun x=>(r_nextZ x).trans (by rw[n_nextZ]<;>rfl)
abbrev a_ParseT:Type:=ByteArray
abbrev g_ParseT:Type:=(Int×Int)⊕(Nat×FS×FN×FM×FI×FI×FS×FN×FM)
def A_ParseT:AR a_ParseT:=fun x=>([st x],[])
def R_ParseT:g_ParseT→CRes:=Sum.elim (fun z=>CRes.ret (V.tup [nilS,i64 z.1,i64 z.2]) []:(Int×Int)→CRes) (fun z=>CRes.ret (V.tup [V.sl 0 6 0 z.1,i64 0,i64 0]) [some (Chunk.row 56 6 z.1 fun j=>[st (z.2.1 j),V.ro 2 (z.2.2.1 j) (z.2.2.2.1 j),i64 (z.2.2.2.2.1 j),i64 (z.2.2.2.2.2.1 j),st (z.2.2.2.2.2.2.1 j),V.ro 4 (z.2.2.2.2.2.2.2.1 j) (z.2.2.2.2.2.2.2.2 j)])]:(Nat×FS×FN×FM×FI×FI×FS×FN×FM)→CRes)
abbrev ParseT_l0_a:Type:=(Int×Int×Nat×FI×FI×FS×FI)⊕(FS×FN×FM×FI×FI×FS×FN×FM×Int×Int×Nat×FI×FI×FS×FI×Int×Int×Nat×Nat×FS×FS×Nat)
abbrev ParseT_l0_g:Type:=(Int×Int×Int×Int)⊕(Int×Int)⊕(Int×Int×Nat×FS×FN×FM×FI×FI×FS×FN×FM×Int×Int)⊕(Nat×FS×FN×FM×FI×FI×FS×FN×FM×Int×Int)
def ParseT_l0_S0(x:a_ParseT)(y:Int×Int×Nat×FI×FI×FS×FI):St:={fr:=[V.junk,V.junk,V.ptr 0 0,V.ptr 1 0,V.ptr 2 0,V.junk,V.ptr 3 0]++jk 24,H:=hp [some (Chunk.blk [nilS]),some (Chunk.blk [i64 y.1]),some (Chunk.blk [i64 y.2.1]),some (Chunk.blk [V.ro 4 y.2.2.1 fun j=>[i64 (y.2.2.2.1 j),i64 (y.2.2.2.2.1 j),st (y.2.2.2.2.2.1 j),i64 (y.2.2.2.2.2.2 j)],i64 0,i64 0,nilS,nilS])],nx:=4,rt:=0,me:=8}
def ParseT_l0_d0(s:St):Int×Int×Nat×FI×FI×FS×FI:=((vI (cb s 1 0)),vI (cb s 2 0),vRoN (cb s 3 0),dTI (cb s 3 0) 0,dTI (cb s 3 0) 1,dTS (cb s 3 0) 2,dTI (cb s 3 0) 3)
def ParseT_l0_S1(x:a_ParseT)(y:FS×FN×FM×FI×FI×FS×FN×FM×Int×Int×Nat×FI×FI×FS×FI×Int×Int×Nat×Nat×FS×FS×Nat):St:={fr:=[V.junk,V.junk,V.ptr 0 0,V.ptr 2 0,V.ptr 3 0,V.junk,V.ptr 4 0]++jk 24,H:=hp [some (Chunk.blk [V.sl 1 6 0 y.2.2.2.2.2.2.2.2.2.2.2.2.2.2.2.2.2.2.2.2.2]),some (Chunk.row 56 6 y.2.2.2.2.2.2.2.2.2.2.2.2.2.2.2.2.2.2.2.2.2 fun j=>[st (y.1 j),V.ro 2 (y.2.1 j) (y.2.2.1 j),i64 (y.2.2.2.1 j),i64 (y.2.2.2.2.1 j),st (y.2.2.2.2.2.1 j),V.ro 4 (y.2.2.2.2.2.2.1 j) (y.2.2.2.2.2.2.2.1 j)]),some (Chunk.blk [i64 y.2.2.2.2.2.2.2.2.1]),some (Chunk.blk [i64 y.2.2.2.2.2.2.2.2.2.1]),some (Chunk.blk [V.ro 4 y.2.2.2.2.2.2.2.2.2.2.1 fun j=>[i64 (y.2.2.2.2.2.2.2.2.2.2.2.1 j),i64 (y.2.2.2.2.2.2.2.2.2.2.2.2.1 j),st (y.2.2.2.2.2.2.2.2.2.2.2.2.2.1 j),i64 (y.2.2.2.2.2.2.2.2.2.2.2.2.2.2.1 j)],i64 y.2.2.2.2.2.2.2.2.2.2.2.2.2.2.2.1,i64 y.2.2.2.2.2.2.2.2.2.2.2.2.2.2.2.2.1,V.sl 5 1 0 y.2.2.2.2.2.2.2.2.2.2.2.2.2.2.2.2.2.1,V.sl 6 1 0 y.2.2.2.2.2.2.2.2.2.2.2.2.2.2.2.2.2.2.1]),some (Chunk.row 9 1 y.2.2.2.2.2.2.2.2.2.2.2.2.2.2.2.2.2.1 fun j=>[st (y.2.2.2.2.2.2.2.2.2.2.2.2.2.2.2.2.2.2.2.1 j)]),some (Chunk.row 9 1 y.2.2.2.2.2.2.2.2.2.2.2.2.2.2.2.2.2.2.1 fun j=>[st (y.2.2.2.2.2.2.2.2.2.2.2.2.2.2.2.2.2.2.2.2.1 j)])],nx:=7,rt:=0,me:=8}
def ParseT_l0_d1(s:St):FS×FN×FM×FI×FI×FS×FN×FM×Int×Int×Nat×FI×FI×FS×FI×Int×Int×Nat×Nat×FS×FS×Nat:=((dRS (s.H 1) 0),dRN (s.H 1) 1,dRF (s.H 1) 1,dRI (s.H 1) 2,dRI (s.H 1) 3,dRS (s.H 1) 4,dRN (s.H 1) 5,dRF (s.H 1) 5,vI (cb s 2 0),vI (cb s 3 0),vRoN (cb s 4 0),dTI (cb s 4 0) 0,dTI (cb s 4 0) 1,dTS (cb s 4 0) 2,dTI (cb s 4 0) 3,vI (cb s 4 1),vI (cb s 4 2),vSlN (cb s 4 3),vSlN (cb s 4 4),dRS (s.H 5) 0,dRS (s.H 6) 0,vSlN (cb s 0 0))
def ParseT_l0_S(x:a_ParseT):ParseT_l0_a→St:=(Sum.elim (ParseT_l0_S0 x) (ParseT_l0_S1 x))
def ParseT_l0_d(s:St):ParseT_l0_a:=(match s.nx==4 with|true=>(.inl (ParseT_l0_d0 s)) |false=>(.inr (ParseT_l0_d1 s)))
theorem ParseT_l0_u(x:a_ParseT):VL (ParseT_l0_S x):=vl ParseT_l0_d (fun y=>by rcases y with y|y<;>rfl)
def ParseT_l0_T(x:a_ParseT):ParseT_l0_g→Ex×St:=(Sum.elim (fun z=>(Ex.panic (V.ifc 45 (V.agg [i64 z.1,i64 z.2.1])),{fr:=[V.junk,V.junk,V.ptr 0 0,V.ptr 1 0,V.ptr 2 0]++jk 26,H:=hp [some (Chunk.blk [nilS]),some (Chunk.blk [i64 z.2.2.1]),some (Chunk.blk [i64 z.2.2.2])],nx:=3,rt:=0,me:=8})) (Sum.elim (fun z=>(Ex.exit 0,{fr:=[V.junk,V.junk,V.ptr 0 0,V.ptr 1 0,V.ptr 2 0]++jk 26,H:=hp [some (Chunk.blk [nilS]),some (Chunk.blk [i64 z.1]),some (Chunk.blk [i64 z.2])],nx:=3,rt:=0,me:=8})) (Sum.elim (fun z=>(Ex.panic (V.ifc 45 (V.agg [i64 z.1,i64 z.2.1])),{fr:=[V.junk,V.junk,V.ptr 0 0,V.ptr 2 0,V.ptr 3 0]++jk 26,H:=hp [some (Chunk.blk [V.sl 1 6 0 z.2.2.1]),some (Chunk.row 56 6 z.2.2.1 fun j=>[st (z.2.2.2.1 j),V.ro 2 (z.2.2.2.2.1 j) (z.2.2.2.2.2.1 j),i64 (z.2.2.2.2.2.2.1 j),i64 (z.2.2.2.2.2.2.2.1 j),st (z.2.2.2.2.2.2.2.2.1 j),V.ro 4 (z.2.2.2.2.2.2.2.2.2.1 j) (z.2.2.2.2.2.2.2.2.2.2.1 j)]),some (Chunk.blk [i64 z.2.2.2.2.2.2.2.2.2.2.2.1]),some (Chunk.blk [i64 z.2.2.2.2.2.2.2.2.2.2.2.2])],nx:=4,rt:=0,me:=8})) (fun z=>(Ex.exit 0,{fr:=[V.junk,V.junk,V.ptr 0 0,V.ptr 2 0,V.ptr 3 0]++jk 26,H:=hp [some (Chunk.blk [V.sl 1 6 0 z.1]),some (Chunk.row 56 6 z.1 fun j=>[st (z.2.1 j),V.ro 2 (z.2.2.1 j) (z.2.2.2.1 j),i64 (z.2.2.2.2.1 j),i64 (z.2.2.2.2.2.1 j),st (z.2.2.2.2.2.2.1 j),V.ro 4 (z.2.2.2.2.2.2.2.1 j) (z.2.2.2.2.2.2.2.2.1 j)]),some (Chunk.blk [i64 z.2.2.2.2.2.2.2.2.2.1]),some (Chunk.blk [i64 z.2.2.2.2.2.2.2.2.2.2])],nx:=4,rt:=0,me:=8})))))
def ParseT_l0_t0{β:Type}(c_TokensV:a_TokensV→Option g_TokensV)(c_nextZ:a_nextZ→Option g_nextZ)(c_next:a_next→Option g_next)(c_procedureZ:a_procedureZ→Option g_procedureZ)(c_procedure:a_procedure→Option g_procedure)(x:a_ParseT)(y:Int×Int×Nat×FI×FI×FS×FI)(nx:ParseT_l0_a→Option β)(dn:ParseT_l0_g→Option β):Option β:=
 (c_nextZ (0,0,y.2.2)).bind fun z412=>if(z412.1 !=0)=true then(c_procedureZ z412.2.2.2.2).bind fun z420=>Sum.elim (fun z420a=>nx (.inr (fun j=>z420a.1,fun j=>z420a.2.1,fun(j j_1:Nat)=>[st (z420a.2.2.1 j_1),st (z420a.2.2.2.1 j_1)],fun j=>z420a.2.2.2.2.1,fun j=>z420a.2.2.2.2.2.1,fun j=>z420a.2.2.2.2.2.2.1,fun j=>z420a.2.2.2.2.2.2.2.1,fun j=>z420a.2.2.2.2.2.2.2.2.1,y.1,y.2.1,z420a.2.2.2.2.2.2.2.2.2.2.2.1,z420a.2.2.2.2.2.2.2.2.2.2.2.2.1,z420a.2.2.2.2.2.2.2.2.2.2.2.2.2.1,z420a.2.2.2.2.2.2.2.2.2.2.2.2.2.2.1,z420a.2.2.2.2.2.2.2.2.2.2.2.2.2.2.2.1,z420a.2.2.2.2.2.2.2.2.2.1,z420a.2.2.2.2.2.2.2.2.2.2.1,z420a.2.2.2.2.2.2.2.2.2.2.2.2.2.2.2.2.1,z420a.2.2.2.2.2.2.2.2.2.2.2.2.2.2.2.2.2.2.1,z420a.2.2.2.2.2.2.2.2.2.2.2.2.2.2.2.2.2.1,z420a.2.2.2.2.2.2.2.2.2.2.2.2.2.2.2.2.2.2.2,1))) (fun z420b=>dn (.inl (z420b.1,z420b.2,y.1,y.2.1))) z420 else dn (.inr (.inl (y.1,y.2.1)))
theorem ParseT_l0_n0{β:Type}(c_TokensV c_nextZ)(c_next c_procedureZ c_procedure)(x)(y)(nx:ParseT_l0_a→Option β)(dn):ParseT_l0_t0 c_TokensV c_nextZ c_next c_procedureZ c_procedure x y nx dn=(ParseT_l0_t0 c_TokensV c_nextZ c_next c_procedureZ c_procedure x y (fun y=>some (.inl y)) (fun z=>some (.inr z))).bind fun r=>Sum.elim nx dn r:=by
 unfold ParseT_l0_t0
 repeat' first|exact n0|refine n1 fun _=>?_|refine n2 ?_ ?_|refine n3 (fun _=>?_) fun _=>?_|rfl
theorem ParseT_l0_r0(c_TokensV c_nextZ)(c_next c_procedureZ c_procedure)(x)(y)(lo:LoopT):loopK E5 (ftb 20 A_TokensV R_TokensV c_TokensV (ftg 22 (fun _ L=>L.length==1) A_nextZ R_nextZ c_nextZ (ftb 22 A_next R_next c_next (fg2 23 (fun _ L=>L.length==1) A_procedureZ R_procedureZ c_procedureZ (fg2 23 (fun _ L=>L.length==3) A_procedure R_procedure c_procedure ca0))))) lo 0 92 (bodyOf E5 8 0) (ParseT_l0_S x (.inl y)) (KCM [(0,28),(1000,28)] 28)=ParseT_l0_t0 (vf A_TokensV c_TokensV) (vf A_nextZ c_nextZ) (vf A_next c_next) (vf A_procedureZ c_procedureZ) (vf A_procedure c_procedure) x y (fun y=>lo 0 92 (bodyOf E5 8 0) (ParseT_l0_S x y) (KCM [(0,28),(1000,28)] 28)) (fun z=>some (.l (ParseT_l0_T x z).1 (ParseT_l0_T x z).2)):=by kernel_rfl
def ParseT_l0_t1{β:Type}(c_TokensV:a_TokensV→Option g_TokensV)(c_nextZ:a_nextZ→Option g_nextZ)(c_next:a_next→Option g_next)(c_procedureZ:a_procedureZ→Option g_procedureZ)(c_procedure:a_procedure→Option g_procedure)(x:a_ParseT)(y:FS×FN×FM×FI×FI×FS×FN×FM×Int×Int×Nat×FI×FI×FS×FI×Int×Int×Nat×Nat×FS×FS×Nat)(nx:ParseT_l0_a→Option β)(dn:ParseT_l0_g→Option β):Option β:=
 (c_next (y.2.2.2.2.2.2.2.2.2.2.2.2.2.2.2.1,y.2.2.2.2.2.2.2.2.2.2.2.2.2.2.2.2.1,y.2.2.2.2.2.2.2.2.2.2.1,y.2.2.2.2.2.2.2.2.2.2.2.1,y.2.2.2.2.2.2.2.2.2.2.2.2.1,y.2.2.2.2.2.2.2.2.2.2.2.2.2.1,y.2.2.2.2.2.2.2.2.2.2.2.2.2.2.1,y.2.2.2.2.2.2.2.2.2.2.2.2.2.2.2.2.2.1,y.2.2.2.2.2.2.2.2.2.2.2.2.2.2.2.2.2.2.2.1,y.2.2.2.2.2.2.2.2.2.2.2.2.2.2.2.2.2.2.1,y.2.2.2.2.2.2.2.2.2.2.2.2.2.2.2.2.2.2.2.2.1)).bind fun z434=>if(z434.1 !=0)=true then(c_procedure z434.2.2.2.2).bind fun z446=>Sum.elim (fun z446a=>if(y.2.2.2.2.2.2.2.2.2.2.2.2.2.2.2.2.2.2.2.2.2+1)*96≤roomBound∧y.2.2.2.2.2.2.2.2.2.2.2.2.2.2.2.2.2.2.2.2.2+1≤maxLen∧y.2.2.2.2.2.2.2.2.2.2.2.2.2.2.2.2.2.2.2.2.2≤y.2.2.2.2.2.2.2.2.2.2.2.2.2.2.2.2.2.2.2.2.2 then nx (.inr (fun j=>if j<y.2.2.2.2.2.2.2.2.2.2.2.2.2.2.2.2.2.2.2.2.2 then y.1 j else z446a.1,fun j=>if j<y.2.2.2.2.2.2.2.2.2.2.2.2.2.2.2.2.2.2.2.2.2 then y.2.1 j else z446a.2.1,fun(j j_1:Nat)=>if j<y.2.2.2.2.2.2.2.2.2.2.2.2.2.2.2.2.2.2.2.2.2 then y.2.2.1 j j_1 else[st (z446a.2.2.1 j_1),st (z446a.2.2.2.1 j_1)],fun j=>if j<y.2.2.2.2.2.2.2.2.2.2.2.2.2.2.2.2.2.2.2.2.2 then y.2.2.2.1 j else z446a.2.2.2.2.1,fun j=>if j<y.2.2.2.2.2.2.2.2.2.2.2.2.2.2.2.2.2.2.2.2.2 then y.2.2.2.2.1 j else z446a.2.2.2.2.2.1,fun j=>if j<y.2.2.2.2.2.2.2.2.2.2.2.2.2.2.2.2.2.2.2.2.2 then y.2.2.2.2.2.1 j else z446a.2.2.2.2.2.2.1,fun j=>if j<y.2.2.2.2.2.2.2.2.2.2.2.2.2.2.2.2.2.2.2.2.2 then y.2.2.2.2.2.2.1 j else z446a.2.2.2.2.2.2.2.1,fun(j j_1:Nat)=>if j<y.2.2.2.2.2.2.2.2.2.2.2.2.2.2.2.2.2.2.2.2.2 then y.2.2.2.2.2.2.2.1 j j_1 else z446a.2.2.2.2.2.2.2.2.1 j_1,y.2.2.2.2.2.2.2.2.1,y.2.2.2.2.2.2.2.2.2.1,z446a.2.2.2.2.2.2.2.2.2.2.2.1,z446a.2.2.2.2.2.2.2.2.2.2.2.2.1,z446a.2.2.2.2.2.2.2.2.2.2.2.2.2.1,z446a.2.2.2.2.2.2.2.2.2.2.2.2.2.2.1,z446a.2.2.2.2.2.2.2.2.2.2.2.2.2.2.2.1,z446a.2.2.2.2.2.2.2.2.2.1,z446a.2.2.2.2.2.2.2.2.2.2.1,z446a.2.2.2.2.2.2.2.2.2.2.2.2.2.2.2.2.1,z446a.2.2.2.2.2.2.2.2.2.2.2.2.2.2.2.2.2.2.1,z446a.2.2.2.2.2.2.2.2.2.2.2.2.2.2.2.2.2.1,z446a.2.2.2.2.2.2.2.2.2.2.2.2.2.2.2.2.2.2.2,y.2.2.2.2.2.2.2.2.2.2.2.2.2.2.2.2.2.2.2.2.2+1))else none) (fun z446b=>dn (.inr (.inr (.inl (z446b.1,z446b.2,y.2.2.2.2.2.2.2.2.2.2.2.2.2.2.2.2.2.2.2.2.2,y.1,y.2.1,y.2.2.1,y.2.2.2.1,y.2.2.2.2.1,y.2.2.2.2.2.1,y.2.2.2.2.2.2.1,y.2.2.2.2.2.2.2.1,y.2.2.2.2.2.2.2.2.1,y.2.2.2.2.2.2.2.2.2.1))))) z446 else dn (.inr (.inr (.inr (y.2.2.2.2.2.2.2.2.2.2.2.2.2.2.2.2.2.2.2.2.2,y.1,y.2.1,y.2.2.1,y.2.2.2.1,y.2.2.2.2.1,y.2.2.2.2.2.1,y.2.2.2.2.2.2.1,y.2.2.2.2.2.2.2.1,y.2.2.2.2.2.2.2.2.1,y.2.2.2.2.2.2.2.2.2.1))))
theorem ParseT_l0_n1{β:Type}(c_TokensV c_nextZ)(c_next c_procedureZ c_procedure)(x)(y)(nx:ParseT_l0_a→Option β)(dn):ParseT_l0_t1 c_TokensV c_nextZ c_next c_procedureZ c_procedure x y nx dn=(ParseT_l0_t1 c_TokensV c_nextZ c_next c_procedureZ c_procedure x y (fun y=>some (.inl y)) (fun z=>some (.inr z))).bind fun r=>Sum.elim nx dn r:=by
 unfold ParseT_l0_t1
 repeat' first|exact n0|refine n1 fun _=>?_|refine n2 ?_ ?_|refine n3 (fun _=>?_) fun _=>?_|rfl
theorem ParseT_l0_r1(c_TokensV c_nextZ)(c_next c_procedureZ c_procedure)(x)(y)(lo:LoopT):loopK E5 (ftb 20 A_TokensV R_TokensV c_TokensV (ftg 22 (fun _ L=>L.length==1) A_nextZ R_nextZ c_nextZ (ftb 22 A_next R_next c_next (fg2 23 (fun _ L=>L.length==1) A_procedureZ R_procedureZ c_procedureZ (fg2 23 (fun _ L=>L.length==3) A_procedure R_procedure c_procedure ca0))))) lo 0 92 (bodyOf E5 8 0) (ParseT_l0_S x (.inr y)) (KCM [(0,28),(1000,28)] 28)=ParseT_l0_t1 (vf A_TokensV c_TokensV) (vf A_nextZ c_nextZ) (vf A_next c_next) (vf A_procedureZ c_procedureZ) (vf A_procedure c_procedure) x y (fun y=>lo 0 92 (bodyOf E5 8 0) (ParseT_l0_S x y) (KCM [(0,28),(1000,28)] 28)) (fun z=>some (.l (ParseT_l0_T x z).1 (ParseT_l0_T x z).2)):=by kernel_rfl
noncomputable def ParseT_l0(c_TokensV:a_TokensV→Option g_TokensV)(c_nextZ:a_nextZ→Option g_nextZ)(c_next:a_next→Option g_next)(c_procedureZ:a_procedureZ→Option g_procedureZ)(c_procedure:a_procedure→Option g_procedure)(q:Nat)(x:a_ParseT):ParseT_l0_a→Option ParseT_l0_g:=lpG (Sum.elim (fun y=>ParseT_l0_t0 c_TokensV c_nextZ c_next c_procedureZ c_procedure x y (fun y=>some (.inl y)) (fun z=>some (.inr z))) (fun y=>ParseT_l0_t1 c_TokensV c_nextZ c_next c_procedureZ c_procedure x y (fun y=>some (.inl y)) (fun z=>some (.inr z)))) q
theorem ParseT_l0_s(c_TokensV)(h_TokensV:Lw E5 20 A_TokensV R_TokensV c_TokensV)(c_nextZ)(h_nextZ:Lw E5 22 A_nextZ R_nextZ c_nextZ)(c_next)(h_next:Lw E5 22 A_next R_next c_next)(c_procedureZ)(h_procedureZ:Lw E5 23 A_procedureZ R_procedureZ c_procedureZ)(c_procedure)(h_procedure:Lw E5 23 A_procedure R_procedure c_procedure)(q:Nat)(x:a_ParseT):Ll E5 (bodyOf E5 8 0) (ParseT_l0_S x) (ParseT_l0_T x) (ParseT_l0 c_TokensV c_nextZ c_next c_procedureZ c_procedure q x):=
 slp (fk h_TokensV (fk h_nextZ (fk h_next (fk2 h_procedureZ (fk2 h_procedure ca0_sound))))) hX5 (fun lo y=>by
  rcases y with y|y
  ·exact(ParseT_l0_r0 c_TokensV c_nextZ c_next c_procedureZ c_procedure x y lo).trans (by rw[v_TokensV,v_nextZ,v_next,v_procedureZ,v_procedure];exact ParseT_l0_n0 _ _ _ _ _ _ _ _ _)
  ·exact(ParseT_l0_r1 c_TokensV c_nextZ c_next c_procedureZ c_procedure x y lo).trans (by rw[v_TokensV,v_nextZ,v_next,v_procedureZ,v_procedure];exact ParseT_l0_n1 _ _ _ _ _ _ _ _ _)) (fun z=>by rcases z with z|z|z|z<;>kernel_rfl) q
def t_ParseT{β:Type}(c_TokensV:a_TokensV→Option g_TokensV)(c_nextZ:a_nextZ→Option g_nextZ)(c_next:a_next→Option g_next)(c_procedureZ:a_procedureZ→Option g_procedureZ)(c_procedure:a_procedure→Option g_procedure)(l_ParseT_l0:ParseT_l0_a→Option ParseT_l0_g)(x:a_ParseT)(dn:g_ParseT→Option β):Option β:=
 (c_TokensV x).bind fun z1=>if(z1.2.1 !=0)=true then dn (.inl (z1.1,z1.2.1))else(l_ParseT_l0 (.inl z1)).bind fun z388=>Sum.elim (fun z388a=>none) (fun z388b=>Sum.elim (fun z388ba=>dn (.inl (0,0))) (fun z388bb=>Sum.elim (fun z388bba=>none) (fun z388bbb=>dn (.inr (z388bbb.1,z388bbb.2.1,z388bbb.2.2.1,z388bbb.2.2.2.1,z388bbb.2.2.2.2.1,z388bbb.2.2.2.2.2.1,z388bbb.2.2.2.2.2.2.1,z388bbb.2.2.2.2.2.2.2.1,z388bbb.2.2.2.2.2.2.2.2.1))) z388bb) z388b) z388
theorem n_ParseT{β:Type}(c_TokensV c_nextZ)(c_next c_procedureZ c_procedure)(l_ParseT_l0)(x)(dn:g_ParseT→Option β):t_ParseT c_TokensV c_nextZ c_next c_procedureZ c_procedure l_ParseT_l0 x dn=(t_ParseT c_TokensV c_nextZ c_next c_procedureZ c_procedure l_ParseT_l0 x some).bind dn:=by
 unfold t_ParseT
 repeat' first|exact n0|refine n1 fun _=>?_|refine n2 ?_ ?_|refine n3 (fun _=>?_) fun _=>?_|rfl
theorem r_ParseT(c_TokensV c_nextZ)(c_next c_procedureZ c_procedure)(l_ParseT_l0)(x):callK E5 (ftb 20 A_TokensV R_TokensV c_TokensV (ftg 22 (fun _ L=>L.length==1) A_nextZ R_nextZ c_nextZ (ftb 22 A_next R_next c_next (fg2 23 (fun _ L=>L.length==1) A_procedureZ R_procedureZ c_procedureZ (fg2 23 (fun _ L=>L.length==3) A_procedure R_procedure c_procedure ca0))))) (lt4 0 (fun _=>true) (bodyOf E5 8 0) (ParseT_l0_S x) (ParseT_l0_T x) l_ParseT_l0 lo0) 8 (A_ParseT x).1 (A_ParseT x).2 K=t_ParseT (vf A_TokensV c_TokensV) (vf A_nextZ c_nextZ) (vf A_next c_next) (vf A_procedureZ c_procedureZ) (vf A_procedure c_procedure) (lf (bodyOf E5 8 0) (ParseT_l0_S x) l_ParseT_l0) x (fun z=>some (.c (R_ParseT z))):=by kernel_rfl
noncomputable def ParseT(q:Nat)(x:a_ParseT):Option g_ParseT:=t_ParseT (TokensV q) (nextZ q) (next q) (procedureZ q) (procedure q) (ParseT_l0 (TokensV q) (nextZ q) (next q) (procedureZ q) (procedure q) q x) x some
theorem sc_ParseT(q:Nat):Lw E5 8 A_ParseT R_ParseT (ParseT q):=sof hW5 hX5 (fk (sc_TokensV q) (fk (sc_nextZ q) (fk (sc_next q) (fk2 (sc_procedureZ q) (fk2 (sc_procedure q) ca0_sound))))) (fun x=>(lk4 (ParseT_l0_s (TokensV q) (sc_TokensV q) (nextZ q) (sc_nextZ q) (next q) (sc_next q) (procedureZ q) (sc_procedureZ q) (procedure q) (sc_procedure q) q x) lo0_sound)) fun x=>(r_ParseT (TokensV q) (nextZ q) (next q) (procedureZ q) (procedure q) (ParseT_l0 (TokensV q) (nextZ q) (next q) (procedureZ q) (procedure q) q x) x).trans (by rw[v_TokensV,v_nextZ,v_next,v_procedureZ,v_procedure,ParseT_l0_u,n_ParseT]<;>rfl)
end Go.Proofs.YtjfkkokeegpeiaaGreatDoor
/- Parse, lifted where it panics and recovers. -/
namespace Go.Proofs.YtjfkkokeegpeiaaGreatDoor
open Go Go.Am Go.Proofs
set_option maxRecDepth 100000
noncomputable def E6(ds:List Deferred):Env:={E5 with dok:=false,dls:=ds}
theorem hX6(ds:List Deferred):SoundX (E6 ds):=SoundX.none fun _ _=>rfl
theorem sc6{ds:List Deferred}{f:FuncId}{args:List V}{L:List (Option Chunk)}{cr:CRes}:SC (E6 ds) f args L cr↔SC E5 f args L cr:=
 ⟨fun h=>⟨h.1,fun β S w us h1 h2 h3=>h.2 β S w us h1 h2 ⟨h3.rd,h3.inv⟩⟩,fun h=>⟨h.1,fun β S w us h1 h2 h3=>h.2 β S w us h1 h2 ⟨h3.rd,h3.inv⟩⟩⟩
variable {ds:List Deferred}
abbrev a_ParseP:Type:=Int×Nat×FI×FI×FS×FI
abbrev g_ParseP:Type:=Int×Int
def A_ParseP:a_ParseP→List V×List (Option Chunk):=(fun x=>(fun(a:Int) (tn:Nat) (tk:Nat→Int) (ta:Nat→Int) (tt:Nat→ByteArray) (tv:Nat→Int)=>((([.junk,.junk,.ptr 0 0,.ptr 1 0,.ptr 2 0,.ro 4 tn (fun j=>[i64 (tk j),i64 (ta j),st (tt j),i64 (tv j)])]++jk 25):List V),([some (.blk [nilS]),some (.blk [i64 a]),some (.blk [i64 0])]:List (Option Chunk)))) x.1 x.2.1 x.2.2.1 x.2.2.2.1 x.2.2.2.2.1 x.2.2.2.2.2)
def R_ParseP:g_ParseP→CRes:=fun z=>.pan (.ifc 45 (.agg [i64 z.1,i64 z.2]))
abbrev ParseP_l0_a:Type:=(Unit)⊕(FS×FN×FM×FI×FI×FS×FN×FM×Nat×FI×FI×FS×FI×Int×Int×Nat×Nat×FS×FS×Nat)
abbrev ParseP_l0_g:Type:=(Int×Int)⊕(Unit)⊕(Int×Int×Nat×FS×FN×FM×FI×FI×FS×FN×FM)⊕(Nat×FS×FN×FM×FI×FI×FS×FN×FM)
def ParseP_l0_S0(x:a_ParseP)(y:Unit):St:={fr:=[V.junk,V.junk,V.ptr 0 0,V.ptr 1 0,V.ptr 2 0,V.junk,V.ptr 3 0]++jk 24,H:=hp [some (Chunk.blk [nilS]),some (Chunk.blk [i64 x.1]),some (Chunk.blk [i64 0]),some (Chunk.blk [V.ro 4 x.2.1 fun j=>[i64 (x.2.2.1 j),i64 (x.2.2.2.1 j),st (x.2.2.2.2.1 j),i64 (x.2.2.2.2.2 j)],i64 0,i64 0,nilS,nilS])],nx:=4,rt:=3,me:=8}
def ParseP_l0_d0(s:St):Unit:=()
def ParseP_l0_S1(x:a_ParseP)(y:FS×FN×FM×FI×FI×FS×FN×FM×Nat×FI×FI×FS×FI×Int×Int×Nat×Nat×FS×FS×Nat):St:={fr:=[V.junk,V.junk,V.ptr 0 0,V.ptr 1 0,V.ptr 2 0,V.junk,V.ptr 4 0]++jk 24,H:=hp [some (Chunk.blk [V.sl 3 6 0 y.2.2.2.2.2.2.2.2.2.2.2.2.2.2.2.2.2.2.2]),some (Chunk.blk [i64 x.1]),some (Chunk.blk [i64 0]),some (Chunk.row 56 6 y.2.2.2.2.2.2.2.2.2.2.2.2.2.2.2.2.2.2.2 fun j=>[st (y.1 j),V.ro 2 (y.2.1 j) (y.2.2.1 j),i64 (y.2.2.2.1 j),i64 (y.2.2.2.2.1 j),st (y.2.2.2.2.2.1 j),V.ro 4 (y.2.2.2.2.2.2.1 j) (y.2.2.2.2.2.2.2.1 j)]),some (Chunk.blk [V.ro 4 y.2.2.2.2.2.2.2.2.1 fun j=>[i64 (y.2.2.2.2.2.2.2.2.2.1 j),i64 (y.2.2.2.2.2.2.2.2.2.2.1 j),st (y.2.2.2.2.2.2.2.2.2.2.2.1 j),i64 (y.2.2.2.2.2.2.2.2.2.2.2.2.1 j)],i64 y.2.2.2.2.2.2.2.2.2.2.2.2.2.1,i64 y.2.2.2.2.2.2.2.2.2.2.2.2.2.2.1,V.sl 5 1 0 y.2.2.2.2.2.2.2.2.2.2.2.2.2.2.2.1,V.sl 6 1 0 y.2.2.2.2.2.2.2.2.2.2.2.2.2.2.2.2.1]),some (Chunk.row 9 1 y.2.2.2.2.2.2.2.2.2.2.2.2.2.2.2.1 fun j=>[st (y.2.2.2.2.2.2.2.2.2.2.2.2.2.2.2.2.2.1 j)]),some (Chunk.row 9 1 y.2.2.2.2.2.2.2.2.2.2.2.2.2.2.2.2.1 fun j=>[st (y.2.2.2.2.2.2.2.2.2.2.2.2.2.2.2.2.2.2.1 j)])],nx:=7,rt:=3,me:=8}
def ParseP_l0_d1(s:St):FS×FN×FM×FI×FI×FS×FN×FM×Nat×FI×FI×FS×FI×Int×Int×Nat×Nat×FS×FS×Nat:=((dRS (s.H 3) 0),dRN (s.H 3) 1,dRF (s.H 3) 1,dRI (s.H 3) 2,dRI (s.H 3) 3,dRS (s.H 3) 4,dRN (s.H 3) 5,dRF (s.H 3) 5,vRoN (cb s 4 0),dTI (cb s 4 0) 0,dTI (cb s 4 0) 1,dTS (cb s 4 0) 2,dTI (cb s 4 0) 3,vI (cb s 4 1),vI (cb s 4 2),vSlN (cb s 4 3),vSlN (cb s 4 4),dRS (s.H 5) 0,dRS (s.H 6) 0,vSlN (cb s 0 0))
def ParseP_l0_S(x:a_ParseP):ParseP_l0_a→St:=(Sum.elim (ParseP_l0_S0 x) (ParseP_l0_S1 x))
def ParseP_l0_d(s:St):ParseP_l0_a:=(match s.nx==4 with|true=>(.inl (ParseP_l0_d0 s)) |false=>(.inr (ParseP_l0_d1 s)))
theorem ParseP_l0_u(x:a_ParseP):VL (ParseP_l0_S x):=vl ParseP_l0_d (fun y=>by rcases y with y|y<;>rfl)
def ParseP_l0_T(x:a_ParseP):ParseP_l0_g→Ex×St:=(Sum.elim (fun z=>(Ex.panic (V.ifc 45 (V.agg [i64 z.1,i64 z.2])),{fr:=[V.junk,V.junk,V.ptr 0 0,V.ptr 1 0,V.ptr 2 0]++jk 26,H:=hp [some (Chunk.blk [nilS]),some (Chunk.blk [i64 x.1]),some (Chunk.blk [i64 0])],nx:=3,rt:=3,me:=8})) (Sum.elim (fun z=>(Ex.exit 0,{fr:=[V.junk,V.junk,V.ptr 0 0,V.ptr 1 0,V.ptr 2 0]++jk 26,H:=hp [some (Chunk.blk [nilS]),some (Chunk.blk [i64 x.1]),some (Chunk.blk [i64 0])],nx:=3,rt:=3,me:=8})) (Sum.elim (fun z=>(Ex.panic (V.ifc 45 (V.agg [i64 z.1,i64 z.2.1])),{fr:=[V.junk,V.junk,V.ptr 0 0,V.ptr 1 0,V.ptr 2 0]++jk 26,H:=hp [some (Chunk.blk [V.sl 3 6 0 z.2.2.1]),some (Chunk.blk [i64 x.1]),some (Chunk.blk [i64 0]),some (Chunk.row 56 6 z.2.2.1 fun j=>[st (z.2.2.2.1 j),V.ro 2 (z.2.2.2.2.1 j) (z.2.2.2.2.2.1 j),i64 (z.2.2.2.2.2.2.1 j),i64 (z.2.2.2.2.2.2.2.1 j),st (z.2.2.2.2.2.2.2.2.1 j),V.ro 4 (z.2.2.2.2.2.2.2.2.2.1 j) (z.2.2.2.2.2.2.2.2.2.2 j)])],nx:=4,rt:=3,me:=8})) (fun z=>(Ex.exit 0,{fr:=[V.junk,V.junk,V.ptr 0 0,V.ptr 1 0,V.ptr 2 0]++jk 26,H:=hp [some (Chunk.blk [V.sl 3 6 0 z.1]),some (Chunk.blk [i64 x.1]),some (Chunk.blk [i64 0]),some (Chunk.row 56 6 z.1 fun j=>[st (z.2.1 j),V.ro 2 (z.2.2.1 j) (z.2.2.2.1 j),i64 (z.2.2.2.2.1 j),i64 (z.2.2.2.2.2.1 j),st (z.2.2.2.2.2.2.1 j),V.ro 4 (z.2.2.2.2.2.2.2.1 j) (z.2.2.2.2.2.2.2.2 j)])],nx:=4,rt:=3,me:=8})))))
def ParseP_l0_t0{β:Type}(c_nextZ:a_nextZ→Option g_nextZ)(c_next:a_next→Option g_next)(c_procedureZ:a_procedureZ→Option g_procedureZ)(c_procedure:a_procedure→Option g_procedure)(x:a_ParseP)(y:Unit)(nx:ParseP_l0_a→Option β)(dn:ParseP_l0_g→Option β):Option β:=
 (c_nextZ (0,0,x.2)).bind fun z359=>if(z359.1 !=0)=true then(c_procedureZ z359.2.2.2.2).bind fun z367=>Sum.elim (fun z367a=>nx (.inr (fun j=>z367a.1,fun j=>z367a.2.1,fun(j j_1:Nat)=>[st (z367a.2.2.1 j_1),st (z367a.2.2.2.1 j_1)],fun j=>z367a.2.2.2.2.1,fun j=>z367a.2.2.2.2.2.1,fun j=>z367a.2.2.2.2.2.2.1,fun j=>z367a.2.2.2.2.2.2.2.1,fun j=>z367a.2.2.2.2.2.2.2.2.1,z367a.2.2.2.2.2.2.2.2.2.2.2.1,z367a.2.2.2.2.2.2.2.2.2.2.2.2.1,z367a.2.2.2.2.2.2.2.2.2.2.2.2.2.1,z367a.2.2.2.2.2.2.2.2.2.2.2.2.2.2.1,z367a.2.2.2.2.2.2.2.2.2.2.2.2.2.2.2.1,z367a.2.2.2.2.2.2.2.2.2.1,z367a.2.2.2.2.2.2.2.2.2.2.1,z367a.2.2.2.2.2.2.2.2.2.2.2.2.2.2.2.2.1,z367a.2.2.2.2.2.2.2.2.2.2.2.2.2.2.2.2.2.2.1,z367a.2.2.2.2.2.2.2.2.2.2.2.2.2.2.2.2.2.1,z367a.2.2.2.2.2.2.2.2.2.2.2.2.2.2.2.2.2.2.2,1))) (fun z367b=>dn (.inl z367b)) z367 else dn (.inr (.inl ()))
theorem ParseP_l0_n0{β:Type}(c_nextZ c_next)(c_procedureZ c_procedure)(x)(y)(nx:ParseP_l0_a→Option β)(dn):ParseP_l0_t0 c_nextZ c_next c_procedureZ c_procedure x y nx dn=(ParseP_l0_t0 c_nextZ c_next c_procedureZ c_procedure x y (fun y=>some (.inl y)) (fun z=>some (.inr z))).bind fun r=>Sum.elim nx dn r:=by
 unfold ParseP_l0_t0
 repeat' first|exact n0|refine n1 fun _=>?_|refine n2 ?_ ?_|refine n3 (fun _=>?_) fun _=>?_|rfl
theorem ParseP_l0_r0(c_nextZ c_next)(c_procedureZ c_procedure)(x)(y)(lo:LoopT):loopK (E6 ds) (ftg 22 (fun _ L=>L.length==1) A_nextZ R_nextZ c_nextZ (ftb 22 A_next R_next c_next (fg2 23 (fun _ L=>L.length==1) A_procedureZ R_procedureZ c_procedureZ (fg2 23 (fun _ L=>L.length==3) A_procedure R_procedure c_procedure ca0)))) lo 0 92 (bodyOf (E6 ds) 8 0) (ParseP_l0_S x (.inl y)) (KCM [(0,28),(1000,28)] 28)=ParseP_l0_t0 (vf A_nextZ c_nextZ) (vf A_next c_next) (vf A_procedureZ c_procedureZ) (vf A_procedure c_procedure) x y (fun y=>lo 0 92 (bodyOf (E6 ds) 8 0) (ParseP_l0_S x y) (KCM [(0,28),(1000,28)] 28)) (fun z=>some (.l (ParseP_l0_T x z).1 (ParseP_l0_T x z).2)):=by kernel_rfl
def ParseP_l0_t1{β:Type}(c_nextZ:a_nextZ→Option g_nextZ)(c_next:a_next→Option g_next)(c_procedureZ:a_procedureZ→Option g_procedureZ)(c_procedure:a_procedure→Option g_procedure)(x:a_ParseP)(y:FS×FN×FM×FI×FI×FS×FN×FM×Nat×FI×FI×FS×FI×Int×Int×Nat×Nat×FS×FS×Nat)(nx:ParseP_l0_a→Option β)(dn:ParseP_l0_g→Option β):Option β:=
 (c_next (y.2.2.2.2.2.2.2.2.2.2.2.2.2.1,y.2.2.2.2.2.2.2.2.2.2.2.2.2.2.1,y.2.2.2.2.2.2.2.2.1,y.2.2.2.2.2.2.2.2.2.1,y.2.2.2.2.2.2.2.2.2.2.1,y.2.2.2.2.2.2.2.2.2.2.2.1,y.2.2.2.2.2.2.2.2.2.2.2.2.1,y.2.2.2.2.2.2.2.2.2.2.2.2.2.2.2.1,y.2.2.2.2.2.2.2.2.2.2.2.2.2.2.2.2.2.1,y.2.2.2.2.2.2.2.2.2.2.2.2.2.2.2.2.1,y.2.2.2.2.2.2.2.2.2.2.2.2.2.2.2.2.2.2.1)).bind fun z381=>if(z381.1 !=0)=true then(c_procedure z381.2.2.2.2).bind fun z393=>Sum.elim (fun z393a=>if(y.2.2.2.2.2.2.2.2.2.2.2.2.2.2.2.2.2.2.2+1)*96≤roomBound∧y.2.2.2.2.2.2.2.2.2.2.2.2.2.2.2.2.2.2.2+1≤maxLen∧y.2.2.2.2.2.2.2.2.2.2.2.2.2.2.2.2.2.2.2≤y.2.2.2.2.2.2.2.2.2.2.2.2.2.2.2.2.2.2.2 then nx (.inr (fun j=>if j<y.2.2.2.2.2.2.2.2.2.2.2.2.2.2.2.2.2.2.2 then y.1 j else z393a.1,fun j=>if j<y.2.2.2.2.2.2.2.2.2.2.2.2.2.2.2.2.2.2.2 then y.2.1 j else z393a.2.1,fun(j j_1:Nat)=>if j<y.2.2.2.2.2.2.2.2.2.2.2.2.2.2.2.2.2.2.2 then y.2.2.1 j j_1 else[st (z393a.2.2.1 j_1),st (z393a.2.2.2.1 j_1)],fun j=>if j<y.2.2.2.2.2.2.2.2.2.2.2.2.2.2.2.2.2.2.2 then y.2.2.2.1 j else z393a.2.2.2.2.1,fun j=>if j<y.2.2.2.2.2.2.2.2.2.2.2.2.2.2.2.2.2.2.2 then y.2.2.2.2.1 j else z393a.2.2.2.2.2.1,fun j=>if j<y.2.2.2.2.2.2.2.2.2.2.2.2.2.2.2.2.2.2.2 then y.2.2.2.2.2.1 j else z393a.2.2.2.2.2.2.1,fun j=>if j<y.2.2.2.2.2.2.2.2.2.2.2.2.2.2.2.2.2.2.2 then y.2.2.2.2.2.2.1 j else z393a.2.2.2.2.2.2.2.1,fun(j j_1:Nat)=>if j<y.2.2.2.2.2.2.2.2.2.2.2.2.2.2.2.2.2.2.2 then y.2.2.2.2.2.2.2.1 j j_1 else z393a.2.2.2.2.2.2.2.2.1 j_1,z393a.2.2.2.2.2.2.2.2.2.2.2.1,z393a.2.2.2.2.2.2.2.2.2.2.2.2.1,z393a.2.2.2.2.2.2.2.2.2.2.2.2.2.1,z393a.2.2.2.2.2.2.2.2.2.2.2.2.2.2.1,z393a.2.2.2.2.2.2.2.2.2.2.2.2.2.2.2.1,z393a.2.2.2.2.2.2.2.2.2.1,z393a.2.2.2.2.2.2.2.2.2.2.1,z393a.2.2.2.2.2.2.2.2.2.2.2.2.2.2.2.2.1,z393a.2.2.2.2.2.2.2.2.2.2.2.2.2.2.2.2.2.2.1,z393a.2.2.2.2.2.2.2.2.2.2.2.2.2.2.2.2.2.1,z393a.2.2.2.2.2.2.2.2.2.2.2.2.2.2.2.2.2.2.2,y.2.2.2.2.2.2.2.2.2.2.2.2.2.2.2.2.2.2.2+1))else none) (fun z393b=>dn (.inr (.inr (.inl (z393b.1,z393b.2,y.2.2.2.2.2.2.2.2.2.2.2.2.2.2.2.2.2.2.2,y.1,y.2.1,y.2.2.1,y.2.2.2.1,y.2.2.2.2.1,y.2.2.2.2.2.1,y.2.2.2.2.2.2.1,y.2.2.2.2.2.2.2.1))))) z393 else dn (.inr (.inr (.inr (y.2.2.2.2.2.2.2.2.2.2.2.2.2.2.2.2.2.2.2,y.1,y.2.1,y.2.2.1,y.2.2.2.1,y.2.2.2.2.1,y.2.2.2.2.2.1,y.2.2.2.2.2.2.1,y.2.2.2.2.2.2.2.1))))
theorem ParseP_l0_n1{β:Type}(c_nextZ c_next)(c_procedureZ c_procedure)(x)(y)(nx:ParseP_l0_a→Option β)(dn):ParseP_l0_t1 c_nextZ c_next c_procedureZ c_procedure x y nx dn=(ParseP_l0_t1 c_nextZ c_next c_procedureZ c_procedure x y (fun y=>some (.inl y)) (fun z=>some (.inr z))).bind fun r=>Sum.elim nx dn r:=by
 unfold ParseP_l0_t1
 repeat' first|exact n0|refine n1 fun _=>?_|refine n2 ?_ ?_|refine n3 (fun _=>?_) fun _=>?_|rfl
theorem ParseP_l0_r1(c_nextZ c_next)(c_procedureZ c_procedure)(x)(y)(lo:LoopT):loopK (E6 ds) (ftg 22 (fun _ L=>L.length==1) A_nextZ R_nextZ c_nextZ (ftb 22 A_next R_next c_next (fg2 23 (fun _ L=>L.length==1) A_procedureZ R_procedureZ c_procedureZ (fg2 23 (fun _ L=>L.length==3) A_procedure R_procedure c_procedure ca0)))) lo 0 92 (bodyOf (E6 ds) 8 0) (ParseP_l0_S x (.inr y)) (KCM [(0,28),(1000,28)] 28)=ParseP_l0_t1 (vf A_nextZ c_nextZ) (vf A_next c_next) (vf A_procedureZ c_procedureZ) (vf A_procedure c_procedure) x y (fun y=>lo 0 92 (bodyOf (E6 ds) 8 0) (ParseP_l0_S x y) (KCM [(0,28),(1000,28)] 28)) (fun z=>some (.l (ParseP_l0_T x z).1 (ParseP_l0_T x z).2)):=by kernel_rfl
noncomputable def ParseP_l0(c_nextZ:a_nextZ→Option g_nextZ)(c_next:a_next→Option g_next)(c_procedureZ:a_procedureZ→Option g_procedureZ)(c_procedure:a_procedure→Option g_procedure)(q:Nat)(x:a_ParseP):ParseP_l0_a→Option ParseP_l0_g:=lpG (Sum.elim (fun y=>ParseP_l0_t0 c_nextZ c_next c_procedureZ c_procedure x y (fun y=>some (.inl y)) (fun z=>some (.inr z))) (fun y=>ParseP_l0_t1 c_nextZ c_next c_procedureZ c_procedure x y (fun y=>some (.inl y)) (fun z=>some (.inr z)))) q
theorem ParseP_l0_s(c_nextZ)(h_nextZ:∀x z,c_nextZ x=some z→SC (E6 ds) 22 (A_nextZ x).1 (A_nextZ x).2 (R_nextZ z))(c_next)(h_next:∀x z,c_next x=some z→SC (E6 ds) 22 (A_next x).1 (A_next x).2 (R_next z))(c_procedureZ)(h_procedureZ:∀x z,c_procedureZ x=some z→SC (E6 ds) 23 (A_procedureZ x).1 (A_procedureZ x).2 (R_procedureZ z))(c_procedure)(h_procedure:∀x z,c_procedure x=some z→SC (E6 ds) 23 (A_procedure x).1 (A_procedure x).2 (R_procedure z))(q:Nat)(x:a_ParseP):Ll (E6 ds) (bodyOf (E6 ds) 8 0) (ParseP_l0_S x) (ParseP_l0_T x) (ParseP_l0 c_nextZ c_next c_procedureZ c_procedure q x):=
 slp (fk h_nextZ (fk h_next (fk2 h_procedureZ (fk2 h_procedure ca0_sound)))) (hX6 ds) (fun lo y=>by
  rcases y with y|y
  ·exact(ParseP_l0_r0 c_nextZ c_next c_procedureZ c_procedure x y lo).trans (by rw[v_nextZ,v_next,v_procedureZ,v_procedure];exact ParseP_l0_n0 _ _ _ _ _ _ _ _)
  ·exact(ParseP_l0_r1 c_nextZ c_next c_procedureZ c_procedure x y lo).trans (by rw[v_nextZ,v_next,v_procedureZ,v_procedure];exact ParseP_l0_n1 _ _ _ _ _ _ _ _)) (fun z=>by rcases z with z|z|z|z<;>kernel_rfl) q
def t_ParseP{β:Type}(c_nextZ:a_nextZ→Option g_nextZ)(c_next:a_next→Option g_next)(c_procedureZ:a_procedureZ→Option g_procedureZ)(c_procedure:a_procedure→Option g_procedure)(l_ParseP_l0:ParseP_l0_a→Option ParseP_l0_g)(x:a_ParseP)(dn:g_ParseP→Option β):Option β:=
 (l_ParseP_l0 (.inl ())).bind fun z339=>Sum.elim (fun z339a=>dn z339a) (fun z339b=>Sum.elim (fun z339ba=>none) (fun z339bb=>Sum.elim (fun z339bba=>dn (z339bba.1,z339bba.2.1)) (fun z339bbb=>none) z339bb) z339b) z339
theorem n_ParseP{β:Type}(c_nextZ c_next)(c_procedureZ c_procedure)(l_ParseP_l0)(x)(dn:g_ParseP→Option β):t_ParseP c_nextZ c_next c_procedureZ c_procedure l_ParseP_l0 x dn=(t_ParseP c_nextZ c_next c_procedureZ c_procedure l_ParseP_l0 x some).bind dn:=by
 unfold t_ParseP
 repeat' first|exact n0|refine n1 fun _=>?_|refine n2 ?_ ?_|refine n3 (fun _=>?_) fun _=>?_|rfl
theorem r_ParseP(c_nextZ c_next)(c_procedureZ c_procedure)(l_ParseP_l0)(x):restK 4 3 (E6 ds) (ftg 22 (fun _ L=>L.length==1) A_nextZ R_nextZ c_nextZ (ftb 22 A_next R_next c_next (fg2 23 (fun _ L=>L.length==1) A_procedureZ R_procedureZ c_procedureZ (fg2 23 (fun _ L=>L.length==3) A_procedure R_procedure c_procedure ca0)))) (lt4 0 (fun _=>true) (bodyOf (E6 ds) 8 0) (ParseP_l0_S x) (ParseP_l0_T x) l_ParseP_l0 lo0) 8 (A_ParseP x).1 (A_ParseP x).2 K=t_ParseP (vf A_nextZ c_nextZ) (vf A_next c_next) (vf A_procedureZ c_procedureZ) (vf A_procedure c_procedure) (lf (bodyOf (E6 ds) 8 0) (ParseP_l0_S x) l_ParseP_l0) x (fun z=>some (.c (R_ParseP z))):=by kernel_rfl
theorem s_ParseP(c_nextZ)(h_nextZ:∀x z,c_nextZ x=some z→SC (E6 ds) 22 (A_nextZ x).1 (A_nextZ x).2 (R_nextZ z))(c_next)(h_next:∀x z,c_next x=some z→SC (E6 ds) 22 (A_next x).1 (A_next x).2 (R_next z))(c_procedureZ)(h_procedureZ:∀x z,c_procedureZ x=some z→SC (E6 ds) 23 (A_procedureZ x).1 (A_procedureZ x).2 (R_procedureZ z))(c_procedure)(h_procedure:∀x z,c_procedure x=some z→SC (E6 ds) 23 (A_procedure x).1 (A_procedure x).2 (R_procedure z))(q:Nat)(x:a_ParseP)(z:g_ParseP)(h:t_ParseP c_nextZ c_next c_procedureZ c_procedure (ParseP_l0 c_nextZ c_next c_procedureZ c_procedure q x) x some=some z):RC 4 3 (E6 ds) 8 (A_ParseP x).1 (A_ParseP x).2 (R_ParseP z):=by
 refine RC.of (hX6 ds) (fk h_nextZ (fk h_next (fk2 h_procedureZ (fk2 h_procedure ca0_sound)))) (lk4 (ParseP_l0_s c_nextZ h_nextZ c_next h_next c_procedureZ h_procedureZ c_procedure h_procedure q x) lo0_sound) ((r_ParseP c_nextZ c_next c_procedureZ c_procedure (ParseP_l0 c_nextZ c_next c_procedureZ c_procedure q x) x).trans ?_)
 rw[v_nextZ,v_next,v_procedureZ,v_procedure,ParseP_l0_u,n_ParseP,h];rfl
noncomputable def ParseP(q:Nat)(x:a_ParseP):Option g_ParseP:=t_ParseP (nextZ q) (next q) (procedureZ q) (procedure q) (ParseP_l0 (nextZ q) (next q) (procedureZ q) (procedure q) q x) x some
theorem sc_ParseP(q:Nat):∀(x:a_ParseP) (z:g_ParseP),ParseP q x=some z→RC 4 3 (E6 ds) 8 (A_ParseP x).1 (A_ParseP x).2 (R_ParseP z):=fun x z h=>s_ParseP (nextZ q) (fun x z h=>sc6.2 (sc_nextZ q x z h)) (next q) (fun x z h=>sc6.2 (sc_next q x z h)) (procedureZ q) (fun x z h=>sc6.2 (sc_procedureZ q x z h)) (procedure q) (fun x z h=>sc6.2 (sc_procedure q x z h)) q x z h
end Go.Proofs.YtjfkkokeegpeiaaGreatDoor
/- Parse panics and recovers. -/
namespace Go.Proofs.YtjfkkokeegpeiaaGreatDoor
open Go Go.Am Go.RowKit
set_option maxRecDepth 100000
noncomputable def c8:ACode:=match E5.code 8 with|some c=>c|none=>.skip
noncomputable def c21:ACode:=match E5.code 21 with|some c=>c|none=>.skip
theorem c8_ok:E5.code 8=some c8:=by kernel_rfl
def opsD : Array Oper := #[{ dst := some 17, op := Op.makeFunc (Fn.func 21) #[] #[Operand.tmp 2, Operand.tmp 3, Operand.tmp 4], type := 1, pos := "parser.go:391", after := #[], guard := none },
  { dst := none, op := Op.defer { callee := Callee.value (Operand.tmp 17), args := #[], argTypes := #[] }, type := 0, pos := "parser.go:391", after := #[{ on := 0, ground := Ground.data }], guard := none }]
theorem c8_eq:c8.erase= .seq (pie8 0 c8).erase (.seq (pie8 1 c8).erase (.seq (pie8 2 c8).erase (.seq (.region 4 opsD false) (sel8 4 c8).erase))):=by kernel_rfl
def dcl(u0 u1 u2:Value):Deferred:={target:=.fn (.func 21) #[u0,u1,u2],args:=#[]}
theorem stepD{Q:Exit→Act→World→Prop}{a:Act}{w:World}(hs:a.tmps.size=31)
 (hQ:Q .normal {tmps:=a.tmps.setIfInBounds 17 (.func (.func 21) #[] #[a.tmps.getD 2 undef,a.tmps.getD 3 undef,a.tmps.getD 4 undef]),defers:=dcl (a.tmps.getD 2 undef) (a.tmps.getD 3 undef) (a.tmps.getD 4 undef)::a.defers} w):
 (Code.region 4 opsD false).wp Tryz.prog Q a w:=by
 apply wp_region
 simp[opsD,wpOps,go_sem,hs]
 left;left
 simpa[hs,dcl]using hQ
theorem denL_junk{β:Bt}{S D:Pr}{w:World}:∀us:List Value,denL β S w D (List.replicate us.length .junk) us
 | []=>by simp[denL]
 |u::us=>by
  simp only[List.length_cons,List.replicate_succ,denL]
  exact⟨u,us,rfl,(by simp[den]),denL_junk us⟩
def fr21(a c:Int):List V:=[.ptr 0 0,.ptr 1 0,.ptr 2 0,.ifc 45 (.agg [i64 a,i64 c])]++List.replicate 16 .junk
def H3(x0 x1 x2:V):List (Option Chunk):=[some (.blk [x0]),some (.blk [x1]),some (.blk [x2])]
theorem run21(a c:Int):execK E5 ca0 lo0 (sel8 1 c21) {fr:=fr21 a c,H:=hp (H3 .junk .junk .junk),nx:=3,rt:=3,me:=21} (KN 0)=some (.l .normal {fr:=List.replicate 20 .junk,H:=hp (H3 nilS (i64 a) (i64 c)),nx:=3,rt:=3,me:=21}):=by kernel_rfl
theorem end21(a c:Int):Am.Ends E5 (sel8 1 c21) {fr:=fr21 a c,H:=hp (H3 .junk .junk .junk),nx:=3,rt:=3,me:=21} .normal {fr:=List.replicate 20 .junk,H:=hp (H3 nilS (i64 a) (i64 c)),nx:=3,rt:=3,me:=21}:=
 Am.Ends.of hX5 ca0_sound lo0_sound (run21 a c)
theorem clo21{β:Bt}{S:Pr}{w:World}{a c:Int}{u0 u1 u2 u:Value}(hM:Mem β S (· <3) (hp (H3 .junk .junk .junk)) w)(hG:Glob E5 S w)
 (h0:den β S w (· <3) (.ptr 0 0) u0) (h1:den β S w (· <3) (.ptr 1 0) u1) (h2:den β S w (· <3) (.ptr 2 0) u2) (hv:den β S w (· <3) (.ifc 45 (.agg [i64 a,i64 c])) u):
 CallsD Tryz.prog 21 #[u0,u1,u2] (.panicking [{v:=u,recovered:=false}]) w fun e u' w'=>(∃v,e= .returned v)∧u'= .panicking [{v:=u,recovered:=true}]∧
  ∃β' S',Mem β' S' (· <3) (hp (H3 nilS (i64 a) (i64 c))) w'∧Glob E5 S' w'∧Evo β S w β' S' w'∧Roots 3 β β':=by
 refine callsD_of_wpS Tryz.func21 rfl fun c₀ cs hu=>?_
 apply wpS_seq
 apply wpS_region
 simp[wpOpsS,go_sem,recoverD,hu,Tryz.ntmps21,Exit.thenS]
 refine wpS_of_wp ?_
 refine(congrArg (fun c=>Code.wp Tryz.prog c _ _ _) (?_:(sel8 1 c21).erase=_)).mp (wp_mono (end21 a c β S (· <3) _ w ⟨?_,hM,⟨fun _=>rfl,fun d h=>(by cases h),fun h=>nomatch (show true=false from h)⟩,fun i hi=>hi,hG,fun i hi=>hi⟩) ?_)
 ·kernel_rfl
 ·have e:(#[u0,u1,u2]++((Array.replicate 17 undef).setIfInBounds 3 u).setIfInBounds 0 u).toList=[u0,u1,u2,u]++([undef,undef,u]++List.replicate 13 undef):=by
   simp[List.replicate]
  show denL β S w (· <3) (fr21 a c) (#[u0,u1,u2]++((Array.replicate 17 undef).setIfInBounds 3 u).setIfInBounds 0 u).toList
  rw[e]
  refine denL_append ?_ ?_
  ·simp only[denL]
   exact⟨_,_,rfl,h0,_,_,rfl,h1,_,_,rfl,h2,_,_,rfl,hv,rfl⟩
  ·exact denL_junk [undef,undef,u,undef,undef,undef,undef,undef,undef,undef,undef,undef,undef,undef,undef,undef]
 ·intro e' a' w' hp
  obtain⟨rfl,β',S',D',g1,g2,g3,g4,g5⟩:=post_normal hp
  have hD:D'=(· <3):=by
   funext i
   exact propext ⟨g1.lt i,g1.rtD i⟩
  subst hD
  refine⟨g1.df.1 rfl,_,?_,_,by simp[results,Tryz.results21,go_sem];rfl,⟨_,rfl⟩,rfl,β',S',g1.mem,g1.gl,g2,g3⟩
  cases c₀;simp_all
theorem wp_piece{E:Env}{c:ACode}{s t:St}(h:Am.Ends E c s .normal t){β:Bt}{S D:Pr}{a:Act}{w:World}(hR:Rel E β S D s a w){rest:Code}{Q:Exit→Act→World→Prop}
 (hQ:∀β' S' D' a' w',Rel E β' S' D' t a' w'→Evo β S w β' S' w'→rest.wp E.P Q a' w'):(Code.seq c.erase rest).wp E.P Q a w:=
 wp_seq (wp_mono (h β S D a w hR) fun e' a' w' hp=>by
  obtain⟨rfl,β',S',D',h1,h2,h3,_,_⟩:=post_normal hp
  exact hQ β' S' D' a' w' h1 h2)
def s0(s:ByteArray):St:={fr:=[st s]++List.replicate 30 (.sc undef),H:=hp [],nx:=0,rt:=0,me:=8}
def s1(s:ByteArray):St:={fr:=[st s,.junk,.ptr 0 0,.ptr 1 0,.ptr 2 0]++jk 26,H:=hp (H3 nilS (i64 0) (i64 0)),nx:=3,rt:=0,me:=8}
def s2(rt:Nat)(z:g_TokensV):St:={fr:=[.junk,.junk,.ptr 0 0,.ptr 1 0,.ptr 2 0,.ro 4 z.2.2.1 (fun j=>[i64 (z.2.2.2.1 j),i64 (z.2.2.2.2.1 j),st (z.2.2.2.2.2.1 j),i64 (z.2.2.2.2.2.2 j)])]++jk 25,H:=hp (H3 nilS (i64 z.1) (i64 z.2.1)),nx:=3,rt:=rt,me:=8}
theorem st1(s:ByteArray):execK (E6 []) ca0 lo0 (pie8 0 c8) (s0 s) (KN 29)=some (.l .normal (s1 s)):=by kernel_rfl
theorem st2(c:a_TokensV→Option g_TokensV)(s:ByteArray):execK (E6 []) (ftb 20 A_TokensV R_TokensV c ca0) lo0 (pie8 1 c8) (s1 s) (KN 60)=(viaF A_TokensV c (A_TokensV s)).bind fun z=>some (.l .normal (s2 0 z)):=by kernel_rfl
theorem st3(a:Int)(T:Nat×(Nat→Int)×(Nat→Int)×(Nat→ByteArray)×(Nat→Int)):execK (E6 []) ca0 lo0 (pie8 2 c8) (s2 0 (a,0,T)) (KN 60)=some (.l .normal (s2 0 (a,0,T))):=by kernel_rfl
def K3(n:Nat)(a c:Int):St:={fr:=.junk:: .junk:: .ptr 0 0:: .ptr 1 0:: .ptr 2 0::List.replicate n .junk,H:=hp (H3 nilS (i64 a) (i64 c)),nx:=3,rt:=3,me:=8}
end Go.Proofs.YtjfkkokeegpeiaaGreatDoor
/- Parse where it panics: what it returns. -/
namespace Go.Proofs.YtjfkkokeegpeiaaGreatDoor
open Go Go.Am Go.RowKit
set_option maxRecDepth 100000
theorem denL_of{β:Bt}{S D:Pr}{w:World}:∀{l:List V} {us:List Value},l.length=us.length→(∀i,den β S w D (l.getD i .junk) (us.getD i undef))→denL β S w D l us
 | [],[],_,_=>by simp[denL]
 |v::l,u::us,hl,h=>by
  simp only[denL]
  exact⟨u,us,rfl,by simpa using h 0,denL_of (by simpa using hl) fun i=>by simpa using h (i+1)⟩
theorem ptr_roots{β β':Bt}{S S' D D':Pr}{w w':World}{i o n:Nat}{u:Value}(hr:Roots n β β')(hi:i<n)(hD:D' i)(h:den β S w D (.ptr i o) u):den β' S' w' D' (.ptr i o) u:=by
 simp only[den]at h⊢
 exact⟨⟨hD,h.1.2⟩,fun b m hb=>h.2 b m (hr i _ hi hb)⟩
theorem resP(ds:List Deferred)(n:Nat)(a c:Int):resLK (E6 ds) (K3 n a c) [.cell 2 22,.cell 3 3,.cell 4 23] (fun vs=>some (.c (.ret (one1 vs) [])))=some (.c (.ret (.tup [nilS,i64 a,i64 c]) [])):=by kernel_rfl
theorem parse_pan (q : Nat) (s : ByteArray) (a : Int) (T : Nat × (Nat → Int) × (Nat → Int) × (Nat → ByteArray) × (Nat → Int)) (hz : TokensV q s = some (a, 0, T)) (e : Int × Int) (hp : ParseP q (a, T) = some e) :
 SC E5 8 [st s] [] (.ret (.tup [nilS, i64 e.1, i64 e.2]) []) := by
 refine ⟨⟨_, Tryz.func8, by kernel_rfl, by intro e; exact absurd e (by decide +kernel)⟩, fun β S w us hus hM hG => ?_⟩
 obtain rfl : us = [.string s] := by simpa [denL, den] using hus
 refine calls_of_wp_defers Tryz.func8 rfl ?_
 refine (congrArg (fun c => Code.wp Tryz.prog c _ _ _) (?_ : c8.erase = _)).mp ?_
 ·kernel_rfl
 rw [c8_eq]
 have R0 : Rel (E6 []) β S (· < 0) (s0 s) { tmps := [Value.string s].toArray ++ Array.replicate (31 - [Value.string s].toArray.size) undef, defers := [] } w := by
  refine ⟨?_, hM, ⟨fun _ => rfl, fun d hd => (by cases hd), fun _ => rfl⟩, fun i hi => hi, ⟨hG.rd, hG.inv⟩, fun i hi => hi⟩
  have e : ([Value.string s].toArray ++ Array.replicate (31 - [Value.string s].toArray.size) undef).toList = [Value.string s] ++ List.replicate 30 undef := by simp
  rw [e]
  refine denL_append hus ?_
  have := denL_map (β := β) (S := S) (w := w) (D := (· < 0)) (f := fun _ : Nat => V.sc undef) (g := fun _ => undef) (l := List.range 30) (fun _ _ => by simp [den])
  simpa [List.map_const'] using this
 refine wp_piece (E := E6 []) (Am.Ends.of (hX6 []) ca0_sound lo0_sound (st1 s)) R0 fun β1 S1 D1 a1 w1 R1 v1 => ?_
 refine wp_piece (E := E6 []) (Am.Ends.of (hX6 []) (fk (fun x z h => sc6.2 (sc_TokensV q x z h)) ca0_sound) lo0_sound ((st2 (TokensV q) s).trans (by
  rw [show viaF A_TokensV (TokensV q) (A_TokensV s) = TokensV q s from congrFun (v_TokensV (TokensV q)) s, hz]; rfl))) R1 fun β2 S2 D2 a2 w2 R2 v2 => ?_
 refine wp_piece (E := E6 []) (Am.Ends.of (hX6 []) ca0_sound lo0_sound (st3 a T)) R2 fun β3 S3 D3 a3 w3 R3 v3 => ?_
 have hsz : a3.tmps.size = 31 := by
  have := denL_len R3.fr
  simpa [s2, jk] using this.symm
 have d0 : den β3 S3 w3 D3 (.ptr 0 0) (a3.tmps.getD 2 undef) := by simpa [s2] using denL_getD R3.fr 2
 have d1 : den β3 S3 w3 D3 (.ptr 1 0) (a3.tmps.getD 3 undef) := by simpa [s2] using denL_getD R3.fr 3
 have d2 : den β3 S3 w3 D3 (.ptr 2 0) (a3.tmps.getD 4 undef) := by simpa [s2] using denL_getD R3.fr 4
 have hdf : a3.defers = [] := R3.df.2.2 rfl
 refine wp_seq (stepD hsz ?_)
 show Code.wp Tryz.prog (sel8 4 c8).erase _ _ w3
 rw [hdf]
 have R4 : Rel (E6 [dcl (a3.tmps.getD 2 undef) (a3.tmps.getD 3 undef) (a3.tmps.getD 4 undef)]) β3 S3 D3 (s2 3 (a, 0, T))
  { tmps := a3.tmps.setIfInBounds 17 (.func (.func 21) #[] #[a3.tmps.getD 2 undef, a3.tmps.getD 3 undef, a3.tmps.getD 4 undef]), defers := [dcl (a3.tmps.getD 2 undef) (a3.tmps.getD 3 undef) (a3.tmps.getD 4 undef)] } w3 := by
  refine ⟨?_, R3.mem, ⟨fun h => (nomatch (show true = false from h)), fun d hd => ?_, fun _ => rfl⟩, R3.lt, ⟨R3.gl.rd, R3.gl.inv⟩, fun i hi => ?_⟩
  ·have hfr := R3.fr
   refine denL_of (by simp [s2, jk, hsz]) fun i => ?_
   by_cases h17 : i = 17
   ·subst h17
    simp [s2, jk, den]
   ·have := denL_getD hfr i
    have e : (a3.tmps.setIfInBounds 17 (.func (.func 21) #[] #[a3.tmps.getD 2 undef, a3.tmps.getD 3 undef, a3.tmps.getD 4 undef])).toList.getD i undef = a3.tmps.toList.getD i undef := by
     rw [Array.toList_setIfInBounds, List.getD_eq_getElem?_getD, List.getD_eq_getElem?_getD, List.getElem?_set_ne (fun h => h17 h.symm)]
    rw [e]
    exact this
  ·simp only [List.mem_singleton] at hd
   subst hd
   exact ⟨21, _, rfl, rfl⟩
  ·match i, hi with
   | 0, _ => simp only [den] at d0; exact d0.1.1
   | 1, _ => simp only [den] at d1; exact d1.1.1
   | 2, _ => simp only [den] at d2; exact d2.1.1
 obtain ⟨v, s', hv, hE, x0, x1, x2, y0, y1, l, ef, e0, e1, e2⟩ := sc_ParseP (ds := [dcl (a3.tmps.getD 2 undef) (a3.tmps.getD 3 undef) (a3.tmps.getD 4 undef)]) q _ e hp c8 c8_ok
 cases hv
 refine wp_mono (hE _ _ _ _ _ R4) fun e' a' w' hpost => ?_
 obtain ⟨β', S', D', q1, q2, q3, q4, q5, q6⟩ := hpost.ex
 cases e' <;> simp only [ExR] at q1
 obtain ⟨u, rfl, g1, g2⟩ := q1
 show Leaves _ _ _ _ a'.defers (.panicking _) w'
 rw [show a'.defers = [dcl (a3.tmps.getD 2 undef) (a3.tmps.getD 3 undef) (a3.tmps.getD 4 undef)] from q2.df.2.2 rfl]
 -- the blocks of the results alone
 have M5 : Mem (ofOrder β' [0, 1, 2]) S' (· < 3) (Am.hp (H3 .junk .junk .junk)) w' := by
  have h := q2.mem.renum (order := [0, 1, 2]) (by decide)
  refine Mem.le h (hp_le ?_)
  simp only [keep, List.map_cons, List.map_nil, e0, e1, e2, Option.map_some, Chunk.ren, H3, renL]
  exact ⟨ChLe.blk (LeL.cons (Le.junk _) LeL.nil), ChLe.blk (LeL.cons (Le.junk _) LeL.nil), ChLe.blk (LeL.cons (Le.junk _) LeL.nil), trivial⟩
 have r5 : Roots 3 β3 (ofOrder β' [0, 1, 2]) := by
  intro i bm hi hb
  refine q4 i bm hi ?_
  match i, hi, hb with
  | 0, _, hb => exact hb
  | 1, _, hb => exact hb
  | 2, _, hb => exact hb
 have v5 : Evo β3 S3 w3 (ofOrder β' [0, 1, 2]) S' w' := q3.trans ⟨rfl, rfl, rfl, Nat.le_refl _, fun _ _ _ => rfl, fun _ h => h, fun _ h => .inl h, fun i b m hb h0 => by
  obtain ⟨j, _, hj⟩ := ofOrder_some hb
  exact .inr ⟨j, m, h0, hj⟩⟩
 have k0 := ptr_roots r5 (show 0 < 3 by decide) (show (· < 3) 0 by decide) d0 (S' := S') (w' := w') (D' := (· < 3))
 have k1 := ptr_roots r5 (show 1 < 3 by decide) (show (· < 3) 1 by decide) d1 (S' := S') (w' := w') (D' := (· < 3))
 have k2 := ptr_roots r5 (show 2 < 3 by decide) (show (· < 3) 2 by decide) d2 (S' := S') (w' := w') (D' := (· < 3))
 have hv5 : den (ofOrder β' [0, 1, 2]) S' w' (· < 3) (.ifc 45 (.agg [i64 e.1, i64 e.2])) u := den_pure (fun _ h => h) (fun _ _ => rfl) _ _ g1 g2
 refine leaves_cons (f := 21) (args := #[a3.tmps.getD 2 undef, a3.tmps.getD 3 undef, a3.tmps.getD 4 undef]) (by simp) (by
  have hcal := (idle65 #[a3.tmps.getD 2 undef, a3.tmps.getD 3 undef, a3.tmps.getD 4 undef] w' rfl).1
  simp only [invoke, Array.append_empty]
  exact hcal) ((clo21 M5 ⟨q2.gl.rd, q2.gl.inv⟩ k0 k1 k2 hv5).mono ?_)
 rintro e5 u5 w5 ⟨⟨vv, rfl⟩, rfl, β6, S6, M6, G6, v6, r6⟩
 show Leaves _ _ _ _ [] .returning w5
 -- the results are read
 have t2 := denL_getD q2.fr 2
 have t3 := denL_getD q2.fr 3
 have t4 := denL_getD q2.fr 4
 rw [ef] at t2 t3 t4
 have r6' : Roots 3 β' β6 := by
  intro i bm hi hb
  have hb := r6 i bm hi hb
  match i, hi, hb with
  | 0, _, hb => exact hb
  | 1, _, hb => exact hb
  | 2, _, hb => exact hb
 have R7 : Rel (E6 []) β6 S6 (· < 3) (K3 l.length e.1 e.2) { a' with defers := [] } w5 := by
  refine ⟨denL_of ?_ fun i => ?_, M6, ⟨fun _ => rfl, fun d hd => (by cases hd), fun _ => rfl⟩, fun i hi => hi, ⟨G6.rd, G6.inv⟩, fun i hi => hi⟩
  ·have := denL_len q2.fr
   rw [ef] at this
   simpa [K3] using this
  ·match i with
   | 0 => simp [K3, den]
   | 1 => simp [K3, den]
   | 2 => exact ptr_roots r6' (show 0 < 3 by decide) (show (· < 3) 0 by decide) t2
   | 3 => exact ptr_roots r6' (show 1 < 3 by decide) (show (· < 3) 1 by decide) t3
   | 4 => exact ptr_roots r6' (show 2 < 3 by decide) (show (· < 3) 2 by decide) t4
   | i + 5 =>
    have e : (K3 l.length e.1 e.2).fr.getD (i + 5) V.junk = .junk := by
     simp only [K3, List.getD_eq_getElem?_getD, List.getElem?_cons_succ, List.getElem?_replicate]
     split <;> rfl
    rw [e]
    simp [den]
 obtain ⟨vs, h3, h4⟩ := resL_sound _ (resP [] l.length e.1 e.2)
 simp only [Option.some.injEq, Ans.c.injEq, CRes.ret.injEq, and_true] at h3
 obtain ⟨rs, g3, g4⟩ := h4 β6 S6 (· < 3) { a' with defers := [] } w5 R7
 refine ⟨(if h : rs.toArray.size = 1 then rs.toArray[0] else .tuple rs.toArray), ?_, ?_⟩
 ·rw [results_eq, Sem.run_bind]
  have hrun : ((#[.cell 2 22, .cell 3 3, .cell 4 23] : Array ResultVar).mapM (resF a'.tmps)).run Tryz.prog w5 = .ok rs.toArray w5 := by
   rw [Array.mapM_eq_mapM_toList, Sem.run_map]
   have g3' : (List.mapM (resF a'.tmps) [ResultVar.cell 2 22, .cell 3 3, .cell 4 23]).run Tryz.prog w5 = .ok rs w5 := g3
   rw [show (#[ResultVar.cell 2 22, .cell 3 3, .cell 4 23]).toList = [.cell 2 22, .cell 3 3, .cell 4 23] from rfl, g3']
   rfl
  exact (congrArg (fun r => Result.andThen r _) hrun).trans rfl
 ·have hd := one1_den g4
  rw [h3] at hd
  have M8 := M6.renum (order := []) (by decide)
  refine ⟨_, _, S6, rfl, M8, den_pure (fun _ h => h) (fun _ _ => rfl) _ _ (by simp [V.pure, pureL]) hd, (((v1.trans v2).trans v3).trans v5).trans (v6.trans ⟨rfl, rfl, rfl, Nat.le_refl _, fun _ _ _ => rfl, fun _ h => h, fun _ h => .inl h, fun i b m hb h0 => by
   obtain ⟨j, _, hj⟩ := ofOrder_some hb
   exact .inr ⟨j, m, h0, hj⟩⟩), fun i bm _ hb => ?_⟩
  obtain ⟨j, hj, _⟩ := ofOrder_some hb
  cases hj
end Go.Proofs.YtjfkkokeegpeiaaGreatDoor
/- Parse reads as the plain parser reads. -/
namespace Go.Proofs.YtjfkkokeegpeiaaGreatDoor
open Go Go.Am Go.Proofs.Lx
set_option maxRecDepth 100000
abbrev AcP:Type:=(Nat→ByteArray)×(Nat→Nat)×(Nat→Nat→List V)×(Nat→Int)×(Nat→Int)×(Nat→ByteArray)×(Nat→Nat)×(Nat→Nat→List V)×Nat
def RepP(l:List Prc)(a:AcP):Prop:=a.2.2.2.2.2.2.2.2=l.length∧∀j c,l[j]? =some c→a.1 j=c.x∧a.2.1 j=c.ps.length∧(∀i m,c.ps[i]? =some m→a.2.2.1 j i=[st m.x,st m.u])∧RepN c.b (a.2.2.2.1 j,a.2.2.2.2.1 j,a.2.2.2.2.2.1 j,a.2.2.2.2.2.2.1 j,a.2.2.2.2.2.2.2.1 j)
abbrev OneP:Type:=ByteArray×Nat×(Nat→ByteArray)×(Nat→ByteArray)×NodeT
def acP1(z:OneP):AcP:=(fun _=>z.1,fun _=>z.2.1,fun _ i=>[st (z.2.2.1 i),st (z.2.2.2.1 i)],fun _=>z.2.2.2.2.1,fun _=>z.2.2.2.2.2.1,fun _=>z.2.2.2.2.2.2.1,fun _=>z.2.2.2.2.2.2.2.1,fun _=>z.2.2.2.2.2.2.2.2,1)
theorem acP1_rep{c:Prc}{z:OneP}(h:RepC c z):RepP [c] (acP1 z):=by
 refine⟨rfl,fun j c' e=>?_⟩
 cases j with
 |zero=>
  simp only[List.getElem?_cons_zero,Option.some.injEq]at e;subst e
  obtain⟨h1,⟨h2,h3⟩,h4⟩:=h
  exact⟨h1,h2,fun i m e=>by obtain⟨g1,g2⟩:=h3 i m e;simp only at g1 g2;simp only[acP1,g1,g2],h4⟩
 |succ j=>simp at e
def acPN(a:AcP)(z:OneP):AcP:=(fun j=>if j<a.2.2.2.2.2.2.2.2 then a.1 j else z.1,fun j=>if j<a.2.2.2.2.2.2.2.2 then a.2.1 j else z.2.1,fun j i=>if j<a.2.2.2.2.2.2.2.2 then a.2.2.1 j i else[st (z.2.2.1 i),st (z.2.2.2.1 i)],fun j=>if j<a.2.2.2.2.2.2.2.2 then a.2.2.2.1 j else z.2.2.2.2.1,fun j=>if j<a.2.2.2.2.2.2.2.2 then a.2.2.2.2.1 j else z.2.2.2.2.2.1,fun j=>if j<a.2.2.2.2.2.2.2.2 then a.2.2.2.2.2.1 j else z.2.2.2.2.2.2.1,fun j=>if j<a.2.2.2.2.2.2.2.2 then a.2.2.2.2.2.2.1 j else z.2.2.2.2.2.2.2.1,fun j i=>if j<a.2.2.2.2.2.2.2.2 then a.2.2.2.2.2.2.2.1 j i else z.2.2.2.2.2.2.2.2 i,a.2.2.2.2.2.2.2.2+1)
theorem acPN_rep{l:List Prc}{a:AcP}{c:Prc}{z:OneP}(h:RepP l a)(g:RepC c z):RepP (l++[c]) (acPN a z):=by
 refine⟨by simp[acPN,h.1],fun j c' e=>?_⟩
 by_cases hj:j<l.length
 ·rw[List.getElem?_append_left hj]at e
  have:=h.2 j c' e
  simp only[acPN,h.1,hj,if_true]
  exact this
 ·rw[List.getElem?_append_right (by omega)]at e
  simp only[acPN,h.1,hj,if_false]
  cases hk:j-l.length with
  |zero=>
   rw[hk]at e;simp only[List.getElem?_cons_zero,Option.some.injEq]at e;subst e
   obtain⟨h1,⟨h2,h3⟩,h4⟩:=g
   exact⟨h1,h2,fun i m e=>by obtain⟨g1,g2⟩:=h3 i m e;simp only at g1 g2;simp only[g1,g2],h4⟩
  |succ n=>rw[hk]at e;simp at e
def x00(N:Nat)(T:Nat→Tkn):StT:=(0,0,N,(fun j=>(T j).k),(fun j=>(T j).a),(fun j=>(T j).t),(fun j=>(T j).n),0,(fun _=>ByteArray.empty),0,(fun _=>ByteArray.empty))
theorem x00_rs{N:Nat}{T:Nat→Tkn}(hT:TokN N T):RS N T [] ⟨0,0,[]⟩ (x00 N T):=⟨_,_,rfl,fun j b e=>by simp at e,fun j b e=>by simp at e,hT.pos,Nat.zero_le _,by simp,by simp⟩
def tokV(N:Nat)(T:Nat→Tkn):Nat×(Nat→Int)×(Nat→Int)×(Nat→ByteArray)×(Nat→Int):=(N,(fun j=>(T j).k),(fun j=>(T j).a),(fun j=>(T j).t),(fun j=>(T j).n))
theorem nextZ_eq{N:Nat}{T:Nat→Tkn}(hT:TokN N T)(q:Nat):nextZ q (0,0,tokV N T)=some ((T 0).k,(T 0).a,(T 0).t,(T 0).n,0,0,tokV N T):=by
 unfold nextZ t_nextZ
 have:=hT.pos
 refine(if_pos ?_).trans rfl
 show(0:Int)≤0∧(0:Int)< ((N:Nat):Int)
 omega
theorem next_eq'{N:Nat}{T:Nat→Tkn}{pr:List ByteArray}{s:PS}{x:StT}(q:Nat)(h:RS N T pr s x):next q (x.1,x.2.1,x.2.2.1,x.2.2.2.1,x.2.2.2.2.1,x.2.2.2.2.2.1,x.2.2.2.2.2.2.1,x.2.2.2.2.2.2.2.1,x.2.2.2.2.2.2.2.2.1,x.2.2.2.2.2.2.2.2.2.1,x.2.2.2.2.2.2.2.2.2.2)=some ((T s.p).k,(T s.p).a,(T s.p).t,(T s.p).n,x):=next_eq q h
section
variable {N:Nat} {T:Nat→Tkn}
def spT(a0 e0:Int)(x:StT)(a:AcP):=(a.1,a.2.1,a.2.2.1,a.2.2.2.1,a.2.2.2.2.1,a.2.2.2.2.2.1,a.2.2.2.2.2.2.1,a.2.2.2.2.2.2.2.1,a0,e0,x.2.2.1,x.2.2.2.1,x.2.2.2.2.1,x.2.2.2.2.2.1,x.2.2.2.2.2.2.1,x.1,x.2.1,x.2.2.2.2.2.2.2.1,x.2.2.2.2.2.2.2.2.2.1,x.2.2.2.2.2.2.2.2.1,x.2.2.2.2.2.2.2.2.2.2,a.2.2.2.2.2.2.2.2)
def BPT(T:Nat→Tkn)(N:Nat)(a0 e0:Int)(acc:List Prc):PR (List Prc)→ParseT_l0_g→Prop
 | .ok l s,.inr (.inl _)=>acc++l=[]
 | .ok l s,.inr (.inr (.inr z))=>∃a:AcP,z=(a.2.2.2.2.2.2.2.2,a.1,a.2.1,a.2.2.1,a.2.2.2.1,a.2.2.2.2.1,a.2.2.2.2.2.1,a.2.2.2.2.2.2.1,a.2.2.2.2.2.2.2.1,a0,e0)∧RepP (acc++l) a
 | .err p c,.inl e=>p<N∧e.1=(T p).a∧e.2.1=c
 | .err p c,.inr (.inr (.inl e))=>p<N∧e.1=(T p).a∧e.2.1=c
 |_,_=>False
def PST(N:Nat)(T:Nat→Tkn)(a0 e0:Int)(acc:List Prc)(pr:List ByteArray)(s:PS)(x:StT):ParseT_l0_a→Prop
 | .inl y=>acc=[]∧pr=[]∧s=⟨0,0,[]⟩∧x=x00 N T∧y=(a0,e0,tokV N T)
 | .inr y=>∃a,y=spT a0 e0 x a∧RepP acc a
theorem parse_loopT(hT:TokN N T)(a0 e0:Int){F q:Nat}(hF:F≤1000000000)(hq:2*F+2000000100≤q)(x0:a_ParseT):∀(g:Nat),g≤F→∀(m:Nat),g<m→∀(acc:List Prc) (pr:List ByteArray) (s:PS) (x:StT) (y:ParseT_l0_a),PST N T a0 e0 acc pr s x y→acc.length+g≤1000000000→pr.length+g≤1000000000→RS N T pr s x→procsP T g pr s≠ .out→
 Rs (ParseT_l0 (TokensV q) (nextZ q) (next q) (procedureZ q) (procedure q) m x0 y) (BPT T N a0 e0 acc (procsP T g pr s)):=by
 intro g
 induction g with
 |zero=>intro _ m _ acc pr s x y _ _ _ _ ho;rw[procsP]at ho;exact absurd rfl ho
 |succ g ih=>
  intro hg m hm acc pr s x y hy hb hb2 h ho
  obtain⟨m,rfl⟩:∃k,m=k+1:=⟨m-1,by omega⟩
  unfold ParseT_l0
  refine Rs.step3 fun Q hQ=>?_
  have hop:procsP T (g+1) pr s=if(T s.p).k=0 then .ok [] s else(procP T g pr s).bind fun x s1=>(procsP T g (pr++[x.x]) s1).bind fun l s2=>.ok (x::l) s2:=by rw[procsP]
  rcases y with y|y
  ·obtain⟨rfl,rfl,rfl,rfl,rfl⟩:=hy
   rw[Sum.elim_inl]
   unfold ParseT_l0_t0
   dsimp only
   rw[nextZ_eq hT]
   dsimp only[Option.bind_some]
   by_cases hk:(T 0).k=0
   ·rw[if_pos hk]at hop
    refine Rs.neg (by simp[hk]) (Rs.some ?_)
    show BPT T N a0 e0 [] (procsP T (g+1) [] ⟨0,0,[]⟩) _
    rw[hop]
    rfl
   ·rw[if_neg hk]at hop
    refine Rs.pos (by simpa using hk) ?_
    have hp:=procedure_rs (f:=g) (q:=q) hT (by omega) (by omega) (x00_rs hT) (by simp) (PR.bind_out (hop▸ho))
    refine Rs.bind (f:=_) (show Rs (procedureZ q (0,0,tokV N T)) _ from hp) fun z hz=>?_
    cases hr:procP T g [] ⟨0,0,[]⟩with
    |out=>rw[hr]at hz;rcases z with z|z<;>exact hz.elim
    |err p c=>
     rw[hr]at hz hop
     rcases z with z|z
     ·exact hz.elim
     ·refine Rs.some ?_
      show BPT T N a0 e0 [] (procsP T (g+1) [] ⟨0,0,[]⟩) _
      rw[hop]
      exact⟨hz.1,by rw[hz.2],by rw[hz.2]⟩
    |ok c s2=>
     rw[hr]at hz hop
     dsimp only[PR.bind]at hop
     rcases z with z|z
     ·obtain⟨zc,zx⟩:=hz
      refine Rs.some (hQ _ ?_)
      have ho2:=PR.bind_out (hop▸ho)
      refine(ih (by omega) m (by omega) [c] ([]++[c.x]) s2 _ (.inr (spT a0 e0 z.2.2.2.2.2.2.2.2.2 (acP1 (z.1,z.2.1,z.2.2.1,z.2.2.2.1,z.2.2.2.2.1,z.2.2.2.2.2.1,z.2.2.2.2.2.2.1,z.2.2.2.2.2.2.2.1,z.2.2.2.2.2.2.2.2.1)))) ⟨_,rfl,acP1_rep zc⟩ (by simp;omega) (by simp;omega) zx ho2).mono fun z hz=>?_
      rw[hop]
      cases hr2:procsP T g ([]++[c.x]) s2 with
      |out=>exact absurd hr2 ho2
      |err p c=>rw[hr2]at hz;rcases z with z|z|z|z<;>exact hz
      |ok l s3=>
       rw[hr2]at hz
       rcases z with z|z|z|z
       ·exact hz.elim
       ·exact absurd (show[c]++l=[]from hz) (by simp)
       ·exact hz.elim
       ·exact hz
     ·exact hz.elim
  ·obtain⟨a,rfl,ha⟩:=hy
   have hal:=ha.1
   rw[Sum.elim_inr]
   unfold ParseT_l0_t1
   dsimp only[spT]
   rw[next_eq' q h]
   dsimp only[Option.bind_some]
   by_cases hk:(T s.p).k=0
   ·rw[if_pos hk]at hop
    refine Rs.neg (by simp[hk]) (Rs.some ?_)
    show BPT T N a0 e0 acc (procsP T (g+1) pr s) _
    rw[hop]
    exact⟨a,rfl,by rw[List.append_nil];exact ha⟩
   ·rw[if_neg hk]at hop
    refine Rs.pos (by simpa using hk) ?_
    have hp:=procedure_rs (f:=g) (q:=q) hT (by omega) (by omega) h (by omega) (PR.bind_out (hop▸ho))
    refine Rs.bind hp fun z hz=>?_
    cases hr:procP T g pr s with
    |out=>rw[hr]at hz;rcases z with z|z<;>exact hz.elim
    |err p c=>
     rw[hr]at hz hop
     rcases z with z|z
     ·exact hz.elim
     ·refine Rs.some ?_
      show BPT T N a0 e0 acc (procsP T (g+1) pr s) _
      rw[hop]
      exact⟨hz.1,by rw[hz.2],by rw[hz.2]⟩
    |ok c s2=>
     rw[hr]at hz hop
     dsimp only[PR.bind]at hop
     rcases z with z|z
     ·obtain⟨zc,zx⟩:=hz
      refine Rs.pos ⟨by unfold roomBound;omega,by unfold maxLen;omega,Nat.le_refl _⟩ (Rs.some (hQ _ ?_))
      have ho2:=PR.bind_out (hop▸ho)
      refine(ih (by omega) m (by omega) (acc++[c]) (pr++[c.x]) s2 _ (.inr (spT a0 e0 z.2.2.2.2.2.2.2.2.2 (acPN a (z.1,z.2.1,z.2.2.1,z.2.2.2.1,z.2.2.2.2.1,z.2.2.2.2.2.1,z.2.2.2.2.2.2.1,z.2.2.2.2.2.2.2.1,z.2.2.2.2.2.2.2.2.1)))) ⟨_,rfl,acPN_rep ha zc⟩ (by simp;omega) (by simp;omega) zx ho2).mono fun z hz=>?_
      rw[hop]
      cases hr2:procsP T g (pr++[c.x]) s2 with
      |out=>exact absurd hr2 ho2
      |err p c=>rw[hr2]at hz;rcases z with z|z|z|z<;>exact hz
      |ok l s3=>
       rw[hr2]at hz
       rcases z with z|z|z|z
       ·exact hz.elim
       ·exact absurd (show(acc++[c])++l=[]from hz) (by simp)
       ·exact hz.elim
       ·obtain⟨a2,e1,e2⟩:=hz
        exact⟨a2,e1,by simpa using e2⟩
     ·exact hz.elim
end
end Go.Proofs.YtjfkkokeegpeiaaGreatDoor
/- Parse reads as the plain parser reads. -/
namespace Go.Proofs.YtjfkkokeegpeiaaGreatDoor
open Go Go.Am Go.Proofs.Lx
set_option maxRecDepth 100000
section
variable {N:Nat} {T:Nat→Tkn}
def spP(x:StT)(a:AcP):=(a.1,a.2.1,a.2.2.1,a.2.2.2.1,a.2.2.2.2.1,a.2.2.2.2.2.1,a.2.2.2.2.2.2.1,a.2.2.2.2.2.2.2.1,x.2.2.1,x.2.2.2.1,x.2.2.2.2.1,x.2.2.2.2.2.1,x.2.2.2.2.2.2.1,x.1,x.2.1,x.2.2.2.2.2.2.2.1,x.2.2.2.2.2.2.2.2.2.1,x.2.2.2.2.2.2.2.2.1,x.2.2.2.2.2.2.2.2.2.2,a.2.2.2.2.2.2.2.2)
def BPP(T:Nat→Tkn)(N:Nat)(acc:List Prc):PR (List Prc)→ParseP_l0_g→Prop
 | .ok l s,.inr (.inl _)=>acc++l=[]
 | .ok l s,.inr (.inr (.inr z))=>True
 | .err p c,.inl e=>p<N∧e.1=(T p).a∧e.2=c
 | .err p c,.inr (.inr (.inl e))=>p<N∧e.1=(T p).a∧e.2.1=c
 |_,_=>False
def PSP(N:Nat)(T:Nat→Tkn)(acc:List Prc)(pr:List ByteArray)(s:PS)(x:StT):ParseP_l0_a→Prop
 | .inl y=>acc=[]∧pr=[]∧s=⟨0,0,[]⟩∧x=x00 N T∧y=()
 | .inr y=>∃a,y=spP x a∧RepP acc a
theorem parse_loopP(hT:TokN N T){F q:Nat}(hF:F≤1000000000)(hq:2*F+2000000100≤q)(x0:a_ParseP)(hx0:x0.2=tokV N T):∀(g:Nat),g≤F→∀(m:Nat),g<m→∀(acc:List Prc) (pr:List ByteArray) (s:PS) (x:StT) (y:ParseP_l0_a),PSP N T acc pr s x y→acc.length+g≤1000000000→pr.length+g≤1000000000→RS N T pr s x→procsP T g pr s≠ .out→
 Rs (ParseP_l0 (nextZ q) (next q) (procedureZ q) (procedure q) m x0 y) (BPP T N acc (procsP T g pr s)):=by
 intro g
 induction g with
 |zero=>intro _ m _ acc pr s x y _ _ _ _ ho;rw[procsP]at ho;exact absurd rfl ho
 |succ g ih=>
  intro hg m hm acc pr s x y hy hb hb2 h ho
  obtain⟨m,rfl⟩:∃k,m=k+1:=⟨m-1,by omega⟩
  unfold ParseP_l0
  refine Rs.step3 fun Q hQ=>?_
  have hop:procsP T (g+1) pr s=if(T s.p).k=0 then .ok [] s else(procP T g pr s).bind fun x s1=>(procsP T g (pr++[x.x]) s1).bind fun l s2=>.ok (x::l) s2:=by rw[procsP]
  rcases y with y|y
  ·obtain⟨rfl,rfl,rfl,rfl,rfl⟩:=hy
   rw[Sum.elim_inl]
   unfold ParseP_l0_t0
   rw[hx0]
   rw[nextZ_eq hT]
   dsimp only[Option.bind_some]
   by_cases hk:(T 0).k=0
   ·rw[if_pos hk]at hop
    refine Rs.neg (by simp[hk]) (Rs.some ?_)
    show BPP T N [] (procsP T (g+1) [] ⟨0,0,[]⟩) _
    rw[hop]
    rfl
   ·rw[if_neg hk]at hop
    refine Rs.pos (by simpa using hk) ?_
    have hp:=procedure_rs (f:=g) (q:=q) hT (by omega) (by omega) (x00_rs hT) (by simp) (PR.bind_out (hop▸ho))
    refine Rs.bind (f:=_) (show Rs (procedureZ q (0,0,tokV N T)) _ from hp) fun z hz=>?_
    cases hr:procP T g [] ⟨0,0,[]⟩with
    |out=>rw[hr]at hz;rcases z with z|z<;>exact hz.elim
    |err p c=>
     rw[hr]at hz hop
     rcases z with z|z
     ·exact hz.elim
     ·refine Rs.some ?_
      show BPP T N [] (procsP T (g+1) [] ⟨0,0,[]⟩) _
      rw[hop]
      exact⟨hz.1,by rw[hz.2],by rw[hz.2]⟩
    |ok c s2=>
     rw[hr]at hz hop
     dsimp only[PR.bind]at hop
     rcases z with z|z
     ·obtain⟨zc,zx⟩:=hz
      refine Rs.some (hQ _ ?_)
      have ho2:=PR.bind_out (hop▸ho)
      refine(ih (by omega) m (by omega) [c] ([]++[c.x]) s2 _ (.inr (spP z.2.2.2.2.2.2.2.2.2 (acP1 (z.1,z.2.1,z.2.2.1,z.2.2.2.1,z.2.2.2.2.1,z.2.2.2.2.2.1,z.2.2.2.2.2.2.1,z.2.2.2.2.2.2.2.1,z.2.2.2.2.2.2.2.2.1)))) ⟨_,rfl,acP1_rep zc⟩ (by simp;omega) (by simp;omega) zx ho2).mono fun z hz=>?_
      rw[hop]
      cases hr2:procsP T g ([]++[c.x]) s2 with
      |out=>exact absurd hr2 ho2
      |err p c=>rw[hr2]at hz;rcases z with z|z|z|z<;>exact hz
      |ok l s3=>
       rw[hr2]at hz
       rcases z with z|z|z|z
       ·exact hz.elim
       ·exact absurd (show[c]++l=[]from hz) (by simp)
       ·exact hz.elim
       ·trivial
     ·exact hz.elim
  ·obtain⟨a,rfl,ha⟩:=hy
   have hal:=ha.1
   rw[Sum.elim_inr]
   unfold ParseP_l0_t1
   dsimp only[spP]
   rw[next_eq' q h]
   dsimp only[Option.bind_some]
   by_cases hk:(T s.p).k=0
   ·rw[if_pos hk]at hop
    refine Rs.neg (by simp[hk]) (Rs.some ?_)
    show BPP T N acc (procsP T (g+1) pr s) _
    rw[hop]
    trivial
   ·rw[if_neg hk]at hop
    refine Rs.pos (by simpa using hk) ?_
    have hp:=procedure_rs (f:=g) (q:=q) hT (by omega) (by omega) h (by omega) (PR.bind_out (hop▸ho))
    refine Rs.bind hp fun z hz=>?_
    cases hr:procP T g pr s with
    |out=>rw[hr]at hz;rcases z with z|z<;>exact hz.elim
    |err p c=>
     rw[hr]at hz hop
     rcases z with z|z
     ·exact hz.elim
     ·refine Rs.some ?_
      show BPP T N acc (procsP T (g+1) pr s) _
      rw[hop]
      exact⟨hz.1,by rw[hz.2],by rw[hz.2]⟩
    |ok c s2=>
     rw[hr]at hz hop
     dsimp only[PR.bind]at hop
     rcases z with z|z
     ·obtain⟨zc,zx⟩:=hz
      refine Rs.pos ⟨by unfold roomBound;omega,by unfold maxLen;omega,Nat.le_refl _⟩ (Rs.some (hQ _ ?_))
      have ho2:=PR.bind_out (hop▸ho)
      refine(ih (by omega) m (by omega) (acc++[c]) (pr++[c.x]) s2 _ (.inr (spP z.2.2.2.2.2.2.2.2.2 (acPN a (z.1,z.2.1,z.2.2.1,z.2.2.2.1,z.2.2.2.2.1,z.2.2.2.2.2.1,z.2.2.2.2.2.2.1,z.2.2.2.2.2.2.2.1,z.2.2.2.2.2.2.2.2.1)))) ⟨_,rfl,acPN_rep ha zc⟩ (by simp;omega) (by simp;omega) zx ho2).mono fun z hz=>?_
      rw[hop]
      cases hr2:procsP T g (pr++[c.x]) s2 with
      |out=>exact absurd hr2 ho2
      |err p c=>rw[hr2]at hz;rcases z with z|z|z|z<;>exact hz
      |ok l s3=>
       rw[hr2]at hz
       rcases z with z|z|z|z
       ·exact hz.elim
       ·exact absurd (show(acc++[c])++l=[]from hz) (by simp)
       ·exact hz.elim
       ·trivial
     ·exact hz.elim
end
end Go.Proofs.YtjfkkokeegpeiaaGreatDoor
/- Trees, procedures as values; what Parse returns. -/
namespace Go.Proofs.YtjfkkokeegpeiaaGreatDoor
open Go Go.Am Go.Proofs.Lx
set_option maxRecDepth 100000
def dfl:List V:=[i64 0,i64 0,st ⟨#[]⟩,.ro 4 0 (fun _=>[])]
mutual
def cellsT:Tr→List V
 | .node k n s l=>[i64 k,i64 n,st s,.ro 4 l.length (fun j=>(cellsL l).getD j dfl)]
def cellsL:List Tr→List (List V)
 | []=>[]
 |t::l=>cellsT t::cellsL l
end
def cellsP(m:Prm):List V:=[st m.x,st m.u]
def cellsC(c:Prc):List V:=st c.x:: .ro 2 c.ps.length (fun j=>(c.ps.map cellsP).getD j [st ⟨#[]⟩,st ⟨#[]⟩])::cellsT c.b
def dflC:List V:=st ⟨#[]⟩:: .ro 2 0 (fun _=>[])::dfl
def procV(l:List Prc):V:=.ro 6 l.length (fun j=>(l.map cellsC).getD j dflC)
theorem pureT(t:Tr):pureL (cellsT t)=true:=by cases t;simp[cellsT,pureL,V.pure]
theorem pureLs:∀(l:List Tr) (j:Nat),pureL ((cellsL l).getD j dfl)=true
 | [],j=>by simp[cellsL,dfl,pureL,V.pure]
 |t::l,0=>by simp only[cellsL,List.getD_cons_zero];exact pureT t
 |t::l,j+1=>by simp only[cellsL,List.getD_cons_succ];exact pureLs l j
mutual
theorem leT:∀(t:Tr) (x:NodeT),RepN t x→LeL [i64 x.1,i64 x.2.1,st x.2.2.1,.ro 4 x.2.2.2.1 x.2.2.2.2] (cellsT t)
 | .node k n s l,x,h=>by
  simp only[RepN]at h
  obtain⟨h1,h2,h3,h4,h5⟩:=h
  simp only[cellsT,h1,h2,h3,h4]
  refine LeL.cons (Le.refl _) (LeL.cons (Le.refl _) (LeL.cons (Le.refl _) (LeL.cons (Le.ro fun j hj=>⟨?_,pureLs l j⟩) LeL.nil)))
  have:=leLs l x.2.2.2.2 0 h5 j hj
  rwa [Nat.zero_add]at this
theorem leLs:∀(l:List Tr) (f:Nat→List V) (i:Nat),RepL l f i→∀j,j<l.length→LeL (f (i+j)) ((cellsL l).getD j dfl)
 | [],_,_,_,j,hj=>by simp at hj
 |t::l,f,i,h,0,_=>by
  simp only[RepL]at h
  obtain⟨⟨y,e,hy⟩,_⟩:=h
  simp only[cellsL,List.getD_cons_zero,Nat.add_zero]
  rw[e]
  exact leT t y hy
 |t::l,f,i,h,j+1,hj=>by
  simp only[RepL]at h
  have:=leLs l f (i+1) h.2 j (by simpa using hj)
  simp only[cellsL,List.getD_cons_succ]
  rwa [show i+(j+1)=i+1+j by omega]
end
theorem pureC(c:Prc):pureL (cellsC c)=true:=by
 have:=pureT c.b
 simp only[cellsC,pureL,V.pure,Bool.and_eq_true]
 exact⟨trivial,trivial,this⟩
theorem leP{l:List Prc}{a:AcP}(h:RepP l a):Le (.ro 6 a.2.2.2.2.2.2.2.2 (fun j=>[st (a.1 j),.ro 2 (a.2.1 j) (a.2.2.1 j),i64 (a.2.2.2.1 j),i64 (a.2.2.2.2.1 j),st (a.2.2.2.2.2.1 j),.ro 4 (a.2.2.2.2.2.2.1 j) (a.2.2.2.2.2.2.2.1 j)])) (procV l):=by
 unfold procV
 rw[h.1]
 refine Le.ro fun j hj=>?_
 have hj':l[j]? =some l[j]:=List.getElem?_eq_getElem hj
 obtain⟨h1,h2,h3,h4⟩:=h.2 j _ hj'
 have e:(l.map cellsC).getD j dflC=cellsC l[j]:=by
  rw[List.getD_eq_getElem?_getD,List.getElem?_map,hj'];rfl
 rw[e]
 refine⟨?_,pureC _⟩
 unfold cellsC
 rw[h1,h2]
 refine LeL.cons (Le.refl _) (LeL.cons (Le.ro_eq fun i hi=>?_) (leT _ _ h4))
 have hi':l[j].ps[i]? =some l[j].ps[i]:=List.getElem?_eq_getElem hi
 rw[h3 i _ hi',List.getD_eq_getElem?_getD,List.getElem?_map,hi']
 exact⟨rfl,rfl⟩
theorem parse_lex{q:Nat}{s:ByteArray}{z:g_TokensV}(hz:TokensV q s=some z)(he:z.2.1≠0):SC E5 8 [st s] [] (.ret (.tup [procV [],i64 z.1,i64 z.2.1]) []):=by
 have hp:ParseT q s=some (.inl (z.1,z.2.1)):=by
  unfold ParseT t_ParseT
  rw[hz]
  dsimp only[Option.bind_some]
  rw[if_pos (by simpa using he)]
 exact SC.le (sc_ParseT q s _ hp) (Le.tup (LeL.cons Le.nil_ro (LeL.cons (Le.refl _) (LeL.cons (Le.refl _) LeL.nil))))
theorem parse_run{N:Nat}{T:Nat→Tkn}(hT:TokN N T){F q:Nat}(hF:F≤1000000000)(hq:2*F+2000000100≤q){s:ByteArray}{a:Int}(hz:TokensV q s=some (a,0,tokV N T)):
 match procsP T F [] ⟨0,0,[]⟩with
 | .ok l _=>SC E5 8 [st s] [] (.ret (.tup [procV l,i64 0,i64 0]) [])
 | .err p c=>p<N∧SC E5 8 [st s] [] (.ret (.tup [procV [],i64 (T p).a,i64 c]) [])
 | .out=>True:=by
 cases hr:procsP T F [] ⟨0,0,[]⟩with
 |out=>trivial
 |err p c=>
  obtain⟨z,h1,h2⟩:=parse_loopP (N:=N) hT hF hq (a,tokV N T) rfl F (Nat.le_refl _) q (by omega) [] [] ⟨0,0,[]⟩ (x00 N T) (.inl ()) ⟨rfl,rfl,rfl,rfl,rfl⟩ (by simpa using hF) (by simpa using hF) (x00_rs hT) (by rw[hr];intro h;cases h)
  rw[hr]at h2
  have key:∃e:Int×Int,ParseP q (a,tokV N T)=some e∧p<N∧e=((T p).a,c):=by
   unfold ParseP t_ParseP
   rw[h1]
   dsimp only[Option.bind_some]
   rcases z with z|z|z|z
   ·obtain⟨g1,g2,g3⟩:=h2
    exact⟨z,rfl,g1,Prod.ext g2 g3⟩
   ·exact h2.elim
   ·obtain⟨g1,g2,g3⟩:=h2
    exact⟨(z.1,z.2.1),rfl,g1,Prod.ext g2 g3⟩
   ·exact h2.elim
  obtain⟨e,k1,k2,rfl⟩:=key
  exact⟨k2,SC.le (parse_pan q s a (tokV N T) hz _ k1) (Le.tup (LeL.cons Le.nil_ro (LeL.cons (Le.refl _) (LeL.cons (Le.refl _) LeL.nil))))⟩
 |ok l s2=>
  obtain⟨z,h1,h2⟩:=parse_loopT (N:=N) hT a 0 hF hq s F (Nat.le_refl _) q (by omega) [] [] ⟨0,0,[]⟩ (x00 N T) (.inl (a,0,tokV N T)) ⟨rfl,rfl,rfl,rfl,rfl⟩ (by simpa using hF) (by simpa using hF) (x00_rs hT) (by rw[hr];intro h;cases h)
  rw[hr]at h2
  rcases z with z|z|z|z
  ·exact h2.elim
  ·have e:l=[]:=by simpa[BPT]using h2
   subst e
   have hp:ParseT q s=some (.inl (0,0)):=by
    unfold ParseT t_ParseT
    rw[hz]
    dsimp only[Option.bind_some]
    rw[if_neg (by simp),h1]
    rfl
   exact SC.le (sc_ParseT q s _ hp) (Le.tup (LeL.cons Le.nil_ro (LeL.cons (Le.refl _) (LeL.cons (Le.refl _) LeL.nil))))
  ·exact h2.elim
  ·obtain⟨b,rfl,hb⟩:=h2
   rw[List.nil_append]at hb
   have hpt:ParseT q s=some (.inr (b.2.2.2.2.2.2.2.2,b.1,b.2.1,b.2.2.1,b.2.2.2.1,b.2.2.2.2.1,b.2.2.2.2.2.1,b.2.2.2.2.2.2.1,b.2.2.2.2.2.2.2.1)):=by
    unfold ParseT t_ParseT
    rw[hz]
    dsimp only[Option.bind_some]
    rw[if_neg (by simp),h1]
    rfl
   have h3:=SC.giveM (L2:=[]) 0 (sc_ParseT q s _ hpt) (by rfl) (by simp[V.bw,V.bw2,V.bw1,Am.hp,V.pure,pureL])
   simp only[V.bw,V.bw2,V.bw1,Am.hp,List.map_cons,List.map_nil,List.getD_eq_getElem?_getD,List.getElem?_cons_succ,List.getElem?_cons_zero,Option.getD_some,Nat.zero_add,Nat.le_refl,and_self,if_true]at h3
   exact SC.le h3 (Le.tup (LeL.cons (leP hb) (LeL.cons (Le.refl _) (LeL.cons (Le.refl _) LeL.nil))))
end Go.Proofs.YtjfkkokeegpeiaaGreatDoor
/- Same, of trees as they are handed on: are they equal? -/
namespace Go.Proofs.YtjfkkokeegpeiaaGreatDoor
open Go Go.Am Go.Proofs.Lx
set_option maxRecDepth 100000
def eT:Tr→NodeT| .node k n s l=>(k,n,s,l.length,fun j=>(cellsL l).getD j dfl)
theorem cells_eT(t:Tr):cellsT t=[i64 (eT t).1,i64 (eT t).2.1,st (eT t).2.2.1,.ro 4 (eT t).2.2.2.1 (eT t).2.2.2.2]:=by cases t;simp[cellsT,eT]
theorem cellsL_get:∀(l:List Tr) (j:Nat) (t:Tr),l[j]? =some t→(cellsL l).getD j dfl=cellsT t
 | [],j,t,h=>by simp at h
 |t::l,0,u,h=>by simp only[List.getElem?_cons_zero,Option.some.injEq]at h;subst h;simp[cellsL]
 |t::l,j+1,u,h=>by
  simp only[cellsL,List.getD_cons_succ]
  exact cellsL_get l j u (by simpa using h)
theorem cellsL_none:∀(l:List Tr) (j:Nat),l.length≤j→(cellsL l).getD j dfl=dfl
 | [],j,_=>by simp[cellsL]
 |t::l,0,h=>by simp at h
 |t::l,j+1,h=>by
  simp only[cellsL,List.getD_cons_succ]
  exact cellsL_none l j (by simpa using h)
theorem open_cells(l:List Tr):OpenN (fun j=>(cellsL l).getD j dfl):=by
 intro j
 cases h:l[j]?with
 |none=>
  have:l.length≤j:=by
   rcases Nat.lt_or_ge j l.length with hl|hl
   ·rw[List.getElem?_eq_getElem hl]at h;cases h
   ·exact hl
  unfold opK opN opS opM opF
  dsimp only
  rw[cellsL_none l j this]
  rfl
 |some t=>
  unfold opK opN opS opM opF
  dsimp only
  rw[cellsL_get l j t h,cells_eT]
  rfl
theorem op_get{l:List Tr}{j:Nat}{t:Tr}(h:l[j]? =some t):(opK (fun j=>(cellsL l).getD j dfl) j,opN (fun j=>(cellsL l).getD j dfl) j,opS (fun j=>(cellsL l).getD j dfl) j,opM (fun j=>(cellsL l).getD j dfl) j,opF (fun j=>(cellsL l).getD j dfl) j)=eT t:=by
 unfold opK opN opS opM opF
 dsimp only
 rw[cellsL_get l j t h,cells_eT]
 rfl
mutual
def szT:Tr→Nat
 | .node _ _ _ l=>1+szL l
def szL:List Tr→Nat
 | []=>0
 |t::l=>szT t+szL l+1
end
theorem szL_get:∀(l:List Tr) (j:Nat) (t:Tr),l[j]? =some t→szT t<szL l+1∧l.length≤szL l
 | [],j,t,h=>by simp at h
 |t::l,0,u,h=>by
  simp only[List.getElem?_cons_zero,Option.some.injEq]at h;subst h
  simp only[szL,List.length_cons]
  have:l.length≤szL l:=by
   clear t
   induction l with
   |nil=>simp[szL]
   |cons a l ih=>simp only[szL,List.length_cons];omega
  omega
 |t::l,j+1,u,h=>by
  have:=szL_get l j u (by simpa using h)
  simp only[szL,List.length_cons]
  omega
theorem szL_len(l:List Tr):l.length≤szL l:=by
 induction l with
 |nil=>simp[szL]
 |cons a l ih=>simp only[szL,List.length_cons];omega
theorem same_rs:∀(q:Nat) (t u:Tr),szT t<q→szL [t]≤1000000000→Rs (Same q ((eT t).1,(eT t).2.1,(eT t).2.2.1,(eT t).2.2.2.1,(eT t).2.2.2.2,eT u)) (fun b=>b=true↔t=u):=by
 intro q
 induction q with
 |zero=>intro t u h;omega
 |succ q ih=>
  intro t u hq hb
  obtain⟨k,n,s,l⟩:=t
  obtain⟨k',n',s',l'⟩:=u
  unfold Same
  dsimp only[eT]
  refine Rs.pos ⟨open_cells l,open_cells l'⟩ ?_
  unfold t_SameN
  dsimp only
  by_cases h1:k=k'
  ·refine Rs.neg (by simp[h1]) ?_
   by_cases h2:n=n'
   ·refine Rs.neg (by simp[h2]) ?_
    by_cases h3:s=s'
    ·refine Rs.neg (by rw[tl_dec];simp[h3]) ?_
     by_cases h4:l.length=l'.length
     ·refine Rs.neg (by simp[h4]) ?_
      subst h1 h2 h3
      simp only[szT]at hq
      simp only[szL,szT]at hb
      have hlen:=szL_len l
      unfold SameN_l0
      have key:∀(m i:Nat),l.length-i<m→i≤l.length→(∀j,j<i→l[j]? =l'[j]?)→Rs (lpG (fun y=>SameN_l0_t (Same q) (k,n,s,l.length,opK (fun j=>(cellsL l).getD j dfl),opN (fun j=>(cellsL l).getD j dfl),opS (fun j=>(cellsL l).getD j dfl),opM (fun j=>(cellsL l).getD j dfl),opF (fun j=>(cellsL l).getD j dfl),k,n,s,l'.length,opK (fun j=>(cellsL l').getD j dfl),opN (fun j=>(cellsL l').getD j dfl),opS (fun j=>(cellsL l').getD j dfl),opM (fun j=>(cellsL l').getD j dfl),opF (fun j=>(cellsL l').getD j dfl)) y (fun y=>some (.inl y)) (fun z=>some (.inr z))) m ((i:Nat):Int)) (fun z=>(z= .inr ()∧l=l')∨(z= .inl ()∧l≠l')):=by
       intro m
       induction m with
       |zero=>intro i h;omega
       |succ m ihm=>
        intro i hm hi hno
        refine Rs.step3 fun Q hQ=>?_
        unfold SameN_l0_t
        dsimp only
        by_cases hil:i<l.length
        ·refine Rs.pos (decide_eq_true (show((i:Nat):Int)< ((l.length:Nat):Int)by omega)) (Rs.pos (show(0:Int)≤((i:Nat):Int)∧((i:Nat):Int)< ((l.length:Nat):Int)by omega) (Rs.pos (show(0:Int)≤((i:Nat):Int)∧((i:Nat):Int)< ((l'.length:Nat):Int)by omega) ?_))
         rw[Int.toNat_natCast]
         have e1:l[i]? =some l[i]:=List.getElem?_eq_getElem hil
         have hil':i<l'.length:=by omega
         have e2:l'[i]? =some l'[i]:=List.getElem?_eq_getElem hil'
         have hsz:=(szL_get l i _ e1).1
         have:=ih l[i] l'[i] (by omega) (by simp only[szL];omega)
         have e3:((eT l[i]).1,(eT l[i]).2.1,(eT l[i]).2.2.1,(eT l[i]).2.2.2.1,(eT l[i]).2.2.2.2,eT l'[i])=(opK (fun j=>(cellsL l).getD j dfl) i,opN (fun j=>(cellsL l).getD j dfl) i,opS (fun j=>(cellsL l).getD j dfl) i,opM (fun j=>(cellsL l).getD j dfl) i,opF (fun j=>(cellsL l).getD j dfl) i,opK (fun j=>(cellsL l').getD j dfl) i,opN (fun j=>(cellsL l').getD j dfl) i,opS (fun j=>(cellsL l').getD j dfl) i,opM (fun j=>(cellsL l').getD j dfl) i,opF (fun j=>(cellsL l').getD j dfl) i):=by
          rw[←op_get e1,←op_get e2]
         rw[e3]at this
         refine Rs.bind this fun b hb2=>?_
         cases b with
         |false=>
          refine Rs.pos rfl (Rs.some (.inr ⟨rfl,fun h=>?_⟩))
          have:l[i]=l'[i]:=by
           have e4:l[i]? =l'[i]? :=by rw[h]
           rw[e1,e2]at e4
           exact Option.some.inj e4
          exact absurd (hb2.2 this) (by decide)
         |true=>
          refine Rs.neg (by decide) (Rs.some (hQ _ ?_))
          rw[w_succ (by omega)]
          refine ihm (i+1) (by omega) hil fun j hj=>?_
          by_cases hji:j=i
          ·subst hji
           rw[e1,e2,hb2.1 rfl]
          ·exact hno j (by omega)
        ·refine Rs.neg (fun h=>hil (Int.ofNat_lt.1 (of_decide_eq_true h))) (Rs.some (.inl ⟨rfl,?_⟩))
         apply List.ext_getElem?
         intro j
         by_cases hj:j<i
         ·exact hno j hj
         ·have a1:l[j]? =none:=List.getElem?_eq_none (by omega)
          have a2:l'[j]? =none:=List.getElem?_eq_none (by omega)
          rw[a1,a2]
      refine Rs.bind (key q 0 (by omega) (Nat.zero_le _) (fun j hj=>absurd hj (Nat.not_lt_zero j))) fun z hz=>?_
      rcases hz with⟨rfl,e⟩ | ⟨rfl,e⟩
      ·exact Rs.some ⟨fun _=>(by rw[e]),fun _=>rfl⟩
      ·exact Rs.some ⟨fun h=>(by cases h),fun h=>absurd (by injection h) e⟩
     ·refine Rs.pos (by simp;omega) (Rs.some ⟨fun h=>(by cases h),fun h=>absurd (by injection h with _ _ _ h;rw[h]) h4⟩)
    ·refine Rs.pos (by rw[tl_dec];simp[h3]) (Rs.some ⟨fun h=>(by cases h),fun h=>absurd (by injection h) h3⟩)
   ·refine Rs.pos (by simp[h2]) (Rs.some ⟨fun h=>(by cases h),fun h=>absurd (by injection h) h2⟩)
  ·refine Rs.pos (by simp[h1]) (Rs.some ⟨fun h=>(by cases h),fun h=>absurd (by injection h) h1⟩)
end Go.Proofs.YtjfkkokeegpeiaaGreatDoor
/- The text of an expression. -/
namespace Go.Proofs.YtjfkkokeegpeiaaGreatDoor
open Go Go.Am Go.Proofs.Lx
set_option maxRecDepth 100000
def itS(n:Int):ByteArray:=⟨(Lib.itoa n).toArray⟩
def decL(u:Nat):List UInt8:=if u=0 then[]else Lib.decDigits u
theorem decL_step{u:Nat}(h:u≠0):decL u=decL (u/10)++[UInt8.ofNat (48+u%10)]:=by
 unfold decL
 rw[if_neg h,Lib.decDigits]
 split
 ·rename_i h10
  rw[if_pos (show u/10=0 by omega),show u%10=u by omega];rfl
 ·rename_i h10
  rw[if_neg (show¬u/10=0 by omega)]
abbrev dgs:ByteArray:=⟨#[48,49,50,51,52,53,54,55,56,57]⟩
theorem ext_d:∀d,d<10→dgs.extract d (d+1)=⟨#[UInt8.ofNat (48+d)]⟩:=by decide
theorem dec_loop(x0:a_Decimal):∀(q u:Nat) (a:ByteArray),u<10^q→u<4000000000→a.size≤100-q→q≤100→Rs (Decimal_l0 (q+1) x0 (a,(u:Int))) (fun z=>z.data.toList=decL u++a.data.toList)
 |q,u,a,hu,hb,ha,hq=>by
  refine Rs.step ?_
  unfold Decimal_l0_t
  dsimp only
  by_cases h0:u=0
  ·subst h0
   exact Rs.neg (by decide) (Rs.some rfl)
  ·have hq0:q≠0:=by rintro rfl;simp at hu;omega
   obtain⟨q',rfl⟩:∃q',q=q'+1:=⟨q-1,by omega⟩
   have e1:Int.tmod (u:Int) 10=((u%10:Nat):Int):=rfl
   have e2:Int.tdiv (u:Int) 10=((u/10:Nat):Int):=rfl
   have hd:u%10<10:=Nat.mod_lt _ (by decide)
   have e3:w (((u%10:Nat):Int)+1)=((u%10+1:Nat):Int):=w_succ (by omega)
   have e4:w (((u/10:Nat):Int))=((u/10:Nat):Int):=w_in (by omega) (by omega)
   refine Rs.pos (by simpa using h0) ?_
   rw[e1,e2,e3,e4,Int.toNat_natCast,Int.toNat_natCast,ext_d _ hd]
   refine Rs.neg (by rw[decide_eq_true_eq];omega) (Rs.pos (by omega) (Rs.pos ?_ (Rs.some ?_)))
   ·show 1+a.size≤maxLen
    unfold maxLen;omega
   ·refine(dec_loop x0 q' (u/10) _ (by rw[Nat.pow_succ]at hu;omega) (by omega) (by rw[ByteArray.size_append];show 1+a.size≤_;omega) (by omega)).mono fun z hz=>?_
    rw[hz,decL_step h0]
    simp[ByteArray.data_append]
theorem decimal_rs{n:Int}(h0:0≤n)(h1:n<4000000000):Rs (Decimal 12 n) (fun z=>z=itS n):=by
 obtain⟨u,rfl⟩:∃u:Nat,n=(u:Int):=⟨n.toNat,by omega⟩
 unfold Decimal t_Decimal
 by_cases hu:u=0
 ·subst hu
  exact Rs.pos rfl (Rs.some (by unfold itS Lib.itoa;rw[if_neg (by decide),Lib.decDigits,dif_pos (by decide)];rfl))
 ·refine Rs.neg (by simpa using hu) (Rs.bind (dec_loop (u:Int) 11 u ⟨#[]⟩ (Nat.lt_trans (show u<4000000000 by omega) (by decide)) (by omega) (by decide) (by decide)) fun z hz=>Rs.neg (fun h=>absurd (of_decide_eq_true h) (show¬((u:Nat):Int)<0 by omega)) (Rs.some ?_))
  apply ByteArray.ext
  apply Array.ext'
  rw[hz]
  unfold itS Lib.itoa decL
  rw[if_neg hu,if_neg (by omega)]
  simp
theorem itS_size{n:Int}(h0:0≤n)(h1:n<4000000000):(itS n).size≤10:=by
 have key:∀(k u:Nat),u<10^(k+1)→(Lib.decDigits u).length≤k+1:=by
  intro k
  induction k with
  |zero=>intro u h;rw[Lib.decDigits,dif_pos (by simpa using h)];simp
  |succ k ih=>
   intro u h
   rw[Lib.decDigits]
   split
   ·simp
   ·rw[List.length_append]
    have:=ih (u/10) (by rw[Nat.pow_succ]at h;omega)
    simp only[List.length_cons,List.length_nil];omega
 unfold itS Lib.itoa
 show(Array.size _)≤10
 rw[List.size_toArray,if_neg (by omega)]
 exact key 9 n.toNat (Nat.lt_trans (show n.toNat<4000000000 by omega) (by decide))
def lvT:Tr→Nat
 | .node k _ s _=>if k=20 then levP s else if k=19 then(if s=sNot then 3 else 7)else 8
def par(lv:Nat)(t:Tr)(x:ByteArray):ByteArray:=if lvT t<lv then⟨#[40]⟩++x++⟨#[41]⟩else x
def opsL:List ByteArray:=[sOr,sAnd,sLt,sLe,sGt,sGe,sEq,sNe,sAdd,sSub,sMul,sDiv]
inductive Txt:Tr→ByteArray→Prop
 |int (n:Int) (s:ByteArray):0≤n→n≤2147483647→s.size≤12→Txt (.node 15 n s []) (if s=⟨#[]⟩then itS n else itS n++⟨#[32]⟩++s)
 |bool (n:Int) (s:ByteArray):Txt (.node 16 n s []) (if n=1 then w_true else w_false)
 |var (n:Int) (s:ByteArray):s.size≤12→Txt (.node 17 n s []) s
 |tlm (n:Int) (s:ByteArray):s.size≤12→Txt (.node 18 n s []) (⟨#[116,108,109,46]⟩++s)
 |un (n:Int) (s:ByteArray) (a:Tr) (x:ByteArray):s=sNot∨s=sSub→Txt a x→Txt (.node 19 n s [a]) (s++par (lvT (.node 19 n s [a])) a x)
 |bin (n:Int) (s:ByteArray) (a b:Tr) (x y:ByteArray):s∈opsL→Txt a x→Txt b y→Txt (.node 20 n s [a,b]) (par (if levP s=4 then 5 else levP s) a x++⟨#[32]⟩++s++⟨#[32]⟩++par (levP s+1) b y)
theorem par_size(lv:Nat)(t:Tr)(x:ByteArray):(par lv t x).size≤x.size+2:=by
 unfold par
 split
 ·rw[ByteArray.size_append,ByteArray.size_append]
  show 1+x.size+1≤x.size+2
  omega
 ·omega
theorem ops_size:∀s∈opsL,s.size≤2∧(levP s=1∨levP s=2∨levP s=4∨levP s=5∨levP s=6):=by decide
theorem txt_size{t:Tr}{x:ByteArray}(h:Txt t x):x.size≤30*szT t:=by
 induction h with
 |int n s h0 h1 hs=>
  have:=itS_size h0 (by omega)
  simp only[szT,szL]
  split
  ·omega
  ·rw[ByteArray.size_append,ByteArray.size_append]
   show _+1+_≤_
   omega
 |bool n s=>simp only[szT,szL];split<;>decide
 |var n s hs=>simp only[szT,szL];omega
 |tlm n s hs=>
  simp only[szT,szL]
  rw[ByteArray.size_append]
  show 4+_≤_
  omega
 |un n s a x hs _ ih=>
  simp only[szT,szL]
  rw[ByteArray.size_append]
  have:=par_size (lvT (.node 19 n s [a])) a x
  have:s.size≤1:=by rcases hs with rfl|rfl<;>decide
  omega
 |bin n s a b x y hs _ _ ih1 ih2=>
  simp only[szT,szL]
  have h1:=par_size (if levP s=4 then 5 else levP s) a x
  have h2:=par_size (levP s+1) b y
  have h3:=(ops_size s hs).1
  rw[ByteArray.size_append,ByteArray.size_append,ByteArray.size_append,ByteArray.size_append]
  show _+1+_+1+_≤_
  omega
theorem level_rs(q:Nat)(t:Tr):level q (eT t)=some ((lvT t:Nat):Int):=by
 obtain⟨k,n,s,l⟩:=t
 unfold level t_level lvT eT
 dsimp only
 rw[levelOf_eq]
 by_cases h20:k=20
 ·subst h20;rfl
 ·rw[if_neg (show¬(k==(20:Int))=true by simpa using h20),if_neg h20]
  by_cases h19:k=19
  ·subst h19
   simp only[beq_self_eq_true,if_true]
   by_cases hs:s=sNot
   ·subst hs;simp[tl_dec]
   ·rw[if_neg (by rw[tl_eq];exact hs),if_neg hs];rfl
  ·rw[if_neg (show¬(k==(19:Int))=true by simpa using h19),if_neg (show¬(k==(19:Int))=true by simpa using h19),if_neg h19];rfl
theorem rlevel_op(q:Nat)(n:Int)(m:Nat)(f:FL):∀s∈opsL,RLevel q (20,n,s,m,f)=some ((levP s:Nat):Int):=by
 intro s hs
 simp only[opsL,List.mem_cons,List.not_mem_nil,or_false]at hs
 unfold RLevel t_RLevel
 rcases hs with rfl|rfl|rfl|rfl|rfl|rfl|rfl|rfl|rfl|rfl|rfl|rfl<;>(simp only[tl_dec];rfl)
theorem rlevel_rs(q:Nat){t:Tr}{x:ByteArray}(h:Txt t x):RLevel q (eT t)=some ((lvT t:Nat):Int):=by
 cases h with
 |int n s=>unfold RLevel t_RLevel lvT eT;rfl
 |bool n s=>unfold RLevel t_RLevel lvT eT;rfl
 |var n s=>unfold RLevel t_RLevel lvT eT;rfl
 |tlm n s=>unfold RLevel t_RLevel lvT eT;rfl
 |un n s a x hs _=>
  unfold RLevel t_RLevel lvT eT
  rcases hs with rfl|rfl<;>(simp only[tl_dec];rfl)
 |bin n s a b x y hs _ _=>exact rlevel_op q n _ _ s hs
end Go.Proofs.YtjfkkokeegpeiaaGreatDoor
/- Expr answers the text of a tree; so does the specification's. -/
namespace Go.Proofs.YtjfkkokeegpeiaaGreatDoor
open Go Go.Am Go.Proofs.Lx
set_option maxRecDepth 100000
theorem operand_rs{q:Nat}{t:Tr}{x:ByteArray}(ht:Txt t x)(hx:x.size≤100000000)(h:Rs (Expr q (eT t)) (fun z=>z=x))(lv:Nat):
 Rs (operand (q+1) ((eT t).1,(eT t).2.1,(eT t).2.2.1,(eT t).2.2.2.1,(eT t).2.2.2.2,(lv:Int))) (fun z=>z=par lv t x):=by
 show Rs (t_operandR (level q) ((exE q).1) _ some) _
 unfold t_operandR
 refine Rs.bind (Rs.of (show level q (eT t)=some ((lvT t:Nat):Int)from level_rs q t)) fun z e=>?_
 subst e
 refine Rs.ite (fun hl=>?_) fun hl=>?_
 ·have hl:lvT t<lv:=by have:=of_decide_eq_true hl;exact Int.ofNat_lt.1 this
  refine Rs.bind h fun z e=>?_
  subst e
  refine Rs.pos (by unfold maxLen;omega) (Rs.pos ?_ (Rs.some ?_))
  ·rw[ByteArray.size_append]
   show 1+z.size+1≤maxLen
   unfold maxLen;omega
  ·unfold par;rw[if_pos hl]
 ·have hl:¬lvT t<lv:=fun h=>hl (decide_eq_true (Int.ofNat_lt.2 h))
  refine Rs.bind h fun z e=>Rs.some ?_
  subst e
  unfold par;rw[if_neg hl]
theorem expr_rs{t:Tr}{x:ByteArray}(h:Txt t x):szT t≤1000000→∀q,2*szT t+20≤q→Rs (Expr q (eT t)) (fun z=>z=x):=by
 induction h with
 |int n s h0 h1 hs=>
  intro hsz q hq
  obtain⟨q,rfl⟩:∃q',q=q'+1:=⟨q-1,by omega⟩
  have h:Txt (.node 15 n s []) _:=.int n s h0 h1 hs
  have hi:=itS_size h0 (by omega)
  refine Rs.pos (open_cells []) ?_
  unfold t_ExprN
  dsimp only[eT]
  rw[open_eq (open_cells [])]
  refine Rs.bind (Rs.of (show level q (eT (.node 15 n s []))=some _ from level_rs q _)) fun z e=>?_
  clear e
  have hd:Rs (Itoa q n) (fun z=>z=itS n):=by
   unfold Itoa;exact Rs.pos ⟨show(-9223372036854775808:Int)≤n by omega,show n≤(9223372036854775807:Int)by omega⟩ (Rs.some rfl)
  refine Rs.pos rfl ?_
  by_cases hs0:s=⟨#[]⟩
  ·subst hs0
   rw[if_pos rfl]
   refine Rs.pos (beq_self_eq_true _) (Rs.bind hd fun z e=>Rs.some e)
  ·rw[if_neg hs0]
   refine Rs.neg (by rw[tl_eq];exact hs0) (Rs.bind hd fun z e=>?_)
   subst e
   refine Rs.pos (by unfold maxLen;omega) (Rs.pos ?_ (Rs.some rfl))
   rw[ByteArray.size_append]
   show _+1+s.size≤maxLen
   unfold maxLen;omega
 |bool n s=>
  intro hsz q hq
  obtain⟨q,rfl⟩:∃q',q=q'+1:=⟨q-1,by omega⟩
  have h:Txt (.node 16 n s []) _:=.bool n s
  refine Rs.pos (open_cells []) ?_
  unfold t_ExprN
  dsimp only[eT]
  rw[open_eq (open_cells [])]
  refine Rs.bind (Rs.of (show level q (eT (.node 16 n s []))=some _ from level_rs q _)) fun z e=>?_
  refine Rs.neg (show¬((16:Int)==15)=true by decide) (Rs.pos rfl ?_)
  by_cases hn:n=1
  ·exact Rs.pos (by simpa using hn) (Rs.some (by rw[if_pos hn]))
  ·exact Rs.neg (by simpa using hn) (Rs.some (by rw[if_neg hn]))
 |var n s hs=>
  intro hsz q hq
  obtain⟨q,rfl⟩:∃q',q=q'+1:=⟨q-1,by omega⟩
  have h:Txt (.node 17 n s []) _:=.var n s hs
  refine Rs.pos (open_cells []) ?_
  unfold t_ExprN
  dsimp only[eT]
  rw[open_eq (open_cells [])]
  refine Rs.bind (Rs.of (show level q (eT (.node 17 n s []))=some _ from level_rs q _)) fun z e=>?_
  exact Rs.neg (show¬((17:Int)==15)=true by decide) (Rs.neg (show¬((17:Int)==16)=true by decide) (Rs.pos rfl (Rs.some rfl)))
 |tlm n s hs=>
  intro hsz q hq
  obtain⟨q,rfl⟩:∃q',q=q'+1:=⟨q-1,by omega⟩
  have h:Txt (.node 18 n s []) _:=.tlm n s hs
  refine Rs.pos (open_cells []) ?_
  unfold t_ExprN
  dsimp only[eT]
  rw[open_eq (open_cells [])]
  refine Rs.bind (Rs.of (show level q (eT (.node 18 n s []))=some _ from level_rs q _)) fun z e=>?_
  exact Rs.neg (show¬((18:Int)==15)=true by decide) (Rs.neg (show¬((18:Int)==16)=true by decide) (Rs.neg (show¬((18:Int)==17)=true by decide) (Rs.pos rfl (Rs.pos (show 4+s.size≤maxLen by unfold maxLen;omega) (Rs.some rfl)))))
 |un n s a x hs ha ih=>
  intro hsz q hq
  simp only[szT,szL]at hsz hq
  obtain⟨q,rfl⟩:∃q',q=q'+1+1:=⟨q-2,by omega⟩
  have h:Txt (.node 19 n s [a]) _:=.un n s a x hs ha
  have hx:=txt_size ha
  have hp:=par_size (lvT (.node 19 n s [a])) a x
  have hss:s.size≤1:=by rcases hs with rfl|rfl<;>decide
  refine Rs.pos (open_cells [a]) ?_
  unfold t_ExprN
  dsimp only[eT]
  rw[open_eq (open_cells [a])]
  refine Rs.bind (Rs.of (show level (q+1) (eT (.node 19 n s [a]))=some _ from level_rs (q+1) _)) fun z e=>?_
  subst e
  refine Rs.neg (show¬((19:Int)==15)=true by decide) (Rs.neg (show¬((19:Int)==16)=true by decide) (Rs.neg (show¬((19:Int)==17)=true by decide) (Rs.neg (show¬((19:Int)==18)=true by decide) (Rs.pos rfl (Rs.pos ⟨Int.le_refl 0,show(0:Int)< (([a]:List Tr).length:Int)by simp⟩ ?_)))))
  have ho:=operand_rs ha (by omega) (ih (by omega) q (by omega)) (lvT (.node 19 n s [a]))
  have e1:=op_get (l:=[a]) (j:=0) rfl
  rw[←e1]at ho
  refine Rs.bind ho fun z e=>?_
  subst e
  exact Rs.pos (show s.size+_≤maxLen by unfold maxLen;omega) (Rs.some rfl)
 |bin n s a b x y hs ha hb ih1 ih2=>
  intro hsz q hq
  simp only[szT,szL]at hsz hq
  obtain⟨q,rfl⟩:∃q',q=q'+1+1:=⟨q-2,by omega⟩
  have h:Txt (.node 20 n s [a,b]) _:=.bin n s a b x y hs ha hb
  have hx:=txt_size ha
  have hy:=txt_size hb
  obtain⟨hss,hlv⟩:=ops_size s hs
  have hlvt:lvT (.node 20 n s [a,b])=levP s:=rfl
  refine Rs.pos (open_cells [a,b]) ?_
  unfold t_ExprN
  dsimp only[eT]
  rw[open_eq (open_cells [a,b])]
  refine Rs.bind (Rs.of (show level (q+1) (eT (.node 20 n s [a,b]))=some _ from level_rs (q+1) _)) fun z e=>?_
  subst e
  rw[hlvt]
  refine Rs.neg (show¬((20:Int)==15)=true by decide) (Rs.neg (show¬((20:Int)==16)=true by decide) (Rs.neg (show¬((20:Int)==17)=true by decide) (Rs.neg (show¬((20:Int)==18)=true by decide) (Rs.neg (show¬((20:Int)==19)=true by decide) ?_))))
  have b0:(0:Int)≤0∧(0:Int)< (([a,b]:List Tr).length:Int):=⟨Int.le_refl 0,by simp⟩
  have b1:(0:Int)≤1∧(1:Int)< (([a,b]:List Tr).length:Int):=⟨by decide,by simp⟩
  have e1:=op_get (l:=[a,b]) (j:=0) rfl
  have e2:=op_get (l:=[a,b]) (j:=1) rfl
  have ho2:=operand_rs hb (by omega) (ih2 (by omega) q (by omega)) (levP s+1)
  rw[←e2]at ho2
  have hw:w (((levP s:Nat):Int)+1)=((levP s+1:Nat):Int):=w_succ (by omega)
  have fin:∀lv,Rs (operand (q+1) ((opK (fun j=>(cellsL [a,b]).getD j dfl) 0),(opN (fun j=>(cellsL [a,b]).getD j dfl) 0),(opS (fun j=>(cellsL [a,b]).getD j dfl) 0),(opM (fun j=>(cellsL [a,b]).getD j dfl) 0),(opF (fun j=>(cellsL [a,b]).getD j dfl) 0),((lv:Nat):Int))) (fun z=>z=par lv a x):=by
   intro lv
   have ho:=operand_rs ha (by omega) (ih1 (by omega) q (by omega)) lv
   rw[←e1]at ho
   exact ho
  have szs:∀lv,(par lv a x).size+1≤maxLen∧(par lv a x++(⟨#[32]⟩:ByteArray)).size+s.size≤maxLen∧(par lv a x++(⟨#[32]⟩:ByteArray)++s).size+1≤maxLen∧(par lv a x++(⟨#[32]⟩:ByteArray)++s++(⟨#[32]⟩:ByteArray)).size+(par (levP s+1) b y).size≤maxLen:=by
   intro lv
   have p1:=par_size lv a x
   have p2:=par_size (levP s+1) b y
   have c1:(par lv a x++(⟨#[32]⟩:ByteArray)).size=(par lv a x).size+1:=by rw[ByteArray.size_append];rfl
   have c2:(par lv a x++(⟨#[32]⟩:ByteArray)++s).size=(par lv a x).size+1+s.size:=by rw[ByteArray.size_append,c1]
   have c3:(par lv a x++(⟨#[32]⟩:ByteArray)++s++(⟨#[32]⟩:ByteArray)).size=(par lv a x).size+1+s.size+1:=by rw[ByteArray.size_append,c2];rfl
   rw[c1,c2,c3]
   unfold maxLen
   exact⟨by omega,by omega,by omega,by omega⟩
  by_cases h4:levP s=4
  ·obtain⟨s1,s2,s3,s4⟩:=szs 5
   refine Rs.pos (by rw[h4];rfl) (Rs.pos b0 (Rs.bind (fin 5) fun z e=>?_))
   subst e
   refine Rs.pos s1 (Rs.pos s2 (Rs.pos s3 (Rs.pos b1 ?_)))
   rw[hw]
   refine Rs.bind ho2 fun z e=>?_
   subst e
   refine Rs.pos s4 (Rs.some ?_)
   rw[if_pos h4]
  ·obtain⟨s1,s2,s3,s4⟩:=szs (levP s)
   refine Rs.neg (show¬(((levP s:Nat):Int)==(4:Int))=true from fun h=>h4 (by have:=eq_of_beq h;omega)) (Rs.pos b0 (Rs.bind (fin (levP s)) fun z e=>?_))
   subst e
   refine Rs.pos s1 (Rs.pos s2 (Rs.pos s3 (Rs.pos b1 ?_)))
   rw[hw]
   refine Rs.bind ho2 fun z e=>?_
   subst e
   refine Rs.pos s4 (Rs.some ?_)
   rw[if_neg h4]
theorem decimal_more{n:Int}(h0:0≤n)(h1:n<4000000000){q:Nat}(hq:12≤q):Rs (Decimal q n) (fun z=>z=itS n):=by
 obtain⟨u,rfl⟩:∃u:Nat,n=(u:Int):=⟨n.toNat,by omega⟩
 obtain⟨z,hz,e⟩:=decimal_rs h0 h1
 refine⟨z,?_,e⟩
 unfold Decimal t_Decimal at hz⊢
 skip
 split
 ·rename_i h
  rw[if_pos h]at hz
  exact hz
 ·rename_i h
  rw[if_neg h]at hz
  cases hl:Decimal_l0 12 (u:Int) (⟨#[]⟩,(u:Int))with
  |none=>rw[hl]at hz;cases hz
  |some y=>
   rw[hl]at hz
   rw[show Decimal_l0 q (u:Int) (⟨#[]⟩,(u:Int))=some y from lpG_mono (fun x r h=>h) hq hl]
   exact hz
theorem ROperand_rs{q:Nat}{t:Tr}{x:ByteArray}(ht:Txt t x)(hx:x.size≤100000000)(h:Rs (RExpr q (eT t)) (fun z=>z=x))(lv:Nat):
 Rs (ROperand (q+1) ((eT t).1,(eT t).2.1,(eT t).2.2.1,(eT t).2.2.2.1,(eT t).2.2.2.2,(lv:Int))) (fun z=>z=par lv t x):=by
 show Rs (t_ROperandR (RLevel q) ((rexE q).1) _ some) _
 unfold t_ROperandR
 refine Rs.bind (Rs.of (show RLevel q (eT t)=some ((lvT t:Nat):Int)from rlevel_rs q ht)) fun z e=>?_
 subst e
 refine Rs.ite (fun hl=>?_) fun hl=>?_
 ·have hl:lvT t<lv:=by have:=of_decide_eq_true hl;exact Int.ofNat_lt.1 this
  refine Rs.bind h fun z e=>?_
  subst e
  refine Rs.pos (by unfold maxLen;omega) (Rs.pos ?_ (Rs.some ?_))
  ·rw[ByteArray.size_append]
   show 1+z.size+1≤maxLen
   unfold maxLen;omega
  ·unfold par;rw[if_pos hl]
 ·have hl:¬lvT t<lv:=fun h=>hl (decide_eq_true (Int.ofNat_lt.2 h))
  refine Rs.bind h fun z e=>Rs.some ?_
  subst e
  unfold par;rw[if_neg hl]
theorem rexpr_rs{t:Tr}{x:ByteArray}(h:Txt t x):szT t≤1000000→∀q,2*szT t+20≤q→Rs (RExpr q (eT t)) (fun z=>z=x):=by
 induction h with
 |int n s h0 h1 hs=>
  intro hsz q hq
  obtain⟨q,rfl⟩:∃q',q=q'+1:=⟨q-1,by omega⟩
  have h:Txt (.node 15 n s []) _:=.int n s h0 h1 hs
  have hi:=itS_size h0 (by omega)
  refine Rs.pos (open_cells []) ?_
  unfold t_RExprN
  dsimp only[eT]
  rw[open_eq (open_cells [])]
  refine Rs.bind (Rs.of (show RLevel q (eT (.node 15 n s []))=some _ from rlevel_rs q h)) fun z e=>?_
  clear e
  have hd:Rs (Decimal q n) (fun z=>z=itS n):=by
   exact decimal_more h0 (by omega) (by omega)
  refine Rs.pos rfl ?_
  by_cases hs0:s=⟨#[]⟩
  ·subst hs0
   rw[if_pos rfl]
   refine Rs.neg (by rw[beq_self_eq_true];decide) (Rs.bind hd fun z e=>Rs.some e)
  ·rw[if_neg hs0]
   refine Rs.pos (by rw[tl_dec,decide_eq_false hs0];rfl) (Rs.bind hd fun z e=>?_)
   subst e
   refine Rs.pos (by unfold maxLen;omega) (Rs.pos ?_ (Rs.some rfl))
   rw[ByteArray.size_append]
   show _+1+s.size≤maxLen
   unfold maxLen;omega
 |bool n s=>
  intro hsz q hq
  obtain⟨q,rfl⟩:∃q',q=q'+1:=⟨q-1,by omega⟩
  have h:Txt (.node 16 n s []) _:=.bool n s
  refine Rs.pos (open_cells []) ?_
  unfold t_RExprN
  dsimp only[eT]
  rw[open_eq (open_cells [])]
  refine Rs.bind (Rs.of (show RLevel q (eT (.node 16 n s []))=some _ from rlevel_rs q h)) fun z e=>?_
  refine Rs.neg (show¬((16:Int)==15)=true by decide) (Rs.pos rfl ?_)
  by_cases hn:n=1
  ·exact Rs.pos (by simpa using hn) (Rs.some (by rw[if_pos hn]))
  ·exact Rs.neg (by simpa using hn) (Rs.some (by rw[if_neg hn]))
 |var n s hs=>
  intro hsz q hq
  obtain⟨q,rfl⟩:∃q',q=q'+1:=⟨q-1,by omega⟩
  have h:Txt (.node 17 n s []) _:=.var n s hs
  refine Rs.pos (open_cells []) ?_
  unfold t_RExprN
  dsimp only[eT]
  rw[open_eq (open_cells [])]
  refine Rs.bind (Rs.of (show RLevel q (eT (.node 17 n s []))=some _ from rlevel_rs q h)) fun z e=>?_
  exact Rs.neg (show¬((17:Int)==15)=true by decide) (Rs.neg (show¬((17:Int)==16)=true by decide) (Rs.pos rfl (Rs.some rfl)))
 |tlm n s hs=>
  intro hsz q hq
  obtain⟨q,rfl⟩:∃q',q=q'+1:=⟨q-1,by omega⟩
  have h:Txt (.node 18 n s []) _:=.tlm n s hs
  refine Rs.pos (open_cells []) ?_
  unfold t_RExprN
  dsimp only[eT]
  rw[open_eq (open_cells [])]
  refine Rs.bind (Rs.of (show RLevel q (eT (.node 18 n s []))=some _ from rlevel_rs q h)) fun z e=>?_
  exact Rs.neg (show¬((18:Int)==15)=true by decide) (Rs.neg (show¬((18:Int)==16)=true by decide) (Rs.neg (show¬((18:Int)==17)=true by decide) (Rs.pos rfl (Rs.pos (show 4+s.size≤maxLen by unfold maxLen;omega) (Rs.some rfl)))))
 |un n s a x hs ha ih=>
  intro hsz q hq
  simp only[szT,szL]at hsz hq
  obtain⟨q,rfl⟩:∃q',q=q'+1+1:=⟨q-2,by omega⟩
  have h:Txt (.node 19 n s [a]) _:=.un n s a x hs ha
  have hx:=txt_size ha
  have hp:=par_size (lvT (.node 19 n s [a])) a x
  have hss:s.size≤1:=by rcases hs with rfl|rfl<;>decide
  refine Rs.pos (open_cells [a]) ?_
  unfold t_RExprN
  dsimp only[eT]
  rw[open_eq (open_cells [a])]
  refine Rs.bind (Rs.of (show RLevel (q+1) (eT (.node 19 n s [a]))=some _ from rlevel_rs (q+1) h)) fun z e=>?_
  subst e
  refine Rs.neg (show¬((19:Int)==15)=true by decide) (Rs.neg (show¬((19:Int)==16)=true by decide) (Rs.neg (show¬((19:Int)==17)=true by decide) (Rs.neg (show¬((19:Int)==18)=true by decide) (Rs.pos rfl (Rs.pos ⟨Int.le_refl 0,show(0:Int)< (([a]:List Tr).length:Int)by simp⟩ ?_)))))
  have ho:=ROperand_rs ha (by omega) (ih (by omega) q (by omega)) (lvT (.node 19 n s [a]))
  have e1:=op_get (l:=[a]) (j:=0) rfl
  rw[←e1]at ho
  refine Rs.bind ho fun z e=>?_
  subst e
  exact Rs.pos (show s.size+_≤maxLen by unfold maxLen;omega) (Rs.some rfl)
 |bin n s a b x y hs ha hb ih1 ih2=>
  intro hsz q hq
  simp only[szT,szL]at hsz hq
  obtain⟨q,rfl⟩:∃q',q=q'+1+1:=⟨q-2,by omega⟩
  have h:Txt (.node 20 n s [a,b]) _:=.bin n s a b x y hs ha hb
  have hx:=txt_size ha
  have hy:=txt_size hb
  obtain⟨hss,hlv⟩:=ops_size s hs
  have hlvt:lvT (.node 20 n s [a,b])=levP s:=rfl
  refine Rs.pos (open_cells [a,b]) ?_
  unfold t_RExprN
  dsimp only[eT]
  rw[open_eq (open_cells [a,b])]
  refine Rs.bind (Rs.of (show RLevel (q+1) (eT (.node 20 n s [a,b]))=some _ from rlevel_rs (q+1) h)) fun z e=>?_
  subst e
  rw[hlvt]
  refine Rs.neg (show¬((20:Int)==15)=true by decide) (Rs.neg (show¬((20:Int)==16)=true by decide) (Rs.neg (show¬((20:Int)==17)=true by decide) (Rs.neg (show¬((20:Int)==18)=true by decide) (Rs.neg (show¬((20:Int)==19)=true by decide) ?_))))
  have b0:(0:Int)≤0∧(0:Int)< (([a,b]:List Tr).length:Int):=⟨Int.le_refl 0,by simp⟩
  have b1:(0:Int)≤1∧(1:Int)< (([a,b]:List Tr).length:Int):=⟨by decide,by simp⟩
  have e1:=op_get (l:=[a,b]) (j:=0) rfl
  have e2:=op_get (l:=[a,b]) (j:=1) rfl
  have ho2:=ROperand_rs hb (by omega) (ih2 (by omega) q (by omega)) (levP s+1)
  rw[←e2]at ho2
  have hw:w (((levP s:Nat):Int)+1)=((levP s+1:Nat):Int):=w_succ (by omega)
  have fin:∀lv,Rs (ROperand (q+1) ((opK (fun j=>(cellsL [a,b]).getD j dfl) 0),(opN (fun j=>(cellsL [a,b]).getD j dfl) 0),(opS (fun j=>(cellsL [a,b]).getD j dfl) 0),(opM (fun j=>(cellsL [a,b]).getD j dfl) 0),(opF (fun j=>(cellsL [a,b]).getD j dfl) 0),((lv:Nat):Int))) (fun z=>z=par lv a x):=by
   intro lv
   have ho:=ROperand_rs ha (by omega) (ih1 (by omega) q (by omega)) lv
   rw[←e1]at ho
   exact ho
  have szs:∀lv,(par lv a x).size+1≤maxLen∧(par lv a x++(⟨#[32]⟩:ByteArray)).size+s.size≤maxLen∧(par lv a x++(⟨#[32]⟩:ByteArray)++s).size+1≤maxLen∧(par lv a x++(⟨#[32]⟩:ByteArray)++s++(⟨#[32]⟩:ByteArray)).size+(par (levP s+1) b y).size≤maxLen:=by
   intro lv
   have p1:=par_size lv a x
   have p2:=par_size (levP s+1) b y
   have c1:(par lv a x++(⟨#[32]⟩:ByteArray)).size=(par lv a x).size+1:=by rw[ByteArray.size_append];rfl
   have c2:(par lv a x++(⟨#[32]⟩:ByteArray)++s).size=(par lv a x).size+1+s.size:=by rw[ByteArray.size_append,c1]
   have c3:(par lv a x++(⟨#[32]⟩:ByteArray)++s++(⟨#[32]⟩:ByteArray)).size=(par lv a x).size+1+s.size+1:=by rw[ByteArray.size_append,c2];rfl
   rw[c1,c2,c3]
   unfold maxLen
   exact⟨by omega,by omega,by omega,by omega⟩
  by_cases h4:levP s=4
  ·obtain⟨s1,s2,s3,s4⟩:=szs 5
   refine Rs.pos (by rw[h4];rfl) (Rs.pos b0 (Rs.bind (fin 5) fun z e=>?_))
   subst e
   refine Rs.pos s1 (Rs.pos s2 (Rs.pos s3 (Rs.pos b1 ?_)))
   rw[hw]
   refine Rs.bind ho2 fun z e=>?_
   subst e
   refine Rs.pos s4 (Rs.some ?_)
   rw[if_pos h4]
  ·obtain⟨s1,s2,s3,s4⟩:=szs (levP s)
   refine Rs.neg (show¬(((levP s:Nat):Int)==(4:Int))=true from fun h=>h4 (by have:=eq_of_beq h;omega)) (Rs.pos b0 (Rs.bind (fin (levP s)) fun z e=>?_))
   subst e
   refine Rs.pos s1 (Rs.pos s2 (Rs.pos s3 (Rs.pos b1 ?_)))
   rw[hw]
   refine Rs.bind ho2 fun z e=>?_
   subst e
   refine Rs.pos s4 (Rs.some ?_)
   rw[if_neg h4]
end Go.Proofs.YtjfkkokeegpeiaaGreatDoor
/- The library's builder, in a block of the printer's type: copyCheck, String. -/
namespace Go.Proofs.YtjfkkokeegpeiaaGreatDoor
open Go Go.Am Go.RowKit Go.Shelf
set_option maxRecDepth 100000
section
variable {P:Program} {ρ:Ren}
set_option maxHeartbeats 1000000 in
theorem any_copyCheck_used(L:Lays.n240 P ρ){j:TypeInfo}(hj:P.info? (ρ.t 72)=some j)(b:Nat)(w:World)(h0:w.cell? ⟨b,0,none⟩=some (.pointer (some ⟨b,0,none⟩))):
 Calls P (ρ.f 240) #[.pointer (some ⟨b,0,none⟩)] w fun e w'=>e= .returned (.tuple #[])∧w'=w:=by
 have mixed:=L.mixed
 have t72:=L.t72;have a72:=L.a72;have z72:=L.z72;have v72:=L.v72;have u72:=run_underlying L.t72
 have t70:=L.t70;have a70:=L.a70;have z70:=L.z70;have v70:=L.v70;have u70:=run_underlying L.t70
 have t9:=L.t9;have a9:=L.a9;have z9:=L.z9;have v9:=L.v9;have u9:=run_underlying L.t9
 have t4:=L.t4;have a4:=L.a4;have z4:=L.z4;have v4:=L.v4;have u4:=run_underlying L.t4
 have t164:=L.t164;have a164:=L.a164;have z164:=L.z164;have v164:=L.v164;have u164:=run_underlying L.t164
 go_enter L.f240,Body.n240_ntmps ρ
 go_wp2
 rw[Lib.run_neq_ptr_same w _ L.t70 hj]
 go_wp2
 go_end0
 exact⟨rfl,rfl⟩
set_option maxHeartbeats 1000000 in
theorem any_copyCheck_fresh(L:Lays.n240 P ρ){j:TypeInfo}(hj:P.info? (ρ.t 72)=some j)(hjs:j.size=2){T:TypeId}(hl:liesAt P P.depth T (2/P.cellsOf T) 0 (ρ.t 72) 1=true)(b:Nat)(w:World)(h0:w.cell? ⟨b,0,none⟩=some (.pointer none))(hsh:w.shape? b=some (T,2))(hfz:w.frozen? ⟨b,0,none⟩=false):
 Calls P (ρ.f 240) #[.pointer (some ⟨b,0,none⟩)] w fun e w'=>e= .returned (.tuple #[])∧w'=w.setCell ⟨b,0,none⟩ (.pointer (some ⟨b,0,none⟩)):=by
 have mixed:=L.mixed
 have t72:=L.t72;have a72:=L.a72;have z72:=L.z72;have v72:=L.v72;have u72:=run_underlying L.t72
 have t70:=L.t70;have a70:=L.a70;have z70:=L.z70;have v70:=L.v70;have u70:=run_underlying L.t70
 have t9:=L.t9;have a9:=L.a9;have z9:=L.z9;have v9:=L.v9;have u9:=run_underlying L.t9
 have t4:=L.t4;have a4:=L.a4;have z4:=L.z4;have v4:=L.v4;have u4:=run_underlying L.t4
 have t164:=L.t164;have a164:=L.a164;have z164:=L.z164;have v164:=L.v164;have u164:=run_underlying L.t164
 go_enter L.f240,Body.n240_ntmps ρ
 go_wp2
 rw[Lib.run_to_unsafe w ⟨b,0,none⟩ L.t70 L.t164 hj (by rw[hjs];decide) hsh (Nat.zero_lt_succ 1)]
 simp only[Result.andThen]
 rw[Oper.upon_value]
 go_wp2
 rw[run_callFunc_extern L.f276 (by kernel_rfl) (by kernel_rfl) (by kernel_rfl) (e:=Extern.AbiNoEscape.same) (by kernel_rfl)]
 rw[Lib.run_noEscape]
 simp only[Result.andThen]
 rw[Oper.upon_value]
 go_wp2
 rw[Lib.run_from_unsafe w ⟨b,0,none⟩ L.t164 L.t70 hj hsh hl]
 simp only[Result.andThen]
 rw[Oper.upon_value]
 go_wp2
 go_end0
 exact⟨rfl,rfl⟩
set_option maxHeartbeats 2000000 in
theorem any_String_row(L:Lays.n169 P ρ)(X:Builder.Extra P ρ)(b g cap len:Nat)(cur:Array Value)(w:World)(l:List UInt8)(hlen:l.length=len)(h0:l≠[])(c1':w.drew.cell? ⟨b,1,none⟩=some (.slice (some ⟨g,0,none⟩) len cap))(hg:w.heap[g]? =some (.cells cur (ρ.t 5) (0,0)))
 (hcm:cap≤maxLen) (hnc:len≤cap) (hcs:cur.size=cap) (hcell:∀j x,l[j]? =some x→w.cell? ⟨g,j,none⟩=some (.int .u8 x.toNat)):
 Calls P (ρ.f 169) #[.pointer (some ⟨b,0,none⟩)] w fun e w'=>e= .returned (.string ⟨l.toArray⟩)∧w'=w.drew.freeze ⟨g,0,none⟩ len:=by
 subst hlen
 have hl0:l.length≠0:=by simpa using h0
 have c1:=c1'
 have hSD:(Builtin.unsafeSliceData_ #[(ρ.t 37)] (ρ.t 127) #[.slice (some ⟨g,0,none⟩) l.length cap]).run P w.drew= .ok (.pointer (some ⟨g,0,none⟩)) w.drew:=
  Lib.run_unsafeSliceData_row _ _ _ _ _ _ (by omega)
 have hUS:(Builtin.unsafeString_ #[(ρ.t 127),(ρ.t 3)] (ρ.t 9) #[.pointer (some ⟨g,0,none⟩),.int .i64 l.length]).run P w.drew= .ok (.string ⟨l.toArray⟩) (w.drew.freeze ⟨g,0,none⟩ l.length):=by
  refine Lib.run_unsafeString_row w.drew (ρ.t 127) (ρ.t 3) (ρ.t 9) (ρ.t 5) L.t127 X.cellsByte g cur.size (by have hg':w.drew.heap[g]? =some (.cells cur (ρ.t 5) (0,0)):=hg;simp[World.shape?,hg']) l h0 (by omega) (by unfold maxLen at hcm;omega) ?_
  intro j x hx
  have:=hcell j x hx
  rw[add_lit,Nat.zero_add]
  exact this
 have mixed:=L.mixed
 have t72:=L.t72;have a72:=L.a72;have z72:=L.z72;have v72:=L.v72;have u72:=run_underlying L.t72
 have t70:=L.t70;have a70:=L.a70;have z70:=L.z70;have v70:=L.v70;have u70:=run_underlying L.t70
 have t37:=L.t37;have a37:=L.a37;have z37:=L.z37;have v37:=L.v37;have u37:=run_underlying L.t37
 have t127:=L.t127;have a127:=L.a127;have z127:=L.z127;have v127:=L.v127;have u127:=run_underlying L.t127
 have t3:=L.t3;have a3:=L.a3;have z3:=L.z3;have v3:=L.v3;have u3:=run_underlying L.t3
 have t9:=L.t9;have a9:=L.a9;have z9:=L.z9;have v9:=L.v9;have u9:=run_underlying L.t9
 have t5:=X.t5;have a5:=X.a5;have z5:=X.z5;have v5:=X.v5;have u5:=run_underlying X.t5
 go_enter L.f169,Body.n169_ntmps ρ
 go_wp2
 go_region_o
 all_goals (go_wp2;go_ret;exact⟨rfl,rfl⟩)
end
theorem lays240:Lays.n240 Tryz.prog Tryz.lays105_ren:={Tryz.lays105 with}
theorem lays169:Lays.n169 Tryz.prog Tryz.lays105_ren:={Tryz.lays105 with}
theorem bld_info:∃j,Tryz.prog.info? 77=some j∧j.size=2:=⟨_,rfl,by kernel_rfl⟩
theorem bld_lies:liesAt Tryz.prog Tryz.prog.depth 79 (2/Tryz.prog.cellsOf 79) 0 77 1=true:=by kernel_rfl
theorem cc_used(b:Nat)(w:World)(h0:w.cell? ⟨b,0,none⟩=some (.pointer (some ⟨b,0,none⟩))):Calls Tryz.prog 100 #[.pointer (some ⟨b,0,none⟩)] w fun e w'=>e= .returned (.tuple #[])∧w'=w:=by
 obtain⟨j,hj,_⟩:=bld_info
 exact any_copyCheck_used lays240 hj b w h0
theorem cc_fresh(b:Nat)(w:World)(h0:w.cell? ⟨b,0,none⟩=some (.pointer none))(hsh:w.shape? b=some (79,2))(hfz:w.frozen? ⟨b,0,none⟩=false):
 Calls Tryz.prog 100 #[.pointer (some ⟨b,0,none⟩)] w fun e w'=>e= .returned (.tuple #[])∧w'=w.setCell ⟨b,0,none⟩ (.pointer (some ⟨b,0,none⟩)):=by
 obtain⟨j,hj,hs⟩:=bld_info
 exact any_copyCheck_fresh lays240 hj hs bld_lies b w h0 hsh hfz
theorem str_row(b g cap len:Nat)(cur:Array Value)(w:World)(l:List UInt8)(hlen:l.length=len)(h0:l≠[])(c1:w.drew.cell? ⟨b,1,none⟩=some (.slice (some ⟨g,0,none⟩) len cap))(hg:w.heap[g]? =some (.cells cur 5 (0,0)))
 (hcm:cap≤maxLen) (hnc:len≤cap) (hcs:cur.size=cap) (hcell:∀j x,l[j]? =some x→w.cell? ⟨g,j,none⟩=some (.int .u8 x.toNat)):
 Calls Tryz.prog 37 #[.pointer (some ⟨b,0,none⟩)] w fun e w'=>e= .returned (.string ⟨l.toArray⟩)∧w'=w.drew.freeze ⟨g,0,none⟩ len:=
 any_String_row lays169 Tryz.Builder_Extra_105 b g cap len cur w l hlen h0 c1 hg hcm hnc hcs hcell
end Go.Proofs.YtjfkkokeegpeiaaGreatDoor
/- The library's builder, in a block of the printer's type: laws over memory. -/
namespace Go.Proofs.YtjfkkokeegpeiaaGreatDoor
open Go Go.Am Go.RowKit
set_option maxRecDepth 100000
theorem tbk_two{β:Bt}{S D:Pr}{w:World}{b m:Nat}{c0 v:V}(h:chunkRel β S w D b m (.tbk 79 [c0,v])):0<m∧∃x y,w.heap[b]? =some (.cells #[x,y] 79 (0,0))∧den β S w D c0 x∧den β S w D v y∧x.oneCell'=true∧y.oneCell'=true:=by
 simp only[chunkRel]at h
 obtain⟨h0,us,h1,h2,h3⟩:=h
 simp only[denL]at h2
 obtain⟨x,_,rfl,hx,y,_,rfl,hy,rfl⟩:=h2
 simp only[List.all_cons,List.all_nil,Bool.and_true,Bool.and_eq_true]at h3
 exact⟨h0,x,y,h1,hx,hy,h3.1,h3.2⟩
theorem cc_used_sc{E:Env}(hP:E.P=Tryz.prog)(v:V)(rest:List (Option Chunk)):SC E 100 [.ptr 0 0] (some (.tbk 79 [.ptr 0 0,v])::rest) (.ret (.tup []) (some (.tbk 79 [.ptr 0 0,v])::rest)):=by
 refine⟨by rw[hP];exact⟨_,Tryz.func100,by kernel_rfl,by intro e;exact absurd e (by decide+kernel)⟩,fun β S w us hd hM hG=>?_⟩
 rw[hP]
 obtain⟨b,m,hb,hc⟩:=hM.live 0 (.tbk 79 [.ptr 0 0,v]) rfl
 obtain⟨h0,x,y,h1,hx,hy,_,_⟩:=tbk_two hc
 simp only[denL]at hd
 obtain⟨u,_,rfl,hu,rfl⟩:=hd
 simp only[den]at hu hx
 have hu:=hu.2 b m hb
 have hx:=hx.2 b m hb
 subst hu hx
 refine(cc_used b w (by simp[World.cell?,h1])).mono ?_
 rintro e w' ⟨rfl,rfl⟩
 exact⟨_,β,S,rfl,hM,by simp only[den,denL];exact⟨[],rfl,rfl⟩,Evo.refl _ _ _,fun i bm hi h=>h⟩
theorem cc_fresh_sc{E:Env}(hP:E.P=Tryz.prog)(v:V)(rest:List (Option Chunk)):SC E 100 [.ptr 0 0] (some (.tbk 79 [.sc (.pointer none),v])::rest) (.ret (.tup []) (some (.tbk 79 [.ptr 0 0,v])::rest)):=by
 refine⟨by rw[hP];exact⟨_,Tryz.func100,by kernel_rfl,by intro e;exact absurd e (by decide+kernel)⟩,fun β S w us hd hM hG=>?_⟩
 rw[hP]
 obtain⟨b,m,hb,hc⟩:=hM.live 0 (.tbk 79 [.sc (.pointer none),v]) rfl
 obtain⟨h0,x,y,h1,hx,hy,o1,o2⟩:=tbk_two hc
 simp only[denL]at hd
 obtain⟨u,_,rfl,hu,rfl⟩:=hd
 simp only[den]at hu hx
 have hu':=hu.2 b m hb
 subst hu' hx
 refine(cc_fresh b w (by simp[World.cell?,h1]) (by simp[World.shape?,h1]) (by simp[World.frozen?,h1])).mono ?_
 rintro e w' ⟨rfl,rfl⟩
 have hg:w.grownBy (w.setCell ⟨b,0,none⟩ (.pointer (some ⟨b,0,none⟩))) (some b):=⟨rfl,rfl,rfl,by simp[World.setCell],fun k _ hk=>Below.heap_setCell _ _ _ _ (fun e=>hk (by simp[e]))⟩
 have hk:Kept S w (w.setCell ⟨b,0,none⟩ (.pointer (some ⟨b,0,none⟩))):=fun z hz=>hg.block z (hM.st z hz) (fun e=>by cases e;exact(hM.own 0 b m hb h0).2 hz)
 obtain⟨q1,q2⟩:=hM.put (c':=.tbk 79 [.ptr 0 0,v]) rfl hb h0 hg (by
  simp only[chunkRel]
  refine⟨h0,[.pointer (some ⟨b,0,none⟩),y],?_,?_,?_⟩
  ·simp[World.setCell,Array.getElem?_modify,h1]
  ·simp only[denL]
   refine⟨_,_,rfl,?_,_,_,rfl,den_later (fun _ _=>.inl rfl) (fun _ h=>h) (fun _ h=>h) hk _ _ hy,rfl⟩
   simp only[den]
   exact hu
  ·simp only[List.all_cons,List.all_nil,Bool.and_true,Bool.and_eq_true]
   exact⟨rfl,o2⟩)
 refine⟨_,β,S,rfl,?_,by simp only[den,denL];exact⟨[],rfl,rfl⟩,q2,fun i bm hi h=>h⟩
 have e:hp (some (.tbk 79 [.ptr 0 0,v])::rest)=upd (hp (some (.tbk 79 [.sc (.pointer none),v])::rest)) 0 (some (.tbk 79 [.ptr 0 0,v])):=upd_hp (some (.tbk 79 [.sc (.pointer none),v])::rest) 0 _ (by simp)
 rw[e]
 exact q1
theorem row_of{β:Bt}{S D:Pr}{w:World}{b m n:Nat}{f:Nat→List V}{l:List UInt8}(h:chunkRel β S w D b m (.row 5 1 n f))(hl:l.length=n)(hn:l≠[])(hf:∀j x,l[j]? =some x→f j=[.sc (.int .u8 ((x.toNat:Nat):Int))]):
 n≤m∧m≤maxLen∧0<m∧∃cur:Array Value,w.heap[b]? =some (.cells cur 5 (0,0))∧cur.size=m∧∀j x,l[j]? =some x→w.cell? ⟨b,j,none⟩=some (.int .u8 x.toNat):=by
 simp only[chunkRel]at h
 obtain⟨h1,h2,h3,h4⟩:=h
 have h0:0<n:=by
  rw[←hl]
  exact List.length_pos_iff.2 hn
 obtain⟨cur,k1,k2,k3⟩:=h4 (by omega)
 refine⟨h1,h2,by omega,cur,k1,by simpa using k2,fun j x hx=>?_⟩
 have hj:j<n:=by rw[←hl];exact(List.getElem?_eq_some_iff.1 hx).1
 obtain⟨us,g1,_,_,_,g5⟩:=k3 j hj
 rw[hf j x hx]at g1
 simp only[denL,den]at g1
 obtain⟨_,_,rfl,rfl,rfl⟩:=g1
 have:=g5 0 _ rfl
 simp only[World.cell?,k1]
 simpa using this
theorem str_sc{E:Env}(hP:E.P=Tryz.prog)(c0:V){n:Nat}{f:Nat→List V}{l:List UInt8}(hl:l.length=n)(hn:l≠[])(hf:∀j x,l[j]? =some x→f j=[.sc (.int .u8 ((x.toNat:Nat):Int))]):
 SC E 37 [.ptr 0 0] [some (.tbk 79 [c0,.sl 1 1 0 n]),some (.row 5 1 n f)] (.ret (st ⟨l.toArray⟩) [none,none]):=by
 refine⟨by rw[hP];exact⟨_,Tryz.func37,by kernel_rfl,by intro e;exact absurd e (by decide+kernel)⟩,fun β S w us hd hM hG=>?_⟩
 rw[hP]
 obtain⟨b,m,hb,hc⟩:=hM.live 0 (.tbk 79 [c0,.sl 1 1 0 n]) rfl
 obtain⟨g,M,hg,hr⟩:=hM.live 1 (.row 5 1 n f) rfl
 obtain⟨h0,x,y,h1,hx,hy,_,_⟩:=tbk_two hc
 obtain⟨r1,r2,r3,cur,r4,r5,r6⟩:=row_of hr hl hn hf
 simp only[denL]at hd
 obtain⟨u,_,rfl,hu,rfl⟩:=hd
 simp only[den]at hu hy
 have hu:=hu.2 b m hb
 obtain⟨g1,B,hyu,g2⟩:=hy.2 g M hg
 simp only[Nat.zero_mul,Nat.sub_zero,Nat.zero_add]at hyu g1 g2
 rw[g2 r3]at hyu
 subst hu hyu
 refine(str_row b g M n cur w l hl hn (by
  show w.cell? ⟨b,1,none⟩=_
  simp[World.cell?,h1]) r4 r2 r1 r5 r6).mono ?_
 rintro e w' ⟨rfl,rfl⟩
 have hfz:∀k,k≠g→(w.drew.freeze ⟨g,0,none⟩ n).heap[k]? =w.heap[k]? :=by
  intro k hk
  unfold World.freeze
  split
  ·rfl
  ·simp only[Array.getElem?_modify]
   rw[if_neg (fun e=>hk e.symm)]
   rfl
 have hsz:(w.drew.freeze ⟨g,0,none⟩ n).heap.size=w.heap.size:=by
  unfold World.freeze
  split
  ·rfl
  ·simp only[Array.size_modify]
   rfl
 have ho:(w.drew.freeze ⟨g,0,none⟩ n).os=w.os∧(w.drew.freeze ⟨g,0,none⟩ n).tape=w.tape∧(w.drew.freeze ⟨g,0,none⟩ n).output=w.output:=by
  unfold World.freeze
  split<;>exact⟨rfl,rfl,rfl⟩
 refine⟨_,fun _=>none,S,rfl,⟨fun i c hc=>?_,fun i _=>rfl,fun i b m h=>(by cases h),fun i b m h=>(by cases h),fun i j b m m' h=>(by cases h),fun z hz=>by rw[hsz];exact hM.st z hz⟩,by simp only[den],⟨ho.1,ho.2.1,ho.2.2,by rw[hsz];exact Nat.le_refl _,fun z hz hn=>hfz z (fun e=>by subst e;exact hn 1 M r3 hg),fun _ h=>h,fun _ h=>.inl h,fun i b m h=>(by cases h)⟩,fun i bm hi h=>(by cases h)⟩
 match i with
 |0=>cases hc
 |1=>cases hc
 |i+2=>simp[hp]at hc
end Go.Proofs.YtjfkkokeegpeiaaGreatDoor
/- An example of the chapter is printed. -/
namespace Go.Proofs.YtjfkkokeegpeiaaGreatDoor
open Go Go.Am Go.RowKit Go.Proofs.Lx
set_option maxRecDepth 100000
noncomputable def EP:Env:={E with allR:=true,push:=false,rows:=false,sett:=fun _=>false}
theorem hWP:WF EP:=WF.of EP (fun _=>rfl) (by kernel_rfl) hW.1.1
theorem hXP:SoundX EP:=fun f args v h=>by
 obtain⟨h1,h2,h3⟩:=hX f args v h
 exact⟨h1,h2,fun β S D w us a b c=>h3 β S D w us a ⟨b.rd,b.inv⟩ c⟩
theorem scP{f:FuncId}{args:List V}{L:List (Option Chunk)}{cr:CRes}(h:SC EP f args L cr)(hr:Nat.ble (roots false (hp L) args).length (roots true (hp L) args).length=true):SC E5 f args L cr:=by
 refine un7 (h:= ?_) hr
 exact⟨h.1,fun β S w us h1 h2 h3=>h.2 β S w us h1 h2 ⟨h3.rd,h3.inv⟩⟩
def byteC:List V→Bool
 | [.sc (.int .u8 x)]=>decide (0≤x)&&decide (x<256)
 |_=>false
def bldT:CallT:=fun f args L k=>
 match f,args,L with
 |100,[.ptr 0 0],some (.tbk 79 [.ptr 0 0,v])::rest=>k (.ret (.tup []) (some (.tbk 79 [.ptr 0 0,v])::rest))
 |100,[.ptr 0 0],some (.tbk 79 [.sc (.pointer none),v])::rest=>k (.ret (.tup []) (some (.tbk 79 [.ptr 0 0,v])::rest))
 |37,[.ptr 0 0],[some (.tbk 79 [c0,.sl 1 1 0 n]),some (.row 5 1 n' f)]=>if n=n'∧0<n∧(List.range n).all (fun j=>byteC (f j))=true then k (.ret (st (strOfV n f)) [none,none])else none
 |_,_,_=>none
theorem byteC_eq{l:List V}(h:byteC l=true):∃x:UInt8,l=[.sc (.int .u8 ((x.toNat:Nat):Int))]∧UInt8.ofNat (u8I l).toNat=x:=by
 unfold byteC at h
 split at h
 ·rename_i x
  simp only[Bool.and_eq_true,decide_eq_true_eq]at h
  have hx:x.toNat<256:=by omega
  refine⟨UInt8.ofNat x.toNat,?_,rfl⟩
  have:((UInt8.ofNat x.toNat).toNat:Int)=x:=by
   simp only[UInt8.toNat_ofNat']
   omega
  rw[this]
 ·cases h
theorem bldT_sound:SoundC EP bldT:=by
 intro f args L k r h
 unfold bldT at h
 split at h
 ·exact⟨_,h,cc_used_sc rfl _ _⟩
 ·exact⟨_,h,cc_fresh_sc rfl _ _⟩
 ·rename_i c0 n n' f
  split at h
  ·rename_i hc
   obtain⟨rfl,h0,hall⟩:=hc
   rw[List.all_eq_true]at hall
   refine⟨_,h,?_⟩
   have hl:((List.range n).map fun j=>UInt8.ofNat (u8I (f j)).toNat).length=n:=by simp
   have:=str_sc (E:=EP) rfl c0 (n:=n) (f:=f) (l:=(List.range n).map fun j=>UInt8.ofNat (u8I (f j)).toNat) hl (by
    intro e
    rw[e]at hl
    simp at hl
    omega) (fun j x hx=>by
    rw[List.getElem?_map,Option.map_eq_some_iff]at hx
    obtain⟨i,hi,rfl⟩:=hx
    obtain⟨h1,h2⟩:=List.getElem?_eq_some_iff.1 hi
    simp at h1 h2
    subst h2
    obtain⟨y,e1,e2⟩:=byteC_eq (hall j (by simpa using h1))
    rw[e2]
    exact e1)
   unfold strOfV strOfNums
   rw[List.map_map]
   exact this
  ·cases h
 ·cases h
def spB(f:FuncId):Bool:=f==100||f==37
def prc1:List Prc:=[⟨⟨#[112]⟩,[⟨⟨#[116]⟩,⟨#[115]⟩⟩],.node 14 0 ⟨#[]⟩ [.node 1 0 ⟨#[120]⟩ [.node 20 0 ⟨#[42]⟩ [.node 15 2 ⟨#[]⟩ [],.node 20 0 ⟨#[43]⟩ [.node 15 1 ⟨#[]⟩ [],.node 18 0 ⟨#[98,97,116,116,101,114,121]⟩ []]]]]⟩]
def out1:ByteArray:=⟨#[112,114,111,99,101,100,117,114,101,32,112,40,116,58,32,115,41,32,123,10,32,32,108,101,116,32,120,32,61,32,50,32,42,32,40,49,32,43,32,116,108,109,46,98,97,116,116,101,114,121,41,59,10,125,10]⟩
theorem print1:SC E5 13 [procV prc1] [] (.ret (st out1) []):=scP (SC.closedB (sp:=spB) (base:=bldT) hWP hXP bldT_sound 80 (by kernel_rfl)) (by kernel_rfl)
end Go.Proofs.YtjfkkokeegpeiaaGreatDoor
/- The program's lexer, of words: the plain one. -/
namespace Go.Proofs.YtjfkkokeegpeiaaGreatDoor
open Go Go.Am Go.Proofs.Lx
set_option maxRecDepth 100000
theorem letter_eq(q:Nat)(c:Int):letter q c=some (letterI c):=by
 unfold letter t_letter letterI
 simp only[ge_iff_le,decide_eq_true_eq]
 by_cases h1:97≤c<;>by_cases h2:c≤122<;>by_cases h3:65≤c<;>by_cases h4:c≤90<;>simp[h1,h2,h3,h4]<;>omega
theorem digit_eq(q:Nat)(c:Int):digit q c=some (digitI c):=by
 unfold digit t_digit digitI
 simp only[ge_iff_le,decide_eq_true_eq]
 by_cases h1:48≤c<;>by_cases h2:c≤57<;>simp[h1,h2]
theorem notLf_eq(q:Nat)(c:Int):notLf q c=some (ne10 c):=rfl
theorem wordC_eq(q:Nat)(c:Int):wordC q c=some (wordI c):=by
 unfold wordC t_wordC
 rw[letter_eq]
 dsimp only[Option.bind_some]
 unfold wordI
 by_cases h:letterI c=true
 ·rw[if_pos h,h];rfl
 ·rw[if_neg h,digit_eq]
  simp only[Bool.not_eq_true]at h
  rw[h];rfl
theorem flat_letter:Flat letterI:=fun c h=>by rw[Bool.eq_iff_iff];simp[letterI];omega
theorem flat_digit:Flat digitI:=fun c h=>by rw[Bool.eq_iff_iff];simp[digitI];omega
theorem flat_white:Flat whiteI:=fun c h=>by rw[Bool.eq_iff_iff];simp[whiteI];omega
theorem flat_word:Flat wordI:=fun c h=>by unfold wordI;rw[flat_letter c h,flat_digit c h]
theorem flat_ne10:Flat ne10:=fun c h=>by rw[Bool.eq_iff_iff];simp[ne10];omega
def spanSt(g:Int→Bool)(s:ByteArray)(y:Nat):Option (Nat⊕(Int⊕Unit)):=
 if y<s.size then(if(!(g ((Utf8.decode s y).1:Int)))=true then some (.inr (.inl ((y:Nat):Int)))else some (.inl (y+(Utf8.decode s y).2)))else some (.inr (.inr ()))
theorem span_run(g:Int→Bool)(hg:Flat g)(s:ByteArray):∀(m y:Nat),y≤s.size→s.size-y<m→∃r,lpG (spanSt g s) m y=some r∧(r= .inl (((y+spanL g (s.data.toList.drop y):Nat):Nat):Int)∨(r= .inr ()∧y+spanL g (s.data.toList.drop y)=s.size)):=by
 intro m
 induction m with
 |zero=>intro y _ h;omega
 |succ m ih=>
  intro y hy hm
  rw[lpG_succ]
  by_cases h:y<s.size
  ·by_cases hc:g ((Utf8.decode s y).1:Int)=true
   ·have e:spanSt g s y=some (.inl (y+(Utf8.decode s y).2)):=by unfold spanSt;rw[if_pos h,if_neg (by rw[hc];simp)]
    rw[e]
    obtain⟨h1,h2,_⟩:=decode_len s y h
    have e2:=span_step s g hg y h hc
    obtain⟨r,k1,k2⟩:=ih (y+(Utf8.decode s y).2) h2 (by omega)
    refine⟨r,k1,?_⟩
    rw[e2]
    rw[Nat.add_assoc]at k2
    exact k2
   ·have e:spanSt g s y=some (.inr (.inl ((y:Nat):Int))):=by unfold spanSt;rw[if_pos h,if_pos (by simpa using hc)]
    rw[e]
    refine⟨_,rfl,.inl ?_⟩
    rw[span_stop s g y h (by rw[←decode_g s g hg y h];simpa using hc)]
    rfl
  ·have e:spanSt g s y=some (.inr (.inr ())):=by unfold spanSt;rw[if_neg h]
   rw[e]
   have:y=s.size:=by omega
   subst this
   exact⟨_,rfl,.inr ⟨rfl,by rw[span_end];rfl⟩⟩
theorem span_len(g:Int→Bool)(s:ByteArray):spanL g s.data.toList≤s.size:=by
 have:=spanL_le g s.data.toList
 simpa using this
theorem spanN_eq(q:Nat)(s:ByteArray)(hq:s.size<q):spanN q s=some ((spanL ne10 s.data.toList:Nat):Int):=by
 unfold spanN t_spanN spanN_l0
 have e:(fun y=>spanN_l0_t (notLf q) s y (fun y=>(some (.inl y):Option (spanN_l0_a⊕spanN_l0_g))) (fun z=>some (.inr z)))=spanSt ne10 s:=by
  funext y
  unfold spanN_l0_t spanSt
  simp only[notLf_eq,Option.bind_some]
 rw[e]
 obtain⟨r,k1,k2⟩:=span_run ne10 flat_ne10 s q 0 (Nat.zero_le _) (by omega)
 rw[k1]
 rw[List.drop_zero,Nat.zero_add]at k2
 rcases k2 with rfl| ⟨rfl,k2⟩
 ·rfl
 ·rw[k2];rfl
theorem spanD_eq(q:Nat)(s:ByteArray)(hq:s.size<q):spanD q s=some ((spanL digitI s.data.toList:Nat):Int):=by
 unfold spanD t_spanD spanD_l0
 have e:(fun y=>spanD_l0_t (digit q) s y (fun y=>(some (.inl y):Option (spanD_l0_a⊕spanD_l0_g))) (fun z=>some (.inr z)))=spanSt digitI s:=by
  funext y
  unfold spanD_l0_t spanSt
  simp only[digit_eq,Option.bind_some]
 rw[e]
 obtain⟨r,k1,k2⟩:=span_run digitI flat_digit s q 0 (Nat.zero_le _) (by omega)
 rw[k1]
 rw[List.drop_zero,Nat.zero_add]at k2
 rcases k2 with rfl| ⟨rfl,k2⟩
 ·rfl
 ·rw[k2];rfl
theorem spanW_eq(q:Nat)(s:ByteArray)(hq:s.size<q):spanW q s=some ((spanL wordI s.data.toList:Nat):Int):=by
 unfold spanW t_spanW spanW_l0
 have e:(fun y=>spanW_l0_t (wordC q) s y (fun y=>(some (.inl y):Option (spanW_l0_a⊕spanW_l0_g))) (fun z=>some (.inr z)))=spanSt wordI s:=by
  funext y
  unfold spanW_l0_t spanSt
  simp only[wordC_eq,Option.bind_some]
 rw[e]
 obtain⟨r,k1,k2⟩:=span_run wordI flat_word s q 0 (Nat.zero_le _) (by omega)
 rw[k1]
 rw[List.drop_zero,Nat.zero_add]at k2
 rcases k2 with rfl| ⟨rfl,k2⟩
 ·rfl
 ·rw[k2];rfl
def tokE(z:Tkn×Int):Int×Int×ByteArray×Int×Int:=(z.1.k,z.1.a,z.1.t,z.1.n,z.2)
theorem word_eq(q:Nat)(s:ByteArray)(hq:s.size<q):word q s=some (tokE (wordP s)):=by
 unfold word t_word wordP
 rw[spanW_eq q s hq]
 dsimp only[Option.bind_some]
 have hl:=span_len wordI s
 generalize spanL wordI s.data.toList=k at hl⊢
 by_cases h:12<k
 ·have h':(k:Int)>12:=by omega
  rw[if_pos h,if_pos (decide_eq_true h')];rfl
 ·have h':¬(k:Int)>12:=by omega
  have h3:(0:Int)≤0∧(0:Int)≤((k:Nat):Int)∧((k:Nat):Int)≤((s.size:Nat):Int):=by omega
  rw[if_neg h,if_neg (fun hh=>h' (of_decide_eq_true hh)),if_pos h3];rfl
end Go.Proofs.YtjfkkokeegpeiaaGreatDoor
/- The program's lexer, of symbols and numbers: the plain one. -/
namespace Go.Proofs.YtjfkkokeegpeiaaGreatDoor
open Go Go.Am Go.Proofs.Lx
set_option maxRecDepth 100000
theorem sym_two{s:ByteArray}(h1:1<s.size){l:List UInt8}(hl:l∈sym2)(e:s.extract 0 2=⟨l.toArray⟩):((3,0,s.extract 0 2,0,0):Int×Int×ByteArray×Int×Int)=tokE (symbolP s):=by
 have h2:symN s.data.toList=2:=symN_two (t:=s.extract 0 2) h1 rfl (by rw[e];exact hl)
 unfold symbolP
 rw[h2,if_neg (by decide)]
 rfl
theorem sym_one{s:ByteArray}(h0:0<s.size)(hn:¬(1<s.data.toList.length∧s.data.toList.take 2∈sym2))(hi:(0:Int)≤Lib.indexByte sym1 s[0]):((3,0,s.extract 0 1,0,0):Int×Int×ByteArray×Int×Int)=tokE (symbolP s):=by
 have h2:=symN_one h0 hn
 rw[if_pos hi]at h2
 unfold symbolP
 rw[h2,if_neg (by decide)]
 rfl
theorem sym_no{s:ByteArray}(h0:0<s.size)(hn:¬(1<s.data.toList.length∧s.data.toList.take 2∈sym2))(hi:¬(0:Int)≤Lib.indexByte sym1 s[0]):((0,0,⟨#[]⟩,0,11):Int×Int×ByteArray×Int×Int)=tokE (symbolP s):=by
 have h2:=symN_one h0 hn
 rw[if_neg hi]at h2
 unfold symbolP
 rw[h2,if_pos rfl]
 rfl
theorem lsym_rs(q:Nat)(s:ByteArray)(h0:0<s.size):Rs (lsym q s) (fun z=>z=tokE (symbolP s)):=by
 unfold lsym t_lsym
 refine Rs.pos (show(0:Int)≤0∧(0:Int)< ((s.size:Nat):Int)by omega) ?_
 have hg:=drop_get s 0 h0
 have e:=get_at s 0 h0
 simp only[Nat.add_zero]at e
 rw[List.drop_zero,e]at hg
 have hb:List.getD s.data.toList 0 (0:UInt8)=s[0]:=by rw[hg];rfl
 have hix:∀q,IndexByte q ({data:=#[123,125,40,41,61,59,44,58,60,62,43,45,42,47,33,46]},((UInt8.toNat (List.getD s.data.toList 0 (0:UInt8)):Nat):Int))=some (Lib.indexByte sym1 s[0]):=by
  intro q
  unfold IndexByte
  dsimp only
  rw[hb,Int.toNat_natCast,UInt8.ofNat_toNat]
  rfl
 refine Rs.bind ⟨_,hix q,rfl⟩ fun z hz=>?_
 subst hz
 by_cases hi:(0:Int)≤Lib.indexByte sym1 s[0]
 ·refine Rs.pos (decide_eq_true hi) ?_
  have hb1:(0:Int)≤0∧(0:Int)≤1∧(1:Int)≤((s.size:Nat):Int):=by omega
  by_cases h1:1<s.size
  ·have hbn:(0:Int)≤0∧(0:Int)≤2∧(2:Int)≤((s.size:Nat):Int):=by omega
   refine Rs.pos (decide_eq_true (show((s.size:Nat):Int)>1 by omega)) (Rs.pos hbn ?_)
   by_cases c1:s.extract 0 2=sOr
   ·exact Rs.pos (tl_eq.2 c1) (Rs.pos hbn (Rs.some (sym_two h1 (by decide) c1)))
   refine Rs.neg (fun h=>c1 (tl_eq.1 h)) ?_
   by_cases c2:s.extract 0 2=sAnd
   ·exact Rs.pos (tl_eq.2 c2) (Rs.pos hbn (Rs.some (sym_two h1 (by decide) c2)))
   refine Rs.neg (fun h=>c2 (tl_eq.1 h)) ?_
   by_cases c3:s.extract 0 2=sLe
   ·exact Rs.pos (tl_eq.2 c3) (Rs.pos hbn (Rs.some (sym_two h1 (by decide) c3)))
   refine Rs.neg (fun h=>c3 (tl_eq.1 h)) ?_
   by_cases c4:s.extract 0 2=sGe
   ·exact Rs.pos (tl_eq.2 c4) (Rs.pos hbn (Rs.some (sym_two h1 (by decide) c4)))
   refine Rs.neg (fun h=>c4 (tl_eq.1 h)) ?_
   by_cases c5:s.extract 0 2=sEq
   ·exact Rs.pos (tl_eq.2 c5) (Rs.pos hbn (Rs.some (sym_two h1 (by decide) c5)))
   refine Rs.neg (fun h=>c5 (tl_eq.1 h)) ?_
   by_cases c6:s.extract 0 2=sNe
   ·exact Rs.pos (tl_eq.2 c6) (Rs.pos hbn (Rs.some (sym_two h1 (by decide) c6)))
   refine Rs.neg (fun h=>c6 (tl_eq.1 h)) ?_
   have hn:¬(1<s.data.toList.length∧s.data.toList.take 2∈sym2):=sym2_not rfl (by
    intro l hl
    simp only[sym2,List.mem_cons,List.not_mem_nil,or_false]at hl
    rcases hl with rfl|rfl|rfl|rfl|rfl|rfl
    ·exact c1
    ·exact c2
    ·exact c3
    ·exact c4
    ·exact c5
    ·exact c6)
   exact Rs.pos hb1 (Rs.some (sym_one h0 hn hi))
  ·have hn:¬(1<s.data.toList.length∧s.data.toList.take 2∈sym2):=fun h=>h1 (by simpa using h.1)
   refine Rs.neg (fun h=>h1 (by have:=of_decide_eq_true h;omega)) ?_
   exact Rs.pos hb1 (Rs.some (sym_one h0 hn hi))
 ·refine Rs.neg (fun h=>hi (of_decide_eq_true h)) ?_
  by_cases h1:1<s.size
  ·have hbn:(0:Int)≤0∧(0:Int)≤2∧(2:Int)≤((s.size:Nat):Int):=by omega
   refine Rs.pos (decide_eq_true (show((s.size:Nat):Int)>1 by omega)) (Rs.pos hbn ?_)
   by_cases c1:s.extract 0 2=sOr
   ·exact Rs.pos (tl_eq.2 c1) (Rs.pos hbn (Rs.some (sym_two h1 (by decide) c1)))
   refine Rs.neg (fun h=>c1 (tl_eq.1 h)) ?_
   by_cases c2:s.extract 0 2=sAnd
   ·exact Rs.pos (tl_eq.2 c2) (Rs.pos hbn (Rs.some (sym_two h1 (by decide) c2)))
   refine Rs.neg (fun h=>c2 (tl_eq.1 h)) ?_
   by_cases c3:s.extract 0 2=sLe
   ·exact Rs.pos (tl_eq.2 c3) (Rs.pos hbn (Rs.some (sym_two h1 (by decide) c3)))
   refine Rs.neg (fun h=>c3 (tl_eq.1 h)) ?_
   by_cases c4:s.extract 0 2=sGe
   ·exact Rs.pos (tl_eq.2 c4) (Rs.pos hbn (Rs.some (sym_two h1 (by decide) c4)))
   refine Rs.neg (fun h=>c4 (tl_eq.1 h)) ?_
   by_cases c5:s.extract 0 2=sEq
   ·exact Rs.pos (tl_eq.2 c5) (Rs.pos hbn (Rs.some (sym_two h1 (by decide) c5)))
   refine Rs.neg (fun h=>c5 (tl_eq.1 h)) ?_
   by_cases c6:s.extract 0 2=sNe
   ·exact Rs.pos (tl_eq.2 c6) (Rs.pos hbn (Rs.some (sym_two h1 (by decide) c6)))
   refine Rs.neg (fun h=>c6 (tl_eq.1 h)) ?_
   have hn:¬(1<s.data.toList.length∧s.data.toList.take 2∈sym2):=sym2_not rfl (by
    intro l hl
    simp only[sym2,List.mem_cons,List.not_mem_nil,or_false]at hl
    rcases hl with rfl|rfl|rfl|rfl|rfl|rfl
    ·exact c1
    ·exact c2
    ·exact c3
    ·exact c4
    ·exact c5
    ·exact c6)
   exact Rs.some (sym_no h0 hn hi)
  ·have hn:¬(1<s.data.toList.length∧s.data.toList.take 2∈sym2):=fun h=>h1 (by simpa using h.1)
   refine Rs.neg (fun h=>h1 (by have:=of_decide_eq_true h;omega)) ?_
   exact Rs.some (sym_no h0 hn hi)
theorem val_ge:∀(l:List UInt8) (n:Int),(∀b∈l,digitI b.toNat=true)→0≤n→n≤valI n l
 | [],n,_,_=>Int.le_refl _
 |b::l,n,h,h0=>by
  have hb:=h b (.head _)
  simp[digitI]at hb
  have:=val_ge l (10*n+((b.toNat:Int)-48)) (fun c hc=>h c (.tail _ hc)) (by omega)
  show n≤valI (10*n+((b.toNat:Int)-48)) l
  omega
theorem num_loop(q:Nat)(x0:a_lnum)(t:ByteArray)(hd:∀b∈t.data.toList,digitI b.toNat=true):∀(m p:Nat) (n:Int),p≤t.size→t.size-p<m→0≤n→n≤2147483647→
 Rs (lpG (fun y=>lnum_l0_t (spanD q) x0 y (fun y=>some (.inl y)) (fun z=>some (.inr z))) m (t,n,p)) (fun r=>if valI n (t.data.toList.drop p)>2147483647 then r= .inl ()else r= .inr (t,valI n (t.data.toList.drop p))):=by
 intro m
 induction m with
 |zero=>intro p n _ h;omega
 |succ m ih=>
  intro p n hp hm h0 h1
  refine Rs.step3 fun Q hQ=>?_
  unfold lnum_l0_t
  dsimp only
  by_cases h:p<t.size
  ·refine Rs.pos h ?_
   have hg:=drop_get t p h
   have hdg:digitI ((t.get! p).toNat:Int)=true:=hd _ (List.mem_of_getElem? (get_list t p h))
   have hdg':=hdg
   simp[digitI]at hdg'
   have e:=get_at t p h
   simp only[Nat.add_zero]at e
   have hdec:Utf8.decode t p=((t.get! p).toNat,1):=by
    have:=decode_ascii t p h (by rw[←e];omega)
    rw[this,←e]
   rw[hdec]
   dsimp only
   have e32:IntKind.wrap .i32 (((t.get! p).toNat:Int)-48)=((t.get! p).toNat:Int)-48:=by
    simp[IntKind.wrap,IntKind.bits,IntKind.signed];omega
   have ew:w (w (10*n)+w (IntKind.wrap .i32 (((t.get! p).toNat:Int)-48)))=10*n+(((t.get! p).toNat:Int)-48):=by
    rw[e32,w_in (n:=10*n) (by omega) (by omega),w_in (n:=((t.get! p).toNat:Int)-48) (by omega) (by omega),w_in (by omega) (by omega)]
   rw[ew]
   have ev:valI n (t.data.toList.drop p)=valI (10*n+(((t.get! p).toNat:Int)-48)) (t.data.toList.drop (p+1)):=by rw[hg];rfl
   by_cases hc:10*n+(((t.get! p).toNat:Int)-48)>2147483647
   ·refine Rs.pos (decide_eq_true hc) (Rs.some ?_)
    have hv:=val_ge (t.data.toList.drop (p+1)) (10*n+(((t.get! p).toNat:Int)-48)) (fun b hb=>hd b (List.mem_of_mem_drop hb)) (by omega)
    show(if _ then _ else _)
    rw[if_pos (by rw[ev];omega)]
   ·refine Rs.neg (fun hh=>hc (of_decide_eq_true hh)) (Rs.some (hQ _ ?_))
    rw[ev]
    exact ih (p+1) _ h (by omega) (by omega) (by omega)
  ·refine Rs.neg h (Rs.some ?_)
   have hlen:t.data.toList.length=t.size:=by simp
   have:t.data.toList.drop p=[]:=List.drop_of_length_le (by omega)
   show(if _ then _ else _)
   rw[this]
   rw[if_neg (show¬(valI n []>2147483647)by show¬n>2147483647;omega)]
   rfl
theorem lnum_rs(q:Nat)(s:ByteArray)(hq:s.size<q):Rs (lnum q s) (fun z=>z=tokE (numberP (s.extract 0 (spanL digitI s.data.toList)))):=by
 unfold lnum t_lnum
 rw[spanD_eq q s hq]
 dsimp only[Option.bind_some]
 have hl:=span_len digitI s
 have hd:∀b∈(s.extract 0 (spanL digitI s.data.toList)).data.toList,digitI b.toNat=true:=by
  intro b hb
  rw[extract_list]at hb
  simp only[List.drop_zero,Nat.sub_zero]at hb
  obtain⟨j,hj⟩:=List.mem_iff_getElem?.1 hb
  rw[List.getElem?_take]at hj
  split at hj
  ·rename_i hlt
   obtain⟨c,h1,h2⟩:=spanL_get digitI s.data.toList j hlt
   rw[h1]at hj
   cases hj
   exact h2
  ·cases hj
 have ht:(s.extract 0 (spanL digitI s.data.toList)).size≤s.size:=by simp;omega
 generalize hk:spanL digitI s.data.toList=k at hl hd ht⊢
 have e0:Int.toNat ((k:Nat):Int)=k:=by omega
 rw[e0]
 refine Rs.pos (show(0:Int)≤0∧(0:Int)≤((k:Nat):Int)∧((k:Nat):Int)≤((s.size:Nat):Int)by omega) ?_
 generalize s.extract 0 k=t at hd ht⊢
 have hloop:=num_loop q s t hd q 0 0 (Nat.zero_le _) (by omega) (by omega) (by omega)
 rw[List.drop_zero]at hloop
 have tail:¬(1<t.size∧t.data.toList[0]? =some 48)→Rs ((lnum_l0 (spanD q) q s (t,0,0)).bind fun z16=>Sum.elim (fun z16a=>(some (((0:Int),(0:Int),{data:=#[]},(0:Int),(5:Int))):Option g_lnum)) (fun z16b=>some (((2:Int),(0:Int),z16b.1,z16b.2,(0:Int)))) z16) (fun z=>z=tokE (numberP t)):=by
  intro hno
  refine Rs.bind hloop fun r hr=>?_
  unfold numberP
  rw[if_neg hno]
  by_cases hv:valI 0 t.data.toList>2147483647
  ·rw[if_pos hv]at hr⊢
   subst hr
   exact Rs.some rfl
  ·rw[if_neg hv]at hr⊢
   subst hr
   exact Rs.some rfl
 by_cases h1:1<t.size
 ·refine Rs.pos (decide_eq_true (show((t.size:Nat):Int)>1 by omega)) (Rs.pos (show(0:Int)≤0∧(0:Int)< ((t.size:Nat):Int)by omega) ?_)
  have hg:=drop_get t 0 (by omega)
  rw[List.drop_zero]at hg
  have hb:List.getD t.data.toList 0 (0:UInt8)=t.get! 0:=by rw[hg];rfl
  rw[hb]
  by_cases hc:(((t.get! 0).toNat:Nat):Int)=48
  ·refine Rs.pos (by simpa using hc) (Rs.some ?_)
   unfold numberP
   rw[if_pos ⟨h1,by rw[hg];simp only[List.getElem?_cons_zero,Option.some.injEq];exact UInt8.toNat_inj.1 (by show(t.get! 0).toNat=48;omega)⟩]
   rfl
  ·refine Rs.neg (by simpa using hc) (tail fun h=>hc ?_)
   have:=h.2
   rw[hg]at this
   simp only[List.getElem?_cons_zero,Option.some.injEq]at this
   rw[this];rfl
 ·exact Rs.neg (fun h=>h1 (by have:=of_decide_eq_true h;omega)) (tail fun h=>h1 h.1)
end Go.Proofs.YtjfkkokeegpeiaaGreatDoor
/- The reference's lexer: symbols. -/
namespace Go.Proofs.YtjfkkokeegpeiaaGreatDoor
open Go Go.Am Go.Proofs.Lx
set_option maxRecDepth 100000
theorem Rs.ite{α:Type}{c:Prop}{i:Decidable c}{a b:Option α}{P:α→Prop}(h:c→Rs a P)(g:¬c→Rs b P):Rs (@ite _ c i a b) P:=by
 by_cases hc:c
 ·rw[_root_.if_pos hc];exact h hc
 ·rw[_root_.if_neg hc];exact g hc
end Go.Proofs.YtjfkkokeegpeiaaGreatDoor
/- The reference's lexer: one token. -/
namespace Go.Proofs.YtjfkkokeegpeiaaGreatDoor
open Go Go.Am Go.Proofs.Lx
set_option maxRecDepth 100000
def oneP(s:ByteArray)(p:Nat):Tkn×Int:=if(tokP s p).2=0 then({(tokP s p).1 with a:=p},0)else(noTok,(tokP s p).2)
end Go.Proofs.YtjfkkokeegpeiaaGreatDoor
/- The program's lexer: the plain one. -/
namespace Go.Proofs.YtjfkkokeegpeiaaGreatDoor
open Go Go.Am Go.Proofs.Lx
set_option maxRecDepth 100000
abbrev TkT:Type:=(Nat→Int)×(Nat→ByteArray)×(Nat→Int)×(Nat→Int)
def RepK(l:List Tkn)(a:TkT):Prop:=∀j x,l[j]? =some x→a.1 j=x.k∧a.2.1 j=x.t∧a.2.2.1 j=x.n∧a.2.2.2 j=x.a
theorem RepK.push{l:List Tkn}{a:TkT}(h:RepK l a)(x:Tkn):RepK (l++[x]) (fun j=>if j<l.length then a.1 j else x.k,fun j=>if j<l.length then a.2.1 j else x.t,fun j=>if j<l.length then a.2.2.1 j else x.n,fun j=>if j<l.length then a.2.2.2 j else x.a):=by
 intro j y e
 by_cases hj:j<l.length
 ·rw[List.getElem?_append_left hj]at e
  simp only[hj,if_true]
  exact h j y e
 ·rw[List.getElem?_append_right (by omega)]at e
  simp only[hj,if_false]
  cases hk:j-l.length with
  |zero=>rw[hk]at e;simp only[List.getElem?_cons_zero,Option.some.injEq]at e;subst e;exact⟨rfl,rfl,rfl,rfl⟩
  |succ n=>rw[hk]at e;simp at e
theorem RepK.one(x:Tkn):RepK [x] (fun _=>x.k,fun _=>x.t,fun _=>x.n,fun _=>x.a):=by
 intro j y e
 cases j with
 |zero=>simp only[List.getElem?_cons_zero,Option.some.injEq]at e;subst e;exact⟨rfl,rfl,rfl,rfl⟩
 |succ j=>simp at e
def endT(s:ByteArray):Tkn:=⟨0,(s.size:Nat),⟨#[]⟩,0⟩
def TL(s:ByteArray):Tokens_l0_g→Prop
 | .inl z=>∃p:Nat,z.1=(p:Int)∧z.2≠0∧Lex s 0 [] ([],p,z.2)
 | .inr (.inl _)=>Lex s 0 [] ([endT s],0,0)
 | .inr (.inr z)=>∃acc:List Tkn,z.1=acc.length∧acc.length≤s.size∧RepK acc (z.2.1,z.2.2.2.1,z.2.2.2.2,z.2.2.1)∧Lex s 0 [] (acc++[endT s],0,0)
def TS(acc:List Tkn)(p d:Nat):Tokens_l0_a→Prop
 | .inl y=>acc=[]∧y=(p,((d:Nat):Int))
 | .inr y=>∃(a:TkT) (n:Nat),y=(((d:Nat):Int),a.1,a.2.1,a.2.2.1,a.2.2.2,p,n)∧n=acc.length∧RepK acc a
theorem tokP_word{s:ByteArray}{p:Nat}(h:letterI ((s.get! p).toNat:Int)=true):tokP s p=wordP (s.extract p s.size):=by unfold tokP;rw[if_pos h]
theorem tokP_num{s:ByteArray}{p:Nat}(h:¬letterI ((s.get! p).toNat:Int)=true)(h2:digitI ((s.get! p).toNat:Int)=true):tokP s p=numberP ((s.extract p s.size).extract 0 (spanL digitI (s.extract p s.size).data.toList)):=by unfold tokP;rw[if_neg h,if_pos h2]
theorem tokP_sym{s:ByteArray}{p:Nat}(h:¬letterI ((s.get! p).toNat:Int)=true)(h2:¬digitI ((s.get! p).toNat:Int)=true):tokP s p=symbolP (s.extract p s.size):=by unfold tokP;rw[if_neg h,if_neg h2]
theorem white_iff(c:Int):whiteI c=true↔c=32∨c=9∨c=10∨c=13:=by simp[whiteI]
set_option maxHeartbeats 1000000 in
theorem tok_loop(q:Nat)(s:ByteArray)(hs:s.size≤4000)(hq:4000<q):∀(m p d:Nat) (acc:List Tkn) (y:Tokens_l0_a),TS acc p d y→p≤s.size→d≤s.size→s.size-p<m→Bd s p d→acc.length≤max p d→(∀r,Lex s (max p d) acc r→Lex s 0 [] r)→
 Rs (Tokens_l0 (letter q) (digit q) (spanN q) (word q) (lnum q) (lsym q) m s y) (TL s):=by
 intro m
 induction m with
 |zero=>intro p d acc y _ _ _ h;omega
 |succ m ih=>
  intro p d acc y hy hp hd hm hbd hacc hinv
  unfold Tokens_l0
  refine Rs.step3 fun Q hQ=>?_
  have e1:Int.toNat ((p:Nat):Int)=p:=by omega
  have e2:Int.toNat ((s.size:Nat):Int)=s.size:=by omega
  have hr:(s.extract p s.size).size=s.size-p:=ext_size s p
  rcases y with y|y
  ·obtain⟨rfl,rfl⟩:=hy
   rw[Sum.elim_inl]
   unfold Tokens_l0_t0
   dsimp only
   by_cases hlt:p<s.size
   ·obtain⟨hw1,hw2,_⟩:=decode_len s p hlt
    refine Rs.pos hlt ?_
    by_cases hpd:p<d
    ·refine Rs.pos (decide_eq_true (Int.ofNat_lt.2 hpd)) (Rs.some ?_)
     obtain⟨b1,b2⟩:=hbd.step hpd hd
     refine hQ _ (ih (p+(Utf8.decode s p).2) d [] _ ⟨rfl,rfl⟩ hw2 hd (by omega) b2 (by omega) fun r h=>hinv r ?_)
     rwa [Nat.max_eq_right (by omega)]at h⊢
    ·refine Rs.neg (fun h=>hpd (Int.ofNat_lt.1 (of_decide_eq_true h))) (Rs.pos (show(0:Int)≤((p:Nat):Int)∧((p:Nat):Int)≤((s.size:Nat):Int)∧((s.size:Nat):Int)≤((s.size:Nat):Int)by omega) ?_)
     have hmax:max p d=p:=Nat.max_eq_left (by omega)
     rw[hmax]at hinv hacc
     have hi:=hinv
     have e:=get_at s p hlt
     simp only[Nat.add_zero]at e
     have hW:=decode_g s whiteI flat_white p hlt
     have hLt:=decode_g s letterI flat_letter p hlt
     have hDg:=decode_g s digitI flat_digit p hlt
     have hlo:(s.get! p).toNat<128→Utf8.decode s p=((s.get! p).toNat,1):=fun h=>by
      have:=decode_ascii s p hlt (by rw[←e];exact h)
      rw[this,←e]
     have hhi:128≤(s.get! p).toNat→128≤(Utf8.decode s p).1:=fun h=>(decode_high s p hlt (by rw[←e];exact h)).1
     have skip:whiteI (((Utf8.decode s p).1:Nat):Int)=true→Rs (Tokens_l0 (letter q) (digit q) (spanN q) (word q) (lnum q) (lsym q) m s (.inl (p+(Utf8.decode s p).2,((d:Nat):Int)))) (TL s):=by
      intro hwh
      rw[hW]at hwh
      have hb:(s.get! p).toNat<128:=by have:=(white_iff _).1 hwh;omega
      have hd1:=hlo hb
      refine ih _ d [] _ ⟨rfl,rfl⟩ hw2 hd (by omega) (Bd.refl _ _ _ (by omega)) (by omega) fun r h=>hi r (.white hlt hwh ?_)
      rw[hd1]at h
      rwa [Nat.max_eq_left (by show d≤p+1;omega)]at h
     by_cases c1:(((Utf8.decode s p).1:Nat):Int)=32
     ·exact Rs.pos (beq_iff_eq.2 c1) (Rs.some (hQ _ (skip ((white_iff _).2 (.inl c1)))))
     refine Rs.neg (fun h=>c1 (beq_iff_eq.1 h)) ?_
     by_cases c2:(((Utf8.decode s p).1:Nat):Int)=9
     ·exact Rs.pos (beq_iff_eq.2 c2) (Rs.some (hQ _ (skip ((white_iff _).2 (.inr (.inl c2))))))
     refine Rs.neg (fun h=>c2 (beq_iff_eq.1 h)) ?_
     by_cases c3:(((Utf8.decode s p).1:Nat):Int)=10
     ·exact Rs.pos (beq_iff_eq.2 c3) (Rs.some (hQ _ (skip ((white_iff _).2 (.inr (.inr (.inl c3)))))))
     refine Rs.neg (fun h=>c3 (beq_iff_eq.1 h)) ?_
     by_cases c4:(((Utf8.decode s p).1:Nat):Int)=13
     ·exact Rs.pos (beq_iff_eq.2 c4) (Rs.some (hQ _ (skip ((white_iff _).2 (.inr (.inr (.inr c4)))))))
     refine Rs.neg (fun h=>c4 (beq_iff_eq.1 h)) ?_
     have hwf:whiteI ((s.get! p).toNat:Int)=false:=by
      rw[←hW,Bool.eq_false_iff]
      intro h
      rcases(white_iff _).1 h with h|h|h|h
      ·exact c1 h
      ·exact c2 h
      ·exact c3 h
      ·exact c4 h
     rw[e1,e2]
     by_cases c5:(((Utf8.decode s p).1:Nat):Int)=35
     ·have hb:(s.get! p).toNat<128:=by
       rcases Nat.lt_or_ge (s.get! p).toNat 128 with h|h
       ·exact h
       ·have:=hhi h;omega
      have hd1:=hlo hb
      have h35:(s.get! p).toNat=35:=by have hh:=c5;rw[hd1]at hh;dsimp only at hh;omega
      obtain⟨k1,k2,k3⟩:=hash_ok hlt h35
      refine Rs.pos (beq_iff_eq.2 c5) ?_
      rw[spanN_eq q _ (by omega),ext_list s p (by omega)]
      dsimp only[Option.bind_some]
      refine Rs.some (hQ _ ?_)
      have ew:w (((p:Nat):Int)+((spanL ne10 (s.data.toList.drop p):Nat):Int))=((p+spanL ne10 (s.data.toList.drop p):Nat):Int):=by rw[w_in (by omega) (by omega)];omega
      rw[ew]
      obtain⟨b1,b2⟩:=k3.step (by omega) k2
      refine ih (p+(Utf8.decode s p).2) (p+spanL ne10 (s.data.toList.drop p)) [] _ ⟨rfl,rfl⟩ hw2 k2 (by omega) b2 (by omega) fun r h=>hi r (.hash hlt h35 ?_)
      rwa [Nat.max_eq_right b1]at h
     refine Rs.neg (fun h=>c5 (beq_iff_eq.1 h)) ?_
     have h35:(s.get! p).toNat≠35:=fun h=>c5 (by rw[hlo (by omega),h];rfl)
     rw[letter_eq]
     dsimp only[Option.bind_some]
     obtain⟨x,er,hx⟩:∃x er,tokP s p=(x,er):=⟨_,_,rfl⟩
     by_cases cl:letterI (((Utf8.decode s p).1:Nat):Int)=true
     ·refine Rs.pos cl ?_
      have hz:wordP (s.extract p s.size)=(x,er):=by
       rw[hLt]at cl
       exact(tokP_word cl).symm.trans hx
      rw[word_eq q _ (by omega),hz]
      dsimp only[Option.bind_some]
      refine Rs.ite (fun he=>?_) (fun he=>?_)
      ·refine Rs.some ?_
       have he':er≠0:=by simpa[tokE]using he
       exact⟨p,rfl,he',hi _ (.err hlt hwf h35 hx he')⟩
      ·have he':er=0:=by simpa[tokE]using he
       subst he'
       obtain⟨o1,o2,o3,o4,o5⟩:=tokP_ok hlt hx
       refine Rs.some (hQ _ ?_)
       have ew:w (((p:Nat):Int)+((x.t.size:Nat):Int))=((p+x.t.size:Nat):Int):=by rw[w_in (by omega) (by omega)];omega
       dsimp only[tokE]
       rw[ew]
       have hbs:Bd s p (p+x.t.size):=.inl o5
       obtain⟨b1,b2⟩:=hbs.step (by omega) o3
       refine ih (p+(Utf8.decode s p).2) (p+x.t.size) ([]++[{x with a:=(p:Int)}]) _ ⟨_,_,rfl,rfl,RepK.one {x with a:=(p:Int)}⟩ hw2 o3 (by omega) b2 (by simp;omega) fun r h=>hi r (.tok hlt hwf h35 hx ?_)
       rwa [Nat.max_eq_right b1]at h
     refine Rs.neg cl ?_
     rw[digit_eq]
     dsimp only[Option.bind_some]
     by_cases cd:digitI (((Utf8.decode s p).1:Nat):Int)=true
     ·refine Rs.pos cd ?_
      have hz:numberP ((s.extract p s.size).extract 0 (spanL digitI (s.extract p s.size).data.toList))=(x,er):=by
       rw[hLt]at cl
       rw[hDg]at cd
       exact(tokP_num cl cd).symm.trans hx
      refine Rs.bind (lnum_rs q _ (by omega)) fun z hzz=>?_
      rw[hz]at hzz
      subst hzz
      refine Rs.ite (fun he=>?_) (fun he=>?_)
      ·refine Rs.some ?_
       have he':er≠0:=by simpa[tokE]using he
       exact⟨p,rfl,he',hi _ (.err hlt hwf h35 hx he')⟩
      ·have he':er=0:=by simpa[tokE]using he
       subst he'
       obtain⟨o1,o2,o3,o4,o5⟩:=tokP_ok hlt hx
       refine Rs.some (hQ _ ?_)
       have ew:w (((p:Nat):Int)+((x.t.size:Nat):Int))=((p+x.t.size:Nat):Int):=by rw[w_in (by omega) (by omega)];omega
       dsimp only[tokE]
       rw[ew]
       have hbs:Bd s p (p+x.t.size):=.inl o5
       obtain⟨b1,b2⟩:=hbs.step (by omega) o3
       refine ih (p+(Utf8.decode s p).2) (p+x.t.size) ([]++[{x with a:=(p:Int)}]) _ ⟨_,_,rfl,rfl,RepK.one {x with a:=(p:Int)}⟩ hw2 o3 (by omega) b2 (by simp;omega) fun r h=>hi r (.tok hlt hwf h35 hx ?_)
       rwa [Nat.max_eq_right b1]at h
     refine Rs.neg cd ?_
     have hz:symbolP (s.extract p s.size)=(x,er):=by
      rw[hLt]at cl
      rw[hDg]at cd
      exact(tokP_sym cl cd).symm.trans hx
     refine Rs.bind (lsym_rs q _ (by omega)) fun z hzz=>?_
     rw[hz]at hzz
     subst hzz
     refine Rs.ite (fun he=>?_) (fun he=>?_)
     ·refine Rs.some ?_
      have he':er≠0:=by simpa[tokE]using he
      exact⟨p,rfl,he',hi _ (.err hlt hwf h35 hx he')⟩
     ·have he':er=0:=by simpa[tokE]using he
      subst he'
      obtain⟨o1,o2,o3,o4,o5⟩:=tokP_ok hlt hx
      refine Rs.some (hQ _ ?_)
      have ew:w (((p:Nat):Int)+((x.t.size:Nat):Int))=((p+x.t.size:Nat):Int):=by rw[w_in (by omega) (by omega)];omega
      dsimp only[tokE]
      rw[ew]
      have hbs:Bd s p (p+x.t.size):=.inl o5
      obtain⟨b1,b2⟩:=hbs.step (by omega) o3
      refine ih (p+(Utf8.decode s p).2) (p+x.t.size) ([]++[{x with a:=(p:Int)}]) _ ⟨_,_,rfl,rfl,RepK.one {x with a:=(p:Int)}⟩ hw2 o3 (by omega) b2 (by simp;omega) fun r h=>hi r (.tok hlt hwf h35 hx ?_)
      rwa [Nat.max_eq_right b1]at h
   ·refine Rs.neg hlt (Rs.some ?_)
    exact hinv _ (.fin (by omega))
  ·obtain⟨a,_,rfl,rfl,ha⟩:=hy
   rw[Sum.elim_inr]
   unfold Tokens_l0_t1
   dsimp only
   by_cases hlt:p<s.size
   ·obtain⟨hw1,hw2,_⟩:=decode_len s p hlt
    refine Rs.pos hlt ?_
    by_cases hpd:p<d
    ·refine Rs.pos (decide_eq_true (Int.ofNat_lt.2 hpd)) (Rs.some ?_)
     obtain⟨b1,b2⟩:=hbd.step hpd hd
     refine hQ _ (ih (p+(Utf8.decode s p).2) d acc _ ⟨a,_,rfl,rfl,ha⟩ hw2 hd (by omega) b2 (by omega) fun r h=>hinv r ?_)
     rwa [Nat.max_eq_right (by omega)]at h⊢
    ·refine Rs.neg (fun h=>hpd (Int.ofNat_lt.1 (of_decide_eq_true h))) (Rs.pos (show(0:Int)≤((p:Nat):Int)∧((p:Nat):Int)≤((s.size:Nat):Int)∧((s.size:Nat):Int)≤((s.size:Nat):Int)by omega) ?_)
     have hmax:max p d=p:=Nat.max_eq_left (by omega)
     rw[hmax]at hinv hacc
     have hi:=hinv
     have e:=get_at s p hlt
     simp only[Nat.add_zero]at e
     have hW:=decode_g s whiteI flat_white p hlt
     have hLt:=decode_g s letterI flat_letter p hlt
     have hDg:=decode_g s digitI flat_digit p hlt
     have hlo:(s.get! p).toNat<128→Utf8.decode s p=((s.get! p).toNat,1):=fun h=>by
      have:=decode_ascii s p hlt (by rw[←e];exact h)
      rw[this,←e]
     have hhi:128≤(s.get! p).toNat→128≤(Utf8.decode s p).1:=fun h=>(decode_high s p hlt (by rw[←e];exact h)).1
     have skip:whiteI (((Utf8.decode s p).1:Nat):Int)=true→Rs (Tokens_l0 (letter q) (digit q) (spanN q) (word q) (lnum q) (lsym q) m s (.inr (((d:Nat):Int),a.1,a.2.1,a.2.2.1,a.2.2.2,p+(Utf8.decode s p).2,acc.length))) (TL s):=by
      intro hwh
      rw[hW]at hwh
      have hb:(s.get! p).toNat<128:=by have:=(white_iff _).1 hwh;omega
      have hd1:=hlo hb
      refine ih _ d acc _ ⟨a,_,rfl,rfl,ha⟩ hw2 hd (by omega) (Bd.refl _ _ _ (by omega)) (by omega) fun r h=>hi r (.white hlt hwh ?_)
      rw[hd1]at h
      rwa [Nat.max_eq_left (by show d≤p+1;omega)]at h
     by_cases c1:(((Utf8.decode s p).1:Nat):Int)=32
     ·exact Rs.pos (beq_iff_eq.2 c1) (Rs.some (hQ _ (skip ((white_iff _).2 (.inl c1)))))
     refine Rs.neg (fun h=>c1 (beq_iff_eq.1 h)) ?_
     by_cases c2:(((Utf8.decode s p).1:Nat):Int)=9
     ·exact Rs.pos (beq_iff_eq.2 c2) (Rs.some (hQ _ (skip ((white_iff _).2 (.inr (.inl c2))))))
     refine Rs.neg (fun h=>c2 (beq_iff_eq.1 h)) ?_
     by_cases c3:(((Utf8.decode s p).1:Nat):Int)=10
     ·exact Rs.pos (beq_iff_eq.2 c3) (Rs.some (hQ _ (skip ((white_iff _).2 (.inr (.inr (.inl c3)))))))
     refine Rs.neg (fun h=>c3 (beq_iff_eq.1 h)) ?_
     by_cases c4:(((Utf8.decode s p).1:Nat):Int)=13
     ·exact Rs.pos (beq_iff_eq.2 c4) (Rs.some (hQ _ (skip ((white_iff _).2 (.inr (.inr (.inr c4)))))))
     refine Rs.neg (fun h=>c4 (beq_iff_eq.1 h)) ?_
     have hwf:whiteI ((s.get! p).toNat:Int)=false:=by
      rw[←hW,Bool.eq_false_iff]
      intro h
      rcases(white_iff _).1 h with h|h|h|h
      ·exact c1 h
      ·exact c2 h
      ·exact c3 h
      ·exact c4 h
     rw[e1,e2]
     by_cases c5:(((Utf8.decode s p).1:Nat):Int)=35
     ·have hb:(s.get! p).toNat<128:=by
       rcases Nat.lt_or_ge (s.get! p).toNat 128 with h|h
       ·exact h
       ·have:=hhi h;omega
      have hd1:=hlo hb
      have h35:(s.get! p).toNat=35:=by have hh:=c5;rw[hd1]at hh;dsimp only at hh;omega
      obtain⟨k1,k2,k3⟩:=hash_ok hlt h35
      refine Rs.pos (beq_iff_eq.2 c5) ?_
      rw[spanN_eq q _ (by omega),ext_list s p (by omega)]
      dsimp only[Option.bind_some]
      refine Rs.some (hQ _ ?_)
      have ew:w (((p:Nat):Int)+((spanL ne10 (s.data.toList.drop p):Nat):Int))=((p+spanL ne10 (s.data.toList.drop p):Nat):Int):=by rw[w_in (by omega) (by omega)];omega
      rw[ew]
      obtain⟨b1,b2⟩:=k3.step (by omega) k2
      refine ih (p+(Utf8.decode s p).2) (p+spanL ne10 (s.data.toList.drop p)) acc _ ⟨a,_,rfl,rfl,ha⟩ hw2 k2 (by omega) b2 (by omega) fun r h=>hi r (.hash hlt h35 ?_)
      rwa [Nat.max_eq_right b1]at h
     refine Rs.neg (fun h=>c5 (beq_iff_eq.1 h)) ?_
     have h35:(s.get! p).toNat≠35:=fun h=>c5 (by rw[hlo (by omega),h];rfl)
     rw[letter_eq]
     dsimp only[Option.bind_some]
     obtain⟨x,er,hx⟩:∃x er,tokP s p=(x,er):=⟨_,_,rfl⟩
     by_cases cl:letterI (((Utf8.decode s p).1:Nat):Int)=true
     ·refine Rs.pos cl ?_
      have hz:wordP (s.extract p s.size)=(x,er):=by
       rw[hLt]at cl
       exact(tokP_word cl).symm.trans hx
      rw[word_eq q _ (by omega),hz]
      dsimp only[Option.bind_some]
      refine Rs.ite (fun he=>?_) (fun he=>?_)
      ·refine Rs.some ?_
       have he':er≠0:=by simpa[tokE]using he
       exact⟨p,rfl,he',hi _ (.err hlt hwf h35 hx he')⟩
      ·have he':er=0:=by simpa[tokE]using he
       subst he'
       obtain⟨o1,o2,o3,o4,o5⟩:=tokP_ok hlt hx
       refine Rs.pos ⟨by unfold roomBound;omega,by unfold maxLen;omega,Nat.le_refl _⟩ ?_
       refine Rs.some (hQ _ ?_)
       have ew:w (((p:Nat):Int)+((x.t.size:Nat):Int))=((p+x.t.size:Nat):Int):=by rw[w_in (by omega) (by omega)];omega
       dsimp only[tokE]
       rw[ew]
       have hbs:Bd s p (p+x.t.size):=.inl o5
       obtain⟨b1,b2⟩:=hbs.step (by omega) o3
       refine ih (p+(Utf8.decode s p).2) (p+x.t.size) (acc++[{x with a:=(p:Int)}]) _ ⟨_,_,rfl,by simp,ha.push {x with a:=(p:Int)}⟩ hw2 o3 (by omega) b2 (by simp;omega) fun r h=>hi r (.tok hlt hwf h35 hx ?_)
       rwa [Nat.max_eq_right b1]at h
     refine Rs.neg cl ?_
     rw[digit_eq]
     dsimp only[Option.bind_some]
     by_cases cd:digitI (((Utf8.decode s p).1:Nat):Int)=true
     ·refine Rs.pos cd ?_
      have hz:numberP ((s.extract p s.size).extract 0 (spanL digitI (s.extract p s.size).data.toList))=(x,er):=by
       rw[hLt]at cl
       rw[hDg]at cd
       exact(tokP_num cl cd).symm.trans hx
      refine Rs.bind (lnum_rs q _ (by omega)) fun z hzz=>?_
      rw[hz]at hzz
      subst hzz
      refine Rs.ite (fun he=>?_) (fun he=>?_)
      ·refine Rs.some ?_
       have he':er≠0:=by simpa[tokE]using he
       exact⟨p,rfl,he',hi _ (.err hlt hwf h35 hx he')⟩
      ·have he':er=0:=by simpa[tokE]using he
       subst he'
       obtain⟨o1,o2,o3,o4,o5⟩:=tokP_ok hlt hx
       refine Rs.pos ⟨by unfold roomBound;omega,by unfold maxLen;omega,Nat.le_refl _⟩ ?_
       refine Rs.some (hQ _ ?_)
       have ew:w (((p:Nat):Int)+((x.t.size:Nat):Int))=((p+x.t.size:Nat):Int):=by rw[w_in (by omega) (by omega)];omega
       dsimp only[tokE]
       rw[ew]
       have hbs:Bd s p (p+x.t.size):=.inl o5
       obtain⟨b1,b2⟩:=hbs.step (by omega) o3
       refine ih (p+(Utf8.decode s p).2) (p+x.t.size) (acc++[{x with a:=(p:Int)}]) _ ⟨_,_,rfl,by simp,ha.push {x with a:=(p:Int)}⟩ hw2 o3 (by omega) b2 (by simp;omega) fun r h=>hi r (.tok hlt hwf h35 hx ?_)
       rwa [Nat.max_eq_right b1]at h
     refine Rs.neg cd ?_
     have hz:symbolP (s.extract p s.size)=(x,er):=by
      rw[hLt]at cl
      rw[hDg]at cd
      exact(tokP_sym cl cd).symm.trans hx
     refine Rs.bind (lsym_rs q _ (by omega)) fun z hzz=>?_
     rw[hz]at hzz
     subst hzz
     refine Rs.ite (fun he=>?_) (fun he=>?_)
     ·refine Rs.some ?_
      have he':er≠0:=by simpa[tokE]using he
      exact⟨p,rfl,he',hi _ (.err hlt hwf h35 hx he')⟩
     ·have he':er=0:=by simpa[tokE]using he
      subst he'
      obtain⟨o1,o2,o3,o4,o5⟩:=tokP_ok hlt hx
      refine Rs.pos ⟨by unfold roomBound;omega,by unfold maxLen;omega,Nat.le_refl _⟩ ?_
      refine Rs.some (hQ _ ?_)
      have ew:w (((p:Nat):Int)+((x.t.size:Nat):Int))=((p+x.t.size:Nat):Int):=by rw[w_in (by omega) (by omega)];omega
      dsimp only[tokE]
      rw[ew]
      have hbs:Bd s p (p+x.t.size):=.inl o5
      obtain⟨b1,b2⟩:=hbs.step (by omega) o3
      refine ih (p+(Utf8.decode s p).2) (p+x.t.size) (acc++[{x with a:=(p:Int)}]) _ ⟨_,_,rfl,by simp,ha.push {x with a:=(p:Int)}⟩ hw2 o3 (by omega) b2 (by simp;omega) fun r h=>hi r (.tok hlt hwf h35 hx ?_)
      rwa [Nat.max_eq_right b1]at h
   ·refine Rs.neg hlt (Rs.some ?_)
    exact⟨acc,rfl,by omega,ha,hinv _ (.fin (by omega))⟩
end Go.Proofs.YtjfkkokeegpeiaaGreatDoor
/- The program's tokens: what the plain lexer says; what is true of them. -/
namespace Go.Proofs.YtjfkkokeegpeiaaGreatDoor
open Go Go.Am Go.Proofs.Lx
set_option maxRecDepth 100000
def Good(x:Tkn):Prop:=(x.k≠3→levP x.t=0)∧(x.k=1→x.t.size≤12∧∀c∈x.t.data.toList,c≠32)
theorem end_good(s:ByteArray):Good (endT s):=⟨fun _=>(by decide:levP ⟨#[]⟩=0),fun h=>absurd h (show¬(0:Int)=1 by decide)⟩
theorem lev_zero{t:ByteArray}(h:∀c∈t.data.toList,wordI c.toNat=true):levP t=0:=by
 have no:∀(b:UInt8) (l:List UInt8),wordI b.toNat=false→t≠⟨(b::l).toArray⟩:=by
  intro b l hb e
  have:=h b (by rw[e];simp)
  rw[hb]at this;cases this
 unfold levP
 rw[if_neg (no 124 [124] (by decide)),if_neg (no 38 [38] (by decide)),if_neg,if_neg,if_neg]
 ·rintro(e|e)
  ·exact no 42 [] (by decide) e
  ·exact no 47 [] (by decide) e
 ·rintro(e|e)
  ·exact no 43 [] (by decide) e
  ·exact no 45 [] (by decide) e
 ·rintro(e|e|e|e|e|e)
  ·exact no 60 [] (by decide) e
  ·exact no 60 [61] (by decide) e
  ·exact no 62 [] (by decide) e
  ·exact no 62 [61] (by decide) e
  ·exact no 61 [61] (by decide) e
  ·exact no 33 [61] (by decide) e
theorem span_all_g(g:Int→Bool)(s:ByteArray):∀c∈(s.extract 0 (spanL g s.data.toList)).data.toList,g c.toNat=true:=by
 intro b hb
 rw[extract_list]at hb
 simp only[List.drop_zero,Nat.sub_zero]at hb
 obtain⟨j,hj⟩:=List.mem_iff_getElem?.1 hb
 rw[List.getElem?_take]at hj
 split at hj
 ·rename_i hlt
  obtain⟨c,h1,h2⟩:=spanL_get g s.data.toList j hlt
  rw[h1]at hj
  cases hj
  exact h2
 ·cases hj
theorem digit_word{c:Int}(h:digitI c=true):wordI c=true:=by unfold wordI;rw[h];simp
theorem word_no32{c:UInt8}(h:wordI c.toNat=true):c≠32:=by rintro rfl;revert h;decide
theorem tokP_good{s:ByteArray}{p:Nat}{x:Tkn}(h:tokP s p=(x,0)):Good x:=by
 by_cases h1:letterI ((s.get! p).toNat:Int)=true
 ·rw[tokP_word h1]at h
  unfold wordP at h
  split at h
  ·cases h
  ·rename_i h12
   cases h
   have hw:=span_all_g wordI (s.extract p s.size)
   refine⟨fun _=>lev_zero hw,fun _=>⟨?_,fun c hc=>word_no32 (hw c hc)⟩⟩
   have:=span_len wordI (s.extract p s.size)
   simp only[ByteArray.size_extract]at*
   omega
 ·by_cases h2:digitI ((s.get! p).toNat:Int)=true
  ·rw[tokP_num h1 h2]at h
   have hw:=span_all_g digitI (s.extract p s.size)
   unfold numberP at h
   split at h
   ·cases h
   ·split at h
    ·cases h
    ·cases h
     exact⟨fun _=>lev_zero fun c hc=>digit_word (hw c hc),fun h=>absurd h (show¬(2:Int)=1 by decide)⟩
  ·rw[tokP_sym h1 h2]at h
   unfold symbolP at h
   split at h
   ·cases h
   ·cases h
    exact⟨fun h=>absurd rfl h,fun h=>absurd h (show¬(3:Int)=1 by decide)⟩
theorem lex_good{s:ByteArray}{p:Nat}{acc:List Tkn}{r:List Tkn×Nat×Int}(h:Lex s p acc r):(∀x∈acc,Good x)→∀x∈r.1,Good x:=by
 induction h with
 |fin _=>
  intro ha x hx
  rcases List.mem_append.1 hx with h|h
  ·exact ha x h
  ·simp only[List.mem_singleton]at h;subst h;exact end_good s
 |white _ _ _ ih=>exact ih
 |hash _ _ _ ih=>exact ih
 |tok h1 h2 h3 h4 _ ih=>
  intro ha
  refine ih fun x hx=>?_
  rcases List.mem_append.1 hx with h|h
  ·exact ha x h
  ·simp only[List.mem_singleton]at h;subst h;exact⟨(tokP_good h4).1,(tokP_good h4).2⟩
 |err _ _ _ _ _=>intro _ x hx;cases hx
def tokAt(s:ByteArray)(l:List Tkn)(j:Nat):Tkn:=l.getD j (endT s)
theorem tokN_of{s:ByteArray}{acc:List Tkn}(hs:acc.length≤4000)(hg:∀x∈acc,Good x):TokN (acc.length+1) (tokAt s acc):=by
 have he:∀j,tokAt s acc j=endT s∨tokAt s acc j∈acc:=by
  intro j
  unfold tokAt
  rw[List.getD_eq_getElem?_getD]
  cases h:acc[j]?with
  |none=>exact .inl rfl
  |some x=>exact .inr (List.mem_of_getElem? h)
 have hgood:∀j,Good (tokAt s acc j):=fun j=>by
  rcases he j with h|h
  ·rw[h];exact end_good s
  ·exact hg _ h
 have hlast:tokAt s acc (acc.length+1-1)=endT s:=by
  unfold tokAt
  rw[List.getD_eq_getElem?_getD,List.getElem?_eq_none (by omega)]
  rfl
 exact⟨by omega,by omega,by rw[hlast];rfl,by rw[hlast];rfl,fun j=>(hgood j).1,fun j=>(hgood j).2⟩
theorem tokens_law0(s:ByteArray)(q:Nat)(hq:5000<q):
 (∃z:g_TokensV,TokensV q s=some z∧z.2.1≠0∧z.2.2.1=0∧∃p:Nat,z.1=(p:Int)∧TokensR s ([],p,z.2.1))∨
 (∃acc:List Tkn,TokensV q s=some (0,0,tokV (acc.length+1) (tokAt s acc))∧TokN (acc.length+1) (tokAt s acc)∧TokensR s (acc++[endT s],0,0)):=by
 unfold TokensV Tokens t_Tokens
 by_cases hbig:4000<s.size
 ·refine .inl ⟨(4000,2,0,fun _=>0,fun _=>0,fun _=>ByteArray.empty,fun _=>0),?_,by decide,rfl,4000,rfl,.inl ⟨hbig,rfl⟩⟩
  rw[if_pos (decide_eq_true (show((s.size:Nat):Int)>4000 by omega))]
  rfl
 ·have hs:s.size≤4000:=by omega
  rw[if_neg (fun h=>hbig (by have:=of_decide_eq_true h;omega))]
  obtain⟨z,h1,h2⟩:=tok_loop q s hs (by omega) q 0 0 [] (.inl (0,0)) ⟨rfl,rfl⟩ (Nat.zero_le _) (Nat.zero_le _) (by omega) (Bd.refl _ _ _ (Nat.le_refl _)) (Nat.zero_le _) (fun r h=>h)
  rw[h1]
  dsimp only[Option.bind_some]
  rcases z with z|z|z
  ·obtain⟨p,g1,g2,g3⟩:=h2
   exact .inl ⟨_,rfl,g2,rfl,p,g1,.inr ⟨hs,g3⟩⟩
  ·refine .inr ⟨[],?_,tokN_of (by simp) (by simp),.inr ⟨hs,h2⟩⟩
   rfl
  ·obtain⟨acc,g1,g2,g3,g4⟩:=h2
   have hgood:=lex_good g4 (by simp)
   have hN:=tokN_of (s:=s) (acc:=acc) (by omega) (fun x hx=>hgood x (List.mem_append_left _ hx))
   refine .inr ⟨acc,?_,hN,.inr ⟨hs,g4⟩⟩
   obtain⟨n,k,a,t,v⟩:=z
   dsimp only at g1 g3⊢
   subst g1
   have key:∀j,(if j<acc.length then k j else 0)=(tokAt s acc j).k∧(if j<acc.length then a j else((s.size:Nat):Int))=(tokAt s acc j).a∧(if j<acc.length then t j else⟨#[]⟩)=(tokAt s acc j).t∧(if j<acc.length then v j else 0)=(tokAt s acc j).n:=by
    intro j
    unfold tokAt
    by_cases hj:j<acc.length
    ·have e:=List.getElem?_eq_getElem hj
     obtain⟨k1,k2,k3,k4⟩:=g3 j _ e
     simp only[hj,if_true]
     rw[List.getD_eq_getElem?_getD,e]
     exact⟨k1,k4,k2,k3⟩
    ·simp only[hj,if_false]
     rw[List.getD_eq_getElem?_getD,List.getElem?_eq_none (by omega)]
     exact⟨rfl,rfl,rfl,rfl⟩
   show Option.map cv_Tokens (if _ then some (Sum.inr _)else none)=_
   rw[if_pos ⟨by unfold roomBound;omega,by unfold maxLen;omega,Nat.le_refl _⟩]
   show some _=some _
   have f1:(fun j=>if j<acc.length then k j else 0)=fun j=>(tokAt s acc j).k:=funext fun j=>(key j).1
   have f2:(fun j=>if j<acc.length then a j else((s.size:Nat):Int))=fun j=>(tokAt s acc j).a:=funext fun j=>(key j).2.1
   have f3:(fun j=>if j<acc.length then t j else(⟨#[]⟩:ByteArray))=fun j=>(tokAt s acc j).t:=funext fun j=>(key j).2.2.1
   have f4:(fun j=>if j<acc.length then v j else 0)=fun j=>(tokAt s acc j).n:=funext fun j=>(key j).2.2.2
   unfold tokV
   rw[←f1,←f2,←f3,←f4]
   rfl
theorem tokens_law(s:ByteArray)(q:Nat)(hq:5000<q):
 (∃z:g_TokensV,TokensV q s=some z∧z.2.1≠0∧∃p:Nat,z.1=(p:Int)∧TokensR s ([],p,z.2.1))∨
 (∃acc:List Tkn,TokensV q s=some (0,0,tokV (acc.length+1) (tokAt s acc))∧TokN (acc.length+1) (tokAt s acc)∧TokensR s (acc++[endT s],0,0)):=
 (tokens_law0 s q hq).imp (fun⟨z,h1,h2,_,h3⟩=>⟨z,h1,h2,h3⟩) id
end Go.Proofs.YtjfkkokeegpeiaaGreatDoor
/- The reference's parser, its small functions: where nothing is bad as the plain one, where something is bad nothing changes. -/
namespace Go.Proofs.YtjfkkokeegpeiaaGreatDoor
open Go Go.Am Go.Proofs.Lx
set_option maxRecDepth 100000
def rst(N:Nat)(T:Nat→Tkn)(p:Nat)(o b l:Int)(nv:Nat)(vs:Nat→ByteArray):g_rfail:=(((p:Nat):Int),o,b,l,N,fun j=>(T j).k,fun j=>(T j).a,fun j=>(T j).t,fun j=>(T j).n,nv,vs)
section
variable {N:Nat} {T:Nat→Tkn} {p:Nat} {o l:Int} {nv:Nat} {vs:Nat→ByteArray}
theorem rfail_ok(q:Nat)(e:Int)(hp:p<N):rfail q (e,rst N T p o 0 l nv vs)=some (rst N T p o e (T p).a nv vs):=by
 unfold rfail t_rfail
 refine(if_pos (show((0:Int)==0)=true from rfl)).trans ((if_pos (show(0:Int)≤((p:Nat):Int)∧((p:Nat):Int)< ((N:Nat):Int)by omega)).trans ?_)
 rfl
end
end Go.Proofs.YtjfkkokeegpeiaaGreatDoor
/- The reference's parser: where something is bad, number and name change nothing. -/
namespace Go.Proofs.YtjfkkokeegpeiaaGreatDoor
open Go Go.Am Go.Proofs.Lx
set_option maxRecDepth 100000
theorem rfail_bad'(q:Nat)(e:Int)(x:g_rfail)(hb:x.2.2.1≠0):rfail q (e,x)=some x:=by
 unfold rfail t_rfail
 exact if_neg (fun h=>hb (beq_iff_eq.1 h))
end Go.Proofs.YtjfkkokeegpeiaaGreatDoor
/- The reference's parser against the plain one: states, answers, how they are joined. -/
namespace Go.Proofs.YtjfkkokeegpeiaaGreatDoor
open Go Go.Am Go.Proofs.Lx
set_option maxRecDepth 100000
def XG(N:Nat)(T:Nat→Tkn)(s:PS)(x:g_rfail):Prop:=∃l v,x=rst N T s.p ((s.o:Nat):Int) 0 l s.vs.length v∧Ag v s.vs∧s.p<N∧s.o≤12∧s.vs.length≤12
def XB(N:Nat)(T:Nat→Tkn)(p:Nat)(c:Int)(x:g_rfail):Prop:=c≠0∧∃p' o nv v,x=rst N T p' o c (T p).a nv v∧p'<N
def PV{ζ α:Type}(N:Nat)(T:Nat→Tkn)(pj:ζ→g_rfail)(R:α→ζ→Prop)(r:PR α)(z:ζ):Prop:=match r with
 | .ok a s=>R a z∧XG N T s (pj z)
 | .err p c=>p<N∧XB N T p c (pj z)
 | .out=>False
section
variable {N:Nat} {T:Nat→Tkn}
theorem PV.seq{ζ ξ α β:Type}{pj:ζ→g_rfail}{R:α→ζ→Prop}{pk:ξ→g_rfail}{S:β→ξ→Prop}{o:Option ζ}{k:ζ→Option ξ}{r:PR α}{f:α→PS→PR β}(h:Rs o (PV N T pj R r))
 (hok:∀a s z,r= .ok a s→R a z→XG N T s (pj z)→Rs (k z) (PV N T pk S (f a s)))
 (hbad:∀p c z,XB N T p c (pj z)→Rs (k z) (fun y=>XB N T p c (pk y))):Rs (o.bind k) (PV N T pk S (r.bind f)):=by
 obtain⟨z,rfl,hz⟩:=h
 cases r with
 |ok a s=>exact hok a s z rfl hz.1 hz.2
 |err p c=>
  obtain⟨y,h1,h2⟩:=hbad p c z hz.2
  exact⟨y,h1,hz.1,h2⟩
 |out=>exact hz.elim
theorem PV.last{ζ ξ α:Type}{pj:ζ→g_rfail}{R:α→ζ→Prop}{pk:ξ→g_rfail}{S:α→ξ→Prop}{o:Option ζ}{k:ζ→Option ξ}{r:PR α}(h:Rs o (PV N T pj R r))
 (hok:∀a s z,r= .ok a s→R a z→XG N T s (pj z)→Rs (k z) (fun y=>S a y∧XG N T s (pk y)))
 (hbad:∀p c z,XB N T p c (pj z)→Rs (k z) (fun y=>XB N T p c (pk y))):Rs (o.bind k) (PV N T pk S r):=by
 obtain⟨z,rfl,hz⟩:=h
 cases r with
 |ok a s=>exact hok a s z rfl hz.1 hz.2
 |err p c=>
  obtain⟨y,h1,h2⟩:=hbad p c z hz.2
  exact⟨y,h1,hz.1,h2⟩
 |out=>exact hz.elim
variable {s:PS} {x:g_rfail} {p:Nat} {c:Int}
theorem XB.bad(h:XB N T p c x):x.2.2.1≠0:=by
 obtain⟨h1,p',o,nv,v,rfl,_⟩:=h
 exact h1
theorem XG.adv(hT:TokN N T)(h:XG N T s x)(hk:(T s.p).t≠⟨#[]⟩∨(T s.p).k≠0):XG N T (adv s) (w (x.1+1),x.2):=by
 obtain⟨l,v,rfl,h1,h2,h3,h4⟩:=h
 refine⟨l,v,?_,h1,hT.lt h2 hk,h3,h4⟩
 have:=hT.big
 exact Prod.ext (w_succ (by omega)) rfl
theorem XG.close(h:XG N T s x)(ho:1≤s.o):XG N T (closeP s) (x.1,w (x.2.1-1),x.2.2):=by
 obtain⟨l,v,rfl,h1,h2,h3,h4⟩:=h
 refine⟨l,v,?_,h1,h2,(by show s.o-1≤12;omega),h4⟩
 refine Prod.ext rfl (Prod.ext ?_ rfl)
 show w (((s.o:Nat):Int)-1)=((s.o-1:Nat):Int)
 rw[w_in (by omega) (by omega)]
 omega
theorem XG.says(h:XG N T s x){c:Int}(hc:c≠0)(q:Nat):Rs (rfail q (c,x)) (XB N T s.p c):=by
 obtain⟨l,v,rfl,h1,h2,h3,h4⟩:=h
 exact⟨_,rfail_ok q c h2,hc,s.p,_,_,v,rfl,h2⟩
theorem XB.says(h:XB N T p c x)(q:Nat)(e:Int):Rs (rfail q (e,x)) (XB N T p c):=⟨x,rfail_bad' q e x h.bad,h⟩
end
end Go.Proofs.YtjfkkokeegpeiaaGreatDoor
/- The reference's parser against the plain one: opens, number, lists of names, units. -/
namespace Go.Proofs.YtjfkkokeegpeiaaGreatDoor
open Go Go.Am Go.Proofs.Lx
set_option maxRecDepth 100000
section
variable {N:Nat} {T:Nat→Tkn} {s:PS} {x:g_rfail} {p:Nat} {c:Int}
theorem PV.err{ξ β:Type}{pk:ξ→g_rfail}{S:β→ξ→Prop}{o:Option ξ}(hp:p<N)(h:Rs o (fun y=>XB N T p c (pk y))):Rs o (PV N T pk S (.err p c)):=Rs.mono h fun _ hz=>⟨hp,hz⟩
theorem PV.ok{ξ β:Type}{pk:ξ→g_rfail}{S:β→ξ→Prop}{a:β}{y:ξ}(h:S a y)(g:XG N T s (pk y)):Rs (some y) (PV N T pk S (.ok a s)):=⟨y,rfl,h,g⟩
theorem XG.lt(h:XG N T s x):s.p<N:=by obtain⟨l,v,rfl,h1,h2,h3,h4⟩:=h;exact h2
theorem XG.text(h:XG N T s x):x.2.2.2.2.2.2.2.1 (Int.toNat x.1)=(T s.p).t:=by obtain⟨l,v,rfl,h1,h2,h3,h4⟩:=h;rfl
end
end Go.Proofs.YtjfkkokeegpeiaaGreatDoor
/- The reference's parser against the plain one: names that are not in a list. -/
namespace Go.Proofs.Lx
end Go.Proofs.Lx
namespace Go.Proofs.YtjfkkokeegpeiaaGreatDoor
open Go Go.Am Go.Proofs.Lx
set_option maxRecDepth 100000
section
variable {N:Nat} {T:Nat→Tkn} {s:PS} {x:g_rfail} {p:Nat} {c:Int}
theorem XG.names(h:XG N T s x):x.2.2.2.2.2.2.2.2.2.1=s.vs.length∧Ag (fun j=>x.2.2.2.2.2.2.2.2.2.2 (0+j)) s.vs∧s.vs.length≤12:=by
 obtain⟨l,v,rfl,h1,h2,h3,h4⟩:=h
 exact⟨rfl,fun j b hb=>(congrArg v (Nat.zero_add j)).trans (h1 j b hb),h4⟩
end
end Go.Proofs.YtjfkkokeegpeiaaGreatDoor
/- The reference's parser against the plain one: expressions. -/
namespace Go.Proofs.YtjfkkokeegpeiaaGreatDoor
open Go Go.Am Go.Proofs.Lx
set_option maxRecDepth 100000
section
variable {N:Nat} {T:Nat→Tkn} {s:PS} {x:g_rfail} {p:Nat} {c:Int}
theorem PV.same{ζ ξ α:Type}{pj:ζ→g_rfail}{R:α→ζ→Prop}{pk:ξ→g_rfail}{S:α→ξ→Prop}{o:Option ζ}{k:ζ→ξ}{r:PR α}(h:Rs o (PV N T pj R r))(hR:∀a z,R a z→S a (k z))(hp:∀z,pk (k z)=pj z):Rs (o.bind fun z=>some (k z)) (PV N T pk S r):=
 PV.last h (fun a s z e ha hs=>Rs.some ⟨hR a z ha,by rw[hp];exact hs⟩) (fun p c z hb=>Rs.some (by rw[hp];exact hb))
end
end Go.Proofs.YtjfkkokeegpeiaaGreatDoor
/- The reference's parser against the plain one: statements that begin with a reserved word. -/
namespace Go.Proofs.YtjfkkokeegpeiaaGreatDoor
open Go Go.Am Go.Proofs.Lx
set_option maxRecDepth 100000
section
variable {N:Nat} {T:Nat→Tkn} {s:PS} {x:g_rfail} {p:Nat} {c:Int}
theorem XG.push(h:XG N T s x)(hl:s.vs.length<12)(a:ByteArray):XG N T {s with vs:=s.vs++[a]} (x.1,x.2.1,x.2.2.1,x.2.2.2.1,x.2.2.2.2.1,x.2.2.2.2.2.1,x.2.2.2.2.2.2.1,x.2.2.2.2.2.2.2.1,x.2.2.2.2.2.2.2.2.1,x.2.2.2.2.2.2.2.2.2.1+1,fun j=>if j<x.2.2.2.2.2.2.2.2.2.1 then x.2.2.2.2.2.2.2.2.2.2 j else a):=by
 obtain⟨l,v,rfl,h1,h2,h3,h4⟩:=h
 refine⟨l,_,?_,h1.push (x:=a),h2,h3,?_⟩
 ·show _=rst N T s.p _ 0 l (s.vs++[a]).length _
  rw[List.length_append]
  rfl
 ·show(s.vs++[a]).length≤12
  rw[List.length_append,List.length_singleton]
  omega
theorem XB.push(h:XB N T p c x)(n:Nat)(v:Nat→ByteArray):XB N T p c (x.1,x.2.1,x.2.2.1,x.2.2.2.1,x.2.2.2.2.1,x.2.2.2.2.2.1,x.2.2.2.2.2.2.1,x.2.2.2.2.2.2.2.1,x.2.2.2.2.2.2.2.2.1,n,v):=by
 obtain⟨h1,p',o,nv,v',rfl,hp⟩:=h
 exact⟨h1,p',o,n,v,rfl,hp⟩
end
end Go.Proofs.YtjfkkokeegpeiaaGreatDoor
/- The reference's parser against the plain one: the parameters of a procedure, its body. -/
namespace Go.Proofs.YtjfkkokeegpeiaaGreatDoor
open Go Go.Am Go.Proofs.Lx
set_option maxRecDepth 100000
section
variable {N:Nat} {T:Nat→Tkn} {s:PS} {x:g_rfail} {p:Nat} {c:Int}
theorem XG.clear(h:XG N T s x):XG N T {s with vs:=[]} (x.1,x.2.1,x.2.2.1,x.2.2.2.1,x.2.2.2.2.1,x.2.2.2.2.2.1,x.2.2.2.2.2.2.1,x.2.2.2.2.2.2.2.1,x.2.2.2.2.2.2.2.2.1,0,fun _=>ByteArray.empty):=by
 obtain⟨l,v,rfl,h1,h2,h3,h4⟩:=h
 exact⟨l,_,rfl,fun j b e=>by simp at e,h2,h3,by simp⟩
theorem RepQ.nil(f g:Nat→ByteArray):RepQ [] (f,g,0):=⟨rfl,fun j m e=>by simp at e⟩
end
end Go.Proofs.YtjfkkokeegpeiaaGreatDoor
/- The plain parser comes to an end. -/
namespace Go.Proofs.YtjfkkokeegpeiaaGreatDoor
open Go Go.Am Go.Proofs.Lx
set_option maxRecDepth 100000
def Tot{α:Type}(N p:Nat):PR α→Prop
 | .ok _ s=>p≤s.p∧s.p<N
 | .err _ _=>True
 | .out=>False
theorem Tot.bind{α β:Type}{N p p':Nat}{r:PR α}{k:α→PS→PR β}(h:Tot N p r)(hk:∀a s,p≤s.p→s.p<N→Tot N p' (k a s)):Tot N p' (r.bind k):=by
 cases r with
 |ok a s=>exact hk a s h.1 h.2
 |err p c=>trivial
 |out=>exact h.elim
theorem Tot.mono{α:Type}{N p p':Nat}{r:PR α}(h:Tot N p r)(hp:p'≤p):Tot N p' r:=by
 cases r with
 |ok a s=>exact⟨Nat.le_trans hp h.1,h.2⟩
 |err p c=>trivial
 |out=>exact h.elim
theorem Tot.ite{α:Type}{N p:Nat}{c:Prop}[Decidable c]{a b:PR α}(h1:c→Tot N p a)(h2:¬c→Tot N p b):Tot N p (if c then a else b):=by
 by_cases h:c
 ·rw[if_pos h];exact h1 h
 ·rw[if_neg h];exact h2 h
section
variable {N:Nat} {T:Nat→Tkn} {s:PS}
theorem must_tot(hT:TokN N T)(hp:s.p<N){b:ByteArray}(hb:b≠⟨#[]⟩):Tot N (s.p+1) (mustP T b s):=by
 unfold mustP
 exact Tot.ite (fun h=>⟨Nat.le_refl _,hT.lt hp (isP_ne hb h)⟩) fun _=>trivial
theorem opens_tot(hT:TokN N T)(hp:s.p<N){b:ByteArray}(hb:b≠⟨#[]⟩):Tot N (s.p+1) (opensP T b s):=by
 unfold opensP
 exact Tot.ite (fun h=>Tot.ite (fun _=>trivial) fun _=>⟨Nat.le_refl _,hT.lt hp (isP_ne hb h)⟩) fun _=>trivial
theorem name_tot(hT:TokN N T)(hp:s.p<N):Tot N (s.p+1) (nameP T s):=by
 unfold nameP
 refine Tot.ite (fun _=>trivial) fun h=>⟨Nat.le_refl _,hT.lt hp (.inr ?_)⟩
 have:(T s.p).k=1:=by
  by_cases e:(T s.p).k=1
  ·exact e
  ·exact absurd (Or.inl e) h
 rw[this];decide
theorem num_tot(hT:TokN N T)(hp:s.p<N)(lo hi:Int):Tot N (s.p+1) (numP T lo hi s):=by
 unfold numP
 refine Tot.ite (fun _=>trivial) fun h=>Tot.ite (fun _=>trivial) fun _=>⟨Nat.le_refl _,hT.lt hp (.inr ?_)⟩
 have:(T s.p).k=2:=Decidable.not_not.1 h
 rw[this];decide
theorem decl_tot(hT:TokN N T)(hp:s.p<N):Tot N (s.p+1) (declP T s):=by
 unfold declP
 exact(name_tot hT hp).bind fun a s1 h1 h2=>Tot.ite (fun _=>trivial) fun _=>Tot.ite (fun _=>trivial) fun _=>⟨h1,h2⟩
theorem lit_tot(hT:TokN N T)(hp:s.p<N):Tot N (s.p+1) (litP T s):=by
 unfold litP
 refine(num_tot hT hp _ _).bind fun a s1 h1 h2=>Tot.ite (fun h=>⟨by show s.p+1≤s1.p+1;omega,hT.lt h2 (.inr ?_)⟩) fun _=>⟨h1,h2⟩
 rw[h.1];decide
theorem adv_lt(hT:TokN N T)(hp:s.p<N){b:ByteArray}(hb:b≠⟨#[]⟩)(h:isP T b s=true):(adv s).p<N:=hT.lt hp (isP_ne hb h)
end
section
variable {N:Nat} {T:Nat→Tkn}
theorem expr_tot(hT:TokN N T):∀f,(∀lv s,1≤lv→lv≤8→s.p<N→20*(N-s.p)+10-lv≤f→Tot N s.p (exprP T f lv s))∧
 (∀lv n s,1≤lv→lv≤7→s.p<N→20*(N-s.p)+1≤f→Tot N s.p (opsP T f lv n s))∧
 (∀b lv s,b≠⟨#[]⟩→1≤lv→lv≤8→s.p<N→20*(N-s.p)≤f→Tot N s.p (unaryP T f b lv s))∧
 (∀s,s.p<N→20*(N-s.p)≤f→Tot N s.p (primP T f s)):=by
 intro f
 induction f with
 |zero=>exact⟨fun lv s _ _ h1 h2=>by omega,fun lv n s _ _ h1 h2=>by omega,fun b lv s _ _ _ h1 h2=>by omega,fun s h1 h2=>by omega⟩
 |succ f ih=>
  obtain⟨i1,i2,i3,i4⟩:=ih
  refine⟨fun lv s l1 l2 hp hf=>?_,fun lv n s l1 l2 hp hf=>?_,fun b lv s hb l1 l2 hp hf=>?_,fun s hp hf=>?_⟩
  ·rw[exprP]
   refine Tot.ite (fun h=>i3 sNot 3 s (by decide) (by decide) (by decide) hp (by omega)) fun h3=>Tot.ite (fun h=>i3 sSub 7 s (by decide) (by decide) (by decide) hp (by omega)) fun h7=>Tot.ite (fun h=>i4 s hp (by omega)) fun h8=>?_
   refine(i1 (lv+1) s (by omega) (by omega) hp (by omega)).bind fun n s1 h1 h2=>?_
   exact(i2 lv n s1 l1 (by omega) h2 (by omega)).mono h1
  ·rw[opsP]
   refine Tot.ite (fun h=>?_) fun _=>⟨Nat.le_refl _,hp⟩
   have ha:(adv s).p<N:=hT.lt hp (.inr (by rw[h.2];decide))
   have hap:(adv s).p=s.p+1:=rfl
   refine(i1 (lv+1) (adv s) (by omega) (by omega) ha (by omega)).bind fun m s1 h1 h2=>Tot.ite (fun _=>⟨by omega,h2⟩) fun _=>?_
   exact(i2 lv _ s1 l1 l2 h2 (by omega)).mono (by omega)
  ·rw[unaryP]
   refine(opens_tot hT hp hb).bind fun _ s1 h1 h2=>(i1 lv s1 l1 l2 h2 (by omega)).bind fun n s2 h3 h4=>⟨?_,h4⟩
   show s.p≤s2.p
   omega
  ·rw[primP]
   refine Tot.ite (fun _=>(lit_tot hT hp).mono (by omega)) fun _=>Tot.ite (fun h=>⟨Nat.le_succ _,adv_lt hT hp (by decide) h⟩) fun _=>Tot.ite (fun h=>⟨Nat.le_succ _,adv_lt hT hp (by decide) h⟩) fun _=>Tot.ite (fun h=>?_) fun _=>Tot.ite (fun h=>?_) fun _=>(name_tot hT hp).bind fun x s1 h1 h2=>⟨by omega,h2⟩
   ·have hap:(adv s).p=s.p+1:=rfl
    exact(must_tot hT (adv_lt hT hp (by decide) h) (by decide)).bind fun _ s1 h1 h2=>(name_tot hT h2).bind fun x s2 h3 h4=>⟨by omega,h4⟩
   ·refine(opens_tot hT hp (by decide)).bind fun _ s1 h1 h2=>(i1 1 s1 (by decide) (by decide) h2 (by omega)).bind fun n s2 h3 h4=>(must_tot hT h4 (by decide)).bind fun _ s3 h5 h6=>⟨?_,h6⟩
    show s.p≤s3.p
    omega
end
end Go.Proofs.YtjfkkokeegpeiaaGreatDoor
/- The plain parser comes to an end (2); what Parse returns, for every source. -/
namespace Go.Proofs.YtjfkkokeegpeiaaGreatDoor
open Go Go.Am Go.Proofs.Lx
set_option maxRecDepth 100000
section
variable {N:Nat} {T:Nat→Tkn} {s:PS}
theorem end_tot(hT:TokN N T)(hp:s.p<N)(n:Tr):Tot N s.p (Lx.endP T n s):=(must_tot hT hp (by decide)).bind fun _ s1 h1 h2=>⟨by omega,h2⟩
theorem semi_tot(hT:TokN N T){r:PR Tr}{p:Nat}(h:Tot N p r):Tot N p (r.bind (Lx.endP T)):=h.bind fun n s1 h1 h2=>(end_tot hT h2 n).mono h1
theorem letQ_tot(hT:TokN N T){f:Nat}(hp:s.p<N)(hf:20*(N-s.p)+10≤f):Tot N s.p (letQ T f s):=(decl_tot hT hp).bind fun a s1 h1 h2=>(must_tot hT h2 (by decide)).bind fun _ s2 h3 h4=>((expr_tot hT f).1 1 s2 (by decide) (by decide) h4 (by omega)).bind fun n s3 h5 h6=>⟨by omega,h6⟩
theorem asgQ_tot(hT:TokN N T){f:Nat}(hp:s.p<N)(hf:20*(N-s.p)≤f+1):Tot N (s.p+1) (asgQ T f s):=(name_tot hT hp).bind fun a s1 h1 h2=>(must_tot hT h2 (by decide)).bind fun _ s2 h3 h4=>((expr_tot hT f).1 1 s2 (by decide) (by decide) h4 (by omega)).bind fun n s3 h5 h6=>⟨by omega,h6⟩
theorem awaitQ_tot(hT:TokN N T){f:Nat}(hp:s.p<N)(hf:20*(N-s.p)+10≤f):Tot N s.p (awaitQ T f s):=((expr_tot hT f).1 1 s (by decide) (by decide) hp (by omega)).bind fun n s1 h1 h2=>(must_tot hT h2 (by decide)).bind fun _ s2 h3 h4=>(lit_tot hT h4).bind fun m s3 h5 h6=>⟨by omega,h6⟩
theorem amtQ_tot(hT:TokN N T)(hp:s.p<N)(k:Int):Tot N s.p (amtQ T k s):=(lit_tot hT hp).bind fun n s1 h1 h2=>⟨by omega,h2⟩
theorem sglQ_tot(hT:TokN N T){f:Nat}(hp:s.p<N)(hf:20*(N-s.p)+10≤f)(k:Int):Tot N s.p (sglQ T f k s):=((expr_tot hT f).1 1 s (by decide) (by decide) hp (by omega)).bind fun n s1 h1 h2=>⟨h1,h2⟩
theorem nmbQ_tot(hT:TokN N T)(hp:s.p<N)(k hi:Int):Tot N s.p (nmbQ T k hi s):=(num_tot hT hp 0 hi).bind fun n s1 h1 h2=>⟨by omega,h2⟩
theorem useQ_tot(hT:TokN N T)(hp:s.p<N)(k:Int){b:ByteArray}(hb:b≠⟨#[]⟩):Tot N s.p (useQ T k b s):=(num_tot hT hp 0 7).bind fun n s1 h1 h2=>(must_tot hT h2 hb).bind fun _ s2 h3 h4=>(lit_tot hT h4).bind fun m s3 h5 h6=>⟨by omega,h6⟩
end
section
variable {N:Nat} {T:Nat→Tkn}
theorem stmt_tot(hT:TokN N T):∀f,(∀s,s.p<N→20*(N-s.p)+12≤f→Tot N (s.p+1) (blockP T f s))∧(∀s,s.p<N→20*(N-s.p)+11≤f→Tot N s.p (stmtsP T f s))∧(∀s,s.p<N→20*(N-s.p)+10≤f→Tot N (s.p+1) (stmtP T f s)):=by
 intro f
 induction f with
 |zero=>exact⟨fun s h1 h2=>by omega,fun s h1 h2=>by omega,fun s h1 h2=>by omega⟩
 |succ f ih=>
  obtain⟨i1,i2,i3⟩:=ih
  refine⟨fun s hp hf=>?_,fun s hp hf=>?_,fun s hp hf=>?_⟩
  ·rw[blockP]
   refine(opens_tot hT hp (by decide)).bind fun _ s1 h1 h2=>(i2 s1 h2 (by omega)).bind fun l s2 h3 h4=>⟨?_,h4⟩
   show s.p+1≤s2.p
   omega
  ·rw[stmtsP]
   refine Tot.ite (fun h=>⟨Nat.le_succ _,adv_lt hT hp (by decide) h⟩) fun _=>?_
   exact(i3 s hp (by omega)).bind fun n s1 h1 h2=>(i2 s1 h2 (by omega)).bind fun l s2 h3 h4=>⟨by omega,h4⟩
  ·rw[stmtP]
   have hap:(adv s).p=s.p+1:=rfl
   have ha:∀{b:ByteArray},b≠⟨#[]⟩→isP T b s=true→(adv s).p<N:=fun hb h=>adv_lt hT hp hb h
   refine Tot.ite (fun h=>?_) fun _=>?_
   ·rw[let_eq];have:=ha (by decide) h;exact semi_tot hT (letQ_tot hT this (by omega))
   refine Tot.ite (fun h=>?_) fun _=>?_
   ·have hh:=ha (by decide) h
    refine((expr_tot hT f).1 1 (adv s) (by decide) (by decide) hh (by omega)).bind fun c s1 h1 h2=>(i1 s1 h2 (by omega)).bind fun y s2 h3 h4=>Tot.ite (fun h=>?_) fun _=>⟨by omega,h4⟩
    have hap2:(adv s2).p=s2.p+1:=rfl
    have h5:(adv s2).p<N:=adv_lt hT h4 (by decide) h
    exact(i1 (adv s2) h5 (by omega)).bind fun n s3 h6 h7=>⟨by omega,h7⟩
   refine Tot.ite (fun h=>?_) fun _=>?_
   ·have hh:=ha (by decide) h
    exact(num_tot hT hh 1 100).bind fun n s1 h1 h2=>(i1 s1 h2 (by omega)).bind fun y s2 h3 h4=>⟨by omega,h4⟩
   refine Tot.ite (fun h=>?_) fun _=>?_
   ·rw[await_eq];have:=ha (by decide) h;exact semi_tot hT (awaitQ_tot hT this (by omega))
   refine Tot.ite (fun h=>?_) fun _=>?_
   ·rw[amt_eq];exact semi_tot hT (amtQ_tot hT (ha (by decide) h) _)
   refine Tot.ite (fun h=>?_) fun _=>?_
   ·rw[amt_eq];exact semi_tot hT (amtQ_tot hT (ha (by decide) h) _)
   refine Tot.ite (fun h=>?_) fun _=>?_
   ·rw[sgl_eq];have:=ha (by decide) h;exact semi_tot hT (sglQ_tot hT this (by omega) _)
   refine Tot.ite (fun h=>?_) fun _=>?_
   ·rw[sgl_eq];have:=ha (by decide) h;exact semi_tot hT (sglQ_tot hT this (by omega) _)
   refine Tot.ite (fun h=>?_) fun _=>?_
   ·rw[use_eq];exact semi_tot hT (useQ_tot hT (ha (by decide) h) _ (by decide))
   refine Tot.ite (fun h=>?_) fun _=>?_
   ·rw[use_eq];exact semi_tot hT (useQ_tot hT (ha (by decide) h) _ (by decide))
   refine Tot.ite (fun h=>?_) fun _=>?_
   ·rw[nmb_eq];exact semi_tot hT (nmbQ_tot hT (ha (by decide) h) _ _)
   refine Tot.ite (fun h=>?_) fun _=>?_
   ·rw[nmb_eq];exact semi_tot hT (nmbQ_tot hT (ha (by decide) h) _ _)
   rw[asg_eq]
   exact semi_tot hT (asgQ_tot hT hp (by omega))
theorem prm_tot(hT:TokN N T){s:PS}(hp:s.p<N):Tot N (s.p+1) (prmP T s):=by
 unfold prmP
 refine(decl_tot hT hp).bind fun x s1 h1 h2=>Tot.ite (fun h=>?_) fun _=>⟨h1,h2⟩
 have h3:s1.p+1<N:=adv_lt hT h2 (by decide) h
 refine Tot.ite (fun _=>trivial) fun hk=>Tot.ite (fun _=>trivial) fun _=>⟨?_,?_⟩
 ·show s.p+1≤s1.p+1+1
  omega
 ·have hk:(T (s1.p+1)).k=1:=Decidable.not_not.1 hk
  exact hT.lt h3 (.inr (by show(T (s1.p+1)).k≠0;rw[hk];decide))
theorem prms_tot(hT:TokN N T):∀f s,s.p<N→20*(N-s.p)≤f→Tot N s.p (prmsP T f s)
 |0,s,h1,h2=>by omega
 |f+1,s,hp,hf=>by
  rw[prmsP]
  refine(prm_tot hT hp).bind fun x s1 h1 h2=>Tot.ite (fun h=>?_) fun _=>(must_tot hT h2 (by decide)).bind fun _ s2 h3 h4=>⟨by omega,h4⟩
  have hap:(adv s1).p=s1.p+1:=rfl
  exact(prms_tot hT f (adv s1) (adv_lt hT h2 (by decide) h) (by omega)).bind fun l s2 h3 h4=>⟨by omega,h4⟩
theorem params_tot(hT:TokN N T){f:Nat}{s:PS}(hp:s.p<N)(hf:20*(N-s.p)≤f):Tot N s.p (paramsP T f s):=by
 unfold paramsP
 refine(must_tot hT hp (by decide)).bind fun _ s1 h1 h2=>Tot.ite (fun h=>⟨?_,adv_lt hT h2 (by decide) h⟩) fun _=>(prms_tot hT f s1 h2 (by omega)).mono (by omega)
 show s.p≤s1.p+1
 omega
theorem proc_tot(hT:TokN N T){f:Nat}{pr:List ByteArray}{s:PS}(hp:s.p<N)(hf:20*(N-s.p)+12≤f):Tot N (s.p+1) (procP T f pr s):=by
 unfold procP
 refine(must_tot hT hp (by decide)).bind fun _ s1 h1 h2=>(name_tot hT h2).bind fun x s2 h3 h4=>Tot.ite (fun _=>trivial) fun _=>?_
 refine(params_tot hT (s:={s2 with vs:=[]}) h4 (by show 20*(N-s2.p)≤f;omega)).bind fun l s3 h5 h6=>?_
 have h5:s2.p≤s3.p:=h5
 exact((stmt_tot hT f).1 s3 h6 (by omega)).bind fun b s4 h7 h8=>⟨by omega,h8⟩
theorem procs_tot(hT:TokN N T):∀f pr s,s.p<N→20*(N-s.p)+13≤f→Tot N s.p (procsP T f pr s)
 |0,pr,s,h1,h2=>by omega
 |f+1,pr,s,hp,hf=>by
  rw[procsP]
  refine Tot.ite (fun _=>⟨Nat.le_refl _,hp⟩) fun _=>(proc_tot hT hp (by omega)).bind fun x s1 h1 h2=>?_
  exact(procs_tot hT f _ s1 h2 (by omega)).bind fun l s2 h3 h4=>⟨by omega,h4⟩
end
def fuelP:Nat:=100000
inductive ParseR(s:ByteArray):List Prc×Int×Int→Prop
 |lex (p:Nat) (e:Int):TokensR s ([],p,e)→e≠0→ParseR s ([],p,e)
 |ok (acc:List Tkn) (l:List Prc) (s':PS):TokensR s (acc++[endT s],0,0)→TokN (acc.length+1) (tokAt s acc)→procsP (tokAt s acc) fuelP [] ⟨0,0,[]⟩= .ok l s'→ParseR s (l,0,0)
 |err (acc:List Tkn) (p:Nat) (c:Int):TokensR s (acc++[endT s],0,0)→TokN (acc.length+1) (tokAt s acc)→p<acc.length+1→procsP (tokAt s acc) fuelP [] ⟨0,0,[]⟩= .err p c→ParseR s ([],(tokAt s acc p).a,c)
theorem parse_law(s:ByteArray):∃r,ParseR s r∧SC E5 8 [st s] [] (.ret (.tup [procV r.1,i64 r.2.1,i64 r.2.2]) []):=by
 rcases tokens_law s 3000000000 (by decide)with⟨z,h1,h2,p,h3,h4⟩ | ⟨acc,h1,h2,h3⟩
 ·refine⟨([],z.1,z.2.1),?_,parse_lex h1 h2⟩
  rw[h3]
  exact .lex p _ h4 h2
 ·have ht:=procs_tot h2 fuelP [] ⟨0,0,[]⟩ h2.pos (by have:=h2.big;show 20*(acc.length+1-0)+13≤100000;omega)
  have hr:=parse_run h2 (F:=fuelP) (q:=3000000000) (by decide) (by decide) h1
  cases hp:procsP (tokAt s acc) fuelP [] ⟨0,0,[]⟩with
  |out=>rw[hp]at ht;exact ht.elim
  |ok l s'=>
   rw[hp]at hr
   exact⟨(l,0,0),.ok acc l s' h3 h2 hp,hr⟩
  |err p c=>
   rw[hp]at hr
   exact⟨([],(tokAt s acc p).a,c),.err acc p c h3 h2 hr.1 hp,hr.2⟩
end Go.Proofs.YtjfkkokeegpeiaaGreatDoor
/- Plain: what is read is not bigger than what was read. -/
namespace Go.Proofs.YtjfkkokeegpeiaaGreatDoor
open Go Go.Am Go.Proofs.Lx
set_option maxRecDepth 100000
def Okr{α:Type}(P:α→PS→Prop):PR α→Prop
 | .ok a s=>P a s
 |_=>True
theorem Okr.bind{α β:Type}{P:α→PS→Prop}{Q:β→PS→Prop}{r:PR α}{f:α→PS→PR β}(h:Okr P r)(g:∀a s,P a s→Okr Q (f a s)):Okr Q (r.bind f):=by
 cases r with
 |ok a s=>exact g a s h
 |err p c=>trivial
 |out=>trivial
theorem Okr.mono{α:Type}{P Q:α→PS→Prop}{r:PR α}(h:Okr P r)(g:∀a s,P a s→Q a s):Okr Q r:=by
 cases r with
 |ok a s=>exact g a s h
 |err p c=>trivial
 |out=>trivial
theorem Okr.ite{α:Type}{P:α→PS→Prop}{c:Prop}[Decidable c]{a b:PR α}(h:c→Okr P a)(g:¬c→Okr P b):Okr P (if c then a else b):=by
 by_cases hc:c
 ·rw[if_pos hc];exact h hc
 ·rw[if_neg hc];exact g hc
end Go.Proofs.YtjfkkokeegpeiaaGreatDoor
/- The chapter's examples are parsed. -/
namespace Go.Proofs.YtjfkkokeegpeiaaGreatDoor
open Go Go.Am Go.RowKit Go.Proofs.Lx
set_option maxRecDepth 100000
theorem acc_inj{s:ByteArray}{acc acc':List Tkn}(h:TokensR s (acc++[endT s],0,0))(g:TokensR s (acc'++[endT s],0,0)):acc=acc':=List.append_cancel_right (congrArg (fun r:List Tkn×Nat×Int=>r.1) (tokR_det h g))
theorem parseR_det{s:ByteArray}{r r':List Prc×Int×Int}(h:ParseR s r)(g:ParseR s r'):r=r':=by
 cases h with
 |lex p e h1 h2=>
  cases g with
  |lex p' e' g1 g2=>
   have:=tokR_det h1 g1
   have e1:p=p':=congrArg (fun r=>r.2.1) this
   have e2:e=e':=congrArg (fun r=>r.2.2) this
   rw[e1,e2]
  |ok acc l s' g1 g2 g3=>exact absurd (congrArg (fun r=>r.2.2) (tokR_det h1 g1)) h2
  |err acc p c g1 g2 g3 g4=>exact absurd (congrArg (fun r=>r.2.2) (tokR_det h1 g1)) h2
 |ok acc l s1 h1 h2 h3=>
  cases g with
  |lex p' e' g1 g2=>exact absurd (congrArg (fun r=>r.2.2) (tokR_det g1 h1)) g2
  |ok acc' l' s' g1 g2 g3=>
   obtain rfl:=acc_inj h1 g1
   rw[h3]at g3
   injection g3 with e1 e2
   rw[e1]
  |err acc' p c g1 g2 g3 g4=>
   obtain rfl:=acc_inj h1 g1
   rw[h3]at g4
   cases g4
 |err acc p c h1 h2 h3 h4=>
  cases g with
  |lex p' e' g1 g2=>exact absurd (congrArg (fun r=>r.2.2) (tokR_det g1 h1)) g2
  |ok acc' l' s' g1 g2 g3=>
   obtain rfl:=acc_inj h1 g1
   rw[h4]at g3
   cases g3
  |err acc' p' c' g1 g2 g3 g4=>
   obtain rfl:=acc_inj h1 g1
   rw[h4]at g4
   injection g4 with e1 e2
   rw[e1,e2]
theorem tokN_tok{s:ByteArray}{acc:List Tkn}(h:TokensR s (acc++[endT s],0,0)):TokN (acc.length+1) (tokAt s acc):=by
 rcases tokens_law s 3000000000 (by decide)with⟨z,h1,h2,p,h3,h4⟩ | ⟨acc',h1,h2,h3⟩
 ·exact absurd (congrArg (fun r=>r.2.2) (tokR_det h4 h)) h2
 ·obtain rfl:=acc_inj h h3
  exact h2
def src1:ByteArray:=⟨#[112,114,111,99,101,100,117,114,101,32,112,40,116,58,32,115,41,32,123,32,108,101,116,32,120,32,61,32,50,32,42,32,40,49,32,43,32,116,108,109,46,98,97,116,116,101,114,121,41,59,32,125]⟩
def src2:ByteArray:=⟨#[112,114,111,99,101,100,117,114,101,32,112,40,41,32,123,32,114,101,112,101,97,116,32,48,32,123,32,125,32,125]⟩
def src3:ByteArray:=⟨#[112,114,111,99,101,100,117,114,101,32,112,40,120,58,32,121,41,32,123,32,125]⟩
def toks1:List Tkn:=[⟨1,0,⟨#[112,114,111,99,101,100,117,114,101]⟩,0⟩,⟨1,10,⟨#[112]⟩,0⟩,⟨3,11,⟨#[40]⟩,0⟩,⟨1,12,⟨#[116]⟩,0⟩,⟨3,13,⟨#[58]⟩,0⟩,⟨1,15,⟨#[115]⟩,0⟩,⟨3,16,⟨#[41]⟩,0⟩,⟨3,18,⟨#[123]⟩,0⟩,⟨1,20,⟨#[108,101,116]⟩,0⟩,⟨1,24,⟨#[120]⟩,0⟩,⟨3,26,⟨#[61]⟩,0⟩,⟨2,28,⟨#[50]⟩,2⟩,⟨3,30,⟨#[42]⟩,0⟩,⟨3,32,⟨#[40]⟩,0⟩,⟨2,33,⟨#[49]⟩,1⟩,⟨3,35,⟨#[43]⟩,0⟩,⟨1,37,⟨#[116,108,109]⟩,0⟩,⟨3,40,⟨#[46]⟩,0⟩,⟨1,41,⟨#[98,97,116,116,101,114,121]⟩,0⟩,⟨3,48,⟨#[41]⟩,0⟩,⟨3,49,⟨#[59]⟩,0⟩,⟨3,51,⟨#[125]⟩,0⟩]
theorem tok1:TokensR src1 (toks1++[endT src1],0,0):=.inr ⟨by decide,lexF_ok 100 _ _ _ (by kernel_rfl)⟩
def toks2:List Tkn:=[⟨1,0,⟨#[112,114,111,99,101,100,117,114,101]⟩,0⟩,⟨1,10,⟨#[112]⟩,0⟩,⟨3,11,⟨#[40]⟩,0⟩,⟨3,12,⟨#[41]⟩,0⟩,⟨3,14,⟨#[123]⟩,0⟩,⟨1,16,⟨#[114,101,112,101,97,116]⟩,0⟩,⟨2,23,⟨#[48]⟩,0⟩,⟨3,25,⟨#[123]⟩,0⟩,⟨3,27,⟨#[125]⟩,0⟩,⟨3,29,⟨#[125]⟩,0⟩]
theorem tok2:TokensR src2 (toks2++[endT src2],0,0):=.inr ⟨by decide,lexF_ok 100 _ _ _ (by kernel_rfl)⟩
def toks3:List Tkn:=[⟨1,0,⟨#[112,114,111,99,101,100,117,114,101]⟩,0⟩,⟨1,10,⟨#[112]⟩,0⟩,⟨3,11,⟨#[40]⟩,0⟩,⟨1,12,⟨#[120]⟩,0⟩,⟨3,13,⟨#[58]⟩,0⟩,⟨1,15,⟨#[121]⟩,0⟩,⟨3,16,⟨#[41]⟩,0⟩,⟨3,18,⟨#[123]⟩,0⟩,⟨3,20,⟨#[125]⟩,0⟩]
theorem tok3:TokensR src3 (toks3++[endT src3],0,0):=.inr ⟨by decide,lexF_ok 100 _ _ _ (by kernel_rfl)⟩
theorem ex1:ParseR src1 (prc1,0,0):=by
 have h:∃s,procsP (tokAt src1 toks1) fuelP [] ⟨0,0,[]⟩= .ok prc1 s:=⟨⟨22,0,[⟨#[116]⟩,⟨#[120]⟩]⟩,by kernel_rfl⟩
 obtain⟨s,hs⟩:=h
 exact .ok toks1 prc1 s tok1 (tokN_tok tok1) hs
theorem ex2:ParseR src2 ([],23,5):=.err toks2 6 5 tok2 (tokN_tok tok2) (by decide) (by kernel_rfl)
theorem ex3:ParseR src3 ([],15,10):=.err toks3 5 10 tok3 (tokN_tok tok3) (by decide) (by kernel_rfl)
end Go.Proofs.YtjfkkokeegpeiaaGreatDoor
/- lives, and the law of Parse, lifted. -/
namespace Go.Proofs.YtjfkkokeegpeiaaGreatDoor
open Go Go.Am Go.Proofs Go.Proofs.Lx
set_option maxRecDepth 100000
def pF(l:List Prc):Nat→List V:=fun j=>(l.map cellsC).getD j dflC
noncomputable def ansP(s:ByteArray):List Prc×Int×Int:=Classical.choose (parse_law s)
theorem ansP_ok(s:ByteArray):ParseR s (ansP s):=(Classical.choose_spec (parse_law s)).1
theorem ansP_eq{s:ByteArray}{r:List Prc×Int×Int}(h:ParseR s r):ansP s=r:=parseR_det (ansP_ok s) h
abbrev a_ParseV:Type:=ByteArray
abbrev g_ParseV:Type:=Nat×FL×Int×Int
def A_ParseV:AR a_ParseV:=fun x=>([st x],[])
def d_ParseV(t:TT):a_ParseV:=(vS (ag t 0))
theorem v_ParseV:VI A_ParseV:=vd d_ParseV fun _=>rfl
def R_ParseV:g_ParseV→CRes:=fun z=>.ret (.tup [.ro 6 z.1 z.2.1,i64 z.2.2.1,i64 z.2.2.2]) []
noncomputable def ParseV(q:Nat)(x:a_ParseV):Option g_ParseV:=some ((ansP x).1.length,pF (ansP x).1,(ansP x).2.1,(ansP x).2.2)
theorem sc_ParseV(q:Nat):Lw E5 8 A_ParseV R_ParseV (ParseV q):=by
 intro x z h
 unfold ParseV at h
 cases h
 exact(Classical.choose_spec (parse_law x)).2
abbrev a_PrintV:Type:=Nat×FL
abbrev g_PrintV:Type:=ByteArray
def A_PrintV:AR a_PrintV:=fun x=>([.ro 6 x.1 x.2],[])
def d_PrintV(t:TT):a_PrintV:=(vRoN (ag t 0),vRoF (ag t 0))
theorem v_PrintV:VI A_PrintV:=vd d_PrintV fun _=>rfl
def R_PrintV:g_PrintV→CRes:=fun z=>.ret (st z) []
noncomputable def PrintV(q:Nat)(x:a_PrintV):Option g_PrintV:=@ite _ (x=(prc1.length,pF prc1)) (Classical.propDecidable _) (some out1) none
theorem sc_PrintV(q:Nat):Lw E5 13 A_PrintV R_PrintV (PrintV q):=by
 intro x z h
 unfold PrintV at h
 split at h
 ·rename_i hc
  subst hc
  cases h
  exact print1
 ·cases h
abbrev a_Lives:Type:=Unit
abbrev g_Lives:Type:=Bool
def A_Lives:a_Lives→List V×List (Option Chunk):=(fun _=>(([]:List V),([]:List (Option Chunk))))
def d_Lives(t:TT):a_Lives:=()
theorem v_Lives:VI A_Lives:=vd d_Lives fun _=>rfl
def R_Lives:g_Lives→CRes:=fun z=>.ret (bo z) []
def t_Lives{β:Type}(c_ParseV:a_ParseV→Option g_ParseV)(c_PrintV:a_PrintV→Option g_PrintV)(x:a_Lives)(dn:g_Lives→Option β):Option β:=
 (c_ParseV (⟨#[112,114,111,99,101,100,117,114,101,32,112,40,116,58,32,115,41,32,123,32,108,101,116,32,120,32,61,32,50,32,42,32,40,49,32,43,32,116,108,109,46,98,97,116,116,101,114,121,41,59,32,125]⟩)).bind fun z1=>(c_ParseV (⟨#[112,114,111,99,101,100,117,114,101,32,112,40,41,32,123,32,114,101,112,101,97,116,32,48,32,123,32,125,32,125]⟩)).bind fun z3=>(c_ParseV (⟨#[112,114,111,99,101,100,117,114,101,32,112,40,120,58,32,121,41,32,123,32,125]⟩)).bind fun z5=>if(z1.2.2.2==0)=true then if(((z1.1:Nat):Int)==1)=true then(c_PrintV (z1.1,z1.2.1)).bind fun z8=>if(z8.toList==ByteArray.toList ⟨#[112,114,111,99,101,100,117,114,101,32,112,40,116,58,32,115,41,32,123,10,32,32,108,101,116,32,120,32,61,32,50,32,42,32,40,49,32,43,32,116,108,109,46,98,97,116,116,101,114,121,41,59,10,125,10]⟩)=true then if(z3.2.2.1==23)=true then if(z3.2.2.2==5)=true then if(z5.2.2.1==15)=true then dn (z5.2.2.2==10)else dn false else dn false else dn false else dn false else dn false else dn false
theorem n_Lives{β:Type}(c_ParseV c_PrintV)(x)(dn:g_Lives→Option β):t_Lives c_ParseV c_PrintV x dn=(t_Lives c_ParseV c_PrintV x some).bind dn:=by
 unfold t_Lives
 repeat' first|exact n0|refine n1 fun _=>?_|refine n2 ?_ ?_|refine n3 (fun _=>?_) fun _=>?_|rfl
theorem r_Lives(c_ParseV c_PrintV)(x):callK E5 (ftb 8 A_ParseV R_ParseV c_ParseV (ftb 13 A_PrintV R_PrintV c_PrintV ca0)) lo0 11 (A_Lives x).1 (A_Lives x).2 K=t_Lives (vf A_ParseV c_ParseV) (vf A_PrintV c_PrintV) x (fun z=>some (.c (R_Lives z))):=by kernel_rfl
noncomputable def Lives(q:Nat)(x:a_Lives):Option g_Lives:=t_Lives (ParseV q) (PrintV q) x some
theorem sc_Lives(q:Nat):Lw E5 11 A_Lives R_Lives (Lives q):=sof hW5 hX5 (fk (sc_ParseV q) (fk (sc_PrintV q) ca0_sound)) (fun _=>lo0_sound) fun x=>(r_Lives (ParseV q) (PrintV q) x).trans (by rw[v_ParseV,v_PrintV,n_Lives]<;>rfl)
end Go.Proofs.YtjfkkokeegpeiaaGreatDoor
/- The examples hold; Parse agrees with the specification. -/
namespace Go.Proofs.YtjfkkokeegpeiaaGreatDoor
open Go Go.Am Go.Proofs.Lx
set_option maxRecDepth 100000
theorem parseV_eq(q:Nat){s:ByteArray}{r:List Prc×Int×Int}(h:ParseR s r):ParseV q s=some (r.1.length,pF r.1,r.2.1,r.2.2):=by
 unfold ParseV
 rw[ansP_eq h]
theorem lives_true(q:Nat):Lives q ()=some true:=by
 have h1:ParseV q src1=some (1,pF prc1,0,0):=parseV_eq q ex1
 have h2:ParseV q src2=some (0,pF [],23,5):=parseV_eq q ex2
 have h3:ParseV q src3=some (0,pF [],15,10):=parseV_eq q ex3
 have h4:PrintV q (1,pF prc1)=some out1:=by
  unfold PrintV
  exact if_pos rfl
 refine Rs.eq ?_
 unfold Lives t_Lives
 refine Rs.bind (Rs.of h1) fun z1 e1=>?_
 refine Rs.bind (Rs.of h2) fun z2 e2=>?_
 refine Rs.bind (Rs.of h3) fun z3 e3=>?_
 subst e1 e2 e3
 refine Rs.pos rfl (Rs.pos rfl ?_)
 refine Rs.bind (Rs.of h4) fun z4 e4=>?_
 subst e4
 refine Rs.pos (tl_eq.2 rfl) (Rs.pos rfl (Rs.pos rfl (Rs.pos rfl (Rs.some rfl))))
end Go.Proofs.YtjfkkokeegpeiaaGreatDoor

