/- Texts joined. -/
import Derived.Test.YtjfkkokeegpeiaaGreatDoorQF
import Derived.Test.YtjfkkokeegpeiaaGreatDoorQC
import Derived.Test.YtjfkkokeegpeiaaGreatDoorQE
import Derived.Lib.Strings
/- Trees made from numbers, lifted; the law of Expr. -/
set_option linter.unusedSimpArgs false
set_option linter.unusedVariables false
namespace Go.Proofs.YtjfkkokeegpeiaaGreatDoor
open Go Go.Am Go.Proofs Go.Proofs.Lx
set_option maxRecDepth 100000
theorem mv_z{f:FuncId}{args:List V}{L H:List (Option Chunk)}{a b:Int}{s:ByteArray}{g:Nat→List V}(h:SC E5 f args L (.ret (.agg [i64 a,i64 b,st s,nilS]) H)):SC E5 f args L (.ret (.agg [i64 a,i64 b,st s,.ro 4 0 g]) H):=
 SC.le h (Le.agg (LeL.cons (Le.refl _) (LeL.cons (Le.refl _) (LeL.cons (Le.refl _) (LeL.cons Le.nil_ro LeL.nil)))))
theorem mv_r{f:FuncId}{args:List V}{L:List (Option Chunk)}{a b ma mn:Int}{s:ByteArray}{ln m:Nat}{lf g:Nat→List V}
 (h:SC E5 f args L (.ret (.agg [i64 a,i64 b,st s,.sl 1 4 0 m]) [some (.blk [.ro 1 ln lf,i64 ma,i64 mn]),some (.row 35 4 m g)])):
 SC E5 f args L (.ret (.agg [i64 a,i64 b,st s,.ro 4 m g]) [some (.blk [.ro 1 ln lf,i64 ma,i64 mn])]):=by
 have h2:=SC.giveM (L2:=[some (.blk [.ro 1 ln lf,i64 ma,i64 mn])]) 1 h (by rfl) (by simp[V.bw,V.bw2,V.bw1,hp,V.pure,pureL])
 simpa[V.bw,V.bw2,V.bw1,hp]using h2
theorem mv_k{f:FuncId}{args:List V}{L:List (Option Chunk)}{a b ma mn:Int}{s:ByteArray}{ln m:Nat}{lf g:Nat→List V}
 (h:SC E5 f args L (.ret (.agg [i64 a,i64 b,st s,.sl 1 4 0 m]) [some (.blk [.ro 1 ln lf,i64 ma,i64 mn]),some (.row 35 4 m g)])):
 SC E5 f args L (.ret (.agg [i64 a,i64 b,st s,.ro 4 m g]) [some (.blk [.ro 1 ln lf,i64 ma,i64 mn])]):=mv_r h
abbrev a_Pick:Type:=Nat×FI×Int×Int
abbrev g_Pick:Type:=Int
def A_Pick:AR a_Pick:=fun x=>([.ro 1 x.1 (fun j=>[i64 (x.2.1 j)]),i64 x.2.2.1,i64 x.2.2.2],[])
def d_Pick(t:TT):a_Pick:=((vRoN (ag t 0)),dTI (ag t 0) 0,vI (ag t 1),vI (ag t 2))
theorem v_Pick:VI A_Pick:=vd d_Pick fun _=>rfl
def R_Pick:g_Pick→CRes:=fun z=>.ret (i64 z) []
def t_Pick{β:Type}(x:a_Pick)(dn:g_Pick→Option β):Option β:=
 if decide (x.2.2.1<0)=true then dn (0)else if decide (x.2.2.1≥((x.1:Nat):Int))=true then dn (0)else if 0≤x.2.2.1∧x.2.2.1< ((x.1:Nat):Int)then if decide (x.2.1 (Int.toNat x.2.2.1)<0)=true then if x.2.2.2=0 then none else dn (Int.tmod (w (0-w (x.2.1 (Int.toNat x.2.2.1)+1))) x.2.2.2)else if x.2.2.2=0 then none else dn (Int.tmod (x.2.1 (Int.toNat x.2.2.1)) x.2.2.2)else none
theorem n_Pick{β:Type}(x)(dn:g_Pick→Option β):t_Pick x dn=(t_Pick x some).bind dn:=by
 unfold t_Pick
 repeat' first|exact n0|refine n1 fun _=>?_|refine n2 ?_ ?_|refine n3 (fun _=>?_) fun _=>?_|rfl
theorem r_Pick(x):callK E5 (callG E5 20) lo0 68 (A_Pick x).1 (A_Pick x).2 K=t_Pick x (fun z=>some (.c (R_Pick z))):=by kernel_rfl
noncomputable def Pick(q:Nat)(x:a_Pick):Option g_Pick:=t_Pick x some
theorem sc_Pick(q:Nat):Lw E5 68 A_Pick R_Pick (Pick q):=sof hW5 hX5 (sound_G hW5 hX5 20).1 (fun _=>lo0_sound) fun x=>(r_Pick x).trans (by rw[n_Pick]<;>rfl)
abbrev a_Next:Type:=Int×Nat×FI×Int×Int
abbrev g_Next:Type:=Int×Nat×FI×Int×Int
def A_Next:AR a_Next:=fun x=>([.ptr 0 0,i64 x.1],[some (.blk [.ro 1 x.2.1 (fun j=>[i64 (x.2.2.1 j)]),i64 x.2.2.2.1,i64 x.2.2.2.2])])
def d_Next(t:TT):a_Next:=((vI (ag t 1)),vRoN (cc t 0 0),dTI (cc t 0 0) 0,vI (cc t 0 1),vI (cc t 0 2))
theorem v_Next:VI A_Next:=vd d_Next fun _=>rfl
def R_Next:g_Next→CRes:=fun z=>.ret (i64 z.1) [some (.blk [.ro 1 z.2.1 (fun j=>[i64 (z.2.2.1 j)]),i64 z.2.2.2.1,i64 z.2.2.2.2])]
def t_Next{β:Type}(c_Pick:a_Pick→Option g_Pick)(x:a_Next)(dn:g_Next→Option β):Option β:=
 (c_Pick (x.2.1,x.2.2.1,w (w (x.2.2.2.1+1)-1),x.1)).bind fun z4=>dn (z4,x.2.1,x.2.2.1,w (x.2.2.2.1+1),x.2.2.2.2)
theorem n_Next{β:Type}(c_Pick)(x)(dn:g_Next→Option β):t_Next c_Pick x dn=(t_Next c_Pick x some).bind dn:=by
 unfold t_Next
 repeat' first|exact n0|refine n1 fun _=>?_|refine n2 ?_ ?_|refine n3 (fun _=>?_) fun _=>?_|rfl
theorem r_Next(c_Pick)(x):callK E5 (ftb 68 A_Pick R_Pick c_Pick ca0) lo0 30 (A_Next x).1 (A_Next x).2 K=t_Next (vf A_Pick c_Pick) x (fun z=>some (.c (R_Next z))):=by kernel_rfl
noncomputable def Next(q:Nat)(x:a_Next):Option g_Next:=t_Next (Pick q) x some
theorem sc_Next(q:Nat):Lw E5 30 A_Next R_Next (Next q):=sof hW5 hX5 (fk (sc_Pick q) ca0_sound) (fun _=>lo0_sound) fun x=>(r_Next (Pick q) x).trans (by rw[v_Pick,n_Next]<;>rfl)
abbrev a_Unit:Type:=Int
abbrev g_Unit:Type:=ByteArray
def A_Unit:AR a_Unit:=fun x=>([i64 x],[])
def d_Unit(t:TT):a_Unit:=(vI (ag t 0))
theorem v_Unit:VI A_Unit:=vd d_Unit fun _=>rfl
def R_Unit:g_Unit→CRes:=fun z=>.ret (st z) []
def t_Unit{β:Type}(x:a_Unit)(dn:g_Unit→Option β):Option β:=
 if 0≤Int.tmod x 9∧Int.tmod x (9:Int)<9 then if 0+Int.toNat (Int.tmod x 9)<9∧1=1 then dn (if 0+Int.toNat (Int.tmod x 9)=0 then⟨#[]⟩else if 0+Int.toNat (Int.tmod x 9)-1=0 then⟨#[115]⟩else if 0+Int.toNat (Int.tmod x 9)-1-1=0 then⟨#[74]⟩else if 0+Int.toNat (Int.tmod x 9)-1-1-1=0 then⟨#[66]⟩else if 0+Int.toNat (Int.tmod x 9)-1-1-1-1=0 then⟨#[100,101,103]⟩else if 0+Int.toNat (Int.tmod x 9)-1-1-1-1-1=0 then⟨#[75]⟩else if 0+Int.toNat (Int.tmod x 9)-1-1-1-1-1-1=0 then⟨#[107,66]⟩else if 0+Int.toNat (Int.tmod x 9)-1-1-1-1-1-1-1=0 then⟨#[109,105,110]⟩else⟨#[87]⟩)else none else none
theorem n_Unit{β:Type}(x)(dn:g_Unit→Option β):t_Unit x dn=(t_Unit x some).bind dn:=by
 unfold t_Unit
 repeat' first|exact n0|refine n1 fun _=>?_|refine n2 ?_ ?_|refine n3 (fun _=>?_) fun _=>?_|rfl
theorem r_Unit(x):callK E5 ca0 lo0 32 (A_Unit x).1 (A_Unit x).2 K=t_Unit x (fun z=>some (.c (R_Unit z))):=by kernel_rfl
noncomputable def Unit(q:Nat)(x:a_Unit):Option g_Unit:=t_Unit x some
theorem sc_Unit(q:Nat):Lw E5 32 A_Unit R_Unit (Unit q):=sof hW5 hX5 ca0_sound (fun _=>lo0_sound) fun x=>(r_Unit x).trans (by rw[n_Unit]<;>rfl)
abbrev a_Word:Type:=Int
abbrev g_Word:Type:=ByteArray
def A_Word:AR a_Word:=fun x=>([i64 x],[])
def d_Word(t:TT):a_Word:=(vI (ag t 0))
theorem v_Word:VI A_Word:=vd d_Word fun _=>rfl
def R_Word:g_Word→CRes:=fun z=>.ret (st z) []
def t_Word{β:Type}(x:a_Word)(dn:g_Word→Option β):Option β:=
 if 0≤Int.tmod x 7∧Int.tmod x (7:Int)<7 then if 0+Int.toNat (Int.tmod x 7)<7∧1=1 then dn (if 0+Int.toNat (Int.tmod x 7)=0 then⟨#[97]⟩else if 0+Int.toNat (Int.tmod x 7)-1=0 then⟨#[98]⟩else if 0+Int.toNat (Int.tmod x 7)-1-1=0 then⟨#[120,49]⟩else if 0+Int.toNat (Int.tmod x 7)-1-1-1=0 then⟨#[99,111,117,110,116]⟩else if 0+Int.toNat (Int.tmod x 7)-1-1-1-1=0 then⟨#[115]⟩else if 0+Int.toNat (Int.tmod x 7)-1-1-1-1-1=0 then⟨#[84,111,116,97,108]⟩else⟨#[97,98,99,100,101,102,103,104,105,106,107,57]⟩)else none else none
theorem n_Word{β:Type}(x)(dn:g_Word→Option β):t_Word x dn=(t_Word x some).bind dn:=by
 unfold t_Word
 repeat' first|exact n0|refine n1 fun _=>?_|refine n2 ?_ ?_|refine n3 (fun _=>?_) fun _=>?_|rfl
theorem r_Word(x):callK E5 ca0 lo0 77 (A_Word x).1 (A_Word x).2 K=t_Word x (fun z=>some (.c (R_Word z))):=by kernel_rfl
noncomputable def Word(q:Nat)(x:a_Word):Option g_Word:=t_Word x some
theorem sc_Word(q:Nat):Lw E5 77 A_Word R_Word (Word q):=sof hW5 hX5 ca0_sound (fun _=>lo0_sound) fun x=>(r_Word x).trans (by rw[n_Word]<;>rfl)
abbrev a_LiteralR:Type:=Nat×FI×Int×Int
abbrev g_LiteralR:Type:=Int×Int×ByteArray×Nat×FI×Int×Int
def A_LiteralR:AR a_LiteralR:=fun x=>([.ptr 0 0],[some (.blk [.ro 1 x.1 (fun j=>[i64 (x.2.1 j)]),i64 x.2.2.1,i64 x.2.2.2])])
def R_LiteralR:g_LiteralR→CRes:=fun z=>.ret (.agg [i64 z.1,i64 z.2.1,st z.2.2.1,nilS]) [some (.blk [.ro 1 z.2.2.2.1 (fun j=>[i64 (z.2.2.2.2.1 j)]),i64 z.2.2.2.2.2.1,i64 z.2.2.2.2.2.2])]
def t_LiteralR{β:Type}(c_Next:a_Next→Option g_Next)(c_Unit:a_Unit→Option g_Unit)(x:a_LiteralR)(dn:g_LiteralR→Option β):Option β:=
 (c_Next (2147483648,x)).bind fun z5=>(c_Next (9,z5.2)).bind fun z11=>(c_Unit z11.1).bind fun z13=>dn (15,z5.1,z13,z11.2)
theorem n_LiteralR{β:Type}(c_Next c_Unit)(x)(dn:g_LiteralR→Option β):t_LiteralR c_Next c_Unit x dn=(t_LiteralR c_Next c_Unit x some).bind dn:=by
 unfold t_LiteralR
 repeat' first|exact n0|refine n1 fun _=>?_|refine n2 ?_ ?_|refine n3 (fun _=>?_) fun _=>?_|rfl
theorem r_LiteralR(c_Next c_Unit)(x):callK E5 (ftb 30 A_Next R_Next c_Next (ftb 32 A_Unit R_Unit c_Unit ca0)) lo0 76 (A_LiteralR x).1 (A_LiteralR x).2 K=t_LiteralR (vf A_Next c_Next) (vf A_Unit c_Unit) x (fun z=>some (.c (R_LiteralR z))):=by kernel_rfl
noncomputable def LiteralR(q:Nat)(x:a_LiteralR):Option g_LiteralR:=t_LiteralR (Next q) (Unit q) x some
theorem sc_LiteralR(q:Nat):Lw E5 76 A_LiteralR R_LiteralR (LiteralR q):=sof hW5 hX5 (fk (sc_Next q) (fk (sc_Unit q) ca0_sound)) (fun _=>lo0_sound) fun x=>(r_LiteralR (Next q) (Unit q) x).trans (by rw[v_Next,v_Unit,n_LiteralR]<;>rfl)
abbrev a_Literal:Type:=Nat×FI×Int×Int
abbrev g_Literal:Type:=Int×Int×ByteArray×Nat×FL×Nat×FI×Int×Int
def A_Literal:AR a_Literal:=fun x=>([.ptr 0 0],[some (.blk [.ro 1 x.1 (fun j=>[i64 (x.2.1 j)]),i64 x.2.2.1,i64 x.2.2.2])])
def d_Literal(t:TT):a_Literal:=((vRoN (cc t 0 0)),dTI (cc t 0 0) 0,vI (cc t 0 1),vI (cc t 0 2))
theorem v_Literal:VI A_Literal:=vd d_Literal fun _=>rfl
def R_Literal:g_Literal→CRes:=fun z=>.ret (.agg [i64 z.1,i64 z.2.1,st z.2.2.1,.ro 4 z.2.2.2.1 z.2.2.2.2.1]) [some (.blk [.ro 1 z.2.2.2.2.2.1 (fun j=>[i64 (z.2.2.2.2.2.2.1 j)]),i64 z.2.2.2.2.2.2.2.1,i64 z.2.2.2.2.2.2.2.2])]
def cv_Literal:g_LiteralR→g_Literal:=fun z=>(z.1,z.2.1,z.2.2.1,0,fun _=>[],z.2.2.2)
theorem cvs_Literal{args:List V}{L:List (Option Chunk)}(z:g_LiteralR)(h:SC E5 76 args L (R_LiteralR z)):SC E5 76 args L (R_Literal (cv_Literal z)):=by
 exact mv_z h
noncomputable def Literal(q:Nat)(x:a_Literal):Option g_Literal:=(LiteralR q x).map cv_Literal
theorem sc_Literal(q:Nat):Lw E5 76 A_Literal R_Literal (Literal q):=by
 intro x z h
 obtain⟨y,hy,rfl⟩:=Option.map_eq_some_iff.1 h
 exact cvs_Literal y (sc_LiteralR q x y hy)
abbrev a_MExpr:Type:=Int×Nat×FI×Int×Int
abbrev g_MExpr:Type:=Int×Int×ByteArray×Nat×FL×Nat×FI×Int×Int
def A_MExpr:AR a_MExpr:=fun x=>([.ptr 0 0,i64 x.1],[some (.blk [.ro 1 x.2.1 (fun j=>[i64 (x.2.2.1 j)]),i64 x.2.2.2.1,i64 x.2.2.2.2])])
def d_MExpr(t:TT):a_MExpr:=((vI (ag t 1)),vRoN (cc t 0 0),dTI (cc t 0 0) 0,vI (cc t 0 1),vI (cc t 0 2))
theorem v_MExpr:VI A_MExpr:=vd d_MExpr fun _=>rfl
def R_MExpr:g_MExpr→CRes:=fun z=>.ret (.agg [i64 z.1,i64 z.2.1,st z.2.2.1,.ro 4 z.2.2.2.1 z.2.2.2.2.1]) [some (.blk [.ro 1 z.2.2.2.2.2.1 (fun j=>[i64 (z.2.2.2.2.2.2.1 j)]),i64 z.2.2.2.2.2.2.2.1,i64 z.2.2.2.2.2.2.2.2])]
abbrev a_MExprR:Type:=Int×Nat×FI×Int×Int
abbrev g_MExprR:Type:=(Int×Int×ByteArray×Nat×FL×Nat×FI×Int×Int)⊕(Int×Int×ByteArray×Nat×FI×Int×Int)⊕(Int×Int×ByteArray×Int×Int×ByteArray×Nat×FL×Nat×FI×Int×Int)⊕(Int×Int×ByteArray×Int×Int×ByteArray×Nat×FL×Int×Int×ByteArray×Nat×FL×Nat×FI×Int×Int)
def A_MExprR:AR a_MExprR:=fun x=>([.ptr 0 0,i64 x.1],[some (.blk [.ro 1 x.2.1 (fun j=>[i64 (x.2.2.1 j)]),i64 x.2.2.2.1,i64 x.2.2.2.2])])
def R_MExprR:g_MExprR→CRes:=Sum.elim (fun z:Int×Int×ByteArray×Nat×FL×Nat×FI×Int×Int=>.ret (.agg [i64 z.1,i64 z.2.1,st z.2.2.1,.ro 4 z.2.2.2.1 z.2.2.2.2.1]) [some (.blk [.ro 1 z.2.2.2.2.2.1 (fun j=>[i64 (z.2.2.2.2.2.2.1 j)]),i64 z.2.2.2.2.2.2.2.1,i64 z.2.2.2.2.2.2.2.2])]) (Sum.elim (fun z:Int×Int×ByteArray×Nat×FI×Int×Int=>.ret (.agg [i64 z.1,i64 z.2.1,st z.2.2.1,nilS]) [some (.blk [.ro 1 z.2.2.2.1 (fun j=>[i64 (z.2.2.2.2.1 j)]),i64 z.2.2.2.2.2.1,i64 z.2.2.2.2.2.2])]) (Sum.elim (fun z:Int×Int×ByteArray×Int×Int×ByteArray×Nat×FL×Nat×FI×Int×Int=>.ret (.agg [i64 z.1,i64 z.2.1,st z.2.2.1,.sl 1 4 0 1]) [some (.blk [.ro 1 z.2.2.2.2.2.2.2.2.1 (fun j=>[i64 (z.2.2.2.2.2.2.2.2.2.1 j)]),i64 z.2.2.2.2.2.2.2.2.2.2.1,i64 z.2.2.2.2.2.2.2.2.2.2.2]),some (.row 35 4 1 (selL [[i64 z.2.2.2.1,i64 z.2.2.2.2.1,st z.2.2.2.2.2.1,.ro 4 z.2.2.2.2.2.2.1 z.2.2.2.2.2.2.2.1]]))]) (fun z:Int×Int×ByteArray×Int×Int×ByteArray×Nat×FL×Int×Int×ByteArray×Nat×FL×Nat×FI×Int×Int=>.ret (.agg [i64 z.1,i64 z.2.1,st z.2.2.1,.sl 1 4 0 2]) [some (.blk [.ro 1 z.2.2.2.2.2.2.2.2.2.2.2.2.2.1 (fun j=>[i64 (z.2.2.2.2.2.2.2.2.2.2.2.2.2.2.1 j)]),i64 z.2.2.2.2.2.2.2.2.2.2.2.2.2.2.2.1,i64 z.2.2.2.2.2.2.2.2.2.2.2.2.2.2.2.2]),some (.row 35 4 2 (selL [[i64 z.2.2.2.1,i64 z.2.2.2.2.1,st z.2.2.2.2.2.1,.ro 4 z.2.2.2.2.2.2.1 z.2.2.2.2.2.2.2.1],[i64 z.2.2.2.2.2.2.2.2.1,i64 z.2.2.2.2.2.2.2.2.2.1,st z.2.2.2.2.2.2.2.2.2.2.1,.ro 4 z.2.2.2.2.2.2.2.2.2.2.2.1 z.2.2.2.2.2.2.2.2.2.2.2.2.1]]))])))
def t_MExprR{β:Type}(c_Next:a_Next→Option g_Next)(c_Literal:a_Literal→Option g_Literal)(c_Word:a_Word→Option g_Word)(c_MExpr:a_MExpr→Option g_MExpr)(x:a_MExprR)(dn:g_MExprR→Option β):Option β:=
 (c_Next (9,x.2)).bind fun z5=>if decide (x.1≤0)=true then if(Int.tmod z5.1 (4:Int)==0)=true then(c_Literal z5.2).bind fun z10=>dn (.inl z10)else if(Int.tmod z5.1 (4:Int)==1)=true then(c_Next (7,z5.2)).bind fun z16=>(c_Word z16.1).bind fun z18=>dn (.inr (.inl (17,0,z18,z16.2)))else if(Int.tmod z5.1 (4:Int)==2)=true then(c_Next (7,z5.2)).bind fun z24=>(c_Word z24.1).bind fun z26=>dn (.inr (.inl (18,0,z26,z24.2)))else if(Int.tmod z5.1 (4:Int)==3)=true then(c_Next (2,z5.2)).bind fun z32=>dn (.inr (.inl (16,z32.1,⟨#[]⟩,z32.2)))else if(Int.tmod z5.1 (4:Int)==4)=true then(c_Next (2,z5.2)).bind fun z38=>if 0≤z38.1∧z38.1<2 then if 0+Int.toNat z38.1<2∧1=1 then(c_MExpr (w (x.1-1),z38.2)).bind fun z44=>dn (.inr (.inr (.inl (19,0,if 0+Int.toNat z38.1=0 then⟨#[33]⟩else⟨#[45]⟩,z44))))else none else none else(c_MExpr (w (x.1-1),z5.2)).bind fun z50=>(c_Next (12,z50.2.2.2.2.2)).bind fun z56=>if 0≤z56.1∧z56.1<12 then if 0+Int.toNat z56.1<12∧1=1 then(c_MExpr (w (x.1-1),z56.2)).bind fun z62=>dn (.inr (.inr (.inr (20,0,if 0+Int.toNat z56.1=0 then⟨#[124,124]⟩else if 0+Int.toNat z56.1-1=0 then⟨#[38,38]⟩else if 0+Int.toNat z56.1-1-1=0 then⟨#[60]⟩else if 0+Int.toNat z56.1-1-1-1=0 then⟨#[60,61]⟩else if 0+Int.toNat z56.1-1-1-1-1=0 then⟨#[62]⟩else if 0+Int.toNat z56.1-1-1-1-1-1=0 then⟨#[62,61]⟩else if 0+Int.toNat z56.1-1-1-1-1-1-1=0 then⟨#[61,61]⟩else if 0+Int.toNat z56.1-1-1-1-1-1-1-1=0 then⟨#[33,61]⟩else if 0+Int.toNat z56.1-1-1-1-1-1-1-1-1=0 then⟨#[43]⟩else if 0+Int.toNat z56.1-1-1-1-1-1-1-1-1-1=0 then⟨#[45]⟩else if 0+Int.toNat z56.1-1-1-1-1-1-1-1-1-1-1=0 then⟨#[42]⟩else⟨#[47]⟩,z50.1,z50.2.1,z50.2.2.1,z50.2.2.2.1,z50.2.2.2.2.1,z62))))else none else none else if decide (z5.2.2.2.1>((z5.2.1:Nat):Int))=true then if(Int.tmod z5.1 (4:Int)==0)=true then(c_Literal z5.2).bind fun z67=>dn (.inl z67)else if(Int.tmod z5.1 (4:Int)==1)=true then(c_Next (7,z5.2)).bind fun z73=>(c_Word z73.1).bind fun z75=>dn (.inr (.inl (17,0,z75,z73.2)))else if(Int.tmod z5.1 (4:Int)==2)=true then(c_Next (7,z5.2)).bind fun z81=>(c_Word z81.1).bind fun z83=>dn (.inr (.inl (18,0,z83,z81.2)))else if(Int.tmod z5.1 (4:Int)==3)=true then(c_Next (2,z5.2)).bind fun z89=>dn (.inr (.inl (16,z89.1,⟨#[]⟩,z89.2)))else if(Int.tmod z5.1 (4:Int)==4)=true then(c_Next (2,z5.2)).bind fun z95=>if 0≤z95.1∧z95.1<2 then if 0+Int.toNat z95.1<2∧1=1 then(c_MExpr (w (x.1-1),z95.2)).bind fun z101=>dn (.inr (.inr (.inl (19,0,if 0+Int.toNat z95.1=0 then⟨#[33]⟩else⟨#[45]⟩,z101))))else none else none else(c_MExpr (w (x.1-1),z5.2)).bind fun z107=>(c_Next (12,z107.2.2.2.2.2)).bind fun z113=>if 0≤z113.1∧z113.1<12 then if 0+Int.toNat z113.1<12∧1=1 then(c_MExpr (w (x.1-1),z113.2)).bind fun z119=>dn (.inr (.inr (.inr (20,0,if 0+Int.toNat z113.1=0 then⟨#[124,124]⟩else if 0+Int.toNat z113.1-1=0 then⟨#[38,38]⟩else if 0+Int.toNat z113.1-1-1=0 then⟨#[60]⟩else if 0+Int.toNat z113.1-1-1-1=0 then⟨#[60,61]⟩else if 0+Int.toNat z113.1-1-1-1-1=0 then⟨#[62]⟩else if 0+Int.toNat z113.1-1-1-1-1-1=0 then⟨#[62,61]⟩else if 0+Int.toNat z113.1-1-1-1-1-1-1=0 then⟨#[61,61]⟩else if 0+Int.toNat z113.1-1-1-1-1-1-1-1=0 then⟨#[33,61]⟩else if 0+Int.toNat z113.1-1-1-1-1-1-1-1-1=0 then⟨#[43]⟩else if 0+Int.toNat z113.1-1-1-1-1-1-1-1-1-1=0 then⟨#[45]⟩else if 0+Int.toNat z113.1-1-1-1-1-1-1-1-1-1-1=0 then⟨#[42]⟩else⟨#[47]⟩,z107.1,z107.2.1,z107.2.2.1,z107.2.2.2.1,z107.2.2.2.2.1,z119))))else none else none else if(z5.1==0)=true then(c_Literal z5.2).bind fun z124=>dn (.inl z124)else if(z5.1==1)=true then(c_Next (7,z5.2)).bind fun z130=>(c_Word z130.1).bind fun z132=>dn (.inr (.inl (17,0,z132,z130.2)))else if(z5.1==2)=true then(c_Next (7,z5.2)).bind fun z138=>(c_Word z138.1).bind fun z140=>dn (.inr (.inl (18,0,z140,z138.2)))else if(z5.1==3)=true then(c_Next (2,z5.2)).bind fun z146=>dn (.inr (.inl (16,z146.1,⟨#[]⟩,z146.2)))else if(z5.1==4)=true then(c_Next (2,z5.2)).bind fun z152=>if 0≤z152.1∧z152.1<2 then if 0+Int.toNat z152.1<2∧1=1 then(c_MExpr (w (x.1-1),z152.2)).bind fun z158=>dn (.inr (.inr (.inl (19,0,if 0+Int.toNat z152.1=0 then⟨#[33]⟩else⟨#[45]⟩,z158))))else none else none else(c_MExpr (w (x.1-1),z5.2)).bind fun z164=>(c_Next (12,z164.2.2.2.2.2)).bind fun z170=>if 0≤z170.1∧z170.1<12 then if 0+Int.toNat z170.1<12∧1=1 then(c_MExpr (w (x.1-1),z170.2)).bind fun z176=>dn (.inr (.inr (.inr (20,0,if 0+Int.toNat z170.1=0 then⟨#[124,124]⟩else if 0+Int.toNat z170.1-1=0 then⟨#[38,38]⟩else if 0+Int.toNat z170.1-1-1=0 then⟨#[60]⟩else if 0+Int.toNat z170.1-1-1-1=0 then⟨#[60,61]⟩else if 0+Int.toNat z170.1-1-1-1-1=0 then⟨#[62]⟩else if 0+Int.toNat z170.1-1-1-1-1-1=0 then⟨#[62,61]⟩else if 0+Int.toNat z170.1-1-1-1-1-1-1=0 then⟨#[61,61]⟩else if 0+Int.toNat z170.1-1-1-1-1-1-1-1=0 then⟨#[33,61]⟩else if 0+Int.toNat z170.1-1-1-1-1-1-1-1-1=0 then⟨#[43]⟩else if 0+Int.toNat z170.1-1-1-1-1-1-1-1-1-1=0 then⟨#[45]⟩else if 0+Int.toNat z170.1-1-1-1-1-1-1-1-1-1-1=0 then⟨#[42]⟩else⟨#[47]⟩,z164.1,z164.2.1,z164.2.2.1,z164.2.2.2.1,z164.2.2.2.2.1,z176))))else none else none
theorem n_MExprR{β:Type}(c_Next c_Literal)(c_Word c_MExpr)(x)(dn:g_MExprR→Option β):t_MExprR c_Next c_Literal c_Word c_MExpr x dn=(t_MExprR c_Next c_Literal c_Word c_MExpr x some).bind dn:=by
 unfold t_MExprR
 repeat' first|exact n0|refine n1 fun _=>?_|refine n2 ?_ ?_|refine n3 (fun _=>?_) fun _=>?_|rfl
theorem r_MExprR(c_Next c_Literal)(c_Word c_MExpr)(x):callK E5 (ftb 30 A_Next R_Next c_Next (ftb 76 A_Literal R_Literal c_Literal (ftb 77 A_Word R_Word c_Word (ftb 39 A_MExpr R_MExpr c_MExpr ca0)))) lo0 39 (A_MExprR x).1 (A_MExprR x).2 K=t_MExprR (vf A_Next c_Next) (vf A_Literal c_Literal) (vf A_Word c_Word) (vf A_MExpr c_MExpr) x (fun z=>some (.c (R_MExprR z))):=by kernel_rfl
theorem s_MExprR(c_Next)(h_Next:Lw E5 30 A_Next R_Next c_Next)(c_Literal)(h_Literal:Lw E5 76 A_Literal R_Literal c_Literal)(c_Word)(h_Word:Lw E5 77 A_Word R_Word c_Word)(c_MExpr)(h_MExpr:Lw E5 39 A_MExpr R_MExpr c_MExpr)(q:Nat):Lw E5 39 A_MExprR R_MExprR fun x=>t_MExprR c_Next c_Literal c_Word c_MExpr x some:=sof hW5 hX5 (fk h_Next (fk h_Literal (fk h_Word (fk h_MExpr ca0_sound)))) (fun _=>lo0_sound) fun x=>(r_MExprR c_Next c_Literal c_Word c_MExpr x).trans (by rw[v_Next,v_Literal,v_Word,v_MExpr,n_MExprR]<;>rfl)
def cv_MExpr:g_MExprR→g_MExpr:=Sum.elim (fun z=>z) (Sum.elim (fun z=>(z.1,z.2.1,z.2.2.1,0,fun _=>[],z.2.2.2)) (Sum.elim (fun z=>(z.1,z.2.1,z.2.2.1,1,selL [[i64 z.2.2.2.1,i64 z.2.2.2.2.1,st z.2.2.2.2.2.1,.ro 4 z.2.2.2.2.2.2.1 z.2.2.2.2.2.2.2.1]],z.2.2.2.2.2.2.2.2)) (fun z=>(z.1,z.2.1,z.2.2.1,2,selL [[i64 z.2.2.2.1,i64 z.2.2.2.2.1,st z.2.2.2.2.2.1,.ro 4 z.2.2.2.2.2.2.1 z.2.2.2.2.2.2.2.1],[i64 z.2.2.2.2.2.2.2.2.1,i64 z.2.2.2.2.2.2.2.2.2.1,st z.2.2.2.2.2.2.2.2.2.2.1,.ro 4 z.2.2.2.2.2.2.2.2.2.2.2.1 z.2.2.2.2.2.2.2.2.2.2.2.2.1]],z.2.2.2.2.2.2.2.2.2.2.2.2.2))))
theorem cvs_MExpr{args:List V}{L:List (Option Chunk)}(z:g_MExprR)(h:SC E5 39 args L (R_MExprR z)):SC E5 39 args L (R_MExpr (cv_MExpr z)):=by
 rcases z with z|z|z|z
 ·exact h
 ·exact mv_z h
 ·exact mv_k h
 ·exact mv_k h
noncomputable def mxS:Nat→(a_MExpr→Option g_MExpr)
 |0=>(fun _=>none)
 |q+1=>(fun x=>(t_MExprR ((Next q)) ((Literal q)) ((Word q)) ((mxS q)) x some).map cv_MExpr)
theorem mxS_sc:∀q,(∀x z,(mxS q) x=some z→SC E5 39 (A_MExpr x).1 (A_MExpr x).2 (R_MExpr z))
 |0=>(fun x z h=>by cases h)
 |q+1=>by
  have h0:=mxS_sc q
  exact((fun x z h=>by
   obtain⟨y,hy,rfl⟩:=Option.map_eq_some_iff.1 h
   exact cvs_MExpr y (s_MExprR ((Next q)) ((sc_Next q)) ((Literal q)) ((sc_Literal q)) ((Word q)) ((sc_Word q)) ((mxS q)) (h0) q x y hy)))
noncomputable def MExpr(q:Nat):a_MExpr→Option g_MExpr:=(mxS q)
theorem sc_MExpr(q:Nat):Lw E5 39 A_MExpr R_MExpr (MExpr q):=(mxS_sc q)
abbrev a_tree:Type:=Nat×FI×Int
abbrev g_tree:Type:=Int×Int×ByteArray×Nat×FL
def A_tree:AR a_tree:=fun x=>([.ro 1 x.1 (fun j=>[i64 (x.2.1 j)]),i64 x.2.2],[])
def d_tree(t:TT):a_tree:=((vRoN (ag t 0)),dTI (ag t 0) 0,vI (ag t 1))
theorem v_tree:VI A_tree:=vd d_tree fun _=>rfl
def R_tree:g_tree→CRes:=fun z=>.ret (.agg [i64 z.1,i64 z.2.1,st z.2.2.1,.ro 4 z.2.2.2.1 z.2.2.2.2]) []
def t_tree{β:Type}(c_MExpr:a_MExpr→Option g_MExpr)(x:a_tree)(dn:g_tree→Option β):Option β:=
 if(0:Int)≤0∧(0≤if 60< ((x.1:Nat):Int)then 60 else((x.1:Nat):Int))∧(if 60< ((x.1:Nat):Int)then 60 else((x.1:Nat):Int))≤((x.1:Nat):Int)then(c_MExpr (x.2.2,Int.toNat (if 60< ((x.1:Nat):Int)then 60 else((x.1:Nat):Int))-0,fun j=>x.2.1 (0+j),0,0)).bind fun z5=>dn (z5.1,z5.2.1,z5.2.2.1,z5.2.2.2.1,z5.2.2.2.2.1)else none
theorem n_tree{β:Type}(c_MExpr)(x)(dn:g_tree→Option β):t_tree c_MExpr x dn=(t_tree c_MExpr x some).bind dn:=by
 unfold t_tree
 repeat' first|exact n0|refine n1 fun _=>?_|refine n2 ?_ ?_|refine n3 (fun _=>?_) fun _=>?_|rfl
theorem r_tree(c_MExpr)(x):callK E5 (ftb 39 A_MExpr R_MExpr c_MExpr ca0) lo0 15 (A_tree x).1 (A_tree x).2 K=t_tree (vf A_MExpr c_MExpr) x (fun z=>some (.c (R_tree z))):=by kernel_rfl
noncomputable def tree(q:Nat)(x:a_tree):Option g_tree:=t_tree (MExpr q) x some
theorem sc_tree(q:Nat):Lw E5 15 A_tree R_tree (tree q):=sof hW5 hX5 (fk (sc_MExpr q) ca0_sound) (fun _=>lo0_sound) fun x=>(r_tree (MExpr q) x).trans (by rw[v_MExpr,n_tree]<;>rfl)
abbrev a_ExprV:Type:=Int×Int×ByteArray×Nat×FL
abbrev g_ExprV:Type:=ByteArray
def A_ExprV:AR a_ExprV:=fun x=>([.agg [i64 x.1,i64 x.2.1,st x.2.2.1,.ro 4 x.2.2.2.1 x.2.2.2.2]],[])
def d_ExprV(t:TT):a_ExprV:=(vI (ca t 0 0),vI (ca t 0 1),vS (ca t 0 2),vRoN (ca t 0 3),vRoF (ca t 0 3))
theorem v_ExprV:VI A_ExprV:=vd d_ExprV fun _=>rfl
def R_ExprV:g_ExprV→CRes:=fun z=>.ret (st z) []
noncomputable def ExprV(q:Nat)(x:a_ExprV):Option g_ExprV:=@dite _ (∃p:Tr×ByteArray,Txt p.1 p.2∧RepN p.1 x∧szT p.1≤1000000) (Classical.propDecidable _) (fun h=>some (Classical.choose h).2) (fun _=>none)
theorem sc_ExprV(q:Nat):Lw E5 16 A_ExprV R_ExprV (ExprV q):=by
 intro x z h
 unfold ExprV at h
 split at h
 ·rename_i hc
  cases h
  obtain⟨h1,h2,h3⟩:=Classical.choose_spec hc
  obtain⟨z,h4,h5⟩:=expr_rs h1 h3 (2*szT (Classical.choose hc).1+20) (Nat.le_refl _)
  rw[←h5]
  have h6:=sc_Expr _ _ z h4
  have h7:=leT _ _ h2
  rw[cells_eT]at h7
  exact SC.arg h6 (LeL.cons (Le.agg h7) LeL.nil) rfl rfl
 ·cases h
abbrev a_RExprV:Type:=Int×Int×ByteArray×Nat×FL
abbrev g_RExprV:Type:=ByteArray
def A_RExprV:AR a_RExprV:=fun x=>([.agg [i64 x.1,i64 x.2.1,st x.2.2.1,.ro 4 x.2.2.2.1 x.2.2.2.2]],[])
def d_RExprV(t:TT):a_RExprV:=(vI (ca t 0 0),vI (ca t 0 1),vS (ca t 0 2),vRoN (ca t 0 3),vRoF (ca t 0 3))
theorem v_RExprV:VI A_RExprV:=vd d_RExprV fun _=>rfl
def R_RExprV:g_RExprV→CRes:=fun z=>.ret (st z) []
noncomputable def RExprV(q:Nat)(x:a_RExprV):Option g_RExprV:=@dite _ (∃p:Tr×ByteArray,Txt p.1 p.2∧RepN p.1 x∧szT p.1≤1000000) (Classical.propDecidable _) (fun h=>some (Classical.choose h).2) (fun _=>none)
theorem sc_RExprV(q:Nat):Lw E5 17 A_RExprV R_RExprV (RExprV q):=by
 intro x z h
 unfold RExprV at h
 split at h
 ·rename_i hc
  cases h
  obtain⟨h1,h2,h3⟩:=Classical.choose_spec hc
  obtain⟨z,h4,h5⟩:=rexpr_rs h1 h3 (2*szT (Classical.choose hc).1+20) (Nat.le_refl _)
  rw[←h5]
  have h6:=sc_RExpr _ _ z h4
  have h7:=leT _ _ h2
  rw[cells_eT]at h7
  exact SC.arg h6 (LeL.cons (Le.agg h7) LeL.nil) rfl rfl
 ·cases h
abbrev a_LExpr:Type:=Nat×FI
abbrev g_LExpr:Type:=Bool
def A_LExpr:AR a_LExpr:=fun x=>([.ro 1 x.1 (fun j=>[i64 (x.2 j)])],[])
def R_LExpr:g_LExpr→CRes:=fun z=>.ret (bo z) []
def t_LExpr{β:Type}(c_tree:a_tree→Option g_tree)(c_ExprV:a_ExprV→Option g_ExprV)(c_RExprV:a_RExprV→Option g_RExprV)(c_Lives:a_Lives→Option g_Lives)(x:a_LExpr)(dn:g_LExpr→Option β):Option β:=
 (c_tree (x.1,x.2,7)).bind fun z3=>(c_ExprV z3).bind fun z9=>(c_RExprV z3).bind fun z15=>if(z9.toList==z15.toList)=true then(c_Lives ()).bind fun z16=>dn z16 else dn false
theorem n_LExpr{β:Type}(c_tree c_ExprV)(c_RExprV c_Lives)(x)(dn:g_LExpr→Option β):t_LExpr c_tree c_ExprV c_RExprV c_Lives x dn=(t_LExpr c_tree c_ExprV c_RExprV c_Lives x some).bind dn:=by
 unfold t_LExpr
 repeat' first|exact n0|refine n1 fun _=>?_|refine n2 ?_ ?_|refine n3 (fun _=>?_) fun _=>?_|rfl
theorem r_LExpr(c_tree c_ExprV)(c_RExprV c_Lives)(x):callK E5 (ftb 15 A_tree R_tree c_tree (ftb 16 A_ExprV R_ExprV c_ExprV (ftb 17 A_RExprV R_RExprV c_RExprV (ftb 11 A_Lives R_Lives c_Lives ca0)))) lo0 5 (A_LExpr x).1 (A_LExpr x).2 K=t_LExpr (vf A_tree c_tree) (vf A_ExprV c_ExprV) (vf A_RExprV c_RExprV) (vf A_Lives c_Lives) x (fun z=>some (.c (R_LExpr z))):=by kernel_rfl
noncomputable def LExpr(q:Nat)(x:a_LExpr):Option g_LExpr:=t_LExpr (tree q) (ExprV q) (RExprV q) (Lives q) x some
theorem sc_LExpr(q:Nat):Lw E5 5 A_LExpr R_LExpr (LExpr q):=sof hW5 hX5 (fk (sc_tree q) (fk (sc_ExprV q) (fk (sc_RExprV q) (fk (sc_Lives q) ca0_sound)))) (fun _=>lo0_sound) fun x=>(r_LExpr (tree q) (ExprV q) (RExprV q) (Lives q) x).trans (by rw[v_tree,v_ExprV,v_RExprV,v_Lives,n_LExpr]<;>rfl)
end Go.Proofs.YtjfkkokeegpeiaaGreatDoor
/- Trees made from numbers, plain: what the maker makes. -/
namespace Go.Proofs.YtjfkkokeegpeiaaGreatDoor
open Go Go.Am Go.Proofs.Lx
set_option maxRecDepth 100000
def mUnits:List ByteArray:=[⟨#[]⟩,⟨#[115]⟩,⟨#[74]⟩,⟨#[66]⟩,⟨#[100,101,103]⟩,⟨#[75]⟩,⟨#[107,66]⟩,⟨#[109,105,110]⟩,⟨#[87]⟩]
def mWords:List ByteArray:=[⟨#[97]⟩,⟨#[98]⟩,⟨#[120,49]⟩,⟨#[99,111,117,110,116]⟩,⟨#[115]⟩,⟨#[84,111,116,97,108]⟩,⟨#[97,98,99,100,101,102,103,104,105,106,107,57]⟩]
inductive Mk:Nat→Tr→Prop
 |int (d:Nat) (n:Int) (s:ByteArray):0≤n→n≤2147483647→s∈mUnits→Mk d (.node 15 n s [])
 |var (d:Nat) (s:ByteArray):s∈mWords→Mk d (.node 17 0 s [])
 |tlm (d:Nat) (s:ByteArray):s∈mWords→Mk d (.node 18 0 s [])
 |bool (d:Nat) (n:Int):n=0∨n=1→Mk d (.node 16 n ⟨#[]⟩ [])
 |un (d:Nat) (s:ByteArray) (a:Tr):s=sNot∨s=sSub→Mk d a→Mk (d+1) (.node 19 0 s [a])
 |bin (d:Nat) (s:ByteArray) (a b:Tr):s∈opsL→Mk d a→Mk d b→Mk (d+1) (.node 20 0 s [a,b])
theorem mU_size:∀s∈mUnits,s.size≤12:=by decide
theorem mW_size:∀s∈mWords,s.size≤12:=by decide
theorem Mk.txt{d:Nat}{t:Tr}(h:Mk d t):∃x,Txt t x:=by
 induction h with
 |int d n s h0 h1 h2=>exact⟨_,.int n s h0 h1 (mU_size s h2)⟩
 |var d s h=>exact⟨_,.var 0 s (mW_size s h)⟩
 |tlm d s h=>exact⟨_,.tlm 0 s (mW_size s h)⟩
 |bool d n h=>exact⟨_,.bool n _⟩
 |un d s a h _ ih=>obtain⟨x,hx⟩:=ih;exact⟨_,.un 0 s a x h hx⟩
 |bin d s a b h _ _ ih1 ih2=>obtain⟨x,hx⟩:=ih1;obtain⟨y,hy⟩:=ih2;exact⟨_,.bin 0 s a b x y h hx hy⟩
theorem Mk.size{d:Nat}{t:Tr}(h:Mk d t):szT t+3≤8*2^d:=by
 have hp:∀d:Nat,1≤2^d:=fun d=>Nat.one_le_two_pow
 induction h with
 |int d n s h0 h1 h2=>have:=hp d;simp only[szT,szL];omega
 |var d s h=>have:=hp d;simp only[szT,szL];omega
 |tlm d s h=>have:=hp d;simp only[szT,szL];omega
 |bool d n h=>have:=hp d;simp only[szT,szL];omega
 |un d s a h _ ih=>have:=hp d;rw[Nat.pow_succ];simp only[szT,szL];omega
 |bin d s a b h _ _ ih1 ih2=>have:=hp d;rw[Nat.pow_succ];simp only[szT,szL];omega
def unitN(n:Nat):ByteArray:=if 0+n=0 then⟨#[]⟩else if 0+n-1=0 then⟨#[115]⟩else if 0+n-1-1=0 then⟨#[74]⟩else if 0+n-1-1-1=0 then⟨#[66]⟩else if 0+n-1-1-1-1=0 then⟨#[100,101,103]⟩else if 0+n-1-1-1-1-1=0 then⟨#[75]⟩else if 0+n-1-1-1-1-1-1=0 then⟨#[107,66]⟩else if 0+n-1-1-1-1-1-1-1=0 then⟨#[109,105,110]⟩else⟨#[87]⟩
theorem unitN_mem(n:Nat)(h:n<9):unitN n∈mUnits:=inP_iff.1 ((show∀n,n<9→inP mUnits (unitN n)=true by decide) n h)
def wordN(n:Nat):ByteArray:=if 0+n=0 then⟨#[97]⟩else if 0+n-1=0 then⟨#[98]⟩else if 0+n-1-1=0 then⟨#[120,49]⟩else if 0+n-1-1-1=0 then⟨#[99,111,117,110,116]⟩else if 0+n-1-1-1-1=0 then⟨#[115]⟩else if 0+n-1-1-1-1-1=0 then⟨#[84,111,116,97,108]⟩else⟨#[97,98,99,100,101,102,103,104,105,106,107,57]⟩
theorem wordN_mem(n:Nat)(h:n<7):wordN n∈mWords:=inP_iff.1 ((show∀n,n<7→inP mWords (wordN n)=true by decide) n h)
def opN12(n:Nat):ByteArray:=if 0+n=0 then⟨#[124,124]⟩else if 0+n-1=0 then⟨#[38,38]⟩else if 0+n-1-1=0 then⟨#[60]⟩else if 0+n-1-1-1=0 then⟨#[60,61]⟩else if 0+n-1-1-1-1=0 then⟨#[62]⟩else if 0+n-1-1-1-1-1=0 then⟨#[62,61]⟩else if 0+n-1-1-1-1-1-1=0 then⟨#[61,61]⟩else if 0+n-1-1-1-1-1-1-1=0 then⟨#[33,61]⟩else if 0+n-1-1-1-1-1-1-1-1=0 then⟨#[43]⟩else if 0+n-1-1-1-1-1-1-1-1-1=0 then⟨#[45]⟩else if 0+n-1-1-1-1-1-1-1-1-1-1=0 then⟨#[42]⟩else⟨#[47]⟩
theorem opN12_mem(n:Nat)(h:n<12):opN12 n∈opsL:=inP_iff.1 ((show∀n,n<12→inP opsL (opN12 n)=true by decide) n h)
def RngM(ln:Nat)(lf:Nat→Int):Prop:=∀j,j<ln→ -9223372036854775808≤lf j∧lf j≤9223372036854775807
theorem tmod_rng{a m:Int}(h:0≤a)(hm:0<m):0≤Int.tmod a m∧Int.tmod a m<m:=⟨Int.tmod_nonneg _ h,Int.tmod_lt_of_pos _ hm⟩
theorem pick_rs(q:Nat){ln:Nat}{lf:Nat→Int}(hr:RngM ln lf)(i m:Int)(hm:0<m):Rs (Pick q (ln,lf,i,m)) (fun z=>0≤z∧z<m):=by
 unfold Pick t_Pick
 dsimp only
 refine Rs.ite (fun _=>Rs.some ⟨Int.le_refl 0,hm⟩) fun h1=>?_
 refine Rs.ite (fun _=>Rs.some ⟨Int.le_refl 0,hm⟩) fun h2=>?_
 have h1:¬i<0:=fun h=>h1 (decide_eq_true h)
 have h2:¬i≥((ln:Nat):Int):=fun h=>h2 (decide_eq_true h)
 refine Rs.pos ⟨by omega,by omega⟩ ?_
 have h3:=hr i.toNat (by omega)
 have hm0:¬m=0:=by omega
 refine Rs.ite (fun h4=>Rs.neg hm0 (Rs.some ?_)) fun h4=>Rs.neg hm0 (Rs.some ?_)
 ·have h4:lf i.toNat<0:=of_decide_eq_true h4
  rw[w_in (n:=lf i.toNat+1) (by omega) (by omega),w_in (by omega) (by omega)]
  exact tmod_rng (by omega) hm
 ·have h4:¬lf i.toNat<0:=fun h=>h4 (decide_eq_true h)
  exact tmod_rng (by omega) hm
theorem next_rs(q:Nat){ln:Nat}{lf:Nat→Int}(hr:RngM ln lf)(a:Nat)(ha:a≤1000000)(mn m:Int)(hm:0<m):Rs (Next q (m,ln,lf,(a:Int),mn)) (fun z=>∃k:Int,z=(k,ln,lf,((a+1:Nat):Int),mn)∧0≤k∧k<m):=by
 unfold Next t_Next
 refine Rs.bind (pick_rs q hr _ m hm) fun k hk=>Rs.some ⟨k,?_,hk⟩
 have:w ((a:Int)+1)=((a+1:Nat):Int):=w_succ (by omega)
 show(k,ln,lf,w ((a:Int)+1),mn)=_
 rw[this]
theorem unit_rs(q:Nat){k:Int}(h0:0≤k):Rs (Unit q k) (fun z=>z∈mUnits):=by
 unfold Unit t_Unit
 have h:=tmod_rng h0 (show(0:Int)<9 by decide)
 exact Rs.pos h (Rs.pos ⟨by omega,rfl⟩ (Rs.some (unitN_mem (Int.tmod k 9).toNat (by omega))))
theorem word_rs(q:Nat){k:Int}(h0:0≤k):Rs (Word q k) (fun z=>z∈mWords):=by
 unfold Word t_Word
 have h:=tmod_rng h0 (show(0:Int)<7 by decide)
 exact Rs.pos h (Rs.pos ⟨by omega,rfl⟩ (Rs.some (wordN_mem (Int.tmod k 7).toNat (by omega))))
def MA(ln:Nat)(lf:Nat→Int)(mn:Int)(P:Tr→Prop)(a n:Nat)(z:g_MExpr):Prop:=∃(t:Tr) (y:NodeT) (a':Nat),z=(y.1,y.2.1,y.2.2.1,y.2.2.2.1,y.2.2.2.2,ln,lf,(a':Int),mn)∧P t∧RepN t y∧a≤a'∧a'≤a+n
theorem lit_rs(q:Nat){ln:Nat}{lf:Nat→Int}(hr:RngM ln lf)(a:Nat)(ha:a≤1000000)(ha1:a+1≤1000000)(mn:Int)(d:Nat):Rs (Literal q (ln,lf,(a:Int),mn)) (MA ln lf mn (fun t=>∃n s,t= .node 15 n s []∧0≤n∧n≤2147483647∧s∈mUnits) a 2):=by
 unfold Literal LiteralR t_LiteralR
 refine Rs.map (P:=fun z=>∃(k:Int) (s:ByteArray),z=(15,k,s,ln,lf,((a+1+1:Nat):Int),mn)∧0≤k∧k<2147483648∧s∈mUnits) ?_ ?_
 ·refine Rs.bind (next_rs q hr a ha mn 2147483648 (by decide)) fun z hz=>?_
  obtain⟨k,rfl,h0,h1⟩:=hz
  refine Rs.bind (next_rs q hr (a+1) ha1 mn 9 (by decide)) fun z hz=>?_
  obtain⟨k2,rfl,h2,h3⟩:=hz
  exact Rs.bind (unit_rs q h2) fun s hs=>Rs.some ⟨k,s,rfl,h0,h1,hs⟩
 ·rintro _ ⟨k,s,rfl,h0,h1,hs⟩
  exact⟨.node 15 k s [],(15,k,s,0,fun _=>[]),a+1+1,rfl,⟨k,s,rfl,h0,by omega,hs⟩,RepN.leaf,by omega,by omega⟩
def dsp(c_Next:a_Next→Option g_Next)(c_Literal:a_Literal→Option g_Literal)(c_Word:a_Word→Option g_Word)(c_MExpr:a_MExpr→Option g_MExpr)(dp k:Int)(s:Nat×FI×Int×Int):Option g_MExprR:=
 if(k==0)=true then(c_Literal s).bind fun z124=>some (.inl z124)else if(k==1)=true then(c_Next (7,s)).bind fun z130=>(c_Word z130.1).bind fun z132=>some (.inr (.inl (17,0,z132,z130.2)))else if(k==2)=true then(c_Next (7,s)).bind fun z138=>(c_Word z138.1).bind fun z140=>some (.inr (.inl (18,0,z140,z138.2)))else if(k==3)=true then(c_Next (2,s)).bind fun z146=>some (.inr (.inl (16,z146.1,⟨#[]⟩,z146.2)))else if(k==4)=true then(c_Next (2,s)).bind fun z152=>if 0≤z152.1∧z152.1<2 then if 0+Int.toNat z152.1<2∧1=1 then(c_MExpr (w (dp-1),z152.2)).bind fun z158=>some (.inr (.inr (.inl (19,0,if 0+Int.toNat z152.1=0 then⟨#[33]⟩else⟨#[45]⟩,z158))))else none else none else(c_MExpr (w (dp-1),s)).bind fun z164=>(c_Next (12,z164.2.2.2.2.2)).bind fun z170=>if 0≤z170.1∧z170.1<12 then if 0+Int.toNat z170.1<12∧1=1 then(c_MExpr (w (dp-1),z170.2)).bind fun z176=>some (.inr (.inr (.inr (20,0,if 0+Int.toNat z170.1=0 then⟨#[124,124]⟩else if 0+Int.toNat z170.1-1=0 then⟨#[38,38]⟩else if 0+Int.toNat z170.1-1-1=0 then⟨#[60]⟩else if 0+Int.toNat z170.1-1-1-1=0 then⟨#[60,61]⟩else if 0+Int.toNat z170.1-1-1-1-1=0 then⟨#[62]⟩else if 0+Int.toNat z170.1-1-1-1-1-1=0 then⟨#[62,61]⟩else if 0+Int.toNat z170.1-1-1-1-1-1-1=0 then⟨#[61,61]⟩else if 0+Int.toNat z170.1-1-1-1-1-1-1-1=0 then⟨#[33,61]⟩else if 0+Int.toNat z170.1-1-1-1-1-1-1-1-1=0 then⟨#[43]⟩else if 0+Int.toNat z170.1-1-1-1-1-1-1-1-1-1=0 then⟨#[45]⟩else if 0+Int.toNat z170.1-1-1-1-1-1-1-1-1-1-1=0 then⟨#[42]⟩else⟨#[47]⟩,z164.1,z164.2.1,z164.2.2.1,z164.2.2.2.1,z164.2.2.2.2.1,z176))))else none else none
theorem dsp_eq(c_Next c_Literal c_Word c_MExpr)(x:a_MExprR):t_MExprR c_Next c_Literal c_Word c_MExpr x some=(c_Next (9,x.2)).bind fun z=>if decide (x.1≤0)=true then dsp c_Next c_Literal c_Word c_MExpr x.1 (Int.tmod z.1 4) z.2 else if decide (z.2.2.2.1>((z.2.1:Nat):Int))=true then dsp c_Next c_Literal c_Word c_MExpr x.1 (Int.tmod z.1 4) z.2 else dsp c_Next c_Literal c_Word c_MExpr x.1 z.1 z.2:=rfl
theorem dsp_rs{q:Nat}{ln:Nat}{lf:Nat→Int}(hr:RngM ln lf)(mn:Int)(d:Nat)(hd:d≤10)
 (ih:∀d',d'<d→∀a:Nat,a+(5*2^d'-2)≤1000000→Rs (mxS q ((d':Int),ln,lf,(a:Int),mn)) (MA ln lf mn (Mk d') a (5*2^d'-2)))
 (k:Int) (h0:0≤k) (h4:d=0→k<4) (a:Nat) (n:Nat) (hn:n+3=5*2^d) (ha:a+n≤1000000):
 Rs (dsp (Next q) (Literal q) (Word q) (mxS q) (d:Int) k (ln,lf,(a:Int),mn)) (fun z=>MA ln lf mn (Mk d) a n (cv_MExpr z)):=by
 have hp:1≤2^d:=Nat.one_le_two_pow
 unfold dsp
 refine Rs.ite (fun _=>?_) fun k0=>Rs.ite (fun _=>?_) fun k1=>Rs.ite (fun _=>?_) fun k2=>Rs.ite (fun _=>?_) fun k3=>?_
 ·refine Rs.bind (lit_rs q hr a (by omega) (by omega) mn d) fun z hz=>Rs.some ?_
  obtain⟨t,y,a',rfl,⟨n,s,rfl,g0,g1,g2⟩,h2,h3,h5⟩:=hz
  exact⟨_,y,a',rfl,Mk.int d n s g0 g1 g2,h2,h3,by omega⟩
 ·refine Rs.bind (next_rs q hr a (by omega) mn 7 (by decide)) fun z hz=>?_
  obtain⟨j,rfl,g0,g1⟩:=hz
  exact Rs.bind (word_rs q g0) fun s hs=>Rs.some ⟨.node 17 0 s [],(17,0,s,0,fun _=>[]),a+1,rfl,Mk.var d s hs,RepN.leaf,by omega,by omega⟩
 ·refine Rs.bind (next_rs q hr a (by omega) mn 7 (by decide)) fun z hz=>?_
  obtain⟨j,rfl,g0,g1⟩:=hz
  exact Rs.bind (word_rs q g0) fun s hs=>Rs.some ⟨.node 18 0 s [],(18,0,s,0,fun _=>[]),a+1,rfl,Mk.tlm d s hs,RepN.leaf,by omega,by omega⟩
 ·refine Rs.bind (next_rs q hr a (by omega) mn 2 (by decide)) fun z hz=>?_
  obtain⟨j,rfl,g0,g1⟩:=hz
  exact Rs.some ⟨.node 16 j ⟨#[]⟩ [],(16,j,⟨#[]⟩,0,fun _=>[]),a+1,rfl,Mk.bool d j (by omega),RepN.leaf,by omega,by omega⟩
 ·have k0:k≠0:=by simpa using k0
  have k1:k≠1:=by simpa using k1
  have k2:k≠2:=by simpa using k2
  have k3:k≠3:=by simpa using k3
  have hd0:d≠0:=fun e=>by have:=h4 e;omega
  obtain⟨d,rfl⟩:∃e,d=e+1:=⟨d-1,by omega⟩
  have hw:w (((d+1:Nat):Int)-1)=((d:Nat):Int):=by rw[w_in (by omega) (by omega)];omega
  rw[Nat.pow_succ]at hn
  have hp2:1≤2^d:=Nat.one_le_two_pow
  rw[hw]
  refine Rs.ite (fun _=>?_) fun k4=>?_
  ·refine Rs.bind (next_rs q hr a (by omega) mn 2 (by decide)) fun z hz=>?_
   obtain⟨j,rfl,g0,g1⟩:=hz
   refine Rs.pos ⟨g0,g1⟩ (Rs.pos ⟨by omega,rfl⟩ (Rs.bind (ih d (by omega) (a+1) (by omega)) fun z hz=>Rs.some ?_))
   obtain⟨t,y,a',rfl,h1,h2,h3,h5⟩:=hz
   have hop:∀j:Nat,(if 0+j=0 then(⟨#[33]⟩:ByteArray)else⟨#[45]⟩)=sNot∨(if 0+j=0 then(⟨#[33]⟩:ByteArray)else⟨#[45]⟩)=sSub:=by
    intro j;split
    ·exact .inl rfl
    ·exact .inr rfl
   exact⟨.node 19 0 _ [t],_,a',rfl,Mk.un d _ t (hop j.toNat) h1,RepN.k1 h2,by omega,by omega⟩
  ·refine Rs.bind (ih d (by omega) a (by omega)) fun z hz=>?_
   obtain⟨t,y,a',rfl,h1,h2,h3,h5⟩:=hz
   refine Rs.bind (next_rs q hr a' (by omega) mn 12 (by decide)) fun z hz=>?_
   obtain⟨j,rfl,g0,g1⟩:=hz
   refine Rs.pos ⟨g0,g1⟩ (Rs.pos ⟨by omega,rfl⟩ (Rs.bind (ih d (by omega) (a'+1) (by omega)) fun z hz=>Rs.some ?_))
   obtain⟨t',y',a'',rfl,h1',h2',h3',h5'⟩:=hz
   exact⟨.node 20 0 _ [t,t'],_,a'',rfl,Mk.bin d _ t t' (opN12_mem j.toNat (by omega)) h1 h1',RepN.k2 h2 h2',by omega,by omega⟩
theorem mexpr_rs{ln:Nat}{lf:Nat→Int}(hr:RngM ln lf)(mn:Int):∀(q d:Nat),d<q→d≤10→∀a:Nat,a+(5*2^d-2)≤1000000→Rs (mxS q ((d:Int),ln,lf,(a:Int),mn)) (MA ln lf mn (Mk d) a (5*2^d-2)):=by
 intro q
 induction q with
 |zero=>intro d h;omega
 |succ q ih=>
  intro d hdq hd a ha
  have hp:1≤2^d:=Nat.one_le_two_pow
  show Rs ((t_MExprR (Next q) (Literal q) (Word q) (mxS q) ((d:Int),ln,lf,(a:Int),mn) some).map cv_MExpr) _
  refine Rs.map (P:=fun z=>MA ln lf mn (Mk d) a (5*2^d-2) (cv_MExpr z)) ?_ fun z h=>h
  rw[dsp_eq]
  refine Rs.bind (next_rs q hr a (by omega) mn 9 (by decide)) fun z hz=>?_
  obtain⟨k,rfl,g0,g1⟩:=hz
  have g2:=tmod_rng g0 (show(0:Int)<4 by decide)
  have key:∀k:Int,0≤k→(d=0→k<4)→Rs (dsp (Next q) (Literal q) (Word q) (mxS q) (d:Int) k (ln,lf,((a+1:Nat):Int),mn)) (fun z=>MA ln lf mn (Mk d) a (5*2^d-2) (cv_MExpr z)):=by
   intro k h0 h4
   refine(dsp_rs hr mn d hd (fun d' h=>ih d' (by omega) (by omega)) k h0 h4 (a+1) (5*2^d-3) (by omega) (by omega)).mono fun z hz=>?_
   obtain⟨t,y,a',e,h1,h2,h3,h5⟩:=hz
   exact⟨t,y,a',e,h1,h2,by omega,by omega⟩
  refine Rs.ite (fun _=>key _ g2.1 fun _=>g2.2) fun hd0=>Rs.ite (fun _=>key _ g2.1 fun _=>g2.2) fun _=>key _ g0 fun e=>absurd (decide_eq_true (show((d:Nat):Int)≤0 by omega)) hd0
end Go.Proofs.YtjfkkokeegpeiaaGreatDoor
/- The law of Expr. -/
namespace Go.Proofs.YtjfkkokeegpeiaaGreatDoor
open Go Go.Am Go.Proofs.Lx
set_option maxRecDepth 100000
theorem tree_rs(q:Nat){ln:Nat}{lf:Nat→Int}(hr:RngM ln lf)(d:Nat)(hd:d≤10)(hq:d<q):Rs (tree q (ln,lf,(d:Int))) (fun z=>∃t,Mk d t∧RepN t z):=by
 unfold tree t_tree
 dsimp only
 refine Rs.pos ⟨by decide,by split<;>omega,by split<;>omega⟩ ?_
 have hp:2^d≤2^10:=Nat.pow_le_pow_right (by decide) hd
 have hr':RngM (Int.toNat (if 60< ((ln:Nat):Int)then 60 else((ln:Nat):Int))-0) (fun j=>lf (0+j)):=fun j hj=>hr (0+j) (by split at hj<;>omega)
 refine Rs.bind (mexpr_rs hr' 0 q d hq hd 0 (by omega)) fun z hz=>Rs.some ?_
 obtain⟨t,y,a',rfl,h1,h2,_⟩:=hz
 exact⟨t,h1,h2⟩
theorem exprV_two(q:Nat){t:Tr}{b:ByteArray}{z:NodeT}(h:Txt t b)(hr:RepN t z)(hs:szT t≤1000000):∃c,ExprV q z=some c∧RExprV q z=some c:=by
 have hE:∃p:Tr×ByteArray,Txt p.1 p.2∧RepN p.1 z∧szT p.1≤1000000:=⟨(t,b),h,hr,hs⟩
 refine⟨(Classical.choose hE).2,?_,?_⟩
 ·unfold ExprV;exact dif_pos hE
 ·unfold RExprV;exact dif_pos hE
theorem lexpr_true{ln:Nat}{lf:Nat→Int}(hr:RngM ln lf):LExpr 100 (ln,lf)=some true:=by
 refine Rs.eq ?_
 unfold LExpr t_LExpr
 refine Rs.bind (tree_rs 100 hr 7 (by decide) (by decide)) fun z hz=>?_
 obtain⟨t,h1,h2⟩:=hz
 obtain⟨b,hb⟩:=h1.txt
 have hs:=h1.size
 obtain⟨c,e1,e2⟩:=exprV_two 100 hb h2 (by omega)
 refine Rs.bind (Rs.of e1) fun z1 g1=>Rs.bind (Rs.of e2) fun z2 g2=>?_
 subst g1 g2
 exact Rs.pos (beq_self_eq_true _) (Rs.bind (Rs.of (lives_true 100)) fun z hz=>Rs.some hz)
theorem wt3{d:Nat}{vs:List V}(h:WT E.P d 3 vs):∃a,vs=[i64 a]∧inR a:=h.i64 (by kernel_rfl)
theorem in_ints{v:V}(h:WTV E.P 29 v):∃(m:Nat) (y:Nat→Int),Le v (.ro 1 m (fun j=>[i64 (y j)]))∧RngM m y:=by
 obtain⟨n,f,rfl,hn,d,h⟩:=h.slice (e:=3) (c:=1) (by kernel_rfl) (by kernel_rfl) (by kernel_rfl) (by decide)
 have key:∀j,∃x:Int,j<n→f j=[i64 x]∧ -9223372036854775808≤x∧x≤9223372036854775807:=fun j=>by
  by_cases hj:j<n
  ·obtain⟨a,hf,ha⟩:=wt3 (h j hj)
   exact⟨a,fun _=>⟨hf,ha⟩⟩
  ·exact⟨0,fun h=>absurd h hj⟩
 obtain⟨g,hg⟩:=Classical.axiomOfChoice key
 exact⟨n,g,Le.ro_eq fun j hj=>⟨(hg j hj).1,rfl⟩,fun j hj=>(hg j hj).2⟩
theorem parserExpr(v0:V)(h0:WTV E.P 29 v0):∃l',LeL [v0] l'∧SC E 5 l' [] (.ret (bo true) []):=by
 obtain⟨m,y,g1,hy⟩:=in_ints h0
 exact⟨_,LeL.cons g1 LeL.nil,sc5.1 (sc_LExpr 100 _ _ (lexpr_true hy))⟩
end Go.Proofs.YtjfkkokeegpeiaaGreatDoor
/- Plain: a token is known by its own bytes and the byte behind it; sources joined, moved, cut. -/
namespace Go.Proofs.Lx
open Go
def mkB(l:List UInt8):ByteArray:=⟨l.toArray⟩
theorem mkB_size(l:List UInt8):(mkB l).size=l.length:=by simp[mkB,ByteArray.size]
theorem mkB_list(l:List UInt8):(mkB l).data.toList=l:=by simp[mkB]
def numL(D:List UInt8):Tkn×Int:=if 1<D.length∧D[0]? =some 48 then(noTok,11)else if valI 0 D>2147483647 then(noTok,5)else(⟨2,0,mkB D,valI 0 D⟩,0)
def tokL(l:List UInt8):Tkn×Int:=
 if letterI (l.headD 0).toNat then(if 12<spanL wordI l then(noTok,2)else(⟨1,0,mkB (l.take (spanL wordI l)),0⟩,0))
 else if digitI (l.headD 0).toNat then numL (l.take (spanL digitI l))
 else if symN l=0 then(noTok,11)else(⟨3,0,mkB (l.take (symN l)),0⟩,0)
theorem ext_mkB(s:ByteArray)(p n:Nat)(h:p≤s.size):(s.extract p s.size).extract 0 n=mkB ((s.data.toList.drop p).take n):=ba_ext (by rw[extract_list,ext_list s p h,mkB_list];simp)
theorem get_hd{s:ByteArray}{p:Nat}(hp:p<s.size):s.get! p=(s.data.toList.drop p).headD 0:=by rw[drop_get s p hp];rfl
theorem numberP_L(D:List UInt8):numberP (mkB D)=numL D:=by
 unfold numberP numL
 rw[mkB_size,mkB_list]
theorem tokP_L{s:ByteArray}{p:Nat}(hp:p<s.size):tokP s p=tokL (s.data.toList.drop p):=by
 unfold tokP tokL
 rw[get_hd hp,ext_mkB s p _ (by omega)]
 unfold wordP symbolP
 rw[numberP_L,ext_mkB s p _ (by omega),ext_mkB s p _ (by omega),ext_list s p (by omega)]
end Go.Proofs.Lx
/- Plain: tokens of an expression's text are read as the expression. -/
namespace Go.Proofs.Lx
open Go Go.Proofs.YtjfkkokeegpeiaaGreatDoor
set_option maxRecDepth 100000
def tkW(s:ByteArray):Tkn:=⟨1,0,s,0⟩
def tkN(n:Int):Tkn:=⟨2,0,itS n,n⟩
def tkY(s:ByteArray):Tkn:=⟨3,0,s,0⟩
def WordB(s:ByteArray):Prop:=s.size≤12∧∃c l,s.data.toList=c::l∧letterI c.toNat=true∧∀b∈c::l,wordI b.toNat=true
def parL(lv:Nat)(t:Tr)(l:List Tkn):List Tkn:=if lvT t<lv then tkY sLPar::(l++[tkY sRPar])else l
def parB(lv:Nat)(t:Tr)(x:List UInt8):List UInt8:=if lvT t<lv then 40::(x++[41])else x
def parD(lv:Nat)(t:Tr)(d:Nat):Nat:=if lvT t<lv then d+1 else d
inductive Pr:Tr→List UInt8→List Tkn→Nat→Prop
 |lit (n:Int):0≤n→n≤2147483647→Pr (.node 15 n ⟨#[]⟩ []) (itS n).data.toList [tkN n] 0
 |qty (n:Int) (s:ByteArray):0≤n→n≤2147483647→s∈unitsL→Pr (.node 15 n s []) ((itS n).data.toList++32::s.data.toList) [tkN n,tkW s] 0
 |yes:Pr (.node 16 1 ⟨#[]⟩ []) w_true.data.toList [tkW w_true] 0
 |no:Pr (.node 16 0 ⟨#[]⟩ []) w_false.data.toList [tkW w_false] 0
 |var (s:ByteArray):resP s=false→WordB s→Pr (.node 17 0 s []) s.data.toList [tkW s] 0
 |tlm (s:ByteArray):resP s=false→WordB s→Pr (.node 18 0 s []) (116::108::109::46::s.data.toList) [tkW w_tlm,tkY sDot,tkW s] 0
 |un (s:ByteArray) (a:Tr) (x:List UInt8) (l:List Tkn) (d:Nat):s=sNot∨s=sSub→Pr a x l d→Pr (.node 19 0 s [a]) (s.data.toList++parB (lvT (.node 19 0 s [a])) a x) (tkY s::parL (lvT (.node 19 0 s [a])) a l) (1+parD (lvT (.node 19 0 s [a])) a d)
 |bin (s:ByteArray) (a b:Tr) (x y:List UInt8) (l m:List Tkn) (d e:Nat):s∈opsL→Pr a x l d→Pr b y m e→
  Pr (.node 20 0 s [a,b]) (parB (if levP s=4 then 5 else levP s) a x++32::(s.data.toList++32::parB (levP s+1) b y)) (parL (if levP s=4 then 5 else levP s) a l++tkY s::parL (levP s+1) b m) (max (parD (if levP s=4 then 5 else levP s) a d) (parD (levP s+1) b e))
def At(T:Nat→Tkn):Nat→List Tkn→Prop
 |_,[]=>True
 |p,x::l=>((T p).k=x.k∧(T p).t=x.t∧(T p).n=x.n)∧At T (p+1) l
theorem At.app{T:Nat→Tkn}:∀{l m:List Tkn} {p:Nat},At T p (l++m)→At T p l∧At T (p+l.length) m
 | [],m,p,h=>⟨trivial,by simpa using h⟩
 |x::l,m,p,h=>by
  obtain⟨h1,h2⟩:=h
  obtain⟨h3,h4⟩:=At.app h2
  exact⟨⟨h1,h3⟩,by rw[List.length_cons,show p+(l.length+1)=p+1+l.length by omega];exact h4⟩
def Ev{α:Type}(f:Nat→PR α)(r:PR α):Prop:=∃f0,∀q,f0≤q→f q=r
theorem Ev.const{α:Type}{r:PR α}:Ev (fun _=>r) r:=⟨0,fun _ _=>rfl⟩
theorem Ev.step{α:Type}{g h:Nat→PR α}{r:PR α}(hs:∀f,g (f+1)=h f)(k:Ev h r):Ev g r:=by
 obtain⟨f0,k⟩:=k
 refine⟨f0+1,fun q hq=>?_⟩
 obtain⟨q,rfl⟩:∃q',q=q'+1:=⟨q-1,by omega⟩
 rw[hs];exact k q (by omega)
theorem Ev.bind{α β:Type}{g:Nat→PR α}{k:Nat→α→PS→PR β}{a:α}{s:PS}{r:PR β}(h:Ev g (.ok a s))(hk:Ev (fun f=>k f a s) r):Ev (fun f=>(g f).bind (k f)) r:=by
 obtain⟨f0,h⟩:=h
 obtain⟨f1,hk⟩:=hk
 refine⟨max f0 f1,fun q hq=>?_⟩
 show(g q).bind (k q)=r
 rw[h q (by omega)]
 exact hk q (by omega)
theorem Ev.det{α:Type}{g:Nat→PR α}{r r':PR α}(h:Ev g r)(h':Ev g r'):r=r':=by
 obtain⟨f0,h⟩:=h
 obtain⟨f1,h'⟩:=h'
 rw[←h (max f0 f1) (by omega),h' (max f0 f1) (by omega)]
theorem Ev.congr{α:Type}{g h:Nat→PR α}{r:PR α}(e:∀f,g f=h f)(k:Ev h r):Ev g r:=by
 obtain⟨f0,k⟩:=k
 exact⟨f0,fun q hq=>by rw[e];exact k q hq⟩
section
variable {T:Nat→Tkn}
def Ex(T:Nat→Tkn)(lv:Nat)(s:PS)(t:Tr)(s':PS):Prop:=Ev (fun f=>exprP T f lv s) (.ok t s')
def Ops(T:Nat→Tkn)(lv:Nat)(n:Tr)(s:PS)(t:Tr)(s':PS):Prop:=Ev (fun f=>opsP T f lv n s) (.ok t s')
def go(s:PS)(k:Nat):PS:={s with p:=s.p+k}
theorem ops_stop{lv:Nat}{n:Tr}{s:PS}(h:¬(levP (T s.p).t=lv∧(T s.p).k=3)):Ops T lv n s n s:=by
 refine Ev.step (h:=fun _=>.ok n s) (fun f=>?_) Ev.const
 rw[opsP,if_neg h]
theorem ops_go{lv:Nat}{n m u:Tr}{s s1 s2:PS}(h:levP (T s.p).t=lv∧(T s.p).k=3)(h4:lv≠4)(hm:Ex T (lv+1) (adv s) m s1)(hu:Ops T lv (.node 20 0 (T s.p).t [n,m]) s1 u s2):Ops T lv n s u s2:=by
 refine Ev.step (h:=fun f=>(exprP T f (lv+1) (adv s)).bind fun m s'=>if lv=4 then .ok (.node 20 0 (T s.p).t [n,m]) s' else opsP T f lv (.node 20 0 (T s.p).t [n,m]) s') (fun f=>?_) (Ev.bind hm ?_)
 ·rw[opsP,if_pos h]
 ·exact Ev.congr (fun f=>if_neg h4) hu
theorem ops_cmp{n m:Tr}{s s1:PS}(h:levP (T s.p).t=4∧(T s.p).k=3)(hm:Ex T 5 (adv s) m s1):Ops T 4 n s (.node 20 0 (T s.p).t [n,m]) s1:=by
 refine Ev.step (h:=fun f=>(exprP T f 5 (adv s)).bind fun m s'=>if 4=4 then .ok (.node 20 0 (T s.p).t [n,m]) s' else opsP T f 4 (.node 20 0 (T s.p).t [n,m]) s') (fun f=>?_) (Ev.bind hm ?_)
 ·rw[opsP,if_pos h]
 ·exact Ev.congr (fun f=>if_pos rfl) Ev.const
theorem ex_down{lv:Nat}{n u:Tr}{s s1 s2:PS}(h3:¬(lv=3∧isP T sNot s=true))(h7:¬(lv=7∧isP T sSub s=true))(h8:lv≠8)(hn:Ex T (lv+1) s n s1)(hu:Ops T lv n s1 u s2):Ex T lv s u s2:=by
 refine Ev.step (h:=fun f=>(exprP T f (lv+1) s).bind fun n s'=>opsP T f lv n s') (fun f=>?_) (Ev.bind hn hu)
 rw[exprP,if_neg h3,if_neg h7,if_neg h8]
theorem levP_rng(x:ByteArray):levP x≠3∧levP x≠7∧levP x≤6:=by
 unfold levP
 split
 ·decide
 ·split
  ·decide
  ·split
   ·decide
   ·split
    ·decide
    ·split<;>decide
theorem ops_det{lv:Nat}{n u:Tr}{s s2:PS}(h:¬(levP (T s.p).t=lv∧(T s.p).k=3))(hu:Ops T lv n s u s2):u=n∧s2=s:=by
 have:=Ev.det hu (ops_stop h)
 cases this
 exact⟨rfl,rfl⟩
def Fol(lv:Nat)(x:Tkn):Prop:=(x.k=3→levP x.t≤lv∧(lv=4→levP x.t≠4))∧¬(x.k=1∧unitP x.t=true)
theorem fol_up{lv lv':Nat}{x:Tkn}(h:Fol lv x)(h1:lv≤lv')(h4:lv'≠4):Fol lv' x:=⟨fun g=>⟨Nat.le_trans (h.1 g).1 h1,fun e=>absurd e h4⟩,h.2⟩
theorem down{s s':PS}{t:Tr}:∀(k lv lv':Nat),lv+k+1=lv'→lv'≤8→(∀j,lv≤j→j<lv'→¬(j=3∧isP T sNot s=true)∧¬(j=7∧isP T sSub s=true))→Ex T lv' s t s'→Fol lv (T s'.p)→∀u s2,Ops T lv t s' u s2→Ex T lv s u s2
 |0,lv,lv',e,h8,hj,hx,hF,u,s2,hu=>by
  subst e
  exact ex_down (hj lv (Nat.le_refl _) (by omega)).1 (hj lv (Nat.le_refl _) (by omega)).2 (by omega) hx hu
 |k+1,lv,lv',e,h8,hj,hx,hF,u,s2,hu=>by
  have hF1:¬(levP (T s'.p).t=lv+1∧(T s'.p).k=3):=fun h=>by have:=hF.1 h.2;omega
  have hF':Fol (lv+1) (T s'.p):=⟨fun h=>by have:=hF.1 h;omega,hF.2⟩
  have:=down (s:=s) (s':=s') (t:=t) k (lv+1) lv' (by omega) h8 (fun j h1 h2=>hj j (by omega) h2) hx hF' t s' (ops_stop hF1)
  exact ex_down (hj lv (Nat.le_refl _) (by omega)).1 (hj lv (Nat.le_refl _) (by omega)).2 (by omega) this hu
theorem ex_prim{s s':PS}{t:Tr}(h:Ev (fun f=>primP T f s) (.ok t s')):Ex T 8 s t s':=by
 refine Ev.step (fun f=>?_) h
 rw[exprP,if_neg (by simp),if_neg (by simp),if_pos rfl]
theorem ex_un{s s1:PS}{w:ByteArray}{a:Tr}{lv:Nat}(hw:(w=sNot∧lv=3)∨(w=sSub∧lv=7))(hi:(T s.p).t=w)(ho:s.o<12)(ha:Ex T lv {s with p:=s.p+1,o:=s.o+1} a s1):Ex T lv s (.node 19 0 w [a]) (closeP s1):=by
 have hip:isP T w s=true:=decide_eq_true hi
 refine Ev.step (h:=fun f=>unaryP T f w lv s) (fun f=>?_) ?_
 ·rcases hw with⟨rfl,rfl⟩ | ⟨rfl,rfl⟩
  ·rw[exprP,if_pos ⟨rfl,hip⟩]
  ·rw[exprP,if_neg (by simp),if_pos ⟨rfl,hip⟩]
 ·refine Ev.step (h:=fun f=>(opensP T w s).bind fun _ s1=>(exprP T f lv s1).bind fun n s2=>.ok (.node 19 0 w [n]) (closeP s2)) (fun f=>by rw[unaryP]) ?_
  have:opensP T w s= .ok () {s with p:=s.p+1,o:=s.o+1}:=by
   unfold opensP
   rw[if_pos hip,if_neg (by omega)]
  refine Ev.bind (g:=fun _=>opensP T w s) (by rw[this];exact Ev.const) ?_
  exact Ev.bind ha Ev.const
theorem ex_paren{s s1:PS}{a:Tr}(hk:(T s.p).k=3)(hi:(T s.p).t=sLPar)(ho:s.o<12)(ha:Ex T 1 {s with p:=s.p+1,o:=s.o+1} a s1)(hr:(T s1.p).t=sRPar):Ex T 8 s a (closeP (adv s1)):=by
 refine ex_prim (Ev.step (h:=fun f=>(opensP T sLPar s).bind fun _ s1=>(exprP T f 1 s1).bind fun n s2=>(mustP T sRPar s2).bind fun _ s3=>.ok n (closeP s3)) (fun f=>?_) ?_)
 ·rw[primP,if_neg (by rw[hk];decide),if_neg (by unfold isP;rw[hi];decide),if_neg (by unfold isP;rw[hi];decide),if_neg (by unfold isP;rw[hi];decide),if_pos (by unfold isP;rw[hi];decide)]
 ·have:opensP T sLPar s= .ok () {s with p:=s.p+1,o:=s.o+1}:=by
   unfold opensP isP
   rw[hi,if_pos (by decide),if_neg (by omega)]
  refine Ev.bind (g:=fun _=>opensP T sLPar s) (by rw[this];exact Ev.const) (Ev.bind ha ?_)
  have:mustP T sRPar s1= .ok () (adv s1):=by
   unfold mustP isP
   rw[hr,if_pos (by decide)]
  exact Ev.bind (g:=fun _=>mustP T sRPar s1) (by rw[this];exact Ev.const) Ev.const
theorem lvT_rng{t:Tr}{x:List UInt8}{l:List Tkn}{d:Nat}(h:Pr t x l d):1≤lvT t∧lvT t≤8:=by
 have leaf:∀k n s l,k≠20→k≠19→1≤lvT (.node k n s l)∧lvT (.node k n s l)≤8:=by
  intro k n s l h1 h2
  show 1≤(if k=20 then levP s else if k=19 then(if s=sNot then 3 else 7)else 8)∧(if k=20 then levP s else if k=19 then(if s=sNot then 3 else 7)else 8)≤8
  rw[if_neg h1,if_neg h2]
  decide
 cases h with
 |un s a x l d hs _=>
  rcases hs with rfl|rfl
  ·show 1≤3∧3≤8;decide
  ·show 1≤7∧7≤8;decide
 |bin s a b x y l m d e hs _ _=>
  have:=(ops_size s hs).2
  show 1≤levP s∧levP s≤8
  omega
 |_=>exact leaf _ _ _ _ (by decide) (by decide)
theorem word_ne{s:ByteArray}(h:WordB s):s≠sNot∧s≠sSub∧s≠sLPar:=by
 obtain⟨_,c,l,e,h1,_⟩:=h
 refine⟨?_,?_,?_⟩<;>(rintro rfl;simp at e;obtain⟨rfl,_⟩:=e;exact absurd h1 (by decide))
theorem itS_ne{n:Int}(h0:0≤n):∀c l,(itS n).data.toList=c::l→48≤c.toNat∧c.toNat≤57:=by
 intro c l h
 have key:∀(k u:Nat),u<k→∀b∈Lib.decDigits u,48≤b.toNat∧b.toNat≤57:=by
  intro k
  induction k with
  |zero=>intro u h;omega
  |succ k ih=>
   intro u hu b hb
   rw[Lib.decDigits]at hb
   split at hb
   ·obtain rfl:=List.mem_singleton.1 hb
    rename_i h10
    have:(UInt8.ofNat (48+u)).toNat=48+u:=by rw[UInt8.toNat_ofNat'];omega
    omega
   ·rename_i h10
    rw[List.mem_append]at hb
    rcases hb with hb|hb
    ·exact ih (u/10) (by omega) b hb
    ·obtain rfl:=List.mem_singleton.1 hb
     have:u%10<10:=Nat.mod_lt _ (by decide)
     have:(UInt8.ofNat (48+u%10)).toNat=48+u%10:=by rw[UInt8.toNat_ofNat'];omega
     omega
 unfold itS Lib.itoa at h
 rw[if_neg (by omega)]at h
 exact key (n.toNat+1) n.toNat (by omega) c (by simp at h;rw[h];simp)
theorem itS_sym{n:Int}(h0:0≤n):itS n≠sNot∧itS n≠sSub:=by
 refine⟨fun e=>?_,fun e=>?_⟩
 ·have:=itS_ne h0 33 [] (by rw[e]);exact absurd this.1 (by decide)
 ·have:=itS_ne h0 45 [] (by rw[e]);exact absurd this.1 (by decide)
theorem first_not {t : Tr} {x : List UInt8} {l : List Tkn} {d : Nat} (h : Pr t x l d) : ∃ y m, l = y :: m ∧ (4 ≤ lvT t → y.t ≠ sNot) ∧ (8 ≤ lvT t → y.t ≠ sSub) := by
  have p1 : ∀ {lv : Nat} {a : Tr} {l : List Tkn}, (∃ y m, l = y :: m ∧ (4 ≤ lvT a → y.t ≠ sNot) ∧ (8 ≤ lvT a → y.t ≠ sSub)) → ∃ y m, parL lv a l = y :: m ∧ (4 ≤ lv → y.t ≠ sNot) ∧ (8 ≤ lv → y.t ≠ sSub) := by
    rintro lv a l ⟨y, m, rfl, h1, h2⟩
    unfold parL
    split
    · exact ⟨_, _, rfl, fun _ => by decide, fun _ => by decide⟩
    · exact ⟨_, _, rfl, fun h => h1 (by omega), fun h => h2 (by omega)⟩
  induction h with
  | lit n h0 _ => exact ⟨_, _, rfl, fun _ => (itS_sym h0).1, fun _ => (itS_sym h0).2⟩
  | qty n s h0 _ _ => exact ⟨_, _, rfl, fun _ => (itS_sym h0).1, fun _ => (itS_sym h0).2⟩
  | yes => exact ⟨_, _, rfl, fun _ => by decide, fun _ => by decide⟩
  | no => exact ⟨_, _, rfl, fun _ => by decide, fun _ => by decide⟩
  | var s _ hw => exact ⟨_, _, rfl, fun _ => (word_ne hw).1, fun _ => (word_ne hw).2.1⟩
  | tlm s _ hw => exact ⟨_, _, rfl, fun _ => by decide, fun _ => by decide⟩
  | un s a x l d hs _ _ => rcases hs with rfl | rfl
                           · exact ⟨_, _, rfl, fun h => absurd h (by show ¬ 4 ≤ 3; decide), fun h => absurd h (by show ¬ 8 ≤ 3; decide)⟩
                           · exact ⟨_, _, rfl, fun _ => by show sSub ≠ sNot; decide, fun h => absurd h (by show ¬ 8 ≤ 7; decide)⟩
  | bin s a b x y l m d e hs _ _ ih1 _ =>
    obtain ⟨z, k, e1, h1, h2⟩ := p1 (lv := if levP s = 4 then 5 else levP s) ih1
    refine ⟨z, k ++ tkY s :: parL (levP s + 1) b m, by rw [e1]; rfl, fun h => h1 ?_, fun h => ?_⟩
    · have h : 4 ≤ levP s := h
      split <;> omega
    · have h : 8 ≤ levP s := h
      have := levP_rng s
      omega
theorem res_ne{s:ByteArray}(h:resP s=false):s≠w_true∧s≠w_false∧s≠w_tlm:=by
 refine⟨?_,?_,?_⟩<;>(rintro rfl;exact absurd h (by decide))
theorem read_leaf{s s':PS}{t:Tr}{lv:Nat}(h1:1≤lv)(h7:lv≤7)(hx:Ex T 8 s t s')(hn:(T s.p).t≠sNot)(hm:(T s.p).t≠sSub)(hF:Fol lv (T s'.p)):∀u s2,Ops T lv t s' u s2→Ex T lv s u s2:=
 down (7-lv) lv 8 (by omega) (Nat.le_refl _) (fun j _ _=>⟨fun h=>hn (of_decide_eq_true h.2),fun h=>hm (of_decide_eq_true h.2)⟩) hx hF
theorem read_expr{t:Tr}{x:List UInt8}{l:List Tkn}{d:Nat}(h:Pr t x l d):∀(s:PS) (lv:Nat),1≤lv→lv≤7→lv≤lvT t→At T s.p l→s.o+d≤12→Fol lv (T (s.p+l.length))→∀u s2,Ops T lv t (go s l.length) u s2→Ex T lv s u s2:=by
 have full:∀{a:Tr} {x:List UInt8} {m:List Tkn} {e:Nat},Pr a x m e→(∀(s:PS) (lv:Nat),1≤lv→lv≤7→lv≤lvT a→At T s.p m→s.o+e≤12→Fol lv (T (s.p+m.length))→∀u s2,Ops T lv a (go s m.length) u s2→Ex T lv s u s2)→
  ∀(s:PS) (lv:Nat),1≤lv→lv≤7→At T s.p (parL lv a m)→s.o+parD lv a e≤12→Fol lv (T (s.p+(parL lv a m).length))→∀u s2,Ops T lv a (go s (parL lv a m).length) u s2→Ex T lv s u s2:=by
  intro a x m e hP hc s lv h1 h7 hA hd hF u s2 hu
  unfold parL at hA hF hu
  unfold parD at hd
  by_cases hl:lvT a<lv
  ·rw[if_pos hl]at hA hF hu hd
   obtain⟨⟨k1,k2,_⟩,hA⟩:=hA
   obtain⟨hA,⟨_,k5,_⟩,_⟩:=hA.app
   have hin:Ex T 1 {s with p:=s.p+1,o:=s.o+1} a (go {s with p:=s.p+1,o:=s.o+1} m.length):=by
    have hno:¬(levP (T (s.p+1+m.length)).t=1∧(T (s.p+1+m.length)).k=3):=by rw[k5];exact fun h=>absurd h.1 (by decide)
    refine hc {s with p:=s.p+1,o:=s.o+1} 1 (Nat.le_refl _) (by decide) (lvT_rng hP).1 hA (by show s.o+1+e≤12;omega) ⟨fun _=>?_,fun h=>?_⟩ a _ (ops_stop hno)
    ·show levP (T (s.p+1+m.length)).t≤1∧_
     rw[k5];exact⟨by decide,fun h=>absurd h (by decide)⟩
    ·have h:(T (s.p+1+m.length)).k=1∧unitP (T (s.p+1+m.length)).t=true:=h
     rw[k5]at h;exact absurd h.2 (by decide)
   have hp:=ex_paren k1 k2 (by omega) hin k5
   have e1:closeP (adv (go {s with p:=s.p+1,o:=s.o+1} m.length))=go s (tkY sLPar::(m++[tkY sRPar])).length:=by
    simp only[closeP,adv,go,List.length_cons,List.length_append,List.length_nil]
    congr 1<;>omega
   rw[e1]at hp
   exact read_leaf h1 h7 hp (by rw[k2];decide) (by rw[k2];decide) hF u s2 hu
  ·rw[if_neg hl]at hA hF hu hd
   exact hc s lv h1 h7 (by omega) hA hd hF u s2 hu
 have lit0:∀(s:PS) (n:Int),(T s.p).k=2→(T s.p).n=n→0≤n→n≤2147483647→numP T 0 2147483647 s= .ok n (adv s):=by
  intro s n k1 k2 h0 h1
  unfold numP
  rw[k1,k2,if_neg (by decide),if_neg (by omega)]
 induction h with
 |lit n h0 h1=>
  intro s lv g1 g7 _ hA hd hF
  obtain⟨⟨k1,k2,k3⟩,_⟩:=hA
  have k1:(T s.p).k=2:=k1
  refine read_leaf g1 g7 (ex_prim ?_) (by rw[k2];exact(itS_sym h0).1) (by rw[k2];exact(itS_sym h0).2) hF
  refine Ev.step (h:=fun _=>litP T s) (fun f=>by rw[primP,if_pos k1]) ?_
  have:litP T s= .ok (.node 15 n ⟨#[]⟩ []) (go s 1):=by
   unfold litP
   rw[lit0 s n k1 k3 h0 h1]
   exact if_neg hF.2
  rw[this];exact Ev.const
 |qty n y h0 h1 hy=>
  intro s lv g1 g7 _ hA hd hF
  obtain⟨⟨k1,k2,k3⟩,⟨k4,k5,_⟩,_⟩:=hA
  have k1:(T s.p).k=2:=k1
  have k4:(T (s.p+1)).k=1:=k4
  have k5:(T (s.p+1)).t=y:=k5
  refine read_leaf g1 g7 (ex_prim ?_) (by rw[k2];exact(itS_sym h0).1) (by rw[k2];exact(itS_sym h0).2) hF
  refine Ev.step (h:=fun _=>litP T s) (fun f=>by rw[primP,if_pos k1]) ?_
  have:litP T s= .ok (.node 15 n y []) (go s 2):=by
   unfold litP
   rw[lit0 s n k1 k3 h0 h1]
   show(if(T (s.p+1)).k=1∧unitP (T (s.p+1)).t=true then PR.ok (Tr.node 15 n (T (s.p+1)).t []) (adv (adv s))else _)=_
   rw[k5,if_pos ⟨k4,inP_iff.2 hy⟩]
   rfl
  rw[this];exact Ev.const
 |yes=>
  intro s lv g1 g7 _ hA hd hF
  obtain⟨⟨k1,k2,k3⟩,_⟩:=hA
  refine read_leaf g1 g7 (ex_prim ?_) (by rw[k2];decide) (by rw[k2];decide) hF
  refine Ev.step (h:=fun _=>.ok (.node 16 1 ⟨#[]⟩ []) (adv s)) (fun f=>?_) Ev.const
  rw[primP,if_neg (by rw[k1];decide),if_pos (by unfold isP;rw[k2];decide)]
 |no=>
  intro s lv g1 g7 _ hA hd hF
  obtain⟨⟨k1,k2,k3⟩,_⟩:=hA
  refine read_leaf g1 g7 (ex_prim ?_) (by rw[k2];decide) (by rw[k2];decide) hF
  refine Ev.step (h:=fun _=>.ok (.node 16 0 ⟨#[]⟩ []) (adv s)) (fun f=>?_) Ev.const
  rw[primP,if_neg (by rw[k1];decide),if_neg (by unfold isP;rw[k2];decide),if_pos (by unfold isP;rw[k2];decide)]
 |var y hr hw=>
  intro s lv g1 g7 _ hA hd hF
  obtain⟨⟨k1,k2,k3⟩,_⟩:=hA
  have k1:(T s.p).k=1:=k1
  have k2:(T s.p).t=y:=k2
  obtain⟨r1,r2,r3⟩:=res_ne hr
  obtain⟨w1,w2,w3⟩:=word_ne hw
  refine read_leaf g1 g7 (ex_prim ?_) (by rw[k2];exact w1) (by rw[k2];exact w2) hF
  refine Ev.step (h:=fun _=>.ok (.node 17 0 y []) (adv s)) (fun f=>?_) Ev.const
  have hn:nameP T s= .ok y (adv s):=by
   unfold nameP
   rw[k1,k2,hr,if_neg (by decide)]
  rw[primP,if_neg (by rw[k1];decide),if_neg (by unfold isP;rw[k2];simpa using r1),if_neg (by unfold isP;rw[k2];simpa using r2),if_neg (by unfold isP;rw[k2];simpa using r3),if_neg (by unfold isP;rw[k2];simpa using w3),hn]
  rfl
 |tlm y hr hw=>
  intro s lv g1 g7 _ hA hd hF
  obtain⟨⟨k1,k2,k3⟩,⟨k4,k5,k6⟩,⟨k7,k8,k9⟩,_⟩:=hA
  have k7:(T (s.p+1+1)).k=1:=k7
  have k8:(T (s.p+1+1)).t=y:=k8
  have k5:(T (s.p+1)).t=sDot:=k5
  refine read_leaf g1 g7 (ex_prim ?_) (by rw[k2];decide) (by rw[k2];decide) hF
  refine Ev.step (h:=fun _=>.ok (.node 18 0 y []) (go s 3)) (fun f=>?_) Ev.const
  have hm:mustP T sDot (adv s)= .ok () (adv (adv s)):=by
   unfold mustP
   exact if_pos (decide_eq_true k5)
  have hn:nameP T (adv (adv s))= .ok y (adv (adv (adv s))):=by
   unfold nameP
   show(if(T (s.p+1+1)).k≠1∨resP (T (s.p+1+1)).t=true then PR.err _ 11 else PR.ok (T (s.p+1+1)).t _)=_
   rw[k7,k8,hr,if_neg (by decide)]
  rw[primP,if_neg (by rw[k1];decide),if_neg (by unfold isP;rw[k2];decide),if_neg (by unfold isP;rw[k2];decide),if_pos (by unfold isP;rw[k2];decide),hm]
  show(nameP T (adv (adv s))).bind _=_
  rw[hn]
  rfl
 |un y a x l d hs hP ih=>
  intro s lv g1 g7 gl hA hd hF u s2 hu
  obtain⟨⟨k1,k2,k3⟩,hA⟩:=hA
  have k2:(T s.p).t=y:=k2
  generalize hL:lvT (.node 19 0 y [a])=L at*
  have hcase:(y=sNot∧L=3)∨(y=sSub∧L=7):=by
   rcases hs with rfl|rfl
   ·exact .inl ⟨rfl,hL.symm⟩
   ·exact .inr ⟨rfl,hL.symm⟩
  have hL37:L=3∨L=7:=by omega
  have hFp:T (s.p+(tkY y::parL L a l).length)=T (s.p+1+(parL L a l).length):=by rw[List.length_cons,show s.p+((parL L a l).length+1)=s.p+1+(parL L a l).length by omega]
  rw[hFp]at hF
  have hno:∀p,¬(levP (T p).t=L∧(T p).k=3):=fun p h=>by have:=levP_rng (T p).t;omega
  have ha:=full hP ih {s with p:=s.p+1,o:=s.o+1} L (by omega) (by omega) hA (by show s.o+1+parD L a d≤12;omega) (fol_up hF (by omega) (by omega)) a _ (ops_stop (hno _))
  have hx:=ex_un hcase k2 (by omega) ha
  have e1:closeP (go {s with p:=s.p+1,o:=s.o+1} (parL L a l).length)=go s (tkY y::parL L a l).length:=by
   simp only[closeP,go,List.length_cons]
   congr 1<;>omega
  rw[e1]at hx
  rcases Nat.lt_or_ge lv L with hlt|hge
  ·refine down (L-lv-1) lv L (by omega) (by omega) (fun j j1 j2=>⟨fun h=>?_,fun h=>by omega⟩) hx (by show Fol lv (T (s.p+(tkY y::parL L a l).length));rw[hFp];exact hF) u s2 hu
   have:=of_decide_eq_true h.2
   rw[k2]at this
   rcases hcase with⟨rfl,rfl⟩ | ⟨rfl,rfl⟩
   ·omega
   ·exact absurd this (by decide)
  ·obtain rfl:lv=L:=by omega
   obtain⟨rfl,rfl⟩:=ops_det (hno _) hu
   exact hx
 |bin y a b x1 x2 l m d e hs hP1 hP2 ih1 ih2=>
  intro s lv g1 g7 gl hA hd hF u s2 hu
  have gl:lv≤levP y:=gl
  obtain⟨hA1,⟨k1,k2,k3⟩,hA2⟩:=hA.app
  have k2:(T (s.p+(parL (if levP y=4 then 5 else levP y) a l).length)).t=y:=k2
  have hL:=(ops_size y hs).2
  generalize hla:(if levP y=4 then 5 else levP y)=la at*
  generalize hLe:levP y=L at*
  have hlen:∀p,p+(parL la a l++tkY y::parL (L+1) b m).length=p+(parL la a l).length+1+(parL (L+1) b m).length:=by intro p;rw[List.length_append,List.length_cons];omega
  rw[hlen]at hF
  have hst:levP (T (go s (parL la a l).length).p).t=L∧(T (go s (parL la a l).length).p).k=3:=⟨by show levP (T (s.p+(parL la a l).length)).t=L;rw[k2];exact hLe,k1⟩
  have hFb:∀j,lv<j→¬(levP (T (s.p+(parL la a l).length+1+(parL (L+1) b m).length)).t=j∧(T (s.p+(parL la a l).length+1+(parL (L+1) b m).length)).k=3):=fun j hj h=>by have:=hF.1 h.2;omega
  have hb:=full hP2 ih2 (adv (go s (parL la a l).length)) (L+1) (by omega) (by omega) hA2 (by show s.o+parD (L+1) b e≤12;omega) (fol_up hF (by omega) (by omega)) b _ (ops_stop (hFb (L+1) (by omega)))
  have he:go (adv (go s (parL la a l).length)) (parL (L+1) b m).length=go s (parL la a l++tkY y::parL (L+1) b m).length:=by
   simp only[adv,go]
   congr 1
   rw[hlen]
  rw[he]at hb
  have hfirst:4≤la→isP T sNot s=false:=by
   intro h4
   obtain⟨z,k,e1,f1,_⟩:=first_not hP1
   unfold isP
   have:(T s.p).t≠sNot:=by
    unfold parL at hA1
    split at hA1
    ·rw[hA1.1.2.1];decide
    ·rename_i hge
     rw[e1]at hA1
     rw[hA1.1.2.1];exact f1 (by omega)
   simpa using this
  have hjs:∀j,lv≤j→j<L→¬(j=3∧isP T sNot s=true)∧¬(j=7∧isP T sSub s=true):=by
   intro j h1 h2
   refine⟨fun h=>?_,fun h=>by omega⟩
   rw[hfirst (by rw[←hla];split<;>omega)]at h
   exact absurd h.2 (by decide)
  have hFe:T (go s (parL la a l++tkY y::parL (L+1) b m).length).p=T (s.p+(parL la a l).length+1+(parL (L+1) b m).length):=by show T (s.p+_)=_;rw[hlen]
  by_cases h4:L=4
  ·subst h4
   rw[if_pos rfl]at hla
   subst hla
   have ha:=full hP1 ih1 s 5 (by omega) (by omega) hA1 (by omega) ⟨fun _=>⟨by rw[show levP (T (s.p+(parL 5 a l).length)).t=4 from hst.1];decide,fun h=>absurd h (by decide)⟩,fun h=>by rw[show(T (s.p+(parL 5 a l).length)).k=3 from hst.2]at h;exact absurd h.1 (by decide)⟩ a _ (ops_stop (fun h=>by rw[hst.1]at h;exact absurd h.1 (by decide)))
   have hc:=ops_cmp (n:=a) hst hb
   rw[show(T (go s (parL 5 a l).length).p).t=y from k2]at hc
   have hx:=ex_down (fun h=>absurd h.1 (by decide)) (fun h=>absurd h.1 (by decide)) (by decide) ha hc
   rcases Nat.lt_or_ge lv 4 with hlt|hge
   ·exact down (4-lv-1) lv 4 (by omega) (by omega) hjs hx (by rw[hFe];exact hF) u s2 hu
   ·obtain rfl:lv=4:=by omega
    have hno:¬(levP (T (go s (parL 5 a l++tkY y::parL (4+1) b m).length).p).t=4∧(T (go s (parL 5 a l++tkY y::parL (4+1) b m).length).p).k=3):=by
     rw[hFe]
     exact fun h=>absurd h.1 ((hF.1 h.2).2 rfl)
    obtain⟨rfl,rfl⟩:=ops_det hno hu
    exact hx
  ·rw[if_neg h4]at hla
   subst hla
   have hF0:Fol L (T (s.p+(parL L a l).length)):=⟨fun _=>⟨by rw[show levP (T (s.p+(parL L a l).length)).t=L from hst.1];exact Nat.le_refl _,fun h=>absurd h h4⟩,fun h=>by rw[show(T (s.p+(parL L a l).length)).k=3 from hst.2]at h;exact absurd h.1 (by decide)⟩
   have key:∀u s2,Ops T L (.node 20 0 y [a,b]) (go s (parL L a l++tkY y::parL (L+1) b m).length) u s2→Ex T L s u s2:=by
    intro u s2 hu
    refine full hP1 ih1 s L (by omega) (by omega) hA1 (by omega) hF0 u s2 (ops_go hst h4 hb ?_)
    rw[show(T (go s (parL L a l).length).p).t=y from k2]
    exact hu
   rcases Nat.lt_or_ge lv L with hlt|hge
   ·exact down (L-lv-1) lv L (by omega) (by omega) hjs (key _ _ (ops_stop (by rw[hFe];exact hFb L hlt))) (by rw[hFe];exact hF) u s2 hu
   ·obtain rfl:lv=L:=by omega
    exact key u s2 hu
end
end Go.Proofs.Lx
/- Plain: sources joined, moved, cut. -/
namespace Go.Proofs.Lx
open Go
theorem size_list(s:ByteArray):s.data.toList.length=s.size:=by rw[Array.length_toList];rfl
end Go.Proofs.Lx
/- Plain: tokens joined by spaces are the same tokens. -/
namespace Go.Proofs.Lx
open Go
def same3(x y:Tkn):Prop:=x.k=y.k∧x.t=y.t∧x.n=y.n
inductive Same3:List Tkn→List Tkn→Prop where
 |nil:Same3 [] []
 |cons {x y:Tkn} {l m:List Tkn}:same3 x y→Same3 l m→Same3 (x::l) (y::m)
theorem Same3.len{l m:List Tkn}(h:Same3 l m):l.length=m.length:=by
 induction h with
 |nil=>rfl
 |cons _ _ ih=>simp[ih]
theorem Same3.get{l m:List Tkn}(h:Same3 l m):∀(i:Nat) (hi:i<l.length) (hj:i<m.length),same3 l[i] m[i]:=by
 induction h with
 |nil=>intro i hi;simp at hi
 |cons h1 _ ih=>
  intro i hi hj
  cases i with
  |zero=>exact h1
  |succ i=>exact ih i (by simpa using hi) (by simpa using hj)
end Go.Proofs.Lx
/- Plain: the text of an expression has its tokens. -/
namespace Go.Proofs.Lx
open Go Go.Proofs.YtjfkkokeegpeiaaGreatDoor
set_option maxRecDepth 100000
inductive Ls:List UInt8→List Tkn→Prop
 |nil:Ls [] []
 |white {c:UInt8} {r:List UInt8} {l:List Tkn}:whiteI c.toNat=true→Ls r l→Ls (c::r) l
 |tok {r:List UInt8} {l:List Tkn} {x:Tkn}:r≠[]→whiteI (r.headD 0).toNat=false→(r.headD 0).toNat≠35→tokL r=(x,0)→Ls (r.drop x.t.size) l→Ls r (x::l)
theorem ls_lex{r:List UInt8}{l:List Tkn}(h:Ls r l):∀(s:ByteArray) (p:Nat) (acc:List Tkn),s.data.toList.drop p=r→∃ts,Lex s p acc (acc++ts++[⟨0,s.size,⟨#[]⟩,0⟩],0,0)∧Same3 ts l:=by
 have hlt:∀(s:ByteArray) (p:Nat),s.data.toList.drop p≠[]→p<s.size:=by
  intro s p h
  rcases Nat.lt_or_ge p s.size with h'|h'
  ·exact h'
  ·rw[←size_list]at h'
   exact absurd (List.drop_eq_nil_of_le h') h
 induction h with
 |nil=>
  intro s p acc e
  have:s.size≤p:=by rw[←size_list];exact List.drop_eq_nil_iff.1 e
  exact⟨[],by rw[List.append_nil];exact .fin this,.nil⟩
 | @white c r l hw _ ih=>
  intro s p acc e
  have hp:p<s.size:=hlt s p (by rw[e];simp)
  have h1:=drop_get s p hp
  rw[e]at h1
  obtain⟨e1,e2⟩:=List.cons.inj h1
  obtain⟨ts,h2,h3⟩:=ih s (p+1) acc e2.symm
  exact⟨ts,.white hp (by rw[←e1];exact hw) h2,h3⟩
 | @tok r l x hr hw hh ht _ ih=>
  intro s p acc e
  have hp:p<s.size:=hlt s p (by rw[e];exact hr)
  have hg:=get_hd hp
  rw[e]at hg
  obtain⟨ts,h2,h3⟩:=ih s (p+x.t.size) (acc++[{x with a:=p}]) (by rw[←e,List.drop_drop])
  refine⟨{x with a:=p}::ts,?_,.cons ⟨rfl,rfl,rfl⟩ h3⟩
  have:acc++{x with a:=p}::ts=acc++[{x with a:=p}]++ts:=by simp
  rw[this]
  exact .tok hp (by rw[hg];exact hw) (by rw[hg];exact hh) (by rw[tokP_L hp,e];exact ht) h2
theorem ls_tokens{s:ByteArray}{l:List Tkn}(h:Ls s.data.toList l)(hs:s.size≤4000):∃ts,TokensR s (ts++[⟨0,s.size,⟨#[]⟩,0⟩],0,0)∧Same3 ts l:=by
 obtain⟨ts,h1,h2⟩:=ls_lex h s 0 [] rfl
 exact⟨ts,.inr ⟨hs,by simpa using h1⟩,h2⟩
def Sep(r:List UInt8):Prop:=∀c,r.head? =some c→wordI c.toNat=false
def NoEq(r:List UInt8):Prop:=∀c,r.head? =some c→c≠61
theorem span_len{g:Int→Bool}{l r:List UInt8}(hl:∀b∈l,g b.toNat=true)(hr:∀c,r.head? =some c→g c.toNat=false):spanL g (l++r)=l.length:=by
 induction l with
 |nil=>cases r with
  |nil=>rfl
  |cons c r=>simp[spanL,hr c rfl]
 |cons b l ih=>
  have e2:∀m,spanL g (b::m)=spanL g m+1:=fun m=>by simp[spanL,hl b (by simp)]
  rw[List.cons_append,e2,ih fun b hb=>hl b (by simp[hb])]
  rfl
theorem mkB_self(s:ByteArray):mkB s.data.toList=s:=ba_ext (mkB_list _)
theorem ls_word{s:ByteArray}{r:List UInt8}{m:List Tkn}(hs:WordB s)(hr:Sep r)(h:Ls r m):Ls (s.data.toList++r) (tkW s::m):=by
 obtain⟨h12,c,l,e,hc,hw⟩:=hs
 have hsp:spanL wordI (s.data.toList++r)=s.data.toList.length:=span_len (by rw[e];exact hw) hr
 have hhd:(s.data.toList++r).headD 0=c:=by rw[e];rfl
 have hcw:whiteI c.toNat=false∧c.toNat≠35:=by
  simp only[letterI,Bool.or_eq_true,decide_eq_true_eq]at hc
  simp only[whiteI,decide_eq_false_iff_not]
  omega
 refine .tok (by rw[e];simp) (by rw[hhd];exact hcw.1) (by rw[hhd];exact hcw.2) (x:=tkW s) ?_ ?_
 ·unfold tokL
  rw[hhd,if_pos hc,hsp,if_neg (by rw[size_list];omega),List.take_left,mkB_self]
  rfl
 ·show Ls ((s.data.toList++r).drop s.size) m
  rw[←size_list,List.drop_left]
  exact h
theorem dec_facts(u:Nat):(∀b∈Lib.decDigits u,digitI b.toNat=true)∧Lib.decDigits u≠[]∧valI 0 (Lib.decDigits u)=(u:Int)∧(1≤u→∀c l,Lib.decDigits u=c::l→c≠48):=by
 induction u using Nat.strongRecOn with
 |_ u ih=>
  rw[Lib.decDigits]
  split
  ·rename_i h10
   have hb:(UInt8.ofNat (48+u)).toNat=48+u:=by rw[UInt8.toNat_ofNat'];omega
   refine⟨?_,by simp,?_,?_⟩
   ·intro b h
    obtain rfl:=List.mem_singleton.1 h
    rw[hb];simp only[digitI,decide_eq_true_eq];omega
   ·show 10*(0:Int)+(((UInt8.ofNat (48+u)).toNat:Int)-48)=u
    rw[hb];omega
   ·intro h1 c l e
    obtain⟨rfl,_⟩:=List.cons.inj e
    intro e
    have:=congrArg UInt8.toNat e
    rw[hb]at this
    have:48+u=48:=this
    omega
  ·rename_i h10
   obtain⟨i1,i2,i3,i4⟩:=ih (u/10) (by omega)
   have hm:u%10<10:=Nat.mod_lt _ (by decide)
   have hb:(UInt8.ofNat (48+u%10)).toNat=48+u%10:=by rw[UInt8.toNat_ofNat'];omega
   refine⟨?_,by simp,?_,?_⟩
   ·intro b h
    rcases List.mem_append.1 h with h|h
    ·exact i1 b h
    ·obtain rfl:=List.mem_singleton.1 h
     rw[hb];simp only[digitI,decide_eq_true_eq];omega
   ·unfold valI at i3⊢
    rw[List.foldl_append,i3]
    show 10*((u/10:Nat):Int)+(((UInt8.ofNat (48+u%10)).toNat:Int)-48)=u
    rw[hb];omega
   ·intro _ c l e
    cases hd:Lib.decDigits (u/10)with
    |nil=>exact absurd hd i2
    |cons c' l'=>
     rw[hd]at e
     obtain⟨rfl,_⟩:=List.cons.inj e
     exact i4 (by omega) c' l' hd
theorem itS_list{n:Int}(h0:0≤n):(itS n).data.toList=Lib.decDigits n.toNat:=by
 unfold itS Lib.itoa
 rw[if_neg (by omega)]
theorem ls_num{n:Int}{r:List UInt8}{m:List Tkn}(h0:0≤n)(h1:n≤2147483647)(hr:Sep r)(h:Ls r m):Ls ((itS n).data.toList++r) (tkN n::m):=by
 obtain⟨d1,d2,d3,d4⟩:=dec_facts n.toNat
 have e:=itS_list h0
 have hsep:∀c,r.head? =some c→digitI c.toNat=false:=by
  intro c hc
  have:=hr c hc
  simp only[wordI,Bool.or_eq_false_iff]at this
  exact this.2
 have hsp:spanL digitI ((itS n).data.toList++r)=(itS n).data.toList.length:=span_len (by rw[e];exact d1) hsep
 cases hd:Lib.decDigits n.toNat with
 |nil=>exact absurd hd d2
 |cons c l=>
  have hhd:((itS n).data.toList++r).headD 0=c:=by rw[e,hd];rfl
  have hc:=d1 c (by rw[hd];simp)
  have hcw:whiteI c.toNat=false∧c.toNat≠35∧letterI c.toNat=false:=by
   simp only[digitI,decide_eq_true_eq]at hc
   simp only[whiteI,letterI,decide_eq_false_iff_not,Bool.or_eq_false_iff]
   omega
  refine .tok (by rw[e,hd];simp) (by rw[hhd];exact hcw.1) (by rw[hhd];exact hcw.2.1) (x:=tkN n) ?_ ?_
  ·unfold tokL
   rw[hhd,if_neg (by rw[hcw.2.2];decide),if_pos hc,hsp,List.take_left]
   unfold numL
   have hv:valI 0 (itS n).data.toList=n:=by rw[e,d3];omega
   rw[hv,if_neg,if_neg (by omega),mkB_self]
   ·rfl
   ·rintro⟨g1,g2⟩
    rw[e,hd]at g1 g2
    simp at g2
    rcases Nat.lt_or_ge n.toNat 1 with h'|h'
    ·have:n.toNat=0:=by omega
     rw[this,Lib.decDigits,dif_pos (by decide)]at hd
     obtain⟨_,rfl⟩:=List.cons.inj hd
     simp at g1
    ·exact d4 h' c l hd g2
  ·show Ls (((itS n).data.toList++r).drop (itS n).size) m
   rw[←size_list,List.drop_left]
   exact h
theorem sym_facts:∀c∈sym1,whiteI c.toNat=false∧c.toNat≠35∧letterI c.toNat=false∧digitI c.toNat=false:=by decide
theorem sym2_facts:∀x∈sym2,x.length=2∧whiteI (x.headD 0).toNat=false∧(x.headD 0).toNat≠35∧letterI (x.headD 0).toNat=false∧digitI (x.headD 0).toNat=false:=by decide
theorem sym2_eq:∀x∈sym2,x.headD 0∈sym1→x=[x.headD 0,61]:=by decide
theorem ls_one{c:UInt8}{r:List UInt8}{m:List Tkn}(hc:c∈sym1)(hr:NoEq r)(h:Ls r m):Ls (c::r) (tkY (mkB [c])::m):=by
 obtain⟨f1,f2,f3,f4⟩:=sym_facts c hc
 have hN:symN (c::r)=1:=by
  unfold symN
  rw[if_neg,List.head?_cons,Option.any_some]
  ·have:sym1.contains c=true:=by simpa using hc
   rw[this];rfl
  ·rintro⟨_,hm⟩
   have:=sym2_eq _ hm (by cases r<;>exact hc)
   cases r with
   |nil=>simp at this
   |cons d r=>
    simp at this
    exact hr d rfl this
 refine .tok (by simp) f1 f2 (x:=tkY (mkB [c])) ?_ ?_
 ·unfold tokL
  rw[List.headD_cons,if_neg (by rw[f3];decide),if_neg (by rw[f4];decide),hN,if_neg (by decide)]
  rfl
 ·exact h
theorem ls_two{a b:UInt8}{r:List UInt8}{m:List Tkn}(hc:[a,b]∈sym2)(h:Ls r m):Ls (a::b::r) (tkY (mkB [a,b])::m):=by
 obtain⟨_,f1,f2,f3,f4⟩:=sym2_facts _ hc
 have hN:symN (a::b::r)=2:=by
  unfold symN
  rw[if_pos]
  exact⟨by simp,hc⟩
 refine .tok (by simp) f1 f2 (x:=tkY (mkB [a,b])) ?_ ?_
 ·unfold tokL
  rw[List.headD_cons,if_neg (by simp only[List.headD_cons]at f3;rw[f3];decide),if_neg (by simp only[List.headD_cons]at f4;rw[f4];decide),hN,if_neg (by decide)]
  rfl
 ·exact h
theorem ls_space{r:List UInt8}{m:List Tkn}(h:Ls r m):Ls (32::r) m:=.white (by decide) h
theorem sep_cons{c:UInt8}{r:List UInt8}(h:wordI c.toNat=false):Sep (c::r):=by intro d hd;cases hd;exact h
theorem noeq_cons{c:UInt8}{r:List UInt8}(h:c≠61):NoEq (c::r):=by intro d hd;cases hd;exact h
theorem ls_op{s:ByteArray}(hs:s∈opsL){r:List UInt8}{m:List Tkn}(h:Ls r m):Ls (32::(s.data.toList++32::r)) (tkY s::m):=by
 have h2:=ls_space h
 have hn:NoEq (32::r):=noeq_cons (by decide)
 simp only[opsL,List.mem_cons,List.not_mem_nil,or_false]at hs
 rcases hs with rfl|rfl|rfl|rfl|rfl|rfl|rfl|rfl|rfl|rfl|rfl|rfl
 ·exact ls_space (ls_two (by decide) h2)
 ·exact ls_space (ls_two (by decide) h2)
 ·exact ls_space (ls_one (by decide) hn h2)
 ·exact ls_space (ls_two (by decide) h2)
 ·exact ls_space (ls_one (by decide) hn h2)
 ·exact ls_space (ls_two (by decide) h2)
 ·exact ls_space (ls_two (by decide) h2)
 ·exact ls_space (ls_two (by decide) h2)
 ·exact ls_space (ls_one (by decide) hn h2)
 ·exact ls_space (ls_one (by decide) hn h2)
 ·exact ls_space (ls_one (by decide) hn h2)
 ·exact ls_space (ls_one (by decide) hn h2)
def Hd(x:List UInt8):Prop:=∃c r,x=c::r∧c≠61
theorem hd_par{lv:Nat}{t:Tr}{x:List UInt8}(h:Hd x):Hd (parB lv t x):=by
 unfold parB
 split
 ·exact⟨_,_,rfl,by decide⟩
 ·exact h
theorem hd_app{x y:List UInt8}(h:Hd x):Hd (x++y):=by
 obtain⟨c,r,rfl,h⟩:=h
 exact⟨c,r++y,rfl,h⟩
theorem hd_noeq{x:List UInt8}(h:Hd x):NoEq x:=by
 obtain⟨c,r,rfl,h⟩:=h
 exact noeq_cons h
theorem hd_num{n:Int}(h0:0≤n):Hd (itS n).data.toList:=by
 cases e:(itS n).data.toList with
 |nil=>
  rw[itS_list h0]at e
  exact absurd e (dec_facts _).2.1
 |cons c l=>
  have:=itS_ne h0 c l e
  exact⟨c,l,rfl,by rintro rfl;exact absurd this.2 (by decide)⟩
theorem hd_word{s:ByteArray}(h:WordB s):Hd s.data.toList:=by
 obtain⟨_,c,l,e,h1,_⟩:=h
 exact⟨c,l,e,by rintro rfl;exact absurd h1 (by decide)⟩
theorem unit_wordB:∀s∈unitsL,WordB s:=by
 intro s hs
 have:∀s∈unitsL,s.size≤12∧(s.data.toList.headD 0::s.data.toList.tail=s.data.toList)∧letterI (s.data.toList.headD 0).toNat=true∧∀b∈s.data.toList,wordI b.toNat=true:=by decide
 obtain⟨h1,h2,h3,h4⟩:=this s hs
 exact⟨h1,_,_,h2.symm,h3,by rw[h2];exact h4⟩
theorem key_wordB:∀s∈keywords,WordB s:=by
 intro s hs
 have:∀s∈keywords,s.size≤12∧(s.data.toList.headD 0::s.data.toList.tail=s.data.toList)∧letterI (s.data.toList.headD 0).toNat=true∧∀b∈s.data.toList,wordI b.toNat=true:=by decide
 obtain⟨h1,h2,h3,h4⟩:=this s hs
 exact⟨h1,_,_,h2.symm,h3,by rw[h2];exact h4⟩
theorem pr_head {t : Tr} {x : List UInt8} {l : List Tkn} {d : Nat} (h : Pr t x l d) : Hd x := by
  induction h with
  | lit n h0 _ => exact hd_num h0
  | qty n s h0 _ _ => exact hd_app (hd_num h0)
  | yes => exact ⟨_, _, rfl, by decide⟩
  | no => exact ⟨_, _, rfl, by decide⟩
  | var s _ hw => exact hd_word hw
  | tlm s _ _ => exact ⟨_, _, rfl, by decide⟩
  | un s a x l d hs _ _ => rcases hs with rfl | rfl
                           · exact ⟨33, _, rfl, by decide⟩
                           · exact ⟨45, _, rfl, by decide⟩
  | bin s a b x y l m d e hs _ _ ih1 _ => exact hd_app (hd_par ih1)
theorem pr_lex{t:Tr}{x:List UInt8}{l:List Tkn}{d:Nat}(h:Pr t x l d):∀(r:List UInt8) (m:List Tkn),Sep r→(NoEq r)→Ls r m→Ls (x++r) (l++m):=by
 have hp:∀{lv:Nat} {a:Tr} {x:List UInt8} {l:List Tkn},Hd x→(∀(r:List UInt8) (m:List Tkn),Sep r→(NoEq r)→Ls r m→Ls (x++r) (l++m))→∀(r:List UInt8) (m:List Tkn),Sep r→(NoEq r)→Ls r m→Ls (parB lv a x++r) (parL lv a l++m):=by
  intro lv a x l hx ih r m hr hq h
  unfold parB parL
  split
  ·have h1:Ls (41::r) (tkY sRPar::m):=ls_one (by decide) hq h
   have h2:=ih _ _ (sep_cons (by decide)) (noeq_cons (by decide)) h1
   have h3:Ls (40::(x++41::r)) (tkY sLPar::(l++tkY sRPar::m)):=ls_one (by decide) (hd_noeq (hd_app hx)) h2
   simpa using h3
  ·exact ih r m hr hq h
 induction h with
 |lit n h0 h1=>intro r m hr hq h;exact ls_num h0 h1 hr h
 |qty n s h0 h1 hs=>
  intro r m hr hq h
  have:=ls_num h0 h1 (sep_cons (by decide)) (ls_space (ls_word (unit_wordB s hs) hr h))
  simpa using this
 |yes=>intro r m hr hq h;exact ls_word (key_wordB _ (inP_iff.1 (by decide))) hr h
 |no=>intro r m hr hq h;exact ls_word (key_wordB _ (inP_iff.1 (by decide))) hr h
 |var s _ hw=>intro r m hr hq h;exact ls_word hw hr h
 |tlm s _ hw=>
  intro r m hr hq h
  have h1:Ls (46::(s.data.toList++r)) (tkY sDot::tkW s::m):=ls_one (by decide) (hd_noeq (hd_app (hd_word hw))) (ls_word hw hr h)
  exact ls_word (s:=w_tlm) (key_wordB _ (inP_iff.1 (by decide))) (sep_cons (by decide)) h1
 |un s a x l d hs ha ih=>
  intro r m hr hq h
  have h1:=hp (lv:=lvT (.node 19 0 s [a])) (a:=a) (pr_head ha) ih r m hr hq h
  have h2:=hd_noeq (hd_app (y:=r) (hd_par (lv:=lvT (.node 19 0 s [a])) (t:=a) (pr_head ha)))
  rcases hs with rfl|rfl
  ·exact ls_one (c:=33) (by decide) h2 h1
  ·exact ls_one (c:=45) (by decide) h2 h1
 |bin s a b x y l m d e hs ha hb ih1 ih2=>
  intro r k hr hq h
  have h1:=hp (lv:=levP s+1) (a:=b) (pr_head hb) ih2 r k hr hq h
  have h2:=hp (lv:=if levP s=4 then 5 else levP s) (a:=a) (pr_head ha) ih1 _ _ (sep_cons (by decide)) (noeq_cons (by decide)) (ls_op hs h1)
  simpa using h2
end Go.Proofs.Lx
/- Plain: the parser looks at no token behind those that it takes, but for one; tokens that are moved, or of which only the offsets differ, are parsed alike; more fuel does no harm. -/
namespace Go.Proofs.Lx
open Go
structure Eq3(x y:Tkn):Prop where
 k:x.k=y.k
 t:x.t=y.t
 n:x.n=y.n
def PS.up(d:Nat)(s:PS):PS:={s with p:=d+s.p}
def PR.up{α:Type}(d:Nat):PR α→PR α
 | .ok x s=>.ok x (s.up d)
 | .err p c=>.err (d+p) c
 | .out=>.out
def Ee{α:Type}(b:Nat):PR α→Nat
 | .ok _ s=>s.p+b
 | .err p _=>p+1
 | .out=>0
structure Lc{α:Type}(b d e p:Nat)(f g:PR α):Prop where
 gr:f≠ .out→p<Ee b f
 eq:f≠ .out→Ee b f≤e→g=f.up d
variable {α β:Type} {b b' d e p:Nat}
theorem Lc.out{g:PR α}:Lc b d e p (.out:PR α) g:=⟨fun h=>absurd rfl h,fun h=>absurd rfl h⟩
theorem Lc.err{q:Nat}{c:Int}(h:p≤q):Lc b d e p (.err q c:PR α) (.err (d+q) c):=⟨fun _=>Nat.lt_succ_of_le h,fun _ _=>rfl⟩
theorem Lc.ok0{x:α}{s:PS}(h:p<s.p):Lc 0 d e p (.ok x s) (.ok x (s.up d)):=⟨fun _=>h,fun _ _=>rfl⟩
theorem Lc.ok1{x:α}{s:PS}(h:p≤s.p):Lc 1 d e p (.ok x s) (.ok x (s.up d)):=⟨fun _=>Nat.lt_succ_of_le h,fun _ _=>rfl⟩
theorem Lc.one{f g:PR α}(h:Lc 0 d e p f g):Lc 1 d e p f g:=by
 refine⟨fun h0=>?_,fun h0 h1=>h.eq h0 ?_⟩
 ·have:=h.gr h0;cases f<;>simp only[Ee]at this⊢ <;>omega
 ·cases f<;>simp only[Ee]at h1⊢ <;>omega
theorem Lc.le{p':Nat}{f g:PR α}(h:Lc b d e p' f g)(hp:p≤p'):Lc b d e p f g:=⟨fun h0=>Nat.lt_of_le_of_lt hp (h.gr h0),h.eq⟩
theorem Lc.sub{f g g':PR α}(h:Lc b d e p f g')(hg:p<e→g=g'):Lc b d e p f g:=⟨h.gr,fun h0 h1=>(hg (Nat.lt_of_lt_of_le (h.gr h0) h1)).trans (h.eq h0 h1)⟩
theorem Lc.ite{c c':Prop}[Decidable c][Decidable c']{f g f' g':PR α}(hc:p<e→(c'↔c))(h1:c→Lc b d e p f g)(h2:¬c→Lc b d e p f' g'):Lc b d e p (if c then f else f') (if c' then g else g'):=by
 by_cases h:c
 ·rw[if_pos h]
  exact(h1 h).sub fun hp=>if_pos ((hc hp).2 h)
 ·rw[if_neg h]
  exact(h2 h).sub fun hp=>if_neg fun h'=>h ((hc hp).1 h')
theorem Lc.bind{r r':PR β}{k k':β→PS→PR α}(hb:b≤1)(h:Lc b d e p r r')(hk:∀a s,p≤s.p→Lc b' d e s.p (k a s) (k' a (s.up d))):Lc b' d e p (r.bind k) (r'.bind k'):=by
 cases r with
 |out=>exact Lc.out
 |err q c=>
  have h1:=h.gr (by simp)
  refine⟨fun _=>h1,fun _ h2=>?_⟩
  rw[h.eq (by simp) h2];rfl
 |ok a s=>
  have h1:p<s.p+b:=h.gr (by simp)
  have hs:=hk a s (by omega)
  refine⟨fun h0=>?_,fun h0 h2=>?_⟩
  ·have:=hs.gr h0
   show p<Ee b' (k a s)
   omega
  ·have h3:s.p<Ee b' (k a s):=hs.gr h0
   have h2':Ee b' (k a s)≤e:=h2
   rw[h.eq (by simp) (show s.p+b≤e by omega)]
   exact hs.eq h0 h2
theorem Lc.map{r r':PR β}(F:β→α)(G:PS→PS)(h:Lc b d e p r r')(h1:∀s,(G s).p=s.p)(h2:∀s:PS,G (s.up d)=(G s).up d):Lc b d e p (r.bind fun a s=>.ok (F a) (G s)) (r'.bind fun a s=>.ok (F a) (G s)):=by
 cases r with
 |out=>exact Lc.out
 |err q c=>
  refine⟨fun _=>h.gr (by simp),fun _ h2=>?_⟩
  rw[h.eq (by simp) h2];rfl
 |ok a s=>
  have h3:p<s.p+b:=h.gr (by simp)
  refine⟨fun _=>?_,fun _ h4=>?_⟩
  ·show p< (G s).p+b
   rw[h1];exact h3
  ·have h4:(G s).p+b≤e:=h4
   rw[h1]at h4
   rw[h.eq (by simp) h4]
   show PR.ok (F a) (G (s.up d))= .ok (F a) ((G s).up d)
   rw[h2]
section
variable {T U:Nat→Tkn} {s:PS}
theorem is_up(hU:∀j,j<e→Eq3 (U (d+j)) (T j))(w:ByteArray)(h:s.p<e):(isP U w (s.up d)=true↔isP T w s=true):=by
 unfold isP
 rw[show(U (s.up d).p).t=(T s.p).t from(hU _ h).t]
theorem must_up(hU:∀j,j<e→Eq3 (U (d+j)) (T j))(w:ByteArray)(s:PS):Lc 0 d e s.p (mustP T w s) (mustP U w (s.up d)):=
 Lc.ite (is_up hU w) (fun _=>Lc.ok0 (Nat.lt_succ_self _)) fun _=>Lc.err (Nat.le_refl _)
theorem opens_up(hU:∀j,j<e→Eq3 (U (d+j)) (T j))(w:ByteArray)(s:PS):Lc 0 d e s.p (opensP T w s) (opensP U w (s.up d)):=
 Lc.ite (is_up hU w) (fun _=>Lc.ite (fun _=>Iff.rfl) (fun _=>Lc.err (Nat.le_refl _)) fun _=>Lc.ok0 (Nat.lt_succ_self s.p)) fun _=>Lc.err (Nat.le_refl _)
theorem name_up(hU:∀j,j<e→Eq3 (U (d+j)) (T j))(s:PS):Lc 0 d e s.p (nameP T s) (nameP U (s.up d)):=by
 unfold nameP
 refine Lc.ite (fun h=>?_) (fun _=>Lc.err (Nat.le_refl _)) fun _=>(Lc.ok0 (Nat.lt_succ_self s.p)).sub fun h=>?_
 ·rw[show(U (s.up d).p).t=(T s.p).t from(hU _ h).t,show(U (s.up d).p).k=(T s.p).k from(hU _ h).k]
 ·rw[show(U (s.up d).p).t=(T s.p).t from(hU _ h).t];rfl
theorem name_bind{k:ByteArray→PS→PR α}:(nameP T s).bind k=if(T s.p).k≠1∨resP (T s.p).t=true then .err s.p 11 else k (T s.p).t (adv s):=by
 unfold nameP
 split<;>rfl
theorem decl_up(hU:∀j,j<e→Eq3 (U (d+j)) (T j))(s:PS):Lc 0 d e s.p (declP T s) (declP U (s.up d)):=by
 unfold declP
 rw[name_bind,name_bind]
 refine Lc.ite (fun h=>?_) (fun _=>Lc.err (Nat.le_refl _)) fun _=>Lc.ite (fun h=>?_) (fun _=>Lc.err (Nat.le_refl _)) fun _=>Lc.ite (fun _=>Iff.rfl) (fun _=>Lc.err (Nat.le_refl _)) fun _=>?_
 ·rw[show(U (s.up d).p).t=(T s.p).t from(hU _ h).t,show(U (s.up d).p).k=(T s.p).k from(hU _ h).k]
 ·rw[show(U (s.up d).p).t=(T s.p).t from(hU _ h).t];exact Iff.rfl
 ·refine Lc.sub (Lc.ok0 (Nat.lt_succ_self s.p)) fun h=>?_
  rw[show(U (s.up d).p).t=(T s.p).t from(hU _ h).t];rfl
theorem num_up(hU:∀j,j<e→Eq3 (U (d+j)) (T j))(lo hi:Int)(s:PS):Lc 0 d e s.p (numP T lo hi s) (numP U lo hi (s.up d)):=by
 unfold numP
 refine Lc.ite (fun h=>?_) (fun _=>Lc.err (Nat.le_refl _)) fun _=>Lc.ite (fun h=>?_) (fun _=>Lc.err (Nat.le_refl _)) fun _=>(Lc.ok0 (Nat.lt_succ_self s.p)).sub fun h=>?_
 ·rw[show(U (s.up d).p).k=(T s.p).k from(hU _ h).k]
 ·rw[show(U (s.up d).p).n=(T s.p).n from(hU _ h).n]
 ·rw[show(U (s.up d).p).n=(T s.p).n from(hU _ h).n];rfl
theorem lit_up(hU:∀j,j<e→Eq3 (U (d+j)) (T j))(s:PS):Lc 1 d e s.p (litP T s) (litP U (s.up d)):=by
 unfold litP
 refine Lc.bind (Nat.zero_le _) (num_up hU 0 2147483647 s) fun n s1 h1=>Lc.ite (fun h=>?_) (fun _=>?_) fun _=>Lc.ok1 (Nat.le_refl _)
 ·rw[show(U (s1.up d).p).t=(T s1.p).t from(hU _ h).t,show(U (s1.up d).p).k=(T s1.p).k from(hU _ h).k]
 ·refine Lc.sub (Lc.ok1 (Nat.le_succ s1.p)) fun h=>?_
  rw[show(U (s1.up d).p).t=(T s1.p).t from(hU _ h).t];rfl
theorem expr_up(hU:∀j,j<e→Eq3 (U (d+j)) (T j)):∀f f',f≤f'→(∀lv s,Lc 1 d e s.p (exprP T f lv s) (exprP U f' lv (s.up d)))∧(∀lv n s,Lc 1 d e s.p (opsP T f lv n s) (opsP U f' lv n (s.up d)))∧
 (∀w lv s,Lc 1 d e s.p (unaryP T f w lv s) (unaryP U f' w lv (s.up d)))∧(∀s,Lc 1 d e s.p (primP T f s) (primP U f' (s.up d)))
 |0,f',_=>by
  refine⟨fun lv s=>?_,fun lv n s=>?_,fun w lv s=>?_,fun s=>?_⟩
  ·rw[exprP];exact Lc.out
  ·rw[opsP];exact Lc.out
  ·rw[unaryP];exact Lc.out
  ·rw[primP];exact Lc.out
 |f+1,0,h=>absurd h (Nat.not_succ_le_zero f)
 |f+1,f'+1,h=>by
  obtain⟨i1,i2,i3,i4⟩:=expr_up hU f f' (Nat.le_of_succ_le_succ h)
  refine⟨fun lv s=>?_,fun lv n s=>?_,fun w lv s=>?_,fun s=>?_⟩
  ·rw[exprP,exprP]
   refine Lc.ite (fun h=>?_) (fun _=>i3 sNot 3 s) fun _=>Lc.ite (fun h=>?_) (fun _=>i3 sSub 7 s) fun _=>Lc.ite (fun _=>Iff.rfl) (fun _=>i4 s) fun _=>Lc.bind (Nat.le_refl _) (i1 (lv+1) s) fun n s1 _=>i2 lv n s1
   ·rw[is_up hU sNot h]
   ·rw[is_up hU sSub h]
  ·rw[opsP,opsP]
   refine Lc.ite (fun h=>?_) (fun _=>?_) fun _=>Lc.ok1 (Nat.le_refl _)
   ·rw[show(U (s.up d).p).t=(T s.p).t from(hU _ h).t,show(U (s.up d).p).k=(T s.p).k from(hU _ h).k]
   ·refine Lc.sub (g':=(exprP U f' (lv+1) ((adv s).up d)).bind fun m s'=>if lv=4 then .ok (.node 20 0 (T s.p).t [n,m]) s' else opsP U f' lv (.node 20 0 (T s.p).t [n,m]) s') ?_ fun h=>?_
    ·exact(Lc.bind (Nat.le_refl _) (i1 (lv+1) (adv s)) fun m s1 _=>Lc.ite (fun _=>Iff.rfl) (fun _=>Lc.ok1 (Nat.le_refl _)) fun _=>i2 lv _ s1).le (Nat.le_succ _)
    ·rw[show(U (s.up d).p).t=(T s.p).t from(hU _ h).t];rfl
  ·rw[unaryP,unaryP]
   exact Lc.bind (Nat.zero_le _) (opens_up hU w s) fun _ s1 _=>Lc.map (fun n=>Tr.node 19 0 w [n]) closeP (i1 lv s1) (fun _=>rfl) fun _=>rfl
  ·rw[primP,primP]
   refine Lc.ite (fun h=>?_) (fun _=>lit_up hU s) fun _=>Lc.ite (is_up hU w_true) (fun _=>Lc.ok1 (Nat.le_succ s.p)) fun _=>Lc.ite (is_up hU w_false) (fun _=>Lc.ok1 (Nat.le_succ s.p)) fun _=>Lc.ite (is_up hU w_tlm) (fun _=>?_) fun _=>Lc.ite (is_up hU sLPar) (fun _=>?_) fun _=>?_
   ·rw[show(U (s.up d).p).k=(T s.p).k from(hU _ h).k]
   ·exact((Lc.bind (Nat.zero_le _) (must_up hU sDot (adv s)) fun _ s1 _=>Lc.map (fun x=>Tr.node 18 0 x []) id (name_up hU s1) (fun _=>rfl) fun _=>rfl).le (Nat.le_succ _)).one
   ·exact(Lc.bind (Nat.zero_le _) (opens_up hU sLPar s) fun _ s1 _=>Lc.bind (Nat.le_refl _) (i1 1 s1) fun n s2 _=>Lc.map (fun _=>n) closeP (must_up hU sRPar s2) (fun _=>rfl) fun _=>rfl).one
   ·exact(Lc.map (fun x=>Tr.node 17 0 x []) id (name_up hU s) (fun _=>rfl) fun _=>rfl).one
theorem endP_up(hU:∀j,j<e→Eq3 (U (d+j)) (T j))(n:Tr)(s:PS):Lc 0 d e s.p (endP T n s) (endP U n (s.up d)):=Lc.map (fun _=>n) id (must_up hU sSemi s) (fun _=>rfl) fun _=>rfl
theorem set_up(hU:∀j,j<e→Eq3 (U (d+j)) (T j)){f f':Nat}(hf:f≤f')(k:Int)(x:ByteArray)(s:PS):Lc 0 d e s.p (setP T f k x s) (setP U f' k x (s.up d)):=
 Lc.bind (Nat.zero_le _) (must_up hU sSet s) fun _ s1 _=>Lc.bind (Nat.le_refl _) ((expr_up hU f f' hf).1 1 s1) fun n s2 _=>endP_up hU _ s2
theorem one_up(hU:∀j,j<e→Eq3 (U (d+j)) (T j)){f f':Nat}(hf:f≤f')(k:Int)(s:PS):Lc 0 d e s.p (oneP T f k s) (oneP U f' k (s.up d)):=
 Lc.bind (Nat.le_refl _) ((expr_up hU f f' hf).1 1 s) fun n s2 _=>endP_up hU _ s2
theorem amt_up(hU:∀j,j<e→Eq3 (U (d+j)) (T j))(k:Int)(s:PS):Lc 0 d e s.p (amtP T k s) (amtP U k (s.up d)):=
 Lc.bind (Nat.le_refl _) (lit_up hU s) fun n s2 _=>endP_up hU _ s2
theorem await_up(hU:∀j,j<e→Eq3 (U (d+j)) (T j)){f f':Nat}(hf:f≤f')(s:PS):Lc 0 d e s.p (awaitP T f s) (awaitP U f' (s.up d)):=
 Lc.bind (Nat.le_refl _) ((expr_up hU f f' hf).1 1 s) fun c s1 _=>Lc.bind (Nat.zero_le _) (must_up hU w_within s1) fun _ s2 _=>Lc.bind (Nat.le_refl _) (lit_up hU s2) fun n s3 _=>endP_up hU _ s3
theorem nmb_up(hU:∀j,j<e→Eq3 (U (d+j)) (T j))(k hi:Int)(s:PS):Lc 0 d e s.p (nmbP T k hi s) (nmbP U k hi (s.up d)):=
 Lc.bind (Nat.zero_le _) (num_up hU 0 hi s) fun n s1 _=>endP_up hU _ s1
theorem use_up(hU:∀j,j<e→Eq3 (U (d+j)) (T j))(k:Int)(w:ByteArray)(s:PS):Lc 0 d e s.p (useP T k w s) (useP U k w (s.up d)):=
 Lc.bind (Nat.zero_le _) (num_up hU 0 7 s) fun n s1 _=>Lc.bind (Nat.zero_le _) (must_up hU w s1) fun _ s2 _=>Lc.bind (Nat.le_refl _) (lit_up hU s2) fun m s3 _=>endP_up hU _ s3
theorem stmt_up(hU:∀j,j<e→Eq3 (U (d+j)) (T j)):∀f f',f≤f'→(∀s,Lc 0 d e s.p (blockP T f s) (blockP U f' (s.up d)))∧(∀s,Lc 0 d e s.p (stmtsP T f s) (stmtsP U f' (s.up d)))∧(∀s,Lc 1 d e s.p (stmtP T f s) (stmtP U f' (s.up d)))
 |0,f',_=>by
  refine⟨fun s=>?_,fun s=>?_,fun s=>?_⟩
  ·rw[blockP];exact Lc.out
  ·rw[stmtsP];exact Lc.out
  ·rw[stmtP];exact Lc.out
 |f+1,0,h=>absurd h (Nat.not_succ_le_zero f)
 |f+1,f'+1,h=>by
  have hf:=Nat.le_of_succ_le_succ h
  obtain⟨i1,i2,i3⟩:=stmt_up hU f f' hf
  refine⟨fun s=>?_,fun s=>?_,fun s=>?_⟩
  ·rw[blockP,blockP]
   exact Lc.bind (Nat.zero_le _) (opens_up hU sLBr s) fun _ s1 _=>Lc.map (fun l=>Tr.node 14 0 ⟨#[]⟩ l) closeP (i2 s1) (fun _=>rfl) fun _=>rfl
  ·rw[stmtsP,stmtsP]
   exact Lc.ite (is_up hU sRBr) (fun _=>Lc.ok0 (Nat.lt_succ_self s.p)) fun _=>Lc.bind (Nat.le_refl _) (i3 s) fun n s1 _=>Lc.map (fun l=>n::l) id (i2 s1) (fun _=>rfl) fun _=>rfl
  ·rw[stmtP,stmtP]
   have nx:∀{g g':PR Tr},Lc 0 d e (adv s).p g g'→Lc 1 d e s.p g g':=fun h=>(h.le (Nat.le_succ _)).one
   refine Lc.ite (is_up hU w_let) (fun _=>nx (Lc.bind (Nat.zero_le _) (decl_up hU (adv s)) fun x s1 _=>set_up hU hf 1 x s1)) fun _=>?_
   refine Lc.ite (is_up hU w_if) (fun _=>(Lc.bind (Nat.le_refl _) ((expr_up hU f f' hf).1 1 (adv s)) fun c s1 _=>Lc.bind (Nat.zero_le _) (i1 s1) fun y s2 _=>Lc.ite (is_up hU w_else) (fun _=>?_) fun _=>Lc.ok1 (Nat.le_refl _)).le (Nat.le_succ _)) fun _=>?_
   ·exact((Lc.map (fun n=>Tr.node 3 0 ⟨#[]⟩ [c,y,n]) id (i1 (adv s2)) (fun _=>rfl) fun _=>rfl).le (Nat.le_succ _)).one
   refine Lc.ite (is_up hU w_repeat) (fun _=>nx (Lc.bind (Nat.zero_le _) (num_up hU 1 100 (adv s)) fun n s1 _=>Lc.map (fun y=>Tr.node 4 n ⟨#[]⟩ [y]) id (i1 s1) (fun _=>rfl) fun _=>rfl)) fun _=>?_
   refine Lc.ite (is_up hU w_await) (fun _=>nx (await_up hU hf (adv s))) fun _=>?_
   refine Lc.ite (is_up hU w_wait) (fun _=>nx (amt_up hU 5 (adv s))) fun _=>?_
   refine Lc.ite (is_up hU w_keep) (fun _=>nx (amt_up hU 11 (adv s))) fun _=>?_
   refine Lc.ite (is_up hU w_require) (fun _=>nx (one_up hU hf 7 (adv s))) fun _=>?_
   refine Lc.ite (is_up hU w_point) (fun _=>nx (one_up hU hf 8 (adv s))) fun _=>?_
   refine Lc.ite (is_up hU w_use) (fun _=>nx (use_up hU 9 w_for (adv s))) fun _=>?_
   refine Lc.ite (is_up hU w_send) (fun _=>nx (use_up hU 10 sComma (adv s))) fun _=>?_
   refine Lc.ite (is_up hU w_emit) (fun _=>nx (nmb_up hU 12 99 (adv s))) fun _=>?_
   refine Lc.ite (is_up hU w_abort) (fun _=>nx (nmb_up hU 13 999 (adv s))) fun _=>?_
   exact(Lc.bind (Nat.zero_le _) (name_up hU s) fun x s1 _=>set_up hU hf 2 x s1).one
theorem prm_up(hU:∀j,j<e→Eq3 (U (d+j)) (T j))(s:PS):Lc 1 d e s.p (prmP T s) (prmP U (s.up d)):=by
 unfold prmP
 refine Lc.bind (Nat.zero_le _) (decl_up hU s) fun x s1 _=>Lc.ite (is_up hU sColon) (fun _=>?_) fun _=>Lc.ok1 (Nat.le_refl _)
 have hq:s1.p+1<e→Eq3 (U ((s1.up d).p+1)) (T (s1.p+1)):=fun h=>hU _ h
 refine Lc.le (p':=s1.p+1) (Lc.ite (fun h=>?_) (fun _=>Lc.err (Nat.le_refl _)) fun _=>Lc.ite (fun h=>?_) (fun _=>Lc.err (Nat.le_refl _)) fun _=>?_) (Nat.le_succ _)
 ·rw[(hq h).k]
 ·rw[(hq h).t]
 ·refine Lc.sub (Lc.ok1 (Nat.le_succ (s1.p+1))) fun h=>?_
  rw[(hq h).t];rfl
theorem prms_up(hU:∀j,j<e→Eq3 (U (d+j)) (T j)):∀f f',f≤f'→∀s,Lc 0 d e s.p (prmsP T f s) (prmsP U f' (s.up d))
 |0,f',_,s=>by rw[prmsP];exact Lc.out
 |f+1,0,h,s=>absurd h (Nat.not_succ_le_zero f)
 |f+1,f'+1,h,s=>by
  rw[prmsP,prmsP]
  refine Lc.bind (Nat.le_refl _) (prm_up hU s) fun x s1 _=>Lc.ite (is_up hU sComma) (fun _=>?_) fun _=>Lc.map (fun _=>[x]) id (must_up hU sRPar s1) (fun _=>rfl) fun _=>rfl
  exact(Lc.map (fun l=>x::l) id (prms_up hU f f' (Nat.le_of_succ_le_succ h) (adv s1)) (fun _=>rfl) fun _=>rfl).le (Nat.le_succ _)
theorem params_up(hU:∀j,j<e→Eq3 (U (d+j)) (T j)){f f':Nat}(hf:f≤f')(s:PS):Lc 0 d e s.p (paramsP T f s) (paramsP U f' (s.up d)):=
 Lc.bind (Nat.zero_le _) (must_up hU sLPar s) fun _ s1 _=>Lc.ite (is_up hU sRPar) (fun _=>Lc.ok0 (Nat.lt_succ_self s1.p)) fun _=>prms_up hU f f' hf s1
theorem proc_up(hU:∀j,j<e→Eq3 (U (d+j)) (T j)){f f':Nat}(hf:f≤f')(pr:List ByteArray)(s:PS):Lc 0 d e s.p (procP T f pr s) (procP U f' pr (s.up d)):=by
 unfold procP
 refine Lc.bind (Nat.zero_le _) (must_up hU w_procedure s) fun _ s1 _=>?_
 rw[name_bind,name_bind]
 have hq:s1.p<e→Eq3 (U (s1.up d).p) (T s1.p):=fun h=>hU _ h
 refine Lc.ite (fun h=>?_) (fun _=>Lc.err (Nat.le_refl _)) fun _=>Lc.ite (fun h=>?_) (fun _=>Lc.err (Nat.le_refl _)) fun _=>?_
 ·rw[(hq h).t,(hq h).k]
 ·rw[(hq h).t]
 ·refine Lc.sub (g':=(paramsP U f' (PS.up d {adv s1 with vs:=[]})).bind fun l s3=>(blockP U f' s3).bind fun b s4=>.ok ⟨(T s1.p).t,l,b⟩ s4) ?_ fun h=>?_
  ·exact(Lc.bind (Nat.zero_le _) (params_up hU hf {adv s1 with vs:=[]}) fun l s3 _=>Lc.map (fun b=>Prc.mk (T s1.p).t l b) id ((stmt_up hU f f' hf).1 s3) (fun _=>rfl) fun _=>rfl).le (Nat.le_succ _)
  ·rw[(hq h).t];rfl
theorem procs_up(hU:∀j,j<e→Eq3 (U (d+j)) (T j)):∀f f',f≤f'→∀pr s,Lc 1 d e s.p (procsP T f pr s) (procsP U f' pr (s.up d))
 |0,f',_,pr,s=>by rw[procsP];exact Lc.out
 |f+1,0,h,pr,s=>absurd h (Nat.not_succ_le_zero f)
 |f+1,f'+1,h,pr,s=>by
  have hf:=Nat.le_of_succ_le_succ h
  rw[procsP,procsP]
  refine Lc.ite (fun h=>?_) (fun _=>Lc.ok1 (Nat.le_refl _)) fun _=>Lc.bind (Nat.zero_le _) (proc_up hU hf pr s) fun x s1 _=>Lc.map (fun l=>x::l) id (procs_up hU f f' hf (pr++[x.x]) s1) (fun _=>rfl) fun _=>rfl
  rw[show(U (s.up d).p).k=(T s.p).k from(hU _ h).k]
theorem procs_alike(hU:∀j,Eq3 (U j) (T j)){f f':Nat}(hf:f≤f')(pr:List ByteArray)(s:PS)(ho:procsP T f pr s≠ .out):procsP U f' pr s=procsP T f pr s:=by
 have h:=procs_up (T:=T) (U:=U) (d:=0) (e:=Ee 1 (procsP T f pr s)) (fun j _=>by rw[Nat.zero_add];exact hU j) f f' hf pr s
 have h1:=h.eq ho (Nat.le_refl _)
 have e0:∀s:PS,s.up 0=s:=fun s=>by cases s;simp[PS.up]
 rw[e0]at h1
 rw[h1]
 cases procsP T f pr s<;>simp[PR.up,e0]
end
end Go.Proofs.Lx
/- Plain: tokens of statements' and procedures' texts are read as the statements and procedures. -/
namespace Go.Proofs.Lx
open Go Go.Proofs.YtjfkkokeegpeiaaGreatDoor
set_option maxRecDepth 100000
def bL(s:ByteArray):List UInt8:=s.data.toList
def NameOk(s:ByteArray):Prop:=resP s=false∧WordB s
def spB:List UInt8:=[32]
section
variable {T:Nat→Tkn}
theorem must_of{w:ByteArray}{s:PS}(h:(T s.p).t=w):mustP T w s= .ok () (adv s):=by
 unfold mustP isP
 rw[h,if_pos (by simp)]
theorem is_of{w:ByteArray}{s:PS}(h:(T s.p).t=w):isP T w s=true:=decide_eq_true h
theorem is_no{w v:ByteArray}{s:PS}(h:(T s.p).t=v)(hn:v≠w):isP T w s=false:=by
 unfold isP
 rw[h]
 exact decide_eq_false hn
theorem opens_of{w:ByteArray}{s:PS}(h:(T s.p).t=w)(ho:s.o<12):opensP T w s= .ok () {s with p:=s.p+1,o:=s.o+1}:=by
 unfold opensP isP
 rw[h,if_pos (by simp),if_neg (by omega)]
theorem name_of{s:PS}{y:ByteArray}(k1:(T s.p).k=1)(k2:(T s.p).t=y)(hr:resP y=false):nameP T s= .ok y (adv s):=by
 unfold nameP
 rw[k1,k2,hr,if_neg (by decide)]
theorem fol_of{x:Tkn}{w:ByteArray}(lv:Nat)(h1:1≤lv)(h:x.t=w)(hl:levP w=0)(hu:unitP w=false):Fol lv x∧¬(levP x.t=lv∧x.k=3):=by
 refine⟨⟨fun _=>⟨by rw[h,hl];omega,fun _=>by rw[h,hl];decide⟩,fun g=>?_⟩,fun g=>?_⟩
 ·rw[h,hu]at g;exact absurd g.2 (by decide)
 ·rw[h,hl]at g;omega
theorem expr_of{t:Tr}{x:List UInt8}{l:List Tkn}{d:Nat}(h:Pr t x l d){s:PS}{w:ByteArray}(hA:At T s.p l)(hd:s.o+d≤12)(hw:(T (s.p+l.length)).t=w)(hl:levP w=0)(hu:unitP w=false):Ex T 1 s t (go s l.length):=by
 obtain⟨f1,f2⟩:=fol_of (x:=T (s.p+l.length)) 1 (Nat.le_refl _) hw hl hu
 exact read_expr h s 1 (Nat.le_refl _) (by decide) (lvT_rng h).1 hA hd f1 t _ (ops_stop f2)
theorem evc{α:Type}{r r':PR α}(h:r=r'):Ev (fun _=>r) r':=by rw[h];exact Ev.const
theorem end_of{n:Tr}{s:PS}(h:(T s.p).t=sSemi):endP T n s= .ok n (adv s):=by
 unfold endP
 rw[must_of h]
 rfl
def Ok1(s:PS)(v:List ByteArray):Prop:=(s.vs++v).Nodup∧(s.vs++v).length≤12
theorem Ok1.left{s:PS}{v w:List ByteArray}(h:Ok1 s (v++w)):Ok1 s v:=by
 obtain⟨h1,h2⟩:=h
 rw[←List.append_assoc]at h1 h2
 exact⟨(List.nodup_append.1 h1).1,by rw[List.length_append]at h2;omega⟩
theorem Ok1.right{s s':PS}{v w:List ByteArray}(h:Ok1 s (v++w))(e:s'.vs=s.vs++v):Ok1 s' w:=by
 unfold Ok1 at h⊢
 rw[e,List.append_assoc]
 exact h
end
end Go.Proofs.Lx
/- Plain: the text of procedures has its tokens; what is printed is read. -/
namespace Go.Proofs.Lx
open Go Go.Proofs.YtjfkkokeegpeiaaGreatDoor
set_option maxRecDepth 100000
theorem ls_key{w:ByteArray}(hw:inP keywords w=true){r:List UInt8}{m:List Tkn}(h:Ls r m):Ls (bL w++32::r) (tkW w::m):=ls_word (key_wordB w (inP_iff.1 hw)) (sep_cons (by decide)) (ls_space h)
theorem same_at{s:ByteArray}{ts l:List Tkn}(h:Same3 ts l):At (tokAt s ts) 0 l:=by
 have key:∀{ts l:List Tkn},Same3 ts l→∀(T:Nat→Tkn) (p:Nat),(∀j (hj:j<ts.length),T (p+j)=ts[j])→At T p l:=by
  intro ts l h
  induction h with
  |nil=>intro T p _;trivial
  |cons h1 _ ih=>
   intro T p hT
   have h0:=hT 0 (by simp)
   refine⟨?_,ih T (p+1) fun j hj=>?_⟩
   ·rw[Nat.add_zero]at h0
    rw[h0];exact h1
   ·have:=hT (j+1) (by simpa using hj)
    rw[show p+1+j=p+(j+1)by omega,this]
    rfl
 refine key h _ 0 fun j hj=>?_
 unfold tokAt
 rw[Nat.zero_add,List.getD_eq_getElem?_getD,List.getElem?_eq_getElem hj]
 rfl
theorem parse_toks{s:ByteArray}{l:List Tkn}{cs:List Prc}(hl:Ls s.data.toList l)(hs:s.size≤4000)(h:∀T:Nat→Tkn,At T 0 l→(T l.length).k=0→∃s',Ev (fun f=>procsP T f [] ⟨0,0,[]⟩) (.ok cs s')):ParseR s (cs,0,0):=by
 obtain⟨ts,h1,h2⟩:=ls_tokens hl hs
 have hN:=tokN_tok (s:=s) (acc:=ts) h1
 have hend:(tokAt s ts l.length).k=0:=by
  unfold tokAt
  rw[List.getD_eq_getElem?_getD,List.getElem?_eq_none (by rw[h2.len];exact Nat.le_refl _)]
  rfl
 obtain⟨s',f0,hf⟩:=h (tokAt s ts) (same_at h2) hend
 have hr:=parse_law s
 have e:procsP (tokAt s ts) fuelP [] ⟨0,0,[]⟩= .ok cs s':=by
  obtain⟨r,hr,_⟩:=parse_law s
  have hno:procsP (tokAt s ts) fuelP [] ⟨0,0,[]⟩≠ .out:=by
   cases hr with
   |lex p e g1 g2=>exact absurd (congrArg (fun r=>r.2.2) (tokR_det g1 h1)) g2
   |ok acc l s'' g1 g2 g3=>
    obtain rfl:=acc_inj h1 g1
    rw[g3];intro e;cases e
   |err acc p c g1 g2 g3 g4=>
    obtain rfl:=acc_inj h1 g1
    rw[g4];intro e;cases e
  have:=procs_alike (T:=tokAt s ts) (U:=tokAt s ts) (fun j=>⟨rfl,rfl,rfl⟩) (Nat.le_max_right f0 fuelP) [] ⟨0,0,[]⟩ hno
  rw[←this]
  exact hf _ (Nat.le_max_left _ _)
 exact .ok ts cs s' h1 hN e
end Go.Proofs.Lx
/- The law of Parens, lifted. -/
namespace Go.Proofs.YtjfkkokeegpeiaaGreatDoor
open Go Go.Am Go.Proofs Go.Proofs.Lx
set_option maxRecDepth 100000
def reqC(t:Tr):Prc:=⟨⟨#[112]⟩,[],.node 14 0 ⟨#[]⟩ [.node 7 0 ⟨#[]⟩ [t]]⟩
abbrev a_ParseQ:Type:=ByteArray
abbrev g_ParseQ:Type:=Int×Int×ByteArray×Nat×FL
def A_ParseQ:AR a_ParseQ:=fun x=>([st x],[])
def d_ParseQ(t:TT):a_ParseQ:=(vS (ag t 0))
theorem v_ParseQ:VI A_ParseQ:=vd d_ParseQ fun _=>rfl
def R_ParseQ:g_ParseQ→CRes:=fun z=>.ret (.tup [.ro 6 1 (fun _=>[st ⟨#[112]⟩,.ro 2 0 (fun _=>[]),i64 14,i64 0,st ⟨#[]⟩,.ro 4 1 (fun _=>[i64 7,i64 0,st ⟨#[]⟩,.ro 4 1 (fun _=>[i64 z.1,i64 z.2.1,st z.2.2.1,.ro 4 z.2.2.2.1 z.2.2.2.2])])]),i64 0,i64 0]) []
noncomputable def ParseQ(q:Nat)(x:a_ParseQ):Option g_ParseQ:=@dite _ (∃t:Tr,ParseR x ([reqC t],0,0)) (Classical.propDecidable _) (fun h=>some (eT (Classical.choose h))) (fun _=>none)
theorem sc_ParseQ(q:Nat):Lw E5 8 A_ParseQ R_ParseQ (ParseQ q):=by
 intro x z h
 unfold ParseQ at h
 split at h
 ·rename_i hc
  cases h
  have h1:=Classical.choose_spec hc
  obtain⟨r,h2,h3⟩:=parse_law x
  obtain rfl:=parseR_det h1 h2
  generalize Classical.choose hc=t at*
  refine SC.le h3 (Le.tup (LeL.cons ?_ (LeL.refl _)))
  refine Le.ro fun j hj=>⟨?_,by simp[pureL,V.pure]⟩
  obtain rfl:j=0:=by simp at hj;omega
  refine LeL.cons (Le.refl _) (LeL.cons (Le.ro fun i hi=>absurd hi (Nat.not_lt_zero i)) (LeL.cons (Le.refl _) (LeL.cons (Le.refl _) (LeL.cons (Le.refl _) (LeL.cons (Le.ro fun i hi=>⟨?_,by simp[pureL,V.pure]⟩) LeL.nil)))))
  obtain rfl:i=0:=by simp at hi;omega
  refine LeL.cons (Le.refl _) (LeL.cons (Le.refl _) (LeL.cons (Le.refl _) (LeL.cons (Le.ro fun i hi=>⟨?_,by simp[pureL,V.pure]⟩) LeL.nil)))
  obtain rfl:i=0:=by simp at hi;omega
  have e:=cells_eT t
  simp only[cellsL,List.getD_cons_zero]at e⊢
  rw[e]
  exact LeL.refl _
 ·cases h
abbrev a_required:Type:=ByteArray
abbrev g_required:Type:=Int×Int×ByteArray×Nat×FL×Bool
def A_required:AR a_required:=fun x=>([st x],[])
def d_required(t:TT):a_required:=(vS (ag t 0))
theorem v_required:VI A_required:=vd d_required fun _=>rfl
def R_required:g_required→CRes:=fun z=>.ret (.tup [.agg [i64 z.1,i64 z.2.1,st z.2.2.1,.ro 4 z.2.2.2.1 z.2.2.2.2.1],bo z.2.2.2.2.2]) []
def t_required{β:Type}(c_ParseQ:a_ParseQ→Option g_ParseQ)(x:a_required)(dn:g_required→Option β):Option β:=
 if 24+x.size≤maxLen then if ByteArray.size (⟨#[112,114,111,99,101,100,117,114,101,32,112,40,41,32,123,32,114,101,113,117,105,114,101,32]⟩++x)+3≤maxLen then(c_ParseQ (⟨#[112,114,111,99,101,100,117,114,101,32,112,40,41,32,123,32,114,101,113,117,105,114,101,32]⟩++x++⟨#[59,32,125]⟩)).bind fun z1=>dn (z1.1,z1.2.1,z1.2.2.1,z1.2.2.2.1,z1.2.2.2.2,true)else none else none
theorem n_required{β:Type}(c_ParseQ)(x)(dn:g_required→Option β):t_required c_ParseQ x dn=(t_required c_ParseQ x some).bind dn:=by
 unfold t_required
 repeat' first|exact n0|refine n1 fun _=>?_|refine n2 ?_ ?_|refine n3 (fun _=>?_) fun _=>?_|rfl
theorem r_required(c_ParseQ)(x):callK E5 (ftb 8 A_ParseQ R_ParseQ c_ParseQ ca0) lo0 18 (A_required x).1 (A_required x).2 K=t_required (vf A_ParseQ c_ParseQ) x (fun z=>some (.c (R_required z))):=by kernel_rfl
noncomputable def required(q:Nat)(x:a_required):Option g_required:=t_required (ParseQ q) x some
theorem sc_required(q:Nat):Lw E5 18 A_required R_required (required q):=sof hW5 hX5 (fk (sc_ParseQ q) ca0_sound) (fun _=>lo0_sound) fun x=>(r_required (ParseQ q) x).trans (by rw[v_ParseQ,n_required]<;>rfl)
abbrev a_SameX:Type:=Int×Int×ByteArray×Nat×FL×Int×Int×ByteArray×Nat×FL
abbrev g_SameX:Type:=Bool
def A_SameX:AR a_SameX:=fun x=>([.agg [i64 x.1,i64 x.2.1,st x.2.2.1,.ro 4 x.2.2.2.1 x.2.2.2.2.1],.agg [i64 x.2.2.2.2.2.1,i64 x.2.2.2.2.2.2.1,st x.2.2.2.2.2.2.2.1,.ro 4 x.2.2.2.2.2.2.2.2.1 x.2.2.2.2.2.2.2.2.2]],[])
def d_SameX(t:TT):a_SameX:=((vI (ca t 0 0)),vI (ca t 0 1),vS (ca t 0 2),vRoN (ca t 0 3),vRoF (ca t 0 3),vI (ca t 1 0),vI (ca t 1 1),vS (ca t 1 2),vRoN (ca t 1 3),vRoF (ca t 1 3))
theorem v_SameX:VI A_SameX:=vd d_SameX fun _=>rfl
def R_SameX:g_SameX→CRes:=fun z=>.ret (bo z) []
noncomputable def SameX(q:Nat)(x:a_SameX):Option g_SameX:=@ite _ (∃t:Tr,RepN t (x.1,x.2.1,x.2.2.1,x.2.2.2.1,x.2.2.2.2.1)∧RepN t x.2.2.2.2.2∧szT t≤1000000) (Classical.propDecidable _) (some true) none
theorem sc_SameX(q:Nat):Lw E5 19 A_SameX R_SameX (SameX q):=by
 intro x z h
 unfold SameX at h
 split at h
 ·rename_i hc
  cases h
  obtain⟨t,h1,h2,h3⟩:=hc
  obtain⟨b,e,hb⟩:=same_rs (szT t+1) t t (Nat.lt_succ_self _) (by simp only[szL];omega)
  obtain rfl:=hb.2 rfl
  have h6:=sc_Same _ _ _ e
  have h7:=leT _ _ h1
  have h8:=leT _ _ h2
  rw[cells_eT]at h7 h8
  exact SC.arg h6 (LeL.cons (Le.agg h7) (LeL.cons (Le.agg h8) LeL.nil)) rfl rfl
 ·cases h
abbrev a_LParens:Type:=Nat×FI
abbrev g_LParens:Type:=Bool
def A_LParens:AR a_LParens:=fun x=>([.ro 1 x.1 (fun j=>[i64 (x.2 j)])],[])
def R_LParens:g_LParens→CRes:=fun z=>.ret (bo z) []
def t_LParens{β:Type}(c_tree:a_tree→Option g_tree)(c_ExprV:a_ExprV→Option g_ExprV)(c_required:a_required→Option g_required)(c_SameX:a_SameX→Option g_SameX)(c_Lives:a_Lives→Option g_Lives)(x:a_LParens)(dn:g_LParens→Option β):Option β:=
 (c_tree (x.1,x.2,3)).bind fun z3=>(c_ExprV z3).bind fun z9=>(c_required z9).bind fun z11=>if 1+z9.size≤maxLen then if ByteArray.size (⟨#[40]⟩++z9)+1≤maxLen then(c_required (⟨#[40]⟩++z9++⟨#[41]⟩)).bind fun z13=>if 2+z9.size≤maxLen then if ByteArray.size (⟨#[40,40]⟩++z9)+2≤maxLen then(c_required (⟨#[40,40]⟩++z9++⟨#[41,41]⟩)).bind fun z15=>if z11.2.2.2.2.2=true then if z13.2.2.2.2.2=true then if z15.2.2.2.2.2=true then(c_SameX (z11.1,z11.2.1,z11.2.2.1,z11.2.2.2.1,z11.2.2.2.2.1,z3)).bind fun z26=>if z26=true then(c_SameX (z13.1,z13.2.1,z13.2.2.1,z13.2.2.2.1,z13.2.2.2.2.1,z3)).bind fun z37=>if z37=true then(c_SameX (z15.1,z15.2.1,z15.2.2.1,z15.2.2.2.1,z15.2.2.2.2.1,z3)).bind fun z48=>if z48=true then(c_Lives ()).bind fun z49=>dn z49 else dn false else dn false else dn false else dn false else dn false else dn false else none else none else none else none
theorem n_LParens{β:Type}(c_tree c_ExprV)(c_required c_SameX c_Lives)(x)(dn:g_LParens→Option β):t_LParens c_tree c_ExprV c_required c_SameX c_Lives x dn=(t_LParens c_tree c_ExprV c_required c_SameX c_Lives x some).bind dn:=by
 unfold t_LParens
 repeat' first|exact n0|refine n1 fun _=>?_|refine n2 ?_ ?_|refine n3 (fun _=>?_) fun _=>?_|rfl
theorem r_LParens(c_tree c_ExprV)(c_required c_SameX c_Lives)(x):callK E5 (ftb 15 A_tree R_tree c_tree (ftb 16 A_ExprV R_ExprV c_ExprV (ftb 18 A_required R_required c_required (ftb 19 A_SameX R_SameX c_SameX (ftb 11 A_Lives R_Lives c_Lives ca0))))) lo0 7 (A_LParens x).1 (A_LParens x).2 K=t_LParens (vf A_tree c_tree) (vf A_ExprV c_ExprV) (vf A_required c_required) (vf A_SameX c_SameX) (vf A_Lives c_Lives) x (fun z=>some (.c (R_LParens z))):=by kernel_rfl
noncomputable def LParens(q:Nat)(x:a_LParens):Option g_LParens:=t_LParens (tree q) (ExprV q) (required q) (SameX q) (Lives q) x some
theorem sc_LParens(q:Nat):Lw E5 7 A_LParens R_LParens (LParens q):=sof hW5 hX5 (fk (sc_tree q) (fk (sc_ExprV q) (fk (sc_required q) (fk (sc_SameX q) (fk (sc_Lives q) ca0_sound))))) (fun _=>lo0_sound) fun x=>(r_LParens (tree q) (ExprV q) (required q) (SameX q) (Lives q) x).trans (by rw[v_tree,v_ExprV,v_required,v_SameX,v_Lives,n_LParens]<;>rfl)
end Go.Proofs.YtjfkkokeegpeiaaGreatDoor
/- The law of Parens: the text of an expression, in some parentheses, is read as the expression. -/
namespace Go.Proofs.YtjfkkokeegpeiaaGreatDoor
open Go Go.Am Go.Proofs.Lx
set_option maxRecDepth 100000
theorem mWord_ok:∀s∈mWords,NameOk s:=by
 intro s hs
 have:∀s∈mWords,Lx.resP s=false∧s.size≤12∧(s.data.toList.headD 0::s.data.toList.tail=s.data.toList)∧letterI (s.data.toList.headD 0).toNat=true∧∀b∈s.data.toList,wordI b.toNat=true:=by decide
 obtain⟨h0,h1,h2,h3,h4⟩:=this s hs
 exact⟨h0,h1,_,_,h2.symm,h3,by rw[h2];exact h4⟩
theorem mUnit_ok(s:ByteArray)(h:s∈mUnits):s=⟨#[]⟩∨s∈unitsL:=((show∀s∈mUnits,s=⟨#[]⟩∨inP unitsL s=true by decide) s h).imp_right inP_iff.1
theorem Mk.pr{d:Nat}{t:Tr}(h:Mk d t):∃x l e,Pr t x l e∧e≤2*d:=by
 have hp:∀lv t e,parD lv t e≤e+1:=by intro lv t e;unfold parD;split<;>omega
 induction h with
 |int d n s h0 h1 h2=>
  rcases mUnit_ok s h2 with rfl|h2
  ·exact⟨_,_,_,.lit n h0 h1,by omega⟩
  ·exact⟨_,_,_,.qty n s h0 h1 h2,by omega⟩
 |var d s h=>exact⟨_,_,_,.var s (mWord_ok s h).1 (mWord_ok s h).2,by omega⟩
 |tlm d s h=>exact⟨_,_,_,.tlm s (mWord_ok s h).1 (mWord_ok s h).2,by omega⟩
 |bool d n h=>
  rcases h with rfl|rfl
  ·exact⟨_,_,_,.no,by omega⟩
  ·exact⟨_,_,_,.yes,by omega⟩
 |un d s a h _ ih=>
  obtain⟨x,l,e,hP,he⟩:=ih
  have:=hp (lvT (.node 19 0 s [a])) a e
  exact⟨_,_,_,.un s a x l e h hP,by omega⟩
 |bin d s a b h _ _ ih1 ih2=>
  obtain⟨x,l,e,hP,he⟩:=ih1
  obtain⟨y,m,f,hQ,hf⟩:=ih2
  have h1:=hp (if levP s=4 then 5 else levP s) a e
  have h2:=hp (levP s+1) b f
  exact⟨_,_,_,.bin s a b x y l m e f h hP hQ,by omega⟩
theorem mkB_app(a b:List UInt8):mkB (a++b)=mkB a++mkB b:=ba_ext (by rw[mkB_list,ByteArray.data_append,Array.toList_append,mkB_list,mkB_list])
theorem par_mk(lv:Nat)(t:Tr)(x:List UInt8):mkB (parB lv t x)=par lv t (mkB x):=by
 unfold parB par
 split
 ·rw[show(40::(x++[41]))=[40]++x++[41]by simp,mkB_app,mkB_app];rfl
 ·rfl
theorem unit_ne:∀s∈unitsL,s≠⟨#[]⟩∧s.size≤12:=by decide
theorem pr_txt{t:Tr}{x:List UInt8}{l:List Tkn}{d:Nat}(h:Pr t x l d):Txt t (mkB x):=by
 induction h with
 |lit n h0 h1=>have:=Txt.int n ⟨#[]⟩ h0 h1 (by decide);rw[if_pos rfl]at this;rw[mkB_self];exact this
 |qty n s h0 h1 hs=>
  have:=Txt.int n s h0 h1 (unit_ne s hs).2
  rw[if_neg (unit_ne s hs).1]at this
  have e:mkB ((itS n).data.toList++32::s.data.toList)=itS n++⟨#[32]⟩++s:=by
   rw[show(itS n).data.toList++32::s.data.toList=(itS n).data.toList++[32]++s.data.toList by simp,mkB_app,mkB_app,mkB_self,mkB_self];rfl
  rw[e];exact this
 |yes=>have:=Txt.bool 1 ⟨#[]⟩;rw[if_pos rfl]at this;rw[mkB_self];exact this
 |no=>have:=Txt.bool 0 ⟨#[]⟩;rw[if_neg (by decide)]at this;rw[mkB_self];exact this
 |var s _ hw=>rw[mkB_self];exact Txt.var 0 s hw.1
 |tlm s _ hw=>
  have:=Txt.tlm 0 s hw.1
  have e:mkB (116::108::109::46::s.data.toList)=⟨#[116,108,109,46]⟩++s:=by
   rw[show(116::108::109::46::s.data.toList)=[116,108,109,46]++s.data.toList by rfl,mkB_app,mkB_self];rfl
  rw[e];exact this
 |un s a x l d hs _ ih=>
  rw[mkB_app,mkB_self,par_mk]
  exact Txt.un 0 s a (mkB x) hs ih
 |bin s a b x y l m d e hs _ _ ih1 ih2=>
  have:=Txt.bin 0 s a b (mkB x) (mkB y) hs ih1 ih2
  rw[←par_mk,←par_mk]at this
  have e:∀u v:List UInt8,mkB (u++32::(s.data.toList++32::v))=mkB u++⟨#[32]⟩++s++⟨#[32]⟩++mkB v:=by
   intro u v
   rw[show u++32::(s.data.toList++32::v)=u++[32]++s.data.toList++[32]++v by simp,mkB_app,mkB_app,mkB_app,mkB_app,mkB_self];rfl
  rw[e];exact this
theorem txt_det{t:Tr}{x y:ByteArray}(h:Txt t x):Txt t y→x=y:=by
 induction h generalizing y with
 |int n s h0 h1 h2=>intro g;cases g;rfl
 |bool n s=>intro g;cases g;rfl
 |var n s h=>intro g;cases g;rfl
 |tlm n s h=>intro g;cases g;rfl
 |un n s a x hs _ ih=>
  intro g
  cases g with
  |un _ _ _ x' _ g=>rw[ih g]
 |bin n s a b x1 x2 hs _ _ ih1 ih2=>
  intro g
  cases g with
  |bin _ _ _ _ y1 y2 _ g1 g2=>rw[ih1 g1,ih2 g2]
mutual
theorem rep_inj:∀(t u:Tr) (x:NodeT),RepN t x→RepN u x→t=u
 | .node k n s l,.node k' n' s' l',x,h,g=>by
  simp only[RepN]at h g
  obtain⟨h1,h2,h3,h4,h5⟩:=h
  obtain⟨g1,g2,g3,g4,g5⟩:=g
  rw[reps_inj l l' _ 0 (by omega) h5 g5]
  congr 1
  ·exact h1.symm.trans g1
  ·exact h2.symm.trans g2
  ·exact h3.symm.trans g3
theorem reps_inj:∀(l m:List Tr) (f:FL) (i:Nat),l.length=m.length→RepL l f i→RepL m f i→l=m
 | [],[],f,i,_,_,_=>rfl
 | [],_::_,f,i,e,_,_=>by simp at e
 |_::_,[],f,i,e,_,_=>by simp at e
 |t::l,u::m,f,i,e,h,g=>by
  simp only[RepL]at h g
  obtain⟨⟨y,h1,h2⟩,h3⟩:=h
  obtain⟨⟨z,g1,g2⟩,g3⟩:=g
  have hyz:y=z:=by
   rw[h1]at g1
   simp only[List.cons.injEq,i64,st,V.sc.injEq,Value.int.injEq,Value.string.injEq,V.ro.injEq,and_true,true_and]at g1
   obtain⟨e1,e2,e3,e4,e5⟩:=g1
   exact Prod.ext e1 (Prod.ext e2 (Prod.ext e3 (Prod.ext e4 e5)))
  subst hyz
  rw[rep_inj t u y h2 g2,reps_inj l m f (i+1) (by simpa using e) h3 g3]
end
theorem exprV_ok(q:Nat){t:Tr}{b:ByteArray}{z:NodeT}(h:Txt t b)(hr:RepN t z)(hs:szT t≤1000000):ExprV q z=some b:=by
 have hE:∃p:Tr×ByteArray,Txt p.1 p.2∧RepN p.1 z∧szT p.1≤1000000:=⟨(t,b),h,hr,hs⟩
 have e:(Classical.choose hE).2=b:=by
  obtain⟨h1,h2,_⟩:=Classical.choose_spec hE
  have:=rep_inj _ _ _ h2 hr
  rw[this]at h1
  exact txt_det h1 h
 unfold ExprV
 rw[←e]
 exact dif_pos hE
theorem parseQ_ok(q:Nat){t:Tr}{s:ByteArray}(h:ParseR s ([reqC t],0,0)):ParseQ q s=some (eT t):=by
 have hE:∃t:Tr,ParseR s ([reqC t],0,0):=⟨t,h⟩
 have e:Classical.choose hE=t:=by
  have:=parseR_det (Classical.choose_spec hE) h
  simp only[reqC,Prod.mk.injEq,List.cons.injEq,Prc.mk.injEq,Tr.node.injEq,and_true,true_and]at this
  exact this
 unfold ParseQ
 rw[dif_pos hE,e]
structure Rdb(t:Tr)(y:List UInt8)(m:List Tkn)(d:Nat):Prop where
 hd:Hd y
 lx:∀(r:List UInt8) (k:List Tkn),Sep r→NoEq r→Ls r k→Ls (y++r) (m++k)
 rd:∀(T:Nat→Tkn) (s:PS),At T s.p m→s.o+d≤12→∀w,(T (s.p+m.length)).t=w→levP w=0→unitP w=false→Ex T 1 s t (go s m.length)
theorem Rdb.of{t:Tr}{x:List UInt8}{l:List Tkn}{d:Nat}(h:Pr t x l d):Rdb t x l d:=
 ⟨pr_head h,pr_lex h,fun T s hA hd w h1 h2 h3=>expr_of h hA hd h1 h2 h3⟩
theorem Rdb.paren{t:Tr}{x:List UInt8}{l:List Tkn}{d:Nat}(h:Rdb t x l d):Rdb t (40::(x++[41])) (tkY sLPar::(l++[tkY sRPar])) (d+1):=by
 refine⟨⟨_,_,rfl,by decide⟩,fun r k hs hq g=>?_,fun T s hA hd w h1 h2 h3=>?_⟩
 ·have h1:=h.lx _ _ (sep_cons (c:=41) (by decide)) (noeq_cons (by decide)) (ls_one (c:=41) (by decide) hq g)
  have h2:=ls_one (c:=40) (by decide) (hd_noeq (hd_app h.hd)) h1
  have e1:40::(x++[41])++r=40::(x++41::r):=by simp
  have e2:tkY sLPar::(l++[tkY sRPar])++k=tkY (mkB [40])::(l++tkY (mkB [41])::k):=by simp[mkB]
  rw[e1,e2];exact h2
 ·obtain⟨⟨k1,k2,_⟩,hA⟩:=hA
  obtain⟨hA,⟨_,k5,_⟩,_⟩:=hA.app
  have hin:=h.rd T {s with p:=s.p+1,o:=s.o+1} hA (by show s.o+1+d≤12;omega) sRPar k5 (by decide) (by decide)
  have hp:=ex_paren k1 k2 (by omega) hin k5
  have e1:closeP (adv (go {s with p:=s.p+1,o:=s.o+1} l.length))=go s (tkY sLPar::(l++[tkY sRPar])).length:=by
   simp only[closeP,adv,go,List.length_cons,List.length_append,List.length_nil]
   congr 1<;>omega
  rw[e1]at hp
  obtain⟨f1,f2⟩:=fol_of (x:=T (s.p+(tkY sLPar::(l++[tkY sRPar])).length)) 1 (Nat.le_refl _) h1 h2 h3
  exact read_leaf (Nat.le_refl _) (by decide) hp (by rw[k2];decide) (by rw[k2];decide) f1 t _ (ops_stop f2)
theorem p_word:WordB ⟨#[112]⟩:=⟨by decide,112,[],rfl,by decide,by decide⟩
def src0:ByteArray:=⟨#[112,114,111,99,101,100,117,114,101,32,112,40,41,32,123,32,114,101,113,117,105,114,101,32]⟩
def src9:ByteArray:=⟨#[59,32,125]⟩
theorem req_parse{t:Tr}{y:List UInt8}{m:List Tkn}{d:Nat}(h:Rdb t y m d)(hd:d≤11){s:ByteArray}(he:s.data.toList=bL src0++(y++bL src9))(hs:s.size≤4000):ParseR s ([reqC t],0,0):=by
 have h1:Ls [59,32,125] [tkY sSemi,tkY sRBr]:=ls_one (c:=59) (by decide) (noeq_cons (by decide)) (ls_space (ls_one (c:=125) (by decide) (by intro c h;cases h) .nil))
 have h2:=ls_key (w:=w_require) (by decide) (h.lx _ _ (sep_cons (by decide)) (noeq_cons (by decide)) h1)
 have h3:=ls_word (s:=⟨#[112]⟩) p_word (sep_cons (c:=40) (by decide)) (ls_one (c:=40) (by decide) (noeq_cons (by decide)) (ls_one (c:=41) (by decide) (noeq_cons (by decide)) (ls_space (ls_one (c:=123) (by decide) (noeq_cons (by decide)) (ls_space h2)))))
 have h4:=ls_key (w:=w_procedure) (by decide) h3
 refine parse_toks (l:=tkW w_procedure::tkW ⟨#[112]⟩::tkY sLPar::tkY sRPar::tkY sLBr::tkW w_require::(m++[tkY sSemi,tkY sRBr])) ?_ hs ?_
 ·rw[he];exact h4
 ·intro T hA hk
  obtain⟨⟨_,k1,_⟩,⟨k2,k3,_⟩,⟨_,k4,_⟩,⟨_,k5,_⟩,⟨_,k6,_⟩,⟨_,k7,_⟩,hA⟩:=hA
  obtain⟨hA,⟨_,k8,_⟩,⟨_,k9,_⟩,_⟩:=hA.app
  have k8:(T (6+m.length)).t=sSemi:=k8
  have k9:(T (6+m.length+1)).t=sRBr:=k9
  have hex:=h.rd T {p:=6,o:=1,vs:=[]} hA (by show 1+d≤12;omega) sSemi k8 (by decide) (by decide)
  have k7:(T 5).t=w_require:=k7
  have hst:Ev (fun f=>stmtP T f {p:=5,o:=1,vs:=[]}) (.ok (.node 7 0 ⟨#[]⟩ [t]) {p:=6+m.length+1,o:=1,vs:=[]}):=by
   refine Ev.step (h:=fun f=>Lx.oneP T f 7 {p:=6,o:=1,vs:=[]}) (fun f=>?_) ?_
   ·have k2:(T ({p:=5,o:=1,vs:=[]}:PS).p).t=w_require:=k7
    rw[stmtP,is_no k2 (by decide),if_neg (by decide),is_no k2 (by decide),if_neg (by decide),is_no k2 (by decide),if_neg (by decide),is_no k2 (by decide),if_neg (by decide),is_no k2 (by decide),if_neg (by decide),is_no k2 (by decide),if_neg (by decide),if_pos (is_of k2)]
    rfl
   ·unfold Lx.oneP
    exact Ev.bind hex (evc (end_of (s:=go {p:=6,o:=1,vs:=[]} m.length) k8))
  have hsts:Ev (fun f=>stmtsP T f {p:=5,o:=1,vs:=[]}) (.ok [.node 7 0 ⟨#[]⟩ [t]] {p:=6+m.length+2,o:=1,vs:=[]}):=by
   refine Ev.step (h:=fun f=>(stmtP T f {p:=5,o:=1,vs:=[]}).bind fun n s1=>(stmtsP T f s1).bind fun l s2=>.ok (n::l) s2) (fun f=>by rw[stmtsP,if_neg (by rw[is_no (s:={p:=5,o:=1,vs:=[]}) k7 (by decide)];decide)]) ?_
   refine Ev.bind hst (Ev.bind (a:=([]:List Tr)) (s:={p:=6+m.length+2,o:=1,vs:=[]}) ?_ Ev.const)
   exact Ev.step (h:=fun f=>.ok [] {p:=6+m.length+2,o:=1,vs:=[]}) (fun f=>by rw[stmtsP,if_pos (is_of (s:={p:=6+m.length+1,o:=1,vs:=[]}) k9)];rfl) Ev.const
  have hbl:Ev (fun f=>blockP T f {p:=4,o:=0,vs:=[]}) (.ok (.node 14 0 ⟨#[]⟩ [.node 7 0 ⟨#[]⟩ [t]]) {p:=6+m.length+2,o:=0,vs:=[]}):=by
   refine Ev.step (h:=fun f=>(opensP T sLBr {p:=4,o:=0,vs:=[]}).bind fun _ s1=>(stmtsP T f s1).bind fun l s2=>.ok (.node 14 0 ⟨#[]⟩ l) (closeP s2)) (fun f=>by rw[blockP]) ?_
   exact Ev.bind (evc (opens_of (s:={p:=4,o:=0,vs:=[]}) k6 (by decide))) (Ev.bind hsts Ev.const)
  have hpr:Ev (fun f=>procP T f [] {p:=0,o:=0,vs:=[]}) (.ok (reqC t) {p:=6+m.length+2,o:=0,vs:=[]}):=by
   unfold procP
   refine Ev.bind (evc (must_of (s:={p:=0,o:=0,vs:=[]}) k1)) (Ev.bind (evc (name_of (s:={p:=1,o:=0,vs:=[]}) k2 k3 (by decide))) ?_)
   refine Ev.congr (fun f=>if_neg (by decide)) (Ev.bind (a:=([]:List Prm)) (s:={p:=4,o:=0,vs:=[]}) ?_ (Ev.bind hbl Ev.const))
   unfold paramsP
   refine Ev.bind (evc (must_of (s:={p:=2,o:=0,vs:=[]}) k4)) ?_
   exact Ev.congr (fun f=>if_pos (is_of (s:={p:=3,o:=0,vs:=[]}) k5)) (evc rfl)
  refine⟨{p:=6+m.length+2,o:=0,vs:=[]},Ev.step (h:=fun f=>(procP T f [] {p:=0,o:=0,vs:=[]}).bind fun x s1=>(procsP T f ([]++[x.x]) s1).bind fun l s2=>.ok (x::l) s2) (fun f=>?_) (Ev.bind hpr (Ev.bind (a:=([]:List Prc)) (s:={p:=6+m.length+2,o:=0,vs:=[]}) ?_ Ev.const))⟩
  ·have:(T 0).k=1:=by assumption
   rw[procsP,if_neg (by show¬(T 0).k=0;rw[this];decide)]
  ·refine Ev.step (h:=fun f=>.ok [] {p:=6+m.length+2,o:=0,vs:=[]}) (fun f=>?_) Ev.const
   rw[procsP,if_pos]
   have e:(tkW w_procedure::tkW ⟨#[112]⟩::tkY sLPar::tkY sRPar::tkY sLBr::tkW w_require::(m++[tkY sSemi,tkY sRBr])).length=6+m.length+2:=by simp only[List.length_cons,List.length_append,List.length_nil];omega
   rw[e]at hk
   exact hk
end Go.Proofs.YtjfkkokeegpeiaaGreatDoor
/- The law of Parens. -/
namespace Go.Proofs.YtjfkkokeegpeiaaGreatDoor
open Go Go.Am Go.Proofs.Lx
set_option maxRecDepth 100000
mutual
theorem rep_eT:∀t:Tr,RepN t (eT t)
 | .node k n s l=>by
  simp only[eT,RepN]
  exact⟨trivial,trivial,trivial,trivial,reps_cells l _ 0 fun j t h=>by rw[Nat.zero_add];exact cellsL_get l j t h⟩
theorem reps_cells:∀(l:List Tr) (f:FL) (i:Nat),(∀j t,l[j]? =some t→f (i+j)=cellsT t)→RepL l f i
 | [],f,i,_=>by simp[RepL]
 |t::l,f,i,h=>by
  simp only[RepL]
  refine⟨⟨eT t,?_,rep_eT t⟩,reps_cells l f (i+1) fun j u hj=>?_⟩
  ·have:=h 0 t rfl
   rw[Nat.add_zero]at this
   rw[this,cells_eT]
  ·have:=h (j+1) u (by simpa using hj)
   rw[show i+1+j=i+(j+1)by omega]
   exact this
end
theorem sameX_ok(q:Nat){t:Tr}{x y:NodeT}(h:RepN t x)(g:RepN t y)(hs:szT t≤1000000):SameX q (x.1,x.2.1,x.2.2.1,x.2.2.2.1,x.2.2.2.2,y)=some true:=by
 unfold SameX
 exact if_pos ⟨t,h,g,hs⟩
theorem required_ok(q:Nat){t:Tr}{y:List UInt8}{m:List Tkn}{d:Nat}(h:Rdb t y m d)(hd:d≤11){b:ByteArray}(he:b.data.toList=y)(hs:b.size≤3900):Rs (required q b) (fun z=>z=((eT t).1,(eT t).2.1,(eT t).2.2.1,(eT t).2.2.2.1,(eT t).2.2.2.2,true)):=by
 unfold required t_required
 have e1:ByteArray.size ((⟨#[112,114,111,99,101,100,117,114,101,32,112,40,41,32,123,32,114,101,113,117,105,114,101,32]⟩:ByteArray)++b)=24+b.size:=by rw[ByteArray.size_append];rfl
 refine Rs.pos (by unfold maxLen;omega) (Rs.pos (by rw[e1];unfold maxLen;omega) ?_)
 refine Rs.bind (Rs.of (parseQ_ok q (req_parse h hd ?_ ?_))) fun z hz=>Rs.some (by rw[hz])
 ·rw[ByteArray.data_append,ByteArray.data_append,Array.toList_append,Array.toList_append,he,List.append_assoc]
  rfl
 ·rw[ByteArray.size_append,e1]
  show 24+b.size+3≤4000
  omega
theorem parens_true{ln:Nat}{lf:Nat→Int}(hr:RngM ln lf):LParens 100 (ln,lf)=some true:=by
 refine Rs.eq ?_
 unfold LParens t_LParens
 refine Rs.bind (tree_rs 100 hr 3 (by decide) (by decide)) fun z hz=>?_
 obtain⟨t,h1,h2⟩:=hz
 obtain⟨x,l,d,hP,hd⟩:=h1.pr
 have hs:=h1.size
 have hT:=pr_txt hP
 refine Rs.bind (Rs.of (exprV_ok 100 hT h2 (by omega))) fun b hb=>?_
 have hsz:=txt_size hT
 rw[←hb]at hsz
 have hl:b.data.toList=x:=by rw[hb,mkB_list]
 clear hb
 have R0:=Rdb.of hP
 have R1:=R0.paren
 have R2:=R1.paren
 have s1:ByteArray.size ((⟨#[40]⟩:ByteArray)++b)=1+b.size:=by rw[ByteArray.size_append];rfl
 have s2:ByteArray.size ((⟨#[40,40]⟩:ByteArray)++b)=2+b.size:=by rw[ByteArray.size_append];rfl
 have e1:((⟨#[40]⟩:ByteArray)++b++⟨#[41]⟩).data.toList=40::(x++[41]):=by
  rw[ByteArray.data_append,ByteArray.data_append,Array.toList_append,Array.toList_append,hl];rfl
 have e2:((⟨#[40,40]⟩:ByteArray)++b++⟨#[41,41]⟩).data.toList=40::(40::(x++[41])++[41]):=by
  rw[ByteArray.data_append,ByteArray.data_append,Array.toList_append,Array.toList_append,hl];simp
 refine Rs.bind (required_ok 100 R0 (by omega) hl (by omega)) fun z1 g1=>?_
 refine Rs.pos (by unfold maxLen;omega) (Rs.pos (by rw[s1];unfold maxLen;omega) ?_)
 refine Rs.bind (required_ok 100 R1 (by omega) e1 (by rw[ByteArray.size_append,s1];show 1+b.size+1≤3900;omega)) fun z2 g2=>?_
 refine Rs.pos (by unfold maxLen;omega) (Rs.pos (by rw[s2];unfold maxLen;omega) ?_)
 refine Rs.bind (required_ok 100 R2 (by omega) e2 (by rw[ByteArray.size_append,s2];show 2+b.size+2≤3900;omega)) fun z3 g3=>?_
 subst g1 g2 g3
 have hX:=sameX_ok 100 (rep_eT t) h2 (by omega)
 refine Rs.pos rfl (Rs.pos rfl (Rs.pos rfl ?_))
 refine Rs.bind (Rs.of hX) fun b1 k1=>Rs.pos k1 (Rs.bind (Rs.of hX) fun b2 k2=>Rs.pos k2 (Rs.bind (Rs.of hX) fun b3 k3=>Rs.pos k3 ?_))
 exact Rs.bind (Rs.of (lives_true 100)) fun z hz=>Rs.some hz
theorem parserParens(v0:V)(h0:WTV E.P 29 v0):∃l',LeL [v0] l'∧SC E 7 l' [] (.ret (bo true) []):=by
 obtain⟨m,y,g1,hy⟩:=in_ints h0
 exact⟨_,LeL.cons g1 LeL.nil,sc5.1 (sc_LParens 100 _ _ (parens_true hy))⟩
end Go.Proofs.YtjfkkokeegpeiaaGreatDoor

