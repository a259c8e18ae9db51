/- Texts joined. -/
import Derived.Test.YtcijknknahbbnaaGreatDoorQD
/- Statements, lifted. -/
set_option linter.unusedSimpArgs false
set_option linter.unusedVariables false
namespace Go.Proofs.YtcijknknahbbnaaGreatDoor
open Go Go.Am Go.Proofs
set_option maxRecDepth 100000
abbrev ar4:Type:=SP
abbrev pD:Type:=(Int×Int×ByteArray×Int×Int×ByteArray×Nat×FL×SP)⊕(Int×Int)
def ar8:AR ar4:=fun x=>([.ptr 0 0],(hHP x))
def as2:pD→CRes:=Sum.elim (fun z:Int×Int×ByteArray×Int×Int×ByteArray×Nat×FL×SP=>.ret (.agg [i64 z.1,i64 z.2.1,st z.2.2.1,.sl 3 4 0 1]) [some (.blk [.ro 4 z.2.2.2.2.2.2.2.2.2.2.1 (fun j=>[i64 (z.2.2.2.2.2.2.2.2.2.2.2.1 j),i64 (z.2.2.2.2.2.2.2.2.2.2.2.2.1 j),st (z.2.2.2.2.2.2.2.2.2.2.2.2.2.1 j),i64 (z.2.2.2.2.2.2.2.2.2.2.2.2.2.2.1 j)]),i64 z.2.2.2.2.2.2.2.2.1,i64 z.2.2.2.2.2.2.2.2.2.1,.sl 1 1 0 z.2.2.2.2.2.2.2.2.2.2.2.2.2.2.2.1,.sl 2 1 0 z.2.2.2.2.2.2.2.2.2.2.2.2.2.2.2.2.2.1]),some (.row 9 1 z.2.2.2.2.2.2.2.2.2.2.2.2.2.2.2.1 (fun j=>[st (z.2.2.2.2.2.2.2.2.2.2.2.2.2.2.2.2.1 j)])),some (.row 9 1 z.2.2.2.2.2.2.2.2.2.2.2.2.2.2.2.2.2.1 (fun j=>[st (z.2.2.2.2.2.2.2.2.2.2.2.2.2.2.2.2.2.2 j)])),some (.row 46 4 1 (mP [[i64 z.2.2.2.1,i64 z.2.2.2.2.1,st z.2.2.2.2.2.1,.ro 4 z.2.2.2.2.2.2.1 z.2.2.2.2.2.2.2.1]]))]) (fun z:Int×Int=>.pan (.ifc 67 (.agg [i64 z.1,i64 z.2])))
def pF{β:Type}(c_name:nN→Option nT)(c_must:eU→Option fD)(c_expr:iL→Option iM)(x:ar4)(dn:pD→Option β):Option β:=
 (c_name x).bind fun z11=>Sum.elim (fun z11a=>(c_must (⟨#[61]⟩,z11a.2)).bind fun z24=>Sum.elim (fun z24a=>(c_expr (1,z24a)).bind fun z37=>Sum.elim (fun z37a=>dn (.inl (2,0,z11a.1,z37a))) (fun z37b=>dn (.inr z37b)) z37) (fun z24b=>dn (.inr z24b)) z24) (fun z11b=>dn (.inr z11b)) z11
theorem dw3{β:Type}(c_name c_must c_expr)(x)(dn:pD→Option β):pF c_name c_must c_expr x dn=(pF c_name c_must c_expr x some).bind dn:=by
 unfold pF
 repeat' first|exact n0|refine n1 fun _=>?_|refine n2 ?_ ?_|refine n3 (fun _=>?_) fun _=>?_|rfl
theorem eb2(c_name c_must c_expr)(x):j8 E5 (ft2 42 dF rA c_name (ft2 41 p8 eX c_must (ft2 141 q9 dZ c_expr ca0))) lo0 130 (ar8 x).1 (ar8 x).2 K=pF (vf dF c_name) (vf p8 c_must) (vf q9 c_expr) x (fun z=>some (.c (as2 z))):=by kernel_rfl
noncomputable def ce0(q:Nat)(x:ar4):Option pD:=pF (name q) (iF q) (wB q) x some
theorem dd6(q:Nat):Lw E5 130 ar8 as2 (ce0 q):=sof hW5 hX5 (fk2 (zU q) (fk2 (mD q) (fk2 (aj7 q) a8))) (fun _=>b8) fun x=>(eb2 (name q) (iF q) (wB q) x).trans (by rw[au8,pY,sP,dw3]<;>rfl)
abbrev ak2:Type:=SP
abbrev am6:Type:=(Int×Int×ByteArray×Nat×FL×SP)⊕(Int×Int)
def wV:AR ak2:=fun x=>([.ptr 0 0],(hHP x))
def eo3(t:TT):ak2:=(dHP t.2)
theorem em1:VI wV:=vd eo3 fun _=>rfl
def ah0:am6→CRes:=Sum.elim (fun z:Int×Int×ByteArray×Nat×FL×SP=>.ret (.agg [i64 z.1,i64 z.2.1,st z.2.2.1,.ro 4 z.2.2.2.1 z.2.2.2.2.1]) (hHP z.2.2.2.2.2)) (fun z:Int×Int=>.pan (.ifc 67 (.agg [i64 z.1,i64 z.2])))
def ao6:pD→am6:=Sum.elim (fun z=>.inl (z.1,z.2.1,z.2.2.1,1,mP [[i64 z.2.2.2.1,i64 z.2.2.2.2.1,st z.2.2.2.2.2.1,.ro 4 z.2.2.2.2.2.2.1 z.2.2.2.2.2.2.2.1]],z.2.2.2.2.2.2.2.2)) (fun z=>.inr z)
theorem dh9{args:List V}{L:List (Option Chunk)}(z:pD)(h:SC E5 130 args L (as2 z)):SC E5 130 args L (ah0 (ao6 z)):=by
 rcases z with z|z
 ·exact ce2 h
 ·exact h
noncomputable def assign(q:Nat)(x:ak2):Option am6:=(ce0 q x).map ao6
theorem dr1(q:Nat):Lw E5 130 wV ah0 (assign q):=by
 intro x z h
 obtain⟨y,hy,rfl⟩:=Option.map_eq_some_iff.1 h
 exact dh9 y (dd6 q x y hy)
abbrev cd8:Type:=SP
abbrev zJ:Type:=(Int×Int×ByteArray×Int×Int×ByteArray×Nat×FL×SP)⊕(Int×Int)
def by3:AR cd8:=fun x=>([.ptr 0 0],(hHP x))
def cd1:zJ→CRes:=Sum.elim (fun z:Int×Int×ByteArray×Int×Int×ByteArray×Nat×FL×SP=>.ret (.agg [i64 z.1,i64 z.2.1,st z.2.2.1,.sl 3 4 0 1]) [some (.blk [.ro 4 z.2.2.2.2.2.2.2.2.2.2.1 (fun j=>[i64 (z.2.2.2.2.2.2.2.2.2.2.2.1 j),i64 (z.2.2.2.2.2.2.2.2.2.2.2.2.1 j),st (z.2.2.2.2.2.2.2.2.2.2.2.2.2.1 j),i64 (z.2.2.2.2.2.2.2.2.2.2.2.2.2.2.1 j)]),i64 z.2.2.2.2.2.2.2.2.1,i64 z.2.2.2.2.2.2.2.2.2.1,.sl 1 1 0 z.2.2.2.2.2.2.2.2.2.2.2.2.2.2.2.1,.sl 2 1 0 z.2.2.2.2.2.2.2.2.2.2.2.2.2.2.2.2.2.1]),some (.row 9 1 z.2.2.2.2.2.2.2.2.2.2.2.2.2.2.2.1 (fun j=>[st (z.2.2.2.2.2.2.2.2.2.2.2.2.2.2.2.2.1 j)])),some (.row 9 1 z.2.2.2.2.2.2.2.2.2.2.2.2.2.2.2.2.2.1 (fun j=>[st (z.2.2.2.2.2.2.2.2.2.2.2.2.2.2.2.2.2.2 j)])),some (.row 46 4 1 (mP [[i64 z.2.2.2.1,i64 z.2.2.2.2.1,st z.2.2.2.2.2.1,.ro 4 z.2.2.2.2.2.2.1 z.2.2.2.2.2.2.2.1]]))]) (fun z:Int×Int=>.pan (.ifc 67 (.agg [i64 z.1,i64 z.2])))
def zV{β:Type}(c_declare:r8→Option gF)(c_must:eU→Option fD)(c_expr:iL→Option iM)(x:cd8)(dn:zJ→Option β):Option β:=
 (c_declare (w (x.1+1),x.2)).bind fun z11=>Sum.elim (fun z11a=>(c_must (⟨#[61]⟩,z11a.2)).bind fun z24=>Sum.elim (fun z24a=>(c_expr (1,z24a)).bind fun z37=>Sum.elim (fun z37a=>dn (.inl (1,0,z11a.1,z37a))) (fun z37b=>dn (.inr z37b)) z37) (fun z24b=>dn (.inr z24b)) z24) (fun z11b=>dn (.inr z11b)) z11
theorem ex6{β:Type}(c_declare c_must c_expr)(x)(dn:zJ→Option β):zV c_declare c_must c_expr x dn=(zV c_declare c_must c_expr x some).bind dn:=by
 unfold zV
 repeat' first|exact n0|refine n1 fun _=>?_|refine n2 ?_ ?_|refine n3 (fun _=>?_) fun _=>?_|rfl
theorem fa9(c_declare c_must c_expr)(x):j8 E5 (ft2 86 aV lV c_declare (ft2 41 p8 eX c_must (ft2 141 q9 dZ c_expr ca0))) lo0 123 (by3 x).1 (by3 x).2 K=zV (vf aV c_declare) (vf p8 c_must) (vf q9 c_expr) x (fun z=>some (.c (cd1 z))):=by kernel_rfl
noncomputable def em3(q:Nat)(x:cd8):Option zJ:=zV (jY q) (iF q) (wB q) x some
theorem er1(q:Nat):Lw E5 123 by3 cd1 (em3 q):=sof hW5 hX5 (fk2 (ad0 q) (fk2 (mD q) (fk2 (aj7 q) a8))) (fun _=>b8) fun x=>(fa9 (jY q) (iF q) (wB q) x).trans (by rw[aa8,pY,sP,ex6]<;>rfl)
abbrev bt4:Type:=SP
abbrev bw6:Type:=(Int×Int×ByteArray×Nat×FL×SP)⊕(Int×Int)
def bi5:AR bt4:=fun x=>([.ptr 0 0],(hHP x))
def fk9(t:TT):bt4:=(dHP t.2)
theorem fi7:VI bi5:=vd fk9 fun _=>rfl
def cb5:bw6→CRes:=Sum.elim (fun z:Int×Int×ByteArray×Nat×FL×SP=>.ret (.agg [i64 z.1,i64 z.2.1,st z.2.2.1,.ro 4 z.2.2.2.1 z.2.2.2.2.1]) (hHP z.2.2.2.2.2)) (fun z:Int×Int=>.pan (.ifc 67 (.agg [i64 z.1,i64 z.2])))
def bz1:zJ→bw6:=Sum.elim (fun z=>.inl (z.1,z.2.1,z.2.2.1,1,mP [[i64 z.2.2.2.1,i64 z.2.2.2.2.1,st z.2.2.2.2.2.1,.ro 4 z.2.2.2.2.2.2.1 z.2.2.2.2.2.2.2.1]],z.2.2.2.2.2.2.2.2)) (fun z=>.inr z)
theorem eg3{args:List V}{L:List (Option Chunk)}(z:zJ)(h:SC E5 123 args L (cd1 z)):SC E5 123 args L (cb5 (bz1 z)):=by
 rcases z with z|z
 ·exact ce2 h
 ·exact h
noncomputable def ds8(q:Nat)(x:bt4):Option bw6:=(em3 q x).map bz1
theorem eu8(q:Nat):Lw E5 123 bi5 cb5 (ds8 q):=by
 intro x z h
 obtain⟨y,hy,rfl⟩:=Option.map_eq_some_iff.1 h
 exact eg3 y (er1 q x y hy)
abbrev bl7:Type:=SP
abbrev uB:Type:=(Int×Int×ByteArray×FL×SP)⊕(Int×Int)
def bg1:AR bl7:=fun x=>([.ptr 0 0],(hHP x))
def bd3:uB→CRes:=Sum.elim (fun z:Int×Int×ByteArray×FL×SP=>.ret (.agg [i64 z.1,i64 z.2.1,st z.2.2.1,.sl 3 4 0 2]) [some (.blk [.ro 4 z.2.2.2.2.2.2.1 (fun j=>[i64 (z.2.2.2.2.2.2.2.1 j),i64 (z.2.2.2.2.2.2.2.2.1 j),st (z.2.2.2.2.2.2.2.2.2.1 j),i64 (z.2.2.2.2.2.2.2.2.2.2.1 j)]),i64 z.2.2.2.2.1,i64 z.2.2.2.2.2.1,.sl 1 1 0 z.2.2.2.2.2.2.2.2.2.2.2.1,.sl 2 1 0 z.2.2.2.2.2.2.2.2.2.2.2.2.2.1]),some (.row 9 1 z.2.2.2.2.2.2.2.2.2.2.2.1 (fun j=>[st (z.2.2.2.2.2.2.2.2.2.2.2.2.1 j)])),some (.row 9 1 z.2.2.2.2.2.2.2.2.2.2.2.2.2.1 (fun j=>[st (z.2.2.2.2.2.2.2.2.2.2.2.2.2.2 j)])),some (.row 46 4 2 z.2.2.2.1)]) (fun z:Int×Int=>.pan (.ifc 67 (.agg [i64 z.1,i64 z.2])))
def tI{β:Type}(c_expr:iL→Option iM)(c_must:eU→Option fD)(c_literal:lY→Option lL)(x:bl7)(dn:uB→Option β):Option β:=
 (c_expr (1,w (x.1+1),x.2)).bind fun z12=>Sum.elim (fun z12a=>(c_must (⟨#[119,105,116,104,105,110]⟩,z12a.2.2.2.2.2)).bind fun z25=>Sum.elim (fun z25a=>(c_literal z25a).bind fun z37=>Sum.elim (fun z37a=>dn (.inl (6,0,⟨#[]⟩,fun j=>[i64 (if j<1 then z12a.1 else z37a.1),i64 (if j<1 then z12a.2.1 else z37a.2.1),st (if j<1 then z12a.2.2.1 else z37a.2.2.1),V.ro 4 (if j<1 then z12a.2.2.2.1 else z37a.2.2.2.1) fun j_1=>if j<1 then z12a.2.2.2.2.1 j_1 else z37a.2.2.2.2.1 j_1],z37a.2.2.2.2.2))) (fun z37b=>dn (.inr z37b)) z37) (fun z25b=>dn (.inr z25b)) z25) (fun z12b=>dn (.inr z12b)) z12
theorem eh9{β:Type}(c_expr c_must c_literal)(x)(dn:uB→Option β):tI c_expr c_must c_literal x dn=(tI c_expr c_must c_literal x some).bind dn:=by
 unfold tI
 repeat' first|exact n0|refine n1 fun _=>?_|refine n2 ?_ ?_|refine n3 (fun _=>?_) fun _=>?_|rfl
theorem ep9(c_expr c_must c_literal)(x):j8 E5 (ft2 141 q9 dZ c_expr (ft2 41 p8 eX c_must (ft2 143 cJ kY c_literal ca0))) lo0 126 (bg1 x).1 (bg1 x).2 K=tI (vf q9 c_expr) (vf p8 c_must) (vf cJ c_literal) x (fun z=>some (.c (bd3 z))):=by kernel_rfl
noncomputable def di5(q:Nat)(x:bl7):Option uB:=tI (wB q) (iF q) (gB q) x some
theorem dv2(q:Nat):Lw E5 126 bg1 bd3 (di5 q):=sof hW5 hX5 (fk2 (aj7 q) (fk2 (mD q) (fk2 (vP q) a8))) (fun _=>b8) fun x=>(ep9 (wB q) (iF q) (gB q) x).trans (by rw[sP,pY,zW,eh9]<;>rfl)
abbrev ba7:Type:=SP
abbrev az8:Type:=(Int×Int×ByteArray×Nat×FL×SP)⊕(Int×Int)
def ak9:AR ba7:=fun x=>([.ptr 0 0],(hHP x))
def ev4(t:TT):ba7:=(dHP t.2)
theorem es1:VI ak9:=vd ev4 fun _=>rfl
def az4:az8→CRes:=Sum.elim (fun z:Int×Int×ByteArray×Nat×FL×SP=>.ret (.agg [i64 z.1,i64 z.2.1,st z.2.2.1,.ro 4 z.2.2.2.1 z.2.2.2.2.1]) (hHP z.2.2.2.2.2)) (fun z:Int×Int=>.pan (.ifc 67 (.agg [i64 z.1,i64 z.2])))
def bh2:uB→az8:=Sum.elim (fun z=>.inl (z.1,z.2.1,z.2.2.1,2,z.2.2.2)) (fun z=>.inr z)
theorem dq7{args:List V}{L:List (Option Chunk)}(z:uB)(h:SC E5 126 args L (bd3 z)):SC E5 126 args L (az4 (bh2 z)):=by
 rcases z with z|z
 ·exact ce2 h
 ·exact h
noncomputable def aw4(q:Nat)(x:ba7):Option az8:=(di5 q x).map bh2
theorem ec9(q:Nat):Lw E5 126 ak9 az4 (aw4 q):=by
 intro x z h
 obtain⟨y,hy,rfl⟩:=Option.map_eq_some_iff.1 h
 exact dq7 y (dv2 q x y hy)
abbrev ap9:Type:=SP
abbrev oU:Type:=(Int×Int×ByteArray×Int×Int×ByteArray×Nat×FL×SP)⊕(Int×Int)
def aq7:AR ap9:=fun x=>([.ptr 0 0],(hHP x))
def an4:oU→CRes:=Sum.elim (fun z:Int×Int×ByteArray×Int×Int×ByteArray×Nat×FL×SP=>.ret (.agg [i64 z.1,i64 z.2.1,st z.2.2.1,.sl 3 4 0 1]) [some (.blk [.ro 4 z.2.2.2.2.2.2.2.2.2.2.1 (fun j=>[i64 (z.2.2.2.2.2.2.2.2.2.2.2.1 j),i64 (z.2.2.2.2.2.2.2.2.2.2.2.2.1 j),st (z.2.2.2.2.2.2.2.2.2.2.2.2.2.1 j),i64 (z.2.2.2.2.2.2.2.2.2.2.2.2.2.2.1 j)]),i64 z.2.2.2.2.2.2.2.2.1,i64 z.2.2.2.2.2.2.2.2.2.1,.sl 1 1 0 z.2.2.2.2.2.2.2.2.2.2.2.2.2.2.2.1,.sl 2 1 0 z.2.2.2.2.2.2.2.2.2.2.2.2.2.2.2.2.2.1]),some (.row 9 1 z.2.2.2.2.2.2.2.2.2.2.2.2.2.2.2.1 (fun j=>[st (z.2.2.2.2.2.2.2.2.2.2.2.2.2.2.2.2.1 j)])),some (.row 9 1 z.2.2.2.2.2.2.2.2.2.2.2.2.2.2.2.2.2.1 (fun j=>[st (z.2.2.2.2.2.2.2.2.2.2.2.2.2.2.2.2.2.2 j)])),some (.row 46 4 1 (mP [[i64 z.2.2.2.1,i64 z.2.2.2.2.1,st z.2.2.2.2.2.1,.ro 4 z.2.2.2.2.2.2.1 z.2.2.2.2.2.2.2.1]]))]) (fun z:Int×Int=>.pan (.ifc 67 (.agg [i64 z.1,i64 z.2])))
def pO{β:Type}(c_is:ao2→Option aq4)(c_literal:lY→Option lL)(x:ap9)(dn:oU→Option β):Option β:=
 (c_is (⟨#[107,101,101,112]⟩,x)).bind fun z12=>if z12.1=true then(c_literal (w (z12.2.1+1),z12.2.2)).bind fun z24=>Sum.elim (fun z24a=>dn (.inl (11,0,⟨#[]⟩,z24a))) (fun z24b=>dn (.inr z24b)) z24 else(c_literal (w (z12.2.1+1),z12.2.2)).bind fun z37=>Sum.elim (fun z37a=>dn (.inl (5,0,⟨#[]⟩,z37a))) (fun z37b=>dn (.inr z37b)) z37
theorem dq9{β:Type}(c_is c_literal)(x)(dn:oU→Option β):pO c_is c_literal x dn=(pO c_is c_literal x some).bind dn:=by
 unfold pO
 repeat' first|exact n0|refine n1 fun _=>?_|refine n2 ?_ ?_|refine n3 (fun _=>?_) fun _=>?_|rfl
theorem dt4(c_is c_literal)(x):j8 E5 (ftb 121 qQ ap0 c_is (ft2 143 cJ kY c_literal ca0)) lo0 127 (aq7 x).1 (aq7 x).2 K=pO (vf qQ c_is) (vf cJ c_literal) x (fun z=>some (.c (an4 z))):=by kernel_rfl
noncomputable def ce1(q:Nat)(x:ap9):Option oU:=pO (is q) (gB q) x some
theorem dc2(q:Nat):Lw E5 127 aq7 an4 (ce1 q):=sof hW5 hX5 (fk (bq0 q) (fk2 (vP q) a8)) (fun _=>b8) fun x=>(dt4 (is q) (gB q) x).trans (by rw[ch0,zW,dq9]<;>rfl)
abbrev ak1:Type:=SP
abbrev al3:Type:=(Int×Int×ByteArray×Nat×FL×SP)⊕(Int×Int)
def yD:AR ak1:=fun x=>([.ptr 0 0],(hHP x))
def eh3(t:TT):ak1:=(dHP t.2)
theorem eq4:VI yD:=vd eh3 fun _=>rfl
def ai3:al3→CRes:=Sum.elim (fun z:Int×Int×ByteArray×Nat×FL×SP=>.ret (.agg [i64 z.1,i64 z.2.1,st z.2.2.1,.ro 4 z.2.2.2.1 z.2.2.2.2.1]) (hHP z.2.2.2.2.2)) (fun z:Int×Int=>.pan (.ifc 67 (.agg [i64 z.1,i64 z.2])))
def an3:oU→al3:=Sum.elim (fun z=>.inl (z.1,z.2.1,z.2.2.1,1,mP [[i64 z.2.2.2.1,i64 z.2.2.2.2.1,st z.2.2.2.2.2.1,.ro 4 z.2.2.2.2.2.2.1 z.2.2.2.2.2.2.2.1]],z.2.2.2.2.2.2.2.2)) (fun z=>.inr z)
theorem dh1{args:List V}{L:List (Option Chunk)}(z:oU)(h:SC E5 127 args L (an4 z)):SC E5 127 args L (ai3 (an3 z)):=by
 rcases z with z|z
 ·exact ce2 h
 ·exact h
noncomputable def ao7(q:Nat)(x:ak1):Option al3:=(ce1 q x).map an3
theorem dq8(q:Nat):Lw E5 127 yD ai3 (ao7 q):=by
 intro x z h
 obtain⟨y,hy,rfl⟩:=Option.map_eq_some_iff.1 h
 exact dh1 y (dc2 q x y hy)
abbrev aq6:Type:=SP
abbrev pP:Type:=(Int×Int×ByteArray×Int×Int×ByteArray×Nat×FL×SP)⊕(Int×Int)
def as0:AR aq6:=fun x=>([.ptr 0 0],(hHP x))
def ap7:pP→CRes:=Sum.elim (fun z:Int×Int×ByteArray×Int×Int×ByteArray×Nat×FL×SP=>.ret (.agg [i64 z.1,i64 z.2.1,st z.2.2.1,.sl 3 4 0 1]) [some (.blk [.ro 4 z.2.2.2.2.2.2.2.2.2.2.1 (fun j=>[i64 (z.2.2.2.2.2.2.2.2.2.2.2.1 j),i64 (z.2.2.2.2.2.2.2.2.2.2.2.2.1 j),st (z.2.2.2.2.2.2.2.2.2.2.2.2.2.1 j),i64 (z.2.2.2.2.2.2.2.2.2.2.2.2.2.2.1 j)]),i64 z.2.2.2.2.2.2.2.2.1,i64 z.2.2.2.2.2.2.2.2.2.1,.sl 1 1 0 z.2.2.2.2.2.2.2.2.2.2.2.2.2.2.2.1,.sl 2 1 0 z.2.2.2.2.2.2.2.2.2.2.2.2.2.2.2.2.2.1]),some (.row 9 1 z.2.2.2.2.2.2.2.2.2.2.2.2.2.2.2.1 (fun j=>[st (z.2.2.2.2.2.2.2.2.2.2.2.2.2.2.2.2.1 j)])),some (.row 9 1 z.2.2.2.2.2.2.2.2.2.2.2.2.2.2.2.2.2.1 (fun j=>[st (z.2.2.2.2.2.2.2.2.2.2.2.2.2.2.2.2.2.2 j)])),some (.row 46 4 1 (mP [[i64 z.2.2.2.1,i64 z.2.2.2.2.1,st z.2.2.2.2.2.1,.ro 4 z.2.2.2.2.2.2.1 z.2.2.2.2.2.2.2.1]]))]) (fun z:Int×Int=>.pan (.ifc 67 (.agg [i64 z.1,i64 z.2])))
def pC{β:Type}(c_is:ao2→Option aq4)(c_expr:iL→Option iM)(x:aq6)(dn:pP→Option β):Option β:=
 (c_is (⟨#[112,111,105,110,116]⟩,x)).bind fun z12=>if z12.1=true then(c_expr (1,w (z12.2.1+1),z12.2.2)).bind fun z25=>Sum.elim (fun z25a=>dn (.inl (8,0,⟨#[]⟩,z25a))) (fun z25b=>dn (.inr z25b)) z25 else(c_expr (1,w (z12.2.1+1),z12.2.2)).bind fun z39=>Sum.elim (fun z39a=>dn (.inl (7,0,⟨#[]⟩,z39a))) (fun z39b=>dn (.inr z39b)) z39
theorem dr9{β:Type}(c_is c_expr)(x)(dn:pP→Option β):pC c_is c_expr x dn=(pC c_is c_expr x some).bind dn:=by
 unfold pC
 repeat' first|exact n0|refine n1 fun _=>?_|refine n2 ?_ ?_|refine n3 (fun _=>?_) fun _=>?_|rfl
theorem dq0(c_is c_expr)(x):j8 E5 (ftb 121 qQ ap0 c_is (ft2 141 q9 dZ c_expr ca0)) lo0 128 (as0 x).1 (as0 x).2 K=pC (vf qQ c_is) (vf q9 c_expr) x (fun z=>some (.c (ap7 z))):=by kernel_rfl
noncomputable def ca4(q:Nat)(x:aq6):Option pP:=pC (is q) (wB q) x some
theorem df3(q:Nat):Lw E5 128 as0 ap7 (ca4 q):=sof hW5 hX5 (fk (bq0 q) (fk2 (aj7 q) a8)) (fun _=>b8) fun x=>(dq0 (is q) (wB q) x).trans (by rw[ch0,sP,dr9]<;>rfl)
abbrev ai7:Type:=SP
abbrev ah6:Type:=(Int×Int×ByteArray×Nat×FL×SP)⊕(Int×Int)
def xK:AR ai7:=fun x=>([.ptr 0 0],(hHP x))
def ek5(t:TT):ai7:=(dHP t.2)
theorem ee0:VI xK:=vd ek5 fun _=>rfl
def an2:ah6→CRes:=Sum.elim (fun z:Int×Int×ByteArray×Nat×FL×SP=>.ret (.agg [i64 z.1,i64 z.2.1,st z.2.2.1,.ro 4 z.2.2.2.1 z.2.2.2.2.1]) (hHP z.2.2.2.2.2)) (fun z:Int×Int=>.pan (.ifc 67 (.agg [i64 z.1,i64 z.2])))
def ar3:pP→ah6:=Sum.elim (fun z=>.inl (z.1,z.2.1,z.2.2.1,1,mP [[i64 z.2.2.2.1,i64 z.2.2.2.2.1,st z.2.2.2.2.2.1,.ro 4 z.2.2.2.2.2.2.1 z.2.2.2.2.2.2.2.1]],z.2.2.2.2.2.2.2.2)) (fun z=>.inr z)
theorem dc6{args:List V}{L:List (Option Chunk)}(z:pP)(h:SC E5 128 args L (ap7 z)):SC E5 128 args L (an2 (ar3 z)):=by
 rcases z with z|z
 ·exact ce2 h
 ·exact h
noncomputable def ar7(q:Nat)(x:ai7):Option ah6:=(ca4 q x).map ar3
theorem dq6(q:Nat):Lw E5 128 xK an2 (ar7 q):=by
 intro x z h
 obtain⟨y,hy,rfl⟩:=Option.map_eq_some_iff.1 h
 exact dc6 y (df3 q x y hy)
abbrev xX:Type:=SP
abbrev cZ:Type:=(Int×Int×ByteArray×SP)⊕(Int×Int×ByteArray×Int×Int×ByteArray×Nat×FL×SP)⊕(Int×Int)
def xY:AR xX:=fun x=>([.ptr 0 0],(hHP x))
def wP:cZ→CRes:=Sum.elim (fun z:Int×Int×ByteArray×SP=>.ret (.agg [i64 z.1,i64 z.2.1,st z.2.2.1,g9]) (hHP z.2.2.2)) (Sum.elim (fun z:Int×Int×ByteArray×Int×Int×ByteArray×Nat×FL×SP=>.ret (.agg [i64 z.1,i64 z.2.1,st z.2.2.1,.sl 3 4 0 1]) [some (.blk [.ro 4 z.2.2.2.2.2.2.2.2.2.2.1 (fun j=>[i64 (z.2.2.2.2.2.2.2.2.2.2.2.1 j),i64 (z.2.2.2.2.2.2.2.2.2.2.2.2.1 j),st (z.2.2.2.2.2.2.2.2.2.2.2.2.2.1 j),i64 (z.2.2.2.2.2.2.2.2.2.2.2.2.2.2.1 j)]),i64 z.2.2.2.2.2.2.2.2.1,i64 z.2.2.2.2.2.2.2.2.2.1,.sl 1 1 0 z.2.2.2.2.2.2.2.2.2.2.2.2.2.2.2.1,.sl 2 1 0 z.2.2.2.2.2.2.2.2.2.2.2.2.2.2.2.2.2.1]),some (.row 9 1 z.2.2.2.2.2.2.2.2.2.2.2.2.2.2.2.1 (fun j=>[st (z.2.2.2.2.2.2.2.2.2.2.2.2.2.2.2.2.1 j)])),some (.row 9 1 z.2.2.2.2.2.2.2.2.2.2.2.2.2.2.2.2.2.1 (fun j=>[st (z.2.2.2.2.2.2.2.2.2.2.2.2.2.2.2.2.2.2 j)])),some (.row 46 4 1 (mP [[i64 z.2.2.2.1,i64 z.2.2.2.2.1,st z.2.2.2.2.2.1,.ro 4 z.2.2.2.2.2.2.1 z.2.2.2.2.2.2.2.1]]))]) (fun z:Int×Int=>.pan (.ifc 67 (.agg [i64 z.1,i64 z.2]))))
def iZ{β:Type}(c_next:v8→Option y5)(c_number:qB→Option qL)(c_must:eU→Option fD)(c_literal:lY→Option lL)(x:xX)(dn:cZ→Option β):Option β:=
 (c_next x).bind fun z11=>if(z11.2.2.1.toList==ByteArray.toList ⟨#[101,109,105,116]⟩)=true then(c_number (0,99,w (z11.2.2.2.2.1+1),z11.2.2.2.2.2)).bind fun z25=>Sum.elim (fun z25a=>dn (.inl (12,z25a.1,⟨#[]⟩,z25a.2))) (fun z25b=>dn (.inr (.inr z25b))) z25 else if(z11.2.2.1.toList==ByteArray.toList ⟨#[97,98,111,114,116]⟩)=true then(c_number (0,999,w (z11.2.2.2.2.1+1),z11.2.2.2.2.2)).bind fun z40=>Sum.elim (fun z40a=>dn (.inl (13,z40a.1,⟨#[]⟩,z40a.2))) (fun z40b=>dn (.inr (.inr z40b))) z40 else if(z11.2.2.1.toList==ByteArray.toList ⟨#[117,115,101]⟩)=true then(c_number (0,7,w (z11.2.2.2.2.1+1),z11.2.2.2.2.2)).bind fun z55=>Sum.elim (fun z55a=>(c_must (⟨#[102,111,114]⟩,z55a.2)).bind fun z68=>Sum.elim (fun z68a=>(c_literal z68a).bind fun z80=>Sum.elim (fun z80a=>dn (.inr (.inl (9,z55a.1,⟨#[]⟩,z80a)))) (fun z80b=>dn (.inr (.inr z80b))) z80) (fun z68b=>dn (.inr (.inr z68b))) z68) (fun z55b=>dn (.inr (.inr z55b))) z55 else(c_number (0,7,w (z11.2.2.2.2.1+1),z11.2.2.2.2.2)).bind fun z97=>Sum.elim (fun z97a=>(c_must (⟨#[44]⟩,z97a.2)).bind fun z110=>Sum.elim (fun z110a=>(c_literal z110a).bind fun z122=>Sum.elim (fun z122a=>dn (.inr (.inl (10,z97a.1,⟨#[]⟩,z122a)))) (fun z122b=>dn (.inr (.inr z122b))) z122) (fun z110b=>dn (.inr (.inr z110b))) z110) (fun z97b=>dn (.inr (.inr z97b))) z97
theorem ck4{β:Type}(c_next c_number)(c_must c_literal)(x)(dn:cZ→Option β):iZ c_next c_number c_must c_literal x dn=(iZ c_next c_number c_must c_literal x some).bind dn:=by
 unfold iZ
 repeat' first|exact n0|refine n1 fun _=>?_|refine n2 ?_ ?_|refine n3 (fun _=>?_) fun _=>?_|rfl
theorem ct5(c_next c_number)(c_must c_literal)(x):j8 E5 (ftb 18 g8 s6 c_next (ft2 142 eP tW c_number (ft2 41 p8 eX c_must (ft2 143 cJ kY c_literal ca0)))) lo0 129 (xY x).1 (xY x).2 K=iZ (vf g8 c_next) (vf eP c_number) (vf p8 c_must) (vf cJ c_literal) x (fun z=>some (.c (wP z))):=by kernel_rfl
noncomputable def ao5(q:Nat)(x:xX):Option cZ:=iZ (next q) (nM q) (iF q) (gB q) x some
theorem bt2(q:Nat):Lw E5 129 xY wP (ao5 q):=sof hW5 hX5 (fk (gW q) (fk2 (ap5 q) (fk2 (mD q) (fk2 (vP q) a8)))) (fun _=>b8) fun x=>(ct5 (next q) (nM q) (iF q) (gB q) x).trans (by rw[eA,bd8,pY,zW,ck4]<;>rfl)
abbrev vB:Type:=SP
abbrev uK:Type:=(Int×Int×ByteArray×Nat×FL×SP)⊕(Int×Int)
def pU:AR vB:=fun x=>([.ptr 0 0],(hHP x))
def da2(t:TT):vB:=(dHP t.2)
theorem dh7:VI pU:=vd da2 fun _=>rfl
def vX:uK→CRes:=Sum.elim (fun z:Int×Int×ByteArray×Nat×FL×SP=>.ret (.agg [i64 z.1,i64 z.2.1,st z.2.2.1,.ro 4 z.2.2.2.1 z.2.2.2.2.1]) (hHP z.2.2.2.2.2)) (fun z:Int×Int=>.pan (.ifc 67 (.agg [i64 z.1,i64 z.2])))
def mR:cZ→uK:=Sum.elim (fun z=>.inl (z.1,z.2.1,z.2.2.1,0,fun _=>[],z.2.2.2)) (Sum.elim (fun z=>.inl (z.1,z.2.1,z.2.2.1,1,mP [[i64 z.2.2.2.1,i64 z.2.2.2.2.1,st z.2.2.2.2.2.1,.ro 4 z.2.2.2.2.2.2.1 z.2.2.2.2.2.2.2.1]],z.2.2.2.2.2.2.2.2)) (fun z=>.inr z))
theorem bx7{args:List V}{L:List (Option Chunk)}(z:cZ)(h:SC E5 129 args L (wP z)):SC E5 129 args L (vX (mR z)):=by
 rcases z with z|z|z
 ·exact et0 h
 ·exact ce2 h
 ·exact h
noncomputable def numbered(q:Nat)(x:vB):Option uK:=(ao5 q x).map mR
theorem cj9(q:Nat):Lw E5 129 pU vX (numbered q):=by
 intro x z h
 obtain⟨y,hy,rfl⟩:=Option.map_eq_some_iff.1 h
 exact bx7 y (bt2 q x y hy)
abbrev oP:Type:=SP
abbrev oK:Type:=(Int×Int×ByteArray×Nat×FL×SP)⊕(Int×Int)
def dL:AR oP:=fun x=>([.ptr 0 0],(hHP x))
def es2(t:TT):oP:=(dHP t.2)
theorem az5:VI dL:=vd es2 fun _=>rfl
def mG:oK→CRes:=Sum.elim (fun z:Int×Int×ByteArray×Nat×FL×SP=>.ret (.agg [i64 z.1,i64 z.2.1,st z.2.2.1,.ro 4 z.2.2.2.1 z.2.2.2.2.1]) (hHP z.2.2.2.2.2)) (fun z:Int×Int=>.pan (.ifc 67 (.agg [i64 z.1,i64 z.2])))
abbrev wW:Type:=SP
abbrev xN:Type:=(Int×Int×ByteArray×Nat×FL×SP)⊕(Int×Int)
def tG:AR wW:=fun x=>([.ptr 0 0],(hHP x))
def eo5(t:TT):wW:=(dHP t.2)
theorem el7:VI tG:=vd eo5 fun _=>rfl
def am7:xN→CRes:=Sum.elim (fun z:Int×Int×ByteArray×Nat×FL×SP=>.ret (.agg [i64 z.1,i64 z.2.1,st z.2.2.1,.ro 4 z.2.2.2.1 z.2.2.2.2.1]) (hHP z.2.2.2.2.2)) (fun z:Int×Int=>.pan (.ifc 67 (.agg [i64 z.1,i64 z.2])))
abbrev uD:Type:=SP
abbrev tA:Type:=(Int×Int×ByteArray×Nat×FL×SP)⊕(Int×Int)
def pL:AR uD:=fun x=>([.ptr 0 0],(hHP x))
def dx5(t:TT):uD:=(dHP t.2)
theorem dv8:VI pL:=vd dx5 fun _=>rfl
def zT:tA→CRes:=Sum.elim (fun z:Int×Int×ByteArray×Nat×FL×SP=>.ret (.agg [i64 z.1,i64 z.2.1,st z.2.2.1,.ro 4 z.2.2.2.1 z.2.2.2.2.1]) (hHP z.2.2.2.2.2)) (fun z:Int×Int=>.pan (.ifc 67 (.agg [i64 z.1,i64 z.2])))
abbrev dA:Type:=SP
abbrev aL:Type:=(Int×Int×ByteArray×Nat×FL×SP)⊕(Int×Int)
def x5:AR dA:=fun x=>([.ptr 0 0],(hHP x))
def cu8(t:TT):dA:=(dHP t.2)
theorem wY:VI x5:=vd cu8 fun _=>rfl
def eQ:aL→CRes:=Sum.elim (fun z:Int×Int×ByteArray×Nat×FL×SP=>.ret (.agg [i64 z.1,i64 z.2.1,st z.2.2.1,.ro 4 z.2.2.2.1 z.2.2.2.2.1]) (hHP z.2.2.2.2.2)) (fun z:Int×Int=>.pan (.ifc 67 (.agg [i64 z.1,i64 z.2])))
abbrev fG:Type:=SP
abbrev yP:Type:=(Int×Int×ByteArray×SP)⊕(Int×Int×ByteArray×Nat×FL×SP)⊕(Int×Int)
def bk1:AR fG:=fun x=>([.ptr 0 0],(hHP x))
def bl3:yP→CRes:=Sum.elim (fun z:Int×Int×ByteArray×SP=>.ret (.agg [i64 z.1,i64 z.2.1,st z.2.2.1,g9]) (hHP z.2.2.2)) (Sum.elim (fun z:Int×Int×ByteArray×Nat×FL×SP=>.ret (.agg [i64 z.1,i64 z.2.1,st z.2.2.1,.sl 3 4 0 z.2.2.2.1]) ((hHP z.2.2.2.2.2)++[some (.row 46 4 z.2.2.2.1 z.2.2.2.2.1)])) (fun z:Int×Int=>.pan (.ifc 67 (.agg [i64 z.1,i64 z.2]))))
abbrev br3:Type:=SP
abbrev tU:Type:=(Int×Int×ByteArray×FL×SP)⊕(Int×Int)
def ao4:AR br3:=fun x=>([.ptr 0 0],(hHP x))
def at6:tU→CRes:=Sum.elim (fun z:Int×Int×ByteArray×FL×SP=>.ret (.agg [i64 z.1,i64 z.2.1,st z.2.2.1,.sl 3 4 0 3]) [some (.blk [.ro 4 z.2.2.2.2.2.2.1 (fun j=>[i64 (z.2.2.2.2.2.2.2.1 j),i64 (z.2.2.2.2.2.2.2.2.1 j),st (z.2.2.2.2.2.2.2.2.2.1 j),i64 (z.2.2.2.2.2.2.2.2.2.2.1 j)]),i64 z.2.2.2.2.1,i64 z.2.2.2.2.2.1,.sl 1 1 0 z.2.2.2.2.2.2.2.2.2.2.2.1,.sl 2 1 0 z.2.2.2.2.2.2.2.2.2.2.2.2.2.1]),some (.row 9 1 z.2.2.2.2.2.2.2.2.2.2.2.1 (fun j=>[st (z.2.2.2.2.2.2.2.2.2.2.2.2.1 j)])),some (.row 9 1 z.2.2.2.2.2.2.2.2.2.2.2.2.2.1 (fun j=>[st (z.2.2.2.2.2.2.2.2.2.2.2.2.2.2 j)])),some (.row 46 4 3 z.2.2.2.1)]) (fun z:Int×Int=>.pan (.ifc 67 (.agg [i64 z.1,i64 z.2])))
abbrev bl4:Type:=SP
abbrev pX:Type:=(Int×Int×ByteArray×Int×Int×ByteArray×Nat×FL×SP)⊕(Int×Int)
def af5:AR bl4:=fun x=>([.ptr 0 0],(hHP x))
def ag1:pX→CRes:=Sum.elim (fun z:Int×Int×ByteArray×Int×Int×ByteArray×Nat×FL×SP=>.ret (.agg [i64 z.1,i64 z.2.1,st z.2.2.1,.sl 3 4 0 1]) [some (.blk [.ro 4 z.2.2.2.2.2.2.2.2.2.2.1 (fun j=>[i64 (z.2.2.2.2.2.2.2.2.2.2.2.1 j),i64 (z.2.2.2.2.2.2.2.2.2.2.2.2.1 j),st (z.2.2.2.2.2.2.2.2.2.2.2.2.2.1 j),i64 (z.2.2.2.2.2.2.2.2.2.2.2.2.2.2.1 j)]),i64 z.2.2.2.2.2.2.2.2.1,i64 z.2.2.2.2.2.2.2.2.2.1,.sl 1 1 0 z.2.2.2.2.2.2.2.2.2.2.2.2.2.2.2.1,.sl 2 1 0 z.2.2.2.2.2.2.2.2.2.2.2.2.2.2.2.2.2.1]),some (.row 9 1 z.2.2.2.2.2.2.2.2.2.2.2.2.2.2.2.1 (fun j=>[st (z.2.2.2.2.2.2.2.2.2.2.2.2.2.2.2.2.1 j)])),some (.row 9 1 z.2.2.2.2.2.2.2.2.2.2.2.2.2.2.2.2.2.1 (fun j=>[st (z.2.2.2.2.2.2.2.2.2.2.2.2.2.2.2.2.2.2 j)])),some (.row 46 4 1 (mP [[i64 z.2.2.2.1,i64 z.2.2.2.2.1,st z.2.2.2.2.2.1,.ro 4 z.2.2.2.2.2.2.1 z.2.2.2.2.2.2.2.1]]))]) (fun z:Int×Int=>.pan (.ifc 67 (.agg [i64 z.1,i64 z.2])))
abbrev ak7:Type:=SP
abbrev dE:Type:=(Int×Int×ByteArray×Nat×FL×SP)⊕(Int×Int)
def uS:AR ak7:=fun x=>([.ptr 0 0],(hHP x))
def uW:dE→CRes:=Sum.elim (fun z:Int×Int×ByteArray×Nat×FL×SP=>.ret (.agg [i64 z.1,i64 z.2.1,st z.2.2.1,.ro 4 z.2.2.2.1 z.2.2.2.2.1]) (hHP z.2.2.2.2.2)) (fun z:Int×Int=>.pan (.ifc 67 (.agg [i64 z.1,i64 z.2])))
abbrev aS:Type:=(SC2)⊕(Nat×FI×FI×FS×FI×Int×Int×Nat×Nat×FS×FS×FI×FI×FS×FN×FM×Nat)
abbrev jB:Type:=(Int×Int)⊕(SC2)⊕(Nat×FI×FI×FS×FI×Int×Int×Nat×Nat×FS×FS×Nat×FI×FI×FS×FN×FM)
def bv7(x:fG)(y:SC2):St:={fr:=[V.ptr 0 0,V.junk,V.ptr 3 0,V.ptr 4 0]++jk 21,H:=hp [some (hPB y),some (hPV y),some (ev6 y),some (Chunk.blk [i64 0,i64 0,st ⟨#[]⟩,g9]),some (Chunk.blk [i64 14,i64 0,st ⟨#[]⟩,g9])],nx:=5,rt:=1,me:=45}
def cc8(s:St):SC2:=((kP (cb s 0 0)),dTI (cb s 0 0) 0,dTI (cb s 0 0) 1,dTS (cb s 0 0) 2,dTI (cb s 0 0) 3,vI (cb s 0 1),vI (cb s 0 2),fE (cb s 0 3),fE (cb s 0 4),dRS (s.H 1) 0,dRS (s.H 2) 0)
def bt7(x:fG)(y:Nat×FI×FI×FS×FI×Int×Int×Nat×Nat×FS×FS×FI×FI×FS×FN×FM×Nat):St:={fr:=[V.ptr 0 0,V.junk,V.ptr 3 0,V.ptr 4 0]++jk 21,H:=hp [some (hPB y),some (hPV y),some (hPQ y),some (Chunk.blk [i64 0,i64 0,st ⟨#[]⟩,g9]),some (Chunk.blk [i64 14,i64 0,st ⟨#[]⟩,V.sl 5 4 0 y.2.2.2.2.2.2.2.2.2.2.2.2.2.2.2.2]),some (Chunk.row 46 4 y.2.2.2.2.2.2.2.2.2.2.2.2.2.2.2.2 fun j=>[i64 (y.2.2.2.2.2.2.2.2.2.2.2.1 j),i64 (y.2.2.2.2.2.2.2.2.2.2.2.2.1 j),st (y.2.2.2.2.2.2.2.2.2.2.2.2.2.1 j),V.ro 4 (y.2.2.2.2.2.2.2.2.2.2.2.2.2.2.1 j) (y.2.2.2.2.2.2.2.2.2.2.2.2.2.2.2.1 j)])],nx:=6,rt:=1,me:=45}
def cc6(s:St):Nat×FI×FI×FS×FI×Int×Int×Nat×Nat×FS×FS×FI×FI×FS×FN×FM×Nat:=((kP (cb s 0 0)),dTI (cb s 0 0) 0,dTI (cb s 0 0) 1,dTS (cb s 0 0) 2,dTI (cb s 0 0) 3,vI (cb s 0 1),vI (cb s 0 2),fE (cb s 0 3),fE (cb s 0 4),dRS (s.H 1) 0,dRS (s.H 2) 0,dRI (s.H 5) 0,dRI (s.H 5) 1,dRS (s.H 5) 2,dRN (s.H 5) 3,dRF (s.H 5) 3,fE (cb s 4 3))
def dB(x:fG):aS→St:=(Sum.elim (bv7 x) (bt7 x))
def ch1(s:St):aS:=(match s.nx==5 with|true=>(.inl (cc8 s)) |false=>(.inr (cc6 s)))
theorem ck7(x:fG):VL (dB x):=vl ch1 (fun y=>by rcases y with y|y<;>rfl)
def jD(x:fG):jB→Ex×St:=(Sum.elim (fun z=>(Ex.panic (V.ifc 67 (V.agg [i64 z.1,i64 z.2])),{fr:=[V.junk]++jk 24,H:=hp [none],nx:=1,rt:=1,me:=45})) (Sum.elim (fun z=>(Ex.exit 0,{fr:=[V.ptr 0 0,V.junk,V.ptr 3 0,V.ptr 4 0]++jk 21,H:=hp [some (hPB z),some (hPV z),some (ev6 z),some (Chunk.blk [i64 0,i64 0,st ⟨#[]⟩,g9]),some (Chunk.blk [i64 14,i64 0,st ⟨#[]⟩,g9])],nx:=5,rt:=1,me:=45})) (fun z=>(Ex.exit 0,{fr:=[V.ptr 0 0,V.junk,V.ptr 3 0,V.ptr 4 0]++jk 21,H:=hp [some (hPB z),some (hPV z),some (hPQ z),some (Chunk.blk [i64 0,i64 0,st ⟨#[]⟩,g9]),some (Chunk.blk [i64 14,i64 0,st ⟨#[]⟩,V.sl 5 4 0 z.2.2.2.2.2.2.2.2.2.2.2.1]),some (Chunk.row 46 4 z.2.2.2.2.2.2.2.2.2.2.2.1 fun j=>[i64 (z.2.2.2.2.2.2.2.2.2.2.2.2.1 j),i64 (z.2.2.2.2.2.2.2.2.2.2.2.2.2.1 j),st (z.2.2.2.2.2.2.2.2.2.2.2.2.2.2.1 j),V.ro 4 (z.2.2.2.2.2.2.2.2.2.2.2.2.2.2.2.1 j) (z.2.2.2.2.2.2.2.2.2.2.2.2.2.2.2.2 j)])],nx:=6,rt:=1,me:=45}))))
def fK{β:Type}(c_opens:mA→Option mC)(c_take:iH→Option iG)(c_statement:dA→Option aL)(x:fG)(y:SC2)(nx:aS→Option β)(dn:jB→Option β):Option β:=
 (c_take (⟨#[125]⟩,y.2.2.2.2.2.1,y.2.2.2.2.2.2.1,y.1,y.2.1,y.2.2.1,y.2.2.2.1,y.2.2.2.2.1,y.2.2.2.2.2.2.2.1,y.2.2.2.2.2.2.2.2.2.1,y.2.2.2.2.2.2.2.2.1,y.2.2.2.2.2.2.2.2.2.2)).bind fun z454=>if(!z454.1)=true then(c_statement z454.2).bind fun z466=>Sum.elim (fun z466a=>nx (.inr (z466a.2.2.2.2.2.2.2.1,z466a.2.2.2.2.2.2.2.2.1,z466a.2.2.2.2.2.2.2.2.2.1,z466a.2.2.2.2.2.2.2.2.2.2.1,z466a.2.2.2.2.2.2.2.2.2.2.2.1,z466a.2.2.2.2.2.1,z466a.2.2.2.2.2.2.1,z466a.2.2.2.2.2.2.2.2.2.2.2.2.1,z466a.2.2.2.2.2.2.2.2.2.2.2.2.2.2.1,z466a.2.2.2.2.2.2.2.2.2.2.2.2.2.1,z466a.2.2.2.2.2.2.2.2.2.2.2.2.2.2.2,fun j=>z466a.1,fun j=>z466a.2.1,fun j=>z466a.2.2.1,fun j=>z466a.2.2.2.1,fun j=>z466a.2.2.2.2.1,1))) (fun z466b=>dn (.inl z466b)) z466 else dn (.inr (.inl (z454.2.2.2.1,z454.2.2.2.2.1,z454.2.2.2.2.2.1,z454.2.2.2.2.2.2.1,z454.2.2.2.2.2.2.2.1,z454.2.1,z454.2.2.1,z454.2.2.2.2.2.2.2.2.1,z454.2.2.2.2.2.2.2.2.2.2.1,z454.2.2.2.2.2.2.2.2.2.1,z454.2.2.2.2.2.2.2.2.2.2.2)))
theorem bv6{β:Type}(c_opens c_take c_statement)(x)(y)(nx:aS→Option β)(dn):fK c_opens c_take c_statement x y nx dn=(fK c_opens c_take c_statement x y (fun y=>some (.inl y)) (fun z=>some (.inr z))).bind fun r=>Sum.elim nx dn r:=by
 unfold fK
 repeat' first|exact n0|refine n1 fun _=>?_|refine n2 ?_ ?_|refine n3 (fun _=>?_) fun _=>?_|rfl
theorem bz5(c_opens c_take c_statement)(x)(y)(lo:f7):r9 E5 (ft2 87 bK kJ c_opens (ftb 84 t0 gG c_take (ft2 88 x5 eQ c_statement ca0))) lo 0 13 (b6 E5 45 0) (dB x (.inl y)) (KCM [(0,13)] 4)=fK (vf bK c_opens) (vf t0 c_take) (vf x5 c_statement) x y (fun y=>lo 0 13 (b6 E5 45 0) (dB x y) (KCM [(0,13)] 4)) (fun z=>some (.l (jD x z).1 (jD x z).2)):=by kernel_rfl
def fJ{β:Type}(c_opens:mA→Option mC)(c_take:iH→Option iG)(c_statement:dA→Option aL)(x:fG)(y:Nat×FI×FI×FS×FI×Int×Int×Nat×Nat×FS×FS×FI×FI×FS×FN×FM×Nat)(nx:aS→Option β)(dn:jB→Option β):Option β:=
 (c_take (⟨#[125]⟩,y.2.2.2.2.2.1,y.2.2.2.2.2.2.1,y.1,y.2.1,y.2.2.1,y.2.2.2.1,y.2.2.2.2.1,y.2.2.2.2.2.2.2.1,y.2.2.2.2.2.2.2.2.2.1,y.2.2.2.2.2.2.2.2.1,y.2.2.2.2.2.2.2.2.2.2.1)).bind fun z481=>if(!z481.1)=true then(c_statement z481.2).bind fun z493=>Sum.elim (fun z493a=>if(y.2.2.2.2.2.2.2.2.2.2.2.2.2.2.2.2+1)*56≤d9∧y.2.2.2.2.2.2.2.2.2.2.2.2.2.2.2.2+1≤maxLen∧y.2.2.2.2.2.2.2.2.2.2.2.2.2.2.2.2≤y.2.2.2.2.2.2.2.2.2.2.2.2.2.2.2.2 then nx (.inr (z493a.2.2.2.2.2.2.2.1,z493a.2.2.2.2.2.2.2.2.1,z493a.2.2.2.2.2.2.2.2.2.1,z493a.2.2.2.2.2.2.2.2.2.2.1,z493a.2.2.2.2.2.2.2.2.2.2.2.1,z493a.2.2.2.2.2.1,z493a.2.2.2.2.2.2.1,z493a.2.2.2.2.2.2.2.2.2.2.2.2.1,z493a.2.2.2.2.2.2.2.2.2.2.2.2.2.2.1,z493a.2.2.2.2.2.2.2.2.2.2.2.2.2.1,z493a.2.2.2.2.2.2.2.2.2.2.2.2.2.2.2,fun j=>if j<y.2.2.2.2.2.2.2.2.2.2.2.2.2.2.2.2 then y.2.2.2.2.2.2.2.2.2.2.2.1 j else z493a.1,fun j=>if j<y.2.2.2.2.2.2.2.2.2.2.2.2.2.2.2.2 then y.2.2.2.2.2.2.2.2.2.2.2.2.1 j else z493a.2.1,fun j=>if j<y.2.2.2.2.2.2.2.2.2.2.2.2.2.2.2.2 then y.2.2.2.2.2.2.2.2.2.2.2.2.2.1 j else z493a.2.2.1,fun j=>if j<y.2.2.2.2.2.2.2.2.2.2.2.2.2.2.2.2 then y.2.2.2.2.2.2.2.2.2.2.2.2.2.2.1 j else z493a.2.2.2.1,fun(j j_1:Nat)=>if j<y.2.2.2.2.2.2.2.2.2.2.2.2.2.2.2.2 then y.2.2.2.2.2.2.2.2.2.2.2.2.2.2.2.1 j j_1 else z493a.2.2.2.2.1 j_1,y.2.2.2.2.2.2.2.2.2.2.2.2.2.2.2.2+1))else none) (fun z493b=>dn (.inl z493b)) z493 else dn (.inr (.inr (z481.2.2.2.1,z481.2.2.2.2.1,z481.2.2.2.2.2.1,z481.2.2.2.2.2.2.1,z481.2.2.2.2.2.2.2.1,z481.2.1,z481.2.2.1,z481.2.2.2.2.2.2.2.2.1,z481.2.2.2.2.2.2.2.2.2.2.1,z481.2.2.2.2.2.2.2.2.2.1,z481.2.2.2.2.2.2.2.2.2.2.2,y.2.2.2.2.2.2.2.2.2.2.2.2.2.2.2.2,y.2.2.2.2.2.2.2.2.2.2.2.1,y.2.2.2.2.2.2.2.2.2.2.2.2.1,y.2.2.2.2.2.2.2.2.2.2.2.2.2.1,y.2.2.2.2.2.2.2.2.2.2.2.2.2.2.1,y.2.2.2.2.2.2.2.2.2.2.2.2.2.2.2.1)))
theorem cb8{β:Type}(c_opens c_take c_statement)(x)(y)(nx:aS→Option β)(dn):fJ c_opens c_take c_statement x y nx dn=(fJ c_opens c_take c_statement x y (fun y=>some (.inl y)) (fun z=>some (.inr z))).bind fun r=>Sum.elim nx dn r:=by
 unfold fJ
 repeat' first|exact n0|refine n1 fun _=>?_|refine n2 ?_ ?_|refine n3 (fun _=>?_) fun _=>?_|rfl
theorem cc3(c_opens c_take c_statement)(x)(y)(lo:f7):r9 E5 (ft2 87 bK kJ c_opens (ftb 84 t0 gG c_take (ft2 88 x5 eQ c_statement ca0))) lo 0 13 (b6 E5 45 0) (dB x (.inr y)) (KCM [(0,13)] 4)=fJ (vf bK c_opens) (vf t0 c_take) (vf x5 c_statement) x y (fun y=>lo 0 13 (b6 E5 45 0) (dB x y) (KCM [(0,13)] 4)) (fun z=>some (.l (jD x z).1 (jD x z).2)):=by kernel_rfl
noncomputable def lK(c_opens:mA→Option mC)(c_take:iH→Option iG)(c_statement:dA→Option aL)(q:Nat)(x:fG):aS→Option jB:=lpG (Sum.elim (fun y=>fK c_opens c_take c_statement x y (fun y=>some (.inl y)) (fun z=>some (.inr z))) (fun y=>fJ c_opens c_take c_statement x y (fun y=>some (.inl y)) (fun z=>some (.inr z)))) q
theorem co1(c_opens)(h_opens:Lw E5 87 bK kJ c_opens)(c_take)(h_take:Lw E5 84 t0 gG c_take)(c_statement)(h_statement:Lw E5 88 x5 eQ c_statement)(q:Nat)(x:fG):Ll E5 (b6 E5 45 0) (dB x) (jD x) (lK c_opens c_take c_statement q x):=
 slp (fk2 h_opens (fk h_take (fk2 h_statement a8))) hX5 (fun lo y=>by
  rcases y with y|y
  ·exact(bz5 c_opens c_take c_statement x y lo).trans (by rw[ai2,vC,wY];exact bv6 _ _ _ _ _ _ _)
  ·exact(cc3 c_opens c_take c_statement x y lo).trans (by rw[ai2,vC,wY];exact cb8 _ _ _ _ _ _ _)) (fun z=>by rcases z with z|z|z<;>kernel_rfl) q
def nJ{β:Type}(c_opens:mA→Option mC)(c_take:iH→Option iG)(c_statement:dA→Option aL)(l_blockR_l0:aS→Option jB)(x:fG)(dn:yP→Option β):Option β:=
 (c_opens (⟨#[123]⟩,x)).bind fun z12=>Sum.elim (fun z12a=>(l_blockR_l0 (.inl (z12a.2.2.1,z12a.2.2.2.1,z12a.2.2.2.2.1,z12a.2.2.2.2.2.1,z12a.2.2.2.2.2.2.1,z12a.1,z12a.2.1,z12a.2.2.2.2.2.2.2.1,z12a.2.2.2.2.2.2.2.2.2.1,z12a.2.2.2.2.2.2.2.2.1,z12a.2.2.2.2.2.2.2.2.2.2))).bind fun z394=>Sum.elim (fun z394a=>dn (.inr (.inr z394a))) (fun z394b=>Sum.elim (fun z394ba=>dn (.inl (14,0,⟨#[]⟩,z394ba.2.2.2.2.2.1,w (z394ba.2.2.2.2.2.2.1-1),z394ba.1,z394ba.2.1,z394ba.2.2.1,z394ba.2.2.2.1,z394ba.2.2.2.2.1,z394ba.2.2.2.2.2.2.2.1,z394ba.2.2.2.2.2.2.2.2.2.1,z394ba.2.2.2.2.2.2.2.2.1,z394ba.2.2.2.2.2.2.2.2.2.2))) (fun z394bb=>dn (.inr (.inl (14,0,⟨#[]⟩,z394bb.2.2.2.2.2.2.2.2.2.2.2.1,fun j=>[i64 (z394bb.2.2.2.2.2.2.2.2.2.2.2.2.1 j),i64 (z394bb.2.2.2.2.2.2.2.2.2.2.2.2.2.1 j),st (z394bb.2.2.2.2.2.2.2.2.2.2.2.2.2.2.1 j),V.ro 4 (z394bb.2.2.2.2.2.2.2.2.2.2.2.2.2.2.2.1 j) (z394bb.2.2.2.2.2.2.2.2.2.2.2.2.2.2.2.2 j)],z394bb.2.2.2.2.2.1,w (z394bb.2.2.2.2.2.2.1-1),z394bb.1,z394bb.2.1,z394bb.2.2.1,z394bb.2.2.2.1,z394bb.2.2.2.2.1,z394bb.2.2.2.2.2.2.2.1,z394bb.2.2.2.2.2.2.2.2.2.1,z394bb.2.2.2.2.2.2.2.2.1,z394bb.2.2.2.2.2.2.2.2.2.2.1)))) z394b) z394) (fun z12b=>dn (.inr (.inr z12b))) z12
theorem eo1{β:Type}(c_opens c_take c_statement)(l_blockR_l0)(x)(dn:yP→Option β):nJ c_opens c_take c_statement l_blockR_l0 x dn=(nJ c_opens c_take c_statement l_blockR_l0 x some).bind dn:=by
 unfold nJ
 repeat' first|exact n0|refine n1 fun _=>?_|refine n2 ?_ ?_|refine n3 (fun _=>?_) fun _=>?_|rfl
theorem el5(c_opens c_take c_statement)(l_blockR_l0)(x):j8 E5 (ft2 87 bK kJ c_opens (ftb 84 t0 gG c_take (ft2 88 x5 eQ c_statement ca0))) (lt3 0 (fun _=>true) (b6 E5 45 0) (dB x) (jD x) l_blockR_l0 lo0) 45 (bk1 x).1 (bk1 x).2 K=nJ (vf bK c_opens) (vf t0 c_take) (vf x5 c_statement) (lf (b6 E5 45 0) (dB x) l_blockR_l0) x (fun z=>some (.c (bl3 z))):=by kernel_rfl
theorem ep4(c_opens)(h_opens:Lw E5 87 bK kJ c_opens)(c_take)(h_take:Lw E5 84 t0 gG c_take)(c_statement)(h_statement:Lw E5 88 x5 eQ c_statement)(q:Nat):Lw E5 45 bk1 bl3 fun x=>nJ c_opens c_take c_statement (lK c_opens c_take c_statement q x) x some:=sof hW5 hX5 (fk2 h_opens (fk h_take (fk2 h_statement a8))) (fun x=>(lk3 (co1 c_opens h_opens c_take h_take c_statement h_statement q x) b8)) fun x=>(el5 c_opens c_take c_statement (lK c_opens c_take c_statement q x) x).trans (by rw[ai2,vC,wY,ck7,eo1]<;>rfl)
noncomputable def iO{β:Type}(c_expr:iL→Option iM)(c_block:oP→Option oK)(c_take:iH→Option iG)(x:br3)(dn:tU→Option β):Option β:=
 (c_expr (1,w (x.1+1),x.2)).bind fun z12=>Sum.elim (fun z12a=>(c_block z12a.2.2.2.2.2).bind fun z24=>Sum.elim (fun z24a=>(c_take (⟨#[101,108,115,101]⟩,z24a.2.2.2.2.2)).bind fun z37=>if z37.1=true then(c_block z37.2).bind fun z49=>Sum.elim (fun z49a=>dn (.inl (3,0,⟨#[]⟩,fun j=>[i64 (if j<2 then if j<1 then z12a.1 else z24a.1 else z49a.1),i64 (if j<2 then if j<1 then z12a.2.1 else z24a.2.1 else z49a.2.1),st (if j<2 then if j<1 then z12a.2.2.1 else z24a.2.2.1 else z49a.2.2.1),V.ro 4 (if j<2 then if j<1 then z12a.2.2.2.1 else z24a.2.2.2.1 else z49a.2.2.2.1) fun j_1=>if j<2 then if j<1 then z12a.2.2.2.2.1 j_1 else z24a.2.2.2.2.1 j_1 else z49a.2.2.2.2.1 j_1],z49a.2.2.2.2.2))) (fun z49b=>dn (.inr z49b)) z49 else dn (.inl (3,0,⟨#[]⟩,fun j=>[i64 (if j<2 then if j<1 then z12a.1 else z24a.1 else 14),i64 (if j<2 then if j<1 then z12a.2.1 else z24a.2.1 else 0),st (if j<2 then if j<1 then z12a.2.2.1 else z24a.2.2.1 else⟨#[]⟩),Decidable.rec (fun(h:¬j<1+1)=>g9) (fun(h:j<1+1)=>ar1 (j<1) (V.ro 4 z12a.2.2.2.1 z12a.2.2.2.2.1) (V.ro 4 z24a.2.2.2.1 z24a.2.2.2.2.1)) (Nat.decLt j (1+1))],z37.2))) (fun z24b=>dn (.inr z24b)) z24) (fun z12b=>dn (.inr z12b)) z12
theorem dr2{β:Type}(c_expr c_block c_take)(x)(dn:tU→Option β):iO c_expr c_block c_take x dn=(iO c_expr c_block c_take x some).bind dn:=by
 unfold iO
 repeat' first|exact n0|refine n1 fun _=>?_|refine n2 ?_ ?_|refine n3 (fun _=>?_) fun _=>?_|rfl
theorem eb1(c_expr c_block c_take)(x):j8 E5 (ft2 141 q9 dZ c_expr (ft2 45 dL mG c_block (ftb 84 t0 gG c_take ca0))) lo0 124 (ao4 x).1 (ao4 x).2 K=iO (vf q9 c_expr) (vf dL c_block) (vf t0 c_take) x (fun z=>some (.c (at6 z))):=by kernel_rfl
theorem dv1(c_expr)(h_expr:Lw E5 141 q9 dZ c_expr)(c_block)(h_block:Lw E5 45 dL mG c_block)(c_take)(h_take:Lw E5 84 t0 gG c_take)(q:Nat):Lw E5 124 ao4 at6 fun x=>iO c_expr c_block c_take x some:=sof hW5 hX5 (fk2 h_expr (fk2 h_block (fk h_take a8))) (fun _=>b8) fun x=>(eb1 c_expr c_block c_take x).trans (by rw[sP,az5,vC,dr2]<;>rfl)
def eT{β:Type}(c_number:qB→Option qL)(c_block:oP→Option oK)(x:bl4)(dn:pX→Option β):Option β:=
 (c_number (1,100,w (x.1+1),x.2)).bind fun z13=>Sum.elim (fun z13a=>(c_block z13a.2).bind fun z25=>Sum.elim (fun z25a=>dn (.inl (4,z13a.1,⟨#[]⟩,z25a))) (fun z25b=>dn (.inr z25b)) z25) (fun z13b=>dn (.inr z13b)) z13
theorem dc3{β:Type}(c_number c_block)(x)(dn:pX→Option β):eT c_number c_block x dn=(eT c_number c_block x some).bind dn:=by
 unfold eT
 repeat' first|exact n0|refine n1 fun _=>?_|refine n2 ?_ ?_|refine n3 (fun _=>?_) fun _=>?_|rfl
theorem de6(c_number c_block)(x):j8 E5 (ft2 142 eP tW c_number (ft2 45 dL mG c_block ca0)) lo0 125 (af5 x).1 (af5 x).2 K=eT (vf eP c_number) (vf dL c_block) x (fun z=>some (.c (ag1 z))):=by kernel_rfl
theorem cy3(c_number)(h_number:Lw E5 142 eP tW c_number)(c_block)(h_block:Lw E5 45 dL mG c_block)(q:Nat):Lw E5 125 af5 ag1 fun x=>eT c_number c_block x some:=sof hW5 hX5 (fk2 h_number (fk2 h_block a8)) (fun _=>b8) fun x=>(de6 c_number c_block x).trans (by rw[bd8,az5,dc3]<;>rfl)
def bS{β:Type}(c_next:v8→Option y5)(c_letS:bt4→Option bw6)(c_branch:wW→Option xN)(c_repeatS:uD→Option tA)(c_await:ba7→Option az8)(c_amount:ak1→Option al3)(c_single:ai7→Option ah6)(c_numbered:vB→Option uK)(c_assign:ak2→Option am6)(c_must:eU→Option fD)(x:ak7)(dn:dE→Option β):Option β:=
 (c_next x).bind fun z11=>if(z11.2.2.1.toList==ByteArray.toList ⟨#[108,101,116]⟩)=true then(c_letS z11.2.2.2.2).bind fun z23=>Sum.elim (fun z23a=>(c_must (⟨#[59]⟩,z23a.2.2.2.2.2)).bind fun z36=>Sum.elim (fun z36a=>dn (.inl (z23a.1,z23a.2.1,z23a.2.2.1,z23a.2.2.2.1,z23a.2.2.2.2.1,z36a))) (fun z36b=>dn (.inr z36b)) z36) (fun z23b=>dn (.inr z23b)) z23 else if(z11.2.2.1.toList==ByteArray.toList ⟨#[105,102]⟩)=true then(c_branch z11.2.2.2.2).bind fun z50=>Sum.elim (fun z50a=>dn (.inl z50a)) (fun z50b=>dn (.inr z50b)) z50 else if(z11.2.2.1.toList==ByteArray.toList ⟨#[114,101,112,101,97,116]⟩)=true then(c_repeatS z11.2.2.2.2).bind fun z63=>Sum.elim (fun z63a=>dn (.inl z63a)) (fun z63b=>dn (.inr z63b)) z63 else if(z11.2.2.1.toList==ByteArray.toList ⟨#[97,119,97,105,116]⟩)=true then(c_await z11.2.2.2.2).bind fun z76=>Sum.elim (fun z76a=>(c_must (⟨#[59]⟩,z76a.2.2.2.2.2)).bind fun z89=>Sum.elim (fun z89a=>dn (.inl (z76a.1,z76a.2.1,z76a.2.2.1,z76a.2.2.2.1,z76a.2.2.2.2.1,z89a))) (fun z89b=>dn (.inr z89b)) z89) (fun z76b=>dn (.inr z76b)) z76 else if(z11.2.2.1.toList==ByteArray.toList ⟨#[119,97,105,116]⟩)=true then(c_amount z11.2.2.2.2).bind fun z103=>Sum.elim (fun z103a=>(c_must (⟨#[59]⟩,z103a.2.2.2.2.2)).bind fun z116=>Sum.elim (fun z116a=>dn (.inl (z103a.1,z103a.2.1,z103a.2.2.1,z103a.2.2.2.1,z103a.2.2.2.2.1,z116a))) (fun z116b=>dn (.inr z116b)) z116) (fun z103b=>dn (.inr z103b)) z103 else if(z11.2.2.1.toList==ByteArray.toList ⟨#[107,101,101,112]⟩)=true then(c_amount z11.2.2.2.2).bind fun z130=>Sum.elim (fun z130a=>(c_must (⟨#[59]⟩,z130a.2.2.2.2.2)).bind fun z143=>Sum.elim (fun z143a=>dn (.inl (z130a.1,z130a.2.1,z130a.2.2.1,z130a.2.2.2.1,z130a.2.2.2.2.1,z143a))) (fun z143b=>dn (.inr z143b)) z143) (fun z130b=>dn (.inr z130b)) z130 else if(z11.2.2.1.toList==ByteArray.toList ⟨#[114,101,113,117,105,114,101]⟩)=true then(c_single z11.2.2.2.2).bind fun z157=>Sum.elim (fun z157a=>(c_must (⟨#[59]⟩,z157a.2.2.2.2.2)).bind fun z170=>Sum.elim (fun z170a=>dn (.inl (z157a.1,z157a.2.1,z157a.2.2.1,z157a.2.2.2.1,z157a.2.2.2.2.1,z170a))) (fun z170b=>dn (.inr z170b)) z170) (fun z157b=>dn (.inr z157b)) z157 else if(z11.2.2.1.toList==ByteArray.toList ⟨#[112,111,105,110,116]⟩)=true then(c_single z11.2.2.2.2).bind fun z184=>Sum.elim (fun z184a=>(c_must (⟨#[59]⟩,z184a.2.2.2.2.2)).bind fun z197=>Sum.elim (fun z197a=>dn (.inl (z184a.1,z184a.2.1,z184a.2.2.1,z184a.2.2.2.1,z184a.2.2.2.2.1,z197a))) (fun z197b=>dn (.inr z197b)) z197) (fun z184b=>dn (.inr z184b)) z184 else if(z11.2.2.1.toList==ByteArray.toList ⟨#[117,115,101]⟩)=true then(c_numbered z11.2.2.2.2).bind fun z211=>Sum.elim (fun z211a=>(c_must (⟨#[59]⟩,z211a.2.2.2.2.2)).bind fun z224=>Sum.elim (fun z224a=>dn (.inl (z211a.1,z211a.2.1,z211a.2.2.1,z211a.2.2.2.1,z211a.2.2.2.2.1,z224a))) (fun z224b=>dn (.inr z224b)) z224) (fun z211b=>dn (.inr z211b)) z211 else if(z11.2.2.1.toList==ByteArray.toList ⟨#[115,101,110,100]⟩)=true then(c_numbered z11.2.2.2.2).bind fun z238=>Sum.elim (fun z238a=>(c_must (⟨#[59]⟩,z238a.2.2.2.2.2)).bind fun z251=>Sum.elim (fun z251a=>dn (.inl (z238a.1,z238a.2.1,z238a.2.2.1,z238a.2.2.2.1,z238a.2.2.2.2.1,z251a))) (fun z251b=>dn (.inr z251b)) z251) (fun z238b=>dn (.inr z238b)) z238 else if(z11.2.2.1.toList==ByteArray.toList ⟨#[101,109,105,116]⟩)=true then(c_numbered z11.2.2.2.2).bind fun z265=>Sum.elim (fun z265a=>(c_must (⟨#[59]⟩,z265a.2.2.2.2.2)).bind fun z278=>Sum.elim (fun z278a=>dn (.inl (z265a.1,z265a.2.1,z265a.2.2.1,z265a.2.2.2.1,z265a.2.2.2.2.1,z278a))) (fun z278b=>dn (.inr z278b)) z278) (fun z265b=>dn (.inr z265b)) z265 else if(z11.2.2.1.toList==ByteArray.toList ⟨#[97,98,111,114,116]⟩)=true then(c_numbered z11.2.2.2.2).bind fun z292=>Sum.elim (fun z292a=>(c_must (⟨#[59]⟩,z292a.2.2.2.2.2)).bind fun z305=>Sum.elim (fun z305a=>dn (.inl (z292a.1,z292a.2.1,z292a.2.2.1,z292a.2.2.2.1,z292a.2.2.2.2.1,z305a))) (fun z305b=>dn (.inr z305b)) z305) (fun z292b=>dn (.inr z292b)) z292 else(c_assign z11.2.2.2.2).bind fun z319=>Sum.elim (fun z319a=>(c_must (⟨#[59]⟩,z319a.2.2.2.2.2)).bind fun z332=>Sum.elim (fun z332a=>dn (.inl (z319a.1,z319a.2.1,z319a.2.2.1,z319a.2.2.2.1,z319a.2.2.2.2.1,z332a))) (fun z332b=>dn (.inr z332b)) z332) (fun z319b=>dn (.inr z319b)) z319
theorem by5{β:Type}(c_next c_letS)(c_branch c_repeatS)(c_await c_amount)(c_single c_numbered)(c_assign c_must)(x)(dn:dE→Option β):bS c_next c_letS c_branch c_repeatS c_await c_amount c_single c_numbered c_assign c_must x dn=(bS c_next c_letS c_branch c_repeatS c_await c_amount c_single c_numbered c_assign c_must x some).bind dn:=by
 unfold bS
 repeat' first|exact n0|refine n1 fun _=>?_|refine n2 ?_ ?_|refine n3 (fun _=>?_) fun _=>?_|rfl
theorem cd0(c_next c_letS)(c_branch c_repeatS)(c_await c_amount)(c_single c_numbered)(c_assign c_must)(x):j8 E5 (ftb 18 g8 s6 c_next (ft2 123 bi5 cb5 c_letS (ft2 124 tG am7 c_branch (ft2 125 pL zT c_repeatS (ft2 126 ak9 az4 c_await (ft2 127 yD ai3 c_amount (ft2 128 xK an2 c_single (ft2 129 pU vX c_numbered (ft2 130 wV ah0 c_assign (ft2 41 p8 eX c_must ca0)))))))))) lo0 88 (uS x).1 (uS x).2 K=bS (vf g8 c_next) (vf bi5 c_letS) (vf tG c_branch) (vf pL c_repeatS) (vf ak9 c_await) (vf yD c_amount) (vf xK c_single) (vf pU c_numbered) (vf wV c_assign) (vf p8 c_must) x (fun z=>some (.c (uW z))):=by kernel_rfl
theorem bw5(c_next)(h_next:Lw E5 18 g8 s6 c_next)(c_letS)(h_letS:Lw E5 123 bi5 cb5 c_letS)(c_branch)(h_branch:Lw E5 124 tG am7 c_branch)(c_repeatS)(h_repeatS:Lw E5 125 pL zT c_repeatS)(c_await)(h_await:Lw E5 126 ak9 az4 c_await)(c_amount)(h_amount:Lw E5 127 yD ai3 c_amount)(c_single)(h_single:Lw E5 128 xK an2 c_single)(c_numbered)(h_numbered:Lw E5 129 pU vX c_numbered)(c_assign)(h_assign:Lw E5 130 wV ah0 c_assign)(c_must)(h_must:Lw E5 41 p8 eX c_must)(q:Nat):Lw E5 88 uS uW fun x=>bS c_next c_letS c_branch c_repeatS c_await c_amount c_single c_numbered c_assign c_must x some:=sof hW5 hX5 (fk h_next (fk2 h_letS (fk2 h_branch (fk2 h_repeatS (fk2 h_await (fk2 h_amount (fk2 h_single (fk2 h_numbered (fk2 h_assign (fk2 h_must a8)))))))))) (fun _=>b8) fun x=>(cd0 c_next c_letS c_branch c_repeatS c_await c_amount c_single c_numbered c_assign c_must x).trans (by rw[eA,fi7,el7,dv8,es1,eq4,ee0,dh7,em1,pY,by5]<;>rfl)
def ag7:yP→oK:=Sum.elim (fun z=>.inl (z.1,z.2.1,z.2.2.1,0,fun _=>[],z.2.2.2)) (Sum.elim (fun z=>.inl z) (fun z=>.inr z))
theorem dt7{args:List V}{L:List (Option Chunk)}(z:yP)(h:SC E5 45 args L (bl3 z)):SC E5 45 args L (mG (ag7 z)):=by
 rcases z with z|z|z
 ·exact et0 h
 ·exact fk1 h
 ·exact h
def pM:tU→xN:=Sum.elim (fun z=>.inl (z.1,z.2.1,z.2.2.1,3,fun j=>fixC (z.2.2.2.1 j),z.2.2.2.2)) (fun z=>.inr z)
theorem dh2{args:List V}{L:List (Option Chunk)}(z:tU)(h:SC E5 124 args L (at6 z)):SC E5 124 args L (am7 (pM z)):=by
 rcases z with z|z
 ·exact fo5 h
 ·exact h
def uZ:pX→tA:=Sum.elim (fun z=>.inl (z.1,z.2.1,z.2.2.1,1,mP [[i64 z.2.2.2.1,i64 z.2.2.2.2.1,st z.2.2.2.2.2.1,.ro 4 z.2.2.2.2.2.2.1 z.2.2.2.2.2.2.2.1]],z.2.2.2.2.2.2.2.2)) (fun z=>.inr z)
theorem cj5{args:List V}{L:List (Option Chunk)}(z:pX)(h:SC E5 125 args L (ag1 z)):SC E5 125 args L (zT (uZ z)):=by
 rcases z with z|z
 ·exact ce2 h
 ·exact h
def bX:dE→aL:=Sum.elim (fun z=>.inl z) (fun z=>.inr z)
theorem bl9{args:List V}{L:List (Option Chunk)}(z:dE)(h:SC E5 88 args L (uW z)):SC E5 88 args L (eQ (bX z)):=by
 rcases z with z|z
 ·exact h
 ·exact h
noncomputable def stS:Nat→(oP→Option oK)×(wW→Option xN)×(uD→Option tA)×(dA→Option aL)
 |0=>(fun _=>none,fun _=>none,fun _=>none,fun _=>none)
 |q+1=>(fun x=>(nJ ((qD q)) ((take q)) ((stS q).2.2.2) (lK ((qD q)) ((take q)) ((stS q).2.2.2) q x) x some).map ag7,
  fun x=>(iO ((wB q)) ((stS q).1) ((take q)) x some).map pM,
  fun x=>(eT ((nM q)) ((stS q).1) x some).map uZ,
  fun x=>(bS ((next q)) ((ds8 q)) ((stS q).2.1) ((stS q).2.2.1) ((aw4 q)) ((ao7 q)) ((ar7 q)) ((numbered q)) ((assign q)) ((iF q)) x some).map bX)
theorem ec6:∀q,(∀x z,(stS q).1 x=some z→SC E5 45 (dL x).1 (dL x).2 (mG z))∧(∀x z,(stS q).2.1 x=some z→SC E5 124 (tG x).1 (tG x).2 (am7 z))∧(∀x z,(stS q).2.2.1 x=some z→SC E5 125 (pL x).1 (pL x).2 (zT z))∧(∀x z,(stS q).2.2.2 x=some z→SC E5 88 (x5 x).1 (x5 x).2 (eQ z))
 |0=>⟨(fun x z h=>by cases h),(fun x z h=>by cases h),(fun x z h=>by cases h),(fun x z h=>by cases h)⟩
 |q+1=>by
  obtain⟨h0,h1,h2,h3⟩:=ec6 q
  exact⟨(fun x z h=>by
   obtain⟨y,hy,rfl⟩:=Option.map_eq_some_iff.1 h
   exact dt7 y (ep4 ((qD q)) ((bl1 q)) ((take q)) ((zI q)) ((stS q).2.2.2) (h3) q x y hy)),(fun x z h=>by
   obtain⟨y,hy,rfl⟩:=Option.map_eq_some_iff.1 h
   exact dh2 y (dv1 ((wB q)) ((aj7 q)) ((stS q).1) (h0) ((take q)) ((zI q)) q x y hy)),(fun x z h=>by
   obtain⟨y,hy,rfl⟩:=Option.map_eq_some_iff.1 h
   exact cj5 y (cy3 ((nM q)) ((ap5 q)) ((stS q).1) (h0) q x y hy)),(fun x z h=>by
   obtain⟨y,hy,rfl⟩:=Option.map_eq_some_iff.1 h
   exact bl9 y (bw5 ((next q)) ((gW q)) ((ds8 q)) ((eu8 q)) ((stS q).2.1) (h1) ((stS q).2.2.1) (h2) ((aw4 q)) ((ec9 q)) ((ao7 q)) ((dq8 q)) ((ar7 q)) ((dq6 q)) ((numbered q)) ((cj9 q)) ((assign q)) ((dr1 q)) ((iF q)) ((mD q)) q x y hy))⟩
noncomputable def block(q:Nat):oP→Option oK:=(stS q).1
theorem cm2(q:Nat):Lw E5 45 dL mG (block q):=(ec6 q).1
noncomputable def ed7(q:Nat):wW→Option xN:=(stS q).2.1
noncomputable def dl3(q:Nat):uD→Option tA:=(stS q).2.2.1
noncomputable def tX(q:Nat):dA→Option aL:=(stS q).2.2.2
end Go.Proofs.YtcijknknahbbnaaGreatDoor
/- Procedures, lifted. -/
namespace Go.Proofs.YtcijknknahbbnaaGreatDoor
open Go Go.Am Go.Proofs
set_option maxRecDepth 100000
abbrev aT:Type:=SP
abbrev pA:Type:=(SP)⊕(Nat×FS×FS×SP)⊕(Int×Int)
def an8:AR aT:=fun x=>([.ptr 0 0],[some (.blk [.ro 4 x.2.2.1 (fun j=>[i64 (x.2.2.2.1 j),i64 (x.2.2.2.2.1 j),st (x.2.2.2.2.2.1 j),i64 (x.2.2.2.2.2.2.1 j)]),i64 x.1,i64 x.2.1,.sl 2 1 0 x.2.2.2.2.2.2.2.1,.sl 1 1 0 x.2.2.2.2.2.2.2.2.2.1]),some (.row 9 1 x.2.2.2.2.2.2.2.2.2.1 (fun j=>[st (x.2.2.2.2.2.2.2.2.2.2 j)])),some (.row 9 1 x.2.2.2.2.2.2.2.1 (fun j=>[st (x.2.2.2.2.2.2.2.2.1 j)]))])
def aq2:pA→CRes:=Sum.elim (fun z:SP=>.ret g9 (hHP z)) (Sum.elim (fun z:Nat×FS×FS×SP=>.ret (.sl 3 2 0 z.1) [some (.blk [.ro 4 z.2.2.2.2.2.1 (fun j=>[i64 (z.2.2.2.2.2.2.1 j),i64 (z.2.2.2.2.2.2.2.1 j),st (z.2.2.2.2.2.2.2.2.1 j),i64 (z.2.2.2.2.2.2.2.2.2.1 j)]),i64 z.2.2.2.1,i64 z.2.2.2.2.1,.sl 1 1 0 z.2.2.2.2.2.2.2.2.2.2.1,.sl 2 1 0 z.2.2.2.2.2.2.2.2.2.2.2.2.1]),some (.row 9 1 z.2.2.2.2.2.2.2.2.2.2.1 (fun j=>[st (z.2.2.2.2.2.2.2.2.2.2.2.1 j)])),some (.row 9 1 z.2.2.2.2.2.2.2.2.2.2.2.2.1 (fun j=>[st (z.2.2.2.2.2.2.2.2.2.2.2.2.2 j)])),some (.row 82 2 z.1 (fun j=>[st (z.2.1 j),st (z.2.2.1 j)]))]) (fun z:Int×Int=>.pan (.ifc 67 (.agg [i64 z.1,i64 z.2]))))
abbrev u6:Type:=(SC2)⊕(Nat×FI×FI×FS×FI×Int×Int×Nat×Nat×FS×FS×FS×FS×Nat)
abbrev gD:Type:=(Int×Int)⊕(Nat×FI×FI×FS×FI×Int×Int×Nat×Nat×FS×FS×FS×FS×Nat)
def bn1(x:aT)(y:SC2):St:={fr:=[V.ptr 0 0,V.junk,V.junk,g9]++jk 54,H:=hp [some (hPB y),some (hPV y),some (ev6 y)],nx:=3,rt:=1,me:=44}
def bm4(s:St):SC2:=((kP (cb s 0 0)),dTI (cb s 0 0) 0,dTI (cb s 0 0) 1,dTS (cb s 0 0) 2,dTI (cb s 0 0) 3,vI (cb s 0 1),vI (cb s 0 2),fE (cb s 0 3),fE (cb s 0 4),dRS (s.H 1) 0,dRS (s.H 2) 0)
def bm0(x:aT)(y:Nat×FI×FI×FS×FI×Int×Int×Nat×Nat×FS×FS×FS×FS×Nat):St:={fr:=[V.ptr 0 0,V.junk,V.junk,V.sl 3 2 0 y.2.2.2.2.2.2.2.2.2.2.2.2.2]++jk 54,H:=hp [some (hPB y),some (hPV y),some (hPQ y),some (Chunk.row 82 2 y.2.2.2.2.2.2.2.2.2.2.2.2.2 fun j=>[st (y.2.2.2.2.2.2.2.2.2.2.2.1 j),st (y.2.2.2.2.2.2.2.2.2.2.2.2.1 j)])],nx:=4,rt:=1,me:=44}
def bm7(s:St):Nat×FI×FI×FS×FI×Int×Int×Nat×Nat×FS×FS×FS×FS×Nat:=((kP (cb s 0 0)),dTI (cb s 0 0) 0,dTI (cb s 0 0) 1,dTS (cb s 0 0) 2,dTI (cb s 0 0) 3,vI (cb s 0 1),vI (cb s 0 2),fE (cb s 0 3),fE (cb s 0 4),dRS (s.H 1) 0,dRS (s.H 2) 0,dRS (s.H 3) 0,dRS (s.H 3) 1,fE (s.fr.getD 3 .junk))
def bV(x:aT):u6→St:=(Sum.elim (bn1 x) (bm0 x))
def ce3(s:St):u6:=(match s.nx==3 with|true=>(.inl (bm4 s)) |false=>(.inr (bm7 s)))
theorem by8(x:aT):VL (bV x):=vl ce3 (fun y=>by rcases y with y|y<;>rfl)
def fI(x:aT):gD→Ex×St:=(Sum.elim (fun z=>(Ex.panic (V.ifc 67 (V.agg [i64 z.1,i64 z.2])),{fr:=[V.junk]++jk 57,H:=hp [none],nx:=1,rt:=1,me:=44})) (fun z=>(Ex.exit 0,{fr:=[V.ptr 0 0,V.junk,V.junk,V.sl 3 2 0 z.2.2.2.2.2.2.2.2.2.2.2.2.2]++jk 54,H:=hp [some (hPB z),some (hPV z),some (hPQ z),some (Chunk.row 82 2 z.2.2.2.2.2.2.2.2.2.2.2.2.2 fun j=>[st (z.2.2.2.2.2.2.2.2.2.2.2.1 j),st (z.2.2.2.2.2.2.2.2.2.2.2.2.1 j)])],nx:=4,rt:=1,me:=44})))
def dT{β:Type}(c_must:eU→Option fD)(c_take:iH→Option iG)(c_declare:r8→Option gF)(c_next:v8→Option y5)(c_Lookup:jW→Option kF)(c_fail:dY→Option dW)(x:aT)(y:SC2)(nx:u6→Option β)(dn:gD→Option β):Option β:=
 (c_declare (y.2.2.2.2.2.1,y.2.2.2.2.2.2.1,y.1,y.2.1,y.2.2.1,y.2.2.2.1,y.2.2.2.2.1,y.2.2.2.2.2.2.2.1,y.2.2.2.2.2.2.2.2.2.1,y.2.2.2.2.2.2.2.2.1,y.2.2.2.2.2.2.2.2.2.2)).bind fun z985=>Sum.elim (fun z985a=>(c_take (⟨#[58]⟩,z985a.2)).bind fun z998=>if z998.1=true then(c_next z998.2).bind fun z1010=>(c_Lookup z1010.2.2.1).bind fun z1012=>if(z1010.1 !=1)=true then(c_fail (11,z1010.2.2.2.2)).bind fun z1025=>dn (.inl z1025)else if(!z1012.2.2.2.2.2.2)=true then(c_fail (10,z1010.2.2.2.2)).bind fun z1038=>dn (.inl z1038)else(c_take (⟨#[44]⟩,w (z1010.2.2.2.2.1+1),z1010.2.2.2.2.2)).bind fun z1051=>if(!z1051.1)=true then dn (.inr (z1051.2.2.2.1,z1051.2.2.2.2.1,z1051.2.2.2.2.2.1,z1051.2.2.2.2.2.2.1,z1051.2.2.2.2.2.2.2.1,z1051.2.1,z1051.2.2.1,z1051.2.2.2.2.2.2.2.2.1,z1051.2.2.2.2.2.2.2.2.2.2.1,z1051.2.2.2.2.2.2.2.2.2.1,z1051.2.2.2.2.2.2.2.2.2.2.2,fun j=>z985a.1,fun j=>z1010.2.2.1,1))else nx (.inr (z1051.2.2.2.1,z1051.2.2.2.2.1,z1051.2.2.2.2.2.1,z1051.2.2.2.2.2.2.1,z1051.2.2.2.2.2.2.2.1,z1051.2.1,z1051.2.2.1,z1051.2.2.2.2.2.2.2.2.1,z1051.2.2.2.2.2.2.2.2.2.2.1,z1051.2.2.2.2.2.2.2.2.2.1,z1051.2.2.2.2.2.2.2.2.2.2.2,fun j=>z985a.1,fun j=>z1010.2.2.1,1))else(c_take (⟨#[44]⟩,z998.2)).bind fun z1064=>if(!z1064.1)=true then dn (.inr (z1064.2.2.2.1,z1064.2.2.2.2.1,z1064.2.2.2.2.2.1,z1064.2.2.2.2.2.2.1,z1064.2.2.2.2.2.2.2.1,z1064.2.1,z1064.2.2.1,z1064.2.2.2.2.2.2.2.2.1,z1064.2.2.2.2.2.2.2.2.2.2.1,z1064.2.2.2.2.2.2.2.2.2.1,z1064.2.2.2.2.2.2.2.2.2.2.2,fun j=>z985a.1,fun j=>⟨#[]⟩,1))else nx (.inr (z1064.2.2.2.1,z1064.2.2.2.2.1,z1064.2.2.2.2.2.1,z1064.2.2.2.2.2.2.1,z1064.2.2.2.2.2.2.2.1,z1064.2.1,z1064.2.2.1,z1064.2.2.2.2.2.2.2.2.1,z1064.2.2.2.2.2.2.2.2.2.2.1,z1064.2.2.2.2.2.2.2.2.2.1,z1064.2.2.2.2.2.2.2.2.2.2.2,fun j=>z985a.1,fun j=>⟨#[]⟩,1))) (fun z985b=>dn (.inl z985b)) z985
theorem bn7{β:Type}(c_must c_take)(c_declare c_next)(c_Lookup c_fail)(x)(y)(nx:u6→Option β)(dn):dT c_must c_take c_declare c_next c_Lookup c_fail x y nx dn=(dT c_must c_take c_declare c_next c_Lookup c_fail x y (fun y=>some (.inl y)) (fun z=>some (.inr z))).bind fun r=>Sum.elim nx dn r:=by
 unfold dT
 repeat' first|exact n0|refine n1 fun _=>?_|refine n2 ?_ ?_|refine n3 (fun _=>?_) fun _=>?_|rfl
theorem bm1(c_must c_take)(c_declare c_next)(c_Lookup c_fail)(x)(y)(lo:f7):r9 E5 (ft2 41 p8 eX c_must (ftb 84 t0 gG c_take (ft2 86 aV lV c_declare (ftb 18 g8 s6 c_next (ftb 20 cP qO c_Lookup (ftb 43 q8 gI c_fail ca0)))))) lo 0 9 (b6 E5 44 0) (bV x (.inl y)) (KCM [(0,9)] 4)=dT (vf p8 c_must) (vf t0 c_take) (vf aV c_declare) (vf g8 c_next) (vf cP c_Lookup) (vf q8 c_fail) x y (fun y=>lo 0 9 (b6 E5 44 0) (bV x y) (KCM [(0,9)] 4)) (fun z=>some (.l (fI x z).1 (fI x z).2)):=by kernel_rfl
def dS{β:Type}(c_must:eU→Option fD)(c_take:iH→Option iG)(c_declare:r8→Option gF)(c_next:v8→Option y5)(c_Lookup:jW→Option kF)(c_fail:dY→Option dW)(x:aT)(y:Nat×FI×FI×FS×FI×Int×Int×Nat×Nat×FS×FS×FS×FS×Nat)(nx:u6→Option β)(dn:gD→Option β):Option β:=
 (c_declare (y.2.2.2.2.2.1,y.2.2.2.2.2.2.1,y.1,y.2.1,y.2.2.1,y.2.2.2.1,y.2.2.2.2.1,y.2.2.2.2.2.2.2.1,y.2.2.2.2.2.2.2.2.2.1,y.2.2.2.2.2.2.2.2.1,y.2.2.2.2.2.2.2.2.2.2.1)).bind fun z1078=>Sum.elim (fun z1078a=>(c_take (⟨#[58]⟩,z1078a.2)).bind fun z1091=>if z1091.1=true then(c_next z1091.2).bind fun z1103=>(c_Lookup z1103.2.2.1).bind fun z1105=>if(z1103.1 !=1)=true then(c_fail (11,z1103.2.2.2.2)).bind fun z1118=>dn (.inl z1118)else if(!z1105.2.2.2.2.2.2)=true then(c_fail (10,z1103.2.2.2.2)).bind fun z1131=>dn (.inl z1131)else if(y.2.2.2.2.2.2.2.2.2.2.2.2.2+1)*32≤d9∧y.2.2.2.2.2.2.2.2.2.2.2.2.2+1≤maxLen∧y.2.2.2.2.2.2.2.2.2.2.2.2.2≤y.2.2.2.2.2.2.2.2.2.2.2.2.2 then(c_take (⟨#[44]⟩,w (z1103.2.2.2.2.1+1),z1103.2.2.2.2.2)).bind fun z1144=>if(!z1144.1)=true then dn (.inr (z1144.2.2.2.1,z1144.2.2.2.2.1,z1144.2.2.2.2.2.1,z1144.2.2.2.2.2.2.1,z1144.2.2.2.2.2.2.2.1,z1144.2.1,z1144.2.2.1,z1144.2.2.2.2.2.2.2.2.1,z1144.2.2.2.2.2.2.2.2.2.2.1,z1144.2.2.2.2.2.2.2.2.2.1,z1144.2.2.2.2.2.2.2.2.2.2.2,fun j=>if j<y.2.2.2.2.2.2.2.2.2.2.2.2.2 then y.2.2.2.2.2.2.2.2.2.2.2.1 j else z1078a.1,fun j=>if j<y.2.2.2.2.2.2.2.2.2.2.2.2.2 then y.2.2.2.2.2.2.2.2.2.2.2.2.1 j else z1103.2.2.1,y.2.2.2.2.2.2.2.2.2.2.2.2.2+1))else nx (.inr (z1144.2.2.2.1,z1144.2.2.2.2.1,z1144.2.2.2.2.2.1,z1144.2.2.2.2.2.2.1,z1144.2.2.2.2.2.2.2.1,z1144.2.1,z1144.2.2.1,z1144.2.2.2.2.2.2.2.2.1,z1144.2.2.2.2.2.2.2.2.2.2.1,z1144.2.2.2.2.2.2.2.2.2.1,z1144.2.2.2.2.2.2.2.2.2.2.2,fun j=>if j<y.2.2.2.2.2.2.2.2.2.2.2.2.2 then y.2.2.2.2.2.2.2.2.2.2.2.1 j else z1078a.1,fun j=>if j<y.2.2.2.2.2.2.2.2.2.2.2.2.2 then y.2.2.2.2.2.2.2.2.2.2.2.2.1 j else z1103.2.2.1,y.2.2.2.2.2.2.2.2.2.2.2.2.2+1))else none else if(y.2.2.2.2.2.2.2.2.2.2.2.2.2+1)*32≤d9∧y.2.2.2.2.2.2.2.2.2.2.2.2.2+1≤maxLen∧y.2.2.2.2.2.2.2.2.2.2.2.2.2≤y.2.2.2.2.2.2.2.2.2.2.2.2.2 then(c_take (⟨#[44]⟩,z1091.2)).bind fun z1157=>if(!z1157.1)=true then dn (.inr (z1157.2.2.2.1,z1157.2.2.2.2.1,z1157.2.2.2.2.2.1,z1157.2.2.2.2.2.2.1,z1157.2.2.2.2.2.2.2.1,z1157.2.1,z1157.2.2.1,z1157.2.2.2.2.2.2.2.2.1,z1157.2.2.2.2.2.2.2.2.2.2.1,z1157.2.2.2.2.2.2.2.2.2.1,z1157.2.2.2.2.2.2.2.2.2.2.2,fun j=>if j<y.2.2.2.2.2.2.2.2.2.2.2.2.2 then y.2.2.2.2.2.2.2.2.2.2.2.1 j else z1078a.1,fun j=>if j<y.2.2.2.2.2.2.2.2.2.2.2.2.2 then y.2.2.2.2.2.2.2.2.2.2.2.2.1 j else⟨#[]⟩,y.2.2.2.2.2.2.2.2.2.2.2.2.2+1))else nx (.inr (z1157.2.2.2.1,z1157.2.2.2.2.1,z1157.2.2.2.2.2.1,z1157.2.2.2.2.2.2.1,z1157.2.2.2.2.2.2.2.1,z1157.2.1,z1157.2.2.1,z1157.2.2.2.2.2.2.2.2.1,z1157.2.2.2.2.2.2.2.2.2.2.1,z1157.2.2.2.2.2.2.2.2.2.1,z1157.2.2.2.2.2.2.2.2.2.2.2,fun j=>if j<y.2.2.2.2.2.2.2.2.2.2.2.2.2 then y.2.2.2.2.2.2.2.2.2.2.2.1 j else z1078a.1,fun j=>if j<y.2.2.2.2.2.2.2.2.2.2.2.2.2 then y.2.2.2.2.2.2.2.2.2.2.2.2.1 j else⟨#[]⟩,y.2.2.2.2.2.2.2.2.2.2.2.2.2+1))else none) (fun z1078b=>dn (.inl z1078b)) z1078
theorem bn3{β:Type}(c_must c_take)(c_declare c_next)(c_Lookup c_fail)(x)(y)(nx:u6→Option β)(dn):dS c_must c_take c_declare c_next c_Lookup c_fail x y nx dn=(dS c_must c_take c_declare c_next c_Lookup c_fail x y (fun y=>some (.inl y)) (fun z=>some (.inr z))).bind fun r=>Sum.elim nx dn r:=by
 unfold dS
 repeat' first|exact n0|refine n1 fun _=>?_|refine n2 ?_ ?_|refine n3 (fun _=>?_) fun _=>?_|rfl
theorem bm8(c_must c_take)(c_declare c_next)(c_Lookup c_fail)(x)(y)(lo:f7):r9 E5 (ft2 41 p8 eX c_must (ftb 84 t0 gG c_take (ft2 86 aV lV c_declare (ftb 18 g8 s6 c_next (ftb 20 cP qO c_Lookup (ftb 43 q8 gI c_fail ca0)))))) lo 0 9 (b6 E5 44 0) (bV x (.inr y)) (KCM [(0,9)] 4)=dS (vf p8 c_must) (vf t0 c_take) (vf aV c_declare) (vf g8 c_next) (vf cP c_Lookup) (vf q8 c_fail) x y (fun y=>lo 0 9 (b6 E5 44 0) (bV x y) (KCM [(0,9)] 4)) (fun z=>some (.l (fI x z).1 (fI x z).2)):=by kernel_rfl
noncomputable def qV(c_must:eU→Option fD)(c_take:iH→Option iG)(c_declare:r8→Option gF)(c_next:v8→Option y5)(c_Lookup:jW→Option kF)(c_fail:dY→Option dW)(q:Nat)(x:aT):u6→Option gD:=lpG (Sum.elim (fun y=>dT c_must c_take c_declare c_next c_Lookup c_fail x y (fun y=>some (.inl y)) (fun z=>some (.inr z))) (fun y=>dS c_must c_take c_declare c_next c_Lookup c_fail x y (fun y=>some (.inl y)) (fun z=>some (.inr z)))) q
theorem bx4(c_must)(h_must:Lw E5 41 p8 eX c_must)(c_take)(h_take:Lw E5 84 t0 gG c_take)(c_declare)(h_declare:Lw E5 86 aV lV c_declare)(c_next)(h_next:Lw E5 18 g8 s6 c_next)(c_Lookup)(h_Lookup:Lw E5 20 cP qO c_Lookup)(c_fail)(h_fail:Lw E5 43 q8 gI c_fail)(q:Nat)(x:aT):Ll E5 (b6 E5 44 0) (bV x) (fI x) (qV c_must c_take c_declare c_next c_Lookup c_fail q x):=
 slp (fk2 h_must (fk h_take (fk2 h_declare (fk h_next (fk h_Lookup (fk h_fail a8)))))) hX5 (fun lo y=>by
  rcases y with y|y
  ·exact(bm1 c_must c_take c_declare c_next c_Lookup c_fail x y lo).trans (by rw[pY,vC,aa8,eA,ag5,rF];exact bn7 _ _ _ _ _ _ _ _ _ _)
  ·exact(bm8 c_must c_take c_declare c_next c_Lookup c_fail x y lo).trans (by rw[pY,vC,aa8,eA,ag5,rF];exact bn3 _ _ _ _ _ _ _ _ _ _)) (fun z=>by rcases z with z|z<;>kernel_rfl) q
def oZ{β:Type}(c_must:eU→Option fD)(c_take:iH→Option iG)(c_declare:r8→Option gF)(c_next:v8→Option y5)(c_Lookup:jW→Option kF)(c_fail:dY→Option dW)(l_paramsR_l0:u6→Option gD)(x:aT)(dn:pA→Option β):Option β:=
 (c_must (⟨#[40]⟩,x)).bind fun z12=>Sum.elim (fun z12a=>(c_take (⟨#[41]⟩,z12a)).bind fun z25=>if z25.1=true then dn (.inl z25.2)else(l_paramsR_l0 (.inl (z25.2.2.2.1,z25.2.2.2.2.1,z25.2.2.2.2.2.1,z25.2.2.2.2.2.2.1,z25.2.2.2.2.2.2.2.1,z25.2.1,z25.2.2.1,z25.2.2.2.2.2.2.2.2.1,z25.2.2.2.2.2.2.2.2.2.2.1,z25.2.2.2.2.2.2.2.2.2.1,z25.2.2.2.2.2.2.2.2.2.2.2))).bind fun z918=>Sum.elim (fun z918a=>dn (.inr (.inr z918a))) (fun z918b=>(c_must (⟨#[41]⟩,z918b.2.2.2.2.2.1,z918b.2.2.2.2.2.2.1,z918b.1,z918b.2.1,z918b.2.2.1,z918b.2.2.2.1,z918b.2.2.2.2.1,z918b.2.2.2.2.2.2.2.1,z918b.2.2.2.2.2.2.2.2.2.1,z918b.2.2.2.2.2.2.2.2.1,z918b.2.2.2.2.2.2.2.2.2.2.1)).bind fun z932=>Sum.elim (fun z932a=>dn (.inr (.inl (z918b.2.2.2.2.2.2.2.2.2.2.2.2.2,z918b.2.2.2.2.2.2.2.2.2.2.2.1,z918b.2.2.2.2.2.2.2.2.2.2.2.2.1,z932a)))) (fun z932b=>dn (.inr (.inr z932b))) z932) z918) (fun z12b=>dn (.inr (.inr z12b))) z12
theorem du2{β:Type}(c_must c_take)(c_declare c_next)(c_Lookup c_fail)(l_paramsR_l0)(x)(dn:pA→Option β):oZ c_must c_take c_declare c_next c_Lookup c_fail l_paramsR_l0 x dn=(oZ c_must c_take c_declare c_next c_Lookup c_fail l_paramsR_l0 x some).bind dn:=by
 unfold oZ
 repeat' first|exact n0|refine n1 fun _=>?_|refine n2 ?_ ?_|refine n3 (fun _=>?_) fun _=>?_|rfl
theorem dr8(c_must c_take)(c_declare c_next)(c_Lookup c_fail)(l_paramsR_l0)(x):j8 E5 (ft2 41 p8 eX c_must (ftb 84 t0 gG c_take (ft2 86 aV lV c_declare (ftb 18 g8 s6 c_next (ftb 20 cP qO c_Lookup (ftb 43 q8 gI c_fail ca0)))))) (lt2 0 (fun _=>true) (b6 E5 44 0) (bV x) (fI x) l_paramsR_l0 lo0) 44 (an8 x).1 (an8 x).2 K=oZ (vf p8 c_must) (vf t0 c_take) (vf aV c_declare) (vf g8 c_next) (vf cP c_Lookup) (vf q8 c_fail) (lf (b6 E5 44 0) (bV x) l_paramsR_l0) x (fun z=>some (.c (aq2 z))):=by kernel_rfl
noncomputable def ba2(q:Nat)(x:aT):Option pA:=oZ (iF q) (take q) (jY q) (next q) (qH q) (fail q) (qV (iF q) (take q) (jY q) (next q) (qH q) (fail q) q x) x some
theorem dh5(q:Nat):Lw E5 44 an8 aq2 (ba2 q):=sof hW5 hX5 (fk2 (mD q) (fk (zI q) (fk2 (ad0 q) (fk (gW q) (fk (aq5 q) (fk (mE q) a8)))))) (fun x=>(lk2 (bx4 (iF q) (mD q) (take q) (zI q) (jY q) (ad0 q) (next q) (gW q) (qH q) (aq5 q) (fail q) (mE q) q x) b8)) fun x=>(dr8 (iF q) (take q) (jY q) (next q) (qH q) (fail q) (qV (iF q) (take q) (jY q) (next q) (qH q) (fail q) q x) x).trans (by rw[pY,vC,aa8,eA,ag5,rF,by8,du2]<;>rfl)
abbrev tV:Type:=Int×Int×Nat×FI×FI×FS×FI×Nat×FS
abbrev sW:Type:=(Nat×FS×FS×SP)⊕(Int×Int)
def qI:AR tV:=fun x=>([.ptr 0 0],[some (.blk [.ro 4 x.2.2.1 (fun j=>[i64 (x.2.2.2.1 j),i64 (x.2.2.2.2.1 j),st (x.2.2.2.2.2.1 j),i64 (x.2.2.2.2.2.2.1 j)]),i64 x.1,i64 x.2.1,g9,.sl 1 1 0 x.2.2.2.2.2.2.2.1]),some (.row 9 1 x.2.2.2.2.2.2.2.1 (fun j=>[st (x.2.2.2.2.2.2.2.2 j)]))])
def ei9(t:TT):tV:=((vI (cc t 0 1)),vI (cc t 0 2),kP (cc t 0 0),dTI (cc t 0 0) 0,dTI (cc t 0 0) 1,dTS (cc t 0 0) 2,dTI (cc t 0 0) 3,fE (cc t 0 4),dRS (co t 1) 0)
theorem cg0:VI qI:=vd ei9 fun _=>rfl
def wS:sW→CRes:=Sum.elim (fun z:Nat×FS×FS×SP=>.ret (.ro 2 z.1 (fun j=>[st (z.2.1 j),st (z.2.2.1 j)])) (hHP z.2.2.2)) (fun z:Int×Int=>.pan (.ifc 67 (.agg [i64 z.1,i64 z.2])))
def zK:pA→sW:=Sum.elim (fun z=>.inl (0,fun _=>ByteArray.empty,fun _=>ByteArray.empty,z)) (Sum.elim (fun z=>.inl z) (fun z=>.inr z))
theorem dh3{args:List V}{L:List (Option Chunk)}(z:pA)(h:SC E5 44 args L (aq2 z)):SC E5 44 args L (wS (zK z)):=by
 rcases z with z|z|z
 ·exact SC.le h Le.nil_ro
 ·have h2:=SC.giveM (L2:=[some (.blk [.ro 4 z.2.2.2.2.2.1 (fun j=>[i64 (z.2.2.2.2.2.2.1 j),i64 (z.2.2.2.2.2.2.2.1 j),st (z.2.2.2.2.2.2.2.2.1 j),i64 (z.2.2.2.2.2.2.2.2.2.1 j)]),i64 z.2.2.2.1,i64 z.2.2.2.2.1,.sl 1 1 0 z.2.2.2.2.2.2.2.2.2.2.1,.sl 2 1 0 z.2.2.2.2.2.2.2.2.2.2.2.2.1]),some (.row 9 1 z.2.2.2.2.2.2.2.2.2.2.1 (fun j=>[st (z.2.2.2.2.2.2.2.2.2.2.2.1 j)])),some (.row 9 1 z.2.2.2.2.2.2.2.2.2.2.2.2.1 (fun j=>[st (z.2.2.2.2.2.2.2.2.2.2.2.2.2 j)]))]) 3 h (by rfl) (by simp[V.bw,V.bw2,V.bw1,hp,V.pure,j7])
  simp only[V.bw,V.bw2,V.bw1,hp,List.getD_eq_getElem?_getD,List.getElem?_cons_succ,List.getElem?_cons_zero,Option.getD_some,Nat.zero_add,Nat.le_refl,and_self,if_true]at h2
  exact h2
 ·exact h
noncomputable def params(q:Nat)(x:tV):Option sW:=(ba2 q (x.1,x.2.1,x.2.2.1,x.2.2.2.1,x.2.2.2.2.1,x.2.2.2.2.2.1,x.2.2.2.2.2.2.1,0,fun _=>ByteArray.empty,x.2.2.2.2.2.2.2)).map zK
theorem bo1(q:Nat):Lw E5 44 qI wS (params q):=by
 intro x z h
 obtain⟨y,hy,rfl⟩:=Option.map_eq_some_iff.1 h
 have:=dh3 y (dh5 q _ y hy)
 refine SC.virtB 0 [.ro 4 x.2.2.1 (fun j=>[i64 (x.2.2.2.1 j),i64 (x.2.2.2.2.1 j),st (x.2.2.2.2.2.1 j),i64 (x.2.2.2.2.2.2.1 j)]),i64 x.1,i64 x.2.1,.sl 2 1 0 0,.sl 1 1 0 x.2.2.2.2.2.2.2.1] 9 1 (fun j=>[st ByteArray.empty]) (by decide) this rfl (fun β S w us b hb hd=>?_) (by show 1≤2;decide) (by show 1≤1;decide)
 simp only[b7]at hd⊢
 obtain⟨u1,r1,rfl,h1,u2,r2,rfl,h2,u3,r3,rfl,h3,u4,r4,rfl,h4,u5,r5,rfl,h5,rfl⟩:=hd
 exact⟨u1,_,rfl,h1,u2,_,rfl,h2,u3,_,rfl,h3,u4,_,rfl,df9 (by show 2<3;decide) hb h4,u5,_,rfl,h5,rfl⟩
abbrev j5:Type:=SP
abbrev o0:Type:=(ByteArray×Nat×FS×FS×Int×Int×ByteArray×Nat×FL×SP)⊕(Int×Int)
def i8:AR j5:=fun x=>([.ptr 0 0],(hHP x))
def cx5(t:TT):j5:=(dHP t.2)
theorem jK:VI i8:=vd cx5 fun _=>rfl
def w7:o0→CRes:=Sum.elim (fun z:ByteArray×Nat×FS×FS×Int×Int×ByteArray×Nat×FL×SP=>.ret (.agg [st z.1,.ro 2 z.2.1 (fun j=>[st (z.2.2.1 j),st (z.2.2.2.1 j)]),i64 z.2.2.2.2.1,i64 z.2.2.2.2.2.1,st z.2.2.2.2.2.2.1,.ro 4 z.2.2.2.2.2.2.2.1 z.2.2.2.2.2.2.2.2.1]) (hHP z.2.2.2.2.2.2.2.2.2)) (fun z:Int×Int=>.pan (.ifc 67 (.agg [i64 z.1,i64 z.2])))
abbrev aX:Type:=Nat×Int×Nat×FI×FI×FS×FI×Int×Int×Nat×FS×FS×ByteArray×Int
abbrev jR:Type:=(Int×Int)⊕(Nat×FI×FI×FS×FI×Int×Int×Nat×Nat×FS×FS×ByteArray)
def cK(x:j5)(y:aX):St:={fr:=[V.ptr 0 0,V.junk,V.ptr 3 0,V.ptr 4 0]++jk 10++[V.sl 2 1 0 y.1,i64 y.2.1,i64 y.2.2.2.2.2.2.2.2.2.2.2.2.2]++jk 38,H:=hp [some (Chunk.blk [V.ro 4 y.2.2.1 fun j=>[i64 (y.2.2.2.1 j),i64 (y.2.2.2.2.1 j),st (y.2.2.2.2.2.1 j),i64 (y.2.2.2.2.2.2.1 j)],i64 y.2.2.2.2.2.2.2.1,i64 y.2.2.2.2.2.2.2.2.1,V.sl 1 1 0 y.2.2.2.2.2.2.2.2.2.1,V.sl 2 1 0 y.1]),some (Chunk.row 9 1 y.2.2.2.2.2.2.2.2.2.1 fun j=>[st (y.2.2.2.2.2.2.2.2.2.2.1 j)]),some (Chunk.row 9 1 y.1 fun j=>[st (y.2.2.2.2.2.2.2.2.2.2.2.1 j)]),some (Chunk.blk [st ⟨#[]⟩,g9,i64 0,i64 0,st ⟨#[]⟩,g9]),some (Chunk.blk [st y.2.2.2.2.2.2.2.2.2.2.2.2.1,g9,i64 0,i64 0,st ⟨#[]⟩,g9])],nx:=5,rt:=1,me:=19}
def bk4(s:St):aX:=((fE (s.fr.getD 14 .junk)),vI (s.fr.getD 15 .junk),kP (cb s 0 0),dTI (cb s 0 0) 0,dTI (cb s 0 0) 1,dTS (cb s 0 0) 2,dTI (cb s 0 0) 3,vI (cb s 0 1),vI (cb s 0 2),fE (cb s 0 3),dRS (s.H 1) 0,dRS (s.H 2) 0,vS (cb s 4 0),vI (s.fr.getD 16 .junk))
theorem bl0(x:j5):VL (cK x):=vl bk4 fun _=>rfl
def kG(x:j5):jR→Ex×St:=(Sum.elim (fun z=>(Ex.panic (V.ifc 67 (V.agg [i64 z.1,i64 z.2])),{fr:=[V.junk]++jk 54,H:=hp [none],nx:=1,rt:=1,me:=19})) (fun z=>(Ex.exit 0,{fr:=[V.ptr 0 0,V.junk,V.ptr 3 0,V.ptr 4 0]++jk 51,H:=hp [some (hPB z),some (hPV z),some (hPQ z),some (Chunk.blk [st ⟨#[]⟩,g9,i64 0,i64 0,st ⟨#[]⟩,g9]),some (Chunk.blk [st z.2.2.2.2.2.2.2.2.2.2.2,g9,i64 0,i64 0,st ⟨#[]⟩,g9])],nx:=5,rt:=1,me:=19})))
def y4{β:Type}(c_must:eU→Option fD)(c_name:nN→Option nT)(c_fail:dY→Option dW)(c_params:tV→Option sW)(c_block:oP→Option oK)(x:j5)(y:aX)(nx:aX→Option β)(dn:jR→Option β):Option β:=
 if decide (y.2.2.2.2.2.2.2.2.2.2.2.2.2<y.2.1)=true then if 0≤y.2.2.2.2.2.2.2.2.2.2.2.2.2∧y.2.2.2.2.2.2.2.2.2.2.2.2.2< ((y.1:Nat):Int)then if 0+Int.toNat y.2.2.2.2.2.2.2.2.2.2.2.2.2<y.1∧1=1 then if(ByteArray.toList (y.2.2.2.2.2.2.2.2.2.2.2.1 (0+Int.toNat y.2.2.2.2.2.2.2.2.2.2.2.2.2))==y.2.2.2.2.2.2.2.2.2.2.2.2.1.toList)=true then(c_fail (4,w (y.2.2.2.2.2.2.2.1-1),y.2.2.2.2.2.2.2.2.1,y.2.2.1,y.2.2.2.1,y.2.2.2.2.1,y.2.2.2.2.2.1,y.2.2.2.2.2.2.1,y.2.2.2.2.2.2.2.2.2.1,y.2.2.2.2.2.2.2.2.2.2.1,y.1,y.2.2.2.2.2.2.2.2.2.2.2.1)).bind fun z195=>dn (.inl z195)else nx (y.1,y.2.1,y.2.2.1,y.2.2.2.1,y.2.2.2.2.1,y.2.2.2.2.2.1,y.2.2.2.2.2.2.1,y.2.2.2.2.2.2.2.1,y.2.2.2.2.2.2.2.2.1,y.2.2.2.2.2.2.2.2.2.1,y.2.2.2.2.2.2.2.2.2.2.1,y.2.2.2.2.2.2.2.2.2.2.2.1,y.2.2.2.2.2.2.2.2.2.2.2.2.1,w (y.2.2.2.2.2.2.2.2.2.2.2.2.2+1))else none else none else dn (.inr (y.2.2.1,y.2.2.2.1,y.2.2.2.2.1,y.2.2.2.2.2.1,y.2.2.2.2.2.2.1,y.2.2.2.2.2.2.2.1,y.2.2.2.2.2.2.2.2.1,y.2.2.2.2.2.2.2.2.2.1,y.1,y.2.2.2.2.2.2.2.2.2.2.1,y.2.2.2.2.2.2.2.2.2.2.2.1,y.2.2.2.2.2.2.2.2.2.2.2.2.1))
theorem bc9{β:Type}(c_must c_name)(c_fail c_params c_block)(x)(y)(nx:aX→Option β)(dn):y4 c_must c_name c_fail c_params c_block x y nx dn=(y4 c_must c_name c_fail c_params c_block x y (fun y=>some (.inl y)) (fun z=>some (.inr z))).bind fun r=>Sum.elim nx dn r:=by
 unfold y4
 repeat' first|exact n0|refine n1 fun _=>?_|refine n2 ?_ ?_|refine n3 (fun _=>?_) fun _=>?_|rfl
theorem bd2(c_must c_name)(c_fail c_params c_block)(x)(y)(lo:f7):r9 E5 (ft2 41 p8 eX c_must (ft2 42 dF rA c_name (ftb 43 q8 gI c_fail (fg2 44 (fun _ L=>L.length==2) qI wS c_params (ft2 45 dL mG c_block ca0))))) lo 0 114701 (b6 E5 19 0) (cK x y) (KCM [(0,13)] 4)=y4 (vf p8 c_must) (vf dF c_name) (vf q8 c_fail) (vf qI c_params) (vf dL c_block) x y (fun y=>lo 0 114701 (b6 E5 19 0) (cK x y) (KCM [(0,13)] 4)) (fun z=>some (.l (kG x z).1 (kG x z).2)):=by kernel_rfl
noncomputable def oO(c_must:eU→Option fD)(c_name:nN→Option nT)(c_fail:dY→Option dW)(c_params:tV→Option sW)(c_block:oP→Option oK)(q:Nat)(x:j5):aX→Option jR:=lpG (fun y=>y4 c_must c_name c_fail c_params c_block x y (fun y=>some (.inl y)) (fun z=>some (.inr z))) q
theorem bd4(c_must)(h_must:Lw E5 41 p8 eX c_must)(c_name)(h_name:Lw E5 42 dF rA c_name)(c_fail)(h_fail:Lw E5 43 q8 gI c_fail)(c_params)(h_params:Lw E5 44 qI wS c_params)(c_block)(h_block:Lw E5 45 dL mG c_block)(q:Nat)(x:j5):Ll E5 (b6 E5 19 0) (cK x) (kG x) (oO c_must c_name c_fail c_params c_block q x):=
 slp (fk2 h_must (fk2 h_name (fk h_fail (fk2 h_params (fk2 h_block a8))))) hX5 (fun lo y=>(bd2 c_must c_name c_fail c_params c_block x y lo).trans (by rw[pY,au8,rF,cg0,az5];exact bc9 _ _ _ _ _ _ _ _ _)) (fun z=>by rcases z with z|z<;>kernel_rfl) q
def jA{β:Type}(c_must:eU→Option fD)(c_name:nN→Option nT)(c_fail:dY→Option dW)(c_params:tV→Option sW)(c_block:oP→Option oK)(l_procedure_l0:aX→Option jR)(x:j5)(dn:o0→Option β):Option β:=
 (c_must (⟨#[112,114,111,99,101,100,117,114,101]⟩,x)).bind fun z12=>Sum.elim (fun z12a=>(c_name z12a).bind fun z24=>Sum.elim (fun z24a=>(l_procedure_l0 (z24a.2.2.2.2.2.2.2.2.2.2.1,((z24a.2.2.2.2.2.2.2.2.2.2.1:Nat):Int),z24a.2.2.2.1,z24a.2.2.2.2.1,z24a.2.2.2.2.2.1,z24a.2.2.2.2.2.2.1,z24a.2.2.2.2.2.2.2.1,z24a.2.1,z24a.2.2.1,z24a.2.2.2.2.2.2.2.2.1,z24a.2.2.2.2.2.2.2.2.2.1,z24a.2.2.2.2.2.2.2.2.2.2.2,z24a.1,0)).bind fun z121=>Sum.elim (fun z121a=>dn (.inr z121a)) (fun z121b=>if(z121b.2.2.2.2.2.2.2.2.1+1)*16≤d9∧z121b.2.2.2.2.2.2.2.2.1+1≤maxLen∧z121b.2.2.2.2.2.2.2.2.1≤z121b.2.2.2.2.2.2.2.2.1 then(c_params (z121b.2.2.2.2.2.1,z121b.2.2.2.2.2.2.1,z121b.1,z121b.2.1,z121b.2.2.1,z121b.2.2.2.1,z121b.2.2.2.2.1,z121b.2.2.2.2.2.2.2.2.1+1,fun j=>if j<z121b.2.2.2.2.2.2.2.2.1 then z121b.2.2.2.2.2.2.2.2.2.2.1 j else z121b.2.2.2.2.2.2.2.2.2.2.2)).bind fun z132=>Sum.elim (fun z132a=>(c_block z132a.2.2.2).bind fun z144=>Sum.elim (fun z144a=>dn (.inl (z121b.2.2.2.2.2.2.2.2.2.2.2,z132a.1,z132a.2.1,z132a.2.2.1,z144a))) (fun z144b=>dn (.inr z144b)) z144) (fun z132b=>dn (.inr z132b)) z132 else none) z121) (fun z24b=>dn (.inr z24b)) z24) (fun z12b=>dn (.inr z12b)) z12
theorem cu5{β:Type}(c_must c_name)(c_fail c_params c_block)(l_procedure_l0)(x)(dn:o0→Option β):jA c_must c_name c_fail c_params c_block l_procedure_l0 x dn=(jA c_must c_name c_fail c_params c_block l_procedure_l0 x some).bind dn:=by
 unfold jA
 repeat' first|exact n0|refine n1 fun _=>?_|refine n2 ?_ ?_|refine n3 (fun _=>?_) fun _=>?_|rfl
theorem ch4(c_must c_name)(c_fail c_params c_block)(l_procedure_l0)(x):j8 E5 (ft2 41 p8 eX c_must (ft2 42 dF rA c_name (ftb 43 q8 gI c_fail (fg2 44 (fun _ L=>L.length==2) qI wS c_params (ft2 45 dL mG c_block ca0))))) (lt2 0 (fun _=>true) (b6 E5 19 0) (cK x) (kG x) l_procedure_l0 lo0) 19 (i8 x).1 (i8 x).2 K=jA (vf p8 c_must) (vf dF c_name) (vf q8 c_fail) (vf qI c_params) (vf dL c_block) (lf (b6 E5 19 0) (cK x) l_procedure_l0) x (fun z=>some (.c (w7 z))):=by kernel_rfl
noncomputable def aC(q:Nat)(x:j5):Option o0:=jA (iF q) (name q) (fail q) (params q) (block q) (oO (iF q) (name q) (fail q) (params q) (block q) q x) x some
theorem oG(q:Nat):Lw E5 19 i8 w7 (aC q):=sof hW5 hX5 (fk2 (mD q) (fk2 (zU q) (fk (mE q) (fk2 (bo1 q) (fk2 (cm2 q) a8))))) (fun x=>(lk2 (bd4 (iF q) (mD q) (name q) (zU q) (fail q) (mE q) (params q) (bo1 q) (block q) (cm2 q) q x) b8)) fun x=>(ch4 (iF q) (name q) (fail q) (params q) (block q) (oO (iF q) (name q) (fail q) (params q) (block q) q x) x).trans (by rw[pY,au8,rF,cg0,az5,bl0,cu5]<;>rfl)
abbrev p9:Type:=Int×Int×Nat×FI×FI×FS×FI
abbrev v7:Type:=(ByteArray×Nat×FS×FS×Int×Int×ByteArray×Nat×FL×SP)⊕(Int×Int)
def i6:AR p9:=fun x=>([.ptr 0 0],[some (.blk [.ro 4 x.2.2.1 (fun j=>[i64 (x.2.2.2.1 j),i64 (x.2.2.2.2.1 j),st (x.2.2.2.2.2.1 j),i64 (x.2.2.2.2.2.2 j)]),i64 x.1,i64 x.2.1,g9,g9])])
def cc4(t:TT):p9:=((vI (cc t 0 1)),vI (cc t 0 2),kP (cc t 0 0),dTI (cc t 0 0) 0,dTI (cc t 0 0) 1,dTS (cc t 0 0) 2,dTI (cc t 0 0) 3)
theorem fM:VI i6:=vd cc4 fun _=>rfl
def q7:v7→CRes:=Sum.elim (fun z:ByteArray×Nat×FS×FS×Int×Int×ByteArray×Nat×FL×SP=>.ret (.agg [st z.1,.ro 2 z.2.1 (fun j=>[st (z.2.2.1 j),st (z.2.2.2.1 j)]),i64 z.2.2.2.2.1,i64 z.2.2.2.2.2.1,st z.2.2.2.2.2.2.1,.ro 4 z.2.2.2.2.2.2.2.1 z.2.2.2.2.2.2.2.2.1]) (hHP z.2.2.2.2.2.2.2.2.2)) (fun z:Int×Int=>.pan (.ifc 67 (.agg [i64 z.1,i64 z.2])))
noncomputable def t7(q:Nat)(x:p9):Option v7:=aC q (x.1,x.2.1,x.2.2.1,x.2.2.2.1,x.2.2.2.2.1,x.2.2.2.2.2.1,x.2.2.2.2.2.2,0,fun _=>ByteArray.empty,0,fun _=>ByteArray.empty)
theorem sN(q:Nat):Lw E5 19 i6 q7 (t7 q):=by
 intro x z h
 have this:=oG q _ z h
 refine SC.virtB 0 [.ro 4 x.2.2.1 (fun j=>[i64 (x.2.2.2.1 j),i64 (x.2.2.2.2.1 j),st (x.2.2.2.2.2.1 j),i64 (x.2.2.2.2.2.2 j)]),i64 x.1,i64 x.2.1,.sl 1 1 0 0,g9] 9 1 (fun j=>[st ByteArray.empty]) (by decide) (cr:=q7 z) (SC.virtB 0 [.ro 4 x.2.2.1 (fun j=>[i64 (x.2.2.2.1 j),i64 (x.2.2.2.2.1 j),st (x.2.2.2.2.2.1 j),i64 (x.2.2.2.2.2.2 j)]),i64 x.1,i64 x.2.1,.sl 1 1 0 0,.sl 2 1 0 0] 9 1 (fun j=>[st ByteArray.empty]) (by decide) this rfl (fun β S w us b hb hd=>?_) (by show 1≤2;decide) (by show 1≤1;decide)) rfl (fun β S w us b hb hd=>?_) (by show 1≤1;decide) (by show 1≤1;decide)
 all_goals
  simp only[b7]at hd⊢
  obtain⟨u1,r1,rfl,h1,u2,r2,rfl,h2,u3,r3,rfl,h3,u4,r4,rfl,h4,u5,r5,rfl,h5,rfl⟩:=hd
 ·exact⟨u1,_,rfl,h1,u2,_,rfl,h2,u3,_,rfl,h3,u4,_,rfl,h4,u5,_,rfl,df9 (by show 2<3;decide) hb h5,rfl⟩
 ·exact⟨u1,_,rfl,h1,u2,_,rfl,h2,u3,_,rfl,h3,u4,_,rfl,df9 (by show 1<2;decide) hb h4,u5,_,rfl,h5,rfl⟩
end Go.Proofs.YtcijknknahbbnaaGreatDoor
/- Parse, lifted where it returns. -/
namespace Go.Proofs.YtcijknknahbbnaaGreatDoor
open Go Go.Am Go.Proofs
set_option maxRecDepth 100000
abbrev jI:Type:=ByteArray
abbrev bN:Type:=Int×Int×Nat×FI×FI×FS×FI
def aD:AR jI:=fun x=>([st x],[])
def ds2(t:TT):jI:=(vS (ag t 0))
theorem zP:VI aD:=vd ds2 fun _=>rfl
def pG:bN→CRes:=fun z=>.ret (.tup [.ro 4 z.2.2.1 (fun j=>[i64 (z.2.2.2.1 j),i64 (z.2.2.2.2.1 j),st (z.2.2.2.2.2.1 j),i64 (z.2.2.2.2.2.2 j)]),i64 z.1,i64 z.2.1]) []
def bo7:wQ→bN:=Sum.elim (fun z=>(z.1,z.2,0,fun _=>0,fun _=>0,fun _=>ByteArray.empty,fun _=>0)) id
noncomputable def aK(q:Nat)(x:jI):Option bN:=(cz0 q x).map bo7
theorem af9(q:Nat):Lw E5 16 aD pG (aK q):=by
 intro x z h
 obtain⟨y,hy,rfl⟩:=Option.map_eq_some_iff.1 h
 have hs:=dw2 q x y hy
 rcases y with y|y
 ·exact SC.le hs (Le.tup (LeL.cons Le.nil_ro (LeL.cons (Le.refl _) (LeL.cons (Le.refl _) LeL.nil))))
 ·have h2:=SC.giveM (L2:=[]) 0 hs (by rfl) (by simp[V.bw,V.bw2,V.bw1,hp,V.pure,j7])
  simp only[V.bw,V.bw2,V.bw1,hp,List.map_cons,List.map_nil,List.getD_eq_getElem?_getD,List.getElem?_cons_succ,List.getElem?_cons_zero,Option.getD_some,Nat.zero_add,Nat.le_refl,and_self,if_true]at h2
  exact h2
abbrev gZ:Type:=Int×Int×Nat×FI×FI×FS×FI
abbrev gU:Type:=Int×Int×ByteArray×Int×Int×Int×Nat×FI×FI×FS×FI
def u7:AR gZ:=fun x=>([.ptr 0 0],[some (.blk [.ro 4 x.2.2.1 (fun j=>[i64 (x.2.2.2.1 j),i64 (x.2.2.2.2.1 j),st (x.2.2.2.2.2.1 j),i64 (x.2.2.2.2.2.2 j)]),i64 x.1,i64 x.2.1,g9,g9])])
def ey8(t:TT):gZ:=((vI (cc t 0 1)),vI (cc t 0 2),kP (cc t 0 0),dTI (cc t 0 0) 0,dTI (cc t 0 0) 1,dTS (cc t 0 0) 2,dTI (cc t 0 0) 3)
theorem zO:VI u7:=vd ey8 fun _=>rfl
def kK:gU→CRes:=fun z=>.ret (.agg [i64 z.1,i64 z.2.1,st z.2.2.1,i64 z.2.2.2.1]) [some (.blk [.ro 4 z.2.2.2.2.2.2.1 (fun j=>[i64 (z.2.2.2.2.2.2.2.1 j),i64 (z.2.2.2.2.2.2.2.2.1 j),st (z.2.2.2.2.2.2.2.2.2.1 j),i64 (z.2.2.2.2.2.2.2.2.2.2 j)]),i64 z.2.2.2.2.1,i64 z.2.2.2.2.2.1,g9,g9])]
def aa5{β:Type}(x:gZ)(dn:gU→Option β):Option β:=
 if 0≤x.1∧x.1< ((x.2.2.1:Nat):Int)then dn (x.2.2.2.1 (Int.toNat x.1),x.2.2.2.2.1 (Int.toNat x.1),x.2.2.2.2.2.1 (Int.toNat x.1),x.2.2.2.2.2.2 (Int.toNat x.1),x)else none
theorem eu6{β:Type}(x)(dn:gU→Option β):aa5 x dn=(aa5 x some).bind dn:=by
 unfold aa5
 repeat' first|exact n0|refine n1 fun _=>?_|refine n2 ?_ ?_|refine n3 (fun _=>?_) fun _=>?_|rfl
theorem ey7(x):j8 E5 ca0 lo0 18 (u7 x).1 (u7 x).2 K=aa5 x (fun z=>some (.c (kK z))):=by kernel_rfl
noncomputable def tC(q:Nat)(x:gZ):Option gU:=aa5 x some
theorem bj0(q:Nat):Lw E5 18 u7 kK (tC q):=sof hW5 hX5 a8 (fun _=>b8) fun x=>(ey7 x).trans (by rw[eu6]<;>rfl)
abbrev cR:Type:=ByteArray
abbrev aj6:Type:=(Int×Int)⊕(Nat×FS×FN×FM×FI×FI×FS×FN×FM)
def bb1:AR cR:=fun x=>([st x],[])
def cj3:aj6→CRes:=Sum.elim (fun z=>CRes.ret (V.tup [g9,i64 z.1,i64 z.2]) []:(Int×Int)→CRes) (fun z=>CRes.ret (V.tup [V.sl 0 6 0 z.1,i64 0,i64 0]) [some (Chunk.row 48 6 z.1 fun j=>[st (z.2.1 j),V.ro 2 (z.2.2.1 j) (z.2.2.2.1 j),i64 (z.2.2.2.2.1 j),i64 (z.2.2.2.2.2.1 j),st (z.2.2.2.2.2.2.1 j),V.ro 4 (z.2.2.2.2.2.2.2.1 j) (z.2.2.2.2.2.2.2.2 j)])]:(Nat×FS×FN×FM×FI×FI×FS×FN×FM)→CRes)
abbrev aM:Type:=(Int×Int×Nat×FI×FI×FS×FI)⊕(FS×FN×FM×FI×FI×FS×FN×FM×Int×Int×Nat×FI×FI×FS×FI×Int×Int×Nat×Nat×FS×FS×Nat)
abbrev iX:Type:=(Int×Int×Int×Int)⊕(Int×Int)⊕(Int×Int×Nat×FS×FN×FM×FI×FI×FS×FN×FM×Int×Int)⊕(Nat×FS×FN×FM×FI×FI×FS×FN×FM×Int×Int)
def bu7(x:cR)(y:Int×Int×Nat×FI×FI×FS×FI):St:={fr:=[V.junk,V.junk,V.ptr 0 0,V.ptr 1 0,V.ptr 2 0,V.junk,V.ptr 3 0]++jk 24,H:=hp [some (Chunk.blk [g9]),some (Chunk.blk [i64 y.1]),some (Chunk.blk [i64 y.2.1]),some (Chunk.blk [V.ro 4 y.2.2.1 fun j=>[i64 (y.2.2.2.1 j),i64 (y.2.2.2.2.1 j),st (y.2.2.2.2.2.1 j),i64 (y.2.2.2.2.2.2 j)],i64 0,i64 0,g9,g9])],nx:=4,rt:=0,me:=8}
def ca7(s:St):Int×Int×Nat×FI×FI×FS×FI:=((vI (cb s 1 0)),vI (cb s 2 0),kP (cb s 3 0),dTI (cb s 3 0) 0,dTI (cb s 3 0) 1,dTS (cb s 3 0) 2,dTI (cb s 3 0) 3)
def bt3(x:cR)(y:FS×FN×FM×FI×FI×FS×FN×FM×Int×Int×Nat×FI×FI×FS×FI×Int×Int×Nat×Nat×FS×FS×Nat):St:={fr:=[V.junk,V.junk,V.ptr 0 0,V.ptr 2 0,V.ptr 3 0,V.junk,V.ptr 4 0]++jk 24,H:=hp [some (Chunk.blk [V.sl 1 6 0 y.2.2.2.2.2.2.2.2.2.2.2.2.2.2.2.2.2.2.2.2.2]),some (Chunk.row 48 6 y.2.2.2.2.2.2.2.2.2.2.2.2.2.2.2.2.2.2.2.2.2 fun j=>[st (y.1 j),V.ro 2 (y.2.1 j) (y.2.2.1 j),i64 (y.2.2.2.1 j),i64 (y.2.2.2.2.1 j),st (y.2.2.2.2.2.1 j),V.ro 4 (y.2.2.2.2.2.2.1 j) (y.2.2.2.2.2.2.2.1 j)]),some (Chunk.blk [i64 y.2.2.2.2.2.2.2.2.1]),some (Chunk.blk [i64 y.2.2.2.2.2.2.2.2.2.1]),some (Chunk.blk [V.ro 4 y.2.2.2.2.2.2.2.2.2.2.1 fun j=>[i64 (y.2.2.2.2.2.2.2.2.2.2.2.1 j),i64 (y.2.2.2.2.2.2.2.2.2.2.2.2.1 j),st (y.2.2.2.2.2.2.2.2.2.2.2.2.2.1 j),i64 (y.2.2.2.2.2.2.2.2.2.2.2.2.2.2.1 j)],i64 y.2.2.2.2.2.2.2.2.2.2.2.2.2.2.2.1,i64 y.2.2.2.2.2.2.2.2.2.2.2.2.2.2.2.2.1,V.sl 5 1 0 y.2.2.2.2.2.2.2.2.2.2.2.2.2.2.2.2.2.1,V.sl 6 1 0 y.2.2.2.2.2.2.2.2.2.2.2.2.2.2.2.2.2.2.1]),some (Chunk.row 9 1 y.2.2.2.2.2.2.2.2.2.2.2.2.2.2.2.2.2.1 fun j=>[st (y.2.2.2.2.2.2.2.2.2.2.2.2.2.2.2.2.2.2.2.1 j)]),some (Chunk.row 9 1 y.2.2.2.2.2.2.2.2.2.2.2.2.2.2.2.2.2.2.1 fun j=>[st (y.2.2.2.2.2.2.2.2.2.2.2.2.2.2.2.2.2.2.2.2.1 j)])],nx:=7,rt:=0,me:=8}
def bt5(s:St):FS×FN×FM×FI×FI×FS×FN×FM×Int×Int×Nat×FI×FI×FS×FI×Int×Int×Nat×Nat×FS×FS×Nat:=((dRS (s.H 1) 0),dRN (s.H 1) 1,dRF (s.H 1) 1,dRI (s.H 1) 2,dRI (s.H 1) 3,dRS (s.H 1) 4,dRN (s.H 1) 5,dRF (s.H 1) 5,vI (cb s 2 0),vI (cb s 3 0),kP (cb s 4 0),dTI (cb s 4 0) 0,dTI (cb s 4 0) 1,dTS (cb s 4 0) 2,dTI (cb s 4 0) 3,vI (cb s 4 1),vI (cb s 4 2),fE (cb s 4 3),fE (cb s 4 4),dRS (s.H 5) 0,dRS (s.H 6) 0,fE (cb s 0 0))
def cX(x:cR):aM→St:=(Sum.elim (bu7 x) (bt3 x))
def cw8(s:St):aM:=(match s.nx==4 with|true=>(.inl (ca7 s)) |false=>(.inr (bt5 s)))
theorem cp3(x:cR):VL (cX x):=vl cw8 (fun y=>by rcases y with y|y<;>rfl)
def iP(x:cR):iX→Ex×St:=(Sum.elim (fun z=>(Ex.panic (V.ifc 67 (V.agg [i64 z.1,i64 z.2.1])),{fr:=[V.junk,V.junk,V.ptr 0 0,V.ptr 1 0,V.ptr 2 0]++jk 26,H:=hp [some (Chunk.blk [g9]),some (Chunk.blk [i64 z.2.2.1]),some (Chunk.blk [i64 z.2.2.2])],nx:=3,rt:=0,me:=8})) (Sum.elim (fun z=>(Ex.exit 0,{fr:=[V.junk,V.junk,V.ptr 0 0,V.ptr 1 0,V.ptr 2 0]++jk 26,H:=hp [some (Chunk.blk [g9]),some (Chunk.blk [i64 z.1]),some (Chunk.blk [i64 z.2])],nx:=3,rt:=0,me:=8})) (Sum.elim (fun z=>(Ex.panic (V.ifc 67 (V.agg [i64 z.1,i64 z.2.1])),{fr:=[V.junk,V.junk,V.ptr 0 0,V.ptr 2 0,V.ptr 3 0]++jk 26,H:=hp [some (Chunk.blk [V.sl 1 6 0 z.2.2.1]),some (Chunk.row 48 6 z.2.2.1 fun j=>[st (z.2.2.2.1 j),V.ro 2 (z.2.2.2.2.1 j) (z.2.2.2.2.2.1 j),i64 (z.2.2.2.2.2.2.1 j),i64 (z.2.2.2.2.2.2.2.1 j),st (z.2.2.2.2.2.2.2.2.1 j),V.ro 4 (z.2.2.2.2.2.2.2.2.2.1 j) (z.2.2.2.2.2.2.2.2.2.2.1 j)]),some (Chunk.blk [i64 z.2.2.2.2.2.2.2.2.2.2.2.1]),some (Chunk.blk [i64 z.2.2.2.2.2.2.2.2.2.2.2.2])],nx:=4,rt:=0,me:=8})) (fun z=>(Ex.exit 0,{fr:=[V.junk,V.junk,V.ptr 0 0,V.ptr 2 0,V.ptr 3 0]++jk 26,H:=hp [some (Chunk.blk [V.sl 1 6 0 z.1]),some (Chunk.row 48 6 z.1 fun j=>[st (z.2.1 j),V.ro 2 (z.2.2.1 j) (z.2.2.2.1 j),i64 (z.2.2.2.2.1 j),i64 (z.2.2.2.2.2.1 j),st (z.2.2.2.2.2.2.1 j),V.ro 4 (z.2.2.2.2.2.2.2.1 j) (z.2.2.2.2.2.2.2.2.1 j)]),some (Chunk.blk [i64 z.2.2.2.2.2.2.2.2.2.1]),some (Chunk.blk [i64 z.2.2.2.2.2.2.2.2.2.2])],nx:=4,rt:=0,me:=8})))))
def fY{β:Type}(c_TokensV:jI→Option bN)(c_nextZ:gZ→Option gU)(c_next:v8→Option y5)(c_procedureZ:p9→Option v7)(c_procedure:j5→Option o0)(x:cR)(y:Int×Int×Nat×FI×FI×FS×FI)(nx:aM→Option β)(dn:iX→Option β):Option β:=
 (c_nextZ (0,0,y.2.2)).bind fun z412=>if(z412.1 !=0)=true then(c_procedureZ z412.2.2.2.2).bind fun z420=>Sum.elim (fun z420a=>nx (.inr (fun j=>z420a.1,fun j=>z420a.2.1,fun(j j_1:Nat)=>[st (z420a.2.2.1 j_1),st (z420a.2.2.2.1 j_1)],fun j=>z420a.2.2.2.2.1,fun j=>z420a.2.2.2.2.2.1,fun j=>z420a.2.2.2.2.2.2.1,fun j=>z420a.2.2.2.2.2.2.2.1,fun j=>z420a.2.2.2.2.2.2.2.2.1,y.1,y.2.1,z420a.2.2.2.2.2.2.2.2.2.2.2.1,z420a.2.2.2.2.2.2.2.2.2.2.2.2.1,z420a.2.2.2.2.2.2.2.2.2.2.2.2.2.1,z420a.2.2.2.2.2.2.2.2.2.2.2.2.2.2.1,z420a.2.2.2.2.2.2.2.2.2.2.2.2.2.2.2.1,z420a.2.2.2.2.2.2.2.2.2.1,z420a.2.2.2.2.2.2.2.2.2.2.1,z420a.2.2.2.2.2.2.2.2.2.2.2.2.2.2.2.2.1,z420a.2.2.2.2.2.2.2.2.2.2.2.2.2.2.2.2.2.2.1,z420a.2.2.2.2.2.2.2.2.2.2.2.2.2.2.2.2.2.1,z420a.2.2.2.2.2.2.2.2.2.2.2.2.2.2.2.2.2.2.2,1))) (fun z420b=>dn (.inl (z420b.1,z420b.2,y.1,y.2.1))) z420 else dn (.inr (.inl (y.1,y.2.1)))
theorem cb9{β:Type}(c_TokensV c_nextZ)(c_next c_procedureZ c_procedure)(x)(y)(nx:aM→Option β)(dn):fY c_TokensV c_nextZ c_next c_procedureZ c_procedure x y nx dn=(fY c_TokensV c_nextZ c_next c_procedureZ c_procedure x y (fun y=>some (.inl y)) (fun z=>some (.inr z))).bind fun r=>Sum.elim nx dn r:=by
 unfold fY
 repeat' first|exact n0|refine n1 fun _=>?_|refine n2 ?_ ?_|refine n3 (fun _=>?_) fun _=>?_|rfl
theorem ca6(c_TokensV c_nextZ)(c_next c_procedureZ c_procedure)(x)(y)(lo:f7):r9 E5 (ftb 16 aD pG c_TokensV (ftg 18 (fun _ L=>L.length==1) u7 kK c_nextZ (ftb 18 g8 s6 c_next (fg2 19 (fun _ L=>L.length==1) i6 q7 c_procedureZ (fg2 19 (fun _ L=>L.length==3) i8 w7 c_procedure ca0))))) lo 0 92 (b6 E5 8 0) (cX x (.inl y)) (KCM [(0,28),(1000,28)] 28)=fY (vf aD c_TokensV) (vf u7 c_nextZ) (vf g8 c_next) (vf i6 c_procedureZ) (vf i8 c_procedure) x y (fun y=>lo 0 92 (b6 E5 8 0) (cX x y) (KCM [(0,28),(1000,28)] 28)) (fun z=>some (.l (iP x z).1 (iP x z).2)):=by kernel_rfl
def fW{β:Type}(c_TokensV:jI→Option bN)(c_nextZ:gZ→Option gU)(c_next:v8→Option y5)(c_procedureZ:p9→Option v7)(c_procedure:j5→Option o0)(x:cR)(y:FS×FN×FM×FI×FI×FS×FN×FM×Int×Int×Nat×FI×FI×FS×FI×Int×Int×Nat×Nat×FS×FS×Nat)(nx:aM→Option β)(dn:iX→Option β):Option β:=
 (c_next (y.2.2.2.2.2.2.2.2.2.2.2.2.2.2.2.1,y.2.2.2.2.2.2.2.2.2.2.2.2.2.2.2.2.1,y.2.2.2.2.2.2.2.2.2.2.1,y.2.2.2.2.2.2.2.2.2.2.2.1,y.2.2.2.2.2.2.2.2.2.2.2.2.1,y.2.2.2.2.2.2.2.2.2.2.2.2.2.1,y.2.2.2.2.2.2.2.2.2.2.2.2.2.2.1,y.2.2.2.2.2.2.2.2.2.2.2.2.2.2.2.2.2.1,y.2.2.2.2.2.2.2.2.2.2.2.2.2.2.2.2.2.2.2.1,y.2.2.2.2.2.2.2.2.2.2.2.2.2.2.2.2.2.2.1,y.2.2.2.2.2.2.2.2.2.2.2.2.2.2.2.2.2.2.2.2.1)).bind fun z434=>if(z434.1 !=0)=true then(c_procedure z434.2.2.2.2).bind fun z446=>Sum.elim (fun z446a=>if(y.2.2.2.2.2.2.2.2.2.2.2.2.2.2.2.2.2.2.2.2.2+1)*96≤d9∧y.2.2.2.2.2.2.2.2.2.2.2.2.2.2.2.2.2.2.2.2.2+1≤maxLen∧y.2.2.2.2.2.2.2.2.2.2.2.2.2.2.2.2.2.2.2.2.2≤y.2.2.2.2.2.2.2.2.2.2.2.2.2.2.2.2.2.2.2.2.2 then nx (.inr (fun j=>if j<y.2.2.2.2.2.2.2.2.2.2.2.2.2.2.2.2.2.2.2.2.2 then y.1 j else z446a.1,fun j=>if j<y.2.2.2.2.2.2.2.2.2.2.2.2.2.2.2.2.2.2.2.2.2 then y.2.1 j else z446a.2.1,fun(j j_1:Nat)=>if j<y.2.2.2.2.2.2.2.2.2.2.2.2.2.2.2.2.2.2.2.2.2 then y.2.2.1 j j_1 else[st (z446a.2.2.1 j_1),st (z446a.2.2.2.1 j_1)],fun j=>if j<y.2.2.2.2.2.2.2.2.2.2.2.2.2.2.2.2.2.2.2.2.2 then y.2.2.2.1 j else z446a.2.2.2.2.1,fun j=>if j<y.2.2.2.2.2.2.2.2.2.2.2.2.2.2.2.2.2.2.2.2.2 then y.2.2.2.2.1 j else z446a.2.2.2.2.2.1,fun j=>if j<y.2.2.2.2.2.2.2.2.2.2.2.2.2.2.2.2.2.2.2.2.2 then y.2.2.2.2.2.1 j else z446a.2.2.2.2.2.2.1,fun j=>if j<y.2.2.2.2.2.2.2.2.2.2.2.2.2.2.2.2.2.2.2.2.2 then y.2.2.2.2.2.2.1 j else z446a.2.2.2.2.2.2.2.1,fun(j j_1:Nat)=>if j<y.2.2.2.2.2.2.2.2.2.2.2.2.2.2.2.2.2.2.2.2.2 then y.2.2.2.2.2.2.2.1 j j_1 else z446a.2.2.2.2.2.2.2.2.1 j_1,y.2.2.2.2.2.2.2.2.1,y.2.2.2.2.2.2.2.2.2.1,z446a.2.2.2.2.2.2.2.2.2.2.2.1,z446a.2.2.2.2.2.2.2.2.2.2.2.2.1,z446a.2.2.2.2.2.2.2.2.2.2.2.2.2.1,z446a.2.2.2.2.2.2.2.2.2.2.2.2.2.2.1,z446a.2.2.2.2.2.2.2.2.2.2.2.2.2.2.2.1,z446a.2.2.2.2.2.2.2.2.2.1,z446a.2.2.2.2.2.2.2.2.2.2.1,z446a.2.2.2.2.2.2.2.2.2.2.2.2.2.2.2.2.1,z446a.2.2.2.2.2.2.2.2.2.2.2.2.2.2.2.2.2.2.1,z446a.2.2.2.2.2.2.2.2.2.2.2.2.2.2.2.2.2.1,z446a.2.2.2.2.2.2.2.2.2.2.2.2.2.2.2.2.2.2.2,y.2.2.2.2.2.2.2.2.2.2.2.2.2.2.2.2.2.2.2.2.2+1))else none) (fun z446b=>dn (.inr (.inr (.inl (z446b.1,z446b.2,y.2.2.2.2.2.2.2.2.2.2.2.2.2.2.2.2.2.2.2.2.2,y.1,y.2.1,y.2.2.1,y.2.2.2.1,y.2.2.2.2.1,y.2.2.2.2.2.1,y.2.2.2.2.2.2.1,y.2.2.2.2.2.2.2.1,y.2.2.2.2.2.2.2.2.1,y.2.2.2.2.2.2.2.2.2.1))))) z446 else dn (.inr (.inr (.inr (y.2.2.2.2.2.2.2.2.2.2.2.2.2.2.2.2.2.2.2.2.2,y.1,y.2.1,y.2.2.1,y.2.2.2.1,y.2.2.2.2.1,y.2.2.2.2.2.1,y.2.2.2.2.2.2.1,y.2.2.2.2.2.2.2.1,y.2.2.2.2.2.2.2.2.1,y.2.2.2.2.2.2.2.2.2.1))))
theorem cd2{β:Type}(c_TokensV c_nextZ)(c_next c_procedureZ c_procedure)(x)(y)(nx:aM→Option β)(dn):fW c_TokensV c_nextZ c_next c_procedureZ c_procedure x y nx dn=(fW c_TokensV c_nextZ c_next c_procedureZ c_procedure x y (fun y=>some (.inl y)) (fun z=>some (.inr z))).bind fun r=>Sum.elim nx dn r:=by
 unfold fW
 repeat' first|exact n0|refine n1 fun _=>?_|refine n2 ?_ ?_|refine n3 (fun _=>?_) fun _=>?_|rfl
theorem cf4(c_TokensV c_nextZ)(c_next c_procedureZ c_procedure)(x)(y)(lo:f7):r9 E5 (ftb 16 aD pG c_TokensV (ftg 18 (fun _ L=>L.length==1) u7 kK c_nextZ (ftb 18 g8 s6 c_next (fg2 19 (fun _ L=>L.length==1) i6 q7 c_procedureZ (fg2 19 (fun _ L=>L.length==3) i8 w7 c_procedure ca0))))) lo 0 92 (b6 E5 8 0) (cX x (.inr y)) (KCM [(0,28),(1000,28)] 28)=fW (vf aD c_TokensV) (vf u7 c_nextZ) (vf g8 c_next) (vf i6 c_procedureZ) (vf i8 c_procedure) x y (fun y=>lo 0 92 (b6 E5 8 0) (cX x y) (KCM [(0,28),(1000,28)] 28)) (fun z=>some (.l (iP x z).1 (iP x z).2)):=by kernel_rfl
noncomputable def tD(c_TokensV:jI→Option bN)(c_nextZ:gZ→Option gU)(c_next:v8→Option y5)(c_procedureZ:p9→Option v7)(c_procedure:j5→Option o0)(q:Nat)(x:cR):aM→Option iX:=lpG (Sum.elim (fun y=>fY c_TokensV c_nextZ c_next c_procedureZ c_procedure x y (fun y=>some (.inl y)) (fun z=>some (.inr z))) (fun y=>fW c_TokensV c_nextZ c_next c_procedureZ c_procedure x y (fun y=>some (.inl y)) (fun z=>some (.inr z)))) q
theorem ch2(c_TokensV)(h_TokensV:Lw E5 16 aD pG c_TokensV)(c_nextZ)(h_nextZ:Lw E5 18 u7 kK c_nextZ)(c_next)(h_next:Lw E5 18 g8 s6 c_next)(c_procedureZ)(h_procedureZ:Lw E5 19 i6 q7 c_procedureZ)(c_procedure)(h_procedure:Lw E5 19 i8 w7 c_procedure)(q:Nat)(x:cR):Ll E5 (b6 E5 8 0) (cX x) (iP x) (tD c_TokensV c_nextZ c_next c_procedureZ c_procedure q x):=
 slp (fk h_TokensV (fk h_nextZ (fk h_next (fk2 h_procedureZ (fk2 h_procedure a8))))) hX5 (fun lo y=>by
  rcases y with y|y
  ·exact(ca6 c_TokensV c_nextZ c_next c_procedureZ c_procedure x y lo).trans (by rw[zP,zO,eA,fM,jK];exact cb9 _ _ _ _ _ _ _ _ _)
  ·exact(cf4 c_TokensV c_nextZ c_next c_procedureZ c_procedure x y lo).trans (by rw[zP,zO,eA,fM,jK];exact cd2 _ _ _ _ _ _ _ _ _)) (fun z=>by rcases z with z|z|z|z<;>kernel_rfl) q
def mH{β:Type}(c_TokensV:jI→Option bN)(c_nextZ:gZ→Option gU)(c_next:v8→Option y5)(c_procedureZ:p9→Option v7)(c_procedure:j5→Option o0)(l_ParseT_l0:aM→Option iX)(x:cR)(dn:aj6→Option β):Option β:=
 (c_TokensV x).bind fun z1=>if(z1.2.1 !=0)=true then dn (.inl (z1.1,z1.2.1))else(l_ParseT_l0 (.inl z1)).bind fun z388=>Sum.elim (fun z388a=>none) (fun z388b=>Sum.elim (fun z388ba=>dn (.inl (0,0))) (fun z388bb=>Sum.elim (fun z388bba=>none) (fun z388bbb=>dn (.inr (z388bbb.1,z388bbb.2.1,z388bbb.2.2.1,z388bbb.2.2.2.1,z388bbb.2.2.2.2.1,z388bbb.2.2.2.2.2.1,z388bbb.2.2.2.2.2.2.1,z388bbb.2.2.2.2.2.2.2.1,z388bbb.2.2.2.2.2.2.2.2.1))) z388bb) z388b) z388
theorem ee6{β:Type}(c_TokensV c_nextZ)(c_next c_procedureZ c_procedure)(l_ParseT_l0)(x)(dn:aj6→Option β):mH c_TokensV c_nextZ c_next c_procedureZ c_procedure l_ParseT_l0 x dn=(mH c_TokensV c_nextZ c_next c_procedureZ c_procedure l_ParseT_l0 x some).bind dn:=by
 unfold mH
 repeat' first|exact n0|refine n1 fun _=>?_|refine n2 ?_ ?_|refine n3 (fun _=>?_) fun _=>?_|rfl
theorem ej1(c_TokensV c_nextZ)(c_next c_procedureZ c_procedure)(l_ParseT_l0)(x):j8 E5 (ftb 16 aD pG c_TokensV (ftg 18 (fun _ L=>L.length==1) u7 kK c_nextZ (ftb 18 g8 s6 c_next (fg2 19 (fun _ L=>L.length==1) i6 q7 c_procedureZ (fg2 19 (fun _ L=>L.length==3) i8 w7 c_procedure ca0))))) (lt4 0 (fun _=>true) (b6 E5 8 0) (cX x) (iP x) l_ParseT_l0 lo0) 8 (bb1 x).1 (bb1 x).2 K=mH (vf aD c_TokensV) (vf u7 c_nextZ) (vf g8 c_next) (vf i6 c_procedureZ) (vf i8 c_procedure) (lf (b6 E5 8 0) (cX x) l_ParseT_l0) x (fun z=>some (.c (cj3 z))):=by kernel_rfl
noncomputable def ae1(q:Nat)(x:cR):Option aj6:=mH (aK q) (tC q) (next q) (t7 q) (aC q) (tD (aK q) (tC q) (next q) (t7 q) (aC q) q x) x some
theorem as8(q:Nat):Lw E5 8 bb1 cj3 (ae1 q):=sof hW5 hX5 (fk (af9 q) (fk (bj0 q) (fk (gW q) (fk2 (sN q) (fk2 (oG q) a8))))) (fun x=>(lk4 (ch2 (aK q) (af9 q) (tC q) (bj0 q) (next q) (gW q) (t7 q) (sN q) (aC q) (oG q) q x) b8)) fun x=>(ej1 (aK q) (tC q) (next q) (t7 q) (aC q) (tD (aK q) (tC q) (next q) (t7 q) (aC q) q x) x).trans (by rw[zP,zO,eA,fM,jK,cp3,ee6]<;>rfl)
end Go.Proofs.YtcijknknahbbnaaGreatDoor
/- The program's lexer: the plain one. -/
namespace Go.Proofs.YtcijknknahbbnaaGreatDoor
open Go Go.Am Go.Proofs.Lx
set_option maxRecDepth 100000
abbrev TkT:Type:=(Nat→Int)×(Nat→ByteArray)×(Nat→Int)×(Nat→Int)
def RepK(l:List Tkn)(a:TkT):Prop:=∀j x,l[j]? =some x→a.1 j=x.k∧a.2.1 j=x.t∧a.2.2.1 j=x.n∧a.2.2.2 j=x.a
theorem RepK.push{l:List Tkn}{a:TkT}(h:RepK l a)(x:Tkn):RepK (l++[x]) (fun j=>if j<l.length then a.1 j else x.k,fun j=>if j<l.length then a.2.1 j else x.t,fun j=>if j<l.length then a.2.2.1 j else x.n,fun j=>if j<l.length then a.2.2.2 j else x.a):=by
 intro j y e
 by_cases hj:j<l.length
 ·rw[List.getElem?_append_left hj]at e
  simp only[hj,if_true]
  exact h j y e
 ·rw[List.getElem?_append_right (by omega)]at e
  simp only[hj,if_false]
  cases hk:j-l.length with
  |zero=>rw[hk]at e;simp only[List.getElem?_cons_zero,Option.some.injEq]at e;subst e;exact⟨rfl,rfl,rfl,rfl⟩
  |succ n=>rw[hk]at e;simp at e
theorem RepK.one(x:Tkn):RepK [x] (fun _=>x.k,fun _=>x.t,fun _=>x.n,fun _=>x.a):=by
 intro j y e
 cases j with
 |zero=>simp only[List.getElem?_cons_zero,Option.some.injEq]at e;subst e;exact⟨rfl,rfl,rfl,rfl⟩
 |succ j=>simp at e
def as7(s:ByteArray):Tkn:=⟨0,(s.size:Nat),⟨#[]⟩,0⟩
def TL(s:ByteArray):iY→Prop
 | .inl z=>∃p:Nat,z.1=(p:Int)∧z.2≠0∧Lex s 0 [] ([],p,z.2)
 | .inr (.inl _)=>Lex s 0 [] ([as7 s],0,0)
 | .inr (.inr z)=>∃acc:List Tkn,z.1=acc.length∧acc.length≤s.size∧RepK acc (z.2.1,z.2.2.2.1,z.2.2.2.2,z.2.2.1)∧Lex s 0 [] (acc++[as7 s],0,0)
def TS(acc:List Tkn)(p d:Nat):aR→Prop
 | .inl y=>acc=[]∧y=(p,((d:Nat):Int))
 | .inr y=>∃(a:TkT) (n:Nat),y=(((d:Nat):Int),a.1,a.2.1,a.2.2.1,a.2.2.2,p,n)∧n=acc.length∧RepK acc a
theorem aq0{s:ByteArray}{p:Nat}(h:o8 ((s.get! p).toNat:Int)=true):af2 s p=ah8 (s.extract p s.size):=by unfold af2;rw[if_pos h]
theorem bd5{s:ByteArray}{p:Nat}(h:¬o8 ((s.get! p).toNat:Int)=true)(h2:i9 ((s.get! p).toNat:Int)=true):af2 s p=hO ((s.extract p s.size).extract 0 (f9 i9 (s.extract p s.size).data.toList)):=by unfold af2;rw[if_neg h,if_pos h2]
theorem bk8{s:ByteArray}{p:Nat}(h:¬o8 ((s.get! p).toNat:Int)=true)(h2:¬i9 ((s.get! p).toNat:Int)=true):af2 s p=eE (s.extract p s.size):=by unfold af2;rw[if_neg h,if_neg h2]
theorem bP(c:Int):cQ c=true↔c=32∨c=9∨c=10∨c=13:=by simp[cQ]
set_option maxHeartbeats 1000000 in
theorem eg8(q:Nat)(s:ByteArray)(hs:s.size≤4000)(hq:4000<q):∀(m p d:Nat) (acc:List Tkn) (y:aR),TS acc p d y→p≤s.size→d≤s.size→s.size-p<m→Bd s p d→acc.length≤max p d→(∀r,Lex s (max p d) acc r→Lex s 0 [] r)→
 Rs (lQ (kW q) (kB q) (yC q) (word q) (bi3 q) (bi6 q) m s y) (TL s):=by
 intro m
 induction m with
 |zero=>intro p d acc y _ _ _ h;omega
 |succ m ih=>
  intro p d acc y hy hp hd hm hbd hacc hinv
  unfold lQ
  refine Rs.step3 fun Q hQ=>?_
  have e1:Int.toNat ((p:Nat):Int)=p:=by omega
  have e2:Int.toNat ((s.size:Nat):Int)=s.size:=by omega
  have hr:(s.extract p s.size).size=s.size-p:=ef2 s p
  rcases y with y|y
  ·obtain⟨rfl,rfl⟩:=hy
   rw[Sum.elim_inl]
   unfold fN
   dsimp only
   by_cases hlt:p<s.size
   ·obtain⟨hw1,hw2,_⟩:=pS s p hlt
    refine Rs.pos hlt ?_
    by_cases hpd:p<d
    ·refine Rs.pos (decide_eq_true (Int.ofNat_lt.2 hpd)) (Rs.some ?_)
     obtain⟨b1,b2⟩:=hbd.step hpd hd
     refine hQ _ (ih (p+(Utf8.decode s p).2) d [] _ ⟨rfl,rfl⟩ hw2 hd (by omega) b2 (by omega) fun r h=>hinv r ?_)
     rwa [Nat.max_eq_right (by omega)]at h⊢
    ·refine Rs.neg (fun h=>hpd (Int.ofNat_lt.1 (of_decide_eq_true h))) (Rs.pos (show(0:Int)≤((p:Nat):Int)∧((p:Nat):Int)≤((s.size:Nat):Int)∧((s.size:Nat):Int)≤((s.size:Nat):Int)by omega) ?_)
     have hmax:max p d=p:=Nat.max_eq_left (by omega)
     rw[hmax]at hinv hacc
     have hi:=hinv
     have e:=get_at s p hlt
     simp only[Nat.add_zero]at e
     have hW:=mW s cQ bc2 p hlt
     have hLt:=mW s o8 wT p hlt
     have hDg:=mW s i9 wF p hlt
     have hlo:(s.get! p).toNat<128→Utf8.decode s p=((s.get! p).toNat,1):=fun h=>by
      have:=decode_ascii s p hlt (by rw[←e];exact h)
      rw[this,←e]
     have hhi:128≤(s.get! p).toNat→128≤(Utf8.decode s p).1:=fun h=>(decode_high s p hlt (by rw[←e];exact h)).1
     have skip:cQ (((Utf8.decode s p).1:Nat):Int)=true→Rs (lQ (kW q) (kB q) (yC q) (word q) (bi3 q) (bi6 q) m s (.inl (p+(Utf8.decode s p).2,((d:Nat):Int)))) (TL s):=by
      intro hwh
      rw[hW]at hwh
      have hb:(s.get! p).toNat<128:=by have:=(bP _).1 hwh;omega
      have hd1:=hlo hb
      refine ih _ d [] _ ⟨rfl,rfl⟩ hw2 hd (by omega) (Bd.refl _ _ _ (by omega)) (by omega) fun r h=>hi r (.white hlt hwh ?_)
      rw[hd1]at h
      rwa [Nat.max_eq_left (by show d≤p+1;omega)]at h
     by_cases c1:(((Utf8.decode s p).1:Nat):Int)=32
     ·exact Rs.pos (beq_iff_eq.2 c1) (Rs.some (hQ _ (skip ((bP _).2 (.inl c1)))))
     refine Rs.neg (fun h=>c1 (beq_iff_eq.1 h)) ?_
     by_cases c2:(((Utf8.decode s p).1:Nat):Int)=9
     ·exact Rs.pos (beq_iff_eq.2 c2) (Rs.some (hQ _ (skip ((bP _).2 (.inr (.inl c2))))))
     refine Rs.neg (fun h=>c2 (beq_iff_eq.1 h)) ?_
     by_cases c3:(((Utf8.decode s p).1:Nat):Int)=10
     ·exact Rs.pos (beq_iff_eq.2 c3) (Rs.some (hQ _ (skip ((bP _).2 (.inr (.inr (.inl c3)))))))
     refine Rs.neg (fun h=>c3 (beq_iff_eq.1 h)) ?_
     by_cases c4:(((Utf8.decode s p).1:Nat):Int)=13
     ·exact Rs.pos (beq_iff_eq.2 c4) (Rs.some (hQ _ (skip ((bP _).2 (.inr (.inr (.inr c4)))))))
     refine Rs.neg (fun h=>c4 (beq_iff_eq.1 h)) ?_
     have hwf:cQ ((s.get! p).toNat:Int)=false:=by
      rw[←hW,Bool.eq_false_iff]
      intro h
      rcases(bP _).1 h with h|h|h|h
      ·exact c1 h
      ·exact c2 h
      ·exact c3 h
      ·exact c4 h
     rw[e1,e2]
     by_cases c5:(((Utf8.decode s p).1:Nat):Int)=35
     ·have hb:(s.get! p).toNat<128:=by
       rcases Nat.lt_or_ge (s.get! p).toNat 128 with h|h
       ·exact h
       ·have:=hhi h;omega
      have hd1:=hlo hb
      have h35:(s.get! p).toNat=35:=by have hh:=c5;rw[hd1]at hh;dsimp only at hh;omega
      obtain⟨k1,k2,k3⟩:=do2 hlt h35
      refine Rs.pos (beq_iff_eq.2 c5) ?_
      rw[ck9 q _ (by omega),rB s p (by omega)]
      dsimp only[Option.bind_some]
      refine Rs.some (hQ _ ?_)
      have ew:w (((p:Nat):Int)+((f9 nG (s.data.toList.drop p):Nat):Int))=((p+f9 nG (s.data.toList.drop p):Nat):Int):=by rw[sO (by omega) (by omega)];omega
      rw[ew]
      obtain⟨b1,b2⟩:=k3.step (by omega) k2
      refine ih (p+(Utf8.decode s p).2) (p+f9 nG (s.data.toList.drop p)) [] _ ⟨rfl,rfl⟩ hw2 k2 (by omega) b2 (by omega) fun r h=>hi r (.hash hlt h35 ?_)
      rwa [Nat.max_eq_right b1]at h
     refine Rs.neg (fun h=>c5 (beq_iff_eq.1 h)) ?_
     have h35:(s.get! p).toNat≠35:=fun h=>c5 (by rw[hlo (by omega),h];rfl)
     rw[au2]
     dsimp only[Option.bind_some]
     obtain⟨x,er,hx⟩:∃x er,af2 s p=(x,er):=⟨_,_,rfl⟩
     by_cases cl:o8 (((Utf8.decode s p).1:Nat):Int)=true
     ·refine Rs.pos cl ?_
      have hz:ah8 (s.extract p s.size)=(x,er):=by
       rw[hLt]at cl
       exact(aq0 cl).symm.trans hx
      rw[dm2 q _ (by omega),hz]
      dsimp only[Option.bind_some]
      refine Rs.ite (fun he=>?_) (fun he=>?_)
      ·refine Rs.some ?_
       have he':er≠0:=by simpa[nP]using he
       exact⟨p,rfl,he',hi _ (.err hlt hwf h35 hx he')⟩
      ·have he':er=0:=by simpa[nP]using he
       subst he'
       obtain⟨o1,o2,o3,o4,o5⟩:=ab0 hlt hx
       refine Rs.some (hQ _ ?_)
       have ew:w (((p:Nat):Int)+((x.t.size:Nat):Int))=((p+x.t.size:Nat):Int):=by rw[sO (by omega) (by omega)];omega
       dsimp only[nP]
       rw[ew]
       have hbs:Bd s p (p+x.t.size):=.inl o5
       obtain⟨b1,b2⟩:=hbs.step (by omega) o3
       refine ih (p+(Utf8.decode s p).2) (p+x.t.size) ([]++[{x with a:=(p:Int)}]) _ ⟨_,_,rfl,rfl,RepK.one {x with a:=(p:Int)}⟩ hw2 o3 (by omega) b2 (by simp;omega) fun r h=>hi r (.tok hlt hwf h35 hx ?_)
       rwa [Nat.max_eq_right b1]at h
     refine Rs.neg cl ?_
     rw[ak4]
     dsimp only[Option.bind_some]
     by_cases cd:i9 (((Utf8.decode s p).1:Nat):Int)=true
     ·refine Rs.pos cd ?_
      have hz:hO ((s.extract p s.size).extract 0 (f9 i9 (s.extract p s.size).data.toList))=(x,er):=by
       rw[hLt]at cl
       rw[hDg]at cd
       exact(bd5 cl cd).symm.trans hx
      refine Rs.bind (dl9 q _ (by omega)) fun z hzz=>?_
      rw[hz]at hzz
      subst hzz
      refine Rs.ite (fun he=>?_) (fun he=>?_)
      ·refine Rs.some ?_
       have he':er≠0:=by simpa[nP]using he
       exact⟨p,rfl,he',hi _ (.err hlt hwf h35 hx he')⟩
      ·have he':er=0:=by simpa[nP]using he
       subst he'
       obtain⟨o1,o2,o3,o4,o5⟩:=ab0 hlt hx
       refine Rs.some (hQ _ ?_)
       have ew:w (((p:Nat):Int)+((x.t.size:Nat):Int))=((p+x.t.size:Nat):Int):=by rw[sO (by omega) (by omega)];omega
       dsimp only[nP]
       rw[ew]
       have hbs:Bd s p (p+x.t.size):=.inl o5
       obtain⟨b1,b2⟩:=hbs.step (by omega) o3
       refine ih (p+(Utf8.decode s p).2) (p+x.t.size) ([]++[{x with a:=(p:Int)}]) _ ⟨_,_,rfl,rfl,RepK.one {x with a:=(p:Int)}⟩ hw2 o3 (by omega) b2 (by simp;omega) fun r h=>hi r (.tok hlt hwf h35 hx ?_)
       rwa [Nat.max_eq_right b1]at h
     refine Rs.neg cd ?_
     have hz:eE (s.extract p s.size)=(x,er):=by
      rw[hLt]at cl
      rw[hDg]at cd
      exact(bk8 cl cd).symm.trans hx
     refine Rs.bind (dm1 q _ (by omega)) fun z hzz=>?_
     rw[hz]at hzz
     subst hzz
     refine Rs.ite (fun he=>?_) (fun he=>?_)
     ·refine Rs.some ?_
      have he':er≠0:=by simpa[nP]using he
      exact⟨p,rfl,he',hi _ (.err hlt hwf h35 hx he')⟩
     ·have he':er=0:=by simpa[nP]using he
      subst he'
      obtain⟨o1,o2,o3,o4,o5⟩:=ab0 hlt hx
      refine Rs.some (hQ _ ?_)
      have ew:w (((p:Nat):Int)+((x.t.size:Nat):Int))=((p+x.t.size:Nat):Int):=by rw[sO (by omega) (by omega)];omega
      dsimp only[nP]
      rw[ew]
      have hbs:Bd s p (p+x.t.size):=.inl o5
      obtain⟨b1,b2⟩:=hbs.step (by omega) o3
      refine ih (p+(Utf8.decode s p).2) (p+x.t.size) ([]++[{x with a:=(p:Int)}]) _ ⟨_,_,rfl,rfl,RepK.one {x with a:=(p:Int)}⟩ hw2 o3 (by omega) b2 (by simp;omega) fun r h=>hi r (.tok hlt hwf h35 hx ?_)
      rwa [Nat.max_eq_right b1]at h
   ·refine Rs.neg hlt (Rs.some ?_)
    exact hinv _ (.fin (by omega))
  ·obtain⟨a,_,rfl,rfl,ha⟩:=hy
   rw[Sum.elim_inr]
   unfold fP
   dsimp only
   by_cases hlt:p<s.size
   ·obtain⟨hw1,hw2,_⟩:=pS s p hlt
    refine Rs.pos hlt ?_
    by_cases hpd:p<d
    ·refine Rs.pos (decide_eq_true (Int.ofNat_lt.2 hpd)) (Rs.some ?_)
     obtain⟨b1,b2⟩:=hbd.step hpd hd
     refine hQ _ (ih (p+(Utf8.decode s p).2) d acc _ ⟨a,_,rfl,rfl,ha⟩ hw2 hd (by omega) b2 (by omega) fun r h=>hinv r ?_)
     rwa [Nat.max_eq_right (by omega)]at h⊢
    ·refine Rs.neg (fun h=>hpd (Int.ofNat_lt.1 (of_decide_eq_true h))) (Rs.pos (show(0:Int)≤((p:Nat):Int)∧((p:Nat):Int)≤((s.size:Nat):Int)∧((s.size:Nat):Int)≤((s.size:Nat):Int)by omega) ?_)
     have hmax:max p d=p:=Nat.max_eq_left (by omega)
     rw[hmax]at hinv hacc
     have hi:=hinv
     have e:=get_at s p hlt
     simp only[Nat.add_zero]at e
     have hW:=mW s cQ bc2 p hlt
     have hLt:=mW s o8 wT p hlt
     have hDg:=mW s i9 wF p hlt
     have hlo:(s.get! p).toNat<128→Utf8.decode s p=((s.get! p).toNat,1):=fun h=>by
      have:=decode_ascii s p hlt (by rw[←e];exact h)
      rw[this,←e]
     have hhi:128≤(s.get! p).toNat→128≤(Utf8.decode s p).1:=fun h=>(decode_high s p hlt (by rw[←e];exact h)).1
     have skip:cQ (((Utf8.decode s p).1:Nat):Int)=true→Rs (lQ (kW q) (kB q) (yC q) (word q) (bi3 q) (bi6 q) m s (.inr (((d:Nat):Int),a.1,a.2.1,a.2.2.1,a.2.2.2,p+(Utf8.decode s p).2,acc.length))) (TL s):=by
      intro hwh
      rw[hW]at hwh
      have hb:(s.get! p).toNat<128:=by have:=(bP _).1 hwh;omega
      have hd1:=hlo hb
      refine ih _ d acc _ ⟨a,_,rfl,rfl,ha⟩ hw2 hd (by omega) (Bd.refl _ _ _ (by omega)) (by omega) fun r h=>hi r (.white hlt hwh ?_)
      rw[hd1]at h
      rwa [Nat.max_eq_left (by show d≤p+1;omega)]at h
     by_cases c1:(((Utf8.decode s p).1:Nat):Int)=32
     ·exact Rs.pos (beq_iff_eq.2 c1) (Rs.some (hQ _ (skip ((bP _).2 (.inl c1)))))
     refine Rs.neg (fun h=>c1 (beq_iff_eq.1 h)) ?_
     by_cases c2:(((Utf8.decode s p).1:Nat):Int)=9
     ·exact Rs.pos (beq_iff_eq.2 c2) (Rs.some (hQ _ (skip ((bP _).2 (.inr (.inl c2))))))
     refine Rs.neg (fun h=>c2 (beq_iff_eq.1 h)) ?_
     by_cases c3:(((Utf8.decode s p).1:Nat):Int)=10
     ·exact Rs.pos (beq_iff_eq.2 c3) (Rs.some (hQ _ (skip ((bP _).2 (.inr (.inr (.inl c3)))))))
     refine Rs.neg (fun h=>c3 (beq_iff_eq.1 h)) ?_
     by_cases c4:(((Utf8.decode s p).1:Nat):Int)=13
     ·exact Rs.pos (beq_iff_eq.2 c4) (Rs.some (hQ _ (skip ((bP _).2 (.inr (.inr (.inr c4)))))))
     refine Rs.neg (fun h=>c4 (beq_iff_eq.1 h)) ?_
     have hwf:cQ ((s.get! p).toNat:Int)=false:=by
      rw[←hW,Bool.eq_false_iff]
      intro h
      rcases(bP _).1 h with h|h|h|h
      ·exact c1 h
      ·exact c2 h
      ·exact c3 h
      ·exact c4 h
     rw[e1,e2]
     by_cases c5:(((Utf8.decode s p).1:Nat):Int)=35
     ·have hb:(s.get! p).toNat<128:=by
       rcases Nat.lt_or_ge (s.get! p).toNat 128 with h|h
       ·exact h
       ·have:=hhi h;omega
      have hd1:=hlo hb
      have h35:(s.get! p).toNat=35:=by have hh:=c5;rw[hd1]at hh;dsimp only at hh;omega
      obtain⟨k1,k2,k3⟩:=do2 hlt h35
      refine Rs.pos (beq_iff_eq.2 c5) ?_
      rw[ck9 q _ (by omega),rB s p (by omega)]
      dsimp only[Option.bind_some]
      refine Rs.some (hQ _ ?_)
      have ew:w (((p:Nat):Int)+((f9 nG (s.data.toList.drop p):Nat):Int))=((p+f9 nG (s.data.toList.drop p):Nat):Int):=by rw[sO (by omega) (by omega)];omega
      rw[ew]
      obtain⟨b1,b2⟩:=k3.step (by omega) k2
      refine ih (p+(Utf8.decode s p).2) (p+f9 nG (s.data.toList.drop p)) acc _ ⟨a,_,rfl,rfl,ha⟩ hw2 k2 (by omega) b2 (by omega) fun r h=>hi r (.hash hlt h35 ?_)
      rwa [Nat.max_eq_right b1]at h
     refine Rs.neg (fun h=>c5 (beq_iff_eq.1 h)) ?_
     have h35:(s.get! p).toNat≠35:=fun h=>c5 (by rw[hlo (by omega),h];rfl)
     rw[au2]
     dsimp only[Option.bind_some]
     obtain⟨x,er,hx⟩:∃x er,af2 s p=(x,er):=⟨_,_,rfl⟩
     by_cases cl:o8 (((Utf8.decode s p).1:Nat):Int)=true
     ·refine Rs.pos cl ?_
      have hz:ah8 (s.extract p s.size)=(x,er):=by
       rw[hLt]at cl
       exact(aq0 cl).symm.trans hx
      rw[dm2 q _ (by omega),hz]
      dsimp only[Option.bind_some]
      refine Rs.ite (fun he=>?_) (fun he=>?_)
      ·refine Rs.some ?_
       have he':er≠0:=by simpa[nP]using he
       exact⟨p,rfl,he',hi _ (.err hlt hwf h35 hx he')⟩
      ·have he':er=0:=by simpa[nP]using he
       subst he'
       obtain⟨o1,o2,o3,o4,o5⟩:=ab0 hlt hx
       refine Rs.pos ⟨by unfold d9;omega,by unfold maxLen;omega,Nat.le_refl _⟩ ?_
       refine Rs.some (hQ _ ?_)
       have ew:w (((p:Nat):Int)+((x.t.size:Nat):Int))=((p+x.t.size:Nat):Int):=by rw[sO (by omega) (by omega)];omega
       dsimp only[nP]
       rw[ew]
       have hbs:Bd s p (p+x.t.size):=.inl o5
       obtain⟨b1,b2⟩:=hbs.step (by omega) o3
       refine ih (p+(Utf8.decode s p).2) (p+x.t.size) (acc++[{x with a:=(p:Int)}]) _ ⟨_,_,rfl,by simp,ha.push {x with a:=(p:Int)}⟩ hw2 o3 (by omega) b2 (by simp;omega) fun r h=>hi r (.tok hlt hwf h35 hx ?_)
       rwa [Nat.max_eq_right b1]at h
     refine Rs.neg cl ?_
     rw[ak4]
     dsimp only[Option.bind_some]
     by_cases cd:i9 (((Utf8.decode s p).1:Nat):Int)=true
     ·refine Rs.pos cd ?_
      have hz:hO ((s.extract p s.size).extract 0 (f9 i9 (s.extract p s.size).data.toList))=(x,er):=by
       rw[hLt]at cl
       rw[hDg]at cd
       exact(bd5 cl cd).symm.trans hx
      refine Rs.bind (dl9 q _ (by omega)) fun z hzz=>?_
      rw[hz]at hzz
      subst hzz
      refine Rs.ite (fun he=>?_) (fun he=>?_)
      ·refine Rs.some ?_
       have he':er≠0:=by simpa[nP]using he
       exact⟨p,rfl,he',hi _ (.err hlt hwf h35 hx he')⟩
      ·have he':er=0:=by simpa[nP]using he
       subst he'
       obtain⟨o1,o2,o3,o4,o5⟩:=ab0 hlt hx
       refine Rs.pos ⟨by unfold d9;omega,by unfold maxLen;omega,Nat.le_refl _⟩ ?_
       refine Rs.some (hQ _ ?_)
       have ew:w (((p:Nat):Int)+((x.t.size:Nat):Int))=((p+x.t.size:Nat):Int):=by rw[sO (by omega) (by omega)];omega
       dsimp only[nP]
       rw[ew]
       have hbs:Bd s p (p+x.t.size):=.inl o5
       obtain⟨b1,b2⟩:=hbs.step (by omega) o3
       refine ih (p+(Utf8.decode s p).2) (p+x.t.size) (acc++[{x with a:=(p:Int)}]) _ ⟨_,_,rfl,by simp,ha.push {x with a:=(p:Int)}⟩ hw2 o3 (by omega) b2 (by simp;omega) fun r h=>hi r (.tok hlt hwf h35 hx ?_)
       rwa [Nat.max_eq_right b1]at h
     refine Rs.neg cd ?_
     have hz:eE (s.extract p s.size)=(x,er):=by
      rw[hLt]at cl
      rw[hDg]at cd
      exact(bk8 cl cd).symm.trans hx
     refine Rs.bind (dm1 q _ (by omega)) fun z hzz=>?_
     rw[hz]at hzz
     subst hzz
     refine Rs.ite (fun he=>?_) (fun he=>?_)
     ·refine Rs.some ?_
      have he':er≠0:=by simpa[nP]using he
      exact⟨p,rfl,he',hi _ (.err hlt hwf h35 hx he')⟩
     ·have he':er=0:=by simpa[nP]using he
      subst he'
      obtain⟨o1,o2,o3,o4,o5⟩:=ab0 hlt hx
      refine Rs.pos ⟨by unfold d9;omega,by unfold maxLen;omega,Nat.le_refl _⟩ ?_
      refine Rs.some (hQ _ ?_)
      have ew:w (((p:Nat):Int)+((x.t.size:Nat):Int))=((p+x.t.size:Nat):Int):=by rw[sO (by omega) (by omega)];omega
      dsimp only[nP]
      rw[ew]
      have hbs:Bd s p (p+x.t.size):=.inl o5
      obtain⟨b1,b2⟩:=hbs.step (by omega) o3
      refine ih (p+(Utf8.decode s p).2) (p+x.t.size) (acc++[{x with a:=(p:Int)}]) _ ⟨_,_,rfl,by simp,ha.push {x with a:=(p:Int)}⟩ hw2 o3 (by omega) b2 (by simp;omega) fun r h=>hi r (.tok hlt hwf h35 hx ?_)
      rwa [Nat.max_eq_right b1]at h
   ·refine Rs.neg hlt (Rs.some ?_)
    exact⟨acc,rfl,by omega,ha,hinv _ (.fin (by omega))⟩
end Go.Proofs.YtcijknknahbbnaaGreatDoor
/- Expressions are read as the plain parser reads them. -/
namespace Go.Proofs.YtcijknknahbbnaaGreatDoor
open Go Go.Am Go.Proofs.Lx
set_option maxRecDepth 100000
abbrev mI:Type:=Int×Int×ByteArray×Nat×(Nat→List V)
mutual
def RepN:Tr→mI→Prop
 | .node k n s l,x=>x.1=k∧x.2.1=n∧x.2.2.1=s∧x.2.2.2.1=l.length∧ad2 l x.2.2.2.2 0
def ad2:List Tr→(Nat→List V)→Nat→Prop
 | [],_,_=>True
 |t::l,f,j=>(∃y:mI,f j=[i64 y.1,i64 y.2.1,st y.2.2.1,.ro 4 y.2.2.2.1 y.2.2.2.2]∧RepN t y)∧ad2 l f (j+1)
end
theorem RepN.leaf{k n:Int}{s:ByteArray}{f:Nat→List V}:RepN (.node k n s []) (k,n,s,0,f):=by simp[RepN,ad2]
theorem RepN.k1{k n:Int}{s:ByteArray}{a:Tr}{y:mI}(h:RepN a y):RepN (.node k n s [a]) (k,n,s,1,mP [[i64 y.1,i64 y.2.1,st y.2.2.1,.ro 4 y.2.2.2.1 y.2.2.2.2]]):=by
 simp only[RepN,ad2,List.length_cons,List.length_nil]
 exact⟨trivial,trivial,trivial,trivial,⟨y,rfl,h⟩,trivial⟩
theorem RepN.k2{k n:Int}{s:ByteArray}{a b:Tr}{y z:mI}(h:RepN a y)(g:RepN b z):RepN (.node k n s [a,b]) (k,n,s,2,mP [[i64 y.1,i64 y.2.1,st y.2.2.1,.ro 4 y.2.2.2.1 y.2.2.2.2],[i64 z.1,i64 z.2.1,st z.2.2.1,.ro 4 z.2.2.2.1 z.2.2.2.2]]):=by
 simp only[RepN,ad2,List.length_cons,List.length_nil]
 exact⟨trivial,trivial,trivial,trivial,⟨y,rfl,h⟩,⟨z,rfl,g⟩,trivial⟩
def PN(N:Nat)(T:Nat→Tkn)(pr:List ByteArray):PR Tr→(Int×Int×ByteArray×Nat×(Nat→List V)×StT)⊕(Int×Int)→Prop
 | .ok a s,.inl z=>RepN a (z.1,z.2.1,z.2.2.1,z.2.2.2.1,z.2.2.2.2.1)∧RS N T pr s z.2.2.2.2.2
 | .err p c,.inr e=>p<N∧e=((T p).a,c)
 |_,_=>False
theorem PR.bind_out{α β:Type}{r:PR α}{k:α→PS→PR β}(h:r.bind k≠ .out):r≠ .out:=by rintro rfl;exact h rfl
section
variable {N:Nat} {T:Nat→Tkn} {pr:List ByteArray} {γ:Type} {P:γ→Prop}
theorem PU.bind{r:PR Unit}{o:Option (StT⊕(Int×Int))}{f:StT→Option γ}{g:Int×Int→Option γ}(h:Rs o (PU N T pr r))(hok:∀s x,r= .ok () s→RS N T pr s x→Rs (f x) P)(herr:∀p c,r= .err p c→p<N→Rs (g ((T p).a,c)) P):
 Rs (o.bind fun z=>Sum.elim f g z) P:=by
 obtain⟨z,rfl,hp⟩:=h
 cases r with
 |ok u s=>cases z with
  |inl z=>exact hok s z rfl hp
  |inr z=>exact hp.elim
 |err p c=>cases z with
  |inl z=>exact hp.elim
  |inr z=>obtain⟨h1,rfl⟩:=hp;exact herr p c rfl h1
 |out=>cases z<;>exact hp.elim
theorem PX.bind{α:Type}{r:PR α}{o:Option ((α×StT)⊕(Int×Int))}{f:α×StT→Option γ}{g:Int×Int→Option γ}(h:Rs o (PX N T pr r))(hok:∀a s x,r= .ok a s→RS N T pr s x→Rs (f (a,x)) P)(herr:∀p c,r= .err p c→p<N→Rs (g ((T p).a,c)) P):
 Rs (o.bind fun z=>Sum.elim f g z) P:=by
 obtain⟨z,rfl,hp⟩:=h
 cases r with
 |ok a s=>cases z with
  |inl z=>obtain⟨z1,z2⟩:=z;obtain⟨rfl,h2⟩:=hp;exact hok _ s z2 rfl h2
  |inr z=>exact hp.elim
 |err p c=>cases z with
  |inl z=>exact hp.elim
  |inr z=>obtain⟨h1,rfl⟩:=hp;exact herr p c rfl h1
 |out=>cases z<;>exact hp.elim
theorem PN.bind{r:PR Tr}{o:Option ((Int×Int×ByteArray×Nat×(Nat→List V)×StT)⊕(Int×Int))}{f:Int×Int×ByteArray×Nat×(Nat→List V)×StT→Option γ}{g:Int×Int→Option γ}(h:Rs o (PN N T pr r))
 (hok:∀t s k n b m c x,r= .ok t s→RepN t (k,n,b,m,c)→RS N T pr s x→Rs (f (k,n,b,m,c,x)) P) (herr:∀p c,r= .err p c→p<N→Rs (g ((T p).a,c)) P):
 Rs (o.bind fun z=>Sum.elim f g z) P:=by
 obtain⟨z,rfl,hp⟩:=h
 cases r with
 |ok a s=>cases z with
  |inl z=>obtain⟨k,n,b,m,c,x⟩:=z;exact hok a s k n b m c x rfl hp.1 hp.2
  |inr z=>exact hp.elim
 |err p c=>cases z with
  |inl z=>exact hp.elim
  |inr z=>obtain⟨h1,rfl⟩:=hp;exact herr p c rfl h1
 |out=>cases z<;>exact hp.elim
end
theorem bf7(q:Nat)(t:ByteArray):nZ q t=some ((n6 t:Nat):Int):=by
 unfold nZ oX n6
 simp only[tl_eq]
 by_cases e0:t=sOr
 ·subst e0;rfl
 by_cases e1:t=en1
 ·subst e1;rfl
 by_cases e2:t=sLt
 ·subst e2;rfl
 by_cases e3:t=sLe
 ·subst e3;rfl
 by_cases e4:t=sGt
 ·subst e4;rfl
 by_cases e5:t=sGe
 ·subst e5;rfl
 by_cases e6:t=sEq
 ·subst e6;rfl
 by_cases e7:t=sNe
 ·subst e7;rfl
 by_cases e8:t=fk5
 ·subst e8;rfl
 by_cases e9:t=nS
 ·subst e9;rfl
 by_cases e10:t=ff1
 ·subst e10;rfl
 by_cases e11:t=ff3
 ·subst e11;rfl
 simp only[e0,e1,e2,e3,e4,e5,e6,e7,e8,e9,e10,e11,or_self,if_false]
 rfl
section
variable {N:Nat} {T:Nat→Tkn} {pr:List ByteArray} {s:PS} {x:StT}
theorem pR(hT:TokN N T)(q:Nat)(h:RS N T pr s x):Rs (gB q x) (PN N T pr (fQ T s)):=by
 unfold gB
 refine Rs.map (P:=fun y=>PN N T pr (fQ T s) (ag2 y)) ?_ fun z hz=>hz
 unfold bg4 kU fQ
 refine PX.bind (yZ hT q h 0 2147483647) (fun n s1 x1 e h1=>?_) (fun p c e hp=>?_)
 ·rw[e]
  dsimp only[PR.bind]
  rw[dG q h1]
  dsimp only[Option.bind_some]
  by_cases hk:(T s1.p).k=1
  ·refine Rs.pos (by simp[hk]) ?_
   refine Rs.bind (as9 q (T s1.p).t) fun z hz=>?_
   by_cases hu:kS (T s1.p).t=true
   ·refine Rs.pos (hz.trans hu) (Rs.some ?_)
    rw[if_pos (show _∧_ from⟨hk,hu⟩)]
    exact⟨RepN.leaf,RS.adv hT h1 (.inr (by rw[hk];decide))⟩
   ·refine Rs.neg (by rw[hz];exact hu) (Rs.some ?_)
    rw[if_neg (show¬(_∧_)from fun h=>hu h.2)]
    exact⟨RepN.leaf,h1⟩
  ·refine Rs.neg (by simp[hk]) (Rs.some ?_)
   rw[if_neg (show¬(_∧_)from fun h=>hk h.1)]
   exact⟨RepN.leaf,h1⟩
 ·rw[e]
  exact Rs.some ⟨hp,rfl⟩
end
end Go.Proofs.YtcijknknahbbnaaGreatDoor
/- Expressions are read as the plain parser reads them (2). -/
namespace Go.Proofs.YtcijknknahbbnaaGreatDoor
open Go Go.Am Go.Proofs.Lx
set_option maxRecDepth 100000
abbrev Y0:Type:=Nat×(Nat→Int)×(Nat→Int)×(Nat→ByteArray)×(Nat→Int)×Int×Int×Nat×Nat×(Nat→ByteArray)×(Nat→ByteArray)×mI
abbrev Y1:Type:=Nat×(Nat→Int)×(Nat→Int)×(Nat→ByteArray)×(Nat→Int)×Int×Int×Nat×Nat×(Nat→ByteArray)×(Nat→ByteArray)×ByteArray×Int×Int×ByteArray×Nat×(Nat→List V)×mI
def y0(x:StT)(n:mI):Y0:=(x.2.2.1,x.2.2.2.1,x.2.2.2.2.1,x.2.2.2.2.2.1,x.2.2.2.2.2.2.1,x.1,x.2.1,x.2.2.2.2.2.2.2.1,x.2.2.2.2.2.2.2.2.2.1,x.2.2.2.2.2.2.2.2.1,x.2.2.2.2.2.2.2.2.2.2,n)
def y1(x:StT)(op:ByteArray)(a b:mI):Y1:=(x.2.2.1,x.2.2.2.1,x.2.2.2.2.1,x.2.2.2.2.2.1,x.2.2.2.2.2.2.1,x.1,x.2.1,x.2.2.2.2.2.2.2.1,x.2.2.2.2.2.2.2.2.2.1,x.2.2.2.2.2.2.2.2.1,x.2.2.2.2.2.2.2.2.2.2,op,a.1,a.2.1,a.2.2.1,a.2.2.2.1,a.2.2.2.2,b)
def LP(N:Nat)(T:Nat→Tkn)(pr:List ByteArray):PR Tr→lF→Prop
 | .ok t s,.inl z=>∃x op a b ta tb,z=y1 x op a b∧t= .node 20 0 op [ta,tb]∧RepN ta a∧RepN tb b∧RS N T pr s x
 | .ok t s,.inr (.inr z)=>∃x n,z=y0 x n∧RepN t n∧RS N T pr s x
 | .err p c,.inr (.inl e)=>p<N∧e=((T p).a,c)
 |_,_=>False
def LS(n:Tr)(x:StT):bZ→Prop
 | .inl y=>∃a,y=y0 x a∧RepN n a
 | .inr y=>∃op a b ta tb,y=y1 x op a b∧n= .node 20 0 op [ta,tb]∧RepN ta a∧RepN tb b
section
variable {N:Nat} {T:Nat→Tkn} {pr:List ByteArray}
def HE(N:Nat)(T:Nat→Tkn)(pr:List ByteArray)(f q:Nat):Prop:=∀g,g≤f→∀lv,1≤lv→lv≤8→∀(s:PS) (x:StT),RS N T pr s x→j9 T g lv s≠ .out→Rs (wB q (((lv:Nat):Int),x)) (PN N T pr (j9 T g lv s))
theorem be4(hT:TokN N T){f q:Nat}(hE:HE N T pr f q)(lv:Nat)(hl1:1≤lv)(hl:lv≤7)(x0:StT):∀(g:Nat),g≤f→∀(m:Nat),g<m→∀(n:Tr) (s:PS) (x:StT) (y:bZ),LS n x y→RS N T pr s x→dX T g lv n s≠ .out→
 Rs (pZ (is q) (ct3 q) (ak0 q) (wB q) (next q) (nZ q) m (((lv:Nat):Int),x0) y) (LP N T pr (dX T g lv n s)):=by
 intro g
 induction g with
 |zero=>intro _ m _ n s x y _ _ ho;exact absurd rfl ho
 |succ g ih=>
  intro hg m hm n s x y hy h ho
  obtain⟨m,rfl⟩:∃k,m=k+1:=⟨m-1,by omega⟩
  unfold pZ
  refine Rs.step3 fun Q hQ=>?_
  have h0:=h
  obtain⟨v,u,rfl,h1,h2,h3,h4,h5,h6⟩:=h
  have hN:=hT.big
  have hop:dX T (g+1) lv n s=if n6 (T s.p).t=lv∧(T s.p).k=3 then(j9 T g (lv+1) (adv s)).bind fun m s'=>if lv=4 then .ok (.node 20 0 (T s.p).t [n,m]) s' else dX T g lv (.node 20 0 (T s.p).t [n,m]) s' else .ok n s:=by rw[dX]
  rcases y with y|y
  ·obtain⟨a,rfl,ha⟩:=hy
   rw[Sum.elim_inl]
   unfold jJ
   dsimp only[y0,y1]
   rw[dG q (s:=s) (pr:=pr) (N:=N) (T:=T) h0]
   dsimp only[Option.bind_some]
   rw[bf7]
   dsimp only[Option.bind_some]
   by_cases hlv:n6 (T s.p).t=lv
   ·refine Rs.pos (by simp[hlv]) ?_
    rw[dG q (s:=s) (pr:=pr) (N:=N) (T:=T) h0]
    dsimp only[Option.bind_some]
    by_cases hk:(T s.p).k=3
    ·refine Rs.pos (by simp[hk]) ?_
     rw[dG q (s:=s) (pr:=pr) (N:=N) (T:=T) h0]
     dsimp only[Option.bind_some]
     rw[if_pos ⟨hlv,hk⟩]at hop
     rw[iE (i:=lv) (by omega)]
     have hadv:=RS.adv hT h0 (.inr (by rw[hk];decide))
     refine PN.bind (hE g (by omega) (lv+1) (by omega) (by omega) (adv s) _ hadv (PR.bind_out (hop▸ho))) (fun t s2 k1 n1 b1 m1 c1 x1 e hr hx=>?_) (fun p c e hp=>?_)
     ·rw[e]at hop
      dsimp only[PR.bind]at hop
      by_cases h4':lv=4
      ·rw[if_pos h4']at hop
       refine Rs.pos (by simp[h4']) (Rs.some ?_)
       show LP N T pr (dX T (g+1) lv _ s) _
       rw[hop]
       exact⟨x1,_,a,(k1,n1,b1,m1,c1),_,t,rfl,rfl,ha,hr,hx⟩
      ·rw[if_neg h4']at hop
       refine Rs.neg (by simp;omega) (Rs.some ?_)
       refine hQ _ ?_
       rw[hop]
       exact ih (by omega) m (by omega) _ s2 x1 (.inr (y1 x1 (T s.p).t a (k1,n1,b1,m1,c1))) ⟨_,a,(k1,n1,b1,m1,c1),_,t,rfl,rfl,ha,hr⟩ hx (hop▸ho)
     ·refine Rs.some ?_
      show LP N T pr (dX T (g+1) lv _ s) _
      rw[hop,e]
      exact⟨hp,rfl⟩
    ·refine Rs.neg (by simp[hk]) (Rs.some ?_)
     rw[if_neg (fun h=>hk h.2)]at hop
     show LP N T pr (dX T (g+1) lv _ s) _
     rw[hop]
     exact⟨_,a,rfl,ha,h0⟩
   ·refine Rs.neg (fun hh=>hlv (by have hh:=(by simpa using hh:((n6 (T s.p).t:Nat):Int)=lv);omega)) (Rs.some ?_)
    rw[if_neg (fun h=>hlv h.1)]at hop
    show LP N T pr (dX T (g+1) lv _ s) _
    rw[hop]
    exact⟨_,a,rfl,ha,h0⟩
  ·obtain⟨op,a,b,ta,tb,rfl,rfl,ha,hb⟩:=hy
   have hab:RepN (.node 20 0 op [ta,tb]) (20,0,op,2,fun j=>[i64 (if 0+j=0 then a.1 else b.1),i64 (if 0+j=0 then a.2.1 else b.2.1),st (if 0+j=0 then a.2.2.1 else b.2.2.1),.ro 4 (if 0+j=0 then a.2.2.2.1 else b.2.2.2.1) fun i=>if 0+j=0 then a.2.2.2.2 i else b.2.2.2.2 i]):=by
    simp only[RepN,ad2,List.length_cons,List.length_nil]
    exact⟨trivial,trivial,trivial,trivial,⟨a,rfl,ha⟩,⟨b,rfl,hb⟩,trivial⟩
   rw[Sum.elim_inr]
   unfold jC
   dsimp only[y0,y1]
   rw[dG q (s:=s) (pr:=pr) (N:=N) (T:=T) h0]
   dsimp only[Option.bind_some]
   rw[bf7]
   dsimp only[Option.bind_some]
   by_cases hlv:n6 (T s.p).t=lv
   ·refine Rs.pos (by simp[hlv]) ?_
    rw[dG q (s:=s) (pr:=pr) (N:=N) (T:=T) h0]
    dsimp only[Option.bind_some]
    by_cases hk:(T s.p).k=3
    ·refine Rs.pos (by simp[hk]) ?_
     rw[dG q (s:=s) (pr:=pr) (N:=N) (T:=T) h0]
     dsimp only[Option.bind_some]
     rw[if_pos ⟨hlv,hk⟩]at hop
     rw[iE (i:=lv) (by omega)]
     have hadv:=RS.adv hT h0 (.inr (by rw[hk];decide))
     refine PN.bind (hE g (by omega) (lv+1) (by omega) (by omega) (adv s) _ hadv (PR.bind_out (hop▸ho))) (fun t s2 k1 n1 b1 m1 c1 x1 e hr hx=>?_) (fun p c e hp=>?_)
     ·rw[e]at hop
      dsimp only[PR.bind]at hop
      by_cases h4':lv=4
      ·rw[if_pos h4']at hop
       refine Rs.pos (by simp[h4']) (Rs.some ?_)
       show LP N T pr (dX T (g+1) lv _ s) _
       rw[hop]
       exact⟨x1,_,(20,0,op,2,fun j=>[i64 (if 0+j=0 then a.1 else b.1),i64 (if 0+j=0 then a.2.1 else b.2.1),st (if 0+j=0 then a.2.2.1 else b.2.2.1),.ro 4 (if 0+j=0 then a.2.2.2.1 else b.2.2.2.1) fun i=>if 0+j=0 then a.2.2.2.2 i else b.2.2.2.2 i]),(k1,n1,b1,m1,c1),_,t,rfl,rfl,hab,hr,hx⟩
      ·rw[if_neg h4']at hop
       refine Rs.neg (by simp;omega) (Rs.some ?_)
       refine hQ _ ?_
       rw[hop]
       exact ih (by omega) m (by omega) _ s2 x1 (.inr (y1 x1 (T s.p).t (20,0,op,2,fun j=>[i64 (if 0+j=0 then a.1 else b.1),i64 (if 0+j=0 then a.2.1 else b.2.1),st (if 0+j=0 then a.2.2.1 else b.2.2.1),.ro 4 (if 0+j=0 then a.2.2.2.1 else b.2.2.2.1) fun i=>if 0+j=0 then a.2.2.2.2 i else b.2.2.2.2 i]) (k1,n1,b1,m1,c1))) ⟨_,(20,0,op,2,fun j=>[i64 (if 0+j=0 then a.1 else b.1),i64 (if 0+j=0 then a.2.1 else b.2.1),st (if 0+j=0 then a.2.2.1 else b.2.2.1),.ro 4 (if 0+j=0 then a.2.2.2.1 else b.2.2.2.1) fun i=>if 0+j=0 then a.2.2.2.2 i else b.2.2.2.2 i]),(k1,n1,b1,m1,c1),_,t,rfl,rfl,hab,hr⟩ hx (hop▸ho)
     ·refine Rs.some ?_
      show LP N T pr (dX T (g+1) lv _ s) _
      rw[hop,e]
      exact⟨hp,rfl⟩
    ·refine Rs.neg (by simp[hk]) (Rs.some ?_)
     rw[if_neg (fun h=>hk h.2)]at hop
     show LP N T pr (dX T (g+1) lv _ s) _
     rw[hop]
     exact⟨_,op,a,b,ta,tb,rfl,rfl,ha,hb,h0⟩
   ·refine Rs.neg (fun hh=>hlv (by have hh:=(by simpa using hh:((n6 (T s.p).t:Nat):Int)=lv);omega)) (Rs.some ?_)
    rw[if_neg (fun h=>hlv h.1)]at hop
    show LP N T pr (dX T (g+1) lv _ s) _
    rw[hop]
    exact⟨_,op,a,b,ta,tb,rfl,rfl,ha,hb,h0⟩
end
end Go.Proofs.YtcijknknahbbnaaGreatDoor
/- Expressions are read as the plain parser reads them (3). -/
namespace Go.Proofs.YtcijknknahbbnaaGreatDoor
open Go Go.Am Go.Proofs.Lx
set_option maxRecDepth 100000
section
variable {N:Nat} {T:Nat→Tkn} {pr:List ByteArray}
def HU(N:Nat)(T:Nat→Tkn)(pr:List ByteArray)(f q:Nat):Prop:=∀g,g≤f→∀b:ByteArray,b≠⟨#[]⟩→∀lv,1≤lv→lv≤8→∀(s:PS) (x:StT),RS N T pr s x→aJ T g b lv s≠ .out→Rs (ct3 q (b,((lv:Nat):Int),x)) (PN N T pr (aJ T g b lv s))
def HP(N:Nat)(T:Nat→Tkn)(pr:List ByteArray)(f q:Nat):Prop:=∀g,g≤f→∀(s:PS) (x:StT),RS N T pr s x→cD T g s≠ .out→Rs (ak0 q x) (PN N T pr (cD T g s))
theorem RS.close{s:PS}{x:StT}(hT:TokN N T)(h:RS N T pr s x)(ho:1≤s.o):RS N T pr (cM s) (x.1,w (x.2.1-1),x.2.2):=by
 obtain⟨v,u,rfl,h1,h2,h3,h4,h5,h6⟩:=h
 refine⟨v,u,?_,h1,h2,h3,(by show s.o-1≤12;omega),h5,h6⟩
 show(((s.p:Nat):Int),w (((s.o:Nat):Int)-1),_)=_
 rw[sO (by omega) (by omega)]
 have e:((s.o:Nat):Int)-1=((s.o-1:Nat):Int):=by omega
 rw[e]
 rfl
end
section
variable {T:Nat→Tkn}
def Op{α:Type}(o:Nat):PR α→Prop
 | .ok _ s=>s.o=o
 |_=>True
theorem Op.bind{α β:Type}{o o':Nat}{r:PR α}{k:α→PS→PR β}(h:Op o r)(hk:∀a s,s.o=o→Op o' (k a s)):Op o' (r.bind k):=by
 cases r with
 |ok a s=>exact hk a s h
 |err p c=>trivial
 |out=>trivial
theorem sE(b:ByteArray)(s:PS):Op s.o (n4 T b s):=by unfold n4;split<;>trivial
theorem ba8(s:PS):Op s.o (aB T s):=by unfold aB;split<;>trivial
theorem bw7(lo hi:Int)(s:PS):Op s.o (iD T lo hi s):=by unfold iD;repeat' (split<;>try trivial)
theorem tJ(b:ByteArray)(s:PS):Op (s.o+1) (aE T b s):=by unfold aE;repeat' (split<;>try trivial)
theorem bz4(s:PS):Op s.o (fQ T s):=by
 unfold fQ
 refine(bw7 0 2147483647 s).bind fun a s1 h=>?_
 split
 ·exact h
 ·exact h
theorem vA:∀f,(∀lv s,Op s.o (j9 T f lv s))∧(∀lv n s,Op s.o (dX T f lv n s))∧(∀b lv s,Op s.o (aJ T f b lv s))∧(∀s,Op s.o (cD T f s)):=by
 intro f
 induction f with
 |zero=>exact⟨fun _ _=>by rw[j9];trivial,fun _ _ _=>by rw[dX];trivial,fun _ _ _=>by rw[aJ];trivial,fun _=>by rw[cD];trivial⟩
 |succ f ih=>
  obtain⟨h1,h2,h3,h4⟩:=ih
  refine⟨fun lv s=>?_,fun lv n s=>?_,fun b lv s=>?_,fun s=>?_⟩
  ·rw[j9]
   split
   ·exact h3 _ _ _
   ·split
    ·exact h3 _ _ _
    ·split
     ·exact h4 _
     ·refine(h1 _ _).bind fun a s1 e=>?_
      rw[←e];exact h2 _ _ _
  ·rw[dX]
   split
   ·refine(h1 (lv+1) (adv s)).bind fun a s1 e=>?_
    split
    ·exact e
    ·have:=h2 lv (.node 20 0 (T s.p).t [n,a]) s1
     rw[e]at this;exact this
   ·rfl
  ·rw[aJ]
   refine(tJ b s).bind fun _ s1 e1=>(h1 lv s1).bind fun n s2 e2=>?_
   show s2.o-1=s.o
   omega
  ·rw[cD]
   split
   ·exact bz4 s
   ·split
    ·rfl
    ·split
     ·rfl
     ·split
      ·exact(sE cl7 (adv s)).bind fun _ s1 e1=>by
        have:=ba8 (T:=T) s1
        rw[e1]at this
        exact this.bind fun x s2 e2=>e2
      ·split
       ·refine(tJ fH s).bind fun _ s1 e1=>(h1 1 s1).bind fun n s2 e2=>(sE aF s2).bind fun _ s3 e3=>?_
        show s3.o-1=s.o
        omega
       ·exact(ba8 s).bind fun x s1 e1=>e1
end
end Go.Proofs.YtcijknknahbbnaaGreatDoor
/- Expressions are read as the plain parser reads them (4). -/
namespace Go.Proofs.YtcijknknahbbnaaGreatDoor
open Go Go.Am Go.Proofs.Lx
set_option maxRecDepth 100000
section
variable {N:Nat} {T:Nat→Tkn} {pr:List ByteArray}
theorem dy9(hT:TokN N T){f q:Nat}(hq:f<q)(hE:HE N T pr f q)(hU:HU N T pr f q)(hP:HP N T pr f q)(lv:Nat)(hl1:1≤lv)(hl:lv≤8)(s:PS)(x:StT)(h:RS N T pr s x)(ho:j9 T (f+1) lv s≠ .out):
 Rs (wB (q+1) (((lv:Nat):Int),x)) (PN N T pr (j9 T (f+1) lv s)):=by
 show Rs ((rM (is q) (ct3 q) (ak0 q) (wB q) (next q) (nZ q) (pZ (is q) (ct3 q) (ak0 q) (wB q) (next q) (nZ q) q (((lv:Nat):Int),x)) (((lv:Nat):Int),x) some).map ay8) _
 refine Rs.map (P:=fun y=>PN N T pr (j9 T (f+1) lv s) (ay8 y)) ?_ fun z hz=>hz
 unfold rM
 dsimp only
 have hop:j9 T (f+1) lv s=if lv=3∧isP T kV s=true then aJ T f kV 3 s else if lv=7∧isP T nS s=true then aJ T f nS 7 s else if lv=8 then cD T f s else(j9 T f (lv+1) s).bind fun n s'=>dX T f lv n s':=by rw[j9]
 by_cases h3:lv=3
 ·refine Rs.pos (by simp[h3]) ?_
  rw[bg2 q h]
  dsimp only[Option.bind_some]
  by_cases hi:isP T kV s=true
  ·rw[if_pos ⟨h3,hi⟩]at hop
   refine Rs.pos hi ?_
   refine PN.bind (hU f (Nat.le_refl _) kV (by decide) 3 (by decide) (by decide) s x h (hop▸ho)) (fun t s1 k n b m c x1 e hr hx=>?_) (fun p c e hp=>?_)
   ·rw[hop,e];exact Rs.some ⟨hr,hx⟩
   ·rw[hop,e];exact Rs.some ⟨hp,rfl⟩
  ·rw[if_neg (fun h=>hi h.2),if_neg (fun h=>by omega),if_neg (by omega)]at hop
   refine Rs.neg hi (Rs.neg (by simp;omega) (Rs.neg (by simp;omega) ?_))
   rw[iE (i:=lv) (by omega)]
   refine PN.bind (hE f (Nat.le_refl _) (lv+1) (by omega) (by omega) s x h (PR.bind_out (hop▸ho))) (fun t s1 k n b m c x1 e hr hx=>?_) (fun p c e hp=>?_)
   ·rw[e]at hop
    dsimp only[PR.bind]at hop
    refine Rs.bind (be4 hT hE lv hl1 (by omega) x f (Nat.le_refl _) q (by omega) t s1 x1 (.inl (y0 x1 (k,n,b,m,c))) ⟨_,rfl,hr⟩ hx (hop▸ho)) (fun z hz=>?_)
    rw[hop]
    cases hr2:dX T f lv t s1 with
    |out=>rw[hop,hr2]at ho;exact absurd rfl ho
    |err p c=>
     rw[hr2]at hz
     rcases z with z|z|z
     ·exact hz.elim
     ·exact Rs.some hz
     ·exact hz.elim
    |ok a s2=>
     rw[hr2]at hz
     rcases z with z|z|z
     ·obtain⟨x2,op,na,nb,ta,tb,rfl,rfl,g1,g2,g3⟩:=hz
      exact Rs.some ⟨RepN.k2 g1 g2,g3⟩
     ·exact hz.elim
     ·obtain⟨x2,nd,rfl,g1,g3⟩:=hz
      exact Rs.some ⟨g1,g3⟩
   ·rw[hop,e]
    exact Rs.some ⟨hp,rfl⟩
 ·refine Rs.neg (by simp;omega) ?_
  rw[if_neg (fun h=>h3 h.1)]at hop
  by_cases h7:lv=7
  ·refine Rs.pos (by simp[h7]) ?_
   rw[bg2 q h]
   dsimp only[Option.bind_some]
   by_cases hi:isP T nS s=true
   ·rw[if_pos ⟨h7,hi⟩]at hop
    refine Rs.pos hi ?_
    refine PN.bind (hU f (Nat.le_refl _) nS (by decide) 7 (by decide) (by decide) s x h (hop▸ho)) (fun t s1 k n b m c x1 e hr hx=>?_) (fun p c e hp=>?_)
    ·rw[hop,e];exact Rs.some ⟨hr,hx⟩
    ·rw[hop,e];exact Rs.some ⟨hp,rfl⟩
   ·rw[if_neg (fun h=>hi h.2),if_neg (by omega)]at hop
    refine Rs.neg hi (Rs.neg (by simp;omega) ?_)
    rw[iE (i:=lv) (by omega)]
    refine PN.bind (hE f (Nat.le_refl _) (lv+1) (by omega) (by omega) s x h (PR.bind_out (hop▸ho))) (fun t s1 k n b m c x1 e hr hx=>?_) (fun p c e hp=>?_)
    ·rw[e]at hop
     dsimp only[PR.bind]at hop
     refine Rs.bind (be4 hT hE lv hl1 (by omega) x f (Nat.le_refl _) q (by omega) t s1 x1 (.inl (y0 x1 (k,n,b,m,c))) ⟨_,rfl,hr⟩ hx (hop▸ho)) (fun z hz=>?_)
     rw[hop]
     cases hr2:dX T f lv t s1 with
     |out=>rw[hop,hr2]at ho;exact absurd rfl ho
     |err p c=>
      rw[hr2]at hz
      rcases z with z|z|z
      ·exact hz.elim
      ·exact Rs.some hz
      ·exact hz.elim
     |ok a s2=>
      rw[hr2]at hz
      rcases z with z|z|z
      ·obtain⟨x2,op,na,nb,ta,tb,rfl,rfl,g1,g2,g3⟩:=hz
       exact Rs.some ⟨RepN.k2 g1 g2,g3⟩
      ·exact hz.elim
      ·obtain⟨x2,nd,rfl,g1,g3⟩:=hz
       exact Rs.some ⟨g1,g3⟩
    ·rw[hop,e]
     exact Rs.some ⟨hp,rfl⟩
  ·refine Rs.neg (by simp;omega) ?_
   rw[if_neg (fun h=>h7 h.1)]at hop
   by_cases h8:lv=8
   ·rw[if_pos h8]at hop
    refine Rs.pos (by simp[h8]) ?_
    refine PN.bind (hP f (Nat.le_refl _) s x h (hop▸ho)) (fun t s1 k n b m c x1 e hr hx=>?_) (fun p c e hp=>?_)
    ·rw[hop,e];exact Rs.some ⟨hr,hx⟩
    ·rw[hop,e];exact Rs.some ⟨hp,rfl⟩
   ·rw[if_neg h8]at hop
    refine Rs.neg (by simp;omega) ?_
    rw[iE (i:=lv) (by omega)]
    refine PN.bind (hE f (Nat.le_refl _) (lv+1) (by omega) (by omega) s x h (PR.bind_out (hop▸ho))) (fun t s1 k n b m c x1 e hr hx=>?_) (fun p c e hp=>?_)
    ·rw[e]at hop
     dsimp only[PR.bind]at hop
     refine Rs.bind (be4 hT hE lv hl1 (by omega) x f (Nat.le_refl _) q (by omega) t s1 x1 (.inl (y0 x1 (k,n,b,m,c))) ⟨_,rfl,hr⟩ hx (hop▸ho)) (fun z hz=>?_)
     rw[hop]
     cases hr2:dX T f lv t s1 with
     |out=>rw[hop,hr2]at ho;exact absurd rfl ho
     |err p c=>
      rw[hr2]at hz
      rcases z with z|z|z
      ·exact hz.elim
      ·exact Rs.some hz
      ·exact hz.elim
     |ok a s2=>
      rw[hr2]at hz
      rcases z with z|z|z
      ·obtain⟨x2,op,na,nb,ta,tb,rfl,rfl,g1,g2,g3⟩:=hz
       exact Rs.some ⟨RepN.k2 g1 g2,g3⟩
      ·exact hz.elim
      ·obtain⟨x2,nd,rfl,g1,g3⟩:=hz
       exact Rs.some ⟨g1,g3⟩
    ·rw[hop,e]
     exact Rs.some ⟨hp,rfl⟩
theorem cy4(hT:TokN N T){f q:Nat}(hE:HE N T pr f q)(b:ByteArray)(hb:b≠⟨#[]⟩)(lv:Nat)(hl1:1≤lv)(hl:lv≤8)(s:PS)(x:StT)(h:RS N T pr s x)(ho:aJ T (f+1) b lv s≠ .out):
 Rs (ct3 (q+1) (b,((lv:Nat):Int),x)) (PN N T pr (aJ T (f+1) b lv s)):=by
 show Rs ((nH (qD q) (wB q) (b,((lv:Nat):Int),x) some).map al5) _
 refine Rs.map (P:=fun y=>PN N T pr (aJ T (f+1) b lv s) (al5 y)) ?_ fun z hz=>hz
 unfold nH
 dsimp only
 have hop:aJ T (f+1) b lv s=(aE T b s).bind fun _ s1=>(j9 T f lv s1).bind fun n s2=>.ok (.node 19 0 b [n]) (cM s2):=by rw[aJ]
 refine PU.bind (bi4 hT q h b hb) (fun s1 x1 e1 h1=>?_) (fun p c e hp=>?_)
 ·have o1:=tJ (T:=T) b s
  rw[e1]at hop o1
  dsimp only[PR.bind]at hop
  refine PN.bind (hE f (Nat.le_refl _) lv hl1 hl s1 x1 h1 (PR.bind_out (hop▸ho))) (fun t s2 k n b m c x2 e hr hx=>?_) (fun p c e hp=>?_)
  ·have o2:=(vA (T:=T) f).1 lv s1
   rw[e]at hop o2
   rw[hop]
   have o1:s1.o=s.o+1:=o1
   have o2:s2.o=s1.o:=o2
   exact Rs.some ⟨RepN.k1 hr,hx.close hT (by omega)⟩
  ·rw[hop,e];exact Rs.some ⟨hp,rfl⟩
 ·rw[hop,e];exact Rs.some ⟨hp,rfl⟩
theorem ea1(hT:TokN N T){f q:Nat}(hE:HE N T pr f q)(s:PS)(x:StT)(h:RS N T pr s x)(ho:cD T (f+1) s≠ .out):
 Rs (ak0 (q+1) x) (PN N T pr (cD T (f+1) s)):=by
 show Rs ((fA (next q) (gB q) (take q) (iF q) (name q) (is q) (qD q) (wB q) x some).map uY) _
 refine Rs.map (P:=fun y=>PN N T pr (cD T (f+1) s) (uY y)) ?_ fun z hz=>hz
 unfold fA
 rw[dG q h]
 dsimp only[Option.bind_some]
 have hop:cD T (f+1) s=if(T s.p).k=2 then fQ T s
  else if isP T w_true s=true then .ok (.node 16 1 ⟨#[]⟩ []) (adv s)
  else if isP T w_false s=true then .ok (.node 16 0 ⟨#[]⟩ []) (adv s)
  else if isP T bd0 s=true then(n4 T cl7 (adv s)).bind fun _ s1=>(aB T s1).bind fun x s2=>.ok (.node 18 0 x []) s2
  else if isP T fH s=true then(aE T fH s).bind fun _ s1=>(j9 T f 1 s1).bind fun n s2=>(n4 T aF s2).bind fun _ s3=>.ok n (cM s3)
  else(aB T s).bind fun x s1=>.ok (.node 17 0 x []) s1:=by rw[cD]
 by_cases hk:(T s.p).k=2
 ·rw[if_pos hk]at hop
  refine Rs.pos (by simp[hk]) ?_
  refine PN.bind (pR hT q h) (fun t s1 k n b m c x1 e hr hx=>?_) (fun p c e hp=>?_)
  ·rw[hop,e];exact Rs.some ⟨hr,hx⟩
  ·rw[hop,e];exact Rs.some ⟨hp,rfl⟩
 ·rw[if_neg hk]at hop
  refine Rs.neg (by simp[hk]) ?_
  rw[eG q h]
  dsimp only[Option.bind_some]
  by_cases h1:isP T w_true s=true
  ·rw[if_pos h1]at hop⊢
   refine Rs.pos rfl ?_
   rw[hop]
   exact Rs.some ⟨RepN.leaf,RS.adv hT h (o9 (by decide) h1)⟩
  ·rw[if_neg h1]at hop⊢
   refine Rs.neg (by simp) ?_
   rw[eG q h]
   dsimp only[Option.bind_some]
   by_cases h2:isP T w_false s=true
   ·rw[if_pos h2]at hop⊢
    refine Rs.pos rfl ?_
    rw[hop]
    exact Rs.some ⟨RepN.leaf,RS.adv hT h (o9 (by decide) h2)⟩
   ·rw[if_neg h2]at hop⊢
    refine Rs.neg (by simp) ?_
    rw[eG q h]
    dsimp only[Option.bind_some]
    by_cases h3:isP T bd0 s=true
    ·rw[if_pos h3]at hop⊢
     refine Rs.pos rfl ?_
     refine PU.bind (mF hT q (RS.adv hT h (o9 (by decide) h3)) cl7 (by decide)) (fun s1 x1 e1 g1=>?_) (fun p c e hp=>?_)
     ·rw[e1]at hop
      dsimp only[PR.bind]at hop
      refine PX.bind (aj3 hT q g1) (fun a s2 x2 e2 g2=>?_) (fun p c e hp=>?_)
      ·rw[hop,e2]
       exact Rs.some ⟨RepN.leaf,g2⟩
      ·rw[hop,e];exact Rs.some ⟨hp,rfl⟩
     ·rw[hop,e];exact Rs.some ⟨hp,rfl⟩
    ·rw[if_neg h3]at hop⊢
     refine Rs.neg (by simp) ?_
     rw[bg2 q h]
     dsimp only[Option.bind_some]
     by_cases h4:isP T fH s=true
     ·rw[if_pos h4]at hop
      refine Rs.pos h4 ?_
      refine PU.bind (bi4 hT q h fH (by decide)) (fun s1 x1 e1 g1=>?_) (fun p c e hp=>?_)
      ·have o1:=tJ (T:=T) fH s
       rw[e1]at hop o1
       dsimp only[PR.bind]at hop
       refine PN.bind (hE f (Nat.le_refl _) 1 (by decide) (by decide) s1 x1 g1 (PR.bind_out (hop▸ho))) (fun t s2 k n b m c x2 e hr hx=>?_) (fun p c e hp=>?_)
       ·have o2:=(vA (T:=T) f).1 1 s1
        rw[e]at hop o2
        dsimp only[PR.bind]at hop
        refine PU.bind (mF hT q hx aF (by decide)) (fun s3 x3 e3 g3=>?_) (fun p c e hp=>?_)
        ·have o3:=sE (T:=T) aF s2
         rw[e3]at hop o3
         have o1:s1.o=s.o+1:=o1
         have o2:s2.o=s1.o:=o2
         have o3:s3.o=s2.o:=o3
         rw[hop]
         exact Rs.some ⟨hr,g3.close hT (by omega)⟩
        ·rw[hop,e];exact Rs.some ⟨hp,rfl⟩
       ·rw[hop,e];exact Rs.some ⟨hp,rfl⟩
      ·rw[hop,e];exact Rs.some ⟨hp,rfl⟩
     ·rw[if_neg h4]at hop
      refine Rs.neg h4 ?_
      refine PX.bind (aj3 hT q h) (fun a s2 x2 e2 g2=>?_) (fun p c e hp=>?_)
      ·rw[hop,e2]
       exact Rs.some ⟨RepN.leaf,g2⟩
      ·rw[hop,e];exact Rs.some ⟨hp,rfl⟩
theorem fb8(hT:TokN N T):∀f q,f+1≤q→HE N T pr f q∧HU N T pr f q∧HP N T pr f q:=by
 intro f
 induction f with
 |zero=>
  intro q _
  refine⟨fun g hg lv _ _ s x _ ho=>?_,fun g hg b _ lv _ _ s x _ ho=>?_,fun g hg s x _ ho=>?_⟩
  all_goals
   obtain rfl:g=0:=by omega
  ·rw[j9]at ho;exact absurd rfl ho
  ·rw[aJ]at ho;exact absurd rfl ho
  ·rw[cD]at ho;exact absurd rfl ho
 |succ f ih=>
  intro q hq
  obtain⟨q,rfl⟩:∃k,q=k+1:=⟨q-1,by omega⟩
  obtain⟨a1,a2,a3⟩:=ih (q+1) (by omega)
  obtain⟨b1,b2,b3⟩:=ih q (by omega)
  refine⟨fun g hg lv h1 h2 s x h ho=>?_,fun g hg b hb lv h1 h2 s x h ho=>?_,fun g hg s x h ho=>?_⟩
  ·by_cases e:g≤f
   ·exact a1 g e lv h1 h2 s x h ho
   ·obtain rfl:g=f+1:=by omega
    exact dy9 hT (by omega) b1 b2 b3 lv h1 h2 s x h ho
  ·by_cases e:g≤f
   ·exact a2 g e b hb lv h1 h2 s x h ho
   ·obtain rfl:g=f+1:=by omega
    exact cy4 hT b1 b hb lv h1 h2 s x h ho
  ·by_cases e:g≤f
   ·exact a3 g e s x h ho
   ·obtain rfl:g=f+1:=by omega
    exact ea1 hT b1 s x h ho
end
end Go.Proofs.YtcijknknahbbnaaGreatDoor
/- Statements without blocks are read as the plain parser reads them. -/
namespace Go.Proofs.YtcijknknahbbnaaGreatDoor
open Go Go.Am Go.Proofs.Lx
set_option maxRecDepth 100000
theorem PR.bind_assoc{α β γ:Type}(r:PR α)(f:α→PS→PR β)(g:β→PS→PR γ):(r.bind f).bind g=r.bind fun a s=>(f a s).bind g:=by cases r<;>rfl
section
variable (T:Nat→Tkn)
def cs6(f:Nat)(s:PS):PR Tr:=(jV T s).bind fun a s1=>(n4 T ae5 s1).bind fun _ s2=>(j9 T f 1 s2).bind fun n s3=>.ok (.node 1 0 a [n]) s3
def cq3(f:Nat)(s:PS):PR Tr:=(aB T s).bind fun a s1=>(n4 T ae5 s1).bind fun _ s2=>(j9 T f 1 s2).bind fun n s3=>.ok (.node 2 0 a [n]) s3
def wU(f:Nat)(s:PS):PR Tr:=(j9 T f 1 s).bind fun c s1=>(n4 T jT s1).bind fun _ s2=>(fQ T s2).bind fun n s3=>.ok (.node 6 0 ⟨#[]⟩ [c,n]) s3
def cl9(k:Int)(s:PS):PR Tr:=(fQ T s).bind fun n s2=>.ok (.node k 0 ⟨#[]⟩ [n]) s2
def co3(f:Nat)(k:Int)(s:PS):PR Tr:=(j9 T f 1 s).bind fun n s2=>.ok (.node k 0 ⟨#[]⟩ [n]) s2
def co8(k hi:Int)(s:PS):PR Tr:=(iD T 0 hi s).bind fun n s1=>.ok (.node k n ⟨#[]⟩ []) s1
def cg2(k:Int)(b:ByteArray)(s:PS):PR Tr:=(iD T 0 7 s).bind fun n s1=>(n4 T b s1).bind fun _ s2=>(fQ T s2).bind fun m s3=>.ok (.node k n ⟨#[]⟩ [m]) s3
end
theorem db6(T:Nat→Tkn)(f:Nat)(s:PS):((jV T s).bind fun x s1=>ai9 T f 1 x s1)=(cs6 T f s).bind (Lx.endP T):=by
 simp only[cs6,ai9,PR.bind_assoc];rfl
theorem dd2(T:Nat→Tkn)(f:Nat)(s:PS):((aB T s).bind fun x s1=>ai9 T f 2 x s1)=(cq3 T f s).bind (Lx.endP T):=by
 simp only[cq3,ai9,PR.bind_assoc];rfl
theorem bj3(T:Nat→Tkn)(f:Nat)(s:PS):yM T f s=(wU T f s).bind (Lx.endP T):=by
 simp only[wU,yM,PR.bind_assoc];rfl
theorem ao0(T:Nat→Tkn)(k:Int)(s:PS):bl8 T k s=(cl9 T k s).bind (Lx.endP T):=by
 simp only[cl9,bl8,PR.bind_assoc];rfl
theorem an5(T:Nat→Tkn)(f:Nat)(k:Int)(s:PS):bn2 T f k s=(co3 T f k s).bind (Lx.endP T):=by
 simp only[co3,bn2,PR.bind_assoc];rfl
theorem ar9(T:Nat→Tkn)(k hi:Int)(s:PS):ay6 T k hi s=(co8 T k hi s).bind (Lx.endP T):=by
 simp only[co8,ay6,PR.bind_assoc];rfl
theorem an9(T:Nat→Tkn)(k:Int)(b:ByteArray)(s:PS):ay1 T k b s=(cg2 T k b s).bind (Lx.endP T):=by
 simp only[cg2,ay1,PR.bind_assoc];rfl
section
variable {N:Nat} {T:Nat→Tkn} {pr:List ByteArray} {s:PS} {x:StT}
theorem dw8(hT:TokN N T){f q:Nat}(hE:HE N T pr f q)(h:RS N T pr s x)(ho:cq3 T f s≠ .out):Rs (assign q x) (PN N T pr (cq3 T f s)):=by
 unfold assign
 refine Rs.map (P:=fun y=>PN N T pr (cq3 T f s) (ao6 y)) ?_ fun z hz=>hz
 unfold ce0 pF
 have hop:cq3 T f s=(aB T s).bind fun a s1=>(n4 T ae5 s1).bind fun _ s2=>(j9 T f 1 s2).bind fun n s3=>.ok (.node 2 0 a [n]) s3:=rfl
 refine PX.bind (aj3 hT q h) (fun a s1 x1 e1 g1=>?_) (fun p c e hp=>?_)
 ·rw[e1]at hop
  dsimp only[PR.bind]at hop
  refine PU.bind (mF hT q g1 ae5 (by decide)) (fun s2 x2 e2 g2=>?_) (fun p c e hp=>?_)
  ·rw[e2]at hop
   dsimp only[PR.bind]at hop
   refine PN.bind (hE f (Nat.le_refl _) 1 (by decide) (by decide) s2 x2 g2 (PR.bind_out (hop▸ho))) (fun t s3 k n b m c x3 e hr hx=>?_) (fun p c e hp=>?_)
   ·rw[hop,e];exact Rs.some ⟨RepN.k1 hr,hx⟩
   ·(rw[hop,e];exact Rs.some ⟨hp,rfl⟩)
  ·(rw[hop,e];exact Rs.some ⟨hp,rfl⟩)
 ·(rw[hop,e];exact Rs.some ⟨hp,rfl⟩)
theorem fe7(hT:TokN N T){f q:Nat}(hq:20≤q)(hE:HE N T pr f q)(h:RS N T pr s x)(hne:(T s.p).t≠⟨#[]⟩∨(T s.p).k≠0)(ho:cs6 T f (adv s)≠ .out):Rs (ds8 q x) (PN N T pr (cs6 T f (adv s))):=by
 unfold ds8
 refine Rs.map (P:=fun y=>PN N T pr (cs6 T f (adv s)) (bz1 y)) ?_ fun z hz=>hz
 unfold em3 zV
 have hop:cs6 T f (adv s)=(jV T (adv s)).bind fun a s1=>(n4 T ae5 s1).bind fun _ s2=>(j9 T f 1 s2).bind fun n s3=>.ok (.node 1 0 a [n]) s3:=rfl
 refine PX.bind (ae6 hT q hq (h.adv hT hne)) (fun a s1 x1 e1 g1=>?_) (fun p c e hp=>?_)
 ·rw[e1]at hop
  dsimp only[PR.bind]at hop
  refine PU.bind (mF hT q g1 ae5 (by decide)) (fun s2 x2 e2 g2=>?_) (fun p c e hp=>?_)
  ·rw[e2]at hop
   dsimp only[PR.bind]at hop
   refine PN.bind (hE f (Nat.le_refl _) 1 (by decide) (by decide) s2 x2 g2 (PR.bind_out (hop▸ho))) (fun t s3 k n b m c x3 e hr hx=>?_) (fun p c e hp=>?_)
   ·rw[hop,e];exact Rs.some ⟨RepN.k1 hr,hx⟩
   ·(rw[hop,e];exact Rs.some ⟨hp,rfl⟩)
  ·(rw[hop,e];exact Rs.some ⟨hp,rfl⟩)
 ·(rw[hop,e];exact Rs.some ⟨hp,rfl⟩)
theorem RepN.two{k n:Int}{s:ByteArray}{ta tb:Tr}{a b:mI}(ha:RepN ta a)(hb:RepN tb b):RepN (.node k n s [ta,tb]) (k,n,s,2,fun j=>[i64 (if j<1 then a.1 else b.1),i64 (if j<1 then a.2.1 else b.2.1),st (if j<1 then a.2.2.1 else b.2.2.1),.ro 4 (if j<1 then a.2.2.2.1 else b.2.2.2.1) fun i=>if j<1 then a.2.2.2.2 i else b.2.2.2.2 i]):=by
 simp only[RepN,ad2,List.length_cons,List.length_nil]
 exact⟨trivial,trivial,trivial,trivial,⟨a,rfl,ha⟩,⟨b,rfl,hb⟩,trivial⟩
theorem ei1(hT:TokN N T){f q:Nat}(hE:HE N T pr f q)(h:RS N T pr s x)(hne:(T s.p).t≠⟨#[]⟩∨(T s.p).k≠0)(ho:wU T f (adv s)≠ .out):Rs (aw4 q x) (PN N T pr (wU T f (adv s))):=by
 unfold aw4
 refine Rs.map (P:=fun y=>PN N T pr (wU T f (adv s)) (bh2 y)) ?_ fun z hz=>hz
 unfold di5 tI
 have hop:wU T f (adv s)=(j9 T f 1 (adv s)).bind fun c s1=>(n4 T jT s1).bind fun _ s2=>(fQ T s2).bind fun n s3=>.ok (.node 6 0 ⟨#[]⟩ [c,n]) s3:=rfl
 refine PN.bind (hE f (Nat.le_refl _) 1 (by decide) (by decide) (adv s) _ (h.adv hT hne) (PR.bind_out ho)) (fun t s1 k n b m c x1 e1 hr1 g1=>?_) (fun p c e hp=>?_)
 ·rw[e1]at hop
  dsimp only[PR.bind]at hop
  refine PU.bind (mF hT q g1 jT (by decide)) (fun s2 x2 e2 g2=>?_) (fun p c e hp=>?_)
  ·rw[e2]at hop
   dsimp only[PR.bind]at hop
   refine PN.bind (pR hT q g2) (fun t2 s3 k2 n2 b2 m2 c2 x3 e hr hx=>?_) (fun p c e hp=>?_)
   ·rw[hop,e];exact Rs.some ⟨RepN.two hr1 hr,hx⟩
   ·(rw[hop,e];exact Rs.some ⟨hp,rfl⟩)
  ·(rw[hop,e];exact Rs.some ⟨hp,rfl⟩)
 ·(rw[hop,e];exact Rs.some ⟨hp,rfl⟩)
theorem br5(hT:TokN N T)(q:Nat)(h:RS N T pr s x)(hne:(T s.p).t≠⟨#[]⟩∨(T s.p).k≠0):Rs (ao7 q x) (PN N T pr (cl9 T (if isP T uV s=true then 11 else 5) (adv s))):=by
 unfold ao7
 refine Rs.map (P:=fun y=>PN N T pr (cl9 T (if isP T uV s=true then 11 else 5) (adv s)) (an3 y)) ?_ fun z hz=>hz
 unfold ce1 pO
 rw[bg2 q h]
 dsimp only[Option.bind_some]
 by_cases hi:isP T uV s=true
 ·refine Rs.pos hi ?_
  rw[if_pos hi]
  have hop:cl9 T 11 (adv s)=(fQ T (adv s)).bind fun n s2=>.ok (.node 11 0 ⟨#[]⟩ [n]) s2:=rfl
  refine PN.bind (pR hT q (h.adv hT hne)) (fun t2 s3 k2 n2 b2 m2 c2 x3 e hr hx=>?_) (fun p c e hp=>?_)
  ·rw[hop,e];exact Rs.some ⟨RepN.k1 hr,hx⟩
  ·(rw[hop,e];exact Rs.some ⟨hp,rfl⟩)
 ·refine Rs.neg hi ?_
  rw[if_neg hi]
  have hop:cl9 T 5 (adv s)=(fQ T (adv s)).bind fun n s2=>.ok (.node 5 0 ⟨#[]⟩ [n]) s2:=rfl
  refine PN.bind (pR hT q (h.adv hT hne)) (fun t2 s3 k2 n2 b2 m2 c2 x3 e hr hx=>?_) (fun p c e hp=>?_)
  ·rw[hop,e];exact Rs.some ⟨RepN.k1 hr,hx⟩
  ·(rw[hop,e];exact Rs.some ⟨hp,rfl⟩)
theorem br2(hT:TokN N T){f q:Nat}(hE:HE N T pr f q)(h:RS N T pr s x)(hne:(T s.p).t≠⟨#[]⟩∨(T s.p).k≠0)(ho:j9 T f 1 (adv s)≠ .out):Rs (ar7 q x) (PN N T pr (co3 T f (if isP T oQ s=true then 8 else 7) (adv s))):=by
 unfold ar7
 refine Rs.map (P:=fun y=>PN N T pr (co3 T f (if isP T oQ s=true then 8 else 7) (adv s)) (ar3 y)) ?_ fun z hz=>hz
 unfold ca4 pC
 rw[bg2 q h]
 dsimp only[Option.bind_some]
 by_cases hi:isP T oQ s=true
 ·refine Rs.pos hi ?_
  rw[if_pos hi]
  have hop:co3 T f 8 (adv s)=(j9 T f 1 (adv s)).bind fun n s2=>.ok (.node 8 0 ⟨#[]⟩ [n]) s2:=rfl
  refine PN.bind (hE f (Nat.le_refl _) 1 (by decide) (by decide) (adv s) _ (h.adv hT hne) ho) (fun t2 s3 k2 n2 b2 m2 c2 x3 e hr hx=>?_) (fun p c e hp=>?_)
  ·rw[hop,e];exact Rs.some ⟨RepN.k1 hr,hx⟩
  ·(rw[hop,e];exact Rs.some ⟨hp,rfl⟩)
 ·refine Rs.neg hi ?_
  rw[if_neg hi]
  have hop:co3 T f 7 (adv s)=(j9 T f 1 (adv s)).bind fun n s2=>.ok (.node 7 0 ⟨#[]⟩ [n]) s2:=rfl
  refine PN.bind (hE f (Nat.le_refl _) 1 (by decide) (by decide) (adv s) _ (h.adv hT hne) ho) (fun t2 s3 k2 n2 b2 m2 c2 x3 e hr hx=>?_) (fun p c e hp=>?_)
  ·rw[hop,e];exact Rs.some ⟨RepN.k1 hr,hx⟩
  ·(rw[hop,e];exact Rs.some ⟨hp,rfl⟩)
def bi1(T:Nat→Tkn)(s:PS):PR Tr:=if isP T jP s=true then co8 T 12 99 (adv s)else if isP T rK s=true then co8 T 13 999 (adv s)else if isP T ac0 s=true then cg2 T 9 wL (adv s)else cg2 T 10 aG (adv s)
theorem ep7(hT:TokN N T)(q:Nat)(h:RS N T pr s x)(hne:(T s.p).t≠⟨#[]⟩∨(T s.p).k≠0)(kd:Int)(bb:ByteArray)(hb:bb≠⟨#[]⟩):
 Rs ((nM q (0,7,w (x.1+1),x.2)).bind fun z=>Sum.elim (fun za=>(iF q (bb,za.2)).bind fun y=>Sum.elim (fun ya=>(gB q ya).bind fun v=>Sum.elim (fun va=>(some (.inr (.inl (kd,za.1,(⟨#[]⟩:ByteArray),va))):Option cZ)) (fun vb=>some (.inr (.inr vb))) v) (fun yb=>some (.inr (.inr yb))) y) (fun zb=>some (.inr (.inr zb))) z) (fun y=>PN N T pr (cg2 T kd bb (adv s)) (mR y)):=by
 have hop:cg2 T kd bb (adv s)=(iD T 0 7 (adv s)).bind fun n s1=>(n4 T bb s1).bind fun _ s2=>(fQ T s2).bind fun m s3=>.ok (.node kd n ⟨#[]⟩ [m]) s3:=rfl
 refine PX.bind (yZ hT q (h.adv hT hne) 0 7) (fun a s1 x1 e1 g1=>?_) (fun p c e hp=>?_)
 ·rw[e1]at hop
  dsimp only[PR.bind]at hop
  refine PU.bind (mF hT q g1 bb hb) (fun s2 x2 e2 g2=>?_) (fun p c e hp=>?_)
  ·rw[e2]at hop
   dsimp only[PR.bind]at hop
   refine PN.bind (pR hT q g2) (fun t2 s3 k2 n2 b2 m2 c2 x3 e hr hx=>?_) (fun p c e hp=>?_)
   ·rw[hop,e];exact Rs.some ⟨RepN.k1 hr,hx⟩
   ·(rw[hop,e];exact Rs.some ⟨hp,rfl⟩)
  ·(rw[hop,e];exact Rs.some ⟨hp,rfl⟩)
 ·(rw[hop,e];exact Rs.some ⟨hp,rfl⟩)
theorem eg9(hT:TokN N T)(q:Nat)(h:RS N T pr s x)(hne:(T s.p).t≠⟨#[]⟩∨(T s.p).k≠0)(kd hi:Int):
 Rs ((nM q (0,hi,w (x.1+1),x.2)).bind fun z=>Sum.elim (fun za=>(some (.inl (kd,za.1,(⟨#[]⟩:ByteArray),za.2)):Option cZ)) (fun zb=>some (.inr (.inr zb))) z) (fun y=>PN N T pr (co8 T kd hi (adv s)) (mR y)):=by
 have hop:co8 T kd hi (adv s)=(iD T 0 hi (adv s)).bind fun n s1=>.ok (.node kd n ⟨#[]⟩ []) s1:=rfl
 refine PX.bind (yZ hT q (h.adv hT hne) 0 hi) (fun a s1 x1 e1 g1=>?_) (fun p c e hp=>?_)
 ·rw[hop,e1]
  exact Rs.some ⟨RepN.leaf,g1⟩
 ·(rw[hop,e];exact Rs.some ⟨hp,rfl⟩)
theorem rV(hT:TokN N T)(q:Nat)(h:RS N T pr s x)(hne:(T s.p).t≠⟨#[]⟩∨(T s.p).k≠0):Rs (numbered q x) (PN N T pr (bi1 T s)):=by
 unfold numbered
 refine Rs.map (P:=fun y=>PN N T pr (bi1 T s) (mR y)) ?_ fun z hz=>hz
 unfold ao5 iZ bi1
 rw[dG q h]
 dsimp only[Option.bind_some]
 rw[bg7,bg7,bg7]
 by_cases h1:isP T jP s=true
 ·rw[if_pos h1]
  exact Rs.pos h1 (eg9 hT q h hne 12 99)
 ·rw[if_neg h1]
  refine Rs.neg h1 ?_
  by_cases h2:isP T rK s=true
  ·rw[if_pos h2]
   exact Rs.pos h2 (eg9 hT q h hne 13 999)
  ·rw[if_neg h2]
   refine Rs.neg h2 ?_
   by_cases h3:isP T ac0 s=true
   ·rw[if_pos h3]
    exact Rs.pos h3 (ep7 hT q h hne 9 wL (by decide))
   ·rw[if_neg h3]
    exact Rs.neg h3 (ep7 hT q h hne 10 aG (by decide))
end
end Go.Proofs.YtcijknknahbbnaaGreatDoor
/- Blocks are read as the plain parser reads them. -/
namespace Go.Proofs.YtcijknknahbbnaaGreatDoor
open Go Go.Am Go.Proofs.Lx
set_option maxRecDepth 100000
section
variable {T:Nat→Tkn}
theorem Op.of{α:Type}{o o':Nat}{r:PR α}(h:Op o r)(e:o=o'):Op o' r:=e▸h
theorem Op.ite{α:Type}{o:Nat}{c:Prop}[Decidable c]{a b:PR α}(h1:Op o a)(h2:Op o b):Op o (if c then a else b):=by
 by_cases h:c
 ·rw[if_pos h];exact h1
 ·rw[if_neg h];exact h2
theorem eu1(s:PS):Op s.o (jV T s):=by
 unfold jV
 refine(ba8 s).bind fun a s1 e=>?_
 repeat' split
 all_goals first|trivial|exact e
theorem fh3(n:Tr)(s:PS):Op s.o (Lx.endP T n s):=(sE eF s).bind fun _ s1 e=>e
theorem ez5(f:Nat)(s:PS):Op s.o (cs6 T f s):=(eu1 s).bind fun a s1 e1=>(sE ae5 s1).bind fun _ s2 e2=>((vA (T:=T) f).1 1 s2).bind fun n s3 e3=>by show s3.o=s.o;omega
theorem eu7(f:Nat)(s:PS):Op s.o (cq3 T f s):=(ba8 s).bind fun a s1 e1=>(sE ae5 s1).bind fun _ s2 e2=>((vA (T:=T) f).1 1 s2).bind fun n s3 e3=>by show s3.o=s.o;omega
theorem dx3(f:Nat)(s:PS):Op s.o (wU T f s):=((vA (T:=T) f).1 1 s).bind fun n s1 e1=>(sE jT s1).bind fun _ s2 e2=>(bz4 s2).bind fun m s3 e3=>by show s3.o=s.o;omega
theorem dp6(k:Int)(s:PS):Op s.o (cl9 T k s):=(bz4 s).bind fun n s1 e1=>e1
theorem dn1(f:Nat)(k:Int)(s:PS):Op s.o (co3 T f k s):=((vA (T:=T) f).1 1 s).bind fun n s1 e1=>e1
theorem dp4(k hi:Int)(s:PS):Op s.o (co8 T k hi s):=(bw7 0 hi s).bind fun n s1 e1=>e1
theorem dn5(k:Int)(b:ByteArray)(s:PS):Op s.o (cg2 T k b s):=(bw7 0 7 s).bind fun n s1 e1=>(sE b s1).bind fun _ s2 e2=>(bz4 s2).bind fun m s3 e3=>by show s3.o=s.o;omega
theorem jX{r:PR Tr}{o:Nat}(h:Op o r):Op o (r.bind (Lx.endP T)):=h.bind fun n s e=>(fh3 n s).of e
theorem ew9:∀f,(∀s,Op s.o (m4 T f s))∧(∀s,Op s.o (n9 T f s))∧(∀s,Op s.o (t8 T f s)):=by
 intro f
 induction f with
 |zero=>exact⟨fun _=>by rw[m4];trivial,fun _=>by rw[n9];trivial,fun _=>by rw[t8];trivial⟩
 |succ f ih=>
  obtain⟨h1,h2,h3⟩:=ih
  refine⟨fun s=>?_,fun s=>?_,fun s=>?_⟩
  ·rw[m4]
   refine(tJ xQ s).bind fun _ s1 e1=>(h2 s1).bind fun l s2 e2=>?_
   show s2.o-1=s.o
   omega
  ·rw[n9]
   split
   ·rfl
   ·exact(h3 s).bind fun n s1 e1=>(h2 s1).bind fun l s2 e2=>by show s2.o=s.o;omega
  ·rw[t8]
   refine Op.ite ?_ ?_
   ·rw[db6];exact jX (ez5 f (adv s))
   refine Op.ite ?_ ?_
   ·refine((vA (T:=T) f).1 1 (adv s)).bind fun c s1 e1=>(h1 s1).bind fun y s2 e2=>?_
    have e1:s1.o=s.o:=e1
    refine Op.ite ?_ ?_
    ·exact(h1 (adv s2)).bind fun n s3 e3=>by
      have e3:s3.o=s2.o:=e3
      show s3.o=s.o
      omega
    ·show s2.o=s.o
     omega
   refine Op.ite ?_ ?_
   ·exact(bw7 1 100 (adv s)).bind fun n s1 e1=>(h1 s1).bind fun y s2 e2=>by
     have e1:s1.o=s.o:=e1
     show s2.o=s.o
     omega
   refine Op.ite ?_ ?_
   ·rw[bj3];exact jX (dx3 f (adv s))
   refine Op.ite ?_ ?_
   ·rw[ao0];exact jX (dp6 5 (adv s))
   refine Op.ite ?_ ?_
   ·rw[ao0];exact jX (dp6 11 (adv s))
   refine Op.ite ?_ ?_
   ·rw[an5];exact jX (dn1 f 7 (adv s))
   refine Op.ite ?_ ?_
   ·rw[an5];exact jX (dn1 f 8 (adv s))
   refine Op.ite ?_ ?_
   ·rw[an9];exact jX (dn5 9 wL (adv s))
   refine Op.ite ?_ ?_
   ·rw[an9];exact jX (dn5 10 aG (adv s))
   refine Op.ite ?_ ?_
   ·rw[ar9];exact jX (dp4 12 99 (adv s))
   refine Op.ite ?_ ?_
   ·rw[ar9];exact jX (dp4 13 999 (adv s))
   ·rw[dd2];exact jX (eu7 f s)
end
abbrev Z0:Type:=Nat×(Nat→Int)×(Nat→Int)×(Nat→ByteArray)×(Nat→Int)×Int×Int×Nat×Nat×(Nat→ByteArray)×(Nat→ByteArray)
abbrev bv3:Type:=(Nat→Int)×(Nat→Int)×(Nat→ByteArray)×(Nat→Nat)×(Nat→Nat→List V)×Nat
def z0(x:StT):Z0:=(x.2.2.1,x.2.2.2.1,x.2.2.2.2.1,x.2.2.2.2.2.1,x.2.2.2.2.2.2.1,x.1,x.2.1,x.2.2.2.2.2.2.2.1,x.2.2.2.2.2.2.2.2.2.1,x.2.2.2.2.2.2.2.2.1,x.2.2.2.2.2.2.2.2.2.2)
def za(x:StT)(a:bv3):Nat×(Nat→Int)×(Nat→Int)×(Nat→ByteArray)×(Nat→Int)×Int×Int×Nat×Nat×(Nat→ByteArray)×(Nat→ByteArray)×bv3:=(x.2.2.1,x.2.2.2.1,x.2.2.2.2.1,x.2.2.2.2.2.1,x.2.2.2.2.2.2.1,x.1,x.2.1,x.2.2.2.2.2.2.2.1,x.2.2.2.2.2.2.2.2.2.1,x.2.2.2.2.2.2.2.2.1,x.2.2.2.2.2.2.2.2.2.2,a)
def zb(x:StT)(a:bv3):Nat×(Nat→Int)×(Nat→Int)×(Nat→ByteArray)×(Nat→Int)×Int×Int×Nat×Nat×(Nat→ByteArray)×(Nat→ByteArray)×Nat×(Nat→Int)×(Nat→Int)×(Nat→ByteArray)×(Nat→Nat)×(Nat→Nat→List V):=(x.2.2.1,x.2.2.2.1,x.2.2.2.2.1,x.2.2.2.2.2.1,x.2.2.2.2.2.2.1,x.1,x.2.1,x.2.2.2.2.2.2.2.1,x.2.2.2.2.2.2.2.2.2.1,x.2.2.2.2.2.2.2.2.1,x.2.2.2.2.2.2.2.2.2.2,a.2.2.2.2.2,a.1,a.2.1,a.2.2.1,a.2.2.2.1,a.2.2.2.2.1)
def RepA(l:List Tr)(a:bv3):Prop:=a.2.2.2.2.2=l.length∧∀j t,l[j]? =some t→RepN t (a.1 j,a.2.1 j,a.2.2.1 j,a.2.2.2.1 j,a.2.2.2.2.1 j)
theorem dk6{f:Nat→List V}:∀(l:List Tr) (i:Nat),(∀j t,l[j]? =some t→∃y:mI,f (i+j)=[i64 y.1,i64 y.2.1,st y.2.2.1,.ro 4 y.2.2.2.1 y.2.2.2.2]∧RepN t y)→ad2 l f i
 | [],_,_=>by simp[ad2]
 |t::l,i,h=>by
  simp only[ad2]
  refine⟨h 0 t rfl,dk6 l (i+1) fun j t' e=>?_⟩
  have:=h (j+1) t' (by simpa using e)
  rwa [show i+(j+1)=i+1+j by omega]at this
theorem RepA.node{l:List Tr}{a:bv3}(h:RepA l a):RepN (.node 14 0 ⟨#[]⟩ l) (14,0,⟨#[]⟩,a.2.2.2.2.2,fun j=>[i64 (a.1 j),i64 (a.2.1 j),st (a.2.2.1 j),.ro 4 (a.2.2.2.1 j) (a.2.2.2.2.1 j)]):=by
 simp only[RepN]
 refine⟨trivial,trivial,trivial,h.1,dk6 l 0 fun j t e=>⟨(a.1 j,a.2.1 j,a.2.2.1 j,a.2.2.2.1 j,a.2.2.2.2.1 j),by rw[Nat.zero_add],h.2 j t e⟩⟩
def fn3(y:mI):bv3:=(fun _=>y.1,fun _=>y.2.1,fun _=>y.2.2.1,fun _=>y.2.2.2.1,fun _=>y.2.2.2.2,1)
theorem eq0{t:Tr}{y:mI}(h:RepN t y):RepA [t] (fn3 y):=by
 refine⟨rfl,fun j t' e=>?_⟩
 cases j with
 |zero=>simp only[List.getElem?_cons_zero,Option.some.injEq]at e;subst e;exact h
 |succ j=>simp at e
def el9(a:bv3)(y:mI):bv3:=(fun j=>if j<a.2.2.2.2.2 then a.1 j else y.1,fun j=>if j<a.2.2.2.2.2 then a.2.1 j else y.2.1,fun j=>if j<a.2.2.2.2.2 then a.2.2.1 j else y.2.2.1,fun j=>if j<a.2.2.2.2.2 then a.2.2.2.1 j else y.2.2.2.1,fun j i=>if j<a.2.2.2.2.2 then a.2.2.2.2.1 j i else y.2.2.2.2 i,a.2.2.2.2.2+1)
theorem eq6{l:List Tr}{a:bv3}{t:Tr}{y:mI}(h:RepA l a)(g:RepN t y):RepA (l++[t]) (el9 a y):=by
 refine⟨by simp[el9,h.1],fun j t' e=>?_⟩
 by_cases hj:j<l.length
 ·rw[List.getElem?_append_left hj]at e
  have:=h.2 j t' e
  simp only[el9,h.1,hj,if_true]
  exact this
 ·rw[List.getElem?_append_right (by omega)]at e
  simp only[el9,h.1,hj,if_false]
  cases hk:j-l.length with
  |zero=>rw[hk]at e;simp only[List.getElem?_cons_zero,Option.some.injEq]at e;subst e;exact g
  |succ n=>rw[hk]at e;simp at e
section
variable {N:Nat} {T:Nat→Tkn} {pr:List ByteArray}
def BL(N:Nat)(T:Nat→Tkn)(pr:List ByteArray)(acc:List Tr):PR (List Tr)→jB→Prop
 | .ok l s,.inr (.inl z)=>acc++l=[]∧∃x,z=z0 x∧RS N T pr s x
 | .ok l s,.inr (.inr z)=>∃x a,z=zb x a∧RepA (acc++l) a∧RS N T pr s x
 | .err p c,.inl e=>p<N∧e=((T p).a,c)
 |_,_=>False
def BS(acc:List Tr)(x:StT):aS→Prop
 | .inl y=>acc=[]∧y=z0 x
 | .inr y=>∃a,y=za x a∧RepA acc a
def HS(N:Nat)(T:Nat→Tkn)(pr:List ByteArray)(f q:Nat):Prop:=∀g,g≤f→∀(s:PS) (x:StT),RS N T pr s x→t8 T g s≠ .out→Rs (tX q x) (PN N T pr (t8 T g s))
def HB(N:Nat)(T:Nat→Tkn)(pr:List ByteArray)(f q:Nat):Prop:=∀g,g≤f→∀(s:PS) (x:StT),RS N T pr s x→m4 T g s≠ .out→Rs (block q x) (PN N T pr (m4 T g s))
theorem cz1(hT:TokN N T){f q:Nat}(hS:HS N T pr f q)(x0:StT):∀(g:Nat),g≤f→∀(m:Nat),g<m→∀(acc:List Tr) (s:PS) (x:StT) (y:aS),BS acc x y→acc.length+g≤1000000000→RS N T pr s x→n9 T g s≠ .out→
 Rs (lK (qD q) (take q) (tX q) m x0 y) (BL N T pr acc (n9 T g s)):=by
 intro g
 induction g with
 |zero=>intro _ m _ acc s x y _ _ _ ho;rw[n9]at ho;exact absurd rfl ho
 |succ g ih=>
  intro hg m hm acc s x y hy hb h ho
  obtain⟨m,rfl⟩:∃k,m=k+1:=⟨m-1,by omega⟩
  unfold lK
  refine Rs.step3 fun Q hQ=>?_
  have h0:=h
  obtain⟨v,u,rfl,h1,h2,h3,h4,h5,h6⟩:=h
  have hop:n9 T (g+1) s=if isP T rH s=true then .ok [] (adv s)else(t8 T g s).bind fun n s1=>(n9 T g s1).bind fun l s2=>.ok (n::l) s2:=by rw[n9]
  rcases y with y|y
  ·obtain⟨rfl,rfl⟩:=hy
   rw[Sum.elim_inl]
   unfold fK
   dsimp only[z0]
   rw[eG q (s:=s) (pr:=pr) (N:=N) (T:=T) h0]
   dsimp only[Option.bind_some]
   by_cases hi:isP T rH s=true
   ·rw[if_pos hi]at hop⊢
    refine Rs.neg (by simp) (Rs.some ?_)
    show BL N T pr [] (n9 T (g+1) s) _
    rw[hop]
    exact⟨rfl,_,rfl,h0.adv hT (o9 (by decide) hi)⟩
   ·rw[if_neg hi]at hop⊢
    refine Rs.pos (by simp) ?_
    refine PN.bind (hS g (by omega) s _ h0 (PR.bind_out (hop▸ho))) (fun t s2 k1 n1 b1 m1 c1 x1 e hr hx=>?_) (fun p c e hp=>?_)
    ·rw[e]at hop
     dsimp only[PR.bind]at hop
     refine Rs.some (hQ _ ?_)
     have ho2:=PR.bind_out (hop▸ho)
     refine(ih (by omega) m (by omega) [t] s2 x1 (.inr (za x1 (fn3 (k1,n1,b1,m1,c1)))) ⟨_,rfl,eq0 hr⟩ (by simp;omega) hx ho2).mono fun z hz=>?_
     rw[hop]
     cases hr2:n9 T g s2 with
     |out=>exact absurd hr2 ho2
     |err p c=>rw[hr2]at hz;rcases z with z|z|z<;>exact hz
     |ok l s3=>
      rw[hr2]at hz
      rcases z with z|z|z
      ·exact hz.elim
      ·exact absurd hz.1 (by simp)
      ·exact hz
    ·refine Rs.some ?_
     show BL N T pr [] (n9 T (g+1) s) _
     rw[hop,e]
     exact⟨hp,rfl⟩
  ·obtain⟨a,rfl,ha⟩:=hy
   rw[Sum.elim_inr]
   unfold fJ
   dsimp only[za]
   rw[eG q (s:=s) (pr:=pr) (N:=N) (T:=T) h0]
   dsimp only[Option.bind_some]
   by_cases hi:isP T rH s=true
   ·rw[if_pos hi]at hop⊢
    refine Rs.neg (by simp) (Rs.some ?_)
    show BL N T pr acc (n9 T (g+1) s) _
    rw[hop]
    exact⟨_,a,rfl,by rw[List.append_nil];exact ha,h0.adv hT (o9 (by decide) hi)⟩
   ·rw[if_neg hi]at hop⊢
    refine Rs.pos (by simp) ?_
    refine PN.bind (hS g (by omega) s _ h0 (PR.bind_out (hop▸ho))) (fun t s2 k1 n1 b1 m1 c1 x1 e hr hx=>?_) (fun p c e hp=>?_)
    ·rw[e]at hop
     dsimp only[PR.bind]at hop
     have hal:=ha.1
     refine Rs.pos ⟨by unfold d9;omega,by unfold maxLen;omega,Nat.le_refl _⟩ (Rs.some (hQ _ ?_))
     have ho2:=PR.bind_out (hop▸ho)
     refine(ih (by omega) m (by omega) (acc++[t]) s2 x1 (.inr (za x1 (el9 a (k1,n1,b1,m1,c1)))) ⟨_,rfl,eq6 ha hr⟩ (by simp;omega) hx ho2).mono fun z hz=>?_
     rw[hop]
     cases hr2:n9 T g s2 with
     |out=>exact absurd hr2 ho2
     |err p c=>rw[hr2]at hz;rcases z with z|z|z<;>exact hz
     |ok l s3=>
      rw[hr2]at hz
      rcases z with z|z|z
      ·exact hz.elim
      ·exact absurd hz.1 (by simp)
      ·obtain⟨x2,a2,e1,e2,e3⟩:=hz
       exact⟨x2,a2,e1,by simpa using e2,e3⟩
    ·refine Rs.some ?_
     show BL N T pr acc (n9 T (g+1) s) _
     rw[hop,e]
     exact⟨hp,rfl⟩
end
end Go.Proofs.YtcijknknahbbnaaGreatDoor
/- Statements are read as the plain parser reads them. -/
namespace Go.Proofs.YtcijknknahbbnaaGreatDoor
open Go Go.Am Go.Proofs.Lx
set_option maxRecDepth 100000
section
variable (T:Nat→Tkn)
def brQ(f:Nat)(s:PS):PR Tr:=(j9 T f 1 s).bind fun c s1=>(m4 T f s1).bind fun y s2=>
 if isP T iK s2=true then(m4 T f (adv s2)).bind fun n s3=>.ok (.node 3 0 ⟨#[]⟩ [c,y,n]) s3 else .ok (.node 3 0 ⟨#[]⟩ [c,y,.node 14 0 ⟨#[]⟩ []]) s2
def ec3(f:Nat)(s:PS):PR Tr:=(iD T 1 100 s).bind fun n s1=>(m4 T f s1).bind fun y s2=>.ok (.node 4 n ⟨#[]⟩ [y]) s2
end
section
variable {N:Nat} {T:Nat→Tkn} {pr:List ByteArray} {s:PS} {x:StT}
theorem dh8(hT:TokN N T){f q:Nat}(hq:f<q)(hf:f≤1000000000)(hS:HS N T pr f q)(h:RS N T pr s x)(ho:m4 T (f+1) s≠ .out):Rs (block (q+1) x) (PN N T pr (m4 T (f+1) s)):=by
 show Rs ((nJ (qD q) (take q) (tX q) (lK (qD q) (take q) (tX q) q x) x some).map ag7) _
 refine Rs.map (P:=fun y=>PN N T pr (m4 T (f+1) s) (ag7 y)) ?_ fun z hz=>hz
 unfold nJ
 have hop:m4 T (f+1) s=(aE T xQ s).bind fun _ s1=>(n9 T f s1).bind fun l s2=>.ok (.node 14 0 ⟨#[]⟩ l) (cM s2):=by rw[m4]
 refine PU.bind (bi4 hT q h xQ (by decide)) (fun s1 x1 e1 g1=>?_) (fun p c e hp=>?_)
 ·have o1:=tJ (T:=T) xQ s
  rw[e1]at hop o1
  dsimp only[PR.bind]at hop
  have o1:s1.o=s.o+1:=o1
  have ho2:=PR.bind_out (hop▸ho)
  refine Rs.bind (cz1 hT hS x f (Nat.le_refl _) q hq [] s1 x1 (.inl (z0 x1)) ⟨rfl,rfl⟩ (by simpa using hf) g1 ho2) fun z hz=>?_
  rw[hop]
  have o2:=(ew9 (T:=T) f).2.1 s1
  cases hr2:n9 T f s1 with
  |out=>exact absurd hr2 ho2
  |err p c=>
   rw[hr2]at hz
   rcases z with z|z|z
   ·exact Rs.some hz
   ·exact hz.elim
   ·exact hz.elim
  |ok l s2=>
   rw[hr2]at hz o2
   have o2:s2.o=s1.o:=o2
   rcases z with z|z|z
   ·exact hz.elim
   ·obtain⟨e1,x2,rfl,g3⟩:=hz
    simp only[List.nil_append]at e1
    subst e1
    exact Rs.some ⟨RepN.leaf,g3.close hT (by omega)⟩
   ·obtain⟨x2,a,rfl,ha,g3⟩:=hz
    exact Rs.some ⟨RepA.node ha,g3.close hT (by omega)⟩
 ·(rw[hop,e];exact Rs.some ⟨hp,rfl⟩)
theorem dt3(hT:TokN N T){f q:Nat}(hB:HB N T pr f q)(h:RS N T pr s x)(hne:(T s.p).t≠⟨#[]⟩∨(T s.p).k≠0)(ho:ec3 T f (adv s)≠ .out):Rs (dl3 (q+1) x) (PN N T pr (ec3 T f (adv s))):=by
 show Rs ((eT (nM q) (block q) x some).map uZ) _
 refine Rs.map (P:=fun y=>PN N T pr (ec3 T f (adv s)) (uZ y)) ?_ fun z hz=>hz
 unfold eT
 have hop:ec3 T f (adv s)=(iD T 1 100 (adv s)).bind fun n s1=>(m4 T f s1).bind fun y s2=>.ok (.node 4 n ⟨#[]⟩ [y]) s2:=rfl
 refine PX.bind (yZ hT q (h.adv hT hne) 1 100) (fun a s1 x1 e1 g1=>?_) (fun p c e hp=>?_)
 ·rw[e1]at hop
  dsimp only[PR.bind]at hop
  refine PN.bind (hB f (Nat.le_refl _) s1 x1 g1 (PR.bind_out (hop▸ho))) (fun t s3 k n b m c x3 e hr hx=>?_) (fun p c e hp=>?_)
  ·rw[hop,e];exact Rs.some ⟨RepN.k1 hr,hx⟩
  ·(rw[hop,e];exact Rs.some ⟨hp,rfl⟩)
 ·(rw[hop,e];exact Rs.some ⟨hp,rfl⟩)
theorem ds9(hT:TokN N T){f q:Nat}(hE:HE N T pr f q)(hB:HB N T pr f q)(h:RS N T pr s x)(hne:(T s.p).t≠⟨#[]⟩∨(T s.p).k≠0)(ho:brQ T f (adv s)≠ .out):Rs (ed7 (q+1) x) (PN N T pr (brQ T f (adv s))):=by
 show Rs ((iO (wB q) (block q) (take q) x some).map pM) _
 refine Rs.map (P:=fun y=>PN N T pr (brQ T f (adv s)) (pM y)) ?_ fun z hz=>hz
 unfold iO
 have hop:brQ T f (adv s)=(j9 T f 1 (adv s)).bind fun c s1=>(m4 T f s1).bind fun y s2=>
  if isP T iK s2=true then(m4 T f (adv s2)).bind fun n s3=>.ok (.node 3 0 ⟨#[]⟩ [c,y,n]) s3 else .ok (.node 3 0 ⟨#[]⟩ [c,y,.node 14 0 ⟨#[]⟩ []]) s2:=rfl
 refine PN.bind (hE f (Nat.le_refl _) 1 (by decide) (by decide) (adv s) _ (h.adv hT hne) (PR.bind_out ho)) (fun t1 s1 k1 n1 b1 m1 c1 x1 e1 hr1 g1=>?_) (fun p c e hp=>?_)
 ·rw[e1]at hop
  dsimp only[PR.bind]at hop
  refine PN.bind (hB f (Nat.le_refl _) s1 x1 g1 (PR.bind_out (hop▸ho))) (fun t2 s2 k2 n2 b2 m2 c2 x2 e2 hr2 g2=>?_) (fun p c e hp=>?_)
  ·rw[e2]at hop
   dsimp only[PR.bind]at hop
   rw[eG q g2]
   dsimp only[Option.bind_some]
   by_cases hi:isP T iK s2=true
   ·rw[if_pos hi]at hop⊢
    refine Rs.pos rfl ?_
    refine PN.bind (hB f (Nat.le_refl _) (adv s2) _ (g2.adv hT (o9 (by decide) hi)) (PR.bind_out (hop▸ho))) (fun t3 s3 k3 n3 b3 m3 c3 x3 e hr hx=>?_) (fun p c e hp=>?_)
    ·rw[hop,e]
     refine Rs.some ⟨?_,hx⟩
     simp only[RepN,ad2,List.length_cons,List.length_nil,pM,Sum.elim_inl]
     exact⟨trivial,trivial,trivial,trivial,⟨(k1,n1,b1,m1,c1),rfl,hr1⟩,⟨(k2,n2,b2,m2,c2),rfl,hr2⟩,⟨(k3,n3,b3,m3,c3),rfl,hr⟩,trivial⟩
    ·(rw[hop,e];exact Rs.some ⟨hp,rfl⟩)
   ·rw[if_neg hi]at hop⊢
    refine Rs.neg (by simp) ?_
    rw[hop]
    refine Rs.some ⟨?_,g2⟩
    simp only[RepN,ad2,List.length_cons,List.length_nil,pM,Sum.elim_inl]
    exact⟨trivial,trivial,trivial,trivial,⟨(k1,n1,b1,m1,c1),rfl,hr1⟩,⟨(k2,n2,b2,m2,c2),rfl,hr2⟩,⟨(14,0,⟨#[]⟩,0,fun _=>[]),rfl,by simp⟩,trivial⟩
  ·(rw[hop,e];exact Rs.some ⟨hp,rfl⟩)
 ·(rw[hop,e];exact Rs.some ⟨hp,rfl⟩)
theorem kE(hT:TokN N T)(q:Nat){r:PR Tr}{o:Option aL}(h:Rs o (PN N T pr r)):
 Rs (o.bind fun z=>Sum.elim (fun za=>(iF q (eF,za.2.2.2.2.2)).bind fun y=>Sum.elim (fun ya=>(some (.inl (za.1,za.2.1,za.2.2.1,za.2.2.2.1,za.2.2.2.2.1,ya)):Option dE)) (fun yb=>some (.inr yb)) y) (fun zb=>some (.inr zb)) z) (fun y=>PN N T pr (r.bind (Lx.endP T)) (bX y)):=by
 refine PN.bind h (fun t s3 k n b m c x3 e hr hx=>?_) (fun p c e hp=>?_)
 ·subst e
  refine PU.bind (mF hT q hx eF (by decide)) (fun s4 x4 e4 g4=>?_) (fun p c e hp=>?_)
  ·show Rs _ fun y=>PN N T pr (Lx.endP T t s3) (bX y)
   unfold Lx.endP
   rw[e4]
   exact Rs.some ⟨hr,g4⟩
  ·show Rs _ fun y=>PN N T pr (Lx.endP T t s3) (bX y)
   unfold Lx.endP
   rw[e]
   exact Rs.some ⟨hp,rfl⟩
 ·subst e
  exact Rs.some ⟨hp,rfl⟩
theorem dm0{r:PR Tr}{o:Option aL}(h:Rs o (PN N T pr r)):
 Rs (o.bind fun z=>Sum.elim (fun za=>(some (.inl za):Option dE)) (fun zb=>some (.inr zb)) z) (fun y=>PN N T pr r (bX y)):=by
 refine PN.bind h (fun t s3 k n b m c x3 e hr hx=>?_) (fun p c e hp=>?_)
 ·subst e;exact Rs.some ⟨hr,hx⟩
 ·subst e;exact Rs.some ⟨hp,rfl⟩
theorem zS{a b:ByteArray}(hab:a≠b)(h:isP T a s=true):¬isP T b s=true:=by
 simp only[isP,decide_eq_true_eq]at h⊢
 rw[h];exact hab
theorem ea2(hT:TokN N T){f q:Nat}(hq:20≤q)(hE:HE N T pr f (q+1))(hE0:HE N T pr f q)(hB:HB N T pr f q)(h:RS N T pr s x)(ho:t8 T (f+1) s≠ .out):Rs (tX (q+2) x) (PN N T pr (t8 T (f+1) s)):=by
 show Rs ((bS (next (q+1)) (ds8 (q+1)) (ed7 (q+1)) (dl3 (q+1)) (aw4 (q+1)) (ao7 (q+1)) (ar7 (q+1)) (numbered (q+1)) (assign (q+1)) (iF (q+1)) x some).map bX) _
 refine Rs.map (P:=fun y=>PN N T pr (t8 T (f+1) s) (bX y)) ?_ fun z hz=>hz
 unfold bS
 rw[dG (q+1) h]
 dsimp only[Option.bind_some]
 simp only[bg7]
 have hop:t8 T (f+1) s=if isP T an0 s=true then(jV T (adv s)).bind fun x s1=>ai9 T f 1 x s1
  else if isP T ax9 s=true then brQ T f (adv s)
  else if isP T cI s=true then ec3 T f (adv s)
  else if isP T rS s=true then yM T f (adv s)
  else if isP T at8 s=true then bl8 T 5 (adv s)
  else if isP T uV s=true then bl8 T 11 (adv s)
  else if isP T pJ s=true then bn2 T f 7 (adv s)
  else if isP T oQ s=true then bn2 T f 8 (adv s)
  else if isP T ac0 s=true then ay1 T 9 wL (adv s)
  else if isP T yO s=true then ay1 T 10 aG (adv s)
  else if isP T jP s=true then ay6 T 12 99 (adv s)
  else if isP T rK s=true then ay6 T 13 999 (adv s)
  else(aB T s).bind fun x s1=>ai9 T f 2 x s1:=by rw[t8];rfl
 by_cases c1:isP T an0 s=true
 ·rw[if_pos c1,db6]at hop
  rw[hop]
  exact Rs.pos c1 (kE hT (q+1) (fe7 hT (by omega) hE h (o9 (by decide) c1) (PR.bind_out (hop▸ho))))
 rw[if_neg c1]at hop
 refine Rs.neg c1 ?_
 by_cases c2:isP T ax9 s=true
 ·rw[if_pos c2]at hop
  rw[hop]
  exact Rs.pos c2 (dm0 (ds9 hT hE0 hB h (o9 (by decide) c2) (hop▸ho)))
 rw[if_neg c2]at hop
 refine Rs.neg c2 ?_
 by_cases c3:isP T cI s=true
 ·rw[if_pos c3]at hop
  rw[hop]
  exact Rs.pos c3 (dm0 (dt3 hT hB h (o9 (by decide) c3) (hop▸ho)))
 rw[if_neg c3]at hop
 refine Rs.neg c3 ?_
 by_cases c4:isP T rS s=true
 ·rw[if_pos c4,bj3]at hop
  rw[hop]
  exact Rs.pos c4 (kE hT (q+1) (ei1 hT hE h (o9 (by decide) c4) (PR.bind_out (hop▸ho))))
 rw[if_neg c4]at hop
 refine Rs.neg c4 ?_
 by_cases c5:isP T at8 s=true
 ·rw[if_pos c5,ao0]at hop
  rw[hop]
  have:=br5 hT (q+1) h (o9 (by decide) c5)
  rw[if_neg (zS (by decide) c5)]at this
  exact Rs.pos c5 (kE hT (q+1) this)
 rw[if_neg c5]at hop
 refine Rs.neg c5 ?_
 by_cases c6:isP T uV s=true
 ·rw[if_pos c6,ao0]at hop
  rw[hop]
  have:=br5 hT (q+1) h (o9 (by decide) c6)
  rw[if_pos c6]at this
  exact Rs.pos c6 (kE hT (q+1) this)
 rw[if_neg c6]at hop
 refine Rs.neg c6 ?_
 by_cases c7:isP T pJ s=true
 ·rw[if_pos c7,an5]at hop
  rw[hop]
  have:=br2 hT hE h (o9 (by decide) c7) (PR.bind_out (PR.bind_out (hop▸ho)))
  rw[if_neg (zS (by decide) c7)]at this
  exact Rs.pos c7 (kE hT (q+1) this)
 rw[if_neg c7]at hop
 refine Rs.neg c7 ?_
 by_cases c8:isP T oQ s=true
 ·rw[if_pos c8,an5]at hop
  rw[hop]
  have:=br2 hT hE h (o9 (by decide) c8) (PR.bind_out (PR.bind_out (hop▸ho)))
  rw[if_pos c8]at this
  exact Rs.pos c8 (kE hT (q+1) this)
 rw[if_neg c8]at hop
 refine Rs.neg c8 ?_
 by_cases c9:isP T ac0 s=true
 ·rw[if_pos c9,an9]at hop
  rw[hop]
  have:=rV hT (q+1) h (o9 (by decide) c9)
  unfold bi1 at this
  rw[if_neg (zS (by decide) c9),if_neg (zS (by decide) c9),if_pos c9]at this
  exact Rs.pos c9 (kE hT (q+1) this)
 rw[if_neg c9]at hop
 refine Rs.neg c9 ?_
 by_cases c10:isP T yO s=true
 ·rw[if_pos c10,an9]at hop
  rw[hop]
  have:=rV hT (q+1) h (o9 (by decide) c10)
  unfold bi1 at this
  rw[if_neg (zS (by decide) c10),if_neg (zS (by decide) c10),if_neg c9]at this
  exact Rs.pos c10 (kE hT (q+1) this)
 rw[if_neg c10]at hop
 refine Rs.neg c10 ?_
 by_cases c11:isP T jP s=true
 ·rw[if_pos c11,ar9]at hop
  rw[hop]
  have:=rV hT (q+1) h (o9 (by decide) c11)
  unfold bi1 at this
  rw[if_pos c11]at this
  exact Rs.pos c11 (kE hT (q+1) this)
 rw[if_neg c11]at hop
 refine Rs.neg c11 ?_
 by_cases c12:isP T rK s=true
 ·rw[if_pos c12,ar9]at hop
  rw[hop]
  have:=rV hT (q+1) h (o9 (by decide) c12)
  unfold bi1 at this
  rw[if_neg c11,if_pos c12]at this
  exact Rs.pos c12 (kE hT (q+1) this)
 rw[if_neg c12]at hop
 refine Rs.neg c12 ?_
 rw[dd2]at hop
 rw[hop]
 exact kE hT (q+1) (dw8 hT hE h (PR.bind_out (hop▸ho)))
end
end Go.Proofs.YtcijknknahbbnaaGreatDoor
/- Statements are read as the plain parser reads them (2). -/
namespace Go.Proofs.YtcijknknahbbnaaGreatDoor
open Go Go.Am Go.Proofs.Lx
set_option maxRecDepth 100000
section
variable {N:Nat} {T:Nat→Tkn} {pr:List ByteArray}
theorem fo0(hT:TokN N T):∀f,f≤1000000000→∀q,2*f+22≤q→HS N T pr f q∧HB N T pr f q:=by
 intro f
 induction f with
 |zero=>
  intro _ q _
  refine⟨fun g hg s x _ ho=>?_,fun g hg s x _ ho=>?_⟩
  all_goals
   obtain rfl:g=0:=by omega
  ·rw[t8]at ho;exact absurd rfl ho
  ·rw[m4]at ho;exact absurd rfl ho
 |succ f ih=>
  intro hf q hq
  obtain⟨q,rfl⟩:∃k,q=k+2:=⟨q-2,by omega⟩
  obtain⟨a1,a2⟩:=ih (by omega) (q+2) (by omega)
  obtain⟨b1,b2⟩:=ih (by omega) (q+1) (by omega)
  obtain⟨c1,c2⟩:=ih (by omega) q (by omega)
  refine⟨fun g hg s x h ho=>?_,fun g hg s x h ho=>?_⟩
  ·by_cases e:g≤f
   ·exact a1 g e s x h ho
   ·obtain rfl:g=f+1:=by omega
    exact ea2 hT (by omega) (fb8 hT f (q+1) (by omega)).1 (fb8 hT f q (by omega)).1 c2 h ho
  ·by_cases e:g≤f
   ·exact a2 g e s x h ho
   ·obtain rfl:g=f+1:=by omega
    exact dh8 hT (by omega) (by omega) b1 h ho
end
end Go.Proofs.YtcijknknahbbnaaGreatDoor
/- Parameters are read as the plain parser reads them. -/
namespace Go.Proofs.YtcijknknahbbnaaGreatDoor
open Go Go.Am Go.Proofs.Lx
set_option maxRecDepth 100000
section
variable (T:Nat→Tkn)
def cV:Nat→PS→PR (List Prm)
 |0,_=>.out
 |f+1,s=>(at5 T s).bind fun x s1=>if isP T aG s1=true then(cV f (adv s1)).bind fun l s2=>.ok (x::l) s2 else .ok [x] s1
theorem dk7:∀f s,mJ T f s=(cV T f s).bind fun l s2=>(n4 T aF s2).bind fun _ s3=>.ok l s3
 |0,s=>by rw[mJ,cV];rfl
 |f+1,s=>by
  rw[mJ,cV,PR.bind_assoc]
  congr 1
  funext x s1
  by_cases h:isP T aG s1=true
  ·rw[if_pos h,if_pos h,dk7 f,PR.bind_assoc,PR.bind_assoc]
   congr 1
   funext l s2
   show((n4 T aF s2).bind fun _ s3=>PR.ok l s3).bind _=(n4 T aF s2).bind _
   rw[PR.bind_assoc]
   rfl
  ·rw[if_neg h,if_neg h]
   rfl
end
abbrev PrT:Type:=(Nat→ByteArray)×(Nat→ByteArray)×Nat
def zq(x:StT)(a:PrT):Nat×(Nat→Int)×(Nat→Int)×(Nat→ByteArray)×(Nat→Int)×Int×Int×Nat×Nat×(Nat→ByteArray)×(Nat→ByteArray)×PrT:=(x.2.2.1,x.2.2.2.1,x.2.2.2.2.1,x.2.2.2.2.2.1,x.2.2.2.2.2.2.1,x.1,x.2.1,x.2.2.2.2.2.2.2.1,x.2.2.2.2.2.2.2.2.2.1,x.2.2.2.2.2.2.2.2.1,x.2.2.2.2.2.2.2.2.2.2,a)
def dh0(l:List Prm)(a:PrT):Prop:=a.2.2=l.length∧∀j m,l[j]? =some m→a.1 j=m.x∧a.2.1 j=m.u
def fk0(x u:ByteArray):PrT:=(fun _=>x,fun _=>u,1)
theorem ag4(x u:ByteArray):dh0 [⟨x,u⟩] (fk0 x u):=by
 refine⟨rfl,fun j m e=>?_⟩
 cases j with
 |zero=>simp only[List.getElem?_cons_zero,Option.some.injEq]at e;subst e;exact⟨rfl,rfl⟩
 |succ j=>simp at e
def dx2(a:PrT)(x u:ByteArray):PrT:=(fun j=>if j<a.2.2 then a.1 j else x,fun j=>if j<a.2.2 then a.2.1 j else u,a.2.2+1)
theorem al4{l:List Prm}{a:PrT}(h:dh0 l a)(x u:ByteArray):dh0 (l++[⟨x,u⟩]) (dx2 a x u):=by
 refine⟨by simp[dx2,h.1],fun j m e=>?_⟩
 by_cases hj:j<l.length
 ·rw[List.getElem?_append_left hj]at e
  have:=h.2 j m e
  simp only[dx2,h.1,hj,if_true]
  exact this
 ·rw[List.getElem?_append_right (by omega)]at e
  simp only[dx2,h.1,hj,if_false]
  cases hk:j-l.length with
  |zero=>rw[hk]at e;simp only[List.getElem?_cons_zero,Option.some.injEq]at e;subst e;exact⟨rfl,rfl⟩
  |succ n=>rw[hk]at e;simp at e
section
variable {N:Nat} {T:Nat→Tkn} {pr:List ByteArray}
def BQ(N:Nat)(T:Nat→Tkn)(pr:List ByteArray)(acc:List Prm):PR (List Prm)→gD→Prop
 | .ok l s,.inr z=>∃x a,z=zq x a∧dh0 (acc++l) a∧RS N T pr s x
 | .err p c,.inl e=>p<N∧e=((T p).a,c)
 |_,_=>False
def QS(acc:List Prm)(x:StT):u6→Prop
 | .inl y=>acc=[]∧y=z0 x
 | .inr y=>∃a,y=zq x a∧dh0 acc a
theorem ei4{s:PS}{x:StT}(h:RS N T pr (adv s) x):s.p+1<N:=h.choose_spec.choose_spec.2.2.2.1
theorem dq2(hT:TokN N T){q:Nat}(hq:20≤q)(x0:aT):∀(g:Nat),∀(m:Nat),g<m→∀(acc:List Prm) (s:PS) (x:StT) (y:u6),QS acc x y→acc.length+g≤1000000000→RS N T pr s x→cV T g s≠ .out→
 Rs (qV (iF q) (take q) (jY q) (next q) (qH q) (fail q) m x0 y) (BQ N T pr acc (cV T g s)):=by
 intro g
 induction g with
 |zero=>intro m _ acc s x y _ _ _ ho;rw[cV]at ho;exact absurd rfl ho
 |succ g ih=>
  intro m hm acc s x y hy hb h ho
  obtain⟨m,rfl⟩:∃k,m=k+1:=⟨m-1,by omega⟩
  unfold qV
  refine Rs.step3 fun Q hQ=>?_
  have h0:=h
  obtain⟨v,u,rfl,h1,h2,h3,h4,h5,h6⟩:=h
  have hop:cV T (g+1) s=(at5 T s).bind fun x s1=>if isP T aG s1=true then(cV T g (adv s1)).bind fun l s2=>.ok (x::l) s2 else .ok [x] s1:=by rw[cV]
  have hpp:at5 T s=(jV T s).bind fun x s1=>if isP T vO s1=true then(if(T (s1.p+1)).k≠1 then .err (s1.p+1) 11 else if kS (T (s1.p+1)).t=false then .err (s1.p+1) 10 else .ok ⟨x,(T (s1.p+1)).t⟩ (adv (adv s1)))else .ok ⟨x,⟨#[]⟩⟩ s1:=rfl
  rcases y with y|y
  ·obtain⟨rfl,rfl⟩:=hy
   rw[Sum.elim_inl]
   unfold dT
   dsimp only[z0,zq]
   refine PX.bind (ae6 hT q hq h0) (fun b s1 x1 e1 g1=>?_) (fun p c e hp=>?_)
   ·rw[e1]at hpp
    dsimp only[PR.bind]at hpp⊢
    rw[eG q g1]
    dsimp only[Option.bind_some]
    by_cases hc:isP T vO s1=true
    ·rw[if_pos hc]at hpp⊢
     refine Rs.pos rfl ?_
     have g2:=RS.adv hT g1 (o9 (by decide) hc)
     have hl2:s1.p+1<N:=ei4 g2
     rw[dG q g2]
     dsimp only[Option.bind_some]
     refine Rs.bind (as9 q (T (adv s1).p).t) fun z hz=>?_
     by_cases hk:(T (s1.p+1)).k=1
     ·refine Rs.neg (by simpa[Lx.adv]using hk) ?_
      rw[if_neg (fun h=>h hk)]at hpp
      by_cases hu:kS (T (s1.p+1)).t=false
      ·rw[if_pos hu]at hpp
       rw[hpp]at hop
       refine Rs.pos (by rw[hz];simpa[Lx.adv]using hu) ?_
       rw[dM q g2]
       refine Rs.some ?_
       show BQ N T pr [] (cV T (g+1) s) _
       rw[hop]
       exact⟨hl2,rfl⟩
      ·rw[if_neg hu]at hpp
       rw[hpp]at hop
       dsimp only[PR.bind]at hop
       refine Rs.neg (by rw[hz];simpa[Lx.adv]using hu) ?_
       have g3:=RS.adv hT g2 (.inr (by show(T (s1.p+1)).k≠0;rw[hk];decide))
       dsimp only at g3⊢
       rw[eG q g3]
       dsimp only[Option.bind_some]
       by_cases hi:isP T aG (adv (adv s1))=true
       ·rw[if_pos hi]at hop⊢
        refine Rs.neg (by simp) (Rs.some (hQ _ ?_))
        have ho2:=PR.bind_out (hop▸ho)
        refine(ih m (by omega) ([]++[⟨b,(T (s1.p+1)).t⟩]) (adv (adv (adv s1))) _ (.inr (zq (w ((w (w (x1.1+1)+1),x1.2).1+1),(w (w (x1.1+1)+1),x1.2).2) (fk0 b (T (s1.p+1)).t))) ⟨_,rfl,(ag4 b (T (s1.p+1)).t)⟩ (by simp at hb⊢;omega) (RS.adv hT g3 (o9 (by decide) hi)) ho2).mono fun z hz=>?_
        rw[hop]
        cases hr2:cV T g (adv (adv (adv s1)))with
        |out=>exact absurd hr2 ho2
        |err p c=>rw[hr2]at hz;rcases z with z|z<;>exact hz
        |ok l s3=>
         rw[hr2]at hz
         rcases z with z|z
         ·exact hz.elim
         ·obtain⟨x2,a2,e1,e2,e3⟩:=hz
          exact⟨x2,a2,e1,by simpa using e2,e3⟩
       ·rw[if_neg hi]at hop⊢
        refine Rs.pos (by simp) (Rs.some ?_)
        show BQ N T pr [] (cV T (g+1) s) _
        rw[hop]
        exact⟨_,_,rfl,(ag4 b (T (s1.p+1)).t),g3⟩
     ·rw[if_pos hk]at hpp
      rw[hpp]at hop
      refine Rs.pos (by simpa[Lx.adv]using hk) ?_
      rw[dM q g2]
      refine Rs.some ?_
      show BQ N T pr [] (cV T (g+1) s) _
      rw[hop]
      exact⟨hl2,rfl⟩
    ·rw[if_neg hc]at hpp⊢
     rw[hpp]at hop
     dsimp only[PR.bind]at hop
     refine Rs.neg (by simp) ?_
     dsimp only
     rw[eG q g1]
     dsimp only[Option.bind_some]
     by_cases hi:isP T aG s1=true
     ·rw[if_pos hi]at hop⊢
      refine Rs.neg (by simp) (Rs.some (hQ _ ?_))
      have ho2:=PR.bind_out (hop▸ho)
      refine(ih m (by omega) ([]++[⟨b,⟨#[]⟩⟩]) (adv s1) _ (.inr (zq (w (x1.1+1),x1.2) (fk0 b ⟨#[]⟩))) ⟨_,rfl,(ag4 b ⟨#[]⟩)⟩ (by simp at hb⊢;omega) (RS.adv hT g1 (o9 (by decide) hi)) ho2).mono fun z hz=>?_
      rw[hop]
      cases hr2:cV T g (adv s1)with
      |out=>exact absurd hr2 ho2
      |err p c=>rw[hr2]at hz;rcases z with z|z<;>exact hz
      |ok l s3=>
       rw[hr2]at hz
       rcases z with z|z
       ·exact hz.elim
       ·obtain⟨x2,a2,e1,e2,e3⟩:=hz
        exact⟨x2,a2,e1,by simpa using e2,e3⟩
     ·rw[if_neg hi]at hop⊢
      refine Rs.pos (by simp) (Rs.some ?_)
      show BQ N T pr [] (cV T (g+1) s) _
      rw[hop]
      exact⟨_,_,rfl,(ag4 b ⟨#[]⟩),g1⟩
   ·rw[e]at hpp
    rw[hpp]at hop
    refine Rs.some ?_
    show BQ N T pr [] (cV T (g+1) s) _
    rw[hop]
    exact⟨hp,rfl⟩
  ·obtain⟨a,rfl,ha⟩:=hy
   have hal:=ha.1
   rw[Sum.elim_inr]
   unfold dS
   dsimp only[z0,zq]
   refine PX.bind (ae6 hT q hq h0) (fun b s1 x1 e1 g1=>?_) (fun p c e hp=>?_)
   ·rw[e1]at hpp
    dsimp only[PR.bind]at hpp⊢
    rw[eG q g1]
    dsimp only[Option.bind_some]
    by_cases hc:isP T vO s1=true
    ·rw[if_pos hc]at hpp⊢
     refine Rs.pos rfl ?_
     have g2:=RS.adv hT g1 (o9 (by decide) hc)
     have hl2:s1.p+1<N:=ei4 g2
     rw[dG q g2]
     dsimp only[Option.bind_some]
     refine Rs.bind (as9 q (T (adv s1).p).t) fun z hz=>?_
     by_cases hk:(T (s1.p+1)).k=1
     ·refine Rs.neg (by simpa[Lx.adv]using hk) ?_
      rw[if_neg (fun h=>h hk)]at hpp
      by_cases hu:kS (T (s1.p+1)).t=false
      ·rw[if_pos hu]at hpp
       rw[hpp]at hop
       refine Rs.pos (by rw[hz];simpa[Lx.adv]using hu) ?_
       rw[dM q g2]
       refine Rs.some ?_
       show BQ N T pr acc (cV T (g+1) s) _
       rw[hop]
       exact⟨hl2,rfl⟩
      ·rw[if_neg hu]at hpp
       rw[hpp]at hop
       dsimp only[PR.bind]at hop
       refine Rs.neg (by rw[hz];simpa[Lx.adv]using hu) ?_
       have g3:=RS.adv hT g2 (.inr (by show(T (s1.p+1)).k≠0;rw[hk];decide))
       dsimp only at g3⊢
       refine Rs.pos ⟨by unfold d9;omega,by unfold maxLen;omega,Nat.le_refl _⟩ ?_
       rw[eG q g3]
       dsimp only[Option.bind_some]
       by_cases hi:isP T aG (adv (adv s1))=true
       ·rw[if_pos hi]at hop⊢
        refine Rs.neg (by simp) (Rs.some (hQ _ ?_))
        have ho2:=PR.bind_out (hop▸ho)
        refine(ih m (by omega) (acc++[⟨b,(T (s1.p+1)).t⟩]) (adv (adv (adv s1))) _ (.inr (zq (w ((w (w (x1.1+1)+1),x1.2).1+1),(w (w (x1.1+1)+1),x1.2).2) (dx2 a b (T (s1.p+1)).t))) ⟨_,rfl,(al4 ha b (T (s1.p+1)).t)⟩ (by simp at hb⊢;omega) (RS.adv hT g3 (o9 (by decide) hi)) ho2).mono fun z hz=>?_
        rw[hop]
        cases hr2:cV T g (adv (adv (adv s1)))with
        |out=>exact absurd hr2 ho2
        |err p c=>rw[hr2]at hz;rcases z with z|z<;>exact hz
        |ok l s3=>
         rw[hr2]at hz
         rcases z with z|z
         ·exact hz.elim
         ·obtain⟨x2,a2,e1,e2,e3⟩:=hz
          exact⟨x2,a2,e1,by simpa using e2,e3⟩
       ·rw[if_neg hi]at hop⊢
        refine Rs.pos (by simp) (Rs.some ?_)
        show BQ N T pr acc (cV T (g+1) s) _
        rw[hop]
        exact⟨_,_,rfl,(al4 ha b (T (s1.p+1)).t),g3⟩
     ·rw[if_pos hk]at hpp
      rw[hpp]at hop
      refine Rs.pos (by simpa[Lx.adv]using hk) ?_
      rw[dM q g2]
      refine Rs.some ?_
      show BQ N T pr acc (cV T (g+1) s) _
      rw[hop]
      exact⟨hl2,rfl⟩
    ·rw[if_neg hc]at hpp⊢
     rw[hpp]at hop
     dsimp only[PR.bind]at hop
     refine Rs.neg (by simp) ?_
     dsimp only
     refine Rs.pos ⟨by unfold d9;omega,by unfold maxLen;omega,Nat.le_refl _⟩ ?_
     rw[eG q g1]
     dsimp only[Option.bind_some]
     by_cases hi:isP T aG s1=true
     ·rw[if_pos hi]at hop⊢
      refine Rs.neg (by simp) (Rs.some (hQ _ ?_))
      have ho2:=PR.bind_out (hop▸ho)
      refine(ih m (by omega) (acc++[⟨b,⟨#[]⟩⟩]) (adv s1) _ (.inr (zq (w (x1.1+1),x1.2) (dx2 a b ⟨#[]⟩))) ⟨_,rfl,(al4 ha b ⟨#[]⟩)⟩ (by simp at hb⊢;omega) (RS.adv hT g1 (o9 (by decide) hi)) ho2).mono fun z hz=>?_
      rw[hop]
      cases hr2:cV T g (adv s1)with
      |out=>exact absurd hr2 ho2
      |err p c=>rw[hr2]at hz;rcases z with z|z<;>exact hz
      |ok l s3=>
       rw[hr2]at hz
       rcases z with z|z
       ·exact hz.elim
       ·obtain⟨x2,a2,e1,e2,e3⟩:=hz
        exact⟨x2,a2,e1,by simpa using e2,e3⟩
     ·rw[if_neg hi]at hop⊢
      refine Rs.pos (by simp) (Rs.some ?_)
      show BQ N T pr acc (cV T (g+1) s) _
      rw[hop]
      exact⟨_,_,rfl,(al4 ha b ⟨#[]⟩),g1⟩
   ·rw[e]at hpp
    rw[hpp]at hop
    refine Rs.some ?_
    show BQ N T pr acc (cV T (g+1) s) _
    rw[hop]
    exact⟨hp,rfl⟩
end
end Go.Proofs.YtcijknknahbbnaaGreatDoor
/- Procedures are read as the plain parser reads them. -/
namespace Go.Proofs.YtcijknknahbbnaaGreatDoor
open Go Go.Am Go.Proofs.Lx
set_option maxRecDepth 100000
section
variable {N:Nat} {T:Nat→Tkn} {pr:List ByteArray} {s:PS} {x:StT}
def PPm(N:Nat)(T:Nat→Tkn)(pr:List ByteArray):PR (List Prm)→(Nat×(Nat→ByteArray)×(Nat→ByteArray)×StT)⊕(Int×Int)→Prop
 | .ok l s,.inl z=>dh0 l (z.2.1,z.2.2.1,z.1)∧RS N T pr s z.2.2.2
 | .err p c,.inr e=>p<N∧e=((T p).a,c)
 |_,_=>False
theorem de0(hT:TokN N T){f q:Nat}(hq:20≤q)(hf:f<q)(hf2:f≤1000000000)(h:RS N T pr s x)(ho:bY T f s≠ .out):Rs (ba2 q x) (fun y=>PPm N T pr (bY T f s) (zK y)):=by
 unfold ba2 oZ
 have hop:bY T f s=(n4 T fH s).bind fun _ s1=>if isP T aF s1=true then .ok [] (adv s1)else(cV T f s1).bind fun l s2=>(n4 T aF s2).bind fun _ s3=>.ok l s3:=by
  unfold bY
  simp only[dk7]
 refine PU.bind (mF hT q h fH (by decide)) (fun s1 x1 e1 g1=>?_) (fun p c e hp=>?_)
 ·rw[e1]at hop
  dsimp only[PR.bind]at hop
  rw[eG q g1]
  dsimp only[Option.bind_some]
  by_cases hi:isP T aF s1=true
  ·rw[if_pos hi]at hop⊢
   refine Rs.pos rfl ?_
   rw[hop]
   exact Rs.some ⟨⟨rfl,fun j m e=>by simp at e⟩,g1.adv hT (o9 (by decide) hi)⟩
  ·rw[if_neg hi]at hop⊢
   refine Rs.neg (by simp) ?_
   have ho2:=PR.bind_out (hop▸ho)
   refine Rs.bind (dq2 hT hq x f q hf [] s1 x1 (.inl (z0 x1)) ⟨rfl,rfl⟩ (by simpa using hf2) g1 ho2) fun z hz=>?_
   cases hr2:cV T f s1 with
   |out=>exact absurd hr2 ho2
   |err p c=>
    rw[hr2]at hz hop
    rcases z with z|z
    ·rw[hop];exact Rs.some hz
    ·exact hz.elim
   |ok l s2=>
    rw[hr2]at hz hop
    dsimp only[PR.bind]at hop
    rcases z with z|z
    ·exact hz.elim
    ·obtain⟨x2,a,rfl,ha,g3⟩:=hz
     refine PU.bind (mF hT q g3 aF (by decide)) (fun s3 x3 e g4=>?_) (fun p c e hp=>?_)
     ·rw[hop,e]
      exact Rs.some ⟨ha,g4⟩
     ·(rw[hop,e];exact Rs.some ⟨hp,rfl⟩)
 ·(rw[hop,e];exact Rs.some ⟨hp,rfl⟩)
theorem dw6(hT:TokN N T){f q:Nat}(hq:20≤q)(hf:f<q)(hf2:f≤1000000000){u:Nat→ByteArray}(hu:Ag u pr)(hp:s.p<N)(ho4:s.o≤12)(hl:pr.length≤2000000000)(ho:bY T f {s with vs:=[]}≠ .out):
 Rs (params q (((s.p:Nat):Int),((s.o:Nat):Int),N,(fun j=>(T j).k),(fun j=>(T j).a),(fun j=>(T j).t),(fun j=>(T j).n),pr.length,u)) (PPm N T pr (bY T f {s with vs:=[]})):=by
 unfold params
 refine Rs.map (P:=fun y=>PPm N T pr (bY T f {s with vs:=[]}) (zK y)) ?_ fun z hz=>hz
 exact de0 hT hq hf hf2 (s:={s with vs:=[]}) ⟨fun _=>ByteArray.empty,u,rfl,fun j b e=>by simp at e,hu,hp,ho4,by simp,hl⟩ ho
def fk4(c:Prc)(z:ByteArray×Nat×(Nat→ByteArray)×(Nat→ByteArray)×mI):Prop:=z.1=c.x∧dh0 c.ps (z.2.2.1,z.2.2.2.1,z.2.1)∧RepN c.b z.2.2.2.2
def PC(N:Nat)(T:Nat→Tkn)(pr:List ByteArray):PR Prc→o0→Prop
 | .ok c s,.inl z=>fk4 c (z.1,z.2.1,z.2.2.1,z.2.2.2.1,z.2.2.2.2.1,z.2.2.2.2.2.1,z.2.2.2.2.2.2.1,z.2.2.2.2.2.2.2.1,z.2.2.2.2.2.2.2.2.1)∧RS N T (pr++[c.x]) s z.2.2.2.2.2.2.2.2.2
 | .err p c,.inr e=>p<N∧e=((T p).a,c)
 |_,_=>False
theorem di3(q:Nat)(x0:j5)(a:ByteArray){v u:Nat→ByteArray}(h1:Ag v s.vs)(h2:Ag u pr)(h3:s.p<N)(hN:N≤4001)(h4:s.o≤12)(h5:s.vs.length≤12)(h6:pr.length≤2000000000):
 ∀(n i m:Nat),i+n=pr.length→n<m→(∀j,j<i→pr[j]? ≠some a)→
 Rs (lpG (fun y=>y4 (iF q) (name q) (fail q) (params q) (block q) x0 y (fun y=>some (.inl y)) (fun z=>some (.inr z))) m (pr.length,((pr.length:Nat):Int),N,(fun j=>(T j).k),(fun j=>(T j).a),(fun j=>(T j).t),(fun j=>(T j).n),(((s.p+1:Nat):Nat):Int),((s.o:Nat):Int),s.vs.length,v,u,a,((i:Nat):Int)))
  (fun z=>if inP pr a=true then z= .inl ((T s.p).a,4)else z= .inr (N,(fun j=>(T j).k),(fun j=>(T j).a),(fun j=>(T j).t),(fun j=>(T j).n),(((s.p+1:Nat):Nat):Int),((s.o:Nat):Int),s.vs.length,pr.length,v,u,a)):=by
 intro n
 induction n with
 |zero=>
  intro i m hi hm hno
  obtain⟨m,rfl⟩:∃k,m=k+1:=⟨m-1,by omega⟩
  refine Rs.step ?_
  unfold y4
  dsimp only
  refine Rs.neg (by simp;omega) (Rs.some ?_)
  have hnin:¬inP pr a=true:=by
   rw[inP_iff,List.mem_iff_getElem?]
   rintro⟨j,hj⟩
   have:=(List.getElem?_eq_some_iff.1 hj).1
   exact hno j (by omega) hj
  show(if inP pr a=true then _ else _)
  rw[if_neg hnin]
 |succ n ih=>
  intro i m hi hm hno
  obtain⟨m,rfl⟩:∃k,m=k+1:=⟨m-1,by omega⟩
  refine Rs.step ?_
  unfold y4
  dsimp only
  refine Rs.pos (by simp;omega) (Rs.pos ⟨by omega,by omega⟩ (Rs.pos ⟨by simp;omega,rfl⟩ ?_))
  have hget:pr[i]? =some (u i):=by
   have hlt:i<pr.length:=by omega
   have:=List.getElem?_eq_getElem hlt
   rw[this,h2 i _ this]
  have e:0+Int.toNat ((i:Nat):Int)=i:=by omega
  rw[e]
  refine Rs.ite (fun heq=>?_) (fun hne=>?_)
  ·rw[tl_eq]at heq
   have hin:inP pr a=true:=by
    rw[inP_iff,←heq]
    exact List.mem_iff_getElem?.2 ⟨i,hget⟩
   have e2:w ((((s.p+1:Nat):Nat):Int)-1)=((s.p:Nat):Int):=by rw[sO (by omega) (by omega)];omega
   rw[e2,dM q (s:=s) (pr:=pr) (N:=N) (T:=T) ⟨v,u,rfl,h1,h2,h3,h4,h5,h6⟩]
   refine Rs.some ?_
   show(if inP pr a=true then _ else _)
   rw[if_pos hin]
  ·rw[tl_eq]at hne
   refine Rs.some ?_
   show Rs (lpG _ m _) _
   rw[iE (by omega)]
   refine ih (i+1) m (by omega) (by omega) fun j hj=>?_
   by_cases hji:j=i
   ·subst hji
    rw[hget]
    simpa using hne
   ·exact hno j (by omega)
theorem nY(hT:TokN N T){f q:Nat}(hq:2*f+2000000100≤q)(hf2:f≤1000000000)(h:RS N T pr s x)(hl:pr.length≤1999999999)(ho:kR T f pr s≠ .out):Rs (aC q x) (PC N T pr (kR T f pr s)):=by
 unfold aC jA
 have hop:kR T f pr s=(n4 T o7 s).bind fun _ s1=>(aB T s1).bind fun x s2=>if inP pr x=true then .err s1.p 4 else(bY T f {s2 with vs:=[]}).bind fun l s3=>(m4 T f s3).bind fun b s4=>.ok ⟨x,l,b⟩ s4:=rfl
 refine PU.bind (mF hT q h o7 (by decide)) (fun s1 x1 e1 g1=>?_) (fun p c e hp=>?_)
 ·rw[e1]at hop
  dsimp only[PR.bind]at hop
  refine PX.bind (aj3 hT q g1) (fun a s2 x2 e2 g2=>?_) (fun p c e hp=>?_)
  ·obtain⟨rfl,rfl,hk,hr⟩:=co2 e2
   rw[e2]at hop
   dsimp only[PR.bind]at hop
   obtain⟨v,u,rfl,h1,h2,h3,h4,h5,h6⟩:=g2
   have hsp:=g1.lt
   have hN:=hT.big
   unfold oO
   refine Rs.bind (di3 (s:=s1) (pr:=pr) q x _ h1 h2 hsp hN h4 h5 h6 pr.length 0 q (by omega) (by omega) (fun j hj=>absurd hj (Nat.not_lt_zero j))) fun z hz=>?_
   by_cases hin:inP pr (T s1.p).t=true
   ·rw[if_pos hin]at hz hop
    subst hz
    rw[hop]
    exact Rs.some ⟨hsp,rfl⟩
   ·rw[if_neg hin]at hz hop
    subst hz
    dsimp only[Sum.elim_inr,Sum.elim_inl]
    refine Rs.pos ⟨by unfold d9;omega,by unfold maxLen;omega,Nat.le_refl _⟩ ?_
    have hl2:(pr++[(T s1.p).t]).length=pr.length+1:=by simp
    have hpar:=dw6 (s:=adv s1) (pr:=pr++[(T s1.p).t]) hT (by omega:20≤q) (by omega:f<q) hf2 (h2.push (x:=(T s1.p).t)) h3 h4 (by omega) (PR.bind_out (hop▸ho))
    rw[hl2]at hpar
    refine Rs.bind hpar fun z hz2=>?_
    cases hr3:bY T f {adv s1 with vs:=[]}with
    |out=>rw[hr3]at hz2;rcases z with z|z<;>exact hz2.elim
    |err p c=>
     rw[hr3]at hz2 hop
     rcases z with z|z
     ·exact hz2.elim
     ·rw[hop];exact Rs.some hz2
    |ok l s3=>
     rw[hr3]at hz2 hop
     dsimp only[PR.bind]at hop
     rcases z with z|z
     ·obtain⟨z1,z2,z3,x3⟩:=z
      obtain⟨k1,k2⟩:=hz2
      dsimp only[Sum.elim_inl]at k1 k2⊢
      refine PN.bind ((fo0 hT f hf2 q (by omega)).2 f (Nat.le_refl _) s3 x3 k2 (PR.bind_out (hop▸ho))) (fun t s4 k n b m c x4 e hr hx=>?_) (fun p c e hp=>?_)
      ·rw[hop,e]
       exact Rs.some ⟨⟨rfl,k1,hr⟩,hx⟩
      ·(rw[hop,e];exact Rs.some ⟨hp,rfl⟩)
     ·exact hz2.elim
  ·(rw[hop,e];exact Rs.some ⟨hp,rfl⟩)
 ·(rw[hop,e];exact Rs.some ⟨hp,rfl⟩)
end
end Go.Proofs.YtcijknknahbbnaaGreatDoor

