/- Texts joined. -/
import Derived.Test.YtjfkkokeegpeiaaGreatDoorQE
import Derived.Test.YtjfkkokeegpeiaaGreatDoorQD
import Derived.Test.YtjfkkokeegpeiaaGreatDoorQC
/- Statements, lifted. -/
set_option linter.unusedSimpArgs false
set_option linter.unusedVariables false
namespace Go.Proofs.YtjfkkokeegpeiaaGreatDoor
open Go Go.Am Go.Proofs
set_option maxRecDepth 100000
abbrev a_assignR:Type:=SP
abbrev g_assignR:Type:=(Int×Int×ByteArray×Int×Int×ByteArray×Nat×FL×SP)⊕(Int×Int)
def A_assignR:AR a_assignR:=fun x=>([.ptr 0 0],(hHP x))
def R_assignR:g_assignR→CRes:=Sum.elim (fun z:Int×Int×ByteArray×Int×Int×ByteArray×Nat×FL×SP=>.ret (.agg [i64 z.1,i64 z.2.1,st z.2.2.1,.sl 3 4 0 1]) [some (.blk [.ro 4 z.2.2.2.2.2.2.2.2.2.2.1 (fun j=>[i64 (z.2.2.2.2.2.2.2.2.2.2.2.1 j),i64 (z.2.2.2.2.2.2.2.2.2.2.2.2.1 j),st (z.2.2.2.2.2.2.2.2.2.2.2.2.2.1 j),i64 (z.2.2.2.2.2.2.2.2.2.2.2.2.2.2.1 j)]),i64 z.2.2.2.2.2.2.2.2.1,i64 z.2.2.2.2.2.2.2.2.2.1,.sl 1 1 0 z.2.2.2.2.2.2.2.2.2.2.2.2.2.2.2.1,.sl 2 1 0 z.2.2.2.2.2.2.2.2.2.2.2.2.2.2.2.2.2.1]),some (.row 9 1 z.2.2.2.2.2.2.2.2.2.2.2.2.2.2.2.1 (fun j=>[st (z.2.2.2.2.2.2.2.2.2.2.2.2.2.2.2.2.1 j)])),some (.row 9 1 z.2.2.2.2.2.2.2.2.2.2.2.2.2.2.2.2.2.1 (fun j=>[st (z.2.2.2.2.2.2.2.2.2.2.2.2.2.2.2.2.2.2 j)])),some (.row 35 4 1 (selL [[i64 z.2.2.2.1,i64 z.2.2.2.2.1,st z.2.2.2.2.2.1,.ro 4 z.2.2.2.2.2.2.1 z.2.2.2.2.2.2.2.1]]))]) (fun z:Int×Int=>.pan (.ifc 45 (.agg [i64 z.1,i64 z.2])))
def t_assignR{β:Type}(c_name:a_name→Option g_name)(c_must:a_must→Option g_must)(c_expr:a_expr→Option g_expr)(x:a_assignR)(dn:g_assignR→Option β):Option β:=
 (c_name x).bind fun z11=>Sum.elim (fun z11a=>(c_must (⟨#[61]⟩,z11a.2)).bind fun z24=>Sum.elim (fun z24a=>(c_expr (1,z24a)).bind fun z37=>Sum.elim (fun z37a=>dn (.inl (2,0,z11a.1,z37a))) (fun z37b=>dn (.inr z37b)) z37) (fun z24b=>dn (.inr z24b)) z24) (fun z11b=>dn (.inr z11b)) z11
theorem n_assignR{β:Type}(c_name c_must c_expr)(x)(dn:g_assignR→Option β):t_assignR c_name c_must c_expr x dn=(t_assignR c_name c_must c_expr x some).bind dn:=by
 unfold t_assignR
 repeat' first|exact n0|refine n1 fun _=>?_|refine n2 ?_ ?_|refine n3 (fun _=>?_) fun _=>?_|rfl
theorem r_assignR(c_name c_must c_expr)(x):callK E5 (ft2 54 A_name R_name c_name (ft2 53 A_must R_must c_must (ft2 136 A_expr R_expr c_expr ca0))) lo0 118 (A_assignR x).1 (A_assignR x).2 K=t_assignR (vf A_name c_name) (vf A_must c_must) (vf A_expr c_expr) x (fun z=>some (.c (R_assignR z))):=by kernel_rfl
noncomputable def assignR(q:Nat)(x:a_assignR):Option g_assignR:=t_assignR (name q) (must q) (expr q) x some
theorem sc_assignR(q:Nat):Lw E5 118 A_assignR R_assignR (assignR q):=sof hW5 hX5 (fk2 (sc_name q) (fk2 (sc_must q) (fk2 (sc_expr q) ca0_sound))) (fun _=>lo0_sound) fun x=>(r_assignR (name q) (must q) (expr q) x).trans (by rw[v_name,v_must,v_expr,n_assignR]<;>rfl)
abbrev a_assign:Type:=SP
abbrev g_assign:Type:=(Int×Int×ByteArray×Nat×FL×SP)⊕(Int×Int)
def A_assign:AR a_assign:=fun x=>([.ptr 0 0],(hHP x))
def d_assign(t:TT):a_assign:=(dHP t.2)
theorem v_assign:VI A_assign:=vd d_assign fun _=>rfl
def R_assign:g_assign→CRes:=Sum.elim (fun z:Int×Int×ByteArray×Nat×FL×SP=>.ret (.agg [i64 z.1,i64 z.2.1,st z.2.2.1,.ro 4 z.2.2.2.1 z.2.2.2.2.1]) (hHP z.2.2.2.2.2)) (fun z:Int×Int=>.pan (.ifc 45 (.agg [i64 z.1,i64 z.2])))
def cv_assign:g_assignR→g_assign:=Sum.elim (fun z=>.inl (z.1,z.2.1,z.2.2.1,1,selL [[i64 z.2.2.2.1,i64 z.2.2.2.2.1,st z.2.2.2.2.2.1,.ro 4 z.2.2.2.2.2.2.1 z.2.2.2.2.2.2.2.1]],z.2.2.2.2.2.2.2.2)) (fun z=>.inr z)
theorem cvs_assign{args:List V}{L:List (Option Chunk)}(z:g_assignR)(h:SC E5 118 args L (R_assignR z)):SC E5 118 args L (R_assign (cv_assign z)):=by
 rcases z with z|z
 ·exact cv_k h
 ·exact h
noncomputable def assign(q:Nat)(x:a_assign):Option g_assign:=(assignR q x).map cv_assign
theorem sc_assign(q:Nat):Lw E5 118 A_assign R_assign (assign q):=by
 intro x z h
 obtain⟨y,hy,rfl⟩:=Option.map_eq_some_iff.1 h
 exact cvs_assign y (sc_assignR q x y hy)
abbrev a_letSR:Type:=SP
abbrev g_letSR:Type:=(Int×Int×ByteArray×Int×Int×ByteArray×Nat×FL×SP)⊕(Int×Int)
def A_letSR:AR a_letSR:=fun x=>([.ptr 0 0],(hHP x))
def R_letSR:g_letSR→CRes:=Sum.elim (fun z:Int×Int×ByteArray×Int×Int×ByteArray×Nat×FL×SP=>.ret (.agg [i64 z.1,i64 z.2.1,st z.2.2.1,.sl 3 4 0 1]) [some (.blk [.ro 4 z.2.2.2.2.2.2.2.2.2.2.1 (fun j=>[i64 (z.2.2.2.2.2.2.2.2.2.2.2.1 j),i64 (z.2.2.2.2.2.2.2.2.2.2.2.2.1 j),st (z.2.2.2.2.2.2.2.2.2.2.2.2.2.1 j),i64 (z.2.2.2.2.2.2.2.2.2.2.2.2.2.2.1 j)]),i64 z.2.2.2.2.2.2.2.2.1,i64 z.2.2.2.2.2.2.2.2.2.1,.sl 1 1 0 z.2.2.2.2.2.2.2.2.2.2.2.2.2.2.2.1,.sl 2 1 0 z.2.2.2.2.2.2.2.2.2.2.2.2.2.2.2.2.2.1]),some (.row 9 1 z.2.2.2.2.2.2.2.2.2.2.2.2.2.2.2.1 (fun j=>[st (z.2.2.2.2.2.2.2.2.2.2.2.2.2.2.2.2.1 j)])),some (.row 9 1 z.2.2.2.2.2.2.2.2.2.2.2.2.2.2.2.2.2.1 (fun j=>[st (z.2.2.2.2.2.2.2.2.2.2.2.2.2.2.2.2.2.2 j)])),some (.row 35 4 1 (selL [[i64 z.2.2.2.1,i64 z.2.2.2.2.1,st z.2.2.2.2.2.1,.ro 4 z.2.2.2.2.2.2.1 z.2.2.2.2.2.2.2.1]]))]) (fun z:Int×Int=>.pan (.ifc 45 (.agg [i64 z.1,i64 z.2])))
def t_letSR{β:Type}(c_declare:a_declare→Option g_declare)(c_must:a_must→Option g_must)(c_expr:a_expr→Option g_expr)(x:a_letSR)(dn:g_letSR→Option β):Option β:=
 (c_declare (w (x.1+1),x.2)).bind fun z11=>Sum.elim (fun z11a=>(c_must (⟨#[61]⟩,z11a.2)).bind fun z24=>Sum.elim (fun z24a=>(c_expr (1,z24a)).bind fun z37=>Sum.elim (fun z37a=>dn (.inl (1,0,z11a.1,z37a))) (fun z37b=>dn (.inr z37b)) z37) (fun z24b=>dn (.inr z24b)) z24) (fun z11b=>dn (.inr z11b)) z11
theorem n_letSR{β:Type}(c_declare c_must c_expr)(x)(dn:g_letSR→Option β):t_letSR c_declare c_must c_expr x dn=(t_letSR c_declare c_must c_expr x some).bind dn:=by
 unfold t_letSR
 repeat' first|exact n0|refine n1 fun _=>?_|refine n2 ?_ ?_|refine n3 (fun _=>?_) fun _=>?_|rfl
theorem r_letSR(c_declare c_must c_expr)(x):callK E5 (ft2 86 A_declare R_declare c_declare (ft2 53 A_must R_must c_must (ft2 136 A_expr R_expr c_expr ca0))) lo0 111 (A_letSR x).1 (A_letSR x).2 K=t_letSR (vf A_declare c_declare) (vf A_must c_must) (vf A_expr c_expr) x (fun z=>some (.c (R_letSR z))):=by kernel_rfl
noncomputable def letSR(q:Nat)(x:a_letSR):Option g_letSR:=t_letSR (declare q) (must q) (expr q) x some
theorem sc_letSR(q:Nat):Lw E5 111 A_letSR R_letSR (letSR q):=sof hW5 hX5 (fk2 (sc_declare q) (fk2 (sc_must q) (fk2 (sc_expr q) ca0_sound))) (fun _=>lo0_sound) fun x=>(r_letSR (declare q) (must q) (expr q) x).trans (by rw[v_declare,v_must,v_expr,n_letSR]<;>rfl)
abbrev a_letS:Type:=SP
abbrev g_letS:Type:=(Int×Int×ByteArray×Nat×FL×SP)⊕(Int×Int)
def A_letS:AR a_letS:=fun x=>([.ptr 0 0],(hHP x))
def d_letS(t:TT):a_letS:=(dHP t.2)
theorem v_letS:VI A_letS:=vd d_letS fun _=>rfl
def R_letS:g_letS→CRes:=Sum.elim (fun z:Int×Int×ByteArray×Nat×FL×SP=>.ret (.agg [i64 z.1,i64 z.2.1,st z.2.2.1,.ro 4 z.2.2.2.1 z.2.2.2.2.1]) (hHP z.2.2.2.2.2)) (fun z:Int×Int=>.pan (.ifc 45 (.agg [i64 z.1,i64 z.2])))
def cv_letS:g_letSR→g_letS:=Sum.elim (fun z=>.inl (z.1,z.2.1,z.2.2.1,1,selL [[i64 z.2.2.2.1,i64 z.2.2.2.2.1,st z.2.2.2.2.2.1,.ro 4 z.2.2.2.2.2.2.1 z.2.2.2.2.2.2.2.1]],z.2.2.2.2.2.2.2.2)) (fun z=>.inr z)
theorem cvs_letS{args:List V}{L:List (Option Chunk)}(z:g_letSR)(h:SC E5 111 args L (R_letSR z)):SC E5 111 args L (R_letS (cv_letS z)):=by
 rcases z with z|z
 ·exact cv_k h
 ·exact h
noncomputable def letS(q:Nat)(x:a_letS):Option g_letS:=(letSR q x).map cv_letS
theorem sc_letS(q:Nat):Lw E5 111 A_letS R_letS (letS q):=by
 intro x z h
 obtain⟨y,hy,rfl⟩:=Option.map_eq_some_iff.1 h
 exact cvs_letS y (sc_letSR q x y hy)
abbrev a_awaitR:Type:=SP
abbrev g_awaitR:Type:=(Int×Int×ByteArray×FL×SP)⊕(Int×Int)
def A_awaitR:AR a_awaitR:=fun x=>([.ptr 0 0],(hHP x))
def R_awaitR:g_awaitR→CRes:=Sum.elim (fun z:Int×Int×ByteArray×FL×SP=>.ret (.agg [i64 z.1,i64 z.2.1,st z.2.2.1,.sl 3 4 0 2]) [some (.blk [.ro 4 z.2.2.2.2.2.2.1 (fun j=>[i64 (z.2.2.2.2.2.2.2.1 j),i64 (z.2.2.2.2.2.2.2.2.1 j),st (z.2.2.2.2.2.2.2.2.2.1 j),i64 (z.2.2.2.2.2.2.2.2.2.2.1 j)]),i64 z.2.2.2.2.1,i64 z.2.2.2.2.2.1,.sl 1 1 0 z.2.2.2.2.2.2.2.2.2.2.2.1,.sl 2 1 0 z.2.2.2.2.2.2.2.2.2.2.2.2.2.1]),some (.row 9 1 z.2.2.2.2.2.2.2.2.2.2.2.1 (fun j=>[st (z.2.2.2.2.2.2.2.2.2.2.2.2.1 j)])),some (.row 9 1 z.2.2.2.2.2.2.2.2.2.2.2.2.2.1 (fun j=>[st (z.2.2.2.2.2.2.2.2.2.2.2.2.2.2 j)])),some (.row 35 4 2 z.2.2.2.1)]) (fun z:Int×Int=>.pan (.ifc 45 (.agg [i64 z.1,i64 z.2])))
def t_awaitR{β:Type}(c_expr:a_expr→Option g_expr)(c_must:a_must→Option g_must)(c_literal:a_literal→Option g_literal)(x:a_awaitR)(dn:g_awaitR→Option β):Option β:=
 (c_expr (1,w (x.1+1),x.2)).bind fun z12=>Sum.elim (fun z12a=>(c_must (⟨#[119,105,116,104,105,110]⟩,z12a.2.2.2.2.2)).bind fun z25=>Sum.elim (fun z25a=>(c_literal z25a).bind fun z37=>Sum.elim (fun z37a=>dn (.inl (6,0,⟨#[]⟩,fun j=>[i64 (if j<1 then z12a.1 else z37a.1),i64 (if j<1 then z12a.2.1 else z37a.2.1),st (if j<1 then z12a.2.2.1 else z37a.2.2.1),V.ro 4 (if j<1 then z12a.2.2.2.1 else z37a.2.2.2.1) fun j_1=>if j<1 then z12a.2.2.2.2.1 j_1 else z37a.2.2.2.2.1 j_1],z37a.2.2.2.2.2))) (fun z37b=>dn (.inr z37b)) z37) (fun z25b=>dn (.inr z25b)) z25) (fun z12b=>dn (.inr z12b)) z12
theorem n_awaitR{β:Type}(c_expr c_must c_literal)(x)(dn:g_awaitR→Option β):t_awaitR c_expr c_must c_literal x dn=(t_awaitR c_expr c_must c_literal x some).bind dn:=by
 unfold t_awaitR
 repeat' first|exact n0|refine n1 fun _=>?_|refine n2 ?_ ?_|refine n3 (fun _=>?_) fun _=>?_|rfl
theorem r_awaitR(c_expr c_must c_literal)(x):callK E5 (ft2 136 A_expr R_expr c_expr (ft2 53 A_must R_must c_must (ft2 138 A_literal R_literal c_literal ca0))) lo0 114 (A_awaitR x).1 (A_awaitR x).2 K=t_awaitR (vf A_expr c_expr) (vf A_must c_must) (vf A_literal c_literal) x (fun z=>some (.c (R_awaitR z))):=by kernel_rfl
noncomputable def awaitR(q:Nat)(x:a_awaitR):Option g_awaitR:=t_awaitR (expr q) (must q) (literal q) x some
theorem sc_awaitR(q:Nat):Lw E5 114 A_awaitR R_awaitR (awaitR q):=sof hW5 hX5 (fk2 (sc_expr q) (fk2 (sc_must q) (fk2 (sc_literal q) ca0_sound))) (fun _=>lo0_sound) fun x=>(r_awaitR (expr q) (must q) (literal q) x).trans (by rw[v_expr,v_must,v_literal,n_awaitR]<;>rfl)
abbrev a_await:Type:=SP
abbrev g_await:Type:=(Int×Int×ByteArray×Nat×FL×SP)⊕(Int×Int)
def A_await:AR a_await:=fun x=>([.ptr 0 0],(hHP x))
def d_await(t:TT):a_await:=(dHP t.2)
theorem v_await:VI A_await:=vd d_await fun _=>rfl
def R_await:g_await→CRes:=Sum.elim (fun z:Int×Int×ByteArray×Nat×FL×SP=>.ret (.agg [i64 z.1,i64 z.2.1,st z.2.2.1,.ro 4 z.2.2.2.1 z.2.2.2.2.1]) (hHP z.2.2.2.2.2)) (fun z:Int×Int=>.pan (.ifc 45 (.agg [i64 z.1,i64 z.2])))
def cv_await:g_awaitR→g_await:=Sum.elim (fun z=>.inl (z.1,z.2.1,z.2.2.1,2,z.2.2.2)) (fun z=>.inr z)
theorem cvs_await{args:List V}{L:List (Option Chunk)}(z:g_awaitR)(h:SC E5 114 args L (R_awaitR z)):SC E5 114 args L (R_await (cv_await z)):=by
 rcases z with z|z
 ·exact cv_k h
 ·exact h
noncomputable def await(q:Nat)(x:a_await):Option g_await:=(awaitR q x).map cv_await
theorem sc_await(q:Nat):Lw E5 114 A_await R_await (await q):=by
 intro x z h
 obtain⟨y,hy,rfl⟩:=Option.map_eq_some_iff.1 h
 exact cvs_await y (sc_awaitR q x y hy)
abbrev a_amountR:Type:=SP
abbrev g_amountR:Type:=(Int×Int×ByteArray×Int×Int×ByteArray×Nat×FL×SP)⊕(Int×Int)
def A_amountR:AR a_amountR:=fun x=>([.ptr 0 0],(hHP x))
def R_amountR:g_amountR→CRes:=Sum.elim (fun z:Int×Int×ByteArray×Int×Int×ByteArray×Nat×FL×SP=>.ret (.agg [i64 z.1,i64 z.2.1,st z.2.2.1,.sl 3 4 0 1]) [some (.blk [.ro 4 z.2.2.2.2.2.2.2.2.2.2.1 (fun j=>[i64 (z.2.2.2.2.2.2.2.2.2.2.2.1 j),i64 (z.2.2.2.2.2.2.2.2.2.2.2.2.1 j),st (z.2.2.2.2.2.2.2.2.2.2.2.2.2.1 j),i64 (z.2.2.2.2.2.2.2.2.2.2.2.2.2.2.1 j)]),i64 z.2.2.2.2.2.2.2.2.1,i64 z.2.2.2.2.2.2.2.2.2.1,.sl 1 1 0 z.2.2.2.2.2.2.2.2.2.2.2.2.2.2.2.1,.sl 2 1 0 z.2.2.2.2.2.2.2.2.2.2.2.2.2.2.2.2.2.1]),some (.row 9 1 z.2.2.2.2.2.2.2.2.2.2.2.2.2.2.2.1 (fun j=>[st (z.2.2.2.2.2.2.2.2.2.2.2.2.2.2.2.2.1 j)])),some (.row 9 1 z.2.2.2.2.2.2.2.2.2.2.2.2.2.2.2.2.2.1 (fun j=>[st (z.2.2.2.2.2.2.2.2.2.2.2.2.2.2.2.2.2.2 j)])),some (.row 35 4 1 (selL [[i64 z.2.2.2.1,i64 z.2.2.2.2.1,st z.2.2.2.2.2.1,.ro 4 z.2.2.2.2.2.2.1 z.2.2.2.2.2.2.2.1]]))]) (fun z:Int×Int=>.pan (.ifc 45 (.agg [i64 z.1,i64 z.2])))
def t_amountR{β:Type}(c_is:a_is→Option g_is)(c_literal:a_literal→Option g_literal)(x:a_amountR)(dn:g_amountR→Option β):Option β:=
 (c_is (⟨#[107,101,101,112]⟩,x)).bind fun z12=>if z12.1=true then(c_literal (w (z12.2.1+1),z12.2.2)).bind fun z24=>Sum.elim (fun z24a=>dn (.inl (11,0,⟨#[]⟩,z24a))) (fun z24b=>dn (.inr z24b)) z24 else(c_literal (w (z12.2.1+1),z12.2.2)).bind fun z37=>Sum.elim (fun z37a=>dn (.inl (5,0,⟨#[]⟩,z37a))) (fun z37b=>dn (.inr z37b)) z37
theorem n_amountR{β:Type}(c_is c_literal)(x)(dn:g_amountR→Option β):t_amountR c_is c_literal x dn=(t_amountR c_is c_literal x some).bind dn:=by
 unfold t_amountR
 repeat' first|exact n0|refine n1 fun _=>?_|refine n2 ?_ ?_|refine n3 (fun _=>?_) fun _=>?_|rfl
theorem r_amountR(c_is c_literal)(x):callK E5 (ftb 109 A_is R_is c_is (ft2 138 A_literal R_literal c_literal ca0)) lo0 115 (A_amountR x).1 (A_amountR x).2 K=t_amountR (vf A_is c_is) (vf A_literal c_literal) x (fun z=>some (.c (R_amountR z))):=by kernel_rfl
noncomputable def amountR(q:Nat)(x:a_amountR):Option g_amountR:=t_amountR (is q) (literal q) x some
theorem sc_amountR(q:Nat):Lw E5 115 A_amountR R_amountR (amountR q):=sof hW5 hX5 (fk (sc_is q) (fk2 (sc_literal q) ca0_sound)) (fun _=>lo0_sound) fun x=>(r_amountR (is q) (literal q) x).trans (by rw[v_is,v_literal,n_amountR]<;>rfl)
abbrev a_amount:Type:=SP
abbrev g_amount:Type:=(Int×Int×ByteArray×Nat×FL×SP)⊕(Int×Int)
def A_amount:AR a_amount:=fun x=>([.ptr 0 0],(hHP x))
def d_amount(t:TT):a_amount:=(dHP t.2)
theorem v_amount:VI A_amount:=vd d_amount fun _=>rfl
def R_amount:g_amount→CRes:=Sum.elim (fun z:Int×Int×ByteArray×Nat×FL×SP=>.ret (.agg [i64 z.1,i64 z.2.1,st z.2.2.1,.ro 4 z.2.2.2.1 z.2.2.2.2.1]) (hHP z.2.2.2.2.2)) (fun z:Int×Int=>.pan (.ifc 45 (.agg [i64 z.1,i64 z.2])))
def cv_amount:g_amountR→g_amount:=Sum.elim (fun z=>.inl (z.1,z.2.1,z.2.2.1,1,selL [[i64 z.2.2.2.1,i64 z.2.2.2.2.1,st z.2.2.2.2.2.1,.ro 4 z.2.2.2.2.2.2.1 z.2.2.2.2.2.2.2.1]],z.2.2.2.2.2.2.2.2)) (fun z=>.inr z)
theorem cvs_amount{args:List V}{L:List (Option Chunk)}(z:g_amountR)(h:SC E5 115 args L (R_amountR z)):SC E5 115 args L (R_amount (cv_amount z)):=by
 rcases z with z|z
 ·exact cv_k h
 ·exact h
noncomputable def amount(q:Nat)(x:a_amount):Option g_amount:=(amountR q x).map cv_amount
theorem sc_amount(q:Nat):Lw E5 115 A_amount R_amount (amount q):=by
 intro x z h
 obtain⟨y,hy,rfl⟩:=Option.map_eq_some_iff.1 h
 exact cvs_amount y (sc_amountR q x y hy)
abbrev a_singleR:Type:=SP
abbrev g_singleR:Type:=(Int×Int×ByteArray×Int×Int×ByteArray×Nat×FL×SP)⊕(Int×Int)
def A_singleR:AR a_singleR:=fun x=>([.ptr 0 0],(hHP x))
def R_singleR:g_singleR→CRes:=Sum.elim (fun z:Int×Int×ByteArray×Int×Int×ByteArray×Nat×FL×SP=>.ret (.agg [i64 z.1,i64 z.2.1,st z.2.2.1,.sl 3 4 0 1]) [some (.blk [.ro 4 z.2.2.2.2.2.2.2.2.2.2.1 (fun j=>[i64 (z.2.2.2.2.2.2.2.2.2.2.2.1 j),i64 (z.2.2.2.2.2.2.2.2.2.2.2.2.1 j),st (z.2.2.2.2.2.2.2.2.2.2.2.2.2.1 j),i64 (z.2.2.2.2.2.2.2.2.2.2.2.2.2.2.1 j)]),i64 z.2.2.2.2.2.2.2.2.1,i64 z.2.2.2.2.2.2.2.2.2.1,.sl 1 1 0 z.2.2.2.2.2.2.2.2.2.2.2.2.2.2.2.1,.sl 2 1 0 z.2.2.2.2.2.2.2.2.2.2.2.2.2.2.2.2.2.1]),some (.row 9 1 z.2.2.2.2.2.2.2.2.2.2.2.2.2.2.2.1 (fun j=>[st (z.2.2.2.2.2.2.2.2.2.2.2.2.2.2.2.2.1 j)])),some (.row 9 1 z.2.2.2.2.2.2.2.2.2.2.2.2.2.2.2.2.2.1 (fun j=>[st (z.2.2.2.2.2.2.2.2.2.2.2.2.2.2.2.2.2.2 j)])),some (.row 35 4 1 (selL [[i64 z.2.2.2.1,i64 z.2.2.2.2.1,st z.2.2.2.2.2.1,.ro 4 z.2.2.2.2.2.2.1 z.2.2.2.2.2.2.2.1]]))]) (fun z:Int×Int=>.pan (.ifc 45 (.agg [i64 z.1,i64 z.2])))
def t_singleR{β:Type}(c_is:a_is→Option g_is)(c_expr:a_expr→Option g_expr)(x:a_singleR)(dn:g_singleR→Option β):Option β:=
 (c_is (⟨#[112,111,105,110,116]⟩,x)).bind fun z12=>if z12.1=true then(c_expr (1,w (z12.2.1+1),z12.2.2)).bind fun z25=>Sum.elim (fun z25a=>dn (.inl (8,0,⟨#[]⟩,z25a))) (fun z25b=>dn (.inr z25b)) z25 else(c_expr (1,w (z12.2.1+1),z12.2.2)).bind fun z39=>Sum.elim (fun z39a=>dn (.inl (7,0,⟨#[]⟩,z39a))) (fun z39b=>dn (.inr z39b)) z39
theorem n_singleR{β:Type}(c_is c_expr)(x)(dn:g_singleR→Option β):t_singleR c_is c_expr x dn=(t_singleR c_is c_expr x some).bind dn:=by
 unfold t_singleR
 repeat' first|exact n0|refine n1 fun _=>?_|refine n2 ?_ ?_|refine n3 (fun _=>?_) fun _=>?_|rfl
theorem r_singleR(c_is c_expr)(x):callK E5 (ftb 109 A_is R_is c_is (ft2 136 A_expr R_expr c_expr ca0)) lo0 116 (A_singleR x).1 (A_singleR x).2 K=t_singleR (vf A_is c_is) (vf A_expr c_expr) x (fun z=>some (.c (R_singleR z))):=by kernel_rfl
noncomputable def singleR(q:Nat)(x:a_singleR):Option g_singleR:=t_singleR (is q) (expr q) x some
theorem sc_singleR(q:Nat):Lw E5 116 A_singleR R_singleR (singleR q):=sof hW5 hX5 (fk (sc_is q) (fk2 (sc_expr q) ca0_sound)) (fun _=>lo0_sound) fun x=>(r_singleR (is q) (expr q) x).trans (by rw[v_is,v_expr,n_singleR]<;>rfl)
abbrev a_single:Type:=SP
abbrev g_single:Type:=(Int×Int×ByteArray×Nat×FL×SP)⊕(Int×Int)
def A_single:AR a_single:=fun x=>([.ptr 0 0],(hHP x))
def d_single(t:TT):a_single:=(dHP t.2)
theorem v_single:VI A_single:=vd d_single fun _=>rfl
def R_single:g_single→CRes:=Sum.elim (fun z:Int×Int×ByteArray×Nat×FL×SP=>.ret (.agg [i64 z.1,i64 z.2.1,st z.2.2.1,.ro 4 z.2.2.2.1 z.2.2.2.2.1]) (hHP z.2.2.2.2.2)) (fun z:Int×Int=>.pan (.ifc 45 (.agg [i64 z.1,i64 z.2])))
def cv_single:g_singleR→g_single:=Sum.elim (fun z=>.inl (z.1,z.2.1,z.2.2.1,1,selL [[i64 z.2.2.2.1,i64 z.2.2.2.2.1,st z.2.2.2.2.2.1,.ro 4 z.2.2.2.2.2.2.1 z.2.2.2.2.2.2.2.1]],z.2.2.2.2.2.2.2.2)) (fun z=>.inr z)
theorem cvs_single{args:List V}{L:List (Option Chunk)}(z:g_singleR)(h:SC E5 116 args L (R_singleR z)):SC E5 116 args L (R_single (cv_single z)):=by
 rcases z with z|z
 ·exact cv_k h
 ·exact h
noncomputable def single(q:Nat)(x:a_single):Option g_single:=(singleR q x).map cv_single
theorem sc_single(q:Nat):Lw E5 116 A_single R_single (single q):=by
 intro x z h
 obtain⟨y,hy,rfl⟩:=Option.map_eq_some_iff.1 h
 exact cvs_single y (sc_singleR q x y hy)
abbrev a_numberedR:Type:=SP
abbrev g_numberedR:Type:=(Int×Int×ByteArray×SP)⊕(Int×Int×ByteArray×Int×Int×ByteArray×Nat×FL×SP)⊕(Int×Int)
def A_numberedR:AR a_numberedR:=fun x=>([.ptr 0 0],(hHP x))
def R_numberedR:g_numberedR→CRes:=Sum.elim (fun z:Int×Int×ByteArray×SP=>.ret (.agg [i64 z.1,i64 z.2.1,st z.2.2.1,nilS]) (hHP z.2.2.2)) (Sum.elim (fun z:Int×Int×ByteArray×Int×Int×ByteArray×Nat×FL×SP=>.ret (.agg [i64 z.1,i64 z.2.1,st z.2.2.1,.sl 3 4 0 1]) [some (.blk [.ro 4 z.2.2.2.2.2.2.2.2.2.2.1 (fun j=>[i64 (z.2.2.2.2.2.2.2.2.2.2.2.1 j),i64 (z.2.2.2.2.2.2.2.2.2.2.2.2.1 j),st (z.2.2.2.2.2.2.2.2.2.2.2.2.2.1 j),i64 (z.2.2.2.2.2.2.2.2.2.2.2.2.2.2.1 j)]),i64 z.2.2.2.2.2.2.2.2.1,i64 z.2.2.2.2.2.2.2.2.2.1,.sl 1 1 0 z.2.2.2.2.2.2.2.2.2.2.2.2.2.2.2.1,.sl 2 1 0 z.2.2.2.2.2.2.2.2.2.2.2.2.2.2.2.2.2.1]),some (.row 9 1 z.2.2.2.2.2.2.2.2.2.2.2.2.2.2.2.1 (fun j=>[st (z.2.2.2.2.2.2.2.2.2.2.2.2.2.2.2.2.1 j)])),some (.row 9 1 z.2.2.2.2.2.2.2.2.2.2.2.2.2.2.2.2.2.1 (fun j=>[st (z.2.2.2.2.2.2.2.2.2.2.2.2.2.2.2.2.2.2 j)])),some (.row 35 4 1 (selL [[i64 z.2.2.2.1,i64 z.2.2.2.2.1,st z.2.2.2.2.2.1,.ro 4 z.2.2.2.2.2.2.1 z.2.2.2.2.2.2.2.1]]))]) (fun z:Int×Int=>.pan (.ifc 45 (.agg [i64 z.1,i64 z.2]))))
def t_numberedR{β:Type}(c_next:a_next→Option g_next)(c_number:a_number→Option g_number)(c_must:a_must→Option g_must)(c_literal:a_literal→Option g_literal)(x:a_numberedR)(dn:g_numberedR→Option β):Option β:=
 (c_next x).bind fun z11=>if(z11.2.2.1.toList==ByteArray.toList ⟨#[101,109,105,116]⟩)=true then(c_number (0,99,w (z11.2.2.2.2.1+1),z11.2.2.2.2.2)).bind fun z25=>Sum.elim (fun z25a=>dn (.inl (12,z25a.1,⟨#[]⟩,z25a.2))) (fun z25b=>dn (.inr (.inr z25b))) z25 else if(z11.2.2.1.toList==ByteArray.toList ⟨#[97,98,111,114,116]⟩)=true then(c_number (0,999,w (z11.2.2.2.2.1+1),z11.2.2.2.2.2)).bind fun z40=>Sum.elim (fun z40a=>dn (.inl (13,z40a.1,⟨#[]⟩,z40a.2))) (fun z40b=>dn (.inr (.inr z40b))) z40 else if(z11.2.2.1.toList==ByteArray.toList ⟨#[117,115,101]⟩)=true then(c_number (0,7,w (z11.2.2.2.2.1+1),z11.2.2.2.2.2)).bind fun z55=>Sum.elim (fun z55a=>(c_must (⟨#[102,111,114]⟩,z55a.2)).bind fun z68=>Sum.elim (fun z68a=>(c_literal z68a).bind fun z80=>Sum.elim (fun z80a=>dn (.inr (.inl (9,z55a.1,⟨#[]⟩,z80a)))) (fun z80b=>dn (.inr (.inr z80b))) z80) (fun z68b=>dn (.inr (.inr z68b))) z68) (fun z55b=>dn (.inr (.inr z55b))) z55 else(c_number (0,7,w (z11.2.2.2.2.1+1),z11.2.2.2.2.2)).bind fun z97=>Sum.elim (fun z97a=>(c_must (⟨#[44]⟩,z97a.2)).bind fun z110=>Sum.elim (fun z110a=>(c_literal z110a).bind fun z122=>Sum.elim (fun z122a=>dn (.inr (.inl (10,z97a.1,⟨#[]⟩,z122a)))) (fun z122b=>dn (.inr (.inr z122b))) z122) (fun z110b=>dn (.inr (.inr z110b))) z110) (fun z97b=>dn (.inr (.inr z97b))) z97
theorem n_numberedR{β:Type}(c_next c_number)(c_must c_literal)(x)(dn:g_numberedR→Option β):t_numberedR c_next c_number c_must c_literal x dn=(t_numberedR c_next c_number c_must c_literal x some).bind dn:=by
 unfold t_numberedR
 repeat' first|exact n0|refine n1 fun _=>?_|refine n2 ?_ ?_|refine n3 (fun _=>?_) fun _=>?_|rfl
theorem r_numberedR(c_next c_number)(c_must c_literal)(x):callK E5 (ftb 22 A_next R_next c_next (ft2 137 A_number R_number c_number (ft2 53 A_must R_must c_must (ft2 138 A_literal R_literal c_literal ca0)))) lo0 117 (A_numberedR x).1 (A_numberedR x).2 K=t_numberedR (vf A_next c_next) (vf A_number c_number) (vf A_must c_must) (vf A_literal c_literal) x (fun z=>some (.c (R_numberedR z))):=by kernel_rfl
noncomputable def numberedR(q:Nat)(x:a_numberedR):Option g_numberedR:=t_numberedR (next q) (number q) (must q) (literal q) x some
theorem sc_numberedR(q:Nat):Lw E5 117 A_numberedR R_numberedR (numberedR q):=sof hW5 hX5 (fk (sc_next q) (fk2 (sc_number q) (fk2 (sc_must q) (fk2 (sc_literal q) ca0_sound)))) (fun _=>lo0_sound) fun x=>(r_numberedR (next q) (number q) (must q) (literal q) x).trans (by rw[v_next,v_number,v_must,v_literal,n_numberedR]<;>rfl)
abbrev a_numbered:Type:=SP
abbrev g_numbered:Type:=(Int×Int×ByteArray×Nat×FL×SP)⊕(Int×Int)
def A_numbered:AR a_numbered:=fun x=>([.ptr 0 0],(hHP x))
def d_numbered(t:TT):a_numbered:=(dHP t.2)
theorem v_numbered:VI A_numbered:=vd d_numbered fun _=>rfl
def R_numbered:g_numbered→CRes:=Sum.elim (fun z:Int×Int×ByteArray×Nat×FL×SP=>.ret (.agg [i64 z.1,i64 z.2.1,st z.2.2.1,.ro 4 z.2.2.2.1 z.2.2.2.2.1]) (hHP z.2.2.2.2.2)) (fun z:Int×Int=>.pan (.ifc 45 (.agg [i64 z.1,i64 z.2])))
def cv_numbered:g_numberedR→g_numbered:=Sum.elim (fun z=>.inl (z.1,z.2.1,z.2.2.1,0,fun _=>[],z.2.2.2)) (Sum.elim (fun z=>.inl (z.1,z.2.1,z.2.2.1,1,selL [[i64 z.2.2.2.1,i64 z.2.2.2.2.1,st z.2.2.2.2.2.1,.ro 4 z.2.2.2.2.2.2.1 z.2.2.2.2.2.2.2.1]],z.2.2.2.2.2.2.2.2)) (fun z=>.inr z))
theorem cvs_numbered{args:List V}{L:List (Option Chunk)}(z:g_numberedR)(h:SC E5 117 args L (R_numberedR z)):SC E5 117 args L (R_numbered (cv_numbered z)):=by
 rcases z with z|z|z
 ·exact cv_z h
 ·exact cv_k h
 ·exact h
noncomputable def numbered(q:Nat)(x:a_numbered):Option g_numbered:=(numberedR q x).map cv_numbered
theorem sc_numbered(q:Nat):Lw E5 117 A_numbered R_numbered (numbered q):=by
 intro x z h
 obtain⟨y,hy,rfl⟩:=Option.map_eq_some_iff.1 h
 exact cvs_numbered y (sc_numberedR q x y hy)
abbrev a_block:Type:=SP
abbrev g_block:Type:=(Int×Int×ByteArray×Nat×FL×SP)⊕(Int×Int)
def A_block:AR a_block:=fun x=>([.ptr 0 0],(hHP x))
def d_block(t:TT):a_block:=(dHP t.2)
theorem v_block:VI A_block:=vd d_block fun _=>rfl
def R_block:g_block→CRes:=Sum.elim (fun z:Int×Int×ByteArray×Nat×FL×SP=>.ret (.agg [i64 z.1,i64 z.2.1,st z.2.2.1,.ro 4 z.2.2.2.1 z.2.2.2.2.1]) (hHP z.2.2.2.2.2)) (fun z:Int×Int=>.pan (.ifc 45 (.agg [i64 z.1,i64 z.2])))
abbrev a_branch:Type:=SP
abbrev g_branch:Type:=(Int×Int×ByteArray×Nat×FL×SP)⊕(Int×Int)
def A_branch:AR a_branch:=fun x=>([.ptr 0 0],(hHP x))
def d_branch(t:TT):a_branch:=(dHP t.2)
theorem v_branch:VI A_branch:=vd d_branch fun _=>rfl
def R_branch:g_branch→CRes:=Sum.elim (fun z:Int×Int×ByteArray×Nat×FL×SP=>.ret (.agg [i64 z.1,i64 z.2.1,st z.2.2.1,.ro 4 z.2.2.2.1 z.2.2.2.2.1]) (hHP z.2.2.2.2.2)) (fun z:Int×Int=>.pan (.ifc 45 (.agg [i64 z.1,i64 z.2])))
abbrev a_repeatS:Type:=SP
abbrev g_repeatS:Type:=(Int×Int×ByteArray×Nat×FL×SP)⊕(Int×Int)
def A_repeatS:AR a_repeatS:=fun x=>([.ptr 0 0],(hHP x))
def d_repeatS(t:TT):a_repeatS:=(dHP t.2)
theorem v_repeatS:VI A_repeatS:=vd d_repeatS fun _=>rfl
def R_repeatS:g_repeatS→CRes:=Sum.elim (fun z:Int×Int×ByteArray×Nat×FL×SP=>.ret (.agg [i64 z.1,i64 z.2.1,st z.2.2.1,.ro 4 z.2.2.2.1 z.2.2.2.2.1]) (hHP z.2.2.2.2.2)) (fun z:Int×Int=>.pan (.ifc 45 (.agg [i64 z.1,i64 z.2])))
abbrev a_statement:Type:=SP
abbrev g_statement:Type:=(Int×Int×ByteArray×Nat×FL×SP)⊕(Int×Int)
def A_statement:AR a_statement:=fun x=>([.ptr 0 0],(hHP x))
def d_statement(t:TT):a_statement:=(dHP t.2)
theorem v_statement:VI A_statement:=vd d_statement fun _=>rfl
def R_statement:g_statement→CRes:=Sum.elim (fun z:Int×Int×ByteArray×Nat×FL×SP=>.ret (.agg [i64 z.1,i64 z.2.1,st z.2.2.1,.ro 4 z.2.2.2.1 z.2.2.2.2.1]) (hHP z.2.2.2.2.2)) (fun z:Int×Int=>.pan (.ifc 45 (.agg [i64 z.1,i64 z.2])))
abbrev a_blockR:Type:=SP
abbrev g_blockR:Type:=(Int×Int×ByteArray×SP)⊕(Int×Int×ByteArray×Nat×FL×SP)⊕(Int×Int)
def A_blockR:AR a_blockR:=fun x=>([.ptr 0 0],(hHP x))
def R_blockR:g_blockR→CRes:=Sum.elim (fun z:Int×Int×ByteArray×SP=>.ret (.agg [i64 z.1,i64 z.2.1,st z.2.2.1,nilS]) (hHP z.2.2.2)) (Sum.elim (fun z:Int×Int×ByteArray×Nat×FL×SP=>.ret (.agg [i64 z.1,i64 z.2.1,st z.2.2.1,.sl 3 4 0 z.2.2.2.1]) ((hHP z.2.2.2.2.2)++[some (.row 35 4 z.2.2.2.1 z.2.2.2.2.1)])) (fun z:Int×Int=>.pan (.ifc 45 (.agg [i64 z.1,i64 z.2]))))
abbrev a_branchR:Type:=SP
abbrev g_branchR:Type:=(Int×Int×ByteArray×FL×SP)⊕(Int×Int)
def A_branchR:AR a_branchR:=fun x=>([.ptr 0 0],(hHP x))
def R_branchR:g_branchR→CRes:=Sum.elim (fun z:Int×Int×ByteArray×FL×SP=>.ret (.agg [i64 z.1,i64 z.2.1,st z.2.2.1,.sl 3 4 0 3]) [some (.blk [.ro 4 z.2.2.2.2.2.2.1 (fun j=>[i64 (z.2.2.2.2.2.2.2.1 j),i64 (z.2.2.2.2.2.2.2.2.1 j),st (z.2.2.2.2.2.2.2.2.2.1 j),i64 (z.2.2.2.2.2.2.2.2.2.2.1 j)]),i64 z.2.2.2.2.1,i64 z.2.2.2.2.2.1,.sl 1 1 0 z.2.2.2.2.2.2.2.2.2.2.2.1,.sl 2 1 0 z.2.2.2.2.2.2.2.2.2.2.2.2.2.1]),some (.row 9 1 z.2.2.2.2.2.2.2.2.2.2.2.1 (fun j=>[st (z.2.2.2.2.2.2.2.2.2.2.2.2.1 j)])),some (.row 9 1 z.2.2.2.2.2.2.2.2.2.2.2.2.2.1 (fun j=>[st (z.2.2.2.2.2.2.2.2.2.2.2.2.2.2 j)])),some (.row 35 4 3 z.2.2.2.1)]) (fun z:Int×Int=>.pan (.ifc 45 (.agg [i64 z.1,i64 z.2])))
abbrev a_repeatSR:Type:=SP
abbrev g_repeatSR:Type:=(Int×Int×ByteArray×Int×Int×ByteArray×Nat×FL×SP)⊕(Int×Int)
def A_repeatSR:AR a_repeatSR:=fun x=>([.ptr 0 0],(hHP x))
def R_repeatSR:g_repeatSR→CRes:=Sum.elim (fun z:Int×Int×ByteArray×Int×Int×ByteArray×Nat×FL×SP=>.ret (.agg [i64 z.1,i64 z.2.1,st z.2.2.1,.sl 3 4 0 1]) [some (.blk [.ro 4 z.2.2.2.2.2.2.2.2.2.2.1 (fun j=>[i64 (z.2.2.2.2.2.2.2.2.2.2.2.1 j),i64 (z.2.2.2.2.2.2.2.2.2.2.2.2.1 j),st (z.2.2.2.2.2.2.2.2.2.2.2.2.2.1 j),i64 (z.2.2.2.2.2.2.2.2.2.2.2.2.2.2.1 j)]),i64 z.2.2.2.2.2.2.2.2.1,i64 z.2.2.2.2.2.2.2.2.2.1,.sl 1 1 0 z.2.2.2.2.2.2.2.2.2.2.2.2.2.2.2.1,.sl 2 1 0 z.2.2.2.2.2.2.2.2.2.2.2.2.2.2.2.2.2.1]),some (.row 9 1 z.2.2.2.2.2.2.2.2.2.2.2.2.2.2.2.1 (fun j=>[st (z.2.2.2.2.2.2.2.2.2.2.2.2.2.2.2.2.1 j)])),some (.row 9 1 z.2.2.2.2.2.2.2.2.2.2.2.2.2.2.2.2.2.1 (fun j=>[st (z.2.2.2.2.2.2.2.2.2.2.2.2.2.2.2.2.2.2 j)])),some (.row 35 4 1 (selL [[i64 z.2.2.2.1,i64 z.2.2.2.2.1,st z.2.2.2.2.2.1,.ro 4 z.2.2.2.2.2.2.1 z.2.2.2.2.2.2.2.1]]))]) (fun z:Int×Int=>.pan (.ifc 45 (.agg [i64 z.1,i64 z.2])))
abbrev a_statementR:Type:=SP
abbrev g_statementR:Type:=(Int×Int×ByteArray×Nat×FL×SP)⊕(Int×Int)
def A_statementR:AR a_statementR:=fun x=>([.ptr 0 0],(hHP x))
def R_statementR:g_statementR→CRes:=Sum.elim (fun z:Int×Int×ByteArray×Nat×FL×SP=>.ret (.agg [i64 z.1,i64 z.2.1,st z.2.2.1,.ro 4 z.2.2.2.1 z.2.2.2.2.1]) (hHP z.2.2.2.2.2)) (fun z:Int×Int=>.pan (.ifc 45 (.agg [i64 z.1,i64 z.2])))
abbrev blockR_l0_a:Type:=(SC2)⊕(Nat×FI×FI×FS×FI×Int×Int×Nat×Nat×FS×FS×FI×FI×FS×FN×FM×Nat)
abbrev blockR_l0_g:Type:=(Int×Int)⊕(SC2)⊕(Nat×FI×FI×FS×FI×Int×Int×Nat×Nat×FS×FS×Nat×FI×FI×FS×FN×FM)
def blockR_l0_S0(x:a_blockR)(y:SC2):St:={fr:=[V.ptr 0 0,V.junk,V.ptr 3 0,V.ptr 4 0]++jk 21,H:=hp [some (hPB y),some (hPV y),some (hPQ0 y),some (Chunk.blk [i64 0,i64 0,st ⟨#[]⟩,nilS]),some (Chunk.blk [i64 14,i64 0,st ⟨#[]⟩,nilS])],nx:=5,rt:=1,me:=57}
def blockR_l0_d0(s:St):SC2:=((vRoN (cb s 0 0)),dTI (cb s 0 0) 0,dTI (cb s 0 0) 1,dTS (cb s 0 0) 2,dTI (cb s 0 0) 3,vI (cb s 0 1),vI (cb s 0 2),vSlN (cb s 0 3),vSlN (cb s 0 4),dRS (s.H 1) 0,dRS (s.H 2) 0)
def blockR_l0_S1(x:a_blockR)(y:Nat×FI×FI×FS×FI×Int×Int×Nat×Nat×FS×FS×FI×FI×FS×FN×FM×Nat):St:={fr:=[V.ptr 0 0,V.junk,V.ptr 3 0,V.ptr 4 0]++jk 21,H:=hp [some (hPB y),some (hPV y),some (hPQ y),some (Chunk.blk [i64 0,i64 0,st ⟨#[]⟩,nilS]),some (Chunk.blk [i64 14,i64 0,st ⟨#[]⟩,V.sl 5 4 0 y.2.2.2.2.2.2.2.2.2.2.2.2.2.2.2.2]),some (Chunk.row 35 4 y.2.2.2.2.2.2.2.2.2.2.2.2.2.2.2.2 fun j=>[i64 (y.2.2.2.2.2.2.2.2.2.2.2.1 j),i64 (y.2.2.2.2.2.2.2.2.2.2.2.2.1 j),st (y.2.2.2.2.2.2.2.2.2.2.2.2.2.1 j),V.ro 4 (y.2.2.2.2.2.2.2.2.2.2.2.2.2.2.1 j) (y.2.2.2.2.2.2.2.2.2.2.2.2.2.2.2.1 j)])],nx:=6,rt:=1,me:=57}
def blockR_l0_d1(s:St):Nat×FI×FI×FS×FI×Int×Int×Nat×Nat×FS×FS×FI×FI×FS×FN×FM×Nat:=((vRoN (cb s 0 0)),dTI (cb s 0 0) 0,dTI (cb s 0 0) 1,dTS (cb s 0 0) 2,dTI (cb s 0 0) 3,vI (cb s 0 1),vI (cb s 0 2),vSlN (cb s 0 3),vSlN (cb s 0 4),dRS (s.H 1) 0,dRS (s.H 2) 0,dRI (s.H 5) 0,dRI (s.H 5) 1,dRS (s.H 5) 2,dRN (s.H 5) 3,dRF (s.H 5) 3,vSlN (cb s 4 3))
def blockR_l0_S(x:a_blockR):blockR_l0_a→St:=(Sum.elim (blockR_l0_S0 x) (blockR_l0_S1 x))
def blockR_l0_d(s:St):blockR_l0_a:=(match s.nx==5 with|true=>(.inl (blockR_l0_d0 s)) |false=>(.inr (blockR_l0_d1 s)))
theorem blockR_l0_u(x:a_blockR):VL (blockR_l0_S x):=vl blockR_l0_d (fun y=>by rcases y with y|y<;>rfl)
def blockR_l0_T(x:a_blockR):blockR_l0_g→Ex×St:=(Sum.elim (fun z=>(Ex.panic (V.ifc 45 (V.agg [i64 z.1,i64 z.2])),{fr:=[V.junk]++jk 24,H:=hp [none],nx:=1,rt:=1,me:=57})) (Sum.elim (fun z=>(Ex.exit 0,{fr:=[V.ptr 0 0,V.junk,V.ptr 3 0,V.ptr 4 0]++jk 21,H:=hp [some (hPB z),some (hPV z),some (hPQ0 z),some (Chunk.blk [i64 0,i64 0,st ⟨#[]⟩,nilS]),some (Chunk.blk [i64 14,i64 0,st ⟨#[]⟩,nilS])],nx:=5,rt:=1,me:=57})) (fun z=>(Ex.exit 0,{fr:=[V.ptr 0 0,V.junk,V.ptr 3 0,V.ptr 4 0]++jk 21,H:=hp [some (hPB z),some (hPV z),some (hPQ z),some (Chunk.blk [i64 0,i64 0,st ⟨#[]⟩,nilS]),some (Chunk.blk [i64 14,i64 0,st ⟨#[]⟩,V.sl 5 4 0 z.2.2.2.2.2.2.2.2.2.2.2.1]),some (Chunk.row 35 4 z.2.2.2.2.2.2.2.2.2.2.2.1 fun j=>[i64 (z.2.2.2.2.2.2.2.2.2.2.2.2.1 j),i64 (z.2.2.2.2.2.2.2.2.2.2.2.2.2.1 j),st (z.2.2.2.2.2.2.2.2.2.2.2.2.2.2.1 j),V.ro 4 (z.2.2.2.2.2.2.2.2.2.2.2.2.2.2.2.1 j) (z.2.2.2.2.2.2.2.2.2.2.2.2.2.2.2.2 j)])],nx:=6,rt:=1,me:=57}))))
def blockR_l0_t0{β:Type}(c_opens:a_opens→Option g_opens)(c_take:a_take→Option g_take)(c_statement:a_statement→Option g_statement)(x:a_blockR)(y:SC2)(nx:blockR_l0_a→Option β)(dn:blockR_l0_g→Option β):Option β:=
 (c_take (⟨#[125]⟩,y.2.2.2.2.2.1,y.2.2.2.2.2.2.1,y.1,y.2.1,y.2.2.1,y.2.2.2.1,y.2.2.2.2.1,y.2.2.2.2.2.2.2.1,y.2.2.2.2.2.2.2.2.2.1,y.2.2.2.2.2.2.2.2.1,y.2.2.2.2.2.2.2.2.2.2)).bind fun z454=>if(!z454.1)=true then(c_statement z454.2).bind fun z466=>Sum.elim (fun z466a=>nx (.inr (z466a.2.2.2.2.2.2.2.1,z466a.2.2.2.2.2.2.2.2.1,z466a.2.2.2.2.2.2.2.2.2.1,z466a.2.2.2.2.2.2.2.2.2.2.1,z466a.2.2.2.2.2.2.2.2.2.2.2.1,z466a.2.2.2.2.2.1,z466a.2.2.2.2.2.2.1,z466a.2.2.2.2.2.2.2.2.2.2.2.2.1,z466a.2.2.2.2.2.2.2.2.2.2.2.2.2.2.1,z466a.2.2.2.2.2.2.2.2.2.2.2.2.2.1,z466a.2.2.2.2.2.2.2.2.2.2.2.2.2.2.2,fun j=>z466a.1,fun j=>z466a.2.1,fun j=>z466a.2.2.1,fun j=>z466a.2.2.2.1,fun j=>z466a.2.2.2.2.1,1))) (fun z466b=>dn (.inl z466b)) z466 else dn (.inr (.inl (z454.2.2.2.1,z454.2.2.2.2.1,z454.2.2.2.2.2.1,z454.2.2.2.2.2.2.1,z454.2.2.2.2.2.2.2.1,z454.2.1,z454.2.2.1,z454.2.2.2.2.2.2.2.2.1,z454.2.2.2.2.2.2.2.2.2.2.1,z454.2.2.2.2.2.2.2.2.2.1,z454.2.2.2.2.2.2.2.2.2.2.2)))
theorem blockR_l0_n0{β:Type}(c_opens c_take c_statement)(x)(y)(nx:blockR_l0_a→Option β)(dn):blockR_l0_t0 c_opens c_take c_statement x y nx dn=(blockR_l0_t0 c_opens c_take c_statement x y (fun y=>some (.inl y)) (fun z=>some (.inr z))).bind fun r=>Sum.elim nx dn r:=by
 unfold blockR_l0_t0
 repeat' first|exact n0|refine n1 fun _=>?_|refine n2 ?_ ?_|refine n3 (fun _=>?_) fun _=>?_|rfl
theorem blockR_l0_r0(c_opens c_take c_statement)(x)(y)(lo:LoopT):loopK E5 (ft2 88 A_opens R_opens c_opens (ftb 84 A_take R_take c_take (ft2 89 A_statement R_statement c_statement ca0))) lo 0 13 (bodyOf E5 57 0) (blockR_l0_S x (.inl y)) (KCM [(0,13)] 4)=blockR_l0_t0 (vf A_opens c_opens) (vf A_take c_take) (vf A_statement c_statement) x y (fun y=>lo 0 13 (bodyOf E5 57 0) (blockR_l0_S x y) (KCM [(0,13)] 4)) (fun z=>some (.l (blockR_l0_T x z).1 (blockR_l0_T x z).2)):=by kernel_rfl
def blockR_l0_t1{β:Type}(c_opens:a_opens→Option g_opens)(c_take:a_take→Option g_take)(c_statement:a_statement→Option g_statement)(x:a_blockR)(y:Nat×FI×FI×FS×FI×Int×Int×Nat×Nat×FS×FS×FI×FI×FS×FN×FM×Nat)(nx:blockR_l0_a→Option β)(dn:blockR_l0_g→Option β):Option β:=
 (c_take (⟨#[125]⟩,y.2.2.2.2.2.1,y.2.2.2.2.2.2.1,y.1,y.2.1,y.2.2.1,y.2.2.2.1,y.2.2.2.2.1,y.2.2.2.2.2.2.2.1,y.2.2.2.2.2.2.2.2.2.1,y.2.2.2.2.2.2.2.2.1,y.2.2.2.2.2.2.2.2.2.2.1)).bind fun z481=>if(!z481.1)=true then(c_statement z481.2).bind fun z493=>Sum.elim (fun z493a=>if(y.2.2.2.2.2.2.2.2.2.2.2.2.2.2.2.2+1)*56≤roomBound∧y.2.2.2.2.2.2.2.2.2.2.2.2.2.2.2.2+1≤maxLen∧y.2.2.2.2.2.2.2.2.2.2.2.2.2.2.2.2≤y.2.2.2.2.2.2.2.2.2.2.2.2.2.2.2.2 then nx (.inr (z493a.2.2.2.2.2.2.2.1,z493a.2.2.2.2.2.2.2.2.1,z493a.2.2.2.2.2.2.2.2.2.1,z493a.2.2.2.2.2.2.2.2.2.2.1,z493a.2.2.2.2.2.2.2.2.2.2.2.1,z493a.2.2.2.2.2.1,z493a.2.2.2.2.2.2.1,z493a.2.2.2.2.2.2.2.2.2.2.2.2.1,z493a.2.2.2.2.2.2.2.2.2.2.2.2.2.2.1,z493a.2.2.2.2.2.2.2.2.2.2.2.2.2.1,z493a.2.2.2.2.2.2.2.2.2.2.2.2.2.2.2,fun j=>if j<y.2.2.2.2.2.2.2.2.2.2.2.2.2.2.2.2 then y.2.2.2.2.2.2.2.2.2.2.2.1 j else z493a.1,fun j=>if j<y.2.2.2.2.2.2.2.2.2.2.2.2.2.2.2.2 then y.2.2.2.2.2.2.2.2.2.2.2.2.1 j else z493a.2.1,fun j=>if j<y.2.2.2.2.2.2.2.2.2.2.2.2.2.2.2.2 then y.2.2.2.2.2.2.2.2.2.2.2.2.2.1 j else z493a.2.2.1,fun j=>if j<y.2.2.2.2.2.2.2.2.2.2.2.2.2.2.2.2 then y.2.2.2.2.2.2.2.2.2.2.2.2.2.2.1 j else z493a.2.2.2.1,fun(j j_1:Nat)=>if j<y.2.2.2.2.2.2.2.2.2.2.2.2.2.2.2.2 then y.2.2.2.2.2.2.2.2.2.2.2.2.2.2.2.1 j j_1 else z493a.2.2.2.2.1 j_1,y.2.2.2.2.2.2.2.2.2.2.2.2.2.2.2.2+1))else none) (fun z493b=>dn (.inl z493b)) z493 else dn (.inr (.inr (z481.2.2.2.1,z481.2.2.2.2.1,z481.2.2.2.2.2.1,z481.2.2.2.2.2.2.1,z481.2.2.2.2.2.2.2.1,z481.2.1,z481.2.2.1,z481.2.2.2.2.2.2.2.2.1,z481.2.2.2.2.2.2.2.2.2.2.1,z481.2.2.2.2.2.2.2.2.2.1,z481.2.2.2.2.2.2.2.2.2.2.2,y.2.2.2.2.2.2.2.2.2.2.2.2.2.2.2.2,y.2.2.2.2.2.2.2.2.2.2.2.1,y.2.2.2.2.2.2.2.2.2.2.2.2.1,y.2.2.2.2.2.2.2.2.2.2.2.2.2.1,y.2.2.2.2.2.2.2.2.2.2.2.2.2.2.1,y.2.2.2.2.2.2.2.2.2.2.2.2.2.2.2.1)))
theorem blockR_l0_n1{β:Type}(c_opens c_take c_statement)(x)(y)(nx:blockR_l0_a→Option β)(dn):blockR_l0_t1 c_opens c_take c_statement x y nx dn=(blockR_l0_t1 c_opens c_take c_statement x y (fun y=>some (.inl y)) (fun z=>some (.inr z))).bind fun r=>Sum.elim nx dn r:=by
 unfold blockR_l0_t1
 repeat' first|exact n0|refine n1 fun _=>?_|refine n2 ?_ ?_|refine n3 (fun _=>?_) fun _=>?_|rfl
theorem blockR_l0_r1(c_opens c_take c_statement)(x)(y)(lo:LoopT):loopK E5 (ft2 88 A_opens R_opens c_opens (ftb 84 A_take R_take c_take (ft2 89 A_statement R_statement c_statement ca0))) lo 0 13 (bodyOf E5 57 0) (blockR_l0_S x (.inr y)) (KCM [(0,13)] 4)=blockR_l0_t1 (vf A_opens c_opens) (vf A_take c_take) (vf A_statement c_statement) x y (fun y=>lo 0 13 (bodyOf E5 57 0) (blockR_l0_S x y) (KCM [(0,13)] 4)) (fun z=>some (.l (blockR_l0_T x z).1 (blockR_l0_T x z).2)):=by kernel_rfl
noncomputable def blockR_l0(c_opens:a_opens→Option g_opens)(c_take:a_take→Option g_take)(c_statement:a_statement→Option g_statement)(q:Nat)(x:a_blockR):blockR_l0_a→Option blockR_l0_g:=lpG (Sum.elim (fun y=>blockR_l0_t0 c_opens c_take c_statement x y (fun y=>some (.inl y)) (fun z=>some (.inr z))) (fun y=>blockR_l0_t1 c_opens c_take c_statement x y (fun y=>some (.inl y)) (fun z=>some (.inr z)))) q
theorem blockR_l0_s(c_opens)(h_opens:Lw E5 88 A_opens R_opens c_opens)(c_take)(h_take:Lw E5 84 A_take R_take c_take)(c_statement)(h_statement:Lw E5 89 A_statement R_statement c_statement)(q:Nat)(x:a_blockR):Ll E5 (bodyOf E5 57 0) (blockR_l0_S x) (blockR_l0_T x) (blockR_l0 c_opens c_take c_statement q x):=
 slp (fk2 h_opens (fk h_take (fk2 h_statement ca0_sound))) hX5 (fun lo y=>by
  rcases y with y|y
  ·exact(blockR_l0_r0 c_opens c_take c_statement x y lo).trans (by rw[v_opens,v_take,v_statement];exact blockR_l0_n0 _ _ _ _ _ _ _)
  ·exact(blockR_l0_r1 c_opens c_take c_statement x y lo).trans (by rw[v_opens,v_take,v_statement];exact blockR_l0_n1 _ _ _ _ _ _ _)) (fun z=>by rcases z with z|z|z<;>kernel_rfl) q
def t_blockR{β:Type}(c_opens:a_opens→Option g_opens)(c_take:a_take→Option g_take)(c_statement:a_statement→Option g_statement)(l_blockR_l0:blockR_l0_a→Option blockR_l0_g)(x:a_blockR)(dn:g_blockR→Option β):Option β:=
 (c_opens (⟨#[123]⟩,x)).bind fun z12=>Sum.elim (fun z12a=>(l_blockR_l0 (.inl (z12a.2.2.1,z12a.2.2.2.1,z12a.2.2.2.2.1,z12a.2.2.2.2.2.1,z12a.2.2.2.2.2.2.1,z12a.1,z12a.2.1,z12a.2.2.2.2.2.2.2.1,z12a.2.2.2.2.2.2.2.2.2.1,z12a.2.2.2.2.2.2.2.2.1,z12a.2.2.2.2.2.2.2.2.2.2))).bind fun z394=>Sum.elim (fun z394a=>dn (.inr (.inr z394a))) (fun z394b=>Sum.elim (fun z394ba=>dn (.inl (14,0,⟨#[]⟩,z394ba.2.2.2.2.2.1,w (z394ba.2.2.2.2.2.2.1-1),z394ba.1,z394ba.2.1,z394ba.2.2.1,z394ba.2.2.2.1,z394ba.2.2.2.2.1,z394ba.2.2.2.2.2.2.2.1,z394ba.2.2.2.2.2.2.2.2.2.1,z394ba.2.2.2.2.2.2.2.2.1,z394ba.2.2.2.2.2.2.2.2.2.2))) (fun z394bb=>dn (.inr (.inl (14,0,⟨#[]⟩,z394bb.2.2.2.2.2.2.2.2.2.2.2.1,fun j=>[i64 (z394bb.2.2.2.2.2.2.2.2.2.2.2.2.1 j),i64 (z394bb.2.2.2.2.2.2.2.2.2.2.2.2.2.1 j),st (z394bb.2.2.2.2.2.2.2.2.2.2.2.2.2.2.1 j),V.ro 4 (z394bb.2.2.2.2.2.2.2.2.2.2.2.2.2.2.2.1 j) (z394bb.2.2.2.2.2.2.2.2.2.2.2.2.2.2.2.2 j)],z394bb.2.2.2.2.2.1,w (z394bb.2.2.2.2.2.2.1-1),z394bb.1,z394bb.2.1,z394bb.2.2.1,z394bb.2.2.2.1,z394bb.2.2.2.2.1,z394bb.2.2.2.2.2.2.2.1,z394bb.2.2.2.2.2.2.2.2.2.1,z394bb.2.2.2.2.2.2.2.2.1,z394bb.2.2.2.2.2.2.2.2.2.2.1)))) z394b) z394) (fun z12b=>dn (.inr (.inr z12b))) z12
theorem n_blockR{β:Type}(c_opens c_take c_statement)(l_blockR_l0)(x)(dn:g_blockR→Option β):t_blockR c_opens c_take c_statement l_blockR_l0 x dn=(t_blockR c_opens c_take c_statement l_blockR_l0 x some).bind dn:=by
 unfold t_blockR
 repeat' first|exact n0|refine n1 fun _=>?_|refine n2 ?_ ?_|refine n3 (fun _=>?_) fun _=>?_|rfl
theorem r_blockR(c_opens c_take c_statement)(l_blockR_l0)(x):callK E5 (ft2 88 A_opens R_opens c_opens (ftb 84 A_take R_take c_take (ft2 89 A_statement R_statement c_statement ca0))) (lt3 0 (fun _=>true) (bodyOf E5 57 0) (blockR_l0_S x) (blockR_l0_T x) l_blockR_l0 lo0) 57 (A_blockR x).1 (A_blockR x).2 K=t_blockR (vf A_opens c_opens) (vf A_take c_take) (vf A_statement c_statement) (lf (bodyOf E5 57 0) (blockR_l0_S x) l_blockR_l0) x (fun z=>some (.c (R_blockR z))):=by kernel_rfl
theorem s_blockR(c_opens)(h_opens:Lw E5 88 A_opens R_opens c_opens)(c_take)(h_take:Lw E5 84 A_take R_take c_take)(c_statement)(h_statement:Lw E5 89 A_statement R_statement c_statement)(q:Nat):Lw E5 57 A_blockR R_blockR fun x=>t_blockR c_opens c_take c_statement (blockR_l0 c_opens c_take c_statement q x) x some:=sof hW5 hX5 (fk2 h_opens (fk h_take (fk2 h_statement ca0_sound))) (fun x=>(lk3 (blockR_l0_s c_opens h_opens c_take h_take c_statement h_statement q x) lo0_sound)) fun x=>(r_blockR c_opens c_take c_statement (blockR_l0 c_opens c_take c_statement q x) x).trans (by rw[v_opens,v_take,v_statement,blockR_l0_u,n_blockR]<;>rfl)
noncomputable def t_branchR{β:Type}(c_expr:a_expr→Option g_expr)(c_block:a_block→Option g_block)(c_take:a_take→Option g_take)(x:a_branchR)(dn:g_branchR→Option β):Option β:=
 (c_expr (1,w (x.1+1),x.2)).bind fun z12=>Sum.elim (fun z12a=>(c_block z12a.2.2.2.2.2).bind fun z24=>Sum.elim (fun z24a=>(c_take (⟨#[101,108,115,101]⟩,z24a.2.2.2.2.2)).bind fun z37=>if z37.1=true then(c_block z37.2).bind fun z49=>Sum.elim (fun z49a=>dn (.inl (3,0,⟨#[]⟩,fun j=>[i64 (if j<2 then if j<1 then z12a.1 else z24a.1 else z49a.1),i64 (if j<2 then if j<1 then z12a.2.1 else z24a.2.1 else z49a.2.1),st (if j<2 then if j<1 then z12a.2.2.1 else z24a.2.2.1 else z49a.2.2.1),V.ro 4 (if j<2 then if j<1 then z12a.2.2.2.1 else z24a.2.2.2.1 else z49a.2.2.2.1) fun j_1=>if j<2 then if j<1 then z12a.2.2.2.2.1 j_1 else z24a.2.2.2.2.1 j_1 else z49a.2.2.2.2.1 j_1],z49a.2.2.2.2.2))) (fun z49b=>dn (.inr z49b)) z49 else dn (.inl (3,0,⟨#[]⟩,fun j=>[i64 (if j<2 then if j<1 then z12a.1 else z24a.1 else 14),i64 (if j<2 then if j<1 then z12a.2.1 else z24a.2.1 else 0),st (if j<2 then if j<1 then z12a.2.2.1 else z24a.2.2.1 else⟨#[]⟩),Decidable.rec (fun(h:¬j<1+1)=>nilS) (fun(h:j<1+1)=>mergeV (j<1) (V.ro 4 z12a.2.2.2.1 z12a.2.2.2.2.1) (V.ro 4 z24a.2.2.2.1 z24a.2.2.2.2.1)) (Nat.decLt j (1+1))],z37.2))) (fun z24b=>dn (.inr z24b)) z24) (fun z12b=>dn (.inr z12b)) z12
theorem n_branchR{β:Type}(c_expr c_block c_take)(x)(dn:g_branchR→Option β):t_branchR c_expr c_block c_take x dn=(t_branchR c_expr c_block c_take x some).bind dn:=by
 unfold t_branchR
 repeat' first|exact n0|refine n1 fun _=>?_|refine n2 ?_ ?_|refine n3 (fun _=>?_) fun _=>?_|rfl
theorem r_branchR(c_expr c_block c_take)(x):callK E5 (ft2 136 A_expr R_expr c_expr (ft2 57 A_block R_block c_block (ftb 84 A_take R_take c_take ca0))) lo0 112 (A_branchR x).1 (A_branchR x).2 K=t_branchR (vf A_expr c_expr) (vf A_block c_block) (vf A_take c_take) x (fun z=>some (.c (R_branchR z))):=by kernel_rfl
theorem s_branchR(c_expr)(h_expr:Lw E5 136 A_expr R_expr c_expr)(c_block)(h_block:Lw E5 57 A_block R_block c_block)(c_take)(h_take:Lw E5 84 A_take R_take c_take)(q:Nat):Lw E5 112 A_branchR R_branchR fun x=>t_branchR c_expr c_block c_take x some:=sof hW5 hX5 (fk2 h_expr (fk2 h_block (fk h_take ca0_sound))) (fun _=>lo0_sound) fun x=>(r_branchR c_expr c_block c_take x).trans (by rw[v_expr,v_block,v_take,n_branchR]<;>rfl)
def t_repeatSR{β:Type}(c_number:a_number→Option g_number)(c_block:a_block→Option g_block)(x:a_repeatSR)(dn:g_repeatSR→Option β):Option β:=
 (c_number (1,100,w (x.1+1),x.2)).bind fun z13=>Sum.elim (fun z13a=>(c_block z13a.2).bind fun z25=>Sum.elim (fun z25a=>dn (.inl (4,z13a.1,⟨#[]⟩,z25a))) (fun z25b=>dn (.inr z25b)) z25) (fun z13b=>dn (.inr z13b)) z13
theorem n_repeatSR{β:Type}(c_number c_block)(x)(dn:g_repeatSR→Option β):t_repeatSR c_number c_block x dn=(t_repeatSR c_number c_block x some).bind dn:=by
 unfold t_repeatSR
 repeat' first|exact n0|refine n1 fun _=>?_|refine n2 ?_ ?_|refine n3 (fun _=>?_) fun _=>?_|rfl
theorem r_repeatSR(c_number c_block)(x):callK E5 (ft2 137 A_number R_number c_number (ft2 57 A_block R_block c_block ca0)) lo0 113 (A_repeatSR x).1 (A_repeatSR x).2 K=t_repeatSR (vf A_number c_number) (vf A_block c_block) x (fun z=>some (.c (R_repeatSR z))):=by kernel_rfl
theorem s_repeatSR(c_number)(h_number:Lw E5 137 A_number R_number c_number)(c_block)(h_block:Lw E5 57 A_block R_block c_block)(q:Nat):Lw E5 113 A_repeatSR R_repeatSR fun x=>t_repeatSR c_number c_block x some:=sof hW5 hX5 (fk2 h_number (fk2 h_block ca0_sound)) (fun _=>lo0_sound) fun x=>(r_repeatSR c_number c_block x).trans (by rw[v_number,v_block,n_repeatSR]<;>rfl)
def t_statementR{β:Type}(c_next:a_next→Option g_next)(c_letS:a_letS→Option g_letS)(c_branch:a_branch→Option g_branch)(c_repeatS:a_repeatS→Option g_repeatS)(c_await:a_await→Option g_await)(c_amount:a_amount→Option g_amount)(c_single:a_single→Option g_single)(c_numbered:a_numbered→Option g_numbered)(c_assign:a_assign→Option g_assign)(c_must:a_must→Option g_must)(x:a_statementR)(dn:g_statementR→Option β):Option β:=
 (c_next x).bind fun z11=>if(z11.2.2.1.toList==ByteArray.toList ⟨#[108,101,116]⟩)=true then(c_letS z11.2.2.2.2).bind fun z23=>Sum.elim (fun z23a=>(c_must (⟨#[59]⟩,z23a.2.2.2.2.2)).bind fun z36=>Sum.elim (fun z36a=>dn (.inl (z23a.1,z23a.2.1,z23a.2.2.1,z23a.2.2.2.1,z23a.2.2.2.2.1,z36a))) (fun z36b=>dn (.inr z36b)) z36) (fun z23b=>dn (.inr z23b)) z23 else if(z11.2.2.1.toList==ByteArray.toList ⟨#[105,102]⟩)=true then(c_branch z11.2.2.2.2).bind fun z50=>Sum.elim (fun z50a=>dn (.inl z50a)) (fun z50b=>dn (.inr z50b)) z50 else if(z11.2.2.1.toList==ByteArray.toList ⟨#[114,101,112,101,97,116]⟩)=true then(c_repeatS z11.2.2.2.2).bind fun z63=>Sum.elim (fun z63a=>dn (.inl z63a)) (fun z63b=>dn (.inr z63b)) z63 else if(z11.2.2.1.toList==ByteArray.toList ⟨#[97,119,97,105,116]⟩)=true then(c_await z11.2.2.2.2).bind fun z76=>Sum.elim (fun z76a=>(c_must (⟨#[59]⟩,z76a.2.2.2.2.2)).bind fun z89=>Sum.elim (fun z89a=>dn (.inl (z76a.1,z76a.2.1,z76a.2.2.1,z76a.2.2.2.1,z76a.2.2.2.2.1,z89a))) (fun z89b=>dn (.inr z89b)) z89) (fun z76b=>dn (.inr z76b)) z76 else if(z11.2.2.1.toList==ByteArray.toList ⟨#[119,97,105,116]⟩)=true then(c_amount z11.2.2.2.2).bind fun z103=>Sum.elim (fun z103a=>(c_must (⟨#[59]⟩,z103a.2.2.2.2.2)).bind fun z116=>Sum.elim (fun z116a=>dn (.inl (z103a.1,z103a.2.1,z103a.2.2.1,z103a.2.2.2.1,z103a.2.2.2.2.1,z116a))) (fun z116b=>dn (.inr z116b)) z116) (fun z103b=>dn (.inr z103b)) z103 else if(z11.2.2.1.toList==ByteArray.toList ⟨#[107,101,101,112]⟩)=true then(c_amount z11.2.2.2.2).bind fun z130=>Sum.elim (fun z130a=>(c_must (⟨#[59]⟩,z130a.2.2.2.2.2)).bind fun z143=>Sum.elim (fun z143a=>dn (.inl (z130a.1,z130a.2.1,z130a.2.2.1,z130a.2.2.2.1,z130a.2.2.2.2.1,z143a))) (fun z143b=>dn (.inr z143b)) z143) (fun z130b=>dn (.inr z130b)) z130 else if(z11.2.2.1.toList==ByteArray.toList ⟨#[114,101,113,117,105,114,101]⟩)=true then(c_single z11.2.2.2.2).bind fun z157=>Sum.elim (fun z157a=>(c_must (⟨#[59]⟩,z157a.2.2.2.2.2)).bind fun z170=>Sum.elim (fun z170a=>dn (.inl (z157a.1,z157a.2.1,z157a.2.2.1,z157a.2.2.2.1,z157a.2.2.2.2.1,z170a))) (fun z170b=>dn (.inr z170b)) z170) (fun z157b=>dn (.inr z157b)) z157 else if(z11.2.2.1.toList==ByteArray.toList ⟨#[112,111,105,110,116]⟩)=true then(c_single z11.2.2.2.2).bind fun z184=>Sum.elim (fun z184a=>(c_must (⟨#[59]⟩,z184a.2.2.2.2.2)).bind fun z197=>Sum.elim (fun z197a=>dn (.inl (z184a.1,z184a.2.1,z184a.2.2.1,z184a.2.2.2.1,z184a.2.2.2.2.1,z197a))) (fun z197b=>dn (.inr z197b)) z197) (fun z184b=>dn (.inr z184b)) z184 else if(z11.2.2.1.toList==ByteArray.toList ⟨#[117,115,101]⟩)=true then(c_numbered z11.2.2.2.2).bind fun z211=>Sum.elim (fun z211a=>(c_must (⟨#[59]⟩,z211a.2.2.2.2.2)).bind fun z224=>Sum.elim (fun z224a=>dn (.inl (z211a.1,z211a.2.1,z211a.2.2.1,z211a.2.2.2.1,z211a.2.2.2.2.1,z224a))) (fun z224b=>dn (.inr z224b)) z224) (fun z211b=>dn (.inr z211b)) z211 else if(z11.2.2.1.toList==ByteArray.toList ⟨#[115,101,110,100]⟩)=true then(c_numbered z11.2.2.2.2).bind fun z238=>Sum.elim (fun z238a=>(c_must (⟨#[59]⟩,z238a.2.2.2.2.2)).bind fun z251=>Sum.elim (fun z251a=>dn (.inl (z238a.1,z238a.2.1,z238a.2.2.1,z238a.2.2.2.1,z238a.2.2.2.2.1,z251a))) (fun z251b=>dn (.inr z251b)) z251) (fun z238b=>dn (.inr z238b)) z238 else if(z11.2.2.1.toList==ByteArray.toList ⟨#[101,109,105,116]⟩)=true then(c_numbered z11.2.2.2.2).bind fun z265=>Sum.elim (fun z265a=>(c_must (⟨#[59]⟩,z265a.2.2.2.2.2)).bind fun z278=>Sum.elim (fun z278a=>dn (.inl (z265a.1,z265a.2.1,z265a.2.2.1,z265a.2.2.2.1,z265a.2.2.2.2.1,z278a))) (fun z278b=>dn (.inr z278b)) z278) (fun z265b=>dn (.inr z265b)) z265 else if(z11.2.2.1.toList==ByteArray.toList ⟨#[97,98,111,114,116]⟩)=true then(c_numbered z11.2.2.2.2).bind fun z292=>Sum.elim (fun z292a=>(c_must (⟨#[59]⟩,z292a.2.2.2.2.2)).bind fun z305=>Sum.elim (fun z305a=>dn (.inl (z292a.1,z292a.2.1,z292a.2.2.1,z292a.2.2.2.1,z292a.2.2.2.2.1,z305a))) (fun z305b=>dn (.inr z305b)) z305) (fun z292b=>dn (.inr z292b)) z292 else(c_assign z11.2.2.2.2).bind fun z319=>Sum.elim (fun z319a=>(c_must (⟨#[59]⟩,z319a.2.2.2.2.2)).bind fun z332=>Sum.elim (fun z332a=>dn (.inl (z319a.1,z319a.2.1,z319a.2.2.1,z319a.2.2.2.1,z319a.2.2.2.2.1,z332a))) (fun z332b=>dn (.inr z332b)) z332) (fun z319b=>dn (.inr z319b)) z319
theorem n_statementR{β:Type}(c_next c_letS)(c_branch c_repeatS)(c_await c_amount)(c_single c_numbered)(c_assign c_must)(x)(dn:g_statementR→Option β):t_statementR c_next c_letS c_branch c_repeatS c_await c_amount c_single c_numbered c_assign c_must x dn=(t_statementR c_next c_letS c_branch c_repeatS c_await c_amount c_single c_numbered c_assign c_must x some).bind dn:=by
 unfold t_statementR
 repeat' first|exact n0|refine n1 fun _=>?_|refine n2 ?_ ?_|refine n3 (fun _=>?_) fun _=>?_|rfl
theorem r_statementR(c_next c_letS)(c_branch c_repeatS)(c_await c_amount)(c_single c_numbered)(c_assign c_must)(x):callK E5 (ftb 22 A_next R_next c_next (ft2 111 A_letS R_letS c_letS (ft2 112 A_branch R_branch c_branch (ft2 113 A_repeatS R_repeatS c_repeatS (ft2 114 A_await R_await c_await (ft2 115 A_amount R_amount c_amount (ft2 116 A_single R_single c_single (ft2 117 A_numbered R_numbered c_numbered (ft2 118 A_assign R_assign c_assign (ft2 53 A_must R_must c_must ca0)))))))))) lo0 89 (A_statementR x).1 (A_statementR x).2 K=t_statementR (vf A_next c_next) (vf A_letS c_letS) (vf A_branch c_branch) (vf A_repeatS c_repeatS) (vf A_await c_await) (vf A_amount c_amount) (vf A_single c_single) (vf A_numbered c_numbered) (vf A_assign c_assign) (vf A_must c_must) x (fun z=>some (.c (R_statementR z))):=by kernel_rfl
theorem s_statementR(c_next)(h_next:Lw E5 22 A_next R_next c_next)(c_letS)(h_letS:Lw E5 111 A_letS R_letS c_letS)(c_branch)(h_branch:Lw E5 112 A_branch R_branch c_branch)(c_repeatS)(h_repeatS:Lw E5 113 A_repeatS R_repeatS c_repeatS)(c_await)(h_await:Lw E5 114 A_await R_await c_await)(c_amount)(h_amount:Lw E5 115 A_amount R_amount c_amount)(c_single)(h_single:Lw E5 116 A_single R_single c_single)(c_numbered)(h_numbered:Lw E5 117 A_numbered R_numbered c_numbered)(c_assign)(h_assign:Lw E5 118 A_assign R_assign c_assign)(c_must)(h_must:Lw E5 53 A_must R_must c_must)(q:Nat):Lw E5 89 A_statementR R_statementR fun x=>t_statementR c_next c_letS c_branch c_repeatS c_await c_amount c_single c_numbered c_assign c_must x some:=sof hW5 hX5 (fk h_next (fk2 h_letS (fk2 h_branch (fk2 h_repeatS (fk2 h_await (fk2 h_amount (fk2 h_single (fk2 h_numbered (fk2 h_assign (fk2 h_must ca0_sound)))))))))) (fun _=>lo0_sound) fun x=>(r_statementR c_next c_letS c_branch c_repeatS c_await c_amount c_single c_numbered c_assign c_must x).trans (by rw[v_next,v_letS,v_branch,v_repeatS,v_await,v_amount,v_single,v_numbered,v_assign,v_must,n_statementR]<;>rfl)
def cv_block:g_blockR→g_block:=Sum.elim (fun z=>.inl (z.1,z.2.1,z.2.2.1,0,fun _=>[],z.2.2.2)) (Sum.elim (fun z=>.inl z) (fun z=>.inr z))
theorem cvs_block{args:List V}{L:List (Option Chunk)}(z:g_blockR)(h:SC E5 57 args L (R_blockR z)):SC E5 57 args L (R_block (cv_block z)):=by
 rcases z with z|z|z
 ·exact cv_z h
 ·exact cv_r h
 ·exact h
def cv_branch:g_branchR→g_branch:=Sum.elim (fun z=>.inl (z.1,z.2.1,z.2.2.1,3,fun j=>fixC (z.2.2.2.1 j),z.2.2.2.2)) (fun z=>.inr z)
theorem cvs_branch{args:List V}{L:List (Option Chunk)}(z:g_branchR)(h:SC E5 112 args L (R_branchR z)):SC E5 112 args L (R_branch (cv_branch z)):=by
 rcases z with z|z
 ·exact cv_F h
 ·exact h
def cv_repeatS:g_repeatSR→g_repeatS:=Sum.elim (fun z=>.inl (z.1,z.2.1,z.2.2.1,1,selL [[i64 z.2.2.2.1,i64 z.2.2.2.2.1,st z.2.2.2.2.2.1,.ro 4 z.2.2.2.2.2.2.1 z.2.2.2.2.2.2.2.1]],z.2.2.2.2.2.2.2.2)) (fun z=>.inr z)
theorem cvs_repeatS{args:List V}{L:List (Option Chunk)}(z:g_repeatSR)(h:SC E5 113 args L (R_repeatSR z)):SC E5 113 args L (R_repeatS (cv_repeatS z)):=by
 rcases z with z|z
 ·exact cv_k h
 ·exact h
def cv_statement:g_statementR→g_statement:=Sum.elim (fun z=>.inl z) (fun z=>.inr z)
theorem cvs_statement{args:List V}{L:List (Option Chunk)}(z:g_statementR)(h:SC E5 89 args L (R_statementR z)):SC E5 89 args L (R_statement (cv_statement z)):=by
 rcases z with z|z
 ·exact h
 ·exact h
noncomputable def stS:Nat→(a_block→Option g_block)×(a_branch→Option g_branch)×(a_repeatS→Option g_repeatS)×(a_statement→Option g_statement)
 |0=>(fun _=>none,fun _=>none,fun _=>none,fun _=>none)
 |q+1=>(fun x=>(t_blockR ((opens q)) ((take q)) ((stS q).2.2.2) (blockR_l0 ((opens q)) ((take q)) ((stS q).2.2.2) q x) x some).map cv_block,
  fun x=>(t_branchR ((expr q)) ((stS q).1) ((take q)) x some).map cv_branch,
  fun x=>(t_repeatSR ((number q)) ((stS q).1) x some).map cv_repeatS,
  fun x=>(t_statementR ((next q)) ((letS q)) ((stS q).2.1) ((stS q).2.2.1) ((await q)) ((amount q)) ((single q)) ((numbered q)) ((assign q)) ((must q)) x some).map cv_statement)
theorem stS_sc:∀q,(∀x z,(stS q).1 x=some z→SC E5 57 (A_block x).1 (A_block x).2 (R_block z))∧(∀x z,(stS q).2.1 x=some z→SC E5 112 (A_branch x).1 (A_branch x).2 (R_branch z))∧(∀x z,(stS q).2.2.1 x=some z→SC E5 113 (A_repeatS x).1 (A_repeatS x).2 (R_repeatS z))∧(∀x z,(stS q).2.2.2 x=some z→SC E5 89 (A_statement x).1 (A_statement x).2 (R_statement z))
 |0=>⟨(fun x z h=>by cases h),(fun x z h=>by cases h),(fun x z h=>by cases h),(fun x z h=>by cases h)⟩
 |q+1=>by
  obtain⟨h0,h1,h2,h3⟩:=stS_sc q
  exact⟨(fun x z h=>by
   obtain⟨y,hy,rfl⟩:=Option.map_eq_some_iff.1 h
   exact cvs_block y (s_blockR ((opens q)) ((sc_opens q)) ((take q)) ((sc_take q)) ((stS q).2.2.2) (h3) q x y hy)),(fun x z h=>by
   obtain⟨y,hy,rfl⟩:=Option.map_eq_some_iff.1 h
   exact cvs_branch y (s_branchR ((expr q)) ((sc_expr q)) ((stS q).1) (h0) ((take q)) ((sc_take q)) q x y hy)),(fun x z h=>by
   obtain⟨y,hy,rfl⟩:=Option.map_eq_some_iff.1 h
   exact cvs_repeatS y (s_repeatSR ((number q)) ((sc_number q)) ((stS q).1) (h0) q x y hy)),(fun x z h=>by
   obtain⟨y,hy,rfl⟩:=Option.map_eq_some_iff.1 h
   exact cvs_statement y (s_statementR ((next q)) ((sc_next q)) ((letS q)) ((sc_letS q)) ((stS q).2.1) (h1) ((stS q).2.2.1) (h2) ((await q)) ((sc_await q)) ((amount q)) ((sc_amount q)) ((single q)) ((sc_single q)) ((numbered q)) ((sc_numbered q)) ((assign q)) ((sc_assign q)) ((must q)) ((sc_must q)) q x y hy))⟩
noncomputable def block(q:Nat):a_block→Option g_block:=(stS q).1
theorem sc_block(q:Nat):Lw E5 57 A_block R_block (block q):=(stS_sc q).1
noncomputable def branch(q:Nat):a_branch→Option g_branch:=(stS q).2.1
noncomputable def repeatS(q:Nat):a_repeatS→Option g_repeatS:=(stS q).2.2.1
noncomputable def statement(q:Nat):a_statement→Option g_statement:=(stS q).2.2.2
end Go.Proofs.YtjfkkokeegpeiaaGreatDoor
/- Procedures, lifted. -/
namespace Go.Proofs.YtjfkkokeegpeiaaGreatDoor
open Go Go.Am Go.Proofs
set_option maxRecDepth 100000
abbrev a_paramsR:Type:=SP
abbrev g_paramsR:Type:=(SP)⊕(Nat×FS×FS×SP)⊕(Int×Int)
def A_paramsR:AR a_paramsR:=fun x=>([.ptr 0 0],[some (.blk [.ro 4 x.2.2.1 (fun j=>[i64 (x.2.2.2.1 j),i64 (x.2.2.2.2.1 j),st (x.2.2.2.2.2.1 j),i64 (x.2.2.2.2.2.2.1 j)]),i64 x.1,i64 x.2.1,.sl 2 1 0 x.2.2.2.2.2.2.2.1,.sl 1 1 0 x.2.2.2.2.2.2.2.2.2.1]),some (.row 9 1 x.2.2.2.2.2.2.2.2.2.1 (fun j=>[st (x.2.2.2.2.2.2.2.2.2.2 j)])),some (.row 9 1 x.2.2.2.2.2.2.2.1 (fun j=>[st (x.2.2.2.2.2.2.2.2.1 j)]))])
def R_paramsR:g_paramsR→CRes:=Sum.elim (fun z:SP=>.ret nilS (hHP z)) (Sum.elim (fun z:Nat×FS×FS×SP=>.ret (.sl 3 2 0 z.1) [some (.blk [.ro 4 z.2.2.2.2.2.1 (fun j=>[i64 (z.2.2.2.2.2.2.1 j),i64 (z.2.2.2.2.2.2.2.1 j),st (z.2.2.2.2.2.2.2.2.1 j),i64 (z.2.2.2.2.2.2.2.2.2.1 j)]),i64 z.2.2.2.1,i64 z.2.2.2.2.1,.sl 1 1 0 z.2.2.2.2.2.2.2.2.2.2.1,.sl 2 1 0 z.2.2.2.2.2.2.2.2.2.2.2.2.1]),some (.row 9 1 z.2.2.2.2.2.2.2.2.2.2.1 (fun j=>[st (z.2.2.2.2.2.2.2.2.2.2.2.1 j)])),some (.row 9 1 z.2.2.2.2.2.2.2.2.2.2.2.2.1 (fun j=>[st (z.2.2.2.2.2.2.2.2.2.2.2.2.2 j)])),some (.row 66 2 z.1 (fun j=>[st (z.2.1 j),st (z.2.2.1 j)]))]) (fun z:Int×Int=>.pan (.ifc 45 (.agg [i64 z.1,i64 z.2]))))
abbrev paramsR_l0_a:Type:=(SC2)⊕(Nat×FI×FI×FS×FI×Int×Int×Nat×Nat×FS×FS×FS×FS×Nat)
abbrev paramsR_l0_g:Type:=(Int×Int)⊕(Nat×FI×FI×FS×FI×Int×Int×Nat×Nat×FS×FS×FS×FS×Nat)
def paramsR_l0_S0(x:a_paramsR)(y:SC2):St:={fr:=[V.ptr 0 0,V.junk,V.junk,nilS]++jk 54,H:=hp [some (hPB y),some (hPV y),some (hPQ0 y)],nx:=3,rt:=1,me:=56}
def paramsR_l0_d0(s:St):SC2:=((vRoN (cb s 0 0)),dTI (cb s 0 0) 0,dTI (cb s 0 0) 1,dTS (cb s 0 0) 2,dTI (cb s 0 0) 3,vI (cb s 0 1),vI (cb s 0 2),vSlN (cb s 0 3),vSlN (cb s 0 4),dRS (s.H 1) 0,dRS (s.H 2) 0)
def paramsR_l0_S1(x:a_paramsR)(y:Nat×FI×FI×FS×FI×Int×Int×Nat×Nat×FS×FS×FS×FS×Nat):St:={fr:=[V.ptr 0 0,V.junk,V.junk,V.sl 3 2 0 y.2.2.2.2.2.2.2.2.2.2.2.2.2]++jk 54,H:=hp [some (hPB y),some (hPV y),some (hPQ y),some (Chunk.row 66 2 y.2.2.2.2.2.2.2.2.2.2.2.2.2 fun j=>[st (y.2.2.2.2.2.2.2.2.2.2.2.1 j),st (y.2.2.2.2.2.2.2.2.2.2.2.2.1 j)])],nx:=4,rt:=1,me:=56}
def paramsR_l0_d1(s:St):Nat×FI×FI×FS×FI×Int×Int×Nat×Nat×FS×FS×FS×FS×Nat:=((vRoN (cb s 0 0)),dTI (cb s 0 0) 0,dTI (cb s 0 0) 1,dTS (cb s 0 0) 2,dTI (cb s 0 0) 3,vI (cb s 0 1),vI (cb s 0 2),vSlN (cb s 0 3),vSlN (cb s 0 4),dRS (s.H 1) 0,dRS (s.H 2) 0,dRS (s.H 3) 0,dRS (s.H 3) 1,vSlN (s.fr.getD 3 .junk))
def paramsR_l0_S(x:a_paramsR):paramsR_l0_a→St:=(Sum.elim (paramsR_l0_S0 x) (paramsR_l0_S1 x))
def paramsR_l0_d(s:St):paramsR_l0_a:=(match s.nx==3 with|true=>(.inl (paramsR_l0_d0 s)) |false=>(.inr (paramsR_l0_d1 s)))
theorem paramsR_l0_u(x:a_paramsR):VL (paramsR_l0_S x):=vl paramsR_l0_d (fun y=>by rcases y with y|y<;>rfl)
def paramsR_l0_T(x:a_paramsR):paramsR_l0_g→Ex×St:=(Sum.elim (fun z=>(Ex.panic (V.ifc 45 (V.agg [i64 z.1,i64 z.2])),{fr:=[V.junk]++jk 57,H:=hp [none],nx:=1,rt:=1,me:=56})) (fun z=>(Ex.exit 0,{fr:=[V.ptr 0 0,V.junk,V.junk,V.sl 3 2 0 z.2.2.2.2.2.2.2.2.2.2.2.2.2]++jk 54,H:=hp [some (hPB z),some (hPV z),some (hPQ z),some (Chunk.row 66 2 z.2.2.2.2.2.2.2.2.2.2.2.2.2 fun j=>[st (z.2.2.2.2.2.2.2.2.2.2.2.1 j),st (z.2.2.2.2.2.2.2.2.2.2.2.2.1 j)])],nx:=4,rt:=1,me:=56})))
def paramsR_l0_t0{β:Type}(c_must:a_must→Option g_must)(c_take:a_take→Option g_take)(c_declare:a_declare→Option g_declare)(c_next:a_next→Option g_next)(c_Lookup:a_Lookup→Option g_Lookup)(c_fail:a_fail→Option g_fail)(x:a_paramsR)(y:SC2)(nx:paramsR_l0_a→Option β)(dn:paramsR_l0_g→Option β):Option β:=
 (c_declare (y.2.2.2.2.2.1,y.2.2.2.2.2.2.1,y.1,y.2.1,y.2.2.1,y.2.2.2.1,y.2.2.2.2.1,y.2.2.2.2.2.2.2.1,y.2.2.2.2.2.2.2.2.2.1,y.2.2.2.2.2.2.2.2.1,y.2.2.2.2.2.2.2.2.2.2)).bind fun z985=>Sum.elim (fun z985a=>(c_take (⟨#[58]⟩,z985a.2)).bind fun z998=>if z998.1=true then(c_next z998.2).bind fun z1010=>(c_Lookup z1010.2.2.1).bind fun z1012=>if(z1010.1 !=1)=true then(c_fail (11,z1010.2.2.2.2)).bind fun z1025=>dn (.inl z1025)else if(!z1012.2.2.2.2.2.2)=true then(c_fail (10,z1010.2.2.2.2)).bind fun z1038=>dn (.inl z1038)else(c_take (⟨#[44]⟩,w (z1010.2.2.2.2.1+1),z1010.2.2.2.2.2)).bind fun z1051=>if(!z1051.1)=true then dn (.inr (z1051.2.2.2.1,z1051.2.2.2.2.1,z1051.2.2.2.2.2.1,z1051.2.2.2.2.2.2.1,z1051.2.2.2.2.2.2.2.1,z1051.2.1,z1051.2.2.1,z1051.2.2.2.2.2.2.2.2.1,z1051.2.2.2.2.2.2.2.2.2.2.1,z1051.2.2.2.2.2.2.2.2.2.1,z1051.2.2.2.2.2.2.2.2.2.2.2,fun j=>z985a.1,fun j=>z1010.2.2.1,1))else nx (.inr (z1051.2.2.2.1,z1051.2.2.2.2.1,z1051.2.2.2.2.2.1,z1051.2.2.2.2.2.2.1,z1051.2.2.2.2.2.2.2.1,z1051.2.1,z1051.2.2.1,z1051.2.2.2.2.2.2.2.2.1,z1051.2.2.2.2.2.2.2.2.2.2.1,z1051.2.2.2.2.2.2.2.2.2.1,z1051.2.2.2.2.2.2.2.2.2.2.2,fun j=>z985a.1,fun j=>z1010.2.2.1,1))else(c_take (⟨#[44]⟩,z998.2)).bind fun z1064=>if(!z1064.1)=true then dn (.inr (z1064.2.2.2.1,z1064.2.2.2.2.1,z1064.2.2.2.2.2.1,z1064.2.2.2.2.2.2.1,z1064.2.2.2.2.2.2.2.1,z1064.2.1,z1064.2.2.1,z1064.2.2.2.2.2.2.2.2.1,z1064.2.2.2.2.2.2.2.2.2.2.1,z1064.2.2.2.2.2.2.2.2.2.1,z1064.2.2.2.2.2.2.2.2.2.2.2,fun j=>z985a.1,fun j=>⟨#[]⟩,1))else nx (.inr (z1064.2.2.2.1,z1064.2.2.2.2.1,z1064.2.2.2.2.2.1,z1064.2.2.2.2.2.2.1,z1064.2.2.2.2.2.2.2.1,z1064.2.1,z1064.2.2.1,z1064.2.2.2.2.2.2.2.2.1,z1064.2.2.2.2.2.2.2.2.2.2.1,z1064.2.2.2.2.2.2.2.2.2.1,z1064.2.2.2.2.2.2.2.2.2.2.2,fun j=>z985a.1,fun j=>⟨#[]⟩,1))) (fun z985b=>dn (.inl z985b)) z985
theorem paramsR_l0_n0{β:Type}(c_must c_take)(c_declare c_next)(c_Lookup c_fail)(x)(y)(nx:paramsR_l0_a→Option β)(dn):paramsR_l0_t0 c_must c_take c_declare c_next c_Lookup c_fail x y nx dn=(paramsR_l0_t0 c_must c_take c_declare c_next c_Lookup c_fail x y (fun y=>some (.inl y)) (fun z=>some (.inr z))).bind fun r=>Sum.elim nx dn r:=by
 unfold paramsR_l0_t0
 repeat' first|exact n0|refine n1 fun _=>?_|refine n2 ?_ ?_|refine n3 (fun _=>?_) fun _=>?_|rfl
theorem paramsR_l0_r0(c_must c_take)(c_declare c_next)(c_Lookup c_fail)(x)(y)(lo:LoopT):loopK E5 (ft2 53 A_must R_must c_must (ftb 84 A_take R_take c_take (ft2 86 A_declare R_declare c_declare (ftb 22 A_next R_next c_next (ftb 87 A_Lookup R_Lookup c_Lookup (ftb 55 A_fail R_fail c_fail ca0)))))) lo 0 9 (bodyOf E5 56 0) (paramsR_l0_S x (.inl y)) (KCM [(0,9)] 4)=paramsR_l0_t0 (vf A_must c_must) (vf A_take c_take) (vf A_declare c_declare) (vf A_next c_next) (vf A_Lookup c_Lookup) (vf A_fail c_fail) x y (fun y=>lo 0 9 (bodyOf E5 56 0) (paramsR_l0_S x y) (KCM [(0,9)] 4)) (fun z=>some (.l (paramsR_l0_T x z).1 (paramsR_l0_T x z).2)):=by kernel_rfl
def paramsR_l0_t1{β:Type}(c_must:a_must→Option g_must)(c_take:a_take→Option g_take)(c_declare:a_declare→Option g_declare)(c_next:a_next→Option g_next)(c_Lookup:a_Lookup→Option g_Lookup)(c_fail:a_fail→Option g_fail)(x:a_paramsR)(y:Nat×FI×FI×FS×FI×Int×Int×Nat×Nat×FS×FS×FS×FS×Nat)(nx:paramsR_l0_a→Option β)(dn:paramsR_l0_g→Option β):Option β:=
 (c_declare (y.2.2.2.2.2.1,y.2.2.2.2.2.2.1,y.1,y.2.1,y.2.2.1,y.2.2.2.1,y.2.2.2.2.1,y.2.2.2.2.2.2.2.1,y.2.2.2.2.2.2.2.2.2.1,y.2.2.2.2.2.2.2.2.1,y.2.2.2.2.2.2.2.2.2.2.1)).bind fun z1078=>Sum.elim (fun z1078a=>(c_take (⟨#[58]⟩,z1078a.2)).bind fun z1091=>if z1091.1=true then(c_next z1091.2).bind fun z1103=>(c_Lookup z1103.2.2.1).bind fun z1105=>if(z1103.1 !=1)=true then(c_fail (11,z1103.2.2.2.2)).bind fun z1118=>dn (.inl z1118)else if(!z1105.2.2.2.2.2.2)=true then(c_fail (10,z1103.2.2.2.2)).bind fun z1131=>dn (.inl z1131)else if(y.2.2.2.2.2.2.2.2.2.2.2.2.2+1)*32≤roomBound∧y.2.2.2.2.2.2.2.2.2.2.2.2.2+1≤maxLen∧y.2.2.2.2.2.2.2.2.2.2.2.2.2≤y.2.2.2.2.2.2.2.2.2.2.2.2.2 then(c_take (⟨#[44]⟩,w (z1103.2.2.2.2.1+1),z1103.2.2.2.2.2)).bind fun z1144=>if(!z1144.1)=true then dn (.inr (z1144.2.2.2.1,z1144.2.2.2.2.1,z1144.2.2.2.2.2.1,z1144.2.2.2.2.2.2.1,z1144.2.2.2.2.2.2.2.1,z1144.2.1,z1144.2.2.1,z1144.2.2.2.2.2.2.2.2.1,z1144.2.2.2.2.2.2.2.2.2.2.1,z1144.2.2.2.2.2.2.2.2.2.1,z1144.2.2.2.2.2.2.2.2.2.2.2,fun j=>if j<y.2.2.2.2.2.2.2.2.2.2.2.2.2 then y.2.2.2.2.2.2.2.2.2.2.2.1 j else z1078a.1,fun j=>if j<y.2.2.2.2.2.2.2.2.2.2.2.2.2 then y.2.2.2.2.2.2.2.2.2.2.2.2.1 j else z1103.2.2.1,y.2.2.2.2.2.2.2.2.2.2.2.2.2+1))else nx (.inr (z1144.2.2.2.1,z1144.2.2.2.2.1,z1144.2.2.2.2.2.1,z1144.2.2.2.2.2.2.1,z1144.2.2.2.2.2.2.2.1,z1144.2.1,z1144.2.2.1,z1144.2.2.2.2.2.2.2.2.1,z1144.2.2.2.2.2.2.2.2.2.2.1,z1144.2.2.2.2.2.2.2.2.2.1,z1144.2.2.2.2.2.2.2.2.2.2.2,fun j=>if j<y.2.2.2.2.2.2.2.2.2.2.2.2.2 then y.2.2.2.2.2.2.2.2.2.2.2.1 j else z1078a.1,fun j=>if j<y.2.2.2.2.2.2.2.2.2.2.2.2.2 then y.2.2.2.2.2.2.2.2.2.2.2.2.1 j else z1103.2.2.1,y.2.2.2.2.2.2.2.2.2.2.2.2.2+1))else none else if(y.2.2.2.2.2.2.2.2.2.2.2.2.2+1)*32≤roomBound∧y.2.2.2.2.2.2.2.2.2.2.2.2.2+1≤maxLen∧y.2.2.2.2.2.2.2.2.2.2.2.2.2≤y.2.2.2.2.2.2.2.2.2.2.2.2.2 then(c_take (⟨#[44]⟩,z1091.2)).bind fun z1157=>if(!z1157.1)=true then dn (.inr (z1157.2.2.2.1,z1157.2.2.2.2.1,z1157.2.2.2.2.2.1,z1157.2.2.2.2.2.2.1,z1157.2.2.2.2.2.2.2.1,z1157.2.1,z1157.2.2.1,z1157.2.2.2.2.2.2.2.2.1,z1157.2.2.2.2.2.2.2.2.2.2.1,z1157.2.2.2.2.2.2.2.2.2.1,z1157.2.2.2.2.2.2.2.2.2.2.2,fun j=>if j<y.2.2.2.2.2.2.2.2.2.2.2.2.2 then y.2.2.2.2.2.2.2.2.2.2.2.1 j else z1078a.1,fun j=>if j<y.2.2.2.2.2.2.2.2.2.2.2.2.2 then y.2.2.2.2.2.2.2.2.2.2.2.2.1 j else⟨#[]⟩,y.2.2.2.2.2.2.2.2.2.2.2.2.2+1))else nx (.inr (z1157.2.2.2.1,z1157.2.2.2.2.1,z1157.2.2.2.2.2.1,z1157.2.2.2.2.2.2.1,z1157.2.2.2.2.2.2.2.1,z1157.2.1,z1157.2.2.1,z1157.2.2.2.2.2.2.2.2.1,z1157.2.2.2.2.2.2.2.2.2.2.1,z1157.2.2.2.2.2.2.2.2.2.1,z1157.2.2.2.2.2.2.2.2.2.2.2,fun j=>if j<y.2.2.2.2.2.2.2.2.2.2.2.2.2 then y.2.2.2.2.2.2.2.2.2.2.2.1 j else z1078a.1,fun j=>if j<y.2.2.2.2.2.2.2.2.2.2.2.2.2 then y.2.2.2.2.2.2.2.2.2.2.2.2.1 j else⟨#[]⟩,y.2.2.2.2.2.2.2.2.2.2.2.2.2+1))else none) (fun z1078b=>dn (.inl z1078b)) z1078
theorem paramsR_l0_n1{β:Type}(c_must c_take)(c_declare c_next)(c_Lookup c_fail)(x)(y)(nx:paramsR_l0_a→Option β)(dn):paramsR_l0_t1 c_must c_take c_declare c_next c_Lookup c_fail x y nx dn=(paramsR_l0_t1 c_must c_take c_declare c_next c_Lookup c_fail x y (fun y=>some (.inl y)) (fun z=>some (.inr z))).bind fun r=>Sum.elim nx dn r:=by
 unfold paramsR_l0_t1
 repeat' first|exact n0|refine n1 fun _=>?_|refine n2 ?_ ?_|refine n3 (fun _=>?_) fun _=>?_|rfl
theorem paramsR_l0_r1(c_must c_take)(c_declare c_next)(c_Lookup c_fail)(x)(y)(lo:LoopT):loopK E5 (ft2 53 A_must R_must c_must (ftb 84 A_take R_take c_take (ft2 86 A_declare R_declare c_declare (ftb 22 A_next R_next c_next (ftb 87 A_Lookup R_Lookup c_Lookup (ftb 55 A_fail R_fail c_fail ca0)))))) lo 0 9 (bodyOf E5 56 0) (paramsR_l0_S x (.inr y)) (KCM [(0,9)] 4)=paramsR_l0_t1 (vf A_must c_must) (vf A_take c_take) (vf A_declare c_declare) (vf A_next c_next) (vf A_Lookup c_Lookup) (vf A_fail c_fail) x y (fun y=>lo 0 9 (bodyOf E5 56 0) (paramsR_l0_S x y) (KCM [(0,9)] 4)) (fun z=>some (.l (paramsR_l0_T x z).1 (paramsR_l0_T x z).2)):=by kernel_rfl
noncomputable def paramsR_l0(c_must:a_must→Option g_must)(c_take:a_take→Option g_take)(c_declare:a_declare→Option g_declare)(c_next:a_next→Option g_next)(c_Lookup:a_Lookup→Option g_Lookup)(c_fail:a_fail→Option g_fail)(q:Nat)(x:a_paramsR):paramsR_l0_a→Option paramsR_l0_g:=lpG (Sum.elim (fun y=>paramsR_l0_t0 c_must c_take c_declare c_next c_Lookup c_fail x y (fun y=>some (.inl y)) (fun z=>some (.inr z))) (fun y=>paramsR_l0_t1 c_must c_take c_declare c_next c_Lookup c_fail x y (fun y=>some (.inl y)) (fun z=>some (.inr z)))) q
theorem paramsR_l0_s(c_must)(h_must:Lw E5 53 A_must R_must c_must)(c_take)(h_take:Lw E5 84 A_take R_take c_take)(c_declare)(h_declare:Lw E5 86 A_declare R_declare c_declare)(c_next)(h_next:Lw E5 22 A_next R_next c_next)(c_Lookup)(h_Lookup:Lw E5 87 A_Lookup R_Lookup c_Lookup)(c_fail)(h_fail:Lw E5 55 A_fail R_fail c_fail)(q:Nat)(x:a_paramsR):Ll E5 (bodyOf E5 56 0) (paramsR_l0_S x) (paramsR_l0_T x) (paramsR_l0 c_must c_take c_declare c_next c_Lookup c_fail q x):=
 slp (fk2 h_must (fk h_take (fk2 h_declare (fk h_next (fk h_Lookup (fk h_fail ca0_sound)))))) hX5 (fun lo y=>by
  rcases y with y|y
  ·exact(paramsR_l0_r0 c_must c_take c_declare c_next c_Lookup c_fail x y lo).trans (by rw[v_must,v_take,v_declare,v_next,v_Lookup,v_fail];exact paramsR_l0_n0 _ _ _ _ _ _ _ _ _ _)
  ·exact(paramsR_l0_r1 c_must c_take c_declare c_next c_Lookup c_fail x y lo).trans (by rw[v_must,v_take,v_declare,v_next,v_Lookup,v_fail];exact paramsR_l0_n1 _ _ _ _ _ _ _ _ _ _)) (fun z=>by rcases z with z|z<;>kernel_rfl) q
def t_paramsR{β:Type}(c_must:a_must→Option g_must)(c_take:a_take→Option g_take)(c_declare:a_declare→Option g_declare)(c_next:a_next→Option g_next)(c_Lookup:a_Lookup→Option g_Lookup)(c_fail:a_fail→Option g_fail)(l_paramsR_l0:paramsR_l0_a→Option paramsR_l0_g)(x:a_paramsR)(dn:g_paramsR→Option β):Option β:=
 (c_must (⟨#[40]⟩,x)).bind fun z12=>Sum.elim (fun z12a=>(c_take (⟨#[41]⟩,z12a)).bind fun z25=>if z25.1=true then dn (.inl z25.2)else(l_paramsR_l0 (.inl (z25.2.2.2.1,z25.2.2.2.2.1,z25.2.2.2.2.2.1,z25.2.2.2.2.2.2.1,z25.2.2.2.2.2.2.2.1,z25.2.1,z25.2.2.1,z25.2.2.2.2.2.2.2.2.1,z25.2.2.2.2.2.2.2.2.2.2.1,z25.2.2.2.2.2.2.2.2.2.1,z25.2.2.2.2.2.2.2.2.2.2.2))).bind fun z918=>Sum.elim (fun z918a=>dn (.inr (.inr z918a))) (fun z918b=>(c_must (⟨#[41]⟩,z918b.2.2.2.2.2.1,z918b.2.2.2.2.2.2.1,z918b.1,z918b.2.1,z918b.2.2.1,z918b.2.2.2.1,z918b.2.2.2.2.1,z918b.2.2.2.2.2.2.2.1,z918b.2.2.2.2.2.2.2.2.2.1,z918b.2.2.2.2.2.2.2.2.1,z918b.2.2.2.2.2.2.2.2.2.2.1)).bind fun z932=>Sum.elim (fun z932a=>dn (.inr (.inl (z918b.2.2.2.2.2.2.2.2.2.2.2.2.2,z918b.2.2.2.2.2.2.2.2.2.2.2.1,z918b.2.2.2.2.2.2.2.2.2.2.2.2.1,z932a)))) (fun z932b=>dn (.inr (.inr z932b))) z932) z918) (fun z12b=>dn (.inr (.inr z12b))) z12
theorem n_paramsR{β:Type}(c_must c_take)(c_declare c_next)(c_Lookup c_fail)(l_paramsR_l0)(x)(dn:g_paramsR→Option β):t_paramsR c_must c_take c_declare c_next c_Lookup c_fail l_paramsR_l0 x dn=(t_paramsR c_must c_take c_declare c_next c_Lookup c_fail l_paramsR_l0 x some).bind dn:=by
 unfold t_paramsR
 repeat' first|exact n0|refine n1 fun _=>?_|refine n2 ?_ ?_|refine n3 (fun _=>?_) fun _=>?_|rfl
theorem r_paramsR(c_must c_take)(c_declare c_next)(c_Lookup c_fail)(l_paramsR_l0)(x):callK E5 (ft2 53 A_must R_must c_must (ftb 84 A_take R_take c_take (ft2 86 A_declare R_declare c_declare (ftb 22 A_next R_next c_next (ftb 87 A_Lookup R_Lookup c_Lookup (ftb 55 A_fail R_fail c_fail ca0)))))) (lt2 0 (fun _=>true) (bodyOf E5 56 0) (paramsR_l0_S x) (paramsR_l0_T x) l_paramsR_l0 lo0) 56 (A_paramsR x).1 (A_paramsR x).2 K=t_paramsR (vf A_must c_must) (vf A_take c_take) (vf A_declare c_declare) (vf A_next c_next) (vf A_Lookup c_Lookup) (vf A_fail c_fail) (lf (bodyOf E5 56 0) (paramsR_l0_S x) l_paramsR_l0) x (fun z=>some (.c (R_paramsR z))):=by kernel_rfl
noncomputable def paramsR(q:Nat)(x:a_paramsR):Option g_paramsR:=t_paramsR (must q) (take q) (declare q) (next q) (Lookup q) (fail q) (paramsR_l0 (must q) (take q) (declare q) (next q) (Lookup q) (fail q) q x) x some
theorem sc_paramsR(q:Nat):Lw E5 56 A_paramsR R_paramsR (paramsR q):=sof hW5 hX5 (fk2 (sc_must q) (fk (sc_take q) (fk2 (sc_declare q) (fk (sc_next q) (fk (sc_Lookup q) (fk (sc_fail q) ca0_sound)))))) (fun x=>(lk2 (paramsR_l0_s (must q) (sc_must q) (take q) (sc_take q) (declare q) (sc_declare q) (next q) (sc_next q) (Lookup q) (sc_Lookup q) (fail q) (sc_fail q) q x) lo0_sound)) fun x=>(r_paramsR (must q) (take q) (declare q) (next q) (Lookup q) (fail q) (paramsR_l0 (must q) (take q) (declare q) (next q) (Lookup q) (fail q) q x) x).trans (by rw[v_must,v_take,v_declare,v_next,v_Lookup,v_fail,paramsR_l0_u,n_paramsR]<;>rfl)
abbrev a_params:Type:=Int×Int×Nat×FI×FI×FS×FI×Nat×FS
abbrev g_params:Type:=(Nat×FS×FS×SP)⊕(Int×Int)
def A_params:AR a_params:=fun x=>([.ptr 0 0],[some (.blk [.ro 4 x.2.2.1 (fun j=>[i64 (x.2.2.2.1 j),i64 (x.2.2.2.2.1 j),st (x.2.2.2.2.2.1 j),i64 (x.2.2.2.2.2.2.1 j)]),i64 x.1,i64 x.2.1,nilS,.sl 1 1 0 x.2.2.2.2.2.2.2.1]),some (.row 9 1 x.2.2.2.2.2.2.2.1 (fun j=>[st (x.2.2.2.2.2.2.2.2 j)]))])
def d_params(t:TT):a_params:=((vI (cc t 0 1)),vI (cc t 0 2),vRoN (cc t 0 0),dTI (cc t 0 0) 0,dTI (cc t 0 0) 1,dTS (cc t 0 0) 2,dTI (cc t 0 0) 3,vSlN (cc t 0 4),dRS (co t 1) 0)
theorem v_params:VI A_params:=vd d_params fun _=>rfl
def R_params:g_params→CRes:=Sum.elim (fun z:Nat×FS×FS×SP=>.ret (.ro 2 z.1 (fun j=>[st (z.2.1 j),st (z.2.2.1 j)])) (hHP z.2.2.2)) (fun z:Int×Int=>.pan (.ifc 45 (.agg [i64 z.1,i64 z.2])))
def cv_params:g_paramsR→g_params:=Sum.elim (fun z=>.inl (0,fun _=>ByteArray.empty,fun _=>ByteArray.empty,z)) (Sum.elim (fun z=>.inl z) (fun z=>.inr z))
theorem cvs_params{args:List V}{L:List (Option Chunk)}(z:g_paramsR)(h:SC E5 56 args L (R_paramsR z)):SC E5 56 args L (R_params (cv_params z)):=by
 rcases z with z|z|z
 ·exact SC.le h Le.nil_ro
 ·have h2:=SC.giveM (L2:=[some (.blk [.ro 4 z.2.2.2.2.2.1 (fun j=>[i64 (z.2.2.2.2.2.2.1 j),i64 (z.2.2.2.2.2.2.2.1 j),st (z.2.2.2.2.2.2.2.2.1 j),i64 (z.2.2.2.2.2.2.2.2.2.1 j)]),i64 z.2.2.2.1,i64 z.2.2.2.2.1,.sl 1 1 0 z.2.2.2.2.2.2.2.2.2.2.1,.sl 2 1 0 z.2.2.2.2.2.2.2.2.2.2.2.2.1]),some (.row 9 1 z.2.2.2.2.2.2.2.2.2.2.1 (fun j=>[st (z.2.2.2.2.2.2.2.2.2.2.2.1 j)])),some (.row 9 1 z.2.2.2.2.2.2.2.2.2.2.2.2.1 (fun j=>[st (z.2.2.2.2.2.2.2.2.2.2.2.2.2 j)]))]) 3 h (by rfl) (by simp[V.bw,V.bw2,V.bw1,hp,V.pure,pureL])
  simp only[V.bw,V.bw2,V.bw1,hp,List.getD_eq_getElem?_getD,List.getElem?_cons_succ,List.getElem?_cons_zero,Option.getD_some,Nat.zero_add,Nat.le_refl,and_self,if_true]at h2
  exact h2
 ·exact h
noncomputable def params(q:Nat)(x:a_params):Option g_params:=(paramsR q (x.1,x.2.1,x.2.2.1,x.2.2.2.1,x.2.2.2.2.1,x.2.2.2.2.2.1,x.2.2.2.2.2.2.1,0,fun _=>ByteArray.empty,x.2.2.2.2.2.2.2)).map cv_params
theorem sc_params(q:Nat):Lw E5 56 A_params R_params (params q):=by
 intro x z h
 obtain⟨y,hy,rfl⟩:=Option.map_eq_some_iff.1 h
 have:=cvs_params y (sc_paramsR q _ y hy)
 refine SC.virtB 0 [.ro 4 x.2.2.1 (fun j=>[i64 (x.2.2.2.1 j),i64 (x.2.2.2.2.1 j),st (x.2.2.2.2.2.1 j),i64 (x.2.2.2.2.2.2.1 j)]),i64 x.1,i64 x.2.1,.sl 2 1 0 0,.sl 1 1 0 x.2.2.2.2.2.2.2.1] 9 1 (fun j=>[st ByteArray.empty]) (by decide) this rfl (fun β S w us b hb hd=>?_) (by show 1≤2;decide) (by show 1≤1;decide)
 simp only[denL]at hd⊢
 obtain⟨u1,r1,rfl,h1,u2,r2,rfl,h2,u3,r3,rfl,h3,u4,r4,rfl,h4,u5,r5,rfl,h5,rfl⟩:=hd
 exact⟨u1,_,rfl,h1,u2,_,rfl,h2,u3,_,rfl,h3,u4,_,rfl,nil_sl (by show 2<3;decide) hb h4,u5,_,rfl,h5,rfl⟩
abbrev a_procedure:Type:=SP
abbrev g_procedure:Type:=(ByteArray×Nat×FS×FS×Int×Int×ByteArray×Nat×FL×SP)⊕(Int×Int)
def A_procedure:AR a_procedure:=fun x=>([.ptr 0 0],(hHP x))
def d_procedure(t:TT):a_procedure:=(dHP t.2)
theorem v_procedure:VI A_procedure:=vd d_procedure fun _=>rfl
def R_procedure:g_procedure→CRes:=Sum.elim (fun z:ByteArray×Nat×FS×FS×Int×Int×ByteArray×Nat×FL×SP=>.ret (.agg [st z.1,.ro 2 z.2.1 (fun j=>[st (z.2.2.1 j),st (z.2.2.2.1 j)]),i64 z.2.2.2.2.1,i64 z.2.2.2.2.2.1,st z.2.2.2.2.2.2.1,.ro 4 z.2.2.2.2.2.2.2.1 z.2.2.2.2.2.2.2.2.1]) (hHP z.2.2.2.2.2.2.2.2.2)) (fun z:Int×Int=>.pan (.ifc 45 (.agg [i64 z.1,i64 z.2])))
abbrev procedure_l0_a:Type:=Nat×Int×Nat×FI×FI×FS×FI×Int×Int×Nat×FS×FS×ByteArray×Int
abbrev procedure_l0_g:Type:=(Int×Int)⊕(Nat×FI×FI×FS×FI×Int×Int×Nat×Nat×FS×FS×ByteArray)
def procedure_l0_S(x:a_procedure)(y:procedure_l0_a):St:={fr:=[V.ptr 0 0,V.junk,V.ptr 3 0,V.ptr 4 0]++jk 10++[V.sl 2 1 0 y.1,i64 y.2.1,i64 y.2.2.2.2.2.2.2.2.2.2.2.2.2]++jk 38,H:=hp [some (Chunk.blk [V.ro 4 y.2.2.1 fun j=>[i64 (y.2.2.2.1 j),i64 (y.2.2.2.2.1 j),st (y.2.2.2.2.2.1 j),i64 (y.2.2.2.2.2.2.1 j)],i64 y.2.2.2.2.2.2.2.1,i64 y.2.2.2.2.2.2.2.2.1,V.sl 1 1 0 y.2.2.2.2.2.2.2.2.2.1,V.sl 2 1 0 y.1]),some (Chunk.row 9 1 y.2.2.2.2.2.2.2.2.2.1 fun j=>[st (y.2.2.2.2.2.2.2.2.2.2.1 j)]),some (Chunk.row 9 1 y.1 fun j=>[st (y.2.2.2.2.2.2.2.2.2.2.2.1 j)]),some (Chunk.blk [st ⟨#[]⟩,nilS,i64 0,i64 0,st ⟨#[]⟩,nilS]),some (Chunk.blk [st y.2.2.2.2.2.2.2.2.2.2.2.2.1,nilS,i64 0,i64 0,st ⟨#[]⟩,nilS])],nx:=5,rt:=1,me:=23}
def procedure_l0_d(s:St):procedure_l0_a:=((vSlN (s.fr.getD 14 .junk)),vI (s.fr.getD 15 .junk),vRoN (cb s 0 0),dTI (cb s 0 0) 0,dTI (cb s 0 0) 1,dTS (cb s 0 0) 2,dTI (cb s 0 0) 3,vI (cb s 0 1),vI (cb s 0 2),vSlN (cb s 0 3),dRS (s.H 1) 0,dRS (s.H 2) 0,vS (cb s 4 0),vI (s.fr.getD 16 .junk))
theorem procedure_l0_u(x:a_procedure):VL (procedure_l0_S x):=vl procedure_l0_d fun _=>rfl
def procedure_l0_T(x:a_procedure):procedure_l0_g→Ex×St:=(Sum.elim (fun z=>(Ex.panic (V.ifc 45 (V.agg [i64 z.1,i64 z.2])),{fr:=[V.junk]++jk 54,H:=hp [none],nx:=1,rt:=1,me:=23})) (fun z=>(Ex.exit 0,{fr:=[V.ptr 0 0,V.junk,V.ptr 3 0,V.ptr 4 0]++jk 51,H:=hp [some (hPB z),some (hPV z),some (hPQ z),some (Chunk.blk [st ⟨#[]⟩,nilS,i64 0,i64 0,st ⟨#[]⟩,nilS]),some (Chunk.blk [st z.2.2.2.2.2.2.2.2.2.2.2,nilS,i64 0,i64 0,st ⟨#[]⟩,nilS])],nx:=5,rt:=1,me:=23})))
def procedure_l0_t{β:Type}(c_must:a_must→Option g_must)(c_name:a_name→Option g_name)(c_fail:a_fail→Option g_fail)(c_params:a_params→Option g_params)(c_block:a_block→Option g_block)(x:a_procedure)(y:procedure_l0_a)(nx:procedure_l0_a→Option β)(dn:procedure_l0_g→Option β):Option β:=
 if decide (y.2.2.2.2.2.2.2.2.2.2.2.2.2<y.2.1)=true then if 0≤y.2.2.2.2.2.2.2.2.2.2.2.2.2∧y.2.2.2.2.2.2.2.2.2.2.2.2.2< ((y.1:Nat):Int)then if 0+Int.toNat y.2.2.2.2.2.2.2.2.2.2.2.2.2<y.1∧1=1 then if(ByteArray.toList (y.2.2.2.2.2.2.2.2.2.2.2.1 (0+Int.toNat y.2.2.2.2.2.2.2.2.2.2.2.2.2))==y.2.2.2.2.2.2.2.2.2.2.2.2.1.toList)=true then(c_fail (4,w (y.2.2.2.2.2.2.2.1-1),y.2.2.2.2.2.2.2.2.1,y.2.2.1,y.2.2.2.1,y.2.2.2.2.1,y.2.2.2.2.2.1,y.2.2.2.2.2.2.1,y.2.2.2.2.2.2.2.2.2.1,y.2.2.2.2.2.2.2.2.2.2.1,y.1,y.2.2.2.2.2.2.2.2.2.2.2.1)).bind fun z195=>dn (.inl z195)else nx (y.1,y.2.1,y.2.2.1,y.2.2.2.1,y.2.2.2.2.1,y.2.2.2.2.2.1,y.2.2.2.2.2.2.1,y.2.2.2.2.2.2.2.1,y.2.2.2.2.2.2.2.2.1,y.2.2.2.2.2.2.2.2.2.1,y.2.2.2.2.2.2.2.2.2.2.1,y.2.2.2.2.2.2.2.2.2.2.2.1,y.2.2.2.2.2.2.2.2.2.2.2.2.1,w (y.2.2.2.2.2.2.2.2.2.2.2.2.2+1))else none else none else dn (.inr (y.2.2.1,y.2.2.2.1,y.2.2.2.2.1,y.2.2.2.2.2.1,y.2.2.2.2.2.2.1,y.2.2.2.2.2.2.2.1,y.2.2.2.2.2.2.2.2.1,y.2.2.2.2.2.2.2.2.2.1,y.1,y.2.2.2.2.2.2.2.2.2.2.1,y.2.2.2.2.2.2.2.2.2.2.2.1,y.2.2.2.2.2.2.2.2.2.2.2.2.1))
theorem procedure_l0_n{β:Type}(c_must c_name)(c_fail c_params c_block)(x)(y)(nx:procedure_l0_a→Option β)(dn):procedure_l0_t c_must c_name c_fail c_params c_block x y nx dn=(procedure_l0_t c_must c_name c_fail c_params c_block x y (fun y=>some (.inl y)) (fun z=>some (.inr z))).bind fun r=>Sum.elim nx dn r:=by
 unfold procedure_l0_t
 repeat' first|exact n0|refine n1 fun _=>?_|refine n2 ?_ ?_|refine n3 (fun _=>?_) fun _=>?_|rfl
theorem procedure_l0_r(c_must c_name)(c_fail c_params c_block)(x)(y)(lo:LoopT):loopK E5 (ft2 53 A_must R_must c_must (ft2 54 A_name R_name c_name (ftb 55 A_fail R_fail c_fail (fg2 56 (fun _ L=>L.length==2) A_params R_params c_params (ft2 57 A_block R_block c_block ca0))))) lo 0 114701 (bodyOf E5 23 0) (procedure_l0_S x y) (KCM [(0,13)] 4)=procedure_l0_t (vf A_must c_must) (vf A_name c_name) (vf A_fail c_fail) (vf A_params c_params) (vf A_block c_block) x y (fun y=>lo 0 114701 (bodyOf E5 23 0) (procedure_l0_S x y) (KCM [(0,13)] 4)) (fun z=>some (.l (procedure_l0_T x z).1 (procedure_l0_T x z).2)):=by kernel_rfl
noncomputable def procedure_l0(c_must:a_must→Option g_must)(c_name:a_name→Option g_name)(c_fail:a_fail→Option g_fail)(c_params:a_params→Option g_params)(c_block:a_block→Option g_block)(q:Nat)(x:a_procedure):procedure_l0_a→Option procedure_l0_g:=lpG (fun y=>procedure_l0_t c_must c_name c_fail c_params c_block x y (fun y=>some (.inl y)) (fun z=>some (.inr z))) q
theorem procedure_l0_s(c_must)(h_must:Lw E5 53 A_must R_must c_must)(c_name)(h_name:Lw E5 54 A_name R_name c_name)(c_fail)(h_fail:Lw E5 55 A_fail R_fail c_fail)(c_params)(h_params:Lw E5 56 A_params R_params c_params)(c_block)(h_block:Lw E5 57 A_block R_block c_block)(q:Nat)(x:a_procedure):Ll E5 (bodyOf E5 23 0) (procedure_l0_S x) (procedure_l0_T x) (procedure_l0 c_must c_name c_fail c_params c_block q x):=
 slp (fk2 h_must (fk2 h_name (fk h_fail (fk2 h_params (fk2 h_block ca0_sound))))) hX5 (fun lo y=>(procedure_l0_r c_must c_name c_fail c_params c_block x y lo).trans (by rw[v_must,v_name,v_fail,v_params,v_block];exact procedure_l0_n _ _ _ _ _ _ _ _ _)) (fun z=>by rcases z with z|z<;>kernel_rfl) q
def t_procedure{β:Type}(c_must:a_must→Option g_must)(c_name:a_name→Option g_name)(c_fail:a_fail→Option g_fail)(c_params:a_params→Option g_params)(c_block:a_block→Option g_block)(l_procedure_l0:procedure_l0_a→Option procedure_l0_g)(x:a_procedure)(dn:g_procedure→Option β):Option β:=
 (c_must (⟨#[112,114,111,99,101,100,117,114,101]⟩,x)).bind fun z12=>Sum.elim (fun z12a=>(c_name z12a).bind fun z24=>Sum.elim (fun z24a=>(l_procedure_l0 (z24a.2.2.2.2.2.2.2.2.2.2.1,((z24a.2.2.2.2.2.2.2.2.2.2.1:Nat):Int),z24a.2.2.2.1,z24a.2.2.2.2.1,z24a.2.2.2.2.2.1,z24a.2.2.2.2.2.2.1,z24a.2.2.2.2.2.2.2.1,z24a.2.1,z24a.2.2.1,z24a.2.2.2.2.2.2.2.2.1,z24a.2.2.2.2.2.2.2.2.2.1,z24a.2.2.2.2.2.2.2.2.2.2.2,z24a.1,0)).bind fun z121=>Sum.elim (fun z121a=>dn (.inr z121a)) (fun z121b=>if(z121b.2.2.2.2.2.2.2.2.1+1)*16≤roomBound∧z121b.2.2.2.2.2.2.2.2.1+1≤maxLen∧z121b.2.2.2.2.2.2.2.2.1≤z121b.2.2.2.2.2.2.2.2.1 then(c_params (z121b.2.2.2.2.2.1,z121b.2.2.2.2.2.2.1,z121b.1,z121b.2.1,z121b.2.2.1,z121b.2.2.2.1,z121b.2.2.2.2.1,z121b.2.2.2.2.2.2.2.2.1+1,fun j=>if j<z121b.2.2.2.2.2.2.2.2.1 then z121b.2.2.2.2.2.2.2.2.2.2.1 j else z121b.2.2.2.2.2.2.2.2.2.2.2)).bind fun z132=>Sum.elim (fun z132a=>(c_block z132a.2.2.2).bind fun z144=>Sum.elim (fun z144a=>dn (.inl (z121b.2.2.2.2.2.2.2.2.2.2.2,z132a.1,z132a.2.1,z132a.2.2.1,z144a))) (fun z144b=>dn (.inr z144b)) z144) (fun z132b=>dn (.inr z132b)) z132 else none) z121) (fun z24b=>dn (.inr z24b)) z24) (fun z12b=>dn (.inr z12b)) z12
theorem n_procedure{β:Type}(c_must c_name)(c_fail c_params c_block)(l_procedure_l0)(x)(dn:g_procedure→Option β):t_procedure c_must c_name c_fail c_params c_block l_procedure_l0 x dn=(t_procedure c_must c_name c_fail c_params c_block l_procedure_l0 x some).bind dn:=by
 unfold t_procedure
 repeat' first|exact n0|refine n1 fun _=>?_|refine n2 ?_ ?_|refine n3 (fun _=>?_) fun _=>?_|rfl
theorem r_procedure(c_must c_name)(c_fail c_params c_block)(l_procedure_l0)(x):callK E5 (ft2 53 A_must R_must c_must (ft2 54 A_name R_name c_name (ftb 55 A_fail R_fail c_fail (fg2 56 (fun _ L=>L.length==2) A_params R_params c_params (ft2 57 A_block R_block c_block ca0))))) (lt2 0 (fun _=>true) (bodyOf E5 23 0) (procedure_l0_S x) (procedure_l0_T x) l_procedure_l0 lo0) 23 (A_procedure x).1 (A_procedure x).2 K=t_procedure (vf A_must c_must) (vf A_name c_name) (vf A_fail c_fail) (vf A_params c_params) (vf A_block c_block) (lf (bodyOf E5 23 0) (procedure_l0_S x) l_procedure_l0) x (fun z=>some (.c (R_procedure z))):=by kernel_rfl
noncomputable def procedure(q:Nat)(x:a_procedure):Option g_procedure:=t_procedure (must q) (name q) (fail q) (params q) (block q) (procedure_l0 (must q) (name q) (fail q) (params q) (block q) q x) x some
theorem sc_procedure(q:Nat):Lw E5 23 A_procedure R_procedure (procedure q):=sof hW5 hX5 (fk2 (sc_must q) (fk2 (sc_name q) (fk (sc_fail q) (fk2 (sc_params q) (fk2 (sc_block q) ca0_sound))))) (fun x=>(lk2 (procedure_l0_s (must q) (sc_must q) (name q) (sc_name q) (fail q) (sc_fail q) (params q) (sc_params q) (block q) (sc_block q) q x) lo0_sound)) fun x=>(r_procedure (must q) (name q) (fail q) (params q) (block q) (procedure_l0 (must q) (name q) (fail q) (params q) (block q) q x) x).trans (by rw[v_must,v_name,v_fail,v_params,v_block,procedure_l0_u,n_procedure]<;>rfl)
abbrev a_procedureZ:Type:=Int×Int×Nat×FI×FI×FS×FI
abbrev g_procedureZ:Type:=(ByteArray×Nat×FS×FS×Int×Int×ByteArray×Nat×FL×SP)⊕(Int×Int)
def A_procedureZ:AR a_procedureZ:=fun x=>([.ptr 0 0],[some (.blk [.ro 4 x.2.2.1 (fun j=>[i64 (x.2.2.2.1 j),i64 (x.2.2.2.2.1 j),st (x.2.2.2.2.2.1 j),i64 (x.2.2.2.2.2.2 j)]),i64 x.1,i64 x.2.1,nilS,nilS])])
def d_procedureZ(t:TT):a_procedureZ:=((vI (cc t 0 1)),vI (cc t 0 2),vRoN (cc t 0 0),dTI (cc t 0 0) 0,dTI (cc t 0 0) 1,dTS (cc t 0 0) 2,dTI (cc t 0 0) 3)
theorem v_procedureZ:VI A_procedureZ:=vd d_procedureZ fun _=>rfl
def R_procedureZ:g_procedureZ→CRes:=Sum.elim (fun z:ByteArray×Nat×FS×FS×Int×Int×ByteArray×Nat×FL×SP=>.ret (.agg [st z.1,.ro 2 z.2.1 (fun j=>[st (z.2.2.1 j),st (z.2.2.2.1 j)]),i64 z.2.2.2.2.1,i64 z.2.2.2.2.2.1,st z.2.2.2.2.2.2.1,.ro 4 z.2.2.2.2.2.2.2.1 z.2.2.2.2.2.2.2.2.1]) (hHP z.2.2.2.2.2.2.2.2.2)) (fun z:Int×Int=>.pan (.ifc 45 (.agg [i64 z.1,i64 z.2])))
noncomputable def procedureZ(q:Nat)(x:a_procedureZ):Option g_procedureZ:=procedure q (x.1,x.2.1,x.2.2.1,x.2.2.2.1,x.2.2.2.2.1,x.2.2.2.2.2.1,x.2.2.2.2.2.2,0,fun _=>ByteArray.empty,0,fun _=>ByteArray.empty)
theorem sc_procedureZ(q:Nat):Lw E5 23 A_procedureZ R_procedureZ (procedureZ q):=by
 intro x z h
 have this:=sc_procedure q _ z h
 refine SC.virtB 0 [.ro 4 x.2.2.1 (fun j=>[i64 (x.2.2.2.1 j),i64 (x.2.2.2.2.1 j),st (x.2.2.2.2.2.1 j),i64 (x.2.2.2.2.2.2 j)]),i64 x.1,i64 x.2.1,.sl 1 1 0 0,nilS] 9 1 (fun j=>[st ByteArray.empty]) (by decide) (cr:=R_procedureZ z) (SC.virtB 0 [.ro 4 x.2.2.1 (fun j=>[i64 (x.2.2.2.1 j),i64 (x.2.2.2.2.1 j),st (x.2.2.2.2.2.1 j),i64 (x.2.2.2.2.2.2 j)]),i64 x.1,i64 x.2.1,.sl 1 1 0 0,.sl 2 1 0 0] 9 1 (fun j=>[st ByteArray.empty]) (by decide) this rfl (fun β S w us b hb hd=>?_) (by show 1≤2;decide) (by show 1≤1;decide)) rfl (fun β S w us b hb hd=>?_) (by show 1≤1;decide) (by show 1≤1;decide)
 all_goals
  simp only[denL]at hd⊢
  obtain⟨u1,r1,rfl,h1,u2,r2,rfl,h2,u3,r3,rfl,h3,u4,r4,rfl,h4,u5,r5,rfl,h5,rfl⟩:=hd
 ·exact⟨u1,_,rfl,h1,u2,_,rfl,h2,u3,_,rfl,h3,u4,_,rfl,h4,u5,_,rfl,nil_sl (by show 2<3;decide) hb h5,rfl⟩
 ·exact⟨u1,_,rfl,h1,u2,_,rfl,h2,u3,_,rfl,h3,u4,_,rfl,nil_sl (by show 1<2;decide) hb h4,u5,_,rfl,h5,rfl⟩
end Go.Proofs.YtjfkkokeegpeiaaGreatDoor
/- Statements without blocks are read as the plain parser reads them. -/
namespace Go.Proofs.YtjfkkokeegpeiaaGreatDoor
open Go Go.Am Go.Proofs.Lx
set_option maxRecDepth 100000
theorem PR.bind_assoc{α β γ:Type}(r:PR α)(f:α→PS→PR β)(g:β→PS→PR γ):(r.bind f).bind g=r.bind fun a s=>(f a s).bind g:=by cases r<;>rfl
section
variable (T:Nat→Tkn)
def letQ(f:Nat)(s:PS):PR Tr:=(declP T s).bind fun a s1=>(mustP T sSet s1).bind fun _ s2=>(exprP T f 1 s2).bind fun n s3=>.ok (.node 1 0 a [n]) s3
def asgQ(f:Nat)(s:PS):PR Tr:=(nameP T s).bind fun a s1=>(mustP T sSet s1).bind fun _ s2=>(exprP T f 1 s2).bind fun n s3=>.ok (.node 2 0 a [n]) s3
def awaitQ(f:Nat)(s:PS):PR Tr:=(exprP T f 1 s).bind fun c s1=>(mustP T w_within s1).bind fun _ s2=>(litP T s2).bind fun n s3=>.ok (.node 6 0 ⟨#[]⟩ [c,n]) s3
def amtQ(k:Int)(s:PS):PR Tr:=(litP T s).bind fun n s2=>.ok (.node k 0 ⟨#[]⟩ [n]) s2
def sglQ(f:Nat)(k:Int)(s:PS):PR Tr:=(exprP T f 1 s).bind fun n s2=>.ok (.node k 0 ⟨#[]⟩ [n]) s2
def nmbQ(k hi:Int)(s:PS):PR Tr:=(numP T 0 hi s).bind fun n s1=>.ok (.node k n ⟨#[]⟩ []) s1
def useQ(k:Int)(b:ByteArray)(s:PS):PR Tr:=(numP T 0 7 s).bind fun n s1=>(mustP T b s1).bind fun _ s2=>(litP T s2).bind fun m s3=>.ok (.node k n ⟨#[]⟩ [m]) s3
end
theorem let_eq(T:Nat→Tkn)(f:Nat)(s:PS):((declP T s).bind fun x s1=>setP T f 1 x s1)=(letQ T f s).bind (Lx.endP T):=by
 simp only[letQ,setP,PR.bind_assoc];rfl
theorem asg_eq(T:Nat→Tkn)(f:Nat)(s:PS):((nameP T s).bind fun x s1=>setP T f 2 x s1)=(asgQ T f s).bind (Lx.endP T):=by
 simp only[asgQ,setP,PR.bind_assoc];rfl
theorem await_eq(T:Nat→Tkn)(f:Nat)(s:PS):awaitP T f s=(awaitQ T f s).bind (Lx.endP T):=by
 simp only[awaitQ,awaitP,PR.bind_assoc];rfl
theorem amt_eq(T:Nat→Tkn)(k:Int)(s:PS):amtP T k s=(amtQ T k s).bind (Lx.endP T):=by
 simp only[amtQ,amtP,PR.bind_assoc];rfl
theorem sgl_eq(T:Nat→Tkn)(f:Nat)(k:Int)(s:PS):oneP T f k s=(sglQ T f k s).bind (Lx.endP T):=by
 simp only[sglQ,oneP,PR.bind_assoc];rfl
theorem nmb_eq(T:Nat→Tkn)(k hi:Int)(s:PS):nmbP T k hi s=(nmbQ T k hi s).bind (Lx.endP T):=by
 simp only[nmbQ,nmbP,PR.bind_assoc];rfl
theorem use_eq(T:Nat→Tkn)(k:Int)(b:ByteArray)(s:PS):useP T k b s=(useQ T k b s).bind (Lx.endP T):=by
 simp only[useQ,useP,PR.bind_assoc];rfl
section
variable {N:Nat} {T:Nat→Tkn} {pr:List ByteArray} {s:PS} {x:StT}
theorem assign_rs(hT:TokN N T){f q:Nat}(hE:HE N T pr f q)(h:RS N T pr s x)(ho:asgQ T f s≠ .out):Rs (assign q x) (PN N T pr (asgQ T f s)):=by
 unfold assign
 refine Rs.map (P:=fun y=>PN N T pr (asgQ T f s) (cv_assign y)) ?_ fun z hz=>hz
 unfold assignR t_assignR
 have hop:asgQ T f s=(nameP T s).bind fun a s1=>(mustP T sSet s1).bind fun _ s2=>(exprP T f 1 s2).bind fun n s3=>.ok (.node 2 0 a [n]) s3:=rfl
 refine PX.bind (name_rs hT q h) (fun a s1 x1 e1 g1=>?_) (fun p c e hp=>?_)
 ·rw[e1]at hop
  dsimp only[PR.bind]at hop
  refine PU.bind (must_rs hT q g1 sSet (by decide)) (fun s2 x2 e2 g2=>?_) (fun p c e hp=>?_)
  ·rw[e2]at hop
   dsimp only[PR.bind]at hop
   refine PN.bind (hE f (Nat.le_refl _) 1 (by decide) (by decide) s2 x2 g2 (PR.bind_out (hop▸ho))) (fun t s3 k n b m c x3 e hr hx=>?_) (fun p c e hp=>?_)
   ·rw[hop,e];exact Rs.some ⟨RepN.k1 hr,hx⟩
   ·(rw[hop,e];exact Rs.some ⟨hp,rfl⟩)
  ·(rw[hop,e];exact Rs.some ⟨hp,rfl⟩)
 ·(rw[hop,e];exact Rs.some ⟨hp,rfl⟩)
theorem let_rs(hT:TokN N T){f q:Nat}(hq:20≤q)(hE:HE N T pr f q)(h:RS N T pr s x)(hne:(T s.p).t≠⟨#[]⟩∨(T s.p).k≠0)(ho:letQ T f (adv s)≠ .out):Rs (letS q x) (PN N T pr (letQ T f (adv s))):=by
 unfold letS
 refine Rs.map (P:=fun y=>PN N T pr (letQ T f (adv s)) (cv_letS y)) ?_ fun z hz=>hz
 unfold letSR t_letSR
 have hop:letQ T f (adv s)=(declP T (adv s)).bind fun a s1=>(mustP T sSet s1).bind fun _ s2=>(exprP T f 1 s2).bind fun n s3=>.ok (.node 1 0 a [n]) s3:=rfl
 refine PX.bind (declare_rs hT q hq (h.adv hT hne)) (fun a s1 x1 e1 g1=>?_) (fun p c e hp=>?_)
 ·rw[e1]at hop
  dsimp only[PR.bind]at hop
  refine PU.bind (must_rs hT q g1 sSet (by decide)) (fun s2 x2 e2 g2=>?_) (fun p c e hp=>?_)
  ·rw[e2]at hop
   dsimp only[PR.bind]at hop
   refine PN.bind (hE f (Nat.le_refl _) 1 (by decide) (by decide) s2 x2 g2 (PR.bind_out (hop▸ho))) (fun t s3 k n b m c x3 e hr hx=>?_) (fun p c e hp=>?_)
   ·rw[hop,e];exact Rs.some ⟨RepN.k1 hr,hx⟩
   ·(rw[hop,e];exact Rs.some ⟨hp,rfl⟩)
  ·(rw[hop,e];exact Rs.some ⟨hp,rfl⟩)
 ·(rw[hop,e];exact Rs.some ⟨hp,rfl⟩)
theorem RepN.two{k n:Int}{s:ByteArray}{ta tb:Tr}{a b:NodeT}(ha:RepN ta a)(hb:RepN tb b):RepN (.node k n s [ta,tb]) (k,n,s,2,fun j=>[i64 (if j<1 then a.1 else b.1),i64 (if j<1 then a.2.1 else b.2.1),st (if j<1 then a.2.2.1 else b.2.2.1),.ro 4 (if j<1 then a.2.2.2.1 else b.2.2.2.1) fun i=>if j<1 then a.2.2.2.2 i else b.2.2.2.2 i]):=by
 simp only[RepN,RepL,List.length_cons,List.length_nil]
 exact⟨trivial,trivial,trivial,trivial,⟨a,rfl,ha⟩,⟨b,rfl,hb⟩,trivial⟩
theorem await_rs(hT:TokN N T){f q:Nat}(hE:HE N T pr f q)(h:RS N T pr s x)(hne:(T s.p).t≠⟨#[]⟩∨(T s.p).k≠0)(ho:awaitQ T f (adv s)≠ .out):Rs (await q x) (PN N T pr (awaitQ T f (adv s))):=by
 unfold await
 refine Rs.map (P:=fun y=>PN N T pr (awaitQ T f (adv s)) (cv_await y)) ?_ fun z hz=>hz
 unfold awaitR t_awaitR
 have hop:awaitQ T f (adv s)=(exprP T f 1 (adv s)).bind fun c s1=>(mustP T w_within s1).bind fun _ s2=>(litP T s2).bind fun n s3=>.ok (.node 6 0 ⟨#[]⟩ [c,n]) s3:=rfl
 refine PN.bind (hE f (Nat.le_refl _) 1 (by decide) (by decide) (adv s) _ (h.adv hT hne) (PR.bind_out ho)) (fun t s1 k n b m c x1 e1 hr1 g1=>?_) (fun p c e hp=>?_)
 ·rw[e1]at hop
  dsimp only[PR.bind]at hop
  refine PU.bind (must_rs hT q g1 w_within (by decide)) (fun s2 x2 e2 g2=>?_) (fun p c e hp=>?_)
  ·rw[e2]at hop
   dsimp only[PR.bind]at hop
   refine PN.bind (literal_rs hT q g2) (fun t2 s3 k2 n2 b2 m2 c2 x3 e hr hx=>?_) (fun p c e hp=>?_)
   ·rw[hop,e];exact Rs.some ⟨RepN.two hr1 hr,hx⟩
   ·(rw[hop,e];exact Rs.some ⟨hp,rfl⟩)
  ·(rw[hop,e];exact Rs.some ⟨hp,rfl⟩)
 ·(rw[hop,e];exact Rs.some ⟨hp,rfl⟩)
theorem amount_rs(hT:TokN N T)(q:Nat)(h:RS N T pr s x)(hne:(T s.p).t≠⟨#[]⟩∨(T s.p).k≠0):Rs (amount q x) (PN N T pr (amtQ T (if isP T w_keep s=true then 11 else 5) (adv s))):=by
 unfold amount
 refine Rs.map (P:=fun y=>PN N T pr (amtQ T (if isP T w_keep s=true then 11 else 5) (adv s)) (cv_amount y)) ?_ fun z hz=>hz
 unfold amountR t_amountR
 rw[is_eq q h]
 dsimp only[Option.bind_some]
 by_cases hi:isP T w_keep s=true
 ·refine Rs.pos hi ?_
  rw[if_pos hi]
  have hop:amtQ T 11 (adv s)=(litP T (adv s)).bind fun n s2=>.ok (.node 11 0 ⟨#[]⟩ [n]) s2:=rfl
  refine PN.bind (literal_rs hT q (h.adv hT hne)) (fun t2 s3 k2 n2 b2 m2 c2 x3 e hr hx=>?_) (fun p c e hp=>?_)
  ·rw[hop,e];exact Rs.some ⟨RepN.k1 hr,hx⟩
  ·(rw[hop,e];exact Rs.some ⟨hp,rfl⟩)
 ·refine Rs.neg hi ?_
  rw[if_neg hi]
  have hop:amtQ T 5 (adv s)=(litP T (adv s)).bind fun n s2=>.ok (.node 5 0 ⟨#[]⟩ [n]) s2:=rfl
  refine PN.bind (literal_rs hT q (h.adv hT hne)) (fun t2 s3 k2 n2 b2 m2 c2 x3 e hr hx=>?_) (fun p c e hp=>?_)
  ·rw[hop,e];exact Rs.some ⟨RepN.k1 hr,hx⟩
  ·(rw[hop,e];exact Rs.some ⟨hp,rfl⟩)
theorem single_rs(hT:TokN N T){f q:Nat}(hE:HE N T pr f q)(h:RS N T pr s x)(hne:(T s.p).t≠⟨#[]⟩∨(T s.p).k≠0)(ho:exprP T f 1 (adv s)≠ .out):Rs (single q x) (PN N T pr (sglQ T f (if isP T w_point s=true then 8 else 7) (adv s))):=by
 unfold single
 refine Rs.map (P:=fun y=>PN N T pr (sglQ T f (if isP T w_point s=true then 8 else 7) (adv s)) (cv_single y)) ?_ fun z hz=>hz
 unfold singleR t_singleR
 rw[is_eq q h]
 dsimp only[Option.bind_some]
 by_cases hi:isP T w_point s=true
 ·refine Rs.pos hi ?_
  rw[if_pos hi]
  have hop:sglQ T f 8 (adv s)=(exprP T f 1 (adv s)).bind fun n s2=>.ok (.node 8 0 ⟨#[]⟩ [n]) s2:=rfl
  refine PN.bind (hE f (Nat.le_refl _) 1 (by decide) (by decide) (adv s) _ (h.adv hT hne) ho) (fun t2 s3 k2 n2 b2 m2 c2 x3 e hr hx=>?_) (fun p c e hp=>?_)
  ·rw[hop,e];exact Rs.some ⟨RepN.k1 hr,hx⟩
  ·(rw[hop,e];exact Rs.some ⟨hp,rfl⟩)
 ·refine Rs.neg hi ?_
  rw[if_neg hi]
  have hop:sglQ T f 7 (adv s)=(exprP T f 1 (adv s)).bind fun n s2=>.ok (.node 7 0 ⟨#[]⟩ [n]) s2:=rfl
  refine PN.bind (hE f (Nat.le_refl _) 1 (by decide) (by decide) (adv s) _ (h.adv hT hne) ho) (fun t2 s3 k2 n2 b2 m2 c2 x3 e hr hx=>?_) (fun p c e hp=>?_)
  ·rw[hop,e];exact Rs.some ⟨RepN.k1 hr,hx⟩
  ·(rw[hop,e];exact Rs.some ⟨hp,rfl⟩)
def numbQ(T:Nat→Tkn)(s:PS):PR Tr:=if isP T w_emit s=true then nmbQ T 12 99 (adv s)else if isP T w_abort s=true then nmbQ T 13 999 (adv s)else if isP T w_use s=true then useQ T 9 w_for (adv s)else useQ T 10 sComma (adv s)
theorem use_rs(hT:TokN N T)(q:Nat)(h:RS N T pr s x)(hne:(T s.p).t≠⟨#[]⟩∨(T s.p).k≠0)(kd:Int)(bb:ByteArray)(hb:bb≠⟨#[]⟩):
 Rs ((number q (0,7,w (x.1+1),x.2)).bind fun z=>Sum.elim (fun za=>(must q (bb,za.2)).bind fun y=>Sum.elim (fun ya=>(literal q ya).bind fun v=>Sum.elim (fun va=>(some (.inr (.inl (kd,za.1,(⟨#[]⟩:ByteArray),va))):Option g_numberedR)) (fun vb=>some (.inr (.inr vb))) v) (fun yb=>some (.inr (.inr yb))) y) (fun zb=>some (.inr (.inr zb))) z) (fun y=>PN N T pr (useQ T kd bb (adv s)) (cv_numbered y)):=by
 have hop:useQ T kd bb (adv s)=(numP T 0 7 (adv s)).bind fun n s1=>(mustP T bb s1).bind fun _ s2=>(litP T s2).bind fun m s3=>.ok (.node kd n ⟨#[]⟩ [m]) s3:=rfl
 refine PX.bind (number_rs hT q (h.adv hT hne) 0 7) (fun a s1 x1 e1 g1=>?_) (fun p c e hp=>?_)
 ·rw[e1]at hop
  dsimp only[PR.bind]at hop
  refine PU.bind (must_rs hT q g1 bb hb) (fun s2 x2 e2 g2=>?_) (fun p c e hp=>?_)
  ·rw[e2]at hop
   dsimp only[PR.bind]at hop
   refine PN.bind (literal_rs hT q g2) (fun t2 s3 k2 n2 b2 m2 c2 x3 e hr hx=>?_) (fun p c e hp=>?_)
   ·rw[hop,e];exact Rs.some ⟨RepN.k1 hr,hx⟩
   ·(rw[hop,e];exact Rs.some ⟨hp,rfl⟩)
  ·(rw[hop,e];exact Rs.some ⟨hp,rfl⟩)
 ·(rw[hop,e];exact Rs.some ⟨hp,rfl⟩)
theorem nmb_rs(hT:TokN N T)(q:Nat)(h:RS N T pr s x)(hne:(T s.p).t≠⟨#[]⟩∨(T s.p).k≠0)(kd hi:Int):
 Rs ((number q (0,hi,w (x.1+1),x.2)).bind fun z=>Sum.elim (fun za=>(some (.inl (kd,za.1,(⟨#[]⟩:ByteArray),za.2)):Option g_numberedR)) (fun zb=>some (.inr (.inr zb))) z) (fun y=>PN N T pr (nmbQ T kd hi (adv s)) (cv_numbered y)):=by
 have hop:nmbQ T kd hi (adv s)=(numP T 0 hi (adv s)).bind fun n s1=>.ok (.node kd n ⟨#[]⟩ []) s1:=rfl
 refine PX.bind (number_rs hT q (h.adv hT hne) 0 hi) (fun a s1 x1 e1 g1=>?_) (fun p c e hp=>?_)
 ·rw[hop,e1]
  exact Rs.some ⟨RepN.leaf,g1⟩
 ·(rw[hop,e];exact Rs.some ⟨hp,rfl⟩)
theorem numbered_rs(hT:TokN N T)(q:Nat)(h:RS N T pr s x)(hne:(T s.p).t≠⟨#[]⟩∨(T s.p).k≠0):Rs (numbered q x) (PN N T pr (numbQ T s)):=by
 unfold numbered
 refine Rs.map (P:=fun y=>PN N T pr (numbQ T s) (cv_numbered y)) ?_ fun z hz=>hz
 unfold numberedR t_numberedR numbQ
 rw[next_eq q h]
 dsimp only[Option.bind_some]
 rw[tl_dec,tl_dec,tl_dec]
 by_cases h1:isP T w_emit s=true
 ·rw[if_pos h1]
  exact Rs.pos h1 (nmb_rs hT q h hne 12 99)
 ·rw[if_neg h1]
  refine Rs.neg h1 ?_
  by_cases h2:isP T w_abort s=true
  ·rw[if_pos h2]
   exact Rs.pos h2 (nmb_rs hT q h hne 13 999)
  ·rw[if_neg h2]
   refine Rs.neg h2 ?_
   by_cases h3:isP T w_use s=true
   ·rw[if_pos h3]
    exact Rs.pos h3 (use_rs hT q h hne 9 w_for (by decide))
   ·rw[if_neg h3]
    exact Rs.neg h3 (use_rs hT q h hne 10 sComma (by decide))
end
end Go.Proofs.YtjfkkokeegpeiaaGreatDoor
/- Blocks are read as the plain parser reads them. -/
namespace Go.Proofs.YtjfkkokeegpeiaaGreatDoor
open Go Go.Am Go.Proofs.Lx
set_option maxRecDepth 100000
section
variable {T:Nat→Tkn}
theorem Op.of{α:Type}{o o':Nat}{r:PR α}(h:Op o r)(e:o=o'):Op o' r:=e▸h
theorem Op.ite{α:Type}{o:Nat}{c:Prop}[Decidable c]{a b:PR α}(h1:Op o a)(h2:Op o b):Op o (if c then a else b):=by
 by_cases h:c
 ·rw[if_pos h];exact h1
 ·rw[if_neg h];exact h2
theorem decl_op(s:PS):Op s.o (declP T s):=by
 unfold declP
 refine(name_op s).bind fun a s1 e=>?_
 repeat' split
 all_goals first|trivial|exact e
theorem end_op(n:Tr)(s:PS):Op s.o (Lx.endP T n s):=(must_op sSemi s).bind fun _ s1 e=>e
theorem letQ_op(f:Nat)(s:PS):Op s.o (letQ T f s):=(decl_op s).bind fun a s1 e1=>(must_op sSet s1).bind fun _ s2 e2=>((expr_op (T:=T) f).1 1 s2).bind fun n s3 e3=>by show s3.o=s.o;omega
theorem asgQ_op(f:Nat)(s:PS):Op s.o (asgQ T f s):=(name_op s).bind fun a s1 e1=>(must_op sSet s1).bind fun _ s2 e2=>((expr_op (T:=T) f).1 1 s2).bind fun n s3 e3=>by show s3.o=s.o;omega
theorem awaitQ_op(f:Nat)(s:PS):Op s.o (awaitQ T f s):=((expr_op (T:=T) f).1 1 s).bind fun n s1 e1=>(must_op w_within s1).bind fun _ s2 e2=>(lit_op s2).bind fun m s3 e3=>by show s3.o=s.o;omega
theorem amtQ_op(k:Int)(s:PS):Op s.o (amtQ T k s):=(lit_op s).bind fun n s1 e1=>e1
theorem sglQ_op(f:Nat)(k:Int)(s:PS):Op s.o (sglQ T f k s):=((expr_op (T:=T) f).1 1 s).bind fun n s1 e1=>e1
theorem nmbQ_op(k hi:Int)(s:PS):Op s.o (nmbQ T k hi s):=(num_op 0 hi s).bind fun n s1 e1=>e1
theorem useQ_op(k:Int)(b:ByteArray)(s:PS):Op s.o (useQ T k b s):=(num_op 0 7 s).bind fun n s1 e1=>(must_op b s1).bind fun _ s2 e2=>(lit_op s2).bind fun m s3 e3=>by show s3.o=s.o;omega
theorem semi_op{r:PR Tr}{o:Nat}(h:Op o r):Op o (r.bind (Lx.endP T)):=h.bind fun n s e=>(end_op n s).of e
theorem stmt_op:∀f,(∀s,Op s.o (blockP T f s))∧(∀s,Op s.o (stmtsP T f s))∧(∀s,Op s.o (stmtP T f s)):=by
 intro f
 induction f with
 |zero=>exact⟨fun _=>by rw[blockP];trivial,fun _=>by rw[stmtsP];trivial,fun _=>by rw[stmtP];trivial⟩
 |succ f ih=>
  obtain⟨h1,h2,h3⟩:=ih
  refine⟨fun s=>?_,fun s=>?_,fun s=>?_⟩
  ·rw[blockP]
   refine(opens_op sLBr s).bind fun _ s1 e1=>(h2 s1).bind fun l s2 e2=>?_
   show s2.o-1=s.o
   omega
  ·rw[stmtsP]
   split
   ·rfl
   ·exact(h3 s).bind fun n s1 e1=>(h2 s1).bind fun l s2 e2=>by show s2.o=s.o;omega
  ·rw[stmtP]
   refine Op.ite ?_ ?_
   ·rw[let_eq];exact semi_op (letQ_op f (adv s))
   refine Op.ite ?_ ?_
   ·refine((expr_op (T:=T) f).1 1 (adv s)).bind fun c s1 e1=>(h1 s1).bind fun y s2 e2=>?_
    have e1:s1.o=s.o:=e1
    refine Op.ite ?_ ?_
    ·exact(h1 (adv s2)).bind fun n s3 e3=>by
      have e3:s3.o=s2.o:=e3
      show s3.o=s.o
      omega
    ·show s2.o=s.o
     omega
   refine Op.ite ?_ ?_
   ·exact(num_op 1 100 (adv s)).bind fun n s1 e1=>(h1 s1).bind fun y s2 e2=>by
     have e1:s1.o=s.o:=e1
     show s2.o=s.o
     omega
   refine Op.ite ?_ ?_
   ·rw[await_eq];exact semi_op (awaitQ_op f (adv s))
   refine Op.ite ?_ ?_
   ·rw[amt_eq];exact semi_op (amtQ_op 5 (adv s))
   refine Op.ite ?_ ?_
   ·rw[amt_eq];exact semi_op (amtQ_op 11 (adv s))
   refine Op.ite ?_ ?_
   ·rw[sgl_eq];exact semi_op (sglQ_op f 7 (adv s))
   refine Op.ite ?_ ?_
   ·rw[sgl_eq];exact semi_op (sglQ_op f 8 (adv s))
   refine Op.ite ?_ ?_
   ·rw[use_eq];exact semi_op (useQ_op 9 w_for (adv s))
   refine Op.ite ?_ ?_
   ·rw[use_eq];exact semi_op (useQ_op 10 sComma (adv s))
   refine Op.ite ?_ ?_
   ·rw[nmb_eq];exact semi_op (nmbQ_op 12 99 (adv s))
   refine Op.ite ?_ ?_
   ·rw[nmb_eq];exact semi_op (nmbQ_op 13 999 (adv s))
   ·rw[asg_eq];exact semi_op (asgQ_op f s)
end
abbrev Z0:Type:=Nat×(Nat→Int)×(Nat→Int)×(Nat→ByteArray)×(Nat→Int)×Int×Int×Nat×Nat×(Nat→ByteArray)×(Nat→ByteArray)
abbrev AccT:Type:=(Nat→Int)×(Nat→Int)×(Nat→ByteArray)×(Nat→Nat)×(Nat→Nat→List V)×Nat
def z0(x:StT):Z0:=(x.2.2.1,x.2.2.2.1,x.2.2.2.2.1,x.2.2.2.2.2.1,x.2.2.2.2.2.2.1,x.1,x.2.1,x.2.2.2.2.2.2.2.1,x.2.2.2.2.2.2.2.2.2.1,x.2.2.2.2.2.2.2.2.1,x.2.2.2.2.2.2.2.2.2.2)
def za(x:StT)(a:AccT):Nat×(Nat→Int)×(Nat→Int)×(Nat→ByteArray)×(Nat→Int)×Int×Int×Nat×Nat×(Nat→ByteArray)×(Nat→ByteArray)×AccT:=(x.2.2.1,x.2.2.2.1,x.2.2.2.2.1,x.2.2.2.2.2.1,x.2.2.2.2.2.2.1,x.1,x.2.1,x.2.2.2.2.2.2.2.1,x.2.2.2.2.2.2.2.2.2.1,x.2.2.2.2.2.2.2.2.1,x.2.2.2.2.2.2.2.2.2.2,a)
def zb(x:StT)(a:AccT):Nat×(Nat→Int)×(Nat→Int)×(Nat→ByteArray)×(Nat→Int)×Int×Int×Nat×Nat×(Nat→ByteArray)×(Nat→ByteArray)×Nat×(Nat→Int)×(Nat→Int)×(Nat→ByteArray)×(Nat→Nat)×(Nat→Nat→List V):=(x.2.2.1,x.2.2.2.1,x.2.2.2.2.1,x.2.2.2.2.2.1,x.2.2.2.2.2.2.1,x.1,x.2.1,x.2.2.2.2.2.2.2.1,x.2.2.2.2.2.2.2.2.2.1,x.2.2.2.2.2.2.2.2.1,x.2.2.2.2.2.2.2.2.2.2,a.2.2.2.2.2,a.1,a.2.1,a.2.2.1,a.2.2.2.1,a.2.2.2.2.1)
def RepA(l:List Tr)(a:AccT):Prop:=a.2.2.2.2.2=l.length∧∀j t,l[j]? =some t→RepN t (a.1 j,a.2.1 j,a.2.2.1 j,a.2.2.2.1 j,a.2.2.2.2.1 j)
theorem repL_of{f:Nat→List V}:∀(l:List Tr) (i:Nat),(∀j t,l[j]? =some t→∃y:NodeT,f (i+j)=[i64 y.1,i64 y.2.1,st y.2.2.1,.ro 4 y.2.2.2.1 y.2.2.2.2]∧RepN t y)→RepL l f i
 | [],_,_=>by simp[RepL]
 |t::l,i,h=>by
  simp only[RepL]
  refine⟨h 0 t rfl,repL_of l (i+1) fun j t' e=>?_⟩
  have:=h (j+1) t' (by simpa using e)
  rwa [show i+(j+1)=i+1+j by omega]at this
theorem RepA.node{l:List Tr}{a:AccT}(h:RepA l a):RepN (.node 14 0 ⟨#[]⟩ l) (14,0,⟨#[]⟩,a.2.2.2.2.2,fun j=>[i64 (a.1 j),i64 (a.2.1 j),st (a.2.2.1 j),.ro 4 (a.2.2.2.1 j) (a.2.2.2.2.1 j)]):=by
 simp only[RepN]
 refine⟨trivial,trivial,trivial,h.1,repL_of l 0 fun j t e=>⟨(a.1 j,a.2.1 j,a.2.2.1 j,a.2.2.2.1 j,a.2.2.2.2.1 j),by rw[Nat.zero_add],h.2 j t e⟩⟩
def acc1(y:NodeT):AccT:=(fun _=>y.1,fun _=>y.2.1,fun _=>y.2.2.1,fun _=>y.2.2.2.1,fun _=>y.2.2.2.2,1)
theorem acc1_rep{t:Tr}{y:NodeT}(h:RepN t y):RepA [t] (acc1 y):=by
 refine⟨rfl,fun j t' e=>?_⟩
 cases j with
 |zero=>simp only[List.getElem?_cons_zero,Option.some.injEq]at e;subst e;exact h
 |succ j=>simp at e
def accN(a:AccT)(y:NodeT):AccT:=(fun j=>if j<a.2.2.2.2.2 then a.1 j else y.1,fun j=>if j<a.2.2.2.2.2 then a.2.1 j else y.2.1,fun j=>if j<a.2.2.2.2.2 then a.2.2.1 j else y.2.2.1,fun j=>if j<a.2.2.2.2.2 then a.2.2.2.1 j else y.2.2.2.1,fun j i=>if j<a.2.2.2.2.2 then a.2.2.2.2.1 j i else y.2.2.2.2 i,a.2.2.2.2.2+1)
theorem accN_rep{l:List Tr}{a:AccT}{t:Tr}{y:NodeT}(h:RepA l a)(g:RepN t y):RepA (l++[t]) (accN a y):=by
 refine⟨by simp[accN,h.1],fun j t' e=>?_⟩
 by_cases hj:j<l.length
 ·rw[List.getElem?_append_left hj]at e
  have:=h.2 j t' e
  simp only[accN,h.1,hj,if_true]
  exact this
 ·rw[List.getElem?_append_right (by omega)]at e
  simp only[accN,h.1,hj,if_false]
  cases hk:j-l.length with
  |zero=>rw[hk]at e;simp only[List.getElem?_cons_zero,Option.some.injEq]at e;subst e;exact g
  |succ n=>rw[hk]at e;simp at e
section
variable {N:Nat} {T:Nat→Tkn} {pr:List ByteArray}
def BL(N:Nat)(T:Nat→Tkn)(pr:List ByteArray)(acc:List Tr):PR (List Tr)→blockR_l0_g→Prop
 | .ok l s,.inr (.inl z)=>acc++l=[]∧∃x,z=z0 x∧RS N T pr s x
 | .ok l s,.inr (.inr z)=>∃x a,z=zb x a∧RepA (acc++l) a∧RS N T pr s x
 | .err p c,.inl e=>p<N∧e=((T p).a,c)
 |_,_=>False
def BS(acc:List Tr)(x:StT):blockR_l0_a→Prop
 | .inl y=>acc=[]∧y=z0 x
 | .inr y=>∃a,y=za x a∧RepA acc a
def HS(N:Nat)(T:Nat→Tkn)(pr:List ByteArray)(f q:Nat):Prop:=∀g,g≤f→∀(s:PS) (x:StT),RS N T pr s x→stmtP T g s≠ .out→Rs (statement q x) (PN N T pr (stmtP T g s))
def HB(N:Nat)(T:Nat→Tkn)(pr:List ByteArray)(f q:Nat):Prop:=∀g,g≤f→∀(s:PS) (x:StT),RS N T pr s x→blockP T g s≠ .out→Rs (block q x) (PN N T pr (blockP T g s))
theorem stmts_loop(hT:TokN N T){f q:Nat}(hS:HS N T pr f q)(x0:StT):∀(g:Nat),g≤f→∀(m:Nat),g<m→∀(acc:List Tr) (s:PS) (x:StT) (y:blockR_l0_a),BS acc x y→acc.length+g≤1000000000→RS N T pr s x→stmtsP T g s≠ .out→
 Rs (blockR_l0 (opens q) (take q) (statement q) m x0 y) (BL N T pr acc (stmtsP T g s)):=by
 intro g
 induction g with
 |zero=>intro _ m _ acc s x y _ _ _ ho;rw[stmtsP]at ho;exact absurd rfl ho
 |succ g ih=>
  intro hg m hm acc s x y hy hb h ho
  obtain⟨m,rfl⟩:∃k,m=k+1:=⟨m-1,by omega⟩
  unfold blockR_l0
  refine Rs.step3 fun Q hQ=>?_
  have h0:=h
  obtain⟨v,u,rfl,h1,h2,h3,h4,h5,h6⟩:=h
  have hop:stmtsP T (g+1) s=if isP T sRBr s=true then .ok [] (adv s)else(stmtP T g s).bind fun n s1=>(stmtsP T g s1).bind fun l s2=>.ok (n::l) s2:=by rw[stmtsP]
  rcases y with y|y
  ·obtain⟨rfl,rfl⟩:=hy
   rw[Sum.elim_inl]
   unfold blockR_l0_t0
   dsimp only[z0]
   rw[take_eq q (s:=s) (pr:=pr) (N:=N) (T:=T) h0]
   dsimp only[Option.bind_some]
   by_cases hi:isP T sRBr s=true
   ·rw[if_pos hi]at hop⊢
    refine Rs.neg (by simp) (Rs.some ?_)
    show BL N T pr [] (stmtsP T (g+1) s) _
    rw[hop]
    exact⟨rfl,_,rfl,h0.adv hT (isP_ne (by decide) hi)⟩
   ·rw[if_neg hi]at hop⊢
    refine Rs.pos (by simp) ?_
    refine PN.bind (hS g (by omega) s _ h0 (PR.bind_out (hop▸ho))) (fun t s2 k1 n1 b1 m1 c1 x1 e hr hx=>?_) (fun p c e hp=>?_)
    ·rw[e]at hop
     dsimp only[PR.bind]at hop
     refine Rs.some (hQ _ ?_)
     have ho2:=PR.bind_out (hop▸ho)
     refine(ih (by omega) m (by omega) [t] s2 x1 (.inr (za x1 (acc1 (k1,n1,b1,m1,c1)))) ⟨_,rfl,acc1_rep hr⟩ (by simp;omega) hx ho2).mono fun z hz=>?_
     rw[hop]
     cases hr2:stmtsP T g s2 with
     |out=>exact absurd hr2 ho2
     |err p c=>rw[hr2]at hz;rcases z with z|z|z<;>exact hz
     |ok l s3=>
      rw[hr2]at hz
      rcases z with z|z|z
      ·exact hz.elim
      ·exact absurd hz.1 (by simp)
      ·exact hz
    ·refine Rs.some ?_
     show BL N T pr [] (stmtsP T (g+1) s) _
     rw[hop,e]
     exact⟨hp,rfl⟩
  ·obtain⟨a,rfl,ha⟩:=hy
   rw[Sum.elim_inr]
   unfold blockR_l0_t1
   dsimp only[za]
   rw[take_eq q (s:=s) (pr:=pr) (N:=N) (T:=T) h0]
   dsimp only[Option.bind_some]
   by_cases hi:isP T sRBr s=true
   ·rw[if_pos hi]at hop⊢
    refine Rs.neg (by simp) (Rs.some ?_)
    show BL N T pr acc (stmtsP T (g+1) s) _
    rw[hop]
    exact⟨_,a,rfl,by rw[List.append_nil];exact ha,h0.adv hT (isP_ne (by decide) hi)⟩
   ·rw[if_neg hi]at hop⊢
    refine Rs.pos (by simp) ?_
    refine PN.bind (hS g (by omega) s _ h0 (PR.bind_out (hop▸ho))) (fun t s2 k1 n1 b1 m1 c1 x1 e hr hx=>?_) (fun p c e hp=>?_)
    ·rw[e]at hop
     dsimp only[PR.bind]at hop
     have hal:=ha.1
     refine Rs.pos ⟨by unfold roomBound;omega,by unfold maxLen;omega,Nat.le_refl _⟩ (Rs.some (hQ _ ?_))
     have ho2:=PR.bind_out (hop▸ho)
     refine(ih (by omega) m (by omega) (acc++[t]) s2 x1 (.inr (za x1 (accN a (k1,n1,b1,m1,c1)))) ⟨_,rfl,accN_rep ha hr⟩ (by simp;omega) hx ho2).mono fun z hz=>?_
     rw[hop]
     cases hr2:stmtsP T g s2 with
     |out=>exact absurd hr2 ho2
     |err p c=>rw[hr2]at hz;rcases z with z|z|z<;>exact hz
     |ok l s3=>
      rw[hr2]at hz
      rcases z with z|z|z
      ·exact hz.elim
      ·exact absurd hz.1 (by simp)
      ·obtain⟨x2,a2,e1,e2,e3⟩:=hz
       exact⟨x2,a2,e1,by simpa using e2,e3⟩
    ·refine Rs.some ?_
     show BL N T pr acc (stmtsP T (g+1) s) _
     rw[hop,e]
     exact⟨hp,rfl⟩
end
end Go.Proofs.YtjfkkokeegpeiaaGreatDoor
/- Statements are read as the plain parser reads them. -/
namespace Go.Proofs.YtjfkkokeegpeiaaGreatDoor
open Go Go.Am Go.Proofs.Lx
set_option maxRecDepth 100000
section
variable (T:Nat→Tkn)
def brQ(f:Nat)(s:PS):PR Tr:=(exprP T f 1 s).bind fun c s1=>(blockP T f s1).bind fun y s2=>
 if isP T w_else s2=true then(blockP T f (adv s2)).bind fun n s3=>.ok (.node 3 0 ⟨#[]⟩ [c,y,n]) s3 else .ok (.node 3 0 ⟨#[]⟩ [c,y,.node 14 0 ⟨#[]⟩ []]) s2
def repQ(f:Nat)(s:PS):PR Tr:=(numP T 1 100 s).bind fun n s1=>(blockP T f s1).bind fun y s2=>.ok (.node 4 n ⟨#[]⟩ [y]) s2
end
section
variable {N:Nat} {T:Nat→Tkn} {pr:List ByteArray} {s:PS} {x:StT}
theorem block_step(hT:TokN N T){f q:Nat}(hq:f<q)(hf:f≤1000000000)(hS:HS N T pr f q)(h:RS N T pr s x)(ho:blockP T (f+1) s≠ .out):Rs (block (q+1) x) (PN N T pr (blockP T (f+1) s)):=by
 show Rs ((t_blockR (opens q) (take q) (statement q) (blockR_l0 (opens q) (take q) (statement q) q x) x some).map cv_block) _
 refine Rs.map (P:=fun y=>PN N T pr (blockP T (f+1) s) (cv_block y)) ?_ fun z hz=>hz
 unfold t_blockR
 have hop:blockP T (f+1) s=(opensP T sLBr s).bind fun _ s1=>(stmtsP T f s1).bind fun l s2=>.ok (.node 14 0 ⟨#[]⟩ l) (closeP s2):=by rw[blockP]
 refine PU.bind (opens_rs hT q h sLBr (by decide)) (fun s1 x1 e1 g1=>?_) (fun p c e hp=>?_)
 ·have o1:=opens_op (T:=T) sLBr s
  rw[e1]at hop o1
  dsimp only[PR.bind]at hop
  have o1:s1.o=s.o+1:=o1
  have ho2:=PR.bind_out (hop▸ho)
  refine Rs.bind (stmts_loop hT hS x f (Nat.le_refl _) q hq [] s1 x1 (.inl (z0 x1)) ⟨rfl,rfl⟩ (by simpa using hf) g1 ho2) fun z hz=>?_
  rw[hop]
  have o2:=(stmt_op (T:=T) f).2.1 s1
  cases hr2:stmtsP T f s1 with
  |out=>exact absurd hr2 ho2
  |err p c=>
   rw[hr2]at hz
   rcases z with z|z|z
   ·exact Rs.some hz
   ·exact hz.elim
   ·exact hz.elim
  |ok l s2=>
   rw[hr2]at hz o2
   have o2:s2.o=s1.o:=o2
   rcases z with z|z|z
   ·exact hz.elim
   ·obtain⟨e1,x2,rfl,g3⟩:=hz
    simp only[List.nil_append]at e1
    subst e1
    exact Rs.some ⟨RepN.leaf,g3.close hT (by omega)⟩
   ·obtain⟨x2,a,rfl,ha,g3⟩:=hz
    exact Rs.some ⟨RepA.node ha,g3.close hT (by omega)⟩
 ·(rw[hop,e];exact Rs.some ⟨hp,rfl⟩)
theorem repeat_rs(hT:TokN N T){f q:Nat}(hB:HB N T pr f q)(h:RS N T pr s x)(hne:(T s.p).t≠⟨#[]⟩∨(T s.p).k≠0)(ho:repQ T f (adv s)≠ .out):Rs (repeatS (q+1) x) (PN N T pr (repQ T f (adv s))):=by
 show Rs ((t_repeatSR (number q) (block q) x some).map cv_repeatS) _
 refine Rs.map (P:=fun y=>PN N T pr (repQ T f (adv s)) (cv_repeatS y)) ?_ fun z hz=>hz
 unfold t_repeatSR
 have hop:repQ T f (adv s)=(numP T 1 100 (adv s)).bind fun n s1=>(blockP T f s1).bind fun y s2=>.ok (.node 4 n ⟨#[]⟩ [y]) s2:=rfl
 refine PX.bind (number_rs hT q (h.adv hT hne) 1 100) (fun a s1 x1 e1 g1=>?_) (fun p c e hp=>?_)
 ·rw[e1]at hop
  dsimp only[PR.bind]at hop
  refine PN.bind (hB f (Nat.le_refl _) s1 x1 g1 (PR.bind_out (hop▸ho))) (fun t s3 k n b m c x3 e hr hx=>?_) (fun p c e hp=>?_)
  ·rw[hop,e];exact Rs.some ⟨RepN.k1 hr,hx⟩
  ·(rw[hop,e];exact Rs.some ⟨hp,rfl⟩)
 ·(rw[hop,e];exact Rs.some ⟨hp,rfl⟩)
theorem branch_rs(hT:TokN N T){f q:Nat}(hE:HE N T pr f q)(hB:HB N T pr f q)(h:RS N T pr s x)(hne:(T s.p).t≠⟨#[]⟩∨(T s.p).k≠0)(ho:brQ T f (adv s)≠ .out):Rs (branch (q+1) x) (PN N T pr (brQ T f (adv s))):=by
 show Rs ((t_branchR (expr q) (block q) (take q) x some).map cv_branch) _
 refine Rs.map (P:=fun y=>PN N T pr (brQ T f (adv s)) (cv_branch y)) ?_ fun z hz=>hz
 unfold t_branchR
 have hop:brQ T f (adv s)=(exprP T f 1 (adv s)).bind fun c s1=>(blockP T f s1).bind fun y s2=>
  if isP T w_else s2=true then(blockP T f (adv s2)).bind fun n s3=>.ok (.node 3 0 ⟨#[]⟩ [c,y,n]) s3 else .ok (.node 3 0 ⟨#[]⟩ [c,y,.node 14 0 ⟨#[]⟩ []]) s2:=rfl
 refine PN.bind (hE f (Nat.le_refl _) 1 (by decide) (by decide) (adv s) _ (h.adv hT hne) (PR.bind_out ho)) (fun t1 s1 k1 n1 b1 m1 c1 x1 e1 hr1 g1=>?_) (fun p c e hp=>?_)
 ·rw[e1]at hop
  dsimp only[PR.bind]at hop
  refine PN.bind (hB f (Nat.le_refl _) s1 x1 g1 (PR.bind_out (hop▸ho))) (fun t2 s2 k2 n2 b2 m2 c2 x2 e2 hr2 g2=>?_) (fun p c e hp=>?_)
  ·rw[e2]at hop
   dsimp only[PR.bind]at hop
   rw[take_eq q g2]
   dsimp only[Option.bind_some]
   by_cases hi:isP T w_else s2=true
   ·rw[if_pos hi]at hop⊢
    refine Rs.pos rfl ?_
    refine PN.bind (hB f (Nat.le_refl _) (adv s2) _ (g2.adv hT (isP_ne (by decide) hi)) (PR.bind_out (hop▸ho))) (fun t3 s3 k3 n3 b3 m3 c3 x3 e hr hx=>?_) (fun p c e hp=>?_)
    ·rw[hop,e]
     refine Rs.some ⟨?_,hx⟩
     simp only[RepN,RepL,List.length_cons,List.length_nil,cv_branch,Sum.elim_inl]
     exact⟨trivial,trivial,trivial,trivial,⟨(k1,n1,b1,m1,c1),rfl,hr1⟩,⟨(k2,n2,b2,m2,c2),rfl,hr2⟩,⟨(k3,n3,b3,m3,c3),rfl,hr⟩,trivial⟩
    ·(rw[hop,e];exact Rs.some ⟨hp,rfl⟩)
   ·rw[if_neg hi]at hop⊢
    refine Rs.neg (by simp) ?_
    rw[hop]
    refine Rs.some ⟨?_,g2⟩
    simp only[RepN,RepL,List.length_cons,List.length_nil,cv_branch,Sum.elim_inl]
    exact⟨trivial,trivial,trivial,trivial,⟨(k1,n1,b1,m1,c1),rfl,hr1⟩,⟨(k2,n2,b2,m2,c2),rfl,hr2⟩,⟨(14,0,⟨#[]⟩,0,fun _=>[]),rfl,by simp⟩,trivial⟩
  ·(rw[hop,e];exact Rs.some ⟨hp,rfl⟩)
 ·(rw[hop,e];exact Rs.some ⟨hp,rfl⟩)
theorem semi_rs(hT:TokN N T)(q:Nat){r:PR Tr}{o:Option g_statement}(h:Rs o (PN N T pr r)):
 Rs (o.bind fun z=>Sum.elim (fun za=>(must q (sSemi,za.2.2.2.2.2)).bind fun y=>Sum.elim (fun ya=>(some (.inl (za.1,za.2.1,za.2.2.1,za.2.2.2.1,za.2.2.2.2.1,ya)):Option g_statementR)) (fun yb=>some (.inr yb)) y) (fun zb=>some (.inr zb)) z) (fun y=>PN N T pr (r.bind (Lx.endP T)) (cv_statement y)):=by
 refine PN.bind h (fun t s3 k n b m c x3 e hr hx=>?_) (fun p c e hp=>?_)
 ·subst e
  refine PU.bind (must_rs hT q hx sSemi (by decide)) (fun s4 x4 e4 g4=>?_) (fun p c e hp=>?_)
  ·show Rs _ fun y=>PN N T pr (Lx.endP T t s3) (cv_statement y)
   unfold Lx.endP
   rw[e4]
   exact Rs.some ⟨hr,g4⟩
  ·show Rs _ fun y=>PN N T pr (Lx.endP T t s3) (cv_statement y)
   unfold Lx.endP
   rw[e]
   exact Rs.some ⟨hp,rfl⟩
 ·subst e
  exact Rs.some ⟨hp,rfl⟩
theorem pass_rs{r:PR Tr}{o:Option g_statement}(h:Rs o (PN N T pr r)):
 Rs (o.bind fun z=>Sum.elim (fun za=>(some (.inl za):Option g_statementR)) (fun zb=>some (.inr zb)) z) (fun y=>PN N T pr r (cv_statement y)):=by
 refine PN.bind h (fun t s3 k n b m c x3 e hr hx=>?_) (fun p c e hp=>?_)
 ·subst e;exact Rs.some ⟨hr,hx⟩
 ·subst e;exact Rs.some ⟨hp,rfl⟩
theorem isP_not{a b:ByteArray}(hab:a≠b)(h:isP T a s=true):¬isP T b s=true:=by
 simp only[isP,decide_eq_true_eq]at h⊢
 rw[h];exact hab
theorem stmt_step(hT:TokN N T){f q:Nat}(hq:20≤q)(hE:HE N T pr f (q+1))(hE0:HE N T pr f q)(hB:HB N T pr f q)(h:RS N T pr s x)(ho:stmtP T (f+1) s≠ .out):Rs (statement (q+2) x) (PN N T pr (stmtP T (f+1) s)):=by
 show Rs ((t_statementR (next (q+1)) (letS (q+1)) (branch (q+1)) (repeatS (q+1)) (await (q+1)) (amount (q+1)) (single (q+1)) (numbered (q+1)) (assign (q+1)) (must (q+1)) x some).map cv_statement) _
 refine Rs.map (P:=fun y=>PN N T pr (stmtP T (f+1) s) (cv_statement y)) ?_ fun z hz=>hz
 unfold t_statementR
 rw[next_eq (q+1) h]
 dsimp only[Option.bind_some]
 simp only[tl_dec]
 have hop:stmtP T (f+1) s=if isP T w_let s=true then(declP T (adv s)).bind fun x s1=>setP T f 1 x s1
  else if isP T w_if s=true then brQ T f (adv s)
  else if isP T w_repeat s=true then repQ T f (adv s)
  else if isP T w_await s=true then awaitP T f (adv s)
  else if isP T w_wait s=true then amtP T 5 (adv s)
  else if isP T w_keep s=true then amtP T 11 (adv s)
  else if isP T w_require s=true then oneP T f 7 (adv s)
  else if isP T w_point s=true then oneP T f 8 (adv s)
  else if isP T w_use s=true then useP T 9 w_for (adv s)
  else if isP T w_send s=true then useP T 10 sComma (adv s)
  else if isP T w_emit s=true then nmbP T 12 99 (adv s)
  else if isP T w_abort s=true then nmbP T 13 999 (adv s)
  else(nameP T s).bind fun x s1=>setP T f 2 x s1:=by rw[stmtP];rfl
 by_cases c1:isP T w_let s=true
 ·rw[if_pos c1,let_eq]at hop
  rw[hop]
  exact Rs.pos c1 (semi_rs hT (q+1) (let_rs hT (by omega) hE h (isP_ne (by decide) c1) (PR.bind_out (hop▸ho))))
 rw[if_neg c1]at hop
 refine Rs.neg c1 ?_
 by_cases c2:isP T w_if s=true
 ·rw[if_pos c2]at hop
  rw[hop]
  exact Rs.pos c2 (pass_rs (branch_rs hT hE0 hB h (isP_ne (by decide) c2) (hop▸ho)))
 rw[if_neg c2]at hop
 refine Rs.neg c2 ?_
 by_cases c3:isP T w_repeat s=true
 ·rw[if_pos c3]at hop
  rw[hop]
  exact Rs.pos c3 (pass_rs (repeat_rs hT hB h (isP_ne (by decide) c3) (hop▸ho)))
 rw[if_neg c3]at hop
 refine Rs.neg c3 ?_
 by_cases c4:isP T w_await s=true
 ·rw[if_pos c4,await_eq]at hop
  rw[hop]
  exact Rs.pos c4 (semi_rs hT (q+1) (await_rs hT hE h (isP_ne (by decide) c4) (PR.bind_out (hop▸ho))))
 rw[if_neg c4]at hop
 refine Rs.neg c4 ?_
 by_cases c5:isP T w_wait s=true
 ·rw[if_pos c5,amt_eq]at hop
  rw[hop]
  have:=amount_rs hT (q+1) h (isP_ne (by decide) c5)
  rw[if_neg (isP_not (by decide) c5)]at this
  exact Rs.pos c5 (semi_rs hT (q+1) this)
 rw[if_neg c5]at hop
 refine Rs.neg c5 ?_
 by_cases c6:isP T w_keep s=true
 ·rw[if_pos c6,amt_eq]at hop
  rw[hop]
  have:=amount_rs hT (q+1) h (isP_ne (by decide) c6)
  rw[if_pos c6]at this
  exact Rs.pos c6 (semi_rs hT (q+1) this)
 rw[if_neg c6]at hop
 refine Rs.neg c6 ?_
 by_cases c7:isP T w_require s=true
 ·rw[if_pos c7,sgl_eq]at hop
  rw[hop]
  have:=single_rs hT hE h (isP_ne (by decide) c7) (PR.bind_out (PR.bind_out (hop▸ho)))
  rw[if_neg (isP_not (by decide) c7)]at this
  exact Rs.pos c7 (semi_rs hT (q+1) this)
 rw[if_neg c7]at hop
 refine Rs.neg c7 ?_
 by_cases c8:isP T w_point s=true
 ·rw[if_pos c8,sgl_eq]at hop
  rw[hop]
  have:=single_rs hT hE h (isP_ne (by decide) c8) (PR.bind_out (PR.bind_out (hop▸ho)))
  rw[if_pos c8]at this
  exact Rs.pos c8 (semi_rs hT (q+1) this)
 rw[if_neg c8]at hop
 refine Rs.neg c8 ?_
 by_cases c9:isP T w_use s=true
 ·rw[if_pos c9,use_eq]at hop
  rw[hop]
  have:=numbered_rs hT (q+1) h (isP_ne (by decide) c9)
  unfold numbQ at this
  rw[if_neg (isP_not (by decide) c9),if_neg (isP_not (by decide) c9),if_pos c9]at this
  exact Rs.pos c9 (semi_rs hT (q+1) this)
 rw[if_neg c9]at hop
 refine Rs.neg c9 ?_
 by_cases c10:isP T w_send s=true
 ·rw[if_pos c10,use_eq]at hop
  rw[hop]
  have:=numbered_rs hT (q+1) h (isP_ne (by decide) c10)
  unfold numbQ at this
  rw[if_neg (isP_not (by decide) c10),if_neg (isP_not (by decide) c10),if_neg c9]at this
  exact Rs.pos c10 (semi_rs hT (q+1) this)
 rw[if_neg c10]at hop
 refine Rs.neg c10 ?_
 by_cases c11:isP T w_emit s=true
 ·rw[if_pos c11,nmb_eq]at hop
  rw[hop]
  have:=numbered_rs hT (q+1) h (isP_ne (by decide) c11)
  unfold numbQ at this
  rw[if_pos c11]at this
  exact Rs.pos c11 (semi_rs hT (q+1) this)
 rw[if_neg c11]at hop
 refine Rs.neg c11 ?_
 by_cases c12:isP T w_abort s=true
 ·rw[if_pos c12,nmb_eq]at hop
  rw[hop]
  have:=numbered_rs hT (q+1) h (isP_ne (by decide) c12)
  unfold numbQ at this
  rw[if_neg c11,if_pos c12]at this
  exact Rs.pos c12 (semi_rs hT (q+1) this)
 rw[if_neg c12]at hop
 refine Rs.neg c12 ?_
 rw[asg_eq]at hop
 rw[hop]
 exact semi_rs hT (q+1) (assign_rs hT hE h (PR.bind_out (hop▸ho)))
end
end Go.Proofs.YtjfkkokeegpeiaaGreatDoor
/- Statements are read as the plain parser reads them (2). -/
namespace Go.Proofs.YtjfkkokeegpeiaaGreatDoor
open Go Go.Am Go.Proofs.Lx
set_option maxRecDepth 100000
section
variable {N:Nat} {T:Nat→Tkn} {pr:List ByteArray}
theorem stmts(hT:TokN N T):∀f,f≤1000000000→∀q,2*f+22≤q→HS N T pr f q∧HB N T pr f q:=by
 intro f
 induction f with
 |zero=>
  intro _ q _
  refine⟨fun g hg s x _ ho=>?_,fun g hg s x _ ho=>?_⟩
  all_goals
   obtain rfl:g=0:=by omega
  ·rw[stmtP]at ho;exact absurd rfl ho
  ·rw[blockP]at ho;exact absurd rfl ho
 |succ f ih=>
  intro hf q hq
  obtain⟨q,rfl⟩:∃k,q=k+2:=⟨q-2,by omega⟩
  obtain⟨a1,a2⟩:=ih (by omega) (q+2) (by omega)
  obtain⟨b1,b2⟩:=ih (by omega) (q+1) (by omega)
  obtain⟨c1,c2⟩:=ih (by omega) q (by omega)
  refine⟨fun g hg s x h ho=>?_,fun g hg s x h ho=>?_⟩
  ·by_cases e:g≤f
   ·exact a1 g e s x h ho
   ·obtain rfl:g=f+1:=by omega
    exact stmt_step hT (by omega) (exprs hT f (q+1) (by omega)).1 (exprs hT f q (by omega)).1 c2 h ho
  ·by_cases e:g≤f
   ·exact a2 g e s x h ho
   ·obtain rfl:g=f+1:=by omega
    exact block_step hT (by omega) (by omega) b1 h ho
end
end Go.Proofs.YtjfkkokeegpeiaaGreatDoor
/- Parameters are read as the plain parser reads them. -/
namespace Go.Proofs.YtjfkkokeegpeiaaGreatDoor
open Go Go.Am Go.Proofs.Lx
set_option maxRecDepth 100000
section
variable (T:Nat→Tkn)
def prmsQ:Nat→PS→PR (List Prm)
 |0,_=>.out
 |f+1,s=>(prmP T s).bind fun x s1=>if isP T sComma s1=true then(prmsQ f (adv s1)).bind fun l s2=>.ok (x::l) s2 else .ok [x] s1
theorem prms_eq:∀f s,prmsP T f s=(prmsQ T f s).bind fun l s2=>(mustP T sRPar s2).bind fun _ s3=>.ok l s3
 |0,s=>by rw[prmsP,prmsQ];rfl
 |f+1,s=>by
  rw[prmsP,prmsQ,PR.bind_assoc]
  congr 1
  funext x s1
  by_cases h:isP T sComma s1=true
  ·rw[if_pos h,if_pos h,prms_eq f,PR.bind_assoc,PR.bind_assoc]
   congr 1
   funext l s2
   show((mustP T sRPar s2).bind fun _ s3=>PR.ok l s3).bind _=(mustP T sRPar s2).bind _
   rw[PR.bind_assoc]
   rfl
  ·rw[if_neg h,if_neg h]
   rfl
end
abbrev PrT:Type:=(Nat→ByteArray)×(Nat→ByteArray)×Nat
def zq(x:StT)(a:PrT):Nat×(Nat→Int)×(Nat→Int)×(Nat→ByteArray)×(Nat→Int)×Int×Int×Nat×Nat×(Nat→ByteArray)×(Nat→ByteArray)×PrT:=(x.2.2.1,x.2.2.2.1,x.2.2.2.2.1,x.2.2.2.2.2.1,x.2.2.2.2.2.2.1,x.1,x.2.1,x.2.2.2.2.2.2.2.1,x.2.2.2.2.2.2.2.2.2.1,x.2.2.2.2.2.2.2.2.1,x.2.2.2.2.2.2.2.2.2.2,a)
def RepQ(l:List Prm)(a:PrT):Prop:=a.2.2=l.length∧∀j m,l[j]? =some m→a.1 j=m.x∧a.2.1 j=m.u
def prm1(x u:ByteArray):PrT:=(fun _=>x,fun _=>u,1)
theorem prm1_rep(x u:ByteArray):RepQ [⟨x,u⟩] (prm1 x u):=by
 refine⟨rfl,fun j m e=>?_⟩
 cases j with
 |zero=>simp only[List.getElem?_cons_zero,Option.some.injEq]at e;subst e;exact⟨rfl,rfl⟩
 |succ j=>simp at e
def prmN(a:PrT)(x u:ByteArray):PrT:=(fun j=>if j<a.2.2 then a.1 j else x,fun j=>if j<a.2.2 then a.2.1 j else u,a.2.2+1)
theorem prmN_rep{l:List Prm}{a:PrT}(h:RepQ l a)(x u:ByteArray):RepQ (l++[⟨x,u⟩]) (prmN a x u):=by
 refine⟨by simp[prmN,h.1],fun j m e=>?_⟩
 by_cases hj:j<l.length
 ·rw[List.getElem?_append_left hj]at e
  have:=h.2 j m e
  simp only[prmN,h.1,hj,if_true]
  exact this
 ·rw[List.getElem?_append_right (by omega)]at e
  simp only[prmN,h.1,hj,if_false]
  cases hk:j-l.length with
  |zero=>rw[hk]at e;simp only[List.getElem?_cons_zero,Option.some.injEq]at e;subst e;exact⟨rfl,rfl⟩
  |succ n=>rw[hk]at e;simp at e
section
variable {N:Nat} {T:Nat→Tkn} {pr:List ByteArray}
def BQ(N:Nat)(T:Nat→Tkn)(pr:List ByteArray)(acc:List Prm):PR (List Prm)→paramsR_l0_g→Prop
 | .ok l s,.inr z=>∃x a,z=zq x a∧RepQ (acc++l) a∧RS N T pr s x
 | .err p c,.inl e=>p<N∧e=((T p).a,c)
 |_,_=>False
def QS(acc:List Prm)(x:StT):paramsR_l0_a→Prop
 | .inl y=>acc=[]∧y=z0 x
 | .inr y=>∃a,y=zq x a∧RepQ acc a
theorem rs_lt1{s:PS}{x:StT}(h:RS N T pr (adv s) x):s.p+1<N:=h.choose_spec.choose_spec.2.2.2.1
theorem prms_loop(hT:TokN N T){q:Nat}(hq:20≤q)(x0:a_paramsR):∀(g:Nat),∀(m:Nat),g<m→∀(acc:List Prm) (s:PS) (x:StT) (y:paramsR_l0_a),QS acc x y→acc.length+g≤1000000000→RS N T pr s x→prmsQ T g s≠ .out→
 Rs (paramsR_l0 (must q) (take q) (declare q) (next q) (Lookup q) (fail q) m x0 y) (BQ N T pr acc (prmsQ T g s)):=by
 intro g
 induction g with
 |zero=>intro m _ acc s x y _ _ _ ho;rw[prmsQ]at ho;exact absurd rfl ho
 |succ g ih=>
  intro m hm acc s x y hy hb h ho
  obtain⟨m,rfl⟩:∃k,m=k+1:=⟨m-1,by omega⟩
  unfold paramsR_l0
  refine Rs.step3 fun Q hQ=>?_
  have h0:=h
  obtain⟨v,u,rfl,h1,h2,h3,h4,h5,h6⟩:=h
  have hop:prmsQ T (g+1) s=(prmP T s).bind fun x s1=>if isP T sComma s1=true then(prmsQ T g (adv s1)).bind fun l s2=>.ok (x::l) s2 else .ok [x] s1:=by rw[prmsQ]
  have hpp:prmP T s=(declP T s).bind fun x s1=>if isP T sColon s1=true then(if(T (s1.p+1)).k≠1 then .err (s1.p+1) 11 else if unitP (T (s1.p+1)).t=false then .err (s1.p+1) 10 else .ok ⟨x,(T (s1.p+1)).t⟩ (adv (adv s1)))else .ok ⟨x,⟨#[]⟩⟩ s1:=rfl
  rcases y with y|y
  ·obtain⟨rfl,rfl⟩:=hy
   rw[Sum.elim_inl]
   unfold paramsR_l0_t0
   dsimp only[z0,zq]
   refine PX.bind (declare_rs hT q hq h0) (fun b s1 x1 e1 g1=>?_) (fun p c e hp=>?_)
   ·rw[e1]at hpp
    dsimp only[PR.bind]at hpp⊢
    rw[take_eq q g1]
    dsimp only[Option.bind_some]
    by_cases hc:isP T sColon s1=true
    ·rw[if_pos hc]at hpp⊢
     refine Rs.pos rfl ?_
     have g2:=RS.adv hT g1 (isP_ne (by decide) hc)
     have hl2:s1.p+1<N:=rs_lt1 g2
     rw[next_eq q g2]
     dsimp only[Option.bind_some]
     refine Rs.bind (Lookup_rs q (T (adv s1).p).t) fun z hz=>?_
     by_cases hk:(T (s1.p+1)).k=1
     ·refine Rs.neg (by simpa[Lx.adv]using hk) ?_
      rw[if_neg (fun h=>h hk)]at hpp
      by_cases hu:unitP (T (s1.p+1)).t=false
      ·rw[if_pos hu]at hpp
       rw[hpp]at hop
       refine Rs.pos (by rw[hz];simpa[Lx.adv]using hu) ?_
       rw[fail_eq q g2]
       refine Rs.some ?_
       show BQ N T pr [] (prmsQ T (g+1) s) _
       rw[hop]
       exact⟨hl2,rfl⟩
      ·rw[if_neg hu]at hpp
       rw[hpp]at hop
       dsimp only[PR.bind]at hop
       refine Rs.neg (by rw[hz];simpa[Lx.adv]using hu) ?_
       have g3:=RS.adv hT g2 (.inr (by show(T (s1.p+1)).k≠0;rw[hk];decide))
       dsimp only at g3⊢
       rw[take_eq q g3]
       dsimp only[Option.bind_some]
       by_cases hi:isP T sComma (adv (adv s1))=true
       ·rw[if_pos hi]at hop⊢
        refine Rs.neg (by simp) (Rs.some (hQ _ ?_))
        have ho2:=PR.bind_out (hop▸ho)
        refine(ih m (by omega) ([]++[⟨b,(T (s1.p+1)).t⟩]) (adv (adv (adv s1))) _ (.inr (zq (w ((w (w (x1.1+1)+1),x1.2).1+1),(w (w (x1.1+1)+1),x1.2).2) (prm1 b (T (s1.p+1)).t))) ⟨_,rfl,(prm1_rep b (T (s1.p+1)).t)⟩ (by simp at hb⊢;omega) (RS.adv hT g3 (isP_ne (by decide) hi)) ho2).mono fun z hz=>?_
        rw[hop]
        cases hr2:prmsQ T g (adv (adv (adv s1)))with
        |out=>exact absurd hr2 ho2
        |err p c=>rw[hr2]at hz;rcases z with z|z<;>exact hz
        |ok l s3=>
         rw[hr2]at hz
         rcases z with z|z
         ·exact hz.elim
         ·obtain⟨x2,a2,e1,e2,e3⟩:=hz
          exact⟨x2,a2,e1,by simpa using e2,e3⟩
       ·rw[if_neg hi]at hop⊢
        refine Rs.pos (by simp) (Rs.some ?_)
        show BQ N T pr [] (prmsQ T (g+1) s) _
        rw[hop]
        exact⟨_,_,rfl,(prm1_rep b (T (s1.p+1)).t),g3⟩
     ·rw[if_pos hk]at hpp
      rw[hpp]at hop
      refine Rs.pos (by simpa[Lx.adv]using hk) ?_
      rw[fail_eq q g2]
      refine Rs.some ?_
      show BQ N T pr [] (prmsQ T (g+1) s) _
      rw[hop]
      exact⟨hl2,rfl⟩
    ·rw[if_neg hc]at hpp⊢
     rw[hpp]at hop
     dsimp only[PR.bind]at hop
     refine Rs.neg (by simp) ?_
     dsimp only
     rw[take_eq q g1]
     dsimp only[Option.bind_some]
     by_cases hi:isP T sComma s1=true
     ·rw[if_pos hi]at hop⊢
      refine Rs.neg (by simp) (Rs.some (hQ _ ?_))
      have ho2:=PR.bind_out (hop▸ho)
      refine(ih m (by omega) ([]++[⟨b,⟨#[]⟩⟩]) (adv s1) _ (.inr (zq (w (x1.1+1),x1.2) (prm1 b ⟨#[]⟩))) ⟨_,rfl,(prm1_rep b ⟨#[]⟩)⟩ (by simp at hb⊢;omega) (RS.adv hT g1 (isP_ne (by decide) hi)) ho2).mono fun z hz=>?_
      rw[hop]
      cases hr2:prmsQ T g (adv s1)with
      |out=>exact absurd hr2 ho2
      |err p c=>rw[hr2]at hz;rcases z with z|z<;>exact hz
      |ok l s3=>
       rw[hr2]at hz
       rcases z with z|z
       ·exact hz.elim
       ·obtain⟨x2,a2,e1,e2,e3⟩:=hz
        exact⟨x2,a2,e1,by simpa using e2,e3⟩
     ·rw[if_neg hi]at hop⊢
      refine Rs.pos (by simp) (Rs.some ?_)
      show BQ N T pr [] (prmsQ T (g+1) s) _
      rw[hop]
      exact⟨_,_,rfl,(prm1_rep b ⟨#[]⟩),g1⟩
   ·rw[e]at hpp
    rw[hpp]at hop
    refine Rs.some ?_
    show BQ N T pr [] (prmsQ T (g+1) s) _
    rw[hop]
    exact⟨hp,rfl⟩
  ·obtain⟨a,rfl,ha⟩:=hy
   have hal:=ha.1
   rw[Sum.elim_inr]
   unfold paramsR_l0_t1
   dsimp only[z0,zq]
   refine PX.bind (declare_rs hT q hq h0) (fun b s1 x1 e1 g1=>?_) (fun p c e hp=>?_)
   ·rw[e1]at hpp
    dsimp only[PR.bind]at hpp⊢
    rw[take_eq q g1]
    dsimp only[Option.bind_some]
    by_cases hc:isP T sColon s1=true
    ·rw[if_pos hc]at hpp⊢
     refine Rs.pos rfl ?_
     have g2:=RS.adv hT g1 (isP_ne (by decide) hc)
     have hl2:s1.p+1<N:=rs_lt1 g2
     rw[next_eq q g2]
     dsimp only[Option.bind_some]
     refine Rs.bind (Lookup_rs q (T (adv s1).p).t) fun z hz=>?_
     by_cases hk:(T (s1.p+1)).k=1
     ·refine Rs.neg (by simpa[Lx.adv]using hk) ?_
      rw[if_neg (fun h=>h hk)]at hpp
      by_cases hu:unitP (T (s1.p+1)).t=false
      ·rw[if_pos hu]at hpp
       rw[hpp]at hop
       refine Rs.pos (by rw[hz];simpa[Lx.adv]using hu) ?_
       rw[fail_eq q g2]
       refine Rs.some ?_
       show BQ N T pr acc (prmsQ T (g+1) s) _
       rw[hop]
       exact⟨hl2,rfl⟩
      ·rw[if_neg hu]at hpp
       rw[hpp]at hop
       dsimp only[PR.bind]at hop
       refine Rs.neg (by rw[hz];simpa[Lx.adv]using hu) ?_
       have g3:=RS.adv hT g2 (.inr (by show(T (s1.p+1)).k≠0;rw[hk];decide))
       dsimp only at g3⊢
       refine Rs.pos ⟨by unfold roomBound;omega,by unfold maxLen;omega,Nat.le_refl _⟩ ?_
       rw[take_eq q g3]
       dsimp only[Option.bind_some]
       by_cases hi:isP T sComma (adv (adv s1))=true
       ·rw[if_pos hi]at hop⊢
        refine Rs.neg (by simp) (Rs.some (hQ _ ?_))
        have ho2:=PR.bind_out (hop▸ho)
        refine(ih m (by omega) (acc++[⟨b,(T (s1.p+1)).t⟩]) (adv (adv (adv s1))) _ (.inr (zq (w ((w (w (x1.1+1)+1),x1.2).1+1),(w (w (x1.1+1)+1),x1.2).2) (prmN a b (T (s1.p+1)).t))) ⟨_,rfl,(prmN_rep ha b (T (s1.p+1)).t)⟩ (by simp at hb⊢;omega) (RS.adv hT g3 (isP_ne (by decide) hi)) ho2).mono fun z hz=>?_
        rw[hop]
        cases hr2:prmsQ T g (adv (adv (adv s1)))with
        |out=>exact absurd hr2 ho2
        |err p c=>rw[hr2]at hz;rcases z with z|z<;>exact hz
        |ok l s3=>
         rw[hr2]at hz
         rcases z with z|z
         ·exact hz.elim
         ·obtain⟨x2,a2,e1,e2,e3⟩:=hz
          exact⟨x2,a2,e1,by simpa using e2,e3⟩
       ·rw[if_neg hi]at hop⊢
        refine Rs.pos (by simp) (Rs.some ?_)
        show BQ N T pr acc (prmsQ T (g+1) s) _
        rw[hop]
        exact⟨_,_,rfl,(prmN_rep ha b (T (s1.p+1)).t),g3⟩
     ·rw[if_pos hk]at hpp
      rw[hpp]at hop
      refine Rs.pos (by simpa[Lx.adv]using hk) ?_
      rw[fail_eq q g2]
      refine Rs.some ?_
      show BQ N T pr acc (prmsQ T (g+1) s) _
      rw[hop]
      exact⟨hl2,rfl⟩
    ·rw[if_neg hc]at hpp⊢
     rw[hpp]at hop
     dsimp only[PR.bind]at hop
     refine Rs.neg (by simp) ?_
     dsimp only
     refine Rs.pos ⟨by unfold roomBound;omega,by unfold maxLen;omega,Nat.le_refl _⟩ ?_
     rw[take_eq q g1]
     dsimp only[Option.bind_some]
     by_cases hi:isP T sComma s1=true
     ·rw[if_pos hi]at hop⊢
      refine Rs.neg (by simp) (Rs.some (hQ _ ?_))
      have ho2:=PR.bind_out (hop▸ho)
      refine(ih m (by omega) (acc++[⟨b,⟨#[]⟩⟩]) (adv s1) _ (.inr (zq (w (x1.1+1),x1.2) (prmN a b ⟨#[]⟩))) ⟨_,rfl,(prmN_rep ha b ⟨#[]⟩)⟩ (by simp at hb⊢;omega) (RS.adv hT g1 (isP_ne (by decide) hi)) ho2).mono fun z hz=>?_
      rw[hop]
      cases hr2:prmsQ T g (adv s1)with
      |out=>exact absurd hr2 ho2
      |err p c=>rw[hr2]at hz;rcases z with z|z<;>exact hz
      |ok l s3=>
       rw[hr2]at hz
       rcases z with z|z
       ·exact hz.elim
       ·obtain⟨x2,a2,e1,e2,e3⟩:=hz
        exact⟨x2,a2,e1,by simpa using e2,e3⟩
     ·rw[if_neg hi]at hop⊢
      refine Rs.pos (by simp) (Rs.some ?_)
      show BQ N T pr acc (prmsQ T (g+1) s) _
      rw[hop]
      exact⟨_,_,rfl,(prmN_rep ha b ⟨#[]⟩),g1⟩
   ·rw[e]at hpp
    rw[hpp]at hop
    refine Rs.some ?_
    show BQ N T pr acc (prmsQ T (g+1) s) _
    rw[hop]
    exact⟨hp,rfl⟩
end
end Go.Proofs.YtjfkkokeegpeiaaGreatDoor
/- Procedures are read as the plain parser reads them. -/
namespace Go.Proofs.YtjfkkokeegpeiaaGreatDoor
open Go Go.Am Go.Proofs.Lx
set_option maxRecDepth 100000
section
variable {N:Nat} {T:Nat→Tkn} {pr:List ByteArray} {s:PS} {x:StT}
def PPm(N:Nat)(T:Nat→Tkn)(pr:List ByteArray):PR (List Prm)→(Nat×(Nat→ByteArray)×(Nat→ByteArray)×StT)⊕(Int×Int)→Prop
 | .ok l s,.inl z=>RepQ l (z.2.1,z.2.2.1,z.1)∧RS N T pr s z.2.2.2
 | .err p c,.inr e=>p<N∧e=((T p).a,c)
 |_,_=>False
theorem paramsR_rs(hT:TokN N T){f q:Nat}(hq:20≤q)(hf:f<q)(hf2:f≤1000000000)(h:RS N T pr s x)(ho:paramsP T f s≠ .out):Rs (paramsR q x) (fun y=>PPm N T pr (paramsP T f s) (cv_params y)):=by
 unfold paramsR t_paramsR
 have hop:paramsP T f s=(mustP T sLPar s).bind fun _ s1=>if isP T sRPar s1=true then .ok [] (adv s1)else(prmsQ T f s1).bind fun l s2=>(mustP T sRPar s2).bind fun _ s3=>.ok l s3:=by
  unfold paramsP
  simp only[prms_eq]
 refine PU.bind (must_rs hT q h sLPar (by decide)) (fun s1 x1 e1 g1=>?_) (fun p c e hp=>?_)
 ·rw[e1]at hop
  dsimp only[PR.bind]at hop
  rw[take_eq q g1]
  dsimp only[Option.bind_some]
  by_cases hi:isP T sRPar s1=true
  ·rw[if_pos hi]at hop⊢
   refine Rs.pos rfl ?_
   rw[hop]
   exact Rs.some ⟨⟨rfl,fun j m e=>by simp at e⟩,g1.adv hT (isP_ne (by decide) hi)⟩
  ·rw[if_neg hi]at hop⊢
   refine Rs.neg (by simp) ?_
   have ho2:=PR.bind_out (hop▸ho)
   refine Rs.bind (prms_loop hT hq x f q hf [] s1 x1 (.inl (z0 x1)) ⟨rfl,rfl⟩ (by simpa using hf2) g1 ho2) fun z hz=>?_
   cases hr2:prmsQ T f s1 with
   |out=>exact absurd hr2 ho2
   |err p c=>
    rw[hr2]at hz hop
    rcases z with z|z
    ·rw[hop];exact Rs.some hz
    ·exact hz.elim
   |ok l s2=>
    rw[hr2]at hz hop
    dsimp only[PR.bind]at hop
    rcases z with z|z
    ·exact hz.elim
    ·obtain⟨x2,a,rfl,ha,g3⟩:=hz
     refine PU.bind (must_rs hT q g3 sRPar (by decide)) (fun s3 x3 e g4=>?_) (fun p c e hp=>?_)
     ·rw[hop,e]
      exact Rs.some ⟨ha,g4⟩
     ·(rw[hop,e];exact Rs.some ⟨hp,rfl⟩)
 ·(rw[hop,e];exact Rs.some ⟨hp,rfl⟩)
theorem params_rs(hT:TokN N T){f q:Nat}(hq:20≤q)(hf:f<q)(hf2:f≤1000000000){u:Nat→ByteArray}(hu:Ag u pr)(hp:s.p<N)(ho4:s.o≤12)(hl:pr.length≤2000000000)(ho:paramsP T f {s with vs:=[]}≠ .out):
 Rs (params q (((s.p:Nat):Int),((s.o:Nat):Int),N,(fun j=>(T j).k),(fun j=>(T j).a),(fun j=>(T j).t),(fun j=>(T j).n),pr.length,u)) (PPm N T pr (paramsP T f {s with vs:=[]})):=by
 unfold params
 refine Rs.map (P:=fun y=>PPm N T pr (paramsP T f {s with vs:=[]}) (cv_params y)) ?_ fun z hz=>hz
 exact paramsR_rs hT hq hf hf2 (s:={s with vs:=[]}) ⟨fun _=>ByteArray.empty,u,rfl,fun j b e=>by simp at e,hu,hp,ho4,by simp,hl⟩ ho
def RepC(c:Prc)(z:ByteArray×Nat×(Nat→ByteArray)×(Nat→ByteArray)×NodeT):Prop:=z.1=c.x∧RepQ c.ps (z.2.2.1,z.2.2.2.1,z.2.1)∧RepN c.b z.2.2.2.2
def PC(N:Nat)(T:Nat→Tkn)(pr:List ByteArray):PR Prc→g_procedure→Prop
 | .ok c s,.inl z=>RepC c (z.1,z.2.1,z.2.2.1,z.2.2.2.1,z.2.2.2.2.1,z.2.2.2.2.2.1,z.2.2.2.2.2.2.1,z.2.2.2.2.2.2.2.1,z.2.2.2.2.2.2.2.2.1)∧RS N T (pr++[c.x]) s z.2.2.2.2.2.2.2.2.2
 | .err p c,.inr e=>p<N∧e=((T p).a,c)
 |_,_=>False
theorem procs_loop(q:Nat)(x0:a_procedure)(a:ByteArray){v u:Nat→ByteArray}(h1:Ag v s.vs)(h2:Ag u pr)(h3:s.p<N)(hN:N≤4001)(h4:s.o≤12)(h5:s.vs.length≤12)(h6:pr.length≤2000000000):
 ∀(n i m:Nat),i+n=pr.length→n<m→(∀j,j<i→pr[j]? ≠some a)→
 Rs (lpG (fun y=>procedure_l0_t (must q) (name q) (fail q) (params q) (block q) x0 y (fun y=>some (.inl y)) (fun z=>some (.inr z))) m (pr.length,((pr.length:Nat):Int),N,(fun j=>(T j).k),(fun j=>(T j).a),(fun j=>(T j).t),(fun j=>(T j).n),(((s.p+1:Nat):Nat):Int),((s.o:Nat):Int),s.vs.length,v,u,a,((i:Nat):Int)))
  (fun z=>if inP pr a=true then z= .inl ((T s.p).a,4)else z= .inr (N,(fun j=>(T j).k),(fun j=>(T j).a),(fun j=>(T j).t),(fun j=>(T j).n),(((s.p+1:Nat):Nat):Int),((s.o:Nat):Int),s.vs.length,pr.length,v,u,a)):=by
 intro n
 induction n with
 |zero=>
  intro i m hi hm hno
  obtain⟨m,rfl⟩:∃k,m=k+1:=⟨m-1,by omega⟩
  refine Rs.step ?_
  unfold procedure_l0_t
  dsimp only
  refine Rs.neg (by simp;omega) (Rs.some ?_)
  have hnin:¬inP pr a=true:=by
   rw[inP_iff,List.mem_iff_getElem?]
   rintro⟨j,hj⟩
   have:=(List.getElem?_eq_some_iff.1 hj).1
   exact hno j (by omega) hj
  show(if inP pr a=true then _ else _)
  rw[if_neg hnin]
 |succ n ih=>
  intro i m hi hm hno
  obtain⟨m,rfl⟩:∃k,m=k+1:=⟨m-1,by omega⟩
  refine Rs.step ?_
  unfold procedure_l0_t
  dsimp only
  refine Rs.pos (by simp;omega) (Rs.pos ⟨by omega,by omega⟩ (Rs.pos ⟨by simp;omega,rfl⟩ ?_))
  have hget:pr[i]? =some (u i):=by
   have hlt:i<pr.length:=by omega
   have:=List.getElem?_eq_getElem hlt
   rw[this,h2 i _ this]
  have e:0+Int.toNat ((i:Nat):Int)=i:=by omega
  rw[e]
  refine Rs.ite (fun heq=>?_) (fun hne=>?_)
  ·rw[tl_eq]at heq
   have hin:inP pr a=true:=by
    rw[inP_iff,←heq]
    exact List.mem_iff_getElem?.2 ⟨i,hget⟩
   have e2:w ((((s.p+1:Nat):Nat):Int)-1)=((s.p:Nat):Int):=by rw[w_in (by omega) (by omega)];omega
   rw[e2,fail_eq q (s:=s) (pr:=pr) (N:=N) (T:=T) ⟨v,u,rfl,h1,h2,h3,h4,h5,h6⟩]
   refine Rs.some ?_
   show(if inP pr a=true then _ else _)
   rw[if_pos hin]
  ·rw[tl_eq]at hne
   refine Rs.some ?_
   show Rs (lpG _ m _) _
   rw[w_succ (by omega)]
   refine ih (i+1) m (by omega) (by omega) fun j hj=>?_
   by_cases hji:j=i
   ·subst hji
    rw[hget]
    simpa using hne
   ·exact hno j (by omega)
theorem procedure_rs(hT:TokN N T){f q:Nat}(hq:2*f+2000000100≤q)(hf2:f≤1000000000)(h:RS N T pr s x)(hl:pr.length≤1999999999)(ho:procP T f pr s≠ .out):Rs (procedure q x) (PC N T pr (procP T f pr s)):=by
 unfold procedure t_procedure
 have hop:procP T f pr s=(mustP T w_procedure s).bind fun _ s1=>(nameP T s1).bind fun x s2=>if inP pr x=true then .err s1.p 4 else(paramsP T f {s2 with vs:=[]}).bind fun l s3=>(blockP T f s3).bind fun b s4=>.ok ⟨x,l,b⟩ s4:=rfl
 refine PU.bind (must_rs hT q h w_procedure (by decide)) (fun s1 x1 e1 g1=>?_) (fun p c e hp=>?_)
 ·rw[e1]at hop
  dsimp only[PR.bind]at hop
  refine PX.bind (name_rs hT q g1) (fun a s2 x2 e2 g2=>?_) (fun p c e hp=>?_)
  ·obtain⟨rfl,rfl,hk,hr⟩:=nameP_ok e2
   rw[e2]at hop
   dsimp only[PR.bind]at hop
   obtain⟨v,u,rfl,h1,h2,h3,h4,h5,h6⟩:=g2
   have hsp:=g1.lt
   have hN:=hT.big
   unfold procedure_l0
   refine Rs.bind (procs_loop (s:=s1) (pr:=pr) q x _ h1 h2 hsp hN h4 h5 h6 pr.length 0 q (by omega) (by omega) (fun j hj=>absurd hj (Nat.not_lt_zero j))) fun z hz=>?_
   by_cases hin:inP pr (T s1.p).t=true
   ·rw[if_pos hin]at hz hop
    subst hz
    rw[hop]
    exact Rs.some ⟨hsp,rfl⟩
   ·rw[if_neg hin]at hz hop
    subst hz
    dsimp only[Sum.elim_inr,Sum.elim_inl]
    refine Rs.pos ⟨by unfold roomBound;omega,by unfold maxLen;omega,Nat.le_refl _⟩ ?_
    have hl2:(pr++[(T s1.p).t]).length=pr.length+1:=by simp
    have hpar:=params_rs (s:=adv s1) (pr:=pr++[(T s1.p).t]) hT (by omega:20≤q) (by omega:f<q) hf2 (h2.push (x:=(T s1.p).t)) h3 h4 (by omega) (PR.bind_out (hop▸ho))
    rw[hl2]at hpar
    refine Rs.bind hpar fun z hz2=>?_
    cases hr3:paramsP T f {adv s1 with vs:=[]}with
    |out=>rw[hr3]at hz2;rcases z with z|z<;>exact hz2.elim
    |err p c=>
     rw[hr3]at hz2 hop
     rcases z with z|z
     ·exact hz2.elim
     ·rw[hop];exact Rs.some hz2
    |ok l s3=>
     rw[hr3]at hz2 hop
     dsimp only[PR.bind]at hop
     rcases z with z|z
     ·obtain⟨z1,z2,z3,x3⟩:=z
      obtain⟨k1,k2⟩:=hz2
      dsimp only[Sum.elim_inl]at k1 k2⊢
      refine PN.bind ((stmts hT f hf2 q (by omega)).2 f (Nat.le_refl _) s3 x3 k2 (PR.bind_out (hop▸ho))) (fun t s4 k n b m c x4 e hr hx=>?_) (fun p c e hp=>?_)
      ·rw[hop,e]
       exact Rs.some ⟨⟨rfl,k1,hr⟩,hx⟩
      ·(rw[hop,e];exact Rs.some ⟨hp,rfl⟩)
     ·exact hz2.elim
  ·(rw[hop,e];exact Rs.some ⟨hp,rfl⟩)
 ·(rw[hop,e];exact Rs.some ⟨hp,rfl⟩)
end
end Go.Proofs.YtjfkkokeegpeiaaGreatDoor
/- Parse, lifted where it returns. -/
namespace Go.Proofs.YtjfkkokeegpeiaaGreatDoor
open Go Go.Am Go.Proofs
set_option maxRecDepth 100000
abbrev a_TokensV:Type:=ByteArray
abbrev g_TokensV:Type:=Int×Int×Nat×FI×FI×FS×FI
def A_TokensV:AR a_TokensV:=fun x=>([st x],[])
def d_TokensV(t:TT):a_TokensV:=(vS (ag t 0))
theorem v_TokensV:VI A_TokensV:=vd d_TokensV fun _=>rfl
def R_TokensV:g_TokensV→CRes:=fun z=>.ret (.tup [.ro 4 z.2.2.1 (fun j=>[i64 (z.2.2.2.1 j),i64 (z.2.2.2.2.1 j),st (z.2.2.2.2.2.1 j),i64 (z.2.2.2.2.2.2 j)]),i64 z.1,i64 z.2.1]) []
def cv_Tokens:g_Tokens→g_TokensV:=Sum.elim (fun z=>(z.1,z.2,0,fun _=>0,fun _=>0,fun _=>ByteArray.empty,fun _=>0)) id
noncomputable def TokensV(q:Nat)(x:a_TokensV):Option g_TokensV:=(Tokens q x).map cv_Tokens
theorem sc_TokensV(q:Nat):Lw E5 20 A_TokensV R_TokensV (TokensV q):=by
 intro x z h
 obtain⟨y,hy,rfl⟩:=Option.map_eq_some_iff.1 h
 have hs:=sc_Tokens q x y hy
 rcases y with y|y
 ·exact SC.le hs (Le.tup (LeL.cons Le.nil_ro (LeL.cons (Le.refl _) (LeL.cons (Le.refl _) LeL.nil))))
 ·have h2:=SC.giveM (L2:=[]) 0 hs (by rfl) (by simp[V.bw,V.bw2,V.bw1,hp,V.pure,pureL])
  simp only[V.bw,V.bw2,V.bw1,hp,List.map_cons,List.map_nil,List.getD_eq_getElem?_getD,List.getElem?_cons_succ,List.getElem?_cons_zero,Option.getD_some,Nat.zero_add,Nat.le_refl,and_self,if_true]at h2
  exact h2
abbrev a_nextZ:Type:=Int×Int×Nat×FI×FI×FS×FI
abbrev g_nextZ:Type:=Int×Int×ByteArray×Int×Int×Int×Nat×FI×FI×FS×FI
def A_nextZ:AR a_nextZ:=fun x=>([.ptr 0 0],[some (.blk [.ro 4 x.2.2.1 (fun j=>[i64 (x.2.2.2.1 j),i64 (x.2.2.2.2.1 j),st (x.2.2.2.2.2.1 j),i64 (x.2.2.2.2.2.2 j)]),i64 x.1,i64 x.2.1,nilS,nilS])])
def d_nextZ(t:TT):a_nextZ:=((vI (cc t 0 1)),vI (cc t 0 2),vRoN (cc t 0 0),dTI (cc t 0 0) 0,dTI (cc t 0 0) 1,dTS (cc t 0 0) 2,dTI (cc t 0 0) 3)
theorem v_nextZ:VI A_nextZ:=vd d_nextZ fun _=>rfl
def R_nextZ:g_nextZ→CRes:=fun z=>.ret (.agg [i64 z.1,i64 z.2.1,st z.2.2.1,i64 z.2.2.2.1]) [some (.blk [.ro 4 z.2.2.2.2.2.2.1 (fun j=>[i64 (z.2.2.2.2.2.2.2.1 j),i64 (z.2.2.2.2.2.2.2.2.1 j),st (z.2.2.2.2.2.2.2.2.2.1 j),i64 (z.2.2.2.2.2.2.2.2.2.2 j)]),i64 z.2.2.2.2.1,i64 z.2.2.2.2.2.1,nilS,nilS])]
def t_nextZ{β:Type}(x:a_nextZ)(dn:g_nextZ→Option β):Option β:=
 if 0≤x.1∧x.1< ((x.2.2.1:Nat):Int)then dn (x.2.2.2.1 (Int.toNat x.1),x.2.2.2.2.1 (Int.toNat x.1),x.2.2.2.2.2.1 (Int.toNat x.1),x.2.2.2.2.2.2 (Int.toNat x.1),x)else none
theorem n_nextZ{β:Type}(x)(dn:g_nextZ→Option β):t_nextZ x dn=(t_nextZ x some).bind dn:=by
 unfold t_nextZ
 repeat' first|exact n0|refine n1 fun _=>?_|refine n2 ?_ ?_|refine n3 (fun _=>?_) fun _=>?_|rfl
theorem r_nextZ(x):callK E5 ca0 lo0 22 (A_nextZ x).1 (A_nextZ x).2 K=t_nextZ x (fun z=>some (.c (R_nextZ z))):=by kernel_rfl
noncomputable def nextZ(q:Nat)(x:a_nextZ):Option g_nextZ:=t_nextZ x some
theorem sc_nextZ(q:Nat):Lw E5 22 A_nextZ R_nextZ (nextZ q):=sof hW5 hX5 ca0_sound (fun _=>lo0_sound) fun x=>(r_nextZ x).trans (by rw[n_nextZ]<;>rfl)
abbrev a_ParseT:Type:=ByteArray
abbrev g_ParseT:Type:=(Int×Int)⊕(Nat×FS×FN×FM×FI×FI×FS×FN×FM)
def A_ParseT:AR a_ParseT:=fun x=>([st x],[])
def R_ParseT:g_ParseT→CRes:=Sum.elim (fun z=>CRes.ret (V.tup [nilS,i64 z.1,i64 z.2]) []:(Int×Int)→CRes) (fun z=>CRes.ret (V.tup [V.sl 0 6 0 z.1,i64 0,i64 0]) [some (Chunk.row 56 6 z.1 fun j=>[st (z.2.1 j),V.ro 2 (z.2.2.1 j) (z.2.2.2.1 j),i64 (z.2.2.2.2.1 j),i64 (z.2.2.2.2.2.1 j),st (z.2.2.2.2.2.2.1 j),V.ro 4 (z.2.2.2.2.2.2.2.1 j) (z.2.2.2.2.2.2.2.2 j)])]:(Nat×FS×FN×FM×FI×FI×FS×FN×FM)→CRes)
abbrev ParseT_l0_a:Type:=(Int×Int×Nat×FI×FI×FS×FI)⊕(FS×FN×FM×FI×FI×FS×FN×FM×Int×Int×Nat×FI×FI×FS×FI×Int×Int×Nat×Nat×FS×FS×Nat)
abbrev ParseT_l0_g:Type:=(Int×Int×Int×Int)⊕(Int×Int)⊕(Int×Int×Nat×FS×FN×FM×FI×FI×FS×FN×FM×Int×Int)⊕(Nat×FS×FN×FM×FI×FI×FS×FN×FM×Int×Int)
def ParseT_l0_S0(x:a_ParseT)(y:Int×Int×Nat×FI×FI×FS×FI):St:={fr:=[V.junk,V.junk,V.ptr 0 0,V.ptr 1 0,V.ptr 2 0,V.junk,V.ptr 3 0]++jk 24,H:=hp [some (Chunk.blk [nilS]),some (Chunk.blk [i64 y.1]),some (Chunk.blk [i64 y.2.1]),some (Chunk.blk [V.ro 4 y.2.2.1 fun j=>[i64 (y.2.2.2.1 j),i64 (y.2.2.2.2.1 j),st (y.2.2.2.2.2.1 j),i64 (y.2.2.2.2.2.2 j)],i64 0,i64 0,nilS,nilS])],nx:=4,rt:=0,me:=8}
def ParseT_l0_d0(s:St):Int×Int×Nat×FI×FI×FS×FI:=((vI (cb s 1 0)),vI (cb s 2 0),vRoN (cb s 3 0),dTI (cb s 3 0) 0,dTI (cb s 3 0) 1,dTS (cb s 3 0) 2,dTI (cb s 3 0) 3)
def ParseT_l0_S1(x:a_ParseT)(y:FS×FN×FM×FI×FI×FS×FN×FM×Int×Int×Nat×FI×FI×FS×FI×Int×Int×Nat×Nat×FS×FS×Nat):St:={fr:=[V.junk,V.junk,V.ptr 0 0,V.ptr 2 0,V.ptr 3 0,V.junk,V.ptr 4 0]++jk 24,H:=hp [some (Chunk.blk [V.sl 1 6 0 y.2.2.2.2.2.2.2.2.2.2.2.2.2.2.2.2.2.2.2.2.2]),some (Chunk.row 56 6 y.2.2.2.2.2.2.2.2.2.2.2.2.2.2.2.2.2.2.2.2.2 fun j=>[st (y.1 j),V.ro 2 (y.2.1 j) (y.2.2.1 j),i64 (y.2.2.2.1 j),i64 (y.2.2.2.2.1 j),st (y.2.2.2.2.2.1 j),V.ro 4 (y.2.2.2.2.2.2.1 j) (y.2.2.2.2.2.2.2.1 j)]),some (Chunk.blk [i64 y.2.2.2.2.2.2.2.2.1]),some (Chunk.blk [i64 y.2.2.2.2.2.2.2.2.2.1]),some (Chunk.blk [V.ro 4 y.2.2.2.2.2.2.2.2.2.2.1 fun j=>[i64 (y.2.2.2.2.2.2.2.2.2.2.2.1 j),i64 (y.2.2.2.2.2.2.2.2.2.2.2.2.1 j),st (y.2.2.2.2.2.2.2.2.2.2.2.2.2.1 j),i64 (y.2.2.2.2.2.2.2.2.2.2.2.2.2.2.1 j)],i64 y.2.2.2.2.2.2.2.2.2.2.2.2.2.2.2.1,i64 y.2.2.2.2.2.2.2.2.2.2.2.2.2.2.2.2.1,V.sl 5 1 0 y.2.2.2.2.2.2.2.2.2.2.2.2.2.2.2.2.2.1,V.sl 6 1 0 y.2.2.2.2.2.2.2.2.2.2.2.2.2.2.2.2.2.2.1]),some (Chunk.row 9 1 y.2.2.2.2.2.2.2.2.2.2.2.2.2.2.2.2.2.1 fun j=>[st (y.2.2.2.2.2.2.2.2.2.2.2.2.2.2.2.2.2.2.2.1 j)]),some (Chunk.row 9 1 y.2.2.2.2.2.2.2.2.2.2.2.2.2.2.2.2.2.2.1 fun j=>[st (y.2.2.2.2.2.2.2.2.2.2.2.2.2.2.2.2.2.2.2.2.1 j)])],nx:=7,rt:=0,me:=8}
def ParseT_l0_d1(s:St):FS×FN×FM×FI×FI×FS×FN×FM×Int×Int×Nat×FI×FI×FS×FI×Int×Int×Nat×Nat×FS×FS×Nat:=((dRS (s.H 1) 0),dRN (s.H 1) 1,dRF (s.H 1) 1,dRI (s.H 1) 2,dRI (s.H 1) 3,dRS (s.H 1) 4,dRN (s.H 1) 5,dRF (s.H 1) 5,vI (cb s 2 0),vI (cb s 3 0),vRoN (cb s 4 0),dTI (cb s 4 0) 0,dTI (cb s 4 0) 1,dTS (cb s 4 0) 2,dTI (cb s 4 0) 3,vI (cb s 4 1),vI (cb s 4 2),vSlN (cb s 4 3),vSlN (cb s 4 4),dRS (s.H 5) 0,dRS (s.H 6) 0,vSlN (cb s 0 0))
def ParseT_l0_S(x:a_ParseT):ParseT_l0_a→St:=(Sum.elim (ParseT_l0_S0 x) (ParseT_l0_S1 x))
def ParseT_l0_d(s:St):ParseT_l0_a:=(match s.nx==4 with|true=>(.inl (ParseT_l0_d0 s)) |false=>(.inr (ParseT_l0_d1 s)))
theorem ParseT_l0_u(x:a_ParseT):VL (ParseT_l0_S x):=vl ParseT_l0_d (fun y=>by rcases y with y|y<;>rfl)
def ParseT_l0_T(x:a_ParseT):ParseT_l0_g→Ex×St:=(Sum.elim (fun z=>(Ex.panic (V.ifc 45 (V.agg [i64 z.1,i64 z.2.1])),{fr:=[V.junk,V.junk,V.ptr 0 0,V.ptr 1 0,V.ptr 2 0]++jk 26,H:=hp [some (Chunk.blk [nilS]),some (Chunk.blk [i64 z.2.2.1]),some (Chunk.blk [i64 z.2.2.2])],nx:=3,rt:=0,me:=8})) (Sum.elim (fun z=>(Ex.exit 0,{fr:=[V.junk,V.junk,V.ptr 0 0,V.ptr 1 0,V.ptr 2 0]++jk 26,H:=hp [some (Chunk.blk [nilS]),some (Chunk.blk [i64 z.1]),some (Chunk.blk [i64 z.2])],nx:=3,rt:=0,me:=8})) (Sum.elim (fun z=>(Ex.panic (V.ifc 45 (V.agg [i64 z.1,i64 z.2.1])),{fr:=[V.junk,V.junk,V.ptr 0 0,V.ptr 2 0,V.ptr 3 0]++jk 26,H:=hp [some (Chunk.blk [V.sl 1 6 0 z.2.2.1]),some (Chunk.row 56 6 z.2.2.1 fun j=>[st (z.2.2.2.1 j),V.ro 2 (z.2.2.2.2.1 j) (z.2.2.2.2.2.1 j),i64 (z.2.2.2.2.2.2.1 j),i64 (z.2.2.2.2.2.2.2.1 j),st (z.2.2.2.2.2.2.2.2.1 j),V.ro 4 (z.2.2.2.2.2.2.2.2.2.1 j) (z.2.2.2.2.2.2.2.2.2.2.1 j)]),some (Chunk.blk [i64 z.2.2.2.2.2.2.2.2.2.2.2.1]),some (Chunk.blk [i64 z.2.2.2.2.2.2.2.2.2.2.2.2])],nx:=4,rt:=0,me:=8})) (fun z=>(Ex.exit 0,{fr:=[V.junk,V.junk,V.ptr 0 0,V.ptr 2 0,V.ptr 3 0]++jk 26,H:=hp [some (Chunk.blk [V.sl 1 6 0 z.1]),some (Chunk.row 56 6 z.1 fun j=>[st (z.2.1 j),V.ro 2 (z.2.2.1 j) (z.2.2.2.1 j),i64 (z.2.2.2.2.1 j),i64 (z.2.2.2.2.2.1 j),st (z.2.2.2.2.2.2.1 j),V.ro 4 (z.2.2.2.2.2.2.2.1 j) (z.2.2.2.2.2.2.2.2.1 j)]),some (Chunk.blk [i64 z.2.2.2.2.2.2.2.2.2.1]),some (Chunk.blk [i64 z.2.2.2.2.2.2.2.2.2.2])],nx:=4,rt:=0,me:=8})))))
def ParseT_l0_t0{β:Type}(c_TokensV:a_TokensV→Option g_TokensV)(c_nextZ:a_nextZ→Option g_nextZ)(c_next:a_next→Option g_next)(c_procedureZ:a_procedureZ→Option g_procedureZ)(c_procedure:a_procedure→Option g_procedure)(x:a_ParseT)(y:Int×Int×Nat×FI×FI×FS×FI)(nx:ParseT_l0_a→Option β)(dn:ParseT_l0_g→Option β):Option β:=
 (c_nextZ (0,0,y.2.2)).bind fun z412=>if(z412.1 !=0)=true then(c_procedureZ z412.2.2.2.2).bind fun z420=>Sum.elim (fun z420a=>nx (.inr (fun j=>z420a.1,fun j=>z420a.2.1,fun(j j_1:Nat)=>[st (z420a.2.2.1 j_1),st (z420a.2.2.2.1 j_1)],fun j=>z420a.2.2.2.2.1,fun j=>z420a.2.2.2.2.2.1,fun j=>z420a.2.2.2.2.2.2.1,fun j=>z420a.2.2.2.2.2.2.2.1,fun j=>z420a.2.2.2.2.2.2.2.2.1,y.1,y.2.1,z420a.2.2.2.2.2.2.2.2.2.2.2.1,z420a.2.2.2.2.2.2.2.2.2.2.2.2.1,z420a.2.2.2.2.2.2.2.2.2.2.2.2.2.1,z420a.2.2.2.2.2.2.2.2.2.2.2.2.2.2.1,z420a.2.2.2.2.2.2.2.2.2.2.2.2.2.2.2.1,z420a.2.2.2.2.2.2.2.2.2.1,z420a.2.2.2.2.2.2.2.2.2.2.1,z420a.2.2.2.2.2.2.2.2.2.2.2.2.2.2.2.2.1,z420a.2.2.2.2.2.2.2.2.2.2.2.2.2.2.2.2.2.2.1,z420a.2.2.2.2.2.2.2.2.2.2.2.2.2.2.2.2.2.1,z420a.2.2.2.2.2.2.2.2.2.2.2.2.2.2.2.2.2.2.2,1))) (fun z420b=>dn (.inl (z420b.1,z420b.2,y.1,y.2.1))) z420 else dn (.inr (.inl (y.1,y.2.1)))
theorem ParseT_l0_n0{β:Type}(c_TokensV c_nextZ)(c_next c_procedureZ c_procedure)(x)(y)(nx:ParseT_l0_a→Option β)(dn):ParseT_l0_t0 c_TokensV c_nextZ c_next c_procedureZ c_procedure x y nx dn=(ParseT_l0_t0 c_TokensV c_nextZ c_next c_procedureZ c_procedure x y (fun y=>some (.inl y)) (fun z=>some (.inr z))).bind fun r=>Sum.elim nx dn r:=by
 unfold ParseT_l0_t0
 repeat' first|exact n0|refine n1 fun _=>?_|refine n2 ?_ ?_|refine n3 (fun _=>?_) fun _=>?_|rfl
theorem ParseT_l0_r0(c_TokensV c_nextZ)(c_next c_procedureZ c_procedure)(x)(y)(lo:LoopT):loopK E5 (ftb 20 A_TokensV R_TokensV c_TokensV (ftg 22 (fun _ L=>L.length==1) A_nextZ R_nextZ c_nextZ (ftb 22 A_next R_next c_next (fg2 23 (fun _ L=>L.length==1) A_procedureZ R_procedureZ c_procedureZ (fg2 23 (fun _ L=>L.length==3) A_procedure R_procedure c_procedure ca0))))) lo 0 92 (bodyOf E5 8 0) (ParseT_l0_S x (.inl y)) (KCM [(0,28),(1000,28)] 28)=ParseT_l0_t0 (vf A_TokensV c_TokensV) (vf A_nextZ c_nextZ) (vf A_next c_next) (vf A_procedureZ c_procedureZ) (vf A_procedure c_procedure) x y (fun y=>lo 0 92 (bodyOf E5 8 0) (ParseT_l0_S x y) (KCM [(0,28),(1000,28)] 28)) (fun z=>some (.l (ParseT_l0_T x z).1 (ParseT_l0_T x z).2)):=by kernel_rfl
def ParseT_l0_t1{β:Type}(c_TokensV:a_TokensV→Option g_TokensV)(c_nextZ:a_nextZ→Option g_nextZ)(c_next:a_next→Option g_next)(c_procedureZ:a_procedureZ→Option g_procedureZ)(c_procedure:a_procedure→Option g_procedure)(x:a_ParseT)(y:FS×FN×FM×FI×FI×FS×FN×FM×Int×Int×Nat×FI×FI×FS×FI×Int×Int×Nat×Nat×FS×FS×Nat)(nx:ParseT_l0_a→Option β)(dn:ParseT_l0_g→Option β):Option β:=
 (c_next (y.2.2.2.2.2.2.2.2.2.2.2.2.2.2.2.1,y.2.2.2.2.2.2.2.2.2.2.2.2.2.2.2.2.1,y.2.2.2.2.2.2.2.2.2.2.1,y.2.2.2.2.2.2.2.2.2.2.2.1,y.2.2.2.2.2.2.2.2.2.2.2.2.1,y.2.2.2.2.2.2.2.2.2.2.2.2.2.1,y.2.2.2.2.2.2.2.2.2.2.2.2.2.2.1,y.2.2.2.2.2.2.2.2.2.2.2.2.2.2.2.2.2.1,y.2.2.2.2.2.2.2.2.2.2.2.2.2.2.2.2.2.2.2.1,y.2.2.2.2.2.2.2.2.2.2.2.2.2.2.2.2.2.2.1,y.2.2.2.2.2.2.2.2.2.2.2.2.2.2.2.2.2.2.2.2.1)).bind fun z434=>if(z434.1 !=0)=true then(c_procedure z434.2.2.2.2).bind fun z446=>Sum.elim (fun z446a=>if(y.2.2.2.2.2.2.2.2.2.2.2.2.2.2.2.2.2.2.2.2.2+1)*96≤roomBound∧y.2.2.2.2.2.2.2.2.2.2.2.2.2.2.2.2.2.2.2.2.2+1≤maxLen∧y.2.2.2.2.2.2.2.2.2.2.2.2.2.2.2.2.2.2.2.2.2≤y.2.2.2.2.2.2.2.2.2.2.2.2.2.2.2.2.2.2.2.2.2 then nx (.inr (fun j=>if j<y.2.2.2.2.2.2.2.2.2.2.2.2.2.2.2.2.2.2.2.2.2 then y.1 j else z446a.1,fun j=>if j<y.2.2.2.2.2.2.2.2.2.2.2.2.2.2.2.2.2.2.2.2.2 then y.2.1 j else z446a.2.1,fun(j j_1:Nat)=>if j<y.2.2.2.2.2.2.2.2.2.2.2.2.2.2.2.2.2.2.2.2.2 then y.2.2.1 j j_1 else[st (z446a.2.2.1 j_1),st (z446a.2.2.2.1 j_1)],fun j=>if j<y.2.2.2.2.2.2.2.2.2.2.2.2.2.2.2.2.2.2.2.2.2 then y.2.2.2.1 j else z446a.2.2.2.2.1,fun j=>if j<y.2.2.2.2.2.2.2.2.2.2.2.2.2.2.2.2.2.2.2.2.2 then y.2.2.2.2.1 j else z446a.2.2.2.2.2.1,fun j=>if j<y.2.2.2.2.2.2.2.2.2.2.2.2.2.2.2.2.2.2.2.2.2 then y.2.2.2.2.2.1 j else z446a.2.2.2.2.2.2.1,fun j=>if j<y.2.2.2.2.2.2.2.2.2.2.2.2.2.2.2.2.2.2.2.2.2 then y.2.2.2.2.2.2.1 j else z446a.2.2.2.2.2.2.2.1,fun(j j_1:Nat)=>if j<y.2.2.2.2.2.2.2.2.2.2.2.2.2.2.2.2.2.2.2.2.2 then y.2.2.2.2.2.2.2.1 j j_1 else z446a.2.2.2.2.2.2.2.2.1 j_1,y.2.2.2.2.2.2.2.2.1,y.2.2.2.2.2.2.2.2.2.1,z446a.2.2.2.2.2.2.2.2.2.2.2.1,z446a.2.2.2.2.2.2.2.2.2.2.2.2.1,z446a.2.2.2.2.2.2.2.2.2.2.2.2.2.1,z446a.2.2.2.2.2.2.2.2.2.2.2.2.2.2.1,z446a.2.2.2.2.2.2.2.2.2.2.2.2.2.2.2.1,z446a.2.2.2.2.2.2.2.2.2.1,z446a.2.2.2.2.2.2.2.2.2.2.1,z446a.2.2.2.2.2.2.2.2.2.2.2.2.2.2.2.2.1,z446a.2.2.2.2.2.2.2.2.2.2.2.2.2.2.2.2.2.2.1,z446a.2.2.2.2.2.2.2.2.2.2.2.2.2.2.2.2.2.1,z446a.2.2.2.2.2.2.2.2.2.2.2.2.2.2.2.2.2.2.2,y.2.2.2.2.2.2.2.2.2.2.2.2.2.2.2.2.2.2.2.2.2+1))else none) (fun z446b=>dn (.inr (.inr (.inl (z446b.1,z446b.2,y.2.2.2.2.2.2.2.2.2.2.2.2.2.2.2.2.2.2.2.2.2,y.1,y.2.1,y.2.2.1,y.2.2.2.1,y.2.2.2.2.1,y.2.2.2.2.2.1,y.2.2.2.2.2.2.1,y.2.2.2.2.2.2.2.1,y.2.2.2.2.2.2.2.2.1,y.2.2.2.2.2.2.2.2.2.1))))) z446 else dn (.inr (.inr (.inr (y.2.2.2.2.2.2.2.2.2.2.2.2.2.2.2.2.2.2.2.2.2,y.1,y.2.1,y.2.2.1,y.2.2.2.1,y.2.2.2.2.1,y.2.2.2.2.2.1,y.2.2.2.2.2.2.1,y.2.2.2.2.2.2.2.1,y.2.2.2.2.2.2.2.2.1,y.2.2.2.2.2.2.2.2.2.1))))
theorem ParseT_l0_n1{β:Type}(c_TokensV c_nextZ)(c_next c_procedureZ c_procedure)(x)(y)(nx:ParseT_l0_a→Option β)(dn):ParseT_l0_t1 c_TokensV c_nextZ c_next c_procedureZ c_procedure x y nx dn=(ParseT_l0_t1 c_TokensV c_nextZ c_next c_procedureZ c_procedure x y (fun y=>some (.inl y)) (fun z=>some (.inr z))).bind fun r=>Sum.elim nx dn r:=by
 unfold ParseT_l0_t1
 repeat' first|exact n0|refine n1 fun _=>?_|refine n2 ?_ ?_|refine n3 (fun _=>?_) fun _=>?_|rfl
theorem ParseT_l0_r1(c_TokensV c_nextZ)(c_next c_procedureZ c_procedure)(x)(y)(lo:LoopT):loopK E5 (ftb 20 A_TokensV R_TokensV c_TokensV (ftg 22 (fun _ L=>L.length==1) A_nextZ R_nextZ c_nextZ (ftb 22 A_next R_next c_next (fg2 23 (fun _ L=>L.length==1) A_procedureZ R_procedureZ c_procedureZ (fg2 23 (fun _ L=>L.length==3) A_procedure R_procedure c_procedure ca0))))) lo 0 92 (bodyOf E5 8 0) (ParseT_l0_S x (.inr y)) (KCM [(0,28),(1000,28)] 28)=ParseT_l0_t1 (vf A_TokensV c_TokensV) (vf A_nextZ c_nextZ) (vf A_next c_next) (vf A_procedureZ c_procedureZ) (vf A_procedure c_procedure) x y (fun y=>lo 0 92 (bodyOf E5 8 0) (ParseT_l0_S x y) (KCM [(0,28),(1000,28)] 28)) (fun z=>some (.l (ParseT_l0_T x z).1 (ParseT_l0_T x z).2)):=by kernel_rfl
noncomputable def ParseT_l0(c_TokensV:a_TokensV→Option g_TokensV)(c_nextZ:a_nextZ→Option g_nextZ)(c_next:a_next→Option g_next)(c_procedureZ:a_procedureZ→Option g_procedureZ)(c_procedure:a_procedure→Option g_procedure)(q:Nat)(x:a_ParseT):ParseT_l0_a→Option ParseT_l0_g:=lpG (Sum.elim (fun y=>ParseT_l0_t0 c_TokensV c_nextZ c_next c_procedureZ c_procedure x y (fun y=>some (.inl y)) (fun z=>some (.inr z))) (fun y=>ParseT_l0_t1 c_TokensV c_nextZ c_next c_procedureZ c_procedure x y (fun y=>some (.inl y)) (fun z=>some (.inr z)))) q
theorem ParseT_l0_s(c_TokensV)(h_TokensV:Lw E5 20 A_TokensV R_TokensV c_TokensV)(c_nextZ)(h_nextZ:Lw E5 22 A_nextZ R_nextZ c_nextZ)(c_next)(h_next:Lw E5 22 A_next R_next c_next)(c_procedureZ)(h_procedureZ:Lw E5 23 A_procedureZ R_procedureZ c_procedureZ)(c_procedure)(h_procedure:Lw E5 23 A_procedure R_procedure c_procedure)(q:Nat)(x:a_ParseT):Ll E5 (bodyOf E5 8 0) (ParseT_l0_S x) (ParseT_l0_T x) (ParseT_l0 c_TokensV c_nextZ c_next c_procedureZ c_procedure q x):=
 slp (fk h_TokensV (fk h_nextZ (fk h_next (fk2 h_procedureZ (fk2 h_procedure ca0_sound))))) hX5 (fun lo y=>by
  rcases y with y|y
  ·exact(ParseT_l0_r0 c_TokensV c_nextZ c_next c_procedureZ c_procedure x y lo).trans (by rw[v_TokensV,v_nextZ,v_next,v_procedureZ,v_procedure];exact ParseT_l0_n0 _ _ _ _ _ _ _ _ _)
  ·exact(ParseT_l0_r1 c_TokensV c_nextZ c_next c_procedureZ c_procedure x y lo).trans (by rw[v_TokensV,v_nextZ,v_next,v_procedureZ,v_procedure];exact ParseT_l0_n1 _ _ _ _ _ _ _ _ _)) (fun z=>by rcases z with z|z|z|z<;>kernel_rfl) q
def t_ParseT{β:Type}(c_TokensV:a_TokensV→Option g_TokensV)(c_nextZ:a_nextZ→Option g_nextZ)(c_next:a_next→Option g_next)(c_procedureZ:a_procedureZ→Option g_procedureZ)(c_procedure:a_procedure→Option g_procedure)(l_ParseT_l0:ParseT_l0_a→Option ParseT_l0_g)(x:a_ParseT)(dn:g_ParseT→Option β):Option β:=
 (c_TokensV x).bind fun z1=>if(z1.2.1 !=0)=true then dn (.inl (z1.1,z1.2.1))else(l_ParseT_l0 (.inl z1)).bind fun z388=>Sum.elim (fun z388a=>none) (fun z388b=>Sum.elim (fun z388ba=>dn (.inl (0,0))) (fun z388bb=>Sum.elim (fun z388bba=>none) (fun z388bbb=>dn (.inr (z388bbb.1,z388bbb.2.1,z388bbb.2.2.1,z388bbb.2.2.2.1,z388bbb.2.2.2.2.1,z388bbb.2.2.2.2.2.1,z388bbb.2.2.2.2.2.2.1,z388bbb.2.2.2.2.2.2.2.1,z388bbb.2.2.2.2.2.2.2.2.1))) z388bb) z388b) z388
theorem n_ParseT{β:Type}(c_TokensV c_nextZ)(c_next c_procedureZ c_procedure)(l_ParseT_l0)(x)(dn:g_ParseT→Option β):t_ParseT c_TokensV c_nextZ c_next c_procedureZ c_procedure l_ParseT_l0 x dn=(t_ParseT c_TokensV c_nextZ c_next c_procedureZ c_procedure l_ParseT_l0 x some).bind dn:=by
 unfold t_ParseT
 repeat' first|exact n0|refine n1 fun _=>?_|refine n2 ?_ ?_|refine n3 (fun _=>?_) fun _=>?_|rfl
theorem r_ParseT(c_TokensV c_nextZ)(c_next c_procedureZ c_procedure)(l_ParseT_l0)(x):callK E5 (ftb 20 A_TokensV R_TokensV c_TokensV (ftg 22 (fun _ L=>L.length==1) A_nextZ R_nextZ c_nextZ (ftb 22 A_next R_next c_next (fg2 23 (fun _ L=>L.length==1) A_procedureZ R_procedureZ c_procedureZ (fg2 23 (fun _ L=>L.length==3) A_procedure R_procedure c_procedure ca0))))) (lt4 0 (fun _=>true) (bodyOf E5 8 0) (ParseT_l0_S x) (ParseT_l0_T x) l_ParseT_l0 lo0) 8 (A_ParseT x).1 (A_ParseT x).2 K=t_ParseT (vf A_TokensV c_TokensV) (vf A_nextZ c_nextZ) (vf A_next c_next) (vf A_procedureZ c_procedureZ) (vf A_procedure c_procedure) (lf (bodyOf E5 8 0) (ParseT_l0_S x) l_ParseT_l0) x (fun z=>some (.c (R_ParseT z))):=by kernel_rfl
noncomputable def ParseT(q:Nat)(x:a_ParseT):Option g_ParseT:=t_ParseT (TokensV q) (nextZ q) (next q) (procedureZ q) (procedure q) (ParseT_l0 (TokensV q) (nextZ q) (next q) (procedureZ q) (procedure q) q x) x some
theorem sc_ParseT(q:Nat):Lw E5 8 A_ParseT R_ParseT (ParseT q):=sof hW5 hX5 (fk (sc_TokensV q) (fk (sc_nextZ q) (fk (sc_next q) (fk2 (sc_procedureZ q) (fk2 (sc_procedure q) ca0_sound))))) (fun x=>(lk4 (ParseT_l0_s (TokensV q) (sc_TokensV q) (nextZ q) (sc_nextZ q) (next q) (sc_next q) (procedureZ q) (sc_procedureZ q) (procedure q) (sc_procedure q) q x) lo0_sound)) fun x=>(r_ParseT (TokensV q) (nextZ q) (next q) (procedureZ q) (procedure q) (ParseT_l0 (TokensV q) (nextZ q) (next q) (procedureZ q) (procedure q) q x) x).trans (by rw[v_TokensV,v_nextZ,v_next,v_procedureZ,v_procedure,ParseT_l0_u,n_ParseT]<;>rfl)
end Go.Proofs.YtjfkkokeegpeiaaGreatDoor
/- Parse, lifted where it panics and recovers. -/
namespace Go.Proofs.YtjfkkokeegpeiaaGreatDoor
open Go Go.Am Go.Proofs
set_option maxRecDepth 100000
noncomputable def E6(ds:List Deferred):Env:={E5 with dok:=false,dls:=ds}
theorem hX6(ds:List Deferred):SoundX (E6 ds):=SoundX.none fun _ _=>rfl
theorem sc6{ds:List Deferred}{f:FuncId}{args:List V}{L:List (Option Chunk)}{cr:CRes}:SC (E6 ds) f args L cr↔SC E5 f args L cr:=
 ⟨fun h=>⟨h.1,fun β S w us h1 h2 h3=>h.2 β S w us h1 h2 ⟨h3.rd,h3.inv⟩⟩,fun h=>⟨h.1,fun β S w us h1 h2 h3=>h.2 β S w us h1 h2 ⟨h3.rd,h3.inv⟩⟩⟩
variable {ds:List Deferred}
abbrev a_ParseP:Type:=Int×Nat×FI×FI×FS×FI
abbrev g_ParseP:Type:=Int×Int
def A_ParseP:a_ParseP→List V×List (Option Chunk):=(fun x=>(fun(a:Int) (tn:Nat) (tk:Nat→Int) (ta:Nat→Int) (tt:Nat→ByteArray) (tv:Nat→Int)=>((([.junk,.junk,.ptr 0 0,.ptr 1 0,.ptr 2 0,.ro 4 tn (fun j=>[i64 (tk j),i64 (ta j),st (tt j),i64 (tv j)])]++jk 25):List V),([some (.blk [nilS]),some (.blk [i64 a]),some (.blk [i64 0])]:List (Option Chunk)))) x.1 x.2.1 x.2.2.1 x.2.2.2.1 x.2.2.2.2.1 x.2.2.2.2.2)
def R_ParseP:g_ParseP→CRes:=fun z=>.pan (.ifc 45 (.agg [i64 z.1,i64 z.2]))
abbrev ParseP_l0_a:Type:=(Unit)⊕(FS×FN×FM×FI×FI×FS×FN×FM×Nat×FI×FI×FS×FI×Int×Int×Nat×Nat×FS×FS×Nat)
abbrev ParseP_l0_g:Type:=(Int×Int)⊕(Unit)⊕(Int×Int×Nat×FS×FN×FM×FI×FI×FS×FN×FM)⊕(Nat×FS×FN×FM×FI×FI×FS×FN×FM)
def ParseP_l0_S0(x:a_ParseP)(y:Unit):St:={fr:=[V.junk,V.junk,V.ptr 0 0,V.ptr 1 0,V.ptr 2 0,V.junk,V.ptr 3 0]++jk 24,H:=hp [some (Chunk.blk [nilS]),some (Chunk.blk [i64 x.1]),some (Chunk.blk [i64 0]),some (Chunk.blk [V.ro 4 x.2.1 fun j=>[i64 (x.2.2.1 j),i64 (x.2.2.2.1 j),st (x.2.2.2.2.1 j),i64 (x.2.2.2.2.2 j)],i64 0,i64 0,nilS,nilS])],nx:=4,rt:=3,me:=8}
def ParseP_l0_d0(s:St):Unit:=()
def ParseP_l0_S1(x:a_ParseP)(y:FS×FN×FM×FI×FI×FS×FN×FM×Nat×FI×FI×FS×FI×Int×Int×Nat×Nat×FS×FS×Nat):St:={fr:=[V.junk,V.junk,V.ptr 0 0,V.ptr 1 0,V.ptr 2 0,V.junk,V.ptr 4 0]++jk 24,H:=hp [some (Chunk.blk [V.sl 3 6 0 y.2.2.2.2.2.2.2.2.2.2.2.2.2.2.2.2.2.2.2]),some (Chunk.blk [i64 x.1]),some (Chunk.blk [i64 0]),some (Chunk.row 56 6 y.2.2.2.2.2.2.2.2.2.2.2.2.2.2.2.2.2.2.2 fun j=>[st (y.1 j),V.ro 2 (y.2.1 j) (y.2.2.1 j),i64 (y.2.2.2.1 j),i64 (y.2.2.2.2.1 j),st (y.2.2.2.2.2.1 j),V.ro 4 (y.2.2.2.2.2.2.1 j) (y.2.2.2.2.2.2.2.1 j)]),some (Chunk.blk [V.ro 4 y.2.2.2.2.2.2.2.2.1 fun j=>[i64 (y.2.2.2.2.2.2.2.2.2.1 j),i64 (y.2.2.2.2.2.2.2.2.2.2.1 j),st (y.2.2.2.2.2.2.2.2.2.2.2.1 j),i64 (y.2.2.2.2.2.2.2.2.2.2.2.2.1 j)],i64 y.2.2.2.2.2.2.2.2.2.2.2.2.2.1,i64 y.2.2.2.2.2.2.2.2.2.2.2.2.2.2.1,V.sl 5 1 0 y.2.2.2.2.2.2.2.2.2.2.2.2.2.2.2.1,V.sl 6 1 0 y.2.2.2.2.2.2.2.2.2.2.2.2.2.2.2.2.1]),some (Chunk.row 9 1 y.2.2.2.2.2.2.2.2.2.2.2.2.2.2.2.1 fun j=>[st (y.2.2.2.2.2.2.2.2.2.2.2.2.2.2.2.2.2.1 j)]),some (Chunk.row 9 1 y.2.2.2.2.2.2.2.2.2.2.2.2.2.2.2.2.1 fun j=>[st (y.2.2.2.2.2.2.2.2.2.2.2.2.2.2.2.2.2.2.1 j)])],nx:=7,rt:=3,me:=8}
def ParseP_l0_d1(s:St):FS×FN×FM×FI×FI×FS×FN×FM×Nat×FI×FI×FS×FI×Int×Int×Nat×Nat×FS×FS×Nat:=((dRS (s.H 3) 0),dRN (s.H 3) 1,dRF (s.H 3) 1,dRI (s.H 3) 2,dRI (s.H 3) 3,dRS (s.H 3) 4,dRN (s.H 3) 5,dRF (s.H 3) 5,vRoN (cb s 4 0),dTI (cb s 4 0) 0,dTI (cb s 4 0) 1,dTS (cb s 4 0) 2,dTI (cb s 4 0) 3,vI (cb s 4 1),vI (cb s 4 2),vSlN (cb s 4 3),vSlN (cb s 4 4),dRS (s.H 5) 0,dRS (s.H 6) 0,vSlN (cb s 0 0))
def ParseP_l0_S(x:a_ParseP):ParseP_l0_a→St:=(Sum.elim (ParseP_l0_S0 x) (ParseP_l0_S1 x))
def ParseP_l0_d(s:St):ParseP_l0_a:=(match s.nx==4 with|true=>(.inl (ParseP_l0_d0 s)) |false=>(.inr (ParseP_l0_d1 s)))
theorem ParseP_l0_u(x:a_ParseP):VL (ParseP_l0_S x):=vl ParseP_l0_d (fun y=>by rcases y with y|y<;>rfl)
def ParseP_l0_T(x:a_ParseP):ParseP_l0_g→Ex×St:=(Sum.elim (fun z=>(Ex.panic (V.ifc 45 (V.agg [i64 z.1,i64 z.2])),{fr:=[V.junk,V.junk,V.ptr 0 0,V.ptr 1 0,V.ptr 2 0]++jk 26,H:=hp [some (Chunk.blk [nilS]),some (Chunk.blk [i64 x.1]),some (Chunk.blk [i64 0])],nx:=3,rt:=3,me:=8})) (Sum.elim (fun z=>(Ex.exit 0,{fr:=[V.junk,V.junk,V.ptr 0 0,V.ptr 1 0,V.ptr 2 0]++jk 26,H:=hp [some (Chunk.blk [nilS]),some (Chunk.blk [i64 x.1]),some (Chunk.blk [i64 0])],nx:=3,rt:=3,me:=8})) (Sum.elim (fun z=>(Ex.panic (V.ifc 45 (V.agg [i64 z.1,i64 z.2.1])),{fr:=[V.junk,V.junk,V.ptr 0 0,V.ptr 1 0,V.ptr 2 0]++jk 26,H:=hp [some (Chunk.blk [V.sl 3 6 0 z.2.2.1]),some (Chunk.blk [i64 x.1]),some (Chunk.blk [i64 0]),some (Chunk.row 56 6 z.2.2.1 fun j=>[st (z.2.2.2.1 j),V.ro 2 (z.2.2.2.2.1 j) (z.2.2.2.2.2.1 j),i64 (z.2.2.2.2.2.2.1 j),i64 (z.2.2.2.2.2.2.2.1 j),st (z.2.2.2.2.2.2.2.2.1 j),V.ro 4 (z.2.2.2.2.2.2.2.2.2.1 j) (z.2.2.2.2.2.2.2.2.2.2 j)])],nx:=4,rt:=3,me:=8})) (fun z=>(Ex.exit 0,{fr:=[V.junk,V.junk,V.ptr 0 0,V.ptr 1 0,V.ptr 2 0]++jk 26,H:=hp [some (Chunk.blk [V.sl 3 6 0 z.1]),some (Chunk.blk [i64 x.1]),some (Chunk.blk [i64 0]),some (Chunk.row 56 6 z.1 fun j=>[st (z.2.1 j),V.ro 2 (z.2.2.1 j) (z.2.2.2.1 j),i64 (z.2.2.2.2.1 j),i64 (z.2.2.2.2.2.1 j),st (z.2.2.2.2.2.2.1 j),V.ro 4 (z.2.2.2.2.2.2.2.1 j) (z.2.2.2.2.2.2.2.2 j)])],nx:=4,rt:=3,me:=8})))))
def ParseP_l0_t0{β:Type}(c_nextZ:a_nextZ→Option g_nextZ)(c_next:a_next→Option g_next)(c_procedureZ:a_procedureZ→Option g_procedureZ)(c_procedure:a_procedure→Option g_procedure)(x:a_ParseP)(y:Unit)(nx:ParseP_l0_a→Option β)(dn:ParseP_l0_g→Option β):Option β:=
 (c_nextZ (0,0,x.2)).bind fun z359=>if(z359.1 !=0)=true then(c_procedureZ z359.2.2.2.2).bind fun z367=>Sum.elim (fun z367a=>nx (.inr (fun j=>z367a.1,fun j=>z367a.2.1,fun(j j_1:Nat)=>[st (z367a.2.2.1 j_1),st (z367a.2.2.2.1 j_1)],fun j=>z367a.2.2.2.2.1,fun j=>z367a.2.2.2.2.2.1,fun j=>z367a.2.2.2.2.2.2.1,fun j=>z367a.2.2.2.2.2.2.2.1,fun j=>z367a.2.2.2.2.2.2.2.2.1,z367a.2.2.2.2.2.2.2.2.2.2.2.1,z367a.2.2.2.2.2.2.2.2.2.2.2.2.1,z367a.2.2.2.2.2.2.2.2.2.2.2.2.2.1,z367a.2.2.2.2.2.2.2.2.2.2.2.2.2.2.1,z367a.2.2.2.2.2.2.2.2.2.2.2.2.2.2.2.1,z367a.2.2.2.2.2.2.2.2.2.1,z367a.2.2.2.2.2.2.2.2.2.2.1,z367a.2.2.2.2.2.2.2.2.2.2.2.2.2.2.2.2.1,z367a.2.2.2.2.2.2.2.2.2.2.2.2.2.2.2.2.2.2.1,z367a.2.2.2.2.2.2.2.2.2.2.2.2.2.2.2.2.2.1,z367a.2.2.2.2.2.2.2.2.2.2.2.2.2.2.2.2.2.2.2,1))) (fun z367b=>dn (.inl z367b)) z367 else dn (.inr (.inl ()))
theorem ParseP_l0_n0{β:Type}(c_nextZ c_next)(c_procedureZ c_procedure)(x)(y)(nx:ParseP_l0_a→Option β)(dn):ParseP_l0_t0 c_nextZ c_next c_procedureZ c_procedure x y nx dn=(ParseP_l0_t0 c_nextZ c_next c_procedureZ c_procedure x y (fun y=>some (.inl y)) (fun z=>some (.inr z))).bind fun r=>Sum.elim nx dn r:=by
 unfold ParseP_l0_t0
 repeat' first|exact n0|refine n1 fun _=>?_|refine n2 ?_ ?_|refine n3 (fun _=>?_) fun _=>?_|rfl
theorem ParseP_l0_r0(c_nextZ c_next)(c_procedureZ c_procedure)(x)(y)(lo:LoopT):loopK (E6 ds) (ftg 22 (fun _ L=>L.length==1) A_nextZ R_nextZ c_nextZ (ftb 22 A_next R_next c_next (fg2 23 (fun _ L=>L.length==1) A_procedureZ R_procedureZ c_procedureZ (fg2 23 (fun _ L=>L.length==3) A_procedure R_procedure c_procedure ca0)))) lo 0 92 (bodyOf (E6 ds) 8 0) (ParseP_l0_S x (.inl y)) (KCM [(0,28),(1000,28)] 28)=ParseP_l0_t0 (vf A_nextZ c_nextZ) (vf A_next c_next) (vf A_procedureZ c_procedureZ) (vf A_procedure c_procedure) x y (fun y=>lo 0 92 (bodyOf (E6 ds) 8 0) (ParseP_l0_S x y) (KCM [(0,28),(1000,28)] 28)) (fun z=>some (.l (ParseP_l0_T x z).1 (ParseP_l0_T x z).2)):=by kernel_rfl
def ParseP_l0_t1{β:Type}(c_nextZ:a_nextZ→Option g_nextZ)(c_next:a_next→Option g_next)(c_procedureZ:a_procedureZ→Option g_procedureZ)(c_procedure:a_procedure→Option g_procedure)(x:a_ParseP)(y:FS×FN×FM×FI×FI×FS×FN×FM×Nat×FI×FI×FS×FI×Int×Int×Nat×Nat×FS×FS×Nat)(nx:ParseP_l0_a→Option β)(dn:ParseP_l0_g→Option β):Option β:=
 (c_next (y.2.2.2.2.2.2.2.2.2.2.2.2.2.1,y.2.2.2.2.2.2.2.2.2.2.2.2.2.2.1,y.2.2.2.2.2.2.2.2.1,y.2.2.2.2.2.2.2.2.2.1,y.2.2.2.2.2.2.2.2.2.2.1,y.2.2.2.2.2.2.2.2.2.2.2.1,y.2.2.2.2.2.2.2.2.2.2.2.2.1,y.2.2.2.2.2.2.2.2.2.2.2.2.2.2.2.1,y.2.2.2.2.2.2.2.2.2.2.2.2.2.2.2.2.2.1,y.2.2.2.2.2.2.2.2.2.2.2.2.2.2.2.2.1,y.2.2.2.2.2.2.2.2.2.2.2.2.2.2.2.2.2.2.1)).bind fun z381=>if(z381.1 !=0)=true then(c_procedure z381.2.2.2.2).bind fun z393=>Sum.elim (fun z393a=>if(y.2.2.2.2.2.2.2.2.2.2.2.2.2.2.2.2.2.2.2+1)*96≤roomBound∧y.2.2.2.2.2.2.2.2.2.2.2.2.2.2.2.2.2.2.2+1≤maxLen∧y.2.2.2.2.2.2.2.2.2.2.2.2.2.2.2.2.2.2.2≤y.2.2.2.2.2.2.2.2.2.2.2.2.2.2.2.2.2.2.2 then nx (.inr (fun j=>if j<y.2.2.2.2.2.2.2.2.2.2.2.2.2.2.2.2.2.2.2 then y.1 j else z393a.1,fun j=>if j<y.2.2.2.2.2.2.2.2.2.2.2.2.2.2.2.2.2.2.2 then y.2.1 j else z393a.2.1,fun(j j_1:Nat)=>if j<y.2.2.2.2.2.2.2.2.2.2.2.2.2.2.2.2.2.2.2 then y.2.2.1 j j_1 else[st (z393a.2.2.1 j_1),st (z393a.2.2.2.1 j_1)],fun j=>if j<y.2.2.2.2.2.2.2.2.2.2.2.2.2.2.2.2.2.2.2 then y.2.2.2.1 j else z393a.2.2.2.2.1,fun j=>if j<y.2.2.2.2.2.2.2.2.2.2.2.2.2.2.2.2.2.2.2 then y.2.2.2.2.1 j else z393a.2.2.2.2.2.1,fun j=>if j<y.2.2.2.2.2.2.2.2.2.2.2.2.2.2.2.2.2.2.2 then y.2.2.2.2.2.1 j else z393a.2.2.2.2.2.2.1,fun j=>if j<y.2.2.2.2.2.2.2.2.2.2.2.2.2.2.2.2.2.2.2 then y.2.2.2.2.2.2.1 j else z393a.2.2.2.2.2.2.2.1,fun(j j_1:Nat)=>if j<y.2.2.2.2.2.2.2.2.2.2.2.2.2.2.2.2.2.2.2 then y.2.2.2.2.2.2.2.1 j j_1 else z393a.2.2.2.2.2.2.2.2.1 j_1,z393a.2.2.2.2.2.2.2.2.2.2.2.1,z393a.2.2.2.2.2.2.2.2.2.2.2.2.1,z393a.2.2.2.2.2.2.2.2.2.2.2.2.2.1,z393a.2.2.2.2.2.2.2.2.2.2.2.2.2.2.1,z393a.2.2.2.2.2.2.2.2.2.2.2.2.2.2.2.1,z393a.2.2.2.2.2.2.2.2.2.1,z393a.2.2.2.2.2.2.2.2.2.2.1,z393a.2.2.2.2.2.2.2.2.2.2.2.2.2.2.2.2.1,z393a.2.2.2.2.2.2.2.2.2.2.2.2.2.2.2.2.2.2.1,z393a.2.2.2.2.2.2.2.2.2.2.2.2.2.2.2.2.2.1,z393a.2.2.2.2.2.2.2.2.2.2.2.2.2.2.2.2.2.2.2,y.2.2.2.2.2.2.2.2.2.2.2.2.2.2.2.2.2.2.2+1))else none) (fun z393b=>dn (.inr (.inr (.inl (z393b.1,z393b.2,y.2.2.2.2.2.2.2.2.2.2.2.2.2.2.2.2.2.2.2,y.1,y.2.1,y.2.2.1,y.2.2.2.1,y.2.2.2.2.1,y.2.2.2.2.2.1,y.2.2.2.2.2.2.1,y.2.2.2.2.2.2.2.1))))) z393 else dn (.inr (.inr (.inr (y.2.2.2.2.2.2.2.2.2.2.2.2.2.2.2.2.2.2.2,y.1,y.2.1,y.2.2.1,y.2.2.2.1,y.2.2.2.2.1,y.2.2.2.2.2.1,y.2.2.2.2.2.2.1,y.2.2.2.2.2.2.2.1))))
theorem ParseP_l0_n1{β:Type}(c_nextZ c_next)(c_procedureZ c_procedure)(x)(y)(nx:ParseP_l0_a→Option β)(dn):ParseP_l0_t1 c_nextZ c_next c_procedureZ c_procedure x y nx dn=(ParseP_l0_t1 c_nextZ c_next c_procedureZ c_procedure x y (fun y=>some (.inl y)) (fun z=>some (.inr z))).bind fun r=>Sum.elim nx dn r:=by
 unfold ParseP_l0_t1
 repeat' first|exact n0|refine n1 fun _=>?_|refine n2 ?_ ?_|refine n3 (fun _=>?_) fun _=>?_|rfl
theorem ParseP_l0_r1(c_nextZ c_next)(c_procedureZ c_procedure)(x)(y)(lo:LoopT):loopK (E6 ds) (ftg 22 (fun _ L=>L.length==1) A_nextZ R_nextZ c_nextZ (ftb 22 A_next R_next c_next (fg2 23 (fun _ L=>L.length==1) A_procedureZ R_procedureZ c_procedureZ (fg2 23 (fun _ L=>L.length==3) A_procedure R_procedure c_procedure ca0)))) lo 0 92 (bodyOf (E6 ds) 8 0) (ParseP_l0_S x (.inr y)) (KCM [(0,28),(1000,28)] 28)=ParseP_l0_t1 (vf A_nextZ c_nextZ) (vf A_next c_next) (vf A_procedureZ c_procedureZ) (vf A_procedure c_procedure) x y (fun y=>lo 0 92 (bodyOf (E6 ds) 8 0) (ParseP_l0_S x y) (KCM [(0,28),(1000,28)] 28)) (fun z=>some (.l (ParseP_l0_T x z).1 (ParseP_l0_T x z).2)):=by kernel_rfl
noncomputable def ParseP_l0(c_nextZ:a_nextZ→Option g_nextZ)(c_next:a_next→Option g_next)(c_procedureZ:a_procedureZ→Option g_procedureZ)(c_procedure:a_procedure→Option g_procedure)(q:Nat)(x:a_ParseP):ParseP_l0_a→Option ParseP_l0_g:=lpG (Sum.elim (fun y=>ParseP_l0_t0 c_nextZ c_next c_procedureZ c_procedure x y (fun y=>some (.inl y)) (fun z=>some (.inr z))) (fun y=>ParseP_l0_t1 c_nextZ c_next c_procedureZ c_procedure x y (fun y=>some (.inl y)) (fun z=>some (.inr z)))) q
theorem ParseP_l0_s(c_nextZ)(h_nextZ:∀x z,c_nextZ x=some z→SC (E6 ds) 22 (A_nextZ x).1 (A_nextZ x).2 (R_nextZ z))(c_next)(h_next:∀x z,c_next x=some z→SC (E6 ds) 22 (A_next x).1 (A_next x).2 (R_next z))(c_procedureZ)(h_procedureZ:∀x z,c_procedureZ x=some z→SC (E6 ds) 23 (A_procedureZ x).1 (A_procedureZ x).2 (R_procedureZ z))(c_procedure)(h_procedure:∀x z,c_procedure x=some z→SC (E6 ds) 23 (A_procedure x).1 (A_procedure x).2 (R_procedure z))(q:Nat)(x:a_ParseP):Ll (E6 ds) (bodyOf (E6 ds) 8 0) (ParseP_l0_S x) (ParseP_l0_T x) (ParseP_l0 c_nextZ c_next c_procedureZ c_procedure q x):=
 slp (fk h_nextZ (fk h_next (fk2 h_procedureZ (fk2 h_procedure ca0_sound)))) (hX6 ds) (fun lo y=>by
  rcases y with y|y
  ·exact(ParseP_l0_r0 c_nextZ c_next c_procedureZ c_procedure x y lo).trans (by rw[v_nextZ,v_next,v_procedureZ,v_procedure];exact ParseP_l0_n0 _ _ _ _ _ _ _ _)
  ·exact(ParseP_l0_r1 c_nextZ c_next c_procedureZ c_procedure x y lo).trans (by rw[v_nextZ,v_next,v_procedureZ,v_procedure];exact ParseP_l0_n1 _ _ _ _ _ _ _ _)) (fun z=>by rcases z with z|z|z|z<;>kernel_rfl) q
def t_ParseP{β:Type}(c_nextZ:a_nextZ→Option g_nextZ)(c_next:a_next→Option g_next)(c_procedureZ:a_procedureZ→Option g_procedureZ)(c_procedure:a_procedure→Option g_procedure)(l_ParseP_l0:ParseP_l0_a→Option ParseP_l0_g)(x:a_ParseP)(dn:g_ParseP→Option β):Option β:=
 (l_ParseP_l0 (.inl ())).bind fun z339=>Sum.elim (fun z339a=>dn z339a) (fun z339b=>Sum.elim (fun z339ba=>none) (fun z339bb=>Sum.elim (fun z339bba=>dn (z339bba.1,z339bba.2.1)) (fun z339bbb=>none) z339bb) z339b) z339
theorem n_ParseP{β:Type}(c_nextZ c_next)(c_procedureZ c_procedure)(l_ParseP_l0)(x)(dn:g_ParseP→Option β):t_ParseP c_nextZ c_next c_procedureZ c_procedure l_ParseP_l0 x dn=(t_ParseP c_nextZ c_next c_procedureZ c_procedure l_ParseP_l0 x some).bind dn:=by
 unfold t_ParseP
 repeat' first|exact n0|refine n1 fun _=>?_|refine n2 ?_ ?_|refine n3 (fun _=>?_) fun _=>?_|rfl
theorem r_ParseP(c_nextZ c_next)(c_procedureZ c_procedure)(l_ParseP_l0)(x):restK 4 3 (E6 ds) (ftg 22 (fun _ L=>L.length==1) A_nextZ R_nextZ c_nextZ (ftb 22 A_next R_next c_next (fg2 23 (fun _ L=>L.length==1) A_procedureZ R_procedureZ c_procedureZ (fg2 23 (fun _ L=>L.length==3) A_procedure R_procedure c_procedure ca0)))) (lt4 0 (fun _=>true) (bodyOf (E6 ds) 8 0) (ParseP_l0_S x) (ParseP_l0_T x) l_ParseP_l0 lo0) 8 (A_ParseP x).1 (A_ParseP x).2 K=t_ParseP (vf A_nextZ c_nextZ) (vf A_next c_next) (vf A_procedureZ c_procedureZ) (vf A_procedure c_procedure) (lf (bodyOf (E6 ds) 8 0) (ParseP_l0_S x) l_ParseP_l0) x (fun z=>some (.c (R_ParseP z))):=by kernel_rfl
theorem s_ParseP(c_nextZ)(h_nextZ:∀x z,c_nextZ x=some z→SC (E6 ds) 22 (A_nextZ x).1 (A_nextZ x).2 (R_nextZ z))(c_next)(h_next:∀x z,c_next x=some z→SC (E6 ds) 22 (A_next x).1 (A_next x).2 (R_next z))(c_procedureZ)(h_procedureZ:∀x z,c_procedureZ x=some z→SC (E6 ds) 23 (A_procedureZ x).1 (A_procedureZ x).2 (R_procedureZ z))(c_procedure)(h_procedure:∀x z,c_procedure x=some z→SC (E6 ds) 23 (A_procedure x).1 (A_procedure x).2 (R_procedure z))(q:Nat)(x:a_ParseP)(z:g_ParseP)(h:t_ParseP c_nextZ c_next c_procedureZ c_procedure (ParseP_l0 c_nextZ c_next c_procedureZ c_procedure q x) x some=some z):RC 4 3 (E6 ds) 8 (A_ParseP x).1 (A_ParseP x).2 (R_ParseP z):=by
 refine RC.of (hX6 ds) (fk h_nextZ (fk h_next (fk2 h_procedureZ (fk2 h_procedure ca0_sound)))) (lk4 (ParseP_l0_s c_nextZ h_nextZ c_next h_next c_procedureZ h_procedureZ c_procedure h_procedure q x) lo0_sound) ((r_ParseP c_nextZ c_next c_procedureZ c_procedure (ParseP_l0 c_nextZ c_next c_procedureZ c_procedure q x) x).trans ?_)
 rw[v_nextZ,v_next,v_procedureZ,v_procedure,ParseP_l0_u,n_ParseP,h];rfl
noncomputable def ParseP(q:Nat)(x:a_ParseP):Option g_ParseP:=t_ParseP (nextZ q) (next q) (procedureZ q) (procedure q) (ParseP_l0 (nextZ q) (next q) (procedureZ q) (procedure q) q x) x some
theorem sc_ParseP(q:Nat):∀(x:a_ParseP) (z:g_ParseP),ParseP q x=some z→RC 4 3 (E6 ds) 8 (A_ParseP x).1 (A_ParseP x).2 (R_ParseP z):=fun x z h=>s_ParseP (nextZ q) (fun x z h=>sc6.2 (sc_nextZ q x z h)) (next q) (fun x z h=>sc6.2 (sc_next q x z h)) (procedureZ q) (fun x z h=>sc6.2 (sc_procedureZ q x z h)) (procedure q) (fun x z h=>sc6.2 (sc_procedure q x z h)) q x z h
end Go.Proofs.YtjfkkokeegpeiaaGreatDoor
/- Parse panics and recovers. -/
namespace Go.Proofs.YtjfkkokeegpeiaaGreatDoor
open Go Go.Am Go.RowKit
set_option maxRecDepth 100000
noncomputable def c8:ACode:=match E5.code 8 with|some c=>c|none=>.skip
noncomputable def c21:ACode:=match E5.code 21 with|some c=>c|none=>.skip
theorem c8_ok:E5.code 8=some c8:=by kernel_rfl
def opsD : Array Oper := #[{ dst := some 17, op := Op.makeFunc (Fn.func 21) #[] #[Operand.tmp 2, Operand.tmp 3, Operand.tmp 4], type := 1, pos := "parser.go:391", after := #[], guard := none },
  { dst := none, op := Op.defer { callee := Callee.value (Operand.tmp 17), args := #[], argTypes := #[] }, type := 0, pos := "parser.go:391", after := #[{ on := 0, ground := Ground.data }], guard := none }]
theorem c8_eq:c8.erase= .seq (pie8 0 c8).erase (.seq (pie8 1 c8).erase (.seq (pie8 2 c8).erase (.seq (.region 4 opsD false) (sel8 4 c8).erase))):=by kernel_rfl
def dcl(u0 u1 u2:Value):Deferred:={target:=.fn (.func 21) #[u0,u1,u2],args:=#[]}
theorem stepD{Q:Exit→Act→World→Prop}{a:Act}{w:World}(hs:a.tmps.size=31)
 (hQ:Q .normal {tmps:=a.tmps.setIfInBounds 17 (.func (.func 21) #[] #[a.tmps.getD 2 undef,a.tmps.getD 3 undef,a.tmps.getD 4 undef]),defers:=dcl (a.tmps.getD 2 undef) (a.tmps.getD 3 undef) (a.tmps.getD 4 undef)::a.defers} w):
 (Code.region 4 opsD false).wp Tryz.prog Q a w:=by
 apply wp_region
 simp[opsD,wpOps,go_sem,hs]
 left;left
 simpa[hs,dcl]using hQ
theorem denL_junk{β:Bt}{S D:Pr}{w:World}:∀us:List Value,denL β S w D (List.replicate us.length .junk) us
 | []=>by simp[denL]
 |u::us=>by
  simp only[List.length_cons,List.replicate_succ,denL]
  exact⟨u,us,rfl,(by simp[den]),denL_junk us⟩
def fr21(a c:Int):List V:=[.ptr 0 0,.ptr 1 0,.ptr 2 0,.ifc 45 (.agg [i64 a,i64 c])]++List.replicate 16 .junk
def H3(x0 x1 x2:V):List (Option Chunk):=[some (.blk [x0]),some (.blk [x1]),some (.blk [x2])]
theorem run21(a c:Int):execK E5 ca0 lo0 (sel8 1 c21) {fr:=fr21 a c,H:=hp (H3 .junk .junk .junk),nx:=3,rt:=3,me:=21} (KN 0)=some (.l .normal {fr:=List.replicate 20 .junk,H:=hp (H3 nilS (i64 a) (i64 c)),nx:=3,rt:=3,me:=21}):=by kernel_rfl
theorem end21(a c:Int):Am.Ends E5 (sel8 1 c21) {fr:=fr21 a c,H:=hp (H3 .junk .junk .junk),nx:=3,rt:=3,me:=21} .normal {fr:=List.replicate 20 .junk,H:=hp (H3 nilS (i64 a) (i64 c)),nx:=3,rt:=3,me:=21}:=
 Am.Ends.of hX5 ca0_sound lo0_sound (run21 a c)
theorem clo21{β:Bt}{S:Pr}{w:World}{a c:Int}{u0 u1 u2 u:Value}(hM:Mem β S (· <3) (hp (H3 .junk .junk .junk)) w)(hG:Glob E5 S w)
 (h0:den β S w (· <3) (.ptr 0 0) u0) (h1:den β S w (· <3) (.ptr 1 0) u1) (h2:den β S w (· <3) (.ptr 2 0) u2) (hv:den β S w (· <3) (.ifc 45 (.agg [i64 a,i64 c])) u):
 CallsD Tryz.prog 21 #[u0,u1,u2] (.panicking [{v:=u,recovered:=false}]) w fun e u' w'=>(∃v,e= .returned v)∧u'= .panicking [{v:=u,recovered:=true}]∧
  ∃β' S',Mem β' S' (· <3) (hp (H3 nilS (i64 a) (i64 c))) w'∧Glob E5 S' w'∧Evo β S w β' S' w'∧Roots 3 β β':=by
 refine callsD_of_wpS Tryz.func21 rfl fun c₀ cs hu=>?_
 apply wpS_seq
 apply wpS_region
 simp[wpOpsS,go_sem,recoverD,hu,Tryz.ntmps21,Exit.thenS]
 refine wpS_of_wp ?_
 refine(congrArg (fun c=>Code.wp Tryz.prog c _ _ _) (?_:(sel8 1 c21).erase=_)).mp (wp_mono (end21 a c β S (· <3) _ w ⟨?_,hM,⟨fun _=>rfl,fun d h=>(by cases h),fun h=>nomatch (show true=false from h)⟩,fun i hi=>hi,hG,fun i hi=>hi⟩) ?_)
 ·kernel_rfl
 ·have e:(#[u0,u1,u2]++((Array.replicate 17 undef).setIfInBounds 3 u).setIfInBounds 0 u).toList=[u0,u1,u2,u]++([undef,undef,u]++List.replicate 13 undef):=by
   simp[List.replicate]
  show denL β S w (· <3) (fr21 a c) (#[u0,u1,u2]++((Array.replicate 17 undef).setIfInBounds 3 u).setIfInBounds 0 u).toList
  rw[e]
  refine denL_append ?_ ?_
  ·simp only[denL]
   exact⟨_,_,rfl,h0,_,_,rfl,h1,_,_,rfl,h2,_,_,rfl,hv,rfl⟩
  ·exact denL_junk [undef,undef,u,undef,undef,undef,undef,undef,undef,undef,undef,undef,undef,undef,undef,undef]
 ·intro e' a' w' hp
  obtain⟨rfl,β',S',D',g1,g2,g3,g4,g5⟩:=post_normal hp
  have hD:D'=(· <3):=by
   funext i
   exact propext ⟨g1.lt i,g1.rtD i⟩
  subst hD
  refine⟨g1.df.1 rfl,_,?_,_,by simp[results,Tryz.results21,go_sem];rfl,⟨_,rfl⟩,rfl,β',S',g1.mem,g1.gl,g2,g3⟩
  cases c₀;simp_all
theorem wp_piece{E:Env}{c:ACode}{s t:St}(h:Am.Ends E c s .normal t){β:Bt}{S D:Pr}{a:Act}{w:World}(hR:Rel E β S D s a w){rest:Code}{Q:Exit→Act→World→Prop}
 (hQ:∀β' S' D' a' w',Rel E β' S' D' t a' w'→Evo β S w β' S' w'→rest.wp E.P Q a' w'):(Code.seq c.erase rest).wp E.P Q a w:=
 wp_seq (wp_mono (h β S D a w hR) fun e' a' w' hp=>by
  obtain⟨rfl,β',S',D',h1,h2,h3,_,_⟩:=post_normal hp
  exact hQ β' S' D' a' w' h1 h2)
def s0(s:ByteArray):St:={fr:=[st s]++List.replicate 30 (.sc undef),H:=hp [],nx:=0,rt:=0,me:=8}
def s1(s:ByteArray):St:={fr:=[st s,.junk,.ptr 0 0,.ptr 1 0,.ptr 2 0]++jk 26,H:=hp (H3 nilS (i64 0) (i64 0)),nx:=3,rt:=0,me:=8}
def s2(rt:Nat)(z:g_TokensV):St:={fr:=[.junk,.junk,.ptr 0 0,.ptr 1 0,.ptr 2 0,.ro 4 z.2.2.1 (fun j=>[i64 (z.2.2.2.1 j),i64 (z.2.2.2.2.1 j),st (z.2.2.2.2.2.1 j),i64 (z.2.2.2.2.2.2 j)])]++jk 25,H:=hp (H3 nilS (i64 z.1) (i64 z.2.1)),nx:=3,rt:=rt,me:=8}
theorem st1(s:ByteArray):execK (E6 []) ca0 lo0 (pie8 0 c8) (s0 s) (KN 29)=some (.l .normal (s1 s)):=by kernel_rfl
theorem st2(c:a_TokensV→Option g_TokensV)(s:ByteArray):execK (E6 []) (ftb 20 A_TokensV R_TokensV c ca0) lo0 (pie8 1 c8) (s1 s) (KN 60)=(viaF A_TokensV c (A_TokensV s)).bind fun z=>some (.l .normal (s2 0 z)):=by kernel_rfl
theorem st3(a:Int)(T:Nat×(Nat→Int)×(Nat→Int)×(Nat→ByteArray)×(Nat→Int)):execK (E6 []) ca0 lo0 (pie8 2 c8) (s2 0 (a,0,T)) (KN 60)=some (.l .normal (s2 0 (a,0,T))):=by kernel_rfl
def K3(n:Nat)(a c:Int):St:={fr:=.junk:: .junk:: .ptr 0 0:: .ptr 1 0:: .ptr 2 0::List.replicate n .junk,H:=hp (H3 nilS (i64 a) (i64 c)),nx:=3,rt:=3,me:=8}
end Go.Proofs.YtjfkkokeegpeiaaGreatDoor
/- Parse where it panics: what it returns. -/
namespace Go.Proofs.YtjfkkokeegpeiaaGreatDoor
open Go Go.Am Go.RowKit
set_option maxRecDepth 100000
theorem denL_of{β:Bt}{S D:Pr}{w:World}:∀{l:List V} {us:List Value},l.length=us.length→(∀i,den β S w D (l.getD i .junk) (us.getD i undef))→denL β S w D l us
 | [],[],_,_=>by simp[denL]
 |v::l,u::us,hl,h=>by
  simp only[denL]
  exact⟨u,us,rfl,by simpa using h 0,denL_of (by simpa using hl) fun i=>by simpa using h (i+1)⟩
theorem ptr_roots{β β':Bt}{S S' D D':Pr}{w w':World}{i o n:Nat}{u:Value}(hr:Roots n β β')(hi:i<n)(hD:D' i)(h:den β S w D (.ptr i o) u):den β' S' w' D' (.ptr i o) u:=by
 simp only[den]at h⊢
 exact⟨⟨hD,h.1.2⟩,fun b m hb=>h.2 b m (hr i _ hi hb)⟩
theorem resP(ds:List Deferred)(n:Nat)(a c:Int):resLK (E6 ds) (K3 n a c) [.cell 2 22,.cell 3 3,.cell 4 23] (fun vs=>some (.c (.ret (one1 vs) [])))=some (.c (.ret (.tup [nilS,i64 a,i64 c]) [])):=by kernel_rfl
theorem parse_pan (q : Nat) (s : ByteArray) (a : Int) (T : Nat × (Nat → Int) × (Nat → Int) × (Nat → ByteArray) × (Nat → Int)) (hz : TokensV q s = some (a, 0, T)) (e : Int × Int) (hp : ParseP q (a, T) = some e) :
 SC E5 8 [st s] [] (.ret (.tup [nilS, i64 e.1, i64 e.2]) []) := by
 refine ⟨⟨_, Tryz.func8, by kernel_rfl, by intro e; exact absurd e (by decide +kernel)⟩, fun β S w us hus hM hG => ?_⟩
 obtain rfl : us = [.string s] := by simpa [denL, den] using hus
 refine calls_of_wp_defers Tryz.func8 rfl ?_
 refine (congrArg (fun c => Code.wp Tryz.prog c _ _ _) (?_ : c8.erase = _)).mp ?_
 ·kernel_rfl
 rw [c8_eq]
 have R0 : Rel (E6 []) β S (· < 0) (s0 s) { tmps := [Value.string s].toArray ++ Array.replicate (31 - [Value.string s].toArray.size) undef, defers := [] } w := by
  refine ⟨?_, hM, ⟨fun _ => rfl, fun d hd => (by cases hd), fun _ => rfl⟩, fun i hi => hi, ⟨hG.rd, hG.inv⟩, fun i hi => hi⟩
  have e : ([Value.string s].toArray ++ Array.replicate (31 - [Value.string s].toArray.size) undef).toList = [Value.string s] ++ List.replicate 30 undef := by simp
  rw [e]
  refine denL_append hus ?_
  have := denL_map (β := β) (S := S) (w := w) (D := (· < 0)) (f := fun _ : Nat => V.sc undef) (g := fun _ => undef) (l := List.range 30) (fun _ _ => by simp [den])
  simpa [List.map_const'] using this
 refine wp_piece (E := E6 []) (Am.Ends.of (hX6 []) ca0_sound lo0_sound (st1 s)) R0 fun β1 S1 D1 a1 w1 R1 v1 => ?_
 refine wp_piece (E := E6 []) (Am.Ends.of (hX6 []) (fk (fun x z h => sc6.2 (sc_TokensV q x z h)) ca0_sound) lo0_sound ((st2 (TokensV q) s).trans (by
  rw [show viaF A_TokensV (TokensV q) (A_TokensV s) = TokensV q s from congrFun (v_TokensV (TokensV q)) s, hz]; rfl))) R1 fun β2 S2 D2 a2 w2 R2 v2 => ?_
 refine wp_piece (E := E6 []) (Am.Ends.of (hX6 []) ca0_sound lo0_sound (st3 a T)) R2 fun β3 S3 D3 a3 w3 R3 v3 => ?_
 have hsz : a3.tmps.size = 31 := by
  have := denL_len R3.fr
  simpa [s2, jk] using this.symm
 have d0 : den β3 S3 w3 D3 (.ptr 0 0) (a3.tmps.getD 2 undef) := by simpa [s2] using denL_getD R3.fr 2
 have d1 : den β3 S3 w3 D3 (.ptr 1 0) (a3.tmps.getD 3 undef) := by simpa [s2] using denL_getD R3.fr 3
 have d2 : den β3 S3 w3 D3 (.ptr 2 0) (a3.tmps.getD 4 undef) := by simpa [s2] using denL_getD R3.fr 4
 have hdf : a3.defers = [] := R3.df.2.2 rfl
 refine wp_seq (stepD hsz ?_)
 show Code.wp Tryz.prog (sel8 4 c8).erase _ _ w3
 rw [hdf]
 have R4 : Rel (E6 [dcl (a3.tmps.getD 2 undef) (a3.tmps.getD 3 undef) (a3.tmps.getD 4 undef)]) β3 S3 D3 (s2 3 (a, 0, T))
  { tmps := a3.tmps.setIfInBounds 17 (.func (.func 21) #[] #[a3.tmps.getD 2 undef, a3.tmps.getD 3 undef, a3.tmps.getD 4 undef]), defers := [dcl (a3.tmps.getD 2 undef) (a3.tmps.getD 3 undef) (a3.tmps.getD 4 undef)] } w3 := by
  refine ⟨?_, R3.mem, ⟨fun h => (nomatch (show true = false from h)), fun d hd => ?_, fun _ => rfl⟩, R3.lt, ⟨R3.gl.rd, R3.gl.inv⟩, fun i hi => ?_⟩
  ·have hfr := R3.fr
   refine denL_of (by simp [s2, jk, hsz]) fun i => ?_
   by_cases h17 : i = 17
   ·subst h17
    simp [s2, jk, den]
   ·have := denL_getD hfr i
    have e : (a3.tmps.setIfInBounds 17 (.func (.func 21) #[] #[a3.tmps.getD 2 undef, a3.tmps.getD 3 undef, a3.tmps.getD 4 undef])).toList.getD i undef = a3.tmps.toList.getD i undef := by
     rw [Array.toList_setIfInBounds, List.getD_eq_getElem?_getD, List.getD_eq_getElem?_getD, List.getElem?_set_ne (fun h => h17 h.symm)]
    rw [e]
    exact this
  ·simp only [List.mem_singleton] at hd
   subst hd
   exact ⟨21, _, rfl, rfl⟩
  ·match i, hi with
   | 0, _ => simp only [den] at d0; exact d0.1.1
   | 1, _ => simp only [den] at d1; exact d1.1.1
   | 2, _ => simp only [den] at d2; exact d2.1.1
 obtain ⟨v, s', hv, hE, x0, x1, x2, y0, y1, l, ef, e0, e1, e2⟩ := sc_ParseP (ds := [dcl (a3.tmps.getD 2 undef) (a3.tmps.getD 3 undef) (a3.tmps.getD 4 undef)]) q _ e hp c8 c8_ok
 cases hv
 refine wp_mono (hE _ _ _ _ _ R4) fun e' a' w' hpost => ?_
 obtain ⟨β', S', D', q1, q2, q3, q4, q5, q6⟩ := hpost.ex
 cases e' <;> simp only [ExR] at q1
 obtain ⟨u, rfl, g1, g2⟩ := q1
 show Leaves _ _ _ _ a'.defers (.panicking _) w'
 rw [show a'.defers = [dcl (a3.tmps.getD 2 undef) (a3.tmps.getD 3 undef) (a3.tmps.getD 4 undef)] from q2.df.2.2 rfl]
 -- the blocks of the results alone
 have M5 : Mem (ofOrder β' [0, 1, 2]) S' (· < 3) (Am.hp (H3 .junk .junk .junk)) w' := by
  have h := q2.mem.renum (order := [0, 1, 2]) (by decide)
  refine Mem.le h (hp_le ?_)
  simp only [keep, List.map_cons, List.map_nil, e0, e1, e2, Option.map_some, Chunk.ren, H3, renL]
  exact ⟨ChLe.blk (LeL.cons (Le.junk _) LeL.nil), ChLe.blk (LeL.cons (Le.junk _) LeL.nil), ChLe.blk (LeL.cons (Le.junk _) LeL.nil), trivial⟩
 have r5 : Roots 3 β3 (ofOrder β' [0, 1, 2]) := by
  intro i bm hi hb
  refine q4 i bm hi ?_
  match i, hi, hb with
  | 0, _, hb => exact hb
  | 1, _, hb => exact hb
  | 2, _, hb => exact hb
 have v5 : Evo β3 S3 w3 (ofOrder β' [0, 1, 2]) S' w' := q3.trans ⟨rfl, rfl, rfl, Nat.le_refl _, fun _ _ _ => rfl, fun _ h => h, fun _ h => .inl h, fun i b m hb h0 => by
  obtain ⟨j, _, hj⟩ := ofOrder_some hb
  exact .inr ⟨j, m, h0, hj⟩⟩
 have k0 := ptr_roots r5 (show 0 < 3 by decide) (show (· < 3) 0 by decide) d0 (S' := S') (w' := w') (D' := (· < 3))
 have k1 := ptr_roots r5 (show 1 < 3 by decide) (show (· < 3) 1 by decide) d1 (S' := S') (w' := w') (D' := (· < 3))
 have k2 := ptr_roots r5 (show 2 < 3 by decide) (show (· < 3) 2 by decide) d2 (S' := S') (w' := w') (D' := (· < 3))
 have hv5 : den (ofOrder β' [0, 1, 2]) S' w' (· < 3) (.ifc 45 (.agg [i64 e.1, i64 e.2])) u := den_pure (fun _ h => h) (fun _ _ => rfl) _ _ g1 g2
 refine leaves_cons (f := 21) (args := #[a3.tmps.getD 2 undef, a3.tmps.getD 3 undef, a3.tmps.getD 4 undef]) (by simp) (by
  have hcal := (idle65 #[a3.tmps.getD 2 undef, a3.tmps.getD 3 undef, a3.tmps.getD 4 undef] w' rfl).1
  simp only [invoke, Array.append_empty]
  exact hcal) ((clo21 M5 ⟨q2.gl.rd, q2.gl.inv⟩ k0 k1 k2 hv5).mono ?_)
 rintro e5 u5 w5 ⟨⟨vv, rfl⟩, rfl, β6, S6, M6, G6, v6, r6⟩
 show Leaves _ _ _ _ [] .returning w5
 -- the results are read
 have t2 := denL_getD q2.fr 2
 have t3 := denL_getD q2.fr 3
 have t4 := denL_getD q2.fr 4
 rw [ef] at t2 t3 t4
 have r6' : Roots 3 β' β6 := by
  intro i bm hi hb
  have hb := r6 i bm hi hb
  match i, hi, hb with
  | 0, _, hb => exact hb
  | 1, _, hb => exact hb
  | 2, _, hb => exact hb
 have R7 : Rel (E6 []) β6 S6 (· < 3) (K3 l.length e.1 e.2) { a' with defers := [] } w5 := by
  refine ⟨denL_of ?_ fun i => ?_, M6, ⟨fun _ => rfl, fun d hd => (by cases hd), fun _ => rfl⟩, fun i hi => hi, ⟨G6.rd, G6.inv⟩, fun i hi => hi⟩
  ·have := denL_len q2.fr
   rw [ef] at this
   simpa [K3] using this
  ·match i with
   | 0 => simp [K3, den]
   | 1 => simp [K3, den]
   | 2 => exact ptr_roots r6' (show 0 < 3 by decide) (show (· < 3) 0 by decide) t2
   | 3 => exact ptr_roots r6' (show 1 < 3 by decide) (show (· < 3) 1 by decide) t3
   | 4 => exact ptr_roots r6' (show 2 < 3 by decide) (show (· < 3) 2 by decide) t4
   | i + 5 =>
    have e : (K3 l.length e.1 e.2).fr.getD (i + 5) V.junk = .junk := by
     simp only [K3, List.getD_eq_getElem?_getD, List.getElem?_cons_succ, List.getElem?_replicate]
     split <;> rfl
    rw [e]
    simp [den]
 obtain ⟨vs, h3, h4⟩ := resL_sound _ (resP [] l.length e.1 e.2)
 simp only [Option.some.injEq, Ans.c.injEq, CRes.ret.injEq, and_true] at h3
 obtain ⟨rs, g3, g4⟩ := h4 β6 S6 (· < 3) { a' with defers := [] } w5 R7
 refine ⟨(if h : rs.toArray.size = 1 then rs.toArray[0] else .tuple rs.toArray), ?_, ?_⟩
 ·rw [results_eq, Sem.run_bind]
  have hrun : ((#[.cell 2 22, .cell 3 3, .cell 4 23] : Array ResultVar).mapM (resF a'.tmps)).run Tryz.prog w5 = .ok rs.toArray w5 := by
   rw [Array.mapM_eq_mapM_toList, Sem.run_map]
   have g3' : (List.mapM (resF a'.tmps) [ResultVar.cell 2 22, .cell 3 3, .cell 4 23]).run Tryz.prog w5 = .ok rs w5 := g3
   rw [show (#[ResultVar.cell 2 22, .cell 3 3, .cell 4 23]).toList = [.cell 2 22, .cell 3 3, .cell 4 23] from rfl, g3']
   rfl
  exact (congrArg (fun r => Result.andThen r _) hrun).trans rfl
 ·have hd := one1_den g4
  rw [h3] at hd
  have M8 := M6.renum (order := []) (by decide)
  refine ⟨_, _, S6, rfl, M8, den_pure (fun _ h => h) (fun _ _ => rfl) _ _ (by simp [V.pure, pureL]) hd, (((v1.trans v2).trans v3).trans v5).trans (v6.trans ⟨rfl, rfl, rfl, Nat.le_refl _, fun _ _ _ => rfl, fun _ h => h, fun _ h => .inl h, fun i b m hb h0 => by
   obtain ⟨j, _, hj⟩ := ofOrder_some hb
   exact .inr ⟨j, m, h0, hj⟩⟩), fun i bm _ hb => ?_⟩
  obtain ⟨j, hj, _⟩ := ofOrder_some hb
  cases hj
end Go.Proofs.YtjfkkokeegpeiaaGreatDoor
/- Parse reads as the plain parser reads. -/
namespace Go.Proofs.YtjfkkokeegpeiaaGreatDoor
open Go Go.Am Go.Proofs.Lx
set_option maxRecDepth 100000
abbrev AcP:Type:=(Nat→ByteArray)×(Nat→Nat)×(Nat→Nat→List V)×(Nat→Int)×(Nat→Int)×(Nat→ByteArray)×(Nat→Nat)×(Nat→Nat→List V)×Nat
def RepP(l:List Prc)(a:AcP):Prop:=a.2.2.2.2.2.2.2.2=l.length∧∀j c,l[j]? =some c→a.1 j=c.x∧a.2.1 j=c.ps.length∧(∀i m,c.ps[i]? =some m→a.2.2.1 j i=[st m.x,st m.u])∧RepN c.b (a.2.2.2.1 j,a.2.2.2.2.1 j,a.2.2.2.2.2.1 j,a.2.2.2.2.2.2.1 j,a.2.2.2.2.2.2.2.1 j)
abbrev OneP:Type:=ByteArray×Nat×(Nat→ByteArray)×(Nat→ByteArray)×NodeT
def acP1(z:OneP):AcP:=(fun _=>z.1,fun _=>z.2.1,fun _ i=>[st (z.2.2.1 i),st (z.2.2.2.1 i)],fun _=>z.2.2.2.2.1,fun _=>z.2.2.2.2.2.1,fun _=>z.2.2.2.2.2.2.1,fun _=>z.2.2.2.2.2.2.2.1,fun _=>z.2.2.2.2.2.2.2.2,1)
theorem acP1_rep{c:Prc}{z:OneP}(h:RepC c z):RepP [c] (acP1 z):=by
 refine⟨rfl,fun j c' e=>?_⟩
 cases j with
 |zero=>
  simp only[List.getElem?_cons_zero,Option.some.injEq]at e;subst e
  obtain⟨h1,⟨h2,h3⟩,h4⟩:=h
  exact⟨h1,h2,fun i m e=>by obtain⟨g1,g2⟩:=h3 i m e;simp only at g1 g2;simp only[acP1,g1,g2],h4⟩
 |succ j=>simp at e
def acPN(a:AcP)(z:OneP):AcP:=(fun j=>if j<a.2.2.2.2.2.2.2.2 then a.1 j else z.1,fun j=>if j<a.2.2.2.2.2.2.2.2 then a.2.1 j else z.2.1,fun j i=>if j<a.2.2.2.2.2.2.2.2 then a.2.2.1 j i else[st (z.2.2.1 i),st (z.2.2.2.1 i)],fun j=>if j<a.2.2.2.2.2.2.2.2 then a.2.2.2.1 j else z.2.2.2.2.1,fun j=>if j<a.2.2.2.2.2.2.2.2 then a.2.2.2.2.1 j else z.2.2.2.2.2.1,fun j=>if j<a.2.2.2.2.2.2.2.2 then a.2.2.2.2.2.1 j else z.2.2.2.2.2.2.1,fun j=>if j<a.2.2.2.2.2.2.2.2 then a.2.2.2.2.2.2.1 j else z.2.2.2.2.2.2.2.1,fun j i=>if j<a.2.2.2.2.2.2.2.2 then a.2.2.2.2.2.2.2.1 j i else z.2.2.2.2.2.2.2.2 i,a.2.2.2.2.2.2.2.2+1)
theorem acPN_rep{l:List Prc}{a:AcP}{c:Prc}{z:OneP}(h:RepP l a)(g:RepC c z):RepP (l++[c]) (acPN a z):=by
 refine⟨by simp[acPN,h.1],fun j c' e=>?_⟩
 by_cases hj:j<l.length
 ·rw[List.getElem?_append_left hj]at e
  have:=h.2 j c' e
  simp only[acPN,h.1,hj,if_true]
  exact this
 ·rw[List.getElem?_append_right (by omega)]at e
  simp only[acPN,h.1,hj,if_false]
  cases hk:j-l.length with
  |zero=>
   rw[hk]at e;simp only[List.getElem?_cons_zero,Option.some.injEq]at e;subst e
   obtain⟨h1,⟨h2,h3⟩,h4⟩:=g
   exact⟨h1,h2,fun i m e=>by obtain⟨g1,g2⟩:=h3 i m e;simp only at g1 g2;simp only[g1,g2],h4⟩
  |succ n=>rw[hk]at e;simp at e
def x00(N:Nat)(T:Nat→Tkn):StT:=(0,0,N,(fun j=>(T j).k),(fun j=>(T j).a),(fun j=>(T j).t),(fun j=>(T j).n),0,(fun _=>ByteArray.empty),0,(fun _=>ByteArray.empty))
theorem x00_rs{N:Nat}{T:Nat→Tkn}(hT:TokN N T):RS N T [] ⟨0,0,[]⟩ (x00 N T):=⟨_,_,rfl,fun j b e=>by simp at e,fun j b e=>by simp at e,hT.pos,Nat.zero_le _,by simp,by simp⟩
def tokV(N:Nat)(T:Nat→Tkn):Nat×(Nat→Int)×(Nat→Int)×(Nat→ByteArray)×(Nat→Int):=(N,(fun j=>(T j).k),(fun j=>(T j).a),(fun j=>(T j).t),(fun j=>(T j).n))
theorem nextZ_eq{N:Nat}{T:Nat→Tkn}(hT:TokN N T)(q:Nat):nextZ q (0,0,tokV N T)=some ((T 0).k,(T 0).a,(T 0).t,(T 0).n,0,0,tokV N T):=by
 unfold nextZ t_nextZ
 have:=hT.pos
 refine(if_pos ?_).trans rfl
 show(0:Int)≤0∧(0:Int)< ((N:Nat):Int)
 omega
theorem next_eq'{N:Nat}{T:Nat→Tkn}{pr:List ByteArray}{s:PS}{x:StT}(q:Nat)(h:RS N T pr s x):next q (x.1,x.2.1,x.2.2.1,x.2.2.2.1,x.2.2.2.2.1,x.2.2.2.2.2.1,x.2.2.2.2.2.2.1,x.2.2.2.2.2.2.2.1,x.2.2.2.2.2.2.2.2.1,x.2.2.2.2.2.2.2.2.2.1,x.2.2.2.2.2.2.2.2.2.2)=some ((T s.p).k,(T s.p).a,(T s.p).t,(T s.p).n,x):=next_eq q h
section
variable {N:Nat} {T:Nat→Tkn}
def spT(a0 e0:Int)(x:StT)(a:AcP):=(a.1,a.2.1,a.2.2.1,a.2.2.2.1,a.2.2.2.2.1,a.2.2.2.2.2.1,a.2.2.2.2.2.2.1,a.2.2.2.2.2.2.2.1,a0,e0,x.2.2.1,x.2.2.2.1,x.2.2.2.2.1,x.2.2.2.2.2.1,x.2.2.2.2.2.2.1,x.1,x.2.1,x.2.2.2.2.2.2.2.1,x.2.2.2.2.2.2.2.2.2.1,x.2.2.2.2.2.2.2.2.1,x.2.2.2.2.2.2.2.2.2.2,a.2.2.2.2.2.2.2.2)
def BPT(T:Nat→Tkn)(N:Nat)(a0 e0:Int)(acc:List Prc):PR (List Prc)→ParseT_l0_g→Prop
 | .ok l s,.inr (.inl _)=>acc++l=[]
 | .ok l s,.inr (.inr (.inr z))=>∃a:AcP,z=(a.2.2.2.2.2.2.2.2,a.1,a.2.1,a.2.2.1,a.2.2.2.1,a.2.2.2.2.1,a.2.2.2.2.2.1,a.2.2.2.2.2.2.1,a.2.2.2.2.2.2.2.1,a0,e0)∧RepP (acc++l) a
 | .err p c,.inl e=>p<N∧e.1=(T p).a∧e.2.1=c
 | .err p c,.inr (.inr (.inl e))=>p<N∧e.1=(T p).a∧e.2.1=c
 |_,_=>False
def PST(N:Nat)(T:Nat→Tkn)(a0 e0:Int)(acc:List Prc)(pr:List ByteArray)(s:PS)(x:StT):ParseT_l0_a→Prop
 | .inl y=>acc=[]∧pr=[]∧s=⟨0,0,[]⟩∧x=x00 N T∧y=(a0,e0,tokV N T)
 | .inr y=>∃a,y=spT a0 e0 x a∧RepP acc a
theorem parse_loopT(hT:TokN N T)(a0 e0:Int){F q:Nat}(hF:F≤1000000000)(hq:2*F+2000000100≤q)(x0:a_ParseT):∀(g:Nat),g≤F→∀(m:Nat),g<m→∀(acc:List Prc) (pr:List ByteArray) (s:PS) (x:StT) (y:ParseT_l0_a),PST N T a0 e0 acc pr s x y→acc.length+g≤1000000000→pr.length+g≤1000000000→RS N T pr s x→procsP T g pr s≠ .out→
 Rs (ParseT_l0 (TokensV q) (nextZ q) (next q) (procedureZ q) (procedure q) m x0 y) (BPT T N a0 e0 acc (procsP T g pr s)):=by
 intro g
 induction g with
 |zero=>intro _ m _ acc pr s x y _ _ _ _ ho;rw[procsP]at ho;exact absurd rfl ho
 |succ g ih=>
  intro hg m hm acc pr s x y hy hb hb2 h ho
  obtain⟨m,rfl⟩:∃k,m=k+1:=⟨m-1,by omega⟩
  unfold ParseT_l0
  refine Rs.step3 fun Q hQ=>?_
  have hop:procsP T (g+1) pr s=if(T s.p).k=0 then .ok [] s else(procP T g pr s).bind fun x s1=>(procsP T g (pr++[x.x]) s1).bind fun l s2=>.ok (x::l) s2:=by rw[procsP]
  rcases y with y|y
  ·obtain⟨rfl,rfl,rfl,rfl,rfl⟩:=hy
   rw[Sum.elim_inl]
   unfold ParseT_l0_t0
   dsimp only
   rw[nextZ_eq hT]
   dsimp only[Option.bind_some]
   by_cases hk:(T 0).k=0
   ·rw[if_pos hk]at hop
    refine Rs.neg (by simp[hk]) (Rs.some ?_)
    show BPT T N a0 e0 [] (procsP T (g+1) [] ⟨0,0,[]⟩) _
    rw[hop]
    rfl
   ·rw[if_neg hk]at hop
    refine Rs.pos (by simpa using hk) ?_
    have hp:=procedure_rs (f:=g) (q:=q) hT (by omega) (by omega) (x00_rs hT) (by simp) (PR.bind_out (hop▸ho))
    refine Rs.bind (f:=_) (show Rs (procedureZ q (0,0,tokV N T)) _ from hp) fun z hz=>?_
    cases hr:procP T g [] ⟨0,0,[]⟩with
    |out=>rw[hr]at hz;rcases z with z|z<;>exact hz.elim
    |err p c=>
     rw[hr]at hz hop
     rcases z with z|z
     ·exact hz.elim
     ·refine Rs.some ?_
      show BPT T N a0 e0 [] (procsP T (g+1) [] ⟨0,0,[]⟩) _
      rw[hop]
      exact⟨hz.1,by rw[hz.2],by rw[hz.2]⟩
    |ok c s2=>
     rw[hr]at hz hop
     dsimp only[PR.bind]at hop
     rcases z with z|z
     ·obtain⟨zc,zx⟩:=hz
      refine Rs.some (hQ _ ?_)
      have ho2:=PR.bind_out (hop▸ho)
      refine(ih (by omega) m (by omega) [c] ([]++[c.x]) s2 _ (.inr (spT a0 e0 z.2.2.2.2.2.2.2.2.2 (acP1 (z.1,z.2.1,z.2.2.1,z.2.2.2.1,z.2.2.2.2.1,z.2.2.2.2.2.1,z.2.2.2.2.2.2.1,z.2.2.2.2.2.2.2.1,z.2.2.2.2.2.2.2.2.1)))) ⟨_,rfl,acP1_rep zc⟩ (by simp;omega) (by simp;omega) zx ho2).mono fun z hz=>?_
      rw[hop]
      cases hr2:procsP T g ([]++[c.x]) s2 with
      |out=>exact absurd hr2 ho2
      |err p c=>rw[hr2]at hz;rcases z with z|z|z|z<;>exact hz
      |ok l s3=>
       rw[hr2]at hz
       rcases z with z|z|z|z
       ·exact hz.elim
       ·exact absurd (show[c]++l=[]from hz) (by simp)
       ·exact hz.elim
       ·exact hz
     ·exact hz.elim
  ·obtain⟨a,rfl,ha⟩:=hy
   have hal:=ha.1
   rw[Sum.elim_inr]
   unfold ParseT_l0_t1
   dsimp only[spT]
   rw[next_eq' q h]
   dsimp only[Option.bind_some]
   by_cases hk:(T s.p).k=0
   ·rw[if_pos hk]at hop
    refine Rs.neg (by simp[hk]) (Rs.some ?_)
    show BPT T N a0 e0 acc (procsP T (g+1) pr s) _
    rw[hop]
    exact⟨a,rfl,by rw[List.append_nil];exact ha⟩
   ·rw[if_neg hk]at hop
    refine Rs.pos (by simpa using hk) ?_
    have hp:=procedure_rs (f:=g) (q:=q) hT (by omega) (by omega) h (by omega) (PR.bind_out (hop▸ho))
    refine Rs.bind hp fun z hz=>?_
    cases hr:procP T g pr s with
    |out=>rw[hr]at hz;rcases z with z|z<;>exact hz.elim
    |err p c=>
     rw[hr]at hz hop
     rcases z with z|z
     ·exact hz.elim
     ·refine Rs.some ?_
      show BPT T N a0 e0 acc (procsP T (g+1) pr s) _
      rw[hop]
      exact⟨hz.1,by rw[hz.2],by rw[hz.2]⟩
    |ok c s2=>
     rw[hr]at hz hop
     dsimp only[PR.bind]at hop
     rcases z with z|z
     ·obtain⟨zc,zx⟩:=hz
      refine Rs.pos ⟨by unfold roomBound;omega,by unfold maxLen;omega,Nat.le_refl _⟩ (Rs.some (hQ _ ?_))
      have ho2:=PR.bind_out (hop▸ho)
      refine(ih (by omega) m (by omega) (acc++[c]) (pr++[c.x]) s2 _ (.inr (spT a0 e0 z.2.2.2.2.2.2.2.2.2 (acPN a (z.1,z.2.1,z.2.2.1,z.2.2.2.1,z.2.2.2.2.1,z.2.2.2.2.2.1,z.2.2.2.2.2.2.1,z.2.2.2.2.2.2.2.1,z.2.2.2.2.2.2.2.2.1)))) ⟨_,rfl,acPN_rep ha zc⟩ (by simp;omega) (by simp;omega) zx ho2).mono fun z hz=>?_
      rw[hop]
      cases hr2:procsP T g (pr++[c.x]) s2 with
      |out=>exact absurd hr2 ho2
      |err p c=>rw[hr2]at hz;rcases z with z|z|z|z<;>exact hz
      |ok l s3=>
       rw[hr2]at hz
       rcases z with z|z|z|z
       ·exact hz.elim
       ·exact absurd (show(acc++[c])++l=[]from hz) (by simp)
       ·exact hz.elim
       ·obtain⟨a2,e1,e2⟩:=hz
        exact⟨a2,e1,by simpa using e2⟩
     ·exact hz.elim
end
end Go.Proofs.YtjfkkokeegpeiaaGreatDoor
/- Parse reads as the plain parser reads. -/
namespace Go.Proofs.YtjfkkokeegpeiaaGreatDoor
open Go Go.Am Go.Proofs.Lx
set_option maxRecDepth 100000
section
variable {N:Nat} {T:Nat→Tkn}
def spP(x:StT)(a:AcP):=(a.1,a.2.1,a.2.2.1,a.2.2.2.1,a.2.2.2.2.1,a.2.2.2.2.2.1,a.2.2.2.2.2.2.1,a.2.2.2.2.2.2.2.1,x.2.2.1,x.2.2.2.1,x.2.2.2.2.1,x.2.2.2.2.2.1,x.2.2.2.2.2.2.1,x.1,x.2.1,x.2.2.2.2.2.2.2.1,x.2.2.2.2.2.2.2.2.2.1,x.2.2.2.2.2.2.2.2.1,x.2.2.2.2.2.2.2.2.2.2,a.2.2.2.2.2.2.2.2)
def BPP(T:Nat→Tkn)(N:Nat)(acc:List Prc):PR (List Prc)→ParseP_l0_g→Prop
 | .ok l s,.inr (.inl _)=>acc++l=[]
 | .ok l s,.inr (.inr (.inr z))=>True
 | .err p c,.inl e=>p<N∧e.1=(T p).a∧e.2=c
 | .err p c,.inr (.inr (.inl e))=>p<N∧e.1=(T p).a∧e.2.1=c
 |_,_=>False
def PSP(N:Nat)(T:Nat→Tkn)(acc:List Prc)(pr:List ByteArray)(s:PS)(x:StT):ParseP_l0_a→Prop
 | .inl y=>acc=[]∧pr=[]∧s=⟨0,0,[]⟩∧x=x00 N T∧y=()
 | .inr y=>∃a,y=spP x a∧RepP acc a
theorem parse_loopP(hT:TokN N T){F q:Nat}(hF:F≤1000000000)(hq:2*F+2000000100≤q)(x0:a_ParseP)(hx0:x0.2=tokV N T):∀(g:Nat),g≤F→∀(m:Nat),g<m→∀(acc:List Prc) (pr:List ByteArray) (s:PS) (x:StT) (y:ParseP_l0_a),PSP N T acc pr s x y→acc.length+g≤1000000000→pr.length+g≤1000000000→RS N T pr s x→procsP T g pr s≠ .out→
 Rs (ParseP_l0 (nextZ q) (next q) (procedureZ q) (procedure q) m x0 y) (BPP T N acc (procsP T g pr s)):=by
 intro g
 induction g with
 |zero=>intro _ m _ acc pr s x y _ _ _ _ ho;rw[procsP]at ho;exact absurd rfl ho
 |succ g ih=>
  intro hg m hm acc pr s x y hy hb hb2 h ho
  obtain⟨m,rfl⟩:∃k,m=k+1:=⟨m-1,by omega⟩
  unfold ParseP_l0
  refine Rs.step3 fun Q hQ=>?_
  have hop:procsP T (g+1) pr s=if(T s.p).k=0 then .ok [] s else(procP T g pr s).bind fun x s1=>(procsP T g (pr++[x.x]) s1).bind fun l s2=>.ok (x::l) s2:=by rw[procsP]
  rcases y with y|y
  ·obtain⟨rfl,rfl,rfl,rfl,rfl⟩:=hy
   rw[Sum.elim_inl]
   unfold ParseP_l0_t0
   rw[hx0]
   rw[nextZ_eq hT]
   dsimp only[Option.bind_some]
   by_cases hk:(T 0).k=0
   ·rw[if_pos hk]at hop
    refine Rs.neg (by simp[hk]) (Rs.some ?_)
    show BPP T N [] (procsP T (g+1) [] ⟨0,0,[]⟩) _
    rw[hop]
    rfl
   ·rw[if_neg hk]at hop
    refine Rs.pos (by simpa using hk) ?_
    have hp:=procedure_rs (f:=g) (q:=q) hT (by omega) (by omega) (x00_rs hT) (by simp) (PR.bind_out (hop▸ho))
    refine Rs.bind (f:=_) (show Rs (procedureZ q (0,0,tokV N T)) _ from hp) fun z hz=>?_
    cases hr:procP T g [] ⟨0,0,[]⟩with
    |out=>rw[hr]at hz;rcases z with z|z<;>exact hz.elim
    |err p c=>
     rw[hr]at hz hop
     rcases z with z|z
     ·exact hz.elim
     ·refine Rs.some ?_
      show BPP T N [] (procsP T (g+1) [] ⟨0,0,[]⟩) _
      rw[hop]
      exact⟨hz.1,by rw[hz.2],by rw[hz.2]⟩
    |ok c s2=>
     rw[hr]at hz hop
     dsimp only[PR.bind]at hop
     rcases z with z|z
     ·obtain⟨zc,zx⟩:=hz
      refine Rs.some (hQ _ ?_)
      have ho2:=PR.bind_out (hop▸ho)
      refine(ih (by omega) m (by omega) [c] ([]++[c.x]) s2 _ (.inr (spP z.2.2.2.2.2.2.2.2.2 (acP1 (z.1,z.2.1,z.2.2.1,z.2.2.2.1,z.2.2.2.2.1,z.2.2.2.2.2.1,z.2.2.2.2.2.2.1,z.2.2.2.2.2.2.2.1,z.2.2.2.2.2.2.2.2.1)))) ⟨_,rfl,acP1_rep zc⟩ (by simp;omega) (by simp;omega) zx ho2).mono fun z hz=>?_
      rw[hop]
      cases hr2:procsP T g ([]++[c.x]) s2 with
      |out=>exact absurd hr2 ho2
      |err p c=>rw[hr2]at hz;rcases z with z|z|z|z<;>exact hz
      |ok l s3=>
       rw[hr2]at hz
       rcases z with z|z|z|z
       ·exact hz.elim
       ·exact absurd (show[c]++l=[]from hz) (by simp)
       ·exact hz.elim
       ·trivial
     ·exact hz.elim
  ·obtain⟨a,rfl,ha⟩:=hy
   have hal:=ha.1
   rw[Sum.elim_inr]
   unfold ParseP_l0_t1
   dsimp only[spP]
   rw[next_eq' q h]
   dsimp only[Option.bind_some]
   by_cases hk:(T s.p).k=0
   ·rw[if_pos hk]at hop
    refine Rs.neg (by simp[hk]) (Rs.some ?_)
    show BPP T N acc (procsP T (g+1) pr s) _
    rw[hop]
    trivial
   ·rw[if_neg hk]at hop
    refine Rs.pos (by simpa using hk) ?_
    have hp:=procedure_rs (f:=g) (q:=q) hT (by omega) (by omega) h (by omega) (PR.bind_out (hop▸ho))
    refine Rs.bind hp fun z hz=>?_
    cases hr:procP T g pr s with
    |out=>rw[hr]at hz;rcases z with z|z<;>exact hz.elim
    |err p c=>
     rw[hr]at hz hop
     rcases z with z|z
     ·exact hz.elim
     ·refine Rs.some ?_
      show BPP T N acc (procsP T (g+1) pr s) _
      rw[hop]
      exact⟨hz.1,by rw[hz.2],by rw[hz.2]⟩
    |ok c s2=>
     rw[hr]at hz hop
     dsimp only[PR.bind]at hop
     rcases z with z|z
     ·obtain⟨zc,zx⟩:=hz
      refine Rs.pos ⟨by unfold roomBound;omega,by unfold maxLen;omega,Nat.le_refl _⟩ (Rs.some (hQ _ ?_))
      have ho2:=PR.bind_out (hop▸ho)
      refine(ih (by omega) m (by omega) (acc++[c]) (pr++[c.x]) s2 _ (.inr (spP z.2.2.2.2.2.2.2.2.2 (acPN a (z.1,z.2.1,z.2.2.1,z.2.2.2.1,z.2.2.2.2.1,z.2.2.2.2.2.1,z.2.2.2.2.2.2.1,z.2.2.2.2.2.2.2.1,z.2.2.2.2.2.2.2.2.1)))) ⟨_,rfl,acPN_rep ha zc⟩ (by simp;omega) (by simp;omega) zx ho2).mono fun z hz=>?_
      rw[hop]
      cases hr2:procsP T g (pr++[c.x]) s2 with
      |out=>exact absurd hr2 ho2
      |err p c=>rw[hr2]at hz;rcases z with z|z|z|z<;>exact hz
      |ok l s3=>
       rw[hr2]at hz
       rcases z with z|z|z|z
       ·exact hz.elim
       ·exact absurd (show(acc++[c])++l=[]from hz) (by simp)
       ·exact hz.elim
       ·trivial
     ·exact hz.elim
end
end Go.Proofs.YtjfkkokeegpeiaaGreatDoor
/- Trees, procedures as values; what Parse returns. -/
namespace Go.Proofs.YtjfkkokeegpeiaaGreatDoor
open Go Go.Am Go.Proofs.Lx
set_option maxRecDepth 100000
def dfl:List V:=[i64 0,i64 0,st ⟨#[]⟩,.ro 4 0 (fun _=>[])]
mutual
def cellsT:Tr→List V
 | .node k n s l=>[i64 k,i64 n,st s,.ro 4 l.length (fun j=>(cellsL l).getD j dfl)]
def cellsL:List Tr→List (List V)
 | []=>[]
 |t::l=>cellsT t::cellsL l
end
def cellsP(m:Prm):List V:=[st m.x,st m.u]
def cellsC(c:Prc):List V:=st c.x:: .ro 2 c.ps.length (fun j=>(c.ps.map cellsP).getD j [st ⟨#[]⟩,st ⟨#[]⟩])::cellsT c.b
def dflC:List V:=st ⟨#[]⟩:: .ro 2 0 (fun _=>[])::dfl
def procV(l:List Prc):V:=.ro 6 l.length (fun j=>(l.map cellsC).getD j dflC)
theorem pureT(t:Tr):pureL (cellsT t)=true:=by cases t;simp[cellsT,pureL,V.pure]
theorem pureLs:∀(l:List Tr) (j:Nat),pureL ((cellsL l).getD j dfl)=true
 | [],j=>by simp[cellsL,dfl,pureL,V.pure]
 |t::l,0=>by simp only[cellsL,List.getD_cons_zero];exact pureT t
 |t::l,j+1=>by simp only[cellsL,List.getD_cons_succ];exact pureLs l j
mutual
theorem leT:∀(t:Tr) (x:NodeT),RepN t x→LeL [i64 x.1,i64 x.2.1,st x.2.2.1,.ro 4 x.2.2.2.1 x.2.2.2.2] (cellsT t)
 | .node k n s l,x,h=>by
  simp only[RepN]at h
  obtain⟨h1,h2,h3,h4,h5⟩:=h
  simp only[cellsT,h1,h2,h3,h4]
  refine LeL.cons (Le.refl _) (LeL.cons (Le.refl _) (LeL.cons (Le.refl _) (LeL.cons (Le.ro fun j hj=>⟨?_,pureLs l j⟩) LeL.nil)))
  have:=leLs l x.2.2.2.2 0 h5 j hj
  rwa [Nat.zero_add]at this
theorem leLs:∀(l:List Tr) (f:Nat→List V) (i:Nat),RepL l f i→∀j,j<l.length→LeL (f (i+j)) ((cellsL l).getD j dfl)
 | [],_,_,_,j,hj=>by simp at hj
 |t::l,f,i,h,0,_=>by
  simp only[RepL]at h
  obtain⟨⟨y,e,hy⟩,_⟩:=h
  simp only[cellsL,List.getD_cons_zero,Nat.add_zero]
  rw[e]
  exact leT t y hy
 |t::l,f,i,h,j+1,hj=>by
  simp only[RepL]at h
  have:=leLs l f (i+1) h.2 j (by simpa using hj)
  simp only[cellsL,List.getD_cons_succ]
  rwa [show i+(j+1)=i+1+j by omega]
end
theorem pureC(c:Prc):pureL (cellsC c)=true:=by
 have:=pureT c.b
 simp only[cellsC,pureL,V.pure,Bool.and_eq_true]
 exact⟨trivial,trivial,this⟩
theorem leP{l:List Prc}{a:AcP}(h:RepP l a):Le (.ro 6 a.2.2.2.2.2.2.2.2 (fun j=>[st (a.1 j),.ro 2 (a.2.1 j) (a.2.2.1 j),i64 (a.2.2.2.1 j),i64 (a.2.2.2.2.1 j),st (a.2.2.2.2.2.1 j),.ro 4 (a.2.2.2.2.2.2.1 j) (a.2.2.2.2.2.2.2.1 j)])) (procV l):=by
 unfold procV
 rw[h.1]
 refine Le.ro fun j hj=>?_
 have hj':l[j]? =some l[j]:=List.getElem?_eq_getElem hj
 obtain⟨h1,h2,h3,h4⟩:=h.2 j _ hj'
 have e:(l.map cellsC).getD j dflC=cellsC l[j]:=by
  rw[List.getD_eq_getElem?_getD,List.getElem?_map,hj'];rfl
 rw[e]
 refine⟨?_,pureC _⟩
 unfold cellsC
 rw[h1,h2]
 refine LeL.cons (Le.refl _) (LeL.cons (Le.ro_eq fun i hi=>?_) (leT _ _ h4))
 have hi':l[j].ps[i]? =some l[j].ps[i]:=List.getElem?_eq_getElem hi
 rw[h3 i _ hi',List.getD_eq_getElem?_getD,List.getElem?_map,hi']
 exact⟨rfl,rfl⟩
theorem parse_lex{q:Nat}{s:ByteArray}{z:g_TokensV}(hz:TokensV q s=some z)(he:z.2.1≠0):SC E5 8 [st s] [] (.ret (.tup [procV [],i64 z.1,i64 z.2.1]) []):=by
 have hp:ParseT q s=some (.inl (z.1,z.2.1)):=by
  unfold ParseT t_ParseT
  rw[hz]
  dsimp only[Option.bind_some]
  rw[if_pos (by simpa using he)]
 exact SC.le (sc_ParseT q s _ hp) (Le.tup (LeL.cons Le.nil_ro (LeL.cons (Le.refl _) (LeL.cons (Le.refl _) LeL.nil))))
theorem parse_run{N:Nat}{T:Nat→Tkn}(hT:TokN N T){F q:Nat}(hF:F≤1000000000)(hq:2*F+2000000100≤q){s:ByteArray}{a:Int}(hz:TokensV q s=some (a,0,tokV N T)):
 match procsP T F [] ⟨0,0,[]⟩with
 | .ok l _=>SC E5 8 [st s] [] (.ret (.tup [procV l,i64 0,i64 0]) [])
 | .err p c=>p<N∧SC E5 8 [st s] [] (.ret (.tup [procV [],i64 (T p).a,i64 c]) [])
 | .out=>True:=by
 cases hr:procsP T F [] ⟨0,0,[]⟩with
 |out=>trivial
 |err p c=>
  obtain⟨z,h1,h2⟩:=parse_loopP (N:=N) hT hF hq (a,tokV N T) rfl F (Nat.le_refl _) q (by omega) [] [] ⟨0,0,[]⟩ (x00 N T) (.inl ()) ⟨rfl,rfl,rfl,rfl,rfl⟩ (by simpa using hF) (by simpa using hF) (x00_rs hT) (by rw[hr];intro h;cases h)
  rw[hr]at h2
  have key:∃e:Int×Int,ParseP q (a,tokV N T)=some e∧p<N∧e=((T p).a,c):=by
   unfold ParseP t_ParseP
   rw[h1]
   dsimp only[Option.bind_some]
   rcases z with z|z|z|z
   ·obtain⟨g1,g2,g3⟩:=h2
    exact⟨z,rfl,g1,Prod.ext g2 g3⟩
   ·exact h2.elim
   ·obtain⟨g1,g2,g3⟩:=h2
    exact⟨(z.1,z.2.1),rfl,g1,Prod.ext g2 g3⟩
   ·exact h2.elim
  obtain⟨e,k1,k2,rfl⟩:=key
  exact⟨k2,SC.le (parse_pan q s a (tokV N T) hz _ k1) (Le.tup (LeL.cons Le.nil_ro (LeL.cons (Le.refl _) (LeL.cons (Le.refl _) LeL.nil))))⟩
 |ok l s2=>
  obtain⟨z,h1,h2⟩:=parse_loopT (N:=N) hT a 0 hF hq s F (Nat.le_refl _) q (by omega) [] [] ⟨0,0,[]⟩ (x00 N T) (.inl (a,0,tokV N T)) ⟨rfl,rfl,rfl,rfl,rfl⟩ (by simpa using hF) (by simpa using hF) (x00_rs hT) (by rw[hr];intro h;cases h)
  rw[hr]at h2
  rcases z with z|z|z|z
  ·exact h2.elim
  ·have e:l=[]:=by simpa[BPT]using h2
   subst e
   have hp:ParseT q s=some (.inl (0,0)):=by
    unfold ParseT t_ParseT
    rw[hz]
    dsimp only[Option.bind_some]
    rw[if_neg (by simp),h1]
    rfl
   exact SC.le (sc_ParseT q s _ hp) (Le.tup (LeL.cons Le.nil_ro (LeL.cons (Le.refl _) (LeL.cons (Le.refl _) LeL.nil))))
  ·exact h2.elim
  ·obtain⟨b,rfl,hb⟩:=h2
   rw[List.nil_append]at hb
   have hpt:ParseT q s=some (.inr (b.2.2.2.2.2.2.2.2,b.1,b.2.1,b.2.2.1,b.2.2.2.1,b.2.2.2.2.1,b.2.2.2.2.2.1,b.2.2.2.2.2.2.1,b.2.2.2.2.2.2.2.1)):=by
    unfold ParseT t_ParseT
    rw[hz]
    dsimp only[Option.bind_some]
    rw[if_neg (by simp),h1]
    rfl
   have h3:=SC.giveM (L2:=[]) 0 (sc_ParseT q s _ hpt) (by rfl) (by simp[V.bw,V.bw2,V.bw1,Am.hp,V.pure,pureL])
   simp only[V.bw,V.bw2,V.bw1,Am.hp,List.map_cons,List.map_nil,List.getD_eq_getElem?_getD,List.getElem?_cons_succ,List.getElem?_cons_zero,Option.getD_some,Nat.zero_add,Nat.le_refl,and_self,if_true]at h3
   exact SC.le h3 (Le.tup (LeL.cons (leP hb) (LeL.cons (Le.refl _) (LeL.cons (Le.refl _) LeL.nil))))
end Go.Proofs.YtjfkkokeegpeiaaGreatDoor
/- An example of the chapter is printed. -/
namespace Go.Proofs.YtjfkkokeegpeiaaGreatDoor
open Go Go.Am Go.RowKit Go.Proofs.Lx
set_option maxRecDepth 100000
noncomputable def EP:Env:={E with allR:=true,push:=false,rows:=false,sett:=fun _=>false}
theorem hWP:WF EP:=WF.of EP (fun _=>rfl) (by kernel_rfl) hW.1.1
theorem hXP:SoundX EP:=fun f args v h=>by
 obtain⟨h1,h2,h3⟩:=hX f args v h
 exact⟨h1,h2,fun β S D w us a b c=>h3 β S D w us a ⟨b.rd,b.inv⟩ c⟩
theorem scP{f:FuncId}{args:List V}{L:List (Option Chunk)}{cr:CRes}(h:SC EP f args L cr)(hr:Nat.ble (roots false (hp L) args).length (roots true (hp L) args).length=true):SC E5 f args L cr:=by
 refine un7 (h:= ?_) hr
 exact⟨h.1,fun β S w us h1 h2 h3=>h.2 β S w us h1 h2 ⟨h3.rd,h3.inv⟩⟩
def byteC:List V→Bool
 | [.sc (.int .u8 x)]=>decide (0≤x)&&decide (x<256)
 |_=>false
def bldT:CallT:=fun f args L k=>
 match f,args,L with
 |100,[.ptr 0 0],some (.tbk 79 [.ptr 0 0,v])::rest=>k (.ret (.tup []) (some (.tbk 79 [.ptr 0 0,v])::rest))
 |100,[.ptr 0 0],some (.tbk 79 [.sc (.pointer none),v])::rest=>k (.ret (.tup []) (some (.tbk 79 [.ptr 0 0,v])::rest))
 |37,[.ptr 0 0],[some (.tbk 79 [c0,.sl 1 1 0 n]),some (.row 5 1 n' f)]=>if n=n'∧0<n∧(List.range n).all (fun j=>byteC (f j))=true then k (.ret (st (strOfV n f)) [none,none])else none
 |_,_,_=>none
theorem byteC_eq{l:List V}(h:byteC l=true):∃x:UInt8,l=[.sc (.int .u8 ((x.toNat:Nat):Int))]∧UInt8.ofNat (u8I l).toNat=x:=by
 unfold byteC at h
 split at h
 ·rename_i x
  simp only[Bool.and_eq_true,decide_eq_true_eq]at h
  have hx:x.toNat<256:=by omega
  refine⟨UInt8.ofNat x.toNat,?_,rfl⟩
  have:((UInt8.ofNat x.toNat).toNat:Int)=x:=by
   simp only[UInt8.toNat_ofNat']
   omega
  rw[this]
 ·cases h
theorem bldT_sound:SoundC EP bldT:=by
 intro f args L k r h
 unfold bldT at h
 split at h
 ·exact⟨_,h,cc_used_sc rfl _ _⟩
 ·exact⟨_,h,cc_fresh_sc rfl _ _⟩
 ·rename_i c0 n n' f
  split at h
  ·rename_i hc
   obtain⟨rfl,h0,hall⟩:=hc
   rw[List.all_eq_true]at hall
   refine⟨_,h,?_⟩
   have hl:((List.range n).map fun j=>UInt8.ofNat (u8I (f j)).toNat).length=n:=by simp
   have:=str_sc (E:=EP) rfl c0 (n:=n) (f:=f) (l:=(List.range n).map fun j=>UInt8.ofNat (u8I (f j)).toNat) hl (by
    intro e
    rw[e]at hl
    simp at hl
    omega) (fun j x hx=>by
    rw[List.getElem?_map,Option.map_eq_some_iff]at hx
    obtain⟨i,hi,rfl⟩:=hx
    obtain⟨h1,h2⟩:=List.getElem?_eq_some_iff.1 hi
    simp at h1 h2
    subst h2
    obtain⟨y,e1,e2⟩:=byteC_eq (hall j (by simpa using h1))
    rw[e2]
    exact e1)
   unfold strOfV strOfNums
   rw[List.map_map]
   exact this
  ·cases h
 ·cases h
def spB(f:FuncId):Bool:=f==100||f==37
def prc1:List Prc:=[⟨⟨#[112]⟩,[⟨⟨#[116]⟩,⟨#[115]⟩⟩],.node 14 0 ⟨#[]⟩ [.node 1 0 ⟨#[120]⟩ [.node 20 0 ⟨#[42]⟩ [.node 15 2 ⟨#[]⟩ [],.node 20 0 ⟨#[43]⟩ [.node 15 1 ⟨#[]⟩ [],.node 18 0 ⟨#[98,97,116,116,101,114,121]⟩ []]]]]⟩]
def out1:ByteArray:=⟨#[112,114,111,99,101,100,117,114,101,32,112,40,116,58,32,115,41,32,123,10,32,32,108,101,116,32,120,32,61,32,50,32,42,32,40,49,32,43,32,116,108,109,46,98,97,116,116,101,114,121,41,59,10,125,10]⟩
theorem print1:SC E5 13 [procV prc1] [] (.ret (st out1) []):=scP (SC.closedB (sp:=spB) (base:=bldT) hWP hXP bldT_sound 80 (by kernel_rfl)) (by kernel_rfl)
end Go.Proofs.YtjfkkokeegpeiaaGreatDoor

