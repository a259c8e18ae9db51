/- Texts joined. -/
import Derived.Test.YtjfkkokeegpeiaaGreatDoorQF
import Derived.Test.YtjfkkokeegpeiaaGreatDoorQC
import Derived.Test.YtjfkkokeegpeiaaGreatDoorQE
import Derived.Lib.Strings
/- The printer of the program, lifted: lines. -/
set_option linter.unusedSimpArgs false
set_option linter.unusedVariables false
namespace Go.Proofs.YtjfkkokeegpeiaaGreatDoor
open Go Go.Am Go.Proofs Go.Proofs.Lx
set_option maxRecDepth 100000
def chT:Option Chunk→List V|some (.tbk _ l)=>l|_=>[]
noncomputable def E8:Env:={E5 with lit:=fun _=>false}
theorem hW8:WF E8:=WF.of E8 (fun _=>rfl) (by kernel_rfl) hW.1.1
theorem hX8:SoundX E8:=SoundX.none fun _ _=>rfl
theorem sc8{f:FuncId}{args:List V}{L:List (Option Chunk)}{cr:CRes}:SC E8 f args L cr↔SC E5 f args L cr:=
 ⟨fun h=>⟨h.1,fun β S w us h1 h2 h3=>h.2 β S w us h1 h2 ⟨h3.rd,h3.inv⟩⟩,fun h=>⟨h.1,fun β S w us h1 h2 h3=>h.2 β S w us h1 h2 ⟨h3.rd,h3.inv⟩⟩⟩
abbrev fe9:Type:=Unit
abbrev ge9:Type:=Unit
def fh2:fe9→List V×List (Option Chunk):=(fun _=>(([.ptr 0 0]:List V),([some (.tbk 79 [.sc (.pointer none),g8])]:List (Option Chunk))))
def ij7(t:TT):fe9:=()
theorem ig0:VI fh2:=vd ij7 fun _=>rfl
def hp0:ge9→CRes:=(fun _=>.ret (.tup []) [some (.tbk 79 [.ptr 0 0,g8])]:(Unit)→CRes)
noncomputable def CCF(q:Nat)(x:fe9):Option ge9:=some ()
theorem ie4(q:Nat):Lw E8 100 fh2 hp0 (CCF q):=by
 intro x z h
 unfold CCF at h
 cases h
 exact by2 rfl _ _
abbrev fk8:Type:=Unit
abbrev gn0:Type:=Unit
def fj7:fk8→List V×List (Option Chunk):=(fun _=>(([.ptr 0 0]:List V),([some (.tbk 79 [.ptr 0 0,g8])]:List (Option Chunk))))
def ii1(t:TT):fk8:=()
theorem ij9:VI fj7:=vd ii1 fun _=>rfl
def hq1:gn0→CRes:=(fun _=>.ret (.tup []) [some (.tbk 79 [.ptr 0 0,g8])]:(Unit)→CRes)
noncomputable def CCN(q:Nat)(x:fk8):Option gn0:=some ()
theorem ia8(q:Nat):Lw E8 100 fj7 hq1 (CCN q):=by
 intro x z h
 unfold CCN at h
 cases h
 exact be1 rfl _ _
abbrev gl1:Type:=Nat×FI
abbrev hk8:Type:=Nat×FI
def fy5:AR gl1:=fun x=>([.ptr 0 0],[some (.tbk 79 [.ptr 0 0,.sl 1 1 0 x.1]),some (.row 5 1 x.1 (fun j=>[u8 (x.2 j)]))])
def il8(t:TT):gl1:=((chN (co t 1)),dRI (co t 1) 0)
theorem ij0:VI fy5:=vd il8 fun _=>rfl
def ie3:hk8→CRes:=fun z=>.ret (.tup []) [some (.tbk 79 [.ptr 0 0,.sl 1 1 0 z.1]),some (.row 5 1 z.1 (fun j=>[u8 (z.2 j)]))]
noncomputable def CC(q:Nat)(x:gl1):Option hk8:=some x
theorem hq7(q:Nat):Lw E8 100 fy5 ie3 (CC q):=by
 intro x z h
 unfold CC at h
 cases h
 exact be1 rfl _ _
abbrev zQ:Type:=ByteArray×Int
abbrev ak3:Type:=ByteArray
def xE:AR zQ:=fun x=>([st x.1,i64 x.2],[])
def gg6(t:TT):zQ:=(vS (ag t 0),vI (ag t 1))
theorem eb0:VI xE:=vd gg6 fun _=>rfl
def bg4:ak3→CRes:=fun z=>.ret (st z) []
noncomputable def Repeat(q:Nat)(x:zQ):Option ak3:=if 0≤x.2∧x.2≤1000∧x.1.size≤1000 then some ⟨(Lib.repeatL x.1.data.toList x.2.toNat).toArray⟩else none
theorem bq4(q:Nat):Lw E8 71 xE bg4 (Repeat q):=by
 rintro⟨s,n⟩ z h
 unfold Repeat at h
 split at h
 ·rename_i hn
  cases h
  exact sc8.2 (sc5.2 (SC.ext hX (by
   show bz9 71 [st s,i64 n]=_
   simp only[bz9,if_pos,st,i64]
   exact if_pos hn)))
 ·cases h
abbrev dv5:Type:=ByteArray×Nat×FI
abbrev ed8:Type:=Int×Nat×FI
def bz6:AR dv5:=fun x=>([.ptr 0 0,st x.1],[some (.tbk 79 [.ptr 0 0,.sl 1 1 0 x.2.1]),some (.row 5 1 x.2.1 (fun j=>[u8 (x.2.2 j)]))])
def il3(t:TT):dv5:=((vS (ag t 1)),dB ((chT (co t 0)).getD 1 .junk),dRI (co t 1) 0)
theorem hr8:VI bz6:=vd il3 fun _=>rfl
def ep9:ed8→CRes:=fun z=>.ret (.tup [i64 z.1,.sc .nilIface]) [some (.tbk 79 [.ptr 0 0,.sl 1 1 0 z.2.1]),some (.row 5 1 z.2.1 (fun j=>[u8 (z.2.2 j)]))]
def fu0{β:Type}(c_CC:gl1→Option hk8)(x:dv5)(dn:ed8→Option β):Option β:=
 (c_CC x.2).bind fun z2=>if(z2.1+x.1.size)*1≤d5∧z2.1+x.1.size≤maxLen∧z2.1≤z2.1 then dn (((x.1.size:Int),z2.1+x.1.size,fun j=>if j<z2.1 then z2.2 j else((UInt8.toNat (List.getD (Array.toList x.1.data) (j-z2.1) 0):Nat):Int)))else none
theorem im3{β:Type}(c_CC)(x)(dn:ed8→Option β):fu0 c_CC x dn=(fu0 c_CC x some).bind dn:=by
 unfold fu0
 repeat' first|exact n0|refine n1 fun _=>?_|refine n2 ?_ ?_|refine n3 (fun _=>?_) fun _=>?_|rfl
theorem il7(c_CC)(x):f7 E8 (ftg 100 (fun _ L=>L.length==2) fy5 ie3 c_CC ca0) lo0 70 (bz6 x).1 (bz6 x).2 K=fu0 (vf fy5 c_CC) x (fun z=>some (.c (ep9 z))):=by kernel_rfl
noncomputable def WS(q:Nat)(x:dv5):Option ed8:=fu0 (CC q) x some
theorem fm7(q:Nat):Lw E8 70 bz6 ep9 (WS q):=sof hW8 hX8 (fk (hq7 q) a8) (fun _=>b6) fun x=>(il7 (CC q) x).trans (by rw[ij0,im3]<;>rfl)
abbrev em3:Type:=Int×Nat×FI
abbrev eh7:Type:=Nat×FI
def ca3:AR em3:=fun x=>([.ptr 0 0,u8 x.1],[some (.tbk 79 [.ptr 0 0,.sl 1 1 0 x.2.1]),some (.row 5 1 x.2.1 (fun j=>[u8 (x.2.2 j)]))])
def il4(t:TT):em3:=((vI (ag t 1)),dB ((chT (co t 0)).getD 1 .junk),dRI (co t 1) 0)
theorem id3:VI ca3:=vd il4 fun _=>rfl
def es7:eh7→CRes:=fun z=>.ret (.sc .nilIface) [some (.tbk 79 [.ptr 0 0,.sl 1 1 0 z.1]),some (.row 5 1 z.1 (fun j=>[u8 (z.2 j)]))]
def gb6{β:Type}(c_CC:gl1→Option hk8)(x:em3)(dn:eh7→Option β):Option β:=
 (c_CC x.2).bind fun z2=>if(z2.1+1)*1≤d5∧z2.1+1≤maxLen∧z2.1≤z2.1 then dn (z2.1+1,fun j=>if j<z2.1 then z2.2 j else x.1)else none
theorem im0{β:Type}(c_CC)(x)(dn:eh7→Option β):gb6 c_CC x dn=(gb6 c_CC x some).bind dn:=by
 unfold gb6
 repeat' first|exact n0|refine n1 fun _=>?_|refine n2 ?_ ?_|refine n3 (fun _=>?_) fun _=>?_|rfl
theorem im4(c_CC)(x):f7 E8 (ftg 100 (fun _ L=>L.length==2) fy5 ie3 c_CC ca0) lo0 72 (ca3 x).1 (ca3 x).2 K=gb6 (vf fy5 c_CC) x (fun z=>some (.c (es7 z))):=by kernel_rfl
noncomputable def WB(q:Nat)(x:em3):Option eh7:=gb6 (CC q) x some
theorem fk7(q:Nat):Lw E8 72 ca3 es7 (WB q):=sof hW8 hX8 (fk (hq7 q) a8) (fun _=>b6) fun x=>(im4 (CC q) x).trans (by rw[ij0,im0]<;>rfl)
abbrev y4:Type:=Int×Nat×FS×Nat×FI
abbrev eC:Type:=Nat×FS×Nat×FI
def t7:AR y4:=fun x=>([.ptr 0 0,i64 x.1,.sl 1 1 0 x.2.1],[some (.tbk 79 [.ptr 0 0,.sl 2 1 0 x.2.2.2.1]),some (.row 9 1 x.2.1 (fun j=>[st (x.2.2.1 j)])),some (.row 5 1 x.2.2.2.1 (fun j=>[u8 (x.2.2.2.2 j)]))])
def hk3(t:TT):y4:=((vI (ag t 1)),dB (ag t 2),dRS (co t 1) 0,dB ((chT (co t 0)).getD 1 .junk),dRI (co t 2) 0)
theorem yI:VI t7:=vd hk3 fun _=>rfl
def iL:eC→CRes:=fun z=>.ret (.tup []) [some (.tbk 79 [.ptr 0 0,.sl 2 1 0 z.2.2.1]),some (.row 9 1 z.1 (fun j=>[st (z.2.1 j)])),some (.row 5 1 z.2.2.1 (fun j=>[u8 (z.2.2.2 j)]))]
abbrev mI:Type:=Nat×FI×Int
abbrev ae8:Type:=Nat×FI
def qR(x:y4)(y:mI):St:={fr:=[V.ptr 0 0]++jk 13++[V.sl 1 1 0 x.2.1,i64 ((x.2.1:Nat):Int),i64 y.2.2]++jk 13,H:=hp [some (Chunk.tbk 79 [V.ptr 0 0,V.sl 2 1 0 y.1]),some (Chunk.row 9 1 x.2.1 fun j=>[st (x.2.2.1 j)]),some (Chunk.row 5 1 y.1 fun j=>[V.sc (Value.int IntKind.u8 (y.2.1 j))])],nx:=3,rt:=2,me:=34}
def eq5(s:St):mI:=((dB ((chT (s.H 0)).getD 1 .junk)),dRI (s.H 2) 0,vI (s.fr.getD 16 .junk))
theorem fd8(x:y4):VL (qR x):=vl eq5 fun _=>rfl
def aj0(x:y4):ae8→Ex×St:=(fun z=>(Ex.exit 0,{fr:=[V.ptr 0 0]++jk 29,H:=hp [some (Chunk.tbk 79 [V.ptr 0 0,V.sl 2 1 0 z.1]),some (Chunk.row 9 1 x.2.1 fun j=>[st (x.2.2.1 j)]),some (Chunk.row 5 1 z.1 fun j=>[V.sc (Value.int IntKind.u8 (z.2 j))])],nx:=3,rt:=2,me:=34}))
def rA{β:Type}(c_Repeat:zQ→Option ak3)(c_WS:dv5→Option ed8)(c_WB:em3→Option eh7)(x:y4)(y:mI)(nx:mI→Option β)(dn:ae8→Option β):Option β:=
 if decide (y.2.2< ((x.2.1:Nat):Int))=true then if 0≤y.2.2∧y.2.2< ((x.2.1:Nat):Int)then if 0+Int.toNat y.2.2<x.2.1∧1=1 then(c_WS (x.2.2.1 (0+Int.toNat y.2.2),y.1,y.2.1)).bind fun z46=>nx (z46.2.1,z46.2.2,w (y.2.2+1))else none else none else dn (y.1,y.2.1)
theorem ey0{β:Type}(c_Repeat c_WS c_WB)(x)(y)(nx:mI→Option β)(dn):rA c_Repeat c_WS c_WB x y nx dn=(rA c_Repeat c_WS c_WB x y (fun y=>some (.inl y)) (fun z=>some (.inr z))).bind fun r=>Sum.elim nx dn r:=by
 unfold rA
 repeat' first|exact n0|refine n1 fun _=>?_|refine n2 ?_ ?_|refine n3 (fun _=>?_) fun _=>?_|rfl
theorem fb3(c_Repeat c_WS c_WB)(x)(y)(lo:f5):n8 E8 (ftb 71 xE bg4 c_Repeat (ftg 70 (fun _ L=>L.length==2) bz6 ep9 c_WS (ftg 72 (fun _ L=>L.length==2) ca3 es7 c_WB ca0))) lo 0 114689 (b5 E8 34 0) (qR x y) (KCM [(0,1)] 0)=rA (vf xE c_Repeat) (vf bz6 c_WS) (vf ca3 c_WB) x y (fun y=>lo 0 114689 (b5 E8 34 0) (qR x y) (KCM [(0,1)] 0)) (fun z=>some (.l (aj0 x z).1 (aj0 x z).2)):=by kernel_rfl
noncomputable def aq0(c_Repeat:zQ→Option ak3)(c_WS:dv5→Option ed8)(c_WB:em3→Option eh7)(q:Nat)(x:y4):mI→Option ae8:=lpG (fun y=>rA c_Repeat c_WS c_WB x y (fun y=>some (.inl y)) (fun z=>some (.inr z))) q
theorem er9(c_Repeat)(h_Repeat:Lw E8 71 xE bg4 c_Repeat)(c_WS)(h_WS:Lw E8 70 bz6 ep9 c_WS)(c_WB)(h_WB:Lw E8 72 ca3 es7 c_WB)(q:Nat)(x:y4):Ll E8 (b5 E8 34 0) (qR x) (aj0 x) (aq0 c_Repeat c_WS c_WB q x):=
 slp (fk h_Repeat (fk h_WS (fk h_WB a8))) hX8 (fun lo y=>(fb3 c_Repeat c_WS c_WB x y lo).trans (by rw[eb0,hr8,id3];exact ey0 _ _ _ _ _ _ _)) (fun _=>by kernel_rfl) q
def aw2{β:Type}(c_Repeat:zQ→Option ak3)(c_WS:dv5→Option ed8)(c_WB:em3→Option eh7)(l_lineS_l0:mI→Option ae8)(x:y4)(dn:eC→Option β):Option β:=
 (c_Repeat (⟨#[32,32]⟩,x.1)).bind fun z2=>(c_WS (z2,x.2.2.2)).bind fun z6=>(l_lineS_l0 (z6.2.1,z6.2.2,0)).bind fun z28=>(c_WB (10,z28)).bind fun z32=>dn (x.2.1,x.2.2.1,z32)
theorem gw7{β:Type}(c_Repeat c_WS c_WB)(l_lineS_l0)(x)(dn:eC→Option β):aw2 c_Repeat c_WS c_WB l_lineS_l0 x dn=(aw2 c_Repeat c_WS c_WB l_lineS_l0 x some).bind dn:=by
 unfold aw2
 repeat' first|exact n0|refine n1 fun _=>?_|refine n2 ?_ ?_|refine n3 (fun _=>?_) fun _=>?_|rfl
theorem hk6(c_Repeat c_WS c_WB)(l_lineS_l0)(x):f7 E8 (ftb 71 xE bg4 c_Repeat (ftg 70 (fun _ L=>L.length==2) bz6 ep9 c_WS (ftg 72 (fun _ L=>L.length==2) ca3 es7 c_WB ca0))) (lt1 0 (fun _=>true) (b5 E8 34 0) (qR x) (aj0 x) l_lineS_l0 lo0) 34 (t7 x).1 (t7 x).2 K=aw2 (vf xE c_Repeat) (vf bz6 c_WS) (vf ca3 c_WB) (lf (b5 E8 34 0) (qR x) l_lineS_l0) x (fun z=>some (.c (iL z))):=by kernel_rfl
noncomputable def gM(q:Nat)(x:y4):Option eC:=aw2 (Repeat q) (WS q) (WB q) (aq0 (Repeat q) (WS q) (WB q) q x) x some
theorem cm6(q:Nat):Lw E8 34 t7 iL (gM q):=sof hW8 hX8 (fk (bq4 q) (fk (fm7 q) (fk (fk7 q) a8))) (fun x=>(lk1 (er9 (Repeat q) (bq4 q) (WS q) (fm7 q) (WB q) (fk7 q) q x) b6)) fun x=>(hk6 (Repeat q) (WS q) (WB q) (aq0 (Repeat q) (WS q) (WB q) q x) x).trans (by rw[eb0,hr8,id3,fd8,gw7]<;>rfl)
abbrev ar0:Type:=Unit
abbrev br5:Type:=Unit
def zT:ar0→List V×List (Option Chunk):=(fun _=>(([st ⟨#[32,32]⟩,i64 0]:List V),([]:List (Option Chunk))))
def fx0(t:TT):ar0:=()
theorem fx5:VI zT:=vd fx0 fun _=>rfl
def bv3:br5→CRes:=(fun _=>.ret (st ⟨#[]⟩) []:(Unit)→CRes)
noncomputable def dj9(q:Nat)(x:ar0):Option br5:=some ()
theorem cl5(q:Nat):Lw E8 71 zT bv3 (dj9 q):=by
 intro x z h
 exact bq4 0 (⟨#[32,32]⟩,0) ⟨#[]⟩ (by unfold Repeat;exact(if_pos (by decide)))
abbrev dt6:Type:=Unit
abbrev dt9:Type:=Int
def cp2:dt6→List V×List (Option Chunk):=(fun _=>(([.ptr 0 0,st ⟨#[]⟩]:List V),([some (.tbk 79 [.sc (.pointer none),g8])]:List (Option Chunk))))
def ik2(t:TT):dt6:=()
theorem if3:VI cp2:=vd ik2 fun _=>rfl
def fl9:dt9→CRes:=fun z=>.ret (.tup [i64 z,.sc .nilIface]) [some (.tbk 79 [.ptr 0 0,g8])]
def eg2{β:Type}(c_CCF:fe9→Option ge9)(x:dt6)(dn:dt9→Option β):Option β:=
 (c_CCF ()).bind fun z0=>dn (0)
theorem ih0{β:Type}(c_CCF)(x)(dn:dt9→Option β):eg2 c_CCF x dn=(eg2 c_CCF x some).bind dn:=by
 unfold eg2
 repeat' first|exact n0|refine n1 fun _=>?_|refine n2 ?_ ?_|refine n3 (fun _=>?_) fun _=>?_|rfl
theorem ih6(c_CCF)(x):f7 E8 (ftg 100 (fun _ L=>match L with| [some (.tbk 79 [.sc (.pointer none),_])]=>true|_=>false) fh2 hp0 c_CCF ca0) lo0 70 (cp2 x).1 (cp2 x).2 K=eg2 (vf fh2 c_CCF) x (fun z=>some (.c (fl9 z))):=by kernel_rfl
noncomputable def WSF(q:Nat)(x:dt6):Option dt9:=eg2 (CCF q) x some
theorem gr0(q:Nat):Lw E8 70 cp2 fl9 (WSF q):=sof hW8 hX8 (fk (ie4 q) a8) (fun _=>b6) fun x=>(ih6 (CCF q) x).trans (by rw[ig0,ih0]<;>rfl)
abbrev el0:Type:=Unit
abbrev el8:Type:=Int×Nat×FI
def cf0:el0→List V×List (Option Chunk):=(fun _=>(([.ptr 0 0,st ⟨#[112,114,111,99,101,100,117,114,101,32]⟩]:List V),([some (.tbk 79 [.ptr 0 0,g8])]:List (Option Chunk))))
def ik0(t:TT):el0:=()
theorem ii2:VI cf0:=vd ik0 fun _=>rfl
def fn2:el8→CRes:=fun z=>.ret (.tup [i64 z.1,.sc .nilIface]) [some (.tbk 79 [.ptr 0 0,.sl 1 1 0 z.2.1]),some (.row 5 1 z.2.1 (fun j=>[u8 (z.2.2 j)]))]
def dx4{β:Type}(c_CCN:fk8→Option gn0)(x:el0)(dn:el8→Option β):Option β:=
 (c_CCN ()).bind fun z0=>dn (10,10,fun j=>((UInt8.toNat (List.getD (Array.toList #[112,114,111,99,101,100,117,114,101,32]) j 0):Nat):Int))
theorem ik6{β:Type}(c_CCN)(x)(dn:el8→Option β):dx4 c_CCN x dn=(dx4 c_CCN x some).bind dn:=by
 unfold dx4
 repeat' first|exact n0|refine n1 fun _=>?_|refine n2 ?_ ?_|refine n3 (fun _=>?_) fun _=>?_|rfl
theorem ik3(c_CCN)(x):f7 E8 (ftg 100 (fun _ L=>match L with| [some (.tbk 79 [.ptr 0 0,.sc (.slice none 0 0)])]=>true|_=>false) fj7 hq1 c_CCN ca0) lo0 70 (cf0 x).1 (cf0 x).2 K=dx4 (vf fj7 c_CCN) x (fun z=>some (.c (fn2 z))):=by kernel_rfl
noncomputable def WSN(q:Nat)(x:el0):Option el8:=dx4 (CCN q) x some
theorem gt6(q:Nat):Lw E8 70 cf0 fn2 (WSN q):=sof hW8 hX8 (fk (ia8 q) a8) (fun _=>b6) fun x=>(ik3 (CCN q) x).trans (by rw[ij9,ik6]<;>rfl)
abbrev fT:Type:=ByteArray×ByteArray
abbrev fK:Type:=Nat×FS×FI
def aJ:AR fT:=fun x=>([.ptr 0 0,i64 0,.sl 1 1 0 5],[some (.tbk 79 [.sc (.pointer none),g8]),some (.row 9 1 5 (fun j=>[st (if j=0 then⟨#[112,114,111,99,101,100,117,114,101,32]⟩else if j-1=0 then x.1 else if j-1-1=0 then⟨#[40]⟩else if j-1-1-1=0 then x.2 else⟨#[41,32,123]⟩)]))])
def ha7(t:TT):fT:=(vS (((chF (co t 1)) 1).getD 0 .junk),vS (((chF (co t 1)) 3).getD 0 .junk))
theorem ah8:VI aJ:=vd ha7 fun _=>rfl
def mA:fK→CRes:=(fun z=>CRes.ret (V.tup []) [some (Chunk.tbk 79 [V.ptr 0 0,V.sl 2 1 0 z.1]),some (Chunk.row 9 1 5 fun j=>[st (z.2.1 j)]),some (Chunk.row 5 1 z.1 fun j=>[V.sc (Value.int IntKind.u8 (z.2.2 j))])]:(Nat×FS×FI)→CRes)
def aw1{β:Type}(c_RepeatZ:ar0→Option br5)(c_WSF:dt6→Option dt9)(c_WSN:el0→Option el8)(c_WS:dv5→Option ed8)(c_WB:em3→Option eh7)(x:fT)(dn:fK→Option β):Option β:=
 (c_RepeatZ ()).bind fun z0=>(c_WSF ()).bind fun z1=>(c_WSN ()).bind fun z2=>(c_WS (if 1=0 then⟨#[112,114,111,99,101,100,117,114,101,32]⟩else if 0=0 then x.1 else if 0=0 then⟨#[40]⟩else if 0=0 then x.2 else⟨#[41,32,123]⟩,z2.2)).bind fun z6=>(c_WS (if 2=0 then⟨#[112,114,111,99,101,100,117,114,101,32]⟩else if 1=0 then x.1 else if 0=0 then⟨#[40]⟩else if 0=0 then x.2 else⟨#[41,32,123]⟩,z6.2)).bind fun z10=>(c_WS (if 3=0 then⟨#[112,114,111,99,101,100,117,114,101,32]⟩else if 2=0 then x.1 else if 1=0 then⟨#[40]⟩else if 0=0 then x.2 else⟨#[41,32,123]⟩,z10.2)).bind fun z14=>(c_WS (if 4=0 then⟨#[112,114,111,99,101,100,117,114,101,32]⟩else if 3=0 then x.1 else if 2=0 then⟨#[40]⟩else if 1=0 then x.2 else⟨#[41,32,123]⟩,z14.2)).bind fun z18=>(c_WB (10,z18.2)).bind fun z22=>dn (z22.1,fun j=>if j=0 then⟨#[112,114,111,99,101,100,117,114,101,32]⟩else if j-1=0 then x.1 else if j-1-1=0 then⟨#[40]⟩else if j-1-1-1=0 then x.2 else⟨#[41,32,123]⟩,z22.2)
theorem hi9{β:Type}(c_RepeatZ c_WSF)(c_WSN c_WS c_WB)(x)(dn:fK→Option β):aw1 c_RepeatZ c_WSF c_WSN c_WS c_WB x dn=(aw1 c_RepeatZ c_WSF c_WSN c_WS c_WB x some).bind dn:=by
 unfold aw1
 repeat' first|exact n0|refine n1 fun _=>?_|refine n2 ?_ ?_|refine n3 (fun _=>?_) fun _=>?_|rfl
theorem hn6(c_RepeatZ c_WSF)(c_WSN c_WS c_WB)(x):f7 E8 (ftb 71 zT bv3 c_RepeatZ (ftg 70 (fun _ L=>match L with| [some (.tbk 79 [.sc (.pointer none),_])]=>true|_=>false) cp2 fl9 c_WSF (ftg 70 (fun _ L=>match L with| [some (.tbk 79 [.ptr 0 0,.sc (.slice none 0 0)])]=>true|_=>false) cf0 fn2 c_WSN (ftg 70 (fun _ L=>L.length==2) bz6 ep9 c_WS (ftg 72 (fun _ L=>L.length==2) ca3 es7 c_WB ca0))))) (loU E8 (ftb 71 zT bv3 c_RepeatZ (ftg 70 (fun _ L=>match L with| [some (.tbk 79 [.sc (.pointer none),_])]=>true|_=>false) cp2 fl9 c_WSF (ftg 70 (fun _ L=>match L with| [some (.tbk 79 [.ptr 0 0,.sc (.slice none 0 0)])]=>true|_=>false) cf0 fn2 c_WSN (ftg 70 (fun _ L=>L.length==2) bz6 ep9 c_WS (ftg 72 (fun _ L=>L.length==2) ca3 es7 c_WB ca0))))) [0] lo0 20) 34 (aJ x).1 (aJ x).2 K=aw1 (vf zT c_RepeatZ) (vf cp2 c_WSF) (vf cf0 c_WSN) (vf bz6 c_WS) (vf ca3 c_WB) x (fun z=>some (.c (mA z))):=by kernel_rfl
noncomputable def wV(q:Nat)(x:fT):Option fK:=aw1 (dj9 q) (WSF q) (WSN q) (WS q) (WB q) x some
theorem em7(q:Nat):Lw E8 34 aJ mA (wV q):=sof hW8 hX8 (fk (cl5 q) (fk (gr0 q) (fk (gt6 q) (fk (fm7 q) (fk (fk7 q) a8))))) (fun _=>(au4 (fk (cl5 q) (fk (gr0 q) (fk (gt6 q) (fk (fm7 q) (fk (fk7 q) a8))))) hX8 b6 20)) fun x=>(hn6 (dj9 q) (WSF q) (WSN q) (WS q) (WB q) x).trans (by rw[fx5,if3,ii2,hr8,id3,hi9]<;>rfl)
end Go.Proofs.YtjfkkokeegpeiaaGreatDoor
/- Trees made from numbers, lifted; the law of Expr. -/
namespace Go.Proofs.YtjfkkokeegpeiaaGreatDoor
open Go Go.Am Go.Proofs Go.Proofs.Lx
set_option maxRecDepth 100000
theorem gx4{f:FuncId}{args:List V}{L H:List (Option Chunk)}{a b:Int}{s:ByteArray}{g:Nat→List V}(h:SC E5 f args L (.ret (.agg [i64 a,i64 b,st s,g8]) H)):SC E5 f args L (.ret (.agg [i64 a,i64 b,st s,.ro 4 0 g]) H):=
 SC.le h (Le.agg (LeL.cons (Le.refl _) (LeL.cons (Le.refl _) (LeL.cons (Le.refl _) (LeL.cons Le.nil_ro LeL.nil)))))
theorem ig4{f:FuncId}{args:List V}{L:List (Option Chunk)}{a b ma mn:Int}{s:ByteArray}{ln m:Nat}{lf g:Nat→List V}
 (h:SC E5 f args L (.ret (.agg [i64 a,i64 b,st s,.sl 1 4 0 m]) [some (.blk [.ro 1 ln lf,i64 ma,i64 mn]),some (.row 35 4 m g)])):
 SC E5 f args L (.ret (.agg [i64 a,i64 b,st s,.ro 4 m g]) [some (.blk [.ro 1 ln lf,i64 ma,i64 mn])]):=by
 have h2:=SC.giveM (L2:=[some (.blk [.ro 1 ln lf,i64 ma,i64 mn])]) 1 h (by rfl) (by simp[V.bw,V.bw2,V.bw1,hp,V.pure,m8])
 simpa[V.bw,V.bw2,V.bw1,hp]using h2
theorem gt2{f:FuncId}{args:List V}{L:List (Option Chunk)}{a b ma mn:Int}{s:ByteArray}{ln m:Nat}{lf g:Nat→List V}
 (h:SC E5 f args L (.ret (.agg [i64 a,i64 b,st s,.sl 1 4 0 m]) [some (.blk [.ro 1 ln lf,i64 ma,i64 mn]),some (.row 35 4 m g)])):
 SC E5 f args L (.ret (.agg [i64 a,i64 b,st s,.ro 4 m g]) [some (.blk [.ro 1 ln lf,i64 ma,i64 mn])]):=ig4 h
abbrev co9:Type:=Nat×FI×Int×Int
abbrev cl9:Type:=Int
def bs8:AR co9:=fun x=>([.ro 1 x.1 (fun j=>[i64 (x.2.1 j)]),i64 x.2.2.1,i64 x.2.2.2],[])
def hy9(t:TT):co9:=((u7 (ag t 0)),dTI (ag t 0) 0,vI (ag t 1),vI (ag t 2))
theorem hw9:VI bs8:=vd hy9 fun _=>rfl
def fe7:cl9→CRes:=fun z=>.ret (i64 z) []
def br4{β:Type}(x:co9)(dn:cl9→Option β):Option β:=
 if decide (x.2.2.1<0)=true then dn (0)else if decide (x.2.2.1≥((x.1:Nat):Int))=true then dn (0)else if 0≤x.2.2.1∧x.2.2.1< ((x.1:Nat):Int)then if decide (x.2.1 (Int.toNat x.2.2.1)<0)=true then if x.2.2.2=0 then none else dn (Int.tmod (w (0-w (x.2.1 (Int.toNat x.2.2.1)+1))) x.2.2.2)else if x.2.2.2=0 then none else dn (Int.tmod (x.2.1 (Int.toNat x.2.2.1)) x.2.2.2)else none
theorem ic8{β:Type}(x)(dn:cl9→Option β):br4 x dn=(br4 x some).bind dn:=by
 unfold br4
 repeat' first|exact n0|refine n1 fun _=>?_|refine n2 ?_ ?_|refine n3 (fun _=>?_) fun _=>?_|rfl
theorem ib7(x):f7 E5 (bk3 E5 20) lo0 68 (bs8 x).1 (bs8 x).2 K=br4 x (fun z=>some (.c (fe7 z))):=by kernel_rfl
noncomputable def gc9(q:Nat)(x:co9):Option cl9:=br4 x some
theorem hh7(q:Nat):Lw E5 68 bs8 fe7 (gc9 q):=sof hW5 hX5 (bk1 hW5 hX5 20).1 (fun _=>b6) fun x=>(ib7 x).trans (by rw[ic8]<;>rfl)
abbrev bG:Type:=Int×Nat×FI×Int×Int
abbrev aZ:Type:=Int×Nat×FI×Int×Int
def n9:AR bG:=fun x=>([.ptr 0 0,i64 x.1],[some (.blk [.ro 1 x.2.1 (fun j=>[i64 (x.2.2.1 j)]),i64 x.2.2.2.1,i64 x.2.2.2.2])])
def ib9(t:TT):bG:=((vI (ag t 1)),u7 (cc t 0 0),dTI (cc t 0 0) 0,vI (cc t 0 1),vI (cc t 0 2))
theorem qG:VI n9:=vd ib9 fun _=>rfl
def dD:aZ→CRes:=fun z=>.ret (i64 z.1) [some (.blk [.ro 1 z.2.1 (fun j=>[i64 (z.2.2.1 j)]),i64 z.2.2.2.1,i64 z.2.2.2.2])]
def bt6{β:Type}(c_Pick:co9→Option cl9)(x:bG)(dn:aZ→Option β):Option β:=
 (c_Pick (x.2.1,x.2.2.1,w (w (x.2.2.2.1+1)-1),x.1)).bind fun z4=>dn (z4,x.2.1,x.2.2.1,w (x.2.2.2.1+1),x.2.2.2.2)
theorem hv7{β:Type}(c_Pick)(x)(dn:aZ→Option β):bt6 c_Pick x dn=(bt6 c_Pick x some).bind dn:=by
 unfold bt6
 repeat' first|exact n0|refine n1 fun _=>?_|refine n2 ?_ ?_|refine n3 (fun _=>?_) fun _=>?_|rfl
theorem hu6(c_Pick)(x):f7 E5 (ftb 68 bs8 fe7 c_Pick ca0) lo0 30 (n9 x).1 (n9 x).2 K=bt6 (vf bs8 c_Pick) x (fun z=>some (.c (dD z))):=by kernel_rfl
noncomputable def Next(q:Nat)(x:bG):Option aZ:=bt6 (gc9 q) x some
theorem ax5(q:Nat):Lw E5 30 n9 dD (Next q):=sof hW5 hX5 (fk (hh7 q) a8) (fun _=>b6) fun x=>(hu6 (gc9 q) x).trans (by rw[hw9,hv7]<;>rfl)
abbrev fW:Type:=Int
abbrev fS:Type:=ByteArray
def v8:AR fW:=fun x=>([i64 x],[])
def he6(t:TT):fW:=(vI (ag t 0))
theorem xT:VI v8:=vd he6 fun _=>rfl
def kP:fS→CRes:=fun z=>.ret (st z) []
def ar8{β:Type}(x:fW)(dn:fS→Option β):Option β:=
 if 0≤Int.tmod x 9∧Int.tmod x (9:Int)<9 then if 0+Int.toNat (Int.tmod x 9)<9∧1=1 then dn (if 0+Int.toNat (Int.tmod x 9)=0 then⟨#[]⟩else if 0+Int.toNat (Int.tmod x 9)-1=0 then⟨#[115]⟩else if 0+Int.toNat (Int.tmod x 9)-1-1=0 then⟨#[74]⟩else if 0+Int.toNat (Int.tmod x 9)-1-1-1=0 then⟨#[66]⟩else if 0+Int.toNat (Int.tmod x 9)-1-1-1-1=0 then⟨#[100,101,103]⟩else if 0+Int.toNat (Int.tmod x 9)-1-1-1-1-1=0 then⟨#[75]⟩else if 0+Int.toNat (Int.tmod x 9)-1-1-1-1-1-1=0 then⟨#[107,66]⟩else if 0+Int.toNat (Int.tmod x 9)-1-1-1-1-1-1-1=0 then⟨#[109,105,110]⟩else⟨#[87]⟩)else none else none
theorem gx6{β:Type}(x)(dn:fS→Option β):ar8 x dn=(ar8 x some).bind dn:=by
 unfold ar8
 repeat' first|exact n0|refine n1 fun _=>?_|refine n2 ?_ ?_|refine n3 (fun _=>?_) fun _=>?_|rfl
theorem hh1(x):f7 E5 ca0 lo0 32 (v8 x).1 (v8 x).2 K=ar8 x (fun z=>some (.c (kP z))):=by kernel_rfl
noncomputable def dS(q:Nat)(x:fW):Option fS:=ar8 x some
theorem cn0(q:Nat):Lw E5 32 v8 kP (dS q):=sof hW5 hX5 a8 (fun _=>b6) fun x=>(hh1 x).trans (by rw[gx6]<;>rfl)
abbrev ag1:Type:=Int
abbrev ah9:Type:=ByteArray
def yT:AR ag1:=fun x=>([i64 x],[])
def hx6(t:TT):ag1:=(vI (ag t 0))
theorem gd6:VI yT:=vd hx6 fun _=>rfl
def bv5:ah9→CRes:=fun z=>.ret (st z) []
def br3{β:Type}(x:ag1)(dn:ah9→Option β):Option β:=
 if 0≤Int.tmod x 7∧Int.tmod x (7:Int)<7 then if 0+Int.toNat (Int.tmod x 7)<7∧1=1 then dn (if 0+Int.toNat (Int.tmod x 7)=0 then⟨#[97]⟩else if 0+Int.toNat (Int.tmod x 7)-1=0 then⟨#[98]⟩else if 0+Int.toNat (Int.tmod x 7)-1-1=0 then⟨#[120,49]⟩else if 0+Int.toNat (Int.tmod x 7)-1-1-1=0 then⟨#[99,111,117,110,116]⟩else if 0+Int.toNat (Int.tmod x 7)-1-1-1-1=0 then⟨#[115]⟩else if 0+Int.toNat (Int.tmod x 7)-1-1-1-1-1=0 then⟨#[84,111,116,97,108]⟩else⟨#[97,98,99,100,101,102,103,104,105,106,107,57]⟩)else none else none
theorem hv9{β:Type}(x)(dn:ah9→Option β):br3 x dn=(br3 x some).bind dn:=by
 unfold br3
 repeat' first|exact n0|refine n1 fun _=>?_|refine n2 ?_ ?_|refine n3 (fun _=>?_) fun _=>?_|rfl
theorem hy7(x):f7 E5 ca0 lo0 77 (yT x).1 (yT x).2 K=br3 x (fun z=>some (.c (bv5 z))):=by kernel_rfl
noncomputable def ba9(q:Nat)(x:ag1):Option ah9:=br3 x some
theorem fi2(q:Nat):Lw E5 77 yT bv5 (ba9 q):=sof hW5 hX5 a8 (fun _=>b6) fun x=>(hy7 x).trans (by rw[hv9]<;>rfl)
abbrev ba0:Type:=Nat×FI×Int×Int
abbrev rB:Type:=Int×Int×ByteArray×Nat×FI×Int×Int
def bd4:AR ba0:=fun x=>([.ptr 0 0],[some (.blk [.ro 1 x.1 (fun j=>[i64 (x.2.1 j)]),i64 x.2.2.1,i64 x.2.2.2])])
def bb7:rB→CRes:=fun z=>.ret (.agg [i64 z.1,i64 z.2.1,st z.2.2.1,g8]) [some (.blk [.ro 1 z.2.2.2.1 (fun j=>[i64 (z.2.2.2.2.1 j)]),i64 z.2.2.2.2.2.1,i64 z.2.2.2.2.2.2])]
def qZ{β:Type}(c_Next:bG→Option aZ)(c_UnitM:fW→Option fS)(x:ba0)(dn:rB→Option β):Option β:=
 (c_Next (2147483648,x)).bind fun z5=>(c_Next (9,z5.2)).bind fun z11=>(c_UnitM z11.1).bind fun z13=>dn (15,z5.1,z13,z11.2)
theorem et6{β:Type}(c_Next c_UnitM)(x)(dn:rB→Option β):qZ c_Next c_UnitM x dn=(qZ c_Next c_UnitM x some).bind dn:=by
 unfold qZ
 repeat' first|exact n0|refine n1 fun _=>?_|refine n2 ?_ ?_|refine n3 (fun _=>?_) fun _=>?_|rfl
theorem ew9(c_Next c_UnitM)(x):f7 E5 (ftb 30 n9 dD c_Next (ftb 32 v8 kP c_UnitM ca0)) lo0 76 (bd4 x).1 (bd4 x).2 K=qZ (vf n9 c_Next) (vf v8 c_UnitM) x (fun z=>some (.c (bb7 z))):=by kernel_rfl
noncomputable def ch0(q:Nat)(x:ba0):Option rB:=qZ (Next q) (dS q) x some
theorem eo7(q:Nat):Lw E5 76 bd4 bb7 (ch0 q):=sof hW5 hX5 (fk (ax5 q) (fk (cn0 q) a8)) (fun _=>b6) fun x=>(ew9 (Next q) (dS q) x).trans (by rw[qG,xT,et6]<;>rfl)
abbrev pS:Type:=Nat×FI×Int×Int
abbrev pR:Type:=Int×Int×ByteArray×Nat×FL×Nat×FI×Int×Int
def nH:AR pS:=fun x=>([.ptr 0 0],[some (.blk [.ro 1 x.1 (fun j=>[i64 (x.2.1 j)]),i64 x.2.2.1,i64 x.2.2.2])])
def fv9(t:TT):pS:=((u7 (cc t 0 0)),dTI (cc t 0 0) 0,vI (cc t 0 1),vI (cc t 0 2))
theorem cx0:VI nH:=vd fv9 fun _=>rfl
def vO:pR→CRes:=fun z=>.ret (.agg [i64 z.1,i64 z.2.1,st z.2.2.1,.ro 4 z.2.2.2.1 z.2.2.2.2.1]) [some (.blk [.ro 1 z.2.2.2.2.2.1 (fun j=>[i64 (z.2.2.2.2.2.2.1 j)]),i64 z.2.2.2.2.2.2.2.1,i64 z.2.2.2.2.2.2.2.2])]
def cg8:rB→pR:=fun z=>(z.1,z.2.1,z.2.2.1,0,fun _=>[],z.2.2.2)
theorem ds8{args:List V}{L:List (Option Chunk)}(z:rB)(h:SC E5 76 args L (bb7 z)):SC E5 76 args L (vO (cg8 z)):=by
 exact gx4 h
noncomputable def iI(q:Nat)(x:pS):Option pR:=(ch0 q x).map cg8
theorem ck9(q:Nat):Lw E5 76 nH vO (iI q):=by
 intro x z h
 obtain⟨y,hy,rfl⟩:=Option.map_eq_some_iff.1 h
 exact ds8 y (eo7 q x y hy)
abbrev rQ:Type:=Int×Nat×FI×Int×Int
abbrev oC:Type:=Int×Int×ByteArray×Nat×FL×Nat×FI×Int×Int
def rN:AR rQ:=fun x=>([.ptr 0 0,i64 x.1],[some (.blk [.ro 1 x.2.1 (fun j=>[i64 (x.2.2.1 j)]),i64 x.2.2.2.1,i64 x.2.2.2.2])])
def gw6(t:TT):rQ:=((vI (ag t 1)),u7 (cc t 0 0),dTI (cc t 0 0) 0,vI (cc t 0 1),vI (cc t 0 2))
theorem fn8:VI rN:=vd gw6 fun _=>rfl
def aj4:oC→CRes:=fun z=>.ret (.agg [i64 z.1,i64 z.2.1,st z.2.2.1,.ro 4 z.2.2.2.1 z.2.2.2.2.1]) [some (.blk [.ro 1 z.2.2.2.2.2.1 (fun j=>[i64 (z.2.2.2.2.2.2.1 j)]),i64 z.2.2.2.2.2.2.2.1,i64 z.2.2.2.2.2.2.2.2])]
abbrev ck6:Type:=Int×Nat×FI×Int×Int
abbrev aa7:Type:=(Int×Int×ByteArray×Nat×FL×Nat×FI×Int×Int)⊕(Int×Int×ByteArray×Nat×FI×Int×Int)⊕(Int×Int×ByteArray×Int×Int×ByteArray×Nat×FL×Nat×FI×Int×Int)⊕(Int×Int×ByteArray×Int×Int×ByteArray×Nat×FL×Int×Int×ByteArray×Nat×FL×Nat×FI×Int×Int)
def ch8:AR ck6:=fun x=>([.ptr 0 0,i64 x.1],[some (.blk [.ro 1 x.2.1 (fun j=>[i64 (x.2.2.1 j)]),i64 x.2.2.2.1,i64 x.2.2.2.2])])
def cm4:aa7→CRes:=Sum.elim (fun z:Int×Int×ByteArray×Nat×FL×Nat×FI×Int×Int=>.ret (.agg [i64 z.1,i64 z.2.1,st z.2.2.1,.ro 4 z.2.2.2.1 z.2.2.2.2.1]) [some (.blk [.ro 1 z.2.2.2.2.2.1 (fun j=>[i64 (z.2.2.2.2.2.2.1 j)]),i64 z.2.2.2.2.2.2.2.1,i64 z.2.2.2.2.2.2.2.2])]) (Sum.elim (fun z:Int×Int×ByteArray×Nat×FI×Int×Int=>.ret (.agg [i64 z.1,i64 z.2.1,st z.2.2.1,g8]) [some (.blk [.ro 1 z.2.2.2.1 (fun j=>[i64 (z.2.2.2.2.1 j)]),i64 z.2.2.2.2.2.1,i64 z.2.2.2.2.2.2])]) (Sum.elim (fun z:Int×Int×ByteArray×Int×Int×ByteArray×Nat×FL×Nat×FI×Int×Int=>.ret (.agg [i64 z.1,i64 z.2.1,st z.2.2.1,.sl 1 4 0 1]) [some (.blk [.ro 1 z.2.2.2.2.2.2.2.2.1 (fun j=>[i64 (z.2.2.2.2.2.2.2.2.2.1 j)]),i64 z.2.2.2.2.2.2.2.2.2.2.1,i64 z.2.2.2.2.2.2.2.2.2.2.2]),some (.row 35 4 1 (gP [[i64 z.2.2.2.1,i64 z.2.2.2.2.1,st z.2.2.2.2.2.1,.ro 4 z.2.2.2.2.2.2.1 z.2.2.2.2.2.2.2.1]]))]) (fun z:Int×Int×ByteArray×Int×Int×ByteArray×Nat×FL×Int×Int×ByteArray×Nat×FL×Nat×FI×Int×Int=>.ret (.agg [i64 z.1,i64 z.2.1,st z.2.2.1,.sl 1 4 0 2]) [some (.blk [.ro 1 z.2.2.2.2.2.2.2.2.2.2.2.2.2.1 (fun j=>[i64 (z.2.2.2.2.2.2.2.2.2.2.2.2.2.2.1 j)]),i64 z.2.2.2.2.2.2.2.2.2.2.2.2.2.2.2.1,i64 z.2.2.2.2.2.2.2.2.2.2.2.2.2.2.2.2]),some (.row 35 4 2 (gP [[i64 z.2.2.2.1,i64 z.2.2.2.2.1,st z.2.2.2.2.2.1,.ro 4 z.2.2.2.2.2.2.1 z.2.2.2.2.2.2.2.1],[i64 z.2.2.2.2.2.2.2.2.1,i64 z.2.2.2.2.2.2.2.2.2.1,st z.2.2.2.2.2.2.2.2.2.2.1,.ro 4 z.2.2.2.2.2.2.2.2.2.2.2.1 z.2.2.2.2.2.2.2.2.2.2.2.2.1]]))])))
def sI{β:Type}(c_Next:bG→Option aZ)(c_Literal:pS→Option pR)(c_Word:ag1→Option ah9)(c_MExpr:rQ→Option oC)(x:ck6)(dn:aa7→Option β):Option β:=
 (c_Next (9,x.2)).bind fun z5=>if decide (x.1≤0)=true then if(Int.tmod z5.1 (4:Int)==0)=true then(c_Literal z5.2).bind fun z10=>dn (.inl z10)else if(Int.tmod z5.1 (4:Int)==1)=true then(c_Next (7,z5.2)).bind fun z16=>(c_Word z16.1).bind fun z18=>dn (.inr (.inl (17,0,z18,z16.2)))else if(Int.tmod z5.1 (4:Int)==2)=true then(c_Next (7,z5.2)).bind fun z24=>(c_Word z24.1).bind fun z26=>dn (.inr (.inl (18,0,z26,z24.2)))else if(Int.tmod z5.1 (4:Int)==3)=true then(c_Next (2,z5.2)).bind fun z32=>dn (.inr (.inl (16,z32.1,⟨#[]⟩,z32.2)))else if(Int.tmod z5.1 (4:Int)==4)=true then(c_Next (2,z5.2)).bind fun z38=>if 0≤z38.1∧z38.1<2 then if 0+Int.toNat z38.1<2∧1=1 then(c_MExpr (w (x.1-1),z38.2)).bind fun z44=>dn (.inr (.inr (.inl (19,0,if 0+Int.toNat z38.1=0 then⟨#[33]⟩else⟨#[45]⟩,z44))))else none else none else(c_MExpr (w (x.1-1),z5.2)).bind fun z50=>(c_Next (12,z50.2.2.2.2.2)).bind fun z56=>if 0≤z56.1∧z56.1<12 then if 0+Int.toNat z56.1<12∧1=1 then(c_MExpr (w (x.1-1),z56.2)).bind fun z62=>dn (.inr (.inr (.inr (20,0,if 0+Int.toNat z56.1=0 then⟨#[124,124]⟩else if 0+Int.toNat z56.1-1=0 then⟨#[38,38]⟩else if 0+Int.toNat z56.1-1-1=0 then⟨#[60]⟩else if 0+Int.toNat z56.1-1-1-1=0 then⟨#[60,61]⟩else if 0+Int.toNat z56.1-1-1-1-1=0 then⟨#[62]⟩else if 0+Int.toNat z56.1-1-1-1-1-1=0 then⟨#[62,61]⟩else if 0+Int.toNat z56.1-1-1-1-1-1-1=0 then⟨#[61,61]⟩else if 0+Int.toNat z56.1-1-1-1-1-1-1-1=0 then⟨#[33,61]⟩else if 0+Int.toNat z56.1-1-1-1-1-1-1-1-1=0 then⟨#[43]⟩else if 0+Int.toNat z56.1-1-1-1-1-1-1-1-1-1=0 then⟨#[45]⟩else if 0+Int.toNat z56.1-1-1-1-1-1-1-1-1-1-1=0 then⟨#[42]⟩else⟨#[47]⟩,z50.1,z50.2.1,z50.2.2.1,z50.2.2.2.1,z50.2.2.2.2.1,z62))))else none else none else if decide (z5.2.2.2.1>((z5.2.1:Nat):Int))=true then if(Int.tmod z5.1 (4:Int)==0)=true then(c_Literal z5.2).bind fun z67=>dn (.inl z67)else if(Int.tmod z5.1 (4:Int)==1)=true then(c_Next (7,z5.2)).bind fun z73=>(c_Word z73.1).bind fun z75=>dn (.inr (.inl (17,0,z75,z73.2)))else if(Int.tmod z5.1 (4:Int)==2)=true then(c_Next (7,z5.2)).bind fun z81=>(c_Word z81.1).bind fun z83=>dn (.inr (.inl (18,0,z83,z81.2)))else if(Int.tmod z5.1 (4:Int)==3)=true then(c_Next (2,z5.2)).bind fun z89=>dn (.inr (.inl (16,z89.1,⟨#[]⟩,z89.2)))else if(Int.tmod z5.1 (4:Int)==4)=true then(c_Next (2,z5.2)).bind fun z95=>if 0≤z95.1∧z95.1<2 then if 0+Int.toNat z95.1<2∧1=1 then(c_MExpr (w (x.1-1),z95.2)).bind fun z101=>dn (.inr (.inr (.inl (19,0,if 0+Int.toNat z95.1=0 then⟨#[33]⟩else⟨#[45]⟩,z101))))else none else none else(c_MExpr (w (x.1-1),z5.2)).bind fun z107=>(c_Next (12,z107.2.2.2.2.2)).bind fun z113=>if 0≤z113.1∧z113.1<12 then if 0+Int.toNat z113.1<12∧1=1 then(c_MExpr (w (x.1-1),z113.2)).bind fun z119=>dn (.inr (.inr (.inr (20,0,if 0+Int.toNat z113.1=0 then⟨#[124,124]⟩else if 0+Int.toNat z113.1-1=0 then⟨#[38,38]⟩else if 0+Int.toNat z113.1-1-1=0 then⟨#[60]⟩else if 0+Int.toNat z113.1-1-1-1=0 then⟨#[60,61]⟩else if 0+Int.toNat z113.1-1-1-1-1=0 then⟨#[62]⟩else if 0+Int.toNat z113.1-1-1-1-1-1=0 then⟨#[62,61]⟩else if 0+Int.toNat z113.1-1-1-1-1-1-1=0 then⟨#[61,61]⟩else if 0+Int.toNat z113.1-1-1-1-1-1-1-1=0 then⟨#[33,61]⟩else if 0+Int.toNat z113.1-1-1-1-1-1-1-1-1=0 then⟨#[43]⟩else if 0+Int.toNat z113.1-1-1-1-1-1-1-1-1-1=0 then⟨#[45]⟩else if 0+Int.toNat z113.1-1-1-1-1-1-1-1-1-1-1=0 then⟨#[42]⟩else⟨#[47]⟩,z107.1,z107.2.1,z107.2.2.1,z107.2.2.2.1,z107.2.2.2.2.1,z119))))else none else none else if(z5.1==0)=true then(c_Literal z5.2).bind fun z124=>dn (.inl z124)else if(z5.1==1)=true then(c_Next (7,z5.2)).bind fun z130=>(c_Word z130.1).bind fun z132=>dn (.inr (.inl (17,0,z132,z130.2)))else if(z5.1==2)=true then(c_Next (7,z5.2)).bind fun z138=>(c_Word z138.1).bind fun z140=>dn (.inr (.inl (18,0,z140,z138.2)))else if(z5.1==3)=true then(c_Next (2,z5.2)).bind fun z146=>dn (.inr (.inl (16,z146.1,⟨#[]⟩,z146.2)))else if(z5.1==4)=true then(c_Next (2,z5.2)).bind fun z152=>if 0≤z152.1∧z152.1<2 then if 0+Int.toNat z152.1<2∧1=1 then(c_MExpr (w (x.1-1),z152.2)).bind fun z158=>dn (.inr (.inr (.inl (19,0,if 0+Int.toNat z152.1=0 then⟨#[33]⟩else⟨#[45]⟩,z158))))else none else none else(c_MExpr (w (x.1-1),z5.2)).bind fun z164=>(c_Next (12,z164.2.2.2.2.2)).bind fun z170=>if 0≤z170.1∧z170.1<12 then if 0+Int.toNat z170.1<12∧1=1 then(c_MExpr (w (x.1-1),z170.2)).bind fun z176=>dn (.inr (.inr (.inr (20,0,if 0+Int.toNat z170.1=0 then⟨#[124,124]⟩else if 0+Int.toNat z170.1-1=0 then⟨#[38,38]⟩else if 0+Int.toNat z170.1-1-1=0 then⟨#[60]⟩else if 0+Int.toNat z170.1-1-1-1=0 then⟨#[60,61]⟩else if 0+Int.toNat z170.1-1-1-1-1=0 then⟨#[62]⟩else if 0+Int.toNat z170.1-1-1-1-1-1=0 then⟨#[62,61]⟩else if 0+Int.toNat z170.1-1-1-1-1-1-1=0 then⟨#[61,61]⟩else if 0+Int.toNat z170.1-1-1-1-1-1-1-1=0 then⟨#[33,61]⟩else if 0+Int.toNat z170.1-1-1-1-1-1-1-1-1=0 then⟨#[43]⟩else if 0+Int.toNat z170.1-1-1-1-1-1-1-1-1-1=0 then⟨#[45]⟩else if 0+Int.toNat z170.1-1-1-1-1-1-1-1-1-1-1=0 then⟨#[42]⟩else⟨#[47]⟩,z164.1,z164.2.1,z164.2.2.1,z164.2.2.2.1,z164.2.2.2.2.1,z176))))else none else none
theorem gd0{β:Type}(c_Next c_Literal)(c_Word c_MExpr)(x)(dn:aa7→Option β):sI c_Next c_Literal c_Word c_MExpr x dn=(sI c_Next c_Literal c_Word c_MExpr x some).bind dn:=by
 unfold sI
 repeat' first|exact n0|refine n1 fun _=>?_|refine n2 ?_ ?_|refine n3 (fun _=>?_) fun _=>?_|rfl
theorem ge7(c_Next c_Literal)(c_Word c_MExpr)(x):f7 E5 (ftb 30 n9 dD c_Next (ftb 76 nH vO c_Literal (ftb 77 yT bv5 c_Word (ftb 39 rN aj4 c_MExpr ca0)))) lo0 39 (ch8 x).1 (ch8 x).2 K=sI (vf n9 c_Next) (vf nH c_Literal) (vf yT c_Word) (vf rN c_MExpr) x (fun z=>some (.c (cm4 z))):=by kernel_rfl
theorem gf0(c_Next)(h_Next:Lw E5 30 n9 dD c_Next)(c_Literal)(h_Literal:Lw E5 76 nH vO c_Literal)(c_Word)(h_Word:Lw E5 77 yT bv5 c_Word)(c_MExpr)(h_MExpr:Lw E5 39 rN aj4 c_MExpr)(q:Nat):Lw E5 39 ch8 cm4 fun x=>sI c_Next c_Literal c_Word c_MExpr x some:=sof hW5 hX5 (fk h_Next (fk h_Literal (fk h_Word (fk h_MExpr a8)))) (fun _=>b6) fun x=>(ge7 c_Next c_Literal c_Word c_MExpr x).trans (by rw[qG,cx0,gd6,fn8,gd0]<;>rfl)
def ab6:aa7→oC:=Sum.elim (fun z=>z) (Sum.elim (fun z=>(z.1,z.2.1,z.2.2.1,0,fun _=>[],z.2.2.2)) (Sum.elim (fun z=>(z.1,z.2.1,z.2.2.1,1,gP [[i64 z.2.2.2.1,i64 z.2.2.2.2.1,st z.2.2.2.2.2.1,.ro 4 z.2.2.2.2.2.2.1 z.2.2.2.2.2.2.2.1]],z.2.2.2.2.2.2.2.2)) (fun z=>(z.1,z.2.1,z.2.2.1,2,gP [[i64 z.2.2.2.1,i64 z.2.2.2.2.1,st z.2.2.2.2.2.1,.ro 4 z.2.2.2.2.2.2.1 z.2.2.2.2.2.2.2.1],[i64 z.2.2.2.2.2.2.2.2.1,i64 z.2.2.2.2.2.2.2.2.2.1,st z.2.2.2.2.2.2.2.2.2.2.1,.ro 4 z.2.2.2.2.2.2.2.2.2.2.2.1 z.2.2.2.2.2.2.2.2.2.2.2.2.1]],z.2.2.2.2.2.2.2.2.2.2.2.2.2))))
theorem fp1{args:List V}{L:List (Option Chunk)}(z:aa7)(h:SC E5 39 args L (cm4 z)):SC E5 39 args L (aj4 (ab6 z)):=by
 rcases z with z|z|z|z
 ·exact h
 ·exact gx4 h
 ·exact gt2 h
 ·exact gt2 h
noncomputable def mxS:Nat→(rQ→Option oC)
 |0=>(fun _=>none)
 |q+1=>(fun x=>(sI ((Next q)) ((iI q)) ((ba9 q)) ((mxS q)) x some).map ab6)
theorem gv0:∀q,(∀x z,(mxS q) x=some z→SC E5 39 (rN x).1 (rN x).2 (aj4 z))
 |0=>(fun x z h=>by cases h)
 |q+1=>by
  have h0:=gv0 q
  exact((fun x z h=>by
   obtain⟨y,hy,rfl⟩:=Option.map_eq_some_iff.1 h
   exact fp1 y (gf0 ((Next q)) ((ax5 q)) ((iI q)) ((ck9 q)) ((ba9 q)) ((fi2 q)) ((mxS q)) (h0) q x y hy)))
noncomputable def az2(q:Nat):rQ→Option oC:=(mxS q)
theorem gq0(q:Nat):Lw E5 39 rN aj4 (az2 q):=(gv0 q)
abbrev gn3:Type:=Nat×FI×Int
abbrev gv3:Type:=Int×Int×ByteArray×Nat×FL
def hv3{β:Type}(c_MExpr:rQ→Option oC)(x:gn3)(dn:gv3→Option β):Option β:=
 if(0:Int)≤0∧(0≤if 60< ((x.1:Nat):Int)then 60 else((x.1:Nat):Int))∧(if 60< ((x.1:Nat):Int)then 60 else((x.1:Nat):Int))≤((x.1:Nat):Int)then(c_MExpr (x.2.2,Int.toNat (if 60< ((x.1:Nat):Int)then 60 else((x.1:Nat):Int))-0,fun j=>x.2.1 (0+j),0,0)).bind fun z5=>dn (z5.1,z5.2.1,z5.2.2.1,z5.2.2.2.1,z5.2.2.2.2.1)else none
noncomputable def tree(q:Nat)(x:gn3):Option gv3:=hv3 (az2 q) x some
abbrev cb5:Type:=Int×Int×ByteArray×Nat×FL
abbrev df9:Type:=ByteArray
def cc1:AR cb5:=fun x=>([.agg [i64 x.1,i64 x.2.1,st x.2.2.1,.ro 4 x.2.2.2.1 x.2.2.2.2]],[])
def gx0(t:TT):cb5:=(vI (ca t 0 0),vI (ca t 0 1),vS (ca t 0 2),u7 (ca t 0 3),iU (ca t 0 3))
theorem hg5:VI cc1:=vd gx0 fun _=>rfl
def fk4:df9→CRes:=fun z=>.ret (st z) []
noncomputable def by1(q:Nat)(x:cb5):Option df9:=@dite _ (∃p:Tr×ByteArray,Txt p.1 p.2∧RepN p.1 x∧szT p.1≤1000000) (Classical.propDecidable _) (fun h=>some (Classical.choose h).2) (fun _=>none)
theorem gq2(q:Nat):Lw E5 16 cc1 fk4 (by1 q):=by
 intro x z h
 unfold by1 at h
 split at h
 ·rename_i hc
  cases h
  obtain⟨h1,h2,h3⟩:=Classical.choose_spec hc
  obtain⟨z,h4,h5⟩:=hn4 h1 h3 (2*szT (Classical.choose hc).1+20) (Nat.le_refl _)
  rw[←h5]
  have h6:=gz5 _ _ z h4
  have h7:=leT _ _ h2
  rw[ac3]at h7
  exact SC.arg h6 (LeL.cons (Le.agg h7) LeL.nil) rfl rfl
 ·cases h
end Go.Proofs.YtjfkkokeegpeiaaGreatDoor
/- Trees made from numbers, plain: what the maker makes. -/
namespace Go.Proofs.YtjfkkokeegpeiaaGreatDoor
open Go Go.Am Go.Proofs.Lx
set_option maxRecDepth 100000
def wY:List ByteArray:=[⟨#[]⟩,⟨#[115]⟩,⟨#[74]⟩,⟨#[66]⟩,⟨#[100,101,103]⟩,⟨#[75]⟩,⟨#[107,66]⟩,⟨#[109,105,110]⟩,⟨#[87]⟩]
def bb9:List ByteArray:=[⟨#[97]⟩,⟨#[98]⟩,⟨#[120,49]⟩,⟨#[99,111,117,110,116]⟩,⟨#[115]⟩,⟨#[84,111,116,97,108]⟩,⟨#[97,98,99,100,101,102,103,104,105,106,107,57]⟩]
inductive Mk:Nat→Tr→Prop
 |int (d:Nat) (n:Int) (s:ByteArray):0≤n→n≤2147483647→s∈wY→Mk d (.node 15 n s [])
 |var (d:Nat) (s:ByteArray):s∈bb9→Mk d (.node 17 0 s [])
 |tlm (d:Nat) (s:ByteArray):s∈bb9→Mk d (.node 18 0 s [])
 |bool (d:Nat) (n:Int):n=0∨n=1→Mk d (.node 16 n ⟨#[]⟩ [])
 |un (d:Nat) (s:ByteArray) (a:Tr):s=oH∨s=sW→Mk d a→Mk (d+1) (.node 19 0 s [a])
 |bin (d:Nat) (s:ByteArray) (a b:Tr):s∈cs5→Mk d a→Mk d b→Mk (d+1) (.node 20 0 s [a,b])
theorem Mk.size{d:Nat}{t:Tr}(h:Mk d t):szT t+3≤8*2^d:=by
 have hp:∀d:Nat,1≤2^d:=fun d=>Nat.one_le_two_pow
 induction h with
 |int d n s h0 h1 h2=>have:=hp d;simp only[szT,szL];omega
 |var d s h=>have:=hp d;simp only[szT,szL];omega
 |tlm d s h=>have:=hp d;simp only[szT,szL];omega
 |bool d n h=>have:=hp d;simp only[szT,szL];omega
 |un d s a h _ ih=>have:=hp d;rw[Nat.pow_succ];simp only[szT,szL];omega
 |bin d s a b h _ _ ih1 ih2=>have:=hp d;rw[Nat.pow_succ];simp only[szT,szL];omega
def hp8(n:Nat):ByteArray:=if 0+n=0 then⟨#[]⟩else if 0+n-1=0 then⟨#[115]⟩else if 0+n-1-1=0 then⟨#[74]⟩else if 0+n-1-1-1=0 then⟨#[66]⟩else if 0+n-1-1-1-1=0 then⟨#[100,101,103]⟩else if 0+n-1-1-1-1-1=0 then⟨#[75]⟩else if 0+n-1-1-1-1-1-1=0 then⟨#[107,66]⟩else if 0+n-1-1-1-1-1-1-1=0 then⟨#[109,105,110]⟩else⟨#[87]⟩
theorem fu1(n:Nat)(h:n<9):hp8 n∈wY:=inP_iff.1 ((show∀n,n<9→inP wY (hp8 n)=true by decide) n h)
def hr5(n:Nat):ByteArray:=if 0+n=0 then⟨#[97]⟩else if 0+n-1=0 then⟨#[98]⟩else if 0+n-1-1=0 then⟨#[120,49]⟩else if 0+n-1-1-1=0 then⟨#[99,111,117,110,116]⟩else if 0+n-1-1-1-1=0 then⟨#[115]⟩else if 0+n-1-1-1-1-1=0 then⟨#[84,111,116,97,108]⟩else⟨#[97,98,99,100,101,102,103,104,105,106,107,57]⟩
theorem fx2(n:Nat)(h:n<7):hr5 n∈bb9:=inP_iff.1 ((show∀n,n<7→inP bb9 (hr5 n)=true by decide) n h)
def hp9(n:Nat):ByteArray:=if 0+n=0 then⟨#[124,124]⟩else if 0+n-1=0 then⟨#[38,38]⟩else if 0+n-1-1=0 then⟨#[60]⟩else if 0+n-1-1-1=0 then⟨#[60,61]⟩else if 0+n-1-1-1-1=0 then⟨#[62]⟩else if 0+n-1-1-1-1-1=0 then⟨#[62,61]⟩else if 0+n-1-1-1-1-1-1=0 then⟨#[61,61]⟩else if 0+n-1-1-1-1-1-1-1=0 then⟨#[33,61]⟩else if 0+n-1-1-1-1-1-1-1-1=0 then⟨#[43]⟩else if 0+n-1-1-1-1-1-1-1-1-1=0 then⟨#[45]⟩else if 0+n-1-1-1-1-1-1-1-1-1-1=0 then⟨#[42]⟩else⟨#[47]⟩
theorem fu9(n:Nat)(h:n<12):hp9 n∈cs5:=inP_iff.1 ((show∀n,n<12→inP cs5 (hp9 n)=true by decide) n h)
def uI(ln:Nat)(lf:Nat→Int):Prop:=∀j,j<ln→ -9223372036854775808≤lf j∧lf j≤9223372036854775807
theorem ak9{a m:Int}(h:0≤a)(hm:0<m):0≤Int.tmod a m∧Int.tmod a m<m:=⟨Int.tmod_nonneg _ h,Int.tmod_lt_of_pos _ hm⟩
theorem hj4(q:Nat){ln:Nat}{lf:Nat→Int}(hr:uI ln lf)(i m:Int)(hm:0<m):Rs (gc9 q (ln,lf,i,m)) (fun z=>0≤z∧z<m):=by
 unfold gc9 br4
 dsimp only
 refine Rs.ite (fun _=>Rs.some ⟨Int.le_refl 0,hm⟩) fun h1=>?_
 refine Rs.ite (fun _=>Rs.some ⟨Int.le_refl 0,hm⟩) fun h2=>?_
 have h1:¬i<0:=fun h=>h1 (decide_eq_true h)
 have h2:¬i≥((ln:Nat):Int):=fun h=>h2 (decide_eq_true h)
 refine Rs.pos ⟨by omega,by omega⟩ ?_
 have h3:=hr i.toNat (by omega)
 have hm0:¬m=0:=by omega
 refine Rs.ite (fun h4=>Rs.neg hm0 (Rs.some ?_)) fun h4=>Rs.neg hm0 (Rs.some ?_)
 ·have h4:lf i.toNat<0:=of_decide_eq_true h4
  rw[xR (n:=lf i.toNat+1) (by omega) (by omega),xR (by omega) (by omega)]
  exact ak9 (by omega) hm
 ·have h4:¬lf i.toNat<0:=fun h=>h4 (decide_eq_true h)
  exact ak9 (by omega) hm
theorem w7(q:Nat){ln:Nat}{lf:Nat→Int}(hr:uI ln lf)(a:Nat)(ha:a≤1000000)(mn m:Int)(hm:0<m):Rs (Next q (m,ln,lf,(a:Int),mn)) (fun z=>∃k:Int,z=(k,ln,lf,((a+1:Nat):Int),mn)∧0≤k∧k<m):=by
 unfold Next bt6
 refine Rs.bind (hj4 q hr _ m hm) fun k hk=>Rs.some ⟨k,?_,hk⟩
 have:w ((a:Int)+1)=((a+1:Nat):Int):=s9 (by omega)
 show(k,ln,lf,w ((a:Int)+1),mn)=_
 rw[this]
theorem bm2(q:Nat){k:Int}(h0:0≤k):Rs (dS q k) (fun z=>z∈wY):=by
 unfold dS ar8
 have h:=ak9 h0 (show(0:Int)<9 by decide)
 exact Rs.pos h (Rs.pos ⟨by omega,rfl⟩ (Rs.some (fu1 (Int.tmod k 9).toNat (by omega))))
theorem dl1(q:Nat){k:Int}(h0:0≤k):Rs (ba9 q k) (fun z=>z∈bb9):=by
 unfold ba9 br3
 have h:=ak9 h0 (show(0:Int)<7 by decide)
 exact Rs.pos h (Rs.pos ⟨by omega,rfl⟩ (Rs.some (fx2 (Int.tmod k 7).toNat (by omega))))
def MA(ln:Nat)(lf:Nat→Int)(mn:Int)(P:Tr→Prop)(a n:Nat)(z:oC):Prop:=∃(t:Tr) (y:n4) (a':Nat),z=(y.1,y.2.1,y.2.2.1,y.2.2.2.1,y.2.2.2.2,ln,lf,(a':Int),mn)∧P t∧RepN t y∧a≤a'∧a'≤a+n
theorem gk4(q:Nat){ln:Nat}{lf:Nat→Int}(hr:uI ln lf)(a:Nat)(ha:a≤1000000)(ha1:a+1≤1000000)(mn:Int)(d:Nat):Rs (iI q (ln,lf,(a:Int),mn)) (MA ln lf mn (fun t=>∃n s,t= .node 15 n s []∧0≤n∧n≤2147483647∧s∈wY) a 2):=by
 unfold iI ch0 qZ
 refine Rs.map (P:=fun z=>∃(k:Int) (s:ByteArray),z=(15,k,s,ln,lf,((a+1+1:Nat):Int),mn)∧0≤k∧k<2147483648∧s∈wY) ?_ ?_
 ·refine Rs.bind (w7 q hr a ha mn 2147483648 (by decide)) fun z hz=>?_
  obtain⟨k,rfl,h0,h1⟩:=hz
  refine Rs.bind (w7 q hr (a+1) ha1 mn 9 (by decide)) fun z hz=>?_
  obtain⟨k2,rfl,h2,h3⟩:=hz
  exact Rs.bind (bm2 q h2) fun s hs=>Rs.some ⟨k,s,rfl,h0,h1,hs⟩
 ·rintro _ ⟨k,s,rfl,h0,h1,hs⟩
  exact⟨.node 15 k s [],(15,k,s,0,fun _=>[]),a+1+1,rfl,⟨k,s,rfl,h0,by omega,hs⟩,RepN.leaf,by omega,by omega⟩
def dsp(c_Next:bG→Option aZ)(c_Literal:pS→Option pR)(c_Word:ag1→Option ah9)(c_MExpr:rQ→Option oC)(dp k:Int)(s:Nat×FI×Int×Int):Option aa7:=
 if(k==0)=true then(c_Literal s).bind fun z124=>some (.inl z124)else if(k==1)=true then(c_Next (7,s)).bind fun z130=>(c_Word z130.1).bind fun z132=>some (.inr (.inl (17,0,z132,z130.2)))else if(k==2)=true then(c_Next (7,s)).bind fun z138=>(c_Word z138.1).bind fun z140=>some (.inr (.inl (18,0,z140,z138.2)))else if(k==3)=true then(c_Next (2,s)).bind fun z146=>some (.inr (.inl (16,z146.1,⟨#[]⟩,z146.2)))else if(k==4)=true then(c_Next (2,s)).bind fun z152=>if 0≤z152.1∧z152.1<2 then if 0+Int.toNat z152.1<2∧1=1 then(c_MExpr (w (dp-1),z152.2)).bind fun z158=>some (.inr (.inr (.inl (19,0,if 0+Int.toNat z152.1=0 then⟨#[33]⟩else⟨#[45]⟩,z158))))else none else none else(c_MExpr (w (dp-1),s)).bind fun z164=>(c_Next (12,z164.2.2.2.2.2)).bind fun z170=>if 0≤z170.1∧z170.1<12 then if 0+Int.toNat z170.1<12∧1=1 then(c_MExpr (w (dp-1),z170.2)).bind fun z176=>some (.inr (.inr (.inr (20,0,if 0+Int.toNat z170.1=0 then⟨#[124,124]⟩else if 0+Int.toNat z170.1-1=0 then⟨#[38,38]⟩else if 0+Int.toNat z170.1-1-1=0 then⟨#[60]⟩else if 0+Int.toNat z170.1-1-1-1=0 then⟨#[60,61]⟩else if 0+Int.toNat z170.1-1-1-1-1=0 then⟨#[62]⟩else if 0+Int.toNat z170.1-1-1-1-1-1=0 then⟨#[62,61]⟩else if 0+Int.toNat z170.1-1-1-1-1-1-1=0 then⟨#[61,61]⟩else if 0+Int.toNat z170.1-1-1-1-1-1-1-1=0 then⟨#[33,61]⟩else if 0+Int.toNat z170.1-1-1-1-1-1-1-1-1=0 then⟨#[43]⟩else if 0+Int.toNat z170.1-1-1-1-1-1-1-1-1-1=0 then⟨#[45]⟩else if 0+Int.toNat z170.1-1-1-1-1-1-1-1-1-1-1=0 then⟨#[42]⟩else⟨#[47]⟩,z164.1,z164.2.1,z164.2.2.1,z164.2.2.2.1,z164.2.2.2.2.1,z176))))else none else none
theorem ia0(c_Next c_Literal c_Word c_MExpr)(x:ck6):sI c_Next c_Literal c_Word c_MExpr x some=(c_Next (9,x.2)).bind fun z=>if decide (x.1≤0)=true then dsp c_Next c_Literal c_Word c_MExpr x.1 (Int.tmod z.1 4) z.2 else if decide (z.2.2.2.1>((z.2.1:Nat):Int))=true then dsp c_Next c_Literal c_Word c_MExpr x.1 (Int.tmod z.1 4) z.2 else dsp c_Next c_Literal c_Word c_MExpr x.1 z.1 z.2:=rfl
theorem hw0{q:Nat}{ln:Nat}{lf:Nat→Int}(hr:uI ln lf)(mn:Int)(d:Nat)(hd:d≤10)
 (ih:∀d',d'<d→∀a:Nat,a+(5*2^d'-2)≤1000000→Rs (mxS q ((d':Int),ln,lf,(a:Int),mn)) (MA ln lf mn (Mk d') a (5*2^d'-2)))
 (k:Int) (h0:0≤k) (h4:d=0→k<4) (a:Nat) (n:Nat) (hn:n+3=5*2^d) (ha:a+n≤1000000):
 Rs (dsp (Next q) (iI q) (ba9 q) (mxS q) (d:Int) k (ln,lf,(a:Int),mn)) (fun z=>MA ln lf mn (Mk d) a n (ab6 z)):=by
 have hp:1≤2^d:=Nat.one_le_two_pow
 unfold dsp
 refine Rs.ite (fun _=>?_) fun k0=>Rs.ite (fun _=>?_) fun k1=>Rs.ite (fun _=>?_) fun k2=>Rs.ite (fun _=>?_) fun k3=>?_
 ·refine Rs.bind (gk4 q hr a (by omega) (by omega) mn d) fun z hz=>Rs.some ?_
  obtain⟨t,y,a',rfl,⟨n,s,rfl,g0,g1,g2⟩,h2,h3,h5⟩:=hz
  exact⟨_,y,a',rfl,Mk.int d n s g0 g1 g2,h2,h3,by omega⟩
 ·refine Rs.bind (w7 q hr a (by omega) mn 7 (by decide)) fun z hz=>?_
  obtain⟨j,rfl,g0,g1⟩:=hz
  exact Rs.bind (dl1 q g0) fun s hs=>Rs.some ⟨.node 17 0 s [],(17,0,s,0,fun _=>[]),a+1,rfl,Mk.var d s hs,RepN.leaf,by omega,by omega⟩
 ·refine Rs.bind (w7 q hr a (by omega) mn 7 (by decide)) fun z hz=>?_
  obtain⟨j,rfl,g0,g1⟩:=hz
  exact Rs.bind (dl1 q g0) fun s hs=>Rs.some ⟨.node 18 0 s [],(18,0,s,0,fun _=>[]),a+1,rfl,Mk.tlm d s hs,RepN.leaf,by omega,by omega⟩
 ·refine Rs.bind (w7 q hr a (by omega) mn 2 (by decide)) fun z hz=>?_
  obtain⟨j,rfl,g0,g1⟩:=hz
  exact Rs.some ⟨.node 16 j ⟨#[]⟩ [],(16,j,⟨#[]⟩,0,fun _=>[]),a+1,rfl,Mk.bool d j (by omega),RepN.leaf,by omega,by omega⟩
 ·have k0:k≠0:=by simpa using k0
  have k1:k≠1:=by simpa using k1
  have k2:k≠2:=by simpa using k2
  have k3:k≠3:=by simpa using k3
  have hd0:d≠0:=fun e=>by have:=h4 e;omega
  obtain⟨d,rfl⟩:∃e,d=e+1:=⟨d-1,by omega⟩
  have hw:w (((d+1:Nat):Int)-1)=((d:Nat):Int):=by rw[xR (by omega) (by omega)];omega
  rw[Nat.pow_succ]at hn
  have hp2:1≤2^d:=Nat.one_le_two_pow
  rw[hw]
  refine Rs.ite (fun _=>?_) fun k4=>?_
  ·refine Rs.bind (w7 q hr a (by omega) mn 2 (by decide)) fun z hz=>?_
   obtain⟨j,rfl,g0,g1⟩:=hz
   refine Rs.pos ⟨g0,g1⟩ (Rs.pos ⟨by omega,rfl⟩ (Rs.bind (ih d (by omega) (a+1) (by omega)) fun z hz=>Rs.some ?_))
   obtain⟨t,y,a',rfl,h1,h2,h3,h5⟩:=hz
   have hop:∀j:Nat,(if 0+j=0 then(⟨#[33]⟩:ByteArray)else⟨#[45]⟩)=oH∨(if 0+j=0 then(⟨#[33]⟩:ByteArray)else⟨#[45]⟩)=sW:=by
    intro j;split
    ·exact .inl rfl
    ·exact .inr rfl
   exact⟨.node 19 0 _ [t],_,a',rfl,Mk.un d _ t (hop j.toNat) h1,RepN.k1 h2,by omega,by omega⟩
  ·refine Rs.bind (ih d (by omega) a (by omega)) fun z hz=>?_
   obtain⟨t,y,a',rfl,h1,h2,h3,h5⟩:=hz
   refine Rs.bind (w7 q hr a' (by omega) mn 12 (by decide)) fun z hz=>?_
   obtain⟨j,rfl,g0,g1⟩:=hz
   refine Rs.pos ⟨g0,g1⟩ (Rs.pos ⟨by omega,rfl⟩ (Rs.bind (ih d (by omega) (a'+1) (by omega)) fun z hz=>Rs.some ?_))
   obtain⟨t',y',a'',rfl,h1',h2',h3',h5'⟩:=hz
   exact⟨.node 20 0 _ [t,t'],_,a'',rfl,Mk.bin d _ t t' (fu9 j.toNat (by omega)) h1 h1',RepN.k2 h2 h2',by omega,by omega⟩
theorem gj1{ln:Nat}{lf:Nat→Int}(hr:uI ln lf)(mn:Int):∀(q d:Nat),d<q→d≤10→∀a:Nat,a+(5*2^d-2)≤1000000→Rs (mxS q ((d:Int),ln,lf,(a:Int),mn)) (MA ln lf mn (Mk d) a (5*2^d-2)):=by
 intro q
 induction q with
 |zero=>intro d h;omega
 |succ q ih=>
  intro d hdq hd a ha
  have hp:1≤2^d:=Nat.one_le_two_pow
  show Rs ((sI (Next q) (iI q) (ba9 q) (mxS q) ((d:Int),ln,lf,(a:Int),mn) some).map ab6) _
  refine Rs.map (P:=fun z=>MA ln lf mn (Mk d) a (5*2^d-2) (ab6 z)) ?_ fun z h=>h
  rw[ia0]
  refine Rs.bind (w7 q hr a (by omega) mn 9 (by decide)) fun z hz=>?_
  obtain⟨k,rfl,g0,g1⟩:=hz
  have g2:=ak9 g0 (show(0:Int)<4 by decide)
  have key:∀k:Int,0≤k→(d=0→k<4)→Rs (dsp (Next q) (iI q) (ba9 q) (mxS q) (d:Int) k (ln,lf,((a+1:Nat):Int),mn)) (fun z=>MA ln lf mn (Mk d) a (5*2^d-2) (ab6 z)):=by
   intro k h0 h4
   refine(hw0 hr mn d hd (fun d' h=>ih d' (by omega) (by omega)) k h0 h4 (a+1) (5*2^d-3) (by omega) (by omega)).mono fun z hz=>?_
   obtain⟨t,y,a',e,h1,h2,h3,h5⟩:=hz
   exact⟨t,y,a',e,h1,h2,by omega,by omega⟩
  refine Rs.ite (fun _=>key _ g2.1 fun _=>g2.2) fun hd0=>Rs.ite (fun _=>key _ g2.1 fun _=>g2.2) fun _=>key _ g0 fun e=>absurd (decide_eq_true (show((d:Nat):Int)≤0 by omega)) hd0
end Go.Proofs.YtjfkkokeegpeiaaGreatDoor
/- The law of Expr. -/
namespace Go.Proofs.YtjfkkokeegpeiaaGreatDoor
open Go Go.Am Go.Proofs.Lx
set_option maxRecDepth 100000
theorem wt3{d:Nat}{vs:List V}(h:WT E.P d 3 vs):∃a,vs=[i64 a]∧inR a:=h.i64 (by kernel_rfl)
theorem gy3{v:V}(h:WTV E.P 29 v):∃(m:Nat) (y:Nat→Int),Le v (.ro 1 m (fun j=>[i64 (y j)]))∧uI m y:=by
 obtain⟨n,f,rfl,hn,d,h⟩:=h.slice (e:=3) (c:=1) (by kernel_rfl) (by kernel_rfl) (by kernel_rfl) (by decide)
 have key:∀j,∃x:Int,j<n→f j=[i64 x]∧ -9223372036854775808≤x∧x≤9223372036854775807:=fun j=>by
  by_cases hj:j<n
  ·obtain⟨a,hf,ha⟩:=wt3 (h j hj)
   exact⟨a,fun _=>⟨hf,ha⟩⟩
  ·exact⟨0,fun h=>absurd h hj⟩
 obtain⟨g,hg⟩:=Classical.axiomOfChoice key
 exact⟨n,g,Le.ro_eq fun j hj=>⟨(hg j hj).1,rfl⟩,fun j hj=>(hg j hj).2⟩
end Go.Proofs.YtjfkkokeegpeiaaGreatDoor
/- Plain: a token is ij5 by its own bytes and the byte behind it; sources joined, moved, cut. -/
namespace Go.Proofs.Lx
open Go
def mkB(l:List UInt8):ByteArray:=⟨l.toArray⟩
theorem b9(l:List UInt8):(mkB l).size=l.length:=by simp[mkB,ByteArray.size]
theorem m4(l:List UInt8):(mkB l).data.toList=l:=by simp[mkB]
def ig1(D:List UInt8):Tkn×Int:=if 1<D.length∧D[0]? =some 48 then(bh8,11)else if bc0 0 D>2147483647 then(bh8,5)else(⟨2,0,mkB D,bc0 0 D⟩,0)
def gm3(l:List UInt8):Tkn×Int:=
 if p8 (l.headD 0).toNat then(if 12<j6 aE l then(bh8,2)else(⟨1,0,mkB (l.take (j6 aE l)),0⟩,0))
 else if l6 (l.headD 0).toNat then ig1 (l.take (j6 l6 l))
 else if ac8 l=0 then(bh8,11)else(⟨3,0,mkB (l.take (ac8 l)),0⟩,0)
theorem is8(s:ByteArray)(p n:Nat)(h:p≤s.size):(s.extract p s.size).extract 0 n=mkB ((s.data.toList.drop p).take n):=aB (by rw[dM,an2 s p h,m4];simp)
theorem iz3{s:ByteArray}{p:Nat}(hp:p<s.size):s.get! p=(s.data.toList.drop p).headD 0:=by rw[iS s p hp];rfl
theorem iy0(D:List UInt8):rO (mkB D)=ig1 D:=by
 unfold rO ig1
 rw[b9,m4]
theorem jc4{s:ByteArray}{p:Nat}(hp:p<s.size):wM s p=gm3 (s.data.toList.drop p):=by
 unfold wM gm3
 rw[iz3 hp,is8 s p _ (by omega)]
 unfold by5 lD
 rw[iy0,is8 s p _ (by omega),is8 s p _ (by omega),an2 s p (by omega)]
end Go.Proofs.Lx
/- Plain: tokens of an expression's text are read as the expression. -/
namespace Go.Proofs.Lx
open Go Go.Proofs.YtjfkkokeegpeiaaGreatDoor
set_option maxRecDepth 100000
def tkW(s:ByteArray):Tkn:=⟨1,0,s,0⟩
def tkN(n:Int):Tkn:=⟨2,0,itS n,n⟩
def tkY(s:ByteArray):Tkn:=⟨3,0,s,0⟩
def bx0(s:ByteArray):Prop:=s.size≤12∧∃c l,s.data.toList=c::l∧p8 c.toNat=true∧∀b∈c::l,aE b.toNat=true
def aH(lv:Nat)(t:Tr)(l:List Tkn):List Tkn:=if lvT t<lv then tkY nG::(l++[tkY jS])else l
def dg4(lv:Nat)(t:Tr)(x:List UInt8):List UInt8:=if lvT t<lv then 40::(x++[41])else x
def df3(lv:Nat)(t:Tr)(d:Nat):Nat:=if lvT t<lv then d+1 else d
inductive Pr:Tr→List UInt8→List Tkn→Nat→Prop
 |lit (n:Int):0≤n→n≤2147483647→Pr (.node 15 n ⟨#[]⟩ []) (itS n).data.toList [tkN n] 0
 |qty (n:Int) (s:ByteArray):0≤n→n≤2147483647→s∈ad0→Pr (.node 15 n s []) ((itS n).data.toList++32::s.data.toList) [tkN n,tkW s] 0
 |yes:Pr (.node 16 1 ⟨#[]⟩ []) w_true.data.toList [tkW w_true] 0
 |no:Pr (.node 16 0 ⟨#[]⟩ []) w_false.data.toList [tkW w_false] 0
 |var (s:ByteArray):resP s=false→bx0 s→Pr (.node 17 0 s []) s.data.toList [tkW s] 0
 |tlm (s:ByteArray):resP s=false→bx0 s→Pr (.node 18 0 s []) (116::108::109::46::s.data.toList) [tkW ch7,tkY eo6,tkW s] 0
 |un (s:ByteArray) (a:Tr) (x:List UInt8) (l:List Tkn) (d:Nat):s=oH∨s=sW→Pr a x l d→Pr (.node 19 0 s [a]) (s.data.toList++dg4 (lvT (.node 19 0 s [a])) a x) (tkY s::aH (lvT (.node 19 0 s [a])) a l) (1+df3 (lvT (.node 19 0 s [a])) a d)
 |bin (s:ByteArray) (a b:Tr) (x y:List UInt8) (l m:List Tkn) (d e:Nat):s∈cs5→Pr a x l d→Pr b y m e→
  Pr (.node 20 0 s [a,b]) (dg4 (if j8 s=4 then 5 else j8 s) a x++32::(s.data.toList++32::dg4 (j8 s+1) b y)) (aH (if j8 s=4 then 5 else j8 s) a l++tkY s::aH (j8 s+1) b m) (max (df3 (if j8 s=4 then 5 else j8 s) a d) (df3 (j8 s+1) b e))
def At(T:Nat→Tkn):Nat→List Tkn→Prop
 |_,[]=>True
 |p,x::l=>((T p).k=x.k∧(T p).t=x.t∧(T p).n=x.n)∧At T (p+1) l
theorem At.app{T:Nat→Tkn}:∀{l m:List Tkn} {p:Nat},At T p (l++m)→At T p l∧At T (p+l.length) m
 | [],m,p,h=>⟨trivial,by simpa using h⟩
 |x::l,m,p,h=>by
  obtain⟨h1,h2⟩:=h
  obtain⟨h3,h4⟩:=At.app h2
  exact⟨⟨h1,h3⟩,by rw[List.length_cons,show p+(l.length+1)=p+1+l.length by omega];exact h4⟩
def Ev{α:Type}(f:Nat→PR α)(r:PR α):Prop:=∃f0,∀q,f0≤q→f q=r
theorem Ev.const{α:Type}{r:PR α}:Ev (fun _=>r) r:=⟨0,fun _ _=>rfl⟩
theorem Ev.step{α:Type}{g h:Nat→PR α}{r:PR α}(hs:∀f,g (f+1)=h f)(k:Ev h r):Ev g r:=by
 obtain⟨f0,k⟩:=k
 refine⟨f0+1,fun q hq=>?_⟩
 obtain⟨q,rfl⟩:∃q',q=q'+1:=⟨q-1,by omega⟩
 rw[hs];exact k q (by omega)
theorem Ev.bind{α β:Type}{g:Nat→PR α}{k:Nat→α→PS→PR β}{a:α}{s:PS}{r:PR β}(h:Ev g (.ok a s))(hk:Ev (fun f=>k f a s) r):Ev (fun f=>(g f).bind (k f)) r:=by
 obtain⟨f0,h⟩:=h
 obtain⟨f1,hk⟩:=hk
 refine⟨max f0 f1,fun q hq=>?_⟩
 show(g q).bind (k q)=r
 rw[h q (by omega)]
 exact hk q (by omega)
theorem Ev.det{α:Type}{g:Nat→PR α}{r r':PR α}(h:Ev g r)(h':Ev g r'):r=r':=by
 obtain⟨f0,h⟩:=h
 obtain⟨f1,h'⟩:=h'
 rw[←h (max f0 f1) (by omega),h' (max f0 f1) (by omega)]
theorem Ev.congr{α:Type}{g h:Nat→PR α}{r:PR α}(e:∀f,g f=h f)(k:Ev h r):Ev g r:=by
 obtain⟨f0,k⟩:=k
 exact⟨f0,fun q hq=>by rw[e];exact k q hq⟩
section
variable {T:Nat→Tkn}
def Ex(T:Nat→Tkn)(lv:Nat)(s:PS)(t:Tr)(s':PS):Prop:=Ev (fun f=>o9 T f lv s) (.ok t s')
def Ops(T:Nat→Tkn)(lv:Nat)(n:Tr)(s:PS)(t:Tr)(s':PS):Prop:=Ev (fun f=>mP T f lv n s) (.ok t s')
def go(s:PS)(k:Nat):PS:={s with p:=s.p+k}
theorem rY{lv:Nat}{n:Tr}{s:PS}(h:¬(j8 (T s.p).t=lv∧(T s.p).k=3)):Ops T lv n s n s:=by
 refine Ev.step (h:=fun _=>.ok n s) (fun f=>?_) Ev.const
 rw[mP,if_neg h]
theorem hy3{lv:Nat}{n m u:Tr}{s s1 s2:PS}(h:j8 (T s.p).t=lv∧(T s.p).k=3)(h4:lv≠4)(hm:Ex T (lv+1) (adv s) m s1)(hu:Ops T lv (.node 20 0 (T s.p).t [n,m]) s1 u s2):Ops T lv n s u s2:=by
 refine Ev.step (h:=fun f=>(o9 T f (lv+1) (adv s)).bind fun m s'=>if lv=4 then .ok (.node 20 0 (T s.p).t [n,m]) s' else mP T f lv (.node 20 0 (T s.p).t [n,m]) s') (fun f=>?_) (Ev.bind hm ?_)
 ·rw[mP,if_pos h]
 ·exact Ev.congr (fun f=>if_neg h4) hu
theorem hl4{n m:Tr}{s s1:PS}(h:j8 (T s.p).t=4∧(T s.p).k=3)(hm:Ex T 5 (adv s) m s1):Ops T 4 n s (.node 20 0 (T s.p).t [n,m]) s1:=by
 refine Ev.step (h:=fun f=>(o9 T f 5 (adv s)).bind fun m s'=>if 4=4 then .ok (.node 20 0 (T s.p).t [n,m]) s' else mP T f 4 (.node 20 0 (T s.p).t [n,m]) s') (fun f=>?_) (Ev.bind hm ?_)
 ·rw[mP,if_pos h]
 ·exact Ev.congr (fun f=>if_pos rfl) Ev.const
theorem dm5{lv:Nat}{n u:Tr}{s s1 s2:PS}(h3:¬(lv=3∧isP T oH s=true))(h7:¬(lv=7∧isP T sW s=true))(h8:lv≠8)(hn:Ex T (lv+1) s n s1)(hu:Ops T lv n s1 u s2):Ex T lv s u s2:=by
 refine Ev.step (h:=fun f=>(o9 T f (lv+1) s).bind fun n s'=>mP T f lv n s') (fun f=>?_) (Ev.bind hn hu)
 rw[o9,if_neg h3,if_neg h7,if_neg h8]
theorem dv4(x:ByteArray):j8 x≠3∧j8 x≠7∧j8 x≤6:=by
 unfold j8
 split
 ·decide
 ·split
  ·decide
  ·split
   ·decide
   ·split
    ·decide
    ·split<;>decide
theorem fl8{lv:Nat}{n u:Tr}{s s2:PS}(h:¬(j8 (T s.p).t=lv∧(T s.p).k=3))(hu:Ops T lv n s u s2):u=n∧s2=s:=by
 have:=Ev.det hu (rY h)
 cases this
 exact⟨rfl,rfl⟩
def Fol(lv:Nat)(x:Tkn):Prop:=(x.k=3→j8 x.t≤lv∧(lv=4→j8 x.t≠4))∧¬(x.k=1∧vW x.t=true)
theorem ge6{lv lv':Nat}{x:Tkn}(h:Fol lv x)(h1:lv≤lv')(h4:lv'≠4):Fol lv' x:=⟨fun g=>⟨Nat.le_trans (h.1 g).1 h1,fun e=>absurd e h4⟩,h.2⟩
theorem gp8{s s':PS}{t:Tr}:∀(k lv lv':Nat),lv+k+1=lv'→lv'≤8→(∀j,lv≤j→j<lv'→¬(j=3∧isP T oH s=true)∧¬(j=7∧isP T sW s=true))→Ex T lv' s t s'→Fol lv (T s'.p)→∀u s2,Ops T lv t s' u s2→Ex T lv s u s2
 |0,lv,lv',e,h8,hj,hx,hF,u,s2,hu=>by
  subst e
  exact dm5 (hj lv (Nat.le_refl _) (by omega)).1 (hj lv (Nat.le_refl _) (by omega)).2 (by omega) hx hu
 |k+1,lv,lv',e,h8,hj,hx,hF,u,s2,hu=>by
  have hF1:¬(j8 (T s'.p).t=lv+1∧(T s'.p).k=3):=fun h=>by have:=hF.1 h.2;omega
  have hF':Fol (lv+1) (T s'.p):=⟨fun h=>by have:=hF.1 h;omega,hF.2⟩
  have:=gp8 (s:=s) (s':=s') (t:=t) k (lv+1) lv' (by omega) h8 (fun j h1 h2=>hj j (by omega) h2) hx hF' t s' (rY hF1)
  exact dm5 (hj lv (Nat.le_refl _) (by omega)).1 (hj lv (Nat.le_refl _) (by omega)).2 (by omega) this hu
theorem ae7{s s':PS}{t:Tr}(h:Ev (fun f=>jX T f s) (.ok t s')):Ex T 8 s t s':=by
 refine Ev.step (fun f=>?_) h
 rw[o9,if_neg (by simp),if_neg (by simp),if_pos rfl]
theorem ik5{s s1:PS}{w:ByteArray}{a:Tr}{lv:Nat}(hw:(w=oH∧lv=3)∨(w=sW∧lv=7))(hi:(T s.p).t=w)(ho:s.o<12)(ha:Ex T lv {s with p:=s.p+1,o:=s.o+1} a s1):Ex T lv s (.node 19 0 w [a]) (lI s1):=by
 have hip:isP T w s=true:=decide_eq_true hi
 refine Ev.step (h:=fun f=>fQ T f w lv s) (fun f=>?_) ?_
 ·rcases hw with⟨rfl,rfl⟩ | ⟨rfl,rfl⟩
  ·rw[o9,if_pos ⟨rfl,hip⟩]
  ·rw[o9,if_neg (by simp),if_pos ⟨rfl,hip⟩]
 ·refine Ev.step (h:=fun f=>(eG T w s).bind fun _ s1=>(o9 T f lv s1).bind fun n s2=>.ok (.node 19 0 w [n]) (lI s2)) (fun f=>by rw[fQ]) ?_
  have:eG T w s= .ok () {s with p:=s.p+1,o:=s.o+1}:=by
   unfold eG
   rw[if_pos hip,if_neg (by omega)]
  refine Ev.bind (g:=fun _=>eG T w s) (by rw[this];exact Ev.const) ?_
  exact Ev.bind ha Ev.const
theorem gw2{s s1:PS}{a:Tr}(hk:(T s.p).k=3)(hi:(T s.p).t=nG)(ho:s.o<12)(ha:Ex T 1 {s with p:=s.p+1,o:=s.o+1} a s1)(hr:(T s1.p).t=jS):Ex T 8 s a (lI (adv s1)):=by
 refine ae7 (Ev.step (h:=fun f=>(eG T nG s).bind fun _ s1=>(o9 T f 1 s1).bind fun n s2=>(y7 T jS s2).bind fun _ s3=>.ok n (lI s3)) (fun f=>?_) ?_)
 ·rw[jX,if_neg (by rw[hk];decide),if_neg (by unfold isP;rw[hi];decide),if_neg (by unfold isP;rw[hi];decide),if_neg (by unfold isP;rw[hi];decide),if_pos (by unfold isP;rw[hi];decide)]
 ·have:eG T nG s= .ok () {s with p:=s.p+1,o:=s.o+1}:=by
   unfold eG isP
   rw[hi,if_pos (by decide),if_neg (by omega)]
  refine Ev.bind (g:=fun _=>eG T nG s) (by rw[this];exact Ev.const) (Ev.bind ha ?_)
  have:y7 T jS s1= .ok () (adv s1):=by
   unfold y7 isP
   rw[hr,if_pos (by decide)]
  exact Ev.bind (g:=fun _=>y7 T jS s1) (by rw[this];exact Ev.const) Ev.const
theorem fh3{t:Tr}{x:List UInt8}{l:List Tkn}{d:Nat}(h:Pr t x l d):1≤lvT t∧lvT t≤8:=by
 have leaf:∀k n s l,k≠20→k≠19→1≤lvT (.node k n s l)∧lvT (.node k n s l)≤8:=by
  intro k n s l h1 h2
  show 1≤(if k=20 then j8 s else if k=19 then(if s=oH then 3 else 7)else 8)∧(if k=20 then j8 s else if k=19 then(if s=oH then 3 else 7)else 8)≤8
  rw[if_neg h1,if_neg h2]
  decide
 cases h with
 |un s a x l d hs _=>
  rcases hs with rfl|rfl
  ·show 1≤3∧3≤8;decide
  ·show 1≤7∧7≤8;decide
 |bin s a b x y l m d e hs _ _=>
  have:=(aq2 s hs).2
  show 1≤j8 s∧j8 s≤8
  omega
 |_=>exact leaf _ _ _ _ (by decide) (by decide)
theorem dj0{s:ByteArray}(h:bx0 s):s≠oH∧s≠sW∧s≠nG:=by
 obtain⟨_,c,l,e,h1,_⟩:=h
 refine⟨?_,?_,?_⟩<;>(rintro rfl;simp at e;obtain⟨rfl,_⟩:=e;exact absurd h1 (by decide))
theorem ew0{n:Int}(h0:0≤n):∀c l,(itS n).data.toList=c::l→48≤c.toNat∧c.toNat≤57:=by
 intro c l h
 have key:∀(k u:Nat),u<k→∀b∈Lib.decDigits u,48≤b.toNat∧b.toNat≤57:=by
  intro k
  induction k with
  |zero=>intro u h;omega
  |succ k ih=>
   intro u hu b hb
   rw[Lib.decDigits]at hb
   split at hb
   ·obtain rfl:=List.mem_singleton.1 hb
    rename_i h10
    have:(UInt8.ofNat (48+u)).toNat=48+u:=by rw[UInt8.toNat_ofNat'];omega
    omega
   ·rename_i h10
    rw[List.mem_append]at hb
    rcases hb with hb|hb
    ·exact ih (u/10) (by omega) b hb
    ·obtain rfl:=List.mem_singleton.1 hb
     have:u%10<10:=Nat.mod_lt _ (by decide)
     have:(UInt8.ofNat (48+u%10)).toNat=48+u%10:=by rw[UInt8.toNat_ofNat'];omega
     omega
 unfold itS Lib.itoa at h
 rw[if_neg (by omega)]at h
 exact key (n.toNat+1) n.toNat (by omega) c (by simp at h;rw[h];simp)
theorem yF{n:Int}(h0:0≤n):itS n≠oH∧itS n≠sW:=by
 refine⟨fun e=>?_,fun e=>?_⟩
 ·have:=ew0 h0 33 [] (by rw[e]);exact absurd this.1 (by decide)
 ·have:=ew0 h0 45 [] (by rw[e]);exact absurd this.1 (by decide)
theorem fo7 {t : Tr} {x : List UInt8} {l : List Tkn} {d : Nat} (h : Pr t x l d) : ∃ y m, l = y :: m ∧ (4 ≤ lvT t → y.t ≠ oH) ∧ (8 ≤ lvT t → y.t ≠ sW) := by
  have p1 : ∀ {lv : Nat} {a : Tr} {l : List Tkn}, (∃ y m, l = y :: m ∧ (4 ≤ lvT a → y.t ≠ oH) ∧ (8 ≤ lvT a → y.t ≠ sW)) → ∃ y m, aH lv a l = y :: m ∧ (4 ≤ lv → y.t ≠ oH) ∧ (8 ≤ lv → y.t ≠ sW) := by
    rintro lv a l ⟨y, m, rfl, h1, h2⟩
    unfold aH
    split
    · exact ⟨_, _, rfl, fun _ => by decide, fun _ => by decide⟩
    · exact ⟨_, _, rfl, fun h => h1 (by omega), fun h => h2 (by omega)⟩
  induction h with
  | lit n h0 _ => exact ⟨_, _, rfl, fun _ => (yF h0).1, fun _ => (yF h0).2⟩
  | qty n s h0 _ _ => exact ⟨_, _, rfl, fun _ => (yF h0).1, fun _ => (yF h0).2⟩
  | yes => exact ⟨_, _, rfl, fun _ => by decide, fun _ => by decide⟩
  | no => exact ⟨_, _, rfl, fun _ => by decide, fun _ => by decide⟩
  | var s _ hw => exact ⟨_, _, rfl, fun _ => (dj0 hw).1, fun _ => (dj0 hw).2.1⟩
  | tlm s _ hw => exact ⟨_, _, rfl, fun _ => by decide, fun _ => by decide⟩
  | un s a x l d hs _ _ => rcases hs with rfl | rfl
                           · exact ⟨_, _, rfl, fun h => absurd h (by show ¬ 4 ≤ 3; decide), fun h => absurd h (by show ¬ 8 ≤ 3; decide)⟩
                           · exact ⟨_, _, rfl, fun _ => by show sW ≠ oH; decide, fun h => absurd h (by show ¬ 8 ≤ 7; decide)⟩
  | bin s a b x y l m d e hs _ _ ih1 _ =>
    obtain ⟨z, k, e1, h1, h2⟩ := p1 (lv := if j8 s = 4 then 5 else j8 s) ih1
    refine ⟨z, k ++ tkY s :: aH (j8 s + 1) b m, by rw [e1]; rfl, fun h => h1 ?_, fun h => ?_⟩
    · have h : 4 ≤ j8 s := h
      split <;> omega
    · have h : 8 ≤ j8 s := h
      have := dv4 s
      omega
theorem hy4{s:ByteArray}(h:resP s=false):s≠w_true∧s≠w_false∧s≠ch7:=by
 refine⟨?_,?_,?_⟩<;>(rintro rfl;exact absurd h (by decide))
theorem pZ{s s':PS}{t:Tr}{lv:Nat}(h1:1≤lv)(h7:lv≤7)(hx:Ex T 8 s t s')(hn:(T s.p).t≠oH)(hm:(T s.p).t≠sW)(hF:Fol lv (T s'.p)):∀u s2,Ops T lv t s' u s2→Ex T lv s u s2:=
 gp8 (7-lv) lv 8 (by omega) (Nat.le_refl _) (fun j _ _=>⟨fun h=>hn (of_decide_eq_true h.2),fun h=>hm (of_decide_eq_true h.2)⟩) hx hF
theorem fy6{t:Tr}{x:List UInt8}{l:List Tkn}{d:Nat}(h:Pr t x l d):∀(s:PS) (lv:Nat),1≤lv→lv≤7→lv≤lvT t→At T s.p l→s.o+d≤12→Fol lv (T (s.p+l.length))→∀u s2,Ops T lv t (go s l.length) u s2→Ex T lv s u s2:=by
 have full:∀{a:Tr} {x:List UInt8} {m:List Tkn} {e:Nat},Pr a x m e→(∀(s:PS) (lv:Nat),1≤lv→lv≤7→lv≤lvT a→At T s.p m→s.o+e≤12→Fol lv (T (s.p+m.length))→∀u s2,Ops T lv a (go s m.length) u s2→Ex T lv s u s2)→
  ∀(s:PS) (lv:Nat),1≤lv→lv≤7→At T s.p (aH lv a m)→s.o+df3 lv a e≤12→Fol lv (T (s.p+(aH lv a m).length))→∀u s2,Ops T lv a (go s (aH lv a m).length) u s2→Ex T lv s u s2:=by
  intro a x m e hP hc s lv h1 h7 hA hd hF u s2 hu
  unfold aH at hA hF hu
  unfold df3 at hd
  by_cases hl:lvT a<lv
  ·rw[if_pos hl]at hA hF hu hd
   obtain⟨⟨k1,k2,_⟩,hA⟩:=hA
   obtain⟨hA,⟨_,k5,_⟩,_⟩:=hA.app
   have hin:Ex T 1 {s with p:=s.p+1,o:=s.o+1} a (go {s with p:=s.p+1,o:=s.o+1} m.length):=by
    have hno:¬(j8 (T (s.p+1+m.length)).t=1∧(T (s.p+1+m.length)).k=3):=by rw[k5];exact fun h=>absurd h.1 (by decide)
    refine hc {s with p:=s.p+1,o:=s.o+1} 1 (Nat.le_refl _) (by decide) (fh3 hP).1 hA (by show s.o+1+e≤12;omega) ⟨fun _=>?_,fun h=>?_⟩ a _ (rY hno)
    ·show j8 (T (s.p+1+m.length)).t≤1∧_
     rw[k5];exact⟨by decide,fun h=>absurd h (by decide)⟩
    ·have h:(T (s.p+1+m.length)).k=1∧vW (T (s.p+1+m.length)).t=true:=h
     rw[k5]at h;exact absurd h.2 (by decide)
   have hp:=gw2 k1 k2 (by omega) hin k5
   have e1:lI (adv (go {s with p:=s.p+1,o:=s.o+1} m.length))=go s (tkY nG::(m++[tkY jS])).length:=by
    simp only[lI,adv,go,List.length_cons,List.length_append,List.length_nil]
    congr 1<;>omega
   rw[e1]at hp
   exact pZ h1 h7 hp (by rw[k2];decide) (by rw[k2];decide) hF u s2 hu
  ·rw[if_neg hl]at hA hF hu hd
   exact hc s lv h1 h7 (by omega) hA hd hF u s2 hu
 have lit0:∀(s:PS) (n:Int),(T s.p).k=2→(T s.p).n=n→0≤n→n≤2147483647→tB T 0 2147483647 s= .ok n (adv s):=by
  intro s n k1 k2 h0 h1
  unfold tB
  rw[k1,k2,if_neg (by decide),if_neg (by omega)]
 induction h with
 |lit n h0 h1=>
  intro s lv g1 g7 _ hA hd hF
  obtain⟨⟨k1,k2,k3⟩,_⟩:=hA
  have k1:(T s.p).k=2:=k1
  refine pZ g1 g7 (ae7 ?_) (by rw[k2];exact(yF h0).1) (by rw[k2];exact(yF h0).2) hF
  refine Ev.step (h:=fun _=>tA T s) (fun f=>by rw[jX,if_pos k1]) ?_
  have:tA T s= .ok (.node 15 n ⟨#[]⟩ []) (go s 1):=by
   unfold tA
   rw[lit0 s n k1 k3 h0 h1]
   exact if_neg hF.2
  rw[this];exact Ev.const
 |qty n y h0 h1 hy=>
  intro s lv g1 g7 _ hA hd hF
  obtain⟨⟨k1,k2,k3⟩,⟨k4,k5,_⟩,_⟩:=hA
  have k1:(T s.p).k=2:=k1
  have k4:(T (s.p+1)).k=1:=k4
  have k5:(T (s.p+1)).t=y:=k5
  refine pZ g1 g7 (ae7 ?_) (by rw[k2];exact(yF h0).1) (by rw[k2];exact(yF h0).2) hF
  refine Ev.step (h:=fun _=>tA T s) (fun f=>by rw[jX,if_pos k1]) ?_
  have:tA T s= .ok (.node 15 n y []) (go s 2):=by
   unfold tA
   rw[lit0 s n k1 k3 h0 h1]
   show(if(T (s.p+1)).k=1∧vW (T (s.p+1)).t=true then PR.ok (Tr.node 15 n (T (s.p+1)).t []) (adv (adv s))else _)=_
   rw[k5,if_pos ⟨k4,inP_iff.2 hy⟩]
   rfl
  rw[this];exact Ev.const
 |yes=>
  intro s lv g1 g7 _ hA hd hF
  obtain⟨⟨k1,k2,k3⟩,_⟩:=hA
  refine pZ g1 g7 (ae7 ?_) (by rw[k2];decide) (by rw[k2];decide) hF
  refine Ev.step (h:=fun _=>.ok (.node 16 1 ⟨#[]⟩ []) (adv s)) (fun f=>?_) Ev.const
  rw[jX,if_neg (by rw[k1];decide),if_pos (by unfold isP;rw[k2];decide)]
 |no=>
  intro s lv g1 g7 _ hA hd hF
  obtain⟨⟨k1,k2,k3⟩,_⟩:=hA
  refine pZ g1 g7 (ae7 ?_) (by rw[k2];decide) (by rw[k2];decide) hF
  refine Ev.step (h:=fun _=>.ok (.node 16 0 ⟨#[]⟩ []) (adv s)) (fun f=>?_) Ev.const
  rw[jX,if_neg (by rw[k1];decide),if_neg (by unfold isP;rw[k2];decide),if_pos (by unfold isP;rw[k2];decide)]
 |var y hr hw=>
  intro s lv g1 g7 _ hA hd hF
  obtain⟨⟨k1,k2,k3⟩,_⟩:=hA
  have k1:(T s.p).k=1:=k1
  have k2:(T s.p).t=y:=k2
  obtain⟨r1,r2,r3⟩:=hy4 hr
  obtain⟨w1,w2,w3⟩:=dj0 hw
  refine pZ g1 g7 (ae7 ?_) (by rw[k2];exact w1) (by rw[k2];exact w2) hF
  refine Ev.step (h:=fun _=>.ok (.node 17 0 y []) (adv s)) (fun f=>?_) Ev.const
  have hn:fD T s= .ok y (adv s):=by
   unfold fD
   rw[k1,k2,hr,if_neg (by decide)]
  rw[jX,if_neg (by rw[k1];decide),if_neg (by unfold isP;rw[k2];simpa using r1),if_neg (by unfold isP;rw[k2];simpa using r2),if_neg (by unfold isP;rw[k2];simpa using r3),if_neg (by unfold isP;rw[k2];simpa using w3),hn]
  rfl
 |tlm y hr hw=>
  intro s lv g1 g7 _ hA hd hF
  obtain⟨⟨k1,k2,k3⟩,⟨k4,k5,k6⟩,⟨k7,k8,k9⟩,_⟩:=hA
  have k7:(T (s.p+1+1)).k=1:=k7
  have k8:(T (s.p+1+1)).t=y:=k8
  have k5:(T (s.p+1)).t=eo6:=k5
  refine pZ g1 g7 (ae7 ?_) (by rw[k2];decide) (by rw[k2];decide) hF
  refine Ev.step (h:=fun _=>.ok (.node 18 0 y []) (go s 3)) (fun f=>?_) Ev.const
  have hm:y7 T eo6 (adv s)= .ok () (adv (adv s)):=by
   unfold y7
   exact if_pos (decide_eq_true k5)
  have hn:fD T (adv (adv s))= .ok y (adv (adv (adv s))):=by
   unfold fD
   show(if(T (s.p+1+1)).k≠1∨resP (T (s.p+1+1)).t=true then PR.err _ 11 else PR.ok (T (s.p+1+1)).t _)=_
   rw[k7,k8,hr,if_neg (by decide)]
  rw[jX,if_neg (by rw[k1];decide),if_neg (by unfold isP;rw[k2];decide),if_neg (by unfold isP;rw[k2];decide),if_pos (by unfold isP;rw[k2];decide),hm]
  show(fD T (adv (adv s))).bind _=_
  rw[hn]
  rfl
 |un y a x l d hs hP ih=>
  intro s lv g1 g7 gl hA hd hF u s2 hu
  obtain⟨⟨k1,k2,k3⟩,hA⟩:=hA
  have k2:(T s.p).t=y:=k2
  generalize hL:lvT (.node 19 0 y [a])=L at*
  have hcase:(y=oH∧L=3)∨(y=sW∧L=7):=by
   rcases hs with rfl|rfl
   ·exact .inl ⟨rfl,hL.symm⟩
   ·exact .inr ⟨rfl,hL.symm⟩
  have hL37:L=3∨L=7:=by omega
  have hFp:T (s.p+(tkY y::aH L a l).length)=T (s.p+1+(aH L a l).length):=by rw[List.length_cons,show s.p+((aH L a l).length+1)=s.p+1+(aH L a l).length by omega]
  rw[hFp]at hF
  have hno:∀p,¬(j8 (T p).t=L∧(T p).k=3):=fun p h=>by have:=dv4 (T p).t;omega
  have ha:=full hP ih {s with p:=s.p+1,o:=s.o+1} L (by omega) (by omega) hA (by show s.o+1+df3 L a d≤12;omega) (ge6 hF (by omega) (by omega)) a _ (rY (hno _))
  have hx:=ik5 hcase k2 (by omega) ha
  have e1:lI (go {s with p:=s.p+1,o:=s.o+1} (aH L a l).length)=go s (tkY y::aH L a l).length:=by
   simp only[lI,go,List.length_cons]
   congr 1<;>omega
  rw[e1]at hx
  rcases Nat.lt_or_ge lv L with hlt|hge
  ·refine gp8 (L-lv-1) lv L (by omega) (by omega) (fun j j1 j2=>⟨fun h=>?_,fun h=>by omega⟩) hx (by show Fol lv (T (s.p+(tkY y::aH L a l).length));rw[hFp];exact hF) u s2 hu
   have:=of_decide_eq_true h.2
   rw[k2]at this
   rcases hcase with⟨rfl,rfl⟩ | ⟨rfl,rfl⟩
   ·omega
   ·exact absurd this (by decide)
  ·obtain rfl:lv=L:=by omega
   obtain⟨rfl,rfl⟩:=fl8 (hno _) hu
   exact hx
 |bin y a b x1 x2 l m d e hs hP1 hP2 ih1 ih2=>
  intro s lv g1 g7 gl hA hd hF u s2 hu
  have gl:lv≤j8 y:=gl
  obtain⟨hA1,⟨k1,k2,k3⟩,hA2⟩:=hA.app
  have k2:(T (s.p+(aH (if j8 y=4 then 5 else j8 y) a l).length)).t=y:=k2
  have hL:=(aq2 y hs).2
  generalize hla:(if j8 y=4 then 5 else j8 y)=la at*
  generalize hLe:j8 y=L at*
  have hlen:∀p,p+(aH la a l++tkY y::aH (L+1) b m).length=p+(aH la a l).length+1+(aH (L+1) b m).length:=by intro p;rw[List.length_append,List.length_cons];omega
  rw[hlen]at hF
  have hst:j8 (T (go s (aH la a l).length).p).t=L∧(T (go s (aH la a l).length).p).k=3:=⟨by show j8 (T (s.p+(aH la a l).length)).t=L;rw[k2];exact hLe,k1⟩
  have hFb:∀j,lv<j→¬(j8 (T (s.p+(aH la a l).length+1+(aH (L+1) b m).length)).t=j∧(T (s.p+(aH la a l).length+1+(aH (L+1) b m).length)).k=3):=fun j hj h=>by have:=hF.1 h.2;omega
  have hb:=full hP2 ih2 (adv (go s (aH la a l).length)) (L+1) (by omega) (by omega) hA2 (by show s.o+df3 (L+1) b e≤12;omega) (ge6 hF (by omega) (by omega)) b _ (rY (hFb (L+1) (by omega)))
  have he:go (adv (go s (aH la a l).length)) (aH (L+1) b m).length=go s (aH la a l++tkY y::aH (L+1) b m).length:=by
   simp only[adv,go]
   congr 1
   rw[hlen]
  rw[he]at hb
  have hfirst:4≤la→isP T oH s=false:=by
   intro h4
   obtain⟨z,k,e1,f1,_⟩:=fo7 hP1
   unfold isP
   have:(T s.p).t≠oH:=by
    unfold aH at hA1
    split at hA1
    ·rw[hA1.1.2.1];decide
    ·rename_i hge
     rw[e1]at hA1
     rw[hA1.1.2.1];exact f1 (by omega)
   simpa using this
  have hjs:∀j,lv≤j→j<L→¬(j=3∧isP T oH s=true)∧¬(j=7∧isP T sW s=true):=by
   intro j h1 h2
   refine⟨fun h=>?_,fun h=>by omega⟩
   rw[hfirst (by rw[←hla];split<;>omega)]at h
   exact absurd h.2 (by decide)
  have hFe:T (go s (aH la a l++tkY y::aH (L+1) b m).length).p=T (s.p+(aH la a l).length+1+(aH (L+1) b m).length):=by show T (s.p+_)=_;rw[hlen]
  by_cases h4:L=4
  ·subst h4
   rw[if_pos rfl]at hla
   subst hla
   have ha:=full hP1 ih1 s 5 (by omega) (by omega) hA1 (by omega) ⟨fun _=>⟨by rw[show j8 (T (s.p+(aH 5 a l).length)).t=4 from hst.1];decide,fun h=>absurd h (by decide)⟩,fun h=>by rw[show(T (s.p+(aH 5 a l).length)).k=3 from hst.2]at h;exact absurd h.1 (by decide)⟩ a _ (rY (fun h=>by rw[hst.1]at h;exact absurd h.1 (by decide)))
   have hc:=hl4 (n:=a) hst hb
   rw[show(T (go s (aH 5 a l).length).p).t=y from k2]at hc
   have hx:=dm5 (fun h=>absurd h.1 (by decide)) (fun h=>absurd h.1 (by decide)) (by decide) ha hc
   rcases Nat.lt_or_ge lv 4 with hlt|hge
   ·exact gp8 (4-lv-1) lv 4 (by omega) (by omega) hjs hx (by rw[hFe];exact hF) u s2 hu
   ·obtain rfl:lv=4:=by omega
    have hno:¬(j8 (T (go s (aH 5 a l++tkY y::aH (4+1) b m).length).p).t=4∧(T (go s (aH 5 a l++tkY y::aH (4+1) b m).length).p).k=3):=by
     rw[hFe]
     exact fun h=>absurd h.1 ((hF.1 h.2).2 rfl)
    obtain⟨rfl,rfl⟩:=fl8 hno hu
    exact hx
  ·rw[if_neg h4]at hla
   subst hla
   have hF0:Fol L (T (s.p+(aH L a l).length)):=⟨fun _=>⟨by rw[show j8 (T (s.p+(aH L a l).length)).t=L from hst.1];exact Nat.le_refl _,fun h=>absurd h h4⟩,fun h=>by rw[show(T (s.p+(aH L a l).length)).k=3 from hst.2]at h;exact absurd h.1 (by decide)⟩
   have key:∀u s2,Ops T L (.node 20 0 y [a,b]) (go s (aH L a l++tkY y::aH (L+1) b m).length) u s2→Ex T L s u s2:=by
    intro u s2 hu
    refine full hP1 ih1 s L (by omega) (by omega) hA1 (by omega) hF0 u s2 (hy3 hst h4 hb ?_)
    rw[show(T (go s (aH L a l).length).p).t=y from k2]
    exact hu
   rcases Nat.lt_or_ge lv L with hlt|hge
   ·exact gp8 (L-lv-1) lv L (by omega) (by omega) hjs (key _ _ (rY (by rw[hFe];exact hFb L hlt))) (by rw[hFe];exact hF) u s2 hu
   ·obtain rfl:lv=L:=by omega
    exact key u s2 hu
end
end Go.Proofs.Lx
/- Plain: sources joined, moved, cut. -/
namespace Go.Proofs.Lx
open Go
theorem eD(s:ByteArray):s.data.toList.length=s.size:=by rw[Array.length_toList];rfl
end Go.Proofs.Lx
/- Plain: tokens joined by spaces are the same tokens. -/
namespace Go.Proofs.Lx
open Go
def hp4(x y:Tkn):Prop:=x.k=y.k∧x.t=y.t∧x.n=y.n
inductive Same3:List Tkn→List Tkn→Prop where
 |nil:Same3 [] []
 |cons {x y:Tkn} {l m:List Tkn}:hp4 x y→Same3 l m→Same3 (x::l) (y::m)
theorem Same3.len{l m:List Tkn}(h:Same3 l m):l.length=m.length:=by
 induction h with
 |nil=>rfl
 |cons _ _ ih=>simp[ih]
theorem Same3.get{l m:List Tkn}(h:Same3 l m):∀(i:Nat) (hi:i<l.length) (hj:i<m.length),hp4 l[i] m[i]:=by
 induction h with
 |nil=>intro i hi;simp at hi
 |cons h1 _ ih=>
  intro i hi hj
  cases i with
  |zero=>exact h1
  |succ i=>exact ih i (by simpa using hi) (by simpa using hj)
end Go.Proofs.Lx
/- Plain: the text of an expression has its tokens. -/
namespace Go.Proofs.Lx
open Go Go.Proofs.YtjfkkokeegpeiaaGreatDoor
set_option maxRecDepth 100000
inductive Ls:List UInt8→List Tkn→Prop
 |nil:Ls [] []
 |white {c:UInt8} {r:List UInt8} {l:List Tkn}:bD c.toNat=true→Ls r l→Ls (c::r) l
 |tok {r:List UInt8} {l:List Tkn} {x:Tkn}:r≠[]→bD (r.headD 0).toNat=false→(r.headD 0).toNat≠35→gm3 r=(x,0)→Ls (r.drop x.t.size) l→Ls r (x::l)
theorem jc5{r:List UInt8}{l:List Tkn}(h:Ls r l):∀(s:ByteArray) (p:Nat) (acc:List Tkn),s.data.toList.drop p=r→∃ts,Lex s p acc (acc++ts++[⟨0,s.size,⟨#[]⟩,0⟩],0,0)∧Same3 ts l:=by
 have hlt:∀(s:ByteArray) (p:Nat),s.data.toList.drop p≠[]→p<s.size:=by
  intro s p h
  rcases Nat.lt_or_ge p s.size with h'|h'
  ·exact h'
  ·rw[←eD]at h'
   exact absurd (List.drop_eq_nil_of_le h') h
 induction h with
 |nil=>
  intro s p acc e
  have:s.size≤p:=by rw[←eD];exact List.drop_eq_nil_iff.1 e
  exact⟨[],by rw[List.append_nil];exact .fin this,.nil⟩
 | @white c r l hw _ ih=>
  intro s p acc e
  have hp:p<s.size:=hlt s p (by rw[e];simp)
  have h1:=iS s p hp
  rw[e]at h1
  obtain⟨e1,e2⟩:=List.cons.inj h1
  obtain⟨ts,h2,h3⟩:=ih s (p+1) acc e2.symm
  exact⟨ts,.white hp (by rw[←e1];exact hw) h2,h3⟩
 | @tok r l x hr hw hh ht _ ih=>
  intro s p acc e
  have hp:p<s.size:=hlt s p (by rw[e];exact hr)
  have hg:=iz3 hp
  rw[e]at hg
  obtain⟨ts,h2,h3⟩:=ih s (p+x.t.size) (acc++[{x with a:=p}]) (by rw[←e,List.drop_drop])
  refine⟨{x with a:=p}::ts,?_,.cons ⟨rfl,rfl,rfl⟩ h3⟩
  have:acc++{x with a:=p}::ts=acc++[{x with a:=p}]++ts:=by simp
  rw[this]
  exact .tok hp (by rw[hg];exact hw) (by rw[hg];exact hh) (by rw[jc4 hp,e];exact ht) h2
theorem ix8{s:ByteArray}{l:List Tkn}(h:Ls s.data.toList l)(hs:s.size≤4000):∃ts,fN s (ts++[⟨0,s.size,⟨#[]⟩,0⟩],0,0)∧Same3 ts l:=by
 obtain⟨ts,h1,h2⟩:=jc5 h s 0 [] rfl
 exact⟨ts,.inr ⟨hs,by simpa using h1⟩,h2⟩
def Sep(r:List UInt8):Prop:=∀c,r.head? =some c→aE c.toNat=false
def ec8(r:List UInt8):Prop:=∀c,r.head? =some c→c≠61
theorem ab2{g:Int→Bool}{l r:List UInt8}(hl:∀b∈l,g b.toNat=true)(hr:∀c,r.head? =some c→g c.toNat=false):j6 g (l++r)=l.length:=by
 induction l with
 |nil=>cases r with
  |nil=>rfl
  |cons c r=>simp[j6,hr c rfl]
 |cons b l ih=>
  have e2:∀m,j6 g (b::m)=j6 g m+1:=fun m=>by simp[j6,hl b (by simp)]
  rw[List.cons_append,e2,ih fun b hb=>hl b (by simp[hb])]
  rfl
theorem jU(s:ByteArray):mkB s.data.toList=s:=aB (m4 _)
theorem aw9{s:ByteArray}{r:List UInt8}{m:List Tkn}(hs:bx0 s)(hr:Sep r)(h:Ls r m):Ls (s.data.toList++r) (tkW s::m):=by
 obtain⟨h12,c,l,e,hc,hw⟩:=hs
 have hsp:j6 aE (s.data.toList++r)=s.data.toList.length:=ab2 (by rw[e];exact hw) hr
 have hhd:(s.data.toList++r).headD 0=c:=by rw[e];rfl
 have hcw:bD c.toNat=false∧c.toNat≠35:=by
  simp only[p8,Bool.or_eq_true,decide_eq_true_eq]at hc
  simp only[bD,decide_eq_false_iff_not]
  omega
 refine .tok (by rw[e];simp) (by rw[hhd];exact hcw.1) (by rw[hhd];exact hcw.2) (x:=tkW s) ?_ ?_
 ·unfold gm3
  rw[hhd,if_pos hc,hsp,if_neg (by rw[eD];omega),List.take_left,jU]
  rfl
 ·show Ls ((s.data.toList++r).drop s.size) m
  rw[←eD,List.drop_left]
  exact h
theorem vB(u:Nat):(∀b∈Lib.decDigits u,l6 b.toNat=true)∧Lib.decDigits u≠[]∧bc0 0 (Lib.decDigits u)=(u:Int)∧(1≤u→∀c l,Lib.decDigits u=c::l→c≠48):=by
 induction u using Nat.strongRecOn with
 |_ u ih=>
  rw[Lib.decDigits]
  split
  ·rename_i h10
   have hb:(UInt8.ofNat (48+u)).toNat=48+u:=by rw[UInt8.toNat_ofNat'];omega
   refine⟨?_,by simp,?_,?_⟩
   ·intro b h
    obtain rfl:=List.mem_singleton.1 h
    rw[hb];simp only[l6,decide_eq_true_eq];omega
   ·show 10*(0:Int)+(((UInt8.ofNat (48+u)).toNat:Int)-48)=u
    rw[hb];omega
   ·intro h1 c l e
    obtain⟨rfl,_⟩:=List.cons.inj e
    intro e
    have:=congrArg UInt8.toNat e
    rw[hb]at this
    have:48+u=48:=this
    omega
  ·rename_i h10
   obtain⟨i1,i2,i3,i4⟩:=ih (u/10) (by omega)
   have hm:u%10<10:=Nat.mod_lt _ (by decide)
   have hb:(UInt8.ofNat (48+u%10)).toNat=48+u%10:=by rw[UInt8.toNat_ofNat'];omega
   refine⟨?_,by simp,?_,?_⟩
   ·intro b h
    rcases List.mem_append.1 h with h|h
    ·exact i1 b h
    ·obtain rfl:=List.mem_singleton.1 h
     rw[hb];simp only[l6,decide_eq_true_eq];omega
   ·unfold bc0 at i3⊢
    rw[List.foldl_append,i3]
    show 10*((u/10:Nat):Int)+(((UInt8.ofNat (48+u%10)).toNat:Int)-48)=u
    rw[hb];omega
   ·intro _ c l e
    cases hd:Lib.decDigits (u/10)with
    |nil=>exact absurd hd i2
    |cons c' l'=>
     rw[hd]at e
     obtain⟨rfl,_⟩:=List.cons.inj e
     exact i4 (by omega) c' l' hd
theorem sA{n:Int}(h0:0≤n):(itS n).data.toList=Lib.decDigits n.toNat:=by
 unfold itS Lib.itoa
 rw[if_neg (by omega)]
theorem gu8{n:Int}{r:List UInt8}{m:List Tkn}(h0:0≤n)(h1:n≤2147483647)(hr:Sep r)(h:Ls r m):Ls ((itS n).data.toList++r) (tkN n::m):=by
 obtain⟨d1,d2,d3,d4⟩:=vB n.toNat
 have e:=sA h0
 have hsep:∀c,r.head? =some c→l6 c.toNat=false:=by
  intro c hc
  have:=hr c hc
  simp only[aE,Bool.or_eq_false_iff]at this
  exact this.2
 have hsp:j6 l6 ((itS n).data.toList++r)=(itS n).data.toList.length:=ab2 (by rw[e];exact d1) hsep
 cases hd:Lib.decDigits n.toNat with
 |nil=>exact absurd hd d2
 |cons c l=>
  have hhd:((itS n).data.toList++r).headD 0=c:=by rw[e,hd];rfl
  have hc:=d1 c (by rw[hd];simp)
  have hcw:bD c.toNat=false∧c.toNat≠35∧p8 c.toNat=false:=by
   simp only[l6,decide_eq_true_eq]at hc
   simp only[bD,p8,decide_eq_false_iff_not,Bool.or_eq_false_iff]
   omega
  refine .tok (by rw[e,hd];simp) (by rw[hhd];exact hcw.1) (by rw[hhd];exact hcw.2.1) (x:=tkN n) ?_ ?_
  ·unfold gm3
   rw[hhd,if_neg (by rw[hcw.2.2];decide),if_pos hc,hsp,List.take_left]
   unfold ig1
   have hv:bc0 0 (itS n).data.toList=n:=by rw[e,d3];omega
   rw[hv,if_neg,if_neg (by omega),jU]
   ·rfl
   ·rintro⟨g1,g2⟩
    rw[e,hd]at g1 g2
    simp at g2
    rcases Nat.lt_or_ge n.toNat 1 with h'|h'
    ·have:n.toNat=0:=by omega
     rw[this,Lib.decDigits,dif_pos (by decide)]at hd
     obtain⟨_,rfl⟩:=List.cons.inj hd
     simp at g1
    ·exact d4 h' c l hd g2
  ·show Ls (((itS n).data.toList++r).drop (itS n).size) m
   rw[←eD,List.drop_left]
   exact h
theorem gc5:∀c∈sym1,bD c.toNat=false∧c.toNat≠35∧p8 c.toNat=false∧l6 c.toNat=false:=by decide
theorem ey6:∀x∈aj1,x.length=2∧bD (x.headD 0).toNat=false∧(x.headD 0).toNat≠35∧p8 (x.headD 0).toNat=false∧l6 (x.headD 0).toNat=false:=by decide
theorem hj9:∀x∈aj1,x.headD 0∈sym1→x=[x.headD 0,61]:=by decide
theorem wF{c:UInt8}{r:List UInt8}{m:List Tkn}(hc:c∈sym1)(hr:ec8 r)(h:Ls r m):Ls (c::r) (tkY (mkB [c])::m):=by
 obtain⟨f1,f2,f3,f4⟩:=gc5 c hc
 have hN:ac8 (c::r)=1:=by
  unfold ac8
  rw[if_neg,List.head?_cons,Option.any_some]
  ·have:sym1.contains c=true:=by simpa using hc
   rw[this];rfl
  ·rintro⟨_,hm⟩
   have:=hj9 _ hm (by cases r<;>exact hc)
   cases r with
   |nil=>simp at this
   |cons d r=>
    simp at this
    exact hr d rfl this
 refine .tok (by simp) f1 f2 (x:=tkY (mkB [c])) ?_ ?_
 ·unfold gm3
  rw[List.headD_cons,if_neg (by rw[f3];decide),if_neg (by rw[f4];decide),hN,if_neg (by decide)]
  rfl
 ·exact h
theorem bn2{a b:UInt8}{r:List UInt8}{m:List Tkn}(hc:[a,b]∈aj1)(h:Ls r m):Ls (a::b::r) (tkY (mkB [a,b])::m):=by
 obtain⟨_,f1,f2,f3,f4⟩:=ey6 _ hc
 have hN:ac8 (a::b::r)=2:=by
  unfold ac8
  rw[if_pos]
  exact⟨by simp,hc⟩
 refine .tok (by simp) f1 f2 (x:=tkY (mkB [a,b])) ?_ ?_
 ·unfold gm3
  rw[List.headD_cons,if_neg (by simp only[List.headD_cons]at f3;rw[f3];decide),if_neg (by simp only[List.headD_cons]at f4;rw[f4];decide),hN,if_neg (by decide)]
  rfl
 ·exact h
theorem dO{r:List UInt8}{m:List Tkn}(h:Ls r m):Ls (32::r) m:=.white (by decide) h
theorem bk7{c:UInt8}{r:List UInt8}(h:aE c.toNat=false):Sep (c::r):=by intro d hd;cases hd;exact h
theorem au5{c:UInt8}{r:List UInt8}(h:c≠61):ec8 (c::r):=by intro d hd;cases hd;exact h
theorem if7{s:ByteArray}(hs:s∈cs5){r:List UInt8}{m:List Tkn}(h:Ls r m):Ls (32::(s.data.toList++32::r)) (tkY s::m):=by
 have h2:=dO h
 have hn:ec8 (32::r):=au5 (by decide)
 simp only[cs5,List.mem_cons,List.not_mem_nil,or_false]at hs
 rcases hs with rfl|rfl|rfl|rfl|rfl|rfl|rfl|rfl|rfl|rfl|rfl|rfl
 ·exact dO (bn2 (by decide) h2)
 ·exact dO (bn2 (by decide) h2)
 ·exact dO (wF (by decide) hn h2)
 ·exact dO (bn2 (by decide) h2)
 ·exact dO (wF (by decide) hn h2)
 ·exact dO (bn2 (by decide) h2)
 ·exact dO (bn2 (by decide) h2)
 ·exact dO (bn2 (by decide) h2)
 ·exact dO (wF (by decide) hn h2)
 ·exact dO (wF (by decide) hn h2)
 ·exact dO (wF (by decide) hn h2)
 ·exact dO (wF (by decide) hn h2)
def Hd(x:List UInt8):Prop:=∃c r,x=c::r∧c≠61
theorem go7{lv:Nat}{t:Tr}{x:List UInt8}(h:Hd x):Hd (dg4 lv t x):=by
 unfold dg4
 split
 ·exact⟨_,_,rfl,by decide⟩
 ·exact h
theorem ce3{x y:List UInt8}(h:Hd x):Hd (x++y):=by
 obtain⟨c,r,rfl,h⟩:=h
 exact⟨c,r++y,rfl,h⟩
theorem do9{x:List UInt8}(h:Hd x):ec8 x:=by
 obtain⟨c,r,rfl,h⟩:=h
 exact au5 h
theorem gn5{n:Int}(h0:0≤n):Hd (itS n).data.toList:=by
 cases e:(itS n).data.toList with
 |nil=>
  rw[sA h0]at e
  exact absurd e (vB _).2.1
 |cons c l=>
  have:=ew0 h0 c l e
  exact⟨c,l,rfl,by rintro rfl;exact absurd this.2 (by decide)⟩
theorem fi4{s:ByteArray}(h:bx0 s):Hd s.data.toList:=by
 obtain⟨_,c,l,e,h1,_⟩:=h
 exact⟨c,l,e,by rintro rfl;exact absurd h1 (by decide)⟩
theorem ep6:∀s∈ad0,bx0 s:=by
 intro s hs
 have:∀s∈ad0,s.size≤12∧(s.data.toList.headD 0::s.data.toList.tail=s.data.toList)∧p8 (s.data.toList.headD 0).toNat=true∧∀b∈s.data.toList,aE b.toNat=true:=by decide
 obtain⟨h1,h2,h3,h4⟩:=this s hs
 exact⟨h1,_,_,h2.symm,h3,by rw[h2];exact h4⟩
theorem ar1:∀s∈keywords,bx0 s:=by
 intro s hs
 have:∀s∈keywords,s.size≤12∧(s.data.toList.headD 0::s.data.toList.tail=s.data.toList)∧p8 (s.data.toList.headD 0).toNat=true∧∀b∈s.data.toList,aE b.toNat=true:=by decide
 obtain⟨h1,h2,h3,h4⟩:=this s hs
 exact⟨h1,_,_,h2.symm,h3,by rw[h2];exact h4⟩
theorem bh7 {t : Tr} {x : List UInt8} {l : List Tkn} {d : Nat} (h : Pr t x l d) : Hd x := by
  induction h with
  | lit n h0 _ => exact gn5 h0
  | qty n s h0 _ _ => exact ce3 (gn5 h0)
  | yes => exact ⟨_, _, rfl, by decide⟩
  | no => exact ⟨_, _, rfl, by decide⟩
  | var s _ hw => exact fi4 hw
  | tlm s _ _ => exact ⟨_, _, rfl, by decide⟩
  | un s a x l d hs _ _ => rcases hs with rfl | rfl
                           · exact ⟨33, _, rfl, by decide⟩
                           · exact ⟨45, _, rfl, by decide⟩
  | bin s a b x y l m d e hs _ _ ih1 _ => exact ce3 (go7 ih1)
theorem ia2{t:Tr}{x:List UInt8}{l:List Tkn}{d:Nat}(h:Pr t x l d):∀(r:List UInt8) (m:List Tkn),Sep r→(ec8 r)→Ls r m→Ls (x++r) (l++m):=by
 have hp:∀{lv:Nat} {a:Tr} {x:List UInt8} {l:List Tkn},Hd x→(∀(r:List UInt8) (m:List Tkn),Sep r→(ec8 r)→Ls r m→Ls (x++r) (l++m))→∀(r:List UInt8) (m:List Tkn),Sep r→(ec8 r)→Ls r m→Ls (dg4 lv a x++r) (aH lv a l++m):=by
  intro lv a x l hx ih r m hr hq h
  unfold dg4 aH
  split
  ·have h1:Ls (41::r) (tkY jS::m):=wF (by decide) hq h
   have h2:=ih _ _ (bk7 (by decide)) (au5 (by decide)) h1
   have h3:Ls (40::(x++41::r)) (tkY nG::(l++tkY jS::m)):=wF (by decide) (do9 (ce3 hx)) h2
   simpa using h3
  ·exact ih r m hr hq h
 induction h with
 |lit n h0 h1=>intro r m hr hq h;exact gu8 h0 h1 hr h
 |qty n s h0 h1 hs=>
  intro r m hr hq h
  have:=gu8 h0 h1 (bk7 (by decide)) (dO (aw9 (ep6 s hs) hr h))
  simpa using this
 |yes=>intro r m hr hq h;exact aw9 (ar1 _ (inP_iff.1 (by decide))) hr h
 |no=>intro r m hr hq h;exact aw9 (ar1 _ (inP_iff.1 (by decide))) hr h
 |var s _ hw=>intro r m hr hq h;exact aw9 hw hr h
 |tlm s _ hw=>
  intro r m hr hq h
  have h1:Ls (46::(s.data.toList++r)) (tkY eo6::tkW s::m):=wF (by decide) (do9 (ce3 (fi4 hw))) (aw9 hw hr h)
  exact aw9 (s:=ch7) (ar1 _ (inP_iff.1 (by decide))) (bk7 (by decide)) h1
 |un s a x l d hs ha ih=>
  intro r m hr hq h
  have h1:=hp (lv:=lvT (.node 19 0 s [a])) (a:=a) (bh7 ha) ih r m hr hq h
  have h2:=do9 (ce3 (y:=r) (go7 (lv:=lvT (.node 19 0 s [a])) (t:=a) (bh7 ha)))
  rcases hs with rfl|rfl
  ·exact wF (c:=33) (by decide) h2 h1
  ·exact wF (c:=45) (by decide) h2 h1
 |bin s a b x y l m d e hs ha hb ih1 ih2=>
  intro r k hr hq h
  have h1:=hp (lv:=j8 s+1) (a:=b) (bh7 hb) ih2 r k hr hq h
  have h2:=hp (lv:=if j8 s=4 then 5 else j8 s) (a:=a) (bh7 ha) ih1 _ _ (bk7 (by decide)) (au5 (by decide)) (if7 hs h1)
  simpa using h2
end Go.Proofs.Lx
/- Plain: the parser looks at no token behind those that it takes, but for one; tokens that are moved, or of which only the offsets differ, are parsed alike; more fuel does no harm. -/
namespace Go.Proofs.Lx
open Go
structure Eq3(x y:Tkn):Prop where
 k:x.k=y.k
 t:x.t=y.t
 n:x.n=y.n
def PS.up(d:Nat)(s:PS):PS:={s with p:=d+s.p}
def PR.up{α:Type}(d:Nat):PR α→PR α
 | .ok x s=>.ok x (s.up d)
 | .err p c=>.err (d+p) c
 | .out=>.out
def Ee{α:Type}(b:Nat):PR α→Nat
 | .ok _ s=>s.p+b
 | .err p _=>p+1
 | .out=>0
structure Lc{α:Type}(b d e p:Nat)(f g:PR α):Prop where
 gr:f≠ .out→p<Ee b f
 eq:f≠ .out→Ee b f≤e→g=f.up d
variable {α β:Type} {b b' d e p:Nat}
theorem Lc.out{g:PR α}:Lc b d e p (.out:PR α) g:=⟨fun h=>absurd rfl h,fun h=>absurd rfl h⟩
theorem Lc.err{q:Nat}{c:Int}(h:p≤q):Lc b d e p (.err q c:PR α) (.err (d+q) c):=⟨fun _=>Nat.lt_succ_of_le h,fun _ _=>rfl⟩
theorem Lc.ok0{x:α}{s:PS}(h:p<s.p):Lc 0 d e p (.ok x s) (.ok x (s.up d)):=⟨fun _=>h,fun _ _=>rfl⟩
theorem Lc.ok1{x:α}{s:PS}(h:p≤s.p):Lc 1 d e p (.ok x s) (.ok x (s.up d)):=⟨fun _=>Nat.lt_succ_of_le h,fun _ _=>rfl⟩
theorem Lc.one{f g:PR α}(h:Lc 0 d e p f g):Lc 1 d e p f g:=by
 refine⟨fun h0=>?_,fun h0 h1=>h.eq h0 ?_⟩
 ·have:=h.gr h0;cases f<;>simp only[Ee]at this⊢ <;>omega
 ·cases f<;>simp only[Ee]at h1⊢ <;>omega
theorem Lc.le{p':Nat}{f g:PR α}(h:Lc b d e p' f g)(hp:p≤p'):Lc b d e p f g:=⟨fun h0=>Nat.lt_of_le_of_lt hp (h.gr h0),h.eq⟩
theorem Lc.sub{f g g':PR α}(h:Lc b d e p f g')(hg:p<e→g=g'):Lc b d e p f g:=⟨h.gr,fun h0 h1=>(hg (Nat.lt_of_lt_of_le (h.gr h0) h1)).trans (h.eq h0 h1)⟩
theorem Lc.ite{c c':Prop}[Decidable c][Decidable c']{f g f' g':PR α}(hc:p<e→(c'↔c))(h1:c→Lc b d e p f g)(h2:¬c→Lc b d e p f' g'):Lc b d e p (if c then f else f') (if c' then g else g'):=by
 by_cases h:c
 ·rw[if_pos h]
  exact(h1 h).sub fun hp=>if_pos ((hc hp).2 h)
 ·rw[if_neg h]
  exact(h2 h).sub fun hp=>if_neg fun h'=>h ((hc hp).1 h')
theorem Lc.bind{r r':PR β}{k k':β→PS→PR α}(hb:b≤1)(h:Lc b d e p r r')(hk:∀a s,p≤s.p→Lc b' d e s.p (k a s) (k' a (s.up d))):Lc b' d e p (r.bind k) (r'.bind k'):=by
 cases r with
 |out=>exact Lc.out
 |err q c=>
  have h1:=h.gr (by simp)
  refine⟨fun _=>h1,fun _ h2=>?_⟩
  rw[h.eq (by simp) h2];rfl
 |ok a s=>
  have h1:p<s.p+b:=h.gr (by simp)
  have hs:=hk a s (by omega)
  refine⟨fun h0=>?_,fun h0 h2=>?_⟩
  ·have:=hs.gr h0
   show p<Ee b' (k a s)
   omega
  ·have h3:s.p<Ee b' (k a s):=hs.gr h0
   have h2':Ee b' (k a s)≤e:=h2
   rw[h.eq (by simp) (show s.p+b≤e by omega)]
   exact hs.eq h0 h2
theorem Lc.map{r r':PR β}(F:β→α)(G:PS→PS)(h:Lc b d e p r r')(h1:∀s,(G s).p=s.p)(h2:∀s:PS,G (s.up d)=(G s).up d):Lc b d e p (r.bind fun a s=>.ok (F a) (G s)) (r'.bind fun a s=>.ok (F a) (G s)):=by
 cases r with
 |out=>exact Lc.out
 |err q c=>
  refine⟨fun _=>h.gr (by simp),fun _ h2=>?_⟩
  rw[h.eq (by simp) h2];rfl
 |ok a s=>
  have h3:p<s.p+b:=h.gr (by simp)
  refine⟨fun _=>?_,fun _ h4=>?_⟩
  ·show p< (G s).p+b
   rw[h1];exact h3
  ·have h4:(G s).p+b≤e:=h4
   rw[h1]at h4
   rw[h.eq (by simp) h4]
   show PR.ok (F a) (G (s.up d))= .ok (F a) ((G s).up d)
   rw[h2]
section
variable {T U:Nat→Tkn} {s:PS}
theorem in1(hU:∀j,j<e→Eq3 (U (d+j)) (T j))(w:ByteArray)(h:s.p<e):(isP U w (s.up d)=true↔isP T w s=true):=by
 unfold isP
 rw[show(U (s.up d).p).t=(T s.p).t from(hU _ h).t]
theorem io3(hU:∀j,j<e→Eq3 (U (d+j)) (T j))(w:ByteArray)(s:PS):Lc 0 d e s.p (y7 T w s) (y7 U w (s.up d)):=
 Lc.ite (in1 hU w) (fun _=>Lc.ok0 (Nat.lt_succ_self _)) fun _=>Lc.err (Nat.le_refl _)
theorem ir7(hU:∀j,j<e→Eq3 (U (d+j)) (T j))(w:ByteArray)(s:PS):Lc 0 d e s.p (eG T w s) (eG U w (s.up d)):=
 Lc.ite (in1 hU w) (fun _=>Lc.ite (fun _=>Iff.rfl) (fun _=>Lc.err (Nat.le_refl _)) fun _=>Lc.ok0 (Nat.lt_succ_self s.p)) fun _=>Lc.err (Nat.le_refl _)
theorem iu1(hU:∀j,j<e→Eq3 (U (d+j)) (T j))(s:PS):Lc 0 d e s.p (fD T s) (fD U (s.up d)):=by
 unfold fD
 refine Lc.ite (fun h=>?_) (fun _=>Lc.err (Nat.le_refl _)) fun _=>(Lc.ok0 (Nat.lt_succ_self s.p)).sub fun h=>?_
 ·rw[show(U (s.up d).p).t=(T s.p).t from(hU _ h).t,show(U (s.up d).p).k=(T s.p).k from(hU _ h).k]
 ·rw[show(U (s.up d).p).t=(T s.p).t from(hU _ h).t];rfl
theorem ip9{k:ByteArray→PS→PR α}:(fD T s).bind k=if(T s.p).k≠1∨resP (T s.p).t=true then .err s.p 11 else k (T s.p).t (adv s):=by
 unfold fD
 split<;>rfl
theorem ix2(hU:∀j,j<e→Eq3 (U (d+j)) (T j))(s:PS):Lc 0 d e s.p (zL T s) (zL U (s.up d)):=by
 unfold zL
 rw[ip9,ip9]
 refine Lc.ite (fun h=>?_) (fun _=>Lc.err (Nat.le_refl _)) fun _=>Lc.ite (fun h=>?_) (fun _=>Lc.err (Nat.le_refl _)) fun _=>Lc.ite (fun _=>Iff.rfl) (fun _=>Lc.err (Nat.le_refl _)) fun _=>?_
 ·rw[show(U (s.up d).p).t=(T s.p).t from(hU _ h).t,show(U (s.up d).p).k=(T s.p).k from(hU _ h).k]
 ·rw[show(U (s.up d).p).t=(T s.p).t from(hU _ h).t];exact Iff.rfl
 ·refine Lc.sub (Lc.ok0 (Nat.lt_succ_self s.p)) fun h=>?_
  rw[show(U (s.up d).p).t=(T s.p).t from(hU _ h).t];rfl
theorem it5(hU:∀j,j<e→Eq3 (U (d+j)) (T j))(lo hi:Int)(s:PS):Lc 0 d e s.p (tB T lo hi s) (tB U lo hi (s.up d)):=by
 unfold tB
 refine Lc.ite (fun h=>?_) (fun _=>Lc.err (Nat.le_refl _)) fun _=>Lc.ite (fun h=>?_) (fun _=>Lc.err (Nat.le_refl _)) fun _=>(Lc.ok0 (Nat.lt_succ_self s.p)).sub fun h=>?_
 ·rw[show(U (s.up d).p).k=(T s.p).k from(hU _ h).k]
 ·rw[show(U (s.up d).p).n=(T s.p).n from(hU _ h).n]
 ·rw[show(U (s.up d).p).n=(T s.p).n from(hU _ h).n];rfl
theorem it2(hU:∀j,j<e→Eq3 (U (d+j)) (T j))(s:PS):Lc 1 d e s.p (tA T s) (tA U (s.up d)):=by
 unfold tA
 refine Lc.bind (Nat.zero_le _) (it5 hU 0 2147483647 s) fun n s1 h1=>Lc.ite (fun h=>?_) (fun _=>?_) fun _=>Lc.ok1 (Nat.le_refl _)
 ·rw[show(U (s1.up d).p).t=(T s1.p).t from(hU _ h).t,show(U (s1.up d).p).k=(T s1.p).k from(hU _ h).k]
 ·refine Lc.sub (Lc.ok1 (Nat.le_succ s1.p)) fun h=>?_
  rw[show(U (s1.up d).p).t=(T s1.p).t from(hU _ h).t];rfl
theorem iq3(hU:∀j,j<e→Eq3 (U (d+j)) (T j)):∀f f',f≤f'→(∀lv s,Lc 1 d e s.p (o9 T f lv s) (o9 U f' lv (s.up d)))∧(∀lv n s,Lc 1 d e s.p (mP T f lv n s) (mP U f' lv n (s.up d)))∧
 (∀w lv s,Lc 1 d e s.p (fQ T f w lv s) (fQ U f' w lv (s.up d)))∧(∀s,Lc 1 d e s.p (jX T f s) (jX U f' (s.up d)))
 |0,f',_=>by
  refine⟨fun lv s=>?_,fun lv n s=>?_,fun w lv s=>?_,fun s=>?_⟩
  ·rw[o9];exact Lc.out
  ·rw[mP];exact Lc.out
  ·rw[fQ];exact Lc.out
  ·rw[jX];exact Lc.out
 |f+1,0,h=>absurd h (Nat.not_succ_le_zero f)
 |f+1,f'+1,h=>by
  obtain⟨i1,i2,i3,i4⟩:=iq3 hU f f' (Nat.le_of_succ_le_succ h)
  refine⟨fun lv s=>?_,fun lv n s=>?_,fun w lv s=>?_,fun s=>?_⟩
  ·rw[o9,o9]
   refine Lc.ite (fun h=>?_) (fun _=>i3 oH 3 s) fun _=>Lc.ite (fun h=>?_) (fun _=>i3 sW 7 s) fun _=>Lc.ite (fun _=>Iff.rfl) (fun _=>i4 s) fun _=>Lc.bind (Nat.le_refl _) (i1 (lv+1) s) fun n s1 _=>i2 lv n s1
   ·rw[in1 hU oH h]
   ·rw[in1 hU sW h]
  ·rw[mP,mP]
   refine Lc.ite (fun h=>?_) (fun _=>?_) fun _=>Lc.ok1 (Nat.le_refl _)
   ·rw[show(U (s.up d).p).t=(T s.p).t from(hU _ h).t,show(U (s.up d).p).k=(T s.p).k from(hU _ h).k]
   ·refine Lc.sub (g':=(o9 U f' (lv+1) ((adv s).up d)).bind fun m s'=>if lv=4 then .ok (.node 20 0 (T s.p).t [n,m]) s' else mP U f' lv (.node 20 0 (T s.p).t [n,m]) s') ?_ fun h=>?_
    ·exact(Lc.bind (Nat.le_refl _) (i1 (lv+1) (adv s)) fun m s1 _=>Lc.ite (fun _=>Iff.rfl) (fun _=>Lc.ok1 (Nat.le_refl _)) fun _=>i2 lv _ s1).le (Nat.le_succ _)
    ·rw[show(U (s.up d).p).t=(T s.p).t from(hU _ h).t];rfl
  ·rw[fQ,fQ]
   exact Lc.bind (Nat.zero_le _) (ir7 hU w s) fun _ s1 _=>Lc.map (fun n=>Tr.node 19 0 w [n]) lI (i1 lv s1) (fun _=>rfl) fun _=>rfl
  ·rw[jX,jX]
   refine Lc.ite (fun h=>?_) (fun _=>it2 hU s) fun _=>Lc.ite (in1 hU w_true) (fun _=>Lc.ok1 (Nat.le_succ s.p)) fun _=>Lc.ite (in1 hU w_false) (fun _=>Lc.ok1 (Nat.le_succ s.p)) fun _=>Lc.ite (in1 hU ch7) (fun _=>?_) fun _=>Lc.ite (in1 hU nG) (fun _=>?_) fun _=>?_
   ·rw[show(U (s.up d).p).k=(T s.p).k from(hU _ h).k]
   ·exact((Lc.bind (Nat.zero_le _) (io3 hU eo6 (adv s)) fun _ s1 _=>Lc.map (fun x=>Tr.node 18 0 x []) id (iu1 hU s1) (fun _=>rfl) fun _=>rfl).le (Nat.le_succ _)).one
   ·exact(Lc.bind (Nat.zero_le _) (ir7 hU nG s) fun _ s1 _=>Lc.bind (Nat.le_refl _) (i1 1 s1) fun n s2 _=>Lc.map (fun _=>n) lI (io3 hU jS s2) (fun _=>rfl) fun _=>rfl).one
   ·exact(Lc.map (fun x=>Tr.node 17 0 x []) id (iu1 hU s) (fun _=>rfl) fun _=>rfl).one
theorem ip8(hU:∀j,j<e→Eq3 (U (d+j)) (T j))(n:Tr)(s:PS):Lc 0 d e s.p (endP T n s) (endP U n (s.up d)):=Lc.map (fun _=>n) id (io3 hU aj6 s) (fun _=>rfl) fun _=>rfl
theorem ja2(hU:∀j,j<e→Eq3 (U (d+j)) (T j)){f f':Nat}(hf:f≤f')(k:Int)(x:ByteArray)(s:PS):Lc 0 d e s.p (el7 T f k x s) (el7 U f' k x (s.up d)):=
 Lc.bind (Nat.zero_le _) (io3 hU cm8 s) fun _ s1 _=>Lc.bind (Nat.le_refl _) ((iq3 hU f f' hf).1 1 s1) fun n s2 _=>ip8 hU _ s2
theorem iz9(hU:∀j,j<e→Eq3 (U (d+j)) (T j)){f f':Nat}(hf:f≤f')(k:Int)(s:PS):Lc 0 d e s.p (oneP T f k s) (oneP U f' k (s.up d)):=
 Lc.bind (Nat.le_refl _) ((iq3 hU f f' hf).1 1 s) fun n s2 _=>ip8 hU _ s2
theorem iz6(hU:∀j,j<e→Eq3 (U (d+j)) (T j))(k:Int)(s:PS):Lc 0 d e s.p (ga8 T k s) (ga8 U k (s.up d)):=
 Lc.bind (Nat.le_refl _) (it2 hU s) fun n s2 _=>ip8 hU _ s2
theorem ja5(hU:∀j,j<e→Eq3 (U (d+j)) (T j)){f f':Nat}(hf:f≤f')(s:PS):Lc 0 d e s.p (dn2 T f s) (dn2 U f' (s.up d)):=
 Lc.bind (Nat.le_refl _) ((iq3 hU f f' hf).1 1 s) fun c s1 _=>Lc.bind (Nat.zero_le _) (io3 hU jF s1) fun _ s2 _=>Lc.bind (Nat.le_refl _) (it2 hU s2) fun n s3 _=>ip8 hU _ s3
theorem ja4(hU:∀j,j<e→Eq3 (U (d+j)) (T j))(k hi:Int)(s:PS):Lc 0 d e s.p (fu2 T k hi s) (fu2 U k hi (s.up d)):=
 Lc.bind (Nat.zero_le _) (it5 hU 0 hi s) fun n s1 _=>ip8 hU _ s1
theorem iz0(hU:∀j,j<e→Eq3 (U (d+j)) (T j))(k:Int)(w:ByteArray)(s:PS):Lc 0 d e s.p (fq6 T k w s) (fq6 U k w (s.up d)):=
 Lc.bind (Nat.zero_le _) (it5 hU 0 7 s) fun n s1 _=>Lc.bind (Nat.zero_le _) (io3 hU w s1) fun _ s2 _=>Lc.bind (Nat.le_refl _) (it2 hU s2) fun m s3 _=>ip8 hU _ s3
theorem iw9(hU:∀j,j<e→Eq3 (U (d+j)) (T j)):∀f f',f≤f'→(∀s,Lc 0 d e s.p (bC T f s) (bC U f' (s.up d)))∧(∀s,Lc 0 d e s.p (dZ T f s) (dZ U f' (s.up d)))∧(∀s,Lc 1 d e s.p (xQ T f s) (xQ U f' (s.up d)))
 |0,f',_=>by
  refine⟨fun s=>?_,fun s=>?_,fun s=>?_⟩
  ·rw[bC];exact Lc.out
  ·rw[dZ];exact Lc.out
  ·rw[xQ];exact Lc.out
 |f+1,0,h=>absurd h (Nat.not_succ_le_zero f)
 |f+1,f'+1,h=>by
  have hf:=Nat.le_of_succ_le_succ h
  obtain⟨i1,i2,i3⟩:=iw9 hU f f' hf
  refine⟨fun s=>?_,fun s=>?_,fun s=>?_⟩
  ·rw[bC,bC]
   exact Lc.bind (Nat.zero_le _) (ir7 hU cv8 s) fun _ s1 _=>Lc.map (fun l=>Tr.node 14 0 ⟨#[]⟩ l) lI (i2 s1) (fun _=>rfl) fun _=>rfl
  ·rw[dZ,dZ]
   exact Lc.ite (in1 hU dk1) (fun _=>Lc.ok0 (Nat.lt_succ_self s.p)) fun _=>Lc.bind (Nat.le_refl _) (i3 s) fun n s1 _=>Lc.map (fun l=>n::l) id (i2 s1) (fun _=>rfl) fun _=>rfl
  ·rw[xQ,xQ]
   have nx:∀{g g':PR Tr},Lc 0 d e (adv s).p g g'→Lc 1 d e s.p g g':=fun h=>(h.le (Nat.le_succ _)).one
   refine Lc.ite (in1 hU bk8) (fun _=>nx (Lc.bind (Nat.zero_le _) (ix2 hU (adv s)) fun x s1 _=>ja2 hU hf 1 x s1)) fun _=>?_
   refine Lc.ite (in1 hU sU) (fun _=>(Lc.bind (Nat.le_refl _) ((iq3 hU f f' hf).1 1 (adv s)) fun c s1 _=>Lc.bind (Nat.zero_le _) (i1 s1) fun y s2 _=>Lc.ite (in1 hU oO) (fun _=>?_) fun _=>Lc.ok1 (Nat.le_refl _)).le (Nat.le_succ _)) fun _=>?_
   ·exact((Lc.map (fun n=>Tr.node 3 0 ⟨#[]⟩ [c,y,n]) id (i1 (adv s2)) (fun _=>rfl) fun _=>rfl).le (Nat.le_succ _)).one
   refine Lc.ite (in1 hU bX) (fun _=>nx (Lc.bind (Nat.zero_le _) (it5 hU 1 100 (adv s)) fun n s1 _=>Lc.map (fun y=>Tr.node 4 n ⟨#[]⟩ [y]) id (i1 s1) (fun _=>rfl) fun _=>rfl)) fun _=>?_
   refine Lc.ite (in1 hU tS) (fun _=>nx (ja5 hU hf (adv s))) fun _=>?_
   refine Lc.ite (in1 hU be2) (fun _=>nx (iz6 hU 5 (adv s))) fun _=>?_
   refine Lc.ite (in1 hU yW) (fun _=>nx (iz6 hU 11 (adv s))) fun _=>?_
   refine Lc.ite (in1 hU qO) (fun _=>nx (iz9 hU hf 7 (adv s))) fun _=>?_
   refine Lc.ite (in1 hU rI) (fun _=>nx (iz9 hU hf 8 (adv s))) fun _=>?_
   refine Lc.ite (in1 hU an0) (fun _=>nx (iz0 hU 9 al3 (adv s))) fun _=>?_
   refine Lc.ite (in1 hU ac9) (fun _=>nx (iz0 hU 10 mN (adv s))) fun _=>?_
   refine Lc.ite (in1 hU yV) (fun _=>nx (ja4 hU 12 99 (adv s))) fun _=>?_
   refine Lc.ite (in1 hU uE) (fun _=>nx (ja4 hU 13 999 (adv s))) fun _=>?_
   exact(Lc.bind (Nat.zero_le _) (iu1 hU s) fun x s1 _=>ja2 hU hf 2 x s1).one
theorem jd0(hU:∀j,j<e→Eq3 (U (d+j)) (T j))(s:PS):Lc 1 d e s.p (ga3 T s) (ga3 U (s.up d)):=by
 unfold ga3
 refine Lc.bind (Nat.zero_le _) (ix2 hU s) fun x s1 _=>Lc.ite (in1 hU cl8) (fun _=>?_) fun _=>Lc.ok1 (Nat.le_refl _)
 have hq:s1.p+1<e→Eq3 (U ((s1.up d).p+1)) (T (s1.p+1)):=fun h=>hU _ h
 refine Lc.le (p':=s1.p+1) (Lc.ite (fun h=>?_) (fun _=>Lc.err (Nat.le_refl _)) fun _=>Lc.ite (fun h=>?_) (fun _=>Lc.err (Nat.le_refl _)) fun _=>?_) (Nat.le_succ _)
 ·rw[(hq h).k]
 ·rw[(hq h).t]
 ·refine Lc.sub (Lc.ok1 (Nat.le_succ (s1.p+1))) fun h=>?_
  rw[(hq h).t];rfl
theorem iw8(hU:∀j,j<e→Eq3 (U (d+j)) (T j)):∀f f',f≤f'→∀s,Lc 0 d e s.p (cf6 T f s) (cf6 U f' (s.up d))
 |0,f',_,s=>by rw[cf6];exact Lc.out
 |f+1,0,h,s=>absurd h (Nat.not_succ_le_zero f)
 |f+1,f'+1,h,s=>by
  rw[cf6,cf6]
  refine Lc.bind (Nat.le_refl _) (jd0 hU s) fun x s1 _=>Lc.ite (in1 hU mN) (fun _=>?_) fun _=>Lc.map (fun _=>[x]) id (io3 hU jS s1) (fun _=>rfl) fun _=>rfl
  exact(Lc.map (fun l=>x::l) id (iw8 hU f f' (Nat.le_of_succ_le_succ h) (adv s1)) (fun _=>rfl) fun _=>rfl).le (Nat.le_succ _)
theorem iy5(hU:∀j,j<e→Eq3 (U (d+j)) (T j)){f f':Nat}(hf:f≤f')(s:PS):Lc 0 d e s.p (mC T f s) (mC U f' (s.up d)):=
 Lc.bind (Nat.zero_le _) (io3 hU nG s) fun _ s1 _=>Lc.ite (in1 hU jS) (fun _=>Lc.ok0 (Nat.lt_succ_self s1.p)) fun _=>iw8 hU f f' hf s1
theorem ja9(hU:∀j,j<e→Eq3 (U (d+j)) (T j)){f f':Nat}(hf:f≤f')(pr:List ByteArray)(s:PS):Lc 0 d e s.p (aj7 T f pr s) (aj7 U f' pr (s.up d)):=by
 unfold aj7
 refine Lc.bind (Nat.zero_le _) (io3 hU w_procedure s) fun _ s1 _=>?_
 rw[ip9,ip9]
 have hq:s1.p<e→Eq3 (U (s1.up d).p) (T s1.p):=fun h=>hU _ h
 refine Lc.ite (fun h=>?_) (fun _=>Lc.err (Nat.le_refl _)) fun _=>Lc.ite (fun h=>?_) (fun _=>Lc.err (Nat.le_refl _)) fun _=>?_
 ·rw[(hq h).t,(hq h).k]
 ·rw[(hq h).t]
 ·refine Lc.sub (g':=(mC U f' (PS.up d {adv s1 with vs:=[]})).bind fun l s3=>(bC U f' s3).bind fun b s4=>.ok ⟨(T s1.p).t,l,b⟩ s4) ?_ fun h=>?_
  ·exact(Lc.bind (Nat.zero_le _) (iy5 hU hf {adv s1 with vs:=[]}) fun l s3 _=>Lc.map (fun b=>Prc.mk (T s1.p).t l b) id ((iw9 hU f f' hf).1 s3) (fun _=>rfl) fun _=>rfl).le (Nat.le_succ _)
  ·rw[(hq h).t];rfl
theorem iv0(hU:∀j,j<e→Eq3 (U (d+j)) (T j)):∀f f',f≤f'→∀pr s,Lc 1 d e s.p (s5 T f pr s) (s5 U f' pr (s.up d))
 |0,f',_,pr,s=>by rw[s5];exact Lc.out
 |f+1,0,h,pr,s=>absurd h (Nat.not_succ_le_zero f)
 |f+1,f'+1,h,pr,s=>by
  have hf:=Nat.le_of_succ_le_succ h
  rw[s5,s5]
  refine Lc.ite (fun h=>?_) (fun _=>Lc.ok1 (Nat.le_refl _)) fun _=>Lc.bind (Nat.zero_le _) (ja9 hU hf pr s) fun x s1 _=>Lc.map (fun l=>x::l) id (iv0 hU f f' hf (pr++[x.x]) s1) (fun _=>rfl) fun _=>rfl
  rw[show(U (s.up d).p).k=(T s.p).k from(hU _ h).k]
theorem iu6(hU:∀j,Eq3 (U j) (T j)){f f':Nat}(hf:f≤f')(pr:List ByteArray)(s:PS)(ho:s5 T f pr s≠ .out):s5 U f' pr s=s5 T f pr s:=by
 have h:=iv0 (T:=T) (U:=U) (d:=0) (e:=Ee 1 (s5 T f pr s)) (fun j _=>by rw[Nat.zero_add];exact hU j) f f' hf pr s
 have h1:=h.eq ho (Nat.le_refl _)
 have e0:∀s:PS,s.up 0=s:=fun s=>by cases s;simp[PS.up]
 rw[e0]at h1
 rw[h1]
 cases s5 T f pr s<;>simp[PR.up,e0]
end
end Go.Proofs.Lx
/- Plain: tokens of statements' and procedures' texts are read as the statements and procedures. -/
namespace Go.Proofs.Lx
open Go Go.Proofs.YtjfkkokeegpeiaaGreatDoor
set_option maxRecDepth 100000
def j5(i:Nat):List UInt8:=List.replicate (2*i) 32
def bL(s:ByteArray):List UInt8:=s.data.toList
def am8(s:ByteArray):Prop:=resP s=false∧bx0 s
def spB:List UInt8:=[32]
inductive PrS:Nat→(Tr⊕List Tr)→List UInt8→List Tkn→Nat→List ByteArray→Prop
 |let(i:Nat) (s:ByteArray) (a:Tr) (x:List UInt8) (l:List Tkn) (d:Nat):am8 s→Pr a x l d→
  PrS i (.inl (.node 1 0 s [a])) (j5 i++(bL bk8++32::(bL s++32::61::32::(x++[59,10])))) (tkW bk8::tkW s::tkY cm8::(l++[tkY aj6])) d [s]
 |set (i:Nat) (s:ByteArray) (a:Tr) (x:List UInt8) (l:List Tkn) (d:Nat):am8 s→Pr a x l d→
  PrS i (.inl (.node 2 0 s [a])) (j5 i++(bL s++32::61::32::(x++[59,10]))) (tkW s::tkY cm8::(l++[tkY aj6])) d []
 |cond (i:Nat) (c:Tr) (ys:List Tr) (x:List UInt8) (l:List Tkn) (d:Nat) (xy:List UInt8) (ly:List Tkn) (dy:Nat) (vy:List ByteArray):Pr c x l d→PrS (i+1) (.inr ys) xy ly dy vy→
  PrS i (.inl (.node 3 0 ⟨#[]⟩ [c,.node 14 0 ⟨#[]⟩ ys,.node 14 0 ⟨#[]⟩ []])) (j5 i++(bL sU++32::(x++32::123::10::(xy++(j5 i++[125,10]))))) (tkW sU::(l++tkY cv8::(ly++[tkY dk1]))) (max d (dy+1)) vy
 |both (i:Nat) (c:Tr) (ys:List Tr) (n0:Tr) (ns:List Tr) (x:List UInt8) (l:List Tkn) (d:Nat) (xy:List UInt8) (ly:List Tkn) (dy:Nat) (vy:List ByteArray) (xn:List UInt8) (ln:List Tkn) (dn:Nat) (vn:List ByteArray):Pr c x l d→PrS (i+1) (.inr ys) xy ly dy vy→PrS (i+1) (.inr (n0::ns)) xn ln dn vn→
  PrS i (.inl (.node 3 0 ⟨#[]⟩ [c,.node 14 0 ⟨#[]⟩ ys,.node 14 0 ⟨#[]⟩ (n0::ns)])) (j5 i++(bL sU++32::(x++32::123::10::(xy++(j5 i++125::32::(bL oO++32::123::10::(xn++(j5 i++[125,10]))))))))
   (tkW sU::(l++tkY cv8::(ly++tkY dk1::tkW oO::tkY cv8::(ln++[tkY dk1])))) (max d (max (dy+1) (dn+1))) (vy++vn)
 |rep (i:Nat) (n:Int) (ys:List Tr) (xy:List UInt8) (ly:List Tkn) (dy:Nat) (vy:List ByteArray):1≤n→n≤100→PrS (i+1) (.inr ys) xy ly dy vy→
  PrS i (.inl (.node 4 n ⟨#[]⟩ [.node 14 0 ⟨#[]⟩ ys])) (j5 i++(bL bX++32::(bL (itS n)++32::123::10::(xy++(j5 i++[125,10]))))) (tkW bX::tkN n::tkY cv8::(ly++[tkY dk1])) (dy+1) vy
 |amt (i:Nat) (k:Int) (w:ByteArray) (n:Int) (u:ByteArray) (x:List UInt8) (l:List Tkn) (d:Nat):(k=5∧w=be2)∨(k=11∧w=yW)→Pr (.node 15 n u []) x l d→
  PrS i (.inl (.node k 0 ⟨#[]⟩ [.node 15 n u []])) (j5 i++(bL w++32::(x++[59,10]))) (tkW w::(l++[tkY aj6])) d []
 |await (i:Nat) (c:Tr) (y:List UInt8) (m:List Tkn) (e:Nat) (n:Int) (u:ByteArray) (x:List UInt8) (l:List Tkn) (d:Nat):Pr c y m e→Pr (.node 15 n u []) x l d→
  PrS i (.inl (.node 6 0 ⟨#[]⟩ [c,.node 15 n u []])) (j5 i++(bL tS++32::(y++32::(bL jF++32::(x++[59,10]))))) (tkW tS::(m++tkW jF::(l++[tkY aj6]))) e []
 |one (i:Nat) (k:Int) (w:ByteArray) (a:Tr) (x:List UInt8) (l:List Tkn) (d:Nat):(k=7∧w=qO)∨(k=8∧w=rI)→Pr a x l d→
  PrS i (.inl (.node k 0 ⟨#[]⟩ [a])) (j5 i++(bL w++32::(x++[59,10]))) (tkW w::(l++[tkY aj6])) d []
 |use (i:Nat) (j:Int) (n:Int) (u:ByteArray) (x:List UInt8) (l:List Tkn) (d:Nat):0≤j→j≤7→Pr (.node 15 n u []) x l d→
  PrS i (.inl (.node 9 j ⟨#[]⟩ [.node 15 n u []])) (j5 i++(bL an0++32::(bL (itS j)++32::(bL al3++32::(x++[59,10]))))) (tkW an0::tkN j::tkW al3::(l++[tkY aj6])) d []
 |send (i:Nat) (j:Int) (n:Int) (u:ByteArray) (x:List UInt8) (l:List Tkn) (d:Nat):0≤j→j≤7→Pr (.node 15 n u []) x l d→
  PrS i (.inl (.node 10 j ⟨#[]⟩ [.node 15 n u []])) (j5 i++(bL ac9++32::(bL (itS j)++44::32::(x++[59,10])))) (tkW ac9::tkN j::tkY mN::(l++[tkY aj6])) d []
 |nmb (i:Nat) (k:Int) (w:ByteArray) (j:Int):(k=12∧w=yV∧j≤99)∨(k=13∧w=uE∧j≤999)→0≤j→
  PrS i (.inl (.node k j ⟨#[]⟩ [])) (j5 i++(bL w++32::(bL (itS j)++[59,10]))) [tkW w,tkN j,tkY aj6] 0 []
 |nil (i:Nat):PrS i (.inr []) [] [] 0 []
 |cons (i:Nat) (t:Tr) (ts:List Tr) (x:List UInt8) (l:List Tkn) (d:Nat) (v:List ByteArray) (xs:List UInt8) (ls:List Tkn) (ds:Nat) (vs:List ByteArray):PrS i (.inl t) x l d v→PrS i (.inr ts) xs ls ds vs→
  PrS i (.inr (t::ts)) (x++xs) (l++ls) (max d ds) (v++vs)
section
variable {T:Nat→Tkn}
theorem io8{w:ByteArray}{s:PS}(h:(T s.p).t=w):y7 T w s= .ok () (adv s):=by
 unfold y7 isP
 rw[h,if_pos (by simp)]
theorem in9{w:ByteArray}{s:PS}(h:(T s.p).t=w):isP T w s=true:=decide_eq_true h
theorem cR{w v:ByteArray}{s:PS}(h:(T s.p).t=v)(hn:v≠w):isP T w s=false:=by
 unfold isP
 rw[h]
 exact decide_eq_false hn
theorem iz5{w:ByteArray}{s:PS}(h:(T s.p).t=w)(ho:s.o<12):eG T w s= .ok () {s with p:=s.p+1,o:=s.o+1}:=by
 unfold eG isP
 rw[h,if_pos (by simp),if_neg (by omega)]
theorem iq9{s:PS}{n lo hi:Int}(k1:(T s.p).k=2)(k2:(T s.p).n=n)(h0:lo≤n)(h1:n≤hi):tB T lo hi s= .ok n (adv s):=by
 unfold tB
 rw[k1,k2,if_neg (by decide),if_neg (by omega)]
theorem iu3{s:PS}{y:ByteArray}(k1:(T s.p).k=1)(k2:(T s.p).t=y)(hr:resP y=false):fD T s= .ok y (adv s):=by
 unfold fD
 rw[k1,k2,hr,if_neg (by decide)]
theorem ja0{l:List ByteArray}{x:ByteArray}(h:x∉l):inP l x=false:=by
 cases e:inP l x with
 |false=>rfl
 |true=>exact absurd (inP_iff.1 e) h
theorem it9{s:PS}{y:ByteArray}(k1:(T s.p).k=1)(k2:(T s.p).t=y)(hr:resP y=false)(hn:y∉s.vs)(hl:s.vs.length<12):zL T s= .ok y {s with p:=s.p+1,vs:=s.vs++[y]}:=by
 unfold zL
 rw[iu3 k1 k2 hr]
 show(if inP s.vs y=true then PR.err _ _ else if s.vs.length=12 then PR.err _ _ else _)=_
 rw[ja0 hn,if_neg (by decide),if_neg (by omega)]
 rfl
theorem it4{n:Int}{u:ByteArray}{x:List UInt8}{l:List Tkn}{d:Nat}(h:Pr (.node 15 n u []) x l d){s:PS}(hA:At T s.p l)(hf:¬((T (s.p+l.length)).k=1∧vW (T (s.p+l.length)).t=true)):tA T s= .ok (.node 15 n u []) (go s l.length):=by
 cases h with
 |lit n h0 h1=>
  obtain⟨⟨k1,k2,k3⟩,_⟩:=hA
  unfold tA
  rw[iq9 k1 k3 h0 h1]
  exact if_neg hf
 |qty n u h0 h1 hu=>
  obtain⟨⟨k1,k2,k3⟩,⟨k4,k5,_⟩,_⟩:=hA
  unfold tA
  rw[iq9 k1 k3 h0 h1]
  show(if(T (s.p+1)).k=1∧vW (T (s.p+1)).t=true then PR.ok (Tr.node 15 n (T (s.p+1)).t []) (adv (adv s))else _)=_
  rw[k5,if_pos ⟨k4,inP_iff.2 hu⟩]
  rfl
theorem ia7{x:Tkn}{w:ByteArray}(lv:Nat)(h1:1≤lv)(h:x.t=w)(hl:j8 w=0)(hu:vW w=false):Fol lv x∧¬(j8 x.t=lv∧x.k=3):=by
 refine⟨⟨fun _=>⟨by rw[h,hl];omega,fun _=>by rw[h,hl];decide⟩,fun g=>?_⟩,fun g=>?_⟩
 ·rw[h,hu]at g;exact absurd g.2 (by decide)
 ·rw[h,hl]at g;omega
theorem hh8{t:Tr}{x:List UInt8}{l:List Tkn}{d:Nat}(h:Pr t x l d){s:PS}{w:ByteArray}(hA:At T s.p l)(hd:s.o+d≤12)(hw:(T (s.p+l.length)).t=w)(hl:j8 w=0)(hu:vW w=false):Ex T 1 s t (go s l.length):=by
 obtain⟨f1,f2⟩:=ia7 (x:=T (s.p+l.length)) 1 (Nat.le_refl _) hw hl hu
 exact fy6 h s 1 (Nat.le_refl _) (by decide) (fh3 h).1 hA hd f1 t _ (rY f2)
theorem evc{α:Type}{r r':PR α}(h:r=r'):Ev (fun _=>r) r':=by rw[h];exact Ev.const
theorem iq0{n:Tr}{s:PS}(h:(T s.p).t=aj6):endP T n s= .ok n (adv s):=by
 unfold endP
 rw[io8 h]
 rfl
theorem iz2{k:Int}{y:ByteArray}{a:Tr}{x:List UInt8}{l:List Tkn}{d:Nat}(h:Pr a x l d){s:PS}(hA:At T s.p (tkY cm8::(l++[tkY aj6])))(hd:s.o+d≤12):Ev (fun f=>el7 T f k y s) (.ok (.node k 0 y [a]) (go s (l.length+2))):=by
 obtain⟨⟨_,k2,_⟩,hA⟩:=hA
 obtain⟨hA,⟨_,k5,_⟩,_⟩:=hA.app
 unfold el7
 refine Ev.bind (evc (io8 k2)) (Ev.bind (hh8 h (s:=adv s) hA hd k5 (by decide) (by decide)) ?_)
 refine evc ((iq0 k5).trans ?_)
 simp only[adv,go]
 congr 2
 omega
def Ok1(s:PS)(v:List ByteArray):Prop:=(s.vs++v).Nodup∧(s.vs++v).length≤12
def jc2(T:Nat→Tkn)(z:Tr⊕List Tr)(l:List Tkn)(d:Nat)(v:List ByteArray):Prop:=match z with
 | .inl t=>∀s:PS,At T s.p l→s.o+d≤12→Ok1 s v→(T (s.p+l.length)).t≠oO→Ev (fun f=>xQ T f s) (.ok t {p:=s.p+l.length,o:=s.o,vs:=s.vs++v})
 | .inr ts=>∀s:PS,At T s.p (l++[tkY dk1])→s.o+d≤12→Ok1 s v→Ev (fun f=>dZ T f s) (.ok ts {p:=s.p+l.length+1,o:=s.o,vs:=s.vs++v})
theorem ir8{i:Nat}{t:Tr}{x:List UInt8}{l:List Tkn}{d:Nat}{v:List ByteArray}(h:PrS i (.inl t) x l d v):∃y m,l=y::m∧y.t≠dk1∧y.t≠oO:=by
 cases h with
 |set _ s a x l d hn _=>
  refine⟨_,_,rfl,?_,?_⟩
  ·rintro e
   have e:s=dk1:=e
   subst e
   obtain⟨_,_,c,l,e,h1,_⟩:=hn
   simp at e;obtain⟨rfl,_⟩:=e;exact absurd h1 (by decide)
  ·rintro e
   have e:s=oO:=e
   subst e
   exact absurd hn.1 (by decide)
 |amt _ k w n u x l d hk _=>rcases hk with⟨_,rfl⟩ | ⟨_,rfl⟩<;>exact⟨_,_,rfl,by decide,by decide⟩
 |one _ k w a x l d hk _=>rcases hk with⟨_,rfl⟩ | ⟨_,rfl⟩<;>exact⟨_,_,rfl,by decide,by decide⟩
 |nmb _ k w j hk _=>rcases hk with⟨_,rfl,_⟩ | ⟨_,rfl,_⟩<;>exact⟨_,_,rfl,by decide,by decide⟩
 |_=>exact⟨_,_,rfl,by decide,by decide⟩
theorem ip3{ys:List Tr}{l:List Tkn}{d:Nat}{v:List ByteArray}(h:jc2 T (.inr ys) l d v){s:PS}(hA:At T s.p (tkY cv8::(l++[tkY dk1])))(hd:s.o+(d+1)≤12)(hv:Ok1 s v):Ev (fun f=>bC T f s) (.ok (.node 14 0 ⟨#[]⟩ ys) {p:=s.p+(l.length+2),o:=s.o,vs:=s.vs++v}):=by
 obtain⟨⟨_,k2,_⟩,hA⟩:=hA
 refine Ev.step (h:=fun f=>(eG T cv8 s).bind fun _ s1=>(dZ T f s1).bind fun l s2=>.ok (.node 14 0 ⟨#[]⟩ l) (lI s2)) (fun f=>by rw[bC]) ?_
 refine Ev.bind (evc (iz5 k2 (by omega))) (Ev.bind (h {s with p:=s.p+1,o:=s.o+1} hA (by show s.o+1+d≤12;omega) hv) (evc ?_))
 simp only[lI]
 congr 2
 omega
theorem Ok1.left{s:PS}{v w:List ByteArray}(h:Ok1 s (v++w)):Ok1 s v:=by
 obtain⟨h1,h2⟩:=h
 rw[←List.append_assoc]at h1 h2
 exact⟨(List.nodup_append.1 h1).1,by rw[List.length_append]at h2;omega⟩
theorem Ok1.right{s s':PS}{v w:List ByteArray}(h:Ok1 s (v++w))(e:s'.vs=s.vs++v):Ok1 s' w:=by
 unfold Ok1 at h⊢
 rw[e,List.append_assoc]
 exact h
theorem jc8{y:ByteArray}(hr:resP y=false):∀w∈keywords,y≠w:=by
 rintro w hw rfl
 unfold resP at hr
 rw[inP_iff.2 hw]at hr
 cases hr
theorem iy6{i:Nat}{z:Tr⊕List Tr}{x:List UInt8}{l:List Tkn}{d:Nat}{v:List ByteArray}(h:PrS i z x l d v):jc2 T z l d v:=by
 induction h with
 |«let» i y a x l d hn hP=>
  intro s hA hd hv _
  obtain⟨⟨_,k2,_⟩,⟨k4,k5,_⟩,hA⟩:=hA
  have k2:(T s.p).t=bk8:=k2
  refine Ev.step (h:=fun f=>(zL T (adv s)).bind fun x s1=>el7 T f 1 x s1) (fun f=>by rw[xQ,if_pos (in9 k2)]) ?_
  have hnd:y∉s.vs:=by
   have:=List.nodup_append.1 hv.1
   intro hm
   exact this.2.2 y hm y (by simp) rfl
  have hl:s.vs.length<12:=by have:=hv.2;rw[List.length_append]at this;simp at this;omega
  refine Ev.bind (evc (it9 (s:=adv s) k4 k5 hn.1 hnd hl)) ((?_:Ev _ _))
  have:=iz2 (T:=T) (k:=1) (y:=y) hP (s:={s with p:=s.p+2,vs:=s.vs++[y]}) hA hd
  have e:go {s with p:=s.p+2,vs:=s.vs++[y]} (l.length+2)={p:=s.p+(tkW bk8::tkW y::tkY cm8::(l++[tkY aj6])).length,o:=s.o,vs:=s.vs++[y]}:=by
   simp only[go,List.length_cons,List.length_append,List.length_nil]
   congr 1;omega
  rw[e]at this
  exact this
 |set i y a x l d hn hP=>
  intro s hA hd hv _
  obtain⟨⟨k1,k2,_⟩,hA⟩:=hA
  have k2:(T s.p).t=y:=k2
  have hk:=jc8 hn.1
  refine Ev.step (h:=fun f=>(fD T s).bind fun x s1=>el7 T f 2 x s1) (fun f=>?_) ?_
  ·rw[xQ,cR k2 (hk _ (inP_iff.1 (by decide))),cR k2 (hk _ (inP_iff.1 (by decide))),cR k2 (hk _ (inP_iff.1 (by decide))),cR k2 (hk _ (inP_iff.1 (by decide))),cR k2 (hk _ (inP_iff.1 (by decide))),cR k2 (hk _ (inP_iff.1 (by decide))),cR k2 (hk _ (inP_iff.1 (by decide))),cR k2 (hk _ (inP_iff.1 (by decide))),cR k2 (hk _ (inP_iff.1 (by decide))),cR k2 (hk _ (inP_iff.1 (by decide))),cR k2 (hk _ (inP_iff.1 (by decide))),cR k2 (hk _ (inP_iff.1 (by decide)))]
   rfl
  refine Ev.bind (evc (iu3 k1 k2 hn.1)) ((?_:Ev _ _))
  have:=iz2 (T:=T) (k:=2) (y:=y) hP (s:=adv s) hA hd
  have e:go (adv s) (l.length+2)={p:=s.p+(tkW y::tkY cm8::(l++[tkY aj6])).length,o:=s.o,vs:=s.vs++[]}:=by
   simp only[go,adv,List.length_cons,List.length_append,List.length_nil,List.append_nil]
   congr 1;omega
  rw[e]at this
  exact this
 |cond i c ys x l d xy ly dy vy hP hY ih=>
  intro s hA hd hv hf
  obtain⟨⟨_,k2,_⟩,hA⟩:=hA
  have k2:(T s.p).t=sU:=k2
  obtain⟨hA,hB⟩:=hA.app
  have k5:=hB.1.2.1
  refine Ev.step (h:=fun f=>(o9 T f 1 (adv s)).bind fun c s1=>(bC T f s1).bind fun y s2=>if isP T oO s2=true then(bC T f (adv s2)).bind fun n s3=>.ok (.node 3 0 ⟨#[]⟩ [c,y,n]) s3 else .ok (.node 3 0 ⟨#[]⟩ [c,y,.node 14 0 ⟨#[]⟩ []]) s2) (fun f=>by rw[xQ,cR k2 (by decide),if_neg (by decide),if_pos (in9 k2)]) ?_
  refine Ev.bind (hh8 hP (s:=adv s) hA (by show s.o+d≤12;omega) k5 (by decide) (by decide)) (Ev.bind (ip3 ih (s:=go (adv s) l.length) hB (by show s.o+(dy+1)≤12;omega) hv) ?_)
  have e:s.p+(tkW sU::(l++tkY cv8::(ly++[tkY dk1]))).length=s.p+1+l.length+(ly.length+2):=by simp only[List.length_cons,List.length_append,List.length_nil];omega
  rw[e]at hf⊢
  refine Ev.congr (fun f=>if_neg (by rw[cR rfl hf];decide)) Ev.const
 |both i c ys n0 ns x l d xy ly dy vy xn ln dn vn hP hY hN ih1 ih2=>
  intro s hA hd hv hf
  obtain⟨⟨_,k2,_⟩,hA⟩:=hA
  have k2:(T s.p).t=sU:=k2
  obtain⟨hA,hB⟩:=hA.app
  have k5:=hB.1.2.1
  obtain⟨hB0,hB⟩:=hB
  obtain⟨hB1,hB2⟩:=hB.app
  obtain⟨hB3,⟨_,k8,_⟩,hC⟩:=hB2
  have hB':At T (s.p+1+l.length) (tkY cv8::(ly++[tkY dk1])):=by
   refine⟨hB0,?_⟩
   have qC:∀{a b:List Tkn} {p:Nat},At T p a→At T (p+a.length) b→At T p (a++b):=by
    intro a
    induction a with
    |nil=>intro b p _ h;simpa using h
    |cons z a iha=>intro b p h1 h2;exact⟨h1.1,iha h1.2 (by rw[show p+1+a.length=p+(z::a).length by simp only[List.length_cons];omega];exact h2)⟩
   exact qC hB1 ⟨hB3,trivial⟩
  refine Ev.step (h:=fun f=>(o9 T f 1 (adv s)).bind fun c s1=>(bC T f s1).bind fun y s2=>if isP T oO s2=true then(bC T f (adv s2)).bind fun n s3=>.ok (.node 3 0 ⟨#[]⟩ [c,y,n]) s3 else .ok (.node 3 0 ⟨#[]⟩ [c,y,.node 14 0 ⟨#[]⟩ []]) s2) (fun f=>by rw[xQ,cR k2 (by decide),if_neg (by decide),if_pos (in9 k2)]) ?_
  refine Ev.bind (hh8 hP (s:=adv s) hA (by show s.o+d≤12;omega) k5 (by decide) (by decide)) (Ev.bind (ip3 ih1 (s:=go (adv s) l.length) hB' (by show s.o+(dy+1)≤12;omega) hv.left) ?_)
  have k8':(T (s.p+1+l.length+(ly.length+2))).t=oO:=by
   rw[show s.p+1+l.length+(ly.length+2)=s.p+1+l.length+1+ly.length+1 by omega];exact k8
  refine Ev.congr (fun f=>if_pos (in9 k8')) ?_
  refine Ev.bind (ip3 ih2 (s:={p:=s.p+1+l.length+(ly.length+2)+1,o:=s.o,vs:=s.vs++vy}) (by
   show At T (s.p+1+l.length+(ly.length+2)+1) _
   rw[show s.p+1+l.length+(ly.length+2)+1=s.p+1+l.length+1+ly.length+1+1 by omega];exact hC) (by show s.o+(dn+1)≤12;omega) (hv.right rfl)) (evc ?_)
  simp only[List.length_cons,List.length_append,List.length_nil,List.append_assoc]
  congr 2
  omega
 |rep i n ys xy ly dy vy h0 h1 hY ih=>
  intro s hA hd hv hf
  obtain⟨⟨_,k2,_⟩,⟨k4,k5,k6⟩,hB⟩:=hA
  have k2:(T s.p).t=bX:=k2
  have k6:(T (s.p+1)).n=n:=k6
  refine Ev.step (h:=fun f=>(tB T 1 100 (adv s)).bind fun n s1=>(bC T f s1).bind fun y s2=>.ok (.node 4 n ⟨#[]⟩ [y]) s2) (fun f=>by rw[xQ,cR k2 (by decide),if_neg (by decide),cR k2 (by decide),if_neg (by decide),if_pos (in9 k2)]) ?_
  refine Ev.bind (evc (iq9 (s:=adv s) k4 k6 h0 h1)) (Ev.bind (ip3 ih (s:=adv (adv s)) hB hd hv) (evc ?_))
  simp only[List.length_cons,List.length_append,List.length_nil,adv]
  congr 2
  omega
 |amt i k w n u x l d hk hP=>
  intro s hA hd hv hf
  obtain⟨⟨_,k2,_⟩,hA⟩:=hA
  have k2:(T s.p).t=w:=k2
  obtain⟨hA,⟨_,k5,_⟩,_⟩:=hA.app
  have hl:=it4 hP (s:=adv s) hA (by rw[show(T ((adv s).p+l.length)).t=aj6 from k5];exact fun h=>absurd h.2 (by decide))
  refine Ev.step (h:=fun f=>ga8 T k (adv s)) (fun f=>?_) (evc ?_)
  ·rcases hk with⟨rfl,rfl⟩ | ⟨rfl,rfl⟩
   ·rw[xQ,cR k2 (by decide),if_neg (by decide),cR k2 (by decide),if_neg (by decide),cR k2 (by decide),if_neg (by decide),cR k2 (by decide),if_neg (by decide),if_pos (in9 k2)]
   ·rw[xQ,cR k2 (by decide),if_neg (by decide),cR k2 (by decide),if_neg (by decide),cR k2 (by decide),if_neg (by decide),cR k2 (by decide),if_neg (by decide),cR k2 (by decide),if_neg (by decide),if_pos (in9 k2)]
  ·unfold ga8
   rw[hl]
   refine(iq0 k5).trans ?_
   simp only[adv,go,List.length_cons,List.length_append,List.length_nil,List.append_nil]
   congr 2
   omega
 |await i c y m e n u x l d hC hP=>
  intro s hA hd hv hf
  obtain⟨⟨_,k2,_⟩,hA⟩:=hA
  have k2:(T s.p).t=tS:=k2
  obtain⟨hA,⟨_,k5,_⟩,hB⟩:=hA.app
  obtain⟨hB,⟨_,k8,_⟩,_⟩:=hB.app
  have hl:=it4 hP (s:=adv (go (adv s) m.length)) hB (by rw[show(T ((adv (go (adv s) m.length)).p+l.length)).t=aj6 from k8];exact fun h=>absurd h.2 (by decide))
  refine Ev.step (h:=fun f=>dn2 T f (adv s)) (fun f=>by rw[xQ,cR k2 (by decide),if_neg (by decide),cR k2 (by decide),if_neg (by decide),cR k2 (by decide),if_neg (by decide),if_pos (in9 k2)]) ?_
  unfold dn2
  refine Ev.bind (hh8 hC (s:=adv s) hA hd k5 (by decide) (by decide)) (Ev.bind (evc (io8 k5)) (evc ?_))
  show(tA T (adv (go (adv s) m.length))).bind _=_
  rw[hl]
  refine(iq0 k8).trans ?_
  simp only[adv,go,List.length_cons,List.length_append,List.length_nil,List.append_nil]
  congr 2
  omega
 |one i k w a x l d hk hP=>
  intro s hA hd hv hf
  obtain⟨⟨_,k2,_⟩,hA⟩:=hA
  have k2:(T s.p).t=w:=k2
  obtain⟨hA,⟨_,k5,_⟩,_⟩:=hA.app
  refine Ev.step (h:=fun f=>oneP T f k (adv s)) (fun f=>?_) ?_
  ·rcases hk with⟨rfl,rfl⟩ | ⟨rfl,rfl⟩
   ·rw[xQ,cR k2 (by decide),if_neg (by decide),cR k2 (by decide),if_neg (by decide),cR k2 (by decide),if_neg (by decide),cR k2 (by decide),if_neg (by decide),cR k2 (by decide),if_neg (by decide),cR k2 (by decide),if_neg (by decide),if_pos (in9 k2)]
   ·rw[xQ,cR k2 (by decide),if_neg (by decide),cR k2 (by decide),if_neg (by decide),cR k2 (by decide),if_neg (by decide),cR k2 (by decide),if_neg (by decide),cR k2 (by decide),if_neg (by decide),cR k2 (by decide),if_neg (by decide),cR k2 (by decide),if_neg (by decide),if_pos (in9 k2)]
  ·unfold oneP
   refine Ev.bind (hh8 hP (s:=adv s) hA hd k5 (by decide) (by decide)) (evc ((iq0 k5).trans ?_))
   simp only[adv,go,List.length_cons,List.length_append,List.length_nil,List.append_nil]
   congr 2
   omega
 |use i j n u x l d h0 h1 hP=>
  intro s hA hd hv hf
  obtain⟨⟨_,k2,_⟩,⟨k4,_,k6⟩,⟨_,k8,_⟩,hA⟩:=hA
  have k2:(T s.p).t=an0:=k2
  have k6:(T (s.p+1)).n=j:=k6
  have k8:(T (s.p+1+1)).t=al3:=k8
  obtain⟨hA,⟨_,k11,_⟩,_⟩:=hA.app
  have hl:=it4 hP (s:=adv (adv (adv s))) hA (by rw[show(T ((adv (adv (adv s))).p+l.length)).t=aj6 from k11];exact fun h=>absurd h.2 (by decide))
  refine Ev.step (h:=fun f=>fq6 T 9 al3 (adv s)) (fun f=>?_) (evc ?_)
  ·rw[xQ,cR k2 (by decide),if_neg (by decide),cR k2 (by decide),if_neg (by decide),cR k2 (by decide),if_neg (by decide),cR k2 (by decide),if_neg (by decide),cR k2 (by decide),if_neg (by decide),cR k2 (by decide),if_neg (by decide),cR k2 (by decide),if_neg (by decide),cR k2 (by decide),if_neg (by decide),if_pos (in9 k2)]
  ·unfold fq6
   rw[iq9 (s:=adv s) k4 k6 h0 h1]
   show(y7 T al3 (adv (adv s))).bind _=_
   rw[io8 (s:=adv (adv s)) k8]
   show(tA T (adv (adv (adv s)))).bind _=_
   rw[hl]
   refine(iq0 k11).trans ?_
   simp only[adv,go,List.length_cons,List.length_append,List.length_nil,List.append_nil]
   congr 2
   omega
 |send i j n u x l d h0 h1 hP=>
  intro s hA hd hv hf
  obtain⟨⟨_,k2,_⟩,⟨k4,_,k6⟩,⟨_,k8,_⟩,hA⟩:=hA
  have k2:(T s.p).t=ac9:=k2
  have k6:(T (s.p+1)).n=j:=k6
  have k8:(T (s.p+1+1)).t=mN:=k8
  obtain⟨hA,⟨_,k11,_⟩,_⟩:=hA.app
  have hl:=it4 hP (s:=adv (adv (adv s))) hA (by rw[show(T ((adv (adv (adv s))).p+l.length)).t=aj6 from k11];exact fun h=>absurd h.2 (by decide))
  refine Ev.step (h:=fun f=>fq6 T 10 mN (adv s)) (fun f=>?_) (evc ?_)
  ·rw[xQ,cR k2 (by decide),if_neg (by decide),cR k2 (by decide),if_neg (by decide),cR k2 (by decide),if_neg (by decide),cR k2 (by decide),if_neg (by decide),cR k2 (by decide),if_neg (by decide),cR k2 (by decide),if_neg (by decide),cR k2 (by decide),if_neg (by decide),cR k2 (by decide),if_neg (by decide),cR k2 (by decide),if_neg (by decide),if_pos (in9 k2)]
  ·unfold fq6
   rw[iq9 (s:=adv s) k4 k6 h0 h1]
   show(y7 T mN (adv (adv s))).bind _=_
   rw[io8 (s:=adv (adv s)) k8]
   show(tA T (adv (adv (adv s)))).bind _=_
   rw[hl]
   refine(iq0 k11).trans ?_
   simp only[adv,go,List.length_cons,List.length_append,List.length_nil,List.append_nil]
   congr 2
   omega
 |nmb i k w j hk h0=>
  intro s hA hd hv hf
  obtain⟨⟨_,k2,_⟩,⟨k4,_,k6⟩,⟨_,k8,_⟩,_⟩:=hA
  have k2:(T s.p).t=w:=k2
  have k6:(T (s.p+1)).n=j:=k6
  have k8:(T (s.p+1+1)).t=aj6:=k8
  have fin:∀hi,j≤hi→fu2 T k hi (adv s)= .ok (.node k j ⟨#[]⟩ []) {p:=s.p+[tkW w,tkN j,tkY aj6].length,o:=s.o,vs:=s.vs++[]}:=by
   intro hi h1
   unfold fu2
   rw[iq9 (s:=adv s) k4 k6 h0 h1]
   refine(iq0 k8).trans ?_
   simp only[adv,go,List.length_cons,List.length_nil,List.append_nil]
  rcases hk with⟨rfl,rfl,h1⟩ | ⟨rfl,rfl,h1⟩
  ·refine Ev.step (h:=fun f=>fu2 T 12 99 (adv s)) (fun f=>?_) (evc (fin 99 h1))
   rw[xQ,cR k2 (by decide),if_neg (by decide),cR k2 (by decide),if_neg (by decide),cR k2 (by decide),if_neg (by decide),cR k2 (by decide),if_neg (by decide),cR k2 (by decide),if_neg (by decide),cR k2 (by decide),if_neg (by decide),cR k2 (by decide),if_neg (by decide),cR k2 (by decide),if_neg (by decide),cR k2 (by decide),if_neg (by decide),cR k2 (by decide),if_neg (by decide),if_pos (in9 k2)]
  ·refine Ev.step (h:=fun f=>fu2 T 13 999 (adv s)) (fun f=>?_) (evc (fin 999 h1))
   rw[xQ,cR k2 (by decide),if_neg (by decide),cR k2 (by decide),if_neg (by decide),cR k2 (by decide),if_neg (by decide),cR k2 (by decide),if_neg (by decide),cR k2 (by decide),if_neg (by decide),cR k2 (by decide),if_neg (by decide),cR k2 (by decide),if_neg (by decide),cR k2 (by decide),if_neg (by decide),cR k2 (by decide),if_neg (by decide),cR k2 (by decide),if_neg (by decide),cR k2 (by decide),if_neg (by decide),if_pos (in9 k2)]
 |nil i=>
  intro s hA hd hv
  obtain⟨⟨_,k2,_⟩,_⟩:=hA
  have k2:(T s.p).t=dk1:=k2
  refine Ev.step (h:=fun f=>.ok [] (adv s)) (fun f=>by rw[dZ,if_pos (in9 k2)]) (evc ?_)
  simp only[adv,List.length_nil,List.append_nil,Nat.add_zero]
 |cons i t ts x l d v xs ls ds vs h1 h2 ih1 ih2=>
  intro s hA hd hv
  rw[List.append_assoc]at hA
  obtain⟨hA1,hA2⟩:=hA.app
  obtain⟨y,m,e1,f1,f2⟩:=ir8 h1
  have hne:(T (s.p+l.length)).t≠oO:=by
   cases h2 with
   |nil=>rw[hA2.1.2.1];decide
   |cons _ t' ts' x' l' d' v' xs' ls' ds' vs' g1 g2=>
    obtain⟨y',m',e',f1',f2'⟩:=ir8 g1
    rw[e']at hA2
    rw[hA2.1.2.1];exact f2'
  have hno:isP T dk1 s=false:=by
   rw[e1]at hA1
   exact cR hA1.1.2.1 f1
  refine Ev.step (h:=fun f=>(xQ T f s).bind fun n s1=>(dZ T f s1).bind fun l s2=>.ok (n::l) s2) (fun f=>by rw[dZ,if_neg (by rw[hno];decide)]) ?_
  refine Ev.bind (ih1 s hA1 (by omega) hv.left hne) (Ev.bind (ih2 {p:=s.p+l.length,o:=s.o,vs:=s.vs++v} hA2 (by show s.o+ds≤12;omega) (hv.right rfl)) (evc ?_))
  simp only[List.length_append,List.append_assoc]
  congr 2
  omega
def ih4(m:Prm):List Tkn:=tkW m.x::(if m.u=⟨#[]⟩then[]else[tkY cl8,tkW m.u])
def ay5(m:Prm):List UInt8:=bL m.x++(if m.u=⟨#[]⟩then[]else 58::32::bL m.u)
def hp7:List Prm→List Tkn
 | []=>[]
 | [m]=>ih4 m
 |m::n::l=>ih4 m++tkY mN::hp7 (n::l)
def cK:List Prm→List UInt8
 | []=>[]
 | [m]=>ay5 m
 |m::n::l=>ay5 m++44::32::cK (n::l)
def az7(m:Prm):Prop:=am8 m.x∧(m.u=⟨#[]⟩∨m.u∈ad0)
structure PrP(c:Prc)(x:List UInt8)(l:List Tkn):Prop where
 mk'::
 nm:am8 c.x
 pm:∀m∈c.ps,az7 m
 bd:∃ys xy ly dy vy,PrS 1 (.inr ys) xy ly dy vy∧c.b= .node 14 0 ⟨#[]⟩ ys∧dy+1≤12∧(c.ps.map Prm.x++vy).Nodup∧(c.ps.map Prm.x++vy).length≤12∧
  x=bL w_procedure++32::(bL c.x++40::(cK c.ps++41::32::123::10::(xy++[125,10])))∧l=tkW w_procedure::tkW c.x::tkY nG::(hp7 c.ps++tkY jS::tkY cv8::(ly++[tkY dk1]))
theorem ja1{m:Prm}(h:az7 m){s:PS}(hA:At T s.p (ih4 m))(hv:Ok1 s [m.x])(hc:(T (s.p+(ih4 m).length)).t≠cl8):ga3 T s= .ok m {p:=s.p+(ih4 m).length,o:=s.o,vs:=s.vs++[m.x]}:=by
 obtain⟨x,u⟩:=m
 obtain⟨⟨h1,_⟩,h2⟩:=h
 have hnd:x∉s.vs:=by
  have:=List.nodup_append.1 hv.1
  intro hm
  exact this.2.2 x hm x (by simp) rfl
 have hl:s.vs.length<12:=by have:=hv.2;rw[List.length_append]at this;simp at this;omega
 unfold ih4 at hA hc⊢
 dsimp only at hA hc⊢
 unfold ga3
 by_cases hu:u=⟨#[]⟩
 ·subst hu
  rw[if_pos rfl]at hA hc⊢
  rw[it9 hA.1.1 hA.1.2.1 h1 hnd hl]
  show(if isP T cl8 _=true then _ else _)=_
  rw[cR rfl hc,if_neg (by decide)]
  rfl
 ·rw[if_neg hu]at hA hc⊢
  obtain⟨⟨k1,k2,_⟩,⟨_,k5,_⟩,⟨k7,k8,_⟩,_⟩:=hA
  have k8:(T (s.p+1+1)).t=u:=k8
  rw[it9 k1 k2 h1 hnd hl]
  show(if isP T cl8 _=true then(if(T (s.p+1+1)).k≠1 then _ else if vW (T (s.p+1+1)).t=false then _ else PR.ok (Prm.mk x (T (s.p+1+1)).t) _)else _)=_
  have hu2:vW u=true:=by
   rcases h2 with h2|h2
   ·exact absurd h2 hu
   ·exact inP_iff.2 h2
  have k7:(T (s.p+1+1)).k=1:=k7
  rw[if_pos (in9 k5),k7,if_neg (by decide),k8,hu2,if_neg (by decide)]
  rfl
theorem ix6:∀{l:List Prm} {s:PS},l≠[]→(∀m∈l,az7 m)→At T s.p (hp7 l++[tkY jS])→Ok1 s (l.map Prm.x)→Ev (fun f=>cf6 T f s) (.ok l {p:=s.p+(hp7 l).length+1,o:=s.o,vs:=s.vs++l.map Prm.x})
 | [],s,h0,_,_,_=>absurd rfl h0
 | [m],s,_,hm,hA,hv=>by
  obtain⟨hA1,⟨_,k2,_⟩,_⟩:=hA.app
  have k2:(T (s.p+(ih4 m).length)).t=jS:=k2
  refine Ev.step (h:=fun f=>(ga3 T s).bind fun x s1=>if isP T mN s1=true then(cf6 T f (adv s1)).bind fun l s2=>.ok (x::l) s2 else(y7 T jS s1).bind fun _ s2=>.ok [x] s2) (fun f=>by rw[cf6]) ?_
  refine Ev.bind (evc (ja1 (hm m (by simp)) hA1 hv (by rw[k2];decide))) ?_
  refine Ev.congr (fun f=>if_neg (by rw[cR (s:={p:=s.p+(ih4 m).length,o:=s.o,vs:=s.vs++[m.x]}) k2 (by decide)];decide)) (evc ?_)
  rw[io8 (s:={p:=s.p+(ih4 m).length,o:=s.o,vs:=s.vs++[m.x]}) k2]
  rfl
 |m::n::l,s,_,hm,hA,hv=>by
  rw[show hp7 (m::n::l)++[tkY jS]=ih4 m++tkY mN::(hp7 (n::l)++[tkY jS])by simp[hp7]]at hA
  obtain⟨hA1,⟨_,k2,_⟩,hA2⟩:=hA.app
  have k2:(T (s.p+(ih4 m).length)).t=mN:=k2
  have hv:Ok1 s ([m.x]++(n::l).map Prm.x):=hv
  refine Ev.step (h:=fun f=>(ga3 T s).bind fun x s1=>if isP T mN s1=true then(cf6 T f (adv s1)).bind fun l s2=>.ok (x::l) s2 else(y7 T jS s1).bind fun _ s2=>.ok [x] s2) (fun f=>by rw[cf6]) ?_
  refine Ev.bind (evc (ja1 (hm m (by simp)) hA1 hv.left (by rw[k2];decide))) ?_
  refine Ev.congr (fun f=>if_pos (in9 (s:={p:=s.p+(ih4 m).length,o:=s.o,vs:=s.vs++[m.x]}) k2)) ?_
  refine Ev.bind (ix6 (l:=n::l) (s:={p:=s.p+(ih4 m).length+1,o:=s.o,vs:=s.vs++[m.x]}) (by simp) (fun m' h=>hm m' (by simp at h⊢;exact .inr h)) hA2 (hv.right rfl)) (evc ?_)
  simp only[hp7,List.length_append,List.length_cons,List.map_cons,List.append_assoc,List.cons_append,List.nil_append]
  congr 2
  omega
theorem jc1{c:Prc}{x:List UInt8}{l:List Tkn}(h:PrP c x l){pr:List ByteArray}{s:PS}(hA:At T s.p l)(ho:s.o=0)(hn:c.x∉pr):∃v,Ev (fun f=>aj7 T f pr s) (.ok c {p:=s.p+l.length,o:=0,vs:=v}):=by
 obtain⟨⟨hr,_⟩,hm,ys,xy,ly,dy,vy,hS,hb,hd,hv1,hv2,rfl,rfl⟩:=h
 obtain⟨cx,ps,cb⟩:=c
 dsimp only at*
 subst hb
 obtain⟨⟨_,k2,_⟩,⟨k4,k5,_⟩,⟨_,k8,_⟩,hA⟩:=hA
 have k5:(T (s.p+1)).t=cx:=k5
 obtain⟨hA,hB⟩:=hA.app
 refine⟨ps.map Prm.x++vy,?_⟩
 unfold aj7
 refine Ev.bind (evc (io8 k2)) (Ev.bind (evc (iu3 (s:=adv s) k4 k5 hr)) ?_)
 refine Ev.congr (fun f=>if_neg (by rw[ja0 hn];decide)) ?_
 have hps:Ev (fun f=>mC T f {(adv (adv s))with vs:=[]}) (.ok ps {p:=s.p+1+1+1+(hp7 ps).length+1,o:=s.o,vs:=ps.map Prm.x}):=by
  unfold mC
  refine Ev.bind (evc (io8 (s:={(adv (adv s))with vs:=[]}) k8)) ?_
  cases ps with
  |nil=>
   have k9:(T (s.p+1+1+1)).t=jS:=hB.1.2.1
   refine Ev.congr (fun f=>if_pos (in9 (s:=adv {(adv (adv s))with vs:=[]}) k9)) (evc rfl)
  |cons m ps=>
   have hfst:(T (s.p+1+1+1)).t=m.x:=by
    have:∀ps:List Prm,∃r,hp7 (m::ps)=tkW m.x::r:=by
     intro ps
     cases ps with
     |nil=>exact⟨_,rfl⟩
     |cons a b=>exact⟨_,rfl⟩
    obtain⟨r,e⟩:=this ps
    rw[e]at hA
    exact hA.1.2.1
   have hnp:m.x≠jS:=by
    intro e
    obtain⟨_,_,c,l,e1,h1,_⟩:=(hm m (by simp)).1
    rw[e]at e1
    simp at e1;obtain⟨rfl,_⟩:=e1;exact absurd h1 (by decide)
   refine Ev.congr (fun f=>if_neg (by rw[cR (s:=adv {(adv (adv s))with vs:=[]}) hfst hnp];decide)) ?_
   have qC:∀{a b:List Tkn} {p:Nat},At T p a→At T (p+a.length) b→At T p (a++b):=by
    intro a
    induction a with
    |nil=>intro b p _ h;simpa using h
    |cons z a iha=>intro b p h1 h2;exact⟨h1.1,iha h1.2 (by rw[show p+1+a.length=p+(z::a).length by simp only[List.length_cons];omega];exact h2)⟩
   have hok:Ok1 (adv {(adv (adv s))with vs:=[]}) ((m::ps).map Prm.x):=by
    refine⟨?_,?_⟩
    ·show([]++(m::ps).map Prm.x).Nodup
     rw[List.nil_append]
     exact(List.nodup_append.1 hv1).1
    ·show([]++(m::ps).map Prm.x).length≤12
     rw[List.nil_append]
     rw[List.length_append]at hv2;omega
   have:=ix6 (T:=T) (l:=m::ps) (s:=adv {(adv (adv s))with vs:=[]}) (by simp) hm (qC hA ⟨hB.1,trivial⟩) hok
   exact this
 refine Ev.bind hps ?_
 have hbl:=ip3 (T:=T) (iy6 hS) (s:={p:=s.p+1+1+1+(hp7 ps).length+1,o:=s.o,vs:=ps.map Prm.x}) hB.2 (by show s.o+(dy+1)≤12;omega) ⟨hv1,hv2⟩
 refine Ev.bind hbl (evc ?_)
 simp only[List.length_cons,List.length_append,List.length_nil,ho]
 congr 2
 omega
inductive PrPs:List Prc→List UInt8→List Tkn→Prop
 |nil:PrPs [] [] []
 |cons (c:Prc) (cs:List Prc) (x:List UInt8) (l:List Tkn) (xs:List UInt8) (ls:List Tkn):PrP c x l→PrPs cs xs ls→PrPs (c::cs) (x++xs) (l++ls)
theorem jb1{c:Prc}{x:List UInt8}{l:List Tkn}(h:PrP c x l):∃r,l=tkW w_procedure::r:=by
 obtain⟨_,_,ys,xy,ly,dy,vy,hS,hb,hd,hv1,hv2,rfl,rfl⟩:=h
 exact⟨_,rfl⟩
theorem iz4{cs:List Prc}{x:List UInt8}{l:List Tkn}(h:PrPs cs x l):∀{pr:List ByteArray} {s:PS},At T s.p l→s.o=0→(T (s.p+l.length)).k=0→(pr++cs.map Prc.x).Nodup→∃s',Ev (fun f=>s5 T f pr s) (.ok cs s'):=by
 induction h with
 |nil=>
  intro pr s _ _ hk _
  have hk:(T s.p).k=0:=hk
  exact⟨s,Ev.step (h:=fun f=>.ok [] s) (fun f=>by rw[s5,if_pos hk]) Ev.const⟩
 |cons c cs x l xs ls hP _ ih=>
  intro pr s hA ho hk hn
  obtain⟨hA1,hA2⟩:=hA.app
  have hcx:c.x∉pr:=by
   have:=List.nodup_append.1 hn
   intro hm
   exact this.2.2 c.x hm c.x (by simp) rfl
  obtain⟨v,hc⟩:=jc1 hP hA1 ho hcx
  obtain⟨s',hs'⟩:=ih (pr:=pr++[c.x]) (s:={p:=s.p+l.length,o:=0,vs:=v}) hA2 rfl (by
   show(T (s.p+l.length+ls.length)).k=0
   rw[List.length_append,←Nat.add_assoc]at hk
   exact hk) (by rw[List.append_assoc];exact hn)
  refine⟨s',Ev.step (h:=fun f=>(aj7 T f pr s).bind fun x s1=>(s5 T f (pr++[x.x]) s1).bind fun l s2=>.ok (x::l) s2) (fun f=>?_) (Ev.bind hc (Ev.bind hs' Ev.const))⟩
  obtain⟨r,rfl⟩:=jb1 hP
  have hk1:(T s.p).k=1:=hA1.1.1
  rw[s5,if_neg (by rw[hk1];decide)]
end
end Go.Proofs.Lx
/- Plain: the text of procedures has its tokens; what is printed is read. -/
namespace Go.Proofs.Lx
open Go Go.Proofs.YtjfkkokeegpeiaaGreatDoor
set_option maxRecDepth 100000
theorem in6{r:List UInt8}{m:List Tkn}(h:Ls r m):∀n,Ls (List.replicate n 32++r) m
 |0=>by simpa using h
 |n+1=>by rw[List.replicate_succ,List.cons_append];exact dO (in6 h n)
theorem iy8{r:List UInt8}{m:List Tkn}(h:Ls r m):Ls (10::r) m:=.white (by decide) h
theorem in8{w:ByteArray}(hw:inP keywords w=true){r:List UInt8}{m:List Tkn}(h:Ls r m):Ls (bL w++32::r) (tkW w::m):=aw9 (ar1 w (inP_iff.1 hw)) (bk7 (by decide)) (dO h)
theorem ip2{r:List UInt8}{m:List Tkn}(h:Ls r m):Ls (59::10::r) (tkY aj6::m):=wF (c:=59) (by decide) (au5 (by decide)) (iy8 h)
theorem iq4{r:List UInt8}{m:List Tkn}(h:Ls r m):Ls (123::10::r) (tkY cv8::m):=wF (c:=123) (by decide) (au5 (by decide)) (iy8 h)
theorem iq2{r:List UInt8}{m:List Tkn}(i:Nat)(h:Ls r m):Ls (j5 i++125::10::r) (tkY dk1::m):=in6 (wF (c:=125) (by decide) (au5 (by decide)) (iy8 h)) _
theorem iz7{r:List UInt8}{m:List Tkn}(h:Ls r m):Ls (61::32::r) (tkY cm8::m):=wF (c:=61) (by decide) (au5 (by decide)) (dO h)
theorem io1{t:Tr}{x:List UInt8}{l:List Tkn}{d:Nat}(h:Pr t x l d){c:UInt8}(hc:aE c.toNat=false∧c≠61){r:List UInt8}{m:List Tkn}(g:Ls (c::r) m):Ls (x++c::r) (l++m):=ia2 h _ _ (bk7 hc.1) (au5 hc.2) g
theorem ir6:aE (59:UInt8).toNat=false∧(59:UInt8)≠61:=by decide
theorem ja6:aE (32:UInt8).toNat=false∧(32:UInt8)≠61:=by decide
theorem jb5{i:Nat}{z:Tr⊕List Tr}{x:List UInt8}{l:List Tkn}{d:Nat}{v:List ByteArray}(h:PrS i z x l d v):∀(r:List UInt8) (m:List Tkn),Ls r m→Ls (x++r) (l++m):=by
 induction h with
 |«let» i y a x l d hn hP=>
  intro r m h
  have:=in6 (in8 (w:=bk8) (by decide) (aw9 hn.2 (bk7 (by decide)) (dO (iz7 (io1 hP ir6 (ip2 h)))))) (2*i)
  simpa[j5,bL,mkB]using this
 |set i y a x l d hn hP=>
  intro r m h
  have:=in6 (aw9 hn.2 (bk7 (c:=32) (by decide)) (dO (iz7 (io1 hP ir6 (ip2 h))))) (2*i)
  simpa[j5,bL,mkB]using this
 |cond i c ys x l d xy ly dy vy hP hY ih=>
  intro r m h
  have:=in6 (in8 (w:=sU) (by decide) (io1 hP ja6 (dO (iq4 (ih _ _ (iq2 i h)))))) (2*i)
  simpa[j5,bL,mkB]using this
 |both i c ys n0 ns x l d xy ly dy vy xn ln dn vn hP hY hN ih1 ih2=>
  intro r m h
  have:=in6 (in8 (w:=sU) (by decide) (io1 hP ja6 (dO (iq4 (ih1 _ _ (in6 (wF (c:=125) (by decide) (au5 (by decide)) (dO (in8 (w:=oO) (by decide) (iq4 (ih2 _ _ (iq2 i h)))))) (2*i))))))) (2*i)
  simpa[j5,bL,mkB]using this
 |rep i n ys xy ly dy vy h0 h1 hY ih=>
  intro r m h
  have:=in6 (in8 (w:=bX) (by decide) (gu8 (n:=n) (show 0≤n by omega) (show n≤2147483647 by omega) (bk7 (by decide)) (dO (iq4 (ih _ _ (iq2 i h)))))) (2*i)
  simpa[j5,bL,mkB]using this
 |amt i k w n u x l d hk hP=>
  intro r m h
  have hw:inP keywords w=true:=by rcases hk with⟨_,rfl⟩ | ⟨_,rfl⟩<;>decide
  have:=in6 (in8 hw (io1 hP ir6 (ip2 h))) (2*i)
  simpa[j5,bL,mkB]using this
 |await i c y m e n u x l d hC hP=>
  intro r k h
  have:=in6 (in8 (w:=tS) (by decide) (io1 hC ja6 (dO (in8 (w:=jF) (by decide) (io1 hP ir6 (ip2 h)))))) (2*i)
  simpa[j5,bL,mkB]using this
 |one i k w a x l d hk hP=>
  intro r m h
  have hw:inP keywords w=true:=by rcases hk with⟨_,rfl⟩ | ⟨_,rfl⟩<;>decide
  have:=in6 (in8 hw (io1 hP ir6 (ip2 h))) (2*i)
  simpa[j5,bL,mkB]using this
 |use i j n u x l d h0 h1 hP=>
  intro r m h
  have:=in6 (in8 (w:=an0) (by decide) (gu8 h0 (show j≤2147483647 by omega) (bk7 (by decide)) (dO (in8 (w:=al3) (by decide) (io1 hP ir6 (ip2 h)))))) (2*i)
  simpa[j5,bL,mkB]using this
 |send i j n u x l d h0 h1 hP=>
  intro r m h
  have:=in6 (in8 (w:=ac9) (by decide) (gu8 h0 (show j≤2147483647 by omega) (bk7 (by decide)) (wF (c:=44) (by decide) (au5 (by decide)) (dO (io1 hP ir6 (ip2 h)))))) (2*i)
  simpa[j5,bL,mkB]using this
 |nmb i k w j hk h0=>
  intro r m h
  have hw:inP keywords w=true:=by rcases hk with⟨_,rfl,_⟩ | ⟨_,rfl,_⟩<;>decide
  have hj:j≤2147483647:=by rcases hk with⟨_,_,_⟩ | ⟨_,_,_⟩<;>omega
  have:=in6 (in8 hw (gu8 h0 hj (bk7 (by decide)) (ip2 h))) (2*i)
  simpa[j5,bL,mkB]using this
 |nil i=>intro r m h;exact h
 |cons i t ts x l d v xs ls ds vs h1 h2 ih1 ih2=>
  intro r m h
  have:=ih1 _ _ (ih2 _ _ h)
  simpa using this
theorem ix1{m:Prm}(h:az7 m){c:UInt8}(hc:aE c.toNat=false∧c≠61){r:List UInt8}{k:List Tkn}(g:Ls (c::r) k):Ls (ay5 m++c::r) (ih4 m++k):=by
 obtain⟨x,u⟩:=m
 obtain⟨⟨_,h1⟩,h2⟩:=h
 unfold ay5 ih4
 dsimp only at*
 by_cases hu:u=⟨#[]⟩
 ·rw[if_pos hu,if_pos hu]
  have:=aw9 h1 (bk7 (r:=r) hc.1) g
  simpa[bL,mkB]using this
 ·rw[if_neg hu,if_neg hu]
  have hu2:bx0 u:=by
   rcases h2 with h2|h2
   ·exact absurd h2 hu
   ·exact ep6 u h2
  have:=aw9 h1 (bk7 (c:=58) (by decide)) (wF (c:=58) (by decide) (au5 (by decide)) (dO (aw9 hu2 (bk7 (r:=r) hc.1) g)))
  simpa[bL,mkB]using this
theorem iu7:∀{l:List Prm},(∀m∈l,az7 m)→∀{r:List UInt8} {k:List Tkn},Ls (41::r) k→Ls (cK l++41::r) (hp7 l++k)
 | [],_,r,k,h=>h
 | [m],hm,r,k,h=>ix1 (hm m (by simp)) (by decide) h
 |m::n::l,hm,r,k,h=>by
  have h1:=iu7 (l:=n::l) (fun m' h=>hm m' (by simp at h⊢;exact .inr h)) h
  have:=ix1 (hm m (by simp)) (c:=44) (by decide) (wF (c:=44) (by decide) (au5 (by decide)) (dO h1))
  simpa[cK,hp7,mkB]using this
theorem jb7{c:Prc}{x:List UInt8}{l:List Tkn}(h:PrP c x l){r:List UInt8}{m:List Tkn}(g:Ls r m):Ls (x++r) (l++m):=by
 obtain⟨⟨_,hn⟩,hm,ys,xy,ly,dy,vy,hS,hb,hd,hv1,hv2,rfl,rfl⟩:=h
 have h1:Ls (125::10::r) (tkY dk1::m):=iq2 0 g
 have h2:=jb5 hS _ _ h1
 have h3:=iu7 hm (wF (c:=41) (by decide) (au5 (by decide)) (dO (iq4 h2)))
 have hne:ec8 (cK c.ps++41::32::123::10::(xy++125::10::r)):=by
  cases e:c.ps with
  |nil=>exact au5 (by decide)
  |cons p ps=>
   have hw:=(hm p (by rw[e];simp)).1.2
   have:Hd (cK (p::ps)):=by
    cases ps with
    |nil=>exact ce3 (fi4 hw)
    |cons a b=>exact ce3 (ce3 (fi4 hw))
   exact do9 (ce3 this)
 have:=in8 (w:=w_procedure) (by decide) (aw9 hn (bk7 (c:=40) (by decide)) (wF (c:=40) (by decide) hne h3))
 simpa[bL,mkB]using this
theorem iz1{cs:List Prc}{x:List UInt8}{l:List Tkn}(h:PrPs cs x l):Ls x l:=by
 induction h with
 |nil=>exact .nil
 |cons c cs x l xs ls hP _ ih=>exact jb7 hP ih
theorem ja8{s:ByteArray}{ts l:List Tkn}(h:Same3 ts l):At (dL s ts) 0 l:=by
 have key:∀{ts l:List Tkn},Same3 ts l→∀(T:Nat→Tkn) (p:Nat),(∀j (hj:j<ts.length),T (p+j)=ts[j])→At T p l:=by
  intro ts l h
  induction h with
  |nil=>intro T p _;trivial
  |cons h1 _ ih=>
   intro T p hT
   have h0:=hT 0 (by simp)
   refine⟨?_,ih T (p+1) fun j hj=>?_⟩
   ·rw[Nat.add_zero]at h0
    rw[h0];exact h1
   ·have:=hT (j+1) (by simpa using hj)
    rw[show p+1+j=p+(j+1)by omega,this]
    rfl
 refine key h _ 0 fun j hj=>?_
 unfold dL
 rw[Nat.zero_add,List.getD_eq_getElem?_getD,List.getElem?_eq_getElem hj]
 rfl
theorem iv5{s:ByteArray}{l:List Tkn}{cs:List Prc}(hl:Ls s.data.toList l)(hs:s.size≤4000)(h:∀T:Nat→Tkn,At T 0 l→(T l.length).k=0→∃s',Ev (fun f=>s5 T f [] ⟨0,0,[]⟩) (.ok cs s')):ParseR s (cs,0,0):=by
 obtain⟨ts,h1,h2⟩:=ix8 hl hs
 have hN:=cf4 (s:=s) (acc:=ts) h1
 have hend:(dL s ts l.length).k=0:=by
  unfold dL
  rw[List.getD_eq_getElem?_getD,List.getElem?_eq_none (by rw[h2.len];exact Nat.le_refl _)]
  rfl
 obtain⟨s',f0,hf⟩:=h (dL s ts) (ja8 h2) hend
 have hr:=bs3 s
 have e:s5 (dL s ts) cy2 [] ⟨0,0,[]⟩= .ok cs s':=by
  obtain⟨r,hr,_⟩:=bs3 s
  have hno:s5 (dL s ts) cy2 [] ⟨0,0,[]⟩≠ .out:=by
   cases hr with
   |lex p e g1 g2=>exact absurd (congrArg (fun r=>r.2.2) (wT g1 h1)) g2
   |ok acc l s'' g1 g2 g3=>
    obtain rfl:=bg2 h1 g1
    rw[g3];intro e;cases e
   |err acc p c g1 g2 g3 g4=>
    obtain rfl:=bg2 h1 g1
    rw[g4];intro e;cases e
  have:=iu6 (T:=dL s ts) (U:=dL s ts) (fun j=>⟨rfl,rfl,rfl⟩) (Nat.le_max_right f0 cy2) [] ⟨0,0,[]⟩ hno
  rw[←this]
  exact hf _ (Nat.le_max_left _ _)
 exact .ok ts cs s' h1 hN e
theorem ir9{cs:List Prc}{x:List UInt8}{l:List Tkn}(h:PrPs cs x l)(hn:(cs.map Prc.x).Nodup){s:ByteArray}(he:s.data.toList=x)(hs:s.size≤4000):ParseR s (cs,0,0):=
 iv5 (by rw[he];exact iz1 h) hs fun T hA hk=>iz4 h hA rfl (by rw[Nat.zero_add];exact hk) hn
end Go.Proofs.Lx
/- The printer of the program, lifted: statements. -/
namespace Go.Proofs.YtjfkkokeegpeiaaGreatDoor
open Go Go.Am Go.Proofs Go.Proofs.Lx
set_option maxRecDepth 100000
abbrev ef4:Type:=Int×Int×Int×ByteArray×Nat×FI×FI×FS×FN×FM
abbrev ep0:Type:=ByteArray×Int×Int×ByteArray×Nat×FI×FI×FS×FN×FM
def cn9:AR ef4:=fun x=>([i64 x.1,.ptr 0 0],[some (.blk [i64 x.2.1,i64 x.2.2.1,st x.2.2.2.1,.ro 4 x.2.2.2.2.1 (fun j=>[i64 (x.2.2.2.2.2.1 j),i64 (x.2.2.2.2.2.2.1 j),st (x.2.2.2.2.2.2.2.1 j),.ro 4 (x.2.2.2.2.2.2.2.2.1 j) (x.2.2.2.2.2.2.2.2.2 j)])])])
def ik7(t:TT):ef4:=((vI (ag t 0)),vI (cc t 0 0),vI (cc t 0 1),vS (cc t 0 2),u7 (cc t 0 3),dTI (cc t 0 3) 0,dTI (cc t 0 3) 1,dTS (cc t 0 3) 2,dTN (cc t 0 3) 3,dTF (cc t 0 3) 3)
theorem ig7:VI cn9:=vd ik7 fun _=>rfl
def fk5:ep0→CRes:=fun z=>.ret (st z.1) [some (.blk [i64 z.2.1,i64 z.2.2.1,st z.2.2.2.1,.ro 4 z.2.2.2.2.1 (fun j=>[i64 (z.2.2.2.2.2.1 j),i64 (z.2.2.2.2.2.2.1 j),st (z.2.2.2.2.2.2.2.1 j),.ro 4 (z.2.2.2.2.2.2.2.2.1 j) (z.2.2.2.2.2.2.2.2.2 j)])])]
def da0{β:Type}(c_ExprV:cb5→Option df9)(x:ef4)(dn:ep0→Option β):Option β:=
 if 0≤x.1∧x.1< ((x.2.2.2.2.1:Nat):Int)then(c_ExprV (x.2.2.2.2.2.1 (Int.toNat x.1),x.2.2.2.2.2.2.1 (Int.toNat x.1),x.2.2.2.2.2.2.2.1 (Int.toNat x.1),x.2.2.2.2.2.2.2.2.1 (Int.toNat x.1),x.2.2.2.2.2.2.2.2.2 (Int.toNat x.1))).bind fun z5=>dn (z5,x.2)else none
theorem if6{β:Type}(c_ExprV)(x)(dn:ep0→Option β):da0 c_ExprV x dn=(da0 c_ExprV x some).bind dn:=by
 unfold da0
 repeat' first|exact n0|refine n1 fun _=>?_|refine n2 ?_ ?_|refine n3 (fun _=>?_) fun _=>?_|rfl
theorem ii7(c_ExprV)(x):f7 E8 (ftb 16 cc1 fk4 c_ExprV ca0) lo0 105 (cn9 x).1 (cn9 x).2 K=da0 (vf cc1 c_ExprV) x (fun z=>some (.c (fk5 z))):=by kernel_rfl
noncomputable def kid(q:Nat)(x:ef4):Option ep0:=da0 (by1 q) x some
theorem ia5(q:Nat):Lw E8 105 cn9 fk5 (kid q):=sof hW8 hX8 (fk (fun x z h=>sc8.2 (gq2 q x z h)) a8) (fun _=>b6) fun x=>(ii7 (by1 q) x).trans (by rw[hg5,if6]<;>rfl)
abbrev by7:Type:=Int×Int×ByteArray×Nat×FL×Int×Nat×FI
abbrev ch6:Type:=Nat×FI
def az4:AR by7:=fun x=>([.ptr 0 0,.agg [i64 x.1,i64 x.2.1,st x.2.2.1,.ro 4 x.2.2.2.1 x.2.2.2.2.1],i64 x.2.2.2.2.2.1],[some (.tbk 79 [.ptr 0 0,.sl 1 1 0 x.2.2.2.2.2.2.1]),some (.row 5 1 x.2.2.2.2.2.2.1 (fun j=>[u8 (x.2.2.2.2.2.2.2 j)]))])
def ih3(t:TT):by7:=((vI (ca t 1 0)),vI (ca t 1 1),vS (ca t 1 2),u7 (ca t 1 3),iU (ca t 1 3),vI (ag t 2),(chN (co t 1)),dRI (co t 1) 0)
theorem hq6:VI az4:=vd ih3 fun _=>rfl
def en5:ch6→CRes:=fun z=>.ret (.tup []) [some (.tbk 79 [.ptr 0 0,.sl 1 1 0 z.1]),some (.row 5 1 z.1 (fun j=>[u8 (z.2 j)]))]
abbrev tI:Type:=Int×Int×ByteArray×Nat×FL×Int×Nat×FI
abbrev tK:Type:=Nat×FI
def gL:AR tI:=fun x=>([.ptr 0 0,.agg [i64 x.1,i64 x.2.1,st x.2.2.1,.ro 4 x.2.2.2.1 x.2.2.2.2.1],i64 x.2.2.2.2.2.1],[some (.tbk 79 [.ptr 0 0,.sl 1 1 0 x.2.2.2.2.2.2.1]),some (.row 5 1 x.2.2.2.2.2.2.1 (fun j=>[u8 (x.2.2.2.2.2.2.2 j)]))])
def ii5(t:TT):tI:=((vI (ca t 1 0)),vI (ca t 1 1),vS (ca t 1 2),u7 (ca t 1 3),iU (ca t 1 3),vI (ag t 2),(chN (co t 1)),dRI (co t 1) 0)
theorem bx7:VI gL:=vd ii5 fun _=>rfl
def yO:tK→CRes:=fun z=>.ret (.tup []) [some (.tbk 79 [.ptr 0 0,.sl 1 1 0 z.1]),some (.row 5 1 z.1 (fun j=>[u8 (z.2 j)]))]
abbrev gl7:Type:=Int×Int×ByteArray×Nat×FI×FI×FS×FN×FM×Int×Nat×FI
abbrev er4:Type:=Nat×FI
def dp4:AR gl7:=fun x=>([.ptr 0 0,.agg [i64 x.1,i64 x.2.1,st x.2.2.1,.ro 4 x.2.2.2.1 (fun j=>[i64 (x.2.2.2.2.1 j),i64 (x.2.2.2.2.2.1 j),st (x.2.2.2.2.2.2.1 j),.ro 4 (x.2.2.2.2.2.2.2.1 j) (x.2.2.2.2.2.2.2.2.1 j)])],i64 x.2.2.2.2.2.2.2.2.2.1],[some (.tbk 79 [.ptr 0 0,.sl 1 1 0 x.2.2.2.2.2.2.2.2.2.2.1]),some (.row 5 1 x.2.2.2.2.2.2.2.2.2.2.1 (fun j=>[u8 (x.2.2.2.2.2.2.2.2.2.2.2 j)]))])
def gh0:er4→CRes:=fun z=>.ret (.tup []) [some (.tbk 79 [.ptr 0 0,.sl 1 1 0 z.1]),some (.row 5 1 z.1 (fun j=>[u8 (z.2 j)]))]
abbrev ap3:Type:=Int×Int×ByteArray×Nat×FI×FI×FS×FN×FM×Int×Nat×FI
abbrev eq6:Type:=Nat×FI
def do4:AR ap3:=fun x=>([.ptr 0 0,.agg [i64 x.1,i64 x.2.1,st x.2.2.1,.ro 4 x.2.2.2.1 (fun j=>[i64 (x.2.2.2.2.1 j),i64 (x.2.2.2.2.2.1 j),st (x.2.2.2.2.2.2.1 j),.ro 4 (x.2.2.2.2.2.2.2.1 j) (x.2.2.2.2.2.2.2.2.1 j)])],i64 x.2.2.2.2.2.2.2.2.2.1],[some (.tbk 79 [.ptr 0 0,.sl 1 1 0 x.2.2.2.2.2.2.2.2.2.2.1]),some (.row 5 1 x.2.2.2.2.2.2.2.2.2.2.1 (fun j=>[u8 (x.2.2.2.2.2.2.2.2.2.2.2 j)]))])
def gf9:eq6→CRes:=fun z=>.ret (.tup []) [some (.tbk 79 [.ptr 0 0,.sl 1 1 0 z.1]),some (.row 5 1 z.1 (fun j=>[u8 (z.2 j)]))]
def fP{β:Type}(c_Itoa:cj0→Option dn8)(c_kid:ef4→Option ep0)(c_lineS:y4→Option eC)(c_pbk:tI→Option tK)(x:gl7)(dn:er4→Option β):Option β:=
 (c_Itoa x.2.1).bind fun z1=>if(x.1==1)=true then(c_kid (0,x.1,x.2.1,x.2.2.1,x.2.2.2.1,x.2.2.2.2.1,x.2.2.2.2.2.1,x.2.2.2.2.2.2.1,x.2.2.2.2.2.2.2.1,x.2.2.2.2.2.2.2.2.1)).bind fun z12=>if x.2.2.1=z12.2.2.2.1 then(c_lineS (x.2.2.2.2.2.2.2.2.2.1,5,fun j=>if j=0 then⟨#[108,101,116,32]⟩else if j-1=0 then x.2.2.1 else if j-1-1=0 then⟨#[32,61,32]⟩else if j-1-1-1=0 then z12.1 else⟨#[59]⟩,x.2.2.2.2.2.2.2.2.2.2)).bind fun z18=>dn z18.2.2 else none else if(x.1==2)=true then(c_kid (0,x.1,x.2.1,x.2.2.1,x.2.2.2.1,x.2.2.2.2.1,x.2.2.2.2.2.1,x.2.2.2.2.2.2.1,x.2.2.2.2.2.2.2.1,x.2.2.2.2.2.2.2.2.1)).bind fun z29=>if x.2.2.1=z29.2.2.2.1 then(c_lineS (x.2.2.2.2.2.2.2.2.2.1,4,fun j=>if j=0 then x.2.2.1 else if j-1=0 then⟨#[32,61,32]⟩else if j-1-1=0 then z29.1 else⟨#[59]⟩,x.2.2.2.2.2.2.2.2.2.2)).bind fun z35=>dn z35.2.2 else none else if(x.1==3)=true then(c_kid (0,x.1,x.2.1,x.2.2.1,x.2.2.2.1,x.2.2.2.2.1,x.2.2.2.2.2.1,x.2.2.2.2.2.2.1,x.2.2.2.2.2.2.2.1,x.2.2.2.2.2.2.2.2.1)).bind fun z46=>(c_lineS (x.2.2.2.2.2.2.2.2.2.1,3,fun j=>if j=0 then⟨#[105,102,32]⟩else if j-1=0 then z46.1 else⟨#[32,123]⟩,x.2.2.2.2.2.2.2.2.2.2)).bind fun z52=>if(0:Int)≤1∧1< ((z46.2.2.2.2.1:Nat):Int)then(c_pbk (z46.2.2.2.2.2.1 1,z46.2.2.2.2.2.2.1 1,z46.2.2.2.2.2.2.2.1 1,z46.2.2.2.2.2.2.2.2.1 1,z46.2.2.2.2.2.2.2.2.2 1,x.2.2.2.2.2.2.2.2.2.1,z52.2.2)).bind fun z61=>if(0:Int)≤2∧2< ((z46.2.2.2.2.1:Nat):Int)then if decide (((z46.2.2.2.2.2.2.2.2.1 2:Nat):Int)>0)=true then(c_lineS (x.2.2.2.2.2.2.2.2.2.1,1,fun j=>⟨#[125,32,101,108,115,101,32,123]⟩,z61)).bind fun z67=>if(0:Int)≤2∧2< ((z46.2.2.2.2.1:Nat):Int)then(c_pbk (z46.2.2.2.2.2.1 2,z46.2.2.2.2.2.2.1 2,z46.2.2.2.2.2.2.2.1 2,z46.2.2.2.2.2.2.2.2.1 2,z46.2.2.2.2.2.2.2.2.2 2,x.2.2.2.2.2.2.2.2.2.1,z67.2.2)).bind fun z76=>(c_lineS (x.2.2.2.2.2.2.2.2.2.1,1,fun j=>⟨#[125]⟩,z76)).bind fun z82=>dn z82.2.2 else none else(c_lineS (x.2.2.2.2.2.2.2.2.2.1,1,fun j=>⟨#[125]⟩,z61)).bind fun z88=>dn z88.2.2 else none else none else if(x.1==4)=true then(c_lineS (x.2.2.2.2.2.2.2.2.2.1,3,fun j=>if j=0 then⟨#[114,101,112,101,97,116,32]⟩else if j-1=0 then z1 else⟨#[32,123]⟩,x.2.2.2.2.2.2.2.2.2.2)).bind fun z94=>if(0:Int)≤0∧0< ((x.2.2.2.1:Nat):Int)then(c_pbk (x.2.2.2.2.1 0,x.2.2.2.2.2.1 0,x.2.2.2.2.2.2.1 0,x.2.2.2.2.2.2.2.1 0,x.2.2.2.2.2.2.2.2.1 0,x.2.2.2.2.2.2.2.2.2.1,z94.2.2)).bind fun z103=>(c_lineS (x.2.2.2.2.2.2.2.2.2.1,1,fun j=>⟨#[125]⟩,z103)).bind fun z109=>dn z109.2.2 else none else if(x.1==5)=true then(c_kid (0,x.1,x.2.1,x.2.2.1,x.2.2.2.1,x.2.2.2.2.1,x.2.2.2.2.2.1,x.2.2.2.2.2.2.1,x.2.2.2.2.2.2.2.1,x.2.2.2.2.2.2.2.2.1)).bind fun z120=>(c_lineS (x.2.2.2.2.2.2.2.2.2.1,3,fun j=>if j=0 then⟨#[119,97,105,116,32]⟩else if j-1=0 then z120.1 else⟨#[59]⟩,x.2.2.2.2.2.2.2.2.2.2)).bind fun z126=>dn z126.2.2 else if(x.1==6)=true then(c_kid (0,x.1,x.2.1,x.2.2.1,x.2.2.2.1,x.2.2.2.2.1,x.2.2.2.2.2.1,x.2.2.2.2.2.2.1,x.2.2.2.2.2.2.2.1,x.2.2.2.2.2.2.2.2.1)).bind fun z137=>(c_kid (1,z137.2)).bind fun z148=>(c_lineS (x.2.2.2.2.2.2.2.2.2.1,5,fun j=>if j=0 then⟨#[97,119,97,105,116,32]⟩else if j-1=0 then z137.1 else if j-1-1=0 then⟨#[32,119,105,116,104,105,110,32]⟩else if j-1-1-1=0 then z148.1 else⟨#[59]⟩,x.2.2.2.2.2.2.2.2.2.2)).bind fun z154=>dn z154.2.2 else if(x.1==7)=true then(c_kid (0,x.1,x.2.1,x.2.2.1,x.2.2.2.1,x.2.2.2.2.1,x.2.2.2.2.2.1,x.2.2.2.2.2.2.1,x.2.2.2.2.2.2.2.1,x.2.2.2.2.2.2.2.2.1)).bind fun z165=>(c_lineS (x.2.2.2.2.2.2.2.2.2.1,3,fun j=>if j=0 then⟨#[114,101,113,117,105,114,101,32]⟩else if j-1=0 then z165.1 else⟨#[59]⟩,x.2.2.2.2.2.2.2.2.2.2)).bind fun z171=>dn z171.2.2 else if(x.1==8)=true then(c_kid (0,x.1,x.2.1,x.2.2.1,x.2.2.2.1,x.2.2.2.2.1,x.2.2.2.2.2.1,x.2.2.2.2.2.2.1,x.2.2.2.2.2.2.2.1,x.2.2.2.2.2.2.2.2.1)).bind fun z182=>(c_lineS (x.2.2.2.2.2.2.2.2.2.1,3,fun j=>if j=0 then⟨#[112,111,105,110,116,32]⟩else if j-1=0 then z182.1 else⟨#[59]⟩,x.2.2.2.2.2.2.2.2.2.2)).bind fun z188=>dn z188.2.2 else if(x.1==9)=true then(c_kid (0,x.1,x.2.1,x.2.2.1,x.2.2.2.1,x.2.2.2.2.1,x.2.2.2.2.2.1,x.2.2.2.2.2.2.1,x.2.2.2.2.2.2.2.1,x.2.2.2.2.2.2.2.2.1)).bind fun z199=>(c_lineS (x.2.2.2.2.2.2.2.2.2.1,5,fun j=>if j=0 then⟨#[117,115,101,32]⟩else if j-1=0 then z1 else if j-1-1=0 then⟨#[32,102,111,114,32]⟩else if j-1-1-1=0 then z199.1 else⟨#[59]⟩,x.2.2.2.2.2.2.2.2.2.2)).bind fun z205=>dn z205.2.2 else if(x.1==10)=true then(c_kid (0,x.1,x.2.1,x.2.2.1,x.2.2.2.1,x.2.2.2.2.1,x.2.2.2.2.2.1,x.2.2.2.2.2.2.1,x.2.2.2.2.2.2.2.1,x.2.2.2.2.2.2.2.2.1)).bind fun z216=>(c_lineS (x.2.2.2.2.2.2.2.2.2.1,5,fun j=>if j=0 then⟨#[115,101,110,100,32]⟩else if j-1=0 then z1 else if j-1-1=0 then⟨#[44,32]⟩else if j-1-1-1=0 then z216.1 else⟨#[59]⟩,x.2.2.2.2.2.2.2.2.2.2)).bind fun z222=>dn z222.2.2 else if(x.1==11)=true then(c_kid (0,x.1,x.2.1,x.2.2.1,x.2.2.2.1,x.2.2.2.2.1,x.2.2.2.2.2.1,x.2.2.2.2.2.2.1,x.2.2.2.2.2.2.2.1,x.2.2.2.2.2.2.2.2.1)).bind fun z233=>(c_lineS (x.2.2.2.2.2.2.2.2.2.1,3,fun j=>if j=0 then⟨#[107,101,101,112,32]⟩else if j-1=0 then z233.1 else⟨#[59]⟩,x.2.2.2.2.2.2.2.2.2.2)).bind fun z239=>dn z239.2.2 else if(x.1==12)=true then(c_lineS (x.2.2.2.2.2.2.2.2.2.1,3,fun j=>if j=0 then⟨#[101,109,105,116,32]⟩else if j-1=0 then z1 else⟨#[59]⟩,x.2.2.2.2.2.2.2.2.2.2)).bind fun z245=>dn z245.2.2 else if(x.1==13)=true then(c_lineS (x.2.2.2.2.2.2.2.2.2.1,3,fun j=>if j=0 then⟨#[97,98,111,114,116,32]⟩else if j-1=0 then z1 else⟨#[59]⟩,x.2.2.2.2.2.2.2.2.2.2)).bind fun z251=>dn z251.2.2 else dn x.2.2.2.2.2.2.2.2.2.2
theorem id5{β:Type}(c_Itoa c_kid)(c_lineS c_pbk)(x)(dn:er4→Option β):fP c_Itoa c_kid c_lineS c_pbk x dn=(fP c_Itoa c_kid c_lineS c_pbk x some).bind dn:=by
 unfold fP
 repeat' first|exact n0|refine n1 fun _=>?_|refine n2 ?_ ?_|refine n3 (fun _=>?_) fun _=>?_|rfl
theorem ic9(c_Itoa c_kid)(c_lineS c_pbk)(x):f7 E8 (ftb 41 al2 cp9 c_Itoa (ftb 105 cn9 fk5 c_kid (ftg 34 (fun _ L=>L.length==3) t7 iL c_lineS (ftb 36 gL yO c_pbk ca0)))) lo0 74 (dp4 x).1 (dp4 x).2 K=fP (vf al2 c_Itoa) (vf cn9 c_kid) (vf t7 c_lineS) (vf gL c_pbk) x (fun z=>some (.c (gh0 z))):=by kernel_rfl
theorem ic6(c_Itoa)(h_Itoa:Lw E8 41 al2 cp9 c_Itoa)(c_kid)(h_kid:Lw E8 105 cn9 fk5 c_kid)(c_lineS)(h_lineS:Lw E8 34 t7 iL c_lineS)(c_pbk)(h_pbk:Lw E8 36 gL yO c_pbk)(q:Nat):Lw E8 74 dp4 gh0 fun x=>fP c_Itoa c_kid c_lineS c_pbk x some:=sof hW8 hX8 (fk h_Itoa (fk h_kid (fk h_lineS (fk h_pbk a8)))) (fun _=>b6) fun x=>(ic9 c_Itoa c_kid c_lineS c_pbk x).trans (by rw[gi5,ig7,yI,bx7,id5]<;>rfl)
abbrev qI:Type:=Int×Nat×FI
abbrev as6:Type:=Nat×FI
def vA(x:ap3)(y:qI):St:={fr:=[V.ptr 0 0,V.junk,i64 x.2.2.2.2.2.2.2.2.2.1]++jk 6++[V.ro 4 x.2.2.2.1 fun j=>[i64 (x.2.2.2.2.1 j),i64 (x.2.2.2.2.2.1 j),st (x.2.2.2.2.2.2.1 j),V.ro 4 (x.2.2.2.2.2.2.2.1 j) (x.2.2.2.2.2.2.2.2.1 j)],i64 ((x.2.2.2.1:Nat):Int),i64 y.1]++jk 9,H:=hp [some (Chunk.tbk 79 [V.ptr 0 0,V.sl 1 1 0 y.2.1]),some (Chunk.row 5 1 y.2.1 fun j=>[V.sc (Value.int IntKind.u8 (y.2.2 j))])],nx:=2,rt:=1,me:=36}
def ga9(s:St):qI:=((vI (s.fr.getD 11 .junk)),dB ((chT (s.H 0)).getD 1 .junk),dRI (s.H 1) 0)
theorem fx6(x:ap3):VL (vA x):=vl ga9 fun _=>rfl
def aw8(x:ap3):as6→Ex×St:=(fun z=>(Ex.exit 0,{fr:=[V.junk]++jk 20,H:=hp [some (Chunk.tbk 79 [V.ptr 0 0,V.sl 1 1 0 z.1]),some (Chunk.row 5 1 z.1 fun j=>[V.sc (Value.int IntKind.u8 (z.2 j))])],nx:=2,rt:=1,me:=36}))
def rC{β:Type}(c_pst:by7→Option ch6)(x:ap3)(y:qI)(nx:qI→Option β)(dn:as6→Option β):Option β:=
 if decide (y.1< ((x.2.2.2.1:Nat):Int))=true then if 0≤y.1∧y.1< ((x.2.2.2.1:Nat):Int)then(c_pst (x.2.2.2.2.1 (Int.toNat y.1),x.2.2.2.2.2.1 (Int.toNat y.1),x.2.2.2.2.2.2.1 (Int.toNat y.1),x.2.2.2.2.2.2.2.1 (Int.toNat y.1),x.2.2.2.2.2.2.2.2.1 (Int.toNat y.1),w (x.2.2.2.2.2.2.2.2.2.1+1),y.2)).bind fun z55=>nx (w (y.1+1),z55)else none else dn y.2
theorem fy0{β:Type}(c_pst)(x)(y)(nx:qI→Option β)(dn):rC c_pst x y nx dn=(rC c_pst x y (fun y=>some (.inl y)) (fun z=>some (.inr z))).bind fun r=>Sum.elim nx dn r:=by
 unfold rC
 repeat' first|exact n0|refine n1 fun _=>?_|refine n2 ?_ ?_|refine n3 (fun _=>?_) fun _=>?_|rfl
theorem ft9(c_pst)(x)(y)(lo:f5):n8 E8 (ftb 74 az4 en5 c_pst ca0) lo 0 3589 (b5 E8 36 0) (vA x y) (KCM [(0,0)] 0)=rC (vf az4 c_pst) x y (fun y=>lo 0 3589 (b5 E8 36 0) (vA x y) (KCM [(0,0)] 0)) (fun z=>some (.l (aw8 x z).1 (aw8 x z).2)):=by kernel_rfl
noncomputable def uA(c_pst:by7→Option ch6)(q:Nat)(x:ap3):qI→Option as6:=lpG (fun y=>rC c_pst x y (fun y=>some (.inl y)) (fun z=>some (.inr z))) q
theorem fo6(c_pst)(h_pst:Lw E8 74 az4 en5 c_pst)(q:Nat)(x:ap3):Ll E8 (b5 E8 36 0) (vA x) (aw8 x) (uA c_pst q x):=
 slp (fk h_pst a8) hX8 (fun lo y=>(ft9 c_pst x y lo).trans (by rw[hq6];exact fy0 _ _ _ _ _)) (fun _=>by kernel_rfl) q
def ak7{β:Type}(c_pst:by7→Option ch6)(l_pbkN_l0:qI→Option as6)(x:ap3)(dn:eq6→Option β):Option β:=
 (l_pbkN_l0 (0,x.2.2.2.2.2.2.2.2.2.2)).bind fun z31=>dn z31
theorem ie6{β:Type}(c_pst)(l_pbkN_l0)(x)(dn:eq6→Option β):ak7 c_pst l_pbkN_l0 x dn=(ak7 c_pst l_pbkN_l0 x some).bind dn:=by
 unfold ak7
 repeat' first|exact n0|refine n1 fun _=>?_|refine n2 ?_ ?_|refine n3 (fun _=>?_) fun _=>?_|rfl
theorem hy5(c_pst)(l_pbkN_l0)(x):f7 E8 (ftb 74 az4 en5 c_pst ca0) (lt1 0 (fun _=>true) (b5 E8 36 0) (vA x) (aw8 x) l_pbkN_l0 lo0) 36 (do4 x).1 (do4 x).2 K=ak7 (vf az4 c_pst) (lf (b5 E8 36 0) (vA x) l_pbkN_l0) x (fun z=>some (.c (gf9 z))):=by kernel_rfl
theorem hx8(c_pst)(h_pst:Lw E8 74 az4 en5 c_pst)(q:Nat):Lw E8 36 do4 gf9 fun x=>ak7 c_pst (uA c_pst q x) x some:=sof hW8 hX8 (fk h_pst a8) (fun x=>(lk1 (fo6 c_pst h_pst q x) b6)) fun x=>(hy5 c_pst (uA c_pst q x) x).trans (by rw[hq6,fx6,ie6]<;>rfl)
open Classical in
noncomputable def cu3:Nat→(by7→Option ch6)×(tI→Option tK)
 |0=>(fun _=>none,fun _=>none)
 |q+1=>(fun x=>if xW x.2.2.2.2.1 then fP (bz2 q) (kid q) (gM q) (cu3 q).2 (x.1,x.2.1,x.2.2.1,x.2.2.2.1,opK x.2.2.2.2.1,opN x.2.2.2.2.1,opS x.2.2.2.2.1,opM x.2.2.2.2.1,opF x.2.2.2.2.1,x.2.2.2.2.2) some else none,
  fun x=>if xW x.2.2.2.2.1 then ak7 (cu3 q).1 (uA (cu3 q).1 q (x.1,x.2.1,x.2.2.1,x.2.2.2.1,opK x.2.2.2.2.1,opN x.2.2.2.2.1,opS x.2.2.2.2.1,opM x.2.2.2.2.1,opF x.2.2.2.2.1,x.2.2.2.2.2)) (x.1,x.2.1,x.2.2.1,x.2.2.2.1,opK x.2.2.2.2.1,opN x.2.2.2.2.1,opS x.2.2.2.2.1,opM x.2.2.2.2.1,opF x.2.2.2.2.1,x.2.2.2.2.2) some else none)
noncomputable def pst(q:Nat):by7→Option ch6:=(cu3 q).1
noncomputable def pbk(q:Nat):tI→Option tK:=(cu3 q).2
theorem hi8:∀q,(∀x z,pst q x=some z→SC E8 74 (az4 x).1 (az4 x).2 (en5 z))∧(∀x z,pbk q x=some z→SC E8 36 (gL x).1 (gL x).2 (yO z)):=by
 intro q
 induction q with
 |zero=>exact⟨(fun x z h=>by cases h),(fun x z h=>by cases h)⟩
 |succ q ih=>
  obtain⟨h1,h2⟩:=ih
  refine⟨fun x z h=>?_,fun x z h=>?_⟩
  ·unfold pst cu3 at h
   dsimp only at h
   split at h
   ·rename_i hO
    have this:=ic6 (bz2 q) (fun x z h=>sc8.2 (fm3 q x z h)) (kid q) (ia5 q) (gM q) (cm6 q) (pbk q) h2 q (x.1,x.2.1,x.2.2.1,x.2.2.2.1,opK x.2.2.2.2.1,opN x.2.2.2.2.1,opS x.2.2.2.2.1,opM x.2.2.2.2.1,opF x.2.2.2.2.1,x.2.2.2.2.2) z h
    unfold dp4 at this
    unfold az4
    simp only at this⊢
    rw[cV hO]at this
    exact this
   ·cases h
  ·unfold pbk cu3 at h
   dsimp only at h
   split at h
   ·rename_i hO
    have this:=hx8 (pst q) h1 q (x.1,x.2.1,x.2.2.1,x.2.2.2.1,opK x.2.2.2.2.1,opN x.2.2.2.2.1,opS x.2.2.2.2.1,opM x.2.2.2.2.1,opF x.2.2.2.2.1,x.2.2.2.2.2) z h
    unfold do4 at this
    unfold gL
    simp only at this⊢
    rw[cV hO]at this
    exact this
   ·cases h
theorem gt5(q:Nat):Lw E8 36 gL yO (pbk q):=(hi8 q).2
end Go.Proofs.YtjfkkokeegpeiaaGreatDoor
/- The library's builder, in a block of the printer's type, empty: String. -/
namespace Go.Proofs.YtjfkkokeegpeiaaGreatDoor
open Go Go.Am Go.RowKit Go.Shelf
set_option maxRecDepth 100000
section
variable {P:Program} {ρ:Ren}
set_option maxHeartbeats 2000000 in
theorem ck5(L:Lays.n169 P ρ)(X:Builder.Extra P ρ)(b:Nat)(w:World)(c1:w.drew.cell? ⟨b,1,none⟩=some (.slice none 0 0)):
 Calls P (ρ.f 169) #[.pointer (some ⟨b,0,none⟩)] w fun e w'=>e= .returned (.string ⟨#[]⟩)∧w'=w.drew:=by
 have hUS:∀(W:World) (q:Option Addr),(Builtin.unsafeString_ #[(ρ.t 127),(ρ.t 3)] (ρ.t 9) #[.pointer q,.int .i64 0]).run P W= .ok (.string .empty) W:=fun W q=>Lib.run_unsafeString_none W _ _ _ q
 have hSD:(Builtin.unsafeSliceData_ #[(ρ.t 37)] (ρ.t 127) #[.slice none 0 0]).run P w.drew= .ok (.pointer none) w.drew:=rfl
 have mixed:=L.mixed
 have t72:=L.t72;have a72:=L.a72;have z72:=L.z72;have v72:=L.v72;have u72:=run_underlying L.t72
 have t70:=L.t70;have a70:=L.a70;have z70:=L.z70;have v70:=L.v70;have u70:=run_underlying L.t70
 have t37:=L.t37;have a37:=L.a37;have z37:=L.z37;have v37:=L.v37;have u37:=run_underlying L.t37
 have t127:=L.t127;have a127:=L.a127;have z127:=L.z127;have v127:=L.v127;have u127:=run_underlying L.t127
 have t3:=L.t3;have a3:=L.a3;have z3:=L.z3;have v3:=L.v3;have u3:=run_underlying L.t3
 have t9:=L.t9;have a9:=L.a9;have z9:=L.z9;have v9:=L.v9;have u9:=run_underlying L.t9
 have t5:=X.t5;have a5:=X.a5;have z5:=X.z5;have v5:=X.v5;have u5:=run_underlying X.t5
 go_enter L.f169,Body.n169_ntmps ρ
 go_wp2
 go_region_o
 all_goals (go_wp2;go_ret;exact⟨rfl,rfl⟩)
end
theorem hi5(b:Nat)(w:World)(c1:w.drew.cell? ⟨b,1,none⟩=some (.slice none 0 0)):
 Calls Tryz.prog 37 #[.pointer (some ⟨b,0,none⟩)] w fun e w'=>e= .returned (.string ⟨#[]⟩)∧w'=w.drew:=
 ck5 lays169 Tryz.Builder_Extra_105 b w c1
theorem ew1{E:Env}(hP:E.P=Tryz.prog)(c0:V):SC E 37 [.ptr 0 0] [some (.tbk 79 [c0,.sc (.slice none 0 0)])] (.ret (.sc (.string ⟨#[]⟩)) [none]):=by
 refine⟨by rw[hP];exact⟨_,Tryz.func37,by kernel_rfl,by intro e;exact absurd e (by decide+kernel)⟩,fun β S w us hd hM hG=>?_⟩
 rw[hP]
 obtain⟨b,m,hb,hc⟩:=hM.live 0 (.tbk 79 [c0,.sc (.slice none 0 0)]) rfl
 obtain⟨h0,x,y,h1,hx,hy,_,_⟩:=cb0 hc
 simp only[b8]at hd
 obtain⟨u,_,rfl,hu,rfl⟩:=hd
 simp only[den]at hu hy
 have hu:=hu.2 b m hb
 subst hu hy
 refine(hi5 b w (by
  show w.cell? ⟨b,1,none⟩=_
  simp[World.cell?,h1])).mono ?_
 rintro e w' ⟨rfl,rfl⟩
 refine⟨_,fun _=>none,S,rfl,⟨fun i c hc=>?_,fun i _=>rfl,fun i b m h=>(by cases h),fun i b m h=>(by cases h),fun i j b m m' h=>(by cases h),fun z hz=>hM.st z hz⟩,by simp only[den],⟨rfl,rfl,rfl,Nat.le_refl _,fun z hz hn=>rfl,fun _ h=>h,fun _ h=>.inl h,fun i b m h=>(by cases h)⟩,fun i bm hi h=>(by cases h)⟩
 match i with
 |0=>cases hc
 |i+1=>simp[hp]at hc
end Go.Proofs.YtjfkkokeegpeiaaGreatDoor

