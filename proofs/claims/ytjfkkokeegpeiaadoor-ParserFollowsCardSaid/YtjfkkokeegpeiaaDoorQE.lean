/- Texts joined. -/
import Derived.Test.YtjfkkokeegpeiaaDoorQD
import Derived.Test.YtjfkkokeegpeiaaDoorQC
import Derived.Laws.RangeAny
import Derived.Lib.Bytealg
import Derived.Lib.IndexMore
/- The lexers, lifted. -/
set_option linter.unusedSimpArgs false
set_option linter.unusedVariables false
namespace Go.Proofs.YtjfkkokeegpeiaaDoor
open Go Go.Am Go.Proofs
set_option maxRecDepth 100000
def fnId:V→Nat| .fn g _=>g|_=>0
abbrev i32(n:Int):V:=.sc (.int .i32 n)
abbrev u8(n:Int):V:=.sc (.int .u8 n)
abbrev a_IndexByte:Type:=ByteArray×Int
abbrev g_IndexByte:Type:=Int
def A_IndexByte:AR a_IndexByte:=fun x=>([st x.1,u8 x.2],[])
def d_IndexByte(t:TT):a_IndexByte:=(vS (ag t 0),vI (ag t 1))
theorem v_IndexByte:VI A_IndexByte:=vd d_IndexByte fun _=>rfl
def R_IndexByte:g_IndexByte→CRes:=fun z=>.ret (i64 z) []
noncomputable def IndexByte(q:Nat)(x:a_IndexByte):Option g_IndexByte:=some (Lib.indexByte x.1.data.toList (UInt8.ofNat x.2.toNat))
theorem sc_IndexByte(q:Nat):Lw E5 43 A_IndexByte R_IndexByte (IndexByte q):=by
 rintro⟨s,c⟩ z h
 cases h
 exact sc5.2 (SC.ext hX rfl)
abbrev a_letter:Type:=Int
abbrev g_letter:Type:=Bool
def A_letter:AR a_letter:=fun x=>([i32 x],[])
def d_letter(t:TT):a_letter:=(vI (ag t 0))
theorem v_letter:VI A_letter:=vd d_letter fun _=>rfl
def R_letter:g_letter→CRes:=fun z=>.ret (bo z) []
def t_letter{β:Type}(x:a_letter)(dn:g_letter→Option β):Option β:=
 if decide (x≥97)=true then if decide (x≤122)=true then dn true else if decide (x≥65)=true then dn (decide (x≤90))else dn false else if decide (x≥65)=true then dn (decide (x≤90))else dn false
theorem n_letter{β:Type}(x)(dn:g_letter→Option β):t_letter x dn=(t_letter x some).bind dn:=by
 unfold t_letter
 repeat' first|exact n0|refine n1 fun _=>?_|refine n2 ?_ ?_|refine n3 (fun _=>?_) fun _=>?_|rfl
theorem r_letter(x):callK E5 ca0 lo0 27 (A_letter x).1 (A_letter x).2 K=t_letter x (fun z=>some (.c (R_letter z))):=by kernel_rfl
noncomputable def letter(q:Nat)(x:a_letter):Option g_letter:=t_letter x some
theorem sc_letter(q:Nat):Lw E5 27 A_letter R_letter (letter q):=sof hW5 hX5 ca0_sound (fun _=>lo0_sound) fun x=>(r_letter x).trans (by rw[n_letter]<;>rfl)
abbrev a_digit:Type:=Int
abbrev g_digit:Type:=Bool
def A_digit:AR a_digit:=fun x=>([i32 x],[])
def d_digit(t:TT):a_digit:=(vI (ag t 0))
theorem v_digit:VI A_digit:=vd d_digit fun _=>rfl
def R_digit:g_digit→CRes:=fun z=>.ret (bo z) []
def t_digit{β:Type}(x:a_digit)(dn:g_digit→Option β):Option β:=
 if decide (x≥48)=true then dn (decide (x≤57))else dn false
theorem n_digit{β:Type}(x)(dn:g_digit→Option β):t_digit x dn=(t_digit x some).bind dn:=by
 unfold t_digit
 repeat' first|exact n0|refine n1 fun _=>?_|refine n2 ?_ ?_|refine n3 (fun _=>?_) fun _=>?_|rfl
theorem r_digit(x):callK E5 ca0 lo0 29 (A_digit x).1 (A_digit x).2 K=t_digit x (fun z=>some (.c (R_digit z))):=by kernel_rfl
noncomputable def digit(q:Nat)(x:a_digit):Option g_digit:=t_digit x some
theorem sc_digit(q:Nat):Lw E5 29 A_digit R_digit (digit q):=sof hW5 hX5 ca0_sound (fun _=>lo0_sound) fun x=>(r_digit x).trans (by rw[n_digit]<;>rfl)
abbrev a_notLf:Type:=Int
abbrev g_notLf:Type:=Bool
def A_notLf:AR a_notLf:=fun x=>([i32 x],[])
def d_notLf(t:TT):a_notLf:=(vI (ag t 0))
theorem v_notLf:VI A_notLf:=vd d_notLf fun _=>rfl
def R_notLf:g_notLf→CRes:=fun z=>.ret (bo z) []
def t_notLf{β:Type}(x:a_notLf)(dn:g_notLf→Option β):Option β:=
 dn (x !=10)
theorem n_notLf{β:Type}(x)(dn:g_notLf→Option β):t_notLf x dn=(t_notLf x some).bind dn:=by
 unfold t_notLf
 repeat' first|exact n0|refine n1 fun _=>?_|refine n2 ?_ ?_|refine n3 (fun _=>?_) fun _=>?_|rfl
theorem r_notLf(x):callK E5 ca0 lo0 26 (A_notLf x).1 (A_notLf x).2 K=t_notLf x (fun z=>some (.c (R_notLf z))):=by kernel_rfl
noncomputable def notLf(q:Nat)(x:a_notLf):Option g_notLf:=t_notLf x some
theorem sc_notLf(q:Nat):Lw E5 26 A_notLf R_notLf (notLf q):=sof hW5 hX5 ca0_sound (fun _=>lo0_sound) fun x=>(r_notLf x).trans (by rw[n_notLf]<;>rfl)
abbrev a_wordC:Type:=Int
abbrev g_wordC:Type:=Bool
def A_wordC:AR a_wordC:=fun x=>([i32 x],[])
def d_wordC(t:TT):a_wordC:=(vI (ag t 0))
theorem v_wordC:VI A_wordC:=vd d_wordC fun _=>rfl
def R_wordC:g_wordC→CRes:=fun z=>.ret (bo z) []
def t_wordC{β:Type}(c_letter:a_letter→Option g_letter)(c_digit:a_digit→Option g_digit)(x:a_wordC)(dn:g_wordC→Option β):Option β:=
 (c_letter x).bind fun z1=>if z1=true then dn true else(c_digit x).bind fun z3=>dn z3
theorem n_wordC{β:Type}(c_letter c_digit)(x)(dn:g_wordC→Option β):t_wordC c_letter c_digit x dn=(t_wordC c_letter c_digit x some).bind dn:=by
 unfold t_wordC
 repeat' first|exact n0|refine n1 fun _=>?_|refine n2 ?_ ?_|refine n3 (fun _=>?_) fun _=>?_|rfl
theorem r_wordC(c_letter c_digit)(x):callK E5 (ftb 27 A_letter R_letter c_letter (ftb 29 A_digit R_digit c_digit ca0)) lo0 42 (A_wordC x).1 (A_wordC x).2 K=t_wordC (vf A_letter c_letter) (vf A_digit c_digit) x (fun z=>some (.c (R_wordC z))):=by kernel_rfl
noncomputable def wordC(q:Nat)(x:a_wordC):Option g_wordC:=t_wordC (letter q) (digit q) x some
theorem sc_wordC(q:Nat):Lw E5 42 A_wordC R_wordC (wordC q):=sof hW5 hX5 (fk (sc_letter q) (fk (sc_digit q) ca0_sound)) (fun _=>lo0_sound) fun x=>(r_wordC (letter q) (digit q) x).trans (by rw[v_letter,v_digit,n_wordC]<;>rfl)
abbrev a_spanN:Type:=ByteArray
abbrev g_spanN:Type:=Int
def A_spanN:AR a_spanN:=fun x=>([st x,.fn 26 []],[])
def d_spanN(t:TT):a_spanN:=(vS (ag t 0))
theorem v_spanN:VI A_spanN:=vd d_spanN fun _=>rfl
def R_spanN:g_spanN→CRes:=fun z=>.ret (i64 z) []
abbrev spanN_l0_a:Type:=Nat
abbrev spanN_l0_g:Type:=(Int)⊕(Unit)
def spanN_l0_S(x:a_spanN)(y:spanN_l0_a):St:={fr:=[st x,V.fn 26 []]++jk 6++[V.ptr 0 0]++jk 11,H:=hp [some (Chunk.iter x y)],nx:=1,rt:=0,me:=25}
def spanN_l0_d(s:St):spanN_l0_a:=(chP (s.H 0))
theorem spanN_l0_u(x:a_spanN):VL (spanN_l0_S x):=vl spanN_l0_d fun _=>rfl
def spanN_l0_T(x:a_spanN):spanN_l0_g→Ex×St:=(Sum.elim (fun z=>(Ex.ret,{fr:=jk 4++[i64 z]++jk 15,H:=hp [],nx:=0,rt:=0,me:=25})) (fun z=>(Ex.exit 0,{fr:=[st x]++jk 19,H:=hp [],nx:=0,rt:=0,me:=25})))
def spanN_l0_t{β:Type}(c_notLf:a_notLf→Option g_notLf)(x:a_spanN)(y:spanN_l0_a)(nx:spanN_l0_a→Option β)(dn:spanN_l0_g→Option β):Option β:=
 if y<x.size then(c_notLf ((Prod.fst (Utf8.decode x y):Nat):Int)).bind fun z14=>if(!z14)=true then dn (.inl ((y:Nat):Int))else nx (y+Prod.snd (Utf8.decode x y))else dn (.inr ())
theorem spanN_l0_n{β:Type}(c_notLf)(x)(y)(nx:spanN_l0_a→Option β)(dn):spanN_l0_t c_notLf x y nx dn=(spanN_l0_t c_notLf x y (fun y=>some (.inl y)) (fun z=>some (.inr z))).bind fun r=>Sum.elim nx dn r:=by
 unfold spanN_l0_t
 repeat' first|exact n0|refine n1 fun _=>?_|refine n2 ?_ ?_|refine n3 (fun _=>?_) fun _=>?_|rfl
theorem spanN_l0_r(c_notLf)(x)(y)(lo:LoopT):loopK E5 (ftb 26 A_notLf R_notLf c_notLf ca0) lo 0 259 (bodyOf E5 25 0) (spanN_l0_S x y) (KCM [(0,1)] 16)=spanN_l0_t (vf A_notLf c_notLf) x y (fun y=>lo 0 259 (bodyOf E5 25 0) (spanN_l0_S x y) (KCM [(0,1)] 16)) (fun z=>some (.l (spanN_l0_T x z).1 (spanN_l0_T x z).2)):=by kernel_rfl
noncomputable def spanN_l0(c_notLf:a_notLf→Option g_notLf)(q:Nat)(x:a_spanN):spanN_l0_a→Option spanN_l0_g:=lpG (fun y=>spanN_l0_t c_notLf x y (fun y=>some (.inl y)) (fun z=>some (.inr z))) q
theorem spanN_l0_s(c_notLf)(h_notLf:Lw E5 26 A_notLf R_notLf c_notLf)(q:Nat)(x:a_spanN):Ll E5 (bodyOf E5 25 0) (spanN_l0_S x) (spanN_l0_T x) (spanN_l0 c_notLf q x):=
 slp (fk h_notLf ca0_sound) hX5 (fun lo y=>(spanN_l0_r c_notLf x y lo).trans (by rw[v_notLf];exact spanN_l0_n _ _ _ _ _)) (fun z=>by rcases z with z|z<;>kernel_rfl) q
def t_spanN{β:Type}(c_notLf:a_notLf→Option g_notLf)(l_spanN_l0:spanN_l0_a→Option spanN_l0_g)(x:a_spanN)(dn:g_spanN→Option β):Option β:=
 (l_spanN_l0 (0)).bind fun z8=>Sum.elim (fun z8a=>dn z8a) (fun z8b=>dn (x.size:Int)) z8
theorem n_spanN{β:Type}(c_notLf)(l_spanN_l0)(x)(dn:g_spanN→Option β):t_spanN c_notLf l_spanN_l0 x dn=(t_spanN c_notLf l_spanN_l0 x some).bind dn:=by
 unfold t_spanN
 repeat' first|exact n0|refine n1 fun _=>?_|refine n2 ?_ ?_|refine n3 (fun _=>?_) fun _=>?_|rfl
theorem r_spanN(c_notLf)(l_spanN_l0)(x):callK E5 (ftb 26 A_notLf R_notLf c_notLf ca0) (lt2 0 (fun _=>true) (bodyOf E5 25 0) (spanN_l0_S x) (spanN_l0_T x) l_spanN_l0 lo0) 25 (A_spanN x).1 (A_spanN x).2 K=t_spanN (vf A_notLf c_notLf) (lf (bodyOf E5 25 0) (spanN_l0_S x) l_spanN_l0) x (fun z=>some (.c (R_spanN z))):=by kernel_rfl
noncomputable def spanN(q:Nat)(x:a_spanN):Option g_spanN:=t_spanN (notLf q) (spanN_l0 (notLf q) q x) x some
theorem sc_spanN(q:Nat):Lw E5 25 A_spanN R_spanN (spanN q):=sof hW5 hX5 (fk (sc_notLf q) ca0_sound) (fun x=>(lk2 (spanN_l0_s (notLf q) (sc_notLf q) q x) lo0_sound)) fun x=>(r_spanN (notLf q) (spanN_l0 (notLf q) q x) x).trans (by rw[v_notLf,spanN_l0_u,n_spanN]<;>rfl)
abbrev a_spanD:Type:=ByteArray
abbrev g_spanD:Type:=Int
def A_spanD:AR a_spanD:=fun x=>([st x,.fn 29 []],[])
def d_spanD(t:TT):a_spanD:=(vS (ag t 0))
theorem v_spanD:VI A_spanD:=vd d_spanD fun _=>rfl
def R_spanD:g_spanD→CRes:=fun z=>.ret (i64 z) []
abbrev spanD_l0_a:Type:=Nat
abbrev spanD_l0_g:Type:=(Int)⊕(Unit)
def spanD_l0_S(x:a_spanD)(y:spanD_l0_a):St:={fr:=[st x,V.fn 29 []]++jk 6++[V.ptr 0 0]++jk 11,H:=hp [some (Chunk.iter x y)],nx:=1,rt:=0,me:=25}
def spanD_l0_d(s:St):spanD_l0_a:=(chP (s.H 0))
theorem spanD_l0_u(x:a_spanD):VL (spanD_l0_S x):=vl spanD_l0_d fun _=>rfl
def spanD_l0_T(x:a_spanD):spanD_l0_g→Ex×St:=(Sum.elim (fun z=>(Ex.ret,{fr:=jk 4++[i64 z]++jk 15,H:=hp [],nx:=0,rt:=0,me:=25})) (fun z=>(Ex.exit 0,{fr:=[st x]++jk 19,H:=hp [],nx:=0,rt:=0,me:=25})))
def spanD_l0_t{β:Type}(c_digit:a_digit→Option g_digit)(x:a_spanD)(y:spanD_l0_a)(nx:spanD_l0_a→Option β)(dn:spanD_l0_g→Option β):Option β:=
 if y<x.size then(c_digit ((Prod.fst (Utf8.decode x y):Nat):Int)).bind fun z14=>if(!z14)=true then dn (.inl ((y:Nat):Int))else nx (y+Prod.snd (Utf8.decode x y))else dn (.inr ())
theorem spanD_l0_n{β:Type}(c_digit)(x)(y)(nx:spanD_l0_a→Option β)(dn):spanD_l0_t c_digit x y nx dn=(spanD_l0_t c_digit x y (fun y=>some (.inl y)) (fun z=>some (.inr z))).bind fun r=>Sum.elim nx dn r:=by
 unfold spanD_l0_t
 repeat' first|exact n0|refine n1 fun _=>?_|refine n2 ?_ ?_|refine n3 (fun _=>?_) fun _=>?_|rfl
theorem spanD_l0_r(c_digit)(x)(y)(lo:LoopT):loopK E5 (ftb 29 A_digit R_digit c_digit ca0) lo 0 259 (bodyOf E5 25 0) (spanD_l0_S x y) (KCM [(0,1)] 16)=spanD_l0_t (vf A_digit c_digit) x y (fun y=>lo 0 259 (bodyOf E5 25 0) (spanD_l0_S x y) (KCM [(0,1)] 16)) (fun z=>some (.l (spanD_l0_T x z).1 (spanD_l0_T x z).2)):=by kernel_rfl
noncomputable def spanD_l0(c_digit:a_digit→Option g_digit)(q:Nat)(x:a_spanD):spanD_l0_a→Option spanD_l0_g:=lpG (fun y=>spanD_l0_t c_digit x y (fun y=>some (.inl y)) (fun z=>some (.inr z))) q
theorem spanD_l0_s(c_digit)(h_digit:Lw E5 29 A_digit R_digit c_digit)(q:Nat)(x:a_spanD):Ll E5 (bodyOf E5 25 0) (spanD_l0_S x) (spanD_l0_T x) (spanD_l0 c_digit q x):=
 slp (fk h_digit ca0_sound) hX5 (fun lo y=>(spanD_l0_r c_digit x y lo).trans (by rw[v_digit];exact spanD_l0_n _ _ _ _ _)) (fun z=>by rcases z with z|z<;>kernel_rfl) q
def t_spanD{β:Type}(c_digit:a_digit→Option g_digit)(l_spanD_l0:spanD_l0_a→Option spanD_l0_g)(x:a_spanD)(dn:g_spanD→Option β):Option β:=
 (l_spanD_l0 (0)).bind fun z8=>Sum.elim (fun z8a=>dn z8a) (fun z8b=>dn (x.size:Int)) z8
theorem n_spanD{β:Type}(c_digit)(l_spanD_l0)(x)(dn:g_spanD→Option β):t_spanD c_digit l_spanD_l0 x dn=(t_spanD c_digit l_spanD_l0 x some).bind dn:=by
 unfold t_spanD
 repeat' first|exact n0|refine n1 fun _=>?_|refine n2 ?_ ?_|refine n3 (fun _=>?_) fun _=>?_|rfl
theorem r_spanD(c_digit)(l_spanD_l0)(x):callK E5 (ftb 29 A_digit R_digit c_digit ca0) (lt2 0 (fun _=>true) (bodyOf E5 25 0) (spanD_l0_S x) (spanD_l0_T x) l_spanD_l0 lo0) 25 (A_spanD x).1 (A_spanD x).2 K=t_spanD (vf A_digit c_digit) (lf (bodyOf E5 25 0) (spanD_l0_S x) l_spanD_l0) x (fun z=>some (.c (R_spanD z))):=by kernel_rfl
noncomputable def spanD(q:Nat)(x:a_spanD):Option g_spanD:=t_spanD (digit q) (spanD_l0 (digit q) q x) x some
theorem sc_spanD(q:Nat):Lw E5 25 A_spanD R_spanD (spanD q):=sof hW5 hX5 (fk (sc_digit q) ca0_sound) (fun x=>(lk2 (spanD_l0_s (digit q) (sc_digit q) q x) lo0_sound)) fun x=>(r_spanD (digit q) (spanD_l0 (digit q) q x) x).trans (by rw[v_digit,spanD_l0_u,n_spanD]<;>rfl)
abbrev a_spanW:Type:=ByteArray
abbrev g_spanW:Type:=Int
def A_spanW:AR a_spanW:=fun x=>([st x,.fn 42 []],[])
def d_spanW(t:TT):a_spanW:=(vS (ag t 0))
theorem v_spanW:VI A_spanW:=vd d_spanW fun _=>rfl
def R_spanW:g_spanW→CRes:=fun z=>.ret (i64 z) []
abbrev spanW_l0_a:Type:=Nat
abbrev spanW_l0_g:Type:=(Int)⊕(Unit)
def spanW_l0_S(x:a_spanW)(y:spanW_l0_a):St:={fr:=[st x,V.fn 42 []]++jk 6++[V.ptr 0 0]++jk 11,H:=hp [some (Chunk.iter x y)],nx:=1,rt:=0,me:=25}
def spanW_l0_d(s:St):spanW_l0_a:=(chP (s.H 0))
theorem spanW_l0_u(x:a_spanW):VL (spanW_l0_S x):=vl spanW_l0_d fun _=>rfl
def spanW_l0_T(x:a_spanW):spanW_l0_g→Ex×St:=(Sum.elim (fun z=>(Ex.ret,{fr:=jk 4++[i64 z]++jk 15,H:=hp [],nx:=0,rt:=0,me:=25})) (fun z=>(Ex.exit 0,{fr:=[st x]++jk 19,H:=hp [],nx:=0,rt:=0,me:=25})))
def spanW_l0_t{β:Type}(c_wordC:a_wordC→Option g_wordC)(x:a_spanW)(y:spanW_l0_a)(nx:spanW_l0_a→Option β)(dn:spanW_l0_g→Option β):Option β:=
 if y<x.size then(c_wordC ((Prod.fst (Utf8.decode x y):Nat):Int)).bind fun z14=>if(!z14)=true then dn (.inl ((y:Nat):Int))else nx (y+Prod.snd (Utf8.decode x y))else dn (.inr ())
theorem spanW_l0_n{β:Type}(c_wordC)(x)(y)(nx:spanW_l0_a→Option β)(dn):spanW_l0_t c_wordC x y nx dn=(spanW_l0_t c_wordC x y (fun y=>some (.inl y)) (fun z=>some (.inr z))).bind fun r=>Sum.elim nx dn r:=by
 unfold spanW_l0_t
 repeat' first|exact n0|refine n1 fun _=>?_|refine n2 ?_ ?_|refine n3 (fun _=>?_) fun _=>?_|rfl
theorem spanW_l0_r(c_wordC)(x)(y)(lo:LoopT):loopK E5 (ftb 42 A_wordC R_wordC c_wordC ca0) lo 0 259 (bodyOf E5 25 0) (spanW_l0_S x y) (KCM [(0,1)] 16)=spanW_l0_t (vf A_wordC c_wordC) x y (fun y=>lo 0 259 (bodyOf E5 25 0) (spanW_l0_S x y) (KCM [(0,1)] 16)) (fun z=>some (.l (spanW_l0_T x z).1 (spanW_l0_T x z).2)):=by kernel_rfl
noncomputable def spanW_l0(c_wordC:a_wordC→Option g_wordC)(q:Nat)(x:a_spanW):spanW_l0_a→Option spanW_l0_g:=lpG (fun y=>spanW_l0_t c_wordC x y (fun y=>some (.inl y)) (fun z=>some (.inr z))) q
theorem spanW_l0_s(c_wordC)(h_wordC:Lw E5 42 A_wordC R_wordC c_wordC)(q:Nat)(x:a_spanW):Ll E5 (bodyOf E5 25 0) (spanW_l0_S x) (spanW_l0_T x) (spanW_l0 c_wordC q x):=
 slp (fk h_wordC ca0_sound) hX5 (fun lo y=>(spanW_l0_r c_wordC x y lo).trans (by rw[v_wordC];exact spanW_l0_n _ _ _ _ _)) (fun z=>by rcases z with z|z<;>kernel_rfl) q
def t_spanW{β:Type}(c_wordC:a_wordC→Option g_wordC)(l_spanW_l0:spanW_l0_a→Option spanW_l0_g)(x:a_spanW)(dn:g_spanW→Option β):Option β:=
 (l_spanW_l0 (0)).bind fun z8=>Sum.elim (fun z8a=>dn z8a) (fun z8b=>dn (x.size:Int)) z8
theorem n_spanW{β:Type}(c_wordC)(l_spanW_l0)(x)(dn:g_spanW→Option β):t_spanW c_wordC l_spanW_l0 x dn=(t_spanW c_wordC l_spanW_l0 x some).bind dn:=by
 unfold t_spanW
 repeat' first|exact n0|refine n1 fun _=>?_|refine n2 ?_ ?_|refine n3 (fun _=>?_) fun _=>?_|rfl
theorem r_spanW(c_wordC)(l_spanW_l0)(x):callK E5 (ftb 42 A_wordC R_wordC c_wordC ca0) (lt2 0 (fun _=>true) (bodyOf E5 25 0) (spanW_l0_S x) (spanW_l0_T x) l_spanW_l0 lo0) 25 (A_spanW x).1 (A_spanW x).2 K=t_spanW (vf A_wordC c_wordC) (lf (bodyOf E5 25 0) (spanW_l0_S x) l_spanW_l0) x (fun z=>some (.c (R_spanW z))):=by kernel_rfl
noncomputable def spanW(q:Nat)(x:a_spanW):Option g_spanW:=t_spanW (wordC q) (spanW_l0 (wordC q) q x) x some
theorem sc_spanW(q:Nat):Lw E5 25 A_spanW R_spanW (spanW q):=sof hW5 hX5 (fk (sc_wordC q) ca0_sound) (fun x=>(lk2 (spanW_l0_s (wordC q) (sc_wordC q) q x) lo0_sound)) fun x=>(r_spanW (wordC q) (spanW_l0 (wordC q) q x) x).trans (by rw[v_wordC,spanW_l0_u,n_spanW]<;>rfl)
abbrev a_word:Type:=ByteArray
abbrev g_word:Type:=Int×Int×ByteArray×Int×Int
def A_word:AR a_word:=fun x=>([st x],[])
def d_word(t:TT):a_word:=(vS (ag t 0))
theorem v_word:VI A_word:=vd d_word fun _=>rfl
def R_word:g_word→CRes:=fun z=>.ret (.tup [.agg [i64 z.1,i64 z.2.1,st z.2.2.1,i64 z.2.2.2.1],i64 z.2.2.2.2]) []
def t_word{β:Type}(c_spanW:a_spanW→Option g_spanW)(x:a_word)(dn:g_word→Option β):Option β:=
 (c_spanW x).bind fun z1=>if decide (z1>12)=true then dn (0,0,⟨#[]⟩,0,2)else if(0:Int)≤0∧0≤z1∧z1≤(x.size:Int)then dn (1,0,ByteArray.extract x 0 (Int.toNat z1),0,0)else none
theorem n_word{β:Type}(c_spanW)(x)(dn:g_word→Option β):t_word c_spanW x dn=(t_word c_spanW x some).bind dn:=by
 unfold t_word
 repeat' first|exact n0|refine n1 fun _=>?_|refine n2 ?_ ?_|refine n3 (fun _=>?_) fun _=>?_|rfl
theorem r_word(c_spanW)(x):callK E5 (ftg 25 (fun a _=>fnId (a.getD 1 .junk)==42) A_spanW R_spanW c_spanW ca0) lo0 28 (A_word x).1 (A_word x).2 K=t_word (vf A_spanW c_spanW) x (fun z=>some (.c (R_word z))):=by kernel_rfl
noncomputable def word(q:Nat)(x:a_word):Option g_word:=t_word (spanW q) x some
theorem sc_word(q:Nat):Lw E5 28 A_word R_word (word q):=sof hW5 hX5 (fk (sc_spanW q) ca0_sound) (fun _=>lo0_sound) fun x=>(r_word (spanW q) x).trans (by rw[v_spanW,n_word]<;>rfl)
abbrev a_lnum:Type:=ByteArray
abbrev g_lnum:Type:=Int×Int×ByteArray×Int×Int
def A_lnum:AR a_lnum:=fun x=>([st x],[])
def d_lnum(t:TT):a_lnum:=(vS (ag t 0))
theorem v_lnum:VI A_lnum:=vd d_lnum fun _=>rfl
def R_lnum:g_lnum→CRes:=fun z=>.ret (.tup [.agg [i64 z.1,i64 z.2.1,st z.2.2.1,i64 z.2.2.2.1],i64 z.2.2.2.2]) []
abbrev lnum_l0_a:Type:=ByteArray×Int×Nat
abbrev lnum_l0_g:Type:=(Unit)⊕(ByteArray×Int)
def lnum_l0_S(x:a_lnum)(y:lnum_l0_a):St:={fr:=[V.junk,V.junk,V.ptr 0 0,V.junk,st y.1,i64 y.2.1]++jk 16++[V.ptr 1 0]++jk 15,H:=hp [some (Chunk.blk [i64 0,i64 0,st ⟨#[]⟩,i64 0]),some (Chunk.iter y.1 y.2.2)],nx:=2,rt:=0,me:=30}
def lnum_l0_d(s:St):lnum_l0_a:=((vS (s.fr.getD 4 .junk)),vI (s.fr.getD 5 .junk),(chP (s.H 1)))
theorem lnum_l0_u(x:a_lnum):VL (lnum_l0_S x):=vl lnum_l0_d fun _=>rfl
def lnum_l0_T(x:a_lnum):lnum_l0_g→Ex×St:=(Sum.elim (fun z=>(Ex.ret,{fr:=[V.junk,V.junk,V.ptr 0 0,i64 5]++jk 34,H:=hp [some (Chunk.blk [i64 0,i64 0,st ⟨#[]⟩,i64 0])],nx:=1,rt:=0,me:=30})) (fun z=>(Ex.exit 0,{fr:=[V.junk,V.junk,V.ptr 0 0,V.junk,st z.1,i64 z.2]++jk 32,H:=hp [some (Chunk.blk [i64 0,i64 0,st ⟨#[]⟩,i64 0])],nx:=1,rt:=0,me:=30})))
def lnum_l0_t{β:Type}(c_spanD:a_spanD→Option g_spanD)(x:a_lnum)(y:lnum_l0_a)(nx:lnum_l0_a→Option β)(dn:lnum_l0_g→Option β):Option β:=
 if y.2.2<y.1.size then if decide (w (w (10*y.2.1)+w (IntKind.wrap IntKind.i32 (((Prod.fst (Utf8.decode y.1 y.2.2):Nat):Int)-48)))>2147483647)=true then dn (.inl ())else nx ((y.1,w (w (10*y.2.1)+w (IntKind.wrap IntKind.i32 (((Prod.fst (Utf8.decode y.1 y.2.2):Nat):Int)-48))),y.2.2+Prod.snd (Utf8.decode y.1 y.2.2)))else dn (.inr (y.1,y.2.1))
theorem lnum_l0_n{β:Type}(c_spanD)(x)(y)(nx:lnum_l0_a→Option β)(dn):lnum_l0_t c_spanD x y nx dn=(lnum_l0_t c_spanD x y (fun y=>some (.inl y)) (fun z=>some (.inr z))).bind fun r=>Sum.elim nx dn r:=by
 unfold lnum_l0_t
 repeat' first|exact n0|refine n1 fun _=>?_|refine n2 ?_ ?_|refine n3 (fun _=>?_) fun _=>?_|rfl
theorem lnum_l0_r(c_spanD)(x)(y)(lo:LoopT):loopK E5 (ftg 25 (fun a _=>fnId (a.getD 1 .junk)==29) A_spanD R_spanD c_spanD ca0) lo 0 4194356 (bodyOf E5 30 0) (lnum_l0_S x y) (KCM [(0,52)] 12)=lnum_l0_t (vf A_spanD c_spanD) x y (fun y=>lo 0 4194356 (bodyOf E5 30 0) (lnum_l0_S x y) (KCM [(0,52)] 12)) (fun z=>some (.l (lnum_l0_T x z).1 (lnum_l0_T x z).2)):=by kernel_rfl
noncomputable def lnum_l0(c_spanD:a_spanD→Option g_spanD)(q:Nat)(x:a_lnum):lnum_l0_a→Option lnum_l0_g:=lpG (fun y=>lnum_l0_t c_spanD x y (fun y=>some (.inl y)) (fun z=>some (.inr z))) q
theorem lnum_l0_s(c_spanD)(h_spanD:Lw E5 25 A_spanD R_spanD c_spanD)(q:Nat)(x:a_lnum):Ll E5 (bodyOf E5 30 0) (lnum_l0_S x) (lnum_l0_T x) (lnum_l0 c_spanD q x):=
 slp (fk h_spanD ca0_sound) hX5 (fun lo y=>(lnum_l0_r c_spanD x y lo).trans (by rw[v_spanD];exact lnum_l0_n _ _ _ _ _)) (fun z=>by rcases z with z|z<;>kernel_rfl) q
def t_lnum{β:Type}(c_spanD:a_spanD→Option g_spanD)(l_lnum_l0:lnum_l0_a→Option lnum_l0_g)(x:a_lnum)(dn:g_lnum→Option β):Option β:=
 (c_spanD x).bind fun z1=>if(0:Int)≤0∧0≤z1∧z1≤(x.size:Int)then if decide ((ByteArray.size (ByteArray.extract x 0 (Int.toNat z1)):Int)>1)=true then if(0:Int)≤0∧0< (ByteArray.size (ByteArray.extract x 0 (Int.toNat z1)):Int)then if(((UInt8.toNat (List.getD (Array.toList (ByteArray.data (ByteArray.extract x 0 (Int.toNat z1)))) 0 0):Nat):Int)==48)=true then dn (0,0,⟨#[]⟩,0,11)else(l_lnum_l0 (ByteArray.extract x 0 (Int.toNat z1),0,0)).bind fun z16=>Sum.elim (fun z16a=>dn (0,0,⟨#[]⟩,0,5)) (fun z16b=>dn (2,0,z16b.1,z16b.2,0)) z16 else none else(l_lnum_l0 (ByteArray.extract x 0 (Int.toNat z1),0,0)).bind fun z18=>Sum.elim (fun z18a=>dn (0,0,⟨#[]⟩,0,5)) (fun z18b=>dn (2,0,z18b.1,z18b.2,0)) z18 else none
theorem n_lnum{β:Type}(c_spanD)(l_lnum_l0)(x)(dn:g_lnum→Option β):t_lnum c_spanD l_lnum_l0 x dn=(t_lnum c_spanD l_lnum_l0 x some).bind dn:=by
 unfold t_lnum
 repeat' first|exact n0|refine n1 fun _=>?_|refine n2 ?_ ?_|refine n3 (fun _=>?_) fun _=>?_|rfl
theorem r_lnum(c_spanD)(l_lnum_l0)(x):callK E5 (ftg 25 (fun a _=>fnId (a.getD 1 .junk)==29) A_spanD R_spanD c_spanD ca0) (lt2 0 (fun _=>true) (bodyOf E5 30 0) (lnum_l0_S x) (lnum_l0_T x) l_lnum_l0 lo0) 30 (A_lnum x).1 (A_lnum x).2 K=t_lnum (vf A_spanD c_spanD) (lf (bodyOf E5 30 0) (lnum_l0_S x) l_lnum_l0) x (fun z=>some (.c (R_lnum z))):=by kernel_rfl
noncomputable def lnum(q:Nat)(x:a_lnum):Option g_lnum:=t_lnum (spanD q) (lnum_l0 (spanD q) q x) x some
theorem sc_lnum(q:Nat):Lw E5 30 A_lnum R_lnum (lnum q):=sof hW5 hX5 (fk (sc_spanD q) ca0_sound) (fun x=>(lk2 (lnum_l0_s (spanD q) (sc_spanD q) q x) lo0_sound)) fun x=>(r_lnum (spanD q) (lnum_l0 (spanD q) q x) x).trans (by rw[v_spanD,lnum_l0_u,n_lnum]<;>rfl)
abbrev a_lsym:Type:=ByteArray
abbrev g_lsym:Type:=Int×Int×ByteArray×Int×Int
def A_lsym:AR a_lsym:=fun x=>([st x],[])
def d_lsym(t:TT):a_lsym:=(vS (ag t 0))
theorem v_lsym:VI A_lsym:=vd d_lsym fun _=>rfl
def R_lsym:g_lsym→CRes:=fun z=>.ret (.tup [.agg [i64 z.1,i64 z.2.1,st z.2.2.1,i64 z.2.2.2.1],i64 z.2.2.2.2]) []
def t_lsym{β:Type}(c_IndexByte:a_IndexByte→Option g_IndexByte)(x:a_lsym)(dn:g_lsym→Option β):Option β:=
 if(0:Int)≤0∧0< (x.size:Int)then(c_IndexByte ((⟨#[123,125,40,41,61,59,44,58,60,62,43,45,42,47,33,46]⟩,((UInt8.toNat (List.getD (Array.toList x.data) 0 0):Nat):Int)))).bind fun z2=>if decide (z2≥0)=true then if decide ((x.size:Int)>1)=true then if(0:Int)≤0∧(0:Int)≤2∧2≤(x.size:Int)then if(ByteArray.toList (ByteArray.extract x 0 2)==ByteArray.toList ⟨#[124,124]⟩)=true then if(0:Int)≤0∧(0:Int)≤2∧2≤(x.size:Int)then dn (3,0,ByteArray.extract x 0 2,0,0)else none else if(ByteArray.toList (ByteArray.extract x 0 2)==ByteArray.toList ⟨#[38,38]⟩)=true then if(0:Int)≤0∧(0:Int)≤2∧2≤(x.size:Int)then dn (3,0,ByteArray.extract x 0 2,0,0)else none else if(ByteArray.toList (ByteArray.extract x 0 2)==ByteArray.toList ⟨#[60,61]⟩)=true then if(0:Int)≤0∧(0:Int)≤2∧2≤(x.size:Int)then dn (3,0,ByteArray.extract x 0 2,0,0)else none else if(ByteArray.toList (ByteArray.extract x 0 2)==ByteArray.toList ⟨#[62,61]⟩)=true then if(0:Int)≤0∧(0:Int)≤2∧2≤(x.size:Int)then dn (3,0,ByteArray.extract x 0 2,0,0)else none else if(ByteArray.toList (ByteArray.extract x 0 2)==ByteArray.toList ⟨#[61,61]⟩)=true then if(0:Int)≤0∧(0:Int)≤2∧2≤(x.size:Int)then dn (3,0,ByteArray.extract x 0 2,0,0)else none else if(ByteArray.toList (ByteArray.extract x 0 2)==ByteArray.toList ⟨#[33,61]⟩)=true then if(0:Int)≤0∧(0:Int)≤2∧2≤(x.size:Int)then dn (3,0,ByteArray.extract x 0 2,0,0)else none else if(0:Int)≤0∧(0:Int)≤1∧1≤(x.size:Int)then dn (3,0,ByteArray.extract x 0 1,0,0)else none else none else if(0:Int)≤0∧(0:Int)≤1∧1≤(x.size:Int)then dn (3,0,ByteArray.extract x 0 1,0,0)else none else if decide ((x.size:Int)>1)=true then if(0:Int)≤0∧(0:Int)≤2∧2≤(x.size:Int)then if(ByteArray.toList (ByteArray.extract x 0 2)==ByteArray.toList ⟨#[124,124]⟩)=true then if(0:Int)≤0∧(0:Int)≤2∧2≤(x.size:Int)then dn (3,0,ByteArray.extract x 0 2,0,0)else none else if(ByteArray.toList (ByteArray.extract x 0 2)==ByteArray.toList ⟨#[38,38]⟩)=true then if(0:Int)≤0∧(0:Int)≤2∧2≤(x.size:Int)then dn (3,0,ByteArray.extract x 0 2,0,0)else none else if(ByteArray.toList (ByteArray.extract x 0 2)==ByteArray.toList ⟨#[60,61]⟩)=true then if(0:Int)≤0∧(0:Int)≤2∧2≤(x.size:Int)then dn (3,0,ByteArray.extract x 0 2,0,0)else none else if(ByteArray.toList (ByteArray.extract x 0 2)==ByteArray.toList ⟨#[62,61]⟩)=true then if(0:Int)≤0∧(0:Int)≤2∧2≤(x.size:Int)then dn (3,0,ByteArray.extract x 0 2,0,0)else none else if(ByteArray.toList (ByteArray.extract x 0 2)==ByteArray.toList ⟨#[61,61]⟩)=true then if(0:Int)≤0∧(0:Int)≤2∧2≤(x.size:Int)then dn (3,0,ByteArray.extract x 0 2,0,0)else none else if(ByteArray.toList (ByteArray.extract x 0 2)==ByteArray.toList ⟨#[33,61]⟩)=true then if(0:Int)≤0∧(0:Int)≤2∧2≤(x.size:Int)then dn (3,0,ByteArray.extract x 0 2,0,0)else none else dn (0,0,⟨#[]⟩,0,11)else none else dn (0,0,⟨#[]⟩,0,11)else none
theorem n_lsym{β:Type}(c_IndexByte)(x)(dn:g_lsym→Option β):t_lsym c_IndexByte x dn=(t_lsym c_IndexByte x some).bind dn:=by
 unfold t_lsym
 repeat' first|exact n0|refine n1 fun _=>?_|refine n2 ?_ ?_|refine n3 (fun _=>?_) fun _=>?_|rfl
theorem r_lsym(c_IndexByte)(x):callK E5 (ftb 43 A_IndexByte R_IndexByte c_IndexByte ca0) lo0 31 (A_lsym x).1 (A_lsym x).2 K=t_lsym (vf A_IndexByte c_IndexByte) x (fun z=>some (.c (R_lsym z))):=by kernel_rfl
noncomputable def lsym(q:Nat)(x:a_lsym):Option g_lsym:=t_lsym (IndexByte q) x some
theorem sc_lsym(q:Nat):Lw E5 31 A_lsym R_lsym (lsym q):=sof hW5 hX5 (fk (sc_IndexByte q) ca0_sound) (fun _=>lo0_sound) fun x=>(r_lsym (IndexByte q) x).trans (by rw[v_IndexByte,n_lsym]<;>rfl)
abbrev a_Tokens:Type:=ByteArray
abbrev g_Tokens:Type:=(Int×Int)⊕(Int×Int×Nat×FI×FI×FS×FI)
def A_Tokens:AR a_Tokens:=fun x=>([st x],[])
def R_Tokens:g_Tokens→CRes:=Sum.elim (fun z:Int×Int=>.ret (.tup [nilS,i64 z.1,i64 z.2]) []) (fun z:Int×Int×Nat×FI×FI×FS×FI=>.ret (.tup [.sl 0 4 0 z.2.2.1,i64 z.1,i64 z.2.1]) [some (.row 35 4 z.2.2.1 (fun j=>[i64 (z.2.2.2.1 j),i64 (z.2.2.2.2.1 j),st (z.2.2.2.2.2.1 j),i64 (z.2.2.2.2.2.2 j)]))])
abbrev Tokens_l0_a:Type:=(Nat×Int)⊕(Int×FI×FS×FI×FI×Nat×Nat)
abbrev Tokens_l0_g:Type:=(Int×Int)⊕(Unit)⊕(Nat×FI×FI×FS×FI)
def Tokens_l0_S0(x:a_Tokens)(y:Nat×Int):St:={fr:=[st x]++jk 4++[nilS,i64 y.2]++jk 9++[V.ptr 0 0]++jk 74,H:=hp [some (Chunk.iter x y.1)],nx:=1,rt:=0,me:=13}
def Tokens_l0_d0(s:St):Nat×Int:=((chP (s.H 0)),vI (s.fr.getD 6 .junk))
def Tokens_l0_S1(x:a_Tokens)(y:Int×FI×FS×FI×FI×Nat×Nat):St:={fr:=[st x]++jk 4++[V.sl 0 4 0 y.2.2.2.2.2.2,i64 y.1]++jk 9++[V.ptr 1 0]++jk 74,H:=hp [some (Chunk.row 35 4 y.2.2.2.2.2.2 fun j=>[i64 (y.2.1 j),i64 (y.2.2.2.2.1 j),st (y.2.2.1 j),i64 (y.2.2.2.1 j)]),some (Chunk.iter x y.2.2.2.2.2.1)],nx:=2,rt:=0,me:=13}
def Tokens_l0_d1(s:St):Int×FI×FS×FI×FI×Nat×Nat:=((vI (s.fr.getD 6 .junk)),dRI (s.H 0) 0,dRS (s.H 0) 2,dRI (s.H 0) 3,dRI (s.H 0) 1,(chP (s.H 1)),vSlN (s.fr.getD 5 .junk))
def Tokens_l0_S(x:a_Tokens):Tokens_l0_a→St:=(Sum.elim (Tokens_l0_S0 x) (Tokens_l0_S1 x))
def Tokens_l0_d(s:St):Tokens_l0_a:=(match s.nx==1 with|true=>(.inl (Tokens_l0_d0 s)) |false=>(.inr (Tokens_l0_d1 s)))
theorem Tokens_l0_u(x:a_Tokens):VL (Tokens_l0_S x):=vl Tokens_l0_d (fun y=>by rcases y with y|y<;>rfl)
def Tokens_l0_T(x:a_Tokens):Tokens_l0_g→Ex×St:=(Sum.elim (fun z=>(Ex.ret,{fr:=[V.junk,V.junk,nilS,i64 z.1,i64 z.2]++jk 86,H:=hp [],nx:=0,rt:=0,me:=13})) (Sum.elim (fun z=>(Ex.exit 0,{fr:=[st x]++jk 4++[nilS]++jk 85,H:=hp [],nx:=0,rt:=0,me:=13})) (fun z=>(Ex.exit 0,{fr:=[st x]++jk 4++[V.sl 0 4 0 z.1]++jk 85,H:=hp [some (Chunk.row 35 4 z.1 fun j=>[i64 (z.2.1 j),i64 (z.2.2.1 j),st (z.2.2.2.1 j),i64 (z.2.2.2.2 j)])],nx:=1,rt:=0,me:=13}))))
def Tokens_l0_t0{β:Type}(c_letter:a_letter→Option g_letter)(c_digit:a_digit→Option g_digit)(c_spanN:a_spanN→Option g_spanN)(c_word:a_word→Option g_word)(c_lnum:a_lnum→Option g_lnum)(c_lsym:a_lsym→Option g_lsym)(x:a_Tokens)(y:Nat×Int)(nx:Tokens_l0_a→Option β)(dn:Tokens_l0_g→Option β):Option β:=
 if y.1<x.size then if decide (((y.1:Nat):Int)<y.2)=true then nx (.inl (y.1+Prod.snd (Utf8.decode x y.1),y.2))else if 0≤((y.1:Nat):Int)∧((y.1:Nat):Int)≤(x.size:Int)∧(x.size:Int)≤(x.size:Int)then if(((Prod.fst (Utf8.decode x y.1):Nat):Int)==32)=true then nx (.inl (y.1+Prod.snd (Utf8.decode x y.1),y.2))else if(((Prod.fst (Utf8.decode x y.1):Nat):Int)==9)=true then nx (.inl (y.1+Prod.snd (Utf8.decode x y.1),y.2))else if(((Prod.fst (Utf8.decode x y.1):Nat):Int)==10)=true then nx (.inl (y.1+Prod.snd (Utf8.decode x y.1),y.2))else if(((Prod.fst (Utf8.decode x y.1):Nat):Int)==13)=true then nx (.inl (y.1+Prod.snd (Utf8.decode x y.1),y.2))else if(((Prod.fst (Utf8.decode x y.1):Nat):Int)==35)=true then(c_spanN (ByteArray.extract x (Int.toNat ((y.1:Nat):Int)) (Int.toNat (x.size:Int)))).bind fun z476=>nx (.inl (y.1+Prod.snd (Utf8.decode x y.1),w (((y.1:Nat):Int)+z476)))else(c_letter ((Prod.fst (Utf8.decode x y.1):Nat):Int)).bind fun z478=>if z478=true then(c_word (ByteArray.extract x (Int.toNat ((y.1:Nat):Int)) (Int.toNat (x.size:Int)))).bind fun z480=>if(z480.2.2.2.2 !=0)=true then dn (.inl (((y.1:Nat):Int),z480.2.2.2.2))else nx (.inr (w (((y.1:Nat):Int)+(z480.2.2.1.size:Int)),fun j=>z480.1,fun j=>z480.2.2.1,fun j=>z480.2.2.2.1,fun j=>((y.1:Nat):Int),y.1+Prod.snd (Utf8.decode x y.1),1))else(c_digit ((Prod.fst (Utf8.decode x y.1):Nat):Int)).bind fun z482=>if z482=true then(c_lnum (ByteArray.extract x (Int.toNat ((y.1:Nat):Int)) (Int.toNat (x.size:Int)))).bind fun z484=>if(z484.2.2.2.2 !=0)=true then dn (.inl (((y.1:Nat):Int),z484.2.2.2.2))else nx (.inr (w (((y.1:Nat):Int)+(z484.2.2.1.size:Int)),fun j=>z484.1,fun j=>z484.2.2.1,fun j=>z484.2.2.2.1,fun j=>((y.1:Nat):Int),y.1+Prod.snd (Utf8.decode x y.1),1))else(c_lsym (ByteArray.extract x (Int.toNat ((y.1:Nat):Int)) (Int.toNat (x.size:Int)))).bind fun z486=>if(z486.2.2.2.2 !=0)=true then dn (.inl (((y.1:Nat):Int),z486.2.2.2.2))else nx (.inr (w (((y.1:Nat):Int)+(z486.2.2.1.size:Int)),fun j=>z486.1,fun j=>z486.2.2.1,fun j=>z486.2.2.2.1,fun j=>((y.1:Nat):Int),y.1+Prod.snd (Utf8.decode x y.1),1))else none else dn (.inr (.inl ()))
theorem Tokens_l0_n0{β:Type}(c_letter c_digit)(c_spanN c_word)(c_lnum c_lsym)(x)(y)(nx:Tokens_l0_a→Option β)(dn):Tokens_l0_t0 c_letter c_digit c_spanN c_word c_lnum c_lsym x y nx dn=(Tokens_l0_t0 c_letter c_digit c_spanN c_word c_lnum c_lsym x y (fun y=>some (.inl y)) (fun z=>some (.inr z))).bind fun r=>Sum.elim nx dn r:=by
 unfold Tokens_l0_t0
 repeat' first|exact n0|refine n1 fun _=>?_|refine n2 ?_ ?_|refine n3 (fun _=>?_) fun _=>?_|rfl
theorem Tokens_l0_r0(c_letter c_digit)(c_spanN c_word)(c_lnum c_lsym)(x)(y)(lo:LoopT):loopK E5 (ftb 27 A_letter R_letter c_letter (ftb 29 A_digit R_digit c_digit (ftg 25 (fun a _=>fnId (a.getD 1 .junk)==26) A_spanN R_spanN c_spanN (ftb 28 A_word R_word c_word (ftb 30 A_lnum R_lnum c_lnum (ftb 31 A_lsym R_lsym c_lsym ca0)))))) lo 0 65633 (bodyOf E5 13 0) (Tokens_l0_S x (.inl y)) (KCM [(0,33)] 28)=Tokens_l0_t0 (vf A_letter c_letter) (vf A_digit c_digit) (vf A_spanN c_spanN) (vf A_word c_word) (vf A_lnum c_lnum) (vf A_lsym c_lsym) x y (fun y=>lo 0 65633 (bodyOf E5 13 0) (Tokens_l0_S x y) (KCM [(0,33)] 28)) (fun z=>some (.l (Tokens_l0_T x z).1 (Tokens_l0_T x z).2)):=by kernel_rfl
def Tokens_l0_t1{β:Type}(c_letter:a_letter→Option g_letter)(c_digit:a_digit→Option g_digit)(c_spanN:a_spanN→Option g_spanN)(c_word:a_word→Option g_word)(c_lnum:a_lnum→Option g_lnum)(c_lsym:a_lsym→Option g_lsym)(x:a_Tokens)(y:Int×FI×FS×FI×FI×Nat×Nat)(nx:Tokens_l0_a→Option β)(dn:Tokens_l0_g→Option β):Option β:=
 if y.2.2.2.2.2.1<x.size then if decide (((y.2.2.2.2.2.1:Nat):Int)<y.1)=true then nx (.inr (y.1,y.2.1,y.2.2.1,y.2.2.2.1,y.2.2.2.2.1,y.2.2.2.2.2.1+Prod.snd (Utf8.decode x y.2.2.2.2.2.1),y.2.2.2.2.2.2))else if 0≤((y.2.2.2.2.2.1:Nat):Int)∧((y.2.2.2.2.2.1:Nat):Int)≤(x.size:Int)∧(x.size:Int)≤(x.size:Int)then if(((Prod.fst (Utf8.decode x y.2.2.2.2.2.1):Nat):Int)==32)=true then nx (.inr (y.1,y.2.1,y.2.2.1,y.2.2.2.1,y.2.2.2.2.1,y.2.2.2.2.2.1+Prod.snd (Utf8.decode x y.2.2.2.2.2.1),y.2.2.2.2.2.2))else if(((Prod.fst (Utf8.decode x y.2.2.2.2.2.1):Nat):Int)==9)=true then nx (.inr (y.1,y.2.1,y.2.2.1,y.2.2.2.1,y.2.2.2.2.1,y.2.2.2.2.2.1+Prod.snd (Utf8.decode x y.2.2.2.2.2.1),y.2.2.2.2.2.2))else if(((Prod.fst (Utf8.decode x y.2.2.2.2.2.1):Nat):Int)==10)=true then nx (.inr (y.1,y.2.1,y.2.2.1,y.2.2.2.1,y.2.2.2.2.1,y.2.2.2.2.2.1+Prod.snd (Utf8.decode x y.2.2.2.2.2.1),y.2.2.2.2.2.2))else if(((Prod.fst (Utf8.decode x y.2.2.2.2.2.1):Nat):Int)==13)=true then nx (.inr (y.1,y.2.1,y.2.2.1,y.2.2.2.1,y.2.2.2.2.1,y.2.2.2.2.2.1+Prod.snd (Utf8.decode x y.2.2.2.2.2.1),y.2.2.2.2.2.2))else if(((Prod.fst (Utf8.decode x y.2.2.2.2.2.1):Nat):Int)==35)=true then(c_spanN (ByteArray.extract x (Int.toNat ((y.2.2.2.2.2.1:Nat):Int)) (Int.toNat (x.size:Int)))).bind fun z489=>nx (.inr (w (((y.2.2.2.2.2.1:Nat):Int)+z489),y.2.1,y.2.2.1,y.2.2.2.1,y.2.2.2.2.1,y.2.2.2.2.2.1+Prod.snd (Utf8.decode x y.2.2.2.2.2.1),y.2.2.2.2.2.2))else(c_letter ((Prod.fst (Utf8.decode x y.2.2.2.2.2.1):Nat):Int)).bind fun z491=>if z491=true then(c_word (ByteArray.extract x (Int.toNat ((y.2.2.2.2.2.1:Nat):Int)) (Int.toNat (x.size:Int)))).bind fun z493=>if(z493.2.2.2.2 !=0)=true then dn (.inl (((y.2.2.2.2.2.1:Nat):Int),z493.2.2.2.2))else if(y.2.2.2.2.2.2+1)*40≤roomBound∧y.2.2.2.2.2.2+1≤maxLen∧y.2.2.2.2.2.2≤y.2.2.2.2.2.2 then nx (.inr (w (((y.2.2.2.2.2.1:Nat):Int)+(z493.2.2.1.size:Int)),fun j=>if j<y.2.2.2.2.2.2 then y.2.1 j else z493.1,fun j=>if j<y.2.2.2.2.2.2 then y.2.2.1 j else z493.2.2.1,fun j=>if j<y.2.2.2.2.2.2 then y.2.2.2.1 j else z493.2.2.2.1,fun j=>if j<y.2.2.2.2.2.2 then y.2.2.2.2.1 j else((y.2.2.2.2.2.1:Nat):Int),y.2.2.2.2.2.1+Prod.snd (Utf8.decode x y.2.2.2.2.2.1),y.2.2.2.2.2.2+1))else none else(c_digit ((Prod.fst (Utf8.decode x y.2.2.2.2.2.1):Nat):Int)).bind fun z495=>if z495=true then(c_lnum (ByteArray.extract x (Int.toNat ((y.2.2.2.2.2.1:Nat):Int)) (Int.toNat (x.size:Int)))).bind fun z497=>if(z497.2.2.2.2 !=0)=true then dn (.inl (((y.2.2.2.2.2.1:Nat):Int),z497.2.2.2.2))else if(y.2.2.2.2.2.2+1)*40≤roomBound∧y.2.2.2.2.2.2+1≤maxLen∧y.2.2.2.2.2.2≤y.2.2.2.2.2.2 then nx (.inr (w (((y.2.2.2.2.2.1:Nat):Int)+(z497.2.2.1.size:Int)),fun j=>if j<y.2.2.2.2.2.2 then y.2.1 j else z497.1,fun j=>if j<y.2.2.2.2.2.2 then y.2.2.1 j else z497.2.2.1,fun j=>if j<y.2.2.2.2.2.2 then y.2.2.2.1 j else z497.2.2.2.1,fun j=>if j<y.2.2.2.2.2.2 then y.2.2.2.2.1 j else((y.2.2.2.2.2.1:Nat):Int),y.2.2.2.2.2.1+Prod.snd (Utf8.decode x y.2.2.2.2.2.1),y.2.2.2.2.2.2+1))else none else(c_lsym (ByteArray.extract x (Int.toNat ((y.2.2.2.2.2.1:Nat):Int)) (Int.toNat (x.size:Int)))).bind fun z499=>if(z499.2.2.2.2 !=0)=true then dn (.inl (((y.2.2.2.2.2.1:Nat):Int),z499.2.2.2.2))else if(y.2.2.2.2.2.2+1)*40≤roomBound∧y.2.2.2.2.2.2+1≤maxLen∧y.2.2.2.2.2.2≤y.2.2.2.2.2.2 then nx (.inr (w (((y.2.2.2.2.2.1:Nat):Int)+(z499.2.2.1.size:Int)),fun j=>if j<y.2.2.2.2.2.2 then y.2.1 j else z499.1,fun j=>if j<y.2.2.2.2.2.2 then y.2.2.1 j else z499.2.2.1,fun j=>if j<y.2.2.2.2.2.2 then y.2.2.2.1 j else z499.2.2.2.1,fun j=>if j<y.2.2.2.2.2.2 then y.2.2.2.2.1 j else((y.2.2.2.2.2.1:Nat):Int),y.2.2.2.2.2.1+Prod.snd (Utf8.decode x y.2.2.2.2.2.1),y.2.2.2.2.2.2+1))else none else none else dn (.inr (.inr (y.2.2.2.2.2.2,y.2.1,y.2.2.2.2.1,y.2.2.1,y.2.2.2.1)))
theorem Tokens_l0_n1{β:Type}(c_letter c_digit)(c_spanN c_word)(c_lnum c_lsym)(x)(y)(nx:Tokens_l0_a→Option β)(dn):Tokens_l0_t1 c_letter c_digit c_spanN c_word c_lnum c_lsym x y nx dn=(Tokens_l0_t1 c_letter c_digit c_spanN c_word c_lnum c_lsym x y (fun y=>some (.inl y)) (fun z=>some (.inr z))).bind fun r=>Sum.elim nx dn r:=by
 unfold Tokens_l0_t1
 repeat' first|exact n0|refine n1 fun _=>?_|refine n2 ?_ ?_|refine n3 (fun _=>?_) fun _=>?_|rfl
theorem Tokens_l0_r1(c_letter c_digit)(c_spanN c_word)(c_lnum c_lsym)(x)(y)(lo:LoopT):loopK E5 (ftb 27 A_letter R_letter c_letter (ftb 29 A_digit R_digit c_digit (ftg 25 (fun a _=>fnId (a.getD 1 .junk)==26) A_spanN R_spanN c_spanN (ftb 28 A_word R_word c_word (ftb 30 A_lnum R_lnum c_lnum (ftb 31 A_lsym R_lsym c_lsym ca0)))))) lo 0 65633 (bodyOf E5 13 0) (Tokens_l0_S x (.inr y)) (KCM [(0,33)] 28)=Tokens_l0_t1 (vf A_letter c_letter) (vf A_digit c_digit) (vf A_spanN c_spanN) (vf A_word c_word) (vf A_lnum c_lnum) (vf A_lsym c_lsym) x y (fun y=>lo 0 65633 (bodyOf E5 13 0) (Tokens_l0_S x y) (KCM [(0,33)] 28)) (fun z=>some (.l (Tokens_l0_T x z).1 (Tokens_l0_T x z).2)):=by kernel_rfl
noncomputable def Tokens_l0(c_letter:a_letter→Option g_letter)(c_digit:a_digit→Option g_digit)(c_spanN:a_spanN→Option g_spanN)(c_word:a_word→Option g_word)(c_lnum:a_lnum→Option g_lnum)(c_lsym:a_lsym→Option g_lsym)(q:Nat)(x:a_Tokens):Tokens_l0_a→Option Tokens_l0_g:=lpG (Sum.elim (fun y=>Tokens_l0_t0 c_letter c_digit c_spanN c_word c_lnum c_lsym x y (fun y=>some (.inl y)) (fun z=>some (.inr z))) (fun y=>Tokens_l0_t1 c_letter c_digit c_spanN c_word c_lnum c_lsym x y (fun y=>some (.inl y)) (fun z=>some (.inr z)))) q
theorem Tokens_l0_s(c_letter)(h_letter:Lw E5 27 A_letter R_letter c_letter)(c_digit)(h_digit:Lw E5 29 A_digit R_digit c_digit)(c_spanN)(h_spanN:Lw E5 25 A_spanN R_spanN c_spanN)(c_word)(h_word:Lw E5 28 A_word R_word c_word)(c_lnum)(h_lnum:Lw E5 30 A_lnum R_lnum c_lnum)(c_lsym)(h_lsym:Lw E5 31 A_lsym R_lsym c_lsym)(q:Nat)(x:a_Tokens):Ll E5 (bodyOf E5 13 0) (Tokens_l0_S x) (Tokens_l0_T x) (Tokens_l0 c_letter c_digit c_spanN c_word c_lnum c_lsym q x):=
 slp (fk h_letter (fk h_digit (fk h_spanN (fk h_word (fk h_lnum (fk h_lsym ca0_sound)))))) hX5 (fun lo y=>by
  rcases y with y|y
  ·exact(Tokens_l0_r0 c_letter c_digit c_spanN c_word c_lnum c_lsym x y lo).trans (by rw[v_letter,v_digit,v_spanN,v_word,v_lnum,v_lsym];exact Tokens_l0_n0 _ _ _ _ _ _ _ _ _ _)
  ·exact(Tokens_l0_r1 c_letter c_digit c_spanN c_word c_lnum c_lsym x y lo).trans (by rw[v_letter,v_digit,v_spanN,v_word,v_lnum,v_lsym];exact Tokens_l0_n1 _ _ _ _ _ _ _ _ _ _)) (fun z=>by rcases z with z|z|z<;>kernel_rfl) q
def t_Tokens{β:Type}(c_letter:a_letter→Option g_letter)(c_digit:a_digit→Option g_digit)(c_spanN:a_spanN→Option g_spanN)(c_word:a_word→Option g_word)(c_lnum:a_lnum→Option g_lnum)(c_lsym:a_lsym→Option g_lsym)(l_Tokens_l0:Tokens_l0_a→Option Tokens_l0_g)(x:a_Tokens)(dn:g_Tokens→Option β):Option β:=
 if decide ((x.size:Int)>4000)=true then dn (.inl (4000,2))else(l_Tokens_l0 (.inl (0,0))).bind fun z461=>Sum.elim (fun z461a=>dn (.inl z461a)) (fun z461b=>Sum.elim (fun z461ba=>dn (.inr (0,0,1,fun j=>0,fun j=>(x.size:Int),fun j=>⟨#[]⟩,fun j=>0))) (fun z461bb=>if(z461bb.1+1)*40≤roomBound∧z461bb.1+1≤maxLen∧z461bb.1≤z461bb.1 then dn (.inr (0,0,z461bb.1+1,fun j=>if j<z461bb.1 then z461bb.2.1 j else 0,fun j=>if j<z461bb.1 then z461bb.2.2.1 j else(x.size:Int),fun j=>if j<z461bb.1 then z461bb.2.2.2.1 j else⟨#[]⟩,fun j=>if j<z461bb.1 then z461bb.2.2.2.2 j else 0))else none) z461b) z461
theorem n_Tokens{β:Type}(c_letter c_digit)(c_spanN c_word)(c_lnum c_lsym)(l_Tokens_l0)(x)(dn:g_Tokens→Option β):t_Tokens c_letter c_digit c_spanN c_word c_lnum c_lsym l_Tokens_l0 x dn=(t_Tokens c_letter c_digit c_spanN c_word c_lnum c_lsym l_Tokens_l0 x some).bind dn:=by
 unfold t_Tokens
 repeat' first|exact n0|refine n1 fun _=>?_|refine n2 ?_ ?_|refine n3 (fun _=>?_) fun _=>?_|rfl
theorem r_Tokens(c_letter c_digit)(c_spanN c_word)(c_lnum c_lsym)(l_Tokens_l0)(x):callK E5 (ftb 27 A_letter R_letter c_letter (ftb 29 A_digit R_digit c_digit (ftg 25 (fun a _=>fnId (a.getD 1 .junk)==26) A_spanN R_spanN c_spanN (ftb 28 A_word R_word c_word (ftb 30 A_lnum R_lnum c_lnum (ftb 31 A_lsym R_lsym c_lsym ca0)))))) (lt3 0 (fun _=>true) (bodyOf E5 13 0) (Tokens_l0_S x) (Tokens_l0_T x) l_Tokens_l0 lo0) 13 (A_Tokens x).1 (A_Tokens x).2 K=t_Tokens (vf A_letter c_letter) (vf A_digit c_digit) (vf A_spanN c_spanN) (vf A_word c_word) (vf A_lnum c_lnum) (vf A_lsym c_lsym) (lf (bodyOf E5 13 0) (Tokens_l0_S x) l_Tokens_l0) x (fun z=>some (.c (R_Tokens z))):=by kernel_rfl
noncomputable def Tokens(q:Nat)(x:a_Tokens):Option g_Tokens:=t_Tokens (letter q) (digit q) (spanN q) (word q) (lnum q) (lsym q) (Tokens_l0 (letter q) (digit q) (spanN q) (word q) (lnum q) (lsym q) q x) x some
theorem sc_Tokens(q:Nat):Lw E5 13 A_Tokens R_Tokens (Tokens q):=sof hW5 hX5 (fk (sc_letter q) (fk (sc_digit q) (fk (sc_spanN q) (fk (sc_word q) (fk (sc_lnum q) (fk (sc_lsym q) ca0_sound)))))) (fun x=>(lk3 (Tokens_l0_s (letter q) (sc_letter q) (digit q) (sc_digit q) (spanN q) (sc_spanN q) (word q) (sc_word q) (lnum q) (sc_lnum q) (lsym q) (sc_lsym q) q x) lo0_sound)) fun x=>(r_Tokens (letter q) (digit q) (spanN q) (word q) (lnum q) (lsym q) (Tokens_l0 (letter q) (digit q) (spanN q) (word q) (lnum q) (lsym q) q x) x).trans (by rw[v_letter,v_digit,v_spanN,v_word,v_lnum,v_lsym,Tokens_l0_u,n_Tokens]<;>rfl)
end Go.Proofs.YtjfkkokeegpeiaaDoor
/- Parse, lifted where it returns. -/
namespace Go.Proofs.YtjfkkokeegpeiaaDoor
open Go Go.Am Go.Proofs
set_option maxRecDepth 100000
abbrev a_TokensV:Type:=ByteArray
abbrev g_TokensV:Type:=Int×Int×Nat×FI×FI×FS×FI
def A_TokensV:AR a_TokensV:=fun x=>([st x],[])
def d_TokensV(t:TT):a_TokensV:=(vS (ag t 0))
theorem v_TokensV:VI A_TokensV:=vd d_TokensV fun _=>rfl
def R_TokensV:g_TokensV→CRes:=fun z=>.ret (.tup [.ro 4 z.2.2.1 (fun j=>[i64 (z.2.2.2.1 j),i64 (z.2.2.2.2.1 j),st (z.2.2.2.2.2.1 j),i64 (z.2.2.2.2.2.2 j)]),i64 z.1,i64 z.2.1]) []
def cv_Tokens:g_Tokens→g_TokensV:=Sum.elim (fun z=>(z.1,z.2,0,fun _=>0,fun _=>0,fun _=>ByteArray.empty,fun _=>0)) id
noncomputable def TokensV(q:Nat)(x:a_TokensV):Option g_TokensV:=(Tokens q x).map cv_Tokens
theorem sc_TokensV(q:Nat):Lw E5 13 A_TokensV R_TokensV (TokensV q):=by
 intro x z h
 obtain⟨y,hy,rfl⟩:=Option.map_eq_some_iff.1 h
 have hs:=sc_Tokens q x y hy
 rcases y with y|y
 ·exact SC.le hs (Le.tup (LeL.cons Le.nil_ro (LeL.cons (Le.refl _) (LeL.cons (Le.refl _) LeL.nil))))
 ·have h2:=SC.giveM (L2:=[]) 0 hs (by rfl) (by simp[V.bw,V.bw2,V.bw1,hp,V.pure,pureL])
  simp only[V.bw,V.bw2,V.bw1,hp,List.map_cons,List.map_nil,List.getD_eq_getElem?_getD,List.getElem?_cons_succ,List.getElem?_cons_zero,Option.getD_some,Nat.zero_add,Nat.le_refl,and_self,if_true]at h2
  exact h2
abbrev a_nextZ:Type:=Int×Int×Nat×FI×FI×FS×FI
abbrev g_nextZ:Type:=Int×Int×ByteArray×Int×Int×Int×Nat×FI×FI×FS×FI
def A_nextZ:AR a_nextZ:=fun x=>([.ptr 0 0],[some (.blk [.ro 4 x.2.2.1 (fun j=>[i64 (x.2.2.2.1 j),i64 (x.2.2.2.2.1 j),st (x.2.2.2.2.2.1 j),i64 (x.2.2.2.2.2.2 j)]),i64 x.1,i64 x.2.1,nilS,nilS])])
def d_nextZ(t:TT):a_nextZ:=((vI (cc t 0 1)),vI (cc t 0 2),vRoN (cc t 0 0),dTI (cc t 0 0) 0,dTI (cc t 0 0) 1,dTS (cc t 0 0) 2,dTI (cc t 0 0) 3)
theorem v_nextZ:VI A_nextZ:=vd d_nextZ fun _=>rfl
def R_nextZ:g_nextZ→CRes:=fun z=>.ret (.agg [i64 z.1,i64 z.2.1,st z.2.2.1,i64 z.2.2.2.1]) [some (.blk [.ro 4 z.2.2.2.2.2.2.1 (fun j=>[i64 (z.2.2.2.2.2.2.2.1 j),i64 (z.2.2.2.2.2.2.2.2.1 j),st (z.2.2.2.2.2.2.2.2.2.1 j),i64 (z.2.2.2.2.2.2.2.2.2.2 j)]),i64 z.2.2.2.2.1,i64 z.2.2.2.2.2.1,nilS,nilS])]
def t_nextZ{β:Type}(x:a_nextZ)(dn:g_nextZ→Option β):Option β:=
 if 0≤x.1∧x.1< ((x.2.2.1:Nat):Int)then dn (x.2.2.2.1 (Int.toNat x.1),x.2.2.2.2.1 (Int.toNat x.1),x.2.2.2.2.2.1 (Int.toNat x.1),x.2.2.2.2.2.2 (Int.toNat x.1),x)else none
theorem n_nextZ{β:Type}(x)(dn:g_nextZ→Option β):t_nextZ x dn=(t_nextZ x some).bind dn:=by
 unfold t_nextZ
 repeat' first|exact n0|refine n1 fun _=>?_|refine n2 ?_ ?_|refine n3 (fun _=>?_) fun _=>?_|rfl
theorem r_nextZ(x):callK E5 ca0 lo0 18 (A_nextZ x).1 (A_nextZ x).2 K=t_nextZ x (fun z=>some (.c (R_nextZ z))):=by kernel_rfl
noncomputable def nextZ(q:Nat)(x:a_nextZ):Option g_nextZ:=t_nextZ x some
theorem sc_nextZ(q:Nat):Lw E5 18 A_nextZ R_nextZ (nextZ q):=sof hW5 hX5 ca0_sound (fun _=>lo0_sound) fun x=>(r_nextZ x).trans (by rw[n_nextZ]<;>rfl)
abbrev a_ParseT:Type:=ByteArray
abbrev g_ParseT:Type:=(Int×Int)⊕(Nat×FS×FN×FM×FI×FI×FS×FN×FM)
def A_ParseT:AR a_ParseT:=fun x=>([st x],[])
def R_ParseT:g_ParseT→CRes:=Sum.elim (fun z=>CRes.ret (V.tup [nilS,i64 z.1,i64 z.2]) []:(Int×Int)→CRes) (fun z=>CRes.ret (V.tup [V.sl 0 6 0 z.1,i64 0,i64 0]) [some (Chunk.row 42 6 z.1 fun j=>[st (z.2.1 j),V.ro 2 (z.2.2.1 j) (z.2.2.2.1 j),i64 (z.2.2.2.2.1 j),i64 (z.2.2.2.2.2.1 j),st (z.2.2.2.2.2.2.1 j),V.ro 4 (z.2.2.2.2.2.2.2.1 j) (z.2.2.2.2.2.2.2.2 j)])]:(Nat×FS×FN×FM×FI×FI×FS×FN×FM)→CRes)
abbrev ParseT_l0_a:Type:=(Int×Int×Nat×FI×FI×FS×FI)⊕(FS×FN×FM×FI×FI×FS×FN×FM×Int×Int×Nat×FI×FI×FS×FI×Int×Int×Nat×Nat×FS×FS×Nat)
abbrev ParseT_l0_g:Type:=(Int×Int×Int×Int)⊕(Int×Int)⊕(Int×Int×Nat×FS×FN×FM×FI×FI×FS×FN×FM×Int×Int)⊕(Nat×FS×FN×FM×FI×FI×FS×FN×FM×Int×Int)
def ParseT_l0_S0(x:a_ParseT)(y:Int×Int×Nat×FI×FI×FS×FI):St:={fr:=[V.junk,V.junk,V.ptr 0 0,V.ptr 1 0,V.ptr 2 0,V.junk,V.ptr 3 0]++jk 24,H:=hp [some (Chunk.blk [nilS]),some (Chunk.blk [i64 y.1]),some (Chunk.blk [i64 y.2.1]),some (Chunk.blk [V.ro 4 y.2.2.1 fun j=>[i64 (y.2.2.2.1 j),i64 (y.2.2.2.2.1 j),st (y.2.2.2.2.2.1 j),i64 (y.2.2.2.2.2.2 j)],i64 0,i64 0,nilS,nilS])],nx:=4,rt:=0,me:=8}
def ParseT_l0_d0(s:St):Int×Int×Nat×FI×FI×FS×FI:=((vI (cb s 1 0)),vI (cb s 2 0),vRoN (cb s 3 0),dTI (cb s 3 0) 0,dTI (cb s 3 0) 1,dTS (cb s 3 0) 2,dTI (cb s 3 0) 3)
def ParseT_l0_S1(x:a_ParseT)(y:FS×FN×FM×FI×FI×FS×FN×FM×Int×Int×Nat×FI×FI×FS×FI×Int×Int×Nat×Nat×FS×FS×Nat):St:={fr:=[V.junk,V.junk,V.ptr 0 0,V.ptr 2 0,V.ptr 3 0,V.junk,V.ptr 4 0]++jk 24,H:=hp [some (Chunk.blk [V.sl 1 6 0 y.2.2.2.2.2.2.2.2.2.2.2.2.2.2.2.2.2.2.2.2.2]),some (Chunk.row 42 6 y.2.2.2.2.2.2.2.2.2.2.2.2.2.2.2.2.2.2.2.2.2 fun j=>[st (y.1 j),V.ro 2 (y.2.1 j) (y.2.2.1 j),i64 (y.2.2.2.1 j),i64 (y.2.2.2.2.1 j),st (y.2.2.2.2.2.1 j),V.ro 4 (y.2.2.2.2.2.2.1 j) (y.2.2.2.2.2.2.2.1 j)]),some (Chunk.blk [i64 y.2.2.2.2.2.2.2.2.1]),some (Chunk.blk [i64 y.2.2.2.2.2.2.2.2.2.1]),some (Chunk.blk [V.ro 4 y.2.2.2.2.2.2.2.2.2.2.1 fun j=>[i64 (y.2.2.2.2.2.2.2.2.2.2.2.1 j),i64 (y.2.2.2.2.2.2.2.2.2.2.2.2.1 j),st (y.2.2.2.2.2.2.2.2.2.2.2.2.2.1 j),i64 (y.2.2.2.2.2.2.2.2.2.2.2.2.2.2.1 j)],i64 y.2.2.2.2.2.2.2.2.2.2.2.2.2.2.2.1,i64 y.2.2.2.2.2.2.2.2.2.2.2.2.2.2.2.2.1,V.sl 5 1 0 y.2.2.2.2.2.2.2.2.2.2.2.2.2.2.2.2.2.1,V.sl 6 1 0 y.2.2.2.2.2.2.2.2.2.2.2.2.2.2.2.2.2.2.1]),some (Chunk.row 9 1 y.2.2.2.2.2.2.2.2.2.2.2.2.2.2.2.2.2.1 fun j=>[st (y.2.2.2.2.2.2.2.2.2.2.2.2.2.2.2.2.2.2.2.1 j)]),some (Chunk.row 9 1 y.2.2.2.2.2.2.2.2.2.2.2.2.2.2.2.2.2.2.1 fun j=>[st (y.2.2.2.2.2.2.2.2.2.2.2.2.2.2.2.2.2.2.2.2.1 j)])],nx:=7,rt:=0,me:=8}
def ParseT_l0_d1(s:St):FS×FN×FM×FI×FI×FS×FN×FM×Int×Int×Nat×FI×FI×FS×FI×Int×Int×Nat×Nat×FS×FS×Nat:=((dRS (s.H 1) 0),dRN (s.H 1) 1,dRF (s.H 1) 1,dRI (s.H 1) 2,dRI (s.H 1) 3,dRS (s.H 1) 4,dRN (s.H 1) 5,dRF (s.H 1) 5,vI (cb s 2 0),vI (cb s 3 0),vRoN (cb s 4 0),dTI (cb s 4 0) 0,dTI (cb s 4 0) 1,dTS (cb s 4 0) 2,dTI (cb s 4 0) 3,vI (cb s 4 1),vI (cb s 4 2),vSlN (cb s 4 3),vSlN (cb s 4 4),dRS (s.H 5) 0,dRS (s.H 6) 0,vSlN (cb s 0 0))
def ParseT_l0_S(x:a_ParseT):ParseT_l0_a→St:=(Sum.elim (ParseT_l0_S0 x) (ParseT_l0_S1 x))
def ParseT_l0_d(s:St):ParseT_l0_a:=(match s.nx==4 with|true=>(.inl (ParseT_l0_d0 s)) |false=>(.inr (ParseT_l0_d1 s)))
theorem ParseT_l0_u(x:a_ParseT):VL (ParseT_l0_S x):=vl ParseT_l0_d (fun y=>by rcases y with y|y<;>rfl)
def ParseT_l0_T(x:a_ParseT):ParseT_l0_g→Ex×St:=(Sum.elim (fun z=>(Ex.panic (V.ifc 51 (V.agg [i64 z.1,i64 z.2.1])),{fr:=[V.junk,V.junk,V.ptr 0 0,V.ptr 1 0,V.ptr 2 0]++jk 26,H:=hp [some (Chunk.blk [nilS]),some (Chunk.blk [i64 z.2.2.1]),some (Chunk.blk [i64 z.2.2.2])],nx:=3,rt:=0,me:=8})) (Sum.elim (fun z=>(Ex.exit 0,{fr:=[V.junk,V.junk,V.ptr 0 0,V.ptr 1 0,V.ptr 2 0]++jk 26,H:=hp [some (Chunk.blk [nilS]),some (Chunk.blk [i64 z.1]),some (Chunk.blk [i64 z.2])],nx:=3,rt:=0,me:=8})) (Sum.elim (fun z=>(Ex.panic (V.ifc 51 (V.agg [i64 z.1,i64 z.2.1])),{fr:=[V.junk,V.junk,V.ptr 0 0,V.ptr 2 0,V.ptr 3 0]++jk 26,H:=hp [some (Chunk.blk [V.sl 1 6 0 z.2.2.1]),some (Chunk.row 42 6 z.2.2.1 fun j=>[st (z.2.2.2.1 j),V.ro 2 (z.2.2.2.2.1 j) (z.2.2.2.2.2.1 j),i64 (z.2.2.2.2.2.2.1 j),i64 (z.2.2.2.2.2.2.2.1 j),st (z.2.2.2.2.2.2.2.2.1 j),V.ro 4 (z.2.2.2.2.2.2.2.2.2.1 j) (z.2.2.2.2.2.2.2.2.2.2.1 j)]),some (Chunk.blk [i64 z.2.2.2.2.2.2.2.2.2.2.2.1]),some (Chunk.blk [i64 z.2.2.2.2.2.2.2.2.2.2.2.2])],nx:=4,rt:=0,me:=8})) (fun z=>(Ex.exit 0,{fr:=[V.junk,V.junk,V.ptr 0 0,V.ptr 2 0,V.ptr 3 0]++jk 26,H:=hp [some (Chunk.blk [V.sl 1 6 0 z.1]),some (Chunk.row 42 6 z.1 fun j=>[st (z.2.1 j),V.ro 2 (z.2.2.1 j) (z.2.2.2.1 j),i64 (z.2.2.2.2.1 j),i64 (z.2.2.2.2.2.1 j),st (z.2.2.2.2.2.2.1 j),V.ro 4 (z.2.2.2.2.2.2.2.1 j) (z.2.2.2.2.2.2.2.2.1 j)]),some (Chunk.blk [i64 z.2.2.2.2.2.2.2.2.2.1]),some (Chunk.blk [i64 z.2.2.2.2.2.2.2.2.2.2])],nx:=4,rt:=0,me:=8})))))
def ParseT_l0_t0{β:Type}(c_TokensV:a_TokensV→Option g_TokensV)(c_nextZ:a_nextZ→Option g_nextZ)(c_next:a_next→Option g_next)(c_procedureZ:a_procedureZ→Option g_procedureZ)(c_procedure:a_procedure→Option g_procedure)(x:a_ParseT)(y:Int×Int×Nat×FI×FI×FS×FI)(nx:ParseT_l0_a→Option β)(dn:ParseT_l0_g→Option β):Option β:=
 (c_nextZ (0,0,y.2.2)).bind fun z412=>if(z412.1 !=0)=true then(c_procedureZ z412.2.2.2.2).bind fun z420=>Sum.elim (fun z420a=>nx (.inr (fun j=>z420a.1,fun j=>z420a.2.1,fun(j j_1:Nat)=>[st (z420a.2.2.1 j_1),st (z420a.2.2.2.1 j_1)],fun j=>z420a.2.2.2.2.1,fun j=>z420a.2.2.2.2.2.1,fun j=>z420a.2.2.2.2.2.2.1,fun j=>z420a.2.2.2.2.2.2.2.1,fun j=>z420a.2.2.2.2.2.2.2.2.1,y.1,y.2.1,z420a.2.2.2.2.2.2.2.2.2.2.2.1,z420a.2.2.2.2.2.2.2.2.2.2.2.2.1,z420a.2.2.2.2.2.2.2.2.2.2.2.2.2.1,z420a.2.2.2.2.2.2.2.2.2.2.2.2.2.2.1,z420a.2.2.2.2.2.2.2.2.2.2.2.2.2.2.2.1,z420a.2.2.2.2.2.2.2.2.2.1,z420a.2.2.2.2.2.2.2.2.2.2.1,z420a.2.2.2.2.2.2.2.2.2.2.2.2.2.2.2.2.1,z420a.2.2.2.2.2.2.2.2.2.2.2.2.2.2.2.2.2.2.1,z420a.2.2.2.2.2.2.2.2.2.2.2.2.2.2.2.2.2.1,z420a.2.2.2.2.2.2.2.2.2.2.2.2.2.2.2.2.2.2.2,1))) (fun z420b=>dn (.inl (z420b.1,z420b.2,y.1,y.2.1))) z420 else dn (.inr (.inl (y.1,y.2.1)))
theorem ParseT_l0_n0{β:Type}(c_TokensV c_nextZ)(c_next c_procedureZ c_procedure)(x)(y)(nx:ParseT_l0_a→Option β)(dn):ParseT_l0_t0 c_TokensV c_nextZ c_next c_procedureZ c_procedure x y nx dn=(ParseT_l0_t0 c_TokensV c_nextZ c_next c_procedureZ c_procedure x y (fun y=>some (.inl y)) (fun z=>some (.inr z))).bind fun r=>Sum.elim nx dn r:=by
 unfold ParseT_l0_t0
 repeat' first|exact n0|refine n1 fun _=>?_|refine n2 ?_ ?_|refine n3 (fun _=>?_) fun _=>?_|rfl
theorem ParseT_l0_r0(c_TokensV c_nextZ)(c_next c_procedureZ c_procedure)(x)(y)(lo:LoopT):loopK E5 (ftb 13 A_TokensV R_TokensV c_TokensV (ftg 18 (fun _ L=>L.length==1) A_nextZ R_nextZ c_nextZ (ftb 18 A_next R_next c_next (fg2 19 (fun _ L=>L.length==1) A_procedureZ R_procedureZ c_procedureZ (fg2 19 (fun _ L=>L.length==3) A_procedure R_procedure c_procedure ca0))))) lo 0 92 (bodyOf E5 8 0) (ParseT_l0_S x (.inl y)) (KCM [(0,28),(1000,28)] 28)=ParseT_l0_t0 (vf A_TokensV c_TokensV) (vf A_nextZ c_nextZ) (vf A_next c_next) (vf A_procedureZ c_procedureZ) (vf A_procedure c_procedure) x y (fun y=>lo 0 92 (bodyOf E5 8 0) (ParseT_l0_S x y) (KCM [(0,28),(1000,28)] 28)) (fun z=>some (.l (ParseT_l0_T x z).1 (ParseT_l0_T x z).2)):=by kernel_rfl
def ParseT_l0_t1{β:Type}(c_TokensV:a_TokensV→Option g_TokensV)(c_nextZ:a_nextZ→Option g_nextZ)(c_next:a_next→Option g_next)(c_procedureZ:a_procedureZ→Option g_procedureZ)(c_procedure:a_procedure→Option g_procedure)(x:a_ParseT)(y:FS×FN×FM×FI×FI×FS×FN×FM×Int×Int×Nat×FI×FI×FS×FI×Int×Int×Nat×Nat×FS×FS×Nat)(nx:ParseT_l0_a→Option β)(dn:ParseT_l0_g→Option β):Option β:=
 (c_next (y.2.2.2.2.2.2.2.2.2.2.2.2.2.2.2.1,y.2.2.2.2.2.2.2.2.2.2.2.2.2.2.2.2.1,y.2.2.2.2.2.2.2.2.2.2.1,y.2.2.2.2.2.2.2.2.2.2.2.1,y.2.2.2.2.2.2.2.2.2.2.2.2.1,y.2.2.2.2.2.2.2.2.2.2.2.2.2.1,y.2.2.2.2.2.2.2.2.2.2.2.2.2.2.1,y.2.2.2.2.2.2.2.2.2.2.2.2.2.2.2.2.2.1,y.2.2.2.2.2.2.2.2.2.2.2.2.2.2.2.2.2.2.2.1,y.2.2.2.2.2.2.2.2.2.2.2.2.2.2.2.2.2.2.1,y.2.2.2.2.2.2.2.2.2.2.2.2.2.2.2.2.2.2.2.2.1)).bind fun z434=>if(z434.1 !=0)=true then(c_procedure z434.2.2.2.2).bind fun z446=>Sum.elim (fun z446a=>if(y.2.2.2.2.2.2.2.2.2.2.2.2.2.2.2.2.2.2.2.2.2+1)*96≤roomBound∧y.2.2.2.2.2.2.2.2.2.2.2.2.2.2.2.2.2.2.2.2.2+1≤maxLen∧y.2.2.2.2.2.2.2.2.2.2.2.2.2.2.2.2.2.2.2.2.2≤y.2.2.2.2.2.2.2.2.2.2.2.2.2.2.2.2.2.2.2.2.2 then nx (.inr (fun j=>if j<y.2.2.2.2.2.2.2.2.2.2.2.2.2.2.2.2.2.2.2.2.2 then y.1 j else z446a.1,fun j=>if j<y.2.2.2.2.2.2.2.2.2.2.2.2.2.2.2.2.2.2.2.2.2 then y.2.1 j else z446a.2.1,fun(j j_1:Nat)=>if j<y.2.2.2.2.2.2.2.2.2.2.2.2.2.2.2.2.2.2.2.2.2 then y.2.2.1 j j_1 else[st (z446a.2.2.1 j_1),st (z446a.2.2.2.1 j_1)],fun j=>if j<y.2.2.2.2.2.2.2.2.2.2.2.2.2.2.2.2.2.2.2.2.2 then y.2.2.2.1 j else z446a.2.2.2.2.1,fun j=>if j<y.2.2.2.2.2.2.2.2.2.2.2.2.2.2.2.2.2.2.2.2.2 then y.2.2.2.2.1 j else z446a.2.2.2.2.2.1,fun j=>if j<y.2.2.2.2.2.2.2.2.2.2.2.2.2.2.2.2.2.2.2.2.2 then y.2.2.2.2.2.1 j else z446a.2.2.2.2.2.2.1,fun j=>if j<y.2.2.2.2.2.2.2.2.2.2.2.2.2.2.2.2.2.2.2.2.2 then y.2.2.2.2.2.2.1 j else z446a.2.2.2.2.2.2.2.1,fun(j j_1:Nat)=>if j<y.2.2.2.2.2.2.2.2.2.2.2.2.2.2.2.2.2.2.2.2.2 then y.2.2.2.2.2.2.2.1 j j_1 else z446a.2.2.2.2.2.2.2.2.1 j_1,y.2.2.2.2.2.2.2.2.1,y.2.2.2.2.2.2.2.2.2.1,z446a.2.2.2.2.2.2.2.2.2.2.2.1,z446a.2.2.2.2.2.2.2.2.2.2.2.2.1,z446a.2.2.2.2.2.2.2.2.2.2.2.2.2.1,z446a.2.2.2.2.2.2.2.2.2.2.2.2.2.2.1,z446a.2.2.2.2.2.2.2.2.2.2.2.2.2.2.2.1,z446a.2.2.2.2.2.2.2.2.2.1,z446a.2.2.2.2.2.2.2.2.2.2.1,z446a.2.2.2.2.2.2.2.2.2.2.2.2.2.2.2.2.1,z446a.2.2.2.2.2.2.2.2.2.2.2.2.2.2.2.2.2.2.1,z446a.2.2.2.2.2.2.2.2.2.2.2.2.2.2.2.2.2.1,z446a.2.2.2.2.2.2.2.2.2.2.2.2.2.2.2.2.2.2.2,y.2.2.2.2.2.2.2.2.2.2.2.2.2.2.2.2.2.2.2.2.2+1))else none) (fun z446b=>dn (.inr (.inr (.inl (z446b.1,z446b.2,y.2.2.2.2.2.2.2.2.2.2.2.2.2.2.2.2.2.2.2.2.2,y.1,y.2.1,y.2.2.1,y.2.2.2.1,y.2.2.2.2.1,y.2.2.2.2.2.1,y.2.2.2.2.2.2.1,y.2.2.2.2.2.2.2.1,y.2.2.2.2.2.2.2.2.1,y.2.2.2.2.2.2.2.2.2.1))))) z446 else dn (.inr (.inr (.inr (y.2.2.2.2.2.2.2.2.2.2.2.2.2.2.2.2.2.2.2.2.2,y.1,y.2.1,y.2.2.1,y.2.2.2.1,y.2.2.2.2.1,y.2.2.2.2.2.1,y.2.2.2.2.2.2.1,y.2.2.2.2.2.2.2.1,y.2.2.2.2.2.2.2.2.1,y.2.2.2.2.2.2.2.2.2.1))))
theorem ParseT_l0_n1{β:Type}(c_TokensV c_nextZ)(c_next c_procedureZ c_procedure)(x)(y)(nx:ParseT_l0_a→Option β)(dn):ParseT_l0_t1 c_TokensV c_nextZ c_next c_procedureZ c_procedure x y nx dn=(ParseT_l0_t1 c_TokensV c_nextZ c_next c_procedureZ c_procedure x y (fun y=>some (.inl y)) (fun z=>some (.inr z))).bind fun r=>Sum.elim nx dn r:=by
 unfold ParseT_l0_t1
 repeat' first|exact n0|refine n1 fun _=>?_|refine n2 ?_ ?_|refine n3 (fun _=>?_) fun _=>?_|rfl
theorem ParseT_l0_r1(c_TokensV c_nextZ)(c_next c_procedureZ c_procedure)(x)(y)(lo:LoopT):loopK E5 (ftb 13 A_TokensV R_TokensV c_TokensV (ftg 18 (fun _ L=>L.length==1) A_nextZ R_nextZ c_nextZ (ftb 18 A_next R_next c_next (fg2 19 (fun _ L=>L.length==1) A_procedureZ R_procedureZ c_procedureZ (fg2 19 (fun _ L=>L.length==3) A_procedure R_procedure c_procedure ca0))))) lo 0 92 (bodyOf E5 8 0) (ParseT_l0_S x (.inr y)) (KCM [(0,28),(1000,28)] 28)=ParseT_l0_t1 (vf A_TokensV c_TokensV) (vf A_nextZ c_nextZ) (vf A_next c_next) (vf A_procedureZ c_procedureZ) (vf A_procedure c_procedure) x y (fun y=>lo 0 92 (bodyOf E5 8 0) (ParseT_l0_S x y) (KCM [(0,28),(1000,28)] 28)) (fun z=>some (.l (ParseT_l0_T x z).1 (ParseT_l0_T x z).2)):=by kernel_rfl
noncomputable def ParseT_l0(c_TokensV:a_TokensV→Option g_TokensV)(c_nextZ:a_nextZ→Option g_nextZ)(c_next:a_next→Option g_next)(c_procedureZ:a_procedureZ→Option g_procedureZ)(c_procedure:a_procedure→Option g_procedure)(q:Nat)(x:a_ParseT):ParseT_l0_a→Option ParseT_l0_g:=lpG (Sum.elim (fun y=>ParseT_l0_t0 c_TokensV c_nextZ c_next c_procedureZ c_procedure x y (fun y=>some (.inl y)) (fun z=>some (.inr z))) (fun y=>ParseT_l0_t1 c_TokensV c_nextZ c_next c_procedureZ c_procedure x y (fun y=>some (.inl y)) (fun z=>some (.inr z)))) q
theorem ParseT_l0_s(c_TokensV)(h_TokensV:Lw E5 13 A_TokensV R_TokensV c_TokensV)(c_nextZ)(h_nextZ:Lw E5 18 A_nextZ R_nextZ c_nextZ)(c_next)(h_next:Lw E5 18 A_next R_next c_next)(c_procedureZ)(h_procedureZ:Lw E5 19 A_procedureZ R_procedureZ c_procedureZ)(c_procedure)(h_procedure:Lw E5 19 A_procedure R_procedure c_procedure)(q:Nat)(x:a_ParseT):Ll E5 (bodyOf E5 8 0) (ParseT_l0_S x) (ParseT_l0_T x) (ParseT_l0 c_TokensV c_nextZ c_next c_procedureZ c_procedure q x):=
 slp (fk h_TokensV (fk h_nextZ (fk h_next (fk2 h_procedureZ (fk2 h_procedure ca0_sound))))) hX5 (fun lo y=>by
  rcases y with y|y
  ·exact(ParseT_l0_r0 c_TokensV c_nextZ c_next c_procedureZ c_procedure x y lo).trans (by rw[v_TokensV,v_nextZ,v_next,v_procedureZ,v_procedure];exact ParseT_l0_n0 _ _ _ _ _ _ _ _ _)
  ·exact(ParseT_l0_r1 c_TokensV c_nextZ c_next c_procedureZ c_procedure x y lo).trans (by rw[v_TokensV,v_nextZ,v_next,v_procedureZ,v_procedure];exact ParseT_l0_n1 _ _ _ _ _ _ _ _ _)) (fun z=>by rcases z with z|z|z|z<;>kernel_rfl) q
def t_ParseT{β:Type}(c_TokensV:a_TokensV→Option g_TokensV)(c_nextZ:a_nextZ→Option g_nextZ)(c_next:a_next→Option g_next)(c_procedureZ:a_procedureZ→Option g_procedureZ)(c_procedure:a_procedure→Option g_procedure)(l_ParseT_l0:ParseT_l0_a→Option ParseT_l0_g)(x:a_ParseT)(dn:g_ParseT→Option β):Option β:=
 (c_TokensV x).bind fun z1=>if(z1.2.1 !=0)=true then dn (.inl (z1.1,z1.2.1))else(l_ParseT_l0 (.inl z1)).bind fun z388=>Sum.elim (fun z388a=>none) (fun z388b=>Sum.elim (fun z388ba=>dn (.inl (0,0))) (fun z388bb=>Sum.elim (fun z388bba=>none) (fun z388bbb=>dn (.inr (z388bbb.1,z388bbb.2.1,z388bbb.2.2.1,z388bbb.2.2.2.1,z388bbb.2.2.2.2.1,z388bbb.2.2.2.2.2.1,z388bbb.2.2.2.2.2.2.1,z388bbb.2.2.2.2.2.2.2.1,z388bbb.2.2.2.2.2.2.2.2.1))) z388bb) z388b) z388
theorem n_ParseT{β:Type}(c_TokensV c_nextZ)(c_next c_procedureZ c_procedure)(l_ParseT_l0)(x)(dn:g_ParseT→Option β):t_ParseT c_TokensV c_nextZ c_next c_procedureZ c_procedure l_ParseT_l0 x dn=(t_ParseT c_TokensV c_nextZ c_next c_procedureZ c_procedure l_ParseT_l0 x some).bind dn:=by
 unfold t_ParseT
 repeat' first|exact n0|refine n1 fun _=>?_|refine n2 ?_ ?_|refine n3 (fun _=>?_) fun _=>?_|rfl
theorem r_ParseT(c_TokensV c_nextZ)(c_next c_procedureZ c_procedure)(l_ParseT_l0)(x):callK E5 (ftb 13 A_TokensV R_TokensV c_TokensV (ftg 18 (fun _ L=>L.length==1) A_nextZ R_nextZ c_nextZ (ftb 18 A_next R_next c_next (fg2 19 (fun _ L=>L.length==1) A_procedureZ R_procedureZ c_procedureZ (fg2 19 (fun _ L=>L.length==3) A_procedure R_procedure c_procedure ca0))))) (lt4 0 (fun _=>true) (bodyOf E5 8 0) (ParseT_l0_S x) (ParseT_l0_T x) l_ParseT_l0 lo0) 8 (A_ParseT x).1 (A_ParseT x).2 K=t_ParseT (vf A_TokensV c_TokensV) (vf A_nextZ c_nextZ) (vf A_next c_next) (vf A_procedureZ c_procedureZ) (vf A_procedure c_procedure) (lf (bodyOf E5 8 0) (ParseT_l0_S x) l_ParseT_l0) x (fun z=>some (.c (R_ParseT z))):=by kernel_rfl
noncomputable def ParseT(q:Nat)(x:a_ParseT):Option g_ParseT:=t_ParseT (TokensV q) (nextZ q) (next q) (procedureZ q) (procedure q) (ParseT_l0 (TokensV q) (nextZ q) (next q) (procedureZ q) (procedure q) q x) x some
theorem sc_ParseT(q:Nat):Lw E5 8 A_ParseT R_ParseT (ParseT q):=sof hW5 hX5 (fk (sc_TokensV q) (fk (sc_nextZ q) (fk (sc_next q) (fk2 (sc_procedureZ q) (fk2 (sc_procedure q) ca0_sound))))) (fun x=>(lk4 (ParseT_l0_s (TokensV q) (sc_TokensV q) (nextZ q) (sc_nextZ q) (next q) (sc_next q) (procedureZ q) (sc_procedureZ q) (procedure q) (sc_procedure q) q x) lo0_sound)) fun x=>(r_ParseT (TokensV q) (nextZ q) (next q) (procedureZ q) (procedure q) (ParseT_l0 (TokensV q) (nextZ q) (next q) (procedureZ q) (procedure q) q x) x).trans (by rw[v_TokensV,v_nextZ,v_next,v_procedureZ,v_procedure,ParseT_l0_u,n_ParseT]<;>rfl)
end Go.Proofs.YtjfkkokeegpeiaaDoor
/- Blocks that keep their names over a call. -/
namespace Go.Proofs.YtjfkkokeegpeiaaDoor
open Go Go.Am Go.Proofs
set_option maxRecDepth 100000
noncomputable def E7:Env:={E5 with allR:=true}
theorem un7{f:FuncId}{args:List V}{L:List (Option Chunk)}{cr:CRes}(h:SC E7 f args L cr)(hr:Nat.ble (roots false (hp L) args).length (roots true (hp L) args).length=true):SC E5 f args L cr:=by
 refine⟨h.1,fun β S w us h1 h2 h3=>(h.2 β S w us h1 h2 ⟨h3.rd,h3.inv⟩).mono ?_⟩
 intro e w' hp'
 cases cr with
 |ret v L'=>
  obtain⟨u,β',S',g0,g1,g2,g3,g4⟩:=hp'
  exact⟨u,β',S',g0,g1,g2,g3,fun i bm hi hb=>g4 i bm (Nat.lt_of_lt_of_le hi (Nat.le_of_ble_eq_true hr)) hb⟩
 |pan v=>exact hp'
end Go.Proofs.YtjfkkokeegpeiaaDoor
/- Plain laws on bytes: what a range over a string meets. -/
namespace Go.Proofs.Lx
open Go
def spanL(g:Int→Bool)(l:List UInt8):Nat:=(l.takeWhile (fun b=>g b.toNat)).length
def Flat(g:Int→Bool):Prop:=∀c:Int,128≤c→g c=g 128
theorem at_more(s:ByteArray)(p n:Nat)(h:p<s.size)(hn:1≤n)(hc:∀k,1≤k→k<n→p+k<s.size∧128≤(s.get! (p+k)).toNat):
 1≤n∧p+n≤s.size∧∀j,p<j→j<p+n→128≤(s.get! j).toNat:=by
 refine⟨hn,?_,fun j h1 h2=>?_⟩
 ·rcases Nat.lt_or_ge 1 n with hl|hl
  ·have:=(hc (n-1) (by omega) (by omega)).1
   omega
  ·omega
 ·have:=(hc (j-p) (by omega) (by omega)).2
  rwa [show p+(j-p)=j by omega]at this
theorem decode_len (s : ByteArray) (p : Nat) (h : p < s.size) :
    1 ≤ (Utf8.decode s p).2 ∧ p + (Utf8.decode s p).2 ≤ s.size ∧ ∀ j, p < j → j < p + (Utf8.decode s p).2 → 128 ≤ (s.get! j).toNat := by
  have hc : ∀ k, (decide (p + k < s.size) && ((s.get! (p + k)).toNat / 64 == 2)) = true → p + k < s.size ∧ 128 ≤ (s.get! (p + k)).toNat := by
    intro k hk
    simp at hk
    omega
  have one := at_more s p 1 h (by omega) (fun k h1 h2 => by omega)
  simp only [Utf8.decode]
  split
  · exact one
  · split
    · rename_i hx
      rw [Bool.and_eq_true] at hx
      have h1 := hc 1 hx.2
      split
      · exact at_more s p 2 h (by omega) (fun k hk1 hk2 => by obtain rfl : k = 1 := by omega
                                                              exact h1)
      · exact one
    · split
      · rename_i hx
        rw [Bool.and_eq_true, Bool.and_eq_true] at hx
        have h1 := hc 1 hx.1.2
        have h2 := hc 2 hx.2
        split
        · refine at_more s p 3 h (by omega) (fun k hk1 hk2 => ?_)
          have : k = 1 ∨ k = 2 := by omega
          rcases this with rfl | rfl
          · exact h1
          · exact h2
        · exact one
      · split
        · rename_i hx
          rw [Bool.and_eq_true, Bool.and_eq_true, Bool.and_eq_true] at hx
          have h1 := hc 1 hx.1.1.2
          have h2 := hc 2 hx.1.2
          have h3 := hc 3 hx.2
          split
          · refine at_more s p 4 h (by omega) (fun k hk1 hk2 => ?_)
            have : k = 1 ∨ k = 2 ∨ k = 3 := by omega
            rcases this with rfl | rfl | rfl
            · exact h1
            · exact h2
            · exact h3
          · exact one
        · exact one
theorem get_list(s:ByteArray)(p:Nat)(h:p<s.size):s.data.toList[p]? =some (s.get! p):=by
 rw[List.getElem?_eq_getElem (by simpa using h)]
 congr 1
 have:=get_at s p h
 simp only[Nat.add_zero]at this
 rw[this]
 rfl
theorem decode_g(s:ByteArray)(g:Int→Bool)(hf:Flat g)(p:Nat)(h:p<s.size):g ((Utf8.decode s p).1:Int)=g ((s.get! p).toNat:Int):=by
 have e:=get_at s p h
 simp only[Nat.add_zero]at e
 by_cases ha:(s.get! p).toNat<128
 ·rw[decode_ascii s p h (by rw[←e];exact ha),←e]
 ·have hh:=(decode_high s p h (by rw[←e];omega)).1
  rw[hf _ (by omega),hf ((s.get! p).toNat:Int) (by omega)]
theorem drop_get(s:ByteArray)(p:Nat)(h:p<s.size):s.data.toList.drop p=s.get! p::s.data.toList.drop (p+1):=by
 have hg:=get_list s p h
 rw[List.getElem?_eq_some_iff]at hg
 obtain⟨hl,he⟩:=hg
 rw[List.drop_eq_getElem_cons hl,he]
theorem span_stop(s:ByteArray)(g:Int→Bool)(p:Nat)(h:p<s.size)(hg:g ((s.get! p).toNat:Int)=false):spanL g (s.data.toList.drop p)=0:=by
 rw[drop_get s p h]
 simp[spanL,hg]
theorem span_more(s:ByteArray)(g:Int→Bool)(n:Nat):∀p,p+n≤s.size→(∀j,p≤j→j<p+n→g ((s.get! j).toNat:Int)=true)→spanL g (s.data.toList.drop p)=n+spanL g (s.data.toList.drop (p+n)):=by
 induction n with
 |zero=>intro p _ _;simp
 |succ n ih=>
  intro p h hg
  have h0:=hg p (by omega) (by omega)
  rw[drop_get s p (by omega)]
  have:=ih (p+1) (by omega) (fun j h1 h2=>hg j (by omega) (by omega))
  have e:p+(n+1)=p+1+n:=by omega
  rw[e,spanL,List.takeWhile_cons,h0]
  simp only[if_true,List.length_cons]
  unfold spanL at this
  unfold spanL
  omega
theorem span_end(s:ByteArray)(g:Int→Bool):spanL g (s.data.toList.drop s.size)=0:=by
 rw[List.drop_of_length_le (by simp)];rfl
theorem span_step(s:ByteArray)(g:Int→Bool)(hf:Flat g)(p:Nat)(h:p<s.size)(hg:g ((Utf8.decode s p).1:Int)=true):
 spanL g (s.data.toList.drop p)=(Utf8.decode s p).2+spanL g (s.data.toList.drop (p+(Utf8.decode s p).2)):=by
 obtain⟨h1,h2,h3⟩:=decode_len s p h
 refine span_more s g _ p h2 fun j hj1 hj2=>?_
 rw[decode_g s g hf p h]at hg
 rcases Nat.eq_or_lt_of_le hj1 with rfl|hlt
 ·exact hg
 ·have hb:=h3 j hlt hj2
  have hcont:1< (Utf8.decode s p).2:=by omega
  have hhi:128≤(s.get! p).toNat:=by
   rcases Nat.lt_or_ge (s.get! p).toNat 128 with hl|hl
   ·have e:=get_at s p h
    simp only[Nat.add_zero]at e
    rw[decode_ascii s p h (by rw[←e];exact hl)]at hcont
    simp at hcont
   ·exact hl
  rw[hf _ (by omega)]at hg⊢
  exact hg
end Go.Proofs.Lx
/- Plain: which symbol a string begins with. -/
namespace Go.Proofs.Lx
open Go
theorem extract_list(r:ByteArray)(a b:Nat):(r.extract a b).data.toList=(r.data.toList.drop a).take (b-a):=by
 simp[ByteArray.data_extract,List.extract_eq_take_drop]
def sym1:List UInt8:=[123,125,40,41,61,59,44,58,60,62,43,45,42,47,33,46]
def sym2:List (List UInt8):=[[124,124],[38,38],[60,61],[62,61],[61,61],[33,61]]
def symN(l:List UInt8):Nat:=
 if 1<l.length∧l.take 2∈sym2 then 2 else cond ((l.head?).any (fun b=>sym1.contains b)) 1 0
theorem idx_mem(l:List UInt8)(c:UInt8):l.contains c=true↔0≤Lib.indexByte l c:=by
 induction l with
 |nil=>simp[Lib.indexByte]
 |cons b l ih=>
  have hg:=Lib.indexByte_ge l c
  have e:Lib.indexByte (b::l) c=if b==c then 0 else if Lib.indexByte l c== -1 then-1 else Lib.indexByte l c+1:=rfl
  rw[e,List.contains_cons,Bool.or_eq_true,ih]
  by_cases hb:b=c
  ·subst hb;simp
  ·have hb':(b==c)=false:=by simpa using hb
   have hc':¬((c==b)=true):=by simpa using fun h=>hb h.symm
   simp only[hb',Bool.false_eq_true,if_false,hc',false_or]
   by_cases hm:Lib.indexByte l c= -1
   ·simp[hm]
   ·have:(Lib.indexByte l c== -1)=false:=by simpa using hm
    simp only[this,Bool.false_eq_true,if_false]
    omega
theorem symN_two{r t:ByteArray}(h1:1<r.size)(ht:t=r.extract 0 2)(hm:t.data.toList∈sym2):symN r.data.toList=2:=by
 rw[ht,extract_list]at hm
 simp only[List.drop_zero]at hm
 unfold symN
 rw[if_pos ⟨by simpa using h1,hm⟩]
theorem symN_one{r:ByteArray}(h0:0<r.size)(hm:¬(1<r.data.toList.length∧r.data.toList.take 2∈sym2)):symN r.data.toList=if(0:Int)≤Lib.indexByte sym1 r[0]then 1 else 0:=by
 have hg:=drop_get r 0 h0
 have e:=get_at r 0 h0
 simp only[Nat.add_zero]at e
 rw[List.drop_zero,e]at hg
 unfold symN
 rw[if_neg hm,hg]
 simp only[List.head?_cons,Option.any_some]
 by_cases h:(0:Int)≤Lib.indexByte sym1 r[0]
 ·rw[if_pos h,(idx_mem _ _).2 h];rfl
 ·rw[if_neg h,Bool.eq_false_iff.2 (fun h'=>h ((idx_mem _ _).1 h'))];rfl
theorem sym2_not{r t:ByteArray}(ht:t=r.extract 0 2)(hm:∀l∈sym2,t≠⟨l.toArray⟩):¬(1<r.data.toList.length∧r.data.toList.take 2∈sym2):=by
 rintro⟨_,h⟩
 refine hm _ h ?_
 rw[ht]
 have:=extract_list r 0 2
 simp only[List.drop_zero]at this
 rw[←this]
end Go.Proofs.Lx
/- Plain: the tokens of a source, as a relation. -/
namespace Go.Proofs.Lx
open Go
structure Tkn where
 k:Int
 a:Int
 t:ByteArray
 n:Int
def Tkn.cells(x:Tkn):List Value:=[.int .i64 x.k,.int .i64 x.a,.string x.t,.int .i64 x.n]
def letterI(c:Int):Bool:=decide (97≤c∧c≤122)||decide (65≤c∧c≤90)
def digitI(c:Int):Bool:=decide (48≤c∧c≤57)
def whiteI(c:Int):Bool:=decide (c=32∨c=9∨c=10∨c=13)
def wordI(c:Int):Bool:=letterI c||digitI c
def noTok:Tkn:=⟨0,0,⟨#[]⟩,0⟩
def valI(n:Int)(l:List UInt8):Int:=l.foldl (fun n b=>10*n+((b.toNat:Int)-48)) n
def wordP(r:ByteArray):Tkn×Int:=if 12<spanL wordI r.data.toList then(noTok,2)else(⟨1,0,r.extract 0 (spanL wordI r.data.toList),0⟩,0)
def numberP(t:ByteArray):Tkn×Int:=
 if 1<t.size∧t.data.toList[0]? =some 48 then(noTok,11)
 else if valI 0 t.data.toList>2147483647 then(noTok,5)
 else(⟨2,0,t,valI 0 t.data.toList⟩,0)
def symbolP(r:ByteArray):Tkn×Int:=if symN r.data.toList=0 then(noTok,11)else(⟨3,0,r.extract 0 (symN r.data.toList),0⟩,0)
def tokP(s:ByteArray)(p:Nat):Tkn×Int:=
 if letterI (s.get! p).toNat then wordP (s.extract p s.size)
 else if digitI (s.get! p).toNat then numberP ((s.extract p s.size).extract 0 (spanL digitI (s.extract p s.size).data.toList))
 else symbolP (s.extract p s.size)
def ne10(c:Int):Bool:= !(c==10)
inductive Lex(s:ByteArray):Nat→List Tkn→List Tkn×Nat×Int→Prop where
 |fin {p:Nat} {acc:List Tkn}:s.size≤p→Lex s p acc (acc++[⟨0,s.size,⟨#[]⟩,0⟩],0,0)
 |white {p:Nat} {acc:List Tkn} {r:List Tkn×Nat×Int}:p<s.size→whiteI (s.get! p).toNat=true→Lex s (p+1) acc r→Lex s p acc r
 |hash {p:Nat} {acc:List Tkn} {r:List Tkn×Nat×Int}:p<s.size→(s.get! p).toNat=35→Lex s (p+spanL ne10 (s.data.toList.drop p)) acc r→Lex s p acc r
 |tok {p:Nat} {acc:List Tkn} {r:List Tkn×Nat×Int} {x:Tkn}:p<s.size→whiteI (s.get! p).toNat=false→(s.get! p).toNat≠35→tokP s p=(x,0)→Lex s (p+x.t.size) (acc++[{x with a:=p}]) r→Lex s p acc r
 |err {p:Nat} {acc:List Tkn} {x:Tkn} {e:Int}:p<s.size→whiteI (s.get! p).toNat=false→(s.get! p).toNat≠35→tokP s p=(x,e)→e≠0→Lex s p acc ([],p,e)
def Bd(s:ByteArray)(p d:Nat):Prop:=(∀j,p≤j→j<d→(s.get! j).toNat<128)∨d=s.size∨(d<s.size∧(s.get! d).toNat<128)
theorem Bd.step{s:ByteArray}{p d:Nat}(h:Bd s p d)(hp:p<d)(hd:d≤s.size):p+(Utf8.decode s p).2≤d∧Bd s (p+(Utf8.decode s p).2) d:=by
 have hl:=decode_len s p (by omega)
 refine⟨?_,?_⟩
 ·rcases h with h|h| ⟨h1,h2⟩
  ·have h0:=h p (Nat.le_refl _) hp
   have e:=get_at s p (by omega)
   simp only[Nat.add_zero]at e
   rw[decode_ascii s p (by omega) (by rw[←e];exact h0)]
   exact hp
  ·omega
  ·rcases Nat.lt_or_ge d (p+(Utf8.decode s p).2)with hlt|hge
   ·have:=hl.2.2 d hp hlt
    omega
   ·exact hge
 ·exact h.imp (fun h j hj1 hj2=>h j (by omega) hj2) id
theorem Bd.refl(s:ByteArray)(p d:Nat)(h:d≤p):Bd s p d:=.inl fun j h1 h2=>by omega
end Go.Proofs.Lx
/- Plain: what a token's text is. -/
namespace Go.Proofs.Lx
open Go
theorem spanL_le(g:Int→Bool)(l:List UInt8):spanL g l≤l.length:=(List.takeWhile_sublist _).length_le
theorem spanL_get(g:Int→Bool)(l:List UInt8):∀j,j<spanL g l→∃b,l[j]? =some b∧g b.toNat=true:=by
 induction l with
 |nil=>intro j h;simp[spanL]at h
 |cons b l ih=>
  intro j h
  cases hb:g b.toNat
  ·simp[spanL,List.takeWhile_cons,hb]at h
  ·cases j with
   |zero=>exact⟨b,rfl,hb⟩
   |succ j=>
    have:j<spanL g l:=by
     simp only[spanL,List.takeWhile_cons,hb,if_true,List.length_cons]at h⊢
     omega
    obtain⟨c,h1,h2⟩:=ih j this
    exact⟨c,by simpa using h1,h2⟩
theorem spanL_pos(g:Int→Bool)(b:UInt8)(l:List UInt8)(h:g b.toNat=true):1≤spanL g (b::l):=by
 simp[spanL,List.takeWhile_cons,h]
theorem ext_list(s:ByteArray)(p:Nat)(h:p≤s.size):(s.extract p s.size).data.toList=s.data.toList.drop p:=by
 rw[extract_list,List.take_of_length_le (by simp)]
theorem ext_size(s:ByteArray)(p:Nat):(s.extract p s.size).size=s.size-p:=by simp
theorem ba_ext{a b:ByteArray}(h:a.data.toList=b.data.toList):a=b:=by
 obtain⟨⟨a⟩⟩:=a
 obtain⟨⟨b⟩⟩:=b
 simp only at h
 rw[h]
theorem ext_ext(s:ByteArray)(p n:Nat)(h:p+n≤s.size):(s.extract p s.size).extract 0 n=s.extract p (p+n):=by
 have e:((s.extract p s.size).extract 0 n).data.toList=(s.extract p (p+n)).data.toList:=by
  rw[extract_list,extract_list,extract_list,List.drop_zero,Nat.sub_zero,List.take_take,Nat.min_eq_left (by omega),Nat.add_sub_cancel_left]
 exact ba_ext e
theorem get_of(s:ByteArray)(j:Nat)(b:UInt8)(h:s.data.toList[j]? =some b):j<s.size∧s.get! j=b:=by
 have hl:j<s.size:=by
  rw[List.getElem?_eq_some_iff]at h
  obtain⟨h,_⟩:=h
  simpa using h
 rw[get_list s j hl]at h
 exact⟨hl,by injection h⟩
theorem letter_lt(c:Int)(h:wordI c=true):c<128:=by simp[wordI,letterI,digitI]at h;omega
theorem digit_lt(c:Int)(h:digitI c=true):c<128:=by simp[digitI]at h;omega
theorem seg_ok{s:ByteArray}{p:Nat}(g:Int→Bool)(hg:∀c,g c=true→c<128)(hp:p<s.size)(h0:g (s.get! p).toNat=true):
 1≤spanL g (s.data.toList.drop p)∧p+spanL g (s.data.toList.drop p)≤s.size∧∀j,p≤j→j<p+spanL g (s.data.toList.drop p)→(s.get! j).toNat<128:=by
 refine⟨?_,?_,?_⟩
 ·rw[drop_get s p hp];exact spanL_pos g _ _ h0
 ·have:=spanL_le g (s.data.toList.drop p)
  simp at this
  omega
 ·intro j h1 h2
  obtain⟨b,hb,hgb⟩:=spanL_get g (s.data.toList.drop p) (j-p) (by omega)
  rw[List.getElem?_drop,show p+(j-p)=j by omega]at hb
  rw[(get_of s j b hb).2]
  have:=hg _ hgb
  omega
theorem sym_ok{s:ByteArray}{p:Nat}(hp:p<s.size)(hn:symN (s.data.toList.drop p)≠0):
 1≤symN (s.data.toList.drop p)∧p+symN (s.data.toList.drop p)≤s.size∧∀j,p≤j→j<p+symN (s.data.toList.drop p)→(s.get! j).toNat<128:=by
 unfold symN at hn⊢
 by_cases h2:1< (s.data.toList.drop p).length∧(s.data.toList.drop p).take 2∈sym2
 ·rw[if_pos h2]
  obtain⟨hl,hm⟩:=h2
  have hl':p+2≤s.size:=by simp at hl;omega
  refine⟨by omega,hl',fun j h1 h2=>?_⟩
  rw[drop_get s p hp,drop_get s (p+1) (by omega)]at hm
  simp only[List.take_succ_cons,List.take_zero,sym2,List.mem_cons,List.cons.injEq,and_true,List.not_mem_nil,or_false]at hm
  have hj:j=p∨j=p+1:=by omega
  rcases hj with rfl|rfl<;>rcases hm with h|h|h|h|h|h<;>simp[h.1,h.2]
 ·rw[if_neg h2]at hn⊢
  rw[drop_get s p hp]at hn⊢
  simp only[List.head?_cons,Option.any_some]at hn⊢
  cases hc:sym1.contains (s.get! p)
  ·rw[hc]at hn;exact absurd rfl hn
  ·simp only[cond_true]
   refine⟨by omega,by omega,fun j h1 h2=>?_⟩
   obtain rfl:j=p:=by omega
   have hm:=List.contains_iff_mem.1 hc
   simp only[sym1,List.mem_cons,List.not_mem_nil,or_false]at hm
   rcases hm with h|h|h|h|h|h|h|h|h|h|h|h|h|h|h|h<;>simp[h]
theorem tokP_ok{s:ByteArray}{p:Nat}{x:Tkn}(hp:p<s.size)(h:tokP s p=(x,0)):
 x.a=0∧1≤x.t.size∧p+x.t.size≤s.size∧x.t=s.extract p (p+x.t.size)∧∀j,p≤j→j<p+x.t.size→(s.get! j).toNat<128:=by
 have hsz:∀n,p+n≤s.size→(s.extract p (p+n)).size=n:=fun n hn=>by simp;omega
 have fin:∀n,1≤n→p+n≤s.size→(∀j,p≤j→j<p+n→(s.get! j).toNat<128)→∀y:Tkn,y.a=0→y.t=(s.extract p s.size).extract 0 n→
  y.a=0∧1≤y.t.size∧p+y.t.size≤s.size∧y.t=s.extract p (p+y.t.size)∧∀j,p≤j→j<p+y.t.size→(s.get! j).toNat<128:=by
  intro n h1 h2 h3 y ha hy
  rw[ext_ext s p n h2]at hy
  rw[hy,hsz n h2]
  exact⟨ha,h1,h2,rfl,h3⟩
 unfold tokP at h
 by_cases hl:letterI (s.get! p).toNat=true
 ·rw[if_pos hl]at h
  unfold wordP at h
  by_cases h12:12<spanL wordI (s.extract p s.size).data.toList
  ·rw[if_pos h12]at h;simp at h
  ·rw[if_neg h12,ext_list s p (by omega)]at h
   have hw:wordI (s.get! p).toNat=true:=by simp[wordI,hl]
   obtain⟨h1,h2,h3⟩:=seg_ok wordI letter_lt hp hw
   simp only[Prod.mk.injEq,and_true]at h
   subst h
   exact fin _ h1 h2 h3 _ rfl rfl
 ·rw[if_neg hl]at h
  by_cases hd:digitI (s.get! p).toNat=true
  ·rw[if_pos hd,ext_list s p (by omega)]at h
   obtain⟨h1,h2,h3⟩:=seg_ok digitI digit_lt hp hd
   unfold numberP at h
   split at h
   ·simp at h
   ·split at h
    ·simp at h
    ·simp only[Prod.mk.injEq,and_true]at h
     subst h
     exact fin _ h1 h2 h3 _ rfl rfl
  ·rw[if_neg hd]at h
   unfold symbolP at h
   rw[ext_list s p (by omega)]at h
   by_cases h0:symN (s.data.toList.drop p)=0
   ·rw[if_pos h0]at h;simp at h
   ·rw[if_neg h0]at h
    obtain⟨h1,h2,h3⟩:=sym_ok hp h0
    simp only[Prod.mk.injEq,and_true]at h
    subst h
    exact fin _ h1 h2 h3 _ rfl rfl
theorem hash_ok {s : ByteArray} {p : Nat} (hp : p < s.size) (h : (s.get! p).toNat = 35) :
 1 ≤ spanL ne10 (s.data.toList.drop p) ∧ p + spanL ne10 (s.data.toList.drop p) ≤ s.size ∧ Bd s p (p + spanL ne10 (s.data.toList.drop p)) := by
 have h1 : 1 ≤ spanL ne10 (s.data.toList.drop p) := by rw [drop_get s p hp]; exact spanL_pos _ _ _ (by rw [h]; rfl)
 have h2 : p + spanL ne10 (s.data.toList.drop p) ≤ s.size := by
  have := spanL_le ne10 (s.data.toList.drop p)
  simp at this
  omega
 refine ⟨h1, h2, ?_⟩
 rcases Nat.eq_or_lt_of_le h2 with he | hlt
 ·exact .inr (.inl he)
 ·right; right
  refine ⟨hlt, ?_⟩
  -- the byte behind the span is a line feed
  have key : ∀ (l : List UInt8), spanL ne10 l < l.length → l[spanL ne10 l]? = some 10 := by
   intro l
   induction l with
   | nil => intro h; simp at h
   | cons b l ih =>
    intro h
    cases hb : ne10 b.toNat
    ·have : b.toNat = 10 := by simp [ne10] at hb; omega
     have hb10 : b = 10 := UInt8.toNat_inj.1 (by simpa using this)
     simp [spanL, hb10, ne10]
    ·have e : spanL ne10 (b :: l) = spanL ne10 l + 1 := by simp [spanL, List.takeWhile_cons, hb]
     rw [e] at h ⊢
     simpa using ih (by simpa using h)
  have := key (s.data.toList.drop p) (by simp; omega)
  rw [List.getElem?_drop] at this
  rw [(get_of s _ _ this).2]
  decide
end Go.Proofs.Lx
/- Plain: Lex is a function; it is reckoned. -/
namespace Go.Proofs.Lx
open Go
theorem lex_det{s:ByteArray}{p:Nat}{acc:List Tkn}{r r':List Tkn×Nat×Int}(h:Lex s p acc r):Lex s p acc r'→r=r':=by
 induction h with
 |fin hp=>intro h';cases h'<;>first|rfl|omega
 |white hp hw _ ih=>
  intro h'
  cases h' with
  |fin h=>omega
  |white _ _ h=>exact ih h
  |hash _ h35 _=>rw[h35]at hw;exact absurd hw (by decide)
  |tok _ h _ _ _=>rw[hw]at h;cases h
  |err _ h _ _ _=>rw[hw]at h;cases h
 |hash hp h35 _ ih=>
  intro h'
  cases h' with
  |fin h=>omega
  |white _ hw _=>rw[h35]at hw;exact absurd hw (by decide)
  |hash _ _ h=>exact ih h
  |tok _ _ h _ _=>exact absurd h35 h
  |err _ _ h _ _=>exact absurd h35 h
 |tok hp hw h35 ht _ ih=>
  intro h'
  cases h' with
  |fin h=>omega
  |white _ h _=>rw[hw]at h;cases h
  |hash _ h _=>exact absurd h h35
  |tok _ _ _ h h2=>
   rw[ht]at h
   simp only[Prod.mk.injEq,and_true]at h
   subst h
   exact ih h2
  |err _ _ _ h he=>
   rw[ht]at h
   simp only[Prod.mk.injEq]at h
   exact absurd h.2.symm he
 |err hp hw h35 ht he=>
  intro h'
  cases h' with
  |fin h=>omega
  |white _ h _=>rw[hw]at h;cases h
  |hash _ h _=>exact absurd h h35
  |tok _ _ _ h _=>
   rw[ht]at h
   simp only[Prod.mk.injEq]at h
   exact absurd h.2 he
  |err _ _ _ h _=>
   rw[ht]at h
   simp only[Prod.mk.injEq]at h
   rw[h.2]
def lexF(s:ByteArray):Nat→Nat→List Tkn→Option (List Tkn×Nat×Int)
 |0,_,_=>none
 |f+1,p,acc=>
  if p<s.size then
   if whiteI (s.get! p).toNat=true then lexF s f (p+1) acc
   else if(s.get! p).toNat=35 then lexF s f (p+spanL ne10 (s.data.toList.drop p)) acc
   else if(tokP s p).2=0 then lexF s f (p+(tokP s p).1.t.size) (acc++[{(tokP s p).1 with a:=p}])
   else some ([],p,(tokP s p).2)
  else some (acc++[⟨0,s.size,⟨#[]⟩,0⟩],0,0)
theorem lexF_ok{s:ByteArray}:∀(f p:Nat) (acc:List Tkn) (r:List Tkn×Nat×Int),lexF s f p acc=some r→Lex s p acc r:=by
 intro f
 induction f with
 |zero=>intro p acc r h;simp[lexF]at h
 |succ f ih=>
  intro p acc r h
  rw[lexF]at h
  by_cases hp:p<s.size
  ·rw[if_pos hp]at h
   by_cases hw:whiteI (s.get! p).toNat=true
   ·rw[if_pos hw]at h;exact .white hp hw (ih _ _ _ h)
   ·rw[if_neg hw]at h
    have hw':whiteI (s.get! p).toNat=false:=by simpa using hw
    by_cases h35:(s.get! p).toNat=35
    ·rw[if_pos h35]at h;exact .hash hp h35 (ih _ _ _ h)
    ·rw[if_neg h35]at h
     by_cases ht:(tokP s p).2=0
     ·rw[if_pos ht]at h;exact .tok (x:=(tokP s p).1) hp hw' h35 (Prod.ext rfl ht) (ih _ _ _ h)
     ·rw[if_neg ht,Option.some.injEq]at h
      subst h
      exact .err (x:=(tokP s p).1) hp hw' h35 rfl ht
  ·rw[if_neg hp,Option.some.injEq]at h
   subst h
   exact .fin (by omega)
def TokensR(s:ByteArray)(r:List Tkn×Nat×Int):Prop:=(4000<s.size∧r=([],4000,2))∨(s.size≤4000∧Lex s 0 [] r)
theorem tokR_det{s:ByteArray}{r r':List Tkn×Nat×Int}(h:TokensR s r)(h':TokensR s r'):r=r':=by
 rcases h with⟨h1,rfl⟩ | ⟨h1,h2⟩<;>rcases h' with⟨h3,rfl⟩ | ⟨h3,h4⟩
 ·rfl
 ·omega
 ·omega
 ·exact lex_det h2 h4
def ex1:List Tkn:=[⟨1,0,⟨#[120]⟩,0⟩,⟨3,1,⟨#[60,61]⟩,0⟩,⟨2,3,⟨#[49,48]⟩,10⟩,⟨0,9,⟨#[]⟩,0⟩]
end Go.Proofs.Lx
/- Plain: the parser, as a function of tokens. -/
namespace Go.Proofs.Lx
open Go
abbrev sOr:ByteArray:=⟨#[124,124]⟩
abbrev sAnd:ByteArray:=⟨#[38,38]⟩
abbrev sLt:ByteArray:=⟨#[60]⟩
abbrev sLe:ByteArray:=⟨#[60,61]⟩
abbrev sGt:ByteArray:=⟨#[62]⟩
abbrev sGe:ByteArray:=⟨#[62,61]⟩
abbrev sEq:ByteArray:=⟨#[61,61]⟩
abbrev sNe:ByteArray:=⟨#[33,61]⟩
abbrev sAdd:ByteArray:=⟨#[43]⟩
abbrev sSub:ByteArray:=⟨#[45]⟩
abbrev sMul:ByteArray:=⟨#[42]⟩
abbrev sDiv:ByteArray:=⟨#[47]⟩
abbrev sNot:ByteArray:=⟨#[33]⟩
abbrev sLPar:ByteArray:=⟨#[40]⟩
abbrev sRPar:ByteArray:=⟨#[41]⟩
abbrev sLBr:ByteArray:=⟨#[123]⟩
abbrev sRBr:ByteArray:=⟨#[125]⟩
abbrev sSet:ByteArray:=⟨#[61]⟩
abbrev sSemi:ByteArray:=⟨#[59]⟩
abbrev sComma:ByteArray:=⟨#[44]⟩
abbrev sColon:ByteArray:=⟨#[58]⟩
abbrev sDot:ByteArray:=⟨#[46]⟩
abbrev w_procedure:ByteArray:=⟨#[112,114,111,99,101,100,117,114,101]⟩
abbrev w_let:ByteArray:=⟨#[108,101,116]⟩
abbrev w_if:ByteArray:=⟨#[105,102]⟩
abbrev w_else:ByteArray:=⟨#[101,108,115,101]⟩
abbrev w_repeat:ByteArray:=⟨#[114,101,112,101,97,116]⟩
abbrev w_wait:ByteArray:=⟨#[119,97,105,116]⟩
abbrev w_await:ByteArray:=⟨#[97,119,97,105,116]⟩
abbrev w_within:ByteArray:=⟨#[119,105,116,104,105,110]⟩
abbrev w_require:ByteArray:=⟨#[114,101,113,117,105,114,101]⟩
abbrev w_point:ByteArray:=⟨#[112,111,105,110,116]⟩
abbrev w_use:ByteArray:=⟨#[117,115,101]⟩
abbrev w_for:ByteArray:=⟨#[102,111,114]⟩
abbrev w_send:ByteArray:=⟨#[115,101,110,100]⟩
abbrev w_keep:ByteArray:=⟨#[107,101,101,112]⟩
abbrev w_emit:ByteArray:=⟨#[101,109,105,116]⟩
abbrev w_abort:ByteArray:=⟨#[97,98,111,114,116]⟩
abbrev w_true:ByteArray:=⟨#[116,114,117,101]⟩
abbrev w_false:ByteArray:=⟨#[102,97,108,115,101]⟩
abbrev w_tlm:ByteArray:=⟨#[116,108,109]⟩
def keywords:List ByteArray:=[w_procedure,w_let,w_if,w_else,w_repeat,w_wait,w_await,w_within,w_require,w_point,w_use,w_for,w_send,w_keep,w_emit,w_abort,w_true,w_false,w_tlm]
def unitsL:List ByteArray:=[⟨#[74]⟩,⟨#[107,74]⟩,⟨#[87,104]⟩,⟨#[66]⟩,⟨#[107,66]⟩,⟨#[115]⟩,⟨#[109,105,110]⟩,⟨#[104]⟩,⟨#[100,101,103]⟩,⟨#[75]⟩,⟨#[87]⟩,⟨#[107,87]⟩,⟨#[66,112,115]⟩]
def inP(l:List ByteArray)(x:ByteArray):Bool:=l.any fun v=>decide (v=x)
theorem inP_iff{l:List ByteArray}{x:ByteArray}:inP l x=true↔x∈l:=by
 simp only[inP,List.any_eq_true,decide_eq_true_eq]
 exact⟨fun⟨v,h,e⟩=>e▸h,fun h=>⟨x,h,rfl⟩⟩
def resP(s:ByteArray):Bool:=inP keywords s
def unitP(s:ByteArray):Bool:=inP unitsL s
def levP(s:ByteArray):Nat:=
 if s=sOr then 1 else if s=sAnd then 2 else if s=sLt∨s=sLe∨s=sGt∨s=sGe∨s=sEq∨s=sNe then 4 else if s=sAdd∨s=sSub then 5 else if s=sMul∨s=sDiv then 6 else 0
inductive Tr where
 |node (k n:Int) (s:ByteArray) (l:List Tr):Tr
structure PS where
 p:Nat
 o:Nat
 vs:List ByteArray
inductive PR(α:Type) where
 |ok (x:α) (s:PS)
 |err (p:Nat) (c:Int)
 |out
def PR.bind{α β:Type}(r:PR α)(f:α→PS→PR β):PR β:=match r with
 | .ok x s=>f x s
 | .err p c=>.err p c
 | .out=>.out
section
variable (T:Nat→Tkn)
def adv(s:PS):PS:={s with p:=s.p+1}
def isP(w:ByteArray)(s:PS):Bool:=decide ((T s.p).t=w)
def mustP(w:ByteArray)(s:PS):PR Unit:=if isP T w s then .ok () (adv s)else .err s.p 11
def opensP(w:ByteArray)(s:PS):PR Unit:=if isP T w s then(if s.o=12 then .err s.p 2 else .ok () {s with p:=s.p+1,o:=s.o+1})else .err s.p 11
def closeP(s:PS):PS:={s with o:=s.o-1}
def nameP(s:PS):PR ByteArray:=if(T s.p).k≠1∨resP (T s.p).t=true then .err s.p 11 else .ok (T s.p).t (adv s)
def declP(s:PS):PR ByteArray:=(nameP T s).bind fun x s'=>
 if inP s.vs x=true then .err s.p 4 else if s.vs.length=12 then .err s.p 2 else .ok x {s' with vs:=s.vs++[x]}
def numP(lo hi:Int)(s:PS):PR Int:=if(T s.p).k≠2 then .err s.p 11 else if(T s.p).n<lo∨hi< (T s.p).n then .err s.p 5 else .ok (T s.p).n (adv s)
def litP(s:PS):PR Tr:=(numP T 0 2147483647 s).bind fun n s'=>
 if(T s'.p).k=1∧unitP (T s'.p).t=true then .ok (.node 15 n (T s'.p).t []) (adv s')else .ok (.node 15 n ⟨#[]⟩ []) s'
mutual
def exprP:Nat→Nat→PS→PR Tr
 |0,_,_=>.out
 |f+1,lv,s=>
  if lv=3∧isP T sNot s=true then unaryP f sNot 3 s
  else if lv=7∧isP T sSub s=true then unaryP f sSub 7 s
  else if lv=8 then primP f s
  else(exprP f (lv+1) s).bind fun n s'=>opsP f lv n s'
def opsP:Nat→Nat→Tr→PS→PR Tr
 |0,_,_,_=>.out
 |f+1,lv,n,s=>
  if levP (T s.p).t=lv∧(T s.p).k=3 then
   (exprP f (lv+1) (adv s)).bind fun m s'=>if lv=4 then .ok (.node 20 0 (T s.p).t [n,m]) s' else opsP f lv (.node 20 0 (T s.p).t [n,m]) s'
  else .ok n s
def unaryP:Nat→ByteArray→Nat→PS→PR Tr
 |0,_,_,_=>.out
 |f+1,w,lv,s=>(opensP T w s).bind fun _ s1=>(exprP f lv s1).bind fun n s2=>.ok (.node 19 0 w [n]) (closeP s2)
def primP:Nat→PS→PR Tr
 |0,_=>.out
 |f+1,s=>
  if(T s.p).k=2 then litP T s
  else if isP T w_true s=true then .ok (.node 16 1 ⟨#[]⟩ []) (adv s)
  else if isP T w_false s=true then .ok (.node 16 0 ⟨#[]⟩ []) (adv s)
  else if isP T w_tlm s=true then(mustP T sDot (adv s)).bind fun _ s1=>(nameP T s1).bind fun x s2=>.ok (.node 18 0 x []) s2
  else if isP T sLPar s=true then(opensP T sLPar s).bind fun _ s1=>(exprP f 1 s1).bind fun n s2=>(mustP T sRPar s2).bind fun _ s3=>.ok n (closeP s3)
  else(nameP T s).bind fun x s1=>.ok (.node 17 0 x []) s1
end
def endP(n:Tr)(s:PS):PR Tr:=(mustP T sSemi s).bind fun _ s'=>.ok n s'
def setP(f:Nat)(k:Int)(x:ByteArray)(s:PS):PR Tr:=(mustP T sSet s).bind fun _ s1=>(exprP T f 1 s1).bind fun n s2=>endP T (.node k 0 x [n]) s2
def oneP(f:Nat)(k:Int)(s:PS):PR Tr:=(exprP T f 1 s).bind fun n s2=>endP T (.node k 0 ⟨#[]⟩ [n]) s2
def amtP(k:Int)(s:PS):PR Tr:=(litP T s).bind fun n s2=>endP T (.node k 0 ⟨#[]⟩ [n]) s2
def awaitP(f:Nat)(s:PS):PR Tr:=(exprP T f 1 s).bind fun c s1=>(mustP T w_within s1).bind fun _ s2=>(litP T s2).bind fun n s3=>endP T (.node 6 0 ⟨#[]⟩ [c,n]) s3
def nmbP(k hi:Int)(s:PS):PR Tr:=(numP T 0 hi s).bind fun n s1=>endP T (.node k n ⟨#[]⟩ []) s1
def useP(k:Int)(w:ByteArray)(s:PS):PR Tr:=(numP T 0 7 s).bind fun n s1=>(mustP T w s1).bind fun _ s2=>(litP T s2).bind fun m s3=>endP T (.node k n ⟨#[]⟩ [m]) s3
mutual
def blockP:Nat→PS→PR Tr
 |0,_=>.out
 |f+1,s=>(opensP T sLBr s).bind fun _ s1=>(stmtsP f s1).bind fun l s2=>.ok (.node 14 0 ⟨#[]⟩ l) (closeP s2)
def stmtsP:Nat→PS→PR (List Tr)
 |0,_=>.out
 |f+1,s=>if isP T sRBr s=true then .ok [] (adv s)else(stmtP f s).bind fun n s1=>(stmtsP f s1).bind fun l s2=>.ok (n::l) s2
def stmtP:Nat→PS→PR Tr
 |0,_=>.out
 |f+1,s=>
  if isP T w_let s=true then(declP T (adv s)).bind fun x s1=>setP T f 1 x s1
  else if isP T w_if s=true then(exprP T f 1 (adv s)).bind fun c s1=>(blockP f s1).bind fun y s2=>
   if isP T w_else s2=true then(blockP f (adv s2)).bind fun n s3=>.ok (.node 3 0 ⟨#[]⟩ [c,y,n]) s3 else .ok (.node 3 0 ⟨#[]⟩ [c,y,.node 14 0 ⟨#[]⟩ []]) s2
  else if isP T w_repeat s=true then(numP T 1 100 (adv s)).bind fun n s1=>(blockP f s1).bind fun y s2=>.ok (.node 4 n ⟨#[]⟩ [y]) s2
  else if isP T w_await s=true then awaitP T f (adv s)
  else if isP T w_wait s=true then amtP T 5 (adv s)
  else if isP T w_keep s=true then amtP T 11 (adv s)
  else if isP T w_require s=true then oneP T f 7 (adv s)
  else if isP T w_point s=true then oneP T f 8 (adv s)
  else if isP T w_use s=true then useP T 9 w_for (adv s)
  else if isP T w_send s=true then useP T 10 sComma (adv s)
  else if isP T w_emit s=true then nmbP T 12 99 (adv s)
  else if isP T w_abort s=true then nmbP T 13 999 (adv s)
  else(nameP T s).bind fun x s1=>setP T f 2 x s1
end
structure Prm where
 x:ByteArray
 u:ByteArray
structure Prc where
 x:ByteArray
 ps:List Prm
 b:Tr
def prmP(s:PS):PR Prm:=(declP T s).bind fun x s1=>
 if isP T sColon s1=true then
  (if(T (s1.p+1)).k≠1 then .err (s1.p+1) 11 else if unitP (T (s1.p+1)).t=false then .err (s1.p+1) 10 else .ok ⟨x,(T (s1.p+1)).t⟩ (adv (adv s1)))
 else .ok ⟨x,⟨#[]⟩⟩ s1
def prmsP:Nat→PS→PR (List Prm)
 |0,_=>.out
 |f+1,s=>(prmP T s).bind fun x s1=>if isP T sComma s1=true then(prmsP f (adv s1)).bind fun l s2=>.ok (x::l) s2 else(mustP T sRPar s1).bind fun _ s2=>.ok [x] s2
def paramsP(f:Nat)(s:PS):PR (List Prm):=(mustP T sLPar s).bind fun _ s1=>if isP T sRPar s1=true then .ok [] (adv s1)else prmsP T f s1
def procP(f:Nat)(pr:List ByteArray)(s:PS):PR Prc:=(mustP T w_procedure s).bind fun _ s1=>(nameP T s1).bind fun x s2=>
 if inP pr x=true then .err s1.p 4 else(paramsP T f {s2 with vs:=[]}).bind fun l s3=>(blockP T f s3).bind fun b s4=>.ok ⟨x,l,b⟩ s4
def procsP:Nat→List ByteArray→PS→PR (List Prc)
 |0,_,_=>.out
 |f+1,pr,s=>if(T s.p).k=0 then .ok [] s else(procP T f pr s).bind fun x s1=>(procsP f (pr++[x.x]) s1).bind fun l s2=>.ok (x::l) s2
end
end Go.Proofs.Lx
/- Plain: a word between spaces in a list of words. -/
namespace Go.Proofs.Lx
open Go
theorem contains_iff(s sub:List UInt8):Lib.contains s sub=true↔∃a b,s=a++(sub++b):=by
 unfold Lib.contains
 rw[decide_eq_true_eq]
 constructor
 ·intro h
  rcases Lib.index_spec s sub with⟨h1,_⟩ | ⟨i,h1,h2,h3,_⟩
  ·omega
  ·unfold Lib.occAt at h3
   obtain⟨b,hb⟩:=List.isPrefixOf_iff_prefix.1 h3
   exact⟨s.take i,b,by rw[hb,List.take_append_drop]⟩
 ·rintro⟨a,b,rfl⟩
  rcases Lib.index_spec (a++(sub++b)) sub with⟨h1,h2⟩ | ⟨i,h1,_⟩
  ·have:=h2 a.length (by simp)
   unfold Lib.occAt at this
   rw[List.drop_left]at this
   have h3:sub.isPrefixOf (sub++b)=true:=List.isPrefixOf_iff_prefix.2 ⟨b,rfl⟩
   rw[h3]at this
   cases this
  ·omega
def spaced(ws:List (List UInt8)):List UInt8:=ws.flatMap fun w=>w++[32]
theorem first_space{w t a b:List UInt8}(hw:∀c∈w,c≠32)(ht:∀c∈t,c≠32)(h:w++32::a=t++32::b):w=t∧a=b:=by
 induction w generalizing t with
 |nil=>
  cases t with
  |nil=>simp only[List.nil_append,List.cons.injEq,true_and]at h;exact⟨rfl,h⟩
  |cons c t=>simp only[List.nil_append,List.cons_append,List.cons.injEq]at h;exact absurd h.1.symm (ht c (.head _))
 |cons c w ih=>
  cases t with
  |nil=>simp only[List.nil_append,List.cons_append,List.cons.injEq]at h;exact absurd h.1 (hw c (.head _))
  |cons d t=>
   simp only[List.cons_append,List.cons.injEq]at h
   obtain⟨h1,h2⟩:=ih (fun c hc=>hw c (.tail _ hc)) (fun c hc=>ht c (.tail _ hc)) h.2
   exact⟨by rw[h.1,h1],h2⟩
theorem after_word{w x a z:List UInt8}(hw:∀c∈w,c≠32)(h:w++32::x=a++32::z):a=w∧x=z∨∃a',a=w++32::a'∧x=a'++32::z:=by
 induction w generalizing a with
 |nil=>
  cases a with
  |nil=>simp only[List.nil_append,List.cons.injEq,true_and]at h;exact .inl ⟨rfl,h⟩
  |cons c a=>simp only[List.nil_append,List.cons_append,List.cons.injEq]at h;exact .inr ⟨a,by rw[h.1];rfl,h.2⟩
 |cons c w ih=>
  cases a with
  |nil=>simp only[List.nil_append,List.cons_append,List.cons.injEq]at h;exact absurd h.1 (hw c (.head _))
  |cons d a=>
   simp only[List.cons_append,List.cons.injEq]at h
   rcases ih (fun c hc=>hw c (.tail _ hc)) h.2 with⟨h1,h2⟩ | ⟨a',h1,h2⟩
   ·exact .inl ⟨by rw[h.1,h1],h2⟩
   ·exact .inr ⟨a',by rw[h.1,h1];rfl,h2⟩
theorem spaced_iff{t:List UInt8}(ht:∀c∈t,c≠32):∀{ws:List (List UInt8)},(∀w∈ws,∀c∈w,c≠32)→((∃a b,32::spaced ws=a++32::(t++32::b))↔t∈ws)
 | [],_=>by
  simp only[spaced,List.flatMap_nil,List.not_mem_nil,iff_false]
  rintro⟨a,b,h⟩
  have:=congrArg List.length h
  simp at this
  omega
 |w::ws,hw=>by
  have ih:=spaced_iff ht (ws:=ws) fun w h=>hw w (.tail _ h)
  have e:spaced (w::ws)=w++32::spaced ws:=by simp[spaced]
  rw[e,List.mem_cons,←ih]
  constructor
  ·rintro⟨a,b,h⟩
   cases a with
   |nil=>
    simp only[List.nil_append,List.cons.injEq,true_and]at h
    exact .inl (first_space (hw w (.head _)) ht h).1.symm
   |cons c a=>
    simp only[List.cons_append,List.cons.injEq]at h
    rcases after_word (hw w (.head _)) h.2 with⟨_,h2⟩ | ⟨a',_,h2⟩
    ·exact .inr ⟨[],b,by rw[h2];rfl⟩
    ·exact .inr ⟨32::a',b,by rw[h2];rfl⟩
  ·rintro(rfl| ⟨a,b,h⟩)
   ·exact⟨[],spaced ws,rfl⟩
   ·exact⟨32::(w++a),b,by
     show 32::(w++32::spaced ws)=_
     rw[h];simp⟩
def kwL:List UInt8:=32::spaced (keywords.map fun w=>w.data.toList)
theorem res_iff{t:ByteArray}(ht:∀c∈t.data.toList,c≠32):Lib.contains kwL (32::(t.data.toList++[32]))=resP t:=by
 rw[Bool.eq_iff_iff,contains_iff]
 have h:=spaced_iff ht (ws:=keywords.map fun w=>w.data.toList) (by decide)
 unfold resP
 rw[inP_iff]
 have e:(∃a b,kwL=a++(32::(t.data.toList++[32])++b))↔∃a b,32::spaced (keywords.map fun w=>w.data.toList)=a++32::(t.data.toList++32::b):=by
  constructor<;>rintro⟨a,b,h⟩<;>exact⟨a,b,by simpa[kwL]using h⟩
 rw[e,h,List.mem_map]
 constructor
 ·rintro⟨w,hw,he⟩
  have:w=t:=by
   obtain⟨⟨x⟩⟩:=w;obtain⟨⟨y⟩⟩:=t
   simp only at he
   rw[he]
  rw[←this];exact hw
 ·intro h
  exact⟨t,h,rfl⟩
end Go.Proofs.Lx
/- The parser's small methods do what the plain parser says. -/
namespace Go.Proofs.YtjfkkokeegpeiaaDoor
open Go Go.Am Go.Proofs.Lx
set_option maxRecDepth 100000
theorem tl_eq{a b:ByteArray}:((ByteArray.toList a==ByteArray.toList b)=true)↔a=b:=by
 rw[beq_iff_eq,ByteArray.toList_eq,ByteArray.toList_eq]
 constructor
 ·intro h
  obtain⟨⟨x⟩⟩:=a
  obtain⟨⟨y⟩⟩:=b
  simp only at h
  rw[h]
 ·rintro rfl;rfl
theorem tl_dec{a b:ByteArray}:(ByteArray.toList a==ByteArray.toList b)=decide (a=b):=by
 rw[Bool.eq_iff_iff,tl_eq,decide_eq_true_eq]
theorem w_in{n:Int}(h1: -9223372036854775808≤n)(h2:n≤9223372036854775807):w n=n:=by
 unfold w;rw[IntKind.wrap_i64];omega
theorem w_succ{i:Nat}(h:i≤4000000000):w ((i:Int)+1)=((i+1:Nat):Int):=by rw[w_in (by omega) (by omega)];omega
abbrev StT:Type:=Int×Int×Nat×(Nat→Int)×(Nat→Int)×(Nat→ByteArray)×(Nat→Int)×Nat×(Nat→ByteArray)×Nat×(Nat→ByteArray)
def Ag(v:Nat→ByteArray)(l:List ByteArray):Prop:=∀j b,l[j]? =some b→v j=b
theorem Ag.push{v:Nat→ByteArray}{l:List ByteArray}{x:ByteArray}(h:Ag v l):Ag (fun j=>if j<l.length then v j else x) (l++[x]):=by
 intro j b hb
 by_cases hj:j<l.length
 ·rw[List.getElem?_append_left hj]at hb
  simp only[hj,if_true]
  exact h j b hb
 ·rw[List.getElem?_append_right (by omega)]at hb
  simp only[hj,if_false]
  cases hk:j-l.length with
  |zero=>rw[hk]at hb;simpa using hb
  |succ n=>rw[hk]at hb;simp at hb
structure TokN(N:Nat)(T:Nat→Tkn):Prop where
 pos:0<N
 big:N≤4001
 endk:(T (N-1)).k=0
 endt:(T (N-1)).t=⟨#[]⟩
 sym:∀j,(T j).k≠3→levP (T j).t=0
 word:∀j,(T j).k=1→(T j).t.size≤12∧∀c∈(T j).t.data.toList,c≠32
def RS(N:Nat)(T:Nat→Tkn)(pr:List ByteArray)(s:PS)(x:StT):Prop:=
 ∃v u,x=(((s.p:Nat):Int),((s.o:Nat):Int),N,(fun j=>(T j).k),(fun j=>(T j).a),(fun j=>(T j).t),(fun j=>(T j).n),s.vs.length,v,pr.length,u)∧
  Ag v s.vs∧Ag u pr∧s.p<N∧s.o≤12∧s.vs.length≤12∧pr.length≤2000000000
section
variable {N:Nat} {T:Nat→Tkn} {pr:List ByteArray} {s:PS} {x:StT}
theorem TokN.lt(hT:TokN N T){p:Nat}(hp:p<N)(h:(T p).t≠⟨#[]⟩∨(T p).k≠0):p+1<N:=by
 by_cases e:p=N-1
 ·subst e
  rcases h with h|h
  ·exact absurd hT.endt h
  ·exact absurd hT.endk h
 ·have:=hT.pos
  omega
theorem RS.adv(hT:TokN N T)(h:RS N T pr s x)(hk:(T s.p).t≠⟨#[]⟩∨(T s.p).k≠0):RS N T pr (adv s) (w (x.1+1),x.2):=by
 obtain⟨v,u,rfl,h1,h2,h3,h4,h5,h6⟩:=h
 refine⟨v,u,?_,h1,h2,hT.lt h3 hk,h4,h5,h6⟩
 have:=hT.big
 show(w ((s.p:Int)+1),_)=_
 rw[w_succ (by omega)]
 rfl
end
section
variable {N:Nat} {T:Nat→Tkn} {pr:List ByteArray} {s:PS} {x:StT}
theorem fail_eq(q:Nat)(h:RS N T pr s x)(c:Int):fail q (c,x)=some ((T s.p).a,c):=by
 obtain⟨v,u,rfl,h1,h2,h3,h4,h5,h6⟩:=h
 unfold fail t_fail
 dsimp only
 rw[if_pos ⟨by omega,by omega⟩,Int.toNat_natCast]
theorem next_eq(q:Nat)(h:RS N T pr s x):next q x=some ((T s.p).k,(T s.p).a,(T s.p).t,(T s.p).n,x):=by
 obtain⟨v,u,rfl,h1,h2,h3,h4,h5,h6⟩:=h
 unfold next t_next
 dsimp only
 rw[if_pos ⟨by omega,by omega⟩,Int.toNat_natCast]
theorem is_eq(q:Nat)(h:RS N T pr s x)(b:ByteArray):is q (b,x)=some (isP T b s,x):=by
 obtain⟨v,u,rfl,h1,h2,h3,h4,h5,h6⟩:=h
 unfold is t_is
 dsimp only
 rw[if_pos ⟨by omega,by omega⟩,Int.toNat_natCast,tl_dec]
 rfl
theorem take_eq(q:Nat)(h:RS N T pr s x)(b:ByteArray):take q (b,x)=some (if isP T b s=true then(true,w (x.1+1),x.2)else(false,x)):=by
 unfold take t_take
 rw[is_eq q h]
 dsimp only[Option.bind_some]
 by_cases hb:isP T b s=true
 ·rw[if_pos hb,if_pos hb]
 ·rw[if_neg hb,if_neg hb]
end
def PU(N:Nat)(T:Nat→Tkn)(pr:List ByteArray):PR Unit→StT⊕(Int×Int)→Prop
 | .ok _ s,.inl x=>RS N T pr s x
 | .err p c,.inr e=>p<N∧e=((T p).a,c)
 |_,_=>False
def PX{α:Type}(N:Nat)(T:Nat→Tkn)(pr:List ByteArray):PR α→(α×StT)⊕(Int×Int)→Prop
 | .ok a s,.inl z=>z.1=a∧RS N T pr s z.2
 | .err p c,.inr e=>p<N∧e=((T p).a,c)
 |_,_=>False
section
variable {N:Nat} {T:Nat→Tkn} {pr:List ByteArray} {s:PS} {x:StT}
theorem isP_ne{b:ByteArray}(hb:b≠⟨#[]⟩)(h:isP T b s=true):(T s.p).t≠⟨#[]⟩∨(T s.p).k≠0:=by
 simp only[isP,decide_eq_true_eq]at h
 exact .inl (h▸hb)
theorem must_rs(hT:TokN N T)(q:Nat)(h:RS N T pr s x)(b:ByteArray)(hb:b≠⟨#[]⟩):Rs (must q (b,x)) (PU N T pr (mustP T b s)):=by
 unfold must t_must mustP
 rw[take_eq q h]
 dsimp only[Option.bind_some]
 by_cases hi:isP T b s=true
 ·rw[if_pos hi,if_pos hi]
  exact Rs.neg (by simp) (Rs.some (RS.adv hT h (isP_ne hb hi)))
 ·rw[if_neg hi,if_neg hi]
  refine Rs.pos (by simp) ?_
  rw[fail_eq q h]
  have h3:=h.choose_spec.choose_spec.2.2.2.1
  exact Rs.some ⟨h3,rfl⟩
theorem RS.lt(h:RS N T pr s x):s.p<N:=h.choose_spec.choose_spec.2.2.2.1
theorem opens_rs(hT:TokN N T)(q:Nat)(h:RS N T pr s x)(b:ByteArray)(hb:b≠⟨#[]⟩):Rs (opens q (b,x)) (PU N T pr (opensP T b s)):=by
 unfold opens t_opens opensP
 rw[is_eq q h]
 dsimp only[Option.bind_some]
 by_cases hi:isP T b s=true
 ·rw[if_pos hi]
  refine Rs.neg (by simp[hi]) ?_
  obtain⟨v,u,rfl,h1,h2,h3,h4,h5,h6⟩:=h
  dsimp only
  by_cases ho:s.o=12
  ·rw[if_pos ho]
   refine Rs.pos (by simp[ho]) ?_
   rw[fail_eq q ⟨v,u,rfl,h1,h2,h3,h4,h5,h6⟩]
   exact Rs.some ⟨h3,rfl⟩
  ·rw[if_neg ho]
   refine Rs.neg (by simp;omega) (Rs.some ?_)
   have:=hT.big
   refine⟨v,u,?_,h1,h2,hT.lt h3 (isP_ne hb hi),(by show s.o+1≤12;omega),h5,h6⟩
   rw[w_succ (by omega),w_succ (by omega)]
 ·rw[if_neg hi]
  refine Rs.pos (by simp[hi]) ?_
  rw[fail_eq q h]
  exact Rs.some ⟨h.lt,rfl⟩
theorem reserved_eq(q:Nat){t:ByteArray}(h1:t.size≤12)(h2:∀c∈t.data.toList,c≠32):reserved q t=some (resP t):=by
 unfold reserved t_reserved
 have hs:(({data:=#[32]}:ByteArray)++t).size=1+t.size:=by simp[ByteArray.size_append];rfl
 rw[if_pos (by unfold maxLen;omega),if_pos (by rw[hs];unfold maxLen;omega)]
 unfold Contains
 rw[if_pos (by dsimp only;decide)]
 dsimp only[Option.bind_some]
 rw[←res_iff h2]
 refine congrArg some (congr (congrArg Lib.contains ?_) ?_)
 ·decide
 ·simp
theorem name_rs(hT:TokN N T)(q:Nat)(h:RS N T pr s x):Rs (name q x) (PX N T pr (nameP T s)):=by
 unfold name t_name nameP
 rw[next_eq q h]
 dsimp only[Option.bind_some]
 by_cases hk:(T s.p).k=1
 ·refine Rs.neg (by simp[hk]) ?_
  obtain⟨g1,g2⟩:=hT.word s.p hk
  rw[reserved_eq q g1 g2]
  dsimp only[Option.bind_some]
  by_cases hr:resP (T s.p).t=true
  ·rw[if_pos hr,if_pos (.inr hr),fail_eq q h]
   exact Rs.some ⟨h.lt,rfl⟩
  ·rw[if_neg hr,if_neg (by simp[hk,hr])]
   exact Rs.some ⟨rfl,RS.adv hT h (.inr (by rw[hk];decide))⟩
 ·refine Rs.pos (by simp[hk]) ?_
  rw[if_pos (.inl hk),fail_eq q h]
  exact Rs.some ⟨h.lt,rfl⟩
theorem number_rs(hT:TokN N T)(q:Nat)(h:RS N T pr s x)(lo hi:Int):Rs (number q (lo,hi,x)) (PX N T pr (numP T lo hi s)):=by
 unfold number t_number
 rw[next_eq q h]
 dsimp only[Option.bind_some]
 by_cases hk:(T s.p).k=2
 ·refine Rs.neg (by simp[hk]) ?_
  by_cases h1:(T s.p).n<lo
  ·have e:numP T lo hi s= .err s.p 5:=by unfold numP;rw[if_neg (by simp[hk]),if_pos (.inl h1)]
   refine Rs.pos (by simp[h1]) ?_
   rw[fail_eq q h,e]
   exact Rs.some ⟨h.lt,rfl⟩
  ·refine Rs.neg (by simpa using h1) ?_
   by_cases h2:hi< (T s.p).n
   ·have e:numP T lo hi s= .err s.p 5:=by unfold numP;rw[if_neg (by simp[hk]),if_pos (.inr h2)]
    refine Rs.pos (by simpa using h2) ?_
    rw[fail_eq q h,e]
    exact Rs.some ⟨h.lt,rfl⟩
   ·have e:numP T lo hi s= .ok (T s.p).n (adv s):=by unfold numP;rw[if_neg (by simp[hk]),if_neg (by omega)]
    rw[e]
    exact Rs.neg (by simpa using h2) (Rs.some ⟨rfl,RS.adv hT h (.inr (by rw[hk];decide))⟩)
 ·have e:numP T lo hi s= .err s.p 11:=by unfold numP;rw[if_pos hk]
  refine Rs.pos (by simp[hk]) ?_
  rw[fail_eq q h,e]
  exact Rs.some ⟨h.lt,rfl⟩
theorem Lookup_rs(q:Nat)(t:ByteArray):Rs (Lookup q t) (fun z=>z.2.2.2.2.2.2=unitP t):=by
 unfold Lookup t_Lookup
 repeat' refine Rs.ite (fun h=>?_) (fun h=>?_)
 all_goals refine Rs.some ?_
 all_goals simp only[tl_eq]at*
 all_goals first
  | (subst_vars;decide)
  | (show false=unitP t;symm;rw[Bool.eq_false_iff,Ne,unitP,inP_iff];simp only[unitsL,List.mem_cons,List.not_mem_nil,or_false,not_or];refine⟨?_,?_,?_,?_,?_,?_,?_,?_,?_,?_,?_,?_,?_⟩<;>(intro e;subst e;contradiction))
theorem nameP_ok{a:ByteArray}{s':PS}(h:nameP T s= .ok a s'):a=(T s.p).t∧s'=adv s∧(T s.p).k=1∧resP (T s.p).t=false:=by
 unfold nameP at h
 split at h
 ·cases h
 ·rename_i hn
  cases h
  simp only[not_or,Decidable.not_not,Bool.not_eq_true]at hn
  exact⟨rfl,rfl,hn.1,hn.2⟩
theorem declare_loop(q:Nat)(x0:a_declare)(a:ByteArray){v u:Nat→ByteArray}(h1:Ag v s.vs)(h2:Ag u pr)(h3:s.p<N)(h4:s.o≤12)(h5:s.vs.length≤12)(h6:pr.length≤2000000000):
 ∀(n i m:Nat),i+n=s.vs.length→n<m→(∀j,j<i→s.vs[j]? ≠some a)→
 Rs (lpG (fun y=>declare_l0_t (name q) (fail q) x0 y (fun y=>some (.inl y)) (fun z=>some (.inr z))) m (a,s.vs.length,((s.vs.length:Nat):Int),N,(fun j=>(T j).k),(fun j=>(T j).a),(fun j=>(T j).t),(fun j=>(T j).n),((s.p:Nat):Int),((s.o:Nat):Int),pr.length,v,u,((i:Nat):Int)))
  (fun z=>if inP s.vs a=true then z= .inl ((T s.p).a,4)else z= .inr (a,N,(fun j=>(T j).k),(fun j=>(T j).a),(fun j=>(T j).t),(fun j=>(T j).n),((s.p:Nat):Int),((s.o:Nat):Int),s.vs.length,pr.length,v,u)):=by
 intro n
 induction n with
 |zero=>
  intro i m hi hm hno
  obtain⟨m,rfl⟩:∃k,m=k+1:=⟨m-1,by omega⟩
  refine Rs.step ?_
  unfold declare_l0_t
  dsimp only
  refine Rs.neg (by simp;omega) (Rs.some ?_)
  have hnin:¬inP s.vs a=true:=by
   rw[inP_iff,List.mem_iff_getElem?]
   rintro⟨j,hj⟩
   have:=(List.getElem?_eq_some_iff.1 hj).1
   exact hno j (by omega) hj
  show(if inP s.vs a=true then _ else _)
  rw[if_neg hnin]
 |succ n ih=>
  intro i m hi hm hno
  obtain⟨m,rfl⟩:∃k,m=k+1:=⟨m-1,by omega⟩
  refine Rs.step ?_
  unfold declare_l0_t
  dsimp only
  refine Rs.pos (by simp;omega) (Rs.pos ⟨by omega,by omega⟩ (Rs.pos ⟨by simp;omega,rfl⟩ ?_))
  have hget:s.vs[i]? =some (v i):=by
   have hlt:i<s.vs.length:=by omega
   have:=List.getElem?_eq_getElem hlt
   rw[this,h1 i _ this]
  have e:0+Int.toNat ((i:Nat):Int)=i:=by omega
  rw[e]
  refine Rs.ite (fun heq=>?_) (fun hne=>?_)
  ·rw[tl_eq]at heq
   have hin:inP s.vs a=true:=by
    rw[inP_iff,←heq]
    exact List.mem_iff_getElem?.2 ⟨i,hget⟩
   rw[fail_eq q (s:=s) (pr:=pr) (N:=N) (T:=T) ⟨v,u,rfl,h1,h2,h3,h4,h5,h6⟩]
   refine Rs.some ?_
   show(if inP s.vs a=true then _ else _)
   rw[if_pos hin]
  ·rw[tl_eq]at hne
   refine Rs.some ?_
   show Rs (lpG _ m _) _
   rw[w_succ (by omega)]
   refine ih (i+1) m (by omega) (by omega) fun j hj=>?_
   by_cases hji:j=i
   ·subst hji
    rw[hget]
    simpa using hne
   ·exact hno j (by omega)
theorem declare_rs(hT:TokN N T)(q:Nat)(hq:20≤q)(h:RS N T pr s x):Rs (declare q x) (PX N T pr (declP T s)):=by
 unfold declare t_declare declP
 refine Rs.bind (name_rs hT q h) fun z hz=>?_
 cases hn:nameP T s with
 |out=>rw[hn]at hz;rcases z with z|z<;>exact hz.elim
 |err p c=>
  rw[hn]at hz
  rcases z with z|z
  ·exact hz.elim
  ·exact Rs.some hz
 |ok a s'=>
  rw[hn]at hz
  obtain⟨rfl,rfl,hk,hr⟩:=nameP_ok hn
  rcases z with z|z
  rotate_left
  ·exact hz.elim
  obtain⟨z1,z2⟩:=z
  obtain⟨rfl,v,u,rfl,h1,h2,h3,h4,h5,h6⟩:=hz
  dsimp only[Sum.elim_inl,PR.bind]
  have hsp:=h.lt
  have hN:=hT.big
  have e1:w (((adv s).p:Int)-1)=((s.p:Nat):Int):=by
   show w (((s.p+1:Nat):Int)-1)=_
   rw[w_in (by omega) (by omega)];omega
  rw[e1]
  unfold declare_l0
  refine Rs.bind (declare_loop (s:=s) q x _ h1 h2 hsp h4 h5 h6 s.vs.length 0 q (by omega) (by show s.vs.length<q;have:s.vs.length≤12:=h5;omega) (fun j hj=>absurd hj (Nat.not_lt_zero j))) fun z hz=>?_
  by_cases hin:inP s.vs (T s.p).t=true
  ·rw[if_pos hin]at hz
   subst hz
   rw[if_pos hin]
   exact Rs.some ⟨hsp,rfl⟩
  ·rw[if_neg hin]at hz
   subst hz
   rw[if_neg hin]
   dsimp only[Sum.elim_inr,Sum.elim_inl]
   by_cases hl:s.vs.length=12
   ·rw[if_pos hl]
    refine Rs.pos (by simp[hl]) ?_
    rw[fail_eq q (s:=s) (pr:=pr) (N:=N) (T:=T) ⟨v,u,rfl,h1,h2,hsp,h4,h5,h6⟩]
    exact Rs.some ⟨hsp,rfl⟩
   ·rw[if_neg hl]
    refine Rs.neg (by simp;omega) (Rs.pos ?_ (Rs.some ⟨rfl,?_⟩))
    ·have:s.vs.length≤12:=h5
     exact⟨by unfold roomBound;omega,by unfold maxLen;omega,by omega⟩
    ·refine⟨_,u,?_,h1.push,h2,h3,h4,(by simp;have:s.vs.length≤12:=h5;omega),h6⟩
     rw[w_succ (by omega)]
     simp[adv]
     rfl
end
end Go.Proofs.YtjfkkokeegpeiaaDoor
/- Expressions are read as the plain parser reads them. -/
namespace Go.Proofs.YtjfkkokeegpeiaaDoor
open Go Go.Am Go.Proofs.Lx
set_option maxRecDepth 100000
abbrev NodeT:Type:=Int×Int×ByteArray×Nat×(Nat→List V)
mutual
def RepN:Tr→NodeT→Prop
 | .node k n s l,x=>x.1=k∧x.2.1=n∧x.2.2.1=s∧x.2.2.2.1=l.length∧RepL l x.2.2.2.2 0
def RepL:List Tr→(Nat→List V)→Nat→Prop
 | [],_,_=>True
 |t::l,f,j=>(∃y:NodeT,f j=[i64 y.1,i64 y.2.1,st y.2.2.1,.ro 4 y.2.2.2.1 y.2.2.2.2]∧RepN t y)∧RepL l f (j+1)
end
theorem RepN.leaf{k n:Int}{s:ByteArray}{f:Nat→List V}:RepN (.node k n s []) (k,n,s,0,f):=by simp[RepN,RepL]
theorem RepN.k1{k n:Int}{s:ByteArray}{a:Tr}{y:NodeT}(h:RepN a y):RepN (.node k n s [a]) (k,n,s,1,selL [[i64 y.1,i64 y.2.1,st y.2.2.1,.ro 4 y.2.2.2.1 y.2.2.2.2]]):=by
 simp only[RepN,RepL,List.length_cons,List.length_nil]
 exact⟨trivial,trivial,trivial,trivial,⟨y,rfl,h⟩,trivial⟩
theorem RepN.k2{k n:Int}{s:ByteArray}{a b:Tr}{y z:NodeT}(h:RepN a y)(g:RepN b z):RepN (.node k n s [a,b]) (k,n,s,2,selL [[i64 y.1,i64 y.2.1,st y.2.2.1,.ro 4 y.2.2.2.1 y.2.2.2.2],[i64 z.1,i64 z.2.1,st z.2.2.1,.ro 4 z.2.2.2.1 z.2.2.2.2]]):=by
 simp only[RepN,RepL,List.length_cons,List.length_nil]
 exact⟨trivial,trivial,trivial,trivial,⟨y,rfl,h⟩,⟨z,rfl,g⟩,trivial⟩
def PN(N:Nat)(T:Nat→Tkn)(pr:List ByteArray):PR Tr→(Int×Int×ByteArray×Nat×(Nat→List V)×StT)⊕(Int×Int)→Prop
 | .ok a s,.inl z=>RepN a (z.1,z.2.1,z.2.2.1,z.2.2.2.1,z.2.2.2.2.1)∧RS N T pr s z.2.2.2.2.2
 | .err p c,.inr e=>p<N∧e=((T p).a,c)
 |_,_=>False
theorem PR.bind_out{α β:Type}{r:PR α}{k:α→PS→PR β}(h:r.bind k≠ .out):r≠ .out:=by rintro rfl;exact h rfl
section
variable {N:Nat} {T:Nat→Tkn} {pr:List ByteArray} {γ:Type} {P:γ→Prop}
theorem PU.bind{r:PR Unit}{o:Option (StT⊕(Int×Int))}{f:StT→Option γ}{g:Int×Int→Option γ}(h:Rs o (PU N T pr r))(hok:∀s x,r= .ok () s→RS N T pr s x→Rs (f x) P)(herr:∀p c,r= .err p c→p<N→Rs (g ((T p).a,c)) P):
 Rs (o.bind fun z=>Sum.elim f g z) P:=by
 obtain⟨z,rfl,hp⟩:=h
 cases r with
 |ok u s=>cases z with
  |inl z=>exact hok s z rfl hp
  |inr z=>exact hp.elim
 |err p c=>cases z with
  |inl z=>exact hp.elim
  |inr z=>obtain⟨h1,rfl⟩:=hp;exact herr p c rfl h1
 |out=>cases z<;>exact hp.elim
theorem PX.bind{α:Type}{r:PR α}{o:Option ((α×StT)⊕(Int×Int))}{f:α×StT→Option γ}{g:Int×Int→Option γ}(h:Rs o (PX N T pr r))(hok:∀a s x,r= .ok a s→RS N T pr s x→Rs (f (a,x)) P)(herr:∀p c,r= .err p c→p<N→Rs (g ((T p).a,c)) P):
 Rs (o.bind fun z=>Sum.elim f g z) P:=by
 obtain⟨z,rfl,hp⟩:=h
 cases r with
 |ok a s=>cases z with
  |inl z=>obtain⟨z1,z2⟩:=z;obtain⟨rfl,h2⟩:=hp;exact hok _ s z2 rfl h2
  |inr z=>exact hp.elim
 |err p c=>cases z with
  |inl z=>exact hp.elim
  |inr z=>obtain⟨h1,rfl⟩:=hp;exact herr p c rfl h1
 |out=>cases z<;>exact hp.elim
theorem PN.bind{r:PR Tr}{o:Option ((Int×Int×ByteArray×Nat×(Nat→List V)×StT)⊕(Int×Int))}{f:Int×Int×ByteArray×Nat×(Nat→List V)×StT→Option γ}{g:Int×Int→Option γ}(h:Rs o (PN N T pr r))
 (hok:∀t s k n b m c x,r= .ok t s→RepN t (k,n,b,m,c)→RS N T pr s x→Rs (f (k,n,b,m,c,x)) P) (herr:∀p c,r= .err p c→p<N→Rs (g ((T p).a,c)) P):
 Rs (o.bind fun z=>Sum.elim f g z) P:=by
 obtain⟨z,rfl,hp⟩:=h
 cases r with
 |ok a s=>cases z with
  |inl z=>obtain⟨k,n,b,m,c,x⟩:=z;exact hok a s k n b m c x rfl hp.1 hp.2
  |inr z=>exact hp.elim
 |err p c=>cases z with
  |inl z=>exact hp.elim
  |inr z=>obtain⟨h1,rfl⟩:=hp;exact herr p c rfl h1
 |out=>cases z<;>exact hp.elim
end
theorem levelOf_eq(q:Nat)(t:ByteArray):levelOf q t=some ((levP t:Nat):Int):=by
 unfold levelOf t_levelOf levP
 simp only[tl_eq]
 by_cases e0:t=sOr
 ·subst e0;rfl
 by_cases e1:t=sAnd
 ·subst e1;rfl
 by_cases e2:t=sLt
 ·subst e2;rfl
 by_cases e3:t=sLe
 ·subst e3;rfl
 by_cases e4:t=sGt
 ·subst e4;rfl
 by_cases e5:t=sGe
 ·subst e5;rfl
 by_cases e6:t=sEq
 ·subst e6;rfl
 by_cases e7:t=sNe
 ·subst e7;rfl
 by_cases e8:t=sAdd
 ·subst e8;rfl
 by_cases e9:t=sSub
 ·subst e9;rfl
 by_cases e10:t=sMul
 ·subst e10;rfl
 by_cases e11:t=sDiv
 ·subst e11;rfl
 simp only[e0,e1,e2,e3,e4,e5,e6,e7,e8,e9,e10,e11,or_self,if_false]
 rfl
section
variable {N:Nat} {T:Nat→Tkn} {pr:List ByteArray} {s:PS} {x:StT}
theorem literal_rs(hT:TokN N T)(q:Nat)(h:RS N T pr s x):Rs (literal q x) (PN N T pr (litP T s)):=by
 unfold literal
 refine Rs.map (P:=fun y=>PN N T pr (litP T s) (cv_literal y)) ?_ fun z hz=>hz
 unfold literalR t_literalR litP
 refine PX.bind (number_rs hT q h 0 2147483647) (fun n s1 x1 e h1=>?_) (fun p c e hp=>?_)
 ·rw[e]
  dsimp only[PR.bind]
  rw[next_eq q h1]
  dsimp only[Option.bind_some]
  by_cases hk:(T s1.p).k=1
  ·refine Rs.pos (by simp[hk]) ?_
   refine Rs.bind (Lookup_rs q (T s1.p).t) fun z hz=>?_
   by_cases hu:unitP (T s1.p).t=true
   ·refine Rs.pos (hz.trans hu) (Rs.some ?_)
    rw[if_pos (show _∧_ from⟨hk,hu⟩)]
    exact⟨RepN.leaf,RS.adv hT h1 (.inr (by rw[hk];decide))⟩
   ·refine Rs.neg (by rw[hz];exact hu) (Rs.some ?_)
    rw[if_neg (show¬(_∧_)from fun h=>hu h.2)]
    exact⟨RepN.leaf,h1⟩
  ·refine Rs.neg (by simp[hk]) (Rs.some ?_)
   rw[if_neg (show¬(_∧_)from fun h=>hk h.1)]
   exact⟨RepN.leaf,h1⟩
 ·rw[e]
  exact Rs.some ⟨hp,rfl⟩
end
end Go.Proofs.YtjfkkokeegpeiaaDoor
/- Expressions are read as the plain parser reads them (2). -/
namespace Go.Proofs.YtjfkkokeegpeiaaDoor
open Go Go.Am Go.Proofs.Lx
set_option maxRecDepth 100000
abbrev Y0:Type:=Nat×(Nat→Int)×(Nat→Int)×(Nat→ByteArray)×(Nat→Int)×Int×Int×Nat×Nat×(Nat→ByteArray)×(Nat→ByteArray)×NodeT
abbrev Y1:Type:=Nat×(Nat→Int)×(Nat→Int)×(Nat→ByteArray)×(Nat→Int)×Int×Int×Nat×Nat×(Nat→ByteArray)×(Nat→ByteArray)×ByteArray×Int×Int×ByteArray×Nat×(Nat→List V)×NodeT
def y0(x:StT)(n:NodeT):Y0:=(x.2.2.1,x.2.2.2.1,x.2.2.2.2.1,x.2.2.2.2.2.1,x.2.2.2.2.2.2.1,x.1,x.2.1,x.2.2.2.2.2.2.2.1,x.2.2.2.2.2.2.2.2.2.1,x.2.2.2.2.2.2.2.2.1,x.2.2.2.2.2.2.2.2.2.2,n)
def y1(x:StT)(op:ByteArray)(a b:NodeT):Y1:=(x.2.2.1,x.2.2.2.1,x.2.2.2.2.1,x.2.2.2.2.2.1,x.2.2.2.2.2.2.1,x.1,x.2.1,x.2.2.2.2.2.2.2.1,x.2.2.2.2.2.2.2.2.2.1,x.2.2.2.2.2.2.2.2.1,x.2.2.2.2.2.2.2.2.2.2,op,a.1,a.2.1,a.2.2.1,a.2.2.2.1,a.2.2.2.2,b)
def LP(N:Nat)(T:Nat→Tkn)(pr:List ByteArray):PR Tr→exprR_l1_g→Prop
 | .ok t s,.inl z=>∃x op a b ta tb,z=y1 x op a b∧t= .node 20 0 op [ta,tb]∧RepN ta a∧RepN tb b∧RS N T pr s x
 | .ok t s,.inr (.inr z)=>∃x n,z=y0 x n∧RepN t n∧RS N T pr s x
 | .err p c,.inr (.inl e)=>p<N∧e=((T p).a,c)
 |_,_=>False
def LS(n:Tr)(x:StT):exprR_l1_a→Prop
 | .inl y=>∃a,y=y0 x a∧RepN n a
 | .inr y=>∃op a b ta tb,y=y1 x op a b∧n= .node 20 0 op [ta,tb]∧RepN ta a∧RepN tb b
section
variable {N:Nat} {T:Nat→Tkn} {pr:List ByteArray}
def HE(N:Nat)(T:Nat→Tkn)(pr:List ByteArray)(f q:Nat):Prop:=∀g,g≤f→∀lv,1≤lv→lv≤8→∀(s:PS) (x:StT),RS N T pr s x→exprP T g lv s≠ .out→Rs (expr q (((lv:Nat):Int),x)) (PN N T pr (exprP T g lv s))
theorem ops_loop(hT:TokN N T){f q:Nat}(hE:HE N T pr f q)(lv:Nat)(hl1:1≤lv)(hl:lv≤7)(x0:StT):∀(g:Nat),g≤f→∀(m:Nat),g<m→∀(n:Tr) (s:PS) (x:StT) (y:exprR_l1_a),LS n x y→RS N T pr s x→opsP T g lv n s≠ .out→
 Rs (exprR_l1 (is q) (unary q) (primary q) (expr q) (next q) (levelOf q) m (((lv:Nat):Int),x0) y) (LP N T pr (opsP T g lv n s)):=by
 intro g
 induction g with
 |zero=>intro _ m _ n s x y _ _ ho;exact absurd rfl ho
 |succ g ih=>
  intro hg m hm n s x y hy h ho
  obtain⟨m,rfl⟩:∃k,m=k+1:=⟨m-1,by omega⟩
  unfold exprR_l1
  refine Rs.step3 fun Q hQ=>?_
  have h0:=h
  obtain⟨v,u,rfl,h1,h2,h3,h4,h5,h6⟩:=h
  have hN:=hT.big
  have hop:opsP T (g+1) lv n s=if levP (T s.p).t=lv∧(T s.p).k=3 then(exprP T g (lv+1) (adv s)).bind fun m s'=>if lv=4 then .ok (.node 20 0 (T s.p).t [n,m]) s' else opsP T g lv (.node 20 0 (T s.p).t [n,m]) s' else .ok n s:=by rw[opsP]
  rcases y with y|y
  ·obtain⟨a,rfl,ha⟩:=hy
   rw[Sum.elim_inl]
   unfold exprR_l1_t0
   dsimp only[y0,y1]
   rw[next_eq q (s:=s) (pr:=pr) (N:=N) (T:=T) h0]
   dsimp only[Option.bind_some]
   rw[levelOf_eq]
   dsimp only[Option.bind_some]
   by_cases hlv:levP (T s.p).t=lv
   ·refine Rs.pos (by simp[hlv]) ?_
    rw[next_eq q (s:=s) (pr:=pr) (N:=N) (T:=T) h0]
    dsimp only[Option.bind_some]
    by_cases hk:(T s.p).k=3
    ·refine Rs.pos (by simp[hk]) ?_
     rw[next_eq q (s:=s) (pr:=pr) (N:=N) (T:=T) h0]
     dsimp only[Option.bind_some]
     rw[if_pos ⟨hlv,hk⟩]at hop
     rw[w_succ (i:=lv) (by omega)]
     have hadv:=RS.adv hT h0 (.inr (by rw[hk];decide))
     refine PN.bind (hE g (by omega) (lv+1) (by omega) (by omega) (adv s) _ hadv (PR.bind_out (hop▸ho))) (fun t s2 k1 n1 b1 m1 c1 x1 e hr hx=>?_) (fun p c e hp=>?_)
     ·rw[e]at hop
      dsimp only[PR.bind]at hop
      by_cases h4':lv=4
      ·rw[if_pos h4']at hop
       refine Rs.pos (by simp[h4']) (Rs.some ?_)
       show LP N T pr (opsP T (g+1) lv _ s) _
       rw[hop]
       exact⟨x1,_,a,(k1,n1,b1,m1,c1),_,t,rfl,rfl,ha,hr,hx⟩
      ·rw[if_neg h4']at hop
       refine Rs.neg (by simp;omega) (Rs.some ?_)
       refine hQ _ ?_
       rw[hop]
       exact ih (by omega) m (by omega) _ s2 x1 (.inr (y1 x1 (T s.p).t a (k1,n1,b1,m1,c1))) ⟨_,a,(k1,n1,b1,m1,c1),_,t,rfl,rfl,ha,hr⟩ hx (hop▸ho)
     ·refine Rs.some ?_
      show LP N T pr (opsP T (g+1) lv _ s) _
      rw[hop,e]
      exact⟨hp,rfl⟩
    ·refine Rs.neg (by simp[hk]) (Rs.some ?_)
     rw[if_neg (fun h=>hk h.2)]at hop
     show LP N T pr (opsP T (g+1) lv _ s) _
     rw[hop]
     exact⟨_,a,rfl,ha,h0⟩
   ·refine Rs.neg (fun hh=>hlv (by have hh:=(by simpa using hh:((levP (T s.p).t:Nat):Int)=lv);omega)) (Rs.some ?_)
    rw[if_neg (fun h=>hlv h.1)]at hop
    show LP N T pr (opsP T (g+1) lv _ s) _
    rw[hop]
    exact⟨_,a,rfl,ha,h0⟩
  ·obtain⟨op,a,b,ta,tb,rfl,rfl,ha,hb⟩:=hy
   have hab:RepN (.node 20 0 op [ta,tb]) (20,0,op,2,fun j=>[i64 (if 0+j=0 then a.1 else b.1),i64 (if 0+j=0 then a.2.1 else b.2.1),st (if 0+j=0 then a.2.2.1 else b.2.2.1),.ro 4 (if 0+j=0 then a.2.2.2.1 else b.2.2.2.1) fun i=>if 0+j=0 then a.2.2.2.2 i else b.2.2.2.2 i]):=by
    simp only[RepN,RepL,List.length_cons,List.length_nil]
    exact⟨trivial,trivial,trivial,trivial,⟨a,rfl,ha⟩,⟨b,rfl,hb⟩,trivial⟩
   rw[Sum.elim_inr]
   unfold exprR_l1_t1
   dsimp only[y0,y1]
   rw[next_eq q (s:=s) (pr:=pr) (N:=N) (T:=T) h0]
   dsimp only[Option.bind_some]
   rw[levelOf_eq]
   dsimp only[Option.bind_some]
   by_cases hlv:levP (T s.p).t=lv
   ·refine Rs.pos (by simp[hlv]) ?_
    rw[next_eq q (s:=s) (pr:=pr) (N:=N) (T:=T) h0]
    dsimp only[Option.bind_some]
    by_cases hk:(T s.p).k=3
    ·refine Rs.pos (by simp[hk]) ?_
     rw[next_eq q (s:=s) (pr:=pr) (N:=N) (T:=T) h0]
     dsimp only[Option.bind_some]
     rw[if_pos ⟨hlv,hk⟩]at hop
     rw[w_succ (i:=lv) (by omega)]
     have hadv:=RS.adv hT h0 (.inr (by rw[hk];decide))
     refine PN.bind (hE g (by omega) (lv+1) (by omega) (by omega) (adv s) _ hadv (PR.bind_out (hop▸ho))) (fun t s2 k1 n1 b1 m1 c1 x1 e hr hx=>?_) (fun p c e hp=>?_)
     ·rw[e]at hop
      dsimp only[PR.bind]at hop
      by_cases h4':lv=4
      ·rw[if_pos h4']at hop
       refine Rs.pos (by simp[h4']) (Rs.some ?_)
       show LP N T pr (opsP T (g+1) lv _ s) _
       rw[hop]
       exact⟨x1,_,(20,0,op,2,fun j=>[i64 (if 0+j=0 then a.1 else b.1),i64 (if 0+j=0 then a.2.1 else b.2.1),st (if 0+j=0 then a.2.2.1 else b.2.2.1),.ro 4 (if 0+j=0 then a.2.2.2.1 else b.2.2.2.1) fun i=>if 0+j=0 then a.2.2.2.2 i else b.2.2.2.2 i]),(k1,n1,b1,m1,c1),_,t,rfl,rfl,hab,hr,hx⟩
      ·rw[if_neg h4']at hop
       refine Rs.neg (by simp;omega) (Rs.some ?_)
       refine hQ _ ?_
       rw[hop]
       exact ih (by omega) m (by omega) _ s2 x1 (.inr (y1 x1 (T s.p).t (20,0,op,2,fun j=>[i64 (if 0+j=0 then a.1 else b.1),i64 (if 0+j=0 then a.2.1 else b.2.1),st (if 0+j=0 then a.2.2.1 else b.2.2.1),.ro 4 (if 0+j=0 then a.2.2.2.1 else b.2.2.2.1) fun i=>if 0+j=0 then a.2.2.2.2 i else b.2.2.2.2 i]) (k1,n1,b1,m1,c1))) ⟨_,(20,0,op,2,fun j=>[i64 (if 0+j=0 then a.1 else b.1),i64 (if 0+j=0 then a.2.1 else b.2.1),st (if 0+j=0 then a.2.2.1 else b.2.2.1),.ro 4 (if 0+j=0 then a.2.2.2.1 else b.2.2.2.1) fun i=>if 0+j=0 then a.2.2.2.2 i else b.2.2.2.2 i]),(k1,n1,b1,m1,c1),_,t,rfl,rfl,hab,hr⟩ hx (hop▸ho)
     ·refine Rs.some ?_
      show LP N T pr (opsP T (g+1) lv _ s) _
      rw[hop,e]
      exact⟨hp,rfl⟩
    ·refine Rs.neg (by simp[hk]) (Rs.some ?_)
     rw[if_neg (fun h=>hk h.2)]at hop
     show LP N T pr (opsP T (g+1) lv _ s) _
     rw[hop]
     exact⟨_,op,a,b,ta,tb,rfl,rfl,ha,hb,h0⟩
   ·refine Rs.neg (fun hh=>hlv (by have hh:=(by simpa using hh:((levP (T s.p).t:Nat):Int)=lv);omega)) (Rs.some ?_)
    rw[if_neg (fun h=>hlv h.1)]at hop
    show LP N T pr (opsP T (g+1) lv _ s) _
    rw[hop]
    exact⟨_,op,a,b,ta,tb,rfl,rfl,ha,hb,h0⟩
end
end Go.Proofs.YtjfkkokeegpeiaaDoor
/- Expressions are read as the plain parser reads them (3). -/
namespace Go.Proofs.YtjfkkokeegpeiaaDoor
open Go Go.Am Go.Proofs.Lx
set_option maxRecDepth 100000
section
variable {N:Nat} {T:Nat→Tkn} {pr:List ByteArray}
def HU(N:Nat)(T:Nat→Tkn)(pr:List ByteArray)(f q:Nat):Prop:=∀g,g≤f→∀b:ByteArray,b≠⟨#[]⟩→∀lv,1≤lv→lv≤8→∀(s:PS) (x:StT),RS N T pr s x→unaryP T g b lv s≠ .out→Rs (unary q (b,((lv:Nat):Int),x)) (PN N T pr (unaryP T g b lv s))
def HP(N:Nat)(T:Nat→Tkn)(pr:List ByteArray)(f q:Nat):Prop:=∀g,g≤f→∀(s:PS) (x:StT),RS N T pr s x→primP T g s≠ .out→Rs (primary q x) (PN N T pr (primP T g s))
theorem RS.close{s:PS}{x:StT}(hT:TokN N T)(h:RS N T pr s x)(ho:1≤s.o):RS N T pr (closeP s) (x.1,w (x.2.1-1),x.2.2):=by
 obtain⟨v,u,rfl,h1,h2,h3,h4,h5,h6⟩:=h
 refine⟨v,u,?_,h1,h2,h3,(by show s.o-1≤12;omega),h5,h6⟩
 show(((s.p:Nat):Int),w (((s.o:Nat):Int)-1),_)=_
 rw[w_in (by omega) (by omega)]
 have e:((s.o:Nat):Int)-1=((s.o-1:Nat):Int):=by omega
 rw[e]
 rfl
end
section
variable {T:Nat→Tkn}
def Op{α:Type}(o:Nat):PR α→Prop
 | .ok _ s=>s.o=o
 |_=>True
theorem Op.bind{α β:Type}{o o':Nat}{r:PR α}{k:α→PS→PR β}(h:Op o r)(hk:∀a s,s.o=o→Op o' (k a s)):Op o' (r.bind k):=by
 cases r with
 |ok a s=>exact hk a s h
 |err p c=>trivial
 |out=>trivial
theorem must_op(b:ByteArray)(s:PS):Op s.o (mustP T b s):=by unfold mustP;split<;>trivial
theorem name_op(s:PS):Op s.o (nameP T s):=by unfold nameP;split<;>trivial
theorem num_op(lo hi:Int)(s:PS):Op s.o (numP T lo hi s):=by unfold numP;repeat' (split<;>try trivial)
theorem opens_op(b:ByteArray)(s:PS):Op (s.o+1) (opensP T b s):=by unfold opensP;repeat' (split<;>try trivial)
theorem lit_op(s:PS):Op s.o (litP T s):=by
 unfold litP
 refine(num_op 0 2147483647 s).bind fun a s1 h=>?_
 split
 ·exact h
 ·exact h
theorem expr_op:∀f,(∀lv s,Op s.o (exprP T f lv s))∧(∀lv n s,Op s.o (opsP T f lv n s))∧(∀b lv s,Op s.o (unaryP T f b lv s))∧(∀s,Op s.o (primP T f s)):=by
 intro f
 induction f with
 |zero=>exact⟨fun _ _=>by rw[exprP];trivial,fun _ _ _=>by rw[opsP];trivial,fun _ _ _=>by rw[unaryP];trivial,fun _=>by rw[primP];trivial⟩
 |succ f ih=>
  obtain⟨h1,h2,h3,h4⟩:=ih
  refine⟨fun lv s=>?_,fun lv n s=>?_,fun b lv s=>?_,fun s=>?_⟩
  ·rw[exprP]
   split
   ·exact h3 _ _ _
   ·split
    ·exact h3 _ _ _
    ·split
     ·exact h4 _
     ·refine(h1 _ _).bind fun a s1 e=>?_
      rw[←e];exact h2 _ _ _
  ·rw[opsP]
   split
   ·refine(h1 (lv+1) (adv s)).bind fun a s1 e=>?_
    split
    ·exact e
    ·have:=h2 lv (.node 20 0 (T s.p).t [n,a]) s1
     rw[e]at this;exact this
   ·rfl
  ·rw[unaryP]
   refine(opens_op b s).bind fun _ s1 e1=>(h1 lv s1).bind fun n s2 e2=>?_
   show s2.o-1=s.o
   omega
  ·rw[primP]
   split
   ·exact lit_op s
   ·split
    ·rfl
    ·split
     ·rfl
     ·split
      ·exact(must_op sDot (adv s)).bind fun _ s1 e1=>by
        have:=name_op (T:=T) s1
        rw[e1]at this
        exact this.bind fun x s2 e2=>e2
      ·split
       ·refine(opens_op sLPar s).bind fun _ s1 e1=>(h1 1 s1).bind fun n s2 e2=>(must_op sRPar s2).bind fun _ s3 e3=>?_
        show s3.o-1=s.o
        omega
       ·exact(name_op s).bind fun x s1 e1=>e1
end
end Go.Proofs.YtjfkkokeegpeiaaDoor
/- Expressions are read as the plain parser reads them (4). -/
namespace Go.Proofs.YtjfkkokeegpeiaaDoor
open Go Go.Am Go.Proofs.Lx
set_option maxRecDepth 100000
section
variable {N:Nat} {T:Nat→Tkn} {pr:List ByteArray}
theorem expr_step(hT:TokN N T){f q:Nat}(hq:f<q)(hE:HE N T pr f q)(hU:HU N T pr f q)(hP:HP N T pr f q)(lv:Nat)(hl1:1≤lv)(hl:lv≤8)(s:PS)(x:StT)(h:RS N T pr s x)(ho:exprP T (f+1) lv s≠ .out):
 Rs (expr (q+1) (((lv:Nat):Int),x)) (PN N T pr (exprP T (f+1) lv s)):=by
 show Rs ((t_exprR (is q) (unary q) (primary q) (expr q) (next q) (levelOf q) (exprR_l1 (is q) (unary q) (primary q) (expr q) (next q) (levelOf q) q (((lv:Nat):Int),x)) (((lv:Nat):Int),x) some).map cv_expr) _
 refine Rs.map (P:=fun y=>PN N T pr (exprP T (f+1) lv s) (cv_expr y)) ?_ fun z hz=>hz
 unfold t_exprR
 dsimp only
 have hop:exprP T (f+1) lv s=if lv=3∧isP T sNot s=true then unaryP T f sNot 3 s else if lv=7∧isP T sSub s=true then unaryP T f sSub 7 s else if lv=8 then primP T f s else(exprP T f (lv+1) s).bind fun n s'=>opsP T f lv n s':=by rw[exprP]
 by_cases h3:lv=3
 ·refine Rs.pos (by simp[h3]) ?_
  rw[is_eq q h]
  dsimp only[Option.bind_some]
  by_cases hi:isP T sNot s=true
  ·rw[if_pos ⟨h3,hi⟩]at hop
   refine Rs.pos hi ?_
   refine PN.bind (hU f (Nat.le_refl _) sNot (by decide) 3 (by decide) (by decide) s x h (hop▸ho)) (fun t s1 k n b m c x1 e hr hx=>?_) (fun p c e hp=>?_)
   ·rw[hop,e];exact Rs.some ⟨hr,hx⟩
   ·rw[hop,e];exact Rs.some ⟨hp,rfl⟩
  ·rw[if_neg (fun h=>hi h.2),if_neg (fun h=>by omega),if_neg (by omega)]at hop
   refine Rs.neg hi (Rs.neg (by simp;omega) (Rs.neg (by simp;omega) ?_))
   rw[w_succ (i:=lv) (by omega)]
   refine PN.bind (hE f (Nat.le_refl _) (lv+1) (by omega) (by omega) s x h (PR.bind_out (hop▸ho))) (fun t s1 k n b m c x1 e hr hx=>?_) (fun p c e hp=>?_)
   ·rw[e]at hop
    dsimp only[PR.bind]at hop
    refine Rs.bind (ops_loop hT hE lv hl1 (by omega) x f (Nat.le_refl _) q (by omega) t s1 x1 (.inl (y0 x1 (k,n,b,m,c))) ⟨_,rfl,hr⟩ hx (hop▸ho)) (fun z hz=>?_)
    rw[hop]
    cases hr2:opsP T f lv t s1 with
    |out=>rw[hop,hr2]at ho;exact absurd rfl ho
    |err p c=>
     rw[hr2]at hz
     rcases z with z|z|z
     ·exact hz.elim
     ·exact Rs.some hz
     ·exact hz.elim
    |ok a s2=>
     rw[hr2]at hz
     rcases z with z|z|z
     ·obtain⟨x2,op,na,nb,ta,tb,rfl,rfl,g1,g2,g3⟩:=hz
      exact Rs.some ⟨RepN.k2 g1 g2,g3⟩
     ·exact hz.elim
     ·obtain⟨x2,nd,rfl,g1,g3⟩:=hz
      exact Rs.some ⟨g1,g3⟩
   ·rw[hop,e]
    exact Rs.some ⟨hp,rfl⟩
 ·refine Rs.neg (by simp;omega) ?_
  rw[if_neg (fun h=>h3 h.1)]at hop
  by_cases h7:lv=7
  ·refine Rs.pos (by simp[h7]) ?_
   rw[is_eq q h]
   dsimp only[Option.bind_some]
   by_cases hi:isP T sSub s=true
   ·rw[if_pos ⟨h7,hi⟩]at hop
    refine Rs.pos hi ?_
    refine PN.bind (hU f (Nat.le_refl _) sSub (by decide) 7 (by decide) (by decide) s x h (hop▸ho)) (fun t s1 k n b m c x1 e hr hx=>?_) (fun p c e hp=>?_)
    ·rw[hop,e];exact Rs.some ⟨hr,hx⟩
    ·rw[hop,e];exact Rs.some ⟨hp,rfl⟩
   ·rw[if_neg (fun h=>hi h.2),if_neg (by omega)]at hop
    refine Rs.neg hi (Rs.neg (by simp;omega) ?_)
    rw[w_succ (i:=lv) (by omega)]
    refine PN.bind (hE f (Nat.le_refl _) (lv+1) (by omega) (by omega) s x h (PR.bind_out (hop▸ho))) (fun t s1 k n b m c x1 e hr hx=>?_) (fun p c e hp=>?_)
    ·rw[e]at hop
     dsimp only[PR.bind]at hop
     refine Rs.bind (ops_loop hT hE lv hl1 (by omega) x f (Nat.le_refl _) q (by omega) t s1 x1 (.inl (y0 x1 (k,n,b,m,c))) ⟨_,rfl,hr⟩ hx (hop▸ho)) (fun z hz=>?_)
     rw[hop]
     cases hr2:opsP T f lv t s1 with
     |out=>rw[hop,hr2]at ho;exact absurd rfl ho
     |err p c=>
      rw[hr2]at hz
      rcases z with z|z|z
      ·exact hz.elim
      ·exact Rs.some hz
      ·exact hz.elim
     |ok a s2=>
      rw[hr2]at hz
      rcases z with z|z|z
      ·obtain⟨x2,op,na,nb,ta,tb,rfl,rfl,g1,g2,g3⟩:=hz
       exact Rs.some ⟨RepN.k2 g1 g2,g3⟩
      ·exact hz.elim
      ·obtain⟨x2,nd,rfl,g1,g3⟩:=hz
       exact Rs.some ⟨g1,g3⟩
    ·rw[hop,e]
     exact Rs.some ⟨hp,rfl⟩
  ·refine Rs.neg (by simp;omega) ?_
   rw[if_neg (fun h=>h7 h.1)]at hop
   by_cases h8:lv=8
   ·rw[if_pos h8]at hop
    refine Rs.pos (by simp[h8]) ?_
    refine PN.bind (hP f (Nat.le_refl _) s x h (hop▸ho)) (fun t s1 k n b m c x1 e hr hx=>?_) (fun p c e hp=>?_)
    ·rw[hop,e];exact Rs.some ⟨hr,hx⟩
    ·rw[hop,e];exact Rs.some ⟨hp,rfl⟩
   ·rw[if_neg h8]at hop
    refine Rs.neg (by simp;omega) ?_
    rw[w_succ (i:=lv) (by omega)]
    refine PN.bind (hE f (Nat.le_refl _) (lv+1) (by omega) (by omega) s x h (PR.bind_out (hop▸ho))) (fun t s1 k n b m c x1 e hr hx=>?_) (fun p c e hp=>?_)
    ·rw[e]at hop
     dsimp only[PR.bind]at hop
     refine Rs.bind (ops_loop hT hE lv hl1 (by omega) x f (Nat.le_refl _) q (by omega) t s1 x1 (.inl (y0 x1 (k,n,b,m,c))) ⟨_,rfl,hr⟩ hx (hop▸ho)) (fun z hz=>?_)
     rw[hop]
     cases hr2:opsP T f lv t s1 with
     |out=>rw[hop,hr2]at ho;exact absurd rfl ho
     |err p c=>
      rw[hr2]at hz
      rcases z with z|z|z
      ·exact hz.elim
      ·exact Rs.some hz
      ·exact hz.elim
     |ok a s2=>
      rw[hr2]at hz
      rcases z with z|z|z
      ·obtain⟨x2,op,na,nb,ta,tb,rfl,rfl,g1,g2,g3⟩:=hz
       exact Rs.some ⟨RepN.k2 g1 g2,g3⟩
      ·exact hz.elim
      ·obtain⟨x2,nd,rfl,g1,g3⟩:=hz
       exact Rs.some ⟨g1,g3⟩
    ·rw[hop,e]
     exact Rs.some ⟨hp,rfl⟩
theorem unary_step(hT:TokN N T){f q:Nat}(hE:HE N T pr f q)(b:ByteArray)(hb:b≠⟨#[]⟩)(lv:Nat)(hl1:1≤lv)(hl:lv≤8)(s:PS)(x:StT)(h:RS N T pr s x)(ho:unaryP T (f+1) b lv s≠ .out):
 Rs (unary (q+1) (b,((lv:Nat):Int),x)) (PN N T pr (unaryP T (f+1) b lv s)):=by
 show Rs ((t_unaryR (opens q) (expr q) (b,((lv:Nat):Int),x) some).map cv_unary) _
 refine Rs.map (P:=fun y=>PN N T pr (unaryP T (f+1) b lv s) (cv_unary y)) ?_ fun z hz=>hz
 unfold t_unaryR
 dsimp only
 have hop:unaryP T (f+1) b lv s=(opensP T b s).bind fun _ s1=>(exprP T f lv s1).bind fun n s2=>.ok (.node 19 0 b [n]) (closeP s2):=by rw[unaryP]
 refine PU.bind (opens_rs hT q h b hb) (fun s1 x1 e1 h1=>?_) (fun p c e hp=>?_)
 ·have o1:=opens_op (T:=T) b s
  rw[e1]at hop o1
  dsimp only[PR.bind]at hop
  refine PN.bind (hE f (Nat.le_refl _) lv hl1 hl s1 x1 h1 (PR.bind_out (hop▸ho))) (fun t s2 k n b m c x2 e hr hx=>?_) (fun p c e hp=>?_)
  ·have o2:=(expr_op (T:=T) f).1 lv s1
   rw[e]at hop o2
   rw[hop]
   have o1:s1.o=s.o+1:=o1
   have o2:s2.o=s1.o:=o2
   exact Rs.some ⟨RepN.k1 hr,hx.close hT (by omega)⟩
  ·rw[hop,e];exact Rs.some ⟨hp,rfl⟩
 ·rw[hop,e];exact Rs.some ⟨hp,rfl⟩
theorem prim_step(hT:TokN N T){f q:Nat}(hE:HE N T pr f q)(s:PS)(x:StT)(h:RS N T pr s x)(ho:primP T (f+1) s≠ .out):
 Rs (primary (q+1) x) (PN N T pr (primP T (f+1) s)):=by
 show Rs ((t_primaryR (next q) (literal q) (take q) (must q) (name q) (is q) (opens q) (expr q) x some).map cv_primary) _
 refine Rs.map (P:=fun y=>PN N T pr (primP T (f+1) s) (cv_primary y)) ?_ fun z hz=>hz
 unfold t_primaryR
 rw[next_eq q h]
 dsimp only[Option.bind_some]
 have hop:primP T (f+1) s=if(T s.p).k=2 then litP T s
  else if isP T w_true s=true then .ok (.node 16 1 ⟨#[]⟩ []) (adv s)
  else if isP T w_false s=true then .ok (.node 16 0 ⟨#[]⟩ []) (adv s)
  else if isP T w_tlm s=true then(mustP T sDot (adv s)).bind fun _ s1=>(nameP T s1).bind fun x s2=>.ok (.node 18 0 x []) s2
  else if isP T sLPar s=true then(opensP T sLPar s).bind fun _ s1=>(exprP T f 1 s1).bind fun n s2=>(mustP T sRPar s2).bind fun _ s3=>.ok n (closeP s3)
  else(nameP T s).bind fun x s1=>.ok (.node 17 0 x []) s1:=by rw[primP]
 by_cases hk:(T s.p).k=2
 ·rw[if_pos hk]at hop
  refine Rs.pos (by simp[hk]) ?_
  refine PN.bind (literal_rs hT q h) (fun t s1 k n b m c x1 e hr hx=>?_) (fun p c e hp=>?_)
  ·rw[hop,e];exact Rs.some ⟨hr,hx⟩
  ·rw[hop,e];exact Rs.some ⟨hp,rfl⟩
 ·rw[if_neg hk]at hop
  refine Rs.neg (by simp[hk]) ?_
  rw[take_eq q h]
  dsimp only[Option.bind_some]
  by_cases h1:isP T w_true s=true
  ·rw[if_pos h1]at hop⊢
   refine Rs.pos rfl ?_
   rw[hop]
   exact Rs.some ⟨RepN.leaf,RS.adv hT h (isP_ne (by decide) h1)⟩
  ·rw[if_neg h1]at hop⊢
   refine Rs.neg (by simp) ?_
   rw[take_eq q h]
   dsimp only[Option.bind_some]
   by_cases h2:isP T w_false s=true
   ·rw[if_pos h2]at hop⊢
    refine Rs.pos rfl ?_
    rw[hop]
    exact Rs.some ⟨RepN.leaf,RS.adv hT h (isP_ne (by decide) h2)⟩
   ·rw[if_neg h2]at hop⊢
    refine Rs.neg (by simp) ?_
    rw[take_eq q h]
    dsimp only[Option.bind_some]
    by_cases h3:isP T w_tlm s=true
    ·rw[if_pos h3]at hop⊢
     refine Rs.pos rfl ?_
     refine PU.bind (must_rs hT q (RS.adv hT h (isP_ne (by decide) h3)) sDot (by decide)) (fun s1 x1 e1 g1=>?_) (fun p c e hp=>?_)
     ·rw[e1]at hop
      dsimp only[PR.bind]at hop
      refine PX.bind (name_rs hT q g1) (fun a s2 x2 e2 g2=>?_) (fun p c e hp=>?_)
      ·rw[hop,e2]
       exact Rs.some ⟨RepN.leaf,g2⟩
      ·rw[hop,e];exact Rs.some ⟨hp,rfl⟩
     ·rw[hop,e];exact Rs.some ⟨hp,rfl⟩
    ·rw[if_neg h3]at hop⊢
     refine Rs.neg (by simp) ?_
     rw[is_eq q h]
     dsimp only[Option.bind_some]
     by_cases h4:isP T sLPar s=true
     ·rw[if_pos h4]at hop
      refine Rs.pos h4 ?_
      refine PU.bind (opens_rs hT q h sLPar (by decide)) (fun s1 x1 e1 g1=>?_) (fun p c e hp=>?_)
      ·have o1:=opens_op (T:=T) sLPar s
       rw[e1]at hop o1
       dsimp only[PR.bind]at hop
       refine PN.bind (hE f (Nat.le_refl _) 1 (by decide) (by decide) s1 x1 g1 (PR.bind_out (hop▸ho))) (fun t s2 k n b m c x2 e hr hx=>?_) (fun p c e hp=>?_)
       ·have o2:=(expr_op (T:=T) f).1 1 s1
        rw[e]at hop o2
        dsimp only[PR.bind]at hop
        refine PU.bind (must_rs hT q hx sRPar (by decide)) (fun s3 x3 e3 g3=>?_) (fun p c e hp=>?_)
        ·have o3:=must_op (T:=T) sRPar s2
         rw[e3]at hop o3
         have o1:s1.o=s.o+1:=o1
         have o2:s2.o=s1.o:=o2
         have o3:s3.o=s2.o:=o3
         rw[hop]
         exact Rs.some ⟨hr,g3.close hT (by omega)⟩
        ·rw[hop,e];exact Rs.some ⟨hp,rfl⟩
       ·rw[hop,e];exact Rs.some ⟨hp,rfl⟩
      ·rw[hop,e];exact Rs.some ⟨hp,rfl⟩
     ·rw[if_neg h4]at hop
      refine Rs.neg h4 ?_
      refine PX.bind (name_rs hT q h) (fun a s2 x2 e2 g2=>?_) (fun p c e hp=>?_)
      ·rw[hop,e2]
       exact Rs.some ⟨RepN.leaf,g2⟩
      ·rw[hop,e];exact Rs.some ⟨hp,rfl⟩
theorem exprs(hT:TokN N T):∀f q,f+1≤q→HE N T pr f q∧HU N T pr f q∧HP N T pr f q:=by
 intro f
 induction f with
 |zero=>
  intro q _
  refine⟨fun g hg lv _ _ s x _ ho=>?_,fun g hg b _ lv _ _ s x _ ho=>?_,fun g hg s x _ ho=>?_⟩
  all_goals
   obtain rfl:g=0:=by omega
  ·rw[exprP]at ho;exact absurd rfl ho
  ·rw[unaryP]at ho;exact absurd rfl ho
  ·rw[primP]at ho;exact absurd rfl ho
 |succ f ih=>
  intro q hq
  obtain⟨q,rfl⟩:∃k,q=k+1:=⟨q-1,by omega⟩
  obtain⟨a1,a2,a3⟩:=ih (q+1) (by omega)
  obtain⟨b1,b2,b3⟩:=ih q (by omega)
  refine⟨fun g hg lv h1 h2 s x h ho=>?_,fun g hg b hb lv h1 h2 s x h ho=>?_,fun g hg s x h ho=>?_⟩
  ·by_cases e:g≤f
   ·exact a1 g e lv h1 h2 s x h ho
   ·obtain rfl:g=f+1:=by omega
    exact expr_step hT (by omega) b1 b2 b3 lv h1 h2 s x h ho
  ·by_cases e:g≤f
   ·exact a2 g e b hb lv h1 h2 s x h ho
   ·obtain rfl:g=f+1:=by omega
    exact unary_step hT b1 b hb lv h1 h2 s x h ho
  ·by_cases e:g≤f
   ·exact a3 g e s x h ho
   ·obtain rfl:g=f+1:=by omega
    exact prim_step hT b1 s x h ho
end
end Go.Proofs.YtjfkkokeegpeiaaDoor
/- Statements without blocks are read as the plain parser reads them. -/
namespace Go.Proofs.YtjfkkokeegpeiaaDoor
open Go Go.Am Go.Proofs.Lx
set_option maxRecDepth 100000
theorem PR.bind_assoc{α β γ:Type}(r:PR α)(f:α→PS→PR β)(g:β→PS→PR γ):(r.bind f).bind g=r.bind fun a s=>(f a s).bind g:=by cases r<;>rfl
section
variable (T:Nat→Tkn)
def letQ(f:Nat)(s:PS):PR Tr:=(declP T s).bind fun a s1=>(mustP T sSet s1).bind fun _ s2=>(exprP T f 1 s2).bind fun n s3=>.ok (.node 1 0 a [n]) s3
def asgQ(f:Nat)(s:PS):PR Tr:=(nameP T s).bind fun a s1=>(mustP T sSet s1).bind fun _ s2=>(exprP T f 1 s2).bind fun n s3=>.ok (.node 2 0 a [n]) s3
def awaitQ(f:Nat)(s:PS):PR Tr:=(exprP T f 1 s).bind fun c s1=>(mustP T w_within s1).bind fun _ s2=>(litP T s2).bind fun n s3=>.ok (.node 6 0 ⟨#[]⟩ [c,n]) s3
def amtQ(k:Int)(s:PS):PR Tr:=(litP T s).bind fun n s2=>.ok (.node k 0 ⟨#[]⟩ [n]) s2
def sglQ(f:Nat)(k:Int)(s:PS):PR Tr:=(exprP T f 1 s).bind fun n s2=>.ok (.node k 0 ⟨#[]⟩ [n]) s2
def nmbQ(k hi:Int)(s:PS):PR Tr:=(numP T 0 hi s).bind fun n s1=>.ok (.node k n ⟨#[]⟩ []) s1
def useQ(k:Int)(b:ByteArray)(s:PS):PR Tr:=(numP T 0 7 s).bind fun n s1=>(mustP T b s1).bind fun _ s2=>(litP T s2).bind fun m s3=>.ok (.node k n ⟨#[]⟩ [m]) s3
end
theorem let_eq(T:Nat→Tkn)(f:Nat)(s:PS):((declP T s).bind fun x s1=>setP T f 1 x s1)=(letQ T f s).bind (Lx.endP T):=by
 simp only[letQ,setP,PR.bind_assoc];rfl
theorem asg_eq(T:Nat→Tkn)(f:Nat)(s:PS):((nameP T s).bind fun x s1=>setP T f 2 x s1)=(asgQ T f s).bind (Lx.endP T):=by
 simp only[asgQ,setP,PR.bind_assoc];rfl
theorem await_eq(T:Nat→Tkn)(f:Nat)(s:PS):awaitP T f s=(awaitQ T f s).bind (Lx.endP T):=by
 simp only[awaitQ,awaitP,PR.bind_assoc];rfl
theorem amt_eq(T:Nat→Tkn)(k:Int)(s:PS):amtP T k s=(amtQ T k s).bind (Lx.endP T):=by
 simp only[amtQ,amtP,PR.bind_assoc];rfl
theorem sgl_eq(T:Nat→Tkn)(f:Nat)(k:Int)(s:PS):oneP T f k s=(sglQ T f k s).bind (Lx.endP T):=by
 simp only[sglQ,oneP,PR.bind_assoc];rfl
theorem nmb_eq(T:Nat→Tkn)(k hi:Int)(s:PS):nmbP T k hi s=(nmbQ T k hi s).bind (Lx.endP T):=by
 simp only[nmbQ,nmbP,PR.bind_assoc];rfl
theorem use_eq(T:Nat→Tkn)(k:Int)(b:ByteArray)(s:PS):useP T k b s=(useQ T k b s).bind (Lx.endP T):=by
 simp only[useQ,useP,PR.bind_assoc];rfl
section
variable {N:Nat} {T:Nat→Tkn} {pr:List ByteArray} {s:PS} {x:StT}
theorem assign_rs(hT:TokN N T){f q:Nat}(hE:HE N T pr f q)(h:RS N T pr s x)(ho:asgQ T f s≠ .out):Rs (assign q x) (PN N T pr (asgQ T f s)):=by
 unfold assign
 refine Rs.map (P:=fun y=>PN N T pr (asgQ T f s) (cv_assign y)) ?_ fun z hz=>hz
 unfold assignR t_assignR
 have hop:asgQ T f s=(nameP T s).bind fun a s1=>(mustP T sSet s1).bind fun _ s2=>(exprP T f 1 s2).bind fun n s3=>.ok (.node 2 0 a [n]) s3:=rfl
 refine PX.bind (name_rs hT q h) (fun a s1 x1 e1 g1=>?_) (fun p c e hp=>?_)
 ·rw[e1]at hop
  dsimp only[PR.bind]at hop
  refine PU.bind (must_rs hT q g1 sSet (by decide)) (fun s2 x2 e2 g2=>?_) (fun p c e hp=>?_)
  ·rw[e2]at hop
   dsimp only[PR.bind]at hop
   refine PN.bind (hE f (Nat.le_refl _) 1 (by decide) (by decide) s2 x2 g2 (PR.bind_out (hop▸ho))) (fun t s3 k n b m c x3 e hr hx=>?_) (fun p c e hp=>?_)
   ·rw[hop,e];exact Rs.some ⟨RepN.k1 hr,hx⟩
   ·(rw[hop,e];exact Rs.some ⟨hp,rfl⟩)
  ·(rw[hop,e];exact Rs.some ⟨hp,rfl⟩)
 ·(rw[hop,e];exact Rs.some ⟨hp,rfl⟩)
theorem let_rs(hT:TokN N T){f q:Nat}(hq:20≤q)(hE:HE N T pr f q)(h:RS N T pr s x)(hne:(T s.p).t≠⟨#[]⟩∨(T s.p).k≠0)(ho:letQ T f (adv s)≠ .out):Rs (letS q x) (PN N T pr (letQ T f (adv s))):=by
 unfold letS
 refine Rs.map (P:=fun y=>PN N T pr (letQ T f (adv s)) (cv_letS y)) ?_ fun z hz=>hz
 unfold letSR t_letSR
 have hop:letQ T f (adv s)=(declP T (adv s)).bind fun a s1=>(mustP T sSet s1).bind fun _ s2=>(exprP T f 1 s2).bind fun n s3=>.ok (.node 1 0 a [n]) s3:=rfl
 refine PX.bind (declare_rs hT q hq (h.adv hT hne)) (fun a s1 x1 e1 g1=>?_) (fun p c e hp=>?_)
 ·rw[e1]at hop
  dsimp only[PR.bind]at hop
  refine PU.bind (must_rs hT q g1 sSet (by decide)) (fun s2 x2 e2 g2=>?_) (fun p c e hp=>?_)
  ·rw[e2]at hop
   dsimp only[PR.bind]at hop
   refine PN.bind (hE f (Nat.le_refl _) 1 (by decide) (by decide) s2 x2 g2 (PR.bind_out (hop▸ho))) (fun t s3 k n b m c x3 e hr hx=>?_) (fun p c e hp=>?_)
   ·rw[hop,e];exact Rs.some ⟨RepN.k1 hr,hx⟩
   ·(rw[hop,e];exact Rs.some ⟨hp,rfl⟩)
  ·(rw[hop,e];exact Rs.some ⟨hp,rfl⟩)
 ·(rw[hop,e];exact Rs.some ⟨hp,rfl⟩)
theorem RepN.two{k n:Int}{s:ByteArray}{ta tb:Tr}{a b:NodeT}(ha:RepN ta a)(hb:RepN tb b):RepN (.node k n s [ta,tb]) (k,n,s,2,fun j=>[i64 (if j<1 then a.1 else b.1),i64 (if j<1 then a.2.1 else b.2.1),st (if j<1 then a.2.2.1 else b.2.2.1),.ro 4 (if j<1 then a.2.2.2.1 else b.2.2.2.1) fun i=>if j<1 then a.2.2.2.2 i else b.2.2.2.2 i]):=by
 simp only[RepN,RepL,List.length_cons,List.length_nil]
 exact⟨trivial,trivial,trivial,trivial,⟨a,rfl,ha⟩,⟨b,rfl,hb⟩,trivial⟩
theorem await_rs(hT:TokN N T){f q:Nat}(hE:HE N T pr f q)(h:RS N T pr s x)(hne:(T s.p).t≠⟨#[]⟩∨(T s.p).k≠0)(ho:awaitQ T f (adv s)≠ .out):Rs (await q x) (PN N T pr (awaitQ T f (adv s))):=by
 unfold await
 refine Rs.map (P:=fun y=>PN N T pr (awaitQ T f (adv s)) (cv_await y)) ?_ fun z hz=>hz
 unfold awaitR t_awaitR
 have hop:awaitQ T f (adv s)=(exprP T f 1 (adv s)).bind fun c s1=>(mustP T w_within s1).bind fun _ s2=>(litP T s2).bind fun n s3=>.ok (.node 6 0 ⟨#[]⟩ [c,n]) s3:=rfl
 refine PN.bind (hE f (Nat.le_refl _) 1 (by decide) (by decide) (adv s) _ (h.adv hT hne) (PR.bind_out ho)) (fun t s1 k n b m c x1 e1 hr1 g1=>?_) (fun p c e hp=>?_)
 ·rw[e1]at hop
  dsimp only[PR.bind]at hop
  refine PU.bind (must_rs hT q g1 w_within (by decide)) (fun s2 x2 e2 g2=>?_) (fun p c e hp=>?_)
  ·rw[e2]at hop
   dsimp only[PR.bind]at hop
   refine PN.bind (literal_rs hT q g2) (fun t2 s3 k2 n2 b2 m2 c2 x3 e hr hx=>?_) (fun p c e hp=>?_)
   ·rw[hop,e];exact Rs.some ⟨RepN.two hr1 hr,hx⟩
   ·(rw[hop,e];exact Rs.some ⟨hp,rfl⟩)
  ·(rw[hop,e];exact Rs.some ⟨hp,rfl⟩)
 ·(rw[hop,e];exact Rs.some ⟨hp,rfl⟩)
theorem amount_rs(hT:TokN N T)(q:Nat)(h:RS N T pr s x)(hne:(T s.p).t≠⟨#[]⟩∨(T s.p).k≠0):Rs (amount q x) (PN N T pr (amtQ T (if isP T w_keep s=true then 11 else 5) (adv s))):=by
 unfold amount
 refine Rs.map (P:=fun y=>PN N T pr (amtQ T (if isP T w_keep s=true then 11 else 5) (adv s)) (cv_amount y)) ?_ fun z hz=>hz
 unfold amountR t_amountR
 rw[is_eq q h]
 dsimp only[Option.bind_some]
 by_cases hi:isP T w_keep s=true
 ·refine Rs.pos hi ?_
  rw[if_pos hi]
  have hop:amtQ T 11 (adv s)=(litP T (adv s)).bind fun n s2=>.ok (.node 11 0 ⟨#[]⟩ [n]) s2:=rfl
  refine PN.bind (literal_rs hT q (h.adv hT hne)) (fun t2 s3 k2 n2 b2 m2 c2 x3 e hr hx=>?_) (fun p c e hp=>?_)
  ·rw[hop,e];exact Rs.some ⟨RepN.k1 hr,hx⟩
  ·(rw[hop,e];exact Rs.some ⟨hp,rfl⟩)
 ·refine Rs.neg hi ?_
  rw[if_neg hi]
  have hop:amtQ T 5 (adv s)=(litP T (adv s)).bind fun n s2=>.ok (.node 5 0 ⟨#[]⟩ [n]) s2:=rfl
  refine PN.bind (literal_rs hT q (h.adv hT hne)) (fun t2 s3 k2 n2 b2 m2 c2 x3 e hr hx=>?_) (fun p c e hp=>?_)
  ·rw[hop,e];exact Rs.some ⟨RepN.k1 hr,hx⟩
  ·(rw[hop,e];exact Rs.some ⟨hp,rfl⟩)
theorem single_rs(hT:TokN N T){f q:Nat}(hE:HE N T pr f q)(h:RS N T pr s x)(hne:(T s.p).t≠⟨#[]⟩∨(T s.p).k≠0)(ho:exprP T f 1 (adv s)≠ .out):Rs (single q x) (PN N T pr (sglQ T f (if isP T w_point s=true then 8 else 7) (adv s))):=by
 unfold single
 refine Rs.map (P:=fun y=>PN N T pr (sglQ T f (if isP T w_point s=true then 8 else 7) (adv s)) (cv_single y)) ?_ fun z hz=>hz
 unfold singleR t_singleR
 rw[is_eq q h]
 dsimp only[Option.bind_some]
 by_cases hi:isP T w_point s=true
 ·refine Rs.pos hi ?_
  rw[if_pos hi]
  have hop:sglQ T f 8 (adv s)=(exprP T f 1 (adv s)).bind fun n s2=>.ok (.node 8 0 ⟨#[]⟩ [n]) s2:=rfl
  refine PN.bind (hE f (Nat.le_refl _) 1 (by decide) (by decide) (adv s) _ (h.adv hT hne) ho) (fun t2 s3 k2 n2 b2 m2 c2 x3 e hr hx=>?_) (fun p c e hp=>?_)
  ·rw[hop,e];exact Rs.some ⟨RepN.k1 hr,hx⟩
  ·(rw[hop,e];exact Rs.some ⟨hp,rfl⟩)
 ·refine Rs.neg hi ?_
  rw[if_neg hi]
  have hop:sglQ T f 7 (adv s)=(exprP T f 1 (adv s)).bind fun n s2=>.ok (.node 7 0 ⟨#[]⟩ [n]) s2:=rfl
  refine PN.bind (hE f (Nat.le_refl _) 1 (by decide) (by decide) (adv s) _ (h.adv hT hne) ho) (fun t2 s3 k2 n2 b2 m2 c2 x3 e hr hx=>?_) (fun p c e hp=>?_)
  ·rw[hop,e];exact Rs.some ⟨RepN.k1 hr,hx⟩
  ·(rw[hop,e];exact Rs.some ⟨hp,rfl⟩)
def numbQ(T:Nat→Tkn)(s:PS):PR Tr:=if isP T w_emit s=true then nmbQ T 12 99 (adv s)else if isP T w_abort s=true then nmbQ T 13 999 (adv s)else if isP T w_use s=true then useQ T 9 w_for (adv s)else useQ T 10 sComma (adv s)
theorem use_rs(hT:TokN N T)(q:Nat)(h:RS N T pr s x)(hne:(T s.p).t≠⟨#[]⟩∨(T s.p).k≠0)(kd:Int)(bb:ByteArray)(hb:bb≠⟨#[]⟩):
 Rs ((number q (0,7,w (x.1+1),x.2)).bind fun z=>Sum.elim (fun za=>(must q (bb,za.2)).bind fun y=>Sum.elim (fun ya=>(literal q ya).bind fun v=>Sum.elim (fun va=>(some (.inr (.inl (kd,za.1,(⟨#[]⟩:ByteArray),va))):Option g_numberedR)) (fun vb=>some (.inr (.inr vb))) v) (fun yb=>some (.inr (.inr yb))) y) (fun zb=>some (.inr (.inr zb))) z) (fun y=>PN N T pr (useQ T kd bb (adv s)) (cv_numbered y)):=by
 have hop:useQ T kd bb (adv s)=(numP T 0 7 (adv s)).bind fun n s1=>(mustP T bb s1).bind fun _ s2=>(litP T s2).bind fun m s3=>.ok (.node kd n ⟨#[]⟩ [m]) s3:=rfl
 refine PX.bind (number_rs hT q (h.adv hT hne) 0 7) (fun a s1 x1 e1 g1=>?_) (fun p c e hp=>?_)
 ·rw[e1]at hop
  dsimp only[PR.bind]at hop
  refine PU.bind (must_rs hT q g1 bb hb) (fun s2 x2 e2 g2=>?_) (fun p c e hp=>?_)
  ·rw[e2]at hop
   dsimp only[PR.bind]at hop
   refine PN.bind (literal_rs hT q g2) (fun t2 s3 k2 n2 b2 m2 c2 x3 e hr hx=>?_) (fun p c e hp=>?_)
   ·rw[hop,e];exact Rs.some ⟨RepN.k1 hr,hx⟩
   ·(rw[hop,e];exact Rs.some ⟨hp,rfl⟩)
  ·(rw[hop,e];exact Rs.some ⟨hp,rfl⟩)
 ·(rw[hop,e];exact Rs.some ⟨hp,rfl⟩)
theorem nmb_rs(hT:TokN N T)(q:Nat)(h:RS N T pr s x)(hne:(T s.p).t≠⟨#[]⟩∨(T s.p).k≠0)(kd hi:Int):
 Rs ((number q (0,hi,w (x.1+1),x.2)).bind fun z=>Sum.elim (fun za=>(some (.inl (kd,za.1,(⟨#[]⟩:ByteArray),za.2)):Option g_numberedR)) (fun zb=>some (.inr (.inr zb))) z) (fun y=>PN N T pr (nmbQ T kd hi (adv s)) (cv_numbered y)):=by
 have hop:nmbQ T kd hi (adv s)=(numP T 0 hi (adv s)).bind fun n s1=>.ok (.node kd n ⟨#[]⟩ []) s1:=rfl
 refine PX.bind (number_rs hT q (h.adv hT hne) 0 hi) (fun a s1 x1 e1 g1=>?_) (fun p c e hp=>?_)
 ·rw[hop,e1]
  exact Rs.some ⟨RepN.leaf,g1⟩
 ·(rw[hop,e];exact Rs.some ⟨hp,rfl⟩)
theorem numbered_rs(hT:TokN N T)(q:Nat)(h:RS N T pr s x)(hne:(T s.p).t≠⟨#[]⟩∨(T s.p).k≠0):Rs (numbered q x) (PN N T pr (numbQ T s)):=by
 unfold numbered
 refine Rs.map (P:=fun y=>PN N T pr (numbQ T s) (cv_numbered y)) ?_ fun z hz=>hz
 unfold numberedR t_numberedR numbQ
 rw[next_eq q h]
 dsimp only[Option.bind_some]
 rw[tl_dec,tl_dec,tl_dec]
 by_cases h1:isP T w_emit s=true
 ·rw[if_pos h1]
  exact Rs.pos h1 (nmb_rs hT q h hne 12 99)
 ·rw[if_neg h1]
  refine Rs.neg h1 ?_
  by_cases h2:isP T w_abort s=true
  ·rw[if_pos h2]
   exact Rs.pos h2 (nmb_rs hT q h hne 13 999)
  ·rw[if_neg h2]
   refine Rs.neg h2 ?_
   by_cases h3:isP T w_use s=true
   ·rw[if_pos h3]
    exact Rs.pos h3 (use_rs hT q h hne 9 w_for (by decide))
   ·rw[if_neg h3]
    exact Rs.neg h3 (use_rs hT q h hne 10 sComma (by decide))
end
end Go.Proofs.YtjfkkokeegpeiaaDoor
/- Blocks are read as the plain parser reads them. -/
namespace Go.Proofs.YtjfkkokeegpeiaaDoor
open Go Go.Am Go.Proofs.Lx
set_option maxRecDepth 100000
section
variable {T:Nat→Tkn}
theorem Op.of{α:Type}{o o':Nat}{r:PR α}(h:Op o r)(e:o=o'):Op o' r:=e▸h
theorem Op.ite{α:Type}{o:Nat}{c:Prop}[Decidable c]{a b:PR α}(h1:Op o a)(h2:Op o b):Op o (if c then a else b):=by
 by_cases h:c
 ·rw[if_pos h];exact h1
 ·rw[if_neg h];exact h2
theorem decl_op(s:PS):Op s.o (declP T s):=by
 unfold declP
 refine(name_op s).bind fun a s1 e=>?_
 repeat' split
 all_goals first|trivial|exact e
theorem end_op(n:Tr)(s:PS):Op s.o (Lx.endP T n s):=(must_op sSemi s).bind fun _ s1 e=>e
theorem letQ_op(f:Nat)(s:PS):Op s.o (letQ T f s):=(decl_op s).bind fun a s1 e1=>(must_op sSet s1).bind fun _ s2 e2=>((expr_op (T:=T) f).1 1 s2).bind fun n s3 e3=>by show s3.o=s.o;omega
theorem asgQ_op(f:Nat)(s:PS):Op s.o (asgQ T f s):=(name_op s).bind fun a s1 e1=>(must_op sSet s1).bind fun _ s2 e2=>((expr_op (T:=T) f).1 1 s2).bind fun n s3 e3=>by show s3.o=s.o;omega
theorem awaitQ_op(f:Nat)(s:PS):Op s.o (awaitQ T f s):=((expr_op (T:=T) f).1 1 s).bind fun n s1 e1=>(must_op w_within s1).bind fun _ s2 e2=>(lit_op s2).bind fun m s3 e3=>by show s3.o=s.o;omega
theorem amtQ_op(k:Int)(s:PS):Op s.o (amtQ T k s):=(lit_op s).bind fun n s1 e1=>e1
theorem sglQ_op(f:Nat)(k:Int)(s:PS):Op s.o (sglQ T f k s):=((expr_op (T:=T) f).1 1 s).bind fun n s1 e1=>e1
theorem nmbQ_op(k hi:Int)(s:PS):Op s.o (nmbQ T k hi s):=(num_op 0 hi s).bind fun n s1 e1=>e1
theorem useQ_op(k:Int)(b:ByteArray)(s:PS):Op s.o (useQ T k b s):=(num_op 0 7 s).bind fun n s1 e1=>(must_op b s1).bind fun _ s2 e2=>(lit_op s2).bind fun m s3 e3=>by show s3.o=s.o;omega
theorem semi_op{r:PR Tr}{o:Nat}(h:Op o r):Op o (r.bind (Lx.endP T)):=h.bind fun n s e=>(end_op n s).of e
theorem stmt_op:∀f,(∀s,Op s.o (blockP T f s))∧(∀s,Op s.o (stmtsP T f s))∧(∀s,Op s.o (stmtP T f s)):=by
 intro f
 induction f with
 |zero=>exact⟨fun _=>by rw[blockP];trivial,fun _=>by rw[stmtsP];trivial,fun _=>by rw[stmtP];trivial⟩
 |succ f ih=>
  obtain⟨h1,h2,h3⟩:=ih
  refine⟨fun s=>?_,fun s=>?_,fun s=>?_⟩
  ·rw[blockP]
   refine(opens_op sLBr s).bind fun _ s1 e1=>(h2 s1).bind fun l s2 e2=>?_
   show s2.o-1=s.o
   omega
  ·rw[stmtsP]
   split
   ·rfl
   ·exact(h3 s).bind fun n s1 e1=>(h2 s1).bind fun l s2 e2=>by show s2.o=s.o;omega
  ·rw[stmtP]
   refine Op.ite ?_ ?_
   ·rw[let_eq];exact semi_op (letQ_op f (adv s))
   refine Op.ite ?_ ?_
   ·refine((expr_op (T:=T) f).1 1 (adv s)).bind fun c s1 e1=>(h1 s1).bind fun y s2 e2=>?_
    have e1:s1.o=s.o:=e1
    refine Op.ite ?_ ?_
    ·exact(h1 (adv s2)).bind fun n s3 e3=>by
      have e3:s3.o=s2.o:=e3
      show s3.o=s.o
      omega
    ·show s2.o=s.o
     omega
   refine Op.ite ?_ ?_
   ·exact(num_op 1 100 (adv s)).bind fun n s1 e1=>(h1 s1).bind fun y s2 e2=>by
     have e1:s1.o=s.o:=e1
     show s2.o=s.o
     omega
   refine Op.ite ?_ ?_
   ·rw[await_eq];exact semi_op (awaitQ_op f (adv s))
   refine Op.ite ?_ ?_
   ·rw[amt_eq];exact semi_op (amtQ_op 5 (adv s))
   refine Op.ite ?_ ?_
   ·rw[amt_eq];exact semi_op (amtQ_op 11 (adv s))
   refine Op.ite ?_ ?_
   ·rw[sgl_eq];exact semi_op (sglQ_op f 7 (adv s))
   refine Op.ite ?_ ?_
   ·rw[sgl_eq];exact semi_op (sglQ_op f 8 (adv s))
   refine Op.ite ?_ ?_
   ·rw[use_eq];exact semi_op (useQ_op 9 w_for (adv s))
   refine Op.ite ?_ ?_
   ·rw[use_eq];exact semi_op (useQ_op 10 sComma (adv s))
   refine Op.ite ?_ ?_
   ·rw[nmb_eq];exact semi_op (nmbQ_op 12 99 (adv s))
   refine Op.ite ?_ ?_
   ·rw[nmb_eq];exact semi_op (nmbQ_op 13 999 (adv s))
   ·rw[asg_eq];exact semi_op (asgQ_op f s)
end
abbrev Z0:Type:=Nat×(Nat→Int)×(Nat→Int)×(Nat→ByteArray)×(Nat→Int)×Int×Int×Nat×Nat×(Nat→ByteArray)×(Nat→ByteArray)
abbrev AccT:Type:=(Nat→Int)×(Nat→Int)×(Nat→ByteArray)×(Nat→Nat)×(Nat→Nat→List V)×Nat
def z0(x:StT):Z0:=(x.2.2.1,x.2.2.2.1,x.2.2.2.2.1,x.2.2.2.2.2.1,x.2.2.2.2.2.2.1,x.1,x.2.1,x.2.2.2.2.2.2.2.1,x.2.2.2.2.2.2.2.2.2.1,x.2.2.2.2.2.2.2.2.1,x.2.2.2.2.2.2.2.2.2.2)
def za(x:StT)(a:AccT):Nat×(Nat→Int)×(Nat→Int)×(Nat→ByteArray)×(Nat→Int)×Int×Int×Nat×Nat×(Nat→ByteArray)×(Nat→ByteArray)×AccT:=(x.2.2.1,x.2.2.2.1,x.2.2.2.2.1,x.2.2.2.2.2.1,x.2.2.2.2.2.2.1,x.1,x.2.1,x.2.2.2.2.2.2.2.1,x.2.2.2.2.2.2.2.2.2.1,x.2.2.2.2.2.2.2.2.1,x.2.2.2.2.2.2.2.2.2.2,a)
def zb(x:StT)(a:AccT):Nat×(Nat→Int)×(Nat→Int)×(Nat→ByteArray)×(Nat→Int)×Int×Int×Nat×Nat×(Nat→ByteArray)×(Nat→ByteArray)×Nat×(Nat→Int)×(Nat→Int)×(Nat→ByteArray)×(Nat→Nat)×(Nat→Nat→List V):=(x.2.2.1,x.2.2.2.1,x.2.2.2.2.1,x.2.2.2.2.2.1,x.2.2.2.2.2.2.1,x.1,x.2.1,x.2.2.2.2.2.2.2.1,x.2.2.2.2.2.2.2.2.2.1,x.2.2.2.2.2.2.2.2.1,x.2.2.2.2.2.2.2.2.2.2,a.2.2.2.2.2,a.1,a.2.1,a.2.2.1,a.2.2.2.1,a.2.2.2.2.1)
def RepA(l:List Tr)(a:AccT):Prop:=a.2.2.2.2.2=l.length∧∀j t,l[j]? =some t→RepN t (a.1 j,a.2.1 j,a.2.2.1 j,a.2.2.2.1 j,a.2.2.2.2.1 j)
theorem repL_of{f:Nat→List V}:∀(l:List Tr) (i:Nat),(∀j t,l[j]? =some t→∃y:NodeT,f (i+j)=[i64 y.1,i64 y.2.1,st y.2.2.1,.ro 4 y.2.2.2.1 y.2.2.2.2]∧RepN t y)→RepL l f i
 | [],_,_=>by simp[RepL]
 |t::l,i,h=>by
  simp only[RepL]
  refine⟨h 0 t rfl,repL_of l (i+1) fun j t' e=>?_⟩
  have:=h (j+1) t' (by simpa using e)
  rwa [show i+(j+1)=i+1+j by omega]at this
theorem RepA.node{l:List Tr}{a:AccT}(h:RepA l a):RepN (.node 14 0 ⟨#[]⟩ l) (14,0,⟨#[]⟩,a.2.2.2.2.2,fun j=>[i64 (a.1 j),i64 (a.2.1 j),st (a.2.2.1 j),.ro 4 (a.2.2.2.1 j) (a.2.2.2.2.1 j)]):=by
 simp only[RepN]
 refine⟨trivial,trivial,trivial,h.1,repL_of l 0 fun j t e=>⟨(a.1 j,a.2.1 j,a.2.2.1 j,a.2.2.2.1 j,a.2.2.2.2.1 j),by rw[Nat.zero_add],h.2 j t e⟩⟩
def acc1(y:NodeT):AccT:=(fun _=>y.1,fun _=>y.2.1,fun _=>y.2.2.1,fun _=>y.2.2.2.1,fun _=>y.2.2.2.2,1)
theorem acc1_rep{t:Tr}{y:NodeT}(h:RepN t y):RepA [t] (acc1 y):=by
 refine⟨rfl,fun j t' e=>?_⟩
 cases j with
 |zero=>simp only[List.getElem?_cons_zero,Option.some.injEq]at e;subst e;exact h
 |succ j=>simp at e
def accN(a:AccT)(y:NodeT):AccT:=(fun j=>if j<a.2.2.2.2.2 then a.1 j else y.1,fun j=>if j<a.2.2.2.2.2 then a.2.1 j else y.2.1,fun j=>if j<a.2.2.2.2.2 then a.2.2.1 j else y.2.2.1,fun j=>if j<a.2.2.2.2.2 then a.2.2.2.1 j else y.2.2.2.1,fun j i=>if j<a.2.2.2.2.2 then a.2.2.2.2.1 j i else y.2.2.2.2 i,a.2.2.2.2.2+1)
theorem accN_rep{l:List Tr}{a:AccT}{t:Tr}{y:NodeT}(h:RepA l a)(g:RepN t y):RepA (l++[t]) (accN a y):=by
 refine⟨by simp[accN,h.1],fun j t' e=>?_⟩
 by_cases hj:j<l.length
 ·rw[List.getElem?_append_left hj]at e
  have:=h.2 j t' e
  simp only[accN,h.1,hj,if_true]
  exact this
 ·rw[List.getElem?_append_right (by omega)]at e
  simp only[accN,h.1,hj,if_false]
  cases hk:j-l.length with
  |zero=>rw[hk]at e;simp only[List.getElem?_cons_zero,Option.some.injEq]at e;subst e;exact g
  |succ n=>rw[hk]at e;simp at e
section
variable {N:Nat} {T:Nat→Tkn} {pr:List ByteArray}
def BL(N:Nat)(T:Nat→Tkn)(pr:List ByteArray)(acc:List Tr):PR (List Tr)→blockR_l0_g→Prop
 | .ok l s,.inr (.inl z)=>acc++l=[]∧∃x,z=z0 x∧RS N T pr s x
 | .ok l s,.inr (.inr z)=>∃x a,z=zb x a∧RepA (acc++l) a∧RS N T pr s x
 | .err p c,.inl e=>p<N∧e=((T p).a,c)
 |_,_=>False
def BS(acc:List Tr)(x:StT):blockR_l0_a→Prop
 | .inl y=>acc=[]∧y=z0 x
 | .inr y=>∃a,y=za x a∧RepA acc a
def HS(N:Nat)(T:Nat→Tkn)(pr:List ByteArray)(f q:Nat):Prop:=∀g,g≤f→∀(s:PS) (x:StT),RS N T pr s x→stmtP T g s≠ .out→Rs (statement q x) (PN N T pr (stmtP T g s))
def HB(N:Nat)(T:Nat→Tkn)(pr:List ByteArray)(f q:Nat):Prop:=∀g,g≤f→∀(s:PS) (x:StT),RS N T pr s x→blockP T g s≠ .out→Rs (block q x) (PN N T pr (blockP T g s))
theorem stmts_loop(hT:TokN N T){f q:Nat}(hS:HS N T pr f q)(x0:StT):∀(g:Nat),g≤f→∀(m:Nat),g<m→∀(acc:List Tr) (s:PS) (x:StT) (y:blockR_l0_a),BS acc x y→acc.length+g≤1000000000→RS N T pr s x→stmtsP T g s≠ .out→
 Rs (blockR_l0 (opens q) (take q) (statement q) m x0 y) (BL N T pr acc (stmtsP T g s)):=by
 intro g
 induction g with
 |zero=>intro _ m _ acc s x y _ _ _ ho;rw[stmtsP]at ho;exact absurd rfl ho
 |succ g ih=>
  intro hg m hm acc s x y hy hb h ho
  obtain⟨m,rfl⟩:∃k,m=k+1:=⟨m-1,by omega⟩
  unfold blockR_l0
  refine Rs.step3 fun Q hQ=>?_
  have h0:=h
  obtain⟨v,u,rfl,h1,h2,h3,h4,h5,h6⟩:=h
  have hop:stmtsP T (g+1) s=if isP T sRBr s=true then .ok [] (adv s)else(stmtP T g s).bind fun n s1=>(stmtsP T g s1).bind fun l s2=>.ok (n::l) s2:=by rw[stmtsP]
  rcases y with y|y
  ·obtain⟨rfl,rfl⟩:=hy
   rw[Sum.elim_inl]
   unfold blockR_l0_t0
   dsimp only[z0]
   rw[take_eq q (s:=s) (pr:=pr) (N:=N) (T:=T) h0]
   dsimp only[Option.bind_some]
   by_cases hi:isP T sRBr s=true
   ·rw[if_pos hi]at hop⊢
    refine Rs.neg (by simp) (Rs.some ?_)
    show BL N T pr [] (stmtsP T (g+1) s) _
    rw[hop]
    exact⟨rfl,_,rfl,h0.adv hT (isP_ne (by decide) hi)⟩
   ·rw[if_neg hi]at hop⊢
    refine Rs.pos (by simp) ?_
    refine PN.bind (hS g (by omega) s _ h0 (PR.bind_out (hop▸ho))) (fun t s2 k1 n1 b1 m1 c1 x1 e hr hx=>?_) (fun p c e hp=>?_)
    ·rw[e]at hop
     dsimp only[PR.bind]at hop
     refine Rs.some (hQ _ ?_)
     have ho2:=PR.bind_out (hop▸ho)
     refine(ih (by omega) m (by omega) [t] s2 x1 (.inr (za x1 (acc1 (k1,n1,b1,m1,c1)))) ⟨_,rfl,acc1_rep hr⟩ (by simp;omega) hx ho2).mono fun z hz=>?_
     rw[hop]
     cases hr2:stmtsP T g s2 with
     |out=>exact absurd hr2 ho2
     |err p c=>rw[hr2]at hz;rcases z with z|z|z<;>exact hz
     |ok l s3=>
      rw[hr2]at hz
      rcases z with z|z|z
      ·exact hz.elim
      ·exact absurd hz.1 (by simp)
      ·exact hz
    ·refine Rs.some ?_
     show BL N T pr [] (stmtsP T (g+1) s) _
     rw[hop,e]
     exact⟨hp,rfl⟩
  ·obtain⟨a,rfl,ha⟩:=hy
   rw[Sum.elim_inr]
   unfold blockR_l0_t1
   dsimp only[za]
   rw[take_eq q (s:=s) (pr:=pr) (N:=N) (T:=T) h0]
   dsimp only[Option.bind_some]
   by_cases hi:isP T sRBr s=true
   ·rw[if_pos hi]at hop⊢
    refine Rs.neg (by simp) (Rs.some ?_)
    show BL N T pr acc (stmtsP T (g+1) s) _
    rw[hop]
    exact⟨_,a,rfl,by rw[List.append_nil];exact ha,h0.adv hT (isP_ne (by decide) hi)⟩
   ·rw[if_neg hi]at hop⊢
    refine Rs.pos (by simp) ?_
    refine PN.bind (hS g (by omega) s _ h0 (PR.bind_out (hop▸ho))) (fun t s2 k1 n1 b1 m1 c1 x1 e hr hx=>?_) (fun p c e hp=>?_)
    ·rw[e]at hop
     dsimp only[PR.bind]at hop
     have hal:=ha.1
     refine Rs.pos ⟨by unfold roomBound;omega,by unfold maxLen;omega,Nat.le_refl _⟩ (Rs.some (hQ _ ?_))
     have ho2:=PR.bind_out (hop▸ho)
     refine(ih (by omega) m (by omega) (acc++[t]) s2 x1 (.inr (za x1 (accN a (k1,n1,b1,m1,c1)))) ⟨_,rfl,accN_rep ha hr⟩ (by simp;omega) hx ho2).mono fun z hz=>?_
     rw[hop]
     cases hr2:stmtsP T g s2 with
     |out=>exact absurd hr2 ho2
     |err p c=>rw[hr2]at hz;rcases z with z|z|z<;>exact hz
     |ok l s3=>
      rw[hr2]at hz
      rcases z with z|z|z
      ·exact hz.elim
      ·exact absurd hz.1 (by simp)
      ·obtain⟨x2,a2,e1,e2,e3⟩:=hz
       exact⟨x2,a2,e1,by simpa using e2,e3⟩
    ·refine Rs.some ?_
     show BL N T pr acc (stmtsP T (g+1) s) _
     rw[hop,e]
     exact⟨hp,rfl⟩
end
end Go.Proofs.YtjfkkokeegpeiaaDoor
/- Statements are read as the plain parser reads them. -/
namespace Go.Proofs.YtjfkkokeegpeiaaDoor
open Go Go.Am Go.Proofs.Lx
set_option maxRecDepth 100000
section
variable (T:Nat→Tkn)
def brQ(f:Nat)(s:PS):PR Tr:=(exprP T f 1 s).bind fun c s1=>(blockP T f s1).bind fun y s2=>
 if isP T w_else s2=true then(blockP T f (adv s2)).bind fun n s3=>.ok (.node 3 0 ⟨#[]⟩ [c,y,n]) s3 else .ok (.node 3 0 ⟨#[]⟩ [c,y,.node 14 0 ⟨#[]⟩ []]) s2
def repQ(f:Nat)(s:PS):PR Tr:=(numP T 1 100 s).bind fun n s1=>(blockP T f s1).bind fun y s2=>.ok (.node 4 n ⟨#[]⟩ [y]) s2
end
section
variable {N:Nat} {T:Nat→Tkn} {pr:List ByteArray} {s:PS} {x:StT}
theorem block_step(hT:TokN N T){f q:Nat}(hq:f<q)(hf:f≤1000000000)(hS:HS N T pr f q)(h:RS N T pr s x)(ho:blockP T (f+1) s≠ .out):Rs (block (q+1) x) (PN N T pr (blockP T (f+1) s)):=by
 show Rs ((t_blockR (opens q) (take q) (statement q) (blockR_l0 (opens q) (take q) (statement q) q x) x some).map cv_block) _
 refine Rs.map (P:=fun y=>PN N T pr (blockP T (f+1) s) (cv_block y)) ?_ fun z hz=>hz
 unfold t_blockR
 have hop:blockP T (f+1) s=(opensP T sLBr s).bind fun _ s1=>(stmtsP T f s1).bind fun l s2=>.ok (.node 14 0 ⟨#[]⟩ l) (closeP s2):=by rw[blockP]
 refine PU.bind (opens_rs hT q h sLBr (by decide)) (fun s1 x1 e1 g1=>?_) (fun p c e hp=>?_)
 ·have o1:=opens_op (T:=T) sLBr s
  rw[e1]at hop o1
  dsimp only[PR.bind]at hop
  have o1:s1.o=s.o+1:=o1
  have ho2:=PR.bind_out (hop▸ho)
  refine Rs.bind (stmts_loop hT hS x f (Nat.le_refl _) q hq [] s1 x1 (.inl (z0 x1)) ⟨rfl,rfl⟩ (by simpa using hf) g1 ho2) fun z hz=>?_
  rw[hop]
  have o2:=(stmt_op (T:=T) f).2.1 s1
  cases hr2:stmtsP T f s1 with
  |out=>exact absurd hr2 ho2
  |err p c=>
   rw[hr2]at hz
   rcases z with z|z|z
   ·exact Rs.some hz
   ·exact hz.elim
   ·exact hz.elim
  |ok l s2=>
   rw[hr2]at hz o2
   have o2:s2.o=s1.o:=o2
   rcases z with z|z|z
   ·exact hz.elim
   ·obtain⟨e1,x2,rfl,g3⟩:=hz
    simp only[List.nil_append]at e1
    subst e1
    exact Rs.some ⟨RepN.leaf,g3.close hT (by omega)⟩
   ·obtain⟨x2,a,rfl,ha,g3⟩:=hz
    exact Rs.some ⟨RepA.node ha,g3.close hT (by omega)⟩
 ·(rw[hop,e];exact Rs.some ⟨hp,rfl⟩)
theorem repeat_rs(hT:TokN N T){f q:Nat}(hB:HB N T pr f q)(h:RS N T pr s x)(hne:(T s.p).t≠⟨#[]⟩∨(T s.p).k≠0)(ho:repQ T f (adv s)≠ .out):Rs (repeatS (q+1) x) (PN N T pr (repQ T f (adv s))):=by
 show Rs ((t_repeatSR (number q) (block q) x some).map cv_repeatS) _
 refine Rs.map (P:=fun y=>PN N T pr (repQ T f (adv s)) (cv_repeatS y)) ?_ fun z hz=>hz
 unfold t_repeatSR
 have hop:repQ T f (adv s)=(numP T 1 100 (adv s)).bind fun n s1=>(blockP T f s1).bind fun y s2=>.ok (.node 4 n ⟨#[]⟩ [y]) s2:=rfl
 refine PX.bind (number_rs hT q (h.adv hT hne) 1 100) (fun a s1 x1 e1 g1=>?_) (fun p c e hp=>?_)
 ·rw[e1]at hop
  dsimp only[PR.bind]at hop
  refine PN.bind (hB f (Nat.le_refl _) s1 x1 g1 (PR.bind_out (hop▸ho))) (fun t s3 k n b m c x3 e hr hx=>?_) (fun p c e hp=>?_)
  ·rw[hop,e];exact Rs.some ⟨RepN.k1 hr,hx⟩
  ·(rw[hop,e];exact Rs.some ⟨hp,rfl⟩)
 ·(rw[hop,e];exact Rs.some ⟨hp,rfl⟩)
theorem branch_rs(hT:TokN N T){f q:Nat}(hE:HE N T pr f q)(hB:HB N T pr f q)(h:RS N T pr s x)(hne:(T s.p).t≠⟨#[]⟩∨(T s.p).k≠0)(ho:brQ T f (adv s)≠ .out):Rs (branch (q+1) x) (PN N T pr (brQ T f (adv s))):=by
 show Rs ((t_branchR (expr q) (block q) (take q) x some).map cv_branch) _
 refine Rs.map (P:=fun y=>PN N T pr (brQ T f (adv s)) (cv_branch y)) ?_ fun z hz=>hz
 unfold t_branchR
 have hop:brQ T f (adv s)=(exprP T f 1 (adv s)).bind fun c s1=>(blockP T f s1).bind fun y s2=>
  if isP T w_else s2=true then(blockP T f (adv s2)).bind fun n s3=>.ok (.node 3 0 ⟨#[]⟩ [c,y,n]) s3 else .ok (.node 3 0 ⟨#[]⟩ [c,y,.node 14 0 ⟨#[]⟩ []]) s2:=rfl
 refine PN.bind (hE f (Nat.le_refl _) 1 (by decide) (by decide) (adv s) _ (h.adv hT hne) (PR.bind_out ho)) (fun t1 s1 k1 n1 b1 m1 c1 x1 e1 hr1 g1=>?_) (fun p c e hp=>?_)
 ·rw[e1]at hop
  dsimp only[PR.bind]at hop
  refine PN.bind (hB f (Nat.le_refl _) s1 x1 g1 (PR.bind_out (hop▸ho))) (fun t2 s2 k2 n2 b2 m2 c2 x2 e2 hr2 g2=>?_) (fun p c e hp=>?_)
  ·rw[e2]at hop
   dsimp only[PR.bind]at hop
   rw[take_eq q g2]
   dsimp only[Option.bind_some]
   by_cases hi:isP T w_else s2=true
   ·rw[if_pos hi]at hop⊢
    refine Rs.pos rfl ?_
    refine PN.bind (hB f (Nat.le_refl _) (adv s2) _ (g2.adv hT (isP_ne (by decide) hi)) (PR.bind_out (hop▸ho))) (fun t3 s3 k3 n3 b3 m3 c3 x3 e hr hx=>?_) (fun p c e hp=>?_)
    ·rw[hop,e]
     refine Rs.some ⟨?_,hx⟩
     simp only[RepN,RepL,List.length_cons,List.length_nil,cv_branch,Sum.elim_inl]
     exact⟨trivial,trivial,trivial,trivial,⟨(k1,n1,b1,m1,c1),rfl,hr1⟩,⟨(k2,n2,b2,m2,c2),rfl,hr2⟩,⟨(k3,n3,b3,m3,c3),rfl,hr⟩,trivial⟩
    ·(rw[hop,e];exact Rs.some ⟨hp,rfl⟩)
   ·rw[if_neg hi]at hop⊢
    refine Rs.neg (by simp) ?_
    rw[hop]
    refine Rs.some ⟨?_,g2⟩
    simp only[RepN,RepL,List.length_cons,List.length_nil,cv_branch,Sum.elim_inl]
    exact⟨trivial,trivial,trivial,trivial,⟨(k1,n1,b1,m1,c1),rfl,hr1⟩,⟨(k2,n2,b2,m2,c2),rfl,hr2⟩,⟨(14,0,⟨#[]⟩,0,fun _=>[]),rfl,by simp⟩,trivial⟩
  ·(rw[hop,e];exact Rs.some ⟨hp,rfl⟩)
 ·(rw[hop,e];exact Rs.some ⟨hp,rfl⟩)
theorem semi_rs(hT:TokN N T)(q:Nat){r:PR Tr}{o:Option g_statement}(h:Rs o (PN N T pr r)):
 Rs (o.bind fun z=>Sum.elim (fun za=>(must q (sSemi,za.2.2.2.2.2)).bind fun y=>Sum.elim (fun ya=>(some (.inl (za.1,za.2.1,za.2.2.1,za.2.2.2.1,za.2.2.2.2.1,ya)):Option g_statementR)) (fun yb=>some (.inr yb)) y) (fun zb=>some (.inr zb)) z) (fun y=>PN N T pr (r.bind (Lx.endP T)) (cv_statement y)):=by
 refine PN.bind h (fun t s3 k n b m c x3 e hr hx=>?_) (fun p c e hp=>?_)
 ·subst e
  refine PU.bind (must_rs hT q hx sSemi (by decide)) (fun s4 x4 e4 g4=>?_) (fun p c e hp=>?_)
  ·show Rs _ fun y=>PN N T pr (Lx.endP T t s3) (cv_statement y)
   unfold Lx.endP
   rw[e4]
   exact Rs.some ⟨hr,g4⟩
  ·show Rs _ fun y=>PN N T pr (Lx.endP T t s3) (cv_statement y)
   unfold Lx.endP
   rw[e]
   exact Rs.some ⟨hp,rfl⟩
 ·subst e
  exact Rs.some ⟨hp,rfl⟩
theorem pass_rs{r:PR Tr}{o:Option g_statement}(h:Rs o (PN N T pr r)):
 Rs (o.bind fun z=>Sum.elim (fun za=>(some (.inl za):Option g_statementR)) (fun zb=>some (.inr zb)) z) (fun y=>PN N T pr r (cv_statement y)):=by
 refine PN.bind h (fun t s3 k n b m c x3 e hr hx=>?_) (fun p c e hp=>?_)
 ·subst e;exact Rs.some ⟨hr,hx⟩
 ·subst e;exact Rs.some ⟨hp,rfl⟩
theorem isP_not{a b:ByteArray}(hab:a≠b)(h:isP T a s=true):¬isP T b s=true:=by
 simp only[isP,decide_eq_true_eq]at h⊢
 rw[h];exact hab
theorem stmt_step(hT:TokN N T){f q:Nat}(hq:20≤q)(hE:HE N T pr f (q+1))(hE0:HE N T pr f q)(hB:HB N T pr f q)(h:RS N T pr s x)(ho:stmtP T (f+1) s≠ .out):Rs (statement (q+2) x) (PN N T pr (stmtP T (f+1) s)):=by
 show Rs ((t_statementR (next (q+1)) (letS (q+1)) (branch (q+1)) (repeatS (q+1)) (await (q+1)) (amount (q+1)) (single (q+1)) (numbered (q+1)) (assign (q+1)) (must (q+1)) x some).map cv_statement) _
 refine Rs.map (P:=fun y=>PN N T pr (stmtP T (f+1) s) (cv_statement y)) ?_ fun z hz=>hz
 unfold t_statementR
 rw[next_eq (q+1) h]
 dsimp only[Option.bind_some]
 simp only[tl_dec]
 have hop:stmtP T (f+1) s=if isP T w_let s=true then(declP T (adv s)).bind fun x s1=>setP T f 1 x s1
  else if isP T w_if s=true then brQ T f (adv s)
  else if isP T w_repeat s=true then repQ T f (adv s)
  else if isP T w_await s=true then awaitP T f (adv s)
  else if isP T w_wait s=true then amtP T 5 (adv s)
  else if isP T w_keep s=true then amtP T 11 (adv s)
  else if isP T w_require s=true then oneP T f 7 (adv s)
  else if isP T w_point s=true then oneP T f 8 (adv s)
  else if isP T w_use s=true then useP T 9 w_for (adv s)
  else if isP T w_send s=true then useP T 10 sComma (adv s)
  else if isP T w_emit s=true then nmbP T 12 99 (adv s)
  else if isP T w_abort s=true then nmbP T 13 999 (adv s)
  else(nameP T s).bind fun x s1=>setP T f 2 x s1:=by rw[stmtP];rfl
 by_cases c1:isP T w_let s=true
 ·rw[if_pos c1,let_eq]at hop
  rw[hop]
  exact Rs.pos c1 (semi_rs hT (q+1) (let_rs hT (by omega) hE h (isP_ne (by decide) c1) (PR.bind_out (hop▸ho))))
 rw[if_neg c1]at hop
 refine Rs.neg c1 ?_
 by_cases c2:isP T w_if s=true
 ·rw[if_pos c2]at hop
  rw[hop]
  exact Rs.pos c2 (pass_rs (branch_rs hT hE0 hB h (isP_ne (by decide) c2) (hop▸ho)))
 rw[if_neg c2]at hop
 refine Rs.neg c2 ?_
 by_cases c3:isP T w_repeat s=true
 ·rw[if_pos c3]at hop
  rw[hop]
  exact Rs.pos c3 (pass_rs (repeat_rs hT hB h (isP_ne (by decide) c3) (hop▸ho)))
 rw[if_neg c3]at hop
 refine Rs.neg c3 ?_
 by_cases c4:isP T w_await s=true
 ·rw[if_pos c4,await_eq]at hop
  rw[hop]
  exact Rs.pos c4 (semi_rs hT (q+1) (await_rs hT hE h (isP_ne (by decide) c4) (PR.bind_out (hop▸ho))))
 rw[if_neg c4]at hop
 refine Rs.neg c4 ?_
 by_cases c5:isP T w_wait s=true
 ·rw[if_pos c5,amt_eq]at hop
  rw[hop]
  have:=amount_rs hT (q+1) h (isP_ne (by decide) c5)
  rw[if_neg (isP_not (by decide) c5)]at this
  exact Rs.pos c5 (semi_rs hT (q+1) this)
 rw[if_neg c5]at hop
 refine Rs.neg c5 ?_
 by_cases c6:isP T w_keep s=true
 ·rw[if_pos c6,amt_eq]at hop
  rw[hop]
  have:=amount_rs hT (q+1) h (isP_ne (by decide) c6)
  rw[if_pos c6]at this
  exact Rs.pos c6 (semi_rs hT (q+1) this)
 rw[if_neg c6]at hop
 refine Rs.neg c6 ?_
 by_cases c7:isP T w_require s=true
 ·rw[if_pos c7,sgl_eq]at hop
  rw[hop]
  have:=single_rs hT hE h (isP_ne (by decide) c7) (PR.bind_out (PR.bind_out (hop▸ho)))
  rw[if_neg (isP_not (by decide) c7)]at this
  exact Rs.pos c7 (semi_rs hT (q+1) this)
 rw[if_neg c7]at hop
 refine Rs.neg c7 ?_
 by_cases c8:isP T w_point s=true
 ·rw[if_pos c8,sgl_eq]at hop
  rw[hop]
  have:=single_rs hT hE h (isP_ne (by decide) c8) (PR.bind_out (PR.bind_out (hop▸ho)))
  rw[if_pos c8]at this
  exact Rs.pos c8 (semi_rs hT (q+1) this)
 rw[if_neg c8]at hop
 refine Rs.neg c8 ?_
 by_cases c9:isP T w_use s=true
 ·rw[if_pos c9,use_eq]at hop
  rw[hop]
  have:=numbered_rs hT (q+1) h (isP_ne (by decide) c9)
  unfold numbQ at this
  rw[if_neg (isP_not (by decide) c9),if_neg (isP_not (by decide) c9),if_pos c9]at this
  exact Rs.pos c9 (semi_rs hT (q+1) this)
 rw[if_neg c9]at hop
 refine Rs.neg c9 ?_
 by_cases c10:isP T w_send s=true
 ·rw[if_pos c10,use_eq]at hop
  rw[hop]
  have:=numbered_rs hT (q+1) h (isP_ne (by decide) c10)
  unfold numbQ at this
  rw[if_neg (isP_not (by decide) c10),if_neg (isP_not (by decide) c10),if_neg c9]at this
  exact Rs.pos c10 (semi_rs hT (q+1) this)
 rw[if_neg c10]at hop
 refine Rs.neg c10 ?_
 by_cases c11:isP T w_emit s=true
 ·rw[if_pos c11,nmb_eq]at hop
  rw[hop]
  have:=numbered_rs hT (q+1) h (isP_ne (by decide) c11)
  unfold numbQ at this
  rw[if_pos c11]at this
  exact Rs.pos c11 (semi_rs hT (q+1) this)
 rw[if_neg c11]at hop
 refine Rs.neg c11 ?_
 by_cases c12:isP T w_abort s=true
 ·rw[if_pos c12,nmb_eq]at hop
  rw[hop]
  have:=numbered_rs hT (q+1) h (isP_ne (by decide) c12)
  unfold numbQ at this
  rw[if_neg c11,if_pos c12]at this
  exact Rs.pos c12 (semi_rs hT (q+1) this)
 rw[if_neg c12]at hop
 refine Rs.neg c12 ?_
 rw[asg_eq]at hop
 rw[hop]
 exact semi_rs hT (q+1) (assign_rs hT hE h (PR.bind_out (hop▸ho)))
end
end Go.Proofs.YtjfkkokeegpeiaaDoor
/- Statements are read as the plain parser reads them (2). -/
namespace Go.Proofs.YtjfkkokeegpeiaaDoor
open Go Go.Am Go.Proofs.Lx
set_option maxRecDepth 100000
section
variable {N:Nat} {T:Nat→Tkn} {pr:List ByteArray}
theorem stmts(hT:TokN N T):∀f,f≤1000000000→∀q,2*f+22≤q→HS N T pr f q∧HB N T pr f q:=by
 intro f
 induction f with
 |zero=>
  intro _ q _
  refine⟨fun g hg s x _ ho=>?_,fun g hg s x _ ho=>?_⟩
  all_goals
   obtain rfl:g=0:=by omega
  ·rw[stmtP]at ho;exact absurd rfl ho
  ·rw[blockP]at ho;exact absurd rfl ho
 |succ f ih=>
  intro hf q hq
  obtain⟨q,rfl⟩:∃k,q=k+2:=⟨q-2,by omega⟩
  obtain⟨a1,a2⟩:=ih (by omega) (q+2) (by omega)
  obtain⟨b1,b2⟩:=ih (by omega) (q+1) (by omega)
  obtain⟨c1,c2⟩:=ih (by omega) q (by omega)
  refine⟨fun g hg s x h ho=>?_,fun g hg s x h ho=>?_⟩
  ·by_cases e:g≤f
   ·exact a1 g e s x h ho
   ·obtain rfl:g=f+1:=by omega
    exact stmt_step hT (by omega) (exprs hT f (q+1) (by omega)).1 (exprs hT f q (by omega)).1 c2 h ho
  ·by_cases e:g≤f
   ·exact a2 g e s x h ho
   ·obtain rfl:g=f+1:=by omega
    exact block_step hT (by omega) (by omega) b1 h ho
end
end Go.Proofs.YtjfkkokeegpeiaaDoor
/- Parameters are read as the plain parser reads them. -/
namespace Go.Proofs.YtjfkkokeegpeiaaDoor
open Go Go.Am Go.Proofs.Lx
set_option maxRecDepth 100000
section
variable (T:Nat→Tkn)
def prmsQ:Nat→PS→PR (List Prm)
 |0,_=>.out
 |f+1,s=>(prmP T s).bind fun x s1=>if isP T sComma s1=true then(prmsQ f (adv s1)).bind fun l s2=>.ok (x::l) s2 else .ok [x] s1
theorem prms_eq:∀f s,prmsP T f s=(prmsQ T f s).bind fun l s2=>(mustP T sRPar s2).bind fun _ s3=>.ok l s3
 |0,s=>by rw[prmsP,prmsQ];rfl
 |f+1,s=>by
  rw[prmsP,prmsQ,PR.bind_assoc]
  congr 1
  funext x s1
  by_cases h:isP T sComma s1=true
  ·rw[if_pos h,if_pos h,prms_eq f,PR.bind_assoc,PR.bind_assoc]
   congr 1
   funext l s2
   show((mustP T sRPar s2).bind fun _ s3=>PR.ok l s3).bind _=(mustP T sRPar s2).bind _
   rw[PR.bind_assoc]
   rfl
  ·rw[if_neg h,if_neg h]
   rfl
end
abbrev PrT:Type:=(Nat→ByteArray)×(Nat→ByteArray)×Nat
def zq(x:StT)(a:PrT):Nat×(Nat→Int)×(Nat→Int)×(Nat→ByteArray)×(Nat→Int)×Int×Int×Nat×Nat×(Nat→ByteArray)×(Nat→ByteArray)×PrT:=(x.2.2.1,x.2.2.2.1,x.2.2.2.2.1,x.2.2.2.2.2.1,x.2.2.2.2.2.2.1,x.1,x.2.1,x.2.2.2.2.2.2.2.1,x.2.2.2.2.2.2.2.2.2.1,x.2.2.2.2.2.2.2.2.1,x.2.2.2.2.2.2.2.2.2.2,a)
def RepQ(l:List Prm)(a:PrT):Prop:=a.2.2=l.length∧∀j m,l[j]? =some m→a.1 j=m.x∧a.2.1 j=m.u
def prm1(x u:ByteArray):PrT:=(fun _=>x,fun _=>u,1)
theorem prm1_rep(x u:ByteArray):RepQ [⟨x,u⟩] (prm1 x u):=by
 refine⟨rfl,fun j m e=>?_⟩
 cases j with
 |zero=>simp only[List.getElem?_cons_zero,Option.some.injEq]at e;subst e;exact⟨rfl,rfl⟩
 |succ j=>simp at e
def prmN(a:PrT)(x u:ByteArray):PrT:=(fun j=>if j<a.2.2 then a.1 j else x,fun j=>if j<a.2.2 then a.2.1 j else u,a.2.2+1)
theorem prmN_rep{l:List Prm}{a:PrT}(h:RepQ l a)(x u:ByteArray):RepQ (l++[⟨x,u⟩]) (prmN a x u):=by
 refine⟨by simp[prmN,h.1],fun j m e=>?_⟩
 by_cases hj:j<l.length
 ·rw[List.getElem?_append_left hj]at e
  have:=h.2 j m e
  simp only[prmN,h.1,hj,if_true]
  exact this
 ·rw[List.getElem?_append_right (by omega)]at e
  simp only[prmN,h.1,hj,if_false]
  cases hk:j-l.length with
  |zero=>rw[hk]at e;simp only[List.getElem?_cons_zero,Option.some.injEq]at e;subst e;exact⟨rfl,rfl⟩
  |succ n=>rw[hk]at e;simp at e
section
variable {N:Nat} {T:Nat→Tkn} {pr:List ByteArray}
def BQ(N:Nat)(T:Nat→Tkn)(pr:List ByteArray)(acc:List Prm):PR (List Prm)→paramsR_l0_g→Prop
 | .ok l s,.inr z=>∃x a,z=zq x a∧RepQ (acc++l) a∧RS N T pr s x
 | .err p c,.inl e=>p<N∧e=((T p).a,c)
 |_,_=>False
def QS(acc:List Prm)(x:StT):paramsR_l0_a→Prop
 | .inl y=>acc=[]∧y=z0 x
 | .inr y=>∃a,y=zq x a∧RepQ acc a
theorem rs_lt1{s:PS}{x:StT}(h:RS N T pr (adv s) x):s.p+1<N:=h.choose_spec.choose_spec.2.2.2.1
theorem prms_loop(hT:TokN N T){q:Nat}(hq:20≤q)(x0:a_paramsR):∀(g:Nat),∀(m:Nat),g<m→∀(acc:List Prm) (s:PS) (x:StT) (y:paramsR_l0_a),QS acc x y→acc.length+g≤1000000000→RS N T pr s x→prmsQ T g s≠ .out→
 Rs (paramsR_l0 (must q) (take q) (declare q) (next q) (Lookup q) (fail q) m x0 y) (BQ N T pr acc (prmsQ T g s)):=by
 intro g
 induction g with
 |zero=>intro m _ acc s x y _ _ _ ho;rw[prmsQ]at ho;exact absurd rfl ho
 |succ g ih=>
  intro m hm acc s x y hy hb h ho
  obtain⟨m,rfl⟩:∃k,m=k+1:=⟨m-1,by omega⟩
  unfold paramsR_l0
  refine Rs.step3 fun Q hQ=>?_
  have h0:=h
  obtain⟨v,u,rfl,h1,h2,h3,h4,h5,h6⟩:=h
  have hop:prmsQ T (g+1) s=(prmP T s).bind fun x s1=>if isP T sComma s1=true then(prmsQ T g (adv s1)).bind fun l s2=>.ok (x::l) s2 else .ok [x] s1:=by rw[prmsQ]
  have hpp:prmP T s=(declP T s).bind fun x s1=>if isP T sColon s1=true then(if(T (s1.p+1)).k≠1 then .err (s1.p+1) 11 else if unitP (T (s1.p+1)).t=false then .err (s1.p+1) 10 else .ok ⟨x,(T (s1.p+1)).t⟩ (adv (adv s1)))else .ok ⟨x,⟨#[]⟩⟩ s1:=rfl
  rcases y with y|y
  ·obtain⟨rfl,rfl⟩:=hy
   rw[Sum.elim_inl]
   unfold paramsR_l0_t0
   dsimp only[z0,zq]
   refine PX.bind (declare_rs hT q hq h0) (fun b s1 x1 e1 g1=>?_) (fun p c e hp=>?_)
   ·rw[e1]at hpp
    dsimp only[PR.bind]at hpp⊢
    rw[take_eq q g1]
    dsimp only[Option.bind_some]
    by_cases hc:isP T sColon s1=true
    ·rw[if_pos hc]at hpp⊢
     refine Rs.pos rfl ?_
     have g2:=RS.adv hT g1 (isP_ne (by decide) hc)
     have hl2:s1.p+1<N:=rs_lt1 g2
     rw[next_eq q g2]
     dsimp only[Option.bind_some]
     refine Rs.bind (Lookup_rs q (T (adv s1).p).t) fun z hz=>?_
     by_cases hk:(T (s1.p+1)).k=1
     ·refine Rs.neg (by simpa[Lx.adv]using hk) ?_
      rw[if_neg (fun h=>h hk)]at hpp
      by_cases hu:unitP (T (s1.p+1)).t=false
      ·rw[if_pos hu]at hpp
       rw[hpp]at hop
       refine Rs.pos (by rw[hz];simpa[Lx.adv]using hu) ?_
       rw[fail_eq q g2]
       refine Rs.some ?_
       show BQ N T pr [] (prmsQ T (g+1) s) _
       rw[hop]
       exact⟨hl2,rfl⟩
      ·rw[if_neg hu]at hpp
       rw[hpp]at hop
       dsimp only[PR.bind]at hop
       refine Rs.neg (by rw[hz];simpa[Lx.adv]using hu) ?_
       have g3:=RS.adv hT g2 (.inr (by show(T (s1.p+1)).k≠0;rw[hk];decide))
       dsimp only at g3⊢
       rw[take_eq q g3]
       dsimp only[Option.bind_some]
       by_cases hi:isP T sComma (adv (adv s1))=true
       ·rw[if_pos hi]at hop⊢
        refine Rs.neg (by simp) (Rs.some (hQ _ ?_))
        have ho2:=PR.bind_out (hop▸ho)
        refine(ih m (by omega) ([]++[⟨b,(T (s1.p+1)).t⟩]) (adv (adv (adv s1))) _ (.inr (zq (w ((w (w (x1.1+1)+1),x1.2).1+1),(w (w (x1.1+1)+1),x1.2).2) (prm1 b (T (s1.p+1)).t))) ⟨_,rfl,(prm1_rep b (T (s1.p+1)).t)⟩ (by simp at hb⊢;omega) (RS.adv hT g3 (isP_ne (by decide) hi)) ho2).mono fun z hz=>?_
        rw[hop]
        cases hr2:prmsQ T g (adv (adv (adv s1)))with
        |out=>exact absurd hr2 ho2
        |err p c=>rw[hr2]at hz;rcases z with z|z<;>exact hz
        |ok l s3=>
         rw[hr2]at hz
         rcases z with z|z
         ·exact hz.elim
         ·obtain⟨x2,a2,e1,e2,e3⟩:=hz
          exact⟨x2,a2,e1,by simpa using e2,e3⟩
       ·rw[if_neg hi]at hop⊢
        refine Rs.pos (by simp) (Rs.some ?_)
        show BQ N T pr [] (prmsQ T (g+1) s) _
        rw[hop]
        exact⟨_,_,rfl,(prm1_rep b (T (s1.p+1)).t),g3⟩
     ·rw[if_pos hk]at hpp
      rw[hpp]at hop
      refine Rs.pos (by simpa[Lx.adv]using hk) ?_
      rw[fail_eq q g2]
      refine Rs.some ?_
      show BQ N T pr [] (prmsQ T (g+1) s) _
      rw[hop]
      exact⟨hl2,rfl⟩
    ·rw[if_neg hc]at hpp⊢
     rw[hpp]at hop
     dsimp only[PR.bind]at hop
     refine Rs.neg (by simp) ?_
     dsimp only
     rw[take_eq q g1]
     dsimp only[Option.bind_some]
     by_cases hi:isP T sComma s1=true
     ·rw[if_pos hi]at hop⊢
      refine Rs.neg (by simp) (Rs.some (hQ _ ?_))
      have ho2:=PR.bind_out (hop▸ho)
      refine(ih m (by omega) ([]++[⟨b,⟨#[]⟩⟩]) (adv s1) _ (.inr (zq (w (x1.1+1),x1.2) (prm1 b ⟨#[]⟩))) ⟨_,rfl,(prm1_rep b ⟨#[]⟩)⟩ (by simp at hb⊢;omega) (RS.adv hT g1 (isP_ne (by decide) hi)) ho2).mono fun z hz=>?_
      rw[hop]
      cases hr2:prmsQ T g (adv s1)with
      |out=>exact absurd hr2 ho2
      |err p c=>rw[hr2]at hz;rcases z with z|z<;>exact hz
      |ok l s3=>
       rw[hr2]at hz
       rcases z with z|z
       ·exact hz.elim
       ·obtain⟨x2,a2,e1,e2,e3⟩:=hz
        exact⟨x2,a2,e1,by simpa using e2,e3⟩
     ·rw[if_neg hi]at hop⊢
      refine Rs.pos (by simp) (Rs.some ?_)
      show BQ N T pr [] (prmsQ T (g+1) s) _
      rw[hop]
      exact⟨_,_,rfl,(prm1_rep b ⟨#[]⟩),g1⟩
   ·rw[e]at hpp
    rw[hpp]at hop
    refine Rs.some ?_
    show BQ N T pr [] (prmsQ T (g+1) s) _
    rw[hop]
    exact⟨hp,rfl⟩
  ·obtain⟨a,rfl,ha⟩:=hy
   have hal:=ha.1
   rw[Sum.elim_inr]
   unfold paramsR_l0_t1
   dsimp only[z0,zq]
   refine PX.bind (declare_rs hT q hq h0) (fun b s1 x1 e1 g1=>?_) (fun p c e hp=>?_)
   ·rw[e1]at hpp
    dsimp only[PR.bind]at hpp⊢
    rw[take_eq q g1]
    dsimp only[Option.bind_some]
    by_cases hc:isP T sColon s1=true
    ·rw[if_pos hc]at hpp⊢
     refine Rs.pos rfl ?_
     have g2:=RS.adv hT g1 (isP_ne (by decide) hc)
     have hl2:s1.p+1<N:=rs_lt1 g2
     rw[next_eq q g2]
     dsimp only[Option.bind_some]
     refine Rs.bind (Lookup_rs q (T (adv s1).p).t) fun z hz=>?_
     by_cases hk:(T (s1.p+1)).k=1
     ·refine Rs.neg (by simpa[Lx.adv]using hk) ?_
      rw[if_neg (fun h=>h hk)]at hpp
      by_cases hu:unitP (T (s1.p+1)).t=false
      ·rw[if_pos hu]at hpp
       rw[hpp]at hop
       refine Rs.pos (by rw[hz];simpa[Lx.adv]using hu) ?_
       rw[fail_eq q g2]
       refine Rs.some ?_
       show BQ N T pr acc (prmsQ T (g+1) s) _
       rw[hop]
       exact⟨hl2,rfl⟩
      ·rw[if_neg hu]at hpp
       rw[hpp]at hop
       dsimp only[PR.bind]at hop
       refine Rs.neg (by rw[hz];simpa[Lx.adv]using hu) ?_
       have g3:=RS.adv hT g2 (.inr (by show(T (s1.p+1)).k≠0;rw[hk];decide))
       dsimp only at g3⊢
       refine Rs.pos ⟨by unfold roomBound;omega,by unfold maxLen;omega,Nat.le_refl _⟩ ?_
       rw[take_eq q g3]
       dsimp only[Option.bind_some]
       by_cases hi:isP T sComma (adv (adv s1))=true
       ·rw[if_pos hi]at hop⊢
        refine Rs.neg (by simp) (Rs.some (hQ _ ?_))
        have ho2:=PR.bind_out (hop▸ho)
        refine(ih m (by omega) (acc++[⟨b,(T (s1.p+1)).t⟩]) (adv (adv (adv s1))) _ (.inr (zq (w ((w (w (x1.1+1)+1),x1.2).1+1),(w (w (x1.1+1)+1),x1.2).2) (prmN a b (T (s1.p+1)).t))) ⟨_,rfl,(prmN_rep ha b (T (s1.p+1)).t)⟩ (by simp at hb⊢;omega) (RS.adv hT g3 (isP_ne (by decide) hi)) ho2).mono fun z hz=>?_
        rw[hop]
        cases hr2:prmsQ T g (adv (adv (adv s1)))with
        |out=>exact absurd hr2 ho2
        |err p c=>rw[hr2]at hz;rcases z with z|z<;>exact hz
        |ok l s3=>
         rw[hr2]at hz
         rcases z with z|z
         ·exact hz.elim
         ·obtain⟨x2,a2,e1,e2,e3⟩:=hz
          exact⟨x2,a2,e1,by simpa using e2,e3⟩
       ·rw[if_neg hi]at hop⊢
        refine Rs.pos (by simp) (Rs.some ?_)
        show BQ N T pr acc (prmsQ T (g+1) s) _
        rw[hop]
        exact⟨_,_,rfl,(prmN_rep ha b (T (s1.p+1)).t),g3⟩
     ·rw[if_pos hk]at hpp
      rw[hpp]at hop
      refine Rs.pos (by simpa[Lx.adv]using hk) ?_
      rw[fail_eq q g2]
      refine Rs.some ?_
      show BQ N T pr acc (prmsQ T (g+1) s) _
      rw[hop]
      exact⟨hl2,rfl⟩
    ·rw[if_neg hc]at hpp⊢
     rw[hpp]at hop
     dsimp only[PR.bind]at hop
     refine Rs.neg (by simp) ?_
     dsimp only
     refine Rs.pos ⟨by unfold roomBound;omega,by unfold maxLen;omega,Nat.le_refl _⟩ ?_
     rw[take_eq q g1]
     dsimp only[Option.bind_some]
     by_cases hi:isP T sComma s1=true
     ·rw[if_pos hi]at hop⊢
      refine Rs.neg (by simp) (Rs.some (hQ _ ?_))
      have ho2:=PR.bind_out (hop▸ho)
      refine(ih m (by omega) (acc++[⟨b,⟨#[]⟩⟩]) (adv s1) _ (.inr (zq (w (x1.1+1),x1.2) (prmN a b ⟨#[]⟩))) ⟨_,rfl,(prmN_rep ha b ⟨#[]⟩)⟩ (by simp at hb⊢;omega) (RS.adv hT g1 (isP_ne (by decide) hi)) ho2).mono fun z hz=>?_
      rw[hop]
      cases hr2:prmsQ T g (adv s1)with
      |out=>exact absurd hr2 ho2
      |err p c=>rw[hr2]at hz;rcases z with z|z<;>exact hz
      |ok l s3=>
       rw[hr2]at hz
       rcases z with z|z
       ·exact hz.elim
       ·obtain⟨x2,a2,e1,e2,e3⟩:=hz
        exact⟨x2,a2,e1,by simpa using e2,e3⟩
     ·rw[if_neg hi]at hop⊢
      refine Rs.pos (by simp) (Rs.some ?_)
      show BQ N T pr acc (prmsQ T (g+1) s) _
      rw[hop]
      exact⟨_,_,rfl,(prmN_rep ha b ⟨#[]⟩),g1⟩
   ·rw[e]at hpp
    rw[hpp]at hop
    refine Rs.some ?_
    show BQ N T pr acc (prmsQ T (g+1) s) _
    rw[hop]
    exact⟨hp,rfl⟩
end
end Go.Proofs.YtjfkkokeegpeiaaDoor
/- Procedures are read as the plain parser reads them. -/
namespace Go.Proofs.YtjfkkokeegpeiaaDoor
open Go Go.Am Go.Proofs.Lx
set_option maxRecDepth 100000
section
variable {N:Nat} {T:Nat→Tkn} {pr:List ByteArray} {s:PS} {x:StT}
def PPm(N:Nat)(T:Nat→Tkn)(pr:List ByteArray):PR (List Prm)→(Nat×(Nat→ByteArray)×(Nat→ByteArray)×StT)⊕(Int×Int)→Prop
 | .ok l s,.inl z=>RepQ l (z.2.1,z.2.2.1,z.1)∧RS N T pr s z.2.2.2
 | .err p c,.inr e=>p<N∧e=((T p).a,c)
 |_,_=>False
theorem paramsR_rs(hT:TokN N T){f q:Nat}(hq:20≤q)(hf:f<q)(hf2:f≤1000000000)(h:RS N T pr s x)(ho:paramsP T f s≠ .out):Rs (paramsR q x) (fun y=>PPm N T pr (paramsP T f s) (cv_params y)):=by
 unfold paramsR t_paramsR
 have hop:paramsP T f s=(mustP T sLPar s).bind fun _ s1=>if isP T sRPar s1=true then .ok [] (adv s1)else(prmsQ T f s1).bind fun l s2=>(mustP T sRPar s2).bind fun _ s3=>.ok l s3:=by
  unfold paramsP
  simp only[prms_eq]
 refine PU.bind (must_rs hT q h sLPar (by decide)) (fun s1 x1 e1 g1=>?_) (fun p c e hp=>?_)
 ·rw[e1]at hop
  dsimp only[PR.bind]at hop
  rw[take_eq q g1]
  dsimp only[Option.bind_some]
  by_cases hi:isP T sRPar s1=true
  ·rw[if_pos hi]at hop⊢
   refine Rs.pos rfl ?_
   rw[hop]
   exact Rs.some ⟨⟨rfl,fun j m e=>by simp at e⟩,g1.adv hT (isP_ne (by decide) hi)⟩
  ·rw[if_neg hi]at hop⊢
   refine Rs.neg (by simp) ?_
   have ho2:=PR.bind_out (hop▸ho)
   refine Rs.bind (prms_loop hT hq x f q hf [] s1 x1 (.inl (z0 x1)) ⟨rfl,rfl⟩ (by simpa using hf2) g1 ho2) fun z hz=>?_
   cases hr2:prmsQ T f s1 with
   |out=>exact absurd hr2 ho2
   |err p c=>
    rw[hr2]at hz hop
    rcases z with z|z
    ·rw[hop];exact Rs.some hz
    ·exact hz.elim
   |ok l s2=>
    rw[hr2]at hz hop
    dsimp only[PR.bind]at hop
    rcases z with z|z
    ·exact hz.elim
    ·obtain⟨x2,a,rfl,ha,g3⟩:=hz
     refine PU.bind (must_rs hT q g3 sRPar (by decide)) (fun s3 x3 e g4=>?_) (fun p c e hp=>?_)
     ·rw[hop,e]
      exact Rs.some ⟨ha,g4⟩
     ·(rw[hop,e];exact Rs.some ⟨hp,rfl⟩)
 ·(rw[hop,e];exact Rs.some ⟨hp,rfl⟩)
theorem params_rs(hT:TokN N T){f q:Nat}(hq:20≤q)(hf:f<q)(hf2:f≤1000000000){u:Nat→ByteArray}(hu:Ag u pr)(hp:s.p<N)(ho4:s.o≤12)(hl:pr.length≤2000000000)(ho:paramsP T f {s with vs:=[]}≠ .out):
 Rs (params q (((s.p:Nat):Int),((s.o:Nat):Int),N,(fun j=>(T j).k),(fun j=>(T j).a),(fun j=>(T j).t),(fun j=>(T j).n),pr.length,u)) (PPm N T pr (paramsP T f {s with vs:=[]})):=by
 unfold params
 refine Rs.map (P:=fun y=>PPm N T pr (paramsP T f {s with vs:=[]}) (cv_params y)) ?_ fun z hz=>hz
 exact paramsR_rs hT hq hf hf2 (s:={s with vs:=[]}) ⟨fun _=>ByteArray.empty,u,rfl,fun j b e=>by simp at e,hu,hp,ho4,by simp,hl⟩ ho
def RepC(c:Prc)(z:ByteArray×Nat×(Nat→ByteArray)×(Nat→ByteArray)×NodeT):Prop:=z.1=c.x∧RepQ c.ps (z.2.2.1,z.2.2.2.1,z.2.1)∧RepN c.b z.2.2.2.2
def PC(N:Nat)(T:Nat→Tkn)(pr:List ByteArray):PR Prc→g_procedure→Prop
 | .ok c s,.inl z=>RepC c (z.1,z.2.1,z.2.2.1,z.2.2.2.1,z.2.2.2.2.1,z.2.2.2.2.2.1,z.2.2.2.2.2.2.1,z.2.2.2.2.2.2.2.1,z.2.2.2.2.2.2.2.2.1)∧RS N T (pr++[c.x]) s z.2.2.2.2.2.2.2.2.2
 | .err p c,.inr e=>p<N∧e=((T p).a,c)
 |_,_=>False
theorem procs_loop(q:Nat)(x0:a_procedure)(a:ByteArray){v u:Nat→ByteArray}(h1:Ag v s.vs)(h2:Ag u pr)(h3:s.p<N)(hN:N≤4001)(h4:s.o≤12)(h5:s.vs.length≤12)(h6:pr.length≤2000000000):
 ∀(n i m:Nat),i+n=pr.length→n<m→(∀j,j<i→pr[j]? ≠some a)→
 Rs (lpG (fun y=>procedure_l0_t (must q) (name q) (fail q) (params q) (block q) x0 y (fun y=>some (.inl y)) (fun z=>some (.inr z))) m (pr.length,((pr.length:Nat):Int),N,(fun j=>(T j).k),(fun j=>(T j).a),(fun j=>(T j).t),(fun j=>(T j).n),(((s.p+1:Nat):Nat):Int),((s.o:Nat):Int),s.vs.length,v,u,a,((i:Nat):Int)))
  (fun z=>if inP pr a=true then z= .inl ((T s.p).a,4)else z= .inr (N,(fun j=>(T j).k),(fun j=>(T j).a),(fun j=>(T j).t),(fun j=>(T j).n),(((s.p+1:Nat):Nat):Int),((s.o:Nat):Int),s.vs.length,pr.length,v,u,a)):=by
 intro n
 induction n with
 |zero=>
  intro i m hi hm hno
  obtain⟨m,rfl⟩:∃k,m=k+1:=⟨m-1,by omega⟩
  refine Rs.step ?_
  unfold procedure_l0_t
  dsimp only
  refine Rs.neg (by simp;omega) (Rs.some ?_)
  have hnin:¬inP pr a=true:=by
   rw[inP_iff,List.mem_iff_getElem?]
   rintro⟨j,hj⟩
   have:=(List.getElem?_eq_some_iff.1 hj).1
   exact hno j (by omega) hj
  show(if inP pr a=true then _ else _)
  rw[if_neg hnin]
 |succ n ih=>
  intro i m hi hm hno
  obtain⟨m,rfl⟩:∃k,m=k+1:=⟨m-1,by omega⟩
  refine Rs.step ?_
  unfold procedure_l0_t
  dsimp only
  refine Rs.pos (by simp;omega) (Rs.pos ⟨by omega,by omega⟩ (Rs.pos ⟨by simp;omega,rfl⟩ ?_))
  have hget:pr[i]? =some (u i):=by
   have hlt:i<pr.length:=by omega
   have:=List.getElem?_eq_getElem hlt
   rw[this,h2 i _ this]
  have e:0+Int.toNat ((i:Nat):Int)=i:=by omega
  rw[e]
  refine Rs.ite (fun heq=>?_) (fun hne=>?_)
  ·rw[tl_eq]at heq
   have hin:inP pr a=true:=by
    rw[inP_iff,←heq]
    exact List.mem_iff_getElem?.2 ⟨i,hget⟩
   have e2:w ((((s.p+1:Nat):Nat):Int)-1)=((s.p:Nat):Int):=by rw[w_in (by omega) (by omega)];omega
   rw[e2,fail_eq q (s:=s) (pr:=pr) (N:=N) (T:=T) ⟨v,u,rfl,h1,h2,h3,h4,h5,h6⟩]
   refine Rs.some ?_
   show(if inP pr a=true then _ else _)
   rw[if_pos hin]
  ·rw[tl_eq]at hne
   refine Rs.some ?_
   show Rs (lpG _ m _) _
   rw[w_succ (by omega)]
   refine ih (i+1) m (by omega) (by omega) fun j hj=>?_
   by_cases hji:j=i
   ·subst hji
    rw[hget]
    simpa using hne
   ·exact hno j (by omega)
theorem procedure_rs(hT:TokN N T){f q:Nat}(hq:2*f+2000000100≤q)(hf2:f≤1000000000)(h:RS N T pr s x)(hl:pr.length≤1999999999)(ho:procP T f pr s≠ .out):Rs (procedure q x) (PC N T pr (procP T f pr s)):=by
 unfold procedure t_procedure
 have hop:procP T f pr s=(mustP T w_procedure s).bind fun _ s1=>(nameP T s1).bind fun x s2=>if inP pr x=true then .err s1.p 4 else(paramsP T f {s2 with vs:=[]}).bind fun l s3=>(blockP T f s3).bind fun b s4=>.ok ⟨x,l,b⟩ s4:=rfl
 refine PU.bind (must_rs hT q h w_procedure (by decide)) (fun s1 x1 e1 g1=>?_) (fun p c e hp=>?_)
 ·rw[e1]at hop
  dsimp only[PR.bind]at hop
  refine PX.bind (name_rs hT q g1) (fun a s2 x2 e2 g2=>?_) (fun p c e hp=>?_)
  ·obtain⟨rfl,rfl,hk,hr⟩:=nameP_ok e2
   rw[e2]at hop
   dsimp only[PR.bind]at hop
   obtain⟨v,u,rfl,h1,h2,h3,h4,h5,h6⟩:=g2
   have hsp:=g1.lt
   have hN:=hT.big
   unfold procedure_l0
   refine Rs.bind (procs_loop (s:=s1) (pr:=pr) q x _ h1 h2 hsp hN h4 h5 h6 pr.length 0 q (by omega) (by omega) (fun j hj=>absurd hj (Nat.not_lt_zero j))) fun z hz=>?_
   by_cases hin:inP pr (T s1.p).t=true
   ·rw[if_pos hin]at hz hop
    subst hz
    rw[hop]
    exact Rs.some ⟨hsp,rfl⟩
   ·rw[if_neg hin]at hz hop
    subst hz
    dsimp only[Sum.elim_inr,Sum.elim_inl]
    refine Rs.pos ⟨by unfold roomBound;omega,by unfold maxLen;omega,Nat.le_refl _⟩ ?_
    have hl2:(pr++[(T s1.p).t]).length=pr.length+1:=by simp
    have hpar:=params_rs (s:=adv s1) (pr:=pr++[(T s1.p).t]) hT (by omega:20≤q) (by omega:f<q) hf2 (h2.push (x:=(T s1.p).t)) h3 h4 (by omega) (PR.bind_out (hop▸ho))
    rw[hl2]at hpar
    refine Rs.bind hpar fun z hz2=>?_
    cases hr3:paramsP T f {adv s1 with vs:=[]}with
    |out=>rw[hr3]at hz2;rcases z with z|z<;>exact hz2.elim
    |err p c=>
     rw[hr3]at hz2 hop
     rcases z with z|z
     ·exact hz2.elim
     ·rw[hop];exact Rs.some hz2
    |ok l s3=>
     rw[hr3]at hz2 hop
     dsimp only[PR.bind]at hop
     rcases z with z|z
     ·obtain⟨z1,z2,z3,x3⟩:=z
      obtain⟨k1,k2⟩:=hz2
      dsimp only[Sum.elim_inl]at k1 k2⊢
      refine PN.bind ((stmts hT f hf2 q (by omega)).2 f (Nat.le_refl _) s3 x3 k2 (PR.bind_out (hop▸ho))) (fun t s4 k n b m c x4 e hr hx=>?_) (fun p c e hp=>?_)
      ·rw[hop,e]
       exact Rs.some ⟨⟨rfl,k1,hr⟩,hx⟩
      ·(rw[hop,e];exact Rs.some ⟨hp,rfl⟩)
     ·exact hz2.elim
  ·(rw[hop,e];exact Rs.some ⟨hp,rfl⟩)
 ·(rw[hop,e];exact Rs.some ⟨hp,rfl⟩)
end
end Go.Proofs.YtjfkkokeegpeiaaDoor
/- Parse, lifted where it panics and recovers. -/
namespace Go.Proofs.YtjfkkokeegpeiaaDoor
open Go Go.Am Go.Proofs
set_option maxRecDepth 100000
noncomputable def E6(ds:List Deferred):Env:={E5 with dok:=false,dls:=ds}
theorem hX6(ds:List Deferred):SoundX (E6 ds):=SoundX.none fun _ _=>rfl
theorem sc6{ds:List Deferred}{f:FuncId}{args:List V}{L:List (Option Chunk)}{cr:CRes}:SC (E6 ds) f args L cr↔SC E5 f args L cr:=
 ⟨fun h=>⟨h.1,fun β S w us h1 h2 h3=>h.2 β S w us h1 h2 ⟨h3.rd,h3.inv⟩⟩,fun h=>⟨h.1,fun β S w us h1 h2 h3=>h.2 β S w us h1 h2 ⟨h3.rd,h3.inv⟩⟩⟩
variable {ds:List Deferred}
abbrev a_ParseP:Type:=Int×Nat×FI×FI×FS×FI
abbrev g_ParseP:Type:=Int×Int
def A_ParseP:a_ParseP→List V×List (Option Chunk):=(fun x=>(fun(a:Int) (tn:Nat) (tk:Nat→Int) (ta:Nat→Int) (tt:Nat→ByteArray) (tv:Nat→Int)=>((([.junk,.junk,.ptr 0 0,.ptr 1 0,.ptr 2 0,.ro 4 tn (fun j=>[i64 (tk j),i64 (ta j),st (tt j),i64 (tv j)])]++jk 25):List V),([some (.blk [nilS]),some (.blk [i64 a]),some (.blk [i64 0])]:List (Option Chunk)))) x.1 x.2.1 x.2.2.1 x.2.2.2.1 x.2.2.2.2.1 x.2.2.2.2.2)
def R_ParseP:g_ParseP→CRes:=fun z=>.pan (.ifc 51 (.agg [i64 z.1,i64 z.2]))
abbrev ParseP_l0_a:Type:=(Unit)⊕(FS×FN×FM×FI×FI×FS×FN×FM×Nat×FI×FI×FS×FI×Int×Int×Nat×Nat×FS×FS×Nat)
abbrev ParseP_l0_g:Type:=(Int×Int)⊕(Unit)⊕(Int×Int×Nat×FS×FN×FM×FI×FI×FS×FN×FM)⊕(Nat×FS×FN×FM×FI×FI×FS×FN×FM)
def ParseP_l0_S0(x:a_ParseP)(y:Unit):St:={fr:=[V.junk,V.junk,V.ptr 0 0,V.ptr 1 0,V.ptr 2 0,V.junk,V.ptr 3 0]++jk 24,H:=hp [some (Chunk.blk [nilS]),some (Chunk.blk [i64 x.1]),some (Chunk.blk [i64 0]),some (Chunk.blk [V.ro 4 x.2.1 fun j=>[i64 (x.2.2.1 j),i64 (x.2.2.2.1 j),st (x.2.2.2.2.1 j),i64 (x.2.2.2.2.2 j)],i64 0,i64 0,nilS,nilS])],nx:=4,rt:=3,me:=8}
def ParseP_l0_d0(s:St):Unit:=()
def ParseP_l0_S1(x:a_ParseP)(y:FS×FN×FM×FI×FI×FS×FN×FM×Nat×FI×FI×FS×FI×Int×Int×Nat×Nat×FS×FS×Nat):St:={fr:=[V.junk,V.junk,V.ptr 0 0,V.ptr 1 0,V.ptr 2 0,V.junk,V.ptr 4 0]++jk 24,H:=hp [some (Chunk.blk [V.sl 3 6 0 y.2.2.2.2.2.2.2.2.2.2.2.2.2.2.2.2.2.2.2]),some (Chunk.blk [i64 x.1]),some (Chunk.blk [i64 0]),some (Chunk.row 42 6 y.2.2.2.2.2.2.2.2.2.2.2.2.2.2.2.2.2.2.2 fun j=>[st (y.1 j),V.ro 2 (y.2.1 j) (y.2.2.1 j),i64 (y.2.2.2.1 j),i64 (y.2.2.2.2.1 j),st (y.2.2.2.2.2.1 j),V.ro 4 (y.2.2.2.2.2.2.1 j) (y.2.2.2.2.2.2.2.1 j)]),some (Chunk.blk [V.ro 4 y.2.2.2.2.2.2.2.2.1 fun j=>[i64 (y.2.2.2.2.2.2.2.2.2.1 j),i64 (y.2.2.2.2.2.2.2.2.2.2.1 j),st (y.2.2.2.2.2.2.2.2.2.2.2.1 j),i64 (y.2.2.2.2.2.2.2.2.2.2.2.2.1 j)],i64 y.2.2.2.2.2.2.2.2.2.2.2.2.2.1,i64 y.2.2.2.2.2.2.2.2.2.2.2.2.2.2.1,V.sl 5 1 0 y.2.2.2.2.2.2.2.2.2.2.2.2.2.2.2.1,V.sl 6 1 0 y.2.2.2.2.2.2.2.2.2.2.2.2.2.2.2.2.1]),some (Chunk.row 9 1 y.2.2.2.2.2.2.2.2.2.2.2.2.2.2.2.1 fun j=>[st (y.2.2.2.2.2.2.2.2.2.2.2.2.2.2.2.2.2.1 j)]),some (Chunk.row 9 1 y.2.2.2.2.2.2.2.2.2.2.2.2.2.2.2.2.1 fun j=>[st (y.2.2.2.2.2.2.2.2.2.2.2.2.2.2.2.2.2.2.1 j)])],nx:=7,rt:=3,me:=8}
def ParseP_l0_d1(s:St):FS×FN×FM×FI×FI×FS×FN×FM×Nat×FI×FI×FS×FI×Int×Int×Nat×Nat×FS×FS×Nat:=((dRS (s.H 3) 0),dRN (s.H 3) 1,dRF (s.H 3) 1,dRI (s.H 3) 2,dRI (s.H 3) 3,dRS (s.H 3) 4,dRN (s.H 3) 5,dRF (s.H 3) 5,vRoN (cb s 4 0),dTI (cb s 4 0) 0,dTI (cb s 4 0) 1,dTS (cb s 4 0) 2,dTI (cb s 4 0) 3,vI (cb s 4 1),vI (cb s 4 2),vSlN (cb s 4 3),vSlN (cb s 4 4),dRS (s.H 5) 0,dRS (s.H 6) 0,vSlN (cb s 0 0))
def ParseP_l0_S(x:a_ParseP):ParseP_l0_a→St:=(Sum.elim (ParseP_l0_S0 x) (ParseP_l0_S1 x))
def ParseP_l0_d(s:St):ParseP_l0_a:=(match s.nx==4 with|true=>(.inl (ParseP_l0_d0 s)) |false=>(.inr (ParseP_l0_d1 s)))
theorem ParseP_l0_u(x:a_ParseP):VL (ParseP_l0_S x):=vl ParseP_l0_d (fun y=>by rcases y with y|y<;>rfl)
def ParseP_l0_T(x:a_ParseP):ParseP_l0_g→Ex×St:=(Sum.elim (fun z=>(Ex.panic (V.ifc 51 (V.agg [i64 z.1,i64 z.2])),{fr:=[V.junk,V.junk,V.ptr 0 0,V.ptr 1 0,V.ptr 2 0]++jk 26,H:=hp [some (Chunk.blk [nilS]),some (Chunk.blk [i64 x.1]),some (Chunk.blk [i64 0])],nx:=3,rt:=3,me:=8})) (Sum.elim (fun z=>(Ex.exit 0,{fr:=[V.junk,V.junk,V.ptr 0 0,V.ptr 1 0,V.ptr 2 0]++jk 26,H:=hp [some (Chunk.blk [nilS]),some (Chunk.blk [i64 x.1]),some (Chunk.blk [i64 0])],nx:=3,rt:=3,me:=8})) (Sum.elim (fun z=>(Ex.panic (V.ifc 51 (V.agg [i64 z.1,i64 z.2.1])),{fr:=[V.junk,V.junk,V.ptr 0 0,V.ptr 1 0,V.ptr 2 0]++jk 26,H:=hp [some (Chunk.blk [V.sl 3 6 0 z.2.2.1]),some (Chunk.blk [i64 x.1]),some (Chunk.blk [i64 0]),some (Chunk.row 42 6 z.2.2.1 fun j=>[st (z.2.2.2.1 j),V.ro 2 (z.2.2.2.2.1 j) (z.2.2.2.2.2.1 j),i64 (z.2.2.2.2.2.2.1 j),i64 (z.2.2.2.2.2.2.2.1 j),st (z.2.2.2.2.2.2.2.2.1 j),V.ro 4 (z.2.2.2.2.2.2.2.2.2.1 j) (z.2.2.2.2.2.2.2.2.2.2 j)])],nx:=4,rt:=3,me:=8})) (fun z=>(Ex.exit 0,{fr:=[V.junk,V.junk,V.ptr 0 0,V.ptr 1 0,V.ptr 2 0]++jk 26,H:=hp [some (Chunk.blk [V.sl 3 6 0 z.1]),some (Chunk.blk [i64 x.1]),some (Chunk.blk [i64 0]),some (Chunk.row 42 6 z.1 fun j=>[st (z.2.1 j),V.ro 2 (z.2.2.1 j) (z.2.2.2.1 j),i64 (z.2.2.2.2.1 j),i64 (z.2.2.2.2.2.1 j),st (z.2.2.2.2.2.2.1 j),V.ro 4 (z.2.2.2.2.2.2.2.1 j) (z.2.2.2.2.2.2.2.2 j)])],nx:=4,rt:=3,me:=8})))))
def ParseP_l0_t0{β:Type}(c_nextZ:a_nextZ→Option g_nextZ)(c_next:a_next→Option g_next)(c_procedureZ:a_procedureZ→Option g_procedureZ)(c_procedure:a_procedure→Option g_procedure)(x:a_ParseP)(y:Unit)(nx:ParseP_l0_a→Option β)(dn:ParseP_l0_g→Option β):Option β:=
 (c_nextZ (0,0,x.2)).bind fun z359=>if(z359.1 !=0)=true then(c_procedureZ z359.2.2.2.2).bind fun z367=>Sum.elim (fun z367a=>nx (.inr (fun j=>z367a.1,fun j=>z367a.2.1,fun(j j_1:Nat)=>[st (z367a.2.2.1 j_1),st (z367a.2.2.2.1 j_1)],fun j=>z367a.2.2.2.2.1,fun j=>z367a.2.2.2.2.2.1,fun j=>z367a.2.2.2.2.2.2.1,fun j=>z367a.2.2.2.2.2.2.2.1,fun j=>z367a.2.2.2.2.2.2.2.2.1,z367a.2.2.2.2.2.2.2.2.2.2.2.1,z367a.2.2.2.2.2.2.2.2.2.2.2.2.1,z367a.2.2.2.2.2.2.2.2.2.2.2.2.2.1,z367a.2.2.2.2.2.2.2.2.2.2.2.2.2.2.1,z367a.2.2.2.2.2.2.2.2.2.2.2.2.2.2.2.1,z367a.2.2.2.2.2.2.2.2.2.1,z367a.2.2.2.2.2.2.2.2.2.2.1,z367a.2.2.2.2.2.2.2.2.2.2.2.2.2.2.2.2.1,z367a.2.2.2.2.2.2.2.2.2.2.2.2.2.2.2.2.2.2.1,z367a.2.2.2.2.2.2.2.2.2.2.2.2.2.2.2.2.2.1,z367a.2.2.2.2.2.2.2.2.2.2.2.2.2.2.2.2.2.2.2,1))) (fun z367b=>dn (.inl z367b)) z367 else dn (.inr (.inl ()))
theorem ParseP_l0_n0{β:Type}(c_nextZ c_next)(c_procedureZ c_procedure)(x)(y)(nx:ParseP_l0_a→Option β)(dn):ParseP_l0_t0 c_nextZ c_next c_procedureZ c_procedure x y nx dn=(ParseP_l0_t0 c_nextZ c_next c_procedureZ c_procedure x y (fun y=>some (.inl y)) (fun z=>some (.inr z))).bind fun r=>Sum.elim nx dn r:=by
 unfold ParseP_l0_t0
 repeat' first|exact n0|refine n1 fun _=>?_|refine n2 ?_ ?_|refine n3 (fun _=>?_) fun _=>?_|rfl
theorem ParseP_l0_r0(c_nextZ c_next)(c_procedureZ c_procedure)(x)(y)(lo:LoopT):loopK (E6 ds) (ftg 18 (fun _ L=>L.length==1) A_nextZ R_nextZ c_nextZ (ftb 18 A_next R_next c_next (fg2 19 (fun _ L=>L.length==1) A_procedureZ R_procedureZ c_procedureZ (fg2 19 (fun _ L=>L.length==3) A_procedure R_procedure c_procedure ca0)))) lo 0 92 (bodyOf (E6 ds) 8 0) (ParseP_l0_S x (.inl y)) (KCM [(0,28),(1000,28)] 28)=ParseP_l0_t0 (vf A_nextZ c_nextZ) (vf A_next c_next) (vf A_procedureZ c_procedureZ) (vf A_procedure c_procedure) x y (fun y=>lo 0 92 (bodyOf (E6 ds) 8 0) (ParseP_l0_S x y) (KCM [(0,28),(1000,28)] 28)) (fun z=>some (.l (ParseP_l0_T x z).1 (ParseP_l0_T x z).2)):=by kernel_rfl
def ParseP_l0_t1{β:Type}(c_nextZ:a_nextZ→Option g_nextZ)(c_next:a_next→Option g_next)(c_procedureZ:a_procedureZ→Option g_procedureZ)(c_procedure:a_procedure→Option g_procedure)(x:a_ParseP)(y:FS×FN×FM×FI×FI×FS×FN×FM×Nat×FI×FI×FS×FI×Int×Int×Nat×Nat×FS×FS×Nat)(nx:ParseP_l0_a→Option β)(dn:ParseP_l0_g→Option β):Option β:=
 (c_next (y.2.2.2.2.2.2.2.2.2.2.2.2.2.1,y.2.2.2.2.2.2.2.2.2.2.2.2.2.2.1,y.2.2.2.2.2.2.2.2.1,y.2.2.2.2.2.2.2.2.2.1,y.2.2.2.2.2.2.2.2.2.2.1,y.2.2.2.2.2.2.2.2.2.2.2.1,y.2.2.2.2.2.2.2.2.2.2.2.2.1,y.2.2.2.2.2.2.2.2.2.2.2.2.2.2.2.1,y.2.2.2.2.2.2.2.2.2.2.2.2.2.2.2.2.2.1,y.2.2.2.2.2.2.2.2.2.2.2.2.2.2.2.2.1,y.2.2.2.2.2.2.2.2.2.2.2.2.2.2.2.2.2.2.1)).bind fun z381=>if(z381.1 !=0)=true then(c_procedure z381.2.2.2.2).bind fun z393=>Sum.elim (fun z393a=>if(y.2.2.2.2.2.2.2.2.2.2.2.2.2.2.2.2.2.2.2+1)*96≤roomBound∧y.2.2.2.2.2.2.2.2.2.2.2.2.2.2.2.2.2.2.2+1≤maxLen∧y.2.2.2.2.2.2.2.2.2.2.2.2.2.2.2.2.2.2.2≤y.2.2.2.2.2.2.2.2.2.2.2.2.2.2.2.2.2.2.2 then nx (.inr (fun j=>if j<y.2.2.2.2.2.2.2.2.2.2.2.2.2.2.2.2.2.2.2 then y.1 j else z393a.1,fun j=>if j<y.2.2.2.2.2.2.2.2.2.2.2.2.2.2.2.2.2.2.2 then y.2.1 j else z393a.2.1,fun(j j_1:Nat)=>if j<y.2.2.2.2.2.2.2.2.2.2.2.2.2.2.2.2.2.2.2 then y.2.2.1 j j_1 else[st (z393a.2.2.1 j_1),st (z393a.2.2.2.1 j_1)],fun j=>if j<y.2.2.2.2.2.2.2.2.2.2.2.2.2.2.2.2.2.2.2 then y.2.2.2.1 j else z393a.2.2.2.2.1,fun j=>if j<y.2.2.2.2.2.2.2.2.2.2.2.2.2.2.2.2.2.2.2 then y.2.2.2.2.1 j else z393a.2.2.2.2.2.1,fun j=>if j<y.2.2.2.2.2.2.2.2.2.2.2.2.2.2.2.2.2.2.2 then y.2.2.2.2.2.1 j else z393a.2.2.2.2.2.2.1,fun j=>if j<y.2.2.2.2.2.2.2.2.2.2.2.2.2.2.2.2.2.2.2 then y.2.2.2.2.2.2.1 j else z393a.2.2.2.2.2.2.2.1,fun(j j_1:Nat)=>if j<y.2.2.2.2.2.2.2.2.2.2.2.2.2.2.2.2.2.2.2 then y.2.2.2.2.2.2.2.1 j j_1 else z393a.2.2.2.2.2.2.2.2.1 j_1,z393a.2.2.2.2.2.2.2.2.2.2.2.1,z393a.2.2.2.2.2.2.2.2.2.2.2.2.1,z393a.2.2.2.2.2.2.2.2.2.2.2.2.2.1,z393a.2.2.2.2.2.2.2.2.2.2.2.2.2.2.1,z393a.2.2.2.2.2.2.2.2.2.2.2.2.2.2.2.1,z393a.2.2.2.2.2.2.2.2.2.1,z393a.2.2.2.2.2.2.2.2.2.2.1,z393a.2.2.2.2.2.2.2.2.2.2.2.2.2.2.2.2.1,z393a.2.2.2.2.2.2.2.2.2.2.2.2.2.2.2.2.2.2.1,z393a.2.2.2.2.2.2.2.2.2.2.2.2.2.2.2.2.2.1,z393a.2.2.2.2.2.2.2.2.2.2.2.2.2.2.2.2.2.2.2,y.2.2.2.2.2.2.2.2.2.2.2.2.2.2.2.2.2.2.2+1))else none) (fun z393b=>dn (.inr (.inr (.inl (z393b.1,z393b.2,y.2.2.2.2.2.2.2.2.2.2.2.2.2.2.2.2.2.2.2,y.1,y.2.1,y.2.2.1,y.2.2.2.1,y.2.2.2.2.1,y.2.2.2.2.2.1,y.2.2.2.2.2.2.1,y.2.2.2.2.2.2.2.1))))) z393 else dn (.inr (.inr (.inr (y.2.2.2.2.2.2.2.2.2.2.2.2.2.2.2.2.2.2.2,y.1,y.2.1,y.2.2.1,y.2.2.2.1,y.2.2.2.2.1,y.2.2.2.2.2.1,y.2.2.2.2.2.2.1,y.2.2.2.2.2.2.2.1))))
theorem ParseP_l0_n1{β:Type}(c_nextZ c_next)(c_procedureZ c_procedure)(x)(y)(nx:ParseP_l0_a→Option β)(dn):ParseP_l0_t1 c_nextZ c_next c_procedureZ c_procedure x y nx dn=(ParseP_l0_t1 c_nextZ c_next c_procedureZ c_procedure x y (fun y=>some (.inl y)) (fun z=>some (.inr z))).bind fun r=>Sum.elim nx dn r:=by
 unfold ParseP_l0_t1
 repeat' first|exact n0|refine n1 fun _=>?_|refine n2 ?_ ?_|refine n3 (fun _=>?_) fun _=>?_|rfl
theorem ParseP_l0_r1(c_nextZ c_next)(c_procedureZ c_procedure)(x)(y)(lo:LoopT):loopK (E6 ds) (ftg 18 (fun _ L=>L.length==1) A_nextZ R_nextZ c_nextZ (ftb 18 A_next R_next c_next (fg2 19 (fun _ L=>L.length==1) A_procedureZ R_procedureZ c_procedureZ (fg2 19 (fun _ L=>L.length==3) A_procedure R_procedure c_procedure ca0)))) lo 0 92 (bodyOf (E6 ds) 8 0) (ParseP_l0_S x (.inr y)) (KCM [(0,28),(1000,28)] 28)=ParseP_l0_t1 (vf A_nextZ c_nextZ) (vf A_next c_next) (vf A_procedureZ c_procedureZ) (vf A_procedure c_procedure) x y (fun y=>lo 0 92 (bodyOf (E6 ds) 8 0) (ParseP_l0_S x y) (KCM [(0,28),(1000,28)] 28)) (fun z=>some (.l (ParseP_l0_T x z).1 (ParseP_l0_T x z).2)):=by kernel_rfl
noncomputable def ParseP_l0(c_nextZ:a_nextZ→Option g_nextZ)(c_next:a_next→Option g_next)(c_procedureZ:a_procedureZ→Option g_procedureZ)(c_procedure:a_procedure→Option g_procedure)(q:Nat)(x:a_ParseP):ParseP_l0_a→Option ParseP_l0_g:=lpG (Sum.elim (fun y=>ParseP_l0_t0 c_nextZ c_next c_procedureZ c_procedure x y (fun y=>some (.inl y)) (fun z=>some (.inr z))) (fun y=>ParseP_l0_t1 c_nextZ c_next c_procedureZ c_procedure x y (fun y=>some (.inl y)) (fun z=>some (.inr z)))) q
theorem ParseP_l0_s(c_nextZ)(h_nextZ:∀x z,c_nextZ x=some z→SC (E6 ds) 18 (A_nextZ x).1 (A_nextZ x).2 (R_nextZ z))(c_next)(h_next:∀x z,c_next x=some z→SC (E6 ds) 18 (A_next x).1 (A_next x).2 (R_next z))(c_procedureZ)(h_procedureZ:∀x z,c_procedureZ x=some z→SC (E6 ds) 19 (A_procedureZ x).1 (A_procedureZ x).2 (R_procedureZ z))(c_procedure)(h_procedure:∀x z,c_procedure x=some z→SC (E6 ds) 19 (A_procedure x).1 (A_procedure x).2 (R_procedure z))(q:Nat)(x:a_ParseP):Ll (E6 ds) (bodyOf (E6 ds) 8 0) (ParseP_l0_S x) (ParseP_l0_T x) (ParseP_l0 c_nextZ c_next c_procedureZ c_procedure q x):=
 slp (fk h_nextZ (fk h_next (fk2 h_procedureZ (fk2 h_procedure ca0_sound)))) (hX6 ds) (fun lo y=>by
  rcases y with y|y
  ·exact(ParseP_l0_r0 c_nextZ c_next c_procedureZ c_procedure x y lo).trans (by rw[v_nextZ,v_next,v_procedureZ,v_procedure];exact ParseP_l0_n0 _ _ _ _ _ _ _ _)
  ·exact(ParseP_l0_r1 c_nextZ c_next c_procedureZ c_procedure x y lo).trans (by rw[v_nextZ,v_next,v_procedureZ,v_procedure];exact ParseP_l0_n1 _ _ _ _ _ _ _ _)) (fun z=>by rcases z with z|z|z|z<;>kernel_rfl) q
def t_ParseP{β:Type}(c_nextZ:a_nextZ→Option g_nextZ)(c_next:a_next→Option g_next)(c_procedureZ:a_procedureZ→Option g_procedureZ)(c_procedure:a_procedure→Option g_procedure)(l_ParseP_l0:ParseP_l0_a→Option ParseP_l0_g)(x:a_ParseP)(dn:g_ParseP→Option β):Option β:=
 (l_ParseP_l0 (.inl ())).bind fun z339=>Sum.elim (fun z339a=>dn z339a) (fun z339b=>Sum.elim (fun z339ba=>none) (fun z339bb=>Sum.elim (fun z339bba=>dn (z339bba.1,z339bba.2.1)) (fun z339bbb=>none) z339bb) z339b) z339
theorem n_ParseP{β:Type}(c_nextZ c_next)(c_procedureZ c_procedure)(l_ParseP_l0)(x)(dn:g_ParseP→Option β):t_ParseP c_nextZ c_next c_procedureZ c_procedure l_ParseP_l0 x dn=(t_ParseP c_nextZ c_next c_procedureZ c_procedure l_ParseP_l0 x some).bind dn:=by
 unfold t_ParseP
 repeat' first|exact n0|refine n1 fun _=>?_|refine n2 ?_ ?_|refine n3 (fun _=>?_) fun _=>?_|rfl
theorem r_ParseP(c_nextZ c_next)(c_procedureZ c_procedure)(l_ParseP_l0)(x):restK 4 3 (E6 ds) (ftg 18 (fun _ L=>L.length==1) A_nextZ R_nextZ c_nextZ (ftb 18 A_next R_next c_next (fg2 19 (fun _ L=>L.length==1) A_procedureZ R_procedureZ c_procedureZ (fg2 19 (fun _ L=>L.length==3) A_procedure R_procedure c_procedure ca0)))) (lt4 0 (fun _=>true) (bodyOf (E6 ds) 8 0) (ParseP_l0_S x) (ParseP_l0_T x) l_ParseP_l0 lo0) 8 (A_ParseP x).1 (A_ParseP x).2 K=t_ParseP (vf A_nextZ c_nextZ) (vf A_next c_next) (vf A_procedureZ c_procedureZ) (vf A_procedure c_procedure) (lf (bodyOf (E6 ds) 8 0) (ParseP_l0_S x) l_ParseP_l0) x (fun z=>some (.c (R_ParseP z))):=by kernel_rfl
theorem s_ParseP(c_nextZ)(h_nextZ:∀x z,c_nextZ x=some z→SC (E6 ds) 18 (A_nextZ x).1 (A_nextZ x).2 (R_nextZ z))(c_next)(h_next:∀x z,c_next x=some z→SC (E6 ds) 18 (A_next x).1 (A_next x).2 (R_next z))(c_procedureZ)(h_procedureZ:∀x z,c_procedureZ x=some z→SC (E6 ds) 19 (A_procedureZ x).1 (A_procedureZ x).2 (R_procedureZ z))(c_procedure)(h_procedure:∀x z,c_procedure x=some z→SC (E6 ds) 19 (A_procedure x).1 (A_procedure x).2 (R_procedure z))(q:Nat)(x:a_ParseP)(z:g_ParseP)(h:t_ParseP c_nextZ c_next c_procedureZ c_procedure (ParseP_l0 c_nextZ c_next c_procedureZ c_procedure q x) x some=some z):RC 4 3 (E6 ds) 8 (A_ParseP x).1 (A_ParseP x).2 (R_ParseP z):=by
 refine RC.of (hX6 ds) (fk h_nextZ (fk h_next (fk2 h_procedureZ (fk2 h_procedure ca0_sound)))) (lk4 (ParseP_l0_s c_nextZ h_nextZ c_next h_next c_procedureZ h_procedureZ c_procedure h_procedure q x) lo0_sound) ((r_ParseP c_nextZ c_next c_procedureZ c_procedure (ParseP_l0 c_nextZ c_next c_procedureZ c_procedure q x) x).trans ?_)
 rw[v_nextZ,v_next,v_procedureZ,v_procedure,ParseP_l0_u,n_ParseP,h];rfl
noncomputable def ParseP(q:Nat)(x:a_ParseP):Option g_ParseP:=t_ParseP (nextZ q) (next q) (procedureZ q) (procedure q) (ParseP_l0 (nextZ q) (next q) (procedureZ q) (procedure q) q x) x some
theorem sc_ParseP(q:Nat):∀(x:a_ParseP) (z:g_ParseP),ParseP q x=some z→RC 4 3 (E6 ds) 8 (A_ParseP x).1 (A_ParseP x).2 (R_ParseP z):=fun x z h=>s_ParseP (nextZ q) (fun x z h=>sc6.2 (sc_nextZ q x z h)) (next q) (fun x z h=>sc6.2 (sc_next q x z h)) (procedureZ q) (fun x z h=>sc6.2 (sc_procedureZ q x z h)) (procedure q) (fun x z h=>sc6.2 (sc_procedure q x z h)) q x z h
end Go.Proofs.YtjfkkokeegpeiaaDoor

