/- Texts joined. -/
import Derived.Test.YtbmbhcheonjigaaGreatDoorQA
import Derived.Orders
import Derived.Still
/- Maps, interfaces. -/
set_option linter.unusedSimpArgs false
set_option linter.defProp false
set_option linter.unusedVariables false
namespace Go.Am
section
open Go Go.RowKit
theorem ba_eq{a b:ByteArray}:(a==b)=true↔a=b:=by
 show(a.data==b.data)=true↔_;rw[beq_iff_eq];exact⟨λh=>by cases a;cases b;simp_all,λh=>by rw[h]⟩
section
variable {P:Program} {β:Bt} {S D:Pr} {H:Hp} {w:World} {new:Nat} {o:Oper} {a:Act} {k:KR} {r:Ans}
theorem bs8{t:TypeId}{z:V}(h:bv8 P t=some z):∃y,(∀w,(zeroValue t).run P w= .ok y w)/\(∀(β:Bt) (S D:Pr) (w:World),den β S w D z y)/\z.pure=true:=by
 unfold bv8 at h;split at h
 ·rename_i i hi;split at h
  ·rename_i v hv
   have hz:z=nM v/\z.pure=true:=by
    split at h
    ·cases h
    ·rename_i z' hne;simp only[Option.some.injEq]at h;subst h;refine⟨rfl,?_⟩;unfold nM;unfold nM at hne;split
     ·rename_i cs;simp only at hne;split
      ·simp only[V.pure];rw[pureL_all];intro x hx;obtain⟨y,_,rfl⟩:=List.mem_map.1 hx;rfl
      ·rename_i hc;rw[if_neg hc]at hne;exact absurd rfl hne
     ·rfl
   obtain⟨rfl,hp⟩:=hz;exact⟨v,λw=>by simp[zeroValue,typeInfo,hi,hv],λβ S D w=>qA v,hp⟩
  ·cases h
 ·cases h
def KT.d:KT->TypeDesc
 | .i=>.int .i64
 | .s=>.string
theorem bc5{t e:TypeId}{kt:KT}(h:fo9 P t=some (kt,e)):∃kk,P.underlying t=some (.map kk e)/\P.underlying kk=some kt.d:=by
 unfold fo9 at h;split at h
 ·rename_i kk e' hu;split at h
  ·rename_i hk;simp only[Option.some.injEq,Prod.mk.injEq]at h;obtain⟨rfl,rfl⟩:=h;exact⟨kk,hu,hk⟩
  ·rename_i hk;simp only[Option.some.injEq,Prod.mk.injEq]at h;obtain⟨rfl,rfl⟩:=h;exact⟨kk,hu,hk⟩
  ·cases h
 ·cases h
theorem ar7(hM:Mem β S D H w)(hn:¬D new){t:TypeId}{c:Z1}(ho:o.op= .makeMap t none)(hc:∀β' w' b,w'.heap[b]? =some (.map (#[]:Array MapEntry) 0)->d7 β' S w' (kY D new) b 1 c):
 rT P β S D H new o a w (.val (.mp new) [(new,some c)]):=by
 obtain⟨g1,g2,g3⟩:=hM.new (m:=1) (c:=c) (b:=w.heap.size) (w':=w.alloc (.map #[] 0)) hn (j9 D new) (cS D new) (dX w _) (Nat.le_refl _) (λ_=>by show w.heap.size< (w.heap.push _).size;simp) (hc _ _ _ (heap_alloc_new w _));refine⟨.map (some w.heap.size),_,_,_,.inl (by simp only[execOp,ho,Instr.makeMap,Option.map_none,newObj,Sem.run_bind,Sem.run,Result.andThen_ok,Sem.run_pure,World.alloc]),g1,?_,g2,g3,λi b m hi h0 _=>(dX w _).block b (hM.own i b m hi h0).1⟩;simp only[den];refine⟨⟨cS D new,rfl⟩,λb m h=>?_⟩;rw[j6]at h;cases h;rfl
theorem ce3(hM:Mem β S D H w)(hn:¬D new){t:TypeId}(ho:o.op= .makeMap t none)(h:xK P t new k=some r):dO P β S D H new o a w k r:=by
 unfold xK at h;split at h
 ·exact⟨_,h,ar7 hM hn ho λβ' w' b hb=>by simp only[d7];exact⟨Nat.one_pos,[],0,hb,rfl⟩⟩
 ·split at h
  ·exact⟨_,h,ar7 hM hn ho λβ' w' b hb=>by simp only[d7];exact⟨Nat.one_pos,[],0,hb,rfl,by simp,λs=>by simp[dM]⟩⟩
  ·cases h
 ·cases h
theorem jO{ok b:Bool}{v:V}{y:Value}(h:nT ok b v k=some r)(hd:den β S w D v y):
 ∃x,k (.val x [])=some r/\den β S w D x (if ok then .tuple #[y,.bool b]else y):=by
 unfold nT at h;cases ok with
 |true=>
  refine⟨_,h,?_⟩;rw[if_pos rfl];simp only[den,d9];exact⟨[y,.bool b],rfl,y,_,rfl,hd,_,_,rfl,rfl,rfl⟩
 |false=>exact⟨_,h,by rw[if_neg (by decide)];exact hd⟩
theorem hf3{n:Int}:∀{l:List (Int×V)} {es:List MapEntry} {ok:Bool} {z:V} (i:Nat),av3 β S w D l es->ck4 ok z n k l=some r->
 ∃q,Instr.findNow (.int .i64) (.int .i64 n) es i=some q/\∃b v,nT ok b v k=some r/\(match q with|some p=>b=true/\den β S w D v p.2|none=>b=false/\v=z)
 | [],es,ok,z,i,hm,h=>by
  have:es=[]:=hm;subst this;exact⟨none,rfl,false,z,h,rfl,rfl⟩
 | (m,v)::l,es,ok,z,i,hm,h=>by
  obtain⟨e,es',rfl,h2,h3,h4,h5⟩:=hm;rw[ck4]at h;simp only[Instr.findNow,h2,Instr.sameNow,if_pos rfl];by_cases hn:n=m
  ·subst hn;rw[if_pos rfl]at h;simp only[beq_self_eq_true];exact⟨_,rfl,true,v,h,rfl,h3⟩
  ·rw[if_neg hn]at h;have:(n==m)=false:=by simpa using hn
   simp only[this];exact hf3 (i+1) h5 h
theorem ay5{s:ByteArray}:∀{es:List MapEntry} (i:Nat),(∀e∈es,∃q,e.key= .string q)->Instr.findNow .string (.string s) es i=some (dM s es i)
 | [],i,_=>rfl
 |e::es,i,h=>by
  obtain⟨q,hq⟩:=h e (.head _);simp only[Instr.findNow,dM,hq,Instr.sameNow];cases hs:(s==q)with
  |true=>simp
  |false=>simp only[Bool.false_eq_true,if_false];exact ay5 (i+1) λe he=>h e (.tail _ he)
theorem cp9{s:ByteArray}{v':Value}:∀{es:List MapEntry} {j i:Nat} {v:Value},dM s es j=some (i,v)->j<=i/\(∃e,es[i-j]? =some e/\e.key= .string s)/\
 ∀s',dM s' (es.modify (i-j) λe=>{e with key:=.string s,val:=v'}) j=if(s'==s) then some (i,v')else dM s' es j
 | [],j,i,v,h=>by cases h
 |e::es,j,i,v,h=>by
  have rest:dM s es (j+1)=some (i,v)->(∀s',(∃q,e.key= .string q/\(s'==q)=true)->¬(s'==s)=true)->j<=i/\(∃e',(e::es)[i-j]? =some e'/\e'.key= .string s)/\
   ∀s',dM s' ((e::es).modify (i-j) λe=>{e with key:=.string s,val:=v'}) j=if(s'==s) then some (i,v')else dM s' (e::es) j:=by
   intro h hne;obtain⟨g1,⟨e',g2,g3⟩,g4⟩:=cp9 (v':=v') h;have e1:i-j=(i-(j+1))+1:=by omega
   refine⟨by omega,⟨e',by rw[e1];simpa using g2,g3⟩,λs'=>?_⟩;rw[e1,List.modify_succ_cons];unfold dM;have hg:=g4 s';have hn:=hne s';cases hk:e.key with
   |string q=>
    simp only;by_cases hs:(s'==q)=true
    ·rw[if_pos hs,if_pos hs,if_neg (hn ⟨q,hk,hs⟩)]
    ·rw[if_neg hs,if_neg hs];exact hg
   |_=>simp only;exact hg
  unfold dM at h;cases hk:e.key with
  |string q=>
   rw[hk]at h;simp only at h;by_cases hs:(s==q)=true
   ·rw[if_pos hs]at h;simp only[Option.some.injEq,Prod.mk.injEq]at h;obtain⟨rfl,rfl⟩:=h;obtain rfl:=ba_eq.1 hs;refine⟨Nat.le_refl _,⟨e,by simp,hk⟩,λs'=>?_⟩;rw[Nat.sub_self,List.modify_zero_cons];unfold dM;simp only[hk];by_cases h':(s'==s)=true
    ·rw[if_pos h',if_pos h']
    ·rw[if_neg h',if_neg h',if_neg h']
   ·rw[if_neg hs]at h;refine rest h λs'=>?_;rintro⟨q',hq',h'⟩ h2;rw[hk]at hq';cases hq';obtain rfl:=ba_eq.1 h2;exact hs h'
  |_=>
   rw[hk]at h;refine rest h λs'=>?_;rintro⟨q',hq',_⟩;rw[hk]at hq';cases hq'
theorem an5{s:ByteArray}{v':Value}{c:Nat}:∀{es:List MapEntry} {j:Nat},dM s es j=none->∀s',dM s' (es++[{key:=.string s,val:=v',born:=c}]) j=if(s'==s) then some (j+es.length,v')else dM s' es j
 | [],j,h,s'=>by simp[dM]
 |e::es,j,h,s'=>by
  have hne:∀q,e.key= .string q->¬(s==q)=true/\dM s es (j+1)=none:=λq hq=>by
   unfold dM at h;rw[hq]at h;simp only at h;by_cases hs:(s==q)=true
   ·rw[if_pos hs]at h;cases h
   ·rw[if_neg hs]at h;exact⟨hs,h⟩
  rw[List.cons_append];unfold dM;cases hk:e.key with
  |string q=>
   obtain⟨h1,h2⟩:=hne q hk;simp only;by_cases hs:(s'==q)=true
   ·rw[if_pos hs,if_pos hs,if_neg (λg=>h1 (by rw[<-ba_eq.1 g];exact hs))]
   ·rw[if_neg hs,if_neg hs,an5 h2 s'];simp only[List.length_cons,Nat.add_assoc,Nat.add_comm 1]
  |_=>
   have h2:dM s es (j+1)=none:=by
    unfold dM at h;rw[hk]at h;exact h
   simp only;rw[an5 h2 s'];simp only[List.length_cons,Nat.add_assoc,Nat.add_comm 1]
theorem ab0{kk:TypeId}{d:TypeDesc}{key:Value}{es:List MapEntry}{q:Option (Nat×Value)}(hu:P.underlying kk=some d)(hq:Instr.findNow d key es 0=some q):(Instr.findKey kk key es).run P w= .ok q w:=by
 simp[Instr.findKey,Sem.run_bind,run_underlying hu,hq]
theorem zK{b:Bool}{kk:TypeId}{ik:IntKind}{key:Value}{n:Nat}(hu:P.underlying kk=some (.int ik)):(Instr.checkKey b (n+1) kk key).run P w= .ok () w:=by
 simp[Instr.checkKey,Sem.run_bind,run_underlying hu]
theorem qO{b:Bool}{kk:TypeId}{key:Value}{n:Nat}(hu:P.underlying kk=some .string):(Instr.checkKey b (n+1) kk key).run P w= .ok () w:=by
 simp[Instr.checkKey,Sem.run_bind,run_underlying hu]
theorem rL{b:Nat}{es:Array MapEntry}{clock:Nat}(hb:w.heap[b]? =some (.map es clock)):(getObj b).run P w= .ok (.map es clock) w:=by simp[getObj,Sem.run,hb]
def cv4(ok:Bool)(z:Value):Option (Nat×Value)->Value
 |some p=>if ok then .tuple #[p.2,.bool true]else p.2
 |none=>if ok then .tuple #[z,.bool false]else z
theorem bu0{t kk e:TypeId}{ok:Bool}{d:TypeDesc}{b:Nat}{es:List MapEntry}{clock:Nat}{key z:Value}{q:Option (Nat×Value)}(hu:P.underlying t=some (.map kk e))(hk:P.underlying kk=some d)(hck:∀b',(Instr.checkKey b' 10000 kk key).run P w= .ok () w)
 (hb:w.heap[b]? =some (.map es.toArray clock)) (hq:Instr.findNow d key es 0=some q) (hz:(zeroValue e).run P w= .ok z w):
 (Instr.lookup t (.map (some b)) key ok).run P w= .ok (cv4 ok z q) w:=by
 have hf:=ab0 (w:=w) hk hq;cases q with
 |none=>simp[cv4,Instr.lookup,Sem.run_bind,run_underlying hu,rL hb,hck,hf,hz]
 |some p=>simp[cv4,Instr.lookup,Sem.run_bind,run_underlying hu,rL hb,hck,hf]
theorem dh8(hM:Mem β S D H w){t:TypeId}{x y:Operand}{vx vy:V}{ok:Bool}(ho:o.op= .lookup t x y ok)(hx:den β S w D vx (a.eval x))(hy:den β S w D vy (a.eval y))(h:af4 P t vx vy ok H k=some r):dO P β S D H new o a w k r:=by
 unfold af4 at h;split at h
 ·rename_i kt e hmp;obtain⟨kk,hu,hk⟩:=bc5 hmp;split at h
  ·rename_i z hz;obtain⟨zy,hz1,hz2,hz3⟩:=bs8 hz;split at h
   ·rename_i i;simp only[den]at hx;split at h
    ·rename_i l hi;obtain⟨b,m,hb,hr⟩:=hM.live i _ hi;have hub:=hx.2 b m hb;simp only[d7]at hr;obtain⟨hm0,es,clock,h1,h2⟩:=hr;split at h
     ·rename_i n
      replace hk:P.underlying kk=some (.int .i64):=hk
      simp only[den]at hy;obtain⟨q,q1,bb,v,q2,q3⟩:=hf3 0 h2 h;have hrun:=bu0 (ok:=ok) (w:=w) (z:=zy) hu hk (λb'=>zK hk) h1 q1 (hz1 w);cases q with
      |some p=>
       obtain⟨rfl,hd⟩:=q3;obtain⟨xv,g1,g2⟩:=jO q2 hd;exact⟨_,g1,f9 hM (by simp only[execOp,ho,hub,hy,Sem.run_bind,hrun,Result.andThen_ok,Sem.run_pure];rfl) g2⟩
      |none=>
       obtain⟨rfl,rfl⟩:=q3;obtain⟨xv,g1,g2⟩:=jO q2 (hz2 β S D w);exact⟨_,g1,f9 hM (by simp only[execOp,ho,hub,hy,Sem.run_bind,hrun,Result.andThen_ok,Sem.run_pure];rfl) g2⟩
     ·cases h
    ·rename_i n g f hi;obtain⟨b,m,hb,hr⟩:=hM.live i _ hi;have hub:=hx.2 b m hb;simp only[d7]at hr;obtain⟨hm0,es,clock,h1,h2,h3,h4⟩:=hr;split at h
     ·rename_i s
      replace hk:P.underlying kk=some .string:=hk
      simp only[den]at hy;have hrun:=bu0 (ok:=ok) (w:=w) (z:=zy) (d:=.string) (key:=.string s) hu hk (λb'=>qO hk) h1 (ay5 (s:=s) 0 h3) (hz1 w);have hs:=h4 s;rw[bc6]at h;cases hq:dM s es 0 with
      |some p=>
       rw[hq]at hs hrun;obtain⟨e1,e2,_⟩:=hs;rw[e1,if_pos rfl]at h;obtain⟨xv,g1,g2⟩:=jO h e2;exact⟨_,g1,f9 hM (by simp only[execOp,ho,hub,hy,Sem.run_bind,hrun,Result.andThen_ok,Sem.run_pure];rfl) g2⟩
      |none=>
       rw[hq]at hs hrun;simp only at hs;rw[hs,if_neg (by decide)]at h;obtain⟨xv,g1,g2⟩:=jO h (hz2 β S D w);exact⟨_,g1,f9 hM (by simp only[execOp,ho,hub,hy,Sem.run_bind,hrun,Result.andThen_ok,Sem.run_pure];rfl) g2⟩
     ·cases h
    ·cases h
   ·cases h
  ·cases h
 ·cases h
theorem es2{b:Nat}{x:Obj}(h:b<w.heap.size):({w with heap:=w.heap.setIfInBounds b x}:World).heap[b]? =some x:=by simp[h]
theorem by1{t kk e:TypeId}{d:TypeDesc}{b:Nat}{es:List MapEntry}{clock:Nat}{key v:Value}(hu:P.underlying t=some (.map kk e))(hk:P.underlying kk=some d)(hck:(Instr.checkKey false 10000 kk key).run P w= .ok () w)
 (hb:w.heap[b]? =some (.map es.toArray clock)) (hq:Instr.findNow d key es 0=some none):
 (Instr.mapUpdate t (.map (some b)) key v).run P w= .ok () {w with heap:=w.heap.setIfInBounds b (.map (es++[({key:=key,val:=v,born:=clock}:MapEntry)]).toArray (clock+1))}:=by
 have hf:=ab0 (w:=w) hk hq;simp[Instr.mapUpdate,Sem.run_bind,run_underlying hu,rL hb,hck,hf,setObj,Sem.run,hb]
theorem el9{t kk e:TypeId}{b:Nat}{es:List MapEntry}{clock i:Nat}{s:ByteArray}{v u:Value}{e0:MapEntry}(hu:P.underlying t=some (.map kk e))(hk:P.underlying kk=some .string)
 (hb:w.heap[b]? =some (.map es.toArray clock)) (hq:Instr.findNow .string (.string s) es 0=some (some (i,u))) (he:es[i]? =some e0) (h0:e0.key= .string s):
 (Instr.mapUpdate t (.map (some b)) (.string s) v).run P w= .ok () {w with heap:=w.heap.setIfInBounds b (.map (es.modify i λ(e:MapEntry)=>{e with key:=.string s,val:=v}).toArray clock)}:=by
 have hf:=ab0 (w:=w) hk hq
 have hst:∀x:Value,(Instr.keyThatStays (.string s) x).run P w=if Instr.sameBits 10000 (.string s) x then .ok x w else(Instr.keyThatStays (.string s) x).run P w:=by
  intro x;split
  ·rename_i h;simp[Instr.keyThatStays,h]
  ·rfl
 have hsb:Instr.sameBits 10000 (.string s) (.string s)=true:=by simp[Instr.sameBits,ba_eq]
 have h1:=hst (.string s);rw[if_pos hsb]at h1;have hi:(es.toArray[i]?.map (·.key)).getD (.string s)= .string s:=by simp[he,h0]
 simp[Instr.mapUpdate,Sem.run_bind,run_underlying hu,rL hb,qO hk,hf,he,h0,h1,setObj,Sem.run,hb]
theorem ch7:∀{l:List (Int×V)} {es:List MapEntry},av3 β S w D l es->l.length=es.length
 | [],es,h=>by
  have:es=[]:=h;subst this;rfl
 | (m,x)::l,es,h=>by
  obtain⟨e,es',rfl,_,_,_,h5⟩:=h;simp[ch7 h5]
theorem ch4:∀{l:List (Int×V)} {es:List MapEntry} {n:Int} {v:V} {u:Value} {c:Nat},av3 β S w D l es->den β S w D v u->v.pure=true->av3 β S w D (l++[(n,v)]) (es++[{key:=.int .i64 n,val:=u,born:=c}])
 | [],es,n,v,u,c,h,hd,hp=>by
  have:es=[]:=h;subst this;exact⟨_,_,rfl,rfl,hd,hp,rfl⟩
 | (m,x)::l,es,n,v,u,c,h,hd,hp=>by
  obtain⟨e,es',rfl,h2,h3,h4,h5⟩:=h;exact⟨e,_,rfl,h2,h3,h4,ch4 h5 hd hp⟩
theorem bp7{n:Int}:∀{l:List (Int×V)} {es:List MapEntry} (i:Nat),av3 β S w D l es->(l.all λp=>p.1 !=n)=true->Instr.findNow (.int .i64) (.int .i64 n) es i=some none
 | [],es,i,h,_=>by
  have:es=[]:=h;subst this;rfl
 | (m,x)::l,es,i,h,ha=>by
  obtain⟨e,es',rfl,h2,h3,h4,h5⟩:=h;simp only[List.all_cons,Bool.and_eq_true,bne_iff_ne,ne_eq]at ha;simp only[Instr.findNow,h2,Instr.sameNow,if_pos rfl];have:(n==m)=false:=by simpa using λe=>ha.1 e.symm
  simp only[this];exact bp7 (i+1) h5 (by simpa using ha.2)
theorem fc3(hM:Mem β S D H w){i b m:Nat}{c c':Z1}{x:Obj}{s:Sem Unit}(hs:execOp a.eval o=(do s;pure .skip:Sem Next))(hi:H i=some c)(hb:β i=some (b,m))(hm0:0<m)(hrun:s.run P w= .ok () {w with heap:=w.heap.setIfInBounds b x})
 (hc:d7 β S {w with heap:=w.heap.setIfInBounds b x} D b m c'):rT P β S D H new o a w (.val (.sc undef) [(i,some c')]):=by
 have hlt:=(hM.own i b m hb hm0).1
 obtain⟨q1,q2⟩:=hM.put (w':={w with heap:=w.heap.setIfInBounds b x}) (c':=c') hi hb hm0 ⟨rfl,rfl,rfl,by simp,λj _ hj=>by
  have:b≠j:=λe=>hj (by rw[e])
  simp[this]⟩ hc
 refine⟨undef,_,β,S,.inr ⟨by rw[hs,Sem.run_bind,hrun];rfl,rfl⟩,q1.mono (j9 D new),by simp[den],q2,AB _ _,λi' b' m' hi' h0' hn'=>?_⟩;have:b≠b':=λe=>by subst e;exact hn' (by have:=hM.inj i' i _ _ _ hi' hb h0' hm0;simp[this])
 simp[this]
theorem ar9(hM:Mem β S D H w){t:TypeId}{x y v:Operand}{vx vy vv:V}(ho:o.op= .mapUpdate t x y v\/o.op= .insert t x y v)(hx:den β S w D vx (a.eval x))(hy:den β S w D vy (a.eval y))(hv:den β S w D vv (a.eval v))(h:pH P t vx vy vv H k=some r):dO P β S D H new o a w k r:=by
 have hexec:execOp a.eval o=(do Instr.mapUpdate t (a.eval x) (a.eval y) (a.eval v);pure .skip:Sem Next):=by rcases ho with ho|ho<;>simp only[execOp,ho]
 unfold pH at h;split at h
 ·rename_i kt e hmp;obtain⟨kk,hu,hk⟩:=bc5 hmp;split at h
  ·rename_i hp;split at h
   ·rename_i i;simp only[den]at hx;split at h
    ·rename_i l hi;obtain⟨b,m,hb,hr⟩:=hM.live i _ hi;have hub:=hx.2 b m hb;simp only[d7]at hr;obtain⟨hm0,es,clock,h1,h2⟩:=hr;split at h
     ·rename_i n
      replace hk:P.underlying kk=some (.int .i64):=hk
      simp only[den]at hy;split at h
      ·rename_i hall;have hlt:=(hM.own i b m hb hm0).1;have hrun:=by1 (v:=a.eval v) hu hk (zK hk) h1 (bp7 (n:=n) 0 h2 hall);refine⟨_,h,fc3 (x:=.map (es++[({key:=.int .i64 n,val:=a.eval v,born:=clock}:MapEntry)]).toArray (clock+1)) hM (s:=Instr.mapUpdate t (a.eval x) (a.eval y) (a.eval v)) hexec hi hb hm0 (by rw[hub,hy];exact hrun) ?_⟩
       have hkeep:Y4 S w {w with heap:=w.heap.setIfInBounds b (.map (es++[({key:=.int .i64 n,val:=a.eval v,born:=clock}:MapEntry)]).toArray (clock+1))}:=λq hq=>by
        have:b≠q:=λe=>(hM.own i b m hb hm0).2 (e▸hq);simp[this]
       simp only[d7];refine⟨hm0,_,clock+1,es2 hlt,ch4 (mU (λ_ h=>h) hkeep h2) (y6 (λ_ h=>h) hkeep _ _ hp hv) hp⟩
      ·cases h
     ·cases h
    ·rename_i n g f hi;obtain⟨b,m,hb,hr⟩:=hM.live i _ hi;have hub:=hx.2 b m hb;simp only[d7]at hr;obtain⟨hm0,es,clock,h1,h2,h3,h4⟩:=hr;split at h
     ·rename_i s
      replace hk:P.underlying kk=some .string:=hk
      simp only[den]at hy;have hlt:=(hM.own i b m hb hm0).1;have hs:=h4 s;have hfn:=ay5 (s:=s) 0 h3;have hW:∀q,bb2 ((q==s)=true) vv (f q)=if(q==s) then vv else f q:=λq=>bc6 _ _ _
      cases hq:dM s es 0 with
      |none=>
       rw[hq]at hs hfn;simp only at hs;have hrun:=by1 (v:=a.eval v) hu hk (qO hk) h1 hfn;refine⟨_,h,fc3 (x:=.map (es++[({key:=.string s,val:=a.eval v,born:=clock}:MapEntry)]).toArray (clock+1)) hM (s:=Instr.mapUpdate t (a.eval x) (a.eval y) (a.eval v)) hexec hi hb hm0 (by rw[hub,hy];exact hrun) ?_⟩
       have hkeep:Y4 S w {w with heap:=w.heap.setIfInBounds b (.map (es++[({key:=.string s,val:=a.eval v,born:=clock}:MapEntry)]).toArray (clock+1))}:=λq hq=>by
        have:b≠q:=λe=>(hM.own i b m hb hm0).2 (e▸hq);simp[this]
       simp only[d7];refine⟨hm0,_,clock+1,es2 hlt,by rw[hs,if_neg (by decide)];simp[h2],?_,λq=>?_⟩
       ·intro e he;rcases List.mem_append.1 he with he|he
        ·exact h3 e he
        ·simp only[List.mem_singleton]at he;subst he;exact⟨s,rfl⟩
       ·rw[an5 hq q];simp only[hW];by_cases hqs:(q==s)=true
        ·simp only[hqs,if_true,Bool.true_or,true_and];exact⟨y6 (λ_ h=>h) hkeep _ _ hp hv,hp⟩
        ·have h4q:=h4 q;have hqs':(q==s)=false:=by simpa using hqs
         simp only[hqs',Bool.false_eq_true,if_false,Bool.false_or];cases hf:dM q es 0 with
         |none=>rw[hf]at h4q;exact h4q
         |some p=>rw[hf]at h4q;exact⟨h4q.1,y6 (λ_ h=>h) hkeep _ _ h4q.2.2 h4q.2.1,h4q.2.2⟩
      |some p=>
       obtain⟨j,u⟩:=p;rw[hq]at hs hfn;obtain⟨g1,⟨e0,g2,g3⟩,g4⟩:=cp9 (v':=a.eval v) hq;rw[Nat.sub_zero]at g2 g4;have hrun:=el9 (v:=a.eval v) hu hk h1 hfn g2 g3;refine⟨_,h,fc3 (x:=.map (es.modify j λ(e:MapEntry)=>{e with key:=.string s,val:=a.eval v}).toArray clock) hM (s:=Instr.mapUpdate t (a.eval x) (a.eval y) (a.eval v)) hexec hi hb hm0 (by rw[hub,hy];exact hrun) ?_⟩
       have hkeep:Y4 S w {w with heap:=w.heap.setIfInBounds b (.map (es.modify j λ(e:MapEntry)=>{e with key:=.string s,val:=a.eval v}).toArray clock)}:=λq hq=>by
        have:b≠q:=λe=>(hM.own i b m hb hm0).2 (e▸hq);simp[this]
       simp only[d7];refine⟨hm0,_,clock,es2 hlt,by rw[hs.1,if_pos rfl];simp[h2],?_,λq=>?_⟩
       ·intro e he;obtain⟨n',hn'⟩:=List.getElem?_of_mem he;rw[List.getElem?_modify]at hn';cases hx':es[n']?with
        |none=>rw[hx']at hn';cases hn'
        |some e1=>
         rw[hx']at hn';obtain rfl:=Option.some.inj hn';show∃s',(if j=n' then _ else e1:MapEntry).key= .string s';split
         ·exact⟨s,rfl⟩
         ·exact h3 e1 (List.mem_of_getElem? hx')
       ·rw[g4 q];simp only[hW];by_cases hqs:(q==s)=true
        ·simp only[hqs,if_true,Bool.true_or,true_and];exact⟨y6 (λ_ h=>h) hkeep _ _ hp hv,hp⟩
        ·have h4q:=h4 q;have hqs':(q==s)=false:=by simpa using hqs
         simp only[hqs',Bool.false_eq_true,if_false,Bool.false_or];cases hf:dM q es 0 with
         |none=>rw[hf]at h4q;exact h4q
         |some p=>rw[hf]at h4q;exact⟨h4q.1,y6 (λ_ h=>h) hkeep _ _ h4q.2.2 h4q.2.1,h4q.2.2⟩
     ·cases h
    ·cases h
   ·cases h
  ·cases h
 ·cases h
theorem bt1{t:TypeId}(h:wL P t=some false):∃d,P.underlying t=some d/\∀m,d≠ .interface m:=by
 unfold wL at h;split at h
 ·cases h
 ·rename_i d hd hu;exact⟨d,hu,λm e=>by subst e;exact hd _ rfl⟩
 ·cases h
theorem bi4(hM:Mem β S D H w){t:TypeId}{x:Operand}{v:V}(ho:o.op= .makeInterface t x)(hx:den β S w D v (a.eval x))(h:oW P t v k=some r):dO P β S D H new o a w k r:=by
 unfold oW at h;split at h
 ·rename_i hi;obtain⟨d,hu,hd⟩:=bt1 hi;refine⟨_,h,f9 hM (u:=.iface t (a.eval x)) ?_ (by simp only[den];exact⟨_,rfl,hx⟩)⟩
  have:(Instr.makeInterface t (a.eval x)).run P w= .ok (.iface t (a.eval x)) w:=by
   simp only[Instr.makeInterface,Sem.run_bind,run_underlying hu,Result.andThen_ok];rfl
  simp only[execOp,ho,Sem.run_bind,this,Result.andThen_ok,Sem.run_pure]
 ·cases h
theorem cy4(hM:Mem β S D H w){t u:TypeId}{x:Operand}{v:V}{ok:Bool}(ho:o.op= .typeAssert x u t ok)(hx:den β S w D v (a.eval x))(h:ae2 P v t ok k=some r):dO P β S D H new o a w k r:=by
 unfold ae2 at h;split at h
 ·rename_i hi;obtain⟨d,hu,hd⟩:=bt1 hi
  have fails:∀z,bv8 P t=some z->ok=true->∀(y:Value),(y= .nilIface\/∃t' q,y= .iface t' q/\¬t'=t)->a.eval x=y->nT true false z k=some r->dO P β S D H new o a w k r:=by
   intro z hz hok y hy hxy hf;subst hok;obtain⟨zy,z1,z2,_⟩:=bs8 hz;obtain⟨xv,g1,g2⟩:=jO hf (z2 β S D w);refine⟨_,g1,f9 hM (u:=.tuple #[zy,.bool false]) ?_ (by simpa using g2)⟩
   have:(Instr.typeAssert (a.eval x) u t true).run P w= .ok (.tuple #[zy,.bool false]) w:=by
    rw[hxy];simp only[Instr.typeAssert,Sem.run_bind,run_underlying hu,Result.andThen_ok];rcases hy with rfl| ⟨t',q,rfl,hne⟩
    ·cases d<;>first| (exact absurd rfl (hd _)) |simp[z1,Sem.run_bind]
    ·cases d<;>first| (exact absurd rfl (hd _)) |simp[z1,Sem.run_bind,hne]
   simp only[execOp,ho,Sem.run_bind,this,Result.andThen_ok,Sem.run_pure]
  split at h
  ·rename_i d' v';simp only[den]at hx;obtain⟨q,hq,hdq⟩:=hx;split at h
   ·rename_i he;subst he;obtain⟨xv,g1,g2⟩:=jO h hdq;refine⟨_,g1,f9 hM ?_ g2⟩
    have:(Instr.typeAssert (a.eval x) u d' ok).run P w= .ok (if ok then .tuple #[q,.bool true]else q) w:=by
     rw[hq];simp only[Instr.typeAssert,Sem.run_bind,run_underlying hu,Result.andThen_ok];cases d<;>first| (exact absurd rfl (hd _)) | (cases ok<;>simp)
    simp only[execOp,ho,Sem.run_bind,this,Result.andThen_ok,Sem.run_pure]
   ·rename_i hne;split at h
    ·rename_i z hz;exact fails z hz rfl _ (.inr ⟨d',q,rfl,hne⟩) hq h
    ·cases h
  ·simp only[den]at hx;split at h
   ·rename_i z hz;exact fails z hz rfl _ (.inl rfl) hx h
   ·cases h
  ·cases h
 ·cases h
theorem dw2{x:Operand}{v:V}(ho:o.op= .panic x)(hx:den β S w D v (a.eval x))(h:ao3 v k=some r):dO P β S D H new o a w k r:=by
 unfold ao3 at h;split at h
 ·rename_i t v';split at h
  ·rename_i hp;have hx':=hx;simp only[den]at hx';obtain⟨q,hq,_⟩:=hx';refine⟨_,h,rfl,.iface t q,?_,hp,hq▸hx⟩;simp[execOp,ho,hq,Instr.panic,goPanic,Sem.run_bind]
  ·cases h
 ·cases h
end
theorem ai8{P:Program}{α:Type}:∀(s:Sem α) (x:α),sC P s=some x->∀w,s.run P w= .ok x w:=by
 intro s
 induction s with
 |pure a=>intro x h w;simp only[sC,Option.some.injEq]at h;subst h;rfl
 |program k ih=>intro x h w;simp only[sC]at h;exact ih P x h w
 |mark m k ih=>intro x h w;simp only[sC]at h;exact ih x h w
 |_=>intro x h;simp[sC]at h
section
variable {P:Program} {β:Bt} {S D:Pr} {H:Hp} {w:World} {new:Nat} {o:Oper} {a:Act} {ev:Operand->V} {k:KR} {r:Ans}
theorem eT(hM:Mem β S D H w)(hev:∀x,den β S w D (ev x) (a.eval x))(hs:∀cs b,o.op≠ .select cs b)(h:bU P o ev k=some r):dO P β S D H new o a w k r:=by
 unfold bU at h;split at h
 ·rename_i hall
  have hex:execOp a.eval o=execOp (λx=>((ev x).toVal).getD undef) o:=execOp_congr o hs λx hx=>by
   rw[List.all_eq_true]at hall;obtain⟨v,hv⟩:=Option.isSome_iff_exists.1 (hall x (by simpa using hx));simp only[hv,Option.getD_some];exact tU (ev x) v _ hv (hev x)
  split at h
  ·rename_i v hr;exact⟨_,h,f9 hM (u:=v) (by rw[hex];exact ai8 _ _ hr w) (fp1 v)⟩
  ·rename_i f args hr;refine⟨_,h,args.toList,λ_=>by rw[hex];simpa using ai8 _ _ hr w,?_⟩;have:=iL (β:=β) (S:=S) (w:=w) (D:=D) (f:=nM) (g:=λu=>u) (l:=args.toList) (λx _=>qA x);simpa using this
  ·cases h
 ·cases h
theorem ei0(hM:Mem β S D H w)(hev:∀x,den β S w D (ev x) (a.eval x)){c x y:Operand}(ho:o.op= .pick c x y)(h:bm6 (ev c) (ev x) (ev y) k=some r):dO P β S D H new o a w k r:=by
 have hc:=hev c;unfold bm6 at h;split at h
 ·rename_i t ht;rw[ht]at hc;simp only[den]at hc;split at h
  ·rename_i h1;exact⟨_,h,f9 hM (u:=a.eval x) (by simp[execOp,ho,hc,h1,asBool]) (hev x)⟩
  ·rename_i h1;exact⟨_,h,f9 hM (u:=a.eval y) (by simp[execOp,ho,hc,h1,asBool]) (hev y)⟩
 ·cases h
theorem dy4(hM:Mem β S D H w)(hev:∀x,den β S w D (ev x) (a.eval x)){t:TypeId}{x:Operand}{f:Nat}(ho:o.op= .field t x f)(h:zM P o ev t (ev x) f k=some r):dO P β S D H new o a w k r:=by
 have hx:=hev x;unfold zM at h;split at h
 ·rename_i cs hcs;rw[hcs]at hx;simp only[den]at hx;obtain⟨us,hu,h2,h3⟩:=hx;split at h
  ·rename_i p u hf;obtain⟨fs,fd,e1,e2,e3,e4⟩:=ch6 hf;split at h
   ·rename_i v hv;obtain⟨y,hy,hd⟩:=dp9 hv h2 h3;refine⟨_,h,f9 hM (u:=y) ?_ hd⟩;simp[execOp,ho,hu,Instr.field,Sem.run_bind,run_underlying e1,e2,e3,e4,asAgg,hy]
   ·cases h
  ·cases h
 ·exact eT hM hev (by rw[ho];intros;simp) h
theorem dt1(hM:Mem β S D H w)(hev:∀x,den β S w D (ev x) (a.eval x)){t:TypeId}{x y:Operand}(ho:o.op= .index t x y)(h:yI P o ev t (ev x) (ev y) k=some r):dO P β S D H new o a w k r:=by
 have hx:=hev x;unfold yI at h;simp only[fa8]at h;split at h
 ·rename_i cs n hcs hn;obtain⟨kd,hy⟩:=nJ (hev y) hn;rw[hcs]at hx;simp only[den]at hx;obtain⟨us,hu,h2,h3⟩:=hx;split at h
  ·rename_i l e ha;split at h
   ·rename_i z hz;split at h
    ·rename_i hc;obtain⟨h0,hl⟩:=hc;obtain⟨j,rfl⟩:=Int.eq_ofNat_of_zero_le h0;split at h
     ·rename_i v hv;simp only[Int.toNat_natCast]at hv;obtain⟨u,hu',hd⟩:=dp9 hv h2 h3;refine⟨_,h,f9 hM (u:=u) ?_ hd⟩;have hl':j<l:=by omega
      simp[execOp,ho,hu,hy,Instr.index,asIntOf,Sem.run_bind,run_underlying (ag0 ha),hl',jT hz,hu']
     ·cases h
    ·cases h
   ·cases h
  ·cases h
 ·rename_i s n hcs hn;obtain⟨kd,hy⟩:=nJ (hev y) hn;rw[hcs]at hx;simp only[den]at hx;split at h
  ·rename_i hc;obtain⟨hus,h0,hl⟩:=hc;obtain⟨j,rfl⟩:=Int.eq_ofNat_of_zero_le h0;have hl':j<s.size:=by omega
   have hu':P.underlying t=some .string:=by
    unfold eV at hus;split at hus
    ·assumption
    ·cases hus
   refine⟨_,h,f9 hM (u:=.int .u8 (s.data.toList.getD j 0).toNat) ?_ (by simp[den])⟩
   have hg:s[j]? =some (s.data.toList.getD j 0):=by
    have hl2:j<s.data.toList.length:=by simpa using hl'
    have:s.data.toList.getD j 0=s[j]:=by
     rw[List.getD,List.getElem?_eq_getElem hl2];rfl
    rw[this];exact getElem?_pos s j hl'
   simp[execOp,ho,hx,hy,Instr.index,asIntOf,Sem.run_bind,run_underlying hu',hg]
  ·cases h
 ·exact eT hM hev (by rw[ho];intros;simp) h
theorem cf1(hM:Mem β S D H w)(hev:∀x,den β S w D (ev x) (a.eval x)){x:Operand}{n:Nat}(ho:o.op= .extract x n)(h:qT P o ev (ev x) n k=some r):dO P β S D H new o a w k r:=by
 have hx:=hev x;unfold qT at h;split at h
 ·rename_i vs hvs;rw[hvs]at hx;simp only[den]at hx;obtain⟨us,hu,h2⟩:=hx;split at h
  ·rename_i v hv;obtain⟨u,hu',hd⟩:=uU h2 n v hv;exact⟨_,h,f9 hM (u:=u) (by simp[execOp,ho,hu,Instr.extract,hu']) hd⟩
  ·cases h
 ·exact eT hM hev (by rw[ho];intros;simp) h
theorem dz1(hM:Mem β S D H w)(hev:∀x,den β S w D (ev x) (a.eval x)){t:TypeId}{ps:Array (Nat×Operand)}(ho:o.op= .build t ps)(h:zU P t ps.toList ev k=some r):dO P β S D H new o a w k r:=by
 have key:∀cells:Array Value,P.built t (ps.toList.map λp=>(p.1,a.eval p.2))=some cells->(execOp a.eval o).run P w= .ok (.value (.agg cells)) w:=by
  intro cells hb;have:=run_build (P:=P) w t (ps.map λ(i,x)=>(i,a.eval x)) cells (by simpa using hb);simp[execOp,ho,Sem.run_bind,this]
 unfold zU at h;split at h
 ·rename_i z hz;split at h
  ·rename_i h1;have hz':=hz;unfold bh1 at hz';cases hi:P.info? t with
   |none=>rw[hi]at hz';cases hz'
   |some it=>
    rw[hi]at hz';simp only[Option.bind_some,Option.map_eq_some_iff]at hz';obtain⟨zv,hzv,rfl⟩:=hz';have ho1:=zN (β:=β) (S:=S) (w:=w) (D:=D) h1 (kP zv.cells.toList);split at h
    ·rename_i fs hu;split at h
     ·rename_i pl hpl;split at h
      ·rename_i cs hcs;obtain⟨us,e1,e2,e3⟩:=yD hev (kP zv.cells.toList) ho1 hcs;refine⟨_,h,f9 hM (key us.toArray ?_) (by simp only[den];exact⟨us,rfl,e2,e3⟩)⟩;unfold fe6 at hpl;simp only[Program.built,hi,hu,hzv,hpl];simpa using e1
      ·cases h
     ·cases h
    ·rename_i n e hu;split at h
     ·rename_i sz hsz;split at h
      ·rename_i cs hcs;obtain⟨us,e1,e2,e3⟩:=yD hev (kP zv.cells.toList) ho1 hcs;refine⟨_,h,f9 hM (u:=.agg us.toArray) ?_ (by simp only[den];exact⟨us,rfl,e2,e3⟩)⟩;have hzr:(zeroValue t).run P w= .ok zv w:=by simp[zeroValue,typeInfo,hi,hzv]
       have hm:(ps.map λ(i,x)=>(i,a.eval x):Array (Nat×Value)).toList=ps.toList.map λp=>(p.1,a.eval p.2):=by simp
       simp only[execOp,ho,Instr.build,Sem.run_bind,hzr,Result.andThen_ok,run_underlying hu,jT hsz,hm];rw[show(zv.cells:Array Value)=zv.cells.toList.toArray by simp,e1];simp
      ·cases h
     ·cases h
    ·cases h
  ·cases h
 ·cases h
theorem ca3(hM:Mem β S D H w)(hev:∀x,den β S w D (ev x) (a.eval x)){f:FuncId}{fi cs:Array Operand}(ho:o.op= .makeFunc (.func f) fi cs)(hfi:fi.size=0):
 rT P β S D H new o a w (.val (.fn f (cs.toList.map ev)) []):=by
 have hfi':fi=#[]:=Array.eq_empty_of_size_eq_zero hfi;refine f9 hM (u:=.func (.func f) #[] (cs.map a.eval)) (by simp[execOp,ho,hfi',Instr.makeFunc]) ?_;simp only[den];exact⟨cs.toList.map a.eval,by rw[<-Array.toList_map],iL λx _=>hev x⟩
theorem bi3(hM:Mem β S D H w)(hev:∀x,den β S w D (ev x) (a.eval x)){f:FuncId}{fi cs:Array Operand}(ho:o.op= .makeFunc (.func f) fi cs):
 rT P β S D H new o a w (.val (.bf f (fi.toList.map ev) (cs.toList.map ev)) []):=by
 refine f9 hM (u:=.func (.func f) (fi.map a.eval) (cs.map a.eval)) (by simp[execOp,ho,Instr.makeFunc]) ?_;simp only[den];exact⟨fi.toList.map a.eval,cs.toList.map a.eval,by rw[<-Array.toList_map,<-Array.toList_map],iL λx _=>hev x,iL λx _=>hev x⟩
theorem dx4{t u:TypeId}{x y:Operand}{g:Fn}{fs cs:Array Value}(hM:Mem β S D H w)(ho:o.op= .binOp .neq t x y u)(ht:bi9 P t=true)(hx:a.eval x= .func g fs cs)(hy:a.eval y= .nilFunc):
 rT P β S D H new o a w (.val (.sc (.bool true)) []):=by
 unfold bi9 at ht;split at ht
 ·rename_i p q s hu;refine f9 hM (u:=.bool true) ?_ (by simp[den])
  have he0:∀n,(Op.equalIn (n+1) t (.func g fs cs) .nilFunc).run P w= .ok false w:=λn=>by
   simp[Op.equalIn,Sem.run_bind,run_underlying hu]
  have he:(Op.equal t (.func g fs cs) .nilFunc).run P w= .ok false w:=he0 9999;simp[execOp,ho,hx,hy,eqGuard,binOp,Sem.run_bind,he]
 ·cases ht
theorem fp8{t u d:TypeId}{x y:Operand}{q:Value}(hM:Mem β S D H w)(ho:o.op= .binOp .neq t x y u)(ht:wL P t=some true)(hx:a.eval x= .iface d q)(hy:a.eval y= .nilIface):
 rT P β S D H new o a w (.val (.sc (.bool true)) []):=by
 unfold wL at ht;split at ht
 ·rename_i m hu;refine f9 hM (u:=.bool true) ?_ (by simp[den])
  have he0:∀n,(Op.equalIn (n+1) t (.iface d q) .nilIface).run P w= .ok false w:=λn=>by
   simp[Op.equalIn,Sem.run_bind,run_underlying hu]
  have he:(Op.equal t (.iface d q) .nilIface).run P w= .ok false w:=he0 9999;simp[execOp,ho,hx,hy,eqGuard,binOp,Sem.run_bind,he]
 ·cases ht
 ·cases ht
theorem fy5(hM:Mem β S D H w)(hev:∀x,den β S w D (ev x) (a.eval x)){x:Operand}(ho:o.op= .nilCheck x)(h:ay2 P o ev (ev x) H k=some r):dO P β S D H new o a w k r:=by
 have hx:=hev x;unfold ay2 at h;split at h
 ·rename_i i p hp;obtain⟨h,b,m,hb⟩:=eX hM h;rw[hp]at hx;have hx':=hx;simp only[den]at hx';exact⟨_,h,f9 hM (u:=a.eval x) (by rw[hx'.2 b m hb];simp[execOp,ho,hx'.2 b m hb]) hx⟩
 ·rename_i i z j p hp;obtain⟨h,b,m,hb⟩:=eX hM h;rw[hp]at hx;have hx':=hx;simp only[den]at hx';exact⟨_,h,f9 hM (u:=a.eval x) (by rw[hx'.2 b m hb];simp[execOp,ho,hx'.2 b m hb]) hx⟩
 ·rename_i f cs hp;rw[hp]at hx;have hx':=hx;simp only[den]at hx';obtain⟨us,hu,_⟩:=hx';exact⟨_,h,f9 hM (u:=a.eval x) (by rw[hu];simp[execOp,ho,hu]) hx⟩
 ·exact eT hM hev (by rw[ho];intros;simp) h
theorem ad0{t:TypeId}{xs:Array Value}{o:Nat}{v:Value}(h:cp1 P t xs.toList o=some v):(part t xs o).run P w= .ok v w:=by
 unfold cp1 at h;unfold part;split at h
 ·rename_i ha;split at h
  ·rename_i n hn;cases h;simp only[Sem.run_bind,af7 ha,Result.andThen_ok,if_true,jT hn,Sem.run_pure];congr 2;apply Array.ext';simp[Array.toList_extract,List.extract_eq_take_drop]
  ·cases h
 ·rename_i ha;simp only[Sem.run_bind,af7 ha,Result.andThen_ok,Bool.false_eq_true,if_false];have:xs[o]? =some v:=by simpa using h
  rw[this];rfl
 ·cases h
theorem bw9{d:Nat}{r:TypeId->Value->Value->Option Bool}(hr:∀t x y b,r t x y=some b->(Op.equalIn d t x y).run P w= .ok b w){xs ys:Array Value}:∀(fs:List Field) (b:Bool),gc5 P r xs.toList ys.toList fs=some b->(Op.eqFields d xs ys fs).run P w= .ok b w
 | [],b,h=>by cases h;rfl
 |f::fs,b,h=>by
  simp only[gc5]at h;simp only[Op.eqFields,Sem.run_ite];split at h
  ·rename_i hn;rw[if_neg (by simpa using hn)];exact bw9 hr fs b h
  ·rename_i hn;rw[if_pos (by simpa using hn)];split at h
   ·rename_i u v hu hv;split at h
    ·rename_i p q hp hq;cases h;simp only[Sem.run_bind,ad0 hu,ad0 hv,Result.andThen_ok,hr _ _ _ _ hp,Sem.run_ite];cases p
     ·simp
     ·simpa using bw9 hr fs q hq
    ·cases h
   ·cases h
theorem dk6{d:Nat}{r:TypeId->Value->Value->Option Bool}(hr:∀t x y b,r t x y=some b->(Op.equalIn d t x y).run P w= .ok b w){e:TypeId}{n:Nat}{xs ys:Array Value}:∀(is:List Nat) (b:Bool),gz4 P r e n xs.toList ys.toList is=some b->(Op.eqItems d e n xs ys is).run P w= .ok b w
 | [],b,h=>by cases h;rfl
 |i::is,b,h=>by
  simp only[gz4]at h;simp only[Op.eqItems];split at h
  ·rename_i u v hu hv;split at h
   ·rename_i p q hp hq;cases h;simp only[Sem.run_bind,ad0 hu,ad0 hv,Result.andThen_ok,hr _ _ _ _ hp,Sem.run_ite];cases p
    ·simp
    ·simpa using dk6 hr is q hq
   ·cases h
  ·cases h
theorem bl9:∀(d:Nat) (t:TypeId) (x y:Value) (b:Bool),eqP P d t x y=some b->(Op.equalIn d t x y).run P w= .ok b w
 |0,_,_,_,_,h=>by cases h
 |d+1,t,x,y,b,h=>by
  simp only[eqP]at h;split at h
  ·rename_i hu;unfold he5 at h;split at h
   ·cases h;exact run_equalIn_bool w d t _ _ hu
   ·cases h
  ·rename_i hu;unfold hf7 at h;split at h
   ·split at h
    ·cases h;rename_i hk;subst hk;exact run_equalIn_int w d t _ _ _ _ hu
    ·cases h
   ·cases h
  ·rename_i hu;unfold hd9 at h;split at h
   ·cases h;exact run_equalIn_string w d t _ _ hu
   ·cases h
  ·rename_i fs hu;split at h
   ·split at h
    ·cases h
    ·rename_i hs;have hf:P.fieldsOf t=fs:=by simp[Program.fieldsOf,hu]
     rw[run_equalIn_struct w d t _ _ (by rw[hf];exact hu) (by simpa using hs),hf];exact bw9 (λt x y b=>bl9 d t x y b) _ _ h
   ·cases h
  ·rename_i n e hu;split at h
   ·split at h
    ·rename_i z hz;cases hi:P.info? e with
     |none=>simp[szP,hi]at hz
     |some i=>
      have hc:P.cellsOf e=z:=by simpa[szP,hi,Program.cellsOf]using hz
      rw[run_equalIn_array w d _ _ hu hi,hc];exact dk6 (λt x y b=>bl9 d t x y b) _ _ h
    ·cases h
   ·cases h
  ·cases h
theorem eb4(hM:Mem β S D H w){neg:Bool}{t u:TypeId}{x y:Operand}{cs ds:List V}(ho:o.op= .binOp (if neg then .neq else .eql) t x y u)(hx:den β S w D (.agg cs) (a.eval x))(hy:den β S w D (.agg ds) (a.eval y))
 (h:eb5 P t neg (.agg cs) (.agg ds) k=some r):dO P β S D H new o a w k r:=by
 unfold eb5 at h;split at h
 ·rename_i u0 v0 hu hv;split at h
  ·cases h
  ·rename_i hg;split at h
   ·rename_i b hb;have e1:=tU _ _ _ hu hx;have e2:=tU _ _ _ hv hy
    obtain⟨xs,rfl⟩:∃xs,u0= .agg xs:=by
     simp only[V.toVal,Option.map_eq_some_iff]at hu;obtain⟨l,_,rfl⟩:=hu;exact⟨_,rfl⟩
    obtain⟨ys,rfl⟩:∃xs,v0= .agg xs:=by
     simp only[V.toVal,Option.map_eq_some_iff]at hv;obtain⟨l,_,rfl⟩:=hv;exact⟨_,rfl⟩
    have hg':P.eqGuardType P.depth t=false:=by simpa using hg
    refine⟨_,h,f9 hM (u:=.bool (if neg then !b else b)) ?_ (by simp[den])⟩;cases neg
    ·simp only[Bool.false_eq_true,if_false]at ho;simp only[execOp,ho,e1,e2,Sem.run_bind,run_eqGuard_agg w _ _ _ _ _ _ hg',Result.andThen_ok,run_eql_struct,bl9 _ _ _ _ _ hb];rfl
    ·simp only[if_true]at ho;simp only[execOp,ho,e1,e2,Sem.run_bind,run_eqGuard_agg w _ _ _ _ _ _ hg',Result.andThen_ok,run_neq_struct,bl9 _ _ _ _ _ hb];rfl
   ·cases h
 ·cases h
theorem gc2:∀(f a b:Nat),a<2^f->b<2^f->orN f a b=a|||b
 |0,a,b,ha,hb=>by
  obtain rfl:a=0:=by omega
  obtain rfl:b=0:=by omega
  rfl
 |f+1,a,b,ha,hb=>by
  have h:=gc2 f (a/2) (b/2) (by omega) (by omega);have h1:(a|||b)/2=a/2|||b/2:=Nat.or_div_two
  have h2:(a|||b)%2=if a%2=1\/b%2=1 then 1 else 0:=by
   have h3:=Nat.or_mod_two_eq_one (a:=a) (b:=b);by_cases h4:a%2=1\/b%2=1
   ·rw[if_pos h4];exact h3.2 h4
   ·rw[if_neg h4];have:¬(a|||b)%2=1:=λe=>h4 (h3.1 e);omega
  rw[orN,h,<-h1,<-h2];omega
theorem hm7(k:IntKind)(m n:Int):orI k m n=k.wrap ((BitVec.ofInt k.bits m|||BitVec.ofInt k.bits n).toNat:Int):=by
 unfold orI;have hp:(0:Int)<2^k.bits:=Int.pow_pos (by decide)
 have hb:∀z:Int,(z%2^k.bits).toNat<2^k.bits:=by
  intro z;have h1:=Int.emod_lt_of_pos z hp;have h2:=Int.emod_nonneg z (Int.ne_of_gt hp);have:((2^k.bits:Nat):Int)=2^k.bits:=by simp
  omega
 have e:∀z:Int,(BitVec.ofInt k.bits z).toNat=(z%2^k.bits).toNat:=by
  intro z;rw[BitVec.toNat_ofInt];simp
 rw[gc2 _ _ _ (hb m) (hb n),BitVec.toNat_or,e,e]
theorem bn8(k:IntKind)(z:Int):(BitVec.ofInt k.bits z).toNat=fq0 k z:=by
 unfold fq0;rw[BitVec.toNat_ofInt];simp
theorem gs4(k:IntKind)(m n:Int):hh1 k m n=k.wrap ((BitVec.ofInt k.bits m&&&BitVec.ofInt k.bits n).toNat:Int):=by
 rw[BitVec.toNat_and,bn8,bn8];rfl
theorem gx6(k:IntKind)(m n:Int):hl7 k m n=k.wrap ((BitVec.ofInt k.bits m^^^BitVec.ofInt k.bits n).toNat:Int):=by
 rw[BitVec.toNat_xor,bn8,bn8];rfl
theorem fw2(hM:Mem β S D H w)(hev:∀x,den β S w D (ev x) (a.eval x)){b:BinOp}{t u:TypeId}{x y:Operand}(ho:o.op= .binOp b t x y u)(h:bp5 P o ev b t (ev x) (ev y) k=some r):dO P β S D H new o a w k r:=by
 have hx:=hev x;have hy:=hev y;unfold bp5 at h;split at h
 ·rename_i hdiv;split at h
  ·rename_i kd m kd' n hm hn;rw[hm]at hx;rw[hn]at hy;simp only[den]at hx hy;split at h
   ·rename_i hk;subst hk;unfold ew7 at h;split at h
    ·split at h
     ·cases h
     ·rename_i h0;exact⟨_,h,f9 hM (u:=.int kd (kd.wrap (m.tdiv n))) (by simp[execOp,ho,hx,hy,eqGuard,binOp,Op.intDiv,h0]) (by simp[den])⟩
    ·split at h
     ·cases h
     ·rename_i h0;exact⟨_,h,f9 hM (u:=.int kd (m.tmod n)) (by simp[execOp,ho,hx,hy,eqGuard,binOp,Op.intDiv,h0]) (by simp[den])⟩
    ·cases h
   ·cases h
  ·cases h
 ·split at h
  ·rename_i s s' hs hs' _;rw[hs]at hx;rw[hs']at hy;simp only[den]at hx hy;split at h
   ·rename_i hle;unfold maxLen at hle
    have hlt:¬(((s.size+s'.size:Nat):Int)>IntKind.i64.max):=by
     have:IntKind.i64.max=9223372036854775807:=by decide
     rw[this];omega
    refine⟨_,h,f9 hM (u:=.string (s++s')) ?_ (by simp[den])⟩;simp only[execOp,ho,hx,hy,eqGuard,binOp,Op.stringOp,Sem.run_bind];rw[if_neg hlt];rfl
   ·cases h
  ·rename_i kd m kd' n hm hn _;rw[hm]at hx;rw[hn]at hy;simp only[den]at hx hy;split at h
   ·rename_i hk;subst hk;exact⟨_,h,f9 hM (u:=.int kd (orI kd m n)) (by rw[hm7];simp[execOp,ho,hx,hy,eqGuard,binOp,Op.intBits]) (by simp[den])⟩
   ·cases h
  ·rename_i kd m kd' n hm hn _;rw[hm]at hx;rw[hn]at hy;simp only[den]at hx hy;split at h
   ·rename_i hk;subst hk;exact⟨_,h,f9 hM (u:=.int kd (hh1 kd m n)) (by rw[gs4];simp[execOp,ho,hx,hy,eqGuard,binOp,Op.intBits]) (by simp[den])⟩
   ·cases h
  ·rename_i kd m kd' n hm hn _;rw[hm]at hx;rw[hn]at hy;simp only[den]at hx hy;split at h
   ·rename_i hk;subst hk;exact⟨_,h,f9 hM (u:=.int kd (hl7 kd m n)) (by rw[gx6];simp[execOp,ho,hx,hy,eqGuard,binOp,Op.intBits]) (by simp[den])⟩
   ·cases h
  ·rename_i kd m kd' n hm hn _;rw[hm]at hx;rw[hn]at hy;simp only[den]at hx hy;split at h
   ·cases h
   ·rename_i hk;exact⟨_,h,f9 hM (u:=.int kd (hk8 kd m n)) (by simp[execOp,ho,hx,hy,eqGuard,binOp,Op.shift,hk,hk8]) (by simp[den])⟩
  ·rename_i kd m kd' n hm hn _;rw[hm]at hx;rw[hn]at hy;simp only[den]at hx hy;split at h
   ·cases h
   ·rename_i hk;exact⟨_,h,f9 hM (u:=.int kd (hn2 kd m n)) (by simp[execOp,ho,hx,hy,eqGuard,binOp,Op.shift,hk,hn2]) (by simp[den])⟩
  ·rename_i cs ds hs hs' _;exact eb4 hM (neg:=false) ho (hs▸hx) (hs'▸hy) h
  ·rename_i f cs hs hs' _;rw[hs]at hx;rw[hs']at hy;simp only[den]at hx hy;obtain⟨us,hu,_⟩:=hx;split at h
   ·rename_i ht;exact⟨_,h,dx4 hM ho ht hu hy⟩
   ·cases h
  ·rename_i f fs cs hs hs' _;rw[hs]at hx;rw[hs']at hy;simp only[den]at hx hy;obtain⟨xs,us,hu,_⟩:=hx;split at h
   ·rename_i ht;exact⟨_,h,dx4 hM ho ht hu hy⟩
   ·cases h
  ·rename_i d v hs hs' _;rw[hs]at hx;rw[hs']at hy;simp only[den]at hx hy;obtain⟨q,hu,_⟩:=hx;split at h
   ·rename_i ht;exact⟨_,h,fp8 hM ho ht hu hy⟩
   ·cases h
  ·rename_i cs ds hs hs' _;exact eb4 hM (neg:=true) ho (hs▸hx) (hs'▸hy) h
  ·exact eT hM hev (by rw[ho];intros;simp) h
theorem ft1{pr:Bool}(hM:Mem β S D H w)(hev:∀x,den β S w D (ev x) (a.eval x)){c:Call}(hc:c.callee= .builtin .len)(ho:o.op= .call c)(h:gH P pr o ev .len c.args.toList c.argTypes.toList H new k=some r):dO P β S D H new o a w k r:=by
 unfold gH at h;simp only at h;split at h
 ·rename_i x hx;have hargs:c.args=#[x]:=by rw[<-Array.toArray_toList (xs:=c.args),hx]
  have hex:∀t,c.argTypes=#[t]->∀v,(Builtin.len_ #[t] o.type #[a.eval x]).run P w= .ok v w->(execOp a.eval o).run P w= .ok (.value v) w:=by
   intro t ht v hr;obtain⟨cs,hcs⟩:=gP (a:=a) hc ho;rw[hcs,hargs,ht];simp[builtin,Sem.run_bind,hr]
  have hd:=hev x;split at h
  ·rename_i i z p n hv;rw[hv]at hd;simp only[den]at hd;split at h
   ·rename_i t ht;have hts:c.argTypes=#[t]:=by rw[<-Array.toArray_toList (xs:=c.argTypes),ht]
    split at h
    ·rename_i e he;obtain⟨h,b,m,hb⟩:=eX hM h;obtain⟨g1,A,hu,g2⟩:=hd.2 b m hb;exact⟨_,h,f9 hM (u:=.int .i64 n) (hex t hts _ (by rw[hu];simp[Builtin.len_,Sem.run_bind,run_underlying (n6 he),goInt])) (by simp[den])⟩
    ·cases h
   ·cases h
  ·rename_i z n f hv;rw[hv]at hd;simp only[den]at hd;split at h
   ·rename_i t ht;have hts:c.argTypes=#[t]:=by rw[<-Array.toArray_toList (xs:=c.argTypes),ht]
    split at h
    ·rename_i e he;obtain⟨_,A,m,ad,us,hu,_⟩:=hd;exact⟨_,h,f9 hM (u:=.int .i64 n) (hex t hts _ (by rw[hu];simp[Builtin.len_,Sem.run_bind,run_underlying (n6 he),goInt])) (by simp[den])⟩
    ·cases h
   ·cases h
  ·rename_i i hv;rw[hv]at hd;simp only[den]at hd;split at h
   ·rename_i t ht;have hts:c.argTypes=#[t]:=by rw[<-Array.toArray_toList (xs:=c.argTypes),ht]
    split at h
    ·rename_i p hp;obtain⟨kt,e⟩:=p;obtain⟨kk,hu,_⟩:=bc5 hp
     have fin:∀(es:List MapEntry) (clock b:Nat),a.eval x= .map (some b)->w.heap[b]? =some (.map es.toArray clock)->∀n:Nat,es.length=n->k (.val (.sc (.int .i64 n)) [])=some r->dO P β S D H new o a w k r:=λes clock b hx hb n hn h=>
      ⟨_,h,f9 hM (u:=.int .i64 n) (hex t hts _ (by rw[hx];simp[Builtin.len_,Sem.run_bind,run_underlying hu,rL hb,goInt,hn])) (by simp[den])⟩
     split at h
     ·rename_i l hi;obtain⟨b,m,hb,hr⟩:=hM.live i _ hi;simp only[d7]at hr;obtain⟨hm0,es,clock,h1,h2⟩:=hr;exact fin es clock b (hd.2 b m hb) h1 _ (ch7 h2).symm h
     ·rename_i n g f hi;obtain⟨b,m,hb,hr⟩:=hM.live i _ hi;simp only[d7]at hr;obtain⟨_,es,clock,h1,h2,_⟩:=hr;exact fin es clock b (hd.2 b m hb) h1 _ h2 h
     ·cases h
    ·cases h
   ·cases h
  ·exact eT hM hev (by rw[ho];intros;simp) h
 ·cases h
theorem ea2(hev:∀x,den β S w D (ev x) (a.eval x)){c:Call}(ho:o.op= .defer c)(h:zE ev c k=some r):dO P β S D H new o a w k r:=by
 unfold zE at h;split at h
 ·rename_i f hc;have hf:=hev f;split at h
  ·rename_i g cs hg;rw[hg]at hf;simp only[den]at hf;obtain⟨us,hu,hd⟩:=hf;split at h
   ·rename_i ha;refine⟨_,h,us,?_,(y5 hd).symm⟩;have he:c.args=#[]:=by rw[<-Array.toArray_toList (xs:=c.args),ha]
    simp[execOp,ho,resolve,hc,hu,he,Deferred.ofValue,Sem.run_bind]
   ·cases h
  ·cases h
 ·cases h
theorem ef8{pr:Bool}(hM:Mem β S D H w)(hn:¬D new)(hev:∀x,den β S w D (ev x) (a.eval x)){c:Call}(ho:o.op= .call c)(h:ao8 P pr o ev c H new k=some r):dO P β S D H new o a w k r:=by
 unfold ao8 at h;split at h
 ·rename_i b hc;by_cases h1:b= .len
  ·subst h1;exact ft1 hM hev hc ho h
  ·by_cases h2:b= .append
   ·subst h2;unfold gH at h;simp only at h;split at h
    ·rename_i x y t t' hx ht;split at h
     ·rename_i he;subst he;exact da4 hM hn hc ho (by rw[<-Array.toArray_toList (xs:=c.args),hx]) (by rw[<-Array.toArray_toList (xs:=c.argTypes),ht]) (hev x) (hev y) h
     ·exact dg8 hM hn hc ho (by rw[<-Array.toArray_toList (xs:=c.args),hx]) (by rw[<-Array.toArray_toList (xs:=c.argTypes),ht]) (hev x) (hev y) h
    ·cases h
   ·by_cases h3:b= .copy
    ·subst h3;unfold gH at h;simp only at h;split at h
     ·rename_i x y t t' hx ht;split at h
      ·rename_i he;subst he;exact es1 hM hc ho (by rw[<-Array.toArray_toList (xs:=c.args),hx]) (by rw[<-Array.toArray_toList (xs:=c.argTypes),ht]) (hev x) (hev y) h
      ·cases h
     ·cases h
    have h':bU P o ev k=some r:=by
     unfold gH at h;split at h
     ·exact absurd rfl h1
     ·exact absurd rfl h2
     ·exact absurd rfl h3
     ·exact h
    exact eT hM hev (by rw[ho];intros;simp) h'
 ·rename_i f hc;have hf:=hev f
  have key:∀(g:FuncId) (cs:List Value),a.eval f= .func (.func g) #[] cs.toArray->rH P g->(execOp a.eval o).run P w= .ok (.enter g ((c.args.toList.map a.eval)++cs).toArray) w:=by
   rintro g cs hfe ⟨fn,h1,h2,h3⟩;have hb:¬fn.body=none:=by intro hb;rw[hb]at h2;cases h2
   simp[execOp,ho,resolve,hc,hfe,Deferred.ofValue,invoke,callFunc,Sem.run_bind,h1,h3,hb,program,Sem.run]
  split at h
  ·rename_i g cs hg;rw[hg]at hf;simp only[den]at hf;obtain⟨us,hu,hd⟩:=hf;exact⟨_,h,_,key g us hu,bX (iL λx _=>hev x) hd⟩
  ·rename_i g fs cs hg;rw[hg]at hf;simp only[den]at hf;obtain⟨xs,us,hu,hd1,hd2⟩:=hf;refine⟨_,h,(xs++c.args.toList.map a.eval)++us,?_,bX (bX hd1 (iL λx _=>hev x)) hd2⟩;rintro⟨fn,h1,h2,h3⟩;have hb:¬fn.body=none:=by intro hb;rw[hb]at h2;cases h2
   simp[execOp,ho,resolve,hc,hu,Deferred.ofValue,invoke,callFunc,Sem.run_bind,h1,h3,hb,program,Sem.run]
  ·rename_i g first cs hg
   rw[hg]at hf;simp only[den]at hf;split at h
   ·rename_i hc0;have e1:first=#[]:=Array.eq_empty_of_size_eq_zero hc0.1
    have e2:cs=#[]:=Array.eq_empty_of_size_eq_zero hc0.2;subst e1 e2;refine⟨_,h,_,λhcal=>by have:=key g [] hf hcal;simpa using this,iL λx _=>hev x⟩
   ·cases h
  ·cases h
 ·cases h
theorem Mem.below{w':World}(hM:Mem β S D H w)(hb:Below w.heap.size w w'):Mem β S D H w':=
 ⟨λi c hc=>let⟨b,m,h1,h2⟩:=hM.live i c hc;⟨b,m,h1,o0 (λ_ _=>.inl rfl) (λ_ h=>h) (λ_ h=>h) (λx hx=>hb.block x (hM.st x hx)) (λh0=>hb.block b (hM.own i b m h1 h0).1) h2⟩,
  hM.dead,hM.dom,λi b m h h0=>⟨Nat.lt_of_lt_of_le (hM.own i b m h h0).1 hb.size,(hM.own i b m h h0).2⟩,hM.inj,λx hx=>Nat.lt_of_lt_of_le (hM.st x hx) hb.size⟩
theorem Mem.wider'{S':Pr}(hM:Mem β S D H w)(hS:∀b,S b->S' b)(hn:∀b,S' b->b<w.heap.size)(ho:∀i b m,β i=some (b,m)->0<m->¬S' b):Mem β S' D H w:=
 ⟨λi c hc=>let⟨b,m,h1,h2⟩:=hM.live i c hc;⟨b,m,h1,o0 (λ_ _=>.inl rfl) hS (λ_ h=>h) (λ_ _=>rfl) (λ_=>rfl) h2⟩,
  hM.dead,hM.dom,λi b m h h0=>⟨(hM.own i b m h h0).1,ho i b m h h0⟩,hM.inj,hn⟩
theorem ak9{P:Program}{w:World}{src dst e:TypeId}(hs:P.underlying src=some (.slice e))(he:P.underlying e=some (.int .u8))(hd:P.underlying dst=some .string){A:Option Addr}{n m:Nat}{xs:List Int}(hl:xs.length=n)
 (hA:0<n->∃a,A=some a/\∀i x,xs[i]? =some x->w.cell? (a.add i)=some (.int .u8 x)):(convert src dst (.slice A n m)).run P w= .ok (.string (strOfNums xs)) w:=by
 cases A with
 |none=>
  have h0:n=0:=by
   rcases Nat.eq_zero_or_pos n with h|h
   ·exact h
   ·obtain⟨a,ha,_⟩:=hA h;cases ha
  subst h0;obtain rfl:xs=[]:=List.length_eq_zero_iff.1 hl;rw[run_convert_bytes_nil w src e hs he 0 m dst hd];rfl
 |some a=>
  have hc:∀i x,xs[i]? =some x->w.cell? (a.add i)=some (.int .u8 x):=by
   intro i x hx;have h0:0<n:=by have:=(List.getElem?_eq_some_iff.1 hx).1;omega
   obtain⟨a',ha,h⟩:=hA h0;cases ha;exact h i x hx
  have hl':(loadCells a n).run P w= .ok (xs.map (Value.int .u8)).toArray w:=by
   have:=run_loadCells_list (P:=P) w a (xs.map (Value.int .u8)) (λj v hj=>by
    rw[List.getElem?_map,Option.map_eq_some_iff]at hj;obtain⟨x,hx,rfl⟩:=hj
    exact hc j x hx)
   simpa[hl]using this
  rw[run_convert_bytes_string w src dst e _ n m hs he hd,run_bytesToString w _ n m xs hl',foldl_push_bytes];simp[strOfNums,ByteArray.empty,ByteArray.emptyWithCapacity];rfl
theorem vO{P:Program}{e:TypeId}(h:fp7 P e=true):P.underlying e=some (.int .u8):=by
 unfold fp7 at h;split at h
 ·rename_i h';exact h'
 ·cases h
theorem oV{P:Program}{e:TypeId}(h:eV P e=true):P.underlying e=some .string:=by
 unfold eV at h;split at h
 ·rename_i h';exact h'
 ·cases h
theorem go5{l:List V}(h:u8c l=true):l=[.sc (.int .u8 (u8I l))]:=by
 unfold u8c at h;split at h
 ·rfl
 ·cases h
theorem ee5{n:Nat}{f:Nat->List V}{i:Nat}{x:Int}(h:((List.range n).map λj=>u8I (f j))[i]? =some x):i<n/\x=u8I (f i):=by
 rw[List.getElem?_map,Option.map_eq_some_iff]at h;obtain⟨j,hj,rfl⟩:=h;obtain⟨h1,h2⟩:=List.getElem?_eq_some_iff.1 hj;simp at h1 h2;subst h2;exact⟨h1,rfl⟩
open Go.RowKit in
theorem ar2(w:World)(e:TypeId)(s:ByteArray):Below w.heap.size w (Lib.bytesWorld w e s):=
 by
 have h0:Below w.heap.size w (w.drew.alloc (.cells (Lib.bytesCells w e s) e)):=(Below.drew (Below.refl _ w)).alloc (Nat.le_refl _) _;refine h0.trans ?_;unfold Lib.bytesWorld World.freeze;split
 ·exact Below.refl _ _
 ·exact⟨rfl,rfl,rfl,by simp,λk hk=>by
   simp only[Array.getElem?_modify]
   rw[if_neg (by omega)]⟩
theorem eu3(hM:Mem β S D H w)(hev:∀x,den β S w D (ev x) (a.eval x)){s d:TypeId}{x:Operand}(ho:o.op= .convert s d x)(h:ar1 P o ev s d (ev x) H k=some r):dO P β S D H new o a w k r:=by
 have hx:=hev x
 have hrun:∀v w',(convert s d (a.eval x)).run P w= .ok v w'->(execOp a.eval o).run P w= .ok (.value v) w':=by
  intro v w' hr;simp only[execOp,ho,Sem.run_bind,hr,Result.andThen_ok,Sem.run_pure]
 have hfall:bU P o ev k=some r->dO P β S D H new o a w k r:=eT hM hev (by rw[ho];intros;simp);unfold ar1 at h;split at h
 ·rename_i st hst;rw[hst]at hx;simp only[den]at hx;split at h
  ·rename_i e he;split at h
   ·rename_i hc;split at h
    ·rename_i hlen;have hb:=ar2 w e st;have hsz:w.heap.size< (Lib.bytesWorld w e st).heap.size:=by rw[Lib.bytesWorld_size];omega
     have hM':Mem β (λb=>S b\/b=w.heap.size) D H (Lib.bytesWorld w e st):=
      (hM.below hb).wider' (λb h=>.inl h) (λb h=>by
       rcases h with h|h
       ·exact Nat.lt_of_lt_of_le (hM.st b h) hb.size
       ·omega) (λi b m hi h0 h=>by
       have:=hM.own i b m hi h0;rcases h with h|h
       ·exact this.2 h
       ·omega)
     refine⟨_,h,.slice (some ⟨w.heap.size,0,none⟩) st.size (grownCap w st.size 0 e),Lib.bytesWorld w e st,β,(λb=>S b\/b=w.heap.size),.inl (hrun _ _ (by rw[hx];exact Lib.run_convert_string_bytes w s d e st (oV hc.2) (n6 he) (vO hc.1))),hM'.mono (j9 D new),?_,⟨hb.os,hb.tape,hb.output,hb.size,λb h _=>hb.block b h,λb h=>.inl h,λb h=>?_,λi b m h h0=>.inr ⟨i,m,h0,h⟩⟩,AB _ _,λi b m hi h0 _=>hb.block b (hM.own i b m hi h0).1⟩
     ·simp only[gf8,den];refine⟨hlen,some ⟨w.heap.size,0,none⟩,_,⟨w.heap.size,0,none⟩,λj=>[.int .u8 ((st.data.toList.getD j 0).toNat:Int)],rfl,grownCap_ge _ _ _ _,λ_=>⟨rfl,.inr rfl⟩,λj hj=>⟨kP [_],rfl,rfl,rfl,λi y hy=>?_⟩⟩;cases i with
      |zero=>
       cases hy;rw[eU,<-Lib.bytesWorld_cell w e st j hj];simp
      |succ i=>simp at hy
     ·rcases h with h|h
      ·exact .inl h
      ·exact .inr (.inl (by omega))
    ·cases h
   ·cases h
  ·exact hfall h
 ·rename_i hst;rw[hst]at hx;simp only[den]at hx;split at h
  ·rename_i e he;split at h
   ·rename_i hc;exact⟨_,h,f9 hM (u:=.string (strOfNums [])) (hrun _ _ (by rw[hx];exact ak9 (n6 he) (vO hc.1) (oV hc.2) rfl (λh=>absurd h (by omega)))) (by simp only[den])⟩
   ·cases h
  ·cases h
 ·rename_i c n f hst;rw[hst]at hx;simp only[den]at hx;obtain⟨hn,A,m,ad,us,hu,hnm,hA,hj⟩:=hx;split at h
  ·rename_i e he;split at h
   ·rename_i hc;obtain⟨hc1,hc2,rfl⟩:=hc;split at h
    ·rename_i hall;rw[List.all_eq_true]at hall
     refine⟨_,h,f9 hM (u:=.string (cx8 n f)) (hrun _ _ (by
      rw[hu];refine ak9 (n6 he) (vO hc1) (oV hc2) (by simp) (λh0=>⟨ad,(hA h0).1,λi y hy=>?_⟩);obtain⟨hi,rfl⟩:=ee5 hy;obtain⟨g1,_,_,_,g5⟩:=hj i hi;have hf:=go5 (hall i (by simpa using hi));rw[hf]at g1;simp only[d9,den]at g1;obtain⟨_,_,g1,rfl,rfl⟩:=g1;have:=g5 0 _ (by rw[g1];rfl)
      simpa using this)) (by simp only[den])⟩
    ·cases h
   ·cases h
  ·cases h
 ·rename_i i z of l hst;rw[hst]at hx;simp only[den]at hx;split at h
  ·rename_i e _ c n f he hH;obtain⟨b,m,hβ,hck⟩:=hM.live _ _ hH;simp only[d7]at hck;obtain⟨h1,h2,h3,h4⟩:=hck;obtain⟨e1,A,hu,hA⟩:=hx.2 b m hβ;split at h
   ·rename_i hc;obtain⟨hc1,hc2,rfl,rfl,hol⟩:=hc;split at h
    ·rename_i hall;rw[List.all_eq_true]at hall
     refine⟨_,h,f9 hM (u:=.string (cx8 l λj=>f (of+j))) (hrun _ _ (by
      rw[hu];refine ak9 (n6 he) (vO hc1) (oV hc2) (by simp) (λh0=>⟨_,hA (by omega),λi y hy=>?_⟩);obtain⟨hi,rfl⟩:=ee5 hy;obtain⟨cur,k1,k2,k3⟩:=h4 (by omega);obtain⟨us,g1,_,_,_,g5⟩:=k3 (of+i) (by omega);have hf:=go5 (hall i (by simpa using hi));rw[hf]at g1;simp only[d9,den]at g1;obtain⟨_,_,rfl,rfl,rfl⟩:=g1;have:=g5 0 _ rfl;rw[eU];simp only[World.cell?,k1]
      simpa using this)) (by simp only[den])⟩
    ·cases h
   ·cases h
  ·cases h
 ·exact hfall h
theorem ch5{pb pr:Bool}(hM:Mem β S D H w)(hn:¬D new)(hev:∀x,den β S w D (ev x) (a.eval x))(h:opK P pb pr o ev H new k=some r):dO P β S D H new o a w k r:=by
 unfold opK at h;split at h
 ·rename_i x ho;exact⟨_,h,f9 hM (u:=a.eval x) (by simp[execOp,ho]) (hev x)⟩
 ·rename_i x ho;exact⟨_,h,f9 hM (u:=a.eval x) (by simp[execOp,ho]) (hev x)⟩
 ·rename_i c x y ho;exact ei0 hM hev ho h
 ·rename_i t ho;exact dv4 hM hn ho h
 ·rename_i t x ho;exact fk3 hM hn ho (hev x) h
 ·rename_i t x ho;exact xH hM (by simp only[execOp,ho]) (et3 hM (hev x) h)
 ·rename_i t x y ho;exact dp1 hM ho (hev x) (hev y) h
 ·rename_i t x f ho;exact xH hM (by simp only[execOp,ho]) (bi5 hM (hev x) h)
 ·rename_i t x f ho;exact dy4 hM hev ho h
 ·rename_i t x y ho;exact xH hM (by simp only[execOp,ho]) (bh8 hM (hev x) (hev y) h)
 ·rename_i t x y ho;exact dt1 hM hev ho h
 ·rename_i t x lo hi mx ho;split at h
  ·rename_i hmx;have hmx':mx=none:=by cases mx<;>simp_all
   subst hmx'
   have hv:∀(y:Operand) (l:Option Int),bw5 (ev y)=l->l.isSome=true->∃kd n,some (a.eval y)=some (Value.int kd n)/\l=some n:=by
    intro y l hl hs;obtain⟨n,hn⟩:=Option.isSome_iff_exists.1 hs;subst hn;obtain⟨kd,hk⟩:=nJ (hev y) hl;exact⟨kd,n,by rw[hk],rfl⟩
   refine xH hM (s:=Instr.sliceAt t (a.eval x) (lo.map a.eval) (hi.map a.eval) none) (by simp only[execOp,ho,Option.map_none]) ?_
   have hsome:∃l q,(match lo with|some y=>bw5 (ev y) |none=>some 0)=some l/\(match hi with|some y=>bw5 (ev y) |none=>ft6 (ev x))=some q:=by
    unfold zL at h;split at h
    ·rename_i l q h1 h2;exact⟨l,q,h1,h2⟩
    ·cases h
   obtain⟨l,q,h1,h2⟩:=hsome;refine dq4 hM (hev x) ?_ ?_ h
   ·cases lo with
    |none=>exact .inl ⟨rfl,rfl⟩
    |some y=>
     simp only at h1;obtain⟨kd,hk⟩:=nJ (hev y) h1;exact .inr ⟨kd,l,by simp[hk],h1⟩
   ·cases hi with
    |none=>exact .inl ⟨rfl,rfl⟩
    |some y=>
     simp only at h2;obtain⟨kd,hk⟩:=nJ (hev y) h2;exact .inr ⟨kd,q,by simp[hk],h2⟩
  ·cases h
 ·rename_i x n ho;exact cf1 hM hev ho h
 ·rename_i t ps ho;exact dz1 hM hev ho h
 ·rename_i t n ps ho;exact az1 hM hn hev ho h
 ·rename_i t x y ho;exact bi2 hM hn ho (hev x) (hev y) h
 ·rename_i fn fi cs ho;split at h
  ·split at h
   ·rename_i f hfi;exact⟨_,h,ca3 hM hev ho hfi⟩
   ·exact⟨_,h,bi3 hM hev ho⟩
  ·cases h
 ·rename_i t x ho;split at h
  ·rename_i s hs;split at h
   ·rename_i hu;exact⟨_,h,ee9 hM hn ho hu (by rw[<-hs];exact hev x)⟩
   ·cases h
  ·cases h
 ·rename_i x b ho;split at h
  ·rename_i hb;subst hb;exact ek9 hM ho (hev x) h
  ·cases h
 ·rename_i x ho;exact fy5 hM hev ho h
 ·rename_i c ho;exact ef8 hM hn hev ho h
 ·rename_i b t x y u ho;exact fw2 hM hev ho h
 ·rename_i op t x ho;exact eT hM hev (by rw[ho];intros;simp) h
 ·rename_i s d x ho;exact eu3 hM hev ho h
 ·rename_i t ho;exact ce3 hM hn ho h
 ·rename_i t x y ok ho;exact dh8 hM ho (hev x) (hev y) h
 ·rename_i t x y v ho;exact ar9 hM (.inl ho) (hev x) (hev y) (hev v) h
 ·rename_i t x y v ho;exact ar9 hM (.inr ho) (hev x) (hev y) (hev v) h
 ·rename_i t x ho;exact bi4 hM ho (hev x) h
 ·rename_i x u t ok ho;exact cy4 hM ho (hev x) h
 ·rename_i x ho;exact dw2 ho (hev x) h
 ·rename_i c ho;exact ea2 hev ho h
 ·cases h
end
theorem hd5(c:Option Z1)(k:Option Z1->Option Ans):fC c k=k c:=by
 unfold fC;split<;>simp only[rD]
theorem cu2:∀(l:List (Option Z1)) (k:List (Option Z1)->Option Ans),fCL l k=k l
 | [],k=>rfl
 |c::l,k=>by simp only[fCL,hd5,cu2 l]
theorem hd7:∀(l:List (Nat×Option Z1)) (k:List (Nat×Option Z1)->Option Ans),fU l k=k l
 | [],k=>rfl
 | (i,c)::l,k=>by simp only[fU,hd5,hd7 l]
theorem be4:∀(l:List Nat) (k:List Nat->Option Ans),fNL l k=k l
 | [],k=>rfl
 |i::l,k=>by simp only[fNL,be4 l]
theorem setK_eq:∀(l:List V) (t:Nat) (v:V) (k:List V->Option Ans),setK l t v k=k (l.set t v)
 | [],t,v,k=>by simp[setK]
 |x::l,0,v,k=>by simp[setK]
 |x::l,t+1,v,k=>by simp only[setK,setK_eq l t v,List.set_cons_succ]
def putL(fr:List V)(d:Option Tmp)(v:V):List V:=match d with|some t=>fr.set t v|none=>fr
theorem gw4(fr:List V)(d:Option Tmp)(v:V)(k:List V->Option Ans):ho9 fr d v k=k (putL fr d v):=by
 unfold ho9 putL;split<;>simp only[setK_eq]
theorem kE(s:St)(d:Option Tmp)(v:V)(us:List (Nat×Option Z1))(k:St->Option Ans):
 zZ s d v us k=k {fr:=putL s.fr d v,H:=aG s.H us,nx:=s.nx,rt:=s.rt,me:=s.me}:=by
 simp only[zZ,fi7,gw4,hd7]
theorem bn1{β:Bt}{S D:Pr}{w:World}{fr:List V}{a:Act}{d:Option Tmp}{v:V}{u:Value}(h:d9 β S w D fr a.tmps.toList)(hv:den β S w D v u):
 d9 β S w D (putL fr d v) (a.put d u).tmps.toList:=by
 unfold putL Act.put;cases d with
 |none=>exact h
 |some t=>simpa using gn2 t h hv
theorem vK(a:Act)(d:Option Tmp)(u:Value):(a.put d u).defers=a.defers:=by unfold Act.put;split<;>rfl
theorem av5:∀(l seen:List Nat),seen.Nodup->(dd seen l).Nodup
 | [],seen,h=>h
 |i::l,seen,h=>by
  unfold dd;split
  ·exact av5 l seen h
  ·rename_i hn;refine av5 l _ ?_;rw[List.nodup_append];refine⟨h,by simp,λa ha b hb=>?_⟩;simp only[List.mem_singleton]at hb;subst hb;rintro rfl;exact hn (by simpa using ha)
theorem jF(h:Hp):∀(n:Nat) (todo seen:List Nat),seen.Nodup->(gK h n todo seen).Nodup/\∃ex,gK h n todo seen=seen++ex
 |0,todo,seen,hn=>⟨hn,[],by simp[gK]⟩
 |n+1,[],seen,hn=>⟨hn,[],by simp[gK]⟩
 |n+1,i::todo,seen,hn=>by
  unfold gK;split
  ·exact jF h n todo seen hn
  ·rename_i hi;split
   ·exact jF h n todo seen hn
   ·rename_i c hc
    obtain⟨h1,ex,h2⟩:=jF h n (c.ids++todo) (seen++[i]) (by
     rw[List.nodup_append];refine⟨hn,by simp,λa ha b hb=>?_⟩;simp only[List.mem_singleton]at hb;subst hb;rintro rfl
     exact hi (by simpa using ha))
    exact⟨h1,i::ex,by rw[h2];simp⟩
theorem rJ{order:List Nat}{i j:Nat}(h:jI order i=some j):order[j]? =some i:=by
 unfold jI at h;rw[List.idxOf?_eq_some_iff]at h;obtain⟨h1,h2,_⟩:=h;rw[List.getElem?_eq_getElem h1,h2]
theorem bd1{order:List Nat}(hn:order.Nodup){i j:Nat}(h:order[j]? =some i):jI order i=some j:=by
 cases hp:jI order i with
 |none=>
  unfold jI at hp;rw[List.idxOf?_eq_none_iff]at hp;exact absurd (List.mem_of_getElem? h) hp
 |some j'=>
  have h':=rJ hp;obtain⟨a1,a2⟩:=List.getElem?_eq_some_iff.1 h;obtain⟨b1,b2⟩:=List.getElem?_eq_some_iff.1 h';rw[(List.getElem_inj hn).1 (b2.trans a2.symm)]
theorem eg6{order:List Nat}{i:Nat}(h:jI order i=none):i∉order:=by
 unfold jI at h
 rwa [List.idxOf?_eq_none_iff]at h
def ofOrder(β:Bt)(order:List Nat):Bt:=λj=>(order[j]?).bind β
section
variable {β:Bt} {S D:Pr} {H:Hp} {w:World} {order:List Nat}
theorem ae9:Ren (jI order) β (ofOrder β order) D (· <order.length):=by
 intro i j _ hj;have h:=rJ hj;refine⟨(List.getElem?_eq_some_iff.1 h).1,λbm hb=>?_⟩;unfold ofOrder at hb;rw[h]at hb;exact hb
theorem cl3{β β':Bt}{S D D':Pr}{w:World}{r:Nat->Option Nat}{b m:Nat}{c:Z1}(hr:Ren r β β' D D')(h:d7 β S w D b m c):d7 β' S w D' b m (c.ren r):=by
 cases c with
 |blk cs=>
  simp only[d7,Z1.ren]at h⊢;obtain⟨h0,us,T,h1,h2,h3⟩:=h;exact⟨h0,us,T,h1,iG hr _ _ h2,h3⟩
 |tbk T cs=>
  simp only[d7,Z1.ren]at h⊢;obtain⟨h0,us,h1,h2,h3⟩:=h;exact⟨h0,us,h1,iG hr _ _ h2,h3⟩
 |row e k n f=>
  simp only[d7,Z1.ren]at h⊢;obtain⟨h1,h2,h3,hc⟩:=h;refine⟨h1,h2,h3,λh0=>?_⟩;obtain⟨cur,h4,h5,h6⟩:=hc h0;exact⟨cur,h4,h5,rS (λ_ h=>h) (λ_ _=>rfl) h6⟩
 |iter s p=>exact h
 |map es=>
  simp only[d7,Z1.ren]at h⊢;obtain⟨h0,ents,clock,h1,h2⟩:=h;exact⟨h0,ents,clock,h1,mU (λ_ h=>h) (λ_ _=>rfl) h2⟩
 |smap n g f=>
  simp only[d7,Z1.ren]at h⊢;obtain⟨h0,ents,clock,h1,h2⟩:=h;exact⟨h0,ents,clock,h1,xP (λ_ h=>h) (λ_ _=>rfl) h2⟩
theorem dn7(j:Nat):hp (keep H order) j=(order[j]?).bind λi=>(H i).map (Z1.ren (jI order)):=by
 unfold hp keep;rw[List.getD,List.getElem?_map];cases order[j]? <;>simp
theorem Mem.renum(hM:Mem β S D H w)(hn:order.Nodup):Mem (ofOrder β order) S (· <order.length) (hp (keep H order)) w:=by
 have hget:∀j bm,ofOrder β order j=some bm->∃i,order[j]? =some i/\β i=some bm:=by
  intro j bm h;unfold ofOrder at h;cases ho:order[j]?with
  |none=>rw[ho]at h;cases h
  |some i=>rw[ho]at h;exact⟨i,rfl,h⟩
 refine⟨?_,?_,?_,?_,?_,hM.st⟩
 ·intro j c hc;rw[dn7]at hc;cases ho:order[j]?with
  |none=>rw[ho]at hc;cases hc
  |some i=>
   rw[ho]at hc;simp only[Option.bind_some,Option.map_eq_some_iff]at hc;obtain⟨c',h1,rfl⟩:=hc;obtain⟨b,m,h2,h3⟩:=hM.live i c' h1;exact⟨b,m,by unfold ofOrder;rw[ho];exact h2,cl3 ae9 h3⟩
 ·intro j hj;rw[dn7]at hj;unfold ofOrder;cases ho:order[j]?with
  |none=>rfl
  |some i=>
   rw[ho]at hj;simp only[Option.bind_some,Option.map_eq_none_iff]at hj⊢;exact hM.dead i hj
 ·intro j b m h;obtain⟨i,h1,_⟩:=hget j _ h;exact(List.getElem?_eq_some_iff.1 h1).1
 ·intro j b m h h0;obtain⟨i,_,h2⟩:=hget j _ h;exact hM.own i b m h2 h0
 ·intro j j' b m m' h h' h0 h0';obtain⟨i,h1,h2⟩:=hget j _ h;obtain⟨i',h1',h2'⟩:=hget j' _ h';have:=hM.inj i i' b m m' h2 h2' h0 h0';subst this;have e1:=bd1 hn h1;have e2:=bd1 hn h1';rw[e1]at e2;cases e2;rfl
end
structure Y2(E:Env)(S:Pr)(w:World):Prop where
 rd:∀g cs,E.glob g=some cs->den (λ_=>none) S w (λ_=>False) (.rp cs) (.pointer (some ⟨g,0,none⟩))
 inv:∀p∈E.inv,S p.1/\∃x,w.heap[p.1]? =some x/\p.2 x
theorem Y2.later{E:Env}{S S':Pr}{w w':World}(h:Y2 E S w)(hS:∀b,S b->S' b)(hk:Y4 S w w'):Y2 E S' w':=
 ⟨λg cs hg=>pQ (λ_ h=>h.elim) hS (λ_ h=>h) hk _ _ (h.rd g cs hg),λp hp=>by
  obtain⟨h1,x,h2,h3⟩:=h.inv p hp
  exact⟨hS _ h1,x,by rw[hk _ h1];exact h2,h3⟩⟩
def Dfs(E:Env)(f:FuncId)(ds:List Deferred):Prop:=(E.dfn f=false->ds=[])/\(∀d,d∈ds->∃(g:FuncId) (us:Array Value),E.idle g=some us.size/\d={target:=.fn (.func g) us,args:=#[]})/\(E.dok=false->ds=E.dls)
structure Rel(E:Env)(β:Bt)(S D:Pr)(s:St)(a:Act)(w:World):Prop where
 fr:d9 β S w D s.fr a.tmps.toList
 mem:Mem β S D s.H w
 df:Dfs E s.me a.defers
 lt:∀i,D i->i<s.nx
 gl:Y2 E S w
 rtD:∀i,i<s.rt->D i
def ExR(S:Pr)(w:World):Ex->Exit->Prop
 | .normal,.normal=>True
 | .exit i,.exit j=>i=j
 | .ret,.ret=>True
 | .panic v,.panic ch=>∃u,ch=[{v:=u,recovered:=false}]/\v.pure=true/\den (λ_=>none) S w (λ_=>False) v u
 |_,_=>False
def W5(E:Env)(_e:Ex)(β:Bt)(S D:Pr)(s:St)(a:Act)(w:World):Prop:=Rel E β S D s a w
def nW(n:Nat)(β β':Bt):Prop:=∀i bm,i<n->β' i=some bm->β i=some bm
structure Y7(E:Env)(β:Bt)(S:Pr)(w:World)(s:St)(e:Ex)(s':St)(e':Exit)(a':Act)(w':World):Prop where
 ex:∃β' S' D',ExR S' w' e e'/\W5 E e β' S' D' s' a' w'/\Evo β S w β' S' w'/\nW s.rt β β'/\s'.rt=s.rt/\s'.me=s.me
theorem Y7.trans{E:Env}{β β1:Bt}{S S1:Pr}{w w1:World}{s s1 s':St}{e:Ex}{e':Exit}{a':Act}{w':World}(hev:Evo β S w β1 S1 w1)(hr:nW s.rt β β1)(hrt:s1.rt=s.rt)(hme:s1.me=s.me)
 (h:Y7 E β1 S1 w1 s1 e s' e' a' w'):Y7 E β S w s e s' e' a' w':=by
 obtain⟨β',S',D',h1,h2,h3,h4,h5,h6⟩:=h.ex;exact⟨β',S',D',h1,h2,hev.trans h3,(λi bm hi hb=>hr i bm hi (h4 i bm (by rw[hrt];exact hi) hb)),h5.trans hrt,h6.trans hme⟩
def Z2(E:Env)(c:Code)(s:St)(e:Ex)(s':St):Prop:=∀β S D a w,Rel E β S D s a w->c.wp E.P (Y7 E β S w s e s') a w
def cr6(live:Nat)(s:St):List Nat:=gK s.H rO (kV s.H (List.range s.rt)++iC (zap live 0 s.fr)) (List.range s.rt)
def az9(live:Nat)(s:St):St:={fr:=an1 (jI (cr6 live s)) (zap live 0 s.fr),H:=hp (keep s.H (cr6 live s)),nx:=(cr6 live s).length,rt:=s.rt,me:=s.me}
theorem tN(live:Nat)(s:St)(k:St->Option Ans):am4 live s k=k (az9 live s):=by
 simp only[am4,be4,hp7,rD,cu2];rfl
theorem ag9{E:Env}{β:Bt}{S D:Pr}{s:St}{a:Act}{w:World}(h:Rel E β S D s a w)(live:Nat):
 ∃β' D',Rel E β' S D' (az9 live s) a w/\Evo β S w β' S w/\nW s.rt β β':=by
 unfold az9 cr6;obtain⟨hn,ex,hex⟩:=jF s.H rO (kV s.H (List.range s.rt)++iC (zap live 0 s.fr)) (List.range s.rt) List.nodup_range;generalize ho:gK s.H rO (kV s.H (List.range s.rt)++iC (zap live 0 s.fr)) (List.range s.rt)=order at*
 refine⟨ofOrder β order,(· <order.length),⟨iG ae9 _ _ (gf4 live 0 h.fr),h.mem.renum hn,h.df,λi hi=>hi,h.gl,λi hi=>by
  show i<order.length;have hi':i<s.rt:=hi;rw[hex,List.length_append,List.length_range]
  omega⟩,?_,?_⟩
 ·refine⟨rfl,rfl,rfl,Nat.le_refl _,λ_ _ _=>rfl,λ_ h=>h,λ_ h=>.inl h,λi b m hb h0=>?_⟩;unfold ofOrder at hb;cases ho:order[i]?with
  |none=>rw[ho]at hb;cases hb
  |some j=>rw[ho]at hb;exact .inr ⟨j,m,h0,hb⟩
 ·intro i bm hi hb;unfold ofOrder at hb
  have:order[i]? =some i:=by
   rw[hex,List.getElem?_append,if_pos (by simpa using hi)];simp[hi]
  rw[this]at hb;exact hb
def ct8(P:Program)(c:Code)(Q:Exit->Act->World->Prop)(a:Act)(w:World):Prop:=
 ∀(b:Frame) (k:List Item) (cs:List Frame),∃e a' w',Q e a' w'/\Arrives P (lone (b.at a (.code c:: .inLoop c::k)) cs w) b k cs e a' w'
theorem bx1{P:Program}{c:Code}{Q:Exit->Act->World->Prop}{a:Act}{w:World}(h:ct8 P c Q a w):(Code.loop c).wp P Q a w:=
 λb k cs=>let⟨e,a',w',q,r⟩:=h b k cs;⟨e,a',w',q,.of_steps (.one step_loop) r⟩
theorem cd6{P:Program}{c:Code}{Q:Exit->Act->World->Prop}{a:Act}{w:World}(h:c.wp P (Exit.then (ct8 P c Q) Q) a w):ct8 P c Q a w:=by
 intro b k cs;obtain⟨e,a₁,w₁,hq,harr⟩:=h b (.inLoop c::k) cs;cases e with
 |normal=>
  obtain⟨e₂,a₂,w₂,hq₂,harr₂⟩:=hq b k cs;exact⟨e₂,a₂,w₂,hq₂,.of_steps (Steps.trans harr (.one step_inLoop)) harr₂⟩
 |exit id=>exact⟨_,a₁,w₁,hq,.pass (x:=.inLoop c) rfl (λ_ _=>.inl (by simp)) harr⟩
 |goto l=>exact⟨_,a₁,w₁,hq,.pass (x:=.inLoop c) rfl (λ_ _=>.inl (by simp)) harr⟩
 |ret=>exact⟨_,a₁,w₁,hq,.pass (x:=.inLoop c) rfl (λ_ _=>.inl (by simp)) harr⟩
 |panic ch=>exact⟨_,a₁,w₁,hq,.pass (x:=.inLoop c) rfl (λ_ _=>.inl (by simp)) harr⟩
 |outgrown=>exact⟨_,a₁,w₁,hq,.pass (x:=.inLoop c) rfl (λ_ _=>.inl (by simp)) harr⟩
def SL(E:Env)(c:Z5)(s:St)(e:Ex)(s':St):Prop:=∀β S D a w,Rel E β S D s a w->ct8 E.P c.erase (Y7 E β S w s e s') a w
def bQ(E:Env)(lo:aE):Prop:=∀id live c s k r,lo id live c s k=some r->∃e s',k e s'=some r/\SL E c s e s'
def ap3(β:Bt)(S:Pr)(w:World)(r:Nat)(cr:Z3)(e:Ending)(w':World):Prop:=
 match cr with
 | .ret v L=>∃u β' S',e= .returned u/\Mem β' S' (· <L.length) (hp L) w'/\den β' S' w' (· <L.length) v u/\Evo β S w β' S' w'/\nW r β β'
 | .pan v=>∃u β' S',e= .panicked [{v:=u,recovered:=false}]/\v.pure=true/\den (λ_=>none) S' w' (λ_=>False) v u/\Evo β S w β' S' w'/\∀b,S' b->b<w'.heap.size
def SC(E:Env)(f:FuncId)(args:List V)(L:List (Option Z1))(cr:Z3):Prop:=
 rH E.P f/\∀(β:Bt) (S:Pr) (w:World) (us:List Value),d9 β S w (· <L.length) args us->Mem β S (· <L.length) (hp L) w->Y2 E S w->
  Calls E.P f us.toArray w (ap3 β S w (cR E.allR (hp L) args).length cr)
def aF(E:Env)(ca:u9):Prop:=∀f args L k r,ca f args L k=some r->∃cr,k cr=some r/\SC E f args L cr
def Z6(E:Env):Prop:=∀f args v,E.ext f args=some v->rH E.P f/\v.pure=true/\∀(β:Bt) (S D:Pr) (w:World) (us:List Value),d9 β S w D args us->Y2 E S w->(∀b,S b->b<w.heap.size)->
 Calls E.P f us.toArray w λe w'=>∃u S',e= .returned u/\Below w.heap.size w w'/\den (λ_=>none) S' w' (λ_=>False) v u/\(∀b,S b->S' b)/\∀b,S' b->S b\/(w.heap.size<=b/\b<w'.heap.size)
def dj1(E:Env)(β:Bt)(S D:Pr)(H:Hp)(new:Nat)(f:FuncId)(args:List V)(w:World):Res->Prop
 | .val v us=>rH E.P f/\∀cs:List Value,d9 β S w D args cs->Calls E.P f cs.toArray w λe w'=>∃u β' S',e= .returned u/\Mem β' S' (kY D new) (aG H us) w'/\den β' S' w' (kY D new) v u/\Evo β S w β' S' w'/\Hb β β' D/\X6 β w us w'
 | .pan v us=>rH E.P f/\∀cs:List Value,d9 β S w D args cs->Calls E.P f cs.toArray w λe w'=>∃u β' S',e= .panicked [{v:=u,recovered:=false}]/\v.pure=true/\den (λ_=>none) S' w' (λ_=>False) v u/\Evo β S w β' S' w'/\Mem β' S' D (aG H us) w'/\Hb β β' D/\X6 β w us w'
 | .call _ _=>False
 | .dfr _ _=>False
section
variable {E:Env} {β:Bt} {S D:Pr} {H:Hp} {w:World} {new:Nat} {k:KR} {r:Ans}
theorem Evo.below{w':World}(hb:Below w.heap.size w w'):Evo β S w β S w':=
 ⟨hb.os,hb.tape,hb.output,hb.size,λb h _=>hb.block b h,λ_ h=>h,λ_ h=>.inl h,λi b m h h0=>.inr ⟨i,m,h0,h⟩⟩
theorem pB{S' S1:Pr}{β':Bt}{w':World}(h:Evo (λ_=>none) S1 w β' S' w'):Below w.heap.size w w':=
 ⟨h.os,h.tape,h.output,h.size,λb hb=>h.keep b hb (λi m _ e=>by cases e)⟩
theorem bb8(hX:Z6 E)(hM:Mem β S D H w)(hG:Y2 E S w){f:FuncId}{args:List V}{v:V}(h:E.ext f args=some v):dj1 E β S D H new f args w (.val v []):=by
 obtain⟨h1,h2,h3⟩:=hX f args v h;refine⟨h1,λcs hcs=>(h3 β S D w cs hcs hG hM.st).mono ?_⟩;rintro e w' ⟨u,S',rfl,hb,hd,hs1,hs2⟩
 have ho:∀i b m,β i=some (b,m)->0<m->¬S' b:=by
  intro i b m hi h0 hs;rcases hs2 b hs with h| ⟨h,_⟩
  ·exact(hM.own i b m hi h0).2 h
  ·have:=(hM.own i b m hi h0).1;omega
 refine⟨u,β,S',rfl,((hM.below hb).wider' hs1 (λb hs=>?_) ho).mono (j9 D new),y6 (λ_ h=>h) (λ_ _=>rfl) _ _ h2 hd,⟨hb.os,hb.tape,hb.output,hb.size,λb h _=>hb.block b h,hs1,λb hs=>?_,λi b m h h0=>.inr ⟨i,m,h0,h⟩⟩,AB _ _,λi b m hi h0 _=>hb.block b (hM.own i b m hi h0).1⟩
 ·rcases hs2 b hs with h| ⟨_,h⟩
  ·exact Nat.lt_of_lt_of_le (hM.st b h) hb.size
  ·exact h
 ·rcases hs2 b hs with h| ⟨h,_⟩
  ·exact .inl h
  ·exact .inr (.inl h)
theorem dv8{v:V}(h:v.scal=true){β β':Bt}{S S' D D':Pr}{w w':World}{u:Value}(hd:den β S w D v u):den β' S' w' D' v u:=by
 have one:∀(v:V) (u:Value),v.sc1=true->den β S w D v u->den β' S' w' D' v u:=λv u h hd=>by cases v<;>simp_all [V.sc1,den]
 have oneL:∀(l:List V) (us:List Value),(∀v∈l,v.sc1=true)->d9 β S w D l us->d9 β' S' w' D' l us:=by
  intro l
  induction l with
  |nil=>intro us _ h;simpa[d9]using h
  |cons c cs ih=>
   intro us h hd;simp only[d9]at hd⊢;obtain⟨x,xs,h1,h2,h3⟩:=hd;exact⟨x,xs,h1,one c x (h c (.head _)) h2,ih xs (λv hv=>h v (.tail _ hv)) h3⟩
 have two:∀(v:V) (u:Value),v.sc2=true->den β S w D v u->den β' S' w' D' v u:=λv u h hd=>by
  cases v with
  |sc x=>simpa[den]using hd
  |agg cs=>
   simp only[den]at hd⊢;obtain⟨us,h1,h2,h3⟩:=hd;exact⟨us,h1,oneL cs us (by simpa[V.sc2,List.all_eq_true]using h) h2,h3⟩
  |_=>simp[V.sc2]at h
 have twoL:∀(l:List V) (us:List Value),(∀v∈l,v.sc2=true)->d9 β S w D l us->d9 β' S' w' D' l us:=by
  intro l
  induction l with
  |nil=>intro us _ h;simpa[d9]using h
  |cons c cs ih=>
   intro us h hd;simp only[d9]at hd⊢;obtain⟨x,xs,h1,h2,h3⟩:=hd;exact⟨x,xs,h1,two c x (h c (.head _)) h2,ih xs (λv hv=>h v (.tail _ hv)) h3⟩
 cases v with
 |tup cs=>
  simp only[den]at hd⊢;obtain⟨us,h1,h2⟩:=hd;exact⟨us,h1,twoL cs us (by simpa[V.scal,List.all_eq_true]using h) h2⟩
 |sc x=>exact two _ _ h hd
 |agg cs=>exact two _ _ h hd
 |_=>simp[V.scal,V.sc2]at h
theorem ch0(hM:Mem β S D H w){S':Pr}{β':Bt}(hHb:Hb β β' D)(hS:∀b,S b->S' b)(hown:∀i b m,β i=some (b,m)->0<m->S' b){v:V}{u:Value}(h:den β S w D v u):den β' S' w D (v.bw2 H) u:=by
 have one:∀(v:V) (u:Value),den β S w D v u->den β' S' w D (v.bw1 H) u:=λv u h=>ab9 hM hHb hS (λi z o l b m _ hb h0=>hown i b m hb h0) h;unfold V.bw2;split
 ·rename_i cs;simp only[den]at h⊢;obtain⟨us,h1,h2,h3⟩:=h;refine⟨us,h1,?_,h3⟩;clear h1 h3
  induction cs generalizing us with
  |nil=>simpa[d9]using h2
  |cons c cs ih=>
   simp only[d9,List.map_cons]at h2⊢;obtain⟨x,xs,h4,h5,h6⟩:=h2;exact⟨x,xs,h4,one c x h5,ih xs h6⟩
 ·exact one v u h
theorem bp6(hM:Mem β S D H w){S':Pr}{β':Bt}(hHb:Hb β β' D)(hS:∀b,S b->S' b)(hown:∀i b m,β i=some (b,m)->0<m->S' b){v:V}{u:Value}(h:den β S w D v u):den β' S' w D (v.bw H) u:=by
 unfold V.bw;split
 ·rename_i cs;simp only[den]at h⊢;obtain⟨us,h1,h2⟩:=h;refine⟨us,h1,?_⟩;clear h1
  induction cs generalizing us with
  |nil=>simpa[d9]using h2
  |cons c cs ih=>
   simp only[d9,List.map_cons]at h2⊢;obtain⟨x,xs,h4,h5,h6⟩:=h2;exact⟨x,xs,h4,ch0 hM hHb hS hown h5,ih xs h6⟩
 ·exact ch0 hM hHb hS hown h
theorem ej3{ca:u9}(hC:aF E ca)(hX:Z6 E){f:FuncId}{args:List V}(h:bv2 E ca f args H k=some r):∃res,k res=some r/\∀β S D w new,Mem β S D H w->Y2 E S w->dj1 E β S D H new f args w res:=by
 unfold bv2 at h
 replace h:=ci6 h
 simp only[rD]at h;split at h
 case isFalse=>cases h
 rename_i hpure
 have lent:∀(β:Bt) (S D:Pr) (w:World),Mem β S D H w->∀cs:List Value,d9 β S w D args cs->d9 (λ_=>none) (λb=>S b\/∃i m,0<m/\β i=some (b,m)) w (λi=>i< ([]:List (Option Z1)).length) (args.map (V.bw H)) cs:=by
  intro β S D w hM cs hcs
  have key:∀(l:List V) (us:List Value),d9 β S w D l us->d9 (λ_=>none) (λb=>S b\/∃i m,0<m/\β i=some (b,m)) w D (l.map (V.bw H)) us:=by
   intro l
   induction l with
   |nil=>intro us h;simpa[d9]using h
   |cons c l ih=>
    intro us h;simp only[d9,List.map_cons]at h⊢;obtain⟨x,xs,h1,h2,h3⟩:=h;exact⟨x,xs,h1,bp6 hM (λ_ _=>.inr rfl) (λ_ h=>.inl h) (λi b m hb h0=>.inr ⟨i,m,h0,hb⟩) h2,ih xs h3⟩
  exact x8 (λ_ h=>h) (λ_ _=>rfl) _ _ hpure (key _ _ hcs)
 split at h
 ·rename_i v hv;split at h
  case isFalse=>cases h
  rename_i hs;obtain⟨x1,x2,x3⟩:=hX _ _ v hv;refine⟨_,h,λβ S D w new hM hG=>⟨x1,λcs hcs=>?_⟩⟩;have hst:∀b,(S b\/∃i m,0<m/\β i=some (b,m))->b<w.heap.size:=λb hb=>hb.elim (λh=>hM.st b h) (λ⟨i,m,h0,h⟩=>(hM.own i b m h h0).1);refine(x3 _ _ _ w cs (lent β S D w hM cs hcs) (hG.later (λ_ h=>.inl h) (λ_ _=>rfl)) hst).mono ?_;rintro e w' ⟨u,S',rfl,hb,hd,_,_⟩;exact⟨u,β,S,rfl,(hM.below hb).mono (j9 D new),dv8 hs hd,Evo.below hb,AB _ _,λi b m hi h0 _=>hb.block b (hM.own i b m hi h0).1⟩
 obtain⟨cr,hk,hsc⟩:=hC _ _ _ _ _ h;split at hk
 ·rename_i v L;split at hk
  ·rename_i hc;obtain⟨hL,hs⟩:=hc;obtain⟨hcal,hsc⟩:=hsc;refine⟨_,hk,λβ S D w new hM hG=>⟨hcal,λcs hcs=>?_⟩⟩;have hargs:=lent β S D w hM cs hcs
   have hmem:Mem (λ_=>none) (λb=>S b\/∃i m,0<m/\β i=some (b,m)) (λi=>i< ([]:List (Option Z1)).length) (hp []) w:=
    ⟨λi c hc=>(by simp[hp]at hc),λ_ _=>rfl,λi b m h=>(by cases h),λi b m h=>(by cases h),λi j b m m' h=>(by cases h),λb hb=>hb.elim (λh=>hM.st b h) (λ⟨i,m,h0,h⟩=>(hM.own i b m h h0).1)⟩
   refine(hsc _ _ w cs hargs hmem (hG.later (λ_ h=>.inl h) (λ_ _=>rfl))).mono ?_;rintro e w' ⟨u,β',S',rfl,g1,g2,g3,g4⟩;have hb:=pB g3;exact⟨u,β,S,rfl,(hM.below hb).mono (j9 D new),dv8 hs g2,Evo.below hb,AB _ _,λi b m hi h0 _=>hb.block b (hM.own i b m hi h0).1⟩
  ·cases hk
 ·cases hk
theorem cb3{F:Option Z1->Option Z1}{g:Nat->Nat}:∀(L:List (Option Z1)) (n:Nat) (H:Hp) (i:Nat),(∀j,n<=j->j<n+L.length->g j≠i)->aG H ((L.zipIdx n).map λp=>(g p.2,F p.1)) i=H i
 | [],n,H,i,_=>rfl
 |c::L,n,H,i,h=>by
  simp only[List.zipIdx_cons,List.map_cons,aG];rw[cb3 L (n+1) _ i (λj h1 h2=>h j (by omega) (by simp only[List.length_cons];omega))];exact aY _ _ (λe=>h n (Nat.le_refl _) (by simp) e.symm)
theorem fj6{F:Option Z1->Option Z1}{g:Nat->Nat}:∀(L:List (Option Z1)) (n:Nat) (H:Hp) (j:Nat),n<=j->j<n+L.length->(∀a b,n<=a->a<n+L.length->n<=b->b<n+L.length->g a=g b->a=b)->
 aG H ((L.zipIdx n).map λp=>(g p.2,F p.1)) (g j)=F (L.getD (j-n) none)
 | [],n,H,j,h1,h2,_=>by simp at h2;omega
 |c::L,n,H,j,h1,h2,hinj=>by
  simp only[List.zipIdx_cons,List.map_cons,aG];by_cases hj:j=n
  ·subst hj
   rw[cb3 L (j+1) _ _ (λj' h3 h4 e=>by
    have:=hinj j' j (by omega) (by simp only[List.length_cons];omega) (by omega) (by simp only[List.length_cons];omega) e
    omega),j6]
   simp
  ·rw[fj6 L (n+1) _ j (by omega) (by simp only[List.length_cons]at h2;omega) (λa b h3 h4 h5 h6=>hinj a b (by omega) (by simp only[List.length_cons];omega) (by omega) (by simp only[List.length_cons];omega))];congr 1;obtain⟨q,rfl⟩:∃q,j=n+1+q:=⟨j-(n+1),by omega⟩;rw[show n+1+q-(n+1)=q by omega,show n+1+q-n=q+1 by omega];simp
mutual
theorem fi8:∀(v:V) (u:Value),den β S w D v u->∀i∈v.ids,D i
 | .junk,u,h=>by simp[V.ids]
 | .sc v,u,h=>by simp[V.ids]
 | .agg cs,u,h=>by
  simp only[den,V.ids]at h⊢;obtain⟨us,_,h2,_⟩:=h;exact qZ cs us h2
 | .tup cs,u,h=>by
  simp only[den,V.ids]at h⊢;obtain⟨us,_,h2⟩:=h;exact qZ cs us h2
 | .ptr i o,u,h=>by simp only[den,V.ids]at h⊢;intro j hj;simp only[List.mem_singleton]at hj;rw[hj];exact h.1.1
 | .ep i k j o,u,h=>by simp only[den,V.ids]at h⊢;intro j hj;simp only[List.mem_singleton]at hj;rw[hj];exact h.1.1
 | .rp cs,u,h=>by simp[V.ids]
 | .sl i k o l,u,h=>by simp only[den,V.ids]at h⊢;intro j hj;simp only[List.mem_singleton]at hj;rw[hj];exact h.1.1
 | .ro k n f,u,h=>by simp[V.ids]
 | .fn f cs,u,h=>by
  simp only[den,V.ids]at h⊢;obtain⟨us,_,h2⟩:=h;exact qZ cs us h2
 | .mp i,u,h=>by simp only[den,V.ids]at h⊢;intro j hj;simp only[List.mem_singleton]at hj;rw[hj];exact h.1.1
 | .ifc t v,u,h=>by
  simp only[den,V.ids]at h⊢;obtain⟨x,_,h2⟩:=h;exact fi8 v x h2
 | .bf f fs cs,u,h=>by
  simp only[den,V.ids]at h⊢;obtain⟨xs,us,_,h2,h3⟩:=h;intro i hi;rcases List.mem_append.1 hi with hi|hi
  ·exact qZ fs xs h2 i hi
  ·exact qZ cs us h3 i hi
theorem qZ:∀(l:List V) (us:List Value),d9 β S w D l us->∀i∈iC l,D i
 | [],us,h=>by simp[iC]
 |c::cs,us,h=>by
  simp only[d9,iC]at h⊢;obtain⟨x,xs,_,h2,h3⟩:=h;intro i hi;rcases List.mem_append.1 hi with hi|hi
  ·exact fi8 c x h2 i hi
  ·exact qZ cs xs h3 i hi
end
theorem cx6:∀(l seen:List Nat) (i:Nat),i∈dd seen l->i∈seen\/i∈l
 | [],seen,i,h=>.inl h
 |x::l,seen,i,h=>by
  unfold dd at h;split at h
  ·rcases cx6 l seen i h with h|h
   ·exact .inl h
   ·exact .inr (.tail _ h)
  ·rcases cx6 l _ i h with h|h
   ·rcases List.mem_append.1 h with h|h
    ·exact .inl h
    ·simp only[List.mem_singleton]at h;subst h;exact .inr (.head _)
   ·exact .inr (.tail _ h)
theorem uJ(h:Hp):∀(n:Nat) (todo seen:List Nat) (i:Nat),i∈gK h n todo seen->i∈seen\/(h i).isSome=true
 |0,todo,seen,i,hi=>.inl hi
 |n+1,[],seen,i,hi=>.inl hi
 |n+1,x::todo,seen,i,hi=>by
  unfold gK at hi;split at hi
  ·exact uJ h n todo seen i hi
  ·split at hi
   ·exact uJ h n todo seen i hi
   ·rename_i c hc;rcases uJ h n _ _ i hi with h1|h1
    ·rcases List.mem_append.1 h1 with h1|h1
     ·exact .inl h1
     ·simp only[List.mem_singleton]at h1;subst h1;exact .inr (by rw[hc];rfl)
    ·exact .inr h1
end
section
variable {E:Env} {β:Bt} {S D:Pr} {H:Hp} {w:World} {new:Nat} {k:KR} {r:Ans}
theorem v7{order:List Nat}{j:Nat}{bm:Nat×Nat}(h:ofOrder β order j=some bm):∃i,order[j]? =some i/\β i=some bm:=by
 unfold ofOrder at h;cases ho:order[j]?with
 |none=>rw[ho]at h;cases h
 |some i=>rw[ho]at h;exact⟨i,rfl,h⟩
theorem Evo.ofOrder{order:List Nat}{β2:Bt}{S2:Pr}{w':World}(h:Evo (ofOrder β order) S w β2 S2 w'):Evo β S w β2 S2 w':=
 ⟨h.os,h.tape,h.output,h.size,λb hb hn=>h.keep b hb (λi m h0 e=>let⟨j,_,h2⟩:=v7 e;hn j m h0 h2),h.sub,
  λb hb=>(h.newS b hb).imp id (Or.imp id λ⟨i,m,h0,e⟩=>let⟨j,_,h2⟩:=v7 e;⟨j,m,h0,h2⟩),
  λi b m hb h0=>(h.newO i b m hb h0).imp id λ⟨j,m',h0',e⟩=>let⟨j',_,h2⟩:=v7 e;⟨j',m',h0',h2⟩⟩
theorem Mem.wider{S':Pr}(hM:Mem β S D H w)(hS:∀b,S b->S' b)(hst:∀b,S' b->b<w.heap.size)(ho:∀i b m,β i=some (b,m)->0<m->¬S' b):Mem β S' D H w:=
 ⟨λi c hc=>let⟨b,m,h1,h2⟩:=hM.live i c hc;⟨b,m,h1,o0 (λ_ _=>.inl rfl) hS (λ_ h=>h) (λ_ _=>rfl) (λ_=>rfl) h2⟩,hM.dead,hM.dom,λi b m h h0=>⟨(hM.own i b m h h0).1,ho i b m h h0⟩,hM.inj,hst⟩
def rX(β β2:Bt)(order:List Nat)(r new n:Nat):Bt:=λi=>
 match jI order i with
 |some j=>if j<r then β2 j else none
 |none=>if new<=i/\i<new+(n-r)then β2 (r+(i-new))else β i
theorem eh1 {f : FuncId} {args : List V} {order : List Nat} {r0 : Nat} {β2 : Bt} {S2 : Pr} {w' : World} {v : V} {u : Value} {L : List (Option Z1)} (hM : Mem β S D H w) (hn : ∀ i, new <= i -> i < new + j2 -> ¬ D i)
 (hnd : order.Nodup) (hD : ∀ i ∈ order, D i) (h1 : r0 <= L.length) (h2 : L.length <= r0 + j2) (h3 : r0 <= order.length)
 (hM2 : Mem β2 S2 (· < L.length) (hp L) w') (hd : den β2 S2 w' (· < L.length) v u) (hev : Evo (ofOrder β order) S w β2 S2 w') (hr : nW r0 (ofOrder β order) β2) :
 Mem (rX β β2 order r0 new L.length) S2 (kY D new) (aG H ((order.map λi => (i, none)) ++ (L.zipIdx.map λp => ((y8 order r0 new p.2).getD 0, p.1.map (Z1.ren (y8 order r0 new)))))) w' /\
 den (rX β β2 order r0 new L.length) S2 w' (kY D new) (v.ren (y8 order r0 new)) u /\ Evo β S w (rX β β2 order r0 new L.length) S2 w' /\ Hb β (rX β β2 order r0 new L.length) D /\ ∀ i b m, β i = some (b, m) -> 0 < m -> i ∉ order -> w'.heap[b]? = w.heap[b]? := by
 -- where a name goes
 have hback : ∀ j, j < L.length -> ∃ i, y8 order r0 new j = some i /\ rX β β2 order r0 new L.length i = β2 j /\ kY D new i := by
  intro j hj;unfold y8;by_cases hjr : j < r0
  ·rw [if_pos hjr];have hjo : j < order.length := by omega
   refine ⟨order[j], List.getElem?_eq_getElem hjo, ?_, .inl (hD _ (List.getElem_mem hjo))⟩;unfold rX;rw [bd1 hnd (List.getElem?_eq_getElem hjo)];exact if_pos hjr
  ·rw [if_neg hjr];have hni : ¬ D (new + (j - r0)) := hn _ (by omega) (by omega);refine ⟨_, rfl, ?_, .inr ⟨by omega, by omega⟩⟩;unfold rX;cases hp : jI order (new + (j - r0)) with
   | some q => exact absurd (hD _ (List.mem_of_getElem? (rJ hp))) hni
   | none =>
    simp only;rw [if_pos ⟨by omega, by omega⟩];congr 1;omega
 have hinj : ∀ a b, a < L.length -> b < L.length -> (y8 order r0 new a).getD 0 = (y8 order r0 new b).getD 0 -> a = b := by
  intro a b ha hb he;unfold y8 at he;by_cases hab : a < r0 <;> by_cases hbb : b < r0
  ·rw [if_pos hab, if_pos hbb, List.getElem?_eq_getElem (by omega), List.getElem?_eq_getElem (by omega)] at he;exact (List.getElem_inj hnd).1 he
  ·rw [if_pos hab, if_neg hbb, List.getElem?_eq_getElem (by omega)] at he;simp only [Option.getD_some] at he;have := hD _ (List.getElem_mem (show a < order.length by omega));rw [he] at this;exact absurd this (hn _ (by omega) (by omega))
  ·rw [if_neg hab, if_pos hbb, List.getElem?_eq_getElem (by omega)] at he;simp only [Option.getD_some] at he;have := hD _ (List.getElem_mem (show b < order.length by omega));rw [<- he] at this;exact absurd this (hn _ (by omega) (by omega))
  ·rw [if_neg hab, if_neg hbb] at he;simp only [Option.getD_some] at he;omega
 have hren : Ren (y8 order r0 new) β2 (rX β β2 order r0 new L.length) (· < L.length) (kY D new) := by
  intro j i hj hji;obtain ⟨i', e1, e2, e3⟩ := hback j hj;rw [e1] at hji;cases hji;exact ⟨e3, λbm hb => by rw [e2] at hb; exact hb⟩
 -- the memory's entries
 have hH : ∀ i, (∃ j, j < L.length /\ y8 order r0 new j = some i /\ aG H ((order.map λi => (i, none)) ++ (L.zipIdx.map λp => ((y8 order r0 new p.2).getD 0, p.1.map (Z1.ren (y8 order r0 new))))) i = (L.getD j none).map (Z1.ren (y8 order r0 new))) \/
  ((∀ j, j < L.length -> y8 order r0 new j ≠ some i) /\ aG H ((order.map λi => (i, none)) ++ (L.zipIdx.map λp => ((y8 order r0 new p.2).getD 0, p.1.map (Z1.ren (y8 order r0 new))))) i = if i ∈ order then none else H i) := by
  intro i;rw [mI];by_cases hex : ∃ j, j < L.length /\ y8 order r0 new j = some i
  ·obtain ⟨j, hj, hji⟩ := hex;left;refine ⟨j, hj, hji, ?_⟩;have := fj6 (F := λc => c.map (Z1.ren (y8 order r0 new))) (g := λj => (y8 order r0 new j).getD 0) L 0 (aG H (order.map λi => (i, none))) j (Nat.zero_le _) (by omega) (λa b _ ha _ hb he => hinj a b (by omega) (by omega) he);simp only [hji, Option.getD_some, Nat.sub_zero] at this;exact this
  ·right;have hno : ∀ j, j < L.length -> y8 order r0 new j ≠ some i := λj hj he => hex ⟨j, hj, he⟩;refine ⟨hno, ?_⟩
   rw [cb3 (F := λc => c.map (Z1.ren (y8 order r0 new))) (g := λj => (y8 order r0 new j).getD 0) L 0 _ i (λj _ hj he => by
    obtain ⟨i', e1, _, _⟩ := hback j (by omega);simp only [e1, Option.getD_some] at he;subst he
    exact hno j (by omega) e1)]
   rw [uX _ (λu hu => by obtain ⟨_, _, rfl⟩ := List.mem_map.1 hu; rfl)];simp
 have hB : ∀ i bm, rX β β2 order r0 new L.length i = some bm -> (∃ j, j < L.length /\ y8 order r0 new j = some i /\ β2 j = some bm) \/ (i ∉ order /\ (∀ j, j < L.length -> y8 order r0 new j ≠ some i) /\ β i = some bm) := by
  intro i bm hb;by_cases hex : ∃ j, j < L.length /\ y8 order r0 new j = some i
  ·obtain ⟨j, hj, hji⟩ := hex;obtain ⟨i', e1, e2, _⟩ := hback j hj;rw [e1] at hji;cases hji;exact .inl ⟨j, hj, e1, by rw [<- e2]; exact hb⟩
  ·right;have hno : ∀ j, j < L.length -> y8 order r0 new j ≠ some i := λj hj he => hex ⟨j, hj, he⟩;unfold rX at hb;cases hp : jI order i with
   | some j =>
    rw [hp] at hb;simp only at hb;split at hb
    ·rename_i hj;exact absurd (by unfold y8; rw [if_pos hj]; exact rJ hp) (hno j (by omega))
    ·cases hb
   | none =>
    rw [hp] at hb;simp only at hb;split at hb
    ·rename_i hc;exact absurd (by unfold y8; rw [if_neg (by omega)]; congr 1; omega) (hno (r0 + (i - new)) (by omega))
    ·exact ⟨eg6 hp, hno, hb⟩
 have hHb : Hb β (rX β β2 order r0 new L.length) D := by
  intro i hi;cases hb : rX β β2 order r0 new L.length i with
  | none => exact .inr rfl
  | some bm =>
   left;rcases hB i bm hb with ⟨j, hj, hji, h2j⟩ | ⟨_, _, h⟩
   ·unfold y8 at hji;split at hji
    ·rename_i hjr;have := hr j bm hjr h2j;unfold ofOrder at this;rw [hji] at this;exact this.symm
    ·simp only [Option.some.injEq] at hji;subst hji;exact absurd hi (hn _ (by omega) (by omega))
   ·exact h.symm
 -- blocks that were not handed over are untouched
 have hkeep : ∀ i b m, i ∉ order -> β i = some (b, m) -> 0 < m -> w'.heap[b]? = w.heap[b]? /\ ¬ S2 b /\ ∀ j m', 0 < m' -> β2 j ≠ some (b, m') := by
  intro i b m hi hb h0
  have hno : ∀ j m', 0 < m' -> ofOrder β order j ≠ some (b, m') := λj m' h0' e => by
   obtain ⟨i', h1', h2'⟩ := v7 e;have := hM.inj i i' b m m' hb h2' h0 h0';subst this;exact hi (List.mem_of_getElem? h1')
  have hlt := (hM.own i b m hb h0).1;refine ⟨hev.keep b hlt hno, λhs => ?_, λj m' h0' e => ?_⟩
  ·rcases hev.newS b hs with h | h | ⟨j, m', h0', h⟩
   ·exact (hM.own i b m hb h0).2 h
   ·omega
   ·exact hno j m' h0' h
  ·rcases hev.newO j b m' e h0' with h | ⟨j', m'', h0'', h⟩
   ·omega
   ·exact hno j' m'' h0'' h
 have hk : Y4 S w w' := λb hb => hev.keep b (hM.st b hb) λi m h0 e => by
  obtain ⟨i', _, h2'⟩ := v7 e;exact (hM.own i' b m h2' h0).2 hb
 have hOO : ∀ b, (∀ i m, 0 < m -> β i ≠ some (b, m)) -> ∀ i m, 0 < m -> ofOrder β order i ≠ some (b, m) := λb h i m h0 e => by
  obtain ⟨i', _, h2'⟩ := v7 e;exact h i' m h0 h2'
 refine ⟨⟨?_, ?_, ?_, ?_, ?_, hM2.st⟩, bj2 hren _ _ hd, ?_, hHb, λi b m hi h0 hio => (hkeep i b m hio hi h0).1⟩
 ·intro i c hc;rcases hH i with ⟨j, hj, hji, e⟩ | ⟨hno, e⟩
  ·rw [e] at hc;simp only [Option.map_eq_some_iff] at hc;obtain ⟨c', h1', rfl⟩ := hc;obtain ⟨b, m, h2', h3'⟩ := hM2.live j c' h1';obtain ⟨i', e1, e2, _⟩ := hback j hj;rw [e1] at hji;cases hji;exact ⟨b, m, by rw [e2]; exact h2', cl3 hren h3'⟩
  ·rw [e] at hc;split at hc
   ·cases hc
   ·rename_i hio;obtain ⟨b, m, h2', h3'⟩ := hM.live i c hc;have g1 := λh0 => (hkeep i b m hio h2' h0).1;refine ⟨b, m, ?_, o0 hHb hev.sub (j9 D new) hk g1 h3'⟩;rcases hHb i (hM.dom i b m h2') with e' | e'
    ·rw [e']; exact h2'
    ·unfold rX at e' ⊢;cases hp : jI order i with
     | some j => exact absurd (List.mem_of_getElem? (rJ hp)) hio
     | none =>
      simp only;split
      ·rename_i hc';exact absurd (by unfold y8; rw [if_neg (by omega)]; congr 1; omega) (hno (r0 + (i - new)) (by omega))
      ·exact h2'
 ·intro i hi;cases hb : rX β β2 order r0 new L.length i with
  | none => rfl
  | some bm =>
   exfalso;obtain ⟨b, m⟩ := bm;rcases hB i _ hb with ⟨j, hj, hji, h2j⟩ | ⟨hio, hno, h⟩
   ·rcases hH i with ⟨j', hj', hji', e⟩ | ⟨hno, _⟩
    ·have : j' = j := hinj j' j hj' hj (by rw [hji, hji']);subst this;rw [e] at hi;simp only [Option.map_eq_none_iff] at hi;have := hM2.dead j' hi;rw [this] at h2j;cases h2j
    ·exact hno j hj hji
   ·rcases hH i with ⟨j', hj', hji', e⟩ | ⟨_, e⟩
    ·exact hno j' hj' hji'
    ·rw [e, if_neg hio] at hi;rw [hM.dead i hi] at h;cases h
 ·intro i b m hb;rcases hB i _ hb with ⟨j, hj, hji, _⟩ | ⟨_, _, h⟩
  ·obtain ⟨i', e1, _, e3⟩ := hback j hj;rw [e1] at hji;cases hji;exact e3
  ·exact .inl (hM.dom i b m h)
 ·intro i b m hb h0;rcases hB i _ hb with ⟨j, hj, hji, h2j⟩ | ⟨hio, _, h⟩
  ·exact hM2.own j b m h2j h0
  ·exact ⟨Nat.lt_of_lt_of_le (hM.own i b m h h0).1 hev.size, (hkeep i b m hio h h0).2.1⟩
 ·intro i i' b m m' hb hb' h0 h0';rcases hB i _ hb with ⟨j, hj, hji, h2j⟩ | ⟨hio, _, h⟩ <;> rcases hB i' _ hb' with ⟨j', hj', hji', h2j'⟩ | ⟨hio', _, h'⟩
  ·have := hM2.inj j j' b m m' h2j h2j' h0 h0';subst this;rw [hji] at hji';cases hji';rfl
  ·exact absurd h2j ((hkeep i' b m' hio' h' h0').2.2 j m h0)
  ·exact absurd h2j' ((hkeep i b m hio h h0).2.2 j' m' h0')
  ·exact hM.inj i i' b m m' h h' h0 h0'
 ·refine ⟨hev.os, hev.tape, hev.output, hev.size, λb hb hno => hev.keep b hb (hOO b hno), hev.sub, λb hb => ?_, λi b m hb h0 => ?_⟩
  ·rcases hev.newS b hb with h | h | ⟨j, m', h0', h⟩
   ·exact .inl h
   ·exact .inr (.inl h)
   ·obtain ⟨i', _, h2'⟩ := v7 h;exact .inr (.inr ⟨i', m', h0', h2'⟩)
  ·rcases hB i _ hb with ⟨j, hj, hji, h2j⟩ | ⟨hio, _, h⟩
   ·rcases hev.newO j b m h2j h0 with h | ⟨j', m', h0', h⟩
    ·exact .inl h
    ·obtain ⟨i', _, h2'⟩ := v7 h;exact .inr ⟨i', m', h0', h2'⟩
   ·exact .inr ⟨i, m, h0, h⟩
theorem dk5(al:Bool)(h:Hp)(args:List V):(cR al h args).Nodup:=by
 unfold cR;cases al with
 |false=>exact av5 _ _ List.nodup_nil
 |true=>exact(jF h rO (kV h (dd [] (iC args))) (dd [] (iC args)) (av5 _ _ List.nodup_nil)).1
theorem fy9{al:Bool}{h:Hp}{args:List V}{i:Nat}(hi:i∈cR al h args):i∈iC args\/(h i).isSome=true:=by
 unfold cR at hi;cases al with
 |false=>
  rcases cx6 _ _ _ hi with h2|h2
  ·cases h2
  ·rcases List.mem_append.1 h2 with h2|h2
   ·exact .inl h2
   ·exact .inr (List.mem_filter.1 h2).2
 |true=>
  rcases uJ h rO (kV h (dd [] (iC args))) (dd [] (iC args)) i hi with h1|h1
  ·rcases cx6 _ _ _ h1 with h2|h2
   ·cases h2
   ·exact .inl h2
  ·exact .inr h1
theorem zX{ca:u9}(hC:aF E ca){give:Bool}{f:FuncId}{args:List V}(h:pP E.allR ca give f args H new k=some r):
 ∃res,k res=some r/\∀β S D w,Mem β S D H w->Y2 E S w->(∀i,new<=i->i<new+j2->¬D i)->dj1 E β S D H new f args w res:=by
 simp only[pP,be4,rD,cu2]at h;obtain⟨cr,hk,hcal,hsc⟩:=hC _ _ _ _ _ h;obtain⟨hnd,ex,hex⟩:=jF H rO (kV H (cR E.allR H args)) (cR E.allR H args) (dk5 _ _ _);have hmem:=λi hi=>uJ H rO (kV H (cR E.allR H args)) (cR E.allR H args) i hi;generalize ho:gK H rO (kV H (cR E.allR H args)) (cR E.allR H args)=order at*;have hlen:(keep H order).length=order.length:=by simp[keep]
 rw[hlen]at hsc
 have hDo:∀(β:Bt) (S D:Pr) (w:World),Mem β S D H w->∀cs,d9 β S w D args cs->∀i∈order,D i:=by
  intro β S D w hM cs hcs i hi;rcases hmem i hi with h1|h1
  ·rcases fy9 h1 with h2|h2
   ·exact qZ args cs hcs i h2
   ·obtain⟨c,hc⟩:=Option.isSome_iff_exists.1 h2;obtain⟨b,m,hb,_⟩:=hM.live i c hc;exact hM.dom i b m hb
  ·obtain⟨c,hc⟩:=Option.isSome_iff_exists.1 h1;obtain⟨b,m,hb,_⟩:=hM.live i c hc;exact hM.dom i b m hb
 have hcall:=λ(β:Bt) (S D:Pr) (w:World) (hM:Mem β S D H w) (hG:Y2 E S w) (cs:List Value) (hcs:d9 β S w D args cs)=>hsc (ofOrder β order) S w cs (iG ae9 _ _ hcs) (hM.renum hnd) hG;unfold eb9 at hk;split at hk
 ·rename_i v L;split at hk
  ·split at hk
   ·rename_i hol
    replace hk:=cd3 hk
    split at hk
    case isFalse=>cases hk
    rename_i hp;refine⟨_,hk,λβ S D w hM hG hn=>⟨hcal,λcs hcs=>(hcall β S D w hM hG cs hcs).mono ?_⟩⟩;rintro e w' ⟨u,β2,S2,rfl,g1,g2,g3,g4⟩;have hord:order=[]:=List.eq_nil_of_length_eq_zero hol;have hoo:ofOrder β order=λ_=>none:=by subst hord;rfl
    rw[hoo]at g3;have hb:=pB g3
    have hS3:∀i b m,β i=some (b,m)->0<m->¬(S2 b\/∃j m',0<m'/\β2 j=some (b,m')):=by
     rintro i b m hbm h0 (hs| ⟨j,m',h0',hj⟩)
     ·rcases g3.newS b hs with h|h| ⟨_,_,_,h⟩
      ·exact(hM.own i b m hbm h0).2 h
      ·have:=(hM.own i b m hbm h0).1;omega
      ·cases h
     ·rcases g3.newO j b m' hj h0' with h| ⟨_,_,_,h⟩
      ·have:=(hM.own i b m hbm h0).1;omega
      ·cases h
    refine⟨u,β,λb=>S2 b\/∃j m',0<m'/\β2 j=some (b,m'),rfl,?_,?_,?_,AB _ _,λi b m hi h0 _=>hb.block b (hM.own i b m hi h0).1⟩
    ·refine((hM.below hb).wider (λb h=>.inl (g3.sub b h)) ?_ hS3).mono (j9 D new);rintro b (hs| ⟨j,m',h0',hj⟩)
     ·exact g1.st b hs
     ·exact(g1.own j b m' hj h0').1
    ·have:=bp6 (S':=λb=>S2 b\/∃j m',0<m'/\β2 j=some (b,m')) (β':=λ_=>none) g1 (λ_ _=>.inr rfl) (λ_ h=>.inl h) (λi b m hb h0=>.inr ⟨i,m,h0,hb⟩) g2;exact y6 (λ_ h=>h) (λ_ _=>rfl) _ _ hp this
    ·refine⟨hb.os,hb.tape,hb.output,hb.size,λb h _=>hb.block b h,λb h=>.inl (g3.sub b h),?_,λi b m h h0=>.inr ⟨i,m,h0,h⟩⟩;rintro b (hs| ⟨j,m',h0',hj⟩)
     ·rcases g3.newS b hs with h|h| ⟨_,_,_,h⟩
      ·exact .inl h
      ·exact .inr (.inl h)
      ·cases h
     ·rcases g3.newO j b m' hj h0' with h| ⟨_,_,_,h⟩
      ·exact .inr (.inl h)
      ·cases h
   ·cases hk
  ·split at hk
   ·rename_i hc;obtain⟨h1,h2,h3⟩:=hc;refine⟨_,hk,λβ S D w hM hG hn=>⟨hcal,λcs hcs=>(hcall β S D w hM hG cs hcs).mono ?_⟩⟩;rintro e w' ⟨u,β2,S2,rfl,g1,g2,g3,g4⟩;obtain⟨q1,q2,q3,q4,q5⟩:=eh1 (f:=f) (args:=args) hM hn hnd (hDo β S D w hM cs hcs) h1 h2 h3 g1 g2 g3 g4;exact⟨u,_,S2,rfl,q1,q2,q3,q4,λi b m hi h0 hni=>q5 i b m hi h0 (λhio=>hni (by rw[List.map_append,List.map_map];exact List.mem_append_left _ (List.mem_map.2 ⟨i,hio,rfl⟩)))⟩
   ·cases hk
 ·rename_i v;split at hk
  ·rename_i hp;refine⟨_,hk,λβ S D w hM hG hn=>⟨hcal,λcs hcs=>(hcall β S D w hM hG cs hcs).mono ?_⟩⟩;rintro e w' ⟨u,β2,S2,rfl,g1,g2,g3,g4⟩;have hev:=g3.ofOrder
   have hout:∀i b m,β i=some (b,m)->0<m->i∉order->∀j m',0<m'->ofOrder β order j≠some (b,m'):=λi b m hb h0 hi j m' h0' hj=>by
    obtain⟨i',h1,h2⟩:=v7 hj;exact hi (by rw[hM.inj i i' _ _ _ hb h2 h0 h0'];exact List.mem_of_getElem? h1)
   have hdrop:∀i b m,fN β order i=some (b,m)->i∉order/\β i=some (b,m):=λi b m h=>by
    unfold fN at h;split at h
    ·cases h
    ·rename_i hi;exact⟨hi,h⟩
   have hHb:Hb β (fN β order) D:=λi _=>by unfold fN;split;exact .inr rfl;exact .inl rfl
   refine⟨u,fN β order,S2,rfl,g1,g2,⟨hev.os,hev.tape,hev.output,hev.size,hev.keep,hev.sub,hev.newS,λi b m h h0=>.inr ⟨i,m,h0,(hdrop i b m h).2⟩⟩,?_,hHb,λi b m hb h0 hi=>g3.keep b (hM.own i b m hb h0).1 λj m' h0'=>hout i b m hb h0 (λh=>hi (by rw[List.map_map];exact List.mem_map.2 ⟨i,h,rfl⟩)) j m' h0'⟩
   have hup:∀i,aG H (order.map λi=>(i,none)) i=if i∈order then none else H i:=λi=>by
    rw[uX _ (by intro u hu;obtain⟨_,_,rfl⟩:=List.mem_map.1 hu;rfl)];simp
   refine⟨λi c hc=>?_,λi hi=>?_,λi b m h=>hM.dom i b m (hdrop i b m h).2,λi b m h h0=>?_,λi j b m m' h1 h2 h01 h02=>hM.inj i j b m m' (hdrop i b m h1).2 (hdrop j b m' h2).2 h01 h02,g4⟩
   ·rw[hup]at hc;split at hc
    ·cases hc
    ·rename_i hi;obtain⟨b,m,hb,hr⟩:=hM.live i c hc;refine⟨b,m,by unfold fN;rw[if_neg hi];exact hb,o0 hHb hev.sub (λ_ h=>h) (hev.kept hM) (λh0=>g3.keep b (hM.own i b m hb h0).1 λj m' h0'=>hout i b m hb h0 hi j m' h0') hr⟩
   ·rw[hup]at hi;unfold fN;split
    ·rfl
    ·rename_i h;rw[if_neg h]at hi;exact hM.dead i hi
   ·obtain⟨h1,h2⟩:=hdrop i b m h;obtain⟨h3,h4⟩:=hM.own i b m h2 h0;refine⟨Nat.lt_of_lt_of_le h3 hev.size,λhs=>?_⟩;rcases g3.newS b hs with h5|h5| ⟨j,m',h0',h5⟩
    ·exact h4 h5
    ·omega
    ·exact hout i b m h2 h0 h1 j m' h0' h5
  ·cases hk
theorem dz7{β β':Bt}{S S' D:Pr}{H:Hp}{w:World}(hM:Mem β S D H w)(hHb:Hb β β' D)(hS:∀b,S b->S' b){v:V}{u:Value}(hown:∀i,(i,none)∈nV v->∀b m,β i=some (b,m)->0<m->S' b)(h:den β S w D v u):den β' S' w D (v.bw1 H) u:=
 ab9 hM hHb hS (λi z o l b m e hb h0=>hown i (by subst e;simp[nV]) b m hb h0) h
theorem dn3{β β':Bt}{S S' D:Pr}{H:Hp}{w:World}(hM:Mem β S D H w)(hHb:Hb β β' D)(hS:∀b,S b->S' b){v:V}{u:Value}(hown:∀i,(i,none)∈be6 v->∀b m,β i=some (b,m)->0<m->S' b)(h:den β S w D v u):den β' S' w D (v.bw2 H) u:=by
 unfold V.bw2;split
 ·rename_i cs;simp only[den]at h⊢;obtain⟨us,h1,h2,h3⟩:=h;refine⟨us,h1,?_,h3⟩;clear h1 h3;have hown':∀c∈cs,∀i,(i,none)∈nV c->∀b m,β i=some (b,m)->0<m->S' b:=λc hc i hi=>hown i (by simp only[be6,List.mem_flatMap];exact⟨c,hc,hi⟩);clear hown
  induction cs generalizing us with
  |nil=>simpa[d9]using h2
  |cons c cs ih=>
   simp only[d9,List.map_cons]at h2⊢;obtain⟨x,xs,h4,h5,h6⟩:=h2;exact⟨x,xs,h4,dz7 hM hHb hS (hown' c (.head _)) h5,ih xs h6 λc hc=>hown' c (.tail _ hc)⟩
 ·rename_i hne;refine dz7 hM hHb hS (λi hi=>hown i ?_) h;unfold be6;split
  ·rename_i cs;exact absurd rfl (hne cs)
  ·exact hi
theorem fg0{β β':Bt}{S S' D:Pr}{H:Hp}{w:World}(hM:Mem β S D H w)(hHb:Hb β β' D)(hS:∀b,S b->S' b){v:V}{u:Value}(hown:∀i,(i,none)∈yJ v->∀b m,β i=some (b,m)->0<m->S' b)(h:den β S w D v u):den β' S' w D (v.bw H) u:=by
 unfold V.bw;split
 ·rename_i cs;simp only[den]at h⊢;obtain⟨us,h1,h2⟩:=h;refine⟨us,h1,?_⟩;clear h1;have hown':∀c∈cs,∀i,(i,none)∈be6 c->∀b m,β i=some (b,m)->0<m->S' b:=λc hc i hi=>hown i (by simp only[yJ,List.mem_flatMap];exact⟨c,hc,hi⟩);clear hown
  induction cs generalizing us with
  |nil=>simpa[d9]using h2
  |cons c cs ih=>
   simp only[d9,List.map_cons]at h2⊢;obtain⟨x,xs,h4,h5,h6⟩:=h2;exact⟨x,xs,h4,dn3 hM hHb hS (hown' c (.head _)) h5,ih xs h6 λc hc=>hown' c (.tail _ hc)⟩
 ·rename_i hne;refine dn3 hM hHb hS (λi hi=>hown i ?_) h;unfold yJ;split
  ·rename_i cs;exact absurd rfl (hne cs)
  ·exact hi
theorem bp8{v:V}:∀x∈nV v,x.2=none:=by
 intro x hx;unfold nV at hx;split at hx
 ·simp only[List.mem_singleton]at hx;subst hx;rfl
 ·cases hx
theorem ca1{v:V}:∀x∈be6 v,x.2=none:=by
 intro x hx;unfold be6 at hx;split at hx
 ·obtain⟨c,_,h⟩:=List.mem_flatMap.1 hx;exact bp8 x h
 ·exact bp8 x hx
theorem bu4{v:V}:∀x∈yJ v,x.2=none:=by
 intro x hx;unfold yJ at hx;split at hx
 ·obtain⟨c,_,h⟩:=List.mem_flatMap.1 hx;exact ca1 x h
 ·exact ca1 x hx
theorem dl9{ca:u9}(hC:aF E ca){f:FuncId}{args:List V}(h:pP E.allR ca false f args H new (gh9 H k)=some r):
 ∃res,k res=some r/\∀β S D w,Mem β S D H w->Y2 E S w->(∀i,new<=i->i<new+j2->¬D i)->dj1 E β S D H new f args w res:=by
 obtain⟨res,h1,h2⟩:=zX hC h;cases res with
 |pan v us=>exact⟨_,h1,h2⟩
 |call g cs=>exact⟨_,h1,h2⟩
 |dfr g cs=>exact⟨_,h1,h2⟩
 |val v us=>
  simp only[gh9]at h1;refine⟨_,cd3 h1,λβ S D w hM hG hn=>?_⟩;obtain⟨c1,c2⟩:=h2 β S D w hM hG hn;refine⟨c1,λcs hcs=>(c2 cs hcs).mono ?_⟩;rintro e w' ⟨u,β',S',rfl,q1,q2,q3,q4,q5⟩;obtain⟨g1,g2,g3⟩:=q1.drop (yJ v) bu4;refine⟨u,_,_,rfl,by rw[mI];exact g1,?_,q3.trans g2,q4.trans (j9 D new) g3,λi b m hb h0 hi=>q5 i b m hb h0 λh=>hi (by rw[List.map_append];exact List.mem_append_left _ h)⟩;exact fg0 q1 g3 (λ_ h=>.inl h) (λi hi b m hb h0=>.inr ⟨i,m,List.mem_map.2 ⟨_,hi,rfl⟩,hb,h0⟩) q2
theorem ao6{ca:u9}(hC:aF E ca)(hX:Z6 E){me f:FuncId}{args:List V}(h:cq4 E ca me f args H new k=some r):
 ∃res,k res=some r/\∀β S D w,Mem β S D H w->Y2 E S w->(∀i,new<=i->i<new+j2->¬D i)->dj1 E β S D H new f args w res:=by
 simp only[cq4,rD]at h;split at h
 ·obtain⟨res,h1,h2⟩:=ej3 hC hX h;exact⟨res,h1,λβ S D w hM hG _=>h2 β S D w new hM hG⟩
 ·split at h
  ·rename_i v hv;exact⟨_,h,λβ S D w hM hG _=>bb8 hX hM hG hv⟩
  ·exact zX hC h
 ·split at h
  ·rename_i v hv;exact⟨_,h,λβ S D w hM hG _=>bb8 hX hM hG hv⟩
  ·exact zX hC h
 ·split at h
  ·rename_i v hv;exact⟨_,h,λβ S D w hM hG _=>bb8 hX hM hG hv⟩
  ·exact dl9 hC h
end
section
variable {P:Program} {o:Oper} {ev ev':Operand->V} {get get':Hp} {new:Nat}
theorem ey9(hs:∀cs b,o.op≠ .select cs b)(h:∀x∈o.op.operands,ev x=ev' x):bU P o ev=bU P o ev':=by
 funext k;unfold bU
 have e1:o.op.operands.toList.all (λx=>((ev x).toVal).isSome)=o.op.operands.toList.all (λx=>((ev' x).toVal).isSome):=by
  rw[Bool.eq_iff_iff,List.all_eq_true,List.all_eq_true];exact⟨λg x hx=>by rw[<-h x (by simpa using hx)];exact g x hx,λg x hx=>by rw[h x (by simpa using hx)];exact g x hx⟩
 have e2:execOp (λx=>((ev x).toVal).getD undef) o=execOp (λx=>((ev' x).toVal).getD undef) o:=execOp_congr o hs λx hx=>by rw[h x hx]
 rw[e1,e2]
theorem bh6{place:Nat->Option (Nat×Nat)}:∀(ps:List (Nat×Operand)) (z:List V),(∀p∈ps,ev p.2=ev' p.2)->au3 P z place ev ps=au3 P z place ev' ps
 | [],z,_=>rfl
 | (i,x)::ps,z,h=>by
  simp only[au3];have hx:ev x=ev' x:=h (i,x) (.head _);rw[hx];cases place i with
  |none=>rfl
  |some q=>
   obtain⟨o,n⟩:=q;simp only;split
   ·exact bh6 ps _ λp hp=>h p (.tail _ hp)
   ·rfl
theorem ga8 {pb pr : Bool} (h : ∀ x ∈ o.op.operands, ev x = ev' x) : opK P pb pr o ev get new = opK P pb pr o ev' get new := by
  funext k;unfold opK;have hf := λhs => ey9 (P := P) (o := o) (ev := ev) (ev' := ev') hs h;cases ho : o.op <;> rw [ho] at h <;> simp only [Op.operands] at h <;> try simp only
  case move x => rw [h x (by simp)]
  case assign x => rw [h x (by simp)]
  case pick c x y => rw [h c (by simp), h x (by simp), h y (by simp)]
  case box t x => rw [h x (by simp)]
  case build t ps =>
    have hp : ∀ p ∈ ps.toList, ev p.2 = ev' p.2 := λp hp => h p.2 (by simp only [List.mem_toArray, List.mem_map]; exact ⟨p, hp, rfl⟩);simp only [zU, bh6 _ _ hp]
  case buildSlice t n ps =>
    have hp : ∀ p ∈ ps.toList, ev p.2 = ev' p.2 := λp hp => h p.2 (by simp only [List.mem_toArray, List.mem_map]; exact ⟨p, hp, rfl⟩)
    have e1 : ∀ i, kQ ev ps.toList i = kQ ev' ps.toList i := λi => by
      unfold kQ;split
      · rename_i p hi; rw [hp p (List.mem_of_getElem? hi)]
      · rfl
    have e2 : (ps.toList.flatMap λp => (ev p.2).cells) = ps.toList.flatMap λp => (ev' p.2).cells := by
      rw [List.flatMap_def, List.flatMap_def];congr 1;exact List.map_congr_left λp hq => by rw [hp p hq]
    have e3 : ps.toList.all (λp => (ev p.2).cells.all V.one) = ps.toList.all (λp => (ev' p.2).cells.all V.one) := by
      rw [Bool.eq_iff_iff, List.all_eq_true, List.all_eq_true];exact ⟨λg x hx => by rw [<- hp x hx]; exact g x hx, λg x hx => by rw [hp x hx]; exact g x hx⟩
    simp only [iE, e1, e2, e3]
  case load t x => rw [h x (by simp)]
  case store t x y => rw [h x (by simp), h y (by simp)]
  case nilCheck x => rw [h x (by simp)]; simp only [ay2, hf (by rw [ho]; intros; simp)]
  case binOp b t x y u => rw [h x (by simp), h y (by simp)]; unfold bp5; rw [hf (by rw [ho]; intros; simp)]
  case unOp p t x => rw [hf (by rw [ho]; intros; simp)]
  case convert s d x => rw [h x (by simp)]; unfold ar1; rw [hf (by rw [ho]; intros; simp)]
  case makeFunc fn fi cs =>
    cases fn <;> simp only;have : cs.toList.map ev = cs.toList.map ev' := List.map_congr_left λx hx => h x (by simp only [Array.mem_append]; exact .inr (by simpa using hx));have h' : fi.toList.map ev = fi.toList.map ev' := List.map_congr_left λx hx => h x (by simp only [Array.mem_append]; exact .inl (by simpa using hx));rw [this, h']
  case makeMap t rs => cases rs <;> rfl
  case lookup t x y ok => rw [h x (by simp), h y (by simp)]
  case mapUpdate t x y v => rw [h x (by simp), h y (by simp), h v (by simp)]
  case insert t x y v => rw [h x (by simp), h y (by simp), h v (by simp)]
  case makeInterface t x => rw [h x (by simp)]
  case typeAssert x u t ok => rw [h x (by simp)]
  case panic x => rw [h x (by simp)]
  case makeSlice t x y => rw [h x (by simp), h y (by simp)]
  case slice t x lo hi mx =>
    rw [h x (by simp)];cases lo <;> cases hi <;> simp only
    · rename_i y; rw [h y (by simp)]
    · rename_i y; rw [h y (by simp)]
    · rename_i y z; rw [h y (by simp), h z (by simp)]
  case fieldAddr t x f => rw [h x (by simp)]
  case field t x f => rw [h x (by simp)]; simp only [zM, hf (by rw [ho]; intros; simp)]
  case indexAddr t x y => rw [h x (by simp), h y (by simp)]
  case index t x y => rw [h x (by simp), h y (by simp)]; simp only [yI, hf (by rw [ho]; intros; simp)]
  case range t x => rw [h x (by simp)]
  case next x b => rw [h x (by simp)]
  case extract x n => rw [h x (by simp)]; simp only [qT, hf (by rw [ho]; intros; simp)]
  case defer c =>
    unfold zE;cases hc : c.callee with
    | value f =>
      have hff : ev f = ev' f := h f (by simp [Call.operands, hc]);simp only [hff]
    | invoke r m => rfl
    | builtin b => rfl
  case call c =>
    have hargs : ∀ x ∈ c.args, ev x = ev' x := λx hx => h x (by simp [Call.operands, hx]);have hm : c.args.toList.map ev = c.args.toList.map ev' := List.map_congr_left λx hx => hargs x (by simpa using hx);unfold ao8;cases hc : c.callee with
    | value f =>
      have hff : ev f = ev' f := h f (by simp [Call.operands, hc]);simp only [hff, hm]
    | invoke r m => rfl
    | builtin b =>
      simp only;have hfl := hf (by rw [ho]; intros; simp);unfold gH;split
      · split
        · rename_i x hx
          rw [hargs x (by have : x ∈ c.args.toList := by rw [hx]; simp
                          simpa using this), hfl]
        · rfl
      · split
        · rename_i x y t t' hx _
          rw [hargs x (by have : x ∈ c.args.toList := by rw [hx]; simp
                          simpa using this), hargs y (by have : y ∈ c.args.toList := by rw [hx]; simp
                                                         simpa using this)]
        · rfl
      · split
        · rename_i x y t t' hx _
          rw [hargs x (by have : x ∈ c.args.toList := by rw [hx]; simp
                          simpa using this), hargs y (by have : y ∈ c.args.toList := by rw [hx]; simp
                                                         simpa using this)]
        · rfl
      · rw [hfl]
theorem hl4{pb pr:Bool}(h:aL o.op=false):opK P pb pr o ev get new=opK P pb pr o ev get' new:=by
 funext k;unfold opK;cases ho:o.op<;>rw[ho]at h<;>simp only[aL]at h<;>first|rfl| (cases h;done) | (clear h;rename_i _ rs _;cases rs<;>rfl) | (clear h;rename_i rs;cases rs<;>rfl)
end
def ah7(f:KR->Option Ans):Prop:=∃R:Option Res,∀k,f k=R.bind k
theorem g7:ah7 λ_=>none:=⟨none,λ_=>rfl⟩
theorem i8(x:Res):ah7 λk=>k x:=⟨some x,λ_=>rfl⟩
theorem bl4{c:Prop}[Decidable c]{f g:KR->Option Ans}(hf:ah7 f)(hg:ah7 g):ah7 λk=>if c then f k else g k:=by
 by_cases h:c
 ·obtain⟨R,hR⟩:=hf;exact⟨R,λk=>by simp only[if_pos h];exact hR k⟩
 ·obtain⟨R,hR⟩:=hg;exact⟨R,λk=>by simp only[if_neg h];exact hR k⟩
theorem fc1{get:Hp}{y:V}{F:KR->V->Option Ans}(h:∀y,ah7 λk=>F k y):ah7 λk=>cx1 get y (F k):=by
 unfold cx1
 repeat' split
 all_goals first|exact g7|exact h _
theorem dt3{get:Hp}:∀{l:List V} {F:KR->List V->Option Ans},(∀y,ah7 λk=>F k y)->ah7 λk=>cq1 get l (F k)
 | [],F,h=>h []
 |v::l,F,h=>fc1 (F:=λk v=>cq1 get l λl=>F k (v::l)) λv=>dt3 (F:=λk l=>F k (v::l)) λl=>h (v::l)
theorem ci7{get:Hp}:∀{l:List (List V)} {F:KR->List (List V)->Option Ans},(∀y,ah7 λk=>F k y)->ah7 λk=>bq9 get l (F k)
 | [],F,h=>h []
 |v::l,F,h=>dt3 (F:=λk v=>bq9 get l λl=>F k (v::l)) λv=>ci7 (F:=λk l=>F k (v::l)) λl=>h (v::l)
theorem uB(get:Hp)(i:Nat)(x:Res):ah7 λk=>qW get i (k x):=by
 unfold qW;split
 ·exact i8 x
 ·exact g7
section
variable {P:Program} {o:Oper} {ev:Operand->V} {get:Hp} {new:Nat}
theorem jY:ah7 (bU P o ev):=by
 unfold bU;split
 ·split
  ·exact i8 _
  ·exact i8 _
  ·exact g7
 ·exact g7
theorem af2{ok b:Bool}{v:V}:ah7 (nT ok b v):=by
 unfold nT;cases ok
 ·exact i8 _
 ·exact i8 _
theorem cm2{ok:Bool}{z:V}{n:Int}:∀l:List (Int×V),ah7 λk=>ck4 ok z n k l
 | []=>af2
 | (m,v)::l=>by
  simp only[ck4];exact bl4 af2 (cm2 l)
theorem gd0{pb pr:Bool}:ah7 (opK P pb pr o ev get new):=by
 unfold opK;split
 ·exact i8 _
 ·exact i8 _
 ·unfold bm6;split
  ·exact bl4 (i8 _) (i8 _)
  ·exact g7
 ·unfold au5
  repeat' split
  all_goals first|exact g7|exact i8 _
 ·exact bl4 (i8 _) g7
 ·unfold ad9
  repeat' split
  all_goals first|exact g7|exact i8 _|exact bl4 (i8 _) g7
 ·unfold as2;simp only[rD]
  repeat' split
  all_goals first|exact g7|exact i8 _
 ·unfold kR
  repeat' split
  all_goals first|exact g7|exact i8 _|exact uB _ _ _
 ·unfold zM
  repeat' split
  all_goals first|exact g7|exact i8 _|exact jY
 ·unfold oY;simp only[fh5]
  repeat' split
  all_goals first|exact g7|exact i8 _|exact uB _ _ _
 ·unfold yI
  repeat' split
  all_goals first|exact g7|exact i8 _|exact jY
 ·split
  ·unfold zL
   repeat' split
   all_goals first|exact g7|exact i8 _|exact uB _ _ _
  ·exact g7
 ·unfold qT
  repeat' split
  all_goals first|exact g7|exact i8 _|exact jY
 ·unfold zU
  repeat' split
  all_goals first|exact g7|exact i8 _
 ·unfold iE;simp only[ey0];split
  ·split
   ·refine ci7 λels=>?_;split
    ·exact i8 _
    ·exact g7
   ·exact g7
  ·exact g7
 ·unfold oL
  repeat' split
  all_goals first|exact g7|exact i8 _
 ·repeat' split
  all_goals first|exact g7|exact i8 _
 ·repeat' split
  all_goals first|exact g7|exact i8 _
 ·unfold bl8
  repeat' split
  all_goals first|exact g7|exact i8 _
 ·unfold ay2
  repeat' split
  all_goals first|exact g7|exact i8 _|exact uB _ _ _|exact jY
 ·unfold ao8;split
  ·unfold gH;split
   ·repeat' split
    all_goals first|exact g7|exact i8 _|exact uB _ _ _|exact jY
   ·split
    ·split
     ·unfold ac6;split
      ·split
       ·refine fc1 λy=>?_;unfold eo6
        repeat' split
        all_goals first|exact g7|exact i8 _
       ·exact g7
      ·exact g7
     ·unfold ag4
      repeat' split
      all_goals first|exact g7|skip
      unfold eo6
      repeat' split
      all_goals first|exact g7|exact i8 _
    ·exact g7
   ·unfold bn0
    repeat' split
    all_goals first|exact g7|exact i8 _
   ·exact jY
  ·repeat' split
   all_goals first|exact g7|exact i8 _
  ·exact g7
 ·unfold bp5;split
  ·repeat' split
   all_goals first|exact g7|skip
   unfold ew7
   repeat' split
   all_goals first|exact g7|exact i8 _
  ·unfold eb5
   repeat' split
   all_goals first|exact g7|exact i8 _|exact jY
 ·exact jY
 ·unfold ar1
  repeat' split
  all_goals first|exact g7|exact i8 _|exact jY
 ·unfold xK
  repeat' split
  all_goals first|exact g7|exact i8 _
 ·unfold af4
  repeat' split
  all_goals first|exact g7|exact af2|exact cm2 _
 ·unfold pH
  repeat' split
  all_goals first|exact g7|exact i8 _
 ·unfold pH
  repeat' split
  all_goals first|exact g7|exact i8 _
 ·unfold oW
  repeat' split
  all_goals first|exact g7|exact i8 _
 ·unfold ae2
  repeat' split
  all_goals first|exact g7|exact af2
 ·unfold ao3
  repeat' split
  all_goals first|exact g7|exact i8 _
 ·unfold zE
  repeat' split
  all_goals first|exact g7|exact i8 _
 ·exact g7
end
theorem gp5{pb pr:Bool}{P:Program}{o:Oper}{ev:Operand->V}{H:Hp}{new:Nat}{k:KR}{r:Ans}(h:opK P pb pr o ev H new k=some r):
 ∃res,k res=some r/\∀(β:Bt) (S D:Pr) (a:Act) (w:World),Mem β S D H w->¬D new->(∀x,den β S w D (ev x) (a.eval x))->rT P β S D H new o a w res:=by
 obtain⟨R,hR⟩:=gd0 (pb:=pb) (pr:=pr) (P:=P) (o:=o) (ev:=ev) (get:=H) (new:=new);rw[hR]at h;cases hres:R with
 |none=>rw[hres]at h;cases h
 |some res=>
  rw[hres]at h;refine⟨res,h,λβ S D a w hM hn hev=>?_⟩
  classical
  have hk:opK P pb pr o ev H new (λx=>if x=res then some r else none)=some r:=by rw[hR,hres];simp
  obtain⟨res',h1,h2⟩:=ch5 hM hn hev hk;simp only at h1;split at h1
  ·rename_i he;rw[<-he];exact h2
  ·cases h1
theorem gX{β:Bt}{S D:Pr}{w:World}{ops:List Oper}{fr:List V}{a:Act}{j:Nat}{v:Value}(hf:d9 β S w D fr a.tmps.toList)(h:sR ops fr j= .sc v):
 yielded ops.toArray a.tmps j=match v with| .bool b=>some b|_=>none:=by
 unfold sR at h;split at h
 ·rename_i o ho;split at h
  ·rename_i t ht
   have hg:fr[t]? =some (.sc v):=by
    cases hq:fr[t]?with
    |none=>simp[List.getD,hq]at h
    |some q=>simp only[List.getD,hq,Option.getD_some]at h;rw[h]
   obtain⟨u,hu,hd⟩:=uU hf t _ hg;simp only[den]at hd;subst hd;have hu':a.tmps[t]? =some u:=by simpa using hu
   simp only[yielded,List.getElem?_toArray,ho,Option.bind_some,ht,hu'];cases u<;>rfl
  ·cases h
 ·cases h
theorem bg2{g:Option (Nat×Bool)}{ops:List Oper}{fr:List V}{k:Bool->List V->Option Ans}{r:Ans}(h:cw0 g ops fr k=some r):aw4 g (sR ops fr) (λb=>k b fr)=some r:=by
 unfold cw0 at h;unfold aw4;split at h
 ·exact h
 ·rename_i j b;split at h
  ·rename_i o ho;split at h
   ·rename_i t ht;have hy:sR ops fr j=fr.getD t .junk:=by simp only[sR,ho,ht]
    split at h
    ·rename_i v hv;rw[hv]at hy;simp only[hy]
     have hg:∀c,fr[t]? =some (.sc (.bool c))->fr.set t (.sc (.bool c))=fr:=by
      intro c hc;apply List.ext_getElem?;intro n;by_cases hn:n=t
      ·subst hn;have hl:n<fr.length:=(List.getElem?_eq_some_iff.1 hc).1;rw[List.getElem?_set_self hl,hc]
      ·rw[List.getElem?_set_ne (λe=>hn e.symm)]
     have hq:fr[t]? =some (.sc v):=by
      cases hq:fr[t]?with
      |none=>simp[List.getD,hq]at hv
      |some q=>simp only[List.getD,hq,Option.getD_some]at hv;rw[hv]
     split at h
     ·rename_i c;split at h
      ·rename_i hc;subst hc;simp only[setK_eq]at h;rw[hg true hq]at h;cases b<;>simpa using h
      ·rename_i hc;have hc':c=false:=by simpa using hc
       subst hc';simp only[setK_eq]at h;rw[hg false hq]at h;cases b<;>simpa using h
     ·rename_i hnb;cases v<;>first|exact h|exact absurd rfl (hnb _)
    ·cases h
   ·cases h
  ·cases h
theorem dw6{ops:List Oper}{o:Oper}{fr:List V}{k:Bool->Option Ans}{r:Ans}(h:aw4 o.guard (sR ops fr) k=some r):
 ∃b,k b=some r/\∀(β:Bt) (S D:Pr) (w:World) (a:Act),d9 β S w D fr a.tmps.toList->Region.wanted o (yielded ops.toArray a.tmps)=b:=by
 unfold aw4 at h;split at h
 ·rename_i hg;exact⟨true,h,λβ S D w a _=>by simp[Region.wanted,hg]⟩
 ·rename_i j b hg;split at h
  ·rename_i v hv;split at h
   ·rename_i c;split at h
    ·rename_i hcb;subst hcb;exact⟨true,h,λβ S D w a hf=>by simp[Region.wanted,hg,gX hf hv]⟩
    ·rename_i hcb;exact⟨false,h,λβ S D w a hf=>by simp[Region.wanted,hg,gX hf hv,hcb]⟩
   ·rename_i hnb;refine⟨false,h,λβ S D w a hf=>?_⟩;have:=gX hf hv;simp only[Region.wanted,hg,this];cases v<;>first|rfl| (exact absurd rfl (hnb _))
  ·cases h
theorem ax2{E:Env}{β:Bt}{S D:Pr}{w:World}{fr:List V}{a:Act}(hf:d9 β S w D fr a.tmps.toList)(hG:Y2 E S w)(x:Operand):den β S w D (evA E fr x) (a.eval x):=by
 cases x with
 |tmp t=>simpa[evA,Act.eval]using fE hf t
 |const v=>exact qA v
 |global g=>
  simp only[evA,Act.eval];split
  ·rename_i cs hg;exact y6 (λ_ h=>h) (λ_ _=>rfl) _ _ rfl (hG.rd g cs hg)
  ·simp[den]
 |func f=>simp only[evA,Act.eval,den];exact⟨[],rfl,by simp[d9]⟩
theorem dc7(us:List (Nat×Option Z1)):∀(h h':Hp) (i:Nat),h i=h' i->aG h us i=aG h' us i:=by
 induction us with
 |nil=>intro h h' i e;exact e
 |cons u us ih=>
  intro h h' i e;obtain⟨j,c⟩:=u;simp only[aG];refine ih _ _ i ?_;unfold upd;split
  ·rfl
  ·exact e
theorem cC(us:List (Nat×Option Z1)):∀(h:Hp) (i:Nat),i∉us.map (·.1)->aG h us i=h i:=by
 induction us with
 |nil=>intro h i _;rfl
 |cons u us ih=>
  intro h i hi;obtain⟨j,c⟩:=u;simp only[List.map_cons,List.mem_cons,not_or]at hi;simp only[aG];rw[ih _ i hi.2,aY _ _ hi.1]
theorem fl5(us us':List (Nat×Option Z1))(hd:∀i,i∈us.map (·.1)->i∉us'.map (·.1))(h:Hp):aG (aG h us) us'=aG (aG h us') us:=by
 funext i;by_cases h1:i∈us.map (·.1)
 ·have h2:=hd i h1;rw[cC us' _ i h2];exact dc7 us _ _ i (cC us' h i h2).symm
 ·rw[cC us _ i h1];exact dc7 us' _ _ i (cC us h i h1)
mutual
theorem dd4{β β':Bt}{S D:Pr}{w:World}:∀(v:V) (u:Value),(∀i∈v.ids,β' i=β i\/β' i=none)->den β S w D v u->den β' S w D v u
 | .junk,_,_,_=>by simp[den]
 | .sc v,u,_,h=>by simpa[den]using h
 | .agg cs,u,hi,h=>by
  simp only[den,V.ids]at h hi⊢;obtain⟨us,h1,h2,h3⟩:=h;exact⟨us,h1,mJ cs us hi h2,h3⟩
 | .tup cs,u,hi,h=>by
  simp only[den,V.ids]at h hi⊢;obtain⟨us,h1,h2⟩:=h;exact⟨us,h1,mJ cs us hi h2⟩
 | .ptr i o,u,hi,h=>by
  simp only[den,V.ids]at h hi⊢;refine⟨h.1,λb m hb=>h.2 b m ?_⟩;rcases hi i (.head _)with e|e
  ·rw[<-e];exact hb
  ·rw[e]at hb;cases hb
 | .ep i k j o,u,hi,h=>by
  simp only[den,V.ids]at h hi⊢;refine⟨h.1,λb m hb=>h.2 b m ?_⟩;rcases hi i (.head _)with e|e
  ·rw[<-e];exact hb
  ·rw[e]at hb;cases hb
 | .rp cs,u,_,h=>y6 (λ_ h=>h) (λ_ _=>rfl) _ _ rfl h
 | .sl i k o l,u,hi,h=>by
  simp only[den,V.ids]at h hi⊢;refine⟨h.1,λb m hb=>h.2 b m ?_⟩;rcases hi i (.head _)with e|e
  ·rw[<-e];exact hb
  ·rw[e]at hb;cases hb
 | .ro k n f,u,_,h=>y6 (λ_ h=>h) (λ_ _=>rfl) _ _ rfl h
 | .fn f cs,u,hi,h=>by
  simp only[den,V.ids]at h hi⊢;obtain⟨us,h1,h2⟩:=h;exact⟨us,h1,mJ cs us hi h2⟩
 | .mp i,u,hi,h=>by
  simp only[den,V.ids]at h hi⊢;refine⟨h.1,λb m hb=>h.2 b m ?_⟩;rcases hi i (.head _)with e|e
  ·rw[<-e];exact hb
  ·rw[e]at hb;cases hb
 | .ifc t v,u,hi,h=>by
  simp only[den,V.ids]at h hi⊢;obtain⟨x,h1,h2⟩:=h;exact⟨x,h1,dd4 v x hi h2⟩
 | .bf f fs cs,u,hi,h=>by
  simp only[den,V.ids]at h hi⊢;obtain⟨xs,us,h1,h2,h3⟩:=h;exact⟨xs,us,h1,mJ fs xs (λi h=>hi i (List.mem_append_left _ h)) h2,mJ cs us (λi h=>hi i (List.mem_append_right _ h)) h3⟩
theorem mJ{β β':Bt}{S D:Pr}{w:World}:∀(l:List V) (us:List Value),(∀i∈iC l,β' i=β i\/β' i=none)->d9 β S w D l us->d9 β' S w D l us
 | [],us,_,h=>by simpa[d9]using h
 |c::cs,us,hi,h=>by
  simp only[d9,iC]at h hi⊢;obtain⟨x,xs,h1,h2,h3⟩:=h;exact⟨x,xs,h1,dd4 c x (λi hh=>hi i (List.mem_append_left _ hh)) h2,mJ cs xs (λi hh=>hi i (List.mem_append_right _ hh)) h3⟩
end
theorem fs5{β β':Bt}{S D:Pr}{w:World}{b m:Nat}{c:Z1}(hi:∀i∈c.ids,β' i=β i\/β' i=none)(h:d7 β S w D b m c):d7 β' S w D b m c:=by
 cases c with
 |blk cs=>
  simp only[d7,Z1.ids]at h hi⊢;obtain⟨h0,us,T,h1,h2,h3⟩:=h;exact⟨h0,us,T,h1,mJ _ _ hi h2,h3⟩
 |tbk T cs=>
  simp only[d7,Z1.ids]at h hi⊢;obtain⟨h0,us,h1,h2,h3⟩:=h;exact⟨h0,us,h1,mJ _ _ hi h2,h3⟩
 |row e k n f=>
  simp only[d7]at h⊢;obtain⟨h1,h2,h3,hc⟩:=h;refine⟨h1,h2,h3,λh0=>?_⟩;obtain⟨cur,h4,h5,h6⟩:=hc h0;exact⟨cur,h4,h5,rS (λ_ h=>h) (λ_ _=>rfl) h6⟩
 |iter s p=>exact h
 |map es=>
  simp only[d7]at h⊢;obtain⟨h0,ents,clock,h1,h2⟩:=h;exact⟨h0,ents,clock,h1,mU (λ_ h=>h) (λ_ _=>rfl) h2⟩
 |smap n g f=>
  simp only[d7]at h⊢;obtain⟨h0,ents,clock,h1,h2⟩:=h;exact⟨h0,ents,clock,h1,xP (λ_ h=>h) (λ_ _=>rfl) h2⟩
theorem al8:∀(us:List (Nat×Option Z1)) (j:Nat) (c:Z1) (i:Nat),(j,some c)∈us->i∈c.ids->i∈bo0 us
 | (k,none)::us,j,c,i,h,hi=>by
  cases h with
  |tail _ h=>exact al8 us j c i h hi
 | (k,some c')::us,j,c,i,h,hi=>by
  simp only[bo0,List.mem_append];cases h with
  |head=>exact .inl hi
  |tail _ h=>exact .inr (al8 us j c i h hi)
theorem dl0:∀(us:List (Nat×Option Z1)) (h:Hp) (i:Nat) (c:Z1),i∈us.map (·.1)->aG h us i=some c->(i,some c)∈us
 | [],h,i,c,hi,_=>by simp at hi
 | (j,d)::us,h,i,c,hi,hu=>by
  simp only[aG]at hu;by_cases hin:i∈us.map (·.1)
  ·exact .tail _ (dl0 us _ i c hin hu)
  ·simp only[List.map_cons,List.mem_cons]at hi;have hij:=hi.resolve_right hin;rw[cC us _ i hin]at hu;subst hij;rw[j6]at hu;subst hu;exact .head _
section
variable {E:Env} {β:Bt} {S D:Pr} {H:Hp} {w:World} {new:Nat}
def yA(base:Nat)(bits:Vw)(β:Bt):Bt:=λi=>if eY base bits i then β i else none
theorem Mem.vis(hM:Mem β S D H w)(base:Nat)(bits:Vw):Mem (yA base bits β) S D (fJ base bits H) w/\Hb β (yA base bits β) D:=by
 have hHb:Hb β (yA base bits β) D:=λi _=>by unfold yA;split<;>simp
 have hin:∀i bm,yA base bits β i=some bm->eY base bits i=true/\β i=some bm:=λi bm h=>by
  unfold yA at h;split at h
  ·exact⟨by assumption,h⟩
  ·cases h
 refine⟨⟨λi c hc=>?_,λi hi=>?_,λi b m h=>hM.dom i b m (hin _ _ h).2,λi b m h=>hM.own i b m (hin _ _ h).2,λi j b m m' h h' h0 h0'=>hM.inj i j b m m' (hin _ _ h).2 (hin _ _ h').2 h0 h0',hM.st⟩,hHb⟩
 ·unfold fJ at hc;split at hc
  ·rename_i hv;obtain⟨b,m,h1,h2⟩:=hM.live i c hc;exact⟨b,m,by unfold yA;rw[if_pos hv];exact h1,o0 hHb (λ_ h=>h) (λ_ h=>h) (λ_ _=>rfl) (λ_=>rfl) h2⟩
  ·cases hc
 ·unfold yA fJ at*;split
  ·rename_i hv;rw[if_pos hv]at hi;exact hM.dead i hi
  ·rfl
def cc3(base:Nat)(bits:Vw)(new:Nat)(β β':Bt):Bt:=λi=>if(eY base bits i||zJ new i) then β' i else β i
theorem gq6{base:Nat}{bits:Vw}{β':Bt}{S':Pr}{w':World}{us:List (Nat×Option Z1)}{v:V}{u:Value}(hM:Mem β S D H w)(hn:∀i,new<=i->i<new+j2->¬D i)(hk:bc4 base bits new v us=true)
 (h1:Mem β' S' (kY D new) (aG (fJ base bits H) us) w') (h2:den β' S' w' (kY D new) v u) (h3:Evo (yA base bits β) S w β' S' w') (h4:Hb (yA base bits β) β' D) (h5:X6 (yA base bits β) w us w'):
 Mem (cc3 base bits new β β') S' (kY D new) (aG H us) w'/\den (cc3 base bits new β β') S' w' (kY D new) v u/\Evo β S w (cc3 base bits new β β') S' w'/\Hb β (cc3 base bits new β β') D:=by
 unfold bc4 at hk;rw[List.all_eq_true]at hk;have hkey:∀i,i∈us.map (·.1)->(eY base bits i||zJ new i)=true:=λi hi=>hk i (by simp only[List.mem_append];exact .inl (.inl hi));have hvi:∀i,i∈v.ids->(eY base bits i||zJ new i)=true:=λi hi=>hk i (by simp only[List.mem_append];exact .inl (.inr hi));have hci:∀i j c,(j,some c)∈us->i∈c.ids->(eY base bits i||zJ new i)=true:=λi j c hj hi=>hk i (by simp only[List.mem_append];exact .inr (al8 us j c i hj hi))
 have hvis:∀i bm,yA base bits β i=some bm->eY base bits i=true/\β i=some bm:=λi bm h=>by
  unfold yA at h;split at h
  ·exact⟨by assumption,h⟩
  ·cases h
 have hmix:∀i,(eY base bits i||zJ new i)=true->cc3 base bits new β β' i=β' i:=λi hi=>by unfold cc3;rw[if_pos hi]
 have hmixn:∀i,(eY base bits i||zJ new i)≠true->cc3 base bits new β β' i=β i:=λi hi=>by unfold cc3;rw[if_neg hi]
 have hown0:∀i bm,zJ new i=true->β i=some bm->False:=λi bm ho hb=>by
  simp only[zJ,Bool.and_eq_true,decide_eq_true_eq]at ho;exact hn i ho.1 ho.2 (hM.dom i bm.1 bm.2 hb)
 have hup:∀i,(eY base bits i||zJ new i)=true->aG H us i=aG (fJ base bits H) us i:=by
  intro i hi;refine dc7 us _ _ i ?_;unfold fJ;split
  ·rfl
  ·rename_i hv;cases hH:H i with
   |none=>rfl
   |some c=>
    obtain⟨b,m,hb,_⟩:=hM.live i c hH;rcases Bool.or_eq_true_iff.1 hi with h|h
    ·exact absurd h hv
    ·exact(hown0 i _ h hb).elim
 have hdn:∀i,(eY base bits i||zJ new i)≠true->aG H us i=H i:=λi hi=>cC us H i λhm=>hi (hkey i hm)
 have hfr:∀i b m,(eY base bits i||zJ new i)≠true->β i=some (b,m)->0<m->w'.heap[b]? =w.heap[b]? /\¬S' b/\∀j m',0<m'->β' j≠some (b,m'):=by
  intro i b m hi hb h0
  have hno:∀j m',0<m'->yA base bits β j≠some (b,m'):=λj m' h0' e=>by
   obtain⟨hv,hj⟩:=hvis j _ e;have:=hM.inj i j b m m' hb hj h0 h0';subst this;exact hi (by simp[hv])
  have hlt:=(hM.own i b m hb h0).1;refine⟨h3.keep b hlt hno,λhs=>?_,λj m' h0' e=>?_⟩
  ·rcases h3.newS b hs with h|h| ⟨j,m',h0',h⟩
   ·exact(hM.own i b m hb h0).2 h
   ·omega
   ·exact hno j m' h0' h
  ·rcases h3.newO j b m' e h0' with h| ⟨j',m'',h0'',h⟩
   ·omega
   ·exact hno j' m'' h0'' h
 have hkS:Y4 S w w':=λb hb=>h3.keep b (hM.st b hb) λi m h0 e=>(hM.own i b m (hvis i _ e).2 h0).2 hb
 have hHb:Hb β (cc3 base bits new β β') D:=by
  intro i hi;unfold cc3;split
  ·rcases h4 i hi with e|e
   ·rw[e];unfold yA;split<;>simp
   ·exact .inr e
  ·exact .inl rfl
 have hB:∀i bm,cc3 base bits new β β' i=some bm->((eY base bits i||zJ new i)=true/\β' i=some bm)\/((eY base bits i||zJ new i)≠true/\β i=some bm):=λi bm h=>by
  by_cases hi:(eY base bits i||zJ new i)=true
  ·rw[hmix i hi]at h;exact .inl ⟨hi,h⟩
  ·rw[hmixn i hi]at h;exact .inr ⟨hi,h⟩
 refine⟨⟨λi c hc=>?_,λi hi=>?_,λi b m h=>?_,λi b m h h0=>?_,λi j b m m' h h' h0 h0'=>?_,h1.st⟩,dd4 v u (λi hi=>.inl (hmix i (hvi i hi))) h2,⟨h3.os,h3.tape,h3.output,h3.size,λb hb hno=>h3.keep b hb (λi m h0 e=>hno i m h0 (hvis i _ e).2),h3.sub,λb hb=>?_,λi b m h h0=>?_⟩,hHb⟩
 ·by_cases hi:(eY base bits i||zJ new i)=true
  ·rw[hup i hi]at hc;obtain⟨b,m,e1,e2⟩:=h1.live i c hc;by_cases hin:i∈us.map (·.1)
   ·have hmem:=dl0 us _ i c hin hc;exact⟨b,m,by rw[hmix i hi];exact e1,fs5 (λj hj=>.inl (hmix j (hci j i c hmem hj))) e2⟩
   ·rw[cC us _ i hin]at hc;unfold fJ at hc;split at hc
    ·rename_i hv;obtain⟨b',m',f1,f2⟩:=hM.live i c hc;have hvt:yA base bits β i=some (b',m'):=by unfold yA;rw[if_pos hv];exact f1
     refine⟨b',m',?_,o0 hHb h3.sub (j9 D new) hkS (λh0=>h5 i b' m' hvt h0 hin) f2⟩;rw[hmix i hi];rcases h4 i (hM.dom i b' m' f1)with e|e
     ·rw[e];exact hvt
     ·rw[e]at e1;cases e1
    ·cases hc
  ·rw[hdn i hi]at hc;obtain⟨b,m,e1,e2⟩:=hM.live i c hc;exact⟨b,m,by rw[hmixn i hi];exact e1,o0 hHb h3.sub (j9 D new) hkS (λh0=>(hfr i b m hi e1 h0).1) e2⟩
 ·by_cases hv:(eY base bits i||zJ new i)=true
  ·rw[hup i hv]at hi;rw[hmix i hv];exact h1.dead i hi
  ·rw[hdn i hv]at hi;rw[hmixn i hv];exact hM.dead i hi
 ·rcases hB i _ h with⟨_,h⟩ | ⟨_,h⟩
  ·exact h1.dom i b m h
  ·exact .inl (hM.dom i b m h)
 ·rcases hB i _ h with⟨_,h⟩ | ⟨hi,h⟩
  ·exact h1.own i b m h h0
  ·exact⟨Nat.lt_of_lt_of_le (hM.own i b m h h0).1 h3.size,(hfr i b m hi h h0).2.1⟩
 ·rcases hB i _ h with⟨_,h⟩ | ⟨hi,h⟩<;>rcases hB j _ h' with⟨_,h'⟩ | ⟨hj,h'⟩
  ·exact h1.inj i j b m m' h h' h0 h0'
  ·exact absurd h ((hfr j b m' hj h' h0').2.2 i m h0)
  ·exact absurd h' ((hfr i b m hi h h0).2.2 j m' h0')
  ·exact hM.inj i j b m m' h h' h0 h0'
 ·rcases h3.newS b hb with h|h| ⟨j,m',h0,h⟩
  ·exact .inl h
  ·exact .inr (.inl h)
  ·exact .inr (.inr ⟨j,m',h0,(hvis j _ h).2⟩)
 ·rcases hB i _ h with⟨_,h⟩ | ⟨_,h⟩
  ·rcases h3.newO i b m h h0 with h| ⟨j,m',h0',h⟩
   ·exact .inl h
   ·exact .inr ⟨j,m',h0',(hvis j _ h).2⟩
  ·exact .inr ⟨i,m,h0,h⟩
end
abbrev S2:=List V×Hp
abbrev Rc:=V×List (Nat×Option Z1)
def lI(s:S2)(o:Oper)(r:Rc):S2:=(putL s.1 o.dst r.1,aG s.2 r.2)
def Ts:S2->List Oper->List Rc->Nat->S2
 |s,_,_,0=>s
 |s,o::l,r::rs,j+1=>Ts (lI s o r) l rs j
 |s,_,_,_+1=>s
theorem db1:∀(l:List Oper) (rs:List Rc) (s:S2) (j:Nat) (o:Oper) (r:Rc),l[j]? =some o->rs[j]? =some r->Ts s l rs (j+1)=lI (Ts s l rs j) o r
 | [],rs,s,j,o,r,h,_=>by simp at h
 |x::l,[],s,j,o,r,_,h=>by simp at h
 |x::l,y::rs,s,0,o,r,h,h'=>by
  simp only[List.getElem?_cons_zero,Option.some.injEq]at h h';subst h h';cases l<;>cases rs<;>rfl
 |x::l,y::rs,s,j+1,o,r,h,h'=>by
  have:=db1 l rs (lI s x y) j o r (by simpa using h) (by simpa using h');exact this
def cQ(h:Hp)(b:Nat):Option (Nat×V)->Prop
 |none=>(h b).isSome=true
 |some (off,v)=>zC h b off=some v
def Lds(E:Env)(base:Nat)(bits:Vw)(o:Oper)(T:S2)(b:Nat)(q:Option (Nat×V)):Prop:=
 gw7 E base bits o T.1 T.2=some (b,q)
theorem xX{h:Hp}{b:Nat}(hb:(h b).isSome=true)(k:Option Ans):qW h b k=k:=by
 unfold qW;cases hc:h b with
 |none=>rw[hc]at hb;cases hb
 |some c=>rfl
theorem fe9{P:Program}{t:TypeId}{get:Hp}{b off:Nat}{v:V}(ha:fp9 P t=some false)(h:zC get b off=some v)(k:KR):ad9 P t (.ptr b off) get k=k (.val v []):=by
 unfold zC at h;split at h
 ·rename_i cs hg;simp[ad9,hg,seg,ha,h]
 ·cases h
theorem af1{E:Env}{base:Nat}{bits:Vw}{o:Oper}{T:S2}{b:Nat}{q:Option (Nat×V)}(h:Lds E base bits o T b q):cQ (fJ base bits T.2) b q:=by
 unfold Lds gw7 at h;split at h
 ·split at h
  ·split at h
   ·simp only[Option.map_eq_some_iff,Prod.mk.injEq]at h;obtain⟨v',h1,rfl,rfl⟩:=h;exact h1
   ·cases h
  ·cases h
 ·split at h
  ·simp only[Option.map_eq_some_iff,Prod.mk.injEq]at h;obtain⟨c,h1,rfl,rfl⟩:=h;simp[cQ,h1]
  ·cases h
 ·split at h
  ·simp only[Option.map_eq_some_iff,Prod.mk.injEq]at h;obtain⟨c,h1,rfl,rfl⟩:=h;simp[cQ,h1]
  ·cases h
 ·cases h
theorem cd1{E:Env}{base:Nat}{bits:Vw}{o:Oper}{T:S2}{b:Nat}{q:Option (Nat×V)}(h:Lds E base bits o T b q){get:Hp}(hg:cQ get b q){pb pr:Bool}{new:Nat}(k:KR):
 opK E.P pb pr o (evA E T.1) get new k=opK E.P pb pr o (evA E T.1) (fJ base bits T.2) new k/\∀(f:FuncId) (args:List V),(∀x,(∀f' a',x≠ .call f' a')->k x=none)->opK E.P pb pr o (evA E T.1) get new k=none:=by
 have hT:=af1 h;unfold Lds gw7 at h;split at h
 ·rename_i t x ho;split at h
  ·rename_i b' off hx;split at h
   ·rename_i ha;simp only[Option.map_eq_some_iff,Prod.mk.injEq]at h;obtain⟨v',h1,rfl,rfl⟩:=h;simp only[opK,ho,hx];rw[fe9 ha hg,fe9 ha hT];exact⟨rfl,λ_ _ hk=>hk _ λ_ _ e=>by cases e⟩
   ·cases h
  ·cases h
 ·rename_i x ho;split at h
  ·rename_i b' off hx;simp only[Option.map_eq_some_iff,Prod.mk.injEq]at h;obtain⟨c,h1,rfl,rfl⟩:=h;simp only[opK,ho,hx,ay2];rw[xX hg,xX hT];exact⟨rfl,λ_ _ hk=>hk _ λ_ _ e=>by cases e⟩
  ·cases h
 ·rename_i t x f ho;split at h
  ·rename_i b' off hx;simp only[Option.map_eq_some_iff,Prod.mk.injEq]at h;obtain⟨c,h1,rfl,rfl⟩:=h
   have e:∀(g:Hp),(g b').isSome=true->opK E.P pb pr o (evA E T.1) g new k=(match fk5 E.P t f with|some (p,u)=>(match szP E.P u with|some (_+1)=>k (.val (.ptr b' (off+p)) []) |_=>none) |none=>none):=λg hgs=>by
    simp only[opK,ho,hx,kR];cases fk5 E.P t f with
    |none=>rfl
    |some pu=>
     simp only;cases szP E.P pu.2 with
     |none=>rfl
     |some n=>
      cases n with
      |zero=>rfl
      |succ n=>exact xX hgs _
   rw[e _ hg,e _ hT];refine⟨rfl,λ_ _ hk=>?_⟩;split
   ·split
    ·exact hk _ λ_ _ e=>by cases e
    ·rfl
   ·rfl
  ·cases h
 ·cases h
def cp4(us:List (Nat×Option Z1))(b:Nat)(q:Option (Nat×V)):Prop:=∀h:Hp,b∈us.map (·.1)->cQ (aG h us) b q
def ce2(E:Env)(ops:Array Oper)(base:Nat)(bits:Vw)(o:Oper)(T s:S2):Prop:=
 (∀t∈o.looksAt ops,s.1.getD t .junk=T.1.getD t .junk)/\(aL o.op=true->fJ base bits s.2=fJ base bits T.2\/∃b q,Lds E base bits o T b q/\cQ (fJ base bits s.2) b q)
def ex0(E:Env)(ops:Array Oper)(base:Nat)(bits:Vw)(new:Nat)(o:Oper)(T:S2)(r:Rc):Prop:=
 ∀s:S2,ce2 E ops base bits o T s->∀(β:Bt) (S D:Pr) (a:Act) (w:World) (Q:Exit->Act->World->Prop) (K:Act->World->Prop),d9 β S w D s.1 a.tmps.toList->Mem β S D s.2 w->Y2 E S w->(∀i,new<=i->i<new+j2->¬D i)->
  (∀u w' β' S',Mem β' S' (kY D new) (aG s.2 r.2) w'->den β' S' w' (kY D new) r.1 u->Evo β S w β' S' w'->Hb β β' D->K (a.put o.dst u) w')->
  if Region.wanted o (yielded ops a.tmps)then o.wp E.P a w K Q\/(o.asks E.P a w/\LetsOut Q)else K (a.put o.dst undef) w
theorem wW{ops:List Oper}{fr fr':List V}{o:Oper}(h:∀t∈o.looksAt ops.toArray,fr.getD t .junk=fr'.getD t .junk){j:Nat}{b:Bool}(hg:o.guard=some (j,b)):sR ops fr j=sR ops fr' j:=by
 unfold sR;split
 ·rename_i o' ho;split
  ·rename_i t ht
   exact h t (by
    unfold Oper.looksAt;rw[hg];simp only[List.getElem?_toArray,ho,Option.bind_some,ht]
    exact List.mem_append_right _ (by simp))
  ·rfl
 ·rfl
theorem fq8{E:Env}{ops:Array Oper}{fr fr':List V}{o:Oper}(h:∀t∈o.looksAt ops,fr.getD t .junk=fr'.getD t .junk):∀x∈o.op.operands,evA E fr x=evA E fr' x:=by
 intro x hx;cases x with
 |tmp t=>
  exact h t (by
   unfold Oper.looksAt
   exact List.mem_append_left _ (List.mem_filterMap.2 ⟨.tmp t,by simpa using hx,rfl⟩))
 |_=>rfl
theorem ez5{ops:List Oper}{o:Oper}{fr:List V}{k:Bool->Option Ans}{r:Ans}(h:aw4 o.guard (sR ops fr) k=some r):
 ∃b,k b=some r/\∀(fr':List V),(∀t∈o.looksAt ops.toArray,fr'.getD t .junk=fr.getD t .junk)->∀(β:Bt) (S D:Pr) (w:World) (a:Act),d9 β S w D fr' a.tmps.toList->Region.wanted o (yielded ops.toArray a.tmps)=b:=by
 unfold aw4 at h;split at h
 ·rename_i hg;exact⟨true,h,λfr' _ β S D w a _=>by simp[Region.wanted,hg]⟩
 ·rename_i j b hg;split at h
  ·rename_i v hv;split at h
   ·rename_i c;split at h
    ·rename_i hcb;subst hcb;exact⟨true,h,λfr' hl β S D w a hf=>by simp[Region.wanted,hg,gX hf ((wW hl hg).trans hv)]⟩
    ·rename_i hcb;exact⟨false,h,λfr' hl β S D w a hf=>by simp[Region.wanted,hg,gX hf ((wW hl hg).trans hv),hcb]⟩
   ·rename_i hnb;refine⟨false,h,λfr' hl β S D w a hf=>?_⟩;have:=gX hf ((wW hl hg).trans hv);simp only[Region.wanted,hg,this];cases v<;>first|rfl| (exact absurd rfl (hnb _))
  ·cases h
def gv5(ops:Array Oper)(i:Nat):Nat->Oper->Prop
 |0,_=>True
 |n+1,oj=>∀e∈oj.after,Region.binds .any e=true->e.on≠i/\∀om,ops[e.on]? =some om->gv5 ops i n om
def far(ops:Array Oper)(oj:Oper)(i:Nat):Prop:=gv5 ops i 8 oj
def X4(ops:Array Oper)(listed:Array Bool):Prop:=∀(m:Nat) (om:Oper),ops[m]? =some om->listed.getD m false=true->∀e∈om.after,Region.binds .any e=true->listed.getD e.on false=true
theorem tQ{o:Oper}{i:Nat}(h:by4 o i=true):∃e∈o.after,Region.binds .any e=true/\e.on=i:=by
 unfold by4 at h;rw[List.any_eq_true]at h;obtain⟨e,he,hb⟩:=h;simp only[Bool.and_eq_true,beq_iff_eq]at hb;exact⟨e,by simpa using he,hb.1,hb.2⟩
theorem tR{ops:List Oper}{i:Nat}:∀(n:Nat) (o:Oper),fc8 ops i n o=true->¬gv5 ops.toArray i (n+2) o
 |0,_,h=>by cases h
 |n+1,o,h=>by
  unfold fc8 at h;rw[List.any_eq_true]at h;obtain⟨e,he,hb⟩:=h;rw[Bool.and_eq_true,Bool.and_eq_true]at hb;obtain⟨hb,_,hm⟩:=hb;split at hm
  ·rename_i om hom;rw[Bool.or_eq_true]at hm;intro hf;have h2:=(hf e (by simpa using he) hb).2 om (by simpa using hom);rcases hm with hm|hm
   ·obtain⟨e',he',hb',hon⟩:=tQ hm;exact(h2 e' he' hb').1 hon
   ·exact tR n om hm h2
  ·cases hm
theorem aj6{ops:Array Oper}{listed:Array Bool}(hcl:X4 ops listed){i:Nat}(hnl:¬listed.getD i false=true):∀(n:Nat) (o:Oper),(∀e∈o.after,Region.binds .any e=true->listed.getD e.on false=true)->gv5 ops i n o
 |0,_,_=>trivial
 |n+1,o,h=>λe he hb=>⟨λheq=>hnl (by rw[<-heq];exact h e he hb),λom hom=>aj6 hcl hnl n om λe' he' hb'=>hcl e.on om hom (h e he hb) e' he' hb'⟩
theorem bf3{ops:List Oper}{base:Nat}{o:Oper}{bj:Vw}{kj:List Nat}:∀{done:List Dn},uZ ops base o bj kj done=true->∀{i:Nat} {ri:Bool} {bi:Vw} {ki:List Nat} {ld:Option (Nat×Option (Nat×V))},(i,ri,bi,ki,ld)∈done->
 (¬far ops.toArray o i)\/((aL o.op=true->∀x∈ki,eY base bj x=false)/\(ri=true->∀x∈kj,eY base bi x=false)/\∀x∈ki,x∉kj)
 | (i',ri',bi',ki',ld')::l,h,i,ri,bi,ki,ld,hm=>by
  simp only[uZ,Bool.and_eq_true]at h;cases hm with
  |tail _ hm=>exact bf3 h.2 hm
  |head=>
   have h1:=h.1;rw[Bool.or_eq_true,Bool.or_eq_true]at h1;rcases h1 with h1|h1|h1
   ·left;obtain⟨e,he,hb,hon⟩:=tQ h1;exact λhf=>(hf e he hb).1 hon
   ·right;simp only[Bool.and_eq_true]at h1;obtain⟨⟨a1,a2⟩,a3⟩:=h1;refine⟨λhr x hx=>?_,λhr x hx=>?_,λx hx hxj=>?_⟩
    ·rw[hr]at a1;simp only[Bool.not_true,Bool.false_or,List.all_eq_true]at a1;simpa using a1 x hx
    ·rw[hr]at a2;simp only[Bool.not_true,Bool.false_or,List.all_eq_true]at a2;simpa using a2 x hx
    ·rw[List.all_eq_true]at a3;have:=a3 x hxj;simp at this;exact this hx
   ·left;exact tR _ _ h1
theorem bf0{ops:List Oper}{base:Nat}{o:Oper}{bj:Vw}{kj:List Nat}:∀{done:List Dn},bm9 ops base o bj kj done=true->∀{i:Nat} {ri:Bool} {bi:Vw} {ki:List Nat} {ld:Option (Nat×Option (Nat×V))},(i,ri,bi,ki,ld)∈done->
 (¬far ops.toArray o i)\/((aL o.op=true->∀x∈ki,eY base bj x=false)/\∀x∈ki,x∉kj)
 | (i',ri',bi',ki',ld')::l,h,i,ri,bi,ki,ld,hm=>by
  simp only[bm9,Bool.and_eq_true]at h;cases hm with
  |tail _ hm=>exact bf0 h.2 hm
  |head=>
   have h1:=h.1;rw[Bool.or_eq_true,Bool.or_eq_true]at h1;rcases h1 with h1|h1|h1
   ·left;obtain⟨e,he,hb,hon⟩:=tQ h1;exact λhf=>(hf e he hb).1 hon
   ·right;simp only[Bool.and_eq_true]at h1;obtain⟨⟨a1,_⟩,a3⟩:=h1;refine⟨λhr x hx=>?_,λx hx hxj=>?_⟩
    ·rw[hr]at a1;simp only[Bool.not_true,Bool.false_or,List.all_eq_true]at a1;simpa using a1 x hx
    ·rw[List.all_eq_true]at a3;have:=a3 x hxj;simp at this;exact this hx
   ·left;exact tR _ _ h1
mutual
theorem bu9:∀(v v':V) (k:Option Ans) (r:Ans),nX v v' k=some r->v=v'/\k=some r
 | .sl i z o l,v',k,r,h=>by
  unfold nX at h;split at h
  ·split at h
   ·rename_i hc;obtain⟨rfl,rfl,rfl,rfl⟩:=hc;exact⟨rfl,h⟩
   ·cases h
  ·cases h
 | .ptr i o,v',k,r,h=>by
  unfold nX at h;split at h
  ·split at h
   ·rename_i hc;obtain⟨rfl,rfl⟩:=hc;exact⟨rfl,h⟩
   ·cases h
  ·cases h
 | .fn f cs,v',k,r,h=>by
  unfold nX at h;split at h
  ·split at h
   ·rename_i hc;subst hc;obtain⟨h2,h3⟩:=bg0 _ _ _ _ h;exact⟨by rw[h2],h3⟩
   ·cases h
  ·cases h
 | .sc x,v',k,r,h=>by
  unfold nX at h;split at h
  ·rename_i heq;cases heq
  ·rename_i heq;cases heq
  ·rename_i heq;cases heq
  ·rename_i heq;cases heq;split at h
   ·split at h
    ·rename_i hc;obtain⟨rfl,rfl⟩:=hc;exact⟨rfl,h⟩
    ·cases h
   ·cases h
  ·rename_i heq;cases heq;split at h
   ·exact⟨rfl,h⟩
   ·cases h
  ·rename_i heq;cases heq;split at h
   ·split at h
    ·rename_i hc;subst hc;exact⟨rfl,h⟩
    ·cases h
   ·cases h
  ·cases h
 | .junk,v',k,r,h=>by simp[nX]at h
 | .agg _,v',k,r,h=>by simp[nX]at h
 | .tup _,v',k,r,h=>by simp[nX]at h
 | .ep _ _ _ _,v',k,r,h=>by simp[nX]at h
 | .rp _,v',k,r,h=>by simp[nX]at h
 | .ro _ _ _,v',k,r,h=>by simp[nX]at h
 | .mp _,v',k,r,h=>by simp[nX]at h
 | .ifc _ _,v',k,r,h=>by simp[nX]at h
 | .bf _ _ _,v',k,r,h=>by simp[nX]at h
theorem bg0:∀(l m:List V) (k:Option Ans) (r:Ans),br8 l m k=some r->l=m/\k=some r
 | [],m,k,r,h=>by
  unfold br8 at h;split at h
  ·exact⟨rfl,h⟩
  ·cases h
 |v::l,m,k,r,h=>by
  unfold br8 at h;split at h
  ·obtain⟨h2,h3⟩:=bu9 _ _ _ _ h;obtain⟨h4,h5⟩:=bg0 _ _ _ _ h3;exact⟨by rw[h2,h4],h5⟩
  ·cases h
end
theorem lastU_some:∀(us:List (Nat×Option Z1)) (b:Nat) (c:Option Z1),cl6 us b=some c->∀h:Hp,aG h us b=c
 | [],b,c,h,_=>by cases h
 | (i,d)::us,b,c,h,g=>by
  unfold cl6 at h;simp only[aG];split at h
  ·rename_i x hx;cases h;exact lastU_some us b _ hx _
  ·rename_i hx;split at h
   ·rename_i hb;cases h;have:i=b:=by simpa using hb
    subst this;rw[cC us _ i (lastU_none us i hx),j6]
   ·cases h
where lastU_none:∀(us:List (Nat×Option Z1)) (b:Nat),cl6 us b=none->b∉us.map (·.1)
 | [],b,_=>by simp
 | (i,d)::us,b,h=>by
  unfold cl6 at h;split at h
  ·cases h
  ·rename_i hx;split at h
   ·cases h
   ·rename_i hb;simp only[List.map_cons,List.mem_cons,not_or];exact⟨λe=>by subst e;simp at hb,lastU_none us b hx⟩
theorem wG{ops:List Oper}{base:Nat}{o:Oper}{us:List (Nat×Option Z1)}{k:Option Ans}{r:Ans}:∀{done:List Dn},bh7 ops base o us done k=some r->k=some r/\∀{i:Nat} {ri:Bool} {bi:Vw} {ki:List Nat} {ld:Option (Nat×Option (Nat×V))},(i,ri,bi,ki,ld)∈done->
 (¬far ops.toArray o i)\/(ri=true->(∀x∈us.map (·.1),eY base bi x=false)\/∃b q,ld=some (b,q)/\cp4 us b q)
 | [],h=>⟨h,λhm=>by cases hm⟩
 | (i',ri',bi',ki',ld')::l,h=>by
  unfold bh7 at h;split at h
  ·rename_i he;obtain⟨h1,h2⟩:=wG h;refine⟨h1,λ{i ri bi ki ld} hm=>?_⟩;cases hm with
   |tail _ hm=>exact h2 hm
   |head=>
    rw[Bool.or_eq_true,Bool.or_eq_true,Bool.or_eq_true]at he;rcases he with he|he|he|he
    ·left;obtain⟨e,he,hb,hon⟩:=tQ he;exact λhf=>(hf e he hb).1 hon
    ·left;exact tR _ _ he
    ·right;intro hr;rw[hr]at he;cases he
    ·right;intro _;left;intro x hx;have:=List.all_eq_true.1 he x hx;simpa using this
  ·split at h
   ·rename_i b q
    have key:∀X:bh7 ops base o us l k=some r,cp4 us b q->_:=λX hk=>(⟨(wG X).1,λ{i ri bi ki ld} hm=>by
     cases hm with
     |tail _ hm=>exact(wG X).2 hm
     |head=>exact .inr λ_=>.inr ⟨b,q,rfl,hk⟩⟩:k=some r/\∀{i:Nat} {ri:Bool} {bi:Vw} {ki:List Nat} {ld:Option (Nat×Option (Nat×V))},(i,ri,bi,ki,ld)∈(i',ri',bi',ki',some (b,q))::l->
      (¬far ops.toArray o i)\/(ri=true->(∀x∈us.map (·.1),eY base bi x=false)\/∃b q,ld=some (b,q)/\cp4 us b q))
    split at h
    ·rename_i c hl;split at h
     ·exact key h λg _=>by simp only[cQ];rw[lastU_some us b _ hl g];rfl
     ·rename_i off v;split at h
      ·rename_i cs;split at h
       ·rename_i v' hv;obtain⟨h2,h3⟩:=bu9 _ _ _ _ h;exact key h3 λg _=>by simp only[cQ,zC];rw[lastU_some us b _ hl g,h2];exact hv
       ·cases h
      ·cases h
    ·cases h
    ·rename_i hl;exact key h λg hb=>absurd hb (lastU_some.lastU_none us b hl)
   ·cases h
def X1(ops:List Oper)(base:Nat)(o:Oper)(bj:Vw)(us:List (Nat×Option Z1))(done:List Dn):Prop:=
 ∀(i:Nat) (ri:Bool) (bi:Vw) (ki:List Nat) (ld:Option (Nat×Option (Nat×V))),(i,ri,bi,ki,ld)∈done->(¬far ops.toArray o i)\/((aL o.op=true->∀x∈ki,eY base bj x=false)/\
  (ri=true->(∀x∈us.map (·.1),eY base bi x=false)\/∃b q,ld=some (b,q)/\cp4 us b q)/\∀x∈ki,x∉us.map (·.1))
theorem X1.ok{ops:List Oper}{base:Nat}{o:Oper}{bj:Vw}{us:List (Nat×Option Z1)}{done:List Dn}(h:uZ ops base o bj (us.map (·.1)) done=true):X1 ops base o bj us done:=λi ri bi ki ld hm=>by
 rcases bf3 h hm with h| ⟨a1,a2,a3⟩
 ·exact .inl h
 ·exact .inr ⟨a1,λhr=>.inl (a2 hr),a3⟩
theorem dv5{ops:List Oper}{base:Nat}{o:Oper}{vw:Vw}{new:Nat}{v:V}{us:List (Nat×Option Z1)}{done:List Dn}{k:Option Ans}{r:Ans}(h:okK ops base o vw new v us done k=some r):
 bc4 base vw new v us=true/\X1 ops base o vw us done/\k=some r:=by
 unfold okK at h;split at h
 ·rename_i hs;refine⟨hs,?_⟩;split at h
  ·rename_i hp;exact⟨.ok hp,h⟩
  ·split at h
   ·rename_i hp;obtain⟨h1,h2⟩:=wG h;refine⟨λi ri bi ki ld hm=>?_,h1⟩;rcases bf0 hp hm with g| ⟨a1,a3⟩
    ·exact .inl g
    rcases h2 hm with g|g
    ·exact .inl g
    ·exact .inr ⟨a1,g,a3⟩
   ·cases h
 ·cases h
inductive X3(E:Env)(ops:List Oper)(base lim:Nat):Nat->List Oper->List Dn->S2->List Rc->List Vw->S2->Prop where
 |nil {i:Nat} {done:List Dn} {s:S2}:X3 E ops base lim i [] done s [] [] s
 |cons {i:Nat} {o:Oper} {l:List Oper} {done:List Dn} {s s':S2} {r:Rc} {rs:List Rc} {b:Vw} {bs:List Vw} {ld:Option (Nat×Option (Nat×V))}:(i<lim->ex0 E ops.toArray base b (base+i*j2) o s r)->X1 ops base o b r.2 done->(∀c q,ld=some (c,q)->Lds E base b o s c q)->
  X3 E ops base lim (i+1) l ((i,aL o.op,b,r.2.map (·.1),ld)::done) (lI s o r) rs bs s'->X3 E ops base lim i (o::l) done s (r::rs) (b::bs) s'
theorem gj3{E:Env}{b:Nat}{fr:List V}{h:Hp}{o:Oper}{k:Vw->Option Ans}{r:Ans}(g:vwK E b fr h o k=some r):∃vw,k vw=some r:=by
 unfold vwK at g;rw[be4]at g;exact⟨_,g⟩
def gi1(E:Env)(ops:Array Oper)(base:Nat)(bits:Vw)(new:Nat)(o:Oper)(T:S2)(v:V)(us:List (Nat×Option Z1)):Prop:=
 ∀s:S2,ce2 E ops base bits o T s->∀(β:Bt) (S D:Pr) (a:Act) (w:World) (Q:Exit->Act->World->Prop) (K:Act->World->Prop),d9 β S w D s.1 a.tmps.toList->Mem β S D s.2 w->Y2 E S w->(∀i,new<=i->i<new+j2->¬D i)->
  (∀u w' β' S',v.pure=true->den (λ_=>none) S' w' (λ_=>False) v u->Mem β' S' (kY D new) (aG s.2 us) w'->Evo β S w β' S' w'->Hb β β' D->Q (.panic [{v:=u,recovered:=false}]) a w')->
  Region.wanted o (yielded ops a.tmps)=true/\o.wp E.P a w K Q
def bg9:List Oper->List V->List V
 | [],fr=>fr
 |o::l,fr=>bg9 l (putL fr o.dst .junk)
theorem dj5:∀(l:List Oper) (s:St) (k:St->Option Ans),fd3 l s k=k {fr:=bg9 l s.fr,H:=s.H,nx:=s.nx,rt:=s.rt,me:=s.me}
 | [],s,k=>rfl
 |o::l,s,k=>by rw[fd3,kE,dj5 l];rfl
theorem dk2{E:Env}{ops:List Oper}{base lim:Nat}:∀(l:List Oper) (i:Nat) (done:List Dn) (s:S2),lim<=i->∃s',X3 E ops base lim i l done s (l.map λ_=>((.junk,[]):Rc)) (l.map λ_=>(⟨0,some []⟩:Vw)) s'
 | [],i,done,s,_=>⟨s,.nil⟩
 |o::l,i,done,s,hi=>by
  obtain⟨s',h⟩:=dk2 (E:=E) (ops:=ops) (base:=base) (lim:=lim) l (i+1) ((i,aL o.op,⟨0,some []⟩,[],none)::done) (lI s o (.junk,[])) (by omega)
  have hP:X1 ops base o ⟨0,some []⟩ [] done:=by
   intro i ri bi ki ld hm;right;exact⟨λ_ x _=>rfl,λ_=>Or.inl λx hx=>(by cases hx),λx _ hx=>(by cases hx)⟩
  exact⟨s',.cons (r:=(.junk,[])) (ld:=none) (λh=>absurd h (Nat.not_lt.2 hi)) hP (λ_ _ h=>by cases h) h⟩
def Y8(E:Env)(ops:List Oper)(base i:Nat)(l:List Oper)(done:List Dn)(s2:S2)(rt:Nat)(me:FuncId)(k:KX)(r:Ans):Prop:=
 ∃rs bs s' lim,X3 E ops base lim i l done s2 rs bs s'/\((i+l.length<=lim/\k .normal {fr:=s'.1,H:=s'.2,nx:=base+(i+l.length)*j2,rt:=rt,me:=me}=some r)\/
  ∃o v us,i<=lim/\l[lim-i]? =some o/\(∀j o',lim<j->l[j-i]? =some o'->¬far ops.toArray o' lim)/\(∀d∈done,d.2.2.2.1=[])/\(∀j r',j<lim-i->rs[j]? =some r'->r'.2=[])/\
   gi1 E ops.toArray base (bs.getD (lim-i) ⟨0,none⟩) (base+lim*j2) o (Ts s2 l rs (lim-i)) v us/\k (.panic v) {fr:=bg9 (ops.take lim) (Ts s2 l rs (lim-i)).1,H:=aG (Ts s2 l rs (lim-i)).2 us,nx:=base+(i+l.length)*j2,rt:=rt,me:=me}=some r)
theorem Y8.cons{E:Env}{ops:List Oper}{base i:Nat}{o:Oper}{l:List Oper}{done:List Dn}{s2:S2}{rt:Nat}{me:FuncId}{k:KX}{r:Ans}{vw:Vw}{v:V}{us:List (Nat×Option Z1)}{ld:Option (Nat×Option (Nat×V))}
 (hd:ex0 E ops.toArray base vw (base+i*j2) o s2 (v,us)) (hp:X1 ops base o vw us done) (hl:∀c q,ld=some (c,q)->Lds E base vw o s2 c q)
 (h:Y8 E ops base (i+1) l ((i,aL o.op,vw,us.map (·.1),ld)::done) (lI s2 o (v,us)) rt me k r):Y8 E ops base i (o::l) done s2 rt me k r:=by
 obtain⟨rs,bs,s',lim,h1,h2⟩:=h;refine⟨(v,us)::rs,vw::bs,s',lim,.cons (λ_=>hd) hp hl h1,?_⟩;have e:i+(o::l).length=i+1+l.length:=by simp only[List.length_cons];omega
 rw[e];rcases h2 with h2| ⟨o',v',us',a1,a2,a3,a4,a5,a6,a7⟩
 ·exact .inl h2
 ·right;obtain⟨m,hm⟩:∃m,lim=i+1+m:=⟨lim-(i+1),by omega⟩;subst hm;have e1:i+1+m-i=m+1:=by omega
  have e2:i+1+m-(i+1)=m:=by omega
  rw[e2]at a2 a5 a6 a7;refine⟨o',v',us',by omega,by rw[e1];simpa using a2,λj oj hj hoj=>a3 j oj hj ?_,λd hd=>a4 d (.tail _ hd),λj r' hj hr=>?_,?_,?_⟩
  ·have:j-i=(j-(i+1))+1:=by omega
   rw[this]at hoj;simpa using hoj
  ·cases j with
   |zero=>
    simp only[List.getElem?_cons_zero,Option.some.injEq]at hr;subst hr;have:=a4 _ (.head _);simp only at this;simpa using this
   |succ j=>exact a5 j r' (by omega) (by simpa using hr)
  ·rw[e1];exact a6
  ·rw[e1];exact a7
theorem Y8.pan{E:Env}{ops:List Oper}{base i:Nat}{o:Oper}{l:List Oper}{done:List Dn}{s2:S2}{rt:Nat}{me:FuncId}{k:KX}{r:Ans}{vw:Vw}{v:V}{us:List (Nat×Option Z1)}{nx:Nat}
 (hd:gi1 E ops.toArray base vw (base+i*j2) o s2 v us) (h:gd7 ops base o i vw l done v us {fr:=s2.1,H:=s2.2,nx:=nx,rt:=rt,me:=me} k=some r):Y8 E ops base i (o::l) done s2 rt me k r:=by
 unfold gd7 at h;split at h
 ·rename_i hb;rw[dj5,kE]at h;unfold hp1 at hb;rw[Bool.and_eq_true,Bool.and_eq_true,Bool.and_eq_true]at hb;obtain⟨b1,b2,b3,b4⟩:=hb;obtain⟨s',hf⟩:=dk2 (E:=E) (ops:=ops) (base:=base) (lim:=i) l (i+1) ((i,aL o.op,vw,[],none)::done) (lI s2 o (.junk,[])) (by omega);refine⟨(.junk,[])::_,vw::_,s',i,.cons (ld:=none) (λh=>absurd h (Nat.lt_irrefl _)) (.ok b3) (λ_ _ h=>by cases h) hf,.inr ⟨o,v,us,Nat.le_refl _,by simp,λj o' hj ho'=>?_,λd hd'=>?_,λj r' hj=>absurd hj (by omega),by rw[Nat.sub_self];exact hd,?_⟩⟩
  ·have e:j-i=(j-i-1)+1:=by omega
   rw[e]at ho';have hm:o'∈l:=List.mem_of_getElem? (by simpa using ho');have:=List.all_eq_true.1 b1 o' hm;rw[Bool.or_eq_true]at this;rcases this with h1|h1
   ·obtain⟨e,he,hb,hon⟩:=tQ h1;exact λhf=>(hf e he hb).1 hon
   ·exact tR _ _ h1
  ·have:=List.all_eq_true.1 b4 d hd';exact List.isEmpty_iff.1 this
  ·have e0:Ts s2 (o::l) ((.junk,[])::(l.map λ_=>((.junk,[]):Rc))) (i-i)=s2:=by rw[Nat.sub_self];rfl
   rw[e0];have e:i+(o::l).length=i+1+l.length:=by simp only[List.length_cons];omega
   rw[e];exact h
 ·cases h
theorem cm3 {E : Env} {ca : u9} (hC : aF E ca) (hX : Z6 E) {ops : List Oper} {befs : List Nat} {base : Nat} : ∀ (l : List Oper) (i : Nat) (done : List Dn) (s : St) (k : KX) (r : Ans), aa7 E ca ops befs base i l done s k = some r ->
 Y8 E ops base i l done (s.fr, s.H) s.rt s.me k r
 | [], i, done, s, k, r, h => by
  simp only [aa7] at h;exact ⟨[], [], _, i, .nil, .inl ⟨by simp, by simpa using h⟩⟩
 | o :: l, i, done, s, k, r, h => by
  simp only [aa7] at h
  replace h := bg2 h
  obtain ⟨b, hb, hw⟩ := ez5 h
  have next : ∀ (vw : Vw) (v : V) (us : List (Nat × Option Z1)) (ld : Option (Nat × Option (Nat × V))), ex0 E ops.toArray base vw (base + i * j2) o (s.fr, s.H) (v, us) -> X1 ops base o vw us done -> (∀ c q, ld = some (c, q) -> Lds E base vw o (s.fr, s.H) c q) ->
   aa7 E ca ops befs base (i + 1) l ((i, aL o.op, vw, us.map (·.1), ld) :: done) { fr := putL s.fr o.dst v, H := aG s.H us, nx := s.nx, rt := s.rt, me := s.me } k = some r ->
   Y8 E ops base i (o :: l) done (s.fr, s.H) s.rt s.me k r := by
   intro vw v us ld hd hp hl hs;exact Y8.cons hd hp hl (cm3 hC hX l (i + 1) _ _ k r hs)
  cases b with
  | false =>
   simp only [Bool.false_eq_true, if_false] at hb;split at hb
   ·rename_i hp;simp only [kE] at hb;refine next _ (.sc undef) [] none ?_ (.ok hp) (λ_ _ h => by cases h) hb
    intro s2 hok β S D a w Q K hf hM hG hn hK;rw [if_neg (by rw [hw s2.1 hok.1 β S D w a hf]; simp)];exact hK undef w β S (hM.mono (j9 _ _)) (by simp [den]) (AA _ _ _) (AB _ _)
   ·cases hb
  | true =>
   simp only [if_true] at hb;obtain ⟨vw, hb⟩ := gj3 hb
   -- the operation, whatever the frame, if it looks the same
   obtain ⟨R, hR⟩ := gd0 (pb := E.push) (pr := E.rows) (P := E.P) (o := o) (ev := evA E s.fr) (get := fJ base vw s.H) (new := base + i * j2);have hb' := hb;rw [hR] at hb';cases hres : R with
   | none => rw [hres] at hb'; cases hb'
   | some res =>
    rw [hres, Option.bind_some] at hb'
    have hgood : ∀ (s2 : S2), ce2 E ops.toArray base vw o (s.fr, s.H) s2 -> ∀ (β : Bt) (S D : Pr) (a : Act) (w : World), d9 β S w D s2.1 a.tmps.toList -> Mem β S D s2.2 w -> Y2 E S w -> (∀ j, base + i * j2 <= j -> j < base + i * j2 + j2 -> ¬ D j) ->
     rT E.P (yA base vw β) S D (fJ base vw s2.2) (base + i * j2) o a w res := by
     intro s2 hok β S D a w hf hM hG hn;obtain ⟨hv1, hv2⟩ := hM.vis base vw
     have e1 : opK E.P E.push E.rows o (evA E s2.1) (fJ base vw s2.2) (base + i * j2) = opK E.P E.push E.rows o (evA E s.fr) (fJ base vw s.H) (base + i * j2) := by
      rw [ga8 (fq8 (E := E) hok.1)];by_cases hr : aL o.op = true
      ·rcases hok.2 hr with hv | ⟨b, q, hl, hS⟩
       ·rw [hv]
       ·funext k;exact (cd1 hl hS k).1
      ·exact hl4 (by simpa using hr)
     classical
     have hk : opK E.P E.push E.rows o (evA E s2.1) (fJ base vw s2.2) (base + i * j2) (λx => if x = res then some r else none) = some r := by rw [e1, hR, hres]; simp
     obtain ⟨res', g1, g2⟩ := ch5 (a := a) hv1 (hn _ (Nat.le_refl _) (by simp [j2])) (λx => pQ hv2 (λ_ h => h) (λ_ h => h) (λ_ _ => rfl) _ _ (ax2 hf hG x)) hk;simp only at g1;split at g1
     ·rename_i he; rw [<- he]; exact g2
     ·cases g1
    cases res with
    | val v us =>
     simp only at hb';obtain ⟨hc1, hc2, hb'⟩ := dv5 hb';simp only [kE] at hb';refine next _ _ _ _ ?_ hc2 (λ_ _ h => h) hb'
     intro s2 hok β S D a w Q K hf hM hG hn hK;rw [if_pos (hw s2.1 hok.1 β S D w a hf)];left;obtain ⟨u, w', β', S', g1, g2, g3, g4, g5, g6⟩ := hgood s2 hok β S D a w hf hM hG hn;obtain ⟨q1, q2, q3, q4⟩ := gq6 hM hn hc1 g2 g3 g4 g5 g6;have := hK u w' _ S' q1 q2 q3 q4;unfold Oper.wp;rcases g1 with g1 | ⟨g1, rfl⟩
     ·rw [g1]; exact this
     ·rw [g1]; exact this
    | pan v us =>
     simp only at hb';refine Y8.pan ?_ hb';intro s2 hok β S D a w Q K hf hM hG hn hK;refine ⟨hw s2.1 hok.1 β S D w a hf, ?_⟩;obtain ⟨rfl, u, g1, g2, g3⟩ := hgood s2 hok β S D a w hf hM hG hn;unfold Oper.wp;rw [g1];exact hK u w β S g2 (y6 (λ_ h => h) (λ_ _ => rfl) _ _ g2 g3) (hM.mono (j9 _ _)) (AA _ _ _) (AB _ _)
    | dfr _ _ => simp only at hb'; cases hb'
    | call f args =>
     simp only at hb';obtain ⟨res2, hk2, hcall⟩ := ao6 hC hX hb';cases res2 with
     | val v us =>
      simp only at hk2;split at hk2
      ·rename_i hc;obtain ⟨hc1, hc2, hk2⟩ := dv5 hk2;simp only [kE] at hk2;refine next _ _ _ none ?_ hc2 (λ_ _ h => by cases h) hk2
       intro s2 hok β S D a w Q K hf hM hG hn hK;rw [if_pos (hw s2.1 hok.1 β S D w a hf)];left;obtain ⟨cs, g1, g2⟩ := hgood s2 hok β S D a w hf hM hG hn
       have hvis : fJ base vw s2.2 = fJ base vw s.H := by
        rcases hok.2 hc with hv | ⟨b, q, hl, hS⟩
        ·exact hv
        ·exfalso;have e := hR (λq => match q with | .call _ _ => some r | _ => none);rw [hres] at e
         have e2 := (cd1 (pb := E.push) (pr := E.rows) (new := base + i * j2) hl (af1 hl) (λq => match q with | .call _ _ => some r | _ => none)).2 f args (λx hx => by
          cases x with
          | call f' a' => exact absurd rfl (hx f' a')
          | _ => rfl)
         rw [show opK E.P E.push E.rows o (evA E s.fr) (fJ base vw s.H) (base + i * j2) (λq => match q with | .call _ _ => some r | _ => none) = none from e2] at e;cases e
       obtain ⟨hv1, hv2⟩ := hM.vis base vw;rw [hvis] at hv1;obtain ⟨c1, c2⟩ := hcall _ S D w hv1 hG hn;unfold Oper.wp;rw [g1 c1];refine (c2 cs g2).mono ?_;rintro e' w' ⟨u, β', S', rfl, p1, p2, p3, p4, p5⟩;obtain ⟨q1, q2, q3, q4⟩ := gq6 hM hn hc1 (by rw [hvis]; exact p1) p2 p3 p4 p5;exact hK u w' _ S' q1 q2 q3 q4
      ·cases hk2
     | pan v us =>
      simp only at hk2;split at hk2
      ·rename_i hc
       have hseen : bc4 base vw (base + i * j2) (.sc undef) us = true := by
        unfold gd7 at hk2;split at hk2
        ·rename_i hb;unfold hp1 at hb;rw [Bool.and_eq_true, Bool.and_eq_true] at hb;exact hb.2.1
        ·cases hk2
       refine Y8.pan ?_ hk2;intro s2 hok β S D a w Q K hf hM hG hn hK;refine ⟨hw s2.1 hok.1 β S D w a hf, ?_⟩;obtain ⟨cs, g1, g2⟩ := hgood s2 hok β S D a w hf hM hG hn
       have hvis : fJ base vw s2.2 = fJ base vw s.H := by
        rcases hok.2 hc with hv | ⟨b, q, hl, hS⟩
        ·exact hv
        ·exfalso;have e := hR (λq => match q with | .call _ _ => some r | _ => none);rw [hres] at e
         have e2 := (cd1 (pb := E.push) (pr := E.rows) (new := base + i * j2) hl (af1 hl) (λq => match q with | .call _ _ => some r | _ => none)).2 f args (λx hx => by
          cases x with
          | call f' a' => exact absurd rfl (hx f' a')
          | _ => rfl)
         rw [show opK E.P E.push E.rows o (evA E s.fr) (fJ base vw s.H) (base + i * j2) (λq => match q with | .call _ _ => some r | _ => none) = none from e2] at e;cases e
       obtain ⟨hv1, hv2⟩ := hM.vis base vw;rw [hvis] at hv1;obtain ⟨c1, c2⟩ := hcall _ S D w hv1 hG hn;unfold Oper.wp;rw [g1 c1];refine (c2 cs g2).mono ?_;rintro e' w' ⟨u, β', S', rfl, p1, p2, p3, p4, p5, p6⟩;obtain ⟨q1, q2, q3, q4⟩ := gq6 (v := .sc undef) (u := undef) hM hn hseen (by rw [hvis]; exact p4.mono (j9 _ _)) (by simp [den]) p3 p5 p6;exact hK u w' _ S' p1 p2 q1 q3 q4
      ·cases hk2
     | call _ _ => simp only at hk2; cases hk2
     | dfr _ _ => simp only at hk2; cases hk2
def go6(E:Env)(ops:Array Oper)(base:Nat)(oi oj:Oper)(bi bj:Vw)(Ti:S2)(ri rj:Rc):Prop:=
 oi.apart ops oj=true/\(aL oj.op=true->∀x∈ri.2.map (·.1),eY base bj x=false)/\
  (aL oi.op=true->(∀x∈rj.2.map (·.1),eY base bi x=false)\/∃b q,Lds E base bi oi Ti b q/\cp4 rj.2 b q)/\∀x∈ri.2.map (·.1),x∉rj.2.map (·.1)
section
variable {E:Env} {ops:Array Oper} {base:Nat} {bits:Nat->Vw} {eff:Nat->Rc} {T:Nat->S2} {fin:S2}
def fp3(E:Env)(ops:Array Oper)(base:Nat)(bits:Nat->Vw)(eff:Nat->Rc)(T:Nat->S2)(fin:S2):Nat->Array Bool->S2->Prop
 |0,listed,s=>Region.ready .any ops listed=[]/\s=fin
 |fuel+1,listed,s=>(Region.ready .any ops listed=[]->s=fin)/\
  ∀i∈Region.ready .any ops listed,∀o,ops[i]? =some o->ce2 E ops base (bits i) o (T i) s/\fp3 E ops base bits eff T fin fuel (listed.setIfInBounds i true) (lI s o (eff i))
theorem ca6{ops:Array Oper}{x y:Oper}{fr:List V}{v:V}(h:∀d,x.dst=some d->d∉y.looksAt ops):∀t∈y.looksAt ops,(putL fr x.dst v).getD t .junk=fr.getD t .junk:=by
 intro t ht;unfold putL;cases hd:x.dst with
 |none=>rfl
 |some d=>
  have hne:d≠t:=λe=>h d hd (e▸ht);simp only[List.getD_eq_getElem?_getD];rw[List.getElem?_set_ne hne]
theorem fv9{x y:Oper}{fr:List V}{v u:V}(h:∀d,x.dst=some d->y.dst≠some d):putL (putL fr x.dst v) y.dst u=putL (putL fr y.dst u) x.dst v:=by
 unfold putL;cases hx:x.dst with
 |none=>rfl
 |some d=>
  cases hy:y.dst with
  |none=>rfl
  |some e=>
   have hne:d≠e:=λhe=>h d hx (by rw[hy,he]);simp only;rw[List.set_comm _ _ hne]
theorem da0{base:Nat}{b:Vw}{h:Hp}{us:List (Nat×Option Z1)}(hk:∀x∈us.map (·.1),eY base b x=false):fJ base b (aG h us)=fJ base b h:=by
 funext x;unfold fJ;split
 ·rename_i hv;refine cC us h x λhm=>?_;rw[hk x hm]at hv;cases hv
 ·rfl
theorem hj4{oi oj:Oper}{bi bj:Vw}{s:S2}{r:Rc}{T:S2}(hp:oi.apart ops oj=true)(hk:aL oj.op=true->∀x∈r.2.map (·.1),eY base bj x=false):ce2 E ops base bj oj T (lI s oi r)↔ce2 E ops base bj oj T s:=by
 obtain⟨h1,h2,h3⟩:=Oper.apart_spec hp;unfold ce2 lI;constructor
 ·rintro⟨g1,g2⟩;exact⟨λt ht=>by rw[<-g1 t ht];exact(ca6 h1 t ht).symm,λhr=>by have:=g2 hr;simp only[da0 (hk hr)]at this;exact this⟩
 ·rintro⟨g1,g2⟩;exact⟨λt ht=>by rw[<-g1 t ht];exact ca6 h1 t ht,λhr=>by have:=g2 hr;simp only[da0 (hk hr)];exact this⟩
theorem hk3{oi oj:Oper}{bi:Vw}{s:S2}{r:Rc}{T:S2}(hp:oj.apart ops oi=true)(hk:aL oi.op=true->(∀x∈r.2.map (·.1),eY base bi x=false)\/∃b q,Lds E base bi oi T b q/\cp4 r.2 b q)(h:ce2 E ops base bi oi T s):ce2 E ops base bi oi T (lI s oj r):=by
 obtain⟨h1,h2,h3⟩:=Oper.apart_spec hp;obtain⟨g1,g2⟩:=h;refine⟨λt ht=>by rw[<-g1 t ht];exact ca6 h1 t ht,λhr=>?_⟩;rcases hk hr with hk| ⟨b,q,hl,hkeep⟩
 ·have:=g2 hr;simp only[lI,da0 hk];exact this
 ·right;refine⟨b,q,hl,?_⟩;have hT:=af1 hl
  have hs:cQ (fJ base bi s.2) b q:=by
   rcases g2 hr with e| ⟨b',q',hl',hs'⟩
   ·rw[e];exact hT
   ·have e:=hl.symm.trans hl';simp only[Option.some.injEq,Prod.mk.injEq]at e;obtain⟨rfl,rfl⟩:=e;exact hs'
  have hvb:eY base bi b=true:=by
   by_cases hb:eY base bi b=true
   ·exact hb
   ·exfalso;cases q with
    |none=>simp only[cQ,fJ]at hs;rw[if_neg hb]at hs;cases hs
    |some q=>simp only[cQ,zC,fJ]at hs;rw[if_neg hb]at hs;cases hs
  have e:∀h:Hp,cQ (fJ base bi h) b q↔cQ h b q:=λh=>by
   cases q with
   |none=>simp only[cQ,fJ];rw[if_pos hvb]
   |some q=>simp only[cQ,zC,fJ];rw[if_pos hvb]
  rw[e]at hs⊢;by_cases hb:b∈r.2.map (·.1)
  ·exact hkeep s.2 hb
  ·simp only[lI];cases q with
   |none=>simp only[cQ]at hs⊢;rw[cC _ _ _ hb];exact hs
   |some q=>simp only[cQ,zC]at hs⊢;rw[cC _ _ _ hb];exact hs
theorem ew3{x y:Oper}(h:x.apart ops y=true):y.apart ops x=true:=by
 obtain⟨h1,h2,h3⟩:=Oper.apart_spec h;unfold Oper.apart;rw[Bool.and_eq_true];constructor
 ·split
  ·rename_i d hd;simp only[Bool.and_eq_true,Bool.not_eq_true',bne_iff_ne,ne_eq];exact⟨by simpa using h3 d hd,λe=>h2 d e hd⟩
  ·rfl
 ·split
  ·rename_i d hd;simpa using h1 d hd
  ·rfl
theorem X4.add{ops:Array Oper}{listed:Array Bool}(h:X4 ops listed){j:Nat}{oj:Oper}(hj:ops[j]? =some oj)(hall:∀e∈oj.after,Region.binds .any e=true->listed.getD e.on false=true):X4 ops (listed.setIfInBounds j true):=by
 intro m om hm hl e he hb;refine getD_set_true ?_;by_cases hjm:j=m
 ·subst hjm;rw[hj]at hm;cases hm;exact hall e he hb
 ·rw[getD_set_ne false hjm]at hl;exact h m om hm hl e he hb
theorem fk8{i:Nat}{oi:Oper}(hi:ops[i]? =some oi):∀(fuel:Nat) (listed:Array Bool) (s:S2),
 (∀j oj,ops[j]? =some oj->j≠i->listed.getD j true=false->far ops oj i->go6 E ops base oi oj (bits i) (bits j) (T i) (eff i) (eff j))->X4 ops listed->
 i∈Region.ready .any ops listed->ce2 E ops base (bits i) oi (T i) s->fp3 E ops base bits eff T fin fuel (listed.setIfInBounds i true) (lI s oi (eff i))->fp3 E ops base bits eff T fin (fuel+1) listed s:=by
 intro fuel
 induction fuel with
 |zero=>
  intro listed s _ _ hr hok H;refine⟨λh=>(by rw[h]at hr;cases hr),λj hj o ho=>?_⟩;by_cases hji:j=i
  ·subst hji;rw[hi]at ho;cases ho;exact⟨hok,H⟩
  ·have:=ready_mono hj hji;rw[H.1]at this;cases this
 |succ fuel ih=>
  intro listed s hfree hcl hr hok H;refine⟨λh=>(by rw[h]at hr;cases hr),λj hj o ho=>?_⟩;by_cases hji:j=i
  ·subst hji;rw[hi]at ho;cases ho;exact⟨hok,H⟩
  ·obtain⟨h1,h2⟩:=H.2 j (ready_mono hj hji) o ho;obtain⟨hjun,oj,hoj,hall⟩:=mem_ready.1 hj;rw[ho]at hoj;cases hoj
   have hnl:listed.getD i false≠true:=λh1=>by
    have h0:=(mem_ready.1 hr).1;rcases Nat.lt_or_ge i listed.size with h'|h'
    ·simp[h']at h0 h1;rw[h0]at h1;cases h1
    ·simp[Array.getElem?_eq_none h']at h1
   have hnot:far ops o i:=aj6 hcl hnl _ _ hall;obtain⟨p1,p2,p3,p4⟩:=hfree j o ho hji hjun hnot;refine⟨(hj4 (bi:=bits i) p1 p2).1 h1,?_⟩
   have hfree':∀k ok,ops[k]? =some ok->k≠i->(listed.setIfInBounds j true).getD k true=false->far ops ok i->go6 E ops base oi ok (bits i) (bits k) (T i) (eff i) (eff k):=λk ok hk hki hun hno=>by
    refine hfree k ok hk hki ?_ hno;by_cases hjk:j=k
    ·subst hjk;exact hjun
    ·rw[getD_set_ne true hjk]at hun;exact hun
   refine ih (listed.setIfInBounds j true) (lI s o (eff j)) hfree' (hcl.add ho hall) (ready_mono hr (Ne.symm hji)) (hk3 (ew3 p1) p3 hok) ?_
   have hcomm:lI (lI s o (eff j)) oi (eff i)=lI (lI s oi (eff i)) o (eff j):=by
    unfold lI;obtain⟨_,q2,_⟩:=Oper.apart_spec p1;rw[fv9 (x:=oi) (y:=o) q2,fl5 _ _ (λx hx=>p4 x hx)]
   rw[hcomm,Array.setIfInBounds_comm _ _ hji];exact h2
end
structure W2(E:Env)(β:Bt)(S D:Pr)(N:Nat)(s:St)(a:Act)(w:World):Prop where
 fr:d9 β S w D s.fr a.tmps.toList
 mem:Mem β S D s.H w
 df:Dfs E s.me a.defers
 lt:∀i,D i->i<N
 gl:Y2 E S w
 rtD:∀i,i<s.rt->D i
theorem hj0{E:Env}{ops:List Oper}{base lim:Nat}:∀{l:List Oper} {i:Nat} {done:List Dn} {s s':S2} {rs:List Rc} {bs:List Vw},X3 E ops base lim i l done s rs bs s'->
 rs.length=l.length/\bs.length=l.length/\s'=Ts s l rs l.length/\∀(j:Nat) (o:Oper) (r:Rc) (b:Vw),l[j]? =some o->rs[j]? =some r->bs[j]? =some b->(i+j<lim->ex0 E ops.toArray base b (base+(i+j)*j2) o (Ts s l rs j) r)/\
  ∃done',X1 ops base o b r.2 done'/\(∀x∈done,x∈done')/\∀(q:Nat) (oq:Oper) (rq:Rc) (bq:Vw),q<j->l[q]? =some oq->rs[q]? =some rq->bs[q]? =some bq->∃ld,(i+q,aL oq.op,bq,rq.2.map (·.1),ld)∈done'/\∀c p,ld=some (c,p)->Lds E base bq oq (Ts s l rs q) c p:=by
 intro l i done s s' rs bs h
 induction h with
 |nil=>exact⟨rfl,rfl,rfl,λj o r b h=>by simp at h⟩
 | @cons i o l done s s' r rs b bs ld hd hp hl hrun ih=>
  obtain⟨h1,h1',h2,h3⟩:=ih;refine⟨by simp[h1],by simp[h1'],by rw[h2];rfl,λj o' r' b' hj hr hb=>?_⟩;cases j with
  |zero=>
   simp only[List.getElem?_cons_zero,Option.some.injEq]at hj hr hb;subst hj hr hb;exact⟨hd,done,hp,λx hx=>hx,λq oq rq bq hq=>by omega⟩
  |succ j=>
   obtain⟨g1,done',g2,g3,g4⟩:=h3 j o' r' b' (by simpa using hj) (by simpa using hr) (by simpa using hb);rw[show i+1+j=i+(j+1)by omega]at g1;refine⟨g1,done',g2,λx hx=>g3 x (.tail _ hx),λq oq rq bq hq hoq hrq hbq=>?_⟩;cases q with
   |zero=>
    simp only[List.getElem?_cons_zero,Option.some.injEq]at hoq hrq hbq;subst hoq hrq hbq;exact⟨ld,g3 _ (.head _),hl⟩
   |succ q=>
    have:=g4 q oq rq bq (by omega) (by simpa using hoq) (by simpa using hrq) (by simpa using hbq);rw[show i+1+q=i+(q+1)by omega]at this;exact this
section
variable {E:Env} {ops:List Oper} {befs:List Nat} {base:Nat}
theorem ff2{bits:Nat->Vw}{eff:Nat->Rc}{T:Nat->S2}
 (hT:∀j o,ops[j]? =some o->T (j+1)=lI (T j) o (eff j))
 (hP:∀i j oi oj,i<j->ops[i]? =some oi->ops[j]? =some oj->far ops.toArray oj i->oi.apart ops.toArray oj=true->go6 E ops.toArray base oi oj (bits i) (bits j) (T i) (eff i) (eff j)):
 ∀(l:List Oper) (k:Nat) (listed:Array Bool),k+l.length=ops.length->(∀j,l[j]? =ops[k+j]?)->(∀j,listed.getD j true=false->k<=j)->X4 ops.toArray listed->Region.lexFrom .any ops.toArray l.length k listed=true->
  fp3 E ops.toArray base bits eff T (T ops.length) l.length listed (T k)
 | [],k,listed,hlen,hl,_,_,hB=>by
  refine⟨by simpa[Region.lexFrom]using hB,?_⟩;rw[show k=ops.length by simpa using hlen]
 |o::l,k,listed,hlen,hl,hun,hcl,hB=>by
  have h0:ops[k]? =some o:=by simpa using(hl 0).symm
  simp only[List.length_cons,Region.lexFrom,Bool.and_eq_true]at hB;obtain⟨⟨hr,hf⟩,hB'⟩:=hB;have h0':ops.toArray[k]? =some o:=by simpa using h0
  refine fk8 h0' l.length listed (T k) (λj oj hj hjk hjun hno=>?_) hcl (by simpa using hr) ⟨λ_ _=>rfl,λ_=>.inl rfl⟩ ?_
  ·have hkj:=hun j hjun;exact hP k j o oj (by omega) h0 (by simpa using hj) hno (Region.free_spec h0' hf j oj hj hjk hjun λe he hb=>(hno e he hb).1)
  ·rw[<-hT k o h0]
   refine ff2 hT hP l (k+1) _ (by simp only[List.length_cons]at hlen;omega) (λj=>by have:=hl (j+1);simpa[Nat.add_assoc,Nat.add_comm 1 j]using this) (λj hj=>?_) (by
    obtain⟨_,ok,hok,hall⟩:=mem_ready.1 (show k∈Region.ready .any ops.toArray listed by simpa using hr);rw[h0']at hok;cases hok
    exact hcl.add h0' hall) hB'
   by_cases hjk:k=j
   ·subst hjk;exfalso
    have:(listed.setIfInBounds k true).getD k true=true:=by
     simp only[Array.getD_eq_getD_getElem?];rw[Array.getElem?_setIfInBounds];split
     ·split<;>simp
     ·rename_i h;exact absurd rfl h
    rw[this]at hj;cases hj
   ·rw[getD_set_ne true hjk]at hj;have:=hun j hj;omega
theorem hj3{E:Env}{ops:Array Oper}{base:Nat}{bits:Nat->Vw}{eff:Nat->Rc}{T:Nat->S2}{fin:S2}{Q:Exit->Act->World->Prop}{rt:Nat}{ds:List Deferred}
 (hD:∀i o,ops[i]? =some o->ex0 E ops base (bits i) (base+i*j2) o (T i) (eff i)) {β0:Bt} {S0:Pr} {w0:World}
 (hQ:∀(β:Bt) (S D:Pr) (a:Act) (w:World),d9 β S w D fin.1 a.tmps.toList->Mem β S D fin.2 w->a.defers=ds->(∀i,D i->i<base+ops.size*j2)->Y2 E S w->(∀i,i<rt->D i)->Evo β0 S0 w0 β S w->nW rt β0 β->Q .normal a w):
 ∀(fuel:Nat) (listed:Array Bool) (s:S2) (β:Bt) (S D:Pr) (a:Act) (w:World),fp3 E ops base bits eff T fin fuel listed s->listed.size=ops.size->d9 β S w D s.1 a.tmps.toList->Mem β S D s.2 w->a.defers=ds->
  (∀i,D i->i<base\/(base<=i/\listed.getD ((i-base)/j2) false=true))->Y2 E S w->(∀i,i<rt->D i)->Evo β0 S0 w0 β S w->nW rt β0 β->wpAny E.P .any ops Q fuel listed a w:=by
 have hlt:∀(listed:Array Bool) (D:Pr),listed.size=ops.size->(∀i,D i->i<base\/(base<=i/\listed.getD ((i-base)/j2) false=true))->∀i,D i->i<base+ops.size*j2:=by
  intro listed D hsz hlD i hi;rcases hlD i hi with h| ⟨h1,h2⟩
  ·omega
  ·have:(i-base)/j2<listed.size:=by
    rcases Nat.lt_or_ge ((i-base)/j2) listed.size with h|h
    ·exact h
    ·simp[Array.getElem?_eq_none h]at h2
   rw[hsz]at this;have:=(Nat.div_lt_iff_lt_mul (show 0<j2 by simp[j2])).1 this;omega
 intro fuel
 induction fuel with
 |zero=>
  intro listed s β S D a w hA hsz hf hM hdf hlD hG hrt hev hro;obtain⟨h1,rfl⟩:=hA;exact⟨h1,hQ β S D a w hf hM hdf (hlt listed D hsz hlD) hG hrt hev hro⟩
 |succ fuel ih=>
  intro listed s β S D a w hA hsz hf hM hdf hlD hG hrt hev hro;obtain⟨h1,h2⟩:=hA;refine⟨λh0=>?_,λi hi=>?_⟩
  ·have:=h1 h0;subst this;exact hQ β S D a w hf hM hdf (hlt listed D hsz hlD) hG hrt hev hro
  ·obtain⟨hun,o,ho,hall⟩:=mem_ready.1 hi;obtain⟨g1,g2⟩:=h2 i hi o ho
   have hin:i<listed.size:=by
    rcases Nat.lt_or_ge i listed.size with h|h
    ·exact h
    ·simp[Array.getElem?_eq_none h]at hun
   have hfresh:∀x,base+i*j2<=x->x<base+i*j2+j2->¬D x:=by
    intro x hx1 hx2 hDx;rcases hlD x hDx with h| ⟨h3,h4⟩
    ·omega
    ·have hdiv:(x-base)/j2=i:=by
      have hw:0<j2:=by simp[j2]
      apply Nat.div_eq_of_lt_le
      ·omega
      ·rw[Nat.add_mul];omega
     rw[hdiv]at h4;simp only[Array.getD_eq_getD_getElem?,Array.getElem?_eq_getElem hin,Option.getD_some]at hun h4;rw[hun]at h4;cases h4
   unfold wpOp;simp only[ho];refine hD i o ho s g1 β S D a w Q _ hf hM hG hfresh ?_;intro u w' β' S' q1 q2 q3 q4;have hk:=q3.kept hM;refine ih (listed.setIfInBounds i true) (lI s o (eff i)) β' S' (kY D (base+i*j2)) (a.put o.dst u) w' g2 (by simpa using hsz) (bn1 (m4 q4 q3.sub (j9 _ _) hk _ _ hf) q2) q1 (by rw[vK];exact hdf) ?_ (hG.later q3.sub hk) (λj hj=>.inl (hrt j hj)) (hev.trans q3) ?_
   ·intro x hx;rcases hx with hx| ⟨hx1,hx2⟩
    ·rcases hlD x hx with h| ⟨h3,h4⟩
     ·exact .inl h
     ·right;refine⟨h3,?_⟩;by_cases hxi:i=(x-base)/j2
      ·rw[<-hxi];simp only[Array.getD_eq_getD_getElem?,Array.getElem?_setIfInBounds];simp[hin]
      ·rw[getD_set_ne false hxi];exact h4
    ·right;refine⟨by omega,?_⟩
     have hdiv:(x-base)/j2=i:=by
      have hw:0<j2:=by simp[j2]
      apply Nat.div_eq_of_lt_le
      ·omega
      ·rw[Nat.add_mul];omega
     rw[hdiv];simp only[Array.getD_eq_getD_getElem?,Array.getElem?_setIfInBounds];simp[hin]
   ·intro j bm hj hb;rcases q4 j (hrt j hj)with e|e
    ·rw[e]at hb;exact hro j bm hj hb
    ·rw[e]at hb;cases hb
theorem ck5{ops:List Oper}:∀(l:List Oper) (k:Nat) (listed:Array Bool),k+l.length=ops.length->(∀j,l[j]? =ops[k+j]?)->(∀j,listed.getD j false=true->j<k)->Region.lexFrom .any ops.toArray l.length k listed=true->
 ∀j oj,k<=j->ops[j]? =some oj->∀e∈oj.after,Region.binds .any e=true->e.on<j
 | [],k,listed,hlen,_,_,_,j,oj,hj,hoj,_,_,_=>by
  have:=(List.getElem?_eq_some_iff.1 hoj).1;simp at hlen;omega
 |o::l,k,listed,hlen,hl,hli,hB,j,oj,hj,hoj,e,he,hb=>by
  have h0:ops[k]? =some o:=by simpa using(hl 0).symm
  simp only[List.length_cons,Region.lexFrom,Bool.and_eq_true]at hB;obtain⟨⟨hr,hf⟩,hB'⟩:=hB;by_cases hjk:j=k
  ·subst hjk;obtain⟨_,ok,hok,hall⟩:=mem_ready.1 (show j∈Region.ready .any ops.toArray listed by simpa using hr);rw[show ops.toArray[j]? =some oj by simpa using hoj]at hok;cases hok;exact hli _ (hall e he hb)
  ·refine ck5 l (k+1) _ (by simp only[List.length_cons]at hlen;omega) (λj=>by have:=hl (j+1);simpa[Nat.add_assoc,Nat.add_comm 1 j]using this) (λm hm=>?_) hB' j oj (by omega) hoj e he hb;by_cases hmk:k=m
   ·omega
   ·rw[getD_set_ne false hmk]at hm;have:=hli m hm;omega
theorem dh2{ops listed:Array _}(hsz:listed.size=ops.size)(hack:∀(j:Nat) (oj:Oper),ops[j]? =some oj->∀e∈oj.after,Region.binds .any e=true->e.on<j):
 ∀(n:Nat),n<ops.size->listed.getD n true=false->Region.ready .any ops listed≠[]:=by
 intro n
 induction n using Nat.strongRecOn with
 |_ n ih=>
  intro hn hun;have ho:ops[n]? =some ops[n]:=Array.getElem?_eq_getElem hn;by_cases hall:∀e∈ops[n].after,Region.binds .any e=true->listed.getD e.on false=true
  ·intro h;have:=mem_ready.2 ⟨hun,_,ho,hall⟩;rw[h]at this;cases this
  ·simp only[Classical.not_forall]at hall;obtain⟨e,he,hb,hl⟩:=hall;have hlt:=hack n _ ho e he hb;refine ih e.on hlt (by omega) ?_;have hin:e.on<listed.size:=by omega
   simp only[Array.getD_eq_getD_getElem?,Array.getElem?_eq_getElem hin,Option.getD_some]at hl⊢;simpa using hl
def W3(ops:List Oper)(p:Nat)(s0 s:S2):Prop:=s.2=s0.2/\s.1.length=s0.1.length/\∀t,(∀j oj,j<p->ops[j]? =some oj->oj.dst≠some t)->s.1[t]? =s0.1[t]?
theorem W3.app{ops:List Oper}{p:Nat}{s0 s:S2}(h:W3 ops p s0 s){i:Nat}{o:Oper}(hi:i<p)(ho:ops[i]? =some o){r:Rc}(hr:r.2=[]):W3 ops p s0 (lI s o r):=by
 obtain⟨h1,h2,h3⟩:=h;refine⟨by simp only[lI,hr];exact h1,?_,λt ht=>?_⟩
 ·simp only[lI,putL];cases o.dst with
  |none=>exact h2
  |some d=>simpa using h2
 ·have hd:=ht i o hi ho;simp only[lI,putL];cases hdst:o.dst with
  |none=>exact h3 t ht
  |some d=>
   have:d≠t:=λe=>hd (by rw[hdst,e]);simp only;rw[List.getElem?_set_ne this];exact h3 t ht
theorem xS:∀(l:List Oper) (fr:List V),(bg9 l fr).length=fr.length
 | [],_=>rfl
 |o::l,fr=>by
  rw[bg9,xS l];unfold putL;split<;>simp
theorem ch8:∀(l:List Oper) (fr:List V) (t:Nat),(bg9 l fr)[t]? =if(∃o∈l,o.dst=some t)then(fr[t]?).map (λ_=>.junk)else fr[t]?
 | [],fr,t=>by simp[bg9]
 |o::l,fr,t=>by
  rw[bg9,ch8 l];by_cases hd:o.dst=some t
  ·have e:(putL fr o.dst .junk)[t]? =(fr[t]?).map (λ_=>.junk):=by
    rw[hd];simp only[putL];by_cases ht:t<fr.length
    ·rw[List.getElem?_set_self ht,List.getElem?_eq_getElem ht];rfl
    ·rw[List.getElem?_eq_none (by simpa using ht),List.getElem?_eq_none (by omega)];rfl
   rw[e,if_pos (⟨o,.head _,hd⟩:∃o'∈o::l,o'.dst=some t)];split
   ·cases fr[t]? <;>rfl
   ·rfl
  ·have e:(putL fr o.dst .junk)[t]? =fr[t]? :=by
    unfold putL;split
    ·rename_i d hdd;rw[List.getElem?_set_ne (λh=>hd (by rw[hdd,h]))]
    ·rfl
   rw[e];by_cases hx:∃o'∈l,o'.dst=some t
   ·rw[if_pos hx,if_pos (let⟨o',h1,h2⟩:=hx;⟨o',.tail _ h1,h2⟩)]
   ·rw[if_neg hx,if_neg];rintro⟨o',h1,h2⟩;rcases List.mem_cons.1 h1 with rfl|h1
    ·exact hd h2
    ·exact hx ⟨o',h1,h2⟩
theorem uQ{β:Bt}{S D:Pr}{w:World}:∀{F s:List V} {us:List Value},d9 β S w D s us->F.length=s.length->(∀t,t<F.length->F[t]? =some .junk\/F[t]? =s[t]?)->d9 β S w D F us
 | [],[],us,h,_,_=>h
 | [],_::_,us,h,hl,_=>by simp at hl
 |_::_,[],us,h,hl,_=>by simp at hl
 |f::F,x::s,us,h,hl,hx=>by
  simp only[d9]at h⊢;obtain⟨u,us',rfl,h1,h2⟩:=h;refine⟨u,us',rfl,?_,uQ h2 (by simpa using hl) λt ht=>by simpa using hx (t+1) (by simpa using ht)⟩;rcases hx 0 (by simp)with h|h
  ·simp only[List.getElem?_cons_zero,Option.some.injEq]at h;subst h;simp[den]
  ·simp only[List.getElem?_cons_zero,Option.some.injEq]at h;subst h;exact h1
theorem gv0{E:Env}{ops:List Oper}{base p:Nat}{op:Oper}{v:V}{us:List (Nat×Option Z1)}{bits:Nat->Vw}{eff:Nat->Rc}{T:Nat->S2}{fin s0:S2}{Q:Exit->Act->World->Prop}{rt:Nat}{ds:List Deferred}
 (hop:ops[p]? =some op) (hD:∀i o,ops[i]? =some o->i<p->ex0 E ops.toArray base (bits i) (base+i*j2) o (T i) (eff i)) (hP:gi1 E ops.toArray base (bits p) (base+p*j2) op (T p) v us)
 (hfar:∀j oj,p<j->ops[j]? =some oj->¬far ops.toArray oj p) (hack:∀j oj,ops[j]? =some oj->∀e∈oj.after,Region.binds .any e=true->e.on<j) (heff:∀j,j<p->(eff j).2=[]) {β0:Bt} {S0:Pr} {w0:World}
 (hQ:∀(s:S2) (β:Bt) (S D:Pr) (a:Act) (w:World) (u:Value) (β':Bt) (S':Pr) (w':World),W3 ops p s0 s->d9 β S w D s.1 a.tmps.toList->Mem β S D s.2 w->a.defers=ds->(∀i,D i->i<base+ops.length*j2)->Y2 E S w->(∀i,i<rt->D i)->Evo β0 S0 w0 β S w->nW rt β0 β->
  v.pure=true->den (λ_=>none) S' w' (λ_=>False) v u->Mem β' S' (kY D (base+p*j2)) (aG s.2 us) w'->Evo β S w β' S' w'->Hb β β' D->Q (.panic [{v:=u,recovered:=false}]) a w'):
 ∀(fuel:Nat) (listed:Array Bool) (s:S2) (β:Bt) (S D:Pr) (a:Act) (w:World),fp3 E ops.toArray base bits eff T fin fuel listed s->listed.size=ops.length->listed.getD p true=false->X4 ops.toArray listed->W3 ops p s0 s->d9 β S w D s.1 a.tmps.toList->Mem β S D s.2 w->a.defers=ds->
  (∀i,D i->i<base\/(base<=i/\listed.getD ((i-base)/j2) false=true))->Y2 E S w->(∀i,i<rt->D i)->Evo β0 S0 w0 β S w->nW rt β0 β->wpAny E.P .any ops.toArray Q fuel listed a w:=by
 have hpl:p<ops.length:=(List.getElem?_eq_some_iff.1 hop).1
 have hlt:∀(listed:Array Bool) (D:Pr),listed.size=ops.length->(∀i,D i->i<base\/(base<=i/\listed.getD ((i-base)/j2) false=true))->∀i,D i->i<base+ops.length*j2:=by
  intro listed D hsz hlD i hi;rcases hlD i hi with h| ⟨h1,h2⟩
  ·omega
  ·have:(i-base)/j2<listed.size:=by
    rcases Nat.lt_or_ge ((i-base)/j2) listed.size with h|h
    ·exact h
    ·simp[Array.getElem?_eq_none h]at h2
   rw[hsz]at this;have:=(Nat.div_lt_iff_lt_mul (show 0<j2 by simp[j2])).1 this;omega
 have hne:∀listed:Array Bool,listed.size=ops.length->listed.getD p true=false->Region.ready .any ops.toArray listed≠[]:=λlisted hsz hp=>
  dh2 (by simpa using hsz) (λj oj hj=>hack j oj (by simpa using hj)) p (by simpa using hpl) hp
 intro fuel
 induction fuel with
 |zero=>
  intro listed s β S D a w hA hsz hp hcl hI hf hM hdf hlD hG hrt hev hro;exact absurd hA.1 (hne listed hsz hp)
 |succ fuel ih=>
  intro listed s β S D a w hA hsz hp hcl hI hf hM hdf hlD hG hrt hev hro;obtain⟨h1,h2⟩:=hA;refine⟨λh0=>absurd h0 (hne listed hsz hp),λi hi=>?_⟩;obtain⟨hun,o,ho,hall⟩:=mem_ready.1 hi;obtain⟨g1,g2⟩:=h2 i hi o ho;have ho':ops[i]? =some o:=by simpa using ho
  have hin:i<listed.size:=by
   rcases Nat.lt_or_ge i listed.size with h|h
   ·exact h
   ·simp[Array.getElem?_eq_none h]at hun
  have hnp:listed.getD p false≠true:=by
   have:p<listed.size:=by omega
   simp only[Array.getD_eq_getD_getElem?,Array.getElem?_eq_getElem this,Option.getD_some]at hp⊢;rw[hp];simp
  have hfresh:∀x,base+i*j2<=x->x<base+i*j2+j2->¬D x:=by
   intro x hx1 hx2 hDx;rcases hlD x hDx with h| ⟨h3,h4⟩
   ·omega
   ·have hdiv:(x-base)/j2=i:=by
     have hw:0<j2:=by simp[j2]
     apply Nat.div_eq_of_lt_le
     ·omega
     ·rw[Nat.add_mul];omega
    rw[hdiv]at h4;simp only[Array.getD_eq_getD_getElem?,Array.getElem?_eq_getElem hin,Option.getD_some]at hun h4;rw[hun]at h4;cases h4
  unfold wpOp;simp only[ho];rcases Nat.lt_trichotomy i p with hip|hip|hip
  ·refine hD i o ho' hip s g1 β S D a w Q _ hf hM hG hfresh ?_;intro u w' β' S' q1 q2 q3 q4;have hk:=q3.kept hM;refine ih (listed.setIfInBounds i true) (lI s o (eff i)) β' S' (kY D (base+i*j2)) (a.put o.dst u) w' g2 (by simpa using hsz) (by rw[getD_set_ne true (Nat.ne_of_lt hip)];exact hp) (hcl.add ho hall) (hI.app hip ho' (heff i hip)) (bn1 (m4 q4 q3.sub (j9 _ _) hk _ _ hf) q2) q1 (by rw[vK];exact hdf) ?_ (hG.later q3.sub hk) (λj hj=>.inl (hrt j hj)) (hev.trans q3) ?_
   ·intro x hx;rcases hx with hx| ⟨hx1,hx2⟩
    ·rcases hlD x hx with h| ⟨h3,h4⟩
     ·exact .inl h
     ·right;refine⟨h3,?_⟩;by_cases hxi:i=(x-base)/j2
      ·rw[<-hxi];simp only[Array.getD_eq_getD_getElem?,Array.getElem?_setIfInBounds];simp[hin]
      ·rw[getD_set_ne false hxi];exact h4
    ·right;refine⟨by omega,?_⟩
     have hdiv:(x-base)/j2=i:=by
      have hw:0<j2:=by simp[j2]
      apply Nat.div_eq_of_lt_le
      ·omega
      ·rw[Nat.add_mul];omega
     rw[hdiv];simp only[Array.getD_eq_getD_getElem?,Array.getElem?_setIfInBounds];simp[hin]
   ·intro j bm hj hb;rcases q4 j (hrt j hj)with e|e
    ·rw[e]at hb;exact hro j bm hj hb
    ·rw[e]at hb;cases hb
  ·subst hip;rw[hop]at ho';cases ho';obtain⟨hw,hwp⟩:=hP s g1 β S D a w Q (wpAny E.P .any ops.toArray Q fuel (listed.setIfInBounds i true)) hf hM hG hfresh λu w' β' S' r1 r2 r3 r4 r5=>hQ s β S D a w u β' S' w' hI hf hM hdf (hlt listed D hsz hlD) hG hrt hev hro r1 r2 r3 r4 r5;rw[if_pos hw];exact .inl hwp
  ·exact absurd (aj6 hcl hnp _ _ hall) (hfar i o hip ho')
theorem er0{ca:u9}(hC:aF E ca)(hX:Z6 E){id:Nat}{s:St}{k:KX}{r:Ans}(hok:eh8 E.P ops=true)(h:aa7 E ca ops befs s.nx 0 ops [] s k=some r):
 ∃e s',k e s'=some r/\s'.rt=s.rt/\s'.me=s.me/\∀(β:Bt) (S D:Pr) (a:Act) (w:World),W2 E β S D s.nx s a w->∀Q:Exit->Act->World->Prop,
  (∀(β':Bt) (S' D':Pr) (e':Exit) (a':Act) (w':World),ExR S' w' e e'->W2 E β' S' D' s'.nx s' a' w'->Evo β S w β' S' w'->nW s.rt β β'->Q e' a' w')->(Code.region id ops.toArray true).wp E.P Q a w:=by
 unfold eh8 at hok;rw[Bool.and_eq_true]at hok;obtain⟨hm,hB⟩:=hok;obtain⟨rs,bs,sf,lim,hrun,hk⟩:=cm3 hC hX ops 0 [] s k r h;obtain⟨hlen,hlen',hfin,hat⟩:=hj0 hrun
 have hrs:∀(j:Nat) (o:Oper),ops[j]? =some o->∃r,rs[j]? =some r:=λj o hj=>by
  have:j<rs.length:=by rw[hlen];exact(List.getElem?_eq_some_iff.1 hj).1
  exact⟨_,List.getElem?_eq_getElem this⟩
 have hbs:∀(j:Nat) (o:Oper),ops[j]? =some o->bs[j]? =some (bs.getD j ⟨0,none⟩):=λj o hj=>by
  have:j<bs.length:=by rw[hlen'];exact(List.getElem?_eq_some_iff.1 hj).1
  simp[List.getD,List.getElem?_eq_getElem this]
 have hgetD:∀(j:Nat) (r:Rc),rs[j]? =some r->rs.getD j (.junk,[])=r:=λj r hj=>by simp[List.getD,hj]
 simp only[Region.lexB,Bool.and_eq_true]at hB
 have hany:=ff2 (E:=E) (ops:=ops) (base:=s.nx) (bits:=λi=>bs.getD i ⟨0,none⟩) (eff:=λi=>rs.getD i (.junk,[])) (T:=λi=>Ts (s.fr,s.H) ops rs i)
  (λj o hj=>by
   obtain⟨r,hr⟩:=hrs j o hj;simp only[hgetD j r hr]
   exact db1 ops rs _ j o r hj hr)
  (λi j oi oj hij hi hj hno hap=>by
   obtain⟨ri,hri⟩:=hrs i oi hi;obtain⟨rj,hrj⟩:=hrs j oj hj;simp only[hgetD i ri hri,hgetD j rj hrj];obtain⟨_,done',g2,_,g4⟩:=hat j oj rj _ hj hrj (hbs j oj hj);obtain⟨ld,hmem,hld⟩:=g4 i oi ri _ hij hi hri (hbs i oi hi);simp only[Nat.zero_add]at hmem;rcases g2 _ _ _ _ _ hmem with hf| ⟨a1,a2,a3⟩
   ·exact absurd hno hf
   ·refine⟨hap,a1,λhr=>?_,a3⟩;rcases a2 hr with h| ⟨c,p,h1,h2⟩
    ·exact .inl h
    ·exact .inr ⟨c,p,hld c p h1,h2⟩)
  ops 0 (Array.replicate ops.length false) (by simp) (by simp) (λj _=>Nat.zero_le _) (λm om hm hl=>by
   rcases Nat.lt_or_ge m ops.length with g|g<;>simp[g,Nat.not_lt.2]at hl
   all_goals omega) (by simpa using hB.2)
 have hT0:Ts (s.fr,s.H) ops rs 0=(s.fr,s.H):=by cases ops<;>cases rs<;>rfl
 rw[hT0]at hany
 have hDoes:∀i o,ops[i]? =some o->i<lim->ex0 E ops.toArray s.nx (bs.getD i ⟨0,none⟩) (s.nx+i*j2) o (Ts (s.fr,s.H) ops rs i) (rs.getD i (.junk,[])):=λi o hi' hil=>by
  obtain⟨r,hr⟩:=hrs i o hi';obtain⟨g1,_⟩:=hat i o r _ hi' hr (hbs i o hi');simp only[hgetD i r hr];simpa using g1 (by omega)
 rcases hk with⟨hl,hk⟩ | ⟨op,v,us,p1,p2,p3,p4,p5,p6,hk⟩
 ·refine⟨.normal,_,hk,rfl,rfl,λβ S D a w hR Q hQ=>?_⟩;refine wp_region_any hm ?_;have hM':Mem β S D s.H {w with drawn:=w.drawn+1}:=hR.mem.below ⟨rfl,rfl,rfl,Nat.le_refl _,λ_ _=>rfl⟩;have hkS:Y4 S w {w with drawn:=w.drawn+1}:=λ_ _=>rfl
  have:=hj3 (E:=E) (ops:=ops.toArray) (base:=s.nx) (bits:=λi=>bs.getD i ⟨0,none⟩) (eff:=λi=>rs.getD i (.junk,[])) (T:=λi=>Ts (s.fr,s.H) ops rs i) (Q:=Q) (rt:=s.rt)
   (λi o hi=>by
    have hi':ops[i]? =some o:=by simpa using hi
    exact hDoes i o hi' (by have:=(List.getElem?_eq_some_iff.1 hi').1;omega)) (β0:=β) (S0:=S) (w0:=w)
   (λβ' S' D' a' w' h1 h2 h3 h4 h5 h6 h7 h8=>hQ β' S' D' .normal a' w' trivial ⟨by rw[hfin];exact h1,by rw[hfin];exact h2,by rw[h3];exact hR.df,λi hi=>by have:=h4 i hi;simpa using this,h5,h6⟩ h7 h8)
   ops.length (Array.replicate ops.length false) (s.fr,s.H) β S D a {w with drawn:=w.drawn+1} hany (by simp) (m4 (λ_ _=>.inl rfl) (λ_ h=>h) (λ_ h=>h) hkS _ _ hR.fr) hM' rfl (λi hi=>.inl (hR.lt i hi)) (hR.gl.later (λ_ h=>h) hkS) hR.rtD (Evo.below ⟨rfl,rfl,rfl,Nat.le_refl _,λ_ _=>rfl⟩) (λ_ _ _ h=>h)
  simpa using this
 ·rw[Nat.sub_zero]at p2 p5 p6 hk;refine⟨.panic v,_,hk,rfl,rfl,λβ S D a w hR Q hQ=>?_⟩;refine wp_region_any hm ?_;have hM':Mem β S D s.H {w with drawn:=w.drawn+1}:=hR.mem.below ⟨rfl,rfl,rfl,Nat.le_refl _,λ_ _=>rfl⟩;have hkS:Y4 S w {w with drawn:=w.drawn+1}:=λ_ _=>rfl
  have heff:∀j,j<lim->(rs.getD j (.junk,[])).2=[]:=λj hj=>by
   cases hr:rs[j]?with
   |none=>simp[List.getD,hr]
   |some r'=>rw[hgetD j r' hr];exact p5 j r' hj hr
  have hlim:lim<ops.length:=(List.getElem?_eq_some_iff.1 p2).1
  have hTI:∀j,j<=lim->W3 ops lim (s.fr,s.H) (Ts (s.fr,s.H) ops rs j):=by
   intro j
   induction j with
   |zero=>intro _;rw[hT0];exact⟨rfl,rfl,λ_ _=>rfl⟩
   |succ j ih=>
    intro hj;have hjl:j<ops.length:=by omega
    have hoj:ops[j]? =some ops[j]:=List.getElem?_eq_getElem hjl;obtain⟨r',hr'⟩:=hrs j _ hoj;rw[db1 ops rs _ j _ r' hoj hr'];exact(ih (by omega)).app (by omega) hoj (p5 j r' (by omega) hr')
  have hTl:=hTI lim (Nat.le_refl _)
  have:=gv0 (E:=E) (ops:=ops) (base:=s.nx) (p:=lim) (bits:=λi=>bs.getD i ⟨0,none⟩) (eff:=λi=>rs.getD i (.junk,[])) (T:=λi=>Ts (s.fr,s.H) ops rs i) (Q:=Q) (rt:=s.rt) (s0:=(s.fr,s.H)) (ds:=a.defers)
   p2 hDoes p6 (λj oj hj hoj=>p3 j oj hj (by simpa using hoj)) (λj oj hoj e he hb=>ck5 ops 0 (Array.replicate ops.length false) (by simp) (by simp) (λm hm=>by
    rcases Nat.lt_or_ge m ops.length with g|g<;>simp[g,Nat.not_lt.2]at hm
    all_goals omega) (by simpa using hB.2) j oj (Nat.zero_le _) hoj e he hb) heff (β0:=β) (S0:=S) (w0:=w)
   (λs2 β1 S1 D1 a1 w1 u β' S' w' hI h1 h2 h3 h4 h5 h6 h7 h8 r1 r2 r3 r4 r5=>by
    have hk1:=r4.kept h2;refine hQ β' S' (kY D1 (s.nx+lim*j2)) _ a1 w' ⟨u,rfl,r1,r2⟩ ⟨?_,?_,by rw[h3];exact hR.df,λi hi=>?_,h5.later r4.sub hk1,λi hi=>.inl (h6 i hi)⟩ (h7.trans r4) (λi bm hi hb=>?_)
    ·refine uQ (m4 r5 r4.sub (j9 _ _) hk1 _ _ h1) ?_ λt ht=>?_
     ·rw[xS,hTl.2.1,hI.2.1]
     ·rw[ch8];by_cases hx:∃o∈ops.take lim,o.dst=some t
      ·rw[if_pos hx];left;rw[xS]at ht;rw[List.getElem?_eq_getElem ht];rfl
      ·rw[if_neg hx];right;have hno:∀j oj,j<lim->ops[j]? =some oj->oj.dst≠some t:=λj oj hj hoj hd=>hx ⟨oj,List.mem_of_getElem? (i:=j) (by rw[List.getElem?_take_of_lt hj];exact hoj),hd⟩;rw[hTl.2.2 t hno,hI.2.2 t hno]
    ·rw[hTl.1,<-hI.1];exact r3
    ·rcases hi with hi| ⟨hi1,hi2⟩
     ·have:=h4 i hi;simpa using this
     ·have:(lim+1)*j2<=ops.length*j2:=Nat.mul_le_mul_right _ (by omega);rw[Nat.add_mul]at this;simp only[Nat.zero_add];omega
    ·rcases r5 i (h6 i hi)with e|e
     ·rw[e]at hb;exact h8 i bm hi hb
     ·rw[e]at hb;cases hb)
   ops.length (Array.replicate ops.length false) (s.fr,s.H) β S D a {w with drawn:=w.drawn+1} hany (by simp) (by simp[hlim]) (λm om hm hl=>by
    rcases Nat.lt_or_ge m ops.length with g|g<;>simp[g,Nat.not_lt.2]at hl
    all_goals omega) ⟨rfl,rfl,λ_ _=>rfl⟩ (m4 (λ_ _=>.inl rfl) (λ_ h=>h) (λ_ h=>h) hkS _ _ hR.fr) hM' rfl (λi hi=>.inl (hR.lt i hi)) (hR.gl.later (λ_ h=>h) hkS) hR.rtD (Evo.below ⟨rfl,rfl,rfl,Nat.le_refl _,λ_ _=>rfl⟩) (λ_ _ _ h=>h)
  simpa using this
end
end
end Go.Am
