/- Texts joined. -/
import Derived.WalkKit
import Derived.WalkLawsBesides
import Derived.WalkSpells
import Derived.Maps.AppendAt
import Derived.Deep.Quiet
import Derived.KernelRfl
import Derived.Below
import Derived.Laws.BytesArg
import Derived.Lib.ConvBytes
import Derived.Lib.AppendStr
/- An executor over a small abstract memory. Generic: no program is named. -/
set_option linter.unusedSimpArgs false
set_option linter.unusedVariables false
set_option linter.unusedSimpArgs false
set_option linter.unusedVariables false
namespace Go.Am
open Go
inductive V where
 |junk
 |sc (v:Value)
 |agg (cs:List V)
 |tup (vs:List V)
 |ptr (i o:Nat)
 |ep (i k j o:Nat)
 |rp (cs:List V)
 |sl (i k o l:Nat)
 |ro (k n:Nat) (f:Nat→List V)
 |fn (f:FuncId) (cs:List V)
 |mp (i:Nat)
 |ifc (t:TypeId) (v:V)
 |bf (f:FuncId) (fs cs:List V)
instance:Inhabited V:=⟨.junk⟩
inductive Chunk where
 |blk (cs:List V)
 |row (e:TypeId) (k n:Nat) (f:Nat→List V)
 |iter (s:ByteArray) (p:Nat)
 |map (es:List (Int×V))
 |smap (n:Nat) (has:ByteArray→Bool) (f:ByteArray→V)
 |tbk (t:TypeId) (cs:List V)
instance:Inhabited Chunk:=⟨.blk []⟩
abbrev Hp:=Nat→Option Chunk
def hp(l:List (Option Chunk)):Hp:=fun i=>l.getD i none
def upd{α:Type}(h:Nat→Option α)(i:Nat)(c:Option α):Nat→Option α:=fun j=>if j=i then c else h j
def n7(h:Hp):List (Nat×Option Chunk)→Hp
 | []=>h
 | (i,c)::l=>n7 (upd h i c) l
structure St where
 fr:List V
 H:Hp
 nx:Nat
 rt:Nat
 me:FuncId
mutual
def V.ids:V→List Nat
 | .ptr i _=>[i]
 | .ep i _ _ _=>[i]
 | .sl i _ _ _=>[i]
 | .mp i=>[i]
 | .agg cs=>cS cs
 | .tup cs=>cS cs
 | .fn _ cs=>cS cs
 | .ifc _ v=>v.ids
 | .bf _ fs cs=>cS fs++cS cs
 |_=>[]
def cS:List V→List Nat
 | []=>[]
 |v::l=>v.ids++cS l
end
def Chunk.ids:Chunk→List Nat
 | .blk cs=>cS cs
 | .tbk _ cs=>cS cs
 |_=>[]
mutual
def V.ren(r:Nat→Option Nat):V→V
 | .ptr i o=>match r i with|some i=>.ptr i o|none=>.junk
 | .ep i k j o=>match r i with|some i=>.ep i k j o|none=>.junk
 | .sl i k o l=>match r i with|some i=>.sl i k o l|none=>.junk
 | .mp i=>match r i with|some i=>.mp i|none=>.junk
 | .agg cs=>.agg (ab8 r cs)
 | .tup cs=>.tup (ab8 r cs)
 | .fn f cs=>.fn f (ab8 r cs)
 | .ifc t v=>.ifc t (v.ren r)
 | .bf f fs cs=>.bf f (ab8 r fs) (ab8 r cs)
 |v=>v
def ab8(r:Nat→Option Nat):List V→List V
 | []=>[]
 |v::l=>v.ren r::ab8 r l
end
def Chunk.ren(r:Nat→Option Nat):Chunk→Chunk
 | .blk cs=>.blk (ab8 r cs)
 | .tbk t cs=>.tbk t (ab8 r cs)
 |c=>c
mutual
def V.pure:V→Bool
 | .sc _=>true
 | .agg cs=>j7 cs
 | .tup cs=>j7 cs
 | .fn _ cs=>j7 cs
 | .ifc _ v=>v.pure
 | .bf _ fs cs=>j7 fs&&j7 cs
 | .ro _ _ _=>true
 | .rp _=>true
 |_=>false
def j7:List V→Bool
 | []=>true
 |v::l=>v.pure&&j7 l
end
mutual
def V.toVal:V→Option Value
 | .sc v=>some v
 | .agg cs=>(wD cs).map fun l=>.agg l.toArray
 | .tup cs=>(wD cs).map fun l=>.tuple l.toArray
 | .fn f cs=>(wD cs).map fun l=>.func (.func f) #[] l.toArray
 | .ifc t v=>v.toVal.map (.iface t)
 | .bf f fs cs=>match wD fs,wD cs with|some l,some m=>some (.func (.func f) l.toArray m.toArray) |_,_=>none
 |_=>none
def wD:List V→Option (List Value)
 | []=>some []
 |v::l=>match v.toVal,wD l with|some x,some xs=>some (x::xs) |_,_=>none
end
def kX:Value→V
 | .agg cs=>if cs.toList.all Value.oneCell'=true then .agg (cs.toList.map .sc)else .junk
 |v=>.sc v
def er0:Value→V
 | .tuple vs=>.tup (vs.toList.map kX)
 |v=>kX v
def V.one:V→Bool
 | .agg _=>false
 | .tup _=>false
 | .junk=>false
 | .sc v=>v.oneCell'
 |_=>true
def V.cells:V→List V
 | .agg cs=>cs
 |v=>[v]
def V.sc1:V→Bool
 | .sc _=>true
 |_=>false
def V.sc2:V→Bool
 | .sc _=>true
 | .agg cs=>cs.all V.sc1
 |_=>false
def V.scal:V→Bool
 | .tup cs=>cs.all V.sc2
 |v=>v.sc2
def rI(P:Program){α:Type}:Sem α→Option α
 | .pure a=>some a
 | .program k=>rI P (k P)
 | .mark _ k=>rI P k
 |_=>none
def dd3(P:Program)(t:TypeId):Option Bool:=match P.underlying t with|some (.struct _)=>some true|some (.array _ _)=>some true|some _=>some false|none=>none
def szP(P:Program)(t:TypeId):Option Nat:=(P.info? t).map (·.size)
def gH(P:Program)(t:TypeId):Bool:=match P.underlying t with|some .string=>true|_=>false
def jG(P:Program)(t:TypeId):Option TypeId:=match P.underlying t with|some (.slice e)=>some e|_=>none
def dy3(P:Program)(t:TypeId):Option (Nat×TypeId):=match P.underlying t with|some (.array n e)=>some (n,e) |_=>none
def dz4(P:Program)(t:TypeId)(f:Nat):Option (Nat×TypeId):=match P.underlying t with|some (.struct fs)=>(fs[f]?).map fun f=>(f.offset,f.type) |_=>none
def av6(P:Program)(t:TypeId):Option (List V):=(P.info? t).bind fun i=>i.zero.map fun z=>z.cells.toList.map .sc
def ca5(P:Program)(t:TypeId):Option Nat:=(P.info? t).map (·.bytes)
def seg(P:Program)(t:TypeId)(cs:List V)(o:Nat):Option V:=
 match dd3 P t with
 |some true=>match szP P t with
  |some n=>if o+n≤cs.length then some (.agg ((cs.drop o).take n))else none
  |none=>none
 |some false=>cs[o]?
 |none=>none
def nR(cs:List V)(o:Nat)(vs:List V):List V:=cs.take o++vs++cs.drop (o+vs.length)
inductive Res where
 | val (v : V) (us : List (Nat × Option Chunk))
 | call (f : FuncId) (args : List V)
 | pan (v : V) (us : List (Nat × Option Chunk))
 /-- To be called at the end, with what it holds. -/
 | dfr (f : FuncId) (cs : List V)
inductive Ex where
 |normal
 |exit (id:Nat)
 |ret
 |panic (v:V)
inductive CRes where
 |ret (v:V) (L:List (Option Chunk))
 |pan (v:V)
inductive Ans where
 |c (r:CRes)
 |l (e:Ex) (s:St)
def fe3(x:Value)(k:Value→Option Ans):Option Ans:=
 match x with
 | .int a b=>k (.int a b)
 | .bool b=>k (.bool b)
 | .string s=>k (.string s)
 |x=>k x
mutual
def fV:V→(V→Option Ans)→Option Ans
 | .junk,k=>k .junk
 | .sc x,k=>fe3 x fun x=>k (.sc x)
 | .agg cs,k=>fL cs fun cs=>k (.agg cs)
 | .tup cs,k=>fL cs fun cs=>k (.tup cs)
 | .ptr i o,k=>k (.ptr i o)
 | .ep i c j o,k=>k (.ep i c j o)
 | .rp cs,k=>fL cs fun cs=>k (.rp cs)
 | .sl i c o l,k=>k (.sl i c o l)
 | .ro c n f,k=>k (.ro c n f)
 | .fn f cs,k=>fL cs fun cs=>k (.fn f cs)
 | .mp i,k=>k (.mp i)
 | .ifc t v,k=>fV v fun v=>k (.ifc t v)
 | .bf f fs cs,k=>fL fs fun fs=>fL cs fun cs=>k (.bf f fs cs)
def fL:List V→(List V→Option Ans)→Option Ans
 | [],k=>k []
 |v::l,k=>fV v fun v=>fL l fun l=>k (v::l)
end
def fLL:List (List V)→(List (List V)→Option Ans)→Option Ans
 | [],k=>k []
 |l::ls,k=>fL l fun l=>fLL ls fun ls=>k (l::ls)
def fC(c:Option Chunk)(k:Option Chunk→Option Ans):Option Ans:=
 match c with
 |none=>k none
 |some (.blk cs)=>fL cs fun cs=>k (some (.blk cs))
 |some (.row e c n f)=>k (some (.row e c n f))
 |some (.iter s p)=>k (some (.iter s p))
 |some (.map es)=>k (some (.map es))
 |some (.smap n g f)=>k (some (.smap n g f))
 |some (.tbk t cs)=>fL cs fun cs=>k (some (.tbk t cs))
def fCL:List (Option Chunk)→(List (Option Chunk)→Option Ans)→Option Ans
 | [],k=>k []
 |c::l,k=>fC c fun c=>fCL l fun l=>k (c::l)
def fU:List (Nat×Option Chunk)→(List (Nat×Option Chunk)→Option Ans)→Option Ans
 | [],k=>k []
 | (i,c)::l,k=>fC c fun c=>fU l fun l=>k ((i,c)::l)
def fNL:List Nat→(List Nat→Option Ans)→Option Ans
 | [],k=>k []
 |i::l,k=>fNL l fun l=>k (i::l)
def setK:List V→Nat→V→(List V→Option Ans)→Option Ans
 | [],_,_,k=>k []
 |_::l,0,v,k=>k (v::l)
 |x::l,t+1,v,k=>setK l t v fun l=>k (x::l)
def fi0(fr:List V)(d:Option Tmp)(v:V)(k:List V→Option Ans):Option Ans:=
 match d with
 |some t=>setK fr t v k
 |none=>k fr
def V.bw1(get:Hp):V→V
 | .sl i z o l=>match get i with|some (.row _ k n f)=>if o+l≤n∧z=k then .ro k l (fun j=>f (o+j))else .junk|_=>.junk
 |v=>v
def V.bw2(get:Hp):V→V
 | .agg cs=>.agg (cs.map (·.bw1 get))
 |v=>v.bw1 get
def V.bw(get:Hp):V→V
 | .tup cs=>.tup (cs.map (·.bw2 get))
 |v=>v.bw2 get
def ca1(get:Hp)(v:V)(k:V→Option Ans):Option Ans:=
 match v with
 | .sl i z o l=>match get i with|some (.row _ c n f)=>if o+l≤n∧z=c then k (.ro c l (fun j=>f (o+j)))else none|_=>none
 |v=>k v
def bq2(get:Hp):List V→(List V→Option Ans)→Option Ans
 | [],k=>k []
 |v::l,k=>ca1 get v fun v=>bq2 get l fun l=>k (v::l)
def eu2(get:Hp)(v:V)(k:V→Option Ans):Option Ans:=
 match v with
 | .agg cs=>bq2 get cs fun cs=>k (.agg cs)
 |v=>ca1 get v k
def ej2(get:Hp):List V→(List V→Option Ans)→Option Ans
 | [],k=>k []
 |v::l,k=>eu2 get v fun v=>ej2 get l fun l=>k (v::l)
def bwK(get:Hp)(v:V)(k:V→Option Ans):Option Ans:=
 match v with
 | .tup cs=>ej2 get cs fun cs=>k (.tup cs)
 |v=>eu2 get v k
def ff8(get:Hp):List V→(List V→Option Ans)→Option Ans
 | [],k=>k []
 |v::l,k=>bwK get v fun v=>ff8 get l fun l=>k (v::l)
def nW:V→List (Nat×Option Chunk)
 | .sl i _ _ _=>[(i,none)]
 |_=>[]
def aw1:V→List (Nat×Option Chunk)
 | .agg cs=>cs.flatMap nW
 |v=>nW v
def yN:V→List (Nat×Option Chunk)
 | .tup cs=>cs.flatMap aw1
 |v=>aw1 v
def fzL(get:Hp)(l:List V):List V:=l.map (·.bw1 get)
def fzU(l:List V):List (Nat×Option Chunk):=l.flatMap nW
def bh4:V→Option Int
 | .sc (.int _ n)=>some n
 |_=>none
def kM(ev:Operand→V)(ps:List (Nat×Operand))(i:Nat):List V:=
 match ps[i]?with
 |some p=>(ev p.2).cells
 |none=>[]
def am4(k n:Nat)(f:Nat→List V):Bool:=(List.range n).all fun i=>(f i).length==k&&j7 (f i)&&(f i).all V.one
def ah5(P:Program)(z:List V)(place:Nat→Option (Nat×Nat))(ev:Operand→V):List (Nat×Operand)→Option (List V)
 | []=>some z
 | (i,x)::ps=>
  match place i with
  |some (o,n)=>if(ev x).cells.length=n∧o+n≤z.length∧(ev x).cells.all V.one=true then ah5 P (nR z o (ev x).cells) place ev ps else none
  |none=>none
def d7:Nat:=16
def d9:Nat:=140737488355328
abbrev KR:=Res→Option Ans
def aH(P:Program)(o:Oper)(ev:Operand→V)(k:KR):Option Ans:=
 match o.op.operands.toList.all (fun x=>((ev x).toVal).isSome)with
 |true=>match rI P (execOp (fun x=>((ev x).toVal).getD undef) o)with
  |some (.value v)=>k (.val (er0 v) [])
  |some (.enter f args)=>k (.call f (args.toList.map kX))
  |_=>none
 |false=>none
def az0(c a b:V)(k:KR):Option Ans:=
 match c with
 | .sc (.bool t)=>if t then k (.val a [])else k (.val b [])
 |_=>none
def es8(P:Program)(t:TypeId):Bool:=match P.underlying t with
 |some (.struct fs)=>match fs[0]?with
  |some f=>match P.underlying f.type with
   |some (.pointer u)=>u==t
   |some (.struct gs)=>match gs[0]?with
    |some g=>match P.underlying g.type with|some (.pointer u)=>u==f.type|_=>false
    |none=>false
   |_=>false
  |none=>false
 |_=>false
def aj1(P:Program)(t:TypeId)(new:Nat)(k:KR):Option Ans:=
 match av6 P t with
 |some cs=>if cs.all V.one then(match es8 P t with|true=>k (.val (.ptr new 0) [(new,some (.tbk t cs))]) |false=>k (.val (.ptr new 0) [(new,some (.blk cs))]))else none
 |none=>none
def dc5(x:V)(new:Nat)(k:KR):Option Ans:=
 if x.cells.all V.one then k (.val (.ptr new 0) [(new,some (.blk x.cells))])else none
def yW(P:Program)(t:TypeId)(x:V)(get:Hp)(k:KR):Option Ans:=
 match x with
 | .ptr i o=>match get i with
  |some (.blk cs)=>match seg P t cs o with|some v=>k (.val v []) |none=>none
  |some (.tbk _ cs)=>match seg P t cs o with|some v=>k (.val v []) |none=>none
  |_=>none
 | .ep i z j o=>match get i with
  |some (.row _ c n f)=>if j<n∧z=c then(match seg P t (f j) o with|some v=>k (.val v []) |none=>none)else none
  |_=>none
 | .rp cs=>match seg P t cs 0 with|some v=>k (.val v []) |none=>none
 |_=>none
def ar1(c:Prop)[Decidable c](v u:V):V:=
 match v,u with
 | .sc (.int k a),.sc (.int k' b)=>if k=k' then .sc (.int k (ite c a b))else ite c v u
 | .sc (.bool a),.sc (.bool b)=>.sc (.bool (ite c a b))
 | .sc (.string a),.sc (.string b)=>.sc (.string (ite c a b))
 | .ro k n f,.ro k' n' f'=>if k=k' then .ro k (ite c n n') (fun j=>ite c (f j) (f' j))else ite c v u
 |_,_=>ite c v u
def sQ(c:Prop)[Decidable c]:List V→List V→List V
 | [],m=>m
 |v::l,u::m=>ar1 c v u::sQ c l m
 |v::l,[]=>ite c (v::l) []
theorem an7(c:Prop)[Decidable c](v u:V):ar1 c v u=if c then v else u:=by
 unfold ar1
 split
 ·split
  ·rename_i k a k' b h
   subst h
   split<;>rfl
  ·rfl
 ·split<;>rfl
 ·split<;>rfl
 ·split
  ·rename_i k n f k' n' f' h
   subst h
   split<;>rfl
  ·rfl
 ·rfl
theorem sU(c:Prop)[Decidable c]:∀(l m:List V),sQ c l m=if c then l++m.drop l.length else m
 | [],m=>by rw[sQ];split<;>simp
 |v::l,u::m=>by
  rw[sQ,sU c l m,an7]
  split<;>simp
 |v::l,[]=>by rw[sQ];split<;>simp
def cz2(c:Prop)[Decidable c]:Nat→List V→List V→List V
 |0,ys,l=>sQ c ys l
 |o+1,ys,x::l=>x::cz2 c o ys l
 |_+1,ys,[]=>sQ c ys []
theorem dp0(c:Prop)[Decidable c]:∀(o:Nat) (ys l:List V),cz2 c o ys l=l.take o++sQ c ys (l.drop o)
 |0,ys,l=>by simp[cz2]
 |o+1,ys,x::l=>by rw[cz2,dp0 c o ys l];simp
 |o+1,ys,[]=>by simp[cz2]
def fm2(pb:Bool)(j o:Nat)(ys:List V)(f:Nat→List V):Nat→List V:=match pb with|true=>fun h=>cz2 (h=j) o ys (f h) |false=>fun h=>if h=j then nR (f j) o ys else f h
theorem fa2(pb:Bool)(j o:Nat)(ys:List V)(f:Nat→List V):fm2 pb j o ys f=fun h=>if h=j then nR (f j) o ys else f h:=by
 cases pb with
 |false=>rfl
 |true=>
 funext h
 show cz2 (h=j) o ys (f h)=_
 unfold nR
 rw[dp0,sU]
 by_cases hj:h=j
 ·subst hj;rw[if_pos rfl,if_pos rfl,List.drop_drop,List.append_assoc]
 ·rw[if_neg hj,if_neg hj,List.take_append_drop]
def al6(P:Program)(pb:Bool)(t:TypeId)(x y:V)(get:Hp)(k:KR):Option Ans:=
 match szP P t with
 |some n=>
  if y.cells.length=n∧y.cells.all V.one=true then
   match x with
   | .ptr i o=>match get i with
    |some (.blk cs)=>if o+n≤cs.length then k (.val (.sc undef) [(i,some (.blk (nR cs o y.cells)))])else none
    |some (.tbk T cs)=>if o+n≤cs.length then k (.val (.sc undef) [(i,some (.tbk T (nR cs o y.cells)))])else none
    |_=>none
   | .ep i z j o=>match get i with
    |some (.row e kk m f)=>
     if j<m∧z=kk then
      if o+n≤(f j).length∧j7 (fzL get y.cells)=true∧(fzU y.cells).all (fun u=>u.1 !=i)=true then
       fL (fzL get y.cells) fun ys=>k (.val (.sc undef) (fzU y.cells++[(i,some (.row e kk m (fm2 pb j o ys f)))]))
      else none
     else none
    |_=>none
   |_=>none
  else none
 |none=>none
def qR(get:Hp)(i:Nat)(k:Option Ans):Option Ans:=match get i with|some _=>k|none=>none
def jM(P:Program)(t:TypeId)(x:V)(f:Nat)(get:Hp)(k:KR):Option Ans:=
 match dz4 P t f with
 |some (p,u)=>
  match szP P u with
  |some (_+1)=>
   match x with
   | .ptr i o=>qR get i (k (.val (.ptr i (o+p)) []))
   | .ep i z j o=>qR get i (k (.val (.ep i z j (o+p)) []))
   | .rp cs=>k (.val (.rp (cs.drop p)) [])
   |_=>none
  |_=>none
 |none=>none
def bp8(n:Int):Nat→Nat→(Nat→Option Ans)→Option Ans
 |0,_,_=>none
 |m+1,j,k=>if n=(j:Int)then k j else bp8 n m (j+1) k
def oI(P:Program)(t:TypeId)(x y:V)(get:Hp)(k:KR):Option Ans:=
 match bh4 y with
 |some n=>
  match x with
  | .sl i z o l=>match jG P t with
   |some e=>if szP P e=some z then(if 0≤n∧n<l then qR get i (k (.val (.ep i z (o+n.toNat) 0) []))else none)else none
   |none=>none
  | .ro z l f=>match jG P t with
   |some e=>if szP P e=some z then(if 0≤n∧n<l then k (.val (.rp (f n.toNat)) [])else none)else none
   |none=>none
  | .ptr i o=>match dy3 P t with
   |some (l,e)=>match szP P e with
    |some z=>bp8 n l 0 fun j=>qR get i (k (.val (.ptr i (o+j*z)) []))
    |none=>none
   |none=>none
  | .ep i w j o=>match dy3 P t with
   |some (l,e)=>match szP P e with
    |some z=>if 0≤n∧n<l then qR get i (k (.val (.ep i w j (o+n.toNat*z)) []))else none
    |none=>none
   |none=>none
  | .rp cs=>match dy3 P t with
   |some (l,e)=>match szP P e with
    |some z=>if 0≤n∧n<l then k (.val (.rp (cs.drop (n.toNat*z))) [])else none
    |none=>none
   |none=>none
  |_=>none
 |none=>none
def yR(P:Program)(t:TypeId)(x:V)(l h:Option Int)(get:Hp)(k:KR):Option Ans:=
 match l,h with
 |some l,some h=>
  match x with
  | .sl i z o n=>match jG P t with
   |some e=>if szP P e=some z then(if 0≤l∧l≤h∧h≤n then qR get i (k (.val (.sl i z (o+l.toNat) (h.toNat-l.toNat)) []))else none)else none
   |none=>none
  | .ro z n f=>match jG P t with
   |some e=>if szP P e=some z then(if 0≤l∧l≤h∧h≤n then k (.val (.ro z (h.toNat-l.toNat) (fun j=>f (l.toNat+j))) [])else none)else none
   |none=>none
  | .sc (.string s)=>if gH P t=true then(if 0≤l∧l≤h∧h≤s.size then k (.val (.sc (.string (s.extract l.toNat h.toNat))) [])else none)else none
  |_=>none
 |_,_=>none
def dt9:V→Option Int
 | .sl _ _ _ n=>some n
 | .ro _ n _=>some n
 | .sc (.string s)=>some s.size
 | .sc (.slice none 0 0)=>some 0
 |_=>none
def mP:List (List V)→Nat→List V
 | [],_=>[]
 | [e],_=>e
 |e::e'::l,i=>sQ (i=0) e (mP (e'::l) (i-1))
def eo4(pr:Bool)(els:List (List V)):Nat→List V:=match pr with|true=>mP els|false=>fun i=>els.getD i []
theorem cj0{c:Nat}:∀{els:List (List V)} (i:Nat),els≠[]→(∀e∈els,e.length=c)→(mP els i).length=c
 | [],_,h,_=>absurd rfl h
 | [e],_,_,h=>h e (by simp)
 |e::e'::l,i,_,h=>by
  have h1:=cj0 (els:=e'::l) (i-1) (by simp) fun x hx=>h x (.tail _ hx)
  have h0:=h e (.head _)
  rw[mP,sU]
  split
  ·rw[List.length_append,List.length_drop];omega
  ·exact h1
theorem es6{pr:Bool}{c:Nat}:∀{els:List (List V)} {i:Nat},i<els.length→(∀e∈els,e.length=c)→eo4 pr els i=els.getD i []:=by
 cases pr with
 |false=>intro els i _ _;rfl
 |true=>
  show∀{els:List (List V)} {i:Nat},i<els.length→(∀e∈els,e.length=c)→mP els i=els.getD i []
  intro els
  induction els with
  |nil=>intro i h;simp at h
  |cons e l ih=>
   intro i hi h
   cases l with
   |nil=>
    have:i=0:=by simp at hi;omega
    subst this;rfl
   |cons e' l=>
    rw[mP,sU]
    by_cases h0:i=0
    ·subst h0
     have h1:=cj0 (c:=c) (els:=e'::l) 0 (by simp) fun x hx=>h x (.tail _ hx)
     have h2:=h e (.head _)
     simp only[if_true]
     rw[List.drop_of_length_le (by rw[h1,h2];omega),List.append_nil]
     rfl
    ·rw[if_neg h0]
     obtain⟨k,rfl⟩:∃k,i=k+1:=⟨i-1,by omega⟩
     rw[Nat.add_sub_cancel]
     exact ih (by simpa using hi) fun x hx=>h x (.tail _ hx)
def bc6(get:Hp):List (List V)→(List (List V)→Option Ans)→Option Ans
 | [],k=>k []
 |l::ls,k=>bq2 get l fun l=>bc6 get ls fun ls=>k (l::ls)
def gR(P:Program)(pr:Bool)(t:TypeId)(n:Nat)(ps:List (Nat×Operand))(ev:Operand→V)(get:Hp)(new:Nat)(k:KR):Option Ans:=
 match jG P t with
 |some e=>
  match szP P e with
  |some c=>
   bc6 get ((List.range n).map fun i=>kM ev ps i) fun els=>
   if am4 c n (fun i=>els.getD i [])=true∧ps.all (fun p=>(ev p.2).cells.all V.one)=true∧0<c∧n*c≤16777216∧ps.map (·.1)=List.range n∧(av6 P e).isSome=true then
    fLL els fun els=>k (.val (.sl new c 0 n) (fzU (ps.flatMap fun p=>(ev p.2).cells)++[(new,some (.row e c n (eo4 pr els)))]))
   else none
  |none=>none
 |none=>none
def oF(P:Program)(t:TypeId)(x y:V)(new:Nat)(k:KR):Option Ans:=
 match bh4 x,bh4 y with
 |some n,some m=>
  match jG P t with
  |some e=>
   match szP P e,av6 P e,ca5 P e with
   |some c,some z,some b=>if n=m∧0≤n∧0<c∧z.length=c∧n.toNat*b≤281474976710656∧n.toNat≤maxLen∧am4 c 1 (fun _=>z)=true then k (.val (.sl new c 0 n.toNat) [(new,some (.row e c n.toNat (fun _=>z)))])else none
   |_,_,_=>none
  |none=>none
 |_,_=>none
def ba1(x:V)(get:Hp)(k:KR):Option Ans:=
 match x with
 | .ptr i o=>match get i with
  |some (.iter s p)=>
   if o=0 then
    if p<s.size then k (.val (.tup [.sc (.bool true),.sc (.int .i64 p),.sc (.int .i32 (Utf8.decode s p).1)]) [(i,some (.iter s (p+(Utf8.decode s p).2)))])
    else k (.val (.tup [.sc (.bool false)]) [])
   else none
  |_=>none
 |_=>none
def kI(get:Hp):V→Option (Nat×Nat×(Nat→List V))
 | .sl i z o l=>match get i with|some (.row _ c n f)=>if o+l≤n∧z=c then some (c,l,fun j=>f (o+j))else none|_=>none
 | .ro c n f=>some (c,n,f)
 | .sc (.slice none 0 0)=>some (0,0,fun _=>[])
 |_=>none
def aq1(P:Program)(e:TypeId)(c:Nat):Bool:=match P.info? e with|some i=>(match i.zero with|some z=>z.cells.size==c|none=>false) |none=>false
def af4(c:Prop)[Decidable c]:List V→List V→List V
 | [],[]=>[]
 | [],u::m=>ite c [] (u::m)
 |v::l,u::m=>ar1 c v u::af4 c l m
 |v::l,[]=>ite c (v::l) []
theorem bo8(c:Prop)[Decidable c]:∀(l m:List V),af4 c l m=if c then l else m
 | [],[]=>by rw[af4];split<;>rfl
 | [],u::m=>by rw[af4]
 |v::l,u::m=>by
  rw[af4,bo8 c l m,an7]
  split<;>rfl
 |v::l,[]=>by rw[af4]
def fn2(n:Nat)(f g:Nat→List V):Nat→List V:=fun j=>af4 (j<n) (f j) (g (j-n))
def bq7(n:Nat)(f g:Nat→List V):Nat→List V:=fun j=>if j<n then f j else g (j-n)
def cr8(pr:Bool)(m n:Nat)(f g:Nat→List V):Nat→List V:=match pr with
 |false=>bq7 n f g
 |true=>match f 0 with
  | []=>g
  |_::_=>match g 0 with
   | []=>f
   |_::_=>fn2 n f g
theorem ct2{pr:Bool}{m n c:Nat}{f g:Nat→List V}(hc:0<c)(hf:∀j,j<n→(f j).length=c)(hg:∀j,j<m→(g j).length=c){j:Nat}(hj:j<n+m):cr8 pr m n f g j=bq7 n f g j:=by
 unfold cr8 bq7
 cases pr with
 |false=>rfl
 |true=>
  simp only
  cases hf0:f 0 with
  |nil=>
   have:n=0:=by
    rcases Nat.eq_zero_or_pos n with h0|h0
    ·exact h0
    ·have:=hf 0 h0;rw[hf0]at this;simp at this;omega
   subst this
   simp
  |cons x l=>
   cases hg0:g 0 with
   |nil=>
    have:m=0:=by
     rcases Nat.eq_zero_or_pos m with h0|h0
     ·exact h0
     ·have:=hg 0 h0;rw[hg0]at this;simp at this;omega
    subst this
    simp only
    rw[if_pos (by omega)]
   |cons y l'=>exact bo8 _ _ _
def db3(P:Program)(pr:Bool)(e:TypeId)(c b:Nat)(x:V)(get:Hp)(new:Nat)(k:KR)(el:Option (Nat×Nat×(Nat→List V))):Option Ans:=
 match el with
 |some (c'',m,g)=>
  match x with
  | .sc (.slice none 0 0)=>
   if m=0 then k (.val (.sc (.slice none 0 0)) [])
   else if 0<c∧c''=c∧aq1 P e c=true then(if m*b≤d9∧m≤maxLen then k (.val (.sl new c 0 m) [(new,some (.row e c m g))])else none)else none
  | .sl i z o l=>match get i with
   |some (.row e' c' n f)=>
    if 0<c∧(c''=c∨m=0)∧e=e'∧c=c'∧o=0∧z=c∧aq1 P e c=true then
     (if(l+m)*b≤d9∧l+m≤maxLen∧l≤n then
      k (.val (.sl new c 0 (l+m)) [(i,none),(new,some (.row e c (l+m) (cr8 pr m l f g)))])else none)else none
   |_=>none
  |_=>none
 |none=>none
def aa0(P:Program)(pr:Bool)(t:TypeId)(x y:V)(get:Hp)(new:Nat)(k:KR):Option Ans:=
 match jG P t with
 |some e=>
  match szP P e,ca5 P e with
  |some c,some b=>ca1 get y fun y=>db3 P pr e c b x get new k (kI get y)
  |_,_=>none
 |none=>none
def di8(b:BinOp)(kd:IntKind)(x y:Int)(k:KR):Option Ans:=
 match b with
 | .quo=>if y=0 then none else k (.val (.sc (.int kd (kd.wrap (x.tdiv y)))) [])
 | .rem=>if y=0 then none else k (.val (.sc (.int kd (x.tmod y))) [])
 |_=>none
def fm8:BinOp→Bool
 | .quo=>true
 | .rem=>true
 |_=>false
def bp0(P:Program)(t:TypeId)(xs:List Value)(o:Nat):Option Value:=
 match dd3 P t with
 |some true=>match szP P t with|some n=>some (.agg ((xs.drop o).take n).toArray) |none=>none
 |some false=>xs[o]?
 |none=>none
def fb9:Value→Value→Option Bool
 | .int k a,.int k' b=>if k=k' then some (a==b)else none
 |_,_=>none
def fc7:Value→Value→Option Bool
 | .bool a,.bool b=>some (a==b)
 |_,_=>none
def fc3:Value→Value→Option Bool
 | .string a,.string b=>some (a.toList==b.toList)
 |_,_=>none
def eg6 (P : Program) (r : TypeId → Value → Value → Option Bool) (xs ys : List Value) : List Field → Option Bool
  | [] => some true
  | f :: fs => if f.name = "_" then eg6 P r xs ys fs else
    match bp0 P f.type xs f.offset, bp0 P f.type ys f.offset with
    | some a, some b => match r f.type a b, eg6 P r xs ys fs with
      | some p, some q => some (p && q)
      | _, _ => none
    | _, _ => none
def ey2(P:Program)(r:TypeId→Value→Value→Option Bool)(e:TypeId)(n:Nat)(xs ys:List Value):List Nat→Option Bool
 | []=>some true
 |i::is=>
  match bp0 P e xs (i*n),bp0 P e ys (i*n)with
  |some a,some b=>match r e a b,ey2 P r e n xs ys is with
   |some p,some q=>some (p&&q)
   |_,_=>none
  |_,_=>none
def eqP(P:Program):Nat→TypeId→Value→Value→Option Bool
 |0,_,_,_=>none
 |d+1,t,x,y=>match P.underlying t with
  |some .bool=>fc7 x y
  |some (.int _)=>fb9 x y
  |some .string=>fc3 x y
  |some (.struct fs)=>match x,y with
   | .agg xs,.agg ys=>if P.stoodInHeld t then none else eg6 P (eqP P d) xs.toList ys.toList fs.toList
   |_,_=>none
  |some (.array n e)=>match x,y with
   | .agg xs,.agg ys=>match szP P e with
    |some z=>ey2 P (eqP P d) e z xs.toList ys.toList (List.range n)
    |none=>none
   |_,_=>none
  |_=>none
def cl4(P:Program)(t:TypeId)(neg:Bool)(x y:V)(k:KR):Option Ans:=
 match x.toVal,y.toVal with
 |some u,some v=>if P.eqGuardType P.depth t then none else
  match eqP P 10000 t u v with
  |some b=>k (.val (.sc (.bool (if neg then !b else b))) [])
  |none=>none
 |_,_=>none
def orN:Nat→Nat→Nat→Nat
 |0,_,_=>0
 |f+1,a,b=>2*orN f (a/2) (b/2)+(if a%2=1∨b%2=1 then 1 else 0)
def orI(k:IntKind)(m n:Int):Int:=k.wrap (orN k.bits (m%2^k.bits).toNat (n%2^k.bits).toNat)
def dz9(k:IntKind)(n:Int):Nat:=(n%2^k.bits).toNat
def fh0(k:IntKind)(m n:Int):Int:=k.wrap (Nat.land (dz9 k m) (dz9 k n):Nat)
def fh9(k:IntKind)(m n:Int):Int:=k.wrap (Nat.xor (dz9 k m) (dz9 k n):Nat)
def fi9(k:IntKind)(x y:Int):Int:=k.wrap (x*2^min y.toNat k.bits)
def fg5(k:IntKind)(x y:Int):Int:=x.fdiv (2^min y.toNat k.bits)
def dt6(P:Program)(e:TypeId):Bool:=match P.underlying e with|some (.int .u8)=>true|_=>false
def u8c:List V→Bool
 | [.sc (.int .u8 _)]=>true
 |_=>false
def u8I:List V→Int
 | [.sc (.int .u8 x)]=>x
 |_=>0
def bv1(n:Nat)(f:Nat→List V):ByteArray:=strOfNums ((List.range n).map fun j=>u8I (f j))
def eg5(s:ByteArray):V:=.ro 1 s.size fun j=>[.sc (.int .u8 ((s.data.toList.getD j 0).toNat:Int))]
def am2(P:Program)(o:Oper)(ev:Operand→V)(src dst:TypeId)(x:V)(get:Hp)(k:KR):Option Ans:=
 match x with
 | .sc (.string s)=>match jG P dst with
  |some e=>if dt6 P e=true∧gH P src=true then(if s.size≤maxLen then k (.val (eg5 s) [])else none)else none
  |none=>aH P o ev k
 | .sc (.slice none 0 0)=>match jG P src with
  |some e=>if dt6 P e=true∧gH P dst=true then k (.val (.sc (.string (strOfNums []))) [])else none
  |none=>none
 | .ro c n f=>match jG P src with
  |some e=>if dt6 P e=true∧gH P dst=true∧c=1 then(if(List.range n).all (fun j=>u8c (f j))=true then k (.val (.sc (.string (bv1 n f))) [])else none)else none
  |none=>none
 | .sl i z o l=>match jG P src,get i with
  |some e,some (.row _ c n f)=>if dt6 P e=true∧gH P dst=true∧c=1∧z=c∧o+l≤n then(if(List.range l).all (fun j=>u8c (f (o+j)))=true then k (.val (.sc (.string (bv1 l fun j=>f (o+j)))) [])else none)else none
  |_,_=>none
 |_=>aH P o ev k
def da5(P:Program)(e:TypeId):Bool:=match P.info? e with|some i=>i.size==1&&i.bytes==1&&(match i.zero with|some (.int .u8 n)=>n==0|_=>false) |none=>false
def er6(s:ByteArray)(j:Nat):List V:=[.sc (.int .u8 ((s.data.toList.getD j 0).toNat:Int))]
def yX(P:Program)(pr:Bool)(t t':TypeId)(x y:V)(get:Hp)(new:Nat)(k:KR):Option Ans:=
 match y with
 | .sc (.string s)=>match jG P t with
  |some e=>if da5 P e=true∧gH P t'=true then db3 P pr e 1 1 x get new k (some (1,s.size,er6 s))else none
  |none=>none
 |_=>none
def ba4(P:Program)(t:TypeId):Bool:=match P.underlying t with|some (.func _ _ _)=>true|_=>false
def vD(P:Program)(t:TypeId):Option Bool:=match P.underlying t with|some (.interface _)=>some true|some _=>some false|none=>none
def bj7(P:Program)(o:Oper)(ev:Operand→V)(b:BinOp)(t:TypeId)(x y:V)(k:KR):Option Ans:=
 if fm8 b then
  match x,y with
  | .sc (.int kd m),.sc (.int kd' n)=>if kd=kd' then di8 b kd m n k else none
  |_,_=>none
 else
  match b,x,y with
  | .add,.sc (.string s),.sc (.string s')=>if s.size+s'.size≤maxLen then k (.val (.sc (.string (s++s'))) [])else none
  | .or,.sc (.int kd m),.sc (.int kd' n)=>if kd=kd' then k (.val (.sc (.int kd (orI kd m n))) [])else none
  | .and,.sc (.int kd m),.sc (.int kd' n)=>if kd=kd' then k (.val (.sc (.int kd (fh0 kd m n))) [])else none
  | .xor,.sc (.int kd m),.sc (.int kd' n)=>if kd=kd' then k (.val (.sc (.int kd (fh9 kd m n))) [])else none
  | .shl,.sc (.int kd m),.sc (.int _ n)=>if n<0 then none else k (.val (.sc (.int kd (fi9 kd m n))) [])
  | .shr,.sc (.int kd m),.sc (.int _ n)=>if n<0 then none else k (.val (.sc (.int kd (fg5 kd m n))) [])
  | .eql,.agg cs,.agg ds=>cl4 P t false (.agg cs) (.agg ds) k
  | .neq,.fn f cs,.sc .nilFunc=>if ba4 P t=true then k (.val (.sc (.bool true)) [])else none
  | .neq,.bf f fs cs,.sc .nilFunc=>if ba4 P t=true then k (.val (.sc (.bool true)) [])else none
  | .neq,.ifc d v,.sc .nilIface=>if vD P t=some true then k (.val (.sc (.bool true)) [])else none
  | .neq,.agg cs,.agg ds=>cl4 P t true (.agg cs) (.agg ds) k
  |_,_,_=>aH P o ev k
def xE(P:Program)(o:Oper)(ev:Operand→V)(t:TypeId)(x y:V)(k:KR):Option Ans:=
 match x,bh4 y with
 | .agg cs,some n=>match dy3 P t with
  |some (l,e)=>match szP P e with
   |some z=>if 0≤n∧n<l then(match seg P e cs (n.toNat*z)with|some v=>k (.val v []) |none=>none)else none
   |none=>none
  |none=>none
 | .sc (.string s),some n=>if gH P t=true then(if 0≤n∧n<s.size then k (.val (.sc (.int .u8 (s.data.toList.getD n.toNat 0).toNat)) [])else none)else none
 |_,_=>aH P o ev k
def xI(P:Program)(o:Oper)(ev:Operand→V)(t:TypeId)(x:V)(f:Nat)(k:KR):Option Ans:=
 match x with
 | .agg cs=>match dz4 P t f with
  |some (p,u)=>match seg P u cs p with|some v=>k (.val v []) |none=>none
  |none=>none
 |_=>aH P o ev k
def qP(P:Program)(o:Oper)(ev:Operand→V)(x:V)(n:Nat)(k:KR):Option Ans:=
 match x with
 | .tup vs=>match vs[n]?with|some v=>k (.val v []) |none=>none
 |_=>aH P o ev k
def dk1(P:Program)(fs:List Field):Option (List (Nat×Nat)):=fs.mapM (fun f=>(P.info? f.type).map fun i=>(f.offset,i.size))
def xJ(P:Program)(t:TypeId)(ps:List (Nat×Operand))(ev:Operand→V)(k:KR):Option Ans:=
 match av6 P t with
 |some z=>
  if z.all V.one then
  match P.underlying t with
  |some (.struct fs)=>match dk1 P fs.toList with
   |some pl=>match ah5 P z (fun i=>pl[i]?) ev ps with|some cs=>k (.val (.agg cs) []) |none=>none
   |none=>none
  |some (.array _ e)=>match szP P e with
   |some n=>match ah5 P z (fun i=>some (i*n,n)) ev ps with|some cs=>k (.val (.agg cs) []) |none=>none
   |none=>none
  |_=>none
  else none
 |none=>none
def bk9(P:Program)(t:TypeId):Option V:=
 match P.info? t with
 |some i=>match i.zero with
  |some v=>match kX v with
   | .junk=>none
   |z=>some z
  |none=>none
 |none=>none
inductive KT where|i|s
def dy1(P:Program)(t:TypeId):Option (KT×TypeId):=
 match P.underlying t with
 |some (.map k e)=>match P.underlying k with
  |some (.int .i64)=>some (.i,e)
  |some .string=>some (.s,e)
  |_=>none
 |_=>none
def ap6(c:Prop)[Decidable c](v u:V):V:=
 match v,u with
 | .agg l,.agg m=>if l.length=m.length then .agg (sQ c l m)else ite c (.agg l) (.agg m)
 |v,u=>ar1 c v u
theorem ar2(c:Prop)[Decidable c](v u:V):ap6 c v u=if c then v else u:=by
 unfold ap6
 split
 ·rename_i l m
  split
  ·rename_i h
   rw[sU]
   by_cases hc:c
   ·rw[if_pos hc,if_pos hc,List.drop_of_length_le (by omega),List.append_nil]
   ·rw[if_neg hc,if_neg hc]
  ·rfl
 ·exact an7 c _ _
def vU(P:Program)(t:TypeId)(new:Nat)(k:KR):Option Ans:=
 match dy1 P t with
 |some (.i,_)=>k (.val (.mp new) [(new,some (.map []))])
 |some (.s,e)=>match bk9 P e with
  |some z=>k (.val (.mp new) [(new,some (.smap 0 (fun _=>false) (fun _=>z)))])
  |none=>none
 |none=>none
def nL(ok:Bool)(b:Bool)(v:V)(k:KR):Option Ans:=match ok with|true=>k (.val (.tup [v,.sc (.bool b)]) []) |false=>k (.val v [])
def bp4(ok:Bool)(z:V)(n:Int)(k:KR):List (Int×V)→Option Ans
 | []=>nL ok false z k
 | (m,v)::l=>if n=m then nL ok true v k else bp4 ok z n k l
def zH(P:Program)(t:TypeId)(x y:V)(ok:Bool)(get:Hp)(k:KR):Option Ans:=
 match dy1 P t with
 |some (kt,e)=>match bk9 P e with
  |some z=>match x with
   | .mp i=>match get i with
    |some (.map es)=>match kt,y with
     | .i,.sc (.int .i64 n)=>bp4 ok z n k es
     |_,_=>none
    |some (.smap _ g f)=>match kt,y with
     | .s,.sc (.string s)=>nL ok (g s) (ap6 (g s=true) (f s) z) k
     |_,_=>none
    |_=>none
   |_=>none
  |none=>none
 |none=>none
def pE(P:Program)(t:TypeId)(x y v:V)(get:Hp)(k:KR):Option Ans:=
 match dy1 P t with
 |some (kt,_)=>if v.pure then
  match x with
   | .mp i=>match get i with
    |some (.map es)=>match kt,y with
     | .i,.sc (.int .i64 n)=>if es.all (fun p=>p.1 !=n)then k (.val (.sc undef) [(i,some (.map (es++[(n,v)])))])else none
     |_,_=>none
    |some (.smap m g f)=>match kt,y with
     | .s,.sc (.string s)=>k (.val (.sc undef) [(i,some (.smap (if g s=true then m else m+1) (fun q=>(q==s)||g q) (fun q=>ap6 ((q==s)=true) v (f q))))])
     |_,_=>none
    |_=>none
   |_=>none
  else none
 |none=>none
def oM(P:Program)(t:TypeId)(x:V)(k:KR):Option Ans:=
 match vD P t with
 |some false=>k (.val (.ifc t x) [])
 |_=>none
def aa7(P:Program)(x:V)(t:TypeId)(ok:Bool)(k:KR):Option Ans:=
 match vD P t with
 |some false=>match x with
  | .ifc d v=>if d=t then nL ok true v k else(match ok,bk9 P t with|true,some z=>nL true false z k|_,_=>none)
  | .sc .nilIface=>match ok,bk9 P t with|true,some z=>nL true false z k|_,_=>none
  |_=>none
 |_=>none
def al7(x:V)(k:KR):Option Ans:=match x with| .ifc t v=>if v.pure then k (.pan (.ifc t v) [])else none|_=>none
def ar6(P:Program)(o:Oper)(ev:Operand→V)(x:V)(get:Hp)(k:KR):Option Ans:=
 match x with
 | .ptr i p=>qR get i (k (.val (.ptr i p) []))
 | .ep i z j p=>qR get i (k (.val (.ep i z j p) []))
 | .fn f cs=>k (.val (.fn f cs) [])
 |_=>aH P o ev k
def cr2(o q:Nat)(g f:Nat→List V):Nat→List V:=fun j=>if o≤j∧j<o+q then g (j-o)else f j
def cs5(pr:Bool)(o q:Nat)(g f:Nat→List V):Nat→List V:=match pr with
 |false=>cr2 o q g f
 |true=>fun j=>[ap6 (o≤j∧j<o+q) ((g (j-o)).getD 0 .junk) ((f j).getD 0 .junk)]
def az6(P:Program)(pr:Bool)(t:TypeId)(x y:V)(get:Hp)(k:KR):Option Ans:=
 match jG P t with
 |some e=>match szP P e with
  |some s=>match x with
   | .sl i z o l=>match get i with
    |some (.row e' c n f)=>match kI get y with
     |some (c',m,g)=>if s=1∧z=c∧c=1∧(c'=1∨m=0)∧o+l≤n then k (.val (.sc (.int .i64 (min m l:Nat))) [(i,some (.row e' c n (cs5 pr o (min m l) g f)))])else none
     |none=>none
    |_=>none
   |_=>none
  |none=>none
 |none=>none
def eV(P:Program)(pr:Bool)(o:Oper)(ev:Operand→V)(b:Builtin)(args:List Operand)(ts:List TypeId)(get:Hp)(new:Nat)(k:KR):Option Ans:=
 match b with
 | .len=>match args with
  | [x]=>match ev x with
   | .sl i _ _ n=>match ts with
    | [t]=>match jG P t with|some _=>qR get i (k (.val (.sc (.int .i64 n)) [])) |none=>none
    |_=>none
   | .ro _ n _=>match ts with
    | [t]=>match jG P t with|some _=>k (.val (.sc (.int .i64 n)) []) |none=>none
    |_=>none
   | .mp i=>match ts with
    | [t]=>match dy1 P t with
     |some _=>match get i with
      |some (.map es)=>k (.val (.sc (.int .i64 es.length)) [])
      |some (.smap n _ _)=>k (.val (.sc (.int .i64 n)) [])
      |_=>none
     |none=>none
    |_=>none
   |_=>aH P o ev k
  |_=>none
 | .append=>match args,ts with
  | [x,y],[t,t']=>if t=t' then aa0 P pr t (ev x) (ev y) get new k else yX P pr t t' (ev x) (ev y) get new k
  |_,_=>none
 | .copy=>match args,ts with
  | [x,y],[t,t']=>if t=t' then az6 P pr t (ev x) (ev y) get k else none
  |_,_=>none
 |_=>aH P o ev k
def ag9(P:Program)(pr:Bool)(o:Oper)(ev:Operand→V)(c:Call)(get:Hp)(new:Nat)(k:KR):Option Ans:=
 match c.callee with
 | .builtin b=>eV P pr o ev b c.args.toList c.argTypes.toList get new k
 | .value f=>match ev f with
  | .fn g cs=>k (.call g (c.args.toList.map ev++cs))
  | .bf g fs cs=>k (.call g (fs++c.args.toList.map ev++cs))
  | .sc (.func (.func g) first cs)=>if first.size=0∧cs.size=0 then k (.call g (c.args.toList.map ev))else none
  |_=>none
 |_=>none
def xO(ev:Operand→V)(c:Call)(k:KR):Option Ans:=
 match c.callee with
 | .value f=>match ev f with
  | .fn g cs=>match c.args.toList with
   | []=>k (.dfr g cs)
   |_=>none
  |_=>none
 |_=>none
def opK(P:Program)(pb pr:Bool)(o:Oper)(ev:Operand→V)(get:Hp)(new:Nat)(k:KR):Option Ans:=
 match o.op with
 | .move x=>k (.val (ev x) [])
 | .assign x=>k (.val (ev x) [])
 | .pick c a b=>az0 (ev c) (ev a) (ev b) k
 | .alloc t=>aj1 P t new k
 | .box _ x=>dc5 (ev x) new k
 | .load t x=>yW P t (ev x) get k
 | .store t x y=>al6 P pb t (ev x) (ev y) get k
 | .fieldAddr t x f=>jM P t (ev x) f get k
 | .field t x f=>xI P o ev t (ev x) f k
 | .indexAddr t x y=>oI P t (ev x) (ev y) get k
 | .index t x y=>xE P o ev t (ev x) (ev y) k
 | .slice t x lo hi mx=>if mx.isNone then yR P t (ev x) (match lo with|some y=>bh4 (ev y) |none=>some 0) (match hi with|some y=>bh4 (ev y) |none=>dt9 (ev x)) get k else none
 | .extract x n=>qP P o ev (ev x) n k
 | .build t ps=>xJ P t ps.toList ev k
 | .buildSlice t n ps=>gR P pr t n ps.toList ev get new k
 | .makeSlice t x y=>oF P t (ev x) (ev y) new k
 | .makeFunc fn first cs=>match fn with
  | .func f=>if first.size=0 then k (.val (.fn f (cs.toList.map ev)) [])else k (.val (.bf f (first.toList.map ev) (cs.toList.map ev)) [])
  |_=>none
 | .range t x=>match ev x with
  | .sc (.string s)=>if gH P t then k (.val (.ptr new 0) [(new,some (.iter s 0))])else none
  |_=>none
 | .next x b=>if b then ba1 (ev x) get k else none
 | .nilCheck x=>ar6 P o ev (ev x) get k
 | .call c=>ag9 P pr o ev c get new k
 | .binOp b t x y _=>bj7 P o ev b t (ev x) (ev y) k
 | .unOp _ _ _=>aH P o ev k
 | .convert s d x=>am2 P o ev s d (ev x) get k
 | .makeMap t none=>vU P t new k
 | .lookup t x y ok=>zH P t (ev x) (ev y) ok get k
 | .mapUpdate t x y v=>pE P t (ev x) (ev y) (ev v) get k
 | .insert t x y v=>pE P t (ev x) (ev y) (ev v) get k
 | .makeInterface t x=>oM P t (ev x) k
 | .typeAssert x _ t ok=>aa7 P (ev x) t ok k
 | .panic x=>al7 (ev x) k
 | .defer c=>xO ev c k
 |_=>none
inductive ACode where
 |skip
 |region (id:Nat) (ops:List Oper) (draw:Bool)
 |seq (a b:ACode)
 |cond (c:Operand) (x y:ACode)
 |block (id:Nat) (c:ACode)
 |loop (id live:Nat) (c:ACode)
 |exit (id:Nat)
 |ret
 |scope (c:ACode)
 |label (l:Nat)
 |no (c:Code)
def ACode.erase:ACode→Code
 | .skip=>.skip
 | .region id ops d=>.region id ops.toArray d
 | .seq a b=>.seq a.erase b.erase
 | .cond c x y=>.cond c x.erase y.erase
 | .block id c=>.block id c.erase
 | .loop _ _ c=>.loop c.erase
 | .exit id=>.exit id
 | .ret=>.ret
 | .scope c=>.scope c.erase
 | .label l=>.label l
 | .no c=>c
abbrev h9:=FuncId→List V→List (Option Chunk)→(CRes→Option Ans)→Option Ans
abbrev f7:=Nat→Nat→ACode→St→(Ex→St→Option Ans)→Option Ans
inductive Way where
 |plain
 |lend
 |give
 |giveM
structure Env where
 P : Program
 glob : Nat → Option (List V)
 ext : FuncId → List V → Option V
 way : FuncId → FuncId → Way
 lit : FuncId → Bool
 code : FuncId → Option ACode
 inv : List (Nat × (Obj → Prop)) := []
 /-- In which functions a test's outcome is put in its place. -/
 sett : FuncId → Bool := fun _ => false
 /-- A row put anew: the choice is pushed inward. -/
 push : Bool := true
 /-- Rows made of parts: the choice is pushed inward. -/
 rows : Bool := false
 /-- Functions that defer calls. -/
 dfn : FuncId → Bool := fun _ => false
 /-- Functions that, deferred, do nothing where the one below returns; what they hold. -/
 idle : FuncId → Option Nat := fun _ => none
 /-- Over a call all that is reached keeps its place. -/
 allR : Bool := false
 /-- May calls be deferred? If not, these are those that are. -/
 dok : Bool := true
 dls : List Deferred := []
def evA(E:Env)(fr:List V):Operand→V
 | .tmp t=>fr.getD t .junk
 | .const v=>kX v
 | .global g=>match E.glob g with|some cs=>.rp cs|none=>.junk
 | .func f=>.fn f []
def sH(ops:List Oper)(fr:List V)(j:Nat):V:=
 match ops[j]?with
 |some o=>match o.dst with
  |some t=>fr.getD t .junk
  |none=>.junk
 |none=>.junk
def au9(g:Option (Nat×Bool))(y:Nat→V)(k:Bool→Option Ans):Option Ans:=
 match g with
 |none=>k true
 |some (j,b)=>match y j with
  | .sc v=>match v with
   | .bool c=>if c=b then k true else k false
   |_=>k false
  |_=>none
def au6(g:Option (Nat×Bool))(ops:List Oper)(fr:List V)(k:Bool→List V→Option Ans):Option Ans:=
 match g with
 |none=>k true fr
 |some (j,b)=>match ops[j]?with
  |some o=>match o.dst with
   |some t=>match fr.getD t .junk with
    | .sc v=>match v with
     | .bool c=>if c=true then setK fr t (.sc (.bool true)) fun fr=>k b fr else setK fr t (.sc (.bool false)) fun fr=>k (!b) fr
     |_=>k false fr
    |_=>none
   |none=>none
  |none=>none
def cC(h:Hp):Nat→List Nat→List Nat→List Nat
 |0,_,seen=>seen
 |_+1,[],seen=>seen
 |n+1,i::todo,seen=>
  if seen.contains i then cC h n todo seen else
  match h i with
  |none=>cC h n todo seen
  |some c=>cC h n (c.ids++todo) (seen++[i])
def dd:List Nat→List Nat→List Nat
 |seen,[]=>seen
 |seen,i::l=>if seen.contains i then dd seen l else dd (seen++[i]) l
def cW(h:Hp)(l:List Nat):List Nat:=l.flatMap fun i=>match h i with|some c=>c.ids|none=>[]
def gN(order:List Nat)(i:Nat):Option Nat:=order.idxOf? i
def keep(h:Hp)(order:List Nat):List (Option Chunk):=order.map fun i=>(h i).map (Chunk.ren (gN order))
def zap(live:Nat):Nat→List V→List V
 |_,[]=>[]
 |i,v::l=>(if live.testBit i then v else .junk)::zap live (i+1) l
def oT:Nat:=300
def fg9(order:List Nat)(fr:List V)(s:St)(k:St→Option Ans):Option Ans:=
 fL (ab8 (gN order) fr) fun fr=>fCL (keep s.H order) fun l=>k {fr:=fr,H:=hp l,nx:=order.length,rt:=s.rt,me:=s.me}
def sK(live:Nat)(s:St)(k:St→Option Ans):Option Ans:=
 fNL (cC s.H oT (cW s.H (List.range s.rt)++cS (zap live 0 s.fr)) (List.range s.rt)) fun order=>fg9 order (zap live 0 s.fr) s k
def bk3(E:Env)(ca:h9)(f:FuncId)(args:List V)(get:Hp)(k:KR):Option Ans:=
 ff8 get args fun args=>fL args fun args=>
  if j7 args then
   match E.ext f args with
   |some v=>if v.scal=true then k (.val v [])else none
   |none=>ca f args [] fun r=>match r with
    | .ret v L=>if L.length=0∧v.scal=true then k (.val v [])else none
    | .pan _=>none
  else none
def n5(order:List Nat)(r new:Nat)(j:Nat):Option Nat:=if j<r then order[j]?else some (new+(j-r))
def cr4(give:Bool)(order:List Nat)(r new:Nat)(k:KR)(x:CRes):Option Ans:=
 match x with
 | .ret v L=>
  if give then
   if order.length=0 then bwK (hp L) v fun v=>if v.pure=true then k (.val v [])else none else none
  else
   if r≤L.length∧L.length≤r+d7∧r≤order.length then
    k (.val (v.ren (n5 order r new)) ((order.map fun i=>(i,none))++(L.zipIdx.map fun p=>((n5 order r new p.2).getD 0,p.1.map (Chunk.ren (n5 order r new))))))
   else none
 | .pan v=>if v.pure then k (.pan v (order.map fun i=>(i,none)))else none
def V.caps:V→List Nat
 | .fn _ cs=>cS cs
 | .bf _ fs cs=>cS fs++cS cs
 |_=>[]
def cc5(h:Hp)(l:List Nat):List Nat:=(l.flatMap fun i=>match h i with|some (.blk cs)=>cs.flatMap V.caps|some (.tbk _ cs)=>cs.flatMap V.caps|_=>[]).filter fun i=>(h i).isSome
def z6(al:Bool)(h:Hp)(args:List V):List Nat:=
 match al with
 |true=>cC h oT (cW h (dd [] (cS args))) (dd [] (cS args))
 |false=>dd [] (cS args++cc5 h (cS args))
def pI(al:Bool)(ca:h9)(give:Bool)(f:FuncId)(args:List V)(get:Hp)(new:Nat)(k:KR):Option Ans:=
 fNL (cC get oT (cW get (z6 al get args)) (z6 al get args)) fun order=>
  fL (ab8 (gN order) args) fun args'=>fCL (keep get order) fun L=>
   ca f args' L (cr4 give order (z6 al (hp L) args').length new k)
def em5(get:Hp)(k:KR):KR:=fun r=>
 match r with
 | .val v us=>bwK (n7 get us) v fun v'=>k (.val v' (us++yN v))
 |r=>k r
def sL(E:Env)(ca:h9)(me:FuncId)(f:FuncId)(args:List V)(get:Hp)(new:Nat)(k:KR):Option Ans:=
 fL args fun args=>
 match E.way me f with
 | .lend=>bk3 E ca f args get k
 | .give=>match E.ext f args with
  |some v=>k (.val v [])
  |none=>pI E.allR ca true f args get new k
 | .plain=>match E.ext f args with
  |some v=>k (.val v [])
  |none=>pI E.allR ca false f args get new k
 | .giveM=>match E.ext f args with
  |some v=>k (.val v [])
  |none=>pI E.allR ca false f args get new (em5 get k)
abbrev KX:=Ex→St→Option Ans
def wM(s:St)(d:Option Tmp)(v:V)(us:List (Nat×Option Chunk))(k:St→Option Ans):Option Ans:=
 fV v fun v=>fi0 s.fr d v fun fr=>fU us fun us=>k {fr:=fr,H:=n7 s.H us,nx:=s.nx,rt:=s.rt,me:=s.me}
def cx6:Op→Bool| .buildSlice _ _ _=>true|_=>false
def ew5(b:Bool)(H:Hp)(v:V)(us:List (Nat×Option Chunk)):V:=if b then v.bw1 (n7 H us)else v
def ev7(b:Bool)(v:V)(us:List (Nat×Option Chunk)):List (Nat×Option Chunk):=if b then us++nW v else us
def hJ(E:Env)(ca:h9)(ops:List Oper)(base:Nat):Nat→List Oper→St→KX→Option Ans
 |i,[],s,k=>k .normal {fr:=s.fr,H:=s.H,nx:=base+i*d7,rt:=s.rt,me:=s.me}
 |i,o::rest,s,k=>
  au6 o.guard ops s.fr fun b fr=>
   if b then
    opK E.P E.push E.rows o (evA E fr) s.H (base+i*d7) fun r=>
     match r with
     | .val v us=>wM {fr:=fr,H:=s.H,nx:=s.nx,rt:=s.rt,me:=s.me} o.dst (ew5 (E.lit s.me&&cx6 o.op) s.H v us) (ev7 (E.lit s.me&&cx6 o.op) v us) fun s=>hJ E ca ops base (i+1) rest s k
     | .pan v us=>k (.panic v) {fr:=fr,H:=n7 s.H us,nx:=base+i*d7,rt:=s.rt,me:=s.me}
     | .call f args=>sL E ca s.me f args s.H (base+i*d7) fun r=>
      match r with
      | .val v us=>wM {fr:=fr,H:=s.H,nx:=s.nx,rt:=s.rt,me:=s.me} o.dst v us fun s=>hJ E ca ops base (i+1) rest s k
      | .pan v us=>k (.panic v) {fr:=fr,H:=n7 s.H us,nx:=base+i*d7,rt:=s.rt,me:=s.me}
      | .call _ _=>none
      | .dfr _ _=>none
     | .dfr f cs=>match E.dfn s.me&&(E.idle f==some cs.length&&E.dok)with
      |true=>wM {fr:=fr,H:=s.H,nx:=s.nx,rt:=s.rt,me:=s.me} o.dst (.sc undef) [] fun s=>hJ E ca ops base (i+1) rest s k
      |false=>none
   else wM {fr:=fr,H:=s.H,nx:=s.nx,rt:=s.rt,me:=s.me} o.dst (.sc undef) [] fun s=>hJ E ca ops base (i+1) rest s k
def l5:Op→Bool
 | .makeMap _ _| .makeInterface _ _| .typeAssert _ _ _ _| .panic _| .makeSlice _ _ _| .move _| .assign _| .pick _ _ _| .alloc _| .box _ _| .binOp _ _ _ _ _| .unOp _ _ _| .extract _ _| .build _ _| .field _ _ _| .index _ _ _| .makeFunc _ _ _| .range _ _=>false
 |_=>true
structure Vw where
 bits:Nat
 only:Option (List Nat)
def dO(base:Nat)(v:Vw)(id:Nat):Bool:=(match v.only with|none=>true|some l=>l.contains id)&&(if id<base then true else v.bits.testBit ((id-base)/d7))
def bM(base:Nat)(v:Vw)(h:Hp):Hp:=fun id=>if dO base v id then h id else none
def eb7:Op→Bool
 | .call c=>match c.callee with| .builtin _=>false|_=>true
 |_=>false
def dk2:Op→Bool
 | .load _ _| .store _ _ _| .lookup _ _ _ _| .mapUpdate _ _ _ _| .insert _ _ _ _=>true
 |_=>false
def cr0(E:Env)(fr:List V)(o:Oper):List Nat:=cS (o.op.operands.toList.map (evA E fr))
def dl2(E:Env)(fr:List V)(h:Hp)(o:Oper):List Nat:=
 if eb7 o.op then cC h oT (cr0 E fr o) []
 else if dk2 o.op then cr0 E fr o++cW h (cr0 E fr o)else cr0 E fr o
def vwK(E:Env)(b:Nat)(fr:List V)(h:Hp)(o:Oper)(k:Vw→Option Ans):Option Ans:=fNL (dl2 E fr h o) fun l=>k ⟨b,some l⟩
def xS(new id:Nat):Bool:=new≤id&&id<new+d7
def bf3:List (Nat×Option Chunk)→List Nat
 | []=>[]
 | (_,some c)::l=>c.ids++bf3 l
 | (_,none)::l=>bf3 l
def av0(base:Nat)(bits:Vw)(new:Nat)(v:V)(us:List (Nat×Option Chunk)):Bool:=(us.map (·.1)++v.ids++bf3 us).all fun i=>dO base bits i||xS new i
def bf5(o:Oper)(i:Nat):Bool:=o.after.toList.any fun e=>Region.binds .any e&&e.on==i
def dp3(ops:List Oper)(i:Nat):Nat→Oper→Bool
 |0,_=>false
 |n+1,o=>o.after.toList.any fun e=>Region.binds .any e&&(Nat.blt i e.on&&(match ops[e.on]?with|some om=>bf5 om i||dp3 ops i n om|none=>false))
def dp5(ops:List Oper)(o:Oper)(i:Nat):Bool:=dp3 ops i 6 o
abbrev Dn:=Nat×Bool×Vw×List Nat×Option (Nat×Option (Nat×V))
def oN(ops:List Oper)(base:Nat)(o:Oper)(bj:Vw)(kj:List Nat):List Dn→Bool
 | []=>true
 | (i,ri,bi,ki,_)::l=>
  (bf5 o i||
   (((!l5 o.op||ki.all fun x=> !dO base bj x)&&(!ri||kj.all fun x=> !dO base bi x)&&kj.all fun x=> !ki.contains x)||dp5 ops o i))&&oN ops base o bj kj l
def sJ(h:Hp)(b o:Nat):Option V:=match h b with|some (.blk cs)=>cs[o]? |_=>none
def ea9(E:Env)(base:Nat)(vw:Vw)(o:Oper)(fr:List V)(h:Hp):Option (Nat×Option (Nat×V)):=
 match o.op with
 | .load t x=>match evA E fr x with
  | .ptr b off=>match dd3 E.P t with
   |some false=>(sJ (bM base vw h) b off).map fun v=>(b,some (off,v))
   |_=>none
  |_=>none
 | .nilCheck x=>match evA E fr x with
  | .ptr b _=>(bM base vw h b).map fun _=>(b,none)
  |_=>none
 | .fieldAddr _ x _=>match evA E fr x with
  | .ptr b _=>(bM base vw h b).map fun _=>(b,none)
  |_=>none
 |_=>none
def az3(ops:List Oper)(base:Nat)(o:Oper)(bj:Vw)(kj:List Nat):List Dn→Bool
 | []=>true
 | (i,ri,bi,ki,ld)::l=>
  (bf5 o i||
   (((!l5 o.op||ki.all fun x=> !dO base bj x)&&(!ri||(kj.all fun x=> !dO base bi x)||ld.isSome)&&kj.all fun x=> !ki.contains x)||dp5 ops o i))&&az3 ops base o bj kj l
def br6:List (Nat×Option Chunk)→Nat→Option (Option Chunk)
 | [],_=>none
 | (i,c)::l,b=>match br6 l b with
  |some x=>some x
  |none=>match Nat.beq i b with|true=>some c|false=>none
mutual
def nV:V→V→Option Ans→Option Ans
 | .sl i z o l,v,k=>match v with
  | .sl i' z' o' l'=>if i=i'∧z=z'∧o=o'∧l=l' then k else none
  |_=>none
 | .ptr i o,v,k=>match v with
  | .ptr i' o'=>if i=i'∧o=o' then k else none
  |_=>none
 | .fn f cs,v,k=>match v with
  | .fn f' cs'=>if f=f' then bk7 cs cs' k else none
  |_=>none
 | .sc (.int a x),v,k=>match v with
  | .sc (.int a' x')=>if a=a'∧x=x' then k else none
  |_=>none
 | .sc (.slice none 0 0),v,k=>match v with
  | .sc (.slice none 0 0)=>k
  |_=>none
 | .sc (.string a),v,k=>match v with
  | .sc (.string b)=>if a=b then k else none
  |_=>none
 |_,_,_=>none
def bk7:List V→List V→Option Ans→Option Ans
 | [],l,k=>match l with
  | []=>k
  |_=>none
 |v::l,m,k=>match m with
  |v'::l'=>nV v v' (bk7 l l' k)
  | []=>none
end
def ax0(ops:List Oper)(base:Nat)(o:Oper)(us:List (Nat×Option Chunk)):List Dn→Option Ans→Option Ans
 | [],k=>k
 | (i,ri,bi,_,ld)::l,k=>
  match bf5 o i||(dp5 ops o i||(!ri||(us.map (·.1)).all fun x=> !dO base bi x))with
  |true=>ax0 ops base o us l k
  |false=>match ld with
   |some (b,q)=>match br6 us b with
    |some (some c)=>match q with
     |none=>ax0 ops base o us l k
     |some (off,v)=>match c with
      | .blk cs=>match cs[off]?with
       |some v'=>nV v v' (ax0 ops base o us l k)
       |none=>none
      |_=>none
    |some none=>none
    |none=>ax0 ops base o us l k
   |none=>none
def okK(ops:List Oper)(base:Nat)(o:Oper)(vw:Vw)(new:Nat)(v:V)(us:List (Nat×Option Chunk))(done:List Dn)(k:Option Ans):Option Ans:=
 match av0 base vw new v us with
 |true=>match oN ops base o vw (us.map (·.1)) done with
  |true=>k
  |false=>match az3 ops base o vw (us.map (·.1)) done with
   |true=>ax0 ops base o us done k
   |false=>none
 |false=>none
def bs6:List Oper→St→(St→Option Ans)→Option Ans
 | [],s,k=>k s
 |o::l,s,k=>wM s o.dst .junk [] fun s=>bs6 l s k
def ed9(ops:List Oper)(base:Nat)(o:Oper)(i:Nat)(vw:Vw)(rest:List Oper)(done:List Dn)(us:List (Nat×Option Chunk)):Bool:=
 rest.all (fun o'=>bf5 o' i||dp5 ops o' i)&&(av0 base vw (base+i*d7) (.sc undef) us&&(oN ops base o vw [] done&&done.all fun d=>d.2.2.2.1.isEmpty))
def db9(ops:List Oper)(base:Nat)(o:Oper)(i:Nat)(vw:Vw)(rest:List Oper)(done:List Dn)(v:V)(us:List (Nat×Option Chunk))(s:St)(k:KX):Option Ans:=
 match ed9 ops base o i vw rest done us with
 |true=>bs6 (ops.take i) s fun s=>wM s none (.sc undef) us fun s=>k (.panic v) {fr:=s.fr,H:=s.H,nx:=base+(i+1+rest.length)*d7,rt:=s.rt,me:=s.me}
 |false=>none
def rQ(E:Env)(ca:h9)(ops:List Oper)(befs:List Nat)(base:Nat):Nat→List Oper→List Dn→St→KX→Option Ans
 |i,[],_,s,k=>k .normal {fr:=s.fr,H:=s.H,nx:=base+i*d7,rt:=s.rt,me:=s.me}
 |i,o::rest,done,s,k=>
  au6 o.guard ops s.fr fun b fr=>
   if b then
    vwK E (befs.getD i 0) fr s.H o fun vw=>
    opK E.P E.push E.rows o (evA E fr) (bM base vw s.H) (base+i*d7) fun r=>
     match r with
     | .val v us=>
      okK ops base o vw (base+i*d7) v us done
       (wM {fr:=fr,H:=s.H,nx:=s.nx,rt:=s.rt,me:=s.me} o.dst v us fun s'=>rQ E ca ops befs base (i+1) rest ((i,l5 o.op,vw,us.map (·.1),ea9 E base vw o fr s.H)::done) s' k)
     | .pan v us=>db9 ops base o i vw rest done v us {fr:=fr,H:=s.H,nx:=s.nx,rt:=s.rt,me:=s.me} k
     | .dfr _ _=>none
     | .call f args=>sL E ca s.me f args (bM base vw s.H) (base+i*d7) fun r=>
      match r with
      | .val v us=>
       if l5 o.op then
        okK ops base o vw (base+i*d7) v us done
         (wM {fr:=fr,H:=s.H,nx:=s.nx,rt:=s.rt,me:=s.me} o.dst v us fun s'=>rQ E ca ops befs base (i+1) rest ((i,l5 o.op,vw,us.map (·.1),none)::done) s' k)
       else none
      | .pan v us=>if l5 o.op then db9 ops base o i vw rest done v us {fr:=fr,H:=s.H,nx:=s.nx,rt:=s.rt,me:=s.me} k else none
      |_=>none
   else
    if oN ops base o ⟨befs.getD i 0,some []⟩ [] done then
     wM {fr:=fr,H:=s.H,nx:=s.nx,rt:=s.rt,me:=s.me} o.dst (.sc undef) [] fun s=>rQ E ca ops befs base (i+1) rest ((i,l5 o.op,⟨befs.getD i 0,some []⟩,[],none)::done) s k
    else none
def bc7(P:Program)(ops:List Oper):Bool:=P.follows .mixedOrders&&Region.lexB .any ops.toArray
def zL(on:Bool)(c:Operand)(b:Bool)(s:St)(k:St→Option Ans):Option Ans:=
 match on with
 |true=>match c with
  | .tmp t=>setK s.fr t (.sc (.bool b)) fun fr=>k {fr:=fr,H:=s.H,nx:=s.nx,rt:=s.rt,me:=s.me}
  |_=>k s
 |false=>k s
def aA(E:Env)(ca:h9)(lo:f7):ACode→St→KX→Option Ans
 | .skip,s,k=>k .normal s
 | .region _ ops d,s,k=>
  if d then(if bc7 E.P ops then fNL (Region.before ops.toArray).toList fun befs=>rQ E ca ops befs s.nx 0 ops [] s k else none)
  else hJ E ca ops s.nx 0 ops s k
 | .seq a b,s,k=>aA E ca lo a s fun e s=>match e with
  | .normal=>aA E ca lo b s k
  |e=>k e s
 | .cond c x y,s,k=>
  match evA E s.fr c with
  | .sc (.bool b)=>if b then zL (E.sett s.me) c true s fun s=>aA E ca lo x s k else zL (E.sett s.me) c false s fun s=>aA E ca lo y s k
  |_=>none
 | .block id c,s,k=>aA E ca lo c s fun e s=>match e with
  | .exit j=>if j=id then k .normal s else k (.exit j) s
  |e=>k e s
 | .loop id live c,s,k=>sK live s fun s=>lo id live c s k
 | .exit id,s,k=>k (.exit id) s
 | .ret,s,k=>k .ret s
 | .scope c,s,k=>aA E ca lo c s k
 | .label _,s,k=>k .normal s
 | .no _,_,_=>none
def r9(E:Env)(ca:h9)(lo:f7)(id live:Nat)(c:ACode)(s:St)(k:KX):Option Ans:=
 aA E ca lo c s fun e s=>match e with
  | .normal=>sK live s fun s=>lo id live c s k
  |e=>k e s
def fe2(E:Env)(s:St)(r:ResultVar)(k:V→Option Ans):Option Ans:=
 match r with
 | .tmp t=>k (s.fr.getD t .junk)
 | .cell t ty=>match s.fr.getD t .junk with
  | .ptr i o=>match s.H i with
   |some (.blk cs)=>match seg E.P ty cs o with|some v=>k v|none=>none
   |_=>none
  |_=>none
def bg3(E:Env)(s:St)(rs:List ResultVar)(k:List V→Option Ans):Option Ans:=
 match rs with
 | []=>k []
 |r::l=>fe2 E s r fun v=>bg3 E s l fun vs=>k (v::vs)
def one1:List V→V
 | [v]=>v
 |vs=>.tup vs
def bx1(s:St)(v:V)(k:CRes→Option Ans):Option Ans:=
 fNL (cC s.H oT (cW s.H (List.range s.rt)++v.ids) (List.range s.rt)) fun order=>
  fV (v.ren (gN order)) fun v=>fCL (keep s.H order) fun L=>k (.ret v L)
def eh8(E:Env)(fn:Func)(k:CRes→Option Ans):KX:=fun e s=>
 match e with
 | .normal=>bg3 E s fn.results.toList fun vs=>bx1 s (one1 vs) k
 | .ret=>bg3 E s fn.results.toList fun vs=>bx1 s (one1 vs) k
 | .panic v=>match E.dfn s.me with
  |true=>none
  |false=>k (.pan v)
 | .exit _=>none
def j8(E:Env)(ca:h9)(lo:f7)(f:FuncId)(args:List V)(L:List (Option Chunk))(k:CRes→Option Ans):Option Ans:=
 match E.code f with
 |some c=>match E.P.funcs[f]?with
  |some fn=>fL (args++List.replicate (fn.ntmps-args.length) (.sc undef)) fun fr=>
   if(z6 E.allR (hp L) args).length≤L.length then
    aA E ca lo c {fr:=fr,H:=hp L,nx:=L.length,rt:=(z6 E.allR (hp L) args).length,me:=f} (eh8 E fn k)
   else none
  |none=>none
 |none=>none
def sG{α:Type}(l:Nat)(k:Nat→α):α:=match l with|0=>k 0|n+1=>k (n+1)
theorem tQ{α:Type}(l:Nat)(k:Nat→α):sG l k=k l:=by cases l<;>rfl
def fe0(o:Oper)(ops:List Oper)(l:Nat):Nat:=sG l fun l=>
 let l:=match o.dst with|some t=>if l.testBit t then l^^^(1<<<t)else l|none=>l
 let add (l:Nat):Operand→Nat| .tmp t=>l|||(1<<<t) |_=>l
 let l:=o.op.operands.toList.foldl add l
 match o.guard with
 |some (j,_)=>match ops[j]?with|some o'=>(match o'.dst with|some t=>l|||(1<<<t) |none=>l) |none=>l
 |none=>l
def ez7(env:List (Nat×Nat))(id:Nat):Nat:=match env.find? (·.1==id)with|some (_,l)=>l|none=>0
def fk7:Operand→Nat| .tmp t=>1<<<t|_=>0
def lv(res:Nat):Code→Nat→List (Nat×Nat)→Nat
 | .skip,l,_=>l
 | .region _ ops _,l,_=>ops.toList.reverse.foldl (fun l o=>fe0 o ops.toList l) l
 | .seq a b,l,env=>sG (lv res b l env) fun l=>lv res a l env
 | .cond c x y,l,env=>sG l fun l=>fk7 c|||lv res x l env|||lv res y l env
 | .block id c,l,env=>sG l fun l=>lv res c l ((id,l)::env)
 | .loop c,_,env=>sG (lv res c 0 env) fun l0=>lv res c l0 env
 | .exit id,_,env=>ez7 env id
 | .ret,_,_=>res
 | .scope c,l,env=>lv res c l env
 |_,l,_=>l
def ann(res:Nat):Code→Nat→Nat→List (Nat×Nat)→ACode
 | .skip,_,_,_=>.skip
 | .region id ops d,_,_,_=>.region id ops.toList d
 | .seq a b,b0,l,env=>.seq (sG (lv res b l env) fun l=>ann res a b0 l env) (ann res b b0 l env)
 | .cond c x y,b0,l,env=>.cond c (ann res x b0 l env) (ann res y b0 l env)
 | .block id c,_,l,env=>sG l fun l=>.block id (ann res c id l ((id,l)::env))
 | .loop c,b0,l,env=>sG (lv res (.loop c) l env) fun h=>.loop b0 h (ann res c b0 h env)
 | .exit id,_,_,_=>.exit id
 | .ret,_,_,_=>.ret
 | .scope c,b0,l,env=>.scope (ann res c b0 l env)
 | .label l,_,_,_=>.label l
 |c,_,_,_=>.no c
def eq2(fn:Func):Option ACode:=
 let res:=fn.results.toList.foldl (fun l r=>match r with| .tmp t=>l|||(1<<<t) | .cell t _=>l|||(1<<<t)) 0
 fn.body.map fun c=>ann res c 0 res []
mutual
def am0(E:Env):Nat→h9
 |0=>fun _ _ _ _=>none
 |n+1=>fun f args L k=>match j8 E (am0 E n) (av4 E n) f args L (fun r=>some (.c r))with
  |some (.c r)=>k r
  |_=>none
def av4(E:Env):Nat→f7
 |0=>fun _ _ _ _ _=>none
 |n+1=>fun id live c s k=>match r9 E (am0 E n) (av4 E n) id live c s (fun e s=>some (.l e s))with
  |some (.l e s)=>k e s
  |_=>none
end
end Go.Am
/- What an abstract value means in a world; what is kept as the world goes on. -/
namespace Go.Am
open Go
theorem fa5(x:Value)(k:Value→Option Ans):fe3 x k=k x:=by unfold fe3;split<;>rfl
mutual
theorem cj6:∀(v:V) (k:V→Option Ans),fV v k=k v
 | .junk,k=>rfl
 | .sc x,k=>by simp only[fV,fa5]
 | .agg cs,k=>by simp only[fV,nI]
 | .tup cs,k=>by simp only[fV,nI]
 | .ptr i o,k=>rfl
 | .ep i c j o,k=>rfl
 | .rp cs,k=>by simp only[fV,nI]
 | .sl i c o l,k=>rfl
 | .ro c n f,k=>rfl
 | .fn f cs,k=>by simp only[fV,nI]
 | .mp i,k=>rfl
 | .ifc t v,k=>by simp only[fV,cj6 v]
 | .bf f fs cs,k=>by simp only[fV,nI]
theorem nI:∀(l:List V) (k:List V→Option Ans),fL l k=k l
 | [],k=>rfl
 |v::l,k=>by simp only[fL,cj6 v,nI l]
end
theorem dc8:∀(l:List (List V)) (k:List (List V)→Option Ans),fLL l k=k l
 | [],k=>rfl
 |v::l,k=>by simp only[fLL,nI v,dc8 l]
theorem dl8{α:Type}(p q:Prop)[Decidable p][Decidable q](x:Option α):(if p then(if q then x else none)else none)=if p∧q then x else none:=by
 by_cases hp:p<;>by_cases hq:q<;>simp[hp,hq]
abbrev Bt:=Nat→Option (Nat×Nat)
abbrev Pr:=Nat→Prop
mutual
def den(β:Bt)(S:Pr)(w:World)(D:Pr):V→Value→Prop
 | .junk,_=>True
 | .sc v,u=>u=v
 | .agg cs,u=>∃us:List Value,u= .agg us.toArray∧b7 β S w D cs us∧us.all Value.oneCell'=true
 | .tup cs,u=>∃us:List Value,u= .tuple us.toArray∧b7 β S w D cs us
 | .ptr i o,u=>(D i∧u.oneCell'=true)∧∀b m,β i=some (b,m)→u= .pointer (some ⟨b,o,none⟩)
 | .ep i k j o,u=>(D i∧u.oneCell'=true)∧∀b m,β i=some (b,m)→u= .pointer (some ⟨b,j*k+o,none⟩)
 | .rp cs,u=>∃(a:Addr) (us:List Value),u= .pointer (some a)∧S a.block∧b7 β S w D cs us∧j7 cs=true∧us.all Value.oneCell'=true∧∀i x,us[i]? =some x→w.cell? (a.add i)=some x
 | .sl i k o l,u=>(D i∧u.oneCell'=true)∧∀b m,β i=some (b,m)→o+l≤m∧∃A:Option Addr,u= .slice A l (m-o)∧(o<m→A=some ⟨b,o*k,none⟩)
 | .ro k n f,u=>n≤maxLen∧∃(A:Option Addr) (m:Nat) (a:Addr) (us:Nat→List Value),u= .slice A n m∧n≤m∧(0<n→A=some a∧S a.block)∧
  ∀j,j<n→b7 β S w D (f j) (us j)∧j7 (f j)=true∧(us j).length=k∧(us j).all Value.oneCell'=true∧∀i x,(us j)[i]? =some x→w.cell? (a.add (j*k+i))=some x
 | .fn f cs,u=>∃us:List Value,u= .func (.func f) #[] us.toArray∧b7 β S w D cs us
 | .mp i,u=>(D i∧u.oneCell'=true)∧∀b m,β i=some (b,m)→u= .map (some b)
 | .ifc t v,u=>∃x,u= .iface t x∧den β S w D v x
 | .bf f fs cs,u=>∃xs us:List Value,u= .func (.func f) xs.toArray us.toArray∧b7 β S w D fs xs∧b7 β S w D cs us
def b7(β:Bt)(S:Pr)(w:World)(D:Pr):List V→List Value→Prop
 | [],us=>us=[]
 |c::cs,us=>∃x xs,us=x::xs∧den β S w D c x∧b7 β S w D cs xs
end
def Kept(S:Pr)(w w':World):Prop:=∀b,S b→w'.heap[b]? =w.heap[b]?
theorem Kept.cell{S:Pr}{w w':World}(h:Kept S w w'){a:Addr}(ha:S a.block):w'.cell? a=w.cell? a:=World.cell?_of_block (h _ ha)
theorem dV(a:Addr)(n:Nat):(a.add n).block=a.block:=by unfold Addr.add;split<;>rfl
theorem zD(a:Addr)(i j:Nat):(a.add i).add j=a.add (i+j):=by
 unfold Addr.add
 by_cases hi:i=0<;>by_cases hj:j=0<;>simp[hi,hj,Nat.add_assoc]
theorem dN(g i n:Nat):(⟨g,i,none⟩:Addr).add n=⟨g,i+n,none⟩:=by unfold Addr.add;split<;>simp_all
mutual
theorem pH{β β':Bt}{S S' D D':Pr}{w w':World}(hβ:∀i,D i→β' i=β i∨β' i=none)(hS:∀b,S b→S' b)(hD:∀i,D i→D' i)(hk:Kept S w w'):
 ∀(v:V) (u:Value),den β S w D v u→den β' S' w' D' v u
 | .junk,_,_=>by simp[den]
 | .sc v,u,h=>by simpa[den]using h
 | .agg cs,u,h=>by
  simp only[den]at h⊢
  obtain⟨us,h1,h2,h3⟩:=h
  exact⟨us,h1,i5 hβ hS hD hk cs us h2,h3⟩
 | .tup cs,u,h=>by
  simp only[den]at h⊢
  obtain⟨us,h1,h2⟩:=h
  exact⟨us,h1,i5 hβ hS hD hk cs us h2⟩
 | .ptr i o,u,h=>by
  simp only[den]at h⊢
  refine⟨⟨hD _ h.1.1,h.1.2⟩,fun b m hb=>?_⟩
  rcases hβ i h.1.1 with e|e
  ·exact h.2 b m (by rw[←e];exact hb)
  ·rw[e]at hb;cases hb
 | .ep i k j o,u,h=>by
  simp only[den]at h⊢
  refine⟨⟨hD _ h.1.1,h.1.2⟩,fun b m hb=>?_⟩
  rcases hβ i h.1.1 with e|e
  ·exact h.2 b m (by rw[←e];exact hb)
  ·rw[e]at hb;cases hb
 | .rp cs,u,h=>by
  simp only[den]at h⊢
  obtain⟨a,us,h1,h2,h3,h4,h5,h6⟩:=h
  exact⟨a,us,h1,hS _ h2,i5 hβ hS hD hk cs us h3,h4,h5,fun i x hx=>by rw[hk.cell (by rw[dV];exact h2)];exact h6 i x hx⟩
 | .sl i k o l,u,h=>by
  simp only[den]at h⊢
  refine⟨⟨hD _ h.1.1,h.1.2⟩,fun b m hb=>?_⟩
  rcases hβ i h.1.1 with e|e
  ·exact h.2 b m (by rw[←e];exact hb)
  ·rw[e]at hb;cases hb
 | .ro k n f,u,h=>by
  simp only[den]at h⊢
  obtain⟨h0,A,m,a,us,h1,h2,h3,h4⟩:=h
  refine⟨h0,A,m,a,us,h1,h2,fun hn=>⟨(h3 hn).1,hS _ (h3 hn).2⟩,fun j hj=>?_⟩
  obtain⟨g1,g2,g3,g4,g5⟩:=h4 j hj
  exact⟨i5 hβ hS hD hk (f j) (us j) g1,g2,g3,g4,fun i x hx=>by rw[hk.cell (by rw[dV];exact(h3 (by omega)).2)];exact g5 i x hx⟩
 | .fn f cs,u,h=>by
  simp only[den]at h⊢
  obtain⟨us,h1,h2⟩:=h
  exact⟨us,h1,i5 hβ hS hD hk cs us h2⟩
 | .mp i,u,h=>by
  simp only[den]at h⊢
  refine⟨⟨hD _ h.1.1,h.1.2⟩,fun b m hb=>?_⟩
  rcases hβ i h.1.1 with e|e
  ·exact h.2 b m (by rw[←e];exact hb)
  ·rw[e]at hb;cases hb
 | .ifc t v,u,h=>by
  simp only[den]at h⊢
  obtain⟨x,h1,h2⟩:=h
  exact⟨x,h1,pH hβ hS hD hk v x h2⟩
 | .bf f fs cs,u,h=>by
  simp only[den]at h⊢
  obtain⟨xs,us,h1,h2,h3⟩:=h
  exact⟨xs,us,h1,i5 hβ hS hD hk fs xs h2,i5 hβ hS hD hk cs us h3⟩
theorem i5{β β':Bt}{S S' D D':Pr}{w w':World}(hβ:∀i,D i→β' i=β i∨β' i=none)(hS:∀b,S b→S' b)(hD:∀i,D i→D' i)(hk:Kept S w w'):
 ∀(l:List V) (us:List Value),b7 β S w D l us→b7 β' S' w' D' l us
 | [],us,h=>by simpa[b7]using h
 |c::cs,us,h=>by
  simp only[b7]at h⊢
  obtain⟨x,xs,h1,h2,h3⟩:=h
  exact⟨x,xs,h1,pH hβ hS hD hk c x h2,i5 hβ hS hD hk cs xs h3⟩
end
mutual
theorem m8{β β':Bt}{S S' D D':Pr}{w w':World}(hS:∀b,S b→S' b)(hk:Kept S w w'):
 ∀(v:V) (u:Value),v.pure=true→den β S w D v u→den β' S' w' D' v u
 | .junk,_,hp,_=>by simp[V.pure]at hp
 | .sc v,u,_,h=>by simpa[den]using h
 | .agg cs,u,hp,h=>by
  simp only[den,V.pure]at h hp⊢
  obtain⟨us,h1,h2,h3⟩:=h
  exact⟨us,h1,l8 hS hk cs us hp h2,h3⟩
 | .tup cs,u,hp,h=>by
  simp only[den,V.pure]at h hp⊢
  obtain⟨us,h1,h2⟩:=h
  exact⟨us,h1,l8 hS hk cs us hp h2⟩
 | .ptr i o,u,hp,h=>by simp[V.pure]at hp
 | .ep i k j o,u,hp,h=>by simp[V.pure]at hp
 | .rp cs,u,hp,h=>by
  simp only[den]at h⊢
  obtain⟨a,us,h1,h2,h3,h4,h5,h6⟩:=h
  exact⟨a,us,h1,hS _ h2,l8 hS hk cs us h4 h3,h4,h5,fun i x hx=>by rw[hk.cell (by rw[dV];exact h2)];exact h6 i x hx⟩
 | .sl i k o l,u,hp,h=>by simp[V.pure]at hp
 | .ro k n f,u,hp,h=>by
  simp only[den]at h⊢
  obtain⟨h0,A,m,a,us,h1,h2,h3,h4⟩:=h
  refine⟨h0,A,m,a,us,h1,h2,fun hn=>⟨(h3 hn).1,hS _ (h3 hn).2⟩,fun j hj=>?_⟩
  obtain⟨g1,g2,g3,g4,g5⟩:=h4 j hj
  exact⟨l8 hS hk (f j) (us j) g2 g1,g2,g3,g4,fun i x hx=>by rw[hk.cell (by rw[dV];exact(h3 (by omega)).2)];exact g5 i x hx⟩
 | .fn f cs,u,hp,h=>by
  simp only[den,V.pure]at h hp⊢
  obtain⟨us,h1,h2⟩:=h
  exact⟨us,h1,l8 hS hk cs us hp h2⟩
 | .mp i,u,hp,h=>by simp[V.pure]at hp
 | .ifc t v,u,hp,h=>by
  simp only[den,V.pure]at h hp⊢
  obtain⟨x,h1,h2⟩:=h
  exact⟨x,h1,m8 hS hk v x hp h2⟩
 | .bf f fs cs,u,hp,h=>by
  simp only[den,V.pure,Bool.and_eq_true]at h hp⊢
  obtain⟨xs,us,h1,h2,h3⟩:=h
  exact⟨xs,us,h1,l8 hS hk fs xs hp.1 h2,l8 hS hk cs us hp.2 h3⟩
theorem l8{β β':Bt}{S S' D D':Pr}{w w':World}(hS:∀b,S b→S' b)(hk:Kept S w w'):
 ∀(l:List V) (us:List Value),j7 l=true→b7 β S w D l us→b7 β' S' w' D' l us
 | [],us,_,h=>by simpa[b7]using h
 |c::cs,us,hp,h=>by
  simp only[b7,j7,Bool.and_eq_true]at h hp⊢
  obtain⟨x,xs,h1,h2,h3⟩:=h
  exact⟨x,xs,h1,m8 hS hk c x hp.1 h2,l8 hS hk cs xs hp.2 h3⟩
end
def Ren(r:Nat→Option Nat)(β β':Bt)(D D':Pr):Prop:=∀i j,D i→r i=some j→D' j∧∀bm,β' j=some bm→β i=some bm
mutual
theorem az2{r:Nat→Option Nat}{β β':Bt}{S D D':Pr}{w:World}(hr:Ren r β β' D D'):
 ∀(v:V) (u:Value),den β S w D v u→den β' S w D' (v.ren r) u
 | .junk,_,_=>by simp[den,V.ren]
 | .sc v,u,h=>by simpa[den,V.ren]using h
 | .agg cs,u,h=>by
  simp only[den,V.ren]at h⊢
  obtain⟨us,h1,h2,h3⟩:=h
  exact⟨us,h1,gS hr cs us h2,h3⟩
 | .tup cs,u,h=>by
  simp only[den,V.ren]at h⊢
  obtain⟨us,h1,h2⟩:=h
  exact⟨us,h1,gS hr cs us h2⟩
 | .ptr i o,u,h=>by
  simp only[den,V.ren]at h⊢
  split
  ·rename_i j hj
   obtain⟨g1,g2⟩:=hr i j h.1.1 hj
   simp only[den]
   exact⟨⟨g1,h.1.2⟩,fun b m hb=>h.2 b m (g2 _ hb)⟩
  ·simp[den]
 | .ep i k j o,u,h=>by
  simp only[den,V.ren]at h⊢
  split
  ·rename_i j hj
   obtain⟨g1,g2⟩:=hr i j h.1.1 hj
   simp only[den]
   exact⟨⟨g1,h.1.2⟩,fun b m hb=>h.2 b m (g2 _ hb)⟩
  ·simp[den]
 | .rp cs,u,h=>by
  simp only[den,V.ren]at h⊢
  obtain⟨a,us,h1,h2,h3,h4,h5,h6⟩:=h
  exact⟨a,us,h1,h2,l8 (fun _ h=>h) (fun _ _=>rfl) cs us h4 h3,h4,h5,h6⟩
 | .sl i k o l,u,h=>by
  simp only[den,V.ren]at h⊢
  split
  ·rename_i j hj
   obtain⟨g1,g2⟩:=hr i j h.1.1 hj
   simp only[den]
   exact⟨⟨g1,h.1.2⟩,fun b m hb=>h.2 b m (g2 _ hb)⟩
  ·simp[den]
 | .ro k n f,u,h=>by
  simp only[V.ren]
  exact m8 (fun _ h=>h) (fun _ _=>rfl) _ _ (by simp[V.pure]) h
 | .fn f cs,u,h=>by
  simp only[den,V.ren]at h⊢
  obtain⟨us,h1,h2⟩:=h
  exact⟨us,h1,gS hr cs us h2⟩
 | .mp i,u,h=>by
  simp only[den,V.ren]at h⊢
  split
  ·rename_i j hj
   obtain⟨g1,g2⟩:=hr i j h.1.1 hj
   simp only[den]
   exact⟨⟨g1,h.1.2⟩,fun b m hb=>h.2 b m (g2 _ hb)⟩
  ·simp[den]
 | .ifc t v,u,h=>by
  simp only[den,V.ren]at h⊢
  obtain⟨x,h1,h2⟩:=h
  exact⟨x,h1,az2 hr v x h2⟩
 | .bf f fs cs,u,h=>by
  simp only[den,V.ren]at h⊢
  obtain⟨xs,us,h1,h2,h3⟩:=h
  exact⟨xs,us,h1,gS hr fs xs h2,gS hr cs us h3⟩
theorem gS{r:Nat→Option Nat}{β β':Bt}{S D D':Pr}{w:World}(hr:Ren r β β' D D'):
 ∀(l:List V) (us:List Value),b7 β S w D l us→b7 β' S w D' (ab8 r l) us
 | [],us,h=>by simpa[b7,ab8]using h
 |c::cs,us,h=>by
  simp only[b7,ab8]at h⊢
  obtain⟨x,xs,h1,h2,h3⟩:=h
  exact⟨x,xs,h1,az2 hr c x h2,gS hr cs xs h3⟩
end
section
variable {β:Bt} {S D:Pr} {w:World}
theorem m9:∀{l:List V} {us:List Value},b7 β S w D l us→l.length=us.length
 | [],us,h=>by simp only[b7]at h;subst h;rfl
 |c::cs,us,h=>by
  simp only[b7]at h
  obtain⟨x,xs,rfl,_,h3⟩:=h
  simp[m9 h3]
theorem tH:∀{l:List V} {us:List Value},b7 β S w D l us→∀(i:Nat) (v:V),l[i]? =some v→∃u,us[i]? =some u∧den β S w D v u
 | [],us,h=>by intro i v hv;simp at hv
 |c::cs,us,h=>by
  simp only[b7]at h
  obtain⟨x,xs,rfl,h2,h3⟩:=h
  intro i v hv
  cases i with
  |zero=>
   simp only[List.getElem?_cons_zero,Option.some.injEq]at hv
   subst hv
   exact⟨x,rfl,h2⟩
  |succ i=>simpa using tH h3 i v (by simpa using hv)
theorem dR{l:List V}{us:List Value}(h:b7 β S w D l us)(i:Nat):den β S w D (l.getD i .junk) (us.getD i undef):=by
 cases hv:l[i]?with
 |none=>simp[List.getD,hv,den]
 |some v=>
  obtain⟨u,hu,hd⟩:=tH h i v hv
  simpa[List.getD,hv,hu]using hd
theorem pB{l:List V}:∀{us:List Value} (n:Nat),b7 β S w D l us→b7 β S w D (l.drop n) (us.drop n):=by
 induction l with
 |nil=>intro us n h;simp only[b7]at h;subst h;simp[b7]
 |cons c cs ih=>
  intro us n h
  cases n with
  |zero=>simpa using h
  |succ n=>
   simp only[b7]at h
   obtain⟨x,xs,rfl,h2,h3⟩:=h
   simpa using ih n h3
theorem yY{l:List V}:∀{us:List Value} (n:Nat),b7 β S w D l us→b7 β S w D (l.take n) (us.take n):=by
 induction l with
 |nil=>intro us n h;simp only[b7]at h;subst h;simp[b7]
 |cons c cs ih=>
  intro us n h
  cases n with
  |zero=>simp[b7]
  |succ n=>
   simp only[b7]at h
   obtain⟨x,xs,rfl,h2,h3⟩:=h
   simp only[List.take_succ_cons,b7]
   exact⟨x,_,rfl,h2,ih n h3⟩
theorem aO{l l':List V}:∀{us us':List Value},b7 β S w D l us→b7 β S w D l' us'→b7 β S w D (l++l') (us++us'):=by
 induction l with
 |nil=>intro us us' h h';simp only[b7]at h;subst h;simpa using h'
 |cons c cs ih=>
  intro us us' h h'
  simp only[b7]at h
  obtain⟨x,xs,rfl,h2,h3⟩:=h
  simp only[List.cons_append,b7]
  exact⟨x,_,rfl,h2,ih h3 h'⟩
theorem ef1{l:List V}:∀{us:List Value} (n:Nat) {v:V} {u:Value},b7 β S w D l us→den β S w D v u→b7 β S w D (l.set n v) (us.set n u):=by
 induction l with
 |nil=>intro us n v u h _;simp only[b7]at h;subst h;simp[b7]
 |cons c cs ih=>
  intro us n v u h hv
  simp only[b7]at h
  obtain⟨x,xs,rfl,h2,h3⟩:=h
  cases n with
  |zero=>simp only[List.set_cons_zero,b7];exact⟨u,xs,rfl,hv,h3⟩
  |succ n=>simp only[List.set_cons_succ,b7];exact⟨x,_,rfl,h2,ih n h3 hv⟩
theorem gT{α:Type}{f:α→V}{g:α→Value}:∀{l:List α},(∀x∈l,den β S w D (f x) (g x))→b7 β S w D (l.map f) (l.map g):=by
 intro l
 induction l with
 |nil=>intro _;simp[b7]
 |cons x l ih=>intro h;simp only[List.map_cons,b7];exact⟨_,_,rfl,h x (.head _),ih fun y hy=>h y (.tail _ hy)⟩
theorem em0(live:Nat):∀{l:List V} {us:List Value} (i:Nat),b7 β S w D l us→b7 β S w D (zap live i l) us:=by
 intro l
 induction l with
 |nil=>intro us i h;simpa[zap]using h
 |cons c cs ih=>
  intro us i h
  simp only[b7]at h
  obtain⟨x,xs,rfl,h2,h3⟩:=h
  simp only[zap,b7]
  refine⟨x,xs,rfl,?_,ih (i+1) h3⟩
  split
  ·exact h2
  ·simp[den]
end
mutual
theorem sS{β:Bt}{S D:Pr}{w:World}:∀(v:V) (x u:Value),v.toVal=some x→den β S w D v u→u=x
 | .sc v,x,u,h,hd=>by
  simp only[V.toVal,Option.some.injEq]at h
  simp only[den]at hd
  rw[hd,h]
 | .agg cs,x,u,h,hd=>by
  simp only[V.toVal,Option.map_eq_some_iff]at h
  obtain⟨l,h1,rfl⟩:=h
  simp only[den]at hd
  obtain⟨us,rfl,h2,_⟩:=hd
  rw[lA cs l us h1 h2]
 | .tup cs,x,u,h,hd=>by
  simp only[V.toVal,Option.map_eq_some_iff]at h
  obtain⟨l,h1,rfl⟩:=h
  simp only[den]at hd
  obtain⟨us,rfl,h2⟩:=hd
  rw[lA cs l us h1 h2]
 | .fn f cs,x,u,h,hd=>by
  simp only[V.toVal,Option.map_eq_some_iff]at h
  obtain⟨l,h1,rfl⟩:=h
  simp only[den]at hd
  obtain⟨us,rfl,h2⟩:=hd
  rw[lA cs l us h1 h2]
 | .ifc t v,x,u,h,hd=>by
  simp only[V.toVal,Option.map_eq_some_iff]at h
  obtain⟨y,h1,rfl⟩:=h
  simp only[den]at hd
  obtain⟨z,rfl,h2⟩:=hd
  rw[sS v y z h1 h2]
 | .junk,x,u,h,hd=>by simp[V.toVal]at h
 | .ptr _ _,x,u,h,hd=>by simp[V.toVal]at h
 | .ep _ _ _ _,x,u,h,hd=>by simp[V.toVal]at h
 | .rp _,x,u,h,hd=>by simp[V.toVal]at h
 | .sl _ _ _ _,x,u,h,hd=>by simp[V.toVal]at h
 | .ro _ _ _,x,u,h,hd=>by simp[V.toVal]at h
 | .mp _,x,u,h,hd=>by simp[V.toVal]at h
 | .bf f fs cs,x,u,h,hd=>by
  simp only[V.toVal]at h
  split at h
  ·rename_i l m h1 h2
   simp only[Option.some.injEq]at h
   subst h
   simp only[den]at hd
   obtain⟨xs,us,rfl,h3,h4⟩:=hd
   rw[lA fs l xs h1 h3,lA cs m us h2 h4]
  ·cases h
theorem lA{β:Bt}{S D:Pr}{w:World}:∀(l:List V) (xs us:List Value),wD l=some xs→b7 β S w D l us→us=xs
 | [],xs,us,h,hd=>by
  simp only[wD,Option.some.injEq]at h
  simp only[b7]at hd
  rw[hd,h]
 |c::cs,xs,us,h,hd=>by
  simp only[wD]at h
  split at h
  ·rename_i x ys h1 h2
   simp only[Option.some.injEq]at h
   subst h
   simp only[b7]at hd
   obtain⟨y,zs,rfl,h3,h4⟩:=hd
   rw[sS c x y h1 h3,lA cs ys zs h2 h4]
  ·cases h
end
theorem dm5{β:Bt}{S D:Pr}{w:World}{v:V}{u:Value}(h1:v.one=true)(h:den β S w D v u):u.oneCell'=true:=by
 cases v with
 |junk=>simp[V.one]at h1
 |agg cs=>simp[V.one]at h1
 |tup cs=>simp[V.one]at h1
 |sc x=>simp only[den]at h;subst h;simpa[V.one]using h1
 |ptr i o=>simp only[den]at h;exact h.1.2
 |ep i k j o=>simp only[den]at h;exact h.1.2
 |sl i k o l=>simp only[den]at h;exact h.1.2
 |mp i=>simp only[den]at h;exact h.1.2
 |bf f fs cs=>simp only[den]at h;obtain⟨xs,us,rfl,_⟩:=h;rfl
 |rp cs=>simp only[den]at h;obtain⟨a,us,rfl,_⟩:=h;rfl
 |ro k n f=>simp only[den]at h;obtain⟨_,A,m,a,us,rfl,_⟩:=h;rfl
 |fn f cs=>simp only[den]at h;obtain⟨us,rfl,_⟩:=h;rfl
 |ifc t v=>simp only[den]at h;obtain⟨x,rfl,_⟩:=h;rfl
theorem xG{β:Bt}{S D:Pr}{w:World}:∀{l:List V} {us:List Value},l.all V.one=true→b7 β S w D l us→us.all Value.oneCell'=true
 | [],us,_,h=>by simp only[b7]at h;subst h;rfl
 |c::cs,us,h1,h=>by
  simp only[b7]at h
  obtain⟨x,xs,rfl,h2,h3⟩:=h
  simp only[List.all_cons,Bool.and_eq_true]at h1⊢
  exact⟨dm5 h1.1 h2,xG h1.2 h3⟩
theorem zG{β:Bt}{S D:Pr}{w:World}{v:V}{u:Value}(h1:v.cells.all V.one=true)(h:den β S w D v u):
 ∃us:List Value,u.cells=us.toArray∧b7 β S w D v.cells us∧us.all Value.oneCell'=true:=by
 cases v with
 |agg cs=>
  simp only[den]at h
  obtain⟨us,rfl,h2,h3⟩:=h
  exact⟨us,rfl,h2,h3⟩
 |_=>
  simp only[V.cells,List.all_cons,List.all_nil,Bool.and_true]at h1⊢
  have ho:=dm5 h1 h
  refine⟨[u],?_,by simp only[b7];exact⟨u,[],rfl,h,rfl⟩,by simp[ho]⟩
  cases u<;>simp_all [Value.oneCell',Value.cells]
theorem jS{β:Bt}{S D:Pr}{w:World}(l:List Value):b7 β S w D (l.map .sc) l:=by
 induction l with
 |nil=>simp[b7]
 |cons x l ih=>simp only[List.map_cons,b7];exact⟨x,l,rfl,by simp[den],ih⟩
theorem qA{β:Bt}{S D:Pr}{w:World}(u:Value):den β S w D (kX u) u:=by
 unfold kX
 split
 ·split
  ·rename_i cs h
   simp only[den]
   exact⟨cs.toList,by simp,jS _,h⟩
  ·simp[den]
 ·simp[den]
theorem dt0{β:Bt}{S D:Pr}{w:World}(u:Value):den β S w D (er0 u) u:=by
 unfold er0
 split
 ·rename_i vs
  simp only[den]
  refine⟨vs.toList,by simp,?_⟩
  have:=gT (β:=β) (S:=S) (w:=w) (D:=D) (f:=kX) (g:=fun u=>u) (l:=vs.toList) (fun x _=>qA x)
  simpa using this
 ·exact qA u
end Go.Am
/- Operations that only read. -/
namespace Go.Am
open Go
theorem ch6{n:Int}{k:Nat→Option Ans}:∀m j:Nat,bp8 n m j k=if(j:Int)≤n∧n< ((j+m:Nat):Int)then k n.toNat else none
 |0,j=>by rw[bp8,if_neg (by omega)]
 |m+1,j=>by
  rw[bp8,ch6 m (j+1)]
  by_cases h:n=(j:Int)
  ·rw[if_pos h,if_pos (by omega)];congr 1;omega
  ·rw[if_neg h]
   by_cases h2:((j+1:Nat):Int)≤n∧n< ((j+1+m:Nat):Int)
   ·rw[if_pos h2,if_pos (by omega)]
   ·rw[if_neg h2,if_neg (by omega)]
theorem do0{n:Int}{k:Nat→Option Ans}{m:Nat}:bp8 n m 0 k=if 0≤n∧n< (m:Int)then k n.toNat else none:=by
 rw[ch6,Nat.zero_add];rfl
section
variable {P:Program} {β:Bt} {S D:Pr} {w:World}
theorem kN{t:TypeId}{n:Nat}(h:szP P t=some n):(sizeOf t).run P w= .ok n w:=by
 unfold szP at h
 cases hi:P.info? t with
 |none=>rw[hi]at h;cases h
 |some i=>
  rw[hi]at h
  simp only[Option.map_some,Option.some.injEq]at h
  simp[sizeOf,typeInfo,hi,h]
theorem zY{t:TypeId}{b:Bool}(h:dd3 P t=some b):(isAgg t).run P w= .ok b w:=by
 unfold dd3 at h
 cases hu:P.underlying t with
 |none=>rw[hu]at h;cases h
 |some d=>
  rw[hu]at h
  simp only[isAgg,Sem.run_bind,run_underlying hu,Result.andThen_ok]
  cases d<;>simp_all
theorem j4{t e:TypeId}(h:jG P t=some e):P.underlying t=some (.slice e):=by
 unfold jG at h
 split at h
 ·simp only[Option.some.injEq]at h;subst h;assumption
 ·cases h
theorem zA{t e:TypeId}{n:Nat}(h:dy3 P t=some (n,e)):P.underlying t=some (.array n e):=by
 unfold dy3 at h
 split at h
 ·simp only[Option.some.injEq,Prod.mk.injEq]at h;obtain⟨rfl,rfl⟩:=h;assumption
 ·cases h
theorem bq5{t u:TypeId}{f o:Nat}(h:dz4 P t f=some (o,u)):∃fs fd,P.underlying t=some (.struct fs)∧fs[f]? =some fd∧fd.offset=o∧fd.type=u:=by
 unfold dz4 at h
 split at h
 ·rename_i fs hu
  simp only[Option.map_eq_some_iff,Prod.mk.injEq]at h
  obtain⟨fd,h1,h2,h3⟩:=h
  exact⟨fs,fd,hu,h1,h2,h3⟩
 ·cases h
theorem pureL_all:∀{l:List V},j7 l=true↔∀v∈l,v.pure=true
 | []=>by simp[j7]
 |c::cs=>by simp[j7,pureL_all (l:=cs)]
theorem af1{l:List V}(n:Nat)(h:j7 l=true):j7 (l.drop n)=true:=pureL_all.2 fun v hv=>pureL_all.1 h v (List.mem_of_mem_drop hv)
theorem mS{us:List Value}{p:Value→Bool}(n:Nat)(h:us.all p=true):(us.drop n).all p=true:=by
 rw[List.all_eq_true]at h⊢
 exact fun x hx=>h x (List.mem_of_mem_drop hx)
theorem tN{us:List Value}{p:Value→Bool}(n:Nat)(h:us.all p=true):(us.take n).all p=true:=by
 rw[List.all_eq_true]at h⊢
 exact fun x hx=>h x (List.mem_of_mem_take hx)
theorem yE{t:TypeId}{cs:List V}{us:List Value}{o:Nat}{v:V}{p:Addr}(h:seg P t cs o=some v)(hd:b7 β S w D cs us)(h1:us.all Value.oneCell'=true)
 (hc:∀i x,us[o+i]? =some x→w.cell? (p.add i)=some x):∃y,(loadVar t p).run P w= .ok y w∧den β S w D v y:=by
 unfold seg at h
 split at h
 ·rename_i ha
  split at h
  ·rename_i n hn
   split at h
   ·rename_i hle
    simp only[Option.some.injEq]at h
    subst h
    have hlen:=m9 hd
    have hl:((us.drop o).take n).length=n:=by simp;omega
    have hrun:=run_loadCells_list (P:=P) (w:=w) p ((us.drop o).take n) (fun j x hx=>hc j x (by
     rw[List.getElem?_take]at hx
     split at hx
     ·rwa [List.getElem?_drop]at hx
     ·cases hx))
    rw[hl]at hrun
    refine⟨.agg ((us.drop o).take n).toArray,by simp[loadVar,Sem.run_bind,zY ha,kN hn,hrun],?_⟩
    simp only[den]
    exact⟨_,rfl,yY n (pB o hd),tN n (mS o h1)⟩
   ·cases h
  ·cases h
 ·rename_i ha
  obtain⟨u,hu,hdu⟩:=tH hd o v h
  have:=hc 0 u (by simpa using hu)
  have e:p.add 0=p:=by simp[Addr.add]
  rw[e]at this
  exact⟨u,by simp[loadVar,Sem.run_bind,zY ha,load,Sem.run,this],hdu⟩
 ·cases h
theorem cs8{t:TypeId}{cs:List V}{us:List Value}{o:Nat}{v:V}(h:seg P t cs o=some v)(hd:b7 β S w D cs us)(h1:us.all Value.oneCell'=true):
 ∃y,(part t us.toArray o).run P w= .ok y w∧den β S w D v y:=by
 unfold seg at h
 split at h
 ·rename_i ha
  split at h
  ·rename_i n hn
   split at h
   ·simp only[Option.some.injEq]at h
    subst h
    refine⟨.agg ((us.drop o).take n).toArray,?_,?_⟩
    ·simp only[part,Sem.run_bind,zY ha,Result.andThen_ok,if_true,kN hn,Sem.run_pure]
     congr 2
     simp[List.extract_eq_take_drop]
    ·simp only[den]
     exact⟨_,rfl,yY n (pB o hd),tN n (mS o h1)⟩
   ·cases h
  ·cases h
 ·rename_i ha
  obtain⟨u,hu,hdu⟩:=tH hd o v h
  exact⟨u,by simp[part,Sem.run_bind,zY ha,hu],hdu⟩
 ·cases h
end
def ax1(β:Bt)(S:Pr)(w:World)(D:Pr)(k n:Nat)(f:Nat→List V)(cur:Array Value):Prop:=
 ∀j,j<n→∃us:List Value,b7 β S w D (f j) us∧j7 (f j)=true∧us.length=k∧us.all Value.oneCell'=true∧∀i x,us[i]? =some x→cur[j*k+i]? =some x
def aj0(β:Bt)(S:Pr)(w:World)(D:Pr):List (Int×V)→List MapEntry→Prop
 | [],es=>es=[]
 | (n,v)::l,es=>∃e es',es=e::es'∧e.key= .int .i64 n∧den β S w D v e.val∧v.pure=true∧aj0 β S w D l es'
def cB(s:ByteArray):List MapEntry→Nat→Option (Nat×Value)
 | [],_=>none
 |e::es,i=>match e.key with| .string q=>if(s==q)=true then some (i,e.val)else cB s es (i+1) |_=>cB s es (i+1)
def cy2(β:Bt)(S:Pr)(w:World)(D:Pr)(n:Nat)(g:ByteArray→Bool)(f:ByteArray→V)(es:List MapEntry):Prop:=
 es.length=n∧(∀e∈es,∃s,e.key= .string s)∧∀s,match cB s es 0 with
  |some p=>g s=true∧den β S w D (f s) p.2∧(f s).pure=true
  |none=>g s=false
def b5(β:Bt)(S:Pr)(w:World)(D:Pr)(b m:Nat):Chunk→Prop
 | .blk cs=>0<m∧∃(us:List Value) (T:TypeId),w.heap[b]? =some (.cells us.toArray T (0,0))∧b7 β S w D cs us∧us.all Value.oneCell'=true
 | .tbk T cs=>0<m∧∃us:List Value,w.heap[b]? =some (.cells us.toArray T (0,0))∧b7 β S w D cs us∧us.all Value.oneCell'=true
 | .row e k n f=>n≤m∧m≤maxLen∧0<k∧(0<m→∃cur:Array Value,w.heap[b]? =some (.cells cur e (0,0))∧cur.size=m*k∧ax1 β S w D k n f cur)
 | .iter s p=>0<m∧w.heap[b]? =some (.stringIter s p)
 | .map l=>0<m∧∃(es:List MapEntry) (clock:Nat),w.heap[b]? =some (.map es.toArray clock)∧aj0 β S w D l es
 | .smap n g f=>0<m∧∃(es:List MapEntry) (clock:Nat),w.heap[b]? =some (.map es.toArray clock)∧cy2 β S w D n g f es
structure Mem(β:Bt)(S D:Pr)(H:Hp)(w:World):Prop where
 live:∀i c,H i=some c→∃b m,β i=some (b,m)∧b5 β S w D b m c
 dead:∀i,H i=none→β i=none
 dom:∀i b m,β i=some (b,m)→D i
 own:∀i b m,β i=some (b,m)→0<m→b<w.heap.size∧¬S b
 inj:∀i j b m m',β i=some (b,m)→β j=some (b,m')→0<m→0<m'→i=j
 st:∀b,S b→b<w.heap.size
structure Evo(β:Bt)(S:Pr)(w:World)(β':Bt)(S':Pr)(w':World):Prop where
 os:w'.os=w.os
 tape:w'.tape=w.tape
 output:w'.output=w.output
 size:w.heap.size≤w'.heap.size
 keep:∀b,b<w.heap.size→(∀i m,0<m→β i≠some (b,m))→w'.heap[b]? =w.heap[b]?
 sub:∀b,S b→S' b
 newS:∀b,S' b→S b∨w.heap.size≤b∨∃i m,0<m∧β i=some (b,m)
 newO:∀i b m,β' i=some (b,m)→0<m→w.heap.size≤b∨∃j m',0<m'∧β j=some (b,m')
theorem Evo.refl(β:Bt)(S:Pr)(w:World):Evo β S w β S w:=⟨rfl,rfl,rfl,Nat.le_refl _,fun _ _ _=>rfl,fun _ h=>h,fun _ h=>.inl h,fun i b m h h0=>.inr ⟨i,m,h0,h⟩⟩
theorem Evo.trans{β β' β'':Bt}{S S' S'':Pr}{w w' w'':World}(h:Evo β S w β' S' w')(g:Evo β' S' w' β'' S'' w''):Evo β S w β'' S'' w'':=by
 refine⟨g.os.trans h.os,g.tape.trans h.tape,g.output.trans h.output,Nat.le_trans h.size g.size,?_,fun b hb=>g.sub b (h.sub b hb),?_,?_⟩
 ·intro b hb hn
  rw[g.keep b (Nat.lt_of_lt_of_le hb h.size) (fun i m h0 he=>by
   rcases h.newO i b m he h0 with h1| ⟨j,m',h01,h1⟩
   ·omega
   ·exact hn j m' h01 h1)]
  exact h.keep b hb hn
 ·intro b hb
  rcases g.newS b hb with h1|h1| ⟨i,m,h0,h1⟩
  ·exact h.newS b h1
  ·exact .inr (.inl (Nat.le_trans h.size h1))
  ·rcases h.newO i b m h1 h0 with h2|h2
   ·exact .inr (.inl h2)
   ·exact .inr (.inr h2)
 ·intro i b m hb h0
  rcases g.newO i b m hb h0 with h1| ⟨j,m',h01,h1⟩
  ·exact .inl (Nat.le_trans h.size h1)
  ·exact h.newO j b m' h1 h01
theorem Evo.kept{β β':Bt}{S S' D:Pr}{H:Hp}{w w':World}(h:Evo β S w β' S' w')(hM:Mem β S D H w):Kept S w w':=
 fun b hb=>h.keep b (hM.st b hb) fun i m h0 he=>(hM.own i b m he h0).2 hb
theorem rN{β β':Bt}{S S' D D':Pr}{w w':World}{k n:Nat}{f:Nat→List V}{cur:Array Value}(hS:∀b,S b→S' b)(hk:Kept S w w')(h:ax1 β S w D k n f cur):ax1 β' S' w' D' k n f cur:=by
 intro j hj
 obtain⟨us,h1,h2,h3,h4,h5⟩:=h j hj
 exact⟨us,l8 hS hk _ _ h2 h1,h2,h3,h4,h5⟩
theorem nA{β β':Bt}{S S' D D':Pr}{w w':World}(hS:∀b,S b→S' b)(hk:Kept S w w'):∀{l:List (Int×V)} {es:List MapEntry},aj0 β S w D l es→aj0 β' S' w' D' l es
 | [],es,h=>h
 | (n,v)::l,es,h=>by
  obtain⟨e,es',h1,h2,h3,h4,h5⟩:=h
  exact⟨e,es',h1,h2,m8 hS hk _ _ h4 h3,h4,nA hS hk h5⟩
theorem wJ{β β':Bt}{S S' D D':Pr}{w w':World}{n:Nat}{g:ByteArray→Bool}{f:ByteArray→V}{es:List MapEntry}(hS:∀b,S b→S' b)(hk:Kept S w w')(h:cy2 β S w D n g f es):cy2 β' S' w' D' n g f es:=by
 refine⟨h.1,h.2.1,fun s=>?_⟩
 have:=h.2.2 s
 split at this
 ·rename_i p hp
  exact⟨this.1,m8 hS hk _ _ this.2.2 this.2.1,this.2.2⟩
 ·exact this
theorem j6{β β':Bt}{S S' D D':Pr}{w w':World}{b m:Nat}{c:Chunk}(hβ:∀i,D i→β' i=β i∨β' i=none)(hS:∀b,S b→S' b)(hD:∀i,D i→D' i)(hk:Kept S w w')
 (hb:0<m→w'.heap[b]? =w.heap[b]?) (h:b5 β S w D b m c):b5 β' S' w' D' b m c:=by
 cases c with
 |blk cs=>
  simp only[b5]at h⊢
  obtain⟨h0,us,T,h1,h2,h3⟩:=h
  exact⟨h0,us,T,by rw[hb h0];exact h1,i5 hβ hS hD hk _ _ h2,h3⟩
 |tbk T cs=>
  simp only[b5]at h⊢
  obtain⟨h0,us,h1,h2,h3⟩:=h
  exact⟨h0,us,by rw[hb h0];exact h1,i5 hβ hS hD hk _ _ h2,h3⟩
 |row e k n f=>
  simp only[b5]at h⊢
  obtain⟨h1,h2,h3,hc⟩:=h
  refine⟨h1,h2,h3,fun h0=>?_⟩
  obtain⟨cur,h4,h5,h6⟩:=hc h0
  exact⟨cur,by rw[hb h0];exact h4,h5,rN hS hk h6⟩
 |iter s p=>simp only[b5]at h⊢;rw[hb h.1];exact h
 |map l=>simp only[b5]at h⊢;obtain⟨h0,es,clock,h1,h2⟩:=h;exact⟨h0,es,clock,by rw[hb h0];exact h1,nA hS hk h2⟩
 |smap n g f=>simp only[b5]at h⊢;obtain⟨h0,es,clock,h1,h2⟩:=h;exact⟨h0,es,clock,by rw[hb h0];exact h1,wJ hS hk h2⟩
section
variable {P:Program} {β:Bt} {S D:Pr} {H:Hp} {w:World} {k:KR} {r:Ans}
def ck3(P:Program)(β:Bt)(S:Pr)(w:World)(D:Pr)(k:KR)(r:Ans)(s:Sem Value):Prop:=∃v,k (.val v [])=some r∧∃y,s.run P w= .ok y w∧den β S w D v y
theorem cz9(hM:Mem β S D H w){t:TypeId}{x:V}{u:Value}(hx:den β S w D x u)(h:yW P t x H k=some r):ck3 P β S w D k r (Instr.loadAt t u):=by
 unfold yW at h
 split at h
 ·rename_i i o
  split at h
  ·rename_i cs hc
   split at h
   ·rename_i v hv
    obtain⟨b,m,hb,hr⟩:=hM.live i _ hc
    simp only[b5]at hr
    obtain⟨h0,us,T,h1,h2,h3⟩:=hr
    simp only[den]at hx
    have hu:=hx.2 b m hb
    obtain⟨y,hy1,hy2⟩:=yE (p:=⟨b,o,none⟩) hv h2 h3 (fun i x hx=>by rw[dN,cell_of_row w b (o+i) _ _ _ h1];simpa using hx)
    exact⟨v,h,y,by rw[hu];simp[Instr.loadAt,Instr.sureAddr,hy1],hy2⟩
   ·cases h
  ·rename_i T cs hc
   split at h
   ·rename_i v hv
    obtain⟨b,m,hb,hr⟩:=hM.live i _ hc
    simp only[b5]at hr
    obtain⟨h0,us,h1,h2,h3⟩:=hr
    simp only[den]at hx
    have hu:=hx.2 b m hb
    obtain⟨y,hy1,hy2⟩:=yE (p:=⟨b,o,none⟩) hv h2 h3 (fun i x hx=>by rw[dN,cell_of_row w b (o+i) _ _ _ h1];simpa using hx)
    exact⟨v,h,y,by rw[hu];simp[Instr.loadAt,Instr.sureAddr,hy1],hy2⟩
   ·cases h
  ·cases h
 ·rename_i i z j o
  split at h
  ·rename_i e kk n f hc
   split at h
   ·rename_i hj
    obtain⟨hj,rfl⟩:=hj
    split at h
    ·rename_i v hv
     obtain⟨b,m,hb,hr⟩:=hM.live i _ hc
     simp only[b5]at hr
     obtain⟨h1,h2,h3,hcur⟩:=hr
     obtain⟨cur,h4,h5,h6⟩:=hcur (by omega)
     obtain⟨us,g1,g2,g3,g4,g5⟩:=h6 j hj
     simp only[den]at hx
     have hu:=hx.2 b m hb
     obtain⟨y,hy1,hy2⟩:=yE (p:=⟨b,j*z+o,none⟩) hv g1 g4 (fun i x hx=>by
      rw[dN,cell_of_row w b (j*z+o+i) _ _ _ h4,Nat.add_assoc];exact g5 (o+i) x hx)
     exact⟨v,h,y,by rw[hu];simp[Instr.loadAt,Instr.sureAddr,hy1],hy2⟩
    ·cases h
   ·cases h
  ·cases h
 ·rename_i cs
  split at h
  ·rename_i v hv
   simp only[den]at hx
   obtain⟨a,us,h1,h2,h3,h4,h5,h6⟩:=hx
   obtain⟨y,hy1,hy2⟩:=yE (p:=a) hv h3 h5 (fun i x hx=>h6 i x (by simpa using hx))
   exact⟨v,h,y,by rw[h1];simp[Instr.loadAt,Instr.sureAddr,hy1],hy2⟩
  ·cases h
 ·cases h
theorem mN{y:V}{u:Value}{n:Int}(hy:den β S w D y u)(h:bh4 y=some n):∃kd,u= .int kd n:=by
 unfold bh4 at h
 split at h
 ·simp only[Option.some.injEq]at h
  simp only[den]at hy
  subst h hy
  exact⟨_,rfl⟩
 ·cases h
theorem dJ{i:Nat}{q:Option Ans}(hM:Mem β S D H w)(h:qR H i q=some r):q=some r∧∃b m,β i=some (b,m):=by
 unfold qR at h
 split at h
 ·rename_i c hc
  obtain⟨b,m,hb,_⟩:=hM.live i c hc
  exact⟨h,b,m,hb⟩
 ·cases h
theorem ax8(hM:Mem β S D H w){t:TypeId}{x:V}{u:Value}{f:Nat}(hx:den β S w D x u)(h:jM P t x f H k=some r):ck3 P β S w D k r (Instr.fieldAt t u f):=by
 unfold jM at h
 split at h
 ·rename_i p ty hf
  obtain⟨fs,fd,hu,hg,ho,hty⟩:=bq5 hf
  split at h
  ·rename_i z hz
   have hsz:(sizeOf fd.type).run P w= .ok (z+1) w:=kN (by rw[hty];exact hz)
   have key:∀ad:Addr,u= .pointer (some ad)→(Instr.fieldAt t u f).run P w= .ok (.pointer (some (ad.add p))) w:=by
    rintro ad rfl
    simp[Instr.fieldAt,Sem.run_bind,run_underlying hu,hg,Instr.sureAddr,fieldPlace,hsz,ho]
   split at h
   ·rename_i i o
    obtain⟨h,b,m,hb⟩:=dJ hM h
    simp only[den]at hx
    refine⟨_,h,_,key _ (hx.2 b m hb),?_⟩
    simp only[den,dN]
    refine⟨⟨hx.1.1,rfl⟩,fun b' m' hb'=>?_⟩
    rw[hb]at hb'
    cases hb'
    rfl
   ·rename_i i c j o
    obtain⟨h,b,m,hb⟩:=dJ hM h
    simp only[den]at hx
    refine⟨_,h,_,key _ (hx.2 b m hb),?_⟩
    simp only[den,dN]
    refine⟨⟨hx.1.1,rfl⟩,fun b' m' hb'=>?_⟩
    rw[hb]at hb'
    cases hb'
    rw[Nat.add_assoc]
   ·rename_i cs
    refine⟨_,h,?_⟩
    simp only[den]at hx
    obtain⟨a,us,h1,h2,h3,h4,h5,h6⟩:=hx
    refine⟨_,key a h1,?_⟩
    simp only[den]
    refine⟨a.add p,us.drop p,rfl,by rw[dV];exact h2,pB p h3,?_,mS p h5,fun i x hx=>?_⟩
    ·exact af1 p h4
    ·rw[zD];rw[List.getElem?_drop]at hx;exact h6 _ x hx
   ·cases h
  ·cases h
 ·cases h
theorem rT{t e:TypeId}{z n i:Nat}{m:Nat}{kd:IntKind}{A:Addr}(he:P.underlying t=some (.slice e))(hz:szP P e=some z)(hi:i<n):
 (Instr.indexAt t (.slice (some A) n m) (.int kd (i:Nat))).run P w= .ok (.pointer (some (A.add (i*z)))) w:=by
 simp[Instr.indexAt,asIntOf,Sem.run_bind,run_underlying he,hi,kN hz]
theorem nO{t e:TypeId}{z n i:Nat}{kd:IntKind}{A:Addr}(he:P.underlying t=some (.array n e))(hz:szP P e=some z)(hi:i<n):
 (Instr.indexAt t (.pointer (some A)) (.int kd (i:Nat))).run P w= .ok (.pointer (some (A.add (i*z)))) w:=by
 simp[Instr.indexAt,asIntOf,Sem.run_bind,run_underlying he,hi,kN hz,Instr.sureAddr]
theorem ay0(hM:Mem β S D H w){t:TypeId}{x y:V}{u v:Value}(hx:den β S w D x u)(hy:den β S w D y v)(h:oI P t x y H k=some r):ck3 P β S w D k r (Instr.indexAt t u v):=by
 unfold oI at h
 simp only[do0,dl8]at h
 split at h
 ·rename_i n hn
  obtain⟨kd,rfl⟩:=mN hy hn
  split at h
  ·rename_i i z o l
   split at h
   ·rename_i e he
    split at h
    ·rename_i hc
     obtain⟨hz,h0,hl⟩:=hc
     obtain⟨h,b,m,hb⟩:=dJ hM h
     obtain⟨j,rfl⟩:=Int.eq_ofNat_of_zero_le h0
     simp only[den]at hx
     obtain⟨g1,A,rfl,g2⟩:=hx.2 b m hb
     obtain rfl:=g2 (by omega)
     refine⟨_,h,_,rT (j4 he) hz (by omega),?_⟩
     simp only[den,dN,Int.toNat_natCast]
     refine⟨⟨hx.1.1,rfl⟩,fun b' m' hb'=>?_⟩
     rw[hb]at hb'
     cases hb'
     rw[Nat.add_mul,Nat.add_zero]
    ·cases h
   ·cases h
  ·rename_i z l f
   split at h
   ·rename_i e he
    split at h
    ·rename_i hc
     obtain⟨hz,h0,hl⟩:=hc
     obtain⟨j,rfl⟩:=Int.eq_ofNat_of_zero_le h0
     simp only[den]at hx
     obtain⟨h0,A,m,a,us,rfl,g2,g3,g4⟩:=hx
     obtain⟨rfl,hS⟩:=g3 (by omega)
     refine⟨_,h,_,rT (j4 he) hz (by omega),?_⟩
     obtain⟨q1,q2,q3,q4,q5⟩:=g4 j (by omega)
     simp only[den,Int.toNat_natCast]
     exact⟨a.add (j*z),us j,rfl,by rw[dV];exact hS,q1,q2,q4,fun i x hx=>by rw[zD];exact q5 i x hx⟩
    ·cases h
   ·cases h
  ·rename_i i o
   split at h
   ·rename_i l e ha
    split at h
    ·rename_i z hz
     split at h
     ·rename_i hc
      obtain⟨h0,hl⟩:=hc
      obtain⟨h,b,m,hb⟩:=dJ hM h
      obtain⟨j,rfl⟩:=Int.eq_ofNat_of_zero_le h0
      simp only[den]at hx
      rw[hx.2 b m hb]
      refine⟨_,h,_,nO (zA ha) hz (by omega),?_⟩
      simp only[den,dN,Int.toNat_natCast]
      refine⟨⟨hx.1.1,rfl⟩,fun b' m' hb'=>?_⟩
      rw[hb]at hb'
      cases hb'
      rfl
     ·cases h
    ·cases h
   ·cases h
  ·rename_i i c q o
   split at h
   ·rename_i l e ha
    split at h
    ·rename_i z hz
     split at h
     ·rename_i hc
      obtain⟨h0,hl⟩:=hc
      obtain⟨h,b,m,hb⟩:=dJ hM h
      obtain⟨j,rfl⟩:=Int.eq_ofNat_of_zero_le h0
      simp only[den]at hx
      rw[hx.2 b m hb]
      refine⟨_,h,_,nO (zA ha) hz (by omega),?_⟩
      simp only[den,dN,Int.toNat_natCast]
      refine⟨⟨hx.1.1,rfl⟩,fun b' m' hb'=>?_⟩
      rw[hb]at hb'
      cases hb'
      rw[Nat.add_assoc]
     ·cases h
    ·cases h
   ·cases h
  ·rename_i cs
   split at h
   ·rename_i l e ha
    split at h
    ·rename_i z hz
     split at h
     ·rename_i hc
      obtain⟨h0,hl⟩:=hc
      obtain⟨j,rfl⟩:=Int.eq_ofNat_of_zero_le h0
      simp only[den]at hx
      obtain⟨a,us,rfl,h2,h3,h4,h5,h6⟩:=hx
      refine⟨_,h,_,nO (zA ha) hz (by omega),?_⟩
      simp only[den,Int.toNat_natCast]
      refine⟨a.add (j*z),us.drop (j*z),rfl,by rw[dV];exact h2,pB _ h3,af1 _ h4,mS _ h5,fun i x hx=>?_⟩
      rw[zD];rw[List.getElem?_drop]at hx;exact h6 _ x hx
     ·cases h
    ·cases h
   ·cases h
  ·cases h
 ·cases h
theorem ac6{t e:TypeId}{z n m l h:Nat}{A:Option Addr}{lo hi:Option Value}(he:P.underlying t=some (.slice e))(hz:szP P e=some z)(hn:n≤m)
 (hlo:(lo=none∧l=0)∨∃kd,lo=some (.int kd (l:Nat))) (hhi:(hi=none∧h=n)∨∃kd,hi=some (.int kd (h:Nat))) (h1:l≤h) (h2:h≤n):
 (Instr.sliceAt t (.slice A n m) lo hi none).run P w= .ok (.slice (if m=l then A else A.map (·.add (l*z))) (h-l) (m-l)) w:=by
 have e1:h≤m:=by omega
 have e2:l≤h:=by omega
 rcases hlo with⟨rfl,rfl⟩ | ⟨kd,rfl⟩<;>rcases hhi with⟨rfl,rfl⟩ | ⟨kd',rfl⟩<;>
  simp[Instr.sliceAt,Instr.slice,Instr.sliceBounds,Instr.sliceBound,asIntOf,Sem.run_bind,run_underlying he,kN hz,e1,e2]
theorem ar5{t:TypeId}{s:ByteArray}{l h:Nat}{lo hi:Option Value}(he:P.underlying t=some .string)
 (hlo:(lo=none∧l=0)∨∃kd,lo=some (.int kd (l:Nat))) (hhi:(hi=none∧h=s.size)∨∃kd,hi=some (.int kd (h:Nat))) (h1:l≤h) (h2:h≤s.size):
 (Instr.sliceAt t (.string s) lo hi none).run P w= .ok (.string (s.extract l h)) w:=by
 have e1:h≤s.size:=by omega
 have e2:l≤h:=by omega
 rcases hlo with⟨rfl,rfl⟩ | ⟨kd,rfl⟩<;>rcases hhi with⟨rfl,rfl⟩ | ⟨kd',rfl⟩<;>
  simp[Instr.sliceAt,Instr.slice,Instr.sliceBounds,Instr.sliceBound,asIntOf,Sem.run_bind,run_underlying he,e1,e2]
theorem cv6(hM:Mem β S D H w){t:TypeId}{x:V}{u:Value}{lo hi:Option Value}{l h:Option Int}(hx:den β S w D x u)
 (hlo:(lo=none∧l=some 0)∨∃kd n,lo=some (.int kd n)∧l=some n) (hhi:(hi=none∧h=dt9 x)∨∃kd n,hi=some (.int kd n)∧h=some n)
 (he:yR P t x l h H k=some r):ck3 P β S w D k r (Instr.sliceAt t u lo hi none):=by
 unfold yR at he
 simp only[dl8]at he
 split at he
 ·rename_i _ _ l h
  split at he
  ·rename_i i z o n
   split at he
   ·rename_i e hel
    split at he
    ·rename_i hc
     obtain⟨hz,h0,h1,h2⟩:=hc
     obtain⟨he,b,m,hb⟩:=dJ hM he
     obtain⟨l,rfl⟩:=Int.eq_ofNat_of_zero_le h0
     obtain⟨h,rfl⟩:=Int.eq_ofNat_of_zero_le (Int.le_trans h0 h1)
     simp only[den]at hx
     obtain⟨g1,A,rfl,g2⟩:=hx.2 b m hb
     refine⟨_,he,_,ac6 (l:=l) (h:=h) (n:=n) (j4 hel) hz (by omega) ?_ ?_ (by omega) (by omega),?_⟩
     ·rcases hlo with⟨q1,q2⟩ | ⟨kd,n',q1,q2⟩
      ·exact .inl ⟨q1,by simp at q2;omega⟩
      ·simp only[Option.some.injEq]at q2;subst q2;exact .inr ⟨kd,q1⟩
     ·rcases hhi with⟨q1,q2⟩ | ⟨kd,n',q1,q2⟩
      ·exact .inl ⟨q1,by simp[dt9]at q2;omega⟩
      ·simp only[Option.some.injEq]at q2;subst q2;exact .inr ⟨kd,q1⟩
     ·simp only[den,Int.toNat_natCast]
      refine⟨⟨hx.1.1,rfl⟩,fun b' m' hb'=>?_⟩
      rw[hb]at hb'
      cases hb'
      refine⟨by omega,?_⟩
      by_cases hml:m-o=l
      ·rw[if_pos hml]
       exact⟨A,by congr 1;omega,fun hlt=>by omega⟩
      ·rw[if_neg hml]
       refine⟨A.map (·.add (l*z)),by congr 1;omega,fun hlt=>?_⟩
       rw[g2 (by omega),Option.map_some,dN,Nat.add_mul]
    ·cases he
   ·cases he
  ·rename_i z n f
   split at he
   ·rename_i e hel
    split at he
    ·rename_i hc
     obtain⟨hz,h0,h1,h2⟩:=hc
     obtain⟨l,rfl⟩:=Int.eq_ofNat_of_zero_le h0
     obtain⟨h,rfl⟩:=Int.eq_ofNat_of_zero_le (Int.le_trans h0 h1)
     simp only[den]at hx
     obtain⟨hmx,A,m,a,us,rfl,g2,g3,g4⟩:=hx
     refine⟨_,he,_,ac6 (l:=l) (h:=h) (n:=n) (j4 hel) hz g2 ?_ ?_ (by omega) (by omega),?_⟩
     ·rcases hlo with⟨q1,q2⟩ | ⟨kd,n',q1,q2⟩
      ·exact .inl ⟨q1,by simp at q2;omega⟩
      ·simp only[Option.some.injEq]at q2;subst q2;exact .inr ⟨kd,q1⟩
     ·rcases hhi with⟨q1,q2⟩ | ⟨kd,n',q1,q2⟩
      ·exact .inl ⟨q1,by simp[dt9]at q2;omega⟩
      ·simp only[Option.some.injEq]at q2;subst q2;exact .inr ⟨kd,q1⟩
     ·simp only[den,Int.toNat_natCast]
      refine⟨by omega,_,m-l,a.add (l*z),fun j=>us (l+j),rfl,by omega,fun hlt=>?_,fun j hj=>?_⟩
      ·obtain⟨rfl,hS⟩:=g3 (by omega)
       rw[if_neg (by omega)]
       exact⟨rfl,by rw[dV];exact hS⟩
      ·obtain⟨q1,q2,q3,q4,q5⟩:=g4 (l+j) (by omega)
       exact⟨q1,q2,q3,q4,fun i x hx=>by rw[zD,←Nat.add_assoc,←Nat.add_mul];exact q5 i x hx⟩
    ·cases he
   ·cases he
  ·rename_i s
   split at he
   ·rename_i hc
    obtain⟨hu,h0,h1,h2⟩:=hc
    obtain⟨l,rfl⟩:=Int.eq_ofNat_of_zero_le h0
    obtain⟨h,rfl⟩:=Int.eq_ofNat_of_zero_le (Int.le_trans h0 h1)
    simp only[den]at hx
    subst hx
    have hu':P.underlying t=some .string:=by
     unfold gH at hu
     split at hu
     ·assumption
     ·cases hu
    refine⟨_,he,_,ar5 (l:=l) (h:=h) hu' ?_ ?_ (by omega) (by omega),by simp[den]⟩
    ·rcases hlo with⟨q1,q2⟩ | ⟨kd,n',q1,q2⟩
     ·exact .inl ⟨q1,by simp at q2;omega⟩
     ·simp only[Option.some.injEq]at q2;subst q2;exact .inr ⟨kd,q1⟩
    ·rcases hhi with⟨q1,q2⟩ | ⟨kd,n',q1,q2⟩
     ·exact .inl ⟨q1,by simp[dt9]at q2;omega⟩
     ·simp only[Option.some.injEq]at q2;subst q2;exact .inr ⟨kd,q1⟩
   ·cases he
  ·cases he
 ·cases he
end
end Go.Am
/- Steps of the memory: what is new, what is written, what is given up. -/
namespace Go.Am
open Go Go.RowKit
theorem f6{α:Type}(h:Nat→Option α)(i:Nat)(c:Option α):upd h i c i=c:=by simp[upd]
theorem s5{α:Type}(h:Nat→Option α){i j:Nat}(c:Option α)(hn:j≠i):upd h i c j=h j:=by simp[upd,hn]
def Hb(β β':Bt)(D:Pr):Prop:=∀i,D i→β' i=β i∨β' i=none
theorem Hb.refl(β:Bt)(D:Pr):Hb β β D:=fun _ _=>.inl rfl
theorem Hb.trans{β β' β'':Bt}{D D':Pr}(h:Hb β β' D)(hD:∀i,D i→D' i)(g:Hb β' β'' D'):Hb β β'' D:=by
 intro i hi
 rcases g i (hD i hi)with e|e
 ·rcases h i hi with e'|e'
  ·exact .inl (e.trans e')
  ·exact .inr (e.trans e')
 ·exact .inr e
section
variable {P:Program} {β:Bt} {S D D':Pr} {H:Hp} {w w':World}
theorem Mem.mono(hM:Mem β S D H w)(hD:∀i,D i→D' i):Mem β S D' H w:=
 ⟨fun i c hc=>let⟨b,m,h1,h2⟩:=hM.live i c hc;⟨b,m,h1,j6 (fun _ _=>.inl rfl) (fun _ h=>h) hD (fun _ _=>rfl) (fun _=>rfl) h2⟩,hM.dead,fun i b m h=>hD i (hM.dom i b m h),hM.own,hM.inj,hM.st⟩
theorem Mem.new(hM:Mem β S D H w){a b m:Nat}{c:Chunk}(ha:¬D a)(hD:∀i,D i→D' i)(hDa:D' a)(hev:Below w.heap.size w w')(hb:w.heap.size≤b)(hb':0<m→b<w'.heap.size)
 (hc:b5 (upd β a (some (b,m))) S w' D' b m c):Mem (upd β a (some (b,m))) S D' (upd H a (some c)) w'∧Evo β S w (upd β a (some (b,m))) S w'∧Hb β (upd β a (some (b,m))) D:=by
 have hHb:Hb β (upd β a (some (b,m))) D:=fun i hi=>.inl (s5 _ _ (fun e=>ha (e▸hi)))
 have hβa:∀i b' m',i≠a→upd β a (some (b,m)) i=some (b',m')→β i=some (b',m'):=fun i b' m' hi h=>by rwa [s5 _ _ hi]at h
 refine⟨⟨?_,?_,?_,?_,?_,?_⟩,⟨hev.os,hev.tape,hev.output,hev.size,fun b' hb' _=>hev.block b' hb',fun _ h=>h,fun _ h=>.inl h,?_⟩,hHb⟩
 ·intro i c' hc'
  by_cases hi:i=a
  ·subst hi
   rw[f6]at hc'
   cases hc'
   exact⟨b,m,f6 _ _ _,hc⟩
  ·rw[s5 _ _ hi]at hc'
   obtain⟨b',m',h1,h2⟩:=hM.live i c' hc'
   exact⟨b',m',by rw[s5 _ _ hi];exact h1,j6 hHb (fun _ h=>h) hD (fun x hx=>hev.block x (hM.st x hx)) (fun h0=>hev.block b' (hM.own i b' m' h1 h0).1) h2⟩
 ·intro i hi
  by_cases he:i=a
  ·subst he;rw[f6]at hi;cases hi
  ·rw[s5 _ _ he]at hi⊢;exact hM.dead i hi
 ·intro i b' m' h
  by_cases he:i=a
  ·rw[he];exact hDa
  ·exact hD i (hM.dom i b' m' (hβa i b' m' he h))
 ·intro i b' m' h h0
  by_cases he:i=a
  ·subst he
   rw[f6]at h
   cases h
   exact⟨hb' h0,fun hs=>by have:=hM.st _ hs;omega⟩
  ·have h':=hβa i b' m' he h
   exact⟨Nat.lt_of_lt_of_le (hM.own i b' m' h' h0).1 hev.size,(hM.own i b' m' h' h0).2⟩
 ·intro i j b' m' m'' h1 h2 h01 h02
  by_cases hi:i=a<;>by_cases hj:j=a
  ·rw[hi,hj]
  ·subst hi
   rw[f6]at h1
   cases h1
   have:=(hM.own j _ _ (hβa j _ _ hj h2) h02).1
   omega
  ·subst hj
   rw[f6]at h2
   cases h2
   have:=(hM.own i _ _ (hβa i _ _ hi h1) h01).1
   omega
  ·exact hM.inj i j b' m' m'' (hβa i _ _ hi h1) (hβa j _ _ hj h2) h01 h02
 ·exact fun x hx=>Nat.lt_of_lt_of_le (hM.st x hx) hev.size
 ·intro i b' m' h h0
  by_cases he:i=a
  ·subst he;rw[f6]at h;cases h;exact .inl hb
  ·exact .inr ⟨i,m',h0,hβa i b' m' he h⟩
theorem Mem.put(hM:Mem β S D H w){i b m:Nat}{c c':Chunk}(hi:H i=some c)(hb:β i=some (b,m))(hm0:0<m)(hg:w.grownBy w' (some b))(hc:b5 β S w' D b m c'):
 Mem β S D (upd H i (some c')) w'∧Evo β S w β S w':=by
 have hk:Kept S w w':=fun x hx=>hg.block x (hM.st x hx) (fun e=>by cases e;exact(hM.own i b m hb hm0).2 hx)
 refine⟨⟨?_,?_,hM.dom,fun j b' m' h h0=>⟨Nat.lt_of_lt_of_le (hM.own j b' m' h h0).1 hg.size,(hM.own j b' m' h h0).2⟩,hM.inj,fun x hx=>Nat.lt_of_lt_of_le (hM.st x hx) hg.size⟩,
  ⟨hg.os,hg.tape,hg.output,hg.size,fun b' hb' hn=>hg.block b' hb' (fun e=>by cases e;exact hn i m hm0 hb),fun _ h=>h,fun _ h=>.inl h,fun i b m h h0=>.inr ⟨i,m,h0,h⟩⟩⟩
 ·intro j d hd
  by_cases hj:j=i
  ·subst hj
   rw[f6]at hd
   cases hd
   exact⟨b,m,hb,hc⟩
  ·rw[s5 _ _ hj]at hd
   obtain⟨b',m',h1,h2⟩:=hM.live j d hd
   refine⟨b',m',h1,j6 (fun _ _=>.inl rfl) (fun _ h=>h) (fun _ h=>h) hk (fun h0=>hg.block b' (hM.own j b' m' h1 h0).1 (fun e=>by cases e;exact hj (hM.inj j i _ _ _ h1 hb h0 hm0))) h2⟩
 ·intro j hj
  by_cases he:j=i
  ·subst he;rw[f6]at hj;cases hj
  ·rw[s5 _ _ he]at hj;exact hM.dead j hj
theorem tZ(l:List (Nat×Option Chunk))(hl:∀u∈l,u.2=none):∀(H:Hp) (i:Nat),n7 H l i=if i∈l.map (·.1)then none else H i:=by
 induction l with
 |nil=>intro H i;simp[n7]
 |cons u l ih=>
  intro H i
  obtain⟨j,c⟩:=u
  have hc:c=none:=hl (j,c) (.head _)
  subst hc
  simp only[n7,ih (fun u hu=>hl u (.tail _ hu)),List.map_cons,List.mem_cons]
  by_cases h1:i∈l.map (·.1)
  ·simp[h1]
  ·by_cases h2:i=j
   ·subst h2;simp[h1,f6]
   ·simp[h1,h2,s5]
theorem mY(H:Hp)(l l':List (Nat×Option Chunk)):n7 H (l++l')=n7 (n7 H l) l':=by
 induction l generalizing H with
 |nil=>rfl
 |cons u l ih=>obtain⟨i,c⟩:=u;simp only[List.cons_append,n7];exact ih _
theorem be0(l:List V):∀u∈fzU l,u.2=none:=by
 intro u hu
 simp only[fzU,List.mem_flatMap]at hu
 obtain⟨v,_,hv⟩:=hu
 unfold nW at hv
 split at hv
 ·simp only[List.mem_singleton]at hv;subst hv;rfl
 ·cases hv
def aw3(β:Bt)(S:Pr)(l:List Nat):Pr:=fun b=>S b∨∃i m,i∈l∧β i=some (b,m)∧0<m
def eC(β:Bt)(l:List Nat):Bt:=fun i=>if i∈l then none else β i
theorem Mem.drop(hM:Mem β S D H w)(l:List (Nat×Option Chunk))(hl:∀u∈l,u.2=none):
 Mem (eC β (l.map (·.1))) (aw3 β S (l.map (·.1))) D (n7 H l) w∧Evo β S w (eC β (l.map (·.1))) (aw3 β S (l.map (·.1))) w∧Hb β (eC β (l.map (·.1))) D:=by
 have hHb:Hb β (eC β (l.map (·.1))) D:=fun i _=>by unfold eC;split<;>simp
 have hin:∀i b m,eC β (l.map (·.1)) i=some (b,m)→i∉l.map (·.1)∧β i=some (b,m):=by
  intro i b m h
  unfold eC at h
  split at h
  ·cases h
  ·exact⟨by assumption,h⟩
 refine⟨⟨?_,?_,fun i b m h=>hM.dom i b m (hin i b m h).2,?_,fun i j b m m' h1 h2 h01 h02=>hM.inj i j b m m' (hin _ _ _ h1).2 (hin _ _ _ h2).2 h01 h02,?_⟩,
  ⟨rfl,rfl,rfl,Nat.le_refl _,fun _ _ _=>rfl,fun _ h=>.inl h,?_,fun i b m h h0=>.inr ⟨i,m,h0,(hin _ _ _ h).2⟩⟩,hHb⟩
 ·intro i c hc
  rw[tZ l hl]at hc
  split at hc
  ·cases hc
  ·rename_i hn
   obtain⟨b,m,h1,h2⟩:=hM.live i c hc
   exact⟨b,m,by unfold eC;rw[if_neg hn];exact h1,j6 hHb (fun _ h=>.inl h) (fun _ h=>h) (fun _ _=>rfl) (fun _=>rfl) h2⟩
 ·intro i hi
  rw[tZ l hl]at hi
  unfold eC
  split at hi
  ·rw[if_pos (by assumption)]
  ·rename_i hn;rw[if_neg hn];exact hM.dead i hi
 ·intro i b m h h0
  obtain⟨hn,h'⟩:=hin i b m h
  refine⟨(hM.own i b m h' h0).1,?_⟩
  rintro(hs| ⟨j,m',hj,hb,h02⟩)
  ·exact(hM.own i b m h' h0).2 hs
  ·have:=hM.inj i j b m m' h' hb h0 h02
   subst this
   exact hn hj
 ·rintro b (hs| ⟨j,m',hj,hb,h02⟩)
  ·exact hM.st b hs
  ·exact(hM.own j b m' hb h02).1
 ·rintro b (hs| ⟨j,m',hj,hb,h02⟩)
  ·exact .inl hs
  ·exact .inr (.inr ⟨j,m',h02,hb⟩)
theorem ab5(hM:Mem β S D H w){S':Pr}{β':Bt}(hHb:Hb β β' D)(hS:∀b,S b→S' b){v:V}{u:Value}(hg:∀i z o l b m,v= .sl i z o l→β i=some (b,m)→0<m→S' b)(h:den β S w D v u):
 den β' S' w D (v.bw1 H) u:=by
 unfold V.bw1
 split
 ·rename_i i z o l
  split
  ·rename_i e k n f hc
   split
   ·rename_i hle
    obtain⟨hle,rfl⟩:=hle
    obtain⟨b,m,hb,hr⟩:=hM.live i _ hc
    simp only[b5]at hr
    obtain⟨h1,h2,h3,hcur⟩:=hr
    simp only[den]at h⊢
    obtain⟨g1,A,rfl,g2⟩:=h.2 b m hb
    by_cases hl0:l=0
    ·subst hl0
     exact⟨Nat.zero_le _,A,m-o,⟨0,0,none⟩,fun _=>[],rfl,Nat.zero_le _,fun hl=>absurd hl (Nat.lt_irrefl _),fun j hj=>absurd hj (Nat.not_lt_zero _)⟩
    have hm0:0<m:=by omega
    obtain⟨cur,h4,h5,h6⟩:=hcur hm0
    obtain rfl:=g2 (by omega)
    have hSb:=hg i z o l b m rfl hb hm0
    refine⟨by omega,some ⟨b,o*z,none⟩,m-o,⟨b,o*z,none⟩,fun j=>if h:o+j<n then(h6 (o+j) h).choose else[],rfl,by omega,fun hl=>⟨rfl,hSb⟩,fun j hj=>?_⟩
    have hjn:o+j<n:=by omega
    simp only[hjn,dif_pos]
    obtain⟨q1,q2,q3,q4,q5⟩:=(h6 (o+j) hjn).choose_spec
    refine⟨l8 hS (fun _ _=>rfl) _ _ q2 q1,q2,q3,q4,fun i x hx=>?_⟩
    rw[dN,cell_of_row w b _ _ _ _ h4]
    have:=q5 i x hx
    rw[show o*z+(j*z+i)=(o+j)*z+i by rw[Nat.add_mul];omega]
    exact this
   ·simp[den]
  ·simp[den]
 ·exact pH hHb hS (fun _ h=>h) (fun _ _=>rfl) v u h
theorem as5(hM:Mem β S D H w){S':Pr}{β':Bt}(hHb:Hb β β' D)(hS:∀b,S b→S' b):∀{l:List V} {us:List Value},(∀i b m,(i,none)∈fzU l→β i=some (b,m)→0<m→S' b)→b7 β S w D l us→b7 β' S' w D (fzL H l) us
 | [],us,_,h=>by simpa[fzL,b7]using h
 |v::l,us,hg,h=>by
  simp only[b7]at h
  obtain⟨x,xs,rfl,h1,h2⟩:=h
  simp only[fzL,List.map_cons,b7]
  refine⟨x,xs,rfl,ab5 hM hHb hS (fun i z o n b m e hb=>hg i b m (by subst e;simp[fzU,nW]) hb) h1,?_⟩
  exact as5 hM hHb hS (fun i b m hi hb=>hg i b m (by simp only[fzU,List.flatMap_cons,List.mem_append]at hi⊢;exact .inr hi) hb) h2
end
theorem bp6{get:Hp}{v:V}{k:V→Option Ans}{r:Ans}(h:ca1 get v k=some r):k (v.bw1 get)=some r:=by
 unfold ca1 at h
 unfold V.bw1
 split at h
 ·split at h
  ·split at h
   ·rename_i hc;obtain⟨h1,rfl⟩:=hc;simp only[*,and_self,if_true]
   ·cases h
  ·cases h
 ·exact h
theorem ad8{get:Hp}:∀{l:List V} {k:List V→Option Ans} {r:Ans},bq2 get l k=some r→k (l.map (·.bw1 get))=some r
 | [],_,_,h=>h
 |v::l,k,_,h=>by
  have h:=bp6 h
  exact ad8 (k:=fun l=>k (_::l)) h
theorem av8{get:Hp}:∀{l:List (List V)} {k:List (List V)→Option Ans} {r:Ans},bc6 get l k=some r→k (l.map (fzL get))=some r
 | [],k,r,h=>h
 |l::ls,k,r,h=>by
  have h:=ad8 h
  exact av8 (k:=fun ls=>k (_::ls)) h
theorem bs7{get:Hp}{v:V}{k:V→Option Ans}{r:Ans}(h:eu2 get v k=some r):k (v.bw2 get)=some r:=by
 unfold eu2 at h
 unfold V.bw2
 split at h
 ·exact ad8 h
 ·exact bp6 h
theorem bj1{get:Hp}:∀{l:List V} {k:List V→Option Ans} {r:Ans},ej2 get l k=some r→k (l.map (·.bw2 get))=some r
 | [],_,_,h=>h
 |v::l,k,_,h=>by
  have h:=bs7 h
  exact bj1 (k:=fun l=>k (_::l)) h
theorem bi0{get:Hp}{v:V}{k:V→Option Ans}{r:Ans}(h:bwK get v k=some r):k (v.bw get)=some r:=by
 unfold bwK at h
 unfold V.bw
 split at h
 ·exact bj1 h
 ·exact bs7 h
theorem bp7{get:Hp}:∀{l:List V} {k:List V→Option Ans} {r:Ans},ff8 get l k=some r→k (l.map (·.bw get))=some r
 | [],_,_,h=>h
 |v::l,k,_,h=>by
  have h:=bi0 h
  exact bp7 (k:=fun l=>k (_::l)) h
theorem cx9{get:Hp}{y:V}{F:Option (Nat×Nat×(Nat→List V))→Option Ans}{r:Ans}(h:ca1 get y (fun y=>F (kI get y))=some r):F (kI get y)=some r:=by
 unfold ca1 at h
 split at h
 ·split at h
  ·split at h
   ·rename_i hg hc
    simp only[kI,hg,if_pos hc]
    exact h
   ·cases h
  ·cases h
 ·exact h
end Go.Am
/- Operations that make memory or write it. -/
namespace Go.Am
open Go Go.RowKit
theorem cr7(o:Nat):∀(vs:List Value) (j:Nat) (cs:List Value),o+j+vs.length≤cs.length→
 (vs.zipIdx j).foldl (fun(cs:Array Value) (x:Value×Nat)=>cs.setIfInBounds (o+x.2) x.1) cs.toArray=(cs.take (o+j)++vs++cs.drop (o+j+vs.length)).toArray
 | [],j,cs,h=>by simp
 |v::vs,j,cs,h=>by
  simp only[List.zipIdx_cons,List.foldl_cons]
  have e1:cs.toArray.setIfInBounds (o+j) v=(cs.set (o+j) v).toArray:=by simp
  rw[e1,cr7 o vs (j+1) _ (by simp at h⊢;omega)]
  congr 1
  have hlt:o+j<cs.length:=by simp at h;omega
  rw[show o+(j+1)=o+j+1 by omega,List.take_succ_eq_append_getElem (by simpa using hlt)]
  simp only[List.getElem_set_self,List.append_assoc,List.cons_append,List.nil_append,List.length_cons]
  rw[List.take_set_of_le (by omega),List.drop_set_of_lt (by omega)]
  rw[show o+j+1+vs.length=o+j+(vs.length+1)by omega]
theorem bo0{place:Nat→Option (Nat×Nat)}{cs:List Value}{i o n:Nat}{v:Value}{us:List Value}{rest:List (Nat×Value)}(hp:place i=some (o,n))(hv:v.cells=us.toArray)(hl:us.length=n)(hle:o+n≤cs.length):
 Instr.fill place cs.toArray ((i,v)::rest)=Instr.fill place (cs.take o++us++cs.drop (o+us.length)).toArray rest:=by
 simp only[Instr.fill,hp,hv,List.size_toArray,hl]
 have c1:¬((decide (n≠n)||decide (o+n>cs.length))=true):=by simp;omega
 rw[if_neg c1]
 have:=cr7 o us 0 cs (by omega)
 simp only[Nat.add_zero]at this
 rw[hl]at this
 subst hl
 rw[←this]
 simp
section
variable {P:Program} {β:Bt} {S D:Pr} {H:Hp} {w:World}
theorem wZ{ev:Operand→V}{a:Act}(hev:∀x,den β S w D (ev x) (a.eval x)){place:Nat→Option (Nat×Nat)}:∀{ps:List (Nat×Operand)} {z cs:List V} {us:List Value},b7 β S w D z us→us.all Value.oneCell'=true→
 ah5 P z place ev ps=some cs→∃us':List Value,Instr.fill place us.toArray (ps.map fun p=>(p.1,a.eval p.2))=some us'.toArray∧b7 β S w D cs us'∧us'.all Value.oneCell'=true
 | [],z,cs,us,hz,h1,h=>by
  simp only[ah5,Option.some.injEq]at h
  subst h
  exact⟨us,rfl,hz,h1⟩
 | (i,x)::ps,z,cs,us,hz,h1,h=>by
  simp only[ah5]at h
  split at h
  ·rename_i o n hp
   split at h
   ·rename_i hc
    obtain⟨hl,hle,ho⟩:=hc
    obtain⟨xs,hx1,hx2,hx3⟩:=zG ho (hev x)
    have hlz:=m9 hz
    have hlx:=m9 hx2
    simp only[List.map_cons]
    rw[bo0 hp hx1 (by omega) (by omega)]
    refine wZ hev (aO (aO (yY o hz) hx2) ?_) ?_ h
    ·rw[hlx];exact pB _ hz
    ·simp only[List.all_append,tN o h1,hx3,mS _ h1,Bool.and_true]
   ·cases h
  ·cases h
theorem ct0{t:TypeId}{z:List V}(h:av6 P t=some z):∃y:Value,(zeroValue t).run P w= .ok y w∧z=y.cells.toList.map .sc:=by
 unfold av6 at h
 cases hi:P.info? t with
 |none=>rw[hi]at h;cases h
 |some i=>
  rw[hi]at h
  simp only[Option.bind_some,Option.map_eq_some_iff]at h
  obtain⟨y,hy,rfl⟩:=h
  exact⟨y,by simp[zeroValue,typeInfo,hi,hy],rfl⟩
end
def kO(D:Pr)(new:Nat):Pr:=fun i=>D i∨(new≤i∧i<new+d7)
theorem f8(D:Pr)(new:Nat):∀i,D i→kO D new i:=fun i h=>.inl h
theorem bW(D:Pr)(new:Nat):kO D new new:=.inr ⟨Nat.le_refl _,by simp[d7]⟩
def Same(β:Bt)(w:World)(us:List (Nat×Option Chunk))(w':World):Prop:=∀i b m,β i=some (b,m)→0<m→i∉us.map (·.1)→w'.heap[b]? =w.heap[b]?
theorem Same.refl(β:Bt)(w:World)(us:List (Nat×Option Chunk)):Same β w us w:=fun _ _ _ _ _ _=>rfl
def Ran(P:Program)(o:Oper)(a:Act)(w:World)(u:Value)(w':World):Prop:=
 (execOp a.eval o).run P w= .ok (.value u) w'∨((execOp a.eval o).run P w= .ok .skip w'∧u=undef)
def gQ (P : Program) (f : FuncId) : Prop := ∃ fn, P.funcs[f]? = some fn ∧ fn.body.isSome = true ∧ fn.name ≠ "runtime.NumGoroutine"
def sB(P:Program)(β:Bt)(S D:Pr)(H:Hp)(new:Nat)(o:Oper)(a:Act)(w:World):Res→Prop
 | .val v us=>∃u w' β' S',Ran P o a w u w'∧Mem β' S' (kO D new) (n7 H us) w'∧den β' S' w' (kO D new) v u∧Evo β S w β' S' w'∧Hb β β' D∧Same β w us w'
 | .call f args=>∃us:List Value,(gQ P f→(execOp a.eval o).run P w= .ok (.enter f us.toArray) w)∧b7 β S w D args us
 | .dfr f cs=>∃us:List Value,(execOp a.eval o).run P w= .ok (.defer {target:=.fn (.func f) us.toArray,args:=#[]}) w∧us.length=cs.length
 | .pan v us=>us=[]∧∃u,(execOp a.eval o).run P w= .halt (.panic u) w∧v.pure=true∧den β S w D v u
def cE(P:Program)(β:Bt)(S D:Pr)(H:Hp)(new:Nat)(o:Oper)(a:Act)(w:World)(k:KR)(r:Ans):Prop:=∃res,k res=some r∧sB P β S D H new o a w res
section
variable {P:Program} {β:Bt} {S D:Pr} {H:Hp} {w:World} {new:Nat} {o:Oper} {a:Act} {k:KR} {r:Ans}
theorem b9(hM:Mem β S D H w){v:V}{u:Value}(hrun:(execOp a.eval o).run P w= .ok (.value u) w)(hd:den β S w D v u):sB P β S D H new o a w (.val v []):=
 ⟨u,w,β,S,.inl hrun,hM.mono (f8 D new),pH (fun _ _=>.inl rfl) (fun _ h=>h) (f8 D new) (fun _ _=>rfl) _ _ hd,Evo.refl _ _ _,Hb.refl _ _,Same.refl _ _ _⟩
theorem vL(hM:Mem β S D H w){s:Sem Value}(hs:execOp a.eval o=(do pure (.value (←s)):Sem Next))(h:ck3 P β S w D k r s):cE P β S D H new o a w k r:=by
 obtain⟨v,hk,y,hy,hd⟩:=h
 exact⟨_,hk,b9 hM (by rw[hs];simp[Sem.run_bind,hy]) hd⟩
theorem cY(w:World)(o:Obj):Below w.heap.size w (w.alloc o):=(Below.refl _ _).alloc (Nat.le_refl _) _
theorem cu1(hM:Mem β S D H w)(hn:¬D new){cs:List V}{us:List Value}{T:TypeId}(hd:b7 β S w D cs us)(h1:us.all Value.oneCell'=true)
 (hrun:(execOp a.eval o).run P w= .ok (.value (.pointer (some ⟨w.heap.size,0,none⟩))) (w.alloc (.cells us.toArray T))):
 sB P β S D H new o a w (.val (.ptr new 0) [(new,some (.blk cs))]):=by
 have hb:=cY w (.cells us.toArray T)
 have hHb:Hb β (upd β new (some (w.heap.size,1))) D:=fun i hi=>.inl (s5 _ _ (fun e=>hn (e▸hi)))
 obtain⟨g1,g2,g3⟩:=hM.new (m:=1) (c:=.blk cs) (b:=w.heap.size) hn (f8 D new) (bW D new) hb (Nat.le_refl _) (fun _=>by show w.heap.size< (w.heap.push _).size;simp) (by
  simp only[b5]
  exact⟨Nat.one_pos,us,T,heap_alloc_new w _,i5 hHb (fun _ h=>h) (f8 D new) (fun x hx=>hb.block x (hM.st x hx)) _ _ hd,h1⟩)
 refine⟨_,_,_,_,.inl hrun,g1,?_,g2,g3,fun i b m hi h0 _=>hb.block b (hM.own i b m hi h0).1⟩
 simp only[den]
 refine⟨⟨bW D new,rfl⟩,fun b m h=>?_⟩
 rw[f6]at h
 cases h
 rfl
theorem dw7(hM:Mem β S D H w)(hn:¬D new){cs:List V}{us:List Value}{T:TypeId}(hd:b7 β S w D cs us)(h1:us.all Value.oneCell'=true)
 (hrun:(execOp a.eval o).run P w= .ok (.value (.pointer (some ⟨w.heap.size,0,none⟩))) (w.alloc (.cells us.toArray T))):
 sB P β S D H new o a w (.val (.ptr new 0) [(new,some (.tbk T cs))]):=by
 have hb:=cY w (.cells us.toArray T)
 have hHb:Hb β (upd β new (some (w.heap.size,1))) D:=fun i hi=>.inl (s5 _ _ (fun e=>hn (e▸hi)))
 obtain⟨g1,g2,g3⟩:=hM.new (m:=1) (c:=.tbk T cs) (b:=w.heap.size) hn (f8 D new) (bW D new) hb (Nat.le_refl _) (fun _=>by show w.heap.size< (w.heap.push _).size;simp) (by
  simp only[b5]
  exact⟨Nat.one_pos,us,heap_alloc_new w _,i5 hHb (fun _ h=>h) (f8 D new) (fun x hx=>hb.block x (hM.st x hx)) _ _ hd,h1⟩)
 refine⟨_,_,_,_,.inl hrun,g1,?_,g2,g3,fun i b m hi h0 _=>hb.block b (hM.own i b m hi h0).1⟩
 simp only[den]
 refine⟨⟨bW D new,rfl⟩,fun b m h=>?_⟩
 rw[f6]at h
 cases h
 rfl
theorem ct6(hM:Mem β S D H w)(hn:¬D new){t:TypeId}(ho:o.op= .alloc t)(h:aj1 P t new k=some r):cE P β S D H new o a w k r:=by
 unfold aj1 at h
 split at h
 ·rename_i cs hz
  obtain⟨y,hy,rfl⟩:=ct0 (w:=w) hz
  split at h
  ·rename_i ho1
   split at h
   ·refine⟨_,h,dw7 hM hn (jS _) (xG (β:=β) (S:=S) (w:=w) (D:=D) ho1 (jS _)) (T:=t) ?_⟩
    simp only[execOp,ho,Instr.alloc,Sem.run_bind,hy,newVar,newRow,newObj,Sem.run,Result.andThen_ok,Sem.run_pure,World.alloc,Array.toArray_toList]
   ·refine⟨_,h,cu1 hM hn (jS _) (xG (β:=β) (S:=S) (w:=w) (D:=D) ho1 (jS _)) (T:=t) ?_⟩
    simp only[execOp,ho,Instr.alloc,Sem.run_bind,hy,newVar,newRow,newObj,Sem.run,Result.andThen_ok,Sem.run_pure,World.alloc,Array.toArray_toList]
  ·cases h
 ·cases h
theorem ds6(hM:Mem β S D H w)(hn:¬D new){t:TypeId}{x:Operand}{v:V}(ho:o.op= .box t x)(hx:den β S w D v (a.eval x))(h:dc5 v new k=some r):cE P β S D H new o a w k r:=by
 unfold dc5 at h
 split at h
 ·rename_i h1
  obtain⟨us,e1,e2,e3⟩:=zG h1 hx
  refine⟨_,h,cu1 hM hn e2 e3 (T:=t) ?_⟩
  simp only[execOp,ho,Instr.box,Sem.run_bind,newVar,newRow,newObj,Sem.run,Result.andThen_ok,Sem.run_pure,World.alloc,e1]
 ·cases h
end
end Go.Am
/- Stores; slices made, and grown. -/
namespace Go.Am
open Go Go.RowKit
theorem cb3{us:List Value}(h:us.all Value.oneCell'=true):∀v∈us,v.oneCell'=true:=by simpa[List.all_eq_true]using h
section
variable {P:Program} {β:Bt} {S D:Pr} {H:Hp} {w:World} {new:Nat} {o:Oper} {a:Act} {k:KR} {r:Ans}
theorem ai1{l l':List V}:j7 (l++l')=(j7 l&&j7 l'):=by
 rw[Bool.eq_iff_iff]
 simp only[Bool.and_eq_true,pureL_all,List.mem_append]
 exact⟨fun h=>⟨fun v hv=>h v (.inl hv),fun v hv=>h v (.inr hv)⟩,fun h v hv=>hv.elim (h.1 v) (h.2 v)⟩
theorem db5{l:List V}(n:Nat)(h:j7 l=true):j7 (l.take n)=true:=pureL_all.2 fun v hv=>pureL_all.1 h v (List.mem_of_mem_take hv)
theorem sM{T T':TypeId}{n b p:Nat}{cur:Array Value}{us:List Value}{v:Value}(hsz:szP P T=some n)(hv:v.cells=us.toArray)(hl:us.length=n)(h1:us.all Value.oneCell'=true)
 (hb:w.heap[b]? =some (.cells cur T' (0,0))) (hle:p+n≤cur.size):
 (Instr.storeAt T (.pointer (some ⟨b,p,none⟩)) v).run P w= .ok () (w.setRow b (cur.toList.take p++us++cur.toList.drop (p+us.length)).toArray):=by
 have hrun:=run_storeCells_at (P:=P) b p T' us 0 cur w hb (by omega) (cb3 h1)
 simp only[Nat.add_zero]at hrun
 simp only[Instr.storeAt,Instr.sureAddr,storeVar,Sem.run_bind,Sem.run_pure,Result.andThen_ok,kN hsz,hv]
 simp[hl,hrun]
theorem vY(w:World)(b:Nat)(cs:Array Value):w.grownBy (w.setRow b cs) (some b):=
 ⟨rfl,rfl,rfl,by simp[World.setRow],fun i _ hi=>setRow_other w b i cs (fun e=>hi (by rw[e]))⟩
theorem ag0{cs vs:List V}{us xs:List Value}{p:Nat}(h:b7 β S w D cs us)(hv:b7 β S w D vs xs):b7 β S w D (nR cs p vs) (us.take p++xs++us.drop (p+xs.length)):=by
 unfold nR
 rw[m9 hv]
 exact aO (aO (yY p h) hv) (pB _ h)
theorem cl2{pb:Bool}(hM:Mem β S D H w){t:TypeId}{x y:Operand}{vx vy:V}(ho:o.op= .store t x y)(hx:den β S w D vx (a.eval x))(hy:den β S w D vy (a.eval y))
 (h:al6 P pb t vx vy H k=some r):cE P β S D H new o a w k r:=by
 unfold al6 at h
 simp only[nI,fa2]at h
 split at h
 ·rename_i n hn
  split at h
  ·rename_i hc
   obtain⟨hl,h1⟩:=hc
   obtain⟨xs,e1,e2,e3⟩:=zG h1 hy
   have hlx:=m9 e2
   split at h
   ·rename_i i p
    split at h
    ·rename_i cs hi
     split at h
     ·rename_i hle
      obtain⟨b,m,hb,hr⟩:=hM.live i _ hi
      simp only[b5]at hr
      obtain⟨hm0,us,T,g1,g2,g3⟩:=hr
      have hlu:=m9 g2
      simp only[den]at hx
      have hu:=hx.2 b m hb
      have hrun:=sM (w:=w) hn e1 (by omega) e3 g1 (p:=p) (by simp;omega)
      have hg:=vY w b (us.take p++xs++us.drop (p+xs.length)).toArray
      have hk:Kept S w (w.setRow b (us.take p++xs++us.drop (p+xs.length)).toArray):=fun y hy=>hg.block y (hM.st y hy) (fun e=>by cases e;exact(hM.own i b m hb hm0).2 hy)
      obtain⟨q1,q2⟩:=hM.put (c':=.blk (nR cs p vy.cells)) hi hb hm0 hg (by
       simp only[b5]
       refine⟨hm0,_,T,setRow_heap w b us.toArray _ T (0,0) g1,?_,?_⟩
       ·exact i5 (fun _ _=>.inl rfl) (fun _ hh=>hh) (fun _ hh=>hh) hk _ _ (ag0 g2 e2)
       ·simp only[List.all_append,tN p g3,e3,mS _ g3,Bool.and_true])
      refine⟨_,h,undef,_,β,S,.inr ⟨?_,rfl⟩,q1.mono (f8 D new),by simp[den],q2,Hb.refl _ _,fun i' b' m' hi' h0 hn'=>hg.block b' (hM.own i' b' m' hi' h0).1 (fun e=>by cases e;exact hn' (by have:=hM.inj i' i _ _ _ hi' hb h0 hm0;simp[this]))⟩
      simp only[execOp,ho,hu,Sem.run_bind,hrun,Result.andThen_ok,Sem.run_pure]
     ·cases h
    ·rename_i T cs hi
     split at h
     ·rename_i hle
      obtain⟨b,m,hb,hr⟩:=hM.live i _ hi
      simp only[b5]at hr
      obtain⟨hm0,us,g1,g2,g3⟩:=hr
      have hlu:=m9 g2
      simp only[den]at hx
      have hu:=hx.2 b m hb
      have hrun:=sM (w:=w) hn e1 (by omega) e3 g1 (p:=p) (by simp;omega)
      have hg:=vY w b (us.take p++xs++us.drop (p+xs.length)).toArray
      have hk:Kept S w (w.setRow b (us.take p++xs++us.drop (p+xs.length)).toArray):=fun y hy=>hg.block y (hM.st y hy) (fun e=>by cases e;exact(hM.own i b m hb hm0).2 hy)
      obtain⟨q1,q2⟩:=hM.put (c':=.tbk T (nR cs p vy.cells)) hi hb hm0 hg (by
       simp only[b5]
       refine⟨hm0,_,setRow_heap w b us.toArray _ T (0,0) g1,?_,?_⟩
       ·exact i5 (fun _ _=>.inl rfl) (fun _ hh=>hh) (fun _ hh=>hh) hk _ _ (ag0 g2 e2)
       ·simp only[List.all_append,tN p g3,e3,mS _ g3,Bool.and_true])
      refine⟨_,h,undef,_,β,S,.inr ⟨?_,rfl⟩,q1.mono (f8 D new),by simp[den],q2,Hb.refl _ _,fun i' b' m' hi' h0 hn'=>hg.block b' (hM.own i' b' m' hi' h0).1 (fun e=>by cases e;exact hn' (by have:=hM.inj i' i _ _ _ hi' hb h0 hm0;simp[this]))⟩
      simp only[execOp,ho,hu,Sem.run_bind,hrun,Result.andThen_ok,Sem.run_pure]
     ·cases h
    ·cases h
   ·rename_i i z j p
    split at h
    ·rename_i e kk m f hi
     split at h
     ·rename_i hjm
      obtain⟨hj,rfl⟩:=hjm
      split at h
      ·rename_i hc
       obtain⟨hle,hp,hne⟩:=hc
       obtain⟨b,M,hb,hr⟩:=hM.live i _ hi
       obtain⟨d1,d2,d3⟩:=hM.drop (fzU vy.cells) (be0 _)
       have hni:i∉(fzU vy.cells).map (·.1):=by
        intro hm
        simp only[List.mem_map]at hm
        obtain⟨u,hu,rfl⟩:=hm
        rw[List.all_eq_true]at hne
        have:=hne u hu
        simp at this
       have hfz:=as5 hM d3 (S':=aw3 β S ((fzU vy.cells).map (·.1))) (fun _ h=>.inl h) (l:=vy.cells) (fun i' b' m' hi' hb' h0=>.inr ⟨i',m',List.mem_map.2 ⟨_,hi',rfl⟩,hb',h0⟩) e2
       have hi':n7 H (fzU vy.cells) i=some (.row e z m f):=by rw[tZ _ (be0 _),if_neg hni];exact hi
       have hb':eC β ((fzU vy.cells).map (·.1)) i=some (b,M):=by unfold eC;rw[if_neg hni];exact hb
       simp only[b5]at hr
       obtain⟨c1,c2,c3,hcur⟩:=hr
       have hM0:0<M:=by omega
       obtain⟨cur,c4,c5,c6⟩:=hcur hM0
       obtain⟨us,g1,g2,g3,g4,g5⟩:=c6 j hj
       have hlf:=m9 g1
       simp only[den]at hx
       have hu:=hx.2 b M hb
       have hjz:(j+1)*z≤M*z:=Nat.mul_le_mul_right z (by omega)
       rw[Nat.add_mul]at hjz
       have hrun:=sM (w:=w) hn e1 (by omega) e3 c4 (p:=j*z+p) (by omega)
       have hg:=vY w b (cur.toList.take (j*z+p)++xs++cur.toList.drop (j*z+p+xs.length)).toArray
       have hk:Kept (aw3 β S ((fzU vy.cells).map (·.1))) w (w.setRow b (cur.toList.take (j*z+p)++xs++cur.toList.drop (j*z+p+xs.length)).toArray):=fun y hy=>hg.block y (d1.st y hy) (fun e=>by cases e;exact(d1.own i b M hb' hM0).2 hy)
       obtain⟨q1,q2⟩:=d1.put (c':=.row e z m (fun h=>if h=j then nR (f j) p (fzL H vy.cells)else f h)) hi' hb' hM0 hg (by
        simp only[b5]
        refine⟨c1,c2,c3,fun _=>⟨_,setRow_heap w b cur _ e (0,0) c4,by simp;omega,?_⟩⟩
        intro g0 hg0
        by_cases hhj:g0=j
        ·subst hhj
         simp only[if_true]
         have hlz:=m9 hfz
         refine⟨us.take p++xs++us.drop (p+xs.length),?_,?_,?_,?_,?_⟩
         ·exact i5 (fun _ _=>.inl rfl) (fun _ hh=>hh) (fun _ hh=>hh) hk _ _ (ag0 (l8 (fun _ hh=>.inl hh) (fun _ _=>rfl) _ _ g2 g1) hfz)
         ·unfold nR;rw[ai1,ai1,db5 _ g2,hp,af1 _ g2];rfl
         ·simp;omega
         ·simp only[List.all_append,tN p g4,e3,mS _ g4,Bool.and_true]
         ·intro q y hy
          have hql:q<z:=by
           have:=(List.getElem?_eq_some_iff.1 hy).1
           simp at this
           omega
          simp only[List.getElem?_toArray]
          rw[List.append_assoc,List.getElem?_append]at hy⊢
          have ht1:(us.take p).length=p:=by simp;omega
          have ht2:(cur.toList.take (g0*z+p)).length=g0*z+p:=by simp;omega
          rw[ht1]at hy
          rw[ht2]
          by_cases hqp:q<p
          ·rw[if_pos hqp]at hy
           rw[if_pos (by omega),List.getElem?_take,if_pos (by omega)]
           rw[List.getElem?_take,if_pos hqp]at hy
           simpa using g5 q y hy
          ·rw[if_neg hqp]at hy
           rw[if_neg (by omega),show g0*z+q-(g0*z+p)=q-p by omega]
           rw[List.getElem?_append]at hy⊢
           by_cases hqx:q-p<xs.length
           ·rw[if_pos hqx]at hy⊢;exact hy
           ·rw[if_neg hqx]at hy⊢
            rw[List.getElem?_drop]at hy⊢
            rw[show p+xs.length+(q-p-xs.length)=q by omega]at hy
            rw[show g0*z+p+xs.length+(q-p-xs.length)=g0*z+q by omega]
            simpa using g5 q y hy
        ·simp only[if_neg hhj]
         obtain⟨us',r1,r2,r3,r4,r5⟩:=c6 g0 hg0
         refine⟨us',l8 (fun x hx=>.inl hx) (fun y hy=>hk y (.inl hy)) _ _ r2 r1,r2,r3,r4,fun q y hy=>?_⟩
         have hql:q<z:=by have:=(List.getElem?_eq_some_iff.1 hy).1;omega
         have hrow:=r5 q y hy
         simp only[List.getElem?_toArray]
         rw[List.append_assoc,List.getElem?_append]
         have ht2:(cur.toList.take (j*z+p)).length=j*z+p:=by simp;omega
         rw[ht2]
         rcases Nat.lt_or_ge g0 j with hlt|hge
         ·have:(g0+1)*z≤j*z:=Nat.mul_le_mul_right z (by omega)
          rw[Nat.add_mul]at this
          rw[if_pos (by omega),List.getElem?_take,if_pos (by omega)]
          simpa using hrow
         ·have:(j+1)*z≤g0*z:=Nat.mul_le_mul_right z (by omega)
          rw[Nat.add_mul]at this
          rw[if_neg (by omega),List.getElem?_append,if_neg (by omega),List.getElem?_drop,show j*z+p+xs.length+(g0*z+q-(j*z+p)-xs.length)=g0*z+q by omega]
          simpa using hrow)
       refine⟨_,h,undef,_,_,_,.inr ⟨?_,rfl⟩,?_,by simp[den],d2.trans q2,d3,fun i' b' m' hi' h0 hn'=>hg.block b' (hM.own i' b' m' hi' h0).1 (fun e=>by cases e;exact hn' (by have:=hM.inj i' i _ _ _ hi' hb h0 hM0;simp[this]))⟩
       ·simp only[execOp,ho,hu,Sem.run_bind,hrun,Result.andThen_ok,Sem.run_pure]
       ·rw[mY];exact q1.mono (f8 D new)
      ·cases h
     ·cases h
    ·cases h
   ·cases h
  ·cases h
 ·cases h
end
end Go.Am
/- Slices made and grown; ranges over strings. -/
namespace Go.Am
open Go Go.RowKit
theorem xA{α:Type}{k:Nat}:∀{vss:List (List α)},(∀vs∈vss,vs.length=k)→vss.flatten.length=vss.length*k
 | [],_=>by simp
 |v::vss,h=>by rw[List.flatten_cons,List.length_append,h v (.head _),xA (fun x hx=>h x (.tail _ hx)),List.length_cons,Nat.add_mul];omega
theorem xM{α:Type}{k:Nat}:∀{vss:List (List α)},(∀vs∈vss,vs.length=k)→∀(j:Nat) (vs:List α),vss[j]? =some vs→∀i,i<k→vss.flatten[j*k+i]? =vs[i]?
 | [],_,j,vs,h,_,_=>by simp at h
 |v::vss,hk,j,vs,h,i,hi=>by
  have hv:=hk v (.head _)
  rw[List.flatten_cons,List.getElem?_append]
  cases j with
  |zero=>
   simp only[List.getElem?_cons_zero,Option.some.injEq]at h
   subst h
   rw[Nat.zero_mul,Nat.zero_add,if_pos (by omega)]
  |succ j=>
   rw[if_neg (by rw[Nat.add_mul];omega),hv,show(j+1)*k+i-k=j*k+i by rw[Nat.add_mul];omega]
   exact xM (fun x hx=>hk x (.tail _ hx)) j vs (by simpa using h) i hi
theorem bg0(k:Nat):∀(ps:List (Nat×Value)) (vss:List (List Value)) (j:Nat) (pre post:List Value),vss.length=ps.length→(∀vs∈vss,vs.length=k)→pre.length=j*k→post.length=ps.length*k→
 (∀i p,ps[i]? =some p→p.1=j+i∧∃vs,vss[i]? =some vs∧p.2.cells=vs.toArray)→Instr.fill (fun i=>some (i*k,k)) (pre++post).toArray ps=some (pre++vss.flatten).toArray
 | [],vss,j,pre,post,h1,_,_,h4,_=>by
  have:vss=[]:=List.eq_nil_of_length_eq_zero h1
  subst this
  have:post=[]:=List.eq_nil_of_length_eq_zero (by simpa using h4)
  subst this
  simp[Instr.fill]
 | (i,v)::ps,vss,j,pre,post,h1,h2,h3,h4,h5=>by
  cases vss with
  |nil=>simp at h1
  |cons vs vss=>
   obtain⟨e1,u,e2,e3⟩:=h5 0 (i,v) rfl
   simp only[List.getElem?_cons_zero,Option.some.injEq]at e2
   subst e2
   simp only[Nat.add_zero]at e1 e3
   subst e1
   have hl:=h2 vs (.head _)
   have h4':post.length=ps.length*k+k:=by rw[h4,List.length_cons,Nat.add_mul];omega
   rw[bo0 (o:=i*k) (n:=k) rfl e3 hl (by rw[List.length_append];omega)]
   rw[List.take_left' h3,List.drop_append,List.drop_of_length_le (by omega),List.nil_append,show i*k+vs.length-pre.length=k by omega]
   rw[bg0 k ps vss (i+1) (pre++vs) (post.drop k) (by simpa using h1) (fun x hx=>h2 x (.tail _ hx)) (by rw[List.length_append,h3,hl,Nat.add_mul];omega) (by rw[List.length_drop];omega)
    (fun i' p' hp'=>by
     obtain⟨g1,u',g2,g3⟩:=h5 (i'+1) p' (by simpa using hp')
     exact⟨by omega,u',by simpa using g2,g3⟩)]
   simp
section
variable {P:Program} {β:Bt} {S D:Pr} {H:Hp} {w:World} {new:Nat} {o:Oper} {a:Act} {k:KR} {r:Ans}
theorem ae0{c n:Nat}{f:Nat→List V}(h:am4 c n f=true)(j:Nat)(hj:j<n):(f j).length=c∧j7 (f j)=true∧(f j).all V.one=true:=by
 unfold am4 at h
 rw[List.all_eq_true]at h
 have:=h j (by simpa using hj)
 simp only[Bool.and_eq_true,beq_iff_eq]at this
 exact⟨this.1.1,this.1.2,this.2⟩
theorem be5(hM:Mem β S D H w)(hn:¬D new){e c n m:Nat}{f:Nat→List V}{cur:Array Value}{w':World}{b:Nat}(hc:0<c)(hnm:n≤m)(hm:m≤maxLen)(hs:cur.size=m*c)(hev:Below w.heap.size w w')(hb:w.heap.size≤b)(hb':b<w'.heap.size)
 (hh:w'.heap[b]? =some (.cells cur e (0,0))) (hrow:ax1 β S w D c n f cur)
 (hrun:(execOp a.eval o).run P w= .ok (.value (.slice (some ⟨b,0,none⟩) n m)) w'):sB P β S D H new o a w (.val (.sl new c 0 n) [(new,some (.row e c n f))]):=by
 obtain⟨g1,g2,g3⟩:=hM.new (m:=m) (c:=.row e c n f) (b:=b) hn (f8 D new) (bW D new) hev hb (fun _=>hb') (by
  simp only[b5]
  exact⟨hnm,hm,hc,fun _=>⟨cur,hh,hs,rN (fun _ h=>h) (fun x hx=>hev.block x (hM.st x hx)) hrow⟩⟩)
 refine⟨_,_,_,_,.inl hrun,g1,?_,g2,g3,fun i b' m' hi h0 _=>hev.block b' (hM.own i b' m' hi h0).1⟩
 simp only[den]
 refine⟨⟨bW D new,rfl⟩,fun b' m' h=>?_⟩
 rw[f6]at h
 cases h
 exact⟨by omega,some ⟨b,0,none⟩,rfl,fun _=>by simp⟩
theorem ay5(hM:Mem β S D H w)(hn:¬D new){t:TypeId}{x y:Operand}{vx vy:V}(ho:o.op= .makeSlice t x y)(hx:den β S w D vx (a.eval x))(hy:den β S w D vy (a.eval y))
 (h:oF P t vx vy new k=some r):cE P β S D H new o a w k r:=by
 unfold oF at h
 split at h
 ·rename_i n m hnx hny
  obtain⟨kx,hx'⟩:=mN hx hnx
  obtain⟨ky,hy'⟩:=mN hy hny
  split at h
  ·rename_i e he
   split at h
   ·rename_i c z by_ hc hz hby
    split at h
    ·rename_i hcond
     obtain⟨rfl,h0,hc0,hzl,hbytes,hmax,hok⟩:=hcond
     obtain⟨q,rfl⟩:=Int.eq_ofNat_of_zero_le h0
     simp only[Int.toNat_natCast]at hbytes hmax h
     cases hi:P.info? e with
     |none=>simp[szP,hi]at hc
     |some i=>
      have hc1:i.size=c:=by simpa[szP,hi]using hc
      have hb1:i.bytes=by_:=by simpa[ca5,hi]using hby
      simp only[av6,hi,Option.bind_some,Option.map_eq_some_iff]at hz
      obtain⟨zv,hzv,rfl⟩:=hz
      have hzs:zv.cells.size=c:=by simpa using hzl
      unfold maxLen at hmax
      have hrun:=run_make (P:=P) w t e i zv (j4 he) hi hzv kx ky (q:Int) (q:Int) (by omega) (Int.le_refl _) (by rw[hb1,←Int.natCast_mul,Nat.mul_comm];omega) (by omega)
      simp only[Int.toNat_natCast,hc1]at hrun
      refine⟨_,h,be5 hM hn (m:=q) (cur:=madeCells zv.cells (q*c)) (b:=w.heap.size) hc0 (Nat.le_refl _) (by unfold maxLen;omega) (size_madeCells _ _) (cY w _) (Nat.le_refl _) (by show w.heap.size< (w.heap.push _).size;simp) (heap_alloc_new w _) ?_ ?_⟩
      ·intro j hj
       obtain⟨_,o2,o3⟩:=ae0 hok 0 (by omega)
       refine⟨zv.cells.toList,jS _,o2,by simpa using hzs,xG (β:=β) (S:=S) (w:=w) (D:=D) o3 (jS _),fun i x hx=>?_⟩
       have hil:i<c:=by have:=(List.getElem?_eq_some_iff.1 hx).1;simp at this;omega
       have hlt:j*c+i<q*c:=by
        have:(j+1)*c≤q*c:=Nat.mul_le_mul_right c (by omega)
        rw[Nat.add_mul]at this
        omega
       have hi':i<zv.cells.size:=by omega
       have hmd:(j*c+i)%c=i:=by rw[Nat.mul_comm,Nat.mul_add_mod];exact Nat.mod_eq_of_lt hil
       rw[Array.getElem?_eq_getElem (by rw[size_madeCells];exact hlt)]
       simp only[madeCells,Array.getElem_map,Array.getElem_range,hzs,hmd]
       rw[getElem!_pos zv.cells i hi']
       rw[List.getElem?_eq_getElem (by simpa using hi')]at hx
       simpa using hx
      ·simp only[execOp,ho,hx',hy',Sem.run_bind,hrun,Result.andThen_ok,Sem.run_pure]
    ·cases h
   ·cases h
  ·cases h
 ·cases h
end
end Go.Am
/- Slice literals, append, ranges over strings. -/
namespace Go.Am
open Go Go.RowKit
theorem cw0{c n:Nat}{f g:Nat→List V}(h:∀i,i<n→f i=g i):am4 c n f=am4 c n g:=by
 unfold am4
 rw[Bool.eq_iff_iff,List.all_eq_true,List.all_eq_true]
 exact⟨fun k x hx=>by rw[←h x (List.mem_range.1 hx)];exact k x hx,fun k x hx=>by rw[h x (List.mem_range.1 hx)];exact k x hx⟩
theorem ey3{l:List V}{i:Nat}:(i,(none:Option Chunk))∈fzU l↔∃v∈l,(i,(none:Option Chunk))∈nW v:=by simp[fzU]
section
variable {P:Program} {β:Bt} {S D:Pr} {H:Hp} {w:World} {new:Nat} {o:Oper} {a:Act} {k:KR} {r:Ans}
theorem ap1 {pr : Bool} (hM : Mem β S D H w) (hn : ¬ D new) {ev : Operand → V} (hev : ∀ x, den β S w D (ev x) (a.eval x)) {t : TypeId} {n : Nat} {ps : Array (Nat × Operand)} (ho : o.op = .buildSlice t n ps)
 (h : gR P pr t n ps.toList ev H new k = some r) : cE P β S D H new o a w k r := by
 unfold gR at h
 split at h
 ·rename_i e he
  split at h
  ·rename_i c hc
   replace h := av8 h
   rw [List.map_map] at h
   have hcg : am4 c n (fun i => ((List.range n).map (fzL H ∘ fun i => kM ev ps.toList i)).getD i []) = am4 c n (fun i => fzL H (kM ev ps.toList i)) := cw0 fun i hi => by
    rw [List.getD_eq_getElem?_getD, List.getElem?_map, List.getElem?_range hi]; rfl
   rw [hcg] at h
   split at h
   ·rename_i hcond
    obtain ⟨hok, hone, hc0, hnc, hps, hz⟩ := hcond
    simp only [dc8] at h
    replace h : k (.val (.sl new c 0 n) (fzU (ps.toList.flatMap fun p => (ev p.2).cells) ++ [(new, some (.row e c n (eo4 pr ((List.range n).map fun i => fzL H (kM ev ps.toList i)))))])) = some r := h
    obtain ⟨z, hz⟩ := Option.isSome_iff_exists.1 hz
    obtain ⟨y, hy, rfl⟩ := ct0 (w := w) hz
    have hpl : ps.toList.length = n := by have := congrArg List.length hps; simpa using this
    -- the cells of the parts
    have hcells : ∀ p ∈ ps.toList, ∃ us : List Value, (a.eval p.2).cells = us.toArray ∧ b7 β S w D (ev p.2).cells us ∧ us.all Value.oneCell' = true := fun p hp => zG (by rw [List.all_eq_true] at hone; exact hone p hp) (hev p.2)
    have hus : ∀ p : Nat × Operand, ∃ us : List Value, p ∈ ps.toList → (a.eval p.2).cells = us.toArray ∧ b7 β S w D (ev p.2).cells us ∧ us.all Value.oneCell' = true := fun p => by
     by_cases hp : p ∈ ps.toList
     ·obtain ⟨us, hu⟩ := hcells p hp; exact ⟨us, fun _ => hu⟩
     ·exact ⟨[], fun h => absurd h hp⟩
    let g : Nat × Operand → List Value := fun p => (hus p).choose
    have hg : ∀ p ∈ ps.toList, (a.eval p.2).cells = (g p).toArray ∧ b7 β S w D (ev p.2).cells (g p) ∧ (g p).all Value.oneCell' = true := fun p hp => (hus p).choose_spec hp
    -- given up
    obtain ⟨d1, d2, d3⟩ := hM.drop (fzU (ps.toList.flatMap fun p => (ev p.2).cells)) (be0 _)
    have hfz : ∀ p ∈ ps.toList, b7 (eC β ((fzU (ps.toList.flatMap fun p => (ev p.2).cells)).map (·.1))) (aw3 β S ((fzU (ps.toList.flatMap fun p => (ev p.2).cells)).map (·.1))) w D (fzL H (ev p.2).cells) (g p) := fun p hp =>
     as5 hM d3 (fun _ h => .inl h) (fun i b m hi hb h0 => .inr ⟨i, m, List.mem_map.2 ⟨_, by
      rw [ey3] at hi ⊢
      obtain ⟨v, hv, hg⟩ := hi
      exact ⟨v, List.mem_flatMap.2 ⟨p, hp, hv⟩, hg⟩, rfl⟩, hb, h0⟩) (hg p hp).2.1
    have hgl : ∀ (j : Nat) (p : Nat × Operand), ps.toList[j]? = some p → (g p).length = c ∧ j7 (fzL H (ev p.2).cells) = true := fun j p hj => by
     have hjn : j < n := by rw [← hpl]; exact (List.getElem?_eq_some_iff.1 hj).1
     obtain ⟨q1, q2, _⟩ := ae0 hok j hjn
     simp only [kM, hj] at q1 q2
     refine ⟨?_, q2⟩
     have := m9 (hg p (List.mem_of_getElem? hj)).2.1
     rw [← this]
     simpa [fzL] using q1
    have hrun : (execOp a.eval o).run P w = .ok (.value (.slice (some ⟨w.heap.size, 0, none⟩) n n)) (w.alloc (.cells ((ps.toList.map g).flatten).toArray e)) := by
     have hm : (ps.map fun (i, x) => (i, a.eval x) : Array (Nat × Value)).toList = ps.toList.map fun p => (p.1, a.eval p.2) := by simp
     have hsz : ¬ (n * c > 2 ^ 24) := by omega
     have hfill : ∀ cs : Array Value, cs.size = n * c → Instr.fill (fun i => some (i * c, c)) cs (ps.toList.map fun p => (p.1, a.eval p.2)) = some ((ps.toList.map g).flatten).toArray := by
      intro cs hcs
      obtain ⟨cl⟩ := cs
      have := bg0 c (ps.toList.map fun p => (p.1, a.eval p.2)) (ps.toList.map g) 0 [] cl (by simp) (fun vs hvs => by
       obtain ⟨p, hp, rfl⟩ := List.mem_map.1 hvs
       obtain ⟨j, hj⟩ := List.getElem?_of_mem hp
       exact (hgl j p hj).1) (by simp) (by simpa [hpl] using hcs) (fun i p hp => by
       rw [List.getElem?_map] at hp
       cases hq : ps.toList[i]? with
       | none => rw [hq] at hp; cases hp
       | some q =>
        rw [hq] at hp
        simp only [Option.map_some, Option.some.injEq] at hp
        subst hp
        refine ⟨?_, g q, by rw [List.getElem?_map, hq]; rfl, (hg q (List.mem_of_getElem? hq)).1⟩
        have hin : i < n := by rw [← hpl]; exact (List.getElem?_eq_some_iff.1 hq).1
        have := congrArg (fun l => l[i]?) hps
        simp only [List.getElem?_map, hq, Option.map_some] at this
        rw [List.getElem?_range hin] at this
        simp only [Option.some.injEq] at this
        simp only [Nat.zero_add]
        exact this)
      simpa using this
     by_cases hk0 : n * c = 0
     ·simp only [execOp, ho, Instr.buildSlice, Sem.run_bind, run_underlying (j4 he), Result.andThen_ok, kN hc, hk0, gt_iff_lt, Nat.not_lt_zero, if_false, if_true, Sem.run_pure]
      rw [hm, hfill _ (by simp [hk0])]
      simp only [newRow, newObj, Sem.run_bind, Sem.run, Result.andThen_ok, Sem.run_pure, World.alloc]
     ·simp only [execOp, ho, Instr.buildSlice, Sem.run_bind, run_underlying (j4 he), Result.andThen_ok, kN hc, hsz, hk0, if_false, hy, Sem.run_pure]
      rw [hm, hfill _ (by simp)]
      simp only [newRow, newObj, Sem.run_bind, Sem.run, Result.andThen_ok, Sem.run_pure, World.alloc]
    have hnm : n ≤ maxLen := by have := Nat.le_mul_of_pos_right n hc0; simp only [maxLen]; omega
    have hflat : ∀ vs ∈ ps.toList.map g, vs.length = c := fun vs hvs => by
     obtain ⟨p, hp, rfl⟩ := List.mem_map.1 hvs
     obtain ⟨j, hj⟩ := List.getElem?_of_mem hp
     exact (hgl j p hj).1
    have hrow : ax1 (eC β ((fzU (ps.toList.flatMap fun p => (ev p.2).cells)).map (·.1))) (aw3 β S ((fzU (ps.toList.flatMap fun p => (ev p.2).cells)).map (·.1))) w D c n (fun i => fzL H (kM ev ps.toList i)) ((ps.toList.map g).flatten).toArray := by
     intro j hj
     have hjl : j < ps.toList.length := by omega
     have hq : ps.toList[j]? = some ps.toList[j] := List.getElem?_eq_getElem hjl
     have hmem := List.mem_of_getElem? hq
     refine ⟨g ps.toList[j], ?_, ?_, (hgl j _ hq).1, (hg _ hmem).2.2, fun i x hx => ?_⟩
     ·simp only [kM, hq]; exact hfz _ hmem
     ·simp only [kM, hq]; exact (hgl j _ hq).2
     ·have hic : i < c := by rw [← (hgl j _ hq).1]; exact (List.getElem?_eq_some_iff.1 hx).1
      rw [List.getElem?_toArray, xM hflat j (g ps.toList[j]) (by rw [List.getElem?_map, hq]; rfl) i hic]
      exact hx
    have hsel : ∀ j, j < n → eo4 pr ((List.range n).map fun i => fzL H (kM ev ps.toList i)) j = fzL H (kM ev ps.toList j) := by
     intro j hj
     rw [es6 (c := c) (by simpa using hj) (fun x hx => ?_)]
     ·simp [List.getD, List.getElem?_range hj]
     ·obtain ⟨i, hi, rfl⟩ := List.mem_map.1 hx
      exact (ae0 hok i (by simpa using hi)).1
    replace hrow : ax1 (eC β ((fzU (ps.toList.flatMap fun p => (ev p.2).cells)).map (·.1))) (aw3 β S ((fzU (ps.toList.flatMap fun p => (ev p.2).cells)).map (·.1))) w D c n (eo4 pr ((List.range n).map fun i => fzL H (kM ev ps.toList i))) ((ps.toList.map g).flatten).toArray := fun j hj => by rw [hsel j hj]; exact hrow j hj
    obtain ⟨u, w', β', S', q1, q2, q3, q4, q5, q6⟩ := be5 (o := o) (a := a) (new := new) d1 hn (e := e) (m := n) (b := w.heap.size) hc0 (Nat.le_refl _) hnm (by rw [List.size_toArray, xA hflat]; simp [hpl]) (cY w _) (Nat.le_refl _) (by show w.heap.size < (w.heap.push _).size; simp) (heap_alloc_new w _) hrow hrun
    refine ⟨_, h, u, w', β', S', q1, ?_, q3, d2.trans q4, d3.trans (fun _ h => h) q5, fun i b m hi h0 hni => ?_⟩
    rotate_left
    ·have hnd : i ∉ (fzU (ps.toList.flatMap fun p => (ev p.2).cells)).map (·.1) := fun hm => hni (by rw [List.map_append]; exact List.mem_append_left _ hm)
     exact q6 i b m (by unfold eC; rw [if_neg hnd]; exact hi) h0 (fun hm => hni (by rw [List.map_append]; exact List.mem_append_right _ hm))
    rw [mY]
    exact q2
   ·cases h
  ·cases h
 ·cases h
theorem cj1(hM:Mem β S D H w)(hn:¬D new){t:TypeId}{x:Operand}{s:ByteArray}(ho:o.op= .range t x)(hu:gH P t=true)(hx:den β S w D (.sc (.string s)) (a.eval x)):
 sB P β S D H new o a w (.val (.ptr new 0) [(new,some (.iter s 0))]):=by
 simp only[den]at hx
 have hu':P.underlying t=some .string:=by
  unfold gH at hu
  split at hu
  ·assumption
  ·cases hu
 have hrun:=run_range_string (P:=P) w t s hu'
 obtain⟨g1,g2,g3⟩:=hM.new (m:=1) (c:=.iter s 0) (b:=w.heap.size) (w':=w.alloc (.stringIter s 0)) hn (f8 D new) (bW D new) (cY w _) (Nat.le_refl _) (fun _=>by show w.heap.size< (w.heap.push _).size;simp) (by
  simp only[b5]
  exact⟨Nat.one_pos,heap_alloc_new w _⟩)
 refine⟨_,_,_,_,.inl (by simp only[execOp,ho,hx,Sem.run_bind,hrun,Result.andThen_ok,Sem.run_pure];rfl),g1,?_,g2,g3,fun i b m hi h0 _=>(cY w _).block b (hM.own i b m hi h0).1⟩
 simp only[den]
 refine⟨⟨bW D new,rfl⟩,fun b m h=>?_⟩
 rw[f6]at h
 cases h
 rfl
theorem db8(hM:Mem β S D H w){x:Operand}{v:V}(ho:o.op= .next x true)(hx:den β S w D v (a.eval x))(h:ba1 v H k=some r):cE P β S D H new o a w k r:=by
 unfold ba1 at h
 split at h
 ·rename_i i p
  split at h
  ·rename_i s q hi
   split at h
   ·rename_i hp
    subst hp
    obtain⟨b,m,hb,hr⟩:=hM.live i _ hi
    simp only[b5]at hr
    obtain⟨hm0,hr⟩:=hr
    simp only[den]at hx
    have hu:=hx.2 b m hb
    split at h
    ·rename_i hq
     have hlt:=(hM.own i b m hb hm0).1
     have hrun:(Instr.next (.pointer (some ⟨b,0,none⟩)) true o.type).run P w= .ok (.tuple #[.bool true,.int .i64 q,.int .i32 (Utf8.decode s q).1]) {w with heap:=w.heap.setIfInBounds b (.stringIter s (q+(Utf8.decode s q).2))}:=by
      simp[Instr.next,getObj,setObj,Sem.run_bind,Sem.run,hr,hq,goInt]
     obtain⟨q1,q2⟩:=hM.put (w':={w with heap:=w.heap.setIfInBounds b (.stringIter s (q+(Utf8.decode s q).2))}) (c':=.iter s (q+(Utf8.decode s q).2)) hi hb hm0 ⟨rfl,rfl,rfl,by simp,fun j _ hj=>by
      have:b≠j:=fun e=>hj (by rw[e])
      simp[this]⟩ (by simp only[b5];exact⟨hm0,by simp[hlt]⟩)
     refine⟨_,h,.tuple #[.bool true,.int .i64 q,.int .i32 (Utf8.decode s q).1],_,β,S,.inl ?_,q1.mono (f8 D new),?_,q2,Hb.refl _ _,fun i' b' m' hi' h0 hn'=>by
      have:b≠b':=fun e=>by subst e;exact hn' (by have:=hM.inj i' i _ _ _ hi' hb h0 hm0;simp[this])
      simp[this]⟩
     ·simp only[execOp,ho,hu,Sem.run_bind,hrun,Result.andThen_ok,Sem.run_pure]
     ·simp only[den,b7]
      exact⟨_,rfl,_,_,rfl,rfl,_,_,rfl,rfl,_,_,rfl,rfl,rfl⟩
    ·rename_i hq
     have hrun:(Instr.next (.pointer (some ⟨b,0,none⟩)) true o.type).run P w= .ok (.tuple #[.bool false]) w:=by
      simp[Instr.next,getObj,Sem.run,hr,hq]
     refine⟨_,h,b9 hM (u:=.tuple #[.bool false]) ?_ ?_⟩
     ·simp only[execOp,ho,hu,Sem.run_bind,hrun,Result.andThen_ok,Sem.run_pure]
     ·simp only[den,b7]
      exact⟨_,rfl,_,_,rfl,rfl,rfl⟩
   ·cases h
  ·cases h
 ·cases h
structure Grw(w w':World)(b m:Nat):Prop where
 os:w'.os=w.os
 tape:w'.tape=w.tape
 output:w'.output=w.output
 size:w.heap.size≤w'.heap.size
 block:∀x,x<w.heap.size→(0<m→x≠b)→w'.heap[x]? =w.heap[x]?
theorem Mem.move(hM:Mem β S D H w){D':Pr}{w':World}{i b m g cap n:Nat}{c c':Chunk}(hi:H i=some c)(hb:β i=some (b,m))(hn:¬D n)(hD:∀i,D i→D' i)(hDn:D' n)(hg:Grw w w' b m)(hgb:(g=b∧(0<cap→0<m))∨w.heap.size≤g)(hlt:0<cap→g<w'.heap.size)
 (hc:b5 (upd (upd β i none) n (some (g,cap))) S w' D' g cap c'):
 Mem (upd (upd β i none) n (some (g,cap))) S D' (upd (upd H i none) n (some c')) w'∧Evo β S w (upd (upd β i none) n (some (g,cap))) S w'∧Hb β (upd (upd β i none) n (some (g,cap))) D:=by
 have hne:i≠n:=fun e=>hn (e▸hM.dom i b m hb)
 have hHb:Hb β (upd (upd β i none) n (some (g,cap))) D:=fun j hj=>by
  have hjn:j≠n:=fun e=>hn (e▸hj)
  rw[s5 _ _ hjn]
  by_cases hji:j=i
  ·subst hji;rw[f6];exact .inr rfl
  ·rw[s5 _ _ hji];exact .inl rfl
 have hin:∀j b' m',j≠n→upd (upd β i none) n (some (g,cap)) j=some (b',m')→j≠i∧β j=some (b',m'):=by
  intro j b' m' hjn h
  rw[s5 _ _ hjn]at h
  by_cases hji:j=i
  ·subst hji;rw[f6]at h;cases h
  ·rw[s5 _ _ hji]at h;exact⟨hji,h⟩
 have hk:Kept S w w':=fun x hx=>hg.block x (hM.st x hx) (fun h0 e=>by subst e;exact(hM.own i x m hb h0).2 hx)
 have hgS:0<cap→¬S g:=by
  intro h0
  rcases hgb with⟨rfl,hc0⟩ |h
  ·exact(hM.own i g m hb (hc0 h0)).2
  ·exact fun hs=>by have:=hM.st g hs;omega
 refine⟨⟨?_,?_,?_,?_,?_,fun x hx=>Nat.lt_of_lt_of_le (hM.st x hx) hg.size⟩,⟨hg.os,hg.tape,hg.output,hg.size,fun b' hb' hno=>hg.block b' hb' (fun h0 e=>by subst e;exact hno i m h0 hb),fun _ h=>h,fun _ h=>.inl h,?_⟩,hHb⟩
 ·intro j d hd
  by_cases hjn:j=n
  ·subst hjn;rw[f6]at hd;cases hd;exact⟨g,cap,f6 _ _ _,hc⟩
  ·rw[s5 _ _ hjn]at hd
   by_cases hji:j=i
   ·subst hji;rw[f6]at hd;cases hd
   ·rw[s5 _ _ hji]at hd
    obtain⟨b',m',h1,h2⟩:=hM.live j d hd
    refine⟨b',m',by rw[s5 _ _ hjn,s5 _ _ hji];exact h1,j6 hHb (fun _ h=>h) hD hk (fun h0=>hg.block b' (hM.own j b' m' h1 h0).1 (fun h02 e=>by subst e;exact hji (hM.inj j i _ _ _ h1 hb h0 h02))) h2⟩
 ·intro j hj
  by_cases hjn:j=n
  ·subst hjn;rw[f6]at hj;cases hj
  ·rw[s5 _ _ hjn]at hj⊢
   by_cases hji:j=i
   ·subst hji;rw[f6]
   ·rw[s5 _ _ hji]at hj⊢;exact hM.dead j hj
 ·intro j b' m' h
  by_cases hjn:j=n
  ·rw[hjn];exact hDn
  ·exact hD j (hM.dom j b' m' (hin j b' m' hjn h).2)
 ·intro j b' m' h h0
  by_cases hjn:j=n
  ·subst hjn;rw[f6]at h;cases h;exact⟨hlt h0,hgS h0⟩
  ·have:=hM.own j b' m' (hin j b' m' hjn h).2 h0
   exact⟨Nat.lt_of_lt_of_le this.1 hg.size,this.2⟩
 ·intro j j' b' m' m'' h1 h2 h01 h02
  have key:∀x m0,0<cap→0<m0→x≠n→upd (upd β i none) n (some (g,cap)) x=some (g,m0)→False:=fun x m0 hc0 hm0 hx h=>by
   obtain⟨g1,g2⟩:=hin x g m0 hx h
   rcases hgb with⟨rfl,h⟩ |h
   ·exact g1 (hM.inj x i _ _ _ g2 hb hm0 (h hc0))
   ·have:=(hM.own x g m0 g2 hm0).1;omega
  by_cases hj:j=n<;>by_cases hj':j'=n
  ·rw[hj,hj']
  ·subst hj;rw[f6]at h1;cases h1;exact(key j' _ h01 h02 hj' h2).elim
  ·subst hj';rw[f6]at h2;cases h2;exact(key j _ h02 h01 hj h1).elim
  ·exact hM.inj j j' b' m' m'' (hin j _ _ hj h1).2 (hin j' _ _ hj' h2).2 h01 h02
 ·intro j b' m' h h0
  by_cases hjn:j=n
  ·subst hjn;rw[f6]at h;cases h
   rcases hgb with⟨rfl,hc0⟩ |h
   ·exact .inr ⟨i,m,hc0 h0,hb⟩
   ·exact .inl h
  ·exact .inr ⟨j,m',h0,(hin j b' m' hjn h).2⟩
theorem Mem.put2(hM:Mem β S D H w){w':World}{i b m:Nat}{c c':Chunk}(hi:H i=some c)(hb:β i=some (b,m))(hg:Grw w w' b m)(hc:b5 β S w' D b m c'):
 Mem β S D (upd H i (some c')) w'∧Evo β S w β S w':=by
 have hk:Kept S w w':=fun x hx=>hg.block x (hM.st x hx) (fun h0 e=>by subst e;exact(hM.own i x m hb h0).2 hx)
 refine⟨⟨?_,?_,hM.dom,fun j b' m' h h0=>⟨Nat.lt_of_lt_of_le (hM.own j b' m' h h0).1 hg.size,(hM.own j b' m' h h0).2⟩,hM.inj,fun x hx=>Nat.lt_of_lt_of_le (hM.st x hx) hg.size⟩,
  ⟨hg.os,hg.tape,hg.output,hg.size,fun b' hb' hn=>hg.block b' hb' (fun h0 e=>by subst e;exact hn i m h0 hb),fun _ h=>h,fun _ h=>.inl h,fun i b m h h0=>.inr ⟨i,m,h0,h⟩⟩⟩
 ·intro j d hd
  by_cases hj:j=i
  ·subst hj
   rw[f6]at hd
   cases hd
   exact⟨b,m,hb,hc⟩
  ·rw[s5 _ _ hj]at hd
   obtain⟨b',m',h1,h2⟩:=hM.live j d hd
   refine⟨b',m',h1,j6 (fun _ _=>.inl rfl) (fun _ h=>h) (fun _ h=>h) hk (fun h0=>hg.block b' (hM.own j b' m' h1 h0).1 (fun h02 e=>by subst e;exact hj (hM.inj j i _ _ _ h1 hb h0 h02))) h2⟩
 ·intro j hj
  by_cases he:j=i
  ·subst he;rw[f6]at hj;cases hj
  ·rw[s5 _ _ he]at hj;exact hM.dead j hj
theorem av1(hM:Mem β S D H w){y:V}{u:Value}{c m:Nat}{g:Nat→List V}(h:kI H y=some (c,m,g))(hy:den β S w D y u):
 ∃(A:Option Addr) (cap:Nat) (ad:Addr) (us:Nat→List Value),u= .slice A m cap∧(0<m→A=some ad)∧∀j,j<m→b7 β S w D (g j) (us j)∧j7 (g j)=true∧(us j).length=c∧(us j).all Value.oneCell'=true∧∀i x,(us j)[i]? =some x→w.cell? (ad.add (j*c+i))=some x:=by
 unfold kI at h
 split at h
 ·rename_i i z o l
  split at h
  ·rename_i e cc n f hi
   split at h
   ·rename_i hle
    obtain⟨hle,rfl⟩:=hle
    simp only[Option.some.injEq,Prod.mk.injEq]at h
    obtain⟨rfl,rfl,rfl⟩:=h
    obtain⟨b,M,hb,hr⟩:=hM.live i _ hi
    simp only[b5]at hr
    obtain⟨h1,h2,h3,hcur⟩:=hr
    simp only[den]at hy
    obtain⟨g1,A,rfl,g2⟩:=hy.2 b M hb
    by_cases hM0:0<M
    case neg=>exact⟨A,M-o,⟨0,0,none⟩,fun _=>[],rfl,fun h=>absurd h (by omega),fun j hj=>absurd hj (by omega)⟩
    obtain⟨cur,h4,h5,h6⟩:=hcur hM0
    refine⟨A,M-o,⟨b,o*z,none⟩,fun j=>if h:o+j<n then(h6 (o+j) h).choose else[],rfl,fun h0=>g2 (by omega),fun j hj=>?_⟩
    have hjn:o+j<n:=by omega
    simp only[hjn,dif_pos]
    obtain⟨q1,q2,q3,q4,q5⟩:=(h6 (o+j) hjn).choose_spec
    refine⟨q1,q2,q3,q4,fun i x hx=>?_⟩
    rw[dN,cell_of_row w b _ _ _ _ h4]
    rw[show o*z+(j*z+i)=(o+j)*z+i by rw[Nat.add_mul];omega]
    exact q5 i x hx
   ·cases h
  ·cases h
 ·simp only[Option.some.injEq,Prod.mk.injEq]at h
  obtain⟨rfl,rfl,rfl⟩:=h
  simp only[den]at hy
  obtain⟨h0,A,cap,a,us,rfl,h2,h3,h4⟩:=hy
  exact⟨A,cap,a,us,rfl,fun hm=>(h3 hm).1,h4⟩
 ·simp only[Option.some.injEq,Prod.mk.injEq]at h
  obtain⟨rfl,rfl,rfl⟩:=h
  simp only[den]at hy
  subst hy
  exact⟨none,0,⟨0,0,none⟩,fun _=>[],rfl,fun h=>absurd h (by omega),fun j hj=>absurd hj (by omega)⟩
 ·cases h
theorem ay2{t ty e:TypeId}{z l cap cap':Nat}{A A':Option Addr}(he:P.underlying t=some (.slice e))(hz:szP P e=some z)(hl:l≤cap):
 (Builtin.append_ #[t,t] ty #[.slice A l cap,.slice A' 0 cap']).run P w= .ok (.slice A l cap) w:=by
 cases A<;>cases A'<;>
  simp[Builtin.append_,Sem.run_bind,run_underlying he,kN hz,Builtin.lenOf,Builtin.firstCells,hl,loadCells,loadCellsFrom,storeCells]
end
end Go.Am
/- Append; operations of the model's that name no memory; all operations. -/
namespace Go.Am
open Go Go.RowKit
section
variable {P:Program} {β:Bt} {S D:Pr} {H:Hp} {w:World} {new:Nat} {o:Oper} {a:Act} {k:KR} {r:Ans}
theorem gA{b:Builtin}{c:Call}(hc:c.callee= .builtin b)(ho:o.op= .call c):∃cs,execOp a.eval o=builtin b c.argTypes o.type cs (c.args.map a.eval):=by
 refine⟨c.args.map fun| .const _=>true|_=>false,?_⟩
 simp[execOp,ho,resolve,hc,invoke]
 rfl
theorem rC{c m:Nat}{us:Nat→List Value}(hl:∀j,j<m→(us j).length=c){j i:Nat}(hj:j<m)(hi:i<c):(((List.range m).map us).flatten)[j*c+i]? =(us j)[i]? :=
 xM (fun vs hvs=>by obtain⟨j,hj,rfl⟩:=List.mem_map.1 hvs;exact hl j (by simpa using hj)) j (us j) (by simp[hj]) i hi
theorem ai6{c m:Nat}{us:Nat→List Value}(hl:∀j,j<m→(us j).length=c):(((List.range m).map us).flatten).length=m*c:=by
 rw[xA (k:=c) (fun vs hvs=>by obtain⟨j,hj,rfl⟩:=List.mem_map.1 hvs;exact hl j (by simpa using hj))]
 simp
theorem av3{e:TypeId}{c:Nat}{i:TypeInfo}(hi:P.info? e=some i)(h:aq1 P e c=true):∃z:Value,i.zero=some z∧z.cells.size=c:=by
 unfold aq1 at h
 rw[hi]at h
 simp only at h
 split at h
 ·rename_i z hz;exact⟨z,hz,by simpa using h⟩
 ·cases h
theorem sZ{t ty e:TypeId}{i:TypeInfo}{z:Value}(ht:P.underlying t=some (.slice e))(hi:P.info? e=some i)(hz:i.zero=some z)
 (b:Option Addr) (a:Addr) (n c:Nat) (news:List Value) (hl:news.length=n*i.size) (hnews:∀j v,news[j]? =some v→w.cell? (a.add j)=some v)
 (h0:0<n) (h63:(n:Int)≤9223372036854775807) (h48:n*i.bytes≤281474976710656):
 (Builtin.append_ #[t,t] ty #[.slice b 0 0,.slice (some a) n c]).run P w=(Builtin.append_ #[t,t] ty #[.slice none 0 0,.slice (some a) n c]).run P w:=by
 cases b with
 |none=>rfl
 |some b=>
  rw[run_append_nil w t ty e i z ht hi hz a n c news hl hnews h0 h63 h48,run_append_grow w t ty e i z ht hi hz b 0 0 [] (by simp) (fun j v h=>by simp at h) a n c news hl hnews (by omega) (by omega) (by rw[Nat.zero_add,nextslicecap_zero h0];exact h48)]
  simp only[Nat.zero_add]
  congr 1
  congr 1
  simp
theorem av9 {pr : Bool} (hM : Mem β S D H w) (hn : ¬ D new) {TS : Array TypeId} {x : Operand} {vx : V} {X : Value} {e : TypeId} {z by_ cc m : Nat} {g : Nat → List V} {us : Nat → List Value}
 (hex : ∀ v w', (Builtin.append_ TS o.type #[a.eval x, X]).run P w = .ok v w' → (execOp a.eval o).run P w = .ok (.value v) w') (hx : den β S w D vx (a.eval x))
 (hus : ∀ j, j < m → b7 β S w D (g j) (us j) ∧ j7 (g j) = true ∧ (us j).length = cc ∧ (us j).all Value.oneCell' = true)
 (hrun0 : m = 0 → ∀ (B : Option Addr) (l M : Nat), l ≤ M → (Builtin.append_ TS o.type #[.slice B l M, X]).run P w = .ok (.slice B l M) w)
 (hrun : cc = z → 0 < m → 0 < z → aq1 P e z = true → ∀ (v : Value) (n : Nat) (xs : List Value), w.ownsRow 0 e z v n xs → n + m ≤ maxLen → (n + m) * by_ ≤ 140737488355328 →
  ∃ v' w', (Builtin.append_ TS o.type #[v, X]).run P w = .ok v' w' ∧ w'.ownsRow 0 e z v' (n + m) (xs ++ ((List.range m).map us).flatten) ∧ w.grownBy w' v.ownBlock ∧ (v' = .slice none 0 0 ↔ v = .slice none 0 0 ∧ m = 0) ∧ (v'.ownBlock = v.ownBlock ∨ v'.ownBlock = some w.heap.size))
 (hrune : cc = z → 0 < m → aq1 P e z = true → ∀ B : Option Addr, m * by_ ≤ 140737488355328 → m ≤ maxLen → (Builtin.append_ TS o.type #[.slice B 0 0, X]).run P w = (Builtin.append_ TS o.type #[.slice none 0 0, X]).run P w)
 (h : db3 P pr e z by_ vx H new k (some (cc, m, g)) = some r) : cE P β S D H new o a w k r := by
 unfold db3 at h
 simp only [dl8] at h
 split at h
 ·-- nil
  simp only [den] at hx
  split at h
  ·rename_i hm
   subst hm
   refine ⟨_, h, b9 hM (u := .slice none 0 0) (hex _ _ ?_) (by simp only [den])⟩
   rw [hx]
   exact hrun0 rfl none 0 0 (Nat.le_refl _)
  ·rename_i hm
   split at h
   ·rename_i hcond
    obtain ⟨⟨hz0, hcz, hzo⟩, hroom, hmax⟩ := hcond
    subst hcz
    have hl : ∀ j, j < m → (us j).length = cc := fun j hj => (hus j hj).2.2.1
    obtain ⟨v', w', r1, r2, r3, r4, r5⟩ := hrun rfl (Nat.pos_of_ne_zero hm) hz0 hzo (.slice none 0 0) 0 [] (World.ownsRow_nil _ _ _ _) (by simpa using hmax) (by simpa [d9] using hroom)
    rcases r2.2 with ⟨rfl, _⟩ | ⟨g1, cap1, cur, rfl, _, c1, c2, c3, c4, c5⟩
    ·exact absurd (r4.1 rfl).2 hm
    ·have hg1 : g1 = w.heap.size := by
      rcases r5 with r5 | r5
      ·simp [Value.ownBlock] at r5
      ·simpa [Value.ownBlock] using r5
     subst hg1
     have hlt : w.heap.size < w'.heap.size := (Array.getElem?_eq_some_iff.1 c1).1
     refine ⟨_, h, be5 hM hn (m := cap1) (cur := cur) (b := w.heap.size) hz0 (by omega) c3 c4 ⟨r3.os, r3.tape, r3.output, r3.size, fun b hb => r3.block b hb (by simp [Value.ownBlock])⟩ (Nat.le_refl _) hlt c1 ?_ (hex _ _ (by rw [hx]; simpa using r1))⟩
     intro j hj
     obtain ⟨q1, q2, q3, q4⟩ := hus j hj
     refine ⟨us j, q1, q2, q3, q4, fun q v hq => ?_⟩
     have hqc : q < cc := by rw [← q3]; exact (List.getElem?_eq_some_iff.1 hq).1
     have h1 := rC hl hj hqc
     rw [hq] at h1
     have : (cur.toList.take ((0 + m) * cc))[j * cc + q]? = some v := by rw [c5]; simpa using h1
     rw [List.getElem?_take] at this
     split at this
     ·simpa using this
     ·cases this
   ·cases h
 ·-- one's own
  rename_i ii zz oo l
  split at h
  ·rename_i e' c' n f hrow
   split at h
   ·rename_i hcond
    obtain ⟨⟨hz0, hmc', rfl, rfl, rfl, hzz, hzo⟩, hroom, hmax, hln⟩ := hcond
    have hmc := hmc'.symm
    obtain ⟨b, M, hb, hr⟩ := hM.live ii _ hrow
    simp only [b5] at hr
    obtain ⟨h1, h2, h3, hcur⟩ := hr
    simp only [den] at hx
    obtain ⟨g1, B, hxu, g2⟩ := hx.2 b M hb
    simp only [Nat.zero_mul, Nat.sub_zero, Nat.zero_add] at hxu g1 g2
    obtain ⟨cur, hC⟩ : ∃ cur : Array Value, 0 < M → w.heap[b]? = some (.cells cur e (0, 0)) ∧ cur.size = M * z ∧ ax1 β S w D z n f cur := by
     by_cases hM0 : 0 < M
     ·obtain ⟨cur, hC⟩ := hcur hM0
      exact ⟨cur, fun _ => hC⟩
     ·exact ⟨#[], fun h => absurd h hM0⟩
    have h6 : ∀ j, j < l → ∃ us', b7 β S w D (f j) us' ∧ j7 (f j) = true ∧ us'.length = z ∧ us'.all Value.oneCell' = true ∧ ∀ q v, us'[q]? = some v → cur[j * z + q]? = some v := fun j hj => (hC (by omega)).2.2 j (by omega)
    have hrowl : ∀ j, j < l → ∃ us', b7 β S w D (f j) us' ∧ j7 (f j) = true ∧ us'.length = z ∧ us'.all Value.oneCell' = true ∧ ∀ q v, us'[q]? = some v → cur[j * z + q]? = some v := h6
    have hlM : l * z ≤ M * z := Nat.mul_le_mul_right z (by omega)
    by_cases hm : m = 0
    ·subst hm
     have hr0 := hrun0 rfl B l M (show l ≤ M by omega)
     obtain ⟨q1, q2, q3⟩ := hM.move (D' := kO D new) (w' := w) (g := b) (cap := M) (n := new) (c' := .row e z (l + 0) (cr8 pr 0 l f g)) hrow hb hn (f8 D new) (bW D new) ⟨rfl, rfl, rfl, Nat.le_refl _, fun _ _ _ => rfl⟩ (.inl ⟨rfl, id⟩) (fun h0 => (hM.own _ _ _ hb h0).1) (by
      simp only [b5]
      refine ⟨by omega, h2, hz0, fun h0 => ⟨cur, (hC h0).1, (hC h0).2.1, fun j hj => ?_⟩⟩
      obtain ⟨us', p1, p2, p3, p4, p5⟩ := hrowl j (by omega)
      rw [ct2 (c := z) (by omega) (fun j hj => by obtain ⟨us', p1, _, p3, _⟩ := hrowl j hj; rw [m9 p1]; exact p3) (fun j hj => absurd hj (Nat.not_lt_zero j)) (by omega)]
      simp only [bq7, if_pos (show j < l by omega)]
      exact ⟨us', l8 (fun _ h => h) (fun _ _ => rfl) _ _ p2 p1, p2, p3, p4, p5⟩)
     refine ⟨_, h, _, _, _, _, .inl (hex _ _ (by rw [hxu]; exact hr0)), q1, ?_, q2, q3, Same.refl _ _ _⟩
     simp only [den]
     refine ⟨⟨bW D new, rfl⟩, fun b' m' hb' => ?_⟩
     rw [f6] at hb'
     cases hb'
     exact ⟨by omega, B, by simp, fun h0 => by rw [g2 h0]; simp⟩
    ·have hcz := hmc.resolve_left hm
     subst hcz
     have hl : ∀ j, j < m → (us j).length = cc := fun j hj => (hus j hj).2.2.1
     have hroom' : (l + m) * by_ ≤ 140737488355328 := by simpa [d9] using hroom
     obtain ⟨v', w', r1, r2, r3, r5⟩ : ∃ v' w', (Builtin.append_ TS o.type #[.slice B l M, X]).run P w = .ok v' w' ∧ w'.ownsRow 0 e cc v' (l + m) (cur.toList.take (l * cc) ++ ((List.range m).map us).flatten) ∧
      Grw w w' b M ∧ (0 < M ∧ v'.ownBlock = some b ∨ v'.ownBlock = some w.heap.size) := by
      by_cases hM0 : 0 < M
      ·obtain ⟨h4, h5, _⟩ := hC hM0
       have hB := g2 hM0
       obtain ⟨v', w', r1, r2, r3, r4, r5⟩ := hrun rfl (Nat.pos_of_ne_zero hm) hz0 hzo (.slice (some ⟨b, 0, none⟩) l M) l (cur.toList.take (l * cc))
        ⟨by simp; omega, .inr ⟨b, M, cur, rfl, Nat.zero_le _, h4, by omega, h2, h5, rfl⟩⟩ hmax hroom'
       refine ⟨v', w', by rw [hB]; exact r1, r2, ⟨r3.os, r3.tape, r3.output, r3.size, fun x hx hx' => r3.block x hx (fun e => hx' hM0 (by simpa [Value.ownBlock, eq_comm] using e))⟩, ?_⟩
       rcases r5 with r5 | r5
       ·left; exact ⟨hM0, by simpa [Value.ownBlock] using r5⟩
       ·right; exact r5
      ·have hM' : M = 0 := by omega
       have hl0 : l = 0 := by omega
       subst hM' hl0
       obtain ⟨v', w', r1, r2, r3, r4, r5⟩ := hrun rfl (Nat.pos_of_ne_zero hm) hz0 hzo (.slice none 0 0) 0 [] (World.ownsRow_nil _ _ _ _) hmax hroom'
       refine ⟨v', w', by rw [hrune rfl (Nat.pos_of_ne_zero hm) hzo B (by simpa using hroom') (by simpa using hmax)]; exact r1, by simpa using r2, ⟨r3.os, r3.tape, r3.output, r3.size, fun x hx _ => r3.block x hx (by simp [Value.ownBlock])⟩, ?_⟩
       rcases r5 with r5 | r5
       ·exfalso
        rcases r2.2 with ⟨rfl, _⟩ | ⟨g3, cap1, cur1, rfl, _⟩
        ·exact hm (r4.1 rfl).2
        ·simp [Value.ownBlock] at r5
       ·right; exact r5
     rcases r2.2 with ⟨rfl, _⟩ | ⟨g3, cap1, cur1, rfl, _, c1, c2, c3, c4, c5⟩
     ·exfalso; rcases r5 with ⟨_, r5⟩ | r5 <;> simp [Value.ownBlock] at r5
     ·have hg3 : (g3 = b ∧ (0 < cap1 → 0 < M)) ∨ w.heap.size ≤ g3 := by
       rcases r5 with ⟨hM0, r5⟩ | r5
       ·left; exact ⟨by simpa [Value.ownBlock] using r5, fun _ => hM0⟩
       ·right; simp only [Value.ownBlock, Option.some.injEq] at r5; omega
      have hlt : g3 < w'.heap.size := (Array.getElem?_eq_some_iff.1 c1).1
      have hk : Kept S w w' := fun x hx => r3.block x (hM.st x hx) (fun h0 e => by subst e; exact (hM.own ii _ M hb h0).2 hx)
      have htake : ∀ (q : Nat) (v : Value), (cur.toList.take (l * cc) ++ ((List.range m).map us).flatten)[q]? = some v → cur1[q]? = some v := by
       intro q v hq
       rw [← c5, List.getElem?_take] at hq
       split at hq
       ·simpa using hq
       ·cases hq
      have hcl : (cur.toList.take (l * cc)).length = l * cc := by
       by_cases hM0 : 0 < M
       ·have := (hC hM0).2.1; simp; omega
       ·have : l = 0 := by omega
        subst this; simp
      obtain ⟨q1, q2, q3⟩ := hM.move (D' := kO D new) (w' := w') (g := g3) (cap := cap1) (n := new) (c' := .row e cc (l + m) (cr8 pr m l f g)) hrow hb hn (f8 D new) (bW D new) r3 hg3 (fun _ => hlt) (by
       simp only [b5]
       refine ⟨c2, c3, hz0, fun _ => ⟨cur1, c1, c4, fun j hj => ?_⟩⟩
       rw [ct2 (c := cc) (by omega) (fun j hj => by obtain ⟨us', p1, _, p3, _⟩ := hrowl j hj; rw [m9 p1]; exact p3) (fun j hj => by obtain ⟨p1, _, p3, _⟩ := hus j hj; rw [m9 p1]; exact p3) (by omega)]
       by_cases hjl : j < l
       ·obtain ⟨us', p1, p2, p3, p4, p5⟩ := hrowl j hjl
        simp only [bq7, if_pos hjl]
        refine ⟨us', l8 (fun _ h => h) hk _ _ p2 p1, p2, p3, p4, fun q v hq => htake _ _ ?_⟩
        have hqc : q < cc := by rw [← p3]; exact (List.getElem?_eq_some_iff.1 hq).1
        have : (j + 1) * cc ≤ l * cc := Nat.mul_le_mul_right cc (by omega)
        rw [Nat.add_mul] at this
        rw [List.getElem?_append, if_pos (by omega), List.getElem?_take, if_pos (by omega)]
        simpa using p5 q v hq
       ·obtain ⟨p1, p2, p3, p4⟩ := hus (j - l) (by omega)
        simp only [bq7, if_neg hjl]
        refine ⟨us (j - l), l8 (fun _ h => h) hk _ _ p2 p1, p2, p3, p4, fun q v hq => htake _ _ ?_⟩
        have hqc : q < cc := by rw [← p3]; exact (List.getElem?_eq_some_iff.1 hq).1
        have h7 := rC hl (show j - l < m by omega) hqc
        have : l * cc ≤ j * cc := Nat.mul_le_mul_right cc (by omega)
        rw [List.getElem?_append, if_neg (by omega), hcl, show j * cc + q - l * cc = (j - l) * cc + q by rw [Nat.sub_mul]; omega, h7]
        exact hq)
      refine ⟨_, h, _, _, _, _, .inl (hex _ _ (by rw [hxu]; exact r1)), q1, ?_, q2, q3, fun i' b' m' hi' h0' hn' => r3.block b' (hM.own i' b' m' hi' h0').1 (fun h0 e => by
       subst e
       exact hn' (by have := hM.inj i' ii _ _ _ hi' hb h0' h0; simp [this]))⟩
      simp only [den]
      refine ⟨⟨bW D new, rfl⟩, fun b' m' hb' => ?_⟩
      rw [f6] at hb'
      cases hb'
      exact ⟨by omega, some ⟨g3, 0, none⟩, by simp, fun _ => by simp⟩
   ·cases h
  ·cases h
 ·cases h
theorem ce8{pr:Bool}(hM:Mem β S D H w)(hn:¬D new){t:TypeId}{x y:Operand}{vx vy:V}{c:Call}(hc:c.callee= .builtin .append)(ho:o.op= .call c)(hargs:c.args=#[x,y])(hts:c.argTypes=#[t,t])
 (hx:den β S w D vx (a.eval x)) (hy:den β S w D vy (a.eval y)) (h:aa0 P pr t vx vy H new k=some r):cE P β S D H new o a w k r:=by
 have hex:∀v w',(Builtin.append_ #[t,t] o.type #[a.eval x,a.eval y]).run P w= .ok v w'→(execOp a.eval o).run P w= .ok (.value v) w':=by
  intro v w' hr
  obtain⟨cs,hcs⟩:=gA (a:=a) hc ho
  rw[hcs,hargs,hts]
  simp[builtin,Sem.run_bind,hr]
 unfold aa0 at h
 split at h
 ·rename_i e he
  split at h
  ·rename_i z by_ hz hb
   replace h:=cx9 (F:=db3 P pr e z by_ vx H new k) h
   cases hel:kI H vy with
   |none=>rw[hel]at h;cases h
   |some el=>
    obtain⟨cc,m,g⟩:=el
    rw[hel]at h
    obtain⟨A,cap,ad,us,hu,hA,hus⟩:=av1 hM hel hy
    cases hi:P.info? e with
    |none=>simp[szP,hi]at hz
    |some i=>
     have hz1:i.size=z:=by simpa[szP,hi]using hz
     have hb1:i.bytes=by_:=by simpa[ca5,hi]using hb
     have hl:∀j,j<m→(us j).length=cc:=fun j hj=>(hus j hj).2.2.1
     have hnw:0<cc→∀q v,(((List.range m).map us).flatten)[q]? =some v→w.cell? (ad.add q)=some v:=(fun hz0 q v hq=>by
      have hql:=(List.getElem?_eq_some_iff.1 hq).1
      rw[ai6 hl]at hql
      have hqm:q/cc<m:=Nat.div_lt_of_lt_mul (by rw[Nat.mul_comm];exact hql)
      have hqc:q%cc<cc:=Nat.mod_lt _ hz0
      have e1:q/cc*cc+q%cc=q:=by rw[Nat.mul_comm];exact Nat.div_add_mod _ _
      have:=rC hl hqm hqc
      rw[e1,hq]at this
      have:=(hus _ hqm).2.2.2.2 (q%cc) v this.symm
      rwa [e1]at this)
     have hone:∀v∈((List.range m).map us).flatten,v.oneCell'=true:=(fun v hv=>by
      obtain⟨vs,hvs,hv'⟩:=List.mem_flatten.1 hv
      obtain⟨j,hj,rfl⟩:=List.mem_map.1 hvs
      exact cb3 (hus j (by simpa using hj)).2.2.2.1 v hv')
     rw[hu]at hex
     refine av9 hM hn hex hx (fun j hj=>⟨(hus j hj).1,(hus j hj).2.1,(hus j hj).2.2.1,(hus j hj).2.2.2.1⟩) (fun hm B l M hlM=>?_) (fun hcz hm0 hz0 hzo v n xs hown hmax hroom=>?_) (fun hcz hm0 hzo B hroom hmax=>?_) h
     ·subst hm
      exact ay2 (P:=P) (w:=w) (j4 he) hz hlM
     ·subst hcz
      obtain⟨zv,hzv,hzs⟩:=av3 hi hzo
      have hA':=hA hm0
      subst hA'
      exact run_append_own_at (P:=P) w 0 t o.type e i zv cc by_ (j4 he) hi hzv hz1 hb1 hzs hz0 v n xs hown ad m cap (((List.range m).map us).flatten) (ai6 hl) (hnw hz0) hone hmax hroom (Nat.zero_le _)
     ·subst hcz
      obtain⟨zv,hzv,hzs⟩:=av3 hi hzo
      have hA':=hA hm0
      subst hA'
      by_cases hz0:0<cc
      ·exact sZ (P:=P) (w:=w) (j4 he) hi hzv B ad m cap _ (by rw[hz1];exact ai6 hl) (hnw hz0) hm0 (by simp only[maxLen]at hmax;omega) (by rw[hb1];omega)
      ·exact sZ (P:=P) (w:=w) (j4 he) hi hzv B ad m cap [] (by rw[hz1,Nat.eq_zero_of_not_pos hz0];simp) (fun j v hv=>by simp at hv) hm0 (by simp only[maxLen]at hmax;omega) (by rw[hb1];omega)
  ·cases h
 ·cases h
theorem df4{u:TypeId}(h:gH P u=true):P.underlying u=some .string:=by
 unfold gH at h
 split at h
 ·assumption
 ·cases h
theorem ci8{e:TypeId}(h:da5 P e=true):∃i,P.info? e=some i∧i.size=1∧i.bytes=1∧i.zero=some (.int .u8 0):=by
 unfold da5 at h
 split at h
 ·rename_i i hi
  simp only[Bool.and_eq_true,beq_iff_eq]at h
  obtain⟨⟨h1,h2⟩,h3⟩:=h
  refine⟨i,hi,h1,h2,?_⟩
  split at h3
  ·rename_i n hz
   rw[hz,beq_iff_eq.1 h3]
  ·cases h3
 ·cases h
theorem yF(base:Nat)(t u ty e:TypeId)(i:TypeInfo)(ht:P.underlying t=some (.slice e))(hu:P.underlying u=some .string)(hi:P.info? e=some i)(hz:i.zero=some (.int .u8 0))
 (hsize:i.size=1) (hby:i.bytes=1) (v:Value) (n:Nat) (xs:List Value) (hown:w.ownsRow base e 1 v n xs) (s:ByteArray)
 (h63:n+s.size≤maxLen) (hbytes:n+s.size≤140737488355328) (hbase:base≤w.heap.size):
 ∃v' w',(Builtin.append_ #[t,u] ty #[v,.string s]).run P w= .ok v' w'∧w'.ownsRow base e 1 v' (n+s.size) (xs++Lib.strCells s)∧w.grownBy w' v.ownBlock∧
  (v'= .slice none 0 0↔v= .slice none 0 0∧s.size=0)∧(v'.ownBlock=v.ownBlock∨v'.ownBlock=some w.heap.size):=by
 obtain⟨v',w',r1,r2,r3,r4⟩:=Lib.run_append_own_string (P:=P) w base t u ty e i ht hu hi hz hsize hby v n xs hown s h63 hbytes hbase
 refine⟨v',w',r1,r2,r3,r4,?_⟩
 have hsmall:n+s.size≤9223372036854775807:=by simp only[maxLen]at h63;omega
 have hxl:xs.length=n:=by simpa using hown.1
 rcases hown.2 with⟨rfl,rfl⟩ | ⟨g,cap,cur,rfl,hbg,hg,hnc,hcm,hcs,htake⟩
 ·by_cases hm:s.size=0
  ·left
   rw[r4.2 ⟨rfl,hm⟩]
  ·have hr:=run_append_nil_string (P:=P) w t u ty e i (.int .u8 0) ht hu hi hz s (by omega) (by omega) (by rw[hby];omega)
   rw[r1]at hr
   injection hr with hv hw
   right
   rw[hv]
   rfl
 ·by_cases hroom:n+s.size≤cap
  ·have hcs':cur.size=cap:=by simpa using hcs
   have hr:=Lib.run_append_room_string (P:=P) w t u ty e i ht hu hi hsize g n cap cur hg s hroom (by omega)
   rw[r1]at hr
   injection hr with hv hw
   left
   rw[hv]
   rfl
  ·have holds:∀j u,xs[j]? =some u→w.cell? ((⟨g,0,none⟩:Addr).add j)=some u:=hown.cells (g:=g) rfl
   have hr:=Lib.run_append_grow_string (P:=P) w t u ty e i (.int .u8 0) ht hu hi hz ⟨g,0,none⟩ n cap xs (by rw[hsize];simpa using hxl) holds s (by omega) (by omega) (by rw[hby];exact growslice_fits (by omega) (by omega))
   rw[r1]at hr
   injection hr with hv hw
   right
   rw[hv]
   rfl
theorem tT{t u ty e:TypeId}{i:TypeInfo}(ht:P.underlying t=some (.slice e))(hu:P.underlying u=some .string)(hi:P.info? e=some i)(hz:i.zero=some (.int .u8 0))(hsize:i.size=1)(hby:i.bytes=1)
 (b:Option Addr) (s:ByteArray) (h0:0<s.size) (h63:s.size≤140737488355328):(Builtin.append_ #[t,u] ty #[.slice b 0 0,.string s]).run P w=(Builtin.append_ #[t,u] ty #[.slice none 0 0,.string s]).run P w:=by
 cases b with
 |none=>rfl
 |some b=>
  have e1:(s.data.map fun b=>Value.int .u8 b.toNat)=(Lib.strCells s).toArray:=by
   apply Array.ext'
   simp[Lib.strCells]
  rw[run_append_nil_string (P:=P) w t u ty e i (.int .u8 0) ht hu hi hz s (by omega) (by omega) (by rw[hby];omega),Lib.run_append_grow_string (P:=P) w t u ty e i (.int .u8 0) ht hu hi hz b 0 0 [] (by simp) (fun j v h=>by simp at h) s (by omega) (by omega) (by rw[hby,Nat.zero_add,nextslicecap_zero h0];omega)]
  rw[e1]
  simp only[Nat.zero_add]
  congr 1
  congr 1
  simp
theorem bn5(s:ByteArray):(((List.range s.size).map fun j=>[Value.int .u8 ((s.data.toList.getD j 0).toNat:Int)]).flatten)=Lib.strCells s:=by
 apply List.ext_getElem?
 intro j
 have hl:s.data.toList.length=s.size:=by simp
 have e:∀l:List Nat,(l.map fun j=>[Value.int .u8 ((s.data.toList.getD j 0).toNat:Int)]).flatten=l.map fun j=>Value.int .u8 ((s.data.toList.getD j 0).toNat:Int):=by
  intro l
  induction l with
  |nil=>rfl
  |cons a l ih=>simp only[List.map_cons,List.flatten_cons,ih];rfl
 rw[e]
 unfold Lib.strCells
 rw[List.getElem?_map,List.getElem?_map]
 by_cases hj:j<s.size
 ·rw[List.getElem?_range hj]
  have:s.data.toList[j]? =some s.data.toList[j]:=List.getElem?_eq_getElem (by omega)
  simp only[Option.map_some,List.getD_eq_getElem?_getD,this,Option.getD_some]
 ·rw[List.getElem?_eq_none (by simp;omega),List.getElem?_eq_none (by omega)]
  rfl
theorem ce5{pr:Bool}(hM:Mem β S D H w)(hn:¬D new){t u:TypeId}{x y:Operand}{vx vy:V}{c:Call}(hc:c.callee= .builtin .append)(ho:o.op= .call c)(hargs:c.args=#[x,y])(hts:c.argTypes=#[t,u])
 (hx:den β S w D vx (a.eval x)) (hy:den β S w D vy (a.eval y)) (h:yX P pr t u vx vy H new k=some r):cE P β S D H new o a w k r:=by
 have hex:∀v w',(Builtin.append_ #[t,u] o.type #[a.eval x,a.eval y]).run P w= .ok v w'→(execOp a.eval o).run P w= .ok (.value v) w':=by
  intro v w' hr
  obtain⟨cs,hcs⟩:=gA (a:=a) hc ho
  rw[hcs,hargs,hts]
  simp[builtin,Sem.run_bind,hr]
 unfold yX at h
 split at h
 ·rename_i s
  split at h
  ·rename_i e he
   split at h
   ·rename_i hcond
    obtain⟨i,hi,h1,h2,h3⟩:=ci8 hcond.1
    have hu:=df4 hcond.2
    have hys:a.eval y= .string s:=by simpa[den]using hy
    rw[hys]at hex
    have hz:szP P e=some 1:=by simp[szP,hi,h1]
    refine av9 (us:=fun j=>[Value.int .u8 ((s.data.toList.getD j 0).toNat:Int)]) hM hn hex hx (fun j hj=>⟨by simp[er6,b7,den],rfl,rfl,rfl⟩) (fun hm B l M hlM=>?_) (fun _ hm0 _ _ v n xs hown hmax hroom=>?_) (fun _ hm0 _ B hroom hmax=>?_) h
    ·have hf:=Lib.run_firstCells_string (P:=P) w 1 s
     rw[hm]at hf
     have hsc:Lib.strCells s=[]:=List.eq_nil_of_length_eq_zero (by rw[Lib.strCells_length];exact hm)
     rw[hsc]at hf
     cases B<;>simp[Builtin.append_,Sem.run_bind,run_underlying (j4 he),run_underlying hu,kN hz,Builtin.lenOf,hm,hf,hlM,storeCells]
    ·rw[bn5]
     exact yF 0 t u o.type e i (j4 he) hu hi h3 h1 h2 v n xs hown s hmax (by simpa using hroom) (Nat.zero_le _)
    ·exact tT (j4 he) hu hi h3 h1 h2 B s hm0 (by simpa using hroom)
   ·cases h
  ·cases h
 ·cases h
theorem cl6{pr:Bool}{o q:Nat}{g f:Nat→List V}(hg:∀j,j<q→(g j).length=1){j:Nat}(hf:(f j).length=1):cs5 pr o q g f j=cr2 o q g f j:=by
 unfold cs5 cr2
 cases pr with
 |false=>rfl
 |true=>
  simp only[ar2]
  have one:∀l:List V,l.length=1→[l.getD 0 .junk]=l:=fun l h=>by
   match l,h with
   | [x],_=>rfl
  split
  ·exact one _ (hg _ (by omega))
  ·exact one _ hf
theorem dg3{pr:Bool}(hM:Mem β S D H w){t:TypeId}{x y:Operand}{vx vy:V}{c:Call}(hc:c.callee= .builtin .copy)(ho:o.op= .call c)(hargs:c.args=#[x,y])(hts:c.argTypes=#[t,t])
 (hx:den β S w D vx (a.eval x)) (hy:den β S w D vy (a.eval y)) (h:az6 P pr t vx vy H k=some r):cE P β S D H new o a w k r:=by
 have hex:∀v w',(Builtin.copy_ #[t,t] o.type #[a.eval x,a.eval y]).run P w= .ok v w'→(execOp a.eval o).run P w= .ok (.value v) w':=by
  intro v w' hr
  obtain⟨cs,hcs⟩:=gA (a:=a) hc ho
  rw[hcs,hargs,hts]
  simp[builtin,Sem.run_bind,hr]
 unfold az6 at h
 split at h
 case h_2=>cases h
 rename_i e he
 split at h
 case h_2=>cases h
 rename_i s hs
 split at h
 case h_2=>cases h
 rename_i i z off l
 split at h
 case h_2=>cases h
 rename_i e' c1 n f hi
 split at h
 case h_2=>cases h
 rename_i c' m g hel
 split at h
 case isFalse=>cases h
 rename_i hcond
 obtain⟨rfl,rfl,rfl,hcm,hln⟩:=hcond
 obtain⟨A,cap,ad,us,hu,hA,hus⟩:=av1 hM hel hy
 obtain⟨b,M,hb,hr⟩:=hM.live i _ hi
 simp only[b5]at hr
 obtain⟨h1,h2,h3,hcur⟩:=hr
 simp only[den]at hx
 obtain⟨g1,B,hxu,g2⟩:=hx.2 b M hb
 have hus':∀j,j<m→b7 β S w D (g j) (us j)∧j7 (g j)=true∧(us j).length=1∧(us j).all Value.oneCell'=true∧∀q v,(us j)[q]? =some v→w.cell? (ad.add (j+q))=some v:=fun j hj=>by
  have h1:=hus j hj
  rcases hcm with rfl|h
  ·simpa using h1
  ·omega
 have hsz:(P.info? e).map (·.size)=some 1:=by simpa[szP]using hs
 have fin:∀(q:Nat) (w':World),q=min m l→(Builtin.copy_ #[t,t] o.type #[a.eval x,a.eval y]).run P w= .ok (goInt q) w'→Grw w w' b M→
  (0<M→∃cur:Array Value,w'.heap[b]? =some (.cells cur e' (0,0))∧cur.size=M*1∧ax1 β S w' D 1 n (cs5 pr off (min m l) g f) cur)→cE P β S D H new o a w k r:=by
  rintro q w' rfl hrun hgr hrow
  obtain⟨q1,q2⟩:=hM.put2 (c':=.row e' 1 n (cs5 pr off (min m l) g f)) hi hb hgr (by simp only[b5];exact⟨h1,h2,h3,hrow⟩)
  refine⟨_,h,goInt (min m l:Nat),w',β,S,.inl (hex _ _ hrun),q1.mono (f8 D new),by simp[den,goInt],q2,Hb.refl _ _,fun i' b' m' hi' h0' hn'=>hgr.block b' (hM.own i' b' m' hi' h0').1 (fun h0 e=>by
   subst e
   exact hn' (by have:=hM.inj i' i _ _ _ hi' hb h0' h0;simp[this]))⟩
 by_cases hq:min m l=0
 ·refine fin 0 w hq.symm (by rw[hxu,hu];exact run_copy_none (P:=P) w t t o.type e B A l (M-off) m cap (j4 he) hsz (by simpa using hq)) ⟨rfl,rfl,rfl,Nat.le_refl _,fun _ _ _=>rfl⟩ fun h0=>?_
  obtain⟨cur,c1,c2,c3⟩:=hcur h0
  refine⟨cur,c1,c2,fun j hj=>?_⟩
  obtain⟨us1,p1,p2,p3,p4,p5⟩:=c3 j hj
  rw[cl6 (fun j hj=>by omega) (by rw[m9 p1];exact p3)]
  unfold cr2
  rw[if_neg (by omega)]
  exact⟨us1,p1,p2,p3,p4,p5⟩
 ·have hM0:0<M:=by omega
  obtain⟨cur,c1,c2,c3⟩:=hcur hM0
  have hB:=g2 (by omega)
  have hA':=hA (by omega)
  subst hA'
  have hl:∀j,j<min m l→(us j).length=1:=fun j hj=>(hus' j (by omega)).2.2.1
  have hcl:(((List.range (min m l)).map us).flatten).length=min m l:=by rw[ai6 hl];omega
  have hget:∀q,q<min m l→(((List.range (min m l)).map us).flatten)[q]? =(us q)[0]? :=fun q hq=>by
   have:=rC hl hq (Nat.one_pos)
   simpa using this
  have hrun:=run_copy_row (P:=P) w t t o.type e b (off*1) l (M-off) ad m cap cur e' (((List.range (min m l)).map us).flatten) (j4 he) hsz c1 (by rw[hcl]) (fun q v hqv=>by
   have hql:q<min m l:=by rw[←hcl];exact(List.getElem?_eq_some_iff.1 hqv).1
   rw[hget q hql]at hqv
   have:=(hus' q (by omega)).2.2.2.2 0 v hqv
   simpa using this) (by rw[hcl];omega) (fun v hv=>by
   obtain⟨vs,hvs,hv'⟩:=List.mem_flatten.1 hv
   obtain⟨j,hj,rfl⟩:=List.mem_map.1 hvs
   exact cb3 (hus' j (by have:=List.mem_range.1 hj;omega)).2.2.2.1 v hv')
  rw[hcl]at hrun
  have hk:Kept S w (w.setRow b (cur.toList.take (off*1)++((List.range (min m l)).map us).flatten++cur.toList.drop (off*1+min m l)).toArray):=fun y hy=>setRow_other w b y _ (fun e=>by subst e;exact(hM.own i y M hb hM0).2 hy)
  refine fin (min m l) _ rfl (by rw[hxu,hu,hB];exact hrun) ⟨by simp,by simp,by simp,by simp,fun y _ hy=>setRow_other w b y _ (hy hM0)⟩ fun _=>⟨_,setRow_heap w b _ _ _ _ c1,?_,fun j hj=>?_⟩
  ·simp[hcl];omega
  ·obtain⟨us1,p1,p2,p3,p4,p5⟩:=c3 j hj
   rw[cl6 (fun j hj=>by obtain⟨r1,_,r3,_⟩:=hus' j (by omega);rw[m9 r1];exact r3) (by rw[m9 p1];exact p3)]
   unfold cr2
   split
   ·rename_i hjo
    obtain⟨r1,r2,r3,r4,_⟩:=hus' (j-off) (by omega)
    refine⟨us (j-off),l8 (fun _ h=>h) hk _ _ r2 r1,r2,r3,r4,fun q v hqv=>?_⟩
    have hq0:q=0:=by have:=(List.getElem?_eq_some_iff.1 hqv).1;omega
    subst hq0
    have:=hget (j-off) (by omega)
    rw[hqv]at this
    have hsz2:(cur.toList.take (off*1)).length=off:=by simp;omega
    rw[List.getElem?_toArray,List.getElem?_append,if_pos (by rw[List.length_append,hsz2,hcl];omega),List.getElem?_append,if_neg (by rw[hsz2];omega),hsz2,show j*1+0-off=j-off by omega]
    exact this
   ·rename_i hjo
    refine⟨us1,l8 (fun _ h=>h) hk _ _ p2 p1,p2,p3,p4,fun q v hqv=>?_⟩
    have hq0:q=0:=by have:=(List.getElem?_eq_some_iff.1 hqv).1;omega
    subst hq0
    have h5:=p5 0 v hqv
    have hsz2:(cur.toList.take (off*1)).length=off:=by simp;omega
    rw[List.getElem?_toArray,List.getElem?_append]
    by_cases hlt:j<off
    ·rw[if_pos (by rw[List.length_append,hsz2,hcl];omega),List.getElem?_append,if_pos (by rw[hsz2];omega),List.getElem?_take,if_pos (by omega)]
     simpa using h5
    ·rw[if_neg (by rw[List.length_append,hsz2,hcl];omega),List.length_append,hsz2,hcl,List.getElem?_drop,show off*1+min m l+(j*1+0-(off+min m l))=j*1+0 by omega]
     simpa using h5
end
end Go.Am

