/- Texts joined. -/
import Derived.WalkKit
import Derived.WalkLawsBesides
import Derived.WalkSpells
import Derived.Maps.AppendAt
import Derived.Deep.Quiet
import Derived.KernelRfl
import Derived.Below
import Derived.Laws.BytesArg
import Derived.Lib.ConvBytes
import Derived.Lib.AppendStr
/- An executor over a small abstract memory. Generic: no program is named. -/
set_option linter.unusedSimpArgs false
set_option linter.defProp false
set_option linter.unusedVariables false
set_option linter.unusedSimpArgs false
set_option linter.unusedVariables false
namespace Go
abbrev U3{a0 a1 a2 s:Type}(x:a0×a1×a2)(f:a0->a1->a2->s):s:=f x.1 x.2.1 x.2.2
abbrev U4{a0 a1 a2 a3 s:Type}(x:a0×a1×a2×a3)(f:a0->a1->a2->a3->s):s:=f x.1 x.2.1 x.2.2.1 x.2.2.2
abbrev U5{a0 a1 a2 a3 a4 s:Type}(x:a0×a1×a2×a3×a4)(f:a0->a1->a2->a3->a4->s):s:=f x.1 x.2.1 x.2.2.1 x.2.2.2.1 x.2.2.2.2
abbrev U6{a0 a1 a2 a3 a4 a5 s:Type}(x:a0×a1×a2×a3×a4×a5)(f:a0->a1->a2->a3->a4->a5->s):s:=f x.1 x.2.1 x.2.2.1 x.2.2.2.1 x.2.2.2.2.1 x.2.2.2.2.2
abbrev U7{a0 a1 a2 a3 a4 a5 a6 s:Type}(x:a0×a1×a2×a3×a4×a5×a6)(f:a0->a1->a2->a3->a4->a5->a6->s):s:=f x.1 x.2.1 x.2.2.1 x.2.2.2.1 x.2.2.2.2.1 x.2.2.2.2.2.1 x.2.2.2.2.2.2
abbrev U8{a0 a1 a2 a3 a4 a5 a6 a7 s:Type}(x:a0×a1×a2×a3×a4×a5×a6×a7)(f:a0->a1->a2->a3->a4->a5->a6->a7->s):s:=f x.1 x.2.1 x.2.2.1 x.2.2.2.1 x.2.2.2.2.1 x.2.2.2.2.2.1 x.2.2.2.2.2.2.1 x.2.2.2.2.2.2.2
abbrev U9{a0 a1 a2 a3 a4 a5 a6 a7 a8 s:Type}(x:a0×a1×a2×a3×a4×a5×a6×a7×a8)(f:a0->a1->a2->a3->a4->a5->a6->a7->a8->s):s:=f x.1 x.2.1 x.2.2.1 x.2.2.2.1 x.2.2.2.2.1 x.2.2.2.2.2.1 x.2.2.2.2.2.2.1 x.2.2.2.2.2.2.2.1 x.2.2.2.2.2.2.2.2
abbrev U10{a0 a1 a2 a3 a4 a5 a6 a7 a8 a9 s:Type}(x:a0×a1×a2×a3×a4×a5×a6×a7×a8×a9)(f:a0->a1->a2->a3->a4->a5->a6->a7->a8->a9->s):s:=f x.1 x.2.1 x.2.2.1 x.2.2.2.1 x.2.2.2.2.1 x.2.2.2.2.2.1 x.2.2.2.2.2.2.1 x.2.2.2.2.2.2.2.1 x.2.2.2.2.2.2.2.2.1 x.2.2.2.2.2.2.2.2.2
abbrev U11{a0 a1 a2 a3 a4 a5 a6 a7 a8 a9 a10 s:Type}(x:a0×a1×a2×a3×a4×a5×a6×a7×a8×a9×a10)(f:a0->a1->a2->a3->a4->a5->a6->a7->a8->a9->a10->s):s:=f x.1 x.2.1 x.2.2.1 x.2.2.2.1 x.2.2.2.2.1 x.2.2.2.2.2.1 x.2.2.2.2.2.2.1 x.2.2.2.2.2.2.2.1 x.2.2.2.2.2.2.2.2.1 x.2.2.2.2.2.2.2.2.2.1 x.2.2.2.2.2.2.2.2.2.2
abbrev U12{a0 a1 a2 a3 a4 a5 a6 a7 a8 a9 a10 a11 s:Type}(x:a0×a1×a2×a3×a4×a5×a6×a7×a8×a9×a10×a11)(f:a0->a1->a2->a3->a4->a5->a6->a7->a8->a9->a10->a11->s):s:=f x.1 x.2.1 x.2.2.1 x.2.2.2.1 x.2.2.2.2.1 x.2.2.2.2.2.1 x.2.2.2.2.2.2.1 x.2.2.2.2.2.2.2.1 x.2.2.2.2.2.2.2.2.1 x.2.2.2.2.2.2.2.2.2.1 x.2.2.2.2.2.2.2.2.2.2.1 x.2.2.2.2.2.2.2.2.2.2.2
abbrev U13{a0 a1 a2 a3 a4 a5 a6 a7 a8 a9 a10 a11 a12 s:Type}(x:a0×a1×a2×a3×a4×a5×a6×a7×a8×a9×a10×a11×a12)(f:a0->a1->a2->a3->a4->a5->a6->a7->a8->a9->a10->a11->a12->s):s:=f x.1 x.2.1 x.2.2.1 x.2.2.2.1 x.2.2.2.2.1 x.2.2.2.2.2.1 x.2.2.2.2.2.2.1 x.2.2.2.2.2.2.2.1 x.2.2.2.2.2.2.2.2.1 x.2.2.2.2.2.2.2.2.2.1 x.2.2.2.2.2.2.2.2.2.2.1 x.2.2.2.2.2.2.2.2.2.2.2.1 x.2.2.2.2.2.2.2.2.2.2.2.2
abbrev U14{a0 a1 a2 a3 a4 a5 a6 a7 a8 a9 a10 a11 a12 a13 s:Type}(x:a0×a1×a2×a3×a4×a5×a6×a7×a8×a9×a10×a11×a12×a13)(f:a0->a1->a2->a3->a4->a5->a6->a7->a8->a9->a10->a11->a12->a13->s):s:=f x.1 x.2.1 x.2.2.1 x.2.2.2.1 x.2.2.2.2.1 x.2.2.2.2.2.1 x.2.2.2.2.2.2.1 x.2.2.2.2.2.2.2.1 x.2.2.2.2.2.2.2.2.1 x.2.2.2.2.2.2.2.2.2.1 x.2.2.2.2.2.2.2.2.2.2.1 x.2.2.2.2.2.2.2.2.2.2.2.1 x.2.2.2.2.2.2.2.2.2.2.2.2.1 x.2.2.2.2.2.2.2.2.2.2.2.2.2
abbrev U15{a0 a1 a2 a3 a4 a5 a6 a7 a8 a9 a10 a11 a12 a13 a14 s:Type}(x:a0×a1×a2×a3×a4×a5×a6×a7×a8×a9×a10×a11×a12×a13×a14)(f:a0->a1->a2->a3->a4->a5->a6->a7->a8->a9->a10->a11->a12->a13->a14->s):s:=f x.1 x.2.1 x.2.2.1 x.2.2.2.1 x.2.2.2.2.1 x.2.2.2.2.2.1 x.2.2.2.2.2.2.1 x.2.2.2.2.2.2.2.1 x.2.2.2.2.2.2.2.2.1 x.2.2.2.2.2.2.2.2.2.1 x.2.2.2.2.2.2.2.2.2.2.1 x.2.2.2.2.2.2.2.2.2.2.2.1 x.2.2.2.2.2.2.2.2.2.2.2.2.1 x.2.2.2.2.2.2.2.2.2.2.2.2.2.1 x.2.2.2.2.2.2.2.2.2.2.2.2.2.2
abbrev U16{a0 a1 a2 a3 a4 a5 a6 a7 a8 a9 a10 a11 a12 a13 a14 a15 s:Type}(x:a0×a1×a2×a3×a4×a5×a6×a7×a8×a9×a10×a11×a12×a13×a14×a15)(f:a0->a1->a2->a3->a4->a5->a6->a7->a8->a9->a10->a11->a12->a13->a14->a15->s):s:=f x.1 x.2.1 x.2.2.1 x.2.2.2.1 x.2.2.2.2.1 x.2.2.2.2.2.1 x.2.2.2.2.2.2.1 x.2.2.2.2.2.2.2.1 x.2.2.2.2.2.2.2.2.1 x.2.2.2.2.2.2.2.2.2.1 x.2.2.2.2.2.2.2.2.2.2.1 x.2.2.2.2.2.2.2.2.2.2.2.1 x.2.2.2.2.2.2.2.2.2.2.2.2.1 x.2.2.2.2.2.2.2.2.2.2.2.2.2.1 x.2.2.2.2.2.2.2.2.2.2.2.2.2.2.1 x.2.2.2.2.2.2.2.2.2.2.2.2.2.2.2
abbrev U17{a0 a1 a2 a3 a4 a5 a6 a7 a8 a9 a10 a11 a12 a13 a14 a15 a16 s:Type}(x:a0×a1×a2×a3×a4×a5×a6×a7×a8×a9×a10×a11×a12×a13×a14×a15×a16)(f:a0->a1->a2->a3->a4->a5->a6->a7->a8->a9->a10->a11->a12->a13->a14->a15->a16->s):s:=f x.1 x.2.1 x.2.2.1 x.2.2.2.1 x.2.2.2.2.1 x.2.2.2.2.2.1 x.2.2.2.2.2.2.1 x.2.2.2.2.2.2.2.1 x.2.2.2.2.2.2.2.2.1 x.2.2.2.2.2.2.2.2.2.1 x.2.2.2.2.2.2.2.2.2.2.1 x.2.2.2.2.2.2.2.2.2.2.2.1 x.2.2.2.2.2.2.2.2.2.2.2.2.1 x.2.2.2.2.2.2.2.2.2.2.2.2.2.1 x.2.2.2.2.2.2.2.2.2.2.2.2.2.2.1 x.2.2.2.2.2.2.2.2.2.2.2.2.2.2.2.1 x.2.2.2.2.2.2.2.2.2.2.2.2.2.2.2.2
abbrev U18{a0 a1 a2 a3 a4 a5 a6 a7 a8 a9 a10 a11 a12 a13 a14 a15 a16 a17 s:Type}(x:a0×a1×a2×a3×a4×a5×a6×a7×a8×a9×a10×a11×a12×a13×a14×a15×a16×a17)(f:a0->a1->a2->a3->a4->a5->a6->a7->a8->a9->a10->a11->a12->a13->a14->a15->a16->a17->s):s:=f x.1 x.2.1 x.2.2.1 x.2.2.2.1 x.2.2.2.2.1 x.2.2.2.2.2.1 x.2.2.2.2.2.2.1 x.2.2.2.2.2.2.2.1 x.2.2.2.2.2.2.2.2.1 x.2.2.2.2.2.2.2.2.2.1 x.2.2.2.2.2.2.2.2.2.2.1 x.2.2.2.2.2.2.2.2.2.2.2.1 x.2.2.2.2.2.2.2.2.2.2.2.2.1 x.2.2.2.2.2.2.2.2.2.2.2.2.2.1 x.2.2.2.2.2.2.2.2.2.2.2.2.2.2.1 x.2.2.2.2.2.2.2.2.2.2.2.2.2.2.2.1 x.2.2.2.2.2.2.2.2.2.2.2.2.2.2.2.2.1 x.2.2.2.2.2.2.2.2.2.2.2.2.2.2.2.2.2
abbrev U21{a0 a1 a2 a3 a4 a5 a6 a7 a8 a9 a10 a11 a12 a13 a14 a15 a16 a17 a18 a19 a20 s:Type}(x:a0×a1×a2×a3×a4×a5×a6×a7×a8×a9×a10×a11×a12×a13×a14×a15×a16×a17×a18×a19×a20)(f:a0->a1->a2->a3->a4->a5->a6->a7->a8->a9->a10->a11->a12->a13->a14->a15->a16->a17->a18->a19->a20->s):s:=f x.1 x.2.1 x.2.2.1 x.2.2.2.1 x.2.2.2.2.1 x.2.2.2.2.2.1 x.2.2.2.2.2.2.1 x.2.2.2.2.2.2.2.1 x.2.2.2.2.2.2.2.2.1 x.2.2.2.2.2.2.2.2.2.1 x.2.2.2.2.2.2.2.2.2.2.1 x.2.2.2.2.2.2.2.2.2.2.2.1 x.2.2.2.2.2.2.2.2.2.2.2.2.1 x.2.2.2.2.2.2.2.2.2.2.2.2.2.1 x.2.2.2.2.2.2.2.2.2.2.2.2.2.2.1 x.2.2.2.2.2.2.2.2.2.2.2.2.2.2.2.1 x.2.2.2.2.2.2.2.2.2.2.2.2.2.2.2.2.1 x.2.2.2.2.2.2.2.2.2.2.2.2.2.2.2.2.2.1 x.2.2.2.2.2.2.2.2.2.2.2.2.2.2.2.2.2.2.1 x.2.2.2.2.2.2.2.2.2.2.2.2.2.2.2.2.2.2.2.1 x.2.2.2.2.2.2.2.2.2.2.2.2.2.2.2.2.2.2.2.2
abbrev U22{a0 a1 a2 a3 a4 a5 a6 a7 a8 a9 a10 a11 a12 a13 a14 a15 a16 a17 a18 a19 a20 a21 s:Type}(x:a0×a1×a2×a3×a4×a5×a6×a7×a8×a9×a10×a11×a12×a13×a14×a15×a16×a17×a18×a19×a20×a21)(f:a0->a1->a2->a3->a4->a5->a6->a7->a8->a9->a10->a11->a12->a13->a14->a15->a16->a17->a18->a19->a20->a21->s):s:=f x.1 x.2.1 x.2.2.1 x.2.2.2.1 x.2.2.2.2.1 x.2.2.2.2.2.1 x.2.2.2.2.2.2.1 x.2.2.2.2.2.2.2.1 x.2.2.2.2.2.2.2.2.1 x.2.2.2.2.2.2.2.2.2.1 x.2.2.2.2.2.2.2.2.2.2.1 x.2.2.2.2.2.2.2.2.2.2.2.1 x.2.2.2.2.2.2.2.2.2.2.2.2.1 x.2.2.2.2.2.2.2.2.2.2.2.2.2.1 x.2.2.2.2.2.2.2.2.2.2.2.2.2.2.1 x.2.2.2.2.2.2.2.2.2.2.2.2.2.2.2.1 x.2.2.2.2.2.2.2.2.2.2.2.2.2.2.2.2.1 x.2.2.2.2.2.2.2.2.2.2.2.2.2.2.2.2.2.1 x.2.2.2.2.2.2.2.2.2.2.2.2.2.2.2.2.2.2.1 x.2.2.2.2.2.2.2.2.2.2.2.2.2.2.2.2.2.2.2.1 x.2.2.2.2.2.2.2.2.2.2.2.2.2.2.2.2.2.2.2.2.1 x.2.2.2.2.2.2.2.2.2.2.2.2.2.2.2.2.2.2.2.2.2
abbrev U23{a0 a1 a2 a3 a4 a5 a6 a7 a8 a9 a10 a11 a12 a13 a14 a15 a16 a17 a18 a19 a20 a21 a22 s:Type}(x:a0×a1×a2×a3×a4×a5×a6×a7×a8×a9×a10×a11×a12×a13×a14×a15×a16×a17×a18×a19×a20×a21×a22)(f:a0->a1->a2->a3->a4->a5->a6->a7->a8->a9->a10->a11->a12->a13->a14->a15->a16->a17->a18->a19->a20->a21->a22->s):s:=f x.1 x.2.1 x.2.2.1 x.2.2.2.1 x.2.2.2.2.1 x.2.2.2.2.2.1 x.2.2.2.2.2.2.1 x.2.2.2.2.2.2.2.1 x.2.2.2.2.2.2.2.2.1 x.2.2.2.2.2.2.2.2.2.1 x.2.2.2.2.2.2.2.2.2.2.1 x.2.2.2.2.2.2.2.2.2.2.2.1 x.2.2.2.2.2.2.2.2.2.2.2.2.1 x.2.2.2.2.2.2.2.2.2.2.2.2.2.1 x.2.2.2.2.2.2.2.2.2.2.2.2.2.2.1 x.2.2.2.2.2.2.2.2.2.2.2.2.2.2.2.1 x.2.2.2.2.2.2.2.2.2.2.2.2.2.2.2.2.1 x.2.2.2.2.2.2.2.2.2.2.2.2.2.2.2.2.2.1 x.2.2.2.2.2.2.2.2.2.2.2.2.2.2.2.2.2.2.1 x.2.2.2.2.2.2.2.2.2.2.2.2.2.2.2.2.2.2.2.1 x.2.2.2.2.2.2.2.2.2.2.2.2.2.2.2.2.2.2.2.2.1 x.2.2.2.2.2.2.2.2.2.2.2.2.2.2.2.2.2.2.2.2.2.1 x.2.2.2.2.2.2.2.2.2.2.2.2.2.2.2.2.2.2.2.2.2.2
end Go
namespace Go.Am
section
open Go
inductive V where
 |junk
 |sc (v:Value)
 |agg (cs:List V)
 |tup (vs:List V)
 |ptr (i o:Nat)
 |ep (i k j o:Nat)
 |rp (cs:List V)
 |sl (i k o l:Nat)
 |ro (k n:Nat) (f:Nat->List V)
 |fn (f:FuncId) (cs:List V)
 |mp (i:Nat)
 |ifc (t:TypeId) (v:V)
 |bf (f:FuncId) (fs cs:List V)
instance:Inhabited V:=⟨.junk⟩
inductive Z1 where
 |blk (cs:List V)
 |row (e:TypeId) (k n:Nat) (f:Nat->List V)
 |iter (s:ByteArray) (p:Nat)
 |map (es:List (Int×V))
 |smap (n:Nat) (has:ByteArray->Bool) (f:ByteArray->V)
 |tbk (t:TypeId) (cs:List V)
instance:Inhabited Z1:=⟨.blk []⟩
abbrev Hp:=Nat->Option Z1
def hp(l:List (Option Z1)):Hp:=λi=>l.getD i none
def upd{α:Type}(h:Nat->Option α)(i:Nat)(c:Option α):Nat->Option α:=λj=>if j=i then c else h j
def aG(h:Hp):List (Nat×Option Z1)->Hp
 | []=>h
 | (i,c)::l=>aG (upd h i c) l
structure St where
 fr:List V
 H:Hp
 nx:Nat
 rt:Nat
 me:FuncId
mutual
def V.ids:V->List Nat
 | .ptr i _=>[i]
 | .ep i _ _ _=>[i]
 | .sl i _ _ _=>[i]
 | .mp i=>[i]
 | .agg cs=>iC cs
 | .tup cs=>iC cs
 | .fn _ cs=>iC cs
 | .ifc _ v=>v.ids
 | .bf _ fs cs=>iC fs++iC cs
 |_=>[]
def iC:List V->List Nat
 | []=>[]
 |v::l=>v.ids++iC l
end
def Z1.ids:Z1->List Nat
 | .blk cs=>iC cs
 | .tbk _ cs=>iC cs
 |_=>[]
mutual
def V.ren(r:Nat->Option Nat):V->V
 | .ptr i o=>match r i with|some i=>.ptr i o|none=>.junk
 | .ep i k j o=>match r i with|some i=>.ep i k j o|none=>.junk
 | .sl i k o l=>match r i with|some i=>.sl i k o l|none=>.junk
 | .mp i=>match r i with|some i=>.mp i|none=>.junk
 | .agg cs=>.agg (an1 r cs)
 | .tup cs=>.tup (an1 r cs)
 | .fn f cs=>.fn f (an1 r cs)
 | .ifc t v=>.ifc t (v.ren r)
 | .bf f fs cs=>.bf f (an1 r fs) (an1 r cs)
 |v=>v
def an1(r:Nat->Option Nat):List V->List V
 | []=>[]
 |v::l=>v.ren r::an1 r l
end
def Z1.ren(r:Nat->Option Nat):Z1->Z1
 | .blk cs=>.blk (an1 r cs)
 | .tbk t cs=>.tbk t (an1 r cs)
 |c=>c
mutual
def V.pure:V->Bool
 | .sc _=>true
 | .agg cs=>n4 cs
 | .tup cs=>n4 cs
 | .fn _ cs=>n4 cs
 | .ifc _ v=>v.pure
 | .bf _ fs cs=>n4 fs&&n4 cs
 | .ro _ _ _=>true
 | .rp _=>true
 |_=>false
def n4:List V->Bool
 | []=>true
 |v::l=>v.pure&&n4 l
end
mutual
def V.toVal:V->Option Value
 | .sc v=>some v
 | .agg cs=>(vE cs).map λl=>.agg l.toArray
 | .tup cs=>(vE cs).map λl=>.tuple l.toArray
 | .fn f cs=>(vE cs).map λl=>.func (.func f) #[] l.toArray
 | .ifc t v=>v.toVal.map (.iface t)
 | .bf f fs cs=>match vE fs,vE cs with|some l,some m=>some (.func (.func f) l.toArray m.toArray) |_,_=>none
 |_=>none
def vE:List V->Option (List Value)
 | []=>some []
 |v::l=>match v.toVal,vE l with|some x,some xs=>some (x::xs) |_,_=>none
end
def nM:Value->V
 | .agg cs=>if cs.toList.all Value.oneCell' then .agg (cs.toList.map .sc)else .junk
 |v=>.sc v
def gk5:Value->V
 | .tuple vs=>.tup (vs.toList.map nM)
 |v=>nM v
def V.one:V->Bool
 | .agg _=>false
 | .tup _=>false
 | .junk=>false
 | .sc v=>v.oneCell'
 |_=>true
def V.cells:V->List V
 | .agg cs=>cs
 |v=>[v]
def V.sc1:V->Bool
 | .sc _=>true
 |_=>false
def V.sc2:V->Bool
 | .sc _=>true
 | .agg cs=>cs.all V.sc1
 |_=>false
def V.scal:V->Bool
 | .tup cs=>cs.all V.sc2
 |v=>v.sc2
def sC(P:Program){α:Type}:Sem α->Option α
 | .pure a=>some a
 | .program k=>sC P (k P)
 | .mark _ k=>sC P k
 |_=>none
def fp9(P:Program)(t:TypeId):Option Bool:=match P.underlying t with|some (.struct _)=>some true|some (.array _ _)=>some true|some _=>some false|none=>none
def szP(P:Program)(t:TypeId):Option Nat:=(P.info? t).map (·.size)
def eV(P:Program)(t:TypeId):Bool:=match P.underlying t with|some .string=>true|_=>false
def jG(P:Program)(t:TypeId):Option TypeId:=match P.underlying t with|some (.slice e)=>some e|_=>none
def fo1(P:Program)(t:TypeId):Option (Nat×TypeId):=match P.underlying t with|some (.array n e)=>some (n,e) |_=>none
def fk5(P:Program)(t:TypeId)(f:Nat):Option (Nat×TypeId):=match P.underlying t with|some (.struct fs)=>(fs[f]?).map λf=>(f.offset,f.type) |_=>none
def bh1(P:Program)(t:TypeId):Option (List V):=(P.info? t).bind λi=>i.zero.map λz=>z.cells.toList.map .sc
def ct5(P:Program)(t:TypeId):Option Nat:=(P.info? t).map (·.bytes)
def seg(P:Program)(t:TypeId)(cs:List V)(o:Nat):Option V:=
 match fp9 P t with
 |some true=>match szP P t with
  |some n=>if o+n<=cs.length then some (.agg ((cs.drop o).take n))else none
  |none=>none
 |some false=>cs[o]?
 |none=>none
def nP(cs:List V)(o:Nat)(vs:List V):List V:=cs.take o++vs++cs.drop (o+vs.length)
inductive Res where
 | val (v : V) (us : List (Nat × Option Z1))
 | call (f : FuncId) (args : List V)
 | pan (v : V) (us : List (Nat × Option Z1))
 /-- To be called at the end, with what it holds. -/
 | dfr (f : FuncId) (cs : List V)
inductive Ex where
 |normal
 |exit (id:Nat)
 |ret
 |panic (v:V)
inductive Z3 where
 |ret (v:V) (L:List (Option Z1))
 |pan (v:V)
inductive Ans where
 |c (r:Z3)
 |l (e:Ex) (s:St)
def hg7(x:Value)(k:Value->Option Ans):Option Ans:=
 match x with
 | .int a b=>k (.int a b)
 | .bool b=>k (.bool b)
 | .string s=>k (.string s)
 |x=>k x
mutual
def fV:V->(V->Option Ans)->Option Ans
 | .junk,k=>k .junk
 | .sc x,k=>hg7 x λx=>k (.sc x)
 | .agg cs,k=>fL cs λcs=>k (.agg cs)
 | .tup cs,k=>fL cs λcs=>k (.tup cs)
 | .ptr i o,k=>k (.ptr i o)
 | .ep i c j o,k=>k (.ep i c j o)
 | .rp cs,k=>fL cs λcs=>k (.rp cs)
 | .sl i c o l,k=>k (.sl i c o l)
 | .ro c n f,k=>k (.ro c n f)
 | .fn f cs,k=>fL cs λcs=>k (.fn f cs)
 | .mp i,k=>k (.mp i)
 | .ifc t v,k=>fV v λv=>k (.ifc t v)
 | .bf f fs cs,k=>fL fs λfs=>fL cs λcs=>k (.bf f fs cs)
def fL:List V->(List V->Option Ans)->Option Ans
 | [],k=>k []
 |v::l,k=>fV v λv=>fL l λl=>k (v::l)
end
def fLL:List (List V)->(List (List V)->Option Ans)->Option Ans
 | [],k=>k []
 |l::ls,k=>fL l λl=>fLL ls λls=>k (l::ls)
def fC(c:Option Z1)(k:Option Z1->Option Ans):Option Ans:=
 match c with
 |none=>k none
 |some (.blk cs)=>fL cs λcs=>k (some (.blk cs))
 |some (.row e c n f)=>k (some (.row e c n f))
 |some (.iter s p)=>k (some (.iter s p))
 |some (.map es)=>k (some (.map es))
 |some (.smap n g f)=>k (some (.smap n g f))
 |some (.tbk t cs)=>fL cs λcs=>k (some (.tbk t cs))
def fCL:List (Option Z1)->(List (Option Z1)->Option Ans)->Option Ans
 | [],k=>k []
 |c::l,k=>fC c λc=>fCL l λl=>k (c::l)
def fU:List (Nat×Option Z1)->(List (Nat×Option Z1)->Option Ans)->Option Ans
 | [],k=>k []
 | (i,c)::l,k=>fC c λc=>fU l λl=>k ((i,c)::l)
def fNL:List Nat->(List Nat->Option Ans)->Option Ans
 | [],k=>k []
 |i::l,k=>fNL l λl=>k (i::l)
def setK:List V->Nat->V->(List V->Option Ans)->Option Ans
 | [],_,_,k=>k []
 |_::l,0,v,k=>k (v::l)
 |x::l,t+1,v,k=>setK l t v λl=>k (x::l)
def ho9(fr:List V)(d:Option Tmp)(v:V)(k:List V->Option Ans):Option Ans:=
 match d with
 |some t=>setK fr t v k
 |none=>k fr
def V.bw1(get:Hp):V->V
 | .sl i z o l=>match get i with|some (.row _ k n f)=>if o+l<=n/\z=k then .ro k l (λj=>f (o+j))else .junk|_=>.junk
 |v=>v
def V.bw2(get:Hp):V->V
 | .agg cs=>.agg (cs.map (·.bw1 get))
 |v=>v.bw1 get
def V.bw(get:Hp):V->V
 | .tup cs=>.tup (cs.map (·.bw2 get))
 |v=>v.bw2 get
def cx1(get:Hp)(v:V)(k:V->Option Ans):Option Ans:=
 match v with
 | .sl i z o l=>match get i with|some (.row _ c n f)=>if o+l<=n/\z=c then k (.ro c l (λj=>f (o+j)))else none|_=>none
 |v=>k v
def cq1(get:Hp):List V->(List V->Option Ans)->Option Ans
 | [],k=>k []
 |v::l,k=>cx1 get v λv=>cq1 get l λl=>k (v::l)
def gt6(get:Hp)(v:V)(k:V->Option Ans):Option Ans:=
 match v with
 | .agg cs=>cq1 get cs λcs=>k (.agg cs)
 |v=>cx1 get v k
def gj8(get:Hp):List V->(List V->Option Ans)->Option Ans
 | [],k=>k []
 |v::l,k=>gt6 get v λv=>gj8 get l λl=>k (v::l)
def bwK(get:Hp)(v:V)(k:V->Option Ans):Option Ans:=
 match v with
 | .tup cs=>gj8 get cs λcs=>k (.tup cs)
 |v=>gt6 get v k
def hg4(get:Hp):List V->(List V->Option Ans)->Option Ans
 | [],k=>k []
 |v::l,k=>bwK get v λv=>hg4 get l λl=>k (v::l)
def nV:V->List (Nat×Option Z1)
 | .sl i _ _ _=>[(i,none)]
 |_=>[]
def be6:V->List (Nat×Option Z1)
 | .agg cs=>cs.flatMap nV
 |v=>nV v
def yJ:V->List (Nat×Option Z1)
 | .tup cs=>cs.flatMap be6
 |v=>be6 v
def fzL(get:Hp)(l:List V):List V:=l.map (·.bw1 get)
def fzU(l:List V):List (Nat×Option Z1):=l.flatMap nV
def bw5:V->Option Int
 | .sc (.int _ n)=>some n
 |_=>none
def kQ(ev:Operand->V)(ps:List (Nat×Operand))(i:Nat):List V:=
 match ps[i]?with
 |some p=>(ev p.2).cells
 |none=>[]
def at5(k n:Nat)(f:Nat->List V):Bool:=(List.range n).all λi=>(f i).length==k&&n4 (f i)&&(f i).all V.one
def au3(P:Program)(z:List V)(place:Nat->Option (Nat×Nat))(ev:Operand->V):List (Nat×Operand)->Option (List V)
 | []=>some z
 | (i,x)::ps=>
  match place i with
  |some (o,n)=>if(ev x).cells.length=n/\o+n<=z.length/\(ev x).cells.all V.one then au3 P (nP z o (ev x).cells) place ev ps else none
  |none=>none
def j2:Nat:=16
def b6:Nat:=140737488355328
abbrev KR:=Res->Option Ans
def bU(P:Program)(o:Oper)(ev:Operand->V)(k:KR):Option Ans:=
 match o.op.operands.toList.all (λx=>((ev x).toVal).isSome)with
 |true=>match sC P (execOp (λx=>((ev x).toVal).getD undef) o)with
  |some (.value v)=>k (.val (gk5 v) [])
  |some (.enter f args)=>k (.call f (args.toList.map nM))
  |_=>none
 |false=>none
def bm6(c a b:V)(k:KR):Option Ans:=
 match c with
 | .sc (.bool t)=>if t then k (.val a [])else k (.val b [])
 |_=>none
def hc4(P:Program)(t:TypeId):Bool:=match P.underlying t with
 |some (.struct fs)=>match fs[0]?with
  |some f=>match P.underlying f.type with
   |some (.pointer u)=>u==t
   |some (.struct gs)=>match gs[0]?with
    |some g=>match P.underlying g.type with|some (.pointer u)=>u==f.type|_=>false
    |none=>false
   |_=>false
  |none=>false
 |_=>false
def au5(P:Program)(t:TypeId)(new:Nat)(k:KR):Option Ans:=
 match bh1 P t with
 |some cs=>if cs.all V.one then(match hc4 P t with|true=>k (.val (.ptr new 0) [(new,some (.tbk t cs))]) |false=>k (.val (.ptr new 0) [(new,some (.blk cs))]))else none
 |none=>none
def eg2(x:V)(new:Nat)(k:KR):Option Ans:=
 if x.cells.all V.one then k (.val (.ptr new 0) [(new,some (.blk x.cells))])else none
def ad9(P:Program)(t:TypeId)(x:V)(get:Hp)(k:KR):Option Ans:=
 match x with
 | .ptr i o=>match get i with
  |some (.blk cs)=>match seg P t cs o with|some v=>k (.val v []) |none=>none
  |some (.tbk _ cs)=>match seg P t cs o with|some v=>k (.val v []) |none=>none
  |_=>none
 | .ep i z j o=>match get i with
  |some (.row _ c n f)=>if j<n/\z=c then(match seg P t (f j) o with|some v=>k (.val v []) |none=>none)else none
  |_=>none
 | .rp cs=>match seg P t cs 0 with|some v=>k (.val v []) |none=>none
 |_=>none
def bb6(c:Prop)[Decidable c](v u:V):V:=
 match v,u with
 | .sc (.int k a),.sc (.int k' b)=>if k=k' then .sc (.int k (ite c a b))else ite c v u
 | .sc (.bool a),.sc (.bool b)=>.sc (.bool (ite c a b))
 | .sc (.string a),.sc (.string b)=>.sc (.string (ite c a b))
 | .ro k n f,.ro k' n' f'=>if k=k' then .ro k (ite c n n') (λj=>ite c (f j) (f' j))else ite c v u
 |_,_=>ite c v u
def sV(c:Prop)[Decidable c]:List V->List V->List V
 | [],m=>m
 |v::l,u::m=>bb6 c v u::sV c l m
 |v::l,[]=>ite c (v::l) []
theorem ay8(c:Prop)[Decidable c](v u:V):bb6 c v u=if c then v else u:=by
 unfold bb6;split
 ·split
  ·rename_i k a k' b h;subst h;split<;>rfl
  ·rfl
 ·split<;>rfl
 ·split<;>rfl
 ·split
  ·rename_i k n f k' n' f' h;subst h;split<;>rfl
  ·rfl
 ·rfl
theorem tF(c:Prop)[Decidable c]:∀(l m:List V),sV c l m=if c then l++m.drop l.length else m
 | [],m=>by rw[sV];split<;>simp
 |v::l,u::m=>by
  rw[sV,tF c l m,ay8];split<;>simp
 |v::l,[]=>by rw[sV];split<;>simp
def eo9(c:Prop)[Decidable c]:Nat->List V->List V->List V
 |0,ys,l=>sV c ys l
 |o+1,ys,x::l=>x::eo9 c o ys l
 |_+1,ys,[]=>sV c ys []
theorem fb5(c:Prop)[Decidable c]:∀(o:Nat) (ys l:List V),eo9 c o ys l=l.take o++sV c ys (l.drop o)
 |0,ys,l=>by simp[eo9]
 |o+1,ys,x::l=>by rw[eo9,fb5 c o ys l];simp
 |o+1,ys,[]=>by simp[eo9]
def hs5(pb:Bool)(j o:Nat)(ys:List V)(f:Nat->List V):Nat->List V:=match pb with|true=>λh=>eo9 (h=j) o ys (f h) |false=>λh=>if h=j then nP (f j) o ys else f h
theorem gw6(pb:Bool)(j o:Nat)(ys:List V)(f:Nat->List V):hs5 pb j o ys f=λh=>if h=j then nP (f j) o ys else f h:=by
 cases pb with
 |false=>rfl
 |true=>
 funext h;show eo9 (h=j) o ys (f h)=_;unfold nP;rw[fb5,tF];by_cases hj:h=j
 ·subst hj;rw[if_pos rfl,if_pos rfl,List.drop_drop,List.append_assoc]
 ·rw[if_neg hj,if_neg hj,List.take_append_drop]
def as2(P:Program)(pb:Bool)(t:TypeId)(x y:V)(get:Hp)(k:KR):Option Ans:=
 match szP P t with
 |some n=>
  if y.cells.length=n/\y.cells.all V.one then
   match x with
   | .ptr i o=>match get i with
    |some (.blk cs)=>if o+n<=cs.length then k (.val (.sc undef) [(i,some (.blk (nP cs o y.cells)))])else none
    |some (.tbk T cs)=>if o+n<=cs.length then k (.val (.sc undef) [(i,some (.tbk T (nP cs o y.cells)))])else none
    |_=>none
   | .ep i z j o=>match get i with
    |some (.row e kk m f)=>
     if j<m/\z=kk then
      if o+n<=(f j).length/\n4 (fzL get y.cells)=true/\(fzU y.cells).all (λu=>u.1 !=i) then
       fL (fzL get y.cells) λys=>k (.val (.sc undef) (fzU y.cells++[(i,some (.row e kk m (hs5 pb j o ys f)))]))
      else none
     else none
    |_=>none
   |_=>none
  else none
 |none=>none
def qW(get:Hp)(i:Nat)(k:Option Ans):Option Ans:=match get i with|some _=>k|none=>none
def kR(P:Program)(t:TypeId)(x:V)(f:Nat)(get:Hp)(k:KR):Option Ans:=
 match fk5 P t f with
 |some (p,u)=>
  match szP P u with
  |some (_+1)=>
   match x with
   | .ptr i o=>qW get i (k (.val (.ptr i (o+p)) []))
   | .ep i z j o=>qW get i (k (.val (.ep i z j (o+p)) []))
   | .rp cs=>k (.val (.rp (cs.drop p)) [])
   |_=>none
  |_=>none
 |none=>none
def co8(n:Int):Nat->Nat->(Nat->Option Ans)->Option Ans
 |0,_,_=>none
 |m+1,j,k=>if n=(j:Int)then k j else co8 n m (j+1) k
def oY(P:Program)(t:TypeId)(x y:V)(get:Hp)(k:KR):Option Ans:=
 match bw5 y with
 |some n=>
  match x with
  | .sl i z o l=>match jG P t with
   |some e=>if szP P e=some z then(if 0<=n/\n<l then qW get i (k (.val (.ep i z (o+n.toNat) 0) []))else none)else none
   |none=>none
  | .ro z l f=>match jG P t with
   |some e=>if szP P e=some z then(if 0<=n/\n<l then k (.val (.rp (f n.toNat)) [])else none)else none
   |none=>none
  | .ptr i o=>match fo1 P t with
   |some (l,e)=>match szP P e with
    |some z=>co8 n l 0 λj=>qW get i (k (.val (.ptr i (o+j*z)) []))
    |none=>none
   |none=>none
  | .ep i w j o=>match fo1 P t with
   |some (l,e)=>match szP P e with
    |some z=>if 0<=n/\n<l then qW get i (k (.val (.ep i w j (o+n.toNat*z)) []))else none
    |none=>none
   |none=>none
  | .rp cs=>match fo1 P t with
   |some (l,e)=>match szP P e with
    |some z=>if 0<=n/\n<l then k (.val (.rp (cs.drop (n.toNat*z))) [])else none
    |none=>none
   |none=>none
  |_=>none
 |none=>none
def zL(P:Program)(t:TypeId)(x:V)(l h:Option Int)(get:Hp)(k:KR):Option Ans:=
 match l,h with
 |some l,some h=>
  match x with
  | .sl i z o n=>match jG P t with
   |some e=>if szP P e=some z then(if 0<=l/\l<=h/\h<=n then qW get i (k (.val (.sl i z (o+l.toNat) (h.toNat-l.toNat)) []))else none)else none
   |none=>none
  | .ro z n f=>match jG P t with
   |some e=>if szP P e=some z then(if 0<=l/\l<=h/\h<=n then k (.val (.ro z (h.toNat-l.toNat) (λj=>f (l.toNat+j))) [])else none)else none
   |none=>none
  | .sc (.string s)=>if eV P t then(if 0<=l/\l<=h/\h<=s.size then k (.val (.sc (.string (s.extract l.toNat h.toNat))) [])else none)else none
  |_=>none
 |_,_=>none
def ft6:V->Option Int
 | .sl _ _ _ n=>some n
 | .ro _ n _=>some n
 | .sc (.string s)=>some s.size
 | .sc (.slice none 0 0)=>some 0
 |_=>none
def cN:List (List V)->Nat->List V
 | [],_=>[]
 | [e],_=>e
 |e::e'::l,i=>sV (i=0) e (cN (e'::l) (i-1))
def ge4(pr:Bool)(els:List (List V)):Nat->List V:=match pr with|true=>cN els|false=>λi=>els.getD i []
theorem dz5{c:Nat}:∀{els:List (List V)} (i:Nat),els≠[]->(∀e∈els,e.length=c)->(cN els i).length=c
 | [],_,h,_=>absurd rfl h
 | [e],_,_,h=>h e (by simp)
 |e::e'::l,i,_,h=>by
  have h1:=dz5 (els:=e'::l) (i-1) (by simp) λx hx=>h x (.tail _ hx);have h0:=h e (.head _);rw[cN,tF];split
  ·rw[List.length_append,List.length_drop];omega
  ·exact h1
theorem ha1{pr:Bool}{c:Nat}:∀{els:List (List V)} {i:Nat},i<els.length->(∀e∈els,e.length=c)->ge4 pr els i=els.getD i []:=by
 cases pr with
 |false=>intro els i _ _;rfl
 |true=>
  show∀{els:List (List V)} {i:Nat},i<els.length->(∀e∈els,e.length=c)->cN els i=els.getD i [];intro els
  induction els with
  |nil=>intro i h;simp at h
  |cons e l ih=>
   intro i hi h;cases l with
   |nil=>
    have:i=0:=by simp at hi;omega
    subst this;rfl
   |cons e' l=>
    rw[cN,tF];by_cases h0:i=0
    ·subst h0;have h1:=dz5 (c:=c) (els:=e'::l) 0 (by simp) λx hx=>h x (.tail _ hx);have h2:=h e (.head _);simp only[if_true];rw[List.drop_of_length_le (by rw[h1,h2];omega),List.append_nil];rfl
    ·rw[if_neg h0];obtain⟨k,rfl⟩:∃k,i=k+1:=⟨i-1,by omega⟩;rw[Nat.add_sub_cancel];exact ih (by simpa using hi) λx hx=>h x (.tail _ hx)
def bq9(get:Hp):List (List V)->(List (List V)->Option Ans)->Option Ans
 | [],k=>k []
 |l::ls,k=>cq1 get l λl=>bq9 get ls λls=>k (l::ls)
def iE(P:Program)(pr:Bool)(t:TypeId)(n:Nat)(ps:List (Nat×Operand))(ev:Operand->V)(get:Hp)(new:Nat)(k:KR):Option Ans:=
 match jG P t with
 |some e=>
  match szP P e with
  |some c=>
   bq9 get ((List.range n).map λi=>kQ ev ps i) λels=>
   if at5 c n (λi=>els.getD i [])=true/\ps.all (λp=>(ev p.2).cells.all V.one)=true/\0<c/\n*c<=16777216/\ps.map (·.1)=List.range n/\(bh1 P e).isSome then
    fLL els λels=>k (.val (.sl new c 0 n) (fzU (ps.flatMap λp=>(ev p.2).cells)++[(new,some (.row e c n (ge4 pr els)))]))
   else none
  |none=>none
 |none=>none
def oL(P:Program)(t:TypeId)(x y:V)(new:Nat)(k:KR):Option Ans:=
 match bw5 x,bw5 y with
 |some n,some m=>
  match jG P t with
  |some e=>
   match szP P e,bh1 P e,ct5 P e with
   |some c,some z,some b=>if n=m/\0<=n/\0<c/\z.length=c/\n.toNat*b<=281474976710656/\n.toNat<=maxLen/\at5 c 1 (λ_=>z) then k (.val (.sl new c 0 n.toNat) [(new,some (.row e c n.toNat (λ_=>z)))])else none
   |_,_,_=>none
  |none=>none
 |_,_=>none
def bl8(x:V)(get:Hp)(k:KR):Option Ans:=
 match x with
 | .ptr i o=>match get i with
  |some (.iter s p)=>
   if o=0 then
    if p<s.size then k (.val (.tup [.sc (.bool true),.sc (.int .i64 p),.sc (.int .i32 (Utf8.decode s p).1)]) [(i,some (.iter s (p+(Utf8.decode s p).2)))])
    else k (.val (.tup [.sc (.bool false)]) [])
   else none
  |_=>none
 |_=>none
def sB(get:Hp):V->Option (Nat×Nat×(Nat->List V))
 | .sl i z o l=>match get i with|some (.row _ c n f)=>if o+l<=n/\z=c then some (c,l,λj=>f (o+j))else none|_=>none
 | .ro c n f=>some (c,n,f)
 | .sc (.slice none 0 0)=>some (0,0,λ_=>[])
 |_=>none
def az0(P:Program)(e:TypeId)(c:Nat):Bool:=match P.info? e with|some i=>(match i.zero with|some z=>z.cells.size==c|none=>false) |none=>false
def al4(c:Prop)[Decidable c]:List V->List V->List V
 | [],[]=>[]
 | [],u::m=>ite c [] (u::m)
 |v::l,u::m=>bb6 c v u::al4 c l m
 |v::l,[]=>ite c (v::l) []
theorem cj5(c:Prop)[Decidable c]:∀(l m:List V),al4 c l m=if c then l else m
 | [],[]=>by rw[al4];split<;>rfl
 | [],u::m=>by rw[al4]
 |v::l,u::m=>by
  rw[al4,cj5 c l m,ay8];split<;>rfl
 |v::l,[]=>by rw[al4]
def hq3(n:Nat)(f g:Nat->List V):Nat->List V:=λj=>al4 (j<n) (f j) (g (j-n))
def ck6(n:Nat)(f g:Nat->List V):Nat->List V:=λj=>if j<n then f j else g (j-n)
def ds4(pr:Bool)(m n:Nat)(f g:Nat->List V):Nat->List V:=match pr with
 |false=>ck6 n f g
 |true=>match f 0 with
  | []=>g
  |_::_=>match g 0 with
   | []=>f
   |_::_=>hq3 n f g
theorem do0{pr:Bool}{m n c:Nat}{f g:Nat->List V}(hc:0<c)(hf:∀j,j<n->(f j).length=c)(hg:∀j,j<m->(g j).length=c){j:Nat}(hj:j<n+m):ds4 pr m n f g j=ck6 n f g j:=by
 unfold ds4 ck6;cases pr with
 |false=>rfl
 |true=>
  simp only;cases hf0:f 0 with
  |nil=>
   have:n=0:=by
    rcases Nat.eq_zero_or_pos n with h0|h0
    ·exact h0
    ·have:=hf 0 h0;rw[hf0]at this;simp at this;omega
   subst this;simp
  |cons x l=>
   cases hg0:g 0 with
   |nil=>
    have:m=0:=by
     rcases Nat.eq_zero_or_pos m with h0|h0
     ·exact h0
     ·have:=hg 0 h0;rw[hg0]at this;simp at this;omega
    subst this;simp only;rw[if_pos (by omega)]
   |cons y l'=>exact cj5 _ _ _
def eo6(P:Program)(pr:Bool)(e:TypeId)(c b:Nat)(x:V)(get:Hp)(new:Nat)(k:KR)(el:Option (Nat×Nat×(Nat->List V))):Option Ans:=
 match el with
 |some (c'',m,g)=>
  match x with
  | .sc (.slice none 0 0)=>
   if m=0 then k (.val (.sc (.slice none 0 0)) [])
   else if 0<c/\c''=c/\az0 P e c then(if m*b<=b6/\m<=maxLen then k (.val (.sl new c 0 m) [(new,some (.row e c m g))])else none)else none
  | .sl i z o l=>match get i with
   |some (.row e' c' n f)=>
    if 0<c/\(c''=c\/m=0)/\e=e'/\c=c'/\o=0/\z=c/\az0 P e c then
     (if(l+m)*b<=b6/\l+m<=maxLen/\l<=n then
      k (.val (.sl new c 0 (l+m)) [(i,none),(new,some (.row e c (l+m) (ds4 pr m l f g)))])else none)else none
   |_=>none
  |_=>none
 |none=>none
def ac6(P:Program)(pr:Bool)(t:TypeId)(x y:V)(get:Hp)(new:Nat)(k:KR):Option Ans:=
 match jG P t with
 |some e=>
  match szP P e,ct5 P e with
  |some c,some b=>cx1 get y λy=>eo6 P pr e c b x get new k (sB get y)
  |_,_=>none
 |none=>none
def ew7(b:BinOp)(kd:IntKind)(x y:Int)(k:KR):Option Ans:=
 match b with
 | .quo=>if y=0 then none else k (.val (.sc (.int kd (kd.wrap (x.tdiv y)))) [])
 | .rem=>if y=0 then none else k (.val (.sc (.int kd (x.tmod y))) [])
 |_=>none
def hr8:BinOp->Bool
 | .quo=>true
 | .rem=>true
 |_=>false
def cp1(P:Program)(t:TypeId)(xs:List Value)(o:Nat):Option Value:=
 match fp9 P t with
 |some true=>match szP P t with|some n=>some (.agg ((xs.drop o).take n).toArray) |none=>none
 |some false=>xs[o]?
 |none=>none
def hf7:Value->Value->Option Bool
 | .int k a,.int k' b=>if k=k' then some (a==b)else none
 |_,_=>none
def he5:Value->Value->Option Bool
 | .bool a,.bool b=>some (a==b)
 |_,_=>none
def hd9:Value->Value->Option Bool
 | .string a,.string b=>some (a.toList==b.toList)
 |_,_=>none
def gc5 (P : Program) (r : TypeId -> Value -> Value -> Option Bool) (xs ys : List Value) : List Field -> Option Bool
  | [] => some true
  | f :: fs => if f.name = "_" then gc5 P r xs ys fs else
    match cp1 P f.type xs f.offset, cp1 P f.type ys f.offset with
    | some a, some b => match r f.type a b, gc5 P r xs ys fs with
      | some p, some q => some (p && q)
      | _, _ => none
    | _, _ => none
def gz4(P:Program)(r:TypeId->Value->Value->Option Bool)(e:TypeId)(n:Nat)(xs ys:List Value):List Nat->Option Bool
 | []=>some true
 |i::is=>
  match cp1 P e xs (i*n),cp1 P e ys (i*n)with
  |some a,some b=>match r e a b,gz4 P r e n xs ys is with
   |some p,some q=>some (p&&q)
   |_,_=>none
  |_,_=>none
def eqP(P:Program):Nat->TypeId->Value->Value->Option Bool
 |0,_,_,_=>none
 |d+1,t,x,y=>match P.underlying t with
  |some .bool=>he5 x y
  |some (.int _)=>hf7 x y
  |some .string=>hd9 x y
  |some (.struct fs)=>match x,y with
   | .agg xs,.agg ys=>if P.stoodInHeld t then none else gc5 P (eqP P d) xs.toList ys.toList fs.toList
   |_,_=>none
  |some (.array n e)=>match x,y with
   | .agg xs,.agg ys=>match szP P e with
    |some z=>gz4 P (eqP P d) e z xs.toList ys.toList (List.range n)
    |none=>none
   |_,_=>none
  |_=>none
def eb5(P:Program)(t:TypeId)(neg:Bool)(x y:V)(k:KR):Option Ans:=
 match x.toVal,y.toVal with
 |some u,some v=>if P.eqGuardType P.depth t then none else
  match eqP P 10000 t u v with
  |some b=>k (.val (.sc (.bool (if neg then !b else b))) [])
  |none=>none
 |_,_=>none
def orN:Nat->Nat->Nat->Nat
 |0,_,_=>0
 |f+1,a,b=>2*orN f (a/2) (b/2)+(if a%2=1\/b%2=1 then 1 else 0)
def orI(k:IntKind)(m n:Int):Int:=k.wrap (orN k.bits (m%2^k.bits).toNat (n%2^k.bits).toNat)
def fq0(k:IntKind)(n:Int):Nat:=(n%2^k.bits).toNat
def hh1(k:IntKind)(m n:Int):Int:=k.wrap (Nat.land (fq0 k m) (fq0 k n):Nat)
def hl7(k:IntKind)(m n:Int):Int:=k.wrap (Nat.xor (fq0 k m) (fq0 k n):Nat)
def hk8(k:IntKind)(x y:Int):Int:=k.wrap (x*2^min y.toNat k.bits)
def hn2(k:IntKind)(x y:Int):Int:=x.fdiv (2^min y.toNat k.bits)
def fp7(P:Program)(e:TypeId):Bool:=match P.underlying e with|some (.int .u8)=>true|_=>false
def u8c:List V->Bool
 | [.sc (.int .u8 _)]=>true
 |_=>false
def u8I:List V->Int
 | [.sc (.int .u8 x)]=>x
 |_=>0
def cx8(n:Nat)(f:Nat->List V):ByteArray:=strOfNums ((List.range n).map λj=>u8I (f j))
def gf8(s:ByteArray):V:=.ro 1 s.size λj=>[.sc (.int .u8 ((s.data.toList.getD j 0).toNat:Int))]
def ar1(P:Program)(o:Oper)(ev:Operand->V)(src dst:TypeId)(x:V)(get:Hp)(k:KR):Option Ans:=
 match x with
 | .sc (.string s)=>match jG P dst with
  |some e=>if fp7 P e=true/\eV P src then(if s.size<=maxLen then k (.val (gf8 s) [])else none)else none
  |none=>bU P o ev k
 | .sc (.slice none 0 0)=>match jG P src with
  |some e=>if fp7 P e=true/\eV P dst then k (.val (.sc (.string (strOfNums []))) [])else none
  |none=>none
 | .ro c n f=>match jG P src with
  |some e=>if fp7 P e=true/\eV P dst=true/\c=1 then(if(List.range n).all (λj=>u8c (f j)) then k (.val (.sc (.string (cx8 n f))) [])else none)else none
  |none=>none
 | .sl i z o l=>match jG P src,get i with
  |some e,some (.row _ c n f)=>if fp7 P e=true/\eV P dst=true/\c=1/\z=c/\o+l<=n then(if(List.range l).all (λj=>u8c (f (o+j))) then k (.val (.sc (.string (cx8 l λj=>f (o+j)))) [])else none)else none
  |_,_=>none
 |_=>bU P o ev k
def er9(P:Program)(e:TypeId):Bool:=match P.info? e with|some i=>i.size==1&&i.bytes==1&&(match i.zero with|some (.int .u8 n)=>n==0|_=>false) |none=>false
def gi5(s:ByteArray)(j:Nat):List V:=[.sc (.int .u8 ((s.data.toList.getD j 0).toNat:Int))]
def ag4(P:Program)(pr:Bool)(t t':TypeId)(x y:V)(get:Hp)(new:Nat)(k:KR):Option Ans:=
 match y with
 | .sc (.string s)=>match jG P t with
  |some e=>if er9 P e=true/\eV P t' then eo6 P pr e 1 1 x get new k (some (1,s.size,gi5 s))else none
  |none=>none
 |_=>none
def bi9(P:Program)(t:TypeId):Bool:=match P.underlying t with|some (.func _ _ _)=>true|_=>false
def wL(P:Program)(t:TypeId):Option Bool:=match P.underlying t with|some (.interface _)=>some true|some _=>some false|none=>none
def bp5(P:Program)(o:Oper)(ev:Operand->V)(b:BinOp)(t:TypeId)(x y:V)(k:KR):Option Ans:=
 if hr8 b then
  match x,y with
  | .sc (.int kd m),.sc (.int kd' n)=>if kd=kd' then ew7 b kd m n k else none
  |_,_=>none
 else
  match b,x,y with
  | .add,.sc (.string s),.sc (.string s')=>if s.size+s'.size<=maxLen then k (.val (.sc (.string (s++s'))) [])else none
  | .or,.sc (.int kd m),.sc (.int kd' n)=>if kd=kd' then k (.val (.sc (.int kd (orI kd m n))) [])else none
  | .and,.sc (.int kd m),.sc (.int kd' n)=>if kd=kd' then k (.val (.sc (.int kd (hh1 kd m n))) [])else none
  | .xor,.sc (.int kd m),.sc (.int kd' n)=>if kd=kd' then k (.val (.sc (.int kd (hl7 kd m n))) [])else none
  | .shl,.sc (.int kd m),.sc (.int _ n)=>if n<0 then none else k (.val (.sc (.int kd (hk8 kd m n))) [])
  | .shr,.sc (.int kd m),.sc (.int _ n)=>if n<0 then none else k (.val (.sc (.int kd (hn2 kd m n))) [])
  | .eql,.agg cs,.agg ds=>eb5 P t false (.agg cs) (.agg ds) k
  | .neq,.fn f cs,.sc .nilFunc=>if bi9 P t then k (.val (.sc (.bool true)) [])else none
  | .neq,.bf f fs cs,.sc .nilFunc=>if bi9 P t then k (.val (.sc (.bool true)) [])else none
  | .neq,.ifc d v,.sc .nilIface=>if wL P t=some true then k (.val (.sc (.bool true)) [])else none
  | .neq,.agg cs,.agg ds=>eb5 P t true (.agg cs) (.agg ds) k
  |_,_,_=>bU P o ev k
def yI(P:Program)(o:Oper)(ev:Operand->V)(t:TypeId)(x y:V)(k:KR):Option Ans:=
 match x,bw5 y with
 | .agg cs,some n=>match fo1 P t with
  |some (l,e)=>match szP P e with
   |some z=>if 0<=n/\n<l then(match seg P e cs (n.toNat*z)with|some v=>k (.val v []) |none=>none)else none
   |none=>none
  |none=>none
 | .sc (.string s),some n=>if eV P t then(if 0<=n/\n<s.size then k (.val (.sc (.int .u8 (s.data.toList.getD n.toNat 0).toNat)) [])else none)else none
 |_,_=>bU P o ev k
def zM(P:Program)(o:Oper)(ev:Operand->V)(t:TypeId)(x:V)(f:Nat)(k:KR):Option Ans:=
 match x with
 | .agg cs=>match fk5 P t f with
  |some (p,u)=>match seg P u cs p with|some v=>k (.val v []) |none=>none
  |none=>none
 |_=>bU P o ev k
def qT(P:Program)(o:Oper)(ev:Operand->V)(x:V)(n:Nat)(k:KR):Option Ans:=
 match x with
 | .tup vs=>match vs[n]?with|some v=>k (.val v []) |none=>none
 |_=>bU P o ev k
def fe6(P:Program)(fs:List Field):Option (List (Nat×Nat)):=fs.mapM (λf=>(P.info? f.type).map λi=>(f.offset,i.size))
def zU(P:Program)(t:TypeId)(ps:List (Nat×Operand))(ev:Operand->V)(k:KR):Option Ans:=
 match bh1 P t with
 |some z=>
  if z.all V.one then
  match P.underlying t with
  |some (.struct fs)=>match fe6 P fs.toList with
   |some pl=>match au3 P z (λi=>pl[i]?) ev ps with|some cs=>k (.val (.agg cs) []) |none=>none
   |none=>none
  |some (.array _ e)=>match szP P e with
   |some n=>match au3 P z (λi=>some (i*n,n)) ev ps with|some cs=>k (.val (.agg cs) []) |none=>none
   |none=>none
  |_=>none
  else none
 |none=>none
def bv8(P:Program)(t:TypeId):Option V:=
 match P.info? t with
 |some i=>match i.zero with
  |some v=>match nM v with
   | .junk=>none
   |z=>some z
  |none=>none
 |none=>none
inductive KT where|i|s
def fo9(P:Program)(t:TypeId):Option (KT×TypeId):=
 match P.underlying t with
 |some (.map k e)=>match P.underlying k with
  |some (.int .i64)=>some (.i,e)
  |some .string=>some (.s,e)
  |_=>none
 |_=>none
def bb2(c:Prop)[Decidable c](v u:V):V:=
 match v,u with
 | .agg l,.agg m=>if l.length=m.length then .agg (sV c l m)else ite c (.agg l) (.agg m)
 |v,u=>bb6 c v u
theorem bc6(c:Prop)[Decidable c](v u:V):bb2 c v u=if c then v else u:=by
 unfold bb2;split
 ·rename_i l m;split
  ·rename_i h;rw[tF];by_cases hc:c
   ·rw[if_pos hc,if_pos hc,List.drop_of_length_le (by omega),List.append_nil]
   ·rw[if_neg hc,if_neg hc]
  ·rfl
 ·exact ay8 c _ _
def xK(P:Program)(t:TypeId)(new:Nat)(k:KR):Option Ans:=
 match fo9 P t with
 |some (.i,_)=>k (.val (.mp new) [(new,some (.map []))])
 |some (.s,e)=>match bv8 P e with
  |some z=>k (.val (.mp new) [(new,some (.smap 0 (λ_=>false) (λ_=>z)))])
  |none=>none
 |none=>none
def nT(ok:Bool)(b:Bool)(v:V)(k:KR):Option Ans:=match ok with|true=>k (.val (.tup [v,.sc (.bool b)]) []) |false=>k (.val v [])
def ck4(ok:Bool)(z:V)(n:Int)(k:KR):List (Int×V)->Option Ans
 | []=>nT ok false z k
 | (m,v)::l=>if n=m then nT ok true v k else ck4 ok z n k l
def af4(P:Program)(t:TypeId)(x y:V)(ok:Bool)(get:Hp)(k:KR):Option Ans:=
 match fo9 P t with
 |some (kt,e)=>match bv8 P e with
  |some z=>match x with
   | .mp i=>match get i with
    |some (.map es)=>match kt,y with
     | .i,.sc (.int .i64 n)=>ck4 ok z n k es
     |_,_=>none
    |some (.smap _ g f)=>match kt,y with
     | .s,.sc (.string s)=>nT ok (g s) (bb2 (g s=true) (f s) z) k
     |_,_=>none
    |_=>none
   |_=>none
  |none=>none
 |none=>none
def pH(P:Program)(t:TypeId)(x y v:V)(get:Hp)(k:KR):Option Ans:=
 match fo9 P t with
 |some (kt,_)=>if v.pure then
  match x with
   | .mp i=>match get i with
    |some (.map es)=>match kt,y with
     | .i,.sc (.int .i64 n)=>if es.all (λp=>p.1 !=n)then k (.val (.sc undef) [(i,some (.map (es++[(n,v)])))])else none
     |_,_=>none
    |some (.smap m g f)=>match kt,y with
     | .s,.sc (.string s)=>k (.val (.sc undef) [(i,some (.smap (if g s then m else m+1) (λq=>(q==s)||g q) (λq=>bb2 ((q==s)=true) v (f q))))])
     |_,_=>none
    |_=>none
   |_=>none
  else none
 |none=>none
def oW(P:Program)(t:TypeId)(x:V)(k:KR):Option Ans:=
 match wL P t with
 |some false=>k (.val (.ifc t x) [])
 |_=>none
def ae2(P:Program)(x:V)(t:TypeId)(ok:Bool)(k:KR):Option Ans:=
 match wL P t with
 |some false=>match x with
  | .ifc d v=>if d=t then nT ok true v k else(match ok,bv8 P t with|true,some z=>nT true false z k|_,_=>none)
  | .sc .nilIface=>match ok,bv8 P t with|true,some z=>nT true false z k|_,_=>none
  |_=>none
 |_=>none
def ao3(x:V)(k:KR):Option Ans:=match x with| .ifc t v=>if v.pure then k (.pan (.ifc t v) [])else none|_=>none
def ay2(P:Program)(o:Oper)(ev:Operand->V)(x:V)(get:Hp)(k:KR):Option Ans:=
 match x with
 | .ptr i p=>qW get i (k (.val (.ptr i p) []))
 | .ep i z j p=>qW get i (k (.val (.ep i z j p) []))
 | .fn f cs=>k (.val (.fn f cs) [])
 |_=>bU P o ev k
def dn4(o q:Nat)(g f:Nat->List V):Nat->List V:=λj=>if o<=j/\j<o+q then g (j-o)else f j
def dx5(pr:Bool)(o q:Nat)(g f:Nat->List V):Nat->List V:=match pr with
 |false=>dn4 o q g f
 |true=>λj=>[bb2 (o<=j/\j<o+q) ((g (j-o)).getD 0 .junk) ((f j).getD 0 .junk)]
def bn0(P:Program)(pr:Bool)(t:TypeId)(x y:V)(get:Hp)(k:KR):Option Ans:=
 match jG P t with
 |some e=>match szP P e with
  |some s=>match x with
   | .sl i z o l=>match get i with
    |some (.row e' c n f)=>match sB get y with
     |some (c',m,g)=>if s=1/\z=c/\c=1/\(c'=1\/m=0)/\o+l<=n then k (.val (.sc (.int .i64 (min m l:Nat))) [(i,some (.row e' c n (dx5 pr o (min m l) g f)))])else none
     |none=>none
    |_=>none
   |_=>none
  |none=>none
 |none=>none
def gH(P:Program)(pr:Bool)(o:Oper)(ev:Operand->V)(b:Builtin)(args:List Operand)(ts:List TypeId)(get:Hp)(new:Nat)(k:KR):Option Ans:=
 match b with
 | .len=>match args with
  | [x]=>match ev x with
   | .sl i _ _ n=>match ts with
    | [t]=>match jG P t with|some _=>qW get i (k (.val (.sc (.int .i64 n)) [])) |none=>none
    |_=>none
   | .ro _ n _=>match ts with
    | [t]=>match jG P t with|some _=>k (.val (.sc (.int .i64 n)) []) |none=>none
    |_=>none
   | .mp i=>match ts with
    | [t]=>match fo9 P t with
     |some _=>match get i with
      |some (.map es)=>k (.val (.sc (.int .i64 es.length)) [])
      |some (.smap n _ _)=>k (.val (.sc (.int .i64 n)) [])
      |_=>none
     |none=>none
    |_=>none
   |_=>bU P o ev k
  |_=>none
 | .append=>match args,ts with
  | [x,y],[t,t']=>if t=t' then ac6 P pr t (ev x) (ev y) get new k else ag4 P pr t t' (ev x) (ev y) get new k
  |_,_=>none
 | .copy=>match args,ts with
  | [x,y],[t,t']=>if t=t' then bn0 P pr t (ev x) (ev y) get k else none
  |_,_=>none
 |_=>bU P o ev k
def ao8(P:Program)(pr:Bool)(o:Oper)(ev:Operand->V)(c:Call)(get:Hp)(new:Nat)(k:KR):Option Ans:=
 match c.callee with
 | .builtin b=>gH P pr o ev b c.args.toList c.argTypes.toList get new k
 | .value f=>match ev f with
  | .fn g cs=>k (.call g (c.args.toList.map ev++cs))
  | .bf g fs cs=>k (.call g (fs++c.args.toList.map ev++cs))
  | .sc (.func (.func g) first cs)=>if first.size=0/\cs.size=0 then k (.call g (c.args.toList.map ev))else none
  |_=>none
 |_=>none
def zE(ev:Operand->V)(c:Call)(k:KR):Option Ans:=
 match c.callee with
 | .value f=>match ev f with
  | .fn g cs=>match c.args.toList with
   | []=>k (.dfr g cs)
   |_=>none
  |_=>none
 |_=>none
def opK(P:Program)(pb pr:Bool)(o:Oper)(ev:Operand->V)(get:Hp)(new:Nat)(k:KR):Option Ans:=
 match o.op with
 | .move x=>k (.val (ev x) [])
 | .assign x=>k (.val (ev x) [])
 | .pick c a b=>bm6 (ev c) (ev a) (ev b) k
 | .alloc t=>au5 P t new k
 | .box _ x=>eg2 (ev x) new k
 | .load t x=>ad9 P t (ev x) get k
 | .store t x y=>as2 P pb t (ev x) (ev y) get k
 | .fieldAddr t x f=>kR P t (ev x) f get k
 | .field t x f=>zM P o ev t (ev x) f k
 | .indexAddr t x y=>oY P t (ev x) (ev y) get k
 | .index t x y=>yI P o ev t (ev x) (ev y) k
 | .slice t x lo hi mx=>if mx.isNone then zL P t (ev x) (match lo with|some y=>bw5 (ev y) |none=>some 0) (match hi with|some y=>bw5 (ev y) |none=>ft6 (ev x)) get k else none
 | .extract x n=>qT P o ev (ev x) n k
 | .build t ps=>zU P t ps.toList ev k
 | .buildSlice t n ps=>iE P pr t n ps.toList ev get new k
 | .makeSlice t x y=>oL P t (ev x) (ev y) new k
 | .makeFunc fn first cs=>match fn with
  | .func f=>if first.size=0 then k (.val (.fn f (cs.toList.map ev)) [])else k (.val (.bf f (first.toList.map ev) (cs.toList.map ev)) [])
  |_=>none
 | .range t x=>match ev x with
  | .sc (.string s)=>if eV P t then k (.val (.ptr new 0) [(new,some (.iter s 0))])else none
  |_=>none
 | .next x b=>if b then bl8 (ev x) get k else none
 | .nilCheck x=>ay2 P o ev (ev x) get k
 | .call c=>ao8 P pr o ev c get new k
 | .binOp b t x y _=>bp5 P o ev b t (ev x) (ev y) k
 | .unOp _ _ _=>bU P o ev k
 | .convert s d x=>ar1 P o ev s d (ev x) get k
 | .makeMap t none=>xK P t new k
 | .lookup t x y ok=>af4 P t (ev x) (ev y) ok get k
 | .mapUpdate t x y v=>pH P t (ev x) (ev y) (ev v) get k
 | .insert t x y v=>pH P t (ev x) (ev y) (ev v) get k
 | .makeInterface t x=>oW P t (ev x) k
 | .typeAssert x _ t ok=>ae2 P (ev x) t ok k
 | .panic x=>ao3 (ev x) k
 | .defer c=>zE ev c k
 |_=>none
inductive Z5 where
 |skip
 |region (id:Nat) (ops:List Oper) (draw:Bool)
 |seq (a b:Z5)
 |cond (c:Operand) (x y:Z5)
 |block (id:Nat) (c:Z5)
 |loop (id live:Nat) (c:Z5)
 |exit (id:Nat)
 |ret
 |scope (c:Z5)
 |label (l:Nat)
 |no (c:Code)
def Z5.erase:Z5->Code
 | .skip=>.skip
 | .region id ops d=>.region id ops.toArray d
 | .seq a b=>.seq a.erase b.erase
 | .cond c x y=>.cond c x.erase y.erase
 | .block id c=>.block id c.erase
 | .loop _ _ c=>.loop c.erase
 | .exit id=>.exit id
 | .ret=>.ret
 | .scope c=>.scope c.erase
 | .label l=>.label l
 | .no c=>c
abbrev u9:=FuncId->List V->List (Option Z1)->(Z3->Option Ans)->Option Ans
abbrev aE:=Nat->Nat->Z5->St->(Ex->St->Option Ans)->Option Ans
inductive Way where
 |plain
 |lend
 |give
 |giveM
structure Env where
 P : Program
 glob : Nat -> Option (List V)
 ext : FuncId -> List V -> Option V
 way : FuncId -> FuncId -> Way
 lit : FuncId -> Bool
 code : FuncId -> Option Z5
 inv : List (Nat × (Obj -> Prop)) := []
 /-- In which functions a test's outcome is put in its place. -/
 sett : FuncId -> Bool := λ_ => false
 /-- A row put anew: the choice is pushed inward. -/
 push : Bool := true
 /-- Rows made of parts: the choice is pushed inward. -/
 rows : Bool := false
 /-- Functions that defer calls. -/
 dfn : FuncId -> Bool := λ_ => false
 /-- Functions that, deferred, do nothing where the one below returns; what they hold. -/
 idle : FuncId -> Option Nat := λ_ => none
 /-- Over a call all that is reached keeps its place. -/
 allR : Bool := false
 /-- May calls be deferred? If not, these are those that are. -/
 dok : Bool := true
 dls : List Deferred := []
def evA(E:Env)(fr:List V):Operand->V
 | .tmp t=>fr.getD t .junk
 | .const v=>nM v
 | .global g=>match E.glob g with|some cs=>.rp cs|none=>.junk
 | .func f=>.fn f []
def sR(ops:List Oper)(fr:List V)(j:Nat):V:=
 match ops[j]?with
 |some o=>match o.dst with
  |some t=>fr.getD t .junk
  |none=>.junk
 |none=>.junk
def aw4(g:Option (Nat×Bool))(y:Nat->V)(k:Bool->Option Ans):Option Ans:=
 match g with
 |none=>k true
 |some (j,b)=>match y j with
  | .sc v=>match v with
   | .bool c=>if c=b then k true else k false
   |_=>k false
  |_=>none
def cw0(g:Option (Nat×Bool))(ops:List Oper)(fr:List V)(k:Bool->List V->Option Ans):Option Ans:=
 match g with
 |none=>k true fr
 |some (j,b)=>match ops[j]?with
  |some o=>match o.dst with
   |some t=>match fr.getD t .junk with
    | .sc v=>match v with
     | .bool c=>if c then setK fr t (.sc (.bool true)) λfr=>k b fr else setK fr t (.sc (.bool false)) λfr=>k (!b) fr
     |_=>k false fr
    |_=>none
   |none=>none
  |none=>none
def gK(h:Hp):Nat->List Nat->List Nat->List Nat
 |0,_,seen=>seen
 |_+1,[],seen=>seen
 |n+1,i::todo,seen=>
  if seen.contains i then gK h n todo seen else
  match h i with
  |none=>gK h n todo seen
  |some c=>gK h n (c.ids++todo) (seen++[i])
def dd:List Nat->List Nat->List Nat
 |seen,[]=>seen
 |seen,i::l=>if seen.contains i then dd seen l else dd (seen++[i]) l
def kV(h:Hp)(l:List Nat):List Nat:=l.flatMap λi=>match h i with|some c=>c.ids|none=>[]
def jI(order:List Nat)(i:Nat):Option Nat:=order.idxOf? i
def keep(h:Hp)(order:List Nat):List (Option Z1):=order.map λi=>(h i).map (Z1.ren (jI order))
def zap(live:Nat):Nat->List V->List V
 |_,[]=>[]
 |i,v::l=>(if live.testBit i then v else .junk)::zap live (i+1) l
def rO:Nat:=300
def hp7(order:List Nat)(fr:List V)(s:St)(k:St->Option Ans):Option Ans:=
 fL (an1 (jI order) fr) λfr=>fCL (keep s.H order) λl=>k {fr:=fr,H:=hp l,nx:=order.length,rt:=s.rt,me:=s.me}
def am4(live:Nat)(s:St)(k:St->Option Ans):Option Ans:=
 fNL (gK s.H rO (kV s.H (List.range s.rt)++iC (zap live 0 s.fr)) (List.range s.rt)) λorder=>hp7 order (zap live 0 s.fr) s k
def bv2(E:Env)(ca:u9)(f:FuncId)(args:List V)(get:Hp)(k:KR):Option Ans:=
 hg4 get args λargs=>fL args λargs=>
  if n4 args then
   match E.ext f args with
   |some v=>if v.scal then k (.val v [])else none
   |none=>ca f args [] λr=>match r with
    | .ret v L=>if L.length=0/\v.scal then k (.val v [])else none
    | .pan _=>none
  else none
def y8(order:List Nat)(r new:Nat)(j:Nat):Option Nat:=if j<r then order[j]?else some (new+(j-r))
def eb9(give:Bool)(order:List Nat)(r new:Nat)(k:KR)(x:Z3):Option Ans:=
 match x with
 | .ret v L=>
  if give then
   if order.length=0 then bwK (hp L) v λv=>if v.pure then k (.val v [])else none else none
  else
   if r<=L.length/\L.length<=r+j2/\r<=order.length then
    k (.val (v.ren (y8 order r new)) ((order.map λi=>(i,none))++(L.zipIdx.map λp=>((y8 order r new p.2).getD 0,p.1.map (Z1.ren (y8 order r new))))))
   else none
 | .pan v=>if v.pure then k (.pan v (order.map λi=>(i,none)))else none
def V.caps:V->List Nat
 | .fn _ cs=>iC cs
 | .bf _ fs cs=>iC fs++iC cs
 |_=>[]
def hh2(h:Hp)(l:List Nat):List Nat:=(l.flatMap λi=>match h i with|some (.blk cs)=>cs.flatMap V.caps|some (.tbk _ cs)=>cs.flatMap V.caps|_=>[]).filter λi=>(h i).isSome
def cR(al:Bool)(h:Hp)(args:List V):List Nat:=
 match al with
 |true=>gK h rO (kV h (dd [] (iC args))) (dd [] (iC args))
 |false=>dd [] (iC args++hh2 h (iC args))
def pP(al:Bool)(ca:u9)(give:Bool)(f:FuncId)(args:List V)(get:Hp)(new:Nat)(k:KR):Option Ans:=
 fNL (gK get rO (kV get (cR al get args)) (cR al get args)) λorder=>
  fL (an1 (jI order) args) λargs'=>fCL (keep get order) λL=>
   ca f args' L (eb9 give order (cR al (hp L) args').length new k)
def gh9(get:Hp)(k:KR):KR:=λr=>
 match r with
 | .val v us=>bwK (aG get us) v λv'=>k (.val v' (us++yJ v))
 |r=>k r
def cq4(E:Env)(ca:u9)(me:FuncId)(f:FuncId)(args:List V)(get:Hp)(new:Nat)(k:KR):Option Ans:=
 fL args λargs=>
 match E.way me f with
 | .lend=>bv2 E ca f args get k
 | .give=>match E.ext f args with
  |some v=>k (.val v [])
  |none=>pP E.allR ca true f args get new k
 | .plain=>match E.ext f args with
  |some v=>k (.val v [])
  |none=>pP E.allR ca false f args get new k
 | .giveM=>match E.ext f args with
  |some v=>k (.val v [])
  |none=>pP E.allR ca false f args get new (gh9 get k)
abbrev KX:=Ex->St->Option Ans
def zZ(s:St)(d:Option Tmp)(v:V)(us:List (Nat×Option Z1))(k:St->Option Ans):Option Ans:=
 fV v λv=>ho9 s.fr d v λfr=>fU us λus=>k {fr:=fr,H:=aG s.H us,nx:=s.nx,rt:=s.rt,me:=s.me}
def gi8:Op->Bool| .buildSlice _ _ _=>true|_=>false
def hl9(b:Bool)(H:Hp)(v:V)(us:List (Nat×Option Z1)):V:=if b then v.bw1 (aG H us)else v
def hi0(b:Bool)(v:V)(us:List (Nat×Option Z1)):List (Nat×Option Z1):=if b then us++nV v else us
def oN(E:Env)(ca:u9)(ops:List Oper)(base:Nat):Nat->List Oper->St->KX->Option Ans
 |i,[],s,k=>k .normal {fr:=s.fr,H:=s.H,nx:=base+i*j2,rt:=s.rt,me:=s.me}
 |i,o::rest,s,k=>
  cw0 o.guard ops s.fr λb fr=>
   if b then
    opK E.P E.push E.rows o (evA E fr) s.H (base+i*j2) λr=>
     match r with
     | .val v us=>zZ {fr:=fr,H:=s.H,nx:=s.nx,rt:=s.rt,me:=s.me} o.dst (hl9 (E.lit s.me&&gi8 o.op) s.H v us) (hi0 (E.lit s.me&&gi8 o.op) v us) λs=>oN E ca ops base (i+1) rest s k
     | .pan v us=>k (.panic v) {fr:=fr,H:=aG s.H us,nx:=base+i*j2,rt:=s.rt,me:=s.me}
     | .call f args=>cq4 E ca s.me f args s.H (base+i*j2) λr=>
      match r with
      | .val v us=>zZ {fr:=fr,H:=s.H,nx:=s.nx,rt:=s.rt,me:=s.me} o.dst v us λs=>oN E ca ops base (i+1) rest s k
      | .pan v us=>k (.panic v) {fr:=fr,H:=aG s.H us,nx:=base+i*j2,rt:=s.rt,me:=s.me}
      | .call _ _=>none
      | .dfr _ _=>none
     | .dfr f cs=>match E.dfn s.me&&(E.idle f==some cs.length&&E.dok)with
      |true=>zZ {fr:=fr,H:=s.H,nx:=s.nx,rt:=s.rt,me:=s.me} o.dst (.sc undef) [] λs=>oN E ca ops base (i+1) rest s k
      |false=>none
   else zZ {fr:=fr,H:=s.H,nx:=s.nx,rt:=s.rt,me:=s.me} o.dst (.sc undef) [] λs=>oN E ca ops base (i+1) rest s k
def aL:Op->Bool
 | .makeMap _ _| .makeInterface _ _| .typeAssert _ _ _ _| .panic _| .makeSlice _ _ _| .move _| .assign _| .pick _ _ _| .alloc _| .box _ _| .binOp _ _ _ _ _| .unOp _ _ _| .extract _ _| .build _ _| .field _ _ _| .index _ _ _| .makeFunc _ _ _| .range _ _=>false
 |_=>true
structure Vw where
 bits:Nat
 only:Option (List Nat)
def eY(base:Nat)(v:Vw)(id:Nat):Bool:=(match v.only with|none=>true|some l=>l.contains id)&&(if id<base then true else v.bits.testBit ((id-base)/j2))
def fJ(base:Nat)(v:Vw)(h:Hp):Hp:=λid=>if eY base v id then h id else none
def hp3:Op->Bool
 | .call c=>match c.callee with| .builtin _=>false|_=>true
 |_=>false
def gz2:Op->Bool
 | .load _ _| .store _ _ _| .lookup _ _ _ _| .mapUpdate _ _ _ _| .insert _ _ _ _=>true
 |_=>false
def ff6(E:Env)(fr:List V)(o:Oper):List Nat:=iC (o.op.operands.toList.map (evA E fr))
def hc6(E:Env)(fr:List V)(h:Hp)(o:Oper):List Nat:=
 if hp3 o.op then gK h rO (ff6 E fr o) []
 else if gz2 o.op then ff6 E fr o++kV h (ff6 E fr o)else ff6 E fr o
def vwK(E:Env)(b:Nat)(fr:List V)(h:Hp)(o:Oper)(k:Vw->Option Ans):Option Ans:=fNL (hc6 E fr h o) λl=>k ⟨b,some l⟩
def zJ(new id:Nat):Bool:=new<=id&&id<new+j2
def bo0:List (Nat×Option Z1)->List Nat
 | []=>[]
 | (_,some c)::l=>c.ids++bo0 l
 | (_,none)::l=>bo0 l
def bc4(base:Nat)(bits:Vw)(new:Nat)(v:V)(us:List (Nat×Option Z1)):Bool:=(us.map (·.1)++v.ids++bo0 us).all λi=>eY base bits i||zJ new i
def by4(o:Oper)(i:Nat):Bool:=o.after.toList.any λe=>Region.binds .any e&&e.on==i
def fc8(ops:List Oper)(i:Nat):Nat->Oper->Bool
 |0,_=>false
 |n+1,o=>o.after.toList.any λe=>Region.binds .any e&&(Nat.blt i e.on&&(match ops[e.on]?with|some om=>by4 om i||fc8 ops i n om|none=>false))
def fb4(ops:List Oper)(o:Oper)(i:Nat):Bool:=fc8 ops i 6 o
abbrev Dn:=Nat×Bool×Vw×List Nat×Option (Nat×Option (Nat×V))
def uZ(ops:List Oper)(base:Nat)(o:Oper)(bj:Vw)(kj:List Nat):List Dn->Bool
 | []=>true
 | (i,ri,bi,ki,_)::l=>
  (by4 o i||
   (((!aL o.op||ki.all λx=> !eY base bj x)&&(!ri||kj.all λx=> !eY base bi x)&&kj.all λx=> !ki.contains x)||fb4 ops o i))&&uZ ops base o bj kj l
def zC(h:Hp)(b o:Nat):Option V:=match h b with|some (.blk cs)=>cs[o]? |_=>none
def gw7(E:Env)(base:Nat)(vw:Vw)(o:Oper)(fr:List V)(h:Hp):Option (Nat×Option (Nat×V)):=
 match o.op with
 | .load t x=>match evA E fr x with
  | .ptr b off=>match fp9 E.P t with
   |some false=>(zC (fJ base vw h) b off).map λv=>(b,some (off,v))
   |_=>none
  |_=>none
 | .nilCheck x=>match evA E fr x with
  | .ptr b _=>(fJ base vw h b).map λ_=>(b,none)
  |_=>none
 | .fieldAddr _ x _=>match evA E fr x with
  | .ptr b _=>(fJ base vw h b).map λ_=>(b,none)
  |_=>none
 |_=>none
def bm9(ops:List Oper)(base:Nat)(o:Oper)(bj:Vw)(kj:List Nat):List Dn->Bool
 | []=>true
 | (i,ri,bi,ki,ld)::l=>
  (by4 o i||
   (((!aL o.op||ki.all λx=> !eY base bj x)&&(!ri||(kj.all λx=> !eY base bi x)||ld.isSome)&&kj.all λx=> !ki.contains x)||fb4 ops o i))&&bm9 ops base o bj kj l
def cl6:List (Nat×Option Z1)->Nat->Option (Option Z1)
 | [],_=>none
 | (i,c)::l,b=>match cl6 l b with
  |some x=>some x
  |none=>match Nat.beq i b with|true=>some c|false=>none
mutual
def nX:V->V->Option Ans->Option Ans
 | .sl i z o l,v,k=>match v with
  | .sl i' z' o' l'=>if i=i'/\z=z'/\o=o'/\l=l' then k else none
  |_=>none
 | .ptr i o,v,k=>match v with
  | .ptr i' o'=>if i=i'/\o=o' then k else none
  |_=>none
 | .fn f cs,v,k=>match v with
  | .fn f' cs'=>if f=f' then br8 cs cs' k else none
  |_=>none
 | .sc (.int a x),v,k=>match v with
  | .sc (.int a' x')=>if a=a'/\x=x' then k else none
  |_=>none
 | .sc (.slice none 0 0),v,k=>match v with
  | .sc (.slice none 0 0)=>k
  |_=>none
 | .sc (.string a),v,k=>match v with
  | .sc (.string b)=>if a=b then k else none
  |_=>none
 |_,_,_=>none
def br8:List V->List V->Option Ans->Option Ans
 | [],l,k=>match l with
  | []=>k
  |_=>none
 |v::l,m,k=>match m with
  |v'::l'=>nX v v' (br8 l l' k)
  | []=>none
end
def bh7(ops:List Oper)(base:Nat)(o:Oper)(us:List (Nat×Option Z1)):List Dn->Option Ans->Option Ans
 | [],k=>k
 | (i,ri,bi,_,ld)::l,k=>
  match by4 o i||(fb4 ops o i||(!ri||(us.map (·.1)).all λx=> !eY base bi x))with
  |true=>bh7 ops base o us l k
  |false=>match ld with
   |some (b,q)=>match cl6 us b with
    |some (some c)=>match q with
     |none=>bh7 ops base o us l k
     |some (off,v)=>match c with
      | .blk cs=>match cs[off]?with
       |some v'=>nX v v' (bh7 ops base o us l k)
       |none=>none
      |_=>none
    |some none=>none
    |none=>bh7 ops base o us l k
   |none=>none
def okK(ops:List Oper)(base:Nat)(o:Oper)(vw:Vw)(new:Nat)(v:V)(us:List (Nat×Option Z1))(done:List Dn)(k:Option Ans):Option Ans:=
 match bc4 base vw new v us with
 |true=>match uZ ops base o vw (us.map (·.1)) done with
  |true=>k
  |false=>match bm9 ops base o vw (us.map (·.1)) done with
   |true=>bh7 ops base o us done k
   |false=>none
 |false=>none
def fd3:List Oper->St->(St->Option Ans)->Option Ans
 | [],s,k=>k s
 |o::l,s,k=>zZ s o.dst .junk [] λs=>fd3 l s k
def hp1(ops:List Oper)(base:Nat)(o:Oper)(i:Nat)(vw:Vw)(rest:List Oper)(done:List Dn)(us:List (Nat×Option Z1)):Bool:=
 rest.all (λo'=>by4 o' i||fb4 ops o' i)&&(bc4 base vw (base+i*j2) (.sc undef) us&&(uZ ops base o vw [] done&&done.all λd=>d.2.2.2.1.isEmpty))
def gd7(ops:List Oper)(base:Nat)(o:Oper)(i:Nat)(vw:Vw)(rest:List Oper)(done:List Dn)(v:V)(us:List (Nat×Option Z1))(s:St)(k:KX):Option Ans:=
 match hp1 ops base o i vw rest done us with
 |true=>fd3 (ops.take i) s λs=>zZ s none (.sc undef) us λs=>k (.panic v) {fr:=s.fr,H:=s.H,nx:=base+(i+1+rest.length)*j2,rt:=s.rt,me:=s.me}
 |false=>none
def aa7(E:Env)(ca:u9)(ops:List Oper)(befs:List Nat)(base:Nat):Nat->List Oper->List Dn->St->KX->Option Ans
 |i,[],_,s,k=>k .normal {fr:=s.fr,H:=s.H,nx:=base+i*j2,rt:=s.rt,me:=s.me}
 |i,o::rest,done,s,k=>
  cw0 o.guard ops s.fr λb fr=>
   if b then
    vwK E (befs.getD i 0) fr s.H o λvw=>
    opK E.P E.push E.rows o (evA E fr) (fJ base vw s.H) (base+i*j2) λr=>
     match r with
     | .val v us=>
      okK ops base o vw (base+i*j2) v us done
       (zZ {fr:=fr,H:=s.H,nx:=s.nx,rt:=s.rt,me:=s.me} o.dst v us λs'=>aa7 E ca ops befs base (i+1) rest ((i,aL o.op,vw,us.map (·.1),gw7 E base vw o fr s.H)::done) s' k)
     | .pan v us=>gd7 ops base o i vw rest done v us {fr:=fr,H:=s.H,nx:=s.nx,rt:=s.rt,me:=s.me} k
     | .dfr _ _=>none
     | .call f args=>cq4 E ca s.me f args (fJ base vw s.H) (base+i*j2) λr=>
      match r with
      | .val v us=>
       if aL o.op then
        okK ops base o vw (base+i*j2) v us done
         (zZ {fr:=fr,H:=s.H,nx:=s.nx,rt:=s.rt,me:=s.me} o.dst v us λs'=>aa7 E ca ops befs base (i+1) rest ((i,aL o.op,vw,us.map (·.1),none)::done) s' k)
       else none
      | .pan v us=>if aL o.op then gd7 ops base o i vw rest done v us {fr:=fr,H:=s.H,nx:=s.nx,rt:=s.rt,me:=s.me} k else none
      |_=>none
   else
    if uZ ops base o ⟨befs.getD i 0,some []⟩ [] done then
     zZ {fr:=fr,H:=s.H,nx:=s.nx,rt:=s.rt,me:=s.me} o.dst (.sc undef) [] λs=>aa7 E ca ops befs base (i+1) rest ((i,aL o.op,⟨befs.getD i 0,some []⟩,[],none)::done) s k
    else none
def eh8(P:Program)(ops:List Oper):Bool:=P.follows .mixedOrders&&Region.lexB .any ops.toArray
def bn4(on:Bool)(c:Operand)(b:Bool)(s:St)(k:St->Option Ans):Option Ans:=
 match on with
 |true=>match c with
  | .tmp t=>setK s.fr t (.sc (.bool b)) λfr=>k {fr:=fr,H:=s.H,nx:=s.nx,rt:=s.rt,me:=s.me}
  |_=>k s
 |false=>k s
def fS(E:Env)(ca:u9)(lo:aE):Z5->St->KX->Option Ans
 | .skip,s,k=>k .normal s
 | .region _ ops d,s,k=>
  if d then(if eh8 E.P ops then fNL (Region.before ops.toArray).toList λbefs=>aa7 E ca ops befs s.nx 0 ops [] s k else none)
  else oN E ca ops s.nx 0 ops s k
 | .seq a b,s,k=>fS E ca lo a s λe s=>match e with
  | .normal=>fS E ca lo b s k
  |e=>k e s
 | .cond c x y,s,k=>
  match evA E s.fr c with
  | .sc (.bool b)=>if b then bn4 (E.sett s.me) c true s λs=>fS E ca lo x s k else bn4 (E.sett s.me) c false s λs=>fS E ca lo y s k
  |_=>none
 | .block id c,s,k=>fS E ca lo c s λe s=>match e with
  | .exit j=>if j=id then k .normal s else k (.exit j) s
  |e=>k e s
 | .loop id live c,s,k=>am4 live s λs=>lo id live c s k
 | .exit id,s,k=>k (.exit id) s
 | .ret,s,k=>k .ret s
 | .scope c,s,k=>fS E ca lo c s k
 | .label _,s,k=>k .normal s
 | .no _,_,_=>none
def nG(E:Env)(ca:u9)(lo:aE)(id live:Nat)(c:Z5)(s:St)(k:KX):Option Ans:=
 fS E ca lo c s λe s=>match e with
  | .normal=>am4 live s λs=>lo id live c s k
  |e=>k e s
def hi9(E:Env)(s:St)(r:ResultVar)(k:V->Option Ans):Option Ans:=
 match r with
 | .tmp t=>k (s.fr.getD t .junk)
 | .cell t ty=>match s.fr.getD t .junk with
  | .ptr i o=>match s.H i with
   |some (.blk cs)=>match seg E.P ty cs o with|some v=>k v|none=>none
   |_=>none
  |_=>none
def bx3(E:Env)(s:St)(rs:List ResultVar)(k:List V->Option Ans):Option Ans:=
 match rs with
 | []=>k []
 |r::l=>hi9 E s r λv=>bx3 E s l λvs=>k (v::vs)
def one1:List V->V
 | [v]=>v
 |vs=>.tup vs
def cv6(s:St)(v:V)(k:Z3->Option Ans):Option Ans:=
 fNL (gK s.H rO (kV s.H (List.range s.rt)++v.ids) (List.range s.rt)) λorder=>
  fV (v.ren (jI order)) λv=>fCL (keep s.H order) λL=>k (.ret v L)
def ht8(E:Env)(fn:Func)(k:Z3->Option Ans):KX:=λe s=>
 match e with
 | .normal=>bx3 E s fn.results.toList λvs=>cv6 s (one1 vs) k
 | .ret=>bx3 E s fn.results.toList λvs=>cv6 s (one1 vs) k
 | .panic v=>match E.dfn s.me with
  |true=>none
  |false=>k (.pan v)
 | .exit _=>none
def bq0(E:Env)(ca:u9)(lo:aE)(f:FuncId)(args:List V)(L:List (Option Z1))(k:Z3->Option Ans):Option Ans:=
 match E.code f with
 |some c=>match E.P.funcs[f]?with
  |some fn=>fL (args++List.replicate (fn.ntmps-args.length) (.sc undef)) λfr=>
   if(cR E.allR (hp L) args).length<=L.length then
    fS E ca lo c {fr:=fr,H:=hp L,nx:=L.length,rt:=(cR E.allR (hp L) args).length,me:=f} (ht8 E fn k)
   else none
  |none=>none
 |none=>none
def xF{α:Type}(l:Nat)(k:Nat->α):α:=match l with|0=>k 0|n+1=>k (n+1)
theorem ad5{α:Type}(l:Nat)(k:Nat->α):xF l k=k l:=by cases l<;>rfl
def hh4(o:Oper)(ops:List Oper)(l:Nat):Nat:=xF l λl=>
 let l:=match o.dst with|some t=>if l.testBit t then l^^^(1<<<t)else l|none=>l
 let add (l:Nat):Operand->Nat| .tmp t=>l|||(1<<<t) |_=>l
 let l:=o.op.operands.toList.foldl add l
 match o.guard with
 |some (j,_)=>match ops[j]?with|some o'=>(match o'.dst with|some t=>l|||(1<<<t) |none=>l) |none=>l
 |none=>l
def hl8(env:List (Nat×Nat))(id:Nat):Nat:=match env.find? (·.1==id)with|some (_,l)=>l|none=>0
def hi3:Operand->Nat| .tmp t=>1<<<t|_=>0
def lv(res:Nat):Code->Nat->List (Nat×Nat)->Nat
 | .skip,l,_=>l
 | .region _ ops _,l,_=>ops.toList.reverse.foldl (λl o=>hh4 o ops.toList l) l
 | .seq a b,l,env=>xF (lv res b l env) λl=>lv res a l env
 | .cond c x y,l,env=>xF l λl=>hi3 c|||lv res x l env|||lv res y l env
 | .block id c,l,env=>xF l λl=>lv res c l ((id,l)::env)
 | .loop c,_,env=>xF (lv res c 0 env) λl0=>lv res c l0 env
 | .exit id,_,env=>hl8 env id
 | .ret,_,_=>res
 | .scope c,l,env=>lv res c l env
 |_,l,_=>l
def ann(res:Nat):Code->Nat->Nat->List (Nat×Nat)->Z5
 | .skip,_,_,_=>.skip
 | .region id ops d,_,_,_=>.region id ops.toList d
 | .seq a b,b0,l,env=>.seq (xF (lv res b l env) λl=>ann res a b0 l env) (ann res b b0 l env)
 | .cond c x y,b0,l,env=>.cond c (ann res x b0 l env) (ann res y b0 l env)
 | .block id c,_,l,env=>xF l λl=>.block id (ann res c id l ((id,l)::env))
 | .loop c,b0,l,env=>xF (lv res (.loop c) l env) λh=>.loop b0 h (ann res c b0 h env)
 | .exit id,_,_,_=>.exit id
 | .ret,_,_,_=>.ret
 | .scope c,b0,l,env=>.scope (ann res c b0 l env)
 | .label l,_,_,_=>.label l
 |c,_,_,_=>.no c
def gb2(fn:Func):Option Z5:=
 let res:=fn.results.toList.foldl (λl r=>match r with| .tmp t=>l|||(1<<<t) | .cell t _=>l|||(1<<<t)) 0
 fn.body.map λc=>ann res c 0 res []
mutual
def ck3(E:Env):Nat->u9
 |0=>λ_ _ _ _=>none
 |n+1=>λf args L k=>match bq0 E (ck3 E n) (dx8 E n) f args L (λr=>some (.c r))with
  |some (.c r)=>k r
  |_=>none
def dx8(E:Env):Nat->aE
 |0=>λ_ _ _ _ _=>none
 |n+1=>λid live c s k=>match nG E (ck3 E n) (dx8 E n) id live c s (λe s=>some (.l e s))with
  |some (.l e s)=>k e s
  |_=>none
end
theorem gs8(x:Value)(k:Value->Option Ans):hg7 x k=k x:=by unfold hg7;split<;>rfl
mutual
theorem fi7:∀(v:V) (k:V->Option Ans),fV v k=k v
 | .junk,k=>rfl
 | .sc x,k=>by simp only[fV,gs8]
 | .agg cs,k=>by simp only[fV,rD]
 | .tup cs,k=>by simp only[fV,rD]
 | .ptr i o,k=>rfl
 | .ep i c j o,k=>rfl
 | .rp cs,k=>by simp only[fV,rD]
 | .sl i c o l,k=>rfl
 | .ro c n f,k=>rfl
 | .fn f cs,k=>by simp only[fV,rD]
 | .mp i,k=>rfl
 | .ifc t v,k=>by simp only[fV,fi7 v]
 | .bf f fs cs,k=>by simp only[fV,rD]
theorem rD:∀(l:List V) (k:List V->Option Ans),fL l k=k l
 | [],k=>rfl
 |v::l,k=>by simp only[fL,fi7 v,rD l]
end
theorem ey0:∀(l:List (List V)) (k:List (List V)->Option Ans),fLL l k=k l
 | [],k=>rfl
 |v::l,k=>by simp only[fLL,rD v,ey0 l]
theorem fa8{α:Type}(p q:Prop)[Decidable p][Decidable q](x:Option α):(if p then(if q then x else none)else none)=if p/\q then x else none:=by
 by_cases hp:p<;>by_cases hq:q<;>simp[hp,hq]
abbrev Bt:=Nat->Option (Nat×Nat)
abbrev Pr:=Nat->Prop
mutual
def den(β:Bt)(S:Pr)(w:World)(D:Pr):V->Value->Prop
 | .junk,_=>True
 | .sc v,u=>u=v
 | .agg cs,u=>∃us:List Value,u= .agg us.toArray/\d9 β S w D cs us/\us.all Value.oneCell'=true
 | .tup cs,u=>∃us:List Value,u= .tuple us.toArray/\d9 β S w D cs us
 | .ptr i o,u=>(D i/\u.oneCell'=true)/\∀b m,β i=some (b,m)->u= .pointer (some ⟨b,o,none⟩)
 | .ep i k j o,u=>(D i/\u.oneCell'=true)/\∀b m,β i=some (b,m)->u= .pointer (some ⟨b,j*k+o,none⟩)
 | .rp cs,u=>∃(a:Addr) (us:List Value),u= .pointer (some a)/\S a.block/\d9 β S w D cs us/\n4 cs=true/\us.all Value.oneCell'=true/\∀i x,us[i]? =some x->w.cell? (a.add i)=some x
 | .sl i k o l,u=>(D i/\u.oneCell'=true)/\∀b m,β i=some (b,m)->o+l<=m/\∃A:Option Addr,u= .slice A l (m-o)/\(o<m->A=some ⟨b,o*k,none⟩)
 | .ro k n f,u=>n<=maxLen/\∃(A:Option Addr) (m:Nat) (a:Addr) (us:Nat->List Value),u= .slice A n m/\n<=m/\(0<n->A=some a/\S a.block)/\
  ∀j,j<n->d9 β S w D (f j) (us j)/\n4 (f j)=true/\(us j).length=k/\(us j).all Value.oneCell'=true/\∀i x,(us j)[i]? =some x->w.cell? (a.add (j*k+i))=some x
 | .fn f cs,u=>∃us:List Value,u= .func (.func f) #[] us.toArray/\d9 β S w D cs us
 | .mp i,u=>(D i/\u.oneCell'=true)/\∀b m,β i=some (b,m)->u= .map (some b)
 | .ifc t v,u=>∃x,u= .iface t x/\den β S w D v x
 | .bf f fs cs,u=>∃xs us:List Value,u= .func (.func f) xs.toArray us.toArray/\d9 β S w D fs xs/\d9 β S w D cs us
def d9(β:Bt)(S:Pr)(w:World)(D:Pr):List V->List Value->Prop
 | [],us=>us=[]
 |c::cs,us=>∃x xs,us=x::xs/\den β S w D c x/\d9 β S w D cs xs
end
def Y4(S:Pr)(w w':World):Prop:=∀b,S b->w'.heap[b]? =w.heap[b]?
theorem Y4.cell{S:Pr}{w w':World}(h:Y4 S w w'){a:Addr}(ha:S a.block):w'.cell? a=w.cell? a:=World.cell?_of_block (h _ ha)
theorem fD(a:Addr)(n:Nat):(a.add n).block=a.block:=by unfold Addr.add;split<;>rfl
theorem ab8(a:Addr)(i j:Nat):(a.add i).add j=a.add (i+j):=by
 unfold Addr.add;by_cases hi:i=0<;>by_cases hj:j=0<;>simp[hi,hj,Nat.add_assoc]
theorem eU(g i n:Nat):(⟨g,i,none⟩:Addr).add n=⟨g,i+n,none⟩:=by unfold Addr.add;split<;>simp_all
mutual
theorem pQ{β β':Bt}{S S' D D':Pr}{w w':World}(hβ:∀i,D i->β' i=β i\/β' i=none)(hS:∀b,S b->S' b)(hD:∀i,D i->D' i)(hk:Y4 S w w'):
 ∀(v:V) (u:Value),den β S w D v u->den β' S' w' D' v u
 | .junk,_,_=>by simp[den]
 | .sc v,u,h=>by simpa[den]using h
 | .agg cs,u,h=>by
  simp only[den]at h⊢;obtain⟨us,h1,h2,h3⟩:=h;exact⟨us,h1,m4 hβ hS hD hk cs us h2,h3⟩
 | .tup cs,u,h=>by
  simp only[den]at h⊢;obtain⟨us,h1,h2⟩:=h;exact⟨us,h1,m4 hβ hS hD hk cs us h2⟩
 | .ptr i o,u,h=>by
  simp only[den]at h⊢;refine⟨⟨hD _ h.1.1,h.1.2⟩,λb m hb=>?_⟩;rcases hβ i h.1.1 with e|e
  ·exact h.2 b m (by rw[<-e];exact hb)
  ·rw[e]at hb;cases hb
 | .ep i k j o,u,h=>by
  simp only[den]at h⊢;refine⟨⟨hD _ h.1.1,h.1.2⟩,λb m hb=>?_⟩;rcases hβ i h.1.1 with e|e
  ·exact h.2 b m (by rw[<-e];exact hb)
  ·rw[e]at hb;cases hb
 | .rp cs,u,h=>by
  simp only[den]at h⊢;obtain⟨a,us,h1,h2,h3,h4,h5,h6⟩:=h;exact⟨a,us,h1,hS _ h2,m4 hβ hS hD hk cs us h3,h4,h5,λi x hx=>by rw[hk.cell (by rw[fD];exact h2)];exact h6 i x hx⟩
 | .sl i k o l,u,h=>by
  simp only[den]at h⊢;refine⟨⟨hD _ h.1.1,h.1.2⟩,λb m hb=>?_⟩;rcases hβ i h.1.1 with e|e
  ·exact h.2 b m (by rw[<-e];exact hb)
  ·rw[e]at hb;cases hb
 | .ro k n f,u,h=>by
  simp only[den]at h⊢;obtain⟨h0,A,m,a,us,h1,h2,h3,h4⟩:=h;refine⟨h0,A,m,a,us,h1,h2,λhn=>⟨(h3 hn).1,hS _ (h3 hn).2⟩,λj hj=>?_⟩;obtain⟨g1,g2,g3,g4,g5⟩:=h4 j hj;exact⟨m4 hβ hS hD hk (f j) (us j) g1,g2,g3,g4,λi x hx=>by rw[hk.cell (by rw[fD];exact(h3 (by omega)).2)];exact g5 i x hx⟩
 | .fn f cs,u,h=>by
  simp only[den]at h⊢;obtain⟨us,h1,h2⟩:=h;exact⟨us,h1,m4 hβ hS hD hk cs us h2⟩
 | .mp i,u,h=>by
  simp only[den]at h⊢;refine⟨⟨hD _ h.1.1,h.1.2⟩,λb m hb=>?_⟩;rcases hβ i h.1.1 with e|e
  ·exact h.2 b m (by rw[<-e];exact hb)
  ·rw[e]at hb;cases hb
 | .ifc t v,u,h=>by
  simp only[den]at h⊢;obtain⟨x,h1,h2⟩:=h;exact⟨x,h1,pQ hβ hS hD hk v x h2⟩
 | .bf f fs cs,u,h=>by
  simp only[den]at h⊢;obtain⟨xs,us,h1,h2,h3⟩:=h;exact⟨xs,us,h1,m4 hβ hS hD hk fs xs h2,m4 hβ hS hD hk cs us h3⟩
theorem m4{β β':Bt}{S S' D D':Pr}{w w':World}(hβ:∀i,D i->β' i=β i\/β' i=none)(hS:∀b,S b->S' b)(hD:∀i,D i->D' i)(hk:Y4 S w w'):
 ∀(l:List V) (us:List Value),d9 β S w D l us->d9 β' S' w' D' l us
 | [],us,h=>by simpa[d9]using h
 |c::cs,us,h=>by
  simp only[d9]at h⊢;obtain⟨x,xs,h1,h2,h3⟩:=h;exact⟨x,xs,h1,pQ hβ hS hD hk c x h2,m4 hβ hS hD hk cs xs h3⟩
end
mutual
theorem y6{β β':Bt}{S S' D D':Pr}{w w':World}(hS:∀b,S b->S' b)(hk:Y4 S w w'):
 ∀(v:V) (u:Value),v.pure=true->den β S w D v u->den β' S' w' D' v u
 | .junk,_,hp,_=>by simp[V.pure]at hp
 | .sc v,u,_,h=>by simpa[den]using h
 | .agg cs,u,hp,h=>by
  simp only[den,V.pure]at h hp⊢;obtain⟨us,h1,h2,h3⟩:=h;exact⟨us,h1,x8 hS hk cs us hp h2,h3⟩
 | .tup cs,u,hp,h=>by
  simp only[den,V.pure]at h hp⊢;obtain⟨us,h1,h2⟩:=h;exact⟨us,h1,x8 hS hk cs us hp h2⟩
 | .ptr i o,u,hp,h=>by simp[V.pure]at hp
 | .ep i k j o,u,hp,h=>by simp[V.pure]at hp
 | .rp cs,u,hp,h=>by
  simp only[den]at h⊢;obtain⟨a,us,h1,h2,h3,h4,h5,h6⟩:=h;exact⟨a,us,h1,hS _ h2,x8 hS hk cs us h4 h3,h4,h5,λi x hx=>by rw[hk.cell (by rw[fD];exact h2)];exact h6 i x hx⟩
 | .sl i k o l,u,hp,h=>by simp[V.pure]at hp
 | .ro k n f,u,hp,h=>by
  simp only[den]at h⊢;obtain⟨h0,A,m,a,us,h1,h2,h3,h4⟩:=h;refine⟨h0,A,m,a,us,h1,h2,λhn=>⟨(h3 hn).1,hS _ (h3 hn).2⟩,λj hj=>?_⟩;obtain⟨g1,g2,g3,g4,g5⟩:=h4 j hj;exact⟨x8 hS hk (f j) (us j) g2 g1,g2,g3,g4,λi x hx=>by rw[hk.cell (by rw[fD];exact(h3 (by omega)).2)];exact g5 i x hx⟩
 | .fn f cs,u,hp,h=>by
  simp only[den,V.pure]at h hp⊢;obtain⟨us,h1,h2⟩:=h;exact⟨us,h1,x8 hS hk cs us hp h2⟩
 | .mp i,u,hp,h=>by simp[V.pure]at hp
 | .ifc t v,u,hp,h=>by
  simp only[den,V.pure]at h hp⊢;obtain⟨x,h1,h2⟩:=h;exact⟨x,h1,y6 hS hk v x hp h2⟩
 | .bf f fs cs,u,hp,h=>by
  simp only[den,V.pure,Bool.and_eq_true]at h hp⊢;obtain⟨xs,us,h1,h2,h3⟩:=h;exact⟨xs,us,h1,x8 hS hk fs xs hp.1 h2,x8 hS hk cs us hp.2 h3⟩
theorem x8{β β':Bt}{S S' D D':Pr}{w w':World}(hS:∀b,S b->S' b)(hk:Y4 S w w'):
 ∀(l:List V) (us:List Value),n4 l=true->d9 β S w D l us->d9 β' S' w' D' l us
 | [],us,_,h=>by simpa[d9]using h
 |c::cs,us,hp,h=>by
  simp only[d9,n4,Bool.and_eq_true]at h hp⊢;obtain⟨x,xs,h1,h2,h3⟩:=h;exact⟨x,xs,h1,y6 hS hk c x hp.1 h2,x8 hS hk cs xs hp.2 h3⟩
end
def Ren(r:Nat->Option Nat)(β β':Bt)(D D':Pr):Prop:=∀i j,D i->r i=some j->D' j/\∀bm,β' j=some bm->β i=some bm
mutual
theorem bj2{r:Nat->Option Nat}{β β':Bt}{S D D':Pr}{w:World}(hr:Ren r β β' D D'):
 ∀(v:V) (u:Value),den β S w D v u->den β' S w D' (v.ren r) u
 | .junk,_,_=>by simp[den,V.ren]
 | .sc v,u,h=>by simpa[den,V.ren]using h
 | .agg cs,u,h=>by
  simp only[den,V.ren]at h⊢;obtain⟨us,h1,h2,h3⟩:=h;exact⟨us,h1,iG hr cs us h2,h3⟩
 | .tup cs,u,h=>by
  simp only[den,V.ren]at h⊢;obtain⟨us,h1,h2⟩:=h;exact⟨us,h1,iG hr cs us h2⟩
 | .ptr i o,u,h=>by
  simp only[den,V.ren]at h⊢;split
  ·rename_i j hj;obtain⟨g1,g2⟩:=hr i j h.1.1 hj;simp only[den];exact⟨⟨g1,h.1.2⟩,λb m hb=>h.2 b m (g2 _ hb)⟩
  ·simp[den]
 | .ep i k j o,u,h=>by
  simp only[den,V.ren]at h⊢;split
  ·rename_i j hj;obtain⟨g1,g2⟩:=hr i j h.1.1 hj;simp only[den];exact⟨⟨g1,h.1.2⟩,λb m hb=>h.2 b m (g2 _ hb)⟩
  ·simp[den]
 | .rp cs,u,h=>by
  simp only[den,V.ren]at h⊢;obtain⟨a,us,h1,h2,h3,h4,h5,h6⟩:=h;exact⟨a,us,h1,h2,x8 (λ_ h=>h) (λ_ _=>rfl) cs us h4 h3,h4,h5,h6⟩
 | .sl i k o l,u,h=>by
  simp only[den,V.ren]at h⊢;split
  ·rename_i j hj;obtain⟨g1,g2⟩:=hr i j h.1.1 hj;simp only[den];exact⟨⟨g1,h.1.2⟩,λb m hb=>h.2 b m (g2 _ hb)⟩
  ·simp[den]
 | .ro k n f,u,h=>by
  simp only[V.ren];exact y6 (λ_ h=>h) (λ_ _=>rfl) _ _ (by simp[V.pure]) h
 | .fn f cs,u,h=>by
  simp only[den,V.ren]at h⊢;obtain⟨us,h1,h2⟩:=h;exact⟨us,h1,iG hr cs us h2⟩
 | .mp i,u,h=>by
  simp only[den,V.ren]at h⊢;split
  ·rename_i j hj;obtain⟨g1,g2⟩:=hr i j h.1.1 hj;simp only[den];exact⟨⟨g1,h.1.2⟩,λb m hb=>h.2 b m (g2 _ hb)⟩
  ·simp[den]
 | .ifc t v,u,h=>by
  simp only[den,V.ren]at h⊢;obtain⟨x,h1,h2⟩:=h;exact⟨x,h1,bj2 hr v x h2⟩
 | .bf f fs cs,u,h=>by
  simp only[den,V.ren]at h⊢;obtain⟨xs,us,h1,h2,h3⟩:=h;exact⟨xs,us,h1,iG hr fs xs h2,iG hr cs us h3⟩
theorem iG{r:Nat->Option Nat}{β β':Bt}{S D D':Pr}{w:World}(hr:Ren r β β' D D'):
 ∀(l:List V) (us:List Value),d9 β S w D l us->d9 β' S w D' (an1 r l) us
 | [],us,h=>by simpa[d9,an1]using h
 |c::cs,us,h=>by
  simp only[d9,an1]at h⊢;obtain⟨x,xs,h1,h2,h3⟩:=h;exact⟨x,xs,h1,bj2 hr c x h2,iG hr cs xs h3⟩
end
section
variable {β:Bt} {S D:Pr} {w:World}
theorem y5:∀{l:List V} {us:List Value},d9 β S w D l us->l.length=us.length
 | [],us,h=>by simp only[d9]at h;subst h;rfl
 |c::cs,us,h=>by
  simp only[d9]at h;obtain⟨x,xs,rfl,_,h3⟩:=h;simp[y5 h3]
theorem uU:∀{l:List V} {us:List Value},d9 β S w D l us->∀(i:Nat) (v:V),l[i]? =some v->∃u,us[i]? =some u/\den β S w D v u
 | [],us,h=>by intro i v hv;simp at hv
 |c::cs,us,h=>by
  simp only[d9]at h;obtain⟨x,xs,rfl,h2,h3⟩:=h;intro i v hv;cases i with
  |zero=>
   simp only[List.getElem?_cons_zero,Option.some.injEq]at hv;subst hv;exact⟨x,rfl,h2⟩
  |succ i=>simpa using uU h3 i v (by simpa using hv)
theorem fE{l:List V}{us:List Value}(h:d9 β S w D l us)(i:Nat):den β S w D (l.getD i .junk) (us.getD i undef):=by
 cases hv:l[i]?with
 |none=>simp[List.getD,hv,den]
 |some v=>
  obtain⟨u,hu,hd⟩:=uU h i v hv;simpa[List.getD,hv,hu]using hd
theorem pV{l:List V}:∀{us:List Value} (n:Nat),d9 β S w D l us->d9 β S w D (l.drop n) (us.drop n):=by
 induction l with
 |nil=>intro us n h;simp only[d9]at h;subst h;simp[d9]
 |cons c cs ih=>
  intro us n h;cases n with
  |zero=>simpa using h
  |succ n=>
   simp only[d9]at h;obtain⟨x,xs,rfl,h2,h3⟩:=h;simpa using ih n h3
theorem ah3{l:List V}:∀{us:List Value} (n:Nat),d9 β S w D l us->d9 β S w D (l.take n) (us.take n):=by
 induction l with
 |nil=>intro us n h;simp only[d9]at h;subst h;simp[d9]
 |cons c cs ih=>
  intro us n h;cases n with
  |zero=>simp[d9]
  |succ n=>
   simp only[d9]at h;obtain⟨x,xs,rfl,h2,h3⟩:=h;simp only[List.take_succ_cons,d9];exact⟨x,_,rfl,h2,ih n h3⟩
theorem bX{l l':List V}:∀{us us':List Value},d9 β S w D l us->d9 β S w D l' us'->d9 β S w D (l++l') (us++us'):=by
 induction l with
 |nil=>intro us us' h h';simp only[d9]at h;subst h;simpa using h'
 |cons c cs ih=>
  intro us us' h h';simp only[d9]at h;obtain⟨x,xs,rfl,h2,h3⟩:=h;simp only[List.cons_append,d9];exact⟨x,_,rfl,h2,ih h3 h'⟩
theorem gn2{l:List V}:∀{us:List Value} (n:Nat) {v:V} {u:Value},d9 β S w D l us->den β S w D v u->d9 β S w D (l.set n v) (us.set n u):=by
 induction l with
 |nil=>intro us n v u h _;simp only[d9]at h;subst h;simp[d9]
 |cons c cs ih=>
  intro us n v u h hv;simp only[d9]at h;obtain⟨x,xs,rfl,h2,h3⟩:=h;cases n with
  |zero=>simp only[List.set_cons_zero,d9];exact⟨u,xs,rfl,hv,h3⟩
  |succ n=>simp only[List.set_cons_succ,d9];exact⟨x,_,rfl,h2,ih n h3 hv⟩
theorem iL{α:Type}{f:α->V}{g:α->Value}:∀{l:List α},(∀x∈l,den β S w D (f x) (g x))->d9 β S w D (l.map f) (l.map g):=by
 intro l
 induction l with
 |nil=>intro _;simp[d9]
 |cons x l ih=>intro h;simp only[List.map_cons,d9];exact⟨_,_,rfl,h x (.head _),ih λy hy=>h y (.tail _ hy)⟩
theorem gf4(live:Nat):∀{l:List V} {us:List Value} (i:Nat),d9 β S w D l us->d9 β S w D (zap live i l) us:=by
 intro l
 induction l with
 |nil=>intro us i h;simpa[zap]using h
 |cons c cs ih=>
  intro us i h;simp only[d9]at h;obtain⟨x,xs,rfl,h2,h3⟩:=h;simp only[zap,d9];refine⟨x,xs,rfl,?_,ih (i+1) h3⟩;split
  ·exact h2
  ·simp[den]
end
mutual
theorem tU{β:Bt}{S D:Pr}{w:World}:∀(v:V) (x u:Value),v.toVal=some x->den β S w D v u->u=x
 | .sc v,x,u,h,hd=>by
  simp only[V.toVal,Option.some.injEq]at h;simp only[den]at hd;rw[hd,h]
 | .agg cs,x,u,h,hd=>by
  simp only[V.toVal,Option.map_eq_some_iff]at h;obtain⟨l,h1,rfl⟩:=h;simp only[den]at hd;obtain⟨us,rfl,h2,_⟩:=hd;rw[lC cs l us h1 h2]
 | .tup cs,x,u,h,hd=>by
  simp only[V.toVal,Option.map_eq_some_iff]at h;obtain⟨l,h1,rfl⟩:=h;simp only[den]at hd;obtain⟨us,rfl,h2⟩:=hd;rw[lC cs l us h1 h2]
 | .fn f cs,x,u,h,hd=>by
  simp only[V.toVal,Option.map_eq_some_iff]at h;obtain⟨l,h1,rfl⟩:=h;simp only[den]at hd;obtain⟨us,rfl,h2⟩:=hd;rw[lC cs l us h1 h2]
 | .ifc t v,x,u,h,hd=>by
  simp only[V.toVal,Option.map_eq_some_iff]at h;obtain⟨y,h1,rfl⟩:=h;simp only[den]at hd;obtain⟨z,rfl,h2⟩:=hd;rw[tU v y z h1 h2]
 | .junk,x,u,h,hd=>by simp[V.toVal]at h
 | .ptr _ _,x,u,h,hd=>by simp[V.toVal]at h
 | .ep _ _ _ _,x,u,h,hd=>by simp[V.toVal]at h
 | .rp _,x,u,h,hd=>by simp[V.toVal]at h
 | .sl _ _ _ _,x,u,h,hd=>by simp[V.toVal]at h
 | .ro _ _ _,x,u,h,hd=>by simp[V.toVal]at h
 | .mp _,x,u,h,hd=>by simp[V.toVal]at h
 | .bf f fs cs,x,u,h,hd=>by
  simp only[V.toVal]at h;split at h
  ·rename_i l m h1 h2;simp only[Option.some.injEq]at h;subst h;simp only[den]at hd;obtain⟨xs,us,rfl,h3,h4⟩:=hd;rw[lC fs l xs h1 h3,lC cs m us h2 h4]
  ·cases h
theorem lC{β:Bt}{S D:Pr}{w:World}:∀(l:List V) (xs us:List Value),vE l=some xs->d9 β S w D l us->us=xs
 | [],xs,us,h,hd=>by
  simp only[vE,Option.some.injEq]at h;simp only[d9]at hd;rw[hd,h]
 |c::cs,xs,us,h,hd=>by
  simp only[vE]at h;split at h
  ·rename_i x ys h1 h2;simp only[Option.some.injEq]at h;subst h;simp only[d9]at hd;obtain⟨y,zs,rfl,h3,h4⟩:=hd;rw[tU c x y h1 h3,lC cs ys zs h2 h4]
  ·cases h
end
theorem fc7{β:Bt}{S D:Pr}{w:World}{v:V}{u:Value}(h1:v.one=true)(h:den β S w D v u):u.oneCell'=true:=by
 cases v with
 |junk=>simp[V.one]at h1
 |agg cs=>simp[V.one]at h1
 |tup cs=>simp[V.one]at h1
 |sc x=>simp only[den]at h;subst h;simpa[V.one]using h1
 |ptr i o=>simp only[den]at h;exact h.1.2
 |ep i k j o=>simp only[den]at h;exact h.1.2
 |sl i k o l=>simp only[den]at h;exact h.1.2
 |mp i=>simp only[den]at h;exact h.1.2
 |bf f fs cs=>simp only[den]at h;obtain⟨xs,us,rfl,_⟩:=h;rfl
 |rp cs=>simp only[den]at h;obtain⟨a,us,rfl,_⟩:=h;rfl
 |ro k n f=>simp only[den]at h;obtain⟨_,A,m,a,us,rfl,_⟩:=h;rfl
 |fn f cs=>simp only[den]at h;obtain⟨us,rfl,_⟩:=h;rfl
 |ifc t v=>simp only[den]at h;obtain⟨x,rfl,_⟩:=h;rfl
theorem zN{β:Bt}{S D:Pr}{w:World}:∀{l:List V} {us:List Value},l.all V.one=true->d9 β S w D l us->us.all Value.oneCell'=true
 | [],us,_,h=>by simp only[d9]at h;subst h;rfl
 |c::cs,us,h1,h=>by
  simp only[d9]at h;obtain⟨x,xs,rfl,h2,h3⟩:=h;simp only[List.all_cons,Bool.and_eq_true]at h1⊢;exact⟨fc7 h1.1 h2,zN h1.2 h3⟩
theorem ae6{β:Bt}{S D:Pr}{w:World}{v:V}{u:Value}(h1:v.cells.all V.one=true)(h:den β S w D v u):
 ∃us:List Value,u.cells=us.toArray/\d9 β S w D v.cells us/\us.all Value.oneCell'=true:=by
 cases v with
 |agg cs=>
  simp only[den]at h;obtain⟨us,rfl,h2,h3⟩:=h;exact⟨us,rfl,h2,h3⟩
 |_=>
  simp only[V.cells,List.all_cons,List.all_nil,Bool.and_true]at h1⊢;have ho:=fc7 h1 h;refine⟨[u],?_,by simp only[d9];exact⟨u,[],rfl,h,rfl⟩,by simp[ho]⟩;cases u<;>simp_all [Value.oneCell',Value.cells]
theorem kP{β:Bt}{S D:Pr}{w:World}(l:List Value):d9 β S w D (l.map .sc) l:=by
 induction l with
 |nil=>simp[d9]
 |cons x l ih=>simp only[List.map_cons,d9];exact⟨x,l,rfl,by simp[den],ih⟩
theorem qA{β:Bt}{S D:Pr}{w:World}(u:Value):den β S w D (nM u) u:=by
 unfold nM;split
 ·split
  ·rename_i cs h;simp only[den];exact⟨cs.toList,by simp,kP _,h⟩
  ·simp[den]
 ·simp[den]
theorem fp1{β:Bt}{S D:Pr}{w:World}(u:Value):den β S w D (gk5 u) u:=by
 unfold gk5;split
 ·rename_i vs;simp only[den];refine⟨vs.toList,by simp,?_⟩;have:=iL (β:=β) (S:=S) (w:=w) (D:=D) (f:=nM) (g:=λu=>u) (l:=vs.toList) (λx _=>qA x);simpa using this
 ·exact qA u
theorem dq3{n:Int}{k:Nat->Option Ans}:∀m j:Nat,co8 n m j k=if(j:Int)<=n/\n< ((j+m:Nat):Int)then k n.toNat else none
 |0,j=>by rw[co8,if_neg (by omega)]
 |m+1,j=>by
  rw[co8,dq3 m (j+1)];by_cases h:n=(j:Int)
  ·rw[if_pos h,if_pos (by omega)];congr 1;omega
  ·rw[if_neg h];by_cases h2:((j+1:Nat):Int)<=n/\n< ((j+1+m:Nat):Int)
   ·rw[if_pos h2,if_pos (by omega)]
   ·rw[if_neg h2,if_neg (by omega)]
theorem fh5{n:Int}{k:Nat->Option Ans}{m:Nat}:co8 n m 0 k=if 0<=n/\n< (m:Int)then k n.toNat else none:=by
 rw[dq3,Nat.zero_add];rfl
section
variable {P:Program} {β:Bt} {S D:Pr} {w:World}
theorem jT{t:TypeId}{n:Nat}(h:szP P t=some n):(sizeOf t).run P w= .ok n w:=by
 unfold szP at h;cases hi:P.info? t with
 |none=>rw[hi]at h;cases h
 |some i=>
  rw[hi]at h;simp only[Option.map_some,Option.some.injEq]at h;simp[sizeOf,typeInfo,hi,h]
theorem af7{t:TypeId}{b:Bool}(h:fp9 P t=some b):(isAgg t).run P w= .ok b w:=by
 unfold fp9 at h;cases hu:P.underlying t with
 |none=>rw[hu]at h;cases h
 |some d=>
  rw[hu]at h;simp only[isAgg,Sem.run_bind,run_underlying hu,Result.andThen_ok];cases d<;>simp_all
theorem n6{t e:TypeId}(h:jG P t=some e):P.underlying t=some (.slice e):=by
 unfold jG at h;split at h
 ·simp only[Option.some.injEq]at h;subst h;assumption
 ·cases h
theorem ag0{t e:TypeId}{n:Nat}(h:fo1 P t=some (n,e)):P.underlying t=some (.array n e):=by
 unfold fo1 at h;split at h
 ·simp only[Option.some.injEq,Prod.mk.injEq]at h;obtain⟨rfl,rfl⟩:=h;assumption
 ·cases h
theorem ch6{t u:TypeId}{f o:Nat}(h:fk5 P t f=some (o,u)):∃fs fd,P.underlying t=some (.struct fs)/\fs[f]? =some fd/\fd.offset=o/\fd.type=u:=by
 unfold fk5 at h;split at h
 ·rename_i fs hu;simp only[Option.map_eq_some_iff,Prod.mk.injEq]at h;obtain⟨fd,h1,h2,h3⟩:=h;exact⟨fs,fd,hu,h1,h2,h3⟩
 ·cases h
theorem pureL_all:∀{l:List V},n4 l=true↔∀v∈l,v.pure=true
 | []=>by simp[n4]
 |c::cs=>by simp[n4,pureL_all (l:=cs)]
theorem aj8{l:List V}(n:Nat)(h:n4 l=true):n4 (l.drop n)=true:=pureL_all.2 λv hv=>pureL_all.1 h v (List.mem_of_mem_drop hv)
theorem mQ{us:List Value}{p:Value->Bool}(n:Nat)(h:us.all p=true):(us.drop n).all p=true:=by
 rw[List.all_eq_true]at h⊢;exact λx hx=>h x (List.mem_of_mem_drop hx)
theorem uK{us:List Value}{p:Value->Bool}(n:Nat)(h:us.all p=true):(us.take n).all p=true:=by
 rw[List.all_eq_true]at h⊢;exact λx hx=>h x (List.mem_of_mem_take hx)
theorem yY{t:TypeId}{cs:List V}{us:List Value}{o:Nat}{v:V}{p:Addr}(h:seg P t cs o=some v)(hd:d9 β S w D cs us)(h1:us.all Value.oneCell'=true)
 (hc:∀i x,us[o+i]? =some x->w.cell? (p.add i)=some x):∃y,(loadVar t p).run P w= .ok y w/\den β S w D v y:=by
 unfold seg at h;split at h
 ·rename_i ha;split at h
  ·rename_i n hn;split at h
   ·rename_i hle;simp only[Option.some.injEq]at h;subst h;have hlen:=y5 hd;have hl:((us.drop o).take n).length=n:=by simp;omega
    have hrun:=run_loadCells_list (P:=P) (w:=w) p ((us.drop o).take n) (λj x hx=>hc j x (by
     rw[List.getElem?_take]at hx;split at hx
     ·rwa [List.getElem?_drop]at hx
     ·cases hx))
    rw[hl]at hrun;refine⟨.agg ((us.drop o).take n).toArray,by simp[loadVar,Sem.run_bind,af7 ha,jT hn,hrun],?_⟩;simp only[den];exact⟨_,rfl,ah3 n (pV o hd),uK n (mQ o h1)⟩
   ·cases h
  ·cases h
 ·rename_i ha;obtain⟨u,hu,hdu⟩:=uU hd o v h;have:=hc 0 u (by simpa using hu);have e:p.add 0=p:=by simp[Addr.add]
  rw[e]at this;exact⟨u,by simp[loadVar,Sem.run_bind,af7 ha,load,Sem.run,this],hdu⟩
 ·cases h
theorem dp9{t:TypeId}{cs:List V}{us:List Value}{o:Nat}{v:V}(h:seg P t cs o=some v)(hd:d9 β S w D cs us)(h1:us.all Value.oneCell'=true):
 ∃y,(part t us.toArray o).run P w= .ok y w/\den β S w D v y:=by
 unfold seg at h;split at h
 ·rename_i ha;split at h
  ·rename_i n hn;split at h
   ·simp only[Option.some.injEq]at h;subst h;refine⟨.agg ((us.drop o).take n).toArray,?_,?_⟩
    ·simp only[part,Sem.run_bind,af7 ha,Result.andThen_ok,if_true,jT hn,Sem.run_pure];congr 2;simp[List.extract_eq_take_drop]
    ·simp only[den];exact⟨_,rfl,ah3 n (pV o hd),uK n (mQ o h1)⟩
   ·cases h
  ·cases h
 ·rename_i ha;obtain⟨u,hu,hdu⟩:=uU hd o v h;exact⟨u,by simp[part,Sem.run_bind,af7 ha,hu],hdu⟩
 ·cases h
end
def bg8(β:Bt)(S:Pr)(w:World)(D:Pr)(k n:Nat)(f:Nat->List V)(cur:Array Value):Prop:=
 ∀j,j<n->∃us:List Value,d9 β S w D (f j) us/\n4 (f j)=true/\us.length=k/\us.all Value.oneCell'=true/\∀i x,us[i]? =some x->cur[j*k+i]? =some x
def av3(β:Bt)(S:Pr)(w:World)(D:Pr):List (Int×V)->List MapEntry->Prop
 | [],es=>es=[]
 | (n,v)::l,es=>∃e es',es=e::es'/\e.key= .int .i64 n/\den β S w D v e.val/\v.pure=true/\av3 β S w D l es'
def dM(s:ByteArray):List MapEntry->Nat->Option (Nat×Value)
 | [],_=>none
 |e::es,i=>match e.key with| .string q=>if(s==q) then some (i,e.val)else dM s es (i+1) |_=>dM s es (i+1)
def er3(β:Bt)(S:Pr)(w:World)(D:Pr)(n:Nat)(g:ByteArray->Bool)(f:ByteArray->V)(es:List MapEntry):Prop:=
 es.length=n/\(∀e∈es,∃s,e.key= .string s)/\∀s,match dM s es 0 with
  |some p=>g s=true/\den β S w D (f s) p.2/\(f s).pure=true
  |none=>g s=false
def d7(β:Bt)(S:Pr)(w:World)(D:Pr)(b m:Nat):Z1->Prop
 | .blk cs=>0<m/\∃(us:List Value) (T:TypeId),w.heap[b]? =some (.cells us.toArray T (0,0))/\d9 β S w D cs us/\us.all Value.oneCell'=true
 | .tbk T cs=>0<m/\∃us:List Value,w.heap[b]? =some (.cells us.toArray T (0,0))/\d9 β S w D cs us/\us.all Value.oneCell'=true
 | .row e k n f=>n<=m/\m<=maxLen/\0<k/\(0<m->∃cur:Array Value,w.heap[b]? =some (.cells cur e (0,0))/\cur.size=m*k/\bg8 β S w D k n f cur)
 | .iter s p=>0<m/\w.heap[b]? =some (.stringIter s p)
 | .map l=>0<m/\∃(es:List MapEntry) (clock:Nat),w.heap[b]? =some (.map es.toArray clock)/\av3 β S w D l es
 | .smap n g f=>0<m/\∃(es:List MapEntry) (clock:Nat),w.heap[b]? =some (.map es.toArray clock)/\er3 β S w D n g f es
structure Mem(β:Bt)(S D:Pr)(H:Hp)(w:World):Prop where
 live:∀i c,H i=some c->∃b m,β i=some (b,m)/\d7 β S w D b m c
 dead:∀i,H i=none->β i=none
 dom:∀i b m,β i=some (b,m)->D i
 own:∀i b m,β i=some (b,m)->0<m->b<w.heap.size/\¬S b
 inj:∀i j b m m',β i=some (b,m)->β j=some (b,m')->0<m->0<m'->i=j
 st:∀b,S b->b<w.heap.size
structure Evo(β:Bt)(S:Pr)(w:World)(β':Bt)(S':Pr)(w':World):Prop where
 os:w'.os=w.os
 tape:w'.tape=w.tape
 output:w'.output=w.output
 size:w.heap.size<=w'.heap.size
 keep:∀b,b<w.heap.size->(∀i m,0<m->β i≠some (b,m))->w'.heap[b]? =w.heap[b]?
 sub:∀b,S b->S' b
 newS:∀b,S' b->S b\/w.heap.size<=b\/∃i m,0<m/\β i=some (b,m)
 newO:∀i b m,β' i=some (b,m)->0<m->w.heap.size<=b\/∃j m',0<m'/\β j=some (b,m')
theorem Evo.refl(β:Bt)(S:Pr)(w:World):Evo β S w β S w:=⟨rfl,rfl,rfl,Nat.le_refl _,λ_ _ _=>rfl,λ_ h=>h,λ_ h=>.inl h,λi b m h h0=>.inr ⟨i,m,h0,h⟩⟩
def AA:=@Evo.refl
theorem Evo.trans{β β' β'':Bt}{S S' S'':Pr}{w w' w'':World}(h:Evo β S w β' S' w')(g:Evo β' S' w' β'' S'' w''):Evo β S w β'' S'' w'':=by
 refine⟨g.os.trans h.os,g.tape.trans h.tape,g.output.trans h.output,Nat.le_trans h.size g.size,?_,λb hb=>g.sub b (h.sub b hb),?_,?_⟩
 ·intro b hb hn
  rw[g.keep b (Nat.lt_of_lt_of_le hb h.size) (λi m h0 he=>by
   rcases h.newO i b m he h0 with h1| ⟨j,m',h01,h1⟩
   ·omega
   ·exact hn j m' h01 h1)]
  exact h.keep b hb hn
 ·intro b hb;rcases g.newS b hb with h1|h1| ⟨i,m,h0,h1⟩
  ·exact h.newS b h1
  ·exact .inr (.inl (Nat.le_trans h.size h1))
  ·rcases h.newO i b m h1 h0 with h2|h2
   ·exact .inr (.inl h2)
   ·exact .inr (.inr h2)
 ·intro i b m hb h0;rcases g.newO i b m hb h0 with h1| ⟨j,m',h01,h1⟩
  ·exact .inl (Nat.le_trans h.size h1)
  ·exact h.newO j b m' h1 h01
theorem Evo.kept{β β':Bt}{S S' D:Pr}{H:Hp}{w w':World}(h:Evo β S w β' S' w')(hM:Mem β S D H w):Y4 S w w':=
 λb hb=>h.keep b (hM.st b hb) λi m h0 he=>(hM.own i b m he h0).2 hb
theorem rS{β β':Bt}{S S' D D':Pr}{w w':World}{k n:Nat}{f:Nat->List V}{cur:Array Value}(hS:∀b,S b->S' b)(hk:Y4 S w w')(h:bg8 β S w D k n f cur):bg8 β' S' w' D' k n f cur:=by
 intro j hj;obtain⟨us,h1,h2,h3,h4,h5⟩:=h j hj;exact⟨us,x8 hS hk _ _ h2 h1,h2,h3,h4,h5⟩
theorem mU{β β':Bt}{S S' D D':Pr}{w w':World}(hS:∀b,S b->S' b)(hk:Y4 S w w'):∀{l:List (Int×V)} {es:List MapEntry},av3 β S w D l es->av3 β' S' w' D' l es
 | [],es,h=>h
 | (n,v)::l,es,h=>by
  obtain⟨e,es',h1,h2,h3,h4,h5⟩:=h;exact⟨e,es',h1,h2,y6 hS hk _ _ h4 h3,h4,mU hS hk h5⟩
theorem xP{β β':Bt}{S S' D D':Pr}{w w':World}{n:Nat}{g:ByteArray->Bool}{f:ByteArray->V}{es:List MapEntry}(hS:∀b,S b->S' b)(hk:Y4 S w w')(h:er3 β S w D n g f es):er3 β' S' w' D' n g f es:=by
 refine⟨h.1,h.2.1,λs=>?_⟩;have:=h.2.2 s;split at this
 ·rename_i p hp;exact⟨this.1,y6 hS hk _ _ this.2.2 this.2.1,this.2.2⟩
 ·exact this
theorem o0{β β':Bt}{S S' D D':Pr}{w w':World}{b m:Nat}{c:Z1}(hβ:∀i,D i->β' i=β i\/β' i=none)(hS:∀b,S b->S' b)(hD:∀i,D i->D' i)(hk:Y4 S w w')
 (hb:0<m->w'.heap[b]? =w.heap[b]?) (h:d7 β S w D b m c):d7 β' S' w' D' b m c:=by
 cases c with
 |blk cs=>
  simp only[d7]at h⊢;obtain⟨h0,us,T,h1,h2,h3⟩:=h;exact⟨h0,us,T,by rw[hb h0];exact h1,m4 hβ hS hD hk _ _ h2,h3⟩
 |tbk T cs=>
  simp only[d7]at h⊢;obtain⟨h0,us,h1,h2,h3⟩:=h;exact⟨h0,us,by rw[hb h0];exact h1,m4 hβ hS hD hk _ _ h2,h3⟩
 |row e k n f=>
  simp only[d7]at h⊢;obtain⟨h1,h2,h3,hc⟩:=h;refine⟨h1,h2,h3,λh0=>?_⟩;obtain⟨cur,h4,h5,h6⟩:=hc h0;exact⟨cur,by rw[hb h0];exact h4,h5,rS hS hk h6⟩
 |iter s p=>simp only[d7]at h⊢;rw[hb h.1];exact h
 |map l=>simp only[d7]at h⊢;obtain⟨h0,es,clock,h1,h2⟩:=h;exact⟨h0,es,clock,by rw[hb h0];exact h1,mU hS hk h2⟩
 |smap n g f=>simp only[d7]at h⊢;obtain⟨h0,es,clock,h1,h2⟩:=h;exact⟨h0,es,clock,by rw[hb h0];exact h1,xP hS hk h2⟩
section
variable {P:Program} {β:Bt} {S D:Pr} {H:Hp} {w:World} {k:KR} {r:Ans}
def du4(P:Program)(β:Bt)(S:Pr)(w:World)(D:Pr)(k:KR)(r:Ans)(s:Sem Value):Prop:=∃v,k (.val v [])=some r/\∃y,s.run P w= .ok y w/\den β S w D v y
theorem et3(hM:Mem β S D H w){t:TypeId}{x:V}{u:Value}(hx:den β S w D x u)(h:ad9 P t x H k=some r):du4 P β S w D k r (Instr.loadAt t u):=by
 unfold ad9 at h;split at h
 ·rename_i i o;split at h
  ·rename_i cs hc;split at h
   ·rename_i v hv;obtain⟨b,m,hb,hr⟩:=hM.live i _ hc;simp only[d7]at hr;obtain⟨h0,us,T,h1,h2,h3⟩:=hr;simp only[den]at hx;have hu:=hx.2 b m hb;obtain⟨y,hy1,hy2⟩:=yY (p:=⟨b,o,none⟩) hv h2 h3 (λi x hx=>by rw[eU,cell_of_row w b (o+i) _ _ _ h1];simpa using hx);exact⟨v,h,y,by rw[hu];simp[Instr.loadAt,Instr.sureAddr,hy1],hy2⟩
   ·cases h
  ·rename_i T cs hc;split at h
   ·rename_i v hv;obtain⟨b,m,hb,hr⟩:=hM.live i _ hc;simp only[d7]at hr;obtain⟨h0,us,h1,h2,h3⟩:=hr;simp only[den]at hx;have hu:=hx.2 b m hb;obtain⟨y,hy1,hy2⟩:=yY (p:=⟨b,o,none⟩) hv h2 h3 (λi x hx=>by rw[eU,cell_of_row w b (o+i) _ _ _ h1];simpa using hx);exact⟨v,h,y,by rw[hu];simp[Instr.loadAt,Instr.sureAddr,hy1],hy2⟩
   ·cases h
  ·cases h
 ·rename_i i z j o;split at h
  ·rename_i e kk n f hc;split at h
   ·rename_i hj;obtain⟨hj,rfl⟩:=hj;split at h
    ·rename_i v hv;obtain⟨b,m,hb,hr⟩:=hM.live i _ hc;simp only[d7]at hr;obtain⟨h1,h2,h3,hcur⟩:=hr;obtain⟨cur,h4,h5,h6⟩:=hcur (by omega);obtain⟨us,g1,g2,g3,g4,g5⟩:=h6 j hj;simp only[den]at hx;have hu:=hx.2 b m hb
     obtain⟨y,hy1,hy2⟩:=yY (p:=⟨b,j*z+o,none⟩) hv g1 g4 (λi x hx=>by
      rw[eU,cell_of_row w b (j*z+o+i) _ _ _ h4,Nat.add_assoc];exact g5 (o+i) x hx)
     exact⟨v,h,y,by rw[hu];simp[Instr.loadAt,Instr.sureAddr,hy1],hy2⟩
    ·cases h
   ·cases h
  ·cases h
 ·rename_i cs;split at h
  ·rename_i v hv;simp only[den]at hx;obtain⟨a,us,h1,h2,h3,h4,h5,h6⟩:=hx;obtain⟨y,hy1,hy2⟩:=yY (p:=a) hv h3 h5 (λi x hx=>h6 i x (by simpa using hx));exact⟨v,h,y,by rw[h1];simp[Instr.loadAt,Instr.sureAddr,hy1],hy2⟩
  ·cases h
 ·cases h
theorem nJ{y:V}{u:Value}{n:Int}(hy:den β S w D y u)(h:bw5 y=some n):∃kd,u= .int kd n:=by
 unfold bw5 at h;split at h
 ·simp only[Option.some.injEq]at h;simp only[den]at hy;subst h hy;exact⟨_,rfl⟩
 ·cases h
theorem eX{i:Nat}{q:Option Ans}(hM:Mem β S D H w)(h:qW H i q=some r):q=some r/\∃b m,β i=some (b,m):=by
 unfold qW at h;split at h
 ·rename_i c hc;obtain⟨b,m,hb,_⟩:=hM.live i c hc;exact⟨h,b,m,hb⟩
 ·cases h
theorem bi5(hM:Mem β S D H w){t:TypeId}{x:V}{u:Value}{f:Nat}(hx:den β S w D x u)(h:kR P t x f H k=some r):du4 P β S w D k r (Instr.fieldAt t u f):=by
 unfold kR at h;split at h
 ·rename_i p ty hf;obtain⟨fs,fd,hu,hg,ho,hty⟩:=ch6 hf;split at h
  ·rename_i z hz;have hsz:(sizeOf fd.type).run P w= .ok (z+1) w:=jT (by rw[hty];exact hz)
   have key:∀ad:Addr,u= .pointer (some ad)->(Instr.fieldAt t u f).run P w= .ok (.pointer (some (ad.add p))) w:=by
    rintro ad rfl;simp[Instr.fieldAt,Sem.run_bind,run_underlying hu,hg,Instr.sureAddr,fieldPlace,hsz,ho]
   split at h
   ·rename_i i o;obtain⟨h,b,m,hb⟩:=eX hM h;simp only[den]at hx;refine⟨_,h,_,key _ (hx.2 b m hb),?_⟩;simp only[den,eU];refine⟨⟨hx.1.1,rfl⟩,λb' m' hb'=>?_⟩;rw[hb]at hb';cases hb';rfl
   ·rename_i i c j o;obtain⟨h,b,m,hb⟩:=eX hM h;simp only[den]at hx;refine⟨_,h,_,key _ (hx.2 b m hb),?_⟩;simp only[den,eU];refine⟨⟨hx.1.1,rfl⟩,λb' m' hb'=>?_⟩;rw[hb]at hb';cases hb';rw[Nat.add_assoc]
   ·rename_i cs;refine⟨_,h,?_⟩;simp only[den]at hx;obtain⟨a,us,h1,h2,h3,h4,h5,h6⟩:=hx;refine⟨_,key a h1,?_⟩;simp only[den];refine⟨a.add p,us.drop p,rfl,by rw[fD];exact h2,pV p h3,?_,mQ p h5,λi x hx=>?_⟩
    ·exact aj8 p h4
    ·rw[ab8];rw[List.getElem?_drop]at hx;exact h6 _ x hx
   ·cases h
  ·cases h
 ·cases h
theorem sD{t e:TypeId}{z n i:Nat}{m:Nat}{kd:IntKind}{A:Addr}(he:P.underlying t=some (.slice e))(hz:szP P e=some z)(hi:i<n):
 (Instr.indexAt t (.slice (some A) n m) (.int kd (i:Nat))).run P w= .ok (.pointer (some (A.add (i*z)))) w:=by
 simp[Instr.indexAt,asIntOf,Sem.run_bind,run_underlying he,hi,jT hz]
theorem nS{t e:TypeId}{z n i:Nat}{kd:IntKind}{A:Addr}(he:P.underlying t=some (.array n e))(hz:szP P e=some z)(hi:i<n):
 (Instr.indexAt t (.pointer (some A)) (.int kd (i:Nat))).run P w= .ok (.pointer (some (A.add (i*z)))) w:=by
 simp[Instr.indexAt,asIntOf,Sem.run_bind,run_underlying he,hi,jT hz,Instr.sureAddr]
theorem bh8(hM:Mem β S D H w){t:TypeId}{x y:V}{u v:Value}(hx:den β S w D x u)(hy:den β S w D y v)(h:oY P t x y H k=some r):du4 P β S w D k r (Instr.indexAt t u v):=by
 unfold oY at h;simp only[fh5,fa8]at h;split at h
 ·rename_i n hn;obtain⟨kd,rfl⟩:=nJ hy hn;split at h
  ·rename_i i z o l;split at h
   ·rename_i e he;split at h
    ·rename_i hc;obtain⟨hz,h0,hl⟩:=hc;obtain⟨h,b,m,hb⟩:=eX hM h;obtain⟨j,rfl⟩:=Int.eq_ofNat_of_zero_le h0;simp only[den]at hx;obtain⟨g1,A,rfl,g2⟩:=hx.2 b m hb;obtain rfl:=g2 (by omega);refine⟨_,h,_,sD (n6 he) hz (by omega),?_⟩;simp only[den,eU,Int.toNat_natCast];refine⟨⟨hx.1.1,rfl⟩,λb' m' hb'=>?_⟩;rw[hb]at hb';cases hb';rw[Nat.add_mul,Nat.add_zero]
    ·cases h
   ·cases h
  ·rename_i z l f;split at h
   ·rename_i e he;split at h
    ·rename_i hc;obtain⟨hz,h0,hl⟩:=hc;obtain⟨j,rfl⟩:=Int.eq_ofNat_of_zero_le h0;simp only[den]at hx;obtain⟨h0,A,m,a,us,rfl,g2,g3,g4⟩:=hx;obtain⟨rfl,hS⟩:=g3 (by omega);refine⟨_,h,_,sD (n6 he) hz (by omega),?_⟩;obtain⟨q1,q2,q3,q4,q5⟩:=g4 j (by omega);simp only[den,Int.toNat_natCast];exact⟨a.add (j*z),us j,rfl,by rw[fD];exact hS,q1,q2,q4,λi x hx=>by rw[ab8];exact q5 i x hx⟩
    ·cases h
   ·cases h
  ·rename_i i o;split at h
   ·rename_i l e ha;split at h
    ·rename_i z hz;split at h
     ·rename_i hc;obtain⟨h0,hl⟩:=hc;obtain⟨h,b,m,hb⟩:=eX hM h;obtain⟨j,rfl⟩:=Int.eq_ofNat_of_zero_le h0;simp only[den]at hx;rw[hx.2 b m hb];refine⟨_,h,_,nS (ag0 ha) hz (by omega),?_⟩;simp only[den,eU,Int.toNat_natCast];refine⟨⟨hx.1.1,rfl⟩,λb' m' hb'=>?_⟩;rw[hb]at hb';cases hb';rfl
     ·cases h
    ·cases h
   ·cases h
  ·rename_i i c q o;split at h
   ·rename_i l e ha;split at h
    ·rename_i z hz;split at h
     ·rename_i hc;obtain⟨h0,hl⟩:=hc;obtain⟨h,b,m,hb⟩:=eX hM h;obtain⟨j,rfl⟩:=Int.eq_ofNat_of_zero_le h0;simp only[den]at hx;rw[hx.2 b m hb];refine⟨_,h,_,nS (ag0 ha) hz (by omega),?_⟩;simp only[den,eU,Int.toNat_natCast];refine⟨⟨hx.1.1,rfl⟩,λb' m' hb'=>?_⟩;rw[hb]at hb';cases hb';rw[Nat.add_assoc]
     ·cases h
    ·cases h
   ·cases h
  ·rename_i cs;split at h
   ·rename_i l e ha;split at h
    ·rename_i z hz;split at h
     ·rename_i hc;obtain⟨h0,hl⟩:=hc;obtain⟨j,rfl⟩:=Int.eq_ofNat_of_zero_le h0;simp only[den]at hx;obtain⟨a,us,rfl,h2,h3,h4,h5,h6⟩:=hx;refine⟨_,h,_,nS (ag0 ha) hz (by omega),?_⟩;simp only[den,Int.toNat_natCast];refine⟨a.add (j*z),us.drop (j*z),rfl,by rw[fD];exact h2,pV _ h3,aj8 _ h4,mQ _ h5,λi x hx=>?_⟩;rw[ab8];rw[List.getElem?_drop]at hx;exact h6 _ x hx
     ·cases h
    ·cases h
   ·cases h
  ·cases h
 ·cases h
theorem aj1{t e:TypeId}{z n m l h:Nat}{A:Option Addr}{lo hi:Option Value}(he:P.underlying t=some (.slice e))(hz:szP P e=some z)(hn:n<=m)
 (hlo:(lo=none/\l=0)\/∃kd,lo=some (.int kd (l:Nat))) (hhi:(hi=none/\h=n)\/∃kd,hi=some (.int kd (h:Nat))) (h1:l<=h) (h2:h<=n):
 (Instr.sliceAt t (.slice A n m) lo hi none).run P w= .ok (.slice (if m=l then A else A.map (·.add (l*z))) (h-l) (m-l)) w:=by
 have e1:h<=m:=by omega
 have e2:l<=h:=by omega
 rcases hlo with⟨rfl,rfl⟩ | ⟨kd,rfl⟩<;>rcases hhi with⟨rfl,rfl⟩ | ⟨kd',rfl⟩<;>
  simp[Instr.sliceAt,Instr.slice,Instr.sliceBounds,Instr.sliceBound,asIntOf,Sem.run_bind,run_underlying he,jT hz,e1,e2]
theorem bd3{t:TypeId}{s:ByteArray}{l h:Nat}{lo hi:Option Value}(he:P.underlying t=some .string)
 (hlo:(lo=none/\l=0)\/∃kd,lo=some (.int kd (l:Nat))) (hhi:(hi=none/\h=s.size)\/∃kd,hi=some (.int kd (h:Nat))) (h1:l<=h) (h2:h<=s.size):
 (Instr.sliceAt t (.string s) lo hi none).run P w= .ok (.string (s.extract l h)) w:=by
 have e1:h<=s.size:=by omega
 have e2:l<=h:=by omega
 rcases hlo with⟨rfl,rfl⟩ | ⟨kd,rfl⟩<;>rcases hhi with⟨rfl,rfl⟩ | ⟨kd',rfl⟩<;>
  simp[Instr.sliceAt,Instr.slice,Instr.sliceBounds,Instr.sliceBound,asIntOf,Sem.run_bind,run_underlying he,e1,e2]
theorem dq4(hM:Mem β S D H w){t:TypeId}{x:V}{u:Value}{lo hi:Option Value}{l h:Option Int}(hx:den β S w D x u)
 (hlo:(lo=none/\l=some 0)\/∃kd n,lo=some (.int kd n)/\l=some n) (hhi:(hi=none/\h=ft6 x)\/∃kd n,hi=some (.int kd n)/\h=some n)
 (he:zL P t x l h H k=some r):du4 P β S w D k r (Instr.sliceAt t u lo hi none):=by
 unfold zL at he;simp only[fa8]at he;split at he
 ·rename_i _ _ l h;split at he
  ·rename_i i z o n;split at he
   ·rename_i e hel;split at he
    ·rename_i hc;obtain⟨hz,h0,h1,h2⟩:=hc;obtain⟨he,b,m,hb⟩:=eX hM he;obtain⟨l,rfl⟩:=Int.eq_ofNat_of_zero_le h0;obtain⟨h,rfl⟩:=Int.eq_ofNat_of_zero_le (Int.le_trans h0 h1);simp only[den]at hx;obtain⟨g1,A,rfl,g2⟩:=hx.2 b m hb;refine⟨_,he,_,aj1 (l:=l) (h:=h) (n:=n) (n6 hel) hz (by omega) ?_ ?_ (by omega) (by omega),?_⟩
     ·rcases hlo with⟨q1,q2⟩ | ⟨kd,n',q1,q2⟩
      ·exact .inl ⟨q1,by simp at q2;omega⟩
      ·simp only[Option.some.injEq]at q2;subst q2;exact .inr ⟨kd,q1⟩
     ·rcases hhi with⟨q1,q2⟩ | ⟨kd,n',q1,q2⟩
      ·exact .inl ⟨q1,by simp[ft6]at q2;omega⟩
      ·simp only[Option.some.injEq]at q2;subst q2;exact .inr ⟨kd,q1⟩
     ·simp only[den,Int.toNat_natCast];refine⟨⟨hx.1.1,rfl⟩,λb' m' hb'=>?_⟩;rw[hb]at hb';cases hb';refine⟨by omega,?_⟩;by_cases hml:m-o=l
      ·rw[if_pos hml];exact⟨A,by congr 1;omega,λhlt=>by omega⟩
      ·rw[if_neg hml];refine⟨A.map (·.add (l*z)),by congr 1;omega,λhlt=>?_⟩;rw[g2 (by omega),Option.map_some,eU,Nat.add_mul]
    ·cases he
   ·cases he
  ·rename_i z n f;split at he
   ·rename_i e hel;split at he
    ·rename_i hc;obtain⟨hz,h0,h1,h2⟩:=hc;obtain⟨l,rfl⟩:=Int.eq_ofNat_of_zero_le h0;obtain⟨h,rfl⟩:=Int.eq_ofNat_of_zero_le (Int.le_trans h0 h1);simp only[den]at hx;obtain⟨hmx,A,m,a,us,rfl,g2,g3,g4⟩:=hx;refine⟨_,he,_,aj1 (l:=l) (h:=h) (n:=n) (n6 hel) hz g2 ?_ ?_ (by omega) (by omega),?_⟩
     ·rcases hlo with⟨q1,q2⟩ | ⟨kd,n',q1,q2⟩
      ·exact .inl ⟨q1,by simp at q2;omega⟩
      ·simp only[Option.some.injEq]at q2;subst q2;exact .inr ⟨kd,q1⟩
     ·rcases hhi with⟨q1,q2⟩ | ⟨kd,n',q1,q2⟩
      ·exact .inl ⟨q1,by simp[ft6]at q2;omega⟩
      ·simp only[Option.some.injEq]at q2;subst q2;exact .inr ⟨kd,q1⟩
     ·simp only[den,Int.toNat_natCast];refine⟨by omega,_,m-l,a.add (l*z),λj=>us (l+j),rfl,by omega,λhlt=>?_,λj hj=>?_⟩
      ·obtain⟨rfl,hS⟩:=g3 (by omega);rw[if_neg (by omega)];exact⟨rfl,by rw[fD];exact hS⟩
      ·obtain⟨q1,q2,q3,q4,q5⟩:=g4 (l+j) (by omega);exact⟨q1,q2,q3,q4,λi x hx=>by rw[ab8,<-Nat.add_assoc,<-Nat.add_mul];exact q5 i x hx⟩
    ·cases he
   ·cases he
  ·rename_i s;split at he
   ·rename_i hc;obtain⟨hu,h0,h1,h2⟩:=hc;obtain⟨l,rfl⟩:=Int.eq_ofNat_of_zero_le h0;obtain⟨h,rfl⟩:=Int.eq_ofNat_of_zero_le (Int.le_trans h0 h1);simp only[den]at hx;subst hx
    have hu':P.underlying t=some .string:=by
     unfold eV at hu;split at hu
     ·assumption
     ·cases hu
    refine⟨_,he,_,bd3 (l:=l) (h:=h) hu' ?_ ?_ (by omega) (by omega),by simp[den]⟩
    ·rcases hlo with⟨q1,q2⟩ | ⟨kd,n',q1,q2⟩
     ·exact .inl ⟨q1,by simp at q2;omega⟩
     ·simp only[Option.some.injEq]at q2;subst q2;exact .inr ⟨kd,q1⟩
    ·rcases hhi with⟨q1,q2⟩ | ⟨kd,n',q1,q2⟩
     ·exact .inl ⟨q1,by simp[ft6]at q2;omega⟩
     ·simp only[Option.some.injEq]at q2;subst q2;exact .inr ⟨kd,q1⟩
   ·cases he
  ·cases he
 ·cases he
end
end
section
open Go Go.RowKit
theorem j6{α:Type}(h:Nat->Option α)(i:Nat)(c:Option α):upd h i c i=c:=by simp[upd]
theorem aY{α:Type}(h:Nat->Option α){i j:Nat}(c:Option α)(hn:j≠i):upd h i c j=h j:=by simp[upd,hn]
def Hb(β β':Bt)(D:Pr):Prop:=∀i,D i->β' i=β i\/β' i=none
theorem Hb.refl(β:Bt)(D:Pr):Hb β β D:=λ_ _=>.inl rfl
def AB:=@Hb.refl
theorem Hb.trans{β β' β'':Bt}{D D':Pr}(h:Hb β β' D)(hD:∀i,D i->D' i)(g:Hb β' β'' D'):Hb β β'' D:=by
 intro i hi;rcases g i (hD i hi)with e|e
 ·rcases h i hi with e'|e'
  ·exact .inl (e.trans e')
  ·exact .inr (e.trans e')
 ·exact .inr e
section
variable {P:Program} {β:Bt} {S D D':Pr} {H:Hp} {w w':World}
theorem Mem.mono(hM:Mem β S D H w)(hD:∀i,D i->D' i):Mem β S D' H w:=
 ⟨λi c hc=>let⟨b,m,h1,h2⟩:=hM.live i c hc;⟨b,m,h1,o0 (λ_ _=>.inl rfl) (λ_ h=>h) hD (λ_ _=>rfl) (λ_=>rfl) h2⟩,hM.dead,λi b m h=>hD i (hM.dom i b m h),hM.own,hM.inj,hM.st⟩
theorem Mem.new(hM:Mem β S D H w){a b m:Nat}{c:Z1}(ha:¬D a)(hD:∀i,D i->D' i)(hDa:D' a)(hev:Below w.heap.size w w')(hb:w.heap.size<=b)(hb':0<m->b<w'.heap.size)
 (hc:d7 (upd β a (some (b,m))) S w' D' b m c):Mem (upd β a (some (b,m))) S D' (upd H a (some c)) w'/\Evo β S w (upd β a (some (b,m))) S w'/\Hb β (upd β a (some (b,m))) D:=by
 have hHb:Hb β (upd β a (some (b,m))) D:=λi hi=>.inl (aY _ _ (λe=>ha (e▸hi)));have hβa:∀i b' m',i≠a->upd β a (some (b,m)) i=some (b',m')->β i=some (b',m'):=λi b' m' hi h=>by rwa [aY _ _ hi]at h
 refine⟨⟨?_,?_,?_,?_,?_,?_⟩,⟨hev.os,hev.tape,hev.output,hev.size,λb' hb' _=>hev.block b' hb',λ_ h=>h,λ_ h=>.inl h,?_⟩,hHb⟩
 ·intro i c' hc';by_cases hi:i=a
  ·subst hi;rw[j6]at hc';cases hc';exact⟨b,m,j6 _ _ _,hc⟩
  ·rw[aY _ _ hi]at hc';obtain⟨b',m',h1,h2⟩:=hM.live i c' hc';exact⟨b',m',by rw[aY _ _ hi];exact h1,o0 hHb (λ_ h=>h) hD (λx hx=>hev.block x (hM.st x hx)) (λh0=>hev.block b' (hM.own i b' m' h1 h0).1) h2⟩
 ·intro i hi;by_cases he:i=a
  ·subst he;rw[j6]at hi;cases hi
  ·rw[aY _ _ he]at hi⊢;exact hM.dead i hi
 ·intro i b' m' h;by_cases he:i=a
  ·rw[he];exact hDa
  ·exact hD i (hM.dom i b' m' (hβa i b' m' he h))
 ·intro i b' m' h h0;by_cases he:i=a
  ·subst he;rw[j6]at h;cases h;exact⟨hb' h0,λhs=>by have:=hM.st _ hs;omega⟩
  ·have h':=hβa i b' m' he h;exact⟨Nat.lt_of_lt_of_le (hM.own i b' m' h' h0).1 hev.size,(hM.own i b' m' h' h0).2⟩
 ·intro i j b' m' m'' h1 h2 h01 h02;by_cases hi:i=a<;>by_cases hj:j=a
  ·rw[hi,hj]
  ·subst hi;rw[j6]at h1;cases h1;have:=(hM.own j _ _ (hβa j _ _ hj h2) h02).1;omega
  ·subst hj;rw[j6]at h2;cases h2;have:=(hM.own i _ _ (hβa i _ _ hi h1) h01).1;omega
  ·exact hM.inj i j b' m' m'' (hβa i _ _ hi h1) (hβa j _ _ hj h2) h01 h02
 ·exact λx hx=>Nat.lt_of_lt_of_le (hM.st x hx) hev.size
 ·intro i b' m' h h0;by_cases he:i=a
  ·subst he;rw[j6]at h;cases h;exact .inl hb
  ·exact .inr ⟨i,m',h0,hβa i b' m' he h⟩
theorem Mem.put(hM:Mem β S D H w){i b m:Nat}{c c':Z1}(hi:H i=some c)(hb:β i=some (b,m))(hm0:0<m)(hg:w.grownBy w' (some b))(hc:d7 β S w' D b m c'):
 Mem β S D (upd H i (some c')) w'/\Evo β S w β S w':=by
 have hk:Y4 S w w':=λx hx=>hg.block x (hM.st x hx) (λe=>by cases e;exact(hM.own i b m hb hm0).2 hx)
 refine⟨⟨?_,?_,hM.dom,λj b' m' h h0=>⟨Nat.lt_of_lt_of_le (hM.own j b' m' h h0).1 hg.size,(hM.own j b' m' h h0).2⟩,hM.inj,λx hx=>Nat.lt_of_lt_of_le (hM.st x hx) hg.size⟩,
  ⟨hg.os,hg.tape,hg.output,hg.size,λb' hb' hn=>hg.block b' hb' (λe=>by cases e;exact hn i m hm0 hb),λ_ h=>h,λ_ h=>.inl h,λi b m h h0=>.inr ⟨i,m,h0,h⟩⟩⟩
 ·intro j d hd;by_cases hj:j=i
  ·subst hj;rw[j6]at hd;cases hd;exact⟨b,m,hb,hc⟩
  ·rw[aY _ _ hj]at hd;obtain⟨b',m',h1,h2⟩:=hM.live j d hd;refine⟨b',m',h1,o0 (λ_ _=>.inl rfl) (λ_ h=>h) (λ_ h=>h) hk (λh0=>hg.block b' (hM.own j b' m' h1 h0).1 (λe=>by cases e;exact hj (hM.inj j i _ _ _ h1 hb h0 hm0))) h2⟩
 ·intro j hj;by_cases he:j=i
  ·subst he;rw[j6]at hj;cases hj
  ·rw[aY _ _ he]at hj;exact hM.dead j hj
theorem uX(l:List (Nat×Option Z1))(hl:∀u∈l,u.2=none):∀(H:Hp) (i:Nat),aG H l i=if i∈l.map (·.1)then none else H i:=by
 induction l with
 |nil=>intro H i;simp[aG]
 |cons u l ih=>
  intro H i;obtain⟨j,c⟩:=u;have hc:c=none:=hl (j,c) (.head _);subst hc;simp only[aG,ih (λu hu=>hl u (.tail _ hu)),List.map_cons,List.mem_cons];by_cases h1:i∈l.map (·.1)
  ·simp[h1]
  ·by_cases h2:i=j
   ·subst h2;simp[h1,j6]
   ·simp[h1,h2,aY]
theorem mI(H:Hp)(l l':List (Nat×Option Z1)):aG H (l++l')=aG (aG H l) l':=by
 induction l generalizing H with
 |nil=>rfl
 |cons u l ih=>obtain⟨i,c⟩:=u;simp only[List.cons_append,aG];exact ih _
theorem bp3(l:List V):∀u∈fzU l,u.2=none:=by
 intro u hu;simp only[fzU,List.mem_flatMap]at hu;obtain⟨v,_,hv⟩:=hu;unfold nV at hv;split at hv
 ·simp only[List.mem_singleton]at hv;subst hv;rfl
 ·cases hv
def bf8(β:Bt)(S:Pr)(l:List Nat):Pr:=λb=>S b\/∃i m,i∈l/\β i=some (b,m)/\0<m
def fN(β:Bt)(l:List Nat):Bt:=λi=>if i∈l then none else β i
theorem Mem.drop(hM:Mem β S D H w)(l:List (Nat×Option Z1))(hl:∀u∈l,u.2=none):
 Mem (fN β (l.map (·.1))) (bf8 β S (l.map (·.1))) D (aG H l) w/\Evo β S w (fN β (l.map (·.1))) (bf8 β S (l.map (·.1))) w/\Hb β (fN β (l.map (·.1))) D:=by
 have hHb:Hb β (fN β (l.map (·.1))) D:=λi _=>by unfold fN;split<;>simp
 have hin:∀i b m,fN β (l.map (·.1)) i=some (b,m)->i∉l.map (·.1)/\β i=some (b,m):=by
  intro i b m h;unfold fN at h;split at h
  ·cases h
  ·exact⟨by assumption,h⟩
 refine⟨⟨?_,?_,λi b m h=>hM.dom i b m (hin i b m h).2,?_,λi j b m m' h1 h2 h01 h02=>hM.inj i j b m m' (hin _ _ _ h1).2 (hin _ _ _ h2).2 h01 h02,?_⟩,
  ⟨rfl,rfl,rfl,Nat.le_refl _,λ_ _ _=>rfl,λ_ h=>.inl h,?_,λi b m h h0=>.inr ⟨i,m,h0,(hin _ _ _ h).2⟩⟩,hHb⟩
 ·intro i c hc;rw[uX l hl]at hc;split at hc
  ·cases hc
  ·rename_i hn;obtain⟨b,m,h1,h2⟩:=hM.live i c hc;exact⟨b,m,by unfold fN;rw[if_neg hn];exact h1,o0 hHb (λ_ h=>.inl h) (λ_ h=>h) (λ_ _=>rfl) (λ_=>rfl) h2⟩
 ·intro i hi;rw[uX l hl]at hi;unfold fN;split at hi
  ·rw[if_pos (by assumption)]
  ·rename_i hn;rw[if_neg hn];exact hM.dead i hi
 ·intro i b m h h0;obtain⟨hn,h'⟩:=hin i b m h;refine⟨(hM.own i b m h' h0).1,?_⟩;rintro(hs| ⟨j,m',hj,hb,h02⟩)
  ·exact(hM.own i b m h' h0).2 hs
  ·have:=hM.inj i j b m m' h' hb h0 h02;subst this;exact hn hj
 ·rintro b (hs| ⟨j,m',hj,hb,h02⟩)
  ·exact hM.st b hs
  ·exact(hM.own j b m' hb h02).1
 ·rintro b (hs| ⟨j,m',hj,hb,h02⟩)
  ·exact .inl hs
  ·exact .inr (.inr ⟨j,m',h02,hb⟩)
theorem ab9(hM:Mem β S D H w){S':Pr}{β':Bt}(hHb:Hb β β' D)(hS:∀b,S b->S' b){v:V}{u:Value}(hg:∀i z o l b m,v= .sl i z o l->β i=some (b,m)->0<m->S' b)(h:den β S w D v u):
 den β' S' w D (v.bw1 H) u:=by
 unfold V.bw1;split
 ·rename_i i z o l;split
  ·rename_i e k n f hc;split
   ·rename_i hle;obtain⟨hle,rfl⟩:=hle;obtain⟨b,m,hb,hr⟩:=hM.live i _ hc;simp only[d7]at hr;obtain⟨h1,h2,h3,hcur⟩:=hr;simp only[den]at h⊢;obtain⟨g1,A,rfl,g2⟩:=h.2 b m hb;by_cases hl0:l=0
    ·subst hl0;exact⟨Nat.zero_le _,A,m-o,⟨0,0,none⟩,λ_=>[],rfl,Nat.zero_le _,λhl=>absurd hl (Nat.lt_irrefl _),λj hj=>absurd hj (Nat.not_lt_zero _)⟩
    have hm0:0<m:=by omega
    obtain⟨cur,h4,h5,h6⟩:=hcur hm0;obtain rfl:=g2 (by omega);have hSb:=hg i z o l b m rfl hb hm0;refine⟨by omega,some ⟨b,o*z,none⟩,m-o,⟨b,o*z,none⟩,λj=>if h:o+j<n then(h6 (o+j) h).choose else[],rfl,by omega,λhl=>⟨rfl,hSb⟩,λj hj=>?_⟩;have hjn:o+j<n:=by omega
    simp only[hjn,dif_pos];obtain⟨q1,q2,q3,q4,q5⟩:=(h6 (o+j) hjn).choose_spec;refine⟨x8 hS (λ_ _=>rfl) _ _ q2 q1,q2,q3,q4,λi x hx=>?_⟩;rw[eU,cell_of_row w b _ _ _ _ h4];have:=q5 i x hx;rw[show o*z+(j*z+i)=(o+j)*z+i by rw[Nat.add_mul];omega];exact this
   ·simp[den]
  ·simp[den]
 ·exact pQ hHb hS (λ_ h=>h) (λ_ _=>rfl) v u h
theorem ay3(hM:Mem β S D H w){S':Pr}{β':Bt}(hHb:Hb β β' D)(hS:∀b,S b->S' b):∀{l:List V} {us:List Value},(∀i b m,(i,none)∈fzU l->β i=some (b,m)->0<m->S' b)->d9 β S w D l us->d9 β' S' w D (fzL H l) us
 | [],us,_,h=>by simpa[fzL,d9]using h
 |v::l,us,hg,h=>by
  simp only[d9]at h;obtain⟨x,xs,rfl,h1,h2⟩:=h;simp only[fzL,List.map_cons,d9];refine⟨x,xs,rfl,ab9 hM hHb hS (λi z o n b m e hb=>hg i b m (by subst e;simp[fzU,nV]) hb) h1,?_⟩;exact ay3 hM hHb hS (λi b m hi hb=>hg i b m (by simp only[fzU,List.flatMap_cons,List.mem_append]at hi⊢;exact .inr hi) hb) h2
end
theorem cn8{get:Hp}{v:V}{k:V->Option Ans}{r:Ans}(h:cx1 get v k=some r):k (v.bw1 get)=some r:=by
 unfold cx1 at h;unfold V.bw1;split at h
 ·split at h
  ·split at h
   ·rename_i hc;obtain⟨h1,rfl⟩:=hc;simp only[*,and_self,if_true]
   ·cases h
  ·cases h
 ·exact h
theorem aj5{get:Hp}:∀{l:List V} {k:List V->Option Ans} {r:Ans},cq1 get l k=some r->k (l.map (·.bw1 get))=some r
 | [],_,_,h=>h
 |v::l,k,_,h=>by
  have h:=cn8 h;exact aj5 (k:=λl=>k (_::l)) h
theorem bg6{get:Hp}:∀{l:List (List V)} {k:List (List V)->Option Ans} {r:Ans},bq9 get l k=some r->k (l.map (fzL get))=some r
 | [],k,r,h=>h
 |l::ls,k,r,h=>by
  have h:=aj5 h;exact bg6 (k:=λls=>k (_::ls)) h
theorem ck7{get:Hp}{v:V}{k:V->Option Ans}{r:Ans}(h:gt6 get v k=some r):k (v.bw2 get)=some r:=by
 unfold gt6 at h;unfold V.bw2;split at h
 ·exact aj5 h
 ·exact cn8 h
theorem bz7{get:Hp}:∀{l:List V} {k:List V->Option Ans} {r:Ans},gj8 get l k=some r->k (l.map (·.bw2 get))=some r
 | [],_,_,h=>h
 |v::l,k,_,h=>by
  have h:=ck7 h;exact bz7 (k:=λl=>k (_::l)) h
theorem cd3{get:Hp}{v:V}{k:V->Option Ans}{r:Ans}(h:bwK get v k=some r):k (v.bw get)=some r:=by
 unfold bwK at h;unfold V.bw;split at h
 ·exact bz7 h
 ·exact ck7 h
theorem ci6{get:Hp}:∀{l:List V} {k:List V->Option Ans} {r:Ans},hg4 get l k=some r->k (l.map (·.bw get))=some r
 | [],_,_,h=>h
 |v::l,k,_,h=>by
  have h:=cd3 h;exact ci6 (k:=λl=>k (_::l)) h
theorem eq2{get:Hp}{y:V}{F:Option (Nat×Nat×(Nat->List V))->Option Ans}{r:Ans}(h:cx1 get y (λy=>F (sB get y))=some r):F (sB get y)=some r:=by
 unfold cx1 at h;split at h
 ·split at h
  ·split at h
   ·rename_i hg hc;simp only[sB,hg,if_pos hc];exact h
   ·cases h
  ·cases h
 ·exact h
theorem ed7(o:Nat):∀(vs:List Value) (j:Nat) (cs:List Value),o+j+vs.length<=cs.length->
 (vs.zipIdx j).foldl (λ(cs:Array Value) (x:Value×Nat)=>cs.setIfInBounds (o+x.2) x.1) cs.toArray=(cs.take (o+j)++vs++cs.drop (o+j+vs.length)).toArray
 | [],j,cs,h=>by simp
 |v::vs,j,cs,h=>by
  simp only[List.zipIdx_cons,List.foldl_cons];have e1:cs.toArray.setIfInBounds (o+j) v=(cs.set (o+j) v).toArray:=by simp
  rw[e1,ed7 o vs (j+1) _ (by simp at h⊢;omega)];congr 1;have hlt:o+j<cs.length:=by simp at h;omega
  rw[show o+(j+1)=o+j+1 by omega,List.take_succ_eq_append_getElem (by simpa using hlt)];simp only[List.getElem_set_self,List.append_assoc,List.cons_append,List.nil_append,List.length_cons];rw[List.take_set_of_le (by omega),List.drop_set_of_lt (by omega)];rw[show o+j+1+vs.length=o+j+(vs.length+1)by omega]
theorem cn6{place:Nat->Option (Nat×Nat)}{cs:List Value}{i o n:Nat}{v:Value}{us:List Value}{rest:List (Nat×Value)}(hp:place i=some (o,n))(hv:v.cells=us.toArray)(hl:us.length=n)(hle:o+n<=cs.length):
 Instr.fill place cs.toArray ((i,v)::rest)=Instr.fill place (cs.take o++us++cs.drop (o+us.length)).toArray rest:=by
 simp only[Instr.fill,hp,hv,List.size_toArray,hl];have c1:¬((decide (n≠n)||decide (o+n>cs.length))=true):=by simp;omega
 rw[if_neg c1];have:=ed7 o us 0 cs (by omega);simp only[Nat.add_zero]at this;rw[hl]at this;subst hl;rw[<-this];simp
section
variable {P:Program} {β:Bt} {S D:Pr} {H:Hp} {w:World}
theorem yD{ev:Operand->V}{a:Act}(hev:∀x,den β S w D (ev x) (a.eval x)){place:Nat->Option (Nat×Nat)}:∀{ps:List (Nat×Operand)} {z cs:List V} {us:List Value},d9 β S w D z us->us.all Value.oneCell'=true->
 au3 P z place ev ps=some cs->∃us':List Value,Instr.fill place us.toArray (ps.map λp=>(p.1,a.eval p.2))=some us'.toArray/\d9 β S w D cs us'/\us'.all Value.oneCell'=true
 | [],z,cs,us,hz,h1,h=>by
  simp only[au3,Option.some.injEq]at h;subst h;exact⟨us,rfl,hz,h1⟩
 | (i,x)::ps,z,cs,us,hz,h1,h=>by
  simp only[au3]at h;split at h
  ·rename_i o n hp;split at h
   ·rename_i hc;obtain⟨hl,hle,ho⟩:=hc;obtain⟨xs,hx1,hx2,hx3⟩:=ae6 ho (hev x);have hlz:=y5 hz;have hlx:=y5 hx2;simp only[List.map_cons];rw[cn6 hp hx1 (by omega) (by omega)];refine yD hev (bX (bX (ah3 o hz) hx2) ?_) ?_ h
    ·rw[hlx];exact pV _ hz
    ·simp only[List.all_append,uK o h1,hx3,mQ _ h1,Bool.and_true]
   ·cases h
  ·cases h
theorem dt4{t:TypeId}{z:List V}(h:bh1 P t=some z):∃y:Value,(zeroValue t).run P w= .ok y w/\z=y.cells.toList.map .sc:=by
 unfold bh1 at h;cases hi:P.info? t with
 |none=>rw[hi]at h;cases h
 |some i=>
  rw[hi]at h;simp only[Option.bind_some,Option.map_eq_some_iff]at h;obtain⟨y,hy,rfl⟩:=h;exact⟨y,by simp[zeroValue,typeInfo,hi,hy],rfl⟩
end
def kY(D:Pr)(new:Nat):Pr:=λi=>D i\/(new<=i/\i<new+j2)
theorem j9(D:Pr)(new:Nat):∀i,D i->kY D new i:=λi h=>.inl h
theorem cS(D:Pr)(new:Nat):kY D new new:=.inr ⟨Nat.le_refl _,by simp[j2]⟩
def X6(β:Bt)(w:World)(us:List (Nat×Option Z1))(w':World):Prop:=∀i b m,β i=some (b,m)->0<m->i∉us.map (·.1)->w'.heap[b]? =w.heap[b]?
theorem X6.refl(β:Bt)(w:World)(us:List (Nat×Option Z1)):X6 β w us w:=λ_ _ _ _ _ _=>rfl
def Ran(P:Program)(o:Oper)(a:Act)(w:World)(u:Value)(w':World):Prop:=
 (execOp a.eval o).run P w= .ok (.value u) w'\/((execOp a.eval o).run P w= .ok .skip w'/\u=undef)
def rH (P : Program) (f : FuncId) : Prop := ∃ fn, P.funcs[f]? = some fn /\ fn.body.isSome = true /\ fn.name ≠ "runtime.NumGoroutine"
def rT(P:Program)(β:Bt)(S D:Pr)(H:Hp)(new:Nat)(o:Oper)(a:Act)(w:World):Res->Prop
 | .val v us=>∃u w' β' S',Ran P o a w u w'/\Mem β' S' (kY D new) (aG H us) w'/\den β' S' w' (kY D new) v u/\Evo β S w β' S' w'/\Hb β β' D/\X6 β w us w'
 | .call f args=>∃us:List Value,(rH P f->(execOp a.eval o).run P w= .ok (.enter f us.toArray) w)/\d9 β S w D args us
 | .dfr f cs=>∃us:List Value,(execOp a.eval o).run P w= .ok (.defer {target:=.fn (.func f) us.toArray,args:=#[]}) w/\us.length=cs.length
 | .pan v us=>us=[]/\∃u,(execOp a.eval o).run P w= .halt (.panic u) w/\v.pure=true/\den β S w D v u
def dO(P:Program)(β:Bt)(S D:Pr)(H:Hp)(new:Nat)(o:Oper)(a:Act)(w:World)(k:KR)(r:Ans):Prop:=∃res,k res=some r/\rT P β S D H new o a w res
section
variable {P:Program} {β:Bt} {S D:Pr} {H:Hp} {w:World} {new:Nat} {o:Oper} {a:Act} {k:KR} {r:Ans}
theorem f9(hM:Mem β S D H w){v:V}{u:Value}(hrun:(execOp a.eval o).run P w= .ok (.value u) w)(hd:den β S w D v u):rT P β S D H new o a w (.val v []):=
 ⟨u,w,β,S,.inl hrun,hM.mono (j9 D new),pQ (λ_ _=>.inl rfl) (λ_ h=>h) (j9 D new) (λ_ _=>rfl) _ _ hd,AA _ _ _,AB _ _,X6.refl _ _ _⟩
theorem xH(hM:Mem β S D H w){s:Sem Value}(hs:execOp a.eval o=(do pure (.value (<-s)):Sem Next))(h:du4 P β S w D k r s):dO P β S D H new o a w k r:=by
 obtain⟨v,hk,y,hy,hd⟩:=h;exact⟨_,hk,f9 hM (by rw[hs];simp[Sem.run_bind,hy]) hd⟩
theorem dX(w:World)(o:Obj):Below w.heap.size w (w.alloc o):=(Below.refl _ _).alloc (Nat.le_refl _) _
theorem dl7(hM:Mem β S D H w)(hn:¬D new){cs:List V}{us:List Value}{T:TypeId}(hd:d9 β S w D cs us)(h1:us.all Value.oneCell'=true)
 (hrun:(execOp a.eval o).run P w= .ok (.value (.pointer (some ⟨w.heap.size,0,none⟩))) (w.alloc (.cells us.toArray T))):
 rT P β S D H new o a w (.val (.ptr new 0) [(new,some (.blk cs))]):=by
 have hb:=dX w (.cells us.toArray T);have hHb:Hb β (upd β new (some (w.heap.size,1))) D:=λi hi=>.inl (aY _ _ (λe=>hn (e▸hi)))
 obtain⟨g1,g2,g3⟩:=hM.new (m:=1) (c:=.blk cs) (b:=w.heap.size) hn (j9 D new) (cS D new) hb (Nat.le_refl _) (λ_=>by show w.heap.size< (w.heap.push _).size;simp) (by
  simp only[d7]
  exact⟨Nat.one_pos,us,T,heap_alloc_new w _,m4 hHb (λ_ h=>h) (j9 D new) (λx hx=>hb.block x (hM.st x hx)) _ _ hd,h1⟩)
 refine⟨_,_,_,_,.inl hrun,g1,?_,g2,g3,λi b m hi h0 _=>hb.block b (hM.own i b m hi h0).1⟩;simp only[den];refine⟨⟨cS D new,rfl⟩,λb m h=>?_⟩;rw[j6]at h;cases h;rfl
theorem fx4(hM:Mem β S D H w)(hn:¬D new){cs:List V}{us:List Value}{T:TypeId}(hd:d9 β S w D cs us)(h1:us.all Value.oneCell'=true)
 (hrun:(execOp a.eval o).run P w= .ok (.value (.pointer (some ⟨w.heap.size,0,none⟩))) (w.alloc (.cells us.toArray T))):
 rT P β S D H new o a w (.val (.ptr new 0) [(new,some (.tbk T cs))]):=by
 have hb:=dX w (.cells us.toArray T);have hHb:Hb β (upd β new (some (w.heap.size,1))) D:=λi hi=>.inl (aY _ _ (λe=>hn (e▸hi)))
 obtain⟨g1,g2,g3⟩:=hM.new (m:=1) (c:=.tbk T cs) (b:=w.heap.size) hn (j9 D new) (cS D new) hb (Nat.le_refl _) (λ_=>by show w.heap.size< (w.heap.push _).size;simp) (by
  simp only[d7]
  exact⟨Nat.one_pos,us,heap_alloc_new w _,m4 hHb (λ_ h=>h) (j9 D new) (λx hx=>hb.block x (hM.st x hx)) _ _ hd,h1⟩)
 refine⟨_,_,_,_,.inl hrun,g1,?_,g2,g3,λi b m hi h0 _=>hb.block b (hM.own i b m hi h0).1⟩;simp only[den];refine⟨⟨cS D new,rfl⟩,λb m h=>?_⟩;rw[j6]at h;cases h;rfl
theorem dv4(hM:Mem β S D H w)(hn:¬D new){t:TypeId}(ho:o.op= .alloc t)(h:au5 P t new k=some r):dO P β S D H new o a w k r:=by
 unfold au5 at h;split at h
 ·rename_i cs hz;obtain⟨y,hy,rfl⟩:=dt4 (w:=w) hz;split at h
  ·rename_i ho1;split at h
   ·refine⟨_,h,fx4 hM hn (kP _) (zN (β:=β) (S:=S) (w:=w) (D:=D) ho1 (kP _)) (T:=t) ?_⟩;simp only[execOp,ho,Instr.alloc,Sem.run_bind,hy,newVar,newRow,newObj,Sem.run,Result.andThen_ok,Sem.run_pure,World.alloc,Array.toArray_toList]
   ·refine⟨_,h,dl7 hM hn (kP _) (zN (β:=β) (S:=S) (w:=w) (D:=D) ho1 (kP _)) (T:=t) ?_⟩;simp only[execOp,ho,Instr.alloc,Sem.run_bind,hy,newVar,newRow,newObj,Sem.run,Result.andThen_ok,Sem.run_pure,World.alloc,Array.toArray_toList]
  ·cases h
 ·cases h
theorem fk3(hM:Mem β S D H w)(hn:¬D new){t:TypeId}{x:Operand}{v:V}(ho:o.op= .box t x)(hx:den β S w D v (a.eval x))(h:eg2 v new k=some r):dO P β S D H new o a w k r:=by
 unfold eg2 at h;split at h
 ·rename_i h1;obtain⟨us,e1,e2,e3⟩:=ae6 h1 hx;refine⟨_,h,dl7 hM hn e2 e3 (T:=t) ?_⟩;simp only[execOp,ho,Instr.box,Sem.run_bind,newVar,newRow,newObj,Sem.run,Result.andThen_ok,Sem.run_pure,World.alloc,e1]
 ·cases h
end
theorem de3{us:List Value}(h:us.all Value.oneCell'=true):∀v∈us,v.oneCell'=true:=by simpa[List.all_eq_true]using h
section
variable {P:Program} {β:Bt} {S D:Pr} {H:Hp} {w:World} {new:Nat} {o:Oper} {a:Act} {k:KR} {r:Ans}
theorem ar6{l l':List V}:n4 (l++l')=(n4 l&&n4 l'):=by
 rw[Bool.eq_iff_iff];simp only[Bool.and_eq_true,pureL_all,List.mem_append];exact⟨λh=>⟨λv hv=>h v (.inl hv),λv hv=>h v (.inr hv)⟩,λh v hv=>hv.elim (h.1 v) (h.2 v)⟩
theorem es9{l:List V}(n:Nat)(h:n4 l=true):n4 (l.take n)=true:=pureL_all.2 λv hv=>pureL_all.1 h v (List.mem_of_mem_take hv)
theorem sS{T T':TypeId}{n b p:Nat}{cur:Array Value}{us:List Value}{v:Value}(hsz:szP P T=some n)(hv:v.cells=us.toArray)(hl:us.length=n)(h1:us.all Value.oneCell'=true)
 (hb:w.heap[b]? =some (.cells cur T' (0,0))) (hle:p+n<=cur.size):
 (Instr.storeAt T (.pointer (some ⟨b,p,none⟩)) v).run P w= .ok () (w.setRow b (cur.toList.take p++us++cur.toList.drop (p+us.length)).toArray):=by
 have hrun:=run_storeCells_at (P:=P) b p T' us 0 cur w hb (by omega) (de3 h1);simp only[Nat.add_zero]at hrun;simp only[Instr.storeAt,Instr.sureAddr,storeVar,Sem.run_bind,Sem.run_pure,Result.andThen_ok,jT hsz,hv];simp[hl,hrun]
theorem wZ(w:World)(b:Nat)(cs:Array Value):w.grownBy (w.setRow b cs) (some b):=
 ⟨rfl,rfl,rfl,by simp[World.setRow],λi _ hi=>setRow_other w b i cs (λe=>hi (by rw[e]))⟩
theorem al1{cs vs:List V}{us xs:List Value}{p:Nat}(h:d9 β S w D cs us)(hv:d9 β S w D vs xs):d9 β S w D (nP cs p vs) (us.take p++xs++us.drop (p+xs.length)):=by
 unfold nP;rw[y5 hv];exact bX (bX (ah3 p h) hv) (pV _ h)
theorem dp1{pb:Bool}(hM:Mem β S D H w){t:TypeId}{x y:Operand}{vx vy:V}(ho:o.op= .store t x y)(hx:den β S w D vx (a.eval x))(hy:den β S w D vy (a.eval y))
 (h:as2 P pb t vx vy H k=some r):dO P β S D H new o a w k r:=by
 unfold as2 at h;simp only[rD,gw6]at h;split at h
 ·rename_i n hn;split at h
  ·rename_i hc;obtain⟨hl,h1⟩:=hc;obtain⟨xs,e1,e2,e3⟩:=ae6 h1 hy;have hlx:=y5 e2;split at h
   ·rename_i i p;split at h
    ·rename_i cs hi;split at h
     ·rename_i hle;obtain⟨b,m,hb,hr⟩:=hM.live i _ hi;simp only[d7]at hr;obtain⟨hm0,us,T,g1,g2,g3⟩:=hr;have hlu:=y5 g2;simp only[den]at hx;have hu:=hx.2 b m hb;have hrun:=sS (w:=w) hn e1 (by omega) e3 g1 (p:=p) (by simp;omega);have hg:=wZ w b (us.take p++xs++us.drop (p+xs.length)).toArray;have hk:Y4 S w (w.setRow b (us.take p++xs++us.drop (p+xs.length)).toArray):=λy hy=>hg.block y (hM.st y hy) (λe=>by cases e;exact(hM.own i b m hb hm0).2 hy)
      obtain⟨q1,q2⟩:=hM.put (c':=.blk (nP cs p vy.cells)) hi hb hm0 hg (by
       simp only[d7];refine⟨hm0,_,T,setRow_heap w b us.toArray _ T (0,0) g1,?_,?_⟩
       ·exact m4 (λ_ _=>.inl rfl) (λ_ hh=>hh) (λ_ hh=>hh) hk _ _ (al1 g2 e2)
       ·simp only[List.all_append,uK p g3,e3,mQ _ g3,Bool.and_true])
      refine⟨_,h,undef,_,β,S,.inr ⟨?_,rfl⟩,q1.mono (j9 D new),by simp[den],q2,AB _ _,λi' b' m' hi' h0 hn'=>hg.block b' (hM.own i' b' m' hi' h0).1 (λe=>by cases e;exact hn' (by have:=hM.inj i' i _ _ _ hi' hb h0 hm0;simp[this]))⟩;simp only[execOp,ho,hu,Sem.run_bind,hrun,Result.andThen_ok,Sem.run_pure]
     ·cases h
    ·rename_i T cs hi;split at h
     ·rename_i hle;obtain⟨b,m,hb,hr⟩:=hM.live i _ hi;simp only[d7]at hr;obtain⟨hm0,us,g1,g2,g3⟩:=hr;have hlu:=y5 g2;simp only[den]at hx;have hu:=hx.2 b m hb;have hrun:=sS (w:=w) hn e1 (by omega) e3 g1 (p:=p) (by simp;omega);have hg:=wZ w b (us.take p++xs++us.drop (p+xs.length)).toArray;have hk:Y4 S w (w.setRow b (us.take p++xs++us.drop (p+xs.length)).toArray):=λy hy=>hg.block y (hM.st y hy) (λe=>by cases e;exact(hM.own i b m hb hm0).2 hy)
      obtain⟨q1,q2⟩:=hM.put (c':=.tbk T (nP cs p vy.cells)) hi hb hm0 hg (by
       simp only[d7];refine⟨hm0,_,setRow_heap w b us.toArray _ T (0,0) g1,?_,?_⟩
       ·exact m4 (λ_ _=>.inl rfl) (λ_ hh=>hh) (λ_ hh=>hh) hk _ _ (al1 g2 e2)
       ·simp only[List.all_append,uK p g3,e3,mQ _ g3,Bool.and_true])
      refine⟨_,h,undef,_,β,S,.inr ⟨?_,rfl⟩,q1.mono (j9 D new),by simp[den],q2,AB _ _,λi' b' m' hi' h0 hn'=>hg.block b' (hM.own i' b' m' hi' h0).1 (λe=>by cases e;exact hn' (by have:=hM.inj i' i _ _ _ hi' hb h0 hm0;simp[this]))⟩;simp only[execOp,ho,hu,Sem.run_bind,hrun,Result.andThen_ok,Sem.run_pure]
     ·cases h
    ·cases h
   ·rename_i i z j p;split at h
    ·rename_i e kk m f hi;split at h
     ·rename_i hjm;obtain⟨hj,rfl⟩:=hjm;split at h
      ·rename_i hc;obtain⟨hle,hp,hne⟩:=hc;obtain⟨b,M,hb,hr⟩:=hM.live i _ hi;obtain⟨d1,d2,d3⟩:=hM.drop (fzU vy.cells) (bp3 _)
       have hni:i∉(fzU vy.cells).map (·.1):=by
        intro hm;simp only[List.mem_map]at hm;obtain⟨u,hu,rfl⟩:=hm;rw[List.all_eq_true]at hne;have:=hne u hu;simp at this
       have hfz:=ay3 hM d3 (S':=bf8 β S ((fzU vy.cells).map (·.1))) (λ_ h=>.inl h) (l:=vy.cells) (λi' b' m' hi' hb' h0=>.inr ⟨i',m',List.mem_map.2 ⟨_,hi',rfl⟩,hb',h0⟩) e2;have hi':aG H (fzU vy.cells) i=some (.row e z m f):=by rw[uX _ (bp3 _),if_neg hni];exact hi
       have hb':fN β ((fzU vy.cells).map (·.1)) i=some (b,M):=by unfold fN;rw[if_neg hni];exact hb
       simp only[d7]at hr;obtain⟨c1,c2,c3,hcur⟩:=hr;have hM0:0<M:=by omega
       obtain⟨cur,c4,c5,c6⟩:=hcur hM0;obtain⟨us,g1,g2,g3,g4,g5⟩:=c6 j hj;have hlf:=y5 g1;simp only[den]at hx;have hu:=hx.2 b M hb;have hjz:(j+1)*z<=M*z:=Nat.mul_le_mul_right z (by omega);rw[Nat.add_mul]at hjz;have hrun:=sS (w:=w) hn e1 (by omega) e3 c4 (p:=j*z+p) (by omega);have hg:=wZ w b (cur.toList.take (j*z+p)++xs++cur.toList.drop (j*z+p+xs.length)).toArray;have hk:Y4 (bf8 β S ((fzU vy.cells).map (·.1))) w (w.setRow b (cur.toList.take (j*z+p)++xs++cur.toList.drop (j*z+p+xs.length)).toArray):=λy hy=>hg.block y (d1.st y hy) (λe=>by cases e;exact(d1.own i b M hb' hM0).2 hy)
       obtain⟨q1,q2⟩:=d1.put (c':=.row e z m (λh=>if h=j then nP (f j) p (fzL H vy.cells)else f h)) hi' hb' hM0 hg (by
        simp only[d7];refine⟨c1,c2,c3,λ_=>⟨_,setRow_heap w b cur _ e (0,0) c4,by simp;omega,?_⟩⟩;intro g0 hg0;by_cases hhj:g0=j
        ·subst hhj;simp only[if_true];have hlz:=y5 hfz;refine⟨us.take p++xs++us.drop (p+xs.length),?_,?_,?_,?_,?_⟩
         ·exact m4 (λ_ _=>.inl rfl) (λ_ hh=>hh) (λ_ hh=>hh) hk _ _ (al1 (x8 (λ_ hh=>.inl hh) (λ_ _=>rfl) _ _ g2 g1) hfz)
         ·unfold nP;rw[ar6,ar6,es9 _ g2,hp,aj8 _ g2];rfl
         ·simp;omega
         ·simp only[List.all_append,uK p g4,e3,mQ _ g4,Bool.and_true]
         ·intro q y hy
          have hql:q<z:=by
           have:=(List.getElem?_eq_some_iff.1 hy).1;simp at this;omega
          simp only[List.getElem?_toArray];rw[List.append_assoc,List.getElem?_append]at hy⊢;have ht1:(us.take p).length=p:=by simp;omega
          have ht2:(cur.toList.take (g0*z+p)).length=g0*z+p:=by simp;omega
          rw[ht1]at hy;rw[ht2];by_cases hqp:q<p
          ·rw[if_pos hqp]at hy;rw[if_pos (by omega),List.getElem?_take,if_pos (by omega)];rw[List.getElem?_take,if_pos hqp]at hy;simpa using g5 q y hy
          ·rw[if_neg hqp]at hy;rw[if_neg (by omega),show g0*z+q-(g0*z+p)=q-p by omega];rw[List.getElem?_append]at hy⊢;by_cases hqx:q-p<xs.length
           ·rw[if_pos hqx]at hy⊢;exact hy
           ·rw[if_neg hqx]at hy⊢;rw[List.getElem?_drop]at hy⊢;rw[show p+xs.length+(q-p-xs.length)=q by omega]at hy;rw[show g0*z+p+xs.length+(q-p-xs.length)=g0*z+q by omega];simpa using g5 q y hy
        ·simp only[if_neg hhj];obtain⟨us',r1,r2,r3,r4,r5⟩:=c6 g0 hg0;refine⟨us',x8 (λx hx=>.inl hx) (λy hy=>hk y (.inl hy)) _ _ r2 r1,r2,r3,r4,λq y hy=>?_⟩;have hql:q<z:=by have:=(List.getElem?_eq_some_iff.1 hy).1;omega
         have hrow:=r5 q y hy;simp only[List.getElem?_toArray];rw[List.append_assoc,List.getElem?_append];have ht2:(cur.toList.take (j*z+p)).length=j*z+p:=by simp;omega
         rw[ht2];rcases Nat.lt_or_ge g0 j with hlt|hge
         ·have:(g0+1)*z<=j*z:=Nat.mul_le_mul_right z (by omega);rw[Nat.add_mul]at this;rw[if_pos (by omega),List.getElem?_take,if_pos (by omega)];simpa using hrow
         ·have:(j+1)*z<=g0*z:=Nat.mul_le_mul_right z (by omega);rw[Nat.add_mul]at this;rw[if_neg (by omega),List.getElem?_append,if_neg (by omega),List.getElem?_drop,show j*z+p+xs.length+(g0*z+q-(j*z+p)-xs.length)=g0*z+q by omega]
          simpa using hrow)
       refine⟨_,h,undef,_,_,_,.inr ⟨?_,rfl⟩,?_,by simp[den],d2.trans q2,d3,λi' b' m' hi' h0 hn'=>hg.block b' (hM.own i' b' m' hi' h0).1 (λe=>by cases e;exact hn' (by have:=hM.inj i' i _ _ _ hi' hb h0 hM0;simp[this]))⟩
       ·simp only[execOp,ho,hu,Sem.run_bind,hrun,Result.andThen_ok,Sem.run_pure]
       ·rw[mI];exact q1.mono (j9 D new)
      ·cases h
     ·cases h
    ·cases h
   ·cases h
  ·cases h
 ·cases h
end
theorem aa6{α:Type}{k:Nat}:∀{vss:List (List α)},(∀vs∈vss,vs.length=k)->vss.flatten.length=vss.length*k
 | [],_=>by simp
 |v::vss,h=>by rw[List.flatten_cons,List.length_append,h v (.head _),aa6 (λx hx=>h x (.tail _ hx)),List.length_cons,Nat.add_mul];omega
theorem zT{α:Type}{k:Nat}:∀{vss:List (List α)},(∀vs∈vss,vs.length=k)->∀(j:Nat) (vs:List α),vss[j]? =some vs->∀i,i<k->vss.flatten[j*k+i]? =vs[i]?
 | [],_,j,vs,h,_,_=>by simp at h
 |v::vss,hk,j,vs,h,i,hi=>by
  have hv:=hk v (.head _);rw[List.flatten_cons,List.getElem?_append];cases j with
  |zero=>
   simp only[List.getElem?_cons_zero,Option.some.injEq]at h;subst h;rw[Nat.zero_mul,Nat.zero_add,if_pos (by omega)]
  |succ j=>
   rw[if_neg (by rw[Nat.add_mul];omega),hv,show(j+1)*k+i-k=j*k+i by rw[Nat.add_mul];omega];exact zT (λx hx=>hk x (.tail _ hx)) j vs (by simpa using h) i hi
theorem cb0(k:Nat):∀(ps:List (Nat×Value)) (vss:List (List Value)) (j:Nat) (pre post:List Value),vss.length=ps.length->(∀vs∈vss,vs.length=k)->pre.length=j*k->post.length=ps.length*k->
 (∀i p,ps[i]? =some p->p.1=j+i/\∃vs,vss[i]? =some vs/\p.2.cells=vs.toArray)->Instr.fill (λi=>some (i*k,k)) (pre++post).toArray ps=some (pre++vss.flatten).toArray
 | [],vss,j,pre,post,h1,_,_,h4,_=>by
  have:vss=[]:=List.eq_nil_of_length_eq_zero h1;subst this;have:post=[]:=List.eq_nil_of_length_eq_zero (by simpa using h4);subst this;simp[Instr.fill]
 | (i,v)::ps,vss,j,pre,post,h1,h2,h3,h4,h5=>by
  cases vss with
  |nil=>simp at h1
  |cons vs vss=>
   obtain⟨e1,u,e2,e3⟩:=h5 0 (i,v) rfl;simp only[List.getElem?_cons_zero,Option.some.injEq]at e2;subst e2;simp only[Nat.add_zero]at e1 e3;subst e1;have hl:=h2 vs (.head _);have h4':post.length=ps.length*k+k:=by rw[h4,List.length_cons,Nat.add_mul];omega
   rw[cn6 (o:=i*k) (n:=k) rfl e3 hl (by rw[List.length_append];omega)];rw[List.take_left' h3,List.drop_append,List.drop_of_length_le (by omega),List.nil_append,show i*k+vs.length-pre.length=k by omega]
   rw[cb0 k ps vss (i+1) (pre++vs) (post.drop k) (by simpa using h1) (λx hx=>h2 x (.tail _ hx)) (by rw[List.length_append,h3,hl,Nat.add_mul];omega) (by rw[List.length_drop];omega)
    (λi' p' hp'=>by
     obtain⟨g1,u',g2,g3⟩:=h5 (i'+1) p' (by simpa using hp')
     exact⟨by omega,u',by simpa using g2,g3⟩)]
   simp
section
variable {P:Program} {β:Bt} {S D:Pr} {H:Hp} {w:World} {new:Nat} {o:Oper} {a:Act} {k:KR} {r:Ans}
theorem al2{c n:Nat}{f:Nat->List V}(h:at5 c n f=true)(j:Nat)(hj:j<n):(f j).length=c/\n4 (f j)=true/\(f j).all V.one=true:=by
 unfold at5 at h;rw[List.all_eq_true]at h;have:=h j (by simpa using hj);simp only[Bool.and_eq_true,beq_iff_eq]at this;exact⟨this.1.1,this.1.2,this.2⟩
theorem bz2(hM:Mem β S D H w)(hn:¬D new){e c n m:Nat}{f:Nat->List V}{cur:Array Value}{w':World}{b:Nat}(hc:0<c)(hnm:n<=m)(hm:m<=maxLen)(hs:cur.size=m*c)(hev:Below w.heap.size w w')(hb:w.heap.size<=b)(hb':b<w'.heap.size)
 (hh:w'.heap[b]? =some (.cells cur e (0,0))) (hrow:bg8 β S w D c n f cur)
 (hrun:(execOp a.eval o).run P w= .ok (.value (.slice (some ⟨b,0,none⟩) n m)) w'):rT P β S D H new o a w (.val (.sl new c 0 n) [(new,some (.row e c n f))]):=by
 obtain⟨g1,g2,g3⟩:=hM.new (m:=m) (c:=.row e c n f) (b:=b) hn (j9 D new) (cS D new) hev hb (λ_=>hb') (by
  simp only[d7]
  exact⟨hnm,hm,hc,λ_=>⟨cur,hh,hs,rS (λ_ h=>h) (λx hx=>hev.block x (hM.st x hx)) hrow⟩⟩)
 refine⟨_,_,_,_,.inl hrun,g1,?_,g2,g3,λi b' m' hi h0 _=>hev.block b' (hM.own i b' m' hi h0).1⟩;simp only[den];refine⟨⟨cS D new,rfl⟩,λb' m' h=>?_⟩;rw[j6]at h;cases h;exact⟨by omega,some ⟨b,0,none⟩,rfl,λ_=>by simp⟩
theorem bi2(hM:Mem β S D H w)(hn:¬D new){t:TypeId}{x y:Operand}{vx vy:V}(ho:o.op= .makeSlice t x y)(hx:den β S w D vx (a.eval x))(hy:den β S w D vy (a.eval y))
 (h:oL P t vx vy new k=some r):dO P β S D H new o a w k r:=by
 unfold oL at h;split at h
 ·rename_i n m hnx hny;obtain⟨kx,hx'⟩:=nJ hx hnx;obtain⟨ky,hy'⟩:=nJ hy hny;split at h
  ·rename_i e he;split at h
   ·rename_i c z by_ hc hz hby;split at h
    ·rename_i hcond;obtain⟨rfl,h0,hc0,hzl,hbytes,hmax,hok⟩:=hcond;obtain⟨q,rfl⟩:=Int.eq_ofNat_of_zero_le h0;simp only[Int.toNat_natCast]at hbytes hmax h;cases hi:P.info? e with
     |none=>simp[szP,hi]at hc
     |some i=>
      have hc1:i.size=c:=by simpa[szP,hi]using hc
      have hb1:i.bytes=by_:=by simpa[ct5,hi]using hby
      simp only[bh1,hi,Option.bind_some,Option.map_eq_some_iff]at hz;obtain⟨zv,hzv,rfl⟩:=hz;have hzs:zv.cells.size=c:=by simpa using hzl
      unfold maxLen at hmax;have hrun:=run_make (P:=P) w t e i zv (n6 he) hi hzv kx ky (q:Int) (q:Int) (by omega) (Int.le_refl _) (by rw[hb1,<-Int.natCast_mul,Nat.mul_comm];omega) (by omega);simp only[Int.toNat_natCast,hc1]at hrun;refine⟨_,h,bz2 hM hn (m:=q) (cur:=madeCells zv.cells (q*c)) (b:=w.heap.size) hc0 (Nat.le_refl _) (by unfold maxLen;omega) (size_madeCells _ _) (dX w _) (Nat.le_refl _) (by show w.heap.size< (w.heap.push _).size;simp) (heap_alloc_new w _) ?_ ?_⟩
      ·intro j hj;obtain⟨_,o2,o3⟩:=al2 hok 0 (by omega);refine⟨zv.cells.toList,kP _,o2,by simpa using hzs,zN (β:=β) (S:=S) (w:=w) (D:=D) o3 (kP _),λi x hx=>?_⟩;have hil:i<c:=by have:=(List.getElem?_eq_some_iff.1 hx).1;simp at this;omega
       have hlt:j*c+i<q*c:=by
        have:(j+1)*c<=q*c:=Nat.mul_le_mul_right c (by omega);rw[Nat.add_mul]at this;omega
       have hi':i<zv.cells.size:=by omega
       have hmd:(j*c+i)%c=i:=by rw[Nat.mul_comm,Nat.mul_add_mod];exact Nat.mod_eq_of_lt hil
       rw[Array.getElem?_eq_getElem (by rw[size_madeCells];exact hlt)];simp only[madeCells,Array.getElem_map,Array.getElem_range,hzs,hmd];rw[getElem!_pos zv.cells i hi'];rw[List.getElem?_eq_getElem (by simpa using hi')]at hx;simpa using hx
      ·simp only[execOp,ho,hx',hy',Sem.run_bind,hrun,Result.andThen_ok,Sem.run_pure]
    ·cases h
   ·cases h
  ·cases h
 ·cases h
end
theorem dm8{c n:Nat}{f g:Nat->List V}(h:∀i,i<n->f i=g i):at5 c n f=at5 c n g:=by
 unfold at5;rw[Bool.eq_iff_iff,List.all_eq_true,List.all_eq_true];exact⟨λk x hx=>by rw[<-h x (List.mem_range.1 hx)];exact k x hx,λk x hx=>by rw[h x (List.mem_range.1 hx)];exact k x hx⟩
theorem hd0{l:List V}{i:Nat}:(i,(none:Option Z1))∈fzU l↔∃v∈l,(i,(none:Option Z1))∈nV v:=by simp[fzU]
section
variable {P:Program} {β:Bt} {S D:Pr} {H:Hp} {w:World} {new:Nat} {o:Oper} {a:Act} {k:KR} {r:Ans}
theorem az1 {pr : Bool} (hM : Mem β S D H w) (hn : ¬ D new) {ev : Operand -> V} (hev : ∀ x, den β S w D (ev x) (a.eval x)) {t : TypeId} {n : Nat} {ps : Array (Nat × Operand)} (ho : o.op = .buildSlice t n ps)
 (h : iE P pr t n ps.toList ev H new k = some r) : dO P β S D H new o a w k r := by
 unfold iE at h;split at h
 ·rename_i e he;split at h
  ·rename_i c hc
   replace h := bg6 h
   rw [List.map_map] at h
   have hcg : at5 c n (λi => ((List.range n).map (fzL H ∘ λi => kQ ev ps.toList i)).getD i []) = at5 c n (λi => fzL H (kQ ev ps.toList i)) := dm8 λi hi => by
    rw [List.getD_eq_getElem?_getD, List.getElem?_map, List.getElem?_range hi]; rfl
   rw [hcg] at h;split at h
   ·rename_i hcond;obtain ⟨hok, hone, hc0, hnc, hps, hz⟩ := hcond;simp only [ey0] at h
    replace h : k (.val (.sl new c 0 n) (fzU (ps.toList.flatMap λp => (ev p.2).cells) ++ [(new, some (.row e c n (ge4 pr ((List.range n).map λi => fzL H (kQ ev ps.toList i)))))])) = some r := h
    obtain ⟨z, hz⟩ := Option.isSome_iff_exists.1 hz;obtain ⟨y, hy, rfl⟩ := dt4 (w := w) hz;have hpl : ps.toList.length = n := by have := congrArg List.length hps; simpa using this
    -- the cells of the parts
    have hcells : ∀ p ∈ ps.toList, ∃ us : List Value, (a.eval p.2).cells = us.toArray /\ d9 β S w D (ev p.2).cells us /\ us.all Value.oneCell' = true := λp hp => ae6 (by rw [List.all_eq_true] at hone; exact hone p hp) (hev p.2)
    have hus : ∀ p : Nat × Operand, ∃ us : List Value, p ∈ ps.toList -> (a.eval p.2).cells = us.toArray /\ d9 β S w D (ev p.2).cells us /\ us.all Value.oneCell' = true := λp => by
     by_cases hp : p ∈ ps.toList
     ·obtain ⟨us, hu⟩ := hcells p hp; exact ⟨us, λ_ => hu⟩
     ·exact ⟨[], λh => absurd h hp⟩
    let g : Nat × Operand -> List Value := λp => (hus p).choose
    have hg : ∀ p ∈ ps.toList, (a.eval p.2).cells = (g p).toArray /\ d9 β S w D (ev p.2).cells (g p) /\ (g p).all Value.oneCell' = true := λp hp => (hus p).choose_spec hp
    -- given up
    obtain ⟨d1, d2, d3⟩ := hM.drop (fzU (ps.toList.flatMap λp => (ev p.2).cells)) (bp3 _)
    have hfz : ∀ p ∈ ps.toList, d9 (fN β ((fzU (ps.toList.flatMap λp => (ev p.2).cells)).map (·.1))) (bf8 β S ((fzU (ps.toList.flatMap λp => (ev p.2).cells)).map (·.1))) w D (fzL H (ev p.2).cells) (g p) := λp hp =>
     ay3 hM d3 (λ_ h => .inl h) (λi b m hi hb h0 => .inr ⟨i, m, List.mem_map.2 ⟨_, by
      rw [hd0] at hi ⊢;obtain ⟨v, hv, hg⟩ := hi
      exact ⟨v, List.mem_flatMap.2 ⟨p, hp, hv⟩, hg⟩, rfl⟩, hb, h0⟩) (hg p hp).2.1
    have hgl : ∀ (j : Nat) (p : Nat × Operand), ps.toList[j]? = some p -> (g p).length = c /\ n4 (fzL H (ev p.2).cells) = true := λj p hj => by
     have hjn : j < n := by rw [<- hpl]; exact (List.getElem?_eq_some_iff.1 hj).1
     obtain ⟨q1, q2, _⟩ := al2 hok j hjn;simp only [kQ, hj] at q1 q2;refine ⟨?_, q2⟩;have := y5 (hg p (List.mem_of_getElem? hj)).2.1;rw [<- this];simpa [fzL] using q1
    have hrun : (execOp a.eval o).run P w = .ok (.value (.slice (some ⟨w.heap.size, 0, none⟩) n n)) (w.alloc (.cells ((ps.toList.map g).flatten).toArray e)) := by
     have hm : (ps.map λ(i, x) => (i, a.eval x) : Array (Nat × Value)).toList = ps.toList.map λp => (p.1, a.eval p.2) := by simp
     have hsz : ¬ (n * c > 2 ^ 24) := by omega
     have hfill : ∀ cs : Array Value, cs.size = n * c -> Instr.fill (λi => some (i * c, c)) cs (ps.toList.map λp => (p.1, a.eval p.2)) = some ((ps.toList.map g).flatten).toArray := by
      intro cs hcs;obtain ⟨cl⟩ := cs
      have := cb0 c (ps.toList.map λp => (p.1, a.eval p.2)) (ps.toList.map g) 0 [] cl (by simp) (λvs hvs => by
       obtain ⟨p, hp, rfl⟩ := List.mem_map.1 hvs;obtain ⟨j, hj⟩ := List.getElem?_of_mem hp
       exact (hgl j p hj).1) (by simp) (by simpa [hpl] using hcs) (λi p hp => by
       rw [List.getElem?_map] at hp;cases hq : ps.toList[i]? with
       | none => rw [hq] at hp; cases hp
       | some q =>
        rw [hq] at hp;simp only [Option.map_some, Option.some.injEq] at hp;subst hp;refine ⟨?_, g q, by rw [List.getElem?_map, hq]; rfl, (hg q (List.mem_of_getElem? hq)).1⟩;have hin : i < n := by rw [<- hpl]; exact (List.getElem?_eq_some_iff.1 hq).1
        have := congrArg (λl => l[i]?) hps;simp only [List.getElem?_map, hq, Option.map_some] at this;rw [List.getElem?_range hin] at this;simp only [Option.some.injEq] at this;simp only [Nat.zero_add]
        exact this)
      simpa using this
     by_cases hk0 : n * c = 0
     ·simp only [execOp, ho, Instr.buildSlice, Sem.run_bind, run_underlying (n6 he), Result.andThen_ok, jT hc, hk0, gt_iff_lt, Nat.not_lt_zero, if_false, if_true, Sem.run_pure];rw [hm, hfill _ (by simp [hk0])];simp only [newRow, newObj, Sem.run_bind, Sem.run, Result.andThen_ok, Sem.run_pure, World.alloc]
     ·simp only [execOp, ho, Instr.buildSlice, Sem.run_bind, run_underlying (n6 he), Result.andThen_ok, jT hc, hsz, hk0, if_false, hy, Sem.run_pure];rw [hm, hfill _ (by simp)];simp only [newRow, newObj, Sem.run_bind, Sem.run, Result.andThen_ok, Sem.run_pure, World.alloc]
    have hnm : n <= maxLen := by have := Nat.le_mul_of_pos_right n hc0; simp only [maxLen]; omega
    have hflat : ∀ vs ∈ ps.toList.map g, vs.length = c := λvs hvs => by
     obtain ⟨p, hp, rfl⟩ := List.mem_map.1 hvs;obtain ⟨j, hj⟩ := List.getElem?_of_mem hp;exact (hgl j p hj).1
    have hrow : bg8 (fN β ((fzU (ps.toList.flatMap λp => (ev p.2).cells)).map (·.1))) (bf8 β S ((fzU (ps.toList.flatMap λp => (ev p.2).cells)).map (·.1))) w D c n (λi => fzL H (kQ ev ps.toList i)) ((ps.toList.map g).flatten).toArray := by
     intro j hj;have hjl : j < ps.toList.length := by omega
     have hq : ps.toList[j]? = some ps.toList[j] := List.getElem?_eq_getElem hjl;have hmem := List.mem_of_getElem? hq;refine ⟨g ps.toList[j], ?_, ?_, (hgl j _ hq).1, (hg _ hmem).2.2, λi x hx => ?_⟩
     ·simp only [kQ, hq]; exact hfz _ hmem
     ·simp only [kQ, hq]; exact (hgl j _ hq).2
     ·have hic : i < c := by rw [<- (hgl j _ hq).1]; exact (List.getElem?_eq_some_iff.1 hx).1
      rw [List.getElem?_toArray, zT hflat j (g ps.toList[j]) (by rw [List.getElem?_map, hq]; rfl) i hic];exact hx
    have hsel : ∀ j, j < n -> ge4 pr ((List.range n).map λi => fzL H (kQ ev ps.toList i)) j = fzL H (kQ ev ps.toList j) := by
     intro j hj;rw [ha1 (c := c) (by simpa using hj) (λx hx => ?_)]
     ·simp [List.getD, List.getElem?_range hj]
     ·obtain ⟨i, hi, rfl⟩ := List.mem_map.1 hx;exact (al2 hok i (by simpa using hi)).1
    replace hrow : bg8 (fN β ((fzU (ps.toList.flatMap λp => (ev p.2).cells)).map (·.1))) (bf8 β S ((fzU (ps.toList.flatMap λp => (ev p.2).cells)).map (·.1))) w D c n (ge4 pr ((List.range n).map λi => fzL H (kQ ev ps.toList i))) ((ps.toList.map g).flatten).toArray := λj hj => by rw [hsel j hj]; exact hrow j hj
    obtain ⟨u, w', β', S', q1, q2, q3, q4, q5, q6⟩ := bz2 (o := o) (a := a) (new := new) d1 hn (e := e) (m := n) (b := w.heap.size) hc0 (Nat.le_refl _) hnm (by rw [List.size_toArray, aa6 hflat]; simp [hpl]) (dX w _) (Nat.le_refl _) (by show w.heap.size < (w.heap.push _).size; simp) (heap_alloc_new w _) hrow hrun;refine ⟨_, h, u, w', β', S', q1, ?_, q3, d2.trans q4, d3.trans (λ_ h => h) q5, λi b m hi h0 hni => ?_⟩
    rotate_left
    ·have hnd : i ∉ (fzU (ps.toList.flatMap λp => (ev p.2).cells)).map (·.1) := λhm => hni (by rw [List.map_append]; exact List.mem_append_left _ hm);exact q6 i b m (by unfold fN; rw [if_neg hnd]; exact hi) h0 (λhm => hni (by rw [List.map_append]; exact List.mem_append_right _ hm))
    rw [mI];exact q2
   ·cases h
  ·cases h
 ·cases h
theorem ee9(hM:Mem β S D H w)(hn:¬D new){t:TypeId}{x:Operand}{s:ByteArray}(ho:o.op= .range t x)(hu:eV P t=true)(hx:den β S w D (.sc (.string s)) (a.eval x)):
 rT P β S D H new o a w (.val (.ptr new 0) [(new,some (.iter s 0))]):=by
 simp only[den]at hx
 have hu':P.underlying t=some .string:=by
  unfold eV at hu;split at hu
  ·assumption
  ·cases hu
 have hrun:=run_range_string (P:=P) w t s hu'
 obtain⟨g1,g2,g3⟩:=hM.new (m:=1) (c:=.iter s 0) (b:=w.heap.size) (w':=w.alloc (.stringIter s 0)) hn (j9 D new) (cS D new) (dX w _) (Nat.le_refl _) (λ_=>by show w.heap.size< (w.heap.push _).size;simp) (by
  simp only[d7]
  exact⟨Nat.one_pos,heap_alloc_new w _⟩)
 refine⟨_,_,_,_,.inl (by simp only[execOp,ho,hx,Sem.run_bind,hrun,Result.andThen_ok,Sem.run_pure];rfl),g1,?_,g2,g3,λi b m hi h0 _=>(dX w _).block b (hM.own i b m hi h0).1⟩;simp only[den];refine⟨⟨cS D new,rfl⟩,λb m h=>?_⟩;rw[j6]at h;cases h;rfl
theorem ek9(hM:Mem β S D H w){x:Operand}{v:V}(ho:o.op= .next x true)(hx:den β S w D v (a.eval x))(h:bl8 v H k=some r):dO P β S D H new o a w k r:=by
 unfold bl8 at h;split at h
 ·rename_i i p;split at h
  ·rename_i s q hi;split at h
   ·rename_i hp;subst hp;obtain⟨b,m,hb,hr⟩:=hM.live i _ hi;simp only[d7]at hr;obtain⟨hm0,hr⟩:=hr;simp only[den]at hx;have hu:=hx.2 b m hb;split at h
    ·rename_i hq;have hlt:=(hM.own i b m hb hm0).1
     have hrun:(Instr.next (.pointer (some ⟨b,0,none⟩)) true o.type).run P w= .ok (.tuple #[.bool true,.int .i64 q,.int .i32 (Utf8.decode s q).1]) {w with heap:=w.heap.setIfInBounds b (.stringIter s (q+(Utf8.decode s q).2))}:=by
      simp[Instr.next,getObj,setObj,Sem.run_bind,Sem.run,hr,hq,goInt]
     obtain⟨q1,q2⟩:=hM.put (w':={w with heap:=w.heap.setIfInBounds b (.stringIter s (q+(Utf8.decode s q).2))}) (c':=.iter s (q+(Utf8.decode s q).2)) hi hb hm0 ⟨rfl,rfl,rfl,by simp,λj _ hj=>by
      have:b≠j:=λe=>hj (by rw[e])
      simp[this]⟩ (by simp only[d7];exact⟨hm0,by simp[hlt]⟩)
     refine⟨_,h,.tuple #[.bool true,.int .i64 q,.int .i32 (Utf8.decode s q).1],_,β,S,.inl ?_,q1.mono (j9 D new),?_,q2,AB _ _,λi' b' m' hi' h0 hn'=>by
      have:b≠b':=λe=>by subst e;exact hn' (by have:=hM.inj i' i _ _ _ hi' hb h0 hm0;simp[this])
      simp[this]⟩
     ·simp only[execOp,ho,hu,Sem.run_bind,hrun,Result.andThen_ok,Sem.run_pure]
     ·simp only[den,d9];exact⟨_,rfl,_,_,rfl,rfl,_,_,rfl,rfl,_,_,rfl,rfl,rfl⟩
    ·rename_i hq
     have hrun:(Instr.next (.pointer (some ⟨b,0,none⟩)) true o.type).run P w= .ok (.tuple #[.bool false]) w:=by
      simp[Instr.next,getObj,Sem.run,hr,hq]
     refine⟨_,h,f9 hM (u:=.tuple #[.bool false]) ?_ ?_⟩
     ·simp only[execOp,ho,hu,Sem.run_bind,hrun,Result.andThen_ok,Sem.run_pure]
     ·simp only[den,d9];exact⟨_,rfl,_,_,rfl,rfl,rfl⟩
   ·cases h
  ·cases h
 ·cases h
structure Grw(w w':World)(b m:Nat):Prop where
 os:w'.os=w.os
 tape:w'.tape=w.tape
 output:w'.output=w.output
 size:w.heap.size<=w'.heap.size
 block:∀x,x<w.heap.size->(0<m->x≠b)->w'.heap[x]? =w.heap[x]?
theorem Mem.move(hM:Mem β S D H w){D':Pr}{w':World}{i b m g cap n:Nat}{c c':Z1}(hi:H i=some c)(hb:β i=some (b,m))(hn:¬D n)(hD:∀i,D i->D' i)(hDn:D' n)(hg:Grw w w' b m)(hgb:(g=b/\(0<cap->0<m))\/w.heap.size<=g)(hlt:0<cap->g<w'.heap.size)
 (hc:d7 (upd (upd β i none) n (some (g,cap))) S w' D' g cap c'):
 Mem (upd (upd β i none) n (some (g,cap))) S D' (upd (upd H i none) n (some c')) w'/\Evo β S w (upd (upd β i none) n (some (g,cap))) S w'/\Hb β (upd (upd β i none) n (some (g,cap))) D:=by
 have hne:i≠n:=λe=>hn (e▸hM.dom i b m hb)
 have hHb:Hb β (upd (upd β i none) n (some (g,cap))) D:=λj hj=>by
  have hjn:j≠n:=λe=>hn (e▸hj);rw[aY _ _ hjn];by_cases hji:j=i
  ·subst hji;rw[j6];exact .inr rfl
  ·rw[aY _ _ hji];exact .inl rfl
 have hin:∀j b' m',j≠n->upd (upd β i none) n (some (g,cap)) j=some (b',m')->j≠i/\β j=some (b',m'):=by
  intro j b' m' hjn h;rw[aY _ _ hjn]at h;by_cases hji:j=i
  ·subst hji;rw[j6]at h;cases h
  ·rw[aY _ _ hji]at h;exact⟨hji,h⟩
 have hk:Y4 S w w':=λx hx=>hg.block x (hM.st x hx) (λh0 e=>by subst e;exact(hM.own i x m hb h0).2 hx)
 have hgS:0<cap->¬S g:=by
  intro h0;rcases hgb with⟨rfl,hc0⟩ |h
  ·exact(hM.own i g m hb (hc0 h0)).2
  ·exact λhs=>by have:=hM.st g hs;omega
 refine⟨⟨?_,?_,?_,?_,?_,λx hx=>Nat.lt_of_lt_of_le (hM.st x hx) hg.size⟩,⟨hg.os,hg.tape,hg.output,hg.size,λb' hb' hno=>hg.block b' hb' (λh0 e=>by subst e;exact hno i m h0 hb),λ_ h=>h,λ_ h=>.inl h,?_⟩,hHb⟩
 ·intro j d hd;by_cases hjn:j=n
  ·subst hjn;rw[j6]at hd;cases hd;exact⟨g,cap,j6 _ _ _,hc⟩
  ·rw[aY _ _ hjn]at hd;by_cases hji:j=i
   ·subst hji;rw[j6]at hd;cases hd
   ·rw[aY _ _ hji]at hd;obtain⟨b',m',h1,h2⟩:=hM.live j d hd;refine⟨b',m',by rw[aY _ _ hjn,aY _ _ hji];exact h1,o0 hHb (λ_ h=>h) hD hk (λh0=>hg.block b' (hM.own j b' m' h1 h0).1 (λh02 e=>by subst e;exact hji (hM.inj j i _ _ _ h1 hb h0 h02))) h2⟩
 ·intro j hj;by_cases hjn:j=n
  ·subst hjn;rw[j6]at hj;cases hj
  ·rw[aY _ _ hjn]at hj⊢;by_cases hji:j=i
   ·subst hji;rw[j6]
   ·rw[aY _ _ hji]at hj⊢;exact hM.dead j hj
 ·intro j b' m' h;by_cases hjn:j=n
  ·rw[hjn];exact hDn
  ·exact hD j (hM.dom j b' m' (hin j b' m' hjn h).2)
 ·intro j b' m' h h0;by_cases hjn:j=n
  ·subst hjn;rw[j6]at h;cases h;exact⟨hlt h0,hgS h0⟩
  ·have:=hM.own j b' m' (hin j b' m' hjn h).2 h0;exact⟨Nat.lt_of_lt_of_le this.1 hg.size,this.2⟩
 ·intro j j' b' m' m'' h1 h2 h01 h02
  have key:∀x m0,0<cap->0<m0->x≠n->upd (upd β i none) n (some (g,cap)) x=some (g,m0)->False:=λx m0 hc0 hm0 hx h=>by
   obtain⟨g1,g2⟩:=hin x g m0 hx h;rcases hgb with⟨rfl,h⟩ |h
   ·exact g1 (hM.inj x i _ _ _ g2 hb hm0 (h hc0))
   ·have:=(hM.own x g m0 g2 hm0).1;omega
  by_cases hj:j=n<;>by_cases hj':j'=n
  ·rw[hj,hj']
  ·subst hj;rw[j6]at h1;cases h1;exact(key j' _ h01 h02 hj' h2).elim
  ·subst hj';rw[j6]at h2;cases h2;exact(key j _ h02 h01 hj h1).elim
  ·exact hM.inj j j' b' m' m'' (hin j _ _ hj h1).2 (hin j' _ _ hj' h2).2 h01 h02
 ·intro j b' m' h h0;by_cases hjn:j=n
  ·subst hjn;rw[j6]at h;cases h;rcases hgb with⟨rfl,hc0⟩ |h
   ·exact .inr ⟨i,m,hc0 h0,hb⟩
   ·exact .inl h
  ·exact .inr ⟨j,m',h0,(hin j b' m' hjn h).2⟩
theorem Mem.put2(hM:Mem β S D H w){w':World}{i b m:Nat}{c c':Z1}(hi:H i=some c)(hb:β i=some (b,m))(hg:Grw w w' b m)(hc:d7 β S w' D b m c'):
 Mem β S D (upd H i (some c')) w'/\Evo β S w β S w':=by
 have hk:Y4 S w w':=λx hx=>hg.block x (hM.st x hx) (λh0 e=>by subst e;exact(hM.own i x m hb h0).2 hx)
 refine⟨⟨?_,?_,hM.dom,λj b' m' h h0=>⟨Nat.lt_of_lt_of_le (hM.own j b' m' h h0).1 hg.size,(hM.own j b' m' h h0).2⟩,hM.inj,λx hx=>Nat.lt_of_lt_of_le (hM.st x hx) hg.size⟩,
  ⟨hg.os,hg.tape,hg.output,hg.size,λb' hb' hn=>hg.block b' hb' (λh0 e=>by subst e;exact hn i m h0 hb),λ_ h=>h,λ_ h=>.inl h,λi b m h h0=>.inr ⟨i,m,h0,h⟩⟩⟩
 ·intro j d hd;by_cases hj:j=i
  ·subst hj;rw[j6]at hd;cases hd;exact⟨b,m,hb,hc⟩
  ·rw[aY _ _ hj]at hd;obtain⟨b',m',h1,h2⟩:=hM.live j d hd;refine⟨b',m',h1,o0 (λ_ _=>.inl rfl) (λ_ h=>h) (λ_ h=>h) hk (λh0=>hg.block b' (hM.own j b' m' h1 h0).1 (λh02 e=>by subst e;exact hj (hM.inj j i _ _ _ h1 hb h0 h02))) h2⟩
 ·intro j hj;by_cases he:j=i
  ·subst he;rw[j6]at hj;cases hj
  ·rw[aY _ _ he]at hj;exact hM.dead j hj
theorem ch1(hM:Mem β S D H w){y:V}{u:Value}{c m:Nat}{g:Nat->List V}(h:sB H y=some (c,m,g))(hy:den β S w D y u):
 ∃(A:Option Addr) (cap:Nat) (ad:Addr) (us:Nat->List Value),u= .slice A m cap/\(0<m->A=some ad)/\∀j,j<m->d9 β S w D (g j) (us j)/\n4 (g j)=true/\(us j).length=c/\(us j).all Value.oneCell'=true/\∀i x,(us j)[i]? =some x->w.cell? (ad.add (j*c+i))=some x:=by
 unfold sB at h;split at h
 ·rename_i i z o l;split at h
  ·rename_i e cc n f hi;split at h
   ·rename_i hle;obtain⟨hle,rfl⟩:=hle;simp only[Option.some.injEq,Prod.mk.injEq]at h;obtain⟨rfl,rfl,rfl⟩:=h;obtain⟨b,M,hb,hr⟩:=hM.live i _ hi;simp only[d7]at hr;obtain⟨h1,h2,h3,hcur⟩:=hr;simp only[den]at hy;obtain⟨g1,A,rfl,g2⟩:=hy.2 b M hb;by_cases hM0:0<M
    case neg=>exact⟨A,M-o,⟨0,0,none⟩,λ_=>[],rfl,λh=>absurd h (by omega),λj hj=>absurd hj (by omega)⟩
    obtain⟨cur,h4,h5,h6⟩:=hcur hM0;refine⟨A,M-o,⟨b,o*z,none⟩,λj=>if h:o+j<n then(h6 (o+j) h).choose else[],rfl,λh0=>g2 (by omega),λj hj=>?_⟩;have hjn:o+j<n:=by omega
    simp only[hjn,dif_pos];obtain⟨q1,q2,q3,q4,q5⟩:=(h6 (o+j) hjn).choose_spec;refine⟨q1,q2,q3,q4,λi x hx=>?_⟩;rw[eU,cell_of_row w b _ _ _ _ h4];rw[show o*z+(j*z+i)=(o+j)*z+i by rw[Nat.add_mul];omega];exact q5 i x hx
   ·cases h
  ·cases h
 ·simp only[Option.some.injEq,Prod.mk.injEq]at h;obtain⟨rfl,rfl,rfl⟩:=h;simp only[den]at hy;obtain⟨h0,A,cap,a,us,rfl,h2,h3,h4⟩:=hy;exact⟨A,cap,a,us,rfl,λhm=>(h3 hm).1,h4⟩
 ·simp only[Option.some.injEq,Prod.mk.injEq]at h;obtain⟨rfl,rfl,rfl⟩:=h;simp only[den]at hy;subst hy;exact⟨none,0,⟨0,0,none⟩,λ_=>[],rfl,λh=>absurd h (by omega),λj hj=>absurd hj (by omega)⟩
 ·cases h
theorem bi0{t ty e:TypeId}{z l cap cap':Nat}{A A':Option Addr}(he:P.underlying t=some (.slice e))(hz:szP P e=some z)(hl:l<=cap):
 (Builtin.append_ #[t,t] ty #[.slice A l cap,.slice A' 0 cap']).run P w= .ok (.slice A l cap) w:=by
 cases A<;>cases A'<;>
  simp[Builtin.append_,Sem.run_bind,run_underlying he,jT hz,Builtin.lenOf,Builtin.firstCells,hl,loadCells,loadCellsFrom,storeCells]
end
section
variable {P:Program} {β:Bt} {S D:Pr} {H:Hp} {w:World} {new:Nat} {o:Oper} {a:Act} {k:KR} {r:Ans}
theorem gP{b:Builtin}{c:Call}(hc:c.callee= .builtin b)(ho:o.op= .call c):∃cs,execOp a.eval o=builtin b c.argTypes o.type cs (c.args.map a.eval):=by
 refine⟨c.args.map λ| .const _=>true|_=>false,?_⟩;simp[execOp,ho,resolve,hc,invoke];rfl
theorem as9{c m:Nat}{us:Nat->List Value}(hl:∀j,j<m->(us j).length=c){j i:Nat}(hj:j<m)(hi:i<c):(((List.range m).map us).flatten)[j*c+i]? =(us j)[i]? :=
 zT (λvs hvs=>by obtain⟨j,hj,rfl⟩:=List.mem_map.1 hvs;exact hl j (by simpa using hj)) j (us j) (by simp[hj]) i hi
theorem ao4{c m:Nat}{us:Nat->List Value}(hl:∀j,j<m->(us j).length=c):(((List.range m).map us).flatten).length=m*c:=by
 rw[aa6 (k:=c) (λvs hvs=>by obtain⟨j,hj,rfl⟩:=List.mem_map.1 hvs;exact hl j (by simpa using hj))];simp
theorem bg1{e:TypeId}{c:Nat}{i:TypeInfo}(hi:P.info? e=some i)(h:az0 P e c=true):∃z:Value,i.zero=some z/\z.cells.size=c:=by
 unfold az0 at h;rw[hi]at h;simp only at h;split at h
 ·rename_i z hz;exact⟨z,hz,by simpa using h⟩
 ·cases h
theorem tY{t ty e:TypeId}{i:TypeInfo}{z:Value}(ht:P.underlying t=some (.slice e))(hi:P.info? e=some i)(hz:i.zero=some z)
 (b:Option Addr) (a:Addr) (n c:Nat) (news:List Value) (hl:news.length=n*i.size) (hnews:∀j v,news[j]? =some v->w.cell? (a.add j)=some v)
 (h0:0<n) (h63:(n:Int)<=9223372036854775807) (h48:n*i.bytes<=281474976710656):
 (Builtin.append_ #[t,t] ty #[.slice b 0 0,.slice (some a) n c]).run P w=(Builtin.append_ #[t,t] ty #[.slice none 0 0,.slice (some a) n c]).run P w:=by
 cases b with
 |none=>rfl
 |some b=>
  rw[run_append_nil w t ty e i z ht hi hz a n c news hl hnews h0 h63 h48,run_append_grow w t ty e i z ht hi hz b 0 0 [] (by simp) (λj v h=>by simp at h) a n c news hl hnews (by omega) (by omega) (by rw[Nat.zero_add,nextslicecap_zero h0];exact h48)];simp only[Nat.zero_add];congr 1;congr 1;simp
theorem bf6 {pr : Bool} (hM : Mem β S D H w) (hn : ¬ D new) {TS : Array TypeId} {x : Operand} {vx : V} {X : Value} {e : TypeId} {z by_ cc m : Nat} {g : Nat -> List V} {us : Nat -> List Value}
 (hex : ∀ v w', (Builtin.append_ TS o.type #[a.eval x, X]).run P w = .ok v w' -> (execOp a.eval o).run P w = .ok (.value v) w') (hx : den β S w D vx (a.eval x))
 (hus : ∀ j, j < m -> d9 β S w D (g j) (us j) /\ n4 (g j) = true /\ (us j).length = cc /\ (us j).all Value.oneCell' = true)
 (hrun0 : m = 0 -> ∀ (B : Option Addr) (l M : Nat), l <= M -> (Builtin.append_ TS o.type #[.slice B l M, X]).run P w = .ok (.slice B l M) w)
 (hrun : cc = z -> 0 < m -> 0 < z -> az0 P e z = true -> ∀ (v : Value) (n : Nat) (xs : List Value), w.ownsRow 0 e z v n xs -> n + m <= maxLen -> (n + m) * by_ <= 140737488355328 ->
  ∃ v' w', (Builtin.append_ TS o.type #[v, X]).run P w = .ok v' w' /\ w'.ownsRow 0 e z v' (n + m) (xs ++ ((List.range m).map us).flatten) /\ w.grownBy w' v.ownBlock /\ (v' = .slice none 0 0 ↔ v = .slice none 0 0 /\ m = 0) /\ (v'.ownBlock = v.ownBlock \/ v'.ownBlock = some w.heap.size))
 (hrune : cc = z -> 0 < m -> az0 P e z = true -> ∀ B : Option Addr, m * by_ <= 140737488355328 -> m <= maxLen -> (Builtin.append_ TS o.type #[.slice B 0 0, X]).run P w = (Builtin.append_ TS o.type #[.slice none 0 0, X]).run P w)
 (h : eo6 P pr e z by_ vx H new k (some (cc, m, g)) = some r) : dO P β S D H new o a w k r := by
 unfold eo6 at h;simp only [fa8] at h;split at h
 ·-- nil
  simp only [den] at hx;split at h
  ·rename_i hm;subst hm;refine ⟨_, h, f9 hM (u := .slice none 0 0) (hex _ _ ?_) (by simp only [den])⟩;rw [hx];exact hrun0 rfl none 0 0 (Nat.le_refl _)
  ·rename_i hm;split at h
   ·rename_i hcond;obtain ⟨⟨hz0, hcz, hzo⟩, hroom, hmax⟩ := hcond;subst hcz;have hl : ∀ j, j < m -> (us j).length = cc := λj hj => (hus j hj).2.2.1;obtain ⟨v', w', r1, r2, r3, r4, r5⟩ := hrun rfl (Nat.pos_of_ne_zero hm) hz0 hzo (.slice none 0 0) 0 [] (World.ownsRow_nil _ _ _ _) (by simpa using hmax) (by simpa [b6] using hroom);rcases r2.2 with ⟨rfl, _⟩ | ⟨g1, cap1, cur, rfl, _, c1, c2, c3, c4, c5⟩
    ·exact absurd (r4.1 rfl).2 hm
    ·have hg1 : g1 = w.heap.size := by
      rcases r5 with r5 | r5
      ·simp [Value.ownBlock] at r5
      ·simpa [Value.ownBlock] using r5
     subst hg1;have hlt : w.heap.size < w'.heap.size := (Array.getElem?_eq_some_iff.1 c1).1;refine ⟨_, h, bz2 hM hn (m := cap1) (cur := cur) (b := w.heap.size) hz0 (by omega) c3 c4 ⟨r3.os, r3.tape, r3.output, r3.size, λb hb => r3.block b hb (by simp [Value.ownBlock])⟩ (Nat.le_refl _) hlt c1 ?_ (hex _ _ (by rw [hx]; simpa using r1))⟩;intro j hj;obtain ⟨q1, q2, q3, q4⟩ := hus j hj;refine ⟨us j, q1, q2, q3, q4, λq v hq => ?_⟩;have hqc : q < cc := by rw [<- q3]; exact (List.getElem?_eq_some_iff.1 hq).1
     have h1 := as9 hl hj hqc;rw [hq] at h1;have : (cur.toList.take ((0 + m) * cc))[j * cc + q]? = some v := by rw [c5]; simpa using h1
     rw [List.getElem?_take] at this;split at this
     ·simpa using this
     ·cases this
   ·cases h
 ·-- one's own
  rename_i ii zz oo l;split at h
  ·rename_i e' c' n f hrow;split at h
   ·rename_i hcond;obtain ⟨⟨hz0, hmc', rfl, rfl, rfl, hzz, hzo⟩, hroom, hmax, hln⟩ := hcond;have hmc := hmc'.symm;obtain ⟨b, M, hb, hr⟩ := hM.live ii _ hrow;simp only [d7] at hr;obtain ⟨h1, h2, h3, hcur⟩ := hr;simp only [den] at hx;obtain ⟨g1, B, hxu, g2⟩ := hx.2 b M hb;simp only [Nat.zero_mul, Nat.sub_zero, Nat.zero_add] at hxu g1 g2
    obtain ⟨cur, hC⟩ : ∃ cur : Array Value, 0 < M -> w.heap[b]? = some (.cells cur e (0, 0)) /\ cur.size = M * z /\ bg8 β S w D z n f cur := by
     by_cases hM0 : 0 < M
     ·obtain ⟨cur, hC⟩ := hcur hM0;exact ⟨cur, λ_ => hC⟩
     ·exact ⟨#[], λh => absurd h hM0⟩
    have h6 : ∀ j, j < l -> ∃ us', d9 β S w D (f j) us' /\ n4 (f j) = true /\ us'.length = z /\ us'.all Value.oneCell' = true /\ ∀ q v, us'[q]? = some v -> cur[j * z + q]? = some v := λj hj => (hC (by omega)).2.2 j (by omega);have hrowl : ∀ j, j < l -> ∃ us', d9 β S w D (f j) us' /\ n4 (f j) = true /\ us'.length = z /\ us'.all Value.oneCell' = true /\ ∀ q v, us'[q]? = some v -> cur[j * z + q]? = some v := h6;have hlM : l * z <= M * z := Nat.mul_le_mul_right z (by omega);by_cases hm : m = 0
    ·subst hm;have hr0 := hrun0 rfl B l M (show l <= M by omega)
     obtain ⟨q1, q2, q3⟩ := hM.move (D' := kY D new) (w' := w) (g := b) (cap := M) (n := new) (c' := .row e z (l + 0) (ds4 pr 0 l f g)) hrow hb hn (j9 D new) (cS D new) ⟨rfl, rfl, rfl, Nat.le_refl _, λ_ _ _ => rfl⟩ (.inl ⟨rfl, id⟩) (λh0 => (hM.own _ _ _ hb h0).1) (by
      simp only [d7];refine ⟨by omega, h2, hz0, λh0 => ⟨cur, (hC h0).1, (hC h0).2.1, λj hj => ?_⟩⟩;obtain ⟨us', p1, p2, p3, p4, p5⟩ := hrowl j (by omega);rw [do0 (c := z) (by omega) (λj hj => by obtain ⟨us', p1, _, p3, _⟩ := hrowl j hj; rw [y5 p1]; exact p3) (λj hj => absurd hj (Nat.not_lt_zero j)) (by omega)];simp only [ck6, if_pos (show j < l by omega)]
      exact ⟨us', x8 (λ_ h => h) (λ_ _ => rfl) _ _ p2 p1, p2, p3, p4, p5⟩)
     refine ⟨_, h, _, _, _, _, .inl (hex _ _ (by rw [hxu]; exact hr0)), q1, ?_, q2, q3, X6.refl _ _ _⟩;simp only [den];refine ⟨⟨cS D new, rfl⟩, λb' m' hb' => ?_⟩;rw [j6] at hb';cases hb';exact ⟨by omega, B, by simp, λh0 => by rw [g2 h0]; simp⟩
    ·have hcz := hmc.resolve_left hm;subst hcz;have hl : ∀ j, j < m -> (us j).length = cc := λj hj => (hus j hj).2.2.1;have hroom' : (l + m) * by_ <= 140737488355328 := by simpa [b6] using hroom
     obtain ⟨v', w', r1, r2, r3, r5⟩ : ∃ v' w', (Builtin.append_ TS o.type #[.slice B l M, X]).run P w = .ok v' w' /\ w'.ownsRow 0 e cc v' (l + m) (cur.toList.take (l * cc) ++ ((List.range m).map us).flatten) /\
      Grw w w' b M /\ (0 < M /\ v'.ownBlock = some b \/ v'.ownBlock = some w.heap.size) := by
      by_cases hM0 : 0 < M
      ·obtain ⟨h4, h5, _⟩ := hC hM0;have hB := g2 hM0
       obtain ⟨v', w', r1, r2, r3, r4, r5⟩ := hrun rfl (Nat.pos_of_ne_zero hm) hz0 hzo (.slice (some ⟨b, 0, none⟩) l M) l (cur.toList.take (l * cc))
        ⟨by simp; omega, .inr ⟨b, M, cur, rfl, Nat.zero_le _, h4, by omega, h2, h5, rfl⟩⟩ hmax hroom'
       refine ⟨v', w', by rw [hB]; exact r1, r2, ⟨r3.os, r3.tape, r3.output, r3.size, λx hx hx' => r3.block x hx (λe => hx' hM0 (by simpa [Value.ownBlock, eq_comm] using e))⟩, ?_⟩;rcases r5 with r5 | r5
       ·left; exact ⟨hM0, by simpa [Value.ownBlock] using r5⟩
       ·right; exact r5
      ·have hM' : M = 0 := by omega
       have hl0 : l = 0 := by omega
       subst hM' hl0;obtain ⟨v', w', r1, r2, r3, r4, r5⟩ := hrun rfl (Nat.pos_of_ne_zero hm) hz0 hzo (.slice none 0 0) 0 [] (World.ownsRow_nil _ _ _ _) hmax hroom';refine ⟨v', w', by rw [hrune rfl (Nat.pos_of_ne_zero hm) hzo B (by simpa using hroom') (by simpa using hmax)]; exact r1, by simpa using r2, ⟨r3.os, r3.tape, r3.output, r3.size, λx hx _ => r3.block x hx (by simp [Value.ownBlock])⟩, ?_⟩;rcases r5 with r5 | r5
       ·exfalso;rcases r2.2 with ⟨rfl, _⟩ | ⟨g3, cap1, cur1, rfl, _⟩
        ·exact hm (r4.1 rfl).2
        ·simp [Value.ownBlock] at r5
       ·right; exact r5
     rcases r2.2 with ⟨rfl, _⟩ | ⟨g3, cap1, cur1, rfl, _, c1, c2, c3, c4, c5⟩
     ·exfalso; rcases r5 with ⟨_, r5⟩ | r5 <;> simp [Value.ownBlock] at r5
     ·have hg3 : (g3 = b /\ (0 < cap1 -> 0 < M)) \/ w.heap.size <= g3 := by
       rcases r5 with ⟨hM0, r5⟩ | r5
       ·left; exact ⟨by simpa [Value.ownBlock] using r5, λ_ => hM0⟩
       ·right; simp only [Value.ownBlock, Option.some.injEq] at r5; omega
      have hlt : g3 < w'.heap.size := (Array.getElem?_eq_some_iff.1 c1).1;have hk : Y4 S w w' := λx hx => r3.block x (hM.st x hx) (λh0 e => by subst e; exact (hM.own ii _ M hb h0).2 hx)
      have htake : ∀ (q : Nat) (v : Value), (cur.toList.take (l * cc) ++ ((List.range m).map us).flatten)[q]? = some v -> cur1[q]? = some v := by
       intro q v hq;rw [<- c5, List.getElem?_take] at hq;split at hq
       ·simpa using hq
       ·cases hq
      have hcl : (cur.toList.take (l * cc)).length = l * cc := by
       by_cases hM0 : 0 < M
       ·have := (hC hM0).2.1; simp; omega
       ·have : l = 0 := by omega
        subst this; simp
      obtain ⟨q1, q2, q3⟩ := hM.move (D' := kY D new) (w' := w') (g := g3) (cap := cap1) (n := new) (c' := .row e cc (l + m) (ds4 pr m l f g)) hrow hb hn (j9 D new) (cS D new) r3 hg3 (λ_ => hlt) (by
       simp only [d7];refine ⟨c2, c3, hz0, λ_ => ⟨cur1, c1, c4, λj hj => ?_⟩⟩;rw [do0 (c := cc) (by omega) (λj hj => by obtain ⟨us', p1, _, p3, _⟩ := hrowl j hj; rw [y5 p1]; exact p3) (λj hj => by obtain ⟨p1, _, p3, _⟩ := hus j hj; rw [y5 p1]; exact p3) (by omega)];by_cases hjl : j < l
       ·obtain ⟨us', p1, p2, p3, p4, p5⟩ := hrowl j hjl;simp only [ck6, if_pos hjl];refine ⟨us', x8 (λ_ h => h) hk _ _ p2 p1, p2, p3, p4, λq v hq => htake _ _ ?_⟩;have hqc : q < cc := by rw [<- p3]; exact (List.getElem?_eq_some_iff.1 hq).1
        have : (j + 1) * cc <= l * cc := Nat.mul_le_mul_right cc (by omega);rw [Nat.add_mul] at this;rw [List.getElem?_append, if_pos (by omega), List.getElem?_take, if_pos (by omega)];simpa using p5 q v hq
       ·obtain ⟨p1, p2, p3, p4⟩ := hus (j - l) (by omega);simp only [ck6, if_neg hjl];refine ⟨us (j - l), x8 (λ_ h => h) hk _ _ p2 p1, p2, p3, p4, λq v hq => htake _ _ ?_⟩;have hqc : q < cc := by rw [<- p3]; exact (List.getElem?_eq_some_iff.1 hq).1
        have h7 := as9 hl (show j - l < m by omega) hqc;have : l * cc <= j * cc := Nat.mul_le_mul_right cc (by omega);rw [List.getElem?_append, if_neg (by omega), hcl, show j * cc + q - l * cc = (j - l) * cc + q by rw [Nat.sub_mul]; omega, h7]
        exact hq)
      refine ⟨_, h, _, _, _, _, .inl (hex _ _ (by rw [hxu]; exact r1)), q1, ?_, q2, q3, λi' b' m' hi' h0' hn' => r3.block b' (hM.own i' b' m' hi' h0').1 (λh0 e => by
       subst e
       exact hn' (by have := hM.inj i' ii _ _ _ hi' hb h0' h0; simp [this]))⟩
      simp only [den];refine ⟨⟨cS D new, rfl⟩, λb' m' hb' => ?_⟩;rw [j6] at hb';cases hb';exact ⟨by omega, some ⟨g3, 0, none⟩, by simp, λ_ => by simp⟩
   ·cases h
  ·cases h
 ·cases h
theorem da4{pr:Bool}(hM:Mem β S D H w)(hn:¬D new){t:TypeId}{x y:Operand}{vx vy:V}{c:Call}(hc:c.callee= .builtin .append)(ho:o.op= .call c)(hargs:c.args=#[x,y])(hts:c.argTypes=#[t,t])
 (hx:den β S w D vx (a.eval x)) (hy:den β S w D vy (a.eval y)) (h:ac6 P pr t vx vy H new k=some r):dO P β S D H new o a w k r:=by
 have hex:∀v w',(Builtin.append_ #[t,t] o.type #[a.eval x,a.eval y]).run P w= .ok v w'->(execOp a.eval o).run P w= .ok (.value v) w':=by
  intro v w' hr;obtain⟨cs,hcs⟩:=gP (a:=a) hc ho;rw[hcs,hargs,hts];simp[builtin,Sem.run_bind,hr]
 unfold ac6 at h;split at h
 ·rename_i e he;split at h
  ·rename_i z by_ hz hb
   replace h:=eq2 (F:=eo6 P pr e z by_ vx H new k) h
   cases hel:sB H vy with
   |none=>rw[hel]at h;cases h
   |some el=>
    obtain⟨cc,m,g⟩:=el;rw[hel]at h;obtain⟨A,cap,ad,us,hu,hA,hus⟩:=ch1 hM hel hy;cases hi:P.info? e with
    |none=>simp[szP,hi]at hz
    |some i=>
     have hz1:i.size=z:=by simpa[szP,hi]using hz
     have hb1:i.bytes=by_:=by simpa[ct5,hi]using hb
     have hl:∀j,j<m->(us j).length=cc:=λj hj=>(hus j hj).2.2.1
     have hnw:0<cc->∀q v,(((List.range m).map us).flatten)[q]? =some v->w.cell? (ad.add q)=some v:=(λhz0 q v hq=>by
      have hql:=(List.getElem?_eq_some_iff.1 hq).1;rw[ao4 hl]at hql;have hqm:q/cc<m:=Nat.div_lt_of_lt_mul (by rw[Nat.mul_comm];exact hql);have hqc:q%cc<cc:=Nat.mod_lt _ hz0;have e1:q/cc*cc+q%cc=q:=by rw[Nat.mul_comm];exact Nat.div_add_mod _ _
      have:=as9 hl hqm hqc;rw[e1,hq]at this;have:=(hus _ hqm).2.2.2.2 (q%cc) v this.symm
      rwa [e1]at this)
     have hone:∀v∈((List.range m).map us).flatten,v.oneCell'=true:=(λv hv=>by
      obtain⟨vs,hvs,hv'⟩:=List.mem_flatten.1 hv;obtain⟨j,hj,rfl⟩:=List.mem_map.1 hvs
      exact de3 (hus j (by simpa using hj)).2.2.2.1 v hv')
     rw[hu]at hex;refine bf6 hM hn hex hx (λj hj=>⟨(hus j hj).1,(hus j hj).2.1,(hus j hj).2.2.1,(hus j hj).2.2.2.1⟩) (λhm B l M hlM=>?_) (λhcz hm0 hz0 hzo v n xs hown hmax hroom=>?_) (λhcz hm0 hzo B hroom hmax=>?_) h
     ·subst hm;exact bi0 (P:=P) (w:=w) (n6 he) hz hlM
     ·subst hcz;obtain⟨zv,hzv,hzs⟩:=bg1 hi hzo;have hA':=hA hm0;subst hA';exact run_append_own_at (P:=P) w 0 t o.type e i zv cc by_ (n6 he) hi hzv hz1 hb1 hzs hz0 v n xs hown ad m cap (((List.range m).map us).flatten) (ao4 hl) (hnw hz0) hone hmax hroom (Nat.zero_le _)
     ·subst hcz;obtain⟨zv,hzv,hzs⟩:=bg1 hi hzo;have hA':=hA hm0;subst hA';by_cases hz0:0<cc
      ·exact tY (P:=P) (w:=w) (n6 he) hi hzv B ad m cap _ (by rw[hz1];exact ao4 hl) (hnw hz0) hm0 (by simp only[maxLen]at hmax;omega) (by rw[hb1];omega)
      ·exact tY (P:=P) (w:=w) (n6 he) hi hzv B ad m cap [] (by rw[hz1,Nat.eq_zero_of_not_pos hz0];simp) (λj v hv=>by simp at hv) hm0 (by simp only[maxLen]at hmax;omega) (by rw[hb1];omega)
  ·cases h
 ·cases h
theorem ei5{u:TypeId}(h:eV P u=true):P.underlying u=some .string:=by
 unfold eV at h;split at h
 ·assumption
 ·cases h
theorem ea4{e:TypeId}(h:er9 P e=true):∃i,P.info? e=some i/\i.size=1/\i.bytes=1/\i.zero=some (.int .u8 0):=by
 unfold er9 at h;split at h
 ·rename_i i hi;simp only[Bool.and_eq_true,beq_iff_eq]at h;obtain⟨⟨h1,h2⟩,h3⟩:=h;refine⟨i,hi,h1,h2,?_⟩;split at h3
  ·rename_i n hz;rw[hz,beq_iff_eq.1 h3]
  ·cases h3
 ·cases h
theorem yG(base:Nat)(t u ty e:TypeId)(i:TypeInfo)(ht:P.underlying t=some (.slice e))(hu:P.underlying u=some .string)(hi:P.info? e=some i)(hz:i.zero=some (.int .u8 0))
 (hsize:i.size=1) (hby:i.bytes=1) (v:Value) (n:Nat) (xs:List Value) (hown:w.ownsRow base e 1 v n xs) (s:ByteArray)
 (h63:n+s.size<=maxLen) (hbytes:n+s.size<=140737488355328) (hbase:base<=w.heap.size):
 ∃v' w',(Builtin.append_ #[t,u] ty #[v,.string s]).run P w= .ok v' w'/\w'.ownsRow base e 1 v' (n+s.size) (xs++Lib.strCells s)/\w.grownBy w' v.ownBlock/\
  (v'= .slice none 0 0↔v= .slice none 0 0/\s.size=0)/\(v'.ownBlock=v.ownBlock\/v'.ownBlock=some w.heap.size):=by
 obtain⟨v',w',r1,r2,r3,r4⟩:=Lib.run_append_own_string (P:=P) w base t u ty e i ht hu hi hz hsize hby v n xs hown s h63 hbytes hbase;refine⟨v',w',r1,r2,r3,r4,?_⟩;have hsmall:n+s.size<=9223372036854775807:=by simp only[maxLen]at h63;omega
 have hxl:xs.length=n:=by simpa using hown.1
 rcases hown.2 with⟨rfl,rfl⟩ | ⟨g,cap,cur,rfl,hbg,hg,hnc,hcm,hcs,htake⟩
 ·by_cases hm:s.size=0
  ·left;rw[r4.2 ⟨rfl,hm⟩]
  ·have hr:=run_append_nil_string (P:=P) w t u ty e i (.int .u8 0) ht hu hi hz s (by omega) (by omega) (by rw[hby];omega);rw[r1]at hr;injection hr with hv hw;right;rw[hv];rfl
 ·by_cases hroom:n+s.size<=cap
  ·have hcs':cur.size=cap:=by simpa using hcs
   have hr:=Lib.run_append_room_string (P:=P) w t u ty e i ht hu hi hsize g n cap cur hg s hroom (by omega);rw[r1]at hr;injection hr with hv hw;left;rw[hv];rfl
  ·have holds:∀j u,xs[j]? =some u->w.cell? ((⟨g,0,none⟩:Addr).add j)=some u:=hown.cells (g:=g) rfl;have hr:=Lib.run_append_grow_string (P:=P) w t u ty e i (.int .u8 0) ht hu hi hz ⟨g,0,none⟩ n cap xs (by rw[hsize];simpa using hxl) holds s (by omega) (by omega) (by rw[hby];exact growslice_fits (by omega) (by omega));rw[r1]at hr;injection hr with hv hw;right;rw[hv];rfl
theorem tG{t u ty e:TypeId}{i:TypeInfo}(ht:P.underlying t=some (.slice e))(hu:P.underlying u=some .string)(hi:P.info? e=some i)(hz:i.zero=some (.int .u8 0))(hsize:i.size=1)(hby:i.bytes=1)
 (b:Option Addr) (s:ByteArray) (h0:0<s.size) (h63:s.size<=140737488355328):(Builtin.append_ #[t,u] ty #[.slice b 0 0,.string s]).run P w=(Builtin.append_ #[t,u] ty #[.slice none 0 0,.string s]).run P w:=by
 cases b with
 |none=>rfl
 |some b=>
  have e1:(s.data.map λb=>Value.int .u8 b.toNat)=(Lib.strCells s).toArray:=by
   apply Array.ext';simp[Lib.strCells]
  rw[run_append_nil_string (P:=P) w t u ty e i (.int .u8 0) ht hu hi hz s (by omega) (by omega) (by rw[hby];omega),Lib.run_append_grow_string (P:=P) w t u ty e i (.int .u8 0) ht hu hi hz b 0 0 [] (by simp) (λj v h=>by simp at h) s (by omega) (by omega) (by rw[hby,Nat.zero_add,nextslicecap_zero h0];omega)];rw[e1];simp only[Nat.zero_add];congr 1;congr 1;simp
theorem ce9(s:ByteArray):(((List.range s.size).map λj=>[Value.int .u8 ((s.data.toList.getD j 0).toNat:Int)]).flatten)=Lib.strCells s:=by
 apply List.ext_getElem?;intro j;have hl:s.data.toList.length=s.size:=by simp
 have e:∀l:List Nat,(l.map λj=>[Value.int .u8 ((s.data.toList.getD j 0).toNat:Int)]).flatten=l.map λj=>Value.int .u8 ((s.data.toList.getD j 0).toNat:Int):=by
  intro l
  induction l with
  |nil=>rfl
  |cons a l ih=>simp only[List.map_cons,List.flatten_cons,ih];rfl
 rw[e];unfold Lib.strCells;rw[List.getElem?_map,List.getElem?_map];by_cases hj:j<s.size
 ·rw[List.getElem?_range hj];have:s.data.toList[j]? =some s.data.toList[j]:=List.getElem?_eq_getElem (by omega);simp only[Option.map_some,List.getD_eq_getElem?_getD,this,Option.getD_some]
 ·rw[List.getElem?_eq_none (by simp;omega),List.getElem?_eq_none (by omega)];rfl
theorem dg8{pr:Bool}(hM:Mem β S D H w)(hn:¬D new){t u:TypeId}{x y:Operand}{vx vy:V}{c:Call}(hc:c.callee= .builtin .append)(ho:o.op= .call c)(hargs:c.args=#[x,y])(hts:c.argTypes=#[t,u])
 (hx:den β S w D vx (a.eval x)) (hy:den β S w D vy (a.eval y)) (h:ag4 P pr t u vx vy H new k=some r):dO P β S D H new o a w k r:=by
 have hex:∀v w',(Builtin.append_ #[t,u] o.type #[a.eval x,a.eval y]).run P w= .ok v w'->(execOp a.eval o).run P w= .ok (.value v) w':=by
  intro v w' hr;obtain⟨cs,hcs⟩:=gP (a:=a) hc ho;rw[hcs,hargs,hts];simp[builtin,Sem.run_bind,hr]
 unfold ag4 at h;split at h
 ·rename_i s;split at h
  ·rename_i e he;split at h
   ·rename_i hcond;obtain⟨i,hi,h1,h2,h3⟩:=ea4 hcond.1;have hu:=ei5 hcond.2;have hys:a.eval y= .string s:=by simpa[den]using hy
    rw[hys]at hex;have hz:szP P e=some 1:=by simp[szP,hi,h1]
    refine bf6 (us:=λj=>[Value.int .u8 ((s.data.toList.getD j 0).toNat:Int)]) hM hn hex hx (λj hj=>⟨by simp[gi5,d9,den],rfl,rfl,rfl⟩) (λhm B l M hlM=>?_) (λ_ hm0 _ _ v n xs hown hmax hroom=>?_) (λ_ hm0 _ B hroom hmax=>?_) h
    ·have hf:=Lib.run_firstCells_string (P:=P) w 1 s;rw[hm]at hf;have hsc:Lib.strCells s=[]:=List.eq_nil_of_length_eq_zero (by rw[Lib.strCells_length];exact hm);rw[hsc]at hf;cases B<;>simp[Builtin.append_,Sem.run_bind,run_underlying (n6 he),run_underlying hu,jT hz,Builtin.lenOf,hm,hf,hlM,storeCells]
    ·rw[ce9];exact yG 0 t u o.type e i (n6 he) hu hi h3 h1 h2 v n xs hown s hmax (by simpa using hroom) (Nat.zero_le _)
    ·exact tG (n6 he) hu hi h3 h1 h2 B s hm0 (by simpa using hroom)
   ·cases h
  ·cases h
 ·cases h
theorem dn5{pr:Bool}{o q:Nat}{g f:Nat->List V}(hg:∀j,j<q->(g j).length=1){j:Nat}(hf:(f j).length=1):dx5 pr o q g f j=dn4 o q g f j:=by
 unfold dx5 dn4;cases pr with
 |false=>rfl
 |true=>
  simp only[bc6]
  have one:∀l:List V,l.length=1->[l.getD 0 .junk]=l:=λl h=>by
   match l,h with
   | [x],_=>rfl
  split
  ·exact one _ (hg _ (by omega))
  ·exact one _ hf
theorem es1{pr:Bool}(hM:Mem β S D H w){t:TypeId}{x y:Operand}{vx vy:V}{c:Call}(hc:c.callee= .builtin .copy)(ho:o.op= .call c)(hargs:c.args=#[x,y])(hts:c.argTypes=#[t,t])
 (hx:den β S w D vx (a.eval x)) (hy:den β S w D vy (a.eval y)) (h:bn0 P pr t vx vy H k=some r):dO P β S D H new o a w k r:=by
 have hex:∀v w',(Builtin.copy_ #[t,t] o.type #[a.eval x,a.eval y]).run P w= .ok v w'->(execOp a.eval o).run P w= .ok (.value v) w':=by
  intro v w' hr;obtain⟨cs,hcs⟩:=gP (a:=a) hc ho;rw[hcs,hargs,hts];simp[builtin,Sem.run_bind,hr]
 unfold bn0 at h;split at h
 case h_2=>cases h
 rename_i e he;split at h
 case h_2=>cases h
 rename_i s hs;split at h
 case h_2=>cases h
 rename_i i z off l;split at h
 case h_2=>cases h
 rename_i e' c1 n f hi;split at h
 case h_2=>cases h
 rename_i c' m g hel;split at h
 case isFalse=>cases h
 rename_i hcond;obtain⟨rfl,rfl,rfl,hcm,hln⟩:=hcond;obtain⟨A,cap,ad,us,hu,hA,hus⟩:=ch1 hM hel hy;obtain⟨b,M,hb,hr⟩:=hM.live i _ hi;simp only[d7]at hr;obtain⟨h1,h2,h3,hcur⟩:=hr;simp only[den]at hx;obtain⟨g1,B,hxu,g2⟩:=hx.2 b M hb
 have hus':∀j,j<m->d9 β S w D (g j) (us j)/\n4 (g j)=true/\(us j).length=1/\(us j).all Value.oneCell'=true/\∀q v,(us j)[q]? =some v->w.cell? (ad.add (j+q))=some v:=λj hj=>by
  have h1:=hus j hj;rcases hcm with rfl|h
  ·simpa using h1
  ·omega
 have hsz:(P.info? e).map (·.size)=some 1:=by simpa[szP]using hs
 have fin:∀(q:Nat) (w':World),q=min m l->(Builtin.copy_ #[t,t] o.type #[a.eval x,a.eval y]).run P w= .ok (goInt q) w'->Grw w w' b M->
  (0<M->∃cur:Array Value,w'.heap[b]? =some (.cells cur e' (0,0))/\cur.size=M*1/\bg8 β S w' D 1 n (dx5 pr off (min m l) g f) cur)->dO P β S D H new o a w k r:=by
  rintro q w' rfl hrun hgr hrow;obtain⟨q1,q2⟩:=hM.put2 (c':=.row e' 1 n (dx5 pr off (min m l) g f)) hi hb hgr (by simp only[d7];exact⟨h1,h2,h3,hrow⟩)
  refine⟨_,h,goInt (min m l:Nat),w',β,S,.inl (hex _ _ hrun),q1.mono (j9 D new),by simp[den,goInt],q2,AB _ _,λi' b' m' hi' h0' hn'=>hgr.block b' (hM.own i' b' m' hi' h0').1 (λh0 e=>by
   subst e
   exact hn' (by have:=hM.inj i' i _ _ _ hi' hb h0' h0;simp[this]))⟩
 by_cases hq:min m l=0
 ·refine fin 0 w hq.symm (by rw[hxu,hu];exact run_copy_none (P:=P) w t t o.type e B A l (M-off) m cap (n6 he) hsz (by simpa using hq)) ⟨rfl,rfl,rfl,Nat.le_refl _,λ_ _ _=>rfl⟩ λh0=>?_;obtain⟨cur,c1,c2,c3⟩:=hcur h0;refine⟨cur,c1,c2,λj hj=>?_⟩;obtain⟨us1,p1,p2,p3,p4,p5⟩:=c3 j hj;rw[dn5 (λj hj=>by omega) (by rw[y5 p1];exact p3)];unfold dn4;rw[if_neg (by omega)];exact⟨us1,p1,p2,p3,p4,p5⟩
 ·have hM0:0<M:=by omega
  obtain⟨cur,c1,c2,c3⟩:=hcur hM0;have hB:=g2 (by omega);have hA':=hA (by omega);subst hA';have hl:∀j,j<min m l->(us j).length=1:=λj hj=>(hus' j (by omega)).2.2.1;have hcl:(((List.range (min m l)).map us).flatten).length=min m l:=by rw[ao4 hl];omega
  have hget:∀q,q<min m l->(((List.range (min m l)).map us).flatten)[q]? =(us q)[0]? :=λq hq=>by
   have:=as9 hl hq (Nat.one_pos);simpa using this
  have hrun:=run_copy_row (P:=P) w t t o.type e b (off*1) l (M-off) ad m cap cur e' (((List.range (min m l)).map us).flatten) (n6 he) hsz c1 (by rw[hcl]) (λq v hqv=>by
   have hql:q<min m l:=by rw[<-hcl];exact(List.getElem?_eq_some_iff.1 hqv).1
   rw[hget q hql]at hqv;have:=(hus' q (by omega)).2.2.2.2 0 v hqv
   simpa using this) (by rw[hcl];omega) (λv hv=>by
   obtain⟨vs,hvs,hv'⟩:=List.mem_flatten.1 hv;obtain⟨j,hj,rfl⟩:=List.mem_map.1 hvs
   exact de3 (hus' j (by have:=List.mem_range.1 hj;omega)).2.2.2.1 v hv')
  rw[hcl]at hrun;have hk:Y4 S w (w.setRow b (cur.toList.take (off*1)++((List.range (min m l)).map us).flatten++cur.toList.drop (off*1+min m l)).toArray):=λy hy=>setRow_other w b y _ (λe=>by subst e;exact(hM.own i y M hb hM0).2 hy);refine fin (min m l) _ rfl (by rw[hxu,hu,hB];exact hrun) ⟨by simp,by simp,by simp,by simp,λy _ hy=>setRow_other w b y _ (hy hM0)⟩ λ_=>⟨_,setRow_heap w b _ _ _ _ c1,?_,λj hj=>?_⟩
  ·simp[hcl];omega
  ·obtain⟨us1,p1,p2,p3,p4,p5⟩:=c3 j hj;rw[dn5 (λj hj=>by obtain⟨r1,_,r3,_⟩:=hus' j (by omega);rw[y5 r1];exact r3) (by rw[y5 p1];exact p3)];unfold dn4;split
   ·rename_i hjo;obtain⟨r1,r2,r3,r4,_⟩:=hus' (j-off) (by omega);refine⟨us (j-off),x8 (λ_ h=>h) hk _ _ r2 r1,r2,r3,r4,λq v hqv=>?_⟩;have hq0:q=0:=by have:=(List.getElem?_eq_some_iff.1 hqv).1;omega
    subst hq0;have:=hget (j-off) (by omega);rw[hqv]at this;have hsz2:(cur.toList.take (off*1)).length=off:=by simp;omega
    rw[List.getElem?_toArray,List.getElem?_append,if_pos (by rw[List.length_append,hsz2,hcl];omega),List.getElem?_append,if_neg (by rw[hsz2];omega),hsz2,show j*1+0-off=j-off by omega];exact this
   ·rename_i hjo;refine⟨us1,x8 (λ_ h=>h) hk _ _ p2 p1,p2,p3,p4,λq v hqv=>?_⟩;have hq0:q=0:=by have:=(List.getElem?_eq_some_iff.1 hqv).1;omega
    subst hq0;have h5:=p5 0 v hqv;have hsz2:(cur.toList.take (off*1)).length=off:=by simp;omega
    rw[List.getElem?_toArray,List.getElem?_append];by_cases hlt:j<off
    ·rw[if_pos (by rw[List.length_append,hsz2,hcl];omega),List.getElem?_append,if_pos (by rw[hsz2];omega),List.getElem?_take,if_pos (by omega)];simpa using h5
    ·rw[if_neg (by rw[List.length_append,hsz2,hcl];omega),List.length_append,hsz2,hcl,List.getElem?_drop,show off*1+min m l+(j*1+0-(off+min m l))=j*1+0 by omega];simpa using h5
end
end
end Go.Am
