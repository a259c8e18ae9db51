/- Texts joined. -/
import Derived.Test.YtbmbhcheonjigaaGreatDoorQC
import Derived.Test.YtbmbhcheonjigaaGreatDoorProg
import Derived.Test.YtbmbhcheonjigaaGreatDoorRows
import Derived.Lib.Strings
import Derived.Lib.IndexMore
import Derived.Recover
import Derived.Shelf.Strings.Builder1
import Derived.Shelf.Strings.Builder2
import Derived.Shelf.Strings.OnBuilder
import Derived.Shelf.Small.Strs
import Derived.Shelf.Small.Wraps
import Derived.Shelf.Strings.BuilderF
import Derived.Shelf.Strings.BuilderK
import Derived.Shelf.Strings.Builder2Cap
import Derived.Shelf.Strconv.Itoa0
import Derived.Shelf.Strconv.Itoa1
import Derived.Shelf.LaysM
import Derived.Shelf.Strconv.Itoa2
import Derived.Shelf.Strconv.Itoa3
import Derived.Shelf.Strings.Search1
import Derived.Shelf.Strings.Search2
import Derived.Shelf.Strings.Search3
import Derived.Shelf.Strings.Shaped
import Derived.Shelf.Strings.Prefix
import Derived.Shelf.Bits.Mul64
import Derived.Shelf.Strings.Repeat
import Derived.Shelf.Strings.BuilderCap
import Derived.Test.YtbmbhcheonjigaaGreatDoorCards
import Derived.Test.YtbmbhcheonjigaaGreatDoorTie
import Derived.Deep.DeepHandedRow
import Derived.Deep.DeepWitnessRowRef
import Derived.LaidMore
/- The environment of this seat: variables of the packages, library functions by contract. -/
set_option linter.unusedSimpArgs false
set_option linter.defProp false
set_option linter.unusedVariables false
set_option linter.unusedSimpArgs false
set_option linter.unusedVariables false
set_option maxRecDepth 100000
namespace Go.Proofs.YtbmbhcheonjigaaGreatDoor
section
open Go Go.Am
abbrev i64(n:Int):V:=.sc (.int .i64 n)
abbrev bo(b:Bool):V:=.sc (.bool b)
abbrev st(s:ByteArray):V:=.sc (.string s)
def tabL:List (List V):=[
 [.sc (.string ⟨#[74]⟩),i64 1,i64 1,i64 0,i64 0,i64 0,i64 0],
 [.sc (.string ⟨#[107,74]⟩),i64 1000,i64 1,i64 0,i64 0,i64 0,i64 0],
 [.sc (.string ⟨#[87,104]⟩),i64 3600,i64 1,i64 0,i64 0,i64 0,i64 0],
 [.sc (.string ⟨#[66]⟩),i64 1,i64 0,i64 1,i64 0,i64 0,i64 0],
 [.sc (.string ⟨#[107,66]⟩),i64 1000,i64 0,i64 1,i64 0,i64 0,i64 0],
 [.sc (.string ⟨#[115]⟩),i64 1,i64 0,i64 0,i64 1,i64 0,i64 0],
 [.sc (.string ⟨#[109,105,110]⟩),i64 60,i64 0,i64 0,i64 1,i64 0,i64 0],
 [.sc (.string ⟨#[104]⟩),i64 3600,i64 0,i64 0,i64 1,i64 0,i64 0],
 [.sc (.string ⟨#[100,101,103]⟩),i64 1,i64 0,i64 0,i64 0,i64 1,i64 0],
 [.sc (.string ⟨#[75]⟩),i64 1,i64 0,i64 0,i64 0,i64 0,i64 1],
 [.sc (.string ⟨#[87]⟩),i64 1,i64 1,i64 0,i64 (-1),i64 0,i64 0],
 [.sc (.string ⟨#[107,87]⟩),i64 1000,i64 1,i64 0,i64 (-1),i64 0,i64 0],
 [.sc (.string ⟨#[66,112,115]⟩),i64 1,i64 0,i64 1,i64 (-1),i64 0,i64 0]]
def hu0:V:=.ro 7 13 (λj=>tabL.getD j [])
def eu6:List V:=[.sc (.string ⟨#[124,124]⟩),i64 1,.sc (.string ⟨#[38,38]⟩),i64 1,.sc (.string ⟨#[43]⟩),i64 2,.sc (.string ⟨#[45]⟩),i64 2,.sc (.string ⟨#[42]⟩),i64 3,.sc (.string ⟨#[47]⟩),i64 3,.sc (.string ⟨#[60]⟩),i64 4,.sc (.string ⟨#[60,61]⟩),i64 4,.sc (.string ⟨#[62]⟩),i64 4,.sc (.string ⟨#[62,61]⟩),i64 4,.sc (.string ⟨#[61,61]⟩),i64 4,.sc (.string ⟨#[33,61]⟩),i64 4]
def ff9:Nat->Option (List V)
 |0=>some [hu0]
 |2=>some eu6
 |_=>none
def gp8(f:FuncId)(args:List V):Option V:=
 if f=289 then match args with
  | [.sc (.string s),.sc (.string sub)]=>if s.size<4294967281 then some (bo (Lib.contains s.data.toList sub.data.toList))else none
  |_=>none
 else if f=225 then match args with
  | [.sc (.string s),.sc (.int .u8 c)]=>some (i64 (Lib.indexByte s.data.toList (UInt8.ofNat c.toNat)))
  |_=>none
 else none
def way(a b:Nat):Am.Way:=if b=25 then(if a∈[14,24]then .give else .plain)else if b∈[90,50,51,160,161,116,230,183,184,185,261,290,291,292,293,294,295,296,297,262,263,264,265,330,332,344,345]then .giveM else if b∈[10,11,15,20,23,27,30,31,32,38,43,44,47,63,65,79,80,87,101,102,103,121,124,125,174,175,176,177,178,259,316]then .give else if b∈[12,28,29,37,40,41,45,62,67,78,92,112]then .lend else .plain
def hs0(f:FuncId):Bool:=f==13
def hu3(f:FuncId):Bool:=f==38
def fb6(f:FuncId):Option Nat:=if f=88 then some 3 else none
open Go.RowKit
noncomputable def E:Env:={P:=Tryz.prog,glob:=ff9,ext:=gp8,way:=way,lit:=hs0,code:=λf=>(Tryz.prog.funcs[f]?).bind gb2,inv:=[(1,at4 .i64)],dfn:=hu3,idle:=fb6,rows:=true,sett:=λ_=>true}
noncomputable def E0:Env:={P:=Tryz.prog,glob:=λ_=>none,ext:=λ_ _=>none,way:=λ_ _=>.plain,lit:=λ_=>false,code:=λf=>(Tryz.prog.funcs[f]?).bind gb2}
noncomputable def rest65:Z5:=match E0.code 88 with|some (.seq _ b)=>b|_=>.skip
def hk5:List V:=[.junk,.junk,.junk,.sc .nilIface]++List.replicate 2 (.sc undef)++[.sc .nilIface]++List.replicate 13 (.sc undef)
def T0:u9:=λ_ _ _ _=>none
def L0:aE:=λ_ _ _ _ _=>none
def ds1:Ex->Bool| .normal=>true|_=>false
theorem hp8:fS E0 T0 L0 rest65 {fr:=hk5,H:=hp [],nx:=0,rt:=0,me:=88} (λe _=>if ds1 e then some (.c (.pan .junk))else none)=some (.c (.pan .junk)):=by kernel_rfl
theorem hn4(a:Act)(w:World)(hd:a.defers=[])(ht:d9 (λ_=>none) (λ_=>False) w (λ_=>False) hk5 a.tmps.toList):Code.wp Tryz.prog rest65.erase (λe a' w'=>e= .normal/\a'.defers=[]/\Below w.heap.size w w') a w:=by
 obtain⟨e,s',h1,h2⟩:=cG (E:=E0) (ca:=T0) (lo:=L0) (λ_ _ _ _ _ h=>by cases h) (Z6.none λ_ _=>rfl) (λ_ _ _ _ _ _ h=>by cases h) rest65 _ _ _ hp8;split at h1
 case isFalse=>cases h1
 rename_i he;have he:e= .normal:=by cases e<;>simp_all [ds1]
 subst he;refine wp_mono (h2 (λ_=>none) (λ_=>False) (λ_=>False) a w ⟨ht,⟨λi c hc=>(by simp[hp]at hc),λ_ _=>rfl,λi b m h=>(by cases h),λi b m h=>(by cases h),λi j b m m' h=>(by cases h),λb hb=>hb.elim⟩,⟨λ_=>hd,λd h=>(by rw[hd]at h;cases h),λh=>nomatch (show true=false from h)⟩,λi hi=>hi.elim,⟨λg cs h=>(by cases h),λp hp=>(by cases hp)⟩,λi hi=>absurd hi (Nat.not_lt_zero i)⟩) λe' a' w' hp=>?_;obtain⟨β',S',D',q1,q2,q3,q4,q5,q6⟩:=hp.ex;cases e'<;>simp only[ExR]at q1;exact⟨rfl,q2.df.1 rfl,pB q3⟩
theorem gc1 : gv3 Tryz.prog 88 3 := by
  intro us w hus;refine ⟨?_, ?_⟩
  · have hb : ∃ fn, Tryz.prog.funcs[88]? = some fn /\ fn.body.isSome = true /\ fn.name ≠ "runtime.NumGoroutine" := ⟨_, Tryz.func88, by kernel_rfl, by intro e; exact absurd e (by decide +kernel)⟩
    obtain ⟨fn, h1, h2, h3⟩ := hb;have hb : ¬ fn.body = none := by intro hb; rw [hb] at h2; cases h2
    simp [callFunc, Sem.run_bind, h1, h3, hb, program, Sem.run]
  · match us, hus with
    | ⟨[x, y, z]⟩, _ =>
      refine callsD_of_wpS Tryz.func88 rfl λc₀ cs hu => ?_;apply wpS_seq;apply wpS_region;simp [wpOpsS, go_sem, recoverD, hu, Tryz.ntmps88, Exit.thenS];refine wpS_of_wp ?_;refine (congrArg (λc => Code.wp Tryz.prog c _ _ _) (?_ : rest65.erase = _)).mp (wp_mono (hn4 _ w rfl ?_) ?_)
      · kernel_rfl
      · simp [hk5, d9, den];exact ⟨_, _, ⟨rfl, rfl⟩, _, _, rfl, _, rfl⟩
      · rintro e a' w' ⟨rfl, hd, hb⟩;refine ⟨hd, _, ?_, _, by simp [results, Tryz.results88, go_sem]; rfl, ⟨_, rfl⟩, rfl, hb⟩;cases c₀; simp_all
set_option maxRecDepth 100000 in
theorem hW:WF E:=WF.of E (λ_=>rfl) (by kernel_rfl) (λg n h=>by
 have h':fb6 g=some n:=h;unfold fb6 at h';split at h'
 ·rename_i hg;subst hg;cases h';exact gc1
 ·cases h')
end
end Go.Proofs.YtbmbhcheonjigaaGreatDoor
namespace Go.Proofs
section
open Go.Shelf
def Tryz.lays137_ren:Go.Shelf.Ren:=⟨λ|137=>225|217=>287|266=>328|n=>n,λ|9=>9|5=>5|3=>3|n=>n,λ|n=>n⟩
theorem Tryz.lays137:Go.Proofs.Lays.n137 Tryz.prog Tryz.lays137_ren:={
 mixed:=by kernel_rfl
 f137:=Tryz.func225.trans (congrArg some (by kernel_rfl))
 f217:=Tryz.func287.trans (congrArg some (by kernel_rfl))
 f266:=Tryz.func328.trans (congrArg some (by kernel_rfl))
 t3:=Tryz.underlying3
 a3:=Tryz.isAgg3
 z3:=Tryz.sizeOf3
 v3:=Tryz.zeroValue3
 t5:=Tryz.underlying5
 a5:=Tryz.isAgg5
 z5:=Tryz.sizeOf5
 v5:=Tryz.zeroValue5
 t9:=Tryz.underlying9
 a9:=Tryz.isAgg9
 z9:=Tryz.sizeOf9
 v9:=Tryz.zeroValue9}
open Go.RowKit in
theorem Tryz.strings_IndexByte(s:ByteArray)(c:Int)(w:World):
 Calls Tryz.prog 225 #[.string s,.int .u8 c] w λe w'=>e= .returned (.int .i64 (Lib.indexByte s.data.toList c.toNat.toUInt8))/\w'=w:=Any.strings_IndexByte Tryz.lays137 s c w
def Tryz.lays144_ren:Go.Shelf.Ren:=⟨λ|144=>289|143=>329|219=>343|217=>287|225=>351|224=>352|267=>353|266=>328|314=>359|n=>n,λ|9=>9|4=>4|3=>3|5=>5|46=>269|146=>285|51=>284|n=>n,λ|1=>1|n=>n⟩
theorem Tryz.lays144:Go.Proofs.Lays.n144 Tryz.prog Tryz.lays144_ren:={
 mixed:=by kernel_rfl
 f143:=Tryz.func329.trans (congrArg some (by kernel_rfl))
 f144:=Tryz.func289.trans (congrArg some (by kernel_rfl))
 f217:=Tryz.func287.trans (congrArg some (by kernel_rfl))
 f219:=Tryz.func343.trans (congrArg some (by kernel_rfl))
 f224:=Tryz.func352.trans (congrArg some (by kernel_rfl))
 f225:=Tryz.func351.trans (congrArg some (by kernel_rfl))
 f266:=Tryz.func328.trans (congrArg some (by kernel_rfl))
 f267:=Tryz.func353.trans (congrArg some (by kernel_rfl))
 f314:=Tryz.func359.trans (congrArg some (by kernel_rfl))
 t3:=Tryz.underlying3
 a3:=Tryz.isAgg3
 z3:=Tryz.sizeOf3
 v3:=Tryz.zeroValue3
 t4:=Tryz.underlying4
 a4:=Tryz.isAgg4
 z4:=Tryz.sizeOf4
 v4:=Tryz.zeroValue4
 t5:=Tryz.underlying5
 a5:=Tryz.isAgg5
 z5:=Tryz.sizeOf5
 v5:=Tryz.zeroValue5
 t9:=Tryz.underlying9
 a9:=Tryz.isAgg9
 z9:=Tryz.sizeOf9
 v9:=Tryz.zeroValue9
 t46:=Tryz.underlying269
 a46:=Tryz.isAgg269
 z46:=Tryz.sizeOf269
 v46:=Tryz.zeroValue269
 t51:=Tryz.underlying284
 a51:=Tryz.isAgg284
 z51:=Tryz.sizeOf284
 v51:=Tryz.zeroValue284
 t146:=Tryz.underlying285
 a146:=Tryz.isAgg285
 z146:=Tryz.sizeOf285
 v146:=Tryz.zeroValue285
 g1:=by kernel_rfl}
open Go.RowKit Go.Lib in
theorem Tryz.strings_Contains(s sub:ByteArray)(m:Int)(w:World)(hs:s.size<4294967281)(hm:w.cell? ⟨1,0,none⟩=some (.int .i64 m)):
 Calls Tryz.prog 289 #[.string s,.string sub] w λe w'=>e= .returned (.bool (Lib.contains s.data.toList sub.data.toList))/\w'=w:=Any.strings_Contains Tryz.lays144 s sub m w hs hm
end
end Go.Proofs
namespace Go.Proofs.YtbmbhcheonjigaaGreatDoor
section
open Go Go.Am Go.RowKit
theorem fr4{S:Pr}{w:World}(hG:Y2 E S w):∃m,w.cell? ⟨1,0,none⟩=some (.int .i64 m):=by
 obtain⟨_,x,h1,h2⟩:=hG.inv (1,at4 .i64) (by simp[E]);exact cr5 h1 h2
theorem hX:Z6 E:=by
 intro f args v h;have h':gp8 f args=some v:=h;unfold gp8 at h';split at h'
 ·rename_i hf;subst hf;split at h'
  ·rename_i s sub;split at h'
   ·rename_i hn;cases h';refine⟨⟨_,Tryz.func289,by kernel_rfl,by intro e;exact absurd e (by decide+kernel)⟩,rfl,λβ S D w us hd hG hS=>?_⟩;obtain rfl:us=[.string s,.string sub]:=by simpa[d9,den]using hd
    obtain⟨m,hm⟩:=fr4 hG;refine(Tryz.strings_Contains s sub m w hn hm).mono ?_;rintro e w' ⟨rfl,rfl⟩;exact⟨_,S,rfl,Below.refl _ _,by simp only[den],λ_ h=>h,λ_ h=>.inl h⟩
   ·cases h'
  ·cases h'
 split at h'
 ·rename_i hf;subst hf;split at h'
  ·rename_i s c;cases h';refine⟨⟨_,Tryz.func225,by kernel_rfl,by intro e;exact absurd e (by decide+kernel)⟩,rfl,λβ S D w us hd hG hS=>?_⟩;obtain rfl:us=[.string s,.int .u8 c]:=by simpa[d9,den]using hd
   refine(Tryz.strings_IndexByte s c w).mono ?_;rintro e w' ⟨rfl,rfl⟩;exact⟨_,S,rfl,Below.refl _ _,by simp only[den],λ_ h=>h,λ_ h=>.inl h⟩
  ·cases h'
 ·cases h'
theorem gd1:cm8 Tryz.prog=true:=by kernel_rfl
abbrev ab1:List (String×DataW Unit):=Rows.compileBuildRow.laid
theorem fz4{W:World}(h:laidMetH Tryz.prog ab1 W):laidMet Tryz.prog ab1 W:=by
 rw[MakeChecks.laidMetH_plain _ _ _ (by kernel_rfl)]at h;exact h
theorem gw8 : W0 Tryz.prog ab1 0 [hu0] := ⟨"perigee/unit.table", Rows.laid_perigee_unit_table, 245, 8, by simp [ab1, Rows.compileBuildRow], by kernel_rfl, by kernel_rfl, of_decide_eq_true (by kernel_rfl), by kernel_rfl, by simp⟩
theorem gs2 : W0 Tryz.prog ab1 2 eu6 := ⟨"perigee/types.operators", Rows.laid_perigee_types_operators, 318, 8, by simp [ab1, Rows.compileBuildRow], by kernel_rfl, by kernel_rfl, of_decide_eq_true (by kernel_rfl), by kernel_rfl, by simp [eu6]⟩
theorem gw5{W:World}(h:laidMetH Tryz.prog ab1 W)(hs:W.ShapedOpen Tryz.prog):Y2 E (· <W.heap.size) W:=by
 have hl:=fz4 h;refine Y2.of_laid (laid:=ab1) gd1 hl (λg cs hg=>?_) (λp hp=>?_)
 ·have hg':ff9 g=some cs:=hg;unfold ff9 at hg';split at hg'
  ·cases hg';exact gw8
  ·cases hg';exact gs2
  ·cases hg'
 ·simp only[E,List.mem_cons,List.mem_nil_iff,or_false]at hp;rcases hp with rfl;exact es0 (cell_of_shapedOpen_int (t:=3) (zero:=#[.int .i64 0]) hs (of_decide_eq_true (by kernel_rfl)) (by kernel_rfl) rfl (by kernel_rfl) (by kernel_rfl) (by kernel_rfl))
noncomputable def ab2(os:Os):World:=World.doorLaid Tryz.prog 4000 os
theorem fn8(os:Os)(args:Array Value):laidMet Tryz.prog ab1 ((ab2 os).forCall (λ_ _=>0) ⟨#[],args,[]⟩).memory:=
 laidMet_of_run' 8 (by kernel_rfl) (by kernel_rfl)
theorem gn1(os:Os)(args:Array Value):laidMetH Tryz.prog ab1 ((ab2 os).forCall (λ_ _=>0) ⟨#[],args,[]⟩).memory:=by
 rw[MakeChecks.laidMetH_plain _ _ _ (by kernel_rfl)];exact fn8 os args
end
section
open Go Go.Am Go.Proofs
abbrev FI:Type:=Nat->Int
abbrev FS:Type:=Nat->ByteArray
abbrev FL:Type:=Nat->List V
abbrev FM:Type:=Nat->Nat->List V
abbrev FN:Type:=Nat->Nat
abbrev SR:Type:=Int×Int×Int×Int×Nat×FI×FI×FS×FI×Nat×FS
abbrev SP:Type:=Int×Int×Nat×FI×FI×FS×FI×Nat×FS×Nat×FS
abbrev SB:Type:=Nat×FI×FI×FS×FI×Int×Int×Int×Int×Nat×FS
abbrev SC2:Type:=Nat×FI×FI×FS×FI×Int×Int×Nat×Nat×FS×FS
noncomputable def ftg{α γ:Type}(f:FuncId)(gd:List V->List (Option Z1)->Bool)(A:AR α)(R:γ->Z3)(c:α->Option γ)(ca:u9):u9:=gb0 f gd A (λz k=>k (R z)) c ca
noncomputable abbrev ftb{α γ:Type}(f:FuncId)(A:AR α)(R:γ->Z3)(c:α->Option γ)(ca:u9):u9:=ftg f (λ_ _=>true) A R c ca
theorem fk{E:Env}{α γ:Type}{f:FuncId}{gd:List V->List (Option Z1)->Bool}{A:AR α}{c:α->Option γ}{ca:u9}{R:γ->Z3}(h:Lw E f A R c)(hl:aF E ca):aF E (ftg f gd A R c ca):=ax7 h (λ_ _=>rfl) hl
abbrev n0:=@pS
abbrev n1:=@pK
abbrev n2:=@uM
abbrev n3:=@uO
abbrev hHR(x:SR):List (Option Z1):=[some (.blk [.ro 4 x.2.2.2.2.1 (λj=>[i64 (x.2.2.2.2.2.1 j),i64 (x.2.2.2.2.2.2.1 j),st (x.2.2.2.2.2.2.2.1 j),i64 (x.2.2.2.2.2.2.2.2.1 j)]),i64 x.1,i64 x.2.1,i64 x.2.2.1,i64 x.2.2.2.1,.sl 1 1 0 x.2.2.2.2.2.2.2.2.2.1]),some (.row 9 1 x.2.2.2.2.2.2.2.2.2.1 (λj=>[st (x.2.2.2.2.2.2.2.2.2.2 j)]))]
abbrev hHP(x:SP):List (Option Z1):=[some (.blk [.ro 4 x.2.2.1 (λj=>[i64 (x.2.2.2.1 j),i64 (x.2.2.2.2.1 j),st (x.2.2.2.2.2.1 j),i64 (x.2.2.2.2.2.2.1 j)]),i64 x.1,i64 x.2.1,.sl 1 1 0 x.2.2.2.2.2.2.2.1,.sl 2 1 0 x.2.2.2.2.2.2.2.2.2.1]),some (.row 9 1 x.2.2.2.2.2.2.2.1 (λj=>[st (x.2.2.2.2.2.2.2.2.1 j)])),some (.row 9 1 x.2.2.2.2.2.2.2.2.2.1 (λj=>[st (x.2.2.2.2.2.2.2.2.2.2 j)]))]
abbrev dTI(v:V)(n:Nat):FI:=λj=>vI ((aW v j).getD n .junk)
abbrev dTS(v:V)(n:Nat):FS:=λj=>vS ((aW v j).getD n .junk)
abbrev dCS(c:Option Z1):FS:=λj=>vS ((chF c j).getD 0 .junk)
def dHR(t:List (Option Z1)):SR:=
 let b:=chB (t.getD 0 none);let v:=b.getD 0 .junk
 (vI (b.getD 1 .junk),vI (b.getD 2 .junk),vI (b.getD 3 .junk),vI (b.getD 4 .junk),r7 v,dTI v 0,dTI v 1,dTS v 2,dTI v 3,aV (b.getD 5 .junk),dCS (t.getD 1 none))
def dHP(t:List (Option Z1)):SP:=
 let b:=chB (t.getD 0 none);let v:=b.getD 0 .junk
 (vI (b.getD 1 .junk),vI (b.getD 2 .junk),r7 v,dTI v 0,dTI v 1,dTS v 2,dTI v 3,aV (b.getD 3 .junk),dCS (t.getD 1 none),aV (b.getD 4 .junk),dCS (t.getD 2 none))
abbrev hRB{α:Type}(y:Nat×FI×FI×FS×FI×Int×Int×Int×Int×Nat×α):Z1:=.blk [.ro 4 y.1 (λj=>[i64 (y.2.1 j),i64 (y.2.2.1 j),st (y.2.2.2.1 j),i64 (y.2.2.2.2.1 j)]),i64 y.2.2.2.2.2.1,i64 y.2.2.2.2.2.2.1,i64 y.2.2.2.2.2.2.2.1,i64 y.2.2.2.2.2.2.2.2.1,.sl 1 1 0 y.2.2.2.2.2.2.2.2.2.1]
abbrev hRV{α:Type}(y:Nat×FI×FI×FS×FI×Int×Int×Int×Int×Nat×FS×α):Z1:=.row 9 1 y.2.2.2.2.2.2.2.2.2.1 (λj=>[st (y.2.2.2.2.2.2.2.2.2.2.1 j)])
abbrev gv8(y:Nat×FI×FI×FS×FI×Int×Int×Int×Int×Nat×FS):Z1:=.row 9 1 y.2.2.2.2.2.2.2.2.2.1 (λj=>[st (y.2.2.2.2.2.2.2.2.2.2 j)])
abbrev hPB{α:Type}(y:Nat×FI×FI×FS×FI×Int×Int×Nat×Nat×α):Z1:=.blk [.ro 4 y.1 (λj=>[i64 (y.2.1 j),i64 (y.2.2.1 j),st (y.2.2.2.1 j),i64 (y.2.2.2.2.1 j)]),i64 y.2.2.2.2.2.1,i64 y.2.2.2.2.2.2.1,.sl 1 1 0 y.2.2.2.2.2.2.2.1,.sl 2 1 0 y.2.2.2.2.2.2.2.2.1]
abbrev hPV{α:Type}(y:Nat×FI×FI×FS×FI×Int×Int×Nat×Nat×FS×α):Z1:=.row 9 1 y.2.2.2.2.2.2.2.1 (λj=>[st (y.2.2.2.2.2.2.2.2.2.1 j)])
abbrev hPQ{α:Type}(y:Nat×FI×FI×FS×FI×Int×Int×Nat×Nat×FS×FS×α):Z1:=.row 9 1 y.2.2.2.2.2.2.2.2.1 (λj=>[st (y.2.2.2.2.2.2.2.2.2.2.1 j)])
abbrev gz1(y:SC2):Z1:=.row 9 1 y.2.2.2.2.2.2.2.2.1 (λj=>[st (y.2.2.2.2.2.2.2.2.2.2 j)])
def x2{α β:Type}(R:α⊕β->Z3)(z:α⊕β)(k:Z3->Option Ans):Option Ans:=Sum.elim (λa=>k (R (.inl a))) (λb=>k (R (.inr b))) z
def x3{α β γ:Type}(R:α⊕β⊕γ->Z3)(z:α⊕β⊕γ)(k:Z3->Option Ans):Option Ans:=Sum.elim (λa=>k (R (.inl a))) (λb=>x2 (λb=>R (.inr b)) b k) z
def x4{α β γ δ:Type}(R:α⊕β⊕γ⊕δ->Z3)(z:α⊕β⊕γ⊕δ)(k:Z3->Option Ans):Option Ans:=Sum.elim (λa=>k (R (.inl a))) (λb=>x3 (λb=>R (.inr b)) b k) z
section
variable {α β γ δ ε:Type} {E:Env} {f:FuncId} {gd:List V->List (Option Z1)->Bool} {ca:u9}
theorem xe2{R:α⊕β->Z3}:∀z k,x2 R z k=k (R z):=λz k=>by rcases z with z|z<;>rfl
noncomputable def fg2(f:FuncId)(gd:List V->List (Option Z1)->Bool)(A:AR ε)(R:α⊕β->Z3)(c:ε->Option (α⊕β))(ca:u9):u9:=gb0 f gd A (x2 R) c ca
theorem fk2{A:AR ε}{R:α⊕β->Z3}{c:ε->Option (α⊕β)}(h:Lw E f A R c)(hl:aF E ca):aF E (fg2 f gd A R c ca):=ax7 h xe2 hl
def w1(T:α->Ex×St)(z:α)(k:KX):Option Ans:=k (T z).1 (T z).2
def w2(T:α⊕β->Ex×St)(z:α⊕β)(k:KX):Option Ans:=Sum.elim (λa=>w1 (λa=>T (.inl a)) a k) (λb=>w1 (λb=>T (.inr b)) b k) z
def w3(T:α⊕β⊕γ->Ex×St)(z:α⊕β⊕γ)(k:KX):Option Ans:=Sum.elim (λa=>w1 (λa=>T (.inl a)) a k) (λb=>w2 (λb=>T (.inr b)) b k) z
def w4(T:α⊕β⊕γ⊕δ->Ex×St)(z:α⊕β⊕γ⊕δ)(k:KX):Option Ans:=Sum.elim (λa=>w1 (λa=>T (.inl a)) a k) (λb=>w3 (λb=>T (.inr b)) b k) z
noncomputable def lt4(id:Nat)(gd:St->Bool)(b:Z5)(S:ε->St)(T:α⊕β⊕γ⊕δ->Ex×St)(p:ε->Option (α⊕β⊕γ⊕δ))(lo:aE):aE:=ez9 id gd b S (w4 T) p lo
variable {id:Nat} {gs:St->Bool} {b:Z5} {S:ε->St} {lo:aE}
theorem lk4{T:α⊕β⊕γ⊕δ->Ex×St}{p:ε->Option (α⊕β⊕γ⊕δ)}(h:Ll E b S T p)(hl:bQ E lo):bQ E (lt4 id gs b S T p lo):=bq8 h (λz k=>by rcases z with z|z|z|z<;>rfl) hl
theorem slp{S:α->St}{T:γ->Ex×St}{st:α->Option (α⊕γ)}{live:Nat}{ms:List (Nat×Nat)}{r:Nat}{c:Z5}(hC:aF E ca)(hX:Z6 E)
 (tr:∀lo x,nG E ca lo id live c (S x) (KCM ms r)=(st x).bind λr'=>Sum.elim (λy=>lo id live c (S y) (KCM ms r)) (λz=>some (.l (T z).1 (T z).2)) r')
 (kT:∀z,KCM ms r (T z).1 (T z).2=some (.l (T z).1 (T z).2)) (n:Nat):Ll E c S T (lpG st n):=SL.lp (LT:=λlo=>lo) hC hX (λ_ h=>h) tr kT n
end
def cb(s:St)(i k:Nat):V:=(chB (s.H i)).getD k .junk
def cc(t:TT)(i k:Nat):V:=(chB (t.2.getD i none)).getD k .junk
def ca(t:TT)(i k:Nat):V:=(vAg (t.1.getD i .junk)).getD k .junk
def ag(t:TT)(i:Nat):V:=t.1.getD i .junk
def co(t:TT)(i:Nat):Option Z1:=t.2.getD i none
def fv(s:St)(k:Nat):V:=s.fr.getD k .junk
abbrev dMI(c:Option Z1)(n:Nat):ByteArray->Int:=λj=>vI ((vAg (smF c j)).getD n .junk)
abbrev dTN(v:V)(n:Nat):FN:=λj=>r7 ((aW v j).getD n .junk)
abbrev dTF(v:V)(n:Nat):FM:=λj=>aW ((aW v j).getD n .junk)
abbrev dRI(c:Option Z1)(n:Nat):FI:=λj=>vI ((chF c j).getD n .junk)
abbrev dRS(c:Option Z1)(n:Nat):FS:=λj=>vS ((chF c j).getD n .junk)
abbrev dRN(c:Option Z1)(n:Nat):FN:=λj=>r7 ((chF c j).getD n .junk)
abbrev dRF(c:Option Z1)(n:Nat):FM:=λj=>aW ((chF c j).getD n .junk)
abbrev j0:V:=.sc (.slice none 0 0)
noncomputable def E5:Env:={P:=Tryz.prog,glob:=ff9,ext:=λ_ _=>none,way:=way,lit:=hs0,code:=λf=>(Tryz.prog.funcs[f]?).bind gb2,sett:=λ_=>true,rows:=true,dfn:=hu3,idle:=fb6,inv:=[(1,at4 .i64)]}
set_option maxRecDepth 100000 in
theorem hW5:WF E5:=WF.of E5 (λ_=>rfl) (by kernel_rfl) hW.1.1
theorem hX5:Z6 E5:=Z6.none λ_ _=>rfl
theorem sc5{f:FuncId}{args:List V}{L:List (Option Z1)}{cr:Z3}:SC E5 f args L cr↔SC E f args L cr:=
 ⟨λh=>⟨h.1,λβ S w us h1 h2 h3=>h.2 β S w us h1 h2 ⟨h3.rd,h3.inv⟩⟩,λh=>⟨h.1,λβ S w us h1 h2 h3=>h.2 β S w us h1 h2 ⟨h3.rd,h3.inv⟩⟩⟩
def K:Z3->Option Ans:=λr=>some (.c r)
abbrev w(n:Int):Int:=IntKind.wrap .i64 n
def jk(n:Nat):List V:=List.replicate n .junk
abbrev ak8:Type:=ByteArray×ByteArray
def bq4:AR ak8:=λx=>([st x.1,st x.2],[])
theorem eo1:VI bq4:=vd λt=>(vS (ag t 0),vS (ag t 1))
def aX:Bool->Z3:=λz=>.ret (bo z) []
noncomputable def aq4(q:Nat)(x:ak8):Option Bool:=if x.1.size<4294967281 then some (Lib.contains x.1.data.toList x.2.data.toList)else none
theorem ec8(q:Nat):Lw E5 289 bq4 aX (aq4 q):=by
 rintro⟨s,u⟩ z h;unfold aq4 at h;split at h
 ·rename_i hn;cases h
  exact sc5.2 (SC.ext hX (by
   show gp8 289 [st s,st u]=_;simp only[gp8,if_pos,st]
   exact if_pos hn))
 ·cases h
abbrev l7:Type:=Int×Int×Int×Int×Int×Int×Bool
def j7:AR ByteArray:=λx=>([st x],[])
theorem l5:VI j7:=vd λt=>(vS (ag t 0))
def ee7:l7->Z3:=λz=>.ret (.tup [.agg [i64 z.1,i64 z.2.1,i64 z.2.2.1,i64 z.p3,i64 z.p4],i64 z.p5,bo z.q6]) []
abbrev uL{β:Type}(x:ByteArray)(dn:l7->Option β):Option β:=
 if(ByteArray.toList ⟨#[74]⟩==x.toList) then dn (1,0,0,0,0,1,true)else if(ByteArray.toList ⟨#[107,74]⟩==x.toList) then dn (1,0,0,0,0,1000,true)else if(ByteArray.toList ⟨#[87,104]⟩==x.toList) then dn (1,0,0,0,0,3600,true)else if(ByteArray.toList ⟨#[66]⟩==x.toList) then dn (0,1,0,0,0,1,true)else if(ByteArray.toList ⟨#[107,66]⟩==x.toList) then dn (0,1,0,0,0,1000,true)else if(ByteArray.toList ⟨#[115]⟩==x.toList) then dn (0,0,1,0,0,1,true)else if(ByteArray.toList ⟨#[109,105,110]⟩==x.toList) then dn (0,0,1,0,0,60,true)else if(ByteArray.toList ⟨#[104]⟩==x.toList) then dn (0,0,1,0,0,3600,true)else if(ByteArray.toList ⟨#[100,101,103]⟩==x.toList) then dn (0,0,0,1,0,1,true)else if(ByteArray.toList ⟨#[75]⟩==x.toList) then dn (0,0,0,0,1,1,true)else if(ByteArray.toList ⟨#[87]⟩==x.toList) then dn (1,0,(-1),0,0,1,true)else if(ByteArray.toList ⟨#[107,87]⟩==x.toList) then dn (1,0,(-1),0,0,1000,true)else if(ByteArray.toList ⟨#[66,112,115]⟩==x.toList) then dn (0,1,(-1),0,0,1,true)else dn (0,0,0,0,0,0,false)
noncomputable def dG(q:Nat)(x:ByteArray):Option l7:=uL x some
theorem tW(q:Nat):Lw E5 95 j7 ee7 (dG q):=have K:=kn;sl hW5 hX5 K (λx=>(lu [0] hX5 K ln)) λc l β=>uL (β:=β)
def pF:Int->Z3:=λz=>.ret (i64 z) []
abbrev ba0{β:Type}(x:ByteArray)(dn:Int->Option β):Option β:=
 if(x.toList==ByteArray.toList ⟨#[124,124]⟩) then dn (1)else if(x.toList==ByteArray.toList ⟨#[38,38]⟩) then dn (2)else if(x.toList==ByteArray.toList ⟨#[60]⟩) then dn (4)else if(x.toList==ByteArray.toList ⟨#[60,61]⟩) then dn (4)else if(x.toList==ByteArray.toList ⟨#[62]⟩) then dn (4)else if(x.toList==ByteArray.toList ⟨#[62,61]⟩) then dn (4)else if(x.toList==ByteArray.toList ⟨#[61,61]⟩) then dn (4)else if(x.toList==ByteArray.toList ⟨#[33,61]⟩) then dn (4)else if(x.toList==ByteArray.toList ⟨#[43]⟩) then dn (5)else if(x.toList==ByteArray.toList ⟨#[45]⟩) then dn (5)else if(x.toList==ByteArray.toList ⟨#[42]⟩) then dn (6)else if(x.toList==ByteArray.toList ⟨#[47]⟩) then dn (6)else dn (0)
noncomputable def rP(q:Nat)(x:ByteArray):Option Int:=ba0 x some
theorem ev3(q:Nat):Lw E5 334 j7 pF (rP q):=so hW5 hX5 kn λc β=>ba0 (β:=β)
abbrev t6:Type:=Int×SP
abbrev o8:Type:=Int×Int
def bq3:AR t6:=λx=>([.ptr 0 0,i64 x.1],(hHP x.2))
theorem jA:VI bq3:=vd λt=>((vI (ag t 1)),dHP t.2)
def hk4:o8->Z3:=λz=>.pan (.ifc 161 (.agg [i64 z.1,i64 z.2]))
abbrev ev6{β:Type}(x:t6)(dn:o8->Option β):Option β:=
 U7 x λA B C D E F G=>if 0<=B/\B< (D:Int)then dn (F (Int.toNat B),A)else none
noncomputable def fail(q:Nat)(x:t6):Option o8:=ev6 x some
theorem wV(q:Nat):Lw E5 159 bq3 hk4 (fail q):=so hW5 hX5 kn λc β=>ev6 (β:=β)
abbrev bJ:Type:=Int×Int×ByteArray×Int×SP
def l8:AR SP:=λx=>([.ptr 0 0],(hHP x))
theorem s9:VI l8:=vd λt=>(dHP t.2)
def bc0:bJ->Z3:=λz=>.ret (.agg [i64 z.1,i64 z.2.1,st z.2.2.1,i64 z.p3]) (hHP z.q4)
abbrev en6{β:Type}(x:SP)(dn:bJ->Option β):Option β:=
 U8 x λA B C D E F G H=>if 0<=A/\A< (C:Int)then dn (D (Int.toNat A),E (Int.toNat A),F (Int.toNat A),G (Int.toNat A),x)else none
noncomputable def next(q:Nat)(x:SP):Option bJ:=en6 x some
theorem lV(q:Nat):Lw E5 89 l8 bc0 (next q):=so hW5 hX5 kn λc β=>en6 (β:=β)
abbrev bZ:Type:=ByteArray×SP
abbrev nO:Type:=Bool×SP
def ge7:AR bZ:=λx=>([.ptr 0 0,st x.1],(hHP x.2))
theorem rM:VI ge7:=vd λt=>((vS (ag t 1)),dHP t.2)
def hr5:nO->Z3:=λz=>.ret (bo z.1) (hHP z.2)
abbrev hi5{β:Type}(x:bZ)(dn:nO->Option β):Option β:=
 U8 x λA B C D E F G H=>if 0<=B/\B< (D:Int)then dn (ByteArray.toList (G (Int.toNat B))==A.toList,x.2)else none
noncomputable def is(q:Nat)(x:bZ):Option nO:=hi5 x some
theorem cl7(q:Nat):Lw E5 288 ge7 hr5 (is q):=so hW5 hX5 kn λc β=>hi5 (β:=β)
abbrev et2{β:Type}(A:bZ->Option nO)(x:bZ)(dn:nO->Option β):Option β:=
 (A x).bind λa=>if a.1 then dn (true,w (a.2.1+1),a.2.2)else dn (false,a.2)
noncomputable def take(q:Nat)(x:bZ):Option nO:=et2 (is q) x some
theorem au9(q:Nat):Lw E5 226 ge7 hr5 (take q):=so hW5 hX5 (kc rM (cl7 q) kn) λc β=>et2 (β:=β) c.1
abbrev bT:Type:=(SP)⊕(Int×Int)
def gb9:bT->Z3:=Sum.elim (λz:SP=>.ret (.tup []) (hHP z)) (λz:Int×Int=>.pan (.ifc 161 (.agg [i64 z.1,i64 z.2])))
abbrev ey5{β:Type}(A:bZ->Option nO)(B:t6->Option o8)(x:bZ)(dn:bT->Option β):Option β:=
 (A x).bind λa=>if(!a.1) then(B (11,a.2)).bind λb=>dn (.inr b)else dn (.inl a.2)
noncomputable def uR(q:Nat)(x:bZ):Option bT:=ey5 (take q) (fail q) x some
theorem sP(q:Nat):Lw E5 157 ge7 gb9 (uR q):=so hW5 hX5 (kc rM (au9 q) (kc jA (wV q) kn)) λc β=>ey5 (β:=β) c.1 c.2.1
abbrev de4{β:Type}(A:bZ->Option nO)(B:t6->Option o8)(x:bZ)(dn:bT->Option β):Option β:=
 (A x).bind λa=>if(!a.1) then(B (11,a.2)).bind λb=>dn (.inr b)else if(a.2.2.1==12) then(B (2,a.2)).bind λc=>dn (.inr c)else dn (.inl (w (a.2.1+1),w (a.2.2.1+1),a.2.2.2))
noncomputable def nC(q:Nat)(x:bZ):Option bT:=de4 (is q) (fail q) x some
theorem bz3(q:Nat):Lw E5 229 ge7 gb9 (nC q):=so hW5 hX5 (kc rM (cl7 q) (kc jA (wV q) kn)) λc β=>de4 (β:=β) c.1 c.2.1
abbrev al0{β:Type}(A:ak8->Option Bool)(x:ByteArray)(dn:Bool->Option β):Option β:=
 if 1+x.size<=maxLen then if ByteArray.size (⟨#[32]⟩++x)+1<=maxLen then(A ({data:=List.toArray (List.append [32,112,114,111,99,101,100,117,114,101,32,108,101,116,32,105,102,32,101,108,115,101,32,114,101,112,101,97,116,32,119,97,105,116,32,97,119,97,105,116,32,119,105,116,104,105,110,32,114,101,113,117,105] [114,101,32,112,111,105,110,116,32,117,115,101,32,102,111,114,32,115,101,110,100,32,107,101,101,112,32,101,109,105,116,32,97,98,111,114,116,32,116,114,117,101,32,102,97,108,115,101,32,116,108,109,32])},⟨#[32]⟩++x++⟨#[32]⟩)).bind λa=>dn a else none else none
noncomputable def tI(q:Nat)(x:ByteArray):Option Bool:=al0 (aq4 q) x some
theorem dl8(q:Nat):Lw E5 227 j7 aX (tI q):=so hW5 hX5 (kc eo1 (ec8 q) kn) λc β=>al0 (β:=β) c.1
abbrev fK:Type:=(ByteArray×SP)⊕(Int×Int)
def gm5:fK->Z3:=Sum.elim (λz:ByteArray×SP=>.ret (st z.1) (hHP z.2)) (λz:Int×Int=>.pan (.ifc 161 (.agg [i64 z.1,i64 z.2])))
abbrev eq3{β:Type}(A:SP->Option bJ)(B:ByteArray->Option Bool)(C:t6->Option o8)(x:SP)(dn:fK->Option β):Option β:=
 (A x).bind λa=>if(a.1 !=1) then(C (11,a.2.2.2.2)).bind λb=>dn (.inr b)else(B a.2.2.1).bind λc=>if c then(C (11,a.2.2.2.2)).bind λd=>dn (.inr d)else dn (.inl (a.2.2.1,w (a.2.2.2.2.1+1),a.2.2.2.2.2))
noncomputable def name(q:Nat)(x:SP):Option fK:=eq3 (next q) (tI q) (fail q) x some
theorem bn9(q:Nat):Lw E5 158 l8 gm5 (name q):=so hW5 hX5 (kc s9 (lV q) (kc l5 (dl8 q) (kc jA (wV q) kn))) λc β=>eq3 (β:=β) c.1 c.2.1 c.2.2.1
abbrev kJ:Type:=ByteArray×Nat×Int×Nat×FI×FI×FS×FI×Int×Int×Nat×FS×FS×Int
abbrev oH:Type:=(Int×Int)⊕(ByteArray×SC2)
def cy1(x:SP)(y:kJ):St:={fr:=[V.ptr 0 0,V.junk,V.junk,st y.1]++jk 14++[V.sl 1 1 0 y.2.1,i64 y.2.2.1,i64 y.q13]++jk 35,H:=hp [some (Z1.blk [V.ro 4 y.p3 λj=>[i64 (y.p4 j),i64 (y.p5 j),st (y.p6 j),i64 (y.p7 j)],i64 y.p8,i64 y.p9,V.sl 1 1 0 y.2.1,V.sl 2 1 0 y.p10]),some (Z1.row 9 1 y.2.1 λj=>[st (y.p11 j)]),some (Z1.row 9 1 y.p10 λj=>[st (y.p12 j)])],nx:=3,rt:=1,me:=228}
theorem dh4(x:SP):VL (cy1 x):=vl λs=>((vS (fv s 3)),aV (fv s 18),vI (fv s 19),r7 (cb s 0 0),dTI (cb s 0 0) 0,dTI (cb s 0 0) 1,dTS (cb s 0 0) 2,dTI (cb s 0 0) 3,vI (cb s 0 1),vI (cb s 0 2),aV (cb s 0 4),dRS (s.H 1) 0,dRS (s.H 2) 0,vI (fv s 20))
def ct6(x:SP):oH->Ex×St:=(Sum.elim (λz=>(Ex.panic (V.ifc 161 (V.agg [i64 z.1,i64 z.2])),{fr:=[V.junk]++jk 55,H:=hp [none],nx:=1,rt:=1,me:=228})) (λz=>(Ex.exit 0,{fr:=[V.ptr 0 0,V.junk,V.junk,st z.1]++jk 52,H:=hp [some (hPB z.2),some (hPV z.2),some (gz1 z.2)],nx:=3,rt:=1,me:=228})))
abbrev jZ{β:Type}(A:SP->Option fK)(B:t6->Option o8)(x:SP)(y:kJ)(nx:kJ->Option β)(dn:oH->Option β):Option β:=
 U14 y λA C D E F G H I J K L M N O=>if decide (O<D) then if 0<=O/\O< (C:Int)then if 0+Int.toNat O<C/\1=1 then if(ByteArray.toList (M (0+Int.toNat O))==A.toList) then(B (4,J,K,E,F,G,H,I,C,M,L,N)).bind λa=>dn (.inl a)else nx (A,C,D,E,F,G,H,I,J,K,L,M,N,w (O+1))else none else none else dn (.inr (A,E,F,G,H,I,J,K,C,L,M,N))
noncomputable def bv4(A:SP->Option fK)(B:t6->Option o8)(q:Nat)(x:SP):kJ->Option oH:=lpG (λy=>jZ A B x y (λy=>some (.inl y)) (λz=>some (.inr z))) q
abbrev ax4{β:Type}(A:SP->Option fK)(B:t6->Option o8)(C:kJ->Option oH)(x:SP)(dn:fK->Option β):Option β:=
 (A x).bind λa=>Sum.elim (λb=>(C (b.1,b.2.2.2.2.2.2.2.2.1,(b.2.2.2.2.2.2.2.2.1:Int),b.2.2.2.1,b.2.2.2.2.1,b.2.2.2.2.2.1,b.2.2.2.2.2.2.1,b.2.2.2.2.2.2.2.1,w (b.2.1-1),b.2.2.1,b.2.2.2.2.2.2.2.2.2.2.1,b.2.2.2.2.2.2.2.2.2.1,b.2.2.2.2.2.2.2.2.2.2.2,0)).bind λc=>Sum.elim (λd=>dn (.inr d)) (λe=>if((e.2.2.2.2.2.2.2.2.1:Int)==12) then(B (2,e.2.2.2.2.2.2.1,e.2.2.2.2.2.2.2.1,e.2.1,e.2.2.1,e.2.2.2.1,e.2.2.2.2.1,e.2.2.2.2.2.1,e.2.2.2.2.2.2.2.2.1,e.2.2.2.2.2.2.2.2.2.2.1,e.2.2.2.2.2.2.2.2.2.1,e.2.2.2.2.2.2.2.2.2.2.2)).bind λf=>dn (.inr f)else if(e.2.2.2.2.2.2.2.2.1+1)*16<=b6/\e.2.2.2.2.2.2.2.2.1+1<=maxLen/\e.2.2.2.2.2.2.2.2.1<=e.2.2.2.2.2.2.2.2.1 then dn (.inl (e.1,w (e.2.2.2.2.2.2.1+1),e.2.2.2.2.2.2.2.1,e.2.1,e.2.2.1,e.2.2.2.1,e.2.2.2.2.1,e.2.2.2.2.2.1,e.2.2.2.2.2.2.2.2.1+1,λj=>if j<e.2.2.2.2.2.2.2.2.1 then e.2.2.2.2.2.2.2.2.2.2.1 j else e.1,e.2.2.2.2.2.2.2.2.2.1,e.2.2.2.2.2.2.2.2.2.2.2))else none) c) (λg=>dn (.inr g)) a
noncomputable def wB(q:Nat)(x:SP):Option fK:=ax4 (name q) (fail q) (bv4 (name q) (fail q) q x) x some
theorem bv9(q:Nat):Lw E5 228 l8 gm5 (wB q):=have K:=(kc s9 (bn9 q) (kc jA (wV q) kn));sl hW5 hX5 K (λx=>(lc 0 (dh4 x) (lp hX5 (ct6 x) 228 0 1835017 [(0,9)] 4 K ln q λc l β=>jZ (β:=β) c.1 c.2.1 x) ln)) λc l β=>ax4 (β:=β) c.1 c.2.1 l.1
abbrev tX:Type:=Int×Int×SP
abbrev tV:Type:=(Int×SP)⊕(Int×Int)
def ec3:AR tX:=λx=>([.ptr 0 0,i64 x.1,i64 x.2.1],(hHP x.2.2))
theorem by3:VI ec3:=vd λt=>((vI (ag t 1)),vI (ag t 2),dHP t.2)
def go8:tV->Z3:=Sum.elim (λz:Int×SP=>.ret (i64 z.1) (hHP z.2)) (λz:Int×Int=>.pan (.ifc 161 (.agg [i64 z.1,i64 z.2])))
abbrev cc7{β:Type}(A:SP->Option bJ)(B:t6->Option o8)(x:tX)(dn:tV->Option β):Option β:=
 (A x.2.2).bind λa=>if(a.1 !=2) then(B (11,a.2.2.2.2)).bind λb=>dn (.inr b)else if decide (a.2.2.2.1<x.1) then(B (5,a.2.2.2.2)).bind λc=>dn (.inr c)else if decide (a.2.2.2.1>x.2.1) then(B (5,a.2.2.2.2)).bind λd=>dn (.inr d)else dn (.inl (a.2.2.2.1,w (a.2.2.2.2.1+1),a.2.2.2.2.2))
noncomputable def nR(q:Nat)(x:tX):Option tV:=cc7 (next q) (fail q) x some
theorem az5(q:Nat):Lw E5 331 ec3 go8 (nR q):=so hW5 hX5 (kc s9 (lV q) (kc jA (wV q) kn)) λc β=>cc7 (β:=β) c.1 c.2.1
theorem ha7{f:FuncId}{args:List V}{L H:List (Option Z1)}{a b:Int}{s:ByteArray}{g:Nat->List V}(h:SC E5 f args L (.ret (.agg [i64 a,i64 b,st s,j0]) H)):SC E5 f args L (.ret (.agg [i64 a,i64 b,st s,.ro 4 0 g]) H):=
 AG h (Le.agg (AE (AD _) (AE (AD _) (AE (AD _) (AE AH AF)))))
theorem ho0{f:FuncId}{args:List V}{L:List (Option Z1)}{a b pa po:Int}{s:ByteArray}{tn nv np m:Nat}{tf vf pf g:Nat->List V}
 (h:SC E5 f args L (.ret (.agg [i64 a,i64 b,st s,.sl 3 4 0 m]) [some (.blk [.ro 4 tn tf,i64 pa,i64 po,.sl 1 1 0 nv,.sl 2 1 0 np]),some (.row 9 1 nv vf),some (.row 9 1 np pf),some (.row 37 4 m g)])):
 SC E5 f args L (.ret (.agg [i64 a,i64 b,st s,.ro 4 m g]) [some (.blk [.ro 4 tn tf,i64 pa,i64 po,.sl 1 1 0 nv,.sl 2 1 0 np]),some (.row 9 1 nv vf),some (.row 9 1 np pf)]):=by
 have h2:=SC.giveM (L2:=[some (.blk [.ro 4 tn tf,i64 pa,i64 po,.sl 1 1 0 nv,.sl 2 1 0 np]),some (.row 9 1 nv vf),some (.row 9 1 np pf)]) 3 h (by rfl) (by simp[V.bw,V.bw2,V.bw1,hp,V.pure,n4]);simpa[V.bw,V.bw2,V.bw1,hp]using h2
theorem cs3{f:FuncId}{args:List V}{L:List (Option Z1)}{a b pa po:Int}{s:ByteArray}{tn nv np m:Nat}{tf vf pf g:Nat->List V}
 (h:SC E5 f args L (.ret (.agg [i64 a,i64 b,st s,.sl 3 4 0 m]) [some (.blk [.ro 4 tn tf,i64 pa,i64 po,.sl 1 1 0 nv,.sl 2 1 0 np]),some (.row 9 1 nv vf),some (.row 9 1 np pf),some (.row 37 4 m g)])):
 SC E5 f args L (.ret (.agg [i64 a,i64 b,st s,.ro 4 m g]) [some (.blk [.ro 4 tn tf,i64 pa,i64 po,.sl 1 1 0 nv,.sl 2 1 0 np]),some (.row 9 1 nv vf),some (.row 9 1 np pf)]):=ho0 h
theorem hv6{f:FuncId}{args:List V}{L:List (Option Z1)}{a b pa po:Int}{s:ByteArray}{tn nv np m:Nat}{tf vf pf g:Nat->List V}
 (h:SC E5 f args L (.ret (.agg [i64 a,i64 b,st s,.sl 3 4 0 m]) [some (.blk [.ro 4 tn tf,i64 pa,i64 po,.sl 1 1 0 nv,.sl 2 1 0 np]),some (.row 9 1 nv vf),some (.row 9 1 np pf),some (.row 37 4 m g)])):
 SC E5 f args L (.ret (.agg [i64 a,i64 b,st s,.ro 4 m (λj=>fixC (g j))]) [some (.blk [.ro 4 tn tf,i64 pa,i64 po,.sl 1 1 0 nv,.sl 2 1 0 np]),some (.row 9 1 nv vf),some (.row 9 1 np pf)]):=
 AG (ho0 h) (Le.agg (AE (AD _) (AE (AD _) (AE (AD _) (AE Le.ro_fix AF)))))
abbrev qY:Type:=(Int×Int×ByteArray×SP)⊕(Int×Int)
def bo1:qY->Z3:=Sum.elim (λz:Int×Int×ByteArray×SP=>.ret (.agg [i64 z.1,i64 z.2.1,st z.2.2.1,j0]) (hHP z.q3)) (λz:Int×Int=>.pan (.ifc 161 (.agg [i64 z.1,i64 z.2])))
abbrev an0{β:Type}(A:tX->Option tV)(B:SP->Option bJ)(C:ByteArray->Option l7)(x:SP)(dn:qY->Option β):Option β:=
 (A (0,2147483647,x)).bind λa=>Sum.elim (λb=>(B b.2).bind λc=>if(c.1==1) then(C c.2.2.1).bind λd=>if d.2.2.2.2.2.2 then dn (.inl (15,b.1,c.2.2.1,w (c.2.2.2.2.1+1),c.2.2.2.2.2))else dn (.inl (15,b.1,⟨#[]⟩,c.2.2.2.2))else dn (.inl (15,b.1,⟨#[]⟩,c.2.2.2.2))) (λe=>dn (.inr e)) a
noncomputable def cd5(q:Nat)(x:SP):Option qY:=an0 (nR q) (next q) (dG q) x some
theorem dz0(q:Nat):Lw E5 332 l8 bo1 (cd5 q):=so hW5 hX5 (kc by3 (az5 q) (kc s9 (lV q) (kc l5 (tW q) kn))) λc β=>an0 (β:=β) c.1 c.2.1 c.2.2.1
abbrev b7:Type:=(Int×Int×ByteArray×Nat×FL×SP)⊕(Int×Int)
def j5:b7->Z3:=Sum.elim (λz:Int×Int×ByteArray×Nat×FL×SP=>.ret (.agg [i64 z.1,i64 z.2.1,st z.2.2.1,.ro 4 z.p3 z.p4]) (hHP z.q5)) (λz:Int×Int=>.pan (.ifc 161 (.agg [i64 z.1,i64 z.2])))
def ak4:qY->b7:=Sum.elim (λz=>.inl (z.1,z.2.1,z.2.2.1,0,λ_=>[],z.2.2.2)) (λz=>.inr z)
theorem dl5{args:List V}{L:List (Option Z1)}(z:qY)(h:SC E5 332 args L (bo1 z)):SC E5 332 args L (j5 (ak4 z)):=by
 rcases z with z|z
 ·exact ha7 h
 ·exact h
noncomputable def pA(q:Nat)(x:SP):Option b7:=(cd5 q x).map ak4
theorem vN(q:Nat):Lw E5 332 l8 j5 (pA q):=by
 intro x z h;obtain⟨y,hy,rfl⟩:=Option.map_eq_some_iff.1 h;exact dl5 y (dz0 q x y hy)
abbrev rV:Type:=ByteArray×Int×SP
def dc9:AR rV:=λx=>([.ptr 0 0,st x.1,i64 x.2.1],(hHP x.2.2))
theorem gw0:VI dc9:=vd λt=>((vS (ag t 1)),vI (ag t 2),dHP t.2)
abbrev bm2:Type:=(Int×Int×ByteArray×Nat×FL×SP)⊕(Int×Int)⊕(Int×Int×ByteArray×Int×Int×ByteArray×Nat×FL×Int×Int×ByteArray×Nat×FL×SP)
def gz0:bm2->Z3:=Sum.elim (λz:Int×Int×ByteArray×Nat×FL×SP=>.ret (.agg [i64 z.1,i64 z.2.1,st z.2.2.1,.ro 4 z.p3 z.p4]) (hHP z.q5)) (Sum.elim (λz:Int×Int=>.pan (.ifc 161 (.agg [i64 z.1,i64 z.2]))) (λz:Int×Int×ByteArray×Int×Int×ByteArray×Nat×FL×Int×Int×ByteArray×Nat×FL×SP=>.ret (.agg [i64 z.1,i64 z.2.1,st z.2.2.1,.sl 3 4 0 2]) [some (.blk [.ro 4 z.p15 (λj=>[i64 (z.p16 j),i64 (z.p17 j),st (z.p18 j),i64 (z.p19 j)]),i64 z.p13,i64 z.p14,.sl 1 1 0 z.p20,.sl 2 1 0 z.p22]),some (.row 9 1 z.p20 (λj=>[st (z.p21 j)])),some (.row 9 1 z.p22 (λj=>[st (z.q23 j)])),some (.row 37 4 2 (cN [[i64 z.p3,i64 z.p4,st z.p5,.ro 4 z.p6 z.p7],[i64 z.p8,i64 z.p9,st z.p10,.ro 4 z.p11 z.p12]]))]))
abbrev x6:Type:=(Int×Int×ByteArray×Int×Int×ByteArray×Nat×FL×SP)⊕(Int×Int)
def iH:x6->Z3:=Sum.elim (λz:Int×Int×ByteArray×Int×Int×ByteArray×Nat×FL×SP=>.ret (.agg [i64 z.1,i64 z.2.1,st z.2.2.1,.sl 3 4 0 1]) [some (.blk [.ro 4 z.p10 (λj=>[i64 (z.p11 j),i64 (z.p12 j),st (z.p13 j),i64 (z.p14 j)]),i64 z.p8,i64 z.p9,.sl 1 1 0 z.p15,.sl 2 1 0 z.p17]),some (.row 9 1 z.p15 (λj=>[st (z.p16 j)])),some (.row 9 1 z.p17 (λj=>[st (z.q18 j)])),some (.row 37 4 1 (cN [[i64 z.p3,i64 z.p4,st z.p5,.ro 4 z.p6 z.p7]]))]) (λz:Int×Int=>.pan (.ifc 161 (.agg [i64 z.1,i64 z.2])))
abbrev vG:Type:=(Int×Int×ByteArray×Nat×FL×SP)⊕(Int×Int)⊕(Int×Int×ByteArray×SP)
def ep0:vG->Z3:=Sum.elim (λz:Int×Int×ByteArray×Nat×FL×SP=>.ret (.agg [i64 z.1,i64 z.2.1,st z.2.2.1,.ro 4 z.p3 z.p4]) (hHP z.q5)) (Sum.elim (λz:Int×Int=>.pan (.ifc 161 (.agg [i64 z.1,i64 z.2]))) (λz:Int×Int×ByteArray×SP=>.ret (.agg [i64 z.1,i64 z.2.1,st z.2.2.1,j0]) (hHP z.q3)))
abbrev iT:Type:=(Nat×FI×FI×FS×FI×Int×Int×Nat×Nat×FS×FS×Int×Int×ByteArray×Nat×FL)⊕(Nat×FI×FI×FS×FI×Int×Int×Nat×Nat×FS×FS×ByteArray×Int×Int×ByteArray×Nat×FL×Int×Int×ByteArray×Nat×FL)
abbrev lM:Type:=(Nat×FI×FI×FS×FI×Int×Int×Nat×Nat×FS×FS×ByteArray×Int×Int×ByteArray×Nat×FL×Int×Int×ByteArray×Nat×FL)⊕(Int×Int)⊕(Nat×FI×FI×FS×FI×Int×Int×Nat×Nat×FS×FS×Int×Int×ByteArray×Nat×FL)
def dz6(x:t6)(y:Nat×FI×FI×FS×FI×Int×Int×Nat×Nat×FS×FS×Int×Int×ByteArray×Nat×FL):St:={fr:=[V.ptr 0 0,i64 x.1,V.junk,V.junk,V.ptr 3 0,V.ptr 4 0]++jk 61,H:=hp [some (hPB y),some (hPV y),some (hPQ y),some (Z1.blk [i64 0,i64 0,st ⟨#[]⟩,j0]),some (Z1.blk [i64 y.p11,i64 y.p12,st y.p13,V.ro 4 y.p14 y.q15])],nx:=5,rt:=1,me:=330}
def dp4(x:t6)(y:Nat×FI×FI×FS×FI×Int×Int×Nat×Nat×FS×FS×ByteArray×Int×Int×ByteArray×Nat×FL×Int×Int×ByteArray×Nat×FL):St:={fr:=[V.ptr 0 0,i64 x.1,V.junk,V.junk,V.ptr 3 0,V.ptr 4 0]++jk 61,H:=hp [some (hPB y),some (hPV y),some (hPQ y),some (Z1.blk [i64 0,i64 0,st ⟨#[]⟩,j0]),some (Z1.blk [i64 20,i64 0,st y.p11,V.sl 5 4 0 2]),some (Z1.row 37 4 2 (cN [[i64 y.p12,i64 y.p13,st y.p14,V.ro 4 y.p15 y.p16],[i64 y.p17,i64 y.p18,st y.p19,V.ro 4 y.p20 y.q21]]))],nx:=6,rt:=1,me:=330}
def eh6(x:t6):iT->St:=(Sum.elim (dz6 x) (dp4 x))
theorem es6(x:t6):VL (eh6 x):=vl λs=>(match s.nx==5 with|true=>(.inl (((r7 (cb s 0 0)),dTI (cb s 0 0) 0,dTI (cb s 0 0) 1,dTS (cb s 0 0) 2,dTI (cb s 0 0) 3,vI (cb s 0 1),vI (cb s 0 2),aV (cb s 0 3),aV (cb s 0 4),dRS (s.H 1) 0,dRS (s.H 2) 0,vI (cb s 4 0),vI (cb s 4 1),vS (cb s 4 2),r7 (cb s 4 3),aW (cb s 4 3)))) |false=>(.inr (((r7 (cb s 0 0)),dTI (cb s 0 0) 0,dTI (cb s 0 0) 1,dTS (cb s 0 0) 2,dTI (cb s 0 0) 3,vI (cb s 0 1),vI (cb s 0 2),aV (cb s 0 3),aV (cb s 0 4),dRS (s.H 1) 0,dRS (s.H 2) 0,vS (cb s 4 2),(vI (((chF (s.H 5)) 0).getD 0 .junk)),(vI (((chF (s.H 5)) 0).getD 1 .junk)),(vS (((chF (s.H 5)) 0).getD 2 .junk)),(r7 (((chF (s.H 5)) 0).getD 3 .junk)),(aW (((chF (s.H 5)) 0).getD 3 .junk)),(vI (((chF (s.H 5)) 1).getD 0 .junk)),(vI (((chF (s.H 5)) 1).getD 1 .junk)),(vS (((chF (s.H 5)) 1).getD 2 .junk)),(r7 (((chF (s.H 5)) 1).getD 3 .junk)),(aW (((chF (s.H 5)) 1).getD 3 .junk))))))
def ew9(x:t6):lM->Ex×St:=(Sum.elim (λz=>(Ex.exit 1,{fr:=jk 4++[V.ptr 3 0,V.ptr 4 0]++jk 61,H:=hp [some (hPB z),some (hPV z),some (hPQ z),some (Z1.blk [i64 0,i64 0,st ⟨#[]⟩,j0]),some (Z1.blk [i64 20,i64 0,st z.p11,V.sl 5 4 0 2]),some (Z1.row 37 4 2 (cN [[i64 z.p12,i64 z.p13,st z.p14,V.ro 4 z.p15 z.p16],[i64 z.p17,i64 z.p18,st z.p19,V.ro 4 z.p20 z.q21]]))],nx:=6,rt:=1,me:=330})) (Sum.elim (λz=>(Ex.panic (V.ifc 161 (V.agg [i64 z.1,i64 z.2])),{fr:=[V.junk]++jk 66,H:=hp [none],nx:=1,rt:=1,me:=330})) (λz=>(Ex.exit 1,{fr:=jk 4++[V.ptr 3 0,V.ptr 4 0]++jk 61,H:=hp [some (hPB z),some (hPV z),some (hPQ z),some (Z1.blk [i64 0,i64 0,st ⟨#[]⟩,j0]),some (Z1.blk [i64 z.p11,i64 z.p12,st z.p13,V.ro 4 z.p14 z.q15])],nx:=5,rt:=1,me:=330}))))
abbrev yO{β:Type}(A:bZ->Option nO)(B:rV->Option b7)(C:SP->Option b7)(D:t6->Option b7)(E:SP->Option bJ)(F:ByteArray->Option Int)(x:t6)(y:Nat×FI×FI×FS×FI×Int×Int×Nat×Nat×FS×FS×Int×Int×ByteArray×Nat×FL)(nx:iT->Option β)(dn:lM->Option β):Option β:=
 U16 y λA B C G H I J K L M N O P Q R S=>(E (I,J,A,B,C,G,H,K,M,L,N)).bind λa=>(F a.2.2.1).bind λb=>if(b==x.1) then(E a.2.2.2.2).bind λc=>if(c.1==3) then(E c.2.2.2.2).bind λd=>(D (w (x.1+1),w (d.2.2.2.2.1+1),d.2.2.2.2.2)).bind λe=>Sum.elim (λf=>if(x.1==4) then dn (.inl (f.2.2.2.2.2.2.2.1,f.2.2.2.2.2.2.2.2.1,f.2.2.2.2.2.2.2.2.2.1,f.2.2.2.2.2.2.2.2.2.2.1,f.2.2.2.2.2.2.2.2.2.2.2.1,f.2.2.2.2.2.1,f.2.2.2.2.2.2.1,f.2.2.2.2.2.2.2.2.2.2.2.2.1,f.2.2.2.2.2.2.2.2.2.2.2.2.2.2.1,f.2.2.2.2.2.2.2.2.2.2.2.2.2.1,f.2.2.2.2.2.2.2.2.2.2.2.2.2.2.2,d.2.2.1,O,P,Q,R,S,f.1,f.2.1,f.2.2.1,f.2.2.2.1,f.2.2.2.2.1))else nx (.inr (f.2.2.2.2.2.2.2.1,f.2.2.2.2.2.2.2.2.1,f.2.2.2.2.2.2.2.2.2.1,f.2.2.2.2.2.2.2.2.2.2.1,f.2.2.2.2.2.2.2.2.2.2.2.1,f.2.2.2.2.2.1,f.2.2.2.2.2.2.1,f.2.2.2.2.2.2.2.2.2.2.2.2.1,f.2.2.2.2.2.2.2.2.2.2.2.2.2.2.1,f.2.2.2.2.2.2.2.2.2.2.2.2.2.1,f.2.2.2.2.2.2.2.2.2.2.2.2.2.2.2,d.2.2.1,O,P,Q,R,S,f.1,f.2.1,f.2.2.1,f.2.2.2.1,f.2.2.2.2.1))) (λg=>dn (.inr (.inl g))) e else dn (.inr (.inr (c.2.2.2.2.2.2.1,c.2.2.2.2.2.2.2.1,c.2.2.2.2.2.2.2.2.1,c.2.2.2.2.2.2.2.2.2.1,c.2.2.2.2.2.2.2.2.2.2.1,c.2.2.2.2.1,c.2.2.2.2.2.1,c.2.2.2.2.2.2.2.2.2.2.2.1,c.2.2.2.2.2.2.2.2.2.2.2.2.2.1,c.2.2.2.2.2.2.2.2.2.2.2.2.1,c.2.2.2.2.2.2.2.2.2.2.2.2.2.2,y.2.2.2.2.2.2.2.2.2.2.2)))else dn (.inr (.inr (a.2.2.2.2.2.2.1,a.2.2.2.2.2.2.2.1,a.2.2.2.2.2.2.2.2.1,a.2.2.2.2.2.2.2.2.2.1,a.2.2.2.2.2.2.2.2.2.2.1,a.2.2.2.2.1,a.2.2.2.2.2.1,a.2.2.2.2.2.2.2.2.2.2.2.1,a.2.2.2.2.2.2.2.2.2.2.2.2.2.1,a.2.2.2.2.2.2.2.2.2.2.2.2.1,a.2.2.2.2.2.2.2.2.2.2.2.2.2.2,y.2.2.2.2.2.2.2.2.2.2.2)))
abbrev yK{β:Type}(A:bZ->Option nO)(B:rV->Option b7)(C:SP->Option b7)(D:t6->Option b7)(E:SP->Option bJ)(F:ByteArray->Option Int)(x:t6)(y:Nat×FI×FI×FS×FI×Int×Int×Nat×Nat×FS×FS×ByteArray×Int×Int×ByteArray×Nat×FL×Int×Int×ByteArray×Nat×FL)(nx:iT->Option β)(dn:lM->Option β):Option β:=
 U22 y λA B C G H I J K L M N O P Q R S T U W X Y Z=>(E (I,J,A,B,C,G,H,K,M,L,N)).bind λa=>(F a.2.2.1).bind λb=>if(b==x.1) then(E a.2.2.2.2).bind λc=>if(c.1==3) then(E c.2.2.2.2).bind λd=>(D (w (x.1+1),w (d.2.2.2.2.1+1),d.2.2.2.2.2)).bind λe=>Sum.elim (λf=>if(x.1==4) then dn (.inl (f.2.2.2.2.2.2.2.1,f.2.2.2.2.2.2.2.2.1,f.2.2.2.2.2.2.2.2.2.1,f.2.2.2.2.2.2.2.2.2.2.1,f.2.2.2.2.2.2.2.2.2.2.2.1,f.2.2.2.2.2.1,f.2.2.2.2.2.2.1,f.2.2.2.2.2.2.2.2.2.2.2.2.1,f.2.2.2.2.2.2.2.2.2.2.2.2.2.2.1,f.2.2.2.2.2.2.2.2.2.2.2.2.2.1,f.2.2.2.2.2.2.2.2.2.2.2.2.2.2.2,d.2.2.1,20,0,O,2,λj=>[i64 (if 0+j=0 then P else U),i64 (if 0+j=0 then Q else W),st (if 0+j=0 then R else X),V.ro 4 (if 0+j=0 then S else Y) λj_1=>if 0+j=0 then T j_1 else Z j_1],f.1,f.2.1,f.2.2.1,f.2.2.2.1,f.2.2.2.2.1))else nx (.inr (f.2.2.2.2.2.2.2.1,f.2.2.2.2.2.2.2.2.1,f.2.2.2.2.2.2.2.2.2.1,f.2.2.2.2.2.2.2.2.2.2.1,f.2.2.2.2.2.2.2.2.2.2.2.1,f.2.2.2.2.2.1,f.2.2.2.2.2.2.1,f.2.2.2.2.2.2.2.2.2.2.2.2.1,f.2.2.2.2.2.2.2.2.2.2.2.2.2.2.1,f.2.2.2.2.2.2.2.2.2.2.2.2.2.1,f.2.2.2.2.2.2.2.2.2.2.2.2.2.2.2,d.2.2.1,20,0,O,2,λj=>[i64 (if 0+j=0 then P else U),i64 (if 0+j=0 then Q else W),st (if 0+j=0 then R else X),V.ro 4 (if 0+j=0 then S else Y) λj_1=>if 0+j=0 then T j_1 else Z j_1],f.1,f.2.1,f.2.2.1,f.2.2.2.1,f.2.2.2.2.1))) (λg=>dn (.inr (.inl g))) e else dn (.inl (c.2.2.2.2.2.2.1,c.2.2.2.2.2.2.2.1,c.2.2.2.2.2.2.2.2.1,c.2.2.2.2.2.2.2.2.2.1,c.2.2.2.2.2.2.2.2.2.2.1,c.2.2.2.2.1,c.2.2.2.2.2.1,c.2.2.2.2.2.2.2.2.2.2.2.1,c.2.2.2.2.2.2.2.2.2.2.2.2.2.1,c.2.2.2.2.2.2.2.2.2.2.2.2.1,c.2.2.2.2.2.2.2.2.2.2.2.2.2.2,y.2.2.2.2.2.2.2.2.2.2.2))else dn (.inl (a.2.2.2.2.2.2.1,a.2.2.2.2.2.2.2.1,a.2.2.2.2.2.2.2.2.1,a.2.2.2.2.2.2.2.2.2.1,a.2.2.2.2.2.2.2.2.2.2.1,a.2.2.2.2.1,a.2.2.2.2.2.1,a.2.2.2.2.2.2.2.2.2.2.2.1,a.2.2.2.2.2.2.2.2.2.2.2.2.2.1,a.2.2.2.2.2.2.2.2.2.2.2.2.1,a.2.2.2.2.2.2.2.2.2.2.2.2.2.2,y.2.2.2.2.2.2.2.2.2.2.2))
noncomputable def av0(A:bZ->Option nO)(B:rV->Option b7)(C:SP->Option b7)(D:t6->Option b7)(E:SP->Option bJ)(F:ByteArray->Option Int)(q:Nat)(x:t6):iT->Option lM:=lpG (Sum.elim (λy=>yO A B C D E F x y (λy=>some (.inl y)) (λz=>some (.inr z))) (λy=>yK A B C D E F x y (λy=>some (.inl y)) (λz=>some (.inr z)))) q
abbrev bj3{β:Type}(A:bZ->Option nO)(B:rV->Option b7)(C:SP->Option b7)(D:t6->Option b7)(E:SP->Option bJ)(F:ByteArray->Option Int)(G:iT->Option lM)(x:t6)(dn:bm2->Option β):Option β:=
 if(x.1==3) then(A (⟨#[33]⟩,x.2)).bind λa=>if a.1 then(B (⟨#[33]⟩,3,a.2)).bind λb=>Sum.elim (λc=>dn (.inl c)) (λd=>dn (.inr (.inl d))) b else if(x.1==7) then(A (⟨#[45]⟩,a.2)).bind λe=>if e.1 then(B (⟨#[45]⟩,7,e.2)).bind λf=>Sum.elim (λg=>dn (.inl g)) (λh=>dn (.inr (.inl h))) f else if(x.1==8) then(C e.2).bind λi=>Sum.elim (λj=>dn (.inl j)) (λk=>dn (.inr (.inl k))) i else(D (w (x.1+1),e.2)).bind λl=>Sum.elim (λm=>(G (.inl (m.2.2.2.2.2.2.2.1,m.2.2.2.2.2.2.2.2.1,m.2.2.2.2.2.2.2.2.2.1,m.2.2.2.2.2.2.2.2.2.2.1,m.2.2.2.2.2.2.2.2.2.2.2.1,m.2.2.2.2.2.1,m.2.2.2.2.2.2.1,m.2.2.2.2.2.2.2.2.2.2.2.2.1,m.2.2.2.2.2.2.2.2.2.2.2.2.2.2.1,m.2.2.2.2.2.2.2.2.2.2.2.2.2.1,m.2.2.2.2.2.2.2.2.2.2.2.2.2.2.2,m.1,m.2.1,m.2.2.1,m.2.2.2.1,m.2.2.2.2.1))).bind λn=>Sum.elim (λo=>dn (.inr (.inr (20,0,o.2.2.2.2.2.2.2.2.2.2.2.1,o.2.2.2.2.2.2.2.2.2.2.2.2.1,o.2.2.2.2.2.2.2.2.2.2.2.2.2.1,o.2.2.2.2.2.2.2.2.2.2.2.2.2.2.1,o.2.2.2.2.2.2.2.2.2.2.2.2.2.2.2.1,o.2.2.2.2.2.2.2.2.2.2.2.2.2.2.2.2.1,o.2.2.2.2.2.2.2.2.2.2.2.2.2.2.2.2.2.1,o.2.2.2.2.2.2.2.2.2.2.2.2.2.2.2.2.2.2.1,o.2.2.2.2.2.2.2.2.2.2.2.2.2.2.2.2.2.2.2.1,o.2.2.2.2.2.2.2.2.2.2.2.2.2.2.2.2.2.2.2.2.1,o.2.2.2.2.2.2.2.2.2.2.2.2.2.2.2.2.2.2.2.2.2,o.2.2.2.2.2.1,o.2.2.2.2.2.2.1,o.1,o.2.1,o.2.2.1,o.2.2.2.1,o.2.2.2.2.1,o.2.2.2.2.2.2.2.1,o.2.2.2.2.2.2.2.2.2.1,o.2.2.2.2.2.2.2.2.1,o.2.2.2.2.2.2.2.2.2.2.1)))) (λp=>Sum.elim (λq=>dn (.inr (.inl q))) (λr=>dn (.inl (r.2.2.2.2.2.2.2.2.2.2.2.1,r.2.2.2.2.2.2.2.2.2.2.2.2.1,r.2.2.2.2.2.2.2.2.2.2.2.2.2.1,r.2.2.2.2.2.2.2.2.2.2.2.2.2.2.1,r.2.2.2.2.2.2.2.2.2.2.2.2.2.2.2,r.2.2.2.2.2.1,r.2.2.2.2.2.2.1,r.1,r.2.1,r.2.2.1,r.2.2.2.1,r.2.2.2.2.1,r.2.2.2.2.2.2.2.1,r.2.2.2.2.2.2.2.2.2.1,r.2.2.2.2.2.2.2.2.1,r.2.2.2.2.2.2.2.2.2.2.1))) p) n) (λs=>dn (.inr (.inl s))) l else if(x.1==8) then(C a.2).bind λt=>Sum.elim (λu=>dn (.inl u)) (λv=>dn (.inr (.inl v))) t else(D (w (x.1+1),a.2)).bind λz=>Sum.elim (λaa=>(G (.inl (aa.2.2.2.2.2.2.2.1,aa.2.2.2.2.2.2.2.2.1,aa.2.2.2.2.2.2.2.2.2.1,aa.2.2.2.2.2.2.2.2.2.2.1,aa.2.2.2.2.2.2.2.2.2.2.2.1,aa.2.2.2.2.2.1,aa.2.2.2.2.2.2.1,aa.2.2.2.2.2.2.2.2.2.2.2.2.1,aa.2.2.2.2.2.2.2.2.2.2.2.2.2.2.1,aa.2.2.2.2.2.2.2.2.2.2.2.2.2.1,aa.2.2.2.2.2.2.2.2.2.2.2.2.2.2.2,aa.1,aa.2.1,aa.2.2.1,aa.2.2.2.1,aa.2.2.2.2.1))).bind λab=>Sum.elim (λac=>dn (.inr (.inr (20,0,ac.2.2.2.2.2.2.2.2.2.2.2.1,ac.2.2.2.2.2.2.2.2.2.2.2.2.1,ac.2.2.2.2.2.2.2.2.2.2.2.2.2.1,ac.2.2.2.2.2.2.2.2.2.2.2.2.2.2.1,ac.2.2.2.2.2.2.2.2.2.2.2.2.2.2.2.1,ac.2.2.2.2.2.2.2.2.2.2.2.2.2.2.2.2.1,ac.2.2.2.2.2.2.2.2.2.2.2.2.2.2.2.2.2.1,ac.2.2.2.2.2.2.2.2.2.2.2.2.2.2.2.2.2.2.1,ac.2.2.2.2.2.2.2.2.2.2.2.2.2.2.2.2.2.2.2.1,ac.2.2.2.2.2.2.2.2.2.2.2.2.2.2.2.2.2.2.2.2.1,ac.2.2.2.2.2.2.2.2.2.2.2.2.2.2.2.2.2.2.2.2.2,ac.2.2.2.2.2.1,ac.2.2.2.2.2.2.1,ac.1,ac.2.1,ac.2.2.1,ac.2.2.2.1,ac.2.2.2.2.1,ac.2.2.2.2.2.2.2.1,ac.2.2.2.2.2.2.2.2.2.1,ac.2.2.2.2.2.2.2.2.1,ac.2.2.2.2.2.2.2.2.2.2.1)))) (λad=>Sum.elim (λae=>dn (.inr (.inl ae))) (λaf=>dn (.inl (af.2.2.2.2.2.2.2.2.2.2.2.1,af.2.2.2.2.2.2.2.2.2.2.2.2.1,af.2.2.2.2.2.2.2.2.2.2.2.2.2.1,af.2.2.2.2.2.2.2.2.2.2.2.2.2.2.1,af.2.2.2.2.2.2.2.2.2.2.2.2.2.2.2,af.2.2.2.2.2.1,af.2.2.2.2.2.2.1,af.1,af.2.1,af.2.2.1,af.2.2.2.1,af.2.2.2.2.1,af.2.2.2.2.2.2.2.1,af.2.2.2.2.2.2.2.2.2.1,af.2.2.2.2.2.2.2.2.1,af.2.2.2.2.2.2.2.2.2.2.1))) ad) ab) (λag=>dn (.inr (.inl ag))) z else if(x.1==7) then(A (⟨#[45]⟩,x.2)).bind λah=>if ah.1 then(B (⟨#[45]⟩,7,ah.2)).bind λai=>Sum.elim (λaj=>dn (.inl aj)) (λak=>dn (.inr (.inl ak))) ai else if(x.1==8) then(C ah.2).bind λal=>Sum.elim (λam=>dn (.inl am)) (λan=>dn (.inr (.inl an))) al else(D (w (x.1+1),ah.2)).bind λao=>Sum.elim (λap=>(G (.inl (ap.2.2.2.2.2.2.2.1,ap.2.2.2.2.2.2.2.2.1,ap.2.2.2.2.2.2.2.2.2.1,ap.2.2.2.2.2.2.2.2.2.2.1,ap.2.2.2.2.2.2.2.2.2.2.2.1,ap.2.2.2.2.2.1,ap.2.2.2.2.2.2.1,ap.2.2.2.2.2.2.2.2.2.2.2.2.1,ap.2.2.2.2.2.2.2.2.2.2.2.2.2.2.1,ap.2.2.2.2.2.2.2.2.2.2.2.2.2.1,ap.2.2.2.2.2.2.2.2.2.2.2.2.2.2.2,ap.1,ap.2.1,ap.2.2.1,ap.2.2.2.1,ap.2.2.2.2.1))).bind λaq=>Sum.elim (λar=>dn (.inr (.inr (20,0,ar.2.2.2.2.2.2.2.2.2.2.2.1,ar.2.2.2.2.2.2.2.2.2.2.2.2.1,ar.2.2.2.2.2.2.2.2.2.2.2.2.2.1,ar.2.2.2.2.2.2.2.2.2.2.2.2.2.2.1,ar.2.2.2.2.2.2.2.2.2.2.2.2.2.2.2.1,ar.2.2.2.2.2.2.2.2.2.2.2.2.2.2.2.2.1,ar.2.2.2.2.2.2.2.2.2.2.2.2.2.2.2.2.2.1,ar.2.2.2.2.2.2.2.2.2.2.2.2.2.2.2.2.2.2.1,ar.2.2.2.2.2.2.2.2.2.2.2.2.2.2.2.2.2.2.2.1,ar.2.2.2.2.2.2.2.2.2.2.2.2.2.2.2.2.2.2.2.2.1,ar.2.2.2.2.2.2.2.2.2.2.2.2.2.2.2.2.2.2.2.2.2,ar.2.2.2.2.2.1,ar.2.2.2.2.2.2.1,ar.1,ar.2.1,ar.2.2.1,ar.2.2.2.1,ar.2.2.2.2.1,ar.2.2.2.2.2.2.2.1,ar.2.2.2.2.2.2.2.2.2.1,ar.2.2.2.2.2.2.2.2.1,ar.2.2.2.2.2.2.2.2.2.2.1)))) (λau=>Sum.elim (λav=>dn (.inr (.inl av))) (λaw=>dn (.inl (aw.2.2.2.2.2.2.2.2.2.2.2.1,aw.2.2.2.2.2.2.2.2.2.2.2.2.1,aw.2.2.2.2.2.2.2.2.2.2.2.2.2.1,aw.2.2.2.2.2.2.2.2.2.2.2.2.2.2.1,aw.2.2.2.2.2.2.2.2.2.2.2.2.2.2.2,aw.2.2.2.2.2.1,aw.2.2.2.2.2.2.1,aw.1,aw.2.1,aw.2.2.1,aw.2.2.2.1,aw.2.2.2.2.1,aw.2.2.2.2.2.2.2.1,aw.2.2.2.2.2.2.2.2.2.1,aw.2.2.2.2.2.2.2.2.1,aw.2.2.2.2.2.2.2.2.2.2.1))) au) aq) (λax=>dn (.inr (.inl ax))) ao else if(x.1==8) then(C x.2).bind λay=>Sum.elim (λaz=>dn (.inl az)) (λba=>dn (.inr (.inl ba))) ay else(D (w (x.1+1),x.2)).bind λbb=>Sum.elim (λbc=>(G (.inl (bc.2.2.2.2.2.2.2.1,bc.2.2.2.2.2.2.2.2.1,bc.2.2.2.2.2.2.2.2.2.1,bc.2.2.2.2.2.2.2.2.2.2.1,bc.2.2.2.2.2.2.2.2.2.2.2.1,bc.2.2.2.2.2.1,bc.2.2.2.2.2.2.1,bc.2.2.2.2.2.2.2.2.2.2.2.2.1,bc.2.2.2.2.2.2.2.2.2.2.2.2.2.2.1,bc.2.2.2.2.2.2.2.2.2.2.2.2.2.1,bc.2.2.2.2.2.2.2.2.2.2.2.2.2.2.2,bc.1,bc.2.1,bc.2.2.1,bc.2.2.2.1,bc.2.2.2.2.1))).bind λbd=>Sum.elim (λbe=>dn (.inr (.inr (20,0,be.2.2.2.2.2.2.2.2.2.2.2.1,be.2.2.2.2.2.2.2.2.2.2.2.2.1,be.2.2.2.2.2.2.2.2.2.2.2.2.2.1,be.2.2.2.2.2.2.2.2.2.2.2.2.2.2.1,be.2.2.2.2.2.2.2.2.2.2.2.2.2.2.2.1,be.2.2.2.2.2.2.2.2.2.2.2.2.2.2.2.2.1,be.2.2.2.2.2.2.2.2.2.2.2.2.2.2.2.2.2.1,be.2.2.2.2.2.2.2.2.2.2.2.2.2.2.2.2.2.2.1,be.2.2.2.2.2.2.2.2.2.2.2.2.2.2.2.2.2.2.2.1,be.2.2.2.2.2.2.2.2.2.2.2.2.2.2.2.2.2.2.2.2.1,be.2.2.2.2.2.2.2.2.2.2.2.2.2.2.2.2.2.2.2.2.2,be.2.2.2.2.2.1,be.2.2.2.2.2.2.1,be.1,be.2.1,be.2.2.1,be.2.2.2.1,be.2.2.2.2.1,be.2.2.2.2.2.2.2.1,be.2.2.2.2.2.2.2.2.2.1,be.2.2.2.2.2.2.2.2.1,be.2.2.2.2.2.2.2.2.2.2.1)))) (λbf=>Sum.elim (λbg=>dn (.inr (.inl bg))) (λbh=>dn (.inl (bh.2.2.2.2.2.2.2.2.2.2.2.1,bh.2.2.2.2.2.2.2.2.2.2.2.2.1,bh.2.2.2.2.2.2.2.2.2.2.2.2.2.1,bh.2.2.2.2.2.2.2.2.2.2.2.2.2.2.1,bh.2.2.2.2.2.2.2.2.2.2.2.2.2.2.2,bh.2.2.2.2.2.1,bh.2.2.2.2.2.2.1,bh.1,bh.2.1,bh.2.2.1,bh.2.2.2.1,bh.2.2.2.2.1,bh.2.2.2.2.2.2.2.1,bh.2.2.2.2.2.2.2.2.2.1,bh.2.2.2.2.2.2.2.2.1,bh.2.2.2.2.2.2.2.2.2.2.1))) bf) bd) (λbi=>dn (.inr (.inl bi))) bb
abbrev as1{β:Type}(A:bZ->Option bT)(B:t6->Option b7)(x:rV)(dn:x6->Option β):Option β:=
 (A (x.1,x.2.2)).bind λa=>Sum.elim (λb=>(B (x.2.1,b)).bind λc=>Sum.elim (λd=>dn (.inl (19,0,x.1,d.1,d.2.1,d.2.2.1,d.2.2.2.1,d.2.2.2.2.1,d.2.2.2.2.2.1,w (d.2.2.2.2.2.2.1-1),d.2.2.2.2.2.2.2))) (λe=>dn (.inr e)) c) (λf=>dn (.inr f)) a
abbrev vF{β:Type}(A:SP->Option bJ)(B:SP->Option b7)(C:bZ->Option nO)(D:bZ->Option bT)(E:SP->Option fK)(F:bZ->Option nO)(G:bZ->Option bT)(H:t6->Option b7)(x:SP)(dn:vG->Option β):Option β:=
 (A x).bind λa=>if(a.1==2) then(B a.2.2.2.2).bind λb=>Sum.elim (λc=>dn (.inl c)) (λd=>dn (.inr (.inl d))) b else(C (⟨#[116,114,117,101]⟩,a.2.2.2.2)).bind λe=>if e.1 then dn (.inr (.inr (16,1,⟨#[]⟩,e.2)))else(C (⟨#[102,97,108,115,101]⟩,e.2)).bind λf=>if f.1 then dn (.inr (.inr (16,0,⟨#[]⟩,f.2)))else(C (⟨#[116,108,109]⟩,f.2)).bind λg=>if g.1 then(D (⟨#[46]⟩,g.2)).bind λh=>Sum.elim (λi=>(E i).bind λj=>Sum.elim (λk=>dn (.inr (.inr (18,0,k)))) (λl=>dn (.inr (.inl l))) j) (λm=>dn (.inr (.inl m))) h else(F (⟨#[40]⟩,g.2)).bind λn=>if n.1 then(G (⟨#[40]⟩,n.2)).bind λo=>Sum.elim (λp=>(H (1,p)).bind λq=>Sum.elim (λr=>(D (⟨#[41]⟩,r.2.2.2.2.2)).bind λs=>Sum.elim (λt=>dn (.inl (r.1,r.2.1,r.2.2.1,r.2.2.2.1,r.2.2.2.2.1,t.1,w (t.2.1-1),t.2.2))) (λu=>dn (.inr (.inl u))) s) (λv=>dn (.inr (.inl v))) q) (λz=>dn (.inr (.inl z))) o else(E n.2).bind λaa=>Sum.elim (λab=>dn (.inr (.inr (17,0,ab)))) (λac=>dn (.inr (.inl ac))) aa
def bi8:bm2->b7:=Sum.elim (λz=>.inl z) (Sum.elim (λz=>.inr z) (λz=>.inl (z.1,z.2.1,z.2.2.1,2,cN [[i64 z.2.2.2.1,i64 z.2.2.2.2.1,st z.2.2.2.2.2.1,.ro 4 z.2.2.2.2.2.2.1 z.2.2.2.2.2.2.2.1],[i64 z.2.2.2.2.2.2.2.2.1,i64 z.2.2.2.2.2.2.2.2.2.1,st z.2.2.2.2.2.2.2.2.2.2.1,.ro 4 z.2.2.2.2.2.2.2.2.2.2.2.1 z.2.2.2.2.2.2.2.2.2.2.2.2.1]],z.2.2.2.2.2.2.2.2.2.2.2.2.2)))
theorem gl3{args:List V}{L:List (Option Z1)}(z:bm2)(h:SC E5 330 args L (gz0 z)):SC E5 330 args L (j5 (bi8 z)):=by
 rcases z with z|z|z
 ·exact h
 ·exact h
 ·exact cs3 h
def at3:x6->b7:=Sum.elim (λz=>.inl (z.1,z.2.1,z.2.2.1,1,cN [[i64 z.2.2.2.1,i64 z.2.2.2.2.1,st z.2.2.2.2.2.1,.ro 4 z.2.2.2.2.2.2.1 z.2.2.2.2.2.2.2.1]],z.2.2.2.2.2.2.2.2)) (λz=>.inr z)
theorem fp5{args:List V}{L:List (Option Z1)}(z:x6)(h:SC E5 344 args L (iH z)):SC E5 344 args L (j5 (at3 z)):=by
 rcases z with z|z
 ·exact cs3 h
 ·exact h
def vH:vG->b7:=Sum.elim (λz=>.inl z) (Sum.elim (λz=>.inr z) (λz=>.inl (z.1,z.2.1,z.2.2.1,0,λ_=>[],z.2.2.2)))
theorem dm2{args:List V}{L:List (Option Z1)}(z:vG)(h:SC E5 345 args L (ep0 z)):SC E5 345 args L (j5 (vH z)):=by
 rcases z with z|z|z
 ·exact h
 ·exact h
 ·exact ha7 h
noncomputable def exS:Nat->(t6->Option b7)×(rV->Option b7)×(SP->Option b7)
 |0=>(λ_=>none,λ_=>none,λ_=>none)
 |q+1=>(λx=>(bj3 ((is q)) ((exS q).2.1) ((exS q).2.2) ((exS q).1) ((next q)) ((rP q)) (av0 ((is q)) ((exS q).2.1) ((exS q).2.2) ((exS q).1) ((next q)) ((rP q)) q x) x some).map bi8,
  λx=>(as1 ((nC q)) ((exS q).1) x some).map at3,
  λx=>(vF ((next q)) ((pA q)) ((take q)) ((uR q)) ((name q)) ((is q)) ((nC q)) ((exS q).1) x some).map vH)
theorem ge1:∀q,(∀x z,(exS q).1 x=some z->SC E5 330 (bq3 x).1 (bq3 x).2 (j5 z))/\(∀x z,(exS q).2.1 x=some z->SC E5 344 (dc9 x).1 (dc9 x).2 (j5 z))/\(∀x z,(exS q).2.2 x=some z->SC E5 345 (l8 x).1 (l8 x).2 (j5 z))
 |0=>⟨(λx z h=>by cases h),(λx z h=>by cases h),(λx z h=>by cases h)⟩
 |q+1=>by
  obtain⟨h0,h1,h2⟩:=ge1 q
  exact⟨(λx z h=>by
   obtain⟨y,hy,rfl⟩:=Option.map_eq_some_iff.1 h
   exact gl3 y ((have K:=(kc rM (cl7 q) (kc gw0 (h1) (kc s9 (h2) (kc jA (h0) (kc s9 (lV q) (kc l5 (ev3 q) kn))))));sl hW5 hX5 K (λx=>(lc 1 (es6 x) (lp2 hX5 (ew9 x) 330 1 51 [(1,48)] 16 K ln q (λc l β=>yO (β:=β) c.1 c.2.1 c.2.2.1 c.2.2.2.1 c.2.2.2.2.1 c.2.2.2.2.2.1 x) λc l β=>yK (β:=β) c.1 c.2.1 c.2.2.1 c.2.2.2.1 c.2.2.2.2.1 c.2.2.2.2.2.1 x) ln)) λc l β=>bj3 (β:=β) c.1 c.2.1 c.2.2.1 c.2.2.2.1 c.2.2.2.2.1 c.2.2.2.2.2.1 l.1) x y hy)),(λx z h=>by
   obtain⟨y,hy,rfl⟩:=Option.map_eq_some_iff.1 h
   exact fp5 y ((so hW5 hX5 (kc rM (bz3 q) (kc jA (h0) kn)) λc β=>as1 (β:=β) c.1 c.2.1) x y hy)),(λx z h=>by
   obtain⟨y,hy,rfl⟩:=Option.map_eq_some_iff.1 h
   exact dm2 y ((so hW5 hX5 (kc s9 (lV q) (kc s9 (vN q) (kc rM (au9 q) (kc rM (sP q) (kc s9 (bn9 q) (kc rM (cl7 q) (kc rM (bz3 q) (kc jA (h0) kn)))))))) λc β=>vF (β:=β) c.1 c.2.1 c.2.2.1 c.2.2.2.1 c.2.2.2.2.1 c.2.2.2.2.2.1 c.2.2.2.2.2.2.1 c.2.2.2.2.2.2.2.1) x y hy))⟩
noncomputable def expr(q:Nat):t6->Option b7:=(exS q).1
theorem ar0(q:Nat):Lw E5 330 bq3 j5 (expr q):=(ge1 q).1
noncomputable def du3(q:Nat):rV->Option b7:=(exS q).2.1
noncomputable def aq9(q:Nat):SP->Option b7:=(exS q).2.2
abbrev bd8{β:Type}(A:SP->Option fK)(B:bZ->Option bT)(C:t6->Option b7)(x:SP)(dn:x6->Option β):Option β:=
 (A x).bind λa=>Sum.elim (λb=>(B (⟨#[61]⟩,b.2)).bind λc=>Sum.elim (λd=>(C (1,d)).bind λe=>Sum.elim (λf=>dn (.inl (2,0,b.1,f))) (λg=>dn (.inr g)) e) (λh=>dn (.inr h)) c) (λi=>dn (.inr i)) a
noncomputable def di4(q:Nat)(x:SP):Option x6:=bd8 (name q) (uR q) (expr q) x some
theorem eq0(q:Nat):Lw E5 297 l8 iH (di4 q):=so hW5 hX5 (kc s9 (bn9 q) (kc rM (sP q) (kc jA (ar0 q) kn))) λc β=>bd8 (β:=β) c.1 c.2.1 c.2.2.1
def az3:x6->b7:=Sum.elim (λz=>.inl (z.1,z.2.1,z.2.2.1,1,cN [[i64 z.2.2.2.1,i64 z.2.2.2.2.1,st z.2.2.2.2.2.1,.ro 4 z.2.2.2.2.2.2.1 z.2.2.2.2.2.2.2.1]],z.2.2.2.2.2.2.2.2)) (λz=>.inr z)
theorem ey3{args:List V}{L:List (Option Z1)}(z:x6)(h:SC E5 297 args L (iH z)):SC E5 297 args L (j5 (az3 z)):=by
 rcases z with z|z
 ·exact cs3 h
 ·exact h
noncomputable def assign(q:Nat)(x:SP):Option b7:=(di4 q x).map az3
theorem fy0(q:Nat):Lw E5 297 l8 j5 (assign q):=by
 intro x z h;obtain⟨y,hy,rfl⟩:=Option.map_eq_some_iff.1 h;exact ey3 y (eq0 q x y hy)
abbrev da7{β:Type}(A:SP->Option fK)(B:bZ->Option bT)(C:t6->Option b7)(x:SP)(dn:x6->Option β):Option β:=
 (A (w (x.1+1),x.2)).bind λa=>Sum.elim (λb=>(B (⟨#[61]⟩,b.2)).bind λc=>Sum.elim (λd=>(C (1,d)).bind λe=>Sum.elim (λf=>dn (.inl (1,0,b.1,f))) (λg=>dn (.inr g)) e) (λh=>dn (.inr h)) c) (λi=>dn (.inr i)) a
noncomputable def gf7(q:Nat)(x:SP):Option x6:=da7 (wB q) (uR q) (expr q) x some
theorem gj5(q:Nat):Lw E5 290 l8 iH (gf7 q):=so hW5 hX5 (kc s9 (bv9 q) (kc rM (sP q) (kc jA (ar0 q) kn))) λc β=>da7 (β:=β) c.1 c.2.1 c.2.2.1
def dd1:x6->b7:=Sum.elim (λz=>.inl (z.1,z.2.1,z.2.2.1,1,cN [[i64 z.2.2.2.1,i64 z.2.2.2.2.1,st z.2.2.2.2.2.1,.ro 4 z.2.2.2.2.2.2.1 z.2.2.2.2.2.2.2.1]],z.2.2.2.2.2.2.2.2)) (λz=>.inr z)
theorem gh6{args:List V}{L:List (Option Z1)}(z:x6)(h:SC E5 290 args L (iH z)):SC E5 290 args L (j5 (dd1 z)):=by
 rcases z with z|z
 ·exact cs3 h
 ·exact h
noncomputable def go3(q:Nat)(x:SP):Option b7:=(gf7 q x).map dd1
theorem gt5(q:Nat):Lw E5 290 l8 j5 (go3 q):=by
 intro x z h;obtain⟨y,hy,rfl⟩:=Option.map_eq_some_iff.1 h;exact gh6 y (gj5 q x y hy)
abbrev kH:Type:=(Int×Int×ByteArray×FL×SP)⊕(Int×Int)
def dp6:kH->Z3:=Sum.elim (λz:Int×Int×ByteArray×FL×SP=>.ret (.agg [i64 z.1,i64 z.2.1,st z.2.2.1,.sl 3 4 0 2]) [some (.blk [.ro 4 z.p6 (λj=>[i64 (z.p7 j),i64 (z.p8 j),st (z.p9 j),i64 (z.p10 j)]),i64 z.p4,i64 z.p5,.sl 1 1 0 z.p11,.sl 2 1 0 z.p13]),some (.row 9 1 z.p11 (λj=>[st (z.p12 j)])),some (.row 9 1 z.p13 (λj=>[st (z.q14 j)])),some (.row 37 4 2 z.p3)]) (λz:Int×Int=>.pan (.ifc 161 (.agg [i64 z.1,i64 z.2])))
abbrev cb6{β:Type}(A:t6->Option b7)(B:bZ->Option bT)(C:SP->Option b7)(x:SP)(dn:kH->Option β):Option β:=
 (A (1,w (x.1+1),x.2)).bind λa=>Sum.elim (λb=>(B (⟨#[119,105,116,104,105,110]⟩,b.2.2.2.2.2)).bind λc=>Sum.elim (λd=>(C d).bind λe=>Sum.elim (λf=>dn (.inl (6,0,⟨#[]⟩,λj=>[i64 (if j<1 then b.1 else f.1),i64 (if j<1 then b.2.1 else f.2.1),st (if j<1 then b.2.2.1 else f.2.2.1),V.ro 4 (if j<1 then b.2.2.2.1 else f.2.2.2.1) λj_1=>if j<1 then b.2.2.2.2.1 j_1 else f.2.2.2.2.1 j_1],f.2.2.2.2.2))) (λg=>dn (.inr g)) e) (λh=>dn (.inr h)) c) (λi=>dn (.inr i)) a
noncomputable def eo8(q:Nat)(x:SP):Option kH:=cb6 (expr q) (uR q) (pA q) x some
theorem fk6(q:Nat):Lw E5 293 l8 dp6 (eo8 q):=so hW5 hX5 (kc jA (ar0 q) (kc rM (sP q) (kc s9 (vN q) kn))) λc β=>cb6 (β:=β) c.1 c.2.1 c.2.2.1
def bw4:kH->b7:=Sum.elim (λz=>.inl (z.1,z.2.1,z.2.2.1,2,z.2.2.2)) (λz=>.inr z)
theorem fm5{args:List V}{L:List (Option Z1)}(z:kH)(h:SC E5 293 args L (dp6 z)):SC E5 293 args L (j5 (bw4 z)):=by
 rcases z with z|z
 ·exact cs3 h
 ·exact h
noncomputable def await(q:Nat)(x:SP):Option b7:=(eo8 q x).map bw4
theorem go9(q:Nat):Lw E5 293 l8 j5 (await q):=by
 intro x z h;obtain⟨y,hy,rfl⟩:=Option.map_eq_some_iff.1 h;exact fm5 y (fk6 q x y hy)
abbrev bb9{β:Type}(A:bZ->Option nO)(B:SP->Option b7)(x:SP)(dn:x6->Option β):Option β:=
 (A (⟨#[107,101,101,112]⟩,x)).bind λa=>if a.1 then(B (w (a.2.1+1),a.2.2)).bind λb=>Sum.elim (λc=>dn (.inl (11,0,⟨#[]⟩,c))) (λd=>dn (.inr d)) b else(B (w (a.2.1+1),a.2.2)).bind λe=>Sum.elim (λf=>dn (.inl (5,0,⟨#[]⟩,f))) (λg=>dn (.inr g)) e
noncomputable def cv2(q:Nat)(x:SP):Option x6:=bb9 (is q) (pA q) x some
theorem ez0(q:Nat):Lw E5 294 l8 iH (cv2 q):=so hW5 hX5 (kc rM (cl7 q) (kc s9 (vN q) kn)) λc β=>bb9 (β:=β) c.1 c.2.1
def be2:x6->b7:=Sum.elim (λz=>.inl (z.1,z.2.1,z.2.2.1,1,cN [[i64 z.2.2.2.1,i64 z.2.2.2.2.1,st z.2.2.2.2.2.1,.ro 4 z.2.2.2.2.2.2.1 z.2.2.2.2.2.2.2.1]],z.2.2.2.2.2.2.2.2)) (λz=>.inr z)
theorem ej1{args:List V}{L:List (Option Z1)}(z:x6)(h:SC E5 294 args L (iH z)):SC E5 294 args L (j5 (be2 z)):=by
 rcases z with z|z
 ·exact cs3 h
 ·exact h
noncomputable def bo9(q:Nat)(x:SP):Option b7:=(cv2 q x).map be2
theorem fo6(q:Nat):Lw E5 294 l8 j5 (bo9 q):=by
 intro x z h;obtain⟨y,hy,rfl⟩:=Option.map_eq_some_iff.1 h;exact ej1 y (ez0 q x y hy)
abbrev bd4{β:Type}(A:bZ->Option nO)(B:t6->Option b7)(x:SP)(dn:x6->Option β):Option β:=
 (A (⟨#[112,111,105,110,116]⟩,x)).bind λa=>if a.1 then(B (1,w (a.2.1+1),a.2.2)).bind λb=>Sum.elim (λc=>dn (.inl (8,0,⟨#[]⟩,c))) (λd=>dn (.inr d)) b else(B (1,w (a.2.1+1),a.2.2)).bind λe=>Sum.elim (λf=>dn (.inl (7,0,⟨#[]⟩,f))) (λg=>dn (.inr g)) e
noncomputable def dh5(q:Nat)(x:SP):Option x6:=bd4 (is q) (expr q) x some
theorem em1(q:Nat):Lw E5 295 l8 iH (dh5 q):=so hW5 hX5 (kc rM (cl7 q) (kc jA (ar0 q) kn)) λc β=>bd4 (β:=β) c.1 c.2.1
def ba8:x6->b7:=Sum.elim (λz=>.inl (z.1,z.2.1,z.2.2.1,1,cN [[i64 z.2.2.2.1,i64 z.2.2.2.2.1,st z.2.2.2.2.2.1,.ro 4 z.2.2.2.2.2.2.1 z.2.2.2.2.2.2.2.1]],z.2.2.2.2.2.2.2.2)) (λz=>.inr z)
theorem ex6{args:List V}{L:List (Option Z1)}(z:x6)(h:SC E5 295 args L (iH z)):SC E5 295 args L (j5 (ba8 z)):=by
 rcases z with z|z
 ·exact cs3 h
 ·exact h
noncomputable def bt8(q:Nat)(x:SP):Option b7:=(dh5 q x).map ba8
theorem fr5(q:Nat):Lw E5 295 l8 j5 (bt8 q):=by
 intro x z h;obtain⟨y,hy,rfl⟩:=Option.map_eq_some_iff.1 h;exact ex6 y (em1 q x y hy)
abbrev fZ:Type:=(Int×Int×ByteArray×SP)⊕(Int×Int×ByteArray×Int×Int×ByteArray×Nat×FL×SP)⊕(Int×Int)
def bf5:fZ->Z3:=Sum.elim (λz:Int×Int×ByteArray×SP=>.ret (.agg [i64 z.1,i64 z.2.1,st z.2.2.1,j0]) (hHP z.q3)) (Sum.elim (λz:Int×Int×ByteArray×Int×Int×ByteArray×Nat×FL×SP=>.ret (.agg [i64 z.1,i64 z.2.1,st z.2.2.1,.sl 3 4 0 1]) [some (.blk [.ro 4 z.p10 (λj=>[i64 (z.p11 j),i64 (z.p12 j),st (z.p13 j),i64 (z.p14 j)]),i64 z.p8,i64 z.p9,.sl 1 1 0 z.p15,.sl 2 1 0 z.p17]),some (.row 9 1 z.p15 (λj=>[st (z.p16 j)])),some (.row 9 1 z.p17 (λj=>[st (z.q18 j)])),some (.row 37 4 1 (cN [[i64 z.p3,i64 z.p4,st z.p5,.ro 4 z.p6 z.p7]]))]) (λz:Int×Int=>.pan (.ifc 161 (.agg [i64 z.1,i64 z.2]))))
abbrev aa1{β:Type}(A:SP->Option bJ)(B:tX->Option tV)(C:bZ->Option bT)(D:SP->Option b7)(x:SP)(dn:fZ->Option β):Option β:=
 (A x).bind λa=>if(a.2.2.1.toList==ByteArray.toList ⟨#[101,109,105,116]⟩) then(B (0,99,w (a.2.2.2.2.1+1),a.2.2.2.2.2)).bind λb=>Sum.elim (λc=>dn (.inl (12,c.1,⟨#[]⟩,c.2))) (λd=>dn (.inr (.inr d))) b else if(a.2.2.1.toList==ByteArray.toList ⟨#[97,98,111,114,116]⟩) then(B (0,999,w (a.2.2.2.2.1+1),a.2.2.2.2.2)).bind λe=>Sum.elim (λf=>dn (.inl (13,f.1,⟨#[]⟩,f.2))) (λg=>dn (.inr (.inr g))) e else if(a.2.2.1.toList==ByteArray.toList ⟨#[117,115,101]⟩) then(B (0,7,w (a.2.2.2.2.1+1),a.2.2.2.2.2)).bind λh=>Sum.elim (λi=>(C (⟨#[102,111,114]⟩,i.2)).bind λj=>Sum.elim (λk=>(D k).bind λl=>Sum.elim (λm=>dn (.inr (.inl (9,i.1,⟨#[]⟩,m)))) (λn=>dn (.inr (.inr n))) l) (λo=>dn (.inr (.inr o))) j) (λp=>dn (.inr (.inr p))) h else(B (0,7,w (a.2.2.2.2.1+1),a.2.2.2.2.2)).bind λq=>Sum.elim (λr=>(C (⟨#[44]⟩,r.2)).bind λs=>Sum.elim (λt=>(D t).bind λu=>Sum.elim (λv=>dn (.inr (.inl (10,r.1,⟨#[]⟩,v)))) (λz=>dn (.inr (.inr z))) u) (λaa=>dn (.inr (.inr aa))) s) (λab=>dn (.inr (.inr ab))) q
noncomputable def ba2(q:Nat)(x:SP):Option fZ:=aa1 (next q) (nR q) (uR q) (pA q) x some
theorem de8(q:Nat):Lw E5 296 l8 bf5 (ba2 q):=so hW5 hX5 (kc s9 (lV q) (kc by3 (az5 q) (kc rM (sP q) (kc s9 (vN q) kn)))) λc β=>aa1 (β:=β) c.1 c.2.1 c.2.2.1 c.2.2.2.1
def mY:fZ->b7:=Sum.elim (λz=>.inl (z.1,z.2.1,z.2.2.1,0,λ_=>[],z.2.2.2)) (Sum.elim (λz=>.inl (z.1,z.2.1,z.2.2.1,1,cN [[i64 z.2.2.2.1,i64 z.2.2.2.2.1,st z.2.2.2.2.2.1,.ro 4 z.2.2.2.2.2.2.1 z.2.2.2.2.2.2.2.1]],z.2.2.2.2.2.2.2.2)) (λz=>.inr z))
theorem db0{args:List V}{L:List (Option Z1)}(z:fZ)(h:SC E5 296 args L (bf5 z)):SC E5 296 args L (j5 (mY z)):=by
 rcases z with z|z|z
 ·exact ha7 h
 ·exact cs3 h
 ·exact h
noncomputable def numbered(q:Nat)(x:SP):Option b7:=(ba2 q x).map mY
theorem do5(q:Nat):Lw E5 296 l8 j5 (numbered q):=by
 intro x z h;obtain⟨y,hy,rfl⟩:=Option.map_eq_some_iff.1 h;exact db0 y (de8 q x y hy)
abbrev aq2:Type:=(Int×Int×ByteArray×SP)⊕(Int×Int×ByteArray×Nat×FL×SP)⊕(Int×Int)
def gi3:aq2->Z3:=Sum.elim (λz:Int×Int×ByteArray×SP=>.ret (.agg [i64 z.1,i64 z.2.1,st z.2.2.1,j0]) (hHP z.q3)) (Sum.elim (λz:Int×Int×ByteArray×Nat×FL×SP=>.ret (.agg [i64 z.1,i64 z.2.1,st z.2.2.1,.sl 3 4 0 z.p3]) ((hHP z.q5)++[some (.row 37 4 z.p3 z.p4)])) (λz:Int×Int=>.pan (.ifc 161 (.agg [i64 z.1,i64 z.2]))))
def fl3:kH->Z3:=Sum.elim (λz:Int×Int×ByteArray×FL×SP=>.ret (.agg [i64 z.1,i64 z.2.1,st z.2.2.1,.sl 3 4 0 3]) [some (.blk [.ro 4 z.p6 (λj=>[i64 (z.p7 j),i64 (z.p8 j),st (z.p9 j),i64 (z.p10 j)]),i64 z.p4,i64 z.p5,.sl 1 1 0 z.p11,.sl 2 1 0 z.p13]),some (.row 9 1 z.p11 (λj=>[st (z.p12 j)])),some (.row 9 1 z.p13 (λj=>[st (z.q14 j)])),some (.row 37 4 3 z.p3)]) (λz:Int×Int=>.pan (.ifc 161 (.agg [i64 z.1,i64 z.2])))
abbrev gD:Type:=(SC2)⊕(Nat×FI×FI×FS×FI×Int×Int×Nat×Nat×FS×FS×FI×FI×FS×FN×FM×Nat)
abbrev jK:Type:=(Int×Int)⊕(SC2)⊕(Nat×FI×FI×FS×FI×Int×Int×Nat×Nat×FS×FS×Nat×FI×FI×FS×FN×FM)
def cr3(x:SP)(y:SC2):St:={fr:=[V.ptr 0 0,V.junk,V.ptr 3 0,V.ptr 4 0]++jk 21,H:=hp [some (hPB y),some (hPV y),some (gz1 y),some (Z1.blk [i64 0,i64 0,st ⟨#[]⟩,j0]),some (Z1.blk [i64 14,i64 0,st ⟨#[]⟩,j0])],nx:=5,rt:=1,me:=161}
def cx5(x:SP)(y:Nat×FI×FI×FS×FI×Int×Int×Nat×Nat×FS×FS×FI×FI×FS×FN×FM×Nat):St:={fr:=[V.ptr 0 0,V.junk,V.ptr 3 0,V.ptr 4 0]++jk 21,H:=hp [some (hPB y),some (hPV y),some (hPQ y),some (Z1.blk [i64 0,i64 0,st ⟨#[]⟩,j0]),some (Z1.blk [i64 14,i64 0,st ⟨#[]⟩,V.sl 5 4 0 y.q16]),some (Z1.row 37 4 y.q16 λj=>[i64 (y.p11 j),i64 (y.p12 j),st (y.p13 j),V.ro 4 (y.p14 j) (y.p15 j)])],nx:=6,rt:=1,me:=161}
def ee8(x:SP):gD->St:=(Sum.elim (cr3 x) (cx5 x))
theorem ds9(x:SP):VL (ee8 x):=vl λs=>(match s.nx==5 with|true=>(.inl (((r7 (cb s 0 0)),dTI (cb s 0 0) 0,dTI (cb s 0 0) 1,dTS (cb s 0 0) 2,dTI (cb s 0 0) 3,vI (cb s 0 1),vI (cb s 0 2),aV (cb s 0 3),aV (cb s 0 4),dRS (s.H 1) 0,dRS (s.H 2) 0))) |false=>(.inr (((r7 (cb s 0 0)),dTI (cb s 0 0) 0,dTI (cb s 0 0) 1,dTS (cb s 0 0) 2,dTI (cb s 0 0) 3,vI (cb s 0 1),vI (cb s 0 2),aV (cb s 0 3),aV (cb s 0 4),dRS (s.H 1) 0,dRS (s.H 2) 0,dRI (s.H 5) 0,dRI (s.H 5) 1,dRS (s.H 5) 2,dRN (s.H 5) 3,dRF (s.H 5) 3,aV (cb s 4 3)))))
def dq8(x:SP):jK->Ex×St:=(Sum.elim (λz=>(Ex.panic (V.ifc 161 (V.agg [i64 z.1,i64 z.2])),{fr:=[V.junk]++jk 24,H:=hp [none],nx:=1,rt:=1,me:=161})) (Sum.elim (λz=>(Ex.exit 0,{fr:=[V.ptr 0 0,V.junk,V.ptr 3 0,V.ptr 4 0]++jk 21,H:=hp [some (hPB z),some (hPV z),some (gz1 z),some (Z1.blk [i64 0,i64 0,st ⟨#[]⟩,j0]),some (Z1.blk [i64 14,i64 0,st ⟨#[]⟩,j0])],nx:=5,rt:=1,me:=161})) (λz=>(Ex.exit 0,{fr:=[V.ptr 0 0,V.junk,V.ptr 3 0,V.ptr 4 0]++jk 21,H:=hp [some (hPB z),some (hPV z),some (hPQ z),some (Z1.blk [i64 0,i64 0,st ⟨#[]⟩,j0]),some (Z1.blk [i64 14,i64 0,st ⟨#[]⟩,V.sl 5 4 0 z.p11]),some (Z1.row 37 4 z.p11 λj=>[i64 (z.p12 j),i64 (z.p13 j),st (z.p14 j),V.ro 4 (z.p15 j) (z.q16 j)])],nx:=6,rt:=1,me:=161}))))
abbrev wQ{β:Type}(A:bZ->Option bT)(B:bZ->Option nO)(C:SP->Option b7)(x:SP)(y:SC2)(nx:gD->Option β)(dn:jK->Option β):Option β:=
 U11 y λA D E F G H I J K L M=>(B (⟨#[125]⟩,H,I,A,D,E,F,G,J,L,K,M)).bind λa=>if(!a.1) then(C a.2).bind λb=>Sum.elim (λc=>nx (.inr (c.2.2.2.2.2.2.2.1,c.2.2.2.2.2.2.2.2.1,c.2.2.2.2.2.2.2.2.2.1,c.2.2.2.2.2.2.2.2.2.2.1,c.2.2.2.2.2.2.2.2.2.2.2.1,c.2.2.2.2.2.1,c.2.2.2.2.2.2.1,c.2.2.2.2.2.2.2.2.2.2.2.2.1,c.2.2.2.2.2.2.2.2.2.2.2.2.2.2.1,c.2.2.2.2.2.2.2.2.2.2.2.2.2.1,c.2.2.2.2.2.2.2.2.2.2.2.2.2.2.2,λj=>c.1,λj=>c.2.1,λj=>c.2.2.1,λj=>c.2.2.2.1,λj=>c.2.2.2.2.1,1))) (λd=>dn (.inl d)) b else dn (.inr (.inl (a.2.2.2.1,a.2.2.2.2.1,a.2.2.2.2.2.1,a.2.2.2.2.2.2.1,a.2.2.2.2.2.2.2.1,a.2.1,a.2.2.1,a.2.2.2.2.2.2.2.2.1,a.2.2.2.2.2.2.2.2.2.2.1,a.2.2.2.2.2.2.2.2.2.1,a.2.2.2.2.2.2.2.2.2.2.2)))
abbrev vP{β:Type}(A:bZ->Option bT)(B:bZ->Option nO)(C:SP->Option b7)(x:SP)(y:Nat×FI×FI×FS×FI×Int×Int×Nat×Nat×FS×FS×FI×FI×FS×FN×FM×Nat)(nx:gD->Option β)(dn:jK->Option β):Option β:=
 U17 y λA D E F G H I J K L M N O P Q R S=>(B (⟨#[125]⟩,H,I,A,D,E,F,G,J,L,K,M)).bind λa=>if(!a.1) then(C a.2).bind λb=>Sum.elim (λc=>if(S+1)*56<=b6/\S+1<=maxLen/\S<=S then nx (.inr (c.2.2.2.2.2.2.2.1,c.2.2.2.2.2.2.2.2.1,c.2.2.2.2.2.2.2.2.2.1,c.2.2.2.2.2.2.2.2.2.2.1,c.2.2.2.2.2.2.2.2.2.2.2.1,c.2.2.2.2.2.1,c.2.2.2.2.2.2.1,c.2.2.2.2.2.2.2.2.2.2.2.2.1,c.2.2.2.2.2.2.2.2.2.2.2.2.2.2.1,c.2.2.2.2.2.2.2.2.2.2.2.2.2.1,c.2.2.2.2.2.2.2.2.2.2.2.2.2.2.2,λj=>if j<S then N j else c.1,λj=>if j<S then O j else c.2.1,λj=>if j<S then P j else c.2.2.1,λj=>if j<S then Q j else c.2.2.2.1,λ(j j_1:Nat)=>if j<S then R j j_1 else c.2.2.2.2.1 j_1,S+1))else none) (λd=>dn (.inl d)) b else dn (.inr (.inr (a.2.2.2.1,a.2.2.2.2.1,a.2.2.2.2.2.1,a.2.2.2.2.2.2.1,a.2.2.2.2.2.2.2.1,a.2.1,a.2.2.1,a.2.2.2.2.2.2.2.2.1,a.2.2.2.2.2.2.2.2.2.2.1,a.2.2.2.2.2.2.2.2.2.1,a.2.2.2.2.2.2.2.2.2.2.2,S,N,O,P,Q,R)))
noncomputable def af3(A:bZ->Option bT)(B:bZ->Option nO)(C:SP->Option b7)(q:Nat)(x:SP):gD->Option jK:=lpG (Sum.elim (λy=>wQ A B C x y (λy=>some (.inl y)) (λz=>some (.inr z))) (λy=>vP A B C x y (λy=>some (.inl y)) (λz=>some (.inr z)))) q
abbrev ao7{β:Type}(A:bZ->Option bT)(B:bZ->Option nO)(C:SP->Option b7)(D:gD->Option jK)(x:SP)(dn:aq2->Option β):Option β:=
 (A (⟨#[123]⟩,x)).bind λa=>Sum.elim (λb=>(D (.inl (b.2.2.1,b.2.2.2.1,b.2.2.2.2.1,b.2.2.2.2.2.1,b.2.2.2.2.2.2.1,b.1,b.2.1,b.2.2.2.2.2.2.2.1,b.2.2.2.2.2.2.2.2.2.1,b.2.2.2.2.2.2.2.2.1,b.2.2.2.2.2.2.2.2.2.2))).bind λc=>Sum.elim (λd=>dn (.inr (.inr d))) (λe=>Sum.elim (λf=>dn (.inl (14,0,⟨#[]⟩,f.2.2.2.2.2.1,w (f.2.2.2.2.2.2.1-1),f.1,f.2.1,f.2.2.1,f.2.2.2.1,f.2.2.2.2.1,f.2.2.2.2.2.2.2.1,f.2.2.2.2.2.2.2.2.2.1,f.2.2.2.2.2.2.2.2.1,f.2.2.2.2.2.2.2.2.2.2))) (λg=>dn (.inr (.inl (14,0,⟨#[]⟩,g.2.2.2.2.2.2.2.2.2.2.2.1,λj=>[i64 (g.2.2.2.2.2.2.2.2.2.2.2.2.1 j),i64 (g.2.2.2.2.2.2.2.2.2.2.2.2.2.1 j),st (g.2.2.2.2.2.2.2.2.2.2.2.2.2.2.1 j),V.ro 4 (g.2.2.2.2.2.2.2.2.2.2.2.2.2.2.2.1 j) (g.2.2.2.2.2.2.2.2.2.2.2.2.2.2.2.2 j)],g.2.2.2.2.2.1,w (g.2.2.2.2.2.2.1-1),g.1,g.2.1,g.2.2.1,g.2.2.2.1,g.2.2.2.2.1,g.2.2.2.2.2.2.2.1,g.2.2.2.2.2.2.2.2.2.1,g.2.2.2.2.2.2.2.2.1,g.2.2.2.2.2.2.2.2.2.2.1)))) e) c) (λh=>dn (.inr (.inr h))) a
noncomputable abbrev ad3{β:Type}(c_expr:t6->Option b7)(c_block:SP->Option b7)(c_take:bZ->Option nO)(x:SP)(dn:kH->Option β):Option β:=
 (c_expr (1,w (x.1+1),x.2)).bind λa=>Sum.elim (λb=>(c_block b.2.2.2.2.2).bind λc=>Sum.elim (λd=>(c_take (⟨#[101,108,115,101]⟩,d.2.2.2.2.2)).bind λe=>if e.1 then(c_block e.2).bind λf=>Sum.elim (λg=>dn (.inl (3,0,⟨#[]⟩,λj=>[i64 (if j<2 then if j<1 then b.1 else d.1 else g.1),i64 (if j<2 then if j<1 then b.2.1 else d.2.1 else g.2.1),st (if j<2 then if j<1 then b.2.2.1 else d.2.2.1 else g.2.2.1),V.ro 4 (if j<2 then if j<1 then b.2.2.2.1 else d.2.2.2.1 else g.2.2.2.1) λj_1=>if j<2 then if j<1 then b.2.2.2.2.1 j_1 else d.2.2.2.2.1 j_1 else g.2.2.2.2.1 j_1],g.2.2.2.2.2))) (λi=>dn (.inr i)) f else dn (.inl (3,0,⟨#[]⟩,λj=>[i64 (if j<2 then if j<1 then b.1 else d.1 else 14),i64 (if j<2 then if j<1 then b.2.1 else d.2.1 else 0),st (if j<2 then if j<1 then b.2.2.1 else d.2.2.1 else⟨#[]⟩),Decidable.rec (λ(h:¬j<1+1)=>j0) (λ(h:j<1+1)=>bb6 (j<1) (V.ro 4 b.2.2.2.1 b.2.2.2.2.1) (V.ro 4 d.2.2.2.1 d.2.2.2.2.1)) (Nat.decLt j (1+1))],e.2))) (λk=>dn (.inr k)) c) (λl=>dn (.inr l)) a
abbrev wO{β:Type}(A:tX->Option tV)(B:SP->Option b7)(x:SP)(dn:x6->Option β):Option β:=
 (A (1,100,w (x.1+1),x.2)).bind λa=>Sum.elim (λb=>(B b.2).bind λc=>Sum.elim (λd=>dn (.inl (4,b.1,⟨#[]⟩,d))) (λe=>dn (.inr e)) c) (λf=>dn (.inr f)) a
abbrev oU{β:Type}(A:SP->Option bJ)(B:SP->Option b7)(C:SP->Option b7)(D:SP->Option b7)(E:SP->Option b7)(F:SP->Option b7)(G:SP->Option b7)(H:SP->Option b7)(I:SP->Option b7)(J:bZ->Option bT)(x:SP)(dn:b7->Option β):Option β:=
 (A x).bind λa=>if(a.2.2.1.toList==ByteArray.toList ⟨#[108,101,116]⟩) then(B a.2.2.2.2).bind λb=>Sum.elim (λc=>(J (⟨#[59]⟩,c.2.2.2.2.2)).bind λd=>Sum.elim (λe=>dn (.inl (c.1,c.2.1,c.2.2.1,c.2.2.2.1,c.2.2.2.2.1,e))) (λf=>dn (.inr f)) d) (λg=>dn (.inr g)) b else if(a.2.2.1.toList==ByteArray.toList ⟨#[105,102]⟩) then(C a.2.2.2.2).bind λh=>Sum.elim (λi=>dn (.inl i)) (λj=>dn (.inr j)) h else if(a.2.2.1.toList==ByteArray.toList ⟨#[114,101,112,101,97,116]⟩) then(D a.2.2.2.2).bind λk=>Sum.elim (λl=>dn (.inl l)) (λm=>dn (.inr m)) k else if(a.2.2.1.toList==ByteArray.toList ⟨#[97,119,97,105,116]⟩) then(E a.2.2.2.2).bind λn=>Sum.elim (λo=>(J (⟨#[59]⟩,o.2.2.2.2.2)).bind λp=>Sum.elim (λq=>dn (.inl (o.1,o.2.1,o.2.2.1,o.2.2.2.1,o.2.2.2.2.1,q))) (λr=>dn (.inr r)) p) (λs=>dn (.inr s)) n else if(a.2.2.1.toList==ByteArray.toList ⟨#[119,97,105,116]⟩) then(F a.2.2.2.2).bind λt=>Sum.elim (λu=>(J (⟨#[59]⟩,u.2.2.2.2.2)).bind λv=>Sum.elim (λz=>dn (.inl (u.1,u.2.1,u.2.2.1,u.2.2.2.1,u.2.2.2.2.1,z))) (λaa=>dn (.inr aa)) v) (λab=>dn (.inr ab)) t else if(a.2.2.1.toList==ByteArray.toList ⟨#[107,101,101,112]⟩) then(F a.2.2.2.2).bind λac=>Sum.elim (λad=>(J (⟨#[59]⟩,ad.2.2.2.2.2)).bind λae=>Sum.elim (λaf=>dn (.inl (ad.1,ad.2.1,ad.2.2.1,ad.2.2.2.1,ad.2.2.2.2.1,af))) (λag=>dn (.inr ag)) ae) (λah=>dn (.inr ah)) ac else if(a.2.2.1.toList==ByteArray.toList ⟨#[114,101,113,117,105,114,101]⟩) then(G a.2.2.2.2).bind λai=>Sum.elim (λaj=>(J (⟨#[59]⟩,aj.2.2.2.2.2)).bind λak=>Sum.elim (λal=>dn (.inl (aj.1,aj.2.1,aj.2.2.1,aj.2.2.2.1,aj.2.2.2.2.1,al))) (λam=>dn (.inr am)) ak) (λan=>dn (.inr an)) ai else if(a.2.2.1.toList==ByteArray.toList ⟨#[112,111,105,110,116]⟩) then(G a.2.2.2.2).bind λao=>Sum.elim (λap=>(J (⟨#[59]⟩,ap.2.2.2.2.2)).bind λaq=>Sum.elim (λar=>dn (.inl (ap.1,ap.2.1,ap.2.2.1,ap.2.2.2.1,ap.2.2.2.2.1,ar))) (λau=>dn (.inr au)) aq) (λav=>dn (.inr av)) ao else if(a.2.2.1.toList==ByteArray.toList ⟨#[117,115,101]⟩) then(H a.2.2.2.2).bind λaw=>Sum.elim (λax=>(J (⟨#[59]⟩,ax.2.2.2.2.2)).bind λay=>Sum.elim (λaz=>dn (.inl (ax.1,ax.2.1,ax.2.2.1,ax.2.2.2.1,ax.2.2.2.2.1,az))) (λba=>dn (.inr ba)) ay) (λbb=>dn (.inr bb)) aw else if(a.2.2.1.toList==ByteArray.toList ⟨#[115,101,110,100]⟩) then(H a.2.2.2.2).bind λbc=>Sum.elim (λbd=>(J (⟨#[59]⟩,bd.2.2.2.2.2)).bind λbe=>Sum.elim (λbf=>dn (.inl (bd.1,bd.2.1,bd.2.2.1,bd.2.2.2.1,bd.2.2.2.2.1,bf))) (λbg=>dn (.inr bg)) be) (λbh=>dn (.inr bh)) bc else if(a.2.2.1.toList==ByteArray.toList ⟨#[101,109,105,116]⟩) then(H a.2.2.2.2).bind λbi=>Sum.elim (λbj=>(J (⟨#[59]⟩,bj.2.2.2.2.2)).bind λbk=>Sum.elim (λbl=>dn (.inl (bj.1,bj.2.1,bj.2.2.1,bj.2.2.2.1,bj.2.2.2.2.1,bl))) (λbm=>dn (.inr bm)) bk) (λbn=>dn (.inr bn)) bi else if(a.2.2.1.toList==ByteArray.toList ⟨#[97,98,111,114,116]⟩) then(H a.2.2.2.2).bind λbp=>Sum.elim (λbq=>(J (⟨#[59]⟩,bq.2.2.2.2.2)).bind λbr=>Sum.elim (λbs=>dn (.inl (bq.1,bq.2.1,bq.2.2.1,bq.2.2.2.1,bq.2.2.2.2.1,bs))) (λbt=>dn (.inr bt)) br) (λbu=>dn (.inr bu)) bp else(I a.2.2.2.2).bind λbv=>Sum.elim (λbw=>(J (⟨#[59]⟩,bw.2.2.2.2.2)).bind λbx=>Sum.elim (λbz=>dn (.inl (bw.1,bw.2.1,bw.2.2.1,bw.2.2.2.1,bw.2.2.2.2.1,bz))) (λca=>dn (.inr ca)) bx) (λcb=>dn (.inr cb)) bv
def ao9:aq2->b7:=Sum.elim (λz=>.inl (z.1,z.2.1,z.2.2.1,0,λ_=>[],z.2.2.2)) (Sum.elim (λz=>.inl z) (λz=>.inr z))
theorem fm8{args:List V}{L:List (Option Z1)}(z:aq2)(h:SC E5 161 args L (gi3 z)):SC E5 161 args L (j5 (ao9 z)):=by
 rcases z with z|z|z
 ·exact ha7 h
 ·exact ho0 h
 ·exact h
def pI:kH->b7:=Sum.elim (λz=>.inl (z.1,z.2.1,z.2.2.1,3,λj=>fixC (z.2.2.2.1 j),z.2.2.2.2)) (λz=>.inr z)
theorem ew2{args:List V}{L:List (Option Z1)}(z:kH)(h:SC E5 291 args L (fl3 z)):SC E5 291 args L (j5 (pI z)):=by
 rcases z with z|z
 ·exact hv6 h
 ·exact h
def wD:x6->b7:=Sum.elim (λz=>.inl (z.1,z.2.1,z.2.2.1,1,cN [[i64 z.2.2.2.1,i64 z.2.2.2.2.1,st z.2.2.2.2.2.1,.ro 4 z.2.2.2.2.2.2.1 z.2.2.2.2.2.2.2.1]],z.2.2.2.2.2.2.2.2)) (λz=>.inr z)
theorem eb6{args:List V}{L:List (Option Z1)}(z:x6)(h:SC E5 292 args L (iH z)):SC E5 292 args L (j5 (wD z)):=by
 rcases z with z|z
 ·exact cs3 h
 ·exact h
def dA:b7->b7:=Sum.elim (λz=>.inl z) (λz=>.inr z)
theorem cf3{args:List V}{L:List (Option Z1)}(z:b7)(h:SC E5 230 args L (j5 z)):SC E5 230 args L (j5 (dA z)):=by
 rcases z with z|z
 ·exact h
 ·exact h
noncomputable def stS:Nat->(SP->Option b7)×(SP->Option b7)×(SP->Option b7)×(SP->Option b7)
 |0=>(λ_=>none,λ_=>none,λ_=>none,λ_=>none)
 |q+1=>(λx=>(ao7 ((nC q)) ((take q)) ((stS q).2.2.2) (af3 ((nC q)) ((take q)) ((stS q).2.2.2) q x) x some).map ao9,
  λx=>(ad3 ((expr q)) ((stS q).1) ((take q)) x some).map pI,
  λx=>(wO ((nR q)) ((stS q).1) x some).map wD,
  λx=>(oU ((next q)) ((go3 q)) ((stS q).2.1) ((stS q).2.2.1) ((await q)) ((bo9 q)) ((bt8 q)) ((numbered q)) ((assign q)) ((uR q)) x some).map dA)
theorem gp7:∀q,(∀x z,(stS q).1 x=some z->SC E5 161 (l8 x).1 (l8 x).2 (j5 z))/\(∀x z,(stS q).2.1 x=some z->SC E5 291 (l8 x).1 (l8 x).2 (j5 z))/\(∀x z,(stS q).2.2.1 x=some z->SC E5 292 (l8 x).1 (l8 x).2 (j5 z))/\(∀x z,(stS q).2.2.2 x=some z->SC E5 230 (l8 x).1 (l8 x).2 (j5 z))
 |0=>⟨(λx z h=>by cases h),(λx z h=>by cases h),(λx z h=>by cases h),(λx z h=>by cases h)⟩
 |q+1=>by
  obtain⟨h0,h1,h2,h3⟩:=gp7 q
  exact⟨(λx z h=>by
   obtain⟨y,hy,rfl⟩:=Option.map_eq_some_iff.1 h
   exact fm8 y ((have K:=(kc rM (bz3 q) (kc rM (au9 q) (kc s9 (h3) kn)));sl hW5 hX5 K (λx=>(lc 0 (ds9 x) (lp2 hX5 (dq8 x) 161 0 13 [(0,13)] 4 K ln q (λc l β=>wQ (β:=β) c.1 c.2.1 c.2.2.1 x) λc l β=>vP (β:=β) c.1 c.2.1 c.2.2.1 x) ln)) λc l β=>ao7 (β:=β) c.1 c.2.1 c.2.2.1 l.1) x y hy)),(λx z h=>by
   obtain⟨y,hy,rfl⟩:=Option.map_eq_some_iff.1 h
   exact ew2 y ((so hW5 hX5 (kc jA (ar0 q) (kc s9 (h0) (kc rM (au9 q) kn))) λc β=>ad3 (β:=β) c.1 c.2.1 c.2.2.1) x y hy)),(λx z h=>by
   obtain⟨y,hy,rfl⟩:=Option.map_eq_some_iff.1 h
   exact eb6 y ((so hW5 hX5 (kc by3 (az5 q) (kc s9 (h0) kn)) λc β=>wO (β:=β) c.1 c.2.1) x y hy)),(λx z h=>by
   obtain⟨y,hy,rfl⟩:=Option.map_eq_some_iff.1 h
   exact cf3 y ((so hW5 hX5 (kc s9 (lV q) (kc s9 (gt5 q) (kc s9 (h1) (kc s9 (h2) (kc s9 (go9 q) (kc s9 (fo6 q) (kc s9 (fr5 q) (kc s9 (do5 q) (kc s9 (fy0 q) (kc rM (sP q) kn)))))))))) λc β=>oU (β:=β) c.1 c.2.1 c.2.2.1 c.2.2.2.1 c.2.2.2.2.1 c.2.2.2.2.2.1 c.2.2.2.2.2.2.1 c.2.2.2.2.2.2.2.1 c.2.2.2.2.2.2.2.2.1 c.2.2.2.2.2.2.2.2.2.1) x y hy))⟩
noncomputable def block(q:Nat):SP->Option b7:=(stS q).1
theorem gm4(q:Nat):Lw E5 161 l8 j5 (block q):=(gp7 q).1
noncomputable def gc3(q:Nat):SP->Option b7:=(stS q).2.1
noncomputable def fd4(q:Nat):SP->Option b7:=(stS q).2.2.1
noncomputable def uE(q:Nat):SP->Option b7:=(stS q).2.2.2
abbrev uG:Type:=(SP)⊕(Nat×FS×FS×SP)⊕(Int×Int)
def fx2:AR SP:=λx=>([.ptr 0 0],[some (.blk [.ro 4 x.2.2.1 (λj=>[i64 (x.p3 j),i64 (x.p4 j),st (x.p5 j),i64 (x.p6 j)]),i64 x.1,i64 x.2.1,.sl 2 1 0 x.p7,.sl 1 1 0 x.p9]),some (.row 9 1 x.p9 (λj=>[st (x.q10 j)])),some (.row 9 1 x.p7 (λj=>[st (x.p8 j)]))])
def ck0:uG->Z3:=Sum.elim (λz:SP=>.ret j0 (hHP z)) (Sum.elim (λz:Nat×FS×FS×SP=>.ret (.sl 3 2 0 z.1) [some (.blk [.ro 4 z.p5 (λj=>[i64 (z.p6 j),i64 (z.p7 j),st (z.p8 j),i64 (z.p9 j)]),i64 z.p3,i64 z.p4,.sl 1 1 0 z.p10,.sl 2 1 0 z.p12]),some (.row 9 1 z.p10 (λj=>[st (z.p11 j)])),some (.row 9 1 z.p12 (λj=>[st (z.q13 j)])),some (.row 174 2 z.1 (λj=>[st (z.2.1 j),st (z.2.2.1 j)]))]) (λz:Int×Int=>.pan (.ifc 161 (.agg [i64 z.1,i64 z.2]))))
abbrev eJ:Type:=(SC2)⊕(Nat×FI×FI×FS×FI×Int×Int×Nat×Nat×FS×FS×FS×FS×Nat)
abbrev gW:Type:=(Int×Int)⊕(Nat×FI×FI×FS×FI×Int×Int×Nat×Nat×FS×FS×FS×FS×Nat)
def ce4(x:SP)(y:SC2):St:={fr:=[V.ptr 0 0,V.junk,V.junk,j0]++jk 54,H:=hp [some (hPB y),some (hPV y),some (gz1 y)],nx:=3,rt:=1,me:=160}
def cf6(x:SP)(y:Nat×FI×FI×FS×FI×Int×Int×Nat×Nat×FS×FS×FS×FS×Nat):St:={fr:=[V.ptr 0 0,V.junk,V.junk,V.sl 3 2 0 y.q13]++jk 54,H:=hp [some (hPB y),some (hPV y),some (hPQ y),some (Z1.row 174 2 y.q13 λj=>[st (y.p11 j),st (y.p12 j)])],nx:=4,rt:=1,me:=160}
def cz9(x:SP):eJ->St:=(Sum.elim (ce4 x) (cf6 x))
theorem db9(x:SP):VL (cz9 x):=vl λs=>(match s.nx==3 with|true=>(.inl (((r7 (cb s 0 0)),dTI (cb s 0 0) 0,dTI (cb s 0 0) 1,dTS (cb s 0 0) 2,dTI (cb s 0 0) 3,vI (cb s 0 1),vI (cb s 0 2),aV (cb s 0 3),aV (cb s 0 4),dRS (s.H 1) 0,dRS (s.H 2) 0))) |false=>(.inr (((r7 (cb s 0 0)),dTI (cb s 0 0) 0,dTI (cb s 0 0) 1,dTS (cb s 0 0) 2,dTI (cb s 0 0) 3,vI (cb s 0 1),vI (cb s 0 2),aV (cb s 0 3),aV (cb s 0 4),dRS (s.H 1) 0,dRS (s.H 2) 0,dRS (s.H 3) 0,dRS (s.H 3) 1,aV (fv s 3)))))
def cs5(x:SP):gW->Ex×St:=(Sum.elim (λz=>(Ex.panic (V.ifc 161 (V.agg [i64 z.1,i64 z.2])),{fr:=[V.junk]++jk 57,H:=hp [none],nx:=1,rt:=1,me:=160})) (λz=>(Ex.exit 0,{fr:=[V.ptr 0 0,V.junk,V.junk,V.sl 3 2 0 z.q13]++jk 54,H:=hp [some (hPB z),some (hPV z),some (hPQ z),some (Z1.row 174 2 z.q13 λj=>[st (z.p11 j),st (z.p12 j)])],nx:=4,rt:=1,me:=160})))
abbrev sX{β:Type}(A:bZ->Option bT)(B:bZ->Option nO)(C:SP->Option fK)(D:SP->Option bJ)(E:ByteArray->Option l7)(F:t6->Option o8)(x:SP)(y:SC2)(nx:eJ->Option β)(dn:gW->Option β):Option β:=
 U11 y λA G H I J K L M N O P=>(C (K,L,A,G,H,I,J,M,O,N,P)).bind λa=>Sum.elim (λb=>(B (⟨#[58]⟩,b.2)).bind λc=>if c.1 then(D c.2).bind λd=>(E d.2.2.1).bind λe=>if(d.1 !=1) then(F (11,d.2.2.2.2)).bind λf=>dn (.inl f)else if(!e.2.2.2.2.2.2) then(F (10,d.2.2.2.2)).bind λg=>dn (.inl g)else(B (⟨#[44]⟩,w (d.2.2.2.2.1+1),d.2.2.2.2.2)).bind λh=>if(!h.1) then dn (.inr (h.2.2.2.1,h.2.2.2.2.1,h.2.2.2.2.2.1,h.2.2.2.2.2.2.1,h.2.2.2.2.2.2.2.1,h.2.1,h.2.2.1,h.2.2.2.2.2.2.2.2.1,h.2.2.2.2.2.2.2.2.2.2.1,h.2.2.2.2.2.2.2.2.2.1,h.2.2.2.2.2.2.2.2.2.2.2,λj=>b.1,λj=>d.2.2.1,1))else nx (.inr (h.2.2.2.1,h.2.2.2.2.1,h.2.2.2.2.2.1,h.2.2.2.2.2.2.1,h.2.2.2.2.2.2.2.1,h.2.1,h.2.2.1,h.2.2.2.2.2.2.2.2.1,h.2.2.2.2.2.2.2.2.2.2.1,h.2.2.2.2.2.2.2.2.2.1,h.2.2.2.2.2.2.2.2.2.2.2,λj=>b.1,λj=>d.2.2.1,1))else(B (⟨#[44]⟩,c.2)).bind λi=>if(!i.1) then dn (.inr (i.2.2.2.1,i.2.2.2.2.1,i.2.2.2.2.2.1,i.2.2.2.2.2.2.1,i.2.2.2.2.2.2.2.1,i.2.1,i.2.2.1,i.2.2.2.2.2.2.2.2.1,i.2.2.2.2.2.2.2.2.2.2.1,i.2.2.2.2.2.2.2.2.2.1,i.2.2.2.2.2.2.2.2.2.2.2,λj=>b.1,λj=>⟨#[]⟩,1))else nx (.inr (i.2.2.2.1,i.2.2.2.2.1,i.2.2.2.2.2.1,i.2.2.2.2.2.2.1,i.2.2.2.2.2.2.2.1,i.2.1,i.2.2.1,i.2.2.2.2.2.2.2.2.1,i.2.2.2.2.2.2.2.2.2.2.1,i.2.2.2.2.2.2.2.2.2.1,i.2.2.2.2.2.2.2.2.2.2.2,λj=>b.1,λj=>⟨#[]⟩,1))) (λk=>dn (.inl k)) a
abbrev tB{β:Type}(A:bZ->Option bT)(B:bZ->Option nO)(C:SP->Option fK)(D:SP->Option bJ)(E:ByteArray->Option l7)(F:t6->Option o8)(x:SP)(y:Nat×FI×FI×FS×FI×Int×Int×Nat×Nat×FS×FS×FS×FS×Nat)(nx:eJ->Option β)(dn:gW->Option β):Option β:=
 U14 y λA G H I J K L M N O P Q R S=>(C (K,L,A,G,H,I,J,M,O,N,P)).bind λa=>Sum.elim (λb=>(B (⟨#[58]⟩,b.2)).bind λc=>if c.1 then(D c.2).bind λd=>(E d.2.2.1).bind λe=>if(d.1 !=1) then(F (11,d.2.2.2.2)).bind λf=>dn (.inl f)else if(!e.2.2.2.2.2.2) then(F (10,d.2.2.2.2)).bind λg=>dn (.inl g)else if(S+1)*32<=b6/\S+1<=maxLen/\S<=S then(B (⟨#[44]⟩,w (d.2.2.2.2.1+1),d.2.2.2.2.2)).bind λh=>if(!h.1) then dn (.inr (h.2.2.2.1,h.2.2.2.2.1,h.2.2.2.2.2.1,h.2.2.2.2.2.2.1,h.2.2.2.2.2.2.2.1,h.2.1,h.2.2.1,h.2.2.2.2.2.2.2.2.1,h.2.2.2.2.2.2.2.2.2.2.1,h.2.2.2.2.2.2.2.2.2.1,h.2.2.2.2.2.2.2.2.2.2.2,λj=>if j<S then Q j else b.1,λj=>if j<S then R j else d.2.2.1,S+1))else nx (.inr (h.2.2.2.1,h.2.2.2.2.1,h.2.2.2.2.2.1,h.2.2.2.2.2.2.1,h.2.2.2.2.2.2.2.1,h.2.1,h.2.2.1,h.2.2.2.2.2.2.2.2.1,h.2.2.2.2.2.2.2.2.2.2.1,h.2.2.2.2.2.2.2.2.2.1,h.2.2.2.2.2.2.2.2.2.2.2,λj=>if j<S then Q j else b.1,λj=>if j<S then R j else d.2.2.1,S+1))else none else if(S+1)*32<=b6/\S+1<=maxLen/\S<=S then(B (⟨#[44]⟩,c.2)).bind λi=>if(!i.1) then dn (.inr (i.2.2.2.1,i.2.2.2.2.1,i.2.2.2.2.2.1,i.2.2.2.2.2.2.1,i.2.2.2.2.2.2.2.1,i.2.1,i.2.2.1,i.2.2.2.2.2.2.2.2.1,i.2.2.2.2.2.2.2.2.2.2.1,i.2.2.2.2.2.2.2.2.2.1,i.2.2.2.2.2.2.2.2.2.2.2,λj=>if j<S then Q j else b.1,λj=>if j<S then R j else⟨#[]⟩,S+1))else nx (.inr (i.2.2.2.1,i.2.2.2.2.1,i.2.2.2.2.2.1,i.2.2.2.2.2.2.1,i.2.2.2.2.2.2.2.1,i.2.1,i.2.2.1,i.2.2.2.2.2.2.2.2.1,i.2.2.2.2.2.2.2.2.2.2.1,i.2.2.2.2.2.2.2.2.2.1,i.2.2.2.2.2.2.2.2.2.2.2,λj=>if j<S then Q j else b.1,λj=>if j<S then R j else⟨#[]⟩,S+1))else none) (λk=>dn (.inl k)) a
noncomputable def ak7(A:bZ->Option bT)(B:bZ->Option nO)(C:SP->Option fK)(D:SP->Option bJ)(E:ByteArray->Option l7)(F:t6->Option o8)(q:Nat)(x:SP):eJ->Option gW:=lpG (Sum.elim (λy=>sX A B C D E F x y (λy=>some (.inl y)) (λz=>some (.inr z))) (λy=>tB A B C D E F x y (λy=>some (.inl y)) (λz=>some (.inr z)))) q
abbrev ax6{β:Type}(A:bZ->Option bT)(B:bZ->Option nO)(C:SP->Option fK)(D:SP->Option bJ)(E:ByteArray->Option l7)(F:t6->Option o8)(G:eJ->Option gW)(x:SP)(dn:uG->Option β):Option β:=
 (A (⟨#[40]⟩,x)).bind λa=>Sum.elim (λb=>(B (⟨#[41]⟩,b)).bind λc=>if c.1 then dn (.inl c.2)else(G (.inl (c.2.2.2.1,c.2.2.2.2.1,c.2.2.2.2.2.1,c.2.2.2.2.2.2.1,c.2.2.2.2.2.2.2.1,c.2.1,c.2.2.1,c.2.2.2.2.2.2.2.2.1,c.2.2.2.2.2.2.2.2.2.2.1,c.2.2.2.2.2.2.2.2.2.1,c.2.2.2.2.2.2.2.2.2.2.2))).bind λd=>Sum.elim (λe=>dn (.inr (.inr e))) (λf=>(A (⟨#[41]⟩,f.2.2.2.2.2.1,f.2.2.2.2.2.2.1,f.1,f.2.1,f.2.2.1,f.2.2.2.1,f.2.2.2.2.1,f.2.2.2.2.2.2.2.1,f.2.2.2.2.2.2.2.2.2.1,f.2.2.2.2.2.2.2.2.1,f.2.2.2.2.2.2.2.2.2.2.1)).bind λg=>Sum.elim (λh=>dn (.inr (.inl (f.2.2.2.2.2.2.2.2.2.2.2.2.2,f.2.2.2.2.2.2.2.2.2.2.2.1,f.2.2.2.2.2.2.2.2.2.2.2.2.1,h)))) (λi=>dn (.inr (.inr i))) g) d) (λj=>dn (.inr (.inr j))) a
noncomputable def bi6(q:Nat)(x:SP):Option uG:=ax6 (uR q) (take q) (wB q) (next q) (dG q) (fail q) (ak7 (uR q) (take q) (wB q) (next q) (dG q) (fail q) q x) x some
theorem ep8(q:Nat):Lw E5 160 fx2 ck0 (bi6 q):=have K:=(kc rM (sP q) (kc rM (au9 q) (kc s9 (bv9 q) (kc s9 (lV q) (kc l5 (tW q) (kc jA (wV q) kn))))));sl hW5 hX5 K (λx=>(lc 0 (db9 x) (lp2 hX5 (cs5 x) 160 0 9 [(0,9)] 4 K ln q (λc l β=>sX (β:=β) c.1 c.2.1 c.2.2.1 c.2.2.2.1 c.2.2.2.2.1 c.2.2.2.2.2.1 x) λc l β=>tB (β:=β) c.1 c.2.1 c.2.2.1 c.2.2.2.1 c.2.2.2.2.1 c.2.2.2.2.2.1 x) ln)) λc l β=>ax6 (β:=β) c.1 c.2.1 c.2.2.1 c.2.2.2.1 c.2.2.2.2.1 c.2.2.2.2.2.1 l.1
abbrev yX:Type:=Int×Int×Nat×FI×FI×FS×FI×Nat×FS
abbrev uV:Type:=(Nat×FS×FS×SP)⊕(Int×Int)
def du9:AR yX:=λx=>([.ptr 0 0],[some (.blk [.ro 4 x.2.2.1 (λj=>[i64 (x.p3 j),i64 (x.p4 j),st (x.p5 j),i64 (x.p6 j)]),i64 x.1,i64 x.2.1,j0,.sl 1 1 0 x.p7]),some (.row 9 1 x.p7 (λj=>[st (x.q8 j)]))])
theorem gh5:VI du9:=vd λt=>((vI (cc t 0 1)),vI (cc t 0 2),r7 (cc t 0 0),dTI (cc t 0 0) 0,dTI (cc t 0 0) 1,dTS (cc t 0 0) 2,dTI (cc t 0 0) 3,aV (cc t 0 4),dRS (co t 1) 0)
def du1:uV->Z3:=Sum.elim (λz:Nat×FS×FS×SP=>.ret (.ro 2 z.1 (λj=>[st (z.2.1 j),st (z.2.2.1 j)])) (hHP z.q3)) (λz:Int×Int=>.pan (.ifc 161 (.agg [i64 z.1,i64 z.2])))
def ac1:uG->uV:=Sum.elim (λz=>.inl (0,λ_=>ByteArray.empty,λ_=>ByteArray.empty,z)) (Sum.elim (λz=>.inl z) (λz=>.inr z))
theorem eu0{args:List V}{L:List (Option Z1)}(z:uG)(h:SC E5 160 args L (ck0 z)):SC E5 160 args L (du1 (ac1 z)):=by
 rcases z with z|z|z
 ·exact AG h AH
 ·have h2:=SC.giveM (L2:=[some (.blk [.ro 4 z.2.2.2.2.2.1 (λj=>[i64 (z.2.2.2.2.2.2.1 j),i64 (z.2.2.2.2.2.2.2.1 j),st (z.2.2.2.2.2.2.2.2.1 j),i64 (z.2.2.2.2.2.2.2.2.2.1 j)]),i64 z.2.2.2.1,i64 z.2.2.2.2.1,.sl 1 1 0 z.2.2.2.2.2.2.2.2.2.2.1,.sl 2 1 0 z.2.2.2.2.2.2.2.2.2.2.2.2.1]),some (.row 9 1 z.2.2.2.2.2.2.2.2.2.2.1 (λj=>[st (z.2.2.2.2.2.2.2.2.2.2.2.1 j)])),some (.row 9 1 z.2.2.2.2.2.2.2.2.2.2.2.2.1 (λj=>[st (z.2.2.2.2.2.2.2.2.2.2.2.2.2 j)]))]) 3 h (by rfl) (by simp[V.bw,V.bw2,V.bw1,hp,V.pure,n4]);simp only[V.bw,V.bw2,V.bw1,hp,List.getD_eq_getElem?_getD,List.getElem?_cons_succ,List.getElem?_cons_zero,Option.getD_some,Nat.zero_add,Nat.le_refl,and_self,if_true]at h2;exact h2
 ·exact h
noncomputable def params(q:Nat)(x:yX):Option uV:=(bi6 q (x.1,x.2.1,x.2.2.1,x.2.2.2.1,x.2.2.2.2.1,x.2.2.2.2.2.1,x.2.2.2.2.2.2.1,0,λ_=>ByteArray.empty,x.2.2.2.2.2.2.2)).map ac1
theorem fn2(q:Nat):Lw E5 160 du9 du1 (params q):=by
 intro x z h;obtain⟨y,hy,rfl⟩:=Option.map_eq_some_iff.1 h;have:=eu0 y (ep8 q _ y hy);refine SC.virtB 0 [.ro 4 x.2.2.1 (λj=>[i64 (x.2.2.2.1 j),i64 (x.2.2.2.2.1 j),st (x.2.2.2.2.2.1 j),i64 (x.2.2.2.2.2.2.1 j)]),i64 x.1,i64 x.2.1,.sl 2 1 0 0,.sl 1 1 0 x.2.2.2.2.2.2.2.1] 9 1 (λj=>[st ByteArray.empty]) (by decide) this rfl (λβ S w us b hb hd=>?_) (by show 1<=2;decide) (by show 1<=1;decide);simp only[d9]at hd⊢;obtain⟨u1,r1,rfl,h1,u2,r2,rfl,h2,u3,r3,rfl,h3,u4,r4,rfl,h4,u5,r5,rfl,h5,rfl⟩:=hd;exact⟨u1,_,rfl,h1,u2,_,rfl,h2,u3,_,rfl,h3,u4,_,rfl,bc3 (by show 2<3;decide) hb h4,u5,_,rfl,h5,rfl⟩
abbrev m8:Type:=(ByteArray×Nat×FS×FS×Int×Int×ByteArray×Nat×FL×SP)⊕(Int×Int)
def aI:m8->Z3:=Sum.elim (λz:ByteArray×Nat×FS×FS×Int×Int×ByteArray×Nat×FL×SP=>.ret (.agg [st z.1,.ro 2 z.2.1 (λj=>[st (z.2.2.1 j),st (z.p3 j)]),i64 z.p4,i64 z.p5,st z.p6,.ro 4 z.p7 z.p8]) (hHP z.q9)) (λz:Int×Int=>.pan (.ifc 161 (.agg [i64 z.1,i64 z.2])))
abbrev gE:Type:=Nat×Int×Nat×FI×FI×FS×FI×Int×Int×Nat×FS×FS×ByteArray×Int
abbrev kA:Type:=(Int×Int)⊕(Nat×FI×FI×FS×FI×Int×Int×Nat×Nat×FS×FS×ByteArray)
def bx0(x:SP)(y:gE):St:={fr:=[V.ptr 0 0,V.junk,V.ptr 3 0,V.ptr 4 0]++jk 10++[V.sl 2 1 0 y.1,i64 y.2.1,i64 y.q13]++jk 38,H:=hp [some (Z1.blk [V.ro 4 y.2.2.1 λj=>[i64 (y.p3 j),i64 (y.p4 j),st (y.p5 j),i64 (y.p6 j)],i64 y.p7,i64 y.p8,V.sl 1 1 0 y.p9,V.sl 2 1 0 y.1]),some (Z1.row 9 1 y.p9 λj=>[st (y.p10 j)]),some (Z1.row 9 1 y.1 λj=>[st (y.p11 j)]),some (Z1.blk [st ⟨#[]⟩,j0,i64 0,i64 0,st ⟨#[]⟩,j0]),some (Z1.blk [st y.p12,j0,i64 0,i64 0,st ⟨#[]⟩,j0])],nx:=5,rt:=1,me:=90}
theorem bp1(x:SP):VL (bx0 x):=vl λs=>((aV (fv s 14)),vI (fv s 15),r7 (cb s 0 0),dTI (cb s 0 0) 0,dTI (cb s 0 0) 1,dTS (cb s 0 0) 2,dTI (cb s 0 0) 3,vI (cb s 0 1),vI (cb s 0 2),aV (cb s 0 3),dRS (s.H 1) 0,dRS (s.H 2) 0,vS (cb s 4 0),vI (fv s 16))
def br7(x:SP):kA->Ex×St:=(Sum.elim (λz=>(Ex.panic (V.ifc 161 (V.agg [i64 z.1,i64 z.2])),{fr:=[V.junk]++jk 54,H:=hp [none],nx:=1,rt:=1,me:=90})) (λz=>(Ex.exit 0,{fr:=[V.ptr 0 0,V.junk,V.ptr 3 0,V.ptr 4 0]++jk 51,H:=hp [some (hPB z),some (hPV z),some (hPQ z),some (Z1.blk [st ⟨#[]⟩,j0,i64 0,i64 0,st ⟨#[]⟩,j0]),some (Z1.blk [st z.q11,j0,i64 0,i64 0,st ⟨#[]⟩,j0])],nx:=5,rt:=1,me:=90})))
abbrev fW{β:Type}(A:bZ->Option bT)(B:SP->Option fK)(C:t6->Option o8)(D:yX->Option uV)(E:SP->Option b7)(x:SP)(y:gE)(nx:gE->Option β)(dn:kA->Option β):Option β:=
 U14 y λA B D E F G H I J K L M N O=>if decide (O<B) then if 0<=O/\O< (A:Int)then if 0+Int.toNat O<A/\1=1 then if(ByteArray.toList (M (0+Int.toNat O))==N.toList) then(C (4,w (I-1),J,D,E,F,G,H,K,L,A,M)).bind λa=>dn (.inl a)else nx (A,B,D,E,F,G,H,I,J,K,L,M,N,w (O+1))else none else none else dn (.inr (D,E,F,G,H,I,J,K,A,L,M,N))
noncomputable def as8(A:bZ->Option bT)(B:SP->Option fK)(C:t6->Option o8)(D:yX->Option uV)(E:SP->Option b7)(q:Nat)(x:SP):gE->Option kA:=lpG (λy=>fW A B C D E x y (λy=>some (.inl y)) (λz=>some (.inr z))) q
abbrev yP{β:Type}(A:bZ->Option bT)(B:SP->Option fK)(C:t6->Option o8)(D:yX->Option uV)(E:SP->Option b7)(F:gE->Option kA)(x:SP)(dn:m8->Option β):Option β:=
 (A (⟨#[112,114,111,99,101,100,117,114,101]⟩,x)).bind λa=>Sum.elim (λb=>(B b).bind λc=>Sum.elim (λd=>(F (d.2.2.2.2.2.2.2.2.2.2.1,(d.2.2.2.2.2.2.2.2.2.2.1:Int),d.2.2.2.1,d.2.2.2.2.1,d.2.2.2.2.2.1,d.2.2.2.2.2.2.1,d.2.2.2.2.2.2.2.1,d.2.1,d.2.2.1,d.2.2.2.2.2.2.2.2.1,d.2.2.2.2.2.2.2.2.2.1,d.2.2.2.2.2.2.2.2.2.2.2,d.1,0)).bind λe=>Sum.elim (λf=>dn (.inr f)) (λg=>if(g.2.2.2.2.2.2.2.2.1+1)*16<=b6/\g.2.2.2.2.2.2.2.2.1+1<=maxLen/\g.2.2.2.2.2.2.2.2.1<=g.2.2.2.2.2.2.2.2.1 then(D (g.2.2.2.2.2.1,g.2.2.2.2.2.2.1,g.1,g.2.1,g.2.2.1,g.2.2.2.1,g.2.2.2.2.1,g.2.2.2.2.2.2.2.2.1+1,λj=>if j<g.2.2.2.2.2.2.2.2.1 then g.2.2.2.2.2.2.2.2.2.2.1 j else g.2.2.2.2.2.2.2.2.2.2.2)).bind λh=>Sum.elim (λi=>(E i.2.2.2).bind λk=>Sum.elim (λl=>dn (.inl (g.2.2.2.2.2.2.2.2.2.2.2,i.1,i.2.1,i.2.2.1,l))) (λm=>dn (.inr m)) k) (λn=>dn (.inr n)) h else none) e) (λo=>dn (.inr o)) c) (λp=>dn (.inr p)) a
noncomputable def bI(q:Nat)(x:SP):Option m8:=yP (uR q) (name q) (fail q) (params q) (block q) (as8 (uR q) (name q) (fail q) (params q) (block q) q x) x some
theorem xV(q:Nat):Lw E5 90 l8 aI (bI q):=have K:=(kc rM (sP q) (kc s9 (bn9 q) (kc jA (wV q) (kg (λ_ L=>L.length==2) gh5 (fn2 q) (kc s9 (gm4 q) kn)))));sl hW5 hX5 K (λx=>(lc 0 (bp1 x) (lp hX5 (br7 x) 90 0 114701 [(0,13)] 4 K ln q λc l β=>fW (β:=β) c.1 c.2.1 c.2.2.1 c.2.2.2.1 c.2.2.2.2.1 x) ln)) λc l β=>yP (β:=β) c.1 c.2.1 c.2.2.1 c.2.2.2.1 c.2.2.2.2.1 l.1
abbrev d8:Type:=Int×Int×Nat×FI×FI×FS×FI
def j1:AR d8:=λx=>([.ptr 0 0],[some (.blk [.ro 4 x.2.2.1 (λj=>[i64 (x.p3 j),i64 (x.p4 j),st (x.p5 j),i64 (x.q6 j)]),i64 x.1,i64 x.2.1,j0,j0])])
theorem cP:VI j1:=vd λt=>((vI (cc t 0 1)),vI (cc t 0 2),r7 (cc t 0 0),dTI (cc t 0 0) 0,dTI (cc t 0 0) 1,dTS (cc t 0 0) 2,dTI (cc t 0 0) 3)
noncomputable def dE(q:Nat)(x:d8):Option m8:=bI q (x.1,x.2.1,x.2.2.1,x.2.2.2.1,x.2.2.2.2.1,x.2.2.2.2.2.1,x.2.2.2.2.2.2,0,λ_=>ByteArray.empty,0,λ_=>ByteArray.empty)
theorem ai2(q:Nat):Lw E5 90 j1 aI (dE q):=by
 intro x z h;have this:=xV q _ z h;refine SC.virtB 0 [.ro 4 x.2.2.1 (λj=>[i64 (x.2.2.2.1 j),i64 (x.2.2.2.2.1 j),st (x.2.2.2.2.2.1 j),i64 (x.2.2.2.2.2.2 j)]),i64 x.1,i64 x.2.1,.sl 1 1 0 0,j0] 9 1 (λj=>[st ByteArray.empty]) (by decide) (cr:=aI z) (SC.virtB 0 [.ro 4 x.2.2.1 (λj=>[i64 (x.2.2.2.1 j),i64 (x.2.2.2.2.1 j),st (x.2.2.2.2.2.1 j),i64 (x.2.2.2.2.2.2 j)]),i64 x.1,i64 x.2.1,.sl 1 1 0 0,.sl 2 1 0 0] 9 1 (λj=>[st ByteArray.empty]) (by decide) this rfl (λβ S w us b hb hd=>?_) (by show 1<=2;decide) (by show 1<=1;decide)) rfl (λβ S w us b hb hd=>?_) (by show 1<=1;decide) (by show 1<=1;decide)
 all_goals
  simp only[d9]at hd⊢;obtain⟨u1,r1,rfl,h1,u2,r2,rfl,h2,u3,r3,rfl,h3,u4,r4,rfl,h4,u5,r5,rfl,h5,rfl⟩:=hd
 ·exact⟨u1,_,rfl,h1,u2,_,rfl,h2,u3,_,rfl,h3,u4,_,rfl,h4,u5,_,rfl,bc3 (by show 2<3;decide) hb h5,rfl⟩
 ·exact⟨u1,_,rfl,h1,u2,_,rfl,h2,u3,_,rfl,h3,u4,_,rfl,bc3 (by show 1<2;decide) hb h4,u5,_,rfl,h5,rfl⟩
def hn9:V->Nat| .fn g _=>g|_=>0
abbrev i32(n:Int):V:=.sc (.int .i32 n)
abbrev u8(n:Int):V:=.sc (.int .u8 n)
abbrev f5:Type:=ByteArray×Int
def bf1:AR f5:=λx=>([st x.1,u8 x.2],[])
theorem dk4:VI bf1:=vd λt=>(vS (ag t 0),vI (ag t 1))
noncomputable def af8(q:Nat)(x:f5):Option Int:=some (Lib.indexByte x.1.data.toList (UInt8.ofNat x.2.toNat))
theorem da9(q:Nat):Lw E5 225 bf1 pF (af8 q):=by
 rintro⟨s,c⟩ z h;cases h;exact sc5.2 (SC.ext hX rfl)
def yU:AR Int:=λx=>([i32 x],[])
theorem rF:VI yU:=vd λt=>(vI (ag t 0))
abbrev by8{β:Type}(x:Int)(dn:Bool->Option β):Option β:=
 if decide (x>=97) then if decide (x<=122) then dn true else if decide (x>=65) then dn (decide (x<=90))else dn false else if decide (x>=65) then dn (decide (x<=90))else dn false
noncomputable def wE(q:Nat)(x:Int):Option Bool:=by8 x some
theorem cm6(q:Nat):Lw E5 152 yU aX (wE q):=so hW5 hX5 kn λc β=>by8 (β:=β)
abbrev df2{β:Type}(x:Int)(dn:Bool->Option β):Option β:=
 if decide (x>=48) then dn (decide (x<=57))else dn false
noncomputable def xZ(q:Nat)(x:Int):Option Bool:=df2 x some
theorem bo6(q:Nat):Lw E5 154 yU aX (xZ q):=so hW5 hX5 kn λc β=>df2 (β:=β)
abbrev fa5{β:Type}(x:Int)(dn:Bool->Option β):Option β:=
 dn (x !=10)
noncomputable def du8(q:Nat)(x:Int):Option Bool:=fa5 x some
theorem gq4(q:Nat):Lw E5 151 yU aX (du8 q):=so hW5 hX5 kn λc β=>fa5 (β:=β)
abbrev dd7{β:Type}(A:Int->Option Bool)(B:Int->Option Bool)(x:Int)(dn:Bool->Option β):Option β:=
 (A x).bind λa=>if a then dn true else(B x).bind λb=>dn b
noncomputable def co4(q:Nat)(x:Int):Option Bool:=dd7 (wE q) (xZ q) x some
theorem go7(q:Nat):Lw E5 224 yU aX (co4 q):=so hW5 hX5 (kc rF (cm6 q) (kc rF (bo6 q) kn)) λc β=>dd7 (β:=β) c.1 c.2.1
def fh3:AR ByteArray:=λx=>([st x,.fn 151 []],[])
theorem gt7:VI fh3:=vd λt=>(vS (ag t 0))
abbrev j4:Type:=(Int)⊕(Unit)
def el1(x:ByteArray)(y:Nat):St:={fr:=[st x,V.fn 151 []]++jk 6++[V.ptr 0 0]++jk 11,H:=hp [some (Z1.iter x y)],nx:=1,rt:=0,me:=150}
theorem er1(x:ByteArray):VL (el1 x):=vl λs=>(chP (s.H 0))
def et7(x:ByteArray):j4->Ex×St:=(Sum.elim (λz=>(Ex.ret,{fr:=jk 4++[i64 z]++jk 15,H:=hp [],nx:=0,rt:=0,me:=150})) (λz=>(Ex.exit 0,{fr:=[st x]++jk 19,H:=hp [],nx:=0,rt:=0,me:=150})))
abbrev xW{β:Type}(A:Int->Option Bool)(x:ByteArray)(y:Nat)(nx:Nat->Option β)(dn:j4->Option β):Option β:=
 if y<x.size then(A ((Prod.fst (Utf8.decode x y):Nat):Int)).bind λa=>if(!a) then dn (.inl (y:Int))else nx (y+Prod.snd (Utf8.decode x y))else dn (.inr ())
noncomputable def ed6(A:Int->Option Bool)(q:Nat)(x:ByteArray):Nat->Option j4:=lpG (λy=>xW A x y (λy=>some (.inl y)) (λz=>some (.inr z))) q
abbrev cr4{β:Type}(A:Int->Option Bool)(B:Nat->Option j4)(x:ByteArray)(dn:Int->Option β):Option β:=
 (B (0)).bind λa=>Sum.elim (λb=>dn b) (λc=>dn (x.size:Int)) a
noncomputable def be8(q:Nat)(x:ByteArray):Option Int:=cr4 (du8 q) (ed6 (du8 q) q x) x some
theorem gl4(q:Nat):Lw E5 150 fh3 pF (be8 q):=have K:=(kc rF (gq4 q) kn);sl hW5 hX5 K (λx=>(lc 0 (er1 x) (lp hX5 (et7 x) 150 0 259 [(0,1)] 16 K ln q λc l β=>xW (β:=β) c.1 x) ln)) λc l β=>cr4 (β:=β) c.1 l.1
def ez8:AR ByteArray:=λx=>([st x,.fn 154 []],[])
theorem hb6:VI ez8:=vd λt=>(vS (ag t 0))
def ek6(x:ByteArray)(y:Nat):St:={fr:=[st x,V.fn 154 []]++jk 6++[V.ptr 0 0]++jk 11,H:=hp [some (Z1.iter x y)],nx:=1,rt:=0,me:=150}
theorem en8(x:ByteArray):VL (ek6 x):=vl λs=>(chP (s.H 0))
def ej4(x:ByteArray):j4->Ex×St:=(Sum.elim (λz=>(Ex.ret,{fr:=jk 4++[i64 z]++jk 15,H:=hp [],nx:=0,rt:=0,me:=150})) (λz=>(Ex.exit 0,{fr:=[st x]++jk 19,H:=hp [],nx:=0,rt:=0,me:=150})))
abbrev xM{β:Type}(A:Int->Option Bool)(x:ByteArray)(y:Nat)(nx:Nat->Option β)(dn:j4->Option β):Option β:=
 if y<x.size then(A ((Prod.fst (Utf8.decode x y):Nat):Int)).bind λa=>if(!a) then dn (.inl (y:Int))else nx (y+Prod.snd (Utf8.decode x y))else dn (.inr ())
noncomputable def ea6(A:Int->Option Bool)(q:Nat)(x:ByteArray):Nat->Option j4:=lpG (λy=>xM A x y (λy=>some (.inl y)) (λz=>some (.inr z))) q
abbrev cr0{β:Type}(A:Int->Option Bool)(B:Nat->Option j4)(x:ByteArray)(dn:Int->Option β):Option β:=
 (B (0)).bind λa=>Sum.elim (λb=>dn b) (λc=>dn (x.size:Int)) a
noncomputable def cc0(q:Nat)(x:ByteArray):Option Int:=cr0 (xZ q) (ea6 (xZ q) q x) x some
theorem gn7(q:Nat):Lw E5 150 ez8 pF (cc0 q):=have K:=(kc rF (bo6 q) kn);sl hW5 hX5 K (λx=>(lc 0 (en8 x) (lp hX5 (ej4 x) 150 0 259 [(0,1)] 16 K ln q λc l β=>xM (β:=β) c.1 x) ln)) λc l β=>cr0 (β:=β) c.1 l.1
def fc4:AR ByteArray:=λx=>([st x,.fn 224 []],[])
theorem gx9:VI fc4:=vd λt=>(vS (ag t 0))
def ev4(x:ByteArray)(y:Nat):St:={fr:=[st x,V.fn 224 []]++jk 6++[V.ptr 0 0]++jk 11,H:=hp [some (Z1.iter x y)],nx:=1,rt:=0,me:=150}
theorem eh3(x:ByteArray):VL (ev4 x):=vl λs=>(chP (s.H 0))
def eg8(x:ByteArray):j4->Ex×St:=(Sum.elim (λz=>(Ex.ret,{fr:=jk 4++[i64 z]++jk 15,H:=hp [],nx:=0,rt:=0,me:=150})) (λz=>(Ex.exit 0,{fr:=[st x]++jk 19,H:=hp [],nx:=0,rt:=0,me:=150})))
abbrev vL{β:Type}(A:Int->Option Bool)(x:ByteArray)(y:Nat)(nx:Nat->Option β)(dn:j4->Option β):Option β:=
 if y<x.size then(A ((Prod.fst (Utf8.decode x y):Nat):Int)).bind λa=>if(!a) then dn (.inl (y:Int))else nx (y+Prod.snd (Utf8.decode x y))else dn (.inr ())
noncomputable def ds6(A:Int->Option Bool)(q:Nat)(x:ByteArray):Nat->Option j4:=lpG (λy=>vL A x y (λy=>some (.inl y)) (λz=>some (.inr z))) q
abbrev cy8{β:Type}(A:Int->Option Bool)(B:Nat->Option j4)(x:ByteArray)(dn:Int->Option β):Option β:=
 (B (0)).bind λa=>Sum.elim (λb=>dn b) (λc=>dn (x.size:Int)) a
noncomputable def ez7(q:Nat)(x:ByteArray):Option Int:=cy8 (co4 q) (ds6 (co4 q) q x) x some
theorem gd6(q:Nat):Lw E5 150 fc4 pF (ez7 q):=have K:=(kc rF (go7 q) kn);sl hW5 hX5 K (λx=>(lc 0 (eh3 x) (lp hX5 (eg8 x) 150 0 259 [(0,1)] 16 K ln q λc l β=>vL (β:=β) c.1 x) ln)) λc l β=>cy8 (β:=β) c.1 l.1
abbrev bE:Type:=Int×Int×ByteArray×Int×Int
def cy0:bE->Z3:=λz=>.ret (.tup [.agg [i64 z.1,i64 z.2.1,st z.2.2.1,i64 z.p3],i64 z.q4]) []
abbrev eu5{β:Type}(A:ByteArray->Option Int)(x:ByteArray)(dn:bE->Option β):Option β:=
 (A x).bind λa=>if decide (a>12) then dn (0,0,⟨#[]⟩,0,2)else if(0:Int)<=0/\0<=a/\a<=(x.size:Int)then dn (1,0,ByteArray.extract x 0 (Int.toNat a),0,0)else none
noncomputable def word(q:Nat)(x:ByteArray):Option bE:=eu5 (ez7 q) x some
theorem gx0(q:Nat):Lw E5 153 j7 cy0 (word q):=so hW5 hX5 (kg (λa _=>hn9 (a.getD 1 .junk)==224) gx9 (gd6 q) kn) λc β=>eu5 (β:=β) c.1
abbrev uT:Type:=ByteArray×Int×Nat
abbrev ad2:Type:=(Unit)⊕(ByteArray×Int)
def fk7(x:ByteArray)(y:uT):St:={fr:=[V.junk,V.junk,V.ptr 0 0,V.junk,st y.1,i64 y.2.1]++jk 16++[V.ptr 1 0]++jk 15,H:=hp [some (Z1.blk [i64 0,i64 0,st ⟨#[]⟩,i64 0]),some (Z1.iter y.1 y.2.2)],nx:=2,rt:=0,me:=155}
theorem fn3(x:ByteArray):VL (fk7 x):=vl λs=>((vS (fv s 4)),vI (fv s 5),(chP (s.H 1)))
def fl0(x:ByteArray):ad2->Ex×St:=(Sum.elim (λz=>(Ex.ret,{fr:=[V.junk,V.junk,V.ptr 0 0,i64 5]++jk 34,H:=hp [some (Z1.blk [i64 0,i64 0,st ⟨#[]⟩,i64 0])],nx:=1,rt:=0,me:=155})) (λz=>(Ex.exit 0,{fr:=[V.junk,V.junk,V.ptr 0 0,V.junk,st z.1,i64 z.2]++jk 32,H:=hp [some (Z1.blk [i64 0,i64 0,st ⟨#[]⟩,i64 0])],nx:=1,rt:=0,me:=155})))
abbrev ab4{β:Type}(A:ByteArray->Option Int)(x:ByteArray)(y:uT)(nx:uT->Option β)(dn:ad2->Option β):Option β:=
 U3 y λA B C=>if C<A.size then if decide (w (w (10*B)+w (IntKind.wrap IntKind.i32 (((Prod.fst (Utf8.decode A C):Nat):Int)-48)))>2147483647) then dn (.inl ())else nx ((A,w (w (10*B)+w (IntKind.wrap IntKind.i32 (((Prod.fst (Utf8.decode A C):Nat):Int)-48))),C+Prod.snd (Utf8.decode A C)))else dn (.inr (A,B))
noncomputable def fg6(A:ByteArray->Option Int)(q:Nat)(x:ByteArray):uT->Option ad2:=lpG (λy=>ab4 A x y (λy=>some (.inl y)) (λz=>some (.inr z))) q
abbrev eg0{β:Type}(A:ByteArray->Option Int)(B:uT->Option ad2)(x:ByteArray)(dn:bE->Option β):Option β:=
 (A x).bind λa=>if(0:Int)<=0/\0<=a/\a<=(x.size:Int)then if decide ((ByteArray.size (ByteArray.extract x 0 (Int.toNat a)):Int)>1) then if(0:Int)<=0/\0< (ByteArray.size (ByteArray.extract x 0 (Int.toNat a)):Int)then if(((UInt8.toNat (List.getD (Array.toList (ByteArray.data (ByteArray.extract x 0 (Int.toNat a)))) 0 0):Nat):Int)==48) then dn (0,0,⟨#[]⟩,0,11)else(B (ByteArray.extract x 0 (Int.toNat a),0,0)).bind λb=>Sum.elim (λc=>dn (0,0,⟨#[]⟩,0,5)) (λd=>dn (2,0,d.1,d.2,0)) b else none else(B (ByteArray.extract x 0 (Int.toNat a),0,0)).bind λe=>Sum.elim (λf=>dn (0,0,⟨#[]⟩,0,5)) (λg=>dn (2,0,g.1,g.2,0)) e else none
noncomputable def dn1(q:Nat)(x:ByteArray):Option bE:=eg0 (cc0 q) (fg6 (cc0 q) q x) x some
theorem gv7(q:Nat):Lw E5 155 j7 cy0 (dn1 q):=have K:=(kg (λa _=>hn9 (a.getD 1 .junk)==154) hb6 (gn7 q) kn);sl hW5 hX5 K (λx=>(lc 0 (fn3 x) (lp hX5 (fl0 x) 155 0 4194356 [(0,52)] 12 K ln q λc l β=>ab4 (β:=β) c.1 x) ln)) λc l β=>eg0 (β:=β) c.1 l.1
abbrev en7{β:Type}(A:f5->Option Int)(x:ByteArray)(dn:bE->Option β):Option β:=
 if(0:Int)<=0/\0< (x.size:Int)then(A ((⟨#[123,125,40,41,61,59,44,58,60,62,43,45,42,47,33,46]⟩,((UInt8.toNat (List.getD (Array.toList x.data) 0 0):Nat):Int)))).bind λa=>if decide (a>=0) then if decide ((x.size:Int)>1) then if(0:Int)<=0/\(0:Int)<=2/\2<=(x.size:Int)then if(ByteArray.toList (ByteArray.extract x 0 2)==ByteArray.toList ⟨#[124,124]⟩) then if(0:Int)<=0/\(0:Int)<=2/\2<=(x.size:Int)then dn (3,0,ByteArray.extract x 0 2,0,0)else none else if(ByteArray.toList (ByteArray.extract x 0 2)==ByteArray.toList ⟨#[38,38]⟩) then if(0:Int)<=0/\(0:Int)<=2/\2<=(x.size:Int)then dn (3,0,ByteArray.extract x 0 2,0,0)else none else if(ByteArray.toList (ByteArray.extract x 0 2)==ByteArray.toList ⟨#[60,61]⟩) then if(0:Int)<=0/\(0:Int)<=2/\2<=(x.size:Int)then dn (3,0,ByteArray.extract x 0 2,0,0)else none else if(ByteArray.toList (ByteArray.extract x 0 2)==ByteArray.toList ⟨#[62,61]⟩) then if(0:Int)<=0/\(0:Int)<=2/\2<=(x.size:Int)then dn (3,0,ByteArray.extract x 0 2,0,0)else none else if(ByteArray.toList (ByteArray.extract x 0 2)==ByteArray.toList ⟨#[61,61]⟩) then if(0:Int)<=0/\(0:Int)<=2/\2<=(x.size:Int)then dn (3,0,ByteArray.extract x 0 2,0,0)else none else if(ByteArray.toList (ByteArray.extract x 0 2)==ByteArray.toList ⟨#[33,61]⟩) then if(0:Int)<=0/\(0:Int)<=2/\2<=(x.size:Int)then dn (3,0,ByteArray.extract x 0 2,0,0)else none else if(0:Int)<=0/\(0:Int)<=1/\1<=(x.size:Int)then dn (3,0,ByteArray.extract x 0 1,0,0)else none else none else if(0:Int)<=0/\(0:Int)<=1/\1<=(x.size:Int)then dn (3,0,ByteArray.extract x 0 1,0,0)else none else if decide ((x.size:Int)>1) then if(0:Int)<=0/\(0:Int)<=2/\2<=(x.size:Int)then if(ByteArray.toList (ByteArray.extract x 0 2)==ByteArray.toList ⟨#[124,124]⟩) then if(0:Int)<=0/\(0:Int)<=2/\2<=(x.size:Int)then dn (3,0,ByteArray.extract x 0 2,0,0)else none else if(ByteArray.toList (ByteArray.extract x 0 2)==ByteArray.toList ⟨#[38,38]⟩) then if(0:Int)<=0/\(0:Int)<=2/\2<=(x.size:Int)then dn (3,0,ByteArray.extract x 0 2,0,0)else none else if(ByteArray.toList (ByteArray.extract x 0 2)==ByteArray.toList ⟨#[60,61]⟩) then if(0:Int)<=0/\(0:Int)<=2/\2<=(x.size:Int)then dn (3,0,ByteArray.extract x 0 2,0,0)else none else if(ByteArray.toList (ByteArray.extract x 0 2)==ByteArray.toList ⟨#[62,61]⟩) then if(0:Int)<=0/\(0:Int)<=2/\2<=(x.size:Int)then dn (3,0,ByteArray.extract x 0 2,0,0)else none else if(ByteArray.toList (ByteArray.extract x 0 2)==ByteArray.toList ⟨#[61,61]⟩) then if(0:Int)<=0/\(0:Int)<=2/\2<=(x.size:Int)then dn (3,0,ByteArray.extract x 0 2,0,0)else none else if(ByteArray.toList (ByteArray.extract x 0 2)==ByteArray.toList ⟨#[33,61]⟩) then if(0:Int)<=0/\(0:Int)<=2/\2<=(x.size:Int)then dn (3,0,ByteArray.extract x 0 2,0,0)else none else dn (0,0,⟨#[]⟩,0,11)else none else dn (0,0,⟨#[]⟩,0,11)else none
noncomputable def dl6(q:Nat)(x:ByteArray):Option bE:=en7 (af8 q) x some
theorem gz7(q:Nat):Lw E5 156 j7 cy0 (dl6 q):=so hW5 hX5 (kc dk4 (da9 q) kn) λc β=>en7 (β:=β) c.1
abbrev qP:Type:=(Int×Int)⊕(Int×Int×Nat×FI×FI×FS×FI)
def dz8:qP->Z3:=Sum.elim (λz:Int×Int=>.ret (.tup [j0,i64 z.1,i64 z.2]) []) (λz:Int×Int×Nat×FI×FI×FS×FI=>.ret (.tup [.sl 0 4 0 z.2.2.1,i64 z.1,i64 z.2.1]) [some (.row 111 4 z.2.2.1 (λj=>[i64 (z.p3 j),i64 (z.p4 j),st (z.p5 j),i64 (z.q6 j)]))])
abbrev gL:Type:=(Nat×Int)⊕(Int×FI×FS×FI×FI×Nat×Nat)
abbrev bC:Type:=(Int×Int)⊕(Unit)⊕(Nat×FI×FI×FS×FI)
def cu7(x:ByteArray)(y:Nat×Int):St:={fr:=[st x]++jk 4++[j0,i64 y.2]++jk 9++[V.ptr 0 0]++jk 74,H:=hp [some (Z1.iter x y.1)],nx:=1,rt:=0,me:=87}
def db8(x:ByteArray)(y:Int×FI×FS×FI×FI×Nat×Nat):St:={fr:=[st x]++jk 4++[V.sl 0 4 0 y.q6,i64 y.1]++jk 9++[V.ptr 1 0]++jk 74,H:=hp [some (Z1.row 111 4 y.q6 λj=>[i64 (y.2.1 j),i64 (y.p4 j),st (y.2.2.1 j),i64 (y.p3 j)]),some (Z1.iter x y.p5)],nx:=2,rt:=0,me:=87}
def dt5(x:ByteArray):gL->St:=(Sum.elim (cu7 x) (db8 x))
theorem ec6(x:ByteArray):VL (dt5 x):=vl λs=>(match s.nx==1 with|true=>(.inl (((chP (s.H 0)),vI (fv s 6)))) |false=>(.inr (((vI (fv s 6)),dRI (s.H 0) 0,dRS (s.H 0) 2,dRI (s.H 0) 3,dRI (s.H 0) 1,(chP (s.H 1)),aV (fv s 5)))))
def do8(x:ByteArray):bC->Ex×St:=(Sum.elim (λz=>(Ex.ret,{fr:=[V.junk,V.junk,j0,i64 z.1,i64 z.2]++jk 86,H:=hp [],nx:=0,rt:=0,me:=87})) (Sum.elim (λz=>(Ex.exit 0,{fr:=[st x]++jk 4++[j0]++jk 85,H:=hp [],nx:=0,rt:=0,me:=87})) (λz=>(Ex.exit 0,{fr:=[st x]++jk 4++[V.sl 0 4 0 z.1]++jk 85,H:=hp [some (Z1.row 111 4 z.1 λj=>[i64 (z.2.1 j),i64 (z.2.2.1 j),st (z.p3 j),i64 (z.q4 j)])],nx:=1,rt:=0,me:=87}))))
abbrev wM{β:Type}(A:Int->Option Bool)(B:Int->Option Bool)(C:ByteArray->Option Int)(D:ByteArray->Option bE)(E:ByteArray->Option bE)(F:ByteArray->Option bE)(x:ByteArray)(y:Nat×Int)(nx:gL->Option β)(dn:bC->Option β):Option β:=
 if y.1<x.size then if decide ((y.1:Int)<y.2) then nx (.inl (y.1+Prod.snd (Utf8.decode x y.1),y.2))else if 0<=(y.1:Int)/\(y.1:Int)<=(x.size:Int)/\(x.size:Int)<=(x.size:Int)then if(((Prod.fst (Utf8.decode x y.1):Nat):Int)==32) then nx (.inl (y.1+Prod.snd (Utf8.decode x y.1),y.2))else if(((Prod.fst (Utf8.decode x y.1):Nat):Int)==9) then nx (.inl (y.1+Prod.snd (Utf8.decode x y.1),y.2))else if(((Prod.fst (Utf8.decode x y.1):Nat):Int)==10) then nx (.inl (y.1+Prod.snd (Utf8.decode x y.1),y.2))else if(((Prod.fst (Utf8.decode x y.1):Nat):Int)==13) then nx (.inl (y.1+Prod.snd (Utf8.decode x y.1),y.2))else if(((Prod.fst (Utf8.decode x y.1):Nat):Int)==35) then(C (ByteArray.extract x (Int.toNat (y.1:Int)) (Int.toNat (x.size:Int)))).bind λa=>nx (.inl (y.1+Prod.snd (Utf8.decode x y.1),w ((y.1:Int)+a)))else(A ((Prod.fst (Utf8.decode x y.1):Nat):Int)).bind λb=>if b then(D (ByteArray.extract x (Int.toNat (y.1:Int)) (Int.toNat (x.size:Int)))).bind λc=>if(c.2.2.2.2 !=0) then dn (.inl ((y.1:Int),c.2.2.2.2))else nx (.inr (w ((y.1:Int)+(c.2.2.1.size:Int)),λj=>c.1,λj=>c.2.2.1,λj=>c.2.2.2.1,λj=>(y.1:Int),y.1+Prod.snd (Utf8.decode x y.1),1))else(B ((Prod.fst (Utf8.decode x y.1):Nat):Int)).bind λd=>if d then(E (ByteArray.extract x (Int.toNat (y.1:Int)) (Int.toNat (x.size:Int)))).bind λe=>if(e.2.2.2.2 !=0) then dn (.inl ((y.1:Int),e.2.2.2.2))else nx (.inr (w ((y.1:Int)+(e.2.2.1.size:Int)),λj=>e.1,λj=>e.2.2.1,λj=>e.2.2.2.1,λj=>(y.1:Int),y.1+Prod.snd (Utf8.decode x y.1),1))else(F (ByteArray.extract x (Int.toNat (y.1:Int)) (Int.toNat (x.size:Int)))).bind λf=>if(f.2.2.2.2 !=0) then dn (.inl ((y.1:Int),f.2.2.2.2))else nx (.inr (w ((y.1:Int)+(f.2.2.1.size:Int)),λj=>f.1,λj=>f.2.2.1,λj=>f.2.2.2.1,λj=>(y.1:Int),y.1+Prod.snd (Utf8.decode x y.1),1))else none else dn (.inr (.inl ()))
abbrev xA{β:Type}(A:Int->Option Bool)(B:Int->Option Bool)(C:ByteArray->Option Int)(D:ByteArray->Option bE)(E:ByteArray->Option bE)(F:ByteArray->Option bE)(x:ByteArray)(y:Int×FI×FS×FI×FI×Nat×Nat)(nx:gL->Option β)(dn:bC->Option β):Option β:=
 U7 y λG H I J K L M=>if L<x.size then if decide ((L:Int)<G) then nx (.inr (G,H,I,J,K,L+Prod.snd (Utf8.decode x L),M))else if 0<=(L:Int)/\(L:Int)<=(x.size:Int)/\(x.size:Int)<=(x.size:Int)then if(((Prod.fst (Utf8.decode x L):Nat):Int)==32) then nx (.inr (G,H,I,J,K,L+Prod.snd (Utf8.decode x L),M))else if(((Prod.fst (Utf8.decode x L):Nat):Int)==9) then nx (.inr (G,H,I,J,K,L+Prod.snd (Utf8.decode x L),M))else if(((Prod.fst (Utf8.decode x L):Nat):Int)==10) then nx (.inr (G,H,I,J,K,L+Prod.snd (Utf8.decode x L),M))else if(((Prod.fst (Utf8.decode x L):Nat):Int)==13) then nx (.inr (G,H,I,J,K,L+Prod.snd (Utf8.decode x L),M))else if(((Prod.fst (Utf8.decode x L):Nat):Int)==35) then(C (ByteArray.extract x (Int.toNat (L:Int)) (Int.toNat (x.size:Int)))).bind λa=>nx (.inr (w ((L:Int)+a),H,I,J,K,L+Prod.snd (Utf8.decode x L),M))else(A ((Prod.fst (Utf8.decode x L):Nat):Int)).bind λb=>if b then(D (ByteArray.extract x (Int.toNat (L:Int)) (Int.toNat (x.size:Int)))).bind λc=>if(c.2.2.2.2 !=0) then dn (.inl ((L:Int),c.2.2.2.2))else if(M+1)*40<=b6/\M+1<=maxLen/\M<=M then nx (.inr (w ((L:Int)+(c.2.2.1.size:Int)),λj=>if j<M then H j else c.1,λj=>if j<M then I j else c.2.2.1,λj=>if j<M then J j else c.2.2.2.1,λj=>if j<M then K j else(L:Int),L+Prod.snd (Utf8.decode x L),M+1))else none else(B ((Prod.fst (Utf8.decode x L):Nat):Int)).bind λd=>if d then(E (ByteArray.extract x (Int.toNat (L:Int)) (Int.toNat (x.size:Int)))).bind λe=>if(e.2.2.2.2 !=0) then dn (.inl ((L:Int),e.2.2.2.2))else if(M+1)*40<=b6/\M+1<=maxLen/\M<=M then nx (.inr (w ((L:Int)+(e.2.2.1.size:Int)),λj=>if j<M then H j else e.1,λj=>if j<M then I j else e.2.2.1,λj=>if j<M then J j else e.2.2.2.1,λj=>if j<M then K j else(L:Int),L+Prod.snd (Utf8.decode x L),M+1))else none else(F (ByteArray.extract x (Int.toNat (L:Int)) (Int.toNat (x.size:Int)))).bind λf=>if(f.2.2.2.2 !=0) then dn (.inl ((L:Int),f.2.2.2.2))else if(M+1)*40<=b6/\M+1<=maxLen/\M<=M then nx (.inr (w ((L:Int)+(f.2.2.1.size:Int)),λj=>if j<M then H j else f.1,λj=>if j<M then I j else f.2.2.1,λj=>if j<M then J j else f.2.2.2.1,λj=>if j<M then K j else(L:Int),L+Prod.snd (Utf8.decode x L),M+1))else none else none else dn (.inr (.inr (M,H,K,I,J)))
noncomputable def tL(A:Int->Option Bool)(B:Int->Option Bool)(C:ByteArray->Option Int)(D:ByteArray->Option bE)(E:ByteArray->Option bE)(F:ByteArray->Option bE)(q:Nat)(x:ByteArray):gL->Option bC:=lpG (Sum.elim (λy=>wM A B C D E F x y (λy=>some (.inl y)) (λz=>some (.inr z))) (λy=>xA A B C D E F x y (λy=>some (.inl y)) (λz=>some (.inr z)))) q
abbrev bx5{β:Type}(A:Int->Option Bool)(B:Int->Option Bool)(C:ByteArray->Option Int)(D:ByteArray->Option bE)(E:ByteArray->Option bE)(F:ByteArray->Option bE)(G:gL->Option bC)(x:ByteArray)(dn:qP->Option β):Option β:=
 if decide ((x.size:Int)>4000) then dn (.inl (4000,2))else(G (.inl (0,0))).bind λa=>Sum.elim (λb=>dn (.inl b)) (λc=>Sum.elim (λd=>dn (.inr (0,0,1,λj=>0,λj=>(x.size:Int),λj=>⟨#[]⟩,λj=>0))) (λe=>if(e.1+1)*40<=b6/\e.1+1<=maxLen/\e.1<=e.1 then dn (.inr (0,0,e.1+1,λj=>if j<e.1 then e.2.1 j else 0,λj=>if j<e.1 then e.2.2.1 j else(x.size:Int),λj=>if j<e.1 then e.2.2.2.1 j else⟨#[]⟩,λj=>if j<e.1 then e.2.2.2.2 j else 0))else none) c) a
noncomputable def bw8(q:Nat)(x:ByteArray):Option qP:=bx5 (wE q) (xZ q) (be8 q) (word q) (dn1 q) (dl6 q) (tL (wE q) (xZ q) (be8 q) (word q) (dn1 q) (dl6 q) q x) x some
theorem fu0(q:Nat):Lw E5 87 j7 dz8 (bw8 q):=have K:=(kc rF (cm6 q) (kc rF (bo6 q) (kg (λa _=>hn9 (a.getD 1 .junk)==151) gt7 (gl4 q) (kc l5 (gx0 q) (kc l5 (gv7 q) (kc l5 (gz7 q) kn))))));sl hW5 hX5 K (λx=>(lc 0 (ec6 x) (lp2 hX5 (do8 x) 87 0 65633 [(0,33)] 28 K ln q (λc l β=>wM (β:=β) c.1 c.2.1 c.2.2.1 c.2.2.2.1 c.2.2.2.2.1 c.2.2.2.2.2.1 x) λc l β=>xA (β:=β) c.1 c.2.1 c.2.2.1 c.2.2.2.1 c.2.2.2.2.1 c.2.2.2.2.2.1 x) ln)) λc l β=>bx5 (β:=β) c.1 c.2.1 c.2.2.1 c.2.2.2.1 c.2.2.2.2.1 c.2.2.2.2.2.1 l.1
def ac9:AR Int:=λx=>([u8 x],[])
theorem ax8:VI ac9:=vd λt=>(vI (ag t 0))
abbrev cm0{β:Type}(x:Int)(dn:Bool->Option β):Option β:=
 if decide (x>=97) then if decide (x<=122) then dn true else if decide (x>=65) then dn (decide (x<=90))else dn false else if decide (x>=65) then dn (decide (x<=90))else dn false
noncomputable def xD(q:Nat)(x:Int):Option Bool:=cm0 x some
theorem et6(q:Nat):Lw E5 180 ac9 aX (xD q):=so hW5 hX5 kn λc β=>cm0 (β:=β)
abbrev dn9{β:Type}(x:Int)(dn:Bool->Option β):Option β:=
 if decide (x>=48) then dn (decide (x<=57))else dn false
noncomputable def al3(q:Nat)(x:Int):Option Bool:=dn9 x some
theorem fl4(q:Nat):Lw E5 181 ac9 aX (al3 q):=so hW5 hX5 kn λc β=>dn9 (β:=β)
abbrev bt5{β:Type}(x:Int)(dn:Bool->Option β):Option β:=
 if(x==32) then dn true else if(x==9) then dn true else if(x==10) then dn true else dn (x==13)
noncomputable def az2(q:Nat)(x:Int):Option Bool:=bt5 x some
theorem fv0(q:Nat):Lw E5 179 ac9 aX (az2 q):=so hW5 hX5 kn λc β=>bt5 (β:=β)
def bk6:AR f5:=λx=>([st x.1,i64 x.2],[])
theorem cx3:VI bk6:=vd λt=>((vS (ag t 0)),vI (ag t 1))
abbrev eW:Type:=Int×Bool
abbrev wA:Type:=(Int)⊕(Int)
def em2(x:f5)(y:eW):St:={fr:=[st x.1,i64 y.1,V.junk,V.junk,V.junk,bo y.2]++jk 20,H:=hp [],nx:=0,rt:=0,me:=107}
theorem en9(x:f5):VL (em2 x):=vl λs=>((vI (fv s 1)),vB (fv s 5))
def em6(x:f5):wA->Ex×St:=(Sum.elim (λz=>(Ex.ret,{fr:=jk 4++[i64 z]++jk 21,H:=hp [],nx:=0,rt:=0,me:=107})) (λz=>(Ex.exit 0,{fr:=[V.junk,i64 z]++jk 24,H:=hp [],nx:=0,rt:=0,me:=107})))
abbrev am3{β:Type}(A:Int->Option Bool)(x:f5)(y:eW)(nx:eW->Option β)(dn:wA->Option β):Option β:=
 if decide (y.1< (x.1.size:Int)) then if 0<=y.1/\y.1< (x.1.size:Int)then if y.2 then nx ((w (y.1+1),((UInt8.toNat (List.getD (Array.toList x.1.data) (Int.toNat y.1) 0):Nat):Int)!=10))else if(((UInt8.toNat (List.getD (Array.toList x.1.data) (Int.toNat y.1) 0):Nat):Int)==35) then nx (w (y.1+1),true)else(A (((UInt8.toNat (List.getD (Array.toList x.1.data) (Int.toNat y.1) 0):Nat):Int))).bind λa=>if(!a) then dn (.inl y.1)else nx (w (y.1+1),y.2)else none else dn (.inr y.1)
noncomputable def bo4(A:Int->Option Bool)(q:Nat)(x:f5):eW->Option wA:=lpG (λy=>am3 A x y (λy=>some (.inl y)) (λz=>some (.inr z))) q
abbrev de2{β:Type}(A:Int->Option Bool)(B:eW->Option wA)(x:f5)(dn:Int->Option β):Option β:=
 (B (x.2,false)).bind λa=>Sum.elim (λb=>dn b) (λc=>dn c) a
noncomputable def ap1(q:Nat)(x:f5):Option Int:=de2 (az2 q) (bo4 (az2 q) q x) x some
theorem gd2(q:Nat):Lw E5 107 bk6 pF (ap1 q):=have K:=(kc ax8 (fv0 q) kn);sl hW5 hX5 K (λx=>(lc 0 (en9 x) (lp hX5 (em6 x) 107 0 35 [(0,2)] 16 K ln q λc l β=>am3 (β:=β) c.1 x) ln)) λc l β=>de2 (β:=β) c.1 l.1
def ho5:ByteArray->Z3:=λz=>.ret (st z) []
abbrev eq7{β:Type}(x:f5)(dn:ByteArray->Option β):Option β:=
 if decide (w (x.2+1)< (x.1.size:Int)) then if 0<=x.2/\x.2<=w (x.2+2)/\w (x.2+2)<=(x.1.size:Int)then if(ByteArray.toList (ByteArray.extract x.1 (Int.toNat x.2) (Int.toNat (w (x.2+2))))==ByteArray.toList ⟨#[124,124]⟩) then if 0<=x.2/\x.2<=w (x.2+2)/\w (x.2+2)<=(x.1.size:Int)then dn (ByteArray.extract x.1 (Int.toNat x.2) (Int.toNat (w (x.2+2))))else none else if(ByteArray.toList (ByteArray.extract x.1 (Int.toNat x.2) (Int.toNat (w (x.2+2))))==ByteArray.toList ⟨#[38,38]⟩) then if 0<=x.2/\x.2<=w (x.2+2)/\w (x.2+2)<=(x.1.size:Int)then dn (ByteArray.extract x.1 (Int.toNat x.2) (Int.toNat (w (x.2+2))))else none else if(ByteArray.toList (ByteArray.extract x.1 (Int.toNat x.2) (Int.toNat (w (x.2+2))))==ByteArray.toList ⟨#[60,61]⟩) then if 0<=x.2/\x.2<=w (x.2+2)/\w (x.2+2)<=(x.1.size:Int)then dn (ByteArray.extract x.1 (Int.toNat x.2) (Int.toNat (w (x.2+2))))else none else if(ByteArray.toList (ByteArray.extract x.1 (Int.toNat x.2) (Int.toNat (w (x.2+2))))==ByteArray.toList ⟨#[62,61]⟩) then if 0<=x.2/\x.2<=w (x.2+2)/\w (x.2+2)<=(x.1.size:Int)then dn (ByteArray.extract x.1 (Int.toNat x.2) (Int.toNat (w (x.2+2))))else none else if(ByteArray.toList (ByteArray.extract x.1 (Int.toNat x.2) (Int.toNat (w (x.2+2))))==ByteArray.toList ⟨#[61,61]⟩) then if 0<=x.2/\x.2<=w (x.2+2)/\w (x.2+2)<=(x.1.size:Int)then dn (ByteArray.extract x.1 (Int.toNat x.2) (Int.toNat (w (x.2+2))))else none else if(ByteArray.toList (ByteArray.extract x.1 (Int.toNat x.2) (Int.toNat (w (x.2+2))))==ByteArray.toList ⟨#[33,61]⟩) then if 0<=x.2/\x.2<=w (x.2+2)/\w (x.2+2)<=(x.1.size:Int)then dn (ByteArray.extract x.1 (Int.toNat x.2) (Int.toNat (w (x.2+2))))else none else if 0<=x.2/\x.2< (x.1.size:Int)then if(((UInt8.toNat (List.getD (Array.toList x.1.data) (Int.toNat x.2) 0):Nat):Int)==123) then if 0<=x.2/\x.2<=w (x.2+1)/\w (x.2+1)<=(x.1.size:Int)then dn (ByteArray.extract x.1 (Int.toNat x.2) (Int.toNat (w (x.2+1))))else none else if(((UInt8.toNat (List.getD (Array.toList x.1.data) (Int.toNat x.2) 0):Nat):Int)==125) then if 0<=x.2/\x.2<=w (x.2+1)/\w (x.2+1)<=(x.1.size:Int)then dn (ByteArray.extract x.1 (Int.toNat x.2) (Int.toNat (w (x.2+1))))else none else if(((UInt8.toNat (List.getD (Array.toList x.1.data) (Int.toNat x.2) 0):Nat):Int)==40) then if 0<=x.2/\x.2<=w (x.2+1)/\w (x.2+1)<=(x.1.size:Int)then dn (ByteArray.extract x.1 (Int.toNat x.2) (Int.toNat (w (x.2+1))))else none else if(((UInt8.toNat (List.getD (Array.toList x.1.data) (Int.toNat x.2) 0):Nat):Int)==41) then if 0<=x.2/\x.2<=w (x.2+1)/\w (x.2+1)<=(x.1.size:Int)then dn (ByteArray.extract x.1 (Int.toNat x.2) (Int.toNat (w (x.2+1))))else none else if(((UInt8.toNat (List.getD (Array.toList x.1.data) (Int.toNat x.2) 0):Nat):Int)==61) then if 0<=x.2/\x.2<=w (x.2+1)/\w (x.2+1)<=(x.1.size:Int)then dn (ByteArray.extract x.1 (Int.toNat x.2) (Int.toNat (w (x.2+1))))else none else if(((UInt8.toNat (List.getD (Array.toList x.1.data) (Int.toNat x.2) 0):Nat):Int)==59) then if 0<=x.2/\x.2<=w (x.2+1)/\w (x.2+1)<=(x.1.size:Int)then dn (ByteArray.extract x.1 (Int.toNat x.2) (Int.toNat (w (x.2+1))))else none else if(((UInt8.toNat (List.getD (Array.toList x.1.data) (Int.toNat x.2) 0):Nat):Int)==44) then if 0<=x.2/\x.2<=w (x.2+1)/\w (x.2+1)<=(x.1.size:Int)then dn (ByteArray.extract x.1 (Int.toNat x.2) (Int.toNat (w (x.2+1))))else none else if(((UInt8.toNat (List.getD (Array.toList x.1.data) (Int.toNat x.2) 0):Nat):Int)==58) then if 0<=x.2/\x.2<=w (x.2+1)/\w (x.2+1)<=(x.1.size:Int)then dn (ByteArray.extract x.1 (Int.toNat x.2) (Int.toNat (w (x.2+1))))else none else if(((UInt8.toNat (List.getD (Array.toList x.1.data) (Int.toNat x.2) 0):Nat):Int)==60) then if 0<=x.2/\x.2<=w (x.2+1)/\w (x.2+1)<=(x.1.size:Int)then dn (ByteArray.extract x.1 (Int.toNat x.2) (Int.toNat (w (x.2+1))))else none else if(((UInt8.toNat (List.getD (Array.toList x.1.data) (Int.toNat x.2) 0):Nat):Int)==62) then if 0<=x.2/\x.2<=w (x.2+1)/\w (x.2+1)<=(x.1.size:Int)then dn (ByteArray.extract x.1 (Int.toNat x.2) (Int.toNat (w (x.2+1))))else none else if(((UInt8.toNat (List.getD (Array.toList x.1.data) (Int.toNat x.2) 0):Nat):Int)==43) then if 0<=x.2/\x.2<=w (x.2+1)/\w (x.2+1)<=(x.1.size:Int)then dn (ByteArray.extract x.1 (Int.toNat x.2) (Int.toNat (w (x.2+1))))else none else if(((UInt8.toNat (List.getD (Array.toList x.1.data) (Int.toNat x.2) 0):Nat):Int)==45) then if 0<=x.2/\x.2<=w (x.2+1)/\w (x.2+1)<=(x.1.size:Int)then dn (ByteArray.extract x.1 (Int.toNat x.2) (Int.toNat (w (x.2+1))))else none else if(((UInt8.toNat (List.getD (Array.toList x.1.data) (Int.toNat x.2) 0):Nat):Int)==42) then if 0<=x.2/\x.2<=w (x.2+1)/\w (x.2+1)<=(x.1.size:Int)then dn (ByteArray.extract x.1 (Int.toNat x.2) (Int.toNat (w (x.2+1))))else none else if(((UInt8.toNat (List.getD (Array.toList x.1.data) (Int.toNat x.2) 0):Nat):Int)==47) then if 0<=x.2/\x.2<=w (x.2+1)/\w (x.2+1)<=(x.1.size:Int)then dn (ByteArray.extract x.1 (Int.toNat x.2) (Int.toNat (w (x.2+1))))else none else if(((UInt8.toNat (List.getD (Array.toList x.1.data) (Int.toNat x.2) 0):Nat):Int)==33) then if 0<=x.2/\x.2<=w (x.2+1)/\w (x.2+1)<=(x.1.size:Int)then dn (ByteArray.extract x.1 (Int.toNat x.2) (Int.toNat (w (x.2+1))))else none else if(((UInt8.toNat (List.getD (Array.toList x.1.data) (Int.toNat x.2) 0):Nat):Int)==46) then if 0<=x.2/\x.2<=w (x.2+1)/\w (x.2+1)<=(x.1.size:Int)then dn (ByteArray.extract x.1 (Int.toNat x.2) (Int.toNat (w (x.2+1))))else none else dn (⟨#[]⟩)else none else none else if 0<=x.2/\x.2< (x.1.size:Int)then if(((UInt8.toNat (List.getD (Array.toList x.1.data) (Int.toNat x.2) 0):Nat):Int)==123) then if 0<=x.2/\x.2<=w (x.2+1)/\w (x.2+1)<=(x.1.size:Int)then dn (ByteArray.extract x.1 (Int.toNat x.2) (Int.toNat (w (x.2+1))))else none else if(((UInt8.toNat (List.getD (Array.toList x.1.data) (Int.toNat x.2) 0):Nat):Int)==125) then if 0<=x.2/\x.2<=w (x.2+1)/\w (x.2+1)<=(x.1.size:Int)then dn (ByteArray.extract x.1 (Int.toNat x.2) (Int.toNat (w (x.2+1))))else none else if(((UInt8.toNat (List.getD (Array.toList x.1.data) (Int.toNat x.2) 0):Nat):Int)==40) then if 0<=x.2/\x.2<=w (x.2+1)/\w (x.2+1)<=(x.1.size:Int)then dn (ByteArray.extract x.1 (Int.toNat x.2) (Int.toNat (w (x.2+1))))else none else if(((UInt8.toNat (List.getD (Array.toList x.1.data) (Int.toNat x.2) 0):Nat):Int)==41) then if 0<=x.2/\x.2<=w (x.2+1)/\w (x.2+1)<=(x.1.size:Int)then dn (ByteArray.extract x.1 (Int.toNat x.2) (Int.toNat (w (x.2+1))))else none else if(((UInt8.toNat (List.getD (Array.toList x.1.data) (Int.toNat x.2) 0):Nat):Int)==61) then if 0<=x.2/\x.2<=w (x.2+1)/\w (x.2+1)<=(x.1.size:Int)then dn (ByteArray.extract x.1 (Int.toNat x.2) (Int.toNat (w (x.2+1))))else none else if(((UInt8.toNat (List.getD (Array.toList x.1.data) (Int.toNat x.2) 0):Nat):Int)==59) then if 0<=x.2/\x.2<=w (x.2+1)/\w (x.2+1)<=(x.1.size:Int)then dn (ByteArray.extract x.1 (Int.toNat x.2) (Int.toNat (w (x.2+1))))else none else if(((UInt8.toNat (List.getD (Array.toList x.1.data) (Int.toNat x.2) 0):Nat):Int)==44) then if 0<=x.2/\x.2<=w (x.2+1)/\w (x.2+1)<=(x.1.size:Int)then dn (ByteArray.extract x.1 (Int.toNat x.2) (Int.toNat (w (x.2+1))))else none else if(((UInt8.toNat (List.getD (Array.toList x.1.data) (Int.toNat x.2) 0):Nat):Int)==58) then if 0<=x.2/\x.2<=w (x.2+1)/\w (x.2+1)<=(x.1.size:Int)then dn (ByteArray.extract x.1 (Int.toNat x.2) (Int.toNat (w (x.2+1))))else none else if(((UInt8.toNat (List.getD (Array.toList x.1.data) (Int.toNat x.2) 0):Nat):Int)==60) then if 0<=x.2/\x.2<=w (x.2+1)/\w (x.2+1)<=(x.1.size:Int)then dn (ByteArray.extract x.1 (Int.toNat x.2) (Int.toNat (w (x.2+1))))else none else if(((UInt8.toNat (List.getD (Array.toList x.1.data) (Int.toNat x.2) 0):Nat):Int)==62) then if 0<=x.2/\x.2<=w (x.2+1)/\w (x.2+1)<=(x.1.size:Int)then dn (ByteArray.extract x.1 (Int.toNat x.2) (Int.toNat (w (x.2+1))))else none else if(((UInt8.toNat (List.getD (Array.toList x.1.data) (Int.toNat x.2) 0):Nat):Int)==43) then if 0<=x.2/\x.2<=w (x.2+1)/\w (x.2+1)<=(x.1.size:Int)then dn (ByteArray.extract x.1 (Int.toNat x.2) (Int.toNat (w (x.2+1))))else none else if(((UInt8.toNat (List.getD (Array.toList x.1.data) (Int.toNat x.2) 0):Nat):Int)==45) then if 0<=x.2/\x.2<=w (x.2+1)/\w (x.2+1)<=(x.1.size:Int)then dn (ByteArray.extract x.1 (Int.toNat x.2) (Int.toNat (w (x.2+1))))else none else if(((UInt8.toNat (List.getD (Array.toList x.1.data) (Int.toNat x.2) 0):Nat):Int)==42) then if 0<=x.2/\x.2<=w (x.2+1)/\w (x.2+1)<=(x.1.size:Int)then dn (ByteArray.extract x.1 (Int.toNat x.2) (Int.toNat (w (x.2+1))))else none else if(((UInt8.toNat (List.getD (Array.toList x.1.data) (Int.toNat x.2) 0):Nat):Int)==47) then if 0<=x.2/\x.2<=w (x.2+1)/\w (x.2+1)<=(x.1.size:Int)then dn (ByteArray.extract x.1 (Int.toNat x.2) (Int.toNat (w (x.2+1))))else none else if(((UInt8.toNat (List.getD (Array.toList x.1.data) (Int.toNat x.2) 0):Nat):Int)==33) then if 0<=x.2/\x.2<=w (x.2+1)/\w (x.2+1)<=(x.1.size:Int)then dn (ByteArray.extract x.1 (Int.toNat x.2) (Int.toNat (w (x.2+1))))else none else if(((UInt8.toNat (List.getD (Array.toList x.1.data) (Int.toNat x.2) 0):Nat):Int)==46) then if 0<=x.2/\x.2<=w (x.2+1)/\w (x.2+1)<=(x.1.size:Int)then dn (ByteArray.extract x.1 (Int.toNat x.2) (Int.toNat (w (x.2+1))))else none else dn (⟨#[]⟩)else none
noncomputable def dt8(q:Nat)(x:f5):Option ByteArray:=eq7 x some
theorem hc3(q:Nat):Lw E5 182 bk6 ho5 (dt8 q):=so hW5 hX5 kn λc β=>eq7 (β:=β)
def fs7(x:f5)(y:Int):St:={fr:=[st x.1,i64 x.2,V.junk,V.junk,V.ptr 0 0,V.junk,i64 y]++jk 91,H:=hp [some (Z1.blk [i64 0,i64 0,st ⟨#[]⟩,i64 0])],nx:=1,rt:=0,me:=108}
theorem fm9(x:f5):VL (fs7 x):=vl λs=>(vI (fv s 6))
def fs4(x:f5):Int->Ex×St:=(λz=>(Ex.exit 0,{fr:=[st x.1,i64 x.2,V.junk,V.junk,V.ptr 0 0,V.junk,i64 z]++jk 91,H:=hp [some (Z1.blk [i64 0,i64 0,st ⟨#[]⟩,i64 0])],nx:=1,rt:=0,me:=108}))
abbrev ax3{β:Type}(A:Int->Option Bool)(B:Int->Option Bool)(C:f5->Option ByteArray)(x:f5)(y:Int)(nx:Int->Option β)(dn:Int->Option β):Option β:=
 if decide (y< (x.1.size:Int)) then if 0<=y/\y< (x.1.size:Int)then(A (((UInt8.toNat (List.getD (Array.toList x.1.data) (Int.toNat y) 0):Nat):Int))).bind λa=>if a then nx (w (y+1))else if 0<=y/\y< (x.1.size:Int)then(B (((UInt8.toNat (List.getD (Array.toList x.1.data) (Int.toNat y) 0):Nat):Int))).bind λb=>if b then nx (w (y+1))else dn y else none else none else dn y
noncomputable def cx2(A:Int->Option Bool)(B:Int->Option Bool)(C:f5->Option ByteArray)(q:Nat)(x:f5):Int->Option Int:=lpG (λy=>ax3 A B C x y (λy=>some (.inl y)) (λz=>some (.inr z))) q
def fr0(x:f5)(y:o8):St:={fr:=[st x.1,i64 x.2,V.junk,V.junk,V.ptr 0 0,V.junk,i64 y.1,i64 y.2]++jk 90,H:=hp [some (Z1.blk [i64 0,i64 0,st ⟨#[]⟩,i64 0])],nx:=1,rt:=0,me:=108}
theorem fy3(x:f5):VL (fr0 x):=vl λs=>((vI (fv s 6)),vI (fv s 7))
def fu9(x:f5):o8->Ex×St:=(λz=>(Ex.exit 2,{fr:=[st x.1,i64 x.2,V.junk,V.junk,V.ptr 0 0,V.junk,i64 z.1,i64 z.2]++jk 90,H:=hp [some (Z1.blk [i64 0,i64 0,st ⟨#[]⟩,i64 0])],nx:=1,rt:=0,me:=108}))
abbrev ba5{β:Type}(A:Int->Option Bool)(B:Int->Option Bool)(C:f5->Option ByteArray)(x:f5)(y:o8)(nx:o8->Option β)(dn:o8->Option β):Option β:=
 if decide (y.1< (x.1.size:Int)) then if 0<=y.1/\y.1< (x.1.size:Int)then(B (((UInt8.toNat (List.getD (Array.toList x.1.data) (Int.toNat y.1) 0):Nat):Int))).bind λa=>if a then if 0<=y.1/\y.1< (x.1.size:Int)then nx ((w (y.1+1),if 2147483648<w (w (10*y.2)+w (IntKind.wrap IntKind.u8 (((UInt8.toNat (List.getD (Array.toList x.1.data) (Int.toNat y.1) 0):Nat):Int)-48)))then 2147483648 else w (w (10*y.2)+w (IntKind.wrap IntKind.u8 (((UInt8.toNat (List.getD (Array.toList x.1.data) (Int.toNat y.1) 0):Nat):Int)-48)))))else none else dn y else none else dn y
noncomputable def dh9(A:Int->Option Bool)(B:Int->Option Bool)(C:f5->Option ByteArray)(q:Nat)(x:f5):o8->Option o8:=lpG (λy=>ba5 A B C x y (λy=>some (.inl y)) (λz=>some (.inr z))) q
abbrev es8{β:Type}(A:Int->Option Bool)(B:Int->Option Bool)(C:f5->Option ByteArray)(D:Int->Option Int)(E:o8->Option o8)(x:f5)(dn:bE->Option β):Option β:=
 if 0<=x.2/\x.2< (x.1.size:Int)then(A (((UInt8.toNat (List.getD (Array.toList x.1.data) (Int.toNat x.2) 0):Nat):Int))).bind λa=>if a then(D x.2).bind λb=>if decide (w (b-x.2)>12) then dn (0,0,⟨#[]⟩,0,2)else if 0<=x.2/\x.2<=b/\b<=(x.1.size:Int)then dn (1,x.2,ByteArray.extract x.1 (Int.toNat x.2) (Int.toNat b),0,0)else none else if 0<=x.2/\x.2< (x.1.size:Int)then(B (((UInt8.toNat (List.getD (Array.toList x.1.data) (Int.toNat x.2) 0):Nat):Int))).bind λc=>if c then(E (x.2,0)).bind λd=>if decide (w (d.1-x.2)>1) then if 0<=x.2/\x.2< (x.1.size:Int)then if(((UInt8.toNat (List.getD (Array.toList x.1.data) (Int.toNat x.2) 0):Nat):Int)==48) then dn (0,0,⟨#[]⟩,0,11)else if decide (d.2>2147483647) then dn (0,0,⟨#[]⟩,0,5)else if 0<=x.2/\x.2<=d.1/\d.1<=(x.1.size:Int)then dn (2,x.2,ByteArray.extract x.1 (Int.toNat x.2) (Int.toNat d.1),d.2,0)else none else none else if decide (d.2>2147483647) then dn (0,0,⟨#[]⟩,0,5)else if 0<=x.2/\x.2<=d.1/\d.1<=(x.1.size:Int)then dn (2,x.2,ByteArray.extract x.1 (Int.toNat x.2) (Int.toNat d.1),d.2,0)else none else(C x).bind λe=>if(e.toList==ByteArray.toList ⟨#[]⟩) then dn (0,0,⟨#[]⟩,0,11)else dn (3,x.2,e,0,0)else none else none
noncomputable def fx7(q:Nat)(x:f5):Option bE:=es8 (xD q) (al3 q) (dt8 q) (cx2 (xD q) (al3 q) (dt8 q) q x) (dh9 (xD q) (al3 q) (dt8 q) q x) x some
theorem gy7(q:Nat):Lw E5 108 bk6 cy0 (fx7 q):=have K:=(kc ax8 (et6 q) (kc ax8 (fl4 q) (kc cx3 (hc3 q) kn)));sl hW5 hX5 K (λx=>(lc 0 (fm9 x) (lp hX5 (fs4 x) 108 0 83 [(0,83)] 48 K ln q λc l β=>ax3 (β:=β) c.1 c.2.1 c.2.2.1 x) (lc 2 (fy3 x) (lp hX5 (fu9 x) 108 2 211 [(2,211)] 48 K ln q λc l β=>ba5 (β:=β) c.1 c.2.1 c.2.2.1 x) ln))) λc l β=>es8 (β:=β) c.1 c.2.1 c.2.2.1 l.1 l.2.1
abbrev eM:Type:=(Int)⊕(Int×FI×FI×FS×FI×Nat)
def cg0(x:ByteArray)(y:Int):St:={fr:=[st x]++jk 4++[j0,i64 y]++jk 38,H:=hp [],nx:=0,rt:=0,me:=47}
def ce8(x:ByteArray)(y:Int×FI×FI×FS×FI×Nat):St:={fr:=[st x]++jk 4++[V.sl 0 4 0 y.q5,i64 y.1]++jk 38,H:=hp [some (Z1.row 111 4 y.q5 λj=>[i64 (y.2.1 j),i64 (y.2.2.1 j),st (y.p3 j),i64 (y.p4 j)])],nx:=1,rt:=0,me:=47}
def df9(x:ByteArray):eM->St:=(Sum.elim (cg0 x) (ce8 x))
theorem dh6(x:ByteArray):VL (df9 x):=vl λs=>(match s.nx==0 with|true=>(.inl (vI (fv s 6))) |false=>(.inr (((vI (fv s 6)),dRI (s.H 0) 0,dRI (s.H 0) 1,dRS (s.H 0) 2,dRI (s.H 0) 3,aV (fv s 5)))))
def dd5(x:ByteArray):bC->Ex×St:=(Sum.elim (λz=>(Ex.ret,{fr:=[V.junk,V.junk,j0,i64 z.1,i64 z.2]++jk 40,H:=hp [],nx:=0,rt:=0,me:=47})) (Sum.elim (λz=>(Ex.exit 0,{fr:=[st x]++jk 4++[j0]++jk 39,H:=hp [],nx:=0,rt:=0,me:=47})) (λz=>(Ex.exit 0,{fr:=[st x]++jk 4++[V.sl 0 4 0 z.1]++jk 39,H:=hp [some (Z1.row 111 4 z.1 λj=>[i64 (z.2.1 j),i64 (z.2.2.1 j),st (z.p3 j),i64 (z.q4 j)])],nx:=1,rt:=0,me:=47}))))
abbrev sZ{β:Type}(A:f5->Option Int)(B:f5->Option bE)(x:ByteArray)(y:Int)(nx:eM->Option β)(dn:bC->Option β):Option β:=
 if decide (y< (x.size:Int)) then(B (x,y)).bind λa=>if(a.2.2.2.2 !=0) then dn (.inl (y,a.2.2.2.2))else(A (x,w (y+(a.2.2.1.size:Int)))).bind λb=>nx (.inr (b,λj=>a.1,λj=>a.2.1,λj=>a.2.2.1,λj=>a.2.2.2.1,1))else dn (.inr (.inl ()))
abbrev sY{β:Type}(A:f5->Option Int)(B:f5->Option bE)(x:ByteArray)(y:Int×FI×FI×FS×FI×Nat)(nx:eM->Option β)(dn:bC->Option β):Option β:=
 U6 y λC D E F G H=>if decide (C< (x.size:Int)) then(B (x,C)).bind λa=>if(a.2.2.2.2 !=0) then dn (.inl (C,a.2.2.2.2))else if(H+1)*40<=b6/\H+1<=maxLen/\H<=H then(A (x,w (C+(a.2.2.1.size:Int)))).bind λb=>nx (.inr (b,λj=>if j<H then D j else a.1,λj=>if j<H then E j else a.2.1,λj=>if j<H then F j else a.2.2.1,λj=>if j<H then G j else a.2.2.2.1,H+1))else none else dn (.inr (.inr (H,D,E,F,G)))
noncomputable def aj7(A:f5->Option Int)(B:f5->Option bE)(q:Nat)(x:ByteArray):eM->Option bC:=lpG (Sum.elim (λy=>sZ A B x y (λy=>some (.inl y)) (λz=>some (.inr z))) (λy=>sY A B x y (λy=>some (.inl y)) (λz=>some (.inr z)))) q
abbrev bd7{β:Type}(A:f5->Option Int)(B:f5->Option bE)(C:eM->Option bC)(x:ByteArray)(dn:qP->Option β):Option β:=
 if decide ((x.size:Int)>4000) then dn (.inl (4000,2))else(A (x,0)).bind λa=>(C (.inl a)).bind λb=>Sum.elim (λc=>dn (.inl c)) (λd=>Sum.elim (λe=>dn (.inr (0,0,1,λj=>0,λj=>(x.size:Int),λj=>⟨#[]⟩,λj=>0))) (λf=>if(f.1+1)*40<=b6/\f.1+1<=maxLen/\f.1<=f.1 then dn (.inr (0,0,f.1+1,λj=>if j<f.1 then f.2.1 j else 0,λj=>if j<f.1 then f.2.2.1 j else(x.size:Int),λj=>if j<f.1 then f.2.2.2.1 j else⟨#[]⟩,λj=>if j<f.1 then f.2.2.2.2 j else 0))else none) d) b
noncomputable def dc0(q:Nat)(x:ByteArray):Option qP:=bd7 (ap1 q) (fx7 q) (aj7 (ap1 q) (fx7 q) q x) x some
theorem eh2(q:Nat):Lw E5 47 j7 dz8 (dc0 q):=have K:=(kc cx3 (gd2 q) (kc cx3 (gy7 q) kn));sl hW5 hX5 K (λx=>(lc 0 (dh6 x) (lp2 hX5 (dd5 x) 47 0 97 [(0,33)] 28 K ln q (λc l β=>sZ (β:=β) c.1 c.2.1 x) λc l β=>sY (β:=β) c.1 c.2.1 x) ln)) λc l β=>bd7 (β:=β) c.1 c.2.1 l.1
def bc2:d8->Z3:=λz=>.ret (.tup [.ro 4 z.2.2.1 (λj=>[i64 (z.p3 j),i64 (z.p4 j),st (z.p5 j),i64 (z.q6 j)]),i64 z.1,i64 z.2.1]) []
def cp6:qP->d8:=Sum.elim (λz=>(z.1,z.2,0,λ_=>0,λ_=>0,λ_=>ByteArray.empty,λ_=>0)) id
noncomputable def dQ(q:Nat)(x:ByteArray):Option d8:=(bw8 q x).map cp6
theorem bs2(q:Nat):Lw E5 87 j7 bc2 (dQ q):=by
 intro x z h;obtain⟨y,hy,rfl⟩:=Option.map_eq_some_iff.1 h;have hs:=fu0 q x y hy;rcases y with y|y
 ·exact AG hs (Le.tup (AE AH (AE (AD _) (AE (AD _) AF))))
 ·have h2:=SC.giveM (L2:=[]) 0 hs (by rfl) (by simp[V.bw,V.bw2,V.bw1,hp,V.pure,n4]);simp only[V.bw,V.bw2,V.bw1,hp,List.map_cons,List.map_nil,List.getD_eq_getElem?_getD,List.getElem?_cons_succ,List.getElem?_cons_zero,Option.getD_some,Nat.zero_add,Nat.le_refl,and_self,if_true]at h2;exact h2
abbrev kX:Type:=Int×Int×ByteArray×Int×Int×Int×Nat×FI×FI×FS×FI
def af5:kX->Z3:=λz=>.ret (.agg [i64 z.1,i64 z.2.1,st z.2.2.1,i64 z.p3]) [some (.blk [.ro 4 z.p6 (λj=>[i64 (z.p7 j),i64 (z.p8 j),st (z.p9 j),i64 (z.q10 j)]),i64 z.p4,i64 z.p5,j0,j0])]
abbrev cs0{β:Type}(x:d8)(dn:kX->Option β):Option β:=
 U7 x λA B C D E F G=>if 0<=A/\A< (C:Int)then dn (D (Int.toNat A),E (Int.toNat A),F (Int.toNat A),G (Int.toNat A),x)else none
noncomputable def ai5(q:Nat)(x:d8):Option kX:=cs0 x some
theorem dj7(q:Nat):Lw E5 89 j1 af5 (ai5 q):=so hW5 hX5 kn λc β=>cs0 (β:=β)
abbrev tM:Type:=(Int×Int)⊕(Nat×FS×FN×FM×FI×FI×FS×FN×FM)
def du0:tM->Z3:=Sum.elim (λz=>Z3.ret (V.tup [j0,i64 z.1,i64 z.2]) []:(Int×Int)->Z3) (λz=>Z3.ret (V.tup [V.sl 0 6 0 z.1,i64 0,i64 0]) [some (Z1.row 40 6 z.1 λj=>[st (z.2.1 j),V.ro 2 (z.2.2.1 j) (z.p3 j),i64 (z.p4 j),i64 (z.p5 j),st (z.p6 j),V.ro 4 (z.p7 j) (z.q8 j)])]:(Nat×FS×FN×FM×FI×FI×FS×FN×FM)->Z3)
abbrev gM:Type:=(Int×Int×Nat×FI×FI×FS×FI)⊕(FS×FN×FM×FI×FI×FS×FN×FM×Int×Int×Nat×FI×FI×FS×FI×Int×Int×Nat×Nat×FS×FS×Nat)
abbrev jP:Type:=(Int×Int×Int×Int)⊕(Int×Int)⊕(Int×Int×Nat×FS×FN×FM×FI×FI×FS×FN×FM×Int×Int)⊕(Nat×FS×FN×FM×FI×FI×FS×FN×FM×Int×Int)
def dd2(x:ByteArray)(y:Int×Int×Nat×FI×FI×FS×FI):St:={fr:=[V.junk,V.junk,V.ptr 0 0,V.ptr 1 0,V.ptr 2 0,V.junk,V.ptr 3 0]++jk 24,H:=hp [some (Z1.blk [j0]),some (Z1.blk [i64 y.1]),some (Z1.blk [i64 y.2.1]),some (Z1.blk [V.ro 4 y.2.2.1 λj=>[i64 (y.p3 j),i64 (y.p4 j),st (y.p5 j),i64 (y.q6 j)],i64 0,i64 0,j0,j0])],nx:=4,rt:=0,me:=38}
def db3(x:ByteArray)(y:FS×FN×FM×FI×FI×FS×FN×FM×Int×Int×Nat×FI×FI×FS×FI×Int×Int×Nat×Nat×FS×FS×Nat):St:={fr:=[V.junk,V.junk,V.ptr 0 0,V.ptr 2 0,V.ptr 3 0,V.junk,V.ptr 4 0]++jk 24,H:=hp [some (Z1.blk [V.sl 1 6 0 y.q21]),some (Z1.row 40 6 y.q21 λj=>[st (y.1 j),V.ro 2 (y.2.1 j) (y.2.2.1 j),i64 (y.p3 j),i64 (y.p4 j),st (y.p5 j),V.ro 4 (y.p6 j) (y.p7 j)]),some (Z1.blk [i64 y.p8]),some (Z1.blk [i64 y.p9]),some (Z1.blk [V.ro 4 y.p10 λj=>[i64 (y.p11 j),i64 (y.p12 j),st (y.p13 j),i64 (y.p14 j)],i64 y.p15,i64 y.p16,V.sl 5 1 0 y.p17,V.sl 6 1 0 y.p18]),some (Z1.row 9 1 y.p17 λj=>[st (y.p19 j)]),some (Z1.row 9 1 y.p18 λj=>[st (y.p20 j)])],nx:=7,rt:=0,me:=38}
def dq7(x:ByteArray):gM->St:=(Sum.elim (dd2 x) (db3 x))
theorem dp7(x:ByteArray):VL (dq7 x):=vl λs=>(match s.nx==4 with|true=>(.inl (((vI (cb s 1 0)),vI (cb s 2 0),r7 (cb s 3 0),dTI (cb s 3 0) 0,dTI (cb s 3 0) 1,dTS (cb s 3 0) 2,dTI (cb s 3 0) 3))) |false=>(.inr (((dRS (s.H 1) 0),dRN (s.H 1) 1,dRF (s.H 1) 1,dRI (s.H 1) 2,dRI (s.H 1) 3,dRS (s.H 1) 4,dRN (s.H 1) 5,dRF (s.H 1) 5,vI (cb s 2 0),vI (cb s 3 0),r7 (cb s 4 0),dTI (cb s 4 0) 0,dTI (cb s 4 0) 1,dTS (cb s 4 0) 2,dTI (cb s 4 0) 3,vI (cb s 4 1),vI (cb s 4 2),aV (cb s 4 3),aV (cb s 4 4),dRS (s.H 5) 0,dRS (s.H 6) 0,aV (cb s 0 0)))))
def ea7(x:ByteArray):jP->Ex×St:=(Sum.elim (λz=>(Ex.panic (V.ifc 161 (V.agg [i64 z.1,i64 z.2.1])),{fr:=[V.junk,V.junk,V.ptr 0 0,V.ptr 1 0,V.ptr 2 0]++jk 26,H:=hp [some (Z1.blk [j0]),some (Z1.blk [i64 z.2.2.1]),some (Z1.blk [i64 z.q3])],nx:=3,rt:=0,me:=38})) (Sum.elim (λz=>(Ex.exit 0,{fr:=[V.junk,V.junk,V.ptr 0 0,V.ptr 1 0,V.ptr 2 0]++jk 26,H:=hp [some (Z1.blk [j0]),some (Z1.blk [i64 z.1]),some (Z1.blk [i64 z.2])],nx:=3,rt:=0,me:=38})) (Sum.elim (λz=>(Ex.panic (V.ifc 161 (V.agg [i64 z.1,i64 z.2.1])),{fr:=[V.junk,V.junk,V.ptr 0 0,V.ptr 2 0,V.ptr 3 0]++jk 26,H:=hp [some (Z1.blk [V.sl 1 6 0 z.2.2.1]),some (Z1.row 40 6 z.2.2.1 λj=>[st (z.p3 j),V.ro 2 (z.p4 j) (z.p5 j),i64 (z.p6 j),i64 (z.p7 j),st (z.p8 j),V.ro 4 (z.p9 j) (z.p10 j)]),some (Z1.blk [i64 z.p11]),some (Z1.blk [i64 z.q12])],nx:=4,rt:=0,me:=38})) (λz=>(Ex.exit 0,{fr:=[V.junk,V.junk,V.ptr 0 0,V.ptr 2 0,V.ptr 3 0]++jk 26,H:=hp [some (Z1.blk [V.sl 1 6 0 z.1]),some (Z1.row 40 6 z.1 λj=>[st (z.2.1 j),V.ro 2 (z.2.2.1 j) (z.p3 j),i64 (z.p4 j),i64 (z.p5 j),st (z.p6 j),V.ro 4 (z.p7 j) (z.p8 j)]),some (Z1.blk [i64 z.p9]),some (Z1.blk [i64 z.q10])],nx:=4,rt:=0,me:=38})))))
abbrev wU{β:Type}(A:ByteArray->Option d8)(B:d8->Option kX)(C:SP->Option bJ)(D:d8->Option m8)(E:SP->Option m8)(x:ByteArray)(y:Int×Int×Nat×FI×FI×FS×FI)(nx:gM->Option β)(dn:jP->Option β):Option β:=
 U3 y λA C E=>(B (0,0,E)).bind λa=>if(a.1 !=0) then(D a.2.2.2.2).bind λb=>Sum.elim (λc=>nx (.inr (λj=>c.1,λj=>c.2.1,λ(j j_1:Nat)=>[st (c.2.2.1 j_1),st (c.2.2.2.1 j_1)],λj=>c.2.2.2.2.1,λj=>c.2.2.2.2.2.1,λj=>c.2.2.2.2.2.2.1,λj=>c.2.2.2.2.2.2.2.1,λj=>c.2.2.2.2.2.2.2.2.1,A,C,c.2.2.2.2.2.2.2.2.2.2.2.1,c.2.2.2.2.2.2.2.2.2.2.2.2.1,c.2.2.2.2.2.2.2.2.2.2.2.2.2.1,c.2.2.2.2.2.2.2.2.2.2.2.2.2.2.1,c.2.2.2.2.2.2.2.2.2.2.2.2.2.2.2.1,c.2.2.2.2.2.2.2.2.2.1,c.2.2.2.2.2.2.2.2.2.2.1,c.2.2.2.2.2.2.2.2.2.2.2.2.2.2.2.2.1,c.2.2.2.2.2.2.2.2.2.2.2.2.2.2.2.2.2.2.1,c.2.2.2.2.2.2.2.2.2.2.2.2.2.2.2.2.2.1,c.2.2.2.2.2.2.2.2.2.2.2.2.2.2.2.2.2.2.2,1))) (λd=>dn (.inl (d.1,d.2,A,C))) b else dn (.inr (.inl (A,C)))
abbrev vR{β:Type}(A:ByteArray->Option d8)(B:d8->Option kX)(C:SP->Option bJ)(D:d8->Option m8)(E:SP->Option m8)(x:ByteArray)(y:FS×FN×FM×FI×FI×FS×FN×FM×Int×Int×Nat×FI×FI×FS×FI×Int×Int×Nat×Nat×FS×FS×Nat)(nx:gM->Option β)(dn:jP->Option β):Option β:=
 U22 y λA B D F G H I J K L M N O P Q R S T U V W X=>(C (R,S,M,N,O,P,Q,T,V,U,W)).bind λa=>if(a.1 !=0) then(E a.2.2.2.2).bind λb=>Sum.elim (λc=>if(X+1)*96<=b6/\X+1<=maxLen/\X<=X then nx (.inr (λj=>if j<X then A j else c.1,λj=>if j<X then B j else c.2.1,λ(j j_1:Nat)=>if j<X then D j j_1 else[st (c.2.2.1 j_1),st (c.2.2.2.1 j_1)],λj=>if j<X then F j else c.2.2.2.2.1,λj=>if j<X then G j else c.2.2.2.2.2.1,λj=>if j<X then H j else c.2.2.2.2.2.2.1,λj=>if j<X then I j else c.2.2.2.2.2.2.2.1,λ(j j_1:Nat)=>if j<X then J j j_1 else c.2.2.2.2.2.2.2.2.1 j_1,K,L,c.2.2.2.2.2.2.2.2.2.2.2.1,c.2.2.2.2.2.2.2.2.2.2.2.2.1,c.2.2.2.2.2.2.2.2.2.2.2.2.2.1,c.2.2.2.2.2.2.2.2.2.2.2.2.2.2.1,c.2.2.2.2.2.2.2.2.2.2.2.2.2.2.2.1,c.2.2.2.2.2.2.2.2.2.1,c.2.2.2.2.2.2.2.2.2.2.1,c.2.2.2.2.2.2.2.2.2.2.2.2.2.2.2.2.1,c.2.2.2.2.2.2.2.2.2.2.2.2.2.2.2.2.2.2.1,c.2.2.2.2.2.2.2.2.2.2.2.2.2.2.2.2.2.1,c.2.2.2.2.2.2.2.2.2.2.2.2.2.2.2.2.2.2.2,X+1))else none) (λd=>dn (.inr (.inr (.inl (d.1,d.2,X,A,B,D,F,G,H,I,J,K,L))))) b else dn (.inr (.inr (.inr (X,A,B,D,F,G,H,I,J,K,L))))
noncomputable def bc7(A:ByteArray->Option d8)(B:d8->Option kX)(C:SP->Option bJ)(D:d8->Option m8)(E:SP->Option m8)(q:Nat)(x:ByteArray):gM->Option jP:=lpG (Sum.elim (λy=>wU A B C D E x y (λy=>some (.inl y)) (λz=>some (.inr z))) (λy=>vR A B C D E x y (λy=>some (.inl y)) (λz=>some (.inr z)))) q
abbrev yE{β:Type}(A:ByteArray->Option d8)(B:d8->Option kX)(C:SP->Option bJ)(D:d8->Option m8)(E:SP->Option m8)(F:gM->Option jP)(x:ByteArray)(dn:tM->Option β):Option β:=
 (A x).bind λa=>if(a.2.1 !=0) then dn (.inl (a.1,a.2.1))else(F (.inl a)).bind λb=>Sum.elim (λc=>none) (λd=>Sum.elim (λe=>dn (.inl (0,0))) (λf=>Sum.elim (λg=>none) (λh=>dn (.inr (h.1,h.2.1,h.2.2.1,h.2.2.2.1,h.2.2.2.2.1,h.2.2.2.2.2.1,h.2.2.2.2.2.2.1,h.2.2.2.2.2.2.2.1,h.2.2.2.2.2.2.2.2.1))) f) d) b
noncomputable def al5(q:Nat)(x:ByteArray):Option tM:=yE (dQ q) (ai5 q) (next q) (dE q) (bI q) (bc7 (dQ q) (ai5 q) (next q) (dE q) (bI q) q x) x some
theorem ba3(q:Nat):Lw E5 38 j7 du0 (al5 q):=have K:=(kc l5 (bs2 q) (kg (λ_ L=>L.length==1) cP (dj7 q) (kc s9 (lV q) (kg (λ_ L=>L.length==1) cP (ai2 q) (kg (λ_ L=>L.length==3) s9 (xV q) kn)))));sl hW5 hX5 K (λx=>(lc 0 (dp7 x) (lp2 hX5 (ea7 x) 38 0 92 [(0,28),(1000,28)] 28 K ln q (λc l β=>wU (β:=β) c.1 c.2.1 c.2.2.1 c.2.2.2.1 c.2.2.2.2.1 x) λc l β=>vR (β:=β) c.1 c.2.1 c.2.2.1 c.2.2.2.1 c.2.2.2.2.1 x) ln)) λc l β=>yE (β:=β) c.1 c.2.1 c.2.2.1 c.2.2.2.1 c.2.2.2.2.1 l.1
def opK(f:Nat->List V)(j:Nat):Int:=vI ((f j).getD 0 .junk)
def opN(f:Nat->List V)(j:Nat):Int:=vI ((f j).getD 1 .junk)
def opS(f:Nat->List V)(j:Nat):ByteArray:=vS ((f j).getD 2 .junk)
def opM(f:Nat->List V)(j:Nat):Nat:=r7 ((f j).getD 3 .junk)
def opF(f:Nat->List V)(j:Nat):Nat->List V:=aW ((f j).getD 3 .junk)
def hJ(f:Nat->List V):Prop:=∀j,f j=[i64 (opK f j),i64 (opN f j),st (opS f j),.ro 4 (opM f j) (opF f j)]
theorem cY{f:Nat->List V}(h:hJ f):(λj=>[i64 (opK f j),i64 (opN f j),st (opS f j),.ro 4 (opM f j) (opF f j)])=f:=funext λj=>(h j).symm
theorem dn0{f:FuncId}{args:List V}{L0:List (Option Z1)}{k ty n:Nat}{g:Nat->List V}(h:SC E5 f args L0 (.ret (.sl 0 k 0 n) [some (.row ty k n g)])):SC E5 f args L0 (.ret (.ro k n g) []):=by
 have:=SC.give h (by simp[V.bw,V.bw1,V.bw2,hp,V.pure]);simpa[V.bw,V.bw1,V.bw2,hp]using this
theorem fi4{f:FuncId}{args:List V}{L0:List (Option Z1)}{k:Nat}{g:Nat->List V}(h:SC E5 f args L0 (.ret j0 [])):SC E5 f args L0 (.ret (.ro k 0 g) []):=AG h AH
def gd5:l7->Z3:=(λz:Int×Int×Int×Int×Int×Int×Bool=>.ret (.tup [i64 z.1,.agg [i64 z.2.1,i64 z.2.2.1,i64 z.p3,i64 z.p4,i64 z.p5],bo z.q6]) [])
abbrev cx7{β:Type}(x:ByteArray)(dn:l7->Option β):Option β:=
 if(ByteArray.toList x==ByteArray.toList ⟨#[98,97,116,116,101,114,121]⟩) then dn ((0,1,0,0,0,0,true))else if(ByteArray.toList x==ByteArray.toList ⟨#[104,101,97,116]⟩) then dn ((1,0,0,0,0,1,true))else if(ByteArray.toList x==ByteArray.toList ⟨#[97,110,103,108,101]⟩) then dn ((2,0,0,0,1,0,true))else if(ByteArray.toList x==ByteArray.toList ⟨#[110,111,119]⟩) then dn ((3,0,0,1,0,0,true))else if(ByteArray.toList x==ByteArray.toList ⟨#[109,111,100,101]⟩) then dn ((4,0,0,0,0,0,true))else if(ByteArray.toList x==ByteArray.toList ⟨#[102,114,101,101]⟩) then dn ((5,0,1,0,0,0,true))else dn ((0,0,0,0,0,0,false))
noncomputable def cf4(q:Nat)(x:ByteArray):Option l7:=cx7 x some
theorem fb9(q:Nat):Lw E5 310 j7 gd5 (cf4 q):=so hW5 hX5 kn λc β=>cx7 (β:=β)
abbrev g8:Type:=Int×Int×ByteArray×Nat×(Nat->List V)
def eP:AR g8:=λx=>([.agg [i64 x.1,i64 x.2.1,st x.2.2.1,.ro 4 x.p3 x.q4]],[])
theorem cJ:VI eP:=vd λt=>((vI (ca t 0 0)),(vI (ca t 0 1)),(vS (ca t 0 2)),(r7 (ca t 0 3)),(aW (ca t 0 3)))
def eL:Int->Z3:=(λz:Int=>.ret (i64 z) [])
abbrev de9{β:Type}(A:ByteArray->Option l7)(x:g8)(dn:Int->Option β):Option β:=
 (A (x.2.2.1)).bind λa=>if a.2.2.2.2.2.2 then dn (w (x.2.1*a.2.2.2.2.2.1))else dn (x.2.1)
noncomputable def value(q:Nat)(x:g8):Option Int:=de9 (dG q) x some
theorem bs0(q:Nat):Lw E5 314 eP eL (value q):=so hW5 hX5 (kc l5 (tW q) kn) λc β=>de9 (β:=β) c.1
abbrev bR:Type:=Int×Int×Int×Nat×(Nat->Int)×(Nat->Int)×Nat×(ByteArray->Bool)×(ByteArray->Int)×Int×Int×Int
abbrev x5:Type:=Int×Nat×(Nat->Int)×(Nat->Int)×Nat×(ByteArray->Bool)×(ByteArray->Int)×Int×Int×Int
def gr3:AR bR:=λx=>([.ptr 0 0,i64 x.1,i64 x.2.1,i64 x.2.2.1],[some (.blk [.sl 1 2 0 x.p3,.mp 2,i64 x.p9,i64 x.p10,i64 x.q11]),some (.row 49 2 x.p3 (λj=>[i64 (x.p4 j),i64 (x.p5 j)])),some (.smap x.p6 x.p7 (λj=>i64 (x.p8 j)))])
theorem fG:VI gr3:=vd λt=>((vI (ag t 1)),(vI (ag t 2)),(vI (ag t 3)),(aV (cc t 0 0)),(dRI (co t 1) 0),(dRI (co t 1) 1),(smN (co t 2)),(smH (co t 2)),(λj=>(vI ((smF (co t 2)) j))),(vI (cc t 0 2)),(vI (cc t 0 3)),(vI (cc t 0 4)))
def go0:x5->Z3:=(λz:Int×Nat×(Nat->Int)×(Nat->Int)×Nat×(ByteArray->Bool)×(ByteArray->Int)×Int×Int×Int=>.ret (i64 z.1) [some (.blk [.sl 1 2 0 z.2.1,.mp 2,i64 z.p7,i64 z.p8,i64 z.q9]),some (.row 49 2 z.2.1 (λj=>[i64 (z.2.2.1 j),i64 (z.p3 j)])),some (.smap z.p4 z.p5 (λj=>i64 (z.p6 j)))])
abbrev er7{β:Type}(x:bR)(dn:x5->Option β):Option β:=
 U12 x λA B C D E F G H I J K L=>if(D+1)*16<=b6/\D+1<=maxLen/\D<=D then dn ((w (((D+1:Nat):Int)-1),D+1,λj=>if j<D then E j else A,λj=>if j<D then F j else B,G,H,I,w (J+C),if w (J+C)>K then w (J+C)else K,L))else none
noncomputable def emit(q:Nat)(x:bR):Option x5:=er7 x some
theorem cI(q:Nat):Lw E5 99 gr3 go0 (emit q):=so hW5 hX5 kn λc β=>er7 (β:=β)
abbrev b8:Type:=Nat×(Nat->Int)×(Nat->Int)×Nat×(ByteArray->Bool)×(ByteArray->Int)×Int×Int×Int
def gi2:AR x5:=λx=>([.ptr 0 0,i64 x.1],[some (.blk [.sl 1 2 0 x.2.1,.mp 2,i64 x.p7,i64 x.p8,i64 x.q9]),some (.row 49 2 x.2.1 (λj=>[i64 (x.2.2.1 j),i64 (x.p3 j)])),some (.smap x.p4 x.p5 (λj=>i64 (x.p6 j)))])
theorem gr9:VI gi2:=vd λt=>((vI (ag t 1)),(aV (cc t 0 0)),(dRI (co t 1) 0),(dRI (co t 1) 1),(smN (co t 2)),(smH (co t 2)),(λj=>(vI ((smF (co t 2)) j))),(vI (cc t 0 2)),(vI (cc t 0 3)),(vI (cc t 0 4)))
def r8:b8->Z3:=(λz:Nat×(Nat->Int)×(Nat->Int)×Nat×(ByteArray->Bool)×(ByteArray->Int)×Int×Int×Int=>.ret (.tup []) [some (.blk [.sl 1 2 0 z.1,.mp 2,i64 z.p6,i64 z.p7,i64 z.q8]),some (.row 49 2 z.1 (λj=>[i64 (z.2.1 j),i64 (z.2.2.1 j)])),some (.smap z.p3 z.p4 (λj=>i64 (z.p5 j)))])
abbrev eg3{β:Type}(x:x5)(dn:b8->Option β):Option β:=
 U5 x λA B C D E=>if 0<=A/\A< (B:Int)then if 0+Int.toNat (A)<B/\2=2 then dn ((B,C,λj=>if j=0+Int.toNat (A)then(B:Int)else D j,E))else none else none
noncomputable def here(q:Nat)(x:x5):Option b8:=eg3 x some
theorem fa6(q:Nat):Lw E5 312 gi2 r8 (here q):=so hW5 hX5 kn λc β=>eg3 (β:=β)
abbrev lO:Type:=Int×Int×ByteArray×Nat×(Nat->List V)×Int×Nat×(Nat->Int)×(Nat->Int)×Nat×(ByteArray->Bool)×(ByteArray->Int)×Int×Int×Int
def co7:AR lO:=λx=>([.ptr 0 0,.agg [i64 x.1,i64 x.2.1,st x.2.2.1,.ro 4 x.p3 x.p4],i64 x.p5],[some (.blk [.sl 1 2 0 x.p6,.mp 2,i64 x.p12,i64 x.p13,i64 x.q14]),some (.row 49 2 x.p6 (λj=>[i64 (x.p7 j),i64 (x.p8 j)])),some (.smap x.p9 x.p10 (λj=>i64 (x.p11 j)))])
theorem ae5:VI co7:=vd λt=>((vI (ca t 1 0)),(vI (ca t 1 1)),(vS (ca t 1 2)),(r7 (ca t 1 3)),(aW (ca t 1 3)),(vI (ag t 2)),(aV (cc t 0 0)),(dRI (co t 1) 0),(dRI (co t 1) 1),(smN (co t 2)),(smH (co t 2)),(λj=>(vI ((smF (co t 2)) j))),(vI (cc t 0 2)),(vI (cc t 0 3)),(vI (cc t 0 4)))
abbrev ax1{β:Type}(A:g8->Option Int)(x:lO)(dn:x5->Option β):Option β:=
 U15 x λB C D E F G H I J K L M N O P=>(A ((B,C,D,E,F))).bind λa=>if decide (a>G) then dn ((a,H,I,J,K,L,M,N,O,5))else dn ((a,x.2.2.2.2.2.2))
noncomputable def xN(q:Nat)(x:lO):Option x5:=ax1 (value q) x some
theorem xI(q:Nat):Lw E5 313 co7 go0 (xN q):=so hW5 hX5 (kc cJ (bs0 q) kn) λc β=>ax1 (β:=β) c.1
abbrev m6:Type:=Int×Int×ByteArray×Nat×(Nat->List V)×Nat×(Nat->Int)×(Nat->Int)×Nat×(ByteArray->Bool)×(ByteArray->Int)×Int×Int×Int
def dI:AR m6:=λx=>([.ptr 0 0,.agg [i64 x.1,i64 x.2.1,st x.2.2.1,.ro 4 x.p3 x.p4]],[some (.blk [.sl 1 2 0 x.p5,.mp 2,i64 x.p11,i64 x.p12,i64 x.q13]),some (.row 49 2 x.p5 (λj=>[i64 (x.p6 j),i64 (x.p7 j)])),some (.smap x.p8 x.p9 (λj=>i64 (x.p10 j)))])
theorem xB:VI dI:=vd λt=>((vI ((vAg (ag t 1)).getD 0 .junk)),(vI ((vAg (ag t 1)).getD 1 .junk)),(vS ((vAg (ag t 1)).getD 2 .junk)),(r7 ((vAg (ag t 1)).getD 3 .junk)),(aW ((vAg (ag t 1)).getD 3 .junk)),(aV (cc t 0 0)),(dRI (co t 1) 0),(dRI (co t 1) 1),(smN (co t 2)),(smH (co t 2)),(λj=>vI (smF (co t 2) j)),vI (cc t 0 2),vI (cc t 0 3),vI (cc t 0 4))
abbrev b9:Type:=Int×Int×ByteArray×Nat×(Nat->Int)×(Nat->Int)×(Nat->ByteArray)×(Nat->Nat)×(Nat->Nat->List V)×Nat×(Nat->Int)×(Nat->Int)×Nat×(ByteArray->Bool)×(ByteArray->Int)×Int×Int×Int
def s7:AR b9:=λx=>([.ptr 0 0,.agg [i64 x.1,i64 x.2.1,st x.2.2.1,.ro 4 x.p3 (λj=>[i64 (x.p4 j),i64 (x.p5 j),st (x.p6 j),.ro 4 (x.p7 j) (x.p8 j)])]],[some (.blk [.sl 1 2 0 x.p9,.mp 2,i64 x.p15,i64 x.p16,i64 x.q17]),some (.row 49 2 x.p9 (λj=>[i64 (x.p10 j),i64 (x.p11 j)])),some (.smap x.p12 x.p13 (λj=>i64 (x.p14 j)))])
theorem x9:VI s7:=vd λt=>((vI (ca t 1 0)),(vI (ca t 1 1)),(vS (ca t 1 2)),(r7 (ca t 1 3)),(dTI (ca t 1 3) 0),(dTI (ca t 1 3) 1),(dTS (ca t 1 3) 2),(dTN (ca t 1 3) 3),(dTF (ca t 1 3) 3),(aV (cc t 0 0)),(dRI (co t 1) 0),(dRI (co t 1) 1),(smN (co t 2)),(smH (co t 2)),(λj=>(vI ((smF (co t 2)) j))),(vI (cc t 0 2)),(vI (cc t 0 3)),(vI (cc t 0 4)))
abbrev ah2{β:Type}(A:m6->Option b8)(B:bR->Option x5)(x:b9)(dn:b8->Option β):Option β:=
 U10 x λC D E F G H I J K L=>if(0:Int)<=(0:Int)/\0< (F:Int)then(A ((G 0,H 0,I 0,J 0,K 0,L))).bind λa=>if(C==1) then(B ((3,if(E==E||a.2.2.2.2.1 (E)) then if(E==E) then(a.2.2.2.1:Int)else a.2.2.2.2.2.1 (E)else 0,(-1:Int),a.1,a.2.1,a.2.2.1,if a.2.2.2.2.1 (E) then a.2.2.2.1 else a.2.2.2.1+1,λ(q:ByteArray)=>q==E||a.2.2.2.2.1 q,λ(j:ByteArray)=>if(j==E) then(a.2.2.2.1:Int)else a.2.2.2.2.2.1 j,a.2.2.2.2.2.2))).bind λb=>dn (b.2)else(B ((3,if a.2.2.2.2.1 (E) then a.2.2.2.2.2.1 (E)else 0,(-1:Int),a))).bind λc=>dn (c.2)else none
abbrev ap0{β:Type}(A:m6->Option b8)(B:bR->Option x5)(C:x5->Option b8)(x:b9)(dn:b8->Option β):Option β:=
 U10 x λD E F G H I J K L M=>if(0:Int)<=(0:Int)/\0< (G:Int)then(A ((H 0,I 0,J 0,K 0,L 0,M))).bind λa=>(B ((15,0,(-1:Int),a))).bind λb=>if(0:Int)<=(1:Int)/\1< (G:Int)then(A ((H 1,I 1,J 1,K 1,L 1,b.2))).bind λc=>if(0:Int)<=(2:Int)/\2< (G:Int)then if(((K 2:Nat):Int)==0) then(C ((b.1,c))).bind λd=>dn d else(B ((14,0,0,c))).bind λe=>(C ((b.1,e.2))).bind λf=>if(0:Int)<=(2:Int)/\2< (G:Int)then(A ((H 2,I 2,J 2,K 2,L 2,f))).bind λg=>(C ((e.1,g))).bind λh=>dn h else none else none else none else none
abbrev az6{β:Type}(A:m6->Option b8)(B:bR->Option x5)(x:b9)(dn:b8->Option β):Option β:=
 U10 x λC D E F G H I J K L=>(B ((16,D,0,L))).bind λa=>if(0:Int)<=(0:Int)/\0< (F:Int)then(A ((G 0,H 0,I 0,J 0,K 0,a.2))).bind λb=>(B ((17,w (a.1+1),0,b))).bind λc=>dn (c.2)else none
abbrev da1{β:Type}(A:lO->Option x5)(B:bR->Option x5)(x:b9)(dn:b8->Option β):Option β:=
 U10 x λC D E F G H I J K L=>if(0:Int)<=(0:Int)/\0< (F:Int)then(A ((G 0,H 0,I 0,J 0,K 0,1000000,L))).bind λa=>(B ((18,a.1,0,a.2))).bind λb=>dn (b.2)else none
abbrev bu3{β:Type}(A:m6->Option b8)(B:lO->Option x5)(C:bR->Option x5)(x:b9)(dn:b8->Option β):Option β:=
 U10 x λD E F G H I J K L M=>if(0:Int)<=(1:Int)/\1< (G:Int)then(B ((H 1,I 1,J 1,K 1,L 1,1000000,M))).bind λa=>(C ((19,a.1,0,a.2))).bind λb=>if(0:Int)<=(0:Int)/\0< (G:Int)then(A ((H 0,I 0,J 0,K 0,L 0,b.2))).bind λc=>(C ((20,w (b.1+1),(-1:Int),c))).bind λd=>dn (d.2)else none else none
abbrev aj3{β:Type}(A:m6->Option b8)(B:bR->Option x5)(x:b9)(dn:b8->Option β):Option β:=
 U10 x λC D E F G H I J K L=>if(0:Int)<=(0:Int)/\0< (F:Int)then(A ((G 0,H 0,I 0,J 0,K 0,L))).bind λa=>(B ((21,0,(-1:Int),a))).bind λb=>dn (b.2)else none
abbrev by7{β:Type}(A:m6->Option b8)(B:bR->Option x5)(x:b9)(dn:b8->Option β):Option β:=
 U10 x λC D E F G H I J K L=>if(0:Int)<=(0:Int)/\0< (F:Int)then(A ((G 0,H 0,I 0,J 0,K 0,L))).bind λa=>(B ((22,0,(-1:Int),a))).bind λb=>dn (b.2)else none
abbrev ep5{β:Type}(A:lO->Option x5)(B:bR->Option x5)(x:b9)(dn:b8->Option β):Option β:=
 U10 x λC D E F G H I J K L=>if(0:Int)<=(0:Int)/\0< (F:Int)then(A ((G 0,H 0,I 0,J 0,K 0,999999,L))).bind λa=>(B ((23,w (w (D*1000000)+a.1),0,a.2))).bind λb=>dn (b.2)else none
abbrev cz1{β:Type}(A:lO->Option x5)(B:bR->Option x5)(x:b9)(dn:b8->Option β):Option β:=
 U10 x λC D E F G H I J K L=>if(0:Int)<=(0:Int)/\0< (F:Int)then(A ((G 0,H 0,I 0,J 0,K 0,268435455,L))).bind λa=>(B ((24,w (w (a.1*8)+D),0,a.2))).bind λb=>dn (b.2)else none
abbrev cw8{β:Type}(A:g8->Option Int)(B:bR->Option x5)(x:b9)(dn:b8->Option β):Option β:=
 U10 x λC D E F G H I J K L=>if(0:Int)<=(0:Int)/\0< (F:Int)then(A ((G 0,H 0,I 0,J 0,K 0))).bind λa=>(B ((25,a,0,L))).bind λb=>dn (b.2)else none
abbrev bx4{β:Type}(A:bR->Option x5)(x:b9)(dn:b8->Option β):Option β:=
 (A ((26,x.2.1,0,x.2.2.2.2.2.2.2.2.2))).bind λa=>dn (a.2)
abbrev cc9{β:Type}(A:bR->Option x5)(x:b9)(dn:b8->Option β):Option β:=
 (A ((27,x.2.1,0,x.2.2.2.2.2.2.2.2.2))).bind λa=>dn (a.2)
abbrev mZ:Type:=Int×Nat×Int×Int×Int×(Nat->Int)×(Nat->Int)×Nat×(ByteArray->Bool)×(ByteArray->Int)
abbrev sI:Type:=Nat×Int×Int×Int×(Nat->Int)×(Nat->Int)×Nat×(ByteArray->Bool)×(ByteArray->Int)
def ef1(x:b9)(y:mZ):St:={fr:=[V.ptr 0 0]++jk 6++[V.ro 4 (x.p3) λj=>[i64 (x.p4 j),i64 (x.p5 j),st (x.p6 j),V.ro 4 (x.p7 j) (x.p8 j)],i64 (x.p3:Int),i64 (y.1)]++jk 7,H:=hp [some (Z1.blk [V.sl 1 2 0 (y.2.1),V.mp 2,i64 (y.2.2.1),i64 (y.p3),i64 (y.p4)]),some (Z1.row 49 2 (y.2.1) λj=>[i64 (y.p5 j),i64 (y.p6 j)]),some (Z1.smap (y.p7) (y.p8) λ(j:ByteArray)=>i64 (y.q9 j))],nx:=3,rt:=1,me:=253}
theorem dj6(x:b9):VL (ef1 x):=vl λs=>((vI (fv s 9)),(aV (cb s 0 0)),(vI (cb s 0 2)),(vI (cb s 0 3)),(vI (cb s 0 4)),(dRI (s.H 1) 0),(dRI (s.H 1) 1),(smN (s.H 2)),(smH (s.H 2)),(λj=>(vI ((smF (s.H 2)) j))))
def dk9(x:b9):sI->Ex×St:=(λz=>(Ex.exit 0,{fr:=[V.junk]++jk 16,H:=hp [some (Z1.blk [V.sl 1 2 0 (z.1),V.mp 2,i64 (z.2.1),i64 (z.2.2.1),i64 (z.p3)]),some (Z1.row 49 2 (z.1) λj=>[i64 (z.p4 j),i64 (z.p5 j)]),some (Z1.smap (z.p6) (z.p7) λ(j:ByteArray)=>i64 (z.q8 j))],nx:=3,rt:=1,me:=253}))
abbrev sF{β:Type}(A:m6->Option b8)(x:b9)(y:mZ)(nx:mZ->Option β)(dn:sI->Option β):Option β:=
 U10 x λB C D E F G H I J K=>U10 y λB C D K L M N O P Q=>if decide (B< (E:Int)) then if 0<=B/\B< (E:Int)then(A ((F (Int.toNat (B)),G (Int.toNat (B)),H (Int.toNat (B)),I (Int.toNat (B)),J (Int.toNat (B)),C,M,N,O,P,Q,D,K,L))).bind λa=>nx ((w (B+1),a.1,a.2.2.2.2.2.2.1,a.2.2.2.2.2.2.2.1,a.2.2.2.2.2.2.2.2,a.2.1,a.2.2.1,a.2.2.2.1,a.2.2.2.2.1,a.2.2.2.2.2.1))else none else dn (y.2)
noncomputable def cp7(A:m6->Option b8)(q:Nat)(x:b9):mZ->Option sI:=lpG (λy=>sF A x y (λy=>some (.inl y)) (λz=>some (.inr z))) q
abbrev bz5{β:Type}(A:m6->Option b8)(B:mZ->Option sI)(x:b9)(dn:b8->Option β):Option β:=
 U18 x λA C D E F G H I J K L M N O P Q R S=>(B ((0,K,Q,R,S,L,M,N,O,P))).bind λa=>dn ((a.1,a.2.2.2.2.1,a.2.2.2.2.2.1,a.2.2.2.2.2.2.1,a.2.2.2.2.2.2.2.1,a.2.2.2.2.2.2.2.2,a.2.1,a.2.2.1,a.2.2.2.1))
abbrev wP{β:Type}(A:g8->Option Int)(B:bR->Option x5)(x:b9)(dn:b8->Option β):Option β:=
 U10 x λC D E F G H I J K L=>(A ((C,D,E,F,λj=>[i64 (G j),i64 (H j),st (I j),V.ro 4 (J j) (K j)]))).bind λa=>(B ((1,a,1,L))).bind λb=>dn (b.2)
abbrev zO{β:Type}(A:bR->Option x5)(x:b9)(dn:b8->Option β):Option β:=
 U16 x λB C D E F G H I J K L M N O P Q=>(A ((2,if O (D) then P (D)else 0,1,x.2.2.2.2.2.2.2.2.2))).bind λa=>dn (a.2)
abbrev db2{β:Type}(A:ByteArray->Option l7)(B:bR->Option x5)(x:b9)(dn:b8->Option β):Option β:=
 (A (x.2.2.1)).bind λa=>(B ((4,a.1,1,x.2.2.2.2.2.2.2.2.2))).bind λb=>dn (b.2)
abbrev bs9{β:Type}(A:m6->Option b8)(B:bR->Option x5)(x:b9)(dn:b8->Option β):Option β:=
 U10 x λC D E F G H I J K L=>if(0:Int)<=(0:Int)/\0< (F:Int)then(A ((G 0,H 0,I 0,J 0,K 0,L))).bind λa=>if(ByteArray.toList (E)==ByteArray.toList ⟨#[45]⟩) then(B ((9,0,0,a))).bind λb=>dn (b.2)else(B ((13,0,0,a))).bind λc=>dn (c.2)else none
abbrev bb4{β:Type}(A:m6->Option b8)(B:bR->Option x5)(C:x5->Option b8)(x:b9)(dn:b8->Option β):Option β:=
 U10 x λD E F G H I J K L M=>if(0:Int)<=(0:Int)/\0< (G:Int)then(A ((H 0,I 0,J 0,K 0,L 0,M))).bind λa=>if(ByteArray.toList (F)==ByteArray.toList ⟨#[38,38]⟩) then(B ((15,0,(-1:Int),a))).bind λb=>if(0:Int)<=(1:Int)/\1< (G:Int)then(A ((H 1,I 1,J 1,K 1,L 1,b.2))).bind λc=>(B ((14,0,(-1:Int),c))).bind λd=>(C ((b.1,d.2))).bind λe=>(B ((1,0,1,e))).bind λf=>(C ((d.1,f.2))).bind λg=>dn g else none else if(ByteArray.toList (F)==ByteArray.toList ⟨#[124,124]⟩) then(B ((15,0,(-1:Int),a))).bind λh=>(B ((1,1,1,h.2))).bind λi=>(B ((14,0,(-1:Int),i.2))).bind λj=>(C ((h.1,j.2))).bind λk=>if(0:Int)<=(1:Int)/\1< (G:Int)then(A ((H 1,I 1,J 1,K 1,L 1,k))).bind λl=>(C ((j.1,l))).bind λm=>dn m else none else if(0:Int)<=(1:Int)/\1< (G:Int)then(A ((H 1,I 1,J 1,K 1,L 1,a))).bind λn=>(B ((if(F==⟨#[33,61]⟩||(F==⟨#[61,61]⟩||(F==⟨#[62]⟩||(F==⟨#[60,61]⟩||(F==⟨#[62,61]⟩||(F==⟨#[60]⟩||(F==⟨#[47]⟩||(F==⟨#[42]⟩||(F==⟨#[45]⟩||(F==⟨#[43]⟩||false)))))))))) then if(F==⟨#[33,61]⟩) then 12 else if(F==⟨#[61,61]⟩) then 12 else if(F==⟨#[62]⟩) then 11 else if(F==⟨#[60,61]⟩) then 11 else if(F==⟨#[62,61]⟩) then 10 else if(F==⟨#[60]⟩) then 10 else if(F==⟨#[47]⟩) then 8 else if(F==⟨#[42]⟩) then 7 else if(F==⟨#[45]⟩) then 6 else if(F==⟨#[43]⟩) then 5 else 0 else 0,0,(-1:Int),n))).bind λo=>if(ByteArray.toList (F)==ByteArray.toList ⟨#[62]⟩) then(B ((13,0,0,o.2))).bind λp=>dn (p.2)else if(ByteArray.toList (F)==ByteArray.toList ⟨#[62,61]⟩) then(B ((13,0,0,o.2))).bind λq=>dn (q.2)else if(ByteArray.toList (F)==ByteArray.toList ⟨#[33,61]⟩) then(B ((13,0,0,o.2))).bind λr=>dn (r.2)else dn (o.2)else none else none
abbrev bi7{β:Type}(A:b9->Option b8)(B:b9->Option b8)(C:b9->Option b8)(D:b9->Option b8)(E:b9->Option b8)(F:b9->Option b8)(G:b9->Option b8)(H:b9->Option b8)(I:b9->Option b8)(J:b9->Option b8)(K:b9->Option b8)(L:b9->Option b8)(M:b9->Option b8)(N:b9->Option b8)(O:b9->Option b8)(P:b9->Option b8)(Q:b9->Option b8)(R:b9->Option b8)(x:b9)(dn:b8->Option β):Option β:=
 U10 x λS T U V W X Y Z u v=>if S=1 then(A x).bind λa=>dn a else if S=2 then(A x).bind λb=>dn b else if S=3 then(B x).bind λc=>dn c else if S=4 then(C x).bind λd=>dn d else if S=5 then(D x).bind λe=>dn e else if S=6 then(E x).bind λf=>dn f else if S=7 then(F x).bind λg=>dn g else if S=8 then(G x).bind λh=>dn h else if S=9 then(H x).bind λi=>dn i else if S=10 then(I x).bind λj=>dn j else if S=11 then(J x).bind λk=>dn k else if S=12 then(K x).bind λl=>dn l else if S=13 then(L x).bind λm=>dn m else if S=14 then(M x).bind λn=>dn n else if S=15 then(N x).bind λo=>dn o else if S=16 then(N x).bind λp=>dn p else if S=17 then(O x).bind λq=>dn q else if S=18 then(P x).bind λr=>dn r else if S=19 then(Q x).bind λs=>dn s else if S=20 then(R x).bind λt=>dn t else dn (v)
noncomputable def as5(c:m6->Option b8)(q:Nat)(x:b9):Option b8:=ah2 c (emit q) x some
theorem ef6{c:m6->Option b8}(h:Lw E5 98 dI r8 c)(q:Nat):Lw E5 241 s7 r8 (as5 c q):=so hW5 hX5 (kc xB h (kc fG (cI q) kn)) λc β=>ah2 (β:=β) c.1 c.2.1
noncomputable def bl1(c:m6->Option b8)(q:Nat)(x:b9):Option b8:=ap0 c (emit q) (here q) x some
theorem el7{c:m6->Option b8}(h:Lw E5 98 dI r8 c)(q:Nat):Lw E5 242 s7 r8 (bl1 c q):=so hW5 hX5 (kc xB h (kc fG (cI q) (kc gr9 (fa6 q) kn))) λc β=>ap0 (β:=β) c.1 c.2.1 c.2.2.1
noncomputable def by5(c:m6->Option b8)(q:Nat)(x:b9):Option b8:=az6 c (emit q) x some
theorem ee6{c:m6->Option b8}(h:Lw E5 98 dI r8 c)(q:Nat):Lw E5 243 s7 r8 (by5 c q):=so hW5 hX5 (kc xB h (kc fG (cI q) kn)) λc β=>az6 (β:=β) c.1 c.2.1
noncomputable def ew8(c:m6->Option b8)(q:Nat)(x:b9):Option b8:=da1 (xN q) (emit q) x some
theorem fm3{c:m6->Option b8}(h:Lw E5 98 dI r8 c)(q:Nat):Lw E5 244 s7 r8 (ew8 c q):=so hW5 hX5 (kc ae5 (xI q) (kc fG (cI q) kn)) λc β=>da1 (β:=β) c.1 c.2.1
noncomputable def cy2(c:m6->Option b8)(q:Nat)(x:b9):Option b8:=bu3 c (xN q) (emit q) x some
theorem eg5{c:m6->Option b8}(h:Lw E5 98 dI r8 c)(q:Nat):Lw E5 245 s7 r8 (cy2 c q):=so hW5 hX5 (kc xB h (kc ae5 (xI q) (kc fG (cI q) kn))) λc β=>bu3 (β:=β) c.1 c.2.1 c.2.2.1
noncomputable def bd5(c:m6->Option b8)(q:Nat)(x:b9):Option b8:=aj3 c (emit q) x some
theorem cw3{c:m6->Option b8}(h:Lw E5 98 dI r8 c)(q:Nat):Lw E5 246 s7 r8 (bd5 c q):=so hW5 hX5 (kc xB h (kc fG (cI q) kn)) λc β=>aj3 (β:=β) c.1 c.2.1
noncomputable def dh7(c:m6->Option b8)(q:Nat)(x:b9):Option b8:=by7 c (emit q) x some
theorem eq9{c:m6->Option b8}(h:Lw E5 98 dI r8 c)(q:Nat):Lw E5 247 s7 r8 (dh7 c q):=so hW5 hX5 (kc xB h (kc fG (cI q) kn)) λc β=>by7 (β:=β) c.1 c.2.1
noncomputable def gh2(c:m6->Option b8)(q:Nat)(x:b9):Option b8:=ep5 (xN q) (emit q) x some
theorem gn5{c:m6->Option b8}(h:Lw E5 98 dI r8 c)(q:Nat):Lw E5 248 s7 r8 (gh2 c q):=so hW5 hX5 (kc ae5 (xI q) (kc fG (cI q) kn)) λc β=>ep5 (β:=β) c.1 c.2.1
noncomputable def ep3(c:m6->Option b8)(q:Nat)(x:b9):Option b8:=cz1 (xN q) (emit q) x some
theorem fk4{c:m6->Option b8}(h:Lw E5 98 dI r8 c)(q:Nat):Lw E5 249 s7 r8 (ep3 c q):=so hW5 hX5 (kc ae5 (xI q) (kc fG (cI q) kn)) λc β=>cz1 (β:=β) c.1 c.2.1
noncomputable def et5(c:m6->Option b8)(q:Nat)(x:b9):Option b8:=cw8 (value q) (emit q) x some
theorem fv2{c:m6->Option b8}(h:Lw E5 98 dI r8 c)(q:Nat):Lw E5 250 s7 r8 (et5 c q):=so hW5 hX5 (kc cJ (bs0 q) (kc fG (cI q) kn)) λc β=>cw8 (β:=β) c.1 c.2.1
noncomputable def dg0(c:m6->Option b8)(q:Nat)(x:b9):Option b8:=bx4 (emit q) x some
theorem ei2{c:m6->Option b8}(h:Lw E5 98 dI r8 c)(q:Nat):Lw E5 251 s7 r8 (dg0 c q):=so hW5 hX5 (kc fG (cI q) kn) λc β=>bx4 (β:=β) c.1
noncomputable def cs7(c:m6->Option b8)(q:Nat)(x:b9):Option b8:=cc9 (emit q) x some
theorem ej6{c:m6->Option b8}(h:Lw E5 98 dI r8 c)(q:Nat):Lw E5 252 s7 r8 (cs7 c q):=so hW5 hX5 (kc fG (cI q) kn) λc β=>cc9 (β:=β) c.1
noncomputable def bl5(c:m6->Option b8)(q:Nat)(x:b9):Option b8:=bz5 c (cp7 c q x) x some
theorem bz1{c:m6->Option b8}(h:Lw E5 98 dI r8 c)(q:Nat):Lw E5 253 s7 r8 (bl5 c q):=have K:=(kc xB h kn);sl hW5 hX5 K (λx=>(lc 0 (dj6 x) (lp hX5 (dk9 x) 253 0 897 [(0,0)] 0 K ln q λc l β=>sF (β:=β) c.1 x) ln)) λc l β=>bz5 (β:=β) c.1 l.1
noncomputable def ae8(c:m6->Option b8)(q:Nat)(x:b9):Option b8:=wP (value q) (emit q) x some
theorem cs6{c:m6->Option b8}(h:Lw E5 98 dI r8 c)(q:Nat):Lw E5 254 s7 r8 (ae8 c q):=so hW5 hX5 (kc cJ (bs0 q) (kc fG (cI q) kn)) λc β=>wP (β:=β) c.1 c.2.1
noncomputable def an8(c:m6->Option b8)(q:Nat)(x:b9):Option b8:=zO (emit q) x some
theorem cf8{c:m6->Option b8}(h:Lw E5 98 dI r8 c)(q:Nat):Lw E5 255 s7 r8 (an8 c q):=so hW5 hX5 (kc fG (cI q) kn) λc β=>zO (β:=β) c.1
noncomputable def eu8(c:m6->Option b8)(q:Nat)(x:b9):Option b8:=db2 (cf4 q) (emit q) x some
theorem fm4{c:m6->Option b8}(h:Lw E5 98 dI r8 c)(q:Nat):Lw E5 256 s7 r8 (eu8 c q):=so hW5 hX5 (kc l5 (fb9 q) (kc fG (cI q) kn)) λc β=>db2 (β:=β) c.1 c.2.1
noncomputable def di6(c:m6->Option b8)(q:Nat)(x:b9):Option b8:=bs9 c (emit q) x some
theorem ei6{c:m6->Option b8}(h:Lw E5 98 dI r8 c)(q:Nat):Lw E5 257 s7 r8 (di6 c q):=so hW5 hX5 (kc xB h (kc fG (cI q) kn)) λc β=>bs9 (β:=β) c.1 c.2.1
noncomputable def bw0(c:m6->Option b8)(q:Nat)(x:b9):Option b8:=bb4 c (emit q) (here q) x some
theorem ee2{c:m6->Option b8}(h:Lw E5 98 dI r8 c)(q:Nat):Lw E5 258 s7 r8 (bw0 c q):=so hW5 hX5 (kc xB h (kc fG (cI q) (kc gr9 (fa6 q) kn))) λc β=>bb4 (β:=β) c.1 c.2.1 c.2.2.1
open Classical in
noncomputable def node:Nat->m6->Option b8
 |0,_=>none
 |q+1,x=>if hJ (x.2.2.2.2.1)then bi7 (as5 (node q) q) (bl1 (node q) q) (by5 (node q) q) (ew8 (node q) q) (cy2 (node q) q) (bd5 (node q) q) (dh7 (node q) q) (gh2 (node q) q) (ep3 (node q) q) (et5 (node q) q) (dg0 (node q) q) (cs7 (node q) q) (bl5 (node q) q) (ae8 (node q) q) (an8 (node q) q) (eu8 (node q) q) (di6 (node q) q) (bw0 (node q) q) (x.1,x.2.1,x.2.2.1,x.2.2.2.1,opK x.2.2.2.2.1,opN x.2.2.2.2.1,opS x.2.2.2.2.1,opM x.2.2.2.2.1,opF x.2.2.2.2.1,x.2.2.2.2.2.1,x.2.2.2.2.2.2.1,x.2.2.2.2.2.2.2.1,x.2.2.2.2.2.2.2.2.1,x.2.2.2.2.2.2.2.2.2.1,x.2.2.2.2.2.2.2.2.2.2.1,x.2.2.2.2.2.2.2.2.2.2.2.1,x.2.2.2.2.2.2.2.2.2.2.2.2.1,x.2.2.2.2.2.2.2.2.2.2.2.2.2) some else none
theorem gs0:∀q,Lw E5 98 dI r8 (node q):=by
 intro q
 induction q with
 |zero=>intro x z h;cases h
 |succ q ih=>
  intro x z h;unfold node at h;split at h
  ·rename_i hO;have this:=(so hW5 hX5 (kc x9 (ef6 ih q) (kc x9 (el7 ih q) (kc x9 (ee6 ih q) (kc x9 (fm3 ih q) (kc x9 (eg5 ih q) (kc x9 (cw3 ih q) (kc x9 (eq9 ih q) (kc x9 (gn5 ih q) (kc x9 (fk4 ih q) (kc x9 (fv2 ih q) (kc x9 (ei2 ih q) (kc x9 (ej6 ih q) (kc x9 (bz1 ih q) (kc x9 (cs6 ih q) (kc x9 (cf8 ih q) (kc x9 (fm4 ih q) (kc x9 (ei6 ih q) (kc x9 (ee2 ih q) (kb (iR hW5 hX5 20).1))))))))))))))))))) λc β=>bi7 (β:=β) c.1 c.2.1 c.2.2.1 c.2.2.2.1 c.2.2.2.2.1 c.2.2.2.2.2.1 c.2.2.2.2.2.2.1 c.2.2.2.2.2.2.2.1 c.2.2.2.2.2.2.2.2.1 c.2.2.2.2.2.2.2.2.2.1 c.2.2.2.2.2.2.2.2.2.2.1 c.2.2.2.2.2.2.2.2.2.2.2.1 c.2.2.2.2.2.2.2.2.2.2.2.2.1 c.2.2.2.2.2.2.2.2.2.2.2.2.2.1 c.2.2.2.2.2.2.2.2.2.2.2.2.2.2.1 c.2.2.2.2.2.2.2.2.2.2.2.2.2.2.2.1 c.2.2.2.2.2.2.2.2.2.2.2.2.2.2.2.2.1 c.2.2.2.2.2.2.2.2.2.2.2.2.2.2.2.2.2.1:Lw E5 98 s7 r8 _) (x.1,x.2.1,x.2.2.1,x.2.2.2.1,opK x.2.2.2.2.1,opN x.2.2.2.2.1,opS x.2.2.2.2.1,opM x.2.2.2.2.1,opF x.2.2.2.2.1,x.2.2.2.2.2.1,x.2.2.2.2.2.2.1,x.2.2.2.2.2.2.2.1,x.2.2.2.2.2.2.2.2.1,x.2.2.2.2.2.2.2.2.2.1,x.2.2.2.2.2.2.2.2.2.2.1,x.2.2.2.2.2.2.2.2.2.2.2.1,x.2.2.2.2.2.2.2.2.2.2.2.2.1,x.2.2.2.2.2.2.2.2.2.2.2.2.2) z h;unfold s7 at this;unfold dI;simp only at this⊢;rw[cY hO]at this;exact this
  ·cases h
end
end Go.Proofs.YtbmbhcheonjigaaGreatDoor
