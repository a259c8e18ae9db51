/- Texts joined. -/
import Derived.Test.YtcijknknahbbnaaGreatDoorQC
import Derived.Test.YtcijknknahbbnaaGreatDoorProg
import Derived.Test.YtcijknknahbbnaaGreatDoorRows
import Derived.Lib.Strings
import Derived.Lib.ItoaNum
import Derived.Lib.Join
import Derived.Lib.Repeat
import Derived.Lib.LaidTab
import Derived.Lib.AppendIntMem
import Derived.Lib.IndexMore
import Derived.Recover
import Derived.Shelf.Small.Strs
import Derived.Shelf.Strings.Search1
import Derived.Shelf.Strings.Search2
import Derived.Shelf.Strings.Search3
import Derived.Shelf.LaysM
import Derived.Shelf.Strings.Shaped
import Derived.Test.YtcijknknahbbnaaGreatDoorCards
import Derived.Test.YtcijknknahbbnaaGreatDoorTie
import Derived.Deep.DeepHandedRow
import Derived.Deep.DeepWitnessRowRef
import Derived.LaidMore
import Derived.Laws.RangeAny
import Derived.Lib.Bytealg
/- The environment of this seat: variables of the packages, library functions by contract. -/
set_option linter.unusedSimpArgs false
set_option linter.unusedVariables false
set_option linter.unusedSimpArgs false
set_option linter.unusedVariables false
namespace Go.Proofs.YtcijknknahbbnaaGreatDoor
open Go Go.Am
abbrev i64(n:Int):V:=.sc (.int .i64 n)
abbrev bo(b:Bool):V:=.sc (.bool b)
abbrev st(s:ByteArray):V:=.sc (.string s)
def tabL:List (List V):=[
 [.sc (.string ⟨#[74]⟩),i64 1,i64 1,i64 0,i64 0,i64 0,i64 0],
 [.sc (.string ⟨#[107,74]⟩),i64 1000,i64 1,i64 0,i64 0,i64 0,i64 0],
 [.sc (.string ⟨#[87,104]⟩),i64 3600,i64 1,i64 0,i64 0,i64 0,i64 0],
 [.sc (.string ⟨#[66]⟩),i64 1,i64 0,i64 1,i64 0,i64 0,i64 0],
 [.sc (.string ⟨#[107,66]⟩),i64 1000,i64 0,i64 1,i64 0,i64 0,i64 0],
 [.sc (.string ⟨#[115]⟩),i64 1,i64 0,i64 0,i64 1,i64 0,i64 0],
 [.sc (.string ⟨#[109,105,110]⟩),i64 60,i64 0,i64 0,i64 1,i64 0,i64 0],
 [.sc (.string ⟨#[104]⟩),i64 3600,i64 0,i64 0,i64 1,i64 0,i64 0],
 [.sc (.string ⟨#[100,101,103]⟩),i64 1,i64 0,i64 0,i64 0,i64 1,i64 0],
 [.sc (.string ⟨#[75]⟩),i64 1,i64 0,i64 0,i64 0,i64 0,i64 1],
 [.sc (.string ⟨#[87]⟩),i64 1,i64 1,i64 0,i64 (-1),i64 0,i64 0],
 [.sc (.string ⟨#[107,87]⟩),i64 1000,i64 1,i64 0,i64 (-1),i64 0,i64 0],
 [.sc (.string ⟨#[66,112,115]⟩),i64 1,i64 0,i64 1,i64 (-1),i64 0,i64 0]]
def fm5:V:=.ro 7 13 (fun j=>tabL.getD j [])
def dj6:List V:=[.sc (.string ⟨#[124,124]⟩),i64 1,.sc (.string ⟨#[38,38]⟩),i64 1,.sc (.string ⟨#[43]⟩),i64 2,.sc (.string ⟨#[45]⟩),i64 2,.sc (.string ⟨#[42]⟩),i64 3,.sc (.string ⟨#[47]⟩),i64 3,.sc (.string ⟨#[60]⟩),i64 4,.sc (.string ⟨#[60,61]⟩),i64 4,.sc (.string ⟨#[62]⟩),i64 4,.sc (.string ⟨#[62,61]⟩),i64 4,.sc (.string ⟨#[61,61]⟩),i64 4,.sc (.string ⟨#[33,61]⟩),i64 4]
def br1:Nat→Option (List V)
 |0=>some [fm5]
 |2=>some dj6
 |_=>none
def di1(f:FuncId)(args:List V):Option V:=
 if f=122 then match args with
  | [.sc (.string s),.sc (.string sub)]=>if s.size<4294967281 then some (bo (Lib.contains s.data.toList sub.data.toList))else none
  |_=>none
 else if f=83 then match args with
  | [.sc (.string s),.sc (.int .u8 c)]=>some (i64 (Lib.indexByte s.data.toList (UInt8.ofNat c.toNat)))
  |_=>none
 else none
def way(a b:Nat):Am.Way:=if b∈[19,44,45,88,123,124,125,126,127,128,129,130,141,143,149,150]then .giveM else if b∈[8,16,6,11,12]then .give else if b∈[]then .lend else .plain
def fp3(f:FuncId):Bool:=false
def et2(f:FuncId):Bool:=f==8
def ac2(f:FuncId):Option Nat:=if f=17 then some 3 else none
open Go.RowKit
noncomputable def E:Env:={P:=Tryz.prog,glob:=br1,ext:=di1,way:=way,lit:=fp3,code:=fun f=>(Tryz.prog.funcs[f]?).bind eq2,inv:=[(1,uL .i64)],dfn:=et2,idle:=ac2,rows:=true,sett:=fun _=>true}
noncomputable def E0:Env:={P:=Tryz.prog,glob:=fun _=>none,ext:=fun _ _=>none,way:=fun _ _=>.plain,lit:=fun _=>false,code:=fun f=>(Tryz.prog.funcs[f]?).bind eq2}
noncomputable def rest65:ACode:=match E0.code 17 with|some (.seq _ b)=>b|_=>.skip
def fi6:List V:=[.junk,.junk,.junk,.sc .nilIface]++List.replicate 2 (.sc undef)++[.sc .nilIface]++List.replicate 13 (.sc undef)
def T0:h9:=fun _ _ _ _=>none
def L0:f7:=fun _ _ _ _ _=>none
def cv1:Ex→Bool| .normal=>true|_=>false
theorem fl6:aA E0 T0 L0 rest65 {fr:=fi6,H:=hp [],nx:=0,rt:=0,me:=17} (fun e _=>if cv1 e then some (.c (.pan .junk))else none)=some (.c (.pan .junk)):=by kernel_rfl
theorem fj9(a:Act)(w:World)(hd:a.defers=[])(ht:b7 (fun _=>none) (fun _=>False) w (fun _=>False) fi6 a.tmps.toList):Code.wp Tryz.prog rest65.erase (fun e a' w'=>e= .normal∧a'.defers=[]∧Below w.heap.size w w') a w:=by
 obtain⟨e,s',h1,h2⟩:=bB (E:=E0) (ca:=T0) (lo:=L0) (fun _ _ _ _ _ h=>by cases h) (SoundX.none fun _ _=>rfl) (fun _ _ _ _ _ _ h=>by cases h) rest65 _ _ _ fl6
 split at h1
 case isFalse=>cases h1
 rename_i he
 have he:e= .normal:=by cases e<;>simp_all [cv1]
 subst he
 refine wp_mono (h2 (fun _=>none) (fun _=>False) (fun _=>False) a w ⟨ht,⟨fun i c hc=>(by simp[hp]at hc),fun _ _=>rfl,fun i b m h=>(by cases h),fun i b m h=>(by cases h),fun i j b m m' h=>(by cases h),fun b hb=>hb.elim⟩,⟨fun _=>hd,fun d h=>(by rw[hd]at h;cases h),fun h=>nomatch (show true=false from h)⟩,fun i hi=>hi.elim,⟨fun g cs h=>(by cases h),fun p hp=>(by cases hp)⟩,fun i hi=>absurd hi (Nat.not_lt_zero i)⟩) fun e' a' w' hp=>?_
 obtain⟨β',S',D',q1,q2,q3,q4,q5,q6⟩:=hp.ex
 cases e'<;>simp only[ExR]at q1
 exact⟨rfl,q2.df.1 rfl,kL q3⟩
theorem cd5 : eg0 Tryz.prog 17 3 := by
  intro us w hus
  refine ⟨?_, ?_⟩
  · have hb : ∃ fn, Tryz.prog.funcs[17]? = some fn ∧ fn.body.isSome = true ∧ fn.name ≠ "runtime.NumGoroutine" := ⟨_, Tryz.func17, by kernel_rfl, by intro e; exact absurd e (by decide +kernel)⟩
    obtain ⟨fn, h1, h2, h3⟩ := hb
    have hb : ¬ fn.body = none := by intro hb; rw [hb] at h2; cases h2
    simp [callFunc, Sem.run_bind, h1, h3, hb, program, Sem.run]
  · match us, hus with
    | ⟨[x, y, z]⟩, _ =>
      refine callsD_of_wpS Tryz.func17 rfl fun c₀ cs hu => ?_
      apply wpS_seq
      apply wpS_region
      simp [wpOpsS, go_sem, recoverD, hu, Tryz.ntmps17, Exit.thenS]
      refine wpS_of_wp ?_
      refine (congrArg (fun c => Code.wp Tryz.prog c _ _ _) (?_ : rest65.erase = _)).mp (wp_mono (fj9 _ w rfl ?_) ?_)
      · kernel_rfl
      · simp [fi6, b7, den]
        exact ⟨_, _, ⟨rfl, rfl⟩, _, _, rfl, _, rfl⟩
      · rintro e a' w' ⟨rfl, hd, hb⟩
        refine ⟨hd, _, ?_, _, by simp [results, Tryz.results17, go_sem]; rfl, ⟨_, rfl⟩, rfl, hb⟩
        cases c₀; simp_all
set_option maxRecDepth 100000 in
theorem hW:WF E:=WF.of E (fun _=>rfl) (by kernel_rfl) (fun g n h=>by
 have h':ac2 g=some n:=h
 unfold ac2 at h'
 split at h'
 ·rename_i hg;subst hg;cases h';exact cd5
 ·cases h')
end Go.Proofs.YtcijknknahbbnaaGreatDoor
/-
 DERIVED: THE SHELF's CONTRACTS AT THIS DUMP, IN PLAIN WORDS (tools/lay-plain.mjs out of 'TryzShelf.lean', which tools/lay-shelf.mjs dn2): THE SAME DECLARATIONS UNDER THE SAME NAMES: 'import', 'namespace', 'open', 'def', 'theorem' AND NOTHING ELSE: no command of the shelf's: FOR A HAND-IN. Each laying: the table of numbers ('.._ren') and one theorem, a field a fact of the dump's own or the kernel's comparison; each contract: ONE APPLICATION.
-/
namespace Go.Proofs
open Go.Shelf
def Tryz.lays137_ren:Go.Shelf.Ren:=⟨fun|137=>83|217=>120|266=>139|n=>n,fun|9=>9|5=>5|3=>3|n=>n,fun|n=>n⟩
theorem Tryz.lays137:Go.Proofs.Lays.n137 Tryz.prog Tryz.lays137_ren:={
 mixed:=by kernel_rfl
 f137:=Tryz.func83.trans (congrArg some (by kernel_rfl))
 f217:=Tryz.func120.trans (congrArg some (by kernel_rfl))
 f266:=Tryz.func139.trans (congrArg some (by kernel_rfl))
 t3:=Tryz.underlying3
 a3:=Tryz.isAgg3
 z3:=Tryz.sizeOf3
 v3:=Tryz.zeroValue3
 t5:=Tryz.underlying5
 a5:=Tryz.isAgg5
 z5:=Tryz.sizeOf5
 v5:=Tryz.zeroValue5
 t9:=Tryz.underlying9
 a9:=Tryz.isAgg9
 z9:=Tryz.sizeOf9
 v9:=Tryz.zeroValue9}
open Go.RowKit in
theorem Tryz.strings_IndexByte(s:ByteArray)(c:Int)(w:World):
 Calls Tryz.prog 83 #[.string s,.int .u8 c] w fun e w'=>e= .returned (.int .i64 (Lib.indexByte s.data.toList c.toNat.toUInt8))∧w'=w:=Any.strings_IndexByte Tryz.lays137 s c w
def Tryz.lays144_ren:Go.Shelf.Ren:=⟨fun|144=>122|143=>140|219=>148|217=>120|225=>153|224=>154|267=>155|266=>139|314=>156|n=>n,fun|9=>9|4=>4|3=>3|5=>5|46=>165|146=>167|51=>166|n=>n,fun|1=>1|n=>n⟩
theorem Tryz.lays144:Go.Proofs.Lays.n144 Tryz.prog Tryz.lays144_ren:={
 mixed:=by kernel_rfl
 f143:=Tryz.func140.trans (congrArg some (by kernel_rfl))
 f144:=Tryz.func122.trans (congrArg some (by kernel_rfl))
 f217:=Tryz.func120.trans (congrArg some (by kernel_rfl))
 f219:=Tryz.func148.trans (congrArg some (by kernel_rfl))
 f224:=Tryz.func154.trans (congrArg some (by kernel_rfl))
 f225:=Tryz.func153.trans (congrArg some (by kernel_rfl))
 f266:=Tryz.func139.trans (congrArg some (by kernel_rfl))
 f267:=Tryz.func155.trans (congrArg some (by kernel_rfl))
 f314:=Tryz.func156.trans (congrArg some (by kernel_rfl))
 t3:=Tryz.underlying3
 a3:=Tryz.isAgg3
 z3:=Tryz.sizeOf3
 v3:=Tryz.zeroValue3
 t4:=Tryz.underlying4
 a4:=Tryz.isAgg4
 z4:=Tryz.sizeOf4
 v4:=Tryz.zeroValue4
 t5:=Tryz.underlying5
 a5:=Tryz.isAgg5
 z5:=Tryz.sizeOf5
 v5:=Tryz.zeroValue5
 t9:=Tryz.underlying9
 a9:=Tryz.isAgg9
 z9:=Tryz.sizeOf9
 v9:=Tryz.zeroValue9
 t46:=Tryz.underlying165
 a46:=Tryz.isAgg165
 z46:=Tryz.sizeOf165
 v46:=Tryz.zeroValue165
 t51:=Tryz.underlying166
 a51:=Tryz.isAgg166
 z51:=Tryz.sizeOf166
 v51:=Tryz.zeroValue166
 t146:=Tryz.underlying167
 a146:=Tryz.isAgg167
 z146:=Tryz.sizeOf167
 v146:=Tryz.zeroValue167
 g1:=by kernel_rfl}
open Go.RowKit Go.Lib in
theorem Tryz.strings_Contains(s sub:ByteArray)(m:Int)(w:World)(hs:s.size<4294967281)(hm:w.cell? ⟨1,0,none⟩=some (.int .i64 m)):
 Calls Tryz.prog 122 #[.string s,.string sub] w fun e w'=>e= .returned (.bool (Lib.contains s.data.toList sub.data.toList))∧w'=w:=Any.strings_Contains Tryz.lays144 s sub m w hs hm
end Go.Proofs
/- The library's contracts, as the environment has them; the examples hold. -/
namespace Go.Proofs.YtcijknknahbbnaaGreatDoor
open Go Go.Am Go.RowKit
theorem sJ{W:World}{a:Addr}{x:Value}(h:W.cell? a=some x):a=⟨a.block,a.off,none⟩:=by
 unfold World.cell? at h
 split at h
 ·split at h
  ·cases h
  ·rename_i hs
   obtain⟨b,o,s⟩:=a
   cases s with
   |none=>rfl
   |some q=>exact absurd rfl hs
 ·cases h
theorem du8{S:Pr}{w:World}(hG:Glob E S w):∃m,w.cell? ⟨1,0,none⟩=some (.int .i64 m):=by
 obtain⟨_,x,h1,h2⟩:=hG.inv (1,uL .i64) (by simp[E])
 exact bv0 h1 h2
theorem hX:SoundX E:=by
 intro f args v h
 have h':di1 f args=some v:=h
 unfold di1 at h'
 split at h'
 ·rename_i hf;subst hf
  split at h'
  ·rename_i s sub
   split at h'
   ·rename_i hn
    cases h'
    refine⟨⟨_,Tryz.func122,by kernel_rfl,by intro e;exact absurd e (by decide+kernel)⟩,rfl,fun β S D w us hd hG hS=>?_⟩
    obtain rfl:us=[.string s,.string sub]:=by simpa[b7,den]using hd
    obtain⟨m,hm⟩:=du8 hG
    refine(Tryz.strings_Contains s sub m w hn hm).mono ?_
    rintro e w' ⟨rfl,rfl⟩
    exact⟨_,S,rfl,Below.refl _ _,by simp only[den],fun _ h=>h,fun _ h=>.inl h⟩
   ·cases h'
  ·cases h'
 split at h'
 ·rename_i hf;subst hf
  split at h'
  ·rename_i s c
   cases h'
   refine⟨⟨_,Tryz.func83,by kernel_rfl,by intro e;exact absurd e (by decide+kernel)⟩,rfl,fun β S D w us hd hG hS=>?_⟩
   obtain rfl:us=[.string s,.int .u8 c]:=by simpa[b7,den]using hd
   refine(Tryz.strings_IndexByte s c w).mono ?_
   rintro e w' ⟨rfl,rfl⟩
   exact⟨_,S,rfl,Below.refl _ _,by simp only[den],fun _ h=>h,fun _ h=>.inl h⟩
  ·cases h'
 cases h'
end Go.Proofs.YtcijknknahbbnaaGreatDoor
/- What the rows list of the packages' variables; a world that holds it. -/
namespace Go.Proofs.YtcijknknahbbnaaGreatDoor
open Go Go.Am Go.RowKit
theorem dg1:bo2 Tryz.prog=true:=by kernel_rfl
abbrev yH:List (String×DataW Unit):=Rows.vmFuelRow.laid
theorem dr0{W:World}(h:laidMetH Tryz.prog yH W):laidMet Tryz.prog yH W:=by
 rw[MakeChecks.laidMetH_plain _ _ _ (by kernel_rfl)]at h;exact h
theorem ey5 : GlobAt Tryz.prog yH 0 [fm5] := ⟨"perigee/unit.table", Rows.laid_perigee_unit_table, 121, 8, by simp [yH, Rows.vmFuelRow], by kernel_rfl, by kernel_rfl, of_decide_eq_true (by kernel_rfl), by kernel_rfl, by simp⟩
theorem fb6 : GlobAt Tryz.prog yH 2 dj6 := ⟨"perigee/types.operators", Rows.laid_perigee_types_operators, 161, 8, by simp [yH, Rows.vmFuelRow], by kernel_rfl, by kernel_rfl, of_decide_eq_true (by kernel_rfl), by kernel_rfl, by simp [dj6]⟩
theorem ex9{W:World}(h:laidMetH Tryz.prog yH W)(hs:W.ShapedOpen Tryz.prog):Glob E (· <W.heap.size) W:=by
 have hl:=dr0 h
 refine Glob.of_laid (laid:=yH) dg1 hl (fun g cs hg=>?_) (fun p hp=>?_)
 ·have hg':br1 g=some cs:=hg
  unfold br1 at hg'
  split at hg'
  ·cases hg';exact ey5
  ·cases hg';exact fb6
  ·cases hg'
 ·simp only[E,List.mem_cons,List.mem_nil_iff,or_false]at hp
  rcases hp with rfl
  exact dc7 (cell_of_shapedOpen_int (t:=3) (zero:=#[.int .i64 0]) hs (of_decide_eq_true (by kernel_rfl)) (by kernel_rfl) rfl (by kernel_rfl) (by kernel_rfl) (by kernel_rfl))
noncomputable def zQ(os:Os):World:=World.doorLaid Tryz.prog 4000 os
theorem ea5(os:Os)(args:Array Value):laidMet Tryz.prog yH ((zQ os).forCall (fun _ _=>0) ⟨#[],args,[]⟩).memory:=
 laidMet_of_run' 8 (by kernel_rfl) (by kernel_rfl)
theorem ef5(os:Os)(args:Array Value):laidMetH Tryz.prog yH ((zQ os).forCall (fun _ _=>0) ⟨#[],args,[]⟩).memory:=by
 rw[MakeChecks.laidMetH_plain _ _ _ (by kernel_rfl)];exact ea5 os args
end Go.Proofs.YtcijknknahbbnaaGreatDoor
/- Short words for the lifted texts. -/
namespace Go.Proofs.YtcijknknahbbnaaGreatDoor
open Go Go.Am Go.Proofs
abbrev FI:Type:=Nat→Int
abbrev FS:Type:=Nat→ByteArray
abbrev FL:Type:=Nat→List V
abbrev FM:Type:=Nat→Nat→List V
abbrev FN:Type:=Nat→Nat
abbrev SP:Type:=Int×Int×Nat×FI×FI×FS×FI×Nat×FS×Nat×FS
abbrev SC2:Type:=Nat×FI×FI×FS×FI×Int×Int×Nat×Nat×FS×FS
abbrev AR(α:Type):Type:=α→List V×List (Option Chunk)
abbrev Lw(E:Env)(f:FuncId){α γ:Type}(A:AR α)(R:γ→CRes)(c:α→Option γ):Prop:=∀x z,c x=some z→SC E f (A x).1 (A x).2 (R z)
noncomputable def ftg{α γ:Type}(f:FuncId)(gd:List V→List (Option Chunk)→Bool)(A:AR α)(R:γ→CRes)(c:α→Option γ)(ca:h9):h9:=jL f gd A (fun z k=>k (R z)) c ca
noncomputable abbrev ftb{α γ:Type}(f:FuncId)(A:AR α)(R:γ→CRes)(c:α→Option γ)(ca:h9):h9:=ftg f (fun _ _=>true) A R c ca
theorem fk{E:Env}{α γ:Type}{f:FuncId}{gd:List V→List (Option Chunk)→Bool}{A:AR α}{c:α→Option γ}{ca:h9}{R:γ→CRes}(h:Lw E f A R c)(hl:m6 E ca):m6 E (ftg f gd A R c ca):=j3 h (fun _ _=>rfl) hl
noncomputable def vf{α γ:Type}(A:AR α)(c:α→Option γ):α→Option γ:=fun x=>eK A c (A x)
theorem vq{α γ:Type}{A:AR α}(hi:∀x y,A x=A y→x=y)(c:α→Option γ):vf A c=c:=y7 hi c
abbrev n0:=@aW
abbrev n1:=@aU
abbrev n2:=@cL
abbrev n3:=@cF
abbrev hHP(x:SP):List (Option Chunk):=[some (.blk [.ro 4 x.2.2.1 (fun j=>[i64 (x.2.2.2.1 j),i64 (x.2.2.2.2.1 j),st (x.2.2.2.2.2.1 j),i64 (x.2.2.2.2.2.2.1 j)]),i64 x.1,i64 x.2.1,.sl 1 1 0 x.2.2.2.2.2.2.2.1,.sl 2 1 0 x.2.2.2.2.2.2.2.2.2.1]),some (.row 9 1 x.2.2.2.2.2.2.2.1 (fun j=>[st (x.2.2.2.2.2.2.2.2.1 j)])),some (.row 9 1 x.2.2.2.2.2.2.2.2.2.1 (fun j=>[st (x.2.2.2.2.2.2.2.2.2.2 j)]))]
abbrev dTI(v:V)(n:Nat):FI:=fun j=>vI ((nX v j).getD n .junk)
abbrev dTS(v:V)(n:Nat):FS:=fun j=>vS ((nX v j).getD n .junk)
abbrev dCS(c:Option Chunk):FS:=fun j=>vS ((chF c j).getD 0 .junk)
def dHP(t:List (Option Chunk)):SP:=
 let b:=chB (t.getD 0 none);let v:=b.getD 0 .junk
 (vI (b.getD 1 .junk),vI (b.getD 2 .junk),kP v,dTI v 0,dTI v 1,dTS v 2,dTI v 3,fE (b.getD 3 .junk),dCS (t.getD 1 none),fE (b.getD 4 .junk),dCS (t.getD 2 none))
abbrev hPB{α:Type}(y:Nat×FI×FI×FS×FI×Int×Int×Nat×Nat×α):Chunk:=.blk [.ro 4 y.1 (fun j=>[i64 (y.2.1 j),i64 (y.2.2.1 j),st (y.2.2.2.1 j),i64 (y.2.2.2.2.1 j)]),i64 y.2.2.2.2.2.1,i64 y.2.2.2.2.2.2.1,.sl 1 1 0 y.2.2.2.2.2.2.2.1,.sl 2 1 0 y.2.2.2.2.2.2.2.2.1]
abbrev hPV{α:Type}(y:Nat×FI×FI×FS×FI×Int×Int×Nat×Nat×FS×α):Chunk:=.row 9 1 y.2.2.2.2.2.2.2.1 (fun j=>[st (y.2.2.2.2.2.2.2.2.2.1 j)])
abbrev hPQ{α:Type}(y:Nat×FI×FI×FS×FI×Int×Int×Nat×Nat×FS×FS×α):Chunk:=.row 9 1 y.2.2.2.2.2.2.2.2.1 (fun j=>[st (y.2.2.2.2.2.2.2.2.2.2.1 j)])
abbrev ev6(y:SC2):Chunk:=.row 9 1 y.2.2.2.2.2.2.2.2.1 (fun j=>[st (y.2.2.2.2.2.2.2.2.2.2 j)])
abbrev TT:Type:=List V×List (Option Chunk)
def x2{α β:Type}(R:α⊕β→CRes)(z:α⊕β)(k:CRes→Option Ans):Option Ans:=Sum.elim (fun a=>k (R (.inl a))) (fun b=>k (R (.inr b))) z
def x3{α β γ:Type}(R:α⊕β⊕γ→CRes)(z:α⊕β⊕γ)(k:CRes→Option Ans):Option Ans:=Sum.elim (fun a=>k (R (.inl a))) (fun b=>x2 (fun b=>R (.inr b)) b k) z
def x4{α β γ δ:Type}(R:α⊕β⊕γ⊕δ→CRes)(z:α⊕β⊕γ⊕δ)(k:CRes→Option Ans):Option Ans:=Sum.elim (fun a=>k (R (.inl a))) (fun b=>x3 (fun b=>R (.inr b)) b k) z
section
variable {α β γ δ ε:Type} {E:Env} {f:FuncId} {gd:List V→List (Option Chunk)→Bool} {ca:h9}
theorem xe2{R:α⊕β→CRes}:∀z k,x2 R z k=k (R z):=fun z k=>by rcases z with z|z<;>rfl
noncomputable def fg2(f:FuncId)(gd:List V→List (Option Chunk)→Bool)(A:AR ε)(R:α⊕β→CRes)(c:ε→Option (α⊕β))(ca:h9):h9:=jL f gd A (x2 R) c ca
noncomputable abbrev ft2(f:FuncId)(A:AR ε)(R:α⊕β→CRes)(c:ε→Option (α⊕β))(ca:h9):h9:=fg2 f (fun _ _=>true) A R c ca
theorem fk2{A:AR ε}{R:α⊕β→CRes}{c:ε→Option (α⊕β)}(h:Lw E f A R c)(hl:m6 E ca):m6 E (fg2 f gd A R c ca):=j3 h xe2 hl
theorem sof{A:AR α}{R:γ→CRes}{c:α→Option γ}{lo:α→f7}(hW:WF E)(hX:SoundX E)(hc:m6 E ca)(hl:∀x,p7 E (lo x))(h:∀x,j8 E ca (lo x) f (A x).1 (A x).2 (fun r=>some (.c r))=(c x).bind fun z=>some (.c (R z))):Lw E f A R c:=fun x z hz=>SC.of hW hX hc (hl x) ((h x).trans (by rw[hz];rfl))
abbrev VI(A:AR α):Prop:=∀{γ:Type} (c:α→Option γ),vf A c=c
theorem vd{A:AR α}(d:TT→α)(h:∀x,d (A x)=x):VI A:=fun c=>vq (fun x y e=>by rw[←h x,←h y,e]) c
noncomputable def lf(b:ACode)(S:α→St)(p:α→Option γ):α→Option γ:=fun y=>eK (fun y=>(b,S y)) p (b,S y)
abbrev VL(S:α→St):Prop:=∀{γ:Type} (b:ACode) (p:α→Option γ),lf b S p=p
theorem vl{S:α→St}(d:St→α)(h:∀x,d (S x)=x):VL S:=fun b p=>y7 (xB b fun x y e=>by rw[←h x,←h y,e]) p
abbrev Ll(E:Env)(b:ACode)(S:α→St)(T:γ→Ex×St)(p:α→Option γ):Prop:=∀y z,p y=some z→SL E b (S y) (T z).1 (T z).2
def w1(T:α→Ex×St)(z:α)(k:KX):Option Ans:=k (T z).1 (T z).2
def w2(T:α⊕β→Ex×St)(z:α⊕β)(k:KX):Option Ans:=Sum.elim (fun a=>w1 (fun a=>T (.inl a)) a k) (fun b=>w1 (fun b=>T (.inr b)) b k) z
def w3(T:α⊕β⊕γ→Ex×St)(z:α⊕β⊕γ)(k:KX):Option Ans:=Sum.elim (fun a=>w1 (fun a=>T (.inl a)) a k) (fun b=>w2 (fun b=>T (.inr b)) b k) z
def w4(T:α⊕β⊕γ⊕δ→Ex×St)(z:α⊕β⊕γ⊕δ)(k:KX):Option Ans:=Sum.elim (fun a=>w1 (fun a=>T (.inl a)) a k) (fun b=>w3 (fun b=>T (.inr b)) b k) z
noncomputable def lt1(id:Nat)(gd:St→Bool)(b:ACode)(S:ε→St)(T:α→Ex×St)(p:ε→Option α)(lo:f7):f7:=ac4 id gd b S (w1 T) p lo
noncomputable def lt2(id:Nat)(gd:St→Bool)(b:ACode)(S:ε→St)(T:α⊕β→Ex×St)(p:ε→Option (α⊕β))(lo:f7):f7:=ac4 id gd b S (w2 T) p lo
noncomputable def lt3(id:Nat)(gd:St→Bool)(b:ACode)(S:ε→St)(T:α⊕β⊕γ→Ex×St)(p:ε→Option (α⊕β⊕γ))(lo:f7):f7:=ac4 id gd b S (w3 T) p lo
noncomputable def lt4(id:Nat)(gd:St→Bool)(b:ACode)(S:ε→St)(T:α⊕β⊕γ⊕δ→Ex×St)(p:ε→Option (α⊕β⊕γ⊕δ))(lo:f7):f7:=ac4 id gd b S (w4 T) p lo
variable {id:Nat} {gs:St→Bool} {b:ACode} {S:ε→St} {lo:f7}
theorem lk1{T:α→Ex×St}{p:ε→Option α}(h:Ll E b S T p)(hl:p7 E lo):p7 E (lt1 id gs b S T p lo):=eO h (fun _ _=>rfl) hl
theorem lk2{T:α⊕β→Ex×St}{p:ε→Option (α⊕β)}(h:Ll E b S T p)(hl:p7 E lo):p7 E (lt2 id gs b S T p lo):=eO h (fun z k=>by rcases z with z|z<;>rfl) hl
theorem lk3{T:α⊕β⊕γ→Ex×St}{p:ε→Option (α⊕β⊕γ)}(h:Ll E b S T p)(hl:p7 E lo):p7 E (lt3 id gs b S T p lo):=eO h (fun z k=>by rcases z with z|z|z<;>rfl) hl
theorem lk4{T:α⊕β⊕γ⊕δ→Ex×St}{p:ε→Option (α⊕β⊕γ⊕δ)}(h:Ll E b S T p)(hl:p7 E lo):p7 E (lt4 id gs b S T p lo):=eO h (fun z k=>by rcases z with z|z|z|z<;>rfl) hl
theorem slp{S:α→St}{T:γ→Ex×St}{st:α→Option (α⊕γ)}{live:Nat}{ms:List (Nat×Nat)}{r:Nat}{c:ACode}(hC:m6 E ca)(hX:SoundX E)
 (tr:∀lo x,r9 E ca lo id live c (S x) (KCM ms r)=(st x).bind fun r'=>Sum.elim (fun y=>lo id live c (S y) (KCM ms r)) (fun z=>some (.l (T z).1 (T z).2)) r')
 (kT:∀z,KCM ms r (T z).1 (T z).2=some (.l (T z).1 (T z).2)) (n:Nat):Ll E c S T (lpG st n):=SL.lp (LT:=fun lo=>lo) hC hX (fun _ h=>h) tr kT n
end
def cb(s:St)(i k:Nat):V:=(chB (s.H i)).getD k .junk
def cc(t:TT)(i k:Nat):V:=(chB (t.2.getD i none)).getD k .junk
def ca(t:TT)(i k:Nat):V:=(vAg (t.1.getD i .junk)).getD k .junk
def ag(t:TT)(i:Nat):V:=t.1.getD i .junk
def co(t:TT)(i:Nat):Option Chunk:=t.2.getD i none
abbrev dRI(c:Option Chunk)(n:Nat):FI:=fun j=>vI ((chF c j).getD n .junk)
abbrev dRS(c:Option Chunk)(n:Nat):FS:=fun j=>vS ((chF c j).getD n .junk)
abbrev dRN(c:Option Chunk)(n:Nat):FN:=fun j=>kP ((chF c j).getD n .junk)
abbrev dRF(c:Option Chunk)(n:Nat):FM:=fun j=>nX ((chF c j).getD n .junk)
end Go.Proofs.YtcijknknahbbnaaGreatDoor
/- The parser, lifted. -/
namespace Go.Proofs.YtcijknknahbbnaaGreatDoor
open Go Go.Am Go.Proofs
set_option maxRecDepth 100000
abbrev g9:V:=.sc (.slice none 0 0)
noncomputable def E5:Env:={P:=Tryz.prog,glob:=br1,ext:=fun _ _=>none,way:=way,lit:=fun _=>false,code:=fun f=>(Tryz.prog.funcs[f]?).bind eq2,sett:=fun _=>true,rows:=true,dfn:=et2,idle:=ac2,inv:=[(1,uL .i64)]}
set_option maxRecDepth 100000 in
theorem hW5:WF E5:=WF.of E5 (fun _=>rfl) (by kernel_rfl) hW.1.1
theorem hX5:SoundX E5:=SoundX.none fun _ _=>rfl
theorem sc5{f:FuncId}{args:List V}{L:List (Option Chunk)}{cr:CRes}:SC E5 f args L cr↔SC E f args L cr:=
 ⟨fun h=>⟨h.1,fun β S w us h1 h2 h3=>h.2 β S w us h1 h2 ⟨h3.rd,h3.inv⟩⟩,fun h=>⟨h.1,fun β S w us h1 h2 h3=>h.2 β S w us h1 h2 ⟨h3.rd,h3.inv⟩⟩⟩
def K:CRes→Option Ans:=fun r=>some (.c r)
abbrev w(n:Int):Int:=IntKind.wrap .i64 n
def jk(n:Nat):List V:=List.replicate n .junk
abbrev wG:Type:=ByteArray×ByteArray
abbrev ad6:Type:=Bool
def vW:AR wG:=fun x=>([st x.1,st x.2],[])
def cy0(t:TT):wG:=(vS (ag t 0),vS (ag t 1))
theorem di6:VI vW:=vd cy0 fun _=>rfl
def bi8:ad6→CRes:=fun z=>.ret (bo z) []
noncomputable def wR(q:Nat)(x:wG):Option ad6:=if x.1.size<4294967281 then some (Lib.contains x.1.data.toList x.2.data.toList)else none
theorem cn9(q:Nat):Lw E5 122 vW bi8 (wR q):=by
 rintro⟨s,u⟩ z h
 unfold wR at h
 split at h
 ·rename_i hn
  cases h
  exact sc5.2 (SC.ext hX (by
   show di1 122 [st s,st u]=_
   simp only[di1,if_pos,st]
   exact if_pos hn))
 ·cases h
abbrev jW:Type:=ByteArray
abbrev kF:Type:=Int×Int×Int×Int×Int×Int×Bool
def cP:AR jW:=fun x=>([st x],[])
def ee1(t:TT):jW:=(vS (ag t 0))
theorem ag5:VI cP:=vd ee1 fun _=>rfl
def qO:kF→CRes:=fun z=>.ret (.tup [.agg [i64 z.1,i64 z.2.1,i64 z.2.2.1,i64 z.2.2.2.1,i64 z.2.2.2.2.1],i64 z.2.2.2.2.2.1,bo z.2.2.2.2.2.2]) []
def uG{β:Type}(x:jW)(dn:kF→Option β):Option β:=
 if(ByteArray.toList ⟨#[74]⟩==x.toList)=true then dn (1,0,0,0,0,1,true)else if(ByteArray.toList ⟨#[107,74]⟩==x.toList)=true then dn (1,0,0,0,0,1000,true)else if(ByteArray.toList ⟨#[87,104]⟩==x.toList)=true then dn (1,0,0,0,0,3600,true)else if(ByteArray.toList ⟨#[66]⟩==x.toList)=true then dn (0,1,0,0,0,1,true)else if(ByteArray.toList ⟨#[107,66]⟩==x.toList)=true then dn (0,1,0,0,0,1000,true)else if(ByteArray.toList ⟨#[115]⟩==x.toList)=true then dn (0,0,1,0,0,1,true)else if(ByteArray.toList ⟨#[109,105,110]⟩==x.toList)=true then dn (0,0,1,0,0,60,true)else if(ByteArray.toList ⟨#[104]⟩==x.toList)=true then dn (0,0,1,0,0,3600,true)else if(ByteArray.toList ⟨#[100,101,103]⟩==x.toList)=true then dn (0,0,0,1,0,1,true)else if(ByteArray.toList ⟨#[75]⟩==x.toList)=true then dn (0,0,0,0,1,1,true)else if(ByteArray.toList ⟨#[87]⟩==x.toList)=true then dn (1,0,(-1),0,0,1,true)else if(ByteArray.toList ⟨#[107,87]⟩==x.toList)=true then dn (1,0,(-1),0,0,1000,true)else if(ByteArray.toList ⟨#[66,112,115]⟩==x.toList)=true then dn (0,1,(-1),0,0,1,true)else dn (0,0,0,0,0,0,false)
theorem ep8{β:Type}(x)(dn:kF→Option β):uG x dn=(uG x some).bind dn:=by
 unfold uG
 repeat' first|exact n0|refine n1 fun _=>?_|refine n2 ?_ ?_|refine n3 (fun _=>?_) fun _=>?_|rfl
theorem ed5(x):j8 E5 ca0 (loU E5 ca0 [0] lo0 20) 20 (cP x).1 (cP x).2 K=uG x (fun z=>some (.c (qO z))):=by kernel_rfl
noncomputable def qH(q:Nat)(x:jW):Option kF:=uG x some
theorem aq5(q:Nat):Lw E5 20 cP qO (qH q):=sof hW5 hX5 a8 (fun _=>(aa9 a8 hX5 b8 20)) fun x=>(ed5 x).trans (by rw[ep8]<;>rfl)
abbrev jF:Type:=ByteArray
abbrev iQ:Type:=Int
def bO:AR jF:=fun x=>([st x],[])
def ea3(t:TT):jF:=(vS (ag t 0))
theorem aq3:VI bO:=vd ea3 fun _=>rfl
def lI:iQ→CRes:=fun z=>.ret (i64 z) []
def oX{β:Type}(x:jF)(dn:iQ→Option β):Option β:=
 if(x.toList==ByteArray.toList ⟨#[124,124]⟩)=true then dn (1)else if(x.toList==ByteArray.toList ⟨#[38,38]⟩)=true then dn (2)else if(x.toList==ByteArray.toList ⟨#[60]⟩)=true then dn (4)else if(x.toList==ByteArray.toList ⟨#[60,61]⟩)=true then dn (4)else if(x.toList==ByteArray.toList ⟨#[62]⟩)=true then dn (4)else if(x.toList==ByteArray.toList ⟨#[62,61]⟩)=true then dn (4)else if(x.toList==ByteArray.toList ⟨#[61,61]⟩)=true then dn (4)else if(x.toList==ByteArray.toList ⟨#[33,61]⟩)=true then dn (4)else if(x.toList==ByteArray.toList ⟨#[43]⟩)=true then dn (5)else if(x.toList==ByteArray.toList ⟨#[45]⟩)=true then dn (5)else if(x.toList==ByteArray.toList ⟨#[42]⟩)=true then dn (6)else if(x.toList==ByteArray.toList ⟨#[47]⟩)=true then dn (6)else dn (0)
theorem dz2{β:Type}(x)(dn:iQ→Option β):oX x dn=(oX x some).bind dn:=by
 unfold oX
 repeat' first|exact n0|refine n1 fun _=>?_|refine n2 ?_ ?_|refine n3 (fun _=>?_) fun _=>?_|rfl
theorem dz5(x):j8 E5 ca0 lo0 151 (bO x).1 (bO x).2 K=oX x (fun z=>some (.c (lI z))):=by kernel_rfl
noncomputable def nZ(q:Nat)(x:jF):Option iQ:=oX x some
theorem dd1(q:Nat):Lw E5 151 bO lI (nZ q):=sof hW5 hX5 a8 (fun _=>b8) fun x=>(dz5 x).trans (by rw[dz2]<;>rfl)
abbrev dY:Type:=Int×SP
abbrev dW:Type:=Int×Int
def q8:AR dY:=fun x=>([.ptr 0 0,i64 x.1],(hHP x.2))
def fi8(t:TT):dY:=((vI (ag t 1)),dHP t.2)
theorem rF:VI q8:=vd fi8 fun _=>rfl
def gI:dW→CRes:=fun z=>.pan (.ifc 67 (.agg [i64 z.1,i64 z.2]))
def ao1{β:Type}(x:dY)(dn:dW→Option β):Option β:=
 if 0≤x.2.1∧x.2.1< ((x.2.2.2.1:Nat):Int)then dn (x.2.2.2.2.2.1 (Int.toNat x.2.1),x.1)else none
theorem fi2{β:Type}(x)(dn:dW→Option β):ao1 x dn=(ao1 x some).bind dn:=by
 unfold ao1
 repeat' first|exact n0|refine n1 fun _=>?_|refine n2 ?_ ?_|refine n3 (fun _=>?_) fun _=>?_|rfl
theorem fi3(x):j8 E5 ca0 lo0 43 (q8 x).1 (q8 x).2 K=ao1 x (fun z=>some (.c (gI z))):=by kernel_rfl
noncomputable def fail(q:Nat)(x:dY):Option dW:=ao1 x some
theorem mE(q:Nat):Lw E5 43 q8 gI (fail q):=sof hW5 hX5 a8 (fun _=>b8) fun x=>(fi3 x).trans (by rw[fi2]<;>rfl)
abbrev v8:Type:=SP
abbrev y5:Type:=Int×Int×ByteArray×Int×SP
def g8:AR v8:=fun x=>([.ptr 0 0],(hHP x))
def fj7(t:TT):v8:=(dHP t.2)
theorem eA:VI g8:=vd fj7 fun _=>rfl
def s6:y5→CRes:=fun z=>.ret (.agg [i64 z.1,i64 z.2.1,st z.2.2.1,i64 z.2.2.2.1]) (hHP z.2.2.2.2)
def au5{β:Type}(x:v8)(dn:y5→Option β):Option β:=
 if 0≤x.1∧x.1< ((x.2.2.1:Nat):Int)then dn (x.2.2.2.1 (Int.toNat x.1),x.2.2.2.2.1 (Int.toNat x.1),x.2.2.2.2.2.1 (Int.toNat x.1),x.2.2.2.2.2.2.1 (Int.toNat x.1),x)else none
theorem fh6{β:Type}(x)(dn:y5→Option β):au5 x dn=(au5 x some).bind dn:=by
 unfold au5
 repeat' first|exact n0|refine n1 fun _=>?_|refine n2 ?_ ?_|refine n3 (fun _=>?_) fun _=>?_|rfl
theorem fj8(x):j8 E5 ca0 lo0 18 (g8 x).1 (g8 x).2 K=au5 x (fun z=>some (.c (s6 z))):=by kernel_rfl
noncomputable def next(q:Nat)(x:v8):Option y5:=au5 x some
theorem gW(q:Nat):Lw E5 18 g8 s6 (next q):=sof hW5 hX5 a8 (fun _=>b8) fun x=>(fj8 x).trans (by rw[fh6]<;>rfl)
abbrev ao2:Type:=ByteArray×SP
abbrev aq4:Type:=Bool×SP
def qQ:AR ao2:=fun x=>([.ptr 0 0,st x.1],(hHP x.2))
def fo6(t:TT):ao2:=((vS (ag t 1)),dHP t.2)
theorem ch0:VI qQ:=vd fo6 fun _=>rfl
def ap0:aq4→CRes:=fun z=>.ret (bo z.1) (hHP z.2)
def dx8{β:Type}(x:ao2)(dn:aq4→Option β):Option β:=
 if 0≤x.2.1∧x.2.1< ((x.2.2.2.1:Nat):Int)then dn (ByteArray.toList (x.2.2.2.2.2.2.1 (Int.toNat x.2.1))==x.1.toList,x.2)else none
theorem fp0{β:Type}(x)(dn:aq4→Option β):dx8 x dn=(dx8 x some).bind dn:=by
 unfold dx8
 repeat' first|exact n0|refine n1 fun _=>?_|refine n2 ?_ ?_|refine n3 (fun _=>?_) fun _=>?_|rfl
theorem fp1(x):j8 E5 ca0 lo0 121 (qQ x).1 (qQ x).2 K=dx8 x (fun z=>some (.c (ap0 z))):=by kernel_rfl
noncomputable def is(q:Nat)(x:ao2):Option aq4:=dx8 x some
theorem bq0(q:Nat):Lw E5 121 qQ ap0 (is q):=sof hW5 hX5 a8 (fun _=>b8) fun x=>(fp1 x).trans (by rw[fp0]<;>rfl)
abbrev iH:Type:=ByteArray×SP
abbrev iG:Type:=Bool×SP
def t0:AR iH:=fun x=>([.ptr 0 0,st x.1],(hHP x.2))
def fk3(t:TT):iH:=((vS (ag t 1)),dHP t.2)
theorem vC:VI t0:=vd fk3 fun _=>rfl
def gG:iG→CRes:=fun z=>.ret (bo z.1) (hHP z.2)
def ao8{β:Type}(c_is:ao2→Option aq4)(x:iH)(dn:iG→Option β):Option β:=
 (c_is x).bind fun z12=>if z12.1=true then dn (true,w (z12.2.1+1),z12.2.2)else dn (false,z12.2)
theorem fd7{β:Type}(c_is)(x)(dn:iG→Option β):ao8 c_is x dn=(ao8 c_is x some).bind dn:=by
 unfold ao8
 repeat' first|exact n0|refine n1 fun _=>?_|refine n2 ?_ ?_|refine n3 (fun _=>?_) fun _=>?_|rfl
theorem fd8(c_is)(x):j8 E5 (ftb 121 qQ ap0 c_is ca0) lo0 84 (t0 x).1 (t0 x).2 K=ao8 (vf qQ c_is) x (fun z=>some (.c (gG z))):=by kernel_rfl
noncomputable def take(q:Nat)(x:iH):Option iG:=ao8 (is q) x some
theorem zI(q:Nat):Lw E5 84 t0 gG (take q):=sof hW5 hX5 (fk (bq0 q) a8) (fun _=>b8) fun x=>(fd8 (is q) x).trans (by rw[ch0,fd7]<;>rfl)
abbrev eU:Type:=ByteArray×SP
abbrev fD:Type:=(SP)⊕(Int×Int)
def p8:AR eU:=fun x=>([.ptr 0 0,st x.1],(hHP x.2))
def fg6(t:TT):eU:=((vS (ag t 1)),dHP t.2)
theorem pY:VI p8:=vd fg6 fun _=>rfl
def eX:fD→CRes:=Sum.elim (fun z:SP=>.ret (.tup []) (hHP z)) (fun z:Int×Int=>.pan (.ifc 67 (.agg [i64 z.1,i64 z.2])))
def au7{β:Type}(c_take:iH→Option iG)(c_fail:dY→Option dW)(x:eU)(dn:fD→Option β):Option β:=
 (c_take x).bind fun z12=>if(!z12.1)=true then(c_fail (11,z12.2)).bind fun z25=>dn (.inr z25)else dn (.inl z12.2)
theorem fd4{β:Type}(c_take c_fail)(x)(dn:fD→Option β):au7 c_take c_fail x dn=(au7 c_take c_fail x some).bind dn:=by
 unfold au7
 repeat' first|exact n0|refine n1 fun _=>?_|refine n2 ?_ ?_|refine n3 (fun _=>?_) fun _=>?_|rfl
theorem fj2(c_take c_fail)(x):j8 E5 (ftb 84 t0 gG c_take (ftb 43 q8 gI c_fail ca0)) lo0 41 (p8 x).1 (p8 x).2 K=au7 (vf t0 c_take) (vf q8 c_fail) x (fun z=>some (.c (eX z))):=by kernel_rfl
noncomputable def iF(q:Nat)(x:eU):Option fD:=au7 (take q) (fail q) x some
theorem mD(q:Nat):Lw E5 41 p8 eX (iF q):=sof hW5 hX5 (fk (zI q) (fk (mE q) a8)) (fun _=>b8) fun x=>(fj2 (take q) (fail q) x).trans (by rw[vC,rF,fd4]<;>rfl)
abbrev mA:Type:=ByteArray×SP
abbrev mC:Type:=(SP)⊕(Int×Int)
def bK:AR mA:=fun x=>([.ptr 0 0,st x.1],(hHP x.2))
def et7(t:TT):mA:=((vS (ag t 1)),dHP t.2)
theorem ai2:VI bK:=vd et7 fun _=>rfl
def kJ:mC→CRes:=Sum.elim (fun z:SP=>.ret (.tup []) (hHP z)) (fun z:Int×Int=>.pan (.ifc 67 (.agg [i64 z.1,i64 z.2])))
def ab3{β:Type}(c_is:ao2→Option aq4)(c_fail:dY→Option dW)(x:mA)(dn:mC→Option β):Option β:=
 (c_is x).bind fun z12=>if(!z12.1)=true then(c_fail (11,z12.2)).bind fun z25=>dn (.inr z25)else if(z12.2.2.1==12)=true then(c_fail (2,z12.2)).bind fun z38=>dn (.inr z38)else dn (.inl (w (z12.2.1+1),w (z12.2.2.1+1),z12.2.2.2))
theorem ev3{β:Type}(c_is c_fail)(x)(dn:mC→Option β):ab3 c_is c_fail x dn=(ab3 c_is c_fail x some).bind dn:=by
 unfold ab3
 repeat' first|exact n0|refine n1 fun _=>?_|refine n2 ?_ ?_|refine n3 (fun _=>?_) fun _=>?_|rfl
theorem ew3(c_is c_fail)(x):j8 E5 (ftb 121 qQ ap0 c_is (ftb 43 q8 gI c_fail ca0)) lo0 87 (bK x).1 (bK x).2 K=ab3 (vf qQ c_is) (vf q8 c_fail) x (fun z=>some (.c (kJ z))):=by kernel_rfl
noncomputable def qD(q:Nat)(x:mA):Option mC:=ab3 (is q) (fail q) x some
theorem bl1(q:Nat):Lw E5 87 bK kJ (qD q):=sof hW5 hX5 (fk (bq0 q) (fk (mE q) a8)) (fun _=>b8) fun x=>(ew3 (is q) (fail q) x).trans (by rw[ch0,rF,ev3]<;>rfl)
abbrev qG:Type:=ByteArray
abbrev qC:Type:=Bool
def lP:AR qG:=fun x=>([st x],[])
def dg8(t:TT):qG:=(vS (ag t 0))
theorem cy6:VI lP:=vd dg8 fun _=>rfl
def ac9:qC→CRes:=fun z=>.ret (bo z) []
def lX{β:Type}(c_Contains:wG→Option ad6)(x:qG)(dn:qC→Option β):Option β:=
 if 1+x.size≤maxLen then if ByteArray.size (⟨#[32]⟩++x)+1≤maxLen then(c_Contains ({data:=List.toArray (List.append [32,112,114,111,99,101,100,117,114,101,32,108,101,116,32,105,102,32,101,108,115,101,32,114,101,112,101,97,116,32,119,97,105,116,32,97,119,97,105,116,32,119,105,116,104,105,110,32,114,101,113,117,105] [114,101,32,112,111,105,110,116,32,117,115,101,32,102,111,114,32,115,101,110,100,32,107,101,101,112,32,101,109,105,116,32,97,98,111,114,116,32,116,114,117,101,32,102,97,108,115,101,32,116,108,109,32])},⟨#[32]⟩++x++⟨#[32]⟩)).bind fun z2=>dn z2 else none else none
theorem dc0{β:Type}(c_Contains)(x)(dn:qC→Option β):lX c_Contains x dn=(lX c_Contains x some).bind dn:=by
 unfold lX
 repeat' first|exact n0|refine n1 fun _=>?_|refine n2 ?_ ?_|refine n3 (fun _=>?_) fun _=>?_|rfl
theorem dg4(c_Contains)(x):j8 E5 (ftb 122 vW bi8 c_Contains ca0) lo0 85 (lP x).1 (lP x).2 K=lX (vf vW c_Contains) x (fun z=>some (.c (ac9 z))):=by kernel_rfl
noncomputable def xT(q:Nat)(x:qG):Option qC:=lX (wR q) x some
theorem cq7(q:Nat):Lw E5 85 lP ac9 (xT q):=sof hW5 hX5 (fk (cn9 q) a8) (fun _=>b8) fun x=>(dg4 (wR q) x).trans (by rw[di6,dc0]<;>rfl)
abbrev nN:Type:=SP
abbrev nT:Type:=(ByteArray×SP)⊕(Int×Int)
def dF:AR nN:=fun x=>([.ptr 0 0],(hHP x))
def fh8(t:TT):nN:=(dHP t.2)
theorem au8:VI dF:=vd fh8 fun _=>rfl
def rA:nT→CRes:=Sum.elim (fun z:ByteArray×SP=>.ret (st z.1) (hHP z.2)) (fun z:Int×Int=>.pan (.ifc 67 (.agg [i64 z.1,i64 z.2])))
def ao9{β:Type}(c_next:v8→Option y5)(c_reserved:qG→Option qC)(c_fail:dY→Option dW)(x:nN)(dn:nT→Option β):Option β:=
 (c_next x).bind fun z11=>if(z11.1 !=1)=true then(c_fail (11,z11.2.2.2.2)).bind fun z24=>dn (.inr z24)else(c_reserved z11.2.2.1).bind fun z26=>if z26=true then(c_fail (11,z11.2.2.2.2)).bind fun z39=>dn (.inr z39)else dn (.inl (z11.2.2.1,w (z11.2.2.2.2.1+1),z11.2.2.2.2.2))
theorem fj0{β:Type}(c_next c_reserved c_fail)(x)(dn:nT→Option β):ao9 c_next c_reserved c_fail x dn=(ao9 c_next c_reserved c_fail x some).bind dn:=by
 unfold ao9
 repeat' first|exact n0|refine n1 fun _=>?_|refine n2 ?_ ?_|refine n3 (fun _=>?_) fun _=>?_|rfl
theorem fd1(c_next c_reserved c_fail)(x):j8 E5 (ftb 18 g8 s6 c_next (ftb 85 lP ac9 c_reserved (ftb 43 q8 gI c_fail ca0))) lo0 42 (dF x).1 (dF x).2 K=ao9 (vf g8 c_next) (vf lP c_reserved) (vf q8 c_fail) x (fun z=>some (.c (rA z))):=by kernel_rfl
noncomputable def name(q:Nat)(x:nN):Option nT:=ao9 (next q) (xT q) (fail q) x some
theorem zU(q:Nat):Lw E5 42 dF rA (name q):=sof hW5 hX5 (fk (gW q) (fk (cq7 q) (fk (mE q) a8))) (fun _=>b8) fun x=>(fd1 (next q) (xT q) (fail q) x).trans (by rw[eA,cy6,rF,fj0]<;>rfl)
abbrev r8:Type:=SP
abbrev gF:Type:=(ByteArray×SP)⊕(Int×Int)
def aV:AR r8:=fun x=>([.ptr 0 0],(hHP x))
def dv9(t:TT):r8:=(dHP t.2)
theorem aa8:VI aV:=vd dv9 fun _=>rfl
def lV:gF→CRes:=Sum.elim (fun z:ByteArray×SP=>.ret (st z.1) (hHP z.2)) (fun z:Int×Int=>.pan (.ifc 67 (.agg [i64 z.1,i64 z.2])))
abbrev dI:Type:=ByteArray×Nat×Int×Nat×FI×FI×FS×FI×Int×Int×Nat×FS×FS×Int
abbrev oC:Type:=(Int×Int)⊕(ByteArray×SC2)
def fO(x:r8)(y:dI):St:={fr:=[V.ptr 0 0,V.junk,V.junk,st y.1]++jk 14++[V.sl 1 1 0 y.2.1,i64 y.2.2.1,i64 y.2.2.2.2.2.2.2.2.2.2.2.2.2]++jk 35,H:=hp [some (Chunk.blk [V.ro 4 y.2.2.2.1 fun j=>[i64 (y.2.2.2.2.1 j),i64 (y.2.2.2.2.2.1 j),st (y.2.2.2.2.2.2.1 j),i64 (y.2.2.2.2.2.2.2.1 j)],i64 y.2.2.2.2.2.2.2.2.1,i64 y.2.2.2.2.2.2.2.2.2.1,V.sl 1 1 0 y.2.1,V.sl 2 1 0 y.2.2.2.2.2.2.2.2.2.2.1]),some (Chunk.row 9 1 y.2.1 fun j=>[st (y.2.2.2.2.2.2.2.2.2.2.2.1 j)]),some (Chunk.row 9 1 y.2.2.2.2.2.2.2.2.2.2.1 fun j=>[st (y.2.2.2.2.2.2.2.2.2.2.2.2.1 j)])],nx:=3,rt:=1,me:=86}
def cb2(s:St):dI:=((vS (s.fr.getD 3 .junk)),fE (s.fr.getD 18 .junk),vI (s.fr.getD 19 .junk),kP (cb s 0 0),dTI (cb s 0 0) 0,dTI (cb s 0 0) 1,dTS (cb s 0 0) 2,dTI (cb s 0 0) 3,vI (cb s 0 1),vI (cb s 0 2),fE (cb s 0 4),dRS (s.H 1) 0,dRS (s.H 2) 0,vI (s.fr.getD 20 .junk))
theorem bw0(x:r8):VL (fO x):=vl cb2 fun _=>rfl
def oL(x:r8):oC→Ex×St:=(Sum.elim (fun z=>(Ex.panic (V.ifc 67 (V.agg [i64 z.1,i64 z.2])),{fr:=[V.junk]++jk 55,H:=hp [none],nx:=1,rt:=1,me:=86})) (fun z=>(Ex.exit 0,{fr:=[V.ptr 0 0,V.junk,V.junk,st z.1]++jk 52,H:=hp [some (hPB z.2),some (hPV z.2),some (ev6 z.2)],nx:=3,rt:=1,me:=86})))
def bR{β:Type}(c_name:nN→Option nT)(c_fail:dY→Option dW)(x:r8)(y:dI)(nx:dI→Option β)(dn:oC→Option β):Option β:=
 if decide (y.2.2.2.2.2.2.2.2.2.2.2.2.2<y.2.2.1)=true then if 0≤y.2.2.2.2.2.2.2.2.2.2.2.2.2∧y.2.2.2.2.2.2.2.2.2.2.2.2.2< ((y.2.1:Nat):Int)then if 0+Int.toNat y.2.2.2.2.2.2.2.2.2.2.2.2.2<y.2.1∧1=1 then if(ByteArray.toList (y.2.2.2.2.2.2.2.2.2.2.2.1 (0+Int.toNat y.2.2.2.2.2.2.2.2.2.2.2.2.2))==y.1.toList)=true then(c_fail (4,y.2.2.2.2.2.2.2.2.1,y.2.2.2.2.2.2.2.2.2.1,y.2.2.2.1,y.2.2.2.2.1,y.2.2.2.2.2.1,y.2.2.2.2.2.2.1,y.2.2.2.2.2.2.2.1,y.2.1,y.2.2.2.2.2.2.2.2.2.2.2.1,y.2.2.2.2.2.2.2.2.2.2.1,y.2.2.2.2.2.2.2.2.2.2.2.2.1)).bind fun z162=>dn (.inl z162)else nx (y.1,y.2.1,y.2.2.1,y.2.2.2.1,y.2.2.2.2.1,y.2.2.2.2.2.1,y.2.2.2.2.2.2.1,y.2.2.2.2.2.2.2.1,y.2.2.2.2.2.2.2.2.1,y.2.2.2.2.2.2.2.2.2.1,y.2.2.2.2.2.2.2.2.2.2.1,y.2.2.2.2.2.2.2.2.2.2.2.1,y.2.2.2.2.2.2.2.2.2.2.2.2.1,w (y.2.2.2.2.2.2.2.2.2.2.2.2.2+1))else none else none else dn (.inr (y.1,y.2.2.2.1,y.2.2.2.2.1,y.2.2.2.2.2.1,y.2.2.2.2.2.2.1,y.2.2.2.2.2.2.2.1,y.2.2.2.2.2.2.2.2.1,y.2.2.2.2.2.2.2.2.2.1,y.2.1,y.2.2.2.2.2.2.2.2.2.2.1,y.2.2.2.2.2.2.2.2.2.2.2.1,y.2.2.2.2.2.2.2.2.2.2.2.2.1))
theorem bv5{β:Type}(c_name c_fail)(x)(y)(nx:dI→Option β)(dn):bR c_name c_fail x y nx dn=(bR c_name c_fail x y (fun y=>some (.inl y)) (fun z=>some (.inr z))).bind fun r=>Sum.elim nx dn r:=by
 unfold bR
 repeat' first|exact n0|refine n1 fun _=>?_|refine n2 ?_ ?_|refine n3 (fun _=>?_) fun _=>?_|rfl
theorem ce7(c_name c_fail)(x)(y)(lo:f7):r9 E5 (ft2 42 dF rA c_name (ftb 43 q8 gI c_fail ca0)) lo 0 1835017 (b6 E5 86 0) (fO x y) (KCM [(0,9)] 4)=bR (vf dF c_name) (vf q8 c_fail) x y (fun y=>lo 0 1835017 (b6 E5 86 0) (fO x y) (KCM [(0,9)] 4)) (fun z=>some (.l (oL x z).1 (oL x z).2)):=by kernel_rfl
noncomputable def wE(c_name:nN→Option nT)(c_fail:dY→Option dW)(q:Nat)(x:r8):dI→Option oC:=lpG (fun y=>bR c_name c_fail x y (fun y=>some (.inl y)) (fun z=>some (.inr z))) q
theorem bv2(c_name)(h_name:Lw E5 42 dF rA c_name)(c_fail)(h_fail:Lw E5 43 q8 gI c_fail)(q:Nat)(x:r8):Ll E5 (b6 E5 86 0) (fO x) (oL x) (wE c_name c_fail q x):=
 slp (fk2 h_name (fk h_fail a8)) hX5 (fun lo y=>(ce7 c_name c_fail x y lo).trans (by rw[au8,rF];exact bv5 _ _ _ _ _ _)) (fun z=>by rcases z with z|z<;>kernel_rfl) q
def pK{β:Type}(c_name:nN→Option nT)(c_fail:dY→Option dW)(l_declare_l0:dI→Option oC)(x:r8)(dn:gF→Option β):Option β:=
 (c_name x).bind fun z11=>Sum.elim (fun z11a=>(l_declare_l0 (z11a.1,z11a.2.2.2.2.2.2.2.2.1,((z11a.2.2.2.2.2.2.2.2.1:Nat):Int),z11a.2.2.2.1,z11a.2.2.2.2.1,z11a.2.2.2.2.2.1,z11a.2.2.2.2.2.2.1,z11a.2.2.2.2.2.2.2.1,w (z11a.2.1-1),z11a.2.2.1,z11a.2.2.2.2.2.2.2.2.2.2.1,z11a.2.2.2.2.2.2.2.2.2.1,z11a.2.2.2.2.2.2.2.2.2.2.2,0)).bind fun z108=>Sum.elim (fun z108a=>dn (.inr z108a)) (fun z108b=>if(((z108b.2.2.2.2.2.2.2.2.1:Nat):Int)==12)=true then(c_fail (2,z108b.2.2.2.2.2.2.1,z108b.2.2.2.2.2.2.2.1,z108b.2.1,z108b.2.2.1,z108b.2.2.2.1,z108b.2.2.2.2.1,z108b.2.2.2.2.2.1,z108b.2.2.2.2.2.2.2.2.1,z108b.2.2.2.2.2.2.2.2.2.2.1,z108b.2.2.2.2.2.2.2.2.2.1,z108b.2.2.2.2.2.2.2.2.2.2.2)).bind fun z122=>dn (.inr z122)else if(z108b.2.2.2.2.2.2.2.2.1+1)*16≤d9∧z108b.2.2.2.2.2.2.2.2.1+1≤maxLen∧z108b.2.2.2.2.2.2.2.2.1≤z108b.2.2.2.2.2.2.2.2.1 then dn (.inl (z108b.1,w (z108b.2.2.2.2.2.2.1+1),z108b.2.2.2.2.2.2.2.1,z108b.2.1,z108b.2.2.1,z108b.2.2.2.1,z108b.2.2.2.2.1,z108b.2.2.2.2.2.1,z108b.2.2.2.2.2.2.2.2.1+1,fun j=>if j<z108b.2.2.2.2.2.2.2.2.1 then z108b.2.2.2.2.2.2.2.2.2.2.1 j else z108b.1,z108b.2.2.2.2.2.2.2.2.2.1,z108b.2.2.2.2.2.2.2.2.2.2.2))else none) z108) (fun z11b=>dn (.inr z11b)) z11
theorem ea8{β:Type}(c_name c_fail)(l_declare_l0)(x)(dn:gF→Option β):pK c_name c_fail l_declare_l0 x dn=(pK c_name c_fail l_declare_l0 x some).bind dn:=by
 unfold pK
 repeat' first|exact n0|refine n1 fun _=>?_|refine n2 ?_ ?_|refine n3 (fun _=>?_) fun _=>?_|rfl
theorem ea6(c_name c_fail)(l_declare_l0)(x):j8 E5 (ft2 42 dF rA c_name (ftb 43 q8 gI c_fail ca0)) (lt2 0 (fun _=>true) (b6 E5 86 0) (fO x) (oL x) l_declare_l0 lo0) 86 (aV x).1 (aV x).2 K=pK (vf dF c_name) (vf q8 c_fail) (lf (b6 E5 86 0) (fO x) l_declare_l0) x (fun z=>some (.c (lV z))):=by kernel_rfl
noncomputable def jY(q:Nat)(x:r8):Option gF:=pK (name q) (fail q) (wE (name q) (fail q) q x) x some
theorem ad0(q:Nat):Lw E5 86 aV lV (jY q):=sof hW5 hX5 (fk2 (zU q) (fk (mE q) a8)) (fun x=>(lk2 (bv2 (name q) (zU q) (fail q) (mE q) q x) b8)) fun x=>(ea6 (name q) (fail q) (wE (name q) (fail q) q x) x).trans (by rw[au8,rF,bw0,ea8]<;>rfl)
abbrev qB:Type:=Int×Int×SP
abbrev qL:Type:=(Int×SP)⊕(Int×Int)
def eP:AR qB:=fun x=>([.ptr 0 0,i64 x.1,i64 x.2.1],(hHP x.2.2))
def ef9(t:TT):qB:=((vI (ag t 1)),vI (ag t 2),dHP t.2)
theorem bd8:VI eP:=vd ef9 fun _=>rfl
def tW:qL→CRes:=Sum.elim (fun z:Int×SP=>.ret (i64 z.1) (hHP z.2)) (fun z:Int×Int=>.pan (.ifc 67 (.agg [i64 z.1,i64 z.2])))
def tB{β:Type}(c_next:v8→Option y5)(c_fail:dY→Option dW)(x:qB)(dn:qL→Option β):Option β:=
 (c_next x.2.2).bind fun z11=>if(z11.1 !=2)=true then(c_fail (11,z11.2.2.2.2)).bind fun z24=>dn (.inr z24)else if decide (z11.2.2.2.1<x.1)=true then(c_fail (5,z11.2.2.2.2)).bind fun z37=>dn (.inr z37)else if decide (z11.2.2.2.1>x.2.1)=true then(c_fail (5,z11.2.2.2.2)).bind fun z50=>dn (.inr z50)else dn (.inl (z11.2.2.2.1,w (z11.2.2.2.2.1+1),z11.2.2.2.2.2))
theorem ee8{β:Type}(c_next c_fail)(x)(dn:qL→Option β):tB c_next c_fail x dn=(tB c_next c_fail x some).bind dn:=by
 unfold tB
 repeat' first|exact n0|refine n1 fun _=>?_|refine n2 ?_ ?_|refine n3 (fun _=>?_) fun _=>?_|rfl
theorem ej5(c_next c_fail)(x):j8 E5 (ftb 18 g8 s6 c_next (ftb 43 q8 gI c_fail ca0)) lo0 142 (eP x).1 (eP x).2 K=tB (vf g8 c_next) (vf q8 c_fail) x (fun z=>some (.c (tW z))):=by kernel_rfl
noncomputable def nM(q:Nat)(x:qB):Option qL:=tB (next q) (fail q) x some
theorem ap5(q:Nat):Lw E5 142 eP tW (nM q):=sof hW5 hX5 (fk (gW q) (fk (mE q) a8)) (fun _=>b8) fun x=>(ej5 (next q) (fail q) x).trans (by rw[eA,rF,ee8]<;>rfl)
end Go.Proofs.YtcijknknahbbnaaGreatDoor
/- The lexers, lifted. -/
namespace Go.Proofs.YtcijknknahbbnaaGreatDoor
open Go Go.Am Go.Proofs
set_option maxRecDepth 100000
def du5:V→Nat| .fn g _=>g|_=>0
abbrev i32(n:Int):V:=.sc (.int .i32 n)
abbrev u8(n:Int):V:=.sc (.int .u8 n)
abbrev sA:Type:=ByteArray×Int
abbrev xC:Type:=Int
def sF:AR sA:=fun x=>([st x.1,u8 x.2],[])
def cu2(t:TT):sA:=(vS (ag t 0),vI (ag t 1))
theorem ci9:VI sF:=vd cu2 fun _=>rfl
def ax4:xC→CRes:=fun z=>.ret (i64 z) []
noncomputable def uA(q:Nat)(x:sA):Option xC:=some (Lib.indexByte x.1.data.toList (UInt8.ofNat x.2.toNat))
theorem by6(q:Nat):Lw E5 83 sF ax4 (uA q):=by
 rintro⟨s,c⟩ z h
 cases h
 exact sc5.2 (SC.ext hX rfl)
abbrev jO:Type:=Int
abbrev jZ:Type:=Bool
def cO:AR jO:=fun x=>([i32 x],[])
def ec2(t:TT):jO:=(vI (ag t 0))
theorem am5:VI cO:=vd ec2 fun _=>rfl
def qW:jZ→CRes:=fun z=>.ret (bo z) []
def tM{β:Type}(x:jO)(dn:jZ→Option β):Option β:=
 if decide (x≥97)=true then if decide (x≤122)=true then dn true else if decide (x≥65)=true then dn (decide (x≤90))else dn false else if decide (x≥65)=true then dn (decide (x≤90))else dn false
theorem eb8{β:Type}(x)(dn:jZ→Option β):tM x dn=(tM x some).bind dn:=by
 unfold tM
 repeat' first|exact n0|refine n1 fun _=>?_|refine n2 ?_ ?_|refine n3 (fun _=>?_) fun _=>?_|rfl
theorem en6(x):j8 E5 ca0 lo0 36 (cO x).1 (cO x).2 K=tM x (fun z=>some (.c (qW z))):=by kernel_rfl
noncomputable def kW(q:Nat)(x:jO):Option jZ:=tM x some
theorem au1(q:Nat):Lw E5 36 cO qW (kW q):=sof hW5 hX5 a8 (fun _=>b8) fun x=>(en6 x).trans (by rw[eb8]<;>rfl)
abbrev gV:Type:=Int
abbrev gX:Type:=Bool
def bJ:AR gV:=fun x=>([i32 x],[])
def ew0(t:TT):gV:=(vI (ag t 0))
theorem zB:VI bJ:=vd ew0 fun _=>rfl
def mB:gX→CRes:=fun z=>.ret (bo z) []
def ab7{β:Type}(x:gV)(dn:gX→Option β):Option β:=
 if decide (x≥48)=true then dn (decide (x≤57))else dn false
theorem ex3{β:Type}(x)(dn:gX→Option β):ab7 x dn=(ab7 x some).bind dn:=by
 unfold ab7
 repeat' first|exact n0|refine n1 fun _=>?_|refine n2 ?_ ?_|refine n3 (fun _=>?_) fun _=>?_|rfl
theorem ez2(x):j8 E5 ca0 lo0 38 (bJ x).1 (bJ x).2 K=ab7 x (fun z=>some (.c (mB z))):=by kernel_rfl
noncomputable def kB(q:Nat)(x:gV):Option gX:=ab7 x some
theorem yB(q:Nat):Lw E5 38 bJ mB (kB q):=sof hW5 hX5 a8 (fun _=>b8) fun x=>(ez2 x).trans (by rw[ex3]<;>rfl)
abbrev vJ:Type:=Int
abbrev uT:Type:=Bool
def oA:AR vJ:=fun x=>([i32 x],[])
def ey4(t:TT):vJ:=(vI (ag t 0))
theorem dm6:VI oA:=vd ey4 fun _=>rfl
def ah9:uT→CRes:=fun z=>.ret (bo z) []
def ah4{β:Type}(x:vJ)(dn:uT→Option β):Option β:=
 dn (x !=10)
theorem eu5{β:Type}(x)(dn:uT→Option β):ah4 x dn=(ah4 x some).bind dn:=by
 unfold ah4
 repeat' first|exact n0|refine n1 fun _=>?_|refine n2 ?_ ?_|refine n3 (fun _=>?_) fun _=>?_|rfl
theorem ey6(x):j8 E5 ca0 lo0 35 (oA x).1 (oA x).2 K=ah4 x (fun z=>some (.c (ah9 z))):=by kernel_rfl
noncomputable def av7(q:Nat)(x:vJ):Option uT:=ah4 x some
theorem cm9(q:Nat):Lw E5 35 oA ah9 (av7 q):=sof hW5 hX5 a8 (fun _=>b8) fun x=>(ey6 x).trans (by rw[eu5]<;>rfl)
abbrev vN:Type:=Int
abbrev uX:Type:=Bool
def oS:AR vN:=fun x=>([i32 x],[])
def fa3(t:TT):vN:=(vI (ag t 0))
theorem dk5:VI oS:=vd fa3 fun _=>rfl
def aj8:uX→CRes:=fun z=>.ret (bo z) []
def ab6{β:Type}(c_letter:jO→Option jZ)(c_digit:gV→Option gX)(x:vN)(dn:uX→Option β):Option β:=
 (c_letter x).bind fun z1=>if z1=true then dn true else(c_digit x).bind fun z3=>dn z3
theorem ez4{β:Type}(c_letter c_digit)(x)(dn:uX→Option β):ab6 c_letter c_digit x dn=(ab6 c_letter c_digit x some).bind dn:=by
 unfold ab6
 repeat' first|exact n0|refine n1 fun _=>?_|refine n2 ?_ ?_|refine n3 (fun _=>?_) fun _=>?_|rfl
theorem eu3(c_letter c_digit)(x):j8 E5 (ftb 36 cO qW c_letter (ftb 38 bJ mB c_digit ca0)) lo0 82 (oS x).1 (oS x).2 K=ab6 (vf cO c_letter) (vf bJ c_digit) x (fun z=>some (.c (aj8 z))):=by kernel_rfl
noncomputable def ah3(q:Nat)(x:vN):Option uX:=ab6 (kW q) (kB q) x some
theorem ch7(q:Nat):Lw E5 82 oS aj8 (ah3 q):=sof hW5 hX5 (fk (au1 q) (fk (yB q) a8)) (fun _=>b8) fun x=>(eu3 (kW q) (kB q) x).trans (by rw[am5,zB,ez4]<;>rfl)
abbrev eJ:Type:=ByteArray
abbrev rU:Type:=Int
def kA:AR eJ:=fun x=>([st x,.fn 35 []],[])
def ev2(t:TT):eJ:=(vS (ag t 0))
theorem bz0:VI kA:=vd ev2 fun _=>rfl
def zZ:rU→CRes:=fun z=>.ret (i64 z) []
abbrev eN:Type:=Nat
abbrev rD:Type:=(Int)⊕(Unit)
def lE(x:eJ)(y:eN):St:={fr:=[st x,V.fn 35 []]++jk 6++[V.ptr 0 0]++jk 11,H:=hp [some (Chunk.iter x y)],nx:=1,rt:=0,me:=34}
def de2(s:St):eN:=(chP (s.H 0))
theorem df2(x:eJ):VL (lE x):=vl de2 fun _=>rfl
def wH(x:eJ):rD→Ex×St:=(Sum.elim (fun z=>(Ex.ret,{fr:=jk 4++[i64 z]++jk 15,H:=hp [],nx:=0,rt:=0,me:=34})) (fun z=>(Ex.exit 0,{fr:=[st x]++jk 19,H:=hp [],nx:=0,rt:=0,me:=34})))
def iA{β:Type}(c_notLf:vJ→Option uT)(x:eJ)(y:eN)(nx:eN→Option β)(dn:rD→Option β):Option β:=
 if y<x.size then(c_notLf ((Prod.fst (Utf8.decode x y):Nat):Int)).bind fun z14=>if(!z14)=true then dn (.inl ((y:Nat):Int))else nx (y+Prod.snd (Utf8.decode x y))else dn (.inr ())
theorem di9{β:Type}(c_notLf)(x)(y)(nx:eN→Option β)(dn):iA c_notLf x y nx dn=(iA c_notLf x y (fun y=>some (.inl y)) (fun z=>some (.inr z))).bind fun r=>Sum.elim nx dn r:=by
 unfold iA
 repeat' first|exact n0|refine n1 fun _=>?_|refine n2 ?_ ?_|refine n3 (fun _=>?_) fun _=>?_|rfl
theorem dg7(c_notLf)(x)(y)(lo:f7):r9 E5 (ftb 35 oA ah9 c_notLf ca0) lo 0 259 (b6 E5 34 0) (lE x y) (KCM [(0,1)] 16)=iA (vf oA c_notLf) x y (fun y=>lo 0 259 (b6 E5 34 0) (lE x y) (KCM [(0,1)] 16)) (fun z=>some (.l (wH x z).1 (wH x z).2)):=by kernel_rfl
noncomputable def ah7(c_notLf:vJ→Option uT)(q:Nat)(x:eJ):eN→Option rD:=lpG (fun y=>iA c_notLf x y (fun y=>some (.inl y)) (fun z=>some (.inr z))) q
theorem dj0(c_notLf)(h_notLf:Lw E5 35 oA ah9 c_notLf)(q:Nat)(x:eJ):Ll E5 (b6 E5 34 0) (lE x) (wH x) (ah7 c_notLf q x):=
 slp (fk h_notLf a8) hX5 (fun lo y=>(dg7 c_notLf x y lo).trans (by rw[dm6];exact di9 _ _ _ _ _)) (fun z=>by rcases z with z|z<;>kernel_rfl) q
def zR{β:Type}(c_notLf:vJ→Option uT)(l_spanN_l0:eN→Option rD)(x:eJ)(dn:rU→Option β):Option β:=
 (l_spanN_l0 (0)).bind fun z8=>Sum.elim (fun z8a=>dn z8a) (fun z8b=>dn (x.size:Int)) z8
theorem ez8{β:Type}(c_notLf)(l_spanN_l0)(x)(dn:rU→Option β):zR c_notLf l_spanN_l0 x dn=(zR c_notLf l_spanN_l0 x some).bind dn:=by
 unfold zR
 repeat' first|exact n0|refine n1 fun _=>?_|refine n2 ?_ ?_|refine n3 (fun _=>?_) fun _=>?_|rfl
theorem fb4(c_notLf)(l_spanN_l0)(x):j8 E5 (ftb 35 oA ah9 c_notLf ca0) (lt2 0 (fun _=>true) (b6 E5 34 0) (lE x) (wH x) l_spanN_l0 lo0) 34 (kA x).1 (kA x).2 K=zR (vf oA c_notLf) (lf (b6 E5 34 0) (lE x) l_spanN_l0) x (fun z=>some (.c (zZ z))):=by kernel_rfl
noncomputable def yC(q:Nat)(x:eJ):Option rU:=zR (av7 q) (ah7 (av7 q) q x) x some
theorem co7(q:Nat):Lw E5 34 kA zZ (yC q):=sof hW5 hX5 (fk (cm9 q) a8) (fun x=>(lk2 (dj0 (av7 q) (cm9 q) q x) b8)) fun x=>(fb4 (av7 q) (ah7 (av7 q) q x) x).trans (by rw[dm6,df2,ez8]<;>rfl)
abbrev gE:Type:=ByteArray
abbrev vR:Type:=Int
def oR:AR gE:=fun x=>([st x,.fn 38 []],[])
def ez3(t:TT):gE:=(vS (ag t 0))
theorem dk8:VI oR:=vd ez3 fun _=>rfl
def an1:vR→CRes:=fun z=>.ret (i64 z) []
abbrev eZ:Type:=Nat
abbrev qT:Type:=(Int)⊕(Unit)
def lO(x:gE)(y:eZ):St:={fr:=[st x,V.fn 38 []]++jk 6++[V.ptr 0 0]++jk 11,H:=hp [some (Chunk.iter x y)],nx:=1,rt:=0,me:=34}
def cy1(s:St):eZ:=(chP (s.H 0))
theorem de5(x:gE):VL (lO x):=vl cy1 fun _=>rfl
def vH(x:gE):qT→Ex×St:=(Sum.elim (fun z=>(Ex.ret,{fr:=jk 4++[i64 z]++jk 15,H:=hp [],nx:=0,rt:=0,me:=34})) (fun z=>(Ex.exit 0,{fr:=[st x]++jk 19,H:=hp [],nx:=0,rt:=0,me:=34})))
def iC{β:Type}(c_digit:gV→Option gX)(x:gE)(y:eZ)(nx:eZ→Option β)(dn:qT→Option β):Option β:=
 if y<x.size then(c_digit ((Prod.fst (Utf8.decode x y):Nat):Int)).bind fun z14=>if(!z14)=true then dn (.inl ((y:Nat):Int))else nx (y+Prod.snd (Utf8.decode x y))else dn (.inr ())
theorem cz3{β:Type}(c_digit)(x)(y)(nx:eZ→Option β)(dn):iC c_digit x y nx dn=(iC c_digit x y (fun y=>some (.inl y)) (fun z=>some (.inr z))).bind fun r=>Sum.elim nx dn r:=by
 unfold iC
 repeat' first|exact n0|refine n1 fun _=>?_|refine n2 ?_ ?_|refine n3 (fun _=>?_) fun _=>?_|rfl
theorem cy8(c_digit)(x)(y)(lo:f7):r9 E5 (ftb 38 bJ mB c_digit ca0) lo 0 259 (b6 E5 34 0) (lO x y) (KCM [(0,1)] 16)=iC (vf bJ c_digit) x y (fun y=>lo 0 259 (b6 E5 34 0) (lO x y) (KCM [(0,1)] 16)) (fun z=>some (.l (vH x z).1 (vH x z).2)):=by kernel_rfl
noncomputable def ak8(c_digit:gV→Option gX)(q:Nat)(x:gE):eZ→Option qT:=lpG (fun y=>iC c_digit x y (fun y=>some (.inl y)) (fun z=>some (.inr z))) q
theorem dh4(c_digit)(h_digit:Lw E5 38 bJ mB c_digit)(q:Nat)(x:gE):Ll E5 (b6 E5 34 0) (lO x) (vH x) (ak8 c_digit q x):=
 slp (fk h_digit a8) hX5 (fun lo y=>(cy8 c_digit x y lo).trans (by rw[zB];exact cz3 _ _ _ _ _)) (fun z=>by rcases z with z|z<;>kernel_rfl) q
def zX{β:Type}(c_digit:gV→Option gX)(l_spanD_l0:eZ→Option qT)(x:gE)(dn:vR→Option β):Option β:=
 (l_spanD_l0 (0)).bind fun z8=>Sum.elim (fun z8a=>dn z8a) (fun z8b=>dn (x.size:Int)) z8
theorem es7{β:Type}(c_digit)(l_spanD_l0)(x)(dn:vR→Option β):zX c_digit l_spanD_l0 x dn=(zX c_digit l_spanD_l0 x some).bind dn:=by
 unfold zX
 repeat' first|exact n0|refine n1 fun _=>?_|refine n2 ?_ ?_|refine n3 (fun _=>?_) fun _=>?_|rfl
theorem fb0(c_digit)(l_spanD_l0)(x):j8 E5 (ftb 38 bJ mB c_digit ca0) (lt2 0 (fun _=>true) (b6 E5 34 0) (lO x) (vH x) l_spanD_l0 lo0) 34 (oR x).1 (oR x).2 K=zX (vf bJ c_digit) (lf (b6 E5 34 0) (lO x) l_spanD_l0) x (fun z=>some (.c (an1 z))):=by kernel_rfl
noncomputable def ac1(q:Nat)(x:gE):Option vR:=zX (kB q) (ak8 (kB q) q x) x some
theorem cq9(q:Nat):Lw E5 34 oR an1 (ac1 q):=sof hW5 hX5 (fk (yB q) a8) (fun x=>(lk2 (dh4 (kB q) (yB q) q x) b8)) fun x=>(fb0 (kB q) (ak8 (kB q) q x) x).trans (by rw[zB,de5,es7]<;>rfl)
abbrev jQ:Type:=ByteArray
abbrev ai0:Type:=Int
def ab2:AR jQ:=fun x=>([st x,.fn 82 []],[])
def ey9(t:TT):jQ:=(vS (ag t 0))
theorem es0:VI ab2:=vd ey9 fun _=>rfl
def bx5:ai0→CRes:=fun z=>.ret (i64 z) []
abbrev eS:Type:=Nat
abbrev qY:Type:=(Int)⊕(Unit)
def lD(x:jQ)(y:eS):St:={fr:=[st x,V.fn 82 []]++jk 6++[V.ptr 0 0]++jk 11,H:=hp [some (Chunk.iter x y)],nx:=1,rt:=0,me:=34}
def dd5(s:St):eS:=(chP (s.H 0))
theorem dd9(x:jQ):VL (lD x):=vl dd5 fun _=>rfl
def vK(x:jQ):qY→Ex×St:=(Sum.elim (fun z=>(Ex.ret,{fr:=jk 4++[i64 z]++jk 15,H:=hp [],nx:=0,rt:=0,me:=34})) (fun z=>(Ex.exit 0,{fr:=[st x]++jk 19,H:=hp [],nx:=0,rt:=0,me:=34})))
def iJ{β:Type}(c_wordC:vN→Option uX)(x:jQ)(y:eS)(nx:eS→Option β)(dn:qY→Option β):Option β:=
 if y<x.size then(c_wordC ((Prod.fst (Utf8.decode x y):Nat):Int)).bind fun z14=>if(!z14)=true then dn (.inl ((y:Nat):Int))else nx (y+Prod.snd (Utf8.decode x y))else dn (.inr ())
theorem da9{β:Type}(c_wordC)(x)(y)(nx:eS→Option β)(dn):iJ c_wordC x y nx dn=(iJ c_wordC x y (fun y=>some (.inl y)) (fun z=>some (.inr z))).bind fun r=>Sum.elim nx dn r:=by
 unfold iJ
 repeat' first|exact n0|refine n1 fun _=>?_|refine n2 ?_ ?_|refine n3 (fun _=>?_) fun _=>?_|rfl
theorem cy9(c_wordC)(x)(y)(lo:f7):r9 E5 (ftb 82 oS aj8 c_wordC ca0) lo 0 259 (b6 E5 34 0) (lD x y) (KCM [(0,1)] 16)=iJ (vf oS c_wordC) x y (fun y=>lo 0 259 (b6 E5 34 0) (lD x y) (KCM [(0,1)] 16)) (fun z=>some (.l (vK x z).1 (vK x z).2)):=by kernel_rfl
noncomputable def ak3(c_wordC:vN→Option uX)(q:Nat)(x:jQ):eS→Option qY:=lpG (fun y=>iJ c_wordC x y (fun y=>some (.inl y)) (fun z=>some (.inr z))) q
theorem cz8(c_wordC)(h_wordC:Lw E5 82 oS aj8 c_wordC)(q:Nat)(x:jQ):Ll E5 (b6 E5 34 0) (lD x) (vK x) (ak3 c_wordC q x):=
 slp (fk h_wordC a8) hX5 (fun lo y=>(cy9 c_wordC x y lo).trans (by rw[dk5];exact da9 _ _ _ _ _)) (fun z=>by rcases z with z|z<;>kernel_rfl) q
def zN{β:Type}(c_wordC:vN→Option uX)(l_spanW_l0:eS→Option qY)(x:jQ)(dn:ai0→Option β):Option β:=
 (l_spanW_l0 (0)).bind fun z8=>Sum.elim (fun z8a=>dn z8a) (fun z8b=>dn (x.size:Int)) z8
theorem ez6{β:Type}(c_wordC)(l_spanW_l0)(x)(dn:ai0→Option β):zN c_wordC l_spanW_l0 x dn=(zN c_wordC l_spanW_l0 x some).bind dn:=by
 unfold zN
 repeat' first|exact n0|refine n1 fun _=>?_|refine n2 ?_ ?_|refine n3 (fun _=>?_) fun _=>?_|rfl
theorem et8(c_wordC)(l_spanW_l0)(x):j8 E5 (ftb 82 oS aj8 c_wordC ca0) (lt2 0 (fun _=>true) (b6 E5 34 0) (lD x) (vK x) l_spanW_l0 lo0) 34 (ab2 x).1 (ab2 x).2 K=zN (vf oS c_wordC) (lf (b6 E5 34 0) (lD x) l_spanW_l0) x (fun z=>some (.c (bx5 z))):=by kernel_rfl
noncomputable def cn5(q:Nat)(x:jQ):Option ai0:=zN (ah3 q) (ak3 (ah3 q) q x) x some
theorem ek0(q:Nat):Lw E5 34 ab2 bx5 (cn5 q):=sof hW5 hX5 (fk (ch7 q) a8) (fun x=>(lk2 (cz8 (ah3 q) (ch7 q) q x) b8)) fun x=>(et8 (ah3 q) (ak3 (ah3 q) q x) x).trans (by rw[dk5,dd9,ez6]<;>rfl)
abbrev xZ:Type:=ByteArray
abbrev yG:Type:=Int×Int×ByteArray×Int×Int
def qS:AR xZ:=fun x=>([st x],[])
def fk8(t:TT):xZ:=(vS (ag t 0))
theorem df5:VI qS:=vd fk8 fun _=>rfl
def at0:yG→CRes:=fun z=>.ret (.tup [.agg [i64 z.1,i64 z.2.1,st z.2.2.1,i64 z.2.2.2.1],i64 z.2.2.2.2]) []
def as3{β:Type}(c_spanW:jQ→Option ai0)(x:xZ)(dn:yG→Option β):Option β:=
 (c_spanW x).bind fun z1=>if decide (z1>12)=true then dn (0,0,⟨#[]⟩,0,2)else if(0:Int)≤0∧0≤z1∧z1≤(x.size:Int)then dn (1,0,ByteArray.extract x 0 (Int.toNat z1),0,0)else none
theorem ff0{β:Type}(c_spanW)(x)(dn:yG→Option β):as3 c_spanW x dn=(as3 c_spanW x some).bind dn:=by
 unfold as3
 repeat' first|exact n0|refine n1 fun _=>?_|refine n2 ?_ ?_|refine n3 (fun _=>?_) fun _=>?_|rfl
theorem fh1(c_spanW)(x):j8 E5 (ftg 34 (fun a _=>du5 (a.getD 1 .junk)==82) ab2 bx5 c_spanW ca0) lo0 37 (qS x).1 (qS x).2 K=as3 (vf ab2 c_spanW) x (fun z=>some (.c (at0 z))):=by kernel_rfl
noncomputable def word(q:Nat)(x:xZ):Option yG:=as3 (cn5 q) x some
theorem dn7(q:Nat):Lw E5 37 qS at0 (word q):=sof hW5 hX5 (fk (ek0 q) a8) (fun _=>b8) fun x=>(fh1 (cn5 q) x).trans (by rw[es0,ff0]<;>rfl)
abbrev iB:Type:=ByteArray
abbrev vM:Type:=Int×Int×ByteArray×Int×Int
def qF:AR iB:=fun x=>([st x],[])
def fg4(t:TT):iB:=(vS (ag t 0))
theorem dh6:VI qF:=vd fg4 fun _=>rfl
def ap8:vM→CRes:=fun z=>.ret (.tup [.agg [i64 z.1,i64 z.2.1,st z.2.2.1,i64 z.2.2.2.1],i64 z.2.2.2.2]) []
abbrev lS:Type:=ByteArray×Int×Nat
abbrev aa3:Type:=(Unit)⊕(ByteArray×Int)
def pQ(x:iB)(y:lS):St:={fr:=[V.junk,V.junk,V.ptr 0 0,V.junk,st y.1,i64 y.2.1]++jk 16++[V.ptr 1 0]++jk 15,H:=hp [some (Chunk.blk [i64 0,i64 0,st ⟨#[]⟩,i64 0]),some (Chunk.iter y.1 y.2.2)],nx:=2,rt:=0,me:=39}
def dt8(s:St):lS:=((vS (s.fr.getD 4 .junk)),vI (s.fr.getD 5 .junk),(chP (s.H 1)))
theorem dz3(x:iB):VL (pQ x):=vl dt8 fun _=>rfl
def aa2(x:iB):aa3→Ex×St:=(Sum.elim (fun z=>(Ex.ret,{fr:=[V.junk,V.junk,V.ptr 0 0,i64 5]++jk 34,H:=hp [some (Chunk.blk [i64 0,i64 0,st ⟨#[]⟩,i64 0])],nx:=1,rt:=0,me:=39})) (fun z=>(Ex.exit 0,{fr:=[V.junk,V.junk,V.ptr 0 0,V.junk,st z.1,i64 z.2]++jk 32,H:=hp [some (Chunk.blk [i64 0,i64 0,st ⟨#[]⟩,i64 0])],nx:=1,rt:=0,me:=39})))
def lT{β:Type}(c_spanD:gE→Option vR)(x:iB)(y:lS)(nx:lS→Option β)(dn:aa3→Option β):Option β:=
 if y.2.2<y.1.size then if decide (w (w (10*y.2.1)+w (IntKind.wrap IntKind.i32 (((Prod.fst (Utf8.decode y.1 y.2.2):Nat):Int)-48)))>2147483647)=true then dn (.inl ())else nx ((y.1,w (w (10*y.2.1)+w (IntKind.wrap IntKind.i32 (((Prod.fst (Utf8.decode y.1 y.2.2):Nat):Int)-48))),y.2.2+Prod.snd (Utf8.decode y.1 y.2.2)))else dn (.inr (y.1,y.2.1))
theorem ds4{β:Type}(c_spanD)(x)(y)(nx:lS→Option β)(dn):lT c_spanD x y nx dn=(lT c_spanD x y (fun y=>some (.inl y)) (fun z=>some (.inr z))).bind fun r=>Sum.elim nx dn r:=by
 unfold lT
 repeat' first|exact n0|refine n1 fun _=>?_|refine n2 ?_ ?_|refine n3 (fun _=>?_) fun _=>?_|rfl
theorem ds7(c_spanD)(x)(y)(lo:f7):r9 E5 (ftg 34 (fun a _=>du5 (a.getD 1 .junk)==38) oR an1 c_spanD ca0) lo 0 4194356 (b6 E5 39 0) (pQ x y) (KCM [(0,52)] 12)=lT (vf oR c_spanD) x y (fun y=>lo 0 4194356 (b6 E5 39 0) (pQ x y) (KCM [(0,52)] 12)) (fun z=>some (.l (aa2 x z).1 (aa2 x z).2)):=by kernel_rfl
noncomputable def ba5(c_spanD:gE→Option vR)(q:Nat)(x:iB):lS→Option aa3:=lpG (fun y=>lT c_spanD x y (fun y=>some (.inl y)) (fun z=>some (.inr z))) q
theorem dr3(c_spanD)(h_spanD:Lw E5 34 oR an1 c_spanD)(q:Nat)(x:iB):Ll E5 (b6 E5 39 0) (pQ x) (aa2 x) (ba5 c_spanD q x):=
 slp (fk h_spanD a8) hX5 (fun lo y=>(ds7 c_spanD x y lo).trans (by rw[dk8];exact ds4 _ _ _ _ _)) (fun z=>by rcases z with z|z<;>kernel_rfl) q
def at2{β:Type}(c_spanD:gE→Option vR)(l_lnum_l0:lS→Option aa3)(x:iB)(dn:vM→Option β):Option β:=
 (c_spanD x).bind fun z1=>if(0:Int)≤0∧0≤z1∧z1≤(x.size:Int)then if decide ((ByteArray.size (ByteArray.extract x 0 (Int.toNat z1)):Int)>1)=true then if(0:Int)≤0∧0< (ByteArray.size (ByteArray.extract x 0 (Int.toNat z1)):Int)then if(((UInt8.toNat (List.getD (Array.toList (ByteArray.data (ByteArray.extract x 0 (Int.toNat z1)))) 0 0):Nat):Int)==48)=true then dn (0,0,⟨#[]⟩,0,11)else(l_lnum_l0 (ByteArray.extract x 0 (Int.toNat z1),0,0)).bind fun z16=>Sum.elim (fun z16a=>dn (0,0,⟨#[]⟩,0,5)) (fun z16b=>dn (2,0,z16b.1,z16b.2,0)) z16 else none else(l_lnum_l0 (ByteArray.extract x 0 (Int.toNat z1),0,0)).bind fun z18=>Sum.elim (fun z18a=>dn (0,0,⟨#[]⟩,0,5)) (fun z18b=>dn (2,0,z18b.1,z18b.2,0)) z18 else none
theorem ff7{β:Type}(c_spanD)(l_lnum_l0)(x)(dn:vM→Option β):at2 c_spanD l_lnum_l0 x dn=(at2 c_spanD l_lnum_l0 x some).bind dn:=by
 unfold at2
 repeat' first|exact n0|refine n1 fun _=>?_|refine n2 ?_ ?_|refine n3 (fun _=>?_) fun _=>?_|rfl
theorem fe4(c_spanD)(l_lnum_l0)(x):j8 E5 (ftg 34 (fun a _=>du5 (a.getD 1 .junk)==38) oR an1 c_spanD ca0) (lt2 0 (fun _=>true) (b6 E5 39 0) (pQ x) (aa2 x) l_lnum_l0 lo0) 39 (qF x).1 (qF x).2 K=at2 (vf oR c_spanD) (lf (b6 E5 39 0) (pQ x) l_lnum_l0) x (fun z=>some (.c (ap8 z))):=by kernel_rfl
noncomputable def bi3(q:Nat)(x:iB):Option vM:=at2 (ac1 q) (ba5 (ac1 q) q x) x some
theorem dk4(q:Nat):Lw E5 39 qF ap8 (bi3 q):=sof hW5 hX5 (fk (cq9 q) a8) (fun x=>(lk2 (dr3 (ac1 q) (cq9 q) q x) b8)) fun x=>(fe4 (ac1 q) (ba5 (ac1 q) q x) x).trans (by rw[dk8,dz3,ff7]<;>rfl)
abbrev xU:Type:=ByteArray
abbrev xP:Type:=Int×Int×ByteArray×Int×Int
def pV:AR xU:=fun x=>([st x],[])
def fd6(t:TT):xU:=(vS (ag t 0))
theorem dd0:VI pV:=vd fd6 fun _=>rfl
def aq8:xP→CRes:=fun z=>.ret (.tup [.agg [i64 z.1,i64 z.2.1,st z.2.2.1,i64 z.2.2.2.1],i64 z.2.2.2.2]) []
def au4{β:Type}(c_IndexByte:sA→Option xC)(x:xU)(dn:xP→Option β):Option β:=
 if(0:Int)≤0∧0< (x.size:Int)then(c_IndexByte ((⟨#[123,125,40,41,61,59,44,58,60,62,43,45,42,47,33,46]⟩,((UInt8.toNat (List.getD (Array.toList x.data) 0 0):Nat):Int)))).bind fun z2=>if decide (z2≥0)=true then if decide ((x.size:Int)>1)=true then if(0:Int)≤0∧(0:Int)≤2∧2≤(x.size:Int)then if(ByteArray.toList (ByteArray.extract x 0 2)==ByteArray.toList ⟨#[124,124]⟩)=true then if(0:Int)≤0∧(0:Int)≤2∧2≤(x.size:Int)then dn (3,0,ByteArray.extract x 0 2,0,0)else none else if(ByteArray.toList (ByteArray.extract x 0 2)==ByteArray.toList ⟨#[38,38]⟩)=true then if(0:Int)≤0∧(0:Int)≤2∧2≤(x.size:Int)then dn (3,0,ByteArray.extract x 0 2,0,0)else none else if(ByteArray.toList (ByteArray.extract x 0 2)==ByteArray.toList ⟨#[60,61]⟩)=true then if(0:Int)≤0∧(0:Int)≤2∧2≤(x.size:Int)then dn (3,0,ByteArray.extract x 0 2,0,0)else none else if(ByteArray.toList (ByteArray.extract x 0 2)==ByteArray.toList ⟨#[62,61]⟩)=true then if(0:Int)≤0∧(0:Int)≤2∧2≤(x.size:Int)then dn (3,0,ByteArray.extract x 0 2,0,0)else none else if(ByteArray.toList (ByteArray.extract x 0 2)==ByteArray.toList ⟨#[61,61]⟩)=true then if(0:Int)≤0∧(0:Int)≤2∧2≤(x.size:Int)then dn (3,0,ByteArray.extract x 0 2,0,0)else none else if(ByteArray.toList (ByteArray.extract x 0 2)==ByteArray.toList ⟨#[33,61]⟩)=true then if(0:Int)≤0∧(0:Int)≤2∧2≤(x.size:Int)then dn (3,0,ByteArray.extract x 0 2,0,0)else none else if(0:Int)≤0∧(0:Int)≤1∧1≤(x.size:Int)then dn (3,0,ByteArray.extract x 0 1,0,0)else none else none else if(0:Int)≤0∧(0:Int)≤1∧1≤(x.size:Int)then dn (3,0,ByteArray.extract x 0 1,0,0)else none else if decide ((x.size:Int)>1)=true then if(0:Int)≤0∧(0:Int)≤2∧2≤(x.size:Int)then if(ByteArray.toList (ByteArray.extract x 0 2)==ByteArray.toList ⟨#[124,124]⟩)=true then if(0:Int)≤0∧(0:Int)≤2∧2≤(x.size:Int)then dn (3,0,ByteArray.extract x 0 2,0,0)else none else if(ByteArray.toList (ByteArray.extract x 0 2)==ByteArray.toList ⟨#[38,38]⟩)=true then if(0:Int)≤0∧(0:Int)≤2∧2≤(x.size:Int)then dn (3,0,ByteArray.extract x 0 2,0,0)else none else if(ByteArray.toList (ByteArray.extract x 0 2)==ByteArray.toList ⟨#[60,61]⟩)=true then if(0:Int)≤0∧(0:Int)≤2∧2≤(x.size:Int)then dn (3,0,ByteArray.extract x 0 2,0,0)else none else if(ByteArray.toList (ByteArray.extract x 0 2)==ByteArray.toList ⟨#[62,61]⟩)=true then if(0:Int)≤0∧(0:Int)≤2∧2≤(x.size:Int)then dn (3,0,ByteArray.extract x 0 2,0,0)else none else if(ByteArray.toList (ByteArray.extract x 0 2)==ByteArray.toList ⟨#[61,61]⟩)=true then if(0:Int)≤0∧(0:Int)≤2∧2≤(x.size:Int)then dn (3,0,ByteArray.extract x 0 2,0,0)else none else if(ByteArray.toList (ByteArray.extract x 0 2)==ByteArray.toList ⟨#[33,61]⟩)=true then if(0:Int)≤0∧(0:Int)≤2∧2≤(x.size:Int)then dn (3,0,ByteArray.extract x 0 2,0,0)else none else dn (0,0,⟨#[]⟩,0,11)else none else dn (0,0,⟨#[]⟩,0,11)else none
theorem fe9{β:Type}(c_IndexByte)(x)(dn:xP→Option β):au4 c_IndexByte x dn=(au4 c_IndexByte x some).bind dn:=by
 unfold au4
 repeat' first|exact n0|refine n1 fun _=>?_|refine n2 ?_ ?_|refine n3 (fun _=>?_) fun _=>?_|rfl
theorem fi4(c_IndexByte)(x):j8 E5 (ftb 83 sF ax4 c_IndexByte ca0) lo0 40 (pV x).1 (pV x).2 K=au4 (vf sF c_IndexByte) x (fun z=>some (.c (aq8 z))):=by kernel_rfl
noncomputable def bi6(q:Nat)(x:xU):Option xP:=au4 (uA q) x some
theorem do9(q:Nat):Lw E5 40 pV aq8 (bi6 q):=sof hW5 hX5 (fk (by6 q) a8) (fun _=>b8) fun x=>(fi4 (uA q) x).trans (by rw[ci9,fe9]<;>rfl)
abbrev dP:Type:=ByteArray
abbrev wQ:Type:=(Int×Int)⊕(Int×Int×Nat×FI×FI×FS×FI)
def bh7:AR dP:=fun x=>([st x],[])
def cn4:wQ→CRes:=Sum.elim (fun z:Int×Int=>.ret (.tup [g9,i64 z.1,i64 z.2]) []) (fun z:Int×Int×Nat×FI×FI×FS×FI=>.ret (.tup [.sl 0 4 0 z.2.2.1,i64 z.1,i64 z.2.1]) [some (.row 74 4 z.2.2.1 (fun j=>[i64 (z.2.2.2.1 j),i64 (z.2.2.2.2.1 j),st (z.2.2.2.2.2.1 j),i64 (z.2.2.2.2.2.2 j)]))])
abbrev aR:Type:=(Nat×Int)⊕(Int×FI×FS×FI×FI×Nat×Nat)
abbrev iY:Type:=(Int×Int)⊕(Unit)⊕(Nat×FI×FI×FS×FI)
def bz6(x:dP)(y:Nat×Int):St:={fr:=[st x]++jk 4++[g9,i64 y.2]++jk 9++[V.ptr 0 0]++jk 74,H:=hp [some (Chunk.iter x y.1)],nx:=1,rt:=0,me:=16}
def bt6(s:St):Nat×Int:=((chP (s.H 0)),vI (s.fr.getD 6 .junk))
def by7(x:dP)(y:Int×FI×FS×FI×FI×Nat×Nat):St:={fr:=[st x]++jk 4++[V.sl 0 4 0 y.2.2.2.2.2.2,i64 y.1]++jk 9++[V.ptr 1 0]++jk 74,H:=hp [some (Chunk.row 74 4 y.2.2.2.2.2.2 fun j=>[i64 (y.2.1 j),i64 (y.2.2.2.2.1 j),st (y.2.2.1 j),i64 (y.2.2.2.1 j)]),some (Chunk.iter x y.2.2.2.2.2.1)],nx:=2,rt:=0,me:=16}
def ca2(s:St):Int×FI×FS×FI×FI×Nat×Nat:=((vI (s.fr.getD 6 .junk)),dRI (s.H 0) 0,dRS (s.H 0) 2,dRI (s.H 0) 3,dRI (s.H 0) 1,(chP (s.H 1)),fE (s.fr.getD 5 .junk))
def dC(x:dP):aR→St:=(Sum.elim (bz6 x) (by7 x))
def cu6(s:St):aR:=(match s.nx==1 with|true=>(.inl (bt6 s)) |false=>(.inr (ca2 s)))
theorem cj8(x:dP):VL (dC x):=vl cu6 (fun y=>by rcases y with y|y<;>rfl)
def iV(x:dP):iY→Ex×St:=(Sum.elim (fun z=>(Ex.ret,{fr:=[V.junk,V.junk,g9,i64 z.1,i64 z.2]++jk 86,H:=hp [],nx:=0,rt:=0,me:=16})) (Sum.elim (fun z=>(Ex.exit 0,{fr:=[st x]++jk 4++[g9]++jk 85,H:=hp [],nx:=0,rt:=0,me:=16})) (fun z=>(Ex.exit 0,{fr:=[st x]++jk 4++[V.sl 0 4 0 z.1]++jk 85,H:=hp [some (Chunk.row 74 4 z.1 fun j=>[i64 (z.2.1 j),i64 (z.2.2.1 j),st (z.2.2.2.1 j),i64 (z.2.2.2.2 j)])],nx:=1,rt:=0,me:=16}))))
def fN{β:Type}(c_letter:jO→Option jZ)(c_digit:gV→Option gX)(c_spanN:eJ→Option rU)(c_word:xZ→Option yG)(c_lnum:iB→Option vM)(c_lsym:xU→Option xP)(x:dP)(y:Nat×Int)(nx:aR→Option β)(dn:iY→Option β):Option β:=
 if y.1<x.size then if decide (((y.1:Nat):Int)<y.2)=true then nx (.inl (y.1+Prod.snd (Utf8.decode x y.1),y.2))else if 0≤((y.1:Nat):Int)∧((y.1:Nat):Int)≤(x.size:Int)∧(x.size:Int)≤(x.size:Int)then if(((Prod.fst (Utf8.decode x y.1):Nat):Int)==32)=true then nx (.inl (y.1+Prod.snd (Utf8.decode x y.1),y.2))else if(((Prod.fst (Utf8.decode x y.1):Nat):Int)==9)=true then nx (.inl (y.1+Prod.snd (Utf8.decode x y.1),y.2))else if(((Prod.fst (Utf8.decode x y.1):Nat):Int)==10)=true then nx (.inl (y.1+Prod.snd (Utf8.decode x y.1),y.2))else if(((Prod.fst (Utf8.decode x y.1):Nat):Int)==13)=true then nx (.inl (y.1+Prod.snd (Utf8.decode x y.1),y.2))else if(((Prod.fst (Utf8.decode x y.1):Nat):Int)==35)=true then(c_spanN (ByteArray.extract x (Int.toNat ((y.1:Nat):Int)) (Int.toNat (x.size:Int)))).bind fun z476=>nx (.inl (y.1+Prod.snd (Utf8.decode x y.1),w (((y.1:Nat):Int)+z476)))else(c_letter ((Prod.fst (Utf8.decode x y.1):Nat):Int)).bind fun z478=>if z478=true then(c_word (ByteArray.extract x (Int.toNat ((y.1:Nat):Int)) (Int.toNat (x.size:Int)))).bind fun z480=>if(z480.2.2.2.2 !=0)=true then dn (.inl (((y.1:Nat):Int),z480.2.2.2.2))else nx (.inr (w (((y.1:Nat):Int)+(z480.2.2.1.size:Int)),fun j=>z480.1,fun j=>z480.2.2.1,fun j=>z480.2.2.2.1,fun j=>((y.1:Nat):Int),y.1+Prod.snd (Utf8.decode x y.1),1))else(c_digit ((Prod.fst (Utf8.decode x y.1):Nat):Int)).bind fun z482=>if z482=true then(c_lnum (ByteArray.extract x (Int.toNat ((y.1:Nat):Int)) (Int.toNat (x.size:Int)))).bind fun z484=>if(z484.2.2.2.2 !=0)=true then dn (.inl (((y.1:Nat):Int),z484.2.2.2.2))else nx (.inr (w (((y.1:Nat):Int)+(z484.2.2.1.size:Int)),fun j=>z484.1,fun j=>z484.2.2.1,fun j=>z484.2.2.2.1,fun j=>((y.1:Nat):Int),y.1+Prod.snd (Utf8.decode x y.1),1))else(c_lsym (ByteArray.extract x (Int.toNat ((y.1:Nat):Int)) (Int.toNat (x.size:Int)))).bind fun z486=>if(z486.2.2.2.2 !=0)=true then dn (.inl (((y.1:Nat):Int),z486.2.2.2.2))else nx (.inr (w (((y.1:Nat):Int)+(z486.2.2.1.size:Int)),fun j=>z486.1,fun j=>z486.2.2.1,fun j=>z486.2.2.2.1,fun j=>((y.1:Nat):Int),y.1+Prod.snd (Utf8.decode x y.1),1))else none else dn (.inr (.inl ()))
theorem by4{β:Type}(c_letter c_digit)(c_spanN c_word)(c_lnum c_lsym)(x)(y)(nx:aR→Option β)(dn):fN c_letter c_digit c_spanN c_word c_lnum c_lsym x y nx dn=(fN c_letter c_digit c_spanN c_word c_lnum c_lsym x y (fun y=>some (.inl y)) (fun z=>some (.inr z))).bind fun r=>Sum.elim nx dn r:=by
 unfold fN
 repeat' first|exact n0|refine n1 fun _=>?_|refine n2 ?_ ?_|refine n3 (fun _=>?_) fun _=>?_|rfl
theorem ce4(c_letter c_digit)(c_spanN c_word)(c_lnum c_lsym)(x)(y)(lo:f7):r9 E5 (ftb 36 cO qW c_letter (ftb 38 bJ mB c_digit (ftg 34 (fun a _=>du5 (a.getD 1 .junk)==35) kA zZ c_spanN (ftb 37 qS at0 c_word (ftb 39 qF ap8 c_lnum (ftb 40 pV aq8 c_lsym ca0)))))) lo 0 65633 (b6 E5 16 0) (dC x (.inl y)) (KCM [(0,33)] 28)=fN (vf cO c_letter) (vf bJ c_digit) (vf kA c_spanN) (vf qS c_word) (vf qF c_lnum) (vf pV c_lsym) x y (fun y=>lo 0 65633 (b6 E5 16 0) (dC x y) (KCM [(0,33)] 28)) (fun z=>some (.l (iV x z).1 (iV x z).2)):=by kernel_rfl
def fP{β:Type}(c_letter:jO→Option jZ)(c_digit:gV→Option gX)(c_spanN:eJ→Option rU)(c_word:xZ→Option yG)(c_lnum:iB→Option vM)(c_lsym:xU→Option xP)(x:dP)(y:Int×FI×FS×FI×FI×Nat×Nat)(nx:aR→Option β)(dn:iY→Option β):Option β:=
 if y.2.2.2.2.2.1<x.size then if decide (((y.2.2.2.2.2.1:Nat):Int)<y.1)=true then nx (.inr (y.1,y.2.1,y.2.2.1,y.2.2.2.1,y.2.2.2.2.1,y.2.2.2.2.2.1+Prod.snd (Utf8.decode x y.2.2.2.2.2.1),y.2.2.2.2.2.2))else if 0≤((y.2.2.2.2.2.1:Nat):Int)∧((y.2.2.2.2.2.1:Nat):Int)≤(x.size:Int)∧(x.size:Int)≤(x.size:Int)then if(((Prod.fst (Utf8.decode x y.2.2.2.2.2.1):Nat):Int)==32)=true then nx (.inr (y.1,y.2.1,y.2.2.1,y.2.2.2.1,y.2.2.2.2.1,y.2.2.2.2.2.1+Prod.snd (Utf8.decode x y.2.2.2.2.2.1),y.2.2.2.2.2.2))else if(((Prod.fst (Utf8.decode x y.2.2.2.2.2.1):Nat):Int)==9)=true then nx (.inr (y.1,y.2.1,y.2.2.1,y.2.2.2.1,y.2.2.2.2.1,y.2.2.2.2.2.1+Prod.snd (Utf8.decode x y.2.2.2.2.2.1),y.2.2.2.2.2.2))else if(((Prod.fst (Utf8.decode x y.2.2.2.2.2.1):Nat):Int)==10)=true then nx (.inr (y.1,y.2.1,y.2.2.1,y.2.2.2.1,y.2.2.2.2.1,y.2.2.2.2.2.1+Prod.snd (Utf8.decode x y.2.2.2.2.2.1),y.2.2.2.2.2.2))else if(((Prod.fst (Utf8.decode x y.2.2.2.2.2.1):Nat):Int)==13)=true then nx (.inr (y.1,y.2.1,y.2.2.1,y.2.2.2.1,y.2.2.2.2.1,y.2.2.2.2.2.1+Prod.snd (Utf8.decode x y.2.2.2.2.2.1),y.2.2.2.2.2.2))else if(((Prod.fst (Utf8.decode x y.2.2.2.2.2.1):Nat):Int)==35)=true then(c_spanN (ByteArray.extract x (Int.toNat ((y.2.2.2.2.2.1:Nat):Int)) (Int.toNat (x.size:Int)))).bind fun z489=>nx (.inr (w (((y.2.2.2.2.2.1:Nat):Int)+z489),y.2.1,y.2.2.1,y.2.2.2.1,y.2.2.2.2.1,y.2.2.2.2.2.1+Prod.snd (Utf8.decode x y.2.2.2.2.2.1),y.2.2.2.2.2.2))else(c_letter ((Prod.fst (Utf8.decode x y.2.2.2.2.2.1):Nat):Int)).bind fun z491=>if z491=true then(c_word (ByteArray.extract x (Int.toNat ((y.2.2.2.2.2.1:Nat):Int)) (Int.toNat (x.size:Int)))).bind fun z493=>if(z493.2.2.2.2 !=0)=true then dn (.inl (((y.2.2.2.2.2.1:Nat):Int),z493.2.2.2.2))else if(y.2.2.2.2.2.2+1)*40≤d9∧y.2.2.2.2.2.2+1≤maxLen∧y.2.2.2.2.2.2≤y.2.2.2.2.2.2 then nx (.inr (w (((y.2.2.2.2.2.1:Nat):Int)+(z493.2.2.1.size:Int)),fun j=>if j<y.2.2.2.2.2.2 then y.2.1 j else z493.1,fun j=>if j<y.2.2.2.2.2.2 then y.2.2.1 j else z493.2.2.1,fun j=>if j<y.2.2.2.2.2.2 then y.2.2.2.1 j else z493.2.2.2.1,fun j=>if j<y.2.2.2.2.2.2 then y.2.2.2.2.1 j else((y.2.2.2.2.2.1:Nat):Int),y.2.2.2.2.2.1+Prod.snd (Utf8.decode x y.2.2.2.2.2.1),y.2.2.2.2.2.2+1))else none else(c_digit ((Prod.fst (Utf8.decode x y.2.2.2.2.2.1):Nat):Int)).bind fun z495=>if z495=true then(c_lnum (ByteArray.extract x (Int.toNat ((y.2.2.2.2.2.1:Nat):Int)) (Int.toNat (x.size:Int)))).bind fun z497=>if(z497.2.2.2.2 !=0)=true then dn (.inl (((y.2.2.2.2.2.1:Nat):Int),z497.2.2.2.2))else if(y.2.2.2.2.2.2+1)*40≤d9∧y.2.2.2.2.2.2+1≤maxLen∧y.2.2.2.2.2.2≤y.2.2.2.2.2.2 then nx (.inr (w (((y.2.2.2.2.2.1:Nat):Int)+(z497.2.2.1.size:Int)),fun j=>if j<y.2.2.2.2.2.2 then y.2.1 j else z497.1,fun j=>if j<y.2.2.2.2.2.2 then y.2.2.1 j else z497.2.2.1,fun j=>if j<y.2.2.2.2.2.2 then y.2.2.2.1 j else z497.2.2.2.1,fun j=>if j<y.2.2.2.2.2.2 then y.2.2.2.2.1 j else((y.2.2.2.2.2.1:Nat):Int),y.2.2.2.2.2.1+Prod.snd (Utf8.decode x y.2.2.2.2.2.1),y.2.2.2.2.2.2+1))else none else(c_lsym (ByteArray.extract x (Int.toNat ((y.2.2.2.2.2.1:Nat):Int)) (Int.toNat (x.size:Int)))).bind fun z499=>if(z499.2.2.2.2 !=0)=true then dn (.inl (((y.2.2.2.2.2.1:Nat):Int),z499.2.2.2.2))else if(y.2.2.2.2.2.2+1)*40≤d9∧y.2.2.2.2.2.2+1≤maxLen∧y.2.2.2.2.2.2≤y.2.2.2.2.2.2 then nx (.inr (w (((y.2.2.2.2.2.1:Nat):Int)+(z499.2.2.1.size:Int)),fun j=>if j<y.2.2.2.2.2.2 then y.2.1 j else z499.1,fun j=>if j<y.2.2.2.2.2.2 then y.2.2.1 j else z499.2.2.1,fun j=>if j<y.2.2.2.2.2.2 then y.2.2.2.1 j else z499.2.2.2.1,fun j=>if j<y.2.2.2.2.2.2 then y.2.2.2.2.1 j else((y.2.2.2.2.2.1:Nat):Int),y.2.2.2.2.2.1+Prod.snd (Utf8.decode x y.2.2.2.2.2.1),y.2.2.2.2.2.2+1))else none else none else dn (.inr (.inr (y.2.2.2.2.2.2,y.2.1,y.2.2.2.2.1,y.2.2.1,y.2.2.2.1)))
theorem bu6{β:Type}(c_letter c_digit)(c_spanN c_word)(c_lnum c_lsym)(x)(y)(nx:aR→Option β)(dn):fP c_letter c_digit c_spanN c_word c_lnum c_lsym x y nx dn=(fP c_letter c_digit c_spanN c_word c_lnum c_lsym x y (fun y=>some (.inl y)) (fun z=>some (.inr z))).bind fun r=>Sum.elim nx dn r:=by
 unfold fP
 repeat' first|exact n0|refine n1 fun _=>?_|refine n2 ?_ ?_|refine n3 (fun _=>?_) fun _=>?_|rfl
theorem ca3(c_letter c_digit)(c_spanN c_word)(c_lnum c_lsym)(x)(y)(lo:f7):r9 E5 (ftb 36 cO qW c_letter (ftb 38 bJ mB c_digit (ftg 34 (fun a _=>du5 (a.getD 1 .junk)==35) kA zZ c_spanN (ftb 37 qS at0 c_word (ftb 39 qF ap8 c_lnum (ftb 40 pV aq8 c_lsym ca0)))))) lo 0 65633 (b6 E5 16 0) (dC x (.inr y)) (KCM [(0,33)] 28)=fP (vf cO c_letter) (vf bJ c_digit) (vf kA c_spanN) (vf qS c_word) (vf qF c_lnum) (vf pV c_lsym) x y (fun y=>lo 0 65633 (b6 E5 16 0) (dC x y) (KCM [(0,33)] 28)) (fun z=>some (.l (iV x z).1 (iV x z).2)):=by kernel_rfl
noncomputable def lQ(c_letter:jO→Option jZ)(c_digit:gV→Option gX)(c_spanN:eJ→Option rU)(c_word:xZ→Option yG)(c_lnum:iB→Option vM)(c_lsym:xU→Option xP)(q:Nat)(x:dP):aR→Option iY:=lpG (Sum.elim (fun y=>fN c_letter c_digit c_spanN c_word c_lnum c_lsym x y (fun y=>some (.inl y)) (fun z=>some (.inr z))) (fun y=>fP c_letter c_digit c_spanN c_word c_lnum c_lsym x y (fun y=>some (.inl y)) (fun z=>some (.inr z)))) q
theorem cx1(c_letter)(h_letter:Lw E5 36 cO qW c_letter)(c_digit)(h_digit:Lw E5 38 bJ mB c_digit)(c_spanN)(h_spanN:Lw E5 34 kA zZ c_spanN)(c_word)(h_word:Lw E5 37 qS at0 c_word)(c_lnum)(h_lnum:Lw E5 39 qF ap8 c_lnum)(c_lsym)(h_lsym:Lw E5 40 pV aq8 c_lsym)(q:Nat)(x:dP):Ll E5 (b6 E5 16 0) (dC x) (iV x) (lQ c_letter c_digit c_spanN c_word c_lnum c_lsym q x):=
 slp (fk h_letter (fk h_digit (fk h_spanN (fk h_word (fk h_lnum (fk h_lsym a8)))))) hX5 (fun lo y=>by
  rcases y with y|y
  ·exact(ce4 c_letter c_digit c_spanN c_word c_lnum c_lsym x y lo).trans (by rw[am5,zB,bz0,df5,dh6,dd0];exact by4 _ _ _ _ _ _ _ _ _ _)
  ·exact(ca3 c_letter c_digit c_spanN c_word c_lnum c_lsym x y lo).trans (by rw[am5,zB,bz0,df5,dh6,dd0];exact bu6 _ _ _ _ _ _ _ _ _ _)) (fun z=>by rcases z with z|z|z<;>kernel_rfl) q
def sT{β:Type}(c_letter:jO→Option jZ)(c_digit:gV→Option gX)(c_spanN:eJ→Option rU)(c_word:xZ→Option yG)(c_lnum:iB→Option vM)(c_lsym:xU→Option xP)(l_Tokens_l0:aR→Option iY)(x:dP)(dn:wQ→Option β):Option β:=
 if decide ((x.size:Int)>4000)=true then dn (.inl (4000,2))else(l_Tokens_l0 (.inl (0,0))).bind fun z461=>Sum.elim (fun z461a=>dn (.inl z461a)) (fun z461b=>Sum.elim (fun z461ba=>dn (.inr (0,0,1,fun j=>0,fun j=>(x.size:Int),fun j=>⟨#[]⟩,fun j=>0))) (fun z461bb=>if(z461bb.1+1)*40≤d9∧z461bb.1+1≤maxLen∧z461bb.1≤z461bb.1 then dn (.inr (0,0,z461bb.1+1,fun j=>if j<z461bb.1 then z461bb.2.1 j else 0,fun j=>if j<z461bb.1 then z461bb.2.2.1 j else(x.size:Int),fun j=>if j<z461bb.1 then z461bb.2.2.2.1 j else⟨#[]⟩,fun j=>if j<z461bb.1 then z461bb.2.2.2.2 j else 0))else none) z461b) z461
theorem ed6{β:Type}(c_letter c_digit)(c_spanN c_word)(c_lnum c_lsym)(l_Tokens_l0)(x)(dn:wQ→Option β):sT c_letter c_digit c_spanN c_word c_lnum c_lsym l_Tokens_l0 x dn=(sT c_letter c_digit c_spanN c_word c_lnum c_lsym l_Tokens_l0 x some).bind dn:=by
 unfold sT
 repeat' first|exact n0|refine n1 fun _=>?_|refine n2 ?_ ?_|refine n3 (fun _=>?_) fun _=>?_|rfl
theorem eq9(c_letter c_digit)(c_spanN c_word)(c_lnum c_lsym)(l_Tokens_l0)(x):j8 E5 (ftb 36 cO qW c_letter (ftb 38 bJ mB c_digit (ftg 34 (fun a _=>du5 (a.getD 1 .junk)==35) kA zZ c_spanN (ftb 37 qS at0 c_word (ftb 39 qF ap8 c_lnum (ftb 40 pV aq8 c_lsym ca0)))))) (lt3 0 (fun _=>true) (b6 E5 16 0) (dC x) (iV x) l_Tokens_l0 lo0) 16 (bh7 x).1 (bh7 x).2 K=sT (vf cO c_letter) (vf bJ c_digit) (vf kA c_spanN) (vf qS c_word) (vf qF c_lnum) (vf pV c_lsym) (lf (b6 E5 16 0) (dC x) l_Tokens_l0) x (fun z=>some (.c (cn4 z))):=by kernel_rfl
noncomputable def cz0(q:Nat)(x:dP):Option wQ:=sT (kW q) (kB q) (yC q) (word q) (bi3 q) (bi6 q) (lQ (kW q) (kB q) (yC q) (word q) (bi3 q) (bi6 q) q x) x some
theorem dw2(q:Nat):Lw E5 16 bh7 cn4 (cz0 q):=sof hW5 hX5 (fk (au1 q) (fk (yB q) (fk (co7 q) (fk (dn7 q) (fk (dk4 q) (fk (do9 q) a8)))))) (fun x=>(lk3 (cx1 (kW q) (au1 q) (kB q) (yB q) (yC q) (co7 q) (word q) (dn7 q) (bi3 q) (dk4 q) (bi6 q) (do9 q) q x) b8)) fun x=>(eq9 (kW q) (kB q) (yC q) (word q) (bi3 q) (bi6 q) (lQ (kW q) (kB q) (yC q) (word q) (bi3 q) (bi6 q) q x) x).trans (by rw[am5,zB,bz0,df5,dh6,dd0,cj8,ed6]<;>rfl)
end Go.Proofs.YtcijknknahbbnaaGreatDoor
/- Plain laws on bytes: what a range over a string meets. -/
namespace Go.Proofs.Lx
open Go
def f9(g:Int→Bool)(l:List UInt8):Nat:=(l.takeWhile (fun b=>g b.toNat)).length
def cq1(g:Int→Bool):Prop:=∀c:Int,128≤c→g c=g 128
theorem az9(s:ByteArray)(p n:Nat)(h:p<s.size)(hn:1≤n)(hc:∀k,1≤k→k<n→p+k<s.size∧128≤(s.get! (p+k)).toNat):
 1≤n∧p+n≤s.size∧∀j,p<j→j<p+n→128≤(s.get! j).toNat:=by
 refine⟨hn,?_,fun j h1 h2=>?_⟩
 ·rcases Nat.lt_or_ge 1 n with hl|hl
  ·have:=(hc (n-1) (by omega) (by omega)).1
   omega
  ·omega
 ·have:=(hc (j-p) (by omega) (by omega)).2
  rwa [show p+(j-p)=j by omega]at this
theorem pS(s:ByteArray)(p:Nat)(h:p<s.size):
 1≤(Utf8.decode s p).2∧p+(Utf8.decode s p).2≤s.size∧∀j,p<j→j<p+(Utf8.decode s p).2→128≤(s.get! j).toNat:=by
 have hc:∀k,(decide (p+k<s.size)&&((s.get! (p+k)).toNat/64==2))=true→p+k<s.size∧128≤(s.get! (p+k)).toNat:=by
  intro k hk
  simp at hk
  omega
 have one:=az9 s p 1 h (by omega) (fun k h1 h2=>by omega)
 simp only[Utf8.decode]
 split
 ·exact one
 ·split
  ·rename_i hx
   rw[Bool.and_eq_true]at hx
   have h1:=hc 1 hx.2
   split
   ·exact az9 s p 2 h (by omega) (fun k hk1 hk2=>by obtain rfl:k=1:=(by omega);exact h1)
   ·exact one
  ·split
   ·rename_i hx
    rw[Bool.and_eq_true,Bool.and_eq_true]at hx
    have h1:=hc 1 hx.1.2
    have h2:=hc 2 hx.2
    split
    ·refine az9 s p 3 h (by omega) (fun k hk1 hk2=>?_)
     have:k=1∨k=2:=by omega
     rcases this with rfl|rfl
     ·exact h1
     ·exact h2
    ·exact one
   ·split
    ·rename_i hx
     rw[Bool.and_eq_true,Bool.and_eq_true,Bool.and_eq_true]at hx
     have h1:=hc 1 hx.1.1.2
     have h2:=hc 2 hx.1.2
     have h3:=hc 3 hx.2
     split
     ·refine az9 s p 4 h (by omega) (fun k hk1 hk2=>?_)
      have:k=1∨k=2∨k=3:=by omega
      rcases this with rfl|rfl|rfl
      ·exact h1
      ·exact h2
      ·exact h3
     ·exact one
    ·exact one
theorem bc1(s:ByteArray)(p:Nat)(h:p<s.size):s.data.toList[p]? =some (s.get! p):=by
 rw[List.getElem?_eq_getElem (by simpa using h)]
 congr 1
 have:=get_at s p h
 simp only[Nat.add_zero]at this
 rw[this]
 rfl
theorem mW(s:ByteArray)(g:Int→Bool)(hf:cq1 g)(p:Nat)(h:p<s.size):g ((Utf8.decode s p).1:Int)=g ((s.get! p).toNat:Int):=by
 have e:=get_at s p h
 simp only[Nat.add_zero]at e
 by_cases ha:(s.get! p).toNat<128
 ·rw[decode_ascii s p h (by rw[←e];exact ha),←e]
 ·have hh:=(decode_high s p h (by rw[←e];omega)).1
  rw[hf _ (by omega),hf ((s.get! p).toNat:Int) (by omega)]
theorem cH(s:ByteArray)(p:Nat)(h:p<s.size):s.data.toList.drop p=s.get! p::s.data.toList.drop (p+1):=by
 have hg:=bc1 s p h
 rw[List.getElem?_eq_some_iff]at hg
 obtain⟨hl,he⟩:=hg
 rw[List.drop_eq_getElem_cons hl,he]
theorem dv7(s:ByteArray)(g:Int→Bool)(p:Nat)(h:p<s.size)(hg:g ((s.get! p).toNat:Int)=false):f9 g (s.data.toList.drop p)=0:=by
 rw[cH s p h]
 simp[f9,hg]
theorem dy2(s:ByteArray)(g:Int→Bool)(n:Nat):∀p,p+n≤s.size→(∀j,p≤j→j<p+n→g ((s.get! j).toNat:Int)=true)→f9 g (s.data.toList.drop p)=n+f9 g (s.data.toList.drop (p+n)):=by
 induction n with
 |zero=>intro p _ _;simp
 |succ n ih=>
  intro p h hg
  have h0:=hg p (by omega) (by omega)
  rw[cH s p (by omega)]
  have:=ih (p+1) (by omega) (fun j h1 h2=>hg j (by omega) (by omega))
  have e:p+(n+1)=p+1+n:=by omega
  rw[e,f9,List.takeWhile_cons,h0]
  simp only[if_true,List.length_cons]
  unfold f9 at this
  unfold f9
  omega
theorem er2(s:ByteArray)(g:Int→Bool):f9 g (s.data.toList.drop s.size)=0:=by
 rw[List.drop_of_length_le (by simp)];rfl
theorem dv3(s:ByteArray)(g:Int→Bool)(hf:cq1 g)(p:Nat)(h:p<s.size)(hg:g ((Utf8.decode s p).1:Int)=true):
 f9 g (s.data.toList.drop p)=(Utf8.decode s p).2+f9 g (s.data.toList.drop (p+(Utf8.decode s p).2)):=by
 obtain⟨h1,h2,h3⟩:=pS s p h
 refine dy2 s g _ p h2 fun j hj1 hj2=>?_
 rw[mW s g hf p h]at hg
 rcases Nat.eq_or_lt_of_le hj1 with rfl|hlt
 ·exact hg
 ·have hb:=h3 j hlt hj2
  have hcont:1< (Utf8.decode s p).2:=by omega
  have hhi:128≤(s.get! p).toNat:=by
   rcases Nat.lt_or_ge (s.get! p).toNat 128 with hl|hl
   ·have e:=get_at s p h
    simp only[Nat.add_zero]at e
    rw[decode_ascii s p h (by rw[←e];exact hl)]at hcont
    simp at hcont
   ·exact hl
  rw[hf _ (by omega)]at hg⊢
  exact hg
end Go.Proofs.Lx
/- Plain: which symbol a string begins with. -/
namespace Go.Proofs.Lx
open Go
theorem aI(r:ByteArray)(a b:Nat):(r.extract a b).data.toList=(r.data.toList.drop a).take (b-a):=by
 simp[ByteArray.data_extract,List.extract_eq_take_drop]
def sym1:List UInt8:=[123,125,40,41,61,59,44,58,60,62,43,45,42,47,33,46]
def xF:List (List UInt8):=[[124,124],[38,38],[60,61],[62,61],[61,61],[33,61]]
def xH(l:List UInt8):Nat:=
 if 1<l.length∧l.take 2∈xF then 2 else cond ((l.head?).any (fun b=>sym1.contains b)) 1 0
theorem dn4(l:List UInt8)(c:UInt8):l.contains c=true↔0≤Lib.indexByte l c:=by
 induction l with
 |nil=>simp[Lib.indexByte]
 |cons b l ih=>
  have hg:=Lib.indexByte_ge l c
  have e:Lib.indexByte (b::l) c=if b==c then 0 else if Lib.indexByte l c== -1 then-1 else Lib.indexByte l c+1:=rfl
  rw[e,List.contains_cons,Bool.or_eq_true,ih]
  by_cases hb:b=c
  ·subst hb;simp
  ·have hb':(b==c)=false:=by simpa using hb
   have hc':¬((c==b)=true):=by simpa using fun h=>hb h.symm
   simp only[hb',Bool.false_eq_true,if_false,hc',false_or]
   by_cases hm:Lib.indexByte l c= -1
   ·simp[hm]
   ·have:(Lib.indexByte l c== -1)=false:=by simpa using hm
    simp only[this,Bool.false_eq_true,if_false]
    omega
theorem ed3{r t:ByteArray}(h1:1<r.size)(ht:t=r.extract 0 2)(hm:t.data.toList∈xF):xH r.data.toList=2:=by
 rw[ht,aI]at hm
 simp only[List.drop_zero]at hm
 unfold xH
 rw[if_pos ⟨by simpa using h1,hm⟩]
theorem cr9{r:ByteArray}(h0:0<r.size)(hm:¬(1<r.data.toList.length∧r.data.toList.take 2∈xF)):xH r.data.toList=if(0:Int)≤Lib.indexByte sym1 r[0]then 1 else 0:=by
 have hg:=cH r 0 h0
 have e:=get_at r 0 h0
 simp only[Nat.add_zero]at e
 rw[List.drop_zero,e]at hg
 unfold xH
 rw[if_neg hm,hg]
 simp only[List.head?_cons,Option.any_some]
 by_cases h:(0:Int)≤Lib.indexByte sym1 r[0]
 ·rw[if_pos h,(dn4 _ _).2 h];rfl
 ·rw[if_neg h,Bool.eq_false_iff.2 (fun h'=>h ((dn4 _ _).1 h'))];rfl
theorem cs0{r t:ByteArray}(ht:t=r.extract 0 2)(hm:∀l∈xF,t≠⟨l.toArray⟩):¬(1<r.data.toList.length∧r.data.toList.take 2∈xF):=by
 rintro⟨_,h⟩
 refine hm _ h ?_
 rw[ht]
 have:=aI r 0 2
 simp only[List.drop_zero]at this
 rw[←this]
end Go.Proofs.Lx
/- Plain: the tokens of a source, as a relation. -/
namespace Go.Proofs.Lx
open Go
structure Tkn where
 k:Int
 a:Int
 t:ByteArray
 n:Int
def Tkn.cells(x:Tkn):List Value:=[.int .i64 x.k,.int .i64 x.a,.string x.t,.int .i64 x.n]
def o8(c:Int):Bool:=decide (97≤c∧c≤122)||decide (65≤c∧c≤90)
def i9(c:Int):Bool:=decide (48≤c∧c≤57)
def cQ(c:Int):Bool:=decide (c=32∨c=9∨c=10∨c=13)
def aP(c:Int):Bool:=o8 c||i9 c
def aw6:Tkn:=⟨0,0,⟨#[]⟩,0⟩
def ae8(n:Int)(l:List UInt8):Int:=l.foldl (fun n b=>10*n+((b.toNat:Int)-48)) n
def ah8(r:ByteArray):Tkn×Int:=if 12<f9 aP r.data.toList then(aw6,2)else(⟨1,0,r.extract 0 (f9 aP r.data.toList),0⟩,0)
def hO(t:ByteArray):Tkn×Int:=
 if 1<t.size∧t.data.toList[0]? =some 48 then(aw6,11)
 else if ae8 0 t.data.toList>2147483647 then(aw6,5)
 else(⟨2,0,t,ae8 0 t.data.toList⟩,0)
def eE(r:ByteArray):Tkn×Int:=if xH r.data.toList=0 then(aw6,11)else(⟨3,0,r.extract 0 (xH r.data.toList),0⟩,0)
def af2(s:ByteArray)(p:Nat):Tkn×Int:=
 if o8 (s.get! p).toNat then ah8 (s.extract p s.size)
 else if i9 (s.get! p).toNat then hO ((s.extract p s.size).extract 0 (f9 i9 (s.extract p s.size).data.toList))
 else eE (s.extract p s.size)
def nG(c:Int):Bool:= !(c==10)
inductive Lex(s:ByteArray):Nat→List Tkn→List Tkn×Nat×Int→Prop where
 |fin {p:Nat} {acc:List Tkn}:s.size≤p→Lex s p acc (acc++[⟨0,s.size,⟨#[]⟩,0⟩],0,0)
 |white {p:Nat} {acc:List Tkn} {r:List Tkn×Nat×Int}:p<s.size→cQ (s.get! p).toNat=true→Lex s (p+1) acc r→Lex s p acc r
 |hash {p:Nat} {acc:List Tkn} {r:List Tkn×Nat×Int}:p<s.size→(s.get! p).toNat=35→Lex s (p+f9 nG (s.data.toList.drop p)) acc r→Lex s p acc r
 |tok {p:Nat} {acc:List Tkn} {r:List Tkn×Nat×Int} {x:Tkn}:p<s.size→cQ (s.get! p).toNat=false→(s.get! p).toNat≠35→af2 s p=(x,0)→Lex s (p+x.t.size) (acc++[{x with a:=p}]) r→Lex s p acc r
 |err {p:Nat} {acc:List Tkn} {x:Tkn} {e:Int}:p<s.size→cQ (s.get! p).toNat=false→(s.get! p).toNat≠35→af2 s p=(x,e)→e≠0→Lex s p acc ([],p,e)
def Bd(s:ByteArray)(p d:Nat):Prop:=(∀j,p≤j→j<d→(s.get! j).toNat<128)∨d=s.size∨(d<s.size∧(s.get! d).toNat<128)
theorem Bd.step{s:ByteArray}{p d:Nat}(h:Bd s p d)(hp:p<d)(hd:d≤s.size):p+(Utf8.decode s p).2≤d∧Bd s (p+(Utf8.decode s p).2) d:=by
 have hl:=pS s p (by omega)
 refine⟨?_,?_⟩
 ·rcases h with h|h| ⟨h1,h2⟩
  ·have h0:=h p (Nat.le_refl _) hp
   have e:=get_at s p (by omega)
   simp only[Nat.add_zero]at e
   rw[decode_ascii s p (by omega) (by rw[←e];exact h0)]
   exact hp
  ·omega
  ·rcases Nat.lt_or_ge d (p+(Utf8.decode s p).2)with hlt|hge
   ·have:=hl.2.2 d hp hlt
    omega
   ·exact hge
 ·exact h.imp (fun h j hj1 hj2=>h j (by omega) hj2) id
theorem Bd.refl(s:ByteArray)(p d:Nat)(h:d≤p):Bd s p d:=.inl fun j h1 h2=>by omega
end Go.Proofs.Lx
/- Plain: what a token's text is. -/
namespace Go.Proofs.Lx
open Go
theorem bh3(g:Int→Bool)(l:List UInt8):f9 g l≤l.length:=(List.takeWhile_sublist _).length_le
theorem au3(g:Int→Bool)(l:List UInt8):∀j,j<f9 g l→∃b,l[j]? =some b∧g b.toNat=true:=by
 induction l with
 |nil=>intro j h;simp[f9]at h
 |cons b l ih=>
  intro j h
  cases hb:g b.toNat
  ·simp[f9,List.takeWhile_cons,hb]at h
  ·cases j with
   |zero=>exact⟨b,rfl,hb⟩
   |succ j=>
    have:j<f9 g l:=by
     simp only[f9,List.takeWhile_cons,hb,if_true,List.length_cons]at h⊢
     omega
    obtain⟨c,h1,h2⟩:=ih j this
    exact⟨c,by simpa using h1,h2⟩
theorem bs5(g:Int→Bool)(b:UInt8)(l:List UInt8)(h:g b.toNat=true):1≤f9 g (b::l):=by
 simp[f9,List.takeWhile_cons,h]
theorem rB(s:ByteArray)(p:Nat)(h:p≤s.size):(s.extract p s.size).data.toList=s.data.toList.drop p:=by
 rw[aI,List.take_of_length_le (by simp)]
theorem ef2(s:ByteArray)(p:Nat):(s.extract p s.size).size=s.size-p:=by simp
theorem da8{a b:ByteArray}(h:a.data.toList=b.data.toList):a=b:=by
 obtain⟨⟨a⟩⟩:=a
 obtain⟨⟨b⟩⟩:=b
 simp only at h
 rw[h]
theorem fa7(s:ByteArray)(p n:Nat)(h:p+n≤s.size):(s.extract p s.size).extract 0 n=s.extract p (p+n):=by
 have e:((s.extract p s.size).extract 0 n).data.toList=(s.extract p (p+n)).data.toList:=by
  rw[aI,aI,aI,List.drop_zero,Nat.sub_zero,List.take_take,Nat.min_eq_left (by omega),Nat.add_sub_cancel_left]
 exact da8 e
theorem ep2(s:ByteArray)(j:Nat)(b:UInt8)(h:s.data.toList[j]? =some b):j<s.size∧s.get! j=b:=by
 have hl:j<s.size:=by
  rw[List.getElem?_eq_some_iff]at h
  obtain⟨h,_⟩:=h
  simpa using h
 rw[bc1 s j hl]at h
 exact⟨hl,by injection h⟩
theorem ea7(c:Int)(h:aP c=true):c<128:=by simp[aP,o8,i9]at h;omega
theorem ej4(c:Int)(h:i9 c=true):c<128:=by simp[i9]at h;omega
theorem ep0{s:ByteArray}{p:Nat}(g:Int→Bool)(hg:∀c,g c=true→c<128)(hp:p<s.size)(h0:g (s.get! p).toNat=true):
 1≤f9 g (s.data.toList.drop p)∧p+f9 g (s.data.toList.drop p)≤s.size∧∀j,p≤j→j<p+f9 g (s.data.toList.drop p)→(s.get! j).toNat<128:=by
 refine⟨?_,?_,?_⟩
 ·rw[cH s p hp];exact bs5 g _ _ h0
 ·have:=bh3 g (s.data.toList.drop p)
  simp at this
  omega
 ·intro j h1 h2
  obtain⟨b,hb,hgb⟩:=au3 g (s.data.toList.drop p) (j-p) (by omega)
  rw[List.getElem?_drop,show p+(j-p)=j by omega]at hb
  rw[(ep2 s j b hb).2]
  have:=hg _ hgb
  omega
theorem fd2{s:ByteArray}{p:Nat}(hp:p<s.size)(hn:xH (s.data.toList.drop p)≠0):
 1≤xH (s.data.toList.drop p)∧p+xH (s.data.toList.drop p)≤s.size∧∀j,p≤j→j<p+xH (s.data.toList.drop p)→(s.get! j).toNat<128:=by
 unfold xH at hn⊢
 by_cases h2:1< (s.data.toList.drop p).length∧(s.data.toList.drop p).take 2∈xF
 ·rw[if_pos h2]
  obtain⟨hl,hm⟩:=h2
  have hl':p+2≤s.size:=by simp at hl;omega
  refine⟨by omega,hl',fun j h1 h2=>?_⟩
  rw[cH s p hp,cH s (p+1) (by omega)]at hm
  simp only[List.take_succ_cons,List.take_zero,xF,List.mem_cons,List.cons.injEq,and_true,List.not_mem_nil,or_false]at hm
  have hj:j=p∨j=p+1:=by omega
  rcases hj with rfl|rfl<;>rcases hm with h|h|h|h|h|h<;>simp[h.1,h.2]
 ·rw[if_neg h2]at hn⊢
  rw[cH s p hp]at hn⊢
  simp only[List.head?_cons,Option.any_some]at hn⊢
  cases hc:sym1.contains (s.get! p)
  ·rw[hc]at hn;exact absurd rfl hn
  ·simp only[cond_true]
   refine⟨by omega,by omega,fun j h1 h2=>?_⟩
   obtain rfl:j=p:=by omega
   have hm:=List.contains_iff_mem.1 hc
   simp only[sym1,List.mem_cons,List.not_mem_nil,or_false]at hm
   rcases hm with h|h|h|h|h|h|h|h|h|h|h|h|h|h|h|h<;>simp[h]
theorem ab0{s:ByteArray}{p:Nat}{x:Tkn}(hp:p<s.size)(h:af2 s p=(x,0)):
 x.a=0∧1≤x.t.size∧p+x.t.size≤s.size∧x.t=s.extract p (p+x.t.size)∧∀j,p≤j→j<p+x.t.size→(s.get! j).toNat<128:=by
 have hsz:∀n,p+n≤s.size→(s.extract p (p+n)).size=n:=fun n hn=>by simp;omega
 have fin:∀n,1≤n→p+n≤s.size→(∀j,p≤j→j<p+n→(s.get! j).toNat<128)→∀y:Tkn,y.a=0→y.t=(s.extract p s.size).extract 0 n→
  y.a=0∧1≤y.t.size∧p+y.t.size≤s.size∧y.t=s.extract p (p+y.t.size)∧∀j,p≤j→j<p+y.t.size→(s.get! j).toNat<128:=by
  intro n h1 h2 h3 y ha hy
  rw[fa7 s p n h2]at hy
  rw[hy,hsz n h2]
  exact⟨ha,h1,h2,rfl,h3⟩
 unfold af2 at h
 by_cases hl:o8 (s.get! p).toNat=true
 ·rw[if_pos hl]at h
  unfold ah8 at h
  by_cases h12:12<f9 aP (s.extract p s.size).data.toList
  ·rw[if_pos h12]at h;simp at h
  ·rw[if_neg h12,rB s p (by omega)]at h
   have hw:aP (s.get! p).toNat=true:=by simp[aP,hl]
   obtain⟨h1,h2,h3⟩:=ep0 aP ea7 hp hw
   simp only[Prod.mk.injEq,and_true]at h
   subst h
   exact fin _ h1 h2 h3 _ rfl rfl
 ·rw[if_neg hl]at h
  by_cases hd:i9 (s.get! p).toNat=true
  ·rw[if_pos hd,rB s p (by omega)]at h
   obtain⟨h1,h2,h3⟩:=ep0 i9 ej4 hp hd
   unfold hO at h
   split at h
   ·simp at h
   ·split at h
    ·simp at h
    ·simp only[Prod.mk.injEq,and_true]at h
     subst h
     exact fin _ h1 h2 h3 _ rfl rfl
  ·rw[if_neg hd]at h
   unfold eE at h
   rw[rB s p (by omega)]at h
   by_cases h0:xH (s.data.toList.drop p)=0
   ·rw[if_pos h0]at h;simp at h
   ·rw[if_neg h0]at h
    obtain⟨h1,h2,h3⟩:=fd2 hp h0
    simp only[Prod.mk.injEq,and_true]at h
    subst h
    exact fin _ h1 h2 h3 _ rfl rfl
theorem do2 {s : ByteArray} {p : Nat} (hp : p < s.size) (h : (s.get! p).toNat = 35) :
 1 ≤ f9 nG (s.data.toList.drop p) ∧ p + f9 nG (s.data.toList.drop p) ≤ s.size ∧ Bd s p (p + f9 nG (s.data.toList.drop p)) := by
 have h1 : 1 ≤ f9 nG (s.data.toList.drop p) := by rw [cH s p hp]; exact bs5 _ _ _ (by rw [h]; rfl)
 have h2 : p + f9 nG (s.data.toList.drop p) ≤ s.size := by
  have := bh3 nG (s.data.toList.drop p)
  simp at this
  omega
 refine ⟨h1, h2, ?_⟩
 rcases Nat.eq_or_lt_of_le h2 with he | hlt
 ·exact .inr (.inl he)
 ·right; right
  refine ⟨hlt, ?_⟩
  -- the byte behind the kO is a line feed
  have key : ∀ (l : List UInt8), f9 nG l < l.length → l[f9 nG l]? = some 10 := by
   intro l
   induction l with
   | nil => intro h; simp at h
   | cons b l ih =>
    intro h
    cases hb : nG b.toNat
    ·have : b.toNat = 10 := by simp [nG] at hb; omega
     have hb10 : b = 10 := UInt8.toNat_inj.1 (by simpa using this)
     simp [f9, hb10, nG]
    ·have e : f9 nG (b :: l) = f9 nG l + 1 := by simp [f9, List.takeWhile_cons, hb]
     rw [e] at h ⊢
     simpa using ih (by simpa using h)
  have := key (s.data.toList.drop p) (by simp; omega)
  rw [List.getElem?_drop] at this
  rw [(ep2 s _ _ this).2]
  decide
end Go.Proofs.Lx
/- Plain: Lex is a function; it is reckoned. -/
namespace Go.Proofs.Lx
open Go
theorem ew4{s:ByteArray}{p:Nat}{acc:List Tkn}{r r':List Tkn×Nat×Int}(h:Lex s p acc r):Lex s p acc r'→r=r':=by
 induction h with
 |fin hp=>intro h';cases h'<;>first|rfl|omega
 |white hp hw _ ih=>
  intro h'
  cases h' with
  |fin h=>omega
  |white _ _ h=>exact ih h
  |hash _ h35 _=>rw[h35]at hw;exact absurd hw (by decide)
  |tok _ h _ _ _=>rw[hw]at h;cases h
  |err _ h _ _ _=>rw[hw]at h;cases h
 |hash hp h35 _ ih=>
  intro h'
  cases h' with
  |fin h=>omega
  |white _ hw _=>rw[h35]at hw;exact absurd hw (by decide)
  |hash _ _ h=>exact ih h
  |tok _ _ h _ _=>exact absurd h35 h
  |err _ _ h _ _=>exact absurd h35 h
 |tok hp hw h35 ht _ ih=>
  intro h'
  cases h' with
  |fin h=>omega
  |white _ h _=>rw[hw]at h;cases h
  |hash _ h _=>exact absurd h h35
  |tok _ _ _ h h2=>
   rw[ht]at h
   simp only[Prod.mk.injEq,and_true]at h
   subst h
   exact ih h2
  |err _ _ _ h he=>
   rw[ht]at h
   simp only[Prod.mk.injEq]at h
   exact absurd h.2.symm he
 |err hp hw h35 ht he=>
  intro h'
  cases h' with
  |fin h=>omega
  |white _ h _=>rw[hw]at h;cases h
  |hash _ h _=>exact absurd h h35
  |tok _ _ _ h _=>
   rw[ht]at h
   simp only[Prod.mk.injEq]at h
   exact absurd h.2 he
  |err _ _ _ h _=>
   rw[ht]at h
   simp only[Prod.mk.injEq]at h
   rw[h.2]
def fT(s:ByteArray)(r:List Tkn×Nat×Int):Prop:=(4000<s.size∧r=([],4000,2))∨(s.size≤4000∧Lex s 0 [] r)
theorem nE{s:ByteArray}{r r':List Tkn×Nat×Int}(h:fT s r)(h':fT s r'):r=r':=by
 rcases h with⟨h1,rfl⟩ | ⟨h1,h2⟩<;>rcases h' with⟨h3,rfl⟩ | ⟨h3,h4⟩
 ·rfl
 ·omega
 ·omega
 ·exact ew4 h2 h4
end Go.Proofs.Lx
/- Expressions, lifted. -/
namespace Go.Proofs.YtcijknknahbbnaaGreatDoor
open Go Go.Am Go.Proofs
set_option maxRecDepth 100000
theorem et0{f:FuncId}{args:List V}{L H:List (Option Chunk)}{a b:Int}{s:ByteArray}{g:Nat→List V}(h:SC E5 f args L (.ret (.agg [i64 a,i64 b,st s,g9]) H)):SC E5 f args L (.ret (.agg [i64 a,i64 b,st s,.ro 4 0 g]) H):=
 SC.le h (Le.agg (LeL.cons (Le.refl _) (LeL.cons (Le.refl _) (LeL.cons (Le.refl _) (LeL.cons Le.nil_ro LeL.nil)))))
theorem fk1{f:FuncId}{args:List V}{L:List (Option Chunk)}{a b pa po:Int}{s:ByteArray}{tn nv np m:Nat}{tf vf pf g:Nat→List V}
 (h:SC E5 f args L (.ret (.agg [i64 a,i64 b,st s,.sl 3 4 0 m]) [some (.blk [.ro 4 tn tf,i64 pa,i64 po,.sl 1 1 0 nv,.sl 2 1 0 np]),some (.row 9 1 nv vf),some (.row 9 1 np pf),some (.row 46 4 m g)])):
 SC E5 f args L (.ret (.agg [i64 a,i64 b,st s,.ro 4 m g]) [some (.blk [.ro 4 tn tf,i64 pa,i64 po,.sl 1 1 0 nv,.sl 2 1 0 np]),some (.row 9 1 nv vf),some (.row 9 1 np pf)]):=by
 have h2:=SC.giveM (L2:=[some (.blk [.ro 4 tn tf,i64 pa,i64 po,.sl 1 1 0 nv,.sl 2 1 0 np]),some (.row 9 1 nv vf),some (.row 9 1 np pf)]) 3 h (by rfl) (by simp[V.bw,V.bw2,V.bw1,hp,V.pure,j7])
 simpa[V.bw,V.bw2,V.bw1,hp]using h2
theorem ce2{f:FuncId}{args:List V}{L:List (Option Chunk)}{a b pa po:Int}{s:ByteArray}{tn nv np m:Nat}{tf vf pf g:Nat→List V}
 (h:SC E5 f args L (.ret (.agg [i64 a,i64 b,st s,.sl 3 4 0 m]) [some (.blk [.ro 4 tn tf,i64 pa,i64 po,.sl 1 1 0 nv,.sl 2 1 0 np]),some (.row 9 1 nv vf),some (.row 9 1 np pf),some (.row 46 4 m g)])):
 SC E5 f args L (.ret (.agg [i64 a,i64 b,st s,.ro 4 m g]) [some (.blk [.ro 4 tn tf,i64 pa,i64 po,.sl 1 1 0 nv,.sl 2 1 0 np]),some (.row 9 1 nv vf),some (.row 9 1 np pf)]):=fk1 h
theorem fo5{f:FuncId}{args:List V}{L:List (Option Chunk)}{a b pa po:Int}{s:ByteArray}{tn nv np m:Nat}{tf vf pf g:Nat→List V}
 (h:SC E5 f args L (.ret (.agg [i64 a,i64 b,st s,.sl 3 4 0 m]) [some (.blk [.ro 4 tn tf,i64 pa,i64 po,.sl 1 1 0 nv,.sl 2 1 0 np]),some (.row 9 1 nv vf),some (.row 9 1 np pf),some (.row 46 4 m g)])):
 SC E5 f args L (.ret (.agg [i64 a,i64 b,st s,.ro 4 m (fun j=>fixC (g j))]) [some (.blk [.ro 4 tn tf,i64 pa,i64 po,.sl 1 1 0 nv,.sl 2 1 0 np]),some (.row 9 1 nv vf),some (.row 9 1 np pf)]):=
 SC.le (fk1 h) (Le.agg (LeL.cons (Le.refl _) (LeL.cons (Le.refl _) (LeL.cons (Le.refl _) (LeL.cons Le.ro_fix LeL.nil)))))
abbrev af0:Type:=SP
abbrev lJ:Type:=(Int×Int×ByteArray×SP)⊕(Int×Int)
def ad3:AR af0:=fun x=>([.ptr 0 0],(hHP x))
def af6:lJ→CRes:=Sum.elim (fun z:Int×Int×ByteArray×SP=>.ret (.agg [i64 z.1,i64 z.2.1,st z.2.2.1,g9]) (hHP z.2.2.2)) (fun z:Int×Int=>.pan (.ifc 67 (.agg [i64 z.1,i64 z.2])))
def kU{β:Type}(c_number:qB→Option qL)(c_next:v8→Option y5)(c_Lookup:jW→Option kF)(x:af0)(dn:lJ→Option β):Option β:=
 (c_number (0,2147483647,x)).bind fun z13=>Sum.elim (fun z13a=>(c_next z13a.2).bind fun z25=>if(z25.1==1)=true then(c_Lookup z25.2.2.1).bind fun z27=>if z27.2.2.2.2.2.2=true then dn (.inl (15,z13a.1,z25.2.2.1,w (z25.2.2.2.2.1+1),z25.2.2.2.2.2))else dn (.inl (15,z13a.1,⟨#[]⟩,z25.2.2.2.2))else dn (.inl (15,z13a.1,⟨#[]⟩,z25.2.2.2.2))) (fun z13b=>dn (.inr z13b)) z13
theorem cz6{β:Type}(c_number c_next c_Lookup)(x)(dn:lJ→Option β):kU c_number c_next c_Lookup x dn=(kU c_number c_next c_Lookup x some).bind dn:=by
 unfold kU
 repeat' first|exact n0|refine n1 fun _=>?_|refine n2 ?_ ?_|refine n3 (fun _=>?_) fun _=>?_|rfl
theorem df7(c_number c_next c_Lookup)(x):j8 E5 (ft2 142 eP tW c_number (ftb 18 g8 s6 c_next (ftb 20 cP qO c_Lookup ca0))) lo0 143 (ad3 x).1 (ad3 x).2 K=kU (vf eP c_number) (vf g8 c_next) (vf cP c_Lookup) x (fun z=>some (.c (af6 z))):=by kernel_rfl
noncomputable def bg4(q:Nat)(x:af0):Option lJ:=kU (nM q) (next q) (qH q) x some
theorem cp0(q:Nat):Lw E5 143 ad3 af6 (bg4 q):=sof hW5 hX5 (fk2 (ap5 q) (fk (gW q) (fk (aq5 q) a8))) (fun _=>b8) fun x=>(df7 (nM q) (next q) (qH q) x).trans (by rw[bd8,eA,ag5,cz6]<;>rfl)
abbrev lY:Type:=SP
abbrev lL:Type:=(Int×Int×ByteArray×Nat×FL×SP)⊕(Int×Int)
def cJ:AR lY:=fun x=>([.ptr 0 0],(hHP x))
def dt5(t:TT):lY:=(dHP t.2)
theorem zW:VI cJ:=vd dt5 fun _=>rfl
def kY:lL→CRes:=Sum.elim (fun z:Int×Int×ByteArray×Nat×FL×SP=>.ret (.agg [i64 z.1,i64 z.2.1,st z.2.2.1,.ro 4 z.2.2.2.1 z.2.2.2.2.1]) (hHP z.2.2.2.2.2)) (fun z:Int×Int=>.pan (.ifc 67 (.agg [i64 z.1,i64 z.2])))
def ag2:lJ→lL:=Sum.elim (fun z=>.inl (z.1,z.2.1,z.2.2.1,0,fun _=>[],z.2.2.2)) (fun z=>.inr z)
theorem cq4{args:List V}{L:List (Option Chunk)}(z:lJ)(h:SC E5 143 args L (af6 z)):SC E5 143 args L (kY (ag2 z)):=by
 rcases z with z|z
 ·exact et0 h
 ·exact h
noncomputable def gB(q:Nat)(x:lY):Option lL:=(bg4 q x).map ag2
theorem vP(q:Nat):Lw E5 143 cJ kY (gB q):=by
 intro x z h
 obtain⟨y,hy,rfl⟩:=Option.map_eq_some_iff.1 h
 exact cq4 y (cp0 q x y hy)
abbrev iL:Type:=Int×SP
abbrev iM:Type:=(Int×Int×ByteArray×Nat×FL×SP)⊕(Int×Int)
def q9:AR iL:=fun x=>([.ptr 0 0,i64 x.1],(hHP x.2))
def ff9(t:TT):iL:=((vI (ag t 1)),dHP t.2)
theorem sP:VI q9:=vd ff9 fun _=>rfl
def dZ:iM→CRes:=Sum.elim (fun z:Int×Int×ByteArray×Nat×FL×SP=>.ret (.agg [i64 z.1,i64 z.2.1,st z.2.2.1,.ro 4 z.2.2.2.1 z.2.2.2.2.1]) (hHP z.2.2.2.2.2)) (fun z:Int×Int=>.pan (.ifc 67 (.agg [i64 z.1,i64 z.2])))
abbrev rX:Type:=ByteArray×Int×SP
abbrev rO:Type:=(Int×Int×ByteArray×Nat×FL×SP)⊕(Int×Int)
def kH:AR rX:=fun x=>([.ptr 0 0,st x.1,i64 x.2.1],(hHP x.2.2))
def ev5(t:TT):rX:=((vS (ag t 1)),vI (ag t 2),dHP t.2)
theorem by9:VI kH:=vd ev5 fun _=>rfl
def uO:rO→CRes:=Sum.elim (fun z:Int×Int×ByteArray×Nat×FL×SP=>.ret (.agg [i64 z.1,i64 z.2.1,st z.2.2.1,.ro 4 z.2.2.2.1 z.2.2.2.2.1]) (hHP z.2.2.2.2.2)) (fun z:Int×Int=>.pan (.ifc 67 (.agg [i64 z.1,i64 z.2])))
abbrev iR:Type:=SP
abbrev iW:Type:=(Int×Int×ByteArray×Nat×FL×SP)⊕(Int×Int)
def cG:AR iR:=fun x=>([.ptr 0 0],(hHP x))
def dz8(t:TT):iR:=(dHP t.2)
theorem an6:VI cG:=vd dz8 fun _=>rfl
def lM:iW→CRes:=Sum.elim (fun z:Int×Int×ByteArray×Nat×FL×SP=>.ret (.agg [i64 z.1,i64 z.2.1,st z.2.2.1,.ro 4 z.2.2.2.1 z.2.2.2.2.1]) (hHP z.2.2.2.2.2)) (fun z:Int×Int=>.pan (.ifc 67 (.agg [i64 z.1,i64 z.2])))
abbrev jN:Type:=Int×SP
abbrev ag6:Type:=(Int×Int×ByteArray×Nat×FL×SP)⊕(Int×Int)⊕(Int×Int×ByteArray×Int×Int×ByteArray×Nat×FL×Int×Int×ByteArray×Nat×FL×SP)
def ca9:AR jN:=fun x=>([.ptr 0 0,i64 x.1],(hHP x.2))
def cf3:ag6→CRes:=Sum.elim (fun z:Int×Int×ByteArray×Nat×FL×SP=>.ret (.agg [i64 z.1,i64 z.2.1,st z.2.2.1,.ro 4 z.2.2.2.1 z.2.2.2.2.1]) (hHP z.2.2.2.2.2)) (Sum.elim (fun z:Int×Int=>.pan (.ifc 67 (.agg [i64 z.1,i64 z.2]))) (fun z:Int×Int×ByteArray×Int×Int×ByteArray×Nat×FL×Int×Int×ByteArray×Nat×FL×SP=>.ret (.agg [i64 z.1,i64 z.2.1,st z.2.2.1,.sl 3 4 0 2]) [some (.blk [.ro 4 z.2.2.2.2.2.2.2.2.2.2.2.2.2.2.2.1 (fun j=>[i64 (z.2.2.2.2.2.2.2.2.2.2.2.2.2.2.2.2.1 j),i64 (z.2.2.2.2.2.2.2.2.2.2.2.2.2.2.2.2.2.1 j),st (z.2.2.2.2.2.2.2.2.2.2.2.2.2.2.2.2.2.2.1 j),i64 (z.2.2.2.2.2.2.2.2.2.2.2.2.2.2.2.2.2.2.2.1 j)]),i64 z.2.2.2.2.2.2.2.2.2.2.2.2.2.1,i64 z.2.2.2.2.2.2.2.2.2.2.2.2.2.2.1,.sl 1 1 0 z.2.2.2.2.2.2.2.2.2.2.2.2.2.2.2.2.2.2.2.2.1,.sl 2 1 0 z.2.2.2.2.2.2.2.2.2.2.2.2.2.2.2.2.2.2.2.2.2.2.1]),some (.row 9 1 z.2.2.2.2.2.2.2.2.2.2.2.2.2.2.2.2.2.2.2.2.1 (fun j=>[st (z.2.2.2.2.2.2.2.2.2.2.2.2.2.2.2.2.2.2.2.2.2.1 j)])),some (.row 9 1 z.2.2.2.2.2.2.2.2.2.2.2.2.2.2.2.2.2.2.2.2.2.2.1 (fun j=>[st (z.2.2.2.2.2.2.2.2.2.2.2.2.2.2.2.2.2.2.2.2.2.2.2 j)])),some (.row 46 4 2 (mP [[i64 z.2.2.2.1,i64 z.2.2.2.2.1,st z.2.2.2.2.2.1,.ro 4 z.2.2.2.2.2.2.1 z.2.2.2.2.2.2.2.1],[i64 z.2.2.2.2.2.2.2.2.1,i64 z.2.2.2.2.2.2.2.2.2.1,st z.2.2.2.2.2.2.2.2.2.2.1,.ro 4 z.2.2.2.2.2.2.2.2.2.2.2.1 z.2.2.2.2.2.2.2.2.2.2.2.2.1]]))]))
abbrev cg5:Type:=ByteArray×Int×SP
abbrev xR:Type:=(Int×Int×ByteArray×Int×Int×ByteArray×Nat×FL×SP)⊕(Int×Int)
def be3:AR cg5:=fun x=>([.ptr 0 0,st x.1,i64 x.2.1],(hHP x.2.2))
def bb2:xR→CRes:=Sum.elim (fun z:Int×Int×ByteArray×Int×Int×ByteArray×Nat×FL×SP=>.ret (.agg [i64 z.1,i64 z.2.1,st z.2.2.1,.sl 3 4 0 1]) [some (.blk [.ro 4 z.2.2.2.2.2.2.2.2.2.2.1 (fun j=>[i64 (z.2.2.2.2.2.2.2.2.2.2.2.1 j),i64 (z.2.2.2.2.2.2.2.2.2.2.2.2.1 j),st (z.2.2.2.2.2.2.2.2.2.2.2.2.2.1 j),i64 (z.2.2.2.2.2.2.2.2.2.2.2.2.2.2.1 j)]),i64 z.2.2.2.2.2.2.2.2.1,i64 z.2.2.2.2.2.2.2.2.2.1,.sl 1 1 0 z.2.2.2.2.2.2.2.2.2.2.2.2.2.2.2.1,.sl 2 1 0 z.2.2.2.2.2.2.2.2.2.2.2.2.2.2.2.2.2.1]),some (.row 9 1 z.2.2.2.2.2.2.2.2.2.2.2.2.2.2.2.1 (fun j=>[st (z.2.2.2.2.2.2.2.2.2.2.2.2.2.2.2.2.1 j)])),some (.row 9 1 z.2.2.2.2.2.2.2.2.2.2.2.2.2.2.2.2.2.1 (fun j=>[st (z.2.2.2.2.2.2.2.2.2.2.2.2.2.2.2.2.2.2 j)])),some (.row 46 4 1 (mP [[i64 z.2.2.2.1,i64 z.2.2.2.2.1,st z.2.2.2.2.2.1,.ro 4 z.2.2.2.2.2.2.1 z.2.2.2.2.2.2.2.1]]))]) (fun z:Int×Int=>.pan (.ifc 67 (.agg [i64 z.1,i64 z.2])))
abbrev bc8:Type:=SP
abbrev rE:Type:=(Int×Int×ByteArray×Nat×FL×SP)⊕(Int×Int)⊕(Int×Int×ByteArray×SP)
def ac7:AR bc8:=fun x=>([.ptr 0 0],(hHP x))
def ad4:rE→CRes:=Sum.elim (fun z:Int×Int×ByteArray×Nat×FL×SP=>.ret (.agg [i64 z.1,i64 z.2.1,st z.2.2.1,.ro 4 z.2.2.2.1 z.2.2.2.2.1]) (hHP z.2.2.2.2.2)) (Sum.elim (fun z:Int×Int=>.pan (.ifc 67 (.agg [i64 z.1,i64 z.2]))) (fun z:Int×Int×ByteArray×SP=>.ret (.agg [i64 z.1,i64 z.2.1,st z.2.2.1,g9]) (hHP z.2.2.2)))
abbrev bZ:Type:=(Nat×FI×FI×FS×FI×Int×Int×Nat×Nat×FS×FS×Int×Int×ByteArray×Nat×FL)⊕(Nat×FI×FI×FS×FI×Int×Int×Nat×Nat×FS×FS×ByteArray×Int×Int×ByteArray×Nat×FL×Int×Int×ByteArray×Nat×FL)
abbrev lF:Type:=(Nat×FI×FI×FS×FI×Int×Int×Nat×Nat×FS×FS×ByteArray×Int×Int×ByteArray×Nat×FL×Int×Int×ByteArray×Nat×FL)⊕(Int×Int)⊕(Nat×FI×FI×FS×FI×Int×Int×Nat×Nat×FS×FS×Int×Int×ByteArray×Nat×FL)
def cj4(x:jN)(y:Nat×FI×FI×FS×FI×Int×Int×Nat×Nat×FS×FS×Int×Int×ByteArray×Nat×FL):St:={fr:=[V.ptr 0 0,i64 x.1,V.junk,V.junk,V.ptr 3 0,V.ptr 4 0]++jk 61,H:=hp [some (hPB y),some (hPV y),some (hPQ y),some (Chunk.blk [i64 0,i64 0,st ⟨#[]⟩,g9]),some (Chunk.blk [i64 y.2.2.2.2.2.2.2.2.2.2.2.1,i64 y.2.2.2.2.2.2.2.2.2.2.2.2.1,st y.2.2.2.2.2.2.2.2.2.2.2.2.2.1,V.ro 4 y.2.2.2.2.2.2.2.2.2.2.2.2.2.2.1 y.2.2.2.2.2.2.2.2.2.2.2.2.2.2.2])],nx:=5,rt:=1,me:=141}
def cg7(s:St):Nat×FI×FI×FS×FI×Int×Int×Nat×Nat×FS×FS×Int×Int×ByteArray×Nat×FL:=((kP (cb s 0 0)),dTI (cb s 0 0) 0,dTI (cb s 0 0) 1,dTS (cb s 0 0) 2,dTI (cb s 0 0) 3,vI (cb s 0 1),vI (cb s 0 2),fE (cb s 0 3),fE (cb s 0 4),dRS (s.H 1) 0,dRS (s.H 2) 0,vI (cb s 4 0),vI (cb s 4 1),vS (cb s 4 2),kP (cb s 4 3),nX (cb s 4 3))
def cn3(x:jN)(y:Nat×FI×FI×FS×FI×Int×Int×Nat×Nat×FS×FS×ByteArray×Int×Int×ByteArray×Nat×FL×Int×Int×ByteArray×Nat×FL):St:={fr:=[V.ptr 0 0,i64 x.1,V.junk,V.junk,V.ptr 3 0,V.ptr 4 0]++jk 61,H:=hp [some (hPB y),some (hPV y),some (hPQ y),some (Chunk.blk [i64 0,i64 0,st ⟨#[]⟩,g9]),some (Chunk.blk [i64 20,i64 0,st y.2.2.2.2.2.2.2.2.2.2.2.1,V.sl 5 4 0 2]),some (Chunk.row 46 4 2 (mP [[i64 y.2.2.2.2.2.2.2.2.2.2.2.2.1,i64 y.2.2.2.2.2.2.2.2.2.2.2.2.2.1,st y.2.2.2.2.2.2.2.2.2.2.2.2.2.2.1,V.ro 4 y.2.2.2.2.2.2.2.2.2.2.2.2.2.2.2.1 y.2.2.2.2.2.2.2.2.2.2.2.2.2.2.2.2.1],[i64 y.2.2.2.2.2.2.2.2.2.2.2.2.2.2.2.2.2.1,i64 y.2.2.2.2.2.2.2.2.2.2.2.2.2.2.2.2.2.2.1,st y.2.2.2.2.2.2.2.2.2.2.2.2.2.2.2.2.2.2.2.1,V.ro 4 y.2.2.2.2.2.2.2.2.2.2.2.2.2.2.2.2.2.2.2.2.1 y.2.2.2.2.2.2.2.2.2.2.2.2.2.2.2.2.2.2.2.2.2]]))],nx:=6,rt:=1,me:=141}
def cu9(s:St):Nat×FI×FI×FS×FI×Int×Int×Nat×Nat×FS×FS×ByteArray×Int×Int×ByteArray×Nat×FL×Int×Int×ByteArray×Nat×FL:=((kP (cb s 0 0)),dTI (cb s 0 0) 0,dTI (cb s 0 0) 1,dTS (cb s 0 0) 2,dTI (cb s 0 0) 3,vI (cb s 0 1),vI (cb s 0 2),fE (cb s 0 3),fE (cb s 0 4),dRS (s.H 1) 0,dRS (s.H 2) 0,vS (cb s 4 2),(vI (((chF (s.H 5)) 0).getD 0 .junk)),(vI (((chF (s.H 5)) 0).getD 1 .junk)),(vS (((chF (s.H 5)) 0).getD 2 .junk)),(kP (((chF (s.H 5)) 0).getD 3 .junk)),(nX (((chF (s.H 5)) 0).getD 3 .junk)),(vI (((chF (s.H 5)) 1).getD 0 .junk)),(vI (((chF (s.H 5)) 1).getD 1 .junk)),(vS (((chF (s.H 5)) 1).getD 2 .junk)),(kP (((chF (s.H 5)) 1).getD 3 .junk)),(nX (((chF (s.H 5)) 1).getD 3 .junk)))
def fB(x:jN):bZ→St:=(Sum.elim (cj4 x) (cn3 x))
def di2(s:St):bZ:=(match s.nx==5 with|true=>(.inl (cg7 s)) |false=>(.inr (cu9 s)))
theorem di0(x:jN):VL (fB x):=vl di2 (fun y=>by rcases y with y|y<;>rfl)
def lU(x:jN):lF→Ex×St:=(Sum.elim (fun z=>(Ex.exit 1,{fr:=jk 4++[V.ptr 3 0,V.ptr 4 0]++jk 61,H:=hp [some (hPB z),some (hPV z),some (hPQ z),some (Chunk.blk [i64 0,i64 0,st ⟨#[]⟩,g9]),some (Chunk.blk [i64 20,i64 0,st z.2.2.2.2.2.2.2.2.2.2.2.1,V.sl 5 4 0 2]),some (Chunk.row 46 4 2 (mP [[i64 z.2.2.2.2.2.2.2.2.2.2.2.2.1,i64 z.2.2.2.2.2.2.2.2.2.2.2.2.2.1,st z.2.2.2.2.2.2.2.2.2.2.2.2.2.2.1,V.ro 4 z.2.2.2.2.2.2.2.2.2.2.2.2.2.2.2.1 z.2.2.2.2.2.2.2.2.2.2.2.2.2.2.2.2.1],[i64 z.2.2.2.2.2.2.2.2.2.2.2.2.2.2.2.2.2.1,i64 z.2.2.2.2.2.2.2.2.2.2.2.2.2.2.2.2.2.2.1,st z.2.2.2.2.2.2.2.2.2.2.2.2.2.2.2.2.2.2.2.1,V.ro 4 z.2.2.2.2.2.2.2.2.2.2.2.2.2.2.2.2.2.2.2.2.1 z.2.2.2.2.2.2.2.2.2.2.2.2.2.2.2.2.2.2.2.2.2]]))],nx:=6,rt:=1,me:=141})) (Sum.elim (fun z=>(Ex.panic (V.ifc 67 (V.agg [i64 z.1,i64 z.2])),{fr:=[V.junk]++jk 66,H:=hp [none],nx:=1,rt:=1,me:=141})) (fun z=>(Ex.exit 1,{fr:=jk 4++[V.ptr 3 0,V.ptr 4 0]++jk 61,H:=hp [some (hPB z),some (hPV z),some (hPQ z),some (Chunk.blk [i64 0,i64 0,st ⟨#[]⟩,g9]),some (Chunk.blk [i64 z.2.2.2.2.2.2.2.2.2.2.2.1,i64 z.2.2.2.2.2.2.2.2.2.2.2.2.1,st z.2.2.2.2.2.2.2.2.2.2.2.2.2.1,V.ro 4 z.2.2.2.2.2.2.2.2.2.2.2.2.2.2.1 z.2.2.2.2.2.2.2.2.2.2.2.2.2.2.2])],nx:=5,rt:=1,me:=141}))))
def jJ{β:Type}(c_is:ao2→Option aq4)(c_unary:rX→Option rO)(c_primary:iR→Option iW)(c_expr:iL→Option iM)(c_next:v8→Option y5)(c_levelOf:jF→Option iQ)(x:jN)(y:Nat×FI×FI×FS×FI×Int×Int×Nat×Nat×FS×FS×Int×Int×ByteArray×Nat×FL)(nx:bZ→Option β)(dn:lF→Option β):Option β:=
 (c_next (y.2.2.2.2.2.1,y.2.2.2.2.2.2.1,y.1,y.2.1,y.2.2.1,y.2.2.2.1,y.2.2.2.2.1,y.2.2.2.2.2.2.2.1,y.2.2.2.2.2.2.2.2.2.1,y.2.2.2.2.2.2.2.2.1,y.2.2.2.2.2.2.2.2.2.2.1)).bind fun z765=>(c_levelOf z765.2.2.1).bind fun z767=>if(z767==x.1)=true then(c_next z765.2.2.2.2).bind fun z779=>if(z779.1==3)=true then(c_next z779.2.2.2.2).bind fun z791=>(c_expr (w (x.1+1),w (z791.2.2.2.2.1+1),z791.2.2.2.2.2)).bind fun z804=>Sum.elim (fun z804a=>if(x.1==4)=true then dn (.inl (z804a.2.2.2.2.2.2.2.1,z804a.2.2.2.2.2.2.2.2.1,z804a.2.2.2.2.2.2.2.2.2.1,z804a.2.2.2.2.2.2.2.2.2.2.1,z804a.2.2.2.2.2.2.2.2.2.2.2.1,z804a.2.2.2.2.2.1,z804a.2.2.2.2.2.2.1,z804a.2.2.2.2.2.2.2.2.2.2.2.2.1,z804a.2.2.2.2.2.2.2.2.2.2.2.2.2.2.1,z804a.2.2.2.2.2.2.2.2.2.2.2.2.2.1,z804a.2.2.2.2.2.2.2.2.2.2.2.2.2.2.2,z791.2.2.1,y.2.2.2.2.2.2.2.2.2.2.2.1,y.2.2.2.2.2.2.2.2.2.2.2.2.1,y.2.2.2.2.2.2.2.2.2.2.2.2.2.1,y.2.2.2.2.2.2.2.2.2.2.2.2.2.2.1,y.2.2.2.2.2.2.2.2.2.2.2.2.2.2.2,z804a.1,z804a.2.1,z804a.2.2.1,z804a.2.2.2.1,z804a.2.2.2.2.1))else nx (.inr (z804a.2.2.2.2.2.2.2.1,z804a.2.2.2.2.2.2.2.2.1,z804a.2.2.2.2.2.2.2.2.2.1,z804a.2.2.2.2.2.2.2.2.2.2.1,z804a.2.2.2.2.2.2.2.2.2.2.2.1,z804a.2.2.2.2.2.1,z804a.2.2.2.2.2.2.1,z804a.2.2.2.2.2.2.2.2.2.2.2.2.1,z804a.2.2.2.2.2.2.2.2.2.2.2.2.2.2.1,z804a.2.2.2.2.2.2.2.2.2.2.2.2.2.1,z804a.2.2.2.2.2.2.2.2.2.2.2.2.2.2.2,z791.2.2.1,y.2.2.2.2.2.2.2.2.2.2.2.1,y.2.2.2.2.2.2.2.2.2.2.2.2.1,y.2.2.2.2.2.2.2.2.2.2.2.2.2.1,y.2.2.2.2.2.2.2.2.2.2.2.2.2.2.1,y.2.2.2.2.2.2.2.2.2.2.2.2.2.2.2,z804a.1,z804a.2.1,z804a.2.2.1,z804a.2.2.2.1,z804a.2.2.2.2.1))) (fun z804b=>dn (.inr (.inl z804b))) z804 else dn (.inr (.inr (z779.2.2.2.2.2.2.1,z779.2.2.2.2.2.2.2.1,z779.2.2.2.2.2.2.2.2.1,z779.2.2.2.2.2.2.2.2.2.1,z779.2.2.2.2.2.2.2.2.2.2.1,z779.2.2.2.2.1,z779.2.2.2.2.2.1,z779.2.2.2.2.2.2.2.2.2.2.2.1,z779.2.2.2.2.2.2.2.2.2.2.2.2.2.1,z779.2.2.2.2.2.2.2.2.2.2.2.2.1,z779.2.2.2.2.2.2.2.2.2.2.2.2.2.2,y.2.2.2.2.2.2.2.2.2.2.2)))else dn (.inr (.inr (z765.2.2.2.2.2.2.1,z765.2.2.2.2.2.2.2.1,z765.2.2.2.2.2.2.2.2.1,z765.2.2.2.2.2.2.2.2.2.1,z765.2.2.2.2.2.2.2.2.2.2.1,z765.2.2.2.2.1,z765.2.2.2.2.2.1,z765.2.2.2.2.2.2.2.2.2.2.2.1,z765.2.2.2.2.2.2.2.2.2.2.2.2.2.1,z765.2.2.2.2.2.2.2.2.2.2.2.2.1,z765.2.2.2.2.2.2.2.2.2.2.2.2.2.2,y.2.2.2.2.2.2.2.2.2.2.2)))
theorem cq2{β:Type}(c_is c_unary)(c_primary c_expr)(c_next c_levelOf)(x)(y)(nx:bZ→Option β)(dn):jJ c_is c_unary c_primary c_expr c_next c_levelOf x y nx dn=(jJ c_is c_unary c_primary c_expr c_next c_levelOf x y (fun y=>some (.inl y)) (fun z=>some (.inr z))).bind fun r=>Sum.elim nx dn r:=by
 unfold jJ
 repeat' first|exact n0|refine n1 fun _=>?_|refine n2 ?_ ?_|refine n3 (fun _=>?_) fun _=>?_|rfl
theorem ct8(c_is c_unary)(c_primary c_expr)(c_next c_levelOf)(x)(y)(lo:f7):r9 E5 (ftb 121 qQ ap0 c_is (ft2 149 kH uO c_unary (ft2 150 cG lM c_primary (ft2 141 q9 dZ c_expr (ftb 18 g8 s6 c_next (ftb 151 bO lI c_levelOf ca0)))))) lo 1 51 (b6 E5 141 1) (fB x (.inl y)) (KCM [(1,48)] 16)=jJ (vf qQ c_is) (vf kH c_unary) (vf cG c_primary) (vf q9 c_expr) (vf g8 c_next) (vf bO c_levelOf) x y (fun y=>lo 1 51 (b6 E5 141 1) (fB x y) (KCM [(1,48)] 16)) (fun z=>some (.l (lU x z).1 (lU x z).2)):=by kernel_rfl
def jC{β:Type}(c_is:ao2→Option aq4)(c_unary:rX→Option rO)(c_primary:iR→Option iW)(c_expr:iL→Option iM)(c_next:v8→Option y5)(c_levelOf:jF→Option iQ)(x:jN)(y:Nat×FI×FI×FS×FI×Int×Int×Nat×Nat×FS×FS×ByteArray×Int×Int×ByteArray×Nat×FL×Int×Int×ByteArray×Nat×FL)(nx:bZ→Option β)(dn:lF→Option β):Option β:=
 (c_next (y.2.2.2.2.2.1,y.2.2.2.2.2.2.1,y.1,y.2.1,y.2.2.1,y.2.2.2.1,y.2.2.2.2.1,y.2.2.2.2.2.2.2.1,y.2.2.2.2.2.2.2.2.2.1,y.2.2.2.2.2.2.2.2.1,y.2.2.2.2.2.2.2.2.2.2.1)).bind fun z818=>(c_levelOf z818.2.2.1).bind fun z820=>if(z820==x.1)=true then(c_next z818.2.2.2.2).bind fun z832=>if(z832.1==3)=true then(c_next z832.2.2.2.2).bind fun z844=>(c_expr (w (x.1+1),w (z844.2.2.2.2.1+1),z844.2.2.2.2.2)).bind fun z857=>Sum.elim (fun z857a=>if(x.1==4)=true then dn (.inl (z857a.2.2.2.2.2.2.2.1,z857a.2.2.2.2.2.2.2.2.1,z857a.2.2.2.2.2.2.2.2.2.1,z857a.2.2.2.2.2.2.2.2.2.2.1,z857a.2.2.2.2.2.2.2.2.2.2.2.1,z857a.2.2.2.2.2.1,z857a.2.2.2.2.2.2.1,z857a.2.2.2.2.2.2.2.2.2.2.2.2.1,z857a.2.2.2.2.2.2.2.2.2.2.2.2.2.2.1,z857a.2.2.2.2.2.2.2.2.2.2.2.2.2.1,z857a.2.2.2.2.2.2.2.2.2.2.2.2.2.2.2,z844.2.2.1,20,0,y.2.2.2.2.2.2.2.2.2.2.2.1,2,fun j=>[i64 (if 0+j=0 then y.2.2.2.2.2.2.2.2.2.2.2.2.1 else y.2.2.2.2.2.2.2.2.2.2.2.2.2.2.2.2.2.1),i64 (if 0+j=0 then y.2.2.2.2.2.2.2.2.2.2.2.2.2.1 else y.2.2.2.2.2.2.2.2.2.2.2.2.2.2.2.2.2.2.1),st (if 0+j=0 then y.2.2.2.2.2.2.2.2.2.2.2.2.2.2.1 else y.2.2.2.2.2.2.2.2.2.2.2.2.2.2.2.2.2.2.2.1),V.ro 4 (if 0+j=0 then y.2.2.2.2.2.2.2.2.2.2.2.2.2.2.2.1 else y.2.2.2.2.2.2.2.2.2.2.2.2.2.2.2.2.2.2.2.2.1) fun j_1=>if 0+j=0 then y.2.2.2.2.2.2.2.2.2.2.2.2.2.2.2.2.1 j_1 else y.2.2.2.2.2.2.2.2.2.2.2.2.2.2.2.2.2.2.2.2.2 j_1],z857a.1,z857a.2.1,z857a.2.2.1,z857a.2.2.2.1,z857a.2.2.2.2.1))else nx (.inr (z857a.2.2.2.2.2.2.2.1,z857a.2.2.2.2.2.2.2.2.1,z857a.2.2.2.2.2.2.2.2.2.1,z857a.2.2.2.2.2.2.2.2.2.2.1,z857a.2.2.2.2.2.2.2.2.2.2.2.1,z857a.2.2.2.2.2.1,z857a.2.2.2.2.2.2.1,z857a.2.2.2.2.2.2.2.2.2.2.2.2.1,z857a.2.2.2.2.2.2.2.2.2.2.2.2.2.2.1,z857a.2.2.2.2.2.2.2.2.2.2.2.2.2.1,z857a.2.2.2.2.2.2.2.2.2.2.2.2.2.2.2,z844.2.2.1,20,0,y.2.2.2.2.2.2.2.2.2.2.2.1,2,fun j=>[i64 (if 0+j=0 then y.2.2.2.2.2.2.2.2.2.2.2.2.1 else y.2.2.2.2.2.2.2.2.2.2.2.2.2.2.2.2.2.1),i64 (if 0+j=0 then y.2.2.2.2.2.2.2.2.2.2.2.2.2.1 else y.2.2.2.2.2.2.2.2.2.2.2.2.2.2.2.2.2.2.1),st (if 0+j=0 then y.2.2.2.2.2.2.2.2.2.2.2.2.2.2.1 else y.2.2.2.2.2.2.2.2.2.2.2.2.2.2.2.2.2.2.2.1),V.ro 4 (if 0+j=0 then y.2.2.2.2.2.2.2.2.2.2.2.2.2.2.2.1 else y.2.2.2.2.2.2.2.2.2.2.2.2.2.2.2.2.2.2.2.2.1) fun j_1=>if 0+j=0 then y.2.2.2.2.2.2.2.2.2.2.2.2.2.2.2.2.1 j_1 else y.2.2.2.2.2.2.2.2.2.2.2.2.2.2.2.2.2.2.2.2.2 j_1],z857a.1,z857a.2.1,z857a.2.2.1,z857a.2.2.2.1,z857a.2.2.2.2.1))) (fun z857b=>dn (.inr (.inl z857b))) z857 else dn (.inl (z832.2.2.2.2.2.2.1,z832.2.2.2.2.2.2.2.1,z832.2.2.2.2.2.2.2.2.1,z832.2.2.2.2.2.2.2.2.2.1,z832.2.2.2.2.2.2.2.2.2.2.1,z832.2.2.2.2.1,z832.2.2.2.2.2.1,z832.2.2.2.2.2.2.2.2.2.2.2.1,z832.2.2.2.2.2.2.2.2.2.2.2.2.2.1,z832.2.2.2.2.2.2.2.2.2.2.2.2.1,z832.2.2.2.2.2.2.2.2.2.2.2.2.2.2,y.2.2.2.2.2.2.2.2.2.2.2))else dn (.inl (z818.2.2.2.2.2.2.1,z818.2.2.2.2.2.2.2.1,z818.2.2.2.2.2.2.2.2.1,z818.2.2.2.2.2.2.2.2.2.1,z818.2.2.2.2.2.2.2.2.2.2.1,z818.2.2.2.2.1,z818.2.2.2.2.2.1,z818.2.2.2.2.2.2.2.2.2.2.2.1,z818.2.2.2.2.2.2.2.2.2.2.2.2.2.1,z818.2.2.2.2.2.2.2.2.2.2.2.2.1,z818.2.2.2.2.2.2.2.2.2.2.2.2.2.2,y.2.2.2.2.2.2.2.2.2.2.2))
theorem cq8{β:Type}(c_is c_unary)(c_primary c_expr)(c_next c_levelOf)(x)(y)(nx:bZ→Option β)(dn):jC c_is c_unary c_primary c_expr c_next c_levelOf x y nx dn=(jC c_is c_unary c_primary c_expr c_next c_levelOf x y (fun y=>some (.inl y)) (fun z=>some (.inr z))).bind fun r=>Sum.elim nx dn r:=by
 unfold jC
 repeat' first|exact n0|refine n1 fun _=>?_|refine n2 ?_ ?_|refine n3 (fun _=>?_) fun _=>?_|rfl
theorem co9(c_is c_unary)(c_primary c_expr)(c_next c_levelOf)(x)(y)(lo:f7):r9 E5 (ftb 121 qQ ap0 c_is (ft2 149 kH uO c_unary (ft2 150 cG lM c_primary (ft2 141 q9 dZ c_expr (ftb 18 g8 s6 c_next (ftb 151 bO lI c_levelOf ca0)))))) lo 1 51 (b6 E5 141 1) (fB x (.inr y)) (KCM [(1,48)] 16)=jC (vf qQ c_is) (vf kH c_unary) (vf cG c_primary) (vf q9 c_expr) (vf g8 c_next) (vf bO c_levelOf) x y (fun y=>lo 1 51 (b6 E5 141 1) (fB x y) (KCM [(1,48)] 16)) (fun z=>some (.l (lU x z).1 (lU x z).2)):=by kernel_rfl
noncomputable def pZ(c_is:ao2→Option aq4)(c_unary:rX→Option rO)(c_primary:iR→Option iW)(c_expr:iL→Option iM)(c_next:v8→Option y5)(c_levelOf:jF→Option iQ)(q:Nat)(x:jN):bZ→Option lF:=lpG (Sum.elim (fun y=>jJ c_is c_unary c_primary c_expr c_next c_levelOf x y (fun y=>some (.inl y)) (fun z=>some (.inr z))) (fun y=>jC c_is c_unary c_primary c_expr c_next c_levelOf x y (fun y=>some (.inl y)) (fun z=>some (.inr z)))) q
theorem dc1(c_is)(h_is:Lw E5 121 qQ ap0 c_is)(c_unary)(h_unary:Lw E5 149 kH uO c_unary)(c_primary)(h_primary:Lw E5 150 cG lM c_primary)(c_expr)(h_expr:Lw E5 141 q9 dZ c_expr)(c_next)(h_next:Lw E5 18 g8 s6 c_next)(c_levelOf)(h_levelOf:Lw E5 151 bO lI c_levelOf)(q:Nat)(x:jN):Ll E5 (b6 E5 141 1) (fB x) (lU x) (pZ c_is c_unary c_primary c_expr c_next c_levelOf q x):=
 slp (fk h_is (fk2 h_unary (fk2 h_primary (fk2 h_expr (fk h_next (fk h_levelOf a8)))))) hX5 (fun lo y=>by
  rcases y with y|y
  ·exact(ct8 c_is c_unary c_primary c_expr c_next c_levelOf x y lo).trans (by rw[ch0,by9,an6,sP,eA,aq3];exact cq2 _ _ _ _ _ _ _ _ _ _)
  ·exact(co9 c_is c_unary c_primary c_expr c_next c_levelOf x y lo).trans (by rw[ch0,by9,an6,sP,eA,aq3];exact cq8 _ _ _ _ _ _ _ _ _ _)) (fun z=>by rcases z with z|z|z<;>kernel_rfl) q
def rM{β:Type}(c_is:ao2→Option aq4)(c_unary:rX→Option rO)(c_primary:iR→Option iW)(c_expr:iL→Option iM)(c_next:v8→Option y5)(c_levelOf:jF→Option iQ)(l_exprR_l1:bZ→Option lF)(x:jN)(dn:ag6→Option β):Option β:=
 if(x.1==3)=true then(c_is (⟨#[33]⟩,x.2)).bind fun z12=>if z12.1=true then(c_unary (⟨#[33]⟩,3,z12.2)).bind fun z26=>Sum.elim (fun z26a=>dn (.inl z26a)) (fun z26b=>dn (.inr (.inl z26b))) z26 else if(x.1==7)=true then(c_is (⟨#[45]⟩,z12.2)).bind fun z40=>if z40.1=true then(c_unary (⟨#[45]⟩,7,z40.2)).bind fun z54=>Sum.elim (fun z54a=>dn (.inl z54a)) (fun z54b=>dn (.inr (.inl z54b))) z54 else if(x.1==8)=true then(c_primary z40.2).bind fun z67=>Sum.elim (fun z67a=>dn (.inl z67a)) (fun z67b=>dn (.inr (.inl z67b))) z67 else(c_expr (w (x.1+1),z40.2)).bind fun z81=>Sum.elim (fun z81a=>(l_exprR_l1 (.inl (z81a.2.2.2.2.2.2.2.1,z81a.2.2.2.2.2.2.2.2.1,z81a.2.2.2.2.2.2.2.2.2.1,z81a.2.2.2.2.2.2.2.2.2.2.1,z81a.2.2.2.2.2.2.2.2.2.2.2.1,z81a.2.2.2.2.2.1,z81a.2.2.2.2.2.2.1,z81a.2.2.2.2.2.2.2.2.2.2.2.2.1,z81a.2.2.2.2.2.2.2.2.2.2.2.2.2.2.1,z81a.2.2.2.2.2.2.2.2.2.2.2.2.2.1,z81a.2.2.2.2.2.2.2.2.2.2.2.2.2.2.2,z81a.1,z81a.2.1,z81a.2.2.1,z81a.2.2.2.1,z81a.2.2.2.2.1))).bind fun z577=>Sum.elim (fun z577a=>dn (.inr (.inr (20,0,z577a.2.2.2.2.2.2.2.2.2.2.2.1,z577a.2.2.2.2.2.2.2.2.2.2.2.2.1,z577a.2.2.2.2.2.2.2.2.2.2.2.2.2.1,z577a.2.2.2.2.2.2.2.2.2.2.2.2.2.2.1,z577a.2.2.2.2.2.2.2.2.2.2.2.2.2.2.2.1,z577a.2.2.2.2.2.2.2.2.2.2.2.2.2.2.2.2.1,z577a.2.2.2.2.2.2.2.2.2.2.2.2.2.2.2.2.2.1,z577a.2.2.2.2.2.2.2.2.2.2.2.2.2.2.2.2.2.2.1,z577a.2.2.2.2.2.2.2.2.2.2.2.2.2.2.2.2.2.2.2.1,z577a.2.2.2.2.2.2.2.2.2.2.2.2.2.2.2.2.2.2.2.2.1,z577a.2.2.2.2.2.2.2.2.2.2.2.2.2.2.2.2.2.2.2.2.2,z577a.2.2.2.2.2.1,z577a.2.2.2.2.2.2.1,z577a.1,z577a.2.1,z577a.2.2.1,z577a.2.2.2.1,z577a.2.2.2.2.1,z577a.2.2.2.2.2.2.2.1,z577a.2.2.2.2.2.2.2.2.2.1,z577a.2.2.2.2.2.2.2.2.1,z577a.2.2.2.2.2.2.2.2.2.2.1)))) (fun z577b=>Sum.elim (fun z577ba=>dn (.inr (.inl z577ba))) (fun z577bb=>dn (.inl (z577bb.2.2.2.2.2.2.2.2.2.2.2.1,z577bb.2.2.2.2.2.2.2.2.2.2.2.2.1,z577bb.2.2.2.2.2.2.2.2.2.2.2.2.2.1,z577bb.2.2.2.2.2.2.2.2.2.2.2.2.2.2.1,z577bb.2.2.2.2.2.2.2.2.2.2.2.2.2.2.2,z577bb.2.2.2.2.2.1,z577bb.2.2.2.2.2.2.1,z577bb.1,z577bb.2.1,z577bb.2.2.1,z577bb.2.2.2.1,z577bb.2.2.2.2.1,z577bb.2.2.2.2.2.2.2.1,z577bb.2.2.2.2.2.2.2.2.2.1,z577bb.2.2.2.2.2.2.2.2.1,z577bb.2.2.2.2.2.2.2.2.2.2.1))) z577b) z577) (fun z81b=>dn (.inr (.inl z81b))) z81 else if(x.1==8)=true then(c_primary z12.2).bind fun z592=>Sum.elim (fun z592a=>dn (.inl z592a)) (fun z592b=>dn (.inr (.inl z592b))) z592 else(c_expr (w (x.1+1),z12.2)).bind fun z606=>Sum.elim (fun z606a=>(l_exprR_l1 (.inl (z606a.2.2.2.2.2.2.2.1,z606a.2.2.2.2.2.2.2.2.1,z606a.2.2.2.2.2.2.2.2.2.1,z606a.2.2.2.2.2.2.2.2.2.2.1,z606a.2.2.2.2.2.2.2.2.2.2.2.1,z606a.2.2.2.2.2.1,z606a.2.2.2.2.2.2.1,z606a.2.2.2.2.2.2.2.2.2.2.2.2.1,z606a.2.2.2.2.2.2.2.2.2.2.2.2.2.2.1,z606a.2.2.2.2.2.2.2.2.2.2.2.2.2.1,z606a.2.2.2.2.2.2.2.2.2.2.2.2.2.2.2,z606a.1,z606a.2.1,z606a.2.2.1,z606a.2.2.2.1,z606a.2.2.2.2.1))).bind fun z607=>Sum.elim (fun z607a=>dn (.inr (.inr (20,0,z607a.2.2.2.2.2.2.2.2.2.2.2.1,z607a.2.2.2.2.2.2.2.2.2.2.2.2.1,z607a.2.2.2.2.2.2.2.2.2.2.2.2.2.1,z607a.2.2.2.2.2.2.2.2.2.2.2.2.2.2.1,z607a.2.2.2.2.2.2.2.2.2.2.2.2.2.2.2.1,z607a.2.2.2.2.2.2.2.2.2.2.2.2.2.2.2.2.1,z607a.2.2.2.2.2.2.2.2.2.2.2.2.2.2.2.2.2.1,z607a.2.2.2.2.2.2.2.2.2.2.2.2.2.2.2.2.2.2.1,z607a.2.2.2.2.2.2.2.2.2.2.2.2.2.2.2.2.2.2.2.1,z607a.2.2.2.2.2.2.2.2.2.2.2.2.2.2.2.2.2.2.2.2.1,z607a.2.2.2.2.2.2.2.2.2.2.2.2.2.2.2.2.2.2.2.2.2,z607a.2.2.2.2.2.1,z607a.2.2.2.2.2.2.1,z607a.1,z607a.2.1,z607a.2.2.1,z607a.2.2.2.1,z607a.2.2.2.2.1,z607a.2.2.2.2.2.2.2.1,z607a.2.2.2.2.2.2.2.2.2.1,z607a.2.2.2.2.2.2.2.2.1,z607a.2.2.2.2.2.2.2.2.2.2.1)))) (fun z607b=>Sum.elim (fun z607ba=>dn (.inr (.inl z607ba))) (fun z607bb=>dn (.inl (z607bb.2.2.2.2.2.2.2.2.2.2.2.1,z607bb.2.2.2.2.2.2.2.2.2.2.2.2.1,z607bb.2.2.2.2.2.2.2.2.2.2.2.2.2.1,z607bb.2.2.2.2.2.2.2.2.2.2.2.2.2.2.1,z607bb.2.2.2.2.2.2.2.2.2.2.2.2.2.2.2,z607bb.2.2.2.2.2.1,z607bb.2.2.2.2.2.2.1,z607bb.1,z607bb.2.1,z607bb.2.2.1,z607bb.2.2.2.1,z607bb.2.2.2.2.1,z607bb.2.2.2.2.2.2.2.1,z607bb.2.2.2.2.2.2.2.2.2.1,z607bb.2.2.2.2.2.2.2.2.1,z607bb.2.2.2.2.2.2.2.2.2.2.1))) z607b) z607) (fun z606b=>dn (.inr (.inl z606b))) z606 else if(x.1==7)=true then(c_is (⟨#[45]⟩,x.2)).bind fun z623=>if z623.1=true then(c_unary (⟨#[45]⟩,7,z623.2)).bind fun z637=>Sum.elim (fun z637a=>dn (.inl z637a)) (fun z637b=>dn (.inr (.inl z637b))) z637 else if(x.1==8)=true then(c_primary z623.2).bind fun z650=>Sum.elim (fun z650a=>dn (.inl z650a)) (fun z650b=>dn (.inr (.inl z650b))) z650 else(c_expr (w (x.1+1),z623.2)).bind fun z664=>Sum.elim (fun z664a=>(l_exprR_l1 (.inl (z664a.2.2.2.2.2.2.2.1,z664a.2.2.2.2.2.2.2.2.1,z664a.2.2.2.2.2.2.2.2.2.1,z664a.2.2.2.2.2.2.2.2.2.2.1,z664a.2.2.2.2.2.2.2.2.2.2.2.1,z664a.2.2.2.2.2.1,z664a.2.2.2.2.2.2.1,z664a.2.2.2.2.2.2.2.2.2.2.2.2.1,z664a.2.2.2.2.2.2.2.2.2.2.2.2.2.2.1,z664a.2.2.2.2.2.2.2.2.2.2.2.2.2.1,z664a.2.2.2.2.2.2.2.2.2.2.2.2.2.2.2,z664a.1,z664a.2.1,z664a.2.2.1,z664a.2.2.2.1,z664a.2.2.2.2.1))).bind fun z665=>Sum.elim (fun z665a=>dn (.inr (.inr (20,0,z665a.2.2.2.2.2.2.2.2.2.2.2.1,z665a.2.2.2.2.2.2.2.2.2.2.2.2.1,z665a.2.2.2.2.2.2.2.2.2.2.2.2.2.1,z665a.2.2.2.2.2.2.2.2.2.2.2.2.2.2.1,z665a.2.2.2.2.2.2.2.2.2.2.2.2.2.2.2.1,z665a.2.2.2.2.2.2.2.2.2.2.2.2.2.2.2.2.1,z665a.2.2.2.2.2.2.2.2.2.2.2.2.2.2.2.2.2.1,z665a.2.2.2.2.2.2.2.2.2.2.2.2.2.2.2.2.2.2.1,z665a.2.2.2.2.2.2.2.2.2.2.2.2.2.2.2.2.2.2.2.1,z665a.2.2.2.2.2.2.2.2.2.2.2.2.2.2.2.2.2.2.2.2.1,z665a.2.2.2.2.2.2.2.2.2.2.2.2.2.2.2.2.2.2.2.2.2,z665a.2.2.2.2.2.1,z665a.2.2.2.2.2.2.1,z665a.1,z665a.2.1,z665a.2.2.1,z665a.2.2.2.1,z665a.2.2.2.2.1,z665a.2.2.2.2.2.2.2.1,z665a.2.2.2.2.2.2.2.2.2.1,z665a.2.2.2.2.2.2.2.2.1,z665a.2.2.2.2.2.2.2.2.2.2.1)))) (fun z665b=>Sum.elim (fun z665ba=>dn (.inr (.inl z665ba))) (fun z665bb=>dn (.inl (z665bb.2.2.2.2.2.2.2.2.2.2.2.1,z665bb.2.2.2.2.2.2.2.2.2.2.2.2.1,z665bb.2.2.2.2.2.2.2.2.2.2.2.2.2.1,z665bb.2.2.2.2.2.2.2.2.2.2.2.2.2.2.1,z665bb.2.2.2.2.2.2.2.2.2.2.2.2.2.2.2,z665bb.2.2.2.2.2.1,z665bb.2.2.2.2.2.2.1,z665bb.1,z665bb.2.1,z665bb.2.2.1,z665bb.2.2.2.1,z665bb.2.2.2.2.1,z665bb.2.2.2.2.2.2.2.1,z665bb.2.2.2.2.2.2.2.2.2.1,z665bb.2.2.2.2.2.2.2.2.1,z665bb.2.2.2.2.2.2.2.2.2.2.1))) z665b) z665) (fun z664b=>dn (.inr (.inl z664b))) z664 else if(x.1==8)=true then(c_primary x.2).bind fun z680=>Sum.elim (fun z680a=>dn (.inl z680a)) (fun z680b=>dn (.inr (.inl z680b))) z680 else(c_expr (w (x.1+1),x.2)).bind fun z694=>Sum.elim (fun z694a=>(l_exprR_l1 (.inl (z694a.2.2.2.2.2.2.2.1,z694a.2.2.2.2.2.2.2.2.1,z694a.2.2.2.2.2.2.2.2.2.1,z694a.2.2.2.2.2.2.2.2.2.2.1,z694a.2.2.2.2.2.2.2.2.2.2.2.1,z694a.2.2.2.2.2.1,z694a.2.2.2.2.2.2.1,z694a.2.2.2.2.2.2.2.2.2.2.2.2.1,z694a.2.2.2.2.2.2.2.2.2.2.2.2.2.2.1,z694a.2.2.2.2.2.2.2.2.2.2.2.2.2.1,z694a.2.2.2.2.2.2.2.2.2.2.2.2.2.2.2,z694a.1,z694a.2.1,z694a.2.2.1,z694a.2.2.2.1,z694a.2.2.2.2.1))).bind fun z695=>Sum.elim (fun z695a=>dn (.inr (.inr (20,0,z695a.2.2.2.2.2.2.2.2.2.2.2.1,z695a.2.2.2.2.2.2.2.2.2.2.2.2.1,z695a.2.2.2.2.2.2.2.2.2.2.2.2.2.1,z695a.2.2.2.2.2.2.2.2.2.2.2.2.2.2.1,z695a.2.2.2.2.2.2.2.2.2.2.2.2.2.2.2.1,z695a.2.2.2.2.2.2.2.2.2.2.2.2.2.2.2.2.1,z695a.2.2.2.2.2.2.2.2.2.2.2.2.2.2.2.2.2.1,z695a.2.2.2.2.2.2.2.2.2.2.2.2.2.2.2.2.2.2.1,z695a.2.2.2.2.2.2.2.2.2.2.2.2.2.2.2.2.2.2.2.1,z695a.2.2.2.2.2.2.2.2.2.2.2.2.2.2.2.2.2.2.2.2.1,z695a.2.2.2.2.2.2.2.2.2.2.2.2.2.2.2.2.2.2.2.2.2,z695a.2.2.2.2.2.1,z695a.2.2.2.2.2.2.1,z695a.1,z695a.2.1,z695a.2.2.1,z695a.2.2.2.1,z695a.2.2.2.2.1,z695a.2.2.2.2.2.2.2.1,z695a.2.2.2.2.2.2.2.2.2.1,z695a.2.2.2.2.2.2.2.2.1,z695a.2.2.2.2.2.2.2.2.2.2.1)))) (fun z695b=>Sum.elim (fun z695ba=>dn (.inr (.inl z695ba))) (fun z695bb=>dn (.inl (z695bb.2.2.2.2.2.2.2.2.2.2.2.1,z695bb.2.2.2.2.2.2.2.2.2.2.2.2.1,z695bb.2.2.2.2.2.2.2.2.2.2.2.2.2.1,z695bb.2.2.2.2.2.2.2.2.2.2.2.2.2.2.1,z695bb.2.2.2.2.2.2.2.2.2.2.2.2.2.2.2,z695bb.2.2.2.2.2.1,z695bb.2.2.2.2.2.2.1,z695bb.1,z695bb.2.1,z695bb.2.2.1,z695bb.2.2.2.1,z695bb.2.2.2.2.1,z695bb.2.2.2.2.2.2.2.1,z695bb.2.2.2.2.2.2.2.2.2.1,z695bb.2.2.2.2.2.2.2.2.1,z695bb.2.2.2.2.2.2.2.2.2.2.1))) z695b) z695) (fun z694b=>dn (.inr (.inl z694b))) z694
theorem fb2{β:Type}(c_is c_unary)(c_primary c_expr)(c_next c_levelOf)(l_exprR_l1)(x)(dn:ag6→Option β):rM c_is c_unary c_primary c_expr c_next c_levelOf l_exprR_l1 x dn=(rM c_is c_unary c_primary c_expr c_next c_levelOf l_exprR_l1 x some).bind dn:=by
 unfold rM
 repeat' first|exact n0|refine n1 fun _=>?_|refine n2 ?_ ?_|refine n3 (fun _=>?_) fun _=>?_|rfl
theorem ey0(c_is c_unary)(c_primary c_expr)(c_next c_levelOf)(l_exprR_l1)(x):j8 E5 (ftb 121 qQ ap0 c_is (ft2 149 kH uO c_unary (ft2 150 cG lM c_primary (ft2 141 q9 dZ c_expr (ftb 18 g8 s6 c_next (ftb 151 bO lI c_levelOf ca0)))))) (lt3 1 (fun _=>true) (b6 E5 141 1) (fB x) (lU x) l_exprR_l1 lo0) 141 (ca9 x).1 (ca9 x).2 K=rM (vf qQ c_is) (vf kH c_unary) (vf cG c_primary) (vf q9 c_expr) (vf g8 c_next) (vf bO c_levelOf) (lf (b6 E5 141 1) (fB x) l_exprR_l1) x (fun z=>some (.c (cf3 z))):=by kernel_rfl
theorem ex7(c_is)(h_is:Lw E5 121 qQ ap0 c_is)(c_unary)(h_unary:Lw E5 149 kH uO c_unary)(c_primary)(h_primary:Lw E5 150 cG lM c_primary)(c_expr)(h_expr:Lw E5 141 q9 dZ c_expr)(c_next)(h_next:Lw E5 18 g8 s6 c_next)(c_levelOf)(h_levelOf:Lw E5 151 bO lI c_levelOf)(q:Nat):Lw E5 141 ca9 cf3 fun x=>rM c_is c_unary c_primary c_expr c_next c_levelOf (pZ c_is c_unary c_primary c_expr c_next c_levelOf q x) x some:=sof hW5 hX5 (fk h_is (fk2 h_unary (fk2 h_primary (fk2 h_expr (fk h_next (fk h_levelOf a8)))))) (fun x=>(lk3 (dc1 c_is h_is c_unary h_unary c_primary h_primary c_expr h_expr c_next h_next c_levelOf h_levelOf q x) b8)) fun x=>(ey0 c_is c_unary c_primary c_expr c_next c_levelOf (pZ c_is c_unary c_primary c_expr c_next c_levelOf q x) x).trans (by rw[ch0,by9,an6,sP,eA,aq3,di0,fb2]<;>rfl)
def nH{β:Type}(c_opens:mA→Option mC)(c_expr:iL→Option iM)(x:cg5)(dn:xR→Option β):Option β:=
 (c_opens (x.1,x.2.2)).bind fun z12=>Sum.elim (fun z12a=>(c_expr (x.2.1,z12a)).bind fun z25=>Sum.elim (fun z25a=>dn (.inl (19,0,x.1,z25a.1,z25a.2.1,z25a.2.2.1,z25a.2.2.2.1,z25a.2.2.2.2.1,z25a.2.2.2.2.2.1,w (z25a.2.2.2.2.2.2.1-1),z25a.2.2.2.2.2.2.2))) (fun z25b=>dn (.inr z25b)) z25) (fun z12b=>dn (.inr z12b)) z12
theorem ek3{β:Type}(c_opens c_expr)(x)(dn:xR→Option β):nH c_opens c_expr x dn=(nH c_opens c_expr x some).bind dn:=by
 unfold nH
 repeat' first|exact n0|refine n1 fun _=>?_|refine n2 ?_ ?_|refine n3 (fun _=>?_) fun _=>?_|rfl
theorem en0(c_opens c_expr)(x):j8 E5 (ft2 87 bK kJ c_opens (ft2 141 q9 dZ c_expr ca0)) lo0 149 (be3 x).1 (be3 x).2 K=nH (vf bK c_opens) (vf q9 c_expr) x (fun z=>some (.c (bb2 z))):=by kernel_rfl
theorem eo6(c_opens)(h_opens:Lw E5 87 bK kJ c_opens)(c_expr)(h_expr:Lw E5 141 q9 dZ c_expr)(q:Nat):Lw E5 149 be3 bb2 fun x=>nH c_opens c_expr x some:=sof hW5 hX5 (fk2 h_opens (fk2 h_expr a8)) (fun _=>b8) fun x=>(en0 c_opens c_expr x).trans (by rw[ai2,sP,ek3]<;>rfl)
def fA{β:Type}(c_next:v8→Option y5)(c_literal:lY→Option lL)(c_take:iH→Option iG)(c_must:eU→Option fD)(c_name:nN→Option nT)(c_is:ao2→Option aq4)(c_opens:mA→Option mC)(c_expr:iL→Option iM)(x:bc8)(dn:rE→Option β):Option β:=
 (c_next x).bind fun z11=>if(z11.1==2)=true then(c_literal z11.2.2.2.2).bind fun z23=>Sum.elim (fun z23a=>dn (.inl z23a)) (fun z23b=>dn (.inr (.inl z23b))) z23 else(c_take (⟨#[116,114,117,101]⟩,z11.2.2.2.2)).bind fun z37=>if z37.1=true then dn (.inr (.inr (16,1,⟨#[]⟩,z37.2)))else(c_take (⟨#[102,97,108,115,101]⟩,z37.2)).bind fun z50=>if z50.1=true then dn (.inr (.inr (16,0,⟨#[]⟩,z50.2)))else(c_take (⟨#[116,108,109]⟩,z50.2)).bind fun z63=>if z63.1=true then(c_must (⟨#[46]⟩,z63.2)).bind fun z76=>Sum.elim (fun z76a=>(c_name z76a).bind fun z88=>Sum.elim (fun z88a=>dn (.inr (.inr (18,0,z88a)))) (fun z88b=>dn (.inr (.inl z88b))) z88) (fun z76b=>dn (.inr (.inl z76b))) z76 else(c_is (⟨#[40]⟩,z63.2)).bind fun z103=>if z103.1=true then(c_opens (⟨#[40]⟩,z103.2)).bind fun z116=>Sum.elim (fun z116a=>(c_expr (1,z116a)).bind fun z129=>Sum.elim (fun z129a=>(c_must (⟨#[41]⟩,z129a.2.2.2.2.2)).bind fun z142=>Sum.elim (fun z142a=>dn (.inl (z129a.1,z129a.2.1,z129a.2.2.1,z129a.2.2.2.1,z129a.2.2.2.2.1,z142a.1,w (z142a.2.1-1),z142a.2.2))) (fun z142b=>dn (.inr (.inl z142b))) z142) (fun z129b=>dn (.inr (.inl z129b))) z129) (fun z116b=>dn (.inr (.inl z116b))) z116 else(c_name z103.2).bind fun z157=>Sum.elim (fun z157a=>dn (.inr (.inr (17,0,z157a)))) (fun z157b=>dn (.inr (.inl z157b))) z157
theorem cx7{β:Type}(c_next c_literal)(c_take c_must)(c_name c_is)(c_opens c_expr)(x)(dn:rE→Option β):fA c_next c_literal c_take c_must c_name c_is c_opens c_expr x dn=(fA c_next c_literal c_take c_must c_name c_is c_opens c_expr x some).bind dn:=by
 unfold fA
 repeat' first|exact n0|refine n1 fun _=>?_|refine n2 ?_ ?_|refine n3 (fun _=>?_) fun _=>?_|rfl
theorem di7(c_next c_literal)(c_take c_must)(c_name c_is)(c_opens c_expr)(x):j8 E5 (ftb 18 g8 s6 c_next (ft2 143 cJ kY c_literal (ftb 84 t0 gG c_take (ft2 41 p8 eX c_must (ft2 42 dF rA c_name (ftb 121 qQ ap0 c_is (ft2 87 bK kJ c_opens (ft2 141 q9 dZ c_expr ca0)))))))) lo0 150 (ac7 x).1 (ac7 x).2 K=fA (vf g8 c_next) (vf cJ c_literal) (vf t0 c_take) (vf p8 c_must) (vf dF c_name) (vf qQ c_is) (vf bK c_opens) (vf q9 c_expr) x (fun z=>some (.c (ad4 z))):=by kernel_rfl
theorem da1(c_next)(h_next:Lw E5 18 g8 s6 c_next)(c_literal)(h_literal:Lw E5 143 cJ kY c_literal)(c_take)(h_take:Lw E5 84 t0 gG c_take)(c_must)(h_must:Lw E5 41 p8 eX c_must)(c_name)(h_name:Lw E5 42 dF rA c_name)(c_is)(h_is:Lw E5 121 qQ ap0 c_is)(c_opens)(h_opens:Lw E5 87 bK kJ c_opens)(c_expr)(h_expr:Lw E5 141 q9 dZ c_expr)(q:Nat):Lw E5 150 ac7 ad4 fun x=>fA c_next c_literal c_take c_must c_name c_is c_opens c_expr x some:=sof hW5 hX5 (fk h_next (fk2 h_literal (fk h_take (fk2 h_must (fk2 h_name (fk h_is (fk2 h_opens (fk2 h_expr a8)))))))) (fun _=>b8) fun x=>(di7 c_next c_literal c_take c_must c_name c_is c_opens c_expr x).trans (by rw[eA,zW,vC,pY,au8,ch0,ai2,sP,cx7]<;>rfl)
def ay8:ag6→iM:=Sum.elim (fun z=>.inl z) (Sum.elim (fun z=>.inr z) (fun z=>.inl (z.1,z.2.1,z.2.2.1,2,mP [[i64 z.2.2.2.1,i64 z.2.2.2.2.1,st z.2.2.2.2.2.1,.ro 4 z.2.2.2.2.2.2.1 z.2.2.2.2.2.2.2.1],[i64 z.2.2.2.2.2.2.2.2.1,i64 z.2.2.2.2.2.2.2.2.2.1,st z.2.2.2.2.2.2.2.2.2.2.1,.ro 4 z.2.2.2.2.2.2.2.2.2.2.2.1 z.2.2.2.2.2.2.2.2.2.2.2.2.1]],z.2.2.2.2.2.2.2.2.2.2.2.2.2)))
theorem er3{args:List V}{L:List (Option Chunk)}(z:ag6)(h:SC E5 141 args L (cf3 z)):SC E5 141 args L (dZ (ay8 z)):=by
 rcases z with z|z|z
 ·exact h
 ·exact h
 ·exact ce2 h
def al5:xR→rO:=Sum.elim (fun z=>.inl (z.1,z.2.1,z.2.2.1,1,mP [[i64 z.2.2.2.1,i64 z.2.2.2.2.1,st z.2.2.2.2.2.1,.ro 4 z.2.2.2.2.2.2.1 z.2.2.2.2.2.2.2.1]],z.2.2.2.2.2.2.2.2)) (fun z=>.inr z)
theorem dr4{args:List V}{L:List (Option Chunk)}(z:xR)(h:SC E5 149 args L (bb2 z)):SC E5 149 args L (uO (al5 z)):=by
 rcases z with z|z
 ·exact ce2 h
 ·exact h
def uY:rE→iW:=Sum.elim (fun z=>.inl z) (Sum.elim (fun z=>.inr z) (fun z=>.inl (z.1,z.2.1,z.2.2.1,0,fun _=>[],z.2.2.2)))
theorem ch5{args:List V}{L:List (Option Chunk)}(z:rE)(h:SC E5 150 args L (ad4 z)):SC E5 150 args L (lM (uY z)):=by
 rcases z with z|z|z
 ·exact h
 ·exact h
 ·exact et0 h
noncomputable def exS:Nat→(iL→Option iM)×(rX→Option rO)×(iR→Option iW)
 |0=>(fun _=>none,fun _=>none,fun _=>none)
 |q+1=>(fun x=>(rM ((is q)) ((exS q).2.1) ((exS q).2.2) ((exS q).1) ((next q)) ((nZ q)) (pZ ((is q)) ((exS q).2.1) ((exS q).2.2) ((exS q).1) ((next q)) ((nZ q)) q x) x some).map ay8,
  fun x=>(nH ((qD q)) ((exS q).1) x some).map al5,
  fun x=>(fA ((next q)) ((gB q)) ((take q)) ((iF q)) ((name q)) ((is q)) ((qD q)) ((exS q).1) x some).map uY)
theorem ec5:∀q,(∀x z,(exS q).1 x=some z→SC E5 141 (q9 x).1 (q9 x).2 (dZ z))∧(∀x z,(exS q).2.1 x=some z→SC E5 149 (kH x).1 (kH x).2 (uO z))∧(∀x z,(exS q).2.2 x=some z→SC E5 150 (cG x).1 (cG x).2 (lM z))
 |0=>⟨(fun x z h=>by cases h),(fun x z h=>by cases h),(fun x z h=>by cases h)⟩
 |q+1=>by
  obtain⟨h0,h1,h2⟩:=ec5 q
  exact⟨(fun x z h=>by
   obtain⟨y,hy,rfl⟩:=Option.map_eq_some_iff.1 h
   exact er3 y (ex7 ((is q)) ((bq0 q)) ((exS q).2.1) (h1) ((exS q).2.2) (h2) ((exS q).1) (h0) ((next q)) ((gW q)) ((nZ q)) ((dd1 q)) q x y hy)),(fun x z h=>by
   obtain⟨y,hy,rfl⟩:=Option.map_eq_some_iff.1 h
   exact dr4 y (eo6 ((qD q)) ((bl1 q)) ((exS q).1) (h0) q x y hy)),(fun x z h=>by
   obtain⟨y,hy,rfl⟩:=Option.map_eq_some_iff.1 h
   exact ch5 y (da1 ((next q)) ((gW q)) ((gB q)) ((vP q)) ((take q)) ((zI q)) ((iF q)) ((mD q)) ((name q)) ((zU q)) ((is q)) ((bq0 q)) ((qD q)) ((bl1 q)) ((exS q).1) (h0) q x y hy))⟩
noncomputable def wB(q:Nat):iL→Option iM:=(exS q).1
theorem aj7(q:Nat):Lw E5 141 q9 dZ (wB q):=(ec5 q).1
noncomputable def ct3(q:Nat):rX→Option rO:=(exS q).2.1
noncomputable def ak0(q:Nat):iR→Option iW:=(exS q).2.2
end Go.Proofs.YtcijknknahbbnaaGreatDoor
/- Plain: the parser, as a function of tokens. -/
namespace Go.Proofs.Lx
open Go
abbrev sOr:ByteArray:=⟨#[124,124]⟩
abbrev en1:ByteArray:=⟨#[38,38]⟩
abbrev sLt:ByteArray:=⟨#[60]⟩
abbrev sLe:ByteArray:=⟨#[60,61]⟩
abbrev sGt:ByteArray:=⟨#[62]⟩
abbrev sGe:ByteArray:=⟨#[62,61]⟩
abbrev sEq:ByteArray:=⟨#[61,61]⟩
abbrev sNe:ByteArray:=⟨#[33,61]⟩
abbrev fk5:ByteArray:=⟨#[43]⟩
abbrev nS:ByteArray:=⟨#[45]⟩
abbrev ff1:ByteArray:=⟨#[42]⟩
abbrev ff3:ByteArray:=⟨#[47]⟩
abbrev kV:ByteArray:=⟨#[33]⟩
abbrev fH:ByteArray:=⟨#[40]⟩
abbrev aF:ByteArray:=⟨#[41]⟩
abbrev xQ:ByteArray:=⟨#[123]⟩
abbrev rH:ByteArray:=⟨#[125]⟩
abbrev ae5:ByteArray:=⟨#[61]⟩
abbrev eF:ByteArray:=⟨#[59]⟩
abbrev aG:ByteArray:=⟨#[44]⟩
abbrev vO:ByteArray:=⟨#[58]⟩
abbrev cl7:ByteArray:=⟨#[46]⟩
abbrev o7:ByteArray:=⟨#[112,114,111,99,101,100,117,114,101]⟩
abbrev an0:ByteArray:=⟨#[108,101,116]⟩
abbrev ax9:ByteArray:=⟨#[105,102]⟩
abbrev iK:ByteArray:=⟨#[101,108,115,101]⟩
abbrev cI:ByteArray:=⟨#[114,101,112,101,97,116]⟩
abbrev at8:ByteArray:=⟨#[119,97,105,116]⟩
abbrev rS:ByteArray:=⟨#[97,119,97,105,116]⟩
abbrev jT:ByteArray:=⟨#[119,105,116,104,105,110]⟩
abbrev pJ:ByteArray:=⟨#[114,101,113,117,105,114,101]⟩
abbrev oQ:ByteArray:=⟨#[112,111,105,110,116]⟩
abbrev ac0:ByteArray:=⟨#[117,115,101]⟩
abbrev wL:ByteArray:=⟨#[102,111,114]⟩
abbrev yO:ByteArray:=⟨#[115,101,110,100]⟩
abbrev uV:ByteArray:=⟨#[107,101,101,112]⟩
abbrev jP:ByteArray:=⟨#[101,109,105,116]⟩
abbrev rK:ByteArray:=⟨#[97,98,111,114,116]⟩
abbrev w_true:ByteArray:=⟨#[116,114,117,101]⟩
abbrev w_false:ByteArray:=⟨#[102,97,108,115,101]⟩
abbrev bd0:ByteArray:=⟨#[116,108,109]⟩
def keywords:List ByteArray:=[o7,an0,ax9,iK,cI,at8,rS,jT,pJ,oQ,ac0,wL,yO,uV,jP,rK,w_true,w_false,bd0]
def bu4:List ByteArray:=[⟨#[74]⟩,⟨#[107,74]⟩,⟨#[87,104]⟩,⟨#[66]⟩,⟨#[107,66]⟩,⟨#[115]⟩,⟨#[109,105,110]⟩,⟨#[104]⟩,⟨#[100,101,103]⟩,⟨#[75]⟩,⟨#[87]⟩,⟨#[107,87]⟩,⟨#[66,112,115]⟩]
def inP(l:List ByteArray)(x:ByteArray):Bool:=l.any fun v=>decide (v=x)
theorem inP_iff{l:List ByteArray}{x:ByteArray}:inP l x=true↔x∈l:=by
 simp only[inP,List.any_eq_true,decide_eq_true_eq]
 exact⟨fun⟨v,h,e⟩=>e▸h,fun h=>⟨x,h,rfl⟩⟩
def wO(s:ByteArray):Bool:=inP keywords s
def kS(s:ByteArray):Bool:=inP bu4 s
def n6(s:ByteArray):Nat:=
 if s=sOr then 1 else if s=en1 then 2 else if s=sLt∨s=sLe∨s=sGt∨s=sGe∨s=sEq∨s=sNe then 4 else if s=fk5∨s=nS then 5 else if s=ff1∨s=ff3 then 6 else 0
inductive Tr where
 |node (k n:Int) (s:ByteArray) (l:List Tr):Tr
structure PS where
 p:Nat
 o:Nat
 vs:List ByteArray
inductive PR(α:Type) where
 |ok (x:α) (s:PS)
 |err (p:Nat) (c:Int)
 |out
def PR.bind{α β:Type}(r:PR α)(f:α→PS→PR β):PR β:=match r with
 | .ok x s=>f x s
 | .err p c=>.err p c
 | .out=>.out
section
variable (T:Nat→Tkn)
def adv(s:PS):PS:={s with p:=s.p+1}
def isP(w:ByteArray)(s:PS):Bool:=decide ((T s.p).t=w)
def n4(w:ByteArray)(s:PS):PR Unit:=if isP T w s then .ok () (adv s)else .err s.p 11
def aE(w:ByteArray)(s:PS):PR Unit:=if isP T w s then(if s.o=12 then .err s.p 2 else .ok () {s with p:=s.p+1,o:=s.o+1})else .err s.p 11
def cM(s:PS):PS:={s with o:=s.o-1}
def aB(s:PS):PR ByteArray:=if(T s.p).k≠1∨wO (T s.p).t=true then .err s.p 11 else .ok (T s.p).t (adv s)
def jV(s:PS):PR ByteArray:=(aB T s).bind fun x s'=>
 if inP s.vs x=true then .err s.p 4 else if s.vs.length=12 then .err s.p 2 else .ok x {s' with vs:=s.vs++[x]}
def iD(lo hi:Int)(s:PS):PR Int:=if(T s.p).k≠2 then .err s.p 11 else if(T s.p).n<lo∨hi< (T s.p).n then .err s.p 5 else .ok (T s.p).n (adv s)
def fQ(s:PS):PR Tr:=(iD T 0 2147483647 s).bind fun n s'=>
 if(T s'.p).k=1∧kS (T s'.p).t=true then .ok (.node 15 n (T s'.p).t []) (adv s')else .ok (.node 15 n ⟨#[]⟩ []) s'
mutual
def j9:Nat→Nat→PS→PR Tr
 |0,_,_=>.out
 |f+1,lv,s=>
  if lv=3∧isP T kV s=true then aJ f kV 3 s
  else if lv=7∧isP T nS s=true then aJ f nS 7 s
  else if lv=8 then cD f s
  else(j9 f (lv+1) s).bind fun n s'=>dX f lv n s'
def dX:Nat→Nat→Tr→PS→PR Tr
 |0,_,_,_=>.out
 |f+1,lv,n,s=>
  if n6 (T s.p).t=lv∧(T s.p).k=3 then
   (j9 f (lv+1) (adv s)).bind fun m s'=>if lv=4 then .ok (.node 20 0 (T s.p).t [n,m]) s' else dX f lv (.node 20 0 (T s.p).t [n,m]) s'
  else .ok n s
def aJ:Nat→ByteArray→Nat→PS→PR Tr
 |0,_,_,_=>.out
 |f+1,w,lv,s=>(aE T w s).bind fun _ s1=>(j9 f lv s1).bind fun n s2=>.ok (.node 19 0 w [n]) (cM s2)
def cD:Nat→PS→PR Tr
 |0,_=>.out
 |f+1,s=>
  if(T s.p).k=2 then fQ T s
  else if isP T w_true s=true then .ok (.node 16 1 ⟨#[]⟩ []) (adv s)
  else if isP T w_false s=true then .ok (.node 16 0 ⟨#[]⟩ []) (adv s)
  else if isP T bd0 s=true then(n4 T cl7 (adv s)).bind fun _ s1=>(aB T s1).bind fun x s2=>.ok (.node 18 0 x []) s2
  else if isP T fH s=true then(aE T fH s).bind fun _ s1=>(j9 f 1 s1).bind fun n s2=>(n4 T aF s2).bind fun _ s3=>.ok n (cM s3)
  else(aB T s).bind fun x s1=>.ok (.node 17 0 x []) s1
end
def endP(n:Tr)(s:PS):PR Tr:=(n4 T eF s).bind fun _ s'=>.ok n s'
def ai9(f:Nat)(k:Int)(x:ByteArray)(s:PS):PR Tr:=(n4 T ae5 s).bind fun _ s1=>(j9 T f 1 s1).bind fun n s2=>endP T (.node k 0 x [n]) s2
def bn2(f:Nat)(k:Int)(s:PS):PR Tr:=(j9 T f 1 s).bind fun n s2=>endP T (.node k 0 ⟨#[]⟩ [n]) s2
def bl8(k:Int)(s:PS):PR Tr:=(fQ T s).bind fun n s2=>endP T (.node k 0 ⟨#[]⟩ [n]) s2
def yM(f:Nat)(s:PS):PR Tr:=(j9 T f 1 s).bind fun c s1=>(n4 T jT s1).bind fun _ s2=>(fQ T s2).bind fun n s3=>endP T (.node 6 0 ⟨#[]⟩ [c,n]) s3
def ay6(k hi:Int)(s:PS):PR Tr:=(iD T 0 hi s).bind fun n s1=>endP T (.node k n ⟨#[]⟩ []) s1
def ay1(k:Int)(w:ByteArray)(s:PS):PR Tr:=(iD T 0 7 s).bind fun n s1=>(n4 T w s1).bind fun _ s2=>(fQ T s2).bind fun m s3=>endP T (.node k n ⟨#[]⟩ [m]) s3
mutual
def m4:Nat→PS→PR Tr
 |0,_=>.out
 |f+1,s=>(aE T xQ s).bind fun _ s1=>(n9 f s1).bind fun l s2=>.ok (.node 14 0 ⟨#[]⟩ l) (cM s2)
def n9:Nat→PS→PR (List Tr)
 |0,_=>.out
 |f+1,s=>if isP T rH s=true then .ok [] (adv s)else(t8 f s).bind fun n s1=>(n9 f s1).bind fun l s2=>.ok (n::l) s2
def t8:Nat→PS→PR Tr
 |0,_=>.out
 |f+1,s=>
  if isP T an0 s=true then(jV T (adv s)).bind fun x s1=>ai9 T f 1 x s1
  else if isP T ax9 s=true then(j9 T f 1 (adv s)).bind fun c s1=>(m4 f s1).bind fun y s2=>
   if isP T iK s2=true then(m4 f (adv s2)).bind fun n s3=>.ok (.node 3 0 ⟨#[]⟩ [c,y,n]) s3 else .ok (.node 3 0 ⟨#[]⟩ [c,y,.node 14 0 ⟨#[]⟩ []]) s2
  else if isP T cI s=true then(iD T 1 100 (adv s)).bind fun n s1=>(m4 f s1).bind fun y s2=>.ok (.node 4 n ⟨#[]⟩ [y]) s2
  else if isP T rS s=true then yM T f (adv s)
  else if isP T at8 s=true then bl8 T 5 (adv s)
  else if isP T uV s=true then bl8 T 11 (adv s)
  else if isP T pJ s=true then bn2 T f 7 (adv s)
  else if isP T oQ s=true then bn2 T f 8 (adv s)
  else if isP T ac0 s=true then ay1 T 9 wL (adv s)
  else if isP T yO s=true then ay1 T 10 aG (adv s)
  else if isP T jP s=true then ay6 T 12 99 (adv s)
  else if isP T rK s=true then ay6 T 13 999 (adv s)
  else(aB T s).bind fun x s1=>ai9 T f 2 x s1
end
structure Prm where
 x:ByteArray
 u:ByteArray
structure Prc where
 x:ByteArray
 ps:List Prm
 b:Tr
def at5(s:PS):PR Prm:=(jV T s).bind fun x s1=>
 if isP T vO s1=true then
  (if(T (s1.p+1)).k≠1 then .err (s1.p+1) 11 else if kS (T (s1.p+1)).t=false then .err (s1.p+1) 10 else .ok ⟨x,(T (s1.p+1)).t⟩ (adv (adv s1)))
 else .ok ⟨x,⟨#[]⟩⟩ s1
def mJ:Nat→PS→PR (List Prm)
 |0,_=>.out
 |f+1,s=>(at5 T s).bind fun x s1=>if isP T aG s1=true then(mJ f (adv s1)).bind fun l s2=>.ok (x::l) s2 else(n4 T aF s1).bind fun _ s2=>.ok [x] s2
def bY(f:Nat)(s:PS):PR (List Prm):=(n4 T fH s).bind fun _ s1=>if isP T aF s1=true then .ok [] (adv s1)else mJ T f s1
def kR(f:Nat)(pr:List ByteArray)(s:PS):PR Prc:=(n4 T o7 s).bind fun _ s1=>(aB T s1).bind fun x s2=>
 if inP pr x=true then .err s1.p 4 else(bY T f {s2 with vs:=[]}).bind fun l s3=>(m4 T f s3).bind fun b s4=>.ok ⟨x,l,b⟩ s4
def i7:Nat→List ByteArray→PS→PR (List Prc)
 |0,_,_=>.out
 |f+1,pr,s=>if(T s.p).k=0 then .ok [] s else(kR T f pr s).bind fun x s1=>(i7 f (pr++[x.x]) s1).bind fun l s2=>.ok (x::l) s2
end
end Go.Proofs.Lx
/- Plain: a word between spaces in a list of words. -/
namespace Go.Proofs.Lx
open Go
theorem bv4(s sub:List UInt8):Lib.contains s sub=true↔∃a b,s=a++(sub++b):=by
 unfold Lib.contains
 rw[decide_eq_true_eq]
 constructor
 ·intro h
  rcases Lib.index_spec s sub with⟨h1,_⟩ | ⟨i,h1,h2,h3,_⟩
  ·omega
  ·unfold Lib.occAt at h3
   obtain⟨b,hb⟩:=List.isPrefixOf_iff_prefix.1 h3
   exact⟨s.take i,b,by rw[hb,List.take_append_drop]⟩
 ·rintro⟨a,b,rfl⟩
  rcases Lib.index_spec (a++(sub++b)) sub with⟨h1,h2⟩ | ⟨i,h1,_⟩
  ·have:=h2 a.length (by simp)
   unfold Lib.occAt at this
   rw[List.drop_left]at this
   have h3:sub.isPrefixOf (sub++b)=true:=List.isPrefixOf_iff_prefix.2 ⟨b,rfl⟩
   rw[h3]at this
   cases this
  ·omega
def uP(ws:List (List UInt8)):List UInt8:=ws.flatMap fun w=>w++[32]
theorem cv3{w t a b:List UInt8}(hw:∀c∈w,c≠32)(ht:∀c∈t,c≠32)(h:w++32::a=t++32::b):w=t∧a=b:=by
 induction w generalizing t with
 |nil=>
  cases t with
  |nil=>simp only[List.nil_append,List.cons.injEq,true_and]at h;exact⟨rfl,h⟩
  |cons c t=>simp only[List.nil_append,List.cons_append,List.cons.injEq]at h;exact absurd h.1.symm (ht c (.head _))
 |cons c w ih=>
  cases t with
  |nil=>simp only[List.nil_append,List.cons_append,List.cons.injEq]at h;exact absurd h.1 (hw c (.head _))
  |cons d t=>
   simp only[List.cons_append,List.cons.injEq]at h
   obtain⟨h1,h2⟩:=ih (fun c hc=>hw c (.tail _ hc)) (fun c hc=>ht c (.tail _ hc)) h.2
   exact⟨by rw[h.1,h1],h2⟩
theorem de3{w x a z:List UInt8}(hw:∀c∈w,c≠32)(h:w++32::x=a++32::z):a=w∧x=z∨∃a',a=w++32::a'∧x=a'++32::z:=by
 induction w generalizing a with
 |nil=>
  cases a with
  |nil=>simp only[List.nil_append,List.cons.injEq,true_and]at h;exact .inl ⟨rfl,h⟩
  |cons c a=>simp only[List.nil_append,List.cons_append,List.cons.injEq]at h;exact .inr ⟨a,by rw[h.1];rfl,h.2⟩
 |cons c w ih=>
  cases a with
  |nil=>simp only[List.nil_append,List.cons_append,List.cons.injEq]at h;exact absurd h.1 (hw c (.head _))
  |cons d a=>
   simp only[List.cons_append,List.cons.injEq]at h
   rcases ih (fun c hc=>hw c (.tail _ hc)) h.2 with⟨h1,h2⟩ | ⟨a',h1,h2⟩
   ·exact .inl ⟨by rw[h.1,h1],h2⟩
   ·exact .inr ⟨a',by rw[h.1,h1];rfl,h2⟩
theorem bh9{t:List UInt8}(ht:∀c∈t,c≠32):∀{ws:List (List UInt8)},(∀w∈ws,∀c∈w,c≠32)→((∃a b,32::uP ws=a++32::(t++32::b))↔t∈ws)
 | [],_=>by
  simp only[uP,List.flatMap_nil,List.not_mem_nil,iff_false]
  rintro⟨a,b,h⟩
  have:=congrArg List.length h
  simp at this
  omega
 |w::ws,hw=>by
  have ih:=bh9 ht (ws:=ws) fun w h=>hw w (.tail _ h)
  have e:uP (w::ws)=w++32::uP ws:=by simp[uP]
  rw[e,List.mem_cons,←ih]
  constructor
  ·rintro⟨a,b,h⟩
   cases a with
   |nil=>
    simp only[List.nil_append,List.cons.injEq,true_and]at h
    exact .inl (cv3 (hw w (.head _)) ht h).1.symm
   |cons c a=>
    simp only[List.cons_append,List.cons.injEq]at h
    rcases de3 (hw w (.head _)) h.2 with⟨_,h2⟩ | ⟨a',_,h2⟩
    ·exact .inr ⟨[],b,by rw[h2];rfl⟩
    ·exact .inr ⟨32::a',b,by rw[h2];rfl⟩
  ·rintro(rfl| ⟨a,b,h⟩)
   ·exact⟨[],uP ws,rfl⟩
   ·exact⟨32::(w++a),b,by
     show 32::(w++32::uP ws)=_
     rw[h];simp⟩
def kwL:List UInt8:=32::uP (keywords.map fun w=>w.data.toList)
theorem ex8{t:ByteArray}(ht:∀c∈t.data.toList,c≠32):Lib.contains kwL (32::(t.data.toList++[32]))=wO t:=by
 rw[Bool.eq_iff_iff,bv4]
 have h:=bh9 ht (ws:=keywords.map fun w=>w.data.toList) (by decide)
 unfold wO
 rw[inP_iff]
 have e:(∃a b,kwL=a++(32::(t.data.toList++[32])++b))↔∃a b,32::uP (keywords.map fun w=>w.data.toList)=a++32::(t.data.toList++32::b):=by
  constructor<;>rintro⟨a,b,h⟩<;>exact⟨a,b,by simpa[kwL]using h⟩
 rw[e,h,List.mem_map]
 constructor
 ·rintro⟨w,hw,he⟩
  have:w=t:=by
   obtain⟨⟨x⟩⟩:=w;obtain⟨⟨y⟩⟩:=t
   simp only at he
   rw[he]
  rw[←this];exact hw
 ·intro h
  exact⟨t,h,rfl⟩
end Go.Proofs.Lx
/- The parser's small methods do what the plain parser says. -/
namespace Go.Proofs.YtcijknknahbbnaaGreatDoor
open Go Go.Am Go.Proofs.Lx
set_option maxRecDepth 100000
theorem tl_eq{a b:ByteArray}:((ByteArray.toList a==ByteArray.toList b)=true)↔a=b:=by
 rw[beq_iff_eq,ByteArray.toList_eq,ByteArray.toList_eq]
 constructor
 ·intro h
  obtain⟨⟨x⟩⟩:=a
  obtain⟨⟨y⟩⟩:=b
  simp only at h
  rw[h]
 ·rintro rfl;rfl
theorem bg7{a b:ByteArray}:(ByteArray.toList a==ByteArray.toList b)=decide (a=b):=by
 rw[Bool.eq_iff_iff,tl_eq,decide_eq_true_eq]
theorem sO{n:Int}(h1: -9223372036854775808≤n)(h2:n≤9223372036854775807):w n=n:=by
 unfold w;rw[IntKind.wrap_i64];omega
theorem iE{i:Nat}(h:i≤4000000000):w ((i:Int)+1)=((i+1:Nat):Int):=by rw[sO (by omega) (by omega)];omega
abbrev StT:Type:=Int×Int×Nat×(Nat→Int)×(Nat→Int)×(Nat→ByteArray)×(Nat→Int)×Nat×(Nat→ByteArray)×Nat×(Nat→ByteArray)
def Ag(v:Nat→ByteArray)(l:List ByteArray):Prop:=∀j b,l[j]? =some b→v j=b
theorem Ag.push{v:Nat→ByteArray}{l:List ByteArray}{x:ByteArray}(h:Ag v l):Ag (fun j=>if j<l.length then v j else x) (l++[x]):=by
 intro j b hb
 by_cases hj:j<l.length
 ·rw[List.getElem?_append_left hj]at hb
  simp only[hj,if_true]
  exact h j b hb
 ·rw[List.getElem?_append_right (by omega)]at hb
  simp only[hj,if_false]
  cases hk:j-l.length with
  |zero=>rw[hk]at hb;simpa using hb
  |succ n=>rw[hk]at hb;simp at hb
structure TokN(N:Nat)(T:Nat→Tkn):Prop where
 pos:0<N
 big:N≤4001
 endk:(T (N-1)).k=0
 endt:(T (N-1)).t=⟨#[]⟩
 sym:∀j,(T j).k≠3→n6 (T j).t=0
 word:∀j,(T j).k=1→(T j).t.size≤12∧∀c∈(T j).t.data.toList,c≠32
def RS(N:Nat)(T:Nat→Tkn)(pr:List ByteArray)(s:PS)(x:StT):Prop:=
 ∃v u,x=(((s.p:Nat):Int),((s.o:Nat):Int),N,(fun j=>(T j).k),(fun j=>(T j).a),(fun j=>(T j).t),(fun j=>(T j).n),s.vs.length,v,pr.length,u)∧
  Ag v s.vs∧Ag u pr∧s.p<N∧s.o≤12∧s.vs.length≤12∧pr.length≤2000000000
section
variable {N:Nat} {T:Nat→Tkn} {pr:List ByteArray} {s:PS} {x:StT}
theorem TokN.lt(hT:TokN N T){p:Nat}(hp:p<N)(h:(T p).t≠⟨#[]⟩∨(T p).k≠0):p+1<N:=by
 by_cases e:p=N-1
 ·subst e
  rcases h with h|h
  ·exact absurd hT.endt h
  ·exact absurd hT.endk h
 ·have:=hT.pos
  omega
theorem RS.adv(hT:TokN N T)(h:RS N T pr s x)(hk:(T s.p).t≠⟨#[]⟩∨(T s.p).k≠0):RS N T pr (adv s) (w (x.1+1),x.2):=by
 obtain⟨v,u,rfl,h1,h2,h3,h4,h5,h6⟩:=h
 refine⟨v,u,?_,h1,h2,hT.lt h3 hk,h4,h5,h6⟩
 have:=hT.big
 show(w ((s.p:Int)+1),_)=_
 rw[iE (by omega)]
 rfl
end
section
variable {N:Nat} {T:Nat→Tkn} {pr:List ByteArray} {s:PS} {x:StT}
theorem dM(q:Nat)(h:RS N T pr s x)(c:Int):fail q (c,x)=some ((T s.p).a,c):=by
 obtain⟨v,u,rfl,h1,h2,h3,h4,h5,h6⟩:=h
 unfold fail ao1
 dsimp only
 rw[if_pos ⟨by omega,by omega⟩,Int.toNat_natCast]
theorem dG(q:Nat)(h:RS N T pr s x):next q x=some ((T s.p).k,(T s.p).a,(T s.p).t,(T s.p).n,x):=by
 obtain⟨v,u,rfl,h1,h2,h3,h4,h5,h6⟩:=h
 unfold next au5
 dsimp only
 rw[if_pos ⟨by omega,by omega⟩,Int.toNat_natCast]
theorem bg2(q:Nat)(h:RS N T pr s x)(b:ByteArray):is q (b,x)=some (isP T b s,x):=by
 obtain⟨v,u,rfl,h1,h2,h3,h4,h5,h6⟩:=h
 unfold is dx8
 dsimp only
 rw[if_pos ⟨by omega,by omega⟩,Int.toNat_natCast,bg7]
 rfl
theorem eG(q:Nat)(h:RS N T pr s x)(b:ByteArray):take q (b,x)=some (if isP T b s=true then(true,w (x.1+1),x.2)else(false,x)):=by
 unfold take ao8
 rw[bg2 q h]
 dsimp only[Option.bind_some]
 by_cases hb:isP T b s=true
 ·rw[if_pos hb,if_pos hb]
 ·rw[if_neg hb,if_neg hb]
end
def PU(N:Nat)(T:Nat→Tkn)(pr:List ByteArray):PR Unit→StT⊕(Int×Int)→Prop
 | .ok _ s,.inl x=>RS N T pr s x
 | .err p c,.inr e=>p<N∧e=((T p).a,c)
 |_,_=>False
def PX{α:Type}(N:Nat)(T:Nat→Tkn)(pr:List ByteArray):PR α→(α×StT)⊕(Int×Int)→Prop
 | .ok a s,.inl z=>z.1=a∧RS N T pr s z.2
 | .err p c,.inr e=>p<N∧e=((T p).a,c)
 |_,_=>False
section
variable {N:Nat} {T:Nat→Tkn} {pr:List ByteArray} {s:PS} {x:StT}
theorem o9{b:ByteArray}(hb:b≠⟨#[]⟩)(h:isP T b s=true):(T s.p).t≠⟨#[]⟩∨(T s.p).k≠0:=by
 simp only[isP,decide_eq_true_eq]at h
 exact .inl (h▸hb)
theorem mF(hT:TokN N T)(q:Nat)(h:RS N T pr s x)(b:ByteArray)(hb:b≠⟨#[]⟩):Rs (iF q (b,x)) (PU N T pr (n4 T b s)):=by
 unfold iF au7 n4
 rw[eG q h]
 dsimp only[Option.bind_some]
 by_cases hi:isP T b s=true
 ·rw[if_pos hi,if_pos hi]
  exact Rs.neg (by simp) (Rs.some (RS.adv hT h (o9 hb hi)))
 ·rw[if_neg hi,if_neg hi]
  refine Rs.pos (by simp) ?_
  rw[dM q h]
  have h3:=h.choose_spec.choose_spec.2.2.2.1
  exact Rs.some ⟨h3,rfl⟩
theorem RS.lt(h:RS N T pr s x):s.p<N:=h.choose_spec.choose_spec.2.2.2.1
theorem bi4(hT:TokN N T)(q:Nat)(h:RS N T pr s x)(b:ByteArray)(hb:b≠⟨#[]⟩):Rs (qD q (b,x)) (PU N T pr (aE T b s)):=by
 unfold qD ab3 aE
 rw[bg2 q h]
 dsimp only[Option.bind_some]
 by_cases hi:isP T b s=true
 ·rw[if_pos hi]
  refine Rs.neg (by simp[hi]) ?_
  obtain⟨v,u,rfl,h1,h2,h3,h4,h5,h6⟩:=h
  dsimp only
  by_cases ho:s.o=12
  ·rw[if_pos ho]
   refine Rs.pos (by simp[ho]) ?_
   rw[dM q ⟨v,u,rfl,h1,h2,h3,h4,h5,h6⟩]
   exact Rs.some ⟨h3,rfl⟩
  ·rw[if_neg ho]
   refine Rs.neg (by simp;omega) (Rs.some ?_)
   have:=hT.big
   refine⟨v,u,?_,h1,h2,hT.lt h3 (o9 hb hi),(by show s.o+1≤12;omega),h5,h6⟩
   rw[iE (by omega),iE (by omega)]
 ·rw[if_neg hi]
  refine Rs.pos (by simp[hi]) ?_
  rw[dM q h]
  exact Rs.some ⟨h.lt,rfl⟩
theorem cw3(q:Nat){t:ByteArray}(h1:t.size≤12)(h2:∀c∈t.data.toList,c≠32):xT q t=some (wO t):=by
 unfold xT lX
 have hs:(({data:=#[32]}:ByteArray)++t).size=1+t.size:=by simp[ByteArray.size_append];rfl
 rw[if_pos (by unfold maxLen;omega),if_pos (by rw[hs];unfold maxLen;omega)]
 unfold wR
 rw[if_pos (by dsimp only;decide)]
 dsimp only[Option.bind_some]
 rw[←ex8 h2]
 refine congrArg some (congr (congrArg Lib.contains ?_) ?_)
 ·decide
 ·simp
theorem aj3(hT:TokN N T)(q:Nat)(h:RS N T pr s x):Rs (name q x) (PX N T pr (aB T s)):=by
 unfold name ao9 aB
 rw[dG q h]
 dsimp only[Option.bind_some]
 by_cases hk:(T s.p).k=1
 ·refine Rs.neg (by simp[hk]) ?_
  obtain⟨g1,g2⟩:=hT.word s.p hk
  rw[cw3 q g1 g2]
  dsimp only[Option.bind_some]
  by_cases hr:wO (T s.p).t=true
  ·rw[if_pos hr,if_pos (.inr hr),dM q h]
   exact Rs.some ⟨h.lt,rfl⟩
  ·rw[if_neg hr,if_neg (by simp[hk,hr])]
   exact Rs.some ⟨rfl,RS.adv hT h (.inr (by rw[hk];decide))⟩
 ·refine Rs.pos (by simp[hk]) ?_
  rw[if_pos (.inl hk),dM q h]
  exact Rs.some ⟨h.lt,rfl⟩
theorem yZ(hT:TokN N T)(q:Nat)(h:RS N T pr s x)(lo hi:Int):Rs (nM q (lo,hi,x)) (PX N T pr (iD T lo hi s)):=by
 unfold nM tB
 rw[dG q h]
 dsimp only[Option.bind_some]
 by_cases hk:(T s.p).k=2
 ·refine Rs.neg (by simp[hk]) ?_
  by_cases h1:(T s.p).n<lo
  ·have e:iD T lo hi s= .err s.p 5:=by unfold iD;rw[if_neg (by simp[hk]),if_pos (.inl h1)]
   refine Rs.pos (by simp[h1]) ?_
   rw[dM q h,e]
   exact Rs.some ⟨h.lt,rfl⟩
  ·refine Rs.neg (by simpa using h1) ?_
   by_cases h2:hi< (T s.p).n
   ·have e:iD T lo hi s= .err s.p 5:=by unfold iD;rw[if_neg (by simp[hk]),if_pos (.inr h2)]
    refine Rs.pos (by simpa using h2) ?_
    rw[dM q h,e]
    exact Rs.some ⟨h.lt,rfl⟩
   ·have e:iD T lo hi s= .ok (T s.p).n (adv s):=by unfold iD;rw[if_neg (by simp[hk]),if_neg (by omega)]
    rw[e]
    exact Rs.neg (by simpa using h2) (Rs.some ⟨rfl,RS.adv hT h (.inr (by rw[hk];decide))⟩)
 ·have e:iD T lo hi s= .err s.p 11:=by unfold iD;rw[if_pos hk]
  refine Rs.pos (by simp[hk]) ?_
  rw[dM q h,e]
  exact Rs.some ⟨h.lt,rfl⟩
theorem as9(q:Nat)(t:ByteArray):Rs (qH q t) (fun z=>z.2.2.2.2.2.2=kS t):=by
 unfold qH uG
 repeat' refine Rs.ite (fun h=>?_) (fun h=>?_)
 all_goals refine Rs.some ?_
 all_goals simp only[tl_eq]at*
 all_goals first
  | (subst_vars;decide)
  | (show false=kS t;symm;rw[Bool.eq_false_iff,Ne,kS,inP_iff];simp only[bu4,List.mem_cons,List.not_mem_nil,or_false,not_or];refine⟨?_,?_,?_,?_,?_,?_,?_,?_,?_,?_,?_,?_,?_⟩<;>(intro e;subst e;contradiction))
theorem co2{a:ByteArray}{s':PS}(h:aB T s= .ok a s'):a=(T s.p).t∧s'=adv s∧(T s.p).k=1∧wO (T s.p).t=false:=by
 unfold aB at h
 split at h
 ·cases h
 ·rename_i hn
  cases h
  simp only[not_or,Decidable.not_not,Bool.not_eq_true]at hn
  exact⟨rfl,rfl,hn.1,hn.2⟩
theorem cb7(q:Nat)(x0:r8)(a:ByteArray){v u:Nat→ByteArray}(h1:Ag v s.vs)(h2:Ag u pr)(h3:s.p<N)(h4:s.o≤12)(h5:s.vs.length≤12)(h6:pr.length≤2000000000):
 ∀(n i m:Nat),i+n=s.vs.length→n<m→(∀j,j<i→s.vs[j]? ≠some a)→
 Rs (lpG (fun y=>bR (name q) (fail q) x0 y (fun y=>some (.inl y)) (fun z=>some (.inr z))) m (a,s.vs.length,((s.vs.length:Nat):Int),N,(fun j=>(T j).k),(fun j=>(T j).a),(fun j=>(T j).t),(fun j=>(T j).n),((s.p:Nat):Int),((s.o:Nat):Int),pr.length,v,u,((i:Nat):Int)))
  (fun z=>if inP s.vs a=true then z= .inl ((T s.p).a,4)else z= .inr (a,N,(fun j=>(T j).k),(fun j=>(T j).a),(fun j=>(T j).t),(fun j=>(T j).n),((s.p:Nat):Int),((s.o:Nat):Int),s.vs.length,pr.length,v,u)):=by
 intro n
 induction n with
 |zero=>
  intro i m hi hm hno
  obtain⟨m,rfl⟩:∃k,m=k+1:=⟨m-1,by omega⟩
  refine Rs.step ?_
  unfold bR
  dsimp only
  refine Rs.neg (by simp;omega) (Rs.some ?_)
  have hnin:¬inP s.vs a=true:=by
   rw[inP_iff,List.mem_iff_getElem?]
   rintro⟨j,hj⟩
   have:=(List.getElem?_eq_some_iff.1 hj).1
   exact hno j (by omega) hj
  show(if inP s.vs a=true then _ else _)
  rw[if_neg hnin]
 |succ n ih=>
  intro i m hi hm hno
  obtain⟨m,rfl⟩:∃k,m=k+1:=⟨m-1,by omega⟩
  refine Rs.step ?_
  unfold bR
  dsimp only
  refine Rs.pos (by simp;omega) (Rs.pos ⟨by omega,by omega⟩ (Rs.pos ⟨by simp;omega,rfl⟩ ?_))
  have hget:s.vs[i]? =some (v i):=by
   have hlt:i<s.vs.length:=by omega
   have:=List.getElem?_eq_getElem hlt
   rw[this,h1 i _ this]
  have e:0+Int.toNat ((i:Nat):Int)=i:=by omega
  rw[e]
  refine Rs.ite (fun heq=>?_) (fun hne=>?_)
  ·rw[tl_eq]at heq
   have hin:inP s.vs a=true:=by
    rw[inP_iff,←heq]
    exact List.mem_iff_getElem?.2 ⟨i,hget⟩
   rw[dM q (s:=s) (pr:=pr) (N:=N) (T:=T) ⟨v,u,rfl,h1,h2,h3,h4,h5,h6⟩]
   refine Rs.some ?_
   show(if inP s.vs a=true then _ else _)
   rw[if_pos hin]
  ·rw[tl_eq]at hne
   refine Rs.some ?_
   show Rs (lpG _ m _) _
   rw[iE (by omega)]
   refine ih (i+1) m (by omega) (by omega) fun j hj=>?_
   by_cases hji:j=i
   ·subst hji
    rw[hget]
    simpa using hne
   ·exact hno j (by omega)
theorem ae6(hT:TokN N T)(q:Nat)(hq:20≤q)(h:RS N T pr s x):Rs (jY q x) (PX N T pr (jV T s)):=by
 unfold jY pK jV
 refine Rs.bind (aj3 hT q h) fun z hz=>?_
 cases hn:aB T s with
 |out=>rw[hn]at hz;rcases z with z|z<;>exact hz.elim
 |err p c=>
  rw[hn]at hz
  rcases z with z|z
  ·exact hz.elim
  ·exact Rs.some hz
 |ok a s'=>
  rw[hn]at hz
  obtain⟨rfl,rfl,hk,hr⟩:=co2 hn
  rcases z with z|z
  rotate_left
  ·exact hz.elim
  obtain⟨z1,z2⟩:=z
  obtain⟨rfl,v,u,rfl,h1,h2,h3,h4,h5,h6⟩:=hz
  dsimp only[Sum.elim_inl,PR.bind]
  have hsp:=h.lt
  have hN:=hT.big
  have e1:w (((adv s).p:Int)-1)=((s.p:Nat):Int):=by
   show w (((s.p+1:Nat):Int)-1)=_
   rw[sO (by omega) (by omega)];omega
  rw[e1]
  unfold wE
  refine Rs.bind (cb7 (s:=s) q x _ h1 h2 hsp h4 h5 h6 s.vs.length 0 q (by omega) (by show s.vs.length<q;have:s.vs.length≤12:=h5;omega) (fun j hj=>absurd hj (Nat.not_lt_zero j))) fun z hz=>?_
  by_cases hin:inP s.vs (T s.p).t=true
  ·rw[if_pos hin]at hz
   subst hz
   rw[if_pos hin]
   exact Rs.some ⟨hsp,rfl⟩
  ·rw[if_neg hin]at hz
   subst hz
   rw[if_neg hin]
   dsimp only[Sum.elim_inr,Sum.elim_inl]
   by_cases hl:s.vs.length=12
   ·rw[if_pos hl]
    refine Rs.pos (by simp[hl]) ?_
    rw[dM q (s:=s) (pr:=pr) (N:=N) (T:=T) ⟨v,u,rfl,h1,h2,hsp,h4,h5,h6⟩]
    exact Rs.some ⟨hsp,rfl⟩
   ·rw[if_neg hl]
    refine Rs.neg (by simp;omega) (Rs.pos ?_ (Rs.some ⟨rfl,?_⟩))
    ·have:s.vs.length≤12:=h5
     exact⟨by unfold d9;omega,by unfold maxLen;omega,by omega⟩
    ·refine⟨_,u,?_,h1.push,h2,h3,h4,(by simp;have:s.vs.length≤12:=h5;omega),h6⟩
     rw[iE (by omega)]
     simp[adv]
     rfl
end
end Go.Proofs.YtcijknknahbbnaaGreatDoor
/- The program's lexer, of words: the plain one. -/
namespace Go.Proofs.YtcijknknahbbnaaGreatDoor
open Go Go.Am Go.Proofs.Lx
set_option maxRecDepth 100000
theorem au2(q:Nat)(c:Int):kW q c=some (o8 c):=by
 unfold kW tM o8
 simp only[ge_iff_le,decide_eq_true_eq]
 by_cases h1:97≤c<;>by_cases h2:c≤122<;>by_cases h3:65≤c<;>by_cases h4:c≤90<;>simp[h1,h2,h3,h4]<;>omega
theorem ak4(q:Nat)(c:Int):kB q c=some (i9 c):=by
 unfold kB ab7 i9
 simp only[ge_iff_le,decide_eq_true_eq]
 by_cases h1:48≤c<;>by_cases h2:c≤57<;>simp[h1,h2]
theorem eq7(q:Nat)(c:Int):av7 q c=some (nG c):=rfl
theorem eh7(q:Nat)(c:Int):ah3 q c=some (aP c):=by
 unfold ah3 ab6
 rw[au2]
 dsimp only[Option.bind_some]
 unfold aP
 by_cases h:o8 c=true
 ·rw[if_pos h,h];rfl
 ·rw[if_neg h,ak4]
  simp only[Bool.not_eq_true]at h
  rw[h];rfl
theorem wT:cq1 o8:=fun c h=>by rw[Bool.eq_iff_iff];simp[o8];omega
theorem wF:cq1 i9:=fun c h=>by rw[Bool.eq_iff_iff];simp[i9];omega
theorem bc2:cq1 cQ:=fun c h=>by rw[Bool.eq_iff_iff];simp[cQ];omega
theorem dy5:cq1 aP:=fun c h=>by unfold aP;rw[wT c h,wF c h]
theorem dw1:cq1 nG:=fun c h=>by rw[Bool.eq_iff_iff];simp[nG];omega
def lC(g:Int→Bool)(s:ByteArray)(y:Nat):Option (Nat⊕(Int⊕Unit)):=
 if y<s.size then(if(!(g ((Utf8.decode s y).1:Int)))=true then some (.inr (.inl ((y:Nat):Int)))else some (.inl (y+(Utf8.decode s y).2)))else some (.inr (.inr ()))
theorem bb5(g:Int→Bool)(hg:cq1 g)(s:ByteArray):∀(m y:Nat),y≤s.size→s.size-y<m→∃r,lpG (lC g s) m y=some r∧(r= .inl (((y+f9 g (s.data.toList.drop y):Nat):Nat):Int)∨(r= .inr ()∧y+f9 g (s.data.toList.drop y)=s.size)):=by
 intro m
 induction m with
 |zero=>intro y _ h;omega
 |succ m ih=>
  intro y hy hm
  rw[bf0]
  by_cases h:y<s.size
  ·by_cases hc:g ((Utf8.decode s y).1:Int)=true
   ·have e:lC g s y=some (.inl (y+(Utf8.decode s y).2)):=by unfold lC;rw[if_pos h,if_neg (by rw[hc];simp)]
    rw[e]
    obtain⟨h1,h2,_⟩:=pS s y h
    have e2:=dv3 s g hg y h hc
    obtain⟨r,k1,k2⟩:=ih (y+(Utf8.decode s y).2) h2 (by omega)
    refine⟨r,k1,?_⟩
    rw[e2]
    rw[Nat.add_assoc]at k2
    exact k2
   ·have e:lC g s y=some (.inr (.inl ((y:Nat):Int))):=by unfold lC;rw[if_pos h,if_pos (by simpa using hc)]
    rw[e]
    refine⟨_,rfl,.inl ?_⟩
    rw[dv7 s g y h (by rw[←mW s g hg y h];simpa using hc)]
    rfl
  ·have e:lC g s y=some (.inr (.inr ())):=by unfold lC;rw[if_neg h]
   rw[e]
   have:y=s.size:=by omega
   subst this
   exact⟨_,rfl,.inr ⟨rfl,by rw[er2];rfl⟩⟩
theorem uC(g:Int→Bool)(s:ByteArray):f9 g s.data.toList≤s.size:=by
 have:=bh3 g s.data.toList
 simpa using this
theorem ck9(q:Nat)(s:ByteArray)(hq:s.size<q):yC q s=some ((f9 nG s.data.toList:Nat):Int):=by
 unfold yC zR ah7
 have e:(fun y=>iA (av7 q) s y (fun y=>(some (.inl y):Option (eN⊕rD))) (fun z=>some (.inr z)))=lC nG s:=by
  funext y
  unfold iA lC
  simp only[eq7,Option.bind_some]
 rw[e]
 obtain⟨r,k1,k2⟩:=bb5 nG dw1 s q 0 (Nat.zero_le _) (by omega)
 rw[k1]
 rw[List.drop_zero,Nat.zero_add]at k2
 rcases k2 with rfl| ⟨rfl,k2⟩
 ·rfl
 ·rw[k2];rfl
theorem eo7(q:Nat)(s:ByteArray)(hq:s.size<q):ac1 q s=some ((f9 i9 s.data.toList:Nat):Int):=by
 unfold ac1 zX ak8
 have e:(fun y=>iC (kB q) s y (fun y=>(some (.inl y):Option (eZ⊕qT))) (fun z=>some (.inr z)))=lC i9 s:=by
  funext y
  unfold iC lC
  simp only[ak4,Option.bind_some]
 rw[e]
 obtain⟨r,k1,k2⟩:=bb5 i9 wF s q 0 (Nat.zero_le _) (by omega)
 rw[k1]
 rw[List.drop_zero,Nat.zero_add]at k2
 rcases k2 with rfl| ⟨rfl,k2⟩
 ·rfl
 ·rw[k2];rfl
theorem ei6(q:Nat)(s:ByteArray)(hq:s.size<q):cn5 q s=some ((f9 aP s.data.toList:Nat):Int):=by
 unfold cn5 zN ak3
 have e:(fun y=>iJ (ah3 q) s y (fun y=>(some (.inl y):Option (eS⊕qY))) (fun z=>some (.inr z)))=lC aP s:=by
  funext y
  unfold iJ lC
  simp only[eh7,Option.bind_some]
 rw[e]
 obtain⟨r,k1,k2⟩:=bb5 aP dy5 s q 0 (Nat.zero_le _) (by omega)
 rw[k1]
 rw[List.drop_zero,Nat.zero_add]at k2
 rcases k2 with rfl| ⟨rfl,k2⟩
 ·rfl
 ·rw[k2];rfl
def nP(z:Tkn×Int):Int×Int×ByteArray×Int×Int:=(z.1.k,z.1.a,z.1.t,z.1.n,z.2)
theorem dm2(q:Nat)(s:ByteArray)(hq:s.size<q):word q s=some (nP (ah8 s)):=by
 unfold word as3 ah8
 rw[ei6 q s hq]
 dsimp only[Option.bind_some]
 have hl:=uC aP s
 generalize f9 aP s.data.toList=k at hl⊢
 by_cases h:12<k
 ·have h':(k:Int)>12:=by omega
  rw[if_pos h,if_pos (decide_eq_true h')];rfl
 ·have h':¬(k:Int)>12:=by omega
  have h3:(0:Int)≤0∧(0:Int)≤((k:Nat):Int)∧((k:Nat):Int)≤((s.size:Nat):Int):=by omega
  rw[if_neg h,if_neg (fun hh=>h' (of_decide_eq_true hh)),if_pos h3];rfl
end Go.Proofs.YtcijknknahbbnaaGreatDoor
/- The program's lexer, of symbols and numbers: the plain one. -/
namespace Go.Proofs.YtcijknknahbbnaaGreatDoor
open Go Go.Am Go.Proofs.Lx
set_option maxRecDepth 100000
theorem gY{s:ByteArray}(h1:1<s.size){l:List UInt8}(hl:l∈xF)(e:s.extract 0 2=⟨l.toArray⟩):((3,0,s.extract 0 2,0,0):Int×Int×ByteArray×Int×Int)=nP (eE s):=by
 have h2:xH s.data.toList=2:=ed3 (t:=s.extract 0 2) h1 rfl (by rw[e];exact hl)
 unfold eE
 rw[h2,if_neg (by decide)]
 rfl
theorem dp7{s:ByteArray}(h0:0<s.size)(hn:¬(1<s.data.toList.length∧s.data.toList.take 2∈xF))(hi:(0:Int)≤Lib.indexByte sym1 s[0]):((3,0,s.extract 0 1,0,0):Int×Int×ByteArray×Int×Int)=nP (eE s):=by
 have h2:=cr9 h0 hn
 rw[if_pos hi]at h2
 unfold eE
 rw[h2,if_neg (by decide)]
 rfl
theorem ee7{s:ByteArray}(h0:0<s.size)(hn:¬(1<s.data.toList.length∧s.data.toList.take 2∈xF))(hi:¬(0:Int)≤Lib.indexByte sym1 s[0]):((0,0,⟨#[]⟩,0,11):Int×Int×ByteArray×Int×Int)=nP (eE s):=by
 have h2:=cr9 h0 hn
 rw[if_neg hi]at h2
 unfold eE
 rw[h2,if_pos rfl]
 rfl
theorem dm1(q:Nat)(s:ByteArray)(h0:0<s.size):Rs (bi6 q s) (fun z=>z=nP (eE s)):=by
 unfold bi6 au4
 refine Rs.pos (show(0:Int)≤0∧(0:Int)< ((s.size:Nat):Int)by omega) ?_
 have hg:=cH s 0 h0
 have e:=get_at s 0 h0
 simp only[Nat.add_zero]at e
 rw[List.drop_zero,e]at hg
 have hb:List.getD s.data.toList 0 (0:UInt8)=s[0]:=by rw[hg];rfl
 have hix:∀q,uA q ({data:=#[123,125,40,41,61,59,44,58,60,62,43,45,42,47,33,46]},((UInt8.toNat (List.getD s.data.toList 0 (0:UInt8)):Nat):Int))=some (Lib.indexByte sym1 s[0]):=by
  intro q
  unfold uA
  dsimp only
  rw[hb,Int.toNat_natCast,UInt8.ofNat_toNat]
  rfl
 refine Rs.bind ⟨_,hix q,rfl⟩ fun z hz=>?_
 subst hz
 by_cases hi:(0:Int)≤Lib.indexByte sym1 s[0]
 ·refine Rs.pos (decide_eq_true hi) ?_
  have hb1:(0:Int)≤0∧(0:Int)≤1∧(1:Int)≤((s.size:Nat):Int):=by omega
  by_cases h1:1<s.size
  ·have hbn:(0:Int)≤0∧(0:Int)≤2∧(2:Int)≤((s.size:Nat):Int):=by omega
   refine Rs.pos (decide_eq_true (show((s.size:Nat):Int)>1 by omega)) (Rs.pos hbn ?_)
   by_cases c1:s.extract 0 2=sOr
   ·exact Rs.pos (tl_eq.2 c1) (Rs.pos hbn (Rs.some (gY h1 (by decide) c1)))
   refine Rs.neg (fun h=>c1 (tl_eq.1 h)) ?_
   by_cases c2:s.extract 0 2=en1
   ·exact Rs.pos (tl_eq.2 c2) (Rs.pos hbn (Rs.some (gY h1 (by decide) c2)))
   refine Rs.neg (fun h=>c2 (tl_eq.1 h)) ?_
   by_cases c3:s.extract 0 2=sLe
   ·exact Rs.pos (tl_eq.2 c3) (Rs.pos hbn (Rs.some (gY h1 (by decide) c3)))
   refine Rs.neg (fun h=>c3 (tl_eq.1 h)) ?_
   by_cases c4:s.extract 0 2=sGe
   ·exact Rs.pos (tl_eq.2 c4) (Rs.pos hbn (Rs.some (gY h1 (by decide) c4)))
   refine Rs.neg (fun h=>c4 (tl_eq.1 h)) ?_
   by_cases c5:s.extract 0 2=sEq
   ·exact Rs.pos (tl_eq.2 c5) (Rs.pos hbn (Rs.some (gY h1 (by decide) c5)))
   refine Rs.neg (fun h=>c5 (tl_eq.1 h)) ?_
   by_cases c6:s.extract 0 2=sNe
   ·exact Rs.pos (tl_eq.2 c6) (Rs.pos hbn (Rs.some (gY h1 (by decide) c6)))
   refine Rs.neg (fun h=>c6 (tl_eq.1 h)) ?_
   have hn:¬(1<s.data.toList.length∧s.data.toList.take 2∈xF):=cs0 rfl (by
    intro l hl
    simp only[xF,List.mem_cons,List.not_mem_nil,or_false]at hl
    rcases hl with rfl|rfl|rfl|rfl|rfl|rfl
    ·exact c1
    ·exact c2
    ·exact c3
    ·exact c4
    ·exact c5
    ·exact c6)
   exact Rs.pos hb1 (Rs.some (dp7 h0 hn hi))
  ·have hn:¬(1<s.data.toList.length∧s.data.toList.take 2∈xF):=fun h=>h1 (by simpa using h.1)
   refine Rs.neg (fun h=>h1 (by have:=of_decide_eq_true h;omega)) ?_
   exact Rs.pos hb1 (Rs.some (dp7 h0 hn hi))
 ·refine Rs.neg (fun h=>hi (of_decide_eq_true h)) ?_
  by_cases h1:1<s.size
  ·have hbn:(0:Int)≤0∧(0:Int)≤2∧(2:Int)≤((s.size:Nat):Int):=by omega
   refine Rs.pos (decide_eq_true (show((s.size:Nat):Int)>1 by omega)) (Rs.pos hbn ?_)
   by_cases c1:s.extract 0 2=sOr
   ·exact Rs.pos (tl_eq.2 c1) (Rs.pos hbn (Rs.some (gY h1 (by decide) c1)))
   refine Rs.neg (fun h=>c1 (tl_eq.1 h)) ?_
   by_cases c2:s.extract 0 2=en1
   ·exact Rs.pos (tl_eq.2 c2) (Rs.pos hbn (Rs.some (gY h1 (by decide) c2)))
   refine Rs.neg (fun h=>c2 (tl_eq.1 h)) ?_
   by_cases c3:s.extract 0 2=sLe
   ·exact Rs.pos (tl_eq.2 c3) (Rs.pos hbn (Rs.some (gY h1 (by decide) c3)))
   refine Rs.neg (fun h=>c3 (tl_eq.1 h)) ?_
   by_cases c4:s.extract 0 2=sGe
   ·exact Rs.pos (tl_eq.2 c4) (Rs.pos hbn (Rs.some (gY h1 (by decide) c4)))
   refine Rs.neg (fun h=>c4 (tl_eq.1 h)) ?_
   by_cases c5:s.extract 0 2=sEq
   ·exact Rs.pos (tl_eq.2 c5) (Rs.pos hbn (Rs.some (gY h1 (by decide) c5)))
   refine Rs.neg (fun h=>c5 (tl_eq.1 h)) ?_
   by_cases c6:s.extract 0 2=sNe
   ·exact Rs.pos (tl_eq.2 c6) (Rs.pos hbn (Rs.some (gY h1 (by decide) c6)))
   refine Rs.neg (fun h=>c6 (tl_eq.1 h)) ?_
   have hn:¬(1<s.data.toList.length∧s.data.toList.take 2∈xF):=cs0 rfl (by
    intro l hl
    simp only[xF,List.mem_cons,List.not_mem_nil,or_false]at hl
    rcases hl with rfl|rfl|rfl|rfl|rfl|rfl
    ·exact c1
    ·exact c2
    ·exact c3
    ·exact c4
    ·exact c5
    ·exact c6)
   exact Rs.some (ee7 h0 hn hi)
  ·have hn:¬(1<s.data.toList.length∧s.data.toList.take 2∈xF):=fun h=>h1 (by simpa using h.1)
   refine Rs.neg (fun h=>h1 (by have:=of_decide_eq_true h;omega)) ?_
   exact Rs.some (ee7 h0 hn hi)
theorem ee2:∀(l:List UInt8) (n:Int),(∀b∈l,i9 b.toNat=true)→0≤n→n≤ae8 n l
 | [],n,_,_=>Int.le_refl _
 |b::l,n,h,h0=>by
  have hb:=h b (.head _)
  simp[i9]at hb
  have:=ee2 l (10*n+((b.toNat:Int)-48)) (fun c hc=>h c (.tail _ hc)) (by omega)
  show n≤ae8 (10*n+((b.toNat:Int)-48)) l
  omega
theorem ei0(q:Nat)(x0:iB)(t:ByteArray)(hd:∀b∈t.data.toList,i9 b.toNat=true):∀(m p:Nat) (n:Int),p≤t.size→t.size-p<m→0≤n→n≤2147483647→
 Rs (lpG (fun y=>lT (ac1 q) x0 y (fun y=>some (.inl y)) (fun z=>some (.inr z))) m (t,n,p)) (fun r=>if ae8 n (t.data.toList.drop p)>2147483647 then r= .inl ()else r= .inr (t,ae8 n (t.data.toList.drop p))):=by
 intro m
 induction m with
 |zero=>intro p n _ h;omega
 |succ m ih=>
  intro p n hp hm h0 h1
  refine Rs.step3 fun Q hQ=>?_
  unfold lT
  dsimp only
  by_cases h:p<t.size
  ·refine Rs.pos h ?_
   have hg:=cH t p h
   have hdg:i9 ((t.get! p).toNat:Int)=true:=hd _ (List.mem_of_getElem? (bc1 t p h))
   have hdg':=hdg
   simp[i9]at hdg'
   have e:=get_at t p h
   simp only[Nat.add_zero]at e
   have hdec:Utf8.decode t p=((t.get! p).toNat,1):=by
    have:=decode_ascii t p h (by rw[←e];omega)
    rw[this,←e]
   rw[hdec]
   dsimp only
   have e32:IntKind.wrap .i32 (((t.get! p).toNat:Int)-48)=((t.get! p).toNat:Int)-48:=by
    simp[IntKind.wrap,IntKind.bits,IntKind.signed];omega
   have ew:w (w (10*n)+w (IntKind.wrap .i32 (((t.get! p).toNat:Int)-48)))=10*n+(((t.get! p).toNat:Int)-48):=by
    rw[e32,sO (n:=10*n) (by omega) (by omega),sO (n:=((t.get! p).toNat:Int)-48) (by omega) (by omega),sO (by omega) (by omega)]
   rw[ew]
   have ev:ae8 n (t.data.toList.drop p)=ae8 (10*n+(((t.get! p).toNat:Int)-48)) (t.data.toList.drop (p+1)):=by rw[hg];rfl
   by_cases hc:10*n+(((t.get! p).toNat:Int)-48)>2147483647
   ·refine Rs.pos (decide_eq_true hc) (Rs.some ?_)
    have hv:=ee2 (t.data.toList.drop (p+1)) (10*n+(((t.get! p).toNat:Int)-48)) (fun b hb=>hd b (List.mem_of_mem_drop hb)) (by omega)
    show(if _ then _ else _)
    rw[if_pos (by rw[ev];omega)]
   ·refine Rs.neg (fun hh=>hc (of_decide_eq_true hh)) (Rs.some (hQ _ ?_))
    rw[ev]
    exact ih (p+1) _ h (by omega) (by omega) (by omega)
  ·refine Rs.neg h (Rs.some ?_)
   have hlen:t.data.toList.length=t.size:=by simp
   have:t.data.toList.drop p=[]:=List.drop_of_length_le (by omega)
   show(if _ then _ else _)
   rw[this]
   rw[if_neg (show¬(ae8 n []>2147483647)by show¬n>2147483647;omega)]
   rfl
theorem dl9(q:Nat)(s:ByteArray)(hq:s.size<q):Rs (bi3 q s) (fun z=>z=nP (hO (s.extract 0 (f9 i9 s.data.toList)))):=by
 unfold bi3 at2
 rw[eo7 q s hq]
 dsimp only[Option.bind_some]
 have hl:=uC i9 s
 have hd:∀b∈(s.extract 0 (f9 i9 s.data.toList)).data.toList,i9 b.toNat=true:=by
  intro b hb
  rw[aI]at hb
  simp only[List.drop_zero,Nat.sub_zero]at hb
  obtain⟨j,hj⟩:=List.mem_iff_getElem?.1 hb
  rw[List.getElem?_take]at hj
  split at hj
  ·rename_i hlt
   obtain⟨c,h1,h2⟩:=au3 i9 s.data.toList j hlt
   rw[h1]at hj
   cases hj
   exact h2
  ·cases hj
 have ht:(s.extract 0 (f9 i9 s.data.toList)).size≤s.size:=by simp;omega
 generalize hk:f9 i9 s.data.toList=k at hl hd ht⊢
 have e0:Int.toNat ((k:Nat):Int)=k:=by omega
 rw[e0]
 refine Rs.pos (show(0:Int)≤0∧(0:Int)≤((k:Nat):Int)∧((k:Nat):Int)≤((s.size:Nat):Int)by omega) ?_
 generalize s.extract 0 k=t at hd ht⊢
 have hloop:=ei0 q s t hd q 0 0 (Nat.zero_le _) (by omega) (by omega) (by omega)
 rw[List.drop_zero]at hloop
 have tail:¬(1<t.size∧t.data.toList[0]? =some 48)→Rs ((ba5 (ac1 q) q s (t,0,0)).bind fun z16=>Sum.elim (fun z16a=>(some (((0:Int),(0:Int),{data:=#[]},(0:Int),(5:Int))):Option vM)) (fun z16b=>some (((2:Int),(0:Int),z16b.1,z16b.2,(0:Int)))) z16) (fun z=>z=nP (hO t)):=by
  intro hno
  refine Rs.bind hloop fun r hr=>?_
  unfold hO
  rw[if_neg hno]
  by_cases hv:ae8 0 t.data.toList>2147483647
  ·rw[if_pos hv]at hr⊢
   subst hr
   exact Rs.some rfl
  ·rw[if_neg hv]at hr⊢
   subst hr
   exact Rs.some rfl
 by_cases h1:1<t.size
 ·refine Rs.pos (decide_eq_true (show((t.size:Nat):Int)>1 by omega)) (Rs.pos (show(0:Int)≤0∧(0:Int)< ((t.size:Nat):Int)by omega) ?_)
  have hg:=cH t 0 (by omega)
  rw[List.drop_zero]at hg
  have hb:List.getD t.data.toList 0 (0:UInt8)=t.get! 0:=by rw[hg];rfl
  rw[hb]
  by_cases hc:(((t.get! 0).toNat:Nat):Int)=48
  ·refine Rs.pos (by simpa using hc) (Rs.some ?_)
   unfold hO
   rw[if_pos ⟨h1,by rw[hg];simp only[List.getElem?_cons_zero,Option.some.injEq];exact UInt8.toNat_inj.1 (by show(t.get! 0).toNat=48;omega)⟩]
   rfl
  ·refine Rs.neg (by simpa using hc) (tail fun h=>hc ?_)
   have:=h.2
   rw[hg]at this
   simp only[List.getElem?_cons_zero,Option.some.injEq]at this
   rw[this];rfl
 ·exact Rs.neg (fun h=>h1 (by have:=of_decide_eq_true h;omega)) (tail fun h=>h1 h.1)
end Go.Proofs.YtcijknknahbbnaaGreatDoor

