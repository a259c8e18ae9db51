/- Texts joined. -/
import Derived.Test.YtjfkkokeegpeiaaGreatDoorQC
import Derived.Test.YtjfkkokeegpeiaaGreatDoorProg
import Derived.Test.YtjfkkokeegpeiaaGreatDoorRows
import Derived.Lib.Strings
import Derived.Lib.ItoaNum
import Derived.Lib.Join
import Derived.Lib.Repeat
import Derived.Lib.LaidTab
import Derived.Lib.AppendIntMem
import Derived.Lib.IndexMore
import Derived.Recover
import Derived.Shelf.Strings.Builder1
import Derived.Shelf.Strings.Builder2
import Derived.Shelf.Strings.OnBuilder
import Derived.Shelf.Small.Strs
import Derived.Shelf.Small.Wraps
import Derived.Shelf.Strings.BuilderF
import Derived.Shelf.Strings.BuilderK
import Derived.Shelf.Strings.Builder2Cap
import Derived.Shelf.Strconv.Itoa0
import Derived.Shelf.Strconv.Itoa1
import Derived.Shelf.LaysM
import Derived.Shelf.Strconv.Itoa2
import Derived.Shelf.Strconv.Itoa3
import Derived.Shelf.Strings.Search1
import Derived.Shelf.Strings.Search2
import Derived.Shelf.Strings.Search3
import Derived.Shelf.Strings.Shaped
import Derived.Shelf.Strings.Prefix
import Derived.Shelf.Bits.Mul64
import Derived.Shelf.Strings.Repeat
import Derived.Shelf.Strings.BuilderCap
import Derived.Test.YtjfkkokeegpeiaaGreatDoorCards
import Derived.Test.YtjfkkokeegpeiaaGreatDoorTie
import Derived.Deep.DeepHandedRow
import Derived.Deep.DeepWitnessRowRef
import Derived.LaidMore
import Derived.Laws.RangeAny
import Derived.Lib.Bytealg
/- The environment of this seat: variables of the packages, library functions by contract. -/
set_option linter.unusedSimpArgs false
set_option linter.unusedVariables false
set_option linter.unusedSimpArgs false
set_option linter.unusedVariables false
namespace Go.Proofs.YtjfkkokeegpeiaaGreatDoor
open Go Go.Am
abbrev i64(n:Int):V:=.sc (.int .i64 n)
abbrev bo(b:Bool):V:=.sc (.bool b)
abbrev st(s:ByteArray):V:=.sc (.string s)
def tabL:List (List V):=[
 [.sc (.string ⟨#[74]⟩),i64 1,i64 1,i64 0,i64 0,i64 0,i64 0],
 [.sc (.string ⟨#[107,74]⟩),i64 1000,i64 1,i64 0,i64 0,i64 0,i64 0],
 [.sc (.string ⟨#[87,104]⟩),i64 3600,i64 1,i64 0,i64 0,i64 0,i64 0],
 [.sc (.string ⟨#[66]⟩),i64 1,i64 0,i64 1,i64 0,i64 0,i64 0],
 [.sc (.string ⟨#[107,66]⟩),i64 1000,i64 0,i64 1,i64 0,i64 0,i64 0],
 [.sc (.string ⟨#[115]⟩),i64 1,i64 0,i64 0,i64 1,i64 0,i64 0],
 [.sc (.string ⟨#[109,105,110]⟩),i64 60,i64 0,i64 0,i64 1,i64 0,i64 0],
 [.sc (.string ⟨#[104]⟩),i64 3600,i64 0,i64 0,i64 1,i64 0,i64 0],
 [.sc (.string ⟨#[100,101,103]⟩),i64 1,i64 0,i64 0,i64 0,i64 1,i64 0],
 [.sc (.string ⟨#[75]⟩),i64 1,i64 0,i64 0,i64 0,i64 0,i64 1],
 [.sc (.string ⟨#[87]⟩),i64 1,i64 1,i64 0,i64 (-1),i64 0,i64 0],
 [.sc (.string ⟨#[107,87]⟩),i64 1000,i64 1,i64 0,i64 (-1),i64 0,i64 0],
 [.sc (.string ⟨#[66,112,115]⟩),i64 1,i64 0,i64 1,i64 (-1),i64 0,i64 0]]
def ih5:V:=.ro 7 13 (fun j=>tabL.getD j [])
def fm5:Nat→Option (List V)
 |0=>some [ih5]
 |_=>none
def ca2:List (List V)→Option (List ByteArray)
 | []=>some []
 | [.sc (.string s)]::l=>match ca2 l with|some r=>some (s::r) |none=>none
 |_=>none
def bz9(f:FuncId)(args:List V):Option V:=
 if f=110 then match args with
  | [.sc (.string s),.sc (.string sub)]=>if s.size<4294967281 then some (bo (Lib.contains s.data.toList sub.data.toList))else none
  |_=>none
 else if f=83 then match args with
  | [.sc (.string s),.sc (.int .u8 c)]=>some (i64 (Lib.indexByte s.data.toList (UInt8.ofNat c.toNat)))
  |_=>none
 else if f=41 then match args with
  | [.sc (.int .i64 n)]=>if-9223372036854775808≤n∧n≤9223372036854775807 then some (st ⟨(Lib.itoa n).toArray⟩)else none
  |_=>none
 else if f=35 then match args with
  | [.sc (.slice none 0 0),.sc (.string _)]=>some (st ByteArray.empty)
  | [.ro 1 n g,.sc (.string sep)]=>match ca2 ((List.range n).map g)with
   |some xs=>if(Lib.join (xs.map (·.data.toList)) sep.data.toList).length≤140737488355328∧n≤140737488355328 then some (st ⟨(Lib.join (xs.map (·.data.toList)) sep.data.toList).toArray⟩)else none
   |none=>none
  |_=>none
 else if f=71 then match args with
  | [.sc (.string s),.sc (.int .i64 c)]=>if 0≤c∧c≤1000∧s.size≤1000 then some (st ⟨(Lib.repeatL s.data.toList c.toNat).toArray⟩)else none
  |_=>none
 else none
def way(a b:Nat):Am.Way:=if b∈[23,27,28,33,39,56,57,67,69,76,89,95,96,97,99,111,112,113,114,115,116,117,118,120,121,122,123,136,138,145,146]then .giveM else if b∈[8,9,12,15,18,20,24,29,81]then .give else if b∈[35,63]then .lend else .plain
def il2(f:FuncId):Bool:=false
def ik4(f:FuncId):Bool:=f==8
def fj9(f:FuncId):Option Nat:=if f=21 then some 3 else none
open Go.RowKit
noncomputable def E:Env:={P:=Tryz.prog,glob:=fm5,ext:=bz9,way:=way,lit:=il2,code:=fun f=>(Tryz.prog.funcs[f]?).bind gf5,inv:=[(1,bl9 .i64),(2,ao7 (Lib.pow10Tab.map fun z=>Value.int .u64 z).toArray)],dfn:=ik4,idle:=fj9,rows:=true,sett:=fun _=>true}
noncomputable def E0:Env:={P:=Tryz.prog,glob:=fun _=>none,ext:=fun _ _=>none,way:=fun _ _=>.plain,lit:=fun _=>false,code:=fun f=>(Tryz.prog.funcs[f]?).bind gf5}
noncomputable def rest65:ACode:=match E0.code 21 with|some (.seq _ b)=>b|_=>.skip
def ie9:List V:=[.junk,.junk,.junk,.sc .nilIface]++List.replicate 2 (.sc undef)++[.sc .nilIface]++List.replicate 13 (.sc undef)
def T0:l8:=fun _ _ _ _=>none
def L0:f5:=fun _ _ _ _ _=>none
def dw1:Ex→Bool| .normal=>true|_=>false
theorem ij2:aW E0 T0 L0 rest65 {fr:=ie9,H:=hp [],nx:=0,rt:=0,me:=21} (fun e _=>if dw1 e then some (.c (.pan .junk))else none)=some (.c (.pan .junk)):=by kernel_rfl
theorem id9(a:Act)(w:World)(hd:a.defers=[])(ht:b8 (fun _=>none) (fun _=>False) w (fun _=>False) ie9 a.tmps.toList):Code.wp Tryz.prog rest65.erase (fun e a' w'=>e= .normal∧a'.defers=[]∧Below w.heap.size w w') a w:=by
 obtain⟨e,s',h1,h2⟩:=cC (E:=E0) (ca:=T0) (lo:=L0) (fun _ _ _ _ _ h=>by cases h) (SoundX.none fun _ _=>rfl) (fun _ _ _ _ _ _ h=>by cases h) rest65 _ _ _ ij2
 split at h1
 case isFalse=>cases h1
 rename_i he
 have he:e= .normal:=by cases e<;>simp_all [dw1]
 subst he
 refine wp_mono (h2 (fun _=>none) (fun _=>False) (fun _=>False) a w ⟨ht,⟨fun i c hc=>(by simp[hp]at hc),fun _ _=>rfl,fun i b m h=>(by cases h),fun i b m h=>(by cases h),fun i j b m m' h=>(by cases h),fun b hb=>hb.elim⟩,⟨fun _=>hd,fun d h=>(by rw[hd]at h;cases h),fun h=>nomatch (show true=false from h)⟩,fun i hi=>hi.elim,⟨fun g cs h=>(by cases h),fun p hp=>(by cases hp)⟩,fun i hi=>absurd hi (Nat.not_lt_zero i)⟩) fun e' a' w' hp=>?_
 obtain⟨β',S',D',q1,q2,q3,q4,q5,q6⟩:=hp.ex
 cases e'<;>simp only[ExR]at q1
 exact⟨rfl,q2.df.1 rfl,uG q3⟩
theorem gr5 : gx5 Tryz.prog 21 3 := by
  intro us w hus
  refine ⟨?_, ?_⟩
  · have hb : ∃ fn, Tryz.prog.funcs[21]? = some fn ∧ fn.body.isSome = true ∧ fn.name ≠ "runtime.NumGoroutine" := ⟨_, Tryz.func21, by kernel_rfl, by intro e; exact absurd e (by decide +kernel)⟩
    obtain ⟨fn, h1, h2, h3⟩ := hb
    have hb : ¬ fn.body = none := by intro hb; rw [hb] at h2; cases h2
    simp [callFunc, Sem.run_bind, h1, h3, hb, program, Sem.run]
  · match us, hus with
    | ⟨[x, y, z]⟩, _ =>
      refine callsD_of_wpS Tryz.func21 rfl fun c₀ cs hu => ?_
      apply wpS_seq
      apply wpS_region
      simp [wpOpsS, go_sem, recoverD, hu, Tryz.ntmps21, Exit.thenS]
      refine wpS_of_wp ?_
      refine (congrArg (fun c => Code.wp Tryz.prog c _ _ _) (?_ : rest65.erase = _)).mp (wp_mono (id9 _ w rfl ?_) ?_)
      · kernel_rfl
      · simp [ie9, b8, den]
        exact ⟨_, _, ⟨rfl, rfl⟩, _, _, rfl, _, rfl⟩
      · rintro e a' w' ⟨rfl, hd, hb⟩
        refine ⟨hd, _, ?_, _, by simp [results, Tryz.results21, go_sem]; rfl, ⟨_, rfl⟩, rfl, hb⟩
        cases c₀; simp_all
set_option maxRecDepth 100000 in
theorem hW:WF E:=WF.of E (fun _=>rfl) (by kernel_rfl) (fun g n h=>by
 have h':fj9 g=some n:=h
 unfold fj9 at h'
 split at h'
 ·rename_i hg;subst hg;cases h';exact gr5
 ·cases h')
end Go.Proofs.YtjfkkokeegpeiaaGreatDoor
/-
 DERIVED: THE SHELF's CONTRACTS AT THIS DUMP, IN PLAIN WORDS (tools/lay-plain.mjs out of 'TryzShelf.lean', which tools/lay-shelf.mjs fk9): THE SAME DECLARATIONS UNDER THE SAME NAMES: 'import', 'namespace', 'open', 'def', 'theorem' AND NOTHING ELSE: no command of the shelf's: FOR A HAND-IN. Each laying: the table of numbers ('.._ren') and one theorem, a field a fact of the dump's own or the kernel's comparison; each contract: ONE APPLICATION.
-/
namespace Go.Proofs
open Go.Shelf
open Go.RowKit in
def Tryz.lays169_ren:Go.Shelf.Ren:=⟨fun|169=>37|n=>n,fun|70=>74|9=>9|0=>0|72=>77|37=>75|127=>106|3=>3|5=>5|n=>n,fun|n=>n⟩
theorem Tryz.lays169:Go.Proofs.Lays.n169 Tryz.prog Tryz.lays169_ren:={
 mixed:=by kernel_rfl
 f169:=Tryz.func37.trans (congrArg some (by kernel_rfl))
 t0:=Tryz.underlying0
 a0:=Tryz.isAgg0
 z0:=Tryz.sizeOf0
 v0:=Tryz.zeroValue0
 t3:=Tryz.underlying3
 a3:=Tryz.isAgg3
 z3:=Tryz.sizeOf3
 v3:=Tryz.zeroValue3
 t9:=Tryz.underlying9
 a9:=Tryz.isAgg9
 z9:=Tryz.sizeOf9
 v9:=Tryz.zeroValue9
 t37:=Tryz.underlying75
 a37:=Tryz.isAgg75
 z37:=Tryz.sizeOf75
 v37:=Tryz.zeroValue75
 t70:=Tryz.underlying74
 a70:=Tryz.isAgg74
 z70:=Tryz.sizeOf74
 v70:=Tryz.zeroValue74
 t72:=Tryz.underlying77
 a72:=Tryz.isAgg77
 z72:=Tryz.sizeOf77
 v72:=Tryz.zeroValue77
 t127:=Tryz.underlying106
 a127:=Tryz.isAgg106
 z127:=Tryz.sizeOf106
 v127:=Tryz.zeroValue106}
open Go.RowKit in
open Go.RowKit in
open Go.RowKit in
open Go.RowKit in
open Go.RowKit in
def Tryz.lays156_ren:Go.Shelf.Ren:=⟨fun|156=>35|165=>73|166=>70|169=>37|240=>100|241=>104|276=>125|277=>129|n=>n,fun|31=>48|9=>9|3=>3|4=>4|0=>0|20=>20|72=>77|76=>101|70=>74|37=>75|75=>100|127=>106|164=>130|5=>5|80=>83|n=>n,fun|n=>n⟩
theorem Tryz.lays156:Go.Proofs.Lays.n156 Tryz.prog Tryz.lays156_ren:={
 mixed:=by kernel_rfl
 f156:=Tryz.func35.trans (congrArg some (by kernel_rfl))
 f165:=Tryz.func73.trans (congrArg some (by kernel_rfl))
 f166:=Tryz.func70.trans (congrArg some (by kernel_rfl))
 f169:=Tryz.func37.trans (congrArg some (by kernel_rfl))
 f240:=Tryz.func100.trans (congrArg some (by kernel_rfl))
 f241:=Tryz.func104.trans (congrArg some (by kernel_rfl))
 f276:=Tryz.func125.trans (congrArg some (by kernel_rfl))
 f277:=Tryz.func129.trans (congrArg some (by kernel_rfl))
 t0:=Tryz.underlying0
 a0:=Tryz.isAgg0
 z0:=Tryz.sizeOf0
 v0:=Tryz.zeroValue0
 t3:=Tryz.underlying3
 a3:=Tryz.isAgg3
 z3:=Tryz.sizeOf3
 v3:=Tryz.zeroValue3
 t4:=Tryz.underlying4
 a4:=Tryz.isAgg4
 z4:=Tryz.sizeOf4
 v4:=Tryz.zeroValue4
 t9:=Tryz.underlying9
 a9:=Tryz.isAgg9
 z9:=Tryz.sizeOf9
 v9:=Tryz.zeroValue9
 t20:=Tryz.underlying20
 a20:=Tryz.isAgg20
 z20:=Tryz.sizeOf20
 v20:=Tryz.zeroValue20
 t31:=Tryz.underlying48
 a31:=Tryz.isAgg48
 z31:=Tryz.sizeOf48
 v31:=Tryz.zeroValue48
 t37:=Tryz.underlying75
 a37:=Tryz.isAgg75
 z37:=Tryz.sizeOf75
 v37:=Tryz.zeroValue75
 t70:=Tryz.underlying74
 a70:=Tryz.isAgg74
 z70:=Tryz.sizeOf74
 v70:=Tryz.zeroValue74
 t72:=Tryz.underlying77
 a72:=Tryz.isAgg77
 z72:=Tryz.sizeOf77
 v72:=Tryz.zeroValue77
 t75:=Tryz.underlying100
 a75:=Tryz.isAgg100
 z75:=Tryz.sizeOf100
 v75:=Tryz.zeroValue100
 t76:=Tryz.underlying101
 a76:=Tryz.isAgg101
 z76:=Tryz.sizeOf101
 v76:=Tryz.zeroValue101
 t127:=Tryz.underlying106
 a127:=Tryz.isAgg106
 z127:=Tryz.sizeOf106
 v127:=Tryz.zeroValue106
 t164:=Tryz.underlying130
 a164:=Tryz.isAgg130
 z164:=Tryz.sizeOf130
 v164:=Tryz.zeroValue130}
theorem Tryz.Builder_Extra_156:Builder.Extra Tryz.prog Tryz.lays156_ren:={
 sizeBuilder:=by kernel_rfl
 liesBuilder:=by kernel_rfl
 t5:=Tryz.underlying5
 a5:=Tryz.isAgg5
 z5:=Tryz.sizeOf5
 v5:=Tryz.zeroValue5
 infoByte:=by kernel_rfl
 cellsByte:=by kernel_rfl
 sizeByte:=by kernel_rfl
 neB5:=by decide}
open Go.RowKit in
theorem Tryz.strings_Join_none(a:Option Addr)(c:Nat)(sep:ByteArray)(w:World):
 Calls Tryz.prog 35 #[.slice a 0 c,.string sep] w fun e w'=>e= .returned (.string ⟨#[]⟩)∧w'=w:=Any.strings_Join_none Tryz.lays156 Tryz.Builder_Extra_156 a c sep w
open Go.RowKit in
theorem Tryz.strings_Join(bk o c:Nat)(xs:List ByteArray)(sep:ByteArray)(w:World)(hcells:∀(j:Nat) x,xs[j]? =some x→w.cell? ⟨bk,o+j,none⟩=some (.string x))(hbk:bk<w.heap.size)(hN:xs.length≤140737488355328)(hcap:xs.length≤c)(hlen:(Lib.join (xs.map (·.data.toList)) sep.data.toList).length≤140737488355328):
 Calls Tryz.prog 35 #[.slice (some ⟨bk,o,none⟩) xs.length c,.string sep] w fun e w'=>e= .returned (.string ⟨(Lib.join (xs.map (·.data.toList)) sep.data.toList).toArray⟩)∧Below w.heap.size w w':=Any.strings_Join Tryz.lays156 Tryz.Builder_Extra_156 bk o c xs sep w hcells hbk hN hcap hlen
def Tryz.lays137_ren:Go.Shelf.Ren:=⟨fun|137=>83|217=>108|266=>134|n=>n,fun|9=>9|5=>5|3=>3|n=>n,fun|n=>n⟩
theorem Tryz.lays137:Go.Proofs.Lays.n137 Tryz.prog Tryz.lays137_ren:={
 mixed:=by kernel_rfl
 f137:=Tryz.func83.trans (congrArg some (by kernel_rfl))
 f217:=Tryz.func108.trans (congrArg some (by kernel_rfl))
 f266:=Tryz.func134.trans (congrArg some (by kernel_rfl))
 t3:=Tryz.underlying3
 a3:=Tryz.isAgg3
 z3:=Tryz.sizeOf3
 v3:=Tryz.zeroValue3
 t5:=Tryz.underlying5
 a5:=Tryz.isAgg5
 z5:=Tryz.sizeOf5
 v5:=Tryz.zeroValue5
 t9:=Tryz.underlying9
 a9:=Tryz.isAgg9
 z9:=Tryz.sizeOf9
 v9:=Tryz.zeroValue9}
open Go.RowKit in
theorem Tryz.strings_IndexByte(s:ByteArray)(c:Int)(w:World):
 Calls Tryz.prog 83 #[.string s,.int .u8 c] w fun e w'=>e= .returned (.int .i64 (Lib.indexByte s.data.toList c.toNat.toUInt8))∧w'=w:=Any.strings_IndexByte Tryz.lays137 s c w
open Go.RowKit in
open Go.RowKit in
open Go.RowKit in
open Go.RowKit in
open Go.RowKit in
open Go.RowKit in
open Go.RowKit in
open Go.RowKit in
open Go.RowKit in
open Go.RowKit in
open Go.RowKit in
open Go.Lib in
open Go.Lib in
open Go.Lib in
open Go.Lib in
open Go.RowKit Go.Sort Go.Lib in
open Go.RowKit Go.Sort Go.Lib in
open Go.RowKit Go.Sort Go.Lib in
open Go.RowKit Go.Sort Go.Lib in
open Go.RowKit Go.Sort Go.Lib in
def Tryz.laysM171_ren:Go.Shelf.Ren:=⟨fun|171=>41|243=>79|246=>107|283=>130|284=>131|285=>132|286=>133|129=>140|317=>139|318=>141|319=>142|320=>143|337=>147|338=>148|n=>n,fun|3=>3|9=>9|2=>2|4=>4|171=>139|0=>0|53=>135|37=>75|5=>5|173=>142|212=>146|51=>132|20=>20|213=>147|46=>119|232=>151|233=>152|n=>n,fun|17=>2|18=>3|19=>4|n=>n⟩
theorem Tryz.laysM171:Go.Proofs.LaysM.n171 Tryz.prog Tryz.laysM171_ren:={
 mixed:=by kernel_rfl
 f129:=Tryz.func140.trans (congrArg some (by kernel_rfl))
 f171:=Tryz.func41.trans (congrArg some (by kernel_rfl))
 f243:=Tryz.func79.trans (congrArg some (by kernel_rfl))
 f246:=Tryz.func107.trans (congrArg some (by kernel_rfl))
 f283:=Tryz.func130.trans (congrArg some (by kernel_rfl))
 f284:=Tryz.func131.trans (congrArg some (by kernel_rfl))
 f285:=Tryz.func132.trans (congrArg some (by kernel_rfl))
 f286:=Tryz.func133.trans (congrArg some (by kernel_rfl))
 f317:=Tryz.func139.trans (congrArg some (by kernel_rfl))
 f318:=Tryz.func141.trans (congrArg some (by kernel_rfl))
 f319:=Tryz.func142.trans (congrArg some (by kernel_rfl))
 f320:=Tryz.func143.trans (congrArg some (by kernel_rfl))
 f337:=Tryz.func147.trans (congrArg some (by kernel_rfl))
 f338:=Tryz.func148.trans (congrArg some (by kernel_rfl))
 t0:=Tryz.underlying0
 a0:=Tryz.isAgg0
 z0:=Tryz.sizeOf0
 v0:=Tryz.zeroValue0
 t2:=Tryz.underlying2
 a2:=Tryz.isAgg2
 z2:=Tryz.sizeOf2
 v2:=Tryz.zeroValue2
 t3:=Tryz.underlying3
 a3:=Tryz.isAgg3
 z3:=Tryz.sizeOf3
 v3:=Tryz.zeroValue3
 t4:=Tryz.underlying4
 a4:=Tryz.isAgg4
 z4:=Tryz.sizeOf4
 v4:=Tryz.zeroValue4
 t5:=Tryz.underlying5
 a5:=Tryz.isAgg5
 z5:=Tryz.sizeOf5
 v5:=Tryz.zeroValue5
 t9:=Tryz.underlying9
 a9:=Tryz.isAgg9
 z9:=Tryz.sizeOf9
 v9:=Tryz.zeroValue9
 t20:=Tryz.underlying20
 a20:=Tryz.isAgg20
 z20:=Tryz.sizeOf20
 v20:=Tryz.zeroValue20
 t37:=Tryz.underlying75
 a37:=Tryz.isAgg75
 z37:=Tryz.sizeOf75
 v37:=Tryz.zeroValue75
 t46:=Tryz.underlying119
 a46:=Tryz.isAgg119
 z46:=Tryz.sizeOf119
 v46:=Tryz.zeroValue119
 t51:=Tryz.underlying132
 a51:=Tryz.isAgg132
 z51:=Tryz.sizeOf132
 v51:=Tryz.zeroValue132
 t53:=Tryz.underlying135
 a53:=Tryz.isAgg135
 z53:=Tryz.sizeOf135
 v53:=Tryz.zeroValue135
 t171:=Tryz.underlying139
 a171:=Tryz.isAgg139
 z171:=Tryz.sizeOf139
 v171:=Tryz.zeroValue139
 t173:=Tryz.underlying142
 a173:=Tryz.isAgg142
 z173:=Tryz.sizeOf142
 v173:=Tryz.zeroValue142
 t212:=Tryz.underlying146
 a212:=Tryz.isAgg146
 z212:=Tryz.sizeOf146
 v212:=Tryz.zeroValue146
 t213:=Tryz.underlying147
 a213:=Tryz.isAgg147
 z213:=Tryz.sizeOf147
 t232:=Tryz.underlying151
 a232:=Tryz.isAgg151
 z232:=Tryz.sizeOf151
 v232:=Tryz.zeroValue151
 t233:=Tryz.underlying152
 a233:=Tryz.isAgg152
 z233:=Tryz.sizeOf152
 v233:=Tryz.zeroValue152
 g17:=by kernel_rfl
 g18:=by kernel_rfl
 g19:=by kernel_rfl
 i0:=by kernel_rfl
 i2:=by kernel_rfl
 i3:=by kernel_rfl
 i4:=by kernel_rfl
 i5:=by kernel_rfl
 i9:=by kernel_rfl
 i20:=by kernel_rfl
 i37:=by kernel_rfl
 i46:=by kernel_rfl
 i51:=by kernel_rfl
 i53:=by kernel_rfl
 i171:=by kernel_rfl
 i173:=by kernel_rfl
 i212:=by kernel_rfl
 i232:=by kernel_rfl
 i233:=by kernel_rfl
 m17:=by kernel_rfl
 m18:=by kernel_rfl
 m19:=by kernel_rfl}
open Go.RowKit Go.Sort Go.Lib in
theorem Tryz.strconv_Itoa (n : Int) (h0 : -9223372036854775808 ≤ n) (h1 : n ≤ 9223372036854775807) (w : World) (ig6 : Lib.TabIs Tryz.prog w "internal/strconv.uint64pow10" .u64 Lib.pow10Tab) :
    Calls Tryz.prog 41 #[.int .i64 n] w fun e w' => e = .returned (.string ⟨(Lib.itoa n).toArray⟩) ∧ ∃ k os, w' = grow (w.drewN k) os := Any.strconv_Itoa Tryz.laysM171 n h0 h1 w ig6
open Go.RowKit Go.Sort Go.Lib in
open Go.RowKit Go.Lib in
open Go.RowKit Go.Lib in
open Go.RowKit Go.Lib in
open Go.RowKit Go.Lib in
open Go.RowKit Go.Lib in
open Go.RowKit Go.Lib in
open Go.RowKit Go.Lib in
open Go.RowKit Go.Lib in
def Tryz.lays144_ren:Go.Shelf.Ren:=⟨fun|144=>110|143=>135|219=>144|217=>108|225=>149|224=>150|267=>151|266=>134|314=>152|n=>n,fun|9=>9|4=>4|3=>3|5=>5|46=>119|146=>133|51=>132|n=>n,fun|1=>1|n=>n⟩
theorem Tryz.lays144:Go.Proofs.Lays.n144 Tryz.prog Tryz.lays144_ren:={
 mixed:=by kernel_rfl
 f143:=Tryz.func135.trans (congrArg some (by kernel_rfl))
 f144:=Tryz.func110.trans (congrArg some (by kernel_rfl))
 f217:=Tryz.func108.trans (congrArg some (by kernel_rfl))
 f219:=Tryz.func144.trans (congrArg some (by kernel_rfl))
 f224:=Tryz.func150.trans (congrArg some (by kernel_rfl))
 f225:=Tryz.func149.trans (congrArg some (by kernel_rfl))
 f266:=Tryz.func134.trans (congrArg some (by kernel_rfl))
 f267:=Tryz.func151.trans (congrArg some (by kernel_rfl))
 f314:=Tryz.func152.trans (congrArg some (by kernel_rfl))
 t3:=Tryz.underlying3
 a3:=Tryz.isAgg3
 z3:=Tryz.sizeOf3
 v3:=Tryz.zeroValue3
 t4:=Tryz.underlying4
 a4:=Tryz.isAgg4
 z4:=Tryz.sizeOf4
 v4:=Tryz.zeroValue4
 t5:=Tryz.underlying5
 a5:=Tryz.isAgg5
 z5:=Tryz.sizeOf5
 v5:=Tryz.zeroValue5
 t9:=Tryz.underlying9
 a9:=Tryz.isAgg9
 z9:=Tryz.sizeOf9
 v9:=Tryz.zeroValue9
 t46:=Tryz.underlying119
 a46:=Tryz.isAgg119
 z46:=Tryz.sizeOf119
 v46:=Tryz.zeroValue119
 t51:=Tryz.underlying132
 a51:=Tryz.isAgg132
 z51:=Tryz.sizeOf132
 v51:=Tryz.zeroValue132
 t146:=Tryz.underlying133
 a146:=Tryz.isAgg133
 z146:=Tryz.sizeOf133
 v146:=Tryz.zeroValue133
 g1:=by kernel_rfl}
open Go.RowKit Go.Lib in
open Go.RowKit Go.Lib in
theorem Tryz.strings_Contains(s sub:ByteArray)(m:Int)(w:World)(hs:s.size<4294967281)(hm:w.cell? ⟨1,0,none⟩=some (.int .i64 m)):
 Calls Tryz.prog 110 #[.string s,.string sub] w fun e w'=>e= .returned (.bool (Lib.contains s.data.toList sub.data.toList))∧w'=w:=Any.strings_Contains Tryz.lays144 s sub m w hs hm
open Go.RowKit Go.Lib in
open Go.RowKit Go.Lib in
open Go.RowKit Go.Lib in
open Go.RowKit Go.Lib in
open Go.RowKit Go.Lib in
open Go.RowKit Go.Lib in
open Go.RowKit Go.Lib in
def Tryz.lays105_ren:Go.Shelf.Ren:=⟨fun|105=>71|212=>101|99=>102|165=>73|166=>70|170=>103|169=>37|263=>126|264=>127|206=>128|240=>100|241=>104|276=>125|277=>129|n=>n,fun|9=>9|3=>3|4=>4|20=>20|0=>0|46=>119|109=>120|5=>5|72=>77|76=>101|51=>132|146=>133|53=>135|148=>136|70=>74|37=>75|75=>100|127=>106|164=>130|80=>83|n=>n,fun|n=>n⟩
theorem Tryz.lays105:Go.Proofs.Lays.n105 Tryz.prog Tryz.lays105_ren:={
 mixed:=by kernel_rfl
 f99:=Tryz.func102.trans (congrArg some (by kernel_rfl))
 f105:=Tryz.func71.trans (congrArg some (by kernel_rfl))
 f165:=Tryz.func73.trans (congrArg some (by kernel_rfl))
 f166:=Tryz.func70.trans (congrArg some (by kernel_rfl))
 f169:=Tryz.func37.trans (congrArg some (by kernel_rfl))
 f170:=Tryz.func103.trans (congrArg some (by kernel_rfl))
 f206:=Tryz.func128.trans (congrArg some (by kernel_rfl))
 f212:=Tryz.func101.trans (congrArg some (by kernel_rfl))
 f240:=Tryz.func100.trans (congrArg some (by kernel_rfl))
 f241:=Tryz.func104.trans (congrArg some (by kernel_rfl))
 f263:=Tryz.func126.trans (congrArg some (by kernel_rfl))
 f264:=Tryz.func127.trans (congrArg some (by kernel_rfl))
 f276:=Tryz.func125.trans (congrArg some (by kernel_rfl))
 f277:=Tryz.func129.trans (congrArg some (by kernel_rfl))
 t0:=Tryz.underlying0
 a0:=Tryz.isAgg0
 z0:=Tryz.sizeOf0
 v0:=Tryz.zeroValue0
 t3:=Tryz.underlying3
 a3:=Tryz.isAgg3
 z3:=Tryz.sizeOf3
 v3:=Tryz.zeroValue3
 t4:=Tryz.underlying4
 a4:=Tryz.isAgg4
 z4:=Tryz.sizeOf4
 v4:=Tryz.zeroValue4
 t5:=Tryz.underlying5
 a5:=Tryz.isAgg5
 z5:=Tryz.sizeOf5
 v5:=Tryz.zeroValue5
 t9:=Tryz.underlying9
 a9:=Tryz.isAgg9
 z9:=Tryz.sizeOf9
 v9:=Tryz.zeroValue9
 t20:=Tryz.underlying20
 a20:=Tryz.isAgg20
 z20:=Tryz.sizeOf20
 v20:=Tryz.zeroValue20
 t37:=Tryz.underlying75
 a37:=Tryz.isAgg75
 z37:=Tryz.sizeOf75
 v37:=Tryz.zeroValue75
 t46:=Tryz.underlying119
 a46:=Tryz.isAgg119
 z46:=Tryz.sizeOf119
 v46:=Tryz.zeroValue119
 t51:=Tryz.underlying132
 a51:=Tryz.isAgg132
 z51:=Tryz.sizeOf132
 v51:=Tryz.zeroValue132
 t53:=Tryz.underlying135
 a53:=Tryz.isAgg135
 z53:=Tryz.sizeOf135
 v53:=Tryz.zeroValue135
 t70:=Tryz.underlying74
 a70:=Tryz.isAgg74
 z70:=Tryz.sizeOf74
 v70:=Tryz.zeroValue74
 t72:=Tryz.underlying77
 a72:=Tryz.isAgg77
 z72:=Tryz.sizeOf77
 v72:=Tryz.zeroValue77
 t75:=Tryz.underlying100
 a75:=Tryz.isAgg100
 z75:=Tryz.sizeOf100
 v75:=Tryz.zeroValue100
 t76:=Tryz.underlying101
 a76:=Tryz.isAgg101
 z76:=Tryz.sizeOf101
 v76:=Tryz.zeroValue101
 t109:=Tryz.underlying120
 a109:=Tryz.isAgg120
 z109:=Tryz.sizeOf120
 v109:=Tryz.zeroValue120
 t127:=Tryz.underlying106
 a127:=Tryz.isAgg106
 z127:=Tryz.sizeOf106
 v127:=Tryz.zeroValue106
 t146:=Tryz.underlying133
 a146:=Tryz.isAgg133
 z146:=Tryz.sizeOf133
 v146:=Tryz.zeroValue133
 t148:=Tryz.underlying136
 a148:=Tryz.isAgg136
 z148:=Tryz.sizeOf136
 v148:=Tryz.zeroValue136
 t164:=Tryz.underlying130
 a164:=Tryz.isAgg130
 z164:=Tryz.sizeOf130
 v164:=Tryz.zeroValue130}
theorem Tryz.Builder_Extra_105:Builder.Extra Tryz.prog Tryz.lays105_ren:={
 sizeBuilder:=by kernel_rfl
 liesBuilder:=by kernel_rfl
 t5:=Tryz.underlying5
 a5:=Tryz.isAgg5
 z5:=Tryz.sizeOf5
 v5:=Tryz.zeroValue5
 infoByte:=by kernel_rfl
 cellsByte:=by kernel_rfl
 sizeByte:=by kernel_rfl
 neB5:=by decide}
open Go.RowKit Go.Lib in
open Go.RowKit Go.Lib in
open Go.RowKit Go.Lib in
open Go.RowKit Go.Lib in
open Go.RowKit Go.Lib in
open Go.RowKit Go.Lib in
open Go.RowKit Go.Lib in
theorem Tryz.strings_Repeat(s:ByteArray)(c:Nat)(w:World)(hc:c≤9223372036854775807)(hlen:s.size*c≤140737488355328):
 Calls Tryz.prog 71 #[.string s,.int .i64 c] w fun e w'=>e= .returned (.string ⟨(Lib.repeatL s.data.toList c).toArray⟩)∧Below w.heap.size w w':=Any.strings_Repeat Tryz.lays105 Tryz.Builder_Extra_105 s c w hc hlen
end Go.Proofs
/- The library's contracts, as the environment has them; the examples hold. -/
namespace Go.Proofs.YtjfkkokeegpeiaaGreatDoor
open Go Go.Am Go.RowKit
theorem dc0:∀{l:List (List V)} {xs:List ByteArray},ca2 l=some xs→l=xs.map fun x=>[V.sc (.string x)]
 | [],xs,h=>by simp only[ca2,Option.some.injEq]at h;subst h;rfl
 | []::l,xs,h=>by simp[ca2]at h
 | [a]::l,xs,h=>by
  cases a<;>try (simp[ca2]at h;done)
  rename_i v
  cases v<;>try (simp[ca2]at h;done)
  rename_i s
  simp only[ca2]at h
  split at h
  ·rename_i r hr
   simp only[Option.some.injEq]at h
   subst h
   rw[dc0 hr]
   rfl
  ·cases h
 | (a::b::c)::l,xs,h=>by
  have:ca2 ((a::b::c)::l)=none:=by cases a with|sc v=>(cases v<;>rfl) |_=>rfl
  rw[this]at h
  cases h
theorem vT{W:World}{a:Addr}{x:Value}(h:W.cell? a=some x):a=⟨a.block,a.off,none⟩:=by
 unfold World.cell? at h
 split at h
 ·split at h
  ·cases h
  ·rename_i hs
   obtain⟨b,o,s⟩:=a
   cases s with
   |none=>rfl
   |some q=>exact absurd rfl hs
 ·cases h
theorem fs2{S:Pr}{w:World}(hG:Glob E S w):∃m,w.cell? ⟨1,0,none⟩=some (.int .i64 m):=by
 obtain⟨_,x,h1,h2⟩:=hG.inv (1,bl9 .i64) (by simp[E])
 exact dj7 h1 h2
theorem g2 : Tryz.prog.globalNamed "internal/strconv.uint64pow10" = some 2 := by kernel_rfl
theorem hz4 {S : Pr} {w : World} (hG : Glob E S w) : Lib.TabIs Tryz.prog w "internal/strconv.uint64pow10" .u64 Lib.pow10Tab := by
  obtain ⟨_, x, h1, h2⟩ := hG.inv (2, ao7 (Lib.pow10Tab.map fun z => Value.int .u64 z).toArray) (by simp [E])
  exact di3 g2 h1 h2
theorem hX:SoundX E:=by
 intro f args v h
 have h':bz9 f args=some v:=h
 unfold bz9 at h'
 split at h'
 ·rename_i hf;subst hf
  split at h'
  ·rename_i s sub
   split at h'
   ·rename_i hn
    cases h'
    refine⟨⟨_,Tryz.func110,by kernel_rfl,by intro e;exact absurd e (by decide+kernel)⟩,rfl,fun β S D w us hd hG hS=>?_⟩
    obtain rfl:us=[.string s,.string sub]:=by simpa[b8,den]using hd
    obtain⟨m,hm⟩:=fs2 hG
    refine(Tryz.strings_Contains s sub m w hn hm).mono ?_
    rintro e w' ⟨rfl,rfl⟩
    exact⟨_,S,rfl,Below.refl _ _,by simp only[den],fun _ h=>h,fun _ h=>.inl h⟩
   ·cases h'
  ·cases h'
 split at h'
 ·rename_i hf;subst hf
  split at h'
  ·rename_i s c
   cases h'
   refine⟨⟨_,Tryz.func83,by kernel_rfl,by intro e;exact absurd e (by decide+kernel)⟩,rfl,fun β S D w us hd hG hS=>?_⟩
   obtain rfl:us=[.string s,.int .u8 c]:=by simpa[b8,den]using hd
   refine(Tryz.strings_IndexByte s c w).mono ?_
   rintro e w' ⟨rfl,rfl⟩
   exact⟨_,S,rfl,Below.refl _ _,by simp only[den],fun _ h=>h,fun _ h=>.inl h⟩
  ·cases h'
 split at h'
 ·rename_i hf;subst hf
  split at h'
  ·rename_i n
   split at h'
   ·rename_i hn
    cases h'
    refine⟨⟨_,Tryz.func41,by kernel_rfl,by intro e;exact absurd e (by decide+kernel)⟩,rfl,fun β S D w us hd hG hS=>?_⟩
    obtain rfl:us=[.int .i64 n]:=by simpa[b8,den]using hd
    refine(Tryz.strconv_Itoa n hn.1 hn.2 w (hz4 hG)).mono ?_
    rintro e w' ⟨rfl,k,os,rfl⟩
    exact⟨_,S,rfl,Lib.below_grow w.heap.size w (Nat.le_refl _) k os,by simp[den],fun _ h=>h,fun _ h=>.inl h⟩
   ·cases h'
  ·cases h'
 split at h'
 ·rename_i hf;subst hf
  split at h'
  ·rename_i sep
   cases h'
   refine⟨⟨_,Tryz.func35,by kernel_rfl,by intro e;exact absurd e (by decide+kernel)⟩,rfl,fun β S D w us hd hG hS=>?_⟩
   obtain rfl:us=[.slice none 0 0,.string sep]:=by simpa[b8,den]using hd
   refine(Tryz.strings_Join_none none 0 sep w).mono ?_
   rintro e w' ⟨rfl,rfl⟩
   exact⟨_,S,rfl,Below.refl _ _,by simp only[den];rfl,fun _ h=>h,fun _ h=>.inl h⟩
  ·rename_i n g sep
   split at h'
   ·rename_i xs hxs
    split at h'
    ·rename_i hn
     cases h'
     refine⟨⟨_,Tryz.func35,by kernel_rfl,by intro e;exact absurd e (by decide+kernel)⟩,rfl,fun β S D w us hd hG hS=>?_⟩
     simp only[b8,den]at hd
     obtain⟨u,r,rfl,⟨_,A,m,a,cs,rfl,hnm,hA,hc⟩,u2,r2,rfl,rfl,rfl⟩:=hd
     have hl:=dc0 hxs
     have hlen:xs.length=n:=by
      have:=congrArg List.length hl
      simpa using this.symm
     have hcell:∀(j:Nat) (x:ByteArray),xs[j]? =some x→w.cell? (a.add j)=some (.string x):=by
      intro j x hj
      have hjn:j<n:=by rw[←hlen];exact(List.getElem?_eq_some_iff.1 hj).1
      obtain⟨g1,g2,g3,g4,g5⟩:=hc j hjn
      have hg:g j=[.sc (.string x)]:=by
       have:=congrArg (fun l=>l[j]?) hl
       simp only[List.getElem?_map,List.getElem?_range hjn,hj,Option.map_some,Option.some.injEq]at this
       exact this
      rw[hg]at g1
      simp only[b8,den]at g1
      obtain⟨x1,x2,h1,rfl,rfl⟩:=g1
      have:=g5 0 (.string x) (by rw[h1];rfl)
      simpa using this
     have hdone:∀(o:Option Addr),Calls Tryz.prog 35 #[.slice o n m,.string sep] w (fun e w'=>e= .returned (.string ⟨(Lib.join (xs.map (·.data.toList)) sep.data.toList).toArray⟩)∧Below w.heap.size w w')→
      Calls E.P 35 [Value.slice o n m,.string sep].toArray w fun e w'=>∃u S',e= .returned u∧Below w.heap.size w w'∧den (fun _=>none) S' w' (fun _=>False) (st ⟨(Lib.join (xs.map (·.data.toList)) sep.data.toList).toArray⟩) u∧(∀b,S b→S' b)∧∀b,S' b→S b∨(w.heap.size≤b∧b<w'.heap.size):=by
      intro o h
      refine Calls.mono h ?_
      rintro e w' ⟨rfl,hb⟩
      exact⟨_,S,rfl,hb,by simp only[den],fun _ h=>h,fun _ h=>.inl h⟩
     cases xs with
     |nil=>
      simp only[List.length_nil]at hlen
      subst hlen
      exact hdone A ((Tryz.strings_Join_none A m sep w).mono fun e w' ⟨he,hw⟩=>⟨he,hw▸Below.refl _ _⟩)
     |cons x xs=>
      have h0:0<n:=by rw[←hlen];simp
      obtain⟨rfl,hab⟩:=hA h0
      have hsp:=vT (a:=a) (by have:=hcell 0 x rfl;simpa[Addr.add]using this)
      refine hdone (some a) ?_
      have:=Tryz.strings_Join a.block a.off m (x::xs) sep w (fun j y hj=>by
       have:=hcell j y hj
       rw[hsp,dP]at this
       exact this) (hS _ hab) (by rw[hlen];exact hn.2) (by rw[hlen];exact hnm) hn.1
      rw[hlen,←hsp]at this
      exact this
    ·cases h'
   ·cases h'
  ·cases h'
 split at h'
 ·rename_i hf;subst hf
  split at h'
  ·rename_i s c
   split at h'
   ·rename_i hn
    cases h'
    refine⟨⟨_,Tryz.func71,by kernel_rfl,by intro e;exact absurd e (by decide+kernel)⟩,rfl,fun β S D w us hd hG hS=>?_⟩
    obtain rfl:us=[.string s,.int .i64 c]:=by simpa[b8,den]using hd
    obtain⟨n,rfl⟩:∃n:Nat,c=n:=⟨c.toNat,by omega⟩
    refine(Tryz.strings_Repeat s n w (by omega) (by
     have h1:n≤1000:=by omega
     exact Nat.le_trans (Nat.mul_le_mul hn.2.2 h1) (by omega))).mono ?_
    rintro e w' ⟨rfl,hb⟩
    exact⟨_,S,rfl,hb,by simp only[den];rfl,fun _ h=>h,fun _ h=>.inl h⟩
   ·cases h'
  ·cases h'
 ·cases h'
end Go.Proofs.YtjfkkokeegpeiaaGreatDoor
/- What the rows list of the packages' variables; a world that holds it. -/
namespace Go.Proofs.YtjfkkokeegpeiaaGreatDoor
open Go Go.Am Go.RowKit
theorem es8:cw6 Tryz.prog=true:=by kernel_rfl
theorem dw3{β:Bt}{S D:Pr}{w:World}:∀{l:List Value} {us:List Value},b8 β S w D (l.map V.sc) us→us=l
 | [],us,h=>by simpa[b8]using h
 |v::l,us,h=>by
  simp only[List.map_cons,b8,den]at h
  obtain⟨x,xs,rfl,rfl,h⟩:=h
  rw[dw3 h]
abbrev az0:List (String×DataW Unit):=Rows.parserParsesRow.laid
theorem fz2{W:World}(h:laidMetH Tryz.prog az0 W):laidMet Tryz.prog az0 W:=by
 rw[MakeChecks.laidMetH_plain _ _ _ (by kernel_rfl)]at h;exact h
theorem hd8 : GlobAt Tryz.prog az0 0 [ih5] := ⟨"perigee/unit.table", Rows.laid_perigee_unit_table, 125, 8, by simp [az0, Rows.parserParsesRow], by kernel_rfl, by kernel_rfl, of_decide_eq_true (by kernel_rfl), by kernel_rfl, by simp⟩
theorem hc5 {W : World} (h : laidMetH Tryz.prog az0 W) (hs : W.ShapedOpen Tryz.prog) : Glob E (· < W.heap.size) W := by
  have hl := fz2 h
  refine Glob.of_laid (laid := az0) es8 hl (fun g cs hg => ?_) (fun p hp => ?_)
  · have hg' : fm5 g = some cs := hg
    unfold fm5 at hg'
    split at hg'
    · cases hg'; exact hd8
    · cases hg'
  · simp only [E, List.mem_cons, List.mem_nil_iff, or_false] at hp
    rcases hp with rfl | rfl
    · exact fe2 (cell_of_shapedOpen_int (t := 3) (zero := #[.int .i64 0]) hs (of_decide_eq_true (by kernel_rfl)) (by kernel_rfl) rfl (by kernel_rfl) (by kernel_rfl) (by kernel_rfl))
    · obtain ⟨ps, hv, _⟩ := hl
      obtain ⟨g, t, cs, fuel, q, k1, k2, k3, k4⟩ := ah5 hv "internal/strconv.uint64pow10" Rows.laid_internal_strconv_uint64pow10 (by simp [az0, Rows.parserParsesRow])
      obtain rfl := Option.some.inj (g2.symm.trans k1)
      obtain rfl := Option.some.inj ((show (Tryz.prog.globals[2]?).map (·.type) = some 146 by kernel_rfl).symm.trans k2)
      have gd := ao2 es8 fuel 8 146 cs.toList _ q ((Lib.pow10Tab.map fun z => Value.int .u64 z).map V.sc) (of_decide_eq_true (by kernel_rfl)) k4 (by kernel_rfl)
      have hcs := dw3 gd.den
      have : cs = (Lib.pow10Tab.map fun z => Value.int .u64 z).toArray := by rw [← hcs]
      rw [← this]
      exact em5 g2 k3
noncomputable def av2(os:Os):World:=World.doorLaid Tryz.prog 4000 os
theorem fy2(os:Os)(args:Array Value):laidMet Tryz.prog az0 ((av2 os).forCall (fun _ _=>0) ⟨#[],args,[]⟩).memory:=
 laidMet_of_run' 8 (by kernel_rfl) (by kernel_rfl)
theorem gv2(os:Os)(args:Array Value):laidMetH Tryz.prog az0 ((av2 os).forCall (fun _ _=>0) ⟨#[],args,[]⟩).memory:=by
 rw[MakeChecks.laidMetH_plain _ _ _ (by kernel_rfl)];exact fy2 os args
end Go.Proofs.YtjfkkokeegpeiaaGreatDoor
/- Short words for the lifted texts. -/
namespace Go.Proofs.YtjfkkokeegpeiaaGreatDoor
open Go Go.Am Go.Proofs
abbrev FI:Type:=Nat→Int
abbrev FS:Type:=Nat→ByteArray
abbrev FL:Type:=Nat→List V
abbrev FM:Type:=Nat→Nat→List V
abbrev FN:Type:=Nat→Nat
abbrev SR:Type:=Int×Int×Int×Int×Nat×FI×FI×FS×FI×Nat×FS
abbrev SP:Type:=Int×Int×Nat×FI×FI×FS×FI×Nat×FS×Nat×FS
abbrev SC2:Type:=Nat×FI×FI×FS×FI×Int×Int×Nat×Nat×FS×FS
abbrev AR(α:Type):Type:=α→List V×List (Option Chunk)
abbrev Lw(E:Env)(f:FuncId){α γ:Type}(A:AR α)(R:γ→CRes)(c:α→Option γ):Prop:=∀x z,c x=some z→SC E f (A x).1 (A x).2 (R z)
noncomputable def ftg{α γ:Type}(f:FuncId)(gd:List V→List (Option Chunk)→Bool)(A:AR α)(R:γ→CRes)(c:α→Option γ)(ca:l8):l8:=gz2 f gd A (fun z k=>k (R z)) c ca
noncomputable abbrev ftb{α γ:Type}(f:FuncId)(A:AR α)(R:γ→CRes)(c:α→Option γ)(ca:l8):l8:=ftg f (fun _ _=>true) A R c ca
theorem fk{E:Env}{α γ:Type}{f:FuncId}{gd:List V→List (Option Chunk)→Bool}{A:AR α}{c:α→Option γ}{ca:l8}{R:γ→CRes}(h:Lw E f A R c)(hl:r8 E ca):r8 E (ftg f gd A R c ca):=dc3 h (fun _ _=>rfl) hl
noncomputable def vf{α γ:Type}(A:AR α)(c:α→Option γ):α→Option γ:=fun x=>ay3 A c (A x)
theorem vq{α γ:Type}{A:AR α}(hi:∀x y,A x=A y→x=y)(c:α→Option γ):vf A c=c:=br2 hi c
abbrev n0:=@gc2
abbrev n1:=@fp6
abbrev n2:=@ge5
abbrev n3:=@go3
abbrev hHP(x:SP):List (Option Chunk):=[some (.blk [.ro 4 x.2.2.1 (fun j=>[i64 (x.2.2.2.1 j),i64 (x.2.2.2.2.1 j),st (x.2.2.2.2.2.1 j),i64 (x.2.2.2.2.2.2.1 j)]),i64 x.1,i64 x.2.1,.sl 1 1 0 x.2.2.2.2.2.2.2.1,.sl 2 1 0 x.2.2.2.2.2.2.2.2.2.1]),some (.row 9 1 x.2.2.2.2.2.2.2.1 (fun j=>[st (x.2.2.2.2.2.2.2.2.1 j)])),some (.row 9 1 x.2.2.2.2.2.2.2.2.2.1 (fun j=>[st (x.2.2.2.2.2.2.2.2.2.2 j)]))]
abbrev dTI(v:V)(n:Nat):FI:=fun j=>vI ((iU v j).getD n .junk)
abbrev dTS(v:V)(n:Nat):FS:=fun j=>vS ((iU v j).getD n .junk)
abbrev dCS(c:Option Chunk):FS:=fun j=>vS ((chF c j).getD 0 .junk)
def dHP(t:List (Option Chunk)):SP:=
 let b:=chB (t.getD 0 none);let v:=b.getD 0 .junk
 (vI (b.getD 1 .junk),vI (b.getD 2 .junk),u7 v,dTI v 0,dTI v 1,dTS v 2,dTI v 3,dB (b.getD 3 .junk),dCS (t.getD 1 none),dB (b.getD 4 .junk),dCS (t.getD 2 none))
abbrev hPB{α:Type}(y:Nat×FI×FI×FS×FI×Int×Int×Nat×Nat×α):Chunk:=.blk [.ro 4 y.1 (fun j=>[i64 (y.2.1 j),i64 (y.2.2.1 j),st (y.2.2.2.1 j),i64 (y.2.2.2.2.1 j)]),i64 y.2.2.2.2.2.1,i64 y.2.2.2.2.2.2.1,.sl 1 1 0 y.2.2.2.2.2.2.2.1,.sl 2 1 0 y.2.2.2.2.2.2.2.2.1]
abbrev hPV{α:Type}(y:Nat×FI×FI×FS×FI×Int×Int×Nat×Nat×FS×α):Chunk:=.row 9 1 y.2.2.2.2.2.2.2.1 (fun j=>[st (y.2.2.2.2.2.2.2.2.2.1 j)])
abbrev hPQ{α:Type}(y:Nat×FI×FI×FS×FI×Int×Int×Nat×Nat×FS×FS×α):Chunk:=.row 9 1 y.2.2.2.2.2.2.2.2.1 (fun j=>[st (y.2.2.2.2.2.2.2.2.2.2.1 j)])
abbrev hl8(y:SC2):Chunk:=.row 9 1 y.2.2.2.2.2.2.2.2.1 (fun j=>[st (y.2.2.2.2.2.2.2.2.2.2 j)])
abbrev TT:Type:=List V×List (Option Chunk)
def x2{α β:Type}(R:α⊕β→CRes)(z:α⊕β)(k:CRes→Option Ans):Option Ans:=Sum.elim (fun a=>k (R (.inl a))) (fun b=>k (R (.inr b))) z
def x3{α β γ:Type}(R:α⊕β⊕γ→CRes)(z:α⊕β⊕γ)(k:CRes→Option Ans):Option Ans:=Sum.elim (fun a=>k (R (.inl a))) (fun b=>x2 (fun b=>R (.inr b)) b k) z
def x4{α β γ δ:Type}(R:α⊕β⊕γ⊕δ→CRes)(z:α⊕β⊕γ⊕δ)(k:CRes→Option Ans):Option Ans:=Sum.elim (fun a=>k (R (.inl a))) (fun b=>x3 (fun b=>R (.inr b)) b k) z
section
variable {α β γ δ ε:Type} {E:Env} {f:FuncId} {gd:List V→List (Option Chunk)→Bool} {ca:l8}
theorem xe2{R:α⊕β→CRes}:∀z k,x2 R z k=k (R z):=fun z k=>by rcases z with z|z<;>rfl
noncomputable def fg2(f:FuncId)(gd:List V→List (Option Chunk)→Bool)(A:AR ε)(R:α⊕β→CRes)(c:ε→Option (α⊕β))(ca:l8):l8:=gz2 f gd A (x2 R) c ca
noncomputable abbrev ft2(f:FuncId)(A:AR ε)(R:α⊕β→CRes)(c:ε→Option (α⊕β))(ca:l8):l8:=fg2 f (fun _ _=>true) A R c ca
theorem fk2{A:AR ε}{R:α⊕β→CRes}{c:ε→Option (α⊕β)}(h:Lw E f A R c)(hl:r8 E ca):r8 E (fg2 f gd A R c ca):=dc3 h xe2 hl
theorem sof{A:AR α}{R:γ→CRes}{c:α→Option γ}{lo:α→f5}(hW:WF E)(hX:SoundX E)(hc:r8 E ca)(hl:∀x,x8 E (lo x))(h:∀x,f7 E ca (lo x) f (A x).1 (A x).2 (fun r=>some (.c r))=(c x).bind fun z=>some (.c (R z))):Lw E f A R c:=fun x z hz=>SC.of hW hX hc (hl x) ((h x).trans (by rw[hz];rfl))
abbrev VI(A:AR α):Prop:=∀{γ:Type} (c:α→Option γ),vf A c=c
theorem vd{A:AR α}(d:TT→α)(h:∀x,d (A x)=x):VI A:=fun c=>vq (fun x y e=>by rw[←h x,←h y,e]) c
noncomputable def lf(b:ACode)(S:α→St)(p:α→Option γ):α→Option γ:=fun y=>ay3 (fun y=>(b,S y)) p (b,S y)
abbrev VL(S:α→St):Prop:=∀{γ:Type} (b:ACode) (p:α→Option γ),lf b S p=p
theorem vl{S:α→St}(d:St→α)(h:∀x,d (S x)=x):VL S:=fun b p=>br2 (ap1 b fun x y e=>by rw[←h x,←h y,e]) p
abbrev Ll(E:Env)(b:ACode)(S:α→St)(T:γ→Ex×St)(p:α→Option γ):Prop:=∀y z,p y=some z→SL E b (S y) (T z).1 (T z).2
def w1(T:α→Ex×St)(z:α)(k:KX):Option Ans:=k (T z).1 (T z).2
def w2(T:α⊕β→Ex×St)(z:α⊕β)(k:KX):Option Ans:=Sum.elim (fun a=>w1 (fun a=>T (.inl a)) a k) (fun b=>w1 (fun b=>T (.inr b)) b k) z
def w3(T:α⊕β⊕γ→Ex×St)(z:α⊕β⊕γ)(k:KX):Option Ans:=Sum.elim (fun a=>w1 (fun a=>T (.inl a)) a k) (fun b=>w2 (fun b=>T (.inr b)) b k) z
def w4(T:α⊕β⊕γ⊕δ→Ex×St)(z:α⊕β⊕γ⊕δ)(k:KX):Option Ans:=Sum.elim (fun a=>w1 (fun a=>T (.inl a)) a k) (fun b=>w3 (fun b=>T (.inr b)) b k) z
noncomputable def lt1(id:Nat)(gd:St→Bool)(b:ACode)(S:ε→St)(T:α→Ex×St)(p:ε→Option α)(lo:f5):f5:=aj8 id gd b S (w1 T) p lo
noncomputable def lt2(id:Nat)(gd:St→Bool)(b:ACode)(S:ε→St)(T:α⊕β→Ex×St)(p:ε→Option (α⊕β))(lo:f5):f5:=aj8 id gd b S (w2 T) p lo
noncomputable def lt3(id:Nat)(gd:St→Bool)(b:ACode)(S:ε→St)(T:α⊕β⊕γ→Ex×St)(p:ε→Option (α⊕β⊕γ))(lo:f5):f5:=aj8 id gd b S (w3 T) p lo
noncomputable def lt4(id:Nat)(gd:St→Bool)(b:ACode)(S:ε→St)(T:α⊕β⊕γ⊕δ→Ex×St)(p:ε→Option (α⊕β⊕γ⊕δ))(lo:f5):f5:=aj8 id gd b S (w4 T) p lo
variable {id:Nat} {gs:St→Bool} {b:ACode} {S:ε→St} {lo:f5}
theorem lk1{T:α→Ex×St}{p:ε→Option α}(h:Ll E b S T p)(hl:x8 E lo):x8 E (lt1 id gs b S T p lo):=pP h (fun _ _=>rfl) hl
theorem lk2{T:α⊕β→Ex×St}{p:ε→Option (α⊕β)}(h:Ll E b S T p)(hl:x8 E lo):x8 E (lt2 id gs b S T p lo):=pP h (fun z k=>by rcases z with z|z<;>rfl) hl
theorem lk3{T:α⊕β⊕γ→Ex×St}{p:ε→Option (α⊕β⊕γ)}(h:Ll E b S T p)(hl:x8 E lo):x8 E (lt3 id gs b S T p lo):=pP h (fun z k=>by rcases z with z|z|z<;>rfl) hl
theorem lk4{T:α⊕β⊕γ⊕δ→Ex×St}{p:ε→Option (α⊕β⊕γ⊕δ)}(h:Ll E b S T p)(hl:x8 E lo):x8 E (lt4 id gs b S T p lo):=pP h (fun z k=>by rcases z with z|z|z|z<;>rfl) hl
theorem slp{S:α→St}{T:γ→Ex×St}{st:α→Option (α⊕γ)}{live:Nat}{ms:List (Nat×Nat)}{r:Nat}{c:ACode}(hC:r8 E ca)(hX:SoundX E)
 (tr:∀lo x,n8 E ca lo id live c (S x) (KCM ms r)=(st x).bind fun r'=>Sum.elim (fun y=>lo id live c (S y) (KCM ms r)) (fun z=>some (.l (T z).1 (T z).2)) r')
 (kT:∀z,KCM ms r (T z).1 (T z).2=some (.l (T z).1 (T z).2)) (n:Nat):Ll E c S T (lpG st n):=SL.lp (LT:=fun lo=>lo) hC hX (fun _ h=>h) tr kT n
end
def cb(s:St)(i k:Nat):V:=(chB (s.H i)).getD k .junk
def cc(t:TT)(i k:Nat):V:=(chB (t.2.getD i none)).getD k .junk
def ca(t:TT)(i k:Nat):V:=(vAg (t.1.getD i .junk)).getD k .junk
def ag(t:TT)(i:Nat):V:=t.1.getD i .junk
def co(t:TT)(i:Nat):Option Chunk:=t.2.getD i none
abbrev dTN(v:V)(n:Nat):FN:=fun j=>u7 ((iU v j).getD n .junk)
abbrev dTF(v:V)(n:Nat):FM:=fun j=>iU ((iU v j).getD n .junk)
abbrev dRI(c:Option Chunk)(n:Nat):FI:=fun j=>vI ((chF c j).getD n .junk)
abbrev dRS(c:Option Chunk)(n:Nat):FS:=fun j=>vS ((chF c j).getD n .junk)
abbrev dRN(c:Option Chunk)(n:Nat):FN:=fun j=>u7 ((chF c j).getD n .junk)
abbrev dRF(c:Option Chunk)(n:Nat):FM:=fun j=>iU ((chF c j).getD n .junk)
end Go.Proofs.YtjfkkokeegpeiaaGreatDoor
/- The parser, lifted. -/
namespace Go.Proofs.YtjfkkokeegpeiaaGreatDoor
open Go Go.Am Go.Proofs
set_option maxRecDepth 100000
abbrev g8:V:=.sc (.slice none 0 0)
noncomputable def E5:Env:={P:=Tryz.prog,glob:=fm5,ext:=fun _ _=>none,way:=way,lit:=fun _=>false,code:=fun f=>(Tryz.prog.funcs[f]?).bind gf5,sett:=fun _=>true,rows:=true,dfn:=ik4,idle:=fj9,inv:=[(1,bl9 .i64),(2,ao7 (Lib.pow10Tab.map fun z=>Value.int .u64 z).toArray)]}
set_option maxRecDepth 100000 in
theorem hW5:WF E5:=WF.of E5 (fun _=>rfl) (by kernel_rfl) hW.1.1
theorem hX5:SoundX E5:=SoundX.none fun _ _=>rfl
theorem sc5{f:FuncId}{args:List V}{L:List (Option Chunk)}{cr:CRes}:SC E5 f args L cr↔SC E f args L cr:=
 ⟨fun h=>⟨h.1,fun β S w us h1 h2 h3=>h.2 β S w us h1 h2 ⟨h3.rd,h3.inv⟩⟩,fun h=>⟨h.1,fun β S w us h1 h2 h3=>h.2 β S w us h1 h2 ⟨h3.rd,h3.inv⟩⟩⟩
def K:CRes→Option Ans:=fun r=>some (.c r)
abbrev w(n:Int):Int:=IntKind.wrap .i64 n
def jk(n:Nat):List V:=List.replicate n .junk
abbrev af9:Type:=ByteArray×ByteArray
abbrev be0:Type:=Bool
def ah0:AR af9:=fun x=>([st x.1,st x.2],[])
def fd4(t:TT):af9:=(vS (ag t 0),vS (ag t 1))
theorem et9:VI ah0:=vd fd4 fun _=>rfl
def cm3:be0→CRes:=fun z=>.ret (bo z) []
noncomputable def an7(q:Nat)(x:af9):Option be0:=if x.1.size<4294967281 then some (Lib.contains x.1.data.toList x.2.data.toList)else none
theorem ej8(q:Nat):Lw E5 110 ah0 cm3 (an7 q):=by
 rintro⟨s,u⟩ z h
 unfold an7 at h
 split at h
 ·rename_i hn
  cases h
  exact sc5.2 (SC.ext hX (by
   show bz9 110 [st s,st u]=_
   simp only[bz9,if_pos,st]
   exact if_pos hn))
 ·cases h
abbrev oL:Type:=ByteArray
abbrev oP:Type:=Int×Int×Int×Int×Int×Int×Bool
def eJ:AR oL:=fun x=>([st x],[])
def go2(t:TT):oL:=(vS (ag t 0))
theorem bh5:VI eJ:=vd go2 fun _=>rfl
def wQ:oP→CRes:=fun z=>.ret (.tup [.agg [i64 z.1,i64 z.2.1,i64 z.2.2.1,i64 z.2.2.2.1,i64 z.2.2.2.2.1],i64 z.2.2.2.2.2.1,bo z.2.2.2.2.2.2]) []
def aa8{β:Type}(x:oL)(dn:oP→Option β):Option β:=
 if(ByteArray.toList ⟨#[74]⟩==x.toList)=true then dn (1,0,0,0,0,1,true)else if(ByteArray.toList ⟨#[107,74]⟩==x.toList)=true then dn (1,0,0,0,0,1000,true)else if(ByteArray.toList ⟨#[87,104]⟩==x.toList)=true then dn (1,0,0,0,0,3600,true)else if(ByteArray.toList ⟨#[66]⟩==x.toList)=true then dn (0,1,0,0,0,1,true)else if(ByteArray.toList ⟨#[107,66]⟩==x.toList)=true then dn (0,1,0,0,0,1000,true)else if(ByteArray.toList ⟨#[115]⟩==x.toList)=true then dn (0,0,1,0,0,1,true)else if(ByteArray.toList ⟨#[109,105,110]⟩==x.toList)=true then dn (0,0,1,0,0,60,true)else if(ByteArray.toList ⟨#[104]⟩==x.toList)=true then dn (0,0,1,0,0,3600,true)else if(ByteArray.toList ⟨#[100,101,103]⟩==x.toList)=true then dn (0,0,0,1,0,1,true)else if(ByteArray.toList ⟨#[75]⟩==x.toList)=true then dn (0,0,0,0,1,1,true)else if(ByteArray.toList ⟨#[87]⟩==x.toList)=true then dn (1,0,(-1),0,0,1,true)else if(ByteArray.toList ⟨#[107,87]⟩==x.toList)=true then dn (1,0,(-1),0,0,1000,true)else if(ByteArray.toList ⟨#[66,112,115]⟩==x.toList)=true then dn (0,1,(-1),0,0,1,true)else dn (0,0,0,0,0,0,false)
theorem gq5{β:Type}(x)(dn:oP→Option β):aa8 x dn=(aa8 x some).bind dn:=by
 unfold aa8
 repeat' first|exact n0|refine n1 fun _=>?_|refine n2 ?_ ?_|refine n3 (fun _=>?_) fun _=>?_|rfl
theorem gj7(x):f7 E5 ca0 (loU E5 ca0 [0] lo0 20) 87 (eJ x).1 (eJ x).2 K=aa8 x (fun z=>some (.c (wQ z))):=by kernel_rfl
noncomputable def xB(q:Nat)(x:oL):Option oP:=aa8 x some
theorem bt5(q:Nat):Lw E5 87 eJ wQ (xB q):=sof hW5 hX5 a8 (fun _=>(au4 a8 hX5 b6 20)) fun x=>(gj7 x).trans (by rw[gq5]<;>rfl)
abbrev lA:Type:=ByteArray
abbrev jZ:Type:=Int
def aX:AR lA:=fun x=>([st x],[])
def fr2(t:TT):lA:=(vS (ag t 0))
theorem as7:VI aX:=vd fr2 fun _=>rfl
def nU:jZ→CRes:=fun z=>.ret (i64 z) []
def vJ{β:Type}(x:lA)(dn:jZ→Option β):Option β:=
 if(x.toList==ByteArray.toList ⟨#[124,124]⟩)=true then dn (1)else if(x.toList==ByteArray.toList ⟨#[38,38]⟩)=true then dn (2)else if(x.toList==ByteArray.toList ⟨#[60]⟩)=true then dn (4)else if(x.toList==ByteArray.toList ⟨#[60,61]⟩)=true then dn (4)else if(x.toList==ByteArray.toList ⟨#[62]⟩)=true then dn (4)else if(x.toList==ByteArray.toList ⟨#[62,61]⟩)=true then dn (4)else if(x.toList==ByteArray.toList ⟨#[61,61]⟩)=true then dn (4)else if(x.toList==ByteArray.toList ⟨#[33,61]⟩)=true then dn (4)else if(x.toList==ByteArray.toList ⟨#[43]⟩)=true then dn (5)else if(x.toList==ByteArray.toList ⟨#[45]⟩)=true then dn (5)else if(x.toList==ByteArray.toList ⟨#[42]⟩)=true then dn (6)else if(x.toList==ByteArray.toList ⟨#[47]⟩)=true then dn (6)else dn (0)
theorem ga2{β:Type}(x)(dn:jZ→Option β):vJ x dn=(vJ x some).bind dn:=by
 unfold vJ
 repeat' first|exact n0|refine n1 fun _=>?_|refine n2 ?_ ?_|refine n3 (fun _=>?_) fun _=>?_|rfl
theorem fu3(x):f7 E5 ca0 lo0 78 (aX x).1 (aX x).2 K=vJ x (fun z=>some (.c (nU z))):=by kernel_rfl
noncomputable def oF(q:Nat)(x:lA):Option jZ:=vJ x some
theorem co5(q:Nat):Lw E5 78 aX nU (oF q):=sof hW5 hX5 a8 (fun _=>b6) fun x=>(fu3 x).trans (by rw[ga2]<;>rfl)
abbrev iC:Type:=Int×SP
abbrev iB:Type:=Int×Int
def w9:AR iC:=fun x=>([.ptr 0 0,i64 x.1],(hHP x.2))
def ht0(t:TT):iC:=((vI (ag t 1)),dHP t.2)
theorem vV:VI w9:=vd ht0 fun _=>rfl
def lH:iB→CRes:=fun z=>.pan (.ifc 45 (.agg [i64 z.1,i64 z.2]))
def bq8{β:Type}(x:iC)(dn:iB→Option β):Option β:=
 if 0≤x.2.1∧x.2.1< ((x.2.2.2.1:Nat):Int)then dn (x.2.2.2.2.2.1 (Int.toNat x.2.1),x.1)else none
theorem hs7{β:Type}(x)(dn:iB→Option β):bq8 x dn=(bq8 x some).bind dn:=by
 unfold bq8
 repeat' first|exact n0|refine n1 fun _=>?_|refine n2 ?_ ?_|refine n3 (fun _=>?_) fun _=>?_|rfl
theorem hv8(x):f7 E5 ca0 lo0 55 (w9 x).1 (w9 x).2 K=bq8 x (fun z=>some (.c (lH z))):=by kernel_rfl
noncomputable def fail(q:Nat)(x:iC):Option iB:=bq8 x some
theorem rP(q:Nat):Lw E5 55 w9 lH (fail q):=sof hW5 hX5 a8 (fun _=>b6) fun x=>(hv8 x).trans (by rw[hs7]<;>rfl)
abbrev aM:Type:=SP
abbrev aL:Type:=Int×Int×ByteArray×Int×SP
def j7:AR aM:=fun x=>([.ptr 0 0],(hHP x))
def ia1(t:TT):aM:=(dHP t.2)
theorem iD:VI j7:=vd ia1 fun _=>rfl
def y6:aL→CRes:=fun z=>.ret (.agg [i64 z.1,i64 z.2.1,st z.2.2.1,i64 z.2.2.2.1]) (hHP z.2.2.2.2)
def bt9{β:Type}(x:aM)(dn:aL→Option β):Option β:=
 if 0≤x.1∧x.1< ((x.2.2.1:Nat):Int)then dn (x.2.2.2.1 (Int.toNat x.1),x.2.2.2.2.1 (Int.toNat x.1),x.2.2.2.2.2.1 (Int.toNat x.1),x.2.2.2.2.2.2.1 (Int.toNat x.1),x)else none
theorem hu5{β:Type}(x)(dn:aL→Option β):bt9 x dn=(bt9 x some).bind dn:=by
 unfold bt9
 repeat' first|exact n0|refine n1 fun _=>?_|refine n2 ?_ ?_|refine n3 (fun _=>?_) fun _=>?_|rfl
theorem hu8(x):f7 E5 ca0 lo0 22 (j7 x).1 (j7 x).2 K=bt9 x (fun z=>some (.c (y6 z))):=by kernel_rfl
noncomputable def next(q:Nat)(x:aM):Option aL:=bt9 x some
theorem lU(q:Nat):Lw E5 22 j7 y6 (next q):=sof hW5 hX5 a8 (fun _=>b6) fun x=>(hu8 x).trans (by rw[hu5]<;>rfl)
abbrev bn1:Type:=ByteArray×SP
abbrev bs0:Type:=Bool×SP
def wA:AR bn1:=fun x=>([.ptr 0 0,st x.1],(hHP x.2))
def im1(t:TT):bn1:=((vS (ag t 1)),dHP t.2)
theorem eh2:VI wA:=vd im1 fun _=>rfl
def bs9:bs0→CRes:=fun z=>.ret (bo z.1) (hHP z.2)
def fp7{β:Type}(x:bn1)(dn:bs0→Option β):Option β:=
 if 0≤x.2.1∧x.2.1< ((x.2.2.2.1:Nat):Int)then dn (ByteArray.toList (x.2.2.2.2.2.2.1 (Int.toNat x.2.1))==x.1.toList,x.2)else none
theorem il9{β:Type}(x)(dn:bs0→Option β):fp7 x dn=(fp7 x some).bind dn:=by
 unfold fp7
 repeat' first|exact n0|refine n1 fun _=>?_|refine n2 ?_ ?_|refine n3 (fun _=>?_) fun _=>?_|rfl
theorem im5(x):f7 E5 ca0 lo0 109 (wA x).1 (wA x).2 K=fp7 x (fun z=>some (.c (bs9 z))):=by kernel_rfl
noncomputable def is(q:Nat)(x:bn1):Option bs0:=fp7 x some
theorem cy9(q:Nat):Lw E5 109 wA bs9 (is q):=sof hW5 hX5 a8 (fun _=>b6) fun x=>(im5 x).trans (by rw[il9]<;>rfl)
abbrev mF:Type:=ByteArray×SP
abbrev mG:Type:=Bool×SP
def aC:AR mF:=fun x=>([.ptr 0 0,st x.1],(hHP x.2))
def hx4(t:TT):mF:=((vS (ag t 1)),dHP t.2)
theorem ae0:VI aC:=vd hx4 fun _=>rfl
def lG:mG→CRes:=fun z=>.ret (bo z.1) (hHP z.2)
def bq1{β:Type}(c_is:bn1→Option bs0)(x:mF)(dn:mG→Option β):Option β:=
 (c_is x).bind fun z12=>if z12.1=true then dn (true,w (z12.2.1+1),z12.2.2)else dn (false,z12.2)
theorem ht3{β:Type}(c_is)(x)(dn:mG→Option β):bq1 c_is x dn=(bq1 c_is x some).bind dn:=by
 unfold bq1
 repeat' first|exact n0|refine n1 fun _=>?_|refine n2 ?_ ?_|refine n3 (fun _=>?_) fun _=>?_|rfl
theorem ic4(c_is)(x):f7 E5 (ftb 109 wA bs9 c_is ca0) lo0 84 (aC x).1 (aC x).2 K=bq1 (vf wA c_is) x (fun z=>some (.c (lG z))):=by kernel_rfl
noncomputable def take(q:Nat)(x:mF):Option mG:=bq1 (is q) x some
theorem ax9(q:Nat):Lw E5 84 aC lG (take q):=sof hW5 hX5 (fk (cy9 q) a8) (fun _=>b6) fun x=>(ic4 (is q) x).trans (by rw[eh2,ht3]<;>rfl)
abbrev jT:Type:=ByteArray×SP
abbrev iO:Type:=(SP)⊕(Int×Int)
def t8:AR jT:=fun x=>([.ptr 0 0,st x.1],(hHP x.2))
def hs5(t:TT):jT:=((vS (ag t 1)),dHP t.2)
theorem vY:VI t8:=vd hs5 fun _=>rfl
def jA:iO→CRes:=Sum.elim (fun z:SP=>.ret (.tup []) (hHP z)) (fun z:Int×Int=>.pan (.ifc 45 (.agg [i64 z.1,i64 z.2])))
def bv6{β:Type}(c_take:mF→Option mG)(c_fail:iC→Option iB)(x:jT)(dn:iO→Option β):Option β:=
 (c_take x).bind fun z12=>if(!z12.1)=true then(c_fail (11,z12.2)).bind fun z25=>dn (.inr z25)else dn (.inl z12.2)
theorem hx5{β:Type}(c_take c_fail)(x)(dn:iO→Option β):bv6 c_take c_fail x dn=(bv6 c_take c_fail x some).bind dn:=by
 unfold bv6
 repeat' first|exact n0|refine n1 fun _=>?_|refine n2 ?_ ?_|refine n3 (fun _=>?_) fun _=>?_|rfl
theorem id0(c_take c_fail)(x):f7 E5 (ftb 84 aC lG c_take (ftb 55 w9 lH c_fail ca0)) lo0 53 (t8 x).1 (t8 x).2 K=bv6 (vf aC c_take) (vf w9 c_fail) x (fun z=>some (.c (jA z))):=by kernel_rfl
noncomputable def mK(q:Nat)(x:jT):Option iO:=bv6 (take q) (fail q) x some
theorem rL(q:Nat):Lw E5 53 t8 jA (mK q):=sof hW5 hX5 (fk (ax9 q) (fk (rP q) a8)) (fun _=>b6) fun x=>(id0 (take q) (fail q) x).trans (by rw[ae0,vV,hx5]<;>rfl)
abbrev rH:Type:=ByteArray×SP
abbrev rJ:Type:=(SP)⊕(Int×Int)
def cW:AR rH:=fun x=>([.ptr 0 0,st x.1],(hHP x.2))
def hn9(t:TT):rH:=((vS (ag t 1)),dHP t.2)
theorem bl7:VI cW:=vd hn9 fun _=>rfl
def oX:rJ→CRes:=Sum.elim (fun z:SP=>.ret (.tup []) (hHP z)) (fun z:Int×Int=>.pan (.ifc 45 (.agg [i64 z.1,i64 z.2])))
def au2{β:Type}(c_is:bn1→Option bs0)(c_fail:iC→Option iB)(x:rH)(dn:rJ→Option β):Option β:=
 (c_is x).bind fun z12=>if(!z12.1)=true then(c_fail (11,z12.2)).bind fun z25=>dn (.inr z25)else if(z12.2.2.1==12)=true then(c_fail (2,z12.2)).bind fun z38=>dn (.inr z38)else dn (.inl (w (z12.2.1+1),w (z12.2.2.1+1),z12.2.2.2))
theorem gz7{β:Type}(c_is c_fail)(x)(dn:rJ→Option β):au2 c_is c_fail x dn=(au2 c_is c_fail x some).bind dn:=by
 unfold au2
 repeat' first|exact n0|refine n1 fun _=>?_|refine n2 ?_ ?_|refine n3 (fun _=>?_) fun _=>?_|rfl
theorem gx7(c_is c_fail)(x):f7 E5 (ftb 109 wA bs9 c_is (ftb 55 w9 lH c_fail ca0)) lo0 88 (cW x).1 (cW x).2 K=au2 (vf wA c_is) (vf w9 c_fail) x (fun z=>some (.c (oX z))):=by kernel_rfl
noncomputable def tP(q:Nat)(x:rH):Option rJ:=au2 (is q) (fail q) x some
theorem cg4(q:Nat):Lw E5 88 cW oX (tP q):=sof hW5 hX5 (fk (cy9 q) (fk (rP q) a8)) (fun _=>b6) fun x=>(gx7 (is q) (fail q) x).trans (by rw[eh2,vV,gz7]<;>rfl)
abbrev xN:Type:=ByteArray
abbrev wK:Type:=Bool
def qB:AR xN:=fun x=>([st x],[])
def ew5(t:TT):xN:=(vS (ag t 0))
theorem et0:VI qB:=vd ew5 fun _=>rfl
def bd7:wK→CRes:=fun z=>.ret (bo z) []
def qX{β:Type}(c_Contains:af9→Option be0)(x:xN)(dn:wK→Option β):Option β:=
 if 1+x.size≤maxLen then if ByteArray.size (⟨#[32]⟩++x)+1≤maxLen then(c_Contains ({data:=List.toArray (List.append [32,112,114,111,99,101,100,117,114,101,32,108,101,116,32,105,102,32,101,108,115,101,32,114,101,112,101,97,116,32,119,97,105,116,32,97,119,97,105,116,32,119,105,116,104,105,110,32,114,101,113,117,105] [114,101,32,112,111,105,110,116,32,117,115,101,32,102,111,114,32,115,101,110,100,32,107,101,101,112,32,101,109,105,116,32,97,98,111,114,116,32,116,114,117,101,32,102,97,108,115,101,32,116,108,109,32])},⟨#[32]⟩++x++⟨#[32]⟩)).bind fun z2=>dn z2 else none else none
theorem ez4{β:Type}(c_Contains)(x)(dn:wK→Option β):qX c_Contains x dn=(qX c_Contains x some).bind dn:=by
 unfold qX
 repeat' first|exact n0|refine n1 fun _=>?_|refine n2 ?_ ?_|refine n3 (fun _=>?_) fun _=>?_|rfl
theorem ey4(c_Contains)(x):f7 E5 (ftb 110 ah0 cm3 c_Contains ca0) lo0 85 (qB x).1 (qB x).2 K=qX (vf ah0 c_Contains) x (fun z=>some (.c (bd7 z))):=by kernel_rfl
noncomputable def zS(q:Nat)(x:xN):Option wK:=qX (an7 q) x some
theorem ea8(q:Nat):Lw E5 85 qB bd7 (zS q):=sof hW5 hX5 (fk (ej8 q) a8) (fun _=>b6) fun x=>(ey4 (an7 q) x).trans (by rw[et9,ez4]<;>rfl)
abbrev tF:Type:=SP
abbrev tC:Type:=(ByteArray×SP)⊕(Int×Int)
def fR:AR tF:=fun x=>([.ptr 0 0],(hHP x))
def hz6(t:TT):tF:=(dHP t.2)
theorem bs7:VI fR:=vd hz6 fun _=>rfl
def wU:tC→CRes:=Sum.elim (fun z:ByteArray×SP=>.ret (st z.1) (hHP z.2)) (fun z:Int×Int=>.pan (.ifc 45 (.agg [i64 z.1,i64 z.2])))
def bw4{β:Type}(c_next:aM→Option aL)(c_reserved:xN→Option wK)(c_fail:iC→Option iB)(x:tF)(dn:tC→Option β):Option β:=
 (c_next x).bind fun z11=>if(z11.1 !=1)=true then(c_fail (11,z11.2.2.2.2)).bind fun z24=>dn (.inr z24)else(c_reserved z11.2.2.1).bind fun z26=>if z26=true then(c_fail (11,z11.2.2.2.2)).bind fun z39=>dn (.inr z39)else dn (.inl (z11.2.2.1,w (z11.2.2.2.2.1+1),z11.2.2.2.2.2))
theorem hv6{β:Type}(c_next c_reserved c_fail)(x)(dn:tC→Option β):bw4 c_next c_reserved c_fail x dn=(bw4 c_next c_reserved c_fail x some).bind dn:=by
 unfold bw4
 repeat' first|exact n0|refine n1 fun _=>?_|refine n2 ?_ ?_|refine n3 (fun _=>?_) fun _=>?_|rfl
theorem hz9(c_next c_reserved c_fail)(x):f7 E5 (ftb 22 j7 y6 c_next (ftb 85 qB bd7 c_reserved (ftb 55 w9 lH c_fail ca0))) lo0 54 (fR x).1 (fR x).2 K=bw4 (vf j7 c_next) (vf qB c_reserved) (vf w9 c_fail) x (fun z=>some (.c (wU z))):=by kernel_rfl
noncomputable def name(q:Nat)(x:tF):Option tC:=bw4 (next q) (zS q) (fail q) x some
theorem ax2(q:Nat):Lw E5 54 fR wU (name q):=sof hW5 hX5 (fk (lU q) (fk (ea8 q) (fk (rP q) a8))) (fun _=>b6) fun x=>(hz9 (next q) (zS q) (fail q) x).trans (by rw[iD,et0,vV,hv6]<;>rfl)
abbrev y5:Type:=SP
abbrev kS:Type:=(ByteArray×SP)⊕(Int×Int)
def bS:AR y5:=fun x=>([.ptr 0 0],(hHP x))
def fx9(t:TT):y5:=(dHP t.2)
theorem av3:VI bS:=vd fx9 fun _=>rfl
def qL:kS→CRes:=Sum.elim (fun z:ByteArray×SP=>.ret (st z.1) (hHP z.2)) (fun z:Int×Int=>.pan (.ifc 45 (.agg [i64 z.1,i64 z.2])))
abbrev gC:Type:=ByteArray×Nat×Int×Nat×FI×FI×FS×FI×Int×Int×Nat×FS×FS×Int
abbrev tX:Type:=(Int×Int)⊕(ByteArray×SC2)
def kG(x:y5)(y:gC):St:={fr:=[V.ptr 0 0,V.junk,V.junk,st y.1]++jk 14++[V.sl 1 1 0 y.2.1,i64 y.2.2.1,i64 y.2.2.2.2.2.2.2.2.2.2.2.2.2]++jk 35,H:=hp [some (Chunk.blk [V.ro 4 y.2.2.2.1 fun j=>[i64 (y.2.2.2.2.1 j),i64 (y.2.2.2.2.2.1 j),st (y.2.2.2.2.2.2.1 j),i64 (y.2.2.2.2.2.2.2.1 j)],i64 y.2.2.2.2.2.2.2.2.1,i64 y.2.2.2.2.2.2.2.2.2.1,V.sl 1 1 0 y.2.1,V.sl 2 1 0 y.2.2.2.2.2.2.2.2.2.2.1]),some (Chunk.row 9 1 y.2.1 fun j=>[st (y.2.2.2.2.2.2.2.2.2.2.2.1 j)]),some (Chunk.row 9 1 y.2.2.2.2.2.2.2.2.2.2.1 fun j=>[st (y.2.2.2.2.2.2.2.2.2.2.2.2.1 j)])],nx:=3,rt:=1,me:=86}
def dg7(s:St):gC:=((vS (s.fr.getD 3 .junk)),dB (s.fr.getD 18 .junk),vI (s.fr.getD 19 .junk),u7 (cb s 0 0),dTI (cb s 0 0) 0,dTI (cb s 0 0) 1,dTS (cb s 0 0) 2,dTI (cb s 0 0) 3,vI (cb s 0 1),vI (cb s 0 2),dB (cb s 0 4),dRS (s.H 1) 0,dRS (s.H 2) 0,vI (s.fr.getD 20 .junk))
theorem df1(x:y5):VL (kG x):=vl dg7 fun _=>rfl
def uN(x:y5):tX→Ex×St:=(Sum.elim (fun z=>(Ex.panic (V.ifc 45 (V.agg [i64 z.1,i64 z.2])),{fr:=[V.junk]++jk 55,H:=hp [none],nx:=1,rt:=1,me:=86})) (fun z=>(Ex.exit 0,{fr:=[V.ptr 0 0,V.junk,V.junk,st z.1]++jk 52,H:=hp [some (hPB z.2),some (hPV z.2),some (hl8 z.2)],nx:=3,rt:=1,me:=86})))
def dN{β:Type}(c_name:tF→Option tC)(c_fail:iC→Option iB)(x:y5)(y:gC)(nx:gC→Option β)(dn:tX→Option β):Option β:=
 if decide (y.2.2.2.2.2.2.2.2.2.2.2.2.2<y.2.2.1)=true then if 0≤y.2.2.2.2.2.2.2.2.2.2.2.2.2∧y.2.2.2.2.2.2.2.2.2.2.2.2.2< ((y.2.1:Nat):Int)then if 0+Int.toNat y.2.2.2.2.2.2.2.2.2.2.2.2.2<y.2.1∧1=1 then if(ByteArray.toList (y.2.2.2.2.2.2.2.2.2.2.2.1 (0+Int.toNat y.2.2.2.2.2.2.2.2.2.2.2.2.2))==y.1.toList)=true then(c_fail (4,y.2.2.2.2.2.2.2.2.1,y.2.2.2.2.2.2.2.2.2.1,y.2.2.2.1,y.2.2.2.2.1,y.2.2.2.2.2.1,y.2.2.2.2.2.2.1,y.2.2.2.2.2.2.2.1,y.2.1,y.2.2.2.2.2.2.2.2.2.2.2.1,y.2.2.2.2.2.2.2.2.2.2.1,y.2.2.2.2.2.2.2.2.2.2.2.2.1)).bind fun z162=>dn (.inl z162)else nx (y.1,y.2.1,y.2.2.1,y.2.2.2.1,y.2.2.2.2.1,y.2.2.2.2.2.1,y.2.2.2.2.2.2.1,y.2.2.2.2.2.2.2.1,y.2.2.2.2.2.2.2.2.1,y.2.2.2.2.2.2.2.2.2.1,y.2.2.2.2.2.2.2.2.2.2.1,y.2.2.2.2.2.2.2.2.2.2.2.1,y.2.2.2.2.2.2.2.2.2.2.2.2.1,w (y.2.2.2.2.2.2.2.2.2.2.2.2.2+1))else none else none else dn (.inr (y.1,y.2.2.2.1,y.2.2.2.2.1,y.2.2.2.2.2.1,y.2.2.2.2.2.2.1,y.2.2.2.2.2.2.2.1,y.2.2.2.2.2.2.2.2.1,y.2.2.2.2.2.2.2.2.2.1,y.2.1,y.2.2.2.2.2.2.2.2.2.2.1,y.2.2.2.2.2.2.2.2.2.2.2.1,y.2.2.2.2.2.2.2.2.2.2.2.2.1))
theorem dg5{β:Type}(c_name c_fail)(x)(y)(nx:gC→Option β)(dn):dN c_name c_fail x y nx dn=(dN c_name c_fail x y (fun y=>some (.inl y)) (fun z=>some (.inr z))).bind fun r=>Sum.elim nx dn r:=by
 unfold dN
 repeat' first|exact n0|refine n1 fun _=>?_|refine n2 ?_ ?_|refine n3 (fun _=>?_) fun _=>?_|rfl
theorem de5(c_name c_fail)(x)(y)(lo:f5):n8 E5 (ft2 54 fR wU c_name (ftb 55 w9 lH c_fail ca0)) lo 0 1835017 (b5 E5 86 0) (kG x y) (KCM [(0,9)] 4)=dN (vf fR c_name) (vf w9 c_fail) x y (fun y=>lo 0 1835017 (b5 E5 86 0) (kG x y) (KCM [(0,9)] 4)) (fun z=>some (.l (uN x z).1 (uN x z).2)):=by kernel_rfl
noncomputable def ag7(c_name:tF→Option tC)(c_fail:iC→Option iB)(q:Nat)(x:y5):gC→Option tX:=lpG (fun y=>dN c_name c_fail x y (fun y=>some (.inl y)) (fun z=>some (.inr z))) q
theorem dq3(c_name)(h_name:Lw E5 54 fR wU c_name)(c_fail)(h_fail:Lw E5 55 w9 lH c_fail)(q:Nat)(x:y5):Ll E5 (b5 E5 86 0) (kG x) (uN x) (ag7 c_name c_fail q x):=
 slp (fk2 h_name (fk h_fail a8)) hX5 (fun lo y=>(de5 c_name c_fail x y lo).trans (by rw[bs7,vV];exact dg5 _ _ _ _ _ _)) (fun z=>by rcases z with z|z<;>kernel_rfl) q
def vE{β:Type}(c_name:tF→Option tC)(c_fail:iC→Option iB)(l_declare_l0:gC→Option tX)(x:y5)(dn:kS→Option β):Option β:=
 (c_name x).bind fun z11=>Sum.elim (fun z11a=>(l_declare_l0 (z11a.1,z11a.2.2.2.2.2.2.2.2.1,((z11a.2.2.2.2.2.2.2.2.1:Nat):Int),z11a.2.2.2.1,z11a.2.2.2.2.1,z11a.2.2.2.2.2.1,z11a.2.2.2.2.2.2.1,z11a.2.2.2.2.2.2.2.1,w (z11a.2.1-1),z11a.2.2.1,z11a.2.2.2.2.2.2.2.2.2.2.1,z11a.2.2.2.2.2.2.2.2.2.1,z11a.2.2.2.2.2.2.2.2.2.2.2,0)).bind fun z108=>Sum.elim (fun z108a=>dn (.inr z108a)) (fun z108b=>if(((z108b.2.2.2.2.2.2.2.2.1:Nat):Int)==12)=true then(c_fail (2,z108b.2.2.2.2.2.2.1,z108b.2.2.2.2.2.2.2.1,z108b.2.1,z108b.2.2.1,z108b.2.2.2.1,z108b.2.2.2.2.1,z108b.2.2.2.2.2.1,z108b.2.2.2.2.2.2.2.2.1,z108b.2.2.2.2.2.2.2.2.2.2.1,z108b.2.2.2.2.2.2.2.2.2.1,z108b.2.2.2.2.2.2.2.2.2.2.2)).bind fun z122=>dn (.inr z122)else if(z108b.2.2.2.2.2.2.2.2.1+1)*16≤d5∧z108b.2.2.2.2.2.2.2.2.1+1≤maxLen∧z108b.2.2.2.2.2.2.2.2.1≤z108b.2.2.2.2.2.2.2.2.1 then dn (.inl (z108b.1,w (z108b.2.2.2.2.2.2.1+1),z108b.2.2.2.2.2.2.2.1,z108b.2.1,z108b.2.2.1,z108b.2.2.2.1,z108b.2.2.2.2.1,z108b.2.2.2.2.2.1,z108b.2.2.2.2.2.2.2.2.1+1,fun j=>if j<z108b.2.2.2.2.2.2.2.2.1 then z108b.2.2.2.2.2.2.2.2.2.2.1 j else z108b.1,z108b.2.2.2.2.2.2.2.2.2.1,z108b.2.2.2.2.2.2.2.2.2.2.2))else none) z108) (fun z11b=>dn (.inr z11b)) z11
theorem fz7{β:Type}(c_name c_fail)(l_declare_l0)(x)(dn:kS→Option β):vE c_name c_fail l_declare_l0 x dn=(vE c_name c_fail l_declare_l0 x some).bind dn:=by
 unfold vE
 repeat' first|exact n0|refine n1 fun _=>?_|refine n2 ?_ ?_|refine n3 (fun _=>?_) fun _=>?_|rfl
theorem ga7(c_name c_fail)(l_declare_l0)(x):f7 E5 (ft2 54 fR wU c_name (ftb 55 w9 lH c_fail ca0)) (lt2 0 (fun _=>true) (b5 E5 86 0) (kG x) (uN x) l_declare_l0 lo0) 86 (bS x).1 (bS x).2 K=vE (vf fR c_name) (vf w9 c_fail) (lf (b5 E5 86 0) (kG x) l_declare_l0) x (fun z=>some (.c (qL z))):=by kernel_rfl
noncomputable def pA(q:Nat)(x:y5):Option kS:=vE (name q) (fail q) (ag7 (name q) (fail q) q x) x some
theorem bc8(q:Nat):Lw E5 86 bS qL (pA q):=sof hW5 hX5 (fk2 (ax2 q) (fk (rP q) a8)) (fun x=>(lk2 (dq3 (name q) (ax2 q) (fail q) (rP q) q x) b6)) fun x=>(ga7 (name q) (fail q) (ag7 (name q) (fail q) q x) x).trans (by rw[bs7,vV,df1,fz7]<;>rfl)
abbrev xC:Type:=Int×Int×SP
abbrev xD:Type:=(Int×SP)⊕(Int×Int)
def iZ:AR xC:=fun x=>([.ptr 0 0,i64 x.1,i64 x.2.1],(hHP x.2.2))
def gu9(t:TT):xC:=((vI (ag t 1)),vI (ag t 2),dHP t.2)
theorem cq3:VI iZ:=vd gu9 fun _=>rfl
def aa4:xD→CRes:=Sum.elim (fun z:Int×SP=>.ret (i64 z.1) (hHP z.2)) (fun z:Int×Int=>.pan (.ifc 45 (.agg [i64 z.1,i64 z.2])))
def ac1{β:Type}(c_next:aM→Option aL)(c_fail:iC→Option iB)(x:xC)(dn:xD→Option β):Option β:=
 (c_next x.2.2).bind fun z11=>if(z11.1 !=2)=true then(c_fail (11,z11.2.2.2.2)).bind fun z24=>dn (.inr z24)else if decide (z11.2.2.2.1<x.1)=true then(c_fail (5,z11.2.2.2.2)).bind fun z37=>dn (.inr z37)else if decide (z11.2.2.2.1>x.2.1)=true then(c_fail (5,z11.2.2.2.2)).bind fun z50=>dn (.inr z50)else dn (.inl (z11.2.2.2.1,w (z11.2.2.2.2.1+1),z11.2.2.2.2.2))
theorem gr6{β:Type}(c_next c_fail)(x)(dn:xD→Option β):ac1 c_next c_fail x dn=(ac1 c_next c_fail x some).bind dn:=by
 unfold ac1
 repeat' first|exact n0|refine n1 fun _=>?_|refine n2 ?_ ?_|refine n3 (fun _=>?_) fun _=>?_|rfl
theorem gp9(c_next c_fail)(x):f7 E5 (ftb 22 j7 y6 c_next (ftb 55 w9 lH c_fail ca0)) lo0 137 (iZ x).1 (iZ x).2 K=ac1 (vf j7 c_next) (vf w9 c_fail) x (fun z=>some (.c (aa4 z))):=by kernel_rfl
noncomputable def oI(q:Nat)(x:xC):Option xD:=ac1 (next q) (fail q) x some
theorem br9(q:Nat):Lw E5 137 iZ aa4 (oI q):=sof hW5 hX5 (fk (lU q) (fk (rP q) a8)) (fun _=>b6) fun x=>(gp9 (next q) (fail q) x).trans (by rw[iD,vV,gr6]<;>rfl)
end Go.Proofs.YtjfkkokeegpeiaaGreatDoor
/- The lexers, lifted. -/
namespace Go.Proofs.YtjfkkokeegpeiaaGreatDoor
open Go Go.Am Go.Proofs
set_option maxRecDepth 100000
def fx8:V→Nat| .fn g _=>g|_=>0
abbrev i32(n:Int):V:=.sc (.int .i32 n)
abbrev u8(n:Int):V:=.sc (.int .u8 n)
abbrev yQ:Type:=ByteArray×Int
abbrev ap9:Type:=Int
def yJ:AR yQ:=fun x=>([st x.1,u8 x.2],[])
def ea3(t:TT):yQ:=(vS (ag t 0),vI (ag t 1))
theorem el2:VI yJ:=vd ea3 fun _=>rfl
def by0:ap9→CRes:=fun z=>.ret (i64 z) []
noncomputable def zI(q:Nat)(x:yQ):Option ap9:=some (Lib.indexByte x.1.data.toList (UInt8.ofNat x.2.toNat))
theorem do8(q:Nat):Lw E5 83 yJ by0 (zI q):=by
 rintro⟨s,c⟩ z h
 cases h
 exact sc5.2 (SC.ext hX rfl)
abbrev pI:Type:=Int
abbrev oS:Type:=Bool
def eE:AR pI:=fun x=>([i32 x],[])
def gd2(t:TT):pI:=(vI (ag t 0))
theorem bm3:VI eE:=vd gd2 fun _=>rfl
def xF:oS→CRes:=fun z=>.ret (bo z) []
def zF{β:Type}(x:pI)(dn:oS→Option β):Option β:=
 if decide (x≥97)=true then if decide (x≤122)=true then dn true else if decide (x≥65)=true then dn (decide (x≤90))else dn false else if decide (x≥65)=true then dn (decide (x≤90))else dn false
theorem gu6{β:Type}(x)(dn:oS→Option β):zF x dn=(zF x some).bind dn:=by
 unfold zF
 repeat' first|exact n0|refine n1 fun _=>?_|refine n2 ?_ ?_|refine n3 (fun _=>?_) fun _=>?_|rfl
theorem gq3(x):f7 E5 ca0 lo0 48 (eE x).1 (eE x).2 K=zF x (fun z=>some (.c (xF z))):=by kernel_rfl
noncomputable def pW(q:Nat)(x:pI):Option oS:=zF x some
theorem bo2(q:Nat):Lw E5 48 eE xF (pW q):=sof hW5 hX5 a8 (fun _=>b6) fun x=>(gq3 x).trans (by rw[gu6]<;>rfl)
abbrev lS:Type:=Int
abbrev lT:Type:=Bool
def cO:AR lS:=fun x=>([i32 x],[])
def gz3(t:TT):lS:=(vI (ag t 0))
theorem ax3:VI cO:=vd gz3 fun _=>rfl
def rM:lT→CRes:=fun z=>.ret (bo z) []
def aw6{β:Type}(x:lS)(dn:lT→Option β):Option β:=
 if decide (x≥48)=true then dn (decide (x≤57))else dn false
theorem hm7{β:Type}(x)(dn:lT→Option β):aw6 x dn=(aw6 x some).bind dn:=by
 unfold aw6
 repeat' first|exact n0|refine n1 fun _=>?_|refine n2 ?_ ?_|refine n3 (fun _=>?_) fun _=>?_|rfl
theorem hf3(x):f7 E5 ca0 lo0 50 (cO x).1 (cO x).2 K=aw6 x (fun z=>some (.c (rM z))):=by kernel_rfl
noncomputable def oZ(q:Nat)(x:lS):Option lT:=aw6 x some
theorem al5(q:Nat):Lw E5 50 cO rM (oZ q):=sof hW5 hX5 a8 (fun _=>b6) fun x=>(hf3 x).trans (by rw[hm7]<;>rfl)
abbrev ag9:Type:=Int
abbrev ad9:Type:=Bool
def tT:AR ag9:=fun x=>([i32 x],[])
def hb3(t:TT):ag9:=(vI (ag t 0))
theorem fm1:VI tT:=vd hb3 fun _=>rfl
def bi8:ad9→CRes:=fun z=>.ret (bo z) []
def bi9{β:Type}(x:ag9)(dn:ad9→Option β):Option β:=
 dn (x !=10)
theorem hj8{β:Type}(x)(dn:ad9→Option β):bi9 x dn=(bi9 x some).bind dn:=by
 unfold bi9
 repeat' first|exact n0|refine n1 fun _=>?_|refine n2 ?_ ?_|refine n3 (fun _=>?_) fun _=>?_|rfl
theorem ha9(x):f7 E5 ca0 lo0 47 (tT x).1 (tT x).2 K=bi9 x (fun z=>some (.c (bi8 z))):=by kernel_rfl
noncomputable def by9(q:Nat)(x:ag9):Option ad9:=bi9 x some
theorem du9(q:Nat):Lw E5 47 tT bi8 (by9 q):=sof hW5 hX5 a8 (fun _=>b6) fun x=>(ha9 x).trans (by rw[hj8]<;>rfl)
abbrev ai7:Type:=Int
abbrev ad2:Type:=Bool
def tY:AR ai7:=fun x=>([i32 x],[])
def gx9(t:TT):ai7:=(vI (ag t 0))
theorem ff8:VI tY:=vd gx9 fun _=>rfl
def bh6:ad2→CRes:=fun z=>.ret (bo z) []
def ax8{β:Type}(c_letter:pI→Option oS)(c_digit:lS→Option lT)(x:ai7)(dn:ad2→Option β):Option β:=
 (c_letter x).bind fun z1=>if z1=true then dn true else(c_digit x).bind fun z3=>dn z3
theorem gx3{β:Type}(c_letter c_digit)(x)(dn:ad2→Option β):ax8 c_letter c_digit x dn=(ax8 c_letter c_digit x some).bind dn:=by
 unfold ax8
 repeat' first|exact n0|refine n1 fun _=>?_|refine n2 ?_ ?_|refine n3 (fun _=>?_) fun _=>?_|rfl
theorem gy0(c_letter c_digit)(x):f7 E5 (ftb 48 eE xF c_letter (ftb 50 cO rM c_digit ca0)) lo0 82 (tY x).1 (tY x).2 K=ax8 (vf eE c_letter) (vf cO c_digit) x (fun z=>some (.c (bh6 z))):=by kernel_rfl
noncomputable def bj4(q:Nat)(x:ai7):Option ad2:=ax8 (pW q) (oZ q) x some
theorem ef8(q:Nat):Lw E5 82 tY bh6 (bj4 q):=sof hW5 hX5 (fk (bo2 q) (fk (al5 q) a8)) (fun _=>b6) fun x=>(gy0 (pW q) (oZ q) x).trans (by rw[bm3,ax3,gx3]<;>rfl)
abbrev iF:Type:=ByteArray
abbrev yL:Type:=Int
def oV:AR iF:=fun x=>([st x,.fn 47 []],[])
def gy2(t:TT):iF:=(vS (ag t 0))
theorem dm1:VI oV:=vd gy2 fun _=>rfl
def aw0:yL→CRes:=fun z=>.ret (i64 z) []
abbrev jI:Type:=Nat
abbrev wZ:Type:=(Int)⊕(Unit)
def qQ(x:iF)(y:jI):St:={fr:=[st x,V.fn 47 []]++jk 6++[V.ptr 0 0]++jk 11,H:=hp [some (Chunk.iter x y)],nx:=1,rt:=0,me:=46}
def ez9(s:St):jI:=(chP (s.H 0))
theorem er2(x:iF):VL (qQ x):=vl ez9 fun _=>rfl
def ai1(x:iF):wZ→Ex×St:=(Sum.elim (fun z=>(Ex.ret,{fr:=jk 4++[i64 z]++jk 15,H:=hp [],nx:=0,rt:=0,me:=46})) (fun z=>(Ex.exit 0,{fr:=[st x]++jk 19,H:=hp [],nx:=0,rt:=0,me:=46})))
def mE{β:Type}(c_notLf:ag9→Option ad9)(x:iF)(y:jI)(nx:jI→Option β)(dn:wZ→Option β):Option β:=
 if y<x.size then(c_notLf ((Prod.fst (Utf8.decode x y):Nat):Int)).bind fun z14=>if(!z14)=true then dn (.inl ((y:Nat):Int))else nx (y+Prod.snd (Utf8.decode x y))else dn (.inr ())
theorem ey8{β:Type}(c_notLf)(x)(y)(nx:jI→Option β)(dn):mE c_notLf x y nx dn=(mE c_notLf x y (fun y=>some (.inl y)) (fun z=>some (.inr z))).bind fun r=>Sum.elim nx dn r:=by
 unfold mE
 repeat' first|exact n0|refine n1 fun _=>?_|refine n2 ?_ ?_|refine n3 (fun _=>?_) fun _=>?_|rfl
theorem eq4(c_notLf)(x)(y)(lo:f5):n8 E5 (ftb 47 tT bi8 c_notLf ca0) lo 0 259 (b5 E5 46 0) (qQ x y) (KCM [(0,1)] 16)=mE (vf tT c_notLf) x y (fun y=>lo 0 259 (b5 E5 46 0) (qQ x y) (KCM [(0,1)] 16)) (fun z=>some (.l (ai1 x z).1 (ai1 x z).2)):=by kernel_rfl
noncomputable def bf1(c_notLf:ag9→Option ad9)(q:Nat)(x:iF):jI→Option wZ:=lpG (fun y=>mE c_notLf x y (fun y=>some (.inl y)) (fun z=>some (.inr z))) q
theorem ex9(c_notLf)(h_notLf:Lw E5 47 tT bi8 c_notLf)(q:Nat)(x:iF):Ll E5 (b5 E5 46 0) (qQ x) (ai1 x) (bf1 c_notLf q x):=
 slp (fk h_notLf a8) hX5 (fun lo y=>(eq4 c_notLf x y lo).trans (by rw[fm1];exact ey8 _ _ _ _ _)) (fun z=>by rcases z with z|z<;>kernel_rfl) q
def av5{β:Type}(c_notLf:ag9→Option ad9)(l_spanN_l0:jI→Option wZ)(x:iF)(dn:yL→Option β):Option β:=
 (l_spanN_l0 (0)).bind fun z8=>Sum.elim (fun z8a=>dn z8a) (fun z8b=>dn (x.size:Int)) z8
theorem hm3{β:Type}(c_notLf)(l_spanN_l0)(x)(dn:yL→Option β):av5 c_notLf l_spanN_l0 x dn=(av5 c_notLf l_spanN_l0 x some).bind dn:=by
 unfold av5
 repeat' first|exact n0|refine n1 fun _=>?_|refine n2 ?_ ?_|refine n3 (fun _=>?_) fun _=>?_|rfl
theorem hn1(c_notLf)(l_spanN_l0)(x):f7 E5 (ftb 47 tT bi8 c_notLf ca0) (lt2 0 (fun _=>true) (b5 E5 46 0) (qQ x) (ai1 x) l_spanN_l0 lo0) 46 (oV x).1 (oV x).2 K=av5 (vf tT c_notLf) (lf (b5 E5 46 0) (qQ x) l_spanN_l0) x (fun z=>some (.c (aw0 z))):=by kernel_rfl
noncomputable def am2(q:Nat)(x:iF):Option yL:=av5 (by9 q) (bf1 (by9 q) q x) x some
theorem ds6(q:Nat):Lw E5 46 oV aw0 (am2 q):=sof hW5 hX5 (fk (du9 q) a8) (fun x=>(lk2 (ex9 (by9 q) (du9 q) q x) b6)) fun x=>(hn1 (by9 q) (bf1 (by9 q) q x) x).trans (by rw[fm1,er2,hm3]<;>rfl)
abbrev kD:Type:=ByteArray
abbrev af0:Type:=Int
def uB:AR kD:=fun x=>([st x,.fn 50 []],[])
def gz1(t:TT):kD:=(vS (ag t 0))
theorem fk6:VI uB:=vd gz1 fun _=>rfl
def bi3:af0→CRes:=fun z=>.ret (i64 z) []
abbrev jR:Type:=Nat
abbrev xA:Type:=(Int)⊕(Unit)
def pM(x:kD)(y:jR):St:={fr:=[st x,V.fn 50 []]++jk 6++[V.ptr 0 0]++jk 11,H:=hp [some (Chunk.iter x y)],nx:=1,rt:=0,me:=46}
def et5(s:St):jR:=(chP (s.H 0))
theorem fa0(x:kD):VL (pM x):=vl et5 fun _=>rfl
def ag0(x:kD):xA→Ex×St:=(Sum.elim (fun z=>(Ex.ret,{fr:=jk 4++[i64 z]++jk 15,H:=hp [],nx:=0,rt:=0,me:=46})) (fun z=>(Ex.exit 0,{fr:=[st x]++jk 19,H:=hp [],nx:=0,rt:=0,me:=46})))
def mH{β:Type}(c_digit:lS→Option lT)(x:kD)(y:jR)(nx:jR→Option β)(dn:xA→Option β):Option β:=
 if y<x.size then(c_digit ((Prod.fst (Utf8.decode x y):Nat):Int)).bind fun z14=>if(!z14)=true then dn (.inl ((y:Nat):Int))else nx (y+Prod.snd (Utf8.decode x y))else dn (.inr ())
theorem fc3{β:Type}(c_digit)(x)(y)(nx:jR→Option β)(dn):mH c_digit x y nx dn=(mH c_digit x y (fun y=>some (.inl y)) (fun z=>some (.inr z))).bind fun r=>Sum.elim nx dn r:=by
 unfold mH
 repeat' first|exact n0|refine n1 fun _=>?_|refine n2 ?_ ?_|refine n3 (fun _=>?_) fun _=>?_|rfl
theorem ex5(c_digit)(x)(y)(lo:f5):n8 E5 (ftb 50 cO rM c_digit ca0) lo 0 259 (b5 E5 46 0) (pM x y) (KCM [(0,1)] 16)=mH (vf cO c_digit) x y (fun y=>lo 0 259 (b5 E5 46 0) (pM x y) (KCM [(0,1)] 16)) (fun z=>some (.l (ag0 x z).1 (ag0 x z).2)):=by kernel_rfl
noncomputable def bk4(c_digit:lS→Option lT)(q:Nat)(x:kD):jR→Option xA:=lpG (fun y=>mH c_digit x y (fun y=>some (.inl y)) (fun z=>some (.inr z))) q
theorem eq2(c_digit)(h_digit:Lw E5 50 cO rM c_digit)(q:Nat)(x:kD):Ll E5 (b5 E5 46 0) (pM x) (ag0 x) (bk4 c_digit q x):=
 slp (fk h_digit a8) hX5 (fun lo y=>(ex5 c_digit x y lo).trans (by rw[ax3];exact fc3 _ _ _ _ _)) (fun z=>by rcases z with z|z<;>kernel_rfl) q
def as9{β:Type}(c_digit:lS→Option lT)(l_spanD_l0:jR→Option xA)(x:kD)(dn:af0→Option β):Option β:=
 (l_spanD_l0 (0)).bind fun z8=>Sum.elim (fun z8a=>dn z8a) (fun z8b=>dn (x.size:Int)) z8
theorem hm2{β:Type}(c_digit)(l_spanD_l0)(x)(dn:af0→Option β):as9 c_digit l_spanD_l0 x dn=(as9 c_digit l_spanD_l0 x some).bind dn:=by
 unfold as9
 repeat' first|exact n0|refine n1 fun _=>?_|refine n2 ?_ ?_|refine n3 (fun _=>?_) fun _=>?_|rfl
theorem hc8(c_digit)(l_spanD_l0)(x):f7 E5 (ftb 50 cO rM c_digit ca0) (lt2 0 (fun _=>true) (b5 E5 46 0) (pM x) (ag0 x) l_spanD_l0 lo0) 46 (uB x).1 (uB x).2 K=as9 (vf cO c_digit) (lf (b5 E5 46 0) (pM x) l_spanD_l0) x (fun z=>some (.c (bi3 z))):=by kernel_rfl
noncomputable def az5(q:Nat)(x:kD):Option af0:=as9 (oZ q) (bk4 (oZ q) q x) x some
theorem en0(q:Nat):Lw E5 46 uB bi3 (az5 q):=sof hW5 hX5 (fk (al5 q) a8) (fun x=>(lk2 (eq2 (oZ q) (al5 q) q x) b6)) fun x=>(hc8 (oZ q) (bk4 (oZ q) q x) x).trans (by rw[ax3,fa0,hm2]<;>rfl)
abbrev oE:Type:=ByteArray
abbrev bh2:Type:=Int
def ar5:AR oE:=fun x=>([st x,.fn 82 []],[])
def hh0(t:TT):oE:=(vS (ag t 0))
theorem hi4:VI ar5:=vd hh0 fun _=>rfl
def dr2:bh2→CRes:=fun z=>.ret (i64 z) []
abbrev iV:Type:=Nat
abbrev vZ:Type:=(Int)⊕(Unit)
def qD(x:oE)(y:iV):St:={fr:=[st x,V.fn 82 []]++jk 6++[V.ptr 0 0]++jk 11,H:=hp [some (Chunk.iter x y)],nx:=1,rt:=0,me:=46}
def fb5(s:St):iV:=(chP (s.H 0))
theorem ew7(x:oE):VL (qD x):=vl fb5 fun _=>rfl
def aj2(x:oE):vZ→Ex×St:=(Sum.elim (fun z=>(Ex.ret,{fr:=jk 4++[i64 z]++jk 15,H:=hp [],nx:=0,rt:=0,me:=46})) (fun z=>(Ex.exit 0,{fr:=[st x]++jk 19,H:=hp [],nx:=0,rt:=0,me:=46})))
def mS{β:Type}(c_wordC:ai7→Option ad2)(x:oE)(y:iV)(nx:iV→Option β)(dn:vZ→Option β):Option β:=
 if y<x.size then(c_wordC ((Prod.fst (Utf8.decode x y):Nat):Int)).bind fun z14=>if(!z14)=true then dn (.inl ((y:Nat):Int))else nx (y+Prod.snd (Utf8.decode x y))else dn (.inr ())
theorem ey9{β:Type}(c_wordC)(x)(y)(nx:iV→Option β)(dn):mS c_wordC x y nx dn=(mS c_wordC x y (fun y=>some (.inl y)) (fun z=>some (.inr z))).bind fun r=>Sum.elim nx dn r:=by
 unfold mS
 repeat' first|exact n0|refine n1 fun _=>?_|refine n2 ?_ ?_|refine n3 (fun _=>?_) fun _=>?_|rfl
theorem eu3(c_wordC)(x)(y)(lo:f5):n8 E5 (ftb 82 tY bh6 c_wordC ca0) lo 0 259 (b5 E5 46 0) (qD x y) (KCM [(0,1)] 16)=mS (vf tY c_wordC) x y (fun y=>lo 0 259 (b5 E5 46 0) (qD x y) (KCM [(0,1)] 16)) (fun z=>some (.l (aj2 x z).1 (aj2 x z).2)):=by kernel_rfl
noncomputable def bf2(c_wordC:ai7→Option ad2)(q:Nat)(x:oE):iV→Option vZ:=lpG (fun y=>mS c_wordC x y (fun y=>some (.inl y)) (fun z=>some (.inr z))) q
theorem ex0(c_wordC)(h_wordC:Lw E5 82 tY bh6 c_wordC)(q:Nat)(x:oE):Ll E5 (b5 E5 46 0) (qD x) (aj2 x) (bf2 c_wordC q x):=
 slp (fk h_wordC a8) hX5 (fun lo y=>(eu3 c_wordC x y lo).trans (by rw[ff8];exact ey9 _ _ _ _ _)) (fun z=>by rcases z with z|z<;>kernel_rfl) q
def as0{β:Type}(c_wordC:ai7→Option ad2)(l_spanW_l0:iV→Option vZ)(x:oE)(dn:bh2→Option β):Option β:=
 (l_spanW_l0 (0)).bind fun z8=>Sum.elim (fun z8a=>dn z8a) (fun z8b=>dn (x.size:Int)) z8
theorem he7{β:Type}(c_wordC)(l_spanW_l0)(x)(dn:bh2→Option β):as0 c_wordC l_spanW_l0 x dn=(as0 c_wordC l_spanW_l0 x some).bind dn:=by
 unfold as0
 repeat' first|exact n0|refine n1 fun _=>?_|refine n2 ?_ ?_|refine n3 (fun _=>?_) fun _=>?_|rfl
theorem gz4(c_wordC)(l_spanW_l0)(x):f7 E5 (ftb 82 tY bh6 c_wordC ca0) (lt2 0 (fun _=>true) (b5 E5 46 0) (qD x) (aj2 x) l_spanW_l0 lo0) 46 (ar5 x).1 (ar5 x).2 K=as0 (vf tY c_wordC) (lf (b5 E5 46 0) (qD x) l_spanW_l0) x (fun z=>some (.c (dr2 z))):=by kernel_rfl
noncomputable def ej7(q:Nat)(x:oE):Option bh2:=as0 (bj4 q) (bf2 (bj4 q) q x) x some
theorem gj0(q:Nat):Lw E5 46 ar5 dr2 (ej7 q):=sof hW5 hX5 (fk (ef8 q) a8) (fun x=>(lk2 (ex0 (bj4 q) (ef8 q) q x) b6)) fun x=>(gz4 (bj4 q) (bf2 (bj4 q) q x) x).trans (by rw[ff8,ew7,he7]<;>rfl)
abbrev ap4:Type:=ByteArray
abbrev aq6:Type:=Int×Int×ByteArray×Int×Int
def wJ:AR ap4:=fun x=>([st x],[])
def hw4(t:TT):ap4:=(vS (ag t 0))
theorem ex7:VI wJ:=vd hw4 fun _=>rfl
def bs6:aq6→CRes:=fun z=>.ret (.tup [.agg [i64 z.1,i64 z.2.1,st z.2.2.1,i64 z.2.2.2.1],i64 z.2.2.2.2]) []
def br0{β:Type}(c_spanW:oE→Option bh2)(x:ap4)(dn:aq6→Option β):Option β:=
 (c_spanW x).bind fun z1=>if decide (z1>12)=true then dn (0,0,⟨#[]⟩,0,2)else if(0:Int)≤0∧0≤z1∧z1≤(x.size:Int)then dn (1,0,ByteArray.extract x 0 (Int.toNat z1),0,0)else none
theorem ic0{β:Type}(c_spanW)(x)(dn:aq6→Option β):br0 c_spanW x dn=(br0 c_spanW x some).bind dn:=by
 unfold br0
 repeat' first|exact n0|refine n1 fun _=>?_|refine n2 ?_ ?_|refine n3 (fun _=>?_) fun _=>?_|rfl
theorem hz7(c_spanW)(x):f7 E5 (ftg 46 (fun a _=>fx8 (a.getD 1 .junk)==82) ar5 dr2 c_spanW ca0) lo0 49 (wJ x).1 (wJ x).2 K=br0 (vf ar5 c_spanW) x (fun z=>some (.c (bs6 z))):=by kernel_rfl
noncomputable def word(q:Nat)(x:ap4):Option aq6:=br0 (ej7 q) x some
theorem fn3(q:Nat):Lw E5 49 wJ bs6 (word q):=sof hW5 hX5 (fk (gj0 q) a8) (fun _=>b6) fun x=>(hz7 (ej7 q) x).trans (by rw[hi4,ic0]<;>rfl)
abbrev mL:Type:=ByteArray
abbrev ae1:Type:=Int×Int×ByteArray×Int×Int
def wN:AR mL:=fun x=>([st x],[])
def ie5(t:TT):mL:=(vS (ag t 0))
theorem eu6:VI wN:=vd ie5 fun _=>rfl
def br1:ae1→CRes:=fun z=>.ret (.tup [.agg [i64 z.1,i64 z.2.1,st z.2.2.1,i64 z.2.2.2.1],i64 z.2.2.2.2]) []
abbrev qT:Type:=ByteArray×Int×Nat
abbrev as2:Type:=(Unit)⊕(ByteArray×Int)
def uT(x:mL)(y:qT):St:={fr:=[V.junk,V.junk,V.ptr 0 0,V.junk,st y.1,i64 y.2.1]++jk 16++[V.ptr 1 0]++jk 15,H:=hp [some (Chunk.blk [i64 0,i64 0,st ⟨#[]⟩,i64 0]),some (Chunk.iter y.1 y.2.2)],nx:=2,rt:=0,me:=51}
def fp5(s:St):qT:=((vS (s.fr.getD 4 .junk)),vI (s.fr.getD 5 .junk),(chP (s.H 1)))
theorem gc3(x:mL):VL (uT x):=vl fp5 fun _=>rfl
def au9(x:mL):as2→Ex×St:=(Sum.elim (fun z=>(Ex.ret,{fr:=[V.junk,V.junk,V.ptr 0 0,i64 5]++jk 34,H:=hp [some (Chunk.blk [i64 0,i64 0,st ⟨#[]⟩,i64 0])],nx:=1,rt:=0,me:=51})) (fun z=>(Ex.exit 0,{fr:=[V.junk,V.junk,V.ptr 0 0,V.junk,st z.1,i64 z.2]++jk 32,H:=hp [some (Chunk.blk [i64 0,i64 0,st ⟨#[]⟩,i64 0])],nx:=1,rt:=0,me:=51})))
def qE{β:Type}(c_spanD:kD→Option af0)(x:mL)(y:qT)(nx:qT→Option β)(dn:as2→Option β):Option β:=
 if y.2.2<y.1.size then if decide (w (w (10*y.2.1)+w (IntKind.wrap IntKind.i32 (((Prod.fst (Utf8.decode y.1 y.2.2):Nat):Int)-48)))>2147483647)=true then dn (.inl ())else nx ((y.1,w (w (10*y.2.1)+w (IntKind.wrap IntKind.i32 (((Prod.fst (Utf8.decode y.1 y.2.2):Nat):Int)-48))),y.2.2+Prod.snd (Utf8.decode y.1 y.2.2)))else dn (.inr (y.1,y.2.1))
theorem gb7{β:Type}(c_spanD)(x)(y)(nx:qT→Option β)(dn):qE c_spanD x y nx dn=(qE c_spanD x y (fun y=>some (.inl y)) (fun z=>some (.inr z))).bind fun r=>Sum.elim nx dn r:=by
 unfold qE
 repeat' first|exact n0|refine n1 fun _=>?_|refine n2 ?_ ?_|refine n3 (fun _=>?_) fun _=>?_|rfl
theorem fq0(c_spanD)(x)(y)(lo:f5):n8 E5 (ftg 46 (fun a _=>fx8 (a.getD 1 .junk)==50) uB bi3 c_spanD ca0) lo 0 4194356 (b5 E5 51 0) (uT x y) (KCM [(0,52)] 12)=qE (vf uB c_spanD) x y (fun y=>lo 0 4194356 (b5 E5 51 0) (uT x y) (KCM [(0,52)] 12)) (fun z=>some (.l (au9 x z).1 (au9 x z).2)):=by kernel_rfl
noncomputable def ca5(c_spanD:kD→Option af0)(q:Nat)(x:mL):qT→Option as2:=lpG (fun y=>qE c_spanD x y (fun y=>some (.inl y)) (fun z=>some (.inr z))) q
theorem fz9(c_spanD)(h_spanD:Lw E5 46 uB bi3 c_spanD)(q:Nat)(x:mL):Ll E5 (b5 E5 51 0) (uT x) (au9 x) (ca5 c_spanD q x):=
 slp (fk h_spanD a8) hX5 (fun lo y=>(fq0 c_spanD x y lo).trans (by rw[fk6];exact gb7 _ _ _ _ _)) (fun z=>by rcases z with z|z<;>kernel_rfl) q
def bu2{β:Type}(c_spanD:kD→Option af0)(l_lnum_l0:qT→Option as2)(x:mL)(dn:ae1→Option β):Option β:=
 (c_spanD x).bind fun z1=>if(0:Int)≤0∧0≤z1∧z1≤(x.size:Int)then if decide ((ByteArray.size (ByteArray.extract x 0 (Int.toNat z1)):Int)>1)=true then if(0:Int)≤0∧0< (ByteArray.size (ByteArray.extract x 0 (Int.toNat z1)):Int)then if(((UInt8.toNat (List.getD (Array.toList (ByteArray.data (ByteArray.extract x 0 (Int.toNat z1)))) 0 0):Nat):Int)==48)=true then dn (0,0,⟨#[]⟩,0,11)else(l_lnum_l0 (ByteArray.extract x 0 (Int.toNat z1),0,0)).bind fun z16=>Sum.elim (fun z16a=>dn (0,0,⟨#[]⟩,0,5)) (fun z16b=>dn (2,0,z16b.1,z16b.2,0)) z16 else none else(l_lnum_l0 (ByteArray.extract x 0 (Int.toNat z1),0,0)).bind fun z18=>Sum.elim (fun z18a=>dn (0,0,⟨#[]⟩,0,5)) (fun z18b=>dn (2,0,z18b.1,z18b.2,0)) z18 else none
theorem hx9{β:Type}(c_spanD)(l_lnum_l0)(x)(dn:ae1→Option β):bu2 c_spanD l_lnum_l0 x dn=(bu2 c_spanD l_lnum_l0 x some).bind dn:=by
 unfold bu2
 repeat' first|exact n0|refine n1 fun _=>?_|refine n2 ?_ ?_|refine n3 (fun _=>?_) fun _=>?_|rfl
theorem hw6(c_spanD)(l_lnum_l0)(x):f7 E5 (ftg 46 (fun a _=>fx8 (a.getD 1 .junk)==50) uB bi3 c_spanD ca0) (lt2 0 (fun _=>true) (b5 E5 51 0) (uT x) (au9 x) l_lnum_l0 lo0) 51 (wN x).1 (wN x).2 K=bu2 (vf uB c_spanD) (lf (b5 E5 51 0) (uT x) l_lnum_l0) x (fun z=>some (.c (br1 z))):=by kernel_rfl
noncomputable def ci2(q:Nat)(x:mL):Option ae1:=bu2 (az5 q) (ca5 (az5 q) q x) x some
theorem fi6(q:Nat):Lw E5 51 wN br1 (ci2 q):=sof hW5 hX5 (fk (en0 q) a8) (fun x=>(lk2 (fz9 (az5 q) (en0 q) q x) b6)) fun x=>(hw6 (az5 q) (ca5 (az5 q) q x) x).trans (by rw[fk6,gc3,hx9]<;>rfl)
abbrev am0:Type:=ByteArray
abbrev ao9:Type:=Int×Int×ByteArray×Int×Int
def xM:AR am0:=fun x=>([st x],[])
def hy0(t:TT):am0:=(vS (ag t 0))
theorem es6:VI xM:=vd hy0 fun _=>rfl
def bp1:ao9→CRes:=fun z=>.ret (.tup [.agg [i64 z.1,i64 z.2.1,st z.2.2.1,i64 z.2.2.2.1],i64 z.2.2.2.2]) []
def bu4{β:Type}(c_IndexByte:yQ→Option ap9)(x:am0)(dn:ao9→Option β):Option β:=
 if(0:Int)≤0∧0< (x.size:Int)then(c_IndexByte ((⟨#[123,125,40,41,61,59,44,58,60,62,43,45,42,47,33,46]⟩,((UInt8.toNat (List.getD (Array.toList x.data) 0 0):Nat):Int)))).bind fun z2=>if decide (z2≥0)=true then if decide ((x.size:Int)>1)=true then if(0:Int)≤0∧(0:Int)≤2∧2≤(x.size:Int)then if(ByteArray.toList (ByteArray.extract x 0 2)==ByteArray.toList ⟨#[124,124]⟩)=true then if(0:Int)≤0∧(0:Int)≤2∧2≤(x.size:Int)then dn (3,0,ByteArray.extract x 0 2,0,0)else none else if(ByteArray.toList (ByteArray.extract x 0 2)==ByteArray.toList ⟨#[38,38]⟩)=true then if(0:Int)≤0∧(0:Int)≤2∧2≤(x.size:Int)then dn (3,0,ByteArray.extract x 0 2,0,0)else none else if(ByteArray.toList (ByteArray.extract x 0 2)==ByteArray.toList ⟨#[60,61]⟩)=true then if(0:Int)≤0∧(0:Int)≤2∧2≤(x.size:Int)then dn (3,0,ByteArray.extract x 0 2,0,0)else none else if(ByteArray.toList (ByteArray.extract x 0 2)==ByteArray.toList ⟨#[62,61]⟩)=true then if(0:Int)≤0∧(0:Int)≤2∧2≤(x.size:Int)then dn (3,0,ByteArray.extract x 0 2,0,0)else none else if(ByteArray.toList (ByteArray.extract x 0 2)==ByteArray.toList ⟨#[61,61]⟩)=true then if(0:Int)≤0∧(0:Int)≤2∧2≤(x.size:Int)then dn (3,0,ByteArray.extract x 0 2,0,0)else none else if(ByteArray.toList (ByteArray.extract x 0 2)==ByteArray.toList ⟨#[33,61]⟩)=true then if(0:Int)≤0∧(0:Int)≤2∧2≤(x.size:Int)then dn (3,0,ByteArray.extract x 0 2,0,0)else none else if(0:Int)≤0∧(0:Int)≤1∧1≤(x.size:Int)then dn (3,0,ByteArray.extract x 0 1,0,0)else none else none else if(0:Int)≤0∧(0:Int)≤1∧1≤(x.size:Int)then dn (3,0,ByteArray.extract x 0 1,0,0)else none else if decide ((x.size:Int)>1)=true then if(0:Int)≤0∧(0:Int)≤2∧2≤(x.size:Int)then if(ByteArray.toList (ByteArray.extract x 0 2)==ByteArray.toList ⟨#[124,124]⟩)=true then if(0:Int)≤0∧(0:Int)≤2∧2≤(x.size:Int)then dn (3,0,ByteArray.extract x 0 2,0,0)else none else if(ByteArray.toList (ByteArray.extract x 0 2)==ByteArray.toList ⟨#[38,38]⟩)=true then if(0:Int)≤0∧(0:Int)≤2∧2≤(x.size:Int)then dn (3,0,ByteArray.extract x 0 2,0,0)else none else if(ByteArray.toList (ByteArray.extract x 0 2)==ByteArray.toList ⟨#[60,61]⟩)=true then if(0:Int)≤0∧(0:Int)≤2∧2≤(x.size:Int)then dn (3,0,ByteArray.extract x 0 2,0,0)else none else if(ByteArray.toList (ByteArray.extract x 0 2)==ByteArray.toList ⟨#[62,61]⟩)=true then if(0:Int)≤0∧(0:Int)≤2∧2≤(x.size:Int)then dn (3,0,ByteArray.extract x 0 2,0,0)else none else if(ByteArray.toList (ByteArray.extract x 0 2)==ByteArray.toList ⟨#[61,61]⟩)=true then if(0:Int)≤0∧(0:Int)≤2∧2≤(x.size:Int)then dn (3,0,ByteArray.extract x 0 2,0,0)else none else if(ByteArray.toList (ByteArray.extract x 0 2)==ByteArray.toList ⟨#[33,61]⟩)=true then if(0:Int)≤0∧(0:Int)≤2∧2≤(x.size:Int)then dn (3,0,ByteArray.extract x 0 2,0,0)else none else dn (0,0,⟨#[]⟩,0,11)else none else dn (0,0,⟨#[]⟩,0,11)else none
theorem hy6{β:Type}(c_IndexByte)(x)(dn:ao9→Option β):bu4 c_IndexByte x dn=(bu4 c_IndexByte x some).bind dn:=by
 unfold bu4
 repeat' first|exact n0|refine n1 fun _=>?_|refine n2 ?_ ?_|refine n3 (fun _=>?_) fun _=>?_|rfl
theorem hz8(c_IndexByte)(x):f7 E5 (ftb 83 yJ by0 c_IndexByte ca0) lo0 52 (xM x).1 (xM x).2 K=bu4 (vf yJ c_IndexByte) x (fun z=>some (.c (bp1 z))):=by kernel_rfl
noncomputable def cm9(q:Nat)(x:am0):Option ao9:=bu4 (zI q) x some
theorem fl4(q:Nat):Lw E5 52 xM bp1 (cm9 q):=sof hW5 hX5 (fk (do8 q) a8) (fun _=>b6) fun x=>(hz8 (zI q) x).trans (by rw[el2,hy6]<;>rfl)
abbrev gJ:Type:=ByteArray
abbrev an4:Type:=(Int×Int)⊕(Int×Int×Nat×FI×FI×FS×FI)
def cr1:AR gJ:=fun x=>([st x],[])
def dx0:an4→CRes:=Sum.elim (fun z:Int×Int=>.ret (.tup [g8,i64 z.1,i64 z.2]) []) (fun z:Int×Int×Nat×FI×FI×FS×FI=>.ret (.tup [.sl 0 4 0 z.2.2.1,i64 z.1,i64 z.2.1]) [some (.row 52 4 z.2.2.1 (fun j=>[i64 (z.2.2.2.1 j),i64 (z.2.2.2.2.1 j),st (z.2.2.2.2.2.1 j),i64 (z.2.2.2.2.2.2 j)]))])
abbrev bO:Type:=(Nat×Int)⊕(Int×FI×FS×FI×FI×Nat×Nat)
abbrev nV:Type:=(Int×Int)⊕(Unit)⊕(Nat×FI×FI×FS×FI)
def dg1(x:gJ)(y:Nat×Int):St:={fr:=[st x]++jk 4++[g8,i64 y.2]++jk 9++[V.ptr 0 0]++jk 74,H:=hp [some (Chunk.iter x y.1)],nx:=1,rt:=0,me:=20}
def dl8(s:St):Nat×Int:=((chP (s.H 0)),vI (s.fr.getD 6 .junk))
def dd2(x:gJ)(y:Int×FI×FS×FI×FI×Nat×Nat):St:={fr:=[st x]++jk 4++[V.sl 0 4 0 y.2.2.2.2.2.2,i64 y.1]++jk 9++[V.ptr 1 0]++jk 74,H:=hp [some (Chunk.row 52 4 y.2.2.2.2.2.2 fun j=>[i64 (y.2.1 j),i64 (y.2.2.2.2.1 j),st (y.2.2.1 j),i64 (y.2.2.2.1 j)]),some (Chunk.iter x y.2.2.2.2.2.1)],nx:=2,rt:=0,me:=20}
def dn7(s:St):Int×FI×FS×FI×FI×Nat×Nat:=((vI (s.fr.getD 6 .junk)),dRI (s.H 0) 0,dRS (s.H 0) 2,dRI (s.H 0) 3,dRI (s.H 0) 1,(chP (s.H 1)),dB (s.fr.getD 5 .junk))
def fF(x:gJ):bO→St:=(Sum.elim (dg1 x) (dd2 x))
def ek4(s:St):bO:=(match s.nx==1 with|true=>(.inl (dl8 s)) |false=>(.inr (dn7 s)))
theorem eb9(x:gJ):VL (fF x):=vl ek4 (fun y=>by rcases y with y|y<;>rfl)
def nO(x:gJ):nV→Ex×St:=(Sum.elim (fun z=>(Ex.ret,{fr:=[V.junk,V.junk,g8,i64 z.1,i64 z.2]++jk 86,H:=hp [],nx:=0,rt:=0,me:=20})) (Sum.elim (fun z=>(Ex.exit 0,{fr:=[st x]++jk 4++[g8]++jk 85,H:=hp [],nx:=0,rt:=0,me:=20})) (fun z=>(Ex.exit 0,{fr:=[st x]++jk 4++[V.sl 0 4 0 z.1]++jk 85,H:=hp [some (Chunk.row 52 4 z.1 fun j=>[i64 (z.2.1 j),i64 (z.2.2.1 j),st (z.2.2.2.1 j),i64 (z.2.2.2.2 j)])],nx:=1,rt:=0,me:=20}))))
def kB{β:Type}(c_letter:pI→Option oS)(c_digit:lS→Option lT)(c_spanN:iF→Option yL)(c_word:ap4→Option aq6)(c_lnum:mL→Option ae1)(c_lsym:am0→Option ao9)(x:gJ)(y:Nat×Int)(nx:bO→Option β)(dn:nV→Option β):Option β:=
 if y.1<x.size then if decide (((y.1:Nat):Int)<y.2)=true then nx (.inl (y.1+Prod.snd (Utf8.decode x y.1),y.2))else if 0≤((y.1:Nat):Int)∧((y.1:Nat):Int)≤(x.size:Int)∧(x.size:Int)≤(x.size:Int)then if(((Prod.fst (Utf8.decode x y.1):Nat):Int)==32)=true then nx (.inl (y.1+Prod.snd (Utf8.decode x y.1),y.2))else if(((Prod.fst (Utf8.decode x y.1):Nat):Int)==9)=true then nx (.inl (y.1+Prod.snd (Utf8.decode x y.1),y.2))else if(((Prod.fst (Utf8.decode x y.1):Nat):Int)==10)=true then nx (.inl (y.1+Prod.snd (Utf8.decode x y.1),y.2))else if(((Prod.fst (Utf8.decode x y.1):Nat):Int)==13)=true then nx (.inl (y.1+Prod.snd (Utf8.decode x y.1),y.2))else if(((Prod.fst (Utf8.decode x y.1):Nat):Int)==35)=true then(c_spanN (ByteArray.extract x (Int.toNat ((y.1:Nat):Int)) (Int.toNat (x.size:Int)))).bind fun z476=>nx (.inl (y.1+Prod.snd (Utf8.decode x y.1),w (((y.1:Nat):Int)+z476)))else(c_letter ((Prod.fst (Utf8.decode x y.1):Nat):Int)).bind fun z478=>if z478=true then(c_word (ByteArray.extract x (Int.toNat ((y.1:Nat):Int)) (Int.toNat (x.size:Int)))).bind fun z480=>if(z480.2.2.2.2 !=0)=true then dn (.inl (((y.1:Nat):Int),z480.2.2.2.2))else nx (.inr (w (((y.1:Nat):Int)+(z480.2.2.1.size:Int)),fun j=>z480.1,fun j=>z480.2.2.1,fun j=>z480.2.2.2.1,fun j=>((y.1:Nat):Int),y.1+Prod.snd (Utf8.decode x y.1),1))else(c_digit ((Prod.fst (Utf8.decode x y.1):Nat):Int)).bind fun z482=>if z482=true then(c_lnum (ByteArray.extract x (Int.toNat ((y.1:Nat):Int)) (Int.toNat (x.size:Int)))).bind fun z484=>if(z484.2.2.2.2 !=0)=true then dn (.inl (((y.1:Nat):Int),z484.2.2.2.2))else nx (.inr (w (((y.1:Nat):Int)+(z484.2.2.1.size:Int)),fun j=>z484.1,fun j=>z484.2.2.1,fun j=>z484.2.2.2.1,fun j=>((y.1:Nat):Int),y.1+Prod.snd (Utf8.decode x y.1),1))else(c_lsym (ByteArray.extract x (Int.toNat ((y.1:Nat):Int)) (Int.toNat (x.size:Int)))).bind fun z486=>if(z486.2.2.2.2 !=0)=true then dn (.inl (((y.1:Nat):Int),z486.2.2.2.2))else nx (.inr (w (((y.1:Nat):Int)+(z486.2.2.1.size:Int)),fun j=>z486.1,fun j=>z486.2.2.1,fun j=>z486.2.2.2.1,fun j=>((y.1:Nat):Int),y.1+Prod.snd (Utf8.decode x y.1),1))else none else dn (.inr (.inl ()))
theorem dn9{β:Type}(c_letter c_digit)(c_spanN c_word)(c_lnum c_lsym)(x)(y)(nx:bO→Option β)(dn):kB c_letter c_digit c_spanN c_word c_lnum c_lsym x y nx dn=(kB c_letter c_digit c_spanN c_word c_lnum c_lsym x y (fun y=>some (.inl y)) (fun z=>some (.inr z))).bind fun r=>Sum.elim nx dn r:=by
 unfold kB
 repeat' first|exact n0|refine n1 fun _=>?_|refine n2 ?_ ?_|refine n3 (fun _=>?_) fun _=>?_|rfl
theorem dh8(c_letter c_digit)(c_spanN c_word)(c_lnum c_lsym)(x)(y)(lo:f5):n8 E5 (ftb 48 eE xF c_letter (ftb 50 cO rM c_digit (ftg 46 (fun a _=>fx8 (a.getD 1 .junk)==47) oV aw0 c_spanN (ftb 49 wJ bs6 c_word (ftb 51 wN br1 c_lnum (ftb 52 xM bp1 c_lsym ca0)))))) lo 0 65633 (b5 E5 20 0) (fF x (.inl y)) (KCM [(0,33)] 28)=kB (vf eE c_letter) (vf cO c_digit) (vf oV c_spanN) (vf wJ c_word) (vf wN c_lnum) (vf xM c_lsym) x y (fun y=>lo 0 65633 (b5 E5 20 0) (fF x y) (KCM [(0,33)] 28)) (fun z=>some (.l (nO x z).1 (nO x z).2)):=by kernel_rfl
def kV{β:Type}(c_letter:pI→Option oS)(c_digit:lS→Option lT)(c_spanN:iF→Option yL)(c_word:ap4→Option aq6)(c_lnum:mL→Option ae1)(c_lsym:am0→Option ao9)(x:gJ)(y:Int×FI×FS×FI×FI×Nat×Nat)(nx:bO→Option β)(dn:nV→Option β):Option β:=
 if y.2.2.2.2.2.1<x.size then if decide (((y.2.2.2.2.2.1:Nat):Int)<y.1)=true then nx (.inr (y.1,y.2.1,y.2.2.1,y.2.2.2.1,y.2.2.2.2.1,y.2.2.2.2.2.1+Prod.snd (Utf8.decode x y.2.2.2.2.2.1),y.2.2.2.2.2.2))else if 0≤((y.2.2.2.2.2.1:Nat):Int)∧((y.2.2.2.2.2.1:Nat):Int)≤(x.size:Int)∧(x.size:Int)≤(x.size:Int)then if(((Prod.fst (Utf8.decode x y.2.2.2.2.2.1):Nat):Int)==32)=true then nx (.inr (y.1,y.2.1,y.2.2.1,y.2.2.2.1,y.2.2.2.2.1,y.2.2.2.2.2.1+Prod.snd (Utf8.decode x y.2.2.2.2.2.1),y.2.2.2.2.2.2))else if(((Prod.fst (Utf8.decode x y.2.2.2.2.2.1):Nat):Int)==9)=true then nx (.inr (y.1,y.2.1,y.2.2.1,y.2.2.2.1,y.2.2.2.2.1,y.2.2.2.2.2.1+Prod.snd (Utf8.decode x y.2.2.2.2.2.1),y.2.2.2.2.2.2))else if(((Prod.fst (Utf8.decode x y.2.2.2.2.2.1):Nat):Int)==10)=true then nx (.inr (y.1,y.2.1,y.2.2.1,y.2.2.2.1,y.2.2.2.2.1,y.2.2.2.2.2.1+Prod.snd (Utf8.decode x y.2.2.2.2.2.1),y.2.2.2.2.2.2))else if(((Prod.fst (Utf8.decode x y.2.2.2.2.2.1):Nat):Int)==13)=true then nx (.inr (y.1,y.2.1,y.2.2.1,y.2.2.2.1,y.2.2.2.2.1,y.2.2.2.2.2.1+Prod.snd (Utf8.decode x y.2.2.2.2.2.1),y.2.2.2.2.2.2))else if(((Prod.fst (Utf8.decode x y.2.2.2.2.2.1):Nat):Int)==35)=true then(c_spanN (ByteArray.extract x (Int.toNat ((y.2.2.2.2.2.1:Nat):Int)) (Int.toNat (x.size:Int)))).bind fun z489=>nx (.inr (w (((y.2.2.2.2.2.1:Nat):Int)+z489),y.2.1,y.2.2.1,y.2.2.2.1,y.2.2.2.2.1,y.2.2.2.2.2.1+Prod.snd (Utf8.decode x y.2.2.2.2.2.1),y.2.2.2.2.2.2))else(c_letter ((Prod.fst (Utf8.decode x y.2.2.2.2.2.1):Nat):Int)).bind fun z491=>if z491=true then(c_word (ByteArray.extract x (Int.toNat ((y.2.2.2.2.2.1:Nat):Int)) (Int.toNat (x.size:Int)))).bind fun z493=>if(z493.2.2.2.2 !=0)=true then dn (.inl (((y.2.2.2.2.2.1:Nat):Int),z493.2.2.2.2))else if(y.2.2.2.2.2.2+1)*40≤d5∧y.2.2.2.2.2.2+1≤maxLen∧y.2.2.2.2.2.2≤y.2.2.2.2.2.2 then nx (.inr (w (((y.2.2.2.2.2.1:Nat):Int)+(z493.2.2.1.size:Int)),fun j=>if j<y.2.2.2.2.2.2 then y.2.1 j else z493.1,fun j=>if j<y.2.2.2.2.2.2 then y.2.2.1 j else z493.2.2.1,fun j=>if j<y.2.2.2.2.2.2 then y.2.2.2.1 j else z493.2.2.2.1,fun j=>if j<y.2.2.2.2.2.2 then y.2.2.2.2.1 j else((y.2.2.2.2.2.1:Nat):Int),y.2.2.2.2.2.1+Prod.snd (Utf8.decode x y.2.2.2.2.2.1),y.2.2.2.2.2.2+1))else none else(c_digit ((Prod.fst (Utf8.decode x y.2.2.2.2.2.1):Nat):Int)).bind fun z495=>if z495=true then(c_lnum (ByteArray.extract x (Int.toNat ((y.2.2.2.2.2.1:Nat):Int)) (Int.toNat (x.size:Int)))).bind fun z497=>if(z497.2.2.2.2 !=0)=true then dn (.inl (((y.2.2.2.2.2.1:Nat):Int),z497.2.2.2.2))else if(y.2.2.2.2.2.2+1)*40≤d5∧y.2.2.2.2.2.2+1≤maxLen∧y.2.2.2.2.2.2≤y.2.2.2.2.2.2 then nx (.inr (w (((y.2.2.2.2.2.1:Nat):Int)+(z497.2.2.1.size:Int)),fun j=>if j<y.2.2.2.2.2.2 then y.2.1 j else z497.1,fun j=>if j<y.2.2.2.2.2.2 then y.2.2.1 j else z497.2.2.1,fun j=>if j<y.2.2.2.2.2.2 then y.2.2.2.1 j else z497.2.2.2.1,fun j=>if j<y.2.2.2.2.2.2 then y.2.2.2.2.1 j else((y.2.2.2.2.2.1:Nat):Int),y.2.2.2.2.2.1+Prod.snd (Utf8.decode x y.2.2.2.2.2.1),y.2.2.2.2.2.2+1))else none else(c_lsym (ByteArray.extract x (Int.toNat ((y.2.2.2.2.2.1:Nat):Int)) (Int.toNat (x.size:Int)))).bind fun z499=>if(z499.2.2.2.2 !=0)=true then dn (.inl (((y.2.2.2.2.2.1:Nat):Int),z499.2.2.2.2))else if(y.2.2.2.2.2.2+1)*40≤d5∧y.2.2.2.2.2.2+1≤maxLen∧y.2.2.2.2.2.2≤y.2.2.2.2.2.2 then nx (.inr (w (((y.2.2.2.2.2.1:Nat):Int)+(z499.2.2.1.size:Int)),fun j=>if j<y.2.2.2.2.2.2 then y.2.1 j else z499.1,fun j=>if j<y.2.2.2.2.2.2 then y.2.2.1 j else z499.2.2.1,fun j=>if j<y.2.2.2.2.2.2 then y.2.2.2.1 j else z499.2.2.2.1,fun j=>if j<y.2.2.2.2.2.2 then y.2.2.2.2.1 j else((y.2.2.2.2.2.1:Nat):Int),y.2.2.2.2.2.1+Prod.snd (Utf8.decode x y.2.2.2.2.2.1),y.2.2.2.2.2.2+1))else none else none else dn (.inr (.inr (y.2.2.2.2.2.2,y.2.1,y.2.2.2.2.1,y.2.2.1,y.2.2.2.1)))
theorem dd9{β:Type}(c_letter c_digit)(c_spanN c_word)(c_lnum c_lsym)(x)(y)(nx:bO→Option β)(dn):kV c_letter c_digit c_spanN c_word c_lnum c_lsym x y nx dn=(kV c_letter c_digit c_spanN c_word c_lnum c_lsym x y (fun y=>some (.inl y)) (fun z=>some (.inr z))).bind fun r=>Sum.elim nx dn r:=by
 unfold kV
 repeat' first|exact n0|refine n1 fun _=>?_|refine n2 ?_ ?_|refine n3 (fun _=>?_) fun _=>?_|rfl
theorem do5(c_letter c_digit)(c_spanN c_word)(c_lnum c_lsym)(x)(y)(lo:f5):n8 E5 (ftb 48 eE xF c_letter (ftb 50 cO rM c_digit (ftg 46 (fun a _=>fx8 (a.getD 1 .junk)==47) oV aw0 c_spanN (ftb 49 wJ bs6 c_word (ftb 51 wN br1 c_lnum (ftb 52 xM bp1 c_lsym ca0)))))) lo 0 65633 (b5 E5 20 0) (fF x (.inr y)) (KCM [(0,33)] 28)=kV (vf eE c_letter) (vf cO c_digit) (vf oV c_spanN) (vf wJ c_word) (vf wN c_lnum) (vf xM c_lsym) x y (fun y=>lo 0 65633 (b5 E5 20 0) (fF x y) (KCM [(0,33)] 28)) (fun z=>some (.l (nO x z).1 (nO x z).2)):=by kernel_rfl
noncomputable def pO(c_letter:pI→Option oS)(c_digit:lS→Option lT)(c_spanN:iF→Option yL)(c_word:ap4→Option aq6)(c_lnum:mL→Option ae1)(c_lsym:am0→Option ao9)(q:Nat)(x:gJ):bO→Option nV:=lpG (Sum.elim (fun y=>kB c_letter c_digit c_spanN c_word c_lnum c_lsym x y (fun y=>some (.inl y)) (fun z=>some (.inr z))) (fun y=>kV c_letter c_digit c_spanN c_word c_lnum c_lsym x y (fun y=>some (.inl y)) (fun z=>some (.inr z)))) q
theorem ed3(c_letter)(h_letter:Lw E5 48 eE xF c_letter)(c_digit)(h_digit:Lw E5 50 cO rM c_digit)(c_spanN)(h_spanN:Lw E5 46 oV aw0 c_spanN)(c_word)(h_word:Lw E5 49 wJ bs6 c_word)(c_lnum)(h_lnum:Lw E5 51 wN br1 c_lnum)(c_lsym)(h_lsym:Lw E5 52 xM bp1 c_lsym)(q:Nat)(x:gJ):Ll E5 (b5 E5 20 0) (fF x) (nO x) (pO c_letter c_digit c_spanN c_word c_lnum c_lsym q x):=
 slp (fk h_letter (fk h_digit (fk h_spanN (fk h_word (fk h_lnum (fk h_lsym a8)))))) hX5 (fun lo y=>by
  rcases y with y|y
  ·exact(dh8 c_letter c_digit c_spanN c_word c_lnum c_lsym x y lo).trans (by rw[bm3,ax3,dm1,ex7,eu6,es6];exact dn9 _ _ _ _ _ _ _ _ _ _)
  ·exact(do5 c_letter c_digit c_spanN c_word c_lnum c_lsym x y lo).trans (by rw[bm3,ax3,dm1,ex7,eu6,es6];exact dd9 _ _ _ _ _ _ _ _ _ _)) (fun z=>by rcases z with z|z|z<;>kernel_rfl) q
def aa3{β:Type}(c_letter:pI→Option oS)(c_digit:lS→Option lT)(c_spanN:iF→Option yL)(c_word:ap4→Option aq6)(c_lnum:mL→Option ae1)(c_lsym:am0→Option ao9)(l_Tokens_l0:bO→Option nV)(x:gJ)(dn:an4→Option β):Option β:=
 if decide ((x.size:Int)>4000)=true then dn (.inl (4000,2))else(l_Tokens_l0 (.inl (0,0))).bind fun z461=>Sum.elim (fun z461a=>dn (.inl z461a)) (fun z461b=>Sum.elim (fun z461ba=>dn (.inr (0,0,1,fun j=>0,fun j=>(x.size:Int),fun j=>⟨#[]⟩,fun j=>0))) (fun z461bb=>if(z461bb.1+1)*40≤d5∧z461bb.1+1≤maxLen∧z461bb.1≤z461bb.1 then dn (.inr (0,0,z461bb.1+1,fun j=>if j<z461bb.1 then z461bb.2.1 j else 0,fun j=>if j<z461bb.1 then z461bb.2.2.1 j else(x.size:Int),fun j=>if j<z461bb.1 then z461bb.2.2.2.1 j else⟨#[]⟩,fun j=>if j<z461bb.1 then z461bb.2.2.2.2 j else 0))else none) z461b) z461
theorem gt0{β:Type}(c_letter c_digit)(c_spanN c_word)(c_lnum c_lsym)(l_Tokens_l0)(x)(dn:an4→Option β):aa3 c_letter c_digit c_spanN c_word c_lnum c_lsym l_Tokens_l0 x dn=(aa3 c_letter c_digit c_spanN c_word c_lnum c_lsym l_Tokens_l0 x some).bind dn:=by
 unfold aa3
 repeat' first|exact n0|refine n1 fun _=>?_|refine n2 ?_ ?_|refine n3 (fun _=>?_) fun _=>?_|rfl
theorem gs4(c_letter c_digit)(c_spanN c_word)(c_lnum c_lsym)(l_Tokens_l0)(x):f7 E5 (ftb 48 eE xF c_letter (ftb 50 cO rM c_digit (ftg 46 (fun a _=>fx8 (a.getD 1 .junk)==47) oV aw0 c_spanN (ftb 49 wJ bs6 c_word (ftb 51 wN br1 c_lnum (ftb 52 xM bp1 c_lsym ca0)))))) (lt3 0 (fun _=>true) (b5 E5 20 0) (fF x) (nO x) l_Tokens_l0 lo0) 20 (cr1 x).1 (cr1 x).2 K=aa3 (vf eE c_letter) (vf cO c_digit) (vf oV c_spanN) (vf wJ c_word) (vf wN c_lnum) (vf xM c_lsym) (lf (b5 E5 20 0) (fF x) l_Tokens_l0) x (fun z=>some (.c (dx0 z))):=by kernel_rfl
noncomputable def ey7(q:Nat)(x:gJ):Option an4:=aa3 (pW q) (oZ q) (am2 q) (word q) (ci2 q) (cm9 q) (pO (pW q) (oZ q) (am2 q) (word q) (ci2 q) (cm9 q) q x) x some
theorem fs9(q:Nat):Lw E5 20 cr1 dx0 (ey7 q):=sof hW5 hX5 (fk (bo2 q) (fk (al5 q) (fk (ds6 q) (fk (fn3 q) (fk (fi6 q) (fk (fl4 q) a8)))))) (fun x=>(lk3 (ed3 (pW q) (bo2 q) (oZ q) (al5 q) (am2 q) (ds6 q) (word q) (fn3 q) (ci2 q) (fi6 q) (cm9 q) (fl4 q) q x) b6)) fun x=>(gs4 (pW q) (oZ q) (am2 q) (word q) (ci2 q) (cm9 q) (pO (pW q) (oZ q) (am2 q) (word q) (ci2 q) (cm9 q) q x) x).trans (by rw[bm3,ax3,dm1,ex7,eu6,es6,eb9,gt0]<;>rfl)
end Go.Proofs.YtjfkkokeegpeiaaGreatDoor
/- The reference's parser, lifted. -/
namespace Go.Proofs.YtjfkkokeegpeiaaGreatDoor
open Go Go.Am Go.Proofs
set_option maxRecDepth 100000
noncomputable def E7:Env:={E5 with allR:=true}
abbrev dp1:Type:=ByteArray
abbrev do7:Type:=Int×Int×Int×Int×Int×Int×Bool
def hh3{β:Type}(x:dp1)(dn:do7→Option β):Option β:=
 if(x.toList==ByteArray.toList ⟨#[74]⟩)=true then dn (1,0,0,0,0,1,true)else if(x.toList==ByteArray.toList ⟨#[107,74]⟩)=true then dn (1,0,0,0,0,1000,true)else if(x.toList==ByteArray.toList ⟨#[87,104]⟩)=true then dn (1,0,0,0,0,3600,true)else if(x.toList==ByteArray.toList ⟨#[66]⟩)=true then dn (0,1,0,0,0,1,true)else if(x.toList==ByteArray.toList ⟨#[107,66]⟩)=true then dn (0,1,0,0,0,1000,true)else if(x.toList==ByteArray.toList ⟨#[115]⟩)=true then dn (0,0,1,0,0,1,true)else if(x.toList==ByteArray.toList ⟨#[109,105,110]⟩)=true then dn (0,0,1,0,0,60,true)else if(x.toList==ByteArray.toList ⟨#[104]⟩)=true then dn (0,0,1,0,0,3600,true)else if(x.toList==ByteArray.toList ⟨#[100,101,103]⟩)=true then dn (0,0,0,1,0,1,true)else if(x.toList==ByteArray.toList ⟨#[75]⟩)=true then dn (0,0,0,0,1,1,true)else if(x.toList==ByteArray.toList ⟨#[87]⟩)=true then dn (1,0,(-1),0,0,1,true)else if(x.toList==ByteArray.toList ⟨#[107,87]⟩)=true then dn (1,0,(-1),0,0,1000,true)else if(x.toList==ByteArray.toList ⟨#[66,112,115]⟩)=true then dn (0,1,(-1),0,0,1,true)else dn (0,0,0,0,0,0,false)
noncomputable def ij8(q:Nat)(x:dp1):Option do7:=hh3 x some
abbrev fg7:Type:=Int×Int×ByteArray×Int
abbrev fl3:Type:=Bool
def hm6{β:Type}(c_RLook:dp1→Option do7)(x:fg7)(dn:fl3→Option β):Option β:=
 (c_RLook x.2.2.1).bind fun z1=>if(x.1==1)=true then dn z1.2.2.2.2.2.2 else dn false
noncomputable def ij5(q:Nat)(x:fg7):Option fl3:=hm6 (ij8 q) x some
abbrev fn7:Type:=Int×SR
abbrev aF:Type:=SR
def de6{β:Type}(x:fn7)(dn:aF→Option β):Option β:=
 if(x.2.2.2.1==0)=true then if 0≤x.2.1∧x.2.1< ((x.2.2.2.2.2.1:Nat):Int)then dn (x.2.1,x.2.2.1,x.1,x.2.2.2.2.2.2.2.1 (Int.toNat x.2.1),x.2.2.2.2.2)else none else dn x.2
noncomputable def dd0(q:Nat)(x:fn7):Option aF:=de6 x some
abbrev gj6:Type:=ByteArray×SR
abbrev gi9:Type:=Bool×SR
def il0{β:Type}(x:gj6)(dn:gi9→Option β):Option β:=
 if(x.2.2.2.1==0)=true then if 0≤x.2.1∧x.2.1< ((x.2.2.2.2.2.1:Nat):Int)then dn (ByteArray.toList (x.2.2.2.2.2.2.2.2.1 (Int.toNat x.2.1))==x.1.toList,x.2)else none else dn (false,x.2)
noncomputable def ris(q:Nat)(x:gj6):Option gi9:=il0 x some
abbrev dh1:Type:=ByteArray×SR
abbrev df6:Type:=Bool×SR
def gz9{β:Type}(c_ris:gj6→Option gi9)(x:dh1)(dn:df6→Option β):Option β:=
 (c_ris x).bind fun z12=>if(!z12.1)=true then dn (false,z12.2)else dn (true,w (z12.2.1+1),z12.2.2)
noncomputable def ik9(q:Nat)(x:dh1):Option df6:=gz9 (ris q) x some
abbrev aq7:Type:=Int
abbrev ak6:Type:=(ByteArray)⊕(ByteArray×ByteArray)⊕(ByteArray×ByteArray×ByteArray×ByteArray×ByteArray×ByteArray)
def dr7{β:Type}(x:aq7)(dn:ak6→Option β):Option β:=
 if(x==1)=true then dn (.inl (⟨#[124,124]⟩))else if(x==2)=true then dn (.inl (⟨#[38,38]⟩))else if(x==4)=true then dn (.inr (.inr (⟨#[60]⟩,⟨#[60,61]⟩,⟨#[62]⟩,⟨#[62,61]⟩,⟨#[61,61]⟩,⟨#[33,61]⟩)))else if(x==5)=true then dn (.inr (.inl (⟨#[43]⟩,⟨#[45]⟩)))else dn (.inr (.inl (⟨#[42]⟩,⟨#[47]⟩)))
noncomputable def fq4(q:Nat)(x:aq7):Option ak6:=dr7 x some
abbrev co1:Type:=Int×SR
abbrev cm2:Type:=ByteArray×SR
def ev1{β:Type}(c_operators:aq7→Option ak6)(c_rtake:dh1→Option df6)(x:co1)(dn:cm2→Option β):Option β:=
 (c_operators x.1).bind fun z1=>Sum.elim (fun z1a=>(c_rtake (z1a,x.2)).bind fun z14=>if z14.1=true then dn (z1a,z14.2)else dn (⟨#[]⟩,z14.2)) (fun z1b=>Sum.elim (fun z1ba=>(c_rtake (if 0=0 then z1ba.1 else z1ba.2,x.2)).bind fun z28=>if z28.1=true then dn (if 0=0 then z1ba.1 else z1ba.2,z28.2)else(c_rtake (if 1=0 then z1ba.1 else z1ba.2,z28.2)).bind fun z41=>if z41.1=true then dn (if 1=0 then z1ba.1 else z1ba.2,z41.2)else dn (⟨#[]⟩,z41.2)) (fun z1bb=>(c_rtake (if 0=0 then z1bb.1 else if 0=0 then z1bb.2.1 else if 0=0 then z1bb.2.2.1 else if 0=0 then z1bb.2.2.2.1 else if 0=0 then z1bb.2.2.2.2.1 else z1bb.2.2.2.2.2,x.2)).bind fun z55=>if z55.1=true then dn (if 0=0 then z1bb.1 else if 0=0 then z1bb.2.1 else if 0=0 then z1bb.2.2.1 else if 0=0 then z1bb.2.2.2.1 else if 0=0 then z1bb.2.2.2.2.1 else z1bb.2.2.2.2.2,z55.2)else(c_rtake (if 1=0 then z1bb.1 else if 0=0 then z1bb.2.1 else if 0=0 then z1bb.2.2.1 else if 0=0 then z1bb.2.2.2.1 else if 0=0 then z1bb.2.2.2.2.1 else z1bb.2.2.2.2.2,z55.2)).bind fun z68=>if z68.1=true then dn (if 1=0 then z1bb.1 else if 0=0 then z1bb.2.1 else if 0=0 then z1bb.2.2.1 else if 0=0 then z1bb.2.2.2.1 else if 0=0 then z1bb.2.2.2.2.1 else z1bb.2.2.2.2.2,z68.2)else(c_rtake (if 2=0 then z1bb.1 else if 1=0 then z1bb.2.1 else if 0=0 then z1bb.2.2.1 else if 0=0 then z1bb.2.2.2.1 else if 0=0 then z1bb.2.2.2.2.1 else z1bb.2.2.2.2.2,z68.2)).bind fun z81=>if z81.1=true then dn (if 2=0 then z1bb.1 else if 1=0 then z1bb.2.1 else if 0=0 then z1bb.2.2.1 else if 0=0 then z1bb.2.2.2.1 else if 0=0 then z1bb.2.2.2.2.1 else z1bb.2.2.2.2.2,z81.2)else(c_rtake (if 3=0 then z1bb.1 else if 2=0 then z1bb.2.1 else if 1=0 then z1bb.2.2.1 else if 0=0 then z1bb.2.2.2.1 else if 0=0 then z1bb.2.2.2.2.1 else z1bb.2.2.2.2.2,z81.2)).bind fun z94=>if z94.1=true then dn (if 3=0 then z1bb.1 else if 2=0 then z1bb.2.1 else if 1=0 then z1bb.2.2.1 else if 0=0 then z1bb.2.2.2.1 else if 0=0 then z1bb.2.2.2.2.1 else z1bb.2.2.2.2.2,z94.2)else(c_rtake (if 4=0 then z1bb.1 else if 3=0 then z1bb.2.1 else if 2=0 then z1bb.2.2.1 else if 1=0 then z1bb.2.2.2.1 else if 0=0 then z1bb.2.2.2.2.1 else z1bb.2.2.2.2.2,z94.2)).bind fun z107=>if z107.1=true then dn (if 4=0 then z1bb.1 else if 3=0 then z1bb.2.1 else if 2=0 then z1bb.2.2.1 else if 1=0 then z1bb.2.2.2.1 else if 0=0 then z1bb.2.2.2.2.1 else z1bb.2.2.2.2.2,z107.2)else(c_rtake (if 5=0 then z1bb.1 else if 4=0 then z1bb.2.1 else if 3=0 then z1bb.2.2.1 else if 2=0 then z1bb.2.2.2.1 else if 1=0 then z1bb.2.2.2.2.1 else z1bb.2.2.2.2.2,z107.2)).bind fun z120=>if z120.1=true then dn (if 5=0 then z1bb.1 else if 4=0 then z1bb.2.1 else if 3=0 then z1bb.2.2.1 else if 2=0 then z1bb.2.2.2.1 else if 1=0 then z1bb.2.2.2.2.1 else z1bb.2.2.2.2.2,z120.2)else dn (⟨#[]⟩,z120.2)) z1b) z1
noncomputable def ii8(q:Nat)(x:co1):Option cm2:=ev1 (fq4 q) (ik9 q) x some
end Go.Proofs.YtjfkkokeegpeiaaGreatDoor
/- The reference's parser of trees, lifted. -/
namespace Go.Proofs.YtjfkkokeegpeiaaGreatDoor
open Go Go.Am Go.Proofs
set_option maxRecDepth 100000
theorem un7{f:FuncId}{args:List V}{L:List (Option Chunk)}{cr:CRes}(h:SC E7 f args L cr)(hr:Nat.ble (bM false (hp L) args).length (bM true (hp L) args).length=true):SC E5 f args L cr:=by
 refine⟨h.1,fun β S w us h1 h2 h3=>(h.2 β S w us h1 h2 ⟨h3.rd,h3.inv⟩).mono ?_⟩
 intro e w' hp'
 cases cr with
 |ret v L'=>
  obtain⟨u,β',S',g0,g1,g2,g3,g4⟩:=hp'
  exact⟨u,β',S',g0,g1,g2,g3,fun i bm hi hb=>g4 i bm (Nat.lt_of_lt_of_le hi (Nat.le_of_ble_eq_true hr)) hb⟩
 |pan v=>exact hp'
abbrev cz2:Type:=Int×Int×Int×ByteArray×Nat×FL
abbrev da8:Type:=Int×Int×Int×ByteArray×Nat×FL
def ck7:AR cz2:=fun x=>([i64 x.1,.agg [i64 x.2.1,i64 x.2.2.1,st x.2.2.2.1,.ro 4 x.2.2.2.2.1 x.2.2.2.2.2]],[])
def ij6(t:TT):cz2:=((vI (ag t 0)),vI (ca t 1 0),vI (ca t 1 1),vS (ca t 1 2),u7 (ca t 1 3),iU (ca t 1 3))
theorem if5:VI ck7:=vd ij6 fun _=>rfl
def fg8:da8→CRes:=fun z=>.ret (.agg [i64 z.1,i64 0,st ⟨#[]⟩,.sl 0 4 0 1]) [some (.row 35 4 1 (gP [[i64 z.2.1,i64 z.2.2.1,st z.2.2.2.1,.ro 4 z.2.2.2.2.1 z.2.2.2.2.2]]))]
def cz8{β:Type}(x:cz2)(dn:da8→Option β):Option β:=
 dn x
theorem ig9{β:Type}(x)(dn:da8→Option β):cz8 x dn=(cz8 x some).bind dn:=by
 unfold cz8
 repeat' first|exact n0|refine n1 fun _=>?_|refine n2 ?_ ?_|refine n3 (fun _=>?_) fun _=>?_|rfl
theorem ii4(x):f7 E5 ca0 lo0 99 (ck7 x).1 (ck7 x).2 K=cz8 x (fun z=>some (.c (fg8 z))):=by kernel_rfl
noncomputable def one(q:Nat)(x:cz2):Option da8:=cz8 x some
theorem hw7(q:Nat):Lw E5 99 ck7 fg8 (one q):=sof hW5 hX5 a8 (fun _=>b6) fun x=>(ii4 x).trans (by rw[ig9]<;>rfl)
end Go.Proofs.YtjfkkokeegpeiaaGreatDoor
/- Same, SameAll, Expr, lifted. -/
namespace Go.Proofs.YtjfkkokeegpeiaaGreatDoor
open Go Go.Am Go.Proofs
set_option maxRecDepth 100000
def opK(f:Nat→List V)(j:Nat):Int:=vI ((f j).getD 0 .junk)
def opN(f:Nat→List V)(j:Nat):Int:=vI ((f j).getD 1 .junk)
def opS(f:Nat→List V)(j:Nat):ByteArray:=vS ((f j).getD 2 .junk)
def opM(f:Nat→List V)(j:Nat):Nat:=u7 ((f j).getD 3 .junk)
def opF(f:Nat→List V)(j:Nat):Nat→List V:=iU ((f j).getD 3 .junk)
def xW(f:Nat→List V):Prop:=∀j,f j=[i64 (opK f j),i64 (opN f j),st (opS f j),.ro 4 (opM f j) (opF f j)]
theorem cV{f:Nat→List V}(h:xW f):(fun j=>[i64 (opK f j),i64 (opN f j),st (opS f j),.ro 4 (opM f j) (opF f j)])=f:=funext fun j=>(h j).symm
abbrev dn0:Type:=Int×Int×ByteArray×Nat×FL×Int×Int×ByteArray×Nat×FL
abbrev dk5:Type:=Bool
def in2:AR dn0:=fun x=>([.agg [i64 x.1,i64 x.2.1,st x.2.2.1,.ro 4 x.2.2.2.1 x.2.2.2.2.1],.agg [i64 x.2.2.2.2.2.1,i64 x.2.2.2.2.2.2.1,st x.2.2.2.2.2.2.2.1,.ro 4 x.2.2.2.2.2.2.2.2.1 x.2.2.2.2.2.2.2.2.2]],[])
def jc6(t:TT):dn0:=((vI (ca t 0 0)),vI (ca t 0 1),vS (ca t 0 2),u7 (ca t 0 3),iU (ca t 0 3),vI (ca t 1 0),vI (ca t 1 1),vS (ca t 1 2),u7 (ca t 1 3),iU (ca t 1 3))
theorem ir5:VI in2:=vd jc6 fun _=>rfl
def io9:dk5→CRes:=fun z=>.ret (bo z) []
abbrev dl3:Type:=Int×Int×ByteArray×Nat×FI×FI×FS×FN×FM×Int×Int×ByteArray×Nat×FI×FI×FS×FN×FM
abbrev gy9:Type:=Bool
def ir2:AR dl3:=fun x=>([.agg [i64 x.1,i64 x.2.1,st x.2.2.1,.ro 4 x.2.2.2.1 (fun j=>[i64 (x.2.2.2.2.1 j),i64 (x.2.2.2.2.2.1 j),st (x.2.2.2.2.2.2.1 j),.ro 4 (x.2.2.2.2.2.2.2.1 j) (x.2.2.2.2.2.2.2.2.1 j)])],.agg [i64 x.2.2.2.2.2.2.2.2.2.1,i64 x.2.2.2.2.2.2.2.2.2.2.1,st x.2.2.2.2.2.2.2.2.2.2.2.1,.ro 4 x.2.2.2.2.2.2.2.2.2.2.2.2.1 (fun j=>[i64 (x.2.2.2.2.2.2.2.2.2.2.2.2.2.1 j),i64 (x.2.2.2.2.2.2.2.2.2.2.2.2.2.2.1 j),st (x.2.2.2.2.2.2.2.2.2.2.2.2.2.2.2.1 j),.ro 4 (x.2.2.2.2.2.2.2.2.2.2.2.2.2.2.2.2.1 j) (x.2.2.2.2.2.2.2.2.2.2.2.2.2.2.2.2.2 j)])]],[])
def ix5:gy9→CRes:=fun z=>.ret (bo z) []
abbrev af2:Type:=Int
abbrev bd9:Type:=(Unit)⊕(Unit)
def io0(x:dl3)(y:af2):St:={fr:=[V.junk,V.junk,V.ptr 0 0,V.ptr 1 0,V.junk,i64 y]++jk 47,H:=hp [some (Chunk.blk [i64 x.1,i64 x.2.1,st x.2.2.1,V.ro 4 x.2.2.2.1 fun j=>[i64 (x.2.2.2.2.1 j),i64 (x.2.2.2.2.2.1 j),st (x.2.2.2.2.2.2.1 j),V.ro 4 (x.2.2.2.2.2.2.2.1 j) (x.2.2.2.2.2.2.2.2.1 j)]]),some (Chunk.blk [i64 x.2.2.2.2.2.2.2.2.2.1,i64 x.2.2.2.2.2.2.2.2.2.2.1,st x.2.2.2.2.2.2.2.2.2.2.2.1,V.ro 4 x.2.2.2.2.2.2.2.2.2.2.2.2.1 fun j=>[i64 (x.2.2.2.2.2.2.2.2.2.2.2.2.2.1 j),i64 (x.2.2.2.2.2.2.2.2.2.2.2.2.2.2.1 j),st (x.2.2.2.2.2.2.2.2.2.2.2.2.2.2.2.1 j),V.ro 4 (x.2.2.2.2.2.2.2.2.2.2.2.2.2.2.2.2.1 j) (x.2.2.2.2.2.2.2.2.2.2.2.2.2.2.2.2.2 j)]])],nx:=2,rt:=0,me:=19}
def iv6(s:St):af2:=(vI (s.fr.getD 5 .junk))
theorem iw1(x:dl3):VL (io0 x):=vl iv6 fun _=>rfl
def ip1(x:dl3):bd9→Ex×St:=(Sum.elim (fun z=>(Ex.ret,{fr:=jk 4++[bo false]++jk 48,H:=hp [],nx:=0,rt:=0,me:=19})) (fun z=>(Ex.exit 0,{fr:=[V.junk]++jk 52,H:=hp [],nx:=0,rt:=0,me:=19})))
def ey1{β:Type}(c_Same:dn0→Option dk5)(x:dl3)(y:af2)(nx:af2→Option β)(dn:bd9→Option β):Option β:=
 if decide (y< ((x.2.2.2.1:Nat):Int))=true then if 0≤y∧y< ((x.2.2.2.1:Nat):Int)then if 0≤y∧y< ((x.2.2.2.2.2.2.2.2.2.2.2.2.1:Nat):Int)then(c_Same (x.2.2.2.2.1 (Int.toNat y),x.2.2.2.2.2.1 (Int.toNat y),x.2.2.2.2.2.2.1 (Int.toNat y),x.2.2.2.2.2.2.2.1 (Int.toNat y),x.2.2.2.2.2.2.2.2.1 (Int.toNat y),x.2.2.2.2.2.2.2.2.2.2.2.2.2.1 (Int.toNat y),x.2.2.2.2.2.2.2.2.2.2.2.2.2.2.1 (Int.toNat y),x.2.2.2.2.2.2.2.2.2.2.2.2.2.2.2.1 (Int.toNat y),x.2.2.2.2.2.2.2.2.2.2.2.2.2.2.2.2.1 (Int.toNat y),x.2.2.2.2.2.2.2.2.2.2.2.2.2.2.2.2.2 (Int.toNat y))).bind fun z57=>if(!z57)=true then dn (.inl ())else nx (w (y+1))else none else none else dn (.inr ())
theorem iv3{β:Type}(c_Same)(x)(y)(nx:af2→Option β)(dn):ey1 c_Same x y nx dn=(ey1 c_Same x y (fun y=>some (.inl y)) (fun z=>some (.inr z))).bind fun r=>Sum.elim nx dn r:=by
 unfold ey1
 repeat' first|exact n0|refine n1 fun _=>?_|refine n2 ?_ ?_|refine n3 (fun _=>?_) fun _=>?_|rfl
theorem iw0(c_Same)(x)(y)(lo:f5):n8 E5 (ftb 19 in2 io9 c_Same ca0) lo 0 44 (b5 E5 19 0) (io0 x y) (KCM [(0,0)] 16)=ey1 (vf in2 c_Same) x y (fun y=>lo 0 44 (b5 E5 19 0) (io0 x y) (KCM [(0,0)] 16)) (fun z=>some (.l (ip1 x z).1 (ip1 x z).2)):=by kernel_rfl
noncomputable def gi7(c_Same:dn0→Option dk5)(q:Nat)(x:dl3):af2→Option bd9:=lpG (fun y=>ey1 c_Same x y (fun y=>some (.inl y)) (fun z=>some (.inr z))) q
theorem iv4(c_Same)(h_Same:Lw E5 19 in2 io9 c_Same)(q:Nat)(x:dl3):Ll E5 (b5 E5 19 0) (io0 x) (ip1 x) (gi7 c_Same q x):=
 slp (fk h_Same a8) hX5 (fun lo y=>(iw0 c_Same x y lo).trans (by rw[ir5];exact iv3 _ _ _ _ _)) (fun z=>by rcases z with z|z<;>kernel_rfl) q
def he4{β:Type}(c_Same:dn0→Option dk5)(l_SameN_l0:af2→Option bd9)(x:dl3)(dn:gy9→Option β):Option β:=
 if(x.1 !=x.2.2.2.2.2.2.2.2.2.1)=true then dn false else if(x.2.1 !=x.2.2.2.2.2.2.2.2.2.2.1)=true then dn false else if(!x.2.2.1.toList==x.2.2.2.2.2.2.2.2.2.2.2.1.toList)=true then dn false else if(((x.2.2.2.1:Nat):Int)!=((x.2.2.2.2.2.2.2.2.2.2.2.2.1:Nat):Int))=true then dn false else(l_SameN_l0 (0)).bind fun z25=>Sum.elim (fun z25a=>dn false) (fun z25b=>dn true) z25
theorem jb3{β:Type}(c_Same)(l_SameN_l0)(x)(dn:gy9→Option β):he4 c_Same l_SameN_l0 x dn=(he4 c_Same l_SameN_l0 x some).bind dn:=by
 unfold he4
 repeat' first|exact n0|refine n1 fun _=>?_|refine n2 ?_ ?_|refine n3 (fun _=>?_) fun _=>?_|rfl
theorem jb0(c_Same)(l_SameN_l0)(x):f7 E5 (ftb 19 in2 io9 c_Same ca0) (lt2 0 (fun _=>true) (b5 E5 19 0) (io0 x) (ip1 x) l_SameN_l0 lo0) 19 (ir2 x).1 (ir2 x).2 K=he4 (vf in2 c_Same) (lf (b5 E5 19 0) (io0 x) l_SameN_l0) x (fun z=>some (.c (ix5 z))):=by kernel_rfl
theorem jb8(c_Same)(h_Same:Lw E5 19 in2 io9 c_Same)(q:Nat):Lw E5 19 ir2 ix5 fun x=>he4 c_Same (gi7 c_Same q x) x some:=sof hW5 hX5 (fk h_Same a8) (fun x=>(lk2 (iv4 c_Same h_Same q x) b6)) fun x=>(jb0 c_Same (gi7 c_Same q x) x).trans (by rw[ir5,iw1,jb3]<;>rfl)
open Classical in
noncomputable def Same:Nat→dn0→Option dk5
 |0,_=>none
 |q+1,x=>if xW x.2.2.2.2.1∧xW x.2.2.2.2.2.2.2.2.2 then he4 (Same q) (gi7 (Same q) q (x.1,x.2.1,x.2.2.1,x.2.2.2.1,opK x.2.2.2.2.1,opN x.2.2.2.2.1,opS x.2.2.2.2.1,opM x.2.2.2.2.1,opF x.2.2.2.2.1,x.2.2.2.2.2.1,x.2.2.2.2.2.2.1,x.2.2.2.2.2.2.2.1,x.2.2.2.2.2.2.2.2.1,opK x.2.2.2.2.2.2.2.2.2,opN x.2.2.2.2.2.2.2.2.2,opS x.2.2.2.2.2.2.2.2.2,opM x.2.2.2.2.2.2.2.2.2,opF x.2.2.2.2.2.2.2.2.2)) (x.1,x.2.1,x.2.2.1,x.2.2.2.1,opK x.2.2.2.2.1,opN x.2.2.2.2.1,opS x.2.2.2.2.1,opM x.2.2.2.2.1,opF x.2.2.2.2.1,x.2.2.2.2.2.1,x.2.2.2.2.2.2.1,x.2.2.2.2.2.2.2.1,x.2.2.2.2.2.2.2.2.1,opK x.2.2.2.2.2.2.2.2.2,opN x.2.2.2.2.2.2.2.2.2,opS x.2.2.2.2.2.2.2.2.2,opM x.2.2.2.2.2.2.2.2.2,opF x.2.2.2.2.2.2.2.2.2) some else none
theorem iw4:∀q x z,Same q x=some z→SC E5 19 (in2 x).1 (in2 x).2 (io9 z):=by
 intro q
 induction q with
 |zero=>intro x z h;cases h
 |succ q ih=>
  intro x z h
  unfold Same at h
  split at h
  ·rename_i hO
   have this:=jb8 (Same q) ih q (x.1,x.2.1,x.2.2.1,x.2.2.2.1,opK x.2.2.2.2.1,opN x.2.2.2.2.1,opS x.2.2.2.2.1,opM x.2.2.2.2.1,opF x.2.2.2.2.1,x.2.2.2.2.2.1,x.2.2.2.2.2.2.1,x.2.2.2.2.2.2.2.1,x.2.2.2.2.2.2.2.2.1,opK x.2.2.2.2.2.2.2.2.2,opN x.2.2.2.2.2.2.2.2.2,opS x.2.2.2.2.2.2.2.2.2,opM x.2.2.2.2.2.2.2.2.2,opF x.2.2.2.2.2.2.2.2.2) z h
   unfold ir2 at this
   unfold in2
   simp only at this⊢
   rw[cV hO.1,cV hO.2]at this
   exact this
  ·cases h
abbrev cj0:Type:=Int
abbrev dn8:Type:=ByteArray
def al2:AR cj0:=fun x=>([i64 x],[])
def id1(t:TT):cj0:=(vI (ag t 0))
theorem gi5:VI al2:=vd id1 fun _=>rfl
def cp9:dn8→CRes:=fun z=>.ret (st z) []
noncomputable def bz2(q:Nat)(x:cj0):Option dn8:=if-9223372036854775808≤x∧x≤9223372036854775807 then some ⟨(Lib.itoa x).toArray⟩else none
theorem fm3(q:Nat):Lw E5 41 al2 cp9 (bz2 q):=by
 intro n z h
 unfold bz2 at h
 split at h
 ·rename_i hn
  cases h
  exact sc5.2 (SC.ext hX (by
   show bz9 41 [i64 n]=_
   simp only[bz9,if_pos,i64]
   exact if_pos hn))
 ·cases h
abbrev at1:Type:=Int×Int×ByteArray×Nat×FL
abbrev at7:Type:=Int
def rK:AR at1:=fun x=>([.agg [i64 x.1,i64 x.2.1,st x.2.2.1,.ro 4 x.2.2.2.1 x.2.2.2.2]],[])
def hj6(t:TT):at1:=((vI (ca t 0 0)),vI (ca t 0 1),vS (ca t 0 2),u7 (ca t 0 3),iU (ca t 0 3))
theorem ff7:VI rK:=vd hj6 fun _=>rfl
def aw3:at7→CRes:=fun z=>.ret (i64 z) []
def ax6{β:Type}(c_levelOf:lA→Option jZ)(x:at1)(dn:at7→Option β):Option β:=
 if(x.1==20)=true then(c_levelOf x.2.2.1).bind fun z1=>dn z1 else if(x.1==19)=true then if(x.2.2.1.toList==ByteArray.toList ⟨#[33]⟩)=true then dn (3)else if(x.1==19)=true then dn (7)else dn (8)else if(x.1==19)=true then dn (7)else dn (8)
theorem hl3{β:Type}(c_levelOf)(x)(dn:at7→Option β):ax6 c_levelOf x dn=(ax6 c_levelOf x some).bind dn:=by
 unfold ax6
 repeat' first|exact n0|refine n1 fun _=>?_|refine n2 ?_ ?_|refine n3 (fun _=>?_) fun _=>?_|rfl
theorem hg8(c_levelOf)(x):f7 E5 (ftb 78 aX nU c_levelOf ca0) lo0 40 (rK x).1 (rK x).2 K=ax6 (vf aX c_levelOf) x (fun z=>some (.c (aw3 z))):=by kernel_rfl
noncomputable def tN(q:Nat)(x:at1):Option at7:=ax6 (oF q) x some
theorem en1(q:Nat):Lw E5 40 rK aw3 (tN q):=sof hW5 hX5 (fk (co5 q) a8) (fun _=>b6) fun x=>(hg8 (oF q) x).trans (by rw[as7,hl3]<;>rfl)
abbrev cj4:Type:=Int×Int×ByteArray×Nat×FL
abbrev dj3:Type:=ByteArray
def ae4:AR cj4:=fun x=>([.agg [i64 x.1,i64 x.2.1,st x.2.2.1,.ro 4 x.2.2.2.1 x.2.2.2.2]],[])
def ib5(t:TT):cj4:=((vI (ca t 0 0)),vI (ca t 0 1),vS (ca t 0 2),u7 (ca t 0 3),iU (ca t 0 3))
theorem ib1:VI ae4:=vd ib5 fun _=>rfl
def dd4:dj3→CRes:=fun z=>.ret (st z) []
abbrev ac5:Type:=Int×Int×ByteArray×Nat×FL×Int
abbrev av1:Type:=ByteArray
def vG:AR ac5:=fun x=>([.agg [i64 x.1,i64 x.2.1,st x.2.2.1,.ro 4 x.2.2.2.1 x.2.2.2.2.1],i64 x.2.2.2.2.2],[])
def fz6(t:TT):ac5:=((vI (ca t 0 0)),vI (ca t 0 1),vS (ca t 0 2),u7 (ca t 0 3),iU (ca t 0 3),vI (ag t 1))
theorem fx7:VI vG:=vd fz6 fun _=>rfl
def bt0:av1→CRes:=fun z=>.ret (st z) []
abbrev cl4:Type:=Int×Int×ByteArray×Nat×FL×Int
abbrev bd2:Type:=ByteArray
def bb8:AR cl4:=fun x=>([.agg [i64 x.1,i64 x.2.1,st x.2.2.1,.ro 4 x.2.2.2.1 x.2.2.2.2.1],i64 x.2.2.2.2.2],[])
def cm1:bd2→CRes:=fun z=>.ret (st z) []
abbrev fm6:Type:=Int×Int×ByteArray×Nat×FI×FI×FS×FN×FM
abbrev dl0:Type:=ByteArray
def cd6:AR fm6:=fun x=>([.agg [i64 x.1,i64 x.2.1,st x.2.2.1,.ro 4 x.2.2.2.1 (fun j=>[i64 (x.2.2.2.2.1 j),i64 (x.2.2.2.2.2.1 j),st (x.2.2.2.2.2.2.1 j),.ro 4 (x.2.2.2.2.2.2.2.1 j) (x.2.2.2.2.2.2.2.2 j)])]],[])
def fl6:dl0→CRes:=fun z=>.ret (st z) []
def iR{β:Type}(c_level:at1→Option at7)(c_Expr:cj4→Option dj3)(x:cl4)(dn:bd2→Option β):Option β:=
 (c_level (x.1,x.2.1,x.2.2.1,x.2.2.2.1,x.2.2.2.2.1)).bind fun z5=>if decide (z5<x.2.2.2.2.2)=true then(c_Expr (x.1,x.2.1,x.2.2.1,x.2.2.2.1,x.2.2.2.2.1)).bind fun z11=>if 1+z11.size≤maxLen then if ByteArray.size (⟨#[40]⟩++z11)+1≤maxLen then dn (⟨#[40]⟩++z11++⟨#[41]⟩)else none else none else(c_Expr (x.1,x.2.1,x.2.2.1,x.2.2.2.1,x.2.2.2.2.1)).bind fun z17=>dn z17
theorem fa8{β:Type}(c_level c_Expr)(x)(dn:bd2→Option β):iR c_level c_Expr x dn=(iR c_level c_Expr x some).bind dn:=by
 unfold iR
 repeat' first|exact n0|refine n1 fun _=>?_|refine n2 ?_ ?_|refine n3 (fun _=>?_) fun _=>?_|rfl
theorem fc6(c_level c_Expr)(x):f7 E5 (ftb 40 rK aw3 c_level (ftb 16 ae4 dd4 c_Expr ca0)) lo0 43 (bb8 x).1 (bb8 x).2 K=iR (vf rK c_level) (vf ae4 c_Expr) x (fun z=>some (.c (cm1 z))):=by kernel_rfl
theorem ev2(c_level)(h_level:Lw E5 40 rK aw3 c_level)(c_Expr)(h_Expr:Lw E5 16 ae4 dd4 c_Expr)(q:Nat):Lw E5 43 bb8 cm1 fun x=>iR c_level c_Expr x some:=sof hW5 hX5 (fk h_level (fk h_Expr a8)) (fun _=>b6) fun x=>(fc6 c_level c_Expr x).trans (by rw[ff7,ib1,fa8]<;>rfl)
def lZ{β:Type}(c_level:at1→Option at7)(c_Itoa:cj0→Option dn8)(c_operand:ac5→Option av1)(x:fm6)(dn:dl0→Option β):Option β:=
 (c_level (x.1,x.2.1,x.2.2.1,x.2.2.2.1,fun j=>[i64 (x.2.2.2.2.1 j),i64 (x.2.2.2.2.2.1 j),st (x.2.2.2.2.2.2.1 j),V.ro 4 (x.2.2.2.2.2.2.2.1 j) (x.2.2.2.2.2.2.2.2 j)])).bind fun z5=>if(x.1==15)=true then if(x.2.2.1.toList==ByteArray.toList ⟨#[]⟩)=true then(c_Itoa x.2.1).bind fun z7=>dn z7 else(c_Itoa x.2.1).bind fun z9=>if z9.size+1≤maxLen then if ByteArray.size (z9++⟨#[32]⟩)+x.2.2.1.size≤maxLen then dn (z9++⟨#[32]⟩++x.2.2.1)else none else none else if(x.1==16)=true then if(x.2.1==1)=true then dn (⟨#[116,114,117,101]⟩)else dn (⟨#[102,97,108,115,101]⟩)else if(x.1==17)=true then dn x.2.2.1 else if(x.1==18)=true then if 4+x.2.2.1.size≤maxLen then dn (⟨#[116,108,109,46]⟩++x.2.2.1)else none else if(x.1==19)=true then if(0:Int)≤0∧0< ((x.2.2.2.1:Nat):Int)then(c_operand (x.2.2.2.2.1 0,x.2.2.2.2.2.1 0,x.2.2.2.2.2.2.1 0,x.2.2.2.2.2.2.2.1 0,x.2.2.2.2.2.2.2.2 0,z5)).bind fun z16=>if x.2.2.1.size+z16.size≤maxLen then dn (x.2.2.1++z16)else none else none else if(z5==4)=true then if(0:Int)≤0∧0< ((x.2.2.2.1:Nat):Int)then(c_operand (x.2.2.2.2.1 0,x.2.2.2.2.2.1 0,x.2.2.2.2.2.2.1 0,x.2.2.2.2.2.2.2.1 0,x.2.2.2.2.2.2.2.2 0,5)).bind fun z23=>if z23.size+1≤maxLen then if ByteArray.size (z23++⟨#[32]⟩)+x.2.2.1.size≤maxLen then if ByteArray.size (z23++⟨#[32]⟩++x.2.2.1)+1≤maxLen then if(0:Int)≤1∧1< ((x.2.2.2.1:Nat):Int)then(c_operand (x.2.2.2.2.1 1,x.2.2.2.2.2.1 1,x.2.2.2.2.2.2.1 1,x.2.2.2.2.2.2.2.1 1,x.2.2.2.2.2.2.2.2 1,w (z5+1))).bind fun z30=>if ByteArray.size (z23++⟨#[32]⟩++x.2.2.1++⟨#[32]⟩)+z30.size≤maxLen then dn (z23++⟨#[32]⟩++x.2.2.1++⟨#[32]⟩++z30)else none else none else none else none else none else none else if(0:Int)≤0∧0< ((x.2.2.2.1:Nat):Int)then(c_operand (x.2.2.2.2.1 0,x.2.2.2.2.2.1 0,x.2.2.2.2.2.2.1 0,x.2.2.2.2.2.2.2.1 0,x.2.2.2.2.2.2.2.2 0,z5)).bind fun z37=>if z37.size+1≤maxLen then if ByteArray.size (z37++⟨#[32]⟩)+x.2.2.1.size≤maxLen then if ByteArray.size (z37++⟨#[32]⟩++x.2.2.1)+1≤maxLen then if(0:Int)≤1∧1< ((x.2.2.2.1:Nat):Int)then(c_operand (x.2.2.2.2.1 1,x.2.2.2.2.2.1 1,x.2.2.2.2.2.2.1 1,x.2.2.2.2.2.2.2.1 1,x.2.2.2.2.2.2.2.2 1,w (z5+1))).bind fun z44=>if ByteArray.size (z37++⟨#[32]⟩++x.2.2.1++⟨#[32]⟩)+z44.size≤maxLen then dn (z37++⟨#[32]⟩++x.2.2.1++⟨#[32]⟩++z44)else none else none else none else none else none else none
theorem hc6{β:Type}(c_level c_Itoa c_operand)(x)(dn:dl0→Option β):lZ c_level c_Itoa c_operand x dn=(lZ c_level c_Itoa c_operand x some).bind dn:=by
 unfold lZ
 repeat' first|exact n0|refine n1 fun _=>?_|refine n2 ?_ ?_|refine n3 (fun _=>?_) fun _=>?_|rfl
theorem hd5(c_level c_Itoa c_operand)(x):f7 E5 (ftb 40 rK aw3 c_level (ftb 41 al2 cp9 c_Itoa (ftb 43 vG bt0 c_operand (bk3 E5 20)))) lo0 16 (cd6 x).1 (cd6 x).2 K=lZ (vf rK c_level) (vf al2 c_Itoa) (vf vG c_operand) x (fun z=>some (.c (fl6 z))):=by kernel_rfl
theorem hc7(c_level)(h_level:Lw E5 40 rK aw3 c_level)(c_Itoa)(h_Itoa:Lw E5 41 al2 cp9 c_Itoa)(c_operand)(h_operand:Lw E5 43 vG bt0 c_operand)(q:Nat):Lw E5 16 cd6 fl6 fun x=>lZ c_level c_Itoa c_operand x some:=sof hW5 hX5 (fk h_level (fk h_Itoa (fk h_operand (bk1 hW5 hX5 20).1))) (fun _=>b6) fun x=>(hd5 c_level c_Itoa c_operand x).trans (by rw[ff7,gi5,fx7,hc6]<;>rfl)
open Classical in
noncomputable def exE:Nat→(cj4→Option dj3)×(ac5→Option av1)
 |0=>(fun _=>none,fun _=>none)
 |q+1=>(fun x=>if xW x.2.2.2.2 then lZ ((tN q)) ((bz2 q)) ((exE q).2) (x.1,x.2.1,x.2.2.1,x.2.2.2.1,opK x.2.2.2.2,opN x.2.2.2.2,opS x.2.2.2.2,opM x.2.2.2.2,opF x.2.2.2.2) some else none,fun x=>iR ((tN q)) ((exE q).1) x some)
theorem hs9:∀q,(∀x z,(exE q).1 x=some z→SC E5 16 (ae4 x).1 (ae4 x).2 (dd4 z))∧(∀x z,(exE q).2 x=some z→SC E5 43 (vG x).1 (vG x).2 (bt0 z)):=by
 intro q
 induction q with
 |zero=>exact⟨(fun x z h=>by cases h),(fun x z h=>by cases h)⟩
 |succ q ih=>
  obtain⟨h1,h2⟩:=ih
  refine⟨fun x z h=>?_,fun x z h=>ev2 ((tN q)) (en1 q) ((exE q).1) h1 q x z h⟩
  unfold exE at h
  dsimp only at h
  split at h
  ·rename_i hO
   have this:=hc7 ((tN q)) (en1 q) ((bz2 q)) (fm3 q) ((exE q).2) h2 q (x.1,x.2.1,x.2.2.1,x.2.2.2.1,opK x.2.2.2.2,opN x.2.2.2.2,opS x.2.2.2.2,opM x.2.2.2.2,opF x.2.2.2.2) z h
   unfold cd6 at this
   unfold ae4
   simp only at this⊢
   rw[cV hO]at this
   exact this
  ·cases h
noncomputable def Expr(q:Nat):cj4→Option dj3:=(exE q).1
noncomputable def fi7(q:Nat):ac5→Option av1:=(exE q).2
theorem gz5(q:Nat):∀x z,Expr q x=some z→SC E5 16 (ae4 x).1 (ae4 x).2 (dd4 z):=(hs9 q).1
end Go.Proofs.YtjfkkokeegpeiaaGreatDoor
/- The reference's Expr, lifted. -/
namespace Go.Proofs.YtjfkkokeegpeiaaGreatDoor
open Go Go.Am Go.Proofs
set_option maxRecDepth 100000
abbrev m6:Type:=Int
abbrev s6:Type:=ByteArray
def j3:AR m6:=fun x=>([i64 x],[])
def fy8(t:TT):m6:=(vI (ag t 0))
theorem gR:VI j3:=vd fy8 fun _=>rfl
def s7:s6→CRes:=fun z=>.ret (st z) []
abbrev fO:Type:=ByteArray×Int
abbrev tV:Type:=ByteArray
def kQ(x:m6)(y:fO):St:={fr:=[i64 x,V.junk,V.junk,st ⟨#[48,49,50,51,52,53,54,55,56,57]⟩,st y.1,i64 y.2]++jk 26,H:=hp [],nx:=0,rt:=0,me:=31}
def dk4(s:St):fO:=((vS (s.fr.getD 4 .junk)),vI (s.fr.getD 5 .junk))
theorem dh0(x:m6):VL (kQ x):=vl dk4 fun _=>rfl
def uJ(x:m6):tV→Ex×St:=(fun z=>(Ex.exit 0,{fr:=[i64 x,V.junk,V.junk,V.junk,st z]++jk 27,H:=hp [],nx:=0,rt:=0,me:=31}))
def kM{β:Type}(x:m6)(y:fO)(nx:fO→Option β)(dn:tV→Option β):Option β:=
 if(y.2 !=0)=true then if decide (Int.tmod y.2 (10:Int)<0)=true then if 0≤w (0-Int.tmod y.2 10)∧w (0-Int.tmod y.2 10)≤w (w (0-Int.tmod y.2 10)+1)∧w (w (0-Int.tmod y.2 10)+1)≤10 then if ByteArray.size (ByteArray.extract ⟨#[48,49,50,51,52,53,54,55,56,57]⟩ (Int.toNat (w (0-Int.tmod y.2 10))) (Int.toNat (w (w (0-Int.tmod y.2 10)+1))))+y.1.size≤maxLen then nx ((ByteArray.extract ⟨#[48,49,50,51,52,53,54,55,56,57]⟩ (Int.toNat (w (0-Int.tmod y.2 10))) (Int.toNat (w (w (0-Int.tmod y.2 10)+1)))++y.1,w (Int.tdiv y.2 10)))else none else none else if 0≤Int.tmod y.2 10∧Int.tmod y.2 10≤w (Int.tmod y.2 (10:Int)+1)∧w (Int.tmod y.2 (10:Int)+1)≤10 then if ByteArray.size (ByteArray.extract ⟨#[48,49,50,51,52,53,54,55,56,57]⟩ (Int.toNat (Int.tmod y.2 10)) (Int.toNat (w (Int.tmod y.2 (10:Int)+1))))+y.1.size≤maxLen then nx (ByteArray.extract ⟨#[48,49,50,51,52,53,54,55,56,57]⟩ (Int.toNat (Int.tmod y.2 10)) (Int.toNat (w (Int.tmod y.2 (10:Int)+1)))++y.1,w (Int.tdiv y.2 10))else none else none else dn y.1
theorem dh3{β:Type}(x)(y)(nx:fO→Option β)(dn):kM x y nx dn=(kM x y (fun y=>some (.inl y)) (fun z=>some (.inr z))).bind fun r=>Sum.elim nx dn r:=by
 unfold kM
 repeat' first|exact n0|refine n1 fun _=>?_|refine n2 ?_ ?_|refine n3 (fun _=>?_) fun _=>?_|rfl
theorem dp9(x)(y)(lo:f5):n8 E5 ca0 lo 0 57 (b5 E5 31 0) (kQ x y) (KCM [(0,17)] 4)=kM x y (fun y=>lo 0 57 (b5 E5 31 0) (kQ x y) (KCM [(0,17)] 4)) (fun z=>some (.l (uJ x z).1 (uJ x z).2)):=by kernel_rfl
noncomputable def iX(q:Nat)(x:m6):fO→Option tV:=lpG (fun y=>kM x y (fun y=>some (.inl y)) (fun z=>some (.inr z))) q
theorem df5(q:Nat)(x:m6):Ll E5 (b5 E5 31 0) (kQ x) (uJ x) (iX q x):=
 slp a8 hX5 (fun lo y=>(dp9 x y lo).trans (by exact dh3  _ _ _ _)) (fun _=>by kernel_rfl) q
def nQ{β:Type}(l_Decimal_l0:fO→Option tV)(x:m6)(dn:s6→Option β):Option β:=
 if(x==0)=true then dn (⟨#[48]⟩)else(l_Decimal_l0 (⟨#[]⟩,x)).bind fun z9=>if decide (x<0)=true then if 1+z9.size≤maxLen then dn (⟨#[45]⟩++z9)else none else dn z9
theorem gc4{β:Type}(l_Decimal_l0)(x)(dn:s6→Option β):nQ l_Decimal_l0 x dn=(nQ l_Decimal_l0 x some).bind dn:=by
 unfold nQ
 repeat' first|exact n0|refine n1 fun _=>?_|refine n2 ?_ ?_|refine n3 (fun _=>?_) fun _=>?_|rfl
theorem fu4(l_Decimal_l0)(x):f7 E5 ca0 (lt1 0 (fun _=>true) (b5 E5 31 0) (kQ x) (uJ x) l_Decimal_l0 lo0) 31 (j3 x).1 (j3 x).2 K=nQ (lf (b5 E5 31 0) (kQ x) l_Decimal_l0) x (fun z=>some (.c (s7 z))):=by kernel_rfl
noncomputable def f9(q:Nat)(x:m6):Option s6:=nQ (iX q x) x some
theorem wC(q:Nat):Lw E5 31 j3 s7 (f9 q):=sof hW5 hX5 a8 (fun x=>(lk1 (df5 q x) b6)) fun x=>(fu4 (iX q x) x).trans (by rw[dh0,gc4]<;>rfl)
abbrev rS:Type:=Nat×FS×FN×(Nat→Nat→ByteArray)×(Nat→Nat→ByteArray)×FI×FI×FS×FN×FM×Nat×FS×FN×(Nat→Nat→ByteArray)×(Nat→Nat→ByteArray)×FI×FI×FS×FN×FM
abbrev ip6:Type:=Bool
def iq5:AR rS:=fun x=>([.ro 6 x.1 (fun j=>[st (x.2.1 j),.ro 2 (x.2.2.1 j) (fun i=>[st (x.2.2.2.1 j i),st (x.2.2.2.2.1 j i)]),i64 (x.2.2.2.2.2.1 j),i64 (x.2.2.2.2.2.2.1 j),st (x.2.2.2.2.2.2.2.1 j),.ro 4 (x.2.2.2.2.2.2.2.2.1 j) (x.2.2.2.2.2.2.2.2.2.1 j)]),.ro 6 x.2.2.2.2.2.2.2.2.2.2.1 (fun j=>[st (x.2.2.2.2.2.2.2.2.2.2.2.1 j),.ro 2 (x.2.2.2.2.2.2.2.2.2.2.2.2.1 j) (fun i=>[st (x.2.2.2.2.2.2.2.2.2.2.2.2.2.1 j i),st (x.2.2.2.2.2.2.2.2.2.2.2.2.2.2.1 j i)]),i64 (x.2.2.2.2.2.2.2.2.2.2.2.2.2.2.2.1 j),i64 (x.2.2.2.2.2.2.2.2.2.2.2.2.2.2.2.2.1 j),st (x.2.2.2.2.2.2.2.2.2.2.2.2.2.2.2.2.2.1 j),.ro 4 (x.2.2.2.2.2.2.2.2.2.2.2.2.2.2.2.2.2.2.1 j) (x.2.2.2.2.2.2.2.2.2.2.2.2.2.2.2.2.2.2.2 j)])],[])
def is5:ip6→CRes:=fun z=>.ret (bo z) []
abbrev im7:Type:=Int×Int
abbrev io2:Type:=(Unit)⊕(Int)
def im9(x:rS)(y:im7):St:={fr:=[V.ro 6 x.1 fun j=>[st (x.2.1 j),V.ro 2 (x.2.2.1 j) fun j_1=>[st (x.2.2.2.1 j j_1),st (x.2.2.2.2.1 j j_1)],i64 (x.2.2.2.2.2.1 j),i64 (x.2.2.2.2.2.2.1 j),st (x.2.2.2.2.2.2.2.1 j),V.ro 4 (x.2.2.2.2.2.2.2.2.1 j) (x.2.2.2.2.2.2.2.2.2.1 j)],V.ro 6 x.2.2.2.2.2.2.2.2.2.2.1 fun j=>[st (x.2.2.2.2.2.2.2.2.2.2.2.1 j),V.ro 2 (x.2.2.2.2.2.2.2.2.2.2.2.2.1 j) fun j_1=>[st (x.2.2.2.2.2.2.2.2.2.2.2.2.2.1 j j_1),st (x.2.2.2.2.2.2.2.2.2.2.2.2.2.2.1 j j_1)],i64 (x.2.2.2.2.2.2.2.2.2.2.2.2.2.2.2.1 j),i64 (x.2.2.2.2.2.2.2.2.2.2.2.2.2.2.2.2.1 j),st (x.2.2.2.2.2.2.2.2.2.2.2.2.2.2.2.2.2.1 j),V.ro 4 (x.2.2.2.2.2.2.2.2.2.2.2.2.2.2.2.2.2.2.1 j) (x.2.2.2.2.2.2.2.2.2.2.2.2.2.2.2.2.2.2.2 j)],V.junk,V.junk,V.junk,i64 y.1,i64 y.2]++jk 78,H:=hp [],nx:=0,rt:=0,me:=10}
def iu0(s:St):im7:=((vI (s.fr.getD 5 .junk)),vI (s.fr.getD 6 .junk))
theorem it6(x:rS):VL (im9 x):=vl iu0 fun _=>rfl
def in4(x:rS):io2→Ex×St:=(Sum.elim (fun z=>(Ex.ret,{fr:=jk 4++[bo false]++jk 80,H:=hp [],nx:=0,rt:=0,me:=10})) (fun z=>(Ex.exit 2,{fr:=[V.ro 6 x.1 fun j=>[st (x.2.1 j),V.ro 2 (x.2.2.1 j) fun j_1=>[st (x.2.2.2.1 j j_1),st (x.2.2.2.2.1 j j_1)],i64 (x.2.2.2.2.2.1 j),i64 (x.2.2.2.2.2.2.1 j),st (x.2.2.2.2.2.2.2.1 j),V.ro 4 (x.2.2.2.2.2.2.2.2.1 j) (x.2.2.2.2.2.2.2.2.2.1 j)],V.ro 6 x.2.2.2.2.2.2.2.2.2.2.1 fun j=>[st (x.2.2.2.2.2.2.2.2.2.2.2.1 j),V.ro 2 (x.2.2.2.2.2.2.2.2.2.2.2.2.1 j) fun j_1=>[st (x.2.2.2.2.2.2.2.2.2.2.2.2.2.1 j j_1),st (x.2.2.2.2.2.2.2.2.2.2.2.2.2.2.1 j j_1)],i64 (x.2.2.2.2.2.2.2.2.2.2.2.2.2.2.2.1 j),i64 (x.2.2.2.2.2.2.2.2.2.2.2.2.2.2.2.2.1 j),st (x.2.2.2.2.2.2.2.2.2.2.2.2.2.2.2.2.2.1 j),V.ro 4 (x.2.2.2.2.2.2.2.2.2.2.2.2.2.2.2.2.2.2.1 j) (x.2.2.2.2.2.2.2.2.2.2.2.2.2.2.2.2.2.2.2 j)],V.junk,V.junk,V.junk,i64 z]++jk 79,H:=hp [],nx:=0,rt:=0,me:=10})))
def im6{β:Type}(c_Same:dn0→Option dk5)(x:rS)(y:im7)(nx:im7→Option β)(dn:io2→Option β):Option β:=
 if 0≤y.1∧y.1< ((x.1:Nat):Int)then if decide (y.2< ((x.2.2.1 (Int.toNat y.1):Nat):Int))=true then if 0≤y.1∧y.1< ((x.1:Nat):Int)then if 0≤y.2∧y.2< ((x.2.2.1 (Int.toNat y.1):Nat):Int)then if 0≤y.1∧y.1< ((x.2.2.2.2.2.2.2.2.2.2.1:Nat):Int)then if 0≤y.2∧y.2< ((x.2.2.2.2.2.2.2.2.2.2.2.2.1 (Int.toNat y.1):Nat):Int)then if(if true=true then !(ByteArray.toList (x.2.2.2.1 (Int.toNat y.1) (Int.toNat y.2))==ByteArray.toList (x.2.2.2.2.2.2.2.2.2.2.2.2.2.1 (Int.toNat y.1) (Int.toNat y.2))&&(ByteArray.toList (x.2.2.2.2.1 (Int.toNat y.1) (Int.toNat y.2))==ByteArray.toList (x.2.2.2.2.2.2.2.2.2.2.2.2.2.2.1 (Int.toNat y.1) (Int.toNat y.2))&&true))else ByteArray.toList (x.2.2.2.1 (Int.toNat y.1) (Int.toNat y.2))==ByteArray.toList (x.2.2.2.2.2.2.2.2.2.2.2.2.2.1 (Int.toNat y.1) (Int.toNat y.2))&&(ByteArray.toList (x.2.2.2.2.1 (Int.toNat y.1) (Int.toNat y.2))==ByteArray.toList (x.2.2.2.2.2.2.2.2.2.2.2.2.2.2.1 (Int.toNat y.1) (Int.toNat y.2))&&true))=true then dn (.inl ())else nx (y.1,w (y.2+1))else none else none else none else none else dn (.inr y.1)else none
theorem is6{β:Type}(c_Same)(x)(y)(nx:im7→Option β)(dn):im6 c_Same x y nx dn=(im6 c_Same x y (fun y=>some (.inl y)) (fun z=>some (.inr z))).bind fun r=>Sum.elim nx dn r:=by
 unfold im6
 repeat' first|exact n0|refine n1 fun _=>?_|refine n2 ?_ ?_|refine n3 (fun _=>?_) fun _=>?_|rfl
theorem it7(c_Same)(x)(y)(lo:f5):n8 E5 (ftb 19 in2 io9 c_Same ca0) lo 2 99 (b5 E5 10 2) (im9 x y) (KCM [(2,35),(1,35),(0,0)] 16)=im6 (vf in2 c_Same) x y (fun y=>lo 2 99 (b5 E5 10 2) (im9 x y) (KCM [(2,35),(1,35),(0,0)] 16)) (fun z=>some (.l (in4 x z).1 (in4 x z).2)):=by kernel_rfl
noncomputable def in3(c_Same:dn0→Option dk5)(q:Nat)(x:rS):im7→Option io2:=lpG (fun y=>im6 c_Same x y (fun y=>some (.inl y)) (fun z=>some (.inr z))) q
theorem it0(c_Same)(h_Same:Lw E5 19 in2 io9 c_Same)(q:Nat)(x:rS):Ll E5 (b5 E5 10 2) (im9 x) (in4 x) (in3 c_Same q x):=
 slp (fk h_Same a8) hX5 (fun lo y=>(it7 c_Same x y lo).trans (by rw[ir5];exact is6 _ _ _ _ _)) (fun z=>by rcases z with z|z<;>kernel_rfl) q
abbrev im8:Type:=Int
abbrev io4:Type:=(Unit)⊕(Unit)
def in0(x:rS)(y:im8):St:={fr:=[V.ro 6 x.1 fun j=>[st (x.2.1 j),V.ro 2 (x.2.2.1 j) fun j_1=>[st (x.2.2.2.1 j j_1),st (x.2.2.2.2.1 j j_1)],i64 (x.2.2.2.2.2.1 j),i64 (x.2.2.2.2.2.2.1 j),st (x.2.2.2.2.2.2.2.1 j),V.ro 4 (x.2.2.2.2.2.2.2.2.1 j) (x.2.2.2.2.2.2.2.2.2.1 j)],V.ro 6 x.2.2.2.2.2.2.2.2.2.2.1 fun j=>[st (x.2.2.2.2.2.2.2.2.2.2.2.1 j),V.ro 2 (x.2.2.2.2.2.2.2.2.2.2.2.2.1 j) fun j_1=>[st (x.2.2.2.2.2.2.2.2.2.2.2.2.2.1 j j_1),st (x.2.2.2.2.2.2.2.2.2.2.2.2.2.2.1 j j_1)],i64 (x.2.2.2.2.2.2.2.2.2.2.2.2.2.2.2.1 j),i64 (x.2.2.2.2.2.2.2.2.2.2.2.2.2.2.2.2.1 j),st (x.2.2.2.2.2.2.2.2.2.2.2.2.2.2.2.2.2.1 j),V.ro 4 (x.2.2.2.2.2.2.2.2.2.2.2.2.2.2.2.2.2.2.1 j) (x.2.2.2.2.2.2.2.2.2.2.2.2.2.2.2.2.2.2.2 j)],V.junk,V.junk,V.junk,i64 y]++jk 79,H:=hp [],nx:=0,rt:=0,me:=10}
def iu2(s:St):im8:=(vI (s.fr.getD 5 .junk))
theorem is7(x:rS):VL (in0 x):=vl iu2 fun _=>rfl
def in5(x:rS):io4→Ex×St:=(Sum.elim (fun z=>(Ex.ret,{fr:=jk 4++[bo false]++jk 80,H:=hp [],nx:=0,rt:=0,me:=10})) (fun z=>(Ex.exit 0,{fr:=[V.junk]++jk 84,H:=hp [],nx:=0,rt:=0,me:=10})))
def hj0{β:Type}(c_Same:dn0→Option dk5)(l_SameAll_l2:im7→Option io2)(x:rS)(y:im8)(nx:im8→Option β)(dn:io4→Option β):Option β:=
 if decide (y< ((x.1:Nat):Int))=true then if 0≤y∧y< ((x.1:Nat):Int)then if 0≤y∧y< ((x.2.2.2.2.2.2.2.2.2.2.1:Nat):Int)then if(!ByteArray.toList (x.2.1 (Int.toNat y))==ByteArray.toList (x.2.2.2.2.2.2.2.2.2.2.2.1 (Int.toNat y)))=true then dn (.inl ())else if 0≤y∧y< ((x.1:Nat):Int)then if 0≤y∧y< ((x.2.2.2.2.2.2.2.2.2.2.1:Nat):Int)then if(((x.2.2.1 (Int.toNat y):Nat):Int)!=((x.2.2.2.2.2.2.2.2.2.2.2.2.1 (Int.toNat y):Nat):Int))=true then dn (.inl ())else if 0≤y∧y< ((x.1:Nat):Int)then if 0≤y∧y< ((x.2.2.2.2.2.2.2.2.2.2.1:Nat):Int)then(c_Same (x.2.2.2.2.2.1 (Int.toNat y),x.2.2.2.2.2.2.1 (Int.toNat y),x.2.2.2.2.2.2.2.1 (Int.toNat y),x.2.2.2.2.2.2.2.2.1 (Int.toNat y),x.2.2.2.2.2.2.2.2.2.1 (Int.toNat y),x.2.2.2.2.2.2.2.2.2.2.2.2.2.2.2.1 (Int.toNat y),x.2.2.2.2.2.2.2.2.2.2.2.2.2.2.2.2.1 (Int.toNat y),x.2.2.2.2.2.2.2.2.2.2.2.2.2.2.2.2.2.1 (Int.toNat y),x.2.2.2.2.2.2.2.2.2.2.2.2.2.2.2.2.2.2.1 (Int.toNat y),x.2.2.2.2.2.2.2.2.2.2.2.2.2.2.2.2.2.2.2 (Int.toNat y))).bind fun z74=>if(!z74)=true then dn (.inl ())else(l_SameAll_l2 (y,0)).bind fun z83=>Sum.elim (fun z83a=>dn (.inl ())) (fun z83b=>nx (w (z83b+1))) z83 else none else none else none else none else none else none else dn (.inr ())
theorem it1{β:Type}(c_Same)(l_SameAll_l2)(x)(y)(nx:im8→Option β)(dn):hj0 c_Same l_SameAll_l2 x y nx dn=(hj0 c_Same l_SameAll_l2 x y (fun y=>some (.inl y)) (fun z=>some (.inr z))).bind fun r=>Sum.elim nx dn r:=by
 unfold hj0
 repeat' first|exact n0|refine n1 fun _=>?_|refine n2 ?_ ?_|refine n3 (fun _=>?_) fun _=>?_|rfl
theorem it8(c_Same)(l_SameAll_l2)(x)(y)(lo:f5):n8 E5 (ftb 19 in2 io9 c_Same ca0) (lt2 2 (fun _=>true) (b5 E5 10 2) (im9 x) (in4 x) l_SameAll_l2 lo) 0 35 (b5 E5 10 0) (in0 x y) (KCM [(0,0)] 16)=hj0 (vf in2 c_Same) (lf (b5 E5 10 2) (im9 x) l_SameAll_l2) x y (fun y=>lo 0 35 (b5 E5 10 0) (in0 x y) (KCM [(0,0)] 16)) (fun z=>some (.l (in5 x z).1 (in5 x z).2)):=by kernel_rfl
noncomputable def ip0(c_Same:dn0→Option dk5)(q:Nat)(x:rS):im8→Option io4:=lpG (fun y=>hj0 c_Same (in3 c_Same q x) x y (fun y=>some (.inl y)) (fun z=>some (.inr z))) q
theorem is9(c_Same)(h_Same:Lw E5 19 in2 io9 c_Same)(q:Nat)(x:rS):Ll E5 (b5 E5 10 0) (in0 x) (in5 x) (ip0 c_Same q x):=
 SL.lp (LT:=fun lo=>(lt2 2 (fun _=>true) (b5 E5 10 2) (im9 x) (in4 x) (in3 c_Same q x) lo)) (T:=in5 x) (S:=in0 x) (fk h_Same a8) hX5 (fun lo h=>(lk2 (it0 c_Same h_Same q x) h)) (fun lo y=>(it8 c_Same (in3 c_Same q x) x y lo).trans (by rw[ir5,it6];exact it1 _ _ _ _ _ _)) (fun z=>by rcases z with z|z<;>kernel_rfl) q
def io5{β:Type}(c_Same:dn0→Option dk5)(l_SameAll_l0:im8→Option io4)(x:rS)(dn:ip6→Option β):Option β:=
 if(((x.1:Nat):Int)!=((x.2.2.2.2.2.2.2.2.2.2.1:Nat):Int))=true then dn false else(l_SameAll_l0 (0)).bind fun z40=>Sum.elim (fun z40a=>dn false) (fun z40b=>dn true) z40
theorem iy4{β:Type}(c_Same)(l_SameAll_l0)(x)(dn:ip6→Option β):io5 c_Same l_SameAll_l0 x dn=(io5 c_Same l_SameAll_l0 x some).bind dn:=by
 unfold io5
 repeat' first|exact n0|refine n1 fun _=>?_|refine n2 ?_ ?_|refine n3 (fun _=>?_) fun _=>?_|rfl
theorem iy7(c_Same)(l_SameAll_l0)(x):f7 E5 (ftb 19 in2 io9 c_Same ca0) (lt2 0 (fun _=>true) (b5 E5 10 0) (in0 x) (in5 x) l_SameAll_l0 lo0) 10 (iq5 x).1 (iq5 x).2 K=io5 (vf in2 c_Same) (lf (b5 E5 10 0) (in0 x) l_SameAll_l0) x (fun z=>some (.c (is5 z))):=by kernel_rfl
noncomputable def SameAll(q:Nat)(x:rS):Option ip6:=io5 (Same q) (ip0 (Same q) q x) x some
theorem iv2(q:Nat):Lw E5 10 iq5 is5 (SameAll q):=sof hW5 hX5 (fk (iw4 q) a8) (fun x=>(lk2 (is9 (Same q) (iw4 q) q x) b6)) fun x=>(iy7 (Same q) (ip0 (Same q) q x) x).trans (by rw[ir5,is7,iy4]<;>rfl)
end Go.Proofs.YtjfkkokeegpeiaaGreatDoor
/- Expressions, lifted. -/
namespace Go.Proofs.YtjfkkokeegpeiaaGreatDoor
open Go Go.Am Go.Proofs
set_option maxRecDepth 100000
theorem hf8{f:FuncId}{args:List V}{L H:List (Option Chunk)}{a b:Int}{s:ByteArray}{g:Nat→List V}(h:SC E5 f args L (.ret (.agg [i64 a,i64 b,st s,g8]) H)):SC E5 f args L (.ret (.agg [i64 a,i64 b,st s,.ro 4 0 g]) H):=
 SC.le h (Le.agg (LeL.cons (Le.refl _) (LeL.cons (Le.refl _) (LeL.cons (Le.refl _) (LeL.cons Le.nil_ro LeL.nil)))))
theorem ib0{f:FuncId}{args:List V}{L:List (Option Chunk)}{a b pa po:Int}{s:ByteArray}{tn nv np m:Nat}{tf vf pf g:Nat→List V}
 (h:SC E5 f args L (.ret (.agg [i64 a,i64 b,st s,.sl 3 4 0 m]) [some (.blk [.ro 4 tn tf,i64 pa,i64 po,.sl 1 1 0 nv,.sl 2 1 0 np]),some (.row 9 1 nv vf),some (.row 9 1 np pf),some (.row 35 4 m g)])):
 SC E5 f args L (.ret (.agg [i64 a,i64 b,st s,.ro 4 m g]) [some (.blk [.ro 4 tn tf,i64 pa,i64 po,.sl 1 1 0 nv,.sl 2 1 0 np]),some (.row 9 1 nv vf),some (.row 9 1 np pf)]):=by
 have h2:=SC.giveM (L2:=[some (.blk [.ro 4 tn tf,i64 pa,i64 po,.sl 1 1 0 nv,.sl 2 1 0 np]),some (.row 9 1 nv vf),some (.row 9 1 np pf)]) 3 h (by rfl) (by simp[V.bw,V.bw2,V.bw1,hp,V.pure,m8])
 simpa[V.bw,V.bw2,V.bw1,hp]using h2
theorem de2{f:FuncId}{args:List V}{L:List (Option Chunk)}{a b pa po:Int}{s:ByteArray}{tn nv np m:Nat}{tf vf pf g:Nat→List V}
 (h:SC E5 f args L (.ret (.agg [i64 a,i64 b,st s,.sl 3 4 0 m]) [some (.blk [.ro 4 tn tf,i64 pa,i64 po,.sl 1 1 0 nv,.sl 2 1 0 np]),some (.row 9 1 nv vf),some (.row 9 1 np pf),some (.row 35 4 m g)])):
 SC E5 f args L (.ret (.agg [i64 a,i64 b,st s,.ro 4 m g]) [some (.blk [.ro 4 tn tf,i64 pa,i64 po,.sl 1 1 0 nv,.sl 2 1 0 np]),some (.row 9 1 nv vf),some (.row 9 1 np pf)]):=ib0 h
theorem il6{f:FuncId}{args:List V}{L:List (Option Chunk)}{a b pa po:Int}{s:ByteArray}{tn nv np m:Nat}{tf vf pf g:Nat→List V}
 (h:SC E5 f args L (.ret (.agg [i64 a,i64 b,st s,.sl 3 4 0 m]) [some (.blk [.ro 4 tn tf,i64 pa,i64 po,.sl 1 1 0 nv,.sl 2 1 0 np]),some (.row 9 1 nv vf),some (.row 9 1 np pf),some (.row 35 4 m g)])):
 SC E5 f args L (.ret (.agg [i64 a,i64 b,st s,.ro 4 m (fun j=>fixC (g j))]) [some (.blk [.ro 4 tn tf,i64 pa,i64 po,.sl 1 1 0 nv,.sl 2 1 0 np]),some (.row 9 1 nv vf),some (.row 9 1 np pf)]):=
 SC.le (ib0 h) (Le.agg (LeL.cons (Le.refl _) (LeL.cons (Le.refl _) (LeL.cons (Le.refl _) (LeL.cons Le.ro_fix LeL.nil)))))
abbrev ba6:Type:=SP
abbrev pY:Type:=(Int×Int×ByteArray×SP)⊕(Int×Int)
def ba8:AR ba6:=fun x=>([.ptr 0 0],(hHP x))
def bd3:pY→CRes:=Sum.elim (fun z:Int×Int×ByteArray×SP=>.ret (.agg [i64 z.1,i64 z.2.1,st z.2.2.1,g8]) (hHP z.2.2.2)) (fun z:Int×Int=>.pan (.ifc 45 (.agg [i64 z.1,i64 z.2])))
def pU{β:Type}(c_number:xC→Option xD)(c_next:aM→Option aL)(c_Lookup:oL→Option oP)(x:ba6)(dn:pY→Option β):Option β:=
 (c_number (0,2147483647,x)).bind fun z13=>Sum.elim (fun z13a=>(c_next z13a.2).bind fun z25=>if(z25.1==1)=true then(c_Lookup z25.2.2.1).bind fun z27=>if z27.2.2.2.2.2.2=true then dn (.inl (15,z13a.1,z25.2.2.1,w (z25.2.2.2.2.1+1),z25.2.2.2.2.2))else dn (.inl (15,z13a.1,⟨#[]⟩,z25.2.2.2.2))else dn (.inl (15,z13a.1,⟨#[]⟩,z25.2.2.2.2))) (fun z13b=>dn (.inr z13b)) z13
theorem ew6{β:Type}(c_number c_next c_Lookup)(x)(dn:pY→Option β):pU c_number c_next c_Lookup x dn=(pU c_number c_next c_Lookup x some).bind dn:=by
 unfold pU
 repeat' first|exact n0|refine n1 fun _=>?_|refine n2 ?_ ?_|refine n3 (fun _=>?_) fun _=>?_|rfl
theorem es2(c_number c_next c_Lookup)(x):f7 E5 (ft2 137 iZ aa4 c_number (ftb 22 j7 y6 c_next (ftb 87 eJ wQ c_Lookup ca0))) lo0 138 (ba8 x).1 (ba8 x).2 K=pU (vf iZ c_number) (vf j7 c_next) (vf eJ c_Lookup) x (fun z=>some (.c (bd3 z))):=by kernel_rfl
noncomputable def cl1(q:Nat)(x:ba6):Option pY:=pU (oI q) (next q) (xB q) x some
theorem dy7(q:Nat):Lw E5 138 ba8 bd3 (cl1 q):=sof hW5 hX5 (fk2 (br9 q) (fk (lU q) (fk (bt5 q) a8))) (fun _=>b6) fun x=>(es2 (oI q) (next q) (xB q) x).trans (by rw[cq3,iD,bh5,ew6]<;>rfl)
abbrev qU:Type:=SP
abbrev qY:Type:=(Int×Int×ByteArray×Nat×FL×SP)⊕(Int×Int)
def eF:AR qU:=fun x=>([.ptr 0 0],(hHP x))
def fr8(t:TT):qU:=(dHP t.2)
theorem ay1:VI eF:=vd fr8 fun _=>rfl
def qF:qY→CRes:=Sum.elim (fun z:Int×Int×ByteArray×Nat×FL×SP=>.ret (.agg [i64 z.1,i64 z.2.1,st z.2.2.1,.ro 4 z.2.2.2.1 z.2.2.2.2.1]) (hHP z.2.2.2.2.2)) (fun z:Int×Int=>.pan (.ifc 45 (.agg [i64 z.1,i64 z.2])))
def ba7:pY→qY:=Sum.elim (fun z=>.inl (z.1,z.2.1,z.2.2.1,0,fun _=>[],z.2.2.2)) (fun z=>.inr z)
theorem ej2{args:List V}{L:List (Option Chunk)}(z:pY)(h:SC E5 138 args L (bd3 z)):SC E5 138 args L (qF (ba7 z)):=by
 rcases z with z|z
 ·exact hf8 h
 ·exact h
noncomputable def kK(q:Nat)(x:qU):Option qY:=(cl1 q x).map ba7
theorem ai5(q:Nat):Lw E5 138 eF qF (kK q):=by
 intro x z h
 obtain⟨y,hy,rfl⟩:=Option.map_eq_some_iff.1 h
 exact ej2 y (dy7 q x y hy)
abbrev mM:Type:=Int×SP
abbrev mO:Type:=(Int×Int×ByteArray×Nat×FL×SP)⊕(Int×Int)
def x7:AR mM:=fun x=>([.ptr 0 0,i64 x.1],(hHP x.2))
def ht5(t:TT):mM:=((vI (ag t 1)),dHP t.2)
theorem yX:VI x7:=vd ht5 fun _=>rfl
def iE:mO→CRes:=Sum.elim (fun z:Int×Int×ByteArray×Nat×FL×SP=>.ret (.agg [i64 z.1,i64 z.2.1,st z.2.2.1,.ro 4 z.2.2.2.1 z.2.2.2.2.1]) (hHP z.2.2.2.2.2)) (fun z:Int×Int=>.pan (.ifc 45 (.agg [i64 z.1,i64 z.2])))
abbrev yD:Type:=ByteArray×Int×SP
abbrev xV:Type:=(Int×Int×ByteArray×Nat×FL×SP)⊕(Int×Int)
def pD:AR yD:=fun x=>([.ptr 0 0,st x.1,i64 x.2.1],(hHP x.2.2))
def gz6(t:TT):yD:=((vS (ag t 1)),vI (ag t 2),dHP t.2)
theorem do3:VI pD:=vd gz6 fun _=>rfl
def af3:xV→CRes:=Sum.elim (fun z:Int×Int×ByteArray×Nat×FL×SP=>.ret (.agg [i64 z.1,i64 z.2.1,st z.2.2.1,.ro 4 z.2.2.2.1 z.2.2.2.2.1]) (hHP z.2.2.2.2.2)) (fun z:Int×Int=>.pan (.ifc 45 (.agg [i64 z.1,i64 z.2])))
abbrev nF:Type:=SP
abbrev nA:Type:=(Int×Int×ByteArray×Nat×FL×SP)⊕(Int×Int)
def eL:AR nF:=fun x=>([.ptr 0 0],(hHP x))
def ft0(t:TT):nF:=(dHP t.2)
theorem bq9:VI eL:=vd ft0 fun _=>rfl
def rE:nA→CRes:=Sum.elim (fun z:Int×Int×ByteArray×Nat×FL×SP=>.ret (.agg [i64 z.1,i64 z.2.1,st z.2.2.1,.ro 4 z.2.2.2.1 z.2.2.2.2.1]) (hHP z.2.2.2.2.2)) (fun z:Int×Int=>.pan (.ifc 45 (.agg [i64 z.1,i64 z.2])))
abbrev pE:Type:=Int×SP
abbrev bi7:Type:=(Int×Int×ByteArray×Nat×FL×SP)⊕(Int×Int)⊕(Int×Int×ByteArray×Int×Int×ByteArray×Nat×FL×Int×Int×ByteArray×Nat×FL×SP)
def dd3:AR pE:=fun x=>([.ptr 0 0,i64 x.1],(hHP x.2))
def di1:bi7→CRes:=Sum.elim (fun z:Int×Int×ByteArray×Nat×FL×SP=>.ret (.agg [i64 z.1,i64 z.2.1,st z.2.2.1,.ro 4 z.2.2.2.1 z.2.2.2.2.1]) (hHP z.2.2.2.2.2)) (Sum.elim (fun z:Int×Int=>.pan (.ifc 45 (.agg [i64 z.1,i64 z.2]))) (fun z:Int×Int×ByteArray×Int×Int×ByteArray×Nat×FL×Int×Int×ByteArray×Nat×FL×SP=>.ret (.agg [i64 z.1,i64 z.2.1,st z.2.2.1,.sl 3 4 0 2]) [some (.blk [.ro 4 z.2.2.2.2.2.2.2.2.2.2.2.2.2.2.2.1 (fun j=>[i64 (z.2.2.2.2.2.2.2.2.2.2.2.2.2.2.2.2.1 j),i64 (z.2.2.2.2.2.2.2.2.2.2.2.2.2.2.2.2.2.1 j),st (z.2.2.2.2.2.2.2.2.2.2.2.2.2.2.2.2.2.2.1 j),i64 (z.2.2.2.2.2.2.2.2.2.2.2.2.2.2.2.2.2.2.2.1 j)]),i64 z.2.2.2.2.2.2.2.2.2.2.2.2.2.1,i64 z.2.2.2.2.2.2.2.2.2.2.2.2.2.2.1,.sl 1 1 0 z.2.2.2.2.2.2.2.2.2.2.2.2.2.2.2.2.2.2.2.2.1,.sl 2 1 0 z.2.2.2.2.2.2.2.2.2.2.2.2.2.2.2.2.2.2.2.2.2.2.1]),some (.row 9 1 z.2.2.2.2.2.2.2.2.2.2.2.2.2.2.2.2.2.2.2.2.1 (fun j=>[st (z.2.2.2.2.2.2.2.2.2.2.2.2.2.2.2.2.2.2.2.2.2.1 j)])),some (.row 9 1 z.2.2.2.2.2.2.2.2.2.2.2.2.2.2.2.2.2.2.2.2.2.2.1 (fun j=>[st (z.2.2.2.2.2.2.2.2.2.2.2.2.2.2.2.2.2.2.2.2.2.2.2 j)])),some (.row 35 4 2 (gP [[i64 z.2.2.2.1,i64 z.2.2.2.2.1,st z.2.2.2.2.2.1,.ro 4 z.2.2.2.2.2.2.1 z.2.2.2.2.2.2.2.1],[i64 z.2.2.2.2.2.2.2.2.1,i64 z.2.2.2.2.2.2.2.2.2.1,st z.2.2.2.2.2.2.2.2.2.2.1,.ro 4 z.2.2.2.2.2.2.2.2.2.2.2.1 z.2.2.2.2.2.2.2.2.2.2.2.2.1]]))]))
abbrev du5:Type:=ByteArray×Int×SP
abbrev aq4:Type:=(Int×Int×ByteArray×Int×Int×ByteArray×Nat×FL×SP)⊕(Int×Int)
def cq4:AR du5:=fun x=>([.ptr 0 0,st x.1,i64 x.2.1],(hHP x.2.2))
def cm5:aq4→CRes:=Sum.elim (fun z:Int×Int×ByteArray×Int×Int×ByteArray×Nat×FL×SP=>.ret (.agg [i64 z.1,i64 z.2.1,st z.2.2.1,.sl 3 4 0 1]) [some (.blk [.ro 4 z.2.2.2.2.2.2.2.2.2.2.1 (fun j=>[i64 (z.2.2.2.2.2.2.2.2.2.2.2.1 j),i64 (z.2.2.2.2.2.2.2.2.2.2.2.2.1 j),st (z.2.2.2.2.2.2.2.2.2.2.2.2.2.1 j),i64 (z.2.2.2.2.2.2.2.2.2.2.2.2.2.2.1 j)]),i64 z.2.2.2.2.2.2.2.2.1,i64 z.2.2.2.2.2.2.2.2.2.1,.sl 1 1 0 z.2.2.2.2.2.2.2.2.2.2.2.2.2.2.2.1,.sl 2 1 0 z.2.2.2.2.2.2.2.2.2.2.2.2.2.2.2.2.2.1]),some (.row 9 1 z.2.2.2.2.2.2.2.2.2.2.2.2.2.2.2.1 (fun j=>[st (z.2.2.2.2.2.2.2.2.2.2.2.2.2.2.2.2.1 j)])),some (.row 9 1 z.2.2.2.2.2.2.2.2.2.2.2.2.2.2.2.2.2.1 (fun j=>[st (z.2.2.2.2.2.2.2.2.2.2.2.2.2.2.2.2.2.2 j)])),some (.row 35 4 1 (gP [[i64 z.2.2.2.1,i64 z.2.2.2.2.1,st z.2.2.2.2.2.1,.ro 4 z.2.2.2.2.2.2.1 z.2.2.2.2.2.2.2.1]]))]) (fun z:Int×Int=>.pan (.ifc 45 (.agg [i64 z.1,i64 z.2])))
abbrev ch1:Type:=SP
abbrev xG:Type:=(Int×Int×ByteArray×Nat×FL×SP)⊕(Int×Int)⊕(Int×Int×ByteArray×SP)
def bb1:AR ch1:=fun x=>([.ptr 0 0],(hHP x))
def bc9:xG→CRes:=Sum.elim (fun z:Int×Int×ByteArray×Nat×FL×SP=>.ret (.agg [i64 z.1,i64 z.2.1,st z.2.2.1,.ro 4 z.2.2.2.1 z.2.2.2.2.1]) (hHP z.2.2.2.2.2)) (Sum.elim (fun z:Int×Int=>.pan (.ifc 45 (.agg [i64 z.1,i64 z.2]))) (fun z:Int×Int×ByteArray×SP=>.ret (.agg [i64 z.1,i64 z.2.1,st z.2.2.1,g8]) (hHP z.2.2.2)))
abbrev dX:Type:=(Nat×FI×FI×FS×FI×Int×Int×Nat×Nat×FS×FS×Int×Int×ByteArray×Nat×FL)⊕(Nat×FI×FI×FS×FI×Int×Int×Nat×Nat×FS×FS×ByteArray×Int×Int×ByteArray×Nat×FL×Int×Int×ByteArray×Nat×FL)
abbrev qS:Type:=(Nat×FI×FI×FS×FI×Int×Int×Nat×Nat×FS×FS×ByteArray×Int×Int×ByteArray×Nat×FL×Int×Int×ByteArray×Nat×FL)⊕(Int×Int)⊕(Nat×FI×FI×FS×FI×Int×Int×Nat×Nat×FS×FS×Int×Int×ByteArray×Nat×FL)
def ec3(x:pE)(y:Nat×FI×FI×FS×FI×Int×Int×Nat×Nat×FS×FS×Int×Int×ByteArray×Nat×FL):St:={fr:=[V.ptr 0 0,i64 x.1,V.junk,V.junk,V.ptr 3 0,V.ptr 4 0]++jk 61,H:=hp [some (hPB y),some (hPV y),some (hPQ y),some (Chunk.blk [i64 0,i64 0,st ⟨#[]⟩,g8]),some (Chunk.blk [i64 y.2.2.2.2.2.2.2.2.2.2.2.1,i64 y.2.2.2.2.2.2.2.2.2.2.2.2.1,st y.2.2.2.2.2.2.2.2.2.2.2.2.2.1,V.ro 4 y.2.2.2.2.2.2.2.2.2.2.2.2.2.2.1 y.2.2.2.2.2.2.2.2.2.2.2.2.2.2.2])],nx:=5,rt:=1,me:=136}
def dy8(s:St):Nat×FI×FI×FS×FI×Int×Int×Nat×Nat×FS×FS×Int×Int×ByteArray×Nat×FL:=((u7 (cb s 0 0)),dTI (cb s 0 0) 0,dTI (cb s 0 0) 1,dTS (cb s 0 0) 2,dTI (cb s 0 0) 3,vI (cb s 0 1),vI (cb s 0 2),dB (cb s 0 3),dB (cb s 0 4),dRS (s.H 1) 0,dRS (s.H 2) 0,vI (cb s 4 0),vI (cb s 4 1),vS (cb s 4 2),u7 (cb s 4 3),iU (cb s 4 3))
def dy2(x:pE)(y:Nat×FI×FI×FS×FI×Int×Int×Nat×Nat×FS×FS×ByteArray×Int×Int×ByteArray×Nat×FL×Int×Int×ByteArray×Nat×FL):St:={fr:=[V.ptr 0 0,i64 x.1,V.junk,V.junk,V.ptr 3 0,V.ptr 4 0]++jk 61,H:=hp [some (hPB y),some (hPV y),some (hPQ y),some (Chunk.blk [i64 0,i64 0,st ⟨#[]⟩,g8]),some (Chunk.blk [i64 20,i64 0,st y.2.2.2.2.2.2.2.2.2.2.2.1,V.sl 5 4 0 2]),some (Chunk.row 35 4 2 (gP [[i64 y.2.2.2.2.2.2.2.2.2.2.2.2.1,i64 y.2.2.2.2.2.2.2.2.2.2.2.2.2.1,st y.2.2.2.2.2.2.2.2.2.2.2.2.2.2.1,V.ro 4 y.2.2.2.2.2.2.2.2.2.2.2.2.2.2.2.1 y.2.2.2.2.2.2.2.2.2.2.2.2.2.2.2.2.1],[i64 y.2.2.2.2.2.2.2.2.2.2.2.2.2.2.2.2.2.1,i64 y.2.2.2.2.2.2.2.2.2.2.2.2.2.2.2.2.2.2.1,st y.2.2.2.2.2.2.2.2.2.2.2.2.2.2.2.2.2.2.2.1,V.ro 4 y.2.2.2.2.2.2.2.2.2.2.2.2.2.2.2.2.2.2.2.2.1 y.2.2.2.2.2.2.2.2.2.2.2.2.2.2.2.2.2.2.2.2.2]]))],nx:=6,rt:=1,me:=136}
def dt5(s:St):Nat×FI×FI×FS×FI×Int×Int×Nat×Nat×FS×FS×ByteArray×Int×Int×ByteArray×Nat×FL×Int×Int×ByteArray×Nat×FL:=((u7 (cb s 0 0)),dTI (cb s 0 0) 0,dTI (cb s 0 0) 1,dTS (cb s 0 0) 2,dTI (cb s 0 0) 3,vI (cb s 0 1),vI (cb s 0 2),dB (cb s 0 3),dB (cb s 0 4),dRS (s.H 1) 0,dRS (s.H 2) 0,vS (cb s 4 2),(vI (((chF (s.H 5)) 0).getD 0 .junk)),(vI (((chF (s.H 5)) 0).getD 1 .junk)),(vS (((chF (s.H 5)) 0).getD 2 .junk)),(u7 (((chF (s.H 5)) 0).getD 3 .junk)),(iU (((chF (s.H 5)) 0).getD 3 .junk)),(vI (((chF (s.H 5)) 1).getD 0 .junk)),(vI (((chF (s.H 5)) 1).getD 1 .junk)),(vS (((chF (s.H 5)) 1).getD 2 .junk)),(u7 (((chF (s.H 5)) 1).getD 3 .junk)),(iU (((chF (s.H 5)) 1).getD 3 .junk)))
def jB(x:pE):dX→St:=(Sum.elim (ec3 x) (dy2 x))
def eu9(s:St):dX:=(match s.nx==5 with|true=>(.inl (dy8 s)) |false=>(.inr (dt5 s)))
theorem fc1(x:pE):VL (jB x):=vl eu9 (fun y=>by rcases y with y|y<;>rfl)
def qK(x:pE):qS→Ex×St:=(Sum.elim (fun z=>(Ex.exit 1,{fr:=jk 4++[V.ptr 3 0,V.ptr 4 0]++jk 61,H:=hp [some (hPB z),some (hPV z),some (hPQ z),some (Chunk.blk [i64 0,i64 0,st ⟨#[]⟩,g8]),some (Chunk.blk [i64 20,i64 0,st z.2.2.2.2.2.2.2.2.2.2.2.1,V.sl 5 4 0 2]),some (Chunk.row 35 4 2 (gP [[i64 z.2.2.2.2.2.2.2.2.2.2.2.2.1,i64 z.2.2.2.2.2.2.2.2.2.2.2.2.2.1,st z.2.2.2.2.2.2.2.2.2.2.2.2.2.2.1,V.ro 4 z.2.2.2.2.2.2.2.2.2.2.2.2.2.2.2.1 z.2.2.2.2.2.2.2.2.2.2.2.2.2.2.2.2.1],[i64 z.2.2.2.2.2.2.2.2.2.2.2.2.2.2.2.2.2.1,i64 z.2.2.2.2.2.2.2.2.2.2.2.2.2.2.2.2.2.2.1,st z.2.2.2.2.2.2.2.2.2.2.2.2.2.2.2.2.2.2.2.1,V.ro 4 z.2.2.2.2.2.2.2.2.2.2.2.2.2.2.2.2.2.2.2.2.1 z.2.2.2.2.2.2.2.2.2.2.2.2.2.2.2.2.2.2.2.2.2]]))],nx:=6,rt:=1,me:=136})) (Sum.elim (fun z=>(Ex.panic (V.ifc 45 (V.agg [i64 z.1,i64 z.2])),{fr:=[V.junk]++jk 66,H:=hp [none],nx:=1,rt:=1,me:=136})) (fun z=>(Ex.exit 1,{fr:=jk 4++[V.ptr 3 0,V.ptr 4 0]++jk 61,H:=hp [some (hPB z),some (hPV z),some (hPQ z),some (Chunk.blk [i64 0,i64 0,st ⟨#[]⟩,g8]),some (Chunk.blk [i64 z.2.2.2.2.2.2.2.2.2.2.2.1,i64 z.2.2.2.2.2.2.2.2.2.2.2.2.1,st z.2.2.2.2.2.2.2.2.2.2.2.2.2.1,V.ro 4 z.2.2.2.2.2.2.2.2.2.2.2.2.2.2.1 z.2.2.2.2.2.2.2.2.2.2.2.2.2.2.2])],nx:=5,rt:=1,me:=136}))))
def mY{β:Type}(c_is:bn1→Option bs0)(c_unary:yD→Option xV)(c_primary:nF→Option nA)(c_expr:mM→Option mO)(c_next:aM→Option aL)(c_levelOf:lA→Option jZ)(x:pE)(y:Nat×FI×FI×FS×FI×Int×Int×Nat×Nat×FS×FS×Int×Int×ByteArray×Nat×FL)(nx:dX→Option β)(dn:qS→Option β):Option β:=
 (c_next (y.2.2.2.2.2.1,y.2.2.2.2.2.2.1,y.1,y.2.1,y.2.2.1,y.2.2.2.1,y.2.2.2.2.1,y.2.2.2.2.2.2.2.1,y.2.2.2.2.2.2.2.2.2.1,y.2.2.2.2.2.2.2.2.1,y.2.2.2.2.2.2.2.2.2.2.1)).bind fun z765=>(c_levelOf z765.2.2.1).bind fun z767=>if(z767==x.1)=true then(c_next z765.2.2.2.2).bind fun z779=>if(z779.1==3)=true then(c_next z779.2.2.2.2).bind fun z791=>(c_expr (w (x.1+1),w (z791.2.2.2.2.1+1),z791.2.2.2.2.2)).bind fun z804=>Sum.elim (fun z804a=>if(x.1==4)=true then dn (.inl (z804a.2.2.2.2.2.2.2.1,z804a.2.2.2.2.2.2.2.2.1,z804a.2.2.2.2.2.2.2.2.2.1,z804a.2.2.2.2.2.2.2.2.2.2.1,z804a.2.2.2.2.2.2.2.2.2.2.2.1,z804a.2.2.2.2.2.1,z804a.2.2.2.2.2.2.1,z804a.2.2.2.2.2.2.2.2.2.2.2.2.1,z804a.2.2.2.2.2.2.2.2.2.2.2.2.2.2.1,z804a.2.2.2.2.2.2.2.2.2.2.2.2.2.1,z804a.2.2.2.2.2.2.2.2.2.2.2.2.2.2.2,z791.2.2.1,y.2.2.2.2.2.2.2.2.2.2.2.1,y.2.2.2.2.2.2.2.2.2.2.2.2.1,y.2.2.2.2.2.2.2.2.2.2.2.2.2.1,y.2.2.2.2.2.2.2.2.2.2.2.2.2.2.1,y.2.2.2.2.2.2.2.2.2.2.2.2.2.2.2,z804a.1,z804a.2.1,z804a.2.2.1,z804a.2.2.2.1,z804a.2.2.2.2.1))else nx (.inr (z804a.2.2.2.2.2.2.2.1,z804a.2.2.2.2.2.2.2.2.1,z804a.2.2.2.2.2.2.2.2.2.1,z804a.2.2.2.2.2.2.2.2.2.2.1,z804a.2.2.2.2.2.2.2.2.2.2.2.1,z804a.2.2.2.2.2.1,z804a.2.2.2.2.2.2.1,z804a.2.2.2.2.2.2.2.2.2.2.2.2.1,z804a.2.2.2.2.2.2.2.2.2.2.2.2.2.2.1,z804a.2.2.2.2.2.2.2.2.2.2.2.2.2.1,z804a.2.2.2.2.2.2.2.2.2.2.2.2.2.2.2,z791.2.2.1,y.2.2.2.2.2.2.2.2.2.2.2.1,y.2.2.2.2.2.2.2.2.2.2.2.2.1,y.2.2.2.2.2.2.2.2.2.2.2.2.2.1,y.2.2.2.2.2.2.2.2.2.2.2.2.2.2.1,y.2.2.2.2.2.2.2.2.2.2.2.2.2.2.2,z804a.1,z804a.2.1,z804a.2.2.1,z804a.2.2.2.1,z804a.2.2.2.2.1))) (fun z804b=>dn (.inr (.inl z804b))) z804 else dn (.inr (.inr (z779.2.2.2.2.2.2.1,z779.2.2.2.2.2.2.2.1,z779.2.2.2.2.2.2.2.2.1,z779.2.2.2.2.2.2.2.2.2.1,z779.2.2.2.2.2.2.2.2.2.2.1,z779.2.2.2.2.1,z779.2.2.2.2.2.1,z779.2.2.2.2.2.2.2.2.2.2.2.1,z779.2.2.2.2.2.2.2.2.2.2.2.2.2.1,z779.2.2.2.2.2.2.2.2.2.2.2.2.1,z779.2.2.2.2.2.2.2.2.2.2.2.2.2.2,y.2.2.2.2.2.2.2.2.2.2.2)))else dn (.inr (.inr (z765.2.2.2.2.2.2.1,z765.2.2.2.2.2.2.2.1,z765.2.2.2.2.2.2.2.2.1,z765.2.2.2.2.2.2.2.2.2.1,z765.2.2.2.2.2.2.2.2.2.2.1,z765.2.2.2.2.1,z765.2.2.2.2.2.1,z765.2.2.2.2.2.2.2.2.2.2.2.1,z765.2.2.2.2.2.2.2.2.2.2.2.2.2.1,z765.2.2.2.2.2.2.2.2.2.2.2.2.1,z765.2.2.2.2.2.2.2.2.2.2.2.2.2.2,y.2.2.2.2.2.2.2.2.2.2.2)))
theorem dz3{β:Type}(c_is c_unary)(c_primary c_expr)(c_next c_levelOf)(x)(y)(nx:dX→Option β)(dn):mY c_is c_unary c_primary c_expr c_next c_levelOf x y nx dn=(mY c_is c_unary c_primary c_expr c_next c_levelOf x y (fun y=>some (.inl y)) (fun z=>some (.inr z))).bind fun r=>Sum.elim nx dn r:=by
 unfold mY
 repeat' first|exact n0|refine n1 fun _=>?_|refine n2 ?_ ?_|refine n3 (fun _=>?_) fun _=>?_|rfl
theorem ec7(c_is c_unary)(c_primary c_expr)(c_next c_levelOf)(x)(y)(lo:f5):n8 E5 (ftb 109 wA bs9 c_is (ft2 145 pD af3 c_unary (ft2 146 eL rE c_primary (ft2 136 x7 iE c_expr (ftb 22 j7 y6 c_next (ftb 78 aX nU c_levelOf ca0)))))) lo 1 51 (b5 E5 136 1) (jB x (.inl y)) (KCM [(1,48)] 16)=mY (vf wA c_is) (vf pD c_unary) (vf eL c_primary) (vf x7 c_expr) (vf j7 c_next) (vf aX c_levelOf) x y (fun y=>lo 1 51 (b5 E5 136 1) (jB x y) (KCM [(1,48)] 16)) (fun z=>some (.l (qK x z).1 (qK x z).2)):=by kernel_rfl
def mW{β:Type}(c_is:bn1→Option bs0)(c_unary:yD→Option xV)(c_primary:nF→Option nA)(c_expr:mM→Option mO)(c_next:aM→Option aL)(c_levelOf:lA→Option jZ)(x:pE)(y:Nat×FI×FI×FS×FI×Int×Int×Nat×Nat×FS×FS×ByteArray×Int×Int×ByteArray×Nat×FL×Int×Int×ByteArray×Nat×FL)(nx:dX→Option β)(dn:qS→Option β):Option β:=
 (c_next (y.2.2.2.2.2.1,y.2.2.2.2.2.2.1,y.1,y.2.1,y.2.2.1,y.2.2.2.1,y.2.2.2.2.1,y.2.2.2.2.2.2.2.1,y.2.2.2.2.2.2.2.2.2.1,y.2.2.2.2.2.2.2.2.1,y.2.2.2.2.2.2.2.2.2.2.1)).bind fun z818=>(c_levelOf z818.2.2.1).bind fun z820=>if(z820==x.1)=true then(c_next z818.2.2.2.2).bind fun z832=>if(z832.1==3)=true then(c_next z832.2.2.2.2).bind fun z844=>(c_expr (w (x.1+1),w (z844.2.2.2.2.1+1),z844.2.2.2.2.2)).bind fun z857=>Sum.elim (fun z857a=>if(x.1==4)=true then dn (.inl (z857a.2.2.2.2.2.2.2.1,z857a.2.2.2.2.2.2.2.2.1,z857a.2.2.2.2.2.2.2.2.2.1,z857a.2.2.2.2.2.2.2.2.2.2.1,z857a.2.2.2.2.2.2.2.2.2.2.2.1,z857a.2.2.2.2.2.1,z857a.2.2.2.2.2.2.1,z857a.2.2.2.2.2.2.2.2.2.2.2.2.1,z857a.2.2.2.2.2.2.2.2.2.2.2.2.2.2.1,z857a.2.2.2.2.2.2.2.2.2.2.2.2.2.1,z857a.2.2.2.2.2.2.2.2.2.2.2.2.2.2.2,z844.2.2.1,20,0,y.2.2.2.2.2.2.2.2.2.2.2.1,2,fun j=>[i64 (if 0+j=0 then y.2.2.2.2.2.2.2.2.2.2.2.2.1 else y.2.2.2.2.2.2.2.2.2.2.2.2.2.2.2.2.2.1),i64 (if 0+j=0 then y.2.2.2.2.2.2.2.2.2.2.2.2.2.1 else y.2.2.2.2.2.2.2.2.2.2.2.2.2.2.2.2.2.2.1),st (if 0+j=0 then y.2.2.2.2.2.2.2.2.2.2.2.2.2.2.1 else y.2.2.2.2.2.2.2.2.2.2.2.2.2.2.2.2.2.2.2.1),V.ro 4 (if 0+j=0 then y.2.2.2.2.2.2.2.2.2.2.2.2.2.2.2.1 else y.2.2.2.2.2.2.2.2.2.2.2.2.2.2.2.2.2.2.2.2.1) fun j_1=>if 0+j=0 then y.2.2.2.2.2.2.2.2.2.2.2.2.2.2.2.2.1 j_1 else y.2.2.2.2.2.2.2.2.2.2.2.2.2.2.2.2.2.2.2.2.2 j_1],z857a.1,z857a.2.1,z857a.2.2.1,z857a.2.2.2.1,z857a.2.2.2.2.1))else nx (.inr (z857a.2.2.2.2.2.2.2.1,z857a.2.2.2.2.2.2.2.2.1,z857a.2.2.2.2.2.2.2.2.2.1,z857a.2.2.2.2.2.2.2.2.2.2.1,z857a.2.2.2.2.2.2.2.2.2.2.2.1,z857a.2.2.2.2.2.1,z857a.2.2.2.2.2.2.1,z857a.2.2.2.2.2.2.2.2.2.2.2.2.1,z857a.2.2.2.2.2.2.2.2.2.2.2.2.2.2.1,z857a.2.2.2.2.2.2.2.2.2.2.2.2.2.1,z857a.2.2.2.2.2.2.2.2.2.2.2.2.2.2.2,z844.2.2.1,20,0,y.2.2.2.2.2.2.2.2.2.2.2.1,2,fun j=>[i64 (if 0+j=0 then y.2.2.2.2.2.2.2.2.2.2.2.2.1 else y.2.2.2.2.2.2.2.2.2.2.2.2.2.2.2.2.2.1),i64 (if 0+j=0 then y.2.2.2.2.2.2.2.2.2.2.2.2.2.1 else y.2.2.2.2.2.2.2.2.2.2.2.2.2.2.2.2.2.2.1),st (if 0+j=0 then y.2.2.2.2.2.2.2.2.2.2.2.2.2.2.1 else y.2.2.2.2.2.2.2.2.2.2.2.2.2.2.2.2.2.2.2.1),V.ro 4 (if 0+j=0 then y.2.2.2.2.2.2.2.2.2.2.2.2.2.2.2.1 else y.2.2.2.2.2.2.2.2.2.2.2.2.2.2.2.2.2.2.2.2.1) fun j_1=>if 0+j=0 then y.2.2.2.2.2.2.2.2.2.2.2.2.2.2.2.2.1 j_1 else y.2.2.2.2.2.2.2.2.2.2.2.2.2.2.2.2.2.2.2.2.2 j_1],z857a.1,z857a.2.1,z857a.2.2.1,z857a.2.2.2.1,z857a.2.2.2.2.1))) (fun z857b=>dn (.inr (.inl z857b))) z857 else dn (.inl (z832.2.2.2.2.2.2.1,z832.2.2.2.2.2.2.2.1,z832.2.2.2.2.2.2.2.2.1,z832.2.2.2.2.2.2.2.2.2.1,z832.2.2.2.2.2.2.2.2.2.2.1,z832.2.2.2.2.1,z832.2.2.2.2.2.1,z832.2.2.2.2.2.2.2.2.2.2.2.1,z832.2.2.2.2.2.2.2.2.2.2.2.2.2.1,z832.2.2.2.2.2.2.2.2.2.2.2.2.1,z832.2.2.2.2.2.2.2.2.2.2.2.2.2.2,y.2.2.2.2.2.2.2.2.2.2.2))else dn (.inl (z818.2.2.2.2.2.2.1,z818.2.2.2.2.2.2.2.1,z818.2.2.2.2.2.2.2.2.1,z818.2.2.2.2.2.2.2.2.2.1,z818.2.2.2.2.2.2.2.2.2.2.1,z818.2.2.2.2.1,z818.2.2.2.2.2.1,z818.2.2.2.2.2.2.2.2.2.2.2.1,z818.2.2.2.2.2.2.2.2.2.2.2.2.2.1,z818.2.2.2.2.2.2.2.2.2.2.2.2.1,z818.2.2.2.2.2.2.2.2.2.2.2.2.2.2,y.2.2.2.2.2.2.2.2.2.2.2))
theorem dx5{β:Type}(c_is c_unary)(c_primary c_expr)(c_next c_levelOf)(x)(y)(nx:dX→Option β)(dn):mW c_is c_unary c_primary c_expr c_next c_levelOf x y nx dn=(mW c_is c_unary c_primary c_expr c_next c_levelOf x y (fun y=>some (.inl y)) (fun z=>some (.inr z))).bind fun r=>Sum.elim nx dn r:=by
 unfold mW
 repeat' first|exact n0|refine n1 fun _=>?_|refine n2 ?_ ?_|refine n3 (fun _=>?_) fun _=>?_|rfl
theorem eh9(c_is c_unary)(c_primary c_expr)(c_next c_levelOf)(x)(y)(lo:f5):n8 E5 (ftb 109 wA bs9 c_is (ft2 145 pD af3 c_unary (ft2 146 eL rE c_primary (ft2 136 x7 iE c_expr (ftb 22 j7 y6 c_next (ftb 78 aX nU c_levelOf ca0)))))) lo 1 51 (b5 E5 136 1) (jB x (.inr y)) (KCM [(1,48)] 16)=mW (vf wA c_is) (vf pD c_unary) (vf eL c_primary) (vf x7 c_expr) (vf j7 c_next) (vf aX c_levelOf) x y (fun y=>lo 1 51 (b5 E5 136 1) (jB x y) (KCM [(1,48)] 16)) (fun z=>some (.l (qK x z).1 (qK x z).2)):=by kernel_rfl
noncomputable def wW(c_is:bn1→Option bs0)(c_unary:yD→Option xV)(c_primary:nF→Option nA)(c_expr:mM→Option mO)(c_next:aM→Option aL)(c_levelOf:lA→Option jZ)(q:Nat)(x:pE):dX→Option qS:=lpG (Sum.elim (fun y=>mY c_is c_unary c_primary c_expr c_next c_levelOf x y (fun y=>some (.inl y)) (fun z=>some (.inr z))) (fun y=>mW c_is c_unary c_primary c_expr c_next c_levelOf x y (fun y=>some (.inl y)) (fun z=>some (.inr z)))) q
theorem fd5(c_is)(h_is:Lw E5 109 wA bs9 c_is)(c_unary)(h_unary:Lw E5 145 pD af3 c_unary)(c_primary)(h_primary:Lw E5 146 eL rE c_primary)(c_expr)(h_expr:Lw E5 136 x7 iE c_expr)(c_next)(h_next:Lw E5 22 j7 y6 c_next)(c_levelOf)(h_levelOf:Lw E5 78 aX nU c_levelOf)(q:Nat)(x:pE):Ll E5 (b5 E5 136 1) (jB x) (qK x) (wW c_is c_unary c_primary c_expr c_next c_levelOf q x):=
 slp (fk h_is (fk2 h_unary (fk2 h_primary (fk2 h_expr (fk h_next (fk h_levelOf a8)))))) hX5 (fun lo y=>by
  rcases y with y|y
  ·exact(ec7 c_is c_unary c_primary c_expr c_next c_levelOf x y lo).trans (by rw[eh2,do3,bq9,yX,iD,as7];exact dz3 _ _ _ _ _ _ _ _ _ _)
  ·exact(eh9 c_is c_unary c_primary c_expr c_next c_levelOf x y lo).trans (by rw[eh2,do3,bq9,yX,iD,as7];exact dx5 _ _ _ _ _ _ _ _ _ _)) (fun z=>by rcases z with z|z|z<;>kernel_rfl) q
def xU{β:Type}(c_is:bn1→Option bs0)(c_unary:yD→Option xV)(c_primary:nF→Option nA)(c_expr:mM→Option mO)(c_next:aM→Option aL)(c_levelOf:lA→Option jZ)(l_exprR_l1:dX→Option qS)(x:pE)(dn:bi7→Option β):Option β:=
 if(x.1==3)=true then(c_is (⟨#[33]⟩,x.2)).bind fun z12=>if z12.1=true then(c_unary (⟨#[33]⟩,3,z12.2)).bind fun z26=>Sum.elim (fun z26a=>dn (.inl z26a)) (fun z26b=>dn (.inr (.inl z26b))) z26 else if(x.1==7)=true then(c_is (⟨#[45]⟩,z12.2)).bind fun z40=>if z40.1=true then(c_unary (⟨#[45]⟩,7,z40.2)).bind fun z54=>Sum.elim (fun z54a=>dn (.inl z54a)) (fun z54b=>dn (.inr (.inl z54b))) z54 else if(x.1==8)=true then(c_primary z40.2).bind fun z67=>Sum.elim (fun z67a=>dn (.inl z67a)) (fun z67b=>dn (.inr (.inl z67b))) z67 else(c_expr (w (x.1+1),z40.2)).bind fun z81=>Sum.elim (fun z81a=>(l_exprR_l1 (.inl (z81a.2.2.2.2.2.2.2.1,z81a.2.2.2.2.2.2.2.2.1,z81a.2.2.2.2.2.2.2.2.2.1,z81a.2.2.2.2.2.2.2.2.2.2.1,z81a.2.2.2.2.2.2.2.2.2.2.2.1,z81a.2.2.2.2.2.1,z81a.2.2.2.2.2.2.1,z81a.2.2.2.2.2.2.2.2.2.2.2.2.1,z81a.2.2.2.2.2.2.2.2.2.2.2.2.2.2.1,z81a.2.2.2.2.2.2.2.2.2.2.2.2.2.1,z81a.2.2.2.2.2.2.2.2.2.2.2.2.2.2.2,z81a.1,z81a.2.1,z81a.2.2.1,z81a.2.2.2.1,z81a.2.2.2.2.1))).bind fun z577=>Sum.elim (fun z577a=>dn (.inr (.inr (20,0,z577a.2.2.2.2.2.2.2.2.2.2.2.1,z577a.2.2.2.2.2.2.2.2.2.2.2.2.1,z577a.2.2.2.2.2.2.2.2.2.2.2.2.2.1,z577a.2.2.2.2.2.2.2.2.2.2.2.2.2.2.1,z577a.2.2.2.2.2.2.2.2.2.2.2.2.2.2.2.1,z577a.2.2.2.2.2.2.2.2.2.2.2.2.2.2.2.2.1,z577a.2.2.2.2.2.2.2.2.2.2.2.2.2.2.2.2.2.1,z577a.2.2.2.2.2.2.2.2.2.2.2.2.2.2.2.2.2.2.1,z577a.2.2.2.2.2.2.2.2.2.2.2.2.2.2.2.2.2.2.2.1,z577a.2.2.2.2.2.2.2.2.2.2.2.2.2.2.2.2.2.2.2.2.1,z577a.2.2.2.2.2.2.2.2.2.2.2.2.2.2.2.2.2.2.2.2.2,z577a.2.2.2.2.2.1,z577a.2.2.2.2.2.2.1,z577a.1,z577a.2.1,z577a.2.2.1,z577a.2.2.2.1,z577a.2.2.2.2.1,z577a.2.2.2.2.2.2.2.1,z577a.2.2.2.2.2.2.2.2.2.1,z577a.2.2.2.2.2.2.2.2.1,z577a.2.2.2.2.2.2.2.2.2.2.1)))) (fun z577b=>Sum.elim (fun z577ba=>dn (.inr (.inl z577ba))) (fun z577bb=>dn (.inl (z577bb.2.2.2.2.2.2.2.2.2.2.2.1,z577bb.2.2.2.2.2.2.2.2.2.2.2.2.1,z577bb.2.2.2.2.2.2.2.2.2.2.2.2.2.1,z577bb.2.2.2.2.2.2.2.2.2.2.2.2.2.2.1,z577bb.2.2.2.2.2.2.2.2.2.2.2.2.2.2.2,z577bb.2.2.2.2.2.1,z577bb.2.2.2.2.2.2.1,z577bb.1,z577bb.2.1,z577bb.2.2.1,z577bb.2.2.2.1,z577bb.2.2.2.2.1,z577bb.2.2.2.2.2.2.2.1,z577bb.2.2.2.2.2.2.2.2.2.1,z577bb.2.2.2.2.2.2.2.2.1,z577bb.2.2.2.2.2.2.2.2.2.2.1))) z577b) z577) (fun z81b=>dn (.inr (.inl z81b))) z81 else if(x.1==8)=true then(c_primary z12.2).bind fun z592=>Sum.elim (fun z592a=>dn (.inl z592a)) (fun z592b=>dn (.inr (.inl z592b))) z592 else(c_expr (w (x.1+1),z12.2)).bind fun z606=>Sum.elim (fun z606a=>(l_exprR_l1 (.inl (z606a.2.2.2.2.2.2.2.1,z606a.2.2.2.2.2.2.2.2.1,z606a.2.2.2.2.2.2.2.2.2.1,z606a.2.2.2.2.2.2.2.2.2.2.1,z606a.2.2.2.2.2.2.2.2.2.2.2.1,z606a.2.2.2.2.2.1,z606a.2.2.2.2.2.2.1,z606a.2.2.2.2.2.2.2.2.2.2.2.2.1,z606a.2.2.2.2.2.2.2.2.2.2.2.2.2.2.1,z606a.2.2.2.2.2.2.2.2.2.2.2.2.2.1,z606a.2.2.2.2.2.2.2.2.2.2.2.2.2.2.2,z606a.1,z606a.2.1,z606a.2.2.1,z606a.2.2.2.1,z606a.2.2.2.2.1))).bind fun z607=>Sum.elim (fun z607a=>dn (.inr (.inr (20,0,z607a.2.2.2.2.2.2.2.2.2.2.2.1,z607a.2.2.2.2.2.2.2.2.2.2.2.2.1,z607a.2.2.2.2.2.2.2.2.2.2.2.2.2.1,z607a.2.2.2.2.2.2.2.2.2.2.2.2.2.2.1,z607a.2.2.2.2.2.2.2.2.2.2.2.2.2.2.2.1,z607a.2.2.2.2.2.2.2.2.2.2.2.2.2.2.2.2.1,z607a.2.2.2.2.2.2.2.2.2.2.2.2.2.2.2.2.2.1,z607a.2.2.2.2.2.2.2.2.2.2.2.2.2.2.2.2.2.2.1,z607a.2.2.2.2.2.2.2.2.2.2.2.2.2.2.2.2.2.2.2.1,z607a.2.2.2.2.2.2.2.2.2.2.2.2.2.2.2.2.2.2.2.2.1,z607a.2.2.2.2.2.2.2.2.2.2.2.2.2.2.2.2.2.2.2.2.2,z607a.2.2.2.2.2.1,z607a.2.2.2.2.2.2.1,z607a.1,z607a.2.1,z607a.2.2.1,z607a.2.2.2.1,z607a.2.2.2.2.1,z607a.2.2.2.2.2.2.2.1,z607a.2.2.2.2.2.2.2.2.2.1,z607a.2.2.2.2.2.2.2.2.1,z607a.2.2.2.2.2.2.2.2.2.2.1)))) (fun z607b=>Sum.elim (fun z607ba=>dn (.inr (.inl z607ba))) (fun z607bb=>dn (.inl (z607bb.2.2.2.2.2.2.2.2.2.2.2.1,z607bb.2.2.2.2.2.2.2.2.2.2.2.2.1,z607bb.2.2.2.2.2.2.2.2.2.2.2.2.2.1,z607bb.2.2.2.2.2.2.2.2.2.2.2.2.2.2.1,z607bb.2.2.2.2.2.2.2.2.2.2.2.2.2.2.2,z607bb.2.2.2.2.2.1,z607bb.2.2.2.2.2.2.1,z607bb.1,z607bb.2.1,z607bb.2.2.1,z607bb.2.2.2.1,z607bb.2.2.2.2.1,z607bb.2.2.2.2.2.2.2.1,z607bb.2.2.2.2.2.2.2.2.2.1,z607bb.2.2.2.2.2.2.2.2.1,z607bb.2.2.2.2.2.2.2.2.2.2.1))) z607b) z607) (fun z606b=>dn (.inr (.inl z606b))) z606 else if(x.1==7)=true then(c_is (⟨#[45]⟩,x.2)).bind fun z623=>if z623.1=true then(c_unary (⟨#[45]⟩,7,z623.2)).bind fun z637=>Sum.elim (fun z637a=>dn (.inl z637a)) (fun z637b=>dn (.inr (.inl z637b))) z637 else if(x.1==8)=true then(c_primary z623.2).bind fun z650=>Sum.elim (fun z650a=>dn (.inl z650a)) (fun z650b=>dn (.inr (.inl z650b))) z650 else(c_expr (w (x.1+1),z623.2)).bind fun z664=>Sum.elim (fun z664a=>(l_exprR_l1 (.inl (z664a.2.2.2.2.2.2.2.1,z664a.2.2.2.2.2.2.2.2.1,z664a.2.2.2.2.2.2.2.2.2.1,z664a.2.2.2.2.2.2.2.2.2.2.1,z664a.2.2.2.2.2.2.2.2.2.2.2.1,z664a.2.2.2.2.2.1,z664a.2.2.2.2.2.2.1,z664a.2.2.2.2.2.2.2.2.2.2.2.2.1,z664a.2.2.2.2.2.2.2.2.2.2.2.2.2.2.1,z664a.2.2.2.2.2.2.2.2.2.2.2.2.2.1,z664a.2.2.2.2.2.2.2.2.2.2.2.2.2.2.2,z664a.1,z664a.2.1,z664a.2.2.1,z664a.2.2.2.1,z664a.2.2.2.2.1))).bind fun z665=>Sum.elim (fun z665a=>dn (.inr (.inr (20,0,z665a.2.2.2.2.2.2.2.2.2.2.2.1,z665a.2.2.2.2.2.2.2.2.2.2.2.2.1,z665a.2.2.2.2.2.2.2.2.2.2.2.2.2.1,z665a.2.2.2.2.2.2.2.2.2.2.2.2.2.2.1,z665a.2.2.2.2.2.2.2.2.2.2.2.2.2.2.2.1,z665a.2.2.2.2.2.2.2.2.2.2.2.2.2.2.2.2.1,z665a.2.2.2.2.2.2.2.2.2.2.2.2.2.2.2.2.2.1,z665a.2.2.2.2.2.2.2.2.2.2.2.2.2.2.2.2.2.2.1,z665a.2.2.2.2.2.2.2.2.2.2.2.2.2.2.2.2.2.2.2.1,z665a.2.2.2.2.2.2.2.2.2.2.2.2.2.2.2.2.2.2.2.2.1,z665a.2.2.2.2.2.2.2.2.2.2.2.2.2.2.2.2.2.2.2.2.2,z665a.2.2.2.2.2.1,z665a.2.2.2.2.2.2.1,z665a.1,z665a.2.1,z665a.2.2.1,z665a.2.2.2.1,z665a.2.2.2.2.1,z665a.2.2.2.2.2.2.2.1,z665a.2.2.2.2.2.2.2.2.2.1,z665a.2.2.2.2.2.2.2.2.1,z665a.2.2.2.2.2.2.2.2.2.2.1)))) (fun z665b=>Sum.elim (fun z665ba=>dn (.inr (.inl z665ba))) (fun z665bb=>dn (.inl (z665bb.2.2.2.2.2.2.2.2.2.2.2.1,z665bb.2.2.2.2.2.2.2.2.2.2.2.2.1,z665bb.2.2.2.2.2.2.2.2.2.2.2.2.2.1,z665bb.2.2.2.2.2.2.2.2.2.2.2.2.2.2.1,z665bb.2.2.2.2.2.2.2.2.2.2.2.2.2.2.2,z665bb.2.2.2.2.2.1,z665bb.2.2.2.2.2.2.1,z665bb.1,z665bb.2.1,z665bb.2.2.1,z665bb.2.2.2.1,z665bb.2.2.2.2.1,z665bb.2.2.2.2.2.2.2.1,z665bb.2.2.2.2.2.2.2.2.2.1,z665bb.2.2.2.2.2.2.2.2.1,z665bb.2.2.2.2.2.2.2.2.2.2.1))) z665b) z665) (fun z664b=>dn (.inr (.inl z664b))) z664 else if(x.1==8)=true then(c_primary x.2).bind fun z680=>Sum.elim (fun z680a=>dn (.inl z680a)) (fun z680b=>dn (.inr (.inl z680b))) z680 else(c_expr (w (x.1+1),x.2)).bind fun z694=>Sum.elim (fun z694a=>(l_exprR_l1 (.inl (z694a.2.2.2.2.2.2.2.1,z694a.2.2.2.2.2.2.2.2.1,z694a.2.2.2.2.2.2.2.2.2.1,z694a.2.2.2.2.2.2.2.2.2.2.1,z694a.2.2.2.2.2.2.2.2.2.2.2.1,z694a.2.2.2.2.2.1,z694a.2.2.2.2.2.2.1,z694a.2.2.2.2.2.2.2.2.2.2.2.2.1,z694a.2.2.2.2.2.2.2.2.2.2.2.2.2.2.1,z694a.2.2.2.2.2.2.2.2.2.2.2.2.2.1,z694a.2.2.2.2.2.2.2.2.2.2.2.2.2.2.2,z694a.1,z694a.2.1,z694a.2.2.1,z694a.2.2.2.1,z694a.2.2.2.2.1))).bind fun z695=>Sum.elim (fun z695a=>dn (.inr (.inr (20,0,z695a.2.2.2.2.2.2.2.2.2.2.2.1,z695a.2.2.2.2.2.2.2.2.2.2.2.2.1,z695a.2.2.2.2.2.2.2.2.2.2.2.2.2.1,z695a.2.2.2.2.2.2.2.2.2.2.2.2.2.2.1,z695a.2.2.2.2.2.2.2.2.2.2.2.2.2.2.2.1,z695a.2.2.2.2.2.2.2.2.2.2.2.2.2.2.2.2.1,z695a.2.2.2.2.2.2.2.2.2.2.2.2.2.2.2.2.2.1,z695a.2.2.2.2.2.2.2.2.2.2.2.2.2.2.2.2.2.2.1,z695a.2.2.2.2.2.2.2.2.2.2.2.2.2.2.2.2.2.2.2.1,z695a.2.2.2.2.2.2.2.2.2.2.2.2.2.2.2.2.2.2.2.2.1,z695a.2.2.2.2.2.2.2.2.2.2.2.2.2.2.2.2.2.2.2.2.2,z695a.2.2.2.2.2.1,z695a.2.2.2.2.2.2.1,z695a.1,z695a.2.1,z695a.2.2.1,z695a.2.2.2.1,z695a.2.2.2.2.1,z695a.2.2.2.2.2.2.2.1,z695a.2.2.2.2.2.2.2.2.2.1,z695a.2.2.2.2.2.2.2.2.1,z695a.2.2.2.2.2.2.2.2.2.2.1)))) (fun z695b=>Sum.elim (fun z695ba=>dn (.inr (.inl z695ba))) (fun z695bb=>dn (.inl (z695bb.2.2.2.2.2.2.2.2.2.2.2.1,z695bb.2.2.2.2.2.2.2.2.2.2.2.2.1,z695bb.2.2.2.2.2.2.2.2.2.2.2.2.2.1,z695bb.2.2.2.2.2.2.2.2.2.2.2.2.2.2.1,z695bb.2.2.2.2.2.2.2.2.2.2.2.2.2.2.2,z695bb.2.2.2.2.2.1,z695bb.2.2.2.2.2.2.1,z695bb.1,z695bb.2.1,z695bb.2.2.1,z695bb.2.2.2.1,z695bb.2.2.2.2.1,z695bb.2.2.2.2.2.2.2.1,z695bb.2.2.2.2.2.2.2.2.2.1,z695bb.2.2.2.2.2.2.2.2.1,z695bb.2.2.2.2.2.2.2.2.2.2.1))) z695b) z695) (fun z694b=>dn (.inr (.inl z694b))) z694
theorem hc3{β:Type}(c_is c_unary)(c_primary c_expr)(c_next c_levelOf)(l_exprR_l1)(x)(dn:bi7→Option β):xU c_is c_unary c_primary c_expr c_next c_levelOf l_exprR_l1 x dn=(xU c_is c_unary c_primary c_expr c_next c_levelOf l_exprR_l1 x some).bind dn:=by
 unfold xU
 repeat' first|exact n0|refine n1 fun _=>?_|refine n2 ?_ ?_|refine n3 (fun _=>?_) fun _=>?_|rfl
theorem ha5(c_is c_unary)(c_primary c_expr)(c_next c_levelOf)(l_exprR_l1)(x):f7 E5 (ftb 109 wA bs9 c_is (ft2 145 pD af3 c_unary (ft2 146 eL rE c_primary (ft2 136 x7 iE c_expr (ftb 22 j7 y6 c_next (ftb 78 aX nU c_levelOf ca0)))))) (lt3 1 (fun _=>true) (b5 E5 136 1) (jB x) (qK x) l_exprR_l1 lo0) 136 (dd3 x).1 (dd3 x).2 K=xU (vf wA c_is) (vf pD c_unary) (vf eL c_primary) (vf x7 c_expr) (vf j7 c_next) (vf aX c_levelOf) (lf (b5 E5 136 1) (jB x) l_exprR_l1) x (fun z=>some (.c (di1 z))):=by kernel_rfl
theorem hn7(c_is)(h_is:Lw E5 109 wA bs9 c_is)(c_unary)(h_unary:Lw E5 145 pD af3 c_unary)(c_primary)(h_primary:Lw E5 146 eL rE c_primary)(c_expr)(h_expr:Lw E5 136 x7 iE c_expr)(c_next)(h_next:Lw E5 22 j7 y6 c_next)(c_levelOf)(h_levelOf:Lw E5 78 aX nU c_levelOf)(q:Nat):Lw E5 136 dd3 di1 fun x=>xU c_is c_unary c_primary c_expr c_next c_levelOf (wW c_is c_unary c_primary c_expr c_next c_levelOf q x) x some:=sof hW5 hX5 (fk h_is (fk2 h_unary (fk2 h_primary (fk2 h_expr (fk h_next (fk h_levelOf a8)))))) (fun x=>(lk3 (fd5 c_is h_is c_unary h_unary c_primary h_primary c_expr h_expr c_next h_next c_levelOf h_levelOf q x) b6)) fun x=>(ha5 c_is c_unary c_primary c_expr c_next c_levelOf (wW c_is c_unary c_primary c_expr c_next c_levelOf q x) x).trans (by rw[eh2,do3,bq9,yX,iD,as7,fc1,hc3]<;>rfl)
def sN{β:Type}(c_opens:rH→Option rJ)(c_expr:mM→Option mO)(x:du5)(dn:aq4→Option β):Option β:=
 (c_opens (x.1,x.2.2)).bind fun z12=>Sum.elim (fun z12a=>(c_expr (x.2.1,z12a)).bind fun z25=>Sum.elim (fun z25a=>dn (.inl (19,0,x.1,z25a.1,z25a.2.1,z25a.2.2.1,z25a.2.2.2.1,z25a.2.2.2.2.1,z25a.2.2.2.2.2.1,w (z25a.2.2.2.2.2.2.1-1),z25a.2.2.2.2.2.2.2))) (fun z25b=>dn (.inr z25b)) z25) (fun z12b=>dn (.inr z12b)) z12
theorem go1{β:Type}(c_opens c_expr)(x)(dn:aq4→Option β):sN c_opens c_expr x dn=(sN c_opens c_expr x some).bind dn:=by
 unfold sN
 repeat' first|exact n0|refine n1 fun _=>?_|refine n2 ?_ ?_|refine n3 (fun _=>?_) fun _=>?_|rfl
theorem ge4(c_opens c_expr)(x):f7 E5 (ft2 88 cW oX c_opens (ft2 136 x7 iE c_expr ca0)) lo0 145 (cq4 x).1 (cq4 x).2 K=sN (vf cW c_opens) (vf x7 c_expr) x (fun z=>some (.c (cm5 z))):=by kernel_rfl
theorem gq8(c_opens)(h_opens:Lw E5 88 cW oX c_opens)(c_expr)(h_expr:Lw E5 136 x7 iE c_expr)(q:Nat):Lw E5 145 cq4 cm5 fun x=>sN c_opens c_expr x some:=sof hW5 hX5 (fk2 h_opens (fk2 h_expr a8)) (fun _=>b6) fun x=>(ge4 c_opens c_expr x).trans (by rw[bl7,yX,go1]<;>rfl)
def jQ{β:Type}(c_next:aM→Option aL)(c_literal:qU→Option qY)(c_take:mF→Option mG)(c_must:jT→Option iO)(c_name:tF→Option tC)(c_is:bn1→Option bs0)(c_opens:rH→Option rJ)(c_expr:mM→Option mO)(x:ch1)(dn:xG→Option β):Option β:=
 (c_next x).bind fun z11=>if(z11.1==2)=true then(c_literal z11.2.2.2.2).bind fun z23=>Sum.elim (fun z23a=>dn (.inl z23a)) (fun z23b=>dn (.inr (.inl z23b))) z23 else(c_take (⟨#[116,114,117,101]⟩,z11.2.2.2.2)).bind fun z37=>if z37.1=true then dn (.inr (.inr (16,1,⟨#[]⟩,z37.2)))else(c_take (⟨#[102,97,108,115,101]⟩,z37.2)).bind fun z50=>if z50.1=true then dn (.inr (.inr (16,0,⟨#[]⟩,z50.2)))else(c_take (⟨#[116,108,109]⟩,z50.2)).bind fun z63=>if z63.1=true then(c_must (⟨#[46]⟩,z63.2)).bind fun z76=>Sum.elim (fun z76a=>(c_name z76a).bind fun z88=>Sum.elim (fun z88a=>dn (.inr (.inr (18,0,z88a)))) (fun z88b=>dn (.inr (.inl z88b))) z88) (fun z76b=>dn (.inr (.inl z76b))) z76 else(c_is (⟨#[40]⟩,z63.2)).bind fun z103=>if z103.1=true then(c_opens (⟨#[40]⟩,z103.2)).bind fun z116=>Sum.elim (fun z116a=>(c_expr (1,z116a)).bind fun z129=>Sum.elim (fun z129a=>(c_must (⟨#[41]⟩,z129a.2.2.2.2.2)).bind fun z142=>Sum.elim (fun z142a=>dn (.inl (z129a.1,z129a.2.1,z129a.2.2.1,z129a.2.2.2.1,z129a.2.2.2.2.1,z142a.1,w (z142a.2.1-1),z142a.2.2))) (fun z142b=>dn (.inr (.inl z142b))) z142) (fun z129b=>dn (.inr (.inl z129b))) z129) (fun z116b=>dn (.inr (.inl z116b))) z116 else(c_name z103.2).bind fun z157=>Sum.elim (fun z157a=>dn (.inr (.inr (17,0,z157a)))) (fun z157b=>dn (.inr (.inl z157b))) z157
theorem et3{β:Type}(c_next c_literal)(c_take c_must)(c_name c_is)(c_opens c_expr)(x)(dn:xG→Option β):jQ c_next c_literal c_take c_must c_name c_is c_opens c_expr x dn=(jQ c_next c_literal c_take c_must c_name c_is c_opens c_expr x some).bind dn:=by
 unfold jQ
 repeat' first|exact n0|refine n1 fun _=>?_|refine n2 ?_ ?_|refine n3 (fun _=>?_) fun _=>?_|rfl
theorem fa5(c_next c_literal)(c_take c_must)(c_name c_is)(c_opens c_expr)(x):f7 E5 (ftb 22 j7 y6 c_next (ft2 138 eF qF c_literal (ftb 84 aC lG c_take (ft2 53 t8 jA c_must (ft2 54 fR wU c_name (ftb 109 wA bs9 c_is (ft2 88 cW oX c_opens (ft2 136 x7 iE c_expr ca0)))))))) lo0 146 (bb1 x).1 (bb1 x).2 K=jQ (vf j7 c_next) (vf eF c_literal) (vf aC c_take) (vf t8 c_must) (vf fR c_name) (vf wA c_is) (vf cW c_opens) (vf x7 c_expr) x (fun z=>some (.c (bc9 z))):=by kernel_rfl
theorem fc4(c_next)(h_next:Lw E5 22 j7 y6 c_next)(c_literal)(h_literal:Lw E5 138 eF qF c_literal)(c_take)(h_take:Lw E5 84 aC lG c_take)(c_must)(h_must:Lw E5 53 t8 jA c_must)(c_name)(h_name:Lw E5 54 fR wU c_name)(c_is)(h_is:Lw E5 109 wA bs9 c_is)(c_opens)(h_opens:Lw E5 88 cW oX c_opens)(c_expr)(h_expr:Lw E5 136 x7 iE c_expr)(q:Nat):Lw E5 146 bb1 bc9 fun x=>jQ c_next c_literal c_take c_must c_name c_is c_opens c_expr x some:=sof hW5 hX5 (fk h_next (fk2 h_literal (fk h_take (fk2 h_must (fk2 h_name (fk h_is (fk2 h_opens (fk2 h_expr a8)))))))) (fun _=>b6) fun x=>(fa5 c_next c_literal c_take c_must c_name c_is c_opens c_expr x).trans (by rw[iD,ay1,ae0,vY,bs7,eh2,bl7,yX,et3]<;>rfl)
def cc5:bi7→mO:=Sum.elim (fun z=>.inl z) (Sum.elim (fun z=>.inr z) (fun z=>.inl (z.1,z.2.1,z.2.2.1,2,gP [[i64 z.2.2.2.1,i64 z.2.2.2.2.1,st z.2.2.2.2.2.1,.ro 4 z.2.2.2.2.2.2.1 z.2.2.2.2.2.2.2.1],[i64 z.2.2.2.2.2.2.2.2.1,i64 z.2.2.2.2.2.2.2.2.2.1,st z.2.2.2.2.2.2.2.2.2.2.1,.ro 4 z.2.2.2.2.2.2.2.2.2.2.2.1 z.2.2.2.2.2.2.2.2.2.2.2.2.1]],z.2.2.2.2.2.2.2.2.2.2.2.2.2)))
theorem gg5{args:List V}{L:List (Option Chunk)}(z:bi7)(h:SC E5 136 args L (di1 z)):SC E5 136 args L (iE (cc5 z)):=by
 rcases z with z|z|z
 ·exact h
 ·exact h
 ·exact de2 h
def bi2:aq4→xV:=Sum.elim (fun z=>.inl (z.1,z.2.1,z.2.2.1,1,gP [[i64 z.2.2.2.1,i64 z.2.2.2.2.1,st z.2.2.2.2.2.1,.ro 4 z.2.2.2.2.2.2.1 z.2.2.2.2.2.2.2.1]],z.2.2.2.2.2.2.2.2)) (fun z=>.inr z)
theorem ga6{args:List V}{L:List (Option Chunk)}(z:aq4)(h:SC E5 145 args L (cm5 z)):SC E5 145 args L (af3 (bi2 z)):=by
 rcases z with z|z
 ·exact de2 h
 ·exact h
def ad6:xG→nA:=Sum.elim (fun z=>.inl z) (Sum.elim (fun z=>.inr z) (fun z=>.inl (z.1,z.2.1,z.2.2.1,0,fun _=>[],z.2.2.2)))
theorem ek3{args:List V}{L:List (Option Chunk)}(z:xG)(h:SC E5 146 args L (bc9 z)):SC E5 146 args L (rE (ad6 z)):=by
 rcases z with z|z|z
 ·exact h
 ·exact h
 ·exact hf8 h
noncomputable def exS:Nat→(mM→Option mO)×(yD→Option xV)×(nF→Option nA)
 |0=>(fun _=>none,fun _=>none,fun _=>none)
 |q+1=>(fun x=>(xU ((is q)) ((exS q).2.1) ((exS q).2.2) ((exS q).1) ((next q)) ((oF q)) (wW ((is q)) ((exS q).2.1) ((exS q).2.2) ((exS q).1) ((next q)) ((oF q)) q x) x some).map cc5,
  fun x=>(sN ((tP q)) ((exS q).1) x some).map bi2,
  fun x=>(jQ ((next q)) ((kK q)) ((take q)) ((mK q)) ((name q)) ((is q)) ((tP q)) ((exS q).1) x some).map ad6)
theorem gw3:∀q,(∀x z,(exS q).1 x=some z→SC E5 136 (x7 x).1 (x7 x).2 (iE z))∧(∀x z,(exS q).2.1 x=some z→SC E5 145 (pD x).1 (pD x).2 (af3 z))∧(∀x z,(exS q).2.2 x=some z→SC E5 146 (eL x).1 (eL x).2 (rE z))
 |0=>⟨(fun x z h=>by cases h),(fun x z h=>by cases h),(fun x z h=>by cases h)⟩
 |q+1=>by
  obtain⟨h0,h1,h2⟩:=gw3 q
  exact⟨(fun x z h=>by
   obtain⟨y,hy,rfl⟩:=Option.map_eq_some_iff.1 h
   exact gg5 y (hn7 ((is q)) ((cy9 q)) ((exS q).2.1) (h1) ((exS q).2.2) (h2) ((exS q).1) (h0) ((next q)) ((lU q)) ((oF q)) ((co5 q)) q x y hy)),(fun x z h=>by
   obtain⟨y,hy,rfl⟩:=Option.map_eq_some_iff.1 h
   exact ga6 y (gq8 ((tP q)) ((cg4 q)) ((exS q).1) (h0) q x y hy)),(fun x z h=>by
   obtain⟨y,hy,rfl⟩:=Option.map_eq_some_iff.1 h
   exact ek3 y (fc4 ((next q)) ((lU q)) ((kK q)) ((ai5 q)) ((take q)) ((ax9 q)) ((mK q)) ((rL q)) ((name q)) ((ax2 q)) ((is q)) ((cy9 q)) ((tP q)) ((cg4 q)) ((exS q).1) (h0) q x y hy))⟩
noncomputable def af8(q:Nat):mM→Option mO:=(exS q).1
theorem bg5(q:Nat):Lw E5 136 x7 iE (af8 q):=(gw3 q).1
noncomputable def eb7(q:Nat):yD→Option xV:=(exS q).2.1
noncomputable def bg8(q:Nat):nF→Option nA:=(exS q).2.2
end Go.Proofs.YtjfkkokeegpeiaaGreatDoor
/- Plain laws on bytes: what a range over a string meets. -/
namespace Go.Proofs.Lx
open Go
def j6(g:Int→Bool)(l:List UInt8):Nat:=(l.takeWhile (fun b=>g b.toNat)).length
def eo8(g:Int→Bool):Prop:=∀c:Int,128≤c→g c=g 128
theorem cc2(s:ByteArray)(p n:Nat)(h:p<s.size)(hn:1≤n)(hc:∀k,1≤k→k<n→p+k<s.size∧128≤(s.get! (p+k)).toNat):
 1≤n∧p+n≤s.size∧∀j,p<j→j<p+n→128≤(s.get! j).toNat:=by
 refine⟨hn,?_,fun j h1 h2=>?_⟩
 ·rcases Nat.lt_or_ge 1 n with hl|hl
  ·have:=(hc (n-1) (by omega) (by omega)).1
   omega
  ·omega
 ·have:=(hc (j-p) (by omega) (by omega)).2
  rwa [show p+(j-p)=j by omega]at this
theorem vX (s : ByteArray) (p : Nat) (h : p < s.size) :
    1 ≤ (Utf8.decode s p).2 ∧ p + (Utf8.decode s p).2 ≤ s.size ∧ ∀ j, p < j → j < p + (Utf8.decode s p).2 → 128 ≤ (s.get! j).toNat := by
  have hc : ∀ k, (decide (p + k < s.size) && ((s.get! (p + k)).toNat / 64 == 2)) = true → p + k < s.size ∧ 128 ≤ (s.get! (p + k)).toNat := by
    intro k hk
    simp at hk
    omega
  have one := cc2 s p 1 h (by omega) (fun k h1 h2 => by omega)
  simp only [Utf8.decode]
  split
  · exact one
  · split
    · rename_i hx
      rw [Bool.and_eq_true] at hx
      have h1 := hc 1 hx.2
      split
      · exact cc2 s p 2 h (by omega) (fun k hk1 hk2 => by obtain rfl : k = 1 := by omega
                                                          exact h1)
      · exact one
    · split
      · rename_i hx
        rw [Bool.and_eq_true, Bool.and_eq_true] at hx
        have h1 := hc 1 hx.1.2
        have h2 := hc 2 hx.2
        split
        · refine cc2 s p 3 h (by omega) (fun k hk1 hk2 => ?_)
          have : k = 1 ∨ k = 2 := by omega
          rcases this with rfl | rfl
          · exact h1
          · exact h2
        · exact one
      · split
        · rename_i hx
          rw [Bool.and_eq_true, Bool.and_eq_true, Bool.and_eq_true] at hx
          have h1 := hc 1 hx.1.1.2
          have h2 := hc 2 hx.1.2
          have h3 := hc 3 hx.2
          split
          · refine cc2 s p 4 h (by omega) (fun k hk1 hk2 => ?_)
            have : k = 1 ∨ k = 2 ∨ k = 3 := by omega
            rcases this with rfl | rfl | rfl
            · exact h1
            · exact h2
            · exact h3
          · exact one
        · exact one
theorem co4(s:ByteArray)(p:Nat)(h:p<s.size):s.data.toList[p]? =some (s.get! p):=by
 rw[List.getElem?_eq_getElem (by simpa using h)]
 congr 1
 have:=get_at s p h
 simp only[Nat.add_zero]at this
 rw[this]
 rfl
theorem sG(s:ByteArray)(g:Int→Bool)(hf:eo8 g)(p:Nat)(h:p<s.size):g ((Utf8.decode s p).1:Int)=g ((s.get! p).toNat:Int):=by
 have e:=get_at s p h
 simp only[Nat.add_zero]at e
 by_cases ha:(s.get! p).toNat<128
 ·rw[decode_ascii s p h (by rw[←e];exact ha),←e]
 ·have hh:=(decode_high s p h (by rw[←e];omega)).1
  rw[hf _ (by omega),hf ((s.get! p).toNat:Int) (by omega)]
theorem iS(s:ByteArray)(p:Nat)(h:p<s.size):s.data.toList.drop p=s.get! p::s.data.toList.drop (p+1):=by
 have hg:=co4 s p h
 rw[List.getElem?_eq_some_iff]at hg
 obtain⟨hl,he⟩:=hg
 rw[List.drop_eq_getElem_cons hl,he]
theorem fv2(s:ByteArray)(g:Int→Bool)(p:Nat)(h:p<s.size)(hg:g ((s.get! p).toNat:Int)=false):j6 g (s.data.toList.drop p)=0:=by
 rw[iS s p h]
 simp[j6,hg]
theorem fx3(s:ByteArray)(g:Int→Bool)(n:Nat):∀p,p+n≤s.size→(∀j,p≤j→j<p+n→g ((s.get! j).toNat:Int)=true)→j6 g (s.data.toList.drop p)=n+j6 g (s.data.toList.drop (p+n)):=by
 induction n with
 |zero=>intro p _ _;simp
 |succ n ih=>
  intro p h hg
  have h0:=hg p (by omega) (by omega)
  rw[iS s p (by omega)]
  have:=ih (p+1) (by omega) (fun j h1 h2=>hg j (by omega) (by omega))
  have e:p+(n+1)=p+1+n:=by omega
  rw[e,j6,List.takeWhile_cons,h0]
  simp only[if_true,List.length_cons]
  unfold j6 at this
  unfold j6
  omega
theorem gi3(s:ByteArray)(g:Int→Bool):j6 g (s.data.toList.drop s.size)=0:=by
 rw[List.drop_of_length_le (by simp)];rfl
theorem fo8(s:ByteArray)(g:Int→Bool)(hf:eo8 g)(p:Nat)(h:p<s.size)(hg:g ((Utf8.decode s p).1:Int)=true):
 j6 g (s.data.toList.drop p)=(Utf8.decode s p).2+j6 g (s.data.toList.drop (p+(Utf8.decode s p).2)):=by
 obtain⟨h1,h2,h3⟩:=vX s p h
 refine fx3 s g _ p h2 fun j hj1 hj2=>?_
 rw[sG s g hf p h]at hg
 rcases Nat.eq_or_lt_of_le hj1 with rfl|hlt
 ·exact hg
 ·have hb:=h3 j hlt hj2
  have hcont:1< (Utf8.decode s p).2:=by omega
  have hhi:128≤(s.get! p).toNat:=by
   rcases Nat.lt_or_ge (s.get! p).toNat 128 with hl|hl
   ·have e:=get_at s p h
    simp only[Nat.add_zero]at e
    rw[decode_ascii s p h (by rw[←e];exact hl)]at hcont
    simp at hcont
   ·exact hl
  rw[hf _ (by omega)]at hg⊢
  exact hg
end Go.Proofs.Lx
/- Plain: which symbol a string begins with. -/
namespace Go.Proofs.Lx
open Go
theorem dM(r:ByteArray)(a b:Nat):(r.extract a b).data.toList=(r.data.toList.drop a).take (b-a):=by
 simp[ByteArray.data_extract,List.extract_eq_take_drop]
def sym1:List UInt8:=[123,125,40,41,61,59,44,58,60,62,43,45,42,47,33,46]
def aj1:List (List UInt8):=[[124,124],[38,38],[60,61],[62,61],[61,61],[33,61]]
def ac8(l:List UInt8):Nat:=
 if 1<l.length∧l.take 2∈aj1 then 2 else cond ((l.head?).any (fun b=>sym1.contains b)) 1 0
theorem fj8(l:List UInt8)(c:UInt8):l.contains c=true↔0≤Lib.indexByte l c:=by
 induction l with
 |nil=>simp[Lib.indexByte]
 |cons b l ih=>
  have hg:=Lib.indexByte_ge l c
  have e:Lib.indexByte (b::l) c=if b==c then 0 else if Lib.indexByte l c== -1 then-1 else Lib.indexByte l c+1:=rfl
  rw[e,List.contains_cons,Bool.or_eq_true,ih]
  by_cases hb:b=c
  ·subst hb;simp
  ·have hb':(b==c)=false:=by simpa using hb
   have hc':¬((c==b)=true):=by simpa using fun h=>hb h.symm
   simp only[hb',Bool.false_eq_true,if_false,hc',false_or]
   by_cases hm:Lib.indexByte l c= -1
   ·simp[hm]
   ·have:(Lib.indexByte l c== -1)=false:=by simpa using hm
    simp only[this,Bool.false_eq_true,if_false]
    omega
theorem gt8{r t:ByteArray}(h1:1<r.size)(ht:t=r.extract 0 2)(hm:t.data.toList∈aj1):ac8 r.data.toList=2:=by
 rw[ht,dM]at hm
 simp only[List.drop_zero]at hm
 unfold ac8
 rw[if_pos ⟨by simpa using h1,hm⟩]
theorem ei6{r:ByteArray}(h0:0<r.size)(hm:¬(1<r.data.toList.length∧r.data.toList.take 2∈aj1)):ac8 r.data.toList=if(0:Int)≤Lib.indexByte sym1 r[0]then 1 else 0:=by
 have hg:=iS r 0 h0
 have e:=get_at r 0 h0
 simp only[Nat.add_zero]at e
 rw[List.drop_zero,e]at hg
 unfold ac8
 rw[if_neg hm,hg]
 simp only[List.head?_cons,Option.any_some]
 by_cases h:(0:Int)≤Lib.indexByte sym1 r[0]
 ·rw[if_pos h,(fj8 _ _).2 h];rfl
 ·rw[if_neg h,Bool.eq_false_iff.2 (fun h'=>h ((fj8 _ _).1 h'))];rfl
theorem ef0{r t:ByteArray}(ht:t=r.extract 0 2)(hm:∀l∈aj1,t≠⟨l.toArray⟩):¬(1<r.data.toList.length∧r.data.toList.take 2∈aj1):=by
 rintro⟨_,h⟩
 refine hm _ h ?_
 rw[ht]
 have:=dM r 0 2
 simp only[List.drop_zero]at this
 rw[←this]
end Go.Proofs.Lx
/- Plain: the tokens of a source, as a relation. -/
namespace Go.Proofs.Lx
open Go
structure Tkn where
 k:Int
 a:Int
 t:ByteArray
 n:Int
def Tkn.cells(x:Tkn):List Value:=[.int .i64 x.k,.int .i64 x.a,.string x.t,.int .i64 x.n]
def p8(c:Int):Bool:=decide (97≤c∧c≤122)||decide (65≤c∧c≤90)
def l6(c:Int):Bool:=decide (48≤c∧c≤57)
def bD(c:Int):Bool:=decide (c=32∨c=9∨c=10∨c=13)
def aE(c:Int):Bool:=p8 c||l6 c
def bh8:Tkn:=⟨0,0,⟨#[]⟩,0⟩
def bc0(n:Int)(l:List UInt8):Int:=l.foldl (fun n b=>10*n+((b.toNat:Int)-48)) n
def by5(r:ByteArray):Tkn×Int:=if 12<j6 aE r.data.toList then(bh8,2)else(⟨1,0,r.extract 0 (j6 aE r.data.toList),0⟩,0)
def rO(t:ByteArray):Tkn×Int:=
 if 1<t.size∧t.data.toList[0]? =some 48 then(bh8,11)
 else if bc0 0 t.data.toList>2147483647 then(bh8,5)
 else(⟨2,0,t,bc0 0 t.data.toList⟩,0)
def lD(r:ByteArray):Tkn×Int:=if ac8 r.data.toList=0 then(bh8,11)else(⟨3,0,r.extract 0 (ac8 r.data.toList),0⟩,0)
def wM(s:ByteArray)(p:Nat):Tkn×Int:=
 if p8 (s.get! p).toNat then by5 (s.extract p s.size)
 else if l6 (s.get! p).toNat then rO ((s.extract p s.size).extract 0 (j6 l6 (s.extract p s.size).data.toList))
 else lD (s.extract p s.size)
def qV(c:Int):Bool:= !(c==10)
inductive Lex(s:ByteArray):Nat→List Tkn→List Tkn×Nat×Int→Prop where
 |fin {p:Nat} {acc:List Tkn}:s.size≤p→Lex s p acc (acc++[⟨0,s.size,⟨#[]⟩,0⟩],0,0)
 |white {p:Nat} {acc:List Tkn} {r:List Tkn×Nat×Int}:p<s.size→bD (s.get! p).toNat=true→Lex s (p+1) acc r→Lex s p acc r
 |hash {p:Nat} {acc:List Tkn} {r:List Tkn×Nat×Int}:p<s.size→(s.get! p).toNat=35→Lex s (p+j6 qV (s.data.toList.drop p)) acc r→Lex s p acc r
 |tok {p:Nat} {acc:List Tkn} {r:List Tkn×Nat×Int} {x:Tkn}:p<s.size→bD (s.get! p).toNat=false→(s.get! p).toNat≠35→wM s p=(x,0)→Lex s (p+x.t.size) (acc++[{x with a:=p}]) r→Lex s p acc r
 |err {p:Nat} {acc:List Tkn} {x:Tkn} {e:Int}:p<s.size→bD (s.get! p).toNat=false→(s.get! p).toNat≠35→wM s p=(x,e)→e≠0→Lex s p acc ([],p,e)
def Bd(s:ByteArray)(p d:Nat):Prop:=(∀j,p≤j→j<d→(s.get! j).toNat<128)∨d=s.size∨(d<s.size∧(s.get! d).toNat<128)
theorem Bd.step{s:ByteArray}{p d:Nat}(h:Bd s p d)(hp:p<d)(hd:d≤s.size):p+(Utf8.decode s p).2≤d∧Bd s (p+(Utf8.decode s p).2) d:=by
 have hl:=vX s p (by omega)
 refine⟨?_,?_⟩
 ·rcases h with h|h| ⟨h1,h2⟩
  ·have h0:=h p (Nat.le_refl _) hp
   have e:=get_at s p (by omega)
   simp only[Nat.add_zero]at e
   rw[decode_ascii s p (by omega) (by rw[←e];exact h0)]
   exact hp
  ·omega
  ·rcases Nat.lt_or_ge d (p+(Utf8.decode s p).2)with hlt|hge
   ·have:=hl.2.2 d hp hlt
    omega
   ·exact hge
 ·exact h.imp (fun h j hj1 hj2=>h j (by omega) hj2) id
theorem Bd.refl(s:ByteArray)(p d:Nat)(h:d≤p):Bd s p d:=.inl fun j h1 h2=>by omega
end Go.Proofs.Lx

