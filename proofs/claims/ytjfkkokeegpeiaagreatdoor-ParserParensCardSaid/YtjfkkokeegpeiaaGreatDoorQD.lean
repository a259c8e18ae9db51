/- Texts joined. -/
import Derived.Test.YtjfkkokeegpeiaaGreatDoorQC
import Derived.Test.YtjfkkokeegpeiaaGreatDoorProg
import Derived.Test.YtjfkkokeegpeiaaGreatDoorRows
import Derived.Lib.Strings
import Derived.Lib.ItoaNum
import Derived.Lib.Join
import Derived.Lib.Repeat
import Derived.Lib.LaidTab
import Derived.Lib.AppendIntMem
import Derived.Lib.IndexMore
import Derived.Recover
import Derived.Shelf.Strings.Builder1
import Derived.Shelf.Strings.Builder2
import Derived.Shelf.Strings.OnBuilder
import Derived.Shelf.Small.Strs
import Derived.Shelf.Small.Wraps
import Derived.Shelf.Strings.BuilderF
import Derived.Shelf.Strings.BuilderK
import Derived.Shelf.Strings.Builder2Cap
import Derived.Shelf.Strconv.Itoa0
import Derived.Shelf.Strconv.Itoa1
import Derived.Shelf.LaysM
import Derived.Shelf.Strconv.Itoa2
import Derived.Shelf.Strconv.Itoa3
import Derived.Shelf.Strings.Search1
import Derived.Shelf.Strings.Search2
import Derived.Shelf.Strings.Search3
import Derived.Shelf.Strings.Shaped
import Derived.Shelf.Strings.Prefix
import Derived.Shelf.Bits.Mul64
import Derived.Shelf.Strings.Repeat
import Derived.Shelf.Strings.BuilderCap
import Derived.Test.YtjfkkokeegpeiaaGreatDoorCards
import Derived.Test.YtjfkkokeegpeiaaGreatDoorTie
import Derived.Deep.DeepHandedRow
import Derived.Deep.DeepWitnessRowRef
import Derived.LaidMore
import Derived.Laws.RangeAny
import Derived.Lib.Bytealg
/- The environment of this seat: variables of the packages, library functions by contract. -/
set_option linter.unusedSimpArgs false
set_option linter.unusedVariables false
set_option linter.unusedSimpArgs false
set_option linter.unusedVariables false
namespace Go.Proofs.YtjfkkokeegpeiaaGreatDoor
open Go Go.Am
abbrev i64(n:Int):V:=.sc (.int .i64 n)
abbrev bo(b:Bool):V:=.sc (.bool b)
abbrev st(s:ByteArray):V:=.sc (.string s)
def tabL:List (List V):=[
 [.sc (.string ⟨#[74]⟩),i64 1,i64 1,i64 0,i64 0,i64 0,i64 0],
 [.sc (.string ⟨#[107,74]⟩),i64 1000,i64 1,i64 0,i64 0,i64 0,i64 0],
 [.sc (.string ⟨#[87,104]⟩),i64 3600,i64 1,i64 0,i64 0,i64 0,i64 0],
 [.sc (.string ⟨#[66]⟩),i64 1,i64 0,i64 1,i64 0,i64 0,i64 0],
 [.sc (.string ⟨#[107,66]⟩),i64 1000,i64 0,i64 1,i64 0,i64 0,i64 0],
 [.sc (.string ⟨#[115]⟩),i64 1,i64 0,i64 0,i64 1,i64 0,i64 0],
 [.sc (.string ⟨#[109,105,110]⟩),i64 60,i64 0,i64 0,i64 1,i64 0,i64 0],
 [.sc (.string ⟨#[104]⟩),i64 3600,i64 0,i64 0,i64 1,i64 0,i64 0],
 [.sc (.string ⟨#[100,101,103]⟩),i64 1,i64 0,i64 0,i64 0,i64 1,i64 0],
 [.sc (.string ⟨#[75]⟩),i64 1,i64 0,i64 0,i64 0,i64 0,i64 1],
 [.sc (.string ⟨#[87]⟩),i64 1,i64 1,i64 0,i64 (-1),i64 0,i64 0],
 [.sc (.string ⟨#[107,87]⟩),i64 1000,i64 1,i64 0,i64 (-1),i64 0,i64 0],
 [.sc (.string ⟨#[66,112,115]⟩),i64 1,i64 0,i64 1,i64 (-1),i64 0,i64 0]]
def tabV:V:=.ro 7 13 (fun j=>tabL.getD j [])
def globF:Nat→Option (List V)
 |0=>some [tabV]
 |_=>none
def strL:List (List V)→Option (List ByteArray)
 | []=>some []
 | [.sc (.string s)]::l=>match strL l with|some r=>some (s::r) |none=>none
 |_=>none
def extF(f:FuncId)(args:List V):Option V:=
 if f=110 then match args with
  | [.sc (.string s),.sc (.string sub)]=>if s.size<4294967281 then some (bo (Lib.contains s.data.toList sub.data.toList))else none
  |_=>none
 else if f=83 then match args with
  | [.sc (.string s),.sc (.int .u8 c)]=>some (i64 (Lib.indexByte s.data.toList (UInt8.ofNat c.toNat)))
  |_=>none
 else if f=41 then match args with
  | [.sc (.int .i64 n)]=>if-9223372036854775808≤n∧n≤9223372036854775807 then some (st ⟨(Lib.itoa n).toArray⟩)else none
  |_=>none
 else if f=35 then match args with
  | [.sc (.slice none 0 0),.sc (.string _)]=>some (st ByteArray.empty)
  | [.ro 1 n g,.sc (.string sep)]=>match strL ((List.range n).map g)with
   |some xs=>if(Lib.join (xs.map (·.data.toList)) sep.data.toList).length≤140737488355328∧n≤140737488355328 then some (st ⟨(Lib.join (xs.map (·.data.toList)) sep.data.toList).toArray⟩)else none
   |none=>none
  |_=>none
 else if f=71 then match args with
  | [.sc (.string s),.sc (.int .i64 c)]=>if 0≤c∧c≤1000∧s.size≤1000 then some (st ⟨(Lib.repeatL s.data.toList c.toNat).toArray⟩)else none
  |_=>none
 else none
def way(a b:Nat):Am.Way:=if b∈[23,27,28,33,39,56,57,67,69,76,89,95,96,97,99,111,112,113,114,115,116,117,118,120,121,122,123,136,138,145,146]then .giveM else if b∈[8,9,12,15,18,20,24,29,81]then .give else if b∈[35,63]then .lend else .plain
def litF(f:FuncId):Bool:=false
def dfnF(f:FuncId):Bool:=f==8
def idleF(f:FuncId):Option Nat:=if f=21 then some 3 else none
open Go.RowKit
noncomputable def E:Env:={P:=Tryz.prog,glob:=globF,ext:=extF,way:=way,lit:=litF,code:=fun f=>(Tryz.prog.funcs[f]?).bind annF,inv:=[(1,intCell .i64),(2,allCells (Lib.pow10Tab.map fun z=>Value.int .u64 z).toArray)],dfn:=dfnF,idle:=idleF,rows:=true,sett:=fun _=>true}
noncomputable def E0:Env:={P:=Tryz.prog,glob:=fun _=>none,ext:=fun _ _=>none,way:=fun _ _=>.plain,lit:=fun _=>false,code:=fun f=>(Tryz.prog.funcs[f]?).bind annF}
noncomputable def rest65:ACode:=match E0.code 21 with|some (.seq _ b)=>b|_=>.skip
def fr65:List V:=[.junk,.junk,.junk,.sc .nilIface]++List.replicate 2 (.sc undef)++[.sc .nilIface]++List.replicate 13 (.sc undef)
def T0:CallT:=fun _ _ _ _=>none
def L0:LoopT:=fun _ _ _ _ _=>none
def isNormal:Ex→Bool| .normal=>true|_=>false
theorem run65:execK E0 T0 L0 rest65 {fr:=fr65,H:=hp [],nx:=0,rt:=0,me:=21} (fun e _=>if isNormal e then some (.c (.pan .junk))else none)=some (.c (.pan .junk)):=by kernel_rfl
theorem body65(a:Act)(w:World)(hd:a.defers=[])(ht:denL (fun _=>none) (fun _=>False) w (fun _=>False) fr65 a.tmps.toList):Code.wp Tryz.prog rest65.erase (fun e a' w'=>e= .normal∧a'.defers=[]∧Below w.heap.size w w') a w:=by
 obtain⟨e,s',h1,h2⟩:=exec_sound (E:=E0) (ca:=T0) (lo:=L0) (fun _ _ _ _ _ h=>by cases h) (SoundX.none fun _ _=>rfl) (fun _ _ _ _ _ _ h=>by cases h) rest65 _ _ _ run65
 split at h1
 case isFalse=>cases h1
 rename_i he
 have he:e= .normal:=by cases e<;>simp_all [isNormal]
 subst he
 refine wp_mono (h2 (fun _=>none) (fun _=>False) (fun _=>False) a w ⟨ht,⟨fun i c hc=>(by simp[hp]at hc),fun _ _=>rfl,fun i b m h=>(by cases h),fun i b m h=>(by cases h),fun i j b m m' h=>(by cases h),fun b hb=>hb.elim⟩,⟨fun _=>hd,fun d h=>(by rw[hd]at h;cases h),fun h=>nomatch (show true=false from h)⟩,fun i hi=>hi.elim,⟨fun g cs h=>(by cases h),fun p hp=>(by cases hp)⟩,fun i hi=>absurd hi (Nat.not_lt_zero i)⟩) fun e' a' w' hp=>?_
 obtain⟨β',S',D',q1,q2,q3,q4,q5,q6⟩:=hp.ex
 cases e'<;>simp only[ExR]at q1
 exact⟨rfl,q2.df.1 rfl,below_of_evo q3⟩
theorem idle65 : Idle Tryz.prog 21 3 := by
  intro us w hus
  refine ⟨?_, ?_⟩
  · have hb : ∃ fn, Tryz.prog.funcs[21]? = some fn ∧ fn.body.isSome = true ∧ fn.name ≠ "runtime.NumGoroutine" := ⟨_, Tryz.func21, by kernel_rfl, by intro e; exact absurd e (by decide +kernel)⟩
    obtain ⟨fn, h1, h2, h3⟩ := hb
    have hb : ¬ fn.body = none := by intro hb; rw [hb] at h2; cases h2
    simp [callFunc, Sem.run_bind, h1, h3, hb, program, Sem.run]
  · match us, hus with
    | ⟨[x, y, z]⟩, _ =>
      refine callsD_of_wpS Tryz.func21 rfl fun c₀ cs hu => ?_
      apply wpS_seq
      apply wpS_region
      simp [wpOpsS, go_sem, recoverD, hu, Tryz.ntmps21, Exit.thenS]
      refine wpS_of_wp ?_
      refine (congrArg (fun c => Code.wp Tryz.prog c _ _ _) (?_ : rest65.erase = _)).mp (wp_mono (body65 _ w rfl ?_) ?_)
      · kernel_rfl
      · simp [fr65, denL, den]
        exact ⟨_, _, ⟨rfl, rfl⟩, _, _, rfl, _, rfl⟩
      · rintro e a' w' ⟨rfl, hd, hb⟩
        refine ⟨hd, _, ?_, _, by simp [results, Tryz.results21, go_sem]; rfl, ⟨_, rfl⟩, rfl, hb⟩
        cases c₀; simp_all
set_option maxRecDepth 100000 in
theorem hW:WF E:=WF.of E (fun _=>rfl) (by kernel_rfl) (fun g n h=>by
 have h':idleF g=some n:=h
 unfold idleF at h'
 split at h'
 ·rename_i hg;subst hg;cases h';exact idle65
 ·cases h')
end Go.Proofs.YtjfkkokeegpeiaaGreatDoor
/-
 DERIVED: THE SHELF's CONTRACTS AT THIS DUMP, IN PLAIN WORDS (tools/lay-plain.mjs out of 'TryzShelf.lean', which tools/lay-shelf.mjs wrote): THE SAME DECLARATIONS UNDER THE SAME NAMES: 'import', 'namespace', 'open', 'def', 'theorem' AND NOTHING ELSE: no command of the shelf's: FOR A HAND-IN. Each laying: the table of numbers ('.._ren') and one theorem, a field a fact of the dump's own or the kernel's comparison; each contract: ONE APPLICATION.
-/
namespace Go.Proofs
open Go.Shelf
open Go.RowKit in
def Tryz.lays169_ren:Go.Shelf.Ren:=⟨fun|169=>37|n=>n,fun|70=>74|9=>9|0=>0|72=>77|37=>75|127=>106|3=>3|5=>5|n=>n,fun|n=>n⟩
theorem Tryz.lays169:Go.Proofs.Lays.n169 Tryz.prog Tryz.lays169_ren:={
 mixed:=by kernel_rfl
 f169:=Tryz.func37.trans (congrArg some (by kernel_rfl))
 t0:=Tryz.underlying0
 a0:=Tryz.isAgg0
 z0:=Tryz.sizeOf0
 v0:=Tryz.zeroValue0
 t3:=Tryz.underlying3
 a3:=Tryz.isAgg3
 z3:=Tryz.sizeOf3
 v3:=Tryz.zeroValue3
 t9:=Tryz.underlying9
 a9:=Tryz.isAgg9
 z9:=Tryz.sizeOf9
 v9:=Tryz.zeroValue9
 t37:=Tryz.underlying75
 a37:=Tryz.isAgg75
 z37:=Tryz.sizeOf75
 v37:=Tryz.zeroValue75
 t70:=Tryz.underlying74
 a70:=Tryz.isAgg74
 z70:=Tryz.sizeOf74
 v70:=Tryz.zeroValue74
 t72:=Tryz.underlying77
 a72:=Tryz.isAgg77
 z72:=Tryz.sizeOf77
 v72:=Tryz.zeroValue77
 t127:=Tryz.underlying106
 a127:=Tryz.isAgg106
 z127:=Tryz.sizeOf106
 v127:=Tryz.zeroValue106}
open Go.RowKit in
open Go.RowKit in
open Go.RowKit in
open Go.RowKit in
open Go.RowKit in
def Tryz.lays156_ren:Go.Shelf.Ren:=⟨fun|156=>35|165=>73|166=>70|169=>37|240=>100|241=>104|276=>125|277=>129|n=>n,fun|31=>48|9=>9|3=>3|4=>4|0=>0|20=>20|72=>77|76=>101|70=>74|37=>75|75=>100|127=>106|164=>130|5=>5|80=>83|n=>n,fun|n=>n⟩
theorem Tryz.lays156:Go.Proofs.Lays.n156 Tryz.prog Tryz.lays156_ren:={
 mixed:=by kernel_rfl
 f156:=Tryz.func35.trans (congrArg some (by kernel_rfl))
 f165:=Tryz.func73.trans (congrArg some (by kernel_rfl))
 f166:=Tryz.func70.trans (congrArg some (by kernel_rfl))
 f169:=Tryz.func37.trans (congrArg some (by kernel_rfl))
 f240:=Tryz.func100.trans (congrArg some (by kernel_rfl))
 f241:=Tryz.func104.trans (congrArg some (by kernel_rfl))
 f276:=Tryz.func125.trans (congrArg some (by kernel_rfl))
 f277:=Tryz.func129.trans (congrArg some (by kernel_rfl))
 t0:=Tryz.underlying0
 a0:=Tryz.isAgg0
 z0:=Tryz.sizeOf0
 v0:=Tryz.zeroValue0
 t3:=Tryz.underlying3
 a3:=Tryz.isAgg3
 z3:=Tryz.sizeOf3
 v3:=Tryz.zeroValue3
 t4:=Tryz.underlying4
 a4:=Tryz.isAgg4
 z4:=Tryz.sizeOf4
 v4:=Tryz.zeroValue4
 t9:=Tryz.underlying9
 a9:=Tryz.isAgg9
 z9:=Tryz.sizeOf9
 v9:=Tryz.zeroValue9
 t20:=Tryz.underlying20
 a20:=Tryz.isAgg20
 z20:=Tryz.sizeOf20
 v20:=Tryz.zeroValue20
 t31:=Tryz.underlying48
 a31:=Tryz.isAgg48
 z31:=Tryz.sizeOf48
 v31:=Tryz.zeroValue48
 t37:=Tryz.underlying75
 a37:=Tryz.isAgg75
 z37:=Tryz.sizeOf75
 v37:=Tryz.zeroValue75
 t70:=Tryz.underlying74
 a70:=Tryz.isAgg74
 z70:=Tryz.sizeOf74
 v70:=Tryz.zeroValue74
 t72:=Tryz.underlying77
 a72:=Tryz.isAgg77
 z72:=Tryz.sizeOf77
 v72:=Tryz.zeroValue77
 t75:=Tryz.underlying100
 a75:=Tryz.isAgg100
 z75:=Tryz.sizeOf100
 v75:=Tryz.zeroValue100
 t76:=Tryz.underlying101
 a76:=Tryz.isAgg101
 z76:=Tryz.sizeOf101
 v76:=Tryz.zeroValue101
 t127:=Tryz.underlying106
 a127:=Tryz.isAgg106
 z127:=Tryz.sizeOf106
 v127:=Tryz.zeroValue106
 t164:=Tryz.underlying130
 a164:=Tryz.isAgg130
 z164:=Tryz.sizeOf130
 v164:=Tryz.zeroValue130}
theorem Tryz.Builder_Extra_156:Builder.Extra Tryz.prog Tryz.lays156_ren:={
 sizeBuilder:=by kernel_rfl
 liesBuilder:=by kernel_rfl
 t5:=Tryz.underlying5
 a5:=Tryz.isAgg5
 z5:=Tryz.sizeOf5
 v5:=Tryz.zeroValue5
 infoByte:=by kernel_rfl
 cellsByte:=by kernel_rfl
 sizeByte:=by kernel_rfl
 neB5:=by decide}
open Go.RowKit in
theorem Tryz.strings_Join_none(a:Option Addr)(c:Nat)(sep:ByteArray)(w:World):
 Calls Tryz.prog 35 #[.slice a 0 c,.string sep] w fun e w'=>e= .returned (.string ⟨#[]⟩)∧w'=w:=Any.strings_Join_none Tryz.lays156 Tryz.Builder_Extra_156 a c sep w
open Go.RowKit in
theorem Tryz.strings_Join(bk o c:Nat)(xs:List ByteArray)(sep:ByteArray)(w:World)(hcells:∀(j:Nat) x,xs[j]? =some x→w.cell? ⟨bk,o+j,none⟩=some (.string x))(hbk:bk<w.heap.size)(hN:xs.length≤140737488355328)(hcap:xs.length≤c)(hlen:(Lib.join (xs.map (·.data.toList)) sep.data.toList).length≤140737488355328):
 Calls Tryz.prog 35 #[.slice (some ⟨bk,o,none⟩) xs.length c,.string sep] w fun e w'=>e= .returned (.string ⟨(Lib.join (xs.map (·.data.toList)) sep.data.toList).toArray⟩)∧Below w.heap.size w w':=Any.strings_Join Tryz.lays156 Tryz.Builder_Extra_156 bk o c xs sep w hcells hbk hN hcap hlen
def Tryz.lays137_ren:Go.Shelf.Ren:=⟨fun|137=>83|217=>108|266=>134|n=>n,fun|9=>9|5=>5|3=>3|n=>n,fun|n=>n⟩
theorem Tryz.lays137:Go.Proofs.Lays.n137 Tryz.prog Tryz.lays137_ren:={
 mixed:=by kernel_rfl
 f137:=Tryz.func83.trans (congrArg some (by kernel_rfl))
 f217:=Tryz.func108.trans (congrArg some (by kernel_rfl))
 f266:=Tryz.func134.trans (congrArg some (by kernel_rfl))
 t3:=Tryz.underlying3
 a3:=Tryz.isAgg3
 z3:=Tryz.sizeOf3
 v3:=Tryz.zeroValue3
 t5:=Tryz.underlying5
 a5:=Tryz.isAgg5
 z5:=Tryz.sizeOf5
 v5:=Tryz.zeroValue5
 t9:=Tryz.underlying9
 a9:=Tryz.isAgg9
 z9:=Tryz.sizeOf9
 v9:=Tryz.zeroValue9}
open Go.RowKit in
theorem Tryz.strings_IndexByte(s:ByteArray)(c:Int)(w:World):
 Calls Tryz.prog 83 #[.string s,.int .u8 c] w fun e w'=>e= .returned (.int .i64 (Lib.indexByte s.data.toList c.toNat.toUInt8))∧w'=w:=Any.strings_IndexByte Tryz.lays137 s c w
open Go.RowKit in
open Go.RowKit in
open Go.RowKit in
open Go.RowKit in
open Go.RowKit in
open Go.RowKit in
open Go.RowKit in
open Go.RowKit in
open Go.RowKit in
open Go.RowKit in
open Go.RowKit in
open Go.Lib in
open Go.Lib in
open Go.Lib in
open Go.Lib in
open Go.RowKit Go.Sort Go.Lib in
open Go.RowKit Go.Sort Go.Lib in
open Go.RowKit Go.Sort Go.Lib in
open Go.RowKit Go.Sort Go.Lib in
open Go.RowKit Go.Sort Go.Lib in
def Tryz.laysM171_ren:Go.Shelf.Ren:=⟨fun|171=>41|243=>79|246=>107|283=>130|284=>131|285=>132|286=>133|129=>140|317=>139|318=>141|319=>142|320=>143|337=>147|338=>148|n=>n,fun|3=>3|9=>9|2=>2|4=>4|171=>139|0=>0|53=>135|37=>75|5=>5|173=>142|212=>146|51=>132|20=>20|213=>147|46=>119|232=>151|233=>152|n=>n,fun|17=>2|18=>3|19=>4|n=>n⟩
theorem Tryz.laysM171:Go.Proofs.LaysM.n171 Tryz.prog Tryz.laysM171_ren:={
 mixed:=by kernel_rfl
 f129:=Tryz.func140.trans (congrArg some (by kernel_rfl))
 f171:=Tryz.func41.trans (congrArg some (by kernel_rfl))
 f243:=Tryz.func79.trans (congrArg some (by kernel_rfl))
 f246:=Tryz.func107.trans (congrArg some (by kernel_rfl))
 f283:=Tryz.func130.trans (congrArg some (by kernel_rfl))
 f284:=Tryz.func131.trans (congrArg some (by kernel_rfl))
 f285:=Tryz.func132.trans (congrArg some (by kernel_rfl))
 f286:=Tryz.func133.trans (congrArg some (by kernel_rfl))
 f317:=Tryz.func139.trans (congrArg some (by kernel_rfl))
 f318:=Tryz.func141.trans (congrArg some (by kernel_rfl))
 f319:=Tryz.func142.trans (congrArg some (by kernel_rfl))
 f320:=Tryz.func143.trans (congrArg some (by kernel_rfl))
 f337:=Tryz.func147.trans (congrArg some (by kernel_rfl))
 f338:=Tryz.func148.trans (congrArg some (by kernel_rfl))
 t0:=Tryz.underlying0
 a0:=Tryz.isAgg0
 z0:=Tryz.sizeOf0
 v0:=Tryz.zeroValue0
 t2:=Tryz.underlying2
 a2:=Tryz.isAgg2
 z2:=Tryz.sizeOf2
 v2:=Tryz.zeroValue2
 t3:=Tryz.underlying3
 a3:=Tryz.isAgg3
 z3:=Tryz.sizeOf3
 v3:=Tryz.zeroValue3
 t4:=Tryz.underlying4
 a4:=Tryz.isAgg4
 z4:=Tryz.sizeOf4
 v4:=Tryz.zeroValue4
 t5:=Tryz.underlying5
 a5:=Tryz.isAgg5
 z5:=Tryz.sizeOf5
 v5:=Tryz.zeroValue5
 t9:=Tryz.underlying9
 a9:=Tryz.isAgg9
 z9:=Tryz.sizeOf9
 v9:=Tryz.zeroValue9
 t20:=Tryz.underlying20
 a20:=Tryz.isAgg20
 z20:=Tryz.sizeOf20
 v20:=Tryz.zeroValue20
 t37:=Tryz.underlying75
 a37:=Tryz.isAgg75
 z37:=Tryz.sizeOf75
 v37:=Tryz.zeroValue75
 t46:=Tryz.underlying119
 a46:=Tryz.isAgg119
 z46:=Tryz.sizeOf119
 v46:=Tryz.zeroValue119
 t51:=Tryz.underlying132
 a51:=Tryz.isAgg132
 z51:=Tryz.sizeOf132
 v51:=Tryz.zeroValue132
 t53:=Tryz.underlying135
 a53:=Tryz.isAgg135
 z53:=Tryz.sizeOf135
 v53:=Tryz.zeroValue135
 t171:=Tryz.underlying139
 a171:=Tryz.isAgg139
 z171:=Tryz.sizeOf139
 v171:=Tryz.zeroValue139
 t173:=Tryz.underlying142
 a173:=Tryz.isAgg142
 z173:=Tryz.sizeOf142
 v173:=Tryz.zeroValue142
 t212:=Tryz.underlying146
 a212:=Tryz.isAgg146
 z212:=Tryz.sizeOf146
 v212:=Tryz.zeroValue146
 t213:=Tryz.underlying147
 a213:=Tryz.isAgg147
 z213:=Tryz.sizeOf147
 t232:=Tryz.underlying151
 a232:=Tryz.isAgg151
 z232:=Tryz.sizeOf151
 v232:=Tryz.zeroValue151
 t233:=Tryz.underlying152
 a233:=Tryz.isAgg152
 z233:=Tryz.sizeOf152
 v233:=Tryz.zeroValue152
 g17:=by kernel_rfl
 g18:=by kernel_rfl
 g19:=by kernel_rfl
 i0:=by kernel_rfl
 i2:=by kernel_rfl
 i3:=by kernel_rfl
 i4:=by kernel_rfl
 i5:=by kernel_rfl
 i9:=by kernel_rfl
 i20:=by kernel_rfl
 i37:=by kernel_rfl
 i46:=by kernel_rfl
 i51:=by kernel_rfl
 i53:=by kernel_rfl
 i171:=by kernel_rfl
 i173:=by kernel_rfl
 i212:=by kernel_rfl
 i232:=by kernel_rfl
 i233:=by kernel_rfl
 m17:=by kernel_rfl
 m18:=by kernel_rfl
 m19:=by kernel_rfl}
open Go.RowKit Go.Sort Go.Lib in
theorem Tryz.strconv_Itoa (n : Int) (h0 : -9223372036854775808 ≤ n) (h1 : n ≤ 9223372036854775807) (w : World) (htab : Lib.TabIs Tryz.prog w "internal/strconv.uint64pow10" .u64 Lib.pow10Tab) :
    Calls Tryz.prog 41 #[.int .i64 n] w fun e w' => e = .returned (.string ⟨(Lib.itoa n).toArray⟩) ∧ ∃ k os, w' = grow (w.drewN k) os := Any.strconv_Itoa Tryz.laysM171 n h0 h1 w htab
open Go.RowKit Go.Sort Go.Lib in
open Go.RowKit Go.Lib in
open Go.RowKit Go.Lib in
open Go.RowKit Go.Lib in
open Go.RowKit Go.Lib in
open Go.RowKit Go.Lib in
open Go.RowKit Go.Lib in
open Go.RowKit Go.Lib in
open Go.RowKit Go.Lib in
def Tryz.lays144_ren:Go.Shelf.Ren:=⟨fun|144=>110|143=>135|219=>144|217=>108|225=>149|224=>150|267=>151|266=>134|314=>152|n=>n,fun|9=>9|4=>4|3=>3|5=>5|46=>119|146=>133|51=>132|n=>n,fun|1=>1|n=>n⟩
theorem Tryz.lays144:Go.Proofs.Lays.n144 Tryz.prog Tryz.lays144_ren:={
 mixed:=by kernel_rfl
 f143:=Tryz.func135.trans (congrArg some (by kernel_rfl))
 f144:=Tryz.func110.trans (congrArg some (by kernel_rfl))
 f217:=Tryz.func108.trans (congrArg some (by kernel_rfl))
 f219:=Tryz.func144.trans (congrArg some (by kernel_rfl))
 f224:=Tryz.func150.trans (congrArg some (by kernel_rfl))
 f225:=Tryz.func149.trans (congrArg some (by kernel_rfl))
 f266:=Tryz.func134.trans (congrArg some (by kernel_rfl))
 f267:=Tryz.func151.trans (congrArg some (by kernel_rfl))
 f314:=Tryz.func152.trans (congrArg some (by kernel_rfl))
 t3:=Tryz.underlying3
 a3:=Tryz.isAgg3
 z3:=Tryz.sizeOf3
 v3:=Tryz.zeroValue3
 t4:=Tryz.underlying4
 a4:=Tryz.isAgg4
 z4:=Tryz.sizeOf4
 v4:=Tryz.zeroValue4
 t5:=Tryz.underlying5
 a5:=Tryz.isAgg5
 z5:=Tryz.sizeOf5
 v5:=Tryz.zeroValue5
 t9:=Tryz.underlying9
 a9:=Tryz.isAgg9
 z9:=Tryz.sizeOf9
 v9:=Tryz.zeroValue9
 t46:=Tryz.underlying119
 a46:=Tryz.isAgg119
 z46:=Tryz.sizeOf119
 v46:=Tryz.zeroValue119
 t51:=Tryz.underlying132
 a51:=Tryz.isAgg132
 z51:=Tryz.sizeOf132
 v51:=Tryz.zeroValue132
 t146:=Tryz.underlying133
 a146:=Tryz.isAgg133
 z146:=Tryz.sizeOf133
 v146:=Tryz.zeroValue133
 g1:=by kernel_rfl}
open Go.RowKit Go.Lib in
open Go.RowKit Go.Lib in
theorem Tryz.strings_Contains(s sub:ByteArray)(m:Int)(w:World)(hs:s.size<4294967281)(hm:w.cell? ⟨1,0,none⟩=some (.int .i64 m)):
 Calls Tryz.prog 110 #[.string s,.string sub] w fun e w'=>e= .returned (.bool (Lib.contains s.data.toList sub.data.toList))∧w'=w:=Any.strings_Contains Tryz.lays144 s sub m w hs hm
open Go.RowKit Go.Lib in
open Go.RowKit Go.Lib in
open Go.RowKit Go.Lib in
open Go.RowKit Go.Lib in
open Go.RowKit Go.Lib in
open Go.RowKit Go.Lib in
open Go.RowKit Go.Lib in
def Tryz.lays105_ren:Go.Shelf.Ren:=⟨fun|105=>71|212=>101|99=>102|165=>73|166=>70|170=>103|169=>37|263=>126|264=>127|206=>128|240=>100|241=>104|276=>125|277=>129|n=>n,fun|9=>9|3=>3|4=>4|20=>20|0=>0|46=>119|109=>120|5=>5|72=>77|76=>101|51=>132|146=>133|53=>135|148=>136|70=>74|37=>75|75=>100|127=>106|164=>130|80=>83|n=>n,fun|n=>n⟩
theorem Tryz.lays105:Go.Proofs.Lays.n105 Tryz.prog Tryz.lays105_ren:={
 mixed:=by kernel_rfl
 f99:=Tryz.func102.trans (congrArg some (by kernel_rfl))
 f105:=Tryz.func71.trans (congrArg some (by kernel_rfl))
 f165:=Tryz.func73.trans (congrArg some (by kernel_rfl))
 f166:=Tryz.func70.trans (congrArg some (by kernel_rfl))
 f169:=Tryz.func37.trans (congrArg some (by kernel_rfl))
 f170:=Tryz.func103.trans (congrArg some (by kernel_rfl))
 f206:=Tryz.func128.trans (congrArg some (by kernel_rfl))
 f212:=Tryz.func101.trans (congrArg some (by kernel_rfl))
 f240:=Tryz.func100.trans (congrArg some (by kernel_rfl))
 f241:=Tryz.func104.trans (congrArg some (by kernel_rfl))
 f263:=Tryz.func126.trans (congrArg some (by kernel_rfl))
 f264:=Tryz.func127.trans (congrArg some (by kernel_rfl))
 f276:=Tryz.func125.trans (congrArg some (by kernel_rfl))
 f277:=Tryz.func129.trans (congrArg some (by kernel_rfl))
 t0:=Tryz.underlying0
 a0:=Tryz.isAgg0
 z0:=Tryz.sizeOf0
 v0:=Tryz.zeroValue0
 t3:=Tryz.underlying3
 a3:=Tryz.isAgg3
 z3:=Tryz.sizeOf3
 v3:=Tryz.zeroValue3
 t4:=Tryz.underlying4
 a4:=Tryz.isAgg4
 z4:=Tryz.sizeOf4
 v4:=Tryz.zeroValue4
 t5:=Tryz.underlying5
 a5:=Tryz.isAgg5
 z5:=Tryz.sizeOf5
 v5:=Tryz.zeroValue5
 t9:=Tryz.underlying9
 a9:=Tryz.isAgg9
 z9:=Tryz.sizeOf9
 v9:=Tryz.zeroValue9
 t20:=Tryz.underlying20
 a20:=Tryz.isAgg20
 z20:=Tryz.sizeOf20
 v20:=Tryz.zeroValue20
 t37:=Tryz.underlying75
 a37:=Tryz.isAgg75
 z37:=Tryz.sizeOf75
 v37:=Tryz.zeroValue75
 t46:=Tryz.underlying119
 a46:=Tryz.isAgg119
 z46:=Tryz.sizeOf119
 v46:=Tryz.zeroValue119
 t51:=Tryz.underlying132
 a51:=Tryz.isAgg132
 z51:=Tryz.sizeOf132
 v51:=Tryz.zeroValue132
 t53:=Tryz.underlying135
 a53:=Tryz.isAgg135
 z53:=Tryz.sizeOf135
 v53:=Tryz.zeroValue135
 t70:=Tryz.underlying74
 a70:=Tryz.isAgg74
 z70:=Tryz.sizeOf74
 v70:=Tryz.zeroValue74
 t72:=Tryz.underlying77
 a72:=Tryz.isAgg77
 z72:=Tryz.sizeOf77
 v72:=Tryz.zeroValue77
 t75:=Tryz.underlying100
 a75:=Tryz.isAgg100
 z75:=Tryz.sizeOf100
 v75:=Tryz.zeroValue100
 t76:=Tryz.underlying101
 a76:=Tryz.isAgg101
 z76:=Tryz.sizeOf101
 v76:=Tryz.zeroValue101
 t109:=Tryz.underlying120
 a109:=Tryz.isAgg120
 z109:=Tryz.sizeOf120
 v109:=Tryz.zeroValue120
 t127:=Tryz.underlying106
 a127:=Tryz.isAgg106
 z127:=Tryz.sizeOf106
 v127:=Tryz.zeroValue106
 t146:=Tryz.underlying133
 a146:=Tryz.isAgg133
 z146:=Tryz.sizeOf133
 v146:=Tryz.zeroValue133
 t148:=Tryz.underlying136
 a148:=Tryz.isAgg136
 z148:=Tryz.sizeOf136
 v148:=Tryz.zeroValue136
 t164:=Tryz.underlying130
 a164:=Tryz.isAgg130
 z164:=Tryz.sizeOf130
 v164:=Tryz.zeroValue130}
theorem Tryz.Builder_Extra_105:Builder.Extra Tryz.prog Tryz.lays105_ren:={
 sizeBuilder:=by kernel_rfl
 liesBuilder:=by kernel_rfl
 t5:=Tryz.underlying5
 a5:=Tryz.isAgg5
 z5:=Tryz.sizeOf5
 v5:=Tryz.zeroValue5
 infoByte:=by kernel_rfl
 cellsByte:=by kernel_rfl
 sizeByte:=by kernel_rfl
 neB5:=by decide}
open Go.RowKit Go.Lib in
open Go.RowKit Go.Lib in
open Go.RowKit Go.Lib in
open Go.RowKit Go.Lib in
open Go.RowKit Go.Lib in
open Go.RowKit Go.Lib in
open Go.RowKit Go.Lib in
theorem Tryz.strings_Repeat(s:ByteArray)(c:Nat)(w:World)(hc:c≤9223372036854775807)(hlen:s.size*c≤140737488355328):
 Calls Tryz.prog 71 #[.string s,.int .i64 c] w fun e w'=>e= .returned (.string ⟨(Lib.repeatL s.data.toList c).toArray⟩)∧Below w.heap.size w w':=Any.strings_Repeat Tryz.lays105 Tryz.Builder_Extra_105 s c w hc hlen
end Go.Proofs
/- The library's contracts, as the environment has them; the examples hold. -/
namespace Go.Proofs.YtjfkkokeegpeiaaGreatDoor
open Go Go.Am Go.RowKit
theorem strL_spec:∀{l:List (List V)} {xs:List ByteArray},strL l=some xs→l=xs.map fun x=>[V.sc (.string x)]
 | [],xs,h=>by simp only[strL,Option.some.injEq]at h;subst h;rfl
 | []::l,xs,h=>by simp[strL]at h
 | [a]::l,xs,h=>by
  cases a<;>try (simp[strL]at h;done)
  rename_i v
  cases v<;>try (simp[strL]at h;done)
  rename_i s
  simp only[strL]at h
  split at h
  ·rename_i r hr
   simp only[Option.some.injEq]at h
   subst h
   rw[strL_spec hr]
   rfl
  ·cases h
 | (a::b::c)::l,xs,h=>by
  have:strL ((a::b::c)::l)=none:=by cases a with|sc v=>(cases v<;>rfl) |_=>rfl
  rw[this]at h
  cases h
theorem cellAt{W:World}{a:Addr}{x:Value}(h:W.cell? a=some x):a=⟨a.block,a.off,none⟩:=by
 unfold World.cell? at h
 split at h
 ·split at h
  ·cases h
  ·rename_i hs
   obtain⟨b,o,s⟩:=a
   cases s with
   |none=>rfl
   |some q=>exact absurd rfl hs
 ·cases h
theorem maxLen_at{S:Pr}{w:World}(hG:Glob E S w):∃m,w.cell? ⟨1,0,none⟩=some (.int .i64 m):=by
 obtain⟨_,x,h1,h2⟩:=hG.inv (1,intCell .i64) (by simp[E])
 exact intCell_cell h1 h2
theorem g2 : Tryz.prog.globalNamed "internal/strconv.uint64pow10" = some 2 := by kernel_rfl
theorem pow_at {S : Pr} {w : World} (hG : Glob E S w) : Lib.TabIs Tryz.prog w "internal/strconv.uint64pow10" .u64 Lib.pow10Tab := by
  obtain ⟨_, x, h1, h2⟩ := hG.inv (2, allCells (Lib.pow10Tab.map fun z => Value.int .u64 z).toArray) (by simp [E])
  exact allCells_var g2 h1 h2
theorem hX:SoundX E:=by
 intro f args v h
 have h':extF f args=some v:=h
 unfold extF at h'
 split at h'
 ·rename_i hf;subst hf
  split at h'
  ·rename_i s sub
   split at h'
   ·rename_i hn
    cases h'
    refine⟨⟨_,Tryz.func110,by kernel_rfl,by intro e;exact absurd e (by decide+kernel)⟩,rfl,fun β S D w us hd hG hS=>?_⟩
    obtain rfl:us=[.string s,.string sub]:=by simpa[denL,den]using hd
    obtain⟨m,hm⟩:=maxLen_at hG
    refine(Tryz.strings_Contains s sub m w hn hm).mono ?_
    rintro e w' ⟨rfl,rfl⟩
    exact⟨_,S,rfl,Below.refl _ _,by simp only[den],fun _ h=>h,fun _ h=>.inl h⟩
   ·cases h'
  ·cases h'
 split at h'
 ·rename_i hf;subst hf
  split at h'
  ·rename_i s c
   cases h'
   refine⟨⟨_,Tryz.func83,by kernel_rfl,by intro e;exact absurd e (by decide+kernel)⟩,rfl,fun β S D w us hd hG hS=>?_⟩
   obtain rfl:us=[.string s,.int .u8 c]:=by simpa[denL,den]using hd
   refine(Tryz.strings_IndexByte s c w).mono ?_
   rintro e w' ⟨rfl,rfl⟩
   exact⟨_,S,rfl,Below.refl _ _,by simp only[den],fun _ h=>h,fun _ h=>.inl h⟩
  ·cases h'
 split at h'
 ·rename_i hf;subst hf
  split at h'
  ·rename_i n
   split at h'
   ·rename_i hn
    cases h'
    refine⟨⟨_,Tryz.func41,by kernel_rfl,by intro e;exact absurd e (by decide+kernel)⟩,rfl,fun β S D w us hd hG hS=>?_⟩
    obtain rfl:us=[.int .i64 n]:=by simpa[denL,den]using hd
    refine(Tryz.strconv_Itoa n hn.1 hn.2 w (pow_at hG)).mono ?_
    rintro e w' ⟨rfl,k,os,rfl⟩
    exact⟨_,S,rfl,Lib.below_grow w.heap.size w (Nat.le_refl _) k os,by simp[den],fun _ h=>h,fun _ h=>.inl h⟩
   ·cases h'
  ·cases h'
 split at h'
 ·rename_i hf;subst hf
  split at h'
  ·rename_i sep
   cases h'
   refine⟨⟨_,Tryz.func35,by kernel_rfl,by intro e;exact absurd e (by decide+kernel)⟩,rfl,fun β S D w us hd hG hS=>?_⟩
   obtain rfl:us=[.slice none 0 0,.string sep]:=by simpa[denL,den]using hd
   refine(Tryz.strings_Join_none none 0 sep w).mono ?_
   rintro e w' ⟨rfl,rfl⟩
   exact⟨_,S,rfl,Below.refl _ _,by simp only[den];rfl,fun _ h=>h,fun _ h=>.inl h⟩
  ·rename_i n g sep
   split at h'
   ·rename_i xs hxs
    split at h'
    ·rename_i hn
     cases h'
     refine⟨⟨_,Tryz.func35,by kernel_rfl,by intro e;exact absurd e (by decide+kernel)⟩,rfl,fun β S D w us hd hG hS=>?_⟩
     simp only[denL,den]at hd
     obtain⟨u,r,rfl,⟨_,A,m,a,cs,rfl,hnm,hA,hc⟩,u2,r2,rfl,rfl,rfl⟩:=hd
     have hl:=strL_spec hxs
     have hlen:xs.length=n:=by
      have:=congrArg List.length hl
      simpa using this.symm
     have hcell:∀(j:Nat) (x:ByteArray),xs[j]? =some x→w.cell? (a.add j)=some (.string x):=by
      intro j x hj
      have hjn:j<n:=by rw[←hlen];exact(List.getElem?_eq_some_iff.1 hj).1
      obtain⟨g1,g2,g3,g4,g5⟩:=hc j hjn
      have hg:g j=[.sc (.string x)]:=by
       have:=congrArg (fun l=>l[j]?) hl
       simp only[List.getElem?_map,List.getElem?_range hjn,hj,Option.map_some,Option.some.injEq]at this
       exact this
      rw[hg]at g1
      simp only[denL,den]at g1
      obtain⟨x1,x2,h1,rfl,rfl⟩:=g1
      have:=g5 0 (.string x) (by rw[h1];rfl)
      simpa using this
     have hdone:∀(o:Option Addr),Calls Tryz.prog 35 #[.slice o n m,.string sep] w (fun e w'=>e= .returned (.string ⟨(Lib.join (xs.map (·.data.toList)) sep.data.toList).toArray⟩)∧Below w.heap.size w w')→
      Calls E.P 35 [Value.slice o n m,.string sep].toArray w fun e w'=>∃u S',e= .returned u∧Below w.heap.size w w'∧den (fun _=>none) S' w' (fun _=>False) (st ⟨(Lib.join (xs.map (·.data.toList)) sep.data.toList).toArray⟩) u∧(∀b,S b→S' b)∧∀b,S' b→S b∨(w.heap.size≤b∧b<w'.heap.size):=by
      intro o h
      refine Calls.mono h ?_
      rintro e w' ⟨rfl,hb⟩
      exact⟨_,S,rfl,hb,by simp only[den],fun _ h=>h,fun _ h=>.inl h⟩
     cases xs with
     |nil=>
      simp only[List.length_nil]at hlen
      subst hlen
      exact hdone A ((Tryz.strings_Join_none A m sep w).mono fun e w' ⟨he,hw⟩=>⟨he,hw▸Below.refl _ _⟩)
     |cons x xs=>
      have h0:0<n:=by rw[←hlen];simp
      obtain⟨rfl,hab⟩:=hA h0
      have hsp:=cellAt (a:=a) (by have:=hcell 0 x rfl;simpa[Addr.add]using this)
      refine hdone (some a) ?_
      have:=Tryz.strings_Join a.block a.off m (x::xs) sep w (fun j y hj=>by
       have:=hcell j y hj
       rw[hsp,add_lit]at this
       exact this) (hS _ hab) (by rw[hlen];exact hn.2) (by rw[hlen];exact hnm) hn.1
      rw[hlen,←hsp]at this
      exact this
    ·cases h'
   ·cases h'
  ·cases h'
 split at h'
 ·rename_i hf;subst hf
  split at h'
  ·rename_i s c
   split at h'
   ·rename_i hn
    cases h'
    refine⟨⟨_,Tryz.func71,by kernel_rfl,by intro e;exact absurd e (by decide+kernel)⟩,rfl,fun β S D w us hd hG hS=>?_⟩
    obtain rfl:us=[.string s,.int .i64 c]:=by simpa[denL,den]using hd
    obtain⟨n,rfl⟩:∃n:Nat,c=n:=⟨c.toNat,by omega⟩
    refine(Tryz.strings_Repeat s n w (by omega) (by
     have h1:n≤1000:=by omega
     exact Nat.le_trans (Nat.mul_le_mul hn.2.2 h1) (by omega))).mono ?_
    rintro e w' ⟨rfl,hb⟩
    exact⟨_,S,rfl,hb,by simp only[den];rfl,fun _ h=>h,fun _ h=>.inl h⟩
   ·cases h'
  ·cases h'
 ·cases h'
end Go.Proofs.YtjfkkokeegpeiaaGreatDoor
/- What the rows list of the packages' variables; a world that holds it. -/
namespace Go.Proofs.YtjfkkokeegpeiaaGreatDoor
open Go Go.Am Go.RowKit
theorem packed:packB Tryz.prog=true:=by kernel_rfl
theorem denL_scs{β:Bt}{S D:Pr}{w:World}:∀{l:List Value} {us:List Value},denL β S w D (l.map V.sc) us→us=l
 | [],us,h=>by simpa[denL]using h
 |v::l,us,h=>by
  simp only[List.map_cons,denL,den]at h
  obtain⟨x,xs,rfl,rfl,h⟩:=h
  rw[denL_scs h]
abbrev laidL:List (String×DataW Unit):=Rows.parserParsesRow.laid
theorem laidPlain{W:World}(h:laidMetH Tryz.prog laidL W):laidMet Tryz.prog laidL W:=by
 rw[MakeChecks.laidMetH_plain _ _ _ (by kernel_rfl)]at h;exact h
theorem globAt0 : GlobAt Tryz.prog laidL 0 [tabV] := ⟨"perigee/unit.table", Rows.laid_perigee_unit_table, 125, 8, by simp [laidL, Rows.parserParsesRow], by kernel_rfl, by kernel_rfl, of_decide_eq_true (by kernel_rfl), by kernel_rfl, by simp⟩
theorem glob_of {W : World} (h : laidMetH Tryz.prog laidL W) (hs : W.ShapedOpen Tryz.prog) : Glob E (· < W.heap.size) W := by
  have hl := laidPlain h
  refine Glob.of_laid (laid := laidL) packed hl (fun g cs hg => ?_) (fun p hp => ?_)
  · have hg' : globF g = some cs := hg
    unfold globF at hg'
    split at hg'
    · cases hg'; exact globAt0
    · cases hg'
  · simp only [E, List.mem_cons, List.mem_nil_iff, or_false] at hp
    rcases hp with rfl | rfl
    · exact intCell_of (cell_of_shapedOpen_int (t := 3) (zero := #[.int .i64 0]) hs (of_decide_eq_true (by kernel_rfl)) (by kernel_rfl) rfl (by kernel_rfl) (by kernel_rfl) (by kernel_rfl))
    · obtain ⟨ps, hv, _⟩ := hl
      obtain ⟨g, t, cs, fuel, q, k1, k2, k3, k4⟩ := laidVars_mem hv "internal/strconv.uint64pow10" Rows.laid_internal_strconv_uint64pow10 (by simp [laidL, Rows.parserParsesRow])
      obtain rfl := Option.some.inj (g2.symm.trans k1)
      obtain rfl := Option.some.inj ((show (Tryz.prog.globals[2]?).map (·.type) = some 146 by kernel_rfl).symm.trans k2)
      have gd := cells_of_datum packed fuel 8 146 cs.toList _ q ((Lib.pow10Tab.map fun z => Value.int .u64 z).map V.sc) (of_decide_eq_true (by kernel_rfl)) k4 (by kernel_rfl)
      have hcs := denL_scs gd.den
      have : cs = (Lib.pow10Tab.map fun z => Value.int .u64 z).toArray := by rw [← hcs]
      rw [← this]
      exact allCells_of g2 k3
noncomputable def laidWorld(os:Os):World:=World.doorLaid Tryz.prog 4000 os
theorem laid_met0(os:Os)(args:Array Value):laidMet Tryz.prog laidL ((laidWorld os).forCall (fun _ _=>0) ⟨#[],args,[]⟩).memory:=
 laidMet_of_run' 8 (by kernel_rfl) (by kernel_rfl)
theorem laid_met(os:Os)(args:Array Value):laidMetH Tryz.prog laidL ((laidWorld os).forCall (fun _ _=>0) ⟨#[],args,[]⟩).memory:=by
 rw[MakeChecks.laidMetH_plain _ _ _ (by kernel_rfl)];exact laid_met0 os args
end Go.Proofs.YtjfkkokeegpeiaaGreatDoor
/- Short words for the lifted texts. -/
namespace Go.Proofs.YtjfkkokeegpeiaaGreatDoor
open Go Go.Am Go.Proofs
abbrev FI:Type:=Nat→Int
abbrev FS:Type:=Nat→ByteArray
abbrev FL:Type:=Nat→List V
abbrev FM:Type:=Nat→Nat→List V
abbrev FN:Type:=Nat→Nat
abbrev SR:Type:=Int×Int×Int×Int×Nat×FI×FI×FS×FI×Nat×FS
abbrev SP:Type:=Int×Int×Nat×FI×FI×FS×FI×Nat×FS×Nat×FS
abbrev SC2:Type:=Nat×FI×FI×FS×FI×Int×Int×Nat×Nat×FS×FS
abbrev AR(α:Type):Type:=α→List V×List (Option Chunk)
abbrev Lw(E:Env)(f:FuncId){α γ:Type}(A:AR α)(R:γ→CRes)(c:α→Option γ):Prop:=∀x z,c x=some z→SC E f (A x).1 (A x).2 (R z)
noncomputable def ftg{α γ:Type}(f:FuncId)(gd:List V→List (Option Chunk)→Bool)(A:AR α)(R:γ→CRes)(c:α→Option γ)(ca:CallT):CallT:=ftab f gd A (fun z k=>k (R z)) c ca
noncomputable abbrev ftb{α γ:Type}(f:FuncId)(A:AR α)(R:γ→CRes)(c:α→Option γ)(ca:CallT):CallT:=ftg f (fun _ _=>true) A R c ca
theorem fk{E:Env}{α γ:Type}{f:FuncId}{gd:List V→List (Option Chunk)→Bool}{A:AR α}{c:α→Option γ}{ca:CallT}{R:γ→CRes}(h:Lw E f A R c)(hl:SoundC E ca):SoundC E (ftg f gd A R c ca):=ftab_cons h (fun _ _=>rfl) hl
noncomputable def vf{α γ:Type}(A:AR α)(c:α→Option γ):α→Option γ:=fun x=>viaF A c (A x)
theorem vq{α γ:Type}{A:AR α}(hi:∀x y,A x=A y→x=y)(c:α→Option γ):vf A c=c:=via_eq hi c
abbrev n0:=@free_none
abbrev n1:=@free_bind
abbrev n2:=@free_ite
abbrev n3:=@free_sum
abbrev hHP(x:SP):List (Option Chunk):=[some (.blk [.ro 4 x.2.2.1 (fun j=>[i64 (x.2.2.2.1 j),i64 (x.2.2.2.2.1 j),st (x.2.2.2.2.2.1 j),i64 (x.2.2.2.2.2.2.1 j)]),i64 x.1,i64 x.2.1,.sl 1 1 0 x.2.2.2.2.2.2.2.1,.sl 2 1 0 x.2.2.2.2.2.2.2.2.2.1]),some (.row 9 1 x.2.2.2.2.2.2.2.1 (fun j=>[st (x.2.2.2.2.2.2.2.2.1 j)])),some (.row 9 1 x.2.2.2.2.2.2.2.2.2.1 (fun j=>[st (x.2.2.2.2.2.2.2.2.2.2 j)]))]
abbrev dTI(v:V)(n:Nat):FI:=fun j=>vI ((vRoF v j).getD n .junk)
abbrev dTS(v:V)(n:Nat):FS:=fun j=>vS ((vRoF v j).getD n .junk)
abbrev dCS(c:Option Chunk):FS:=fun j=>vS ((chF c j).getD 0 .junk)
def dHP(t:List (Option Chunk)):SP:=
 let b:=chB (t.getD 0 none);let v:=b.getD 0 .junk
 (vI (b.getD 1 .junk),vI (b.getD 2 .junk),vRoN v,dTI v 0,dTI v 1,dTS v 2,dTI v 3,vSlN (b.getD 3 .junk),dCS (t.getD 1 none),vSlN (b.getD 4 .junk),dCS (t.getD 2 none))
abbrev hPB{α:Type}(y:Nat×FI×FI×FS×FI×Int×Int×Nat×Nat×α):Chunk:=.blk [.ro 4 y.1 (fun j=>[i64 (y.2.1 j),i64 (y.2.2.1 j),st (y.2.2.2.1 j),i64 (y.2.2.2.2.1 j)]),i64 y.2.2.2.2.2.1,i64 y.2.2.2.2.2.2.1,.sl 1 1 0 y.2.2.2.2.2.2.2.1,.sl 2 1 0 y.2.2.2.2.2.2.2.2.1]
abbrev hPV{α:Type}(y:Nat×FI×FI×FS×FI×Int×Int×Nat×Nat×FS×α):Chunk:=.row 9 1 y.2.2.2.2.2.2.2.1 (fun j=>[st (y.2.2.2.2.2.2.2.2.2.1 j)])
abbrev hPQ{α:Type}(y:Nat×FI×FI×FS×FI×Int×Int×Nat×Nat×FS×FS×α):Chunk:=.row 9 1 y.2.2.2.2.2.2.2.2.1 (fun j=>[st (y.2.2.2.2.2.2.2.2.2.2.1 j)])
abbrev hPQ0(y:SC2):Chunk:=.row 9 1 y.2.2.2.2.2.2.2.2.1 (fun j=>[st (y.2.2.2.2.2.2.2.2.2.2 j)])
abbrev TT:Type:=List V×List (Option Chunk)
def x2{α β:Type}(R:α⊕β→CRes)(z:α⊕β)(k:CRes→Option Ans):Option Ans:=Sum.elim (fun a=>k (R (.inl a))) (fun b=>k (R (.inr b))) z
def x3{α β γ:Type}(R:α⊕β⊕γ→CRes)(z:α⊕β⊕γ)(k:CRes→Option Ans):Option Ans:=Sum.elim (fun a=>k (R (.inl a))) (fun b=>x2 (fun b=>R (.inr b)) b k) z
def x4{α β γ δ:Type}(R:α⊕β⊕γ⊕δ→CRes)(z:α⊕β⊕γ⊕δ)(k:CRes→Option Ans):Option Ans:=Sum.elim (fun a=>k (R (.inl a))) (fun b=>x3 (fun b=>R (.inr b)) b k) z
section
variable {α β γ δ ε:Type} {E:Env} {f:FuncId} {gd:List V→List (Option Chunk)→Bool} {ca:CallT}
theorem xe2{R:α⊕β→CRes}:∀z k,x2 R z k=k (R z):=fun z k=>by rcases z with z|z<;>rfl
noncomputable def fg2(f:FuncId)(gd:List V→List (Option Chunk)→Bool)(A:AR ε)(R:α⊕β→CRes)(c:ε→Option (α⊕β))(ca:CallT):CallT:=ftab f gd A (x2 R) c ca
noncomputable abbrev ft2(f:FuncId)(A:AR ε)(R:α⊕β→CRes)(c:ε→Option (α⊕β))(ca:CallT):CallT:=fg2 f (fun _ _=>true) A R c ca
theorem fk2{A:AR ε}{R:α⊕β→CRes}{c:ε→Option (α⊕β)}(h:Lw E f A R c)(hl:SoundC E ca):SoundC E (fg2 f gd A R c ca):=ftab_cons h xe2 hl
theorem sof{A:AR α}{R:γ→CRes}{c:α→Option γ}{lo:α→LoopT}(hW:WF E)(hX:SoundX E)(hc:SoundC E ca)(hl:∀x,SoundL E (lo x))(h:∀x,callK E ca (lo x) f (A x).1 (A x).2 (fun r=>some (.c r))=(c x).bind fun z=>some (.c (R z))):Lw E f A R c:=fun x z hz=>SC.of hW hX hc (hl x) ((h x).trans (by rw[hz];rfl))
abbrev VI(A:AR α):Prop:=∀{γ:Type} (c:α→Option γ),vf A c=c
theorem vd{A:AR α}(d:TT→α)(h:∀x,d (A x)=x):VI A:=fun c=>vq (fun x y e=>by rw[←h x,←h y,e]) c
noncomputable def lf(b:ACode)(S:α→St)(p:α→Option γ):α→Option γ:=fun y=>viaF (fun y=>(b,S y)) p (b,S y)
abbrev VL(S:α→St):Prop:=∀{γ:Type} (b:ACode) (p:α→Option γ),lf b S p=p
theorem vl{S:α→St}(d:St→α)(h:∀x,d (S x)=x):VL S:=fun b p=>via_eq (pair_inj b fun x y e=>by rw[←h x,←h y,e]) p
abbrev Ll(E:Env)(b:ACode)(S:α→St)(T:γ→Ex×St)(p:α→Option γ):Prop:=∀y z,p y=some z→SL E b (S y) (T z).1 (T z).2
def w1(T:α→Ex×St)(z:α)(k:KX):Option Ans:=k (T z).1 (T z).2
def w2(T:α⊕β→Ex×St)(z:α⊕β)(k:KX):Option Ans:=Sum.elim (fun a=>w1 (fun a=>T (.inl a)) a k) (fun b=>w1 (fun b=>T (.inr b)) b k) z
def w3(T:α⊕β⊕γ→Ex×St)(z:α⊕β⊕γ)(k:KX):Option Ans:=Sum.elim (fun a=>w1 (fun a=>T (.inl a)) a k) (fun b=>w2 (fun b=>T (.inr b)) b k) z
def w4(T:α⊕β⊕γ⊕δ→Ex×St)(z:α⊕β⊕γ⊕δ)(k:KX):Option Ans:=Sum.elim (fun a=>w1 (fun a=>T (.inl a)) a k) (fun b=>w3 (fun b=>T (.inr b)) b k) z
noncomputable def lt1(id:Nat)(gd:St→Bool)(b:ACode)(S:ε→St)(T:α→Ex×St)(p:ε→Option α)(lo:LoopT):LoopT:=ltabF id gd b S (w1 T) p lo
noncomputable def lt2(id:Nat)(gd:St→Bool)(b:ACode)(S:ε→St)(T:α⊕β→Ex×St)(p:ε→Option (α⊕β))(lo:LoopT):LoopT:=ltabF id gd b S (w2 T) p lo
noncomputable def lt3(id:Nat)(gd:St→Bool)(b:ACode)(S:ε→St)(T:α⊕β⊕γ→Ex×St)(p:ε→Option (α⊕β⊕γ))(lo:LoopT):LoopT:=ltabF id gd b S (w3 T) p lo
noncomputable def lt4(id:Nat)(gd:St→Bool)(b:ACode)(S:ε→St)(T:α⊕β⊕γ⊕δ→Ex×St)(p:ε→Option (α⊕β⊕γ⊕δ))(lo:LoopT):LoopT:=ltabF id gd b S (w4 T) p lo
variable {id:Nat} {gs:St→Bool} {b:ACode} {S:ε→St} {lo:LoopT}
theorem lk1{T:α→Ex×St}{p:ε→Option α}(h:Ll E b S T p)(hl:SoundL E lo):SoundL E (lt1 id gs b S T p lo):=ltabF_cons h (fun _ _=>rfl) hl
theorem lk2{T:α⊕β→Ex×St}{p:ε→Option (α⊕β)}(h:Ll E b S T p)(hl:SoundL E lo):SoundL E (lt2 id gs b S T p lo):=ltabF_cons h (fun z k=>by rcases z with z|z<;>rfl) hl
theorem lk3{T:α⊕β⊕γ→Ex×St}{p:ε→Option (α⊕β⊕γ)}(h:Ll E b S T p)(hl:SoundL E lo):SoundL E (lt3 id gs b S T p lo):=ltabF_cons h (fun z k=>by rcases z with z|z|z<;>rfl) hl
theorem lk4{T:α⊕β⊕γ⊕δ→Ex×St}{p:ε→Option (α⊕β⊕γ⊕δ)}(h:Ll E b S T p)(hl:SoundL E lo):SoundL E (lt4 id gs b S T p lo):=ltabF_cons h (fun z k=>by rcases z with z|z|z|z<;>rfl) hl
theorem slp{S:α→St}{T:γ→Ex×St}{st:α→Option (α⊕γ)}{live:Nat}{ms:List (Nat×Nat)}{r:Nat}{c:ACode}(hC:SoundC E ca)(hX:SoundX E)
 (tr:∀lo x,loopK E ca lo id live c (S x) (KCM ms r)=(st x).bind fun r'=>Sum.elim (fun y=>lo id live c (S y) (KCM ms r)) (fun z=>some (.l (T z).1 (T z).2)) r')
 (kT:∀z,KCM ms r (T z).1 (T z).2=some (.l (T z).1 (T z).2)) (n:Nat):Ll E c S T (lpG st n):=SL.lp (LT:=fun lo=>lo) hC hX (fun _ h=>h) tr kT n
end
def cb(s:St)(i k:Nat):V:=(chB (s.H i)).getD k .junk
def cc(t:TT)(i k:Nat):V:=(chB (t.2.getD i none)).getD k .junk
def ca(t:TT)(i k:Nat):V:=(vAg (t.1.getD i .junk)).getD k .junk
def ag(t:TT)(i:Nat):V:=t.1.getD i .junk
def co(t:TT)(i:Nat):Option Chunk:=t.2.getD i none
abbrev dRI(c:Option Chunk)(n:Nat):FI:=fun j=>vI ((chF c j).getD n .junk)
abbrev dRS(c:Option Chunk)(n:Nat):FS:=fun j=>vS ((chF c j).getD n .junk)
abbrev dRN(c:Option Chunk)(n:Nat):FN:=fun j=>vRoN ((chF c j).getD n .junk)
abbrev dRF(c:Option Chunk)(n:Nat):FM:=fun j=>vRoF ((chF c j).getD n .junk)
end Go.Proofs.YtjfkkokeegpeiaaGreatDoor
/- The parser, lifted. -/
namespace Go.Proofs.YtjfkkokeegpeiaaGreatDoor
open Go Go.Am Go.Proofs
set_option maxRecDepth 100000
abbrev nilS:V:=.sc (.slice none 0 0)
noncomputable def E5:Env:={P:=Tryz.prog,glob:=globF,ext:=fun _ _=>none,way:=way,lit:=fun _=>false,code:=fun f=>(Tryz.prog.funcs[f]?).bind annF,sett:=fun _=>true,rows:=true,dfn:=dfnF,idle:=idleF,inv:=[(1,intCell .i64),(2,allCells (Lib.pow10Tab.map fun z=>Value.int .u64 z).toArray)]}
set_option maxRecDepth 100000 in
theorem hW5:WF E5:=WF.of E5 (fun _=>rfl) (by kernel_rfl) hW.1.1
theorem hX5:SoundX E5:=SoundX.none fun _ _=>rfl
theorem sc5{f:FuncId}{args:List V}{L:List (Option Chunk)}{cr:CRes}:SC E5 f args L cr↔SC E f args L cr:=
 ⟨fun h=>⟨h.1,fun β S w us h1 h2 h3=>h.2 β S w us h1 h2 ⟨h3.rd,h3.inv⟩⟩,fun h=>⟨h.1,fun β S w us h1 h2 h3=>h.2 β S w us h1 h2 ⟨h3.rd,h3.inv⟩⟩⟩
def K:CRes→Option Ans:=fun r=>some (.c r)
abbrev w(n:Int):Int:=IntKind.wrap .i64 n
def jk(n:Nat):List V:=List.replicate n .junk
abbrev a_Contains:Type:=ByteArray×ByteArray
abbrev g_Contains:Type:=Bool
def A_Contains:AR a_Contains:=fun x=>([st x.1,st x.2],[])
def d_Contains(t:TT):a_Contains:=(vS (ag t 0),vS (ag t 1))
theorem v_Contains:VI A_Contains:=vd d_Contains fun _=>rfl
def R_Contains:g_Contains→CRes:=fun z=>.ret (bo z) []
noncomputable def Contains(q:Nat)(x:a_Contains):Option g_Contains:=if x.1.size<4294967281 then some (Lib.contains x.1.data.toList x.2.data.toList)else none
theorem sc_Contains(q:Nat):Lw E5 110 A_Contains R_Contains (Contains q):=by
 rintro⟨s,u⟩ z h
 unfold Contains at h
 split at h
 ·rename_i hn
  cases h
  exact sc5.2 (SC.ext hX (by
   show extF 110 [st s,st u]=_
   simp only[extF,if_pos,st]
   exact if_pos hn))
 ·cases h
abbrev a_Lookup:Type:=ByteArray
abbrev g_Lookup:Type:=Int×Int×Int×Int×Int×Int×Bool
def A_Lookup:AR a_Lookup:=fun x=>([st x],[])
def d_Lookup(t:TT):a_Lookup:=(vS (ag t 0))
theorem v_Lookup:VI A_Lookup:=vd d_Lookup fun _=>rfl
def R_Lookup:g_Lookup→CRes:=fun z=>.ret (.tup [.agg [i64 z.1,i64 z.2.1,i64 z.2.2.1,i64 z.2.2.2.1,i64 z.2.2.2.2.1],i64 z.2.2.2.2.2.1,bo z.2.2.2.2.2.2]) []
def t_Lookup{β:Type}(x:a_Lookup)(dn:g_Lookup→Option β):Option β:=
 if(ByteArray.toList ⟨#[74]⟩==x.toList)=true then dn (1,0,0,0,0,1,true)else if(ByteArray.toList ⟨#[107,74]⟩==x.toList)=true then dn (1,0,0,0,0,1000,true)else if(ByteArray.toList ⟨#[87,104]⟩==x.toList)=true then dn (1,0,0,0,0,3600,true)else if(ByteArray.toList ⟨#[66]⟩==x.toList)=true then dn (0,1,0,0,0,1,true)else if(ByteArray.toList ⟨#[107,66]⟩==x.toList)=true then dn (0,1,0,0,0,1000,true)else if(ByteArray.toList ⟨#[115]⟩==x.toList)=true then dn (0,0,1,0,0,1,true)else if(ByteArray.toList ⟨#[109,105,110]⟩==x.toList)=true then dn (0,0,1,0,0,60,true)else if(ByteArray.toList ⟨#[104]⟩==x.toList)=true then dn (0,0,1,0,0,3600,true)else if(ByteArray.toList ⟨#[100,101,103]⟩==x.toList)=true then dn (0,0,0,1,0,1,true)else if(ByteArray.toList ⟨#[75]⟩==x.toList)=true then dn (0,0,0,0,1,1,true)else if(ByteArray.toList ⟨#[87]⟩==x.toList)=true then dn (1,0,(-1),0,0,1,true)else if(ByteArray.toList ⟨#[107,87]⟩==x.toList)=true then dn (1,0,(-1),0,0,1000,true)else if(ByteArray.toList ⟨#[66,112,115]⟩==x.toList)=true then dn (0,1,(-1),0,0,1,true)else dn (0,0,0,0,0,0,false)
theorem n_Lookup{β:Type}(x)(dn:g_Lookup→Option β):t_Lookup x dn=(t_Lookup x some).bind dn:=by
 unfold t_Lookup
 repeat' first|exact n0|refine n1 fun _=>?_|refine n2 ?_ ?_|refine n3 (fun _=>?_) fun _=>?_|rfl
theorem r_Lookup(x):callK E5 ca0 (loU E5 ca0 [0] lo0 20) 87 (A_Lookup x).1 (A_Lookup x).2 K=t_Lookup x (fun z=>some (.c (R_Lookup z))):=by kernel_rfl
noncomputable def Lookup(q:Nat)(x:a_Lookup):Option g_Lookup:=t_Lookup x some
theorem sc_Lookup(q:Nat):Lw E5 87 A_Lookup R_Lookup (Lookup q):=sof hW5 hX5 ca0_sound (fun _=>(loU_sound ca0_sound hX5 lo0_sound 20)) fun x=>(r_Lookup x).trans (by rw[n_Lookup]<;>rfl)
abbrev a_levelOf:Type:=ByteArray
abbrev g_levelOf:Type:=Int
def A_levelOf:AR a_levelOf:=fun x=>([st x],[])
def d_levelOf(t:TT):a_levelOf:=(vS (ag t 0))
theorem v_levelOf:VI A_levelOf:=vd d_levelOf fun _=>rfl
def R_levelOf:g_levelOf→CRes:=fun z=>.ret (i64 z) []
def t_levelOf{β:Type}(x:a_levelOf)(dn:g_levelOf→Option β):Option β:=
 if(x.toList==ByteArray.toList ⟨#[124,124]⟩)=true then dn (1)else if(x.toList==ByteArray.toList ⟨#[38,38]⟩)=true then dn (2)else if(x.toList==ByteArray.toList ⟨#[60]⟩)=true then dn (4)else if(x.toList==ByteArray.toList ⟨#[60,61]⟩)=true then dn (4)else if(x.toList==ByteArray.toList ⟨#[62]⟩)=true then dn (4)else if(x.toList==ByteArray.toList ⟨#[62,61]⟩)=true then dn (4)else if(x.toList==ByteArray.toList ⟨#[61,61]⟩)=true then dn (4)else if(x.toList==ByteArray.toList ⟨#[33,61]⟩)=true then dn (4)else if(x.toList==ByteArray.toList ⟨#[43]⟩)=true then dn (5)else if(x.toList==ByteArray.toList ⟨#[45]⟩)=true then dn (5)else if(x.toList==ByteArray.toList ⟨#[42]⟩)=true then dn (6)else if(x.toList==ByteArray.toList ⟨#[47]⟩)=true then dn (6)else dn (0)
theorem n_levelOf{β:Type}(x)(dn:g_levelOf→Option β):t_levelOf x dn=(t_levelOf x some).bind dn:=by
 unfold t_levelOf
 repeat' first|exact n0|refine n1 fun _=>?_|refine n2 ?_ ?_|refine n3 (fun _=>?_) fun _=>?_|rfl
theorem r_levelOf(x):callK E5 ca0 lo0 78 (A_levelOf x).1 (A_levelOf x).2 K=t_levelOf x (fun z=>some (.c (R_levelOf z))):=by kernel_rfl
noncomputable def levelOf(q:Nat)(x:a_levelOf):Option g_levelOf:=t_levelOf x some
theorem sc_levelOf(q:Nat):Lw E5 78 A_levelOf R_levelOf (levelOf q):=sof hW5 hX5 ca0_sound (fun _=>lo0_sound) fun x=>(r_levelOf x).trans (by rw[n_levelOf]<;>rfl)
abbrev a_fail:Type:=Int×SP
abbrev g_fail:Type:=Int×Int
def A_fail:AR a_fail:=fun x=>([.ptr 0 0,i64 x.1],(hHP x.2))
def d_fail(t:TT):a_fail:=((vI (ag t 1)),dHP t.2)
theorem v_fail:VI A_fail:=vd d_fail fun _=>rfl
def R_fail:g_fail→CRes:=fun z=>.pan (.ifc 45 (.agg [i64 z.1,i64 z.2]))
def t_fail{β:Type}(x:a_fail)(dn:g_fail→Option β):Option β:=
 if 0≤x.2.1∧x.2.1< ((x.2.2.2.1:Nat):Int)then dn (x.2.2.2.2.2.1 (Int.toNat x.2.1),x.1)else none
theorem n_fail{β:Type}(x)(dn:g_fail→Option β):t_fail x dn=(t_fail x some).bind dn:=by
 unfold t_fail
 repeat' first|exact n0|refine n1 fun _=>?_|refine n2 ?_ ?_|refine n3 (fun _=>?_) fun _=>?_|rfl
theorem r_fail(x):callK E5 ca0 lo0 55 (A_fail x).1 (A_fail x).2 K=t_fail x (fun z=>some (.c (R_fail z))):=by kernel_rfl
noncomputable def fail(q:Nat)(x:a_fail):Option g_fail:=t_fail x some
theorem sc_fail(q:Nat):Lw E5 55 A_fail R_fail (fail q):=sof hW5 hX5 ca0_sound (fun _=>lo0_sound) fun x=>(r_fail x).trans (by rw[n_fail]<;>rfl)
abbrev a_next:Type:=SP
abbrev g_next:Type:=Int×Int×ByteArray×Int×SP
def A_next:AR a_next:=fun x=>([.ptr 0 0],(hHP x))
def d_next(t:TT):a_next:=(dHP t.2)
theorem v_next:VI A_next:=vd d_next fun _=>rfl
def R_next:g_next→CRes:=fun z=>.ret (.agg [i64 z.1,i64 z.2.1,st z.2.2.1,i64 z.2.2.2.1]) (hHP z.2.2.2.2)
def t_next{β:Type}(x:a_next)(dn:g_next→Option β):Option β:=
 if 0≤x.1∧x.1< ((x.2.2.1:Nat):Int)then dn (x.2.2.2.1 (Int.toNat x.1),x.2.2.2.2.1 (Int.toNat x.1),x.2.2.2.2.2.1 (Int.toNat x.1),x.2.2.2.2.2.2.1 (Int.toNat x.1),x)else none
theorem n_next{β:Type}(x)(dn:g_next→Option β):t_next x dn=(t_next x some).bind dn:=by
 unfold t_next
 repeat' first|exact n0|refine n1 fun _=>?_|refine n2 ?_ ?_|refine n3 (fun _=>?_) fun _=>?_|rfl
theorem r_next(x):callK E5 ca0 lo0 22 (A_next x).1 (A_next x).2 K=t_next x (fun z=>some (.c (R_next z))):=by kernel_rfl
noncomputable def next(q:Nat)(x:a_next):Option g_next:=t_next x some
theorem sc_next(q:Nat):Lw E5 22 A_next R_next (next q):=sof hW5 hX5 ca0_sound (fun _=>lo0_sound) fun x=>(r_next x).trans (by rw[n_next]<;>rfl)
abbrev a_is:Type:=ByteArray×SP
abbrev g_is:Type:=Bool×SP
def A_is:AR a_is:=fun x=>([.ptr 0 0,st x.1],(hHP x.2))
def d_is(t:TT):a_is:=((vS (ag t 1)),dHP t.2)
theorem v_is:VI A_is:=vd d_is fun _=>rfl
def R_is:g_is→CRes:=fun z=>.ret (bo z.1) (hHP z.2)
def t_is{β:Type}(x:a_is)(dn:g_is→Option β):Option β:=
 if 0≤x.2.1∧x.2.1< ((x.2.2.2.1:Nat):Int)then dn (ByteArray.toList (x.2.2.2.2.2.2.1 (Int.toNat x.2.1))==x.1.toList,x.2)else none
theorem n_is{β:Type}(x)(dn:g_is→Option β):t_is x dn=(t_is x some).bind dn:=by
 unfold t_is
 repeat' first|exact n0|refine n1 fun _=>?_|refine n2 ?_ ?_|refine n3 (fun _=>?_) fun _=>?_|rfl
theorem r_is(x):callK E5 ca0 lo0 109 (A_is x).1 (A_is x).2 K=t_is x (fun z=>some (.c (R_is z))):=by kernel_rfl
noncomputable def is(q:Nat)(x:a_is):Option g_is:=t_is x some
theorem sc_is(q:Nat):Lw E5 109 A_is R_is (is q):=sof hW5 hX5 ca0_sound (fun _=>lo0_sound) fun x=>(r_is x).trans (by rw[n_is]<;>rfl)
abbrev a_take:Type:=ByteArray×SP
abbrev g_take:Type:=Bool×SP
def A_take:AR a_take:=fun x=>([.ptr 0 0,st x.1],(hHP x.2))
def d_take(t:TT):a_take:=((vS (ag t 1)),dHP t.2)
theorem v_take:VI A_take:=vd d_take fun _=>rfl
def R_take:g_take→CRes:=fun z=>.ret (bo z.1) (hHP z.2)
def t_take{β:Type}(c_is:a_is→Option g_is)(x:a_take)(dn:g_take→Option β):Option β:=
 (c_is x).bind fun z12=>if z12.1=true then dn (true,w (z12.2.1+1),z12.2.2)else dn (false,z12.2)
theorem n_take{β:Type}(c_is)(x)(dn:g_take→Option β):t_take c_is x dn=(t_take c_is x some).bind dn:=by
 unfold t_take
 repeat' first|exact n0|refine n1 fun _=>?_|refine n2 ?_ ?_|refine n3 (fun _=>?_) fun _=>?_|rfl
theorem r_take(c_is)(x):callK E5 (ftb 109 A_is R_is c_is ca0) lo0 84 (A_take x).1 (A_take x).2 K=t_take (vf A_is c_is) x (fun z=>some (.c (R_take z))):=by kernel_rfl
noncomputable def take(q:Nat)(x:a_take):Option g_take:=t_take (is q) x some
theorem sc_take(q:Nat):Lw E5 84 A_take R_take (take q):=sof hW5 hX5 (fk (sc_is q) ca0_sound) (fun _=>lo0_sound) fun x=>(r_take (is q) x).trans (by rw[v_is,n_take]<;>rfl)
abbrev a_must:Type:=ByteArray×SP
abbrev g_must:Type:=(SP)⊕(Int×Int)
def A_must:AR a_must:=fun x=>([.ptr 0 0,st x.1],(hHP x.2))
def d_must(t:TT):a_must:=((vS (ag t 1)),dHP t.2)
theorem v_must:VI A_must:=vd d_must fun _=>rfl
def R_must:g_must→CRes:=Sum.elim (fun z:SP=>.ret (.tup []) (hHP z)) (fun z:Int×Int=>.pan (.ifc 45 (.agg [i64 z.1,i64 z.2])))
def t_must{β:Type}(c_take:a_take→Option g_take)(c_fail:a_fail→Option g_fail)(x:a_must)(dn:g_must→Option β):Option β:=
 (c_take x).bind fun z12=>if(!z12.1)=true then(c_fail (11,z12.2)).bind fun z25=>dn (.inr z25)else dn (.inl z12.2)
theorem n_must{β:Type}(c_take c_fail)(x)(dn:g_must→Option β):t_must c_take c_fail x dn=(t_must c_take c_fail x some).bind dn:=by
 unfold t_must
 repeat' first|exact n0|refine n1 fun _=>?_|refine n2 ?_ ?_|refine n3 (fun _=>?_) fun _=>?_|rfl
theorem r_must(c_take c_fail)(x):callK E5 (ftb 84 A_take R_take c_take (ftb 55 A_fail R_fail c_fail ca0)) lo0 53 (A_must x).1 (A_must x).2 K=t_must (vf A_take c_take) (vf A_fail c_fail) x (fun z=>some (.c (R_must z))):=by kernel_rfl
noncomputable def must(q:Nat)(x:a_must):Option g_must:=t_must (take q) (fail q) x some
theorem sc_must(q:Nat):Lw E5 53 A_must R_must (must q):=sof hW5 hX5 (fk (sc_take q) (fk (sc_fail q) ca0_sound)) (fun _=>lo0_sound) fun x=>(r_must (take q) (fail q) x).trans (by rw[v_take,v_fail,n_must]<;>rfl)
abbrev a_opens:Type:=ByteArray×SP
abbrev g_opens:Type:=(SP)⊕(Int×Int)
def A_opens:AR a_opens:=fun x=>([.ptr 0 0,st x.1],(hHP x.2))
def d_opens(t:TT):a_opens:=((vS (ag t 1)),dHP t.2)
theorem v_opens:VI A_opens:=vd d_opens fun _=>rfl
def R_opens:g_opens→CRes:=Sum.elim (fun z:SP=>.ret (.tup []) (hHP z)) (fun z:Int×Int=>.pan (.ifc 45 (.agg [i64 z.1,i64 z.2])))
def t_opens{β:Type}(c_is:a_is→Option g_is)(c_fail:a_fail→Option g_fail)(x:a_opens)(dn:g_opens→Option β):Option β:=
 (c_is x).bind fun z12=>if(!z12.1)=true then(c_fail (11,z12.2)).bind fun z25=>dn (.inr z25)else if(z12.2.2.1==12)=true then(c_fail (2,z12.2)).bind fun z38=>dn (.inr z38)else dn (.inl (w (z12.2.1+1),w (z12.2.2.1+1),z12.2.2.2))
theorem n_opens{β:Type}(c_is c_fail)(x)(dn:g_opens→Option β):t_opens c_is c_fail x dn=(t_opens c_is c_fail x some).bind dn:=by
 unfold t_opens
 repeat' first|exact n0|refine n1 fun _=>?_|refine n2 ?_ ?_|refine n3 (fun _=>?_) fun _=>?_|rfl
theorem r_opens(c_is c_fail)(x):callK E5 (ftb 109 A_is R_is c_is (ftb 55 A_fail R_fail c_fail ca0)) lo0 88 (A_opens x).1 (A_opens x).2 K=t_opens (vf A_is c_is) (vf A_fail c_fail) x (fun z=>some (.c (R_opens z))):=by kernel_rfl
noncomputable def opens(q:Nat)(x:a_opens):Option g_opens:=t_opens (is q) (fail q) x some
theorem sc_opens(q:Nat):Lw E5 88 A_opens R_opens (opens q):=sof hW5 hX5 (fk (sc_is q) (fk (sc_fail q) ca0_sound)) (fun _=>lo0_sound) fun x=>(r_opens (is q) (fail q) x).trans (by rw[v_is,v_fail,n_opens]<;>rfl)
abbrev a_reserved:Type:=ByteArray
abbrev g_reserved:Type:=Bool
def A_reserved:AR a_reserved:=fun x=>([st x],[])
def d_reserved(t:TT):a_reserved:=(vS (ag t 0))
theorem v_reserved:VI A_reserved:=vd d_reserved fun _=>rfl
def R_reserved:g_reserved→CRes:=fun z=>.ret (bo z) []
def t_reserved{β:Type}(c_Contains:a_Contains→Option g_Contains)(x:a_reserved)(dn:g_reserved→Option β):Option β:=
 if 1+x.size≤maxLen then if ByteArray.size (⟨#[32]⟩++x)+1≤maxLen then(c_Contains ({data:=List.toArray (List.append [32,112,114,111,99,101,100,117,114,101,32,108,101,116,32,105,102,32,101,108,115,101,32,114,101,112,101,97,116,32,119,97,105,116,32,97,119,97,105,116,32,119,105,116,104,105,110,32,114,101,113,117,105] [114,101,32,112,111,105,110,116,32,117,115,101,32,102,111,114,32,115,101,110,100,32,107,101,101,112,32,101,109,105,116,32,97,98,111,114,116,32,116,114,117,101,32,102,97,108,115,101,32,116,108,109,32])},⟨#[32]⟩++x++⟨#[32]⟩)).bind fun z2=>dn z2 else none else none
theorem n_reserved{β:Type}(c_Contains)(x)(dn:g_reserved→Option β):t_reserved c_Contains x dn=(t_reserved c_Contains x some).bind dn:=by
 unfold t_reserved
 repeat' first|exact n0|refine n1 fun _=>?_|refine n2 ?_ ?_|refine n3 (fun _=>?_) fun _=>?_|rfl
theorem r_reserved(c_Contains)(x):callK E5 (ftb 110 A_Contains R_Contains c_Contains ca0) lo0 85 (A_reserved x).1 (A_reserved x).2 K=t_reserved (vf A_Contains c_Contains) x (fun z=>some (.c (R_reserved z))):=by kernel_rfl
noncomputable def reserved(q:Nat)(x:a_reserved):Option g_reserved:=t_reserved (Contains q) x some
theorem sc_reserved(q:Nat):Lw E5 85 A_reserved R_reserved (reserved q):=sof hW5 hX5 (fk (sc_Contains q) ca0_sound) (fun _=>lo0_sound) fun x=>(r_reserved (Contains q) x).trans (by rw[v_Contains,n_reserved]<;>rfl)
abbrev a_name:Type:=SP
abbrev g_name:Type:=(ByteArray×SP)⊕(Int×Int)
def A_name:AR a_name:=fun x=>([.ptr 0 0],(hHP x))
def d_name(t:TT):a_name:=(dHP t.2)
theorem v_name:VI A_name:=vd d_name fun _=>rfl
def R_name:g_name→CRes:=Sum.elim (fun z:ByteArray×SP=>.ret (st z.1) (hHP z.2)) (fun z:Int×Int=>.pan (.ifc 45 (.agg [i64 z.1,i64 z.2])))
def t_name{β:Type}(c_next:a_next→Option g_next)(c_reserved:a_reserved→Option g_reserved)(c_fail:a_fail→Option g_fail)(x:a_name)(dn:g_name→Option β):Option β:=
 (c_next x).bind fun z11=>if(z11.1 !=1)=true then(c_fail (11,z11.2.2.2.2)).bind fun z24=>dn (.inr z24)else(c_reserved z11.2.2.1).bind fun z26=>if z26=true then(c_fail (11,z11.2.2.2.2)).bind fun z39=>dn (.inr z39)else dn (.inl (z11.2.2.1,w (z11.2.2.2.2.1+1),z11.2.2.2.2.2))
theorem n_name{β:Type}(c_next c_reserved c_fail)(x)(dn:g_name→Option β):t_name c_next c_reserved c_fail x dn=(t_name c_next c_reserved c_fail x some).bind dn:=by
 unfold t_name
 repeat' first|exact n0|refine n1 fun _=>?_|refine n2 ?_ ?_|refine n3 (fun _=>?_) fun _=>?_|rfl
theorem r_name(c_next c_reserved c_fail)(x):callK E5 (ftb 22 A_next R_next c_next (ftb 85 A_reserved R_reserved c_reserved (ftb 55 A_fail R_fail c_fail ca0))) lo0 54 (A_name x).1 (A_name x).2 K=t_name (vf A_next c_next) (vf A_reserved c_reserved) (vf A_fail c_fail) x (fun z=>some (.c (R_name z))):=by kernel_rfl
noncomputable def name(q:Nat)(x:a_name):Option g_name:=t_name (next q) (reserved q) (fail q) x some
theorem sc_name(q:Nat):Lw E5 54 A_name R_name (name q):=sof hW5 hX5 (fk (sc_next q) (fk (sc_reserved q) (fk (sc_fail q) ca0_sound))) (fun _=>lo0_sound) fun x=>(r_name (next q) (reserved q) (fail q) x).trans (by rw[v_next,v_reserved,v_fail,n_name]<;>rfl)
abbrev a_declare:Type:=SP
abbrev g_declare:Type:=(ByteArray×SP)⊕(Int×Int)
def A_declare:AR a_declare:=fun x=>([.ptr 0 0],(hHP x))
def d_declare(t:TT):a_declare:=(dHP t.2)
theorem v_declare:VI A_declare:=vd d_declare fun _=>rfl
def R_declare:g_declare→CRes:=Sum.elim (fun z:ByteArray×SP=>.ret (st z.1) (hHP z.2)) (fun z:Int×Int=>.pan (.ifc 45 (.agg [i64 z.1,i64 z.2])))
abbrev declare_l0_a:Type:=ByteArray×Nat×Int×Nat×FI×FI×FS×FI×Int×Int×Nat×FS×FS×Int
abbrev declare_l0_g:Type:=(Int×Int)⊕(ByteArray×SC2)
def declare_l0_S(x:a_declare)(y:declare_l0_a):St:={fr:=[V.ptr 0 0,V.junk,V.junk,st y.1]++jk 14++[V.sl 1 1 0 y.2.1,i64 y.2.2.1,i64 y.2.2.2.2.2.2.2.2.2.2.2.2.2]++jk 35,H:=hp [some (Chunk.blk [V.ro 4 y.2.2.2.1 fun j=>[i64 (y.2.2.2.2.1 j),i64 (y.2.2.2.2.2.1 j),st (y.2.2.2.2.2.2.1 j),i64 (y.2.2.2.2.2.2.2.1 j)],i64 y.2.2.2.2.2.2.2.2.1,i64 y.2.2.2.2.2.2.2.2.2.1,V.sl 1 1 0 y.2.1,V.sl 2 1 0 y.2.2.2.2.2.2.2.2.2.2.1]),some (Chunk.row 9 1 y.2.1 fun j=>[st (y.2.2.2.2.2.2.2.2.2.2.2.1 j)]),some (Chunk.row 9 1 y.2.2.2.2.2.2.2.2.2.2.1 fun j=>[st (y.2.2.2.2.2.2.2.2.2.2.2.2.1 j)])],nx:=3,rt:=1,me:=86}
def declare_l0_d(s:St):declare_l0_a:=((vS (s.fr.getD 3 .junk)),vSlN (s.fr.getD 18 .junk),vI (s.fr.getD 19 .junk),vRoN (cb s 0 0),dTI (cb s 0 0) 0,dTI (cb s 0 0) 1,dTS (cb s 0 0) 2,dTI (cb s 0 0) 3,vI (cb s 0 1),vI (cb s 0 2),vSlN (cb s 0 4),dRS (s.H 1) 0,dRS (s.H 2) 0,vI (s.fr.getD 20 .junk))
theorem declare_l0_u(x:a_declare):VL (declare_l0_S x):=vl declare_l0_d fun _=>rfl
def declare_l0_T(x:a_declare):declare_l0_g→Ex×St:=(Sum.elim (fun z=>(Ex.panic (V.ifc 45 (V.agg [i64 z.1,i64 z.2])),{fr:=[V.junk]++jk 55,H:=hp [none],nx:=1,rt:=1,me:=86})) (fun z=>(Ex.exit 0,{fr:=[V.ptr 0 0,V.junk,V.junk,st z.1]++jk 52,H:=hp [some (hPB z.2),some (hPV z.2),some (hPQ0 z.2)],nx:=3,rt:=1,me:=86})))
def declare_l0_t{β:Type}(c_name:a_name→Option g_name)(c_fail:a_fail→Option g_fail)(x:a_declare)(y:declare_l0_a)(nx:declare_l0_a→Option β)(dn:declare_l0_g→Option β):Option β:=
 if decide (y.2.2.2.2.2.2.2.2.2.2.2.2.2<y.2.2.1)=true then if 0≤y.2.2.2.2.2.2.2.2.2.2.2.2.2∧y.2.2.2.2.2.2.2.2.2.2.2.2.2< ((y.2.1:Nat):Int)then if 0+Int.toNat y.2.2.2.2.2.2.2.2.2.2.2.2.2<y.2.1∧1=1 then if(ByteArray.toList (y.2.2.2.2.2.2.2.2.2.2.2.1 (0+Int.toNat y.2.2.2.2.2.2.2.2.2.2.2.2.2))==y.1.toList)=true then(c_fail (4,y.2.2.2.2.2.2.2.2.1,y.2.2.2.2.2.2.2.2.2.1,y.2.2.2.1,y.2.2.2.2.1,y.2.2.2.2.2.1,y.2.2.2.2.2.2.1,y.2.2.2.2.2.2.2.1,y.2.1,y.2.2.2.2.2.2.2.2.2.2.2.1,y.2.2.2.2.2.2.2.2.2.2.1,y.2.2.2.2.2.2.2.2.2.2.2.2.1)).bind fun z162=>dn (.inl z162)else nx (y.1,y.2.1,y.2.2.1,y.2.2.2.1,y.2.2.2.2.1,y.2.2.2.2.2.1,y.2.2.2.2.2.2.1,y.2.2.2.2.2.2.2.1,y.2.2.2.2.2.2.2.2.1,y.2.2.2.2.2.2.2.2.2.1,y.2.2.2.2.2.2.2.2.2.2.1,y.2.2.2.2.2.2.2.2.2.2.2.1,y.2.2.2.2.2.2.2.2.2.2.2.2.1,w (y.2.2.2.2.2.2.2.2.2.2.2.2.2+1))else none else none else dn (.inr (y.1,y.2.2.2.1,y.2.2.2.2.1,y.2.2.2.2.2.1,y.2.2.2.2.2.2.1,y.2.2.2.2.2.2.2.1,y.2.2.2.2.2.2.2.2.1,y.2.2.2.2.2.2.2.2.2.1,y.2.1,y.2.2.2.2.2.2.2.2.2.2.1,y.2.2.2.2.2.2.2.2.2.2.2.1,y.2.2.2.2.2.2.2.2.2.2.2.2.1))
theorem declare_l0_n{β:Type}(c_name c_fail)(x)(y)(nx:declare_l0_a→Option β)(dn):declare_l0_t c_name c_fail x y nx dn=(declare_l0_t c_name c_fail x y (fun y=>some (.inl y)) (fun z=>some (.inr z))).bind fun r=>Sum.elim nx dn r:=by
 unfold declare_l0_t
 repeat' first|exact n0|refine n1 fun _=>?_|refine n2 ?_ ?_|refine n3 (fun _=>?_) fun _=>?_|rfl
theorem declare_l0_r(c_name c_fail)(x)(y)(lo:LoopT):loopK E5 (ft2 54 A_name R_name c_name (ftb 55 A_fail R_fail c_fail ca0)) lo 0 1835017 (bodyOf E5 86 0) (declare_l0_S x y) (KCM [(0,9)] 4)=declare_l0_t (vf A_name c_name) (vf A_fail c_fail) x y (fun y=>lo 0 1835017 (bodyOf E5 86 0) (declare_l0_S x y) (KCM [(0,9)] 4)) (fun z=>some (.l (declare_l0_T x z).1 (declare_l0_T x z).2)):=by kernel_rfl
noncomputable def declare_l0(c_name:a_name→Option g_name)(c_fail:a_fail→Option g_fail)(q:Nat)(x:a_declare):declare_l0_a→Option declare_l0_g:=lpG (fun y=>declare_l0_t c_name c_fail x y (fun y=>some (.inl y)) (fun z=>some (.inr z))) q
theorem declare_l0_s(c_name)(h_name:Lw E5 54 A_name R_name c_name)(c_fail)(h_fail:Lw E5 55 A_fail R_fail c_fail)(q:Nat)(x:a_declare):Ll E5 (bodyOf E5 86 0) (declare_l0_S x) (declare_l0_T x) (declare_l0 c_name c_fail q x):=
 slp (fk2 h_name (fk h_fail ca0_sound)) hX5 (fun lo y=>(declare_l0_r c_name c_fail x y lo).trans (by rw[v_name,v_fail];exact declare_l0_n _ _ _ _ _ _)) (fun z=>by rcases z with z|z<;>kernel_rfl) q
def t_declare{β:Type}(c_name:a_name→Option g_name)(c_fail:a_fail→Option g_fail)(l_declare_l0:declare_l0_a→Option declare_l0_g)(x:a_declare)(dn:g_declare→Option β):Option β:=
 (c_name x).bind fun z11=>Sum.elim (fun z11a=>(l_declare_l0 (z11a.1,z11a.2.2.2.2.2.2.2.2.1,((z11a.2.2.2.2.2.2.2.2.1:Nat):Int),z11a.2.2.2.1,z11a.2.2.2.2.1,z11a.2.2.2.2.2.1,z11a.2.2.2.2.2.2.1,z11a.2.2.2.2.2.2.2.1,w (z11a.2.1-1),z11a.2.2.1,z11a.2.2.2.2.2.2.2.2.2.2.1,z11a.2.2.2.2.2.2.2.2.2.1,z11a.2.2.2.2.2.2.2.2.2.2.2,0)).bind fun z108=>Sum.elim (fun z108a=>dn (.inr z108a)) (fun z108b=>if(((z108b.2.2.2.2.2.2.2.2.1:Nat):Int)==12)=true then(c_fail (2,z108b.2.2.2.2.2.2.1,z108b.2.2.2.2.2.2.2.1,z108b.2.1,z108b.2.2.1,z108b.2.2.2.1,z108b.2.2.2.2.1,z108b.2.2.2.2.2.1,z108b.2.2.2.2.2.2.2.2.1,z108b.2.2.2.2.2.2.2.2.2.2.1,z108b.2.2.2.2.2.2.2.2.2.1,z108b.2.2.2.2.2.2.2.2.2.2.2)).bind fun z122=>dn (.inr z122)else if(z108b.2.2.2.2.2.2.2.2.1+1)*16≤roomBound∧z108b.2.2.2.2.2.2.2.2.1+1≤maxLen∧z108b.2.2.2.2.2.2.2.2.1≤z108b.2.2.2.2.2.2.2.2.1 then dn (.inl (z108b.1,w (z108b.2.2.2.2.2.2.1+1),z108b.2.2.2.2.2.2.2.1,z108b.2.1,z108b.2.2.1,z108b.2.2.2.1,z108b.2.2.2.2.1,z108b.2.2.2.2.2.1,z108b.2.2.2.2.2.2.2.2.1+1,fun j=>if j<z108b.2.2.2.2.2.2.2.2.1 then z108b.2.2.2.2.2.2.2.2.2.2.1 j else z108b.1,z108b.2.2.2.2.2.2.2.2.2.1,z108b.2.2.2.2.2.2.2.2.2.2.2))else none) z108) (fun z11b=>dn (.inr z11b)) z11
theorem n_declare{β:Type}(c_name c_fail)(l_declare_l0)(x)(dn:g_declare→Option β):t_declare c_name c_fail l_declare_l0 x dn=(t_declare c_name c_fail l_declare_l0 x some).bind dn:=by
 unfold t_declare
 repeat' first|exact n0|refine n1 fun _=>?_|refine n2 ?_ ?_|refine n3 (fun _=>?_) fun _=>?_|rfl
theorem r_declare(c_name c_fail)(l_declare_l0)(x):callK E5 (ft2 54 A_name R_name c_name (ftb 55 A_fail R_fail c_fail ca0)) (lt2 0 (fun _=>true) (bodyOf E5 86 0) (declare_l0_S x) (declare_l0_T x) l_declare_l0 lo0) 86 (A_declare x).1 (A_declare x).2 K=t_declare (vf A_name c_name) (vf A_fail c_fail) (lf (bodyOf E5 86 0) (declare_l0_S x) l_declare_l0) x (fun z=>some (.c (R_declare z))):=by kernel_rfl
noncomputable def declare(q:Nat)(x:a_declare):Option g_declare:=t_declare (name q) (fail q) (declare_l0 (name q) (fail q) q x) x some
theorem sc_declare(q:Nat):Lw E5 86 A_declare R_declare (declare q):=sof hW5 hX5 (fk2 (sc_name q) (fk (sc_fail q) ca0_sound)) (fun x=>(lk2 (declare_l0_s (name q) (sc_name q) (fail q) (sc_fail q) q x) lo0_sound)) fun x=>(r_declare (name q) (fail q) (declare_l0 (name q) (fail q) q x) x).trans (by rw[v_name,v_fail,declare_l0_u,n_declare]<;>rfl)
abbrev a_number:Type:=Int×Int×SP
abbrev g_number:Type:=(Int×SP)⊕(Int×Int)
def A_number:AR a_number:=fun x=>([.ptr 0 0,i64 x.1,i64 x.2.1],(hHP x.2.2))
def d_number(t:TT):a_number:=((vI (ag t 1)),vI (ag t 2),dHP t.2)
theorem v_number:VI A_number:=vd d_number fun _=>rfl
def R_number:g_number→CRes:=Sum.elim (fun z:Int×SP=>.ret (i64 z.1) (hHP z.2)) (fun z:Int×Int=>.pan (.ifc 45 (.agg [i64 z.1,i64 z.2])))
def t_number{β:Type}(c_next:a_next→Option g_next)(c_fail:a_fail→Option g_fail)(x:a_number)(dn:g_number→Option β):Option β:=
 (c_next x.2.2).bind fun z11=>if(z11.1 !=2)=true then(c_fail (11,z11.2.2.2.2)).bind fun z24=>dn (.inr z24)else if decide (z11.2.2.2.1<x.1)=true then(c_fail (5,z11.2.2.2.2)).bind fun z37=>dn (.inr z37)else if decide (z11.2.2.2.1>x.2.1)=true then(c_fail (5,z11.2.2.2.2)).bind fun z50=>dn (.inr z50)else dn (.inl (z11.2.2.2.1,w (z11.2.2.2.2.1+1),z11.2.2.2.2.2))
theorem n_number{β:Type}(c_next c_fail)(x)(dn:g_number→Option β):t_number c_next c_fail x dn=(t_number c_next c_fail x some).bind dn:=by
 unfold t_number
 repeat' first|exact n0|refine n1 fun _=>?_|refine n2 ?_ ?_|refine n3 (fun _=>?_) fun _=>?_|rfl
theorem r_number(c_next c_fail)(x):callK E5 (ftb 22 A_next R_next c_next (ftb 55 A_fail R_fail c_fail ca0)) lo0 137 (A_number x).1 (A_number x).2 K=t_number (vf A_next c_next) (vf A_fail c_fail) x (fun z=>some (.c (R_number z))):=by kernel_rfl
noncomputable def number(q:Nat)(x:a_number):Option g_number:=t_number (next q) (fail q) x some
theorem sc_number(q:Nat):Lw E5 137 A_number R_number (number q):=sof hW5 hX5 (fk (sc_next q) (fk (sc_fail q) ca0_sound)) (fun _=>lo0_sound) fun x=>(r_number (next q) (fail q) x).trans (by rw[v_next,v_fail,n_number]<;>rfl)
end Go.Proofs.YtjfkkokeegpeiaaGreatDoor
/- The lexers, lifted. -/
namespace Go.Proofs.YtjfkkokeegpeiaaGreatDoor
open Go Go.Am Go.Proofs
set_option maxRecDepth 100000
def fnId:V→Nat| .fn g _=>g|_=>0
abbrev i32(n:Int):V:=.sc (.int .i32 n)
abbrev u8(n:Int):V:=.sc (.int .u8 n)
abbrev a_IndexByte:Type:=ByteArray×Int
abbrev g_IndexByte:Type:=Int
def A_IndexByte:AR a_IndexByte:=fun x=>([st x.1,u8 x.2],[])
def d_IndexByte(t:TT):a_IndexByte:=(vS (ag t 0),vI (ag t 1))
theorem v_IndexByte:VI A_IndexByte:=vd d_IndexByte fun _=>rfl
def R_IndexByte:g_IndexByte→CRes:=fun z=>.ret (i64 z) []
noncomputable def IndexByte(q:Nat)(x:a_IndexByte):Option g_IndexByte:=some (Lib.indexByte x.1.data.toList (UInt8.ofNat x.2.toNat))
theorem sc_IndexByte(q:Nat):Lw E5 83 A_IndexByte R_IndexByte (IndexByte q):=by
 rintro⟨s,c⟩ z h
 cases h
 exact sc5.2 (SC.ext hX rfl)
abbrev a_letter:Type:=Int
abbrev g_letter:Type:=Bool
def A_letter:AR a_letter:=fun x=>([i32 x],[])
def d_letter(t:TT):a_letter:=(vI (ag t 0))
theorem v_letter:VI A_letter:=vd d_letter fun _=>rfl
def R_letter:g_letter→CRes:=fun z=>.ret (bo z) []
def t_letter{β:Type}(x:a_letter)(dn:g_letter→Option β):Option β:=
 if decide (x≥97)=true then if decide (x≤122)=true then dn true else if decide (x≥65)=true then dn (decide (x≤90))else dn false else if decide (x≥65)=true then dn (decide (x≤90))else dn false
theorem n_letter{β:Type}(x)(dn:g_letter→Option β):t_letter x dn=(t_letter x some).bind dn:=by
 unfold t_letter
 repeat' first|exact n0|refine n1 fun _=>?_|refine n2 ?_ ?_|refine n3 (fun _=>?_) fun _=>?_|rfl
theorem r_letter(x):callK E5 ca0 lo0 48 (A_letter x).1 (A_letter x).2 K=t_letter x (fun z=>some (.c (R_letter z))):=by kernel_rfl
noncomputable def letter(q:Nat)(x:a_letter):Option g_letter:=t_letter x some
theorem sc_letter(q:Nat):Lw E5 48 A_letter R_letter (letter q):=sof hW5 hX5 ca0_sound (fun _=>lo0_sound) fun x=>(r_letter x).trans (by rw[n_letter]<;>rfl)
abbrev a_digit:Type:=Int
abbrev g_digit:Type:=Bool
def A_digit:AR a_digit:=fun x=>([i32 x],[])
def d_digit(t:TT):a_digit:=(vI (ag t 0))
theorem v_digit:VI A_digit:=vd d_digit fun _=>rfl
def R_digit:g_digit→CRes:=fun z=>.ret (bo z) []
def t_digit{β:Type}(x:a_digit)(dn:g_digit→Option β):Option β:=
 if decide (x≥48)=true then dn (decide (x≤57))else dn false
theorem n_digit{β:Type}(x)(dn:g_digit→Option β):t_digit x dn=(t_digit x some).bind dn:=by
 unfold t_digit
 repeat' first|exact n0|refine n1 fun _=>?_|refine n2 ?_ ?_|refine n3 (fun _=>?_) fun _=>?_|rfl
theorem r_digit(x):callK E5 ca0 lo0 50 (A_digit x).1 (A_digit x).2 K=t_digit x (fun z=>some (.c (R_digit z))):=by kernel_rfl
noncomputable def digit(q:Nat)(x:a_digit):Option g_digit:=t_digit x some
theorem sc_digit(q:Nat):Lw E5 50 A_digit R_digit (digit q):=sof hW5 hX5 ca0_sound (fun _=>lo0_sound) fun x=>(r_digit x).trans (by rw[n_digit]<;>rfl)
abbrev a_notLf:Type:=Int
abbrev g_notLf:Type:=Bool
def A_notLf:AR a_notLf:=fun x=>([i32 x],[])
def d_notLf(t:TT):a_notLf:=(vI (ag t 0))
theorem v_notLf:VI A_notLf:=vd d_notLf fun _=>rfl
def R_notLf:g_notLf→CRes:=fun z=>.ret (bo z) []
def t_notLf{β:Type}(x:a_notLf)(dn:g_notLf→Option β):Option β:=
 dn (x !=10)
theorem n_notLf{β:Type}(x)(dn:g_notLf→Option β):t_notLf x dn=(t_notLf x some).bind dn:=by
 unfold t_notLf
 repeat' first|exact n0|refine n1 fun _=>?_|refine n2 ?_ ?_|refine n3 (fun _=>?_) fun _=>?_|rfl
theorem r_notLf(x):callK E5 ca0 lo0 47 (A_notLf x).1 (A_notLf x).2 K=t_notLf x (fun z=>some (.c (R_notLf z))):=by kernel_rfl
noncomputable def notLf(q:Nat)(x:a_notLf):Option g_notLf:=t_notLf x some
theorem sc_notLf(q:Nat):Lw E5 47 A_notLf R_notLf (notLf q):=sof hW5 hX5 ca0_sound (fun _=>lo0_sound) fun x=>(r_notLf x).trans (by rw[n_notLf]<;>rfl)
abbrev a_wordC:Type:=Int
abbrev g_wordC:Type:=Bool
def A_wordC:AR a_wordC:=fun x=>([i32 x],[])
def d_wordC(t:TT):a_wordC:=(vI (ag t 0))
theorem v_wordC:VI A_wordC:=vd d_wordC fun _=>rfl
def R_wordC:g_wordC→CRes:=fun z=>.ret (bo z) []
def t_wordC{β:Type}(c_letter:a_letter→Option g_letter)(c_digit:a_digit→Option g_digit)(x:a_wordC)(dn:g_wordC→Option β):Option β:=
 (c_letter x).bind fun z1=>if z1=true then dn true else(c_digit x).bind fun z3=>dn z3
theorem n_wordC{β:Type}(c_letter c_digit)(x)(dn:g_wordC→Option β):t_wordC c_letter c_digit x dn=(t_wordC c_letter c_digit x some).bind dn:=by
 unfold t_wordC
 repeat' first|exact n0|refine n1 fun _=>?_|refine n2 ?_ ?_|refine n3 (fun _=>?_) fun _=>?_|rfl
theorem r_wordC(c_letter c_digit)(x):callK E5 (ftb 48 A_letter R_letter c_letter (ftb 50 A_digit R_digit c_digit ca0)) lo0 82 (A_wordC x).1 (A_wordC x).2 K=t_wordC (vf A_letter c_letter) (vf A_digit c_digit) x (fun z=>some (.c (R_wordC z))):=by kernel_rfl
noncomputable def wordC(q:Nat)(x:a_wordC):Option g_wordC:=t_wordC (letter q) (digit q) x some
theorem sc_wordC(q:Nat):Lw E5 82 A_wordC R_wordC (wordC q):=sof hW5 hX5 (fk (sc_letter q) (fk (sc_digit q) ca0_sound)) (fun _=>lo0_sound) fun x=>(r_wordC (letter q) (digit q) x).trans (by rw[v_letter,v_digit,n_wordC]<;>rfl)
abbrev a_spanN:Type:=ByteArray
abbrev g_spanN:Type:=Int
def A_spanN:AR a_spanN:=fun x=>([st x,.fn 47 []],[])
def d_spanN(t:TT):a_spanN:=(vS (ag t 0))
theorem v_spanN:VI A_spanN:=vd d_spanN fun _=>rfl
def R_spanN:g_spanN→CRes:=fun z=>.ret (i64 z) []
abbrev spanN_l0_a:Type:=Nat
abbrev spanN_l0_g:Type:=(Int)⊕(Unit)
def spanN_l0_S(x:a_spanN)(y:spanN_l0_a):St:={fr:=[st x,V.fn 47 []]++jk 6++[V.ptr 0 0]++jk 11,H:=hp [some (Chunk.iter x y)],nx:=1,rt:=0,me:=46}
def spanN_l0_d(s:St):spanN_l0_a:=(chP (s.H 0))
theorem spanN_l0_u(x:a_spanN):VL (spanN_l0_S x):=vl spanN_l0_d fun _=>rfl
def spanN_l0_T(x:a_spanN):spanN_l0_g→Ex×St:=(Sum.elim (fun z=>(Ex.ret,{fr:=jk 4++[i64 z]++jk 15,H:=hp [],nx:=0,rt:=0,me:=46})) (fun z=>(Ex.exit 0,{fr:=[st x]++jk 19,H:=hp [],nx:=0,rt:=0,me:=46})))
def spanN_l0_t{β:Type}(c_notLf:a_notLf→Option g_notLf)(x:a_spanN)(y:spanN_l0_a)(nx:spanN_l0_a→Option β)(dn:spanN_l0_g→Option β):Option β:=
 if y<x.size then(c_notLf ((Prod.fst (Utf8.decode x y):Nat):Int)).bind fun z14=>if(!z14)=true then dn (.inl ((y:Nat):Int))else nx (y+Prod.snd (Utf8.decode x y))else dn (.inr ())
theorem spanN_l0_n{β:Type}(c_notLf)(x)(y)(nx:spanN_l0_a→Option β)(dn):spanN_l0_t c_notLf x y nx dn=(spanN_l0_t c_notLf x y (fun y=>some (.inl y)) (fun z=>some (.inr z))).bind fun r=>Sum.elim nx dn r:=by
 unfold spanN_l0_t
 repeat' first|exact n0|refine n1 fun _=>?_|refine n2 ?_ ?_|refine n3 (fun _=>?_) fun _=>?_|rfl
theorem spanN_l0_r(c_notLf)(x)(y)(lo:LoopT):loopK E5 (ftb 47 A_notLf R_notLf c_notLf ca0) lo 0 259 (bodyOf E5 46 0) (spanN_l0_S x y) (KCM [(0,1)] 16)=spanN_l0_t (vf A_notLf c_notLf) x y (fun y=>lo 0 259 (bodyOf E5 46 0) (spanN_l0_S x y) (KCM [(0,1)] 16)) (fun z=>some (.l (spanN_l0_T x z).1 (spanN_l0_T x z).2)):=by kernel_rfl
noncomputable def spanN_l0(c_notLf:a_notLf→Option g_notLf)(q:Nat)(x:a_spanN):spanN_l0_a→Option spanN_l0_g:=lpG (fun y=>spanN_l0_t c_notLf x y (fun y=>some (.inl y)) (fun z=>some (.inr z))) q
theorem spanN_l0_s(c_notLf)(h_notLf:Lw E5 47 A_notLf R_notLf c_notLf)(q:Nat)(x:a_spanN):Ll E5 (bodyOf E5 46 0) (spanN_l0_S x) (spanN_l0_T x) (spanN_l0 c_notLf q x):=
 slp (fk h_notLf ca0_sound) hX5 (fun lo y=>(spanN_l0_r c_notLf x y lo).trans (by rw[v_notLf];exact spanN_l0_n _ _ _ _ _)) (fun z=>by rcases z with z|z<;>kernel_rfl) q
def t_spanN{β:Type}(c_notLf:a_notLf→Option g_notLf)(l_spanN_l0:spanN_l0_a→Option spanN_l0_g)(x:a_spanN)(dn:g_spanN→Option β):Option β:=
 (l_spanN_l0 (0)).bind fun z8=>Sum.elim (fun z8a=>dn z8a) (fun z8b=>dn (x.size:Int)) z8
theorem n_spanN{β:Type}(c_notLf)(l_spanN_l0)(x)(dn:g_spanN→Option β):t_spanN c_notLf l_spanN_l0 x dn=(t_spanN c_notLf l_spanN_l0 x some).bind dn:=by
 unfold t_spanN
 repeat' first|exact n0|refine n1 fun _=>?_|refine n2 ?_ ?_|refine n3 (fun _=>?_) fun _=>?_|rfl
theorem r_spanN(c_notLf)(l_spanN_l0)(x):callK E5 (ftb 47 A_notLf R_notLf c_notLf ca0) (lt2 0 (fun _=>true) (bodyOf E5 46 0) (spanN_l0_S x) (spanN_l0_T x) l_spanN_l0 lo0) 46 (A_spanN x).1 (A_spanN x).2 K=t_spanN (vf A_notLf c_notLf) (lf (bodyOf E5 46 0) (spanN_l0_S x) l_spanN_l0) x (fun z=>some (.c (R_spanN z))):=by kernel_rfl
noncomputable def spanN(q:Nat)(x:a_spanN):Option g_spanN:=t_spanN (notLf q) (spanN_l0 (notLf q) q x) x some
theorem sc_spanN(q:Nat):Lw E5 46 A_spanN R_spanN (spanN q):=sof hW5 hX5 (fk (sc_notLf q) ca0_sound) (fun x=>(lk2 (spanN_l0_s (notLf q) (sc_notLf q) q x) lo0_sound)) fun x=>(r_spanN (notLf q) (spanN_l0 (notLf q) q x) x).trans (by rw[v_notLf,spanN_l0_u,n_spanN]<;>rfl)
abbrev a_spanD:Type:=ByteArray
abbrev g_spanD:Type:=Int
def A_spanD:AR a_spanD:=fun x=>([st x,.fn 50 []],[])
def d_spanD(t:TT):a_spanD:=(vS (ag t 0))
theorem v_spanD:VI A_spanD:=vd d_spanD fun _=>rfl
def R_spanD:g_spanD→CRes:=fun z=>.ret (i64 z) []
abbrev spanD_l0_a:Type:=Nat
abbrev spanD_l0_g:Type:=(Int)⊕(Unit)
def spanD_l0_S(x:a_spanD)(y:spanD_l0_a):St:={fr:=[st x,V.fn 50 []]++jk 6++[V.ptr 0 0]++jk 11,H:=hp [some (Chunk.iter x y)],nx:=1,rt:=0,me:=46}
def spanD_l0_d(s:St):spanD_l0_a:=(chP (s.H 0))
theorem spanD_l0_u(x:a_spanD):VL (spanD_l0_S x):=vl spanD_l0_d fun _=>rfl
def spanD_l0_T(x:a_spanD):spanD_l0_g→Ex×St:=(Sum.elim (fun z=>(Ex.ret,{fr:=jk 4++[i64 z]++jk 15,H:=hp [],nx:=0,rt:=0,me:=46})) (fun z=>(Ex.exit 0,{fr:=[st x]++jk 19,H:=hp [],nx:=0,rt:=0,me:=46})))
def spanD_l0_t{β:Type}(c_digit:a_digit→Option g_digit)(x:a_spanD)(y:spanD_l0_a)(nx:spanD_l0_a→Option β)(dn:spanD_l0_g→Option β):Option β:=
 if y<x.size then(c_digit ((Prod.fst (Utf8.decode x y):Nat):Int)).bind fun z14=>if(!z14)=true then dn (.inl ((y:Nat):Int))else nx (y+Prod.snd (Utf8.decode x y))else dn (.inr ())
theorem spanD_l0_n{β:Type}(c_digit)(x)(y)(nx:spanD_l0_a→Option β)(dn):spanD_l0_t c_digit x y nx dn=(spanD_l0_t c_digit x y (fun y=>some (.inl y)) (fun z=>some (.inr z))).bind fun r=>Sum.elim nx dn r:=by
 unfold spanD_l0_t
 repeat' first|exact n0|refine n1 fun _=>?_|refine n2 ?_ ?_|refine n3 (fun _=>?_) fun _=>?_|rfl
theorem spanD_l0_r(c_digit)(x)(y)(lo:LoopT):loopK E5 (ftb 50 A_digit R_digit c_digit ca0) lo 0 259 (bodyOf E5 46 0) (spanD_l0_S x y) (KCM [(0,1)] 16)=spanD_l0_t (vf A_digit c_digit) x y (fun y=>lo 0 259 (bodyOf E5 46 0) (spanD_l0_S x y) (KCM [(0,1)] 16)) (fun z=>some (.l (spanD_l0_T x z).1 (spanD_l0_T x z).2)):=by kernel_rfl
noncomputable def spanD_l0(c_digit:a_digit→Option g_digit)(q:Nat)(x:a_spanD):spanD_l0_a→Option spanD_l0_g:=lpG (fun y=>spanD_l0_t c_digit x y (fun y=>some (.inl y)) (fun z=>some (.inr z))) q
theorem spanD_l0_s(c_digit)(h_digit:Lw E5 50 A_digit R_digit c_digit)(q:Nat)(x:a_spanD):Ll E5 (bodyOf E5 46 0) (spanD_l0_S x) (spanD_l0_T x) (spanD_l0 c_digit q x):=
 slp (fk h_digit ca0_sound) hX5 (fun lo y=>(spanD_l0_r c_digit x y lo).trans (by rw[v_digit];exact spanD_l0_n _ _ _ _ _)) (fun z=>by rcases z with z|z<;>kernel_rfl) q
def t_spanD{β:Type}(c_digit:a_digit→Option g_digit)(l_spanD_l0:spanD_l0_a→Option spanD_l0_g)(x:a_spanD)(dn:g_spanD→Option β):Option β:=
 (l_spanD_l0 (0)).bind fun z8=>Sum.elim (fun z8a=>dn z8a) (fun z8b=>dn (x.size:Int)) z8
theorem n_spanD{β:Type}(c_digit)(l_spanD_l0)(x)(dn:g_spanD→Option β):t_spanD c_digit l_spanD_l0 x dn=(t_spanD c_digit l_spanD_l0 x some).bind dn:=by
 unfold t_spanD
 repeat' first|exact n0|refine n1 fun _=>?_|refine n2 ?_ ?_|refine n3 (fun _=>?_) fun _=>?_|rfl
theorem r_spanD(c_digit)(l_spanD_l0)(x):callK E5 (ftb 50 A_digit R_digit c_digit ca0) (lt2 0 (fun _=>true) (bodyOf E5 46 0) (spanD_l0_S x) (spanD_l0_T x) l_spanD_l0 lo0) 46 (A_spanD x).1 (A_spanD x).2 K=t_spanD (vf A_digit c_digit) (lf (bodyOf E5 46 0) (spanD_l0_S x) l_spanD_l0) x (fun z=>some (.c (R_spanD z))):=by kernel_rfl
noncomputable def spanD(q:Nat)(x:a_spanD):Option g_spanD:=t_spanD (digit q) (spanD_l0 (digit q) q x) x some
theorem sc_spanD(q:Nat):Lw E5 46 A_spanD R_spanD (spanD q):=sof hW5 hX5 (fk (sc_digit q) ca0_sound) (fun x=>(lk2 (spanD_l0_s (digit q) (sc_digit q) q x) lo0_sound)) fun x=>(r_spanD (digit q) (spanD_l0 (digit q) q x) x).trans (by rw[v_digit,spanD_l0_u,n_spanD]<;>rfl)
abbrev a_spanW:Type:=ByteArray
abbrev g_spanW:Type:=Int
def A_spanW:AR a_spanW:=fun x=>([st x,.fn 82 []],[])
def d_spanW(t:TT):a_spanW:=(vS (ag t 0))
theorem v_spanW:VI A_spanW:=vd d_spanW fun _=>rfl
def R_spanW:g_spanW→CRes:=fun z=>.ret (i64 z) []
abbrev spanW_l0_a:Type:=Nat
abbrev spanW_l0_g:Type:=(Int)⊕(Unit)
def spanW_l0_S(x:a_spanW)(y:spanW_l0_a):St:={fr:=[st x,V.fn 82 []]++jk 6++[V.ptr 0 0]++jk 11,H:=hp [some (Chunk.iter x y)],nx:=1,rt:=0,me:=46}
def spanW_l0_d(s:St):spanW_l0_a:=(chP (s.H 0))
theorem spanW_l0_u(x:a_spanW):VL (spanW_l0_S x):=vl spanW_l0_d fun _=>rfl
def spanW_l0_T(x:a_spanW):spanW_l0_g→Ex×St:=(Sum.elim (fun z=>(Ex.ret,{fr:=jk 4++[i64 z]++jk 15,H:=hp [],nx:=0,rt:=0,me:=46})) (fun z=>(Ex.exit 0,{fr:=[st x]++jk 19,H:=hp [],nx:=0,rt:=0,me:=46})))
def spanW_l0_t{β:Type}(c_wordC:a_wordC→Option g_wordC)(x:a_spanW)(y:spanW_l0_a)(nx:spanW_l0_a→Option β)(dn:spanW_l0_g→Option β):Option β:=
 if y<x.size then(c_wordC ((Prod.fst (Utf8.decode x y):Nat):Int)).bind fun z14=>if(!z14)=true then dn (.inl ((y:Nat):Int))else nx (y+Prod.snd (Utf8.decode x y))else dn (.inr ())
theorem spanW_l0_n{β:Type}(c_wordC)(x)(y)(nx:spanW_l0_a→Option β)(dn):spanW_l0_t c_wordC x y nx dn=(spanW_l0_t c_wordC x y (fun y=>some (.inl y)) (fun z=>some (.inr z))).bind fun r=>Sum.elim nx dn r:=by
 unfold spanW_l0_t
 repeat' first|exact n0|refine n1 fun _=>?_|refine n2 ?_ ?_|refine n3 (fun _=>?_) fun _=>?_|rfl
theorem spanW_l0_r(c_wordC)(x)(y)(lo:LoopT):loopK E5 (ftb 82 A_wordC R_wordC c_wordC ca0) lo 0 259 (bodyOf E5 46 0) (spanW_l0_S x y) (KCM [(0,1)] 16)=spanW_l0_t (vf A_wordC c_wordC) x y (fun y=>lo 0 259 (bodyOf E5 46 0) (spanW_l0_S x y) (KCM [(0,1)] 16)) (fun z=>some (.l (spanW_l0_T x z).1 (spanW_l0_T x z).2)):=by kernel_rfl
noncomputable def spanW_l0(c_wordC:a_wordC→Option g_wordC)(q:Nat)(x:a_spanW):spanW_l0_a→Option spanW_l0_g:=lpG (fun y=>spanW_l0_t c_wordC x y (fun y=>some (.inl y)) (fun z=>some (.inr z))) q
theorem spanW_l0_s(c_wordC)(h_wordC:Lw E5 82 A_wordC R_wordC c_wordC)(q:Nat)(x:a_spanW):Ll E5 (bodyOf E5 46 0) (spanW_l0_S x) (spanW_l0_T x) (spanW_l0 c_wordC q x):=
 slp (fk h_wordC ca0_sound) hX5 (fun lo y=>(spanW_l0_r c_wordC x y lo).trans (by rw[v_wordC];exact spanW_l0_n _ _ _ _ _)) (fun z=>by rcases z with z|z<;>kernel_rfl) q
def t_spanW{β:Type}(c_wordC:a_wordC→Option g_wordC)(l_spanW_l0:spanW_l0_a→Option spanW_l0_g)(x:a_spanW)(dn:g_spanW→Option β):Option β:=
 (l_spanW_l0 (0)).bind fun z8=>Sum.elim (fun z8a=>dn z8a) (fun z8b=>dn (x.size:Int)) z8
theorem n_spanW{β:Type}(c_wordC)(l_spanW_l0)(x)(dn:g_spanW→Option β):t_spanW c_wordC l_spanW_l0 x dn=(t_spanW c_wordC l_spanW_l0 x some).bind dn:=by
 unfold t_spanW
 repeat' first|exact n0|refine n1 fun _=>?_|refine n2 ?_ ?_|refine n3 (fun _=>?_) fun _=>?_|rfl
theorem r_spanW(c_wordC)(l_spanW_l0)(x):callK E5 (ftb 82 A_wordC R_wordC c_wordC ca0) (lt2 0 (fun _=>true) (bodyOf E5 46 0) (spanW_l0_S x) (spanW_l0_T x) l_spanW_l0 lo0) 46 (A_spanW x).1 (A_spanW x).2 K=t_spanW (vf A_wordC c_wordC) (lf (bodyOf E5 46 0) (spanW_l0_S x) l_spanW_l0) x (fun z=>some (.c (R_spanW z))):=by kernel_rfl
noncomputable def spanW(q:Nat)(x:a_spanW):Option g_spanW:=t_spanW (wordC q) (spanW_l0 (wordC q) q x) x some
theorem sc_spanW(q:Nat):Lw E5 46 A_spanW R_spanW (spanW q):=sof hW5 hX5 (fk (sc_wordC q) ca0_sound) (fun x=>(lk2 (spanW_l0_s (wordC q) (sc_wordC q) q x) lo0_sound)) fun x=>(r_spanW (wordC q) (spanW_l0 (wordC q) q x) x).trans (by rw[v_wordC,spanW_l0_u,n_spanW]<;>rfl)
abbrev a_word:Type:=ByteArray
abbrev g_word:Type:=Int×Int×ByteArray×Int×Int
def A_word:AR a_word:=fun x=>([st x],[])
def d_word(t:TT):a_word:=(vS (ag t 0))
theorem v_word:VI A_word:=vd d_word fun _=>rfl
def R_word:g_word→CRes:=fun z=>.ret (.tup [.agg [i64 z.1,i64 z.2.1,st z.2.2.1,i64 z.2.2.2.1],i64 z.2.2.2.2]) []
def t_word{β:Type}(c_spanW:a_spanW→Option g_spanW)(x:a_word)(dn:g_word→Option β):Option β:=
 (c_spanW x).bind fun z1=>if decide (z1>12)=true then dn (0,0,⟨#[]⟩,0,2)else if(0:Int)≤0∧0≤z1∧z1≤(x.size:Int)then dn (1,0,ByteArray.extract x 0 (Int.toNat z1),0,0)else none
theorem n_word{β:Type}(c_spanW)(x)(dn:g_word→Option β):t_word c_spanW x dn=(t_word c_spanW x some).bind dn:=by
 unfold t_word
 repeat' first|exact n0|refine n1 fun _=>?_|refine n2 ?_ ?_|refine n3 (fun _=>?_) fun _=>?_|rfl
theorem r_word(c_spanW)(x):callK E5 (ftg 46 (fun a _=>fnId (a.getD 1 .junk)==82) A_spanW R_spanW c_spanW ca0) lo0 49 (A_word x).1 (A_word x).2 K=t_word (vf A_spanW c_spanW) x (fun z=>some (.c (R_word z))):=by kernel_rfl
noncomputable def word(q:Nat)(x:a_word):Option g_word:=t_word (spanW q) x some
theorem sc_word(q:Nat):Lw E5 49 A_word R_word (word q):=sof hW5 hX5 (fk (sc_spanW q) ca0_sound) (fun _=>lo0_sound) fun x=>(r_word (spanW q) x).trans (by rw[v_spanW,n_word]<;>rfl)
abbrev a_lnum:Type:=ByteArray
abbrev g_lnum:Type:=Int×Int×ByteArray×Int×Int
def A_lnum:AR a_lnum:=fun x=>([st x],[])
def d_lnum(t:TT):a_lnum:=(vS (ag t 0))
theorem v_lnum:VI A_lnum:=vd d_lnum fun _=>rfl
def R_lnum:g_lnum→CRes:=fun z=>.ret (.tup [.agg [i64 z.1,i64 z.2.1,st z.2.2.1,i64 z.2.2.2.1],i64 z.2.2.2.2]) []
abbrev lnum_l0_a:Type:=ByteArray×Int×Nat
abbrev lnum_l0_g:Type:=(Unit)⊕(ByteArray×Int)
def lnum_l0_S(x:a_lnum)(y:lnum_l0_a):St:={fr:=[V.junk,V.junk,V.ptr 0 0,V.junk,st y.1,i64 y.2.1]++jk 16++[V.ptr 1 0]++jk 15,H:=hp [some (Chunk.blk [i64 0,i64 0,st ⟨#[]⟩,i64 0]),some (Chunk.iter y.1 y.2.2)],nx:=2,rt:=0,me:=51}
def lnum_l0_d(s:St):lnum_l0_a:=((vS (s.fr.getD 4 .junk)),vI (s.fr.getD 5 .junk),(chP (s.H 1)))
theorem lnum_l0_u(x:a_lnum):VL (lnum_l0_S x):=vl lnum_l0_d fun _=>rfl
def lnum_l0_T(x:a_lnum):lnum_l0_g→Ex×St:=(Sum.elim (fun z=>(Ex.ret,{fr:=[V.junk,V.junk,V.ptr 0 0,i64 5]++jk 34,H:=hp [some (Chunk.blk [i64 0,i64 0,st ⟨#[]⟩,i64 0])],nx:=1,rt:=0,me:=51})) (fun z=>(Ex.exit 0,{fr:=[V.junk,V.junk,V.ptr 0 0,V.junk,st z.1,i64 z.2]++jk 32,H:=hp [some (Chunk.blk [i64 0,i64 0,st ⟨#[]⟩,i64 0])],nx:=1,rt:=0,me:=51})))
def lnum_l0_t{β:Type}(c_spanD:a_spanD→Option g_spanD)(x:a_lnum)(y:lnum_l0_a)(nx:lnum_l0_a→Option β)(dn:lnum_l0_g→Option β):Option β:=
 if y.2.2<y.1.size then if decide (w (w (10*y.2.1)+w (IntKind.wrap IntKind.i32 (((Prod.fst (Utf8.decode y.1 y.2.2):Nat):Int)-48)))>2147483647)=true then dn (.inl ())else nx ((y.1,w (w (10*y.2.1)+w (IntKind.wrap IntKind.i32 (((Prod.fst (Utf8.decode y.1 y.2.2):Nat):Int)-48))),y.2.2+Prod.snd (Utf8.decode y.1 y.2.2)))else dn (.inr (y.1,y.2.1))
theorem lnum_l0_n{β:Type}(c_spanD)(x)(y)(nx:lnum_l0_a→Option β)(dn):lnum_l0_t c_spanD x y nx dn=(lnum_l0_t c_spanD x y (fun y=>some (.inl y)) (fun z=>some (.inr z))).bind fun r=>Sum.elim nx dn r:=by
 unfold lnum_l0_t
 repeat' first|exact n0|refine n1 fun _=>?_|refine n2 ?_ ?_|refine n3 (fun _=>?_) fun _=>?_|rfl
theorem lnum_l0_r(c_spanD)(x)(y)(lo:LoopT):loopK E5 (ftg 46 (fun a _=>fnId (a.getD 1 .junk)==50) A_spanD R_spanD c_spanD ca0) lo 0 4194356 (bodyOf E5 51 0) (lnum_l0_S x y) (KCM [(0,52)] 12)=lnum_l0_t (vf A_spanD c_spanD) x y (fun y=>lo 0 4194356 (bodyOf E5 51 0) (lnum_l0_S x y) (KCM [(0,52)] 12)) (fun z=>some (.l (lnum_l0_T x z).1 (lnum_l0_T x z).2)):=by kernel_rfl
noncomputable def lnum_l0(c_spanD:a_spanD→Option g_spanD)(q:Nat)(x:a_lnum):lnum_l0_a→Option lnum_l0_g:=lpG (fun y=>lnum_l0_t c_spanD x y (fun y=>some (.inl y)) (fun z=>some (.inr z))) q
theorem lnum_l0_s(c_spanD)(h_spanD:Lw E5 46 A_spanD R_spanD c_spanD)(q:Nat)(x:a_lnum):Ll E5 (bodyOf E5 51 0) (lnum_l0_S x) (lnum_l0_T x) (lnum_l0 c_spanD q x):=
 slp (fk h_spanD ca0_sound) hX5 (fun lo y=>(lnum_l0_r c_spanD x y lo).trans (by rw[v_spanD];exact lnum_l0_n _ _ _ _ _)) (fun z=>by rcases z with z|z<;>kernel_rfl) q
def t_lnum{β:Type}(c_spanD:a_spanD→Option g_spanD)(l_lnum_l0:lnum_l0_a→Option lnum_l0_g)(x:a_lnum)(dn:g_lnum→Option β):Option β:=
 (c_spanD x).bind fun z1=>if(0:Int)≤0∧0≤z1∧z1≤(x.size:Int)then if decide ((ByteArray.size (ByteArray.extract x 0 (Int.toNat z1)):Int)>1)=true then if(0:Int)≤0∧0< (ByteArray.size (ByteArray.extract x 0 (Int.toNat z1)):Int)then if(((UInt8.toNat (List.getD (Array.toList (ByteArray.data (ByteArray.extract x 0 (Int.toNat z1)))) 0 0):Nat):Int)==48)=true then dn (0,0,⟨#[]⟩,0,11)else(l_lnum_l0 (ByteArray.extract x 0 (Int.toNat z1),0,0)).bind fun z16=>Sum.elim (fun z16a=>dn (0,0,⟨#[]⟩,0,5)) (fun z16b=>dn (2,0,z16b.1,z16b.2,0)) z16 else none else(l_lnum_l0 (ByteArray.extract x 0 (Int.toNat z1),0,0)).bind fun z18=>Sum.elim (fun z18a=>dn (0,0,⟨#[]⟩,0,5)) (fun z18b=>dn (2,0,z18b.1,z18b.2,0)) z18 else none
theorem n_lnum{β:Type}(c_spanD)(l_lnum_l0)(x)(dn:g_lnum→Option β):t_lnum c_spanD l_lnum_l0 x dn=(t_lnum c_spanD l_lnum_l0 x some).bind dn:=by
 unfold t_lnum
 repeat' first|exact n0|refine n1 fun _=>?_|refine n2 ?_ ?_|refine n3 (fun _=>?_) fun _=>?_|rfl
theorem r_lnum(c_spanD)(l_lnum_l0)(x):callK E5 (ftg 46 (fun a _=>fnId (a.getD 1 .junk)==50) A_spanD R_spanD c_spanD ca0) (lt2 0 (fun _=>true) (bodyOf E5 51 0) (lnum_l0_S x) (lnum_l0_T x) l_lnum_l0 lo0) 51 (A_lnum x).1 (A_lnum x).2 K=t_lnum (vf A_spanD c_spanD) (lf (bodyOf E5 51 0) (lnum_l0_S x) l_lnum_l0) x (fun z=>some (.c (R_lnum z))):=by kernel_rfl
noncomputable def lnum(q:Nat)(x:a_lnum):Option g_lnum:=t_lnum (spanD q) (lnum_l0 (spanD q) q x) x some
theorem sc_lnum(q:Nat):Lw E5 51 A_lnum R_lnum (lnum q):=sof hW5 hX5 (fk (sc_spanD q) ca0_sound) (fun x=>(lk2 (lnum_l0_s (spanD q) (sc_spanD q) q x) lo0_sound)) fun x=>(r_lnum (spanD q) (lnum_l0 (spanD q) q x) x).trans (by rw[v_spanD,lnum_l0_u,n_lnum]<;>rfl)
abbrev a_lsym:Type:=ByteArray
abbrev g_lsym:Type:=Int×Int×ByteArray×Int×Int
def A_lsym:AR a_lsym:=fun x=>([st x],[])
def d_lsym(t:TT):a_lsym:=(vS (ag t 0))
theorem v_lsym:VI A_lsym:=vd d_lsym fun _=>rfl
def R_lsym:g_lsym→CRes:=fun z=>.ret (.tup [.agg [i64 z.1,i64 z.2.1,st z.2.2.1,i64 z.2.2.2.1],i64 z.2.2.2.2]) []
def t_lsym{β:Type}(c_IndexByte:a_IndexByte→Option g_IndexByte)(x:a_lsym)(dn:g_lsym→Option β):Option β:=
 if(0:Int)≤0∧0< (x.size:Int)then(c_IndexByte ((⟨#[123,125,40,41,61,59,44,58,60,62,43,45,42,47,33,46]⟩,((UInt8.toNat (List.getD (Array.toList x.data) 0 0):Nat):Int)))).bind fun z2=>if decide (z2≥0)=true then if decide ((x.size:Int)>1)=true then if(0:Int)≤0∧(0:Int)≤2∧2≤(x.size:Int)then if(ByteArray.toList (ByteArray.extract x 0 2)==ByteArray.toList ⟨#[124,124]⟩)=true then if(0:Int)≤0∧(0:Int)≤2∧2≤(x.size:Int)then dn (3,0,ByteArray.extract x 0 2,0,0)else none else if(ByteArray.toList (ByteArray.extract x 0 2)==ByteArray.toList ⟨#[38,38]⟩)=true then if(0:Int)≤0∧(0:Int)≤2∧2≤(x.size:Int)then dn (3,0,ByteArray.extract x 0 2,0,0)else none else if(ByteArray.toList (ByteArray.extract x 0 2)==ByteArray.toList ⟨#[60,61]⟩)=true then if(0:Int)≤0∧(0:Int)≤2∧2≤(x.size:Int)then dn (3,0,ByteArray.extract x 0 2,0,0)else none else if(ByteArray.toList (ByteArray.extract x 0 2)==ByteArray.toList ⟨#[62,61]⟩)=true then if(0:Int)≤0∧(0:Int)≤2∧2≤(x.size:Int)then dn (3,0,ByteArray.extract x 0 2,0,0)else none else if(ByteArray.toList (ByteArray.extract x 0 2)==ByteArray.toList ⟨#[61,61]⟩)=true then if(0:Int)≤0∧(0:Int)≤2∧2≤(x.size:Int)then dn (3,0,ByteArray.extract x 0 2,0,0)else none else if(ByteArray.toList (ByteArray.extract x 0 2)==ByteArray.toList ⟨#[33,61]⟩)=true then if(0:Int)≤0∧(0:Int)≤2∧2≤(x.size:Int)then dn (3,0,ByteArray.extract x 0 2,0,0)else none else if(0:Int)≤0∧(0:Int)≤1∧1≤(x.size:Int)then dn (3,0,ByteArray.extract x 0 1,0,0)else none else none else if(0:Int)≤0∧(0:Int)≤1∧1≤(x.size:Int)then dn (3,0,ByteArray.extract x 0 1,0,0)else none else if decide ((x.size:Int)>1)=true then if(0:Int)≤0∧(0:Int)≤2∧2≤(x.size:Int)then if(ByteArray.toList (ByteArray.extract x 0 2)==ByteArray.toList ⟨#[124,124]⟩)=true then if(0:Int)≤0∧(0:Int)≤2∧2≤(x.size:Int)then dn (3,0,ByteArray.extract x 0 2,0,0)else none else if(ByteArray.toList (ByteArray.extract x 0 2)==ByteArray.toList ⟨#[38,38]⟩)=true then if(0:Int)≤0∧(0:Int)≤2∧2≤(x.size:Int)then dn (3,0,ByteArray.extract x 0 2,0,0)else none else if(ByteArray.toList (ByteArray.extract x 0 2)==ByteArray.toList ⟨#[60,61]⟩)=true then if(0:Int)≤0∧(0:Int)≤2∧2≤(x.size:Int)then dn (3,0,ByteArray.extract x 0 2,0,0)else none else if(ByteArray.toList (ByteArray.extract x 0 2)==ByteArray.toList ⟨#[62,61]⟩)=true then if(0:Int)≤0∧(0:Int)≤2∧2≤(x.size:Int)then dn (3,0,ByteArray.extract x 0 2,0,0)else none else if(ByteArray.toList (ByteArray.extract x 0 2)==ByteArray.toList ⟨#[61,61]⟩)=true then if(0:Int)≤0∧(0:Int)≤2∧2≤(x.size:Int)then dn (3,0,ByteArray.extract x 0 2,0,0)else none else if(ByteArray.toList (ByteArray.extract x 0 2)==ByteArray.toList ⟨#[33,61]⟩)=true then if(0:Int)≤0∧(0:Int)≤2∧2≤(x.size:Int)then dn (3,0,ByteArray.extract x 0 2,0,0)else none else dn (0,0,⟨#[]⟩,0,11)else none else dn (0,0,⟨#[]⟩,0,11)else none
theorem n_lsym{β:Type}(c_IndexByte)(x)(dn:g_lsym→Option β):t_lsym c_IndexByte x dn=(t_lsym c_IndexByte x some).bind dn:=by
 unfold t_lsym
 repeat' first|exact n0|refine n1 fun _=>?_|refine n2 ?_ ?_|refine n3 (fun _=>?_) fun _=>?_|rfl
theorem r_lsym(c_IndexByte)(x):callK E5 (ftb 83 A_IndexByte R_IndexByte c_IndexByte ca0) lo0 52 (A_lsym x).1 (A_lsym x).2 K=t_lsym (vf A_IndexByte c_IndexByte) x (fun z=>some (.c (R_lsym z))):=by kernel_rfl
noncomputable def lsym(q:Nat)(x:a_lsym):Option g_lsym:=t_lsym (IndexByte q) x some
theorem sc_lsym(q:Nat):Lw E5 52 A_lsym R_lsym (lsym q):=sof hW5 hX5 (fk (sc_IndexByte q) ca0_sound) (fun _=>lo0_sound) fun x=>(r_lsym (IndexByte q) x).trans (by rw[v_IndexByte,n_lsym]<;>rfl)
abbrev a_Tokens:Type:=ByteArray
abbrev g_Tokens:Type:=(Int×Int)⊕(Int×Int×Nat×FI×FI×FS×FI)
def A_Tokens:AR a_Tokens:=fun x=>([st x],[])
def R_Tokens:g_Tokens→CRes:=Sum.elim (fun z:Int×Int=>.ret (.tup [nilS,i64 z.1,i64 z.2]) []) (fun z:Int×Int×Nat×FI×FI×FS×FI=>.ret (.tup [.sl 0 4 0 z.2.2.1,i64 z.1,i64 z.2.1]) [some (.row 52 4 z.2.2.1 (fun j=>[i64 (z.2.2.2.1 j),i64 (z.2.2.2.2.1 j),st (z.2.2.2.2.2.1 j),i64 (z.2.2.2.2.2.2 j)]))])
abbrev Tokens_l0_a:Type:=(Nat×Int)⊕(Int×FI×FS×FI×FI×Nat×Nat)
abbrev Tokens_l0_g:Type:=(Int×Int)⊕(Unit)⊕(Nat×FI×FI×FS×FI)
def Tokens_l0_S0(x:a_Tokens)(y:Nat×Int):St:={fr:=[st x]++jk 4++[nilS,i64 y.2]++jk 9++[V.ptr 0 0]++jk 74,H:=hp [some (Chunk.iter x y.1)],nx:=1,rt:=0,me:=20}
def Tokens_l0_d0(s:St):Nat×Int:=((chP (s.H 0)),vI (s.fr.getD 6 .junk))
def Tokens_l0_S1(x:a_Tokens)(y:Int×FI×FS×FI×FI×Nat×Nat):St:={fr:=[st x]++jk 4++[V.sl 0 4 0 y.2.2.2.2.2.2,i64 y.1]++jk 9++[V.ptr 1 0]++jk 74,H:=hp [some (Chunk.row 52 4 y.2.2.2.2.2.2 fun j=>[i64 (y.2.1 j),i64 (y.2.2.2.2.1 j),st (y.2.2.1 j),i64 (y.2.2.2.1 j)]),some (Chunk.iter x y.2.2.2.2.2.1)],nx:=2,rt:=0,me:=20}
def Tokens_l0_d1(s:St):Int×FI×FS×FI×FI×Nat×Nat:=((vI (s.fr.getD 6 .junk)),dRI (s.H 0) 0,dRS (s.H 0) 2,dRI (s.H 0) 3,dRI (s.H 0) 1,(chP (s.H 1)),vSlN (s.fr.getD 5 .junk))
def Tokens_l0_S(x:a_Tokens):Tokens_l0_a→St:=(Sum.elim (Tokens_l0_S0 x) (Tokens_l0_S1 x))
def Tokens_l0_d(s:St):Tokens_l0_a:=(match s.nx==1 with|true=>(.inl (Tokens_l0_d0 s)) |false=>(.inr (Tokens_l0_d1 s)))
theorem Tokens_l0_u(x:a_Tokens):VL (Tokens_l0_S x):=vl Tokens_l0_d (fun y=>by rcases y with y|y<;>rfl)
def Tokens_l0_T(x:a_Tokens):Tokens_l0_g→Ex×St:=(Sum.elim (fun z=>(Ex.ret,{fr:=[V.junk,V.junk,nilS,i64 z.1,i64 z.2]++jk 86,H:=hp [],nx:=0,rt:=0,me:=20})) (Sum.elim (fun z=>(Ex.exit 0,{fr:=[st x]++jk 4++[nilS]++jk 85,H:=hp [],nx:=0,rt:=0,me:=20})) (fun z=>(Ex.exit 0,{fr:=[st x]++jk 4++[V.sl 0 4 0 z.1]++jk 85,H:=hp [some (Chunk.row 52 4 z.1 fun j=>[i64 (z.2.1 j),i64 (z.2.2.1 j),st (z.2.2.2.1 j),i64 (z.2.2.2.2 j)])],nx:=1,rt:=0,me:=20}))))
def Tokens_l0_t0{β:Type}(c_letter:a_letter→Option g_letter)(c_digit:a_digit→Option g_digit)(c_spanN:a_spanN→Option g_spanN)(c_word:a_word→Option g_word)(c_lnum:a_lnum→Option g_lnum)(c_lsym:a_lsym→Option g_lsym)(x:a_Tokens)(y:Nat×Int)(nx:Tokens_l0_a→Option β)(dn:Tokens_l0_g→Option β):Option β:=
 if y.1<x.size then if decide (((y.1:Nat):Int)<y.2)=true then nx (.inl (y.1+Prod.snd (Utf8.decode x y.1),y.2))else if 0≤((y.1:Nat):Int)∧((y.1:Nat):Int)≤(x.size:Int)∧(x.size:Int)≤(x.size:Int)then if(((Prod.fst (Utf8.decode x y.1):Nat):Int)==32)=true then nx (.inl (y.1+Prod.snd (Utf8.decode x y.1),y.2))else if(((Prod.fst (Utf8.decode x y.1):Nat):Int)==9)=true then nx (.inl (y.1+Prod.snd (Utf8.decode x y.1),y.2))else if(((Prod.fst (Utf8.decode x y.1):Nat):Int)==10)=true then nx (.inl (y.1+Prod.snd (Utf8.decode x y.1),y.2))else if(((Prod.fst (Utf8.decode x y.1):Nat):Int)==13)=true then nx (.inl (y.1+Prod.snd (Utf8.decode x y.1),y.2))else if(((Prod.fst (Utf8.decode x y.1):Nat):Int)==35)=true then(c_spanN (ByteArray.extract x (Int.toNat ((y.1:Nat):Int)) (Int.toNat (x.size:Int)))).bind fun z476=>nx (.inl (y.1+Prod.snd (Utf8.decode x y.1),w (((y.1:Nat):Int)+z476)))else(c_letter ((Prod.fst (Utf8.decode x y.1):Nat):Int)).bind fun z478=>if z478=true then(c_word (ByteArray.extract x (Int.toNat ((y.1:Nat):Int)) (Int.toNat (x.size:Int)))).bind fun z480=>if(z480.2.2.2.2 !=0)=true then dn (.inl (((y.1:Nat):Int),z480.2.2.2.2))else nx (.inr (w (((y.1:Nat):Int)+(z480.2.2.1.size:Int)),fun j=>z480.1,fun j=>z480.2.2.1,fun j=>z480.2.2.2.1,fun j=>((y.1:Nat):Int),y.1+Prod.snd (Utf8.decode x y.1),1))else(c_digit ((Prod.fst (Utf8.decode x y.1):Nat):Int)).bind fun z482=>if z482=true then(c_lnum (ByteArray.extract x (Int.toNat ((y.1:Nat):Int)) (Int.toNat (x.size:Int)))).bind fun z484=>if(z484.2.2.2.2 !=0)=true then dn (.inl (((y.1:Nat):Int),z484.2.2.2.2))else nx (.inr (w (((y.1:Nat):Int)+(z484.2.2.1.size:Int)),fun j=>z484.1,fun j=>z484.2.2.1,fun j=>z484.2.2.2.1,fun j=>((y.1:Nat):Int),y.1+Prod.snd (Utf8.decode x y.1),1))else(c_lsym (ByteArray.extract x (Int.toNat ((y.1:Nat):Int)) (Int.toNat (x.size:Int)))).bind fun z486=>if(z486.2.2.2.2 !=0)=true then dn (.inl (((y.1:Nat):Int),z486.2.2.2.2))else nx (.inr (w (((y.1:Nat):Int)+(z486.2.2.1.size:Int)),fun j=>z486.1,fun j=>z486.2.2.1,fun j=>z486.2.2.2.1,fun j=>((y.1:Nat):Int),y.1+Prod.snd (Utf8.decode x y.1),1))else none else dn (.inr (.inl ()))
theorem Tokens_l0_n0{β:Type}(c_letter c_digit)(c_spanN c_word)(c_lnum c_lsym)(x)(y)(nx:Tokens_l0_a→Option β)(dn):Tokens_l0_t0 c_letter c_digit c_spanN c_word c_lnum c_lsym x y nx dn=(Tokens_l0_t0 c_letter c_digit c_spanN c_word c_lnum c_lsym x y (fun y=>some (.inl y)) (fun z=>some (.inr z))).bind fun r=>Sum.elim nx dn r:=by
 unfold Tokens_l0_t0
 repeat' first|exact n0|refine n1 fun _=>?_|refine n2 ?_ ?_|refine n3 (fun _=>?_) fun _=>?_|rfl
theorem Tokens_l0_r0(c_letter c_digit)(c_spanN c_word)(c_lnum c_lsym)(x)(y)(lo:LoopT):loopK E5 (ftb 48 A_letter R_letter c_letter (ftb 50 A_digit R_digit c_digit (ftg 46 (fun a _=>fnId (a.getD 1 .junk)==47) A_spanN R_spanN c_spanN (ftb 49 A_word R_word c_word (ftb 51 A_lnum R_lnum c_lnum (ftb 52 A_lsym R_lsym c_lsym ca0)))))) lo 0 65633 (bodyOf E5 20 0) (Tokens_l0_S x (.inl y)) (KCM [(0,33)] 28)=Tokens_l0_t0 (vf A_letter c_letter) (vf A_digit c_digit) (vf A_spanN c_spanN) (vf A_word c_word) (vf A_lnum c_lnum) (vf A_lsym c_lsym) x y (fun y=>lo 0 65633 (bodyOf E5 20 0) (Tokens_l0_S x y) (KCM [(0,33)] 28)) (fun z=>some (.l (Tokens_l0_T x z).1 (Tokens_l0_T x z).2)):=by kernel_rfl
def Tokens_l0_t1{β:Type}(c_letter:a_letter→Option g_letter)(c_digit:a_digit→Option g_digit)(c_spanN:a_spanN→Option g_spanN)(c_word:a_word→Option g_word)(c_lnum:a_lnum→Option g_lnum)(c_lsym:a_lsym→Option g_lsym)(x:a_Tokens)(y:Int×FI×FS×FI×FI×Nat×Nat)(nx:Tokens_l0_a→Option β)(dn:Tokens_l0_g→Option β):Option β:=
 if y.2.2.2.2.2.1<x.size then if decide (((y.2.2.2.2.2.1:Nat):Int)<y.1)=true then nx (.inr (y.1,y.2.1,y.2.2.1,y.2.2.2.1,y.2.2.2.2.1,y.2.2.2.2.2.1+Prod.snd (Utf8.decode x y.2.2.2.2.2.1),y.2.2.2.2.2.2))else if 0≤((y.2.2.2.2.2.1:Nat):Int)∧((y.2.2.2.2.2.1:Nat):Int)≤(x.size:Int)∧(x.size:Int)≤(x.size:Int)then if(((Prod.fst (Utf8.decode x y.2.2.2.2.2.1):Nat):Int)==32)=true then nx (.inr (y.1,y.2.1,y.2.2.1,y.2.2.2.1,y.2.2.2.2.1,y.2.2.2.2.2.1+Prod.snd (Utf8.decode x y.2.2.2.2.2.1),y.2.2.2.2.2.2))else if(((Prod.fst (Utf8.decode x y.2.2.2.2.2.1):Nat):Int)==9)=true then nx (.inr (y.1,y.2.1,y.2.2.1,y.2.2.2.1,y.2.2.2.2.1,y.2.2.2.2.2.1+Prod.snd (Utf8.decode x y.2.2.2.2.2.1),y.2.2.2.2.2.2))else if(((Prod.fst (Utf8.decode x y.2.2.2.2.2.1):Nat):Int)==10)=true then nx (.inr (y.1,y.2.1,y.2.2.1,y.2.2.2.1,y.2.2.2.2.1,y.2.2.2.2.2.1+Prod.snd (Utf8.decode x y.2.2.2.2.2.1),y.2.2.2.2.2.2))else if(((Prod.fst (Utf8.decode x y.2.2.2.2.2.1):Nat):Int)==13)=true then nx (.inr (y.1,y.2.1,y.2.2.1,y.2.2.2.1,y.2.2.2.2.1,y.2.2.2.2.2.1+Prod.snd (Utf8.decode x y.2.2.2.2.2.1),y.2.2.2.2.2.2))else if(((Prod.fst (Utf8.decode x y.2.2.2.2.2.1):Nat):Int)==35)=true then(c_spanN (ByteArray.extract x (Int.toNat ((y.2.2.2.2.2.1:Nat):Int)) (Int.toNat (x.size:Int)))).bind fun z489=>nx (.inr (w (((y.2.2.2.2.2.1:Nat):Int)+z489),y.2.1,y.2.2.1,y.2.2.2.1,y.2.2.2.2.1,y.2.2.2.2.2.1+Prod.snd (Utf8.decode x y.2.2.2.2.2.1),y.2.2.2.2.2.2))else(c_letter ((Prod.fst (Utf8.decode x y.2.2.2.2.2.1):Nat):Int)).bind fun z491=>if z491=true then(c_word (ByteArray.extract x (Int.toNat ((y.2.2.2.2.2.1:Nat):Int)) (Int.toNat (x.size:Int)))).bind fun z493=>if(z493.2.2.2.2 !=0)=true then dn (.inl (((y.2.2.2.2.2.1:Nat):Int),z493.2.2.2.2))else if(y.2.2.2.2.2.2+1)*40≤roomBound∧y.2.2.2.2.2.2+1≤maxLen∧y.2.2.2.2.2.2≤y.2.2.2.2.2.2 then nx (.inr (w (((y.2.2.2.2.2.1:Nat):Int)+(z493.2.2.1.size:Int)),fun j=>if j<y.2.2.2.2.2.2 then y.2.1 j else z493.1,fun j=>if j<y.2.2.2.2.2.2 then y.2.2.1 j else z493.2.2.1,fun j=>if j<y.2.2.2.2.2.2 then y.2.2.2.1 j else z493.2.2.2.1,fun j=>if j<y.2.2.2.2.2.2 then y.2.2.2.2.1 j else((y.2.2.2.2.2.1:Nat):Int),y.2.2.2.2.2.1+Prod.snd (Utf8.decode x y.2.2.2.2.2.1),y.2.2.2.2.2.2+1))else none else(c_digit ((Prod.fst (Utf8.decode x y.2.2.2.2.2.1):Nat):Int)).bind fun z495=>if z495=true then(c_lnum (ByteArray.extract x (Int.toNat ((y.2.2.2.2.2.1:Nat):Int)) (Int.toNat (x.size:Int)))).bind fun z497=>if(z497.2.2.2.2 !=0)=true then dn (.inl (((y.2.2.2.2.2.1:Nat):Int),z497.2.2.2.2))else if(y.2.2.2.2.2.2+1)*40≤roomBound∧y.2.2.2.2.2.2+1≤maxLen∧y.2.2.2.2.2.2≤y.2.2.2.2.2.2 then nx (.inr (w (((y.2.2.2.2.2.1:Nat):Int)+(z497.2.2.1.size:Int)),fun j=>if j<y.2.2.2.2.2.2 then y.2.1 j else z497.1,fun j=>if j<y.2.2.2.2.2.2 then y.2.2.1 j else z497.2.2.1,fun j=>if j<y.2.2.2.2.2.2 then y.2.2.2.1 j else z497.2.2.2.1,fun j=>if j<y.2.2.2.2.2.2 then y.2.2.2.2.1 j else((y.2.2.2.2.2.1:Nat):Int),y.2.2.2.2.2.1+Prod.snd (Utf8.decode x y.2.2.2.2.2.1),y.2.2.2.2.2.2+1))else none else(c_lsym (ByteArray.extract x (Int.toNat ((y.2.2.2.2.2.1:Nat):Int)) (Int.toNat (x.size:Int)))).bind fun z499=>if(z499.2.2.2.2 !=0)=true then dn (.inl (((y.2.2.2.2.2.1:Nat):Int),z499.2.2.2.2))else if(y.2.2.2.2.2.2+1)*40≤roomBound∧y.2.2.2.2.2.2+1≤maxLen∧y.2.2.2.2.2.2≤y.2.2.2.2.2.2 then nx (.inr (w (((y.2.2.2.2.2.1:Nat):Int)+(z499.2.2.1.size:Int)),fun j=>if j<y.2.2.2.2.2.2 then y.2.1 j else z499.1,fun j=>if j<y.2.2.2.2.2.2 then y.2.2.1 j else z499.2.2.1,fun j=>if j<y.2.2.2.2.2.2 then y.2.2.2.1 j else z499.2.2.2.1,fun j=>if j<y.2.2.2.2.2.2 then y.2.2.2.2.1 j else((y.2.2.2.2.2.1:Nat):Int),y.2.2.2.2.2.1+Prod.snd (Utf8.decode x y.2.2.2.2.2.1),y.2.2.2.2.2.2+1))else none else none else dn (.inr (.inr (y.2.2.2.2.2.2,y.2.1,y.2.2.2.2.1,y.2.2.1,y.2.2.2.1)))
theorem Tokens_l0_n1{β:Type}(c_letter c_digit)(c_spanN c_word)(c_lnum c_lsym)(x)(y)(nx:Tokens_l0_a→Option β)(dn):Tokens_l0_t1 c_letter c_digit c_spanN c_word c_lnum c_lsym x y nx dn=(Tokens_l0_t1 c_letter c_digit c_spanN c_word c_lnum c_lsym x y (fun y=>some (.inl y)) (fun z=>some (.inr z))).bind fun r=>Sum.elim nx dn r:=by
 unfold Tokens_l0_t1
 repeat' first|exact n0|refine n1 fun _=>?_|refine n2 ?_ ?_|refine n3 (fun _=>?_) fun _=>?_|rfl
theorem Tokens_l0_r1(c_letter c_digit)(c_spanN c_word)(c_lnum c_lsym)(x)(y)(lo:LoopT):loopK E5 (ftb 48 A_letter R_letter c_letter (ftb 50 A_digit R_digit c_digit (ftg 46 (fun a _=>fnId (a.getD 1 .junk)==47) A_spanN R_spanN c_spanN (ftb 49 A_word R_word c_word (ftb 51 A_lnum R_lnum c_lnum (ftb 52 A_lsym R_lsym c_lsym ca0)))))) lo 0 65633 (bodyOf E5 20 0) (Tokens_l0_S x (.inr y)) (KCM [(0,33)] 28)=Tokens_l0_t1 (vf A_letter c_letter) (vf A_digit c_digit) (vf A_spanN c_spanN) (vf A_word c_word) (vf A_lnum c_lnum) (vf A_lsym c_lsym) x y (fun y=>lo 0 65633 (bodyOf E5 20 0) (Tokens_l0_S x y) (KCM [(0,33)] 28)) (fun z=>some (.l (Tokens_l0_T x z).1 (Tokens_l0_T x z).2)):=by kernel_rfl
noncomputable def Tokens_l0(c_letter:a_letter→Option g_letter)(c_digit:a_digit→Option g_digit)(c_spanN:a_spanN→Option g_spanN)(c_word:a_word→Option g_word)(c_lnum:a_lnum→Option g_lnum)(c_lsym:a_lsym→Option g_lsym)(q:Nat)(x:a_Tokens):Tokens_l0_a→Option Tokens_l0_g:=lpG (Sum.elim (fun y=>Tokens_l0_t0 c_letter c_digit c_spanN c_word c_lnum c_lsym x y (fun y=>some (.inl y)) (fun z=>some (.inr z))) (fun y=>Tokens_l0_t1 c_letter c_digit c_spanN c_word c_lnum c_lsym x y (fun y=>some (.inl y)) (fun z=>some (.inr z)))) q
theorem Tokens_l0_s(c_letter)(h_letter:Lw E5 48 A_letter R_letter c_letter)(c_digit)(h_digit:Lw E5 50 A_digit R_digit c_digit)(c_spanN)(h_spanN:Lw E5 46 A_spanN R_spanN c_spanN)(c_word)(h_word:Lw E5 49 A_word R_word c_word)(c_lnum)(h_lnum:Lw E5 51 A_lnum R_lnum c_lnum)(c_lsym)(h_lsym:Lw E5 52 A_lsym R_lsym c_lsym)(q:Nat)(x:a_Tokens):Ll E5 (bodyOf E5 20 0) (Tokens_l0_S x) (Tokens_l0_T x) (Tokens_l0 c_letter c_digit c_spanN c_word c_lnum c_lsym q x):=
 slp (fk h_letter (fk h_digit (fk h_spanN (fk h_word (fk h_lnum (fk h_lsym ca0_sound)))))) hX5 (fun lo y=>by
  rcases y with y|y
  ·exact(Tokens_l0_r0 c_letter c_digit c_spanN c_word c_lnum c_lsym x y lo).trans (by rw[v_letter,v_digit,v_spanN,v_word,v_lnum,v_lsym];exact Tokens_l0_n0 _ _ _ _ _ _ _ _ _ _)
  ·exact(Tokens_l0_r1 c_letter c_digit c_spanN c_word c_lnum c_lsym x y lo).trans (by rw[v_letter,v_digit,v_spanN,v_word,v_lnum,v_lsym];exact Tokens_l0_n1 _ _ _ _ _ _ _ _ _ _)) (fun z=>by rcases z with z|z|z<;>kernel_rfl) q
def t_Tokens{β:Type}(c_letter:a_letter→Option g_letter)(c_digit:a_digit→Option g_digit)(c_spanN:a_spanN→Option g_spanN)(c_word:a_word→Option g_word)(c_lnum:a_lnum→Option g_lnum)(c_lsym:a_lsym→Option g_lsym)(l_Tokens_l0:Tokens_l0_a→Option Tokens_l0_g)(x:a_Tokens)(dn:g_Tokens→Option β):Option β:=
 if decide ((x.size:Int)>4000)=true then dn (.inl (4000,2))else(l_Tokens_l0 (.inl (0,0))).bind fun z461=>Sum.elim (fun z461a=>dn (.inl z461a)) (fun z461b=>Sum.elim (fun z461ba=>dn (.inr (0,0,1,fun j=>0,fun j=>(x.size:Int),fun j=>⟨#[]⟩,fun j=>0))) (fun z461bb=>if(z461bb.1+1)*40≤roomBound∧z461bb.1+1≤maxLen∧z461bb.1≤z461bb.1 then dn (.inr (0,0,z461bb.1+1,fun j=>if j<z461bb.1 then z461bb.2.1 j else 0,fun j=>if j<z461bb.1 then z461bb.2.2.1 j else(x.size:Int),fun j=>if j<z461bb.1 then z461bb.2.2.2.1 j else⟨#[]⟩,fun j=>if j<z461bb.1 then z461bb.2.2.2.2 j else 0))else none) z461b) z461
theorem n_Tokens{β:Type}(c_letter c_digit)(c_spanN c_word)(c_lnum c_lsym)(l_Tokens_l0)(x)(dn:g_Tokens→Option β):t_Tokens c_letter c_digit c_spanN c_word c_lnum c_lsym l_Tokens_l0 x dn=(t_Tokens c_letter c_digit c_spanN c_word c_lnum c_lsym l_Tokens_l0 x some).bind dn:=by
 unfold t_Tokens
 repeat' first|exact n0|refine n1 fun _=>?_|refine n2 ?_ ?_|refine n3 (fun _=>?_) fun _=>?_|rfl
theorem r_Tokens(c_letter c_digit)(c_spanN c_word)(c_lnum c_lsym)(l_Tokens_l0)(x):callK E5 (ftb 48 A_letter R_letter c_letter (ftb 50 A_digit R_digit c_digit (ftg 46 (fun a _=>fnId (a.getD 1 .junk)==47) A_spanN R_spanN c_spanN (ftb 49 A_word R_word c_word (ftb 51 A_lnum R_lnum c_lnum (ftb 52 A_lsym R_lsym c_lsym ca0)))))) (lt3 0 (fun _=>true) (bodyOf E5 20 0) (Tokens_l0_S x) (Tokens_l0_T x) l_Tokens_l0 lo0) 20 (A_Tokens x).1 (A_Tokens x).2 K=t_Tokens (vf A_letter c_letter) (vf A_digit c_digit) (vf A_spanN c_spanN) (vf A_word c_word) (vf A_lnum c_lnum) (vf A_lsym c_lsym) (lf (bodyOf E5 20 0) (Tokens_l0_S x) l_Tokens_l0) x (fun z=>some (.c (R_Tokens z))):=by kernel_rfl
noncomputable def Tokens(q:Nat)(x:a_Tokens):Option g_Tokens:=t_Tokens (letter q) (digit q) (spanN q) (word q) (lnum q) (lsym q) (Tokens_l0 (letter q) (digit q) (spanN q) (word q) (lnum q) (lsym q) q x) x some
theorem sc_Tokens(q:Nat):Lw E5 20 A_Tokens R_Tokens (Tokens q):=sof hW5 hX5 (fk (sc_letter q) (fk (sc_digit q) (fk (sc_spanN q) (fk (sc_word q) (fk (sc_lnum q) (fk (sc_lsym q) ca0_sound)))))) (fun x=>(lk3 (Tokens_l0_s (letter q) (sc_letter q) (digit q) (sc_digit q) (spanN q) (sc_spanN q) (word q) (sc_word q) (lnum q) (sc_lnum q) (lsym q) (sc_lsym q) q x) lo0_sound)) fun x=>(r_Tokens (letter q) (digit q) (spanN q) (word q) (lnum q) (lsym q) (Tokens_l0 (letter q) (digit q) (spanN q) (word q) (lnum q) (lsym q) q x) x).trans (by rw[v_letter,v_digit,v_spanN,v_word,v_lnum,v_lsym,Tokens_l0_u,n_Tokens]<;>rfl)
end Go.Proofs.YtjfkkokeegpeiaaGreatDoor
/- The reference's parser, lifted. -/
namespace Go.Proofs.YtjfkkokeegpeiaaGreatDoor
open Go Go.Am Go.Proofs
set_option maxRecDepth 100000
noncomputable def E7:Env:={E5 with allR:=true}
abbrev a_RLook:Type:=ByteArray
abbrev g_RLook:Type:=Int×Int×Int×Int×Int×Int×Bool
def t_RLook{β:Type}(x:a_RLook)(dn:g_RLook→Option β):Option β:=
 if(x.toList==ByteArray.toList ⟨#[74]⟩)=true then dn (1,0,0,0,0,1,true)else if(x.toList==ByteArray.toList ⟨#[107,74]⟩)=true then dn (1,0,0,0,0,1000,true)else if(x.toList==ByteArray.toList ⟨#[87,104]⟩)=true then dn (1,0,0,0,0,3600,true)else if(x.toList==ByteArray.toList ⟨#[66]⟩)=true then dn (0,1,0,0,0,1,true)else if(x.toList==ByteArray.toList ⟨#[107,66]⟩)=true then dn (0,1,0,0,0,1000,true)else if(x.toList==ByteArray.toList ⟨#[115]⟩)=true then dn (0,0,1,0,0,1,true)else if(x.toList==ByteArray.toList ⟨#[109,105,110]⟩)=true then dn (0,0,1,0,0,60,true)else if(x.toList==ByteArray.toList ⟨#[104]⟩)=true then dn (0,0,1,0,0,3600,true)else if(x.toList==ByteArray.toList ⟨#[100,101,103]⟩)=true then dn (0,0,0,1,0,1,true)else if(x.toList==ByteArray.toList ⟨#[75]⟩)=true then dn (0,0,0,0,1,1,true)else if(x.toList==ByteArray.toList ⟨#[87]⟩)=true then dn (1,0,(-1),0,0,1,true)else if(x.toList==ByteArray.toList ⟨#[107,87]⟩)=true then dn (1,0,(-1),0,0,1000,true)else if(x.toList==ByteArray.toList ⟨#[66,112,115]⟩)=true then dn (0,1,(-1),0,0,1,true)else dn (0,0,0,0,0,0,false)
noncomputable def RLook(q:Nat)(x:a_RLook):Option g_RLook:=t_RLook x some
abbrev a_known:Type:=Int×Int×ByteArray×Int
abbrev g_known:Type:=Bool
def t_known{β:Type}(c_RLook:a_RLook→Option g_RLook)(x:a_known)(dn:g_known→Option β):Option β:=
 (c_RLook x.2.2.1).bind fun z1=>if(x.1==1)=true then dn z1.2.2.2.2.2.2 else dn false
noncomputable def known(q:Nat)(x:a_known):Option g_known:=t_known (RLook q) x some
abbrev a_rfail:Type:=Int×SR
abbrev g_rfail:Type:=SR
def t_rfail{β:Type}(x:a_rfail)(dn:g_rfail→Option β):Option β:=
 if(x.2.2.2.1==0)=true then if 0≤x.2.1∧x.2.1< ((x.2.2.2.2.2.1:Nat):Int)then dn (x.2.1,x.2.2.1,x.1,x.2.2.2.2.2.2.2.1 (Int.toNat x.2.1),x.2.2.2.2.2)else none else dn x.2
noncomputable def rfail(q:Nat)(x:a_rfail):Option g_rfail:=t_rfail x some
abbrev a_ris:Type:=ByteArray×SR
abbrev g_ris:Type:=Bool×SR
def t_ris{β:Type}(x:a_ris)(dn:g_ris→Option β):Option β:=
 if(x.2.2.2.1==0)=true then if 0≤x.2.1∧x.2.1< ((x.2.2.2.2.2.1:Nat):Int)then dn (ByteArray.toList (x.2.2.2.2.2.2.2.2.1 (Int.toNat x.2.1))==x.1.toList,x.2)else none else dn (false,x.2)
noncomputable def ris(q:Nat)(x:a_ris):Option g_ris:=t_ris x some
abbrev a_rtake:Type:=ByteArray×SR
abbrev g_rtake:Type:=Bool×SR
def t_rtake{β:Type}(c_ris:a_ris→Option g_ris)(x:a_rtake)(dn:g_rtake→Option β):Option β:=
 (c_ris x).bind fun z12=>if(!z12.1)=true then dn (false,z12.2)else dn (true,w (z12.2.1+1),z12.2.2)
noncomputable def rtake(q:Nat)(x:a_rtake):Option g_rtake:=t_rtake (ris q) x some
abbrev a_operators:Type:=Int
abbrev g_operators:Type:=(ByteArray)⊕(ByteArray×ByteArray)⊕(ByteArray×ByteArray×ByteArray×ByteArray×ByteArray×ByteArray)
def t_operators{β:Type}(x:a_operators)(dn:g_operators→Option β):Option β:=
 if(x==1)=true then dn (.inl (⟨#[124,124]⟩))else if(x==2)=true then dn (.inl (⟨#[38,38]⟩))else if(x==4)=true then dn (.inr (.inr (⟨#[60]⟩,⟨#[60,61]⟩,⟨#[62]⟩,⟨#[62,61]⟩,⟨#[61,61]⟩,⟨#[33,61]⟩)))else if(x==5)=true then dn (.inr (.inl (⟨#[43]⟩,⟨#[45]⟩)))else dn (.inr (.inl (⟨#[42]⟩,⟨#[47]⟩)))
noncomputable def operators(q:Nat)(x:a_operators):Option g_operators:=t_operators x some
abbrev a_operator:Type:=Int×SR
abbrev g_operator:Type:=ByteArray×SR
def t_operator{β:Type}(c_operators:a_operators→Option g_operators)(c_rtake:a_rtake→Option g_rtake)(x:a_operator)(dn:g_operator→Option β):Option β:=
 (c_operators x.1).bind fun z1=>Sum.elim (fun z1a=>(c_rtake (z1a,x.2)).bind fun z14=>if z14.1=true then dn (z1a,z14.2)else dn (⟨#[]⟩,z14.2)) (fun z1b=>Sum.elim (fun z1ba=>(c_rtake (if 0=0 then z1ba.1 else z1ba.2,x.2)).bind fun z28=>if z28.1=true then dn (if 0=0 then z1ba.1 else z1ba.2,z28.2)else(c_rtake (if 1=0 then z1ba.1 else z1ba.2,z28.2)).bind fun z41=>if z41.1=true then dn (if 1=0 then z1ba.1 else z1ba.2,z41.2)else dn (⟨#[]⟩,z41.2)) (fun z1bb=>(c_rtake (if 0=0 then z1bb.1 else if 0=0 then z1bb.2.1 else if 0=0 then z1bb.2.2.1 else if 0=0 then z1bb.2.2.2.1 else if 0=0 then z1bb.2.2.2.2.1 else z1bb.2.2.2.2.2,x.2)).bind fun z55=>if z55.1=true then dn (if 0=0 then z1bb.1 else if 0=0 then z1bb.2.1 else if 0=0 then z1bb.2.2.1 else if 0=0 then z1bb.2.2.2.1 else if 0=0 then z1bb.2.2.2.2.1 else z1bb.2.2.2.2.2,z55.2)else(c_rtake (if 1=0 then z1bb.1 else if 0=0 then z1bb.2.1 else if 0=0 then z1bb.2.2.1 else if 0=0 then z1bb.2.2.2.1 else if 0=0 then z1bb.2.2.2.2.1 else z1bb.2.2.2.2.2,z55.2)).bind fun z68=>if z68.1=true then dn (if 1=0 then z1bb.1 else if 0=0 then z1bb.2.1 else if 0=0 then z1bb.2.2.1 else if 0=0 then z1bb.2.2.2.1 else if 0=0 then z1bb.2.2.2.2.1 else z1bb.2.2.2.2.2,z68.2)else(c_rtake (if 2=0 then z1bb.1 else if 1=0 then z1bb.2.1 else if 0=0 then z1bb.2.2.1 else if 0=0 then z1bb.2.2.2.1 else if 0=0 then z1bb.2.2.2.2.1 else z1bb.2.2.2.2.2,z68.2)).bind fun z81=>if z81.1=true then dn (if 2=0 then z1bb.1 else if 1=0 then z1bb.2.1 else if 0=0 then z1bb.2.2.1 else if 0=0 then z1bb.2.2.2.1 else if 0=0 then z1bb.2.2.2.2.1 else z1bb.2.2.2.2.2,z81.2)else(c_rtake (if 3=0 then z1bb.1 else if 2=0 then z1bb.2.1 else if 1=0 then z1bb.2.2.1 else if 0=0 then z1bb.2.2.2.1 else if 0=0 then z1bb.2.2.2.2.1 else z1bb.2.2.2.2.2,z81.2)).bind fun z94=>if z94.1=true then dn (if 3=0 then z1bb.1 else if 2=0 then z1bb.2.1 else if 1=0 then z1bb.2.2.1 else if 0=0 then z1bb.2.2.2.1 else if 0=0 then z1bb.2.2.2.2.1 else z1bb.2.2.2.2.2,z94.2)else(c_rtake (if 4=0 then z1bb.1 else if 3=0 then z1bb.2.1 else if 2=0 then z1bb.2.2.1 else if 1=0 then z1bb.2.2.2.1 else if 0=0 then z1bb.2.2.2.2.1 else z1bb.2.2.2.2.2,z94.2)).bind fun z107=>if z107.1=true then dn (if 4=0 then z1bb.1 else if 3=0 then z1bb.2.1 else if 2=0 then z1bb.2.2.1 else if 1=0 then z1bb.2.2.2.1 else if 0=0 then z1bb.2.2.2.2.1 else z1bb.2.2.2.2.2,z107.2)else(c_rtake (if 5=0 then z1bb.1 else if 4=0 then z1bb.2.1 else if 3=0 then z1bb.2.2.1 else if 2=0 then z1bb.2.2.2.1 else if 1=0 then z1bb.2.2.2.2.1 else z1bb.2.2.2.2.2,z107.2)).bind fun z120=>if z120.1=true then dn (if 5=0 then z1bb.1 else if 4=0 then z1bb.2.1 else if 3=0 then z1bb.2.2.1 else if 2=0 then z1bb.2.2.2.1 else if 1=0 then z1bb.2.2.2.2.1 else z1bb.2.2.2.2.2,z120.2)else dn (⟨#[]⟩,z120.2)) z1b) z1
noncomputable def operator(q:Nat)(x:a_operator):Option g_operator:=t_operator (operators q) (rtake q) x some
end Go.Proofs.YtjfkkokeegpeiaaGreatDoor
/- The reference's parser of trees, lifted. -/
namespace Go.Proofs.YtjfkkokeegpeiaaGreatDoor
open Go Go.Am Go.Proofs
set_option maxRecDepth 100000
theorem un7{f:FuncId}{args:List V}{L:List (Option Chunk)}{cr:CRes}(h:SC E7 f args L cr)(hr:Nat.ble (roots false (hp L) args).length (roots true (hp L) args).length=true):SC E5 f args L cr:=by
 refine⟨h.1,fun β S w us h1 h2 h3=>(h.2 β S w us h1 h2 ⟨h3.rd,h3.inv⟩).mono ?_⟩
 intro e w' hp'
 cases cr with
 |ret v L'=>
  obtain⟨u,β',S',g0,g1,g2,g3,g4⟩:=hp'
  exact⟨u,β',S',g0,g1,g2,g3,fun i bm hi hb=>g4 i bm (Nat.lt_of_lt_of_le hi (Nat.le_of_ble_eq_true hr)) hb⟩
 |pan v=>exact hp'
abbrev a_one:Type:=Int×Int×Int×ByteArray×Nat×FL
abbrev g_one:Type:=Int×Int×Int×ByteArray×Nat×FL
def t_one{β:Type}(x:a_one)(dn:g_one→Option β):Option β:=
 dn x
noncomputable def one(q:Nat)(x:a_one):Option g_one:=t_one x some
end Go.Proofs.YtjfkkokeegpeiaaGreatDoor
/- Same, SameAll, Expr, lifted. -/
namespace Go.Proofs.YtjfkkokeegpeiaaGreatDoor
open Go Go.Am Go.Proofs
set_option maxRecDepth 100000
def opK(f:Nat→List V)(j:Nat):Int:=vI ((f j).getD 0 .junk)
def opN(f:Nat→List V)(j:Nat):Int:=vI ((f j).getD 1 .junk)
def opS(f:Nat→List V)(j:Nat):ByteArray:=vS ((f j).getD 2 .junk)
def opM(f:Nat→List V)(j:Nat):Nat:=vRoN ((f j).getD 3 .junk)
def opF(f:Nat→List V)(j:Nat):Nat→List V:=vRoF ((f j).getD 3 .junk)
def OpenN(f:Nat→List V):Prop:=∀j,f j=[i64 (opK f j),i64 (opN f j),st (opS f j),.ro 4 (opM f j) (opF f j)]
theorem open_eq{f:Nat→List V}(h:OpenN f):(fun j=>[i64 (opK f j),i64 (opN f j),st (opS f j),.ro 4 (opM f j) (opF f j)])=f:=funext fun j=>(h j).symm
abbrev a_Same:Type:=Int×Int×ByteArray×Nat×FL×Int×Int×ByteArray×Nat×FL
abbrev g_Same:Type:=Bool
def A_Same:AR a_Same:=fun x=>([.agg [i64 x.1,i64 x.2.1,st x.2.2.1,.ro 4 x.2.2.2.1 x.2.2.2.2.1],.agg [i64 x.2.2.2.2.2.1,i64 x.2.2.2.2.2.2.1,st x.2.2.2.2.2.2.2.1,.ro 4 x.2.2.2.2.2.2.2.2.1 x.2.2.2.2.2.2.2.2.2]],[])
def d_Same(t:TT):a_Same:=((vI (ca t 0 0)),vI (ca t 0 1),vS (ca t 0 2),vRoN (ca t 0 3),vRoF (ca t 0 3),vI (ca t 1 0),vI (ca t 1 1),vS (ca t 1 2),vRoN (ca t 1 3),vRoF (ca t 1 3))
theorem v_Same:VI A_Same:=vd d_Same fun _=>rfl
def R_Same:g_Same→CRes:=fun z=>.ret (bo z) []
abbrev a_SameN:Type:=Int×Int×ByteArray×Nat×FI×FI×FS×FN×FM×Int×Int×ByteArray×Nat×FI×FI×FS×FN×FM
abbrev g_SameN:Type:=Bool
def A_SameN:AR a_SameN:=fun x=>([.agg [i64 x.1,i64 x.2.1,st x.2.2.1,.ro 4 x.2.2.2.1 (fun j=>[i64 (x.2.2.2.2.1 j),i64 (x.2.2.2.2.2.1 j),st (x.2.2.2.2.2.2.1 j),.ro 4 (x.2.2.2.2.2.2.2.1 j) (x.2.2.2.2.2.2.2.2.1 j)])],.agg [i64 x.2.2.2.2.2.2.2.2.2.1,i64 x.2.2.2.2.2.2.2.2.2.2.1,st x.2.2.2.2.2.2.2.2.2.2.2.1,.ro 4 x.2.2.2.2.2.2.2.2.2.2.2.2.1 (fun j=>[i64 (x.2.2.2.2.2.2.2.2.2.2.2.2.2.1 j),i64 (x.2.2.2.2.2.2.2.2.2.2.2.2.2.2.1 j),st (x.2.2.2.2.2.2.2.2.2.2.2.2.2.2.2.1 j),.ro 4 (x.2.2.2.2.2.2.2.2.2.2.2.2.2.2.2.2.1 j) (x.2.2.2.2.2.2.2.2.2.2.2.2.2.2.2.2.2 j)])]],[])
def R_SameN:g_SameN→CRes:=fun z=>.ret (bo z) []
abbrev SameN_l0_a:Type:=Int
abbrev SameN_l0_g:Type:=(Unit)⊕(Unit)
def SameN_l0_S(x:a_SameN)(y:SameN_l0_a):St:={fr:=[V.junk,V.junk,V.ptr 0 0,V.ptr 1 0,V.junk,i64 y]++jk 47,H:=hp [some (Chunk.blk [i64 x.1,i64 x.2.1,st x.2.2.1,V.ro 4 x.2.2.2.1 fun j=>[i64 (x.2.2.2.2.1 j),i64 (x.2.2.2.2.2.1 j),st (x.2.2.2.2.2.2.1 j),V.ro 4 (x.2.2.2.2.2.2.2.1 j) (x.2.2.2.2.2.2.2.2.1 j)]]),some (Chunk.blk [i64 x.2.2.2.2.2.2.2.2.2.1,i64 x.2.2.2.2.2.2.2.2.2.2.1,st x.2.2.2.2.2.2.2.2.2.2.2.1,V.ro 4 x.2.2.2.2.2.2.2.2.2.2.2.2.1 fun j=>[i64 (x.2.2.2.2.2.2.2.2.2.2.2.2.2.1 j),i64 (x.2.2.2.2.2.2.2.2.2.2.2.2.2.2.1 j),st (x.2.2.2.2.2.2.2.2.2.2.2.2.2.2.2.1 j),V.ro 4 (x.2.2.2.2.2.2.2.2.2.2.2.2.2.2.2.2.1 j) (x.2.2.2.2.2.2.2.2.2.2.2.2.2.2.2.2.2 j)]])],nx:=2,rt:=0,me:=19}
def SameN_l0_d(s:St):SameN_l0_a:=(vI (s.fr.getD 5 .junk))
theorem SameN_l0_u(x:a_SameN):VL (SameN_l0_S x):=vl SameN_l0_d fun _=>rfl
def SameN_l0_T(x:a_SameN):SameN_l0_g→Ex×St:=(Sum.elim (fun z=>(Ex.ret,{fr:=jk 4++[bo false]++jk 48,H:=hp [],nx:=0,rt:=0,me:=19})) (fun z=>(Ex.exit 0,{fr:=[V.junk]++jk 52,H:=hp [],nx:=0,rt:=0,me:=19})))
def SameN_l0_t{β:Type}(c_Same:a_Same→Option g_Same)(x:a_SameN)(y:SameN_l0_a)(nx:SameN_l0_a→Option β)(dn:SameN_l0_g→Option β):Option β:=
 if decide (y< ((x.2.2.2.1:Nat):Int))=true then if 0≤y∧y< ((x.2.2.2.1:Nat):Int)then if 0≤y∧y< ((x.2.2.2.2.2.2.2.2.2.2.2.2.1:Nat):Int)then(c_Same (x.2.2.2.2.1 (Int.toNat y),x.2.2.2.2.2.1 (Int.toNat y),x.2.2.2.2.2.2.1 (Int.toNat y),x.2.2.2.2.2.2.2.1 (Int.toNat y),x.2.2.2.2.2.2.2.2.1 (Int.toNat y),x.2.2.2.2.2.2.2.2.2.2.2.2.2.1 (Int.toNat y),x.2.2.2.2.2.2.2.2.2.2.2.2.2.2.1 (Int.toNat y),x.2.2.2.2.2.2.2.2.2.2.2.2.2.2.2.1 (Int.toNat y),x.2.2.2.2.2.2.2.2.2.2.2.2.2.2.2.2.1 (Int.toNat y),x.2.2.2.2.2.2.2.2.2.2.2.2.2.2.2.2.2 (Int.toNat y))).bind fun z57=>if(!z57)=true then dn (.inl ())else nx (w (y+1))else none else none else dn (.inr ())
theorem SameN_l0_n{β:Type}(c_Same)(x)(y)(nx:SameN_l0_a→Option β)(dn):SameN_l0_t c_Same x y nx dn=(SameN_l0_t c_Same x y (fun y=>some (.inl y)) (fun z=>some (.inr z))).bind fun r=>Sum.elim nx dn r:=by
 unfold SameN_l0_t
 repeat' first|exact n0|refine n1 fun _=>?_|refine n2 ?_ ?_|refine n3 (fun _=>?_) fun _=>?_|rfl
theorem SameN_l0_r(c_Same)(x)(y)(lo:LoopT):loopK E5 (ftb 19 A_Same R_Same c_Same ca0) lo 0 44 (bodyOf E5 19 0) (SameN_l0_S x y) (KCM [(0,0)] 16)=SameN_l0_t (vf A_Same c_Same) x y (fun y=>lo 0 44 (bodyOf E5 19 0) (SameN_l0_S x y) (KCM [(0,0)] 16)) (fun z=>some (.l (SameN_l0_T x z).1 (SameN_l0_T x z).2)):=by kernel_rfl
noncomputable def SameN_l0(c_Same:a_Same→Option g_Same)(q:Nat)(x:a_SameN):SameN_l0_a→Option SameN_l0_g:=lpG (fun y=>SameN_l0_t c_Same x y (fun y=>some (.inl y)) (fun z=>some (.inr z))) q
theorem SameN_l0_s(c_Same)(h_Same:Lw E5 19 A_Same R_Same c_Same)(q:Nat)(x:a_SameN):Ll E5 (bodyOf E5 19 0) (SameN_l0_S x) (SameN_l0_T x) (SameN_l0 c_Same q x):=
 slp (fk h_Same ca0_sound) hX5 (fun lo y=>(SameN_l0_r c_Same x y lo).trans (by rw[v_Same];exact SameN_l0_n _ _ _ _ _)) (fun z=>by rcases z with z|z<;>kernel_rfl) q
def t_SameN{β:Type}(c_Same:a_Same→Option g_Same)(l_SameN_l0:SameN_l0_a→Option SameN_l0_g)(x:a_SameN)(dn:g_SameN→Option β):Option β:=
 if(x.1 !=x.2.2.2.2.2.2.2.2.2.1)=true then dn false else if(x.2.1 !=x.2.2.2.2.2.2.2.2.2.2.1)=true then dn false else if(!x.2.2.1.toList==x.2.2.2.2.2.2.2.2.2.2.2.1.toList)=true then dn false else if(((x.2.2.2.1:Nat):Int)!=((x.2.2.2.2.2.2.2.2.2.2.2.2.1:Nat):Int))=true then dn false else(l_SameN_l0 (0)).bind fun z25=>Sum.elim (fun z25a=>dn false) (fun z25b=>dn true) z25
theorem n_SameN{β:Type}(c_Same)(l_SameN_l0)(x)(dn:g_SameN→Option β):t_SameN c_Same l_SameN_l0 x dn=(t_SameN c_Same l_SameN_l0 x some).bind dn:=by
 unfold t_SameN
 repeat' first|exact n0|refine n1 fun _=>?_|refine n2 ?_ ?_|refine n3 (fun _=>?_) fun _=>?_|rfl
theorem r_SameN(c_Same)(l_SameN_l0)(x):callK E5 (ftb 19 A_Same R_Same c_Same ca0) (lt2 0 (fun _=>true) (bodyOf E5 19 0) (SameN_l0_S x) (SameN_l0_T x) l_SameN_l0 lo0) 19 (A_SameN x).1 (A_SameN x).2 K=t_SameN (vf A_Same c_Same) (lf (bodyOf E5 19 0) (SameN_l0_S x) l_SameN_l0) x (fun z=>some (.c (R_SameN z))):=by kernel_rfl
theorem s_SameN(c_Same)(h_Same:Lw E5 19 A_Same R_Same c_Same)(q:Nat):Lw E5 19 A_SameN R_SameN fun x=>t_SameN c_Same (SameN_l0 c_Same q x) x some:=sof hW5 hX5 (fk h_Same ca0_sound) (fun x=>(lk2 (SameN_l0_s c_Same h_Same q x) lo0_sound)) fun x=>(r_SameN c_Same (SameN_l0 c_Same q x) x).trans (by rw[v_Same,SameN_l0_u,n_SameN]<;>rfl)
open Classical in
noncomputable def Same:Nat→a_Same→Option g_Same
 |0,_=>none
 |q+1,x=>if OpenN x.2.2.2.2.1∧OpenN x.2.2.2.2.2.2.2.2.2 then t_SameN (Same q) (SameN_l0 (Same q) q (x.1,x.2.1,x.2.2.1,x.2.2.2.1,opK x.2.2.2.2.1,opN x.2.2.2.2.1,opS x.2.2.2.2.1,opM x.2.2.2.2.1,opF x.2.2.2.2.1,x.2.2.2.2.2.1,x.2.2.2.2.2.2.1,x.2.2.2.2.2.2.2.1,x.2.2.2.2.2.2.2.2.1,opK x.2.2.2.2.2.2.2.2.2,opN x.2.2.2.2.2.2.2.2.2,opS x.2.2.2.2.2.2.2.2.2,opM x.2.2.2.2.2.2.2.2.2,opF x.2.2.2.2.2.2.2.2.2)) (x.1,x.2.1,x.2.2.1,x.2.2.2.1,opK x.2.2.2.2.1,opN x.2.2.2.2.1,opS x.2.2.2.2.1,opM x.2.2.2.2.1,opF x.2.2.2.2.1,x.2.2.2.2.2.1,x.2.2.2.2.2.2.1,x.2.2.2.2.2.2.2.1,x.2.2.2.2.2.2.2.2.1,opK x.2.2.2.2.2.2.2.2.2,opN x.2.2.2.2.2.2.2.2.2,opS x.2.2.2.2.2.2.2.2.2,opM x.2.2.2.2.2.2.2.2.2,opF x.2.2.2.2.2.2.2.2.2) some else none
theorem sc_Same:∀q x z,Same q x=some z→SC E5 19 (A_Same x).1 (A_Same x).2 (R_Same z):=by
 intro q
 induction q with
 |zero=>intro x z h;cases h
 |succ q ih=>
  intro x z h
  unfold Same at h
  split at h
  ·rename_i hO
   have this:=s_SameN (Same q) ih q (x.1,x.2.1,x.2.2.1,x.2.2.2.1,opK x.2.2.2.2.1,opN x.2.2.2.2.1,opS x.2.2.2.2.1,opM x.2.2.2.2.1,opF x.2.2.2.2.1,x.2.2.2.2.2.1,x.2.2.2.2.2.2.1,x.2.2.2.2.2.2.2.1,x.2.2.2.2.2.2.2.2.1,opK x.2.2.2.2.2.2.2.2.2,opN x.2.2.2.2.2.2.2.2.2,opS x.2.2.2.2.2.2.2.2.2,opM x.2.2.2.2.2.2.2.2.2,opF x.2.2.2.2.2.2.2.2.2) z h
   unfold A_SameN at this
   unfold A_Same
   simp only at this⊢
   rw[open_eq hO.1,open_eq hO.2]at this
   exact this
  ·cases h
abbrev a_Itoa:Type:=Int
abbrev g_Itoa:Type:=ByteArray
def A_Itoa:AR a_Itoa:=fun x=>([i64 x],[])
def d_Itoa(t:TT):a_Itoa:=(vI (ag t 0))
theorem v_Itoa:VI A_Itoa:=vd d_Itoa fun _=>rfl
def R_Itoa:g_Itoa→CRes:=fun z=>.ret (st z) []
noncomputable def Itoa(q:Nat)(x:a_Itoa):Option g_Itoa:=if-9223372036854775808≤x∧x≤9223372036854775807 then some ⟨(Lib.itoa x).toArray⟩else none
theorem sc_Itoa(q:Nat):Lw E5 41 A_Itoa R_Itoa (Itoa q):=by
 intro n z h
 unfold Itoa at h
 split at h
 ·rename_i hn
  cases h
  exact sc5.2 (SC.ext hX (by
   show extF 41 [i64 n]=_
   simp only[extF,if_pos,i64]
   exact if_pos hn))
 ·cases h
abbrev a_level:Type:=Int×Int×ByteArray×Nat×FL
abbrev g_level:Type:=Int
def A_level:AR a_level:=fun x=>([.agg [i64 x.1,i64 x.2.1,st x.2.2.1,.ro 4 x.2.2.2.1 x.2.2.2.2]],[])
def d_level(t:TT):a_level:=((vI (ca t 0 0)),vI (ca t 0 1),vS (ca t 0 2),vRoN (ca t 0 3),vRoF (ca t 0 3))
theorem v_level:VI A_level:=vd d_level fun _=>rfl
def R_level:g_level→CRes:=fun z=>.ret (i64 z) []
def t_level{β:Type}(c_levelOf:a_levelOf→Option g_levelOf)(x:a_level)(dn:g_level→Option β):Option β:=
 if(x.1==20)=true then(c_levelOf x.2.2.1).bind fun z1=>dn z1 else if(x.1==19)=true then if(x.2.2.1.toList==ByteArray.toList ⟨#[33]⟩)=true then dn (3)else if(x.1==19)=true then dn (7)else dn (8)else if(x.1==19)=true then dn (7)else dn (8)
theorem n_level{β:Type}(c_levelOf)(x)(dn:g_level→Option β):t_level c_levelOf x dn=(t_level c_levelOf x some).bind dn:=by
 unfold t_level
 repeat' first|exact n0|refine n1 fun _=>?_|refine n2 ?_ ?_|refine n3 (fun _=>?_) fun _=>?_|rfl
theorem r_level(c_levelOf)(x):callK E5 (ftb 78 A_levelOf R_levelOf c_levelOf ca0) lo0 40 (A_level x).1 (A_level x).2 K=t_level (vf A_levelOf c_levelOf) x (fun z=>some (.c (R_level z))):=by kernel_rfl
noncomputable def level(q:Nat)(x:a_level):Option g_level:=t_level (levelOf q) x some
theorem sc_level(q:Nat):Lw E5 40 A_level R_level (level q):=sof hW5 hX5 (fk (sc_levelOf q) ca0_sound) (fun _=>lo0_sound) fun x=>(r_level (levelOf q) x).trans (by rw[v_levelOf,n_level]<;>rfl)
abbrev a_Expr:Type:=Int×Int×ByteArray×Nat×FL
abbrev g_Expr:Type:=ByteArray
def A_Expr:AR a_Expr:=fun x=>([.agg [i64 x.1,i64 x.2.1,st x.2.2.1,.ro 4 x.2.2.2.1 x.2.2.2.2]],[])
def d_Expr(t:TT):a_Expr:=((vI (ca t 0 0)),vI (ca t 0 1),vS (ca t 0 2),vRoN (ca t 0 3),vRoF (ca t 0 3))
theorem v_Expr:VI A_Expr:=vd d_Expr fun _=>rfl
def R_Expr:g_Expr→CRes:=fun z=>.ret (st z) []
abbrev a_operand:Type:=Int×Int×ByteArray×Nat×FL×Int
abbrev g_operand:Type:=ByteArray
def A_operand:AR a_operand:=fun x=>([.agg [i64 x.1,i64 x.2.1,st x.2.2.1,.ro 4 x.2.2.2.1 x.2.2.2.2.1],i64 x.2.2.2.2.2],[])
def d_operand(t:TT):a_operand:=((vI (ca t 0 0)),vI (ca t 0 1),vS (ca t 0 2),vRoN (ca t 0 3),vRoF (ca t 0 3),vI (ag t 1))
theorem v_operand:VI A_operand:=vd d_operand fun _=>rfl
def R_operand:g_operand→CRes:=fun z=>.ret (st z) []
abbrev a_operandR:Type:=Int×Int×ByteArray×Nat×FL×Int
abbrev g_operandR:Type:=ByteArray
def A_operandR:AR a_operandR:=fun x=>([.agg [i64 x.1,i64 x.2.1,st x.2.2.1,.ro 4 x.2.2.2.1 x.2.2.2.2.1],i64 x.2.2.2.2.2],[])
def R_operandR:g_operandR→CRes:=fun z=>.ret (st z) []
abbrev a_ExprN:Type:=Int×Int×ByteArray×Nat×FI×FI×FS×FN×FM
abbrev g_ExprN:Type:=ByteArray
def A_ExprN:AR a_ExprN:=fun x=>([.agg [i64 x.1,i64 x.2.1,st x.2.2.1,.ro 4 x.2.2.2.1 (fun j=>[i64 (x.2.2.2.2.1 j),i64 (x.2.2.2.2.2.1 j),st (x.2.2.2.2.2.2.1 j),.ro 4 (x.2.2.2.2.2.2.2.1 j) (x.2.2.2.2.2.2.2.2 j)])]],[])
def R_ExprN:g_ExprN→CRes:=fun z=>.ret (st z) []
def t_operandR{β:Type}(c_level:a_level→Option g_level)(c_Expr:a_Expr→Option g_Expr)(x:a_operandR)(dn:g_operandR→Option β):Option β:=
 (c_level (x.1,x.2.1,x.2.2.1,x.2.2.2.1,x.2.2.2.2.1)).bind fun z5=>if decide (z5<x.2.2.2.2.2)=true then(c_Expr (x.1,x.2.1,x.2.2.1,x.2.2.2.1,x.2.2.2.2.1)).bind fun z11=>if 1+z11.size≤maxLen then if ByteArray.size (⟨#[40]⟩++z11)+1≤maxLen then dn (⟨#[40]⟩++z11++⟨#[41]⟩)else none else none else(c_Expr (x.1,x.2.1,x.2.2.1,x.2.2.2.1,x.2.2.2.2.1)).bind fun z17=>dn z17
theorem n_operandR{β:Type}(c_level c_Expr)(x)(dn:g_operandR→Option β):t_operandR c_level c_Expr x dn=(t_operandR c_level c_Expr x some).bind dn:=by
 unfold t_operandR
 repeat' first|exact n0|refine n1 fun _=>?_|refine n2 ?_ ?_|refine n3 (fun _=>?_) fun _=>?_|rfl
theorem r_operandR(c_level c_Expr)(x):callK E5 (ftb 40 A_level R_level c_level (ftb 16 A_Expr R_Expr c_Expr ca0)) lo0 43 (A_operandR x).1 (A_operandR x).2 K=t_operandR (vf A_level c_level) (vf A_Expr c_Expr) x (fun z=>some (.c (R_operandR z))):=by kernel_rfl
theorem s_operandR(c_level)(h_level:Lw E5 40 A_level R_level c_level)(c_Expr)(h_Expr:Lw E5 16 A_Expr R_Expr c_Expr)(q:Nat):Lw E5 43 A_operandR R_operandR fun x=>t_operandR c_level c_Expr x some:=sof hW5 hX5 (fk h_level (fk h_Expr ca0_sound)) (fun _=>lo0_sound) fun x=>(r_operandR c_level c_Expr x).trans (by rw[v_level,v_Expr,n_operandR]<;>rfl)
def t_ExprN{β:Type}(c_level:a_level→Option g_level)(c_Itoa:a_Itoa→Option g_Itoa)(c_operand:a_operand→Option g_operand)(x:a_ExprN)(dn:g_ExprN→Option β):Option β:=
 (c_level (x.1,x.2.1,x.2.2.1,x.2.2.2.1,fun j=>[i64 (x.2.2.2.2.1 j),i64 (x.2.2.2.2.2.1 j),st (x.2.2.2.2.2.2.1 j),V.ro 4 (x.2.2.2.2.2.2.2.1 j) (x.2.2.2.2.2.2.2.2 j)])).bind fun z5=>if(x.1==15)=true then if(x.2.2.1.toList==ByteArray.toList ⟨#[]⟩)=true then(c_Itoa x.2.1).bind fun z7=>dn z7 else(c_Itoa x.2.1).bind fun z9=>if z9.size+1≤maxLen then if ByteArray.size (z9++⟨#[32]⟩)+x.2.2.1.size≤maxLen then dn (z9++⟨#[32]⟩++x.2.2.1)else none else none else if(x.1==16)=true then if(x.2.1==1)=true then dn (⟨#[116,114,117,101]⟩)else dn (⟨#[102,97,108,115,101]⟩)else if(x.1==17)=true then dn x.2.2.1 else if(x.1==18)=true then if 4+x.2.2.1.size≤maxLen then dn (⟨#[116,108,109,46]⟩++x.2.2.1)else none else if(x.1==19)=true then if(0:Int)≤0∧0< ((x.2.2.2.1:Nat):Int)then(c_operand (x.2.2.2.2.1 0,x.2.2.2.2.2.1 0,x.2.2.2.2.2.2.1 0,x.2.2.2.2.2.2.2.1 0,x.2.2.2.2.2.2.2.2 0,z5)).bind fun z16=>if x.2.2.1.size+z16.size≤maxLen then dn (x.2.2.1++z16)else none else none else if(z5==4)=true then if(0:Int)≤0∧0< ((x.2.2.2.1:Nat):Int)then(c_operand (x.2.2.2.2.1 0,x.2.2.2.2.2.1 0,x.2.2.2.2.2.2.1 0,x.2.2.2.2.2.2.2.1 0,x.2.2.2.2.2.2.2.2 0,5)).bind fun z23=>if z23.size+1≤maxLen then if ByteArray.size (z23++⟨#[32]⟩)+x.2.2.1.size≤maxLen then if ByteArray.size (z23++⟨#[32]⟩++x.2.2.1)+1≤maxLen then if(0:Int)≤1∧1< ((x.2.2.2.1:Nat):Int)then(c_operand (x.2.2.2.2.1 1,x.2.2.2.2.2.1 1,x.2.2.2.2.2.2.1 1,x.2.2.2.2.2.2.2.1 1,x.2.2.2.2.2.2.2.2 1,w (z5+1))).bind fun z30=>if ByteArray.size (z23++⟨#[32]⟩++x.2.2.1++⟨#[32]⟩)+z30.size≤maxLen then dn (z23++⟨#[32]⟩++x.2.2.1++⟨#[32]⟩++z30)else none else none else none else none else none else none else if(0:Int)≤0∧0< ((x.2.2.2.1:Nat):Int)then(c_operand (x.2.2.2.2.1 0,x.2.2.2.2.2.1 0,x.2.2.2.2.2.2.1 0,x.2.2.2.2.2.2.2.1 0,x.2.2.2.2.2.2.2.2 0,z5)).bind fun z37=>if z37.size+1≤maxLen then if ByteArray.size (z37++⟨#[32]⟩)+x.2.2.1.size≤maxLen then if ByteArray.size (z37++⟨#[32]⟩++x.2.2.1)+1≤maxLen then if(0:Int)≤1∧1< ((x.2.2.2.1:Nat):Int)then(c_operand (x.2.2.2.2.1 1,x.2.2.2.2.2.1 1,x.2.2.2.2.2.2.1 1,x.2.2.2.2.2.2.2.1 1,x.2.2.2.2.2.2.2.2 1,w (z5+1))).bind fun z44=>if ByteArray.size (z37++⟨#[32]⟩++x.2.2.1++⟨#[32]⟩)+z44.size≤maxLen then dn (z37++⟨#[32]⟩++x.2.2.1++⟨#[32]⟩++z44)else none else none else none else none else none else none
theorem n_ExprN{β:Type}(c_level c_Itoa c_operand)(x)(dn:g_ExprN→Option β):t_ExprN c_level c_Itoa c_operand x dn=(t_ExprN c_level c_Itoa c_operand x some).bind dn:=by
 unfold t_ExprN
 repeat' first|exact n0|refine n1 fun _=>?_|refine n2 ?_ ?_|refine n3 (fun _=>?_) fun _=>?_|rfl
theorem r_ExprN(c_level c_Itoa c_operand)(x):callK E5 (ftb 40 A_level R_level c_level (ftb 41 A_Itoa R_Itoa c_Itoa (ftb 43 A_operand R_operand c_operand (callG E5 20)))) lo0 16 (A_ExprN x).1 (A_ExprN x).2 K=t_ExprN (vf A_level c_level) (vf A_Itoa c_Itoa) (vf A_operand c_operand) x (fun z=>some (.c (R_ExprN z))):=by kernel_rfl
theorem s_ExprN(c_level)(h_level:Lw E5 40 A_level R_level c_level)(c_Itoa)(h_Itoa:Lw E5 41 A_Itoa R_Itoa c_Itoa)(c_operand)(h_operand:Lw E5 43 A_operand R_operand c_operand)(q:Nat):Lw E5 16 A_ExprN R_ExprN fun x=>t_ExprN c_level c_Itoa c_operand x some:=sof hW5 hX5 (fk h_level (fk h_Itoa (fk h_operand (sound_G hW5 hX5 20).1))) (fun _=>lo0_sound) fun x=>(r_ExprN c_level c_Itoa c_operand x).trans (by rw[v_level,v_Itoa,v_operand,n_ExprN]<;>rfl)
open Classical in
noncomputable def exE:Nat→(a_Expr→Option g_Expr)×(a_operand→Option g_operand)
 |0=>(fun _=>none,fun _=>none)
 |q+1=>(fun x=>if OpenN x.2.2.2.2 then t_ExprN ((level q)) ((Itoa q)) ((exE q).2) (x.1,x.2.1,x.2.2.1,x.2.2.2.1,opK x.2.2.2.2,opN x.2.2.2.2,opS x.2.2.2.2,opM x.2.2.2.2,opF x.2.2.2.2) some else none,fun x=>t_operandR ((level q)) ((exE q).1) x some)
theorem exE_sc:∀q,(∀x z,(exE q).1 x=some z→SC E5 16 (A_Expr x).1 (A_Expr x).2 (R_Expr z))∧(∀x z,(exE q).2 x=some z→SC E5 43 (A_operand x).1 (A_operand x).2 (R_operand z)):=by
 intro q
 induction q with
 |zero=>exact⟨(fun x z h=>by cases h),(fun x z h=>by cases h)⟩
 |succ q ih=>
  obtain⟨h1,h2⟩:=ih
  refine⟨fun x z h=>?_,fun x z h=>s_operandR ((level q)) (sc_level q) ((exE q).1) h1 q x z h⟩
  unfold exE at h
  dsimp only at h
  split at h
  ·rename_i hO
   have this:=s_ExprN ((level q)) (sc_level q) ((Itoa q)) (sc_Itoa q) ((exE q).2) h2 q (x.1,x.2.1,x.2.2.1,x.2.2.2.1,opK x.2.2.2.2,opN x.2.2.2.2,opS x.2.2.2.2,opM x.2.2.2.2,opF x.2.2.2.2) z h
   unfold A_ExprN at this
   unfold A_Expr
   simp only at this⊢
   rw[open_eq hO]at this
   exact this
  ·cases h
noncomputable def Expr(q:Nat):a_Expr→Option g_Expr:=(exE q).1
noncomputable def operand(q:Nat):a_operand→Option g_operand:=(exE q).2
theorem sc_Expr(q:Nat):∀x z,Expr q x=some z→SC E5 16 (A_Expr x).1 (A_Expr x).2 (R_Expr z):=(exE_sc q).1
end Go.Proofs.YtjfkkokeegpeiaaGreatDoor
/- The reference's Expr, lifted. -/
namespace Go.Proofs.YtjfkkokeegpeiaaGreatDoor
open Go Go.Am Go.Proofs
set_option maxRecDepth 100000
abbrev a_Decimal:Type:=Int
abbrev g_Decimal:Type:=ByteArray
def A_Decimal:AR a_Decimal:=fun x=>([i64 x],[])
def d_Decimal(t:TT):a_Decimal:=(vI (ag t 0))
theorem v_Decimal:VI A_Decimal:=vd d_Decimal fun _=>rfl
def R_Decimal:g_Decimal→CRes:=fun z=>.ret (st z) []
abbrev Decimal_l0_a:Type:=ByteArray×Int
abbrev Decimal_l0_g:Type:=ByteArray
def Decimal_l0_S(x:a_Decimal)(y:Decimal_l0_a):St:={fr:=[i64 x,V.junk,V.junk,st ⟨#[48,49,50,51,52,53,54,55,56,57]⟩,st y.1,i64 y.2]++jk 26,H:=hp [],nx:=0,rt:=0,me:=31}
def Decimal_l0_d(s:St):Decimal_l0_a:=((vS (s.fr.getD 4 .junk)),vI (s.fr.getD 5 .junk))
theorem Decimal_l0_u(x:a_Decimal):VL (Decimal_l0_S x):=vl Decimal_l0_d fun _=>rfl
def Decimal_l0_T(x:a_Decimal):Decimal_l0_g→Ex×St:=(fun z=>(Ex.exit 0,{fr:=[i64 x,V.junk,V.junk,V.junk,st z]++jk 27,H:=hp [],nx:=0,rt:=0,me:=31}))
def Decimal_l0_t{β:Type}(x:a_Decimal)(y:Decimal_l0_a)(nx:Decimal_l0_a→Option β)(dn:Decimal_l0_g→Option β):Option β:=
 if(y.2 !=0)=true then if decide (Int.tmod y.2 (10:Int)<0)=true then if 0≤w (0-Int.tmod y.2 10)∧w (0-Int.tmod y.2 10)≤w (w (0-Int.tmod y.2 10)+1)∧w (w (0-Int.tmod y.2 10)+1)≤10 then if ByteArray.size (ByteArray.extract ⟨#[48,49,50,51,52,53,54,55,56,57]⟩ (Int.toNat (w (0-Int.tmod y.2 10))) (Int.toNat (w (w (0-Int.tmod y.2 10)+1))))+y.1.size≤maxLen then nx ((ByteArray.extract ⟨#[48,49,50,51,52,53,54,55,56,57]⟩ (Int.toNat (w (0-Int.tmod y.2 10))) (Int.toNat (w (w (0-Int.tmod y.2 10)+1)))++y.1,w (Int.tdiv y.2 10)))else none else none else if 0≤Int.tmod y.2 10∧Int.tmod y.2 10≤w (Int.tmod y.2 (10:Int)+1)∧w (Int.tmod y.2 (10:Int)+1)≤10 then if ByteArray.size (ByteArray.extract ⟨#[48,49,50,51,52,53,54,55,56,57]⟩ (Int.toNat (Int.tmod y.2 10)) (Int.toNat (w (Int.tmod y.2 (10:Int)+1))))+y.1.size≤maxLen then nx (ByteArray.extract ⟨#[48,49,50,51,52,53,54,55,56,57]⟩ (Int.toNat (Int.tmod y.2 10)) (Int.toNat (w (Int.tmod y.2 (10:Int)+1)))++y.1,w (Int.tdiv y.2 10))else none else none else dn y.1
theorem Decimal_l0_n{β:Type}(x)(y)(nx:Decimal_l0_a→Option β)(dn):Decimal_l0_t x y nx dn=(Decimal_l0_t x y (fun y=>some (.inl y)) (fun z=>some (.inr z))).bind fun r=>Sum.elim nx dn r:=by
 unfold Decimal_l0_t
 repeat' first|exact n0|refine n1 fun _=>?_|refine n2 ?_ ?_|refine n3 (fun _=>?_) fun _=>?_|rfl
theorem Decimal_l0_r(x)(y)(lo:LoopT):loopK E5 ca0 lo 0 57 (bodyOf E5 31 0) (Decimal_l0_S x y) (KCM [(0,17)] 4)=Decimal_l0_t x y (fun y=>lo 0 57 (bodyOf E5 31 0) (Decimal_l0_S x y) (KCM [(0,17)] 4)) (fun z=>some (.l (Decimal_l0_T x z).1 (Decimal_l0_T x z).2)):=by kernel_rfl
noncomputable def Decimal_l0(q:Nat)(x:a_Decimal):Decimal_l0_a→Option Decimal_l0_g:=lpG (fun y=>Decimal_l0_t x y (fun y=>some (.inl y)) (fun z=>some (.inr z))) q
theorem Decimal_l0_s(q:Nat)(x:a_Decimal):Ll E5 (bodyOf E5 31 0) (Decimal_l0_S x) (Decimal_l0_T x) (Decimal_l0 q x):=
 slp ca0_sound hX5 (fun lo y=>(Decimal_l0_r x y lo).trans (by exact Decimal_l0_n  _ _ _ _)) (fun _=>by kernel_rfl) q
def t_Decimal{β:Type}(l_Decimal_l0:Decimal_l0_a→Option Decimal_l0_g)(x:a_Decimal)(dn:g_Decimal→Option β):Option β:=
 if(x==0)=true then dn (⟨#[48]⟩)else(l_Decimal_l0 (⟨#[]⟩,x)).bind fun z9=>if decide (x<0)=true then if 1+z9.size≤maxLen then dn (⟨#[45]⟩++z9)else none else dn z9
theorem n_Decimal{β:Type}(l_Decimal_l0)(x)(dn:g_Decimal→Option β):t_Decimal l_Decimal_l0 x dn=(t_Decimal l_Decimal_l0 x some).bind dn:=by
 unfold t_Decimal
 repeat' first|exact n0|refine n1 fun _=>?_|refine n2 ?_ ?_|refine n3 (fun _=>?_) fun _=>?_|rfl
theorem r_Decimal(l_Decimal_l0)(x):callK E5 ca0 (lt1 0 (fun _=>true) (bodyOf E5 31 0) (Decimal_l0_S x) (Decimal_l0_T x) l_Decimal_l0 lo0) 31 (A_Decimal x).1 (A_Decimal x).2 K=t_Decimal (lf (bodyOf E5 31 0) (Decimal_l0_S x) l_Decimal_l0) x (fun z=>some (.c (R_Decimal z))):=by kernel_rfl
noncomputable def Decimal(q:Nat)(x:a_Decimal):Option g_Decimal:=t_Decimal (Decimal_l0 q x) x some
theorem sc_Decimal(q:Nat):Lw E5 31 A_Decimal R_Decimal (Decimal q):=sof hW5 hX5 ca0_sound (fun x=>(lk1 (Decimal_l0_s q x) lo0_sound)) fun x=>(r_Decimal (Decimal_l0 q x) x).trans (by rw[Decimal_l0_u,n_Decimal]<;>rfl)
abbrev a_RLevel:Type:=Int×Int×ByteArray×Nat×FL
abbrev g_RLevel:Type:=Int
def A_RLevel:AR a_RLevel:=fun x=>([.agg [i64 x.1,i64 x.2.1,st x.2.2.1,.ro 4 x.2.2.2.1 x.2.2.2.2]],[])
def d_RLevel(t:TT):a_RLevel:=((vI (ca t 0 0)),vI (ca t 0 1),vS (ca t 0 2),vRoN (ca t 0 3),vRoF (ca t 0 3))
theorem v_RLevel:VI A_RLevel:=vd d_RLevel fun _=>rfl
def R_RLevel:g_RLevel→CRes:=fun z=>.ret (i64 z) []
def t_RLevel{β:Type}(x:a_RLevel)(dn:g_RLevel→Option β):Option β:=
 if(x.1==19)=true then if(x.2.2.1.toList==ByteArray.toList ⟨#[33]⟩)=true then dn (3)else if(x.1==19)=true then dn (7)else if(x.1 !=20)=true then dn (8)else if(ByteArray.toList ⟨#[124,124]⟩==x.2.2.1.toList)=true then dn (1)else if(ByteArray.toList ⟨#[38,38]⟩==x.2.2.1.toList)=true then dn (2)else if(ByteArray.toList (if 0=0 then⟨#[60]⟩else if 0=0 then⟨#[60,61]⟩else if 0=0 then⟨#[62]⟩else if 0=0 then⟨#[62,61]⟩else if 0=0 then⟨#[61,61]⟩else⟨#[33,61]⟩)==x.2.2.1.toList)=true then dn (4)else if(ByteArray.toList (if 1=0 then⟨#[60]⟩else if 0=0 then⟨#[60,61]⟩else if 0=0 then⟨#[62]⟩else if 0=0 then⟨#[62,61]⟩else if 0=0 then⟨#[61,61]⟩else⟨#[33,61]⟩)==x.2.2.1.toList)=true then dn (4)else if(ByteArray.toList (if 2=0 then⟨#[60]⟩else if 1=0 then⟨#[60,61]⟩else if 0=0 then⟨#[62]⟩else if 0=0 then⟨#[62,61]⟩else if 0=0 then⟨#[61,61]⟩else⟨#[33,61]⟩)==x.2.2.1.toList)=true then dn (4)else if(ByteArray.toList (if 3=0 then⟨#[60]⟩else if 2=0 then⟨#[60,61]⟩else if 1=0 then⟨#[62]⟩else if 0=0 then⟨#[62,61]⟩else if 0=0 then⟨#[61,61]⟩else⟨#[33,61]⟩)==x.2.2.1.toList)=true then dn (4)else if(ByteArray.toList (if 4=0 then⟨#[60]⟩else if 3=0 then⟨#[60,61]⟩else if 2=0 then⟨#[62]⟩else if 1=0 then⟨#[62,61]⟩else if 0=0 then⟨#[61,61]⟩else⟨#[33,61]⟩)==x.2.2.1.toList)=true then dn (4)else if(ByteArray.toList (if 5=0 then⟨#[60]⟩else if 4=0 then⟨#[60,61]⟩else if 3=0 then⟨#[62]⟩else if 2=0 then⟨#[62,61]⟩else if 1=0 then⟨#[61,61]⟩else⟨#[33,61]⟩)==x.2.2.1.toList)=true then dn (4)else if(ByteArray.toList (if 0=0 then⟨#[43]⟩else⟨#[45]⟩)==x.2.2.1.toList)=true then dn (5)else if(ByteArray.toList (if 1=0 then⟨#[43]⟩else⟨#[45]⟩)==x.2.2.1.toList)=true then dn (5)else dn (6)else if(x.1==19)=true then dn (7)else if(x.1 !=20)=true then dn (8)else if(ByteArray.toList ⟨#[124,124]⟩==x.2.2.1.toList)=true then dn (1)else if(ByteArray.toList ⟨#[38,38]⟩==x.2.2.1.toList)=true then dn (2)else if(ByteArray.toList (if 0=0 then⟨#[60]⟩else if 0=0 then⟨#[60,61]⟩else if 0=0 then⟨#[62]⟩else if 0=0 then⟨#[62,61]⟩else if 0=0 then⟨#[61,61]⟩else⟨#[33,61]⟩)==x.2.2.1.toList)=true then dn (4)else if(ByteArray.toList (if 1=0 then⟨#[60]⟩else if 0=0 then⟨#[60,61]⟩else if 0=0 then⟨#[62]⟩else if 0=0 then⟨#[62,61]⟩else if 0=0 then⟨#[61,61]⟩else⟨#[33,61]⟩)==x.2.2.1.toList)=true then dn (4)else if(ByteArray.toList (if 2=0 then⟨#[60]⟩else if 1=0 then⟨#[60,61]⟩else if 0=0 then⟨#[62]⟩else if 0=0 then⟨#[62,61]⟩else if 0=0 then⟨#[61,61]⟩else⟨#[33,61]⟩)==x.2.2.1.toList)=true then dn (4)else if(ByteArray.toList (if 3=0 then⟨#[60]⟩else if 2=0 then⟨#[60,61]⟩else if 1=0 then⟨#[62]⟩else if 0=0 then⟨#[62,61]⟩else if 0=0 then⟨#[61,61]⟩else⟨#[33,61]⟩)==x.2.2.1.toList)=true then dn (4)else if(ByteArray.toList (if 4=0 then⟨#[60]⟩else if 3=0 then⟨#[60,61]⟩else if 2=0 then⟨#[62]⟩else if 1=0 then⟨#[62,61]⟩else if 0=0 then⟨#[61,61]⟩else⟨#[33,61]⟩)==x.2.2.1.toList)=true then dn (4)else if(ByteArray.toList (if 5=0 then⟨#[60]⟩else if 4=0 then⟨#[60,61]⟩else if 3=0 then⟨#[62]⟩else if 2=0 then⟨#[62,61]⟩else if 1=0 then⟨#[61,61]⟩else⟨#[33,61]⟩)==x.2.2.1.toList)=true then dn (4)else if(ByteArray.toList (if 0=0 then⟨#[43]⟩else⟨#[45]⟩)==x.2.2.1.toList)=true then dn (5)else if(ByteArray.toList (if 1=0 then⟨#[43]⟩else⟨#[45]⟩)==x.2.2.1.toList)=true then dn (5)else dn (6)
theorem n_RLevel{β:Type}(x)(dn:g_RLevel→Option β):t_RLevel x dn=(t_RLevel x some).bind dn:=by
 unfold t_RLevel
 repeat' first|exact n0|refine n1 fun _=>?_|refine n2 ?_ ?_|refine n3 (fun _=>?_) fun _=>?_|rfl
theorem r_RLevel(x):callK E5 (callG E5 20) (loU E5 (callG E5 20) [0] lo0 20) 44 (A_RLevel x).1 (A_RLevel x).2 K=t_RLevel x (fun z=>some (.c (R_RLevel z))):=by kernel_rfl
noncomputable def RLevel(q:Nat)(x:a_RLevel):Option g_RLevel:=t_RLevel x some
theorem sc_RLevel(q:Nat):Lw E5 44 A_RLevel R_RLevel (RLevel q):=sof hW5 hX5 (sound_G hW5 hX5 20).1 (fun _=>(loU_sound (sound_G hW5 hX5 20).1 hX5 lo0_sound 20)) fun x=>(r_RLevel x).trans (by rw[n_RLevel]<;>rfl)
abbrev a_RExpr:Type:=Int×Int×ByteArray×Nat×FL
abbrev g_RExpr:Type:=ByteArray
def A_RExpr:AR a_RExpr:=fun x=>([.agg [i64 x.1,i64 x.2.1,st x.2.2.1,.ro 4 x.2.2.2.1 x.2.2.2.2]],[])
def d_RExpr(t:TT):a_RExpr:=((vI (ca t 0 0)),vI (ca t 0 1),vS (ca t 0 2),vRoN (ca t 0 3),vRoF (ca t 0 3))
theorem v_RExpr:VI A_RExpr:=vd d_RExpr fun _=>rfl
def R_RExpr:g_RExpr→CRes:=fun z=>.ret (st z) []
abbrev a_ROperand:Type:=Int×Int×ByteArray×Nat×FL×Int
abbrev g_ROperand:Type:=ByteArray
def A_ROperand:AR a_ROperand:=fun x=>([.agg [i64 x.1,i64 x.2.1,st x.2.2.1,.ro 4 x.2.2.2.1 x.2.2.2.2.1],i64 x.2.2.2.2.2],[])
def d_ROperand(t:TT):a_ROperand:=((vI (ca t 0 0)),vI (ca t 0 1),vS (ca t 0 2),vRoN (ca t 0 3),vRoF (ca t 0 3),vI (ag t 1))
theorem v_ROperand:VI A_ROperand:=vd d_ROperand fun _=>rfl
def R_ROperand:g_ROperand→CRes:=fun z=>.ret (st z) []
abbrev a_ROperandR:Type:=Int×Int×ByteArray×Nat×FL×Int
abbrev g_ROperandR:Type:=ByteArray
def A_ROperandR:AR a_ROperandR:=fun x=>([.agg [i64 x.1,i64 x.2.1,st x.2.2.1,.ro 4 x.2.2.2.1 x.2.2.2.2.1],i64 x.2.2.2.2.2],[])
def R_ROperandR:g_ROperandR→CRes:=fun z=>.ret (st z) []
abbrev a_RExprN:Type:=Int×Int×ByteArray×Nat×FI×FI×FS×FN×FM
abbrev g_RExprN:Type:=ByteArray
def A_RExprN:AR a_RExprN:=fun x=>([.agg [i64 x.1,i64 x.2.1,st x.2.2.1,.ro 4 x.2.2.2.1 (fun j=>[i64 (x.2.2.2.2.1 j),i64 (x.2.2.2.2.2.1 j),st (x.2.2.2.2.2.2.1 j),.ro 4 (x.2.2.2.2.2.2.2.1 j) (x.2.2.2.2.2.2.2.2 j)])]],[])
def R_RExprN:g_RExprN→CRes:=fun z=>.ret (st z) []
def t_ROperandR{β:Type}(c_RLevel:a_RLevel→Option g_RLevel)(c_RExpr:a_RExpr→Option g_RExpr)(x:a_ROperandR)(dn:g_ROperandR→Option β):Option β:=
 (c_RLevel (x.1,x.2.1,x.2.2.1,x.2.2.2.1,x.2.2.2.2.1)).bind fun z5=>if decide (z5<x.2.2.2.2.2)=true then(c_RExpr (x.1,x.2.1,x.2.2.1,x.2.2.2.1,x.2.2.2.2.1)).bind fun z11=>if 1+z11.size≤maxLen then if ByteArray.size (⟨#[40]⟩++z11)+1≤maxLen then dn (⟨#[40]⟩++z11++⟨#[41]⟩)else none else none else(c_RExpr (x.1,x.2.1,x.2.2.1,x.2.2.2.1,x.2.2.2.2.1)).bind fun z17=>dn z17
theorem n_ROperandR{β:Type}(c_RLevel c_RExpr)(x)(dn:g_ROperandR→Option β):t_ROperandR c_RLevel c_RExpr x dn=(t_ROperandR c_RLevel c_RExpr x some).bind dn:=by
 unfold t_ROperandR
 repeat' first|exact n0|refine n1 fun _=>?_|refine n2 ?_ ?_|refine n3 (fun _=>?_) fun _=>?_|rfl
theorem r_ROperandR(c_RLevel c_RExpr)(x):callK E5 (ftb 44 A_RLevel R_RLevel c_RLevel (ftb 17 A_RExpr R_RExpr c_RExpr ca0)) lo0 45 (A_ROperandR x).1 (A_ROperandR x).2 K=t_ROperandR (vf A_RLevel c_RLevel) (vf A_RExpr c_RExpr) x (fun z=>some (.c (R_ROperandR z))):=by kernel_rfl
theorem s_ROperandR(c_RLevel)(h_RLevel:Lw E5 44 A_RLevel R_RLevel c_RLevel)(c_RExpr)(h_RExpr:Lw E5 17 A_RExpr R_RExpr c_RExpr)(q:Nat):Lw E5 45 A_ROperandR R_ROperandR fun x=>t_ROperandR c_RLevel c_RExpr x some:=sof hW5 hX5 (fk h_RLevel (fk h_RExpr ca0_sound)) (fun _=>lo0_sound) fun x=>(r_ROperandR c_RLevel c_RExpr x).trans (by rw[v_RLevel,v_RExpr,n_ROperandR]<;>rfl)
def t_RExprN{β:Type}(c_RLevel:a_RLevel→Option g_RLevel)(c_Decimal:a_Decimal→Option g_Decimal)(c_ROperand:a_ROperand→Option g_ROperand)(x:a_RExprN)(dn:g_RExprN→Option β):Option β:=
 (c_RLevel (x.1,x.2.1,x.2.2.1,x.2.2.2.1,fun j=>[i64 (x.2.2.2.2.1 j),i64 (x.2.2.2.2.2.1 j),st (x.2.2.2.2.2.2.1 j),V.ro 4 (x.2.2.2.2.2.2.2.1 j) (x.2.2.2.2.2.2.2.2 j)])).bind fun z5=>if(x.1==15)=true then if(!x.2.2.1.toList==ByteArray.toList ⟨#[]⟩)=true then(c_Decimal x.2.1).bind fun z7=>if z7.size+1≤maxLen then if ByteArray.size (z7++⟨#[32]⟩)+x.2.2.1.size≤maxLen then dn (z7++⟨#[32]⟩++x.2.2.1)else none else none else(c_Decimal x.2.1).bind fun z9=>dn z9 else if(x.1==16)=true then if(x.2.1==1)=true then dn (⟨#[116,114,117,101]⟩)else dn (⟨#[102,97,108,115,101]⟩)else if(x.1==17)=true then dn x.2.2.1 else if(x.1==18)=true then if 4+x.2.2.1.size≤maxLen then dn (⟨#[116,108,109,46]⟩++x.2.2.1)else none else if(x.1==19)=true then if(0:Int)≤0∧0< ((x.2.2.2.1:Nat):Int)then(c_ROperand (x.2.2.2.2.1 0,x.2.2.2.2.2.1 0,x.2.2.2.2.2.2.1 0,x.2.2.2.2.2.2.2.1 0,x.2.2.2.2.2.2.2.2 0,z5)).bind fun z16=>if x.2.2.1.size+z16.size≤maxLen then dn (x.2.2.1++z16)else none else none else if(z5==4)=true then if(0:Int)≤0∧0< ((x.2.2.2.1:Nat):Int)then(c_ROperand (x.2.2.2.2.1 0,x.2.2.2.2.2.1 0,x.2.2.2.2.2.2.1 0,x.2.2.2.2.2.2.2.1 0,x.2.2.2.2.2.2.2.2 0,5)).bind fun z23=>if z23.size+1≤maxLen then if ByteArray.size (z23++⟨#[32]⟩)+x.2.2.1.size≤maxLen then if ByteArray.size (z23++⟨#[32]⟩++x.2.2.1)+1≤maxLen then if(0:Int)≤1∧1< ((x.2.2.2.1:Nat):Int)then(c_ROperand (x.2.2.2.2.1 1,x.2.2.2.2.2.1 1,x.2.2.2.2.2.2.1 1,x.2.2.2.2.2.2.2.1 1,x.2.2.2.2.2.2.2.2 1,w (z5+1))).bind fun z30=>if ByteArray.size (z23++⟨#[32]⟩++x.2.2.1++⟨#[32]⟩)+z30.size≤maxLen then dn (z23++⟨#[32]⟩++x.2.2.1++⟨#[32]⟩++z30)else none else none else none else none else none else none else if(0:Int)≤0∧0< ((x.2.2.2.1:Nat):Int)then(c_ROperand (x.2.2.2.2.1 0,x.2.2.2.2.2.1 0,x.2.2.2.2.2.2.1 0,x.2.2.2.2.2.2.2.1 0,x.2.2.2.2.2.2.2.2 0,z5)).bind fun z37=>if z37.size+1≤maxLen then if ByteArray.size (z37++⟨#[32]⟩)+x.2.2.1.size≤maxLen then if ByteArray.size (z37++⟨#[32]⟩++x.2.2.1)+1≤maxLen then if(0:Int)≤1∧1< ((x.2.2.2.1:Nat):Int)then(c_ROperand (x.2.2.2.2.1 1,x.2.2.2.2.2.1 1,x.2.2.2.2.2.2.1 1,x.2.2.2.2.2.2.2.1 1,x.2.2.2.2.2.2.2.2 1,w (z5+1))).bind fun z44=>if ByteArray.size (z37++⟨#[32]⟩++x.2.2.1++⟨#[32]⟩)+z44.size≤maxLen then dn (z37++⟨#[32]⟩++x.2.2.1++⟨#[32]⟩++z44)else none else none else none else none else none else none
theorem n_RExprN{β:Type}(c_RLevel c_Decimal c_ROperand)(x)(dn:g_RExprN→Option β):t_RExprN c_RLevel c_Decimal c_ROperand x dn=(t_RExprN c_RLevel c_Decimal c_ROperand x some).bind dn:=by
 unfold t_RExprN
 repeat' first|exact n0|refine n1 fun _=>?_|refine n2 ?_ ?_|refine n3 (fun _=>?_) fun _=>?_|rfl
theorem r_RExprN(c_RLevel c_Decimal c_ROperand)(x):callK E5 (ftb 44 A_RLevel R_RLevel c_RLevel (ftb 31 A_Decimal R_Decimal c_Decimal (ftb 45 A_ROperand R_ROperand c_ROperand ca0))) lo0 17 (A_RExprN x).1 (A_RExprN x).2 K=t_RExprN (vf A_RLevel c_RLevel) (vf A_Decimal c_Decimal) (vf A_ROperand c_ROperand) x (fun z=>some (.c (R_RExprN z))):=by kernel_rfl
theorem s_RExprN(c_RLevel)(h_RLevel:Lw E5 44 A_RLevel R_RLevel c_RLevel)(c_Decimal)(h_Decimal:Lw E5 31 A_Decimal R_Decimal c_Decimal)(c_ROperand)(h_ROperand:Lw E5 45 A_ROperand R_ROperand c_ROperand)(q:Nat):Lw E5 17 A_RExprN R_RExprN fun x=>t_RExprN c_RLevel c_Decimal c_ROperand x some:=sof hW5 hX5 (fk h_RLevel (fk h_Decimal (fk h_ROperand ca0_sound))) (fun _=>lo0_sound) fun x=>(r_RExprN c_RLevel c_Decimal c_ROperand x).trans (by rw[v_RLevel,v_Decimal,v_ROperand,n_RExprN]<;>rfl)
open Classical in
noncomputable def rexE:Nat→(a_RExpr→Option g_RExpr)×(a_ROperand→Option g_ROperand)
 |0=>(fun _=>none,fun _=>none)
 |q+1=>(fun x=>if OpenN x.2.2.2.2 then t_RExprN ((RLevel q)) ((Decimal q)) ((rexE q).2) (x.1,x.2.1,x.2.2.1,x.2.2.2.1,opK x.2.2.2.2,opN x.2.2.2.2,opS x.2.2.2.2,opM x.2.2.2.2,opF x.2.2.2.2) some else none,fun x=>t_ROperandR ((RLevel q)) ((rexE q).1) x some)
theorem rexE_sc:∀q,(∀x z,(rexE q).1 x=some z→SC E5 17 (A_RExpr x).1 (A_RExpr x).2 (R_RExpr z))∧(∀x z,(rexE q).2 x=some z→SC E5 45 (A_ROperand x).1 (A_ROperand x).2 (R_ROperand z)):=by
 intro q
 induction q with
 |zero=>exact⟨(fun x z h=>by cases h),(fun x z h=>by cases h)⟩
 |succ q ih=>
  obtain⟨h1,h2⟩:=ih
  refine⟨fun x z h=>?_,fun x z h=>s_ROperandR ((RLevel q)) (sc_RLevel q) ((rexE q).1) h1 q x z h⟩
  unfold rexE at h
  dsimp only at h
  split at h
  ·rename_i hO
   have this:=s_RExprN ((RLevel q)) (sc_RLevel q) ((Decimal q)) (sc_Decimal q) ((rexE q).2) h2 q (x.1,x.2.1,x.2.2.1,x.2.2.2.1,opK x.2.2.2.2,opN x.2.2.2.2,opS x.2.2.2.2,opM x.2.2.2.2,opF x.2.2.2.2) z h
   unfold A_RExprN at this
   unfold A_RExpr
   simp only at this⊢
   rw[open_eq hO]at this
   exact this
  ·cases h
noncomputable def RExpr(q:Nat):a_RExpr→Option g_RExpr:=(rexE q).1
noncomputable def ROperand(q:Nat):a_ROperand→Option g_ROperand:=(rexE q).2
theorem sc_RExpr(q:Nat):∀x z,RExpr q x=some z→SC E5 17 (A_RExpr x).1 (A_RExpr x).2 (R_RExpr z):=(rexE_sc q).1
end Go.Proofs.YtjfkkokeegpeiaaGreatDoor
/- Expressions, lifted. -/
namespace Go.Proofs.YtjfkkokeegpeiaaGreatDoor
open Go Go.Am Go.Proofs
set_option maxRecDepth 100000
theorem cv_z{f:FuncId}{args:List V}{L H:List (Option Chunk)}{a b:Int}{s:ByteArray}{g:Nat→List V}(h:SC E5 f args L (.ret (.agg [i64 a,i64 b,st s,nilS]) H)):SC E5 f args L (.ret (.agg [i64 a,i64 b,st s,.ro 4 0 g]) H):=
 SC.le h (Le.agg (LeL.cons (Le.refl _) (LeL.cons (Le.refl _) (LeL.cons (Le.refl _) (LeL.cons Le.nil_ro LeL.nil)))))
theorem cv_r{f:FuncId}{args:List V}{L:List (Option Chunk)}{a b pa po:Int}{s:ByteArray}{tn nv np m:Nat}{tf vf pf g:Nat→List V}
 (h:SC E5 f args L (.ret (.agg [i64 a,i64 b,st s,.sl 3 4 0 m]) [some (.blk [.ro 4 tn tf,i64 pa,i64 po,.sl 1 1 0 nv,.sl 2 1 0 np]),some (.row 9 1 nv vf),some (.row 9 1 np pf),some (.row 35 4 m g)])):
 SC E5 f args L (.ret (.agg [i64 a,i64 b,st s,.ro 4 m g]) [some (.blk [.ro 4 tn tf,i64 pa,i64 po,.sl 1 1 0 nv,.sl 2 1 0 np]),some (.row 9 1 nv vf),some (.row 9 1 np pf)]):=by
 have h2:=SC.giveM (L2:=[some (.blk [.ro 4 tn tf,i64 pa,i64 po,.sl 1 1 0 nv,.sl 2 1 0 np]),some (.row 9 1 nv vf),some (.row 9 1 np pf)]) 3 h (by rfl) (by simp[V.bw,V.bw2,V.bw1,hp,V.pure,pureL])
 simpa[V.bw,V.bw2,V.bw1,hp]using h2
theorem cv_k{f:FuncId}{args:List V}{L:List (Option Chunk)}{a b pa po:Int}{s:ByteArray}{tn nv np m:Nat}{tf vf pf g:Nat→List V}
 (h:SC E5 f args L (.ret (.agg [i64 a,i64 b,st s,.sl 3 4 0 m]) [some (.blk [.ro 4 tn tf,i64 pa,i64 po,.sl 1 1 0 nv,.sl 2 1 0 np]),some (.row 9 1 nv vf),some (.row 9 1 np pf),some (.row 35 4 m g)])):
 SC E5 f args L (.ret (.agg [i64 a,i64 b,st s,.ro 4 m g]) [some (.blk [.ro 4 tn tf,i64 pa,i64 po,.sl 1 1 0 nv,.sl 2 1 0 np]),some (.row 9 1 nv vf),some (.row 9 1 np pf)]):=cv_r h
theorem cv_F{f:FuncId}{args:List V}{L:List (Option Chunk)}{a b pa po:Int}{s:ByteArray}{tn nv np m:Nat}{tf vf pf g:Nat→List V}
 (h:SC E5 f args L (.ret (.agg [i64 a,i64 b,st s,.sl 3 4 0 m]) [some (.blk [.ro 4 tn tf,i64 pa,i64 po,.sl 1 1 0 nv,.sl 2 1 0 np]),some (.row 9 1 nv vf),some (.row 9 1 np pf),some (.row 35 4 m g)])):
 SC E5 f args L (.ret (.agg [i64 a,i64 b,st s,.ro 4 m (fun j=>fixC (g j))]) [some (.blk [.ro 4 tn tf,i64 pa,i64 po,.sl 1 1 0 nv,.sl 2 1 0 np]),some (.row 9 1 nv vf),some (.row 9 1 np pf)]):=
 SC.le (cv_r h) (Le.agg (LeL.cons (Le.refl _) (LeL.cons (Le.refl _) (LeL.cons (Le.refl _) (LeL.cons Le.ro_fix LeL.nil)))))
abbrev a_literalR:Type:=SP
abbrev g_literalR:Type:=(Int×Int×ByteArray×SP)⊕(Int×Int)
def A_literalR:AR a_literalR:=fun x=>([.ptr 0 0],(hHP x))
def R_literalR:g_literalR→CRes:=Sum.elim (fun z:Int×Int×ByteArray×SP=>.ret (.agg [i64 z.1,i64 z.2.1,st z.2.2.1,nilS]) (hHP z.2.2.2)) (fun z:Int×Int=>.pan (.ifc 45 (.agg [i64 z.1,i64 z.2])))
def t_literalR{β:Type}(c_number:a_number→Option g_number)(c_next:a_next→Option g_next)(c_Lookup:a_Lookup→Option g_Lookup)(x:a_literalR)(dn:g_literalR→Option β):Option β:=
 (c_number (0,2147483647,x)).bind fun z13=>Sum.elim (fun z13a=>(c_next z13a.2).bind fun z25=>if(z25.1==1)=true then(c_Lookup z25.2.2.1).bind fun z27=>if z27.2.2.2.2.2.2=true then dn (.inl (15,z13a.1,z25.2.2.1,w (z25.2.2.2.2.1+1),z25.2.2.2.2.2))else dn (.inl (15,z13a.1,⟨#[]⟩,z25.2.2.2.2))else dn (.inl (15,z13a.1,⟨#[]⟩,z25.2.2.2.2))) (fun z13b=>dn (.inr z13b)) z13
theorem n_literalR{β:Type}(c_number c_next c_Lookup)(x)(dn:g_literalR→Option β):t_literalR c_number c_next c_Lookup x dn=(t_literalR c_number c_next c_Lookup x some).bind dn:=by
 unfold t_literalR
 repeat' first|exact n0|refine n1 fun _=>?_|refine n2 ?_ ?_|refine n3 (fun _=>?_) fun _=>?_|rfl
theorem r_literalR(c_number c_next c_Lookup)(x):callK E5 (ft2 137 A_number R_number c_number (ftb 22 A_next R_next c_next (ftb 87 A_Lookup R_Lookup c_Lookup ca0))) lo0 138 (A_literalR x).1 (A_literalR x).2 K=t_literalR (vf A_number c_number) (vf A_next c_next) (vf A_Lookup c_Lookup) x (fun z=>some (.c (R_literalR z))):=by kernel_rfl
noncomputable def literalR(q:Nat)(x:a_literalR):Option g_literalR:=t_literalR (number q) (next q) (Lookup q) x some
theorem sc_literalR(q:Nat):Lw E5 138 A_literalR R_literalR (literalR q):=sof hW5 hX5 (fk2 (sc_number q) (fk (sc_next q) (fk (sc_Lookup q) ca0_sound))) (fun _=>lo0_sound) fun x=>(r_literalR (number q) (next q) (Lookup q) x).trans (by rw[v_number,v_next,v_Lookup,n_literalR]<;>rfl)
abbrev a_literal:Type:=SP
abbrev g_literal:Type:=(Int×Int×ByteArray×Nat×FL×SP)⊕(Int×Int)
def A_literal:AR a_literal:=fun x=>([.ptr 0 0],(hHP x))
def d_literal(t:TT):a_literal:=(dHP t.2)
theorem v_literal:VI A_literal:=vd d_literal fun _=>rfl
def R_literal:g_literal→CRes:=Sum.elim (fun z:Int×Int×ByteArray×Nat×FL×SP=>.ret (.agg [i64 z.1,i64 z.2.1,st z.2.2.1,.ro 4 z.2.2.2.1 z.2.2.2.2.1]) (hHP z.2.2.2.2.2)) (fun z:Int×Int=>.pan (.ifc 45 (.agg [i64 z.1,i64 z.2])))
def cv_literal:g_literalR→g_literal:=Sum.elim (fun z=>.inl (z.1,z.2.1,z.2.2.1,0,fun _=>[],z.2.2.2)) (fun z=>.inr z)
theorem cvs_literal{args:List V}{L:List (Option Chunk)}(z:g_literalR)(h:SC E5 138 args L (R_literalR z)):SC E5 138 args L (R_literal (cv_literal z)):=by
 rcases z with z|z
 ·exact cv_z h
 ·exact h
noncomputable def literal(q:Nat)(x:a_literal):Option g_literal:=(literalR q x).map cv_literal
theorem sc_literal(q:Nat):Lw E5 138 A_literal R_literal (literal q):=by
 intro x z h
 obtain⟨y,hy,rfl⟩:=Option.map_eq_some_iff.1 h
 exact cvs_literal y (sc_literalR q x y hy)
abbrev a_expr:Type:=Int×SP
abbrev g_expr:Type:=(Int×Int×ByteArray×Nat×FL×SP)⊕(Int×Int)
def A_expr:AR a_expr:=fun x=>([.ptr 0 0,i64 x.1],(hHP x.2))
def d_expr(t:TT):a_expr:=((vI (ag t 1)),dHP t.2)
theorem v_expr:VI A_expr:=vd d_expr fun _=>rfl
def R_expr:g_expr→CRes:=Sum.elim (fun z:Int×Int×ByteArray×Nat×FL×SP=>.ret (.agg [i64 z.1,i64 z.2.1,st z.2.2.1,.ro 4 z.2.2.2.1 z.2.2.2.2.1]) (hHP z.2.2.2.2.2)) (fun z:Int×Int=>.pan (.ifc 45 (.agg [i64 z.1,i64 z.2])))
abbrev a_unary:Type:=ByteArray×Int×SP
abbrev g_unary:Type:=(Int×Int×ByteArray×Nat×FL×SP)⊕(Int×Int)
def A_unary:AR a_unary:=fun x=>([.ptr 0 0,st x.1,i64 x.2.1],(hHP x.2.2))
def d_unary(t:TT):a_unary:=((vS (ag t 1)),vI (ag t 2),dHP t.2)
theorem v_unary:VI A_unary:=vd d_unary fun _=>rfl
def R_unary:g_unary→CRes:=Sum.elim (fun z:Int×Int×ByteArray×Nat×FL×SP=>.ret (.agg [i64 z.1,i64 z.2.1,st z.2.2.1,.ro 4 z.2.2.2.1 z.2.2.2.2.1]) (hHP z.2.2.2.2.2)) (fun z:Int×Int=>.pan (.ifc 45 (.agg [i64 z.1,i64 z.2])))
abbrev a_primary:Type:=SP
abbrev g_primary:Type:=(Int×Int×ByteArray×Nat×FL×SP)⊕(Int×Int)
def A_primary:AR a_primary:=fun x=>([.ptr 0 0],(hHP x))
def d_primary(t:TT):a_primary:=(dHP t.2)
theorem v_primary:VI A_primary:=vd d_primary fun _=>rfl
def R_primary:g_primary→CRes:=Sum.elim (fun z:Int×Int×ByteArray×Nat×FL×SP=>.ret (.agg [i64 z.1,i64 z.2.1,st z.2.2.1,.ro 4 z.2.2.2.1 z.2.2.2.2.1]) (hHP z.2.2.2.2.2)) (fun z:Int×Int=>.pan (.ifc 45 (.agg [i64 z.1,i64 z.2])))
abbrev a_exprR:Type:=Int×SP
abbrev g_exprR:Type:=(Int×Int×ByteArray×Nat×FL×SP)⊕(Int×Int)⊕(Int×Int×ByteArray×Int×Int×ByteArray×Nat×FL×Int×Int×ByteArray×Nat×FL×SP)
def A_exprR:AR a_exprR:=fun x=>([.ptr 0 0,i64 x.1],(hHP x.2))
def R_exprR:g_exprR→CRes:=Sum.elim (fun z:Int×Int×ByteArray×Nat×FL×SP=>.ret (.agg [i64 z.1,i64 z.2.1,st z.2.2.1,.ro 4 z.2.2.2.1 z.2.2.2.2.1]) (hHP z.2.2.2.2.2)) (Sum.elim (fun z:Int×Int=>.pan (.ifc 45 (.agg [i64 z.1,i64 z.2]))) (fun z:Int×Int×ByteArray×Int×Int×ByteArray×Nat×FL×Int×Int×ByteArray×Nat×FL×SP=>.ret (.agg [i64 z.1,i64 z.2.1,st z.2.2.1,.sl 3 4 0 2]) [some (.blk [.ro 4 z.2.2.2.2.2.2.2.2.2.2.2.2.2.2.2.1 (fun j=>[i64 (z.2.2.2.2.2.2.2.2.2.2.2.2.2.2.2.2.1 j),i64 (z.2.2.2.2.2.2.2.2.2.2.2.2.2.2.2.2.2.1 j),st (z.2.2.2.2.2.2.2.2.2.2.2.2.2.2.2.2.2.2.1 j),i64 (z.2.2.2.2.2.2.2.2.2.2.2.2.2.2.2.2.2.2.2.1 j)]),i64 z.2.2.2.2.2.2.2.2.2.2.2.2.2.1,i64 z.2.2.2.2.2.2.2.2.2.2.2.2.2.2.1,.sl 1 1 0 z.2.2.2.2.2.2.2.2.2.2.2.2.2.2.2.2.2.2.2.2.1,.sl 2 1 0 z.2.2.2.2.2.2.2.2.2.2.2.2.2.2.2.2.2.2.2.2.2.2.1]),some (.row 9 1 z.2.2.2.2.2.2.2.2.2.2.2.2.2.2.2.2.2.2.2.2.1 (fun j=>[st (z.2.2.2.2.2.2.2.2.2.2.2.2.2.2.2.2.2.2.2.2.2.1 j)])),some (.row 9 1 z.2.2.2.2.2.2.2.2.2.2.2.2.2.2.2.2.2.2.2.2.2.2.1 (fun j=>[st (z.2.2.2.2.2.2.2.2.2.2.2.2.2.2.2.2.2.2.2.2.2.2.2 j)])),some (.row 35 4 2 (selL [[i64 z.2.2.2.1,i64 z.2.2.2.2.1,st z.2.2.2.2.2.1,.ro 4 z.2.2.2.2.2.2.1 z.2.2.2.2.2.2.2.1],[i64 z.2.2.2.2.2.2.2.2.1,i64 z.2.2.2.2.2.2.2.2.2.1,st z.2.2.2.2.2.2.2.2.2.2.1,.ro 4 z.2.2.2.2.2.2.2.2.2.2.2.1 z.2.2.2.2.2.2.2.2.2.2.2.2.1]]))]))
abbrev a_unaryR:Type:=ByteArray×Int×SP
abbrev g_unaryR:Type:=(Int×Int×ByteArray×Int×Int×ByteArray×Nat×FL×SP)⊕(Int×Int)
def A_unaryR:AR a_unaryR:=fun x=>([.ptr 0 0,st x.1,i64 x.2.1],(hHP x.2.2))
def R_unaryR:g_unaryR→CRes:=Sum.elim (fun z:Int×Int×ByteArray×Int×Int×ByteArray×Nat×FL×SP=>.ret (.agg [i64 z.1,i64 z.2.1,st z.2.2.1,.sl 3 4 0 1]) [some (.blk [.ro 4 z.2.2.2.2.2.2.2.2.2.2.1 (fun j=>[i64 (z.2.2.2.2.2.2.2.2.2.2.2.1 j),i64 (z.2.2.2.2.2.2.2.2.2.2.2.2.1 j),st (z.2.2.2.2.2.2.2.2.2.2.2.2.2.1 j),i64 (z.2.2.2.2.2.2.2.2.2.2.2.2.2.2.1 j)]),i64 z.2.2.2.2.2.2.2.2.1,i64 z.2.2.2.2.2.2.2.2.2.1,.sl 1 1 0 z.2.2.2.2.2.2.2.2.2.2.2.2.2.2.2.1,.sl 2 1 0 z.2.2.2.2.2.2.2.2.2.2.2.2.2.2.2.2.2.1]),some (.row 9 1 z.2.2.2.2.2.2.2.2.2.2.2.2.2.2.2.1 (fun j=>[st (z.2.2.2.2.2.2.2.2.2.2.2.2.2.2.2.2.1 j)])),some (.row 9 1 z.2.2.2.2.2.2.2.2.2.2.2.2.2.2.2.2.2.1 (fun j=>[st (z.2.2.2.2.2.2.2.2.2.2.2.2.2.2.2.2.2.2 j)])),some (.row 35 4 1 (selL [[i64 z.2.2.2.1,i64 z.2.2.2.2.1,st z.2.2.2.2.2.1,.ro 4 z.2.2.2.2.2.2.1 z.2.2.2.2.2.2.2.1]]))]) (fun z:Int×Int=>.pan (.ifc 45 (.agg [i64 z.1,i64 z.2])))
abbrev a_primaryR:Type:=SP
abbrev g_primaryR:Type:=(Int×Int×ByteArray×Nat×FL×SP)⊕(Int×Int)⊕(Int×Int×ByteArray×SP)
def A_primaryR:AR a_primaryR:=fun x=>([.ptr 0 0],(hHP x))
def R_primaryR:g_primaryR→CRes:=Sum.elim (fun z:Int×Int×ByteArray×Nat×FL×SP=>.ret (.agg [i64 z.1,i64 z.2.1,st z.2.2.1,.ro 4 z.2.2.2.1 z.2.2.2.2.1]) (hHP z.2.2.2.2.2)) (Sum.elim (fun z:Int×Int=>.pan (.ifc 45 (.agg [i64 z.1,i64 z.2]))) (fun z:Int×Int×ByteArray×SP=>.ret (.agg [i64 z.1,i64 z.2.1,st z.2.2.1,nilS]) (hHP z.2.2.2)))
abbrev exprR_l1_a:Type:=(Nat×FI×FI×FS×FI×Int×Int×Nat×Nat×FS×FS×Int×Int×ByteArray×Nat×FL)⊕(Nat×FI×FI×FS×FI×Int×Int×Nat×Nat×FS×FS×ByteArray×Int×Int×ByteArray×Nat×FL×Int×Int×ByteArray×Nat×FL)
abbrev exprR_l1_g:Type:=(Nat×FI×FI×FS×FI×Int×Int×Nat×Nat×FS×FS×ByteArray×Int×Int×ByteArray×Nat×FL×Int×Int×ByteArray×Nat×FL)⊕(Int×Int)⊕(Nat×FI×FI×FS×FI×Int×Int×Nat×Nat×FS×FS×Int×Int×ByteArray×Nat×FL)
def exprR_l1_S0(x:a_exprR)(y:Nat×FI×FI×FS×FI×Int×Int×Nat×Nat×FS×FS×Int×Int×ByteArray×Nat×FL):St:={fr:=[V.ptr 0 0,i64 x.1,V.junk,V.junk,V.ptr 3 0,V.ptr 4 0]++jk 61,H:=hp [some (hPB y),some (hPV y),some (hPQ y),some (Chunk.blk [i64 0,i64 0,st ⟨#[]⟩,nilS]),some (Chunk.blk [i64 y.2.2.2.2.2.2.2.2.2.2.2.1,i64 y.2.2.2.2.2.2.2.2.2.2.2.2.1,st y.2.2.2.2.2.2.2.2.2.2.2.2.2.1,V.ro 4 y.2.2.2.2.2.2.2.2.2.2.2.2.2.2.1 y.2.2.2.2.2.2.2.2.2.2.2.2.2.2.2])],nx:=5,rt:=1,me:=136}
def exprR_l1_d0(s:St):Nat×FI×FI×FS×FI×Int×Int×Nat×Nat×FS×FS×Int×Int×ByteArray×Nat×FL:=((vRoN (cb s 0 0)),dTI (cb s 0 0) 0,dTI (cb s 0 0) 1,dTS (cb s 0 0) 2,dTI (cb s 0 0) 3,vI (cb s 0 1),vI (cb s 0 2),vSlN (cb s 0 3),vSlN (cb s 0 4),dRS (s.H 1) 0,dRS (s.H 2) 0,vI (cb s 4 0),vI (cb s 4 1),vS (cb s 4 2),vRoN (cb s 4 3),vRoF (cb s 4 3))
def exprR_l1_S1(x:a_exprR)(y:Nat×FI×FI×FS×FI×Int×Int×Nat×Nat×FS×FS×ByteArray×Int×Int×ByteArray×Nat×FL×Int×Int×ByteArray×Nat×FL):St:={fr:=[V.ptr 0 0,i64 x.1,V.junk,V.junk,V.ptr 3 0,V.ptr 4 0]++jk 61,H:=hp [some (hPB y),some (hPV y),some (hPQ y),some (Chunk.blk [i64 0,i64 0,st ⟨#[]⟩,nilS]),some (Chunk.blk [i64 20,i64 0,st y.2.2.2.2.2.2.2.2.2.2.2.1,V.sl 5 4 0 2]),some (Chunk.row 35 4 2 (selL [[i64 y.2.2.2.2.2.2.2.2.2.2.2.2.1,i64 y.2.2.2.2.2.2.2.2.2.2.2.2.2.1,st y.2.2.2.2.2.2.2.2.2.2.2.2.2.2.1,V.ro 4 y.2.2.2.2.2.2.2.2.2.2.2.2.2.2.2.1 y.2.2.2.2.2.2.2.2.2.2.2.2.2.2.2.2.1],[i64 y.2.2.2.2.2.2.2.2.2.2.2.2.2.2.2.2.2.1,i64 y.2.2.2.2.2.2.2.2.2.2.2.2.2.2.2.2.2.2.1,st y.2.2.2.2.2.2.2.2.2.2.2.2.2.2.2.2.2.2.2.1,V.ro 4 y.2.2.2.2.2.2.2.2.2.2.2.2.2.2.2.2.2.2.2.2.1 y.2.2.2.2.2.2.2.2.2.2.2.2.2.2.2.2.2.2.2.2.2]]))],nx:=6,rt:=1,me:=136}
def exprR_l1_d1(s:St):Nat×FI×FI×FS×FI×Int×Int×Nat×Nat×FS×FS×ByteArray×Int×Int×ByteArray×Nat×FL×Int×Int×ByteArray×Nat×FL:=((vRoN (cb s 0 0)),dTI (cb s 0 0) 0,dTI (cb s 0 0) 1,dTS (cb s 0 0) 2,dTI (cb s 0 0) 3,vI (cb s 0 1),vI (cb s 0 2),vSlN (cb s 0 3),vSlN (cb s 0 4),dRS (s.H 1) 0,dRS (s.H 2) 0,vS (cb s 4 2),(vI (((chF (s.H 5)) 0).getD 0 .junk)),(vI (((chF (s.H 5)) 0).getD 1 .junk)),(vS (((chF (s.H 5)) 0).getD 2 .junk)),(vRoN (((chF (s.H 5)) 0).getD 3 .junk)),(vRoF (((chF (s.H 5)) 0).getD 3 .junk)),(vI (((chF (s.H 5)) 1).getD 0 .junk)),(vI (((chF (s.H 5)) 1).getD 1 .junk)),(vS (((chF (s.H 5)) 1).getD 2 .junk)),(vRoN (((chF (s.H 5)) 1).getD 3 .junk)),(vRoF (((chF (s.H 5)) 1).getD 3 .junk)))
def exprR_l1_S(x:a_exprR):exprR_l1_a→St:=(Sum.elim (exprR_l1_S0 x) (exprR_l1_S1 x))
def exprR_l1_d(s:St):exprR_l1_a:=(match s.nx==5 with|true=>(.inl (exprR_l1_d0 s)) |false=>(.inr (exprR_l1_d1 s)))
theorem exprR_l1_u(x:a_exprR):VL (exprR_l1_S x):=vl exprR_l1_d (fun y=>by rcases y with y|y<;>rfl)
def exprR_l1_T(x:a_exprR):exprR_l1_g→Ex×St:=(Sum.elim (fun z=>(Ex.exit 1,{fr:=jk 4++[V.ptr 3 0,V.ptr 4 0]++jk 61,H:=hp [some (hPB z),some (hPV z),some (hPQ z),some (Chunk.blk [i64 0,i64 0,st ⟨#[]⟩,nilS]),some (Chunk.blk [i64 20,i64 0,st z.2.2.2.2.2.2.2.2.2.2.2.1,V.sl 5 4 0 2]),some (Chunk.row 35 4 2 (selL [[i64 z.2.2.2.2.2.2.2.2.2.2.2.2.1,i64 z.2.2.2.2.2.2.2.2.2.2.2.2.2.1,st z.2.2.2.2.2.2.2.2.2.2.2.2.2.2.1,V.ro 4 z.2.2.2.2.2.2.2.2.2.2.2.2.2.2.2.1 z.2.2.2.2.2.2.2.2.2.2.2.2.2.2.2.2.1],[i64 z.2.2.2.2.2.2.2.2.2.2.2.2.2.2.2.2.2.1,i64 z.2.2.2.2.2.2.2.2.2.2.2.2.2.2.2.2.2.2.1,st z.2.2.2.2.2.2.2.2.2.2.2.2.2.2.2.2.2.2.2.1,V.ro 4 z.2.2.2.2.2.2.2.2.2.2.2.2.2.2.2.2.2.2.2.2.1 z.2.2.2.2.2.2.2.2.2.2.2.2.2.2.2.2.2.2.2.2.2]]))],nx:=6,rt:=1,me:=136})) (Sum.elim (fun z=>(Ex.panic (V.ifc 45 (V.agg [i64 z.1,i64 z.2])),{fr:=[V.junk]++jk 66,H:=hp [none],nx:=1,rt:=1,me:=136})) (fun z=>(Ex.exit 1,{fr:=jk 4++[V.ptr 3 0,V.ptr 4 0]++jk 61,H:=hp [some (hPB z),some (hPV z),some (hPQ z),some (Chunk.blk [i64 0,i64 0,st ⟨#[]⟩,nilS]),some (Chunk.blk [i64 z.2.2.2.2.2.2.2.2.2.2.2.1,i64 z.2.2.2.2.2.2.2.2.2.2.2.2.1,st z.2.2.2.2.2.2.2.2.2.2.2.2.2.1,V.ro 4 z.2.2.2.2.2.2.2.2.2.2.2.2.2.2.1 z.2.2.2.2.2.2.2.2.2.2.2.2.2.2.2])],nx:=5,rt:=1,me:=136}))))
def exprR_l1_t0{β:Type}(c_is:a_is→Option g_is)(c_unary:a_unary→Option g_unary)(c_primary:a_primary→Option g_primary)(c_expr:a_expr→Option g_expr)(c_next:a_next→Option g_next)(c_levelOf:a_levelOf→Option g_levelOf)(x:a_exprR)(y:Nat×FI×FI×FS×FI×Int×Int×Nat×Nat×FS×FS×Int×Int×ByteArray×Nat×FL)(nx:exprR_l1_a→Option β)(dn:exprR_l1_g→Option β):Option β:=
 (c_next (y.2.2.2.2.2.1,y.2.2.2.2.2.2.1,y.1,y.2.1,y.2.2.1,y.2.2.2.1,y.2.2.2.2.1,y.2.2.2.2.2.2.2.1,y.2.2.2.2.2.2.2.2.2.1,y.2.2.2.2.2.2.2.2.1,y.2.2.2.2.2.2.2.2.2.2.1)).bind fun z765=>(c_levelOf z765.2.2.1).bind fun z767=>if(z767==x.1)=true then(c_next z765.2.2.2.2).bind fun z779=>if(z779.1==3)=true then(c_next z779.2.2.2.2).bind fun z791=>(c_expr (w (x.1+1),w (z791.2.2.2.2.1+1),z791.2.2.2.2.2)).bind fun z804=>Sum.elim (fun z804a=>if(x.1==4)=true then dn (.inl (z804a.2.2.2.2.2.2.2.1,z804a.2.2.2.2.2.2.2.2.1,z804a.2.2.2.2.2.2.2.2.2.1,z804a.2.2.2.2.2.2.2.2.2.2.1,z804a.2.2.2.2.2.2.2.2.2.2.2.1,z804a.2.2.2.2.2.1,z804a.2.2.2.2.2.2.1,z804a.2.2.2.2.2.2.2.2.2.2.2.2.1,z804a.2.2.2.2.2.2.2.2.2.2.2.2.2.2.1,z804a.2.2.2.2.2.2.2.2.2.2.2.2.2.1,z804a.2.2.2.2.2.2.2.2.2.2.2.2.2.2.2,z791.2.2.1,y.2.2.2.2.2.2.2.2.2.2.2.1,y.2.2.2.2.2.2.2.2.2.2.2.2.1,y.2.2.2.2.2.2.2.2.2.2.2.2.2.1,y.2.2.2.2.2.2.2.2.2.2.2.2.2.2.1,y.2.2.2.2.2.2.2.2.2.2.2.2.2.2.2,z804a.1,z804a.2.1,z804a.2.2.1,z804a.2.2.2.1,z804a.2.2.2.2.1))else nx (.inr (z804a.2.2.2.2.2.2.2.1,z804a.2.2.2.2.2.2.2.2.1,z804a.2.2.2.2.2.2.2.2.2.1,z804a.2.2.2.2.2.2.2.2.2.2.1,z804a.2.2.2.2.2.2.2.2.2.2.2.1,z804a.2.2.2.2.2.1,z804a.2.2.2.2.2.2.1,z804a.2.2.2.2.2.2.2.2.2.2.2.2.1,z804a.2.2.2.2.2.2.2.2.2.2.2.2.2.2.1,z804a.2.2.2.2.2.2.2.2.2.2.2.2.2.1,z804a.2.2.2.2.2.2.2.2.2.2.2.2.2.2.2,z791.2.2.1,y.2.2.2.2.2.2.2.2.2.2.2.1,y.2.2.2.2.2.2.2.2.2.2.2.2.1,y.2.2.2.2.2.2.2.2.2.2.2.2.2.1,y.2.2.2.2.2.2.2.2.2.2.2.2.2.2.1,y.2.2.2.2.2.2.2.2.2.2.2.2.2.2.2,z804a.1,z804a.2.1,z804a.2.2.1,z804a.2.2.2.1,z804a.2.2.2.2.1))) (fun z804b=>dn (.inr (.inl z804b))) z804 else dn (.inr (.inr (z779.2.2.2.2.2.2.1,z779.2.2.2.2.2.2.2.1,z779.2.2.2.2.2.2.2.2.1,z779.2.2.2.2.2.2.2.2.2.1,z779.2.2.2.2.2.2.2.2.2.2.1,z779.2.2.2.2.1,z779.2.2.2.2.2.1,z779.2.2.2.2.2.2.2.2.2.2.2.1,z779.2.2.2.2.2.2.2.2.2.2.2.2.2.1,z779.2.2.2.2.2.2.2.2.2.2.2.2.1,z779.2.2.2.2.2.2.2.2.2.2.2.2.2.2,y.2.2.2.2.2.2.2.2.2.2.2)))else dn (.inr (.inr (z765.2.2.2.2.2.2.1,z765.2.2.2.2.2.2.2.1,z765.2.2.2.2.2.2.2.2.1,z765.2.2.2.2.2.2.2.2.2.1,z765.2.2.2.2.2.2.2.2.2.2.1,z765.2.2.2.2.1,z765.2.2.2.2.2.1,z765.2.2.2.2.2.2.2.2.2.2.2.1,z765.2.2.2.2.2.2.2.2.2.2.2.2.2.1,z765.2.2.2.2.2.2.2.2.2.2.2.2.1,z765.2.2.2.2.2.2.2.2.2.2.2.2.2.2,y.2.2.2.2.2.2.2.2.2.2.2)))
theorem exprR_l1_n0{β:Type}(c_is c_unary)(c_primary c_expr)(c_next c_levelOf)(x)(y)(nx:exprR_l1_a→Option β)(dn):exprR_l1_t0 c_is c_unary c_primary c_expr c_next c_levelOf x y nx dn=(exprR_l1_t0 c_is c_unary c_primary c_expr c_next c_levelOf x y (fun y=>some (.inl y)) (fun z=>some (.inr z))).bind fun r=>Sum.elim nx dn r:=by
 unfold exprR_l1_t0
 repeat' first|exact n0|refine n1 fun _=>?_|refine n2 ?_ ?_|refine n3 (fun _=>?_) fun _=>?_|rfl
theorem exprR_l1_r0(c_is c_unary)(c_primary c_expr)(c_next c_levelOf)(x)(y)(lo:LoopT):loopK E5 (ftb 109 A_is R_is c_is (ft2 145 A_unary R_unary c_unary (ft2 146 A_primary R_primary c_primary (ft2 136 A_expr R_expr c_expr (ftb 22 A_next R_next c_next (ftb 78 A_levelOf R_levelOf c_levelOf ca0)))))) lo 1 51 (bodyOf E5 136 1) (exprR_l1_S x (.inl y)) (KCM [(1,48)] 16)=exprR_l1_t0 (vf A_is c_is) (vf A_unary c_unary) (vf A_primary c_primary) (vf A_expr c_expr) (vf A_next c_next) (vf A_levelOf c_levelOf) x y (fun y=>lo 1 51 (bodyOf E5 136 1) (exprR_l1_S x y) (KCM [(1,48)] 16)) (fun z=>some (.l (exprR_l1_T x z).1 (exprR_l1_T x z).2)):=by kernel_rfl
def exprR_l1_t1{β:Type}(c_is:a_is→Option g_is)(c_unary:a_unary→Option g_unary)(c_primary:a_primary→Option g_primary)(c_expr:a_expr→Option g_expr)(c_next:a_next→Option g_next)(c_levelOf:a_levelOf→Option g_levelOf)(x:a_exprR)(y:Nat×FI×FI×FS×FI×Int×Int×Nat×Nat×FS×FS×ByteArray×Int×Int×ByteArray×Nat×FL×Int×Int×ByteArray×Nat×FL)(nx:exprR_l1_a→Option β)(dn:exprR_l1_g→Option β):Option β:=
 (c_next (y.2.2.2.2.2.1,y.2.2.2.2.2.2.1,y.1,y.2.1,y.2.2.1,y.2.2.2.1,y.2.2.2.2.1,y.2.2.2.2.2.2.2.1,y.2.2.2.2.2.2.2.2.2.1,y.2.2.2.2.2.2.2.2.1,y.2.2.2.2.2.2.2.2.2.2.1)).bind fun z818=>(c_levelOf z818.2.2.1).bind fun z820=>if(z820==x.1)=true then(c_next z818.2.2.2.2).bind fun z832=>if(z832.1==3)=true then(c_next z832.2.2.2.2).bind fun z844=>(c_expr (w (x.1+1),w (z844.2.2.2.2.1+1),z844.2.2.2.2.2)).bind fun z857=>Sum.elim (fun z857a=>if(x.1==4)=true then dn (.inl (z857a.2.2.2.2.2.2.2.1,z857a.2.2.2.2.2.2.2.2.1,z857a.2.2.2.2.2.2.2.2.2.1,z857a.2.2.2.2.2.2.2.2.2.2.1,z857a.2.2.2.2.2.2.2.2.2.2.2.1,z857a.2.2.2.2.2.1,z857a.2.2.2.2.2.2.1,z857a.2.2.2.2.2.2.2.2.2.2.2.2.1,z857a.2.2.2.2.2.2.2.2.2.2.2.2.2.2.1,z857a.2.2.2.2.2.2.2.2.2.2.2.2.2.1,z857a.2.2.2.2.2.2.2.2.2.2.2.2.2.2.2,z844.2.2.1,20,0,y.2.2.2.2.2.2.2.2.2.2.2.1,2,fun j=>[i64 (if 0+j=0 then y.2.2.2.2.2.2.2.2.2.2.2.2.1 else y.2.2.2.2.2.2.2.2.2.2.2.2.2.2.2.2.2.1),i64 (if 0+j=0 then y.2.2.2.2.2.2.2.2.2.2.2.2.2.1 else y.2.2.2.2.2.2.2.2.2.2.2.2.2.2.2.2.2.2.1),st (if 0+j=0 then y.2.2.2.2.2.2.2.2.2.2.2.2.2.2.1 else y.2.2.2.2.2.2.2.2.2.2.2.2.2.2.2.2.2.2.2.1),V.ro 4 (if 0+j=0 then y.2.2.2.2.2.2.2.2.2.2.2.2.2.2.2.1 else y.2.2.2.2.2.2.2.2.2.2.2.2.2.2.2.2.2.2.2.2.1) fun j_1=>if 0+j=0 then y.2.2.2.2.2.2.2.2.2.2.2.2.2.2.2.2.1 j_1 else y.2.2.2.2.2.2.2.2.2.2.2.2.2.2.2.2.2.2.2.2.2 j_1],z857a.1,z857a.2.1,z857a.2.2.1,z857a.2.2.2.1,z857a.2.2.2.2.1))else nx (.inr (z857a.2.2.2.2.2.2.2.1,z857a.2.2.2.2.2.2.2.2.1,z857a.2.2.2.2.2.2.2.2.2.1,z857a.2.2.2.2.2.2.2.2.2.2.1,z857a.2.2.2.2.2.2.2.2.2.2.2.1,z857a.2.2.2.2.2.1,z857a.2.2.2.2.2.2.1,z857a.2.2.2.2.2.2.2.2.2.2.2.2.1,z857a.2.2.2.2.2.2.2.2.2.2.2.2.2.2.1,z857a.2.2.2.2.2.2.2.2.2.2.2.2.2.1,z857a.2.2.2.2.2.2.2.2.2.2.2.2.2.2.2,z844.2.2.1,20,0,y.2.2.2.2.2.2.2.2.2.2.2.1,2,fun j=>[i64 (if 0+j=0 then y.2.2.2.2.2.2.2.2.2.2.2.2.1 else y.2.2.2.2.2.2.2.2.2.2.2.2.2.2.2.2.2.1),i64 (if 0+j=0 then y.2.2.2.2.2.2.2.2.2.2.2.2.2.1 else y.2.2.2.2.2.2.2.2.2.2.2.2.2.2.2.2.2.2.1),st (if 0+j=0 then y.2.2.2.2.2.2.2.2.2.2.2.2.2.2.1 else y.2.2.2.2.2.2.2.2.2.2.2.2.2.2.2.2.2.2.2.1),V.ro 4 (if 0+j=0 then y.2.2.2.2.2.2.2.2.2.2.2.2.2.2.2.1 else y.2.2.2.2.2.2.2.2.2.2.2.2.2.2.2.2.2.2.2.2.1) fun j_1=>if 0+j=0 then y.2.2.2.2.2.2.2.2.2.2.2.2.2.2.2.2.1 j_1 else y.2.2.2.2.2.2.2.2.2.2.2.2.2.2.2.2.2.2.2.2.2 j_1],z857a.1,z857a.2.1,z857a.2.2.1,z857a.2.2.2.1,z857a.2.2.2.2.1))) (fun z857b=>dn (.inr (.inl z857b))) z857 else dn (.inl (z832.2.2.2.2.2.2.1,z832.2.2.2.2.2.2.2.1,z832.2.2.2.2.2.2.2.2.1,z832.2.2.2.2.2.2.2.2.2.1,z832.2.2.2.2.2.2.2.2.2.2.1,z832.2.2.2.2.1,z832.2.2.2.2.2.1,z832.2.2.2.2.2.2.2.2.2.2.2.1,z832.2.2.2.2.2.2.2.2.2.2.2.2.2.1,z832.2.2.2.2.2.2.2.2.2.2.2.2.1,z832.2.2.2.2.2.2.2.2.2.2.2.2.2.2,y.2.2.2.2.2.2.2.2.2.2.2))else dn (.inl (z818.2.2.2.2.2.2.1,z818.2.2.2.2.2.2.2.1,z818.2.2.2.2.2.2.2.2.1,z818.2.2.2.2.2.2.2.2.2.1,z818.2.2.2.2.2.2.2.2.2.2.1,z818.2.2.2.2.1,z818.2.2.2.2.2.1,z818.2.2.2.2.2.2.2.2.2.2.2.1,z818.2.2.2.2.2.2.2.2.2.2.2.2.2.1,z818.2.2.2.2.2.2.2.2.2.2.2.2.1,z818.2.2.2.2.2.2.2.2.2.2.2.2.2.2,y.2.2.2.2.2.2.2.2.2.2.2))
theorem exprR_l1_n1{β:Type}(c_is c_unary)(c_primary c_expr)(c_next c_levelOf)(x)(y)(nx:exprR_l1_a→Option β)(dn):exprR_l1_t1 c_is c_unary c_primary c_expr c_next c_levelOf x y nx dn=(exprR_l1_t1 c_is c_unary c_primary c_expr c_next c_levelOf x y (fun y=>some (.inl y)) (fun z=>some (.inr z))).bind fun r=>Sum.elim nx dn r:=by
 unfold exprR_l1_t1
 repeat' first|exact n0|refine n1 fun _=>?_|refine n2 ?_ ?_|refine n3 (fun _=>?_) fun _=>?_|rfl
theorem exprR_l1_r1(c_is c_unary)(c_primary c_expr)(c_next c_levelOf)(x)(y)(lo:LoopT):loopK E5 (ftb 109 A_is R_is c_is (ft2 145 A_unary R_unary c_unary (ft2 146 A_primary R_primary c_primary (ft2 136 A_expr R_expr c_expr (ftb 22 A_next R_next c_next (ftb 78 A_levelOf R_levelOf c_levelOf ca0)))))) lo 1 51 (bodyOf E5 136 1) (exprR_l1_S x (.inr y)) (KCM [(1,48)] 16)=exprR_l1_t1 (vf A_is c_is) (vf A_unary c_unary) (vf A_primary c_primary) (vf A_expr c_expr) (vf A_next c_next) (vf A_levelOf c_levelOf) x y (fun y=>lo 1 51 (bodyOf E5 136 1) (exprR_l1_S x y) (KCM [(1,48)] 16)) (fun z=>some (.l (exprR_l1_T x z).1 (exprR_l1_T x z).2)):=by kernel_rfl
noncomputable def exprR_l1(c_is:a_is→Option g_is)(c_unary:a_unary→Option g_unary)(c_primary:a_primary→Option g_primary)(c_expr:a_expr→Option g_expr)(c_next:a_next→Option g_next)(c_levelOf:a_levelOf→Option g_levelOf)(q:Nat)(x:a_exprR):exprR_l1_a→Option exprR_l1_g:=lpG (Sum.elim (fun y=>exprR_l1_t0 c_is c_unary c_primary c_expr c_next c_levelOf x y (fun y=>some (.inl y)) (fun z=>some (.inr z))) (fun y=>exprR_l1_t1 c_is c_unary c_primary c_expr c_next c_levelOf x y (fun y=>some (.inl y)) (fun z=>some (.inr z)))) q
theorem exprR_l1_s(c_is)(h_is:Lw E5 109 A_is R_is c_is)(c_unary)(h_unary:Lw E5 145 A_unary R_unary c_unary)(c_primary)(h_primary:Lw E5 146 A_primary R_primary c_primary)(c_expr)(h_expr:Lw E5 136 A_expr R_expr c_expr)(c_next)(h_next:Lw E5 22 A_next R_next c_next)(c_levelOf)(h_levelOf:Lw E5 78 A_levelOf R_levelOf c_levelOf)(q:Nat)(x:a_exprR):Ll E5 (bodyOf E5 136 1) (exprR_l1_S x) (exprR_l1_T x) (exprR_l1 c_is c_unary c_primary c_expr c_next c_levelOf q x):=
 slp (fk h_is (fk2 h_unary (fk2 h_primary (fk2 h_expr (fk h_next (fk h_levelOf ca0_sound)))))) hX5 (fun lo y=>by
  rcases y with y|y
  ·exact(exprR_l1_r0 c_is c_unary c_primary c_expr c_next c_levelOf x y lo).trans (by rw[v_is,v_unary,v_primary,v_expr,v_next,v_levelOf];exact exprR_l1_n0 _ _ _ _ _ _ _ _ _ _)
  ·exact(exprR_l1_r1 c_is c_unary c_primary c_expr c_next c_levelOf x y lo).trans (by rw[v_is,v_unary,v_primary,v_expr,v_next,v_levelOf];exact exprR_l1_n1 _ _ _ _ _ _ _ _ _ _)) (fun z=>by rcases z with z|z|z<;>kernel_rfl) q
def t_exprR{β:Type}(c_is:a_is→Option g_is)(c_unary:a_unary→Option g_unary)(c_primary:a_primary→Option g_primary)(c_expr:a_expr→Option g_expr)(c_next:a_next→Option g_next)(c_levelOf:a_levelOf→Option g_levelOf)(l_exprR_l1:exprR_l1_a→Option exprR_l1_g)(x:a_exprR)(dn:g_exprR→Option β):Option β:=
 if(x.1==3)=true then(c_is (⟨#[33]⟩,x.2)).bind fun z12=>if z12.1=true then(c_unary (⟨#[33]⟩,3,z12.2)).bind fun z26=>Sum.elim (fun z26a=>dn (.inl z26a)) (fun z26b=>dn (.inr (.inl z26b))) z26 else if(x.1==7)=true then(c_is (⟨#[45]⟩,z12.2)).bind fun z40=>if z40.1=true then(c_unary (⟨#[45]⟩,7,z40.2)).bind fun z54=>Sum.elim (fun z54a=>dn (.inl z54a)) (fun z54b=>dn (.inr (.inl z54b))) z54 else if(x.1==8)=true then(c_primary z40.2).bind fun z67=>Sum.elim (fun z67a=>dn (.inl z67a)) (fun z67b=>dn (.inr (.inl z67b))) z67 else(c_expr (w (x.1+1),z40.2)).bind fun z81=>Sum.elim (fun z81a=>(l_exprR_l1 (.inl (z81a.2.2.2.2.2.2.2.1,z81a.2.2.2.2.2.2.2.2.1,z81a.2.2.2.2.2.2.2.2.2.1,z81a.2.2.2.2.2.2.2.2.2.2.1,z81a.2.2.2.2.2.2.2.2.2.2.2.1,z81a.2.2.2.2.2.1,z81a.2.2.2.2.2.2.1,z81a.2.2.2.2.2.2.2.2.2.2.2.2.1,z81a.2.2.2.2.2.2.2.2.2.2.2.2.2.2.1,z81a.2.2.2.2.2.2.2.2.2.2.2.2.2.1,z81a.2.2.2.2.2.2.2.2.2.2.2.2.2.2.2,z81a.1,z81a.2.1,z81a.2.2.1,z81a.2.2.2.1,z81a.2.2.2.2.1))).bind fun z577=>Sum.elim (fun z577a=>dn (.inr (.inr (20,0,z577a.2.2.2.2.2.2.2.2.2.2.2.1,z577a.2.2.2.2.2.2.2.2.2.2.2.2.1,z577a.2.2.2.2.2.2.2.2.2.2.2.2.2.1,z577a.2.2.2.2.2.2.2.2.2.2.2.2.2.2.1,z577a.2.2.2.2.2.2.2.2.2.2.2.2.2.2.2.1,z577a.2.2.2.2.2.2.2.2.2.2.2.2.2.2.2.2.1,z577a.2.2.2.2.2.2.2.2.2.2.2.2.2.2.2.2.2.1,z577a.2.2.2.2.2.2.2.2.2.2.2.2.2.2.2.2.2.2.1,z577a.2.2.2.2.2.2.2.2.2.2.2.2.2.2.2.2.2.2.2.1,z577a.2.2.2.2.2.2.2.2.2.2.2.2.2.2.2.2.2.2.2.2.1,z577a.2.2.2.2.2.2.2.2.2.2.2.2.2.2.2.2.2.2.2.2.2,z577a.2.2.2.2.2.1,z577a.2.2.2.2.2.2.1,z577a.1,z577a.2.1,z577a.2.2.1,z577a.2.2.2.1,z577a.2.2.2.2.1,z577a.2.2.2.2.2.2.2.1,z577a.2.2.2.2.2.2.2.2.2.1,z577a.2.2.2.2.2.2.2.2.1,z577a.2.2.2.2.2.2.2.2.2.2.1)))) (fun z577b=>Sum.elim (fun z577ba=>dn (.inr (.inl z577ba))) (fun z577bb=>dn (.inl (z577bb.2.2.2.2.2.2.2.2.2.2.2.1,z577bb.2.2.2.2.2.2.2.2.2.2.2.2.1,z577bb.2.2.2.2.2.2.2.2.2.2.2.2.2.1,z577bb.2.2.2.2.2.2.2.2.2.2.2.2.2.2.1,z577bb.2.2.2.2.2.2.2.2.2.2.2.2.2.2.2,z577bb.2.2.2.2.2.1,z577bb.2.2.2.2.2.2.1,z577bb.1,z577bb.2.1,z577bb.2.2.1,z577bb.2.2.2.1,z577bb.2.2.2.2.1,z577bb.2.2.2.2.2.2.2.1,z577bb.2.2.2.2.2.2.2.2.2.1,z577bb.2.2.2.2.2.2.2.2.1,z577bb.2.2.2.2.2.2.2.2.2.2.1))) z577b) z577) (fun z81b=>dn (.inr (.inl z81b))) z81 else if(x.1==8)=true then(c_primary z12.2).bind fun z592=>Sum.elim (fun z592a=>dn (.inl z592a)) (fun z592b=>dn (.inr (.inl z592b))) z592 else(c_expr (w (x.1+1),z12.2)).bind fun z606=>Sum.elim (fun z606a=>(l_exprR_l1 (.inl (z606a.2.2.2.2.2.2.2.1,z606a.2.2.2.2.2.2.2.2.1,z606a.2.2.2.2.2.2.2.2.2.1,z606a.2.2.2.2.2.2.2.2.2.2.1,z606a.2.2.2.2.2.2.2.2.2.2.2.1,z606a.2.2.2.2.2.1,z606a.2.2.2.2.2.2.1,z606a.2.2.2.2.2.2.2.2.2.2.2.2.1,z606a.2.2.2.2.2.2.2.2.2.2.2.2.2.2.1,z606a.2.2.2.2.2.2.2.2.2.2.2.2.2.1,z606a.2.2.2.2.2.2.2.2.2.2.2.2.2.2.2,z606a.1,z606a.2.1,z606a.2.2.1,z606a.2.2.2.1,z606a.2.2.2.2.1))).bind fun z607=>Sum.elim (fun z607a=>dn (.inr (.inr (20,0,z607a.2.2.2.2.2.2.2.2.2.2.2.1,z607a.2.2.2.2.2.2.2.2.2.2.2.2.1,z607a.2.2.2.2.2.2.2.2.2.2.2.2.2.1,z607a.2.2.2.2.2.2.2.2.2.2.2.2.2.2.1,z607a.2.2.2.2.2.2.2.2.2.2.2.2.2.2.2.1,z607a.2.2.2.2.2.2.2.2.2.2.2.2.2.2.2.2.1,z607a.2.2.2.2.2.2.2.2.2.2.2.2.2.2.2.2.2.1,z607a.2.2.2.2.2.2.2.2.2.2.2.2.2.2.2.2.2.2.1,z607a.2.2.2.2.2.2.2.2.2.2.2.2.2.2.2.2.2.2.2.1,z607a.2.2.2.2.2.2.2.2.2.2.2.2.2.2.2.2.2.2.2.2.1,z607a.2.2.2.2.2.2.2.2.2.2.2.2.2.2.2.2.2.2.2.2.2,z607a.2.2.2.2.2.1,z607a.2.2.2.2.2.2.1,z607a.1,z607a.2.1,z607a.2.2.1,z607a.2.2.2.1,z607a.2.2.2.2.1,z607a.2.2.2.2.2.2.2.1,z607a.2.2.2.2.2.2.2.2.2.1,z607a.2.2.2.2.2.2.2.2.1,z607a.2.2.2.2.2.2.2.2.2.2.1)))) (fun z607b=>Sum.elim (fun z607ba=>dn (.inr (.inl z607ba))) (fun z607bb=>dn (.inl (z607bb.2.2.2.2.2.2.2.2.2.2.2.1,z607bb.2.2.2.2.2.2.2.2.2.2.2.2.1,z607bb.2.2.2.2.2.2.2.2.2.2.2.2.2.1,z607bb.2.2.2.2.2.2.2.2.2.2.2.2.2.2.1,z607bb.2.2.2.2.2.2.2.2.2.2.2.2.2.2.2,z607bb.2.2.2.2.2.1,z607bb.2.2.2.2.2.2.1,z607bb.1,z607bb.2.1,z607bb.2.2.1,z607bb.2.2.2.1,z607bb.2.2.2.2.1,z607bb.2.2.2.2.2.2.2.1,z607bb.2.2.2.2.2.2.2.2.2.1,z607bb.2.2.2.2.2.2.2.2.1,z607bb.2.2.2.2.2.2.2.2.2.2.1))) z607b) z607) (fun z606b=>dn (.inr (.inl z606b))) z606 else if(x.1==7)=true then(c_is (⟨#[45]⟩,x.2)).bind fun z623=>if z623.1=true then(c_unary (⟨#[45]⟩,7,z623.2)).bind fun z637=>Sum.elim (fun z637a=>dn (.inl z637a)) (fun z637b=>dn (.inr (.inl z637b))) z637 else if(x.1==8)=true then(c_primary z623.2).bind fun z650=>Sum.elim (fun z650a=>dn (.inl z650a)) (fun z650b=>dn (.inr (.inl z650b))) z650 else(c_expr (w (x.1+1),z623.2)).bind fun z664=>Sum.elim (fun z664a=>(l_exprR_l1 (.inl (z664a.2.2.2.2.2.2.2.1,z664a.2.2.2.2.2.2.2.2.1,z664a.2.2.2.2.2.2.2.2.2.1,z664a.2.2.2.2.2.2.2.2.2.2.1,z664a.2.2.2.2.2.2.2.2.2.2.2.1,z664a.2.2.2.2.2.1,z664a.2.2.2.2.2.2.1,z664a.2.2.2.2.2.2.2.2.2.2.2.2.1,z664a.2.2.2.2.2.2.2.2.2.2.2.2.2.2.1,z664a.2.2.2.2.2.2.2.2.2.2.2.2.2.1,z664a.2.2.2.2.2.2.2.2.2.2.2.2.2.2.2,z664a.1,z664a.2.1,z664a.2.2.1,z664a.2.2.2.1,z664a.2.2.2.2.1))).bind fun z665=>Sum.elim (fun z665a=>dn (.inr (.inr (20,0,z665a.2.2.2.2.2.2.2.2.2.2.2.1,z665a.2.2.2.2.2.2.2.2.2.2.2.2.1,z665a.2.2.2.2.2.2.2.2.2.2.2.2.2.1,z665a.2.2.2.2.2.2.2.2.2.2.2.2.2.2.1,z665a.2.2.2.2.2.2.2.2.2.2.2.2.2.2.2.1,z665a.2.2.2.2.2.2.2.2.2.2.2.2.2.2.2.2.1,z665a.2.2.2.2.2.2.2.2.2.2.2.2.2.2.2.2.2.1,z665a.2.2.2.2.2.2.2.2.2.2.2.2.2.2.2.2.2.2.1,z665a.2.2.2.2.2.2.2.2.2.2.2.2.2.2.2.2.2.2.2.1,z665a.2.2.2.2.2.2.2.2.2.2.2.2.2.2.2.2.2.2.2.2.1,z665a.2.2.2.2.2.2.2.2.2.2.2.2.2.2.2.2.2.2.2.2.2,z665a.2.2.2.2.2.1,z665a.2.2.2.2.2.2.1,z665a.1,z665a.2.1,z665a.2.2.1,z665a.2.2.2.1,z665a.2.2.2.2.1,z665a.2.2.2.2.2.2.2.1,z665a.2.2.2.2.2.2.2.2.2.1,z665a.2.2.2.2.2.2.2.2.1,z665a.2.2.2.2.2.2.2.2.2.2.1)))) (fun z665b=>Sum.elim (fun z665ba=>dn (.inr (.inl z665ba))) (fun z665bb=>dn (.inl (z665bb.2.2.2.2.2.2.2.2.2.2.2.1,z665bb.2.2.2.2.2.2.2.2.2.2.2.2.1,z665bb.2.2.2.2.2.2.2.2.2.2.2.2.2.1,z665bb.2.2.2.2.2.2.2.2.2.2.2.2.2.2.1,z665bb.2.2.2.2.2.2.2.2.2.2.2.2.2.2.2,z665bb.2.2.2.2.2.1,z665bb.2.2.2.2.2.2.1,z665bb.1,z665bb.2.1,z665bb.2.2.1,z665bb.2.2.2.1,z665bb.2.2.2.2.1,z665bb.2.2.2.2.2.2.2.1,z665bb.2.2.2.2.2.2.2.2.2.1,z665bb.2.2.2.2.2.2.2.2.1,z665bb.2.2.2.2.2.2.2.2.2.2.1))) z665b) z665) (fun z664b=>dn (.inr (.inl z664b))) z664 else if(x.1==8)=true then(c_primary x.2).bind fun z680=>Sum.elim (fun z680a=>dn (.inl z680a)) (fun z680b=>dn (.inr (.inl z680b))) z680 else(c_expr (w (x.1+1),x.2)).bind fun z694=>Sum.elim (fun z694a=>(l_exprR_l1 (.inl (z694a.2.2.2.2.2.2.2.1,z694a.2.2.2.2.2.2.2.2.1,z694a.2.2.2.2.2.2.2.2.2.1,z694a.2.2.2.2.2.2.2.2.2.2.1,z694a.2.2.2.2.2.2.2.2.2.2.2.1,z694a.2.2.2.2.2.1,z694a.2.2.2.2.2.2.1,z694a.2.2.2.2.2.2.2.2.2.2.2.2.1,z694a.2.2.2.2.2.2.2.2.2.2.2.2.2.2.1,z694a.2.2.2.2.2.2.2.2.2.2.2.2.2.1,z694a.2.2.2.2.2.2.2.2.2.2.2.2.2.2.2,z694a.1,z694a.2.1,z694a.2.2.1,z694a.2.2.2.1,z694a.2.2.2.2.1))).bind fun z695=>Sum.elim (fun z695a=>dn (.inr (.inr (20,0,z695a.2.2.2.2.2.2.2.2.2.2.2.1,z695a.2.2.2.2.2.2.2.2.2.2.2.2.1,z695a.2.2.2.2.2.2.2.2.2.2.2.2.2.1,z695a.2.2.2.2.2.2.2.2.2.2.2.2.2.2.1,z695a.2.2.2.2.2.2.2.2.2.2.2.2.2.2.2.1,z695a.2.2.2.2.2.2.2.2.2.2.2.2.2.2.2.2.1,z695a.2.2.2.2.2.2.2.2.2.2.2.2.2.2.2.2.2.1,z695a.2.2.2.2.2.2.2.2.2.2.2.2.2.2.2.2.2.2.1,z695a.2.2.2.2.2.2.2.2.2.2.2.2.2.2.2.2.2.2.2.1,z695a.2.2.2.2.2.2.2.2.2.2.2.2.2.2.2.2.2.2.2.2.1,z695a.2.2.2.2.2.2.2.2.2.2.2.2.2.2.2.2.2.2.2.2.2,z695a.2.2.2.2.2.1,z695a.2.2.2.2.2.2.1,z695a.1,z695a.2.1,z695a.2.2.1,z695a.2.2.2.1,z695a.2.2.2.2.1,z695a.2.2.2.2.2.2.2.1,z695a.2.2.2.2.2.2.2.2.2.1,z695a.2.2.2.2.2.2.2.2.1,z695a.2.2.2.2.2.2.2.2.2.2.1)))) (fun z695b=>Sum.elim (fun z695ba=>dn (.inr (.inl z695ba))) (fun z695bb=>dn (.inl (z695bb.2.2.2.2.2.2.2.2.2.2.2.1,z695bb.2.2.2.2.2.2.2.2.2.2.2.2.1,z695bb.2.2.2.2.2.2.2.2.2.2.2.2.2.1,z695bb.2.2.2.2.2.2.2.2.2.2.2.2.2.2.1,z695bb.2.2.2.2.2.2.2.2.2.2.2.2.2.2.2,z695bb.2.2.2.2.2.1,z695bb.2.2.2.2.2.2.1,z695bb.1,z695bb.2.1,z695bb.2.2.1,z695bb.2.2.2.1,z695bb.2.2.2.2.1,z695bb.2.2.2.2.2.2.2.1,z695bb.2.2.2.2.2.2.2.2.2.1,z695bb.2.2.2.2.2.2.2.2.1,z695bb.2.2.2.2.2.2.2.2.2.2.1))) z695b) z695) (fun z694b=>dn (.inr (.inl z694b))) z694
theorem n_exprR{β:Type}(c_is c_unary)(c_primary c_expr)(c_next c_levelOf)(l_exprR_l1)(x)(dn:g_exprR→Option β):t_exprR c_is c_unary c_primary c_expr c_next c_levelOf l_exprR_l1 x dn=(t_exprR c_is c_unary c_primary c_expr c_next c_levelOf l_exprR_l1 x some).bind dn:=by
 unfold t_exprR
 repeat' first|exact n0|refine n1 fun _=>?_|refine n2 ?_ ?_|refine n3 (fun _=>?_) fun _=>?_|rfl
theorem r_exprR(c_is c_unary)(c_primary c_expr)(c_next c_levelOf)(l_exprR_l1)(x):callK E5 (ftb 109 A_is R_is c_is (ft2 145 A_unary R_unary c_unary (ft2 146 A_primary R_primary c_primary (ft2 136 A_expr R_expr c_expr (ftb 22 A_next R_next c_next (ftb 78 A_levelOf R_levelOf c_levelOf ca0)))))) (lt3 1 (fun _=>true) (bodyOf E5 136 1) (exprR_l1_S x) (exprR_l1_T x) l_exprR_l1 lo0) 136 (A_exprR x).1 (A_exprR x).2 K=t_exprR (vf A_is c_is) (vf A_unary c_unary) (vf A_primary c_primary) (vf A_expr c_expr) (vf A_next c_next) (vf A_levelOf c_levelOf) (lf (bodyOf E5 136 1) (exprR_l1_S x) l_exprR_l1) x (fun z=>some (.c (R_exprR z))):=by kernel_rfl
theorem s_exprR(c_is)(h_is:Lw E5 109 A_is R_is c_is)(c_unary)(h_unary:Lw E5 145 A_unary R_unary c_unary)(c_primary)(h_primary:Lw E5 146 A_primary R_primary c_primary)(c_expr)(h_expr:Lw E5 136 A_expr R_expr c_expr)(c_next)(h_next:Lw E5 22 A_next R_next c_next)(c_levelOf)(h_levelOf:Lw E5 78 A_levelOf R_levelOf c_levelOf)(q:Nat):Lw E5 136 A_exprR R_exprR fun x=>t_exprR c_is c_unary c_primary c_expr c_next c_levelOf (exprR_l1 c_is c_unary c_primary c_expr c_next c_levelOf q x) x some:=sof hW5 hX5 (fk h_is (fk2 h_unary (fk2 h_primary (fk2 h_expr (fk h_next (fk h_levelOf ca0_sound)))))) (fun x=>(lk3 (exprR_l1_s c_is h_is c_unary h_unary c_primary h_primary c_expr h_expr c_next h_next c_levelOf h_levelOf q x) lo0_sound)) fun x=>(r_exprR c_is c_unary c_primary c_expr c_next c_levelOf (exprR_l1 c_is c_unary c_primary c_expr c_next c_levelOf q x) x).trans (by rw[v_is,v_unary,v_primary,v_expr,v_next,v_levelOf,exprR_l1_u,n_exprR]<;>rfl)
def t_unaryR{β:Type}(c_opens:a_opens→Option g_opens)(c_expr:a_expr→Option g_expr)(x:a_unaryR)(dn:g_unaryR→Option β):Option β:=
 (c_opens (x.1,x.2.2)).bind fun z12=>Sum.elim (fun z12a=>(c_expr (x.2.1,z12a)).bind fun z25=>Sum.elim (fun z25a=>dn (.inl (19,0,x.1,z25a.1,z25a.2.1,z25a.2.2.1,z25a.2.2.2.1,z25a.2.2.2.2.1,z25a.2.2.2.2.2.1,w (z25a.2.2.2.2.2.2.1-1),z25a.2.2.2.2.2.2.2))) (fun z25b=>dn (.inr z25b)) z25) (fun z12b=>dn (.inr z12b)) z12
theorem n_unaryR{β:Type}(c_opens c_expr)(x)(dn:g_unaryR→Option β):t_unaryR c_opens c_expr x dn=(t_unaryR c_opens c_expr x some).bind dn:=by
 unfold t_unaryR
 repeat' first|exact n0|refine n1 fun _=>?_|refine n2 ?_ ?_|refine n3 (fun _=>?_) fun _=>?_|rfl
theorem r_unaryR(c_opens c_expr)(x):callK E5 (ft2 88 A_opens R_opens c_opens (ft2 136 A_expr R_expr c_expr ca0)) lo0 145 (A_unaryR x).1 (A_unaryR x).2 K=t_unaryR (vf A_opens c_opens) (vf A_expr c_expr) x (fun z=>some (.c (R_unaryR z))):=by kernel_rfl
theorem s_unaryR(c_opens)(h_opens:Lw E5 88 A_opens R_opens c_opens)(c_expr)(h_expr:Lw E5 136 A_expr R_expr c_expr)(q:Nat):Lw E5 145 A_unaryR R_unaryR fun x=>t_unaryR c_opens c_expr x some:=sof hW5 hX5 (fk2 h_opens (fk2 h_expr ca0_sound)) (fun _=>lo0_sound) fun x=>(r_unaryR c_opens c_expr x).trans (by rw[v_opens,v_expr,n_unaryR]<;>rfl)
def t_primaryR{β:Type}(c_next:a_next→Option g_next)(c_literal:a_literal→Option g_literal)(c_take:a_take→Option g_take)(c_must:a_must→Option g_must)(c_name:a_name→Option g_name)(c_is:a_is→Option g_is)(c_opens:a_opens→Option g_opens)(c_expr:a_expr→Option g_expr)(x:a_primaryR)(dn:g_primaryR→Option β):Option β:=
 (c_next x).bind fun z11=>if(z11.1==2)=true then(c_literal z11.2.2.2.2).bind fun z23=>Sum.elim (fun z23a=>dn (.inl z23a)) (fun z23b=>dn (.inr (.inl z23b))) z23 else(c_take (⟨#[116,114,117,101]⟩,z11.2.2.2.2)).bind fun z37=>if z37.1=true then dn (.inr (.inr (16,1,⟨#[]⟩,z37.2)))else(c_take (⟨#[102,97,108,115,101]⟩,z37.2)).bind fun z50=>if z50.1=true then dn (.inr (.inr (16,0,⟨#[]⟩,z50.2)))else(c_take (⟨#[116,108,109]⟩,z50.2)).bind fun z63=>if z63.1=true then(c_must (⟨#[46]⟩,z63.2)).bind fun z76=>Sum.elim (fun z76a=>(c_name z76a).bind fun z88=>Sum.elim (fun z88a=>dn (.inr (.inr (18,0,z88a)))) (fun z88b=>dn (.inr (.inl z88b))) z88) (fun z76b=>dn (.inr (.inl z76b))) z76 else(c_is (⟨#[40]⟩,z63.2)).bind fun z103=>if z103.1=true then(c_opens (⟨#[40]⟩,z103.2)).bind fun z116=>Sum.elim (fun z116a=>(c_expr (1,z116a)).bind fun z129=>Sum.elim (fun z129a=>(c_must (⟨#[41]⟩,z129a.2.2.2.2.2)).bind fun z142=>Sum.elim (fun z142a=>dn (.inl (z129a.1,z129a.2.1,z129a.2.2.1,z129a.2.2.2.1,z129a.2.2.2.2.1,z142a.1,w (z142a.2.1-1),z142a.2.2))) (fun z142b=>dn (.inr (.inl z142b))) z142) (fun z129b=>dn (.inr (.inl z129b))) z129) (fun z116b=>dn (.inr (.inl z116b))) z116 else(c_name z103.2).bind fun z157=>Sum.elim (fun z157a=>dn (.inr (.inr (17,0,z157a)))) (fun z157b=>dn (.inr (.inl z157b))) z157
theorem n_primaryR{β:Type}(c_next c_literal)(c_take c_must)(c_name c_is)(c_opens c_expr)(x)(dn:g_primaryR→Option β):t_primaryR c_next c_literal c_take c_must c_name c_is c_opens c_expr x dn=(t_primaryR c_next c_literal c_take c_must c_name c_is c_opens c_expr x some).bind dn:=by
 unfold t_primaryR
 repeat' first|exact n0|refine n1 fun _=>?_|refine n2 ?_ ?_|refine n3 (fun _=>?_) fun _=>?_|rfl
theorem r_primaryR(c_next c_literal)(c_take c_must)(c_name c_is)(c_opens c_expr)(x):callK E5 (ftb 22 A_next R_next c_next (ft2 138 A_literal R_literal c_literal (ftb 84 A_take R_take c_take (ft2 53 A_must R_must c_must (ft2 54 A_name R_name c_name (ftb 109 A_is R_is c_is (ft2 88 A_opens R_opens c_opens (ft2 136 A_expr R_expr c_expr ca0)))))))) lo0 146 (A_primaryR x).1 (A_primaryR x).2 K=t_primaryR (vf A_next c_next) (vf A_literal c_literal) (vf A_take c_take) (vf A_must c_must) (vf A_name c_name) (vf A_is c_is) (vf A_opens c_opens) (vf A_expr c_expr) x (fun z=>some (.c (R_primaryR z))):=by kernel_rfl
theorem s_primaryR(c_next)(h_next:Lw E5 22 A_next R_next c_next)(c_literal)(h_literal:Lw E5 138 A_literal R_literal c_literal)(c_take)(h_take:Lw E5 84 A_take R_take c_take)(c_must)(h_must:Lw E5 53 A_must R_must c_must)(c_name)(h_name:Lw E5 54 A_name R_name c_name)(c_is)(h_is:Lw E5 109 A_is R_is c_is)(c_opens)(h_opens:Lw E5 88 A_opens R_opens c_opens)(c_expr)(h_expr:Lw E5 136 A_expr R_expr c_expr)(q:Nat):Lw E5 146 A_primaryR R_primaryR fun x=>t_primaryR c_next c_literal c_take c_must c_name c_is c_opens c_expr x some:=sof hW5 hX5 (fk h_next (fk2 h_literal (fk h_take (fk2 h_must (fk2 h_name (fk h_is (fk2 h_opens (fk2 h_expr ca0_sound)))))))) (fun _=>lo0_sound) fun x=>(r_primaryR c_next c_literal c_take c_must c_name c_is c_opens c_expr x).trans (by rw[v_next,v_literal,v_take,v_must,v_name,v_is,v_opens,v_expr,n_primaryR]<;>rfl)
def cv_expr:g_exprR→g_expr:=Sum.elim (fun z=>.inl z) (Sum.elim (fun z=>.inr z) (fun z=>.inl (z.1,z.2.1,z.2.2.1,2,selL [[i64 z.2.2.2.1,i64 z.2.2.2.2.1,st z.2.2.2.2.2.1,.ro 4 z.2.2.2.2.2.2.1 z.2.2.2.2.2.2.2.1],[i64 z.2.2.2.2.2.2.2.2.1,i64 z.2.2.2.2.2.2.2.2.2.1,st z.2.2.2.2.2.2.2.2.2.2.1,.ro 4 z.2.2.2.2.2.2.2.2.2.2.2.1 z.2.2.2.2.2.2.2.2.2.2.2.2.1]],z.2.2.2.2.2.2.2.2.2.2.2.2.2)))
theorem cvs_expr{args:List V}{L:List (Option Chunk)}(z:g_exprR)(h:SC E5 136 args L (R_exprR z)):SC E5 136 args L (R_expr (cv_expr z)):=by
 rcases z with z|z|z
 ·exact h
 ·exact h
 ·exact cv_k h
def cv_unary:g_unaryR→g_unary:=Sum.elim (fun z=>.inl (z.1,z.2.1,z.2.2.1,1,selL [[i64 z.2.2.2.1,i64 z.2.2.2.2.1,st z.2.2.2.2.2.1,.ro 4 z.2.2.2.2.2.2.1 z.2.2.2.2.2.2.2.1]],z.2.2.2.2.2.2.2.2)) (fun z=>.inr z)
theorem cvs_unary{args:List V}{L:List (Option Chunk)}(z:g_unaryR)(h:SC E5 145 args L (R_unaryR z)):SC E5 145 args L (R_unary (cv_unary z)):=by
 rcases z with z|z
 ·exact cv_k h
 ·exact h
def cv_primary:g_primaryR→g_primary:=Sum.elim (fun z=>.inl z) (Sum.elim (fun z=>.inr z) (fun z=>.inl (z.1,z.2.1,z.2.2.1,0,fun _=>[],z.2.2.2)))
theorem cvs_primary{args:List V}{L:List (Option Chunk)}(z:g_primaryR)(h:SC E5 146 args L (R_primaryR z)):SC E5 146 args L (R_primary (cv_primary z)):=by
 rcases z with z|z|z
 ·exact h
 ·exact h
 ·exact cv_z h
noncomputable def exS:Nat→(a_expr→Option g_expr)×(a_unary→Option g_unary)×(a_primary→Option g_primary)
 |0=>(fun _=>none,fun _=>none,fun _=>none)
 |q+1=>(fun x=>(t_exprR ((is q)) ((exS q).2.1) ((exS q).2.2) ((exS q).1) ((next q)) ((levelOf q)) (exprR_l1 ((is q)) ((exS q).2.1) ((exS q).2.2) ((exS q).1) ((next q)) ((levelOf q)) q x) x some).map cv_expr,
  fun x=>(t_unaryR ((opens q)) ((exS q).1) x some).map cv_unary,
  fun x=>(t_primaryR ((next q)) ((literal q)) ((take q)) ((must q)) ((name q)) ((is q)) ((opens q)) ((exS q).1) x some).map cv_primary)
theorem exS_sc:∀q,(∀x z,(exS q).1 x=some z→SC E5 136 (A_expr x).1 (A_expr x).2 (R_expr z))∧(∀x z,(exS q).2.1 x=some z→SC E5 145 (A_unary x).1 (A_unary x).2 (R_unary z))∧(∀x z,(exS q).2.2 x=some z→SC E5 146 (A_primary x).1 (A_primary x).2 (R_primary z))
 |0=>⟨(fun x z h=>by cases h),(fun x z h=>by cases h),(fun x z h=>by cases h)⟩
 |q+1=>by
  obtain⟨h0,h1,h2⟩:=exS_sc q
  exact⟨(fun x z h=>by
   obtain⟨y,hy,rfl⟩:=Option.map_eq_some_iff.1 h
   exact cvs_expr y (s_exprR ((is q)) ((sc_is q)) ((exS q).2.1) (h1) ((exS q).2.2) (h2) ((exS q).1) (h0) ((next q)) ((sc_next q)) ((levelOf q)) ((sc_levelOf q)) q x y hy)),(fun x z h=>by
   obtain⟨y,hy,rfl⟩:=Option.map_eq_some_iff.1 h
   exact cvs_unary y (s_unaryR ((opens q)) ((sc_opens q)) ((exS q).1) (h0) q x y hy)),(fun x z h=>by
   obtain⟨y,hy,rfl⟩:=Option.map_eq_some_iff.1 h
   exact cvs_primary y (s_primaryR ((next q)) ((sc_next q)) ((literal q)) ((sc_literal q)) ((take q)) ((sc_take q)) ((must q)) ((sc_must q)) ((name q)) ((sc_name q)) ((is q)) ((sc_is q)) ((opens q)) ((sc_opens q)) ((exS q).1) (h0) q x y hy))⟩
noncomputable def expr(q:Nat):a_expr→Option g_expr:=(exS q).1
theorem sc_expr(q:Nat):Lw E5 136 A_expr R_expr (expr q):=(exS_sc q).1
noncomputable def unary(q:Nat):a_unary→Option g_unary:=(exS q).2.1
noncomputable def primary(q:Nat):a_primary→Option g_primary:=(exS q).2.2
end Go.Proofs.YtjfkkokeegpeiaaGreatDoor
/- Plain laws on bytes: what a range over a string meets. -/
namespace Go.Proofs.Lx
open Go
def spanL(g:Int→Bool)(l:List UInt8):Nat:=(l.takeWhile (fun b=>g b.toNat)).length
def Flat(g:Int→Bool):Prop:=∀c:Int,128≤c→g c=g 128
theorem at_more(s:ByteArray)(p n:Nat)(h:p<s.size)(hn:1≤n)(hc:∀k,1≤k→k<n→p+k<s.size∧128≤(s.get! (p+k)).toNat):
 1≤n∧p+n≤s.size∧∀j,p<j→j<p+n→128≤(s.get! j).toNat:=by
 refine⟨hn,?_,fun j h1 h2=>?_⟩
 ·rcases Nat.lt_or_ge 1 n with hl|hl
  ·have:=(hc (n-1) (by omega) (by omega)).1
   omega
  ·omega
 ·have:=(hc (j-p) (by omega) (by omega)).2
  rwa [show p+(j-p)=j by omega]at this
theorem decode_len (s : ByteArray) (p : Nat) (h : p < s.size) :
    1 ≤ (Utf8.decode s p).2 ∧ p + (Utf8.decode s p).2 ≤ s.size ∧ ∀ j, p < j → j < p + (Utf8.decode s p).2 → 128 ≤ (s.get! j).toNat := by
  have hc : ∀ k, (decide (p + k < s.size) && ((s.get! (p + k)).toNat / 64 == 2)) = true → p + k < s.size ∧ 128 ≤ (s.get! (p + k)).toNat := by
    intro k hk
    simp at hk
    omega
  have one := at_more s p 1 h (by omega) (fun k h1 h2 => by omega)
  simp only [Utf8.decode]
  split
  · exact one
  · split
    · rename_i hx
      rw [Bool.and_eq_true] at hx
      have h1 := hc 1 hx.2
      split
      · exact at_more s p 2 h (by omega) (fun k hk1 hk2 => by obtain rfl : k = 1 := by omega
                                                              exact h1)
      · exact one
    · split
      · rename_i hx
        rw [Bool.and_eq_true, Bool.and_eq_true] at hx
        have h1 := hc 1 hx.1.2
        have h2 := hc 2 hx.2
        split
        · refine at_more s p 3 h (by omega) (fun k hk1 hk2 => ?_)
          have : k = 1 ∨ k = 2 := by omega
          rcases this with rfl | rfl
          · exact h1
          · exact h2
        · exact one
      · split
        · rename_i hx
          rw [Bool.and_eq_true, Bool.and_eq_true, Bool.and_eq_true] at hx
          have h1 := hc 1 hx.1.1.2
          have h2 := hc 2 hx.1.2
          have h3 := hc 3 hx.2
          split
          · refine at_more s p 4 h (by omega) (fun k hk1 hk2 => ?_)
            have : k = 1 ∨ k = 2 ∨ k = 3 := by omega
            rcases this with rfl | rfl | rfl
            · exact h1
            · exact h2
            · exact h3
          · exact one
        · exact one
theorem get_list(s:ByteArray)(p:Nat)(h:p<s.size):s.data.toList[p]? =some (s.get! p):=by
 rw[List.getElem?_eq_getElem (by simpa using h)]
 congr 1
 have:=get_at s p h
 simp only[Nat.add_zero]at this
 rw[this]
 rfl
theorem decode_g(s:ByteArray)(g:Int→Bool)(hf:Flat g)(p:Nat)(h:p<s.size):g ((Utf8.decode s p).1:Int)=g ((s.get! p).toNat:Int):=by
 have e:=get_at s p h
 simp only[Nat.add_zero]at e
 by_cases ha:(s.get! p).toNat<128
 ·rw[decode_ascii s p h (by rw[←e];exact ha),←e]
 ·have hh:=(decode_high s p h (by rw[←e];omega)).1
  rw[hf _ (by omega),hf ((s.get! p).toNat:Int) (by omega)]
theorem drop_get(s:ByteArray)(p:Nat)(h:p<s.size):s.data.toList.drop p=s.get! p::s.data.toList.drop (p+1):=by
 have hg:=get_list s p h
 rw[List.getElem?_eq_some_iff]at hg
 obtain⟨hl,he⟩:=hg
 rw[List.drop_eq_getElem_cons hl,he]
theorem span_stop(s:ByteArray)(g:Int→Bool)(p:Nat)(h:p<s.size)(hg:g ((s.get! p).toNat:Int)=false):spanL g (s.data.toList.drop p)=0:=by
 rw[drop_get s p h]
 simp[spanL,hg]
theorem span_more(s:ByteArray)(g:Int→Bool)(n:Nat):∀p,p+n≤s.size→(∀j,p≤j→j<p+n→g ((s.get! j).toNat:Int)=true)→spanL g (s.data.toList.drop p)=n+spanL g (s.data.toList.drop (p+n)):=by
 induction n with
 |zero=>intro p _ _;simp
 |succ n ih=>
  intro p h hg
  have h0:=hg p (by omega) (by omega)
  rw[drop_get s p (by omega)]
  have:=ih (p+1) (by omega) (fun j h1 h2=>hg j (by omega) (by omega))
  have e:p+(n+1)=p+1+n:=by omega
  rw[e,spanL,List.takeWhile_cons,h0]
  simp only[if_true,List.length_cons]
  unfold spanL at this
  unfold spanL
  omega
theorem span_end(s:ByteArray)(g:Int→Bool):spanL g (s.data.toList.drop s.size)=0:=by
 rw[List.drop_of_length_le (by simp)];rfl
theorem span_step(s:ByteArray)(g:Int→Bool)(hf:Flat g)(p:Nat)(h:p<s.size)(hg:g ((Utf8.decode s p).1:Int)=true):
 spanL g (s.data.toList.drop p)=(Utf8.decode s p).2+spanL g (s.data.toList.drop (p+(Utf8.decode s p).2)):=by
 obtain⟨h1,h2,h3⟩:=decode_len s p h
 refine span_more s g _ p h2 fun j hj1 hj2=>?_
 rw[decode_g s g hf p h]at hg
 rcases Nat.eq_or_lt_of_le hj1 with rfl|hlt
 ·exact hg
 ·have hb:=h3 j hlt hj2
  have hcont:1< (Utf8.decode s p).2:=by omega
  have hhi:128≤(s.get! p).toNat:=by
   rcases Nat.lt_or_ge (s.get! p).toNat 128 with hl|hl
   ·have e:=get_at s p h
    simp only[Nat.add_zero]at e
    rw[decode_ascii s p h (by rw[←e];exact hl)]at hcont
    simp at hcont
   ·exact hl
  rw[hf _ (by omega)]at hg⊢
  exact hg
end Go.Proofs.Lx
/- Plain: which symbol a string begins with. -/
namespace Go.Proofs.Lx
open Go
theorem extract_list(r:ByteArray)(a b:Nat):(r.extract a b).data.toList=(r.data.toList.drop a).take (b-a):=by
 simp[ByteArray.data_extract,List.extract_eq_take_drop]
def sym1:List UInt8:=[123,125,40,41,61,59,44,58,60,62,43,45,42,47,33,46]
def sym2:List (List UInt8):=[[124,124],[38,38],[60,61],[62,61],[61,61],[33,61]]
def symN(l:List UInt8):Nat:=
 if 1<l.length∧l.take 2∈sym2 then 2 else cond ((l.head?).any (fun b=>sym1.contains b)) 1 0
theorem idx_mem(l:List UInt8)(c:UInt8):l.contains c=true↔0≤Lib.indexByte l c:=by
 induction l with
 |nil=>simp[Lib.indexByte]
 |cons b l ih=>
  have hg:=Lib.indexByte_ge l c
  have e:Lib.indexByte (b::l) c=if b==c then 0 else if Lib.indexByte l c== -1 then-1 else Lib.indexByte l c+1:=rfl
  rw[e,List.contains_cons,Bool.or_eq_true,ih]
  by_cases hb:b=c
  ·subst hb;simp
  ·have hb':(b==c)=false:=by simpa using hb
   have hc':¬((c==b)=true):=by simpa using fun h=>hb h.symm
   simp only[hb',Bool.false_eq_true,if_false,hc',false_or]
   by_cases hm:Lib.indexByte l c= -1
   ·simp[hm]
   ·have:(Lib.indexByte l c== -1)=false:=by simpa using hm
    simp only[this,Bool.false_eq_true,if_false]
    omega
theorem symN_two{r t:ByteArray}(h1:1<r.size)(ht:t=r.extract 0 2)(hm:t.data.toList∈sym2):symN r.data.toList=2:=by
 rw[ht,extract_list]at hm
 simp only[List.drop_zero]at hm
 unfold symN
 rw[if_pos ⟨by simpa using h1,hm⟩]
theorem symN_one{r:ByteArray}(h0:0<r.size)(hm:¬(1<r.data.toList.length∧r.data.toList.take 2∈sym2)):symN r.data.toList=if(0:Int)≤Lib.indexByte sym1 r[0]then 1 else 0:=by
 have hg:=drop_get r 0 h0
 have e:=get_at r 0 h0
 simp only[Nat.add_zero]at e
 rw[List.drop_zero,e]at hg
 unfold symN
 rw[if_neg hm,hg]
 simp only[List.head?_cons,Option.any_some]
 by_cases h:(0:Int)≤Lib.indexByte sym1 r[0]
 ·rw[if_pos h,(idx_mem _ _).2 h];rfl
 ·rw[if_neg h,Bool.eq_false_iff.2 (fun h'=>h ((idx_mem _ _).1 h'))];rfl
theorem sym2_not{r t:ByteArray}(ht:t=r.extract 0 2)(hm:∀l∈sym2,t≠⟨l.toArray⟩):¬(1<r.data.toList.length∧r.data.toList.take 2∈sym2):=by
 rintro⟨_,h⟩
 refine hm _ h ?_
 rw[ht]
 have:=extract_list r 0 2
 simp only[List.drop_zero]at this
 rw[←this]
end Go.Proofs.Lx
/- Plain: the tokens of a source, as a relation. -/
namespace Go.Proofs.Lx
open Go
structure Tkn where
 k:Int
 a:Int
 t:ByteArray
 n:Int
def Tkn.cells(x:Tkn):List Value:=[.int .i64 x.k,.int .i64 x.a,.string x.t,.int .i64 x.n]
def letterI(c:Int):Bool:=decide (97≤c∧c≤122)||decide (65≤c∧c≤90)
def digitI(c:Int):Bool:=decide (48≤c∧c≤57)
def whiteI(c:Int):Bool:=decide (c=32∨c=9∨c=10∨c=13)
def wordI(c:Int):Bool:=letterI c||digitI c
def noTok:Tkn:=⟨0,0,⟨#[]⟩,0⟩
def valI(n:Int)(l:List UInt8):Int:=l.foldl (fun n b=>10*n+((b.toNat:Int)-48)) n
def wordP(r:ByteArray):Tkn×Int:=if 12<spanL wordI r.data.toList then(noTok,2)else(⟨1,0,r.extract 0 (spanL wordI r.data.toList),0⟩,0)
def numberP(t:ByteArray):Tkn×Int:=
 if 1<t.size∧t.data.toList[0]? =some 48 then(noTok,11)
 else if valI 0 t.data.toList>2147483647 then(noTok,5)
 else(⟨2,0,t,valI 0 t.data.toList⟩,0)
def symbolP(r:ByteArray):Tkn×Int:=if symN r.data.toList=0 then(noTok,11)else(⟨3,0,r.extract 0 (symN r.data.toList),0⟩,0)
def tokP(s:ByteArray)(p:Nat):Tkn×Int:=
 if letterI (s.get! p).toNat then wordP (s.extract p s.size)
 else if digitI (s.get! p).toNat then numberP ((s.extract p s.size).extract 0 (spanL digitI (s.extract p s.size).data.toList))
 else symbolP (s.extract p s.size)
def ne10(c:Int):Bool:= !(c==10)
inductive Lex(s:ByteArray):Nat→List Tkn→List Tkn×Nat×Int→Prop where
 |fin {p:Nat} {acc:List Tkn}:s.size≤p→Lex s p acc (acc++[⟨0,s.size,⟨#[]⟩,0⟩],0,0)
 |white {p:Nat} {acc:List Tkn} {r:List Tkn×Nat×Int}:p<s.size→whiteI (s.get! p).toNat=true→Lex s (p+1) acc r→Lex s p acc r
 |hash {p:Nat} {acc:List Tkn} {r:List Tkn×Nat×Int}:p<s.size→(s.get! p).toNat=35→Lex s (p+spanL ne10 (s.data.toList.drop p)) acc r→Lex s p acc r
 |tok {p:Nat} {acc:List Tkn} {r:List Tkn×Nat×Int} {x:Tkn}:p<s.size→whiteI (s.get! p).toNat=false→(s.get! p).toNat≠35→tokP s p=(x,0)→Lex s (p+x.t.size) (acc++[{x with a:=p}]) r→Lex s p acc r
 |err {p:Nat} {acc:List Tkn} {x:Tkn} {e:Int}:p<s.size→whiteI (s.get! p).toNat=false→(s.get! p).toNat≠35→tokP s p=(x,e)→e≠0→Lex s p acc ([],p,e)
def Bd(s:ByteArray)(p d:Nat):Prop:=(∀j,p≤j→j<d→(s.get! j).toNat<128)∨d=s.size∨(d<s.size∧(s.get! d).toNat<128)
theorem Bd.step{s:ByteArray}{p d:Nat}(h:Bd s p d)(hp:p<d)(hd:d≤s.size):p+(Utf8.decode s p).2≤d∧Bd s (p+(Utf8.decode s p).2) d:=by
 have hl:=decode_len s p (by omega)
 refine⟨?_,?_⟩
 ·rcases h with h|h| ⟨h1,h2⟩
  ·have h0:=h p (Nat.le_refl _) hp
   have e:=get_at s p (by omega)
   simp only[Nat.add_zero]at e
   rw[decode_ascii s p (by omega) (by rw[←e];exact h0)]
   exact hp
  ·omega
  ·rcases Nat.lt_or_ge d (p+(Utf8.decode s p).2)with hlt|hge
   ·have:=hl.2.2 d hp hlt
    omega
   ·exact hge
 ·exact h.imp (fun h j hj1 hj2=>h j (by omega) hj2) id
theorem Bd.refl(s:ByteArray)(p d:Nat)(h:d≤p):Bd s p d:=.inl fun j h1 h2=>by omega
end Go.Proofs.Lx

