/- Texts joined. -/
import Derived.Test.YtjfkkokeegpeiaaGreatDoorQC
import Derived.Test.YtjfkkokeegpeiaaGreatDoorProg
import Derived.Test.YtjfkkokeegpeiaaGreatDoorRows
import Derived.Lib.Strings
import Derived.Lib.ItoaNum
import Derived.Lib.Join
import Derived.Lib.Repeat
import Derived.Lib.LaidTab
import Derived.Lib.AppendIntMem
import Derived.Lib.IndexMore
import Derived.Recover
import Derived.Shelf.Strings.Builder1
import Derived.Shelf.Strings.Builder2
import Derived.Shelf.Strings.OnBuilder
import Derived.Shelf.Small.Strs
import Derived.Shelf.Small.Wraps
import Derived.Shelf.Strings.BuilderF
import Derived.Shelf.Strings.BuilderK
import Derived.Shelf.Strings.Builder2Cap
import Derived.Shelf.Strconv.Itoa0
import Derived.Shelf.Strconv.Itoa1
import Derived.Shelf.LaysM
import Derived.Shelf.Strconv.Itoa2
import Derived.Shelf.Strconv.Itoa3
import Derived.Shelf.Strings.Search1
import Derived.Shelf.Strings.Search2
import Derived.Shelf.Strings.Search3
import Derived.Shelf.Strings.Shaped
import Derived.Shelf.Strings.Prefix
import Derived.Shelf.Bits.Mul64
import Derived.Shelf.Strings.Repeat
import Derived.Shelf.Strings.BuilderCap
import Derived.Test.YtjfkkokeegpeiaaGreatDoorCards
import Derived.Test.YtjfkkokeegpeiaaGreatDoorTie
import Derived.Deep.DeepHandedRow
import Derived.Deep.DeepWitnessRowRef
import Derived.LaidMore
/- The environment of this seat: variables of the packages, library functions by contract. -/
set_option linter.unusedSimpArgs false
set_option linter.unusedVariables false
set_option linter.unusedSimpArgs false
set_option linter.unusedVariables false
namespace Go.Proofs.YtjfkkokeegpeiaaGreatDoor
open Go Go.Am
abbrev i64(n:Int):V:=.sc (.int .i64 n)
abbrev bo(b:Bool):V:=.sc (.bool b)
abbrev st(s:ByteArray):V:=.sc (.string s)
def tabL:List (List V):=[
 [.sc (.string ⟨#[74]⟩),i64 1,i64 1,i64 0,i64 0,i64 0,i64 0],
 [.sc (.string ⟨#[107,74]⟩),i64 1000,i64 1,i64 0,i64 0,i64 0,i64 0],
 [.sc (.string ⟨#[87,104]⟩),i64 3600,i64 1,i64 0,i64 0,i64 0,i64 0],
 [.sc (.string ⟨#[66]⟩),i64 1,i64 0,i64 1,i64 0,i64 0,i64 0],
 [.sc (.string ⟨#[107,66]⟩),i64 1000,i64 0,i64 1,i64 0,i64 0,i64 0],
 [.sc (.string ⟨#[115]⟩),i64 1,i64 0,i64 0,i64 1,i64 0,i64 0],
 [.sc (.string ⟨#[109,105,110]⟩),i64 60,i64 0,i64 0,i64 1,i64 0,i64 0],
 [.sc (.string ⟨#[104]⟩),i64 3600,i64 0,i64 0,i64 1,i64 0,i64 0],
 [.sc (.string ⟨#[100,101,103]⟩),i64 1,i64 0,i64 0,i64 0,i64 1,i64 0],
 [.sc (.string ⟨#[75]⟩),i64 1,i64 0,i64 0,i64 0,i64 0,i64 1],
 [.sc (.string ⟨#[87]⟩),i64 1,i64 1,i64 0,i64 (-1),i64 0,i64 0],
 [.sc (.string ⟨#[107,87]⟩),i64 1000,i64 1,i64 0,i64 (-1),i64 0,i64 0],
 [.sc (.string ⟨#[66,112,115]⟩),i64 1,i64 0,i64 1,i64 (-1),i64 0,i64 0]]
def tabV:V:=.ro 7 13 (fun j=>tabL.getD j [])
def globF:Nat→Option (List V)
 |0=>some [tabV]
 |_=>none
def strL:List (List V)→Option (List ByteArray)
 | []=>some []
 | [.sc (.string s)]::l=>match strL l with|some r=>some (s::r) |none=>none
 |_=>none
def extF(f:FuncId)(args:List V):Option V:=
 if f=110 then match args with
  | [.sc (.string s),.sc (.string sub)]=>if s.size<4294967281 then some (bo (Lib.contains s.data.toList sub.data.toList))else none
  |_=>none
 else if f=83 then match args with
  | [.sc (.string s),.sc (.int .u8 c)]=>some (i64 (Lib.indexByte s.data.toList (UInt8.ofNat c.toNat)))
  |_=>none
 else if f=41 then match args with
  | [.sc (.int .i64 n)]=>if-9223372036854775808≤n∧n≤9223372036854775807 then some (st ⟨(Lib.itoa n).toArray⟩)else none
  |_=>none
 else if f=35 then match args with
  | [.sc (.slice none 0 0),.sc (.string _)]=>some (st ByteArray.empty)
  | [.ro 1 n g,.sc (.string sep)]=>match strL ((List.range n).map g)with
   |some xs=>if(Lib.join (xs.map (·.data.toList)) sep.data.toList).length≤140737488355328∧n≤140737488355328 then some (st ⟨(Lib.join (xs.map (·.data.toList)) sep.data.toList).toArray⟩)else none
   |none=>none
  |_=>none
 else if f=71 then match args with
  | [.sc (.string s),.sc (.int .i64 c)]=>if 0≤c∧c≤1000∧s.size≤1000 then some (st ⟨(Lib.repeatL s.data.toList c.toNat).toArray⟩)else none
  |_=>none
 else none
def way(a b:Nat):Am.Way:=if b∈[23,27,28,33,39,56,57,67,69,76,89,95,96,97,99,111,112,113,114,115,116,117,118,120,121,122,123,136,138,145,146]then .giveM else if b∈[8,9,12,15,18,20,24,29,81]then .give else if b∈[35,63]then .lend else .plain
def litF(f:FuncId):Bool:=false
def dfnF(f:FuncId):Bool:=f==8
def idleF(f:FuncId):Option Nat:=if f=21 then some 3 else none
open Go.RowKit
noncomputable def E:Env:={P:=Tryz.prog,glob:=globF,ext:=extF,way:=way,lit:=litF,code:=fun f=>(Tryz.prog.funcs[f]?).bind annF,inv:=[(1,intCell .i64),(2,allCells (Lib.pow10Tab.map fun z=>Value.int .u64 z).toArray)],dfn:=dfnF,idle:=idleF,rows:=true,sett:=fun _=>true}
noncomputable def E0:Env:={P:=Tryz.prog,glob:=fun _=>none,ext:=fun _ _=>none,way:=fun _ _=>.plain,lit:=fun _=>false,code:=fun f=>(Tryz.prog.funcs[f]?).bind annF}
noncomputable def rest65:ACode:=match E0.code 21 with|some (.seq _ b)=>b|_=>.skip
def fr65:List V:=[.junk,.junk,.junk,.sc .nilIface]++List.replicate 2 (.sc undef)++[.sc .nilIface]++List.replicate 13 (.sc undef)
def T0:CallT:=fun _ _ _ _=>none
def L0:LoopT:=fun _ _ _ _ _=>none
def isNormal:Ex→Bool| .normal=>true|_=>false
theorem run65:execK E0 T0 L0 rest65 {fr:=fr65,H:=hp [],nx:=0,rt:=0,me:=21} (fun e _=>if isNormal e then some (.c (.pan .junk))else none)=some (.c (.pan .junk)):=by kernel_rfl
theorem body65(a:Act)(w:World)(hd:a.defers=[])(ht:denL (fun _=>none) (fun _=>False) w (fun _=>False) fr65 a.tmps.toList):Code.wp Tryz.prog rest65.erase (fun e a' w'=>e= .normal∧a'.defers=[]∧Below w.heap.size w w') a w:=by
 obtain⟨e,s',h1,h2⟩:=exec_sound (E:=E0) (ca:=T0) (lo:=L0) (fun _ _ _ _ _ h=>by cases h) (SoundX.none fun _ _=>rfl) (fun _ _ _ _ _ _ h=>by cases h) rest65 _ _ _ run65
 split at h1
 case isFalse=>cases h1
 rename_i he
 have he:e= .normal:=by cases e<;>simp_all [isNormal]
 subst he
 refine wp_mono (h2 (fun _=>none) (fun _=>False) (fun _=>False) a w ⟨ht,⟨fun i c hc=>(by simp[hp]at hc),fun _ _=>rfl,fun i b m h=>(by cases h),fun i b m h=>(by cases h),fun i j b m m' h=>(by cases h),fun b hb=>hb.elim⟩,⟨fun _=>hd,fun d h=>(by rw[hd]at h;cases h),fun h=>nomatch (show true=false from h)⟩,fun i hi=>hi.elim,⟨fun g cs h=>(by cases h),fun p hp=>(by cases hp)⟩,fun i hi=>absurd hi (Nat.not_lt_zero i)⟩) fun e' a' w' hp=>?_
 obtain⟨β',S',D',q1,q2,q3,q4,q5,q6⟩:=hp.ex
 cases e'<;>simp only[ExR]at q1
 exact⟨rfl,q2.df.1 rfl,below_of_evo q3⟩
theorem idle65 : Idle Tryz.prog 21 3 := by
  intro us w hus
  refine ⟨?_, ?_⟩
  · have hb : ∃ fn, Tryz.prog.funcs[21]? = some fn ∧ fn.body.isSome = true ∧ fn.name ≠ "runtime.NumGoroutine" := ⟨_, Tryz.func21, by kernel_rfl, by intro e; exact absurd e (by decide +kernel)⟩
    obtain ⟨fn, h1, h2, h3⟩ := hb
    have hb : ¬ fn.body = none := by intro hb; rw [hb] at h2; cases h2
    simp [callFunc, Sem.run_bind, h1, h3, hb, program, Sem.run]
  · match us, hus with
    | ⟨[x, y, z]⟩, _ =>
      refine callsD_of_wpS Tryz.func21 rfl fun c₀ cs hu => ?_
      apply wpS_seq
      apply wpS_region
      simp [wpOpsS, go_sem, recoverD, hu, Tryz.ntmps21, Exit.thenS]
      refine wpS_of_wp ?_
      refine (congrArg (fun c => Code.wp Tryz.prog c _ _ _) (?_ : rest65.erase = _)).mp (wp_mono (body65 _ w rfl ?_) ?_)
      · kernel_rfl
      · simp [fr65, denL, den]
        exact ⟨_, _, ⟨rfl, rfl⟩, _, _, rfl, _, rfl⟩
      · rintro e a' w' ⟨rfl, hd, hb⟩
        refine ⟨hd, _, ?_, _, by simp [results, Tryz.results21, go_sem]; rfl, ⟨_, rfl⟩, rfl, hb⟩
        cases c₀; simp_all
set_option maxRecDepth 100000 in
theorem hW:WF E:=WF.of E (fun _=>rfl) (by kernel_rfl) (fun g n h=>by
 have h':idleF g=some n:=h
 unfold idleF at h'
 split at h'
 ·rename_i hg;subst hg;cases h';exact idle65
 ·cases h')
end Go.Proofs.YtjfkkokeegpeiaaGreatDoor
/-
 DERIVED: THE SHELF's CONTRACTS AT THIS DUMP, IN PLAIN WORDS (tools/lay-plain.mjs out of 'TryzShelf.lean', which tools/lay-shelf.mjs wrote): THE SAME DECLARATIONS UNDER THE SAME NAMES: 'import', 'namespace', 'open', 'def', 'theorem' AND NOTHING ELSE: no command of the shelf's: FOR A HAND-IN. Each laying: the table of numbers ('.._ren') and one theorem, a field a fact of the dump's own or the kernel's comparison; each contract: ONE APPLICATION.
-/
namespace Go.Proofs
open Go.Shelf
open Go.RowKit in
def Tryz.lays169_ren:Go.Shelf.Ren:=⟨fun|169=>37|n=>n,fun|70=>74|9=>9|0=>0|72=>77|37=>75|127=>106|3=>3|5=>5|n=>n,fun|n=>n⟩
theorem Tryz.lays169:Go.Proofs.Lays.n169 Tryz.prog Tryz.lays169_ren:={
 mixed:=by kernel_rfl
 f169:=Tryz.func37.trans (congrArg some (by kernel_rfl))
 t0:=Tryz.underlying0
 a0:=Tryz.isAgg0
 z0:=Tryz.sizeOf0
 v0:=Tryz.zeroValue0
 t3:=Tryz.underlying3
 a3:=Tryz.isAgg3
 z3:=Tryz.sizeOf3
 v3:=Tryz.zeroValue3
 t9:=Tryz.underlying9
 a9:=Tryz.isAgg9
 z9:=Tryz.sizeOf9
 v9:=Tryz.zeroValue9
 t37:=Tryz.underlying75
 a37:=Tryz.isAgg75
 z37:=Tryz.sizeOf75
 v37:=Tryz.zeroValue75
 t70:=Tryz.underlying74
 a70:=Tryz.isAgg74
 z70:=Tryz.sizeOf74
 v70:=Tryz.zeroValue74
 t72:=Tryz.underlying77
 a72:=Tryz.isAgg77
 z72:=Tryz.sizeOf77
 v72:=Tryz.zeroValue77
 t127:=Tryz.underlying106
 a127:=Tryz.isAgg106
 z127:=Tryz.sizeOf106
 v127:=Tryz.zeroValue106}
open Go.RowKit in
open Go.RowKit in
open Go.RowKit in
open Go.RowKit in
open Go.RowKit in
def Tryz.lays156_ren:Go.Shelf.Ren:=⟨fun|156=>35|165=>73|166=>70|169=>37|240=>100|241=>104|276=>125|277=>129|n=>n,fun|31=>48|9=>9|3=>3|4=>4|0=>0|20=>20|72=>77|76=>101|70=>74|37=>75|75=>100|127=>106|164=>130|5=>5|80=>83|n=>n,fun|n=>n⟩
theorem Tryz.lays156:Go.Proofs.Lays.n156 Tryz.prog Tryz.lays156_ren:={
 mixed:=by kernel_rfl
 f156:=Tryz.func35.trans (congrArg some (by kernel_rfl))
 f165:=Tryz.func73.trans (congrArg some (by kernel_rfl))
 f166:=Tryz.func70.trans (congrArg some (by kernel_rfl))
 f169:=Tryz.func37.trans (congrArg some (by kernel_rfl))
 f240:=Tryz.func100.trans (congrArg some (by kernel_rfl))
 f241:=Tryz.func104.trans (congrArg some (by kernel_rfl))
 f276:=Tryz.func125.trans (congrArg some (by kernel_rfl))
 f277:=Tryz.func129.trans (congrArg some (by kernel_rfl))
 t0:=Tryz.underlying0
 a0:=Tryz.isAgg0
 z0:=Tryz.sizeOf0
 v0:=Tryz.zeroValue0
 t3:=Tryz.underlying3
 a3:=Tryz.isAgg3
 z3:=Tryz.sizeOf3
 v3:=Tryz.zeroValue3
 t4:=Tryz.underlying4
 a4:=Tryz.isAgg4
 z4:=Tryz.sizeOf4
 v4:=Tryz.zeroValue4
 t9:=Tryz.underlying9
 a9:=Tryz.isAgg9
 z9:=Tryz.sizeOf9
 v9:=Tryz.zeroValue9
 t20:=Tryz.underlying20
 a20:=Tryz.isAgg20
 z20:=Tryz.sizeOf20
 v20:=Tryz.zeroValue20
 t31:=Tryz.underlying48
 a31:=Tryz.isAgg48
 z31:=Tryz.sizeOf48
 v31:=Tryz.zeroValue48
 t37:=Tryz.underlying75
 a37:=Tryz.isAgg75
 z37:=Tryz.sizeOf75
 v37:=Tryz.zeroValue75
 t70:=Tryz.underlying74
 a70:=Tryz.isAgg74
 z70:=Tryz.sizeOf74
 v70:=Tryz.zeroValue74
 t72:=Tryz.underlying77
 a72:=Tryz.isAgg77
 z72:=Tryz.sizeOf77
 v72:=Tryz.zeroValue77
 t75:=Tryz.underlying100
 a75:=Tryz.isAgg100
 z75:=Tryz.sizeOf100
 v75:=Tryz.zeroValue100
 t76:=Tryz.underlying101
 a76:=Tryz.isAgg101
 z76:=Tryz.sizeOf101
 v76:=Tryz.zeroValue101
 t127:=Tryz.underlying106
 a127:=Tryz.isAgg106
 z127:=Tryz.sizeOf106
 v127:=Tryz.zeroValue106
 t164:=Tryz.underlying130
 a164:=Tryz.isAgg130
 z164:=Tryz.sizeOf130
 v164:=Tryz.zeroValue130}
theorem Tryz.Builder_Extra_156:Builder.Extra Tryz.prog Tryz.lays156_ren:={
 sizeBuilder:=by kernel_rfl
 liesBuilder:=by kernel_rfl
 t5:=Tryz.underlying5
 a5:=Tryz.isAgg5
 z5:=Tryz.sizeOf5
 v5:=Tryz.zeroValue5
 infoByte:=by kernel_rfl
 cellsByte:=by kernel_rfl
 sizeByte:=by kernel_rfl
 neB5:=by decide}
open Go.RowKit in
theorem Tryz.strings_Join_none(a:Option Addr)(c:Nat)(sep:ByteArray)(w:World):
 Calls Tryz.prog 35 #[.slice a 0 c,.string sep] w fun e w'=>e= .returned (.string ⟨#[]⟩)∧w'=w:=Any.strings_Join_none Tryz.lays156 Tryz.Builder_Extra_156 a c sep w
open Go.RowKit in
theorem Tryz.strings_Join(bk o c:Nat)(xs:List ByteArray)(sep:ByteArray)(w:World)(hcells:∀(j:Nat) x,xs[j]? =some x→w.cell? ⟨bk,o+j,none⟩=some (.string x))(hbk:bk<w.heap.size)(hN:xs.length≤140737488355328)(hcap:xs.length≤c)(hlen:(Lib.join (xs.map (·.data.toList)) sep.data.toList).length≤140737488355328):
 Calls Tryz.prog 35 #[.slice (some ⟨bk,o,none⟩) xs.length c,.string sep] w fun e w'=>e= .returned (.string ⟨(Lib.join (xs.map (·.data.toList)) sep.data.toList).toArray⟩)∧Below w.heap.size w w':=Any.strings_Join Tryz.lays156 Tryz.Builder_Extra_156 bk o c xs sep w hcells hbk hN hcap hlen
def Tryz.lays137_ren:Go.Shelf.Ren:=⟨fun|137=>83|217=>108|266=>134|n=>n,fun|9=>9|5=>5|3=>3|n=>n,fun|n=>n⟩
theorem Tryz.lays137:Go.Proofs.Lays.n137 Tryz.prog Tryz.lays137_ren:={
 mixed:=by kernel_rfl
 f137:=Tryz.func83.trans (congrArg some (by kernel_rfl))
 f217:=Tryz.func108.trans (congrArg some (by kernel_rfl))
 f266:=Tryz.func134.trans (congrArg some (by kernel_rfl))
 t3:=Tryz.underlying3
 a3:=Tryz.isAgg3
 z3:=Tryz.sizeOf3
 v3:=Tryz.zeroValue3
 t5:=Tryz.underlying5
 a5:=Tryz.isAgg5
 z5:=Tryz.sizeOf5
 v5:=Tryz.zeroValue5
 t9:=Tryz.underlying9
 a9:=Tryz.isAgg9
 z9:=Tryz.sizeOf9
 v9:=Tryz.zeroValue9}
open Go.RowKit in
theorem Tryz.strings_IndexByte(s:ByteArray)(c:Int)(w:World):
 Calls Tryz.prog 83 #[.string s,.int .u8 c] w fun e w'=>e= .returned (.int .i64 (Lib.indexByte s.data.toList c.toNat.toUInt8))∧w'=w:=Any.strings_IndexByte Tryz.lays137 s c w
open Go.RowKit in
open Go.RowKit in
open Go.RowKit in
open Go.RowKit in
open Go.RowKit in
open Go.RowKit in
open Go.RowKit in
open Go.RowKit in
open Go.RowKit in
open Go.RowKit in
open Go.RowKit in
open Go.Lib in
open Go.Lib in
open Go.Lib in
open Go.Lib in
open Go.RowKit Go.Sort Go.Lib in
open Go.RowKit Go.Sort Go.Lib in
open Go.RowKit Go.Sort Go.Lib in
open Go.RowKit Go.Sort Go.Lib in
open Go.RowKit Go.Sort Go.Lib in
def Tryz.laysM171_ren:Go.Shelf.Ren:=⟨fun|171=>41|243=>79|246=>107|283=>130|284=>131|285=>132|286=>133|129=>140|317=>139|318=>141|319=>142|320=>143|337=>147|338=>148|n=>n,fun|3=>3|9=>9|2=>2|4=>4|171=>139|0=>0|53=>135|37=>75|5=>5|173=>142|212=>146|51=>132|20=>20|213=>147|46=>119|232=>151|233=>152|n=>n,fun|17=>2|18=>3|19=>4|n=>n⟩
theorem Tryz.laysM171:Go.Proofs.LaysM.n171 Tryz.prog Tryz.laysM171_ren:={
 mixed:=by kernel_rfl
 f129:=Tryz.func140.trans (congrArg some (by kernel_rfl))
 f171:=Tryz.func41.trans (congrArg some (by kernel_rfl))
 f243:=Tryz.func79.trans (congrArg some (by kernel_rfl))
 f246:=Tryz.func107.trans (congrArg some (by kernel_rfl))
 f283:=Tryz.func130.trans (congrArg some (by kernel_rfl))
 f284:=Tryz.func131.trans (congrArg some (by kernel_rfl))
 f285:=Tryz.func132.trans (congrArg some (by kernel_rfl))
 f286:=Tryz.func133.trans (congrArg some (by kernel_rfl))
 f317:=Tryz.func139.trans (congrArg some (by kernel_rfl))
 f318:=Tryz.func141.trans (congrArg some (by kernel_rfl))
 f319:=Tryz.func142.trans (congrArg some (by kernel_rfl))
 f320:=Tryz.func143.trans (congrArg some (by kernel_rfl))
 f337:=Tryz.func147.trans (congrArg some (by kernel_rfl))
 f338:=Tryz.func148.trans (congrArg some (by kernel_rfl))
 t0:=Tryz.underlying0
 a0:=Tryz.isAgg0
 z0:=Tryz.sizeOf0
 v0:=Tryz.zeroValue0
 t2:=Tryz.underlying2
 a2:=Tryz.isAgg2
 z2:=Tryz.sizeOf2
 v2:=Tryz.zeroValue2
 t3:=Tryz.underlying3
 a3:=Tryz.isAgg3
 z3:=Tryz.sizeOf3
 v3:=Tryz.zeroValue3
 t4:=Tryz.underlying4
 a4:=Tryz.isAgg4
 z4:=Tryz.sizeOf4
 v4:=Tryz.zeroValue4
 t5:=Tryz.underlying5
 a5:=Tryz.isAgg5
 z5:=Tryz.sizeOf5
 v5:=Tryz.zeroValue5
 t9:=Tryz.underlying9
 a9:=Tryz.isAgg9
 z9:=Tryz.sizeOf9
 v9:=Tryz.zeroValue9
 t20:=Tryz.underlying20
 a20:=Tryz.isAgg20
 z20:=Tryz.sizeOf20
 v20:=Tryz.zeroValue20
 t37:=Tryz.underlying75
 a37:=Tryz.isAgg75
 z37:=Tryz.sizeOf75
 v37:=Tryz.zeroValue75
 t46:=Tryz.underlying119
 a46:=Tryz.isAgg119
 z46:=Tryz.sizeOf119
 v46:=Tryz.zeroValue119
 t51:=Tryz.underlying132
 a51:=Tryz.isAgg132
 z51:=Tryz.sizeOf132
 v51:=Tryz.zeroValue132
 t53:=Tryz.underlying135
 a53:=Tryz.isAgg135
 z53:=Tryz.sizeOf135
 v53:=Tryz.zeroValue135
 t171:=Tryz.underlying139
 a171:=Tryz.isAgg139
 z171:=Tryz.sizeOf139
 v171:=Tryz.zeroValue139
 t173:=Tryz.underlying142
 a173:=Tryz.isAgg142
 z173:=Tryz.sizeOf142
 v173:=Tryz.zeroValue142
 t212:=Tryz.underlying146
 a212:=Tryz.isAgg146
 z212:=Tryz.sizeOf146
 v212:=Tryz.zeroValue146
 t213:=Tryz.underlying147
 a213:=Tryz.isAgg147
 z213:=Tryz.sizeOf147
 t232:=Tryz.underlying151
 a232:=Tryz.isAgg151
 z232:=Tryz.sizeOf151
 v232:=Tryz.zeroValue151
 t233:=Tryz.underlying152
 a233:=Tryz.isAgg152
 z233:=Tryz.sizeOf152
 v233:=Tryz.zeroValue152
 g17:=by kernel_rfl
 g18:=by kernel_rfl
 g19:=by kernel_rfl
 i0:=by kernel_rfl
 i2:=by kernel_rfl
 i3:=by kernel_rfl
 i4:=by kernel_rfl
 i5:=by kernel_rfl
 i9:=by kernel_rfl
 i20:=by kernel_rfl
 i37:=by kernel_rfl
 i46:=by kernel_rfl
 i51:=by kernel_rfl
 i53:=by kernel_rfl
 i171:=by kernel_rfl
 i173:=by kernel_rfl
 i212:=by kernel_rfl
 i232:=by kernel_rfl
 i233:=by kernel_rfl
 m17:=by kernel_rfl
 m18:=by kernel_rfl
 m19:=by kernel_rfl}
open Go.RowKit Go.Sort Go.Lib in
theorem Tryz.strconv_Itoa (n : Int) (h0 : -9223372036854775808 ≤ n) (h1 : n ≤ 9223372036854775807) (w : World) (htab : Lib.TabIs Tryz.prog w "internal/strconv.uint64pow10" .u64 Lib.pow10Tab) :
    Calls Tryz.prog 41 #[.int .i64 n] w fun e w' => e = .returned (.string ⟨(Lib.itoa n).toArray⟩) ∧ ∃ k os, w' = grow (w.drewN k) os := Any.strconv_Itoa Tryz.laysM171 n h0 h1 w htab
open Go.RowKit Go.Sort Go.Lib in
open Go.RowKit Go.Lib in
open Go.RowKit Go.Lib in
open Go.RowKit Go.Lib in
open Go.RowKit Go.Lib in
open Go.RowKit Go.Lib in
open Go.RowKit Go.Lib in
open Go.RowKit Go.Lib in
open Go.RowKit Go.Lib in
def Tryz.lays144_ren:Go.Shelf.Ren:=⟨fun|144=>110|143=>135|219=>144|217=>108|225=>149|224=>150|267=>151|266=>134|314=>152|n=>n,fun|9=>9|4=>4|3=>3|5=>5|46=>119|146=>133|51=>132|n=>n,fun|1=>1|n=>n⟩
theorem Tryz.lays144:Go.Proofs.Lays.n144 Tryz.prog Tryz.lays144_ren:={
 mixed:=by kernel_rfl
 f143:=Tryz.func135.trans (congrArg some (by kernel_rfl))
 f144:=Tryz.func110.trans (congrArg some (by kernel_rfl))
 f217:=Tryz.func108.trans (congrArg some (by kernel_rfl))
 f219:=Tryz.func144.trans (congrArg some (by kernel_rfl))
 f224:=Tryz.func150.trans (congrArg some (by kernel_rfl))
 f225:=Tryz.func149.trans (congrArg some (by kernel_rfl))
 f266:=Tryz.func134.trans (congrArg some (by kernel_rfl))
 f267:=Tryz.func151.trans (congrArg some (by kernel_rfl))
 f314:=Tryz.func152.trans (congrArg some (by kernel_rfl))
 t3:=Tryz.underlying3
 a3:=Tryz.isAgg3
 z3:=Tryz.sizeOf3
 v3:=Tryz.zeroValue3
 t4:=Tryz.underlying4
 a4:=Tryz.isAgg4
 z4:=Tryz.sizeOf4
 v4:=Tryz.zeroValue4
 t5:=Tryz.underlying5
 a5:=Tryz.isAgg5
 z5:=Tryz.sizeOf5
 v5:=Tryz.zeroValue5
 t9:=Tryz.underlying9
 a9:=Tryz.isAgg9
 z9:=Tryz.sizeOf9
 v9:=Tryz.zeroValue9
 t46:=Tryz.underlying119
 a46:=Tryz.isAgg119
 z46:=Tryz.sizeOf119
 v46:=Tryz.zeroValue119
 t51:=Tryz.underlying132
 a51:=Tryz.isAgg132
 z51:=Tryz.sizeOf132
 v51:=Tryz.zeroValue132
 t146:=Tryz.underlying133
 a146:=Tryz.isAgg133
 z146:=Tryz.sizeOf133
 v146:=Tryz.zeroValue133
 g1:=by kernel_rfl}
open Go.RowKit Go.Lib in
open Go.RowKit Go.Lib in
theorem Tryz.strings_Contains(s sub:ByteArray)(m:Int)(w:World)(hs:s.size<4294967281)(hm:w.cell? ⟨1,0,none⟩=some (.int .i64 m)):
 Calls Tryz.prog 110 #[.string s,.string sub] w fun e w'=>e= .returned (.bool (Lib.contains s.data.toList sub.data.toList))∧w'=w:=Any.strings_Contains Tryz.lays144 s sub m w hs hm
open Go.RowKit Go.Lib in
open Go.RowKit Go.Lib in
open Go.RowKit Go.Lib in
open Go.RowKit Go.Lib in
open Go.RowKit Go.Lib in
open Go.RowKit Go.Lib in
open Go.RowKit Go.Lib in
def Tryz.lays105_ren:Go.Shelf.Ren:=⟨fun|105=>71|212=>101|99=>102|165=>73|166=>70|170=>103|169=>37|263=>126|264=>127|206=>128|240=>100|241=>104|276=>125|277=>129|n=>n,fun|9=>9|3=>3|4=>4|20=>20|0=>0|46=>119|109=>120|5=>5|72=>77|76=>101|51=>132|146=>133|53=>135|148=>136|70=>74|37=>75|75=>100|127=>106|164=>130|80=>83|n=>n,fun|n=>n⟩
theorem Tryz.lays105:Go.Proofs.Lays.n105 Tryz.prog Tryz.lays105_ren:={
 mixed:=by kernel_rfl
 f99:=Tryz.func102.trans (congrArg some (by kernel_rfl))
 f105:=Tryz.func71.trans (congrArg some (by kernel_rfl))
 f165:=Tryz.func73.trans (congrArg some (by kernel_rfl))
 f166:=Tryz.func70.trans (congrArg some (by kernel_rfl))
 f169:=Tryz.func37.trans (congrArg some (by kernel_rfl))
 f170:=Tryz.func103.trans (congrArg some (by kernel_rfl))
 f206:=Tryz.func128.trans (congrArg some (by kernel_rfl))
 f212:=Tryz.func101.trans (congrArg some (by kernel_rfl))
 f240:=Tryz.func100.trans (congrArg some (by kernel_rfl))
 f241:=Tryz.func104.trans (congrArg some (by kernel_rfl))
 f263:=Tryz.func126.trans (congrArg some (by kernel_rfl))
 f264:=Tryz.func127.trans (congrArg some (by kernel_rfl))
 f276:=Tryz.func125.trans (congrArg some (by kernel_rfl))
 f277:=Tryz.func129.trans (congrArg some (by kernel_rfl))
 t0:=Tryz.underlying0
 a0:=Tryz.isAgg0
 z0:=Tryz.sizeOf0
 v0:=Tryz.zeroValue0
 t3:=Tryz.underlying3
 a3:=Tryz.isAgg3
 z3:=Tryz.sizeOf3
 v3:=Tryz.zeroValue3
 t4:=Tryz.underlying4
 a4:=Tryz.isAgg4
 z4:=Tryz.sizeOf4
 v4:=Tryz.zeroValue4
 t5:=Tryz.underlying5
 a5:=Tryz.isAgg5
 z5:=Tryz.sizeOf5
 v5:=Tryz.zeroValue5
 t9:=Tryz.underlying9
 a9:=Tryz.isAgg9
 z9:=Tryz.sizeOf9
 v9:=Tryz.zeroValue9
 t20:=Tryz.underlying20
 a20:=Tryz.isAgg20
 z20:=Tryz.sizeOf20
 v20:=Tryz.zeroValue20
 t37:=Tryz.underlying75
 a37:=Tryz.isAgg75
 z37:=Tryz.sizeOf75
 v37:=Tryz.zeroValue75
 t46:=Tryz.underlying119
 a46:=Tryz.isAgg119
 z46:=Tryz.sizeOf119
 v46:=Tryz.zeroValue119
 t51:=Tryz.underlying132
 a51:=Tryz.isAgg132
 z51:=Tryz.sizeOf132
 v51:=Tryz.zeroValue132
 t53:=Tryz.underlying135
 a53:=Tryz.isAgg135
 z53:=Tryz.sizeOf135
 v53:=Tryz.zeroValue135
 t70:=Tryz.underlying74
 a70:=Tryz.isAgg74
 z70:=Tryz.sizeOf74
 v70:=Tryz.zeroValue74
 t72:=Tryz.underlying77
 a72:=Tryz.isAgg77
 z72:=Tryz.sizeOf77
 v72:=Tryz.zeroValue77
 t75:=Tryz.underlying100
 a75:=Tryz.isAgg100
 z75:=Tryz.sizeOf100
 v75:=Tryz.zeroValue100
 t76:=Tryz.underlying101
 a76:=Tryz.isAgg101
 z76:=Tryz.sizeOf101
 v76:=Tryz.zeroValue101
 t109:=Tryz.underlying120
 a109:=Tryz.isAgg120
 z109:=Tryz.sizeOf120
 v109:=Tryz.zeroValue120
 t127:=Tryz.underlying106
 a127:=Tryz.isAgg106
 z127:=Tryz.sizeOf106
 v127:=Tryz.zeroValue106
 t146:=Tryz.underlying133
 a146:=Tryz.isAgg133
 z146:=Tryz.sizeOf133
 v146:=Tryz.zeroValue133
 t148:=Tryz.underlying136
 a148:=Tryz.isAgg136
 z148:=Tryz.sizeOf136
 v148:=Tryz.zeroValue136
 t164:=Tryz.underlying130
 a164:=Tryz.isAgg130
 z164:=Tryz.sizeOf130
 v164:=Tryz.zeroValue130}
theorem Tryz.Builder_Extra_105:Builder.Extra Tryz.prog Tryz.lays105_ren:={
 sizeBuilder:=by kernel_rfl
 liesBuilder:=by kernel_rfl
 t5:=Tryz.underlying5
 a5:=Tryz.isAgg5
 z5:=Tryz.sizeOf5
 v5:=Tryz.zeroValue5
 infoByte:=by kernel_rfl
 cellsByte:=by kernel_rfl
 sizeByte:=by kernel_rfl
 neB5:=by decide}
open Go.RowKit Go.Lib in
open Go.RowKit Go.Lib in
open Go.RowKit Go.Lib in
open Go.RowKit Go.Lib in
open Go.RowKit Go.Lib in
open Go.RowKit Go.Lib in
open Go.RowKit Go.Lib in
theorem Tryz.strings_Repeat(s:ByteArray)(c:Nat)(w:World)(hc:c≤9223372036854775807)(hlen:s.size*c≤140737488355328):
 Calls Tryz.prog 71 #[.string s,.int .i64 c] w fun e w'=>e= .returned (.string ⟨(Lib.repeatL s.data.toList c).toArray⟩)∧Below w.heap.size w w':=Any.strings_Repeat Tryz.lays105 Tryz.Builder_Extra_105 s c w hc hlen
end Go.Proofs
/- The library's contracts, as the environment has them; the examples hold. -/
namespace Go.Proofs.YtjfkkokeegpeiaaGreatDoor
open Go Go.Am Go.RowKit
theorem strL_spec:∀{l:List (List V)} {xs:List ByteArray},strL l=some xs→l=xs.map fun x=>[V.sc (.string x)]
 | [],xs,h=>by simp only[strL,Option.some.injEq]at h;subst h;rfl
 | []::l,xs,h=>by simp[strL]at h
 | [a]::l,xs,h=>by
  cases a<;>try (simp[strL]at h;done)
  rename_i v
  cases v<;>try (simp[strL]at h;done)
  rename_i s
  simp only[strL]at h
  split at h
  ·rename_i r hr
   simp only[Option.some.injEq]at h
   subst h
   rw[strL_spec hr]
   rfl
  ·cases h
 | (a::b::c)::l,xs,h=>by
  have:strL ((a::b::c)::l)=none:=by cases a with|sc v=>(cases v<;>rfl) |_=>rfl
  rw[this]at h
  cases h
theorem cellAt{W:World}{a:Addr}{x:Value}(h:W.cell? a=some x):a=⟨a.block,a.off,none⟩:=by
 unfold World.cell? at h
 split at h
 ·split at h
  ·cases h
  ·rename_i hs
   obtain⟨b,o,s⟩:=a
   cases s with
   |none=>rfl
   |some q=>exact absurd rfl hs
 ·cases h
theorem maxLen_at{S:Pr}{w:World}(hG:Glob E S w):∃m,w.cell? ⟨1,0,none⟩=some (.int .i64 m):=by
 obtain⟨_,x,h1,h2⟩:=hG.inv (1,intCell .i64) (by simp[E])
 exact intCell_cell h1 h2
theorem g2 : Tryz.prog.globalNamed "internal/strconv.uint64pow10" = some 2 := by kernel_rfl
theorem pow_at {S : Pr} {w : World} (hG : Glob E S w) : Lib.TabIs Tryz.prog w "internal/strconv.uint64pow10" .u64 Lib.pow10Tab := by
  obtain ⟨_, x, h1, h2⟩ := hG.inv (2, allCells (Lib.pow10Tab.map fun z => Value.int .u64 z).toArray) (by simp [E])
  exact allCells_var g2 h1 h2
theorem hX:SoundX E:=by
 intro f args v h
 have h':extF f args=some v:=h
 unfold extF at h'
 split at h'
 ·rename_i hf;subst hf
  split at h'
  ·rename_i s sub
   split at h'
   ·rename_i hn
    cases h'
    refine⟨⟨_,Tryz.func110,by kernel_rfl,by intro e;exact absurd e (by decide+kernel)⟩,rfl,fun β S D w us hd hG hS=>?_⟩
    obtain rfl:us=[.string s,.string sub]:=by simpa[denL,den]using hd
    obtain⟨m,hm⟩:=maxLen_at hG
    refine(Tryz.strings_Contains s sub m w hn hm).mono ?_
    rintro e w' ⟨rfl,rfl⟩
    exact⟨_,S,rfl,Below.refl _ _,by simp only[den],fun _ h=>h,fun _ h=>.inl h⟩
   ·cases h'
  ·cases h'
 split at h'
 ·rename_i hf;subst hf
  split at h'
  ·rename_i s c
   cases h'
   refine⟨⟨_,Tryz.func83,by kernel_rfl,by intro e;exact absurd e (by decide+kernel)⟩,rfl,fun β S D w us hd hG hS=>?_⟩
   obtain rfl:us=[.string s,.int .u8 c]:=by simpa[denL,den]using hd
   refine(Tryz.strings_IndexByte s c w).mono ?_
   rintro e w' ⟨rfl,rfl⟩
   exact⟨_,S,rfl,Below.refl _ _,by simp only[den],fun _ h=>h,fun _ h=>.inl h⟩
  ·cases h'
 split at h'
 ·rename_i hf;subst hf
  split at h'
  ·rename_i n
   split at h'
   ·rename_i hn
    cases h'
    refine⟨⟨_,Tryz.func41,by kernel_rfl,by intro e;exact absurd e (by decide+kernel)⟩,rfl,fun β S D w us hd hG hS=>?_⟩
    obtain rfl:us=[.int .i64 n]:=by simpa[denL,den]using hd
    refine(Tryz.strconv_Itoa n hn.1 hn.2 w (pow_at hG)).mono ?_
    rintro e w' ⟨rfl,k,os,rfl⟩
    exact⟨_,S,rfl,Lib.below_grow w.heap.size w (Nat.le_refl _) k os,by simp[den],fun _ h=>h,fun _ h=>.inl h⟩
   ·cases h'
  ·cases h'
 split at h'
 ·rename_i hf;subst hf
  split at h'
  ·rename_i sep
   cases h'
   refine⟨⟨_,Tryz.func35,by kernel_rfl,by intro e;exact absurd e (by decide+kernel)⟩,rfl,fun β S D w us hd hG hS=>?_⟩
   obtain rfl:us=[.slice none 0 0,.string sep]:=by simpa[denL,den]using hd
   refine(Tryz.strings_Join_none none 0 sep w).mono ?_
   rintro e w' ⟨rfl,rfl⟩
   exact⟨_,S,rfl,Below.refl _ _,by simp only[den];rfl,fun _ h=>h,fun _ h=>.inl h⟩
  ·rename_i n g sep
   split at h'
   ·rename_i xs hxs
    split at h'
    ·rename_i hn
     cases h'
     refine⟨⟨_,Tryz.func35,by kernel_rfl,by intro e;exact absurd e (by decide+kernel)⟩,rfl,fun β S D w us hd hG hS=>?_⟩
     simp only[denL,den]at hd
     obtain⟨u,r,rfl,⟨_,A,m,a,cs,rfl,hnm,hA,hc⟩,u2,r2,rfl,rfl,rfl⟩:=hd
     have hl:=strL_spec hxs
     have hlen:xs.length=n:=by
      have:=congrArg List.length hl
      simpa using this.symm
     have hcell:∀(j:Nat) (x:ByteArray),xs[j]? =some x→w.cell? (a.add j)=some (.string x):=by
      intro j x hj
      have hjn:j<n:=by rw[←hlen];exact(List.getElem?_eq_some_iff.1 hj).1
      obtain⟨g1,g2,g3,g4,g5⟩:=hc j hjn
      have hg:g j=[.sc (.string x)]:=by
       have:=congrArg (fun l=>l[j]?) hl
       simp only[List.getElem?_map,List.getElem?_range hjn,hj,Option.map_some,Option.some.injEq]at this
       exact this
      rw[hg]at g1
      simp only[denL,den]at g1
      obtain⟨x1,x2,h1,rfl,rfl⟩:=g1
      have:=g5 0 (.string x) (by rw[h1];rfl)
      simpa using this
     have hdone:∀(o:Option Addr),Calls Tryz.prog 35 #[.slice o n m,.string sep] w (fun e w'=>e= .returned (.string ⟨(Lib.join (xs.map (·.data.toList)) sep.data.toList).toArray⟩)∧Below w.heap.size w w')→
      Calls E.P 35 [Value.slice o n m,.string sep].toArray w fun e w'=>∃u S',e= .returned u∧Below w.heap.size w w'∧den (fun _=>none) S' w' (fun _=>False) (st ⟨(Lib.join (xs.map (·.data.toList)) sep.data.toList).toArray⟩) u∧(∀b,S b→S' b)∧∀b,S' b→S b∨(w.heap.size≤b∧b<w'.heap.size):=by
      intro o h
      refine Calls.mono h ?_
      rintro e w' ⟨rfl,hb⟩
      exact⟨_,S,rfl,hb,by simp only[den],fun _ h=>h,fun _ h=>.inl h⟩
     cases xs with
     |nil=>
      simp only[List.length_nil]at hlen
      subst hlen
      exact hdone A ((Tryz.strings_Join_none A m sep w).mono fun e w' ⟨he,hw⟩=>⟨he,hw▸Below.refl _ _⟩)
     |cons x xs=>
      have h0:0<n:=by rw[←hlen];simp
      obtain⟨rfl,hab⟩:=hA h0
      have hsp:=cellAt (a:=a) (by have:=hcell 0 x rfl;simpa[Addr.add]using this)
      refine hdone (some a) ?_
      have:=Tryz.strings_Join a.block a.off m (x::xs) sep w (fun j y hj=>by
       have:=hcell j y hj
       rw[hsp,add_lit]at this
       exact this) (hS _ hab) (by rw[hlen];exact hn.2) (by rw[hlen];exact hnm) hn.1
      rw[hlen,←hsp]at this
      exact this
    ·cases h'
   ·cases h'
  ·cases h'
 split at h'
 ·rename_i hf;subst hf
  split at h'
  ·rename_i s c
   split at h'
   ·rename_i hn
    cases h'
    refine⟨⟨_,Tryz.func71,by kernel_rfl,by intro e;exact absurd e (by decide+kernel)⟩,rfl,fun β S D w us hd hG hS=>?_⟩
    obtain rfl:us=[.string s,.int .i64 c]:=by simpa[denL,den]using hd
    obtain⟨n,rfl⟩:∃n:Nat,c=n:=⟨c.toNat,by omega⟩
    refine(Tryz.strings_Repeat s n w (by omega) (by
     have h1:n≤1000:=by omega
     exact Nat.le_trans (Nat.mul_le_mul hn.2.2 h1) (by omega))).mono ?_
    rintro e w' ⟨rfl,hb⟩
    exact⟨_,S,rfl,hb,by simp only[den];rfl,fun _ h=>h,fun _ h=>.inl h⟩
   ·cases h'
  ·cases h'
 ·cases h'
end Go.Proofs.YtjfkkokeegpeiaaGreatDoor
/- What the rows list of the packages' variables; a world that holds it. -/
namespace Go.Proofs.YtjfkkokeegpeiaaGreatDoor
open Go Go.Am Go.RowKit
theorem packed:packB Tryz.prog=true:=by kernel_rfl
theorem denL_scs{β:Bt}{S D:Pr}{w:World}:∀{l:List Value} {us:List Value},denL β S w D (l.map V.sc) us→us=l
 | [],us,h=>by simpa[denL]using h
 |v::l,us,h=>by
  simp only[List.map_cons,denL,den]at h
  obtain⟨x,xs,rfl,rfl,h⟩:=h
  rw[denL_scs h]
abbrev laidL:List (String×DataW Unit):=Rows.parserParsesRow.laid
theorem laidPlain{W:World}(h:laidMetH Tryz.prog laidL W):laidMet Tryz.prog laidL W:=by
 rw[MakeChecks.laidMetH_plain _ _ _ (by kernel_rfl)]at h;exact h
theorem globAt0 : GlobAt Tryz.prog laidL 0 [tabV] := ⟨"perigee/unit.table", Rows.laid_perigee_unit_table, 125, 8, by simp [laidL, Rows.parserParsesRow], by kernel_rfl, by kernel_rfl, of_decide_eq_true (by kernel_rfl), by kernel_rfl, by simp⟩
theorem glob_of {W : World} (h : laidMetH Tryz.prog laidL W) (hs : W.ShapedOpen Tryz.prog) : Glob E (· < W.heap.size) W := by
  have hl := laidPlain h
  refine Glob.of_laid (laid := laidL) packed hl (fun g cs hg => ?_) (fun p hp => ?_)
  · have hg' : globF g = some cs := hg
    unfold globF at hg'
    split at hg'
    · cases hg'; exact globAt0
    · cases hg'
  · simp only [E, List.mem_cons, List.mem_nil_iff, or_false] at hp
    rcases hp with rfl | rfl
    · exact intCell_of (cell_of_shapedOpen_int (t := 3) (zero := #[.int .i64 0]) hs (of_decide_eq_true (by kernel_rfl)) (by kernel_rfl) rfl (by kernel_rfl) (by kernel_rfl) (by kernel_rfl))
    · obtain ⟨ps, hv, _⟩ := hl
      obtain ⟨g, t, cs, fuel, q, k1, k2, k3, k4⟩ := laidVars_mem hv "internal/strconv.uint64pow10" Rows.laid_internal_strconv_uint64pow10 (by simp [laidL, Rows.parserParsesRow])
      obtain rfl := Option.some.inj (g2.symm.trans k1)
      obtain rfl := Option.some.inj ((show (Tryz.prog.globals[2]?).map (·.type) = some 146 by kernel_rfl).symm.trans k2)
      have gd := cells_of_datum packed fuel 8 146 cs.toList _ q ((Lib.pow10Tab.map fun z => Value.int .u64 z).map V.sc) (of_decide_eq_true (by kernel_rfl)) k4 (by kernel_rfl)
      have hcs := denL_scs gd.den
      have : cs = (Lib.pow10Tab.map fun z => Value.int .u64 z).toArray := by rw [← hcs]
      rw [← this]
      exact allCells_of g2 k3
noncomputable def laidWorld(os:Os):World:=World.doorLaid Tryz.prog 4000 os
theorem laid_met0(os:Os)(args:Array Value):laidMet Tryz.prog laidL ((laidWorld os).forCall (fun _ _=>0) ⟨#[],args,[]⟩).memory:=
 laidMet_of_run' 8 (by kernel_rfl) (by kernel_rfl)
theorem laid_met(os:Os)(args:Array Value):laidMetH Tryz.prog laidL ((laidWorld os).forCall (fun _ _=>0) ⟨#[],args,[]⟩).memory:=by
 rw[MakeChecks.laidMetH_plain _ _ _ (by kernel_rfl)];exact laid_met0 os args
end Go.Proofs.YtjfkkokeegpeiaaGreatDoor
/- Short words for the lifted texts. -/
namespace Go.Proofs.YtjfkkokeegpeiaaGreatDoor
open Go Go.Am Go.Proofs
abbrev FI:Type:=Nat→Int
abbrev FS:Type:=Nat→ByteArray
abbrev FL:Type:=Nat→List V
abbrev FM:Type:=Nat→Nat→List V
abbrev FN:Type:=Nat→Nat
abbrev SR:Type:=Int×Int×Int×Int×Nat×FI×FI×FS×FI×Nat×FS
abbrev SP:Type:=Int×Int×Nat×FI×FI×FS×FI×Nat×FS×Nat×FS
abbrev SB:Type:=Nat×FI×FI×FS×FI×Int×Int×Int×Int×Nat×FS
abbrev SC2:Type:=Nat×FI×FI×FS×FI×Int×Int×Nat×Nat×FS×FS
abbrev AR(α:Type):Type:=α→List V×List (Option Chunk)
abbrev Lw(E:Env)(f:FuncId){α γ:Type}(A:AR α)(R:γ→CRes)(c:α→Option γ):Prop:=∀x z,c x=some z→SC E f (A x).1 (A x).2 (R z)
noncomputable def ftg{α γ:Type}(f:FuncId)(gd:List V→List (Option Chunk)→Bool)(A:AR α)(R:γ→CRes)(c:α→Option γ)(ca:CallT):CallT:=ftab f gd A (fun z k=>k (R z)) c ca
noncomputable abbrev ftb{α γ:Type}(f:FuncId)(A:AR α)(R:γ→CRes)(c:α→Option γ)(ca:CallT):CallT:=ftg f (fun _ _=>true) A R c ca
theorem fk{E:Env}{α γ:Type}{f:FuncId}{gd:List V→List (Option Chunk)→Bool}{A:AR α}{c:α→Option γ}{ca:CallT}{R:γ→CRes}(h:Lw E f A R c)(hl:SoundC E ca):SoundC E (ftg f gd A R c ca):=ftab_cons h (fun _ _=>rfl) hl
noncomputable def vf{α γ:Type}(A:AR α)(c:α→Option γ):α→Option γ:=fun x=>viaF A c (A x)
theorem vq{α γ:Type}{A:AR α}(hi:∀x y,A x=A y→x=y)(c:α→Option γ):vf A c=c:=via_eq hi c
abbrev n0:=@free_none
abbrev n1:=@free_bind
abbrev n2:=@free_ite
abbrev n3:=@free_sum
abbrev hHR(x:SR):List (Option Chunk):=[some (.blk [.ro 4 x.2.2.2.2.1 (fun j=>[i64 (x.2.2.2.2.2.1 j),i64 (x.2.2.2.2.2.2.1 j),st (x.2.2.2.2.2.2.2.1 j),i64 (x.2.2.2.2.2.2.2.2.1 j)]),i64 x.1,i64 x.2.1,i64 x.2.2.1,i64 x.2.2.2.1,.sl 1 1 0 x.2.2.2.2.2.2.2.2.2.1]),some (.row 9 1 x.2.2.2.2.2.2.2.2.2.1 (fun j=>[st (x.2.2.2.2.2.2.2.2.2.2 j)]))]
abbrev hHP(x:SP):List (Option Chunk):=[some (.blk [.ro 4 x.2.2.1 (fun j=>[i64 (x.2.2.2.1 j),i64 (x.2.2.2.2.1 j),st (x.2.2.2.2.2.1 j),i64 (x.2.2.2.2.2.2.1 j)]),i64 x.1,i64 x.2.1,.sl 1 1 0 x.2.2.2.2.2.2.2.1,.sl 2 1 0 x.2.2.2.2.2.2.2.2.2.1]),some (.row 9 1 x.2.2.2.2.2.2.2.1 (fun j=>[st (x.2.2.2.2.2.2.2.2.1 j)])),some (.row 9 1 x.2.2.2.2.2.2.2.2.2.1 (fun j=>[st (x.2.2.2.2.2.2.2.2.2.2 j)]))]
abbrev dTI(v:V)(n:Nat):FI:=fun j=>vI ((vRoF v j).getD n .junk)
abbrev dTS(v:V)(n:Nat):FS:=fun j=>vS ((vRoF v j).getD n .junk)
abbrev dCS(c:Option Chunk):FS:=fun j=>vS ((chF c j).getD 0 .junk)
def dHR(t:List (Option Chunk)):SR:=
 let b:=chB (t.getD 0 none);let v:=b.getD 0 .junk
 (vI (b.getD 1 .junk),vI (b.getD 2 .junk),vI (b.getD 3 .junk),vI (b.getD 4 .junk),vRoN v,dTI v 0,dTI v 1,dTS v 2,dTI v 3,vSlN (b.getD 5 .junk),dCS (t.getD 1 none))
def dHP(t:List (Option Chunk)):SP:=
 let b:=chB (t.getD 0 none);let v:=b.getD 0 .junk
 (vI (b.getD 1 .junk),vI (b.getD 2 .junk),vRoN v,dTI v 0,dTI v 1,dTS v 2,dTI v 3,vSlN (b.getD 3 .junk),dCS (t.getD 1 none),vSlN (b.getD 4 .junk),dCS (t.getD 2 none))
abbrev hRB{α:Type}(y:Nat×FI×FI×FS×FI×Int×Int×Int×Int×Nat×α):Chunk:=.blk [.ro 4 y.1 (fun j=>[i64 (y.2.1 j),i64 (y.2.2.1 j),st (y.2.2.2.1 j),i64 (y.2.2.2.2.1 j)]),i64 y.2.2.2.2.2.1,i64 y.2.2.2.2.2.2.1,i64 y.2.2.2.2.2.2.2.1,i64 y.2.2.2.2.2.2.2.2.1,.sl 1 1 0 y.2.2.2.2.2.2.2.2.2.1]
abbrev hRV{α:Type}(y:Nat×FI×FI×FS×FI×Int×Int×Int×Int×Nat×FS×α):Chunk:=.row 9 1 y.2.2.2.2.2.2.2.2.2.1 (fun j=>[st (y.2.2.2.2.2.2.2.2.2.2.1 j)])
abbrev hRV0(y:Nat×FI×FI×FS×FI×Int×Int×Int×Int×Nat×FS):Chunk:=.row 9 1 y.2.2.2.2.2.2.2.2.2.1 (fun j=>[st (y.2.2.2.2.2.2.2.2.2.2 j)])
abbrev hPB{α:Type}(y:Nat×FI×FI×FS×FI×Int×Int×Nat×Nat×α):Chunk:=.blk [.ro 4 y.1 (fun j=>[i64 (y.2.1 j),i64 (y.2.2.1 j),st (y.2.2.2.1 j),i64 (y.2.2.2.2.1 j)]),i64 y.2.2.2.2.2.1,i64 y.2.2.2.2.2.2.1,.sl 1 1 0 y.2.2.2.2.2.2.2.1,.sl 2 1 0 y.2.2.2.2.2.2.2.2.1]
abbrev hPV{α:Type}(y:Nat×FI×FI×FS×FI×Int×Int×Nat×Nat×FS×α):Chunk:=.row 9 1 y.2.2.2.2.2.2.2.1 (fun j=>[st (y.2.2.2.2.2.2.2.2.2.1 j)])
abbrev hPQ{α:Type}(y:Nat×FI×FI×FS×FI×Int×Int×Nat×Nat×FS×FS×α):Chunk:=.row 9 1 y.2.2.2.2.2.2.2.2.1 (fun j=>[st (y.2.2.2.2.2.2.2.2.2.2.1 j)])
abbrev hPQ0(y:SC2):Chunk:=.row 9 1 y.2.2.2.2.2.2.2.2.1 (fun j=>[st (y.2.2.2.2.2.2.2.2.2.2 j)])
abbrev TT:Type:=List V×List (Option Chunk)
def x2{α β:Type}(R:α⊕β→CRes)(z:α⊕β)(k:CRes→Option Ans):Option Ans:=Sum.elim (fun a=>k (R (.inl a))) (fun b=>k (R (.inr b))) z
def x3{α β γ:Type}(R:α⊕β⊕γ→CRes)(z:α⊕β⊕γ)(k:CRes→Option Ans):Option Ans:=Sum.elim (fun a=>k (R (.inl a))) (fun b=>x2 (fun b=>R (.inr b)) b k) z
def x4{α β γ δ:Type}(R:α⊕β⊕γ⊕δ→CRes)(z:α⊕β⊕γ⊕δ)(k:CRes→Option Ans):Option Ans:=Sum.elim (fun a=>k (R (.inl a))) (fun b=>x3 (fun b=>R (.inr b)) b k) z
section
variable {α β γ δ ε:Type} {E:Env} {f:FuncId} {gd:List V→List (Option Chunk)→Bool} {ca:CallT}
theorem xe2{R:α⊕β→CRes}:∀z k,x2 R z k=k (R z):=fun z k=>by rcases z with z|z<;>rfl
theorem xe3{R:α⊕β⊕γ→CRes}:∀z k,x3 R z k=k (R z):=fun z k=>by rcases z with z|z|z<;>rfl
noncomputable def fg2(f:FuncId)(gd:List V→List (Option Chunk)→Bool)(A:AR ε)(R:α⊕β→CRes)(c:ε→Option (α⊕β))(ca:CallT):CallT:=ftab f gd A (x2 R) c ca
noncomputable def fg3(f:FuncId)(gd:List V→List (Option Chunk)→Bool)(A:AR ε)(R:α⊕β⊕γ→CRes)(c:ε→Option (α⊕β⊕γ))(ca:CallT):CallT:=ftab f gd A (x3 R) c ca
noncomputable abbrev ft2(f:FuncId)(A:AR ε)(R:α⊕β→CRes)(c:ε→Option (α⊕β))(ca:CallT):CallT:=fg2 f (fun _ _=>true) A R c ca
noncomputable abbrev ft3(f:FuncId)(A:AR ε)(R:α⊕β⊕γ→CRes)(c:ε→Option (α⊕β⊕γ))(ca:CallT):CallT:=fg3 f (fun _ _=>true) A R c ca
theorem fk2{A:AR ε}{R:α⊕β→CRes}{c:ε→Option (α⊕β)}(h:Lw E f A R c)(hl:SoundC E ca):SoundC E (fg2 f gd A R c ca):=ftab_cons h xe2 hl
theorem fk3{A:AR ε}{R:α⊕β⊕γ→CRes}{c:ε→Option (α⊕β⊕γ)}(h:Lw E f A R c)(hl:SoundC E ca):SoundC E (fg3 f gd A R c ca):=ftab_cons h xe3 hl
theorem sof{A:AR α}{R:γ→CRes}{c:α→Option γ}{lo:α→LoopT}(hW:WF E)(hX:SoundX E)(hc:SoundC E ca)(hl:∀x,SoundL E (lo x))(h:∀x,callK E ca (lo x) f (A x).1 (A x).2 (fun r=>some (.c r))=(c x).bind fun z=>some (.c (R z))):Lw E f A R c:=fun x z hz=>SC.of hW hX hc (hl x) ((h x).trans (by rw[hz];rfl))
abbrev VI(A:AR α):Prop:=∀{γ:Type} (c:α→Option γ),vf A c=c
theorem vd{A:AR α}(d:TT→α)(h:∀x,d (A x)=x):VI A:=fun c=>vq (fun x y e=>by rw[←h x,←h y,e]) c
noncomputable def lf(b:ACode)(S:α→St)(p:α→Option γ):α→Option γ:=fun y=>viaF (fun y=>(b,S y)) p (b,S y)
abbrev VL(S:α→St):Prop:=∀{γ:Type} (b:ACode) (p:α→Option γ),lf b S p=p
theorem vl{S:α→St}(d:St→α)(h:∀x,d (S x)=x):VL S:=fun b p=>via_eq (pair_inj b fun x y e=>by rw[←h x,←h y,e]) p
abbrev Ll(E:Env)(b:ACode)(S:α→St)(T:γ→Ex×St)(p:α→Option γ):Prop:=∀y z,p y=some z→SL E b (S y) (T z).1 (T z).2
def w1(T:α→Ex×St)(z:α)(k:KX):Option Ans:=k (T z).1 (T z).2
def w2(T:α⊕β→Ex×St)(z:α⊕β)(k:KX):Option Ans:=Sum.elim (fun a=>w1 (fun a=>T (.inl a)) a k) (fun b=>w1 (fun b=>T (.inr b)) b k) z
def w3(T:α⊕β⊕γ→Ex×St)(z:α⊕β⊕γ)(k:KX):Option Ans:=Sum.elim (fun a=>w1 (fun a=>T (.inl a)) a k) (fun b=>w2 (fun b=>T (.inr b)) b k) z
def w4(T:α⊕β⊕γ⊕δ→Ex×St)(z:α⊕β⊕γ⊕δ)(k:KX):Option Ans:=Sum.elim (fun a=>w1 (fun a=>T (.inl a)) a k) (fun b=>w3 (fun b=>T (.inr b)) b k) z
noncomputable def lt1(id:Nat)(gd:St→Bool)(b:ACode)(S:ε→St)(T:α→Ex×St)(p:ε→Option α)(lo:LoopT):LoopT:=ltabF id gd b S (w1 T) p lo
noncomputable def lt2(id:Nat)(gd:St→Bool)(b:ACode)(S:ε→St)(T:α⊕β→Ex×St)(p:ε→Option (α⊕β))(lo:LoopT):LoopT:=ltabF id gd b S (w2 T) p lo
noncomputable def lt3(id:Nat)(gd:St→Bool)(b:ACode)(S:ε→St)(T:α⊕β⊕γ→Ex×St)(p:ε→Option (α⊕β⊕γ))(lo:LoopT):LoopT:=ltabF id gd b S (w3 T) p lo
noncomputable def lt4(id:Nat)(gd:St→Bool)(b:ACode)(S:ε→St)(T:α⊕β⊕γ⊕δ→Ex×St)(p:ε→Option (α⊕β⊕γ⊕δ))(lo:LoopT):LoopT:=ltabF id gd b S (w4 T) p lo
variable {id:Nat} {gs:St→Bool} {b:ACode} {S:ε→St} {lo:LoopT}
theorem lk1{T:α→Ex×St}{p:ε→Option α}(h:Ll E b S T p)(hl:SoundL E lo):SoundL E (lt1 id gs b S T p lo):=ltabF_cons h (fun _ _=>rfl) hl
theorem lk2{T:α⊕β→Ex×St}{p:ε→Option (α⊕β)}(h:Ll E b S T p)(hl:SoundL E lo):SoundL E (lt2 id gs b S T p lo):=ltabF_cons h (fun z k=>by rcases z with z|z<;>rfl) hl
theorem lk3{T:α⊕β⊕γ→Ex×St}{p:ε→Option (α⊕β⊕γ)}(h:Ll E b S T p)(hl:SoundL E lo):SoundL E (lt3 id gs b S T p lo):=ltabF_cons h (fun z k=>by rcases z with z|z|z<;>rfl) hl
theorem lk4{T:α⊕β⊕γ⊕δ→Ex×St}{p:ε→Option (α⊕β⊕γ⊕δ)}(h:Ll E b S T p)(hl:SoundL E lo):SoundL E (lt4 id gs b S T p lo):=ltabF_cons h (fun z k=>by rcases z with z|z|z|z<;>rfl) hl
theorem slp{S:α→St}{T:γ→Ex×St}{st:α→Option (α⊕γ)}{live:Nat}{ms:List (Nat×Nat)}{r:Nat}{c:ACode}(hC:SoundC E ca)(hX:SoundX E)
 (tr:∀lo x,loopK E ca lo id live c (S x) (KCM ms r)=(st x).bind fun r'=>Sum.elim (fun y=>lo id live c (S y) (KCM ms r)) (fun z=>some (.l (T z).1 (T z).2)) r')
 (kT:∀z,KCM ms r (T z).1 (T z).2=some (.l (T z).1 (T z).2)) (n:Nat):Ll E c S T (lpG st n):=SL.lp (LT:=fun lo=>lo) hC hX (fun _ h=>h) tr kT n
end
def cb(s:St)(i k:Nat):V:=(chB (s.H i)).getD k .junk
def cc(t:TT)(i k:Nat):V:=(chB (t.2.getD i none)).getD k .junk
def ca(t:TT)(i k:Nat):V:=(vAg (t.1.getD i .junk)).getD k .junk
def ag(t:TT)(i:Nat):V:=t.1.getD i .junk
def co(t:TT)(i:Nat):Option Chunk:=t.2.getD i none
abbrev dRI(c:Option Chunk)(n:Nat):FI:=fun j=>vI ((chF c j).getD n .junk)
abbrev dRS(c:Option Chunk)(n:Nat):FS:=fun j=>vS ((chF c j).getD n .junk)
abbrev dRN(c:Option Chunk)(n:Nat):FN:=fun j=>vRoN ((chF c j).getD n .junk)
abbrev dRF(c:Option Chunk)(n:Nat):FM:=fun j=>vRoF ((chF c j).getD n .junk)
end Go.Proofs.YtjfkkokeegpeiaaGreatDoor
/- The parser, lifted. -/
namespace Go.Proofs.YtjfkkokeegpeiaaGreatDoor
open Go Go.Am Go.Proofs
set_option maxRecDepth 100000
abbrev nilS:V:=.sc (.slice none 0 0)
noncomputable def E5:Env:={P:=Tryz.prog,glob:=globF,ext:=fun _ _=>none,way:=way,lit:=fun _=>false,code:=fun f=>(Tryz.prog.funcs[f]?).bind annF,sett:=fun _=>true,rows:=true,dfn:=dfnF,idle:=idleF,inv:=[(1,intCell .i64),(2,allCells (Lib.pow10Tab.map fun z=>Value.int .u64 z).toArray)]}
set_option maxRecDepth 100000 in
theorem hW5:WF E5:=WF.of E5 (fun _=>rfl) (by kernel_rfl) hW.1.1
theorem hX5:SoundX E5:=SoundX.none fun _ _=>rfl
theorem sc5{f:FuncId}{args:List V}{L:List (Option Chunk)}{cr:CRes}:SC E5 f args L cr↔SC E f args L cr:=
 ⟨fun h=>⟨h.1,fun β S w us h1 h2 h3=>h.2 β S w us h1 h2 ⟨h3.rd,h3.inv⟩⟩,fun h=>⟨h.1,fun β S w us h1 h2 h3=>h.2 β S w us h1 h2 ⟨h3.rd,h3.inv⟩⟩⟩
def K:CRes→Option Ans:=fun r=>some (.c r)
abbrev w(n:Int):Int:=IntKind.wrap .i64 n
def jk(n:Nat):List V:=List.replicate n .junk
abbrev a_Contains:Type:=ByteArray×ByteArray
abbrev g_Contains:Type:=Bool
def A_Contains:AR a_Contains:=fun x=>([st x.1,st x.2],[])
def d_Contains(t:TT):a_Contains:=(vS (ag t 0),vS (ag t 1))
theorem v_Contains:VI A_Contains:=vd d_Contains fun _=>rfl
def R_Contains:g_Contains→CRes:=fun z=>.ret (bo z) []
noncomputable def Contains(q:Nat)(x:a_Contains):Option g_Contains:=if x.1.size<4294967281 then some (Lib.contains x.1.data.toList x.2.data.toList)else none
theorem sc_Contains(q:Nat):Lw E5 110 A_Contains R_Contains (Contains q):=by
 rintro⟨s,u⟩ z h
 unfold Contains at h
 split at h
 ·rename_i hn
  cases h
  exact sc5.2 (SC.ext hX (by
   show extF 110 [st s,st u]=_
   simp only[extF,if_pos,st]
   exact if_pos hn))
 ·cases h
abbrev a_Lookup:Type:=ByteArray
abbrev g_Lookup:Type:=Int×Int×Int×Int×Int×Int×Bool
def A_Lookup:AR a_Lookup:=fun x=>([st x],[])
def d_Lookup(t:TT):a_Lookup:=(vS (ag t 0))
theorem v_Lookup:VI A_Lookup:=vd d_Lookup fun _=>rfl
def R_Lookup:g_Lookup→CRes:=fun z=>.ret (.tup [.agg [i64 z.1,i64 z.2.1,i64 z.2.2.1,i64 z.2.2.2.1,i64 z.2.2.2.2.1],i64 z.2.2.2.2.2.1,bo z.2.2.2.2.2.2]) []
def t_Lookup{β:Type}(x:a_Lookup)(dn:g_Lookup→Option β):Option β:=
 if(ByteArray.toList ⟨#[74]⟩==x.toList)=true then dn (1,0,0,0,0,1,true)else if(ByteArray.toList ⟨#[107,74]⟩==x.toList)=true then dn (1,0,0,0,0,1000,true)else if(ByteArray.toList ⟨#[87,104]⟩==x.toList)=true then dn (1,0,0,0,0,3600,true)else if(ByteArray.toList ⟨#[66]⟩==x.toList)=true then dn (0,1,0,0,0,1,true)else if(ByteArray.toList ⟨#[107,66]⟩==x.toList)=true then dn (0,1,0,0,0,1000,true)else if(ByteArray.toList ⟨#[115]⟩==x.toList)=true then dn (0,0,1,0,0,1,true)else if(ByteArray.toList ⟨#[109,105,110]⟩==x.toList)=true then dn (0,0,1,0,0,60,true)else if(ByteArray.toList ⟨#[104]⟩==x.toList)=true then dn (0,0,1,0,0,3600,true)else if(ByteArray.toList ⟨#[100,101,103]⟩==x.toList)=true then dn (0,0,0,1,0,1,true)else if(ByteArray.toList ⟨#[75]⟩==x.toList)=true then dn (0,0,0,0,1,1,true)else if(ByteArray.toList ⟨#[87]⟩==x.toList)=true then dn (1,0,(-1),0,0,1,true)else if(ByteArray.toList ⟨#[107,87]⟩==x.toList)=true then dn (1,0,(-1),0,0,1000,true)else if(ByteArray.toList ⟨#[66,112,115]⟩==x.toList)=true then dn (0,1,(-1),0,0,1,true)else dn (0,0,0,0,0,0,false)
theorem n_Lookup{β:Type}(x)(dn:g_Lookup→Option β):t_Lookup x dn=(t_Lookup x some).bind dn:=by
 unfold t_Lookup
 repeat' first|exact n0|refine n1 fun _=>?_|refine n2 ?_ ?_|refine n3 (fun _=>?_) fun _=>?_|rfl
theorem r_Lookup(x):callK E5 ca0 (loU E5 ca0 [0] lo0 20) 87 (A_Lookup x).1 (A_Lookup x).2 K=t_Lookup x (fun z=>some (.c (R_Lookup z))):=by kernel_rfl
noncomputable def Lookup(q:Nat)(x:a_Lookup):Option g_Lookup:=t_Lookup x some
theorem sc_Lookup(q:Nat):Lw E5 87 A_Lookup R_Lookup (Lookup q):=sof hW5 hX5 ca0_sound (fun _=>(loU_sound ca0_sound hX5 lo0_sound 20)) fun x=>(r_Lookup x).trans (by rw[n_Lookup]<;>rfl)
abbrev a_levelOf:Type:=ByteArray
abbrev g_levelOf:Type:=Int
def A_levelOf:AR a_levelOf:=fun x=>([st x],[])
def d_levelOf(t:TT):a_levelOf:=(vS (ag t 0))
theorem v_levelOf:VI A_levelOf:=vd d_levelOf fun _=>rfl
def R_levelOf:g_levelOf→CRes:=fun z=>.ret (i64 z) []
def t_levelOf{β:Type}(x:a_levelOf)(dn:g_levelOf→Option β):Option β:=
 if(x.toList==ByteArray.toList ⟨#[124,124]⟩)=true then dn (1)else if(x.toList==ByteArray.toList ⟨#[38,38]⟩)=true then dn (2)else if(x.toList==ByteArray.toList ⟨#[60]⟩)=true then dn (4)else if(x.toList==ByteArray.toList ⟨#[60,61]⟩)=true then dn (4)else if(x.toList==ByteArray.toList ⟨#[62]⟩)=true then dn (4)else if(x.toList==ByteArray.toList ⟨#[62,61]⟩)=true then dn (4)else if(x.toList==ByteArray.toList ⟨#[61,61]⟩)=true then dn (4)else if(x.toList==ByteArray.toList ⟨#[33,61]⟩)=true then dn (4)else if(x.toList==ByteArray.toList ⟨#[43]⟩)=true then dn (5)else if(x.toList==ByteArray.toList ⟨#[45]⟩)=true then dn (5)else if(x.toList==ByteArray.toList ⟨#[42]⟩)=true then dn (6)else if(x.toList==ByteArray.toList ⟨#[47]⟩)=true then dn (6)else dn (0)
theorem n_levelOf{β:Type}(x)(dn:g_levelOf→Option β):t_levelOf x dn=(t_levelOf x some).bind dn:=by
 unfold t_levelOf
 repeat' first|exact n0|refine n1 fun _=>?_|refine n2 ?_ ?_|refine n3 (fun _=>?_) fun _=>?_|rfl
theorem r_levelOf(x):callK E5 ca0 lo0 78 (A_levelOf x).1 (A_levelOf x).2 K=t_levelOf x (fun z=>some (.c (R_levelOf z))):=by kernel_rfl
noncomputable def levelOf(q:Nat)(x:a_levelOf):Option g_levelOf:=t_levelOf x some
theorem sc_levelOf(q:Nat):Lw E5 78 A_levelOf R_levelOf (levelOf q):=sof hW5 hX5 ca0_sound (fun _=>lo0_sound) fun x=>(r_levelOf x).trans (by rw[n_levelOf]<;>rfl)
abbrev a_fail:Type:=Int×SP
abbrev g_fail:Type:=Int×Int
def A_fail:AR a_fail:=fun x=>([.ptr 0 0,i64 x.1],(hHP x.2))
def d_fail(t:TT):a_fail:=((vI (ag t 1)),dHP t.2)
theorem v_fail:VI A_fail:=vd d_fail fun _=>rfl
def R_fail:g_fail→CRes:=fun z=>.pan (.ifc 45 (.agg [i64 z.1,i64 z.2]))
def t_fail{β:Type}(x:a_fail)(dn:g_fail→Option β):Option β:=
 if 0≤x.2.1∧x.2.1< ((x.2.2.2.1:Nat):Int)then dn (x.2.2.2.2.2.1 (Int.toNat x.2.1),x.1)else none
theorem n_fail{β:Type}(x)(dn:g_fail→Option β):t_fail x dn=(t_fail x some).bind dn:=by
 unfold t_fail
 repeat' first|exact n0|refine n1 fun _=>?_|refine n2 ?_ ?_|refine n3 (fun _=>?_) fun _=>?_|rfl
theorem r_fail(x):callK E5 ca0 lo0 55 (A_fail x).1 (A_fail x).2 K=t_fail x (fun z=>some (.c (R_fail z))):=by kernel_rfl
noncomputable def fail(q:Nat)(x:a_fail):Option g_fail:=t_fail x some
theorem sc_fail(q:Nat):Lw E5 55 A_fail R_fail (fail q):=sof hW5 hX5 ca0_sound (fun _=>lo0_sound) fun x=>(r_fail x).trans (by rw[n_fail]<;>rfl)
abbrev a_next:Type:=SP
abbrev g_next:Type:=Int×Int×ByteArray×Int×SP
def A_next:AR a_next:=fun x=>([.ptr 0 0],(hHP x))
def d_next(t:TT):a_next:=(dHP t.2)
theorem v_next:VI A_next:=vd d_next fun _=>rfl
def R_next:g_next→CRes:=fun z=>.ret (.agg [i64 z.1,i64 z.2.1,st z.2.2.1,i64 z.2.2.2.1]) (hHP z.2.2.2.2)
def t_next{β:Type}(x:a_next)(dn:g_next→Option β):Option β:=
 if 0≤x.1∧x.1< ((x.2.2.1:Nat):Int)then dn (x.2.2.2.1 (Int.toNat x.1),x.2.2.2.2.1 (Int.toNat x.1),x.2.2.2.2.2.1 (Int.toNat x.1),x.2.2.2.2.2.2.1 (Int.toNat x.1),x)else none
theorem n_next{β:Type}(x)(dn:g_next→Option β):t_next x dn=(t_next x some).bind dn:=by
 unfold t_next
 repeat' first|exact n0|refine n1 fun _=>?_|refine n2 ?_ ?_|refine n3 (fun _=>?_) fun _=>?_|rfl
theorem r_next(x):callK E5 ca0 lo0 22 (A_next x).1 (A_next x).2 K=t_next x (fun z=>some (.c (R_next z))):=by kernel_rfl
noncomputable def next(q:Nat)(x:a_next):Option g_next:=t_next x some
theorem sc_next(q:Nat):Lw E5 22 A_next R_next (next q):=sof hW5 hX5 ca0_sound (fun _=>lo0_sound) fun x=>(r_next x).trans (by rw[n_next]<;>rfl)
abbrev a_is:Type:=ByteArray×SP
abbrev g_is:Type:=Bool×SP
def A_is:AR a_is:=fun x=>([.ptr 0 0,st x.1],(hHP x.2))
def d_is(t:TT):a_is:=((vS (ag t 1)),dHP t.2)
theorem v_is:VI A_is:=vd d_is fun _=>rfl
def R_is:g_is→CRes:=fun z=>.ret (bo z.1) (hHP z.2)
def t_is{β:Type}(x:a_is)(dn:g_is→Option β):Option β:=
 if 0≤x.2.1∧x.2.1< ((x.2.2.2.1:Nat):Int)then dn (ByteArray.toList (x.2.2.2.2.2.2.1 (Int.toNat x.2.1))==x.1.toList,x.2)else none
theorem n_is{β:Type}(x)(dn:g_is→Option β):t_is x dn=(t_is x some).bind dn:=by
 unfold t_is
 repeat' first|exact n0|refine n1 fun _=>?_|refine n2 ?_ ?_|refine n3 (fun _=>?_) fun _=>?_|rfl
theorem r_is(x):callK E5 ca0 lo0 109 (A_is x).1 (A_is x).2 K=t_is x (fun z=>some (.c (R_is z))):=by kernel_rfl
noncomputable def is(q:Nat)(x:a_is):Option g_is:=t_is x some
theorem sc_is(q:Nat):Lw E5 109 A_is R_is (is q):=sof hW5 hX5 ca0_sound (fun _=>lo0_sound) fun x=>(r_is x).trans (by rw[n_is]<;>rfl)
abbrev a_take:Type:=ByteArray×SP
abbrev g_take:Type:=Bool×SP
def A_take:AR a_take:=fun x=>([.ptr 0 0,st x.1],(hHP x.2))
def d_take(t:TT):a_take:=((vS (ag t 1)),dHP t.2)
theorem v_take:VI A_take:=vd d_take fun _=>rfl
def R_take:g_take→CRes:=fun z=>.ret (bo z.1) (hHP z.2)
def t_take{β:Type}(c_is:a_is→Option g_is)(x:a_take)(dn:g_take→Option β):Option β:=
 (c_is x).bind fun z12=>if z12.1=true then dn (true,w (z12.2.1+1),z12.2.2)else dn (false,z12.2)
theorem n_take{β:Type}(c_is)(x)(dn:g_take→Option β):t_take c_is x dn=(t_take c_is x some).bind dn:=by
 unfold t_take
 repeat' first|exact n0|refine n1 fun _=>?_|refine n2 ?_ ?_|refine n3 (fun _=>?_) fun _=>?_|rfl
theorem r_take(c_is)(x):callK E5 (ftb 109 A_is R_is c_is ca0) lo0 84 (A_take x).1 (A_take x).2 K=t_take (vf A_is c_is) x (fun z=>some (.c (R_take z))):=by kernel_rfl
noncomputable def take(q:Nat)(x:a_take):Option g_take:=t_take (is q) x some
theorem sc_take(q:Nat):Lw E5 84 A_take R_take (take q):=sof hW5 hX5 (fk (sc_is q) ca0_sound) (fun _=>lo0_sound) fun x=>(r_take (is q) x).trans (by rw[v_is,n_take]<;>rfl)
abbrev a_must:Type:=ByteArray×SP
abbrev g_must:Type:=(SP)⊕(Int×Int)
def A_must:AR a_must:=fun x=>([.ptr 0 0,st x.1],(hHP x.2))
def d_must(t:TT):a_must:=((vS (ag t 1)),dHP t.2)
theorem v_must:VI A_must:=vd d_must fun _=>rfl
def R_must:g_must→CRes:=Sum.elim (fun z:SP=>.ret (.tup []) (hHP z)) (fun z:Int×Int=>.pan (.ifc 45 (.agg [i64 z.1,i64 z.2])))
def t_must{β:Type}(c_take:a_take→Option g_take)(c_fail:a_fail→Option g_fail)(x:a_must)(dn:g_must→Option β):Option β:=
 (c_take x).bind fun z12=>if(!z12.1)=true then(c_fail (11,z12.2)).bind fun z25=>dn (.inr z25)else dn (.inl z12.2)
theorem n_must{β:Type}(c_take c_fail)(x)(dn:g_must→Option β):t_must c_take c_fail x dn=(t_must c_take c_fail x some).bind dn:=by
 unfold t_must
 repeat' first|exact n0|refine n1 fun _=>?_|refine n2 ?_ ?_|refine n3 (fun _=>?_) fun _=>?_|rfl
theorem r_must(c_take c_fail)(x):callK E5 (ftb 84 A_take R_take c_take (ftb 55 A_fail R_fail c_fail ca0)) lo0 53 (A_must x).1 (A_must x).2 K=t_must (vf A_take c_take) (vf A_fail c_fail) x (fun z=>some (.c (R_must z))):=by kernel_rfl
noncomputable def must(q:Nat)(x:a_must):Option g_must:=t_must (take q) (fail q) x some
theorem sc_must(q:Nat):Lw E5 53 A_must R_must (must q):=sof hW5 hX5 (fk (sc_take q) (fk (sc_fail q) ca0_sound)) (fun _=>lo0_sound) fun x=>(r_must (take q) (fail q) x).trans (by rw[v_take,v_fail,n_must]<;>rfl)
abbrev a_opens:Type:=ByteArray×SP
abbrev g_opens:Type:=(SP)⊕(Int×Int)
def A_opens:AR a_opens:=fun x=>([.ptr 0 0,st x.1],(hHP x.2))
def d_opens(t:TT):a_opens:=((vS (ag t 1)),dHP t.2)
theorem v_opens:VI A_opens:=vd d_opens fun _=>rfl
def R_opens:g_opens→CRes:=Sum.elim (fun z:SP=>.ret (.tup []) (hHP z)) (fun z:Int×Int=>.pan (.ifc 45 (.agg [i64 z.1,i64 z.2])))
def t_opens{β:Type}(c_is:a_is→Option g_is)(c_fail:a_fail→Option g_fail)(x:a_opens)(dn:g_opens→Option β):Option β:=
 (c_is x).bind fun z12=>if(!z12.1)=true then(c_fail (11,z12.2)).bind fun z25=>dn (.inr z25)else if(z12.2.2.1==12)=true then(c_fail (2,z12.2)).bind fun z38=>dn (.inr z38)else dn (.inl (w (z12.2.1+1),w (z12.2.2.1+1),z12.2.2.2))
theorem n_opens{β:Type}(c_is c_fail)(x)(dn:g_opens→Option β):t_opens c_is c_fail x dn=(t_opens c_is c_fail x some).bind dn:=by
 unfold t_opens
 repeat' first|exact n0|refine n1 fun _=>?_|refine n2 ?_ ?_|refine n3 (fun _=>?_) fun _=>?_|rfl
theorem r_opens(c_is c_fail)(x):callK E5 (ftb 109 A_is R_is c_is (ftb 55 A_fail R_fail c_fail ca0)) lo0 88 (A_opens x).1 (A_opens x).2 K=t_opens (vf A_is c_is) (vf A_fail c_fail) x (fun z=>some (.c (R_opens z))):=by kernel_rfl
noncomputable def opens(q:Nat)(x:a_opens):Option g_opens:=t_opens (is q) (fail q) x some
theorem sc_opens(q:Nat):Lw E5 88 A_opens R_opens (opens q):=sof hW5 hX5 (fk (sc_is q) (fk (sc_fail q) ca0_sound)) (fun _=>lo0_sound) fun x=>(r_opens (is q) (fail q) x).trans (by rw[v_is,v_fail,n_opens]<;>rfl)
abbrev a_reserved:Type:=ByteArray
abbrev g_reserved:Type:=Bool
def A_reserved:AR a_reserved:=fun x=>([st x],[])
def d_reserved(t:TT):a_reserved:=(vS (ag t 0))
theorem v_reserved:VI A_reserved:=vd d_reserved fun _=>rfl
def R_reserved:g_reserved→CRes:=fun z=>.ret (bo z) []
def t_reserved{β:Type}(c_Contains:a_Contains→Option g_Contains)(x:a_reserved)(dn:g_reserved→Option β):Option β:=
 if 1+x.size≤maxLen then if ByteArray.size (⟨#[32]⟩++x)+1≤maxLen then(c_Contains ({data:=List.toArray (List.append [32,112,114,111,99,101,100,117,114,101,32,108,101,116,32,105,102,32,101,108,115,101,32,114,101,112,101,97,116,32,119,97,105,116,32,97,119,97,105,116,32,119,105,116,104,105,110,32,114,101,113,117,105] [114,101,32,112,111,105,110,116,32,117,115,101,32,102,111,114,32,115,101,110,100,32,107,101,101,112,32,101,109,105,116,32,97,98,111,114,116,32,116,114,117,101,32,102,97,108,115,101,32,116,108,109,32])},⟨#[32]⟩++x++⟨#[32]⟩)).bind fun z2=>dn z2 else none else none
theorem n_reserved{β:Type}(c_Contains)(x)(dn:g_reserved→Option β):t_reserved c_Contains x dn=(t_reserved c_Contains x some).bind dn:=by
 unfold t_reserved
 repeat' first|exact n0|refine n1 fun _=>?_|refine n2 ?_ ?_|refine n3 (fun _=>?_) fun _=>?_|rfl
theorem r_reserved(c_Contains)(x):callK E5 (ftb 110 A_Contains R_Contains c_Contains ca0) lo0 85 (A_reserved x).1 (A_reserved x).2 K=t_reserved (vf A_Contains c_Contains) x (fun z=>some (.c (R_reserved z))):=by kernel_rfl
noncomputable def reserved(q:Nat)(x:a_reserved):Option g_reserved:=t_reserved (Contains q) x some
theorem sc_reserved(q:Nat):Lw E5 85 A_reserved R_reserved (reserved q):=sof hW5 hX5 (fk (sc_Contains q) ca0_sound) (fun _=>lo0_sound) fun x=>(r_reserved (Contains q) x).trans (by rw[v_Contains,n_reserved]<;>rfl)
abbrev a_name:Type:=SP
abbrev g_name:Type:=(ByteArray×SP)⊕(Int×Int)
def A_name:AR a_name:=fun x=>([.ptr 0 0],(hHP x))
def d_name(t:TT):a_name:=(dHP t.2)
theorem v_name:VI A_name:=vd d_name fun _=>rfl
def R_name:g_name→CRes:=Sum.elim (fun z:ByteArray×SP=>.ret (st z.1) (hHP z.2)) (fun z:Int×Int=>.pan (.ifc 45 (.agg [i64 z.1,i64 z.2])))
def t_name{β:Type}(c_next:a_next→Option g_next)(c_reserved:a_reserved→Option g_reserved)(c_fail:a_fail→Option g_fail)(x:a_name)(dn:g_name→Option β):Option β:=
 (c_next x).bind fun z11=>if(z11.1 !=1)=true then(c_fail (11,z11.2.2.2.2)).bind fun z24=>dn (.inr z24)else(c_reserved z11.2.2.1).bind fun z26=>if z26=true then(c_fail (11,z11.2.2.2.2)).bind fun z39=>dn (.inr z39)else dn (.inl (z11.2.2.1,w (z11.2.2.2.2.1+1),z11.2.2.2.2.2))
theorem n_name{β:Type}(c_next c_reserved c_fail)(x)(dn:g_name→Option β):t_name c_next c_reserved c_fail x dn=(t_name c_next c_reserved c_fail x some).bind dn:=by
 unfold t_name
 repeat' first|exact n0|refine n1 fun _=>?_|refine n2 ?_ ?_|refine n3 (fun _=>?_) fun _=>?_|rfl
theorem r_name(c_next c_reserved c_fail)(x):callK E5 (ftb 22 A_next R_next c_next (ftb 85 A_reserved R_reserved c_reserved (ftb 55 A_fail R_fail c_fail ca0))) lo0 54 (A_name x).1 (A_name x).2 K=t_name (vf A_next c_next) (vf A_reserved c_reserved) (vf A_fail c_fail) x (fun z=>some (.c (R_name z))):=by kernel_rfl
noncomputable def name(q:Nat)(x:a_name):Option g_name:=t_name (next q) (reserved q) (fail q) x some
theorem sc_name(q:Nat):Lw E5 54 A_name R_name (name q):=sof hW5 hX5 (fk (sc_next q) (fk (sc_reserved q) (fk (sc_fail q) ca0_sound))) (fun _=>lo0_sound) fun x=>(r_name (next q) (reserved q) (fail q) x).trans (by rw[v_next,v_reserved,v_fail,n_name]<;>rfl)
abbrev a_declare:Type:=SP
abbrev g_declare:Type:=(ByteArray×SP)⊕(Int×Int)
def A_declare:AR a_declare:=fun x=>([.ptr 0 0],(hHP x))
def d_declare(t:TT):a_declare:=(dHP t.2)
theorem v_declare:VI A_declare:=vd d_declare fun _=>rfl
def R_declare:g_declare→CRes:=Sum.elim (fun z:ByteArray×SP=>.ret (st z.1) (hHP z.2)) (fun z:Int×Int=>.pan (.ifc 45 (.agg [i64 z.1,i64 z.2])))
abbrev declare_l0_a:Type:=ByteArray×Nat×Int×Nat×FI×FI×FS×FI×Int×Int×Nat×FS×FS×Int
abbrev declare_l0_g:Type:=(Int×Int)⊕(ByteArray×SC2)
def declare_l0_S(x:a_declare)(y:declare_l0_a):St:={fr:=[V.ptr 0 0,V.junk,V.junk,st y.1]++jk 14++[V.sl 1 1 0 y.2.1,i64 y.2.2.1,i64 y.2.2.2.2.2.2.2.2.2.2.2.2.2]++jk 35,H:=hp [some (Chunk.blk [V.ro 4 y.2.2.2.1 fun j=>[i64 (y.2.2.2.2.1 j),i64 (y.2.2.2.2.2.1 j),st (y.2.2.2.2.2.2.1 j),i64 (y.2.2.2.2.2.2.2.1 j)],i64 y.2.2.2.2.2.2.2.2.1,i64 y.2.2.2.2.2.2.2.2.2.1,V.sl 1 1 0 y.2.1,V.sl 2 1 0 y.2.2.2.2.2.2.2.2.2.2.1]),some (Chunk.row 9 1 y.2.1 fun j=>[st (y.2.2.2.2.2.2.2.2.2.2.2.1 j)]),some (Chunk.row 9 1 y.2.2.2.2.2.2.2.2.2.2.1 fun j=>[st (y.2.2.2.2.2.2.2.2.2.2.2.2.1 j)])],nx:=3,rt:=1,me:=86}
def declare_l0_d(s:St):declare_l0_a:=((vS (s.fr.getD 3 .junk)),vSlN (s.fr.getD 18 .junk),vI (s.fr.getD 19 .junk),vRoN (cb s 0 0),dTI (cb s 0 0) 0,dTI (cb s 0 0) 1,dTS (cb s 0 0) 2,dTI (cb s 0 0) 3,vI (cb s 0 1),vI (cb s 0 2),vSlN (cb s 0 4),dRS (s.H 1) 0,dRS (s.H 2) 0,vI (s.fr.getD 20 .junk))
theorem declare_l0_u(x:a_declare):VL (declare_l0_S x):=vl declare_l0_d fun _=>rfl
def declare_l0_T(x:a_declare):declare_l0_g→Ex×St:=(Sum.elim (fun z=>(Ex.panic (V.ifc 45 (V.agg [i64 z.1,i64 z.2])),{fr:=[V.junk]++jk 55,H:=hp [none],nx:=1,rt:=1,me:=86})) (fun z=>(Ex.exit 0,{fr:=[V.ptr 0 0,V.junk,V.junk,st z.1]++jk 52,H:=hp [some (hPB z.2),some (hPV z.2),some (hPQ0 z.2)],nx:=3,rt:=1,me:=86})))
def declare_l0_t{β:Type}(c_name:a_name→Option g_name)(c_fail:a_fail→Option g_fail)(x:a_declare)(y:declare_l0_a)(nx:declare_l0_a→Option β)(dn:declare_l0_g→Option β):Option β:=
 if decide (y.2.2.2.2.2.2.2.2.2.2.2.2.2<y.2.2.1)=true then if 0≤y.2.2.2.2.2.2.2.2.2.2.2.2.2∧y.2.2.2.2.2.2.2.2.2.2.2.2.2< ((y.2.1:Nat):Int)then if 0+Int.toNat y.2.2.2.2.2.2.2.2.2.2.2.2.2<y.2.1∧1=1 then if(ByteArray.toList (y.2.2.2.2.2.2.2.2.2.2.2.1 (0+Int.toNat y.2.2.2.2.2.2.2.2.2.2.2.2.2))==y.1.toList)=true then(c_fail (4,y.2.2.2.2.2.2.2.2.1,y.2.2.2.2.2.2.2.2.2.1,y.2.2.2.1,y.2.2.2.2.1,y.2.2.2.2.2.1,y.2.2.2.2.2.2.1,y.2.2.2.2.2.2.2.1,y.2.1,y.2.2.2.2.2.2.2.2.2.2.2.1,y.2.2.2.2.2.2.2.2.2.2.1,y.2.2.2.2.2.2.2.2.2.2.2.2.1)).bind fun z162=>dn (.inl z162)else nx (y.1,y.2.1,y.2.2.1,y.2.2.2.1,y.2.2.2.2.1,y.2.2.2.2.2.1,y.2.2.2.2.2.2.1,y.2.2.2.2.2.2.2.1,y.2.2.2.2.2.2.2.2.1,y.2.2.2.2.2.2.2.2.2.1,y.2.2.2.2.2.2.2.2.2.2.1,y.2.2.2.2.2.2.2.2.2.2.2.1,y.2.2.2.2.2.2.2.2.2.2.2.2.1,w (y.2.2.2.2.2.2.2.2.2.2.2.2.2+1))else none else none else dn (.inr (y.1,y.2.2.2.1,y.2.2.2.2.1,y.2.2.2.2.2.1,y.2.2.2.2.2.2.1,y.2.2.2.2.2.2.2.1,y.2.2.2.2.2.2.2.2.1,y.2.2.2.2.2.2.2.2.2.1,y.2.1,y.2.2.2.2.2.2.2.2.2.2.1,y.2.2.2.2.2.2.2.2.2.2.2.1,y.2.2.2.2.2.2.2.2.2.2.2.2.1))
theorem declare_l0_n{β:Type}(c_name c_fail)(x)(y)(nx:declare_l0_a→Option β)(dn):declare_l0_t c_name c_fail x y nx dn=(declare_l0_t c_name c_fail x y (fun y=>some (.inl y)) (fun z=>some (.inr z))).bind fun r=>Sum.elim nx dn r:=by
 unfold declare_l0_t
 repeat' first|exact n0|refine n1 fun _=>?_|refine n2 ?_ ?_|refine n3 (fun _=>?_) fun _=>?_|rfl
theorem declare_l0_r(c_name c_fail)(x)(y)(lo:LoopT):loopK E5 (ft2 54 A_name R_name c_name (ftb 55 A_fail R_fail c_fail ca0)) lo 0 1835017 (bodyOf E5 86 0) (declare_l0_S x y) (KCM [(0,9)] 4)=declare_l0_t (vf A_name c_name) (vf A_fail c_fail) x y (fun y=>lo 0 1835017 (bodyOf E5 86 0) (declare_l0_S x y) (KCM [(0,9)] 4)) (fun z=>some (.l (declare_l0_T x z).1 (declare_l0_T x z).2)):=by kernel_rfl
noncomputable def declare_l0(c_name:a_name→Option g_name)(c_fail:a_fail→Option g_fail)(q:Nat)(x:a_declare):declare_l0_a→Option declare_l0_g:=lpG (fun y=>declare_l0_t c_name c_fail x y (fun y=>some (.inl y)) (fun z=>some (.inr z))) q
theorem declare_l0_s(c_name)(h_name:Lw E5 54 A_name R_name c_name)(c_fail)(h_fail:Lw E5 55 A_fail R_fail c_fail)(q:Nat)(x:a_declare):Ll E5 (bodyOf E5 86 0) (declare_l0_S x) (declare_l0_T x) (declare_l0 c_name c_fail q x):=
 slp (fk2 h_name (fk h_fail ca0_sound)) hX5 (fun lo y=>(declare_l0_r c_name c_fail x y lo).trans (by rw[v_name,v_fail];exact declare_l0_n _ _ _ _ _ _)) (fun z=>by rcases z with z|z<;>kernel_rfl) q
def t_declare{β:Type}(c_name:a_name→Option g_name)(c_fail:a_fail→Option g_fail)(l_declare_l0:declare_l0_a→Option declare_l0_g)(x:a_declare)(dn:g_declare→Option β):Option β:=
 (c_name x).bind fun z11=>Sum.elim (fun z11a=>(l_declare_l0 (z11a.1,z11a.2.2.2.2.2.2.2.2.1,((z11a.2.2.2.2.2.2.2.2.1:Nat):Int),z11a.2.2.2.1,z11a.2.2.2.2.1,z11a.2.2.2.2.2.1,z11a.2.2.2.2.2.2.1,z11a.2.2.2.2.2.2.2.1,w (z11a.2.1-1),z11a.2.2.1,z11a.2.2.2.2.2.2.2.2.2.2.1,z11a.2.2.2.2.2.2.2.2.2.1,z11a.2.2.2.2.2.2.2.2.2.2.2,0)).bind fun z108=>Sum.elim (fun z108a=>dn (.inr z108a)) (fun z108b=>if(((z108b.2.2.2.2.2.2.2.2.1:Nat):Int)==12)=true then(c_fail (2,z108b.2.2.2.2.2.2.1,z108b.2.2.2.2.2.2.2.1,z108b.2.1,z108b.2.2.1,z108b.2.2.2.1,z108b.2.2.2.2.1,z108b.2.2.2.2.2.1,z108b.2.2.2.2.2.2.2.2.1,z108b.2.2.2.2.2.2.2.2.2.2.1,z108b.2.2.2.2.2.2.2.2.2.1,z108b.2.2.2.2.2.2.2.2.2.2.2)).bind fun z122=>dn (.inr z122)else if(z108b.2.2.2.2.2.2.2.2.1+1)*16≤roomBound∧z108b.2.2.2.2.2.2.2.2.1+1≤maxLen∧z108b.2.2.2.2.2.2.2.2.1≤z108b.2.2.2.2.2.2.2.2.1 then dn (.inl (z108b.1,w (z108b.2.2.2.2.2.2.1+1),z108b.2.2.2.2.2.2.2.1,z108b.2.1,z108b.2.2.1,z108b.2.2.2.1,z108b.2.2.2.2.1,z108b.2.2.2.2.2.1,z108b.2.2.2.2.2.2.2.2.1+1,fun j=>if j<z108b.2.2.2.2.2.2.2.2.1 then z108b.2.2.2.2.2.2.2.2.2.2.1 j else z108b.1,z108b.2.2.2.2.2.2.2.2.2.1,z108b.2.2.2.2.2.2.2.2.2.2.2))else none) z108) (fun z11b=>dn (.inr z11b)) z11
theorem n_declare{β:Type}(c_name c_fail)(l_declare_l0)(x)(dn:g_declare→Option β):t_declare c_name c_fail l_declare_l0 x dn=(t_declare c_name c_fail l_declare_l0 x some).bind dn:=by
 unfold t_declare
 repeat' first|exact n0|refine n1 fun _=>?_|refine n2 ?_ ?_|refine n3 (fun _=>?_) fun _=>?_|rfl
theorem r_declare(c_name c_fail)(l_declare_l0)(x):callK E5 (ft2 54 A_name R_name c_name (ftb 55 A_fail R_fail c_fail ca0)) (lt2 0 (fun _=>true) (bodyOf E5 86 0) (declare_l0_S x) (declare_l0_T x) l_declare_l0 lo0) 86 (A_declare x).1 (A_declare x).2 K=t_declare (vf A_name c_name) (vf A_fail c_fail) (lf (bodyOf E5 86 0) (declare_l0_S x) l_declare_l0) x (fun z=>some (.c (R_declare z))):=by kernel_rfl
noncomputable def declare(q:Nat)(x:a_declare):Option g_declare:=t_declare (name q) (fail q) (declare_l0 (name q) (fail q) q x) x some
theorem sc_declare(q:Nat):Lw E5 86 A_declare R_declare (declare q):=sof hW5 hX5 (fk2 (sc_name q) (fk (sc_fail q) ca0_sound)) (fun x=>(lk2 (declare_l0_s (name q) (sc_name q) (fail q) (sc_fail q) q x) lo0_sound)) fun x=>(r_declare (name q) (fail q) (declare_l0 (name q) (fail q) q x) x).trans (by rw[v_name,v_fail,declare_l0_u,n_declare]<;>rfl)
abbrev a_number:Type:=Int×Int×SP
abbrev g_number:Type:=(Int×SP)⊕(Int×Int)
def A_number:AR a_number:=fun x=>([.ptr 0 0,i64 x.1,i64 x.2.1],(hHP x.2.2))
def d_number(t:TT):a_number:=((vI (ag t 1)),vI (ag t 2),dHP t.2)
theorem v_number:VI A_number:=vd d_number fun _=>rfl
def R_number:g_number→CRes:=Sum.elim (fun z:Int×SP=>.ret (i64 z.1) (hHP z.2)) (fun z:Int×Int=>.pan (.ifc 45 (.agg [i64 z.1,i64 z.2])))
def t_number{β:Type}(c_next:a_next→Option g_next)(c_fail:a_fail→Option g_fail)(x:a_number)(dn:g_number→Option β):Option β:=
 (c_next x.2.2).bind fun z11=>if(z11.1 !=2)=true then(c_fail (11,z11.2.2.2.2)).bind fun z24=>dn (.inr z24)else if decide (z11.2.2.2.1<x.1)=true then(c_fail (5,z11.2.2.2.2)).bind fun z37=>dn (.inr z37)else if decide (z11.2.2.2.1>x.2.1)=true then(c_fail (5,z11.2.2.2.2)).bind fun z50=>dn (.inr z50)else dn (.inl (z11.2.2.2.1,w (z11.2.2.2.2.1+1),z11.2.2.2.2.2))
theorem n_number{β:Type}(c_next c_fail)(x)(dn:g_number→Option β):t_number c_next c_fail x dn=(t_number c_next c_fail x some).bind dn:=by
 unfold t_number
 repeat' first|exact n0|refine n1 fun _=>?_|refine n2 ?_ ?_|refine n3 (fun _=>?_) fun _=>?_|rfl
theorem r_number(c_next c_fail)(x):callK E5 (ftb 22 A_next R_next c_next (ftb 55 A_fail R_fail c_fail ca0)) lo0 137 (A_number x).1 (A_number x).2 K=t_number (vf A_next c_next) (vf A_fail c_fail) x (fun z=>some (.c (R_number z))):=by kernel_rfl
noncomputable def number(q:Nat)(x:a_number):Option g_number:=t_number (next q) (fail q) x some
theorem sc_number(q:Nat):Lw E5 137 A_number R_number (number q):=sof hW5 hX5 (fk (sc_next q) (fk (sc_fail q) ca0_sound)) (fun _=>lo0_sound) fun x=>(r_number (next q) (fail q) x).trans (by rw[v_next,v_fail,n_number]<;>rfl)
end Go.Proofs.YtjfkkokeegpeiaaGreatDoor
/- The library's builder, in a block of the printer's type: copyCheck, String. -/
namespace Go.Proofs.YtjfkkokeegpeiaaGreatDoor
open Go Go.Am Go.RowKit Go.Shelf
set_option maxRecDepth 100000
section
variable {P:Program} {ρ:Ren}
set_option maxHeartbeats 1000000 in
theorem any_copyCheck_used(L:Lays.n240 P ρ){j:TypeInfo}(hj:P.info? (ρ.t 72)=some j)(b:Nat)(w:World)(h0:w.cell? ⟨b,0,none⟩=some (.pointer (some ⟨b,0,none⟩))):
 Calls P (ρ.f 240) #[.pointer (some ⟨b,0,none⟩)] w fun e w'=>e= .returned (.tuple #[])∧w'=w:=by
 have mixed:=L.mixed
 have t72:=L.t72;have a72:=L.a72;have z72:=L.z72;have v72:=L.v72;have u72:=run_underlying L.t72
 have t70:=L.t70;have a70:=L.a70;have z70:=L.z70;have v70:=L.v70;have u70:=run_underlying L.t70
 have t9:=L.t9;have a9:=L.a9;have z9:=L.z9;have v9:=L.v9;have u9:=run_underlying L.t9
 have t4:=L.t4;have a4:=L.a4;have z4:=L.z4;have v4:=L.v4;have u4:=run_underlying L.t4
 have t164:=L.t164;have a164:=L.a164;have z164:=L.z164;have v164:=L.v164;have u164:=run_underlying L.t164
 go_enter L.f240,Body.n240_ntmps ρ
 go_wp2
 rw[Lib.run_neq_ptr_same w _ L.t70 hj]
 go_wp2
 go_end0
 exact⟨rfl,rfl⟩
set_option maxHeartbeats 1000000 in
theorem any_copyCheck_fresh(L:Lays.n240 P ρ){j:TypeInfo}(hj:P.info? (ρ.t 72)=some j)(hjs:j.size=2){T:TypeId}(hl:liesAt P P.depth T (2/P.cellsOf T) 0 (ρ.t 72) 1=true)(b:Nat)(w:World)(h0:w.cell? ⟨b,0,none⟩=some (.pointer none))(hsh:w.shape? b=some (T,2))(hfz:w.frozen? ⟨b,0,none⟩=false):
 Calls P (ρ.f 240) #[.pointer (some ⟨b,0,none⟩)] w fun e w'=>e= .returned (.tuple #[])∧w'=w.setCell ⟨b,0,none⟩ (.pointer (some ⟨b,0,none⟩)):=by
 have mixed:=L.mixed
 have t72:=L.t72;have a72:=L.a72;have z72:=L.z72;have v72:=L.v72;have u72:=run_underlying L.t72
 have t70:=L.t70;have a70:=L.a70;have z70:=L.z70;have v70:=L.v70;have u70:=run_underlying L.t70
 have t9:=L.t9;have a9:=L.a9;have z9:=L.z9;have v9:=L.v9;have u9:=run_underlying L.t9
 have t4:=L.t4;have a4:=L.a4;have z4:=L.z4;have v4:=L.v4;have u4:=run_underlying L.t4
 have t164:=L.t164;have a164:=L.a164;have z164:=L.z164;have v164:=L.v164;have u164:=run_underlying L.t164
 go_enter L.f240,Body.n240_ntmps ρ
 go_wp2
 rw[Lib.run_to_unsafe w ⟨b,0,none⟩ L.t70 L.t164 hj (by rw[hjs];decide) hsh (Nat.zero_lt_succ 1)]
 simp only[Result.andThen]
 rw[Oper.upon_value]
 go_wp2
 rw[run_callFunc_extern L.f276 (by kernel_rfl) (by kernel_rfl) (by kernel_rfl) (e:=Extern.AbiNoEscape.same) (by kernel_rfl)]
 rw[Lib.run_noEscape]
 simp only[Result.andThen]
 rw[Oper.upon_value]
 go_wp2
 rw[Lib.run_from_unsafe w ⟨b,0,none⟩ L.t164 L.t70 hj hsh hl]
 simp only[Result.andThen]
 rw[Oper.upon_value]
 go_wp2
 go_end0
 exact⟨rfl,rfl⟩
set_option maxHeartbeats 2000000 in
theorem any_String_row(L:Lays.n169 P ρ)(X:Builder.Extra P ρ)(b g cap len:Nat)(cur:Array Value)(w:World)(l:List UInt8)(hlen:l.length=len)(h0:l≠[])(c1':w.drew.cell? ⟨b,1,none⟩=some (.slice (some ⟨g,0,none⟩) len cap))(hg:w.heap[g]? =some (.cells cur (ρ.t 5) (0,0)))
 (hcm:cap≤maxLen) (hnc:len≤cap) (hcs:cur.size=cap) (hcell:∀j x,l[j]? =some x→w.cell? ⟨g,j,none⟩=some (.int .u8 x.toNat)):
 Calls P (ρ.f 169) #[.pointer (some ⟨b,0,none⟩)] w fun e w'=>e= .returned (.string ⟨l.toArray⟩)∧w'=w.drew.freeze ⟨g,0,none⟩ len:=by
 subst hlen
 have hl0:l.length≠0:=by simpa using h0
 have c1:=c1'
 have hSD:(Builtin.unsafeSliceData_ #[(ρ.t 37)] (ρ.t 127) #[.slice (some ⟨g,0,none⟩) l.length cap]).run P w.drew= .ok (.pointer (some ⟨g,0,none⟩)) w.drew:=
  Lib.run_unsafeSliceData_row _ _ _ _ _ _ (by omega)
 have hUS:(Builtin.unsafeString_ #[(ρ.t 127),(ρ.t 3)] (ρ.t 9) #[.pointer (some ⟨g,0,none⟩),.int .i64 l.length]).run P w.drew= .ok (.string ⟨l.toArray⟩) (w.drew.freeze ⟨g,0,none⟩ l.length):=by
  refine Lib.run_unsafeString_row w.drew (ρ.t 127) (ρ.t 3) (ρ.t 9) (ρ.t 5) L.t127 X.cellsByte g cur.size (by have hg':w.drew.heap[g]? =some (.cells cur (ρ.t 5) (0,0)):=hg;simp[World.shape?,hg']) l h0 (by omega) (by unfold maxLen at hcm;omega) ?_
  intro j x hx
  have:=hcell j x hx
  rw[add_lit,Nat.zero_add]
  exact this
 have mixed:=L.mixed
 have t72:=L.t72;have a72:=L.a72;have z72:=L.z72;have v72:=L.v72;have u72:=run_underlying L.t72
 have t70:=L.t70;have a70:=L.a70;have z70:=L.z70;have v70:=L.v70;have u70:=run_underlying L.t70
 have t37:=L.t37;have a37:=L.a37;have z37:=L.z37;have v37:=L.v37;have u37:=run_underlying L.t37
 have t127:=L.t127;have a127:=L.a127;have z127:=L.z127;have v127:=L.v127;have u127:=run_underlying L.t127
 have t3:=L.t3;have a3:=L.a3;have z3:=L.z3;have v3:=L.v3;have u3:=run_underlying L.t3
 have t9:=L.t9;have a9:=L.a9;have z9:=L.z9;have v9:=L.v9;have u9:=run_underlying L.t9
 have t5:=X.t5;have a5:=X.a5;have z5:=X.z5;have v5:=X.v5;have u5:=run_underlying X.t5
 go_enter L.f169,Body.n169_ntmps ρ
 go_wp2
 go_region_o
 all_goals (go_wp2;go_ret;exact⟨rfl,rfl⟩)
end
theorem lays240:Lays.n240 Tryz.prog Tryz.lays105_ren:={Tryz.lays105 with}
theorem lays169:Lays.n169 Tryz.prog Tryz.lays105_ren:={Tryz.lays105 with}
theorem bld_info:∃j,Tryz.prog.info? 77=some j∧j.size=2:=⟨_,rfl,by kernel_rfl⟩
theorem bld_lies:liesAt Tryz.prog Tryz.prog.depth 79 (2/Tryz.prog.cellsOf 79) 0 77 1=true:=by kernel_rfl
theorem cc_used(b:Nat)(w:World)(h0:w.cell? ⟨b,0,none⟩=some (.pointer (some ⟨b,0,none⟩))):Calls Tryz.prog 100 #[.pointer (some ⟨b,0,none⟩)] w fun e w'=>e= .returned (.tuple #[])∧w'=w:=by
 obtain⟨j,hj,_⟩:=bld_info
 exact any_copyCheck_used lays240 hj b w h0
theorem cc_fresh(b:Nat)(w:World)(h0:w.cell? ⟨b,0,none⟩=some (.pointer none))(hsh:w.shape? b=some (79,2))(hfz:w.frozen? ⟨b,0,none⟩=false):
 Calls Tryz.prog 100 #[.pointer (some ⟨b,0,none⟩)] w fun e w'=>e= .returned (.tuple #[])∧w'=w.setCell ⟨b,0,none⟩ (.pointer (some ⟨b,0,none⟩)):=by
 obtain⟨j,hj,hs⟩:=bld_info
 exact any_copyCheck_fresh lays240 hj hs bld_lies b w h0 hsh hfz
theorem str_row(b g cap len:Nat)(cur:Array Value)(w:World)(l:List UInt8)(hlen:l.length=len)(h0:l≠[])(c1:w.drew.cell? ⟨b,1,none⟩=some (.slice (some ⟨g,0,none⟩) len cap))(hg:w.heap[g]? =some (.cells cur 5 (0,0)))
 (hcm:cap≤maxLen) (hnc:len≤cap) (hcs:cur.size=cap) (hcell:∀j x,l[j]? =some x→w.cell? ⟨g,j,none⟩=some (.int .u8 x.toNat)):
 Calls Tryz.prog 37 #[.pointer (some ⟨b,0,none⟩)] w fun e w'=>e= .returned (.string ⟨l.toArray⟩)∧w'=w.drew.freeze ⟨g,0,none⟩ len:=
 any_String_row lays169 Tryz.Builder_Extra_105 b g cap len cur w l hlen h0 c1 hg hcm hnc hcs hcell
end Go.Proofs.YtjfkkokeegpeiaaGreatDoor
/- The library's builder, in a block of the printer's type: laws over memory. -/
namespace Go.Proofs.YtjfkkokeegpeiaaGreatDoor
open Go Go.Am Go.RowKit
set_option maxRecDepth 100000
theorem tbk_two{β:Bt}{S D:Pr}{w:World}{b m:Nat}{c0 v:V}(h:chunkRel β S w D b m (.tbk 79 [c0,v])):0<m∧∃x y,w.heap[b]? =some (.cells #[x,y] 79 (0,0))∧den β S w D c0 x∧den β S w D v y∧x.oneCell'=true∧y.oneCell'=true:=by
 simp only[chunkRel]at h
 obtain⟨h0,us,h1,h2,h3⟩:=h
 simp only[denL]at h2
 obtain⟨x,_,rfl,hx,y,_,rfl,hy,rfl⟩:=h2
 simp only[List.all_cons,List.all_nil,Bool.and_true,Bool.and_eq_true]at h3
 exact⟨h0,x,y,h1,hx,hy,h3.1,h3.2⟩
theorem cc_used_sc{E:Env}(hP:E.P=Tryz.prog)(v:V)(rest:List (Option Chunk)):SC E 100 [.ptr 0 0] (some (.tbk 79 [.ptr 0 0,v])::rest) (.ret (.tup []) (some (.tbk 79 [.ptr 0 0,v])::rest)):=by
 refine⟨by rw[hP];exact⟨_,Tryz.func100,by kernel_rfl,by intro e;exact absurd e (by decide+kernel)⟩,fun β S w us hd hM hG=>?_⟩
 rw[hP]
 obtain⟨b,m,hb,hc⟩:=hM.live 0 (.tbk 79 [.ptr 0 0,v]) rfl
 obtain⟨h0,x,y,h1,hx,hy,_,_⟩:=tbk_two hc
 simp only[denL]at hd
 obtain⟨u,_,rfl,hu,rfl⟩:=hd
 simp only[den]at hu hx
 have hu:=hu.2 b m hb
 have hx:=hx.2 b m hb
 subst hu hx
 refine(cc_used b w (by simp[World.cell?,h1])).mono ?_
 rintro e w' ⟨rfl,rfl⟩
 exact⟨_,β,S,rfl,hM,by simp only[den,denL];exact⟨[],rfl,rfl⟩,Evo.refl _ _ _,fun i bm hi h=>h⟩
theorem cc_fresh_sc{E:Env}(hP:E.P=Tryz.prog)(v:V)(rest:List (Option Chunk)):SC E 100 [.ptr 0 0] (some (.tbk 79 [.sc (.pointer none),v])::rest) (.ret (.tup []) (some (.tbk 79 [.ptr 0 0,v])::rest)):=by
 refine⟨by rw[hP];exact⟨_,Tryz.func100,by kernel_rfl,by intro e;exact absurd e (by decide+kernel)⟩,fun β S w us hd hM hG=>?_⟩
 rw[hP]
 obtain⟨b,m,hb,hc⟩:=hM.live 0 (.tbk 79 [.sc (.pointer none),v]) rfl
 obtain⟨h0,x,y,h1,hx,hy,o1,o2⟩:=tbk_two hc
 simp only[denL]at hd
 obtain⟨u,_,rfl,hu,rfl⟩:=hd
 simp only[den]at hu hx
 have hu':=hu.2 b m hb
 subst hu' hx
 refine(cc_fresh b w (by simp[World.cell?,h1]) (by simp[World.shape?,h1]) (by simp[World.frozen?,h1])).mono ?_
 rintro e w' ⟨rfl,rfl⟩
 have hg:w.grownBy (w.setCell ⟨b,0,none⟩ (.pointer (some ⟨b,0,none⟩))) (some b):=⟨rfl,rfl,rfl,by simp[World.setCell],fun k _ hk=>Below.heap_setCell _ _ _ _ (fun e=>hk (by simp[e]))⟩
 have hk:Kept S w (w.setCell ⟨b,0,none⟩ (.pointer (some ⟨b,0,none⟩))):=fun z hz=>hg.block z (hM.st z hz) (fun e=>by cases e;exact(hM.own 0 b m hb h0).2 hz)
 obtain⟨q1,q2⟩:=hM.put (c':=.tbk 79 [.ptr 0 0,v]) rfl hb h0 hg (by
  simp only[chunkRel]
  refine⟨h0,[.pointer (some ⟨b,0,none⟩),y],?_,?_,?_⟩
  ·simp[World.setCell,Array.getElem?_modify,h1]
  ·simp only[denL]
   refine⟨_,_,rfl,?_,_,_,rfl,den_later (fun _ _=>.inl rfl) (fun _ h=>h) (fun _ h=>h) hk _ _ hy,rfl⟩
   simp only[den]
   exact hu
  ·simp only[List.all_cons,List.all_nil,Bool.and_true,Bool.and_eq_true]
   exact⟨rfl,o2⟩)
 refine⟨_,β,S,rfl,?_,by simp only[den,denL];exact⟨[],rfl,rfl⟩,q2,fun i bm hi h=>h⟩
 have e:hp (some (.tbk 79 [.ptr 0 0,v])::rest)=upd (hp (some (.tbk 79 [.sc (.pointer none),v])::rest)) 0 (some (.tbk 79 [.ptr 0 0,v])):=upd_hp (some (.tbk 79 [.sc (.pointer none),v])::rest) 0 _ (by simp)
 rw[e]
 exact q1
theorem row_of{β:Bt}{S D:Pr}{w:World}{b m n:Nat}{f:Nat→List V}{l:List UInt8}(h:chunkRel β S w D b m (.row 5 1 n f))(hl:l.length=n)(hn:l≠[])(hf:∀j x,l[j]? =some x→f j=[.sc (.int .u8 ((x.toNat:Nat):Int))]):
 n≤m∧m≤maxLen∧0<m∧∃cur:Array Value,w.heap[b]? =some (.cells cur 5 (0,0))∧cur.size=m∧∀j x,l[j]? =some x→w.cell? ⟨b,j,none⟩=some (.int .u8 x.toNat):=by
 simp only[chunkRel]at h
 obtain⟨h1,h2,h3,h4⟩:=h
 have h0:0<n:=by
  rw[←hl]
  exact List.length_pos_iff.2 hn
 obtain⟨cur,k1,k2,k3⟩:=h4 (by omega)
 refine⟨h1,h2,by omega,cur,k1,by simpa using k2,fun j x hx=>?_⟩
 have hj:j<n:=by rw[←hl];exact(List.getElem?_eq_some_iff.1 hx).1
 obtain⟨us,g1,_,_,_,g5⟩:=k3 j hj
 rw[hf j x hx]at g1
 simp only[denL,den]at g1
 obtain⟨_,_,rfl,rfl,rfl⟩:=g1
 have:=g5 0 _ rfl
 simp only[World.cell?,k1]
 simpa using this
theorem str_sc{E:Env}(hP:E.P=Tryz.prog)(c0:V){n:Nat}{f:Nat→List V}{l:List UInt8}(hl:l.length=n)(hn:l≠[])(hf:∀j x,l[j]? =some x→f j=[.sc (.int .u8 ((x.toNat:Nat):Int))]):
 SC E 37 [.ptr 0 0] [some (.tbk 79 [c0,.sl 1 1 0 n]),some (.row 5 1 n f)] (.ret (st ⟨l.toArray⟩) [none,none]):=by
 refine⟨by rw[hP];exact⟨_,Tryz.func37,by kernel_rfl,by intro e;exact absurd e (by decide+kernel)⟩,fun β S w us hd hM hG=>?_⟩
 rw[hP]
 obtain⟨b,m,hb,hc⟩:=hM.live 0 (.tbk 79 [c0,.sl 1 1 0 n]) rfl
 obtain⟨g,M,hg,hr⟩:=hM.live 1 (.row 5 1 n f) rfl
 obtain⟨h0,x,y,h1,hx,hy,_,_⟩:=tbk_two hc
 obtain⟨r1,r2,r3,cur,r4,r5,r6⟩:=row_of hr hl hn hf
 simp only[denL]at hd
 obtain⟨u,_,rfl,hu,rfl⟩:=hd
 simp only[den]at hu hy
 have hu:=hu.2 b m hb
 obtain⟨g1,B,hyu,g2⟩:=hy.2 g M hg
 simp only[Nat.zero_mul,Nat.sub_zero,Nat.zero_add]at hyu g1 g2
 rw[g2 r3]at hyu
 subst hu hyu
 refine(str_row b g M n cur w l hl hn (by
  show w.cell? ⟨b,1,none⟩=_
  simp[World.cell?,h1]) r4 r2 r1 r5 r6).mono ?_
 rintro e w' ⟨rfl,rfl⟩
 have hfz:∀k,k≠g→(w.drew.freeze ⟨g,0,none⟩ n).heap[k]? =w.heap[k]? :=by
  intro k hk
  unfold World.freeze
  split
  ·rfl
  ·simp only[Array.getElem?_modify]
   rw[if_neg (fun e=>hk e.symm)]
   rfl
 have hsz:(w.drew.freeze ⟨g,0,none⟩ n).heap.size=w.heap.size:=by
  unfold World.freeze
  split
  ·rfl
  ·simp only[Array.size_modify]
   rfl
 have ho:(w.drew.freeze ⟨g,0,none⟩ n).os=w.os∧(w.drew.freeze ⟨g,0,none⟩ n).tape=w.tape∧(w.drew.freeze ⟨g,0,none⟩ n).output=w.output:=by
  unfold World.freeze
  split<;>exact⟨rfl,rfl,rfl⟩
 refine⟨_,fun _=>none,S,rfl,⟨fun i c hc=>?_,fun i _=>rfl,fun i b m h=>(by cases h),fun i b m h=>(by cases h),fun i j b m m' h=>(by cases h),fun z hz=>by rw[hsz];exact hM.st z hz⟩,by simp only[den],⟨ho.1,ho.2.1,ho.2.2,by rw[hsz];exact Nat.le_refl _,fun z hz hn=>hfz z (fun e=>by subst e;exact hn 1 M r3 hg),fun _ h=>h,fun _ h=>.inl h,fun i b m h=>(by cases h)⟩,fun i bm hi h=>(by cases h)⟩
 match i with
 |0=>cases hc
 |1=>cases hc
 |i+2=>simp[hp]at hc
end Go.Proofs.YtjfkkokeegpeiaaGreatDoor
/- The lexers, lifted. -/
namespace Go.Proofs.YtjfkkokeegpeiaaGreatDoor
open Go Go.Am Go.Proofs
set_option maxRecDepth 100000
def fnId:V→Nat| .fn g _=>g|_=>0
abbrev i32(n:Int):V:=.sc (.int .i32 n)
abbrev u8(n:Int):V:=.sc (.int .u8 n)
abbrev a_IndexByte:Type:=ByteArray×Int
abbrev g_IndexByte:Type:=Int
def A_IndexByte:AR a_IndexByte:=fun x=>([st x.1,u8 x.2],[])
def d_IndexByte(t:TT):a_IndexByte:=(vS (ag t 0),vI (ag t 1))
theorem v_IndexByte:VI A_IndexByte:=vd d_IndexByte fun _=>rfl
def R_IndexByte:g_IndexByte→CRes:=fun z=>.ret (i64 z) []
noncomputable def IndexByte(q:Nat)(x:a_IndexByte):Option g_IndexByte:=some (Lib.indexByte x.1.data.toList (UInt8.ofNat x.2.toNat))
theorem sc_IndexByte(q:Nat):Lw E5 83 A_IndexByte R_IndexByte (IndexByte q):=by
 rintro⟨s,c⟩ z h
 cases h
 exact sc5.2 (SC.ext hX rfl)
abbrev a_letter:Type:=Int
abbrev g_letter:Type:=Bool
def A_letter:AR a_letter:=fun x=>([i32 x],[])
def d_letter(t:TT):a_letter:=(vI (ag t 0))
theorem v_letter:VI A_letter:=vd d_letter fun _=>rfl
def R_letter:g_letter→CRes:=fun z=>.ret (bo z) []
def t_letter{β:Type}(x:a_letter)(dn:g_letter→Option β):Option β:=
 if decide (x≥97)=true then if decide (x≤122)=true then dn true else if decide (x≥65)=true then dn (decide (x≤90))else dn false else if decide (x≥65)=true then dn (decide (x≤90))else dn false
theorem n_letter{β:Type}(x)(dn:g_letter→Option β):t_letter x dn=(t_letter x some).bind dn:=by
 unfold t_letter
 repeat' first|exact n0|refine n1 fun _=>?_|refine n2 ?_ ?_|refine n3 (fun _=>?_) fun _=>?_|rfl
theorem r_letter(x):callK E5 ca0 lo0 48 (A_letter x).1 (A_letter x).2 K=t_letter x (fun z=>some (.c (R_letter z))):=by kernel_rfl
noncomputable def letter(q:Nat)(x:a_letter):Option g_letter:=t_letter x some
theorem sc_letter(q:Nat):Lw E5 48 A_letter R_letter (letter q):=sof hW5 hX5 ca0_sound (fun _=>lo0_sound) fun x=>(r_letter x).trans (by rw[n_letter]<;>rfl)
abbrev a_digit:Type:=Int
abbrev g_digit:Type:=Bool
def A_digit:AR a_digit:=fun x=>([i32 x],[])
def d_digit(t:TT):a_digit:=(vI (ag t 0))
theorem v_digit:VI A_digit:=vd d_digit fun _=>rfl
def R_digit:g_digit→CRes:=fun z=>.ret (bo z) []
def t_digit{β:Type}(x:a_digit)(dn:g_digit→Option β):Option β:=
 if decide (x≥48)=true then dn (decide (x≤57))else dn false
theorem n_digit{β:Type}(x)(dn:g_digit→Option β):t_digit x dn=(t_digit x some).bind dn:=by
 unfold t_digit
 repeat' first|exact n0|refine n1 fun _=>?_|refine n2 ?_ ?_|refine n3 (fun _=>?_) fun _=>?_|rfl
theorem r_digit(x):callK E5 ca0 lo0 50 (A_digit x).1 (A_digit x).2 K=t_digit x (fun z=>some (.c (R_digit z))):=by kernel_rfl
noncomputable def digit(q:Nat)(x:a_digit):Option g_digit:=t_digit x some
theorem sc_digit(q:Nat):Lw E5 50 A_digit R_digit (digit q):=sof hW5 hX5 ca0_sound (fun _=>lo0_sound) fun x=>(r_digit x).trans (by rw[n_digit]<;>rfl)
abbrev a_notLf:Type:=Int
abbrev g_notLf:Type:=Bool
def A_notLf:AR a_notLf:=fun x=>([i32 x],[])
def d_notLf(t:TT):a_notLf:=(vI (ag t 0))
theorem v_notLf:VI A_notLf:=vd d_notLf fun _=>rfl
def R_notLf:g_notLf→CRes:=fun z=>.ret (bo z) []
def t_notLf{β:Type}(x:a_notLf)(dn:g_notLf→Option β):Option β:=
 dn (x !=10)
theorem n_notLf{β:Type}(x)(dn:g_notLf→Option β):t_notLf x dn=(t_notLf x some).bind dn:=by
 unfold t_notLf
 repeat' first|exact n0|refine n1 fun _=>?_|refine n2 ?_ ?_|refine n3 (fun _=>?_) fun _=>?_|rfl
theorem r_notLf(x):callK E5 ca0 lo0 47 (A_notLf x).1 (A_notLf x).2 K=t_notLf x (fun z=>some (.c (R_notLf z))):=by kernel_rfl
noncomputable def notLf(q:Nat)(x:a_notLf):Option g_notLf:=t_notLf x some
theorem sc_notLf(q:Nat):Lw E5 47 A_notLf R_notLf (notLf q):=sof hW5 hX5 ca0_sound (fun _=>lo0_sound) fun x=>(r_notLf x).trans (by rw[n_notLf]<;>rfl)
abbrev a_wordC:Type:=Int
abbrev g_wordC:Type:=Bool
def A_wordC:AR a_wordC:=fun x=>([i32 x],[])
def d_wordC(t:TT):a_wordC:=(vI (ag t 0))
theorem v_wordC:VI A_wordC:=vd d_wordC fun _=>rfl
def R_wordC:g_wordC→CRes:=fun z=>.ret (bo z) []
def t_wordC{β:Type}(c_letter:a_letter→Option g_letter)(c_digit:a_digit→Option g_digit)(x:a_wordC)(dn:g_wordC→Option β):Option β:=
 (c_letter x).bind fun z1=>if z1=true then dn true else(c_digit x).bind fun z3=>dn z3
theorem n_wordC{β:Type}(c_letter c_digit)(x)(dn:g_wordC→Option β):t_wordC c_letter c_digit x dn=(t_wordC c_letter c_digit x some).bind dn:=by
 unfold t_wordC
 repeat' first|exact n0|refine n1 fun _=>?_|refine n2 ?_ ?_|refine n3 (fun _=>?_) fun _=>?_|rfl
theorem r_wordC(c_letter c_digit)(x):callK E5 (ftb 48 A_letter R_letter c_letter (ftb 50 A_digit R_digit c_digit ca0)) lo0 82 (A_wordC x).1 (A_wordC x).2 K=t_wordC (vf A_letter c_letter) (vf A_digit c_digit) x (fun z=>some (.c (R_wordC z))):=by kernel_rfl
noncomputable def wordC(q:Nat)(x:a_wordC):Option g_wordC:=t_wordC (letter q) (digit q) x some
theorem sc_wordC(q:Nat):Lw E5 82 A_wordC R_wordC (wordC q):=sof hW5 hX5 (fk (sc_letter q) (fk (sc_digit q) ca0_sound)) (fun _=>lo0_sound) fun x=>(r_wordC (letter q) (digit q) x).trans (by rw[v_letter,v_digit,n_wordC]<;>rfl)
abbrev a_spanN:Type:=ByteArray
abbrev g_spanN:Type:=Int
def A_spanN:AR a_spanN:=fun x=>([st x,.fn 47 []],[])
def d_spanN(t:TT):a_spanN:=(vS (ag t 0))
theorem v_spanN:VI A_spanN:=vd d_spanN fun _=>rfl
def R_spanN:g_spanN→CRes:=fun z=>.ret (i64 z) []
abbrev spanN_l0_a:Type:=Nat
abbrev spanN_l0_g:Type:=(Int)⊕(Unit)
def spanN_l0_S(x:a_spanN)(y:spanN_l0_a):St:={fr:=[st x,V.fn 47 []]++jk 6++[V.ptr 0 0]++jk 11,H:=hp [some (Chunk.iter x y)],nx:=1,rt:=0,me:=46}
def spanN_l0_d(s:St):spanN_l0_a:=(chP (s.H 0))
theorem spanN_l0_u(x:a_spanN):VL (spanN_l0_S x):=vl spanN_l0_d fun _=>rfl
def spanN_l0_T(x:a_spanN):spanN_l0_g→Ex×St:=(Sum.elim (fun z=>(Ex.ret,{fr:=jk 4++[i64 z]++jk 15,H:=hp [],nx:=0,rt:=0,me:=46})) (fun z=>(Ex.exit 0,{fr:=[st x]++jk 19,H:=hp [],nx:=0,rt:=0,me:=46})))
def spanN_l0_t{β:Type}(c_notLf:a_notLf→Option g_notLf)(x:a_spanN)(y:spanN_l0_a)(nx:spanN_l0_a→Option β)(dn:spanN_l0_g→Option β):Option β:=
 if y<x.size then(c_notLf ((Prod.fst (Utf8.decode x y):Nat):Int)).bind fun z14=>if(!z14)=true then dn (.inl ((y:Nat):Int))else nx (y+Prod.snd (Utf8.decode x y))else dn (.inr ())
theorem spanN_l0_n{β:Type}(c_notLf)(x)(y)(nx:spanN_l0_a→Option β)(dn):spanN_l0_t c_notLf x y nx dn=(spanN_l0_t c_notLf x y (fun y=>some (.inl y)) (fun z=>some (.inr z))).bind fun r=>Sum.elim nx dn r:=by
 unfold spanN_l0_t
 repeat' first|exact n0|refine n1 fun _=>?_|refine n2 ?_ ?_|refine n3 (fun _=>?_) fun _=>?_|rfl
theorem spanN_l0_r(c_notLf)(x)(y)(lo:LoopT):loopK E5 (ftb 47 A_notLf R_notLf c_notLf ca0) lo 0 259 (bodyOf E5 46 0) (spanN_l0_S x y) (KCM [(0,1)] 16)=spanN_l0_t (vf A_notLf c_notLf) x y (fun y=>lo 0 259 (bodyOf E5 46 0) (spanN_l0_S x y) (KCM [(0,1)] 16)) (fun z=>some (.l (spanN_l0_T x z).1 (spanN_l0_T x z).2)):=by kernel_rfl
noncomputable def spanN_l0(c_notLf:a_notLf→Option g_notLf)(q:Nat)(x:a_spanN):spanN_l0_a→Option spanN_l0_g:=lpG (fun y=>spanN_l0_t c_notLf x y (fun y=>some (.inl y)) (fun z=>some (.inr z))) q
theorem spanN_l0_s(c_notLf)(h_notLf:Lw E5 47 A_notLf R_notLf c_notLf)(q:Nat)(x:a_spanN):Ll E5 (bodyOf E5 46 0) (spanN_l0_S x) (spanN_l0_T x) (spanN_l0 c_notLf q x):=
 slp (fk h_notLf ca0_sound) hX5 (fun lo y=>(spanN_l0_r c_notLf x y lo).trans (by rw[v_notLf];exact spanN_l0_n _ _ _ _ _)) (fun z=>by rcases z with z|z<;>kernel_rfl) q
def t_spanN{β:Type}(c_notLf:a_notLf→Option g_notLf)(l_spanN_l0:spanN_l0_a→Option spanN_l0_g)(x:a_spanN)(dn:g_spanN→Option β):Option β:=
 (l_spanN_l0 (0)).bind fun z8=>Sum.elim (fun z8a=>dn z8a) (fun z8b=>dn (x.size:Int)) z8
theorem n_spanN{β:Type}(c_notLf)(l_spanN_l0)(x)(dn:g_spanN→Option β):t_spanN c_notLf l_spanN_l0 x dn=(t_spanN c_notLf l_spanN_l0 x some).bind dn:=by
 unfold t_spanN
 repeat' first|exact n0|refine n1 fun _=>?_|refine n2 ?_ ?_|refine n3 (fun _=>?_) fun _=>?_|rfl
theorem r_spanN(c_notLf)(l_spanN_l0)(x):callK E5 (ftb 47 A_notLf R_notLf c_notLf ca0) (lt2 0 (fun _=>true) (bodyOf E5 46 0) (spanN_l0_S x) (spanN_l0_T x) l_spanN_l0 lo0) 46 (A_spanN x).1 (A_spanN x).2 K=t_spanN (vf A_notLf c_notLf) (lf (bodyOf E5 46 0) (spanN_l0_S x) l_spanN_l0) x (fun z=>some (.c (R_spanN z))):=by kernel_rfl
noncomputable def spanN(q:Nat)(x:a_spanN):Option g_spanN:=t_spanN (notLf q) (spanN_l0 (notLf q) q x) x some
theorem sc_spanN(q:Nat):Lw E5 46 A_spanN R_spanN (spanN q):=sof hW5 hX5 (fk (sc_notLf q) ca0_sound) (fun x=>(lk2 (spanN_l0_s (notLf q) (sc_notLf q) q x) lo0_sound)) fun x=>(r_spanN (notLf q) (spanN_l0 (notLf q) q x) x).trans (by rw[v_notLf,spanN_l0_u,n_spanN]<;>rfl)
abbrev a_spanD:Type:=ByteArray
abbrev g_spanD:Type:=Int
def A_spanD:AR a_spanD:=fun x=>([st x,.fn 50 []],[])
def d_spanD(t:TT):a_spanD:=(vS (ag t 0))
theorem v_spanD:VI A_spanD:=vd d_spanD fun _=>rfl
def R_spanD:g_spanD→CRes:=fun z=>.ret (i64 z) []
abbrev spanD_l0_a:Type:=Nat
abbrev spanD_l0_g:Type:=(Int)⊕(Unit)
def spanD_l0_S(x:a_spanD)(y:spanD_l0_a):St:={fr:=[st x,V.fn 50 []]++jk 6++[V.ptr 0 0]++jk 11,H:=hp [some (Chunk.iter x y)],nx:=1,rt:=0,me:=46}
def spanD_l0_d(s:St):spanD_l0_a:=(chP (s.H 0))
theorem spanD_l0_u(x:a_spanD):VL (spanD_l0_S x):=vl spanD_l0_d fun _=>rfl
def spanD_l0_T(x:a_spanD):spanD_l0_g→Ex×St:=(Sum.elim (fun z=>(Ex.ret,{fr:=jk 4++[i64 z]++jk 15,H:=hp [],nx:=0,rt:=0,me:=46})) (fun z=>(Ex.exit 0,{fr:=[st x]++jk 19,H:=hp [],nx:=0,rt:=0,me:=46})))
def spanD_l0_t{β:Type}(c_digit:a_digit→Option g_digit)(x:a_spanD)(y:spanD_l0_a)(nx:spanD_l0_a→Option β)(dn:spanD_l0_g→Option β):Option β:=
 if y<x.size then(c_digit ((Prod.fst (Utf8.decode x y):Nat):Int)).bind fun z14=>if(!z14)=true then dn (.inl ((y:Nat):Int))else nx (y+Prod.snd (Utf8.decode x y))else dn (.inr ())
theorem spanD_l0_n{β:Type}(c_digit)(x)(y)(nx:spanD_l0_a→Option β)(dn):spanD_l0_t c_digit x y nx dn=(spanD_l0_t c_digit x y (fun y=>some (.inl y)) (fun z=>some (.inr z))).bind fun r=>Sum.elim nx dn r:=by
 unfold spanD_l0_t
 repeat' first|exact n0|refine n1 fun _=>?_|refine n2 ?_ ?_|refine n3 (fun _=>?_) fun _=>?_|rfl
theorem spanD_l0_r(c_digit)(x)(y)(lo:LoopT):loopK E5 (ftb 50 A_digit R_digit c_digit ca0) lo 0 259 (bodyOf E5 46 0) (spanD_l0_S x y) (KCM [(0,1)] 16)=spanD_l0_t (vf A_digit c_digit) x y (fun y=>lo 0 259 (bodyOf E5 46 0) (spanD_l0_S x y) (KCM [(0,1)] 16)) (fun z=>some (.l (spanD_l0_T x z).1 (spanD_l0_T x z).2)):=by kernel_rfl
noncomputable def spanD_l0(c_digit:a_digit→Option g_digit)(q:Nat)(x:a_spanD):spanD_l0_a→Option spanD_l0_g:=lpG (fun y=>spanD_l0_t c_digit x y (fun y=>some (.inl y)) (fun z=>some (.inr z))) q
theorem spanD_l0_s(c_digit)(h_digit:Lw E5 50 A_digit R_digit c_digit)(q:Nat)(x:a_spanD):Ll E5 (bodyOf E5 46 0) (spanD_l0_S x) (spanD_l0_T x) (spanD_l0 c_digit q x):=
 slp (fk h_digit ca0_sound) hX5 (fun lo y=>(spanD_l0_r c_digit x y lo).trans (by rw[v_digit];exact spanD_l0_n _ _ _ _ _)) (fun z=>by rcases z with z|z<;>kernel_rfl) q
def t_spanD{β:Type}(c_digit:a_digit→Option g_digit)(l_spanD_l0:spanD_l0_a→Option spanD_l0_g)(x:a_spanD)(dn:g_spanD→Option β):Option β:=
 (l_spanD_l0 (0)).bind fun z8=>Sum.elim (fun z8a=>dn z8a) (fun z8b=>dn (x.size:Int)) z8
theorem n_spanD{β:Type}(c_digit)(l_spanD_l0)(x)(dn:g_spanD→Option β):t_spanD c_digit l_spanD_l0 x dn=(t_spanD c_digit l_spanD_l0 x some).bind dn:=by
 unfold t_spanD
 repeat' first|exact n0|refine n1 fun _=>?_|refine n2 ?_ ?_|refine n3 (fun _=>?_) fun _=>?_|rfl
theorem r_spanD(c_digit)(l_spanD_l0)(x):callK E5 (ftb 50 A_digit R_digit c_digit ca0) (lt2 0 (fun _=>true) (bodyOf E5 46 0) (spanD_l0_S x) (spanD_l0_T x) l_spanD_l0 lo0) 46 (A_spanD x).1 (A_spanD x).2 K=t_spanD (vf A_digit c_digit) (lf (bodyOf E5 46 0) (spanD_l0_S x) l_spanD_l0) x (fun z=>some (.c (R_spanD z))):=by kernel_rfl
noncomputable def spanD(q:Nat)(x:a_spanD):Option g_spanD:=t_spanD (digit q) (spanD_l0 (digit q) q x) x some
theorem sc_spanD(q:Nat):Lw E5 46 A_spanD R_spanD (spanD q):=sof hW5 hX5 (fk (sc_digit q) ca0_sound) (fun x=>(lk2 (spanD_l0_s (digit q) (sc_digit q) q x) lo0_sound)) fun x=>(r_spanD (digit q) (spanD_l0 (digit q) q x) x).trans (by rw[v_digit,spanD_l0_u,n_spanD]<;>rfl)
abbrev a_spanW:Type:=ByteArray
abbrev g_spanW:Type:=Int
def A_spanW:AR a_spanW:=fun x=>([st x,.fn 82 []],[])
def d_spanW(t:TT):a_spanW:=(vS (ag t 0))
theorem v_spanW:VI A_spanW:=vd d_spanW fun _=>rfl
def R_spanW:g_spanW→CRes:=fun z=>.ret (i64 z) []
abbrev spanW_l0_a:Type:=Nat
abbrev spanW_l0_g:Type:=(Int)⊕(Unit)
def spanW_l0_S(x:a_spanW)(y:spanW_l0_a):St:={fr:=[st x,V.fn 82 []]++jk 6++[V.ptr 0 0]++jk 11,H:=hp [some (Chunk.iter x y)],nx:=1,rt:=0,me:=46}
def spanW_l0_d(s:St):spanW_l0_a:=(chP (s.H 0))
theorem spanW_l0_u(x:a_spanW):VL (spanW_l0_S x):=vl spanW_l0_d fun _=>rfl
def spanW_l0_T(x:a_spanW):spanW_l0_g→Ex×St:=(Sum.elim (fun z=>(Ex.ret,{fr:=jk 4++[i64 z]++jk 15,H:=hp [],nx:=0,rt:=0,me:=46})) (fun z=>(Ex.exit 0,{fr:=[st x]++jk 19,H:=hp [],nx:=0,rt:=0,me:=46})))
def spanW_l0_t{β:Type}(c_wordC:a_wordC→Option g_wordC)(x:a_spanW)(y:spanW_l0_a)(nx:spanW_l0_a→Option β)(dn:spanW_l0_g→Option β):Option β:=
 if y<x.size then(c_wordC ((Prod.fst (Utf8.decode x y):Nat):Int)).bind fun z14=>if(!z14)=true then dn (.inl ((y:Nat):Int))else nx (y+Prod.snd (Utf8.decode x y))else dn (.inr ())
theorem spanW_l0_n{β:Type}(c_wordC)(x)(y)(nx:spanW_l0_a→Option β)(dn):spanW_l0_t c_wordC x y nx dn=(spanW_l0_t c_wordC x y (fun y=>some (.inl y)) (fun z=>some (.inr z))).bind fun r=>Sum.elim nx dn r:=by
 unfold spanW_l0_t
 repeat' first|exact n0|refine n1 fun _=>?_|refine n2 ?_ ?_|refine n3 (fun _=>?_) fun _=>?_|rfl
theorem spanW_l0_r(c_wordC)(x)(y)(lo:LoopT):loopK E5 (ftb 82 A_wordC R_wordC c_wordC ca0) lo 0 259 (bodyOf E5 46 0) (spanW_l0_S x y) (KCM [(0,1)] 16)=spanW_l0_t (vf A_wordC c_wordC) x y (fun y=>lo 0 259 (bodyOf E5 46 0) (spanW_l0_S x y) (KCM [(0,1)] 16)) (fun z=>some (.l (spanW_l0_T x z).1 (spanW_l0_T x z).2)):=by kernel_rfl
noncomputable def spanW_l0(c_wordC:a_wordC→Option g_wordC)(q:Nat)(x:a_spanW):spanW_l0_a→Option spanW_l0_g:=lpG (fun y=>spanW_l0_t c_wordC x y (fun y=>some (.inl y)) (fun z=>some (.inr z))) q
theorem spanW_l0_s(c_wordC)(h_wordC:Lw E5 82 A_wordC R_wordC c_wordC)(q:Nat)(x:a_spanW):Ll E5 (bodyOf E5 46 0) (spanW_l0_S x) (spanW_l0_T x) (spanW_l0 c_wordC q x):=
 slp (fk h_wordC ca0_sound) hX5 (fun lo y=>(spanW_l0_r c_wordC x y lo).trans (by rw[v_wordC];exact spanW_l0_n _ _ _ _ _)) (fun z=>by rcases z with z|z<;>kernel_rfl) q
def t_spanW{β:Type}(c_wordC:a_wordC→Option g_wordC)(l_spanW_l0:spanW_l0_a→Option spanW_l0_g)(x:a_spanW)(dn:g_spanW→Option β):Option β:=
 (l_spanW_l0 (0)).bind fun z8=>Sum.elim (fun z8a=>dn z8a) (fun z8b=>dn (x.size:Int)) z8
theorem n_spanW{β:Type}(c_wordC)(l_spanW_l0)(x)(dn:g_spanW→Option β):t_spanW c_wordC l_spanW_l0 x dn=(t_spanW c_wordC l_spanW_l0 x some).bind dn:=by
 unfold t_spanW
 repeat' first|exact n0|refine n1 fun _=>?_|refine n2 ?_ ?_|refine n3 (fun _=>?_) fun _=>?_|rfl
theorem r_spanW(c_wordC)(l_spanW_l0)(x):callK E5 (ftb 82 A_wordC R_wordC c_wordC ca0) (lt2 0 (fun _=>true) (bodyOf E5 46 0) (spanW_l0_S x) (spanW_l0_T x) l_spanW_l0 lo0) 46 (A_spanW x).1 (A_spanW x).2 K=t_spanW (vf A_wordC c_wordC) (lf (bodyOf E5 46 0) (spanW_l0_S x) l_spanW_l0) x (fun z=>some (.c (R_spanW z))):=by kernel_rfl
noncomputable def spanW(q:Nat)(x:a_spanW):Option g_spanW:=t_spanW (wordC q) (spanW_l0 (wordC q) q x) x some
theorem sc_spanW(q:Nat):Lw E5 46 A_spanW R_spanW (spanW q):=sof hW5 hX5 (fk (sc_wordC q) ca0_sound) (fun x=>(lk2 (spanW_l0_s (wordC q) (sc_wordC q) q x) lo0_sound)) fun x=>(r_spanW (wordC q) (spanW_l0 (wordC q) q x) x).trans (by rw[v_wordC,spanW_l0_u,n_spanW]<;>rfl)
abbrev a_word:Type:=ByteArray
abbrev g_word:Type:=Int×Int×ByteArray×Int×Int
def A_word:AR a_word:=fun x=>([st x],[])
def d_word(t:TT):a_word:=(vS (ag t 0))
theorem v_word:VI A_word:=vd d_word fun _=>rfl
def R_word:g_word→CRes:=fun z=>.ret (.tup [.agg [i64 z.1,i64 z.2.1,st z.2.2.1,i64 z.2.2.2.1],i64 z.2.2.2.2]) []
def t_word{β:Type}(c_spanW:a_spanW→Option g_spanW)(x:a_word)(dn:g_word→Option β):Option β:=
 (c_spanW x).bind fun z1=>if decide (z1>12)=true then dn (0,0,⟨#[]⟩,0,2)else if(0:Int)≤0∧0≤z1∧z1≤(x.size:Int)then dn (1,0,ByteArray.extract x 0 (Int.toNat z1),0,0)else none
theorem n_word{β:Type}(c_spanW)(x)(dn:g_word→Option β):t_word c_spanW x dn=(t_word c_spanW x some).bind dn:=by
 unfold t_word
 repeat' first|exact n0|refine n1 fun _=>?_|refine n2 ?_ ?_|refine n3 (fun _=>?_) fun _=>?_|rfl
theorem r_word(c_spanW)(x):callK E5 (ftg 46 (fun a _=>fnId (a.getD 1 .junk)==82) A_spanW R_spanW c_spanW ca0) lo0 49 (A_word x).1 (A_word x).2 K=t_word (vf A_spanW c_spanW) x (fun z=>some (.c (R_word z))):=by kernel_rfl
noncomputable def word(q:Nat)(x:a_word):Option g_word:=t_word (spanW q) x some
theorem sc_word(q:Nat):Lw E5 49 A_word R_word (word q):=sof hW5 hX5 (fk (sc_spanW q) ca0_sound) (fun _=>lo0_sound) fun x=>(r_word (spanW q) x).trans (by rw[v_spanW,n_word]<;>rfl)
abbrev a_lnum:Type:=ByteArray
abbrev g_lnum:Type:=Int×Int×ByteArray×Int×Int
def A_lnum:AR a_lnum:=fun x=>([st x],[])
def d_lnum(t:TT):a_lnum:=(vS (ag t 0))
theorem v_lnum:VI A_lnum:=vd d_lnum fun _=>rfl
def R_lnum:g_lnum→CRes:=fun z=>.ret (.tup [.agg [i64 z.1,i64 z.2.1,st z.2.2.1,i64 z.2.2.2.1],i64 z.2.2.2.2]) []
abbrev lnum_l0_a:Type:=ByteArray×Int×Nat
abbrev lnum_l0_g:Type:=(Unit)⊕(ByteArray×Int)
def lnum_l0_S(x:a_lnum)(y:lnum_l0_a):St:={fr:=[V.junk,V.junk,V.ptr 0 0,V.junk,st y.1,i64 y.2.1]++jk 16++[V.ptr 1 0]++jk 15,H:=hp [some (Chunk.blk [i64 0,i64 0,st ⟨#[]⟩,i64 0]),some (Chunk.iter y.1 y.2.2)],nx:=2,rt:=0,me:=51}
def lnum_l0_d(s:St):lnum_l0_a:=((vS (s.fr.getD 4 .junk)),vI (s.fr.getD 5 .junk),(chP (s.H 1)))
theorem lnum_l0_u(x:a_lnum):VL (lnum_l0_S x):=vl lnum_l0_d fun _=>rfl
def lnum_l0_T(x:a_lnum):lnum_l0_g→Ex×St:=(Sum.elim (fun z=>(Ex.ret,{fr:=[V.junk,V.junk,V.ptr 0 0,i64 5]++jk 34,H:=hp [some (Chunk.blk [i64 0,i64 0,st ⟨#[]⟩,i64 0])],nx:=1,rt:=0,me:=51})) (fun z=>(Ex.exit 0,{fr:=[V.junk,V.junk,V.ptr 0 0,V.junk,st z.1,i64 z.2]++jk 32,H:=hp [some (Chunk.blk [i64 0,i64 0,st ⟨#[]⟩,i64 0])],nx:=1,rt:=0,me:=51})))
def lnum_l0_t{β:Type}(c_spanD:a_spanD→Option g_spanD)(x:a_lnum)(y:lnum_l0_a)(nx:lnum_l0_a→Option β)(dn:lnum_l0_g→Option β):Option β:=
 if y.2.2<y.1.size then if decide (w (w (10*y.2.1)+w (IntKind.wrap IntKind.i32 (((Prod.fst (Utf8.decode y.1 y.2.2):Nat):Int)-48)))>2147483647)=true then dn (.inl ())else nx ((y.1,w (w (10*y.2.1)+w (IntKind.wrap IntKind.i32 (((Prod.fst (Utf8.decode y.1 y.2.2):Nat):Int)-48))),y.2.2+Prod.snd (Utf8.decode y.1 y.2.2)))else dn (.inr (y.1,y.2.1))
theorem lnum_l0_n{β:Type}(c_spanD)(x)(y)(nx:lnum_l0_a→Option β)(dn):lnum_l0_t c_spanD x y nx dn=(lnum_l0_t c_spanD x y (fun y=>some (.inl y)) (fun z=>some (.inr z))).bind fun r=>Sum.elim nx dn r:=by
 unfold lnum_l0_t
 repeat' first|exact n0|refine n1 fun _=>?_|refine n2 ?_ ?_|refine n3 (fun _=>?_) fun _=>?_|rfl
theorem lnum_l0_r(c_spanD)(x)(y)(lo:LoopT):loopK E5 (ftg 46 (fun a _=>fnId (a.getD 1 .junk)==50) A_spanD R_spanD c_spanD ca0) lo 0 4194356 (bodyOf E5 51 0) (lnum_l0_S x y) (KCM [(0,52)] 12)=lnum_l0_t (vf A_spanD c_spanD) x y (fun y=>lo 0 4194356 (bodyOf E5 51 0) (lnum_l0_S x y) (KCM [(0,52)] 12)) (fun z=>some (.l (lnum_l0_T x z).1 (lnum_l0_T x z).2)):=by kernel_rfl
noncomputable def lnum_l0(c_spanD:a_spanD→Option g_spanD)(q:Nat)(x:a_lnum):lnum_l0_a→Option lnum_l0_g:=lpG (fun y=>lnum_l0_t c_spanD x y (fun y=>some (.inl y)) (fun z=>some (.inr z))) q
theorem lnum_l0_s(c_spanD)(h_spanD:Lw E5 46 A_spanD R_spanD c_spanD)(q:Nat)(x:a_lnum):Ll E5 (bodyOf E5 51 0) (lnum_l0_S x) (lnum_l0_T x) (lnum_l0 c_spanD q x):=
 slp (fk h_spanD ca0_sound) hX5 (fun lo y=>(lnum_l0_r c_spanD x y lo).trans (by rw[v_spanD];exact lnum_l0_n _ _ _ _ _)) (fun z=>by rcases z with z|z<;>kernel_rfl) q
def t_lnum{β:Type}(c_spanD:a_spanD→Option g_spanD)(l_lnum_l0:lnum_l0_a→Option lnum_l0_g)(x:a_lnum)(dn:g_lnum→Option β):Option β:=
 (c_spanD x).bind fun z1=>if(0:Int)≤0∧0≤z1∧z1≤(x.size:Int)then if decide ((ByteArray.size (ByteArray.extract x 0 (Int.toNat z1)):Int)>1)=true then if(0:Int)≤0∧0< (ByteArray.size (ByteArray.extract x 0 (Int.toNat z1)):Int)then if(((UInt8.toNat (List.getD (Array.toList (ByteArray.data (ByteArray.extract x 0 (Int.toNat z1)))) 0 0):Nat):Int)==48)=true then dn (0,0,⟨#[]⟩,0,11)else(l_lnum_l0 (ByteArray.extract x 0 (Int.toNat z1),0,0)).bind fun z16=>Sum.elim (fun z16a=>dn (0,0,⟨#[]⟩,0,5)) (fun z16b=>dn (2,0,z16b.1,z16b.2,0)) z16 else none else(l_lnum_l0 (ByteArray.extract x 0 (Int.toNat z1),0,0)).bind fun z18=>Sum.elim (fun z18a=>dn (0,0,⟨#[]⟩,0,5)) (fun z18b=>dn (2,0,z18b.1,z18b.2,0)) z18 else none
theorem n_lnum{β:Type}(c_spanD)(l_lnum_l0)(x)(dn:g_lnum→Option β):t_lnum c_spanD l_lnum_l0 x dn=(t_lnum c_spanD l_lnum_l0 x some).bind dn:=by
 unfold t_lnum
 repeat' first|exact n0|refine n1 fun _=>?_|refine n2 ?_ ?_|refine n3 (fun _=>?_) fun _=>?_|rfl
theorem r_lnum(c_spanD)(l_lnum_l0)(x):callK E5 (ftg 46 (fun a _=>fnId (a.getD 1 .junk)==50) A_spanD R_spanD c_spanD ca0) (lt2 0 (fun _=>true) (bodyOf E5 51 0) (lnum_l0_S x) (lnum_l0_T x) l_lnum_l0 lo0) 51 (A_lnum x).1 (A_lnum x).2 K=t_lnum (vf A_spanD c_spanD) (lf (bodyOf E5 51 0) (lnum_l0_S x) l_lnum_l0) x (fun z=>some (.c (R_lnum z))):=by kernel_rfl
noncomputable def lnum(q:Nat)(x:a_lnum):Option g_lnum:=t_lnum (spanD q) (lnum_l0 (spanD q) q x) x some
theorem sc_lnum(q:Nat):Lw E5 51 A_lnum R_lnum (lnum q):=sof hW5 hX5 (fk (sc_spanD q) ca0_sound) (fun x=>(lk2 (lnum_l0_s (spanD q) (sc_spanD q) q x) lo0_sound)) fun x=>(r_lnum (spanD q) (lnum_l0 (spanD q) q x) x).trans (by rw[v_spanD,lnum_l0_u,n_lnum]<;>rfl)
abbrev a_lsym:Type:=ByteArray
abbrev g_lsym:Type:=Int×Int×ByteArray×Int×Int
def A_lsym:AR a_lsym:=fun x=>([st x],[])
def d_lsym(t:TT):a_lsym:=(vS (ag t 0))
theorem v_lsym:VI A_lsym:=vd d_lsym fun _=>rfl
def R_lsym:g_lsym→CRes:=fun z=>.ret (.tup [.agg [i64 z.1,i64 z.2.1,st z.2.2.1,i64 z.2.2.2.1],i64 z.2.2.2.2]) []
def t_lsym{β:Type}(c_IndexByte:a_IndexByte→Option g_IndexByte)(x:a_lsym)(dn:g_lsym→Option β):Option β:=
 if(0:Int)≤0∧0< (x.size:Int)then(c_IndexByte ((⟨#[123,125,40,41,61,59,44,58,60,62,43,45,42,47,33,46]⟩,((UInt8.toNat (List.getD (Array.toList x.data) 0 0):Nat):Int)))).bind fun z2=>if decide (z2≥0)=true then if decide ((x.size:Int)>1)=true then if(0:Int)≤0∧(0:Int)≤2∧2≤(x.size:Int)then if(ByteArray.toList (ByteArray.extract x 0 2)==ByteArray.toList ⟨#[124,124]⟩)=true then if(0:Int)≤0∧(0:Int)≤2∧2≤(x.size:Int)then dn (3,0,ByteArray.extract x 0 2,0,0)else none else if(ByteArray.toList (ByteArray.extract x 0 2)==ByteArray.toList ⟨#[38,38]⟩)=true then if(0:Int)≤0∧(0:Int)≤2∧2≤(x.size:Int)then dn (3,0,ByteArray.extract x 0 2,0,0)else none else if(ByteArray.toList (ByteArray.extract x 0 2)==ByteArray.toList ⟨#[60,61]⟩)=true then if(0:Int)≤0∧(0:Int)≤2∧2≤(x.size:Int)then dn (3,0,ByteArray.extract x 0 2,0,0)else none else if(ByteArray.toList (ByteArray.extract x 0 2)==ByteArray.toList ⟨#[62,61]⟩)=true then if(0:Int)≤0∧(0:Int)≤2∧2≤(x.size:Int)then dn (3,0,ByteArray.extract x 0 2,0,0)else none else if(ByteArray.toList (ByteArray.extract x 0 2)==ByteArray.toList ⟨#[61,61]⟩)=true then if(0:Int)≤0∧(0:Int)≤2∧2≤(x.size:Int)then dn (3,0,ByteArray.extract x 0 2,0,0)else none else if(ByteArray.toList (ByteArray.extract x 0 2)==ByteArray.toList ⟨#[33,61]⟩)=true then if(0:Int)≤0∧(0:Int)≤2∧2≤(x.size:Int)then dn (3,0,ByteArray.extract x 0 2,0,0)else none else if(0:Int)≤0∧(0:Int)≤1∧1≤(x.size:Int)then dn (3,0,ByteArray.extract x 0 1,0,0)else none else none else if(0:Int)≤0∧(0:Int)≤1∧1≤(x.size:Int)then dn (3,0,ByteArray.extract x 0 1,0,0)else none else if decide ((x.size:Int)>1)=true then if(0:Int)≤0∧(0:Int)≤2∧2≤(x.size:Int)then if(ByteArray.toList (ByteArray.extract x 0 2)==ByteArray.toList ⟨#[124,124]⟩)=true then if(0:Int)≤0∧(0:Int)≤2∧2≤(x.size:Int)then dn (3,0,ByteArray.extract x 0 2,0,0)else none else if(ByteArray.toList (ByteArray.extract x 0 2)==ByteArray.toList ⟨#[38,38]⟩)=true then if(0:Int)≤0∧(0:Int)≤2∧2≤(x.size:Int)then dn (3,0,ByteArray.extract x 0 2,0,0)else none else if(ByteArray.toList (ByteArray.extract x 0 2)==ByteArray.toList ⟨#[60,61]⟩)=true then if(0:Int)≤0∧(0:Int)≤2∧2≤(x.size:Int)then dn (3,0,ByteArray.extract x 0 2,0,0)else none else if(ByteArray.toList (ByteArray.extract x 0 2)==ByteArray.toList ⟨#[62,61]⟩)=true then if(0:Int)≤0∧(0:Int)≤2∧2≤(x.size:Int)then dn (3,0,ByteArray.extract x 0 2,0,0)else none else if(ByteArray.toList (ByteArray.extract x 0 2)==ByteArray.toList ⟨#[61,61]⟩)=true then if(0:Int)≤0∧(0:Int)≤2∧2≤(x.size:Int)then dn (3,0,ByteArray.extract x 0 2,0,0)else none else if(ByteArray.toList (ByteArray.extract x 0 2)==ByteArray.toList ⟨#[33,61]⟩)=true then if(0:Int)≤0∧(0:Int)≤2∧2≤(x.size:Int)then dn (3,0,ByteArray.extract x 0 2,0,0)else none else dn (0,0,⟨#[]⟩,0,11)else none else dn (0,0,⟨#[]⟩,0,11)else none
theorem n_lsym{β:Type}(c_IndexByte)(x)(dn:g_lsym→Option β):t_lsym c_IndexByte x dn=(t_lsym c_IndexByte x some).bind dn:=by
 unfold t_lsym
 repeat' first|exact n0|refine n1 fun _=>?_|refine n2 ?_ ?_|refine n3 (fun _=>?_) fun _=>?_|rfl
theorem r_lsym(c_IndexByte)(x):callK E5 (ftb 83 A_IndexByte R_IndexByte c_IndexByte ca0) lo0 52 (A_lsym x).1 (A_lsym x).2 K=t_lsym (vf A_IndexByte c_IndexByte) x (fun z=>some (.c (R_lsym z))):=by kernel_rfl
noncomputable def lsym(q:Nat)(x:a_lsym):Option g_lsym:=t_lsym (IndexByte q) x some
theorem sc_lsym(q:Nat):Lw E5 52 A_lsym R_lsym (lsym q):=sof hW5 hX5 (fk (sc_IndexByte q) ca0_sound) (fun _=>lo0_sound) fun x=>(r_lsym (IndexByte q) x).trans (by rw[v_IndexByte,n_lsym]<;>rfl)
abbrev a_Tokens:Type:=ByteArray
abbrev g_Tokens:Type:=(Int×Int)⊕(Int×Int×Nat×FI×FI×FS×FI)
def A_Tokens:AR a_Tokens:=fun x=>([st x],[])
def R_Tokens:g_Tokens→CRes:=Sum.elim (fun z:Int×Int=>.ret (.tup [nilS,i64 z.1,i64 z.2]) []) (fun z:Int×Int×Nat×FI×FI×FS×FI=>.ret (.tup [.sl 0 4 0 z.2.2.1,i64 z.1,i64 z.2.1]) [some (.row 52 4 z.2.2.1 (fun j=>[i64 (z.2.2.2.1 j),i64 (z.2.2.2.2.1 j),st (z.2.2.2.2.2.1 j),i64 (z.2.2.2.2.2.2 j)]))])
abbrev Tokens_l0_a:Type:=(Nat×Int)⊕(Int×FI×FS×FI×FI×Nat×Nat)
abbrev Tokens_l0_g:Type:=(Int×Int)⊕(Unit)⊕(Nat×FI×FI×FS×FI)
def Tokens_l0_S0(x:a_Tokens)(y:Nat×Int):St:={fr:=[st x]++jk 4++[nilS,i64 y.2]++jk 9++[V.ptr 0 0]++jk 74,H:=hp [some (Chunk.iter x y.1)],nx:=1,rt:=0,me:=20}
def Tokens_l0_d0(s:St):Nat×Int:=((chP (s.H 0)),vI (s.fr.getD 6 .junk))
def Tokens_l0_S1(x:a_Tokens)(y:Int×FI×FS×FI×FI×Nat×Nat):St:={fr:=[st x]++jk 4++[V.sl 0 4 0 y.2.2.2.2.2.2,i64 y.1]++jk 9++[V.ptr 1 0]++jk 74,H:=hp [some (Chunk.row 52 4 y.2.2.2.2.2.2 fun j=>[i64 (y.2.1 j),i64 (y.2.2.2.2.1 j),st (y.2.2.1 j),i64 (y.2.2.2.1 j)]),some (Chunk.iter x y.2.2.2.2.2.1)],nx:=2,rt:=0,me:=20}
def Tokens_l0_d1(s:St):Int×FI×FS×FI×FI×Nat×Nat:=((vI (s.fr.getD 6 .junk)),dRI (s.H 0) 0,dRS (s.H 0) 2,dRI (s.H 0) 3,dRI (s.H 0) 1,(chP (s.H 1)),vSlN (s.fr.getD 5 .junk))
def Tokens_l0_S(x:a_Tokens):Tokens_l0_a→St:=(Sum.elim (Tokens_l0_S0 x) (Tokens_l0_S1 x))
def Tokens_l0_d(s:St):Tokens_l0_a:=(match s.nx==1 with|true=>(.inl (Tokens_l0_d0 s)) |false=>(.inr (Tokens_l0_d1 s)))
theorem Tokens_l0_u(x:a_Tokens):VL (Tokens_l0_S x):=vl Tokens_l0_d (fun y=>by rcases y with y|y<;>rfl)
def Tokens_l0_T(x:a_Tokens):Tokens_l0_g→Ex×St:=(Sum.elim (fun z=>(Ex.ret,{fr:=[V.junk,V.junk,nilS,i64 z.1,i64 z.2]++jk 86,H:=hp [],nx:=0,rt:=0,me:=20})) (Sum.elim (fun z=>(Ex.exit 0,{fr:=[st x]++jk 4++[nilS]++jk 85,H:=hp [],nx:=0,rt:=0,me:=20})) (fun z=>(Ex.exit 0,{fr:=[st x]++jk 4++[V.sl 0 4 0 z.1]++jk 85,H:=hp [some (Chunk.row 52 4 z.1 fun j=>[i64 (z.2.1 j),i64 (z.2.2.1 j),st (z.2.2.2.1 j),i64 (z.2.2.2.2 j)])],nx:=1,rt:=0,me:=20}))))
def Tokens_l0_t0{β:Type}(c_letter:a_letter→Option g_letter)(c_digit:a_digit→Option g_digit)(c_spanN:a_spanN→Option g_spanN)(c_word:a_word→Option g_word)(c_lnum:a_lnum→Option g_lnum)(c_lsym:a_lsym→Option g_lsym)(x:a_Tokens)(y:Nat×Int)(nx:Tokens_l0_a→Option β)(dn:Tokens_l0_g→Option β):Option β:=
 if y.1<x.size then if decide (((y.1:Nat):Int)<y.2)=true then nx (.inl (y.1+Prod.snd (Utf8.decode x y.1),y.2))else if 0≤((y.1:Nat):Int)∧((y.1:Nat):Int)≤(x.size:Int)∧(x.size:Int)≤(x.size:Int)then if(((Prod.fst (Utf8.decode x y.1):Nat):Int)==32)=true then nx (.inl (y.1+Prod.snd (Utf8.decode x y.1),y.2))else if(((Prod.fst (Utf8.decode x y.1):Nat):Int)==9)=true then nx (.inl (y.1+Prod.snd (Utf8.decode x y.1),y.2))else if(((Prod.fst (Utf8.decode x y.1):Nat):Int)==10)=true then nx (.inl (y.1+Prod.snd (Utf8.decode x y.1),y.2))else if(((Prod.fst (Utf8.decode x y.1):Nat):Int)==13)=true then nx (.inl (y.1+Prod.snd (Utf8.decode x y.1),y.2))else if(((Prod.fst (Utf8.decode x y.1):Nat):Int)==35)=true then(c_spanN (ByteArray.extract x (Int.toNat ((y.1:Nat):Int)) (Int.toNat (x.size:Int)))).bind fun z476=>nx (.inl (y.1+Prod.snd (Utf8.decode x y.1),w (((y.1:Nat):Int)+z476)))else(c_letter ((Prod.fst (Utf8.decode x y.1):Nat):Int)).bind fun z478=>if z478=true then(c_word (ByteArray.extract x (Int.toNat ((y.1:Nat):Int)) (Int.toNat (x.size:Int)))).bind fun z480=>if(z480.2.2.2.2 !=0)=true then dn (.inl (((y.1:Nat):Int),z480.2.2.2.2))else nx (.inr (w (((y.1:Nat):Int)+(z480.2.2.1.size:Int)),fun j=>z480.1,fun j=>z480.2.2.1,fun j=>z480.2.2.2.1,fun j=>((y.1:Nat):Int),y.1+Prod.snd (Utf8.decode x y.1),1))else(c_digit ((Prod.fst (Utf8.decode x y.1):Nat):Int)).bind fun z482=>if z482=true then(c_lnum (ByteArray.extract x (Int.toNat ((y.1:Nat):Int)) (Int.toNat (x.size:Int)))).bind fun z484=>if(z484.2.2.2.2 !=0)=true then dn (.inl (((y.1:Nat):Int),z484.2.2.2.2))else nx (.inr (w (((y.1:Nat):Int)+(z484.2.2.1.size:Int)),fun j=>z484.1,fun j=>z484.2.2.1,fun j=>z484.2.2.2.1,fun j=>((y.1:Nat):Int),y.1+Prod.snd (Utf8.decode x y.1),1))else(c_lsym (ByteArray.extract x (Int.toNat ((y.1:Nat):Int)) (Int.toNat (x.size:Int)))).bind fun z486=>if(z486.2.2.2.2 !=0)=true then dn (.inl (((y.1:Nat):Int),z486.2.2.2.2))else nx (.inr (w (((y.1:Nat):Int)+(z486.2.2.1.size:Int)),fun j=>z486.1,fun j=>z486.2.2.1,fun j=>z486.2.2.2.1,fun j=>((y.1:Nat):Int),y.1+Prod.snd (Utf8.decode x y.1),1))else none else dn (.inr (.inl ()))
theorem Tokens_l0_n0{β:Type}(c_letter c_digit)(c_spanN c_word)(c_lnum c_lsym)(x)(y)(nx:Tokens_l0_a→Option β)(dn):Tokens_l0_t0 c_letter c_digit c_spanN c_word c_lnum c_lsym x y nx dn=(Tokens_l0_t0 c_letter c_digit c_spanN c_word c_lnum c_lsym x y (fun y=>some (.inl y)) (fun z=>some (.inr z))).bind fun r=>Sum.elim nx dn r:=by
 unfold Tokens_l0_t0
 repeat' first|exact n0|refine n1 fun _=>?_|refine n2 ?_ ?_|refine n3 (fun _=>?_) fun _=>?_|rfl
theorem Tokens_l0_r0(c_letter c_digit)(c_spanN c_word)(c_lnum c_lsym)(x)(y)(lo:LoopT):loopK E5 (ftb 48 A_letter R_letter c_letter (ftb 50 A_digit R_digit c_digit (ftg 46 (fun a _=>fnId (a.getD 1 .junk)==47) A_spanN R_spanN c_spanN (ftb 49 A_word R_word c_word (ftb 51 A_lnum R_lnum c_lnum (ftb 52 A_lsym R_lsym c_lsym ca0)))))) lo 0 65633 (bodyOf E5 20 0) (Tokens_l0_S x (.inl y)) (KCM [(0,33)] 28)=Tokens_l0_t0 (vf A_letter c_letter) (vf A_digit c_digit) (vf A_spanN c_spanN) (vf A_word c_word) (vf A_lnum c_lnum) (vf A_lsym c_lsym) x y (fun y=>lo 0 65633 (bodyOf E5 20 0) (Tokens_l0_S x y) (KCM [(0,33)] 28)) (fun z=>some (.l (Tokens_l0_T x z).1 (Tokens_l0_T x z).2)):=by kernel_rfl
def Tokens_l0_t1{β:Type}(c_letter:a_letter→Option g_letter)(c_digit:a_digit→Option g_digit)(c_spanN:a_spanN→Option g_spanN)(c_word:a_word→Option g_word)(c_lnum:a_lnum→Option g_lnum)(c_lsym:a_lsym→Option g_lsym)(x:a_Tokens)(y:Int×FI×FS×FI×FI×Nat×Nat)(nx:Tokens_l0_a→Option β)(dn:Tokens_l0_g→Option β):Option β:=
 if y.2.2.2.2.2.1<x.size then if decide (((y.2.2.2.2.2.1:Nat):Int)<y.1)=true then nx (.inr (y.1,y.2.1,y.2.2.1,y.2.2.2.1,y.2.2.2.2.1,y.2.2.2.2.2.1+Prod.snd (Utf8.decode x y.2.2.2.2.2.1),y.2.2.2.2.2.2))else if 0≤((y.2.2.2.2.2.1:Nat):Int)∧((y.2.2.2.2.2.1:Nat):Int)≤(x.size:Int)∧(x.size:Int)≤(x.size:Int)then if(((Prod.fst (Utf8.decode x y.2.2.2.2.2.1):Nat):Int)==32)=true then nx (.inr (y.1,y.2.1,y.2.2.1,y.2.2.2.1,y.2.2.2.2.1,y.2.2.2.2.2.1+Prod.snd (Utf8.decode x y.2.2.2.2.2.1),y.2.2.2.2.2.2))else if(((Prod.fst (Utf8.decode x y.2.2.2.2.2.1):Nat):Int)==9)=true then nx (.inr (y.1,y.2.1,y.2.2.1,y.2.2.2.1,y.2.2.2.2.1,y.2.2.2.2.2.1+Prod.snd (Utf8.decode x y.2.2.2.2.2.1),y.2.2.2.2.2.2))else if(((Prod.fst (Utf8.decode x y.2.2.2.2.2.1):Nat):Int)==10)=true then nx (.inr (y.1,y.2.1,y.2.2.1,y.2.2.2.1,y.2.2.2.2.1,y.2.2.2.2.2.1+Prod.snd (Utf8.decode x y.2.2.2.2.2.1),y.2.2.2.2.2.2))else if(((Prod.fst (Utf8.decode x y.2.2.2.2.2.1):Nat):Int)==13)=true then nx (.inr (y.1,y.2.1,y.2.2.1,y.2.2.2.1,y.2.2.2.2.1,y.2.2.2.2.2.1+Prod.snd (Utf8.decode x y.2.2.2.2.2.1),y.2.2.2.2.2.2))else if(((Prod.fst (Utf8.decode x y.2.2.2.2.2.1):Nat):Int)==35)=true then(c_spanN (ByteArray.extract x (Int.toNat ((y.2.2.2.2.2.1:Nat):Int)) (Int.toNat (x.size:Int)))).bind fun z489=>nx (.inr (w (((y.2.2.2.2.2.1:Nat):Int)+z489),y.2.1,y.2.2.1,y.2.2.2.1,y.2.2.2.2.1,y.2.2.2.2.2.1+Prod.snd (Utf8.decode x y.2.2.2.2.2.1),y.2.2.2.2.2.2))else(c_letter ((Prod.fst (Utf8.decode x y.2.2.2.2.2.1):Nat):Int)).bind fun z491=>if z491=true then(c_word (ByteArray.extract x (Int.toNat ((y.2.2.2.2.2.1:Nat):Int)) (Int.toNat (x.size:Int)))).bind fun z493=>if(z493.2.2.2.2 !=0)=true then dn (.inl (((y.2.2.2.2.2.1:Nat):Int),z493.2.2.2.2))else if(y.2.2.2.2.2.2+1)*40≤roomBound∧y.2.2.2.2.2.2+1≤maxLen∧y.2.2.2.2.2.2≤y.2.2.2.2.2.2 then nx (.inr (w (((y.2.2.2.2.2.1:Nat):Int)+(z493.2.2.1.size:Int)),fun j=>if j<y.2.2.2.2.2.2 then y.2.1 j else z493.1,fun j=>if j<y.2.2.2.2.2.2 then y.2.2.1 j else z493.2.2.1,fun j=>if j<y.2.2.2.2.2.2 then y.2.2.2.1 j else z493.2.2.2.1,fun j=>if j<y.2.2.2.2.2.2 then y.2.2.2.2.1 j else((y.2.2.2.2.2.1:Nat):Int),y.2.2.2.2.2.1+Prod.snd (Utf8.decode x y.2.2.2.2.2.1),y.2.2.2.2.2.2+1))else none else(c_digit ((Prod.fst (Utf8.decode x y.2.2.2.2.2.1):Nat):Int)).bind fun z495=>if z495=true then(c_lnum (ByteArray.extract x (Int.toNat ((y.2.2.2.2.2.1:Nat):Int)) (Int.toNat (x.size:Int)))).bind fun z497=>if(z497.2.2.2.2 !=0)=true then dn (.inl (((y.2.2.2.2.2.1:Nat):Int),z497.2.2.2.2))else if(y.2.2.2.2.2.2+1)*40≤roomBound∧y.2.2.2.2.2.2+1≤maxLen∧y.2.2.2.2.2.2≤y.2.2.2.2.2.2 then nx (.inr (w (((y.2.2.2.2.2.1:Nat):Int)+(z497.2.2.1.size:Int)),fun j=>if j<y.2.2.2.2.2.2 then y.2.1 j else z497.1,fun j=>if j<y.2.2.2.2.2.2 then y.2.2.1 j else z497.2.2.1,fun j=>if j<y.2.2.2.2.2.2 then y.2.2.2.1 j else z497.2.2.2.1,fun j=>if j<y.2.2.2.2.2.2 then y.2.2.2.2.1 j else((y.2.2.2.2.2.1:Nat):Int),y.2.2.2.2.2.1+Prod.snd (Utf8.decode x y.2.2.2.2.2.1),y.2.2.2.2.2.2+1))else none else(c_lsym (ByteArray.extract x (Int.toNat ((y.2.2.2.2.2.1:Nat):Int)) (Int.toNat (x.size:Int)))).bind fun z499=>if(z499.2.2.2.2 !=0)=true then dn (.inl (((y.2.2.2.2.2.1:Nat):Int),z499.2.2.2.2))else if(y.2.2.2.2.2.2+1)*40≤roomBound∧y.2.2.2.2.2.2+1≤maxLen∧y.2.2.2.2.2.2≤y.2.2.2.2.2.2 then nx (.inr (w (((y.2.2.2.2.2.1:Nat):Int)+(z499.2.2.1.size:Int)),fun j=>if j<y.2.2.2.2.2.2 then y.2.1 j else z499.1,fun j=>if j<y.2.2.2.2.2.2 then y.2.2.1 j else z499.2.2.1,fun j=>if j<y.2.2.2.2.2.2 then y.2.2.2.1 j else z499.2.2.2.1,fun j=>if j<y.2.2.2.2.2.2 then y.2.2.2.2.1 j else((y.2.2.2.2.2.1:Nat):Int),y.2.2.2.2.2.1+Prod.snd (Utf8.decode x y.2.2.2.2.2.1),y.2.2.2.2.2.2+1))else none else none else dn (.inr (.inr (y.2.2.2.2.2.2,y.2.1,y.2.2.2.2.1,y.2.2.1,y.2.2.2.1)))
theorem Tokens_l0_n1{β:Type}(c_letter c_digit)(c_spanN c_word)(c_lnum c_lsym)(x)(y)(nx:Tokens_l0_a→Option β)(dn):Tokens_l0_t1 c_letter c_digit c_spanN c_word c_lnum c_lsym x y nx dn=(Tokens_l0_t1 c_letter c_digit c_spanN c_word c_lnum c_lsym x y (fun y=>some (.inl y)) (fun z=>some (.inr z))).bind fun r=>Sum.elim nx dn r:=by
 unfold Tokens_l0_t1
 repeat' first|exact n0|refine n1 fun _=>?_|refine n2 ?_ ?_|refine n3 (fun _=>?_) fun _=>?_|rfl
theorem Tokens_l0_r1(c_letter c_digit)(c_spanN c_word)(c_lnum c_lsym)(x)(y)(lo:LoopT):loopK E5 (ftb 48 A_letter R_letter c_letter (ftb 50 A_digit R_digit c_digit (ftg 46 (fun a _=>fnId (a.getD 1 .junk)==47) A_spanN R_spanN c_spanN (ftb 49 A_word R_word c_word (ftb 51 A_lnum R_lnum c_lnum (ftb 52 A_lsym R_lsym c_lsym ca0)))))) lo 0 65633 (bodyOf E5 20 0) (Tokens_l0_S x (.inr y)) (KCM [(0,33)] 28)=Tokens_l0_t1 (vf A_letter c_letter) (vf A_digit c_digit) (vf A_spanN c_spanN) (vf A_word c_word) (vf A_lnum c_lnum) (vf A_lsym c_lsym) x y (fun y=>lo 0 65633 (bodyOf E5 20 0) (Tokens_l0_S x y) (KCM [(0,33)] 28)) (fun z=>some (.l (Tokens_l0_T x z).1 (Tokens_l0_T x z).2)):=by kernel_rfl
noncomputable def Tokens_l0(c_letter:a_letter→Option g_letter)(c_digit:a_digit→Option g_digit)(c_spanN:a_spanN→Option g_spanN)(c_word:a_word→Option g_word)(c_lnum:a_lnum→Option g_lnum)(c_lsym:a_lsym→Option g_lsym)(q:Nat)(x:a_Tokens):Tokens_l0_a→Option Tokens_l0_g:=lpG (Sum.elim (fun y=>Tokens_l0_t0 c_letter c_digit c_spanN c_word c_lnum c_lsym x y (fun y=>some (.inl y)) (fun z=>some (.inr z))) (fun y=>Tokens_l0_t1 c_letter c_digit c_spanN c_word c_lnum c_lsym x y (fun y=>some (.inl y)) (fun z=>some (.inr z)))) q
theorem Tokens_l0_s(c_letter)(h_letter:Lw E5 48 A_letter R_letter c_letter)(c_digit)(h_digit:Lw E5 50 A_digit R_digit c_digit)(c_spanN)(h_spanN:Lw E5 46 A_spanN R_spanN c_spanN)(c_word)(h_word:Lw E5 49 A_word R_word c_word)(c_lnum)(h_lnum:Lw E5 51 A_lnum R_lnum c_lnum)(c_lsym)(h_lsym:Lw E5 52 A_lsym R_lsym c_lsym)(q:Nat)(x:a_Tokens):Ll E5 (bodyOf E5 20 0) (Tokens_l0_S x) (Tokens_l0_T x) (Tokens_l0 c_letter c_digit c_spanN c_word c_lnum c_lsym q x):=
 slp (fk h_letter (fk h_digit (fk h_spanN (fk h_word (fk h_lnum (fk h_lsym ca0_sound)))))) hX5 (fun lo y=>by
  rcases y with y|y
  ·exact(Tokens_l0_r0 c_letter c_digit c_spanN c_word c_lnum c_lsym x y lo).trans (by rw[v_letter,v_digit,v_spanN,v_word,v_lnum,v_lsym];exact Tokens_l0_n0 _ _ _ _ _ _ _ _ _ _)
  ·exact(Tokens_l0_r1 c_letter c_digit c_spanN c_word c_lnum c_lsym x y lo).trans (by rw[v_letter,v_digit,v_spanN,v_word,v_lnum,v_lsym];exact Tokens_l0_n1 _ _ _ _ _ _ _ _ _ _)) (fun z=>by rcases z with z|z|z<;>kernel_rfl) q
def t_Tokens{β:Type}(c_letter:a_letter→Option g_letter)(c_digit:a_digit→Option g_digit)(c_spanN:a_spanN→Option g_spanN)(c_word:a_word→Option g_word)(c_lnum:a_lnum→Option g_lnum)(c_lsym:a_lsym→Option g_lsym)(l_Tokens_l0:Tokens_l0_a→Option Tokens_l0_g)(x:a_Tokens)(dn:g_Tokens→Option β):Option β:=
 if decide ((x.size:Int)>4000)=true then dn (.inl (4000,2))else(l_Tokens_l0 (.inl (0,0))).bind fun z461=>Sum.elim (fun z461a=>dn (.inl z461a)) (fun z461b=>Sum.elim (fun z461ba=>dn (.inr (0,0,1,fun j=>0,fun j=>(x.size:Int),fun j=>⟨#[]⟩,fun j=>0))) (fun z461bb=>if(z461bb.1+1)*40≤roomBound∧z461bb.1+1≤maxLen∧z461bb.1≤z461bb.1 then dn (.inr (0,0,z461bb.1+1,fun j=>if j<z461bb.1 then z461bb.2.1 j else 0,fun j=>if j<z461bb.1 then z461bb.2.2.1 j else(x.size:Int),fun j=>if j<z461bb.1 then z461bb.2.2.2.1 j else⟨#[]⟩,fun j=>if j<z461bb.1 then z461bb.2.2.2.2 j else 0))else none) z461b) z461
theorem n_Tokens{β:Type}(c_letter c_digit)(c_spanN c_word)(c_lnum c_lsym)(l_Tokens_l0)(x)(dn:g_Tokens→Option β):t_Tokens c_letter c_digit c_spanN c_word c_lnum c_lsym l_Tokens_l0 x dn=(t_Tokens c_letter c_digit c_spanN c_word c_lnum c_lsym l_Tokens_l0 x some).bind dn:=by
 unfold t_Tokens
 repeat' first|exact n0|refine n1 fun _=>?_|refine n2 ?_ ?_|refine n3 (fun _=>?_) fun _=>?_|rfl
theorem r_Tokens(c_letter c_digit)(c_spanN c_word)(c_lnum c_lsym)(l_Tokens_l0)(x):callK E5 (ftb 48 A_letter R_letter c_letter (ftb 50 A_digit R_digit c_digit (ftg 46 (fun a _=>fnId (a.getD 1 .junk)==47) A_spanN R_spanN c_spanN (ftb 49 A_word R_word c_word (ftb 51 A_lnum R_lnum c_lnum (ftb 52 A_lsym R_lsym c_lsym ca0)))))) (lt3 0 (fun _=>true) (bodyOf E5 20 0) (Tokens_l0_S x) (Tokens_l0_T x) l_Tokens_l0 lo0) 20 (A_Tokens x).1 (A_Tokens x).2 K=t_Tokens (vf A_letter c_letter) (vf A_digit c_digit) (vf A_spanN c_spanN) (vf A_word c_word) (vf A_lnum c_lnum) (vf A_lsym c_lsym) (lf (bodyOf E5 20 0) (Tokens_l0_S x) l_Tokens_l0) x (fun z=>some (.c (R_Tokens z))):=by kernel_rfl
noncomputable def Tokens(q:Nat)(x:a_Tokens):Option g_Tokens:=t_Tokens (letter q) (digit q) (spanN q) (word q) (lnum q) (lsym q) (Tokens_l0 (letter q) (digit q) (spanN q) (word q) (lnum q) (lsym q) q x) x some
theorem sc_Tokens(q:Nat):Lw E5 20 A_Tokens R_Tokens (Tokens q):=sof hW5 hX5 (fk (sc_letter q) (fk (sc_digit q) (fk (sc_spanN q) (fk (sc_word q) (fk (sc_lnum q) (fk (sc_lsym q) ca0_sound)))))) (fun x=>(lk3 (Tokens_l0_s (letter q) (sc_letter q) (digit q) (sc_digit q) (spanN q) (sc_spanN q) (word q) (sc_word q) (lnum q) (sc_lnum q) (lsym q) (sc_lsym q) q x) lo0_sound)) fun x=>(r_Tokens (letter q) (digit q) (spanN q) (word q) (lnum q) (lsym q) (Tokens_l0 (letter q) (digit q) (spanN q) (word q) (lnum q) (lsym q) q x) x).trans (by rw[v_letter,v_digit,v_spanN,v_word,v_lnum,v_lsym,Tokens_l0_u,n_Tokens]<;>rfl)
abbrev a_RLetter:Type:=Int
abbrev g_RLetter:Type:=Bool
def A_RLetter:AR a_RLetter:=fun x=>([u8 x],[])
def d_RLetter(t:TT):a_RLetter:=(vI (ag t 0))
theorem v_RLetter:VI A_RLetter:=vd d_RLetter fun _=>rfl
def R_RLetter:g_RLetter→CRes:=fun z=>.ret (bo z) []
def t_RLetter{β:Type}(x:a_RLetter)(dn:g_RLetter→Option β):Option β:=
 if decide (x≥97)=true then if decide (x≤122)=true then dn true else if decide (x≥65)=true then dn (decide (x≤90))else dn false else if decide (x≥65)=true then dn (decide (x≤90))else dn false
theorem n_RLetter{β:Type}(x)(dn:g_RLetter→Option β):t_RLetter x dn=(t_RLetter x some).bind dn:=by
 unfold t_RLetter
 repeat' first|exact n0|refine n1 fun _=>?_|refine n2 ?_ ?_|refine n3 (fun _=>?_) fun _=>?_|rfl
theorem r_RLetter(x):callK E5 ca0 lo0 91 (A_RLetter x).1 (A_RLetter x).2 K=t_RLetter x (fun z=>some (.c (R_RLetter z))):=by kernel_rfl
noncomputable def RLetter(q:Nat)(x:a_RLetter):Option g_RLetter:=t_RLetter x some
theorem sc_RLetter(q:Nat):Lw E5 91 A_RLetter R_RLetter (RLetter q):=sof hW5 hX5 ca0_sound (fun _=>lo0_sound) fun x=>(r_RLetter x).trans (by rw[n_RLetter]<;>rfl)
abbrev a_RDigit:Type:=Int
abbrev g_RDigit:Type:=Bool
def A_RDigit:AR a_RDigit:=fun x=>([u8 x],[])
def d_RDigit(t:TT):a_RDigit:=(vI (ag t 0))
theorem v_RDigit:VI A_RDigit:=vd d_RDigit fun _=>rfl
def R_RDigit:g_RDigit→CRes:=fun z=>.ret (bo z) []
def t_RDigit{β:Type}(x:a_RDigit)(dn:g_RDigit→Option β):Option β:=
 if decide (x≥48)=true then dn (decide (x≤57))else dn false
theorem n_RDigit{β:Type}(x)(dn:g_RDigit→Option β):t_RDigit x dn=(t_RDigit x some).bind dn:=by
 unfold t_RDigit
 repeat' first|exact n0|refine n1 fun _=>?_|refine n2 ?_ ?_|refine n3 (fun _=>?_) fun _=>?_|rfl
theorem r_RDigit(x):callK E5 ca0 lo0 92 (A_RDigit x).1 (A_RDigit x).2 K=t_RDigit x (fun z=>some (.c (R_RDigit z))):=by kernel_rfl
noncomputable def RDigit(q:Nat)(x:a_RDigit):Option g_RDigit:=t_RDigit x some
theorem sc_RDigit(q:Nat):Lw E5 92 A_RDigit R_RDigit (RDigit q):=sof hW5 hX5 ca0_sound (fun _=>lo0_sound) fun x=>(r_RDigit x).trans (by rw[n_RDigit]<;>rfl)
abbrev a_RWhite:Type:=Int
abbrev g_RWhite:Type:=Bool
def A_RWhite:AR a_RWhite:=fun x=>([u8 x],[])
def d_RWhite(t:TT):a_RWhite:=(vI (ag t 0))
theorem v_RWhite:VI A_RWhite:=vd d_RWhite fun _=>rfl
def R_RWhite:g_RWhite→CRes:=fun z=>.ret (bo z) []
def t_RWhite{β:Type}(x:a_RWhite)(dn:g_RWhite→Option β):Option β:=
 if(x==32)=true then dn true else if(x==9)=true then dn true else if(x==10)=true then dn true else dn (x==13)
theorem n_RWhite{β:Type}(x)(dn:g_RWhite→Option β):t_RWhite x dn=(t_RWhite x some).bind dn:=by
 unfold t_RWhite
 repeat' first|exact n0|refine n1 fun _=>?_|refine n2 ?_ ?_|refine n3 (fun _=>?_) fun _=>?_|rfl
theorem r_RWhite(x):callK E5 ca0 lo0 90 (A_RWhite x).1 (A_RWhite x).2 K=t_RWhite x (fun z=>some (.c (R_RWhite z))):=by kernel_rfl
noncomputable def RWhite(q:Nat)(x:a_RWhite):Option g_RWhite:=t_RWhite x some
theorem sc_RWhite(q:Nat):Lw E5 90 A_RWhite R_RWhite (RWhite q):=sof hW5 hX5 ca0_sound (fun _=>lo0_sound) fun x=>(r_RWhite x).trans (by rw[n_RWhite]<;>rfl)
abbrev a_RSkip:Type:=ByteArray×Int
abbrev g_RSkip:Type:=Int
def A_RSkip:AR a_RSkip:=fun x=>([st x.1,i64 x.2],[])
def d_RSkip(t:TT):a_RSkip:=((vS (ag t 0)),vI (ag t 1))
theorem v_RSkip:VI A_RSkip:=vd d_RSkip fun _=>rfl
def R_RSkip:g_RSkip→CRes:=fun z=>.ret (i64 z) []
abbrev RSkip_l0_a:Type:=Int×Bool
abbrev RSkip_l0_g:Type:=(Int)⊕(Int)
def RSkip_l0_S(x:a_RSkip)(y:RSkip_l0_a):St:={fr:=[st x.1,i64 y.1,V.junk,V.junk,V.junk,bo y.2]++jk 20,H:=hp [],nx:=0,rt:=0,me:=58}
def RSkip_l0_d(s:St):RSkip_l0_a:=((vI (s.fr.getD 1 .junk)),vB (s.fr.getD 5 .junk))
theorem RSkip_l0_u(x:a_RSkip):VL (RSkip_l0_S x):=vl RSkip_l0_d fun _=>rfl
def RSkip_l0_T(x:a_RSkip):RSkip_l0_g→Ex×St:=(Sum.elim (fun z=>(Ex.ret,{fr:=jk 4++[i64 z]++jk 21,H:=hp [],nx:=0,rt:=0,me:=58})) (fun z=>(Ex.exit 0,{fr:=[V.junk,i64 z]++jk 24,H:=hp [],nx:=0,rt:=0,me:=58})))
def RSkip_l0_t{β:Type}(c_RWhite:a_RWhite→Option g_RWhite)(x:a_RSkip)(y:RSkip_l0_a)(nx:RSkip_l0_a→Option β)(dn:RSkip_l0_g→Option β):Option β:=
 if decide (y.1< (x.1.size:Int))=true then if 0≤y.1∧y.1< (x.1.size:Int)then if y.2=true then nx ((w (y.1+1),((UInt8.toNat (List.getD (Array.toList x.1.data) (Int.toNat y.1) 0):Nat):Int)!=10))else if(((UInt8.toNat (List.getD (Array.toList x.1.data) (Int.toNat y.1) 0):Nat):Int)==35)=true then nx (w (y.1+1),true)else(c_RWhite (((UInt8.toNat (List.getD (Array.toList x.1.data) (Int.toNat y.1) 0):Nat):Int))).bind fun z22=>if(!z22)=true then dn (.inl y.1)else nx (w (y.1+1),y.2)else none else dn (.inr y.1)
theorem RSkip_l0_n{β:Type}(c_RWhite)(x)(y)(nx:RSkip_l0_a→Option β)(dn):RSkip_l0_t c_RWhite x y nx dn=(RSkip_l0_t c_RWhite x y (fun y=>some (.inl y)) (fun z=>some (.inr z))).bind fun r=>Sum.elim nx dn r:=by
 unfold RSkip_l0_t
 repeat' first|exact n0|refine n1 fun _=>?_|refine n2 ?_ ?_|refine n3 (fun _=>?_) fun _=>?_|rfl
theorem RSkip_l0_r(c_RWhite)(x)(y)(lo:LoopT):loopK E5 (ftb 90 A_RWhite R_RWhite c_RWhite ca0) lo 0 35 (bodyOf E5 58 0) (RSkip_l0_S x y) (KCM [(0,2)] 16)=RSkip_l0_t (vf A_RWhite c_RWhite) x y (fun y=>lo 0 35 (bodyOf E5 58 0) (RSkip_l0_S x y) (KCM [(0,2)] 16)) (fun z=>some (.l (RSkip_l0_T x z).1 (RSkip_l0_T x z).2)):=by kernel_rfl
noncomputable def RSkip_l0(c_RWhite:a_RWhite→Option g_RWhite)(q:Nat)(x:a_RSkip):RSkip_l0_a→Option RSkip_l0_g:=lpG (fun y=>RSkip_l0_t c_RWhite x y (fun y=>some (.inl y)) (fun z=>some (.inr z))) q
theorem RSkip_l0_s(c_RWhite)(h_RWhite:Lw E5 90 A_RWhite R_RWhite c_RWhite)(q:Nat)(x:a_RSkip):Ll E5 (bodyOf E5 58 0) (RSkip_l0_S x) (RSkip_l0_T x) (RSkip_l0 c_RWhite q x):=
 slp (fk h_RWhite ca0_sound) hX5 (fun lo y=>(RSkip_l0_r c_RWhite x y lo).trans (by rw[v_RWhite];exact RSkip_l0_n _ _ _ _ _)) (fun z=>by rcases z with z|z<;>kernel_rfl) q
def t_RSkip{β:Type}(c_RWhite:a_RWhite→Option g_RWhite)(l_RSkip_l0:RSkip_l0_a→Option RSkip_l0_g)(x:a_RSkip)(dn:g_RSkip→Option β):Option β:=
 (l_RSkip_l0 (x.2,false)).bind fun z15=>Sum.elim (fun z15a=>dn z15a) (fun z15b=>dn z15b) z15
theorem n_RSkip{β:Type}(c_RWhite)(l_RSkip_l0)(x)(dn:g_RSkip→Option β):t_RSkip c_RWhite l_RSkip_l0 x dn=(t_RSkip c_RWhite l_RSkip_l0 x some).bind dn:=by
 unfold t_RSkip
 repeat' first|exact n0|refine n1 fun _=>?_|refine n2 ?_ ?_|refine n3 (fun _=>?_) fun _=>?_|rfl
theorem r_RSkip(c_RWhite)(l_RSkip_l0)(x):callK E5 (ftb 90 A_RWhite R_RWhite c_RWhite ca0) (lt2 0 (fun _=>true) (bodyOf E5 58 0) (RSkip_l0_S x) (RSkip_l0_T x) l_RSkip_l0 lo0) 58 (A_RSkip x).1 (A_RSkip x).2 K=t_RSkip (vf A_RWhite c_RWhite) (lf (bodyOf E5 58 0) (RSkip_l0_S x) l_RSkip_l0) x (fun z=>some (.c (R_RSkip z))):=by kernel_rfl
noncomputable def RSkip(q:Nat)(x:a_RSkip):Option g_RSkip:=t_RSkip (RWhite q) (RSkip_l0 (RWhite q) q x) x some
theorem sc_RSkip(q:Nat):Lw E5 58 A_RSkip R_RSkip (RSkip q):=sof hW5 hX5 (fk (sc_RWhite q) ca0_sound) (fun x=>(lk2 (RSkip_l0_s (RWhite q) (sc_RWhite q) q x) lo0_sound)) fun x=>(r_RSkip (RWhite q) (RSkip_l0 (RWhite q) q x) x).trans (by rw[v_RWhite,RSkip_l0_u,n_RSkip]<;>rfl)
abbrev a_RSym:Type:=ByteArray×Int
abbrev g_RSym:Type:=ByteArray
def A_RSym:AR a_RSym:=fun x=>([st x.1,i64 x.2],[])
def d_RSym(t:TT):a_RSym:=((vS (ag t 0)),vI (ag t 1))
theorem v_RSym:VI A_RSym:=vd d_RSym fun _=>rfl
def R_RSym:g_RSym→CRes:=fun z=>.ret (st z) []
def t_RSym{β:Type}(x:a_RSym)(dn:g_RSym→Option β):Option β:=
 if decide (w (x.2+1)< (x.1.size:Int))=true then if 0≤x.2∧x.2≤w (x.2+2)∧w (x.2+2)≤(x.1.size:Int)then if(ByteArray.toList (ByteArray.extract x.1 (Int.toNat x.2) (Int.toNat (w (x.2+2))))==ByteArray.toList ⟨#[124,124]⟩)=true then if 0≤x.2∧x.2≤w (x.2+2)∧w (x.2+2)≤(x.1.size:Int)then dn (ByteArray.extract x.1 (Int.toNat x.2) (Int.toNat (w (x.2+2))))else none else if(ByteArray.toList (ByteArray.extract x.1 (Int.toNat x.2) (Int.toNat (w (x.2+2))))==ByteArray.toList ⟨#[38,38]⟩)=true then if 0≤x.2∧x.2≤w (x.2+2)∧w (x.2+2)≤(x.1.size:Int)then dn (ByteArray.extract x.1 (Int.toNat x.2) (Int.toNat (w (x.2+2))))else none else if(ByteArray.toList (ByteArray.extract x.1 (Int.toNat x.2) (Int.toNat (w (x.2+2))))==ByteArray.toList ⟨#[60,61]⟩)=true then if 0≤x.2∧x.2≤w (x.2+2)∧w (x.2+2)≤(x.1.size:Int)then dn (ByteArray.extract x.1 (Int.toNat x.2) (Int.toNat (w (x.2+2))))else none else if(ByteArray.toList (ByteArray.extract x.1 (Int.toNat x.2) (Int.toNat (w (x.2+2))))==ByteArray.toList ⟨#[62,61]⟩)=true then if 0≤x.2∧x.2≤w (x.2+2)∧w (x.2+2)≤(x.1.size:Int)then dn (ByteArray.extract x.1 (Int.toNat x.2) (Int.toNat (w (x.2+2))))else none else if(ByteArray.toList (ByteArray.extract x.1 (Int.toNat x.2) (Int.toNat (w (x.2+2))))==ByteArray.toList ⟨#[61,61]⟩)=true then if 0≤x.2∧x.2≤w (x.2+2)∧w (x.2+2)≤(x.1.size:Int)then dn (ByteArray.extract x.1 (Int.toNat x.2) (Int.toNat (w (x.2+2))))else none else if(ByteArray.toList (ByteArray.extract x.1 (Int.toNat x.2) (Int.toNat (w (x.2+2))))==ByteArray.toList ⟨#[33,61]⟩)=true then if 0≤x.2∧x.2≤w (x.2+2)∧w (x.2+2)≤(x.1.size:Int)then dn (ByteArray.extract x.1 (Int.toNat x.2) (Int.toNat (w (x.2+2))))else none else if 0≤x.2∧x.2< (x.1.size:Int)then if(((UInt8.toNat (List.getD (Array.toList x.1.data) (Int.toNat x.2) 0):Nat):Int)==123)=true then if 0≤x.2∧x.2≤w (x.2+1)∧w (x.2+1)≤(x.1.size:Int)then dn (ByteArray.extract x.1 (Int.toNat x.2) (Int.toNat (w (x.2+1))))else none else if(((UInt8.toNat (List.getD (Array.toList x.1.data) (Int.toNat x.2) 0):Nat):Int)==125)=true then if 0≤x.2∧x.2≤w (x.2+1)∧w (x.2+1)≤(x.1.size:Int)then dn (ByteArray.extract x.1 (Int.toNat x.2) (Int.toNat (w (x.2+1))))else none else if(((UInt8.toNat (List.getD (Array.toList x.1.data) (Int.toNat x.2) 0):Nat):Int)==40)=true then if 0≤x.2∧x.2≤w (x.2+1)∧w (x.2+1)≤(x.1.size:Int)then dn (ByteArray.extract x.1 (Int.toNat x.2) (Int.toNat (w (x.2+1))))else none else if(((UInt8.toNat (List.getD (Array.toList x.1.data) (Int.toNat x.2) 0):Nat):Int)==41)=true then if 0≤x.2∧x.2≤w (x.2+1)∧w (x.2+1)≤(x.1.size:Int)then dn (ByteArray.extract x.1 (Int.toNat x.2) (Int.toNat (w (x.2+1))))else none else if(((UInt8.toNat (List.getD (Array.toList x.1.data) (Int.toNat x.2) 0):Nat):Int)==61)=true then if 0≤x.2∧x.2≤w (x.2+1)∧w (x.2+1)≤(x.1.size:Int)then dn (ByteArray.extract x.1 (Int.toNat x.2) (Int.toNat (w (x.2+1))))else none else if(((UInt8.toNat (List.getD (Array.toList x.1.data) (Int.toNat x.2) 0):Nat):Int)==59)=true then if 0≤x.2∧x.2≤w (x.2+1)∧w (x.2+1)≤(x.1.size:Int)then dn (ByteArray.extract x.1 (Int.toNat x.2) (Int.toNat (w (x.2+1))))else none else if(((UInt8.toNat (List.getD (Array.toList x.1.data) (Int.toNat x.2) 0):Nat):Int)==44)=true then if 0≤x.2∧x.2≤w (x.2+1)∧w (x.2+1)≤(x.1.size:Int)then dn (ByteArray.extract x.1 (Int.toNat x.2) (Int.toNat (w (x.2+1))))else none else if(((UInt8.toNat (List.getD (Array.toList x.1.data) (Int.toNat x.2) 0):Nat):Int)==58)=true then if 0≤x.2∧x.2≤w (x.2+1)∧w (x.2+1)≤(x.1.size:Int)then dn (ByteArray.extract x.1 (Int.toNat x.2) (Int.toNat (w (x.2+1))))else none else if(((UInt8.toNat (List.getD (Array.toList x.1.data) (Int.toNat x.2) 0):Nat):Int)==60)=true then if 0≤x.2∧x.2≤w (x.2+1)∧w (x.2+1)≤(x.1.size:Int)then dn (ByteArray.extract x.1 (Int.toNat x.2) (Int.toNat (w (x.2+1))))else none else if(((UInt8.toNat (List.getD (Array.toList x.1.data) (Int.toNat x.2) 0):Nat):Int)==62)=true then if 0≤x.2∧x.2≤w (x.2+1)∧w (x.2+1)≤(x.1.size:Int)then dn (ByteArray.extract x.1 (Int.toNat x.2) (Int.toNat (w (x.2+1))))else none else if(((UInt8.toNat (List.getD (Array.toList x.1.data) (Int.toNat x.2) 0):Nat):Int)==43)=true then if 0≤x.2∧x.2≤w (x.2+1)∧w (x.2+1)≤(x.1.size:Int)then dn (ByteArray.extract x.1 (Int.toNat x.2) (Int.toNat (w (x.2+1))))else none else if(((UInt8.toNat (List.getD (Array.toList x.1.data) (Int.toNat x.2) 0):Nat):Int)==45)=true then if 0≤x.2∧x.2≤w (x.2+1)∧w (x.2+1)≤(x.1.size:Int)then dn (ByteArray.extract x.1 (Int.toNat x.2) (Int.toNat (w (x.2+1))))else none else if(((UInt8.toNat (List.getD (Array.toList x.1.data) (Int.toNat x.2) 0):Nat):Int)==42)=true then if 0≤x.2∧x.2≤w (x.2+1)∧w (x.2+1)≤(x.1.size:Int)then dn (ByteArray.extract x.1 (Int.toNat x.2) (Int.toNat (w (x.2+1))))else none else if(((UInt8.toNat (List.getD (Array.toList x.1.data) (Int.toNat x.2) 0):Nat):Int)==47)=true then if 0≤x.2∧x.2≤w (x.2+1)∧w (x.2+1)≤(x.1.size:Int)then dn (ByteArray.extract x.1 (Int.toNat x.2) (Int.toNat (w (x.2+1))))else none else if(((UInt8.toNat (List.getD (Array.toList x.1.data) (Int.toNat x.2) 0):Nat):Int)==33)=true then if 0≤x.2∧x.2≤w (x.2+1)∧w (x.2+1)≤(x.1.size:Int)then dn (ByteArray.extract x.1 (Int.toNat x.2) (Int.toNat (w (x.2+1))))else none else if(((UInt8.toNat (List.getD (Array.toList x.1.data) (Int.toNat x.2) 0):Nat):Int)==46)=true then if 0≤x.2∧x.2≤w (x.2+1)∧w (x.2+1)≤(x.1.size:Int)then dn (ByteArray.extract x.1 (Int.toNat x.2) (Int.toNat (w (x.2+1))))else none else dn (⟨#[]⟩)else none else none else if 0≤x.2∧x.2< (x.1.size:Int)then if(((UInt8.toNat (List.getD (Array.toList x.1.data) (Int.toNat x.2) 0):Nat):Int)==123)=true then if 0≤x.2∧x.2≤w (x.2+1)∧w (x.2+1)≤(x.1.size:Int)then dn (ByteArray.extract x.1 (Int.toNat x.2) (Int.toNat (w (x.2+1))))else none else if(((UInt8.toNat (List.getD (Array.toList x.1.data) (Int.toNat x.2) 0):Nat):Int)==125)=true then if 0≤x.2∧x.2≤w (x.2+1)∧w (x.2+1)≤(x.1.size:Int)then dn (ByteArray.extract x.1 (Int.toNat x.2) (Int.toNat (w (x.2+1))))else none else if(((UInt8.toNat (List.getD (Array.toList x.1.data) (Int.toNat x.2) 0):Nat):Int)==40)=true then if 0≤x.2∧x.2≤w (x.2+1)∧w (x.2+1)≤(x.1.size:Int)then dn (ByteArray.extract x.1 (Int.toNat x.2) (Int.toNat (w (x.2+1))))else none else if(((UInt8.toNat (List.getD (Array.toList x.1.data) (Int.toNat x.2) 0):Nat):Int)==41)=true then if 0≤x.2∧x.2≤w (x.2+1)∧w (x.2+1)≤(x.1.size:Int)then dn (ByteArray.extract x.1 (Int.toNat x.2) (Int.toNat (w (x.2+1))))else none else if(((UInt8.toNat (List.getD (Array.toList x.1.data) (Int.toNat x.2) 0):Nat):Int)==61)=true then if 0≤x.2∧x.2≤w (x.2+1)∧w (x.2+1)≤(x.1.size:Int)then dn (ByteArray.extract x.1 (Int.toNat x.2) (Int.toNat (w (x.2+1))))else none else if(((UInt8.toNat (List.getD (Array.toList x.1.data) (Int.toNat x.2) 0):Nat):Int)==59)=true then if 0≤x.2∧x.2≤w (x.2+1)∧w (x.2+1)≤(x.1.size:Int)then dn (ByteArray.extract x.1 (Int.toNat x.2) (Int.toNat (w (x.2+1))))else none else if(((UInt8.toNat (List.getD (Array.toList x.1.data) (Int.toNat x.2) 0):Nat):Int)==44)=true then if 0≤x.2∧x.2≤w (x.2+1)∧w (x.2+1)≤(x.1.size:Int)then dn (ByteArray.extract x.1 (Int.toNat x.2) (Int.toNat (w (x.2+1))))else none else if(((UInt8.toNat (List.getD (Array.toList x.1.data) (Int.toNat x.2) 0):Nat):Int)==58)=true then if 0≤x.2∧x.2≤w (x.2+1)∧w (x.2+1)≤(x.1.size:Int)then dn (ByteArray.extract x.1 (Int.toNat x.2) (Int.toNat (w (x.2+1))))else none else if(((UInt8.toNat (List.getD (Array.toList x.1.data) (Int.toNat x.2) 0):Nat):Int)==60)=true then if 0≤x.2∧x.2≤w (x.2+1)∧w (x.2+1)≤(x.1.size:Int)then dn (ByteArray.extract x.1 (Int.toNat x.2) (Int.toNat (w (x.2+1))))else none else if(((UInt8.toNat (List.getD (Array.toList x.1.data) (Int.toNat x.2) 0):Nat):Int)==62)=true then if 0≤x.2∧x.2≤w (x.2+1)∧w (x.2+1)≤(x.1.size:Int)then dn (ByteArray.extract x.1 (Int.toNat x.2) (Int.toNat (w (x.2+1))))else none else if(((UInt8.toNat (List.getD (Array.toList x.1.data) (Int.toNat x.2) 0):Nat):Int)==43)=true then if 0≤x.2∧x.2≤w (x.2+1)∧w (x.2+1)≤(x.1.size:Int)then dn (ByteArray.extract x.1 (Int.toNat x.2) (Int.toNat (w (x.2+1))))else none else if(((UInt8.toNat (List.getD (Array.toList x.1.data) (Int.toNat x.2) 0):Nat):Int)==45)=true then if 0≤x.2∧x.2≤w (x.2+1)∧w (x.2+1)≤(x.1.size:Int)then dn (ByteArray.extract x.1 (Int.toNat x.2) (Int.toNat (w (x.2+1))))else none else if(((UInt8.toNat (List.getD (Array.toList x.1.data) (Int.toNat x.2) 0):Nat):Int)==42)=true then if 0≤x.2∧x.2≤w (x.2+1)∧w (x.2+1)≤(x.1.size:Int)then dn (ByteArray.extract x.1 (Int.toNat x.2) (Int.toNat (w (x.2+1))))else none else if(((UInt8.toNat (List.getD (Array.toList x.1.data) (Int.toNat x.2) 0):Nat):Int)==47)=true then if 0≤x.2∧x.2≤w (x.2+1)∧w (x.2+1)≤(x.1.size:Int)then dn (ByteArray.extract x.1 (Int.toNat x.2) (Int.toNat (w (x.2+1))))else none else if(((UInt8.toNat (List.getD (Array.toList x.1.data) (Int.toNat x.2) 0):Nat):Int)==33)=true then if 0≤x.2∧x.2≤w (x.2+1)∧w (x.2+1)≤(x.1.size:Int)then dn (ByteArray.extract x.1 (Int.toNat x.2) (Int.toNat (w (x.2+1))))else none else if(((UInt8.toNat (List.getD (Array.toList x.1.data) (Int.toNat x.2) 0):Nat):Int)==46)=true then if 0≤x.2∧x.2≤w (x.2+1)∧w (x.2+1)≤(x.1.size:Int)then dn (ByteArray.extract x.1 (Int.toNat x.2) (Int.toNat (w (x.2+1))))else none else dn (⟨#[]⟩)else none
theorem n_RSym{β:Type}(x)(dn:g_RSym→Option β):t_RSym x dn=(t_RSym x some).bind dn:=by
 unfold t_RSym
 repeat' first|exact n0|refine n1 fun _=>?_|refine n2 ?_ ?_|refine n3 (fun _=>?_) fun _=>?_|rfl
theorem r_RSym(x):callK E5 ca0 lo0 93 (A_RSym x).1 (A_RSym x).2 K=t_RSym x (fun z=>some (.c (R_RSym z))):=by kernel_rfl
noncomputable def RSym(q:Nat)(x:a_RSym):Option g_RSym:=t_RSym x some
theorem sc_RSym(q:Nat):Lw E5 93 A_RSym R_RSym (RSym q):=sof hW5 hX5 ca0_sound (fun _=>lo0_sound) fun x=>(r_RSym x).trans (by rw[n_RSym]<;>rfl)
abbrev a_ROne:Type:=ByteArray×Int
abbrev g_ROne:Type:=Int×Int×ByteArray×Int×Int
def A_ROne:AR a_ROne:=fun x=>([st x.1,i64 x.2],[])
def d_ROne(t:TT):a_ROne:=((vS (ag t 0)),vI (ag t 1))
theorem v_ROne:VI A_ROne:=vd d_ROne fun _=>rfl
def R_ROne:g_ROne→CRes:=fun z=>.ret (.tup [.agg [i64 z.1,i64 z.2.1,st z.2.2.1,i64 z.2.2.2.1],i64 z.2.2.2.2]) []
abbrev ROne_l0_a:Type:=Int
abbrev ROne_l0_g:Type:=Int
def ROne_l0_S(x:a_ROne)(y:ROne_l0_a):St:={fr:=[st x.1,i64 x.2,V.junk,V.junk,V.ptr 0 0,V.junk,i64 y]++jk 91,H:=hp [some (Chunk.blk [i64 0,i64 0,st ⟨#[]⟩,i64 0])],nx:=1,rt:=0,me:=59}
def ROne_l0_d(s:St):ROne_l0_a:=(vI (s.fr.getD 6 .junk))
theorem ROne_l0_u(x:a_ROne):VL (ROne_l0_S x):=vl ROne_l0_d fun _=>rfl
def ROne_l0_T(x:a_ROne):ROne_l0_g→Ex×St:=(fun z=>(Ex.exit 0,{fr:=[st x.1,i64 x.2,V.junk,V.junk,V.ptr 0 0,V.junk,i64 z]++jk 91,H:=hp [some (Chunk.blk [i64 0,i64 0,st ⟨#[]⟩,i64 0])],nx:=1,rt:=0,me:=59}))
def ROne_l0_t{β:Type}(c_RLetter:a_RLetter→Option g_RLetter)(c_RDigit:a_RDigit→Option g_RDigit)(c_RSym:a_RSym→Option g_RSym)(x:a_ROne)(y:ROne_l0_a)(nx:ROne_l0_a→Option β)(dn:ROne_l0_g→Option β):Option β:=
 if decide (y< (x.1.size:Int))=true then if 0≤y∧y< (x.1.size:Int)then(c_RLetter (((UInt8.toNat (List.getD (Array.toList x.1.data) (Int.toNat y) 0):Nat):Int))).bind fun z46=>if z46=true then nx (w (y+1))else if 0≤y∧y< (x.1.size:Int)then(c_RDigit (((UInt8.toNat (List.getD (Array.toList x.1.data) (Int.toNat y) 0):Nat):Int))).bind fun z48=>if z48=true then nx (w (y+1))else dn y else none else none else dn y
theorem ROne_l0_n{β:Type}(c_RLetter c_RDigit c_RSym)(x)(y)(nx:ROne_l0_a→Option β)(dn):ROne_l0_t c_RLetter c_RDigit c_RSym x y nx dn=(ROne_l0_t c_RLetter c_RDigit c_RSym x y (fun y=>some (.inl y)) (fun z=>some (.inr z))).bind fun r=>Sum.elim nx dn r:=by
 unfold ROne_l0_t
 repeat' first|exact n0|refine n1 fun _=>?_|refine n2 ?_ ?_|refine n3 (fun _=>?_) fun _=>?_|rfl
theorem ROne_l0_r(c_RLetter c_RDigit c_RSym)(x)(y)(lo:LoopT):loopK E5 (ftb 91 A_RLetter R_RLetter c_RLetter (ftb 92 A_RDigit R_RDigit c_RDigit (ftb 93 A_RSym R_RSym c_RSym ca0))) lo 0 83 (bodyOf E5 59 0) (ROne_l0_S x y) (KCM [(0,83)] 48)=ROne_l0_t (vf A_RLetter c_RLetter) (vf A_RDigit c_RDigit) (vf A_RSym c_RSym) x y (fun y=>lo 0 83 (bodyOf E5 59 0) (ROne_l0_S x y) (KCM [(0,83)] 48)) (fun z=>some (.l (ROne_l0_T x z).1 (ROne_l0_T x z).2)):=by kernel_rfl
noncomputable def ROne_l0(c_RLetter:a_RLetter→Option g_RLetter)(c_RDigit:a_RDigit→Option g_RDigit)(c_RSym:a_RSym→Option g_RSym)(q:Nat)(x:a_ROne):ROne_l0_a→Option ROne_l0_g:=lpG (fun y=>ROne_l0_t c_RLetter c_RDigit c_RSym x y (fun y=>some (.inl y)) (fun z=>some (.inr z))) q
theorem ROne_l0_s(c_RLetter)(h_RLetter:Lw E5 91 A_RLetter R_RLetter c_RLetter)(c_RDigit)(h_RDigit:Lw E5 92 A_RDigit R_RDigit c_RDigit)(c_RSym)(h_RSym:Lw E5 93 A_RSym R_RSym c_RSym)(q:Nat)(x:a_ROne):Ll E5 (bodyOf E5 59 0) (ROne_l0_S x) (ROne_l0_T x) (ROne_l0 c_RLetter c_RDigit c_RSym q x):=
 slp (fk h_RLetter (fk h_RDigit (fk h_RSym ca0_sound))) hX5 (fun lo y=>(ROne_l0_r c_RLetter c_RDigit c_RSym x y lo).trans (by rw[v_RLetter,v_RDigit,v_RSym];exact ROne_l0_n _ _ _ _ _ _ _)) (fun _=>by kernel_rfl) q
abbrev ROne_l2_a:Type:=Int×Int
abbrev ROne_l2_g:Type:=Int×Int
def ROne_l2_S(x:a_ROne)(y:ROne_l2_a):St:={fr:=[st x.1,i64 x.2,V.junk,V.junk,V.ptr 0 0,V.junk,i64 y.1,i64 y.2]++jk 90,H:=hp [some (Chunk.blk [i64 0,i64 0,st ⟨#[]⟩,i64 0])],nx:=1,rt:=0,me:=59}
def ROne_l2_d(s:St):ROne_l2_a:=((vI (s.fr.getD 6 .junk)),vI (s.fr.getD 7 .junk))
theorem ROne_l2_u(x:a_ROne):VL (ROne_l2_S x):=vl ROne_l2_d fun _=>rfl
def ROne_l2_T(x:a_ROne):ROne_l2_g→Ex×St:=(fun z=>(Ex.exit 2,{fr:=[st x.1,i64 x.2,V.junk,V.junk,V.ptr 0 0,V.junk,i64 z.1,i64 z.2]++jk 90,H:=hp [some (Chunk.blk [i64 0,i64 0,st ⟨#[]⟩,i64 0])],nx:=1,rt:=0,me:=59}))
def ROne_l2_t{β:Type}(c_RLetter:a_RLetter→Option g_RLetter)(c_RDigit:a_RDigit→Option g_RDigit)(c_RSym:a_RSym→Option g_RSym)(x:a_ROne)(y:ROne_l2_a)(nx:ROne_l2_a→Option β)(dn:ROne_l2_g→Option β):Option β:=
 if decide (y.1< (x.1.size:Int))=true then if 0≤y.1∧y.1< (x.1.size:Int)then(c_RDigit (((UInt8.toNat (List.getD (Array.toList x.1.data) (Int.toNat y.1) 0):Nat):Int))).bind fun z51=>if z51=true then if 0≤y.1∧y.1< (x.1.size:Int)then nx ((w (y.1+1),if 2147483648<w (w (10*y.2)+w (IntKind.wrap IntKind.u8 (((UInt8.toNat (List.getD (Array.toList x.1.data) (Int.toNat y.1) 0):Nat):Int)-48)))then 2147483648 else w (w (10*y.2)+w (IntKind.wrap IntKind.u8 (((UInt8.toNat (List.getD (Array.toList x.1.data) (Int.toNat y.1) 0):Nat):Int)-48)))))else none else dn y else none else dn y
theorem ROne_l2_n{β:Type}(c_RLetter c_RDigit c_RSym)(x)(y)(nx:ROne_l2_a→Option β)(dn):ROne_l2_t c_RLetter c_RDigit c_RSym x y nx dn=(ROne_l2_t c_RLetter c_RDigit c_RSym x y (fun y=>some (.inl y)) (fun z=>some (.inr z))).bind fun r=>Sum.elim nx dn r:=by
 unfold ROne_l2_t
 repeat' first|exact n0|refine n1 fun _=>?_|refine n2 ?_ ?_|refine n3 (fun _=>?_) fun _=>?_|rfl
theorem ROne_l2_r(c_RLetter c_RDigit c_RSym)(x)(y)(lo:LoopT):loopK E5 (ftb 91 A_RLetter R_RLetter c_RLetter (ftb 92 A_RDigit R_RDigit c_RDigit (ftb 93 A_RSym R_RSym c_RSym ca0))) lo 2 211 (bodyOf E5 59 2) (ROne_l2_S x y) (KCM [(2,211)] 48)=ROne_l2_t (vf A_RLetter c_RLetter) (vf A_RDigit c_RDigit) (vf A_RSym c_RSym) x y (fun y=>lo 2 211 (bodyOf E5 59 2) (ROne_l2_S x y) (KCM [(2,211)] 48)) (fun z=>some (.l (ROne_l2_T x z).1 (ROne_l2_T x z).2)):=by kernel_rfl
noncomputable def ROne_l2(c_RLetter:a_RLetter→Option g_RLetter)(c_RDigit:a_RDigit→Option g_RDigit)(c_RSym:a_RSym→Option g_RSym)(q:Nat)(x:a_ROne):ROne_l2_a→Option ROne_l2_g:=lpG (fun y=>ROne_l2_t c_RLetter c_RDigit c_RSym x y (fun y=>some (.inl y)) (fun z=>some (.inr z))) q
theorem ROne_l2_s(c_RLetter)(h_RLetter:Lw E5 91 A_RLetter R_RLetter c_RLetter)(c_RDigit)(h_RDigit:Lw E5 92 A_RDigit R_RDigit c_RDigit)(c_RSym)(h_RSym:Lw E5 93 A_RSym R_RSym c_RSym)(q:Nat)(x:a_ROne):Ll E5 (bodyOf E5 59 2) (ROne_l2_S x) (ROne_l2_T x) (ROne_l2 c_RLetter c_RDigit c_RSym q x):=
 slp (fk h_RLetter (fk h_RDigit (fk h_RSym ca0_sound))) hX5 (fun lo y=>(ROne_l2_r c_RLetter c_RDigit c_RSym x y lo).trans (by rw[v_RLetter,v_RDigit,v_RSym];exact ROne_l2_n _ _ _ _ _ _ _)) (fun _=>by kernel_rfl) q
def t_ROne{β:Type}(c_RLetter:a_RLetter→Option g_RLetter)(c_RDigit:a_RDigit→Option g_RDigit)(c_RSym:a_RSym→Option g_RSym)(l_ROne_l0:ROne_l0_a→Option ROne_l0_g)(l_ROne_l2:ROne_l2_a→Option ROne_l2_g)(x:a_ROne)(dn:g_ROne→Option β):Option β:=
 if 0≤x.2∧x.2< (x.1.size:Int)then(c_RLetter (((UInt8.toNat (List.getD (Array.toList x.1.data) (Int.toNat x.2) 0):Nat):Int))).bind fun z1=>if z1=true then(l_ROne_l0 x.2).bind fun z16=>if decide (w (z16-x.2)>12)=true then dn (0,0,⟨#[]⟩,0,2)else if 0≤x.2∧x.2≤z16∧z16≤(x.1.size:Int)then dn (1,x.2,ByteArray.extract x.1 (Int.toNat x.2) (Int.toNat z16),0,0)else none else if 0≤x.2∧x.2< (x.1.size:Int)then(c_RDigit (((UInt8.toNat (List.getD (Array.toList x.1.data) (Int.toNat x.2) 0):Nat):Int))).bind fun z18=>if z18=true then(l_ROne_l2 (x.2,0)).bind fun z33=>if decide (w (z33.1-x.2)>1)=true then if 0≤x.2∧x.2< (x.1.size:Int)then if(((UInt8.toNat (List.getD (Array.toList x.1.data) (Int.toNat x.2) 0):Nat):Int)==48)=true then dn (0,0,⟨#[]⟩,0,11)else if decide (z33.2>2147483647)=true then dn (0,0,⟨#[]⟩,0,5)else if 0≤x.2∧x.2≤z33.1∧z33.1≤(x.1.size:Int)then dn (2,x.2,ByteArray.extract x.1 (Int.toNat x.2) (Int.toNat z33.1),z33.2,0)else none else none else if decide (z33.2>2147483647)=true then dn (0,0,⟨#[]⟩,0,5)else if 0≤x.2∧x.2≤z33.1∧z33.1≤(x.1.size:Int)then dn (2,x.2,ByteArray.extract x.1 (Int.toNat x.2) (Int.toNat z33.1),z33.2,0)else none else(c_RSym x).bind fun z36=>if(z36.toList==ByteArray.toList ⟨#[]⟩)=true then dn (0,0,⟨#[]⟩,0,11)else dn (3,x.2,z36,0,0)else none else none
theorem n_ROne{β:Type}(c_RLetter c_RDigit c_RSym)(l_ROne_l0)(l_ROne_l2)(x)(dn:g_ROne→Option β):t_ROne c_RLetter c_RDigit c_RSym l_ROne_l0 l_ROne_l2 x dn=(t_ROne c_RLetter c_RDigit c_RSym l_ROne_l0 l_ROne_l2 x some).bind dn:=by
 unfold t_ROne
 repeat' first|exact n0|refine n1 fun _=>?_|refine n2 ?_ ?_|refine n3 (fun _=>?_) fun _=>?_|rfl
theorem r_ROne(c_RLetter c_RDigit c_RSym)(l_ROne_l0)(l_ROne_l2)(x):callK E5 (ftb 91 A_RLetter R_RLetter c_RLetter (ftb 92 A_RDigit R_RDigit c_RDigit (ftb 93 A_RSym R_RSym c_RSym ca0))) (lt1 0 (fun _=>true) (bodyOf E5 59 0) (ROne_l0_S x) (ROne_l0_T x) l_ROne_l0 (lt1 2 (fun _=>true) (bodyOf E5 59 2) (ROne_l2_S x) (ROne_l2_T x) l_ROne_l2 lo0)) 59 (A_ROne x).1 (A_ROne x).2 K=t_ROne (vf A_RLetter c_RLetter) (vf A_RDigit c_RDigit) (vf A_RSym c_RSym) (lf (bodyOf E5 59 0) (ROne_l0_S x) l_ROne_l0) (lf (bodyOf E5 59 2) (ROne_l2_S x) l_ROne_l2) x (fun z=>some (.c (R_ROne z))):=by kernel_rfl
noncomputable def ROne(q:Nat)(x:a_ROne):Option g_ROne:=t_ROne (RLetter q) (RDigit q) (RSym q) (ROne_l0 (RLetter q) (RDigit q) (RSym q) q x) (ROne_l2 (RLetter q) (RDigit q) (RSym q) q x) x some
theorem sc_ROne(q:Nat):Lw E5 59 A_ROne R_ROne (ROne q):=sof hW5 hX5 (fk (sc_RLetter q) (fk (sc_RDigit q) (fk (sc_RSym q) ca0_sound))) (fun x=>(lk1 (ROne_l0_s (RLetter q) (sc_RLetter q) (RDigit q) (sc_RDigit q) (RSym q) (sc_RSym q) q x) (lk1 (ROne_l2_s (RLetter q) (sc_RLetter q) (RDigit q) (sc_RDigit q) (RSym q) (sc_RSym q) q x) lo0_sound))) fun x=>(r_ROne (RLetter q) (RDigit q) (RSym q) (ROne_l0 (RLetter q) (RDigit q) (RSym q) q x) (ROne_l2 (RLetter q) (RDigit q) (RSym q) q x) x).trans (by rw[v_RLetter,v_RDigit,v_RSym,ROne_l0_u,ROne_l2_u,n_ROne]<;>rfl)
abbrev a_RTokens:Type:=ByteArray
abbrev g_RTokens:Type:=(Int×Int)⊕(Int×Int×Nat×FI×FI×FS×FI)
def A_RTokens:AR a_RTokens:=fun x=>([st x],[])
def R_RTokens:g_RTokens→CRes:=Sum.elim (fun z:Int×Int=>.ret (.tup [nilS,i64 z.1,i64 z.2]) []) (fun z:Int×Int×Nat×FI×FI×FS×FI=>.ret (.tup [.sl 0 4 0 z.2.2.1,i64 z.1,i64 z.2.1]) [some (.row 52 4 z.2.2.1 (fun j=>[i64 (z.2.2.2.1 j),i64 (z.2.2.2.2.1 j),st (z.2.2.2.2.2.1 j),i64 (z.2.2.2.2.2.2 j)]))])
abbrev RTokens_l0_a:Type:=(Int)⊕(Int×FI×FI×FS×FI×Nat)
abbrev RTokens_l0_g:Type:=(Int×Int)⊕(Unit)⊕(Nat×FI×FI×FS×FI)
def RTokens_l0_S0(x:a_RTokens)(y:Int):St:={fr:=[st x]++jk 4++[nilS,i64 y]++jk 38,H:=hp [],nx:=0,rt:=0,me:=24}
def RTokens_l0_d0(s:St):Int:=(vI (s.fr.getD 6 .junk))
def RTokens_l0_S1(x:a_RTokens)(y:Int×FI×FI×FS×FI×Nat):St:={fr:=[st x]++jk 4++[V.sl 0 4 0 y.2.2.2.2.2,i64 y.1]++jk 38,H:=hp [some (Chunk.row 52 4 y.2.2.2.2.2 fun j=>[i64 (y.2.1 j),i64 (y.2.2.1 j),st (y.2.2.2.1 j),i64 (y.2.2.2.2.1 j)])],nx:=1,rt:=0,me:=24}
def RTokens_l0_d1(s:St):Int×FI×FI×FS×FI×Nat:=((vI (s.fr.getD 6 .junk)),dRI (s.H 0) 0,dRI (s.H 0) 1,dRS (s.H 0) 2,dRI (s.H 0) 3,vSlN (s.fr.getD 5 .junk))
def RTokens_l0_S(x:a_RTokens):RTokens_l0_a→St:=(Sum.elim (RTokens_l0_S0 x) (RTokens_l0_S1 x))
def RTokens_l0_d(s:St):RTokens_l0_a:=(match s.nx==0 with|true=>(.inl (RTokens_l0_d0 s)) |false=>(.inr (RTokens_l0_d1 s)))
theorem RTokens_l0_u(x:a_RTokens):VL (RTokens_l0_S x):=vl RTokens_l0_d (fun y=>by rcases y with y|y<;>rfl)
def RTokens_l0_T(x:a_RTokens):RTokens_l0_g→Ex×St:=(Sum.elim (fun z=>(Ex.ret,{fr:=[V.junk,V.junk,nilS,i64 z.1,i64 z.2]++jk 40,H:=hp [],nx:=0,rt:=0,me:=24})) (Sum.elim (fun z=>(Ex.exit 0,{fr:=[st x]++jk 4++[nilS]++jk 39,H:=hp [],nx:=0,rt:=0,me:=24})) (fun z=>(Ex.exit 0,{fr:=[st x]++jk 4++[V.sl 0 4 0 z.1]++jk 39,H:=hp [some (Chunk.row 52 4 z.1 fun j=>[i64 (z.2.1 j),i64 (z.2.2.1 j),st (z.2.2.2.1 j),i64 (z.2.2.2.2 j)])],nx:=1,rt:=0,me:=24}))))
def RTokens_l0_t0{β:Type}(c_RSkip:a_RSkip→Option g_RSkip)(c_ROne:a_ROne→Option g_ROne)(x:a_RTokens)(y:Int)(nx:RTokens_l0_a→Option β)(dn:RTokens_l0_g→Option β):Option β:=
 if decide (y< (x.size:Int))=true then(c_ROne (x,y)).bind fun z123=>if(z123.2.2.2.2 !=0)=true then dn (.inl (y,z123.2.2.2.2))else(c_RSkip (x,w (y+(z123.2.2.1.size:Int)))).bind fun z126=>nx (.inr (z126,fun j=>z123.1,fun j=>z123.2.1,fun j=>z123.2.2.1,fun j=>z123.2.2.2.1,1))else dn (.inr (.inl ()))
theorem RTokens_l0_n0{β:Type}(c_RSkip c_ROne)(x)(y)(nx:RTokens_l0_a→Option β)(dn):RTokens_l0_t0 c_RSkip c_ROne x y nx dn=(RTokens_l0_t0 c_RSkip c_ROne x y (fun y=>some (.inl y)) (fun z=>some (.inr z))).bind fun r=>Sum.elim nx dn r:=by
 unfold RTokens_l0_t0
 repeat' first|exact n0|refine n1 fun _=>?_|refine n2 ?_ ?_|refine n3 (fun _=>?_) fun _=>?_|rfl
theorem RTokens_l0_r0(c_RSkip c_ROne)(x)(y)(lo:LoopT):loopK E5 (ftb 58 A_RSkip R_RSkip c_RSkip (ftb 59 A_ROne R_ROne c_ROne ca0)) lo 0 97 (bodyOf E5 24 0) (RTokens_l0_S x (.inl y)) (KCM [(0,33)] 28)=RTokens_l0_t0 (vf A_RSkip c_RSkip) (vf A_ROne c_ROne) x y (fun y=>lo 0 97 (bodyOf E5 24 0) (RTokens_l0_S x y) (KCM [(0,33)] 28)) (fun z=>some (.l (RTokens_l0_T x z).1 (RTokens_l0_T x z).2)):=by kernel_rfl
def RTokens_l0_t1{β:Type}(c_RSkip:a_RSkip→Option g_RSkip)(c_ROne:a_ROne→Option g_ROne)(x:a_RTokens)(y:Int×FI×FI×FS×FI×Nat)(nx:RTokens_l0_a→Option β)(dn:RTokens_l0_g→Option β):Option β:=
 if decide (y.1< (x.size:Int))=true then(c_ROne (x,y.1)).bind fun z130=>if(z130.2.2.2.2 !=0)=true then dn (.inl (y.1,z130.2.2.2.2))else if(y.2.2.2.2.2+1)*40≤roomBound∧y.2.2.2.2.2+1≤maxLen∧y.2.2.2.2.2≤y.2.2.2.2.2 then(c_RSkip (x,w (y.1+(z130.2.2.1.size:Int)))).bind fun z133=>nx (.inr (z133,fun j=>if j<y.2.2.2.2.2 then y.2.1 j else z130.1,fun j=>if j<y.2.2.2.2.2 then y.2.2.1 j else z130.2.1,fun j=>if j<y.2.2.2.2.2 then y.2.2.2.1 j else z130.2.2.1,fun j=>if j<y.2.2.2.2.2 then y.2.2.2.2.1 j else z130.2.2.2.1,y.2.2.2.2.2+1))else none else dn (.inr (.inr (y.2.2.2.2.2,y.2.1,y.2.2.1,y.2.2.2.1,y.2.2.2.2.1)))
theorem RTokens_l0_n1{β:Type}(c_RSkip c_ROne)(x)(y)(nx:RTokens_l0_a→Option β)(dn):RTokens_l0_t1 c_RSkip c_ROne x y nx dn=(RTokens_l0_t1 c_RSkip c_ROne x y (fun y=>some (.inl y)) (fun z=>some (.inr z))).bind fun r=>Sum.elim nx dn r:=by
 unfold RTokens_l0_t1
 repeat' first|exact n0|refine n1 fun _=>?_|refine n2 ?_ ?_|refine n3 (fun _=>?_) fun _=>?_|rfl
theorem RTokens_l0_r1(c_RSkip c_ROne)(x)(y)(lo:LoopT):loopK E5 (ftb 58 A_RSkip R_RSkip c_RSkip (ftb 59 A_ROne R_ROne c_ROne ca0)) lo 0 97 (bodyOf E5 24 0) (RTokens_l0_S x (.inr y)) (KCM [(0,33)] 28)=RTokens_l0_t1 (vf A_RSkip c_RSkip) (vf A_ROne c_ROne) x y (fun y=>lo 0 97 (bodyOf E5 24 0) (RTokens_l0_S x y) (KCM [(0,33)] 28)) (fun z=>some (.l (RTokens_l0_T x z).1 (RTokens_l0_T x z).2)):=by kernel_rfl
noncomputable def RTokens_l0(c_RSkip:a_RSkip→Option g_RSkip)(c_ROne:a_ROne→Option g_ROne)(q:Nat)(x:a_RTokens):RTokens_l0_a→Option RTokens_l0_g:=lpG (Sum.elim (fun y=>RTokens_l0_t0 c_RSkip c_ROne x y (fun y=>some (.inl y)) (fun z=>some (.inr z))) (fun y=>RTokens_l0_t1 c_RSkip c_ROne x y (fun y=>some (.inl y)) (fun z=>some (.inr z)))) q
theorem RTokens_l0_s(c_RSkip)(h_RSkip:Lw E5 58 A_RSkip R_RSkip c_RSkip)(c_ROne)(h_ROne:Lw E5 59 A_ROne R_ROne c_ROne)(q:Nat)(x:a_RTokens):Ll E5 (bodyOf E5 24 0) (RTokens_l0_S x) (RTokens_l0_T x) (RTokens_l0 c_RSkip c_ROne q x):=
 slp (fk h_RSkip (fk h_ROne ca0_sound)) hX5 (fun lo y=>by
  rcases y with y|y
  ·exact(RTokens_l0_r0 c_RSkip c_ROne x y lo).trans (by rw[v_RSkip,v_ROne];exact RTokens_l0_n0 _ _ _ _ _ _)
  ·exact(RTokens_l0_r1 c_RSkip c_ROne x y lo).trans (by rw[v_RSkip,v_ROne];exact RTokens_l0_n1 _ _ _ _ _ _)) (fun z=>by rcases z with z|z|z<;>kernel_rfl) q
def t_RTokens{β:Type}(c_RSkip:a_RSkip→Option g_RSkip)(c_ROne:a_ROne→Option g_ROne)(l_RTokens_l0:RTokens_l0_a→Option RTokens_l0_g)(x:a_RTokens)(dn:g_RTokens→Option β):Option β:=
 if decide ((x.size:Int)>4000)=true then dn (.inl (4000,2))else(c_RSkip (x,0)).bind fun z2=>(l_RTokens_l0 (.inl z2)).bind fun z107=>Sum.elim (fun z107a=>dn (.inl z107a)) (fun z107b=>Sum.elim (fun z107ba=>dn (.inr (0,0,1,fun j=>0,fun j=>(x.size:Int),fun j=>⟨#[]⟩,fun j=>0))) (fun z107bb=>if(z107bb.1+1)*40≤roomBound∧z107bb.1+1≤maxLen∧z107bb.1≤z107bb.1 then dn (.inr (0,0,z107bb.1+1,fun j=>if j<z107bb.1 then z107bb.2.1 j else 0,fun j=>if j<z107bb.1 then z107bb.2.2.1 j else(x.size:Int),fun j=>if j<z107bb.1 then z107bb.2.2.2.1 j else⟨#[]⟩,fun j=>if j<z107bb.1 then z107bb.2.2.2.2 j else 0))else none) z107b) z107
theorem n_RTokens{β:Type}(c_RSkip c_ROne)(l_RTokens_l0)(x)(dn:g_RTokens→Option β):t_RTokens c_RSkip c_ROne l_RTokens_l0 x dn=(t_RTokens c_RSkip c_ROne l_RTokens_l0 x some).bind dn:=by
 unfold t_RTokens
 repeat' first|exact n0|refine n1 fun _=>?_|refine n2 ?_ ?_|refine n3 (fun _=>?_) fun _=>?_|rfl
theorem r_RTokens(c_RSkip c_ROne)(l_RTokens_l0)(x):callK E5 (ftb 58 A_RSkip R_RSkip c_RSkip (ftb 59 A_ROne R_ROne c_ROne ca0)) (lt3 0 (fun _=>true) (bodyOf E5 24 0) (RTokens_l0_S x) (RTokens_l0_T x) l_RTokens_l0 lo0) 24 (A_RTokens x).1 (A_RTokens x).2 K=t_RTokens (vf A_RSkip c_RSkip) (vf A_ROne c_ROne) (lf (bodyOf E5 24 0) (RTokens_l0_S x) l_RTokens_l0) x (fun z=>some (.c (R_RTokens z))):=by kernel_rfl
noncomputable def RTokens(q:Nat)(x:a_RTokens):Option g_RTokens:=t_RTokens (RSkip q) (ROne q) (RTokens_l0 (RSkip q) (ROne q) q x) x some
theorem sc_RTokens(q:Nat):Lw E5 24 A_RTokens R_RTokens (RTokens q):=sof hW5 hX5 (fk (sc_RSkip q) (fk (sc_ROne q) ca0_sound)) (fun x=>(lk3 (RTokens_l0_s (RSkip q) (sc_RSkip q) (ROne q) (sc_ROne q) q x) lo0_sound)) fun x=>(r_RTokens (RSkip q) (ROne q) (RTokens_l0 (RSkip q) (ROne q) q x) x).trans (by rw[v_RSkip,v_ROne,RTokens_l0_u,n_RTokens]<;>rfl)
end Go.Proofs.YtjfkkokeegpeiaaGreatDoor
/- The reference's parser, lifted. -/
namespace Go.Proofs.YtjfkkokeegpeiaaGreatDoor
open Go Go.Am Go.Proofs
set_option maxRecDepth 100000
noncomputable def E7:Env:={E5 with allR:=true}
theorem hW7:WF E7:=WF.of E7 (fun _=>rfl) (by kernel_rfl) hW.1.1
theorem hX7:SoundX E7:=SoundX.none fun _ _=>rfl
abbrev a_RReserved:Type:=ByteArray
abbrev g_RReserved:Type:=Bool
def A_RReserved:AR a_RReserved:=fun x=>([st x],[])
def d_RReserved(t:TT):a_RReserved:=(vS (ag t 0))
theorem v_RReserved:VI A_RReserved:=vd d_RReserved fun _=>rfl
def R_RReserved:g_RReserved→CRes:=fun z=>.ret (bo z) []
def t_RReserved{β:Type}(x:a_RReserved)(dn:g_RReserved→Option β):Option β:=
 if(x.toList==ByteArray.toList ⟨#[112,114,111,99,101,100,117,114,101]⟩)=true then dn true else if(x.toList==ByteArray.toList ⟨#[108,101,116]⟩)=true then dn true else if(x.toList==ByteArray.toList ⟨#[105,102]⟩)=true then dn true else if(x.toList==ByteArray.toList ⟨#[101,108,115,101]⟩)=true then dn true else if(x.toList==ByteArray.toList ⟨#[114,101,112,101,97,116]⟩)=true then dn true else if(x.toList==ByteArray.toList ⟨#[119,97,105,116]⟩)=true then dn true else if(x.toList==ByteArray.toList ⟨#[97,119,97,105,116]⟩)=true then dn true else if(x.toList==ByteArray.toList ⟨#[119,105,116,104,105,110]⟩)=true then dn true else if(x.toList==ByteArray.toList ⟨#[114,101,113,117,105,114,101]⟩)=true then dn true else if(x.toList==ByteArray.toList ⟨#[112,111,105,110,116]⟩)=true then dn true else if(x.toList==ByteArray.toList ⟨#[117,115,101]⟩)=true then dn true else if(x.toList==ByteArray.toList ⟨#[102,111,114]⟩)=true then dn true else if(x.toList==ByteArray.toList ⟨#[115,101,110,100]⟩)=true then dn true else if(x.toList==ByteArray.toList ⟨#[107,101,101,112]⟩)=true then dn true else if(x.toList==ByteArray.toList ⟨#[101,109,105,116]⟩)=true then dn true else if(x.toList==ByteArray.toList ⟨#[97,98,111,114,116]⟩)=true then dn true else if(x.toList==ByteArray.toList ⟨#[116,114,117,101]⟩)=true then dn true else if(x.toList==ByteArray.toList ⟨#[102,97,108,115,101]⟩)=true then dn true else if(x.toList==ByteArray.toList ⟨#[116,108,109]⟩)=true then dn true else dn false
theorem n_RReserved{β:Type}(x)(dn:g_RReserved→Option β):t_RReserved x dn=(t_RReserved x some).bind dn:=by
 unfold t_RReserved
 repeat' first|exact n0|refine n1 fun _=>?_|refine n2 ?_ ?_|refine n3 (fun _=>?_) fun _=>?_|rfl
theorem r_RReserved(x):callK E7 ca0 lo0 62 (A_RReserved x).1 (A_RReserved x).2 K=t_RReserved x (fun z=>some (.c (R_RReserved z))):=by kernel_rfl
noncomputable def RReserved(q:Nat)(x:a_RReserved):Option g_RReserved:=t_RReserved x some
theorem sc_RReserved(q:Nat):Lw E7 62 A_RReserved R_RReserved (RReserved q):=sof hW7 hX7 ca0_sound (fun _=>lo0_sound) fun x=>(r_RReserved x).trans (by rw[n_RReserved]<;>rfl)
abbrev a_RLook:Type:=ByteArray
abbrev g_RLook:Type:=Int×Int×Int×Int×Int×Int×Bool
def A_RLook:AR a_RLook:=fun x=>([st x],[])
def d_RLook(t:TT):a_RLook:=(vS (ag t 0))
theorem v_RLook:VI A_RLook:=vd d_RLook fun _=>rfl
def R_RLook:g_RLook→CRes:=fun z=>.ret (.tup [.agg [i64 z.1,i64 z.2.1,i64 z.2.2.1,i64 z.2.2.2.1,i64 z.2.2.2.2.1],i64 z.2.2.2.2.2.1,bo z.2.2.2.2.2.2]) []
def t_RLook{β:Type}(x:a_RLook)(dn:g_RLook→Option β):Option β:=
 if(x.toList==ByteArray.toList ⟨#[74]⟩)=true then dn (1,0,0,0,0,1,true)else if(x.toList==ByteArray.toList ⟨#[107,74]⟩)=true then dn (1,0,0,0,0,1000,true)else if(x.toList==ByteArray.toList ⟨#[87,104]⟩)=true then dn (1,0,0,0,0,3600,true)else if(x.toList==ByteArray.toList ⟨#[66]⟩)=true then dn (0,1,0,0,0,1,true)else if(x.toList==ByteArray.toList ⟨#[107,66]⟩)=true then dn (0,1,0,0,0,1000,true)else if(x.toList==ByteArray.toList ⟨#[115]⟩)=true then dn (0,0,1,0,0,1,true)else if(x.toList==ByteArray.toList ⟨#[109,105,110]⟩)=true then dn (0,0,1,0,0,60,true)else if(x.toList==ByteArray.toList ⟨#[104]⟩)=true then dn (0,0,1,0,0,3600,true)else if(x.toList==ByteArray.toList ⟨#[100,101,103]⟩)=true then dn (0,0,0,1,0,1,true)else if(x.toList==ByteArray.toList ⟨#[75]⟩)=true then dn (0,0,0,0,1,1,true)else if(x.toList==ByteArray.toList ⟨#[87]⟩)=true then dn (1,0,(-1),0,0,1,true)else if(x.toList==ByteArray.toList ⟨#[107,87]⟩)=true then dn (1,0,(-1),0,0,1000,true)else if(x.toList==ByteArray.toList ⟨#[66,112,115]⟩)=true then dn (0,1,(-1),0,0,1,true)else dn (0,0,0,0,0,0,false)
theorem n_RLook{β:Type}(x)(dn:g_RLook→Option β):t_RLook x dn=(t_RLook x some).bind dn:=by
 unfold t_RLook
 repeat' first|exact n0|refine n1 fun _=>?_|refine n2 ?_ ?_|refine n3 (fun _=>?_) fun _=>?_|rfl
theorem r_RLook(x):callK E7 ca0 lo0 94 (A_RLook x).1 (A_RLook x).2 K=t_RLook x (fun z=>some (.c (R_RLook z))):=by kernel_rfl
noncomputable def RLook(q:Nat)(x:a_RLook):Option g_RLook:=t_RLook x some
theorem sc_RLook(q:Nat):Lw E7 94 A_RLook R_RLook (RLook q):=sof hW7 hX7 ca0_sound (fun _=>lo0_sound) fun x=>(r_RLook x).trans (by rw[n_RLook]<;>rfl)
abbrev a_known:Type:=Int×Int×ByteArray×Int
abbrev g_known:Type:=Bool
def A_known:AR a_known:=fun x=>([.agg [i64 x.1,i64 x.2.1,st x.2.2.1,i64 x.2.2.2]],[])
def d_known(t:TT):a_known:=((vI (ca t 0 0)),vI (ca t 0 1),vS (ca t 0 2),vI (ca t 0 3))
theorem v_known:VI A_known:=vd d_known fun _=>rfl
def R_known:g_known→CRes:=fun z=>.ret (bo z) []
def t_known{β:Type}(c_RLook:a_RLook→Option g_RLook)(x:a_known)(dn:g_known→Option β):Option β:=
 (c_RLook x.2.2.1).bind fun z1=>if(x.1==1)=true then dn z1.2.2.2.2.2.2 else dn false
theorem n_known{β:Type}(c_RLook)(x)(dn:g_known→Option β):t_known c_RLook x dn=(t_known c_RLook x some).bind dn:=by
 unfold t_known
 repeat' first|exact n0|refine n1 fun _=>?_|refine n2 ?_ ?_|refine n3 (fun _=>?_) fun _=>?_|rfl
theorem r_known(c_RLook)(x):callK E7 (ftb 94 A_RLook R_RLook c_RLook ca0) lo0 65 (A_known x).1 (A_known x).2 K=t_known (vf A_RLook c_RLook) x (fun z=>some (.c (R_known z))):=by kernel_rfl
noncomputable def known(q:Nat)(x:a_known):Option g_known:=t_known (RLook q) x some
theorem sc_known(q:Nat):Lw E7 65 A_known R_known (known q):=sof hW7 hX7 (fk (sc_RLook q) ca0_sound) (fun _=>lo0_sound) fun x=>(r_known (RLook q) x).trans (by rw[v_RLook,n_known]<;>rfl)
abbrev a_rfail:Type:=Int×SR
abbrev g_rfail:Type:=SR
def A_rfail:AR a_rfail:=fun x=>([.ptr 0 0,i64 x.1],(hHR x.2))
def d_rfail(t:TT):a_rfail:=((vI (ag t 1)),dHR t.2)
theorem v_rfail:VI A_rfail:=vd d_rfail fun _=>rfl
def R_rfail:g_rfail→CRes:=fun z=>.ret (.tup []) (hHR z)
def t_rfail{β:Type}(x:a_rfail)(dn:g_rfail→Option β):Option β:=
 if(x.2.2.2.1==0)=true then if 0≤x.2.1∧x.2.1< ((x.2.2.2.2.2.1:Nat):Int)then dn (x.2.1,x.2.2.1,x.1,x.2.2.2.2.2.2.2.1 (Int.toNat x.2.1),x.2.2.2.2.2)else none else dn x.2
theorem n_rfail{β:Type}(x)(dn:g_rfail→Option β):t_rfail x dn=(t_rfail x some).bind dn:=by
 unfold t_rfail
 repeat' first|exact n0|refine n1 fun _=>?_|refine n2 ?_ ?_|refine n3 (fun _=>?_) fun _=>?_|rfl
theorem r_rfail(x):callK E7 ca0 lo0 61 (A_rfail x).1 (A_rfail x).2 K=t_rfail x (fun z=>some (.c (R_rfail z))):=by kernel_rfl
noncomputable def rfail(q:Nat)(x:a_rfail):Option g_rfail:=t_rfail x some
theorem sc_rfail(q:Nat):Lw E7 61 A_rfail R_rfail (rfail q):=sof hW7 hX7 ca0_sound (fun _=>lo0_sound) fun x=>(r_rfail x).trans (by rw[n_rfail]<;>rfl)
abbrev a_ris:Type:=ByteArray×SR
abbrev g_ris:Type:=Bool×SR
def A_ris:AR a_ris:=fun x=>([.ptr 0 0,st x.1],(hHR x.2))
def d_ris(t:TT):a_ris:=((vS (ag t 1)),dHR t.2)
theorem v_ris:VI A_ris:=vd d_ris fun _=>rfl
def R_ris:g_ris→CRes:=fun z=>.ret (bo z.1) (hHR z.2)
def t_ris{β:Type}(x:a_ris)(dn:g_ris→Option β):Option β:=
 if(x.2.2.2.1==0)=true then if 0≤x.2.1∧x.2.1< ((x.2.2.2.2.2.1:Nat):Int)then dn (ByteArray.toList (x.2.2.2.2.2.2.2.2.1 (Int.toNat x.2.1))==x.1.toList,x.2)else none else dn (false,x.2)
theorem n_ris{β:Type}(x)(dn:g_ris→Option β):t_ris x dn=(t_ris x some).bind dn:=by
 unfold t_ris
 repeat' first|exact n0|refine n1 fun _=>?_|refine n2 ?_ ?_|refine n3 (fun _=>?_) fun _=>?_|rfl
theorem r_ris(x):callK E7 ca0 lo0 64 (A_ris x).1 (A_ris x).2 K=t_ris x (fun z=>some (.c (R_ris z))):=by kernel_rfl
noncomputable def ris(q:Nat)(x:a_ris):Option g_ris:=t_ris x some
theorem sc_ris(q:Nat):Lw E7 64 A_ris R_ris (ris q):=sof hW7 hX7 ca0_sound (fun _=>lo0_sound) fun x=>(r_ris x).trans (by rw[n_ris]<;>rfl)
abbrev a_rtake:Type:=ByteArray×SR
abbrev g_rtake:Type:=Bool×SR
def A_rtake:AR a_rtake:=fun x=>([.ptr 0 0,st x.1],(hHR x.2))
def d_rtake(t:TT):a_rtake:=((vS (ag t 1)),dHR t.2)
theorem v_rtake:VI A_rtake:=vd d_rtake fun _=>rfl
def R_rtake:g_rtake→CRes:=fun z=>.ret (bo z.1) (hHR z.2)
def t_rtake{β:Type}(c_ris:a_ris→Option g_ris)(x:a_rtake)(dn:g_rtake→Option β):Option β:=
 (c_ris x).bind fun z12=>if(!z12.1)=true then dn (false,z12.2)else dn (true,w (z12.2.1+1),z12.2.2)
theorem n_rtake{β:Type}(c_ris)(x)(dn:g_rtake→Option β):t_rtake c_ris x dn=(t_rtake c_ris x some).bind dn:=by
 unfold t_rtake
 repeat' first|exact n0|refine n1 fun _=>?_|refine n2 ?_ ?_|refine n3 (fun _=>?_) fun _=>?_|rfl
theorem r_rtake(c_ris)(x):callK E7 (ftb 64 A_ris R_ris c_ris ca0) lo0 60 (A_rtake x).1 (A_rtake x).2 K=t_rtake (vf A_ris c_ris) x (fun z=>some (.c (R_rtake z))):=by kernel_rfl
noncomputable def rtake(q:Nat)(x:a_rtake):Option g_rtake:=t_rtake (ris q) x some
theorem sc_rtake(q:Nat):Lw E7 60 A_rtake R_rtake (rtake q):=sof hW7 hX7 (fk (sc_ris q) ca0_sound) (fun _=>lo0_sound) fun x=>(r_rtake (ris q) x).trans (by rw[v_ris,n_rtake]<;>rfl)
abbrev a_rmust:Type:=ByteArray×SR
abbrev g_rmust:Type:=SR
def A_rmust:AR a_rmust:=fun x=>([.ptr 0 0,st x.1],(hHR x.2))
def d_rmust(t:TT):a_rmust:=((vS (ag t 1)),dHR t.2)
theorem v_rmust:VI A_rmust:=vd d_rmust fun _=>rfl
def R_rmust:g_rmust→CRes:=fun z=>.ret (.tup []) (hHR z)
def t_rmust{β:Type}(c_rtake:a_rtake→Option g_rtake)(c_rfail:a_rfail→Option g_rfail)(x:a_rmust)(dn:g_rmust→Option β):Option β:=
 (c_rtake x).bind fun z12=>if(!z12.1)=true then(c_rfail (11,z12.2)).bind fun z25=>dn z25 else dn z12.2
theorem n_rmust{β:Type}(c_rtake c_rfail)(x)(dn:g_rmust→Option β):t_rmust c_rtake c_rfail x dn=(t_rmust c_rtake c_rfail x some).bind dn:=by
 unfold t_rmust
 repeat' first|exact n0|refine n1 fun _=>?_|refine n2 ?_ ?_|refine n3 (fun _=>?_) fun _=>?_|rfl
theorem r_rmust(c_rtake c_rfail)(x):callK E7 (ftb 60 A_rtake R_rtake c_rtake (ftb 61 A_rfail R_rfail c_rfail ca0)) lo0 25 (A_rmust x).1 (A_rmust x).2 K=t_rmust (vf A_rtake c_rtake) (vf A_rfail c_rfail) x (fun z=>some (.c (R_rmust z))):=by kernel_rfl
noncomputable def rmust(q:Nat)(x:a_rmust):Option g_rmust:=t_rmust (rtake q) (rfail q) x some
theorem sc_rmust(q:Nat):Lw E7 25 A_rmust R_rmust (rmust q):=sof hW7 hX7 (fk (sc_rtake q) (fk (sc_rfail q) ca0_sound)) (fun _=>lo0_sound) fun x=>(r_rmust (rtake q) (rfail q) x).trans (by rw[v_rtake,v_rfail,n_rmust]<;>rfl)
abbrev a_ropens:Type:=ByteArray×SR
abbrev g_ropens:Type:=SR
def A_ropens:AR a_ropens:=fun x=>([.ptr 0 0,st x.1],(hHR x.2))
def d_ropens(t:TT):a_ropens:=((vS (ag t 1)),dHR t.2)
theorem v_ropens:VI A_ropens:=vd d_ropens fun _=>rfl
def R_ropens:g_ropens→CRes:=fun z=>.ret (.tup []) (hHR z)
def t_ropens{β:Type}(c_ris:a_ris→Option g_ris)(c_rtake:a_rtake→Option g_rtake)(c_rfail:a_rfail→Option g_rfail)(x:a_ropens)(dn:g_ropens→Option β):Option β:=
 (c_ris x).bind fun z12=>if(!z12.1)=true then(c_rfail (11,z12.2)).bind fun z25=>if decide (z25.2.1≥12)=true then(c_rfail (2,z25)).bind fun z38=>(c_rtake (x.1,z38)).bind fun z51=>dn (z51.2.1,w (z51.2.2.1+1),z51.2.2.2)else(c_rtake (x.1,z25)).bind fun z64=>dn (z64.2.1,w (z64.2.2.1+1),z64.2.2.2)else if decide (z12.2.2.1≥12)=true then(c_rfail (2,z12.2)).bind fun z77=>(c_rtake (x.1,z77)).bind fun z90=>dn (z90.2.1,w (z90.2.2.1+1),z90.2.2.2)else(c_rtake (x.1,z12.2)).bind fun z103=>dn (z103.2.1,w (z103.2.2.1+1),z103.2.2.2)
theorem n_ropens{β:Type}(c_ris c_rtake c_rfail)(x)(dn:g_ropens→Option β):t_ropens c_ris c_rtake c_rfail x dn=(t_ropens c_ris c_rtake c_rfail x some).bind dn:=by
 unfold t_ropens
 repeat' first|exact n0|refine n1 fun _=>?_|refine n2 ?_ ?_|refine n3 (fun _=>?_) fun _=>?_|rfl
theorem r_ropens(c_ris c_rtake c_rfail)(x):callK E7 (ftb 64 A_ris R_ris c_ris (ftb 60 A_rtake R_rtake c_rtake (ftb 61 A_rfail R_rfail c_rfail ca0))) lo0 66 (A_ropens x).1 (A_ropens x).2 K=t_ropens (vf A_ris c_ris) (vf A_rtake c_rtake) (vf A_rfail c_rfail) x (fun z=>some (.c (R_ropens z))):=by kernel_rfl
noncomputable def ropens(q:Nat)(x:a_ropens):Option g_ropens:=t_ropens (ris q) (rtake q) (rfail q) x some
theorem sc_ropens(q:Nat):Lw E7 66 A_ropens R_ropens (ropens q):=sof hW7 hX7 (fk (sc_ris q) (fk (sc_rtake q) (fk (sc_rfail q) ca0_sound))) (fun _=>lo0_sound) fun x=>(r_ropens (ris q) (rtake q) (rfail q) x).trans (by rw[v_ris,v_rtake,v_rfail,n_ropens]<;>rfl)
abbrev a_rnumber:Type:=Int×Int×SR
abbrev g_rnumber:Type:=Int×SR
def A_rnumber:AR a_rnumber:=fun x=>([.ptr 0 0,i64 x.1,i64 x.2.1],(hHR x.2.2))
def d_rnumber(t:TT):a_rnumber:=((vI (ag t 1)),vI (ag t 2),dHR t.2)
theorem v_rnumber:VI A_rnumber:=vd d_rnumber fun _=>rfl
def R_rnumber:g_rnumber→CRes:=fun z=>.ret (i64 z.1) (hHR z.2)
def t_rnumber{β:Type}(c_rfail:a_rfail→Option g_rfail)(x:a_rnumber)(dn:g_rnumber→Option β):Option β:=
 if 0≤x.2.2.1∧x.2.2.1< ((x.2.2.2.2.2.2.1:Nat):Int)then if(x.2.2.2.2.2.2.2.1 (Int.toNat x.2.2.1)!=2)=true then(c_rfail (11,x.2.2)).bind fun z12=>if decide (x.2.2.2.2.2.2.2.2.2.2.1 (Int.toNat x.2.2.1)<x.1)=true then(c_rfail (5,z12)).bind fun z25=>if(z25.2.2.1 !=0)=true then dn (0,z25)else dn (x.2.2.2.2.2.2.2.2.2.2.1 (Int.toNat x.2.2.1),w (z25.1+1),z25.2)else if decide (x.2.2.2.2.2.2.2.2.2.2.1 (Int.toNat x.2.2.1)>x.2.1)=true then(c_rfail (5,z12)).bind fun z38=>if(z38.2.2.1 !=0)=true then dn (0,z38)else dn (x.2.2.2.2.2.2.2.2.2.2.1 (Int.toNat x.2.2.1),w (z38.1+1),z38.2)else if(z12.2.2.1 !=0)=true then dn (0,z12)else dn (x.2.2.2.2.2.2.2.2.2.2.1 (Int.toNat x.2.2.1),w (z12.1+1),z12.2)else if decide (x.2.2.2.2.2.2.2.2.2.2.1 (Int.toNat x.2.2.1)<x.1)=true then(c_rfail (5,x.2.2)).bind fun z51=>if(z51.2.2.1 !=0)=true then dn (0,z51)else dn (x.2.2.2.2.2.2.2.2.2.2.1 (Int.toNat x.2.2.1),w (z51.1+1),z51.2)else if decide (x.2.2.2.2.2.2.2.2.2.2.1 (Int.toNat x.2.2.1)>x.2.1)=true then(c_rfail (5,x.2.2)).bind fun z64=>if(z64.2.2.1 !=0)=true then dn (0,z64)else dn (x.2.2.2.2.2.2.2.2.2.2.1 (Int.toNat x.2.2.1),w (z64.1+1),z64.2)else if(x.2.2.2.2.1 !=0)=true then dn (0,x.2.2)else dn (x.2.2.2.2.2.2.2.2.2.2.1 (Int.toNat x.2.2.1),w (x.2.2.1+1),x.2.2.2)else none
theorem n_rnumber{β:Type}(c_rfail)(x)(dn:g_rnumber→Option β):t_rnumber c_rfail x dn=(t_rnumber c_rfail x some).bind dn:=by
 unfold t_rnumber
 repeat' first|exact n0|refine n1 fun _=>?_|refine n2 ?_ ?_|refine n3 (fun _=>?_) fun _=>?_|rfl
theorem r_rnumber(c_rfail)(x):callK E7 (ftb 61 A_rfail R_rfail c_rfail ca0) lo0 119 (A_rnumber x).1 (A_rnumber x).2 K=t_rnumber (vf A_rfail c_rfail) x (fun z=>some (.c (R_rnumber z))):=by kernel_rfl
noncomputable def rnumber(q:Nat)(x:a_rnumber):Option g_rnumber:=t_rnumber (rfail q) x some
theorem sc_rnumber(q:Nat):Lw E7 119 A_rnumber R_rnumber (rnumber q):=sof hW7 hX7 (fk (sc_rfail q) ca0_sound) (fun _=>lo0_sound) fun x=>(r_rnumber (rfail q) x).trans (by rw[v_rfail,n_rnumber]<;>rfl)
abbrev a_among:Type:=Nat×FS×ByteArray
abbrev g_among:Type:=Bool
def A_among:AR a_among:=fun x=>([.ro 1 x.1 (fun j=>[st (x.2.1 j)]),st x.2.2],[])
def d_among(t:TT):a_among:=((vRoN (ag t 0)),dTS (ag t 0) 0,vS (ag t 1))
theorem v_among:VI A_among:=vd d_among fun _=>rfl
def R_among:g_among→CRes:=fun z=>.ret (bo z) []
abbrev among_l0_a:Type:=Int
abbrev among_l0_g:Type:=(Unit)⊕(Unit)
def among_l0_S(x:a_among)(y:among_l0_a):St:={fr:=[V.ro 1 x.1 fun j=>[st (x.2.1 j)],st x.2.2,V.junk,V.junk,V.junk,i64 y]++jk 12,H:=hp [],nx:=0,rt:=0,me:=63}
def among_l0_d(s:St):among_l0_a:=(vI (s.fr.getD 5 .junk))
theorem among_l0_u(x:a_among):VL (among_l0_S x):=vl among_l0_d fun _=>rfl
def among_l0_T(x:a_among):among_l0_g→Ex×St:=(Sum.elim (fun z=>(Ex.ret,{fr:=jk 4++[bo true]++jk 13,H:=hp [],nx:=0,rt:=0,me:=63})) (fun z=>(Ex.exit 0,{fr:=[V.junk]++jk 17,H:=hp [],nx:=0,rt:=0,me:=63})))
def among_l0_t{β:Type}(x:a_among)(y:among_l0_a)(nx:among_l0_a→Option β)(dn:among_l0_g→Option β):Option β:=
 if decide (y< ((x.1:Nat):Int))=true then if 0≤y∧y< ((x.1:Nat):Int)then if(ByteArray.toList (x.2.1 (Int.toNat y))==x.2.2.toList)=true then dn (.inl ())else nx (w (y+1))else none else dn (.inr ())
theorem among_l0_n{β:Type}(x)(y)(nx:among_l0_a→Option β)(dn):among_l0_t x y nx dn=(among_l0_t x y (fun y=>some (.inl y)) (fun z=>some (.inr z))).bind fun r=>Sum.elim nx dn r:=by
 unfold among_l0_t
 repeat' first|exact n0|refine n1 fun _=>?_|refine n2 ?_ ?_|refine n3 (fun _=>?_) fun _=>?_|rfl
theorem among_l0_r(x)(y)(lo:LoopT):loopK E7 ca0 lo 0 35 (bodyOf E7 63 0) (among_l0_S x y) (KCM [(0,0)] 16)=among_l0_t x y (fun y=>lo 0 35 (bodyOf E7 63 0) (among_l0_S x y) (KCM [(0,0)] 16)) (fun z=>some (.l (among_l0_T x z).1 (among_l0_T x z).2)):=by kernel_rfl
noncomputable def among_l0(q:Nat)(x:a_among):among_l0_a→Option among_l0_g:=lpG (fun y=>among_l0_t x y (fun y=>some (.inl y)) (fun z=>some (.inr z))) q
theorem among_l0_s(q:Nat)(x:a_among):Ll E7 (bodyOf E7 63 0) (among_l0_S x) (among_l0_T x) (among_l0 q x):=
 slp ca0_sound hX7 (fun lo y=>(among_l0_r x y lo).trans (by exact among_l0_n  _ _ _ _)) (fun z=>by rcases z with z|z<;>kernel_rfl) q
def t_among{β:Type}(l_among_l0:among_l0_a→Option among_l0_g)(x:a_among)(dn:g_among→Option β):Option β:=
 (l_among_l0 (0)).bind fun z3=>Sum.elim (fun z3a=>dn true) (fun z3b=>dn false) z3
theorem n_among{β:Type}(l_among_l0)(x)(dn:g_among→Option β):t_among l_among_l0 x dn=(t_among l_among_l0 x some).bind dn:=by
 unfold t_among
 repeat' first|exact n0|refine n1 fun _=>?_|refine n2 ?_ ?_|refine n3 (fun _=>?_) fun _=>?_|rfl
theorem r_among(l_among_l0)(x):callK E7 ca0 (lt2 0 (fun _=>true) (bodyOf E7 63 0) (among_l0_S x) (among_l0_T x) l_among_l0 lo0) 63 (A_among x).1 (A_among x).2 K=t_among (lf (bodyOf E7 63 0) (among_l0_S x) l_among_l0) x (fun z=>some (.c (R_among z))):=by kernel_rfl
noncomputable def among(q:Nat)(x:a_among):Option g_among:=t_among (among_l0 q x) x some
theorem sc_among(q:Nat):Lw E7 63 A_among R_among (among q):=sof hW7 hX7 ca0_sound (fun x=>(lk2 (among_l0_s q x) lo0_sound)) fun x=>(r_among (among_l0 q x) x).trans (by rw[among_l0_u,n_among]<;>rfl)
abbrev a_amongZ:Type:=ByteArray
abbrev g_amongZ:Type:=Bool
def A_amongZ:AR a_amongZ:=fun x=>([nilS,st x],[])
def d_amongZ(t:TT):a_amongZ:=(vS (ag t 1))
theorem v_amongZ:VI A_amongZ:=vd d_amongZ fun _=>rfl
def R_amongZ:g_amongZ→CRes:=fun z=>.ret (bo z) []
abbrev amongZ_l0_a:Type:=Unit
abbrev amongZ_l0_g:Type:=Unit
def amongZ_l0_S(x:a_amongZ)(y:amongZ_l0_a):St:={fr:=[nilS,st x,V.junk,V.junk,V.junk,i64 0]++jk 12,H:=hp [],nx:=0,rt:=0,me:=63}
def amongZ_l0_d(s:St):amongZ_l0_a:=()
theorem amongZ_l0_u(x:a_amongZ):VL (amongZ_l0_S x):=vl amongZ_l0_d fun _=>rfl
def amongZ_l0_T(x:a_amongZ):amongZ_l0_g→Ex×St:=(fun z=>(Ex.exit 0,{fr:=[V.junk]++jk 17,H:=hp [],nx:=0,rt:=0,me:=63}))
def amongZ_l0_t{β:Type}(x:a_amongZ)(y:amongZ_l0_a)(nx:amongZ_l0_a→Option β)(dn:amongZ_l0_g→Option β):Option β:=
 dn ()
theorem amongZ_l0_n{β:Type}(x)(y)(nx:amongZ_l0_a→Option β)(dn):amongZ_l0_t x y nx dn=(amongZ_l0_t x y (fun y=>some (.inl y)) (fun z=>some (.inr z))).bind fun r=>Sum.elim nx dn r:=by
 unfold amongZ_l0_t
 repeat' first|exact n0|refine n1 fun _=>?_|refine n2 ?_ ?_|refine n3 (fun _=>?_) fun _=>?_|rfl
theorem amongZ_l0_r(x)(y)(lo:LoopT):loopK E7 ca0 lo 0 35 (bodyOf E7 63 0) (amongZ_l0_S x y) (KCM [(0,0)] 16)=amongZ_l0_t x y (fun y=>lo 0 35 (bodyOf E7 63 0) (amongZ_l0_S x y) (KCM [(0,0)] 16)) (fun z=>some (.l (amongZ_l0_T x z).1 (amongZ_l0_T x z).2)):=by kernel_rfl
noncomputable def amongZ_l0(q:Nat)(x:a_amongZ):amongZ_l0_a→Option amongZ_l0_g:=lpG (fun y=>amongZ_l0_t x y (fun y=>some (.inl y)) (fun z=>some (.inr z))) q
theorem amongZ_l0_s(q:Nat)(x:a_amongZ):Ll E7 (bodyOf E7 63 0) (amongZ_l0_S x) (amongZ_l0_T x) (amongZ_l0 q x):=
 slp ca0_sound hX7 (fun lo y=>(amongZ_l0_r x y lo).trans (by exact amongZ_l0_n  _ _ _ _)) (fun _=>by kernel_rfl) q
def t_amongZ{β:Type}(l_amongZ_l0:amongZ_l0_a→Option amongZ_l0_g)(x:a_amongZ)(dn:g_amongZ→Option β):Option β:=
 (l_amongZ_l0 ()).bind fun z0=>dn false
theorem n_amongZ{β:Type}(l_amongZ_l0)(x)(dn:g_amongZ→Option β):t_amongZ l_amongZ_l0 x dn=(t_amongZ l_amongZ_l0 x some).bind dn:=by
 unfold t_amongZ
 repeat' first|exact n0|refine n1 fun _=>?_|refine n2 ?_ ?_|refine n3 (fun _=>?_) fun _=>?_|rfl
theorem r_amongZ(l_amongZ_l0)(x):callK E7 ca0 (lt1 0 (fun _=>true) (bodyOf E7 63 0) (amongZ_l0_S x) (amongZ_l0_T x) l_amongZ_l0 lo0) 63 (A_amongZ x).1 (A_amongZ x).2 K=t_amongZ (lf (bodyOf E7 63 0) (amongZ_l0_S x) l_amongZ_l0) x (fun z=>some (.c (R_amongZ z))):=by kernel_rfl
noncomputable def amongZ(q:Nat)(x:a_amongZ):Option g_amongZ:=t_amongZ (amongZ_l0 q x) x some
theorem sc_amongZ(q:Nat):Lw E7 63 A_amongZ R_amongZ (amongZ q):=sof hW7 hX7 ca0_sound (fun x=>(lk1 (amongZ_l0_s q x) lo0_sound)) fun x=>(r_amongZ (amongZ_l0 q x) x).trans (by rw[amongZ_l0_u,n_amongZ]<;>rfl)
abbrev a_rnameZ:Type:=Int×SR
abbrev g_rnameZ:Type:=ByteArray×SR
def A_rnameZ:AR a_rnameZ:=fun x=>([.ptr 0 0,nilS,i64 x.1],(hHR x.2))
def d_rnameZ(t:TT):a_rnameZ:=((vI (ag t 2)),dHR t.2)
theorem v_rnameZ:VI A_rnameZ:=vd d_rnameZ fun _=>rfl
def R_rnameZ:g_rnameZ→CRes:=fun z=>.ret (st z.1) (hHR z.2)
def t_rnameZ{β:Type}(c_RReserved:a_RReserved→Option g_RReserved)(c_rfail:a_rfail→Option g_rfail)(c_amongZ:a_amongZ→Option g_amongZ)(x:a_rnameZ)(dn:g_rnameZ→Option β):Option β:=
 if 0≤x.2.1∧x.2.1< ((x.2.2.2.2.2.1:Nat):Int)then if(x.2.2.2.2.2.2.1 (Int.toNat x.2.1)!=1)=true then(c_rfail (11,x.2)).bind fun z12=>(c_amongZ (x.2.2.2.2.2.2.2.2.1 (Int.toNat x.2.1))).bind fun z14=>if z14=true then(c_rfail (4,z12)).bind fun z27=>if decide (0≥x.1)=true then(c_rfail (2,z27)).bind fun z40=>if(z40.2.2.1 !=0)=true then dn (⟨#[]⟩,z40)else dn (x.2.2.2.2.2.2.2.2.1 (Int.toNat x.2.1),w (z40.1+1),z40.2)else if(z27.2.2.1 !=0)=true then dn (⟨#[]⟩,z27)else dn (x.2.2.2.2.2.2.2.2.1 (Int.toNat x.2.1),w (z27.1+1),z27.2)else if decide (0≥x.1)=true then(c_rfail (2,z12)).bind fun z53=>if(z53.2.2.1 !=0)=true then dn (⟨#[]⟩,z53)else dn (x.2.2.2.2.2.2.2.2.1 (Int.toNat x.2.1),w (z53.1+1),z53.2)else if(z12.2.2.1 !=0)=true then dn (⟨#[]⟩,z12)else dn (x.2.2.2.2.2.2.2.2.1 (Int.toNat x.2.1),w (z12.1+1),z12.2)else(c_RReserved (x.2.2.2.2.2.2.2.2.1 (Int.toNat x.2.1))).bind fun z55=>if z55=true then(c_rfail (11,x.2)).bind fun z68=>(c_amongZ (x.2.2.2.2.2.2.2.2.1 (Int.toNat x.2.1))).bind fun z70=>if z70=true then(c_rfail (4,z68)).bind fun z83=>if decide (0≥x.1)=true then(c_rfail (2,z83)).bind fun z96=>if(z96.2.2.1 !=0)=true then dn (⟨#[]⟩,z96)else dn (x.2.2.2.2.2.2.2.2.1 (Int.toNat x.2.1),w (z96.1+1),z96.2)else if(z83.2.2.1 !=0)=true then dn (⟨#[]⟩,z83)else dn (x.2.2.2.2.2.2.2.2.1 (Int.toNat x.2.1),w (z83.1+1),z83.2)else if decide (0≥x.1)=true then(c_rfail (2,z68)).bind fun z109=>if(z109.2.2.1 !=0)=true then dn (⟨#[]⟩,z109)else dn (x.2.2.2.2.2.2.2.2.1 (Int.toNat x.2.1),w (z109.1+1),z109.2)else if(z68.2.2.1 !=0)=true then dn (⟨#[]⟩,z68)else dn (x.2.2.2.2.2.2.2.2.1 (Int.toNat x.2.1),w (z68.1+1),z68.2)else(c_amongZ (x.2.2.2.2.2.2.2.2.1 (Int.toNat x.2.1))).bind fun z111=>if z111=true then(c_rfail (4,x.2)).bind fun z124=>if decide (0≥x.1)=true then(c_rfail (2,z124)).bind fun z137=>if(z137.2.2.1 !=0)=true then dn (⟨#[]⟩,z137)else dn (x.2.2.2.2.2.2.2.2.1 (Int.toNat x.2.1),w (z137.1+1),z137.2)else if(z124.2.2.1 !=0)=true then dn (⟨#[]⟩,z124)else dn (x.2.2.2.2.2.2.2.2.1 (Int.toNat x.2.1),w (z124.1+1),z124.2)else if decide (0≥x.1)=true then(c_rfail (2,x.2)).bind fun z150=>if(z150.2.2.1 !=0)=true then dn (⟨#[]⟩,z150)else dn (x.2.2.2.2.2.2.2.2.1 (Int.toNat x.2.1),w (z150.1+1),z150.2)else if(x.2.2.2.1 !=0)=true then dn (⟨#[]⟩,x.2)else dn (x.2.2.2.2.2.2.2.2.1 (Int.toNat x.2.1),w (x.2.1+1),x.2.2)else none
theorem n_rnameZ{β:Type}(c_RReserved c_rfail c_amongZ)(x)(dn:g_rnameZ→Option β):t_rnameZ c_RReserved c_rfail c_amongZ x dn=(t_rnameZ c_RReserved c_rfail c_amongZ x some).bind dn:=by
 unfold t_rnameZ
 repeat' first|exact n0|refine n1 fun _=>?_|refine n2 ?_ ?_|refine n3 (fun _=>?_) fun _=>?_|rfl
theorem r_rnameZ(c_RReserved c_rfail c_amongZ)(x):callK E7 (ftb 62 A_RReserved R_RReserved c_RReserved (ftb 61 A_rfail R_rfail c_rfail (ftg 63 (fun a _=>isNilV (a.getD 0 .junk)) A_amongZ R_amongZ c_amongZ ca0))) lo0 26 (A_rnameZ x).1 (A_rnameZ x).2 K=t_rnameZ (vf A_RReserved c_RReserved) (vf A_rfail c_rfail) (vf A_amongZ c_amongZ) x (fun z=>some (.c (R_rnameZ z))):=by kernel_rfl
noncomputable def rnameZ(q:Nat)(x:a_rnameZ):Option g_rnameZ:=t_rnameZ (RReserved q) (rfail q) (amongZ q) x some
theorem sc_rnameZ(q:Nat):Lw E7 26 A_rnameZ R_rnameZ (rnameZ q):=sof hW7 hX7 (fk (sc_RReserved q) (fk (sc_rfail q) (fk (sc_amongZ q) ca0_sound))) (fun _=>lo0_sound) fun x=>(r_rnameZ (RReserved q) (rfail q) (amongZ q) x).trans (by rw[v_RReserved,v_rfail,v_amongZ,n_rnameZ]<;>rfl)
abbrev a_rnameV:Type:=Int×SR
abbrev g_rnameV:Type:=ByteArray×SR
def A_rnameV:AR a_rnameV:=fun x=>([.ptr 0 0,.sl 1 1 0 x.2.2.2.2.2.2.2.2.2.2.1,i64 x.1],(hHR x.2))
def d_rnameV(t:TT):a_rnameV:=((vI (ag t 2)),vI (cc t 0 1),vI (cc t 0 2),vI (cc t 0 3),vI (cc t 0 4),vRoN (cc t 0 0),dTI (cc t 0 0) 0,dTI (cc t 0 0) 1,dTS (cc t 0 0) 2,dTI (cc t 0 0) 3,vSlN (ag t 1),dRS (co t 1) 0)
theorem v_rnameV:VI A_rnameV:=vd d_rnameV fun _=>rfl
def R_rnameV:g_rnameV→CRes:=fun z=>.ret (st z.1) (hHR z.2)
def t_rnameV{β:Type}(c_RReserved:a_RReserved→Option g_RReserved)(c_rfail:a_rfail→Option g_rfail)(c_among:a_among→Option g_among)(x:a_rnameV)(dn:g_rnameV→Option β):Option β:=
 if 0≤x.2.1∧x.2.1< ((x.2.2.2.2.2.1:Nat):Int)then if(x.2.2.2.2.2.2.1 (Int.toNat x.2.1)!=1)=true then(c_rfail (11,x.2)).bind fun z12=>if 0+x.2.2.2.2.2.2.2.2.2.2.1≤z12.2.2.2.2.2.2.2.2.2.1∧1=1 then(c_among (x.2.2.2.2.2.2.2.2.2.2.1,fun j=>z12.2.2.2.2.2.2.2.2.2.2 (0+j),x.2.2.2.2.2.2.2.2.1 (Int.toNat x.2.1))).bind fun z16=>if z16=true then(c_rfail (4,z12)).bind fun z29=>if decide (((x.2.2.2.2.2.2.2.2.2.2.1:Nat):Int)≥x.1)=true then(c_rfail (2,z29)).bind fun z42=>if(z42.2.2.1 !=0)=true then dn (⟨#[]⟩,z42)else dn (x.2.2.2.2.2.2.2.2.1 (Int.toNat x.2.1),w (z42.1+1),z42.2)else if(z29.2.2.1 !=0)=true then dn (⟨#[]⟩,z29)else dn (x.2.2.2.2.2.2.2.2.1 (Int.toNat x.2.1),w (z29.1+1),z29.2)else if decide (((x.2.2.2.2.2.2.2.2.2.2.1:Nat):Int)≥x.1)=true then(c_rfail (2,z12)).bind fun z55=>if(z55.2.2.1 !=0)=true then dn (⟨#[]⟩,z55)else dn (x.2.2.2.2.2.2.2.2.1 (Int.toNat x.2.1),w (z55.1+1),z55.2)else if(z12.2.2.1 !=0)=true then dn (⟨#[]⟩,z12)else dn (x.2.2.2.2.2.2.2.2.1 (Int.toNat x.2.1),w (z12.1+1),z12.2)else none else(c_RReserved (x.2.2.2.2.2.2.2.2.1 (Int.toNat x.2.1))).bind fun z57=>if z57=true then(c_rfail (11,x.2)).bind fun z70=>if 0+x.2.2.2.2.2.2.2.2.2.2.1≤z70.2.2.2.2.2.2.2.2.2.1∧1=1 then(c_among (x.2.2.2.2.2.2.2.2.2.2.1,fun j=>z70.2.2.2.2.2.2.2.2.2.2 (0+j),x.2.2.2.2.2.2.2.2.1 (Int.toNat x.2.1))).bind fun z74=>if z74=true then(c_rfail (4,z70)).bind fun z87=>if decide (((x.2.2.2.2.2.2.2.2.2.2.1:Nat):Int)≥x.1)=true then(c_rfail (2,z87)).bind fun z100=>if(z100.2.2.1 !=0)=true then dn (⟨#[]⟩,z100)else dn (x.2.2.2.2.2.2.2.2.1 (Int.toNat x.2.1),w (z100.1+1),z100.2)else if(z87.2.2.1 !=0)=true then dn (⟨#[]⟩,z87)else dn (x.2.2.2.2.2.2.2.2.1 (Int.toNat x.2.1),w (z87.1+1),z87.2)else if decide (((x.2.2.2.2.2.2.2.2.2.2.1:Nat):Int)≥x.1)=true then(c_rfail (2,z70)).bind fun z113=>if(z113.2.2.1 !=0)=true then dn (⟨#[]⟩,z113)else dn (x.2.2.2.2.2.2.2.2.1 (Int.toNat x.2.1),w (z113.1+1),z113.2)else if(z70.2.2.1 !=0)=true then dn (⟨#[]⟩,z70)else dn (x.2.2.2.2.2.2.2.2.1 (Int.toNat x.2.1),w (z70.1+1),z70.2)else none else if 0+x.2.2.2.2.2.2.2.2.2.2.1≤x.2.2.2.2.2.2.2.2.2.2.1∧1=1 then(c_among (x.2.2.2.2.2.2.2.2.2.2.1,fun j=>x.2.2.2.2.2.2.2.2.2.2.2 (0+j),x.2.2.2.2.2.2.2.2.1 (Int.toNat x.2.1))).bind fun z117=>if z117=true then(c_rfail (4,x.2)).bind fun z130=>if decide (((x.2.2.2.2.2.2.2.2.2.2.1:Nat):Int)≥x.1)=true then(c_rfail (2,z130)).bind fun z143=>if(z143.2.2.1 !=0)=true then dn (⟨#[]⟩,z143)else dn (x.2.2.2.2.2.2.2.2.1 (Int.toNat x.2.1),w (z143.1+1),z143.2)else if(z130.2.2.1 !=0)=true then dn (⟨#[]⟩,z130)else dn (x.2.2.2.2.2.2.2.2.1 (Int.toNat x.2.1),w (z130.1+1),z130.2)else if decide (((x.2.2.2.2.2.2.2.2.2.2.1:Nat):Int)≥x.1)=true then(c_rfail (2,x.2)).bind fun z156=>if(z156.2.2.1 !=0)=true then dn (⟨#[]⟩,z156)else dn (x.2.2.2.2.2.2.2.2.1 (Int.toNat x.2.1),w (z156.1+1),z156.2)else if(x.2.2.2.1 !=0)=true then dn (⟨#[]⟩,x.2)else dn (x.2.2.2.2.2.2.2.2.1 (Int.toNat x.2.1),w (x.2.1+1),x.2.2)else none else none
theorem n_rnameV{β:Type}(c_RReserved c_rfail c_among)(x)(dn:g_rnameV→Option β):t_rnameV c_RReserved c_rfail c_among x dn=(t_rnameV c_RReserved c_rfail c_among x some).bind dn:=by
 unfold t_rnameV
 repeat' first|exact n0|refine n1 fun _=>?_|refine n2 ?_ ?_|refine n3 (fun _=>?_) fun _=>?_|rfl
theorem r_rnameV(c_RReserved c_rfail c_among)(x):callK E7 (ftb 62 A_RReserved R_RReserved c_RReserved (ftb 61 A_rfail R_rfail c_rfail (ftg 63 (fun a _=> !isNilV (a.getD 0 .junk)) A_among R_among c_among ca0))) lo0 26 (A_rnameV x).1 (A_rnameV x).2 K=t_rnameV (vf A_RReserved c_RReserved) (vf A_rfail c_rfail) (vf A_among c_among) x (fun z=>some (.c (R_rnameV z))):=by kernel_rfl
noncomputable def rnameV(q:Nat)(x:a_rnameV):Option g_rnameV:=t_rnameV (RReserved q) (rfail q) (among q) x some
theorem sc_rnameV(q:Nat):Lw E7 26 A_rnameV R_rnameV (rnameV q):=sof hW7 hX7 (fk (sc_RReserved q) (fk (sc_rfail q) (fk (sc_among q) ca0_sound))) (fun _=>lo0_sound) fun x=>(r_rnameV (RReserved q) (rfail q) (among q) x).trans (by rw[v_RReserved,v_rfail,v_among,n_rnameV]<;>rfl)
abbrev a_rnameN:Type:=Int×Nat×FS×SR
abbrev g_rnameN:Type:=ByteArray×Nat×FS×SR
def A_rnameN:AR a_rnameN:=fun x=>([.ptr 0 0,.sl 1 1 0 x.2.1,i64 x.1],[some (.blk [.ro 4 x.2.2.2.2.2.2.2.1 (fun j=>[i64 (x.2.2.2.2.2.2.2.2.1 j),i64 (x.2.2.2.2.2.2.2.2.2.1 j),st (x.2.2.2.2.2.2.2.2.2.2.1 j),i64 (x.2.2.2.2.2.2.2.2.2.2.2.1 j)]),i64 x.2.2.2.1,i64 x.2.2.2.2.1,i64 x.2.2.2.2.2.1,i64 x.2.2.2.2.2.2.1,.sl 2 1 0 x.2.2.2.2.2.2.2.2.2.2.2.2.1]),some (.row 9 1 x.2.1 (fun j=>[st (x.2.2.1 j)])),some (.row 9 1 x.2.2.2.2.2.2.2.2.2.2.2.2.1 (fun j=>[st (x.2.2.2.2.2.2.2.2.2.2.2.2.2 j)]))])
def d_rnameN(t:TT):a_rnameN:=((vI (ag t 2)),vSlN (ag t 1),dRS (co t 1) 0,vI (cc t 0 1),vI (cc t 0 2),vI (cc t 0 3),vI (cc t 0 4),vRoN (cc t 0 0),dTI (cc t 0 0) 0,dTI (cc t 0 0) 1,dTS (cc t 0 0) 2,dTI (cc t 0 0) 3,vSlN (cc t 0 5),dRS (co t 2) 0)
theorem v_rnameN:VI A_rnameN:=vd d_rnameN fun _=>rfl
def R_rnameN:g_rnameN→CRes:=fun z=>.ret (st z.1) [some (.blk [.ro 4 z.2.2.2.2.2.2.2.1 (fun j=>[i64 (z.2.2.2.2.2.2.2.2.1 j),i64 (z.2.2.2.2.2.2.2.2.2.1 j),st (z.2.2.2.2.2.2.2.2.2.2.1 j),i64 (z.2.2.2.2.2.2.2.2.2.2.2.1 j)]),i64 z.2.2.2.1,i64 z.2.2.2.2.1,i64 z.2.2.2.2.2.1,i64 z.2.2.2.2.2.2.1,.sl 2 1 0 z.2.2.2.2.2.2.2.2.2.2.2.2.1]),some (.row 9 1 z.2.1 (fun j=>[st (z.2.2.1 j)])),some (.row 9 1 z.2.2.2.2.2.2.2.2.2.2.2.2.1 (fun j=>[st (z.2.2.2.2.2.2.2.2.2.2.2.2.2 j)]))]
def t_rnameN{β:Type}(c_RReserved:a_RReserved→Option g_RReserved)(c_rfail:a_rfail→Option g_rfail)(c_among:a_among→Option g_among)(x:a_rnameN)(dn:g_rnameN→Option β):Option β:=
 if 0≤x.2.2.2.1∧x.2.2.2.1< ((x.2.2.2.2.2.2.2.1:Nat):Int)then if(x.2.2.2.2.2.2.2.2.1 (Int.toNat x.2.2.2.1)!=1)=true then(c_rfail (11,x.2.2.2)).bind fun z12=>if 0+x.2.1≤x.2.1∧1=1 then(c_among (x.2.1,fun j=>x.2.2.1 (0+j),x.2.2.2.2.2.2.2.2.2.2.1 (Int.toNat x.2.2.2.1))).bind fun z16=>if z16=true then(c_rfail (4,z12)).bind fun z29=>if decide (((x.2.1:Nat):Int)≥x.1)=true then(c_rfail (2,z29)).bind fun z42=>if(z42.2.2.1 !=0)=true then dn (⟨#[]⟩,x.2.1,x.2.2.1,z42)else dn (x.2.2.2.2.2.2.2.2.2.2.1 (Int.toNat x.2.2.2.1),x.2.1,x.2.2.1,w (z42.1+1),z42.2)else if(z29.2.2.1 !=0)=true then dn (⟨#[]⟩,x.2.1,x.2.2.1,z29)else dn (x.2.2.2.2.2.2.2.2.2.2.1 (Int.toNat x.2.2.2.1),x.2.1,x.2.2.1,w (z29.1+1),z29.2)else if decide (((x.2.1:Nat):Int)≥x.1)=true then(c_rfail (2,z12)).bind fun z55=>if(z55.2.2.1 !=0)=true then dn (⟨#[]⟩,x.2.1,x.2.2.1,z55)else dn (x.2.2.2.2.2.2.2.2.2.2.1 (Int.toNat x.2.2.2.1),x.2.1,x.2.2.1,w (z55.1+1),z55.2)else if(z12.2.2.1 !=0)=true then dn (⟨#[]⟩,x.2.1,x.2.2.1,z12)else dn (x.2.2.2.2.2.2.2.2.2.2.1 (Int.toNat x.2.2.2.1),x.2.1,x.2.2.1,w (z12.1+1),z12.2)else none else(c_RReserved (x.2.2.2.2.2.2.2.2.2.2.1 (Int.toNat x.2.2.2.1))).bind fun z57=>if z57=true then(c_rfail (11,x.2.2.2)).bind fun z70=>if 0+x.2.1≤x.2.1∧1=1 then(c_among (x.2.1,fun j=>x.2.2.1 (0+j),x.2.2.2.2.2.2.2.2.2.2.1 (Int.toNat x.2.2.2.1))).bind fun z74=>if z74=true then(c_rfail (4,z70)).bind fun z87=>if decide (((x.2.1:Nat):Int)≥x.1)=true then(c_rfail (2,z87)).bind fun z100=>if(z100.2.2.1 !=0)=true then dn (⟨#[]⟩,x.2.1,x.2.2.1,z100)else dn (x.2.2.2.2.2.2.2.2.2.2.1 (Int.toNat x.2.2.2.1),x.2.1,x.2.2.1,w (z100.1+1),z100.2)else if(z87.2.2.1 !=0)=true then dn (⟨#[]⟩,x.2.1,x.2.2.1,z87)else dn (x.2.2.2.2.2.2.2.2.2.2.1 (Int.toNat x.2.2.2.1),x.2.1,x.2.2.1,w (z87.1+1),z87.2)else if decide (((x.2.1:Nat):Int)≥x.1)=true then(c_rfail (2,z70)).bind fun z113=>if(z113.2.2.1 !=0)=true then dn (⟨#[]⟩,x.2.1,x.2.2.1,z113)else dn (x.2.2.2.2.2.2.2.2.2.2.1 (Int.toNat x.2.2.2.1),x.2.1,x.2.2.1,w (z113.1+1),z113.2)else if(z70.2.2.1 !=0)=true then dn (⟨#[]⟩,x.2.1,x.2.2.1,z70)else dn (x.2.2.2.2.2.2.2.2.2.2.1 (Int.toNat x.2.2.2.1),x.2.1,x.2.2.1,w (z70.1+1),z70.2)else none else if 0+x.2.1≤x.2.1∧1=1 then(c_among (x.2.1,fun j=>x.2.2.1 (0+j),x.2.2.2.2.2.2.2.2.2.2.1 (Int.toNat x.2.2.2.1))).bind fun z117=>if z117=true then(c_rfail (4,x.2.2.2)).bind fun z130=>if decide (((x.2.1:Nat):Int)≥x.1)=true then(c_rfail (2,z130)).bind fun z143=>if(z143.2.2.1 !=0)=true then dn (⟨#[]⟩,x.2.1,x.2.2.1,z143)else dn (x.2.2.2.2.2.2.2.2.2.2.1 (Int.toNat x.2.2.2.1),x.2.1,x.2.2.1,w (z143.1+1),z143.2)else if(z130.2.2.1 !=0)=true then dn (⟨#[]⟩,x.2.1,x.2.2.1,z130)else dn (x.2.2.2.2.2.2.2.2.2.2.1 (Int.toNat x.2.2.2.1),x.2.1,x.2.2.1,w (z130.1+1),z130.2)else if decide (((x.2.1:Nat):Int)≥x.1)=true then(c_rfail (2,x.2.2.2)).bind fun z156=>if(z156.2.2.1 !=0)=true then dn (⟨#[]⟩,x.2.1,x.2.2.1,z156)else dn (x.2.2.2.2.2.2.2.2.2.2.1 (Int.toNat x.2.2.2.1),x.2.1,x.2.2.1,w (z156.1+1),z156.2)else if(x.2.2.2.2.2.1 !=0)=true then dn (⟨#[]⟩,x.2)else dn (x.2.2.2.2.2.2.2.2.2.2.1 (Int.toNat x.2.2.2.1),x.2.1,x.2.2.1,w (x.2.2.2.1+1),x.2.2.2.2)else none else none
theorem n_rnameN{β:Type}(c_RReserved c_rfail c_among)(x)(dn:g_rnameN→Option β):t_rnameN c_RReserved c_rfail c_among x dn=(t_rnameN c_RReserved c_rfail c_among x some).bind dn:=by
 unfold t_rnameN
 repeat' first|exact n0|refine n1 fun _=>?_|refine n2 ?_ ?_|refine n3 (fun _=>?_) fun _=>?_|rfl
theorem r_rnameN(c_RReserved c_rfail c_among)(x):callK E7 (ftb 62 A_RReserved R_RReserved c_RReserved (ftb 61 A_rfail R_rfail c_rfail (ftg 63 (fun a _=> !isNilV (a.getD 0 .junk)) A_among R_among c_among ca0))) lo0 26 (A_rnameN x).1 (A_rnameN x).2 K=t_rnameN (vf A_RReserved c_RReserved) (vf A_rfail c_rfail) (vf A_among c_among) x (fun z=>some (.c (R_rnameN z))):=by kernel_rfl
noncomputable def rnameN(q:Nat)(x:a_rnameN):Option g_rnameN:=t_rnameN (RReserved q) (rfail q) (among q) x some
theorem sc_rnameN(q:Nat):Lw E7 26 A_rnameN R_rnameN (rnameN q):=sof hW7 hX7 (fk (sc_RReserved q) (fk (sc_rfail q) (fk (sc_among q) ca0_sound))) (fun _=>lo0_sound) fun x=>(r_rnameN (RReserved q) (rfail q) (among q) x).trans (by rw[v_RReserved,v_rfail,v_among,n_rnameN]<;>rfl)
abbrev a_operators:Type:=Int
abbrev g_operators:Type:=(ByteArray)⊕(ByteArray×ByteArray)⊕(ByteArray×ByteArray×ByteArray×ByteArray×ByteArray×ByteArray)
def A_operators:AR a_operators:=fun x=>([i64 x],[])
def d_operators(t:TT):a_operators:=(vI (ag t 0))
theorem v_operators:VI A_operators:=vd d_operators fun _=>rfl
def R_operators:g_operators→CRes:=Sum.elim (fun z:ByteArray=>.ret (.sl 0 1 0 1) [some (.row 9 1 1 (selL [[st z]]))]) (Sum.elim (fun z:ByteArray×ByteArray=>.ret (.sl 0 1 0 2) [some (.row 9 1 2 (selL [[st z.1],[st z.2]]))]) (fun z:ByteArray×ByteArray×ByteArray×ByteArray×ByteArray×ByteArray=>.ret (.sl 0 1 0 6) [some (.row 9 1 6 (selL [[st z.1],[st z.2.1],[st z.2.2.1],[st z.2.2.2.1],[st z.2.2.2.2.1],[st z.2.2.2.2.2]]))]))
def t_operators{β:Type}(x:a_operators)(dn:g_operators→Option β):Option β:=
 if(x==1)=true then dn (.inl (⟨#[124,124]⟩))else if(x==2)=true then dn (.inl (⟨#[38,38]⟩))else if(x==4)=true then dn (.inr (.inr (⟨#[60]⟩,⟨#[60,61]⟩,⟨#[62]⟩,⟨#[62,61]⟩,⟨#[61,61]⟩,⟨#[33,61]⟩)))else if(x==5)=true then dn (.inr (.inl (⟨#[43]⟩,⟨#[45]⟩)))else dn (.inr (.inl (⟨#[42]⟩,⟨#[47]⟩)))
theorem n_operators{β:Type}(x)(dn:g_operators→Option β):t_operators x dn=(t_operators x some).bind dn:=by
 unfold t_operators
 repeat' first|exact n0|refine n1 fun _=>?_|refine n2 ?_ ?_|refine n3 (fun _=>?_) fun _=>?_|rfl
theorem r_operators(x):callK E7 ca0 lo0 81 (A_operators x).1 (A_operators x).2 K=t_operators x (fun z=>some (.c (R_operators z))):=by kernel_rfl
noncomputable def operators(q:Nat)(x:a_operators):Option g_operators:=t_operators x some
theorem sc_operators(q:Nat):Lw E7 81 A_operators R_operators (operators q):=sof hW7 hX7 ca0_sound (fun _=>lo0_sound) fun x=>(r_operators x).trans (by rw[n_operators]<;>rfl)
abbrev a_operator:Type:=Int×SR
abbrev g_operator:Type:=ByteArray×SR
def A_operator:AR a_operator:=fun x=>([.ptr 0 0,i64 x.1],(hHR x.2))
def d_operator(t:TT):a_operator:=((vI (ag t 1)),dHR t.2)
theorem v_operator:VI A_operator:=vd d_operator fun _=>rfl
def R_operator:g_operator→CRes:=fun z=>.ret (st z.1) (hHR z.2)
def t_operator{β:Type}(c_operators:a_operators→Option g_operators)(c_rtake:a_rtake→Option g_rtake)(x:a_operator)(dn:g_operator→Option β):Option β:=
 (c_operators x.1).bind fun z1=>Sum.elim (fun z1a=>(c_rtake (z1a,x.2)).bind fun z14=>if z14.1=true then dn (z1a,z14.2)else dn (⟨#[]⟩,z14.2)) (fun z1b=>Sum.elim (fun z1ba=>(c_rtake (if 0=0 then z1ba.1 else z1ba.2,x.2)).bind fun z28=>if z28.1=true then dn (if 0=0 then z1ba.1 else z1ba.2,z28.2)else(c_rtake (if 1=0 then z1ba.1 else z1ba.2,z28.2)).bind fun z41=>if z41.1=true then dn (if 1=0 then z1ba.1 else z1ba.2,z41.2)else dn (⟨#[]⟩,z41.2)) (fun z1bb=>(c_rtake (if 0=0 then z1bb.1 else if 0=0 then z1bb.2.1 else if 0=0 then z1bb.2.2.1 else if 0=0 then z1bb.2.2.2.1 else if 0=0 then z1bb.2.2.2.2.1 else z1bb.2.2.2.2.2,x.2)).bind fun z55=>if z55.1=true then dn (if 0=0 then z1bb.1 else if 0=0 then z1bb.2.1 else if 0=0 then z1bb.2.2.1 else if 0=0 then z1bb.2.2.2.1 else if 0=0 then z1bb.2.2.2.2.1 else z1bb.2.2.2.2.2,z55.2)else(c_rtake (if 1=0 then z1bb.1 else if 0=0 then z1bb.2.1 else if 0=0 then z1bb.2.2.1 else if 0=0 then z1bb.2.2.2.1 else if 0=0 then z1bb.2.2.2.2.1 else z1bb.2.2.2.2.2,z55.2)).bind fun z68=>if z68.1=true then dn (if 1=0 then z1bb.1 else if 0=0 then z1bb.2.1 else if 0=0 then z1bb.2.2.1 else if 0=0 then z1bb.2.2.2.1 else if 0=0 then z1bb.2.2.2.2.1 else z1bb.2.2.2.2.2,z68.2)else(c_rtake (if 2=0 then z1bb.1 else if 1=0 then z1bb.2.1 else if 0=0 then z1bb.2.2.1 else if 0=0 then z1bb.2.2.2.1 else if 0=0 then z1bb.2.2.2.2.1 else z1bb.2.2.2.2.2,z68.2)).bind fun z81=>if z81.1=true then dn (if 2=0 then z1bb.1 else if 1=0 then z1bb.2.1 else if 0=0 then z1bb.2.2.1 else if 0=0 then z1bb.2.2.2.1 else if 0=0 then z1bb.2.2.2.2.1 else z1bb.2.2.2.2.2,z81.2)else(c_rtake (if 3=0 then z1bb.1 else if 2=0 then z1bb.2.1 else if 1=0 then z1bb.2.2.1 else if 0=0 then z1bb.2.2.2.1 else if 0=0 then z1bb.2.2.2.2.1 else z1bb.2.2.2.2.2,z81.2)).bind fun z94=>if z94.1=true then dn (if 3=0 then z1bb.1 else if 2=0 then z1bb.2.1 else if 1=0 then z1bb.2.2.1 else if 0=0 then z1bb.2.2.2.1 else if 0=0 then z1bb.2.2.2.2.1 else z1bb.2.2.2.2.2,z94.2)else(c_rtake (if 4=0 then z1bb.1 else if 3=0 then z1bb.2.1 else if 2=0 then z1bb.2.2.1 else if 1=0 then z1bb.2.2.2.1 else if 0=0 then z1bb.2.2.2.2.1 else z1bb.2.2.2.2.2,z94.2)).bind fun z107=>if z107.1=true then dn (if 4=0 then z1bb.1 else if 3=0 then z1bb.2.1 else if 2=0 then z1bb.2.2.1 else if 1=0 then z1bb.2.2.2.1 else if 0=0 then z1bb.2.2.2.2.1 else z1bb.2.2.2.2.2,z107.2)else(c_rtake (if 5=0 then z1bb.1 else if 4=0 then z1bb.2.1 else if 3=0 then z1bb.2.2.1 else if 2=0 then z1bb.2.2.2.1 else if 1=0 then z1bb.2.2.2.2.1 else z1bb.2.2.2.2.2,z107.2)).bind fun z120=>if z120.1=true then dn (if 5=0 then z1bb.1 else if 4=0 then z1bb.2.1 else if 3=0 then z1bb.2.2.1 else if 2=0 then z1bb.2.2.2.1 else if 1=0 then z1bb.2.2.2.2.1 else z1bb.2.2.2.2.2,z120.2)else dn (⟨#[]⟩,z120.2)) z1b) z1
theorem n_operator{β:Type}(c_operators c_rtake)(x)(dn:g_operator→Option β):t_operator c_operators c_rtake x dn=(t_operator c_operators c_rtake x some).bind dn:=by
 unfold t_operator
 repeat' first|exact n0|refine n1 fun _=>?_|refine n2 ?_ ?_|refine n3 (fun _=>?_) fun _=>?_|rfl
theorem r_operator(c_operators c_rtake)(x):callK E7 (ft3 81 A_operators R_operators c_operators (ftb 60 A_rtake R_rtake c_rtake ca0)) (loU E7 (ft3 81 A_operators R_operators c_operators (ftb 60 A_rtake R_rtake c_rtake ca0)) [0] lo0 20) 124 (A_operator x).1 (A_operator x).2 K=t_operator (vf A_operators c_operators) (vf A_rtake c_rtake) x (fun z=>some (.c (R_operator z))):=by kernel_rfl
noncomputable def operator(q:Nat)(x:a_operator):Option g_operator:=t_operator (operators q) (rtake q) x some
theorem sc_operator(q:Nat):Lw E7 124 A_operator R_operator (operator q):=sof hW7 hX7 (fk3 (sc_operators q) (fk (sc_rtake q) ca0_sound)) (fun _=>(loU_sound (fk3 (sc_operators q) (fk (sc_rtake q) ca0_sound)) hX7 lo0_sound 20)) fun x=>(r_operator (operators q) (rtake q) x).trans (by rw[v_operators,v_rtake,n_operator]<;>rfl)
end Go.Proofs.YtjfkkokeegpeiaaGreatDoor

