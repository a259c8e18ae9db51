/- Texts joined. -/
import Derived.Test.YtjfkkokeegpeiaaDoorQC
import Derived.Test.YtjfkkokeegpeiaaDoorProg
import Derived.Test.YtjfkkokeegpeiaaDoorRows
import Derived.Lib.Strings
import Derived.Lib.ItoaNum
import Derived.Lib.Join
import Derived.Lib.Repeat
import Derived.Lib.LaidTab
import Derived.Lib.AppendIntMem
import Derived.Lib.IndexMore
import Derived.Recover
import Derived.Shelf.Strings.Builder1
import Derived.Shelf.Strings.Builder2
import Derived.Shelf.Strings.OnBuilder
import Derived.Shelf.Small.Strs
import Derived.Shelf.Small.Wraps
import Derived.Shelf.Strings.BuilderF
import Derived.Shelf.Strings.BuilderK
import Derived.Shelf.Strings.Builder2Cap
import Derived.Shelf.Strconv.Itoa0
import Derived.Shelf.Strconv.Itoa1
import Derived.Shelf.LaysM
import Derived.Shelf.Strconv.Itoa2
import Derived.Shelf.Strconv.Itoa3
import Derived.Shelf.Strings.Search1
import Derived.Shelf.Strings.Search2
import Derived.Shelf.Strings.Search3
import Derived.Shelf.Strings.Shaped
import Derived.Shelf.Strings.Prefix
import Derived.Shelf.Bits.Mul64
import Derived.Shelf.Strings.Repeat
import Derived.Shelf.Strings.BuilderCap
import Derived.Test.YtjfkkokeegpeiaaDoorCards
import Derived.Test.YtjfkkokeegpeiaaDoorTie
import Derived.Deep.DeepHandedRow
import Derived.Deep.DeepWitnessRowRef
import Derived.LaidMore
/- The environment of this seat: variables of the packages, library functions by contract. -/
set_option linter.unusedSimpArgs false
set_option linter.unusedVariables false
set_option linter.unusedSimpArgs false
set_option linter.unusedVariables false
namespace Go.Proofs.YtjfkkokeegpeiaaDoor
open Go Go.Am
abbrev i64(n:Int):V:=.sc (.int .i64 n)
abbrev bo(b:Bool):V:=.sc (.bool b)
abbrev st(s:ByteArray):V:=.sc (.string s)
def tabL:List (List V):=[
 [.sc (.string ⟨#[74]⟩),i64 1,i64 1,i64 0,i64 0,i64 0,i64 0],
 [.sc (.string ⟨#[107,74]⟩),i64 1000,i64 1,i64 0,i64 0,i64 0,i64 0],
 [.sc (.string ⟨#[87,104]⟩),i64 3600,i64 1,i64 0,i64 0,i64 0,i64 0],
 [.sc (.string ⟨#[66]⟩),i64 1,i64 0,i64 1,i64 0,i64 0,i64 0],
 [.sc (.string ⟨#[107,66]⟩),i64 1000,i64 0,i64 1,i64 0,i64 0,i64 0],
 [.sc (.string ⟨#[115]⟩),i64 1,i64 0,i64 0,i64 1,i64 0,i64 0],
 [.sc (.string ⟨#[109,105,110]⟩),i64 60,i64 0,i64 0,i64 1,i64 0,i64 0],
 [.sc (.string ⟨#[104]⟩),i64 3600,i64 0,i64 0,i64 1,i64 0,i64 0],
 [.sc (.string ⟨#[100,101,103]⟩),i64 1,i64 0,i64 0,i64 0,i64 1,i64 0],
 [.sc (.string ⟨#[75]⟩),i64 1,i64 0,i64 0,i64 0,i64 0,i64 1],
 [.sc (.string ⟨#[87]⟩),i64 1,i64 1,i64 0,i64 (-1),i64 0,i64 0],
 [.sc (.string ⟨#[107,87]⟩),i64 1000,i64 1,i64 0,i64 (-1),i64 0,i64 0],
 [.sc (.string ⟨#[66,112,115]⟩),i64 1,i64 0,i64 1,i64 (-1),i64 0,i64 0]]
def tabV:V:=.ro 7 13 (fun j=>tabL.getD j [])
def globF:Nat→Option (List V)
 |0=>some [tabV]
 |_=>none
def strL:List (List V)→Option (List ByteArray)
 | []=>some []
 | [.sc (.string s)]::l=>match strL l with|some r=>some (s::r) |none=>none
 |_=>none
def extF(f:FuncId)(args:List V):Option V:=
 if f=59 then match args with
  | [.sc (.string s),.sc (.string sub)]=>if s.size<4294967281 then some (bo (Lib.contains s.data.toList sub.data.toList))else none
  |_=>none
 else if f=43 then match args with
  | [.sc (.string s),.sc (.int .u8 c)]=>some (i64 (Lib.indexByte s.data.toList (UInt8.ofNat c.toNat)))
  |_=>none
 else if f=54 then match args with
  | [.sc (.int .i64 n)]=>if-9223372036854775808≤n∧n≤9223372036854775807 then some (st ⟨(Lib.itoa n).toArray⟩)else none
  |_=>none
 else if f=21 then match args with
  | [.sc (.slice none 0 0),.sc (.string _)]=>some (st ByteArray.empty)
  | [.ro 1 n g,.sc (.string sep)]=>match strL ((List.range n).map g)with
   |some xs=>if(Lib.join (xs.map (·.data.toList)) sep.data.toList).length≤140737488355328∧n≤140737488355328 then some (st ⟨(Lib.join (xs.map (·.data.toList)) sep.data.toList).toArray⟩)else none
   |none=>none
  |_=>none
 else if f=38 then match args with
  | [.sc (.string s),.sc (.int .i64 c)]=>if 0≤c∧c≤1000∧s.size≤1000 then some (st ⟨(Lib.repeatL s.data.toList c.toNat).toArray⟩)else none
  |_=>none
 else none
def way(a b:Nat):Am.Way:=if b∈[19,35,36,48,60,61,62,63,64,65,66,67,79,81,86,87]then .giveM else if b∈[8,13]then .give else if b∈[11,21]then .lend else .plain
def litF(f:FuncId):Bool:=false
def dfnF(f:FuncId):Bool:=f==8
def idleF(f:FuncId):Option Nat:=if f=17 then some 3 else none
open Go.RowKit
noncomputable def E:Env:={P:=Tryd.prog,glob:=globF,ext:=extF,way:=way,lit:=litF,code:=fun f=>(Tryd.prog.funcs[f]?).bind annF,inv:=[(1,intCell .i64),(2,allCells (Lib.pow10Tab.map fun z=>Value.int .u64 z).toArray)],dfn:=dfnF,idle:=idleF,rows:=true,sett:=fun _=>true}
noncomputable def E0:Env:={P:=Tryd.prog,glob:=fun _=>none,ext:=fun _ _=>none,way:=fun _ _=>.plain,lit:=fun _=>false,code:=fun f=>(Tryd.prog.funcs[f]?).bind annF}
noncomputable def rest65:ACode:=match E0.code 17 with|some (.seq _ b)=>b|_=>.skip
def fr65:List V:=[.junk,.junk,.junk,.sc .nilIface]++List.replicate 2 (.sc undef)++[.sc .nilIface]++List.replicate 13 (.sc undef)
def T0:CallT:=fun _ _ _ _=>none
def L0:LoopT:=fun _ _ _ _ _=>none
def isNormal:Ex→Bool| .normal=>true|_=>false
theorem run65:execK E0 T0 L0 rest65 {fr:=fr65,H:=hp [],nx:=0,rt:=0,me:=17} (fun e _=>if isNormal e then some (.c (.pan .junk))else none)=some (.c (.pan .junk)):=by kernel_rfl
theorem body65(a:Act)(w:World)(hd:a.defers=[])(ht:denL (fun _=>none) (fun _=>False) w (fun _=>False) fr65 a.tmps.toList):Code.wp Tryd.prog rest65.erase (fun e a' w'=>e= .normal∧a'.defers=[]∧Below w.heap.size w w') a w:=by
 obtain⟨e,s',h1,h2⟩:=exec_sound (E:=E0) (ca:=T0) (lo:=L0) (fun _ _ _ _ _ h=>by cases h) (SoundX.none fun _ _=>rfl) (fun _ _ _ _ _ _ h=>by cases h) rest65 _ _ _ run65
 split at h1
 case isFalse=>cases h1
 rename_i he
 have he:e= .normal:=by cases e<;>simp_all [isNormal]
 subst he
 refine wp_mono (h2 (fun _=>none) (fun _=>False) (fun _=>False) a w ⟨ht,⟨fun i c hc=>(by simp[hp]at hc),fun _ _=>rfl,fun i b m h=>(by cases h),fun i b m h=>(by cases h),fun i j b m m' h=>(by cases h),fun b hb=>hb.elim⟩,⟨fun _=>hd,fun d h=>(by rw[hd]at h;cases h),fun h=>nomatch (show true=false from h)⟩,fun i hi=>hi.elim,⟨fun g cs h=>(by cases h),fun p hp=>(by cases hp)⟩,fun i hi=>absurd hi (Nat.not_lt_zero i)⟩) fun e' a' w' hp=>?_
 obtain⟨β',S',D',q1,q2,q3,q4,q5,q6⟩:=hp.ex
 cases e'<;>simp only[ExR]at q1
 exact⟨rfl,q2.df.1 rfl,below_of_evo q3⟩
theorem idle65 : Idle Tryd.prog 17 3 := by
  intro us w hus
  refine ⟨?_, ?_⟩
  · have hb : ∃ fn, Tryd.prog.funcs[17]? = some fn ∧ fn.body.isSome = true ∧ fn.name ≠ "runtime.NumGoroutine" := ⟨_, Tryd.func17, by kernel_rfl, by intro e; exact absurd e (by decide +kernel)⟩
    obtain ⟨fn, h1, h2, h3⟩ := hb
    have hb : ¬ fn.body = none := by intro hb; rw [hb] at h2; cases h2
    simp [callFunc, Sem.run_bind, h1, h3, hb, program, Sem.run]
  · match us, hus with
    | ⟨[x, y, z]⟩, _ =>
      refine callsD_of_wpS Tryd.func17 rfl fun c₀ cs hu => ?_
      apply wpS_seq
      apply wpS_region
      simp [wpOpsS, go_sem, recoverD, hu, Tryd.ntmps17, Exit.thenS]
      refine wpS_of_wp ?_
      refine (congrArg (fun c => Code.wp Tryd.prog c _ _ _) (?_ : rest65.erase = _)).mp (wp_mono (body65 _ w rfl ?_) ?_)
      · kernel_rfl
      · simp [fr65, denL, den]
        exact ⟨_, _, ⟨rfl, rfl⟩, _, _, rfl, _, rfl⟩
      · rintro e a' w' ⟨rfl, hd, hb⟩
        refine ⟨hd, _, ?_, _, by simp [results, Tryd.results17, go_sem]; rfl, ⟨_, rfl⟩, rfl, hb⟩
        cases c₀; simp_all
set_option maxRecDepth 100000 in
theorem hW:WF E:=WF.of E (fun _=>rfl) (by kernel_rfl) (fun g n h=>by
 have h':idleF g=some n:=h
 unfold idleF at h'
 split at h'
 ·rename_i hg;subst hg;cases h';exact idle65
 ·cases h')
end Go.Proofs.YtjfkkokeegpeiaaDoor
/-
 DERIVED: THE SHELF's CONTRACTS AT THIS DUMP, IN PLAIN WORDS (tools/lay-plain.mjs out of 'TrydShelf.lean', which tools/lay-shelf.mjs wrote): THE SAME DECLARATIONS UNDER THE SAME NAMES: 'import', 'namespace', 'open', 'def', 'theorem' AND NOTHING ELSE: no command of the shelf's: FOR A HAND-IN. Each laying: the table of numbers ('.._ren') and one theorem, a field a fact of the dump's own or the kernel's comparison; each contract: ONE APPLICATION.
-/
namespace Go.Proofs
open Go.Shelf
open Go.RowKit in
def Tryd.lays169_ren:Go.Shelf.Ren:=⟨fun|169=>23|n=>n,fun|70=>59|9=>9|0=>0|72=>62|37=>60|127=>89|3=>3|5=>5|n=>n,fun|n=>n⟩
theorem Tryd.lays169:Go.Proofs.Lays.n169 Tryd.prog Tryd.lays169_ren:={
 mixed:=by kernel_rfl
 f169:=Tryd.func23.trans (congrArg some (by kernel_rfl))
 t0:=Tryd.underlying0
 a0:=Tryd.isAgg0
 z0:=Tryd.sizeOf0
 v0:=Tryd.zeroValue0
 t3:=Tryd.underlying3
 a3:=Tryd.isAgg3
 z3:=Tryd.sizeOf3
 v3:=Tryd.zeroValue3
 t9:=Tryd.underlying9
 a9:=Tryd.isAgg9
 z9:=Tryd.sizeOf9
 v9:=Tryd.zeroValue9
 t37:=Tryd.underlying60
 a37:=Tryd.isAgg60
 z37:=Tryd.sizeOf60
 v37:=Tryd.zeroValue60
 t70:=Tryd.underlying59
 a70:=Tryd.isAgg59
 z70:=Tryd.sizeOf59
 v70:=Tryd.zeroValue59
 t72:=Tryd.underlying62
 a72:=Tryd.isAgg62
 z72:=Tryd.sizeOf62
 v72:=Tryd.zeroValue62
 t127:=Tryd.underlying89
 a127:=Tryd.isAgg89
 z127:=Tryd.sizeOf89
 v127:=Tryd.zeroValue89}
open Go.RowKit in
open Go.RowKit in
open Go.RowKit in
open Go.RowKit in
open Go.RowKit in
def Tryd.lays156_ren:Go.Shelf.Ren:=⟨fun|156=>21|165=>40|166=>37|169=>23|240=>49|241=>53|276=>68|277=>72|n=>n,fun|31=>54|9=>9|3=>3|4=>4|0=>0|20=>20|72=>62|76=>84|70=>59|37=>60|75=>83|127=>89|164=>97|5=>5|80=>68|n=>n,fun|n=>n⟩
theorem Tryd.lays156:Go.Proofs.Lays.n156 Tryd.prog Tryd.lays156_ren:={
 mixed:=by kernel_rfl
 f156:=Tryd.func21.trans (congrArg some (by kernel_rfl))
 f165:=Tryd.func40.trans (congrArg some (by kernel_rfl))
 f166:=Tryd.func37.trans (congrArg some (by kernel_rfl))
 f169:=Tryd.func23.trans (congrArg some (by kernel_rfl))
 f240:=Tryd.func49.trans (congrArg some (by kernel_rfl))
 f241:=Tryd.func53.trans (congrArg some (by kernel_rfl))
 f276:=Tryd.func68.trans (congrArg some (by kernel_rfl))
 f277:=Tryd.func72.trans (congrArg some (by kernel_rfl))
 t0:=Tryd.underlying0
 a0:=Tryd.isAgg0
 z0:=Tryd.sizeOf0
 v0:=Tryd.zeroValue0
 t3:=Tryd.underlying3
 a3:=Tryd.isAgg3
 z3:=Tryd.sizeOf3
 v3:=Tryd.zeroValue3
 t4:=Tryd.underlying4
 a4:=Tryd.isAgg4
 z4:=Tryd.sizeOf4
 v4:=Tryd.zeroValue4
 t9:=Tryd.underlying9
 a9:=Tryd.isAgg9
 z9:=Tryd.sizeOf9
 v9:=Tryd.zeroValue9
 t20:=Tryd.underlying20
 a20:=Tryd.isAgg20
 z20:=Tryd.sizeOf20
 v20:=Tryd.zeroValue20
 t31:=Tryd.underlying54
 a31:=Tryd.isAgg54
 z31:=Tryd.sizeOf54
 v31:=Tryd.zeroValue54
 t37:=Tryd.underlying60
 a37:=Tryd.isAgg60
 z37:=Tryd.sizeOf60
 v37:=Tryd.zeroValue60
 t70:=Tryd.underlying59
 a70:=Tryd.isAgg59
 z70:=Tryd.sizeOf59
 v70:=Tryd.zeroValue59
 t72:=Tryd.underlying62
 a72:=Tryd.isAgg62
 z72:=Tryd.sizeOf62
 v72:=Tryd.zeroValue62
 t75:=Tryd.underlying83
 a75:=Tryd.isAgg83
 z75:=Tryd.sizeOf83
 v75:=Tryd.zeroValue83
 t76:=Tryd.underlying84
 a76:=Tryd.isAgg84
 z76:=Tryd.sizeOf84
 v76:=Tryd.zeroValue84
 t127:=Tryd.underlying89
 a127:=Tryd.isAgg89
 z127:=Tryd.sizeOf89
 v127:=Tryd.zeroValue89
 t164:=Tryd.underlying97
 a164:=Tryd.isAgg97
 z164:=Tryd.sizeOf97
 v164:=Tryd.zeroValue97}
theorem Tryd.Builder_Extra_156:Builder.Extra Tryd.prog Tryd.lays156_ren:={
 sizeBuilder:=by kernel_rfl
 liesBuilder:=by kernel_rfl
 t5:=Tryd.underlying5
 a5:=Tryd.isAgg5
 z5:=Tryd.sizeOf5
 v5:=Tryd.zeroValue5
 infoByte:=by kernel_rfl
 cellsByte:=by kernel_rfl
 sizeByte:=by kernel_rfl
 neB5:=by decide}
open Go.RowKit in
theorem Tryd.strings_Join_none(a:Option Addr)(c:Nat)(sep:ByteArray)(w:World):
 Calls Tryd.prog 21 #[.slice a 0 c,.string sep] w fun e w'=>e= .returned (.string ⟨#[]⟩)∧w'=w:=Any.strings_Join_none Tryd.lays156 Tryd.Builder_Extra_156 a c sep w
open Go.RowKit in
theorem Tryd.strings_Join(bk o c:Nat)(xs:List ByteArray)(sep:ByteArray)(w:World)(hcells:∀(j:Nat) x,xs[j]? =some x→w.cell? ⟨bk,o+j,none⟩=some (.string x))(hbk:bk<w.heap.size)(hN:xs.length≤140737488355328)(hcap:xs.length≤c)(hlen:(Lib.join (xs.map (·.data.toList)) sep.data.toList).length≤140737488355328):
 Calls Tryd.prog 21 #[.slice (some ⟨bk,o,none⟩) xs.length c,.string sep] w fun e w'=>e= .returned (.string ⟨(Lib.join (xs.map (·.data.toList)) sep.data.toList).toArray⟩)∧Below w.heap.size w w':=Any.strings_Join Tryd.lays156 Tryd.Builder_Extra_156 bk o c xs sep w hcells hbk hN hcap hlen
def Tryd.lays137_ren:Go.Shelf.Ren:=⟨fun|137=>43|217=>57|266=>77|n=>n,fun|9=>9|5=>5|3=>3|n=>n,fun|n=>n⟩
theorem Tryd.lays137:Go.Proofs.Lays.n137 Tryd.prog Tryd.lays137_ren:={
 mixed:=by kernel_rfl
 f137:=Tryd.func43.trans (congrArg some (by kernel_rfl))
 f217:=Tryd.func57.trans (congrArg some (by kernel_rfl))
 f266:=Tryd.func77.trans (congrArg some (by kernel_rfl))
 t3:=Tryd.underlying3
 a3:=Tryd.isAgg3
 z3:=Tryd.sizeOf3
 v3:=Tryd.zeroValue3
 t5:=Tryd.underlying5
 a5:=Tryd.isAgg5
 z5:=Tryd.sizeOf5
 v5:=Tryd.zeroValue5
 t9:=Tryd.underlying9
 a9:=Tryd.isAgg9
 z9:=Tryd.sizeOf9
 v9:=Tryd.zeroValue9}
open Go.RowKit in
theorem Tryd.strings_IndexByte(s:ByteArray)(c:Int)(w:World):
 Calls Tryd.prog 43 #[.string s,.int .u8 c] w fun e w'=>e= .returned (.int .i64 (Lib.indexByte s.data.toList c.toNat.toUInt8))∧w'=w:=Any.strings_IndexByte Tryd.lays137 s c w
open Go.RowKit in
open Go.RowKit in
open Go.RowKit in
open Go.RowKit in
open Go.RowKit in
open Go.RowKit in
open Go.RowKit in
open Go.RowKit in
open Go.RowKit in
open Go.RowKit in
open Go.RowKit in
open Go.Lib in
open Go.Lib in
open Go.Lib in
open Go.Lib in
open Go.RowKit Go.Sort Go.Lib in
open Go.RowKit Go.Sort Go.Lib in
open Go.RowKit Go.Sort Go.Lib in
open Go.RowKit Go.Sort Go.Lib in
open Go.RowKit Go.Sort Go.Lib in
def Tryd.laysM171_ren:Go.Shelf.Ren:=⟨fun|171=>54|243=>73|246=>82|283=>88|284=>89|285=>90|286=>91|129=>96|317=>95|318=>97|319=>98|320=>99|337=>101|338=>102|n=>n,fun|3=>3|9=>9|2=>2|4=>4|171=>115|0=>0|53=>102|37=>60|5=>5|173=>118|212=>122|51=>99|20=>20|213=>123|46=>91|232=>128|233=>129|n=>n,fun|17=>2|18=>3|19=>4|n=>n⟩
theorem Tryd.laysM171:Go.Proofs.LaysM.n171 Tryd.prog Tryd.laysM171_ren:={
 mixed:=by kernel_rfl
 f129:=Tryd.func96.trans (congrArg some (by kernel_rfl))
 f171:=Tryd.func54.trans (congrArg some (by kernel_rfl))
 f243:=Tryd.func73.trans (congrArg some (by kernel_rfl))
 f246:=Tryd.func82.trans (congrArg some (by kernel_rfl))
 f283:=Tryd.func88.trans (congrArg some (by kernel_rfl))
 f284:=Tryd.func89.trans (congrArg some (by kernel_rfl))
 f285:=Tryd.func90.trans (congrArg some (by kernel_rfl))
 f286:=Tryd.func91.trans (congrArg some (by kernel_rfl))
 f317:=Tryd.func95.trans (congrArg some (by kernel_rfl))
 f318:=Tryd.func97.trans (congrArg some (by kernel_rfl))
 f319:=Tryd.func98.trans (congrArg some (by kernel_rfl))
 f320:=Tryd.func99.trans (congrArg some (by kernel_rfl))
 f337:=Tryd.func101.trans (congrArg some (by kernel_rfl))
 f338:=Tryd.func102.trans (congrArg some (by kernel_rfl))
 t0:=Tryd.underlying0
 a0:=Tryd.isAgg0
 z0:=Tryd.sizeOf0
 v0:=Tryd.zeroValue0
 t2:=Tryd.underlying2
 a2:=Tryd.isAgg2
 z2:=Tryd.sizeOf2
 v2:=Tryd.zeroValue2
 t3:=Tryd.underlying3
 a3:=Tryd.isAgg3
 z3:=Tryd.sizeOf3
 v3:=Tryd.zeroValue3
 t4:=Tryd.underlying4
 a4:=Tryd.isAgg4
 z4:=Tryd.sizeOf4
 v4:=Tryd.zeroValue4
 t5:=Tryd.underlying5
 a5:=Tryd.isAgg5
 z5:=Tryd.sizeOf5
 v5:=Tryd.zeroValue5
 t9:=Tryd.underlying9
 a9:=Tryd.isAgg9
 z9:=Tryd.sizeOf9
 v9:=Tryd.zeroValue9
 t20:=Tryd.underlying20
 a20:=Tryd.isAgg20
 z20:=Tryd.sizeOf20
 v20:=Tryd.zeroValue20
 t37:=Tryd.underlying60
 a37:=Tryd.isAgg60
 z37:=Tryd.sizeOf60
 v37:=Tryd.zeroValue60
 t46:=Tryd.underlying91
 a46:=Tryd.isAgg91
 z46:=Tryd.sizeOf91
 v46:=Tryd.zeroValue91
 t51:=Tryd.underlying99
 a51:=Tryd.isAgg99
 z51:=Tryd.sizeOf99
 v51:=Tryd.zeroValue99
 t53:=Tryd.underlying102
 a53:=Tryd.isAgg102
 z53:=Tryd.sizeOf102
 v53:=Tryd.zeroValue102
 t171:=Tryd.underlying115
 a171:=Tryd.isAgg115
 z171:=Tryd.sizeOf115
 v171:=Tryd.zeroValue115
 t173:=Tryd.underlying118
 a173:=Tryd.isAgg118
 z173:=Tryd.sizeOf118
 v173:=Tryd.zeroValue118
 t212:=Tryd.underlying122
 a212:=Tryd.isAgg122
 z212:=Tryd.sizeOf122
 v212:=Tryd.zeroValue122
 t213:=Tryd.underlying123
 a213:=Tryd.isAgg123
 z213:=Tryd.sizeOf123
 t232:=Tryd.underlying128
 a232:=Tryd.isAgg128
 z232:=Tryd.sizeOf128
 v232:=Tryd.zeroValue128
 t233:=Tryd.underlying129
 a233:=Tryd.isAgg129
 z233:=Tryd.sizeOf129
 v233:=Tryd.zeroValue129
 g17:=by kernel_rfl
 g18:=by kernel_rfl
 g19:=by kernel_rfl
 i0:=by kernel_rfl
 i2:=by kernel_rfl
 i3:=by kernel_rfl
 i4:=by kernel_rfl
 i5:=by kernel_rfl
 i9:=by kernel_rfl
 i20:=by kernel_rfl
 i37:=by kernel_rfl
 i46:=by kernel_rfl
 i51:=by kernel_rfl
 i53:=by kernel_rfl
 i171:=by kernel_rfl
 i173:=by kernel_rfl
 i212:=by kernel_rfl
 i232:=by kernel_rfl
 i233:=by kernel_rfl
 m17:=by kernel_rfl
 m18:=by kernel_rfl
 m19:=by kernel_rfl}
open Go.RowKit Go.Sort Go.Lib in
theorem Tryd.strconv_Itoa (n : Int) (h0 : -9223372036854775808 ≤ n) (h1 : n ≤ 9223372036854775807) (w : World) (htab : Lib.TabIs Tryd.prog w "internal/strconv.uint64pow10" .u64 Lib.pow10Tab) :
    Calls Tryd.prog 54 #[.int .i64 n] w fun e w' => e = .returned (.string ⟨(Lib.itoa n).toArray⟩) ∧ ∃ k os, w' = grow (w.drewN k) os := Any.strconv_Itoa Tryd.laysM171 n h0 h1 w htab
open Go.RowKit Go.Sort Go.Lib in
open Go.RowKit Go.Lib in
open Go.RowKit Go.Lib in
open Go.RowKit Go.Lib in
open Go.RowKit Go.Lib in
open Go.RowKit Go.Lib in
open Go.RowKit Go.Lib in
open Go.RowKit Go.Lib in
open Go.RowKit Go.Lib in
def Tryd.lays144_ren:Go.Shelf.Ren:=⟨fun|144=>59|143=>78|219=>85|217=>57|225=>92|224=>93|267=>94|266=>77|314=>100|n=>n,fun|9=>9|4=>4|3=>3|5=>5|46=>91|146=>100|51=>99|n=>n,fun|1=>1|n=>n⟩
theorem Tryd.lays144:Go.Proofs.Lays.n144 Tryd.prog Tryd.lays144_ren:={
 mixed:=by kernel_rfl
 f143:=Tryd.func78.trans (congrArg some (by kernel_rfl))
 f144:=Tryd.func59.trans (congrArg some (by kernel_rfl))
 f217:=Tryd.func57.trans (congrArg some (by kernel_rfl))
 f219:=Tryd.func85.trans (congrArg some (by kernel_rfl))
 f224:=Tryd.func93.trans (congrArg some (by kernel_rfl))
 f225:=Tryd.func92.trans (congrArg some (by kernel_rfl))
 f266:=Tryd.func77.trans (congrArg some (by kernel_rfl))
 f267:=Tryd.func94.trans (congrArg some (by kernel_rfl))
 f314:=Tryd.func100.trans (congrArg some (by kernel_rfl))
 t3:=Tryd.underlying3
 a3:=Tryd.isAgg3
 z3:=Tryd.sizeOf3
 v3:=Tryd.zeroValue3
 t4:=Tryd.underlying4
 a4:=Tryd.isAgg4
 z4:=Tryd.sizeOf4
 v4:=Tryd.zeroValue4
 t5:=Tryd.underlying5
 a5:=Tryd.isAgg5
 z5:=Tryd.sizeOf5
 v5:=Tryd.zeroValue5
 t9:=Tryd.underlying9
 a9:=Tryd.isAgg9
 z9:=Tryd.sizeOf9
 v9:=Tryd.zeroValue9
 t46:=Tryd.underlying91
 a46:=Tryd.isAgg91
 z46:=Tryd.sizeOf91
 v46:=Tryd.zeroValue91
 t51:=Tryd.underlying99
 a51:=Tryd.isAgg99
 z51:=Tryd.sizeOf99
 v51:=Tryd.zeroValue99
 t146:=Tryd.underlying100
 a146:=Tryd.isAgg100
 z146:=Tryd.sizeOf100
 v146:=Tryd.zeroValue100
 g1:=by kernel_rfl}
open Go.RowKit Go.Lib in
open Go.RowKit Go.Lib in
theorem Tryd.strings_Contains(s sub:ByteArray)(m:Int)(w:World)(hs:s.size<4294967281)(hm:w.cell? ⟨1,0,none⟩=some (.int .i64 m)):
 Calls Tryd.prog 59 #[.string s,.string sub] w fun e w'=>e= .returned (.bool (Lib.contains s.data.toList sub.data.toList))∧w'=w:=Any.strings_Contains Tryd.lays144 s sub m w hs hm
open Go.RowKit Go.Lib in
open Go.RowKit Go.Lib in
open Go.RowKit Go.Lib in
open Go.RowKit Go.Lib in
open Go.RowKit Go.Lib in
open Go.RowKit Go.Lib in
open Go.RowKit Go.Lib in
def Tryd.lays105_ren:Go.Shelf.Ren:=⟨fun|105=>38|212=>50|99=>51|165=>40|166=>37|170=>52|169=>23|263=>69|264=>70|206=>71|240=>49|241=>53|276=>68|277=>72|n=>n,fun|9=>9|3=>3|4=>4|20=>20|0=>0|46=>91|109=>92|5=>5|72=>62|76=>84|51=>99|146=>100|53=>102|148=>103|70=>59|37=>60|75=>83|127=>89|164=>97|80=>68|n=>n,fun|n=>n⟩
theorem Tryd.lays105:Go.Proofs.Lays.n105 Tryd.prog Tryd.lays105_ren:={
 mixed:=by kernel_rfl
 f99:=Tryd.func51.trans (congrArg some (by kernel_rfl))
 f105:=Tryd.func38.trans (congrArg some (by kernel_rfl))
 f165:=Tryd.func40.trans (congrArg some (by kernel_rfl))
 f166:=Tryd.func37.trans (congrArg some (by kernel_rfl))
 f169:=Tryd.func23.trans (congrArg some (by kernel_rfl))
 f170:=Tryd.func52.trans (congrArg some (by kernel_rfl))
 f206:=Tryd.func71.trans (congrArg some (by kernel_rfl))
 f212:=Tryd.func50.trans (congrArg some (by kernel_rfl))
 f240:=Tryd.func49.trans (congrArg some (by kernel_rfl))
 f241:=Tryd.func53.trans (congrArg some (by kernel_rfl))
 f263:=Tryd.func69.trans (congrArg some (by kernel_rfl))
 f264:=Tryd.func70.trans (congrArg some (by kernel_rfl))
 f276:=Tryd.func68.trans (congrArg some (by kernel_rfl))
 f277:=Tryd.func72.trans (congrArg some (by kernel_rfl))
 t0:=Tryd.underlying0
 a0:=Tryd.isAgg0
 z0:=Tryd.sizeOf0
 v0:=Tryd.zeroValue0
 t3:=Tryd.underlying3
 a3:=Tryd.isAgg3
 z3:=Tryd.sizeOf3
 v3:=Tryd.zeroValue3
 t4:=Tryd.underlying4
 a4:=Tryd.isAgg4
 z4:=Tryd.sizeOf4
 v4:=Tryd.zeroValue4
 t5:=Tryd.underlying5
 a5:=Tryd.isAgg5
 z5:=Tryd.sizeOf5
 v5:=Tryd.zeroValue5
 t9:=Tryd.underlying9
 a9:=Tryd.isAgg9
 z9:=Tryd.sizeOf9
 v9:=Tryd.zeroValue9
 t20:=Tryd.underlying20
 a20:=Tryd.isAgg20
 z20:=Tryd.sizeOf20
 v20:=Tryd.zeroValue20
 t37:=Tryd.underlying60
 a37:=Tryd.isAgg60
 z37:=Tryd.sizeOf60
 v37:=Tryd.zeroValue60
 t46:=Tryd.underlying91
 a46:=Tryd.isAgg91
 z46:=Tryd.sizeOf91
 v46:=Tryd.zeroValue91
 t51:=Tryd.underlying99
 a51:=Tryd.isAgg99
 z51:=Tryd.sizeOf99
 v51:=Tryd.zeroValue99
 t53:=Tryd.underlying102
 a53:=Tryd.isAgg102
 z53:=Tryd.sizeOf102
 v53:=Tryd.zeroValue102
 t70:=Tryd.underlying59
 a70:=Tryd.isAgg59
 z70:=Tryd.sizeOf59
 v70:=Tryd.zeroValue59
 t72:=Tryd.underlying62
 a72:=Tryd.isAgg62
 z72:=Tryd.sizeOf62
 v72:=Tryd.zeroValue62
 t75:=Tryd.underlying83
 a75:=Tryd.isAgg83
 z75:=Tryd.sizeOf83
 v75:=Tryd.zeroValue83
 t76:=Tryd.underlying84
 a76:=Tryd.isAgg84
 z76:=Tryd.sizeOf84
 v76:=Tryd.zeroValue84
 t109:=Tryd.underlying92
 a109:=Tryd.isAgg92
 z109:=Tryd.sizeOf92
 v109:=Tryd.zeroValue92
 t127:=Tryd.underlying89
 a127:=Tryd.isAgg89
 z127:=Tryd.sizeOf89
 v127:=Tryd.zeroValue89
 t146:=Tryd.underlying100
 a146:=Tryd.isAgg100
 z146:=Tryd.sizeOf100
 v146:=Tryd.zeroValue100
 t148:=Tryd.underlying103
 a148:=Tryd.isAgg103
 z148:=Tryd.sizeOf103
 v148:=Tryd.zeroValue103
 t164:=Tryd.underlying97
 a164:=Tryd.isAgg97
 z164:=Tryd.sizeOf97
 v164:=Tryd.zeroValue97}
theorem Tryd.Builder_Extra_105:Builder.Extra Tryd.prog Tryd.lays105_ren:={
 sizeBuilder:=by kernel_rfl
 liesBuilder:=by kernel_rfl
 t5:=Tryd.underlying5
 a5:=Tryd.isAgg5
 z5:=Tryd.sizeOf5
 v5:=Tryd.zeroValue5
 infoByte:=by kernel_rfl
 cellsByte:=by kernel_rfl
 sizeByte:=by kernel_rfl
 neB5:=by decide}
open Go.RowKit Go.Lib in
open Go.RowKit Go.Lib in
open Go.RowKit Go.Lib in
open Go.RowKit Go.Lib in
open Go.RowKit Go.Lib in
open Go.RowKit Go.Lib in
open Go.RowKit Go.Lib in
theorem Tryd.strings_Repeat(s:ByteArray)(c:Nat)(w:World)(hc:c≤9223372036854775807)(hlen:s.size*c≤140737488355328):
 Calls Tryd.prog 38 #[.string s,.int .i64 c] w fun e w'=>e= .returned (.string ⟨(Lib.repeatL s.data.toList c).toArray⟩)∧Below w.heap.size w w':=Any.strings_Repeat Tryd.lays105 Tryd.Builder_Extra_105 s c w hc hlen
end Go.Proofs
/- The library's contracts, as the environment has them; the examples hold. -/
namespace Go.Proofs.YtjfkkokeegpeiaaDoor
open Go Go.Am Go.RowKit
theorem strL_spec:∀{l:List (List V)} {xs:List ByteArray},strL l=some xs→l=xs.map fun x=>[V.sc (.string x)]
 | [],xs,h=>by simp only[strL,Option.some.injEq]at h;subst h;rfl
 | []::l,xs,h=>by simp[strL]at h
 | [a]::l,xs,h=>by
  cases a<;>try (simp[strL]at h;done)
  rename_i v
  cases v<;>try (simp[strL]at h;done)
  rename_i s
  simp only[strL]at h
  split at h
  ·rename_i r hr
   simp only[Option.some.injEq]at h
   subst h
   rw[strL_spec hr]
   rfl
  ·cases h
 | (a::b::c)::l,xs,h=>by
  have:strL ((a::b::c)::l)=none:=by cases a with|sc v=>(cases v<;>rfl) |_=>rfl
  rw[this]at h
  cases h
theorem cellAt{W:World}{a:Addr}{x:Value}(h:W.cell? a=some x):a=⟨a.block,a.off,none⟩:=by
 unfold World.cell? at h
 split at h
 ·split at h
  ·cases h
  ·rename_i hs
   obtain⟨b,o,s⟩:=a
   cases s with
   |none=>rfl
   |some q=>exact absurd rfl hs
 ·cases h
theorem maxLen_at{S:Pr}{w:World}(hG:Glob E S w):∃m,w.cell? ⟨1,0,none⟩=some (.int .i64 m):=by
 obtain⟨_,x,h1,h2⟩:=hG.inv (1,intCell .i64) (by simp[E])
 exact intCell_cell h1 h2
theorem g2 : Tryd.prog.globalNamed "internal/strconv.uint64pow10" = some 2 := by kernel_rfl
theorem pow_at {S : Pr} {w : World} (hG : Glob E S w) : Lib.TabIs Tryd.prog w "internal/strconv.uint64pow10" .u64 Lib.pow10Tab := by
  obtain ⟨_, x, h1, h2⟩ := hG.inv (2, allCells (Lib.pow10Tab.map fun z => Value.int .u64 z).toArray) (by simp [E])
  exact allCells_var g2 h1 h2
theorem hX:SoundX E:=by
 intro f args v h
 have h':extF f args=some v:=h
 unfold extF at h'
 split at h'
 ·rename_i hf;subst hf
  split at h'
  ·rename_i s sub
   split at h'
   ·rename_i hn
    cases h'
    refine⟨⟨_,Tryd.func59,by kernel_rfl,by intro e;exact absurd e (by decide+kernel)⟩,rfl,fun β S D w us hd hG hS=>?_⟩
    obtain rfl:us=[.string s,.string sub]:=by simpa[denL,den]using hd
    obtain⟨m,hm⟩:=maxLen_at hG
    refine(Tryd.strings_Contains s sub m w hn hm).mono ?_
    rintro e w' ⟨rfl,rfl⟩
    exact⟨_,S,rfl,Below.refl _ _,by simp only[den],fun _ h=>h,fun _ h=>.inl h⟩
   ·cases h'
  ·cases h'
 split at h'
 ·rename_i hf;subst hf
  split at h'
  ·rename_i s c
   cases h'
   refine⟨⟨_,Tryd.func43,by kernel_rfl,by intro e;exact absurd e (by decide+kernel)⟩,rfl,fun β S D w us hd hG hS=>?_⟩
   obtain rfl:us=[.string s,.int .u8 c]:=by simpa[denL,den]using hd
   refine(Tryd.strings_IndexByte s c w).mono ?_
   rintro e w' ⟨rfl,rfl⟩
   exact⟨_,S,rfl,Below.refl _ _,by simp only[den],fun _ h=>h,fun _ h=>.inl h⟩
  ·cases h'
 split at h'
 ·rename_i hf;subst hf
  split at h'
  ·rename_i n
   split at h'
   ·rename_i hn
    cases h'
    refine⟨⟨_,Tryd.func54,by kernel_rfl,by intro e;exact absurd e (by decide+kernel)⟩,rfl,fun β S D w us hd hG hS=>?_⟩
    obtain rfl:us=[.int .i64 n]:=by simpa[denL,den]using hd
    refine(Tryd.strconv_Itoa n hn.1 hn.2 w (pow_at hG)).mono ?_
    rintro e w' ⟨rfl,k,os,rfl⟩
    exact⟨_,S,rfl,Lib.below_grow w.heap.size w (Nat.le_refl _) k os,by simp[den],fun _ h=>h,fun _ h=>.inl h⟩
   ·cases h'
  ·cases h'
 split at h'
 ·rename_i hf;subst hf
  split at h'
  ·rename_i sep
   cases h'
   refine⟨⟨_,Tryd.func21,by kernel_rfl,by intro e;exact absurd e (by decide+kernel)⟩,rfl,fun β S D w us hd hG hS=>?_⟩
   obtain rfl:us=[.slice none 0 0,.string sep]:=by simpa[denL,den]using hd
   refine(Tryd.strings_Join_none none 0 sep w).mono ?_
   rintro e w' ⟨rfl,rfl⟩
   exact⟨_,S,rfl,Below.refl _ _,by simp only[den];rfl,fun _ h=>h,fun _ h=>.inl h⟩
  ·rename_i n g sep
   split at h'
   ·rename_i xs hxs
    split at h'
    ·rename_i hn
     cases h'
     refine⟨⟨_,Tryd.func21,by kernel_rfl,by intro e;exact absurd e (by decide+kernel)⟩,rfl,fun β S D w us hd hG hS=>?_⟩
     simp only[denL,den]at hd
     obtain⟨u,r,rfl,⟨_,A,m,a,cs,rfl,hnm,hA,hc⟩,u2,r2,rfl,rfl,rfl⟩:=hd
     have hl:=strL_spec hxs
     have hlen:xs.length=n:=by
      have:=congrArg List.length hl
      simpa using this.symm
     have hcell:∀(j:Nat) (x:ByteArray),xs[j]? =some x→w.cell? (a.add j)=some (.string x):=by
      intro j x hj
      have hjn:j<n:=by rw[←hlen];exact(List.getElem?_eq_some_iff.1 hj).1
      obtain⟨g1,g2,g3,g4,g5⟩:=hc j hjn
      have hg:g j=[.sc (.string x)]:=by
       have:=congrArg (fun l=>l[j]?) hl
       simp only[List.getElem?_map,List.getElem?_range hjn,hj,Option.map_some,Option.some.injEq]at this
       exact this
      rw[hg]at g1
      simp only[denL,den]at g1
      obtain⟨x1,x2,h1,rfl,rfl⟩:=g1
      have:=g5 0 (.string x) (by rw[h1];rfl)
      simpa using this
     have hdone:∀(o:Option Addr),Calls Tryd.prog 21 #[.slice o n m,.string sep] w (fun e w'=>e= .returned (.string ⟨(Lib.join (xs.map (·.data.toList)) sep.data.toList).toArray⟩)∧Below w.heap.size w w')→
      Calls E.P 21 [Value.slice o n m,.string sep].toArray w fun e w'=>∃u S',e= .returned u∧Below w.heap.size w w'∧den (fun _=>none) S' w' (fun _=>False) (st ⟨(Lib.join (xs.map (·.data.toList)) sep.data.toList).toArray⟩) u∧(∀b,S b→S' b)∧∀b,S' b→S b∨(w.heap.size≤b∧b<w'.heap.size):=by
      intro o h
      refine Calls.mono h ?_
      rintro e w' ⟨rfl,hb⟩
      exact⟨_,S,rfl,hb,by simp only[den],fun _ h=>h,fun _ h=>.inl h⟩
     cases xs with
     |nil=>
      simp only[List.length_nil]at hlen
      subst hlen
      exact hdone A ((Tryd.strings_Join_none A m sep w).mono fun e w' ⟨he,hw⟩=>⟨he,hw▸Below.refl _ _⟩)
     |cons x xs=>
      have h0:0<n:=by rw[←hlen];simp
      obtain⟨rfl,hab⟩:=hA h0
      have hsp:=cellAt (a:=a) (by have:=hcell 0 x rfl;simpa[Addr.add]using this)
      refine hdone (some a) ?_
      have:=Tryd.strings_Join a.block a.off m (x::xs) sep w (fun j y hj=>by
       have:=hcell j y hj
       rw[hsp,add_lit]at this
       exact this) (hS _ hab) (by rw[hlen];exact hn.2) (by rw[hlen];exact hnm) hn.1
      rw[hlen,←hsp]at this
      exact this
    ·cases h'
   ·cases h'
  ·cases h'
 split at h'
 ·rename_i hf;subst hf
  split at h'
  ·rename_i s c
   split at h'
   ·rename_i hn
    cases h'
    refine⟨⟨_,Tryd.func38,by kernel_rfl,by intro e;exact absurd e (by decide+kernel)⟩,rfl,fun β S D w us hd hG hS=>?_⟩
    obtain rfl:us=[.string s,.int .i64 c]:=by simpa[denL,den]using hd
    obtain⟨n,rfl⟩:∃n:Nat,c=n:=⟨c.toNat,by omega⟩
    refine(Tryd.strings_Repeat s n w (by omega) (by
     have h1:n≤1000:=by omega
     exact Nat.le_trans (Nat.mul_le_mul hn.2.2 h1) (by omega))).mono ?_
    rintro e w' ⟨rfl,hb⟩
    exact⟨_,S,rfl,hb,by simp only[den];rfl,fun _ h=>h,fun _ h=>.inl h⟩
   ·cases h'
  ·cases h'
 ·cases h'
end Go.Proofs.YtjfkkokeegpeiaaDoor
/- What the rows list of the packages' variables; a world that holds it. -/
namespace Go.Proofs.YtjfkkokeegpeiaaDoor
open Go Go.Am Go.RowKit
theorem packed:packB Tryd.prog=true:=by kernel_rfl
theorem denL_scs{β:Bt}{S D:Pr}{w:World}:∀{l:List Value} {us:List Value},denL β S w D (l.map V.sc) us→us=l
 | [],us,h=>by simpa[denL]using h
 |v::l,us,h=>by
  simp only[List.map_cons,denL,den]at h
  obtain⟨x,xs,rfl,rfl,h⟩:=h
  rw[denL_scs h]
abbrev laidL:List (String×DataW Unit):=Rows.parserSpacesRow.laid
theorem laidPlain{W:World}(h:laidMetH Tryd.prog laidL W):laidMet Tryd.prog laidL W:=by
 rw[MakeChecks.laidMetH_plain _ _ _ (by kernel_rfl)]at h;exact h
theorem globAt0 : GlobAt Tryd.prog laidL 0 [tabV] := ⟨"perigee/unit.table", Rows.laid_perigee_unit_table, 74, 8, by simp [laidL, Rows.parserSpacesRow], by kernel_rfl, by kernel_rfl, of_decide_eq_true (by kernel_rfl), by kernel_rfl, by simp⟩
theorem glob_of {W : World} (h : laidMetH Tryd.prog laidL W) (hs : W.ShapedOpen Tryd.prog) : Glob E (· < W.heap.size) W := by
  have hl := laidPlain h
  refine Glob.of_laid (laid := laidL) packed hl (fun g cs hg => ?_) (fun p hp => ?_)
  · have hg' : globF g = some cs := hg
    unfold globF at hg'
    split at hg'
    · cases hg'; exact globAt0
    · cases hg'
  · simp only [E, List.mem_cons, List.mem_nil_iff, or_false] at hp
    rcases hp with rfl | rfl
    · exact intCell_of (cell_of_shapedOpen_int (t := 3) (zero := #[.int .i64 0]) hs (of_decide_eq_true (by kernel_rfl)) (by kernel_rfl) rfl (by kernel_rfl) (by kernel_rfl) (by kernel_rfl))
    · obtain ⟨ps, hv, _⟩ := hl
      obtain ⟨g, t, cs, fuel, q, k1, k2, k3, k4⟩ := laidVars_mem hv "internal/strconv.uint64pow10" Rows.laid_internal_strconv_uint64pow10 (by simp [laidL, Rows.parserSpacesRow])
      obtain rfl := Option.some.inj (g2.symm.trans k1)
      obtain rfl := Option.some.inj ((show (Tryd.prog.globals[2]?).map (·.type) = some 122 by kernel_rfl).symm.trans k2)
      have gd := cells_of_datum packed fuel 8 122 cs.toList _ q ((Lib.pow10Tab.map fun z => Value.int .u64 z).map V.sc) (of_decide_eq_true (by kernel_rfl)) k4 (by kernel_rfl)
      have hcs := denL_scs gd.den
      have : cs = (Lib.pow10Tab.map fun z => Value.int .u64 z).toArray := by rw [← hcs]
      rw [← this]
      exact allCells_of g2 k3
noncomputable def laidWorld(os:Os):World:=World.doorLaid Tryd.prog 4000 os
theorem laid_met0(os:Os)(args:Array Value):laidMet Tryd.prog laidL ((laidWorld os).forCall (fun _ _=>0) ⟨#[],args,[]⟩).memory:=
 laidMet_of_run' 8 (by kernel_rfl) (by kernel_rfl)
theorem laid_met(os:Os)(args:Array Value):laidMetH Tryd.prog laidL ((laidWorld os).forCall (fun _ _=>0) ⟨#[],args,[]⟩).memory:=by
 rw[MakeChecks.laidMetH_plain _ _ _ (by kernel_rfl)];exact laid_met0 os args
end Go.Proofs.YtjfkkokeegpeiaaDoor
/- Short words for the lifted texts. -/
namespace Go.Proofs.YtjfkkokeegpeiaaDoor
open Go Go.Am Go.Proofs
abbrev FI:Type:=Nat→Int
abbrev FS:Type:=Nat→ByteArray
abbrev FL:Type:=Nat→List V
abbrev FM:Type:=Nat→Nat→List V
abbrev FN:Type:=Nat→Nat
abbrev SP:Type:=Int×Int×Nat×FI×FI×FS×FI×Nat×FS×Nat×FS
abbrev SC2:Type:=Nat×FI×FI×FS×FI×Int×Int×Nat×Nat×FS×FS
abbrev AR(α:Type):Type:=α→List V×List (Option Chunk)
abbrev Lw(E:Env)(f:FuncId){α γ:Type}(A:AR α)(R:γ→CRes)(c:α→Option γ):Prop:=∀x z,c x=some z→SC E f (A x).1 (A x).2 (R z)
noncomputable def ftg{α γ:Type}(f:FuncId)(gd:List V→List (Option Chunk)→Bool)(A:AR α)(R:γ→CRes)(c:α→Option γ)(ca:CallT):CallT:=ftab f gd A (fun z k=>k (R z)) c ca
noncomputable abbrev ftb{α γ:Type}(f:FuncId)(A:AR α)(R:γ→CRes)(c:α→Option γ)(ca:CallT):CallT:=ftg f (fun _ _=>true) A R c ca
theorem fk{E:Env}{α γ:Type}{f:FuncId}{gd:List V→List (Option Chunk)→Bool}{A:AR α}{c:α→Option γ}{ca:CallT}{R:γ→CRes}(h:Lw E f A R c)(hl:SoundC E ca):SoundC E (ftg f gd A R c ca):=ftab_cons h (fun _ _=>rfl) hl
noncomputable def vf{α γ:Type}(A:AR α)(c:α→Option γ):α→Option γ:=fun x=>viaF A c (A x)
theorem vq{α γ:Type}{A:AR α}(hi:∀x y,A x=A y→x=y)(c:α→Option γ):vf A c=c:=via_eq hi c
abbrev n0:=@free_none
abbrev n1:=@free_bind
abbrev n2:=@free_ite
abbrev n3:=@free_sum
abbrev hHP(x:SP):List (Option Chunk):=[some (.blk [.ro 4 x.2.2.1 (fun j=>[i64 (x.2.2.2.1 j),i64 (x.2.2.2.2.1 j),st (x.2.2.2.2.2.1 j),i64 (x.2.2.2.2.2.2.1 j)]),i64 x.1,i64 x.2.1,.sl 1 1 0 x.2.2.2.2.2.2.2.1,.sl 2 1 0 x.2.2.2.2.2.2.2.2.2.1]),some (.row 9 1 x.2.2.2.2.2.2.2.1 (fun j=>[st (x.2.2.2.2.2.2.2.2.1 j)])),some (.row 9 1 x.2.2.2.2.2.2.2.2.2.1 (fun j=>[st (x.2.2.2.2.2.2.2.2.2.2 j)]))]
abbrev dTI(v:V)(n:Nat):FI:=fun j=>vI ((vRoF v j).getD n .junk)
abbrev dTS(v:V)(n:Nat):FS:=fun j=>vS ((vRoF v j).getD n .junk)
abbrev dCS(c:Option Chunk):FS:=fun j=>vS ((chF c j).getD 0 .junk)
def dHP(t:List (Option Chunk)):SP:=
 let b:=chB (t.getD 0 none);let v:=b.getD 0 .junk
 (vI (b.getD 1 .junk),vI (b.getD 2 .junk),vRoN v,dTI v 0,dTI v 1,dTS v 2,dTI v 3,vSlN (b.getD 3 .junk),dCS (t.getD 1 none),vSlN (b.getD 4 .junk),dCS (t.getD 2 none))
abbrev hPB{α:Type}(y:Nat×FI×FI×FS×FI×Int×Int×Nat×Nat×α):Chunk:=.blk [.ro 4 y.1 (fun j=>[i64 (y.2.1 j),i64 (y.2.2.1 j),st (y.2.2.2.1 j),i64 (y.2.2.2.2.1 j)]),i64 y.2.2.2.2.2.1,i64 y.2.2.2.2.2.2.1,.sl 1 1 0 y.2.2.2.2.2.2.2.1,.sl 2 1 0 y.2.2.2.2.2.2.2.2.1]
abbrev hPV{α:Type}(y:Nat×FI×FI×FS×FI×Int×Int×Nat×Nat×FS×α):Chunk:=.row 9 1 y.2.2.2.2.2.2.2.1 (fun j=>[st (y.2.2.2.2.2.2.2.2.2.1 j)])
abbrev hPQ{α:Type}(y:Nat×FI×FI×FS×FI×Int×Int×Nat×Nat×FS×FS×α):Chunk:=.row 9 1 y.2.2.2.2.2.2.2.2.1 (fun j=>[st (y.2.2.2.2.2.2.2.2.2.2.1 j)])
abbrev hPQ0(y:SC2):Chunk:=.row 9 1 y.2.2.2.2.2.2.2.2.1 (fun j=>[st (y.2.2.2.2.2.2.2.2.2.2 j)])
abbrev TT:Type:=List V×List (Option Chunk)
def x2{α β:Type}(R:α⊕β→CRes)(z:α⊕β)(k:CRes→Option Ans):Option Ans:=Sum.elim (fun a=>k (R (.inl a))) (fun b=>k (R (.inr b))) z
def x3{α β γ:Type}(R:α⊕β⊕γ→CRes)(z:α⊕β⊕γ)(k:CRes→Option Ans):Option Ans:=Sum.elim (fun a=>k (R (.inl a))) (fun b=>x2 (fun b=>R (.inr b)) b k) z
def x4{α β γ δ:Type}(R:α⊕β⊕γ⊕δ→CRes)(z:α⊕β⊕γ⊕δ)(k:CRes→Option Ans):Option Ans:=Sum.elim (fun a=>k (R (.inl a))) (fun b=>x3 (fun b=>R (.inr b)) b k) z
section
variable {α β γ δ ε:Type} {E:Env} {f:FuncId} {gd:List V→List (Option Chunk)→Bool} {ca:CallT}
theorem xe2{R:α⊕β→CRes}:∀z k,x2 R z k=k (R z):=fun z k=>by rcases z with z|z<;>rfl
noncomputable def fg2(f:FuncId)(gd:List V→List (Option Chunk)→Bool)(A:AR ε)(R:α⊕β→CRes)(c:ε→Option (α⊕β))(ca:CallT):CallT:=ftab f gd A (x2 R) c ca
noncomputable abbrev ft2(f:FuncId)(A:AR ε)(R:α⊕β→CRes)(c:ε→Option (α⊕β))(ca:CallT):CallT:=fg2 f (fun _ _=>true) A R c ca
theorem fk2{A:AR ε}{R:α⊕β→CRes}{c:ε→Option (α⊕β)}(h:Lw E f A R c)(hl:SoundC E ca):SoundC E (fg2 f gd A R c ca):=ftab_cons h xe2 hl
theorem sof{A:AR α}{R:γ→CRes}{c:α→Option γ}{lo:α→LoopT}(hW:WF E)(hX:SoundX E)(hc:SoundC E ca)(hl:∀x,SoundL E (lo x))(h:∀x,callK E ca (lo x) f (A x).1 (A x).2 (fun r=>some (.c r))=(c x).bind fun z=>some (.c (R z))):Lw E f A R c:=fun x z hz=>SC.of hW hX hc (hl x) ((h x).trans (by rw[hz];rfl))
abbrev VI(A:AR α):Prop:=∀{γ:Type} (c:α→Option γ),vf A c=c
theorem vd{A:AR α}(d:TT→α)(h:∀x,d (A x)=x):VI A:=fun c=>vq (fun x y e=>by rw[←h x,←h y,e]) c
noncomputable def lf(b:ACode)(S:α→St)(p:α→Option γ):α→Option γ:=fun y=>viaF (fun y=>(b,S y)) p (b,S y)
abbrev VL(S:α→St):Prop:=∀{γ:Type} (b:ACode) (p:α→Option γ),lf b S p=p
theorem vl{S:α→St}(d:St→α)(h:∀x,d (S x)=x):VL S:=fun b p=>via_eq (pair_inj b fun x y e=>by rw[←h x,←h y,e]) p
abbrev Ll(E:Env)(b:ACode)(S:α→St)(T:γ→Ex×St)(p:α→Option γ):Prop:=∀y z,p y=some z→SL E b (S y) (T z).1 (T z).2
def w1(T:α→Ex×St)(z:α)(k:KX):Option Ans:=k (T z).1 (T z).2
def w2(T:α⊕β→Ex×St)(z:α⊕β)(k:KX):Option Ans:=Sum.elim (fun a=>w1 (fun a=>T (.inl a)) a k) (fun b=>w1 (fun b=>T (.inr b)) b k) z
def w3(T:α⊕β⊕γ→Ex×St)(z:α⊕β⊕γ)(k:KX):Option Ans:=Sum.elim (fun a=>w1 (fun a=>T (.inl a)) a k) (fun b=>w2 (fun b=>T (.inr b)) b k) z
def w4(T:α⊕β⊕γ⊕δ→Ex×St)(z:α⊕β⊕γ⊕δ)(k:KX):Option Ans:=Sum.elim (fun a=>w1 (fun a=>T (.inl a)) a k) (fun b=>w3 (fun b=>T (.inr b)) b k) z
noncomputable def lt1(id:Nat)(gd:St→Bool)(b:ACode)(S:ε→St)(T:α→Ex×St)(p:ε→Option α)(lo:LoopT):LoopT:=ltabF id gd b S (w1 T) p lo
noncomputable def lt2(id:Nat)(gd:St→Bool)(b:ACode)(S:ε→St)(T:α⊕β→Ex×St)(p:ε→Option (α⊕β))(lo:LoopT):LoopT:=ltabF id gd b S (w2 T) p lo
noncomputable def lt3(id:Nat)(gd:St→Bool)(b:ACode)(S:ε→St)(T:α⊕β⊕γ→Ex×St)(p:ε→Option (α⊕β⊕γ))(lo:LoopT):LoopT:=ltabF id gd b S (w3 T) p lo
noncomputable def lt4(id:Nat)(gd:St→Bool)(b:ACode)(S:ε→St)(T:α⊕β⊕γ⊕δ→Ex×St)(p:ε→Option (α⊕β⊕γ⊕δ))(lo:LoopT):LoopT:=ltabF id gd b S (w4 T) p lo
variable {id:Nat} {gs:St→Bool} {b:ACode} {S:ε→St} {lo:LoopT}
theorem lk1{T:α→Ex×St}{p:ε→Option α}(h:Ll E b S T p)(hl:SoundL E lo):SoundL E (lt1 id gs b S T p lo):=ltabF_cons h (fun _ _=>rfl) hl
theorem lk2{T:α⊕β→Ex×St}{p:ε→Option (α⊕β)}(h:Ll E b S T p)(hl:SoundL E lo):SoundL E (lt2 id gs b S T p lo):=ltabF_cons h (fun z k=>by rcases z with z|z<;>rfl) hl
theorem lk3{T:α⊕β⊕γ→Ex×St}{p:ε→Option (α⊕β⊕γ)}(h:Ll E b S T p)(hl:SoundL E lo):SoundL E (lt3 id gs b S T p lo):=ltabF_cons h (fun z k=>by rcases z with z|z|z<;>rfl) hl
theorem lk4{T:α⊕β⊕γ⊕δ→Ex×St}{p:ε→Option (α⊕β⊕γ⊕δ)}(h:Ll E b S T p)(hl:SoundL E lo):SoundL E (lt4 id gs b S T p lo):=ltabF_cons h (fun z k=>by rcases z with z|z|z|z<;>rfl) hl
theorem slp{S:α→St}{T:γ→Ex×St}{st:α→Option (α⊕γ)}{live:Nat}{ms:List (Nat×Nat)}{r:Nat}{c:ACode}(hC:SoundC E ca)(hX:SoundX E)
 (tr:∀lo x,loopK E ca lo id live c (S x) (KCM ms r)=(st x).bind fun r'=>Sum.elim (fun y=>lo id live c (S y) (KCM ms r)) (fun z=>some (.l (T z).1 (T z).2)) r')
 (kT:∀z,KCM ms r (T z).1 (T z).2=some (.l (T z).1 (T z).2)) (n:Nat):Ll E c S T (lpG st n):=SL.lp (LT:=fun lo=>lo) hC hX (fun _ h=>h) tr kT n
end
def cb(s:St)(i k:Nat):V:=(chB (s.H i)).getD k .junk
def cc(t:TT)(i k:Nat):V:=(chB (t.2.getD i none)).getD k .junk
def ca(t:TT)(i k:Nat):V:=(vAg (t.1.getD i .junk)).getD k .junk
def ag(t:TT)(i:Nat):V:=t.1.getD i .junk
def co(t:TT)(i:Nat):Option Chunk:=t.2.getD i none
abbrev dTN(v:V)(n:Nat):FN:=fun j=>vRoN ((vRoF v j).getD n .junk)
abbrev dTF(v:V)(n:Nat):FM:=fun j=>vRoF ((vRoF v j).getD n .junk)
abbrev dRI(c:Option Chunk)(n:Nat):FI:=fun j=>vI ((chF c j).getD n .junk)
abbrev dRS(c:Option Chunk)(n:Nat):FS:=fun j=>vS ((chF c j).getD n .junk)
abbrev dRN(c:Option Chunk)(n:Nat):FN:=fun j=>vRoN ((chF c j).getD n .junk)
abbrev dRF(c:Option Chunk)(n:Nat):FM:=fun j=>vRoF ((chF c j).getD n .junk)
end Go.Proofs.YtjfkkokeegpeiaaDoor
/- The parser, lifted. -/
namespace Go.Proofs.YtjfkkokeegpeiaaDoor
open Go Go.Am Go.Proofs
set_option maxRecDepth 100000
abbrev nilS:V:=.sc (.slice none 0 0)
noncomputable def E5:Env:={P:=Tryd.prog,glob:=globF,ext:=fun _ _=>none,way:=way,lit:=fun _=>false,code:=fun f=>(Tryd.prog.funcs[f]?).bind annF,sett:=fun _=>true,rows:=true,dfn:=dfnF,idle:=idleF,inv:=[(1,intCell .i64),(2,allCells (Lib.pow10Tab.map fun z=>Value.int .u64 z).toArray)]}
set_option maxRecDepth 100000 in
theorem hW5:WF E5:=WF.of E5 (fun _=>rfl) (by kernel_rfl) hW.1.1
theorem hX5:SoundX E5:=SoundX.none fun _ _=>rfl
theorem sc5{f:FuncId}{args:List V}{L:List (Option Chunk)}{cr:CRes}:SC E5 f args L cr↔SC E f args L cr:=
 ⟨fun h=>⟨h.1,fun β S w us h1 h2 h3=>h.2 β S w us h1 h2 ⟨h3.rd,h3.inv⟩⟩,fun h=>⟨h.1,fun β S w us h1 h2 h3=>h.2 β S w us h1 h2 ⟨h3.rd,h3.inv⟩⟩⟩
def K:CRes→Option Ans:=fun r=>some (.c r)
abbrev w(n:Int):Int:=IntKind.wrap .i64 n
def jk(n:Nat):List V:=List.replicate n .junk
abbrev a_Contains:Type:=ByteArray×ByteArray
abbrev g_Contains:Type:=Bool
def A_Contains:AR a_Contains:=fun x=>([st x.1,st x.2],[])
def d_Contains(t:TT):a_Contains:=(vS (ag t 0),vS (ag t 1))
theorem v_Contains:VI A_Contains:=vd d_Contains fun _=>rfl
def R_Contains:g_Contains→CRes:=fun z=>.ret (bo z) []
noncomputable def Contains(q:Nat)(x:a_Contains):Option g_Contains:=if x.1.size<4294967281 then some (Lib.contains x.1.data.toList x.2.data.toList)else none
theorem sc_Contains(q:Nat):Lw E5 59 A_Contains R_Contains (Contains q):=by
 rintro⟨s,u⟩ z h
 unfold Contains at h
 split at h
 ·rename_i hn
  cases h
  exact sc5.2 (SC.ext hX (by
   show extF 59 [st s,st u]=_
   simp only[extF,if_pos,st]
   exact if_pos hn))
 ·cases h
abbrev a_Lookup:Type:=ByteArray
abbrev g_Lookup:Type:=Int×Int×Int×Int×Int×Int×Bool
def A_Lookup:AR a_Lookup:=fun x=>([st x],[])
def d_Lookup(t:TT):a_Lookup:=(vS (ag t 0))
theorem v_Lookup:VI A_Lookup:=vd d_Lookup fun _=>rfl
def R_Lookup:g_Lookup→CRes:=fun z=>.ret (.tup [.agg [i64 z.1,i64 z.2.1,i64 z.2.2.1,i64 z.2.2.2.1,i64 z.2.2.2.2.1],i64 z.2.2.2.2.2.1,bo z.2.2.2.2.2.2]) []
def t_Lookup{β:Type}(x:a_Lookup)(dn:g_Lookup→Option β):Option β:=
 if(ByteArray.toList ⟨#[74]⟩==x.toList)=true then dn (1,0,0,0,0,1,true)else if(ByteArray.toList ⟨#[107,74]⟩==x.toList)=true then dn (1,0,0,0,0,1000,true)else if(ByteArray.toList ⟨#[87,104]⟩==x.toList)=true then dn (1,0,0,0,0,3600,true)else if(ByteArray.toList ⟨#[66]⟩==x.toList)=true then dn (0,1,0,0,0,1,true)else if(ByteArray.toList ⟨#[107,66]⟩==x.toList)=true then dn (0,1,0,0,0,1000,true)else if(ByteArray.toList ⟨#[115]⟩==x.toList)=true then dn (0,0,1,0,0,1,true)else if(ByteArray.toList ⟨#[109,105,110]⟩==x.toList)=true then dn (0,0,1,0,0,60,true)else if(ByteArray.toList ⟨#[104]⟩==x.toList)=true then dn (0,0,1,0,0,3600,true)else if(ByteArray.toList ⟨#[100,101,103]⟩==x.toList)=true then dn (0,0,0,1,0,1,true)else if(ByteArray.toList ⟨#[75]⟩==x.toList)=true then dn (0,0,0,0,1,1,true)else if(ByteArray.toList ⟨#[87]⟩==x.toList)=true then dn (1,0,(-1),0,0,1,true)else if(ByteArray.toList ⟨#[107,87]⟩==x.toList)=true then dn (1,0,(-1),0,0,1000,true)else if(ByteArray.toList ⟨#[66,112,115]⟩==x.toList)=true then dn (0,1,(-1),0,0,1,true)else dn (0,0,0,0,0,0,false)
theorem n_Lookup{β:Type}(x)(dn:g_Lookup→Option β):t_Lookup x dn=(t_Lookup x some).bind dn:=by
 unfold t_Lookup
 repeat' first|exact n0|refine n1 fun _=>?_|refine n2 ?_ ?_|refine n3 (fun _=>?_) fun _=>?_|rfl
theorem r_Lookup(x):callK E5 ca0 (loU E5 ca0 [0] lo0 20) 16 (A_Lookup x).1 (A_Lookup x).2 K=t_Lookup x (fun z=>some (.c (R_Lookup z))):=by kernel_rfl
noncomputable def Lookup(q:Nat)(x:a_Lookup):Option g_Lookup:=t_Lookup x some
theorem sc_Lookup(q:Nat):Lw E5 16 A_Lookup R_Lookup (Lookup q):=sof hW5 hX5 ca0_sound (fun _=>(loU_sound ca0_sound hX5 lo0_sound 20)) fun x=>(r_Lookup x).trans (by rw[n_Lookup]<;>rfl)
abbrev a_levelOf:Type:=ByteArray
abbrev g_levelOf:Type:=Int
def A_levelOf:AR a_levelOf:=fun x=>([st x],[])
def d_levelOf(t:TT):a_levelOf:=(vS (ag t 0))
theorem v_levelOf:VI A_levelOf:=vd d_levelOf fun _=>rfl
def R_levelOf:g_levelOf→CRes:=fun z=>.ret (i64 z) []
def t_levelOf{β:Type}(x:a_levelOf)(dn:g_levelOf→Option β):Option β:=
 if(x.toList==ByteArray.toList ⟨#[124,124]⟩)=true then dn (1)else if(x.toList==ByteArray.toList ⟨#[38,38]⟩)=true then dn (2)else if(x.toList==ByteArray.toList ⟨#[60]⟩)=true then dn (4)else if(x.toList==ByteArray.toList ⟨#[60,61]⟩)=true then dn (4)else if(x.toList==ByteArray.toList ⟨#[62]⟩)=true then dn (4)else if(x.toList==ByteArray.toList ⟨#[62,61]⟩)=true then dn (4)else if(x.toList==ByteArray.toList ⟨#[61,61]⟩)=true then dn (4)else if(x.toList==ByteArray.toList ⟨#[33,61]⟩)=true then dn (4)else if(x.toList==ByteArray.toList ⟨#[43]⟩)=true then dn (5)else if(x.toList==ByteArray.toList ⟨#[45]⟩)=true then dn (5)else if(x.toList==ByteArray.toList ⟨#[42]⟩)=true then dn (6)else if(x.toList==ByteArray.toList ⟨#[47]⟩)=true then dn (6)else dn (0)
theorem n_levelOf{β:Type}(x)(dn:g_levelOf→Option β):t_levelOf x dn=(t_levelOf x some).bind dn:=by
 unfold t_levelOf
 repeat' first|exact n0|refine n1 fun _=>?_|refine n2 ?_ ?_|refine n3 (fun _=>?_) fun _=>?_|rfl
theorem r_levelOf(x):callK E5 ca0 lo0 83 (A_levelOf x).1 (A_levelOf x).2 K=t_levelOf x (fun z=>some (.c (R_levelOf z))):=by kernel_rfl
noncomputable def levelOf(q:Nat)(x:a_levelOf):Option g_levelOf:=t_levelOf x some
theorem sc_levelOf(q:Nat):Lw E5 83 A_levelOf R_levelOf (levelOf q):=sof hW5 hX5 ca0_sound (fun _=>lo0_sound) fun x=>(r_levelOf x).trans (by rw[n_levelOf]<;>rfl)
abbrev a_fail:Type:=Int×SP
abbrev g_fail:Type:=Int×Int
def A_fail:AR a_fail:=fun x=>([.ptr 0 0,i64 x.1],(hHP x.2))
def d_fail(t:TT):a_fail:=((vI (ag t 1)),dHP t.2)
theorem v_fail:VI A_fail:=vd d_fail fun _=>rfl
def R_fail:g_fail→CRes:=fun z=>.pan (.ifc 51 (.agg [i64 z.1,i64 z.2]))
def t_fail{β:Type}(x:a_fail)(dn:g_fail→Option β):Option β:=
 if 0≤x.2.1∧x.2.1< ((x.2.2.2.1:Nat):Int)then dn (x.2.2.2.2.2.1 (Int.toNat x.2.1),x.1)else none
theorem n_fail{β:Type}(x)(dn:g_fail→Option β):t_fail x dn=(t_fail x some).bind dn:=by
 unfold t_fail
 repeat' first|exact n0|refine n1 fun _=>?_|refine n2 ?_ ?_|refine n3 (fun _=>?_) fun _=>?_|rfl
theorem r_fail(x):callK E5 ca0 lo0 34 (A_fail x).1 (A_fail x).2 K=t_fail x (fun z=>some (.c (R_fail z))):=by kernel_rfl
noncomputable def fail(q:Nat)(x:a_fail):Option g_fail:=t_fail x some
theorem sc_fail(q:Nat):Lw E5 34 A_fail R_fail (fail q):=sof hW5 hX5 ca0_sound (fun _=>lo0_sound) fun x=>(r_fail x).trans (by rw[n_fail]<;>rfl)
abbrev a_next:Type:=SP
abbrev g_next:Type:=Int×Int×ByteArray×Int×SP
def A_next:AR a_next:=fun x=>([.ptr 0 0],(hHP x))
def d_next(t:TT):a_next:=(dHP t.2)
theorem v_next:VI A_next:=vd d_next fun _=>rfl
def R_next:g_next→CRes:=fun z=>.ret (.agg [i64 z.1,i64 z.2.1,st z.2.2.1,i64 z.2.2.2.1]) (hHP z.2.2.2.2)
def t_next{β:Type}(x:a_next)(dn:g_next→Option β):Option β:=
 if 0≤x.1∧x.1< ((x.2.2.1:Nat):Int)then dn (x.2.2.2.1 (Int.toNat x.1),x.2.2.2.2.1 (Int.toNat x.1),x.2.2.2.2.2.1 (Int.toNat x.1),x.2.2.2.2.2.2.1 (Int.toNat x.1),x)else none
theorem n_next{β:Type}(x)(dn:g_next→Option β):t_next x dn=(t_next x some).bind dn:=by
 unfold t_next
 repeat' first|exact n0|refine n1 fun _=>?_|refine n2 ?_ ?_|refine n3 (fun _=>?_) fun _=>?_|rfl
theorem r_next(x):callK E5 ca0 lo0 18 (A_next x).1 (A_next x).2 K=t_next x (fun z=>some (.c (R_next z))):=by kernel_rfl
noncomputable def next(q:Nat)(x:a_next):Option g_next:=t_next x some
theorem sc_next(q:Nat):Lw E5 18 A_next R_next (next q):=sof hW5 hX5 ca0_sound (fun _=>lo0_sound) fun x=>(r_next x).trans (by rw[n_next]<;>rfl)
abbrev a_is:Type:=ByteArray×SP
abbrev g_is:Type:=Bool×SP
def A_is:AR a_is:=fun x=>([.ptr 0 0,st x.1],(hHP x.2))
def d_is(t:TT):a_is:=((vS (ag t 1)),dHP t.2)
theorem v_is:VI A_is:=vd d_is fun _=>rfl
def R_is:g_is→CRes:=fun z=>.ret (bo z.1) (hHP z.2)
def t_is{β:Type}(x:a_is)(dn:g_is→Option β):Option β:=
 if 0≤x.2.1∧x.2.1< ((x.2.2.2.1:Nat):Int)then dn (ByteArray.toList (x.2.2.2.2.2.2.1 (Int.toNat x.2.1))==x.1.toList,x.2)else none
theorem n_is{β:Type}(x)(dn:g_is→Option β):t_is x dn=(t_is x some).bind dn:=by
 unfold t_is
 repeat' first|exact n0|refine n1 fun _=>?_|refine n2 ?_ ?_|refine n3 (fun _=>?_) fun _=>?_|rfl
theorem r_is(x):callK E5 ca0 lo0 58 (A_is x).1 (A_is x).2 K=t_is x (fun z=>some (.c (R_is z))):=by kernel_rfl
noncomputable def is(q:Nat)(x:a_is):Option g_is:=t_is x some
theorem sc_is(q:Nat):Lw E5 58 A_is R_is (is q):=sof hW5 hX5 ca0_sound (fun _=>lo0_sound) fun x=>(r_is x).trans (by rw[n_is]<;>rfl)
abbrev a_take:Type:=ByteArray×SP
abbrev g_take:Type:=Bool×SP
def A_take:AR a_take:=fun x=>([.ptr 0 0,st x.1],(hHP x.2))
def d_take(t:TT):a_take:=((vS (ag t 1)),dHP t.2)
theorem v_take:VI A_take:=vd d_take fun _=>rfl
def R_take:g_take→CRes:=fun z=>.ret (bo z.1) (hHP z.2)
def t_take{β:Type}(c_is:a_is→Option g_is)(x:a_take)(dn:g_take→Option β):Option β:=
 (c_is x).bind fun z12=>if z12.1=true then dn (true,w (z12.2.1+1),z12.2.2)else dn (false,z12.2)
theorem n_take{β:Type}(c_is)(x)(dn:g_take→Option β):t_take c_is x dn=(t_take c_is x some).bind dn:=by
 unfold t_take
 repeat' first|exact n0|refine n1 fun _=>?_|refine n2 ?_ ?_|refine n3 (fun _=>?_) fun _=>?_|rfl
theorem r_take(c_is)(x):callK E5 (ftb 58 A_is R_is c_is ca0) lo0 44 (A_take x).1 (A_take x).2 K=t_take (vf A_is c_is) x (fun z=>some (.c (R_take z))):=by kernel_rfl
noncomputable def take(q:Nat)(x:a_take):Option g_take:=t_take (is q) x some
theorem sc_take(q:Nat):Lw E5 44 A_take R_take (take q):=sof hW5 hX5 (fk (sc_is q) ca0_sound) (fun _=>lo0_sound) fun x=>(r_take (is q) x).trans (by rw[v_is,n_take]<;>rfl)
abbrev a_must:Type:=ByteArray×SP
abbrev g_must:Type:=(SP)⊕(Int×Int)
def A_must:AR a_must:=fun x=>([.ptr 0 0,st x.1],(hHP x.2))
def d_must(t:TT):a_must:=((vS (ag t 1)),dHP t.2)
theorem v_must:VI A_must:=vd d_must fun _=>rfl
def R_must:g_must→CRes:=Sum.elim (fun z:SP=>.ret (.tup []) (hHP z)) (fun z:Int×Int=>.pan (.ifc 51 (.agg [i64 z.1,i64 z.2])))
def t_must{β:Type}(c_take:a_take→Option g_take)(c_fail:a_fail→Option g_fail)(x:a_must)(dn:g_must→Option β):Option β:=
 (c_take x).bind fun z12=>if(!z12.1)=true then(c_fail (11,z12.2)).bind fun z25=>dn (.inr z25)else dn (.inl z12.2)
theorem n_must{β:Type}(c_take c_fail)(x)(dn:g_must→Option β):t_must c_take c_fail x dn=(t_must c_take c_fail x some).bind dn:=by
 unfold t_must
 repeat' first|exact n0|refine n1 fun _=>?_|refine n2 ?_ ?_|refine n3 (fun _=>?_) fun _=>?_|rfl
theorem r_must(c_take c_fail)(x):callK E5 (ftb 44 A_take R_take c_take (ftb 34 A_fail R_fail c_fail ca0)) lo0 32 (A_must x).1 (A_must x).2 K=t_must (vf A_take c_take) (vf A_fail c_fail) x (fun z=>some (.c (R_must z))):=by kernel_rfl
noncomputable def must(q:Nat)(x:a_must):Option g_must:=t_must (take q) (fail q) x some
theorem sc_must(q:Nat):Lw E5 32 A_must R_must (must q):=sof hW5 hX5 (fk (sc_take q) (fk (sc_fail q) ca0_sound)) (fun _=>lo0_sound) fun x=>(r_must (take q) (fail q) x).trans (by rw[v_take,v_fail,n_must]<;>rfl)
abbrev a_opens:Type:=ByteArray×SP
abbrev g_opens:Type:=(SP)⊕(Int×Int)
def A_opens:AR a_opens:=fun x=>([.ptr 0 0,st x.1],(hHP x.2))
def d_opens(t:TT):a_opens:=((vS (ag t 1)),dHP t.2)
theorem v_opens:VI A_opens:=vd d_opens fun _=>rfl
def R_opens:g_opens→CRes:=Sum.elim (fun z:SP=>.ret (.tup []) (hHP z)) (fun z:Int×Int=>.pan (.ifc 51 (.agg [i64 z.1,i64 z.2])))
def t_opens{β:Type}(c_is:a_is→Option g_is)(c_fail:a_fail→Option g_fail)(x:a_opens)(dn:g_opens→Option β):Option β:=
 (c_is x).bind fun z12=>if(!z12.1)=true then(c_fail (11,z12.2)).bind fun z25=>dn (.inr z25)else if(z12.2.2.1==12)=true then(c_fail (2,z12.2)).bind fun z38=>dn (.inr z38)else dn (.inl (w (z12.2.1+1),w (z12.2.2.1+1),z12.2.2.2))
theorem n_opens{β:Type}(c_is c_fail)(x)(dn:g_opens→Option β):t_opens c_is c_fail x dn=(t_opens c_is c_fail x some).bind dn:=by
 unfold t_opens
 repeat' first|exact n0|refine n1 fun _=>?_|refine n2 ?_ ?_|refine n3 (fun _=>?_) fun _=>?_|rfl
theorem r_opens(c_is c_fail)(x):callK E5 (ftb 58 A_is R_is c_is (ftb 34 A_fail R_fail c_fail ca0)) lo0 47 (A_opens x).1 (A_opens x).2 K=t_opens (vf A_is c_is) (vf A_fail c_fail) x (fun z=>some (.c (R_opens z))):=by kernel_rfl
noncomputable def opens(q:Nat)(x:a_opens):Option g_opens:=t_opens (is q) (fail q) x some
theorem sc_opens(q:Nat):Lw E5 47 A_opens R_opens (opens q):=sof hW5 hX5 (fk (sc_is q) (fk (sc_fail q) ca0_sound)) (fun _=>lo0_sound) fun x=>(r_opens (is q) (fail q) x).trans (by rw[v_is,v_fail,n_opens]<;>rfl)
abbrev a_reserved:Type:=ByteArray
abbrev g_reserved:Type:=Bool
def A_reserved:AR a_reserved:=fun x=>([st x],[])
def d_reserved(t:TT):a_reserved:=(vS (ag t 0))
theorem v_reserved:VI A_reserved:=vd d_reserved fun _=>rfl
def R_reserved:g_reserved→CRes:=fun z=>.ret (bo z) []
def t_reserved{β:Type}(c_Contains:a_Contains→Option g_Contains)(x:a_reserved)(dn:g_reserved→Option β):Option β:=
 if 1+x.size≤maxLen then if ByteArray.size (⟨#[32]⟩++x)+1≤maxLen then(c_Contains ({data:=List.toArray (List.append [32,112,114,111,99,101,100,117,114,101,32,108,101,116,32,105,102,32,101,108,115,101,32,114,101,112,101,97,116,32,119,97,105,116,32,97,119,97,105,116,32,119,105,116,104,105,110,32,114,101,113,117,105] [114,101,32,112,111,105,110,116,32,117,115,101,32,102,111,114,32,115,101,110,100,32,107,101,101,112,32,101,109,105,116,32,97,98,111,114,116,32,116,114,117,101,32,102,97,108,115,101,32,116,108,109,32])},⟨#[32]⟩++x++⟨#[32]⟩)).bind fun z2=>dn z2 else none else none
theorem n_reserved{β:Type}(c_Contains)(x)(dn:g_reserved→Option β):t_reserved c_Contains x dn=(t_reserved c_Contains x some).bind dn:=by
 unfold t_reserved
 repeat' first|exact n0|refine n1 fun _=>?_|refine n2 ?_ ?_|refine n3 (fun _=>?_) fun _=>?_|rfl
theorem r_reserved(c_Contains)(x):callK E5 (ftb 59 A_Contains R_Contains c_Contains ca0) lo0 45 (A_reserved x).1 (A_reserved x).2 K=t_reserved (vf A_Contains c_Contains) x (fun z=>some (.c (R_reserved z))):=by kernel_rfl
noncomputable def reserved(q:Nat)(x:a_reserved):Option g_reserved:=t_reserved (Contains q) x some
theorem sc_reserved(q:Nat):Lw E5 45 A_reserved R_reserved (reserved q):=sof hW5 hX5 (fk (sc_Contains q) ca0_sound) (fun _=>lo0_sound) fun x=>(r_reserved (Contains q) x).trans (by rw[v_Contains,n_reserved]<;>rfl)
abbrev a_name:Type:=SP
abbrev g_name:Type:=(ByteArray×SP)⊕(Int×Int)
def A_name:AR a_name:=fun x=>([.ptr 0 0],(hHP x))
def d_name(t:TT):a_name:=(dHP t.2)
theorem v_name:VI A_name:=vd d_name fun _=>rfl
def R_name:g_name→CRes:=Sum.elim (fun z:ByteArray×SP=>.ret (st z.1) (hHP z.2)) (fun z:Int×Int=>.pan (.ifc 51 (.agg [i64 z.1,i64 z.2])))
def t_name{β:Type}(c_next:a_next→Option g_next)(c_reserved:a_reserved→Option g_reserved)(c_fail:a_fail→Option g_fail)(x:a_name)(dn:g_name→Option β):Option β:=
 (c_next x).bind fun z11=>if(z11.1 !=1)=true then(c_fail (11,z11.2.2.2.2)).bind fun z24=>dn (.inr z24)else(c_reserved z11.2.2.1).bind fun z26=>if z26=true then(c_fail (11,z11.2.2.2.2)).bind fun z39=>dn (.inr z39)else dn (.inl (z11.2.2.1,w (z11.2.2.2.2.1+1),z11.2.2.2.2.2))
theorem n_name{β:Type}(c_next c_reserved c_fail)(x)(dn:g_name→Option β):t_name c_next c_reserved c_fail x dn=(t_name c_next c_reserved c_fail x some).bind dn:=by
 unfold t_name
 repeat' first|exact n0|refine n1 fun _=>?_|refine n2 ?_ ?_|refine n3 (fun _=>?_) fun _=>?_|rfl
theorem r_name(c_next c_reserved c_fail)(x):callK E5 (ftb 18 A_next R_next c_next (ftb 45 A_reserved R_reserved c_reserved (ftb 34 A_fail R_fail c_fail ca0))) lo0 33 (A_name x).1 (A_name x).2 K=t_name (vf A_next c_next) (vf A_reserved c_reserved) (vf A_fail c_fail) x (fun z=>some (.c (R_name z))):=by kernel_rfl
noncomputable def name(q:Nat)(x:a_name):Option g_name:=t_name (next q) (reserved q) (fail q) x some
theorem sc_name(q:Nat):Lw E5 33 A_name R_name (name q):=sof hW5 hX5 (fk (sc_next q) (fk (sc_reserved q) (fk (sc_fail q) ca0_sound))) (fun _=>lo0_sound) fun x=>(r_name (next q) (reserved q) (fail q) x).trans (by rw[v_next,v_reserved,v_fail,n_name]<;>rfl)
abbrev a_declare:Type:=SP
abbrev g_declare:Type:=(ByteArray×SP)⊕(Int×Int)
def A_declare:AR a_declare:=fun x=>([.ptr 0 0],(hHP x))
def d_declare(t:TT):a_declare:=(dHP t.2)
theorem v_declare:VI A_declare:=vd d_declare fun _=>rfl
def R_declare:g_declare→CRes:=Sum.elim (fun z:ByteArray×SP=>.ret (st z.1) (hHP z.2)) (fun z:Int×Int=>.pan (.ifc 51 (.agg [i64 z.1,i64 z.2])))
abbrev declare_l0_a:Type:=ByteArray×Nat×Int×Nat×FI×FI×FS×FI×Int×Int×Nat×FS×FS×Int
abbrev declare_l0_g:Type:=(Int×Int)⊕(ByteArray×SC2)
def declare_l0_S(x:a_declare)(y:declare_l0_a):St:={fr:=[V.ptr 0 0,V.junk,V.junk,st y.1]++jk 14++[V.sl 1 1 0 y.2.1,i64 y.2.2.1,i64 y.2.2.2.2.2.2.2.2.2.2.2.2.2]++jk 35,H:=hp [some (Chunk.blk [V.ro 4 y.2.2.2.1 fun j=>[i64 (y.2.2.2.2.1 j),i64 (y.2.2.2.2.2.1 j),st (y.2.2.2.2.2.2.1 j),i64 (y.2.2.2.2.2.2.2.1 j)],i64 y.2.2.2.2.2.2.2.2.1,i64 y.2.2.2.2.2.2.2.2.2.1,V.sl 1 1 0 y.2.1,V.sl 2 1 0 y.2.2.2.2.2.2.2.2.2.2.1]),some (Chunk.row 9 1 y.2.1 fun j=>[st (y.2.2.2.2.2.2.2.2.2.2.2.1 j)]),some (Chunk.row 9 1 y.2.2.2.2.2.2.2.2.2.2.1 fun j=>[st (y.2.2.2.2.2.2.2.2.2.2.2.2.1 j)])],nx:=3,rt:=1,me:=46}
def declare_l0_d(s:St):declare_l0_a:=((vS (s.fr.getD 3 .junk)),vSlN (s.fr.getD 18 .junk),vI (s.fr.getD 19 .junk),vRoN (cb s 0 0),dTI (cb s 0 0) 0,dTI (cb s 0 0) 1,dTS (cb s 0 0) 2,dTI (cb s 0 0) 3,vI (cb s 0 1),vI (cb s 0 2),vSlN (cb s 0 4),dRS (s.H 1) 0,dRS (s.H 2) 0,vI (s.fr.getD 20 .junk))
theorem declare_l0_u(x:a_declare):VL (declare_l0_S x):=vl declare_l0_d fun _=>rfl
def declare_l0_T(x:a_declare):declare_l0_g→Ex×St:=(Sum.elim (fun z=>(Ex.panic (V.ifc 51 (V.agg [i64 z.1,i64 z.2])),{fr:=[V.junk]++jk 55,H:=hp [none],nx:=1,rt:=1,me:=46})) (fun z=>(Ex.exit 0,{fr:=[V.ptr 0 0,V.junk,V.junk,st z.1]++jk 52,H:=hp [some (hPB z.2),some (hPV z.2),some (hPQ0 z.2)],nx:=3,rt:=1,me:=46})))
def declare_l0_t{β:Type}(c_name:a_name→Option g_name)(c_fail:a_fail→Option g_fail)(x:a_declare)(y:declare_l0_a)(nx:declare_l0_a→Option β)(dn:declare_l0_g→Option β):Option β:=
 if decide (y.2.2.2.2.2.2.2.2.2.2.2.2.2<y.2.2.1)=true then if 0≤y.2.2.2.2.2.2.2.2.2.2.2.2.2∧y.2.2.2.2.2.2.2.2.2.2.2.2.2< ((y.2.1:Nat):Int)then if 0+Int.toNat y.2.2.2.2.2.2.2.2.2.2.2.2.2<y.2.1∧1=1 then if(ByteArray.toList (y.2.2.2.2.2.2.2.2.2.2.2.1 (0+Int.toNat y.2.2.2.2.2.2.2.2.2.2.2.2.2))==y.1.toList)=true then(c_fail (4,y.2.2.2.2.2.2.2.2.1,y.2.2.2.2.2.2.2.2.2.1,y.2.2.2.1,y.2.2.2.2.1,y.2.2.2.2.2.1,y.2.2.2.2.2.2.1,y.2.2.2.2.2.2.2.1,y.2.1,y.2.2.2.2.2.2.2.2.2.2.2.1,y.2.2.2.2.2.2.2.2.2.2.1,y.2.2.2.2.2.2.2.2.2.2.2.2.1)).bind fun z162=>dn (.inl z162)else nx (y.1,y.2.1,y.2.2.1,y.2.2.2.1,y.2.2.2.2.1,y.2.2.2.2.2.1,y.2.2.2.2.2.2.1,y.2.2.2.2.2.2.2.1,y.2.2.2.2.2.2.2.2.1,y.2.2.2.2.2.2.2.2.2.1,y.2.2.2.2.2.2.2.2.2.2.1,y.2.2.2.2.2.2.2.2.2.2.2.1,y.2.2.2.2.2.2.2.2.2.2.2.2.1,w (y.2.2.2.2.2.2.2.2.2.2.2.2.2+1))else none else none else dn (.inr (y.1,y.2.2.2.1,y.2.2.2.2.1,y.2.2.2.2.2.1,y.2.2.2.2.2.2.1,y.2.2.2.2.2.2.2.1,y.2.2.2.2.2.2.2.2.1,y.2.2.2.2.2.2.2.2.2.1,y.2.1,y.2.2.2.2.2.2.2.2.2.2.1,y.2.2.2.2.2.2.2.2.2.2.2.1,y.2.2.2.2.2.2.2.2.2.2.2.2.1))
theorem declare_l0_n{β:Type}(c_name c_fail)(x)(y)(nx:declare_l0_a→Option β)(dn):declare_l0_t c_name c_fail x y nx dn=(declare_l0_t c_name c_fail x y (fun y=>some (.inl y)) (fun z=>some (.inr z))).bind fun r=>Sum.elim nx dn r:=by
 unfold declare_l0_t
 repeat' first|exact n0|refine n1 fun _=>?_|refine n2 ?_ ?_|refine n3 (fun _=>?_) fun _=>?_|rfl
theorem declare_l0_r(c_name c_fail)(x)(y)(lo:LoopT):loopK E5 (ft2 33 A_name R_name c_name (ftb 34 A_fail R_fail c_fail ca0)) lo 0 1835017 (bodyOf E5 46 0) (declare_l0_S x y) (KCM [(0,9)] 4)=declare_l0_t (vf A_name c_name) (vf A_fail c_fail) x y (fun y=>lo 0 1835017 (bodyOf E5 46 0) (declare_l0_S x y) (KCM [(0,9)] 4)) (fun z=>some (.l (declare_l0_T x z).1 (declare_l0_T x z).2)):=by kernel_rfl
noncomputable def declare_l0(c_name:a_name→Option g_name)(c_fail:a_fail→Option g_fail)(q:Nat)(x:a_declare):declare_l0_a→Option declare_l0_g:=lpG (fun y=>declare_l0_t c_name c_fail x y (fun y=>some (.inl y)) (fun z=>some (.inr z))) q
theorem declare_l0_s(c_name)(h_name:Lw E5 33 A_name R_name c_name)(c_fail)(h_fail:Lw E5 34 A_fail R_fail c_fail)(q:Nat)(x:a_declare):Ll E5 (bodyOf E5 46 0) (declare_l0_S x) (declare_l0_T x) (declare_l0 c_name c_fail q x):=
 slp (fk2 h_name (fk h_fail ca0_sound)) hX5 (fun lo y=>(declare_l0_r c_name c_fail x y lo).trans (by rw[v_name,v_fail];exact declare_l0_n _ _ _ _ _ _)) (fun z=>by rcases z with z|z<;>kernel_rfl) q
def t_declare{β:Type}(c_name:a_name→Option g_name)(c_fail:a_fail→Option g_fail)(l_declare_l0:declare_l0_a→Option declare_l0_g)(x:a_declare)(dn:g_declare→Option β):Option β:=
 (c_name x).bind fun z11=>Sum.elim (fun z11a=>(l_declare_l0 (z11a.1,z11a.2.2.2.2.2.2.2.2.1,((z11a.2.2.2.2.2.2.2.2.1:Nat):Int),z11a.2.2.2.1,z11a.2.2.2.2.1,z11a.2.2.2.2.2.1,z11a.2.2.2.2.2.2.1,z11a.2.2.2.2.2.2.2.1,w (z11a.2.1-1),z11a.2.2.1,z11a.2.2.2.2.2.2.2.2.2.2.1,z11a.2.2.2.2.2.2.2.2.2.1,z11a.2.2.2.2.2.2.2.2.2.2.2,0)).bind fun z108=>Sum.elim (fun z108a=>dn (.inr z108a)) (fun z108b=>if(((z108b.2.2.2.2.2.2.2.2.1:Nat):Int)==12)=true then(c_fail (2,z108b.2.2.2.2.2.2.1,z108b.2.2.2.2.2.2.2.1,z108b.2.1,z108b.2.2.1,z108b.2.2.2.1,z108b.2.2.2.2.1,z108b.2.2.2.2.2.1,z108b.2.2.2.2.2.2.2.2.1,z108b.2.2.2.2.2.2.2.2.2.2.1,z108b.2.2.2.2.2.2.2.2.2.1,z108b.2.2.2.2.2.2.2.2.2.2.2)).bind fun z122=>dn (.inr z122)else if(z108b.2.2.2.2.2.2.2.2.1+1)*16≤roomBound∧z108b.2.2.2.2.2.2.2.2.1+1≤maxLen∧z108b.2.2.2.2.2.2.2.2.1≤z108b.2.2.2.2.2.2.2.2.1 then dn (.inl (z108b.1,w (z108b.2.2.2.2.2.2.1+1),z108b.2.2.2.2.2.2.2.1,z108b.2.1,z108b.2.2.1,z108b.2.2.2.1,z108b.2.2.2.2.1,z108b.2.2.2.2.2.1,z108b.2.2.2.2.2.2.2.2.1+1,fun j=>if j<z108b.2.2.2.2.2.2.2.2.1 then z108b.2.2.2.2.2.2.2.2.2.2.1 j else z108b.1,z108b.2.2.2.2.2.2.2.2.2.1,z108b.2.2.2.2.2.2.2.2.2.2.2))else none) z108) (fun z11b=>dn (.inr z11b)) z11
theorem n_declare{β:Type}(c_name c_fail)(l_declare_l0)(x)(dn:g_declare→Option β):t_declare c_name c_fail l_declare_l0 x dn=(t_declare c_name c_fail l_declare_l0 x some).bind dn:=by
 unfold t_declare
 repeat' first|exact n0|refine n1 fun _=>?_|refine n2 ?_ ?_|refine n3 (fun _=>?_) fun _=>?_|rfl
theorem r_declare(c_name c_fail)(l_declare_l0)(x):callK E5 (ft2 33 A_name R_name c_name (ftb 34 A_fail R_fail c_fail ca0)) (lt2 0 (fun _=>true) (bodyOf E5 46 0) (declare_l0_S x) (declare_l0_T x) l_declare_l0 lo0) 46 (A_declare x).1 (A_declare x).2 K=t_declare (vf A_name c_name) (vf A_fail c_fail) (lf (bodyOf E5 46 0) (declare_l0_S x) l_declare_l0) x (fun z=>some (.c (R_declare z))):=by kernel_rfl
noncomputable def declare(q:Nat)(x:a_declare):Option g_declare:=t_declare (name q) (fail q) (declare_l0 (name q) (fail q) q x) x some
theorem sc_declare(q:Nat):Lw E5 46 A_declare R_declare (declare q):=sof hW5 hX5 (fk2 (sc_name q) (fk (sc_fail q) ca0_sound)) (fun x=>(lk2 (declare_l0_s (name q) (sc_name q) (fail q) (sc_fail q) q x) lo0_sound)) fun x=>(r_declare (name q) (fail q) (declare_l0 (name q) (fail q) q x) x).trans (by rw[v_name,v_fail,declare_l0_u,n_declare]<;>rfl)
abbrev a_number:Type:=Int×Int×SP
abbrev g_number:Type:=(Int×SP)⊕(Int×Int)
def A_number:AR a_number:=fun x=>([.ptr 0 0,i64 x.1,i64 x.2.1],(hHP x.2.2))
def d_number(t:TT):a_number:=((vI (ag t 1)),vI (ag t 2),dHP t.2)
theorem v_number:VI A_number:=vd d_number fun _=>rfl
def R_number:g_number→CRes:=Sum.elim (fun z:Int×SP=>.ret (i64 z.1) (hHP z.2)) (fun z:Int×Int=>.pan (.ifc 51 (.agg [i64 z.1,i64 z.2])))
def t_number{β:Type}(c_next:a_next→Option g_next)(c_fail:a_fail→Option g_fail)(x:a_number)(dn:g_number→Option β):Option β:=
 (c_next x.2.2).bind fun z11=>if(z11.1 !=2)=true then(c_fail (11,z11.2.2.2.2)).bind fun z24=>dn (.inr z24)else if decide (z11.2.2.2.1<x.1)=true then(c_fail (5,z11.2.2.2.2)).bind fun z37=>dn (.inr z37)else if decide (z11.2.2.2.1>x.2.1)=true then(c_fail (5,z11.2.2.2.2)).bind fun z50=>dn (.inr z50)else dn (.inl (z11.2.2.2.1,w (z11.2.2.2.2.1+1),z11.2.2.2.2.2))
theorem n_number{β:Type}(c_next c_fail)(x)(dn:g_number→Option β):t_number c_next c_fail x dn=(t_number c_next c_fail x some).bind dn:=by
 unfold t_number
 repeat' first|exact n0|refine n1 fun _=>?_|refine n2 ?_ ?_|refine n3 (fun _=>?_) fun _=>?_|rfl
theorem r_number(c_next c_fail)(x):callK E5 (ftb 18 A_next R_next c_next (ftb 34 A_fail R_fail c_fail ca0)) lo0 80 (A_number x).1 (A_number x).2 K=t_number (vf A_next c_next) (vf A_fail c_fail) x (fun z=>some (.c (R_number z))):=by kernel_rfl
noncomputable def number(q:Nat)(x:a_number):Option g_number:=t_number (next q) (fail q) x some
theorem sc_number(q:Nat):Lw E5 80 A_number R_number (number q):=sof hW5 hX5 (fk (sc_next q) (fk (sc_fail q) ca0_sound)) (fun _=>lo0_sound) fun x=>(r_number (next q) (fail q) x).trans (by rw[v_next,v_fail,n_number]<;>rfl)
end Go.Proofs.YtjfkkokeegpeiaaDoor
/- The library's builder, in a block of the printer's type: copyCheck, String. -/
namespace Go.Proofs.YtjfkkokeegpeiaaDoor
open Go Go.Am Go.RowKit Go.Shelf
set_option maxRecDepth 100000
section
variable {P:Program} {ρ:Ren}
set_option maxHeartbeats 1000000 in
theorem any_copyCheck_used(L:Lays.n240 P ρ){j:TypeInfo}(hj:P.info? (ρ.t 72)=some j)(b:Nat)(w:World)(h0:w.cell? ⟨b,0,none⟩=some (.pointer (some ⟨b,0,none⟩))):
 Calls P (ρ.f 240) #[.pointer (some ⟨b,0,none⟩)] w fun e w'=>e= .returned (.tuple #[])∧w'=w:=by
 have mixed:=L.mixed
 have t72:=L.t72;have a72:=L.a72;have z72:=L.z72;have v72:=L.v72;have u72:=run_underlying L.t72
 have t70:=L.t70;have a70:=L.a70;have z70:=L.z70;have v70:=L.v70;have u70:=run_underlying L.t70
 have t9:=L.t9;have a9:=L.a9;have z9:=L.z9;have v9:=L.v9;have u9:=run_underlying L.t9
 have t4:=L.t4;have a4:=L.a4;have z4:=L.z4;have v4:=L.v4;have u4:=run_underlying L.t4
 have t164:=L.t164;have a164:=L.a164;have z164:=L.z164;have v164:=L.v164;have u164:=run_underlying L.t164
 go_enter L.f240,Body.n240_ntmps ρ
 go_wp2
 rw[Lib.run_neq_ptr_same w _ L.t70 hj]
 go_wp2
 go_end0
 exact⟨rfl,rfl⟩
set_option maxHeartbeats 1000000 in
theorem any_copyCheck_fresh(L:Lays.n240 P ρ){j:TypeInfo}(hj:P.info? (ρ.t 72)=some j)(hjs:j.size=2){T:TypeId}(hl:liesAt P P.depth T (2/P.cellsOf T) 0 (ρ.t 72) 1=true)(b:Nat)(w:World)(h0:w.cell? ⟨b,0,none⟩=some (.pointer none))(hsh:w.shape? b=some (T,2))(hfz:w.frozen? ⟨b,0,none⟩=false):
 Calls P (ρ.f 240) #[.pointer (some ⟨b,0,none⟩)] w fun e w'=>e= .returned (.tuple #[])∧w'=w.setCell ⟨b,0,none⟩ (.pointer (some ⟨b,0,none⟩)):=by
 have mixed:=L.mixed
 have t72:=L.t72;have a72:=L.a72;have z72:=L.z72;have v72:=L.v72;have u72:=run_underlying L.t72
 have t70:=L.t70;have a70:=L.a70;have z70:=L.z70;have v70:=L.v70;have u70:=run_underlying L.t70
 have t9:=L.t9;have a9:=L.a9;have z9:=L.z9;have v9:=L.v9;have u9:=run_underlying L.t9
 have t4:=L.t4;have a4:=L.a4;have z4:=L.z4;have v4:=L.v4;have u4:=run_underlying L.t4
 have t164:=L.t164;have a164:=L.a164;have z164:=L.z164;have v164:=L.v164;have u164:=run_underlying L.t164
 go_enter L.f240,Body.n240_ntmps ρ
 go_wp2
 rw[Lib.run_to_unsafe w ⟨b,0,none⟩ L.t70 L.t164 hj (by rw[hjs];decide) hsh (Nat.zero_lt_succ 1)]
 simp only[Result.andThen]
 rw[Oper.upon_value]
 go_wp2
 rw[run_callFunc_extern L.f276 (by kernel_rfl) (by kernel_rfl) (by kernel_rfl) (e:=Extern.AbiNoEscape.same) (by kernel_rfl)]
 rw[Lib.run_noEscape]
 simp only[Result.andThen]
 rw[Oper.upon_value]
 go_wp2
 rw[Lib.run_from_unsafe w ⟨b,0,none⟩ L.t164 L.t70 hj hsh hl]
 simp only[Result.andThen]
 rw[Oper.upon_value]
 go_wp2
 go_end0
 exact⟨rfl,rfl⟩
set_option maxHeartbeats 2000000 in
theorem any_String_row(L:Lays.n169 P ρ)(X:Builder.Extra P ρ)(b g cap len:Nat)(cur:Array Value)(w:World)(l:List UInt8)(hlen:l.length=len)(h0:l≠[])(c1':w.drew.cell? ⟨b,1,none⟩=some (.slice (some ⟨g,0,none⟩) len cap))(hg:w.heap[g]? =some (.cells cur (ρ.t 5) (0,0)))
 (hcm:cap≤maxLen) (hnc:len≤cap) (hcs:cur.size=cap) (hcell:∀j x,l[j]? =some x→w.cell? ⟨g,j,none⟩=some (.int .u8 x.toNat)):
 Calls P (ρ.f 169) #[.pointer (some ⟨b,0,none⟩)] w fun e w'=>e= .returned (.string ⟨l.toArray⟩)∧w'=w.drew.freeze ⟨g,0,none⟩ len:=by
 subst hlen
 have hl0:l.length≠0:=by simpa using h0
 have c1:=c1'
 have hSD:(Builtin.unsafeSliceData_ #[(ρ.t 37)] (ρ.t 127) #[.slice (some ⟨g,0,none⟩) l.length cap]).run P w.drew= .ok (.pointer (some ⟨g,0,none⟩)) w.drew:=
  Lib.run_unsafeSliceData_row _ _ _ _ _ _ (by omega)
 have hUS:(Builtin.unsafeString_ #[(ρ.t 127),(ρ.t 3)] (ρ.t 9) #[.pointer (some ⟨g,0,none⟩),.int .i64 l.length]).run P w.drew= .ok (.string ⟨l.toArray⟩) (w.drew.freeze ⟨g,0,none⟩ l.length):=by
  refine Lib.run_unsafeString_row w.drew (ρ.t 127) (ρ.t 3) (ρ.t 9) (ρ.t 5) L.t127 X.cellsByte g cur.size (by have hg':w.drew.heap[g]? =some (.cells cur (ρ.t 5) (0,0)):=hg;simp[World.shape?,hg']) l h0 (by omega) (by unfold maxLen at hcm;omega) ?_
  intro j x hx
  have:=hcell j x hx
  rw[add_lit,Nat.zero_add]
  exact this
 have mixed:=L.mixed
 have t72:=L.t72;have a72:=L.a72;have z72:=L.z72;have v72:=L.v72;have u72:=run_underlying L.t72
 have t70:=L.t70;have a70:=L.a70;have z70:=L.z70;have v70:=L.v70;have u70:=run_underlying L.t70
 have t37:=L.t37;have a37:=L.a37;have z37:=L.z37;have v37:=L.v37;have u37:=run_underlying L.t37
 have t127:=L.t127;have a127:=L.a127;have z127:=L.z127;have v127:=L.v127;have u127:=run_underlying L.t127
 have t3:=L.t3;have a3:=L.a3;have z3:=L.z3;have v3:=L.v3;have u3:=run_underlying L.t3
 have t9:=L.t9;have a9:=L.a9;have z9:=L.z9;have v9:=L.v9;have u9:=run_underlying L.t9
 have t5:=X.t5;have a5:=X.a5;have z5:=X.z5;have v5:=X.v5;have u5:=run_underlying X.t5
 go_enter L.f169,Body.n169_ntmps ρ
 go_wp2
 go_region_o
 all_goals (go_wp2;go_ret;exact⟨rfl,rfl⟩)
end
theorem lays240:Lays.n240 Tryd.prog Tryd.lays105_ren:={Tryd.lays105 with}
theorem lays169:Lays.n169 Tryd.prog Tryd.lays105_ren:={Tryd.lays105 with}
theorem bld_info:∃j,Tryd.prog.info? 62=some j∧j.size=2:=⟨_,rfl,by kernel_rfl⟩
theorem bld_lies:liesAt Tryd.prog Tryd.prog.depth 64 (2/Tryd.prog.cellsOf 64) 0 62 1=true:=by kernel_rfl
theorem cc_used(b:Nat)(w:World)(h0:w.cell? ⟨b,0,none⟩=some (.pointer (some ⟨b,0,none⟩))):Calls Tryd.prog 49 #[.pointer (some ⟨b,0,none⟩)] w fun e w'=>e= .returned (.tuple #[])∧w'=w:=by
 obtain⟨j,hj,_⟩:=bld_info
 exact any_copyCheck_used lays240 hj b w h0
theorem cc_fresh(b:Nat)(w:World)(h0:w.cell? ⟨b,0,none⟩=some (.pointer none))(hsh:w.shape? b=some (64,2))(hfz:w.frozen? ⟨b,0,none⟩=false):
 Calls Tryd.prog 49 #[.pointer (some ⟨b,0,none⟩)] w fun e w'=>e= .returned (.tuple #[])∧w'=w.setCell ⟨b,0,none⟩ (.pointer (some ⟨b,0,none⟩)):=by
 obtain⟨j,hj,hs⟩:=bld_info
 exact any_copyCheck_fresh lays240 hj hs bld_lies b w h0 hsh hfz
theorem str_row(b g cap len:Nat)(cur:Array Value)(w:World)(l:List UInt8)(hlen:l.length=len)(h0:l≠[])(c1:w.drew.cell? ⟨b,1,none⟩=some (.slice (some ⟨g,0,none⟩) len cap))(hg:w.heap[g]? =some (.cells cur 5 (0,0)))
 (hcm:cap≤maxLen) (hnc:len≤cap) (hcs:cur.size=cap) (hcell:∀j x,l[j]? =some x→w.cell? ⟨g,j,none⟩=some (.int .u8 x.toNat)):
 Calls Tryd.prog 23 #[.pointer (some ⟨b,0,none⟩)] w fun e w'=>e= .returned (.string ⟨l.toArray⟩)∧w'=w.drew.freeze ⟨g,0,none⟩ len:=
 any_String_row lays169 Tryd.Builder_Extra_105 b g cap len cur w l hlen h0 c1 hg hcm hnc hcs hcell
end Go.Proofs.YtjfkkokeegpeiaaDoor
/- The library's builder, in a block of the printer's type: laws over memory. -/
namespace Go.Proofs.YtjfkkokeegpeiaaDoor
open Go Go.Am Go.RowKit
set_option maxRecDepth 100000
theorem tbk_two{β:Bt}{S D:Pr}{w:World}{b m:Nat}{c0 v:V}(h:chunkRel β S w D b m (.tbk 64 [c0,v])):0<m∧∃x y,w.heap[b]? =some (.cells #[x,y] 64 (0,0))∧den β S w D c0 x∧den β S w D v y∧x.oneCell'=true∧y.oneCell'=true:=by
 simp only[chunkRel]at h
 obtain⟨h0,us,h1,h2,h3⟩:=h
 simp only[denL]at h2
 obtain⟨x,_,rfl,hx,y,_,rfl,hy,rfl⟩:=h2
 simp only[List.all_cons,List.all_nil,Bool.and_true,Bool.and_eq_true]at h3
 exact⟨h0,x,y,h1,hx,hy,h3.1,h3.2⟩
theorem cc_used_sc{E:Env}(hP:E.P=Tryd.prog)(v:V)(rest:List (Option Chunk)):SC E 49 [.ptr 0 0] (some (.tbk 64 [.ptr 0 0,v])::rest) (.ret (.tup []) (some (.tbk 64 [.ptr 0 0,v])::rest)):=by
 refine⟨by rw[hP];exact⟨_,Tryd.func49,by kernel_rfl,by intro e;exact absurd e (by decide+kernel)⟩,fun β S w us hd hM hG=>?_⟩
 rw[hP]
 obtain⟨b,m,hb,hc⟩:=hM.live 0 (.tbk 64 [.ptr 0 0,v]) rfl
 obtain⟨h0,x,y,h1,hx,hy,_,_⟩:=tbk_two hc
 simp only[denL]at hd
 obtain⟨u,_,rfl,hu,rfl⟩:=hd
 simp only[den]at hu hx
 have hu:=hu.2 b m hb
 have hx:=hx.2 b m hb
 subst hu hx
 refine(cc_used b w (by simp[World.cell?,h1])).mono ?_
 rintro e w' ⟨rfl,rfl⟩
 exact⟨_,β,S,rfl,hM,by simp only[den,denL];exact⟨[],rfl,rfl⟩,Evo.refl _ _ _,fun i bm hi h=>h⟩
theorem cc_fresh_sc{E:Env}(hP:E.P=Tryd.prog)(v:V)(rest:List (Option Chunk)):SC E 49 [.ptr 0 0] (some (.tbk 64 [.sc (.pointer none),v])::rest) (.ret (.tup []) (some (.tbk 64 [.ptr 0 0,v])::rest)):=by
 refine⟨by rw[hP];exact⟨_,Tryd.func49,by kernel_rfl,by intro e;exact absurd e (by decide+kernel)⟩,fun β S w us hd hM hG=>?_⟩
 rw[hP]
 obtain⟨b,m,hb,hc⟩:=hM.live 0 (.tbk 64 [.sc (.pointer none),v]) rfl
 obtain⟨h0,x,y,h1,hx,hy,o1,o2⟩:=tbk_two hc
 simp only[denL]at hd
 obtain⟨u,_,rfl,hu,rfl⟩:=hd
 simp only[den]at hu hx
 have hu':=hu.2 b m hb
 subst hu' hx
 refine(cc_fresh b w (by simp[World.cell?,h1]) (by simp[World.shape?,h1]) (by simp[World.frozen?,h1])).mono ?_
 rintro e w' ⟨rfl,rfl⟩
 have hg:w.grownBy (w.setCell ⟨b,0,none⟩ (.pointer (some ⟨b,0,none⟩))) (some b):=⟨rfl,rfl,rfl,by simp[World.setCell],fun k _ hk=>Below.heap_setCell _ _ _ _ (fun e=>hk (by simp[e]))⟩
 have hk:Kept S w (w.setCell ⟨b,0,none⟩ (.pointer (some ⟨b,0,none⟩))):=fun z hz=>hg.block z (hM.st z hz) (fun e=>by cases e;exact(hM.own 0 b m hb h0).2 hz)
 obtain⟨q1,q2⟩:=hM.put (c':=.tbk 64 [.ptr 0 0,v]) rfl hb h0 hg (by
  simp only[chunkRel]
  refine⟨h0,[.pointer (some ⟨b,0,none⟩),y],?_,?_,?_⟩
  ·simp[World.setCell,Array.getElem?_modify,h1]
  ·simp only[denL]
   refine⟨_,_,rfl,?_,_,_,rfl,den_later (fun _ _=>.inl rfl) (fun _ h=>h) (fun _ h=>h) hk _ _ hy,rfl⟩
   simp only[den]
   exact hu
  ·simp only[List.all_cons,List.all_nil,Bool.and_true,Bool.and_eq_true]
   exact⟨rfl,o2⟩)
 refine⟨_,β,S,rfl,?_,by simp only[den,denL];exact⟨[],rfl,rfl⟩,q2,fun i bm hi h=>h⟩
 have e:hp (some (.tbk 64 [.ptr 0 0,v])::rest)=upd (hp (some (.tbk 64 [.sc (.pointer none),v])::rest)) 0 (some (.tbk 64 [.ptr 0 0,v])):=upd_hp (some (.tbk 64 [.sc (.pointer none),v])::rest) 0 _ (by simp)
 rw[e]
 exact q1
theorem row_of{β:Bt}{S D:Pr}{w:World}{b m n:Nat}{f:Nat→List V}{l:List UInt8}(h:chunkRel β S w D b m (.row 5 1 n f))(hl:l.length=n)(hn:l≠[])(hf:∀j x,l[j]? =some x→f j=[.sc (.int .u8 ((x.toNat:Nat):Int))]):
 n≤m∧m≤maxLen∧0<m∧∃cur:Array Value,w.heap[b]? =some (.cells cur 5 (0,0))∧cur.size=m∧∀j x,l[j]? =some x→w.cell? ⟨b,j,none⟩=some (.int .u8 x.toNat):=by
 simp only[chunkRel]at h
 obtain⟨h1,h2,h3,h4⟩:=h
 have h0:0<n:=by
  rw[←hl]
  exact List.length_pos_iff.2 hn
 obtain⟨cur,k1,k2,k3⟩:=h4 (by omega)
 refine⟨h1,h2,by omega,cur,k1,by simpa using k2,fun j x hx=>?_⟩
 have hj:j<n:=by rw[←hl];exact(List.getElem?_eq_some_iff.1 hx).1
 obtain⟨us,g1,_,_,_,g5⟩:=k3 j hj
 rw[hf j x hx]at g1
 simp only[denL,den]at g1
 obtain⟨_,_,rfl,rfl,rfl⟩:=g1
 have:=g5 0 _ rfl
 simp only[World.cell?,k1]
 simpa using this
theorem str_sc{E:Env}(hP:E.P=Tryd.prog)(c0:V){n:Nat}{f:Nat→List V}{l:List UInt8}(hl:l.length=n)(hn:l≠[])(hf:∀j x,l[j]? =some x→f j=[.sc (.int .u8 ((x.toNat:Nat):Int))]):
 SC E 23 [.ptr 0 0] [some (.tbk 64 [c0,.sl 1 1 0 n]),some (.row 5 1 n f)] (.ret (st ⟨l.toArray⟩) [none,none]):=by
 refine⟨by rw[hP];exact⟨_,Tryd.func23,by kernel_rfl,by intro e;exact absurd e (by decide+kernel)⟩,fun β S w us hd hM hG=>?_⟩
 rw[hP]
 obtain⟨b,m,hb,hc⟩:=hM.live 0 (.tbk 64 [c0,.sl 1 1 0 n]) rfl
 obtain⟨g,M,hg,hr⟩:=hM.live 1 (.row 5 1 n f) rfl
 obtain⟨h0,x,y,h1,hx,hy,_,_⟩:=tbk_two hc
 obtain⟨r1,r2,r3,cur,r4,r5,r6⟩:=row_of hr hl hn hf
 simp only[denL]at hd
 obtain⟨u,_,rfl,hu,rfl⟩:=hd
 simp only[den]at hu hy
 have hu:=hu.2 b m hb
 obtain⟨g1,B,hyu,g2⟩:=hy.2 g M hg
 simp only[Nat.zero_mul,Nat.sub_zero,Nat.zero_add]at hyu g1 g2
 rw[g2 r3]at hyu
 subst hu hyu
 refine(str_row b g M n cur w l hl hn (by
  show w.cell? ⟨b,1,none⟩=_
  simp[World.cell?,h1]) r4 r2 r1 r5 r6).mono ?_
 rintro e w' ⟨rfl,rfl⟩
 have hfz:∀k,k≠g→(w.drew.freeze ⟨g,0,none⟩ n).heap[k]? =w.heap[k]? :=by
  intro k hk
  unfold World.freeze
  split
  ·rfl
  ·simp only[Array.getElem?_modify]
   rw[if_neg (fun e=>hk e.symm)]
   rfl
 have hsz:(w.drew.freeze ⟨g,0,none⟩ n).heap.size=w.heap.size:=by
  unfold World.freeze
  split
  ·rfl
  ·simp only[Array.size_modify]
   rfl
 have ho:(w.drew.freeze ⟨g,0,none⟩ n).os=w.os∧(w.drew.freeze ⟨g,0,none⟩ n).tape=w.tape∧(w.drew.freeze ⟨g,0,none⟩ n).output=w.output:=by
  unfold World.freeze
  split<;>exact⟨rfl,rfl,rfl⟩
 refine⟨_,fun _=>none,S,rfl,⟨fun i c hc=>?_,fun i _=>rfl,fun i b m h=>(by cases h),fun i b m h=>(by cases h),fun i j b m m' h=>(by cases h),fun z hz=>by rw[hsz];exact hM.st z hz⟩,by simp only[den],⟨ho.1,ho.2.1,ho.2.2,by rw[hsz];exact Nat.le_refl _,fun z hz hn=>hfz z (fun e=>by subst e;exact hn 1 M r3 hg),fun _ h=>h,fun _ h=>.inl h,fun i b m h=>(by cases h)⟩,fun i bm hi h=>(by cases h)⟩
 match i with
 |0=>cases hc
 |1=>cases hc
 |i+2=>simp[hp]at hc
end Go.Proofs.YtjfkkokeegpeiaaDoor
/- Expressions, lifted. -/
namespace Go.Proofs.YtjfkkokeegpeiaaDoor
open Go Go.Am Go.Proofs
set_option maxRecDepth 100000
theorem cv_z{f:FuncId}{args:List V}{L H:List (Option Chunk)}{a b:Int}{s:ByteArray}{g:Nat→List V}(h:SC E5 f args L (.ret (.agg [i64 a,i64 b,st s,nilS]) H)):SC E5 f args L (.ret (.agg [i64 a,i64 b,st s,.ro 4 0 g]) H):=
 SC.le h (Le.agg (LeL.cons (Le.refl _) (LeL.cons (Le.refl _) (LeL.cons (Le.refl _) (LeL.cons Le.nil_ro LeL.nil)))))
theorem cv_r{f:FuncId}{args:List V}{L:List (Option Chunk)}{a b pa po:Int}{s:ByteArray}{tn nv np m:Nat}{tf vf pf g:Nat→List V}
 (h:SC E5 f args L (.ret (.agg [i64 a,i64 b,st s,.sl 3 4 0 m]) [some (.blk [.ro 4 tn tf,i64 pa,i64 po,.sl 1 1 0 nv,.sl 2 1 0 np]),some (.row 9 1 nv vf),some (.row 9 1 np pf),some (.row 40 4 m g)])):
 SC E5 f args L (.ret (.agg [i64 a,i64 b,st s,.ro 4 m g]) [some (.blk [.ro 4 tn tf,i64 pa,i64 po,.sl 1 1 0 nv,.sl 2 1 0 np]),some (.row 9 1 nv vf),some (.row 9 1 np pf)]):=by
 have h2:=SC.giveM (L2:=[some (.blk [.ro 4 tn tf,i64 pa,i64 po,.sl 1 1 0 nv,.sl 2 1 0 np]),some (.row 9 1 nv vf),some (.row 9 1 np pf)]) 3 h (by rfl) (by simp[V.bw,V.bw2,V.bw1,hp,V.pure,pureL])
 simpa[V.bw,V.bw2,V.bw1,hp]using h2
theorem cv_k{f:FuncId}{args:List V}{L:List (Option Chunk)}{a b pa po:Int}{s:ByteArray}{tn nv np m:Nat}{tf vf pf g:Nat→List V}
 (h:SC E5 f args L (.ret (.agg [i64 a,i64 b,st s,.sl 3 4 0 m]) [some (.blk [.ro 4 tn tf,i64 pa,i64 po,.sl 1 1 0 nv,.sl 2 1 0 np]),some (.row 9 1 nv vf),some (.row 9 1 np pf),some (.row 40 4 m g)])):
 SC E5 f args L (.ret (.agg [i64 a,i64 b,st s,.ro 4 m g]) [some (.blk [.ro 4 tn tf,i64 pa,i64 po,.sl 1 1 0 nv,.sl 2 1 0 np]),some (.row 9 1 nv vf),some (.row 9 1 np pf)]):=cv_r h
theorem cv_F{f:FuncId}{args:List V}{L:List (Option Chunk)}{a b pa po:Int}{s:ByteArray}{tn nv np m:Nat}{tf vf pf g:Nat→List V}
 (h:SC E5 f args L (.ret (.agg [i64 a,i64 b,st s,.sl 3 4 0 m]) [some (.blk [.ro 4 tn tf,i64 pa,i64 po,.sl 1 1 0 nv,.sl 2 1 0 np]),some (.row 9 1 nv vf),some (.row 9 1 np pf),some (.row 40 4 m g)])):
 SC E5 f args L (.ret (.agg [i64 a,i64 b,st s,.ro 4 m (fun j=>fixC (g j))]) [some (.blk [.ro 4 tn tf,i64 pa,i64 po,.sl 1 1 0 nv,.sl 2 1 0 np]),some (.row 9 1 nv vf),some (.row 9 1 np pf)]):=
 SC.le (cv_r h) (Le.agg (LeL.cons (Le.refl _) (LeL.cons (Le.refl _) (LeL.cons (Le.refl _) (LeL.cons Le.ro_fix LeL.nil)))))
abbrev a_literalR:Type:=SP
abbrev g_literalR:Type:=(Int×Int×ByteArray×SP)⊕(Int×Int)
def A_literalR:AR a_literalR:=fun x=>([.ptr 0 0],(hHP x))
def R_literalR:g_literalR→CRes:=Sum.elim (fun z:Int×Int×ByteArray×SP=>.ret (.agg [i64 z.1,i64 z.2.1,st z.2.2.1,nilS]) (hHP z.2.2.2)) (fun z:Int×Int=>.pan (.ifc 51 (.agg [i64 z.1,i64 z.2])))
def t_literalR{β:Type}(c_number:a_number→Option g_number)(c_next:a_next→Option g_next)(c_Lookup:a_Lookup→Option g_Lookup)(x:a_literalR)(dn:g_literalR→Option β):Option β:=
 (c_number (0,2147483647,x)).bind fun z13=>Sum.elim (fun z13a=>(c_next z13a.2).bind fun z25=>if(z25.1==1)=true then(c_Lookup z25.2.2.1).bind fun z27=>if z27.2.2.2.2.2.2=true then dn (.inl (15,z13a.1,z25.2.2.1,w (z25.2.2.2.2.1+1),z25.2.2.2.2.2))else dn (.inl (15,z13a.1,⟨#[]⟩,z25.2.2.2.2))else dn (.inl (15,z13a.1,⟨#[]⟩,z25.2.2.2.2))) (fun z13b=>dn (.inr z13b)) z13
theorem n_literalR{β:Type}(c_number c_next c_Lookup)(x)(dn:g_literalR→Option β):t_literalR c_number c_next c_Lookup x dn=(t_literalR c_number c_next c_Lookup x some).bind dn:=by
 unfold t_literalR
 repeat' first|exact n0|refine n1 fun _=>?_|refine n2 ?_ ?_|refine n3 (fun _=>?_) fun _=>?_|rfl
theorem r_literalR(c_number c_next c_Lookup)(x):callK E5 (ft2 80 A_number R_number c_number (ftb 18 A_next R_next c_next (ftb 16 A_Lookup R_Lookup c_Lookup ca0))) lo0 81 (A_literalR x).1 (A_literalR x).2 K=t_literalR (vf A_number c_number) (vf A_next c_next) (vf A_Lookup c_Lookup) x (fun z=>some (.c (R_literalR z))):=by kernel_rfl
noncomputable def literalR(q:Nat)(x:a_literalR):Option g_literalR:=t_literalR (number q) (next q) (Lookup q) x some
theorem sc_literalR(q:Nat):Lw E5 81 A_literalR R_literalR (literalR q):=sof hW5 hX5 (fk2 (sc_number q) (fk (sc_next q) (fk (sc_Lookup q) ca0_sound))) (fun _=>lo0_sound) fun x=>(r_literalR (number q) (next q) (Lookup q) x).trans (by rw[v_number,v_next,v_Lookup,n_literalR]<;>rfl)
abbrev a_literal:Type:=SP
abbrev g_literal:Type:=(Int×Int×ByteArray×Nat×FL×SP)⊕(Int×Int)
def A_literal:AR a_literal:=fun x=>([.ptr 0 0],(hHP x))
def d_literal(t:TT):a_literal:=(dHP t.2)
theorem v_literal:VI A_literal:=vd d_literal fun _=>rfl
def R_literal:g_literal→CRes:=Sum.elim (fun z:Int×Int×ByteArray×Nat×FL×SP=>.ret (.agg [i64 z.1,i64 z.2.1,st z.2.2.1,.ro 4 z.2.2.2.1 z.2.2.2.2.1]) (hHP z.2.2.2.2.2)) (fun z:Int×Int=>.pan (.ifc 51 (.agg [i64 z.1,i64 z.2])))
def cv_literal:g_literalR→g_literal:=Sum.elim (fun z=>.inl (z.1,z.2.1,z.2.2.1,0,fun _=>[],z.2.2.2)) (fun z=>.inr z)
theorem cvs_literal{args:List V}{L:List (Option Chunk)}(z:g_literalR)(h:SC E5 81 args L (R_literalR z)):SC E5 81 args L (R_literal (cv_literal z)):=by
 rcases z with z|z
 ·exact cv_z h
 ·exact h
noncomputable def literal(q:Nat)(x:a_literal):Option g_literal:=(literalR q x).map cv_literal
theorem sc_literal(q:Nat):Lw E5 81 A_literal R_literal (literal q):=by
 intro x z h
 obtain⟨y,hy,rfl⟩:=Option.map_eq_some_iff.1 h
 exact cvs_literal y (sc_literalR q x y hy)
abbrev a_expr:Type:=Int×SP
abbrev g_expr:Type:=(Int×Int×ByteArray×Nat×FL×SP)⊕(Int×Int)
def A_expr:AR a_expr:=fun x=>([.ptr 0 0,i64 x.1],(hHP x.2))
def d_expr(t:TT):a_expr:=((vI (ag t 1)),dHP t.2)
theorem v_expr:VI A_expr:=vd d_expr fun _=>rfl
def R_expr:g_expr→CRes:=Sum.elim (fun z:Int×Int×ByteArray×Nat×FL×SP=>.ret (.agg [i64 z.1,i64 z.2.1,st z.2.2.1,.ro 4 z.2.2.2.1 z.2.2.2.2.1]) (hHP z.2.2.2.2.2)) (fun z:Int×Int=>.pan (.ifc 51 (.agg [i64 z.1,i64 z.2])))
abbrev a_unary:Type:=ByteArray×Int×SP
abbrev g_unary:Type:=(Int×Int×ByteArray×Nat×FL×SP)⊕(Int×Int)
def A_unary:AR a_unary:=fun x=>([.ptr 0 0,st x.1,i64 x.2.1],(hHP x.2.2))
def d_unary(t:TT):a_unary:=((vS (ag t 1)),vI (ag t 2),dHP t.2)
theorem v_unary:VI A_unary:=vd d_unary fun _=>rfl
def R_unary:g_unary→CRes:=Sum.elim (fun z:Int×Int×ByteArray×Nat×FL×SP=>.ret (.agg [i64 z.1,i64 z.2.1,st z.2.2.1,.ro 4 z.2.2.2.1 z.2.2.2.2.1]) (hHP z.2.2.2.2.2)) (fun z:Int×Int=>.pan (.ifc 51 (.agg [i64 z.1,i64 z.2])))
abbrev a_primary:Type:=SP
abbrev g_primary:Type:=(Int×Int×ByteArray×Nat×FL×SP)⊕(Int×Int)
def A_primary:AR a_primary:=fun x=>([.ptr 0 0],(hHP x))
def d_primary(t:TT):a_primary:=(dHP t.2)
theorem v_primary:VI A_primary:=vd d_primary fun _=>rfl
def R_primary:g_primary→CRes:=Sum.elim (fun z:Int×Int×ByteArray×Nat×FL×SP=>.ret (.agg [i64 z.1,i64 z.2.1,st z.2.2.1,.ro 4 z.2.2.2.1 z.2.2.2.2.1]) (hHP z.2.2.2.2.2)) (fun z:Int×Int=>.pan (.ifc 51 (.agg [i64 z.1,i64 z.2])))
abbrev a_exprR:Type:=Int×SP
abbrev g_exprR:Type:=(Int×Int×ByteArray×Nat×FL×SP)⊕(Int×Int)⊕(Int×Int×ByteArray×Int×Int×ByteArray×Nat×FL×Int×Int×ByteArray×Nat×FL×SP)
def A_exprR:AR a_exprR:=fun x=>([.ptr 0 0,i64 x.1],(hHP x.2))
def R_exprR:g_exprR→CRes:=Sum.elim (fun z:Int×Int×ByteArray×Nat×FL×SP=>.ret (.agg [i64 z.1,i64 z.2.1,st z.2.2.1,.ro 4 z.2.2.2.1 z.2.2.2.2.1]) (hHP z.2.2.2.2.2)) (Sum.elim (fun z:Int×Int=>.pan (.ifc 51 (.agg [i64 z.1,i64 z.2]))) (fun z:Int×Int×ByteArray×Int×Int×ByteArray×Nat×FL×Int×Int×ByteArray×Nat×FL×SP=>.ret (.agg [i64 z.1,i64 z.2.1,st z.2.2.1,.sl 3 4 0 2]) [some (.blk [.ro 4 z.2.2.2.2.2.2.2.2.2.2.2.2.2.2.2.1 (fun j=>[i64 (z.2.2.2.2.2.2.2.2.2.2.2.2.2.2.2.2.1 j),i64 (z.2.2.2.2.2.2.2.2.2.2.2.2.2.2.2.2.2.1 j),st (z.2.2.2.2.2.2.2.2.2.2.2.2.2.2.2.2.2.2.1 j),i64 (z.2.2.2.2.2.2.2.2.2.2.2.2.2.2.2.2.2.2.2.1 j)]),i64 z.2.2.2.2.2.2.2.2.2.2.2.2.2.1,i64 z.2.2.2.2.2.2.2.2.2.2.2.2.2.2.1,.sl 1 1 0 z.2.2.2.2.2.2.2.2.2.2.2.2.2.2.2.2.2.2.2.2.1,.sl 2 1 0 z.2.2.2.2.2.2.2.2.2.2.2.2.2.2.2.2.2.2.2.2.2.2.1]),some (.row 9 1 z.2.2.2.2.2.2.2.2.2.2.2.2.2.2.2.2.2.2.2.2.1 (fun j=>[st (z.2.2.2.2.2.2.2.2.2.2.2.2.2.2.2.2.2.2.2.2.2.1 j)])),some (.row 9 1 z.2.2.2.2.2.2.2.2.2.2.2.2.2.2.2.2.2.2.2.2.2.2.1 (fun j=>[st (z.2.2.2.2.2.2.2.2.2.2.2.2.2.2.2.2.2.2.2.2.2.2.2 j)])),some (.row 40 4 2 (selL [[i64 z.2.2.2.1,i64 z.2.2.2.2.1,st z.2.2.2.2.2.1,.ro 4 z.2.2.2.2.2.2.1 z.2.2.2.2.2.2.2.1],[i64 z.2.2.2.2.2.2.2.2.1,i64 z.2.2.2.2.2.2.2.2.2.1,st z.2.2.2.2.2.2.2.2.2.2.1,.ro 4 z.2.2.2.2.2.2.2.2.2.2.2.1 z.2.2.2.2.2.2.2.2.2.2.2.2.1]]))]))
abbrev a_unaryR:Type:=ByteArray×Int×SP
abbrev g_unaryR:Type:=(Int×Int×ByteArray×Int×Int×ByteArray×Nat×FL×SP)⊕(Int×Int)
def A_unaryR:AR a_unaryR:=fun x=>([.ptr 0 0,st x.1,i64 x.2.1],(hHP x.2.2))
def R_unaryR:g_unaryR→CRes:=Sum.elim (fun z:Int×Int×ByteArray×Int×Int×ByteArray×Nat×FL×SP=>.ret (.agg [i64 z.1,i64 z.2.1,st z.2.2.1,.sl 3 4 0 1]) [some (.blk [.ro 4 z.2.2.2.2.2.2.2.2.2.2.1 (fun j=>[i64 (z.2.2.2.2.2.2.2.2.2.2.2.1 j),i64 (z.2.2.2.2.2.2.2.2.2.2.2.2.1 j),st (z.2.2.2.2.2.2.2.2.2.2.2.2.2.1 j),i64 (z.2.2.2.2.2.2.2.2.2.2.2.2.2.2.1 j)]),i64 z.2.2.2.2.2.2.2.2.1,i64 z.2.2.2.2.2.2.2.2.2.1,.sl 1 1 0 z.2.2.2.2.2.2.2.2.2.2.2.2.2.2.2.1,.sl 2 1 0 z.2.2.2.2.2.2.2.2.2.2.2.2.2.2.2.2.2.1]),some (.row 9 1 z.2.2.2.2.2.2.2.2.2.2.2.2.2.2.2.1 (fun j=>[st (z.2.2.2.2.2.2.2.2.2.2.2.2.2.2.2.2.1 j)])),some (.row 9 1 z.2.2.2.2.2.2.2.2.2.2.2.2.2.2.2.2.2.1 (fun j=>[st (z.2.2.2.2.2.2.2.2.2.2.2.2.2.2.2.2.2.2 j)])),some (.row 40 4 1 (selL [[i64 z.2.2.2.1,i64 z.2.2.2.2.1,st z.2.2.2.2.2.1,.ro 4 z.2.2.2.2.2.2.1 z.2.2.2.2.2.2.2.1]]))]) (fun z:Int×Int=>.pan (.ifc 51 (.agg [i64 z.1,i64 z.2])))
abbrev a_primaryR:Type:=SP
abbrev g_primaryR:Type:=(Int×Int×ByteArray×Nat×FL×SP)⊕(Int×Int)⊕(Int×Int×ByteArray×SP)
def A_primaryR:AR a_primaryR:=fun x=>([.ptr 0 0],(hHP x))
def R_primaryR:g_primaryR→CRes:=Sum.elim (fun z:Int×Int×ByteArray×Nat×FL×SP=>.ret (.agg [i64 z.1,i64 z.2.1,st z.2.2.1,.ro 4 z.2.2.2.1 z.2.2.2.2.1]) (hHP z.2.2.2.2.2)) (Sum.elim (fun z:Int×Int=>.pan (.ifc 51 (.agg [i64 z.1,i64 z.2]))) (fun z:Int×Int×ByteArray×SP=>.ret (.agg [i64 z.1,i64 z.2.1,st z.2.2.1,nilS]) (hHP z.2.2.2)))
abbrev exprR_l1_a:Type:=(Nat×FI×FI×FS×FI×Int×Int×Nat×Nat×FS×FS×Int×Int×ByteArray×Nat×FL)⊕(Nat×FI×FI×FS×FI×Int×Int×Nat×Nat×FS×FS×ByteArray×Int×Int×ByteArray×Nat×FL×Int×Int×ByteArray×Nat×FL)
abbrev exprR_l1_g:Type:=(Nat×FI×FI×FS×FI×Int×Int×Nat×Nat×FS×FS×ByteArray×Int×Int×ByteArray×Nat×FL×Int×Int×ByteArray×Nat×FL)⊕(Int×Int)⊕(Nat×FI×FI×FS×FI×Int×Int×Nat×Nat×FS×FS×Int×Int×ByteArray×Nat×FL)
def exprR_l1_S0(x:a_exprR)(y:Nat×FI×FI×FS×FI×Int×Int×Nat×Nat×FS×FS×Int×Int×ByteArray×Nat×FL):St:={fr:=[V.ptr 0 0,i64 x.1,V.junk,V.junk,V.ptr 3 0,V.ptr 4 0]++jk 61,H:=hp [some (hPB y),some (hPV y),some (hPQ y),some (Chunk.blk [i64 0,i64 0,st ⟨#[]⟩,nilS]),some (Chunk.blk [i64 y.2.2.2.2.2.2.2.2.2.2.2.1,i64 y.2.2.2.2.2.2.2.2.2.2.2.2.1,st y.2.2.2.2.2.2.2.2.2.2.2.2.2.1,V.ro 4 y.2.2.2.2.2.2.2.2.2.2.2.2.2.2.1 y.2.2.2.2.2.2.2.2.2.2.2.2.2.2.2])],nx:=5,rt:=1,me:=79}
def exprR_l1_d0(s:St):Nat×FI×FI×FS×FI×Int×Int×Nat×Nat×FS×FS×Int×Int×ByteArray×Nat×FL:=((vRoN (cb s 0 0)),dTI (cb s 0 0) 0,dTI (cb s 0 0) 1,dTS (cb s 0 0) 2,dTI (cb s 0 0) 3,vI (cb s 0 1),vI (cb s 0 2),vSlN (cb s 0 3),vSlN (cb s 0 4),dRS (s.H 1) 0,dRS (s.H 2) 0,vI (cb s 4 0),vI (cb s 4 1),vS (cb s 4 2),vRoN (cb s 4 3),vRoF (cb s 4 3))
def exprR_l1_S1(x:a_exprR)(y:Nat×FI×FI×FS×FI×Int×Int×Nat×Nat×FS×FS×ByteArray×Int×Int×ByteArray×Nat×FL×Int×Int×ByteArray×Nat×FL):St:={fr:=[V.ptr 0 0,i64 x.1,V.junk,V.junk,V.ptr 3 0,V.ptr 4 0]++jk 61,H:=hp [some (hPB y),some (hPV y),some (hPQ y),some (Chunk.blk [i64 0,i64 0,st ⟨#[]⟩,nilS]),some (Chunk.blk [i64 20,i64 0,st y.2.2.2.2.2.2.2.2.2.2.2.1,V.sl 5 4 0 2]),some (Chunk.row 40 4 2 (selL [[i64 y.2.2.2.2.2.2.2.2.2.2.2.2.1,i64 y.2.2.2.2.2.2.2.2.2.2.2.2.2.1,st y.2.2.2.2.2.2.2.2.2.2.2.2.2.2.1,V.ro 4 y.2.2.2.2.2.2.2.2.2.2.2.2.2.2.2.1 y.2.2.2.2.2.2.2.2.2.2.2.2.2.2.2.2.1],[i64 y.2.2.2.2.2.2.2.2.2.2.2.2.2.2.2.2.2.1,i64 y.2.2.2.2.2.2.2.2.2.2.2.2.2.2.2.2.2.2.1,st y.2.2.2.2.2.2.2.2.2.2.2.2.2.2.2.2.2.2.2.1,V.ro 4 y.2.2.2.2.2.2.2.2.2.2.2.2.2.2.2.2.2.2.2.2.1 y.2.2.2.2.2.2.2.2.2.2.2.2.2.2.2.2.2.2.2.2.2]]))],nx:=6,rt:=1,me:=79}
def exprR_l1_d1(s:St):Nat×FI×FI×FS×FI×Int×Int×Nat×Nat×FS×FS×ByteArray×Int×Int×ByteArray×Nat×FL×Int×Int×ByteArray×Nat×FL:=((vRoN (cb s 0 0)),dTI (cb s 0 0) 0,dTI (cb s 0 0) 1,dTS (cb s 0 0) 2,dTI (cb s 0 0) 3,vI (cb s 0 1),vI (cb s 0 2),vSlN (cb s 0 3),vSlN (cb s 0 4),dRS (s.H 1) 0,dRS (s.H 2) 0,vS (cb s 4 2),(vI (((chF (s.H 5)) 0).getD 0 .junk)),(vI (((chF (s.H 5)) 0).getD 1 .junk)),(vS (((chF (s.H 5)) 0).getD 2 .junk)),(vRoN (((chF (s.H 5)) 0).getD 3 .junk)),(vRoF (((chF (s.H 5)) 0).getD 3 .junk)),(vI (((chF (s.H 5)) 1).getD 0 .junk)),(vI (((chF (s.H 5)) 1).getD 1 .junk)),(vS (((chF (s.H 5)) 1).getD 2 .junk)),(vRoN (((chF (s.H 5)) 1).getD 3 .junk)),(vRoF (((chF (s.H 5)) 1).getD 3 .junk)))
def exprR_l1_S(x:a_exprR):exprR_l1_a→St:=(Sum.elim (exprR_l1_S0 x) (exprR_l1_S1 x))
def exprR_l1_d(s:St):exprR_l1_a:=(match s.nx==5 with|true=>(.inl (exprR_l1_d0 s)) |false=>(.inr (exprR_l1_d1 s)))
theorem exprR_l1_u(x:a_exprR):VL (exprR_l1_S x):=vl exprR_l1_d (fun y=>by rcases y with y|y<;>rfl)
def exprR_l1_T(x:a_exprR):exprR_l1_g→Ex×St:=(Sum.elim (fun z=>(Ex.exit 1,{fr:=jk 4++[V.ptr 3 0,V.ptr 4 0]++jk 61,H:=hp [some (hPB z),some (hPV z),some (hPQ z),some (Chunk.blk [i64 0,i64 0,st ⟨#[]⟩,nilS]),some (Chunk.blk [i64 20,i64 0,st z.2.2.2.2.2.2.2.2.2.2.2.1,V.sl 5 4 0 2]),some (Chunk.row 40 4 2 (selL [[i64 z.2.2.2.2.2.2.2.2.2.2.2.2.1,i64 z.2.2.2.2.2.2.2.2.2.2.2.2.2.1,st z.2.2.2.2.2.2.2.2.2.2.2.2.2.2.1,V.ro 4 z.2.2.2.2.2.2.2.2.2.2.2.2.2.2.2.1 z.2.2.2.2.2.2.2.2.2.2.2.2.2.2.2.2.1],[i64 z.2.2.2.2.2.2.2.2.2.2.2.2.2.2.2.2.2.1,i64 z.2.2.2.2.2.2.2.2.2.2.2.2.2.2.2.2.2.2.1,st z.2.2.2.2.2.2.2.2.2.2.2.2.2.2.2.2.2.2.2.1,V.ro 4 z.2.2.2.2.2.2.2.2.2.2.2.2.2.2.2.2.2.2.2.2.1 z.2.2.2.2.2.2.2.2.2.2.2.2.2.2.2.2.2.2.2.2.2]]))],nx:=6,rt:=1,me:=79})) (Sum.elim (fun z=>(Ex.panic (V.ifc 51 (V.agg [i64 z.1,i64 z.2])),{fr:=[V.junk]++jk 66,H:=hp [none],nx:=1,rt:=1,me:=79})) (fun z=>(Ex.exit 1,{fr:=jk 4++[V.ptr 3 0,V.ptr 4 0]++jk 61,H:=hp [some (hPB z),some (hPV z),some (hPQ z),some (Chunk.blk [i64 0,i64 0,st ⟨#[]⟩,nilS]),some (Chunk.blk [i64 z.2.2.2.2.2.2.2.2.2.2.2.1,i64 z.2.2.2.2.2.2.2.2.2.2.2.2.1,st z.2.2.2.2.2.2.2.2.2.2.2.2.2.1,V.ro 4 z.2.2.2.2.2.2.2.2.2.2.2.2.2.2.1 z.2.2.2.2.2.2.2.2.2.2.2.2.2.2.2])],nx:=5,rt:=1,me:=79}))))
def exprR_l1_t0{β:Type}(c_is:a_is→Option g_is)(c_unary:a_unary→Option g_unary)(c_primary:a_primary→Option g_primary)(c_expr:a_expr→Option g_expr)(c_next:a_next→Option g_next)(c_levelOf:a_levelOf→Option g_levelOf)(x:a_exprR)(y:Nat×FI×FI×FS×FI×Int×Int×Nat×Nat×FS×FS×Int×Int×ByteArray×Nat×FL)(nx:exprR_l1_a→Option β)(dn:exprR_l1_g→Option β):Option β:=
 (c_next (y.2.2.2.2.2.1,y.2.2.2.2.2.2.1,y.1,y.2.1,y.2.2.1,y.2.2.2.1,y.2.2.2.2.1,y.2.2.2.2.2.2.2.1,y.2.2.2.2.2.2.2.2.2.1,y.2.2.2.2.2.2.2.2.1,y.2.2.2.2.2.2.2.2.2.2.1)).bind fun z765=>(c_levelOf z765.2.2.1).bind fun z767=>if(z767==x.1)=true then(c_next z765.2.2.2.2).bind fun z779=>if(z779.1==3)=true then(c_next z779.2.2.2.2).bind fun z791=>(c_expr (w (x.1+1),w (z791.2.2.2.2.1+1),z791.2.2.2.2.2)).bind fun z804=>Sum.elim (fun z804a=>if(x.1==4)=true then dn (.inl (z804a.2.2.2.2.2.2.2.1,z804a.2.2.2.2.2.2.2.2.1,z804a.2.2.2.2.2.2.2.2.2.1,z804a.2.2.2.2.2.2.2.2.2.2.1,z804a.2.2.2.2.2.2.2.2.2.2.2.1,z804a.2.2.2.2.2.1,z804a.2.2.2.2.2.2.1,z804a.2.2.2.2.2.2.2.2.2.2.2.2.1,z804a.2.2.2.2.2.2.2.2.2.2.2.2.2.2.1,z804a.2.2.2.2.2.2.2.2.2.2.2.2.2.1,z804a.2.2.2.2.2.2.2.2.2.2.2.2.2.2.2,z791.2.2.1,y.2.2.2.2.2.2.2.2.2.2.2.1,y.2.2.2.2.2.2.2.2.2.2.2.2.1,y.2.2.2.2.2.2.2.2.2.2.2.2.2.1,y.2.2.2.2.2.2.2.2.2.2.2.2.2.2.1,y.2.2.2.2.2.2.2.2.2.2.2.2.2.2.2,z804a.1,z804a.2.1,z804a.2.2.1,z804a.2.2.2.1,z804a.2.2.2.2.1))else nx (.inr (z804a.2.2.2.2.2.2.2.1,z804a.2.2.2.2.2.2.2.2.1,z804a.2.2.2.2.2.2.2.2.2.1,z804a.2.2.2.2.2.2.2.2.2.2.1,z804a.2.2.2.2.2.2.2.2.2.2.2.1,z804a.2.2.2.2.2.1,z804a.2.2.2.2.2.2.1,z804a.2.2.2.2.2.2.2.2.2.2.2.2.1,z804a.2.2.2.2.2.2.2.2.2.2.2.2.2.2.1,z804a.2.2.2.2.2.2.2.2.2.2.2.2.2.1,z804a.2.2.2.2.2.2.2.2.2.2.2.2.2.2.2,z791.2.2.1,y.2.2.2.2.2.2.2.2.2.2.2.1,y.2.2.2.2.2.2.2.2.2.2.2.2.1,y.2.2.2.2.2.2.2.2.2.2.2.2.2.1,y.2.2.2.2.2.2.2.2.2.2.2.2.2.2.1,y.2.2.2.2.2.2.2.2.2.2.2.2.2.2.2,z804a.1,z804a.2.1,z804a.2.2.1,z804a.2.2.2.1,z804a.2.2.2.2.1))) (fun z804b=>dn (.inr (.inl z804b))) z804 else dn (.inr (.inr (z779.2.2.2.2.2.2.1,z779.2.2.2.2.2.2.2.1,z779.2.2.2.2.2.2.2.2.1,z779.2.2.2.2.2.2.2.2.2.1,z779.2.2.2.2.2.2.2.2.2.2.1,z779.2.2.2.2.1,z779.2.2.2.2.2.1,z779.2.2.2.2.2.2.2.2.2.2.2.1,z779.2.2.2.2.2.2.2.2.2.2.2.2.2.1,z779.2.2.2.2.2.2.2.2.2.2.2.2.1,z779.2.2.2.2.2.2.2.2.2.2.2.2.2.2,y.2.2.2.2.2.2.2.2.2.2.2)))else dn (.inr (.inr (z765.2.2.2.2.2.2.1,z765.2.2.2.2.2.2.2.1,z765.2.2.2.2.2.2.2.2.1,z765.2.2.2.2.2.2.2.2.2.1,z765.2.2.2.2.2.2.2.2.2.2.1,z765.2.2.2.2.1,z765.2.2.2.2.2.1,z765.2.2.2.2.2.2.2.2.2.2.2.1,z765.2.2.2.2.2.2.2.2.2.2.2.2.2.1,z765.2.2.2.2.2.2.2.2.2.2.2.2.1,z765.2.2.2.2.2.2.2.2.2.2.2.2.2.2,y.2.2.2.2.2.2.2.2.2.2.2)))
theorem exprR_l1_n0{β:Type}(c_is c_unary)(c_primary c_expr)(c_next c_levelOf)(x)(y)(nx:exprR_l1_a→Option β)(dn):exprR_l1_t0 c_is c_unary c_primary c_expr c_next c_levelOf x y nx dn=(exprR_l1_t0 c_is c_unary c_primary c_expr c_next c_levelOf x y (fun y=>some (.inl y)) (fun z=>some (.inr z))).bind fun r=>Sum.elim nx dn r:=by
 unfold exprR_l1_t0
 repeat' first|exact n0|refine n1 fun _=>?_|refine n2 ?_ ?_|refine n3 (fun _=>?_) fun _=>?_|rfl
theorem exprR_l1_r0(c_is c_unary)(c_primary c_expr)(c_next c_levelOf)(x)(y)(lo:LoopT):loopK E5 (ftb 58 A_is R_is c_is (ft2 86 A_unary R_unary c_unary (ft2 87 A_primary R_primary c_primary (ft2 79 A_expr R_expr c_expr (ftb 18 A_next R_next c_next (ftb 83 A_levelOf R_levelOf c_levelOf ca0)))))) lo 1 51 (bodyOf E5 79 1) (exprR_l1_S x (.inl y)) (KCM [(1,48)] 16)=exprR_l1_t0 (vf A_is c_is) (vf A_unary c_unary) (vf A_primary c_primary) (vf A_expr c_expr) (vf A_next c_next) (vf A_levelOf c_levelOf) x y (fun y=>lo 1 51 (bodyOf E5 79 1) (exprR_l1_S x y) (KCM [(1,48)] 16)) (fun z=>some (.l (exprR_l1_T x z).1 (exprR_l1_T x z).2)):=by kernel_rfl
def exprR_l1_t1{β:Type}(c_is:a_is→Option g_is)(c_unary:a_unary→Option g_unary)(c_primary:a_primary→Option g_primary)(c_expr:a_expr→Option g_expr)(c_next:a_next→Option g_next)(c_levelOf:a_levelOf→Option g_levelOf)(x:a_exprR)(y:Nat×FI×FI×FS×FI×Int×Int×Nat×Nat×FS×FS×ByteArray×Int×Int×ByteArray×Nat×FL×Int×Int×ByteArray×Nat×FL)(nx:exprR_l1_a→Option β)(dn:exprR_l1_g→Option β):Option β:=
 (c_next (y.2.2.2.2.2.1,y.2.2.2.2.2.2.1,y.1,y.2.1,y.2.2.1,y.2.2.2.1,y.2.2.2.2.1,y.2.2.2.2.2.2.2.1,y.2.2.2.2.2.2.2.2.2.1,y.2.2.2.2.2.2.2.2.1,y.2.2.2.2.2.2.2.2.2.2.1)).bind fun z818=>(c_levelOf z818.2.2.1).bind fun z820=>if(z820==x.1)=true then(c_next z818.2.2.2.2).bind fun z832=>if(z832.1==3)=true then(c_next z832.2.2.2.2).bind fun z844=>(c_expr (w (x.1+1),w (z844.2.2.2.2.1+1),z844.2.2.2.2.2)).bind fun z857=>Sum.elim (fun z857a=>if(x.1==4)=true then dn (.inl (z857a.2.2.2.2.2.2.2.1,z857a.2.2.2.2.2.2.2.2.1,z857a.2.2.2.2.2.2.2.2.2.1,z857a.2.2.2.2.2.2.2.2.2.2.1,z857a.2.2.2.2.2.2.2.2.2.2.2.1,z857a.2.2.2.2.2.1,z857a.2.2.2.2.2.2.1,z857a.2.2.2.2.2.2.2.2.2.2.2.2.1,z857a.2.2.2.2.2.2.2.2.2.2.2.2.2.2.1,z857a.2.2.2.2.2.2.2.2.2.2.2.2.2.1,z857a.2.2.2.2.2.2.2.2.2.2.2.2.2.2.2,z844.2.2.1,20,0,y.2.2.2.2.2.2.2.2.2.2.2.1,2,fun j=>[i64 (if 0+j=0 then y.2.2.2.2.2.2.2.2.2.2.2.2.1 else y.2.2.2.2.2.2.2.2.2.2.2.2.2.2.2.2.2.1),i64 (if 0+j=0 then y.2.2.2.2.2.2.2.2.2.2.2.2.2.1 else y.2.2.2.2.2.2.2.2.2.2.2.2.2.2.2.2.2.2.1),st (if 0+j=0 then y.2.2.2.2.2.2.2.2.2.2.2.2.2.2.1 else y.2.2.2.2.2.2.2.2.2.2.2.2.2.2.2.2.2.2.2.1),V.ro 4 (if 0+j=0 then y.2.2.2.2.2.2.2.2.2.2.2.2.2.2.2.1 else y.2.2.2.2.2.2.2.2.2.2.2.2.2.2.2.2.2.2.2.2.1) fun j_1=>if 0+j=0 then y.2.2.2.2.2.2.2.2.2.2.2.2.2.2.2.2.1 j_1 else y.2.2.2.2.2.2.2.2.2.2.2.2.2.2.2.2.2.2.2.2.2 j_1],z857a.1,z857a.2.1,z857a.2.2.1,z857a.2.2.2.1,z857a.2.2.2.2.1))else nx (.inr (z857a.2.2.2.2.2.2.2.1,z857a.2.2.2.2.2.2.2.2.1,z857a.2.2.2.2.2.2.2.2.2.1,z857a.2.2.2.2.2.2.2.2.2.2.1,z857a.2.2.2.2.2.2.2.2.2.2.2.1,z857a.2.2.2.2.2.1,z857a.2.2.2.2.2.2.1,z857a.2.2.2.2.2.2.2.2.2.2.2.2.1,z857a.2.2.2.2.2.2.2.2.2.2.2.2.2.2.1,z857a.2.2.2.2.2.2.2.2.2.2.2.2.2.1,z857a.2.2.2.2.2.2.2.2.2.2.2.2.2.2.2,z844.2.2.1,20,0,y.2.2.2.2.2.2.2.2.2.2.2.1,2,fun j=>[i64 (if 0+j=0 then y.2.2.2.2.2.2.2.2.2.2.2.2.1 else y.2.2.2.2.2.2.2.2.2.2.2.2.2.2.2.2.2.1),i64 (if 0+j=0 then y.2.2.2.2.2.2.2.2.2.2.2.2.2.1 else y.2.2.2.2.2.2.2.2.2.2.2.2.2.2.2.2.2.2.1),st (if 0+j=0 then y.2.2.2.2.2.2.2.2.2.2.2.2.2.2.1 else y.2.2.2.2.2.2.2.2.2.2.2.2.2.2.2.2.2.2.2.1),V.ro 4 (if 0+j=0 then y.2.2.2.2.2.2.2.2.2.2.2.2.2.2.2.1 else y.2.2.2.2.2.2.2.2.2.2.2.2.2.2.2.2.2.2.2.2.1) fun j_1=>if 0+j=0 then y.2.2.2.2.2.2.2.2.2.2.2.2.2.2.2.2.1 j_1 else y.2.2.2.2.2.2.2.2.2.2.2.2.2.2.2.2.2.2.2.2.2 j_1],z857a.1,z857a.2.1,z857a.2.2.1,z857a.2.2.2.1,z857a.2.2.2.2.1))) (fun z857b=>dn (.inr (.inl z857b))) z857 else dn (.inl (z832.2.2.2.2.2.2.1,z832.2.2.2.2.2.2.2.1,z832.2.2.2.2.2.2.2.2.1,z832.2.2.2.2.2.2.2.2.2.1,z832.2.2.2.2.2.2.2.2.2.2.1,z832.2.2.2.2.1,z832.2.2.2.2.2.1,z832.2.2.2.2.2.2.2.2.2.2.2.1,z832.2.2.2.2.2.2.2.2.2.2.2.2.2.1,z832.2.2.2.2.2.2.2.2.2.2.2.2.1,z832.2.2.2.2.2.2.2.2.2.2.2.2.2.2,y.2.2.2.2.2.2.2.2.2.2.2))else dn (.inl (z818.2.2.2.2.2.2.1,z818.2.2.2.2.2.2.2.1,z818.2.2.2.2.2.2.2.2.1,z818.2.2.2.2.2.2.2.2.2.1,z818.2.2.2.2.2.2.2.2.2.2.1,z818.2.2.2.2.1,z818.2.2.2.2.2.1,z818.2.2.2.2.2.2.2.2.2.2.2.1,z818.2.2.2.2.2.2.2.2.2.2.2.2.2.1,z818.2.2.2.2.2.2.2.2.2.2.2.2.1,z818.2.2.2.2.2.2.2.2.2.2.2.2.2.2,y.2.2.2.2.2.2.2.2.2.2.2))
theorem exprR_l1_n1{β:Type}(c_is c_unary)(c_primary c_expr)(c_next c_levelOf)(x)(y)(nx:exprR_l1_a→Option β)(dn):exprR_l1_t1 c_is c_unary c_primary c_expr c_next c_levelOf x y nx dn=(exprR_l1_t1 c_is c_unary c_primary c_expr c_next c_levelOf x y (fun y=>some (.inl y)) (fun z=>some (.inr z))).bind fun r=>Sum.elim nx dn r:=by
 unfold exprR_l1_t1
 repeat' first|exact n0|refine n1 fun _=>?_|refine n2 ?_ ?_|refine n3 (fun _=>?_) fun _=>?_|rfl
theorem exprR_l1_r1(c_is c_unary)(c_primary c_expr)(c_next c_levelOf)(x)(y)(lo:LoopT):loopK E5 (ftb 58 A_is R_is c_is (ft2 86 A_unary R_unary c_unary (ft2 87 A_primary R_primary c_primary (ft2 79 A_expr R_expr c_expr (ftb 18 A_next R_next c_next (ftb 83 A_levelOf R_levelOf c_levelOf ca0)))))) lo 1 51 (bodyOf E5 79 1) (exprR_l1_S x (.inr y)) (KCM [(1,48)] 16)=exprR_l1_t1 (vf A_is c_is) (vf A_unary c_unary) (vf A_primary c_primary) (vf A_expr c_expr) (vf A_next c_next) (vf A_levelOf c_levelOf) x y (fun y=>lo 1 51 (bodyOf E5 79 1) (exprR_l1_S x y) (KCM [(1,48)] 16)) (fun z=>some (.l (exprR_l1_T x z).1 (exprR_l1_T x z).2)):=by kernel_rfl
noncomputable def exprR_l1(c_is:a_is→Option g_is)(c_unary:a_unary→Option g_unary)(c_primary:a_primary→Option g_primary)(c_expr:a_expr→Option g_expr)(c_next:a_next→Option g_next)(c_levelOf:a_levelOf→Option g_levelOf)(q:Nat)(x:a_exprR):exprR_l1_a→Option exprR_l1_g:=lpG (Sum.elim (fun y=>exprR_l1_t0 c_is c_unary c_primary c_expr c_next c_levelOf x y (fun y=>some (.inl y)) (fun z=>some (.inr z))) (fun y=>exprR_l1_t1 c_is c_unary c_primary c_expr c_next c_levelOf x y (fun y=>some (.inl y)) (fun z=>some (.inr z)))) q
theorem exprR_l1_s(c_is)(h_is:Lw E5 58 A_is R_is c_is)(c_unary)(h_unary:Lw E5 86 A_unary R_unary c_unary)(c_primary)(h_primary:Lw E5 87 A_primary R_primary c_primary)(c_expr)(h_expr:Lw E5 79 A_expr R_expr c_expr)(c_next)(h_next:Lw E5 18 A_next R_next c_next)(c_levelOf)(h_levelOf:Lw E5 83 A_levelOf R_levelOf c_levelOf)(q:Nat)(x:a_exprR):Ll E5 (bodyOf E5 79 1) (exprR_l1_S x) (exprR_l1_T x) (exprR_l1 c_is c_unary c_primary c_expr c_next c_levelOf q x):=
 slp (fk h_is (fk2 h_unary (fk2 h_primary (fk2 h_expr (fk h_next (fk h_levelOf ca0_sound)))))) hX5 (fun lo y=>by
  rcases y with y|y
  ·exact(exprR_l1_r0 c_is c_unary c_primary c_expr c_next c_levelOf x y lo).trans (by rw[v_is,v_unary,v_primary,v_expr,v_next,v_levelOf];exact exprR_l1_n0 _ _ _ _ _ _ _ _ _ _)
  ·exact(exprR_l1_r1 c_is c_unary c_primary c_expr c_next c_levelOf x y lo).trans (by rw[v_is,v_unary,v_primary,v_expr,v_next,v_levelOf];exact exprR_l1_n1 _ _ _ _ _ _ _ _ _ _)) (fun z=>by rcases z with z|z|z<;>kernel_rfl) q
def t_exprR{β:Type}(c_is:a_is→Option g_is)(c_unary:a_unary→Option g_unary)(c_primary:a_primary→Option g_primary)(c_expr:a_expr→Option g_expr)(c_next:a_next→Option g_next)(c_levelOf:a_levelOf→Option g_levelOf)(l_exprR_l1:exprR_l1_a→Option exprR_l1_g)(x:a_exprR)(dn:g_exprR→Option β):Option β:=
 if(x.1==3)=true then(c_is (⟨#[33]⟩,x.2)).bind fun z12=>if z12.1=true then(c_unary (⟨#[33]⟩,3,z12.2)).bind fun z26=>Sum.elim (fun z26a=>dn (.inl z26a)) (fun z26b=>dn (.inr (.inl z26b))) z26 else if(x.1==7)=true then(c_is (⟨#[45]⟩,z12.2)).bind fun z40=>if z40.1=true then(c_unary (⟨#[45]⟩,7,z40.2)).bind fun z54=>Sum.elim (fun z54a=>dn (.inl z54a)) (fun z54b=>dn (.inr (.inl z54b))) z54 else if(x.1==8)=true then(c_primary z40.2).bind fun z67=>Sum.elim (fun z67a=>dn (.inl z67a)) (fun z67b=>dn (.inr (.inl z67b))) z67 else(c_expr (w (x.1+1),z40.2)).bind fun z81=>Sum.elim (fun z81a=>(l_exprR_l1 (.inl (z81a.2.2.2.2.2.2.2.1,z81a.2.2.2.2.2.2.2.2.1,z81a.2.2.2.2.2.2.2.2.2.1,z81a.2.2.2.2.2.2.2.2.2.2.1,z81a.2.2.2.2.2.2.2.2.2.2.2.1,z81a.2.2.2.2.2.1,z81a.2.2.2.2.2.2.1,z81a.2.2.2.2.2.2.2.2.2.2.2.2.1,z81a.2.2.2.2.2.2.2.2.2.2.2.2.2.2.1,z81a.2.2.2.2.2.2.2.2.2.2.2.2.2.1,z81a.2.2.2.2.2.2.2.2.2.2.2.2.2.2.2,z81a.1,z81a.2.1,z81a.2.2.1,z81a.2.2.2.1,z81a.2.2.2.2.1))).bind fun z577=>Sum.elim (fun z577a=>dn (.inr (.inr (20,0,z577a.2.2.2.2.2.2.2.2.2.2.2.1,z577a.2.2.2.2.2.2.2.2.2.2.2.2.1,z577a.2.2.2.2.2.2.2.2.2.2.2.2.2.1,z577a.2.2.2.2.2.2.2.2.2.2.2.2.2.2.1,z577a.2.2.2.2.2.2.2.2.2.2.2.2.2.2.2.1,z577a.2.2.2.2.2.2.2.2.2.2.2.2.2.2.2.2.1,z577a.2.2.2.2.2.2.2.2.2.2.2.2.2.2.2.2.2.1,z577a.2.2.2.2.2.2.2.2.2.2.2.2.2.2.2.2.2.2.1,z577a.2.2.2.2.2.2.2.2.2.2.2.2.2.2.2.2.2.2.2.1,z577a.2.2.2.2.2.2.2.2.2.2.2.2.2.2.2.2.2.2.2.2.1,z577a.2.2.2.2.2.2.2.2.2.2.2.2.2.2.2.2.2.2.2.2.2,z577a.2.2.2.2.2.1,z577a.2.2.2.2.2.2.1,z577a.1,z577a.2.1,z577a.2.2.1,z577a.2.2.2.1,z577a.2.2.2.2.1,z577a.2.2.2.2.2.2.2.1,z577a.2.2.2.2.2.2.2.2.2.1,z577a.2.2.2.2.2.2.2.2.1,z577a.2.2.2.2.2.2.2.2.2.2.1)))) (fun z577b=>Sum.elim (fun z577ba=>dn (.inr (.inl z577ba))) (fun z577bb=>dn (.inl (z577bb.2.2.2.2.2.2.2.2.2.2.2.1,z577bb.2.2.2.2.2.2.2.2.2.2.2.2.1,z577bb.2.2.2.2.2.2.2.2.2.2.2.2.2.1,z577bb.2.2.2.2.2.2.2.2.2.2.2.2.2.2.1,z577bb.2.2.2.2.2.2.2.2.2.2.2.2.2.2.2,z577bb.2.2.2.2.2.1,z577bb.2.2.2.2.2.2.1,z577bb.1,z577bb.2.1,z577bb.2.2.1,z577bb.2.2.2.1,z577bb.2.2.2.2.1,z577bb.2.2.2.2.2.2.2.1,z577bb.2.2.2.2.2.2.2.2.2.1,z577bb.2.2.2.2.2.2.2.2.1,z577bb.2.2.2.2.2.2.2.2.2.2.1))) z577b) z577) (fun z81b=>dn (.inr (.inl z81b))) z81 else if(x.1==8)=true then(c_primary z12.2).bind fun z592=>Sum.elim (fun z592a=>dn (.inl z592a)) (fun z592b=>dn (.inr (.inl z592b))) z592 else(c_expr (w (x.1+1),z12.2)).bind fun z606=>Sum.elim (fun z606a=>(l_exprR_l1 (.inl (z606a.2.2.2.2.2.2.2.1,z606a.2.2.2.2.2.2.2.2.1,z606a.2.2.2.2.2.2.2.2.2.1,z606a.2.2.2.2.2.2.2.2.2.2.1,z606a.2.2.2.2.2.2.2.2.2.2.2.1,z606a.2.2.2.2.2.1,z606a.2.2.2.2.2.2.1,z606a.2.2.2.2.2.2.2.2.2.2.2.2.1,z606a.2.2.2.2.2.2.2.2.2.2.2.2.2.2.1,z606a.2.2.2.2.2.2.2.2.2.2.2.2.2.1,z606a.2.2.2.2.2.2.2.2.2.2.2.2.2.2.2,z606a.1,z606a.2.1,z606a.2.2.1,z606a.2.2.2.1,z606a.2.2.2.2.1))).bind fun z607=>Sum.elim (fun z607a=>dn (.inr (.inr (20,0,z607a.2.2.2.2.2.2.2.2.2.2.2.1,z607a.2.2.2.2.2.2.2.2.2.2.2.2.1,z607a.2.2.2.2.2.2.2.2.2.2.2.2.2.1,z607a.2.2.2.2.2.2.2.2.2.2.2.2.2.2.1,z607a.2.2.2.2.2.2.2.2.2.2.2.2.2.2.2.1,z607a.2.2.2.2.2.2.2.2.2.2.2.2.2.2.2.2.1,z607a.2.2.2.2.2.2.2.2.2.2.2.2.2.2.2.2.2.1,z607a.2.2.2.2.2.2.2.2.2.2.2.2.2.2.2.2.2.2.1,z607a.2.2.2.2.2.2.2.2.2.2.2.2.2.2.2.2.2.2.2.1,z607a.2.2.2.2.2.2.2.2.2.2.2.2.2.2.2.2.2.2.2.2.1,z607a.2.2.2.2.2.2.2.2.2.2.2.2.2.2.2.2.2.2.2.2.2,z607a.2.2.2.2.2.1,z607a.2.2.2.2.2.2.1,z607a.1,z607a.2.1,z607a.2.2.1,z607a.2.2.2.1,z607a.2.2.2.2.1,z607a.2.2.2.2.2.2.2.1,z607a.2.2.2.2.2.2.2.2.2.1,z607a.2.2.2.2.2.2.2.2.1,z607a.2.2.2.2.2.2.2.2.2.2.1)))) (fun z607b=>Sum.elim (fun z607ba=>dn (.inr (.inl z607ba))) (fun z607bb=>dn (.inl (z607bb.2.2.2.2.2.2.2.2.2.2.2.1,z607bb.2.2.2.2.2.2.2.2.2.2.2.2.1,z607bb.2.2.2.2.2.2.2.2.2.2.2.2.2.1,z607bb.2.2.2.2.2.2.2.2.2.2.2.2.2.2.1,z607bb.2.2.2.2.2.2.2.2.2.2.2.2.2.2.2,z607bb.2.2.2.2.2.1,z607bb.2.2.2.2.2.2.1,z607bb.1,z607bb.2.1,z607bb.2.2.1,z607bb.2.2.2.1,z607bb.2.2.2.2.1,z607bb.2.2.2.2.2.2.2.1,z607bb.2.2.2.2.2.2.2.2.2.1,z607bb.2.2.2.2.2.2.2.2.1,z607bb.2.2.2.2.2.2.2.2.2.2.1))) z607b) z607) (fun z606b=>dn (.inr (.inl z606b))) z606 else if(x.1==7)=true then(c_is (⟨#[45]⟩,x.2)).bind fun z623=>if z623.1=true then(c_unary (⟨#[45]⟩,7,z623.2)).bind fun z637=>Sum.elim (fun z637a=>dn (.inl z637a)) (fun z637b=>dn (.inr (.inl z637b))) z637 else if(x.1==8)=true then(c_primary z623.2).bind fun z650=>Sum.elim (fun z650a=>dn (.inl z650a)) (fun z650b=>dn (.inr (.inl z650b))) z650 else(c_expr (w (x.1+1),z623.2)).bind fun z664=>Sum.elim (fun z664a=>(l_exprR_l1 (.inl (z664a.2.2.2.2.2.2.2.1,z664a.2.2.2.2.2.2.2.2.1,z664a.2.2.2.2.2.2.2.2.2.1,z664a.2.2.2.2.2.2.2.2.2.2.1,z664a.2.2.2.2.2.2.2.2.2.2.2.1,z664a.2.2.2.2.2.1,z664a.2.2.2.2.2.2.1,z664a.2.2.2.2.2.2.2.2.2.2.2.2.1,z664a.2.2.2.2.2.2.2.2.2.2.2.2.2.2.1,z664a.2.2.2.2.2.2.2.2.2.2.2.2.2.1,z664a.2.2.2.2.2.2.2.2.2.2.2.2.2.2.2,z664a.1,z664a.2.1,z664a.2.2.1,z664a.2.2.2.1,z664a.2.2.2.2.1))).bind fun z665=>Sum.elim (fun z665a=>dn (.inr (.inr (20,0,z665a.2.2.2.2.2.2.2.2.2.2.2.1,z665a.2.2.2.2.2.2.2.2.2.2.2.2.1,z665a.2.2.2.2.2.2.2.2.2.2.2.2.2.1,z665a.2.2.2.2.2.2.2.2.2.2.2.2.2.2.1,z665a.2.2.2.2.2.2.2.2.2.2.2.2.2.2.2.1,z665a.2.2.2.2.2.2.2.2.2.2.2.2.2.2.2.2.1,z665a.2.2.2.2.2.2.2.2.2.2.2.2.2.2.2.2.2.1,z665a.2.2.2.2.2.2.2.2.2.2.2.2.2.2.2.2.2.2.1,z665a.2.2.2.2.2.2.2.2.2.2.2.2.2.2.2.2.2.2.2.1,z665a.2.2.2.2.2.2.2.2.2.2.2.2.2.2.2.2.2.2.2.2.1,z665a.2.2.2.2.2.2.2.2.2.2.2.2.2.2.2.2.2.2.2.2.2,z665a.2.2.2.2.2.1,z665a.2.2.2.2.2.2.1,z665a.1,z665a.2.1,z665a.2.2.1,z665a.2.2.2.1,z665a.2.2.2.2.1,z665a.2.2.2.2.2.2.2.1,z665a.2.2.2.2.2.2.2.2.2.1,z665a.2.2.2.2.2.2.2.2.1,z665a.2.2.2.2.2.2.2.2.2.2.1)))) (fun z665b=>Sum.elim (fun z665ba=>dn (.inr (.inl z665ba))) (fun z665bb=>dn (.inl (z665bb.2.2.2.2.2.2.2.2.2.2.2.1,z665bb.2.2.2.2.2.2.2.2.2.2.2.2.1,z665bb.2.2.2.2.2.2.2.2.2.2.2.2.2.1,z665bb.2.2.2.2.2.2.2.2.2.2.2.2.2.2.1,z665bb.2.2.2.2.2.2.2.2.2.2.2.2.2.2.2,z665bb.2.2.2.2.2.1,z665bb.2.2.2.2.2.2.1,z665bb.1,z665bb.2.1,z665bb.2.2.1,z665bb.2.2.2.1,z665bb.2.2.2.2.1,z665bb.2.2.2.2.2.2.2.1,z665bb.2.2.2.2.2.2.2.2.2.1,z665bb.2.2.2.2.2.2.2.2.1,z665bb.2.2.2.2.2.2.2.2.2.2.1))) z665b) z665) (fun z664b=>dn (.inr (.inl z664b))) z664 else if(x.1==8)=true then(c_primary x.2).bind fun z680=>Sum.elim (fun z680a=>dn (.inl z680a)) (fun z680b=>dn (.inr (.inl z680b))) z680 else(c_expr (w (x.1+1),x.2)).bind fun z694=>Sum.elim (fun z694a=>(l_exprR_l1 (.inl (z694a.2.2.2.2.2.2.2.1,z694a.2.2.2.2.2.2.2.2.1,z694a.2.2.2.2.2.2.2.2.2.1,z694a.2.2.2.2.2.2.2.2.2.2.1,z694a.2.2.2.2.2.2.2.2.2.2.2.1,z694a.2.2.2.2.2.1,z694a.2.2.2.2.2.2.1,z694a.2.2.2.2.2.2.2.2.2.2.2.2.1,z694a.2.2.2.2.2.2.2.2.2.2.2.2.2.2.1,z694a.2.2.2.2.2.2.2.2.2.2.2.2.2.1,z694a.2.2.2.2.2.2.2.2.2.2.2.2.2.2.2,z694a.1,z694a.2.1,z694a.2.2.1,z694a.2.2.2.1,z694a.2.2.2.2.1))).bind fun z695=>Sum.elim (fun z695a=>dn (.inr (.inr (20,0,z695a.2.2.2.2.2.2.2.2.2.2.2.1,z695a.2.2.2.2.2.2.2.2.2.2.2.2.1,z695a.2.2.2.2.2.2.2.2.2.2.2.2.2.1,z695a.2.2.2.2.2.2.2.2.2.2.2.2.2.2.1,z695a.2.2.2.2.2.2.2.2.2.2.2.2.2.2.2.1,z695a.2.2.2.2.2.2.2.2.2.2.2.2.2.2.2.2.1,z695a.2.2.2.2.2.2.2.2.2.2.2.2.2.2.2.2.2.1,z695a.2.2.2.2.2.2.2.2.2.2.2.2.2.2.2.2.2.2.1,z695a.2.2.2.2.2.2.2.2.2.2.2.2.2.2.2.2.2.2.2.1,z695a.2.2.2.2.2.2.2.2.2.2.2.2.2.2.2.2.2.2.2.2.1,z695a.2.2.2.2.2.2.2.2.2.2.2.2.2.2.2.2.2.2.2.2.2,z695a.2.2.2.2.2.1,z695a.2.2.2.2.2.2.1,z695a.1,z695a.2.1,z695a.2.2.1,z695a.2.2.2.1,z695a.2.2.2.2.1,z695a.2.2.2.2.2.2.2.1,z695a.2.2.2.2.2.2.2.2.2.1,z695a.2.2.2.2.2.2.2.2.1,z695a.2.2.2.2.2.2.2.2.2.2.1)))) (fun z695b=>Sum.elim (fun z695ba=>dn (.inr (.inl z695ba))) (fun z695bb=>dn (.inl (z695bb.2.2.2.2.2.2.2.2.2.2.2.1,z695bb.2.2.2.2.2.2.2.2.2.2.2.2.1,z695bb.2.2.2.2.2.2.2.2.2.2.2.2.2.1,z695bb.2.2.2.2.2.2.2.2.2.2.2.2.2.2.1,z695bb.2.2.2.2.2.2.2.2.2.2.2.2.2.2.2,z695bb.2.2.2.2.2.1,z695bb.2.2.2.2.2.2.1,z695bb.1,z695bb.2.1,z695bb.2.2.1,z695bb.2.2.2.1,z695bb.2.2.2.2.1,z695bb.2.2.2.2.2.2.2.1,z695bb.2.2.2.2.2.2.2.2.2.1,z695bb.2.2.2.2.2.2.2.2.1,z695bb.2.2.2.2.2.2.2.2.2.2.1))) z695b) z695) (fun z694b=>dn (.inr (.inl z694b))) z694
theorem n_exprR{β:Type}(c_is c_unary)(c_primary c_expr)(c_next c_levelOf)(l_exprR_l1)(x)(dn:g_exprR→Option β):t_exprR c_is c_unary c_primary c_expr c_next c_levelOf l_exprR_l1 x dn=(t_exprR c_is c_unary c_primary c_expr c_next c_levelOf l_exprR_l1 x some).bind dn:=by
 unfold t_exprR
 repeat' first|exact n0|refine n1 fun _=>?_|refine n2 ?_ ?_|refine n3 (fun _=>?_) fun _=>?_|rfl
theorem r_exprR(c_is c_unary)(c_primary c_expr)(c_next c_levelOf)(l_exprR_l1)(x):callK E5 (ftb 58 A_is R_is c_is (ft2 86 A_unary R_unary c_unary (ft2 87 A_primary R_primary c_primary (ft2 79 A_expr R_expr c_expr (ftb 18 A_next R_next c_next (ftb 83 A_levelOf R_levelOf c_levelOf ca0)))))) (lt3 1 (fun _=>true) (bodyOf E5 79 1) (exprR_l1_S x) (exprR_l1_T x) l_exprR_l1 lo0) 79 (A_exprR x).1 (A_exprR x).2 K=t_exprR (vf A_is c_is) (vf A_unary c_unary) (vf A_primary c_primary) (vf A_expr c_expr) (vf A_next c_next) (vf A_levelOf c_levelOf) (lf (bodyOf E5 79 1) (exprR_l1_S x) l_exprR_l1) x (fun z=>some (.c (R_exprR z))):=by kernel_rfl
theorem s_exprR(c_is)(h_is:Lw E5 58 A_is R_is c_is)(c_unary)(h_unary:Lw E5 86 A_unary R_unary c_unary)(c_primary)(h_primary:Lw E5 87 A_primary R_primary c_primary)(c_expr)(h_expr:Lw E5 79 A_expr R_expr c_expr)(c_next)(h_next:Lw E5 18 A_next R_next c_next)(c_levelOf)(h_levelOf:Lw E5 83 A_levelOf R_levelOf c_levelOf)(q:Nat):Lw E5 79 A_exprR R_exprR fun x=>t_exprR c_is c_unary c_primary c_expr c_next c_levelOf (exprR_l1 c_is c_unary c_primary c_expr c_next c_levelOf q x) x some:=sof hW5 hX5 (fk h_is (fk2 h_unary (fk2 h_primary (fk2 h_expr (fk h_next (fk h_levelOf ca0_sound)))))) (fun x=>(lk3 (exprR_l1_s c_is h_is c_unary h_unary c_primary h_primary c_expr h_expr c_next h_next c_levelOf h_levelOf q x) lo0_sound)) fun x=>(r_exprR c_is c_unary c_primary c_expr c_next c_levelOf (exprR_l1 c_is c_unary c_primary c_expr c_next c_levelOf q x) x).trans (by rw[v_is,v_unary,v_primary,v_expr,v_next,v_levelOf,exprR_l1_u,n_exprR]<;>rfl)
def t_unaryR{β:Type}(c_opens:a_opens→Option g_opens)(c_expr:a_expr→Option g_expr)(x:a_unaryR)(dn:g_unaryR→Option β):Option β:=
 (c_opens (x.1,x.2.2)).bind fun z12=>Sum.elim (fun z12a=>(c_expr (x.2.1,z12a)).bind fun z25=>Sum.elim (fun z25a=>dn (.inl (19,0,x.1,z25a.1,z25a.2.1,z25a.2.2.1,z25a.2.2.2.1,z25a.2.2.2.2.1,z25a.2.2.2.2.2.1,w (z25a.2.2.2.2.2.2.1-1),z25a.2.2.2.2.2.2.2))) (fun z25b=>dn (.inr z25b)) z25) (fun z12b=>dn (.inr z12b)) z12
theorem n_unaryR{β:Type}(c_opens c_expr)(x)(dn:g_unaryR→Option β):t_unaryR c_opens c_expr x dn=(t_unaryR c_opens c_expr x some).bind dn:=by
 unfold t_unaryR
 repeat' first|exact n0|refine n1 fun _=>?_|refine n2 ?_ ?_|refine n3 (fun _=>?_) fun _=>?_|rfl
theorem r_unaryR(c_opens c_expr)(x):callK E5 (ft2 47 A_opens R_opens c_opens (ft2 79 A_expr R_expr c_expr ca0)) lo0 86 (A_unaryR x).1 (A_unaryR x).2 K=t_unaryR (vf A_opens c_opens) (vf A_expr c_expr) x (fun z=>some (.c (R_unaryR z))):=by kernel_rfl
theorem s_unaryR(c_opens)(h_opens:Lw E5 47 A_opens R_opens c_opens)(c_expr)(h_expr:Lw E5 79 A_expr R_expr c_expr)(q:Nat):Lw E5 86 A_unaryR R_unaryR fun x=>t_unaryR c_opens c_expr x some:=sof hW5 hX5 (fk2 h_opens (fk2 h_expr ca0_sound)) (fun _=>lo0_sound) fun x=>(r_unaryR c_opens c_expr x).trans (by rw[v_opens,v_expr,n_unaryR]<;>rfl)
def t_primaryR{β:Type}(c_next:a_next→Option g_next)(c_literal:a_literal→Option g_literal)(c_take:a_take→Option g_take)(c_must:a_must→Option g_must)(c_name:a_name→Option g_name)(c_is:a_is→Option g_is)(c_opens:a_opens→Option g_opens)(c_expr:a_expr→Option g_expr)(x:a_primaryR)(dn:g_primaryR→Option β):Option β:=
 (c_next x).bind fun z11=>if(z11.1==2)=true then(c_literal z11.2.2.2.2).bind fun z23=>Sum.elim (fun z23a=>dn (.inl z23a)) (fun z23b=>dn (.inr (.inl z23b))) z23 else(c_take (⟨#[116,114,117,101]⟩,z11.2.2.2.2)).bind fun z37=>if z37.1=true then dn (.inr (.inr (16,1,⟨#[]⟩,z37.2)))else(c_take (⟨#[102,97,108,115,101]⟩,z37.2)).bind fun z50=>if z50.1=true then dn (.inr (.inr (16,0,⟨#[]⟩,z50.2)))else(c_take (⟨#[116,108,109]⟩,z50.2)).bind fun z63=>if z63.1=true then(c_must (⟨#[46]⟩,z63.2)).bind fun z76=>Sum.elim (fun z76a=>(c_name z76a).bind fun z88=>Sum.elim (fun z88a=>dn (.inr (.inr (18,0,z88a)))) (fun z88b=>dn (.inr (.inl z88b))) z88) (fun z76b=>dn (.inr (.inl z76b))) z76 else(c_is (⟨#[40]⟩,z63.2)).bind fun z103=>if z103.1=true then(c_opens (⟨#[40]⟩,z103.2)).bind fun z116=>Sum.elim (fun z116a=>(c_expr (1,z116a)).bind fun z129=>Sum.elim (fun z129a=>(c_must (⟨#[41]⟩,z129a.2.2.2.2.2)).bind fun z142=>Sum.elim (fun z142a=>dn (.inl (z129a.1,z129a.2.1,z129a.2.2.1,z129a.2.2.2.1,z129a.2.2.2.2.1,z142a.1,w (z142a.2.1-1),z142a.2.2))) (fun z142b=>dn (.inr (.inl z142b))) z142) (fun z129b=>dn (.inr (.inl z129b))) z129) (fun z116b=>dn (.inr (.inl z116b))) z116 else(c_name z103.2).bind fun z157=>Sum.elim (fun z157a=>dn (.inr (.inr (17,0,z157a)))) (fun z157b=>dn (.inr (.inl z157b))) z157
theorem n_primaryR{β:Type}(c_next c_literal)(c_take c_must)(c_name c_is)(c_opens c_expr)(x)(dn:g_primaryR→Option β):t_primaryR c_next c_literal c_take c_must c_name c_is c_opens c_expr x dn=(t_primaryR c_next c_literal c_take c_must c_name c_is c_opens c_expr x some).bind dn:=by
 unfold t_primaryR
 repeat' first|exact n0|refine n1 fun _=>?_|refine n2 ?_ ?_|refine n3 (fun _=>?_) fun _=>?_|rfl
theorem r_primaryR(c_next c_literal)(c_take c_must)(c_name c_is)(c_opens c_expr)(x):callK E5 (ftb 18 A_next R_next c_next (ft2 81 A_literal R_literal c_literal (ftb 44 A_take R_take c_take (ft2 32 A_must R_must c_must (ft2 33 A_name R_name c_name (ftb 58 A_is R_is c_is (ft2 47 A_opens R_opens c_opens (ft2 79 A_expr R_expr c_expr ca0)))))))) lo0 87 (A_primaryR x).1 (A_primaryR x).2 K=t_primaryR (vf A_next c_next) (vf A_literal c_literal) (vf A_take c_take) (vf A_must c_must) (vf A_name c_name) (vf A_is c_is) (vf A_opens c_opens) (vf A_expr c_expr) x (fun z=>some (.c (R_primaryR z))):=by kernel_rfl
theorem s_primaryR(c_next)(h_next:Lw E5 18 A_next R_next c_next)(c_literal)(h_literal:Lw E5 81 A_literal R_literal c_literal)(c_take)(h_take:Lw E5 44 A_take R_take c_take)(c_must)(h_must:Lw E5 32 A_must R_must c_must)(c_name)(h_name:Lw E5 33 A_name R_name c_name)(c_is)(h_is:Lw E5 58 A_is R_is c_is)(c_opens)(h_opens:Lw E5 47 A_opens R_opens c_opens)(c_expr)(h_expr:Lw E5 79 A_expr R_expr c_expr)(q:Nat):Lw E5 87 A_primaryR R_primaryR fun x=>t_primaryR c_next c_literal c_take c_must c_name c_is c_opens c_expr x some:=sof hW5 hX5 (fk h_next (fk2 h_literal (fk h_take (fk2 h_must (fk2 h_name (fk h_is (fk2 h_opens (fk2 h_expr ca0_sound)))))))) (fun _=>lo0_sound) fun x=>(r_primaryR c_next c_literal c_take c_must c_name c_is c_opens c_expr x).trans (by rw[v_next,v_literal,v_take,v_must,v_name,v_is,v_opens,v_expr,n_primaryR]<;>rfl)
def cv_expr:g_exprR→g_expr:=Sum.elim (fun z=>.inl z) (Sum.elim (fun z=>.inr z) (fun z=>.inl (z.1,z.2.1,z.2.2.1,2,selL [[i64 z.2.2.2.1,i64 z.2.2.2.2.1,st z.2.2.2.2.2.1,.ro 4 z.2.2.2.2.2.2.1 z.2.2.2.2.2.2.2.1],[i64 z.2.2.2.2.2.2.2.2.1,i64 z.2.2.2.2.2.2.2.2.2.1,st z.2.2.2.2.2.2.2.2.2.2.1,.ro 4 z.2.2.2.2.2.2.2.2.2.2.2.1 z.2.2.2.2.2.2.2.2.2.2.2.2.1]],z.2.2.2.2.2.2.2.2.2.2.2.2.2)))
theorem cvs_expr{args:List V}{L:List (Option Chunk)}(z:g_exprR)(h:SC E5 79 args L (R_exprR z)):SC E5 79 args L (R_expr (cv_expr z)):=by
 rcases z with z|z|z
 ·exact h
 ·exact h
 ·exact cv_k h
def cv_unary:g_unaryR→g_unary:=Sum.elim (fun z=>.inl (z.1,z.2.1,z.2.2.1,1,selL [[i64 z.2.2.2.1,i64 z.2.2.2.2.1,st z.2.2.2.2.2.1,.ro 4 z.2.2.2.2.2.2.1 z.2.2.2.2.2.2.2.1]],z.2.2.2.2.2.2.2.2)) (fun z=>.inr z)
theorem cvs_unary{args:List V}{L:List (Option Chunk)}(z:g_unaryR)(h:SC E5 86 args L (R_unaryR z)):SC E5 86 args L (R_unary (cv_unary z)):=by
 rcases z with z|z
 ·exact cv_k h
 ·exact h
def cv_primary:g_primaryR→g_primary:=Sum.elim (fun z=>.inl z) (Sum.elim (fun z=>.inr z) (fun z=>.inl (z.1,z.2.1,z.2.2.1,0,fun _=>[],z.2.2.2)))
theorem cvs_primary{args:List V}{L:List (Option Chunk)}(z:g_primaryR)(h:SC E5 87 args L (R_primaryR z)):SC E5 87 args L (R_primary (cv_primary z)):=by
 rcases z with z|z|z
 ·exact h
 ·exact h
 ·exact cv_z h
noncomputable def exS:Nat→(a_expr→Option g_expr)×(a_unary→Option g_unary)×(a_primary→Option g_primary)
 |0=>(fun _=>none,fun _=>none,fun _=>none)
 |q+1=>(fun x=>(t_exprR ((is q)) ((exS q).2.1) ((exS q).2.2) ((exS q).1) ((next q)) ((levelOf q)) (exprR_l1 ((is q)) ((exS q).2.1) ((exS q).2.2) ((exS q).1) ((next q)) ((levelOf q)) q x) x some).map cv_expr,
  fun x=>(t_unaryR ((opens q)) ((exS q).1) x some).map cv_unary,
  fun x=>(t_primaryR ((next q)) ((literal q)) ((take q)) ((must q)) ((name q)) ((is q)) ((opens q)) ((exS q).1) x some).map cv_primary)
theorem exS_sc:∀q,(∀x z,(exS q).1 x=some z→SC E5 79 (A_expr x).1 (A_expr x).2 (R_expr z))∧(∀x z,(exS q).2.1 x=some z→SC E5 86 (A_unary x).1 (A_unary x).2 (R_unary z))∧(∀x z,(exS q).2.2 x=some z→SC E5 87 (A_primary x).1 (A_primary x).2 (R_primary z))
 |0=>⟨(fun x z h=>by cases h),(fun x z h=>by cases h),(fun x z h=>by cases h)⟩
 |q+1=>by
  obtain⟨h0,h1,h2⟩:=exS_sc q
  exact⟨(fun x z h=>by
   obtain⟨y,hy,rfl⟩:=Option.map_eq_some_iff.1 h
   exact cvs_expr y (s_exprR ((is q)) ((sc_is q)) ((exS q).2.1) (h1) ((exS q).2.2) (h2) ((exS q).1) (h0) ((next q)) ((sc_next q)) ((levelOf q)) ((sc_levelOf q)) q x y hy)),(fun x z h=>by
   obtain⟨y,hy,rfl⟩:=Option.map_eq_some_iff.1 h
   exact cvs_unary y (s_unaryR ((opens q)) ((sc_opens q)) ((exS q).1) (h0) q x y hy)),(fun x z h=>by
   obtain⟨y,hy,rfl⟩:=Option.map_eq_some_iff.1 h
   exact cvs_primary y (s_primaryR ((next q)) ((sc_next q)) ((literal q)) ((sc_literal q)) ((take q)) ((sc_take q)) ((must q)) ((sc_must q)) ((name q)) ((sc_name q)) ((is q)) ((sc_is q)) ((opens q)) ((sc_opens q)) ((exS q).1) (h0) q x y hy))⟩
noncomputable def expr(q:Nat):a_expr→Option g_expr:=(exS q).1
theorem sc_expr(q:Nat):Lw E5 79 A_expr R_expr (expr q):=(exS_sc q).1
noncomputable def unary(q:Nat):a_unary→Option g_unary:=(exS q).2.1
noncomputable def primary(q:Nat):a_primary→Option g_primary:=(exS q).2.2
end Go.Proofs.YtjfkkokeegpeiaaDoor
/- Statements, lifted. -/
namespace Go.Proofs.YtjfkkokeegpeiaaDoor
open Go Go.Am Go.Proofs
set_option maxRecDepth 100000
abbrev a_assignR:Type:=SP
abbrev g_assignR:Type:=(Int×Int×ByteArray×Int×Int×ByteArray×Nat×FL×SP)⊕(Int×Int)
def A_assignR:AR a_assignR:=fun x=>([.ptr 0 0],(hHP x))
def R_assignR:g_assignR→CRes:=Sum.elim (fun z:Int×Int×ByteArray×Int×Int×ByteArray×Nat×FL×SP=>.ret (.agg [i64 z.1,i64 z.2.1,st z.2.2.1,.sl 3 4 0 1]) [some (.blk [.ro 4 z.2.2.2.2.2.2.2.2.2.2.1 (fun j=>[i64 (z.2.2.2.2.2.2.2.2.2.2.2.1 j),i64 (z.2.2.2.2.2.2.2.2.2.2.2.2.1 j),st (z.2.2.2.2.2.2.2.2.2.2.2.2.2.1 j),i64 (z.2.2.2.2.2.2.2.2.2.2.2.2.2.2.1 j)]),i64 z.2.2.2.2.2.2.2.2.1,i64 z.2.2.2.2.2.2.2.2.2.1,.sl 1 1 0 z.2.2.2.2.2.2.2.2.2.2.2.2.2.2.2.1,.sl 2 1 0 z.2.2.2.2.2.2.2.2.2.2.2.2.2.2.2.2.2.1]),some (.row 9 1 z.2.2.2.2.2.2.2.2.2.2.2.2.2.2.2.1 (fun j=>[st (z.2.2.2.2.2.2.2.2.2.2.2.2.2.2.2.2.1 j)])),some (.row 9 1 z.2.2.2.2.2.2.2.2.2.2.2.2.2.2.2.2.2.1 (fun j=>[st (z.2.2.2.2.2.2.2.2.2.2.2.2.2.2.2.2.2.2 j)])),some (.row 40 4 1 (selL [[i64 z.2.2.2.1,i64 z.2.2.2.2.1,st z.2.2.2.2.2.1,.ro 4 z.2.2.2.2.2.2.1 z.2.2.2.2.2.2.2.1]]))]) (fun z:Int×Int=>.pan (.ifc 51 (.agg [i64 z.1,i64 z.2])))
def t_assignR{β:Type}(c_name:a_name→Option g_name)(c_must:a_must→Option g_must)(c_expr:a_expr→Option g_expr)(x:a_assignR)(dn:g_assignR→Option β):Option β:=
 (c_name x).bind fun z11=>Sum.elim (fun z11a=>(c_must (⟨#[61]⟩,z11a.2)).bind fun z24=>Sum.elim (fun z24a=>(c_expr (1,z24a)).bind fun z37=>Sum.elim (fun z37a=>dn (.inl (2,0,z11a.1,z37a))) (fun z37b=>dn (.inr z37b)) z37) (fun z24b=>dn (.inr z24b)) z24) (fun z11b=>dn (.inr z11b)) z11
theorem n_assignR{β:Type}(c_name c_must c_expr)(x)(dn:g_assignR→Option β):t_assignR c_name c_must c_expr x dn=(t_assignR c_name c_must c_expr x some).bind dn:=by
 unfold t_assignR
 repeat' first|exact n0|refine n1 fun _=>?_|refine n2 ?_ ?_|refine n3 (fun _=>?_) fun _=>?_|rfl
theorem r_assignR(c_name c_must c_expr)(x):callK E5 (ft2 33 A_name R_name c_name (ft2 32 A_must R_must c_must (ft2 79 A_expr R_expr c_expr ca0))) lo0 67 (A_assignR x).1 (A_assignR x).2 K=t_assignR (vf A_name c_name) (vf A_must c_must) (vf A_expr c_expr) x (fun z=>some (.c (R_assignR z))):=by kernel_rfl
noncomputable def assignR(q:Nat)(x:a_assignR):Option g_assignR:=t_assignR (name q) (must q) (expr q) x some
theorem sc_assignR(q:Nat):Lw E5 67 A_assignR R_assignR (assignR q):=sof hW5 hX5 (fk2 (sc_name q) (fk2 (sc_must q) (fk2 (sc_expr q) ca0_sound))) (fun _=>lo0_sound) fun x=>(r_assignR (name q) (must q) (expr q) x).trans (by rw[v_name,v_must,v_expr,n_assignR]<;>rfl)
abbrev a_assign:Type:=SP
abbrev g_assign:Type:=(Int×Int×ByteArray×Nat×FL×SP)⊕(Int×Int)
def A_assign:AR a_assign:=fun x=>([.ptr 0 0],(hHP x))
def d_assign(t:TT):a_assign:=(dHP t.2)
theorem v_assign:VI A_assign:=vd d_assign fun _=>rfl
def R_assign:g_assign→CRes:=Sum.elim (fun z:Int×Int×ByteArray×Nat×FL×SP=>.ret (.agg [i64 z.1,i64 z.2.1,st z.2.2.1,.ro 4 z.2.2.2.1 z.2.2.2.2.1]) (hHP z.2.2.2.2.2)) (fun z:Int×Int=>.pan (.ifc 51 (.agg [i64 z.1,i64 z.2])))
def cv_assign:g_assignR→g_assign:=Sum.elim (fun z=>.inl (z.1,z.2.1,z.2.2.1,1,selL [[i64 z.2.2.2.1,i64 z.2.2.2.2.1,st z.2.2.2.2.2.1,.ro 4 z.2.2.2.2.2.2.1 z.2.2.2.2.2.2.2.1]],z.2.2.2.2.2.2.2.2)) (fun z=>.inr z)
theorem cvs_assign{args:List V}{L:List (Option Chunk)}(z:g_assignR)(h:SC E5 67 args L (R_assignR z)):SC E5 67 args L (R_assign (cv_assign z)):=by
 rcases z with z|z
 ·exact cv_k h
 ·exact h
noncomputable def assign(q:Nat)(x:a_assign):Option g_assign:=(assignR q x).map cv_assign
theorem sc_assign(q:Nat):Lw E5 67 A_assign R_assign (assign q):=by
 intro x z h
 obtain⟨y,hy,rfl⟩:=Option.map_eq_some_iff.1 h
 exact cvs_assign y (sc_assignR q x y hy)
abbrev a_letSR:Type:=SP
abbrev g_letSR:Type:=(Int×Int×ByteArray×Int×Int×ByteArray×Nat×FL×SP)⊕(Int×Int)
def A_letSR:AR a_letSR:=fun x=>([.ptr 0 0],(hHP x))
def R_letSR:g_letSR→CRes:=Sum.elim (fun z:Int×Int×ByteArray×Int×Int×ByteArray×Nat×FL×SP=>.ret (.agg [i64 z.1,i64 z.2.1,st z.2.2.1,.sl 3 4 0 1]) [some (.blk [.ro 4 z.2.2.2.2.2.2.2.2.2.2.1 (fun j=>[i64 (z.2.2.2.2.2.2.2.2.2.2.2.1 j),i64 (z.2.2.2.2.2.2.2.2.2.2.2.2.1 j),st (z.2.2.2.2.2.2.2.2.2.2.2.2.2.1 j),i64 (z.2.2.2.2.2.2.2.2.2.2.2.2.2.2.1 j)]),i64 z.2.2.2.2.2.2.2.2.1,i64 z.2.2.2.2.2.2.2.2.2.1,.sl 1 1 0 z.2.2.2.2.2.2.2.2.2.2.2.2.2.2.2.1,.sl 2 1 0 z.2.2.2.2.2.2.2.2.2.2.2.2.2.2.2.2.2.1]),some (.row 9 1 z.2.2.2.2.2.2.2.2.2.2.2.2.2.2.2.1 (fun j=>[st (z.2.2.2.2.2.2.2.2.2.2.2.2.2.2.2.2.1 j)])),some (.row 9 1 z.2.2.2.2.2.2.2.2.2.2.2.2.2.2.2.2.2.1 (fun j=>[st (z.2.2.2.2.2.2.2.2.2.2.2.2.2.2.2.2.2.2 j)])),some (.row 40 4 1 (selL [[i64 z.2.2.2.1,i64 z.2.2.2.2.1,st z.2.2.2.2.2.1,.ro 4 z.2.2.2.2.2.2.1 z.2.2.2.2.2.2.2.1]]))]) (fun z:Int×Int=>.pan (.ifc 51 (.agg [i64 z.1,i64 z.2])))
def t_letSR{β:Type}(c_declare:a_declare→Option g_declare)(c_must:a_must→Option g_must)(c_expr:a_expr→Option g_expr)(x:a_letSR)(dn:g_letSR→Option β):Option β:=
 (c_declare (w (x.1+1),x.2)).bind fun z11=>Sum.elim (fun z11a=>(c_must (⟨#[61]⟩,z11a.2)).bind fun z24=>Sum.elim (fun z24a=>(c_expr (1,z24a)).bind fun z37=>Sum.elim (fun z37a=>dn (.inl (1,0,z11a.1,z37a))) (fun z37b=>dn (.inr z37b)) z37) (fun z24b=>dn (.inr z24b)) z24) (fun z11b=>dn (.inr z11b)) z11
theorem n_letSR{β:Type}(c_declare c_must c_expr)(x)(dn:g_letSR→Option β):t_letSR c_declare c_must c_expr x dn=(t_letSR c_declare c_must c_expr x some).bind dn:=by
 unfold t_letSR
 repeat' first|exact n0|refine n1 fun _=>?_|refine n2 ?_ ?_|refine n3 (fun _=>?_) fun _=>?_|rfl
theorem r_letSR(c_declare c_must c_expr)(x):callK E5 (ft2 46 A_declare R_declare c_declare (ft2 32 A_must R_must c_must (ft2 79 A_expr R_expr c_expr ca0))) lo0 60 (A_letSR x).1 (A_letSR x).2 K=t_letSR (vf A_declare c_declare) (vf A_must c_must) (vf A_expr c_expr) x (fun z=>some (.c (R_letSR z))):=by kernel_rfl
noncomputable def letSR(q:Nat)(x:a_letSR):Option g_letSR:=t_letSR (declare q) (must q) (expr q) x some
theorem sc_letSR(q:Nat):Lw E5 60 A_letSR R_letSR (letSR q):=sof hW5 hX5 (fk2 (sc_declare q) (fk2 (sc_must q) (fk2 (sc_expr q) ca0_sound))) (fun _=>lo0_sound) fun x=>(r_letSR (declare q) (must q) (expr q) x).trans (by rw[v_declare,v_must,v_expr,n_letSR]<;>rfl)
abbrev a_letS:Type:=SP
abbrev g_letS:Type:=(Int×Int×ByteArray×Nat×FL×SP)⊕(Int×Int)
def A_letS:AR a_letS:=fun x=>([.ptr 0 0],(hHP x))
def d_letS(t:TT):a_letS:=(dHP t.2)
theorem v_letS:VI A_letS:=vd d_letS fun _=>rfl
def R_letS:g_letS→CRes:=Sum.elim (fun z:Int×Int×ByteArray×Nat×FL×SP=>.ret (.agg [i64 z.1,i64 z.2.1,st z.2.2.1,.ro 4 z.2.2.2.1 z.2.2.2.2.1]) (hHP z.2.2.2.2.2)) (fun z:Int×Int=>.pan (.ifc 51 (.agg [i64 z.1,i64 z.2])))
def cv_letS:g_letSR→g_letS:=Sum.elim (fun z=>.inl (z.1,z.2.1,z.2.2.1,1,selL [[i64 z.2.2.2.1,i64 z.2.2.2.2.1,st z.2.2.2.2.2.1,.ro 4 z.2.2.2.2.2.2.1 z.2.2.2.2.2.2.2.1]],z.2.2.2.2.2.2.2.2)) (fun z=>.inr z)
theorem cvs_letS{args:List V}{L:List (Option Chunk)}(z:g_letSR)(h:SC E5 60 args L (R_letSR z)):SC E5 60 args L (R_letS (cv_letS z)):=by
 rcases z with z|z
 ·exact cv_k h
 ·exact h
noncomputable def letS(q:Nat)(x:a_letS):Option g_letS:=(letSR q x).map cv_letS
theorem sc_letS(q:Nat):Lw E5 60 A_letS R_letS (letS q):=by
 intro x z h
 obtain⟨y,hy,rfl⟩:=Option.map_eq_some_iff.1 h
 exact cvs_letS y (sc_letSR q x y hy)
abbrev a_awaitR:Type:=SP
abbrev g_awaitR:Type:=(Int×Int×ByteArray×FL×SP)⊕(Int×Int)
def A_awaitR:AR a_awaitR:=fun x=>([.ptr 0 0],(hHP x))
def R_awaitR:g_awaitR→CRes:=Sum.elim (fun z:Int×Int×ByteArray×FL×SP=>.ret (.agg [i64 z.1,i64 z.2.1,st z.2.2.1,.sl 3 4 0 2]) [some (.blk [.ro 4 z.2.2.2.2.2.2.1 (fun j=>[i64 (z.2.2.2.2.2.2.2.1 j),i64 (z.2.2.2.2.2.2.2.2.1 j),st (z.2.2.2.2.2.2.2.2.2.1 j),i64 (z.2.2.2.2.2.2.2.2.2.2.1 j)]),i64 z.2.2.2.2.1,i64 z.2.2.2.2.2.1,.sl 1 1 0 z.2.2.2.2.2.2.2.2.2.2.2.1,.sl 2 1 0 z.2.2.2.2.2.2.2.2.2.2.2.2.2.1]),some (.row 9 1 z.2.2.2.2.2.2.2.2.2.2.2.1 (fun j=>[st (z.2.2.2.2.2.2.2.2.2.2.2.2.1 j)])),some (.row 9 1 z.2.2.2.2.2.2.2.2.2.2.2.2.2.1 (fun j=>[st (z.2.2.2.2.2.2.2.2.2.2.2.2.2.2 j)])),some (.row 40 4 2 z.2.2.2.1)]) (fun z:Int×Int=>.pan (.ifc 51 (.agg [i64 z.1,i64 z.2])))
def t_awaitR{β:Type}(c_expr:a_expr→Option g_expr)(c_must:a_must→Option g_must)(c_literal:a_literal→Option g_literal)(x:a_awaitR)(dn:g_awaitR→Option β):Option β:=
 (c_expr (1,w (x.1+1),x.2)).bind fun z12=>Sum.elim (fun z12a=>(c_must (⟨#[119,105,116,104,105,110]⟩,z12a.2.2.2.2.2)).bind fun z25=>Sum.elim (fun z25a=>(c_literal z25a).bind fun z37=>Sum.elim (fun z37a=>dn (.inl (6,0,⟨#[]⟩,fun j=>[i64 (if j<1 then z12a.1 else z37a.1),i64 (if j<1 then z12a.2.1 else z37a.2.1),st (if j<1 then z12a.2.2.1 else z37a.2.2.1),V.ro 4 (if j<1 then z12a.2.2.2.1 else z37a.2.2.2.1) fun j_1=>if j<1 then z12a.2.2.2.2.1 j_1 else z37a.2.2.2.2.1 j_1],z37a.2.2.2.2.2))) (fun z37b=>dn (.inr z37b)) z37) (fun z25b=>dn (.inr z25b)) z25) (fun z12b=>dn (.inr z12b)) z12
theorem n_awaitR{β:Type}(c_expr c_must c_literal)(x)(dn:g_awaitR→Option β):t_awaitR c_expr c_must c_literal x dn=(t_awaitR c_expr c_must c_literal x some).bind dn:=by
 unfold t_awaitR
 repeat' first|exact n0|refine n1 fun _=>?_|refine n2 ?_ ?_|refine n3 (fun _=>?_) fun _=>?_|rfl
theorem r_awaitR(c_expr c_must c_literal)(x):callK E5 (ft2 79 A_expr R_expr c_expr (ft2 32 A_must R_must c_must (ft2 81 A_literal R_literal c_literal ca0))) lo0 63 (A_awaitR x).1 (A_awaitR x).2 K=t_awaitR (vf A_expr c_expr) (vf A_must c_must) (vf A_literal c_literal) x (fun z=>some (.c (R_awaitR z))):=by kernel_rfl
noncomputable def awaitR(q:Nat)(x:a_awaitR):Option g_awaitR:=t_awaitR (expr q) (must q) (literal q) x some
theorem sc_awaitR(q:Nat):Lw E5 63 A_awaitR R_awaitR (awaitR q):=sof hW5 hX5 (fk2 (sc_expr q) (fk2 (sc_must q) (fk2 (sc_literal q) ca0_sound))) (fun _=>lo0_sound) fun x=>(r_awaitR (expr q) (must q) (literal q) x).trans (by rw[v_expr,v_must,v_literal,n_awaitR]<;>rfl)
abbrev a_await:Type:=SP
abbrev g_await:Type:=(Int×Int×ByteArray×Nat×FL×SP)⊕(Int×Int)
def A_await:AR a_await:=fun x=>([.ptr 0 0],(hHP x))
def d_await(t:TT):a_await:=(dHP t.2)
theorem v_await:VI A_await:=vd d_await fun _=>rfl
def R_await:g_await→CRes:=Sum.elim (fun z:Int×Int×ByteArray×Nat×FL×SP=>.ret (.agg [i64 z.1,i64 z.2.1,st z.2.2.1,.ro 4 z.2.2.2.1 z.2.2.2.2.1]) (hHP z.2.2.2.2.2)) (fun z:Int×Int=>.pan (.ifc 51 (.agg [i64 z.1,i64 z.2])))
def cv_await:g_awaitR→g_await:=Sum.elim (fun z=>.inl (z.1,z.2.1,z.2.2.1,2,z.2.2.2)) (fun z=>.inr z)
theorem cvs_await{args:List V}{L:List (Option Chunk)}(z:g_awaitR)(h:SC E5 63 args L (R_awaitR z)):SC E5 63 args L (R_await (cv_await z)):=by
 rcases z with z|z
 ·exact cv_k h
 ·exact h
noncomputable def await(q:Nat)(x:a_await):Option g_await:=(awaitR q x).map cv_await
theorem sc_await(q:Nat):Lw E5 63 A_await R_await (await q):=by
 intro x z h
 obtain⟨y,hy,rfl⟩:=Option.map_eq_some_iff.1 h
 exact cvs_await y (sc_awaitR q x y hy)
abbrev a_amountR:Type:=SP
abbrev g_amountR:Type:=(Int×Int×ByteArray×Int×Int×ByteArray×Nat×FL×SP)⊕(Int×Int)
def A_amountR:AR a_amountR:=fun x=>([.ptr 0 0],(hHP x))
def R_amountR:g_amountR→CRes:=Sum.elim (fun z:Int×Int×ByteArray×Int×Int×ByteArray×Nat×FL×SP=>.ret (.agg [i64 z.1,i64 z.2.1,st z.2.2.1,.sl 3 4 0 1]) [some (.blk [.ro 4 z.2.2.2.2.2.2.2.2.2.2.1 (fun j=>[i64 (z.2.2.2.2.2.2.2.2.2.2.2.1 j),i64 (z.2.2.2.2.2.2.2.2.2.2.2.2.1 j),st (z.2.2.2.2.2.2.2.2.2.2.2.2.2.1 j),i64 (z.2.2.2.2.2.2.2.2.2.2.2.2.2.2.1 j)]),i64 z.2.2.2.2.2.2.2.2.1,i64 z.2.2.2.2.2.2.2.2.2.1,.sl 1 1 0 z.2.2.2.2.2.2.2.2.2.2.2.2.2.2.2.1,.sl 2 1 0 z.2.2.2.2.2.2.2.2.2.2.2.2.2.2.2.2.2.1]),some (.row 9 1 z.2.2.2.2.2.2.2.2.2.2.2.2.2.2.2.1 (fun j=>[st (z.2.2.2.2.2.2.2.2.2.2.2.2.2.2.2.2.1 j)])),some (.row 9 1 z.2.2.2.2.2.2.2.2.2.2.2.2.2.2.2.2.2.1 (fun j=>[st (z.2.2.2.2.2.2.2.2.2.2.2.2.2.2.2.2.2.2 j)])),some (.row 40 4 1 (selL [[i64 z.2.2.2.1,i64 z.2.2.2.2.1,st z.2.2.2.2.2.1,.ro 4 z.2.2.2.2.2.2.1 z.2.2.2.2.2.2.2.1]]))]) (fun z:Int×Int=>.pan (.ifc 51 (.agg [i64 z.1,i64 z.2])))
def t_amountR{β:Type}(c_is:a_is→Option g_is)(c_literal:a_literal→Option g_literal)(x:a_amountR)(dn:g_amountR→Option β):Option β:=
 (c_is (⟨#[107,101,101,112]⟩,x)).bind fun z12=>if z12.1=true then(c_literal (w (z12.2.1+1),z12.2.2)).bind fun z24=>Sum.elim (fun z24a=>dn (.inl (11,0,⟨#[]⟩,z24a))) (fun z24b=>dn (.inr z24b)) z24 else(c_literal (w (z12.2.1+1),z12.2.2)).bind fun z37=>Sum.elim (fun z37a=>dn (.inl (5,0,⟨#[]⟩,z37a))) (fun z37b=>dn (.inr z37b)) z37
theorem n_amountR{β:Type}(c_is c_literal)(x)(dn:g_amountR→Option β):t_amountR c_is c_literal x dn=(t_amountR c_is c_literal x some).bind dn:=by
 unfold t_amountR
 repeat' first|exact n0|refine n1 fun _=>?_|refine n2 ?_ ?_|refine n3 (fun _=>?_) fun _=>?_|rfl
theorem r_amountR(c_is c_literal)(x):callK E5 (ftb 58 A_is R_is c_is (ft2 81 A_literal R_literal c_literal ca0)) lo0 64 (A_amountR x).1 (A_amountR x).2 K=t_amountR (vf A_is c_is) (vf A_literal c_literal) x (fun z=>some (.c (R_amountR z))):=by kernel_rfl
noncomputable def amountR(q:Nat)(x:a_amountR):Option g_amountR:=t_amountR (is q) (literal q) x some
theorem sc_amountR(q:Nat):Lw E5 64 A_amountR R_amountR (amountR q):=sof hW5 hX5 (fk (sc_is q) (fk2 (sc_literal q) ca0_sound)) (fun _=>lo0_sound) fun x=>(r_amountR (is q) (literal q) x).trans (by rw[v_is,v_literal,n_amountR]<;>rfl)
abbrev a_amount:Type:=SP
abbrev g_amount:Type:=(Int×Int×ByteArray×Nat×FL×SP)⊕(Int×Int)
def A_amount:AR a_amount:=fun x=>([.ptr 0 0],(hHP x))
def d_amount(t:TT):a_amount:=(dHP t.2)
theorem v_amount:VI A_amount:=vd d_amount fun _=>rfl
def R_amount:g_amount→CRes:=Sum.elim (fun z:Int×Int×ByteArray×Nat×FL×SP=>.ret (.agg [i64 z.1,i64 z.2.1,st z.2.2.1,.ro 4 z.2.2.2.1 z.2.2.2.2.1]) (hHP z.2.2.2.2.2)) (fun z:Int×Int=>.pan (.ifc 51 (.agg [i64 z.1,i64 z.2])))
def cv_amount:g_amountR→g_amount:=Sum.elim (fun z=>.inl (z.1,z.2.1,z.2.2.1,1,selL [[i64 z.2.2.2.1,i64 z.2.2.2.2.1,st z.2.2.2.2.2.1,.ro 4 z.2.2.2.2.2.2.1 z.2.2.2.2.2.2.2.1]],z.2.2.2.2.2.2.2.2)) (fun z=>.inr z)
theorem cvs_amount{args:List V}{L:List (Option Chunk)}(z:g_amountR)(h:SC E5 64 args L (R_amountR z)):SC E5 64 args L (R_amount (cv_amount z)):=by
 rcases z with z|z
 ·exact cv_k h
 ·exact h
noncomputable def amount(q:Nat)(x:a_amount):Option g_amount:=(amountR q x).map cv_amount
theorem sc_amount(q:Nat):Lw E5 64 A_amount R_amount (amount q):=by
 intro x z h
 obtain⟨y,hy,rfl⟩:=Option.map_eq_some_iff.1 h
 exact cvs_amount y (sc_amountR q x y hy)
abbrev a_singleR:Type:=SP
abbrev g_singleR:Type:=(Int×Int×ByteArray×Int×Int×ByteArray×Nat×FL×SP)⊕(Int×Int)
def A_singleR:AR a_singleR:=fun x=>([.ptr 0 0],(hHP x))
def R_singleR:g_singleR→CRes:=Sum.elim (fun z:Int×Int×ByteArray×Int×Int×ByteArray×Nat×FL×SP=>.ret (.agg [i64 z.1,i64 z.2.1,st z.2.2.1,.sl 3 4 0 1]) [some (.blk [.ro 4 z.2.2.2.2.2.2.2.2.2.2.1 (fun j=>[i64 (z.2.2.2.2.2.2.2.2.2.2.2.1 j),i64 (z.2.2.2.2.2.2.2.2.2.2.2.2.1 j),st (z.2.2.2.2.2.2.2.2.2.2.2.2.2.1 j),i64 (z.2.2.2.2.2.2.2.2.2.2.2.2.2.2.1 j)]),i64 z.2.2.2.2.2.2.2.2.1,i64 z.2.2.2.2.2.2.2.2.2.1,.sl 1 1 0 z.2.2.2.2.2.2.2.2.2.2.2.2.2.2.2.1,.sl 2 1 0 z.2.2.2.2.2.2.2.2.2.2.2.2.2.2.2.2.2.1]),some (.row 9 1 z.2.2.2.2.2.2.2.2.2.2.2.2.2.2.2.1 (fun j=>[st (z.2.2.2.2.2.2.2.2.2.2.2.2.2.2.2.2.1 j)])),some (.row 9 1 z.2.2.2.2.2.2.2.2.2.2.2.2.2.2.2.2.2.1 (fun j=>[st (z.2.2.2.2.2.2.2.2.2.2.2.2.2.2.2.2.2.2 j)])),some (.row 40 4 1 (selL [[i64 z.2.2.2.1,i64 z.2.2.2.2.1,st z.2.2.2.2.2.1,.ro 4 z.2.2.2.2.2.2.1 z.2.2.2.2.2.2.2.1]]))]) (fun z:Int×Int=>.pan (.ifc 51 (.agg [i64 z.1,i64 z.2])))
def t_singleR{β:Type}(c_is:a_is→Option g_is)(c_expr:a_expr→Option g_expr)(x:a_singleR)(dn:g_singleR→Option β):Option β:=
 (c_is (⟨#[112,111,105,110,116]⟩,x)).bind fun z12=>if z12.1=true then(c_expr (1,w (z12.2.1+1),z12.2.2)).bind fun z25=>Sum.elim (fun z25a=>dn (.inl (8,0,⟨#[]⟩,z25a))) (fun z25b=>dn (.inr z25b)) z25 else(c_expr (1,w (z12.2.1+1),z12.2.2)).bind fun z39=>Sum.elim (fun z39a=>dn (.inl (7,0,⟨#[]⟩,z39a))) (fun z39b=>dn (.inr z39b)) z39
theorem n_singleR{β:Type}(c_is c_expr)(x)(dn:g_singleR→Option β):t_singleR c_is c_expr x dn=(t_singleR c_is c_expr x some).bind dn:=by
 unfold t_singleR
 repeat' first|exact n0|refine n1 fun _=>?_|refine n2 ?_ ?_|refine n3 (fun _=>?_) fun _=>?_|rfl
theorem r_singleR(c_is c_expr)(x):callK E5 (ftb 58 A_is R_is c_is (ft2 79 A_expr R_expr c_expr ca0)) lo0 65 (A_singleR x).1 (A_singleR x).2 K=t_singleR (vf A_is c_is) (vf A_expr c_expr) x (fun z=>some (.c (R_singleR z))):=by kernel_rfl
noncomputable def singleR(q:Nat)(x:a_singleR):Option g_singleR:=t_singleR (is q) (expr q) x some
theorem sc_singleR(q:Nat):Lw E5 65 A_singleR R_singleR (singleR q):=sof hW5 hX5 (fk (sc_is q) (fk2 (sc_expr q) ca0_sound)) (fun _=>lo0_sound) fun x=>(r_singleR (is q) (expr q) x).trans (by rw[v_is,v_expr,n_singleR]<;>rfl)
abbrev a_single:Type:=SP
abbrev g_single:Type:=(Int×Int×ByteArray×Nat×FL×SP)⊕(Int×Int)
def A_single:AR a_single:=fun x=>([.ptr 0 0],(hHP x))
def d_single(t:TT):a_single:=(dHP t.2)
theorem v_single:VI A_single:=vd d_single fun _=>rfl
def R_single:g_single→CRes:=Sum.elim (fun z:Int×Int×ByteArray×Nat×FL×SP=>.ret (.agg [i64 z.1,i64 z.2.1,st z.2.2.1,.ro 4 z.2.2.2.1 z.2.2.2.2.1]) (hHP z.2.2.2.2.2)) (fun z:Int×Int=>.pan (.ifc 51 (.agg [i64 z.1,i64 z.2])))
def cv_single:g_singleR→g_single:=Sum.elim (fun z=>.inl (z.1,z.2.1,z.2.2.1,1,selL [[i64 z.2.2.2.1,i64 z.2.2.2.2.1,st z.2.2.2.2.2.1,.ro 4 z.2.2.2.2.2.2.1 z.2.2.2.2.2.2.2.1]],z.2.2.2.2.2.2.2.2)) (fun z=>.inr z)
theorem cvs_single{args:List V}{L:List (Option Chunk)}(z:g_singleR)(h:SC E5 65 args L (R_singleR z)):SC E5 65 args L (R_single (cv_single z)):=by
 rcases z with z|z
 ·exact cv_k h
 ·exact h
noncomputable def single(q:Nat)(x:a_single):Option g_single:=(singleR q x).map cv_single
theorem sc_single(q:Nat):Lw E5 65 A_single R_single (single q):=by
 intro x z h
 obtain⟨y,hy,rfl⟩:=Option.map_eq_some_iff.1 h
 exact cvs_single y (sc_singleR q x y hy)
abbrev a_numberedR:Type:=SP
abbrev g_numberedR:Type:=(Int×Int×ByteArray×SP)⊕(Int×Int×ByteArray×Int×Int×ByteArray×Nat×FL×SP)⊕(Int×Int)
def A_numberedR:AR a_numberedR:=fun x=>([.ptr 0 0],(hHP x))
def R_numberedR:g_numberedR→CRes:=Sum.elim (fun z:Int×Int×ByteArray×SP=>.ret (.agg [i64 z.1,i64 z.2.1,st z.2.2.1,nilS]) (hHP z.2.2.2)) (Sum.elim (fun z:Int×Int×ByteArray×Int×Int×ByteArray×Nat×FL×SP=>.ret (.agg [i64 z.1,i64 z.2.1,st z.2.2.1,.sl 3 4 0 1]) [some (.blk [.ro 4 z.2.2.2.2.2.2.2.2.2.2.1 (fun j=>[i64 (z.2.2.2.2.2.2.2.2.2.2.2.1 j),i64 (z.2.2.2.2.2.2.2.2.2.2.2.2.1 j),st (z.2.2.2.2.2.2.2.2.2.2.2.2.2.1 j),i64 (z.2.2.2.2.2.2.2.2.2.2.2.2.2.2.1 j)]),i64 z.2.2.2.2.2.2.2.2.1,i64 z.2.2.2.2.2.2.2.2.2.1,.sl 1 1 0 z.2.2.2.2.2.2.2.2.2.2.2.2.2.2.2.1,.sl 2 1 0 z.2.2.2.2.2.2.2.2.2.2.2.2.2.2.2.2.2.1]),some (.row 9 1 z.2.2.2.2.2.2.2.2.2.2.2.2.2.2.2.1 (fun j=>[st (z.2.2.2.2.2.2.2.2.2.2.2.2.2.2.2.2.1 j)])),some (.row 9 1 z.2.2.2.2.2.2.2.2.2.2.2.2.2.2.2.2.2.1 (fun j=>[st (z.2.2.2.2.2.2.2.2.2.2.2.2.2.2.2.2.2.2 j)])),some (.row 40 4 1 (selL [[i64 z.2.2.2.1,i64 z.2.2.2.2.1,st z.2.2.2.2.2.1,.ro 4 z.2.2.2.2.2.2.1 z.2.2.2.2.2.2.2.1]]))]) (fun z:Int×Int=>.pan (.ifc 51 (.agg [i64 z.1,i64 z.2]))))
def t_numberedR{β:Type}(c_next:a_next→Option g_next)(c_number:a_number→Option g_number)(c_must:a_must→Option g_must)(c_literal:a_literal→Option g_literal)(x:a_numberedR)(dn:g_numberedR→Option β):Option β:=
 (c_next x).bind fun z11=>if(z11.2.2.1.toList==ByteArray.toList ⟨#[101,109,105,116]⟩)=true then(c_number (0,99,w (z11.2.2.2.2.1+1),z11.2.2.2.2.2)).bind fun z25=>Sum.elim (fun z25a=>dn (.inl (12,z25a.1,⟨#[]⟩,z25a.2))) (fun z25b=>dn (.inr (.inr z25b))) z25 else if(z11.2.2.1.toList==ByteArray.toList ⟨#[97,98,111,114,116]⟩)=true then(c_number (0,999,w (z11.2.2.2.2.1+1),z11.2.2.2.2.2)).bind fun z40=>Sum.elim (fun z40a=>dn (.inl (13,z40a.1,⟨#[]⟩,z40a.2))) (fun z40b=>dn (.inr (.inr z40b))) z40 else if(z11.2.2.1.toList==ByteArray.toList ⟨#[117,115,101]⟩)=true then(c_number (0,7,w (z11.2.2.2.2.1+1),z11.2.2.2.2.2)).bind fun z55=>Sum.elim (fun z55a=>(c_must (⟨#[102,111,114]⟩,z55a.2)).bind fun z68=>Sum.elim (fun z68a=>(c_literal z68a).bind fun z80=>Sum.elim (fun z80a=>dn (.inr (.inl (9,z55a.1,⟨#[]⟩,z80a)))) (fun z80b=>dn (.inr (.inr z80b))) z80) (fun z68b=>dn (.inr (.inr z68b))) z68) (fun z55b=>dn (.inr (.inr z55b))) z55 else(c_number (0,7,w (z11.2.2.2.2.1+1),z11.2.2.2.2.2)).bind fun z97=>Sum.elim (fun z97a=>(c_must (⟨#[44]⟩,z97a.2)).bind fun z110=>Sum.elim (fun z110a=>(c_literal z110a).bind fun z122=>Sum.elim (fun z122a=>dn (.inr (.inl (10,z97a.1,⟨#[]⟩,z122a)))) (fun z122b=>dn (.inr (.inr z122b))) z122) (fun z110b=>dn (.inr (.inr z110b))) z110) (fun z97b=>dn (.inr (.inr z97b))) z97
theorem n_numberedR{β:Type}(c_next c_number)(c_must c_literal)(x)(dn:g_numberedR→Option β):t_numberedR c_next c_number c_must c_literal x dn=(t_numberedR c_next c_number c_must c_literal x some).bind dn:=by
 unfold t_numberedR
 repeat' first|exact n0|refine n1 fun _=>?_|refine n2 ?_ ?_|refine n3 (fun _=>?_) fun _=>?_|rfl
theorem r_numberedR(c_next c_number)(c_must c_literal)(x):callK E5 (ftb 18 A_next R_next c_next (ft2 80 A_number R_number c_number (ft2 32 A_must R_must c_must (ft2 81 A_literal R_literal c_literal ca0)))) lo0 66 (A_numberedR x).1 (A_numberedR x).2 K=t_numberedR (vf A_next c_next) (vf A_number c_number) (vf A_must c_must) (vf A_literal c_literal) x (fun z=>some (.c (R_numberedR z))):=by kernel_rfl
noncomputable def numberedR(q:Nat)(x:a_numberedR):Option g_numberedR:=t_numberedR (next q) (number q) (must q) (literal q) x some
theorem sc_numberedR(q:Nat):Lw E5 66 A_numberedR R_numberedR (numberedR q):=sof hW5 hX5 (fk (sc_next q) (fk2 (sc_number q) (fk2 (sc_must q) (fk2 (sc_literal q) ca0_sound)))) (fun _=>lo0_sound) fun x=>(r_numberedR (next q) (number q) (must q) (literal q) x).trans (by rw[v_next,v_number,v_must,v_literal,n_numberedR]<;>rfl)
abbrev a_numbered:Type:=SP
abbrev g_numbered:Type:=(Int×Int×ByteArray×Nat×FL×SP)⊕(Int×Int)
def A_numbered:AR a_numbered:=fun x=>([.ptr 0 0],(hHP x))
def d_numbered(t:TT):a_numbered:=(dHP t.2)
theorem v_numbered:VI A_numbered:=vd d_numbered fun _=>rfl
def R_numbered:g_numbered→CRes:=Sum.elim (fun z:Int×Int×ByteArray×Nat×FL×SP=>.ret (.agg [i64 z.1,i64 z.2.1,st z.2.2.1,.ro 4 z.2.2.2.1 z.2.2.2.2.1]) (hHP z.2.2.2.2.2)) (fun z:Int×Int=>.pan (.ifc 51 (.agg [i64 z.1,i64 z.2])))
def cv_numbered:g_numberedR→g_numbered:=Sum.elim (fun z=>.inl (z.1,z.2.1,z.2.2.1,0,fun _=>[],z.2.2.2)) (Sum.elim (fun z=>.inl (z.1,z.2.1,z.2.2.1,1,selL [[i64 z.2.2.2.1,i64 z.2.2.2.2.1,st z.2.2.2.2.2.1,.ro 4 z.2.2.2.2.2.2.1 z.2.2.2.2.2.2.2.1]],z.2.2.2.2.2.2.2.2)) (fun z=>.inr z))
theorem cvs_numbered{args:List V}{L:List (Option Chunk)}(z:g_numberedR)(h:SC E5 66 args L (R_numberedR z)):SC E5 66 args L (R_numbered (cv_numbered z)):=by
 rcases z with z|z|z
 ·exact cv_z h
 ·exact cv_k h
 ·exact h
noncomputable def numbered(q:Nat)(x:a_numbered):Option g_numbered:=(numberedR q x).map cv_numbered
theorem sc_numbered(q:Nat):Lw E5 66 A_numbered R_numbered (numbered q):=by
 intro x z h
 obtain⟨y,hy,rfl⟩:=Option.map_eq_some_iff.1 h
 exact cvs_numbered y (sc_numberedR q x y hy)
abbrev a_block:Type:=SP
abbrev g_block:Type:=(Int×Int×ByteArray×Nat×FL×SP)⊕(Int×Int)
def A_block:AR a_block:=fun x=>([.ptr 0 0],(hHP x))
def d_block(t:TT):a_block:=(dHP t.2)
theorem v_block:VI A_block:=vd d_block fun _=>rfl
def R_block:g_block→CRes:=Sum.elim (fun z:Int×Int×ByteArray×Nat×FL×SP=>.ret (.agg [i64 z.1,i64 z.2.1,st z.2.2.1,.ro 4 z.2.2.2.1 z.2.2.2.2.1]) (hHP z.2.2.2.2.2)) (fun z:Int×Int=>.pan (.ifc 51 (.agg [i64 z.1,i64 z.2])))
abbrev a_branch:Type:=SP
abbrev g_branch:Type:=(Int×Int×ByteArray×Nat×FL×SP)⊕(Int×Int)
def A_branch:AR a_branch:=fun x=>([.ptr 0 0],(hHP x))
def d_branch(t:TT):a_branch:=(dHP t.2)
theorem v_branch:VI A_branch:=vd d_branch fun _=>rfl
def R_branch:g_branch→CRes:=Sum.elim (fun z:Int×Int×ByteArray×Nat×FL×SP=>.ret (.agg [i64 z.1,i64 z.2.1,st z.2.2.1,.ro 4 z.2.2.2.1 z.2.2.2.2.1]) (hHP z.2.2.2.2.2)) (fun z:Int×Int=>.pan (.ifc 51 (.agg [i64 z.1,i64 z.2])))
abbrev a_repeatS:Type:=SP
abbrev g_repeatS:Type:=(Int×Int×ByteArray×Nat×FL×SP)⊕(Int×Int)
def A_repeatS:AR a_repeatS:=fun x=>([.ptr 0 0],(hHP x))
def d_repeatS(t:TT):a_repeatS:=(dHP t.2)
theorem v_repeatS:VI A_repeatS:=vd d_repeatS fun _=>rfl
def R_repeatS:g_repeatS→CRes:=Sum.elim (fun z:Int×Int×ByteArray×Nat×FL×SP=>.ret (.agg [i64 z.1,i64 z.2.1,st z.2.2.1,.ro 4 z.2.2.2.1 z.2.2.2.2.1]) (hHP z.2.2.2.2.2)) (fun z:Int×Int=>.pan (.ifc 51 (.agg [i64 z.1,i64 z.2])))
abbrev a_statement:Type:=SP
abbrev g_statement:Type:=(Int×Int×ByteArray×Nat×FL×SP)⊕(Int×Int)
def A_statement:AR a_statement:=fun x=>([.ptr 0 0],(hHP x))
def d_statement(t:TT):a_statement:=(dHP t.2)
theorem v_statement:VI A_statement:=vd d_statement fun _=>rfl
def R_statement:g_statement→CRes:=Sum.elim (fun z:Int×Int×ByteArray×Nat×FL×SP=>.ret (.agg [i64 z.1,i64 z.2.1,st z.2.2.1,.ro 4 z.2.2.2.1 z.2.2.2.2.1]) (hHP z.2.2.2.2.2)) (fun z:Int×Int=>.pan (.ifc 51 (.agg [i64 z.1,i64 z.2])))
abbrev a_blockR:Type:=SP
abbrev g_blockR:Type:=(Int×Int×ByteArray×SP)⊕(Int×Int×ByteArray×Nat×FL×SP)⊕(Int×Int)
def A_blockR:AR a_blockR:=fun x=>([.ptr 0 0],(hHP x))
def R_blockR:g_blockR→CRes:=Sum.elim (fun z:Int×Int×ByteArray×SP=>.ret (.agg [i64 z.1,i64 z.2.1,st z.2.2.1,nilS]) (hHP z.2.2.2)) (Sum.elim (fun z:Int×Int×ByteArray×Nat×FL×SP=>.ret (.agg [i64 z.1,i64 z.2.1,st z.2.2.1,.sl 3 4 0 z.2.2.2.1]) ((hHP z.2.2.2.2.2)++[some (.row 40 4 z.2.2.2.1 z.2.2.2.2.1)])) (fun z:Int×Int=>.pan (.ifc 51 (.agg [i64 z.1,i64 z.2]))))
abbrev a_branchR:Type:=SP
abbrev g_branchR:Type:=(Int×Int×ByteArray×FL×SP)⊕(Int×Int)
def A_branchR:AR a_branchR:=fun x=>([.ptr 0 0],(hHP x))
def R_branchR:g_branchR→CRes:=Sum.elim (fun z:Int×Int×ByteArray×FL×SP=>.ret (.agg [i64 z.1,i64 z.2.1,st z.2.2.1,.sl 3 4 0 3]) [some (.blk [.ro 4 z.2.2.2.2.2.2.1 (fun j=>[i64 (z.2.2.2.2.2.2.2.1 j),i64 (z.2.2.2.2.2.2.2.2.1 j),st (z.2.2.2.2.2.2.2.2.2.1 j),i64 (z.2.2.2.2.2.2.2.2.2.2.1 j)]),i64 z.2.2.2.2.1,i64 z.2.2.2.2.2.1,.sl 1 1 0 z.2.2.2.2.2.2.2.2.2.2.2.1,.sl 2 1 0 z.2.2.2.2.2.2.2.2.2.2.2.2.2.1]),some (.row 9 1 z.2.2.2.2.2.2.2.2.2.2.2.1 (fun j=>[st (z.2.2.2.2.2.2.2.2.2.2.2.2.1 j)])),some (.row 9 1 z.2.2.2.2.2.2.2.2.2.2.2.2.2.1 (fun j=>[st (z.2.2.2.2.2.2.2.2.2.2.2.2.2.2 j)])),some (.row 40 4 3 z.2.2.2.1)]) (fun z:Int×Int=>.pan (.ifc 51 (.agg [i64 z.1,i64 z.2])))
abbrev a_repeatSR:Type:=SP
abbrev g_repeatSR:Type:=(Int×Int×ByteArray×Int×Int×ByteArray×Nat×FL×SP)⊕(Int×Int)
def A_repeatSR:AR a_repeatSR:=fun x=>([.ptr 0 0],(hHP x))
def R_repeatSR:g_repeatSR→CRes:=Sum.elim (fun z:Int×Int×ByteArray×Int×Int×ByteArray×Nat×FL×SP=>.ret (.agg [i64 z.1,i64 z.2.1,st z.2.2.1,.sl 3 4 0 1]) [some (.blk [.ro 4 z.2.2.2.2.2.2.2.2.2.2.1 (fun j=>[i64 (z.2.2.2.2.2.2.2.2.2.2.2.1 j),i64 (z.2.2.2.2.2.2.2.2.2.2.2.2.1 j),st (z.2.2.2.2.2.2.2.2.2.2.2.2.2.1 j),i64 (z.2.2.2.2.2.2.2.2.2.2.2.2.2.2.1 j)]),i64 z.2.2.2.2.2.2.2.2.1,i64 z.2.2.2.2.2.2.2.2.2.1,.sl 1 1 0 z.2.2.2.2.2.2.2.2.2.2.2.2.2.2.2.1,.sl 2 1 0 z.2.2.2.2.2.2.2.2.2.2.2.2.2.2.2.2.2.1]),some (.row 9 1 z.2.2.2.2.2.2.2.2.2.2.2.2.2.2.2.1 (fun j=>[st (z.2.2.2.2.2.2.2.2.2.2.2.2.2.2.2.2.1 j)])),some (.row 9 1 z.2.2.2.2.2.2.2.2.2.2.2.2.2.2.2.2.2.1 (fun j=>[st (z.2.2.2.2.2.2.2.2.2.2.2.2.2.2.2.2.2.2 j)])),some (.row 40 4 1 (selL [[i64 z.2.2.2.1,i64 z.2.2.2.2.1,st z.2.2.2.2.2.1,.ro 4 z.2.2.2.2.2.2.1 z.2.2.2.2.2.2.2.1]]))]) (fun z:Int×Int=>.pan (.ifc 51 (.agg [i64 z.1,i64 z.2])))
abbrev a_statementR:Type:=SP
abbrev g_statementR:Type:=(Int×Int×ByteArray×Nat×FL×SP)⊕(Int×Int)
def A_statementR:AR a_statementR:=fun x=>([.ptr 0 0],(hHP x))
def R_statementR:g_statementR→CRes:=Sum.elim (fun z:Int×Int×ByteArray×Nat×FL×SP=>.ret (.agg [i64 z.1,i64 z.2.1,st z.2.2.1,.ro 4 z.2.2.2.1 z.2.2.2.2.1]) (hHP z.2.2.2.2.2)) (fun z:Int×Int=>.pan (.ifc 51 (.agg [i64 z.1,i64 z.2])))
abbrev blockR_l0_a:Type:=(SC2)⊕(Nat×FI×FI×FS×FI×Int×Int×Nat×Nat×FS×FS×FI×FI×FS×FN×FM×Nat)
abbrev blockR_l0_g:Type:=(Int×Int)⊕(SC2)⊕(Nat×FI×FI×FS×FI×Int×Int×Nat×Nat×FS×FS×Nat×FI×FI×FS×FN×FM)
def blockR_l0_S0(x:a_blockR)(y:SC2):St:={fr:=[V.ptr 0 0,V.junk,V.ptr 3 0,V.ptr 4 0]++jk 21,H:=hp [some (hPB y),some (hPV y),some (hPQ0 y),some (Chunk.blk [i64 0,i64 0,st ⟨#[]⟩,nilS]),some (Chunk.blk [i64 14,i64 0,st ⟨#[]⟩,nilS])],nx:=5,rt:=1,me:=36}
def blockR_l0_d0(s:St):SC2:=((vRoN (cb s 0 0)),dTI (cb s 0 0) 0,dTI (cb s 0 0) 1,dTS (cb s 0 0) 2,dTI (cb s 0 0) 3,vI (cb s 0 1),vI (cb s 0 2),vSlN (cb s 0 3),vSlN (cb s 0 4),dRS (s.H 1) 0,dRS (s.H 2) 0)
def blockR_l0_S1(x:a_blockR)(y:Nat×FI×FI×FS×FI×Int×Int×Nat×Nat×FS×FS×FI×FI×FS×FN×FM×Nat):St:={fr:=[V.ptr 0 0,V.junk,V.ptr 3 0,V.ptr 4 0]++jk 21,H:=hp [some (hPB y),some (hPV y),some (hPQ y),some (Chunk.blk [i64 0,i64 0,st ⟨#[]⟩,nilS]),some (Chunk.blk [i64 14,i64 0,st ⟨#[]⟩,V.sl 5 4 0 y.2.2.2.2.2.2.2.2.2.2.2.2.2.2.2.2]),some (Chunk.row 40 4 y.2.2.2.2.2.2.2.2.2.2.2.2.2.2.2.2 fun j=>[i64 (y.2.2.2.2.2.2.2.2.2.2.2.1 j),i64 (y.2.2.2.2.2.2.2.2.2.2.2.2.1 j),st (y.2.2.2.2.2.2.2.2.2.2.2.2.2.1 j),V.ro 4 (y.2.2.2.2.2.2.2.2.2.2.2.2.2.2.1 j) (y.2.2.2.2.2.2.2.2.2.2.2.2.2.2.2.1 j)])],nx:=6,rt:=1,me:=36}
def blockR_l0_d1(s:St):Nat×FI×FI×FS×FI×Int×Int×Nat×Nat×FS×FS×FI×FI×FS×FN×FM×Nat:=((vRoN (cb s 0 0)),dTI (cb s 0 0) 0,dTI (cb s 0 0) 1,dTS (cb s 0 0) 2,dTI (cb s 0 0) 3,vI (cb s 0 1),vI (cb s 0 2),vSlN (cb s 0 3),vSlN (cb s 0 4),dRS (s.H 1) 0,dRS (s.H 2) 0,dRI (s.H 5) 0,dRI (s.H 5) 1,dRS (s.H 5) 2,dRN (s.H 5) 3,dRF (s.H 5) 3,vSlN (cb s 4 3))
def blockR_l0_S(x:a_blockR):blockR_l0_a→St:=(Sum.elim (blockR_l0_S0 x) (blockR_l0_S1 x))
def blockR_l0_d(s:St):blockR_l0_a:=(match s.nx==5 with|true=>(.inl (blockR_l0_d0 s)) |false=>(.inr (blockR_l0_d1 s)))
theorem blockR_l0_u(x:a_blockR):VL (blockR_l0_S x):=vl blockR_l0_d (fun y=>by rcases y with y|y<;>rfl)
def blockR_l0_T(x:a_blockR):blockR_l0_g→Ex×St:=(Sum.elim (fun z=>(Ex.panic (V.ifc 51 (V.agg [i64 z.1,i64 z.2])),{fr:=[V.junk]++jk 24,H:=hp [none],nx:=1,rt:=1,me:=36})) (Sum.elim (fun z=>(Ex.exit 0,{fr:=[V.ptr 0 0,V.junk,V.ptr 3 0,V.ptr 4 0]++jk 21,H:=hp [some (hPB z),some (hPV z),some (hPQ0 z),some (Chunk.blk [i64 0,i64 0,st ⟨#[]⟩,nilS]),some (Chunk.blk [i64 14,i64 0,st ⟨#[]⟩,nilS])],nx:=5,rt:=1,me:=36})) (fun z=>(Ex.exit 0,{fr:=[V.ptr 0 0,V.junk,V.ptr 3 0,V.ptr 4 0]++jk 21,H:=hp [some (hPB z),some (hPV z),some (hPQ z),some (Chunk.blk [i64 0,i64 0,st ⟨#[]⟩,nilS]),some (Chunk.blk [i64 14,i64 0,st ⟨#[]⟩,V.sl 5 4 0 z.2.2.2.2.2.2.2.2.2.2.2.1]),some (Chunk.row 40 4 z.2.2.2.2.2.2.2.2.2.2.2.1 fun j=>[i64 (z.2.2.2.2.2.2.2.2.2.2.2.2.1 j),i64 (z.2.2.2.2.2.2.2.2.2.2.2.2.2.1 j),st (z.2.2.2.2.2.2.2.2.2.2.2.2.2.2.1 j),V.ro 4 (z.2.2.2.2.2.2.2.2.2.2.2.2.2.2.2.1 j) (z.2.2.2.2.2.2.2.2.2.2.2.2.2.2.2.2 j)])],nx:=6,rt:=1,me:=36}))))
def blockR_l0_t0{β:Type}(c_opens:a_opens→Option g_opens)(c_take:a_take→Option g_take)(c_statement:a_statement→Option g_statement)(x:a_blockR)(y:SC2)(nx:blockR_l0_a→Option β)(dn:blockR_l0_g→Option β):Option β:=
 (c_take (⟨#[125]⟩,y.2.2.2.2.2.1,y.2.2.2.2.2.2.1,y.1,y.2.1,y.2.2.1,y.2.2.2.1,y.2.2.2.2.1,y.2.2.2.2.2.2.2.1,y.2.2.2.2.2.2.2.2.2.1,y.2.2.2.2.2.2.2.2.1,y.2.2.2.2.2.2.2.2.2.2)).bind fun z454=>if(!z454.1)=true then(c_statement z454.2).bind fun z466=>Sum.elim (fun z466a=>nx (.inr (z466a.2.2.2.2.2.2.2.1,z466a.2.2.2.2.2.2.2.2.1,z466a.2.2.2.2.2.2.2.2.2.1,z466a.2.2.2.2.2.2.2.2.2.2.1,z466a.2.2.2.2.2.2.2.2.2.2.2.1,z466a.2.2.2.2.2.1,z466a.2.2.2.2.2.2.1,z466a.2.2.2.2.2.2.2.2.2.2.2.2.1,z466a.2.2.2.2.2.2.2.2.2.2.2.2.2.2.1,z466a.2.2.2.2.2.2.2.2.2.2.2.2.2.1,z466a.2.2.2.2.2.2.2.2.2.2.2.2.2.2.2,fun j=>z466a.1,fun j=>z466a.2.1,fun j=>z466a.2.2.1,fun j=>z466a.2.2.2.1,fun j=>z466a.2.2.2.2.1,1))) (fun z466b=>dn (.inl z466b)) z466 else dn (.inr (.inl (z454.2.2.2.1,z454.2.2.2.2.1,z454.2.2.2.2.2.1,z454.2.2.2.2.2.2.1,z454.2.2.2.2.2.2.2.1,z454.2.1,z454.2.2.1,z454.2.2.2.2.2.2.2.2.1,z454.2.2.2.2.2.2.2.2.2.2.1,z454.2.2.2.2.2.2.2.2.2.1,z454.2.2.2.2.2.2.2.2.2.2.2)))
theorem blockR_l0_n0{β:Type}(c_opens c_take c_statement)(x)(y)(nx:blockR_l0_a→Option β)(dn):blockR_l0_t0 c_opens c_take c_statement x y nx dn=(blockR_l0_t0 c_opens c_take c_statement x y (fun y=>some (.inl y)) (fun z=>some (.inr z))).bind fun r=>Sum.elim nx dn r:=by
 unfold blockR_l0_t0
 repeat' first|exact n0|refine n1 fun _=>?_|refine n2 ?_ ?_|refine n3 (fun _=>?_) fun _=>?_|rfl
theorem blockR_l0_r0(c_opens c_take c_statement)(x)(y)(lo:LoopT):loopK E5 (ft2 47 A_opens R_opens c_opens (ftb 44 A_take R_take c_take (ft2 48 A_statement R_statement c_statement ca0))) lo 0 13 (bodyOf E5 36 0) (blockR_l0_S x (.inl y)) (KCM [(0,13)] 4)=blockR_l0_t0 (vf A_opens c_opens) (vf A_take c_take) (vf A_statement c_statement) x y (fun y=>lo 0 13 (bodyOf E5 36 0) (blockR_l0_S x y) (KCM [(0,13)] 4)) (fun z=>some (.l (blockR_l0_T x z).1 (blockR_l0_T x z).2)):=by kernel_rfl
def blockR_l0_t1{β:Type}(c_opens:a_opens→Option g_opens)(c_take:a_take→Option g_take)(c_statement:a_statement→Option g_statement)(x:a_blockR)(y:Nat×FI×FI×FS×FI×Int×Int×Nat×Nat×FS×FS×FI×FI×FS×FN×FM×Nat)(nx:blockR_l0_a→Option β)(dn:blockR_l0_g→Option β):Option β:=
 (c_take (⟨#[125]⟩,y.2.2.2.2.2.1,y.2.2.2.2.2.2.1,y.1,y.2.1,y.2.2.1,y.2.2.2.1,y.2.2.2.2.1,y.2.2.2.2.2.2.2.1,y.2.2.2.2.2.2.2.2.2.1,y.2.2.2.2.2.2.2.2.1,y.2.2.2.2.2.2.2.2.2.2.1)).bind fun z481=>if(!z481.1)=true then(c_statement z481.2).bind fun z493=>Sum.elim (fun z493a=>if(y.2.2.2.2.2.2.2.2.2.2.2.2.2.2.2.2+1)*56≤roomBound∧y.2.2.2.2.2.2.2.2.2.2.2.2.2.2.2.2+1≤maxLen∧y.2.2.2.2.2.2.2.2.2.2.2.2.2.2.2.2≤y.2.2.2.2.2.2.2.2.2.2.2.2.2.2.2.2 then nx (.inr (z493a.2.2.2.2.2.2.2.1,z493a.2.2.2.2.2.2.2.2.1,z493a.2.2.2.2.2.2.2.2.2.1,z493a.2.2.2.2.2.2.2.2.2.2.1,z493a.2.2.2.2.2.2.2.2.2.2.2.1,z493a.2.2.2.2.2.1,z493a.2.2.2.2.2.2.1,z493a.2.2.2.2.2.2.2.2.2.2.2.2.1,z493a.2.2.2.2.2.2.2.2.2.2.2.2.2.2.1,z493a.2.2.2.2.2.2.2.2.2.2.2.2.2.1,z493a.2.2.2.2.2.2.2.2.2.2.2.2.2.2.2,fun j=>if j<y.2.2.2.2.2.2.2.2.2.2.2.2.2.2.2.2 then y.2.2.2.2.2.2.2.2.2.2.2.1 j else z493a.1,fun j=>if j<y.2.2.2.2.2.2.2.2.2.2.2.2.2.2.2.2 then y.2.2.2.2.2.2.2.2.2.2.2.2.1 j else z493a.2.1,fun j=>if j<y.2.2.2.2.2.2.2.2.2.2.2.2.2.2.2.2 then y.2.2.2.2.2.2.2.2.2.2.2.2.2.1 j else z493a.2.2.1,fun j=>if j<y.2.2.2.2.2.2.2.2.2.2.2.2.2.2.2.2 then y.2.2.2.2.2.2.2.2.2.2.2.2.2.2.1 j else z493a.2.2.2.1,fun(j j_1:Nat)=>if j<y.2.2.2.2.2.2.2.2.2.2.2.2.2.2.2.2 then y.2.2.2.2.2.2.2.2.2.2.2.2.2.2.2.1 j j_1 else z493a.2.2.2.2.1 j_1,y.2.2.2.2.2.2.2.2.2.2.2.2.2.2.2.2+1))else none) (fun z493b=>dn (.inl z493b)) z493 else dn (.inr (.inr (z481.2.2.2.1,z481.2.2.2.2.1,z481.2.2.2.2.2.1,z481.2.2.2.2.2.2.1,z481.2.2.2.2.2.2.2.1,z481.2.1,z481.2.2.1,z481.2.2.2.2.2.2.2.2.1,z481.2.2.2.2.2.2.2.2.2.2.1,z481.2.2.2.2.2.2.2.2.2.1,z481.2.2.2.2.2.2.2.2.2.2.2,y.2.2.2.2.2.2.2.2.2.2.2.2.2.2.2.2,y.2.2.2.2.2.2.2.2.2.2.2.1,y.2.2.2.2.2.2.2.2.2.2.2.2.1,y.2.2.2.2.2.2.2.2.2.2.2.2.2.1,y.2.2.2.2.2.2.2.2.2.2.2.2.2.2.1,y.2.2.2.2.2.2.2.2.2.2.2.2.2.2.2.1)))
theorem blockR_l0_n1{β:Type}(c_opens c_take c_statement)(x)(y)(nx:blockR_l0_a→Option β)(dn):blockR_l0_t1 c_opens c_take c_statement x y nx dn=(blockR_l0_t1 c_opens c_take c_statement x y (fun y=>some (.inl y)) (fun z=>some (.inr z))).bind fun r=>Sum.elim nx dn r:=by
 unfold blockR_l0_t1
 repeat' first|exact n0|refine n1 fun _=>?_|refine n2 ?_ ?_|refine n3 (fun _=>?_) fun _=>?_|rfl
theorem blockR_l0_r1(c_opens c_take c_statement)(x)(y)(lo:LoopT):loopK E5 (ft2 47 A_opens R_opens c_opens (ftb 44 A_take R_take c_take (ft2 48 A_statement R_statement c_statement ca0))) lo 0 13 (bodyOf E5 36 0) (blockR_l0_S x (.inr y)) (KCM [(0,13)] 4)=blockR_l0_t1 (vf A_opens c_opens) (vf A_take c_take) (vf A_statement c_statement) x y (fun y=>lo 0 13 (bodyOf E5 36 0) (blockR_l0_S x y) (KCM [(0,13)] 4)) (fun z=>some (.l (blockR_l0_T x z).1 (blockR_l0_T x z).2)):=by kernel_rfl
noncomputable def blockR_l0(c_opens:a_opens→Option g_opens)(c_take:a_take→Option g_take)(c_statement:a_statement→Option g_statement)(q:Nat)(x:a_blockR):blockR_l0_a→Option blockR_l0_g:=lpG (Sum.elim (fun y=>blockR_l0_t0 c_opens c_take c_statement x y (fun y=>some (.inl y)) (fun z=>some (.inr z))) (fun y=>blockR_l0_t1 c_opens c_take c_statement x y (fun y=>some (.inl y)) (fun z=>some (.inr z)))) q
theorem blockR_l0_s(c_opens)(h_opens:Lw E5 47 A_opens R_opens c_opens)(c_take)(h_take:Lw E5 44 A_take R_take c_take)(c_statement)(h_statement:Lw E5 48 A_statement R_statement c_statement)(q:Nat)(x:a_blockR):Ll E5 (bodyOf E5 36 0) (blockR_l0_S x) (blockR_l0_T x) (blockR_l0 c_opens c_take c_statement q x):=
 slp (fk2 h_opens (fk h_take (fk2 h_statement ca0_sound))) hX5 (fun lo y=>by
  rcases y with y|y
  ·exact(blockR_l0_r0 c_opens c_take c_statement x y lo).trans (by rw[v_opens,v_take,v_statement];exact blockR_l0_n0 _ _ _ _ _ _ _)
  ·exact(blockR_l0_r1 c_opens c_take c_statement x y lo).trans (by rw[v_opens,v_take,v_statement];exact blockR_l0_n1 _ _ _ _ _ _ _)) (fun z=>by rcases z with z|z|z<;>kernel_rfl) q
def t_blockR{β:Type}(c_opens:a_opens→Option g_opens)(c_take:a_take→Option g_take)(c_statement:a_statement→Option g_statement)(l_blockR_l0:blockR_l0_a→Option blockR_l0_g)(x:a_blockR)(dn:g_blockR→Option β):Option β:=
 (c_opens (⟨#[123]⟩,x)).bind fun z12=>Sum.elim (fun z12a=>(l_blockR_l0 (.inl (z12a.2.2.1,z12a.2.2.2.1,z12a.2.2.2.2.1,z12a.2.2.2.2.2.1,z12a.2.2.2.2.2.2.1,z12a.1,z12a.2.1,z12a.2.2.2.2.2.2.2.1,z12a.2.2.2.2.2.2.2.2.2.1,z12a.2.2.2.2.2.2.2.2.1,z12a.2.2.2.2.2.2.2.2.2.2))).bind fun z394=>Sum.elim (fun z394a=>dn (.inr (.inr z394a))) (fun z394b=>Sum.elim (fun z394ba=>dn (.inl (14,0,⟨#[]⟩,z394ba.2.2.2.2.2.1,w (z394ba.2.2.2.2.2.2.1-1),z394ba.1,z394ba.2.1,z394ba.2.2.1,z394ba.2.2.2.1,z394ba.2.2.2.2.1,z394ba.2.2.2.2.2.2.2.1,z394ba.2.2.2.2.2.2.2.2.2.1,z394ba.2.2.2.2.2.2.2.2.1,z394ba.2.2.2.2.2.2.2.2.2.2))) (fun z394bb=>dn (.inr (.inl (14,0,⟨#[]⟩,z394bb.2.2.2.2.2.2.2.2.2.2.2.1,fun j=>[i64 (z394bb.2.2.2.2.2.2.2.2.2.2.2.2.1 j),i64 (z394bb.2.2.2.2.2.2.2.2.2.2.2.2.2.1 j),st (z394bb.2.2.2.2.2.2.2.2.2.2.2.2.2.2.1 j),V.ro 4 (z394bb.2.2.2.2.2.2.2.2.2.2.2.2.2.2.2.1 j) (z394bb.2.2.2.2.2.2.2.2.2.2.2.2.2.2.2.2 j)],z394bb.2.2.2.2.2.1,w (z394bb.2.2.2.2.2.2.1-1),z394bb.1,z394bb.2.1,z394bb.2.2.1,z394bb.2.2.2.1,z394bb.2.2.2.2.1,z394bb.2.2.2.2.2.2.2.1,z394bb.2.2.2.2.2.2.2.2.2.1,z394bb.2.2.2.2.2.2.2.2.1,z394bb.2.2.2.2.2.2.2.2.2.2.1)))) z394b) z394) (fun z12b=>dn (.inr (.inr z12b))) z12
theorem n_blockR{β:Type}(c_opens c_take c_statement)(l_blockR_l0)(x)(dn:g_blockR→Option β):t_blockR c_opens c_take c_statement l_blockR_l0 x dn=(t_blockR c_opens c_take c_statement l_blockR_l0 x some).bind dn:=by
 unfold t_blockR
 repeat' first|exact n0|refine n1 fun _=>?_|refine n2 ?_ ?_|refine n3 (fun _=>?_) fun _=>?_|rfl
theorem r_blockR(c_opens c_take c_statement)(l_blockR_l0)(x):callK E5 (ft2 47 A_opens R_opens c_opens (ftb 44 A_take R_take c_take (ft2 48 A_statement R_statement c_statement ca0))) (lt3 0 (fun _=>true) (bodyOf E5 36 0) (blockR_l0_S x) (blockR_l0_T x) l_blockR_l0 lo0) 36 (A_blockR x).1 (A_blockR x).2 K=t_blockR (vf A_opens c_opens) (vf A_take c_take) (vf A_statement c_statement) (lf (bodyOf E5 36 0) (blockR_l0_S x) l_blockR_l0) x (fun z=>some (.c (R_blockR z))):=by kernel_rfl
theorem s_blockR(c_opens)(h_opens:Lw E5 47 A_opens R_opens c_opens)(c_take)(h_take:Lw E5 44 A_take R_take c_take)(c_statement)(h_statement:Lw E5 48 A_statement R_statement c_statement)(q:Nat):Lw E5 36 A_blockR R_blockR fun x=>t_blockR c_opens c_take c_statement (blockR_l0 c_opens c_take c_statement q x) x some:=sof hW5 hX5 (fk2 h_opens (fk h_take (fk2 h_statement ca0_sound))) (fun x=>(lk3 (blockR_l0_s c_opens h_opens c_take h_take c_statement h_statement q x) lo0_sound)) fun x=>(r_blockR c_opens c_take c_statement (blockR_l0 c_opens c_take c_statement q x) x).trans (by rw[v_opens,v_take,v_statement,blockR_l0_u,n_blockR]<;>rfl)
noncomputable def t_branchR{β:Type}(c_expr:a_expr→Option g_expr)(c_block:a_block→Option g_block)(c_take:a_take→Option g_take)(x:a_branchR)(dn:g_branchR→Option β):Option β:=
 (c_expr (1,w (x.1+1),x.2)).bind fun z12=>Sum.elim (fun z12a=>(c_block z12a.2.2.2.2.2).bind fun z24=>Sum.elim (fun z24a=>(c_take (⟨#[101,108,115,101]⟩,z24a.2.2.2.2.2)).bind fun z37=>if z37.1=true then(c_block z37.2).bind fun z49=>Sum.elim (fun z49a=>dn (.inl (3,0,⟨#[]⟩,fun j=>[i64 (if j<2 then if j<1 then z12a.1 else z24a.1 else z49a.1),i64 (if j<2 then if j<1 then z12a.2.1 else z24a.2.1 else z49a.2.1),st (if j<2 then if j<1 then z12a.2.2.1 else z24a.2.2.1 else z49a.2.2.1),V.ro 4 (if j<2 then if j<1 then z12a.2.2.2.1 else z24a.2.2.2.1 else z49a.2.2.2.1) fun j_1=>if j<2 then if j<1 then z12a.2.2.2.2.1 j_1 else z24a.2.2.2.2.1 j_1 else z49a.2.2.2.2.1 j_1],z49a.2.2.2.2.2))) (fun z49b=>dn (.inr z49b)) z49 else dn (.inl (3,0,⟨#[]⟩,fun j=>[i64 (if j<2 then if j<1 then z12a.1 else z24a.1 else 14),i64 (if j<2 then if j<1 then z12a.2.1 else z24a.2.1 else 0),st (if j<2 then if j<1 then z12a.2.2.1 else z24a.2.2.1 else⟨#[]⟩),Decidable.rec (fun(h:¬j<1+1)=>nilS) (fun(h:j<1+1)=>mergeV (j<1) (V.ro 4 z12a.2.2.2.1 z12a.2.2.2.2.1) (V.ro 4 z24a.2.2.2.1 z24a.2.2.2.2.1)) (Nat.decLt j (1+1))],z37.2))) (fun z24b=>dn (.inr z24b)) z24) (fun z12b=>dn (.inr z12b)) z12
theorem n_branchR{β:Type}(c_expr c_block c_take)(x)(dn:g_branchR→Option β):t_branchR c_expr c_block c_take x dn=(t_branchR c_expr c_block c_take x some).bind dn:=by
 unfold t_branchR
 repeat' first|exact n0|refine n1 fun _=>?_|refine n2 ?_ ?_|refine n3 (fun _=>?_) fun _=>?_|rfl
theorem r_branchR(c_expr c_block c_take)(x):callK E5 (ft2 79 A_expr R_expr c_expr (ft2 36 A_block R_block c_block (ftb 44 A_take R_take c_take ca0))) lo0 61 (A_branchR x).1 (A_branchR x).2 K=t_branchR (vf A_expr c_expr) (vf A_block c_block) (vf A_take c_take) x (fun z=>some (.c (R_branchR z))):=by kernel_rfl
theorem s_branchR(c_expr)(h_expr:Lw E5 79 A_expr R_expr c_expr)(c_block)(h_block:Lw E5 36 A_block R_block c_block)(c_take)(h_take:Lw E5 44 A_take R_take c_take)(q:Nat):Lw E5 61 A_branchR R_branchR fun x=>t_branchR c_expr c_block c_take x some:=sof hW5 hX5 (fk2 h_expr (fk2 h_block (fk h_take ca0_sound))) (fun _=>lo0_sound) fun x=>(r_branchR c_expr c_block c_take x).trans (by rw[v_expr,v_block,v_take,n_branchR]<;>rfl)
def t_repeatSR{β:Type}(c_number:a_number→Option g_number)(c_block:a_block→Option g_block)(x:a_repeatSR)(dn:g_repeatSR→Option β):Option β:=
 (c_number (1,100,w (x.1+1),x.2)).bind fun z13=>Sum.elim (fun z13a=>(c_block z13a.2).bind fun z25=>Sum.elim (fun z25a=>dn (.inl (4,z13a.1,⟨#[]⟩,z25a))) (fun z25b=>dn (.inr z25b)) z25) (fun z13b=>dn (.inr z13b)) z13
theorem n_repeatSR{β:Type}(c_number c_block)(x)(dn:g_repeatSR→Option β):t_repeatSR c_number c_block x dn=(t_repeatSR c_number c_block x some).bind dn:=by
 unfold t_repeatSR
 repeat' first|exact n0|refine n1 fun _=>?_|refine n2 ?_ ?_|refine n3 (fun _=>?_) fun _=>?_|rfl
theorem r_repeatSR(c_number c_block)(x):callK E5 (ft2 80 A_number R_number c_number (ft2 36 A_block R_block c_block ca0)) lo0 62 (A_repeatSR x).1 (A_repeatSR x).2 K=t_repeatSR (vf A_number c_number) (vf A_block c_block) x (fun z=>some (.c (R_repeatSR z))):=by kernel_rfl
theorem s_repeatSR(c_number)(h_number:Lw E5 80 A_number R_number c_number)(c_block)(h_block:Lw E5 36 A_block R_block c_block)(q:Nat):Lw E5 62 A_repeatSR R_repeatSR fun x=>t_repeatSR c_number c_block x some:=sof hW5 hX5 (fk2 h_number (fk2 h_block ca0_sound)) (fun _=>lo0_sound) fun x=>(r_repeatSR c_number c_block x).trans (by rw[v_number,v_block,n_repeatSR]<;>rfl)
def t_statementR{β:Type}(c_next:a_next→Option g_next)(c_letS:a_letS→Option g_letS)(c_branch:a_branch→Option g_branch)(c_repeatS:a_repeatS→Option g_repeatS)(c_await:a_await→Option g_await)(c_amount:a_amount→Option g_amount)(c_single:a_single→Option g_single)(c_numbered:a_numbered→Option g_numbered)(c_assign:a_assign→Option g_assign)(c_must:a_must→Option g_must)(x:a_statementR)(dn:g_statementR→Option β):Option β:=
 (c_next x).bind fun z11=>if(z11.2.2.1.toList==ByteArray.toList ⟨#[108,101,116]⟩)=true then(c_letS z11.2.2.2.2).bind fun z23=>Sum.elim (fun z23a=>(c_must (⟨#[59]⟩,z23a.2.2.2.2.2)).bind fun z36=>Sum.elim (fun z36a=>dn (.inl (z23a.1,z23a.2.1,z23a.2.2.1,z23a.2.2.2.1,z23a.2.2.2.2.1,z36a))) (fun z36b=>dn (.inr z36b)) z36) (fun z23b=>dn (.inr z23b)) z23 else if(z11.2.2.1.toList==ByteArray.toList ⟨#[105,102]⟩)=true then(c_branch z11.2.2.2.2).bind fun z50=>Sum.elim (fun z50a=>dn (.inl z50a)) (fun z50b=>dn (.inr z50b)) z50 else if(z11.2.2.1.toList==ByteArray.toList ⟨#[114,101,112,101,97,116]⟩)=true then(c_repeatS z11.2.2.2.2).bind fun z63=>Sum.elim (fun z63a=>dn (.inl z63a)) (fun z63b=>dn (.inr z63b)) z63 else if(z11.2.2.1.toList==ByteArray.toList ⟨#[97,119,97,105,116]⟩)=true then(c_await z11.2.2.2.2).bind fun z76=>Sum.elim (fun z76a=>(c_must (⟨#[59]⟩,z76a.2.2.2.2.2)).bind fun z89=>Sum.elim (fun z89a=>dn (.inl (z76a.1,z76a.2.1,z76a.2.2.1,z76a.2.2.2.1,z76a.2.2.2.2.1,z89a))) (fun z89b=>dn (.inr z89b)) z89) (fun z76b=>dn (.inr z76b)) z76 else if(z11.2.2.1.toList==ByteArray.toList ⟨#[119,97,105,116]⟩)=true then(c_amount z11.2.2.2.2).bind fun z103=>Sum.elim (fun z103a=>(c_must (⟨#[59]⟩,z103a.2.2.2.2.2)).bind fun z116=>Sum.elim (fun z116a=>dn (.inl (z103a.1,z103a.2.1,z103a.2.2.1,z103a.2.2.2.1,z103a.2.2.2.2.1,z116a))) (fun z116b=>dn (.inr z116b)) z116) (fun z103b=>dn (.inr z103b)) z103 else if(z11.2.2.1.toList==ByteArray.toList ⟨#[107,101,101,112]⟩)=true then(c_amount z11.2.2.2.2).bind fun z130=>Sum.elim (fun z130a=>(c_must (⟨#[59]⟩,z130a.2.2.2.2.2)).bind fun z143=>Sum.elim (fun z143a=>dn (.inl (z130a.1,z130a.2.1,z130a.2.2.1,z130a.2.2.2.1,z130a.2.2.2.2.1,z143a))) (fun z143b=>dn (.inr z143b)) z143) (fun z130b=>dn (.inr z130b)) z130 else if(z11.2.2.1.toList==ByteArray.toList ⟨#[114,101,113,117,105,114,101]⟩)=true then(c_single z11.2.2.2.2).bind fun z157=>Sum.elim (fun z157a=>(c_must (⟨#[59]⟩,z157a.2.2.2.2.2)).bind fun z170=>Sum.elim (fun z170a=>dn (.inl (z157a.1,z157a.2.1,z157a.2.2.1,z157a.2.2.2.1,z157a.2.2.2.2.1,z170a))) (fun z170b=>dn (.inr z170b)) z170) (fun z157b=>dn (.inr z157b)) z157 else if(z11.2.2.1.toList==ByteArray.toList ⟨#[112,111,105,110,116]⟩)=true then(c_single z11.2.2.2.2).bind fun z184=>Sum.elim (fun z184a=>(c_must (⟨#[59]⟩,z184a.2.2.2.2.2)).bind fun z197=>Sum.elim (fun z197a=>dn (.inl (z184a.1,z184a.2.1,z184a.2.2.1,z184a.2.2.2.1,z184a.2.2.2.2.1,z197a))) (fun z197b=>dn (.inr z197b)) z197) (fun z184b=>dn (.inr z184b)) z184 else if(z11.2.2.1.toList==ByteArray.toList ⟨#[117,115,101]⟩)=true then(c_numbered z11.2.2.2.2).bind fun z211=>Sum.elim (fun z211a=>(c_must (⟨#[59]⟩,z211a.2.2.2.2.2)).bind fun z224=>Sum.elim (fun z224a=>dn (.inl (z211a.1,z211a.2.1,z211a.2.2.1,z211a.2.2.2.1,z211a.2.2.2.2.1,z224a))) (fun z224b=>dn (.inr z224b)) z224) (fun z211b=>dn (.inr z211b)) z211 else if(z11.2.2.1.toList==ByteArray.toList ⟨#[115,101,110,100]⟩)=true then(c_numbered z11.2.2.2.2).bind fun z238=>Sum.elim (fun z238a=>(c_must (⟨#[59]⟩,z238a.2.2.2.2.2)).bind fun z251=>Sum.elim (fun z251a=>dn (.inl (z238a.1,z238a.2.1,z238a.2.2.1,z238a.2.2.2.1,z238a.2.2.2.2.1,z251a))) (fun z251b=>dn (.inr z251b)) z251) (fun z238b=>dn (.inr z238b)) z238 else if(z11.2.2.1.toList==ByteArray.toList ⟨#[101,109,105,116]⟩)=true then(c_numbered z11.2.2.2.2).bind fun z265=>Sum.elim (fun z265a=>(c_must (⟨#[59]⟩,z265a.2.2.2.2.2)).bind fun z278=>Sum.elim (fun z278a=>dn (.inl (z265a.1,z265a.2.1,z265a.2.2.1,z265a.2.2.2.1,z265a.2.2.2.2.1,z278a))) (fun z278b=>dn (.inr z278b)) z278) (fun z265b=>dn (.inr z265b)) z265 else if(z11.2.2.1.toList==ByteArray.toList ⟨#[97,98,111,114,116]⟩)=true then(c_numbered z11.2.2.2.2).bind fun z292=>Sum.elim (fun z292a=>(c_must (⟨#[59]⟩,z292a.2.2.2.2.2)).bind fun z305=>Sum.elim (fun z305a=>dn (.inl (z292a.1,z292a.2.1,z292a.2.2.1,z292a.2.2.2.1,z292a.2.2.2.2.1,z305a))) (fun z305b=>dn (.inr z305b)) z305) (fun z292b=>dn (.inr z292b)) z292 else(c_assign z11.2.2.2.2).bind fun z319=>Sum.elim (fun z319a=>(c_must (⟨#[59]⟩,z319a.2.2.2.2.2)).bind fun z332=>Sum.elim (fun z332a=>dn (.inl (z319a.1,z319a.2.1,z319a.2.2.1,z319a.2.2.2.1,z319a.2.2.2.2.1,z332a))) (fun z332b=>dn (.inr z332b)) z332) (fun z319b=>dn (.inr z319b)) z319
theorem n_statementR{β:Type}(c_next c_letS)(c_branch c_repeatS)(c_await c_amount)(c_single c_numbered)(c_assign c_must)(x)(dn:g_statementR→Option β):t_statementR c_next c_letS c_branch c_repeatS c_await c_amount c_single c_numbered c_assign c_must x dn=(t_statementR c_next c_letS c_branch c_repeatS c_await c_amount c_single c_numbered c_assign c_must x some).bind dn:=by
 unfold t_statementR
 repeat' first|exact n0|refine n1 fun _=>?_|refine n2 ?_ ?_|refine n3 (fun _=>?_) fun _=>?_|rfl
theorem r_statementR(c_next c_letS)(c_branch c_repeatS)(c_await c_amount)(c_single c_numbered)(c_assign c_must)(x):callK E5 (ftb 18 A_next R_next c_next (ft2 60 A_letS R_letS c_letS (ft2 61 A_branch R_branch c_branch (ft2 62 A_repeatS R_repeatS c_repeatS (ft2 63 A_await R_await c_await (ft2 64 A_amount R_amount c_amount (ft2 65 A_single R_single c_single (ft2 66 A_numbered R_numbered c_numbered (ft2 67 A_assign R_assign c_assign (ft2 32 A_must R_must c_must ca0)))))))))) lo0 48 (A_statementR x).1 (A_statementR x).2 K=t_statementR (vf A_next c_next) (vf A_letS c_letS) (vf A_branch c_branch) (vf A_repeatS c_repeatS) (vf A_await c_await) (vf A_amount c_amount) (vf A_single c_single) (vf A_numbered c_numbered) (vf A_assign c_assign) (vf A_must c_must) x (fun z=>some (.c (R_statementR z))):=by kernel_rfl
theorem s_statementR(c_next)(h_next:Lw E5 18 A_next R_next c_next)(c_letS)(h_letS:Lw E5 60 A_letS R_letS c_letS)(c_branch)(h_branch:Lw E5 61 A_branch R_branch c_branch)(c_repeatS)(h_repeatS:Lw E5 62 A_repeatS R_repeatS c_repeatS)(c_await)(h_await:Lw E5 63 A_await R_await c_await)(c_amount)(h_amount:Lw E5 64 A_amount R_amount c_amount)(c_single)(h_single:Lw E5 65 A_single R_single c_single)(c_numbered)(h_numbered:Lw E5 66 A_numbered R_numbered c_numbered)(c_assign)(h_assign:Lw E5 67 A_assign R_assign c_assign)(c_must)(h_must:Lw E5 32 A_must R_must c_must)(q:Nat):Lw E5 48 A_statementR R_statementR fun x=>t_statementR c_next c_letS c_branch c_repeatS c_await c_amount c_single c_numbered c_assign c_must x some:=sof hW5 hX5 (fk h_next (fk2 h_letS (fk2 h_branch (fk2 h_repeatS (fk2 h_await (fk2 h_amount (fk2 h_single (fk2 h_numbered (fk2 h_assign (fk2 h_must ca0_sound)))))))))) (fun _=>lo0_sound) fun x=>(r_statementR c_next c_letS c_branch c_repeatS c_await c_amount c_single c_numbered c_assign c_must x).trans (by rw[v_next,v_letS,v_branch,v_repeatS,v_await,v_amount,v_single,v_numbered,v_assign,v_must,n_statementR]<;>rfl)
def cv_block:g_blockR→g_block:=Sum.elim (fun z=>.inl (z.1,z.2.1,z.2.2.1,0,fun _=>[],z.2.2.2)) (Sum.elim (fun z=>.inl z) (fun z=>.inr z))
theorem cvs_block{args:List V}{L:List (Option Chunk)}(z:g_blockR)(h:SC E5 36 args L (R_blockR z)):SC E5 36 args L (R_block (cv_block z)):=by
 rcases z with z|z|z
 ·exact cv_z h
 ·exact cv_r h
 ·exact h
def cv_branch:g_branchR→g_branch:=Sum.elim (fun z=>.inl (z.1,z.2.1,z.2.2.1,3,fun j=>fixC (z.2.2.2.1 j),z.2.2.2.2)) (fun z=>.inr z)
theorem cvs_branch{args:List V}{L:List (Option Chunk)}(z:g_branchR)(h:SC E5 61 args L (R_branchR z)):SC E5 61 args L (R_branch (cv_branch z)):=by
 rcases z with z|z
 ·exact cv_F h
 ·exact h
def cv_repeatS:g_repeatSR→g_repeatS:=Sum.elim (fun z=>.inl (z.1,z.2.1,z.2.2.1,1,selL [[i64 z.2.2.2.1,i64 z.2.2.2.2.1,st z.2.2.2.2.2.1,.ro 4 z.2.2.2.2.2.2.1 z.2.2.2.2.2.2.2.1]],z.2.2.2.2.2.2.2.2)) (fun z=>.inr z)
theorem cvs_repeatS{args:List V}{L:List (Option Chunk)}(z:g_repeatSR)(h:SC E5 62 args L (R_repeatSR z)):SC E5 62 args L (R_repeatS (cv_repeatS z)):=by
 rcases z with z|z
 ·exact cv_k h
 ·exact h
def cv_statement:g_statementR→g_statement:=Sum.elim (fun z=>.inl z) (fun z=>.inr z)
theorem cvs_statement{args:List V}{L:List (Option Chunk)}(z:g_statementR)(h:SC E5 48 args L (R_statementR z)):SC E5 48 args L (R_statement (cv_statement z)):=by
 rcases z with z|z
 ·exact h
 ·exact h
noncomputable def stS:Nat→(a_block→Option g_block)×(a_branch→Option g_branch)×(a_repeatS→Option g_repeatS)×(a_statement→Option g_statement)
 |0=>(fun _=>none,fun _=>none,fun _=>none,fun _=>none)
 |q+1=>(fun x=>(t_blockR ((opens q)) ((take q)) ((stS q).2.2.2) (blockR_l0 ((opens q)) ((take q)) ((stS q).2.2.2) q x) x some).map cv_block,
  fun x=>(t_branchR ((expr q)) ((stS q).1) ((take q)) x some).map cv_branch,
  fun x=>(t_repeatSR ((number q)) ((stS q).1) x some).map cv_repeatS,
  fun x=>(t_statementR ((next q)) ((letS q)) ((stS q).2.1) ((stS q).2.2.1) ((await q)) ((amount q)) ((single q)) ((numbered q)) ((assign q)) ((must q)) x some).map cv_statement)
theorem stS_sc:∀q,(∀x z,(stS q).1 x=some z→SC E5 36 (A_block x).1 (A_block x).2 (R_block z))∧(∀x z,(stS q).2.1 x=some z→SC E5 61 (A_branch x).1 (A_branch x).2 (R_branch z))∧(∀x z,(stS q).2.2.1 x=some z→SC E5 62 (A_repeatS x).1 (A_repeatS x).2 (R_repeatS z))∧(∀x z,(stS q).2.2.2 x=some z→SC E5 48 (A_statement x).1 (A_statement x).2 (R_statement z))
 |0=>⟨(fun x z h=>by cases h),(fun x z h=>by cases h),(fun x z h=>by cases h),(fun x z h=>by cases h)⟩
 |q+1=>by
  obtain⟨h0,h1,h2,h3⟩:=stS_sc q
  exact⟨(fun x z h=>by
   obtain⟨y,hy,rfl⟩:=Option.map_eq_some_iff.1 h
   exact cvs_block y (s_blockR ((opens q)) ((sc_opens q)) ((take q)) ((sc_take q)) ((stS q).2.2.2) (h3) q x y hy)),(fun x z h=>by
   obtain⟨y,hy,rfl⟩:=Option.map_eq_some_iff.1 h
   exact cvs_branch y (s_branchR ((expr q)) ((sc_expr q)) ((stS q).1) (h0) ((take q)) ((sc_take q)) q x y hy)),(fun x z h=>by
   obtain⟨y,hy,rfl⟩:=Option.map_eq_some_iff.1 h
   exact cvs_repeatS y (s_repeatSR ((number q)) ((sc_number q)) ((stS q).1) (h0) q x y hy)),(fun x z h=>by
   obtain⟨y,hy,rfl⟩:=Option.map_eq_some_iff.1 h
   exact cvs_statement y (s_statementR ((next q)) ((sc_next q)) ((letS q)) ((sc_letS q)) ((stS q).2.1) (h1) ((stS q).2.2.1) (h2) ((await q)) ((sc_await q)) ((amount q)) ((sc_amount q)) ((single q)) ((sc_single q)) ((numbered q)) ((sc_numbered q)) ((assign q)) ((sc_assign q)) ((must q)) ((sc_must q)) q x y hy))⟩
noncomputable def block(q:Nat):a_block→Option g_block:=(stS q).1
theorem sc_block(q:Nat):Lw E5 36 A_block R_block (block q):=(stS_sc q).1
noncomputable def branch(q:Nat):a_branch→Option g_branch:=(stS q).2.1
noncomputable def repeatS(q:Nat):a_repeatS→Option g_repeatS:=(stS q).2.2.1
noncomputable def statement(q:Nat):a_statement→Option g_statement:=(stS q).2.2.2
end Go.Proofs.YtjfkkokeegpeiaaDoor
/- Procedures, lifted. -/
namespace Go.Proofs.YtjfkkokeegpeiaaDoor
open Go Go.Am Go.Proofs
set_option maxRecDepth 100000
abbrev a_paramsR:Type:=SP
abbrev g_paramsR:Type:=(SP)⊕(Nat×FS×FS×SP)⊕(Int×Int)
def A_paramsR:AR a_paramsR:=fun x=>([.ptr 0 0],[some (.blk [.ro 4 x.2.2.1 (fun j=>[i64 (x.2.2.2.1 j),i64 (x.2.2.2.2.1 j),st (x.2.2.2.2.2.1 j),i64 (x.2.2.2.2.2.2.1 j)]),i64 x.1,i64 x.2.1,.sl 2 1 0 x.2.2.2.2.2.2.2.1,.sl 1 1 0 x.2.2.2.2.2.2.2.2.2.1]),some (.row 9 1 x.2.2.2.2.2.2.2.2.2.1 (fun j=>[st (x.2.2.2.2.2.2.2.2.2.2 j)])),some (.row 9 1 x.2.2.2.2.2.2.2.1 (fun j=>[st (x.2.2.2.2.2.2.2.2.1 j)]))])
def R_paramsR:g_paramsR→CRes:=Sum.elim (fun z:SP=>.ret nilS (hHP z)) (Sum.elim (fun z:Nat×FS×FS×SP=>.ret (.sl 3 2 0 z.1) [some (.blk [.ro 4 z.2.2.2.2.2.1 (fun j=>[i64 (z.2.2.2.2.2.2.1 j),i64 (z.2.2.2.2.2.2.2.1 j),st (z.2.2.2.2.2.2.2.2.1 j),i64 (z.2.2.2.2.2.2.2.2.2.1 j)]),i64 z.2.2.2.1,i64 z.2.2.2.2.1,.sl 1 1 0 z.2.2.2.2.2.2.2.2.2.2.1,.sl 2 1 0 z.2.2.2.2.2.2.2.2.2.2.2.2.1]),some (.row 9 1 z.2.2.2.2.2.2.2.2.2.2.1 (fun j=>[st (z.2.2.2.2.2.2.2.2.2.2.2.1 j)])),some (.row 9 1 z.2.2.2.2.2.2.2.2.2.2.2.2.1 (fun j=>[st (z.2.2.2.2.2.2.2.2.2.2.2.2.2 j)])),some (.row 49 2 z.1 (fun j=>[st (z.2.1 j),st (z.2.2.1 j)]))]) (fun z:Int×Int=>.pan (.ifc 51 (.agg [i64 z.1,i64 z.2]))))
abbrev paramsR_l0_a:Type:=(SC2)⊕(Nat×FI×FI×FS×FI×Int×Int×Nat×Nat×FS×FS×FS×FS×Nat)
abbrev paramsR_l0_g:Type:=(Int×Int)⊕(Nat×FI×FI×FS×FI×Int×Int×Nat×Nat×FS×FS×FS×FS×Nat)
def paramsR_l0_S0(x:a_paramsR)(y:SC2):St:={fr:=[V.ptr 0 0,V.junk,V.junk,nilS]++jk 54,H:=hp [some (hPB y),some (hPV y),some (hPQ0 y)],nx:=3,rt:=1,me:=35}
def paramsR_l0_d0(s:St):SC2:=((vRoN (cb s 0 0)),dTI (cb s 0 0) 0,dTI (cb s 0 0) 1,dTS (cb s 0 0) 2,dTI (cb s 0 0) 3,vI (cb s 0 1),vI (cb s 0 2),vSlN (cb s 0 3),vSlN (cb s 0 4),dRS (s.H 1) 0,dRS (s.H 2) 0)
def paramsR_l0_S1(x:a_paramsR)(y:Nat×FI×FI×FS×FI×Int×Int×Nat×Nat×FS×FS×FS×FS×Nat):St:={fr:=[V.ptr 0 0,V.junk,V.junk,V.sl 3 2 0 y.2.2.2.2.2.2.2.2.2.2.2.2.2]++jk 54,H:=hp [some (hPB y),some (hPV y),some (hPQ y),some (Chunk.row 49 2 y.2.2.2.2.2.2.2.2.2.2.2.2.2 fun j=>[st (y.2.2.2.2.2.2.2.2.2.2.2.1 j),st (y.2.2.2.2.2.2.2.2.2.2.2.2.1 j)])],nx:=4,rt:=1,me:=35}
def paramsR_l0_d1(s:St):Nat×FI×FI×FS×FI×Int×Int×Nat×Nat×FS×FS×FS×FS×Nat:=((vRoN (cb s 0 0)),dTI (cb s 0 0) 0,dTI (cb s 0 0) 1,dTS (cb s 0 0) 2,dTI (cb s 0 0) 3,vI (cb s 0 1),vI (cb s 0 2),vSlN (cb s 0 3),vSlN (cb s 0 4),dRS (s.H 1) 0,dRS (s.H 2) 0,dRS (s.H 3) 0,dRS (s.H 3) 1,vSlN (s.fr.getD 3 .junk))
def paramsR_l0_S(x:a_paramsR):paramsR_l0_a→St:=(Sum.elim (paramsR_l0_S0 x) (paramsR_l0_S1 x))
def paramsR_l0_d(s:St):paramsR_l0_a:=(match s.nx==3 with|true=>(.inl (paramsR_l0_d0 s)) |false=>(.inr (paramsR_l0_d1 s)))
theorem paramsR_l0_u(x:a_paramsR):VL (paramsR_l0_S x):=vl paramsR_l0_d (fun y=>by rcases y with y|y<;>rfl)
def paramsR_l0_T(x:a_paramsR):paramsR_l0_g→Ex×St:=(Sum.elim (fun z=>(Ex.panic (V.ifc 51 (V.agg [i64 z.1,i64 z.2])),{fr:=[V.junk]++jk 57,H:=hp [none],nx:=1,rt:=1,me:=35})) (fun z=>(Ex.exit 0,{fr:=[V.ptr 0 0,V.junk,V.junk,V.sl 3 2 0 z.2.2.2.2.2.2.2.2.2.2.2.2.2]++jk 54,H:=hp [some (hPB z),some (hPV z),some (hPQ z),some (Chunk.row 49 2 z.2.2.2.2.2.2.2.2.2.2.2.2.2 fun j=>[st (z.2.2.2.2.2.2.2.2.2.2.2.1 j),st (z.2.2.2.2.2.2.2.2.2.2.2.2.1 j)])],nx:=4,rt:=1,me:=35})))
def paramsR_l0_t0{β:Type}(c_must:a_must→Option g_must)(c_take:a_take→Option g_take)(c_declare:a_declare→Option g_declare)(c_next:a_next→Option g_next)(c_Lookup:a_Lookup→Option g_Lookup)(c_fail:a_fail→Option g_fail)(x:a_paramsR)(y:SC2)(nx:paramsR_l0_a→Option β)(dn:paramsR_l0_g→Option β):Option β:=
 (c_declare (y.2.2.2.2.2.1,y.2.2.2.2.2.2.1,y.1,y.2.1,y.2.2.1,y.2.2.2.1,y.2.2.2.2.1,y.2.2.2.2.2.2.2.1,y.2.2.2.2.2.2.2.2.2.1,y.2.2.2.2.2.2.2.2.1,y.2.2.2.2.2.2.2.2.2.2)).bind fun z985=>Sum.elim (fun z985a=>(c_take (⟨#[58]⟩,z985a.2)).bind fun z998=>if z998.1=true then(c_next z998.2).bind fun z1010=>(c_Lookup z1010.2.2.1).bind fun z1012=>if(z1010.1 !=1)=true then(c_fail (11,z1010.2.2.2.2)).bind fun z1025=>dn (.inl z1025)else if(!z1012.2.2.2.2.2.2)=true then(c_fail (10,z1010.2.2.2.2)).bind fun z1038=>dn (.inl z1038)else(c_take (⟨#[44]⟩,w (z1010.2.2.2.2.1+1),z1010.2.2.2.2.2)).bind fun z1051=>if(!z1051.1)=true then dn (.inr (z1051.2.2.2.1,z1051.2.2.2.2.1,z1051.2.2.2.2.2.1,z1051.2.2.2.2.2.2.1,z1051.2.2.2.2.2.2.2.1,z1051.2.1,z1051.2.2.1,z1051.2.2.2.2.2.2.2.2.1,z1051.2.2.2.2.2.2.2.2.2.2.1,z1051.2.2.2.2.2.2.2.2.2.1,z1051.2.2.2.2.2.2.2.2.2.2.2,fun j=>z985a.1,fun j=>z1010.2.2.1,1))else nx (.inr (z1051.2.2.2.1,z1051.2.2.2.2.1,z1051.2.2.2.2.2.1,z1051.2.2.2.2.2.2.1,z1051.2.2.2.2.2.2.2.1,z1051.2.1,z1051.2.2.1,z1051.2.2.2.2.2.2.2.2.1,z1051.2.2.2.2.2.2.2.2.2.2.1,z1051.2.2.2.2.2.2.2.2.2.1,z1051.2.2.2.2.2.2.2.2.2.2.2,fun j=>z985a.1,fun j=>z1010.2.2.1,1))else(c_take (⟨#[44]⟩,z998.2)).bind fun z1064=>if(!z1064.1)=true then dn (.inr (z1064.2.2.2.1,z1064.2.2.2.2.1,z1064.2.2.2.2.2.1,z1064.2.2.2.2.2.2.1,z1064.2.2.2.2.2.2.2.1,z1064.2.1,z1064.2.2.1,z1064.2.2.2.2.2.2.2.2.1,z1064.2.2.2.2.2.2.2.2.2.2.1,z1064.2.2.2.2.2.2.2.2.2.1,z1064.2.2.2.2.2.2.2.2.2.2.2,fun j=>z985a.1,fun j=>⟨#[]⟩,1))else nx (.inr (z1064.2.2.2.1,z1064.2.2.2.2.1,z1064.2.2.2.2.2.1,z1064.2.2.2.2.2.2.1,z1064.2.2.2.2.2.2.2.1,z1064.2.1,z1064.2.2.1,z1064.2.2.2.2.2.2.2.2.1,z1064.2.2.2.2.2.2.2.2.2.2.1,z1064.2.2.2.2.2.2.2.2.2.1,z1064.2.2.2.2.2.2.2.2.2.2.2,fun j=>z985a.1,fun j=>⟨#[]⟩,1))) (fun z985b=>dn (.inl z985b)) z985
theorem paramsR_l0_n0{β:Type}(c_must c_take)(c_declare c_next)(c_Lookup c_fail)(x)(y)(nx:paramsR_l0_a→Option β)(dn):paramsR_l0_t0 c_must c_take c_declare c_next c_Lookup c_fail x y nx dn=(paramsR_l0_t0 c_must c_take c_declare c_next c_Lookup c_fail x y (fun y=>some (.inl y)) (fun z=>some (.inr z))).bind fun r=>Sum.elim nx dn r:=by
 unfold paramsR_l0_t0
 repeat' first|exact n0|refine n1 fun _=>?_|refine n2 ?_ ?_|refine n3 (fun _=>?_) fun _=>?_|rfl
theorem paramsR_l0_r0(c_must c_take)(c_declare c_next)(c_Lookup c_fail)(x)(y)(lo:LoopT):loopK E5 (ft2 32 A_must R_must c_must (ftb 44 A_take R_take c_take (ft2 46 A_declare R_declare c_declare (ftb 18 A_next R_next c_next (ftb 16 A_Lookup R_Lookup c_Lookup (ftb 34 A_fail R_fail c_fail ca0)))))) lo 0 9 (bodyOf E5 35 0) (paramsR_l0_S x (.inl y)) (KCM [(0,9)] 4)=paramsR_l0_t0 (vf A_must c_must) (vf A_take c_take) (vf A_declare c_declare) (vf A_next c_next) (vf A_Lookup c_Lookup) (vf A_fail c_fail) x y (fun y=>lo 0 9 (bodyOf E5 35 0) (paramsR_l0_S x y) (KCM [(0,9)] 4)) (fun z=>some (.l (paramsR_l0_T x z).1 (paramsR_l0_T x z).2)):=by kernel_rfl
def paramsR_l0_t1{β:Type}(c_must:a_must→Option g_must)(c_take:a_take→Option g_take)(c_declare:a_declare→Option g_declare)(c_next:a_next→Option g_next)(c_Lookup:a_Lookup→Option g_Lookup)(c_fail:a_fail→Option g_fail)(x:a_paramsR)(y:Nat×FI×FI×FS×FI×Int×Int×Nat×Nat×FS×FS×FS×FS×Nat)(nx:paramsR_l0_a→Option β)(dn:paramsR_l0_g→Option β):Option β:=
 (c_declare (y.2.2.2.2.2.1,y.2.2.2.2.2.2.1,y.1,y.2.1,y.2.2.1,y.2.2.2.1,y.2.2.2.2.1,y.2.2.2.2.2.2.2.1,y.2.2.2.2.2.2.2.2.2.1,y.2.2.2.2.2.2.2.2.1,y.2.2.2.2.2.2.2.2.2.2.1)).bind fun z1078=>Sum.elim (fun z1078a=>(c_take (⟨#[58]⟩,z1078a.2)).bind fun z1091=>if z1091.1=true then(c_next z1091.2).bind fun z1103=>(c_Lookup z1103.2.2.1).bind fun z1105=>if(z1103.1 !=1)=true then(c_fail (11,z1103.2.2.2.2)).bind fun z1118=>dn (.inl z1118)else if(!z1105.2.2.2.2.2.2)=true then(c_fail (10,z1103.2.2.2.2)).bind fun z1131=>dn (.inl z1131)else if(y.2.2.2.2.2.2.2.2.2.2.2.2.2+1)*32≤roomBound∧y.2.2.2.2.2.2.2.2.2.2.2.2.2+1≤maxLen∧y.2.2.2.2.2.2.2.2.2.2.2.2.2≤y.2.2.2.2.2.2.2.2.2.2.2.2.2 then(c_take (⟨#[44]⟩,w (z1103.2.2.2.2.1+1),z1103.2.2.2.2.2)).bind fun z1144=>if(!z1144.1)=true then dn (.inr (z1144.2.2.2.1,z1144.2.2.2.2.1,z1144.2.2.2.2.2.1,z1144.2.2.2.2.2.2.1,z1144.2.2.2.2.2.2.2.1,z1144.2.1,z1144.2.2.1,z1144.2.2.2.2.2.2.2.2.1,z1144.2.2.2.2.2.2.2.2.2.2.1,z1144.2.2.2.2.2.2.2.2.2.1,z1144.2.2.2.2.2.2.2.2.2.2.2,fun j=>if j<y.2.2.2.2.2.2.2.2.2.2.2.2.2 then y.2.2.2.2.2.2.2.2.2.2.2.1 j else z1078a.1,fun j=>if j<y.2.2.2.2.2.2.2.2.2.2.2.2.2 then y.2.2.2.2.2.2.2.2.2.2.2.2.1 j else z1103.2.2.1,y.2.2.2.2.2.2.2.2.2.2.2.2.2+1))else nx (.inr (z1144.2.2.2.1,z1144.2.2.2.2.1,z1144.2.2.2.2.2.1,z1144.2.2.2.2.2.2.1,z1144.2.2.2.2.2.2.2.1,z1144.2.1,z1144.2.2.1,z1144.2.2.2.2.2.2.2.2.1,z1144.2.2.2.2.2.2.2.2.2.2.1,z1144.2.2.2.2.2.2.2.2.2.1,z1144.2.2.2.2.2.2.2.2.2.2.2,fun j=>if j<y.2.2.2.2.2.2.2.2.2.2.2.2.2 then y.2.2.2.2.2.2.2.2.2.2.2.1 j else z1078a.1,fun j=>if j<y.2.2.2.2.2.2.2.2.2.2.2.2.2 then y.2.2.2.2.2.2.2.2.2.2.2.2.1 j else z1103.2.2.1,y.2.2.2.2.2.2.2.2.2.2.2.2.2+1))else none else if(y.2.2.2.2.2.2.2.2.2.2.2.2.2+1)*32≤roomBound∧y.2.2.2.2.2.2.2.2.2.2.2.2.2+1≤maxLen∧y.2.2.2.2.2.2.2.2.2.2.2.2.2≤y.2.2.2.2.2.2.2.2.2.2.2.2.2 then(c_take (⟨#[44]⟩,z1091.2)).bind fun z1157=>if(!z1157.1)=true then dn (.inr (z1157.2.2.2.1,z1157.2.2.2.2.1,z1157.2.2.2.2.2.1,z1157.2.2.2.2.2.2.1,z1157.2.2.2.2.2.2.2.1,z1157.2.1,z1157.2.2.1,z1157.2.2.2.2.2.2.2.2.1,z1157.2.2.2.2.2.2.2.2.2.2.1,z1157.2.2.2.2.2.2.2.2.2.1,z1157.2.2.2.2.2.2.2.2.2.2.2,fun j=>if j<y.2.2.2.2.2.2.2.2.2.2.2.2.2 then y.2.2.2.2.2.2.2.2.2.2.2.1 j else z1078a.1,fun j=>if j<y.2.2.2.2.2.2.2.2.2.2.2.2.2 then y.2.2.2.2.2.2.2.2.2.2.2.2.1 j else⟨#[]⟩,y.2.2.2.2.2.2.2.2.2.2.2.2.2+1))else nx (.inr (z1157.2.2.2.1,z1157.2.2.2.2.1,z1157.2.2.2.2.2.1,z1157.2.2.2.2.2.2.1,z1157.2.2.2.2.2.2.2.1,z1157.2.1,z1157.2.2.1,z1157.2.2.2.2.2.2.2.2.1,z1157.2.2.2.2.2.2.2.2.2.2.1,z1157.2.2.2.2.2.2.2.2.2.1,z1157.2.2.2.2.2.2.2.2.2.2.2,fun j=>if j<y.2.2.2.2.2.2.2.2.2.2.2.2.2 then y.2.2.2.2.2.2.2.2.2.2.2.1 j else z1078a.1,fun j=>if j<y.2.2.2.2.2.2.2.2.2.2.2.2.2 then y.2.2.2.2.2.2.2.2.2.2.2.2.1 j else⟨#[]⟩,y.2.2.2.2.2.2.2.2.2.2.2.2.2+1))else none) (fun z1078b=>dn (.inl z1078b)) z1078
theorem paramsR_l0_n1{β:Type}(c_must c_take)(c_declare c_next)(c_Lookup c_fail)(x)(y)(nx:paramsR_l0_a→Option β)(dn):paramsR_l0_t1 c_must c_take c_declare c_next c_Lookup c_fail x y nx dn=(paramsR_l0_t1 c_must c_take c_declare c_next c_Lookup c_fail x y (fun y=>some (.inl y)) (fun z=>some (.inr z))).bind fun r=>Sum.elim nx dn r:=by
 unfold paramsR_l0_t1
 repeat' first|exact n0|refine n1 fun _=>?_|refine n2 ?_ ?_|refine n3 (fun _=>?_) fun _=>?_|rfl
theorem paramsR_l0_r1(c_must c_take)(c_declare c_next)(c_Lookup c_fail)(x)(y)(lo:LoopT):loopK E5 (ft2 32 A_must R_must c_must (ftb 44 A_take R_take c_take (ft2 46 A_declare R_declare c_declare (ftb 18 A_next R_next c_next (ftb 16 A_Lookup R_Lookup c_Lookup (ftb 34 A_fail R_fail c_fail ca0)))))) lo 0 9 (bodyOf E5 35 0) (paramsR_l0_S x (.inr y)) (KCM [(0,9)] 4)=paramsR_l0_t1 (vf A_must c_must) (vf A_take c_take) (vf A_declare c_declare) (vf A_next c_next) (vf A_Lookup c_Lookup) (vf A_fail c_fail) x y (fun y=>lo 0 9 (bodyOf E5 35 0) (paramsR_l0_S x y) (KCM [(0,9)] 4)) (fun z=>some (.l (paramsR_l0_T x z).1 (paramsR_l0_T x z).2)):=by kernel_rfl
noncomputable def paramsR_l0(c_must:a_must→Option g_must)(c_take:a_take→Option g_take)(c_declare:a_declare→Option g_declare)(c_next:a_next→Option g_next)(c_Lookup:a_Lookup→Option g_Lookup)(c_fail:a_fail→Option g_fail)(q:Nat)(x:a_paramsR):paramsR_l0_a→Option paramsR_l0_g:=lpG (Sum.elim (fun y=>paramsR_l0_t0 c_must c_take c_declare c_next c_Lookup c_fail x y (fun y=>some (.inl y)) (fun z=>some (.inr z))) (fun y=>paramsR_l0_t1 c_must c_take c_declare c_next c_Lookup c_fail x y (fun y=>some (.inl y)) (fun z=>some (.inr z)))) q
theorem paramsR_l0_s(c_must)(h_must:Lw E5 32 A_must R_must c_must)(c_take)(h_take:Lw E5 44 A_take R_take c_take)(c_declare)(h_declare:Lw E5 46 A_declare R_declare c_declare)(c_next)(h_next:Lw E5 18 A_next R_next c_next)(c_Lookup)(h_Lookup:Lw E5 16 A_Lookup R_Lookup c_Lookup)(c_fail)(h_fail:Lw E5 34 A_fail R_fail c_fail)(q:Nat)(x:a_paramsR):Ll E5 (bodyOf E5 35 0) (paramsR_l0_S x) (paramsR_l0_T x) (paramsR_l0 c_must c_take c_declare c_next c_Lookup c_fail q x):=
 slp (fk2 h_must (fk h_take (fk2 h_declare (fk h_next (fk h_Lookup (fk h_fail ca0_sound)))))) hX5 (fun lo y=>by
  rcases y with y|y
  ·exact(paramsR_l0_r0 c_must c_take c_declare c_next c_Lookup c_fail x y lo).trans (by rw[v_must,v_take,v_declare,v_next,v_Lookup,v_fail];exact paramsR_l0_n0 _ _ _ _ _ _ _ _ _ _)
  ·exact(paramsR_l0_r1 c_must c_take c_declare c_next c_Lookup c_fail x y lo).trans (by rw[v_must,v_take,v_declare,v_next,v_Lookup,v_fail];exact paramsR_l0_n1 _ _ _ _ _ _ _ _ _ _)) (fun z=>by rcases z with z|z<;>kernel_rfl) q
def t_paramsR{β:Type}(c_must:a_must→Option g_must)(c_take:a_take→Option g_take)(c_declare:a_declare→Option g_declare)(c_next:a_next→Option g_next)(c_Lookup:a_Lookup→Option g_Lookup)(c_fail:a_fail→Option g_fail)(l_paramsR_l0:paramsR_l0_a→Option paramsR_l0_g)(x:a_paramsR)(dn:g_paramsR→Option β):Option β:=
 (c_must (⟨#[40]⟩,x)).bind fun z12=>Sum.elim (fun z12a=>(c_take (⟨#[41]⟩,z12a)).bind fun z25=>if z25.1=true then dn (.inl z25.2)else(l_paramsR_l0 (.inl (z25.2.2.2.1,z25.2.2.2.2.1,z25.2.2.2.2.2.1,z25.2.2.2.2.2.2.1,z25.2.2.2.2.2.2.2.1,z25.2.1,z25.2.2.1,z25.2.2.2.2.2.2.2.2.1,z25.2.2.2.2.2.2.2.2.2.2.1,z25.2.2.2.2.2.2.2.2.2.1,z25.2.2.2.2.2.2.2.2.2.2.2))).bind fun z918=>Sum.elim (fun z918a=>dn (.inr (.inr z918a))) (fun z918b=>(c_must (⟨#[41]⟩,z918b.2.2.2.2.2.1,z918b.2.2.2.2.2.2.1,z918b.1,z918b.2.1,z918b.2.2.1,z918b.2.2.2.1,z918b.2.2.2.2.1,z918b.2.2.2.2.2.2.2.1,z918b.2.2.2.2.2.2.2.2.2.1,z918b.2.2.2.2.2.2.2.2.1,z918b.2.2.2.2.2.2.2.2.2.2.1)).bind fun z932=>Sum.elim (fun z932a=>dn (.inr (.inl (z918b.2.2.2.2.2.2.2.2.2.2.2.2.2,z918b.2.2.2.2.2.2.2.2.2.2.2.1,z918b.2.2.2.2.2.2.2.2.2.2.2.2.1,z932a)))) (fun z932b=>dn (.inr (.inr z932b))) z932) z918) (fun z12b=>dn (.inr (.inr z12b))) z12
theorem n_paramsR{β:Type}(c_must c_take)(c_declare c_next)(c_Lookup c_fail)(l_paramsR_l0)(x)(dn:g_paramsR→Option β):t_paramsR c_must c_take c_declare c_next c_Lookup c_fail l_paramsR_l0 x dn=(t_paramsR c_must c_take c_declare c_next c_Lookup c_fail l_paramsR_l0 x some).bind dn:=by
 unfold t_paramsR
 repeat' first|exact n0|refine n1 fun _=>?_|refine n2 ?_ ?_|refine n3 (fun _=>?_) fun _=>?_|rfl
theorem r_paramsR(c_must c_take)(c_declare c_next)(c_Lookup c_fail)(l_paramsR_l0)(x):callK E5 (ft2 32 A_must R_must c_must (ftb 44 A_take R_take c_take (ft2 46 A_declare R_declare c_declare (ftb 18 A_next R_next c_next (ftb 16 A_Lookup R_Lookup c_Lookup (ftb 34 A_fail R_fail c_fail ca0)))))) (lt2 0 (fun _=>true) (bodyOf E5 35 0) (paramsR_l0_S x) (paramsR_l0_T x) l_paramsR_l0 lo0) 35 (A_paramsR x).1 (A_paramsR x).2 K=t_paramsR (vf A_must c_must) (vf A_take c_take) (vf A_declare c_declare) (vf A_next c_next) (vf A_Lookup c_Lookup) (vf A_fail c_fail) (lf (bodyOf E5 35 0) (paramsR_l0_S x) l_paramsR_l0) x (fun z=>some (.c (R_paramsR z))):=by kernel_rfl
noncomputable def paramsR(q:Nat)(x:a_paramsR):Option g_paramsR:=t_paramsR (must q) (take q) (declare q) (next q) (Lookup q) (fail q) (paramsR_l0 (must q) (take q) (declare q) (next q) (Lookup q) (fail q) q x) x some
theorem sc_paramsR(q:Nat):Lw E5 35 A_paramsR R_paramsR (paramsR q):=sof hW5 hX5 (fk2 (sc_must q) (fk (sc_take q) (fk2 (sc_declare q) (fk (sc_next q) (fk (sc_Lookup q) (fk (sc_fail q) ca0_sound)))))) (fun x=>(lk2 (paramsR_l0_s (must q) (sc_must q) (take q) (sc_take q) (declare q) (sc_declare q) (next q) (sc_next q) (Lookup q) (sc_Lookup q) (fail q) (sc_fail q) q x) lo0_sound)) fun x=>(r_paramsR (must q) (take q) (declare q) (next q) (Lookup q) (fail q) (paramsR_l0 (must q) (take q) (declare q) (next q) (Lookup q) (fail q) q x) x).trans (by rw[v_must,v_take,v_declare,v_next,v_Lookup,v_fail,paramsR_l0_u,n_paramsR]<;>rfl)
abbrev a_params:Type:=Int×Int×Nat×FI×FI×FS×FI×Nat×FS
abbrev g_params:Type:=(Nat×FS×FS×SP)⊕(Int×Int)
def A_params:AR a_params:=fun x=>([.ptr 0 0],[some (.blk [.ro 4 x.2.2.1 (fun j=>[i64 (x.2.2.2.1 j),i64 (x.2.2.2.2.1 j),st (x.2.2.2.2.2.1 j),i64 (x.2.2.2.2.2.2.1 j)]),i64 x.1,i64 x.2.1,nilS,.sl 1 1 0 x.2.2.2.2.2.2.2.1]),some (.row 9 1 x.2.2.2.2.2.2.2.1 (fun j=>[st (x.2.2.2.2.2.2.2.2 j)]))])
def d_params(t:TT):a_params:=((vI (cc t 0 1)),vI (cc t 0 2),vRoN (cc t 0 0),dTI (cc t 0 0) 0,dTI (cc t 0 0) 1,dTS (cc t 0 0) 2,dTI (cc t 0 0) 3,vSlN (cc t 0 4),dRS (co t 1) 0)
theorem v_params:VI A_params:=vd d_params fun _=>rfl
def R_params:g_params→CRes:=Sum.elim (fun z:Nat×FS×FS×SP=>.ret (.ro 2 z.1 (fun j=>[st (z.2.1 j),st (z.2.2.1 j)])) (hHP z.2.2.2)) (fun z:Int×Int=>.pan (.ifc 51 (.agg [i64 z.1,i64 z.2])))
def cv_params:g_paramsR→g_params:=Sum.elim (fun z=>.inl (0,fun _=>ByteArray.empty,fun _=>ByteArray.empty,z)) (Sum.elim (fun z=>.inl z) (fun z=>.inr z))
theorem cvs_params{args:List V}{L:List (Option Chunk)}(z:g_paramsR)(h:SC E5 35 args L (R_paramsR z)):SC E5 35 args L (R_params (cv_params z)):=by
 rcases z with z|z|z
 ·exact SC.le h Le.nil_ro
 ·have h2:=SC.giveM (L2:=[some (.blk [.ro 4 z.2.2.2.2.2.1 (fun j=>[i64 (z.2.2.2.2.2.2.1 j),i64 (z.2.2.2.2.2.2.2.1 j),st (z.2.2.2.2.2.2.2.2.1 j),i64 (z.2.2.2.2.2.2.2.2.2.1 j)]),i64 z.2.2.2.1,i64 z.2.2.2.2.1,.sl 1 1 0 z.2.2.2.2.2.2.2.2.2.2.1,.sl 2 1 0 z.2.2.2.2.2.2.2.2.2.2.2.2.1]),some (.row 9 1 z.2.2.2.2.2.2.2.2.2.2.1 (fun j=>[st (z.2.2.2.2.2.2.2.2.2.2.2.1 j)])),some (.row 9 1 z.2.2.2.2.2.2.2.2.2.2.2.2.1 (fun j=>[st (z.2.2.2.2.2.2.2.2.2.2.2.2.2 j)]))]) 3 h (by rfl) (by simp[V.bw,V.bw2,V.bw1,hp,V.pure,pureL])
  simp only[V.bw,V.bw2,V.bw1,hp,List.getD_eq_getElem?_getD,List.getElem?_cons_succ,List.getElem?_cons_zero,Option.getD_some,Nat.zero_add,Nat.le_refl,and_self,if_true]at h2
  exact h2
 ·exact h
noncomputable def params(q:Nat)(x:a_params):Option g_params:=(paramsR q (x.1,x.2.1,x.2.2.1,x.2.2.2.1,x.2.2.2.2.1,x.2.2.2.2.2.1,x.2.2.2.2.2.2.1,0,fun _=>ByteArray.empty,x.2.2.2.2.2.2.2)).map cv_params
theorem sc_params(q:Nat):Lw E5 35 A_params R_params (params q):=by
 intro x z h
 obtain⟨y,hy,rfl⟩:=Option.map_eq_some_iff.1 h
 have:=cvs_params y (sc_paramsR q _ y hy)
 refine SC.virtB 0 [.ro 4 x.2.2.1 (fun j=>[i64 (x.2.2.2.1 j),i64 (x.2.2.2.2.1 j),st (x.2.2.2.2.2.1 j),i64 (x.2.2.2.2.2.2.1 j)]),i64 x.1,i64 x.2.1,.sl 2 1 0 0,.sl 1 1 0 x.2.2.2.2.2.2.2.1] 9 1 (fun j=>[st ByteArray.empty]) (by decide) this rfl (fun β S w us b hb hd=>?_) (by show 1≤2;decide) (by show 1≤1;decide)
 simp only[denL]at hd⊢
 obtain⟨u1,r1,rfl,h1,u2,r2,rfl,h2,u3,r3,rfl,h3,u4,r4,rfl,h4,u5,r5,rfl,h5,rfl⟩:=hd
 exact⟨u1,_,rfl,h1,u2,_,rfl,h2,u3,_,rfl,h3,u4,_,rfl,nil_sl (by show 2<3;decide) hb h4,u5,_,rfl,h5,rfl⟩
abbrev a_procedure:Type:=SP
abbrev g_procedure:Type:=(ByteArray×Nat×FS×FS×Int×Int×ByteArray×Nat×FL×SP)⊕(Int×Int)
def A_procedure:AR a_procedure:=fun x=>([.ptr 0 0],(hHP x))
def d_procedure(t:TT):a_procedure:=(dHP t.2)
theorem v_procedure:VI A_procedure:=vd d_procedure fun _=>rfl
def R_procedure:g_procedure→CRes:=Sum.elim (fun z:ByteArray×Nat×FS×FS×Int×Int×ByteArray×Nat×FL×SP=>.ret (.agg [st z.1,.ro 2 z.2.1 (fun j=>[st (z.2.2.1 j),st (z.2.2.2.1 j)]),i64 z.2.2.2.2.1,i64 z.2.2.2.2.2.1,st z.2.2.2.2.2.2.1,.ro 4 z.2.2.2.2.2.2.2.1 z.2.2.2.2.2.2.2.2.1]) (hHP z.2.2.2.2.2.2.2.2.2)) (fun z:Int×Int=>.pan (.ifc 51 (.agg [i64 z.1,i64 z.2])))
abbrev procedure_l0_a:Type:=Nat×Int×Nat×FI×FI×FS×FI×Int×Int×Nat×FS×FS×ByteArray×Int
abbrev procedure_l0_g:Type:=(Int×Int)⊕(Nat×FI×FI×FS×FI×Int×Int×Nat×Nat×FS×FS×ByteArray)
def procedure_l0_S(x:a_procedure)(y:procedure_l0_a):St:={fr:=[V.ptr 0 0,V.junk,V.ptr 3 0,V.ptr 4 0]++jk 10++[V.sl 2 1 0 y.1,i64 y.2.1,i64 y.2.2.2.2.2.2.2.2.2.2.2.2.2]++jk 38,H:=hp [some (Chunk.blk [V.ro 4 y.2.2.1 fun j=>[i64 (y.2.2.2.1 j),i64 (y.2.2.2.2.1 j),st (y.2.2.2.2.2.1 j),i64 (y.2.2.2.2.2.2.1 j)],i64 y.2.2.2.2.2.2.2.1,i64 y.2.2.2.2.2.2.2.2.1,V.sl 1 1 0 y.2.2.2.2.2.2.2.2.2.1,V.sl 2 1 0 y.1]),some (Chunk.row 9 1 y.2.2.2.2.2.2.2.2.2.1 fun j=>[st (y.2.2.2.2.2.2.2.2.2.2.1 j)]),some (Chunk.row 9 1 y.1 fun j=>[st (y.2.2.2.2.2.2.2.2.2.2.2.1 j)]),some (Chunk.blk [st ⟨#[]⟩,nilS,i64 0,i64 0,st ⟨#[]⟩,nilS]),some (Chunk.blk [st y.2.2.2.2.2.2.2.2.2.2.2.2.1,nilS,i64 0,i64 0,st ⟨#[]⟩,nilS])],nx:=5,rt:=1,me:=19}
def procedure_l0_d(s:St):procedure_l0_a:=((vSlN (s.fr.getD 14 .junk)),vI (s.fr.getD 15 .junk),vRoN (cb s 0 0),dTI (cb s 0 0) 0,dTI (cb s 0 0) 1,dTS (cb s 0 0) 2,dTI (cb s 0 0) 3,vI (cb s 0 1),vI (cb s 0 2),vSlN (cb s 0 3),dRS (s.H 1) 0,dRS (s.H 2) 0,vS (cb s 4 0),vI (s.fr.getD 16 .junk))
theorem procedure_l0_u(x:a_procedure):VL (procedure_l0_S x):=vl procedure_l0_d fun _=>rfl
def procedure_l0_T(x:a_procedure):procedure_l0_g→Ex×St:=(Sum.elim (fun z=>(Ex.panic (V.ifc 51 (V.agg [i64 z.1,i64 z.2])),{fr:=[V.junk]++jk 54,H:=hp [none],nx:=1,rt:=1,me:=19})) (fun z=>(Ex.exit 0,{fr:=[V.ptr 0 0,V.junk,V.ptr 3 0,V.ptr 4 0]++jk 51,H:=hp [some (hPB z),some (hPV z),some (hPQ z),some (Chunk.blk [st ⟨#[]⟩,nilS,i64 0,i64 0,st ⟨#[]⟩,nilS]),some (Chunk.blk [st z.2.2.2.2.2.2.2.2.2.2.2,nilS,i64 0,i64 0,st ⟨#[]⟩,nilS])],nx:=5,rt:=1,me:=19})))
def procedure_l0_t{β:Type}(c_must:a_must→Option g_must)(c_name:a_name→Option g_name)(c_fail:a_fail→Option g_fail)(c_params:a_params→Option g_params)(c_block:a_block→Option g_block)(x:a_procedure)(y:procedure_l0_a)(nx:procedure_l0_a→Option β)(dn:procedure_l0_g→Option β):Option β:=
 if decide (y.2.2.2.2.2.2.2.2.2.2.2.2.2<y.2.1)=true then if 0≤y.2.2.2.2.2.2.2.2.2.2.2.2.2∧y.2.2.2.2.2.2.2.2.2.2.2.2.2< ((y.1:Nat):Int)then if 0+Int.toNat y.2.2.2.2.2.2.2.2.2.2.2.2.2<y.1∧1=1 then if(ByteArray.toList (y.2.2.2.2.2.2.2.2.2.2.2.1 (0+Int.toNat y.2.2.2.2.2.2.2.2.2.2.2.2.2))==y.2.2.2.2.2.2.2.2.2.2.2.2.1.toList)=true then(c_fail (4,w (y.2.2.2.2.2.2.2.1-1),y.2.2.2.2.2.2.2.2.1,y.2.2.1,y.2.2.2.1,y.2.2.2.2.1,y.2.2.2.2.2.1,y.2.2.2.2.2.2.1,y.2.2.2.2.2.2.2.2.2.1,y.2.2.2.2.2.2.2.2.2.2.1,y.1,y.2.2.2.2.2.2.2.2.2.2.2.1)).bind fun z195=>dn (.inl z195)else nx (y.1,y.2.1,y.2.2.1,y.2.2.2.1,y.2.2.2.2.1,y.2.2.2.2.2.1,y.2.2.2.2.2.2.1,y.2.2.2.2.2.2.2.1,y.2.2.2.2.2.2.2.2.1,y.2.2.2.2.2.2.2.2.2.1,y.2.2.2.2.2.2.2.2.2.2.1,y.2.2.2.2.2.2.2.2.2.2.2.1,y.2.2.2.2.2.2.2.2.2.2.2.2.1,w (y.2.2.2.2.2.2.2.2.2.2.2.2.2+1))else none else none else dn (.inr (y.2.2.1,y.2.2.2.1,y.2.2.2.2.1,y.2.2.2.2.2.1,y.2.2.2.2.2.2.1,y.2.2.2.2.2.2.2.1,y.2.2.2.2.2.2.2.2.1,y.2.2.2.2.2.2.2.2.2.1,y.1,y.2.2.2.2.2.2.2.2.2.2.1,y.2.2.2.2.2.2.2.2.2.2.2.1,y.2.2.2.2.2.2.2.2.2.2.2.2.1))
theorem procedure_l0_n{β:Type}(c_must c_name)(c_fail c_params c_block)(x)(y)(nx:procedure_l0_a→Option β)(dn):procedure_l0_t c_must c_name c_fail c_params c_block x y nx dn=(procedure_l0_t c_must c_name c_fail c_params c_block x y (fun y=>some (.inl y)) (fun z=>some (.inr z))).bind fun r=>Sum.elim nx dn r:=by
 unfold procedure_l0_t
 repeat' first|exact n0|refine n1 fun _=>?_|refine n2 ?_ ?_|refine n3 (fun _=>?_) fun _=>?_|rfl
theorem procedure_l0_r(c_must c_name)(c_fail c_params c_block)(x)(y)(lo:LoopT):loopK E5 (ft2 32 A_must R_must c_must (ft2 33 A_name R_name c_name (ftb 34 A_fail R_fail c_fail (fg2 35 (fun _ L=>L.length==2) A_params R_params c_params (ft2 36 A_block R_block c_block ca0))))) lo 0 114701 (bodyOf E5 19 0) (procedure_l0_S x y) (KCM [(0,13)] 4)=procedure_l0_t (vf A_must c_must) (vf A_name c_name) (vf A_fail c_fail) (vf A_params c_params) (vf A_block c_block) x y (fun y=>lo 0 114701 (bodyOf E5 19 0) (procedure_l0_S x y) (KCM [(0,13)] 4)) (fun z=>some (.l (procedure_l0_T x z).1 (procedure_l0_T x z).2)):=by kernel_rfl
noncomputable def procedure_l0(c_must:a_must→Option g_must)(c_name:a_name→Option g_name)(c_fail:a_fail→Option g_fail)(c_params:a_params→Option g_params)(c_block:a_block→Option g_block)(q:Nat)(x:a_procedure):procedure_l0_a→Option procedure_l0_g:=lpG (fun y=>procedure_l0_t c_must c_name c_fail c_params c_block x y (fun y=>some (.inl y)) (fun z=>some (.inr z))) q
theorem procedure_l0_s(c_must)(h_must:Lw E5 32 A_must R_must c_must)(c_name)(h_name:Lw E5 33 A_name R_name c_name)(c_fail)(h_fail:Lw E5 34 A_fail R_fail c_fail)(c_params)(h_params:Lw E5 35 A_params R_params c_params)(c_block)(h_block:Lw E5 36 A_block R_block c_block)(q:Nat)(x:a_procedure):Ll E5 (bodyOf E5 19 0) (procedure_l0_S x) (procedure_l0_T x) (procedure_l0 c_must c_name c_fail c_params c_block q x):=
 slp (fk2 h_must (fk2 h_name (fk h_fail (fk2 h_params (fk2 h_block ca0_sound))))) hX5 (fun lo y=>(procedure_l0_r c_must c_name c_fail c_params c_block x y lo).trans (by rw[v_must,v_name,v_fail,v_params,v_block];exact procedure_l0_n _ _ _ _ _ _ _ _ _)) (fun z=>by rcases z with z|z<;>kernel_rfl) q
def t_procedure{β:Type}(c_must:a_must→Option g_must)(c_name:a_name→Option g_name)(c_fail:a_fail→Option g_fail)(c_params:a_params→Option g_params)(c_block:a_block→Option g_block)(l_procedure_l0:procedure_l0_a→Option procedure_l0_g)(x:a_procedure)(dn:g_procedure→Option β):Option β:=
 (c_must (⟨#[112,114,111,99,101,100,117,114,101]⟩,x)).bind fun z12=>Sum.elim (fun z12a=>(c_name z12a).bind fun z24=>Sum.elim (fun z24a=>(l_procedure_l0 (z24a.2.2.2.2.2.2.2.2.2.2.1,((z24a.2.2.2.2.2.2.2.2.2.2.1:Nat):Int),z24a.2.2.2.1,z24a.2.2.2.2.1,z24a.2.2.2.2.2.1,z24a.2.2.2.2.2.2.1,z24a.2.2.2.2.2.2.2.1,z24a.2.1,z24a.2.2.1,z24a.2.2.2.2.2.2.2.2.1,z24a.2.2.2.2.2.2.2.2.2.1,z24a.2.2.2.2.2.2.2.2.2.2.2,z24a.1,0)).bind fun z121=>Sum.elim (fun z121a=>dn (.inr z121a)) (fun z121b=>if(z121b.2.2.2.2.2.2.2.2.1+1)*16≤roomBound∧z121b.2.2.2.2.2.2.2.2.1+1≤maxLen∧z121b.2.2.2.2.2.2.2.2.1≤z121b.2.2.2.2.2.2.2.2.1 then(c_params (z121b.2.2.2.2.2.1,z121b.2.2.2.2.2.2.1,z121b.1,z121b.2.1,z121b.2.2.1,z121b.2.2.2.1,z121b.2.2.2.2.1,z121b.2.2.2.2.2.2.2.2.1+1,fun j=>if j<z121b.2.2.2.2.2.2.2.2.1 then z121b.2.2.2.2.2.2.2.2.2.2.1 j else z121b.2.2.2.2.2.2.2.2.2.2.2)).bind fun z132=>Sum.elim (fun z132a=>(c_block z132a.2.2.2).bind fun z144=>Sum.elim (fun z144a=>dn (.inl (z121b.2.2.2.2.2.2.2.2.2.2.2,z132a.1,z132a.2.1,z132a.2.2.1,z144a))) (fun z144b=>dn (.inr z144b)) z144) (fun z132b=>dn (.inr z132b)) z132 else none) z121) (fun z24b=>dn (.inr z24b)) z24) (fun z12b=>dn (.inr z12b)) z12
theorem n_procedure{β:Type}(c_must c_name)(c_fail c_params c_block)(l_procedure_l0)(x)(dn:g_procedure→Option β):t_procedure c_must c_name c_fail c_params c_block l_procedure_l0 x dn=(t_procedure c_must c_name c_fail c_params c_block l_procedure_l0 x some).bind dn:=by
 unfold t_procedure
 repeat' first|exact n0|refine n1 fun _=>?_|refine n2 ?_ ?_|refine n3 (fun _=>?_) fun _=>?_|rfl
theorem r_procedure(c_must c_name)(c_fail c_params c_block)(l_procedure_l0)(x):callK E5 (ft2 32 A_must R_must c_must (ft2 33 A_name R_name c_name (ftb 34 A_fail R_fail c_fail (fg2 35 (fun _ L=>L.length==2) A_params R_params c_params (ft2 36 A_block R_block c_block ca0))))) (lt2 0 (fun _=>true) (bodyOf E5 19 0) (procedure_l0_S x) (procedure_l0_T x) l_procedure_l0 lo0) 19 (A_procedure x).1 (A_procedure x).2 K=t_procedure (vf A_must c_must) (vf A_name c_name) (vf A_fail c_fail) (vf A_params c_params) (vf A_block c_block) (lf (bodyOf E5 19 0) (procedure_l0_S x) l_procedure_l0) x (fun z=>some (.c (R_procedure z))):=by kernel_rfl
noncomputable def procedure(q:Nat)(x:a_procedure):Option g_procedure:=t_procedure (must q) (name q) (fail q) (params q) (block q) (procedure_l0 (must q) (name q) (fail q) (params q) (block q) q x) x some
theorem sc_procedure(q:Nat):Lw E5 19 A_procedure R_procedure (procedure q):=sof hW5 hX5 (fk2 (sc_must q) (fk2 (sc_name q) (fk (sc_fail q) (fk2 (sc_params q) (fk2 (sc_block q) ca0_sound))))) (fun x=>(lk2 (procedure_l0_s (must q) (sc_must q) (name q) (sc_name q) (fail q) (sc_fail q) (params q) (sc_params q) (block q) (sc_block q) q x) lo0_sound)) fun x=>(r_procedure (must q) (name q) (fail q) (params q) (block q) (procedure_l0 (must q) (name q) (fail q) (params q) (block q) q x) x).trans (by rw[v_must,v_name,v_fail,v_params,v_block,procedure_l0_u,n_procedure]<;>rfl)
abbrev a_procedureZ:Type:=Int×Int×Nat×FI×FI×FS×FI
abbrev g_procedureZ:Type:=(ByteArray×Nat×FS×FS×Int×Int×ByteArray×Nat×FL×SP)⊕(Int×Int)
def A_procedureZ:AR a_procedureZ:=fun x=>([.ptr 0 0],[some (.blk [.ro 4 x.2.2.1 (fun j=>[i64 (x.2.2.2.1 j),i64 (x.2.2.2.2.1 j),st (x.2.2.2.2.2.1 j),i64 (x.2.2.2.2.2.2 j)]),i64 x.1,i64 x.2.1,nilS,nilS])])
def d_procedureZ(t:TT):a_procedureZ:=((vI (cc t 0 1)),vI (cc t 0 2),vRoN (cc t 0 0),dTI (cc t 0 0) 0,dTI (cc t 0 0) 1,dTS (cc t 0 0) 2,dTI (cc t 0 0) 3)
theorem v_procedureZ:VI A_procedureZ:=vd d_procedureZ fun _=>rfl
def R_procedureZ:g_procedureZ→CRes:=Sum.elim (fun z:ByteArray×Nat×FS×FS×Int×Int×ByteArray×Nat×FL×SP=>.ret (.agg [st z.1,.ro 2 z.2.1 (fun j=>[st (z.2.2.1 j),st (z.2.2.2.1 j)]),i64 z.2.2.2.2.1,i64 z.2.2.2.2.2.1,st z.2.2.2.2.2.2.1,.ro 4 z.2.2.2.2.2.2.2.1 z.2.2.2.2.2.2.2.2.1]) (hHP z.2.2.2.2.2.2.2.2.2)) (fun z:Int×Int=>.pan (.ifc 51 (.agg [i64 z.1,i64 z.2])))
noncomputable def procedureZ(q:Nat)(x:a_procedureZ):Option g_procedureZ:=procedure q (x.1,x.2.1,x.2.2.1,x.2.2.2.1,x.2.2.2.2.1,x.2.2.2.2.2.1,x.2.2.2.2.2.2,0,fun _=>ByteArray.empty,0,fun _=>ByteArray.empty)
theorem sc_procedureZ(q:Nat):Lw E5 19 A_procedureZ R_procedureZ (procedureZ q):=by
 intro x z h
 have this:=sc_procedure q _ z h
 refine SC.virtB 0 [.ro 4 x.2.2.1 (fun j=>[i64 (x.2.2.2.1 j),i64 (x.2.2.2.2.1 j),st (x.2.2.2.2.2.1 j),i64 (x.2.2.2.2.2.2 j)]),i64 x.1,i64 x.2.1,.sl 1 1 0 0,nilS] 9 1 (fun j=>[st ByteArray.empty]) (by decide) (cr:=R_procedureZ z) (SC.virtB 0 [.ro 4 x.2.2.1 (fun j=>[i64 (x.2.2.2.1 j),i64 (x.2.2.2.2.1 j),st (x.2.2.2.2.2.1 j),i64 (x.2.2.2.2.2.2 j)]),i64 x.1,i64 x.2.1,.sl 1 1 0 0,.sl 2 1 0 0] 9 1 (fun j=>[st ByteArray.empty]) (by decide) this rfl (fun β S w us b hb hd=>?_) (by show 1≤2;decide) (by show 1≤1;decide)) rfl (fun β S w us b hb hd=>?_) (by show 1≤1;decide) (by show 1≤1;decide)
 all_goals
  simp only[denL]at hd⊢
  obtain⟨u1,r1,rfl,h1,u2,r2,rfl,h2,u3,r3,rfl,h3,u4,r4,rfl,h4,u5,r5,rfl,h5,rfl⟩:=hd
 ·exact⟨u1,_,rfl,h1,u2,_,rfl,h2,u3,_,rfl,h3,u4,_,rfl,h4,u5,_,rfl,nil_sl (by show 2<3;decide) hb h5,rfl⟩
 ·exact⟨u1,_,rfl,h1,u2,_,rfl,h2,u3,_,rfl,h3,u4,_,rfl,nil_sl (by show 1<2;decide) hb h4,u5,_,rfl,h5,rfl⟩
end Go.Proofs.YtjfkkokeegpeiaaDoor

