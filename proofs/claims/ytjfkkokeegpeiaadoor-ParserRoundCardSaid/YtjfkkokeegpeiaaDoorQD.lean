/- Texts joined. -/
import Derived.Test.YtjfkkokeegpeiaaDoorQC
import Derived.Test.YtjfkkokeegpeiaaDoorProg
import Derived.Test.YtjfkkokeegpeiaaDoorRows
import Derived.Lib.Strings
import Derived.Lib.ItoaNum
import Derived.Lib.Join
import Derived.Lib.Repeat
import Derived.Lib.LaidTab
import Derived.Lib.AppendIntMem
import Derived.Lib.IndexMore
import Derived.Recover
import Derived.Shelf.Strings.Builder1
import Derived.Shelf.Strings.Builder2
import Derived.Shelf.Strings.OnBuilder
import Derived.Shelf.Small.Strs
import Derived.Shelf.Small.Wraps
import Derived.Shelf.Strings.BuilderF
import Derived.Shelf.Strings.BuilderK
import Derived.Shelf.Strings.Builder2Cap
import Derived.Shelf.Strconv.Itoa0
import Derived.Shelf.Strconv.Itoa1
import Derived.Shelf.LaysM
import Derived.Shelf.Strconv.Itoa2
import Derived.Shelf.Strconv.Itoa3
import Derived.Shelf.Strings.Search1
import Derived.Shelf.Strings.Search2
import Derived.Shelf.Strings.Search3
import Derived.Shelf.Strings.Shaped
import Derived.Shelf.Strings.Prefix
import Derived.Shelf.Bits.Mul64
import Derived.Shelf.Strings.Repeat
import Derived.Shelf.Strings.BuilderCap
import Derived.Test.YtjfkkokeegpeiaaDoorCards
import Derived.Test.YtjfkkokeegpeiaaDoorTie
import Derived.Deep.DeepHandedRow
import Derived.Deep.DeepWitnessRowRef
import Derived.LaidMore
/- The environment of this seat: variables of the packages, library functions by contract. -/
set_option linter.unusedSimpArgs false
set_option linter.unusedVariables false
set_option linter.unusedSimpArgs false
set_option linter.unusedVariables false
namespace Go.Proofs.YtjfkkokeegpeiaaDoor
open Go Go.Am
abbrev i64(n:Int):V:=.sc (.int .i64 n)
abbrev bo(b:Bool):V:=.sc (.bool b)
abbrev st(s:ByteArray):V:=.sc (.string s)
def tabL:List (List V):=[
 [.sc (.string ⟨#[74]⟩),i64 1,i64 1,i64 0,i64 0,i64 0,i64 0],
 [.sc (.string ⟨#[107,74]⟩),i64 1000,i64 1,i64 0,i64 0,i64 0,i64 0],
 [.sc (.string ⟨#[87,104]⟩),i64 3600,i64 1,i64 0,i64 0,i64 0,i64 0],
 [.sc (.string ⟨#[66]⟩),i64 1,i64 0,i64 1,i64 0,i64 0,i64 0],
 [.sc (.string ⟨#[107,66]⟩),i64 1000,i64 0,i64 1,i64 0,i64 0,i64 0],
 [.sc (.string ⟨#[115]⟩),i64 1,i64 0,i64 0,i64 1,i64 0,i64 0],
 [.sc (.string ⟨#[109,105,110]⟩),i64 60,i64 0,i64 0,i64 1,i64 0,i64 0],
 [.sc (.string ⟨#[104]⟩),i64 3600,i64 0,i64 0,i64 1,i64 0,i64 0],
 [.sc (.string ⟨#[100,101,103]⟩),i64 1,i64 0,i64 0,i64 0,i64 1,i64 0],
 [.sc (.string ⟨#[75]⟩),i64 1,i64 0,i64 0,i64 0,i64 0,i64 1],
 [.sc (.string ⟨#[87]⟩),i64 1,i64 1,i64 0,i64 (-1),i64 0,i64 0],
 [.sc (.string ⟨#[107,87]⟩),i64 1000,i64 1,i64 0,i64 (-1),i64 0,i64 0],
 [.sc (.string ⟨#[66,112,115]⟩),i64 1,i64 0,i64 1,i64 (-1),i64 0,i64 0]]
def ih5:V:=.ro 7 13 (λj=>tabL.getD j [])
def fm5:Nat->Option (List V)
 |0=>some [ih5]
 |_=>none
def ca2:List (List V)->Option (List ByteArray)
 | []=>some []
 | [.sc (.string s)]::l=>match ca2 l with|some r=>some (s::r) |none=>none
 |_=>none
def bz9(f:FuncId)(args:List V):Option V:=
 if f=59 then match args with
  | [.sc (.string s),.sc (.string sub)]=>if s.size<4294967281 then some (bo (Lib.contains s.data.toList sub.data.toList))else none
  |_=>none
 else if f=43 then match args with
  | [.sc (.string s),.sc (.int .u8 c)]=>some (i64 (Lib.indexByte s.data.toList (UInt8.ofNat c.toNat)))
  |_=>none
 else if f=54 then match args with
  | [.sc (.int .i64 n)]=>if-9223372036854775808<=n/\n<=9223372036854775807 then some (st ⟨(Lib.itoa n).toArray⟩)else none
  |_=>none
 else if f=21 then match args with
  | [.sc (.slice none 0 0),.sc (.string _)]=>some (st ByteArray.empty)
  | [.ro 1 n g,.sc (.string sep)]=>match ca2 ((List.range n).map g)with
   |some xs=>if(Lib.join (xs.map (·.data.toList)) sep.data.toList).length<=140737488355328/\n<=140737488355328 then some (st ⟨(Lib.join (xs.map (·.data.toList)) sep.data.toList).toArray⟩)else none
   |none=>none
  |_=>none
 else if f=38 then match args with
  | [.sc (.string s),.sc (.int .i64 c)]=>if 0<=c/\c<=1000/\s.size<=1000 then some (st ⟨(Lib.repeatL s.data.toList c.toNat).toArray⟩)else none
  |_=>none
 else none
def way(a b:Nat):Am.Way:=if b∈[19,35,36,48,60,61,62,63,64,65,66,67,79,81,86,87]then .giveM else if b∈[8,13]then .give else if b∈[11,21]then .lend else .plain
def il2(f:FuncId):Bool:=false
def ik4(f:FuncId):Bool:=f==8
def fj9(f:FuncId):Option Nat:=if f=17 then some 3 else none
open Go.RowKit
noncomputable def E:Env:={P:=Tryd.prog,glob:=fm5,ext:=bz9,way:=way,lit:=il2,code:=λf=>(Tryd.prog.funcs[f]?).bind gf5,inv:=[(1,bl9 .i64),(2,ao7 (Lib.pow10Tab.map λz=>Value.int .u64 z).toArray)],dfn:=ik4,idle:=fj9,rows:=true,sett:=λ_=>true}
noncomputable def E0:Env:={P:=Tryd.prog,glob:=λ_=>none,ext:=λ_ _=>none,way:=λ_ _=>.plain,lit:=λ_=>false,code:=λf=>(Tryd.prog.funcs[f]?).bind gf5}
noncomputable def rest65:ACode:=match E0.code 17 with|some (.seq _ b)=>b|_=>.skip
def ie9:List V:=[.junk,.junk,.junk,.sc .nilIface]++List.replicate 2 (.sc undef)++[.sc .nilIface]++List.replicate 13 (.sc undef)
def T0:l8:=λ_ _ _ _=>none
def L0:f5:=λ_ _ _ _ _=>none
def dw1:Ex->Bool| .normal=>true|_=>false
theorem ij2:aW E0 T0 L0 rest65 {fr:=ie9,H:=hp [],nx:=0,rt:=0,me:=17} (λe _=>if dw1 e then some (.c (.pan .junk))else none)=some (.c (.pan .junk)):=by kernel_rfl
theorem id9(a:Act)(w:World)(hd:a.defers=[])(ht:b8 (λ_=>none) (λ_=>False) w (λ_=>False) ie9 a.tmps.toList):Code.wp Tryd.prog rest65.erase (λe a' w'=>e= .normal/\a'.defers=[]/\Below w.heap.size w w') a w:=by
 obtain⟨e,s',h1,h2⟩:=cC (E:=E0) (ca:=T0) (lo:=L0) (λ_ _ _ _ _ h=>by cases h) (SoundX.none λ_ _=>rfl) (λ_ _ _ _ _ _ h=>by cases h) rest65 _ _ _ ij2;split at h1
 case isFalse=>cases h1
 rename_i he;have he:e= .normal:=by cases e<;>simp_all [dw1]
 subst he;refine wp_mono (h2 (λ_=>none) (λ_=>False) (λ_=>False) a w ⟨ht,⟨λi c hc=>(by simp[hp]at hc),λ_ _=>rfl,λi b m h=>(by cases h),λi b m h=>(by cases h),λi j b m m' h=>(by cases h),λb hb=>hb.elim⟩,⟨λ_=>hd,λd h=>(by rw[hd]at h;cases h),λh=>nomatch (show true=false from h)⟩,λi hi=>hi.elim,⟨λg cs h=>(by cases h),λp hp=>(by cases hp)⟩,λi hi=>absurd hi (Nat.not_lt_zero i)⟩) λe' a' w' hp=>?_;obtain⟨β',S',D',q1,q2,q3,q4,q5,q6⟩:=hp.ex;cases e'<;>simp only[ExR]at q1;exact⟨rfl,q2.df.1 rfl,uG q3⟩
theorem gr5 : gx5 Tryd.prog 17 3 := by
  intro us w hus;refine ⟨?_, ?_⟩
  · have hb : ∃ fn, Tryd.prog.funcs[17]? = some fn /\ fn.body.isSome = true /\ fn.name ≠ "runtime.NumGoroutine" := ⟨_, Tryd.func17, by kernel_rfl, by intro e; exact absurd e (by decide +kernel)⟩
    obtain ⟨fn, h1, h2, h3⟩ := hb;have hb : ¬ fn.body = none := by intro hb; rw [hb] at h2; cases h2
    simp [callFunc, Sem.run_bind, h1, h3, hb, program, Sem.run]
  · match us, hus with
    | ⟨[x, y, z]⟩, _ =>
      refine callsD_of_wpS Tryd.func17 rfl λc₀ cs hu => ?_;apply wpS_seq;apply wpS_region;simp [wpOpsS, go_sem, recoverD, hu, Tryd.ntmps17, Exit.thenS];refine wpS_of_wp ?_;refine (congrArg (λc => Code.wp Tryd.prog c _ _ _) (?_ : rest65.erase = _)).mp (wp_mono (id9 _ w rfl ?_) ?_)
      · kernel_rfl
      · simp [ie9, b8, den];exact ⟨_, _, ⟨rfl, rfl⟩, _, _, rfl, _, rfl⟩
      · rintro e a' w' ⟨rfl, hd, hb⟩;refine ⟨hd, _, ?_, _, by simp [results, Tryd.results17, go_sem]; rfl, ⟨_, rfl⟩, rfl, hb⟩;cases c₀; simp_all
set_option maxRecDepth 100000 in
theorem hW:WF E:=WF.of E (λ_=>rfl) (by kernel_rfl) (λg n h=>by
 have h':fj9 g=some n:=h;unfold fj9 at h';split at h'
 ·rename_i hg;subst hg;cases h';exact gr5
 ·cases h')
end Go.Proofs.YtjfkkokeegpeiaaDoor
/-
 DERIVED: THE SHELF's CONTRACTS AT THIS DUMP, IN PLAIN WORDS (tools/lay-plain.mjs out of 'TrydShelf.lean', which tools/lay-shelf.mjs fk9): THE SAME DECLARATIONS UNDER THE SAME NAMES: 'import', 'namespace', 'open', 'def', 'theorem' AND NOTHING ELSE: no command of the shelf's: FOR A HAND-IN. Each laying: the table of numbers ('.._ren') and one theorem, a field a fact of the dump's own or the kernel's comparison; each contract: ONE APPLICATION.
-/
namespace Go.Proofs
open Go.Shelf
open Go.RowKit in
def Tryd.lays169_ren:Go.Shelf.Ren:=⟨λ|169=>23|n=>n,λ|70=>59|9=>9|0=>0|72=>62|37=>60|127=>89|3=>3|5=>5|n=>n,λ|n=>n⟩
theorem Tryd.lays169:Go.Proofs.Lays.n169 Tryd.prog Tryd.lays169_ren:={
 mixed:=by kernel_rfl
 f169:=Tryd.func23.trans (congrArg some (by kernel_rfl))
 t0:=Tryd.underlying0
 a0:=Tryd.isAgg0
 z0:=Tryd.sizeOf0
 v0:=Tryd.zeroValue0
 t3:=Tryd.underlying3
 a3:=Tryd.isAgg3
 z3:=Tryd.sizeOf3
 v3:=Tryd.zeroValue3
 t9:=Tryd.underlying9
 a9:=Tryd.isAgg9
 z9:=Tryd.sizeOf9
 v9:=Tryd.zeroValue9
 t37:=Tryd.underlying60
 a37:=Tryd.isAgg60
 z37:=Tryd.sizeOf60
 v37:=Tryd.zeroValue60
 t70:=Tryd.underlying59
 a70:=Tryd.isAgg59
 z70:=Tryd.sizeOf59
 v70:=Tryd.zeroValue59
 t72:=Tryd.underlying62
 a72:=Tryd.isAgg62
 z72:=Tryd.sizeOf62
 v72:=Tryd.zeroValue62
 t127:=Tryd.underlying89
 a127:=Tryd.isAgg89
 z127:=Tryd.sizeOf89
 v127:=Tryd.zeroValue89}
open Go.RowKit in
open Go.RowKit in
open Go.RowKit in
open Go.RowKit in
open Go.RowKit in
def Tryd.lays156_ren:Go.Shelf.Ren:=⟨λ|156=>21|165=>40|166=>37|169=>23|240=>49|241=>53|276=>68|277=>72|n=>n,λ|31=>54|9=>9|3=>3|4=>4|0=>0|20=>20|72=>62|76=>84|70=>59|37=>60|75=>83|127=>89|164=>97|5=>5|80=>68|n=>n,λ|n=>n⟩
theorem Tryd.lays156:Go.Proofs.Lays.n156 Tryd.prog Tryd.lays156_ren:={
 mixed:=by kernel_rfl
 f156:=Tryd.func21.trans (congrArg some (by kernel_rfl))
 f165:=Tryd.func40.trans (congrArg some (by kernel_rfl))
 f166:=Tryd.func37.trans (congrArg some (by kernel_rfl))
 f169:=Tryd.func23.trans (congrArg some (by kernel_rfl))
 f240:=Tryd.func49.trans (congrArg some (by kernel_rfl))
 f241:=Tryd.func53.trans (congrArg some (by kernel_rfl))
 f276:=Tryd.func68.trans (congrArg some (by kernel_rfl))
 f277:=Tryd.func72.trans (congrArg some (by kernel_rfl))
 t0:=Tryd.underlying0
 a0:=Tryd.isAgg0
 z0:=Tryd.sizeOf0
 v0:=Tryd.zeroValue0
 t3:=Tryd.underlying3
 a3:=Tryd.isAgg3
 z3:=Tryd.sizeOf3
 v3:=Tryd.zeroValue3
 t4:=Tryd.underlying4
 a4:=Tryd.isAgg4
 z4:=Tryd.sizeOf4
 v4:=Tryd.zeroValue4
 t9:=Tryd.underlying9
 a9:=Tryd.isAgg9
 z9:=Tryd.sizeOf9
 v9:=Tryd.zeroValue9
 t20:=Tryd.underlying20
 a20:=Tryd.isAgg20
 z20:=Tryd.sizeOf20
 v20:=Tryd.zeroValue20
 t31:=Tryd.underlying54
 a31:=Tryd.isAgg54
 z31:=Tryd.sizeOf54
 v31:=Tryd.zeroValue54
 t37:=Tryd.underlying60
 a37:=Tryd.isAgg60
 z37:=Tryd.sizeOf60
 v37:=Tryd.zeroValue60
 t70:=Tryd.underlying59
 a70:=Tryd.isAgg59
 z70:=Tryd.sizeOf59
 v70:=Tryd.zeroValue59
 t72:=Tryd.underlying62
 a72:=Tryd.isAgg62
 z72:=Tryd.sizeOf62
 v72:=Tryd.zeroValue62
 t75:=Tryd.underlying83
 a75:=Tryd.isAgg83
 z75:=Tryd.sizeOf83
 v75:=Tryd.zeroValue83
 t76:=Tryd.underlying84
 a76:=Tryd.isAgg84
 z76:=Tryd.sizeOf84
 v76:=Tryd.zeroValue84
 t127:=Tryd.underlying89
 a127:=Tryd.isAgg89
 z127:=Tryd.sizeOf89
 v127:=Tryd.zeroValue89
 t164:=Tryd.underlying97
 a164:=Tryd.isAgg97
 z164:=Tryd.sizeOf97
 v164:=Tryd.zeroValue97}
theorem Tryd.Builder_Extra_156:Builder.Extra Tryd.prog Tryd.lays156_ren:={
 sizeBuilder:=by kernel_rfl
 liesBuilder:=by kernel_rfl
 t5:=Tryd.underlying5
 a5:=Tryd.isAgg5
 z5:=Tryd.sizeOf5
 v5:=Tryd.zeroValue5
 infoByte:=by kernel_rfl
 cellsByte:=by kernel_rfl
 sizeByte:=by kernel_rfl
 neB5:=by decide}
open Go.RowKit in
theorem Tryd.strings_Join_none(a:Option Addr)(c:Nat)(sep:ByteArray)(w:World):
 Calls Tryd.prog 21 #[.slice a 0 c,.string sep] w λe w'=>e= .returned (.string ⟨#[]⟩)/\w'=w:=Any.strings_Join_none Tryd.lays156 Tryd.Builder_Extra_156 a c sep w
open Go.RowKit in
theorem Tryd.strings_Join(bk o c:Nat)(xs:List ByteArray)(sep:ByteArray)(w:World)(hcells:∀(j:Nat) x,xs[j]? =some x->w.cell? ⟨bk,o+j,none⟩=some (.string x))(hbk:bk<w.heap.size)(hN:xs.length<=140737488355328)(hcap:xs.length<=c)(hlen:(Lib.join (xs.map (·.data.toList)) sep.data.toList).length<=140737488355328):
 Calls Tryd.prog 21 #[.slice (some ⟨bk,o,none⟩) xs.length c,.string sep] w λe w'=>e= .returned (.string ⟨(Lib.join (xs.map (·.data.toList)) sep.data.toList).toArray⟩)/\Below w.heap.size w w':=Any.strings_Join Tryd.lays156 Tryd.Builder_Extra_156 bk o c xs sep w hcells hbk hN hcap hlen
def Tryd.lays137_ren:Go.Shelf.Ren:=⟨λ|137=>43|217=>57|266=>77|n=>n,λ|9=>9|5=>5|3=>3|n=>n,λ|n=>n⟩
theorem Tryd.lays137:Go.Proofs.Lays.n137 Tryd.prog Tryd.lays137_ren:={
 mixed:=by kernel_rfl
 f137:=Tryd.func43.trans (congrArg some (by kernel_rfl))
 f217:=Tryd.func57.trans (congrArg some (by kernel_rfl))
 f266:=Tryd.func77.trans (congrArg some (by kernel_rfl))
 t3:=Tryd.underlying3
 a3:=Tryd.isAgg3
 z3:=Tryd.sizeOf3
 v3:=Tryd.zeroValue3
 t5:=Tryd.underlying5
 a5:=Tryd.isAgg5
 z5:=Tryd.sizeOf5
 v5:=Tryd.zeroValue5
 t9:=Tryd.underlying9
 a9:=Tryd.isAgg9
 z9:=Tryd.sizeOf9
 v9:=Tryd.zeroValue9}
open Go.RowKit in
theorem Tryd.strings_IndexByte(s:ByteArray)(c:Int)(w:World):
 Calls Tryd.prog 43 #[.string s,.int .u8 c] w λe w'=>e= .returned (.int .i64 (Lib.indexByte s.data.toList c.toNat.toUInt8))/\w'=w:=Any.strings_IndexByte Tryd.lays137 s c w
open Go.RowKit in
open Go.RowKit in
open Go.RowKit in
open Go.RowKit in
open Go.RowKit in
open Go.RowKit in
open Go.RowKit in
open Go.RowKit in
open Go.RowKit in
open Go.RowKit in
open Go.RowKit in
open Go.Lib in
open Go.Lib in
open Go.Lib in
open Go.Lib in
open Go.RowKit Go.Sort Go.Lib in
open Go.RowKit Go.Sort Go.Lib in
open Go.RowKit Go.Sort Go.Lib in
open Go.RowKit Go.Sort Go.Lib in
open Go.RowKit Go.Sort Go.Lib in
def Tryd.laysM171_ren:Go.Shelf.Ren:=⟨λ|171=>54|243=>73|246=>82|283=>88|284=>89|285=>90|286=>91|129=>96|317=>95|318=>97|319=>98|320=>99|337=>101|338=>102|n=>n,λ|3=>3|9=>9|2=>2|4=>4|171=>115|0=>0|53=>102|37=>60|5=>5|173=>118|212=>122|51=>99|20=>20|213=>123|46=>91|232=>128|233=>129|n=>n,λ|17=>2|18=>3|19=>4|n=>n⟩
theorem Tryd.laysM171:Go.Proofs.LaysM.n171 Tryd.prog Tryd.laysM171_ren:={
 mixed:=by kernel_rfl
 f129:=Tryd.func96.trans (congrArg some (by kernel_rfl))
 f171:=Tryd.func54.trans (congrArg some (by kernel_rfl))
 f243:=Tryd.func73.trans (congrArg some (by kernel_rfl))
 f246:=Tryd.func82.trans (congrArg some (by kernel_rfl))
 f283:=Tryd.func88.trans (congrArg some (by kernel_rfl))
 f284:=Tryd.func89.trans (congrArg some (by kernel_rfl))
 f285:=Tryd.func90.trans (congrArg some (by kernel_rfl))
 f286:=Tryd.func91.trans (congrArg some (by kernel_rfl))
 f317:=Tryd.func95.trans (congrArg some (by kernel_rfl))
 f318:=Tryd.func97.trans (congrArg some (by kernel_rfl))
 f319:=Tryd.func98.trans (congrArg some (by kernel_rfl))
 f320:=Tryd.func99.trans (congrArg some (by kernel_rfl))
 f337:=Tryd.func101.trans (congrArg some (by kernel_rfl))
 f338:=Tryd.func102.trans (congrArg some (by kernel_rfl))
 t0:=Tryd.underlying0
 a0:=Tryd.isAgg0
 z0:=Tryd.sizeOf0
 v0:=Tryd.zeroValue0
 t2:=Tryd.underlying2
 a2:=Tryd.isAgg2
 z2:=Tryd.sizeOf2
 v2:=Tryd.zeroValue2
 t3:=Tryd.underlying3
 a3:=Tryd.isAgg3
 z3:=Tryd.sizeOf3
 v3:=Tryd.zeroValue3
 t4:=Tryd.underlying4
 a4:=Tryd.isAgg4
 z4:=Tryd.sizeOf4
 v4:=Tryd.zeroValue4
 t5:=Tryd.underlying5
 a5:=Tryd.isAgg5
 z5:=Tryd.sizeOf5
 v5:=Tryd.zeroValue5
 t9:=Tryd.underlying9
 a9:=Tryd.isAgg9
 z9:=Tryd.sizeOf9
 v9:=Tryd.zeroValue9
 t20:=Tryd.underlying20
 a20:=Tryd.isAgg20
 z20:=Tryd.sizeOf20
 v20:=Tryd.zeroValue20
 t37:=Tryd.underlying60
 a37:=Tryd.isAgg60
 z37:=Tryd.sizeOf60
 v37:=Tryd.zeroValue60
 t46:=Tryd.underlying91
 a46:=Tryd.isAgg91
 z46:=Tryd.sizeOf91
 v46:=Tryd.zeroValue91
 t51:=Tryd.underlying99
 a51:=Tryd.isAgg99
 z51:=Tryd.sizeOf99
 v51:=Tryd.zeroValue99
 t53:=Tryd.underlying102
 a53:=Tryd.isAgg102
 z53:=Tryd.sizeOf102
 v53:=Tryd.zeroValue102
 t171:=Tryd.underlying115
 a171:=Tryd.isAgg115
 z171:=Tryd.sizeOf115
 v171:=Tryd.zeroValue115
 t173:=Tryd.underlying118
 a173:=Tryd.isAgg118
 z173:=Tryd.sizeOf118
 v173:=Tryd.zeroValue118
 t212:=Tryd.underlying122
 a212:=Tryd.isAgg122
 z212:=Tryd.sizeOf122
 v212:=Tryd.zeroValue122
 t213:=Tryd.underlying123
 a213:=Tryd.isAgg123
 z213:=Tryd.sizeOf123
 t232:=Tryd.underlying128
 a232:=Tryd.isAgg128
 z232:=Tryd.sizeOf128
 v232:=Tryd.zeroValue128
 t233:=Tryd.underlying129
 a233:=Tryd.isAgg129
 z233:=Tryd.sizeOf129
 v233:=Tryd.zeroValue129
 g17:=by kernel_rfl
 g18:=by kernel_rfl
 g19:=by kernel_rfl
 i0:=by kernel_rfl
 i2:=by kernel_rfl
 i3:=by kernel_rfl
 i4:=by kernel_rfl
 i5:=by kernel_rfl
 i9:=by kernel_rfl
 i20:=by kernel_rfl
 i37:=by kernel_rfl
 i46:=by kernel_rfl
 i51:=by kernel_rfl
 i53:=by kernel_rfl
 i171:=by kernel_rfl
 i173:=by kernel_rfl
 i212:=by kernel_rfl
 i232:=by kernel_rfl
 i233:=by kernel_rfl
 m17:=by kernel_rfl
 m18:=by kernel_rfl
 m19:=by kernel_rfl}
open Go.RowKit Go.Sort Go.Lib in
theorem Tryd.strconv_Itoa (n : Int) (h0 : -9223372036854775808 <= n) (h1 : n <= 9223372036854775807) (w : World) (ig6 : Lib.TabIs Tryd.prog w "internal/strconv.uint64pow10" .u64 Lib.pow10Tab) :
    Calls Tryd.prog 54 #[.int .i64 n] w λe w' => e = .returned (.string ⟨(Lib.itoa n).toArray⟩) /\ ∃ k os, w' = grow (w.drewN k) os := Any.strconv_Itoa Tryd.laysM171 n h0 h1 w ig6
open Go.RowKit Go.Sort Go.Lib in
open Go.RowKit Go.Lib in
open Go.RowKit Go.Lib in
open Go.RowKit Go.Lib in
open Go.RowKit Go.Lib in
open Go.RowKit Go.Lib in
open Go.RowKit Go.Lib in
open Go.RowKit Go.Lib in
open Go.RowKit Go.Lib in
def Tryd.lays144_ren:Go.Shelf.Ren:=⟨λ|144=>59|143=>78|219=>85|217=>57|225=>92|224=>93|267=>94|266=>77|314=>100|n=>n,λ|9=>9|4=>4|3=>3|5=>5|46=>91|146=>100|51=>99|n=>n,λ|1=>1|n=>n⟩
theorem Tryd.lays144:Go.Proofs.Lays.n144 Tryd.prog Tryd.lays144_ren:={
 mixed:=by kernel_rfl
 f143:=Tryd.func78.trans (congrArg some (by kernel_rfl))
 f144:=Tryd.func59.trans (congrArg some (by kernel_rfl))
 f217:=Tryd.func57.trans (congrArg some (by kernel_rfl))
 f219:=Tryd.func85.trans (congrArg some (by kernel_rfl))
 f224:=Tryd.func93.trans (congrArg some (by kernel_rfl))
 f225:=Tryd.func92.trans (congrArg some (by kernel_rfl))
 f266:=Tryd.func77.trans (congrArg some (by kernel_rfl))
 f267:=Tryd.func94.trans (congrArg some (by kernel_rfl))
 f314:=Tryd.func100.trans (congrArg some (by kernel_rfl))
 t3:=Tryd.underlying3
 a3:=Tryd.isAgg3
 z3:=Tryd.sizeOf3
 v3:=Tryd.zeroValue3
 t4:=Tryd.underlying4
 a4:=Tryd.isAgg4
 z4:=Tryd.sizeOf4
 v4:=Tryd.zeroValue4
 t5:=Tryd.underlying5
 a5:=Tryd.isAgg5
 z5:=Tryd.sizeOf5
 v5:=Tryd.zeroValue5
 t9:=Tryd.underlying9
 a9:=Tryd.isAgg9
 z9:=Tryd.sizeOf9
 v9:=Tryd.zeroValue9
 t46:=Tryd.underlying91
 a46:=Tryd.isAgg91
 z46:=Tryd.sizeOf91
 v46:=Tryd.zeroValue91
 t51:=Tryd.underlying99
 a51:=Tryd.isAgg99
 z51:=Tryd.sizeOf99
 v51:=Tryd.zeroValue99
 t146:=Tryd.underlying100
 a146:=Tryd.isAgg100
 z146:=Tryd.sizeOf100
 v146:=Tryd.zeroValue100
 g1:=by kernel_rfl}
open Go.RowKit Go.Lib in
open Go.RowKit Go.Lib in
theorem Tryd.strings_Contains(s sub:ByteArray)(m:Int)(w:World)(hs:s.size<4294967281)(hm:w.cell? ⟨1,0,none⟩=some (.int .i64 m)):
 Calls Tryd.prog 59 #[.string s,.string sub] w λe w'=>e= .returned (.bool (Lib.contains s.data.toList sub.data.toList))/\w'=w:=Any.strings_Contains Tryd.lays144 s sub m w hs hm
open Go.RowKit Go.Lib in
open Go.RowKit Go.Lib in
open Go.RowKit Go.Lib in
open Go.RowKit Go.Lib in
open Go.RowKit Go.Lib in
open Go.RowKit Go.Lib in
open Go.RowKit Go.Lib in
def Tryd.lays105_ren:Go.Shelf.Ren:=⟨λ|105=>38|212=>50|99=>51|165=>40|166=>37|170=>52|169=>23|263=>69|264=>70|206=>71|240=>49|241=>53|276=>68|277=>72|n=>n,λ|9=>9|3=>3|4=>4|20=>20|0=>0|46=>91|109=>92|5=>5|72=>62|76=>84|51=>99|146=>100|53=>102|148=>103|70=>59|37=>60|75=>83|127=>89|164=>97|80=>68|n=>n,λ|n=>n⟩
theorem Tryd.lays105:Go.Proofs.Lays.n105 Tryd.prog Tryd.lays105_ren:={
 mixed:=by kernel_rfl
 f99:=Tryd.func51.trans (congrArg some (by kernel_rfl))
 f105:=Tryd.func38.trans (congrArg some (by kernel_rfl))
 f165:=Tryd.func40.trans (congrArg some (by kernel_rfl))
 f166:=Tryd.func37.trans (congrArg some (by kernel_rfl))
 f169:=Tryd.func23.trans (congrArg some (by kernel_rfl))
 f170:=Tryd.func52.trans (congrArg some (by kernel_rfl))
 f206:=Tryd.func71.trans (congrArg some (by kernel_rfl))
 f212:=Tryd.func50.trans (congrArg some (by kernel_rfl))
 f240:=Tryd.func49.trans (congrArg some (by kernel_rfl))
 f241:=Tryd.func53.trans (congrArg some (by kernel_rfl))
 f263:=Tryd.func69.trans (congrArg some (by kernel_rfl))
 f264:=Tryd.func70.trans (congrArg some (by kernel_rfl))
 f276:=Tryd.func68.trans (congrArg some (by kernel_rfl))
 f277:=Tryd.func72.trans (congrArg some (by kernel_rfl))
 t0:=Tryd.underlying0
 a0:=Tryd.isAgg0
 z0:=Tryd.sizeOf0
 v0:=Tryd.zeroValue0
 t3:=Tryd.underlying3
 a3:=Tryd.isAgg3
 z3:=Tryd.sizeOf3
 v3:=Tryd.zeroValue3
 t4:=Tryd.underlying4
 a4:=Tryd.isAgg4
 z4:=Tryd.sizeOf4
 v4:=Tryd.zeroValue4
 t5:=Tryd.underlying5
 a5:=Tryd.isAgg5
 z5:=Tryd.sizeOf5
 v5:=Tryd.zeroValue5
 t9:=Tryd.underlying9
 a9:=Tryd.isAgg9
 z9:=Tryd.sizeOf9
 v9:=Tryd.zeroValue9
 t20:=Tryd.underlying20
 a20:=Tryd.isAgg20
 z20:=Tryd.sizeOf20
 v20:=Tryd.zeroValue20
 t37:=Tryd.underlying60
 a37:=Tryd.isAgg60
 z37:=Tryd.sizeOf60
 v37:=Tryd.zeroValue60
 t46:=Tryd.underlying91
 a46:=Tryd.isAgg91
 z46:=Tryd.sizeOf91
 v46:=Tryd.zeroValue91
 t51:=Tryd.underlying99
 a51:=Tryd.isAgg99
 z51:=Tryd.sizeOf99
 v51:=Tryd.zeroValue99
 t53:=Tryd.underlying102
 a53:=Tryd.isAgg102
 z53:=Tryd.sizeOf102
 v53:=Tryd.zeroValue102
 t70:=Tryd.underlying59
 a70:=Tryd.isAgg59
 z70:=Tryd.sizeOf59
 v70:=Tryd.zeroValue59
 t72:=Tryd.underlying62
 a72:=Tryd.isAgg62
 z72:=Tryd.sizeOf62
 v72:=Tryd.zeroValue62
 t75:=Tryd.underlying83
 a75:=Tryd.isAgg83
 z75:=Tryd.sizeOf83
 v75:=Tryd.zeroValue83
 t76:=Tryd.underlying84
 a76:=Tryd.isAgg84
 z76:=Tryd.sizeOf84
 v76:=Tryd.zeroValue84
 t109:=Tryd.underlying92
 a109:=Tryd.isAgg92
 z109:=Tryd.sizeOf92
 v109:=Tryd.zeroValue92
 t127:=Tryd.underlying89
 a127:=Tryd.isAgg89
 z127:=Tryd.sizeOf89
 v127:=Tryd.zeroValue89
 t146:=Tryd.underlying100
 a146:=Tryd.isAgg100
 z146:=Tryd.sizeOf100
 v146:=Tryd.zeroValue100
 t148:=Tryd.underlying103
 a148:=Tryd.isAgg103
 z148:=Tryd.sizeOf103
 v148:=Tryd.zeroValue103
 t164:=Tryd.underlying97
 a164:=Tryd.isAgg97
 z164:=Tryd.sizeOf97
 v164:=Tryd.zeroValue97}
theorem Tryd.Builder_Extra_105:Builder.Extra Tryd.prog Tryd.lays105_ren:={
 sizeBuilder:=by kernel_rfl
 liesBuilder:=by kernel_rfl
 t5:=Tryd.underlying5
 a5:=Tryd.isAgg5
 z5:=Tryd.sizeOf5
 v5:=Tryd.zeroValue5
 infoByte:=by kernel_rfl
 cellsByte:=by kernel_rfl
 sizeByte:=by kernel_rfl
 neB5:=by decide}
open Go.RowKit Go.Lib in
open Go.RowKit Go.Lib in
open Go.RowKit Go.Lib in
open Go.RowKit Go.Lib in
open Go.RowKit Go.Lib in
open Go.RowKit Go.Lib in
open Go.RowKit Go.Lib in
theorem Tryd.strings_Repeat(s:ByteArray)(c:Nat)(w:World)(hc:c<=9223372036854775807)(hlen:s.size*c<=140737488355328):
 Calls Tryd.prog 38 #[.string s,.int .i64 c] w λe w'=>e= .returned (.string ⟨(Lib.repeatL s.data.toList c).toArray⟩)/\Below w.heap.size w w':=Any.strings_Repeat Tryd.lays105 Tryd.Builder_Extra_105 s c w hc hlen
end Go.Proofs
/- The library's contracts, as the environment has them; the examples hold. -/
namespace Go.Proofs.YtjfkkokeegpeiaaDoor
open Go Go.Am Go.RowKit
theorem dc0:∀{l:List (List V)} {xs:List ByteArray},ca2 l=some xs->l=xs.map λx=>[V.sc (.string x)]
 | [],xs,h=>by simp only[ca2,Option.some.injEq]at h;subst h;rfl
 | []::l,xs,h=>by simp[ca2]at h
 | [a]::l,xs,h=>by
  cases a<;>try (simp[ca2]at h;done)
  rename_i v;cases v<;>try (simp[ca2]at h;done)
  rename_i s;simp only[ca2]at h;split at h
  ·rename_i r hr;simp only[Option.some.injEq]at h;subst h;rw[dc0 hr];rfl
  ·cases h
 | (a::b::c)::l,xs,h=>by
  have:ca2 ((a::b::c)::l)=none:=by cases a with|sc v=>(cases v<;>rfl) |_=>rfl
  rw[this]at h;cases h
theorem vT{W:World}{a:Addr}{x:Value}(h:W.cell? a=some x):a=⟨a.block,a.off,none⟩:=by
 unfold World.cell? at h;split at h
 ·split at h
  ·cases h
  ·rename_i hs;obtain⟨b,o,s⟩:=a;cases s with
   |none=>rfl
   |some q=>exact absurd rfl hs
 ·cases h
theorem fs2{S:Pr}{w:World}(hG:Glob E S w):∃m,w.cell? ⟨1,0,none⟩=some (.int .i64 m):=by
 obtain⟨_,x,h1,h2⟩:=hG.inv (1,bl9 .i64) (by simp[E]);exact dj7 h1 h2
theorem g2 : Tryd.prog.globalNamed "internal/strconv.uint64pow10" = some 2 := by kernel_rfl
theorem hz4 {S : Pr} {w : World} (hG : Glob E S w) : Lib.TabIs Tryd.prog w "internal/strconv.uint64pow10" .u64 Lib.pow10Tab := by
  obtain ⟨_, x, h1, h2⟩ := hG.inv (2, ao7 (Lib.pow10Tab.map λz => Value.int .u64 z).toArray) (by simp [E]);exact di3 g2 h1 h2
theorem hX:SoundX E:=by
 intro f args v h;have h':bz9 f args=some v:=h;unfold bz9 at h';split at h'
 ·rename_i hf;subst hf;split at h'
  ·rename_i s sub;split at h'
   ·rename_i hn;cases h';refine⟨⟨_,Tryd.func59,by kernel_rfl,by intro e;exact absurd e (by decide+kernel)⟩,rfl,λβ S D w us hd hG hS=>?_⟩;obtain rfl:us=[.string s,.string sub]:=by simpa[b8,den]using hd
    obtain⟨m,hm⟩:=fs2 hG;refine(Tryd.strings_Contains s sub m w hn hm).mono ?_;rintro e w' ⟨rfl,rfl⟩;exact⟨_,S,rfl,Below.refl _ _,by simp only[den],λ_ h=>h,λ_ h=>.inl h⟩
   ·cases h'
  ·cases h'
 split at h'
 ·rename_i hf;subst hf;split at h'
  ·rename_i s c;cases h';refine⟨⟨_,Tryd.func43,by kernel_rfl,by intro e;exact absurd e (by decide+kernel)⟩,rfl,λβ S D w us hd hG hS=>?_⟩;obtain rfl:us=[.string s,.int .u8 c]:=by simpa[b8,den]using hd
   refine(Tryd.strings_IndexByte s c w).mono ?_;rintro e w' ⟨rfl,rfl⟩;exact⟨_,S,rfl,Below.refl _ _,by simp only[den],λ_ h=>h,λ_ h=>.inl h⟩
  ·cases h'
 split at h'
 ·rename_i hf;subst hf;split at h'
  ·rename_i n;split at h'
   ·rename_i hn;cases h';refine⟨⟨_,Tryd.func54,by kernel_rfl,by intro e;exact absurd e (by decide+kernel)⟩,rfl,λβ S D w us hd hG hS=>?_⟩;obtain rfl:us=[.int .i64 n]:=by simpa[b8,den]using hd
    refine(Tryd.strconv_Itoa n hn.1 hn.2 w (hz4 hG)).mono ?_;rintro e w' ⟨rfl,k,os,rfl⟩;exact⟨_,S,rfl,Lib.below_grow w.heap.size w (Nat.le_refl _) k os,by simp[den],λ_ h=>h,λ_ h=>.inl h⟩
   ·cases h'
  ·cases h'
 split at h'
 ·rename_i hf;subst hf;split at h'
  ·rename_i sep;cases h';refine⟨⟨_,Tryd.func21,by kernel_rfl,by intro e;exact absurd e (by decide+kernel)⟩,rfl,λβ S D w us hd hG hS=>?_⟩;obtain rfl:us=[.slice none 0 0,.string sep]:=by simpa[b8,den]using hd
   refine(Tryd.strings_Join_none none 0 sep w).mono ?_;rintro e w' ⟨rfl,rfl⟩;exact⟨_,S,rfl,Below.refl _ _,by simp only[den];rfl,λ_ h=>h,λ_ h=>.inl h⟩
  ·rename_i n g sep;split at h'
   ·rename_i xs hxs;split at h'
    ·rename_i hn;cases h';refine⟨⟨_,Tryd.func21,by kernel_rfl,by intro e;exact absurd e (by decide+kernel)⟩,rfl,λβ S D w us hd hG hS=>?_⟩;simp only[b8,den]at hd;obtain⟨u,r,rfl,⟨_,A,m,a,cs,rfl,hnm,hA,hc⟩,u2,r2,rfl,rfl,rfl⟩:=hd;have hl:=dc0 hxs
     have hlen:xs.length=n:=by
      have:=congrArg List.length hl;simpa using this.symm
     have hcell:∀(j:Nat) (x:ByteArray),xs[j]? =some x->w.cell? (a.add j)=some (.string x):=by
      intro j x hj;have hjn:j<n:=by rw[<-hlen];exact(List.getElem?_eq_some_iff.1 hj).1
      obtain⟨g1,g2,g3,g4,g5⟩:=hc j hjn
      have hg:g j=[.sc (.string x)]:=by
       have:=congrArg (λl=>l[j]?) hl;simp only[List.getElem?_map,List.getElem?_range hjn,hj,Option.map_some,Option.some.injEq]at this;exact this
      rw[hg]at g1;simp only[b8,den]at g1;obtain⟨x1,x2,h1,rfl,rfl⟩:=g1;have:=g5 0 (.string x) (by rw[h1];rfl);simpa using this
     have hdone:∀(o:Option Addr),Calls Tryd.prog 21 #[.slice o n m,.string sep] w (λe w'=>e= .returned (.string ⟨(Lib.join (xs.map (·.data.toList)) sep.data.toList).toArray⟩)/\Below w.heap.size w w')->
      Calls E.P 21 [Value.slice o n m,.string sep].toArray w λe w'=>∃u S',e= .returned u/\Below w.heap.size w w'/\den (λ_=>none) S' w' (λ_=>False) (st ⟨(Lib.join (xs.map (·.data.toList)) sep.data.toList).toArray⟩) u/\(∀b,S b->S' b)/\∀b,S' b->S b\/(w.heap.size<=b/\b<w'.heap.size):=by
      intro o h;refine Calls.mono h ?_;rintro e w' ⟨rfl,hb⟩;exact⟨_,S,rfl,hb,by simp only[den],λ_ h=>h,λ_ h=>.inl h⟩
     cases xs with
     |nil=>
      simp only[List.length_nil]at hlen;subst hlen;exact hdone A ((Tryd.strings_Join_none A m sep w).mono λe w' ⟨he,hw⟩=>⟨he,hw▸Below.refl _ _⟩)
     |cons x xs=>
      have h0:0<n:=by rw[<-hlen];simp
      obtain⟨rfl,hab⟩:=hA h0;have hsp:=vT (a:=a) (by have:=hcell 0 x rfl;simpa[Addr.add]using this);refine hdone (some a) ?_
      have:=Tryd.strings_Join a.block a.off m (x::xs) sep w (λj y hj=>by
       have:=hcell j y hj;rw[hsp,dP]at this
       exact this) (hS _ hab) (by rw[hlen];exact hn.2) (by rw[hlen];exact hnm) hn.1
      rw[hlen,<-hsp]at this;exact this
    ·cases h'
   ·cases h'
  ·cases h'
 split at h'
 ·rename_i hf;subst hf;split at h'
  ·rename_i s c;split at h'
   ·rename_i hn;cases h';refine⟨⟨_,Tryd.func38,by kernel_rfl,by intro e;exact absurd e (by decide+kernel)⟩,rfl,λβ S D w us hd hG hS=>?_⟩;obtain rfl:us=[.string s,.int .i64 c]:=by simpa[b8,den]using hd
    obtain⟨n,rfl⟩:∃n:Nat,c=n:=⟨c.toNat,by omega⟩
    refine(Tryd.strings_Repeat s n w (by omega) (by
     have h1:n<=1000:=by omega
     exact Nat.le_trans (Nat.mul_le_mul hn.2.2 h1) (by omega))).mono ?_
    rintro e w' ⟨rfl,hb⟩;exact⟨_,S,rfl,hb,by simp only[den];rfl,λ_ h=>h,λ_ h=>.inl h⟩
   ·cases h'
  ·cases h'
 ·cases h'
end Go.Proofs.YtjfkkokeegpeiaaDoor
/- What the rows list of the packages' variables; a world that holds it. -/
namespace Go.Proofs.YtjfkkokeegpeiaaDoor
open Go Go.Am Go.RowKit
theorem es8:cw6 Tryd.prog=true:=by kernel_rfl
theorem dw3{β:Bt}{S D:Pr}{w:World}:∀{l:List Value} {us:List Value},b8 β S w D (l.map V.sc) us->us=l
 | [],us,h=>by simpa[b8]using h
 |v::l,us,h=>by
  simp only[List.map_cons,b8,den]at h;obtain⟨x,xs,rfl,rfl,h⟩:=h;rw[dw3 h]
abbrev az0:List (String×DataW Unit):=Rows.parserSpacesRow.laid
theorem fz2{W:World}(h:laidMetH Tryd.prog az0 W):laidMet Tryd.prog az0 W:=by
 rw[MakeChecks.laidMetH_plain _ _ _ (by kernel_rfl)]at h;exact h
theorem hd8 : GlobAt Tryd.prog az0 0 [ih5] := ⟨"perigee/unit.table", Rows.laid_perigee_unit_table, 74, 8, by simp [az0, Rows.parserSpacesRow], by kernel_rfl, by kernel_rfl, of_decide_eq_true (by kernel_rfl), by kernel_rfl, by simp⟩
theorem hc5 {W : World} (h : laidMetH Tryd.prog az0 W) (hs : W.ShapedOpen Tryd.prog) : Glob E (· < W.heap.size) W := by
  have hl := fz2 h;refine Glob.of_laid (laid := az0) es8 hl (λg cs hg => ?_) (λp hp => ?_)
  · have hg' : fm5 g = some cs := hg;unfold fm5 at hg';split at hg'
    · cases hg'; exact hd8
    · cases hg'
  · simp only [E, List.mem_cons, List.mem_nil_iff, or_false] at hp;rcases hp with rfl | rfl
    · exact fe2 (cell_of_shapedOpen_int (t := 3) (zero := #[.int .i64 0]) hs (of_decide_eq_true (by kernel_rfl)) (by kernel_rfl) rfl (by kernel_rfl) (by kernel_rfl) (by kernel_rfl))
    · obtain ⟨ps, hv, _⟩ := hl
      obtain ⟨g, t, cs, fuel, q, k1, k2, k3, k4⟩ := ah5 hv "internal/strconv.uint64pow10" Rows.laid_internal_strconv_uint64pow10 (by simp [az0, Rows.parserSpacesRow])
      obtain rfl := Option.some.inj (g2.symm.trans k1);obtain rfl := Option.some.inj ((show (Tryd.prog.globals[2]?).map (·.type) = some 122 by kernel_rfl).symm.trans k2);have gd := ao2 es8 fuel 8 122 cs.toList _ q ((Lib.pow10Tab.map λz => Value.int .u64 z).map V.sc) (of_decide_eq_true (by kernel_rfl)) k4 (by kernel_rfl);have hcs := dw3 gd.den;have : cs = (Lib.pow10Tab.map λz => Value.int .u64 z).toArray := by rw [<- hcs]
      rw [<- this];exact em5 g2 k3
noncomputable def av2(os:Os):World:=World.doorLaid Tryd.prog 4000 os
theorem fy2(os:Os)(args:Array Value):laidMet Tryd.prog az0 ((av2 os).forCall (λ_ _=>0) ⟨#[],args,[]⟩).memory:=
 laidMet_of_run' 8 (by kernel_rfl) (by kernel_rfl)
theorem gv2(os:Os)(args:Array Value):laidMetH Tryd.prog az0 ((av2 os).forCall (λ_ _=>0) ⟨#[],args,[]⟩).memory:=by
 rw[MakeChecks.laidMetH_plain _ _ _ (by kernel_rfl)];exact fy2 os args
end Go.Proofs.YtjfkkokeegpeiaaDoor
/- Short words for the lifted texts. -/
namespace Go.Proofs.YtjfkkokeegpeiaaDoor
open Go Go.Am Go.Proofs
abbrev FI:Type:=Nat->Int
abbrev FS:Type:=Nat->ByteArray
abbrev FL:Type:=Nat->List V
abbrev FM:Type:=Nat->Nat->List V
abbrev FN:Type:=Nat->Nat
abbrev SP:Type:=Int×Int×Nat×FI×FI×FS×FI×Nat×FS×Nat×FS
abbrev SC2:Type:=Nat×FI×FI×FS×FI×Int×Int×Nat×Nat×FS×FS
abbrev AR(α:Type):Type:=α->List V×List (Option Chunk)
abbrev Lw(E:Env)(f:FuncId){α γ:Type}(A:AR α)(R:γ->CRes)(c:α->Option γ):Prop:=∀x z,c x=some z->SC E f (A x).1 (A x).2 (R z)
noncomputable def ftg{α γ:Type}(f:FuncId)(gd:List V->List (Option Chunk)->Bool)(A:AR α)(R:γ->CRes)(c:α->Option γ)(ca:l8):l8:=gz2 f gd A (λz k=>k (R z)) c ca
noncomputable abbrev ftb{α γ:Type}(f:FuncId)(A:AR α)(R:γ->CRes)(c:α->Option γ)(ca:l8):l8:=ftg f (λ_ _=>true) A R c ca
theorem fk{E:Env}{α γ:Type}{f:FuncId}{gd:List V->List (Option Chunk)->Bool}{A:AR α}{c:α->Option γ}{ca:l8}{R:γ->CRes}(h:Lw E f A R c)(hl:r8 E ca):r8 E (ftg f gd A R c ca):=dc3 h (λ_ _=>rfl) hl
noncomputable def vf{α γ:Type}(A:AR α)(c:α->Option γ):α->Option γ:=λx=>ay3 A c (A x)
theorem vq{α γ:Type}{A:AR α}(hi:∀x y,A x=A y->x=y)(c:α->Option γ):vf A c=c:=br2 hi c
abbrev n0:=@gc2
abbrev n1:=@fp6
abbrev n2:=@ge5
abbrev n3:=@go3
abbrev hHP(x:SP):List (Option Chunk):=[some (.blk [.ro 4 x.2.2.1 (λj=>[i64 (x.2.2.2.1 j),i64 (x.2.2.2.2.1 j),st (x.2.2.2.2.2.1 j),i64 (x.2.2.2.2.2.2.1 j)]),i64 x.1,i64 x.2.1,.sl 1 1 0 x.2.2.2.2.2.2.2.1,.sl 2 1 0 x.2.2.2.2.2.2.2.2.2.1]),some (.row 9 1 x.2.2.2.2.2.2.2.1 (λj=>[st (x.2.2.2.2.2.2.2.2.1 j)])),some (.row 9 1 x.2.2.2.2.2.2.2.2.2.1 (λj=>[st (x.2.2.2.2.2.2.2.2.2.2 j)]))]
abbrev dTI(v:V)(n:Nat):FI:=λj=>vI ((iU v j).getD n .junk)
abbrev dTS(v:V)(n:Nat):FS:=λj=>vS ((iU v j).getD n .junk)
abbrev dCS(c:Option Chunk):FS:=λj=>vS ((chF c j).getD 0 .junk)
def dHP(t:List (Option Chunk)):SP:=
 let b:=chB (t.getD 0 none);let v:=b.getD 0 .junk
 (vI (b.getD 1 .junk),vI (b.getD 2 .junk),u7 v,dTI v 0,dTI v 1,dTS v 2,dTI v 3,dB (b.getD 3 .junk),dCS (t.getD 1 none),dB (b.getD 4 .junk),dCS (t.getD 2 none))
abbrev hPB{α:Type}(y:Nat×FI×FI×FS×FI×Int×Int×Nat×Nat×α):Chunk:=.blk [.ro 4 y.1 (λj=>[i64 (y.2.1 j),i64 (y.2.2.1 j),st (y.2.2.2.1 j),i64 (y.2.2.2.2.1 j)]),i64 y.2.2.2.2.2.1,i64 y.2.2.2.2.2.2.1,.sl 1 1 0 y.2.2.2.2.2.2.2.1,.sl 2 1 0 y.2.2.2.2.2.2.2.2.1]
abbrev hPV{α:Type}(y:Nat×FI×FI×FS×FI×Int×Int×Nat×Nat×FS×α):Chunk:=.row 9 1 y.2.2.2.2.2.2.2.1 (λj=>[st (y.2.2.2.2.2.2.2.2.2.1 j)])
abbrev hPQ{α:Type}(y:Nat×FI×FI×FS×FI×Int×Int×Nat×Nat×FS×FS×α):Chunk:=.row 9 1 y.2.2.2.2.2.2.2.2.1 (λj=>[st (y.2.2.2.2.2.2.2.2.2.2.1 j)])
abbrev jf5(y:SC2):Chunk:=.row 9 1 y.2.2.2.2.2.2.2.2.1 (λj=>[st (y.2.2.2.2.2.2.2.2.2.2 j)])
abbrev TT:Type:=List V×List (Option Chunk)
def x2{α β:Type}(R:α⊕β->CRes)(z:α⊕β)(k:CRes->Option Ans):Option Ans:=Sum.elim (λa=>k (R (.inl a))) (λb=>k (R (.inr b))) z
def x3{α β γ:Type}(R:α⊕β⊕γ->CRes)(z:α⊕β⊕γ)(k:CRes->Option Ans):Option Ans:=Sum.elim (λa=>k (R (.inl a))) (λb=>x2 (λb=>R (.inr b)) b k) z
def x4{α β γ δ:Type}(R:α⊕β⊕γ⊕δ->CRes)(z:α⊕β⊕γ⊕δ)(k:CRes->Option Ans):Option Ans:=Sum.elim (λa=>k (R (.inl a))) (λb=>x3 (λb=>R (.inr b)) b k) z
section
variable {α β γ δ ε:Type} {E:Env} {f:FuncId} {gd:List V->List (Option Chunk)->Bool} {ca:l8}
theorem xe2{R:α⊕β->CRes}:∀z k,x2 R z k=k (R z):=λz k=>by rcases z with z|z<;>rfl
noncomputable def fg2(f:FuncId)(gd:List V->List (Option Chunk)->Bool)(A:AR ε)(R:α⊕β->CRes)(c:ε->Option (α⊕β))(ca:l8):l8:=gz2 f gd A (x2 R) c ca
noncomputable abbrev ft2(f:FuncId)(A:AR ε)(R:α⊕β->CRes)(c:ε->Option (α⊕β))(ca:l8):l8:=fg2 f (λ_ _=>true) A R c ca
theorem fk2{A:AR ε}{R:α⊕β->CRes}{c:ε->Option (α⊕β)}(h:Lw E f A R c)(hl:r8 E ca):r8 E (fg2 f gd A R c ca):=dc3 h xe2 hl
theorem sof{A:AR α}{R:γ->CRes}{c:α->Option γ}{lo:α->f5}(hW:WF E)(hX:SoundX E)(hc:r8 E ca)(hl:∀x,x8 E (lo x))(h:∀x,f7 E ca (lo x) f (A x).1 (A x).2 (λr=>some (.c r))=(c x).bind λz=>some (.c (R z))):Lw E f A R c:=λx z hz=>SC.of hW hX hc (hl x) ((h x).trans (by rw[hz];rfl))
abbrev VI(A:AR α):Prop:=∀{γ:Type} (c:α->Option γ),vf A c=c
theorem vd{A:AR α}(d:TT->α)(h:∀x,d (A x)=x):VI A:=λc=>vq (λx y e=>by rw[<-h x,<-h y,e]) c
noncomputable def lf(b:ACode)(S:α->St)(p:α->Option γ):α->Option γ:=λy=>ay3 (λy=>(b,S y)) p (b,S y)
abbrev VL(S:α->St):Prop:=∀{γ:Type} (b:ACode) (p:α->Option γ),lf b S p=p
theorem vl{S:α->St}(d:St->α)(h:∀x,d (S x)=x):VL S:=λb p=>br2 (ap1 b λx y e=>by rw[<-h x,<-h y,e]) p
abbrev Ll(E:Env)(b:ACode)(S:α->St)(T:γ->Ex×St)(p:α->Option γ):Prop:=∀y z,p y=some z->SL E b (S y) (T z).1 (T z).2
def w1(T:α->Ex×St)(z:α)(k:KX):Option Ans:=k (T z).1 (T z).2
def w2(T:α⊕β->Ex×St)(z:α⊕β)(k:KX):Option Ans:=Sum.elim (λa=>w1 (λa=>T (.inl a)) a k) (λb=>w1 (λb=>T (.inr b)) b k) z
def w3(T:α⊕β⊕γ->Ex×St)(z:α⊕β⊕γ)(k:KX):Option Ans:=Sum.elim (λa=>w1 (λa=>T (.inl a)) a k) (λb=>w2 (λb=>T (.inr b)) b k) z
def w4(T:α⊕β⊕γ⊕δ->Ex×St)(z:α⊕β⊕γ⊕δ)(k:KX):Option Ans:=Sum.elim (λa=>w1 (λa=>T (.inl a)) a k) (λb=>w3 (λb=>T (.inr b)) b k) z
noncomputable def lt1(id:Nat)(gd:St->Bool)(b:ACode)(S:ε->St)(T:α->Ex×St)(p:ε->Option α)(lo:f5):f5:=aj8 id gd b S (w1 T) p lo
noncomputable def lt2(id:Nat)(gd:St->Bool)(b:ACode)(S:ε->St)(T:α⊕β->Ex×St)(p:ε->Option (α⊕β))(lo:f5):f5:=aj8 id gd b S (w2 T) p lo
noncomputable def lt3(id:Nat)(gd:St->Bool)(b:ACode)(S:ε->St)(T:α⊕β⊕γ->Ex×St)(p:ε->Option (α⊕β⊕γ))(lo:f5):f5:=aj8 id gd b S (w3 T) p lo
noncomputable def lt4(id:Nat)(gd:St->Bool)(b:ACode)(S:ε->St)(T:α⊕β⊕γ⊕δ->Ex×St)(p:ε->Option (α⊕β⊕γ⊕δ))(lo:f5):f5:=aj8 id gd b S (w4 T) p lo
variable {id:Nat} {gs:St->Bool} {b:ACode} {S:ε->St} {lo:f5}
theorem lk1{T:α->Ex×St}{p:ε->Option α}(h:Ll E b S T p)(hl:x8 E lo):x8 E (lt1 id gs b S T p lo):=pP h (λ_ _=>rfl) hl
theorem lk2{T:α⊕β->Ex×St}{p:ε->Option (α⊕β)}(h:Ll E b S T p)(hl:x8 E lo):x8 E (lt2 id gs b S T p lo):=pP h (λz k=>by rcases z with z|z<;>rfl) hl
theorem lk3{T:α⊕β⊕γ->Ex×St}{p:ε->Option (α⊕β⊕γ)}(h:Ll E b S T p)(hl:x8 E lo):x8 E (lt3 id gs b S T p lo):=pP h (λz k=>by rcases z with z|z|z<;>rfl) hl
theorem lk4{T:α⊕β⊕γ⊕δ->Ex×St}{p:ε->Option (α⊕β⊕γ⊕δ)}(h:Ll E b S T p)(hl:x8 E lo):x8 E (lt4 id gs b S T p lo):=pP h (λz k=>by rcases z with z|z|z|z<;>rfl) hl
theorem slp{S:α->St}{T:γ->Ex×St}{st:α->Option (α⊕γ)}{live:Nat}{ms:List (Nat×Nat)}{r:Nat}{c:ACode}(hC:r8 E ca)(hX:SoundX E)
 (tr:∀lo x,n8 E ca lo id live c (S x) (KCM ms r)=(st x).bind λr'=>Sum.elim (λy=>lo id live c (S y) (KCM ms r)) (λz=>some (.l (T z).1 (T z).2)) r')
 (kT:∀z,KCM ms r (T z).1 (T z).2=some (.l (T z).1 (T z).2)) (n:Nat):Ll E c S T (lpG st n):=SL.lp (LT:=λlo=>lo) hC hX (λ_ h=>h) tr kT n
end
def cb(s:St)(i k:Nat):V:=(chB (s.H i)).getD k .junk
def cc(t:TT)(i k:Nat):V:=(chB (t.2.getD i none)).getD k .junk
def ca(t:TT)(i k:Nat):V:=(vAg (t.1.getD i .junk)).getD k .junk
def ag(t:TT)(i:Nat):V:=t.1.getD i .junk
def co(t:TT)(i:Nat):Option Chunk:=t.2.getD i none
abbrev dTN(v:V)(n:Nat):FN:=λj=>u7 ((iU v j).getD n .junk)
abbrev dTF(v:V)(n:Nat):FM:=λj=>iU ((iU v j).getD n .junk)
abbrev dRI(c:Option Chunk)(n:Nat):FI:=λj=>vI ((chF c j).getD n .junk)
abbrev dRS(c:Option Chunk)(n:Nat):FS:=λj=>vS ((chF c j).getD n .junk)
abbrev dRN(c:Option Chunk)(n:Nat):FN:=λj=>u7 ((chF c j).getD n .junk)
abbrev dRF(c:Option Chunk)(n:Nat):FM:=λj=>iU ((chF c j).getD n .junk)
end Go.Proofs.YtjfkkokeegpeiaaDoor
/- The parser, lifted. -/
namespace Go.Proofs.YtjfkkokeegpeiaaDoor
open Go Go.Am Go.Proofs
set_option maxRecDepth 100000
abbrev g8:V:=.sc (.slice none 0 0)
noncomputable def E5:Env:={P:=Tryd.prog,glob:=fm5,ext:=λ_ _=>none,way:=way,lit:=λ_=>false,code:=λf=>(Tryd.prog.funcs[f]?).bind gf5,sett:=λ_=>true,rows:=true,dfn:=ik4,idle:=fj9,inv:=[(1,bl9 .i64),(2,ao7 (Lib.pow10Tab.map λz=>Value.int .u64 z).toArray)]}
set_option maxRecDepth 100000 in
theorem hW5:WF E5:=WF.of E5 (λ_=>rfl) (by kernel_rfl) hW.1.1
theorem hX5:SoundX E5:=SoundX.none λ_ _=>rfl
theorem sc5{f:FuncId}{args:List V}{L:List (Option Chunk)}{cr:CRes}:SC E5 f args L cr↔SC E f args L cr:=
 ⟨λh=>⟨h.1,λβ S w us h1 h2 h3=>h.2 β S w us h1 h2 ⟨h3.rd,h3.inv⟩⟩,λh=>⟨h.1,λβ S w us h1 h2 h3=>h.2 β S w us h1 h2 ⟨h3.rd,h3.inv⟩⟩⟩
def K:CRes->Option Ans:=λr=>some (.c r)
abbrev w(n:Int):Int:=IntKind.wrap .i64 n
def jk(n:Nat):List V:=List.replicate n .junk
abbrev af9:Type:=ByteArray×ByteArray
abbrev be0:Type:=Bool
def ah0:AR af9:=λx=>([st x.1,st x.2],[])
def fd4(t:TT):af9:=(vS (ag t 0),vS (ag t 1))
theorem et9:VI ah0:=vd fd4 λ_=>rfl
def cm3:be0->CRes:=λz=>.ret (bo z) []
noncomputable def an7(q:Nat)(x:af9):Option be0:=if x.1.size<4294967281 then some (Lib.contains x.1.data.toList x.2.data.toList)else none
theorem ej8(q:Nat):Lw E5 59 ah0 cm3 (an7 q):=by
 rintro⟨s,u⟩ z h;unfold an7 at h;split at h
 ·rename_i hn;cases h
  exact sc5.2 (SC.ext hX (by
   show bz9 59 [st s,st u]=_;simp only[bz9,if_pos,st]
   exact if_pos hn))
 ·cases h
abbrev oL:Type:=ByteArray
abbrev oP:Type:=Int×Int×Int×Int×Int×Int×Bool
def eJ:AR oL:=λx=>([st x],[])
def go2(t:TT):oL:=(vS (ag t 0))
theorem bh5:VI eJ:=vd go2 λ_=>rfl
def wQ:oP->CRes:=λz=>.ret (.tup [.agg [i64 z.1,i64 z.2.1,i64 z.2.2.1,i64 z.2.2.2.1,i64 z.2.2.2.2.1],i64 z.2.2.2.2.2.1,bo z.2.2.2.2.2.2]) []
def aa8{β:Type}(x:oL)(dn:oP->Option β):Option β:=
 if(ByteArray.toList ⟨#[74]⟩==x.toList)=true then dn (1,0,0,0,0,1,true)else if(ByteArray.toList ⟨#[107,74]⟩==x.toList)=true then dn (1,0,0,0,0,1000,true)else if(ByteArray.toList ⟨#[87,104]⟩==x.toList)=true then dn (1,0,0,0,0,3600,true)else if(ByteArray.toList ⟨#[66]⟩==x.toList)=true then dn (0,1,0,0,0,1,true)else if(ByteArray.toList ⟨#[107,66]⟩==x.toList)=true then dn (0,1,0,0,0,1000,true)else if(ByteArray.toList ⟨#[115]⟩==x.toList)=true then dn (0,0,1,0,0,1,true)else if(ByteArray.toList ⟨#[109,105,110]⟩==x.toList)=true then dn (0,0,1,0,0,60,true)else if(ByteArray.toList ⟨#[104]⟩==x.toList)=true then dn (0,0,1,0,0,3600,true)else if(ByteArray.toList ⟨#[100,101,103]⟩==x.toList)=true then dn (0,0,0,1,0,1,true)else if(ByteArray.toList ⟨#[75]⟩==x.toList)=true then dn (0,0,0,0,1,1,true)else if(ByteArray.toList ⟨#[87]⟩==x.toList)=true then dn (1,0,(-1),0,0,1,true)else if(ByteArray.toList ⟨#[107,87]⟩==x.toList)=true then dn (1,0,(-1),0,0,1000,true)else if(ByteArray.toList ⟨#[66,112,115]⟩==x.toList)=true then dn (0,1,(-1),0,0,1,true)else dn (0,0,0,0,0,0,false)
theorem gq5{β:Type}(x)(dn:oP->Option β):aa8 x dn=(aa8 x some).bind dn:=by
 unfold aa8
 repeat' first|exact n0|refine n1 λ_=>?_|refine n2 ?_ ?_|refine n3 (λ_=>?_) λ_=>?_|rfl
theorem gj7(x):f7 E5 ca0 (loU E5 ca0 [0] lo0 20) 16 (eJ x).1 (eJ x).2 K=aa8 x (λz=>some (.c (wQ z))):=by kernel_rfl
noncomputable def xB(q:Nat)(x:oL):Option oP:=aa8 x some
theorem bt5(q:Nat):Lw E5 16 eJ wQ (xB q):=sof hW5 hX5 a8 (λ_=>(au4 a8 hX5 cB 20)) λx=>(gj7 x).trans (by rw[gq5]<;>rfl)
abbrev lA:Type:=ByteArray
abbrev jZ:Type:=Int
def aX:AR lA:=λx=>([st x],[])
def fr2(t:TT):lA:=(vS (ag t 0))
theorem as7:VI aX:=vd fr2 λ_=>rfl
def nU:jZ->CRes:=λz=>.ret (i64 z) []
def vJ{β:Type}(x:lA)(dn:jZ->Option β):Option β:=
 if(x.toList==ByteArray.toList ⟨#[124,124]⟩)=true then dn (1)else if(x.toList==ByteArray.toList ⟨#[38,38]⟩)=true then dn (2)else if(x.toList==ByteArray.toList ⟨#[60]⟩)=true then dn (4)else if(x.toList==ByteArray.toList ⟨#[60,61]⟩)=true then dn (4)else if(x.toList==ByteArray.toList ⟨#[62]⟩)=true then dn (4)else if(x.toList==ByteArray.toList ⟨#[62,61]⟩)=true then dn (4)else if(x.toList==ByteArray.toList ⟨#[61,61]⟩)=true then dn (4)else if(x.toList==ByteArray.toList ⟨#[33,61]⟩)=true then dn (4)else if(x.toList==ByteArray.toList ⟨#[43]⟩)=true then dn (5)else if(x.toList==ByteArray.toList ⟨#[45]⟩)=true then dn (5)else if(x.toList==ByteArray.toList ⟨#[42]⟩)=true then dn (6)else if(x.toList==ByteArray.toList ⟨#[47]⟩)=true then dn (6)else dn (0)
theorem ga2{β:Type}(x)(dn:jZ->Option β):vJ x dn=(vJ x some).bind dn:=by
 unfold vJ
 repeat' first|exact n0|refine n1 λ_=>?_|refine n2 ?_ ?_|refine n3 (λ_=>?_) λ_=>?_|rfl
theorem fu3(x):f7 E5 ca0 lo0 83 (aX x).1 (aX x).2 K=vJ x (λz=>some (.c (nU z))):=by kernel_rfl
noncomputable def oF(q:Nat)(x:lA):Option jZ:=vJ x some
theorem co5(q:Nat):Lw E5 83 aX nU (oF q):=sof hW5 hX5 a8 (λ_=>cB) λx=>(fu3 x).trans (by rw[ga2]<;>rfl)
abbrev iC:Type:=Int×SP
abbrev iB:Type:=Int×Int
def w9:AR iC:=λx=>([.ptr 0 0,i64 x.1],(hHP x.2))
def ht0(t:TT):iC:=((vI (ag t 1)),dHP t.2)
theorem vV:VI w9:=vd ht0 λ_=>rfl
def lH:iB->CRes:=λz=>.pan (.ifc 51 (.agg [i64 z.1,i64 z.2]))
def bq8{β:Type}(x:iC)(dn:iB->Option β):Option β:=
 if 0<=x.2.1/\x.2.1< ((x.2.2.2.1:Nat):Int)then dn (x.2.2.2.2.2.1 (Int.toNat x.2.1),x.1)else none
theorem hs7{β:Type}(x)(dn:iB->Option β):bq8 x dn=(bq8 x some).bind dn:=by
 unfold bq8
 repeat' first|exact n0|refine n1 λ_=>?_|refine n2 ?_ ?_|refine n3 (λ_=>?_) λ_=>?_|rfl
theorem hv8(x):f7 E5 ca0 lo0 34 (w9 x).1 (w9 x).2 K=bq8 x (λz=>some (.c (lH z))):=by kernel_rfl
noncomputable def fail(q:Nat)(x:iC):Option iB:=bq8 x some
theorem rP(q:Nat):Lw E5 34 w9 lH (fail q):=sof hW5 hX5 a8 (λ_=>cB) λx=>(hv8 x).trans (by rw[hs7]<;>rfl)
abbrev aM:Type:=SP
abbrev aL:Type:=Int×Int×ByteArray×Int×SP
def j7:AR aM:=λx=>([.ptr 0 0],(hHP x))
def ia1(t:TT):aM:=(dHP t.2)
theorem iD:VI j7:=vd ia1 λ_=>rfl
def y6:aL->CRes:=λz=>.ret (.agg [i64 z.1,i64 z.2.1,st z.2.2.1,i64 z.2.2.2.1]) (hHP z.2.2.2.2)
def bt9{β:Type}(x:aM)(dn:aL->Option β):Option β:=
 if 0<=x.1/\x.1< ((x.2.2.1:Nat):Int)then dn (x.2.2.2.1 (Int.toNat x.1),x.2.2.2.2.1 (Int.toNat x.1),x.2.2.2.2.2.1 (Int.toNat x.1),x.2.2.2.2.2.2.1 (Int.toNat x.1),x)else none
theorem hu5{β:Type}(x)(dn:aL->Option β):bt9 x dn=(bt9 x some).bind dn:=by
 unfold bt9
 repeat' first|exact n0|refine n1 λ_=>?_|refine n2 ?_ ?_|refine n3 (λ_=>?_) λ_=>?_|rfl
theorem hu8(x):f7 E5 ca0 lo0 18 (j7 x).1 (j7 x).2 K=bt9 x (λz=>some (.c (y6 z))):=by kernel_rfl
noncomputable def next(q:Nat)(x:aM):Option aL:=bt9 x some
theorem lU(q:Nat):Lw E5 18 j7 y6 (next q):=sof hW5 hX5 a8 (λ_=>cB) λx=>(hu8 x).trans (by rw[hu5]<;>rfl)
abbrev bn1:Type:=ByteArray×SP
abbrev bs0:Type:=Bool×SP
def wA:AR bn1:=λx=>([.ptr 0 0,st x.1],(hHP x.2))
def im1(t:TT):bn1:=((vS (ag t 1)),dHP t.2)
theorem eh2:VI wA:=vd im1 λ_=>rfl
def bs9:bs0->CRes:=λz=>.ret (bo z.1) (hHP z.2)
def fp7{β:Type}(x:bn1)(dn:bs0->Option β):Option β:=
 if 0<=x.2.1/\x.2.1< ((x.2.2.2.1:Nat):Int)then dn (ByteArray.toList (x.2.2.2.2.2.2.1 (Int.toNat x.2.1))==x.1.toList,x.2)else none
theorem il9{β:Type}(x)(dn:bs0->Option β):fp7 x dn=(fp7 x some).bind dn:=by
 unfold fp7
 repeat' first|exact n0|refine n1 λ_=>?_|refine n2 ?_ ?_|refine n3 (λ_=>?_) λ_=>?_|rfl
theorem im5(x):f7 E5 ca0 lo0 58 (wA x).1 (wA x).2 K=fp7 x (λz=>some (.c (bs9 z))):=by kernel_rfl
noncomputable def is(q:Nat)(x:bn1):Option bs0:=fp7 x some
theorem cy9(q:Nat):Lw E5 58 wA bs9 (is q):=sof hW5 hX5 a8 (λ_=>cB) λx=>(im5 x).trans (by rw[il9]<;>rfl)
abbrev mF:Type:=ByteArray×SP
abbrev mG:Type:=Bool×SP
def aC:AR mF:=λx=>([.ptr 0 0,st x.1],(hHP x.2))
def hx4(t:TT):mF:=((vS (ag t 1)),dHP t.2)
theorem ae0:VI aC:=vd hx4 λ_=>rfl
def lG:mG->CRes:=λz=>.ret (bo z.1) (hHP z.2)
def bq1{β:Type}(c_is:bn1->Option bs0)(x:mF)(dn:mG->Option β):Option β:=
 (c_is x).bind λz12=>if z12.1=true then dn (true,w (z12.2.1+1),z12.2.2)else dn (false,z12.2)
theorem ht3{β:Type}(c_is)(x)(dn:mG->Option β):bq1 c_is x dn=(bq1 c_is x some).bind dn:=by
 unfold bq1
 repeat' first|exact n0|refine n1 λ_=>?_|refine n2 ?_ ?_|refine n3 (λ_=>?_) λ_=>?_|rfl
theorem ic4(c_is)(x):f7 E5 (ftb 58 wA bs9 c_is ca0) lo0 44 (aC x).1 (aC x).2 K=bq1 (vf wA c_is) x (λz=>some (.c (lG z))):=by kernel_rfl
noncomputable def take(q:Nat)(x:mF):Option mG:=bq1 (is q) x some
theorem ax9(q:Nat):Lw E5 44 aC lG (take q):=sof hW5 hX5 (fk (cy9 q) a8) (λ_=>cB) λx=>(ic4 (is q) x).trans (by rw[eh2,ht3]<;>rfl)
abbrev jT:Type:=ByteArray×SP
abbrev iO:Type:=(SP)⊕(Int×Int)
def t8:AR jT:=λx=>([.ptr 0 0,st x.1],(hHP x.2))
def hs5(t:TT):jT:=((vS (ag t 1)),dHP t.2)
theorem vY:VI t8:=vd hs5 λ_=>rfl
def jA:iO->CRes:=Sum.elim (λz:SP=>.ret (.tup []) (hHP z)) (λz:Int×Int=>.pan (.ifc 51 (.agg [i64 z.1,i64 z.2])))
def bv6{β:Type}(c_take:mF->Option mG)(c_fail:iC->Option iB)(x:jT)(dn:iO->Option β):Option β:=
 (c_take x).bind λz12=>if(!z12.1)=true then(c_fail (11,z12.2)).bind λz25=>dn (.inr z25)else dn (.inl z12.2)
theorem hx5{β:Type}(c_take c_fail)(x)(dn:iO->Option β):bv6 c_take c_fail x dn=(bv6 c_take c_fail x some).bind dn:=by
 unfold bv6
 repeat' first|exact n0|refine n1 λ_=>?_|refine n2 ?_ ?_|refine n3 (λ_=>?_) λ_=>?_|rfl
theorem id0(c_take c_fail)(x):f7 E5 (ftb 44 aC lG c_take (ftb 34 w9 lH c_fail ca0)) lo0 32 (t8 x).1 (t8 x).2 K=bv6 (vf aC c_take) (vf w9 c_fail) x (λz=>some (.c (jA z))):=by kernel_rfl
noncomputable def mK(q:Nat)(x:jT):Option iO:=bv6 (take q) (fail q) x some
theorem rL(q:Nat):Lw E5 32 t8 jA (mK q):=sof hW5 hX5 (fk (ax9 q) (fk (rP q) a8)) (λ_=>cB) λx=>(id0 (take q) (fail q) x).trans (by rw[ae0,vV,hx5]<;>rfl)
abbrev rH:Type:=ByteArray×SP
abbrev rJ:Type:=(SP)⊕(Int×Int)
def cW:AR rH:=λx=>([.ptr 0 0,st x.1],(hHP x.2))
def hn9(t:TT):rH:=((vS (ag t 1)),dHP t.2)
theorem bl7:VI cW:=vd hn9 λ_=>rfl
def oX:rJ->CRes:=Sum.elim (λz:SP=>.ret (.tup []) (hHP z)) (λz:Int×Int=>.pan (.ifc 51 (.agg [i64 z.1,i64 z.2])))
def au2{β:Type}(c_is:bn1->Option bs0)(c_fail:iC->Option iB)(x:rH)(dn:rJ->Option β):Option β:=
 (c_is x).bind λz12=>if(!z12.1)=true then(c_fail (11,z12.2)).bind λz25=>dn (.inr z25)else if(z12.2.2.1==12)=true then(c_fail (2,z12.2)).bind λz38=>dn (.inr z38)else dn (.inl (w (z12.2.1+1),w (z12.2.2.1+1),z12.2.2.2))
theorem gz7{β:Type}(c_is c_fail)(x)(dn:rJ->Option β):au2 c_is c_fail x dn=(au2 c_is c_fail x some).bind dn:=by
 unfold au2
 repeat' first|exact n0|refine n1 λ_=>?_|refine n2 ?_ ?_|refine n3 (λ_=>?_) λ_=>?_|rfl
theorem gx7(c_is c_fail)(x):f7 E5 (ftb 58 wA bs9 c_is (ftb 34 w9 lH c_fail ca0)) lo0 47 (cW x).1 (cW x).2 K=au2 (vf wA c_is) (vf w9 c_fail) x (λz=>some (.c (oX z))):=by kernel_rfl
noncomputable def tP(q:Nat)(x:rH):Option rJ:=au2 (is q) (fail q) x some
theorem cg4(q:Nat):Lw E5 47 cW oX (tP q):=sof hW5 hX5 (fk (cy9 q) (fk (rP q) a8)) (λ_=>cB) λx=>(gx7 (is q) (fail q) x).trans (by rw[eh2,vV,gz7]<;>rfl)
abbrev xN:Type:=ByteArray
abbrev wK:Type:=Bool
def qB:AR xN:=λx=>([st x],[])
def ew5(t:TT):xN:=(vS (ag t 0))
theorem et0:VI qB:=vd ew5 λ_=>rfl
def bd7:wK->CRes:=λz=>.ret (bo z) []
def qX{β:Type}(c_Contains:af9->Option be0)(x:xN)(dn:wK->Option β):Option β:=
 if 1+x.size<=maxLen then if ByteArray.size (⟨#[32]⟩++x)+1<=maxLen then(c_Contains ({data:=List.toArray (List.append [32,112,114,111,99,101,100,117,114,101,32,108,101,116,32,105,102,32,101,108,115,101,32,114,101,112,101,97,116,32,119,97,105,116,32,97,119,97,105,116,32,119,105,116,104,105,110,32,114,101,113,117,105] [114,101,32,112,111,105,110,116,32,117,115,101,32,102,111,114,32,115,101,110,100,32,107,101,101,112,32,101,109,105,116,32,97,98,111,114,116,32,116,114,117,101,32,102,97,108,115,101,32,116,108,109,32])},⟨#[32]⟩++x++⟨#[32]⟩)).bind λz2=>dn z2 else none else none
theorem ez4{β:Type}(c_Contains)(x)(dn:wK->Option β):qX c_Contains x dn=(qX c_Contains x some).bind dn:=by
 unfold qX
 repeat' first|exact n0|refine n1 λ_=>?_|refine n2 ?_ ?_|refine n3 (λ_=>?_) λ_=>?_|rfl
theorem ey4(c_Contains)(x):f7 E5 (ftb 59 ah0 cm3 c_Contains ca0) lo0 45 (qB x).1 (qB x).2 K=qX (vf ah0 c_Contains) x (λz=>some (.c (bd7 z))):=by kernel_rfl
noncomputable def zS(q:Nat)(x:xN):Option wK:=qX (an7 q) x some
theorem ea8(q:Nat):Lw E5 45 qB bd7 (zS q):=sof hW5 hX5 (fk (ej8 q) a8) (λ_=>cB) λx=>(ey4 (an7 q) x).trans (by rw[et9,ez4]<;>rfl)
abbrev tF:Type:=SP
abbrev tC:Type:=(ByteArray×SP)⊕(Int×Int)
def fR:AR tF:=λx=>([.ptr 0 0],(hHP x))
def hz6(t:TT):tF:=(dHP t.2)
theorem bs7:VI fR:=vd hz6 λ_=>rfl
def wU:tC->CRes:=Sum.elim (λz:ByteArray×SP=>.ret (st z.1) (hHP z.2)) (λz:Int×Int=>.pan (.ifc 51 (.agg [i64 z.1,i64 z.2])))
def bw4{β:Type}(c_next:aM->Option aL)(c_reserved:xN->Option wK)(c_fail:iC->Option iB)(x:tF)(dn:tC->Option β):Option β:=
 (c_next x).bind λz11=>if(z11.1 !=1)=true then(c_fail (11,z11.2.2.2.2)).bind λz24=>dn (.inr z24)else(c_reserved z11.2.2.1).bind λz26=>if z26=true then(c_fail (11,z11.2.2.2.2)).bind λz39=>dn (.inr z39)else dn (.inl (z11.2.2.1,w (z11.2.2.2.2.1+1),z11.2.2.2.2.2))
theorem hv6{β:Type}(c_next c_reserved c_fail)(x)(dn:tC->Option β):bw4 c_next c_reserved c_fail x dn=(bw4 c_next c_reserved c_fail x some).bind dn:=by
 unfold bw4
 repeat' first|exact n0|refine n1 λ_=>?_|refine n2 ?_ ?_|refine n3 (λ_=>?_) λ_=>?_|rfl
theorem hz9(c_next c_reserved c_fail)(x):f7 E5 (ftb 18 j7 y6 c_next (ftb 45 qB bd7 c_reserved (ftb 34 w9 lH c_fail ca0))) lo0 33 (fR x).1 (fR x).2 K=bw4 (vf j7 c_next) (vf qB c_reserved) (vf w9 c_fail) x (λz=>some (.c (wU z))):=by kernel_rfl
noncomputable def name(q:Nat)(x:tF):Option tC:=bw4 (next q) (zS q) (fail q) x some
theorem ax2(q:Nat):Lw E5 33 fR wU (name q):=sof hW5 hX5 (fk (lU q) (fk (ea8 q) (fk (rP q) a8))) (λ_=>cB) λx=>(hz9 (next q) (zS q) (fail q) x).trans (by rw[iD,et0,vV,hv6]<;>rfl)
abbrev y5:Type:=SP
abbrev kS:Type:=(ByteArray×SP)⊕(Int×Int)
def bS:AR y5:=λx=>([.ptr 0 0],(hHP x))
def fx9(t:TT):y5:=(dHP t.2)
theorem av3:VI bS:=vd fx9 λ_=>rfl
def qL:kS->CRes:=Sum.elim (λz:ByteArray×SP=>.ret (st z.1) (hHP z.2)) (λz:Int×Int=>.pan (.ifc 51 (.agg [i64 z.1,i64 z.2])))
abbrev gC:Type:=ByteArray×Nat×Int×Nat×FI×FI×FS×FI×Int×Int×Nat×FS×FS×Int
abbrev tX:Type:=(Int×Int)⊕(ByteArray×SC2)
def kG(x:y5)(y:gC):St:={fr:=[V.ptr 0 0,V.junk,V.junk,st y.1]++jk 14++[V.sl 1 1 0 y.2.1,i64 y.2.2.1,i64 y.2.2.2.2.2.2.2.2.2.2.2.2.2]++jk 35,H:=hp [some (Chunk.blk [V.ro 4 y.2.2.2.1 λj=>[i64 (y.2.2.2.2.1 j),i64 (y.2.2.2.2.2.1 j),st (y.2.2.2.2.2.2.1 j),i64 (y.2.2.2.2.2.2.2.1 j)],i64 y.2.2.2.2.2.2.2.2.1,i64 y.2.2.2.2.2.2.2.2.2.1,V.sl 1 1 0 y.2.1,V.sl 2 1 0 y.2.2.2.2.2.2.2.2.2.2.1]),some (Chunk.row 9 1 y.2.1 λj=>[st (y.2.2.2.2.2.2.2.2.2.2.2.1 j)]),some (Chunk.row 9 1 y.2.2.2.2.2.2.2.2.2.2.1 λj=>[st (y.2.2.2.2.2.2.2.2.2.2.2.2.1 j)])],nx:=3,rt:=1,me:=46}
def dg7(s:St):gC:=((vS (s.fr.getD 3 .junk)),dB (s.fr.getD 18 .junk),vI (s.fr.getD 19 .junk),u7 (cb s 0 0),dTI (cb s 0 0) 0,dTI (cb s 0 0) 1,dTS (cb s 0 0) 2,dTI (cb s 0 0) 3,vI (cb s 0 1),vI (cb s 0 2),dB (cb s 0 4),dRS (s.H 1) 0,dRS (s.H 2) 0,vI (s.fr.getD 20 .junk))
theorem df1(x:y5):VL (kG x):=vl dg7 λ_=>rfl
def uN(x:y5):tX->Ex×St:=(Sum.elim (λz=>(Ex.panic (V.ifc 51 (V.agg [i64 z.1,i64 z.2])),{fr:=[V.junk]++jk 55,H:=hp [none],nx:=1,rt:=1,me:=46})) (λz=>(Ex.exit 0,{fr:=[V.ptr 0 0,V.junk,V.junk,st z.1]++jk 52,H:=hp [some (hPB z.2),some (hPV z.2),some (jf5 z.2)],nx:=3,rt:=1,me:=46})))
def dN{β:Type}(c_name:tF->Option tC)(c_fail:iC->Option iB)(x:y5)(y:gC)(nx:gC->Option β)(dn:tX->Option β):Option β:=
 if decide (y.2.2.2.2.2.2.2.2.2.2.2.2.2<y.2.2.1)=true then if 0<=y.2.2.2.2.2.2.2.2.2.2.2.2.2/\y.2.2.2.2.2.2.2.2.2.2.2.2.2< ((y.2.1:Nat):Int)then if 0+Int.toNat y.2.2.2.2.2.2.2.2.2.2.2.2.2<y.2.1/\1=1 then if(ByteArray.toList (y.2.2.2.2.2.2.2.2.2.2.2.1 (0+Int.toNat y.2.2.2.2.2.2.2.2.2.2.2.2.2))==y.1.toList)=true then(c_fail (4,y.2.2.2.2.2.2.2.2.1,y.2.2.2.2.2.2.2.2.2.1,y.2.2.2.1,y.2.2.2.2.1,y.2.2.2.2.2.1,y.2.2.2.2.2.2.1,y.2.2.2.2.2.2.2.1,y.2.1,y.2.2.2.2.2.2.2.2.2.2.2.1,y.2.2.2.2.2.2.2.2.2.2.1,y.2.2.2.2.2.2.2.2.2.2.2.2.1)).bind λz162=>dn (.inl z162)else nx (y.1,y.2.1,y.2.2.1,y.2.2.2.1,y.2.2.2.2.1,y.2.2.2.2.2.1,y.2.2.2.2.2.2.1,y.2.2.2.2.2.2.2.1,y.2.2.2.2.2.2.2.2.1,y.2.2.2.2.2.2.2.2.2.1,y.2.2.2.2.2.2.2.2.2.2.1,y.2.2.2.2.2.2.2.2.2.2.2.1,y.2.2.2.2.2.2.2.2.2.2.2.2.1,w (y.2.2.2.2.2.2.2.2.2.2.2.2.2+1))else none else none else dn (.inr (y.1,y.2.2.2.1,y.2.2.2.2.1,y.2.2.2.2.2.1,y.2.2.2.2.2.2.1,y.2.2.2.2.2.2.2.1,y.2.2.2.2.2.2.2.2.1,y.2.2.2.2.2.2.2.2.2.1,y.2.1,y.2.2.2.2.2.2.2.2.2.2.1,y.2.2.2.2.2.2.2.2.2.2.2.1,y.2.2.2.2.2.2.2.2.2.2.2.2.1))
theorem dg5{β:Type}(c_name c_fail)(x)(y)(nx:gC->Option β)(dn):dN c_name c_fail x y nx dn=(dN c_name c_fail x y (λy=>some (.inl y)) (λz=>some (.inr z))).bind λr=>Sum.elim nx dn r:=by
 unfold dN
 repeat' first|exact n0|refine n1 λ_=>?_|refine n2 ?_ ?_|refine n3 (λ_=>?_) λ_=>?_|rfl
theorem de5(c_name c_fail)(x)(y)(lo:f5):n8 E5 (ft2 33 fR wU c_name (ftb 34 w9 lH c_fail ca0)) lo 0 1835017 (h9 E5 46 0) (kG x y) (KCM [(0,9)] 4)=dN (vf fR c_name) (vf w9 c_fail) x y (λy=>lo 0 1835017 (h9 E5 46 0) (kG x y) (KCM [(0,9)] 4)) (λz=>some (.l (uN x z).1 (uN x z).2)):=by kernel_rfl
noncomputable def ag7(c_name:tF->Option tC)(c_fail:iC->Option iB)(q:Nat)(x:y5):gC->Option tX:=lpG (λy=>dN c_name c_fail x y (λy=>some (.inl y)) (λz=>some (.inr z))) q
theorem dq3(c_name)(h_name:Lw E5 33 fR wU c_name)(c_fail)(h_fail:Lw E5 34 w9 lH c_fail)(q:Nat)(x:y5):Ll E5 (h9 E5 46 0) (kG x) (uN x) (ag7 c_name c_fail q x):=
 slp (fk2 h_name (fk h_fail a8)) hX5 (λlo y=>(de5 c_name c_fail x y lo).trans (by rw[bs7,vV];exact dg5 _ _ _ _ _ _)) (λz=>by rcases z with z|z<;>kernel_rfl) q
def vE{β:Type}(c_name:tF->Option tC)(c_fail:iC->Option iB)(l_declare_l0:gC->Option tX)(x:y5)(dn:kS->Option β):Option β:=
 (c_name x).bind λz11=>Sum.elim (λz11a=>(l_declare_l0 (z11a.1,z11a.2.2.2.2.2.2.2.2.1,((z11a.2.2.2.2.2.2.2.2.1:Nat):Int),z11a.2.2.2.1,z11a.2.2.2.2.1,z11a.2.2.2.2.2.1,z11a.2.2.2.2.2.2.1,z11a.2.2.2.2.2.2.2.1,w (z11a.2.1-1),z11a.2.2.1,z11a.2.2.2.2.2.2.2.2.2.2.1,z11a.2.2.2.2.2.2.2.2.2.1,z11a.2.2.2.2.2.2.2.2.2.2.2,0)).bind λz108=>Sum.elim (λz108a=>dn (.inr z108a)) (λz108b=>if(((z108b.2.2.2.2.2.2.2.2.1:Nat):Int)==12)=true then(c_fail (2,z108b.2.2.2.2.2.2.1,z108b.2.2.2.2.2.2.2.1,z108b.2.1,z108b.2.2.1,z108b.2.2.2.1,z108b.2.2.2.2.1,z108b.2.2.2.2.2.1,z108b.2.2.2.2.2.2.2.2.1,z108b.2.2.2.2.2.2.2.2.2.2.1,z108b.2.2.2.2.2.2.2.2.2.1,z108b.2.2.2.2.2.2.2.2.2.2.2)).bind λz122=>dn (.inr z122)else if(z108b.2.2.2.2.2.2.2.2.1+1)*16<=d5/\z108b.2.2.2.2.2.2.2.2.1+1<=maxLen/\z108b.2.2.2.2.2.2.2.2.1<=z108b.2.2.2.2.2.2.2.2.1 then dn (.inl (z108b.1,w (z108b.2.2.2.2.2.2.1+1),z108b.2.2.2.2.2.2.2.1,z108b.2.1,z108b.2.2.1,z108b.2.2.2.1,z108b.2.2.2.2.1,z108b.2.2.2.2.2.1,z108b.2.2.2.2.2.2.2.2.1+1,λj=>if j<z108b.2.2.2.2.2.2.2.2.1 then z108b.2.2.2.2.2.2.2.2.2.2.1 j else z108b.1,z108b.2.2.2.2.2.2.2.2.2.1,z108b.2.2.2.2.2.2.2.2.2.2.2))else none) z108) (λz11b=>dn (.inr z11b)) z11
theorem fz7{β:Type}(c_name c_fail)(l_declare_l0)(x)(dn:kS->Option β):vE c_name c_fail l_declare_l0 x dn=(vE c_name c_fail l_declare_l0 x some).bind dn:=by
 unfold vE
 repeat' first|exact n0|refine n1 λ_=>?_|refine n2 ?_ ?_|refine n3 (λ_=>?_) λ_=>?_|rfl
theorem ga7(c_name c_fail)(l_declare_l0)(x):f7 E5 (ft2 33 fR wU c_name (ftb 34 w9 lH c_fail ca0)) (lt2 0 (λ_=>true) (h9 E5 46 0) (kG x) (uN x) l_declare_l0 lo0) 46 (bS x).1 (bS x).2 K=vE (vf fR c_name) (vf w9 c_fail) (lf (h9 E5 46 0) (kG x) l_declare_l0) x (λz=>some (.c (qL z))):=by kernel_rfl
noncomputable def pA(q:Nat)(x:y5):Option kS:=vE (name q) (fail q) (ag7 (name q) (fail q) q x) x some
theorem bc8(q:Nat):Lw E5 46 bS qL (pA q):=sof hW5 hX5 (fk2 (ax2 q) (fk (rP q) a8)) (λx=>(lk2 (dq3 (name q) (ax2 q) (fail q) (rP q) q x) cB)) λx=>(ga7 (name q) (fail q) (ag7 (name q) (fail q) q x) x).trans (by rw[bs7,vV,df1,fz7]<;>rfl)
abbrev xC:Type:=Int×Int×SP
abbrev xD:Type:=(Int×SP)⊕(Int×Int)
def iZ:AR xC:=λx=>([.ptr 0 0,i64 x.1,i64 x.2.1],(hHP x.2.2))
def gu9(t:TT):xC:=((vI (ag t 1)),vI (ag t 2),dHP t.2)
theorem cq3:VI iZ:=vd gu9 λ_=>rfl
def aa4:xD->CRes:=Sum.elim (λz:Int×SP=>.ret (i64 z.1) (hHP z.2)) (λz:Int×Int=>.pan (.ifc 51 (.agg [i64 z.1,i64 z.2])))
def ac1{β:Type}(c_next:aM->Option aL)(c_fail:iC->Option iB)(x:xC)(dn:xD->Option β):Option β:=
 (c_next x.2.2).bind λz11=>if(z11.1 !=2)=true then(c_fail (11,z11.2.2.2.2)).bind λz24=>dn (.inr z24)else if decide (z11.2.2.2.1<x.1)=true then(c_fail (5,z11.2.2.2.2)).bind λz37=>dn (.inr z37)else if decide (z11.2.2.2.1>x.2.1)=true then(c_fail (5,z11.2.2.2.2)).bind λz50=>dn (.inr z50)else dn (.inl (z11.2.2.2.1,w (z11.2.2.2.2.1+1),z11.2.2.2.2.2))
theorem gr6{β:Type}(c_next c_fail)(x)(dn:xD->Option β):ac1 c_next c_fail x dn=(ac1 c_next c_fail x some).bind dn:=by
 unfold ac1
 repeat' first|exact n0|refine n1 λ_=>?_|refine n2 ?_ ?_|refine n3 (λ_=>?_) λ_=>?_|rfl
theorem gp9(c_next c_fail)(x):f7 E5 (ftb 18 j7 y6 c_next (ftb 34 w9 lH c_fail ca0)) lo0 80 (iZ x).1 (iZ x).2 K=ac1 (vf j7 c_next) (vf w9 c_fail) x (λz=>some (.c (aa4 z))):=by kernel_rfl
noncomputable def oI(q:Nat)(x:xC):Option xD:=ac1 (next q) (fail q) x some
theorem br9(q:Nat):Lw E5 80 iZ aa4 (oI q):=sof hW5 hX5 (fk (lU q) (fk (rP q) a8)) (λ_=>cB) λx=>(gp9 (next q) (fail q) x).trans (by rw[iD,vV,gr6]<;>rfl)
end Go.Proofs.YtjfkkokeegpeiaaDoor
/- Expressions, lifted. -/
namespace Go.Proofs.YtjfkkokeegpeiaaDoor
open Go Go.Am Go.Proofs
set_option maxRecDepth 100000
theorem hf8{f:FuncId}{args:List V}{L H:List (Option Chunk)}{a b:Int}{s:ByteArray}{g:Nat->List V}(h:SC E5 f args L (.ret (.agg [i64 a,i64 b,st s,g8]) H)):SC E5 f args L (.ret (.agg [i64 a,i64 b,st s,.ro 4 0 g]) H):=
 SC.le h (Le.agg (LeL.cons (Le.refl _) (LeL.cons (Le.refl _) (LeL.cons (Le.refl _) (LeL.cons Le.nil_ro LeL.nil)))))
theorem ib0{f:FuncId}{args:List V}{L:List (Option Chunk)}{a b pa po:Int}{s:ByteArray}{tn nv np m:Nat}{tf vf pf g:Nat->List V}
 (h:SC E5 f args L (.ret (.agg [i64 a,i64 b,st s,.sl 3 4 0 m]) [some (.blk [.ro 4 tn tf,i64 pa,i64 po,.sl 1 1 0 nv,.sl 2 1 0 np]),some (.row 9 1 nv vf),some (.row 9 1 np pf),some (.row 40 4 m g)])):
 SC E5 f args L (.ret (.agg [i64 a,i64 b,st s,.ro 4 m g]) [some (.blk [.ro 4 tn tf,i64 pa,i64 po,.sl 1 1 0 nv,.sl 2 1 0 np]),some (.row 9 1 nv vf),some (.row 9 1 np pf)]):=by
 have h2:=SC.giveM (L2:=[some (.blk [.ro 4 tn tf,i64 pa,i64 po,.sl 1 1 0 nv,.sl 2 1 0 np]),some (.row 9 1 nv vf),some (.row 9 1 np pf)]) 3 h (by rfl) (by simp[V.bw,V.bw2,V.bw1,hp,V.pure,m8]);simpa[V.bw,V.bw2,V.bw1,hp]using h2
theorem de2{f:FuncId}{args:List V}{L:List (Option Chunk)}{a b pa po:Int}{s:ByteArray}{tn nv np m:Nat}{tf vf pf g:Nat->List V}
 (h:SC E5 f args L (.ret (.agg [i64 a,i64 b,st s,.sl 3 4 0 m]) [some (.blk [.ro 4 tn tf,i64 pa,i64 po,.sl 1 1 0 nv,.sl 2 1 0 np]),some (.row 9 1 nv vf),some (.row 9 1 np pf),some (.row 40 4 m g)])):
 SC E5 f args L (.ret (.agg [i64 a,i64 b,st s,.ro 4 m g]) [some (.blk [.ro 4 tn tf,i64 pa,i64 po,.sl 1 1 0 nv,.sl 2 1 0 np]),some (.row 9 1 nv vf),some (.row 9 1 np pf)]):=ib0 h
theorem il6{f:FuncId}{args:List V}{L:List (Option Chunk)}{a b pa po:Int}{s:ByteArray}{tn nv np m:Nat}{tf vf pf g:Nat->List V}
 (h:SC E5 f args L (.ret (.agg [i64 a,i64 b,st s,.sl 3 4 0 m]) [some (.blk [.ro 4 tn tf,i64 pa,i64 po,.sl 1 1 0 nv,.sl 2 1 0 np]),some (.row 9 1 nv vf),some (.row 9 1 np pf),some (.row 40 4 m g)])):
 SC E5 f args L (.ret (.agg [i64 a,i64 b,st s,.ro 4 m (λj=>fixC (g j))]) [some (.blk [.ro 4 tn tf,i64 pa,i64 po,.sl 1 1 0 nv,.sl 2 1 0 np]),some (.row 9 1 nv vf),some (.row 9 1 np pf)]):=
 SC.le (ib0 h) (Le.agg (LeL.cons (Le.refl _) (LeL.cons (Le.refl _) (LeL.cons (Le.refl _) (LeL.cons Le.ro_fix LeL.nil)))))
abbrev ba6:Type:=SP
abbrev pY:Type:=(Int×Int×ByteArray×SP)⊕(Int×Int)
def ba8:AR ba6:=λx=>([.ptr 0 0],(hHP x))
def bd3:pY->CRes:=Sum.elim (λz:Int×Int×ByteArray×SP=>.ret (.agg [i64 z.1,i64 z.2.1,st z.2.2.1,g8]) (hHP z.2.2.2)) (λz:Int×Int=>.pan (.ifc 51 (.agg [i64 z.1,i64 z.2])))
def pU{β:Type}(c_number:xC->Option xD)(c_next:aM->Option aL)(c_Lookup:oL->Option oP)(x:ba6)(dn:pY->Option β):Option β:=
 (c_number (0,2147483647,x)).bind λz13=>Sum.elim (λz13a=>(c_next z13a.2).bind λz25=>if(z25.1==1)=true then(c_Lookup z25.2.2.1).bind λz27=>if z27.2.2.2.2.2.2=true then dn (.inl (15,z13a.1,z25.2.2.1,w (z25.2.2.2.2.1+1),z25.2.2.2.2.2))else dn (.inl (15,z13a.1,⟨#[]⟩,z25.2.2.2.2))else dn (.inl (15,z13a.1,⟨#[]⟩,z25.2.2.2.2))) (λz13b=>dn (.inr z13b)) z13
theorem ew6{β:Type}(c_number c_next c_Lookup)(x)(dn:pY->Option β):pU c_number c_next c_Lookup x dn=(pU c_number c_next c_Lookup x some).bind dn:=by
 unfold pU
 repeat' first|exact n0|refine n1 λ_=>?_|refine n2 ?_ ?_|refine n3 (λ_=>?_) λ_=>?_|rfl
theorem es2(c_number c_next c_Lookup)(x):f7 E5 (ft2 80 iZ aa4 c_number (ftb 18 j7 y6 c_next (ftb 16 eJ wQ c_Lookup ca0))) lo0 81 (ba8 x).1 (ba8 x).2 K=pU (vf iZ c_number) (vf j7 c_next) (vf eJ c_Lookup) x (λz=>some (.c (bd3 z))):=by kernel_rfl
noncomputable def cl1(q:Nat)(x:ba6):Option pY:=pU (oI q) (next q) (xB q) x some
theorem dy7(q:Nat):Lw E5 81 ba8 bd3 (cl1 q):=sof hW5 hX5 (fk2 (br9 q) (fk (lU q) (fk (bt5 q) a8))) (λ_=>cB) λx=>(es2 (oI q) (next q) (xB q) x).trans (by rw[cq3,iD,bh5,ew6]<;>rfl)
abbrev qU:Type:=SP
abbrev qY:Type:=(Int×Int×ByteArray×Nat×FL×SP)⊕(Int×Int)
def eF:AR qU:=λx=>([.ptr 0 0],(hHP x))
def fr8(t:TT):qU:=(dHP t.2)
theorem ay1:VI eF:=vd fr8 λ_=>rfl
def qF:qY->CRes:=Sum.elim (λz:Int×Int×ByteArray×Nat×FL×SP=>.ret (.agg [i64 z.1,i64 z.2.1,st z.2.2.1,.ro 4 z.2.2.2.1 z.2.2.2.2.1]) (hHP z.2.2.2.2.2)) (λz:Int×Int=>.pan (.ifc 51 (.agg [i64 z.1,i64 z.2])))
def ba7:pY->qY:=Sum.elim (λz=>.inl (z.1,z.2.1,z.2.2.1,0,λ_=>[],z.2.2.2)) (λz=>.inr z)
theorem ej2{args:List V}{L:List (Option Chunk)}(z:pY)(h:SC E5 81 args L (bd3 z)):SC E5 81 args L (qF (ba7 z)):=by
 rcases z with z|z
 ·exact hf8 h
 ·exact h
noncomputable def kK(q:Nat)(x:qU):Option qY:=(cl1 q x).map ba7
theorem ai5(q:Nat):Lw E5 81 eF qF (kK q):=by
 intro x z h;obtain⟨y,hy,rfl⟩:=Option.map_eq_some_iff.1 h;exact ej2 y (dy7 q x y hy)
abbrev mM:Type:=Int×SP
abbrev mO:Type:=(Int×Int×ByteArray×Nat×FL×SP)⊕(Int×Int)
def x7:AR mM:=λx=>([.ptr 0 0,i64 x.1],(hHP x.2))
def ht5(t:TT):mM:=((vI (ag t 1)),dHP t.2)
theorem yX:VI x7:=vd ht5 λ_=>rfl
def iE:mO->CRes:=Sum.elim (λz:Int×Int×ByteArray×Nat×FL×SP=>.ret (.agg [i64 z.1,i64 z.2.1,st z.2.2.1,.ro 4 z.2.2.2.1 z.2.2.2.2.1]) (hHP z.2.2.2.2.2)) (λz:Int×Int=>.pan (.ifc 51 (.agg [i64 z.1,i64 z.2])))
abbrev yD:Type:=ByteArray×Int×SP
abbrev xV:Type:=(Int×Int×ByteArray×Nat×FL×SP)⊕(Int×Int)
def pD:AR yD:=λx=>([.ptr 0 0,st x.1,i64 x.2.1],(hHP x.2.2))
def gz6(t:TT):yD:=((vS (ag t 1)),vI (ag t 2),dHP t.2)
theorem do3:VI pD:=vd gz6 λ_=>rfl
def af3:xV->CRes:=Sum.elim (λz:Int×Int×ByteArray×Nat×FL×SP=>.ret (.agg [i64 z.1,i64 z.2.1,st z.2.2.1,.ro 4 z.2.2.2.1 z.2.2.2.2.1]) (hHP z.2.2.2.2.2)) (λz:Int×Int=>.pan (.ifc 51 (.agg [i64 z.1,i64 z.2])))
abbrev nF:Type:=SP
abbrev nA:Type:=(Int×Int×ByteArray×Nat×FL×SP)⊕(Int×Int)
def eL:AR nF:=λx=>([.ptr 0 0],(hHP x))
def ft0(t:TT):nF:=(dHP t.2)
theorem bq9:VI eL:=vd ft0 λ_=>rfl
def rE:nA->CRes:=Sum.elim (λz:Int×Int×ByteArray×Nat×FL×SP=>.ret (.agg [i64 z.1,i64 z.2.1,st z.2.2.1,.ro 4 z.2.2.2.1 z.2.2.2.2.1]) (hHP z.2.2.2.2.2)) (λz:Int×Int=>.pan (.ifc 51 (.agg [i64 z.1,i64 z.2])))
abbrev pE:Type:=Int×SP
abbrev bi7:Type:=(Int×Int×ByteArray×Nat×FL×SP)⊕(Int×Int)⊕(Int×Int×ByteArray×Int×Int×ByteArray×Nat×FL×Int×Int×ByteArray×Nat×FL×SP)
def dd3:AR pE:=λx=>([.ptr 0 0,i64 x.1],(hHP x.2))
def di1:bi7->CRes:=Sum.elim (λz:Int×Int×ByteArray×Nat×FL×SP=>.ret (.agg [i64 z.1,i64 z.2.1,st z.2.2.1,.ro 4 z.2.2.2.1 z.2.2.2.2.1]) (hHP z.2.2.2.2.2)) (Sum.elim (λz:Int×Int=>.pan (.ifc 51 (.agg [i64 z.1,i64 z.2]))) (λz:Int×Int×ByteArray×Int×Int×ByteArray×Nat×FL×Int×Int×ByteArray×Nat×FL×SP=>.ret (.agg [i64 z.1,i64 z.2.1,st z.2.2.1,.sl 3 4 0 2]) [some (.blk [.ro 4 z.2.2.2.2.2.2.2.2.2.2.2.2.2.2.2.1 (λj=>[i64 (z.2.2.2.2.2.2.2.2.2.2.2.2.2.2.2.2.1 j),i64 (z.2.2.2.2.2.2.2.2.2.2.2.2.2.2.2.2.2.1 j),st (z.2.2.2.2.2.2.2.2.2.2.2.2.2.2.2.2.2.2.1 j),i64 (z.2.2.2.2.2.2.2.2.2.2.2.2.2.2.2.2.2.2.2.1 j)]),i64 z.2.2.2.2.2.2.2.2.2.2.2.2.2.1,i64 z.2.2.2.2.2.2.2.2.2.2.2.2.2.2.1,.sl 1 1 0 z.2.2.2.2.2.2.2.2.2.2.2.2.2.2.2.2.2.2.2.2.1,.sl 2 1 0 z.2.2.2.2.2.2.2.2.2.2.2.2.2.2.2.2.2.2.2.2.2.2.1]),some (.row 9 1 z.2.2.2.2.2.2.2.2.2.2.2.2.2.2.2.2.2.2.2.2.1 (λj=>[st (z.2.2.2.2.2.2.2.2.2.2.2.2.2.2.2.2.2.2.2.2.2.1 j)])),some (.row 9 1 z.2.2.2.2.2.2.2.2.2.2.2.2.2.2.2.2.2.2.2.2.2.2.1 (λj=>[st (z.2.2.2.2.2.2.2.2.2.2.2.2.2.2.2.2.2.2.2.2.2.2.2 j)])),some (.row 40 4 2 (gP [[i64 z.2.2.2.1,i64 z.2.2.2.2.1,st z.2.2.2.2.2.1,.ro 4 z.2.2.2.2.2.2.1 z.2.2.2.2.2.2.2.1],[i64 z.2.2.2.2.2.2.2.2.1,i64 z.2.2.2.2.2.2.2.2.2.1,st z.2.2.2.2.2.2.2.2.2.2.1,.ro 4 z.2.2.2.2.2.2.2.2.2.2.2.1 z.2.2.2.2.2.2.2.2.2.2.2.2.1]]))]))
abbrev du5:Type:=ByteArray×Int×SP
abbrev aq4:Type:=(Int×Int×ByteArray×Int×Int×ByteArray×Nat×FL×SP)⊕(Int×Int)
def cq4:AR du5:=λx=>([.ptr 0 0,st x.1,i64 x.2.1],(hHP x.2.2))
def cm5:aq4->CRes:=Sum.elim (λz:Int×Int×ByteArray×Int×Int×ByteArray×Nat×FL×SP=>.ret (.agg [i64 z.1,i64 z.2.1,st z.2.2.1,.sl 3 4 0 1]) [some (.blk [.ro 4 z.2.2.2.2.2.2.2.2.2.2.1 (λj=>[i64 (z.2.2.2.2.2.2.2.2.2.2.2.1 j),i64 (z.2.2.2.2.2.2.2.2.2.2.2.2.1 j),st (z.2.2.2.2.2.2.2.2.2.2.2.2.2.1 j),i64 (z.2.2.2.2.2.2.2.2.2.2.2.2.2.2.1 j)]),i64 z.2.2.2.2.2.2.2.2.1,i64 z.2.2.2.2.2.2.2.2.2.1,.sl 1 1 0 z.2.2.2.2.2.2.2.2.2.2.2.2.2.2.2.1,.sl 2 1 0 z.2.2.2.2.2.2.2.2.2.2.2.2.2.2.2.2.2.1]),some (.row 9 1 z.2.2.2.2.2.2.2.2.2.2.2.2.2.2.2.1 (λj=>[st (z.2.2.2.2.2.2.2.2.2.2.2.2.2.2.2.2.1 j)])),some (.row 9 1 z.2.2.2.2.2.2.2.2.2.2.2.2.2.2.2.2.2.1 (λj=>[st (z.2.2.2.2.2.2.2.2.2.2.2.2.2.2.2.2.2.2 j)])),some (.row 40 4 1 (gP [[i64 z.2.2.2.1,i64 z.2.2.2.2.1,st z.2.2.2.2.2.1,.ro 4 z.2.2.2.2.2.2.1 z.2.2.2.2.2.2.2.1]]))]) (λz:Int×Int=>.pan (.ifc 51 (.agg [i64 z.1,i64 z.2])))
abbrev ch1:Type:=SP
abbrev xG:Type:=(Int×Int×ByteArray×Nat×FL×SP)⊕(Int×Int)⊕(Int×Int×ByteArray×SP)
def bb1:AR ch1:=λx=>([.ptr 0 0],(hHP x))
def bc9:xG->CRes:=Sum.elim (λz:Int×Int×ByteArray×Nat×FL×SP=>.ret (.agg [i64 z.1,i64 z.2.1,st z.2.2.1,.ro 4 z.2.2.2.1 z.2.2.2.2.1]) (hHP z.2.2.2.2.2)) (Sum.elim (λz:Int×Int=>.pan (.ifc 51 (.agg [i64 z.1,i64 z.2]))) (λz:Int×Int×ByteArray×SP=>.ret (.agg [i64 z.1,i64 z.2.1,st z.2.2.1,g8]) (hHP z.2.2.2)))
abbrev dX:Type:=(Nat×FI×FI×FS×FI×Int×Int×Nat×Nat×FS×FS×Int×Int×ByteArray×Nat×FL)⊕(Nat×FI×FI×FS×FI×Int×Int×Nat×Nat×FS×FS×ByteArray×Int×Int×ByteArray×Nat×FL×Int×Int×ByteArray×Nat×FL)
abbrev qS:Type:=(Nat×FI×FI×FS×FI×Int×Int×Nat×Nat×FS×FS×ByteArray×Int×Int×ByteArray×Nat×FL×Int×Int×ByteArray×Nat×FL)⊕(Int×Int)⊕(Nat×FI×FI×FS×FI×Int×Int×Nat×Nat×FS×FS×Int×Int×ByteArray×Nat×FL)
def ec3(x:pE)(y:Nat×FI×FI×FS×FI×Int×Int×Nat×Nat×FS×FS×Int×Int×ByteArray×Nat×FL):St:={fr:=[V.ptr 0 0,i64 x.1,V.junk,V.junk,V.ptr 3 0,V.ptr 4 0]++jk 61,H:=hp [some (hPB y),some (hPV y),some (hPQ y),some (Chunk.blk [i64 0,i64 0,st ⟨#[]⟩,g8]),some (Chunk.blk [i64 y.2.2.2.2.2.2.2.2.2.2.2.1,i64 y.2.2.2.2.2.2.2.2.2.2.2.2.1,st y.2.2.2.2.2.2.2.2.2.2.2.2.2.1,V.ro 4 y.2.2.2.2.2.2.2.2.2.2.2.2.2.2.1 y.2.2.2.2.2.2.2.2.2.2.2.2.2.2.2])],nx:=5,rt:=1,me:=79}
def dy8(s:St):Nat×FI×FI×FS×FI×Int×Int×Nat×Nat×FS×FS×Int×Int×ByteArray×Nat×FL:=((u7 (cb s 0 0)),dTI (cb s 0 0) 0,dTI (cb s 0 0) 1,dTS (cb s 0 0) 2,dTI (cb s 0 0) 3,vI (cb s 0 1),vI (cb s 0 2),dB (cb s 0 3),dB (cb s 0 4),dRS (s.H 1) 0,dRS (s.H 2) 0,vI (cb s 4 0),vI (cb s 4 1),vS (cb s 4 2),u7 (cb s 4 3),iU (cb s 4 3))
def dy2(x:pE)(y:Nat×FI×FI×FS×FI×Int×Int×Nat×Nat×FS×FS×ByteArray×Int×Int×ByteArray×Nat×FL×Int×Int×ByteArray×Nat×FL):St:={fr:=[V.ptr 0 0,i64 x.1,V.junk,V.junk,V.ptr 3 0,V.ptr 4 0]++jk 61,H:=hp [some (hPB y),some (hPV y),some (hPQ y),some (Chunk.blk [i64 0,i64 0,st ⟨#[]⟩,g8]),some (Chunk.blk [i64 20,i64 0,st y.2.2.2.2.2.2.2.2.2.2.2.1,V.sl 5 4 0 2]),some (Chunk.row 40 4 2 (gP [[i64 y.2.2.2.2.2.2.2.2.2.2.2.2.1,i64 y.2.2.2.2.2.2.2.2.2.2.2.2.2.1,st y.2.2.2.2.2.2.2.2.2.2.2.2.2.2.1,V.ro 4 y.2.2.2.2.2.2.2.2.2.2.2.2.2.2.2.1 y.2.2.2.2.2.2.2.2.2.2.2.2.2.2.2.2.1],[i64 y.2.2.2.2.2.2.2.2.2.2.2.2.2.2.2.2.2.1,i64 y.2.2.2.2.2.2.2.2.2.2.2.2.2.2.2.2.2.2.1,st y.2.2.2.2.2.2.2.2.2.2.2.2.2.2.2.2.2.2.2.1,V.ro 4 y.2.2.2.2.2.2.2.2.2.2.2.2.2.2.2.2.2.2.2.2.1 y.2.2.2.2.2.2.2.2.2.2.2.2.2.2.2.2.2.2.2.2.2]]))],nx:=6,rt:=1,me:=79}
def dt5(s:St):Nat×FI×FI×FS×FI×Int×Int×Nat×Nat×FS×FS×ByteArray×Int×Int×ByteArray×Nat×FL×Int×Int×ByteArray×Nat×FL:=((u7 (cb s 0 0)),dTI (cb s 0 0) 0,dTI (cb s 0 0) 1,dTS (cb s 0 0) 2,dTI (cb s 0 0) 3,vI (cb s 0 1),vI (cb s 0 2),dB (cb s 0 3),dB (cb s 0 4),dRS (s.H 1) 0,dRS (s.H 2) 0,vS (cb s 4 2),(vI (((chF (s.H 5)) 0).getD 0 .junk)),(vI (((chF (s.H 5)) 0).getD 1 .junk)),(vS (((chF (s.H 5)) 0).getD 2 .junk)),(u7 (((chF (s.H 5)) 0).getD 3 .junk)),(iU (((chF (s.H 5)) 0).getD 3 .junk)),(vI (((chF (s.H 5)) 1).getD 0 .junk)),(vI (((chF (s.H 5)) 1).getD 1 .junk)),(vS (((chF (s.H 5)) 1).getD 2 .junk)),(u7 (((chF (s.H 5)) 1).getD 3 .junk)),(iU (((chF (s.H 5)) 1).getD 3 .junk)))
def jB(x:pE):dX->St:=(Sum.elim (ec3 x) (dy2 x))
def eu9(s:St):dX:=(match s.nx==5 with|true=>(.inl (dy8 s)) |false=>(.inr (dt5 s)))
theorem fc1(x:pE):VL (jB x):=vl eu9 (λy=>by rcases y with y|y<;>rfl)
def qK(x:pE):qS->Ex×St:=(Sum.elim (λz=>(Ex.exit 1,{fr:=jk 4++[V.ptr 3 0,V.ptr 4 0]++jk 61,H:=hp [some (hPB z),some (hPV z),some (hPQ z),some (Chunk.blk [i64 0,i64 0,st ⟨#[]⟩,g8]),some (Chunk.blk [i64 20,i64 0,st z.2.2.2.2.2.2.2.2.2.2.2.1,V.sl 5 4 0 2]),some (Chunk.row 40 4 2 (gP [[i64 z.2.2.2.2.2.2.2.2.2.2.2.2.1,i64 z.2.2.2.2.2.2.2.2.2.2.2.2.2.1,st z.2.2.2.2.2.2.2.2.2.2.2.2.2.2.1,V.ro 4 z.2.2.2.2.2.2.2.2.2.2.2.2.2.2.2.1 z.2.2.2.2.2.2.2.2.2.2.2.2.2.2.2.2.1],[i64 z.2.2.2.2.2.2.2.2.2.2.2.2.2.2.2.2.2.1,i64 z.2.2.2.2.2.2.2.2.2.2.2.2.2.2.2.2.2.2.1,st z.2.2.2.2.2.2.2.2.2.2.2.2.2.2.2.2.2.2.2.1,V.ro 4 z.2.2.2.2.2.2.2.2.2.2.2.2.2.2.2.2.2.2.2.2.1 z.2.2.2.2.2.2.2.2.2.2.2.2.2.2.2.2.2.2.2.2.2]]))],nx:=6,rt:=1,me:=79})) (Sum.elim (λz=>(Ex.panic (V.ifc 51 (V.agg [i64 z.1,i64 z.2])),{fr:=[V.junk]++jk 66,H:=hp [none],nx:=1,rt:=1,me:=79})) (λz=>(Ex.exit 1,{fr:=jk 4++[V.ptr 3 0,V.ptr 4 0]++jk 61,H:=hp [some (hPB z),some (hPV z),some (hPQ z),some (Chunk.blk [i64 0,i64 0,st ⟨#[]⟩,g8]),some (Chunk.blk [i64 z.2.2.2.2.2.2.2.2.2.2.2.1,i64 z.2.2.2.2.2.2.2.2.2.2.2.2.1,st z.2.2.2.2.2.2.2.2.2.2.2.2.2.1,V.ro 4 z.2.2.2.2.2.2.2.2.2.2.2.2.2.2.1 z.2.2.2.2.2.2.2.2.2.2.2.2.2.2.2])],nx:=5,rt:=1,me:=79}))))
def mY{β:Type}(c_is:bn1->Option bs0)(c_unary:yD->Option xV)(c_primary:nF->Option nA)(c_expr:mM->Option mO)(c_next:aM->Option aL)(c_levelOf:lA->Option jZ)(x:pE)(y:Nat×FI×FI×FS×FI×Int×Int×Nat×Nat×FS×FS×Int×Int×ByteArray×Nat×FL)(nx:dX->Option β)(dn:qS->Option β):Option β:=
 (c_next (y.2.2.2.2.2.1,y.2.2.2.2.2.2.1,y.1,y.2.1,y.2.2.1,y.2.2.2.1,y.2.2.2.2.1,y.2.2.2.2.2.2.2.1,y.2.2.2.2.2.2.2.2.2.1,y.2.2.2.2.2.2.2.2.1,y.2.2.2.2.2.2.2.2.2.2.1)).bind λz765=>(c_levelOf z765.2.2.1).bind λz767=>if(z767==x.1)=true then(c_next z765.2.2.2.2).bind λz779=>if(z779.1==3)=true then(c_next z779.2.2.2.2).bind λz791=>(c_expr (w (x.1+1),w (z791.2.2.2.2.1+1),z791.2.2.2.2.2)).bind λz804=>Sum.elim (λz804a=>if(x.1==4)=true then dn (.inl (z804a.2.2.2.2.2.2.2.1,z804a.2.2.2.2.2.2.2.2.1,z804a.2.2.2.2.2.2.2.2.2.1,z804a.2.2.2.2.2.2.2.2.2.2.1,z804a.2.2.2.2.2.2.2.2.2.2.2.1,z804a.2.2.2.2.2.1,z804a.2.2.2.2.2.2.1,z804a.2.2.2.2.2.2.2.2.2.2.2.2.1,z804a.2.2.2.2.2.2.2.2.2.2.2.2.2.2.1,z804a.2.2.2.2.2.2.2.2.2.2.2.2.2.1,z804a.2.2.2.2.2.2.2.2.2.2.2.2.2.2.2,z791.2.2.1,y.2.2.2.2.2.2.2.2.2.2.2.1,y.2.2.2.2.2.2.2.2.2.2.2.2.1,y.2.2.2.2.2.2.2.2.2.2.2.2.2.1,y.2.2.2.2.2.2.2.2.2.2.2.2.2.2.1,y.2.2.2.2.2.2.2.2.2.2.2.2.2.2.2,z804a.1,z804a.2.1,z804a.2.2.1,z804a.2.2.2.1,z804a.2.2.2.2.1))else nx (.inr (z804a.2.2.2.2.2.2.2.1,z804a.2.2.2.2.2.2.2.2.1,z804a.2.2.2.2.2.2.2.2.2.1,z804a.2.2.2.2.2.2.2.2.2.2.1,z804a.2.2.2.2.2.2.2.2.2.2.2.1,z804a.2.2.2.2.2.1,z804a.2.2.2.2.2.2.1,z804a.2.2.2.2.2.2.2.2.2.2.2.2.1,z804a.2.2.2.2.2.2.2.2.2.2.2.2.2.2.1,z804a.2.2.2.2.2.2.2.2.2.2.2.2.2.1,z804a.2.2.2.2.2.2.2.2.2.2.2.2.2.2.2,z791.2.2.1,y.2.2.2.2.2.2.2.2.2.2.2.1,y.2.2.2.2.2.2.2.2.2.2.2.2.1,y.2.2.2.2.2.2.2.2.2.2.2.2.2.1,y.2.2.2.2.2.2.2.2.2.2.2.2.2.2.1,y.2.2.2.2.2.2.2.2.2.2.2.2.2.2.2,z804a.1,z804a.2.1,z804a.2.2.1,z804a.2.2.2.1,z804a.2.2.2.2.1))) (λz804b=>dn (.inr (.inl z804b))) z804 else dn (.inr (.inr (z779.2.2.2.2.2.2.1,z779.2.2.2.2.2.2.2.1,z779.2.2.2.2.2.2.2.2.1,z779.2.2.2.2.2.2.2.2.2.1,z779.2.2.2.2.2.2.2.2.2.2.1,z779.2.2.2.2.1,z779.2.2.2.2.2.1,z779.2.2.2.2.2.2.2.2.2.2.2.1,z779.2.2.2.2.2.2.2.2.2.2.2.2.2.1,z779.2.2.2.2.2.2.2.2.2.2.2.2.1,z779.2.2.2.2.2.2.2.2.2.2.2.2.2.2,y.2.2.2.2.2.2.2.2.2.2.2)))else dn (.inr (.inr (z765.2.2.2.2.2.2.1,z765.2.2.2.2.2.2.2.1,z765.2.2.2.2.2.2.2.2.1,z765.2.2.2.2.2.2.2.2.2.1,z765.2.2.2.2.2.2.2.2.2.2.1,z765.2.2.2.2.1,z765.2.2.2.2.2.1,z765.2.2.2.2.2.2.2.2.2.2.2.1,z765.2.2.2.2.2.2.2.2.2.2.2.2.2.1,z765.2.2.2.2.2.2.2.2.2.2.2.2.1,z765.2.2.2.2.2.2.2.2.2.2.2.2.2.2,y.2.2.2.2.2.2.2.2.2.2.2)))
theorem dz3{β:Type}(c_is c_unary)(c_primary c_expr)(c_next c_levelOf)(x)(y)(nx:dX->Option β)(dn):mY c_is c_unary c_primary c_expr c_next c_levelOf x y nx dn=(mY c_is c_unary c_primary c_expr c_next c_levelOf x y (λy=>some (.inl y)) (λz=>some (.inr z))).bind λr=>Sum.elim nx dn r:=by
 unfold mY
 repeat' first|exact n0|refine n1 λ_=>?_|refine n2 ?_ ?_|refine n3 (λ_=>?_) λ_=>?_|rfl
theorem ec7(c_is c_unary)(c_primary c_expr)(c_next c_levelOf)(x)(y)(lo:f5):n8 E5 (ftb 58 wA bs9 c_is (ft2 86 pD af3 c_unary (ft2 87 eL rE c_primary (ft2 79 x7 iE c_expr (ftb 18 j7 y6 c_next (ftb 83 aX nU c_levelOf ca0)))))) lo 1 51 (h9 E5 79 1) (jB x (.inl y)) (KCM [(1,48)] 16)=mY (vf wA c_is) (vf pD c_unary) (vf eL c_primary) (vf x7 c_expr) (vf j7 c_next) (vf aX c_levelOf) x y (λy=>lo 1 51 (h9 E5 79 1) (jB x y) (KCM [(1,48)] 16)) (λz=>some (.l (qK x z).1 (qK x z).2)):=by kernel_rfl
def mW{β:Type}(c_is:bn1->Option bs0)(c_unary:yD->Option xV)(c_primary:nF->Option nA)(c_expr:mM->Option mO)(c_next:aM->Option aL)(c_levelOf:lA->Option jZ)(x:pE)(y:Nat×FI×FI×FS×FI×Int×Int×Nat×Nat×FS×FS×ByteArray×Int×Int×ByteArray×Nat×FL×Int×Int×ByteArray×Nat×FL)(nx:dX->Option β)(dn:qS->Option β):Option β:=
 (c_next (y.2.2.2.2.2.1,y.2.2.2.2.2.2.1,y.1,y.2.1,y.2.2.1,y.2.2.2.1,y.2.2.2.2.1,y.2.2.2.2.2.2.2.1,y.2.2.2.2.2.2.2.2.2.1,y.2.2.2.2.2.2.2.2.1,y.2.2.2.2.2.2.2.2.2.2.1)).bind λz818=>(c_levelOf z818.2.2.1).bind λz820=>if(z820==x.1)=true then(c_next z818.2.2.2.2).bind λz832=>if(z832.1==3)=true then(c_next z832.2.2.2.2).bind λz844=>(c_expr (w (x.1+1),w (z844.2.2.2.2.1+1),z844.2.2.2.2.2)).bind λz857=>Sum.elim (λz857a=>if(x.1==4)=true then dn (.inl (z857a.2.2.2.2.2.2.2.1,z857a.2.2.2.2.2.2.2.2.1,z857a.2.2.2.2.2.2.2.2.2.1,z857a.2.2.2.2.2.2.2.2.2.2.1,z857a.2.2.2.2.2.2.2.2.2.2.2.1,z857a.2.2.2.2.2.1,z857a.2.2.2.2.2.2.1,z857a.2.2.2.2.2.2.2.2.2.2.2.2.1,z857a.2.2.2.2.2.2.2.2.2.2.2.2.2.2.1,z857a.2.2.2.2.2.2.2.2.2.2.2.2.2.1,z857a.2.2.2.2.2.2.2.2.2.2.2.2.2.2.2,z844.2.2.1,20,0,y.2.2.2.2.2.2.2.2.2.2.2.1,2,λj=>[i64 (if 0+j=0 then y.2.2.2.2.2.2.2.2.2.2.2.2.1 else y.2.2.2.2.2.2.2.2.2.2.2.2.2.2.2.2.2.1),i64 (if 0+j=0 then y.2.2.2.2.2.2.2.2.2.2.2.2.2.1 else y.2.2.2.2.2.2.2.2.2.2.2.2.2.2.2.2.2.2.1),st (if 0+j=0 then y.2.2.2.2.2.2.2.2.2.2.2.2.2.2.1 else y.2.2.2.2.2.2.2.2.2.2.2.2.2.2.2.2.2.2.2.1),V.ro 4 (if 0+j=0 then y.2.2.2.2.2.2.2.2.2.2.2.2.2.2.2.1 else y.2.2.2.2.2.2.2.2.2.2.2.2.2.2.2.2.2.2.2.2.1) λj_1=>if 0+j=0 then y.2.2.2.2.2.2.2.2.2.2.2.2.2.2.2.2.1 j_1 else y.2.2.2.2.2.2.2.2.2.2.2.2.2.2.2.2.2.2.2.2.2 j_1],z857a.1,z857a.2.1,z857a.2.2.1,z857a.2.2.2.1,z857a.2.2.2.2.1))else nx (.inr (z857a.2.2.2.2.2.2.2.1,z857a.2.2.2.2.2.2.2.2.1,z857a.2.2.2.2.2.2.2.2.2.1,z857a.2.2.2.2.2.2.2.2.2.2.1,z857a.2.2.2.2.2.2.2.2.2.2.2.1,z857a.2.2.2.2.2.1,z857a.2.2.2.2.2.2.1,z857a.2.2.2.2.2.2.2.2.2.2.2.2.1,z857a.2.2.2.2.2.2.2.2.2.2.2.2.2.2.1,z857a.2.2.2.2.2.2.2.2.2.2.2.2.2.1,z857a.2.2.2.2.2.2.2.2.2.2.2.2.2.2.2,z844.2.2.1,20,0,y.2.2.2.2.2.2.2.2.2.2.2.1,2,λj=>[i64 (if 0+j=0 then y.2.2.2.2.2.2.2.2.2.2.2.2.1 else y.2.2.2.2.2.2.2.2.2.2.2.2.2.2.2.2.2.1),i64 (if 0+j=0 then y.2.2.2.2.2.2.2.2.2.2.2.2.2.1 else y.2.2.2.2.2.2.2.2.2.2.2.2.2.2.2.2.2.2.1),st (if 0+j=0 then y.2.2.2.2.2.2.2.2.2.2.2.2.2.2.1 else y.2.2.2.2.2.2.2.2.2.2.2.2.2.2.2.2.2.2.2.1),V.ro 4 (if 0+j=0 then y.2.2.2.2.2.2.2.2.2.2.2.2.2.2.2.1 else y.2.2.2.2.2.2.2.2.2.2.2.2.2.2.2.2.2.2.2.2.1) λj_1=>if 0+j=0 then y.2.2.2.2.2.2.2.2.2.2.2.2.2.2.2.2.1 j_1 else y.2.2.2.2.2.2.2.2.2.2.2.2.2.2.2.2.2.2.2.2.2 j_1],z857a.1,z857a.2.1,z857a.2.2.1,z857a.2.2.2.1,z857a.2.2.2.2.1))) (λz857b=>dn (.inr (.inl z857b))) z857 else dn (.inl (z832.2.2.2.2.2.2.1,z832.2.2.2.2.2.2.2.1,z832.2.2.2.2.2.2.2.2.1,z832.2.2.2.2.2.2.2.2.2.1,z832.2.2.2.2.2.2.2.2.2.2.1,z832.2.2.2.2.1,z832.2.2.2.2.2.1,z832.2.2.2.2.2.2.2.2.2.2.2.1,z832.2.2.2.2.2.2.2.2.2.2.2.2.2.1,z832.2.2.2.2.2.2.2.2.2.2.2.2.1,z832.2.2.2.2.2.2.2.2.2.2.2.2.2.2,y.2.2.2.2.2.2.2.2.2.2.2))else dn (.inl (z818.2.2.2.2.2.2.1,z818.2.2.2.2.2.2.2.1,z818.2.2.2.2.2.2.2.2.1,z818.2.2.2.2.2.2.2.2.2.1,z818.2.2.2.2.2.2.2.2.2.2.1,z818.2.2.2.2.1,z818.2.2.2.2.2.1,z818.2.2.2.2.2.2.2.2.2.2.2.1,z818.2.2.2.2.2.2.2.2.2.2.2.2.2.1,z818.2.2.2.2.2.2.2.2.2.2.2.2.1,z818.2.2.2.2.2.2.2.2.2.2.2.2.2.2,y.2.2.2.2.2.2.2.2.2.2.2))
theorem dx5{β:Type}(c_is c_unary)(c_primary c_expr)(c_next c_levelOf)(x)(y)(nx:dX->Option β)(dn):mW c_is c_unary c_primary c_expr c_next c_levelOf x y nx dn=(mW c_is c_unary c_primary c_expr c_next c_levelOf x y (λy=>some (.inl y)) (λz=>some (.inr z))).bind λr=>Sum.elim nx dn r:=by
 unfold mW
 repeat' first|exact n0|refine n1 λ_=>?_|refine n2 ?_ ?_|refine n3 (λ_=>?_) λ_=>?_|rfl
theorem eh9(c_is c_unary)(c_primary c_expr)(c_next c_levelOf)(x)(y)(lo:f5):n8 E5 (ftb 58 wA bs9 c_is (ft2 86 pD af3 c_unary (ft2 87 eL rE c_primary (ft2 79 x7 iE c_expr (ftb 18 j7 y6 c_next (ftb 83 aX nU c_levelOf ca0)))))) lo 1 51 (h9 E5 79 1) (jB x (.inr y)) (KCM [(1,48)] 16)=mW (vf wA c_is) (vf pD c_unary) (vf eL c_primary) (vf x7 c_expr) (vf j7 c_next) (vf aX c_levelOf) x y (λy=>lo 1 51 (h9 E5 79 1) (jB x y) (KCM [(1,48)] 16)) (λz=>some (.l (qK x z).1 (qK x z).2)):=by kernel_rfl
noncomputable def wW(c_is:bn1->Option bs0)(c_unary:yD->Option xV)(c_primary:nF->Option nA)(c_expr:mM->Option mO)(c_next:aM->Option aL)(c_levelOf:lA->Option jZ)(q:Nat)(x:pE):dX->Option qS:=lpG (Sum.elim (λy=>mY c_is c_unary c_primary c_expr c_next c_levelOf x y (λy=>some (.inl y)) (λz=>some (.inr z))) (λy=>mW c_is c_unary c_primary c_expr c_next c_levelOf x y (λy=>some (.inl y)) (λz=>some (.inr z)))) q
theorem fd5(c_is)(h_is:Lw E5 58 wA bs9 c_is)(c_unary)(h_unary:Lw E5 86 pD af3 c_unary)(c_primary)(h_primary:Lw E5 87 eL rE c_primary)(c_expr)(h_expr:Lw E5 79 x7 iE c_expr)(c_next)(h_next:Lw E5 18 j7 y6 c_next)(c_levelOf)(h_levelOf:Lw E5 83 aX nU c_levelOf)(q:Nat)(x:pE):Ll E5 (h9 E5 79 1) (jB x) (qK x) (wW c_is c_unary c_primary c_expr c_next c_levelOf q x):=
 slp (fk h_is (fk2 h_unary (fk2 h_primary (fk2 h_expr (fk h_next (fk h_levelOf a8)))))) hX5 (λlo y=>by
  rcases y with y|y
  ·exact(ec7 c_is c_unary c_primary c_expr c_next c_levelOf x y lo).trans (by rw[eh2,do3,bq9,yX,iD,as7];exact dz3 _ _ _ _ _ _ _ _ _ _)
  ·exact(eh9 c_is c_unary c_primary c_expr c_next c_levelOf x y lo).trans (by rw[eh2,do3,bq9,yX,iD,as7];exact dx5 _ _ _ _ _ _ _ _ _ _)) (λz=>by rcases z with z|z|z<;>kernel_rfl) q
def xU{β:Type}(c_is:bn1->Option bs0)(c_unary:yD->Option xV)(c_primary:nF->Option nA)(c_expr:mM->Option mO)(c_next:aM->Option aL)(c_levelOf:lA->Option jZ)(l_exprR_l1:dX->Option qS)(x:pE)(dn:bi7->Option β):Option β:=
 if(x.1==3)=true then(c_is (⟨#[33]⟩,x.2)).bind λz12=>if z12.1=true then(c_unary (⟨#[33]⟩,3,z12.2)).bind λz26=>Sum.elim (λz26a=>dn (.inl z26a)) (λz26b=>dn (.inr (.inl z26b))) z26 else if(x.1==7)=true then(c_is (⟨#[45]⟩,z12.2)).bind λz40=>if z40.1=true then(c_unary (⟨#[45]⟩,7,z40.2)).bind λz54=>Sum.elim (λz54a=>dn (.inl z54a)) (λz54b=>dn (.inr (.inl z54b))) z54 else if(x.1==8)=true then(c_primary z40.2).bind λz67=>Sum.elim (λz67a=>dn (.inl z67a)) (λz67b=>dn (.inr (.inl z67b))) z67 else(c_expr (w (x.1+1),z40.2)).bind λz81=>Sum.elim (λz81a=>(l_exprR_l1 (.inl (z81a.2.2.2.2.2.2.2.1,z81a.2.2.2.2.2.2.2.2.1,z81a.2.2.2.2.2.2.2.2.2.1,z81a.2.2.2.2.2.2.2.2.2.2.1,z81a.2.2.2.2.2.2.2.2.2.2.2.1,z81a.2.2.2.2.2.1,z81a.2.2.2.2.2.2.1,z81a.2.2.2.2.2.2.2.2.2.2.2.2.1,z81a.2.2.2.2.2.2.2.2.2.2.2.2.2.2.1,z81a.2.2.2.2.2.2.2.2.2.2.2.2.2.1,z81a.2.2.2.2.2.2.2.2.2.2.2.2.2.2.2,z81a.1,z81a.2.1,z81a.2.2.1,z81a.2.2.2.1,z81a.2.2.2.2.1))).bind λz577=>Sum.elim (λz577a=>dn (.inr (.inr (20,0,z577a.2.2.2.2.2.2.2.2.2.2.2.1,z577a.2.2.2.2.2.2.2.2.2.2.2.2.1,z577a.2.2.2.2.2.2.2.2.2.2.2.2.2.1,z577a.2.2.2.2.2.2.2.2.2.2.2.2.2.2.1,z577a.2.2.2.2.2.2.2.2.2.2.2.2.2.2.2.1,z577a.2.2.2.2.2.2.2.2.2.2.2.2.2.2.2.2.1,z577a.2.2.2.2.2.2.2.2.2.2.2.2.2.2.2.2.2.1,z577a.2.2.2.2.2.2.2.2.2.2.2.2.2.2.2.2.2.2.1,z577a.2.2.2.2.2.2.2.2.2.2.2.2.2.2.2.2.2.2.2.1,z577a.2.2.2.2.2.2.2.2.2.2.2.2.2.2.2.2.2.2.2.2.1,z577a.2.2.2.2.2.2.2.2.2.2.2.2.2.2.2.2.2.2.2.2.2,z577a.2.2.2.2.2.1,z577a.2.2.2.2.2.2.1,z577a.1,z577a.2.1,z577a.2.2.1,z577a.2.2.2.1,z577a.2.2.2.2.1,z577a.2.2.2.2.2.2.2.1,z577a.2.2.2.2.2.2.2.2.2.1,z577a.2.2.2.2.2.2.2.2.1,z577a.2.2.2.2.2.2.2.2.2.2.1)))) (λz577b=>Sum.elim (λz577ba=>dn (.inr (.inl z577ba))) (λz577bb=>dn (.inl (z577bb.2.2.2.2.2.2.2.2.2.2.2.1,z577bb.2.2.2.2.2.2.2.2.2.2.2.2.1,z577bb.2.2.2.2.2.2.2.2.2.2.2.2.2.1,z577bb.2.2.2.2.2.2.2.2.2.2.2.2.2.2.1,z577bb.2.2.2.2.2.2.2.2.2.2.2.2.2.2.2,z577bb.2.2.2.2.2.1,z577bb.2.2.2.2.2.2.1,z577bb.1,z577bb.2.1,z577bb.2.2.1,z577bb.2.2.2.1,z577bb.2.2.2.2.1,z577bb.2.2.2.2.2.2.2.1,z577bb.2.2.2.2.2.2.2.2.2.1,z577bb.2.2.2.2.2.2.2.2.1,z577bb.2.2.2.2.2.2.2.2.2.2.1))) z577b) z577) (λz81b=>dn (.inr (.inl z81b))) z81 else if(x.1==8)=true then(c_primary z12.2).bind λz592=>Sum.elim (λz592a=>dn (.inl z592a)) (λz592b=>dn (.inr (.inl z592b))) z592 else(c_expr (w (x.1+1),z12.2)).bind λz606=>Sum.elim (λz606a=>(l_exprR_l1 (.inl (z606a.2.2.2.2.2.2.2.1,z606a.2.2.2.2.2.2.2.2.1,z606a.2.2.2.2.2.2.2.2.2.1,z606a.2.2.2.2.2.2.2.2.2.2.1,z606a.2.2.2.2.2.2.2.2.2.2.2.1,z606a.2.2.2.2.2.1,z606a.2.2.2.2.2.2.1,z606a.2.2.2.2.2.2.2.2.2.2.2.2.1,z606a.2.2.2.2.2.2.2.2.2.2.2.2.2.2.1,z606a.2.2.2.2.2.2.2.2.2.2.2.2.2.1,z606a.2.2.2.2.2.2.2.2.2.2.2.2.2.2.2,z606a.1,z606a.2.1,z606a.2.2.1,z606a.2.2.2.1,z606a.2.2.2.2.1))).bind λz607=>Sum.elim (λz607a=>dn (.inr (.inr (20,0,z607a.2.2.2.2.2.2.2.2.2.2.2.1,z607a.2.2.2.2.2.2.2.2.2.2.2.2.1,z607a.2.2.2.2.2.2.2.2.2.2.2.2.2.1,z607a.2.2.2.2.2.2.2.2.2.2.2.2.2.2.1,z607a.2.2.2.2.2.2.2.2.2.2.2.2.2.2.2.1,z607a.2.2.2.2.2.2.2.2.2.2.2.2.2.2.2.2.1,z607a.2.2.2.2.2.2.2.2.2.2.2.2.2.2.2.2.2.1,z607a.2.2.2.2.2.2.2.2.2.2.2.2.2.2.2.2.2.2.1,z607a.2.2.2.2.2.2.2.2.2.2.2.2.2.2.2.2.2.2.2.1,z607a.2.2.2.2.2.2.2.2.2.2.2.2.2.2.2.2.2.2.2.2.1,z607a.2.2.2.2.2.2.2.2.2.2.2.2.2.2.2.2.2.2.2.2.2,z607a.2.2.2.2.2.1,z607a.2.2.2.2.2.2.1,z607a.1,z607a.2.1,z607a.2.2.1,z607a.2.2.2.1,z607a.2.2.2.2.1,z607a.2.2.2.2.2.2.2.1,z607a.2.2.2.2.2.2.2.2.2.1,z607a.2.2.2.2.2.2.2.2.1,z607a.2.2.2.2.2.2.2.2.2.2.1)))) (λz607b=>Sum.elim (λz607ba=>dn (.inr (.inl z607ba))) (λz607bb=>dn (.inl (z607bb.2.2.2.2.2.2.2.2.2.2.2.1,z607bb.2.2.2.2.2.2.2.2.2.2.2.2.1,z607bb.2.2.2.2.2.2.2.2.2.2.2.2.2.1,z607bb.2.2.2.2.2.2.2.2.2.2.2.2.2.2.1,z607bb.2.2.2.2.2.2.2.2.2.2.2.2.2.2.2,z607bb.2.2.2.2.2.1,z607bb.2.2.2.2.2.2.1,z607bb.1,z607bb.2.1,z607bb.2.2.1,z607bb.2.2.2.1,z607bb.2.2.2.2.1,z607bb.2.2.2.2.2.2.2.1,z607bb.2.2.2.2.2.2.2.2.2.1,z607bb.2.2.2.2.2.2.2.2.1,z607bb.2.2.2.2.2.2.2.2.2.2.1))) z607b) z607) (λz606b=>dn (.inr (.inl z606b))) z606 else if(x.1==7)=true then(c_is (⟨#[45]⟩,x.2)).bind λz623=>if z623.1=true then(c_unary (⟨#[45]⟩,7,z623.2)).bind λz637=>Sum.elim (λz637a=>dn (.inl z637a)) (λz637b=>dn (.inr (.inl z637b))) z637 else if(x.1==8)=true then(c_primary z623.2).bind λz650=>Sum.elim (λz650a=>dn (.inl z650a)) (λz650b=>dn (.inr (.inl z650b))) z650 else(c_expr (w (x.1+1),z623.2)).bind λz664=>Sum.elim (λz664a=>(l_exprR_l1 (.inl (z664a.2.2.2.2.2.2.2.1,z664a.2.2.2.2.2.2.2.2.1,z664a.2.2.2.2.2.2.2.2.2.1,z664a.2.2.2.2.2.2.2.2.2.2.1,z664a.2.2.2.2.2.2.2.2.2.2.2.1,z664a.2.2.2.2.2.1,z664a.2.2.2.2.2.2.1,z664a.2.2.2.2.2.2.2.2.2.2.2.2.1,z664a.2.2.2.2.2.2.2.2.2.2.2.2.2.2.1,z664a.2.2.2.2.2.2.2.2.2.2.2.2.2.1,z664a.2.2.2.2.2.2.2.2.2.2.2.2.2.2.2,z664a.1,z664a.2.1,z664a.2.2.1,z664a.2.2.2.1,z664a.2.2.2.2.1))).bind λz665=>Sum.elim (λz665a=>dn (.inr (.inr (20,0,z665a.2.2.2.2.2.2.2.2.2.2.2.1,z665a.2.2.2.2.2.2.2.2.2.2.2.2.1,z665a.2.2.2.2.2.2.2.2.2.2.2.2.2.1,z665a.2.2.2.2.2.2.2.2.2.2.2.2.2.2.1,z665a.2.2.2.2.2.2.2.2.2.2.2.2.2.2.2.1,z665a.2.2.2.2.2.2.2.2.2.2.2.2.2.2.2.2.1,z665a.2.2.2.2.2.2.2.2.2.2.2.2.2.2.2.2.2.1,z665a.2.2.2.2.2.2.2.2.2.2.2.2.2.2.2.2.2.2.1,z665a.2.2.2.2.2.2.2.2.2.2.2.2.2.2.2.2.2.2.2.1,z665a.2.2.2.2.2.2.2.2.2.2.2.2.2.2.2.2.2.2.2.2.1,z665a.2.2.2.2.2.2.2.2.2.2.2.2.2.2.2.2.2.2.2.2.2,z665a.2.2.2.2.2.1,z665a.2.2.2.2.2.2.1,z665a.1,z665a.2.1,z665a.2.2.1,z665a.2.2.2.1,z665a.2.2.2.2.1,z665a.2.2.2.2.2.2.2.1,z665a.2.2.2.2.2.2.2.2.2.1,z665a.2.2.2.2.2.2.2.2.1,z665a.2.2.2.2.2.2.2.2.2.2.1)))) (λz665b=>Sum.elim (λz665ba=>dn (.inr (.inl z665ba))) (λz665bb=>dn (.inl (z665bb.2.2.2.2.2.2.2.2.2.2.2.1,z665bb.2.2.2.2.2.2.2.2.2.2.2.2.1,z665bb.2.2.2.2.2.2.2.2.2.2.2.2.2.1,z665bb.2.2.2.2.2.2.2.2.2.2.2.2.2.2.1,z665bb.2.2.2.2.2.2.2.2.2.2.2.2.2.2.2,z665bb.2.2.2.2.2.1,z665bb.2.2.2.2.2.2.1,z665bb.1,z665bb.2.1,z665bb.2.2.1,z665bb.2.2.2.1,z665bb.2.2.2.2.1,z665bb.2.2.2.2.2.2.2.1,z665bb.2.2.2.2.2.2.2.2.2.1,z665bb.2.2.2.2.2.2.2.2.1,z665bb.2.2.2.2.2.2.2.2.2.2.1))) z665b) z665) (λz664b=>dn (.inr (.inl z664b))) z664 else if(x.1==8)=true then(c_primary x.2).bind λz680=>Sum.elim (λz680a=>dn (.inl z680a)) (λz680b=>dn (.inr (.inl z680b))) z680 else(c_expr (w (x.1+1),x.2)).bind λz694=>Sum.elim (λz694a=>(l_exprR_l1 (.inl (z694a.2.2.2.2.2.2.2.1,z694a.2.2.2.2.2.2.2.2.1,z694a.2.2.2.2.2.2.2.2.2.1,z694a.2.2.2.2.2.2.2.2.2.2.1,z694a.2.2.2.2.2.2.2.2.2.2.2.1,z694a.2.2.2.2.2.1,z694a.2.2.2.2.2.2.1,z694a.2.2.2.2.2.2.2.2.2.2.2.2.1,z694a.2.2.2.2.2.2.2.2.2.2.2.2.2.2.1,z694a.2.2.2.2.2.2.2.2.2.2.2.2.2.1,z694a.2.2.2.2.2.2.2.2.2.2.2.2.2.2.2,z694a.1,z694a.2.1,z694a.2.2.1,z694a.2.2.2.1,z694a.2.2.2.2.1))).bind λz695=>Sum.elim (λz695a=>dn (.inr (.inr (20,0,z695a.2.2.2.2.2.2.2.2.2.2.2.1,z695a.2.2.2.2.2.2.2.2.2.2.2.2.1,z695a.2.2.2.2.2.2.2.2.2.2.2.2.2.1,z695a.2.2.2.2.2.2.2.2.2.2.2.2.2.2.1,z695a.2.2.2.2.2.2.2.2.2.2.2.2.2.2.2.1,z695a.2.2.2.2.2.2.2.2.2.2.2.2.2.2.2.2.1,z695a.2.2.2.2.2.2.2.2.2.2.2.2.2.2.2.2.2.1,z695a.2.2.2.2.2.2.2.2.2.2.2.2.2.2.2.2.2.2.1,z695a.2.2.2.2.2.2.2.2.2.2.2.2.2.2.2.2.2.2.2.1,z695a.2.2.2.2.2.2.2.2.2.2.2.2.2.2.2.2.2.2.2.2.1,z695a.2.2.2.2.2.2.2.2.2.2.2.2.2.2.2.2.2.2.2.2.2,z695a.2.2.2.2.2.1,z695a.2.2.2.2.2.2.1,z695a.1,z695a.2.1,z695a.2.2.1,z695a.2.2.2.1,z695a.2.2.2.2.1,z695a.2.2.2.2.2.2.2.1,z695a.2.2.2.2.2.2.2.2.2.1,z695a.2.2.2.2.2.2.2.2.1,z695a.2.2.2.2.2.2.2.2.2.2.1)))) (λz695b=>Sum.elim (λz695ba=>dn (.inr (.inl z695ba))) (λz695bb=>dn (.inl (z695bb.2.2.2.2.2.2.2.2.2.2.2.1,z695bb.2.2.2.2.2.2.2.2.2.2.2.2.1,z695bb.2.2.2.2.2.2.2.2.2.2.2.2.2.1,z695bb.2.2.2.2.2.2.2.2.2.2.2.2.2.2.1,z695bb.2.2.2.2.2.2.2.2.2.2.2.2.2.2.2,z695bb.2.2.2.2.2.1,z695bb.2.2.2.2.2.2.1,z695bb.1,z695bb.2.1,z695bb.2.2.1,z695bb.2.2.2.1,z695bb.2.2.2.2.1,z695bb.2.2.2.2.2.2.2.1,z695bb.2.2.2.2.2.2.2.2.2.1,z695bb.2.2.2.2.2.2.2.2.1,z695bb.2.2.2.2.2.2.2.2.2.2.1))) z695b) z695) (λz694b=>dn (.inr (.inl z694b))) z694
theorem hc3{β:Type}(c_is c_unary)(c_primary c_expr)(c_next c_levelOf)(l_exprR_l1)(x)(dn:bi7->Option β):xU c_is c_unary c_primary c_expr c_next c_levelOf l_exprR_l1 x dn=(xU c_is c_unary c_primary c_expr c_next c_levelOf l_exprR_l1 x some).bind dn:=by
 unfold xU
 repeat' first|exact n0|refine n1 λ_=>?_|refine n2 ?_ ?_|refine n3 (λ_=>?_) λ_=>?_|rfl
theorem ha5(c_is c_unary)(c_primary c_expr)(c_next c_levelOf)(l_exprR_l1)(x):f7 E5 (ftb 58 wA bs9 c_is (ft2 86 pD af3 c_unary (ft2 87 eL rE c_primary (ft2 79 x7 iE c_expr (ftb 18 j7 y6 c_next (ftb 83 aX nU c_levelOf ca0)))))) (lt3 1 (λ_=>true) (h9 E5 79 1) (jB x) (qK x) l_exprR_l1 lo0) 79 (dd3 x).1 (dd3 x).2 K=xU (vf wA c_is) (vf pD c_unary) (vf eL c_primary) (vf x7 c_expr) (vf j7 c_next) (vf aX c_levelOf) (lf (h9 E5 79 1) (jB x) l_exprR_l1) x (λz=>some (.c (di1 z))):=by kernel_rfl
theorem hn7(c_is)(h_is:Lw E5 58 wA bs9 c_is)(c_unary)(h_unary:Lw E5 86 pD af3 c_unary)(c_primary)(h_primary:Lw E5 87 eL rE c_primary)(c_expr)(h_expr:Lw E5 79 x7 iE c_expr)(c_next)(h_next:Lw E5 18 j7 y6 c_next)(c_levelOf)(h_levelOf:Lw E5 83 aX nU c_levelOf)(q:Nat):Lw E5 79 dd3 di1 λx=>xU c_is c_unary c_primary c_expr c_next c_levelOf (wW c_is c_unary c_primary c_expr c_next c_levelOf q x) x some:=sof hW5 hX5 (fk h_is (fk2 h_unary (fk2 h_primary (fk2 h_expr (fk h_next (fk h_levelOf a8)))))) (λx=>(lk3 (fd5 c_is h_is c_unary h_unary c_primary h_primary c_expr h_expr c_next h_next c_levelOf h_levelOf q x) cB)) λx=>(ha5 c_is c_unary c_primary c_expr c_next c_levelOf (wW c_is c_unary c_primary c_expr c_next c_levelOf q x) x).trans (by rw[eh2,do3,bq9,yX,iD,as7,fc1,hc3]<;>rfl)
def sN{β:Type}(c_opens:rH->Option rJ)(c_expr:mM->Option mO)(x:du5)(dn:aq4->Option β):Option β:=
 (c_opens (x.1,x.2.2)).bind λz12=>Sum.elim (λz12a=>(c_expr (x.2.1,z12a)).bind λz25=>Sum.elim (λz25a=>dn (.inl (19,0,x.1,z25a.1,z25a.2.1,z25a.2.2.1,z25a.2.2.2.1,z25a.2.2.2.2.1,z25a.2.2.2.2.2.1,w (z25a.2.2.2.2.2.2.1-1),z25a.2.2.2.2.2.2.2))) (λz25b=>dn (.inr z25b)) z25) (λz12b=>dn (.inr z12b)) z12
theorem go1{β:Type}(c_opens c_expr)(x)(dn:aq4->Option β):sN c_opens c_expr x dn=(sN c_opens c_expr x some).bind dn:=by
 unfold sN
 repeat' first|exact n0|refine n1 λ_=>?_|refine n2 ?_ ?_|refine n3 (λ_=>?_) λ_=>?_|rfl
theorem ge4(c_opens c_expr)(x):f7 E5 (ft2 47 cW oX c_opens (ft2 79 x7 iE c_expr ca0)) lo0 86 (cq4 x).1 (cq4 x).2 K=sN (vf cW c_opens) (vf x7 c_expr) x (λz=>some (.c (cm5 z))):=by kernel_rfl
theorem gq8(c_opens)(h_opens:Lw E5 47 cW oX c_opens)(c_expr)(h_expr:Lw E5 79 x7 iE c_expr)(q:Nat):Lw E5 86 cq4 cm5 λx=>sN c_opens c_expr x some:=sof hW5 hX5 (fk2 h_opens (fk2 h_expr a8)) (λ_=>cB) λx=>(ge4 c_opens c_expr x).trans (by rw[bl7,yX,go1]<;>rfl)
def jQ{β:Type}(c_next:aM->Option aL)(c_literal:qU->Option qY)(c_take:mF->Option mG)(c_must:jT->Option iO)(c_name:tF->Option tC)(c_is:bn1->Option bs0)(c_opens:rH->Option rJ)(c_expr:mM->Option mO)(x:ch1)(dn:xG->Option β):Option β:=
 (c_next x).bind λz11=>if(z11.1==2)=true then(c_literal z11.2.2.2.2).bind λz23=>Sum.elim (λz23a=>dn (.inl z23a)) (λz23b=>dn (.inr (.inl z23b))) z23 else(c_take (⟨#[116,114,117,101]⟩,z11.2.2.2.2)).bind λz37=>if z37.1=true then dn (.inr (.inr (16,1,⟨#[]⟩,z37.2)))else(c_take (⟨#[102,97,108,115,101]⟩,z37.2)).bind λz50=>if z50.1=true then dn (.inr (.inr (16,0,⟨#[]⟩,z50.2)))else(c_take (⟨#[116,108,109]⟩,z50.2)).bind λz63=>if z63.1=true then(c_must (⟨#[46]⟩,z63.2)).bind λz76=>Sum.elim (λz76a=>(c_name z76a).bind λz88=>Sum.elim (λz88a=>dn (.inr (.inr (18,0,z88a)))) (λz88b=>dn (.inr (.inl z88b))) z88) (λz76b=>dn (.inr (.inl z76b))) z76 else(c_is (⟨#[40]⟩,z63.2)).bind λz103=>if z103.1=true then(c_opens (⟨#[40]⟩,z103.2)).bind λz116=>Sum.elim (λz116a=>(c_expr (1,z116a)).bind λz129=>Sum.elim (λz129a=>(c_must (⟨#[41]⟩,z129a.2.2.2.2.2)).bind λz142=>Sum.elim (λz142a=>dn (.inl (z129a.1,z129a.2.1,z129a.2.2.1,z129a.2.2.2.1,z129a.2.2.2.2.1,z142a.1,w (z142a.2.1-1),z142a.2.2))) (λz142b=>dn (.inr (.inl z142b))) z142) (λz129b=>dn (.inr (.inl z129b))) z129) (λz116b=>dn (.inr (.inl z116b))) z116 else(c_name z103.2).bind λz157=>Sum.elim (λz157a=>dn (.inr (.inr (17,0,z157a)))) (λz157b=>dn (.inr (.inl z157b))) z157
theorem et3{β:Type}(c_next c_literal)(c_take c_must)(c_name c_is)(c_opens c_expr)(x)(dn:xG->Option β):jQ c_next c_literal c_take c_must c_name c_is c_opens c_expr x dn=(jQ c_next c_literal c_take c_must c_name c_is c_opens c_expr x some).bind dn:=by
 unfold jQ
 repeat' first|exact n0|refine n1 λ_=>?_|refine n2 ?_ ?_|refine n3 (λ_=>?_) λ_=>?_|rfl
theorem fa5(c_next c_literal)(c_take c_must)(c_name c_is)(c_opens c_expr)(x):f7 E5 (ftb 18 j7 y6 c_next (ft2 81 eF qF c_literal (ftb 44 aC lG c_take (ft2 32 t8 jA c_must (ft2 33 fR wU c_name (ftb 58 wA bs9 c_is (ft2 47 cW oX c_opens (ft2 79 x7 iE c_expr ca0)))))))) lo0 87 (bb1 x).1 (bb1 x).2 K=jQ (vf j7 c_next) (vf eF c_literal) (vf aC c_take) (vf t8 c_must) (vf fR c_name) (vf wA c_is) (vf cW c_opens) (vf x7 c_expr) x (λz=>some (.c (bc9 z))):=by kernel_rfl
theorem fc4(c_next)(h_next:Lw E5 18 j7 y6 c_next)(c_literal)(h_literal:Lw E5 81 eF qF c_literal)(c_take)(h_take:Lw E5 44 aC lG c_take)(c_must)(h_must:Lw E5 32 t8 jA c_must)(c_name)(h_name:Lw E5 33 fR wU c_name)(c_is)(h_is:Lw E5 58 wA bs9 c_is)(c_opens)(h_opens:Lw E5 47 cW oX c_opens)(c_expr)(h_expr:Lw E5 79 x7 iE c_expr)(q:Nat):Lw E5 87 bb1 bc9 λx=>jQ c_next c_literal c_take c_must c_name c_is c_opens c_expr x some:=sof hW5 hX5 (fk h_next (fk2 h_literal (fk h_take (fk2 h_must (fk2 h_name (fk h_is (fk2 h_opens (fk2 h_expr a8)))))))) (λ_=>cB) λx=>(fa5 c_next c_literal c_take c_must c_name c_is c_opens c_expr x).trans (by rw[iD,ay1,ae0,vY,bs7,eh2,bl7,yX,et3]<;>rfl)
def cc5:bi7->mO:=Sum.elim (λz=>.inl z) (Sum.elim (λz=>.inr z) (λz=>.inl (z.1,z.2.1,z.2.2.1,2,gP [[i64 z.2.2.2.1,i64 z.2.2.2.2.1,st z.2.2.2.2.2.1,.ro 4 z.2.2.2.2.2.2.1 z.2.2.2.2.2.2.2.1],[i64 z.2.2.2.2.2.2.2.2.1,i64 z.2.2.2.2.2.2.2.2.2.1,st z.2.2.2.2.2.2.2.2.2.2.1,.ro 4 z.2.2.2.2.2.2.2.2.2.2.2.1 z.2.2.2.2.2.2.2.2.2.2.2.2.1]],z.2.2.2.2.2.2.2.2.2.2.2.2.2)))
theorem gg5{args:List V}{L:List (Option Chunk)}(z:bi7)(h:SC E5 79 args L (di1 z)):SC E5 79 args L (iE (cc5 z)):=by
 rcases z with z|z|z
 ·exact h
 ·exact h
 ·exact de2 h
def bi2:aq4->xV:=Sum.elim (λz=>.inl (z.1,z.2.1,z.2.2.1,1,gP [[i64 z.2.2.2.1,i64 z.2.2.2.2.1,st z.2.2.2.2.2.1,.ro 4 z.2.2.2.2.2.2.1 z.2.2.2.2.2.2.2.1]],z.2.2.2.2.2.2.2.2)) (λz=>.inr z)
theorem ga6{args:List V}{L:List (Option Chunk)}(z:aq4)(h:SC E5 86 args L (cm5 z)):SC E5 86 args L (af3 (bi2 z)):=by
 rcases z with z|z
 ·exact de2 h
 ·exact h
def ad6:xG->nA:=Sum.elim (λz=>.inl z) (Sum.elim (λz=>.inr z) (λz=>.inl (z.1,z.2.1,z.2.2.1,0,λ_=>[],z.2.2.2)))
theorem ek3{args:List V}{L:List (Option Chunk)}(z:xG)(h:SC E5 87 args L (bc9 z)):SC E5 87 args L (rE (ad6 z)):=by
 rcases z with z|z|z
 ·exact h
 ·exact h
 ·exact hf8 h
noncomputable def exS:Nat->(mM->Option mO)×(yD->Option xV)×(nF->Option nA)
 |0=>(λ_=>none,λ_=>none,λ_=>none)
 |q+1=>(λx=>(xU ((is q)) ((exS q).2.1) ((exS q).2.2) ((exS q).1) ((next q)) ((oF q)) (wW ((is q)) ((exS q).2.1) ((exS q).2.2) ((exS q).1) ((next q)) ((oF q)) q x) x some).map cc5,
  λx=>(sN ((tP q)) ((exS q).1) x some).map bi2,
  λx=>(jQ ((next q)) ((kK q)) ((take q)) ((mK q)) ((name q)) ((is q)) ((tP q)) ((exS q).1) x some).map ad6)
theorem gw3:∀q,(∀x z,(exS q).1 x=some z->SC E5 79 (x7 x).1 (x7 x).2 (iE z))/\(∀x z,(exS q).2.1 x=some z->SC E5 86 (pD x).1 (pD x).2 (af3 z))/\(∀x z,(exS q).2.2 x=some z->SC E5 87 (eL x).1 (eL x).2 (rE z))
 |0=>⟨(λx z h=>by cases h),(λx z h=>by cases h),(λx z h=>by cases h)⟩
 |q+1=>by
  obtain⟨h0,h1,h2⟩:=gw3 q
  exact⟨(λx z h=>by
   obtain⟨y,hy,rfl⟩:=Option.map_eq_some_iff.1 h
   exact gg5 y (hn7 ((is q)) ((cy9 q)) ((exS q).2.1) (h1) ((exS q).2.2) (h2) ((exS q).1) (h0) ((next q)) ((lU q)) ((oF q)) ((co5 q)) q x y hy)),(λx z h=>by
   obtain⟨y,hy,rfl⟩:=Option.map_eq_some_iff.1 h
   exact ga6 y (gq8 ((tP q)) ((cg4 q)) ((exS q).1) (h0) q x y hy)),(λx z h=>by
   obtain⟨y,hy,rfl⟩:=Option.map_eq_some_iff.1 h
   exact ek3 y (fc4 ((next q)) ((lU q)) ((kK q)) ((ai5 q)) ((take q)) ((ax9 q)) ((mK q)) ((rL q)) ((name q)) ((ax2 q)) ((is q)) ((cy9 q)) ((tP q)) ((cg4 q)) ((exS q).1) (h0) q x y hy))⟩
noncomputable def af8(q:Nat):mM->Option mO:=(exS q).1
theorem bg5(q:Nat):Lw E5 79 x7 iE (af8 q):=(gw3 q).1
noncomputable def eb7(q:Nat):yD->Option xV:=(exS q).2.1
noncomputable def bg8(q:Nat):nF->Option nA:=(exS q).2.2
end Go.Proofs.YtjfkkokeegpeiaaDoor
/- Statements, lifted. -/
namespace Go.Proofs.YtjfkkokeegpeiaaDoor
open Go Go.Am Go.Proofs
set_option maxRecDepth 100000
abbrev bo9:Type:=SP
abbrev vC:Type:=(Int×Int×ByteArray×Int×Int×ByteArray×Nat×FL×SP)⊕(Int×Int)
def bp2:AR bo9:=λx=>([.ptr 0 0],(hHP x))
def bw0:vC->CRes:=Sum.elim (λz:Int×Int×ByteArray×Int×Int×ByteArray×Nat×FL×SP=>.ret (.agg [i64 z.1,i64 z.2.1,st z.2.2.1,.sl 3 4 0 1]) [some (.blk [.ro 4 z.2.2.2.2.2.2.2.2.2.2.1 (λj=>[i64 (z.2.2.2.2.2.2.2.2.2.2.2.1 j),i64 (z.2.2.2.2.2.2.2.2.2.2.2.2.1 j),st (z.2.2.2.2.2.2.2.2.2.2.2.2.2.1 j),i64 (z.2.2.2.2.2.2.2.2.2.2.2.2.2.2.1 j)]),i64 z.2.2.2.2.2.2.2.2.1,i64 z.2.2.2.2.2.2.2.2.2.1,.sl 1 1 0 z.2.2.2.2.2.2.2.2.2.2.2.2.2.2.2.1,.sl 2 1 0 z.2.2.2.2.2.2.2.2.2.2.2.2.2.2.2.2.2.1]),some (.row 9 1 z.2.2.2.2.2.2.2.2.2.2.2.2.2.2.2.1 (λj=>[st (z.2.2.2.2.2.2.2.2.2.2.2.2.2.2.2.2.1 j)])),some (.row 9 1 z.2.2.2.2.2.2.2.2.2.2.2.2.2.2.2.2.2.1 (λj=>[st (z.2.2.2.2.2.2.2.2.2.2.2.2.2.2.2.2.2.2 j)])),some (.row 40 4 1 (gP [[i64 z.2.2.2.1,i64 z.2.2.2.2.1,st z.2.2.2.2.2.1,.ro 4 z.2.2.2.2.2.2.1 z.2.2.2.2.2.2.2.1]]))]) (λz:Int×Int=>.pan (.ifc 51 (.agg [i64 z.1,i64 z.2])))
def uU{β:Type}(c_name:tF->Option tC)(c_must:jT->Option iO)(c_expr:mM->Option mO)(x:bo9)(dn:vC->Option β):Option β:=
 (c_name x).bind λz11=>Sum.elim (λz11a=>(c_must (⟨#[61]⟩,z11a.2)).bind λz24=>Sum.elim (λz24a=>(c_expr (1,z24a)).bind λz37=>Sum.elim (λz37a=>dn (.inl (2,0,z11a.1,z37a))) (λz37b=>dn (.inr z37b)) z37) (λz24b=>dn (.inr z24b)) z24) (λz11b=>dn (.inr z11b)) z11
theorem fx4{β:Type}(c_name c_must c_expr)(x)(dn:vC->Option β):uU c_name c_must c_expr x dn=(uU c_name c_must c_expr x some).bind dn:=by
 unfold uU
 repeat' first|exact n0|refine n1 λ_=>?_|refine n2 ?_ ?_|refine n3 (λ_=>?_) λ_=>?_|rfl
theorem ga0(c_name c_must c_expr)(x):f7 E5 (ft2 33 fR wU c_name (ft2 32 t8 jA c_must (ft2 79 x7 iE c_expr ca0))) lo0 67 (bp2 x).1 (bp2 x).2 K=uU (vf fR c_name) (vf t8 c_must) (vf x7 c_expr) x (λz=>some (.c (bw0 z))):=by kernel_rfl
noncomputable def de9(q:Nat)(x:bo9):Option vC:=uU (name q) (mK q) (af8 q) x some
theorem er1(q:Nat):Lw E5 67 bp2 bw0 (de9 q):=sof hW5 hX5 (fk2 (ax2 q) (fk2 (rL q) (fk2 (bg5 q) a8))) (λ_=>cB) λx=>(ga0 (name q) (mK q) (af8 q) x).trans (by rw[bs7,vY,yX,fx4]<;>rfl)
abbrev bi4:Type:=SP
abbrev be4:Type:=(Int×Int×ByteArray×Nat×FL×SP)⊕(Int×Int)
def aq3:AR bi4:=λx=>([.ptr 0 0],(hHP x))
def gs7(t:TT):bi4:=(dHP t.2)
theorem gq7:VI aq3:=vd gs7 λ_=>rfl
def bj3:be4->CRes:=Sum.elim (λz:Int×Int×ByteArray×Nat×FL×SP=>.ret (.agg [i64 z.1,i64 z.2.1,st z.2.2.1,.ro 4 z.2.2.2.1 z.2.2.2.2.1]) (hHP z.2.2.2.2.2)) (λz:Int×Int=>.pan (.ifc 51 (.agg [i64 z.1,i64 z.2])))
def bu9:vC->be4:=Sum.elim (λz=>.inl (z.1,z.2.1,z.2.2.1,1,gP [[i64 z.2.2.2.1,i64 z.2.2.2.2.1,st z.2.2.2.2.2.1,.ro 4 z.2.2.2.2.2.2.1 z.2.2.2.2.2.2.2.1]],z.2.2.2.2.2.2.2.2)) (λz=>.inr z)
theorem er0{args:List V}{L:List (Option Chunk)}(z:vC)(h:SC E5 67 args L (bw0 z)):SC E5 67 args L (bj3 (bu9 z)):=by
 rcases z with z|z
 ·exact de2 h
 ·exact h
noncomputable def assign(q:Nat)(x:bi4):Option be4:=(de9 q x).map bu9
theorem fz1(q:Nat):Lw E5 67 aq3 bj3 (assign q):=by
 intro x z h;obtain⟨y,hy,rfl⟩:=Option.map_eq_some_iff.1 h;exact er0 y (er1 q x y hy)
abbrev df4:Type:=SP
abbrev as4:Type:=(Int×Int×ByteArray×Int×Int×ByteArray×Nat×FL×SP)⊕(Int×Int)
def de7:AR df4:=λx=>([.ptr 0 0],(hHP x))
def dh9:as4->CRes:=Sum.elim (λz:Int×Int×ByteArray×Int×Int×ByteArray×Nat×FL×SP=>.ret (.agg [i64 z.1,i64 z.2.1,st z.2.2.1,.sl 3 4 0 1]) [some (.blk [.ro 4 z.2.2.2.2.2.2.2.2.2.2.1 (λj=>[i64 (z.2.2.2.2.2.2.2.2.2.2.2.1 j),i64 (z.2.2.2.2.2.2.2.2.2.2.2.2.1 j),st (z.2.2.2.2.2.2.2.2.2.2.2.2.2.1 j),i64 (z.2.2.2.2.2.2.2.2.2.2.2.2.2.2.1 j)]),i64 z.2.2.2.2.2.2.2.2.1,i64 z.2.2.2.2.2.2.2.2.2.1,.sl 1 1 0 z.2.2.2.2.2.2.2.2.2.2.2.2.2.2.2.1,.sl 2 1 0 z.2.2.2.2.2.2.2.2.2.2.2.2.2.2.2.2.2.1]),some (.row 9 1 z.2.2.2.2.2.2.2.2.2.2.2.2.2.2.2.1 (λj=>[st (z.2.2.2.2.2.2.2.2.2.2.2.2.2.2.2.2.1 j)])),some (.row 9 1 z.2.2.2.2.2.2.2.2.2.2.2.2.2.2.2.2.2.1 (λj=>[st (z.2.2.2.2.2.2.2.2.2.2.2.2.2.2.2.2.2.2 j)])),some (.row 40 4 1 (gP [[i64 z.2.2.2.1,i64 z.2.2.2.2.1,st z.2.2.2.2.2.1,.ro 4 z.2.2.2.2.2.2.1 z.2.2.2.2.2.2.2.1]]))]) (λz:Int×Int=>.pan (.ifc 51 (.agg [i64 z.1,i64 z.2])))
def at0{β:Type}(c_declare:y5->Option kS)(c_must:jT->Option iO)(c_expr:mM->Option mO)(x:df4)(dn:as4->Option β):Option β:=
 (c_declare (w (x.1+1),x.2)).bind λz11=>Sum.elim (λz11a=>(c_must (⟨#[61]⟩,z11a.2)).bind λz24=>Sum.elim (λz24a=>(c_expr (1,z24a)).bind λz37=>Sum.elim (λz37a=>dn (.inl (1,0,z11a.1,z37a))) (λz37b=>dn (.inr z37b)) z37) (λz24b=>dn (.inr z24b)) z24) (λz11b=>dn (.inr z11b)) z11
theorem hh2{β:Type}(c_declare c_must c_expr)(x)(dn:as4->Option β):at0 c_declare c_must c_expr x dn=(at0 c_declare c_must c_expr x some).bind dn:=by
 unfold at0
 repeat' first|exact n0|refine n1 λ_=>?_|refine n2 ?_ ?_|refine n3 (λ_=>?_) λ_=>?_|rfl
theorem hg6(c_declare c_must c_expr)(x):f7 E5 (ft2 46 bS qL c_declare (ft2 32 t8 jA c_must (ft2 79 x7 iE c_expr ca0))) lo0 60 (de7 x).1 (de7 x).2 K=at0 (vf bS c_declare) (vf t8 c_must) (vf x7 c_expr) x (λz=>some (.c (dh9 z))):=by kernel_rfl
noncomputable def gp4(q:Nat)(x:df4):Option as4:=at0 (pA q) (mK q) (af8 q) x some
theorem gv8(q:Nat):Lw E5 60 de7 dh9 (gp4 q):=sof hW5 hX5 (fk2 (bc8 q) (fk2 (rL q) (fk2 (bg5 q) a8))) (λ_=>cB) λx=>(hg6 (pA q) (mK q) (af8 q) x).trans (by rw[av3,vY,yX,hh2]<;>rfl)
abbrev dl6:Type:=SP
abbrev dq7:Type:=(Int×Int×ByteArray×Nat×FL×SP)⊕(Int×Int)
def ci6:AR dl6:=λx=>([.ptr 0 0],(hHP x))
def ic2(t:TT):dl6:=(dHP t.2)
theorem ht9:VI ci6:=vd ic2 λ_=>rfl
def dp7:dq7->CRes:=Sum.elim (λz:Int×Int×ByteArray×Nat×FL×SP=>.ret (.agg [i64 z.1,i64 z.2.1,st z.2.2.1,.ro 4 z.2.2.2.1 z.2.2.2.2.1]) (hHP z.2.2.2.2.2)) (λz:Int×Int=>.pan (.ifc 51 (.agg [i64 z.1,i64 z.2])))
def dm2:as4->dq7:=Sum.elim (λz=>.inl (z.1,z.2.1,z.2.2.1,1,gP [[i64 z.2.2.2.1,i64 z.2.2.2.2.1,st z.2.2.2.2.2.1,.ro 4 z.2.2.2.2.2.2.1 z.2.2.2.2.2.2.2.1]],z.2.2.2.2.2.2.2.2)) (λz=>.inr z)
theorem gf4{args:List V}{L:List (Option Chunk)}(z:as4)(h:SC E5 60 args L (dh9 z)):SC E5 60 args L (dp7 (dm2 z)):=by
 rcases z with z|z
 ·exact de2 h
 ·exact h
noncomputable def fp9(q:Nat)(x:dl6):Option dq7:=(gp4 q x).map dm2
theorem hj7(q:Nat):Lw E5 60 ci6 dp7 (fp9 q):=by
 intro x z h;obtain⟨y,hy,rfl⟩:=Option.map_eq_some_iff.1 h;exact gf4 y (gv8 q x y hy)
abbrev cj7:Type:=SP
abbrev zX:Type:=(Int×Int×ByteArray×FL×SP)⊕(Int×Int)
def cq9:AR cj7:=λx=>([.ptr 0 0],(hHP x))
def cf2:zX->CRes:=Sum.elim (λz:Int×Int×ByteArray×FL×SP=>.ret (.agg [i64 z.1,i64 z.2.1,st z.2.2.1,.sl 3 4 0 2]) [some (.blk [.ro 4 z.2.2.2.2.2.2.1 (λj=>[i64 (z.2.2.2.2.2.2.2.1 j),i64 (z.2.2.2.2.2.2.2.2.1 j),st (z.2.2.2.2.2.2.2.2.2.1 j),i64 (z.2.2.2.2.2.2.2.2.2.2.1 j)]),i64 z.2.2.2.2.1,i64 z.2.2.2.2.2.1,.sl 1 1 0 z.2.2.2.2.2.2.2.2.2.2.2.1,.sl 2 1 0 z.2.2.2.2.2.2.2.2.2.2.2.2.2.1]),some (.row 9 1 z.2.2.2.2.2.2.2.2.2.2.2.1 (λj=>[st (z.2.2.2.2.2.2.2.2.2.2.2.2.1 j)])),some (.row 9 1 z.2.2.2.2.2.2.2.2.2.2.2.2.2.1 (λj=>[st (z.2.2.2.2.2.2.2.2.2.2.2.2.2.2 j)])),some (.row 40 4 2 z.2.2.2.1)]) (λz:Int×Int=>.pan (.ifc 51 (.agg [i64 z.1,i64 z.2])))
def aa2{β:Type}(c_expr:mM->Option mO)(c_must:jT->Option iO)(c_literal:qU->Option qY)(x:cj7)(dn:zX->Option β):Option β:=
 (c_expr (1,w (x.1+1),x.2)).bind λz12=>Sum.elim (λz12a=>(c_must (⟨#[119,105,116,104,105,110]⟩,z12a.2.2.2.2.2)).bind λz25=>Sum.elim (λz25a=>(c_literal z25a).bind λz37=>Sum.elim (λz37a=>dn (.inl (6,0,⟨#[]⟩,λj=>[i64 (if j<1 then z12a.1 else z37a.1),i64 (if j<1 then z12a.2.1 else z37a.2.1),st (if j<1 then z12a.2.2.1 else z37a.2.2.1),V.ro 4 (if j<1 then z12a.2.2.2.1 else z37a.2.2.2.1) λj_1=>if j<1 then z12a.2.2.2.2.1 j_1 else z37a.2.2.2.2.1 j_1],z37a.2.2.2.2.2))) (λz37b=>dn (.inr z37b)) z37) (λz25b=>dn (.inr z25b)) z25) (λz12b=>dn (.inr z12b)) z12
theorem go6{β:Type}(c_expr c_must c_literal)(x)(dn:zX->Option β):aa2 c_expr c_must c_literal x dn=(aa2 c_expr c_must c_literal x some).bind dn:=by
 unfold aa2
 repeat' first|exact n0|refine n1 λ_=>?_|refine n2 ?_ ?_|refine n3 (λ_=>?_) λ_=>?_|rfl
theorem gk5(c_expr c_must c_literal)(x):f7 E5 (ft2 79 x7 iE c_expr (ft2 32 t8 jA c_must (ft2 81 eF qF c_literal ca0))) lo0 63 (cq9 x).1 (cq9 x).2 K=aa2 (vf x7 c_expr) (vf t8 c_must) (vf eF c_literal) x (λz=>some (.c (cf2 z))):=by kernel_rfl
noncomputable def fa3(q:Nat)(x:cj7):Option zX:=aa2 (af8 q) (mK q) (kK q) x some
theorem fy3(q:Nat):Lw E5 63 cq9 cf2 (fa3 q):=sof hW5 hX5 (fk2 (bg5 q) (fk2 (rL q) (fk2 (ai5 q) a8))) (λ_=>cB) λx=>(gk5 (af8 q) (mK q) (kK q) x).trans (by rw[yX,vY,ay1,go6]<;>rfl)
abbrev cc0:Type:=SP
abbrev cb9:Type:=(Int×Int×ByteArray×Nat×FL×SP)⊕(Int×Int)
def bk2:AR cc0:=λx=>([.ptr 0 0],(hHP x))
def hb9(t:TT):cc0:=(dHP t.2)
theorem hi3:VI bk2:=vd hb9 λ_=>rfl
def cb7:cb9->CRes:=Sum.elim (λz:Int×Int×ByteArray×Nat×FL×SP=>.ret (.agg [i64 z.1,i64 z.2.1,st z.2.2.1,.ro 4 z.2.2.2.1 z.2.2.2.2.1]) (hHP z.2.2.2.2.2)) (λz:Int×Int=>.pan (.ifc 51 (.agg [i64 z.1,i64 z.2])))
def cr5:zX->cb9:=Sum.elim (λz=>.inl (z.1,z.2.1,z.2.2.1,2,z.2.2.2)) (λz=>.inr z)
theorem fz3{args:List V}{L:List (Option Chunk)}(z:zX)(h:SC E5 63 args L (cf2 z)):SC E5 63 args L (cb7 (cr5 z)):=by
 rcases z with z|z
 ·exact de2 h
 ·exact h
noncomputable def await(q:Nat)(x:cc0):Option cb9:=(fa3 q x).map cr5
theorem gw1(q:Nat):Lw E5 63 bk2 cb7 (await q):=by
 intro x z h;obtain⟨y,hy,rfl⟩:=Option.map_eq_some_iff.1 h;exact fz3 y (fy3 q x y hy)
abbrev bn4:Type:=SP
abbrev vK:Type:=(Int×Int×ByteArray×Int×Int×ByteArray×Nat×FL×SP)⊕(Int×Int)
def bq3:AR bn4:=λx=>([.ptr 0 0],(hHP x))
def br8:vK->CRes:=Sum.elim (λz:Int×Int×ByteArray×Int×Int×ByteArray×Nat×FL×SP=>.ret (.agg [i64 z.1,i64 z.2.1,st z.2.2.1,.sl 3 4 0 1]) [some (.blk [.ro 4 z.2.2.2.2.2.2.2.2.2.2.1 (λj=>[i64 (z.2.2.2.2.2.2.2.2.2.2.2.1 j),i64 (z.2.2.2.2.2.2.2.2.2.2.2.2.1 j),st (z.2.2.2.2.2.2.2.2.2.2.2.2.2.1 j),i64 (z.2.2.2.2.2.2.2.2.2.2.2.2.2.2.1 j)]),i64 z.2.2.2.2.2.2.2.2.1,i64 z.2.2.2.2.2.2.2.2.2.1,.sl 1 1 0 z.2.2.2.2.2.2.2.2.2.2.2.2.2.2.2.1,.sl 2 1 0 z.2.2.2.2.2.2.2.2.2.2.2.2.2.2.2.2.2.1]),some (.row 9 1 z.2.2.2.2.2.2.2.2.2.2.2.2.2.2.2.1 (λj=>[st (z.2.2.2.2.2.2.2.2.2.2.2.2.2.2.2.2.1 j)])),some (.row 9 1 z.2.2.2.2.2.2.2.2.2.2.2.2.2.2.2.2.2.1 (λj=>[st (z.2.2.2.2.2.2.2.2.2.2.2.2.2.2.2.2.2.2 j)])),some (.row 40 4 1 (gP [[i64 z.2.2.2.1,i64 z.2.2.2.2.1,st z.2.2.2.2.2.1,.ro 4 z.2.2.2.2.2.2.1 z.2.2.2.2.2.2.2.1]]))]) (λz:Int×Int=>.pan (.ifc 51 (.agg [i64 z.1,i64 z.2])))
def vP{β:Type}(c_is:bn1->Option bs0)(c_literal:qU->Option qY)(x:bn4)(dn:vK->Option β):Option β:=
 (c_is (⟨#[107,101,101,112]⟩,x)).bind λz12=>if z12.1=true then(c_literal (w (z12.2.1+1),z12.2.2)).bind λz24=>Sum.elim (λz24a=>dn (.inl (11,0,⟨#[]⟩,z24a))) (λz24b=>dn (.inr z24b)) z24 else(c_literal (w (z12.2.1+1),z12.2.2)).bind λz37=>Sum.elim (λz37a=>dn (.inl (5,0,⟨#[]⟩,z37a))) (λz37b=>dn (.inr z37b)) z37
theorem fp2{β:Type}(c_is c_literal)(x)(dn:vK->Option β):vP c_is c_literal x dn=(vP c_is c_literal x some).bind dn:=by
 unfold vP
 repeat' first|exact n0|refine n1 λ_=>?_|refine n2 ?_ ?_|refine n3 (λ_=>?_) λ_=>?_|rfl
theorem gb1(c_is c_literal)(x):f7 E5 (ftb 58 wA bs9 c_is (ft2 81 eF qF c_literal ca0)) lo0 64 (bq3 x).1 (bq3 x).2 K=vP (vf wA c_is) (vf eF c_literal) x (λz=>some (.c (br8 z))):=by kernel_rfl
noncomputable def dk9(q:Nat)(x:bn4):Option vK:=vP (is q) (kK q) x some
theorem ew4(q:Nat):Lw E5 64 bq3 br8 (dk9 q):=sof hW5 hX5 (fk (cy9 q) (fk2 (ai5 q) a8)) (λ_=>cB) λx=>(gb1 (is q) (kK q) x).trans (by rw[eh2,ay1,fp2]<;>rfl)
abbrev bi5:Type:=SP
abbrev bi1:Type:=(Int×Int×ByteArray×Nat×FL×SP)⊕(Int×Int)
def al7:AR bi5:=λx=>([.ptr 0 0],(hHP x))
def gf2(t:TT):bi5:=(dHP t.2)
theorem gm5:VI al7:=vd gf2 λ_=>rfl
def bk0:bi1->CRes:=Sum.elim (λz:Int×Int×ByteArray×Nat×FL×SP=>.ret (.agg [i64 z.1,i64 z.2.1,st z.2.2.1,.ro 4 z.2.2.2.1 z.2.2.2.2.1]) (hHP z.2.2.2.2.2)) (λz:Int×Int=>.pan (.ifc 51 (.agg [i64 z.1,i64 z.2])))
def bn8:vK->bi1:=Sum.elim (λz=>.inl (z.1,z.2.1,z.2.2.1,1,gP [[i64 z.2.2.2.1,i64 z.2.2.2.2.1,st z.2.2.2.2.2.1,.ro 4 z.2.2.2.2.2.2.1 z.2.2.2.2.2.2.2.1]],z.2.2.2.2.2.2.2.2)) (λz=>.inr z)
theorem fa6{args:List V}{L:List (Option Chunk)}(z:vK)(h:SC E5 64 args L (br8 z)):SC E5 64 args L (bk0 (bn8 z)):=by
 rcases z with z|z
 ·exact de2 h
 ·exact h
noncomputable def bn5(q:Nat)(x:bi5):Option bi1:=(dk9 q x).map bn8
theorem fv3(q:Nat):Lw E5 64 al7 bk0 (bn5 q):=by
 intro x z h;obtain⟨y,hy,rfl⟩:=Option.map_eq_some_iff.1 h;exact fa6 y (ew4 q x y hy)
abbrev bn0:Type:=SP
abbrev uW:Type:=(Int×Int×ByteArray×Int×Int×ByteArray×Nat×FL×SP)⊕(Int×Int)
def bp9:AR bn0:=λx=>([.ptr 0 0],(hHP x))
def bn9:uW->CRes:=Sum.elim (λz:Int×Int×ByteArray×Int×Int×ByteArray×Nat×FL×SP=>.ret (.agg [i64 z.1,i64 z.2.1,st z.2.2.1,.sl 3 4 0 1]) [some (.blk [.ro 4 z.2.2.2.2.2.2.2.2.2.2.1 (λj=>[i64 (z.2.2.2.2.2.2.2.2.2.2.2.1 j),i64 (z.2.2.2.2.2.2.2.2.2.2.2.2.1 j),st (z.2.2.2.2.2.2.2.2.2.2.2.2.2.1 j),i64 (z.2.2.2.2.2.2.2.2.2.2.2.2.2.2.1 j)]),i64 z.2.2.2.2.2.2.2.2.1,i64 z.2.2.2.2.2.2.2.2.2.1,.sl 1 1 0 z.2.2.2.2.2.2.2.2.2.2.2.2.2.2.2.1,.sl 2 1 0 z.2.2.2.2.2.2.2.2.2.2.2.2.2.2.2.2.2.1]),some (.row 9 1 z.2.2.2.2.2.2.2.2.2.2.2.2.2.2.2.1 (λj=>[st (z.2.2.2.2.2.2.2.2.2.2.2.2.2.2.2.2.1 j)])),some (.row 9 1 z.2.2.2.2.2.2.2.2.2.2.2.2.2.2.2.2.2.1 (λj=>[st (z.2.2.2.2.2.2.2.2.2.2.2.2.2.2.2.2.2.2 j)])),some (.row 40 4 1 (gP [[i64 z.2.2.2.1,i64 z.2.2.2.2.1,st z.2.2.2.2.2.1,.ro 4 z.2.2.2.2.2.2.1 z.2.2.2.2.2.2.2.1]]))]) (λz:Int×Int=>.pan (.ifc 51 (.agg [i64 z.1,i64 z.2])))
def vD{β:Type}(c_is:bn1->Option bs0)(c_expr:mM->Option mO)(x:bn0)(dn:uW->Option β):Option β:=
 (c_is (⟨#[112,111,105,110,116]⟩,x)).bind λz12=>if z12.1=true then(c_expr (1,w (z12.2.1+1),z12.2.2)).bind λz25=>Sum.elim (λz25a=>dn (.inl (8,0,⟨#[]⟩,z25a))) (λz25b=>dn (.inr z25b)) z25 else(c_expr (1,w (z12.2.1+1),z12.2.2)).bind λz39=>Sum.elim (λz39a=>dn (.inl (7,0,⟨#[]⟩,z39a))) (λz39b=>dn (.inr z39b)) z39
theorem fw7{β:Type}(c_is c_expr)(x)(dn:uW->Option β):vD c_is c_expr x dn=(vD c_is c_expr x some).bind dn:=by
 unfold vD
 repeat' first|exact n0|refine n1 λ_=>?_|refine n2 ?_ ?_|refine n3 (λ_=>?_) λ_=>?_|rfl
theorem fo4(c_is c_expr)(x):f7 E5 (ftb 58 wA bs9 c_is (ft2 79 x7 iE c_expr ca0)) lo0 65 (bp9 x).1 (bp9 x).2 K=vD (vf wA c_is) (vf x7 c_expr) x (λz=>some (.c (bn9 z))):=by kernel_rfl
noncomputable def dq9(q:Nat)(x:bn0):Option uW:=vD (is q) (af8 q) x some
theorem et4(q:Nat):Lw E5 65 bp9 bn9 (dq9 q):=sof hW5 hX5 (fk (cy9 q) (fk2 (bg5 q) a8)) (λ_=>cB) λx=>(fo4 (is q) (af8 q) x).trans (by rw[eh2,yX,fw7]<;>rfl)
abbrev bl0:Type:=SP
abbrev bm8:Type:=(Int×Int×ByteArray×Nat×FL×SP)⊕(Int×Int)
def aq8:AR bl0:=λx=>([.ptr 0 0],(hHP x))
def gg7(t:TT):bl0:=(dHP t.2)
theorem gk8:VI aq8:=vd gg7 λ_=>rfl
def bf7:bm8->CRes:=Sum.elim (λz:Int×Int×ByteArray×Nat×FL×SP=>.ret (.agg [i64 z.1,i64 z.2.1,st z.2.2.1,.ro 4 z.2.2.2.1 z.2.2.2.2.1]) (hHP z.2.2.2.2.2)) (λz:Int×Int=>.pan (.ifc 51 (.agg [i64 z.1,i64 z.2])))
def bq6:uW->bm8:=Sum.elim (λz=>.inl (z.1,z.2.1,z.2.2.1,1,gP [[i64 z.2.2.2.1,i64 z.2.2.2.2.1,st z.2.2.2.2.2.1,.ro 4 z.2.2.2.2.2.2.1 z.2.2.2.2.2.2.2.1]],z.2.2.2.2.2.2.2.2)) (λz=>.inr z)
theorem eu4{args:List V}{L:List (Option Chunk)}(z:uW)(h:SC E5 65 args L (bn9 z)):SC E5 65 args L (bf7 (bq6 z)):=by
 rcases z with z|z
 ·exact de2 h
 ·exact h
noncomputable def bn3(q:Nat)(x:bl0):Option bm8:=(dq9 q x).map bq6
theorem gb8(q:Nat):Lw E5 65 aq8 bf7 (bn3 q):=by
 intro x z h;obtain⟨y,hy,rfl⟩:=Option.map_eq_some_iff.1 h;exact eu4 y (et4 q x y hy)
abbrev an9:Type:=SP
abbrev eZ:Type:=(Int×Int×ByteArray×SP)⊕(Int×Int×ByteArray×Int×Int×ByteArray×Nat×FL×SP)⊕(Int×Int)
def al9:AR an9:=λx=>([.ptr 0 0],(hHP x))
def ak5:eZ->CRes:=Sum.elim (λz:Int×Int×ByteArray×SP=>.ret (.agg [i64 z.1,i64 z.2.1,st z.2.2.1,g8]) (hHP z.2.2.2)) (Sum.elim (λz:Int×Int×ByteArray×Int×Int×ByteArray×Nat×FL×SP=>.ret (.agg [i64 z.1,i64 z.2.1,st z.2.2.1,.sl 3 4 0 1]) [some (.blk [.ro 4 z.2.2.2.2.2.2.2.2.2.2.1 (λj=>[i64 (z.2.2.2.2.2.2.2.2.2.2.2.1 j),i64 (z.2.2.2.2.2.2.2.2.2.2.2.2.1 j),st (z.2.2.2.2.2.2.2.2.2.2.2.2.2.1 j),i64 (z.2.2.2.2.2.2.2.2.2.2.2.2.2.2.1 j)]),i64 z.2.2.2.2.2.2.2.2.1,i64 z.2.2.2.2.2.2.2.2.2.1,.sl 1 1 0 z.2.2.2.2.2.2.2.2.2.2.2.2.2.2.2.1,.sl 2 1 0 z.2.2.2.2.2.2.2.2.2.2.2.2.2.2.2.2.2.1]),some (.row 9 1 z.2.2.2.2.2.2.2.2.2.2.2.2.2.2.2.1 (λj=>[st (z.2.2.2.2.2.2.2.2.2.2.2.2.2.2.2.2.1 j)])),some (.row 9 1 z.2.2.2.2.2.2.2.2.2.2.2.2.2.2.2.2.2.1 (λj=>[st (z.2.2.2.2.2.2.2.2.2.2.2.2.2.2.2.2.2.2 j)])),some (.row 40 4 1 (gP [[i64 z.2.2.2.1,i64 z.2.2.2.2.1,st z.2.2.2.2.2.1,.ro 4 z.2.2.2.2.2.2.1 z.2.2.2.2.2.2.2.1]]))]) (λz:Int×Int=>.pan (.ifc 51 (.agg [i64 z.1,i64 z.2]))))
def nT{β:Type}(c_next:aM->Option aL)(c_number:xC->Option xD)(c_must:jT->Option iO)(c_literal:qU->Option qY)(x:an9)(dn:eZ->Option β):Option β:=
 (c_next x).bind λz11=>if(z11.2.2.1.toList==ByteArray.toList ⟨#[101,109,105,116]⟩)=true then(c_number (0,99,w (z11.2.2.2.2.1+1),z11.2.2.2.2.2)).bind λz25=>Sum.elim (λz25a=>dn (.inl (12,z25a.1,⟨#[]⟩,z25a.2))) (λz25b=>dn (.inr (.inr z25b))) z25 else if(z11.2.2.1.toList==ByteArray.toList ⟨#[97,98,111,114,116]⟩)=true then(c_number (0,999,w (z11.2.2.2.2.1+1),z11.2.2.2.2.2)).bind λz40=>Sum.elim (λz40a=>dn (.inl (13,z40a.1,⟨#[]⟩,z40a.2))) (λz40b=>dn (.inr (.inr z40b))) z40 else if(z11.2.2.1.toList==ByteArray.toList ⟨#[117,115,101]⟩)=true then(c_number (0,7,w (z11.2.2.2.2.1+1),z11.2.2.2.2.2)).bind λz55=>Sum.elim (λz55a=>(c_must (⟨#[102,111,114]⟩,z55a.2)).bind λz68=>Sum.elim (λz68a=>(c_literal z68a).bind λz80=>Sum.elim (λz80a=>dn (.inr (.inl (9,z55a.1,⟨#[]⟩,z80a)))) (λz80b=>dn (.inr (.inr z80b))) z80) (λz68b=>dn (.inr (.inr z68b))) z68) (λz55b=>dn (.inr (.inr z55b))) z55 else(c_number (0,7,w (z11.2.2.2.2.1+1),z11.2.2.2.2.2)).bind λz97=>Sum.elim (λz97a=>(c_must (⟨#[44]⟩,z97a.2)).bind λz110=>Sum.elim (λz110a=>(c_literal z110a).bind λz122=>Sum.elim (λz122a=>dn (.inr (.inl (10,z97a.1,⟨#[]⟩,z122a)))) (λz122b=>dn (.inr (.inr z122b))) z122) (λz110b=>dn (.inr (.inr z110b))) z110) (λz97b=>dn (.inr (.inr z97b))) z97
theorem dz5{β:Type}(c_next c_number)(c_must c_literal)(x)(dn:eZ->Option β):nT c_next c_number c_must c_literal x dn=(nT c_next c_number c_must c_literal x some).bind dn:=by
 unfold nT
 repeat' first|exact n0|refine n1 λ_=>?_|refine n2 ?_ ?_|refine n3 (λ_=>?_) λ_=>?_|rfl
theorem dz6(c_next c_number)(c_must c_literal)(x):f7 E5 (ftb 18 j7 y6 c_next (ft2 80 iZ aa4 c_number (ft2 32 t8 jA c_must (ft2 81 eF qF c_literal ca0)))) lo0 66 (al9 x).1 (al9 x).2 K=nT (vf j7 c_next) (vf iZ c_number) (vf t8 c_must) (vf eF c_literal) x (λz=>some (.c (ak5 z))):=by kernel_rfl
noncomputable def bp7(q:Nat)(x:an9):Option eZ:=nT (next q) (oI q) (mK q) (kK q) x some
theorem dr1(q:Nat):Lw E5 66 al9 ak5 (bp7 q):=sof hW5 hX5 (fk (lU q) (fk2 (br9 q) (fk2 (rL q) (fk2 (ai5 q) a8)))) (λ_=>cB) λx=>(dz6 (next q) (oI q) (mK q) (kK q) x).trans (by rw[iD,cq3,vY,ay1,dz5]<;>rfl)
abbrev aj3:Type:=SP
abbrev ah3:Type:=(Int×Int×ByteArray×Nat×FL×SP)⊕(Int×Int)
def xJ:AR aj3:=λx=>([.ptr 0 0],(hHP x))
def er8(t:TT):aj3:=(dHP t.2)
theorem es5:VI xJ:=vd er8 λ_=>rfl
def ae6:ah3->CRes:=Sum.elim (λz:Int×Int×ByteArray×Nat×FL×SP=>.ret (.agg [i64 z.1,i64 z.2.1,st z.2.2.1,.ro 4 z.2.2.2.1 z.2.2.2.2.1]) (hHP z.2.2.2.2.2)) (λz:Int×Int=>.pan (.ifc 51 (.agg [i64 z.1,i64 z.2])))
def sB:eZ->ah3:=Sum.elim (λz=>.inl (z.1,z.2.1,z.2.2.1,0,λ_=>[],z.2.2.2)) (Sum.elim (λz=>.inl (z.1,z.2.1,z.2.2.1,1,gP [[i64 z.2.2.2.1,i64 z.2.2.2.2.1,st z.2.2.2.2.2.1,.ro 4 z.2.2.2.2.2.2.1 z.2.2.2.2.2.2.2.1]],z.2.2.2.2.2.2.2.2)) (λz=>.inr z))
theorem dm9{args:List V}{L:List (Option Chunk)}(z:eZ)(h:SC E5 66 args L (ak5 z)):SC E5 66 args L (ae6 (sB z)):=by
 rcases z with z|z|z
 ·exact hf8 h
 ·exact de2 h
 ·exact h
noncomputable def numbered(q:Nat)(x:aj3):Option ah3:=(bp7 q x).map sB
theorem ek2(q:Nat):Lw E5 66 xJ ae6 (numbered q):=by
 intro x z h;obtain⟨y,hy,rfl⟩:=Option.map_eq_some_iff.1 h;exact dm9 y (dr1 q x y hy)
abbrev tW:Type:=SP
abbrev uF:Type:=(Int×Int×ByteArray×Nat×FL×SP)⊕(Int×Int)
def gD:AR tW:=λx=>([.ptr 0 0],(hHP x))
def hd6(t:TT):tW:=(dHP t.2)
theorem cc9:VI gD:=vd hd6 λ_=>rfl
def rT:uF->CRes:=Sum.elim (λz:Int×Int×ByteArray×Nat×FL×SP=>.ret (.agg [i64 z.1,i64 z.2.1,st z.2.2.1,.ro 4 z.2.2.2.1 z.2.2.2.2.1]) (hHP z.2.2.2.2.2)) (λz:Int×Int=>.pan (.ifc 51 (.agg [i64 z.1,i64 z.2])))
abbrev am1:Type:=SP
abbrev ap2:Type:=(Int×Int×ByteArray×Nat×FL×SP)⊕(Int×Int)
def ab1:AR am1:=λx=>([.ptr 0 0],(hHP x))
def gl5(t:TT):am1:=(dHP t.2)
theorem gf7:VI ab1:=vd gl5 λ_=>rfl
def bi6:ap2->CRes:=Sum.elim (λz:Int×Int×ByteArray×Nat×FL×SP=>.ret (.agg [i64 z.1,i64 z.2.1,st z.2.2.1,.ro 4 z.2.2.2.1 z.2.2.2.2.1]) (hHP z.2.2.2.2.2)) (λz:Int×Int=>.pan (.ifc 51 (.agg [i64 z.1,i64 z.2])))
abbrev zO:Type:=SP
abbrev ab3:Type:=(Int×Int×ByteArray×Nat×FL×SP)⊕(Int×Int)
def uZ:AR zO:=λx=>([.ptr 0 0],(hHP x))
def fu7(t:TT):zO:=(dHP t.2)
theorem ft6:VI uZ:=vd fu7 λ_=>rfl
def av7:ab3->CRes:=Sum.elim (λz:Int×Int×ByteArray×Nat×FL×SP=>.ret (.agg [i64 z.1,i64 z.2.1,st z.2.2.1,.ro 4 z.2.2.2.1 z.2.2.2.2.1]) (hHP z.2.2.2.2.2)) (λz:Int×Int=>.pan (.ifc 51 (.agg [i64 z.1,i64 z.2])))
abbrev eS:Type:=SP
abbrev bK:Type:=(Int×Int×ByteArray×Nat×FL×SP)⊕(Int×Int)
def aO:AR eS:=λx=>([.ptr 0 0],(hHP x))
def ej1(t:TT):eS:=(dHP t.2)
theorem aq1:VI aO:=vd ej1 λ_=>rfl
def jV:bK->CRes:=Sum.elim (λz:Int×Int×ByteArray×Nat×FL×SP=>.ret (.agg [i64 z.1,i64 z.2.1,st z.2.2.1,.ro 4 z.2.2.2.1 z.2.2.2.2.1]) (hHP z.2.2.2.2.2)) (λz:Int×Int=>.pan (.ifc 51 (.agg [i64 z.1,i64 z.2])))
abbrev jG:Type:=SP
abbrev an1:Type:=(Int×Int×ByteArray×SP)⊕(Int×Int×ByteArray×Nat×FL×SP)⊕(Int×Int)
def ci9:AR jG:=λx=>([.ptr 0 0],(hHP x))
def cg0:an1->CRes:=Sum.elim (λz:Int×Int×ByteArray×SP=>.ret (.agg [i64 z.1,i64 z.2.1,st z.2.2.1,g8]) (hHP z.2.2.2)) (Sum.elim (λz:Int×Int×ByteArray×Nat×FL×SP=>.ret (.agg [i64 z.1,i64 z.2.1,st z.2.2.1,.sl 3 4 0 z.2.2.2.1]) ((hHP z.2.2.2.2.2)++[some (.row 40 4 z.2.2.2.1 z.2.2.2.2.1)])) (λz:Int×Int=>.pan (.ifc 51 (.agg [i64 z.1,i64 z.2]))))
abbrev cy8:Type:=SP
abbrev aa6:Type:=(Int×Int×ByteArray×FL×SP)⊕(Int×Int)
def bv4:AR cy8:=λx=>([.ptr 0 0],(hHP x))
def bq2:aa6->CRes:=Sum.elim (λz:Int×Int×ByteArray×FL×SP=>.ret (.agg [i64 z.1,i64 z.2.1,st z.2.2.1,.sl 3 4 0 3]) [some (.blk [.ro 4 z.2.2.2.2.2.2.1 (λj=>[i64 (z.2.2.2.2.2.2.2.1 j),i64 (z.2.2.2.2.2.2.2.2.1 j),st (z.2.2.2.2.2.2.2.2.2.1 j),i64 (z.2.2.2.2.2.2.2.2.2.2.1 j)]),i64 z.2.2.2.2.1,i64 z.2.2.2.2.2.1,.sl 1 1 0 z.2.2.2.2.2.2.2.2.2.2.2.1,.sl 2 1 0 z.2.2.2.2.2.2.2.2.2.2.2.2.2.1]),some (.row 9 1 z.2.2.2.2.2.2.2.2.2.2.2.1 (λj=>[st (z.2.2.2.2.2.2.2.2.2.2.2.2.1 j)])),some (.row 9 1 z.2.2.2.2.2.2.2.2.2.2.2.2.2.1 (λj=>[st (z.2.2.2.2.2.2.2.2.2.2.2.2.2.2 j)])),some (.row 40 4 3 z.2.2.2.1)]) (λz:Int×Int=>.pan (.ifc 51 (.agg [i64 z.1,i64 z.2])))
abbrev cp8:Type:=SP
abbrev xK:Type:=(Int×Int×ByteArray×Int×Int×ByteArray×Nat×FL×SP)⊕(Int×Int)
def bb6:AR cp8:=λx=>([.ptr 0 0],(hHP x))
def bc7:xK->CRes:=Sum.elim (λz:Int×Int×ByteArray×Int×Int×ByteArray×Nat×FL×SP=>.ret (.agg [i64 z.1,i64 z.2.1,st z.2.2.1,.sl 3 4 0 1]) [some (.blk [.ro 4 z.2.2.2.2.2.2.2.2.2.2.1 (λj=>[i64 (z.2.2.2.2.2.2.2.2.2.2.2.1 j),i64 (z.2.2.2.2.2.2.2.2.2.2.2.2.1 j),st (z.2.2.2.2.2.2.2.2.2.2.2.2.2.1 j),i64 (z.2.2.2.2.2.2.2.2.2.2.2.2.2.2.1 j)]),i64 z.2.2.2.2.2.2.2.2.1,i64 z.2.2.2.2.2.2.2.2.2.1,.sl 1 1 0 z.2.2.2.2.2.2.2.2.2.2.2.2.2.2.2.1,.sl 2 1 0 z.2.2.2.2.2.2.2.2.2.2.2.2.2.2.2.2.2.1]),some (.row 9 1 z.2.2.2.2.2.2.2.2.2.2.2.2.2.2.2.1 (λj=>[st (z.2.2.2.2.2.2.2.2.2.2.2.2.2.2.2.2.1 j)])),some (.row 9 1 z.2.2.2.2.2.2.2.2.2.2.2.2.2.2.2.2.2.1 (λj=>[st (z.2.2.2.2.2.2.2.2.2.2.2.2.2.2.2.2.2.2 j)])),some (.row 40 4 1 (gP [[i64 z.2.2.2.1,i64 z.2.2.2.2.1,st z.2.2.2.2.2.1,.ro 4 z.2.2.2.2.2.2.1 z.2.2.2.2.2.2.2.1]]))]) (λz:Int×Int=>.pan (.ifc 51 (.agg [i64 z.1,i64 z.2])))
abbrev bj2:Type:=SP
abbrev gE:Type:=(Int×Int×ByteArray×Nat×FL×SP)⊕(Int×Int)
def ai2:AR bj2:=λx=>([.ptr 0 0],(hHP x))
def ag8:gE->CRes:=Sum.elim (λz:Int×Int×ByteArray×Nat×FL×SP=>.ret (.agg [i64 z.1,i64 z.2.1,st z.2.2.1,.ro 4 z.2.2.2.1 z.2.2.2.2.1]) (hHP z.2.2.2.2.2)) (λz:Int×Int=>.pan (.ifc 51 (.agg [i64 z.1,i64 z.2])))
abbrev bR:Type:=(SC2)⊕(Nat×FI×FI×FS×FI×Int×Int×Nat×Nat×FS×FS×FI×FI×FS×FN×FM×Nat)
abbrev mV:Type:=(Int×Int)⊕(SC2)⊕(Nat×FI×FI×FS×FI×Int×Int×Nat×Nat×FS×FS×Nat×FI×FI×FS×FN×FM)
def dn4(x:jG)(y:SC2):St:={fr:=[V.ptr 0 0,V.junk,V.ptr 3 0,V.ptr 4 0]++jk 21,H:=hp [some (hPB y),some (hPV y),some (jf5 y),some (Chunk.blk [i64 0,i64 0,st ⟨#[]⟩,g8]),some (Chunk.blk [i64 14,i64 0,st ⟨#[]⟩,g8])],nx:=5,rt:=1,me:=36}
def dj5(s:St):SC2:=((u7 (cb s 0 0)),dTI (cb s 0 0) 0,dTI (cb s 0 0) 1,dTS (cb s 0 0) 2,dTI (cb s 0 0) 3,vI (cb s 0 1),vI (cb s 0 2),dB (cb s 0 3),dB (cb s 0 4),dRS (s.H 1) 0,dRS (s.H 2) 0)
def df7(x:jG)(y:Nat×FI×FI×FS×FI×Int×Int×Nat×Nat×FS×FS×FI×FI×FS×FN×FM×Nat):St:={fr:=[V.ptr 0 0,V.junk,V.ptr 3 0,V.ptr 4 0]++jk 21,H:=hp [some (hPB y),some (hPV y),some (hPQ y),some (Chunk.blk [i64 0,i64 0,st ⟨#[]⟩,g8]),some (Chunk.blk [i64 14,i64 0,st ⟨#[]⟩,V.sl 5 4 0 y.2.2.2.2.2.2.2.2.2.2.2.2.2.2.2.2]),some (Chunk.row 40 4 y.2.2.2.2.2.2.2.2.2.2.2.2.2.2.2.2 λj=>[i64 (y.2.2.2.2.2.2.2.2.2.2.2.1 j),i64 (y.2.2.2.2.2.2.2.2.2.2.2.2.1 j),st (y.2.2.2.2.2.2.2.2.2.2.2.2.2.1 j),V.ro 4 (y.2.2.2.2.2.2.2.2.2.2.2.2.2.2.1 j) (y.2.2.2.2.2.2.2.2.2.2.2.2.2.2.2.1 j)])],nx:=6,rt:=1,me:=36}
def dj1(s:St):Nat×FI×FI×FS×FI×Int×Int×Nat×Nat×FS×FS×FI×FI×FS×FN×FM×Nat:=((u7 (cb s 0 0)),dTI (cb s 0 0) 0,dTI (cb s 0 0) 1,dTS (cb s 0 0) 2,dTI (cb s 0 0) 3,vI (cb s 0 1),vI (cb s 0 2),dB (cb s 0 3),dB (cb s 0 4),dRS (s.H 1) 0,dRS (s.H 2) 0,dRI (s.H 5) 0,dRI (s.H 5) 1,dRS (s.H 5) 2,dRN (s.H 5) 3,dRF (s.H 5) 3,dB (cb s 4 3))
def fB(x:jG):bR->St:=(Sum.elim (dn4 x) (df7 x))
def du3(s:St):bR:=(match s.nx==5 with|true=>(.inl (dj5 s)) |false=>(.inr (dj1 s)))
theorem ds4(x:jG):VL (fB x):=vl du3 (λy=>by rcases y with y|y<;>rfl)
def nY(x:jG):mV->Ex×St:=(Sum.elim (λz=>(Ex.panic (V.ifc 51 (V.agg [i64 z.1,i64 z.2])),{fr:=[V.junk]++jk 24,H:=hp [none],nx:=1,rt:=1,me:=36})) (Sum.elim (λz=>(Ex.exit 0,{fr:=[V.ptr 0 0,V.junk,V.ptr 3 0,V.ptr 4 0]++jk 21,H:=hp [some (hPB z),some (hPV z),some (jf5 z),some (Chunk.blk [i64 0,i64 0,st ⟨#[]⟩,g8]),some (Chunk.blk [i64 14,i64 0,st ⟨#[]⟩,g8])],nx:=5,rt:=1,me:=36})) (λz=>(Ex.exit 0,{fr:=[V.ptr 0 0,V.junk,V.ptr 3 0,V.ptr 4 0]++jk 21,H:=hp [some (hPB z),some (hPV z),some (hPQ z),some (Chunk.blk [i64 0,i64 0,st ⟨#[]⟩,g8]),some (Chunk.blk [i64 14,i64 0,st ⟨#[]⟩,V.sl 5 4 0 z.2.2.2.2.2.2.2.2.2.2.2.1]),some (Chunk.row 40 4 z.2.2.2.2.2.2.2.2.2.2.2.1 λj=>[i64 (z.2.2.2.2.2.2.2.2.2.2.2.2.1 j),i64 (z.2.2.2.2.2.2.2.2.2.2.2.2.2.1 j),st (z.2.2.2.2.2.2.2.2.2.2.2.2.2.2.1 j),V.ro 4 (z.2.2.2.2.2.2.2.2.2.2.2.2.2.2.2.1 j) (z.2.2.2.2.2.2.2.2.2.2.2.2.2.2.2.2 j)])],nx:=6,rt:=1,me:=36}))))
def kN{β:Type}(c_opens:rH->Option rJ)(c_take:mF->Option mG)(c_statement:eS->Option bK)(x:jG)(y:SC2)(nx:bR->Option β)(dn:mV->Option β):Option β:=
 (c_take (⟨#[125]⟩,y.2.2.2.2.2.1,y.2.2.2.2.2.2.1,y.1,y.2.1,y.2.2.1,y.2.2.2.1,y.2.2.2.2.1,y.2.2.2.2.2.2.2.1,y.2.2.2.2.2.2.2.2.2.1,y.2.2.2.2.2.2.2.2.1,y.2.2.2.2.2.2.2.2.2.2)).bind λz454=>if(!z454.1)=true then(c_statement z454.2).bind λz466=>Sum.elim (λz466a=>nx (.inr (z466a.2.2.2.2.2.2.2.1,z466a.2.2.2.2.2.2.2.2.1,z466a.2.2.2.2.2.2.2.2.2.1,z466a.2.2.2.2.2.2.2.2.2.2.1,z466a.2.2.2.2.2.2.2.2.2.2.2.1,z466a.2.2.2.2.2.1,z466a.2.2.2.2.2.2.1,z466a.2.2.2.2.2.2.2.2.2.2.2.2.1,z466a.2.2.2.2.2.2.2.2.2.2.2.2.2.2.1,z466a.2.2.2.2.2.2.2.2.2.2.2.2.2.1,z466a.2.2.2.2.2.2.2.2.2.2.2.2.2.2.2,λj=>z466a.1,λj=>z466a.2.1,λj=>z466a.2.2.1,λj=>z466a.2.2.2.1,λj=>z466a.2.2.2.2.1,1))) (λz466b=>dn (.inl z466b)) z466 else dn (.inr (.inl (z454.2.2.2.1,z454.2.2.2.2.1,z454.2.2.2.2.2.1,z454.2.2.2.2.2.2.1,z454.2.2.2.2.2.2.2.1,z454.2.1,z454.2.2.1,z454.2.2.2.2.2.2.2.2.1,z454.2.2.2.2.2.2.2.2.2.2.1,z454.2.2.2.2.2.2.2.2.2.1,z454.2.2.2.2.2.2.2.2.2.2.2)))
theorem dj2{β:Type}(c_opens c_take c_statement)(x)(y)(nx:bR->Option β)(dn):kN c_opens c_take c_statement x y nx dn=(kN c_opens c_take c_statement x y (λy=>some (.inl y)) (λz=>some (.inr z))).bind λr=>Sum.elim nx dn r:=by
 unfold kN
 repeat' first|exact n0|refine n1 λ_=>?_|refine n2 ?_ ?_|refine n3 (λ_=>?_) λ_=>?_|rfl
theorem df0(c_opens c_take c_statement)(x)(y)(lo:f5):n8 E5 (ft2 47 cW oX c_opens (ftb 44 aC lG c_take (ft2 48 aO jV c_statement ca0))) lo 0 13 (h9 E5 36 0) (fB x (.inl y)) (KCM [(0,13)] 4)=kN (vf cW c_opens) (vf aC c_take) (vf aO c_statement) x y (λy=>lo 0 13 (h9 E5 36 0) (fB x y) (KCM [(0,13)] 4)) (λz=>some (.l (nY x z).1 (nY x z).2)):=by kernel_rfl
def kJ{β:Type}(c_opens:rH->Option rJ)(c_take:mF->Option mG)(c_statement:eS->Option bK)(x:jG)(y:Nat×FI×FI×FS×FI×Int×Int×Nat×Nat×FS×FS×FI×FI×FS×FN×FM×Nat)(nx:bR->Option β)(dn:mV->Option β):Option β:=
 (c_take (⟨#[125]⟩,y.2.2.2.2.2.1,y.2.2.2.2.2.2.1,y.1,y.2.1,y.2.2.1,y.2.2.2.1,y.2.2.2.2.1,y.2.2.2.2.2.2.2.1,y.2.2.2.2.2.2.2.2.2.1,y.2.2.2.2.2.2.2.2.1,y.2.2.2.2.2.2.2.2.2.2.1)).bind λz481=>if(!z481.1)=true then(c_statement z481.2).bind λz493=>Sum.elim (λz493a=>if(y.2.2.2.2.2.2.2.2.2.2.2.2.2.2.2.2+1)*56<=d5/\y.2.2.2.2.2.2.2.2.2.2.2.2.2.2.2.2+1<=maxLen/\y.2.2.2.2.2.2.2.2.2.2.2.2.2.2.2.2<=y.2.2.2.2.2.2.2.2.2.2.2.2.2.2.2.2 then nx (.inr (z493a.2.2.2.2.2.2.2.1,z493a.2.2.2.2.2.2.2.2.1,z493a.2.2.2.2.2.2.2.2.2.1,z493a.2.2.2.2.2.2.2.2.2.2.1,z493a.2.2.2.2.2.2.2.2.2.2.2.1,z493a.2.2.2.2.2.1,z493a.2.2.2.2.2.2.1,z493a.2.2.2.2.2.2.2.2.2.2.2.2.1,z493a.2.2.2.2.2.2.2.2.2.2.2.2.2.2.1,z493a.2.2.2.2.2.2.2.2.2.2.2.2.2.1,z493a.2.2.2.2.2.2.2.2.2.2.2.2.2.2.2,λj=>if j<y.2.2.2.2.2.2.2.2.2.2.2.2.2.2.2.2 then y.2.2.2.2.2.2.2.2.2.2.2.1 j else z493a.1,λj=>if j<y.2.2.2.2.2.2.2.2.2.2.2.2.2.2.2.2 then y.2.2.2.2.2.2.2.2.2.2.2.2.1 j else z493a.2.1,λj=>if j<y.2.2.2.2.2.2.2.2.2.2.2.2.2.2.2.2 then y.2.2.2.2.2.2.2.2.2.2.2.2.2.1 j else z493a.2.2.1,λj=>if j<y.2.2.2.2.2.2.2.2.2.2.2.2.2.2.2.2 then y.2.2.2.2.2.2.2.2.2.2.2.2.2.2.1 j else z493a.2.2.2.1,λ(j j_1:Nat)=>if j<y.2.2.2.2.2.2.2.2.2.2.2.2.2.2.2.2 then y.2.2.2.2.2.2.2.2.2.2.2.2.2.2.2.1 j j_1 else z493a.2.2.2.2.1 j_1,y.2.2.2.2.2.2.2.2.2.2.2.2.2.2.2.2+1))else none) (λz493b=>dn (.inl z493b)) z493 else dn (.inr (.inr (z481.2.2.2.1,z481.2.2.2.2.1,z481.2.2.2.2.2.1,z481.2.2.2.2.2.2.1,z481.2.2.2.2.2.2.2.1,z481.2.1,z481.2.2.1,z481.2.2.2.2.2.2.2.2.1,z481.2.2.2.2.2.2.2.2.2.2.1,z481.2.2.2.2.2.2.2.2.2.1,z481.2.2.2.2.2.2.2.2.2.2.2,y.2.2.2.2.2.2.2.2.2.2.2.2.2.2.2.2,y.2.2.2.2.2.2.2.2.2.2.2.1,y.2.2.2.2.2.2.2.2.2.2.2.2.1,y.2.2.2.2.2.2.2.2.2.2.2.2.2.1,y.2.2.2.2.2.2.2.2.2.2.2.2.2.2.1,y.2.2.2.2.2.2.2.2.2.2.2.2.2.2.2.1)))
theorem dj4{β:Type}(c_opens c_take c_statement)(x)(y)(nx:bR->Option β)(dn):kJ c_opens c_take c_statement x y nx dn=(kJ c_opens c_take c_statement x y (λy=>some (.inl y)) (λz=>some (.inr z))).bind λr=>Sum.elim nx dn r:=by
 unfold kJ
 repeat' first|exact n0|refine n1 λ_=>?_|refine n2 ?_ ?_|refine n3 (λ_=>?_) λ_=>?_|rfl
theorem di7(c_opens c_take c_statement)(x)(y)(lo:f5):n8 E5 (ft2 47 cW oX c_opens (ftb 44 aC lG c_take (ft2 48 aO jV c_statement ca0))) lo 0 13 (h9 E5 36 0) (fB x (.inr y)) (KCM [(0,13)] 4)=kJ (vf cW c_opens) (vf aC c_take) (vf aO c_statement) x y (λy=>lo 0 13 (h9 E5 36 0) (fB x y) (KCM [(0,13)] 4)) (λz=>some (.l (nY x z).1 (nY x z).2)):=by kernel_rfl
noncomputable def qW(c_opens:rH->Option rJ)(c_take:mF->Option mG)(c_statement:eS->Option bK)(q:Nat)(x:jG):bR->Option mV:=lpG (Sum.elim (λy=>kN c_opens c_take c_statement x y (λy=>some (.inl y)) (λz=>some (.inr z))) (λy=>kJ c_opens c_take c_statement x y (λy=>some (.inl y)) (λz=>some (.inr z)))) q
theorem dt8(c_opens)(h_opens:Lw E5 47 cW oX c_opens)(c_take)(h_take:Lw E5 44 aC lG c_take)(c_statement)(h_statement:Lw E5 48 aO jV c_statement)(q:Nat)(x:jG):Ll E5 (h9 E5 36 0) (fB x) (nY x) (qW c_opens c_take c_statement q x):=
 slp (fk2 h_opens (fk h_take (fk2 h_statement a8))) hX5 (λlo y=>by
  rcases y with y|y
  ·exact(df0 c_opens c_take c_statement x y lo).trans (by rw[bl7,ae0,aq1];exact dj2 _ _ _ _ _ _ _)
  ·exact(di7 c_opens c_take c_statement x y lo).trans (by rw[bl7,ae0,aq1];exact dj4 _ _ _ _ _ _ _)) (λz=>by rcases z with z|z|z<;>kernel_rfl) q
def rX{β:Type}(c_opens:rH->Option rJ)(c_take:mF->Option mG)(c_statement:eS->Option bK)(l_blockR_l0:bR->Option mV)(x:jG)(dn:an1->Option β):Option β:=
 (c_opens (⟨#[123]⟩,x)).bind λz12=>Sum.elim (λz12a=>(l_blockR_l0 (.inl (z12a.2.2.1,z12a.2.2.2.1,z12a.2.2.2.2.1,z12a.2.2.2.2.2.1,z12a.2.2.2.2.2.2.1,z12a.1,z12a.2.1,z12a.2.2.2.2.2.2.2.1,z12a.2.2.2.2.2.2.2.2.2.1,z12a.2.2.2.2.2.2.2.2.1,z12a.2.2.2.2.2.2.2.2.2.2))).bind λz394=>Sum.elim (λz394a=>dn (.inr (.inr z394a))) (λz394b=>Sum.elim (λz394ba=>dn (.inl (14,0,⟨#[]⟩,z394ba.2.2.2.2.2.1,w (z394ba.2.2.2.2.2.2.1-1),z394ba.1,z394ba.2.1,z394ba.2.2.1,z394ba.2.2.2.1,z394ba.2.2.2.2.1,z394ba.2.2.2.2.2.2.2.1,z394ba.2.2.2.2.2.2.2.2.2.1,z394ba.2.2.2.2.2.2.2.2.1,z394ba.2.2.2.2.2.2.2.2.2.2))) (λz394bb=>dn (.inr (.inl (14,0,⟨#[]⟩,z394bb.2.2.2.2.2.2.2.2.2.2.2.1,λj=>[i64 (z394bb.2.2.2.2.2.2.2.2.2.2.2.2.1 j),i64 (z394bb.2.2.2.2.2.2.2.2.2.2.2.2.2.1 j),st (z394bb.2.2.2.2.2.2.2.2.2.2.2.2.2.2.1 j),V.ro 4 (z394bb.2.2.2.2.2.2.2.2.2.2.2.2.2.2.2.1 j) (z394bb.2.2.2.2.2.2.2.2.2.2.2.2.2.2.2.2 j)],z394bb.2.2.2.2.2.1,w (z394bb.2.2.2.2.2.2.1-1),z394bb.1,z394bb.2.1,z394bb.2.2.1,z394bb.2.2.2.1,z394bb.2.2.2.2.1,z394bb.2.2.2.2.2.2.2.1,z394bb.2.2.2.2.2.2.2.2.2.1,z394bb.2.2.2.2.2.2.2.2.1,z394bb.2.2.2.2.2.2.2.2.2.2.1)))) z394b) z394) (λz12b=>dn (.inr (.inr z12b))) z12
theorem ge0{β:Type}(c_opens c_take c_statement)(l_blockR_l0)(x)(dn:an1->Option β):rX c_opens c_take c_statement l_blockR_l0 x dn=(rX c_opens c_take c_statement l_blockR_l0 x some).bind dn:=by
 unfold rX
 repeat' first|exact n0|refine n1 λ_=>?_|refine n2 ?_ ?_|refine n3 (λ_=>?_) λ_=>?_|rfl
theorem gn7(c_opens c_take c_statement)(l_blockR_l0)(x):f7 E5 (ft2 47 cW oX c_opens (ftb 44 aC lG c_take (ft2 48 aO jV c_statement ca0))) (lt3 0 (λ_=>true) (h9 E5 36 0) (fB x) (nY x) l_blockR_l0 lo0) 36 (ci9 x).1 (ci9 x).2 K=rX (vf cW c_opens) (vf aC c_take) (vf aO c_statement) (lf (h9 E5 36 0) (fB x) l_blockR_l0) x (λz=>some (.c (cg0 z))):=by kernel_rfl
theorem gn6(c_opens)(h_opens:Lw E5 47 cW oX c_opens)(c_take)(h_take:Lw E5 44 aC lG c_take)(c_statement)(h_statement:Lw E5 48 aO jV c_statement)(q:Nat):Lw E5 36 ci9 cg0 λx=>rX c_opens c_take c_statement (qW c_opens c_take c_statement q x) x some:=sof hW5 hX5 (fk2 h_opens (fk h_take (fk2 h_statement a8))) (λx=>(lk3 (dt8 c_opens h_opens c_take h_take c_statement h_statement q x) cB)) λx=>(gn7 c_opens c_take c_statement (qW c_opens c_take c_statement q x) x).trans (by rw[bl7,ae0,aq1,ds4,ge0]<;>rfl)
noncomputable def nM{β:Type}(c_expr:mM->Option mO)(c_block:tW->Option uF)(c_take:mF->Option mG)(x:cy8)(dn:aa6->Option β):Option β:=
 (c_expr (1,w (x.1+1),x.2)).bind λz12=>Sum.elim (λz12a=>(c_block z12a.2.2.2.2.2).bind λz24=>Sum.elim (λz24a=>(c_take (⟨#[101,108,115,101]⟩,z24a.2.2.2.2.2)).bind λz37=>if z37.1=true then(c_block z37.2).bind λz49=>Sum.elim (λz49a=>dn (.inl (3,0,⟨#[]⟩,λj=>[i64 (if j<2 then if j<1 then z12a.1 else z24a.1 else z49a.1),i64 (if j<2 then if j<1 then z12a.2.1 else z24a.2.1 else z49a.2.1),st (if j<2 then if j<1 then z12a.2.2.1 else z24a.2.2.1 else z49a.2.2.1),V.ro 4 (if j<2 then if j<1 then z12a.2.2.2.1 else z24a.2.2.2.1 else z49a.2.2.2.1) λj_1=>if j<2 then if j<1 then z12a.2.2.2.2.1 j_1 else z24a.2.2.2.2.1 j_1 else z49a.2.2.2.2.1 j_1],z49a.2.2.2.2.2))) (λz49b=>dn (.inr z49b)) z49 else dn (.inl (3,0,⟨#[]⟩,λj=>[i64 (if j<2 then if j<1 then z12a.1 else z24a.1 else 14),i64 (if j<2 then if j<1 then z12a.2.1 else z24a.2.1 else 0),st (if j<2 then if j<1 then z12a.2.2.1 else z24a.2.2.1 else⟨#[]⟩),Decidable.rec (λ(h:¬j<1+1)=>g8) (λ(h:j<1+1)=>bv7 (j<1) (V.ro 4 z12a.2.2.2.1 z12a.2.2.2.2.1) (V.ro 4 z24a.2.2.2.1 z24a.2.2.2.2.1)) (Nat.decLt j (1+1))],z37.2))) (λz24b=>dn (.inr z24b)) z24) (λz12b=>dn (.inr z12b)) z12
theorem fp8{β:Type}(c_expr c_block c_take)(x)(dn:aa6->Option β):nM c_expr c_block c_take x dn=(nM c_expr c_block c_take x some).bind dn:=by
 unfold nM
 repeat' first|exact n0|refine n1 λ_=>?_|refine n2 ?_ ?_|refine n3 (λ_=>?_) λ_=>?_|rfl
theorem fs8(c_expr c_block c_take)(x):f7 E5 (ft2 79 x7 iE c_expr (ft2 36 gD rT c_block (ftb 44 aC lG c_take ca0))) lo0 61 (bv4 x).1 (bv4 x).2 K=nM (vf x7 c_expr) (vf gD c_block) (vf aC c_take) x (λz=>some (.c (bq2 z))):=by kernel_rfl
theorem fz5(c_expr)(h_expr:Lw E5 79 x7 iE c_expr)(c_block)(h_block:Lw E5 36 gD rT c_block)(c_take)(h_take:Lw E5 44 aC lG c_take)(q:Nat):Lw E5 61 bv4 bq2 λx=>nM c_expr c_block c_take x some:=sof hW5 hX5 (fk2 h_expr (fk2 h_block (fk h_take a8))) (λ_=>cB) λx=>(fs8 c_expr c_block c_take x).trans (by rw[yX,cc9,ae0,fp8]<;>rfl)
def jH{β:Type}(c_number:xC->Option xD)(c_block:tW->Option uF)(x:cp8)(dn:xK->Option β):Option β:=
 (c_number (1,100,w (x.1+1),x.2)).bind λz13=>Sum.elim (λz13a=>(c_block z13a.2).bind λz25=>Sum.elim (λz25a=>dn (.inl (4,z13a.1,⟨#[]⟩,z25a))) (λz25b=>dn (.inr z25b)) z25) (λz13b=>dn (.inr z13b)) z13
theorem fd2{β:Type}(c_number c_block)(x)(dn:xK->Option β):jH c_number c_block x dn=(jH c_number c_block x some).bind dn:=by
 unfold jH
 repeat' first|exact n0|refine n1 λ_=>?_|refine n2 ?_ ?_|refine n3 (λ_=>?_) λ_=>?_|rfl
theorem ez7(c_number c_block)(x):f7 E5 (ft2 80 iZ aa4 c_number (ft2 36 gD rT c_block ca0)) lo0 62 (bb6 x).1 (bb6 x).2 K=jH (vf iZ c_number) (vf gD c_block) x (λz=>some (.c (bc7 z))):=by kernel_rfl
theorem ew3(c_number)(h_number:Lw E5 80 iZ aa4 c_number)(c_block)(h_block:Lw E5 36 gD rT c_block)(q:Nat):Lw E5 62 bb6 bc7 λx=>jH c_number c_block x some:=sof hW5 hX5 (fk2 h_number (fk2 h_block a8)) (λ_=>cB) λx=>(ez7 c_number c_block x).trans (by rw[cq3,cc9,fd2]<;>rfl)
def dJ{β:Type}(c_next:aM->Option aL)(c_letS:dl6->Option dq7)(c_branch:am1->Option ap2)(c_repeatS:zO->Option ab3)(c_await:cc0->Option cb9)(c_amount:bi5->Option bi1)(c_single:bl0->Option bm8)(c_numbered:aj3->Option ah3)(c_assign:bi4->Option be4)(c_must:jT->Option iO)(x:bj2)(dn:gE->Option β):Option β:=
 (c_next x).bind λz11=>if(z11.2.2.1.toList==ByteArray.toList ⟨#[108,101,116]⟩)=true then(c_letS z11.2.2.2.2).bind λz23=>Sum.elim (λz23a=>(c_must (⟨#[59]⟩,z23a.2.2.2.2.2)).bind λz36=>Sum.elim (λz36a=>dn (.inl (z23a.1,z23a.2.1,z23a.2.2.1,z23a.2.2.2.1,z23a.2.2.2.2.1,z36a))) (λz36b=>dn (.inr z36b)) z36) (λz23b=>dn (.inr z23b)) z23 else if(z11.2.2.1.toList==ByteArray.toList ⟨#[105,102]⟩)=true then(c_branch z11.2.2.2.2).bind λz50=>Sum.elim (λz50a=>dn (.inl z50a)) (λz50b=>dn (.inr z50b)) z50 else if(z11.2.2.1.toList==ByteArray.toList ⟨#[114,101,112,101,97,116]⟩)=true then(c_repeatS z11.2.2.2.2).bind λz63=>Sum.elim (λz63a=>dn (.inl z63a)) (λz63b=>dn (.inr z63b)) z63 else if(z11.2.2.1.toList==ByteArray.toList ⟨#[97,119,97,105,116]⟩)=true then(c_await z11.2.2.2.2).bind λz76=>Sum.elim (λz76a=>(c_must (⟨#[59]⟩,z76a.2.2.2.2.2)).bind λz89=>Sum.elim (λz89a=>dn (.inl (z76a.1,z76a.2.1,z76a.2.2.1,z76a.2.2.2.1,z76a.2.2.2.2.1,z89a))) (λz89b=>dn (.inr z89b)) z89) (λz76b=>dn (.inr z76b)) z76 else if(z11.2.2.1.toList==ByteArray.toList ⟨#[119,97,105,116]⟩)=true then(c_amount z11.2.2.2.2).bind λz103=>Sum.elim (λz103a=>(c_must (⟨#[59]⟩,z103a.2.2.2.2.2)).bind λz116=>Sum.elim (λz116a=>dn (.inl (z103a.1,z103a.2.1,z103a.2.2.1,z103a.2.2.2.1,z103a.2.2.2.2.1,z116a))) (λz116b=>dn (.inr z116b)) z116) (λz103b=>dn (.inr z103b)) z103 else if(z11.2.2.1.toList==ByteArray.toList ⟨#[107,101,101,112]⟩)=true then(c_amount z11.2.2.2.2).bind λz130=>Sum.elim (λz130a=>(c_must (⟨#[59]⟩,z130a.2.2.2.2.2)).bind λz143=>Sum.elim (λz143a=>dn (.inl (z130a.1,z130a.2.1,z130a.2.2.1,z130a.2.2.2.1,z130a.2.2.2.2.1,z143a))) (λz143b=>dn (.inr z143b)) z143) (λz130b=>dn (.inr z130b)) z130 else if(z11.2.2.1.toList==ByteArray.toList ⟨#[114,101,113,117,105,114,101]⟩)=true then(c_single z11.2.2.2.2).bind λz157=>Sum.elim (λz157a=>(c_must (⟨#[59]⟩,z157a.2.2.2.2.2)).bind λz170=>Sum.elim (λz170a=>dn (.inl (z157a.1,z157a.2.1,z157a.2.2.1,z157a.2.2.2.1,z157a.2.2.2.2.1,z170a))) (λz170b=>dn (.inr z170b)) z170) (λz157b=>dn (.inr z157b)) z157 else if(z11.2.2.1.toList==ByteArray.toList ⟨#[112,111,105,110,116]⟩)=true then(c_single z11.2.2.2.2).bind λz184=>Sum.elim (λz184a=>(c_must (⟨#[59]⟩,z184a.2.2.2.2.2)).bind λz197=>Sum.elim (λz197a=>dn (.inl (z184a.1,z184a.2.1,z184a.2.2.1,z184a.2.2.2.1,z184a.2.2.2.2.1,z197a))) (λz197b=>dn (.inr z197b)) z197) (λz184b=>dn (.inr z184b)) z184 else if(z11.2.2.1.toList==ByteArray.toList ⟨#[117,115,101]⟩)=true then(c_numbered z11.2.2.2.2).bind λz211=>Sum.elim (λz211a=>(c_must (⟨#[59]⟩,z211a.2.2.2.2.2)).bind λz224=>Sum.elim (λz224a=>dn (.inl (z211a.1,z211a.2.1,z211a.2.2.1,z211a.2.2.2.1,z211a.2.2.2.2.1,z224a))) (λz224b=>dn (.inr z224b)) z224) (λz211b=>dn (.inr z211b)) z211 else if(z11.2.2.1.toList==ByteArray.toList ⟨#[115,101,110,100]⟩)=true then(c_numbered z11.2.2.2.2).bind λz238=>Sum.elim (λz238a=>(c_must (⟨#[59]⟩,z238a.2.2.2.2.2)).bind λz251=>Sum.elim (λz251a=>dn (.inl (z238a.1,z238a.2.1,z238a.2.2.1,z238a.2.2.2.1,z238a.2.2.2.2.1,z251a))) (λz251b=>dn (.inr z251b)) z251) (λz238b=>dn (.inr z238b)) z238 else if(z11.2.2.1.toList==ByteArray.toList ⟨#[101,109,105,116]⟩)=true then(c_numbered z11.2.2.2.2).bind λz265=>Sum.elim (λz265a=>(c_must (⟨#[59]⟩,z265a.2.2.2.2.2)).bind λz278=>Sum.elim (λz278a=>dn (.inl (z265a.1,z265a.2.1,z265a.2.2.1,z265a.2.2.2.1,z265a.2.2.2.2.1,z278a))) (λz278b=>dn (.inr z278b)) z278) (λz265b=>dn (.inr z265b)) z265 else if(z11.2.2.1.toList==ByteArray.toList ⟨#[97,98,111,114,116]⟩)=true then(c_numbered z11.2.2.2.2).bind λz292=>Sum.elim (λz292a=>(c_must (⟨#[59]⟩,z292a.2.2.2.2.2)).bind λz305=>Sum.elim (λz305a=>dn (.inl (z292a.1,z292a.2.1,z292a.2.2.1,z292a.2.2.2.1,z292a.2.2.2.2.1,z305a))) (λz305b=>dn (.inr z305b)) z305) (λz292b=>dn (.inr z292b)) z292 else(c_assign z11.2.2.2.2).bind λz319=>Sum.elim (λz319a=>(c_must (⟨#[59]⟩,z319a.2.2.2.2.2)).bind λz332=>Sum.elim (λz332a=>dn (.inl (z319a.1,z319a.2.1,z319a.2.2.1,z319a.2.2.2.1,z319a.2.2.2.2.1,z332a))) (λz332b=>dn (.inr z332b)) z332) (λz319b=>dn (.inr z319b)) z319
theorem dg6{β:Type}(c_next c_letS)(c_branch c_repeatS)(c_await c_amount)(c_single c_numbered)(c_assign c_must)(x)(dn:gE->Option β):dJ c_next c_letS c_branch c_repeatS c_await c_amount c_single c_numbered c_assign c_must x dn=(dJ c_next c_letS c_branch c_repeatS c_await c_amount c_single c_numbered c_assign c_must x some).bind dn:=by
 unfold dJ
 repeat' first|exact n0|refine n1 λ_=>?_|refine n2 ?_ ?_|refine n3 (λ_=>?_) λ_=>?_|rfl
theorem dq5(c_next c_letS)(c_branch c_repeatS)(c_await c_amount)(c_single c_numbered)(c_assign c_must)(x):f7 E5 (ftb 18 j7 y6 c_next (ft2 60 ci6 dp7 c_letS (ft2 61 ab1 bi6 c_branch (ft2 62 uZ av7 c_repeatS (ft2 63 bk2 cb7 c_await (ft2 64 al7 bk0 c_amount (ft2 65 aq8 bf7 c_single (ft2 66 xJ ae6 c_numbered (ft2 67 aq3 bj3 c_assign (ft2 32 t8 jA c_must ca0)))))))))) lo0 48 (ai2 x).1 (ai2 x).2 K=dJ (vf j7 c_next) (vf ci6 c_letS) (vf ab1 c_branch) (vf uZ c_repeatS) (vf bk2 c_await) (vf al7 c_amount) (vf aq8 c_single) (vf xJ c_numbered) (vf aq3 c_assign) (vf t8 c_must) x (λz=>some (.c (ag8 z))):=by kernel_rfl
theorem dd6(c_next)(h_next:Lw E5 18 j7 y6 c_next)(c_letS)(h_letS:Lw E5 60 ci6 dp7 c_letS)(c_branch)(h_branch:Lw E5 61 ab1 bi6 c_branch)(c_repeatS)(h_repeatS:Lw E5 62 uZ av7 c_repeatS)(c_await)(h_await:Lw E5 63 bk2 cb7 c_await)(c_amount)(h_amount:Lw E5 64 al7 bk0 c_amount)(c_single)(h_single:Lw E5 65 aq8 bf7 c_single)(c_numbered)(h_numbered:Lw E5 66 xJ ae6 c_numbered)(c_assign)(h_assign:Lw E5 67 aq3 bj3 c_assign)(c_must)(h_must:Lw E5 32 t8 jA c_must)(q:Nat):Lw E5 48 ai2 ag8 λx=>dJ c_next c_letS c_branch c_repeatS c_await c_amount c_single c_numbered c_assign c_must x some:=sof hW5 hX5 (fk h_next (fk2 h_letS (fk2 h_branch (fk2 h_repeatS (fk2 h_await (fk2 h_amount (fk2 h_single (fk2 h_numbered (fk2 h_assign (fk2 h_must a8)))))))))) (λ_=>cB) λx=>(dq5 c_next c_letS c_branch c_repeatS c_await c_amount c_single c_numbered c_assign c_must x).trans (by rw[iD,ht9,gf7,ft6,hi3,gm5,gk8,es5,gq7,vY,dg6]<;>rfl)
def bm1:an1->uF:=Sum.elim (λz=>.inl (z.1,z.2.1,z.2.2.1,0,λ_=>[],z.2.2.2)) (Sum.elim (λz=>.inl z) (λz=>.inr z))
theorem fr6{args:List V}{L:List (Option Chunk)}(z:an1)(h:SC E5 36 args L (cg0 z)):SC E5 36 args L (rT (bm1 z)):=by
 rcases z with z|z|z
 ·exact hf8 h
 ·exact ib0 h
 ·exact h
def vL:aa6->ap2:=Sum.elim (λz=>.inl (z.1,z.2.1,z.2.2.1,3,λj=>fixC (z.2.2.2.1 j),z.2.2.2.2)) (λz=>.inr z)
theorem fe4{args:List V}{L:List (Option Chunk)}(z:aa6)(h:SC E5 61 args L (bq2 z)):SC E5 61 args L (bi6 (vL z)):=by
 rcases z with z|z
 ·exact il6 h
 ·exact h
def ag2:xK->ab3:=Sum.elim (λz=>.inl (z.1,z.2.1,z.2.2.1,1,gP [[i64 z.2.2.2.1,i64 z.2.2.2.2.1,st z.2.2.2.2.2.1,.ro 4 z.2.2.2.2.2.2.1 z.2.2.2.2.2.2.2.1]],z.2.2.2.2.2.2.2.2)) (λz=>.inr z)
theorem dx9{args:List V}{L:List (Option Chunk)}(z:xK)(h:SC E5 62 args L (bc7 z)):SC E5 62 args L (av7 (ag2 z)):=by
 rcases z with z|z
 ·exact de2 h
 ·exact h
def dH:gE->bK:=Sum.elim (λz=>.inl z) (λz=>.inr z)
theorem ct5{args:List V}{L:List (Option Chunk)}(z:gE)(h:SC E5 48 args L (ag8 z)):SC E5 48 args L (jV (dH z)):=by
 rcases z with z|z
 ·exact h
 ·exact h
noncomputable def stS:Nat->(tW->Option uF)×(am1->Option ap2)×(zO->Option ab3)×(eS->Option bK)
 |0=>(λ_=>none,λ_=>none,λ_=>none,λ_=>none)
 |q+1=>(λx=>(rX ((tP q)) ((take q)) ((stS q).2.2.2) (qW ((tP q)) ((take q)) ((stS q).2.2.2) q x) x some).map bm1,
  λx=>(nM ((af8 q)) ((stS q).1) ((take q)) x some).map vL,
  λx=>(jH ((oI q)) ((stS q).1) x some).map ag2,
  λx=>(dJ ((next q)) ((fp9 q)) ((stS q).2.1) ((stS q).2.2.1) ((await q)) ((bn5 q)) ((bn3 q)) ((numbered q)) ((assign q)) ((mK q)) x some).map dH)
theorem gr4:∀q,(∀x z,(stS q).1 x=some z->SC E5 36 (gD x).1 (gD x).2 (rT z))/\(∀x z,(stS q).2.1 x=some z->SC E5 61 (ab1 x).1 (ab1 x).2 (bi6 z))/\(∀x z,(stS q).2.2.1 x=some z->SC E5 62 (uZ x).1 (uZ x).2 (av7 z))/\(∀x z,(stS q).2.2.2 x=some z->SC E5 48 (aO x).1 (aO x).2 (jV z))
 |0=>⟨(λx z h=>by cases h),(λx z h=>by cases h),(λx z h=>by cases h),(λx z h=>by cases h)⟩
 |q+1=>by
  obtain⟨h0,h1,h2,h3⟩:=gr4 q
  exact⟨(λx z h=>by
   obtain⟨y,hy,rfl⟩:=Option.map_eq_some_iff.1 h
   exact fr6 y (gn6 ((tP q)) ((cg4 q)) ((take q)) ((ax9 q)) ((stS q).2.2.2) (h3) q x y hy)),(λx z h=>by
   obtain⟨y,hy,rfl⟩:=Option.map_eq_some_iff.1 h
   exact fe4 y (fz5 ((af8 q)) ((bg5 q)) ((stS q).1) (h0) ((take q)) ((ax9 q)) q x y hy)),(λx z h=>by
   obtain⟨y,hy,rfl⟩:=Option.map_eq_some_iff.1 h
   exact dx9 y (ew3 ((oI q)) ((br9 q)) ((stS q).1) (h0) q x y hy)),(λx z h=>by
   obtain⟨y,hy,rfl⟩:=Option.map_eq_some_iff.1 h
   exact ct5 y (dd6 ((next q)) ((lU q)) ((fp9 q)) ((hj7 q)) ((stS q).2.1) (h1) ((stS q).2.2.1) (h2) ((await q)) ((gw1 q)) ((bn5 q)) ((fv3 q)) ((bn3 q)) ((gb8 q)) ((numbered q)) ((ek2 q)) ((assign q)) ((fz1 q)) ((mK q)) ((rL q)) q x y hy))⟩
noncomputable def block(q:Nat):tW->Option uF:=(stS q).1
theorem ea4(q:Nat):Lw E5 36 gD rT (block q):=(gr4 q).1
noncomputable def gt1(q:Nat):am1->Option ap2:=(stS q).2.1
noncomputable def fg5(q:Nat):zO->Option ab3:=(stS q).2.2.1
noncomputable def ac0(q:Nat):eS->Option bK:=(stS q).2.2.2
end Go.Proofs.YtjfkkokeegpeiaaDoor
/- Procedures, lifted. -/
namespace Go.Proofs.YtjfkkokeegpeiaaDoor
open Go Go.Am Go.Proofs
set_option maxRecDepth 100000
abbrev bU:Type:=SP
abbrev uS:Type:=(SP)⊕(Nat×FS×FS×SP)⊕(Int×Int)
def bv8:AR bU:=λx=>([.ptr 0 0],[some (.blk [.ro 4 x.2.2.1 (λj=>[i64 (x.2.2.2.1 j),i64 (x.2.2.2.2.1 j),st (x.2.2.2.2.2.1 j),i64 (x.2.2.2.2.2.2.1 j)]),i64 x.1,i64 x.2.1,.sl 2 1 0 x.2.2.2.2.2.2.2.1,.sl 1 1 0 x.2.2.2.2.2.2.2.2.2.1]),some (.row 9 1 x.2.2.2.2.2.2.2.2.2.1 (λj=>[st (x.2.2.2.2.2.2.2.2.2.2 j)])),some (.row 9 1 x.2.2.2.2.2.2.2.1 (λj=>[st (x.2.2.2.2.2.2.2.2.1 j)]))])
def bw3:uS->CRes:=Sum.elim (λz:SP=>.ret g8 (hHP z)) (Sum.elim (λz:Nat×FS×FS×SP=>.ret (.sl 3 2 0 z.1) [some (.blk [.ro 4 z.2.2.2.2.2.1 (λj=>[i64 (z.2.2.2.2.2.2.1 j),i64 (z.2.2.2.2.2.2.2.1 j),st (z.2.2.2.2.2.2.2.2.1 j),i64 (z.2.2.2.2.2.2.2.2.2.1 j)]),i64 z.2.2.2.1,i64 z.2.2.2.2.1,.sl 1 1 0 z.2.2.2.2.2.2.2.2.2.2.1,.sl 2 1 0 z.2.2.2.2.2.2.2.2.2.2.2.2.1]),some (.row 9 1 z.2.2.2.2.2.2.2.2.2.2.1 (λj=>[st (z.2.2.2.2.2.2.2.2.2.2.2.1 j)])),some (.row 9 1 z.2.2.2.2.2.2.2.2.2.2.2.2.1 (λj=>[st (z.2.2.2.2.2.2.2.2.2.2.2.2.2 j)])),some (.row 49 2 z.1 (λj=>[st (z.2.1 j),st (z.2.2.1 j)]))]) (λz:Int×Int=>.pan (.ifc 51 (.agg [i64 z.1,i64 z.2]))))
abbrev aG:Type:=(SC2)⊕(Nat×FI×FI×FS×FI×Int×Int×Nat×Nat×FS×FS×FS×FS×Nat)
abbrev kL:Type:=(Int×Int)⊕(Nat×FI×FI×FS×FI×Int×Int×Nat×Nat×FS×FS×FS×FS×Nat)
def ct1(x:bU)(y:SC2):St:={fr:=[V.ptr 0 0,V.junk,V.junk,g8]++jk 54,H:=hp [some (hPB y),some (hPV y),some (jf5 y)],nx:=3,rt:=1,me:=35}
def cr8(s:St):SC2:=((u7 (cb s 0 0)),dTI (cb s 0 0) 0,dTI (cb s 0 0) 1,dTS (cb s 0 0) 2,dTI (cb s 0 0) 3,vI (cb s 0 1),vI (cb s 0 2),dB (cb s 0 3),dB (cb s 0 4),dRS (s.H 1) 0,dRS (s.H 2) 0)
def ct4(x:bU)(y:Nat×FI×FI×FS×FI×Int×Int×Nat×Nat×FS×FS×FS×FS×Nat):St:={fr:=[V.ptr 0 0,V.junk,V.junk,V.sl 3 2 0 y.2.2.2.2.2.2.2.2.2.2.2.2.2]++jk 54,H:=hp [some (hPB y),some (hPV y),some (hPQ y),some (Chunk.row 49 2 y.2.2.2.2.2.2.2.2.2.2.2.2.2 λj=>[st (y.2.2.2.2.2.2.2.2.2.2.2.1 j),st (y.2.2.2.2.2.2.2.2.2.2.2.2.1 j)])],nx:=4,rt:=1,me:=35}
def cw5(s:St):Nat×FI×FI×FS×FI×Int×Int×Nat×Nat×FS×FS×FS×FS×Nat:=((u7 (cb s 0 0)),dTI (cb s 0 0) 0,dTI (cb s 0 0) 1,dTS (cb s 0 0) 2,dTI (cb s 0 0) 3,vI (cb s 0 1),vI (cb s 0 2),dB (cb s 0 3),dB (cb s 0 4),dRS (s.H 1) 0,dRS (s.H 2) 0,dRS (s.H 3) 0,dRS (s.H 3) 1,dB (s.fr.getD 3 .junk))
def dV(x:bU):aG->St:=(Sum.elim (ct1 x) (ct4 x))
def dg8(s:St):aG:=(match s.nx==3 with|true=>(.inl (cr8 s)) |false=>(.inr (cw5 s)))
theorem dm6(x:bU):VL (dV x):=vl dg8 (λy=>by rcases y with y|y<;>rfl)
def lC(x:bU):kL->Ex×St:=(Sum.elim (λz=>(Ex.panic (V.ifc 51 (V.agg [i64 z.1,i64 z.2])),{fr:=[V.junk]++jk 57,H:=hp [none],nx:=1,rt:=1,me:=35})) (λz=>(Ex.exit 0,{fr:=[V.ptr 0 0,V.junk,V.junk,V.sl 3 2 0 z.2.2.2.2.2.2.2.2.2.2.2.2.2]++jk 54,H:=hp [some (hPB z),some (hPV z),some (hPQ z),some (Chunk.row 49 2 z.2.2.2.2.2.2.2.2.2.2.2.2.2 λj=>[st (z.2.2.2.2.2.2.2.2.2.2.2.1 j),st (z.2.2.2.2.2.2.2.2.2.2.2.2.1 j)])],nx:=4,rt:=1,me:=35})))
def gU{β:Type}(c_must:jT->Option iO)(c_take:mF->Option mG)(c_declare:y5->Option kS)(c_next:aM->Option aL)(c_Lookup:oL->Option oP)(c_fail:iC->Option iB)(x:bU)(y:SC2)(nx:aG->Option β)(dn:kL->Option β):Option β:=
 (c_declare (y.2.2.2.2.2.1,y.2.2.2.2.2.2.1,y.1,y.2.1,y.2.2.1,y.2.2.2.1,y.2.2.2.2.1,y.2.2.2.2.2.2.2.1,y.2.2.2.2.2.2.2.2.2.1,y.2.2.2.2.2.2.2.2.1,y.2.2.2.2.2.2.2.2.2.2)).bind λz985=>Sum.elim (λz985a=>(c_take (⟨#[58]⟩,z985a.2)).bind λz998=>if z998.1=true then(c_next z998.2).bind λz1010=>(c_Lookup z1010.2.2.1).bind λz1012=>if(z1010.1 !=1)=true then(c_fail (11,z1010.2.2.2.2)).bind λz1025=>dn (.inl z1025)else if(!z1012.2.2.2.2.2.2)=true then(c_fail (10,z1010.2.2.2.2)).bind λz1038=>dn (.inl z1038)else(c_take (⟨#[44]⟩,w (z1010.2.2.2.2.1+1),z1010.2.2.2.2.2)).bind λz1051=>if(!z1051.1)=true then dn (.inr (z1051.2.2.2.1,z1051.2.2.2.2.1,z1051.2.2.2.2.2.1,z1051.2.2.2.2.2.2.1,z1051.2.2.2.2.2.2.2.1,z1051.2.1,z1051.2.2.1,z1051.2.2.2.2.2.2.2.2.1,z1051.2.2.2.2.2.2.2.2.2.2.1,z1051.2.2.2.2.2.2.2.2.2.1,z1051.2.2.2.2.2.2.2.2.2.2.2,λj=>z985a.1,λj=>z1010.2.2.1,1))else nx (.inr (z1051.2.2.2.1,z1051.2.2.2.2.1,z1051.2.2.2.2.2.1,z1051.2.2.2.2.2.2.1,z1051.2.2.2.2.2.2.2.1,z1051.2.1,z1051.2.2.1,z1051.2.2.2.2.2.2.2.2.1,z1051.2.2.2.2.2.2.2.2.2.2.1,z1051.2.2.2.2.2.2.2.2.2.1,z1051.2.2.2.2.2.2.2.2.2.2.2,λj=>z985a.1,λj=>z1010.2.2.1,1))else(c_take (⟨#[44]⟩,z998.2)).bind λz1064=>if(!z1064.1)=true then dn (.inr (z1064.2.2.2.1,z1064.2.2.2.2.1,z1064.2.2.2.2.2.1,z1064.2.2.2.2.2.2.1,z1064.2.2.2.2.2.2.2.1,z1064.2.1,z1064.2.2.1,z1064.2.2.2.2.2.2.2.2.1,z1064.2.2.2.2.2.2.2.2.2.2.1,z1064.2.2.2.2.2.2.2.2.2.1,z1064.2.2.2.2.2.2.2.2.2.2.2,λj=>z985a.1,λj=>⟨#[]⟩,1))else nx (.inr (z1064.2.2.2.1,z1064.2.2.2.2.1,z1064.2.2.2.2.2.1,z1064.2.2.2.2.2.2.1,z1064.2.2.2.2.2.2.2.1,z1064.2.1,z1064.2.2.1,z1064.2.2.2.2.2.2.2.2.1,z1064.2.2.2.2.2.2.2.2.2.2.1,z1064.2.2.2.2.2.2.2.2.2.1,z1064.2.2.2.2.2.2.2.2.2.2.2,λj=>z985a.1,λj=>⟨#[]⟩,1))) (λz985b=>dn (.inl z985b)) z985
theorem cs9{β:Type}(c_must c_take)(c_declare c_next)(c_Lookup c_fail)(x)(y)(nx:aG->Option β)(dn):gU c_must c_take c_declare c_next c_Lookup c_fail x y nx dn=(gU c_must c_take c_declare c_next c_Lookup c_fail x y (λy=>some (.inl y)) (λz=>some (.inr z))).bind λr=>Sum.elim nx dn r:=by
 unfold gU
 repeat' first|exact n0|refine n1 λ_=>?_|refine n2 ?_ ?_|refine n3 (λ_=>?_) λ_=>?_|rfl
theorem ct0(c_must c_take)(c_declare c_next)(c_Lookup c_fail)(x)(y)(lo:f5):n8 E5 (ft2 32 t8 jA c_must (ftb 44 aC lG c_take (ft2 46 bS qL c_declare (ftb 18 j7 y6 c_next (ftb 16 eJ wQ c_Lookup (ftb 34 w9 lH c_fail ca0)))))) lo 0 9 (h9 E5 35 0) (dV x (.inl y)) (KCM [(0,9)] 4)=gU (vf t8 c_must) (vf aC c_take) (vf bS c_declare) (vf j7 c_next) (vf eJ c_Lookup) (vf w9 c_fail) x y (λy=>lo 0 9 (h9 E5 35 0) (dV x y) (KCM [(0,9)] 4)) (λz=>some (.l (lC x z).1 (lC x z).2)):=by kernel_rfl
def gS{β:Type}(c_must:jT->Option iO)(c_take:mF->Option mG)(c_declare:y5->Option kS)(c_next:aM->Option aL)(c_Lookup:oL->Option oP)(c_fail:iC->Option iB)(x:bU)(y:Nat×FI×FI×FS×FI×Int×Int×Nat×Nat×FS×FS×FS×FS×Nat)(nx:aG->Option β)(dn:kL->Option β):Option β:=
 (c_declare (y.2.2.2.2.2.1,y.2.2.2.2.2.2.1,y.1,y.2.1,y.2.2.1,y.2.2.2.1,y.2.2.2.2.1,y.2.2.2.2.2.2.2.1,y.2.2.2.2.2.2.2.2.2.1,y.2.2.2.2.2.2.2.2.1,y.2.2.2.2.2.2.2.2.2.2.1)).bind λz1078=>Sum.elim (λz1078a=>(c_take (⟨#[58]⟩,z1078a.2)).bind λz1091=>if z1091.1=true then(c_next z1091.2).bind λz1103=>(c_Lookup z1103.2.2.1).bind λz1105=>if(z1103.1 !=1)=true then(c_fail (11,z1103.2.2.2.2)).bind λz1118=>dn (.inl z1118)else if(!z1105.2.2.2.2.2.2)=true then(c_fail (10,z1103.2.2.2.2)).bind λz1131=>dn (.inl z1131)else if(y.2.2.2.2.2.2.2.2.2.2.2.2.2+1)*32<=d5/\y.2.2.2.2.2.2.2.2.2.2.2.2.2+1<=maxLen/\y.2.2.2.2.2.2.2.2.2.2.2.2.2<=y.2.2.2.2.2.2.2.2.2.2.2.2.2 then(c_take (⟨#[44]⟩,w (z1103.2.2.2.2.1+1),z1103.2.2.2.2.2)).bind λz1144=>if(!z1144.1)=true then dn (.inr (z1144.2.2.2.1,z1144.2.2.2.2.1,z1144.2.2.2.2.2.1,z1144.2.2.2.2.2.2.1,z1144.2.2.2.2.2.2.2.1,z1144.2.1,z1144.2.2.1,z1144.2.2.2.2.2.2.2.2.1,z1144.2.2.2.2.2.2.2.2.2.2.1,z1144.2.2.2.2.2.2.2.2.2.1,z1144.2.2.2.2.2.2.2.2.2.2.2,λj=>if j<y.2.2.2.2.2.2.2.2.2.2.2.2.2 then y.2.2.2.2.2.2.2.2.2.2.2.1 j else z1078a.1,λj=>if j<y.2.2.2.2.2.2.2.2.2.2.2.2.2 then y.2.2.2.2.2.2.2.2.2.2.2.2.1 j else z1103.2.2.1,y.2.2.2.2.2.2.2.2.2.2.2.2.2+1))else nx (.inr (z1144.2.2.2.1,z1144.2.2.2.2.1,z1144.2.2.2.2.2.1,z1144.2.2.2.2.2.2.1,z1144.2.2.2.2.2.2.2.1,z1144.2.1,z1144.2.2.1,z1144.2.2.2.2.2.2.2.2.1,z1144.2.2.2.2.2.2.2.2.2.2.1,z1144.2.2.2.2.2.2.2.2.2.1,z1144.2.2.2.2.2.2.2.2.2.2.2,λj=>if j<y.2.2.2.2.2.2.2.2.2.2.2.2.2 then y.2.2.2.2.2.2.2.2.2.2.2.1 j else z1078a.1,λj=>if j<y.2.2.2.2.2.2.2.2.2.2.2.2.2 then y.2.2.2.2.2.2.2.2.2.2.2.2.1 j else z1103.2.2.1,y.2.2.2.2.2.2.2.2.2.2.2.2.2+1))else none else if(y.2.2.2.2.2.2.2.2.2.2.2.2.2+1)*32<=d5/\y.2.2.2.2.2.2.2.2.2.2.2.2.2+1<=maxLen/\y.2.2.2.2.2.2.2.2.2.2.2.2.2<=y.2.2.2.2.2.2.2.2.2.2.2.2.2 then(c_take (⟨#[44]⟩,z1091.2)).bind λz1157=>if(!z1157.1)=true then dn (.inr (z1157.2.2.2.1,z1157.2.2.2.2.1,z1157.2.2.2.2.2.1,z1157.2.2.2.2.2.2.1,z1157.2.2.2.2.2.2.2.1,z1157.2.1,z1157.2.2.1,z1157.2.2.2.2.2.2.2.2.1,z1157.2.2.2.2.2.2.2.2.2.2.1,z1157.2.2.2.2.2.2.2.2.2.1,z1157.2.2.2.2.2.2.2.2.2.2.2,λj=>if j<y.2.2.2.2.2.2.2.2.2.2.2.2.2 then y.2.2.2.2.2.2.2.2.2.2.2.1 j else z1078a.1,λj=>if j<y.2.2.2.2.2.2.2.2.2.2.2.2.2 then y.2.2.2.2.2.2.2.2.2.2.2.2.1 j else⟨#[]⟩,y.2.2.2.2.2.2.2.2.2.2.2.2.2+1))else nx (.inr (z1157.2.2.2.1,z1157.2.2.2.2.1,z1157.2.2.2.2.2.1,z1157.2.2.2.2.2.2.1,z1157.2.2.2.2.2.2.2.1,z1157.2.1,z1157.2.2.1,z1157.2.2.2.2.2.2.2.2.1,z1157.2.2.2.2.2.2.2.2.2.2.1,z1157.2.2.2.2.2.2.2.2.2.1,z1157.2.2.2.2.2.2.2.2.2.2.2,λj=>if j<y.2.2.2.2.2.2.2.2.2.2.2.2.2 then y.2.2.2.2.2.2.2.2.2.2.2.1 j else z1078a.1,λj=>if j<y.2.2.2.2.2.2.2.2.2.2.2.2.2 then y.2.2.2.2.2.2.2.2.2.2.2.2.1 j else⟨#[]⟩,y.2.2.2.2.2.2.2.2.2.2.2.2.2+1))else none) (λz1078b=>dn (.inl z1078b)) z1078
theorem cv5{β:Type}(c_must c_take)(c_declare c_next)(c_Lookup c_fail)(x)(y)(nx:aG->Option β)(dn):gS c_must c_take c_declare c_next c_Lookup c_fail x y nx dn=(gS c_must c_take c_declare c_next c_Lookup c_fail x y (λy=>some (.inl y)) (λz=>some (.inr z))).bind λr=>Sum.elim nx dn r:=by
 unfold gS
 repeat' first|exact n0|refine n1 λ_=>?_|refine n2 ?_ ?_|refine n3 (λ_=>?_) λ_=>?_|rfl
theorem ct2(c_must c_take)(c_declare c_next)(c_Lookup c_fail)(x)(y)(lo:f5):n8 E5 (ft2 32 t8 jA c_must (ftb 44 aC lG c_take (ft2 46 bS qL c_declare (ftb 18 j7 y6 c_next (ftb 16 eJ wQ c_Lookup (ftb 34 w9 lH c_fail ca0)))))) lo 0 9 (h9 E5 35 0) (dV x (.inr y)) (KCM [(0,9)] 4)=gS (vf t8 c_must) (vf aC c_take) (vf bS c_declare) (vf j7 c_next) (vf eJ c_Lookup) (vf w9 c_fail) x y (λy=>lo 0 9 (h9 E5 35 0) (dV x y) (KCM [(0,9)] 4)) (λz=>some (.l (lC x z).1 (lC x z).2)):=by kernel_rfl
noncomputable def wE(c_must:jT->Option iO)(c_take:mF->Option mG)(c_declare:y5->Option kS)(c_next:aM->Option aL)(c_Lookup:oL->Option oP)(c_fail:iC->Option iB)(q:Nat)(x:bU):aG->Option kL:=lpG (Sum.elim (λy=>gU c_must c_take c_declare c_next c_Lookup c_fail x y (λy=>some (.inl y)) (λz=>some (.inr z))) (λy=>gS c_must c_take c_declare c_next c_Lookup c_fail x y (λy=>some (.inl y)) (λz=>some (.inr z)))) q
theorem dg9(c_must)(h_must:Lw E5 32 t8 jA c_must)(c_take)(h_take:Lw E5 44 aC lG c_take)(c_declare)(h_declare:Lw E5 46 bS qL c_declare)(c_next)(h_next:Lw E5 18 j7 y6 c_next)(c_Lookup)(h_Lookup:Lw E5 16 eJ wQ c_Lookup)(c_fail)(h_fail:Lw E5 34 w9 lH c_fail)(q:Nat)(x:bU):Ll E5 (h9 E5 35 0) (dV x) (lC x) (wE c_must c_take c_declare c_next c_Lookup c_fail q x):=
 slp (fk2 h_must (fk h_take (fk2 h_declare (fk h_next (fk h_Lookup (fk h_fail a8)))))) hX5 (λlo y=>by
  rcases y with y|y
  ·exact(ct0 c_must c_take c_declare c_next c_Lookup c_fail x y lo).trans (by rw[vY,ae0,av3,iD,bh5,vV];exact cs9 _ _ _ _ _ _ _ _ _ _)
  ·exact(ct2 c_must c_take c_declare c_next c_Lookup c_fail x y lo).trans (by rw[vY,ae0,av3,iD,bh5,vV];exact cv5 _ _ _ _ _ _ _ _ _ _)) (λz=>by rcases z with z|z<;>kernel_rfl) q
def uQ{β:Type}(c_must:jT->Option iO)(c_take:mF->Option mG)(c_declare:y5->Option kS)(c_next:aM->Option aL)(c_Lookup:oL->Option oP)(c_fail:iC->Option iB)(l_paramsR_l0:aG->Option kL)(x:bU)(dn:uS->Option β):Option β:=
 (c_must (⟨#[40]⟩,x)).bind λz12=>Sum.elim (λz12a=>(c_take (⟨#[41]⟩,z12a)).bind λz25=>if z25.1=true then dn (.inl z25.2)else(l_paramsR_l0 (.inl (z25.2.2.2.1,z25.2.2.2.2.1,z25.2.2.2.2.2.1,z25.2.2.2.2.2.2.1,z25.2.2.2.2.2.2.2.1,z25.2.1,z25.2.2.1,z25.2.2.2.2.2.2.2.2.1,z25.2.2.2.2.2.2.2.2.2.2.1,z25.2.2.2.2.2.2.2.2.2.1,z25.2.2.2.2.2.2.2.2.2.2.2))).bind λz918=>Sum.elim (λz918a=>dn (.inr (.inr z918a))) (λz918b=>(c_must (⟨#[41]⟩,z918b.2.2.2.2.2.1,z918b.2.2.2.2.2.2.1,z918b.1,z918b.2.1,z918b.2.2.1,z918b.2.2.2.1,z918b.2.2.2.2.1,z918b.2.2.2.2.2.2.2.1,z918b.2.2.2.2.2.2.2.2.2.1,z918b.2.2.2.2.2.2.2.2.1,z918b.2.2.2.2.2.2.2.2.2.2.1)).bind λz932=>Sum.elim (λz932a=>dn (.inr (.inl (z918b.2.2.2.2.2.2.2.2.2.2.2.2.2,z918b.2.2.2.2.2.2.2.2.2.2.2.1,z918b.2.2.2.2.2.2.2.2.2.2.2.2.1,z932a)))) (λz932b=>dn (.inr (.inr z932b))) z932) z918) (λz12b=>dn (.inr (.inr z12b))) z12
theorem fz4{β:Type}(c_must c_take)(c_declare c_next)(c_Lookup c_fail)(l_paramsR_l0)(x)(dn:uS->Option β):uQ c_must c_take c_declare c_next c_Lookup c_fail l_paramsR_l0 x dn=(uQ c_must c_take c_declare c_next c_Lookup c_fail l_paramsR_l0 x some).bind dn:=by
 unfold uQ
 repeat' first|exact n0|refine n1 λ_=>?_|refine n2 ?_ ?_|refine n3 (λ_=>?_) λ_=>?_|rfl
theorem fw3(c_must c_take)(c_declare c_next)(c_Lookup c_fail)(l_paramsR_l0)(x):f7 E5 (ft2 32 t8 jA c_must (ftb 44 aC lG c_take (ft2 46 bS qL c_declare (ftb 18 j7 y6 c_next (ftb 16 eJ wQ c_Lookup (ftb 34 w9 lH c_fail ca0)))))) (lt2 0 (λ_=>true) (h9 E5 35 0) (dV x) (lC x) l_paramsR_l0 lo0) 35 (bv8 x).1 (bv8 x).2 K=uQ (vf t8 c_must) (vf aC c_take) (vf bS c_declare) (vf j7 c_next) (vf eJ c_Lookup) (vf w9 c_fail) (lf (h9 E5 35 0) (dV x) l_paramsR_l0) x (λz=>some (.c (bw3 z))):=by kernel_rfl
noncomputable def cd5(q:Nat)(x:bU):Option uS:=uQ (mK q) (take q) (pA q) (next q) (xB q) (fail q) (wE (mK q) (take q) (pA q) (next q) (xB q) (fail q) q x) x some
theorem fb2(q:Nat):Lw E5 35 bv8 bw3 (cd5 q):=sof hW5 hX5 (fk2 (rL q) (fk (ax9 q) (fk2 (bc8 q) (fk (lU q) (fk (bt5 q) (fk (rP q) a8)))))) (λx=>(lk2 (dg9 (mK q) (rL q) (take q) (ax9 q) (pA q) (bc8 q) (next q) (lU q) (xB q) (bt5 q) (fail q) (rP q) q x) cB)) λx=>(fw3 (mK q) (take q) (pA q) (next q) (xB q) (fail q) (wE (mK q) (take q) (pA q) (next q) (xB q) (fail q) q x) x).trans (by rw[vY,ae0,av3,iD,bh5,vV,dm6,fz4]<;>rfl)
abbrev zV:Type:=Int×Int×Nat×FI×FI×FS×FI×Nat×FS
abbrev ac7:Type:=(Nat×FS×FS×SP)⊕(Int×Int)
def wX:AR zV:=λx=>([.ptr 0 0],[some (.blk [.ro 4 x.2.2.1 (λj=>[i64 (x.2.2.2.1 j),i64 (x.2.2.2.2.1 j),st (x.2.2.2.2.2.1 j),i64 (x.2.2.2.2.2.2.1 j)]),i64 x.1,i64 x.2.1,g8,.sl 1 1 0 x.2.2.2.2.2.2.2.1]),some (.row 9 1 x.2.2.2.2.2.2.2.1 (λj=>[st (x.2.2.2.2.2.2.2.2 j)]))])
def gm9(t:TT):zV:=((vI (cc t 0 1)),vI (cc t 0 2),u7 (cc t 0 0),dTI (cc t 0 0) 0,dTI (cc t 0 0) 1,dTS (cc t 0 0) 2,dTI (cc t 0 0) 3,dB (cc t 0 4),dRS (co t 1) 0)
theorem dt0:VI wX:=vd gm9 λ_=>rfl
def al4:ac7->CRes:=Sum.elim (λz:Nat×FS×FS×SP=>.ret (.ro 2 z.1 (λj=>[st (z.2.1 j),st (z.2.2.1 j)])) (hHP z.2.2.2)) (λz:Int×Int=>.pan (.ifc 51 (.agg [i64 z.1,i64 z.2])))
def at2:uS->ac7:=Sum.elim (λz=>.inl (0,λ_=>ByteArray.empty,λ_=>ByteArray.empty,z)) (Sum.elim (λz=>.inl z) (λz=>.inr z))
theorem eu0{args:List V}{L:List (Option Chunk)}(z:uS)(h:SC E5 35 args L (bw3 z)):SC E5 35 args L (al4 (at2 z)):=by
 rcases z with z|z|z
 ·exact SC.le h Le.nil_ro
 ·have h2:=SC.giveM (L2:=[some (.blk [.ro 4 z.2.2.2.2.2.1 (λj=>[i64 (z.2.2.2.2.2.2.1 j),i64 (z.2.2.2.2.2.2.2.1 j),st (z.2.2.2.2.2.2.2.2.1 j),i64 (z.2.2.2.2.2.2.2.2.2.1 j)]),i64 z.2.2.2.1,i64 z.2.2.2.2.1,.sl 1 1 0 z.2.2.2.2.2.2.2.2.2.2.1,.sl 2 1 0 z.2.2.2.2.2.2.2.2.2.2.2.2.1]),some (.row 9 1 z.2.2.2.2.2.2.2.2.2.2.1 (λj=>[st (z.2.2.2.2.2.2.2.2.2.2.2.1 j)])),some (.row 9 1 z.2.2.2.2.2.2.2.2.2.2.2.2.1 (λj=>[st (z.2.2.2.2.2.2.2.2.2.2.2.2.2 j)]))]) 3 h (by rfl) (by simp[V.bw,V.bw2,V.bw1,hp,V.pure,m8]);simp only[V.bw,V.bw2,V.bw1,hp,List.getD_eq_getElem?_getD,List.getElem?_cons_succ,List.getElem?_cons_zero,Option.getD_some,Nat.zero_add,Nat.le_refl,and_self,if_true]at h2;exact h2
 ·exact h
noncomputable def params(q:Nat)(x:zV):Option ac7:=(cd5 q (x.1,x.2.1,x.2.2.1,x.2.2.2.1,x.2.2.2.2.1,x.2.2.2.2.2.1,x.2.2.2.2.2.2.1,0,λ_=>ByteArray.empty,x.2.2.2.2.2.2.2)).map at2
theorem cz3(q:Nat):Lw E5 35 wX al4 (params q):=by
 intro x z h;obtain⟨y,hy,rfl⟩:=Option.map_eq_some_iff.1 h;have:=eu0 y (fb2 q _ y hy);refine SC.virtB 0 [.ro 4 x.2.2.1 (λj=>[i64 (x.2.2.2.1 j),i64 (x.2.2.2.2.1 j),st (x.2.2.2.2.2.1 j),i64 (x.2.2.2.2.2.2.1 j)]),i64 x.1,i64 x.2.1,.sl 2 1 0 0,.sl 1 1 0 x.2.2.2.2.2.2.2.1] 9 1 (λj=>[st ByteArray.empty]) (by decide) this rfl (λβ S w us b hb hd=>?_) (by show 1<=2;decide) (by show 1<=1;decide);simp only[b8]at hd⊢;obtain⟨u1,r1,rfl,h1,u2,r2,rfl,h2,u3,r3,rfl,h3,u4,r4,rfl,h4,u5,r5,rfl,h5,rfl⟩:=hd;exact⟨u1,_,rfl,h1,u2,_,rfl,h2,u3,_,rfl,h3,u4,_,rfl,er3 (by show 2<3;decide) hb h4,u5,_,rfl,h5,rfl⟩
abbrev m7:Type:=SP
abbrev t6:Type:=(ByteArray×Nat×FS×FS×Int×Int×ByteArray×Nat×FL×SP)⊕(Int×Int)
def l7:AR m7:=λx=>([.ptr 0 0],(hHP x))
def dw7(t:TT):m7:=(dHP t.2)
theorem oA:VI l7:=vd dw7 λ_=>rfl
def aN:t6->CRes:=Sum.elim (λz:ByteArray×Nat×FS×FS×Int×Int×ByteArray×Nat×FL×SP=>.ret (.agg [st z.1,.ro 2 z.2.1 (λj=>[st (z.2.2.1 j),st (z.2.2.2.1 j)]),i64 z.2.2.2.2.1,i64 z.2.2.2.2.2.1,st z.2.2.2.2.2.2.1,.ro 4 z.2.2.2.2.2.2.2.1 z.2.2.2.2.2.2.2.2.1]) (hHP z.2.2.2.2.2.2.2.2.2)) (λz:Int×Int=>.pan (.ifc 51 (.agg [i64 z.1,i64 z.2])))
abbrev bZ:Type:=Nat×Int×Nat×FI×FI×FS×FI×Int×Int×Nat×FS×FS×ByteArray×Int
abbrev pJ:Type:=(Int×Int)⊕(Nat×FI×FI×FS×FI×Int×Int×Nat×Nat×FS×FS×ByteArray)
def eH(x:m7)(y:bZ):St:={fr:=[V.ptr 0 0,V.junk,V.ptr 3 0,V.ptr 4 0]++jk 10++[V.sl 2 1 0 y.1,i64 y.2.1,i64 y.2.2.2.2.2.2.2.2.2.2.2.2.2]++jk 38,H:=hp [some (Chunk.blk [V.ro 4 y.2.2.1 λj=>[i64 (y.2.2.2.1 j),i64 (y.2.2.2.2.1 j),st (y.2.2.2.2.2.1 j),i64 (y.2.2.2.2.2.2.1 j)],i64 y.2.2.2.2.2.2.2.1,i64 y.2.2.2.2.2.2.2.2.1,V.sl 1 1 0 y.2.2.2.2.2.2.2.2.2.1,V.sl 2 1 0 y.1]),some (Chunk.row 9 1 y.2.2.2.2.2.2.2.2.2.1 λj=>[st (y.2.2.2.2.2.2.2.2.2.2.1 j)]),some (Chunk.row 9 1 y.1 λj=>[st (y.2.2.2.2.2.2.2.2.2.2.2.1 j)]),some (Chunk.blk [st ⟨#[]⟩,g8,i64 0,i64 0,st ⟨#[]⟩,g8]),some (Chunk.blk [st y.2.2.2.2.2.2.2.2.2.2.2.2.1,g8,i64 0,i64 0,st ⟨#[]⟩,g8])],nx:=5,rt:=1,me:=19}
def cm7(s:St):bZ:=((dB (s.fr.getD 14 .junk)),vI (s.fr.getD 15 .junk),u7 (cb s 0 0),dTI (cb s 0 0) 0,dTI (cb s 0 0) 1,dTS (cb s 0 0) 2,dTI (cb s 0 0) 3,vI (cb s 0 1),vI (cb s 0 2),dB (cb s 0 3),dRS (s.H 1) 0,dRS (s.H 2) 0,vS (cb s 4 0),vI (s.fr.getD 16 .junk))
theorem ce9(x:m7):VL (eH x):=vl cm7 λ_=>rfl
def oW(x:m7):pJ->Ex×St:=(Sum.elim (λz=>(Ex.panic (V.ifc 51 (V.agg [i64 z.1,i64 z.2])),{fr:=[V.junk]++jk 54,H:=hp [none],nx:=1,rt:=1,me:=19})) (λz=>(Ex.exit 0,{fr:=[V.ptr 0 0,V.junk,V.ptr 3 0,V.ptr 4 0]++jk 51,H:=hp [some (hPB z),some (hPV z),some (hPQ z),some (Chunk.blk [st ⟨#[]⟩,g8,i64 0,i64 0,st ⟨#[]⟩,g8]),some (Chunk.blk [st z.2.2.2.2.2.2.2.2.2.2.2,g8,i64 0,i64 0,st ⟨#[]⟩,g8])],nx:=5,rt:=1,me:=19})))
def aP{β:Type}(c_must:jT->Option iO)(c_name:tF->Option tC)(c_fail:iC->Option iB)(c_params:zV->Option ac7)(c_block:tW->Option uF)(x:m7)(y:bZ)(nx:bZ->Option β)(dn:pJ->Option β):Option β:=
 if decide (y.2.2.2.2.2.2.2.2.2.2.2.2.2<y.2.1)=true then if 0<=y.2.2.2.2.2.2.2.2.2.2.2.2.2/\y.2.2.2.2.2.2.2.2.2.2.2.2.2< ((y.1:Nat):Int)then if 0+Int.toNat y.2.2.2.2.2.2.2.2.2.2.2.2.2<y.1/\1=1 then if(ByteArray.toList (y.2.2.2.2.2.2.2.2.2.2.2.1 (0+Int.toNat y.2.2.2.2.2.2.2.2.2.2.2.2.2))==y.2.2.2.2.2.2.2.2.2.2.2.2.1.toList)=true then(c_fail (4,w (y.2.2.2.2.2.2.2.1-1),y.2.2.2.2.2.2.2.2.1,y.2.2.1,y.2.2.2.1,y.2.2.2.2.1,y.2.2.2.2.2.1,y.2.2.2.2.2.2.1,y.2.2.2.2.2.2.2.2.2.1,y.2.2.2.2.2.2.2.2.2.2.1,y.1,y.2.2.2.2.2.2.2.2.2.2.2.1)).bind λz195=>dn (.inl z195)else nx (y.1,y.2.1,y.2.2.1,y.2.2.2.1,y.2.2.2.2.1,y.2.2.2.2.2.1,y.2.2.2.2.2.2.1,y.2.2.2.2.2.2.2.1,y.2.2.2.2.2.2.2.2.1,y.2.2.2.2.2.2.2.2.2.1,y.2.2.2.2.2.2.2.2.2.2.1,y.2.2.2.2.2.2.2.2.2.2.2.1,y.2.2.2.2.2.2.2.2.2.2.2.2.1,w (y.2.2.2.2.2.2.2.2.2.2.2.2.2+1))else none else none else dn (.inr (y.2.2.1,y.2.2.2.1,y.2.2.2.2.1,y.2.2.2.2.2.1,y.2.2.2.2.2.2.1,y.2.2.2.2.2.2.2.1,y.2.2.2.2.2.2.2.2.1,y.2.2.2.2.2.2.2.2.2.1,y.1,y.2.2.2.2.2.2.2.2.2.2.1,y.2.2.2.2.2.2.2.2.2.2.2.1,y.2.2.2.2.2.2.2.2.2.2.2.2.1))
theorem cp4{β:Type}(c_must c_name)(c_fail c_params c_block)(x)(y)(nx:bZ->Option β)(dn):aP c_must c_name c_fail c_params c_block x y nx dn=(aP c_must c_name c_fail c_params c_block x y (λy=>some (.inl y)) (λz=>some (.inr z))).bind λr=>Sum.elim nx dn r:=by
 unfold aP
 repeat' first|exact n0|refine n1 λ_=>?_|refine n2 ?_ ?_|refine n3 (λ_=>?_) λ_=>?_|rfl
theorem cj8(c_must c_name)(c_fail c_params c_block)(x)(y)(lo:f5):n8 E5 (ft2 32 t8 jA c_must (ft2 33 fR wU c_name (ftb 34 w9 lH c_fail (fg2 35 (λ_ L=>L.length==2) wX al4 c_params (ft2 36 gD rT c_block ca0))))) lo 0 114701 (h9 E5 19 0) (eH x y) (KCM [(0,13)] 4)=aP (vf t8 c_must) (vf fR c_name) (vf w9 c_fail) (vf wX c_params) (vf gD c_block) x y (λy=>lo 0 114701 (h9 E5 19 0) (eH x y) (KCM [(0,13)] 4)) (λz=>some (.l (oW x z).1 (oW x z).2)):=by kernel_rfl
noncomputable def uC(c_must:jT->Option iO)(c_name:tF->Option tC)(c_fail:iC->Option iB)(c_params:zV->Option ac7)(c_block:tW->Option uF)(q:Nat)(x:m7):bZ->Option pJ:=lpG (λy=>aP c_must c_name c_fail c_params c_block x y (λy=>some (.inl y)) (λz=>some (.inr z))) q
theorem cl0(c_must)(h_must:Lw E5 32 t8 jA c_must)(c_name)(h_name:Lw E5 33 fR wU c_name)(c_fail)(h_fail:Lw E5 34 w9 lH c_fail)(c_params)(h_params:Lw E5 35 wX al4 c_params)(c_block)(h_block:Lw E5 36 gD rT c_block)(q:Nat)(x:m7):Ll E5 (h9 E5 19 0) (eH x) (oW x) (uC c_must c_name c_fail c_params c_block q x):=
 slp (fk2 h_must (fk2 h_name (fk h_fail (fk2 h_params (fk2 h_block a8))))) hX5 (λlo y=>(cj8 c_must c_name c_fail c_params c_block x y lo).trans (by rw[vY,bs7,vV,dt0,cc9];exact cp4 _ _ _ _ _ _ _ _ _)) (λz=>by rcases z with z|z<;>kernel_rfl) q
def nP{β:Type}(c_must:jT->Option iO)(c_name:tF->Option tC)(c_fail:iC->Option iB)(c_params:zV->Option ac7)(c_block:tW->Option uF)(l_procedure_l0:bZ->Option pJ)(x:m7)(dn:t6->Option β):Option β:=
 (c_must (⟨#[112,114,111,99,101,100,117,114,101]⟩,x)).bind λz12=>Sum.elim (λz12a=>(c_name z12a).bind λz24=>Sum.elim (λz24a=>(l_procedure_l0 (z24a.2.2.2.2.2.2.2.2.2.2.1,((z24a.2.2.2.2.2.2.2.2.2.2.1:Nat):Int),z24a.2.2.2.1,z24a.2.2.2.2.1,z24a.2.2.2.2.2.1,z24a.2.2.2.2.2.2.1,z24a.2.2.2.2.2.2.2.1,z24a.2.1,z24a.2.2.1,z24a.2.2.2.2.2.2.2.2.1,z24a.2.2.2.2.2.2.2.2.2.1,z24a.2.2.2.2.2.2.2.2.2.2.2,z24a.1,0)).bind λz121=>Sum.elim (λz121a=>dn (.inr z121a)) (λz121b=>if(z121b.2.2.2.2.2.2.2.2.1+1)*16<=d5/\z121b.2.2.2.2.2.2.2.2.1+1<=maxLen/\z121b.2.2.2.2.2.2.2.2.1<=z121b.2.2.2.2.2.2.2.2.1 then(c_params (z121b.2.2.2.2.2.1,z121b.2.2.2.2.2.2.1,z121b.1,z121b.2.1,z121b.2.2.1,z121b.2.2.2.1,z121b.2.2.2.2.1,z121b.2.2.2.2.2.2.2.2.1+1,λj=>if j<z121b.2.2.2.2.2.2.2.2.1 then z121b.2.2.2.2.2.2.2.2.2.2.1 j else z121b.2.2.2.2.2.2.2.2.2.2.2)).bind λz132=>Sum.elim (λz132a=>(c_block z132a.2.2.2).bind λz144=>Sum.elim (λz144a=>dn (.inl (z121b.2.2.2.2.2.2.2.2.2.2.2,z132a.1,z132a.2.1,z132a.2.2.1,z144a))) (λz144b=>dn (.inr z144b)) z144) (λz132b=>dn (.inr z132b)) z132 else none) z121) (λz24b=>dn (.inr z24b)) z24) (λz12b=>dn (.inr z12b)) z12
theorem du7{β:Type}(c_must c_name)(c_fail c_params c_block)(l_procedure_l0)(x)(dn:t6->Option β):nP c_must c_name c_fail c_params c_block l_procedure_l0 x dn=(nP c_must c_name c_fail c_params c_block l_procedure_l0 x some).bind dn:=by
 unfold nP
 repeat' first|exact n0|refine n1 λ_=>?_|refine n2 ?_ ?_|refine n3 (λ_=>?_) λ_=>?_|rfl
theorem ei1(c_must c_name)(c_fail c_params c_block)(l_procedure_l0)(x):f7 E5 (ft2 32 t8 jA c_must (ft2 33 fR wU c_name (ftb 34 w9 lH c_fail (fg2 35 (λ_ L=>L.length==2) wX al4 c_params (ft2 36 gD rT c_block ca0))))) (lt2 0 (λ_=>true) (h9 E5 19 0) (eH x) (oW x) l_procedure_l0 lo0) 19 (l7 x).1 (l7 x).2 K=nP (vf t8 c_must) (vf fR c_name) (vf w9 c_fail) (vf wX c_params) (vf gD c_block) (lf (h9 E5 19 0) (eH x) l_procedure_l0) x (λz=>some (.c (aN z))):=by kernel_rfl
noncomputable def y9(q:Nat)(x:m7):Option t6:=nP (mK q) (name q) (fail q) (params q) (block q) (uC (mK q) (name q) (fail q) (params q) (block q) q x) x some
theorem tQ(q:Nat):Lw E5 19 l7 aN (y9 q):=sof hW5 hX5 (fk2 (rL q) (fk2 (ax2 q) (fk (rP q) (fk2 (cz3 q) (fk2 (ea4 q) a8))))) (λx=>(lk2 (cl0 (mK q) (rL q) (name q) (ax2 q) (fail q) (rP q) (params q) (cz3 q) (block q) (ea4 q) q x) cB)) λx=>(ei1 (mK q) (name q) (fail q) (params q) (block q) (uC (mK q) (name q) (fail q) (params q) (block q) q x) x).trans (by rw[vY,bs7,vV,dt0,cc9,ce9,du7]<;>rfl)
abbrev v7:Type:=Int×Int×Nat×FI×FI×FS×FI
abbrev aI:Type:=(ByteArray×Nat×FS×FS×Int×Int×ByteArray×Nat×FL×SP)⊕(Int×Int)
def l5:AR v7:=λx=>([.ptr 0 0],[some (.blk [.ro 4 x.2.2.1 (λj=>[i64 (x.2.2.2.1 j),i64 (x.2.2.2.2.1 j),st (x.2.2.2.2.2.1 j),i64 (x.2.2.2.2.2.2 j)]),i64 x.1,i64 x.2.1,g8,g8])])
def dp6(t:TT):v7:=((vI (cc t 0 1)),vI (cc t 0 2),u7 (cc t 0 0),dTI (cc t 0 0) 0,dTI (cc t 0 0) 1,dTS (cc t 0 0) 2,dTI (cc t 0 0) 3)
theorem lB:VI l5:=vd dp6 λ_=>rfl
def w6:aI->CRes:=Sum.elim (λz:ByteArray×Nat×FS×FS×Int×Int×ByteArray×Nat×FL×SP=>.ret (.agg [st z.1,.ro 2 z.2.1 (λj=>[st (z.2.2.1 j),st (z.2.2.2.1 j)]),i64 z.2.2.2.2.1,i64 z.2.2.2.2.2.1,st z.2.2.2.2.2.2.1,.ro 4 z.2.2.2.2.2.2.2.1 z.2.2.2.2.2.2.2.2.1]) (hHP z.2.2.2.2.2.2.2.2.2)) (λz:Int×Int=>.pan (.ifc 51 (.agg [i64 z.1,i64 z.2])))
noncomputable def y8(q:Nat)(x:v7):Option aI:=y9 q (x.1,x.2.1,x.2.2.1,x.2.2.2.1,x.2.2.2.2.1,x.2.2.2.2.2.1,x.2.2.2.2.2.2,0,λ_=>ByteArray.empty,0,λ_=>ByteArray.empty)
theorem yU(q:Nat):Lw E5 19 l5 w6 (y8 q):=by
 intro x z h;have this:=tQ q _ z h;refine SC.virtB 0 [.ro 4 x.2.2.1 (λj=>[i64 (x.2.2.2.1 j),i64 (x.2.2.2.2.1 j),st (x.2.2.2.2.2.1 j),i64 (x.2.2.2.2.2.2 j)]),i64 x.1,i64 x.2.1,.sl 1 1 0 0,g8] 9 1 (λj=>[st ByteArray.empty]) (by decide) (cr:=w6 z) (SC.virtB 0 [.ro 4 x.2.2.1 (λj=>[i64 (x.2.2.2.1 j),i64 (x.2.2.2.2.1 j),st (x.2.2.2.2.2.1 j),i64 (x.2.2.2.2.2.2 j)]),i64 x.1,i64 x.2.1,.sl 1 1 0 0,.sl 2 1 0 0] 9 1 (λj=>[st ByteArray.empty]) (by decide) this rfl (λβ S w us b hb hd=>?_) (by show 1<=2;decide) (by show 1<=1;decide)) rfl (λβ S w us b hb hd=>?_) (by show 1<=1;decide) (by show 1<=1;decide)
 all_goals
  simp only[b8]at hd⊢;obtain⟨u1,r1,rfl,h1,u2,r2,rfl,h2,u3,r3,rfl,h3,u4,r4,rfl,h4,u5,r5,rfl,h5,rfl⟩:=hd
 ·exact⟨u1,_,rfl,h1,u2,_,rfl,h2,u3,_,rfl,h3,u4,_,rfl,h4,u5,_,rfl,er3 (by show 2<3;decide) hb h5,rfl⟩
 ·exact⟨u1,_,rfl,h1,u2,_,rfl,h2,u3,_,rfl,h3,u4,_,rfl,er3 (by show 1<2;decide) hb h4,u5,_,rfl,h5,rfl⟩
end Go.Proofs.YtjfkkokeegpeiaaDoor

