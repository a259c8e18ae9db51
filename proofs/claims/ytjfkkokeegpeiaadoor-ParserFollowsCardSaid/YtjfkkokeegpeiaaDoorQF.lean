/- Texts joined. -/
import Derived.Test.YtjfkkokeegpeiaaDoorQE
import Derived.Test.YtjfkkokeegpeiaaDoorQD
import Derived.Lib.Strings
import Derived.Test.YtjfkkokeegpeiaaDoorQC
/- Parse panics and recovers. -/
set_option linter.unusedSimpArgs false
set_option linter.unusedVariables false
namespace Go.Proofs.YtjfkkokeegpeiaaDoor
open Go Go.Am Go.RowKit
set_option maxRecDepth 100000
noncomputable def c8:ACode:=match E5.code 8 with|some c=>c|none=>.skip
noncomputable def c21:ACode:=match E5.code 17 with|some c=>c|none=>.skip
theorem c8_ok:E5.code 8=some c8:=by kernel_rfl
def opsD : Array Oper := #[{ dst := some 17, op := Op.makeFunc (Fn.func 17) #[] #[Operand.tmp 2, Operand.tmp 3, Operand.tmp 4], type := 1, pos := "parser.go:391", after := #[], guard := none },
  { dst := none, op := Op.defer { callee := Callee.value (Operand.tmp 17), args := #[], argTypes := #[] }, type := 0, pos := "parser.go:391", after := #[{ on := 0, ground := Ground.data }], guard := none }]
theorem c8_eq:c8.erase= .seq (pie8 0 c8).erase (.seq (pie8 1 c8).erase (.seq (pie8 2 c8).erase (.seq (.region 4 opsD false) (sel8 4 c8).erase))):=by kernel_rfl
def dcl(u0 u1 u2:Value):Deferred:={target:=.fn (.func 17) #[u0,u1,u2],args:=#[]}
theorem stepD{Q:Exit→Act→World→Prop}{a:Act}{w:World}(hs:a.tmps.size=31)
 (hQ:Q .normal {tmps:=a.tmps.setIfInBounds 17 (.func (.func 17) #[] #[a.tmps.getD 2 undef,a.tmps.getD 3 undef,a.tmps.getD 4 undef]),defers:=dcl (a.tmps.getD 2 undef) (a.tmps.getD 3 undef) (a.tmps.getD 4 undef)::a.defers} w):
 (Code.region 4 opsD false).wp Tryd.prog Q a w:=by
 apply wp_region
 simp[opsD,wpOps,go_sem,hs]
 left;left
 simpa[hs,dcl]using hQ
theorem denL_junk{β:Bt}{S D:Pr}{w:World}:∀us:List Value,denL β S w D (List.replicate us.length .junk) us
 | []=>by simp[denL]
 |u::us=>by
  simp only[List.length_cons,List.replicate_succ,denL]
  exact⟨u,us,rfl,(by simp[den]),denL_junk us⟩
def fr21(a c:Int):List V:=[.ptr 0 0,.ptr 1 0,.ptr 2 0,.ifc 51 (.agg [i64 a,i64 c])]++List.replicate 16 .junk
def H3(x0 x1 x2:V):List (Option Chunk):=[some (.blk [x0]),some (.blk [x1]),some (.blk [x2])]
theorem run21(a c:Int):execK E5 ca0 lo0 (sel8 1 c21) {fr:=fr21 a c,H:=hp (H3 .junk .junk .junk),nx:=3,rt:=3,me:=17} (KN 0)=some (.l .normal {fr:=List.replicate 20 .junk,H:=hp (H3 nilS (i64 a) (i64 c)),nx:=3,rt:=3,me:=17}):=by kernel_rfl
theorem end21(a c:Int):Am.Ends E5 (sel8 1 c21) {fr:=fr21 a c,H:=hp (H3 .junk .junk .junk),nx:=3,rt:=3,me:=17} .normal {fr:=List.replicate 20 .junk,H:=hp (H3 nilS (i64 a) (i64 c)),nx:=3,rt:=3,me:=17}:=
 Am.Ends.of hX5 ca0_sound lo0_sound (run21 a c)
theorem clo21{β:Bt}{S:Pr}{w:World}{a c:Int}{u0 u1 u2 u:Value}(hM:Mem β S (· <3) (hp (H3 .junk .junk .junk)) w)(hG:Glob E5 S w)
 (h0:den β S w (· <3) (.ptr 0 0) u0) (h1:den β S w (· <3) (.ptr 1 0) u1) (h2:den β S w (· <3) (.ptr 2 0) u2) (hv:den β S w (· <3) (.ifc 51 (.agg [i64 a,i64 c])) u):
 CallsD Tryd.prog 17 #[u0,u1,u2] (.panicking [{v:=u,recovered:=false}]) w fun e u' w'=>(∃v,e= .returned v)∧u'= .panicking [{v:=u,recovered:=true}]∧
  ∃β' S',Mem β' S' (· <3) (hp (H3 nilS (i64 a) (i64 c))) w'∧Glob E5 S' w'∧Evo β S w β' S' w'∧Roots 3 β β':=by
 refine callsD_of_wpS Tryd.func17 rfl fun c₀ cs hu=>?_
 apply wpS_seq
 apply wpS_region
 simp[wpOpsS,go_sem,recoverD,hu,Tryd.ntmps17,Exit.thenS]
 refine wpS_of_wp ?_
 refine(congrArg (fun c=>Code.wp Tryd.prog c _ _ _) (?_:(sel8 1 c21).erase=_)).mp (wp_mono (end21 a c β S (· <3) _ w ⟨?_,hM,⟨fun _=>rfl,fun d h=>(by cases h),fun h=>nomatch (show true=false from h)⟩,fun i hi=>hi,hG,fun i hi=>hi⟩) ?_)
 ·kernel_rfl
 ·have e:(#[u0,u1,u2]++((Array.replicate 17 undef).setIfInBounds 3 u).setIfInBounds 0 u).toList=[u0,u1,u2,u]++([undef,undef,u]++List.replicate 13 undef):=by
   simp[List.replicate]
  show denL β S w (· <3) (fr21 a c) (#[u0,u1,u2]++((Array.replicate 17 undef).setIfInBounds 3 u).setIfInBounds 0 u).toList
  rw[e]
  refine denL_append ?_ ?_
  ·simp only[denL]
   exact⟨_,_,rfl,h0,_,_,rfl,h1,_,_,rfl,h2,_,_,rfl,hv,rfl⟩
  ·exact denL_junk [undef,undef,u,undef,undef,undef,undef,undef,undef,undef,undef,undef,undef,undef,undef,undef]
 ·intro e' a' w' hp
  obtain⟨rfl,β',S',D',g1,g2,g3,g4,g5⟩:=post_normal hp
  have hD:D'=(· <3):=by
   funext i
   exact propext ⟨g1.lt i,g1.rtD i⟩
  subst hD
  refine⟨g1.df.1 rfl,_,?_,_,by simp[results,Tryd.results17,go_sem];rfl,⟨_,rfl⟩,rfl,β',S',g1.mem,g1.gl,g2,g3⟩
  cases c₀;simp_all
theorem wp_piece{E:Env}{c:ACode}{s t:St}(h:Am.Ends E c s .normal t){β:Bt}{S D:Pr}{a:Act}{w:World}(hR:Rel E β S D s a w){rest:Code}{Q:Exit→Act→World→Prop}
 (hQ:∀β' S' D' a' w',Rel E β' S' D' t a' w'→Evo β S w β' S' w'→rest.wp E.P Q a' w'):(Code.seq c.erase rest).wp E.P Q a w:=
 wp_seq (wp_mono (h β S D a w hR) fun e' a' w' hp=>by
  obtain⟨rfl,β',S',D',h1,h2,h3,_,_⟩:=post_normal hp
  exact hQ β' S' D' a' w' h1 h2)
def s0(s:ByteArray):St:={fr:=[st s]++List.replicate 30 (.sc undef),H:=hp [],nx:=0,rt:=0,me:=8}
def s1(s:ByteArray):St:={fr:=[st s,.junk,.ptr 0 0,.ptr 1 0,.ptr 2 0]++jk 26,H:=hp (H3 nilS (i64 0) (i64 0)),nx:=3,rt:=0,me:=8}
def s2(rt:Nat)(z:g_TokensV):St:={fr:=[.junk,.junk,.ptr 0 0,.ptr 1 0,.ptr 2 0,.ro 4 z.2.2.1 (fun j=>[i64 (z.2.2.2.1 j),i64 (z.2.2.2.2.1 j),st (z.2.2.2.2.2.1 j),i64 (z.2.2.2.2.2.2 j)])]++jk 25,H:=hp (H3 nilS (i64 z.1) (i64 z.2.1)),nx:=3,rt:=rt,me:=8}
theorem st1(s:ByteArray):execK (E6 []) ca0 lo0 (pie8 0 c8) (s0 s) (KN 29)=some (.l .normal (s1 s)):=by kernel_rfl
theorem st2(c:a_TokensV→Option g_TokensV)(s:ByteArray):execK (E6 []) (ftb 13 A_TokensV R_TokensV c ca0) lo0 (pie8 1 c8) (s1 s) (KN 60)=(viaF A_TokensV c (A_TokensV s)).bind fun z=>some (.l .normal (s2 0 z)):=by kernel_rfl
theorem st3(a:Int)(T:Nat×(Nat→Int)×(Nat→Int)×(Nat→ByteArray)×(Nat→Int)):execK (E6 []) ca0 lo0 (pie8 2 c8) (s2 0 (a,0,T)) (KN 60)=some (.l .normal (s2 0 (a,0,T))):=by kernel_rfl
def K3(n:Nat)(a c:Int):St:={fr:=.junk:: .junk:: .ptr 0 0:: .ptr 1 0:: .ptr 2 0::List.replicate n .junk,H:=hp (H3 nilS (i64 a) (i64 c)),nx:=3,rt:=3,me:=8}
end Go.Proofs.YtjfkkokeegpeiaaDoor
/- Parse where it panics: what it returns. -/
namespace Go.Proofs.YtjfkkokeegpeiaaDoor
open Go Go.Am Go.RowKit
set_option maxRecDepth 100000
theorem denL_of{β:Bt}{S D:Pr}{w:World}:∀{l:List V} {us:List Value},l.length=us.length→(∀i,den β S w D (l.getD i .junk) (us.getD i undef))→denL β S w D l us
 | [],[],_,_=>by simp[denL]
 |v::l,u::us,hl,h=>by
  simp only[denL]
  exact⟨u,us,rfl,by simpa using h 0,denL_of (by simpa using hl) fun i=>by simpa using h (i+1)⟩
theorem ptr_roots{β β':Bt}{S S' D D':Pr}{w w':World}{i o n:Nat}{u:Value}(hr:Roots n β β')(hi:i<n)(hD:D' i)(h:den β S w D (.ptr i o) u):den β' S' w' D' (.ptr i o) u:=by
 simp only[den]at h⊢
 exact⟨⟨hD,h.1.2⟩,fun b m hb=>h.2 b m (hr i _ hi hb)⟩
theorem resP(ds:List Deferred)(n:Nat)(a c:Int):resLK (E6 ds) (K3 n a c) [.cell 2 22,.cell 3 3,.cell 4 23] (fun vs=>some (.c (.ret (one1 vs) [])))=some (.c (.ret (.tup [nilS,i64 a,i64 c]) [])):=by kernel_rfl
theorem parse_pan (q : Nat) (s : ByteArray) (a : Int) (T : Nat × (Nat → Int) × (Nat → Int) × (Nat → ByteArray) × (Nat → Int)) (hz : TokensV q s = some (a, 0, T)) (e : Int × Int) (hp : ParseP q (a, T) = some e) :
 SC E5 8 [st s] [] (.ret (.tup [nilS, i64 e.1, i64 e.2]) []) := by
 refine ⟨⟨_, Tryd.func8, by kernel_rfl, by intro e; exact absurd e (by decide +kernel)⟩, fun β S w us hus hM hG => ?_⟩
 obtain rfl : us = [.string s] := by simpa [denL, den] using hus
 refine calls_of_wp_defers Tryd.func8 rfl ?_
 refine (congrArg (fun c => Code.wp Tryd.prog c _ _ _) (?_ : c8.erase = _)).mp ?_
 ·kernel_rfl
 rw [c8_eq]
 have R0 : Rel (E6 []) β S (· < 0) (s0 s) { tmps := [Value.string s].toArray ++ Array.replicate (31 - [Value.string s].toArray.size) undef, defers := [] } w := by
  refine ⟨?_, hM, ⟨fun _ => rfl, fun d hd => (by cases hd), fun _ => rfl⟩, fun i hi => hi, ⟨hG.rd, hG.inv⟩, fun i hi => hi⟩
  have e : ([Value.string s].toArray ++ Array.replicate (31 - [Value.string s].toArray.size) undef).toList = [Value.string s] ++ List.replicate 30 undef := by simp
  rw [e]
  refine denL_append hus ?_
  have := denL_map (β := β) (S := S) (w := w) (D := (· < 0)) (f := fun _ : Nat => V.sc undef) (g := fun _ => undef) (l := List.range 30) (fun _ _ => by simp [den])
  simpa [List.map_const'] using this
 refine wp_piece (E := E6 []) (Am.Ends.of (hX6 []) ca0_sound lo0_sound (st1 s)) R0 fun β1 S1 D1 a1 w1 R1 v1 => ?_
 refine wp_piece (E := E6 []) (Am.Ends.of (hX6 []) (fk (fun x z h => sc6.2 (sc_TokensV q x z h)) ca0_sound) lo0_sound ((st2 (TokensV q) s).trans (by
  rw [show viaF A_TokensV (TokensV q) (A_TokensV s) = TokensV q s from congrFun (v_TokensV (TokensV q)) s, hz]; rfl))) R1 fun β2 S2 D2 a2 w2 R2 v2 => ?_
 refine wp_piece (E := E6 []) (Am.Ends.of (hX6 []) ca0_sound lo0_sound (st3 a T)) R2 fun β3 S3 D3 a3 w3 R3 v3 => ?_
 have hsz : a3.tmps.size = 31 := by
  have := denL_len R3.fr
  simpa [s2, jk] using this.symm
 have d0 : den β3 S3 w3 D3 (.ptr 0 0) (a3.tmps.getD 2 undef) := by simpa [s2] using denL_getD R3.fr 2
 have d1 : den β3 S3 w3 D3 (.ptr 1 0) (a3.tmps.getD 3 undef) := by simpa [s2] using denL_getD R3.fr 3
 have d2 : den β3 S3 w3 D3 (.ptr 2 0) (a3.tmps.getD 4 undef) := by simpa [s2] using denL_getD R3.fr 4
 have hdf : a3.defers = [] := R3.df.2.2 rfl
 refine wp_seq (stepD hsz ?_)
 show Code.wp Tryd.prog (sel8 4 c8).erase _ _ w3
 rw [hdf]
 have R4 : Rel (E6 [dcl (a3.tmps.getD 2 undef) (a3.tmps.getD 3 undef) (a3.tmps.getD 4 undef)]) β3 S3 D3 (s2 3 (a, 0, T))
  { tmps := a3.tmps.setIfInBounds 17 (.func (.func 17) #[] #[a3.tmps.getD 2 undef, a3.tmps.getD 3 undef, a3.tmps.getD 4 undef]), defers := [dcl (a3.tmps.getD 2 undef) (a3.tmps.getD 3 undef) (a3.tmps.getD 4 undef)] } w3 := by
  refine ⟨?_, R3.mem, ⟨fun h => (nomatch (show true = false from h)), fun d hd => ?_, fun _ => rfl⟩, R3.lt, ⟨R3.gl.rd, R3.gl.inv⟩, fun i hi => ?_⟩
  ·have hfr := R3.fr
   refine denL_of (by simp [s2, jk, hsz]) fun i => ?_
   by_cases h17 : i = 17
   ·subst h17
    simp [s2, jk, den]
   ·have := denL_getD hfr i
    have e : (a3.tmps.setIfInBounds 17 (.func (.func 17) #[] #[a3.tmps.getD 2 undef, a3.tmps.getD 3 undef, a3.tmps.getD 4 undef])).toList.getD i undef = a3.tmps.toList.getD i undef := by
     rw [Array.toList_setIfInBounds, List.getD_eq_getElem?_getD, List.getD_eq_getElem?_getD, List.getElem?_set_ne (fun h => h17 h.symm)]
    rw [e]
    exact this
  ·simp only [List.mem_singleton] at hd
   subst hd
   exact ⟨17, _, rfl, rfl⟩
  ·match i, hi with
   | 0, _ => simp only [den] at d0; exact d0.1.1
   | 1, _ => simp only [den] at d1; exact d1.1.1
   | 2, _ => simp only [den] at d2; exact d2.1.1
 obtain ⟨v, s', hv, hE, x0, x1, x2, y0, y1, l, ef, e0, e1, e2⟩ := sc_ParseP (ds := [dcl (a3.tmps.getD 2 undef) (a3.tmps.getD 3 undef) (a3.tmps.getD 4 undef)]) q _ e hp c8 c8_ok
 cases hv
 refine wp_mono (hE _ _ _ _ _ R4) fun e' a' w' hpost => ?_
 obtain ⟨β', S', D', q1, q2, q3, q4, q5, q6⟩ := hpost.ex
 cases e' <;> simp only [ExR] at q1
 obtain ⟨u, rfl, g1, g2⟩ := q1
 show Leaves _ _ _ _ a'.defers (.panicking _) w'
 rw [show a'.defers = [dcl (a3.tmps.getD 2 undef) (a3.tmps.getD 3 undef) (a3.tmps.getD 4 undef)] from q2.df.2.2 rfl]
 -- the blocks of the results alone
 have M5 : Mem (ofOrder β' [0, 1, 2]) S' (· < 3) (Am.hp (H3 .junk .junk .junk)) w' := by
  have h := q2.mem.renum (order := [0, 1, 2]) (by decide)
  refine Mem.le h (hp_le ?_)
  simp only [keep, List.map_cons, List.map_nil, e0, e1, e2, Option.map_some, Chunk.ren, H3, renL]
  exact ⟨ChLe.blk (LeL.cons (Le.junk _) LeL.nil), ChLe.blk (LeL.cons (Le.junk _) LeL.nil), ChLe.blk (LeL.cons (Le.junk _) LeL.nil), trivial⟩
 have r5 : Roots 3 β3 (ofOrder β' [0, 1, 2]) := by
  intro i bm hi hb
  refine q4 i bm hi ?_
  match i, hi, hb with
  | 0, _, hb => exact hb
  | 1, _, hb => exact hb
  | 2, _, hb => exact hb
 have v5 : Evo β3 S3 w3 (ofOrder β' [0, 1, 2]) S' w' := q3.trans ⟨rfl, rfl, rfl, Nat.le_refl _, fun _ _ _ => rfl, fun _ h => h, fun _ h => .inl h, fun i b m hb h0 => by
  obtain ⟨j, _, hj⟩ := ofOrder_some hb
  exact .inr ⟨j, m, h0, hj⟩⟩
 have k0 := ptr_roots r5 (show 0 < 3 by decide) (show (· < 3) 0 by decide) d0 (S' := S') (w' := w') (D' := (· < 3))
 have k1 := ptr_roots r5 (show 1 < 3 by decide) (show (· < 3) 1 by decide) d1 (S' := S') (w' := w') (D' := (· < 3))
 have k2 := ptr_roots r5 (show 2 < 3 by decide) (show (· < 3) 2 by decide) d2 (S' := S') (w' := w') (D' := (· < 3))
 have hv5 : den (ofOrder β' [0, 1, 2]) S' w' (· < 3) (.ifc 51 (.agg [i64 e.1, i64 e.2])) u := den_pure (fun _ h => h) (fun _ _ => rfl) _ _ g1 g2
 refine leaves_cons (f := 17) (args := #[a3.tmps.getD 2 undef, a3.tmps.getD 3 undef, a3.tmps.getD 4 undef]) (by simp) (by
  have hcal := (idle65 #[a3.tmps.getD 2 undef, a3.tmps.getD 3 undef, a3.tmps.getD 4 undef] w' rfl).1
  simp only [invoke, Array.append_empty]
  exact hcal) ((clo21 M5 ⟨q2.gl.rd, q2.gl.inv⟩ k0 k1 k2 hv5).mono ?_)
 rintro e5 u5 w5 ⟨⟨vv, rfl⟩, rfl, β6, S6, M6, G6, v6, r6⟩
 show Leaves _ _ _ _ [] .returning w5
 -- the results are read
 have t2 := denL_getD q2.fr 2
 have t3 := denL_getD q2.fr 3
 have t4 := denL_getD q2.fr 4
 rw [ef] at t2 t3 t4
 have r6' : Roots 3 β' β6 := by
  intro i bm hi hb
  have hb := r6 i bm hi hb
  match i, hi, hb with
  | 0, _, hb => exact hb
  | 1, _, hb => exact hb
  | 2, _, hb => exact hb
 have R7 : Rel (E6 []) β6 S6 (· < 3) (K3 l.length e.1 e.2) { a' with defers := [] } w5 := by
  refine ⟨denL_of ?_ fun i => ?_, M6, ⟨fun _ => rfl, fun d hd => (by cases hd), fun _ => rfl⟩, fun i hi => hi, ⟨G6.rd, G6.inv⟩, fun i hi => hi⟩
  ·have := denL_len q2.fr
   rw [ef] at this
   simpa [K3] using this
  ·match i with
   | 0 => simp [K3, den]
   | 1 => simp [K3, den]
   | 2 => exact ptr_roots r6' (show 0 < 3 by decide) (show (· < 3) 0 by decide) t2
   | 3 => exact ptr_roots r6' (show 1 < 3 by decide) (show (· < 3) 1 by decide) t3
   | 4 => exact ptr_roots r6' (show 2 < 3 by decide) (show (· < 3) 2 by decide) t4
   | i + 5 =>
    have e : (K3 l.length e.1 e.2).fr.getD (i + 5) V.junk = .junk := by
     simp only [K3, List.getD_eq_getElem?_getD, List.getElem?_cons_succ, List.getElem?_replicate]
     split <;> rfl
    rw [e]
    simp [den]
 obtain ⟨vs, h3, h4⟩ := resL_sound _ (resP [] l.length e.1 e.2)
 simp only [Option.some.injEq, Ans.c.injEq, CRes.ret.injEq, and_true] at h3
 obtain ⟨rs, g3, g4⟩ := h4 β6 S6 (· < 3) { a' with defers := [] } w5 R7
 refine ⟨(if h : rs.toArray.size = 1 then rs.toArray[0] else .tuple rs.toArray), ?_, ?_⟩
 ·rw [results_eq, Sem.run_bind]
  have hrun : ((#[.cell 2 22, .cell 3 3, .cell 4 23] : Array ResultVar).mapM (resF a'.tmps)).run Tryd.prog w5 = .ok rs.toArray w5 := by
   rw [Array.mapM_eq_mapM_toList, Sem.run_map]
   have g3' : (List.mapM (resF a'.tmps) [ResultVar.cell 2 22, .cell 3 3, .cell 4 23]).run Tryd.prog w5 = .ok rs w5 := g3
   rw [show (#[ResultVar.cell 2 22, .cell 3 3, .cell 4 23]).toList = [.cell 2 22, .cell 3 3, .cell 4 23] from rfl, g3']
   rfl
  exact (congrArg (fun r => Result.andThen r _) hrun).trans rfl
 ·have hd := one1_den g4
  rw [h3] at hd
  have M8 := M6.renum (order := []) (by decide)
  refine ⟨_, _, S6, rfl, M8, den_pure (fun _ h => h) (fun _ _ => rfl) _ _ (by simp [V.pure, pureL]) hd, (((v1.trans v2).trans v3).trans v5).trans (v6.trans ⟨rfl, rfl, rfl, Nat.le_refl _, fun _ _ _ => rfl, fun _ h => h, fun _ h => .inl h, fun i b m hb h0 => by
   obtain ⟨j, _, hj⟩ := ofOrder_some hb
   exact .inr ⟨j, m, h0, hj⟩⟩), fun i bm _ hb => ?_⟩
  obtain ⟨j, hj, _⟩ := ofOrder_some hb
  cases hj
end Go.Proofs.YtjfkkokeegpeiaaDoor
/- Parse reads as the plain parser reads. -/
namespace Go.Proofs.YtjfkkokeegpeiaaDoor
open Go Go.Am Go.Proofs.Lx
set_option maxRecDepth 100000
abbrev AcP:Type:=(Nat→ByteArray)×(Nat→Nat)×(Nat→Nat→List V)×(Nat→Int)×(Nat→Int)×(Nat→ByteArray)×(Nat→Nat)×(Nat→Nat→List V)×Nat
def RepP(l:List Prc)(a:AcP):Prop:=a.2.2.2.2.2.2.2.2=l.length∧∀j c,l[j]? =some c→a.1 j=c.x∧a.2.1 j=c.ps.length∧(∀i m,c.ps[i]? =some m→a.2.2.1 j i=[st m.x,st m.u])∧RepN c.b (a.2.2.2.1 j,a.2.2.2.2.1 j,a.2.2.2.2.2.1 j,a.2.2.2.2.2.2.1 j,a.2.2.2.2.2.2.2.1 j)
abbrev OneP:Type:=ByteArray×Nat×(Nat→ByteArray)×(Nat→ByteArray)×NodeT
def acP1(z:OneP):AcP:=(fun _=>z.1,fun _=>z.2.1,fun _ i=>[st (z.2.2.1 i),st (z.2.2.2.1 i)],fun _=>z.2.2.2.2.1,fun _=>z.2.2.2.2.2.1,fun _=>z.2.2.2.2.2.2.1,fun _=>z.2.2.2.2.2.2.2.1,fun _=>z.2.2.2.2.2.2.2.2,1)
theorem acP1_rep{c:Prc}{z:OneP}(h:RepC c z):RepP [c] (acP1 z):=by
 refine⟨rfl,fun j c' e=>?_⟩
 cases j with
 |zero=>
  simp only[List.getElem?_cons_zero,Option.some.injEq]at e;subst e
  obtain⟨h1,⟨h2,h3⟩,h4⟩:=h
  exact⟨h1,h2,fun i m e=>by obtain⟨g1,g2⟩:=h3 i m e;simp only at g1 g2;simp only[acP1,g1,g2],h4⟩
 |succ j=>simp at e
def acPN(a:AcP)(z:OneP):AcP:=(fun j=>if j<a.2.2.2.2.2.2.2.2 then a.1 j else z.1,fun j=>if j<a.2.2.2.2.2.2.2.2 then a.2.1 j else z.2.1,fun j i=>if j<a.2.2.2.2.2.2.2.2 then a.2.2.1 j i else[st (z.2.2.1 i),st (z.2.2.2.1 i)],fun j=>if j<a.2.2.2.2.2.2.2.2 then a.2.2.2.1 j else z.2.2.2.2.1,fun j=>if j<a.2.2.2.2.2.2.2.2 then a.2.2.2.2.1 j else z.2.2.2.2.2.1,fun j=>if j<a.2.2.2.2.2.2.2.2 then a.2.2.2.2.2.1 j else z.2.2.2.2.2.2.1,fun j=>if j<a.2.2.2.2.2.2.2.2 then a.2.2.2.2.2.2.1 j else z.2.2.2.2.2.2.2.1,fun j i=>if j<a.2.2.2.2.2.2.2.2 then a.2.2.2.2.2.2.2.1 j i else z.2.2.2.2.2.2.2.2 i,a.2.2.2.2.2.2.2.2+1)
theorem acPN_rep{l:List Prc}{a:AcP}{c:Prc}{z:OneP}(h:RepP l a)(g:RepC c z):RepP (l++[c]) (acPN a z):=by
 refine⟨by simp[acPN,h.1],fun j c' e=>?_⟩
 by_cases hj:j<l.length
 ·rw[List.getElem?_append_left hj]at e
  have:=h.2 j c' e
  simp only[acPN,h.1,hj,if_true]
  exact this
 ·rw[List.getElem?_append_right (by omega)]at e
  simp only[acPN,h.1,hj,if_false]
  cases hk:j-l.length with
  |zero=>
   rw[hk]at e;simp only[List.getElem?_cons_zero,Option.some.injEq]at e;subst e
   obtain⟨h1,⟨h2,h3⟩,h4⟩:=g
   exact⟨h1,h2,fun i m e=>by obtain⟨g1,g2⟩:=h3 i m e;simp only at g1 g2;simp only[g1,g2],h4⟩
  |succ n=>rw[hk]at e;simp at e
def x00(N:Nat)(T:Nat→Tkn):StT:=(0,0,N,(fun j=>(T j).k),(fun j=>(T j).a),(fun j=>(T j).t),(fun j=>(T j).n),0,(fun _=>ByteArray.empty),0,(fun _=>ByteArray.empty))
theorem x00_rs{N:Nat}{T:Nat→Tkn}(hT:TokN N T):RS N T [] ⟨0,0,[]⟩ (x00 N T):=⟨_,_,rfl,fun j b e=>by simp at e,fun j b e=>by simp at e,hT.pos,Nat.zero_le _,by simp,by simp⟩
def tokV(N:Nat)(T:Nat→Tkn):Nat×(Nat→Int)×(Nat→Int)×(Nat→ByteArray)×(Nat→Int):=(N,(fun j=>(T j).k),(fun j=>(T j).a),(fun j=>(T j).t),(fun j=>(T j).n))
theorem nextZ_eq{N:Nat}{T:Nat→Tkn}(hT:TokN N T)(q:Nat):nextZ q (0,0,tokV N T)=some ((T 0).k,(T 0).a,(T 0).t,(T 0).n,0,0,tokV N T):=by
 unfold nextZ t_nextZ
 have:=hT.pos
 refine(if_pos ?_).trans rfl
 show(0:Int)≤0∧(0:Int)< ((N:Nat):Int)
 omega
theorem next_eq'{N:Nat}{T:Nat→Tkn}{pr:List ByteArray}{s:PS}{x:StT}(q:Nat)(h:RS N T pr s x):next q (x.1,x.2.1,x.2.2.1,x.2.2.2.1,x.2.2.2.2.1,x.2.2.2.2.2.1,x.2.2.2.2.2.2.1,x.2.2.2.2.2.2.2.1,x.2.2.2.2.2.2.2.2.1,x.2.2.2.2.2.2.2.2.2.1,x.2.2.2.2.2.2.2.2.2.2)=some ((T s.p).k,(T s.p).a,(T s.p).t,(T s.p).n,x):=next_eq q h
section
variable {N:Nat} {T:Nat→Tkn}
def spT(a0 e0:Int)(x:StT)(a:AcP):=(a.1,a.2.1,a.2.2.1,a.2.2.2.1,a.2.2.2.2.1,a.2.2.2.2.2.1,a.2.2.2.2.2.2.1,a.2.2.2.2.2.2.2.1,a0,e0,x.2.2.1,x.2.2.2.1,x.2.2.2.2.1,x.2.2.2.2.2.1,x.2.2.2.2.2.2.1,x.1,x.2.1,x.2.2.2.2.2.2.2.1,x.2.2.2.2.2.2.2.2.2.1,x.2.2.2.2.2.2.2.2.1,x.2.2.2.2.2.2.2.2.2.2,a.2.2.2.2.2.2.2.2)
def BPT(T:Nat→Tkn)(N:Nat)(a0 e0:Int)(acc:List Prc):PR (List Prc)→ParseT_l0_g→Prop
 | .ok l s,.inr (.inl _)=>acc++l=[]
 | .ok l s,.inr (.inr (.inr z))=>∃a:AcP,z=(a.2.2.2.2.2.2.2.2,a.1,a.2.1,a.2.2.1,a.2.2.2.1,a.2.2.2.2.1,a.2.2.2.2.2.1,a.2.2.2.2.2.2.1,a.2.2.2.2.2.2.2.1,a0,e0)∧RepP (acc++l) a
 | .err p c,.inl e=>p<N∧e.1=(T p).a∧e.2.1=c
 | .err p c,.inr (.inr (.inl e))=>p<N∧e.1=(T p).a∧e.2.1=c
 |_,_=>False
def PST(N:Nat)(T:Nat→Tkn)(a0 e0:Int)(acc:List Prc)(pr:List ByteArray)(s:PS)(x:StT):ParseT_l0_a→Prop
 | .inl y=>acc=[]∧pr=[]∧s=⟨0,0,[]⟩∧x=x00 N T∧y=(a0,e0,tokV N T)
 | .inr y=>∃a,y=spT a0 e0 x a∧RepP acc a
theorem parse_loopT(hT:TokN N T)(a0 e0:Int){F q:Nat}(hF:F≤1000000000)(hq:2*F+2000000100≤q)(x0:a_ParseT):∀(g:Nat),g≤F→∀(m:Nat),g<m→∀(acc:List Prc) (pr:List ByteArray) (s:PS) (x:StT) (y:ParseT_l0_a),PST N T a0 e0 acc pr s x y→acc.length+g≤1000000000→pr.length+g≤1000000000→RS N T pr s x→procsP T g pr s≠ .out→
 Rs (ParseT_l0 (TokensV q) (nextZ q) (next q) (procedureZ q) (procedure q) m x0 y) (BPT T N a0 e0 acc (procsP T g pr s)):=by
 intro g
 induction g with
 |zero=>intro _ m _ acc pr s x y _ _ _ _ ho;rw[procsP]at ho;exact absurd rfl ho
 |succ g ih=>
  intro hg m hm acc pr s x y hy hb hb2 h ho
  obtain⟨m,rfl⟩:∃k,m=k+1:=⟨m-1,by omega⟩
  unfold ParseT_l0
  refine Rs.step3 fun Q hQ=>?_
  have hop:procsP T (g+1) pr s=if(T s.p).k=0 then .ok [] s else(procP T g pr s).bind fun x s1=>(procsP T g (pr++[x.x]) s1).bind fun l s2=>.ok (x::l) s2:=by rw[procsP]
  rcases y with y|y
  ·obtain⟨rfl,rfl,rfl,rfl,rfl⟩:=hy
   rw[Sum.elim_inl]
   unfold ParseT_l0_t0
   dsimp only
   rw[nextZ_eq hT]
   dsimp only[Option.bind_some]
   by_cases hk:(T 0).k=0
   ·rw[if_pos hk]at hop
    refine Rs.neg (by simp[hk]) (Rs.some ?_)
    show BPT T N a0 e0 [] (procsP T (g+1) [] ⟨0,0,[]⟩) _
    rw[hop]
    rfl
   ·rw[if_neg hk]at hop
    refine Rs.pos (by simpa using hk) ?_
    have hp:=procedure_rs (f:=g) (q:=q) hT (by omega) (by omega) (x00_rs hT) (by simp) (PR.bind_out (hop▸ho))
    refine Rs.bind (f:=_) (show Rs (procedureZ q (0,0,tokV N T)) _ from hp) fun z hz=>?_
    cases hr:procP T g [] ⟨0,0,[]⟩with
    |out=>rw[hr]at hz;rcases z with z|z<;>exact hz.elim
    |err p c=>
     rw[hr]at hz hop
     rcases z with z|z
     ·exact hz.elim
     ·refine Rs.some ?_
      show BPT T N a0 e0 [] (procsP T (g+1) [] ⟨0,0,[]⟩) _
      rw[hop]
      exact⟨hz.1,by rw[hz.2],by rw[hz.2]⟩
    |ok c s2=>
     rw[hr]at hz hop
     dsimp only[PR.bind]at hop
     rcases z with z|z
     ·obtain⟨zc,zx⟩:=hz
      refine Rs.some (hQ _ ?_)
      have ho2:=PR.bind_out (hop▸ho)
      refine(ih (by omega) m (by omega) [c] ([]++[c.x]) s2 _ (.inr (spT a0 e0 z.2.2.2.2.2.2.2.2.2 (acP1 (z.1,z.2.1,z.2.2.1,z.2.2.2.1,z.2.2.2.2.1,z.2.2.2.2.2.1,z.2.2.2.2.2.2.1,z.2.2.2.2.2.2.2.1,z.2.2.2.2.2.2.2.2.1)))) ⟨_,rfl,acP1_rep zc⟩ (by simp;omega) (by simp;omega) zx ho2).mono fun z hz=>?_
      rw[hop]
      cases hr2:procsP T g ([]++[c.x]) s2 with
      |out=>exact absurd hr2 ho2
      |err p c=>rw[hr2]at hz;rcases z with z|z|z|z<;>exact hz
      |ok l s3=>
       rw[hr2]at hz
       rcases z with z|z|z|z
       ·exact hz.elim
       ·exact absurd (show[c]++l=[]from hz) (by simp)
       ·exact hz.elim
       ·exact hz
     ·exact hz.elim
  ·obtain⟨a,rfl,ha⟩:=hy
   have hal:=ha.1
   rw[Sum.elim_inr]
   unfold ParseT_l0_t1
   dsimp only[spT]
   rw[next_eq' q h]
   dsimp only[Option.bind_some]
   by_cases hk:(T s.p).k=0
   ·rw[if_pos hk]at hop
    refine Rs.neg (by simp[hk]) (Rs.some ?_)
    show BPT T N a0 e0 acc (procsP T (g+1) pr s) _
    rw[hop]
    exact⟨a,rfl,by rw[List.append_nil];exact ha⟩
   ·rw[if_neg hk]at hop
    refine Rs.pos (by simpa using hk) ?_
    have hp:=procedure_rs (f:=g) (q:=q) hT (by omega) (by omega) h (by omega) (PR.bind_out (hop▸ho))
    refine Rs.bind hp fun z hz=>?_
    cases hr:procP T g pr s with
    |out=>rw[hr]at hz;rcases z with z|z<;>exact hz.elim
    |err p c=>
     rw[hr]at hz hop
     rcases z with z|z
     ·exact hz.elim
     ·refine Rs.some ?_
      show BPT T N a0 e0 acc (procsP T (g+1) pr s) _
      rw[hop]
      exact⟨hz.1,by rw[hz.2],by rw[hz.2]⟩
    |ok c s2=>
     rw[hr]at hz hop
     dsimp only[PR.bind]at hop
     rcases z with z|z
     ·obtain⟨zc,zx⟩:=hz
      refine Rs.pos ⟨by unfold roomBound;omega,by unfold maxLen;omega,Nat.le_refl _⟩ (Rs.some (hQ _ ?_))
      have ho2:=PR.bind_out (hop▸ho)
      refine(ih (by omega) m (by omega) (acc++[c]) (pr++[c.x]) s2 _ (.inr (spT a0 e0 z.2.2.2.2.2.2.2.2.2 (acPN a (z.1,z.2.1,z.2.2.1,z.2.2.2.1,z.2.2.2.2.1,z.2.2.2.2.2.1,z.2.2.2.2.2.2.1,z.2.2.2.2.2.2.2.1,z.2.2.2.2.2.2.2.2.1)))) ⟨_,rfl,acPN_rep ha zc⟩ (by simp;omega) (by simp;omega) zx ho2).mono fun z hz=>?_
      rw[hop]
      cases hr2:procsP T g (pr++[c.x]) s2 with
      |out=>exact absurd hr2 ho2
      |err p c=>rw[hr2]at hz;rcases z with z|z|z|z<;>exact hz
      |ok l s3=>
       rw[hr2]at hz
       rcases z with z|z|z|z
       ·exact hz.elim
       ·exact absurd (show(acc++[c])++l=[]from hz) (by simp)
       ·exact hz.elim
       ·obtain⟨a2,e1,e2⟩:=hz
        exact⟨a2,e1,by simpa using e2⟩
     ·exact hz.elim
end
end Go.Proofs.YtjfkkokeegpeiaaDoor
/- Parse reads as the plain parser reads. -/
namespace Go.Proofs.YtjfkkokeegpeiaaDoor
open Go Go.Am Go.Proofs.Lx
set_option maxRecDepth 100000
section
variable {N:Nat} {T:Nat→Tkn}
def spP(x:StT)(a:AcP):=(a.1,a.2.1,a.2.2.1,a.2.2.2.1,a.2.2.2.2.1,a.2.2.2.2.2.1,a.2.2.2.2.2.2.1,a.2.2.2.2.2.2.2.1,x.2.2.1,x.2.2.2.1,x.2.2.2.2.1,x.2.2.2.2.2.1,x.2.2.2.2.2.2.1,x.1,x.2.1,x.2.2.2.2.2.2.2.1,x.2.2.2.2.2.2.2.2.2.1,x.2.2.2.2.2.2.2.2.1,x.2.2.2.2.2.2.2.2.2.2,a.2.2.2.2.2.2.2.2)
def BPP(T:Nat→Tkn)(N:Nat)(acc:List Prc):PR (List Prc)→ParseP_l0_g→Prop
 | .ok l s,.inr (.inl _)=>acc++l=[]
 | .ok l s,.inr (.inr (.inr z))=>True
 | .err p c,.inl e=>p<N∧e.1=(T p).a∧e.2=c
 | .err p c,.inr (.inr (.inl e))=>p<N∧e.1=(T p).a∧e.2.1=c
 |_,_=>False
def PSP(N:Nat)(T:Nat→Tkn)(acc:List Prc)(pr:List ByteArray)(s:PS)(x:StT):ParseP_l0_a→Prop
 | .inl y=>acc=[]∧pr=[]∧s=⟨0,0,[]⟩∧x=x00 N T∧y=()
 | .inr y=>∃a,y=spP x a∧RepP acc a
theorem parse_loopP(hT:TokN N T){F q:Nat}(hF:F≤1000000000)(hq:2*F+2000000100≤q)(x0:a_ParseP)(hx0:x0.2=tokV N T):∀(g:Nat),g≤F→∀(m:Nat),g<m→∀(acc:List Prc) (pr:List ByteArray) (s:PS) (x:StT) (y:ParseP_l0_a),PSP N T acc pr s x y→acc.length+g≤1000000000→pr.length+g≤1000000000→RS N T pr s x→procsP T g pr s≠ .out→
 Rs (ParseP_l0 (nextZ q) (next q) (procedureZ q) (procedure q) m x0 y) (BPP T N acc (procsP T g pr s)):=by
 intro g
 induction g with
 |zero=>intro _ m _ acc pr s x y _ _ _ _ ho;rw[procsP]at ho;exact absurd rfl ho
 |succ g ih=>
  intro hg m hm acc pr s x y hy hb hb2 h ho
  obtain⟨m,rfl⟩:∃k,m=k+1:=⟨m-1,by omega⟩
  unfold ParseP_l0
  refine Rs.step3 fun Q hQ=>?_
  have hop:procsP T (g+1) pr s=if(T s.p).k=0 then .ok [] s else(procP T g pr s).bind fun x s1=>(procsP T g (pr++[x.x]) s1).bind fun l s2=>.ok (x::l) s2:=by rw[procsP]
  rcases y with y|y
  ·obtain⟨rfl,rfl,rfl,rfl,rfl⟩:=hy
   rw[Sum.elim_inl]
   unfold ParseP_l0_t0
   rw[hx0]
   rw[nextZ_eq hT]
   dsimp only[Option.bind_some]
   by_cases hk:(T 0).k=0
   ·rw[if_pos hk]at hop
    refine Rs.neg (by simp[hk]) (Rs.some ?_)
    show BPP T N [] (procsP T (g+1) [] ⟨0,0,[]⟩) _
    rw[hop]
    rfl
   ·rw[if_neg hk]at hop
    refine Rs.pos (by simpa using hk) ?_
    have hp:=procedure_rs (f:=g) (q:=q) hT (by omega) (by omega) (x00_rs hT) (by simp) (PR.bind_out (hop▸ho))
    refine Rs.bind (f:=_) (show Rs (procedureZ q (0,0,tokV N T)) _ from hp) fun z hz=>?_
    cases hr:procP T g [] ⟨0,0,[]⟩with
    |out=>rw[hr]at hz;rcases z with z|z<;>exact hz.elim
    |err p c=>
     rw[hr]at hz hop
     rcases z with z|z
     ·exact hz.elim
     ·refine Rs.some ?_
      show BPP T N [] (procsP T (g+1) [] ⟨0,0,[]⟩) _
      rw[hop]
      exact⟨hz.1,by rw[hz.2],by rw[hz.2]⟩
    |ok c s2=>
     rw[hr]at hz hop
     dsimp only[PR.bind]at hop
     rcases z with z|z
     ·obtain⟨zc,zx⟩:=hz
      refine Rs.some (hQ _ ?_)
      have ho2:=PR.bind_out (hop▸ho)
      refine(ih (by omega) m (by omega) [c] ([]++[c.x]) s2 _ (.inr (spP z.2.2.2.2.2.2.2.2.2 (acP1 (z.1,z.2.1,z.2.2.1,z.2.2.2.1,z.2.2.2.2.1,z.2.2.2.2.2.1,z.2.2.2.2.2.2.1,z.2.2.2.2.2.2.2.1,z.2.2.2.2.2.2.2.2.1)))) ⟨_,rfl,acP1_rep zc⟩ (by simp;omega) (by simp;omega) zx ho2).mono fun z hz=>?_
      rw[hop]
      cases hr2:procsP T g ([]++[c.x]) s2 with
      |out=>exact absurd hr2 ho2
      |err p c=>rw[hr2]at hz;rcases z with z|z|z|z<;>exact hz
      |ok l s3=>
       rw[hr2]at hz
       rcases z with z|z|z|z
       ·exact hz.elim
       ·exact absurd (show[c]++l=[]from hz) (by simp)
       ·exact hz.elim
       ·trivial
     ·exact hz.elim
  ·obtain⟨a,rfl,ha⟩:=hy
   have hal:=ha.1
   rw[Sum.elim_inr]
   unfold ParseP_l0_t1
   dsimp only[spP]
   rw[next_eq' q h]
   dsimp only[Option.bind_some]
   by_cases hk:(T s.p).k=0
   ·rw[if_pos hk]at hop
    refine Rs.neg (by simp[hk]) (Rs.some ?_)
    show BPP T N acc (procsP T (g+1) pr s) _
    rw[hop]
    trivial
   ·rw[if_neg hk]at hop
    refine Rs.pos (by simpa using hk) ?_
    have hp:=procedure_rs (f:=g) (q:=q) hT (by omega) (by omega) h (by omega) (PR.bind_out (hop▸ho))
    refine Rs.bind hp fun z hz=>?_
    cases hr:procP T g pr s with
    |out=>rw[hr]at hz;rcases z with z|z<;>exact hz.elim
    |err p c=>
     rw[hr]at hz hop
     rcases z with z|z
     ·exact hz.elim
     ·refine Rs.some ?_
      show BPP T N acc (procsP T (g+1) pr s) _
      rw[hop]
      exact⟨hz.1,by rw[hz.2],by rw[hz.2]⟩
    |ok c s2=>
     rw[hr]at hz hop
     dsimp only[PR.bind]at hop
     rcases z with z|z
     ·obtain⟨zc,zx⟩:=hz
      refine Rs.pos ⟨by unfold roomBound;omega,by unfold maxLen;omega,Nat.le_refl _⟩ (Rs.some (hQ _ ?_))
      have ho2:=PR.bind_out (hop▸ho)
      refine(ih (by omega) m (by omega) (acc++[c]) (pr++[c.x]) s2 _ (.inr (spP z.2.2.2.2.2.2.2.2.2 (acPN a (z.1,z.2.1,z.2.2.1,z.2.2.2.1,z.2.2.2.2.1,z.2.2.2.2.2.1,z.2.2.2.2.2.2.1,z.2.2.2.2.2.2.2.1,z.2.2.2.2.2.2.2.2.1)))) ⟨_,rfl,acPN_rep ha zc⟩ (by simp;omega) (by simp;omega) zx ho2).mono fun z hz=>?_
      rw[hop]
      cases hr2:procsP T g (pr++[c.x]) s2 with
      |out=>exact absurd hr2 ho2
      |err p c=>rw[hr2]at hz;rcases z with z|z|z|z<;>exact hz
      |ok l s3=>
       rw[hr2]at hz
       rcases z with z|z|z|z
       ·exact hz.elim
       ·exact absurd (show(acc++[c])++l=[]from hz) (by simp)
       ·exact hz.elim
       ·trivial
     ·exact hz.elim
end
end Go.Proofs.YtjfkkokeegpeiaaDoor
/- Trees, procedures as values; what Parse returns. -/
namespace Go.Proofs.YtjfkkokeegpeiaaDoor
open Go Go.Am Go.Proofs.Lx
set_option maxRecDepth 100000
def dfl:List V:=[i64 0,i64 0,st ⟨#[]⟩,.ro 4 0 (fun _=>[])]
mutual
def cellsT:Tr→List V
 | .node k n s l=>[i64 k,i64 n,st s,.ro 4 l.length (fun j=>(cellsL l).getD j dfl)]
def cellsL:List Tr→List (List V)
 | []=>[]
 |t::l=>cellsT t::cellsL l
end
def cellsP(m:Prm):List V:=[st m.x,st m.u]
def cellsC(c:Prc):List V:=st c.x:: .ro 2 c.ps.length (fun j=>(c.ps.map cellsP).getD j [st ⟨#[]⟩,st ⟨#[]⟩])::cellsT c.b
def dflC:List V:=st ⟨#[]⟩:: .ro 2 0 (fun _=>[])::dfl
def procV(l:List Prc):V:=.ro 6 l.length (fun j=>(l.map cellsC).getD j dflC)
theorem pureT(t:Tr):pureL (cellsT t)=true:=by cases t;simp[cellsT,pureL,V.pure]
theorem pureLs:∀(l:List Tr) (j:Nat),pureL ((cellsL l).getD j dfl)=true
 | [],j=>by simp[cellsL,dfl,pureL,V.pure]
 |t::l,0=>by simp only[cellsL,List.getD_cons_zero];exact pureT t
 |t::l,j+1=>by simp only[cellsL,List.getD_cons_succ];exact pureLs l j
mutual
theorem leT:∀(t:Tr) (x:NodeT),RepN t x→LeL [i64 x.1,i64 x.2.1,st x.2.2.1,.ro 4 x.2.2.2.1 x.2.2.2.2] (cellsT t)
 | .node k n s l,x,h=>by
  simp only[RepN]at h
  obtain⟨h1,h2,h3,h4,h5⟩:=h
  simp only[cellsT,h1,h2,h3,h4]
  refine LeL.cons (Le.refl _) (LeL.cons (Le.refl _) (LeL.cons (Le.refl _) (LeL.cons (Le.ro fun j hj=>⟨?_,pureLs l j⟩) LeL.nil)))
  have:=leLs l x.2.2.2.2 0 h5 j hj
  rwa [Nat.zero_add]at this
theorem leLs:∀(l:List Tr) (f:Nat→List V) (i:Nat),RepL l f i→∀j,j<l.length→LeL (f (i+j)) ((cellsL l).getD j dfl)
 | [],_,_,_,j,hj=>by simp at hj
 |t::l,f,i,h,0,_=>by
  simp only[RepL]at h
  obtain⟨⟨y,e,hy⟩,_⟩:=h
  simp only[cellsL,List.getD_cons_zero,Nat.add_zero]
  rw[e]
  exact leT t y hy
 |t::l,f,i,h,j+1,hj=>by
  simp only[RepL]at h
  have:=leLs l f (i+1) h.2 j (by simpa using hj)
  simp only[cellsL,List.getD_cons_succ]
  rwa [show i+(j+1)=i+1+j by omega]
end
theorem pureC(c:Prc):pureL (cellsC c)=true:=by
 have:=pureT c.b
 simp only[cellsC,pureL,V.pure,Bool.and_eq_true]
 exact⟨trivial,trivial,this⟩
theorem leP{l:List Prc}{a:AcP}(h:RepP l a):Le (.ro 6 a.2.2.2.2.2.2.2.2 (fun j=>[st (a.1 j),.ro 2 (a.2.1 j) (a.2.2.1 j),i64 (a.2.2.2.1 j),i64 (a.2.2.2.2.1 j),st (a.2.2.2.2.2.1 j),.ro 4 (a.2.2.2.2.2.2.1 j) (a.2.2.2.2.2.2.2.1 j)])) (procV l):=by
 unfold procV
 rw[h.1]
 refine Le.ro fun j hj=>?_
 have hj':l[j]? =some l[j]:=List.getElem?_eq_getElem hj
 obtain⟨h1,h2,h3,h4⟩:=h.2 j _ hj'
 have e:(l.map cellsC).getD j dflC=cellsC l[j]:=by
  rw[List.getD_eq_getElem?_getD,List.getElem?_map,hj'];rfl
 rw[e]
 refine⟨?_,pureC _⟩
 unfold cellsC
 rw[h1,h2]
 refine LeL.cons (Le.refl _) (LeL.cons (Le.ro_eq fun i hi=>?_) (leT _ _ h4))
 have hi':l[j].ps[i]? =some l[j].ps[i]:=List.getElem?_eq_getElem hi
 rw[h3 i _ hi',List.getD_eq_getElem?_getD,List.getElem?_map,hi']
 exact⟨rfl,rfl⟩
theorem parse_lex{q:Nat}{s:ByteArray}{z:g_TokensV}(hz:TokensV q s=some z)(he:z.2.1≠0):SC E5 8 [st s] [] (.ret (.tup [procV [],i64 z.1,i64 z.2.1]) []):=by
 have hp:ParseT q s=some (.inl (z.1,z.2.1)):=by
  unfold ParseT t_ParseT
  rw[hz]
  dsimp only[Option.bind_some]
  rw[if_pos (by simpa using he)]
 exact SC.le (sc_ParseT q s _ hp) (Le.tup (LeL.cons Le.nil_ro (LeL.cons (Le.refl _) (LeL.cons (Le.refl _) LeL.nil))))
theorem parse_run{N:Nat}{T:Nat→Tkn}(hT:TokN N T){F q:Nat}(hF:F≤1000000000)(hq:2*F+2000000100≤q){s:ByteArray}{a:Int}(hz:TokensV q s=some (a,0,tokV N T)):
 match procsP T F [] ⟨0,0,[]⟩with
 | .ok l _=>SC E5 8 [st s] [] (.ret (.tup [procV l,i64 0,i64 0]) [])
 | .err p c=>p<N∧SC E5 8 [st s] [] (.ret (.tup [procV [],i64 (T p).a,i64 c]) [])
 | .out=>True:=by
 cases hr:procsP T F [] ⟨0,0,[]⟩with
 |out=>trivial
 |err p c=>
  obtain⟨z,h1,h2⟩:=parse_loopP (N:=N) hT hF hq (a,tokV N T) rfl F (Nat.le_refl _) q (by omega) [] [] ⟨0,0,[]⟩ (x00 N T) (.inl ()) ⟨rfl,rfl,rfl,rfl,rfl⟩ (by simpa using hF) (by simpa using hF) (x00_rs hT) (by rw[hr];intro h;cases h)
  rw[hr]at h2
  have key:∃e:Int×Int,ParseP q (a,tokV N T)=some e∧p<N∧e=((T p).a,c):=by
   unfold ParseP t_ParseP
   rw[h1]
   dsimp only[Option.bind_some]
   rcases z with z|z|z|z
   ·obtain⟨g1,g2,g3⟩:=h2
    exact⟨z,rfl,g1,Prod.ext g2 g3⟩
   ·exact h2.elim
   ·obtain⟨g1,g2,g3⟩:=h2
    exact⟨(z.1,z.2.1),rfl,g1,Prod.ext g2 g3⟩
   ·exact h2.elim
  obtain⟨e,k1,k2,rfl⟩:=key
  exact⟨k2,SC.le (parse_pan q s a (tokV N T) hz _ k1) (Le.tup (LeL.cons Le.nil_ro (LeL.cons (Le.refl _) (LeL.cons (Le.refl _) LeL.nil))))⟩
 |ok l s2=>
  obtain⟨z,h1,h2⟩:=parse_loopT (N:=N) hT a 0 hF hq s F (Nat.le_refl _) q (by omega) [] [] ⟨0,0,[]⟩ (x00 N T) (.inl (a,0,tokV N T)) ⟨rfl,rfl,rfl,rfl,rfl⟩ (by simpa using hF) (by simpa using hF) (x00_rs hT) (by rw[hr];intro h;cases h)
  rw[hr]at h2
  rcases z with z|z|z|z
  ·exact h2.elim
  ·have e:l=[]:=by simpa[BPT]using h2
   subst e
   have hp:ParseT q s=some (.inl (0,0)):=by
    unfold ParseT t_ParseT
    rw[hz]
    dsimp only[Option.bind_some]
    rw[if_neg (by simp),h1]
    rfl
   exact SC.le (sc_ParseT q s _ hp) (Le.tup (LeL.cons Le.nil_ro (LeL.cons (Le.refl _) (LeL.cons (Le.refl _) LeL.nil))))
  ·exact h2.elim
  ·obtain⟨b,rfl,hb⟩:=h2
   rw[List.nil_append]at hb
   have hpt:ParseT q s=some (.inr (b.2.2.2.2.2.2.2.2,b.1,b.2.1,b.2.2.1,b.2.2.2.1,b.2.2.2.2.1,b.2.2.2.2.2.1,b.2.2.2.2.2.2.1,b.2.2.2.2.2.2.2.1)):=by
    unfold ParseT t_ParseT
    rw[hz]
    dsimp only[Option.bind_some]
    rw[if_neg (by simp),h1]
    rfl
   have h3:=SC.giveM (L2:=[]) 0 (sc_ParseT q s _ hpt) (by rfl) (by simp[V.bw,V.bw2,V.bw1,Am.hp,V.pure,pureL])
   simp only[V.bw,V.bw2,V.bw1,Am.hp,List.map_cons,List.map_nil,List.getD_eq_getElem?_getD,List.getElem?_cons_succ,List.getElem?_cons_zero,Option.getD_some,Nat.zero_add,Nat.le_refl,and_self,if_true]at h3
   exact SC.le h3 (Le.tup (LeL.cons (leP hb) (LeL.cons (Le.refl _) (LeL.cons (Le.refl _) LeL.nil))))
end Go.Proofs.YtjfkkokeegpeiaaDoor
/- An example of the chapter is printed. -/
namespace Go.Proofs.YtjfkkokeegpeiaaDoor
open Go Go.Am Go.RowKit Go.Proofs.Lx
set_option maxRecDepth 100000
noncomputable def EP:Env:={E with allR:=true,push:=false,rows:=false,sett:=fun _=>false}
theorem hWP:WF EP:=WF.of EP (fun _=>rfl) (by kernel_rfl) hW.1.1
theorem hXP:SoundX EP:=fun f args v h=>by
 obtain⟨h1,h2,h3⟩:=hX f args v h
 exact⟨h1,h2,fun β S D w us a b c=>h3 β S D w us a ⟨b.rd,b.inv⟩ c⟩
theorem scP{f:FuncId}{args:List V}{L:List (Option Chunk)}{cr:CRes}(h:SC EP f args L cr)(hr:Nat.ble (roots false (hp L) args).length (roots true (hp L) args).length=true):SC E5 f args L cr:=by
 refine un7 (h:= ?_) hr
 exact⟨h.1,fun β S w us h1 h2 h3=>h.2 β S w us h1 h2 ⟨h3.rd,h3.inv⟩⟩
def byteC:List V→Bool
 | [.sc (.int .u8 x)]=>decide (0≤x)&&decide (x<256)
 |_=>false
def bldT:CallT:=fun f args L k=>
 match f,args,L with
 |49,[.ptr 0 0],some (.tbk 64 [.ptr 0 0,v])::rest=>k (.ret (.tup []) (some (.tbk 64 [.ptr 0 0,v])::rest))
 |49,[.ptr 0 0],some (.tbk 64 [.sc (.pointer none),v])::rest=>k (.ret (.tup []) (some (.tbk 64 [.ptr 0 0,v])::rest))
 |23,[.ptr 0 0],[some (.tbk 64 [c0,.sl 1 1 0 n]),some (.row 5 1 n' f)]=>if n=n'∧0<n∧(List.range n).all (fun j=>byteC (f j))=true then k (.ret (st (strOfV n f)) [none,none])else none
 |_,_,_=>none
theorem byteC_eq{l:List V}(h:byteC l=true):∃x:UInt8,l=[.sc (.int .u8 ((x.toNat:Nat):Int))]∧UInt8.ofNat (u8I l).toNat=x:=by
 unfold byteC at h
 split at h
 ·rename_i x
  simp only[Bool.and_eq_true,decide_eq_true_eq]at h
  have hx:x.toNat<256:=by omega
  refine⟨UInt8.ofNat x.toNat,?_,rfl⟩
  have:((UInt8.ofNat x.toNat).toNat:Int)=x:=by
   simp only[UInt8.toNat_ofNat']
   omega
  rw[this]
 ·cases h
theorem bldT_sound:SoundC EP bldT:=by
 intro f args L k r h
 unfold bldT at h
 split at h
 ·exact⟨_,h,cc_used_sc rfl _ _⟩
 ·exact⟨_,h,cc_fresh_sc rfl _ _⟩
 ·rename_i c0 n n' f
  split at h
  ·rename_i hc
   obtain⟨rfl,h0,hall⟩:=hc
   rw[List.all_eq_true]at hall
   refine⟨_,h,?_⟩
   have hl:((List.range n).map fun j=>UInt8.ofNat (u8I (f j)).toNat).length=n:=by simp
   have:=str_sc (E:=EP) rfl c0 (n:=n) (f:=f) (l:=(List.range n).map fun j=>UInt8.ofNat (u8I (f j)).toNat) hl (by
    intro e
    rw[e]at hl
    simp at hl
    omega) (fun j x hx=>by
    rw[List.getElem?_map,Option.map_eq_some_iff]at hx
    obtain⟨i,hi,rfl⟩:=hx
    obtain⟨h1,h2⟩:=List.getElem?_eq_some_iff.1 hi
    simp at h1 h2
    subst h2
    obtain⟨y,e1,e2⟩:=byteC_eq (hall j (by simpa using h1))
    rw[e2]
    exact e1)
   unfold strOfV strOfNums
   rw[List.map_map]
   exact this
  ·cases h
 ·cases h
def spB(f:FuncId):Bool:=f==49||f==23
def prc1:List Prc:=[⟨⟨#[112]⟩,[⟨⟨#[116]⟩,⟨#[115]⟩⟩],.node 14 0 ⟨#[]⟩ [.node 1 0 ⟨#[120]⟩ [.node 20 0 ⟨#[42]⟩ [.node 15 2 ⟨#[]⟩ [],.node 20 0 ⟨#[43]⟩ [.node 15 1 ⟨#[]⟩ [],.node 18 0 ⟨#[98,97,116,116,101,114,121]⟩ []]]]]⟩]
def out1:ByteArray:=⟨#[112,114,111,99,101,100,117,114,101,32,112,40,116,58,32,115,41,32,123,10,32,32,108,101,116,32,120,32,61,32,50,32,42,32,40,49,32,43,32,116,108,109,46,98,97,116,116,101,114,121,41,59,10,125,10]⟩
theorem print1:SC E5 9 [procV prc1] [] (.ret (st out1) []):=scP (SC.closedB (sp:=spB) (base:=bldT) hWP hXP bldT_sound 80 (by kernel_rfl)) (by kernel_rfl)
end Go.Proofs.YtjfkkokeegpeiaaDoor
/- The program's lexer, of words: the plain one. -/
namespace Go.Proofs.YtjfkkokeegpeiaaDoor
open Go Go.Am Go.Proofs.Lx
set_option maxRecDepth 100000
theorem letter_eq(q:Nat)(c:Int):letter q c=some (letterI c):=by
 unfold letter t_letter letterI
 simp only[ge_iff_le,decide_eq_true_eq]
 by_cases h1:97≤c<;>by_cases h2:c≤122<;>by_cases h3:65≤c<;>by_cases h4:c≤90<;>simp[h1,h2,h3,h4]<;>omega
theorem digit_eq(q:Nat)(c:Int):digit q c=some (digitI c):=by
 unfold digit t_digit digitI
 simp only[ge_iff_le,decide_eq_true_eq]
 by_cases h1:48≤c<;>by_cases h2:c≤57<;>simp[h1,h2]
theorem notLf_eq(q:Nat)(c:Int):notLf q c=some (ne10 c):=rfl
theorem wordC_eq(q:Nat)(c:Int):wordC q c=some (wordI c):=by
 unfold wordC t_wordC
 rw[letter_eq]
 dsimp only[Option.bind_some]
 unfold wordI
 by_cases h:letterI c=true
 ·rw[if_pos h,h];rfl
 ·rw[if_neg h,digit_eq]
  simp only[Bool.not_eq_true]at h
  rw[h];rfl
theorem flat_letter:Flat letterI:=fun c h=>by rw[Bool.eq_iff_iff];simp[letterI];omega
theorem flat_digit:Flat digitI:=fun c h=>by rw[Bool.eq_iff_iff];simp[digitI];omega
theorem flat_white:Flat whiteI:=fun c h=>by rw[Bool.eq_iff_iff];simp[whiteI];omega
theorem flat_word:Flat wordI:=fun c h=>by unfold wordI;rw[flat_letter c h,flat_digit c h]
theorem flat_ne10:Flat ne10:=fun c h=>by rw[Bool.eq_iff_iff];simp[ne10];omega
def spanSt(g:Int→Bool)(s:ByteArray)(y:Nat):Option (Nat⊕(Int⊕Unit)):=
 if y<s.size then(if(!(g ((Utf8.decode s y).1:Int)))=true then some (.inr (.inl ((y:Nat):Int)))else some (.inl (y+(Utf8.decode s y).2)))else some (.inr (.inr ()))
theorem span_run(g:Int→Bool)(hg:Flat g)(s:ByteArray):∀(m y:Nat),y≤s.size→s.size-y<m→∃r,lpG (spanSt g s) m y=some r∧(r= .inl (((y+spanL g (s.data.toList.drop y):Nat):Nat):Int)∨(r= .inr ()∧y+spanL g (s.data.toList.drop y)=s.size)):=by
 intro m
 induction m with
 |zero=>intro y _ h;omega
 |succ m ih=>
  intro y hy hm
  rw[lpG_succ]
  by_cases h:y<s.size
  ·by_cases hc:g ((Utf8.decode s y).1:Int)=true
   ·have e:spanSt g s y=some (.inl (y+(Utf8.decode s y).2)):=by unfold spanSt;rw[if_pos h,if_neg (by rw[hc];simp)]
    rw[e]
    obtain⟨h1,h2,_⟩:=decode_len s y h
    have e2:=span_step s g hg y h hc
    obtain⟨r,k1,k2⟩:=ih (y+(Utf8.decode s y).2) h2 (by omega)
    refine⟨r,k1,?_⟩
    rw[e2]
    rw[Nat.add_assoc]at k2
    exact k2
   ·have e:spanSt g s y=some (.inr (.inl ((y:Nat):Int))):=by unfold spanSt;rw[if_pos h,if_pos (by simpa using hc)]
    rw[e]
    refine⟨_,rfl,.inl ?_⟩
    rw[span_stop s g y h (by rw[←decode_g s g hg y h];simpa using hc)]
    rfl
  ·have e:spanSt g s y=some (.inr (.inr ())):=by unfold spanSt;rw[if_neg h]
   rw[e]
   have:y=s.size:=by omega
   subst this
   exact⟨_,rfl,.inr ⟨rfl,by rw[span_end];rfl⟩⟩
theorem span_len(g:Int→Bool)(s:ByteArray):spanL g s.data.toList≤s.size:=by
 have:=spanL_le g s.data.toList
 simpa using this
theorem spanN_eq(q:Nat)(s:ByteArray)(hq:s.size<q):spanN q s=some ((spanL ne10 s.data.toList:Nat):Int):=by
 unfold spanN t_spanN spanN_l0
 have e:(fun y=>spanN_l0_t (notLf q) s y (fun y=>(some (.inl y):Option (spanN_l0_a⊕spanN_l0_g))) (fun z=>some (.inr z)))=spanSt ne10 s:=by
  funext y
  unfold spanN_l0_t spanSt
  simp only[notLf_eq,Option.bind_some]
 rw[e]
 obtain⟨r,k1,k2⟩:=span_run ne10 flat_ne10 s q 0 (Nat.zero_le _) (by omega)
 rw[k1]
 rw[List.drop_zero,Nat.zero_add]at k2
 rcases k2 with rfl| ⟨rfl,k2⟩
 ·rfl
 ·rw[k2];rfl
theorem spanD_eq(q:Nat)(s:ByteArray)(hq:s.size<q):spanD q s=some ((spanL digitI s.data.toList:Nat):Int):=by
 unfold spanD t_spanD spanD_l0
 have e:(fun y=>spanD_l0_t (digit q) s y (fun y=>(some (.inl y):Option (spanD_l0_a⊕spanD_l0_g))) (fun z=>some (.inr z)))=spanSt digitI s:=by
  funext y
  unfold spanD_l0_t spanSt
  simp only[digit_eq,Option.bind_some]
 rw[e]
 obtain⟨r,k1,k2⟩:=span_run digitI flat_digit s q 0 (Nat.zero_le _) (by omega)
 rw[k1]
 rw[List.drop_zero,Nat.zero_add]at k2
 rcases k2 with rfl| ⟨rfl,k2⟩
 ·rfl
 ·rw[k2];rfl
theorem spanW_eq(q:Nat)(s:ByteArray)(hq:s.size<q):spanW q s=some ((spanL wordI s.data.toList:Nat):Int):=by
 unfold spanW t_spanW spanW_l0
 have e:(fun y=>spanW_l0_t (wordC q) s y (fun y=>(some (.inl y):Option (spanW_l0_a⊕spanW_l0_g))) (fun z=>some (.inr z)))=spanSt wordI s:=by
  funext y
  unfold spanW_l0_t spanSt
  simp only[wordC_eq,Option.bind_some]
 rw[e]
 obtain⟨r,k1,k2⟩:=span_run wordI flat_word s q 0 (Nat.zero_le _) (by omega)
 rw[k1]
 rw[List.drop_zero,Nat.zero_add]at k2
 rcases k2 with rfl| ⟨rfl,k2⟩
 ·rfl
 ·rw[k2];rfl
def tokE(z:Tkn×Int):Int×Int×ByteArray×Int×Int:=(z.1.k,z.1.a,z.1.t,z.1.n,z.2)
theorem word_eq(q:Nat)(s:ByteArray)(hq:s.size<q):word q s=some (tokE (wordP s)):=by
 unfold word t_word wordP
 rw[spanW_eq q s hq]
 dsimp only[Option.bind_some]
 have hl:=span_len wordI s
 generalize spanL wordI s.data.toList=k at hl⊢
 by_cases h:12<k
 ·have h':(k:Int)>12:=by omega
  rw[if_pos h,if_pos (decide_eq_true h')];rfl
 ·have h':¬(k:Int)>12:=by omega
  have h3:(0:Int)≤0∧(0:Int)≤((k:Nat):Int)∧((k:Nat):Int)≤((s.size:Nat):Int):=by omega
  rw[if_neg h,if_neg (fun hh=>h' (of_decide_eq_true hh)),if_pos h3];rfl
end Go.Proofs.YtjfkkokeegpeiaaDoor
/- The program's lexer, of symbols and numbers: the plain one. -/
namespace Go.Proofs.YtjfkkokeegpeiaaDoor
open Go Go.Am Go.Proofs.Lx
set_option maxRecDepth 100000
theorem sym_two{s:ByteArray}(h1:1<s.size){l:List UInt8}(hl:l∈sym2)(e:s.extract 0 2=⟨l.toArray⟩):((3,0,s.extract 0 2,0,0):Int×Int×ByteArray×Int×Int)=tokE (symbolP s):=by
 have h2:symN s.data.toList=2:=symN_two (t:=s.extract 0 2) h1 rfl (by rw[e];exact hl)
 unfold symbolP
 rw[h2,if_neg (by decide)]
 rfl
theorem sym_one{s:ByteArray}(h0:0<s.size)(hn:¬(1<s.data.toList.length∧s.data.toList.take 2∈sym2))(hi:(0:Int)≤Lib.indexByte sym1 s[0]):((3,0,s.extract 0 1,0,0):Int×Int×ByteArray×Int×Int)=tokE (symbolP s):=by
 have h2:=symN_one h0 hn
 rw[if_pos hi]at h2
 unfold symbolP
 rw[h2,if_neg (by decide)]
 rfl
theorem sym_no{s:ByteArray}(h0:0<s.size)(hn:¬(1<s.data.toList.length∧s.data.toList.take 2∈sym2))(hi:¬(0:Int)≤Lib.indexByte sym1 s[0]):((0,0,⟨#[]⟩,0,11):Int×Int×ByteArray×Int×Int)=tokE (symbolP s):=by
 have h2:=symN_one h0 hn
 rw[if_neg hi]at h2
 unfold symbolP
 rw[h2,if_pos rfl]
 rfl
theorem lsym_rs(q:Nat)(s:ByteArray)(h0:0<s.size):Rs (lsym q s) (fun z=>z=tokE (symbolP s)):=by
 unfold lsym t_lsym
 refine Rs.pos (show(0:Int)≤0∧(0:Int)< ((s.size:Nat):Int)by omega) ?_
 have hg:=drop_get s 0 h0
 have e:=get_at s 0 h0
 simp only[Nat.add_zero]at e
 rw[List.drop_zero,e]at hg
 have hb:List.getD s.data.toList 0 (0:UInt8)=s[0]:=by rw[hg];rfl
 have hix:∀q,IndexByte q ({data:=#[123,125,40,41,61,59,44,58,60,62,43,45,42,47,33,46]},((UInt8.toNat (List.getD s.data.toList 0 (0:UInt8)):Nat):Int))=some (Lib.indexByte sym1 s[0]):=by
  intro q
  unfold IndexByte
  dsimp only
  rw[hb,Int.toNat_natCast,UInt8.ofNat_toNat]
  rfl
 refine Rs.bind ⟨_,hix q,rfl⟩ fun z hz=>?_
 subst hz
 by_cases hi:(0:Int)≤Lib.indexByte sym1 s[0]
 ·refine Rs.pos (decide_eq_true hi) ?_
  have hb1:(0:Int)≤0∧(0:Int)≤1∧(1:Int)≤((s.size:Nat):Int):=by omega
  by_cases h1:1<s.size
  ·have hbn:(0:Int)≤0∧(0:Int)≤2∧(2:Int)≤((s.size:Nat):Int):=by omega
   refine Rs.pos (decide_eq_true (show((s.size:Nat):Int)>1 by omega)) (Rs.pos hbn ?_)
   by_cases c1:s.extract 0 2=sOr
   ·exact Rs.pos (tl_eq.2 c1) (Rs.pos hbn (Rs.some (sym_two h1 (by decide) c1)))
   refine Rs.neg (fun h=>c1 (tl_eq.1 h)) ?_
   by_cases c2:s.extract 0 2=sAnd
   ·exact Rs.pos (tl_eq.2 c2) (Rs.pos hbn (Rs.some (sym_two h1 (by decide) c2)))
   refine Rs.neg (fun h=>c2 (tl_eq.1 h)) ?_
   by_cases c3:s.extract 0 2=sLe
   ·exact Rs.pos (tl_eq.2 c3) (Rs.pos hbn (Rs.some (sym_two h1 (by decide) c3)))
   refine Rs.neg (fun h=>c3 (tl_eq.1 h)) ?_
   by_cases c4:s.extract 0 2=sGe
   ·exact Rs.pos (tl_eq.2 c4) (Rs.pos hbn (Rs.some (sym_two h1 (by decide) c4)))
   refine Rs.neg (fun h=>c4 (tl_eq.1 h)) ?_
   by_cases c5:s.extract 0 2=sEq
   ·exact Rs.pos (tl_eq.2 c5) (Rs.pos hbn (Rs.some (sym_two h1 (by decide) c5)))
   refine Rs.neg (fun h=>c5 (tl_eq.1 h)) ?_
   by_cases c6:s.extract 0 2=sNe
   ·exact Rs.pos (tl_eq.2 c6) (Rs.pos hbn (Rs.some (sym_two h1 (by decide) c6)))
   refine Rs.neg (fun h=>c6 (tl_eq.1 h)) ?_
   have hn:¬(1<s.data.toList.length∧s.data.toList.take 2∈sym2):=sym2_not rfl (by
    intro l hl
    simp only[sym2,List.mem_cons,List.not_mem_nil,or_false]at hl
    rcases hl with rfl|rfl|rfl|rfl|rfl|rfl
    ·exact c1
    ·exact c2
    ·exact c3
    ·exact c4
    ·exact c5
    ·exact c6)
   exact Rs.pos hb1 (Rs.some (sym_one h0 hn hi))
  ·have hn:¬(1<s.data.toList.length∧s.data.toList.take 2∈sym2):=fun h=>h1 (by simpa using h.1)
   refine Rs.neg (fun h=>h1 (by have:=of_decide_eq_true h;omega)) ?_
   exact Rs.pos hb1 (Rs.some (sym_one h0 hn hi))
 ·refine Rs.neg (fun h=>hi (of_decide_eq_true h)) ?_
  by_cases h1:1<s.size
  ·have hbn:(0:Int)≤0∧(0:Int)≤2∧(2:Int)≤((s.size:Nat):Int):=by omega
   refine Rs.pos (decide_eq_true (show((s.size:Nat):Int)>1 by omega)) (Rs.pos hbn ?_)
   by_cases c1:s.extract 0 2=sOr
   ·exact Rs.pos (tl_eq.2 c1) (Rs.pos hbn (Rs.some (sym_two h1 (by decide) c1)))
   refine Rs.neg (fun h=>c1 (tl_eq.1 h)) ?_
   by_cases c2:s.extract 0 2=sAnd
   ·exact Rs.pos (tl_eq.2 c2) (Rs.pos hbn (Rs.some (sym_two h1 (by decide) c2)))
   refine Rs.neg (fun h=>c2 (tl_eq.1 h)) ?_
   by_cases c3:s.extract 0 2=sLe
   ·exact Rs.pos (tl_eq.2 c3) (Rs.pos hbn (Rs.some (sym_two h1 (by decide) c3)))
   refine Rs.neg (fun h=>c3 (tl_eq.1 h)) ?_
   by_cases c4:s.extract 0 2=sGe
   ·exact Rs.pos (tl_eq.2 c4) (Rs.pos hbn (Rs.some (sym_two h1 (by decide) c4)))
   refine Rs.neg (fun h=>c4 (tl_eq.1 h)) ?_
   by_cases c5:s.extract 0 2=sEq
   ·exact Rs.pos (tl_eq.2 c5) (Rs.pos hbn (Rs.some (sym_two h1 (by decide) c5)))
   refine Rs.neg (fun h=>c5 (tl_eq.1 h)) ?_
   by_cases c6:s.extract 0 2=sNe
   ·exact Rs.pos (tl_eq.2 c6) (Rs.pos hbn (Rs.some (sym_two h1 (by decide) c6)))
   refine Rs.neg (fun h=>c6 (tl_eq.1 h)) ?_
   have hn:¬(1<s.data.toList.length∧s.data.toList.take 2∈sym2):=sym2_not rfl (by
    intro l hl
    simp only[sym2,List.mem_cons,List.not_mem_nil,or_false]at hl
    rcases hl with rfl|rfl|rfl|rfl|rfl|rfl
    ·exact c1
    ·exact c2
    ·exact c3
    ·exact c4
    ·exact c5
    ·exact c6)
   exact Rs.some (sym_no h0 hn hi)
  ·have hn:¬(1<s.data.toList.length∧s.data.toList.take 2∈sym2):=fun h=>h1 (by simpa using h.1)
   refine Rs.neg (fun h=>h1 (by have:=of_decide_eq_true h;omega)) ?_
   exact Rs.some (sym_no h0 hn hi)
theorem val_ge:∀(l:List UInt8) (n:Int),(∀b∈l,digitI b.toNat=true)→0≤n→n≤valI n l
 | [],n,_,_=>Int.le_refl _
 |b::l,n,h,h0=>by
  have hb:=h b (.head _)
  simp[digitI]at hb
  have:=val_ge l (10*n+((b.toNat:Int)-48)) (fun c hc=>h c (.tail _ hc)) (by omega)
  show n≤valI (10*n+((b.toNat:Int)-48)) l
  omega
theorem num_loop(q:Nat)(x0:a_lnum)(t:ByteArray)(hd:∀b∈t.data.toList,digitI b.toNat=true):∀(m p:Nat) (n:Int),p≤t.size→t.size-p<m→0≤n→n≤2147483647→
 Rs (lpG (fun y=>lnum_l0_t (spanD q) x0 y (fun y=>some (.inl y)) (fun z=>some (.inr z))) m (t,n,p)) (fun r=>if valI n (t.data.toList.drop p)>2147483647 then r= .inl ()else r= .inr (t,valI n (t.data.toList.drop p))):=by
 intro m
 induction m with
 |zero=>intro p n _ h;omega
 |succ m ih=>
  intro p n hp hm h0 h1
  refine Rs.step3 fun Q hQ=>?_
  unfold lnum_l0_t
  dsimp only
  by_cases h:p<t.size
  ·refine Rs.pos h ?_
   have hg:=drop_get t p h
   have hdg:digitI ((t.get! p).toNat:Int)=true:=hd _ (List.mem_of_getElem? (get_list t p h))
   have hdg':=hdg
   simp[digitI]at hdg'
   have e:=get_at t p h
   simp only[Nat.add_zero]at e
   have hdec:Utf8.decode t p=((t.get! p).toNat,1):=by
    have:=decode_ascii t p h (by rw[←e];omega)
    rw[this,←e]
   rw[hdec]
   dsimp only
   have e32:IntKind.wrap .i32 (((t.get! p).toNat:Int)-48)=((t.get! p).toNat:Int)-48:=by
    simp[IntKind.wrap,IntKind.bits,IntKind.signed];omega
   have ew:w (w (10*n)+w (IntKind.wrap .i32 (((t.get! p).toNat:Int)-48)))=10*n+(((t.get! p).toNat:Int)-48):=by
    rw[e32,w_in (n:=10*n) (by omega) (by omega),w_in (n:=((t.get! p).toNat:Int)-48) (by omega) (by omega),w_in (by omega) (by omega)]
   rw[ew]
   have ev:valI n (t.data.toList.drop p)=valI (10*n+(((t.get! p).toNat:Int)-48)) (t.data.toList.drop (p+1)):=by rw[hg];rfl
   by_cases hc:10*n+(((t.get! p).toNat:Int)-48)>2147483647
   ·refine Rs.pos (decide_eq_true hc) (Rs.some ?_)
    have hv:=val_ge (t.data.toList.drop (p+1)) (10*n+(((t.get! p).toNat:Int)-48)) (fun b hb=>hd b (List.mem_of_mem_drop hb)) (by omega)
    show(if _ then _ else _)
    rw[if_pos (by rw[ev];omega)]
   ·refine Rs.neg (fun hh=>hc (of_decide_eq_true hh)) (Rs.some (hQ _ ?_))
    rw[ev]
    exact ih (p+1) _ h (by omega) (by omega) (by omega)
  ·refine Rs.neg h (Rs.some ?_)
   have hlen:t.data.toList.length=t.size:=by simp
   have:t.data.toList.drop p=[]:=List.drop_of_length_le (by omega)
   show(if _ then _ else _)
   rw[this]
   rw[if_neg (show¬(valI n []>2147483647)by show¬n>2147483647;omega)]
   rfl
theorem lnum_rs(q:Nat)(s:ByteArray)(hq:s.size<q):Rs (lnum q s) (fun z=>z=tokE (numberP (s.extract 0 (spanL digitI s.data.toList)))):=by
 unfold lnum t_lnum
 rw[spanD_eq q s hq]
 dsimp only[Option.bind_some]
 have hl:=span_len digitI s
 have hd:∀b∈(s.extract 0 (spanL digitI s.data.toList)).data.toList,digitI b.toNat=true:=by
  intro b hb
  rw[extract_list]at hb
  simp only[List.drop_zero,Nat.sub_zero]at hb
  obtain⟨j,hj⟩:=List.mem_iff_getElem?.1 hb
  rw[List.getElem?_take]at hj
  split at hj
  ·rename_i hlt
   obtain⟨c,h1,h2⟩:=spanL_get digitI s.data.toList j hlt
   rw[h1]at hj
   cases hj
   exact h2
  ·cases hj
 have ht:(s.extract 0 (spanL digitI s.data.toList)).size≤s.size:=by simp;omega
 generalize hk:spanL digitI s.data.toList=k at hl hd ht⊢
 have e0:Int.toNat ((k:Nat):Int)=k:=by omega
 rw[e0]
 refine Rs.pos (show(0:Int)≤0∧(0:Int)≤((k:Nat):Int)∧((k:Nat):Int)≤((s.size:Nat):Int)by omega) ?_
 generalize s.extract 0 k=t at hd ht⊢
 have hloop:=num_loop q s t hd q 0 0 (Nat.zero_le _) (by omega) (by omega) (by omega)
 rw[List.drop_zero]at hloop
 have tail:¬(1<t.size∧t.data.toList[0]? =some 48)→Rs ((lnum_l0 (spanD q) q s (t,0,0)).bind fun z16=>Sum.elim (fun z16a=>(some (((0:Int),(0:Int),{data:=#[]},(0:Int),(5:Int))):Option g_lnum)) (fun z16b=>some (((2:Int),(0:Int),z16b.1,z16b.2,(0:Int)))) z16) (fun z=>z=tokE (numberP t)):=by
  intro hno
  refine Rs.bind hloop fun r hr=>?_
  unfold numberP
  rw[if_neg hno]
  by_cases hv:valI 0 t.data.toList>2147483647
  ·rw[if_pos hv]at hr⊢
   subst hr
   exact Rs.some rfl
  ·rw[if_neg hv]at hr⊢
   subst hr
   exact Rs.some rfl
 by_cases h1:1<t.size
 ·refine Rs.pos (decide_eq_true (show((t.size:Nat):Int)>1 by omega)) (Rs.pos (show(0:Int)≤0∧(0:Int)< ((t.size:Nat):Int)by omega) ?_)
  have hg:=drop_get t 0 (by omega)
  rw[List.drop_zero]at hg
  have hb:List.getD t.data.toList 0 (0:UInt8)=t.get! 0:=by rw[hg];rfl
  rw[hb]
  by_cases hc:(((t.get! 0).toNat:Nat):Int)=48
  ·refine Rs.pos (by simpa using hc) (Rs.some ?_)
   unfold numberP
   rw[if_pos ⟨h1,by rw[hg];simp only[List.getElem?_cons_zero,Option.some.injEq];exact UInt8.toNat_inj.1 (by show(t.get! 0).toNat=48;omega)⟩]
   rfl
  ·refine Rs.neg (by simpa using hc) (tail fun h=>hc ?_)
   have:=h.2
   rw[hg]at this
   simp only[List.getElem?_cons_zero,Option.some.injEq]at this
   rw[this];rfl
 ·exact Rs.neg (fun h=>h1 (by have:=of_decide_eq_true h;omega)) (tail fun h=>h1 h.1)
end Go.Proofs.YtjfkkokeegpeiaaDoor
/- The program's lexer: the plain one. -/
namespace Go.Proofs.YtjfkkokeegpeiaaDoor
open Go Go.Am Go.Proofs.Lx
set_option maxRecDepth 100000
abbrev TkT:Type:=(Nat→Int)×(Nat→ByteArray)×(Nat→Int)×(Nat→Int)
def RepK(l:List Tkn)(a:TkT):Prop:=∀j x,l[j]? =some x→a.1 j=x.k∧a.2.1 j=x.t∧a.2.2.1 j=x.n∧a.2.2.2 j=x.a
theorem RepK.push{l:List Tkn}{a:TkT}(h:RepK l a)(x:Tkn):RepK (l++[x]) (fun j=>if j<l.length then a.1 j else x.k,fun j=>if j<l.length then a.2.1 j else x.t,fun j=>if j<l.length then a.2.2.1 j else x.n,fun j=>if j<l.length then a.2.2.2 j else x.a):=by
 intro j y e
 by_cases hj:j<l.length
 ·rw[List.getElem?_append_left hj]at e
  simp only[hj,if_true]
  exact h j y e
 ·rw[List.getElem?_append_right (by omega)]at e
  simp only[hj,if_false]
  cases hk:j-l.length with
  |zero=>rw[hk]at e;simp only[List.getElem?_cons_zero,Option.some.injEq]at e;subst e;exact⟨rfl,rfl,rfl,rfl⟩
  |succ n=>rw[hk]at e;simp at e
theorem RepK.one(x:Tkn):RepK [x] (fun _=>x.k,fun _=>x.t,fun _=>x.n,fun _=>x.a):=by
 intro j y e
 cases j with
 |zero=>simp only[List.getElem?_cons_zero,Option.some.injEq]at e;subst e;exact⟨rfl,rfl,rfl,rfl⟩
 |succ j=>simp at e
def endT(s:ByteArray):Tkn:=⟨0,(s.size:Nat),⟨#[]⟩,0⟩
def TL(s:ByteArray):Tokens_l0_g→Prop
 | .inl z=>∃p:Nat,z.1=(p:Int)∧z.2≠0∧Lex s 0 [] ([],p,z.2)
 | .inr (.inl _)=>Lex s 0 [] ([endT s],0,0)
 | .inr (.inr z)=>∃acc:List Tkn,z.1=acc.length∧acc.length≤s.size∧RepK acc (z.2.1,z.2.2.2.1,z.2.2.2.2,z.2.2.1)∧Lex s 0 [] (acc++[endT s],0,0)
def TS(acc:List Tkn)(p d:Nat):Tokens_l0_a→Prop
 | .inl y=>acc=[]∧y=(p,((d:Nat):Int))
 | .inr y=>∃(a:TkT) (n:Nat),y=(((d:Nat):Int),a.1,a.2.1,a.2.2.1,a.2.2.2,p,n)∧n=acc.length∧RepK acc a
theorem tokP_word{s:ByteArray}{p:Nat}(h:letterI ((s.get! p).toNat:Int)=true):tokP s p=wordP (s.extract p s.size):=by unfold tokP;rw[if_pos h]
theorem tokP_num{s:ByteArray}{p:Nat}(h:¬letterI ((s.get! p).toNat:Int)=true)(h2:digitI ((s.get! p).toNat:Int)=true):tokP s p=numberP ((s.extract p s.size).extract 0 (spanL digitI (s.extract p s.size).data.toList)):=by unfold tokP;rw[if_neg h,if_pos h2]
theorem tokP_sym{s:ByteArray}{p:Nat}(h:¬letterI ((s.get! p).toNat:Int)=true)(h2:¬digitI ((s.get! p).toNat:Int)=true):tokP s p=symbolP (s.extract p s.size):=by unfold tokP;rw[if_neg h,if_neg h2]
theorem white_iff(c:Int):whiteI c=true↔c=32∨c=9∨c=10∨c=13:=by simp[whiteI]
set_option maxHeartbeats 1000000 in
theorem tok_loop(q:Nat)(s:ByteArray)(hs:s.size≤4000)(hq:4000<q):∀(m p d:Nat) (acc:List Tkn) (y:Tokens_l0_a),TS acc p d y→p≤s.size→d≤s.size→s.size-p<m→Bd s p d→acc.length≤max p d→(∀r,Lex s (max p d) acc r→Lex s 0 [] r)→
 Rs (Tokens_l0 (letter q) (digit q) (spanN q) (word q) (lnum q) (lsym q) m s y) (TL s):=by
 intro m
 induction m with
 |zero=>intro p d acc y _ _ _ h;omega
 |succ m ih=>
  intro p d acc y hy hp hd hm hbd hacc hinv
  unfold Tokens_l0
  refine Rs.step3 fun Q hQ=>?_
  have e1:Int.toNat ((p:Nat):Int)=p:=by omega
  have e2:Int.toNat ((s.size:Nat):Int)=s.size:=by omega
  have hr:(s.extract p s.size).size=s.size-p:=ext_size s p
  rcases y with y|y
  ·obtain⟨rfl,rfl⟩:=hy
   rw[Sum.elim_inl]
   unfold Tokens_l0_t0
   dsimp only
   by_cases hlt:p<s.size
   ·obtain⟨hw1,hw2,_⟩:=decode_len s p hlt
    refine Rs.pos hlt ?_
    by_cases hpd:p<d
    ·refine Rs.pos (decide_eq_true (Int.ofNat_lt.2 hpd)) (Rs.some ?_)
     obtain⟨b1,b2⟩:=hbd.step hpd hd
     refine hQ _ (ih (p+(Utf8.decode s p).2) d [] _ ⟨rfl,rfl⟩ hw2 hd (by omega) b2 (by omega) fun r h=>hinv r ?_)
     rwa [Nat.max_eq_right (by omega)]at h⊢
    ·refine Rs.neg (fun h=>hpd (Int.ofNat_lt.1 (of_decide_eq_true h))) (Rs.pos (show(0:Int)≤((p:Nat):Int)∧((p:Nat):Int)≤((s.size:Nat):Int)∧((s.size:Nat):Int)≤((s.size:Nat):Int)by omega) ?_)
     have hmax:max p d=p:=Nat.max_eq_left (by omega)
     rw[hmax]at hinv hacc
     have hi:=hinv
     have e:=get_at s p hlt
     simp only[Nat.add_zero]at e
     have hW:=decode_g s whiteI flat_white p hlt
     have hLt:=decode_g s letterI flat_letter p hlt
     have hDg:=decode_g s digitI flat_digit p hlt
     have hlo:(s.get! p).toNat<128→Utf8.decode s p=((s.get! p).toNat,1):=fun h=>by
      have:=decode_ascii s p hlt (by rw[←e];exact h)
      rw[this,←e]
     have hhi:128≤(s.get! p).toNat→128≤(Utf8.decode s p).1:=fun h=>(decode_high s p hlt (by rw[←e];exact h)).1
     have skip:whiteI (((Utf8.decode s p).1:Nat):Int)=true→Rs (Tokens_l0 (letter q) (digit q) (spanN q) (word q) (lnum q) (lsym q) m s (.inl (p+(Utf8.decode s p).2,((d:Nat):Int)))) (TL s):=by
      intro hwh
      rw[hW]at hwh
      have hb:(s.get! p).toNat<128:=by have:=(white_iff _).1 hwh;omega
      have hd1:=hlo hb
      refine ih _ d [] _ ⟨rfl,rfl⟩ hw2 hd (by omega) (Bd.refl _ _ _ (by omega)) (by omega) fun r h=>hi r (.white hlt hwh ?_)
      rw[hd1]at h
      rwa [Nat.max_eq_left (by show d≤p+1;omega)]at h
     by_cases c1:(((Utf8.decode s p).1:Nat):Int)=32
     ·exact Rs.pos (beq_iff_eq.2 c1) (Rs.some (hQ _ (skip ((white_iff _).2 (.inl c1)))))
     refine Rs.neg (fun h=>c1 (beq_iff_eq.1 h)) ?_
     by_cases c2:(((Utf8.decode s p).1:Nat):Int)=9
     ·exact Rs.pos (beq_iff_eq.2 c2) (Rs.some (hQ _ (skip ((white_iff _).2 (.inr (.inl c2))))))
     refine Rs.neg (fun h=>c2 (beq_iff_eq.1 h)) ?_
     by_cases c3:(((Utf8.decode s p).1:Nat):Int)=10
     ·exact Rs.pos (beq_iff_eq.2 c3) (Rs.some (hQ _ (skip ((white_iff _).2 (.inr (.inr (.inl c3)))))))
     refine Rs.neg (fun h=>c3 (beq_iff_eq.1 h)) ?_
     by_cases c4:(((Utf8.decode s p).1:Nat):Int)=13
     ·exact Rs.pos (beq_iff_eq.2 c4) (Rs.some (hQ _ (skip ((white_iff _).2 (.inr (.inr (.inr c4)))))))
     refine Rs.neg (fun h=>c4 (beq_iff_eq.1 h)) ?_
     have hwf:whiteI ((s.get! p).toNat:Int)=false:=by
      rw[←hW,Bool.eq_false_iff]
      intro h
      rcases(white_iff _).1 h with h|h|h|h
      ·exact c1 h
      ·exact c2 h
      ·exact c3 h
      ·exact c4 h
     rw[e1,e2]
     by_cases c5:(((Utf8.decode s p).1:Nat):Int)=35
     ·have hb:(s.get! p).toNat<128:=by
       rcases Nat.lt_or_ge (s.get! p).toNat 128 with h|h
       ·exact h
       ·have:=hhi h;omega
      have hd1:=hlo hb
      have h35:(s.get! p).toNat=35:=by have hh:=c5;rw[hd1]at hh;dsimp only at hh;omega
      obtain⟨k1,k2,k3⟩:=hash_ok hlt h35
      refine Rs.pos (beq_iff_eq.2 c5) ?_
      rw[spanN_eq q _ (by omega),ext_list s p (by omega)]
      dsimp only[Option.bind_some]
      refine Rs.some (hQ _ ?_)
      have ew:w (((p:Nat):Int)+((spanL ne10 (s.data.toList.drop p):Nat):Int))=((p+spanL ne10 (s.data.toList.drop p):Nat):Int):=by rw[w_in (by omega) (by omega)];omega
      rw[ew]
      obtain⟨b1,b2⟩:=k3.step (by omega) k2
      refine ih (p+(Utf8.decode s p).2) (p+spanL ne10 (s.data.toList.drop p)) [] _ ⟨rfl,rfl⟩ hw2 k2 (by omega) b2 (by omega) fun r h=>hi r (.hash hlt h35 ?_)
      rwa [Nat.max_eq_right b1]at h
     refine Rs.neg (fun h=>c5 (beq_iff_eq.1 h)) ?_
     have h35:(s.get! p).toNat≠35:=fun h=>c5 (by rw[hlo (by omega),h];rfl)
     rw[letter_eq]
     dsimp only[Option.bind_some]
     obtain⟨x,er,hx⟩:∃x er,tokP s p=(x,er):=⟨_,_,rfl⟩
     by_cases cl:letterI (((Utf8.decode s p).1:Nat):Int)=true
     ·refine Rs.pos cl ?_
      have hz:wordP (s.extract p s.size)=(x,er):=by
       rw[hLt]at cl
       exact(tokP_word cl).symm.trans hx
      rw[word_eq q _ (by omega),hz]
      dsimp only[Option.bind_some]
      refine Rs.ite (fun he=>?_) (fun he=>?_)
      ·refine Rs.some ?_
       have he':er≠0:=by simpa[tokE]using he
       exact⟨p,rfl,he',hi _ (.err hlt hwf h35 hx he')⟩
      ·have he':er=0:=by simpa[tokE]using he
       subst he'
       obtain⟨o1,o2,o3,o4,o5⟩:=tokP_ok hlt hx
       refine Rs.some (hQ _ ?_)
       have ew:w (((p:Nat):Int)+((x.t.size:Nat):Int))=((p+x.t.size:Nat):Int):=by rw[w_in (by omega) (by omega)];omega
       dsimp only[tokE]
       rw[ew]
       have hbs:Bd s p (p+x.t.size):=.inl o5
       obtain⟨b1,b2⟩:=hbs.step (by omega) o3
       refine ih (p+(Utf8.decode s p).2) (p+x.t.size) ([]++[{x with a:=(p:Int)}]) _ ⟨_,_,rfl,rfl,RepK.one {x with a:=(p:Int)}⟩ hw2 o3 (by omega) b2 (by simp;omega) fun r h=>hi r (.tok hlt hwf h35 hx ?_)
       rwa [Nat.max_eq_right b1]at h
     refine Rs.neg cl ?_
     rw[digit_eq]
     dsimp only[Option.bind_some]
     by_cases cd:digitI (((Utf8.decode s p).1:Nat):Int)=true
     ·refine Rs.pos cd ?_
      have hz:numberP ((s.extract p s.size).extract 0 (spanL digitI (s.extract p s.size).data.toList))=(x,er):=by
       rw[hLt]at cl
       rw[hDg]at cd
       exact(tokP_num cl cd).symm.trans hx
      refine Rs.bind (lnum_rs q _ (by omega)) fun z hzz=>?_
      rw[hz]at hzz
      subst hzz
      refine Rs.ite (fun he=>?_) (fun he=>?_)
      ·refine Rs.some ?_
       have he':er≠0:=by simpa[tokE]using he
       exact⟨p,rfl,he',hi _ (.err hlt hwf h35 hx he')⟩
      ·have he':er=0:=by simpa[tokE]using he
       subst he'
       obtain⟨o1,o2,o3,o4,o5⟩:=tokP_ok hlt hx
       refine Rs.some (hQ _ ?_)
       have ew:w (((p:Nat):Int)+((x.t.size:Nat):Int))=((p+x.t.size:Nat):Int):=by rw[w_in (by omega) (by omega)];omega
       dsimp only[tokE]
       rw[ew]
       have hbs:Bd s p (p+x.t.size):=.inl o5
       obtain⟨b1,b2⟩:=hbs.step (by omega) o3
       refine ih (p+(Utf8.decode s p).2) (p+x.t.size) ([]++[{x with a:=(p:Int)}]) _ ⟨_,_,rfl,rfl,RepK.one {x with a:=(p:Int)}⟩ hw2 o3 (by omega) b2 (by simp;omega) fun r h=>hi r (.tok hlt hwf h35 hx ?_)
       rwa [Nat.max_eq_right b1]at h
     refine Rs.neg cd ?_
     have hz:symbolP (s.extract p s.size)=(x,er):=by
      rw[hLt]at cl
      rw[hDg]at cd
      exact(tokP_sym cl cd).symm.trans hx
     refine Rs.bind (lsym_rs q _ (by omega)) fun z hzz=>?_
     rw[hz]at hzz
     subst hzz
     refine Rs.ite (fun he=>?_) (fun he=>?_)
     ·refine Rs.some ?_
      have he':er≠0:=by simpa[tokE]using he
      exact⟨p,rfl,he',hi _ (.err hlt hwf h35 hx he')⟩
     ·have he':er=0:=by simpa[tokE]using he
      subst he'
      obtain⟨o1,o2,o3,o4,o5⟩:=tokP_ok hlt hx
      refine Rs.some (hQ _ ?_)
      have ew:w (((p:Nat):Int)+((x.t.size:Nat):Int))=((p+x.t.size:Nat):Int):=by rw[w_in (by omega) (by omega)];omega
      dsimp only[tokE]
      rw[ew]
      have hbs:Bd s p (p+x.t.size):=.inl o5
      obtain⟨b1,b2⟩:=hbs.step (by omega) o3
      refine ih (p+(Utf8.decode s p).2) (p+x.t.size) ([]++[{x with a:=(p:Int)}]) _ ⟨_,_,rfl,rfl,RepK.one {x with a:=(p:Int)}⟩ hw2 o3 (by omega) b2 (by simp;omega) fun r h=>hi r (.tok hlt hwf h35 hx ?_)
      rwa [Nat.max_eq_right b1]at h
   ·refine Rs.neg hlt (Rs.some ?_)
    exact hinv _ (.fin (by omega))
  ·obtain⟨a,_,rfl,rfl,ha⟩:=hy
   rw[Sum.elim_inr]
   unfold Tokens_l0_t1
   dsimp only
   by_cases hlt:p<s.size
   ·obtain⟨hw1,hw2,_⟩:=decode_len s p hlt
    refine Rs.pos hlt ?_
    by_cases hpd:p<d
    ·refine Rs.pos (decide_eq_true (Int.ofNat_lt.2 hpd)) (Rs.some ?_)
     obtain⟨b1,b2⟩:=hbd.step hpd hd
     refine hQ _ (ih (p+(Utf8.decode s p).2) d acc _ ⟨a,_,rfl,rfl,ha⟩ hw2 hd (by omega) b2 (by omega) fun r h=>hinv r ?_)
     rwa [Nat.max_eq_right (by omega)]at h⊢
    ·refine Rs.neg (fun h=>hpd (Int.ofNat_lt.1 (of_decide_eq_true h))) (Rs.pos (show(0:Int)≤((p:Nat):Int)∧((p:Nat):Int)≤((s.size:Nat):Int)∧((s.size:Nat):Int)≤((s.size:Nat):Int)by omega) ?_)
     have hmax:max p d=p:=Nat.max_eq_left (by omega)
     rw[hmax]at hinv hacc
     have hi:=hinv
     have e:=get_at s p hlt
     simp only[Nat.add_zero]at e
     have hW:=decode_g s whiteI flat_white p hlt
     have hLt:=decode_g s letterI flat_letter p hlt
     have hDg:=decode_g s digitI flat_digit p hlt
     have hlo:(s.get! p).toNat<128→Utf8.decode s p=((s.get! p).toNat,1):=fun h=>by
      have:=decode_ascii s p hlt (by rw[←e];exact h)
      rw[this,←e]
     have hhi:128≤(s.get! p).toNat→128≤(Utf8.decode s p).1:=fun h=>(decode_high s p hlt (by rw[←e];exact h)).1
     have skip:whiteI (((Utf8.decode s p).1:Nat):Int)=true→Rs (Tokens_l0 (letter q) (digit q) (spanN q) (word q) (lnum q) (lsym q) m s (.inr (((d:Nat):Int),a.1,a.2.1,a.2.2.1,a.2.2.2,p+(Utf8.decode s p).2,acc.length))) (TL s):=by
      intro hwh
      rw[hW]at hwh
      have hb:(s.get! p).toNat<128:=by have:=(white_iff _).1 hwh;omega
      have hd1:=hlo hb
      refine ih _ d acc _ ⟨a,_,rfl,rfl,ha⟩ hw2 hd (by omega) (Bd.refl _ _ _ (by omega)) (by omega) fun r h=>hi r (.white hlt hwh ?_)
      rw[hd1]at h
      rwa [Nat.max_eq_left (by show d≤p+1;omega)]at h
     by_cases c1:(((Utf8.decode s p).1:Nat):Int)=32
     ·exact Rs.pos (beq_iff_eq.2 c1) (Rs.some (hQ _ (skip ((white_iff _).2 (.inl c1)))))
     refine Rs.neg (fun h=>c1 (beq_iff_eq.1 h)) ?_
     by_cases c2:(((Utf8.decode s p).1:Nat):Int)=9
     ·exact Rs.pos (beq_iff_eq.2 c2) (Rs.some (hQ _ (skip ((white_iff _).2 (.inr (.inl c2))))))
     refine Rs.neg (fun h=>c2 (beq_iff_eq.1 h)) ?_
     by_cases c3:(((Utf8.decode s p).1:Nat):Int)=10
     ·exact Rs.pos (beq_iff_eq.2 c3) (Rs.some (hQ _ (skip ((white_iff _).2 (.inr (.inr (.inl c3)))))))
     refine Rs.neg (fun h=>c3 (beq_iff_eq.1 h)) ?_
     by_cases c4:(((Utf8.decode s p).1:Nat):Int)=13
     ·exact Rs.pos (beq_iff_eq.2 c4) (Rs.some (hQ _ (skip ((white_iff _).2 (.inr (.inr (.inr c4)))))))
     refine Rs.neg (fun h=>c4 (beq_iff_eq.1 h)) ?_
     have hwf:whiteI ((s.get! p).toNat:Int)=false:=by
      rw[←hW,Bool.eq_false_iff]
      intro h
      rcases(white_iff _).1 h with h|h|h|h
      ·exact c1 h
      ·exact c2 h
      ·exact c3 h
      ·exact c4 h
     rw[e1,e2]
     by_cases c5:(((Utf8.decode s p).1:Nat):Int)=35
     ·have hb:(s.get! p).toNat<128:=by
       rcases Nat.lt_or_ge (s.get! p).toNat 128 with h|h
       ·exact h
       ·have:=hhi h;omega
      have hd1:=hlo hb
      have h35:(s.get! p).toNat=35:=by have hh:=c5;rw[hd1]at hh;dsimp only at hh;omega
      obtain⟨k1,k2,k3⟩:=hash_ok hlt h35
      refine Rs.pos (beq_iff_eq.2 c5) ?_
      rw[spanN_eq q _ (by omega),ext_list s p (by omega)]
      dsimp only[Option.bind_some]
      refine Rs.some (hQ _ ?_)
      have ew:w (((p:Nat):Int)+((spanL ne10 (s.data.toList.drop p):Nat):Int))=((p+spanL ne10 (s.data.toList.drop p):Nat):Int):=by rw[w_in (by omega) (by omega)];omega
      rw[ew]
      obtain⟨b1,b2⟩:=k3.step (by omega) k2
      refine ih (p+(Utf8.decode s p).2) (p+spanL ne10 (s.data.toList.drop p)) acc _ ⟨a,_,rfl,rfl,ha⟩ hw2 k2 (by omega) b2 (by omega) fun r h=>hi r (.hash hlt h35 ?_)
      rwa [Nat.max_eq_right b1]at h
     refine Rs.neg (fun h=>c5 (beq_iff_eq.1 h)) ?_
     have h35:(s.get! p).toNat≠35:=fun h=>c5 (by rw[hlo (by omega),h];rfl)
     rw[letter_eq]
     dsimp only[Option.bind_some]
     obtain⟨x,er,hx⟩:∃x er,tokP s p=(x,er):=⟨_,_,rfl⟩
     by_cases cl:letterI (((Utf8.decode s p).1:Nat):Int)=true
     ·refine Rs.pos cl ?_
      have hz:wordP (s.extract p s.size)=(x,er):=by
       rw[hLt]at cl
       exact(tokP_word cl).symm.trans hx
      rw[word_eq q _ (by omega),hz]
      dsimp only[Option.bind_some]
      refine Rs.ite (fun he=>?_) (fun he=>?_)
      ·refine Rs.some ?_
       have he':er≠0:=by simpa[tokE]using he
       exact⟨p,rfl,he',hi _ (.err hlt hwf h35 hx he')⟩
      ·have he':er=0:=by simpa[tokE]using he
       subst he'
       obtain⟨o1,o2,o3,o4,o5⟩:=tokP_ok hlt hx
       refine Rs.pos ⟨by unfold roomBound;omega,by unfold maxLen;omega,Nat.le_refl _⟩ ?_
       refine Rs.some (hQ _ ?_)
       have ew:w (((p:Nat):Int)+((x.t.size:Nat):Int))=((p+x.t.size:Nat):Int):=by rw[w_in (by omega) (by omega)];omega
       dsimp only[tokE]
       rw[ew]
       have hbs:Bd s p (p+x.t.size):=.inl o5
       obtain⟨b1,b2⟩:=hbs.step (by omega) o3
       refine ih (p+(Utf8.decode s p).2) (p+x.t.size) (acc++[{x with a:=(p:Int)}]) _ ⟨_,_,rfl,by simp,ha.push {x with a:=(p:Int)}⟩ hw2 o3 (by omega) b2 (by simp;omega) fun r h=>hi r (.tok hlt hwf h35 hx ?_)
       rwa [Nat.max_eq_right b1]at h
     refine Rs.neg cl ?_
     rw[digit_eq]
     dsimp only[Option.bind_some]
     by_cases cd:digitI (((Utf8.decode s p).1:Nat):Int)=true
     ·refine Rs.pos cd ?_
      have hz:numberP ((s.extract p s.size).extract 0 (spanL digitI (s.extract p s.size).data.toList))=(x,er):=by
       rw[hLt]at cl
       rw[hDg]at cd
       exact(tokP_num cl cd).symm.trans hx
      refine Rs.bind (lnum_rs q _ (by omega)) fun z hzz=>?_
      rw[hz]at hzz
      subst hzz
      refine Rs.ite (fun he=>?_) (fun he=>?_)
      ·refine Rs.some ?_
       have he':er≠0:=by simpa[tokE]using he
       exact⟨p,rfl,he',hi _ (.err hlt hwf h35 hx he')⟩
      ·have he':er=0:=by simpa[tokE]using he
       subst he'
       obtain⟨o1,o2,o3,o4,o5⟩:=tokP_ok hlt hx
       refine Rs.pos ⟨by unfold roomBound;omega,by unfold maxLen;omega,Nat.le_refl _⟩ ?_
       refine Rs.some (hQ _ ?_)
       have ew:w (((p:Nat):Int)+((x.t.size:Nat):Int))=((p+x.t.size:Nat):Int):=by rw[w_in (by omega) (by omega)];omega
       dsimp only[tokE]
       rw[ew]
       have hbs:Bd s p (p+x.t.size):=.inl o5
       obtain⟨b1,b2⟩:=hbs.step (by omega) o3
       refine ih (p+(Utf8.decode s p).2) (p+x.t.size) (acc++[{x with a:=(p:Int)}]) _ ⟨_,_,rfl,by simp,ha.push {x with a:=(p:Int)}⟩ hw2 o3 (by omega) b2 (by simp;omega) fun r h=>hi r (.tok hlt hwf h35 hx ?_)
       rwa [Nat.max_eq_right b1]at h
     refine Rs.neg cd ?_
     have hz:symbolP (s.extract p s.size)=(x,er):=by
      rw[hLt]at cl
      rw[hDg]at cd
      exact(tokP_sym cl cd).symm.trans hx
     refine Rs.bind (lsym_rs q _ (by omega)) fun z hzz=>?_
     rw[hz]at hzz
     subst hzz
     refine Rs.ite (fun he=>?_) (fun he=>?_)
     ·refine Rs.some ?_
      have he':er≠0:=by simpa[tokE]using he
      exact⟨p,rfl,he',hi _ (.err hlt hwf h35 hx he')⟩
     ·have he':er=0:=by simpa[tokE]using he
      subst he'
      obtain⟨o1,o2,o3,o4,o5⟩:=tokP_ok hlt hx
      refine Rs.pos ⟨by unfold roomBound;omega,by unfold maxLen;omega,Nat.le_refl _⟩ ?_
      refine Rs.some (hQ _ ?_)
      have ew:w (((p:Nat):Int)+((x.t.size:Nat):Int))=((p+x.t.size:Nat):Int):=by rw[w_in (by omega) (by omega)];omega
      dsimp only[tokE]
      rw[ew]
      have hbs:Bd s p (p+x.t.size):=.inl o5
      obtain⟨b1,b2⟩:=hbs.step (by omega) o3
      refine ih (p+(Utf8.decode s p).2) (p+x.t.size) (acc++[{x with a:=(p:Int)}]) _ ⟨_,_,rfl,by simp,ha.push {x with a:=(p:Int)}⟩ hw2 o3 (by omega) b2 (by simp;omega) fun r h=>hi r (.tok hlt hwf h35 hx ?_)
      rwa [Nat.max_eq_right b1]at h
   ·refine Rs.neg hlt (Rs.some ?_)
    exact⟨acc,rfl,by omega,ha,hinv _ (.fin (by omega))⟩
end Go.Proofs.YtjfkkokeegpeiaaDoor
/- The program's tokens: what the plain lexer says; what is true of them. -/
namespace Go.Proofs.YtjfkkokeegpeiaaDoor
open Go Go.Am Go.Proofs.Lx
set_option maxRecDepth 100000
def Good(x:Tkn):Prop:=(x.k≠3→levP x.t=0)∧(x.k=1→x.t.size≤12∧∀c∈x.t.data.toList,c≠32)
theorem end_good(s:ByteArray):Good (endT s):=⟨fun _=>(by decide:levP ⟨#[]⟩=0),fun h=>absurd h (show¬(0:Int)=1 by decide)⟩
theorem lev_zero{t:ByteArray}(h:∀c∈t.data.toList,wordI c.toNat=true):levP t=0:=by
 have no:∀(b:UInt8) (l:List UInt8),wordI b.toNat=false→t≠⟨(b::l).toArray⟩:=by
  intro b l hb e
  have:=h b (by rw[e];simp)
  rw[hb]at this;cases this
 unfold levP
 rw[if_neg (no 124 [124] (by decide)),if_neg (no 38 [38] (by decide)),if_neg,if_neg,if_neg]
 ·rintro(e|e)
  ·exact no 42 [] (by decide) e
  ·exact no 47 [] (by decide) e
 ·rintro(e|e)
  ·exact no 43 [] (by decide) e
  ·exact no 45 [] (by decide) e
 ·rintro(e|e|e|e|e|e)
  ·exact no 60 [] (by decide) e
  ·exact no 60 [61] (by decide) e
  ·exact no 62 [] (by decide) e
  ·exact no 62 [61] (by decide) e
  ·exact no 61 [61] (by decide) e
  ·exact no 33 [61] (by decide) e
theorem span_all_g(g:Int→Bool)(s:ByteArray):∀c∈(s.extract 0 (spanL g s.data.toList)).data.toList,g c.toNat=true:=by
 intro b hb
 rw[extract_list]at hb
 simp only[List.drop_zero,Nat.sub_zero]at hb
 obtain⟨j,hj⟩:=List.mem_iff_getElem?.1 hb
 rw[List.getElem?_take]at hj
 split at hj
 ·rename_i hlt
  obtain⟨c,h1,h2⟩:=spanL_get g s.data.toList j hlt
  rw[h1]at hj
  cases hj
  exact h2
 ·cases hj
theorem digit_word{c:Int}(h:digitI c=true):wordI c=true:=by unfold wordI;rw[h];simp
theorem word_no32{c:UInt8}(h:wordI c.toNat=true):c≠32:=by rintro rfl;revert h;decide
theorem tokP_good{s:ByteArray}{p:Nat}{x:Tkn}(h:tokP s p=(x,0)):Good x:=by
 by_cases h1:letterI ((s.get! p).toNat:Int)=true
 ·rw[tokP_word h1]at h
  unfold wordP at h
  split at h
  ·cases h
  ·rename_i h12
   cases h
   have hw:=span_all_g wordI (s.extract p s.size)
   refine⟨fun _=>lev_zero hw,fun _=>⟨?_,fun c hc=>word_no32 (hw c hc)⟩⟩
   have:=span_len wordI (s.extract p s.size)
   simp only[ByteArray.size_extract]at*
   omega
 ·by_cases h2:digitI ((s.get! p).toNat:Int)=true
  ·rw[tokP_num h1 h2]at h
   have hw:=span_all_g digitI (s.extract p s.size)
   unfold numberP at h
   split at h
   ·cases h
   ·split at h
    ·cases h
    ·cases h
     exact⟨fun _=>lev_zero fun c hc=>digit_word (hw c hc),fun h=>absurd h (show¬(2:Int)=1 by decide)⟩
  ·rw[tokP_sym h1 h2]at h
   unfold symbolP at h
   split at h
   ·cases h
   ·cases h
    exact⟨fun h=>absurd rfl h,fun h=>absurd h (show¬(3:Int)=1 by decide)⟩
theorem lex_good{s:ByteArray}{p:Nat}{acc:List Tkn}{r:List Tkn×Nat×Int}(h:Lex s p acc r):(∀x∈acc,Good x)→∀x∈r.1,Good x:=by
 induction h with
 |fin _=>
  intro ha x hx
  rcases List.mem_append.1 hx with h|h
  ·exact ha x h
  ·simp only[List.mem_singleton]at h;subst h;exact end_good s
 |white _ _ _ ih=>exact ih
 |hash _ _ _ ih=>exact ih
 |tok h1 h2 h3 h4 _ ih=>
  intro ha
  refine ih fun x hx=>?_
  rcases List.mem_append.1 hx with h|h
  ·exact ha x h
  ·simp only[List.mem_singleton]at h;subst h;exact⟨(tokP_good h4).1,(tokP_good h4).2⟩
 |err _ _ _ _ _=>intro _ x hx;cases hx
def tokAt(s:ByteArray)(l:List Tkn)(j:Nat):Tkn:=l.getD j (endT s)
theorem tokN_of{s:ByteArray}{acc:List Tkn}(hs:acc.length≤4000)(hg:∀x∈acc,Good x):TokN (acc.length+1) (tokAt s acc):=by
 have he:∀j,tokAt s acc j=endT s∨tokAt s acc j∈acc:=by
  intro j
  unfold tokAt
  rw[List.getD_eq_getElem?_getD]
  cases h:acc[j]?with
  |none=>exact .inl rfl
  |some x=>exact .inr (List.mem_of_getElem? h)
 have hgood:∀j,Good (tokAt s acc j):=fun j=>by
  rcases he j with h|h
  ·rw[h];exact end_good s
  ·exact hg _ h
 have hlast:tokAt s acc (acc.length+1-1)=endT s:=by
  unfold tokAt
  rw[List.getD_eq_getElem?_getD,List.getElem?_eq_none (by omega)]
  rfl
 exact⟨by omega,by omega,by rw[hlast];rfl,by rw[hlast];rfl,fun j=>(hgood j).1,fun j=>(hgood j).2⟩
theorem tokens_law0(s:ByteArray)(q:Nat)(hq:5000<q):
 (∃z:g_TokensV,TokensV q s=some z∧z.2.1≠0∧z.2.2.1=0∧∃p:Nat,z.1=(p:Int)∧TokensR s ([],p,z.2.1))∨
 (∃acc:List Tkn,TokensV q s=some (0,0,tokV (acc.length+1) (tokAt s acc))∧TokN (acc.length+1) (tokAt s acc)∧TokensR s (acc++[endT s],0,0)):=by
 unfold TokensV Tokens t_Tokens
 by_cases hbig:4000<s.size
 ·refine .inl ⟨(4000,2,0,fun _=>0,fun _=>0,fun _=>ByteArray.empty,fun _=>0),?_,by decide,rfl,4000,rfl,.inl ⟨hbig,rfl⟩⟩
  rw[if_pos (decide_eq_true (show((s.size:Nat):Int)>4000 by omega))]
  rfl
 ·have hs:s.size≤4000:=by omega
  rw[if_neg (fun h=>hbig (by have:=of_decide_eq_true h;omega))]
  obtain⟨z,h1,h2⟩:=tok_loop q s hs (by omega) q 0 0 [] (.inl (0,0)) ⟨rfl,rfl⟩ (Nat.zero_le _) (Nat.zero_le _) (by omega) (Bd.refl _ _ _ (Nat.le_refl _)) (Nat.zero_le _) (fun r h=>h)
  rw[h1]
  dsimp only[Option.bind_some]
  rcases z with z|z|z
  ·obtain⟨p,g1,g2,g3⟩:=h2
   exact .inl ⟨_,rfl,g2,rfl,p,g1,.inr ⟨hs,g3⟩⟩
  ·refine .inr ⟨[],?_,tokN_of (by simp) (by simp),.inr ⟨hs,h2⟩⟩
   rfl
  ·obtain⟨acc,g1,g2,g3,g4⟩:=h2
   have hgood:=lex_good g4 (by simp)
   have hN:=tokN_of (s:=s) (acc:=acc) (by omega) (fun x hx=>hgood x (List.mem_append_left _ hx))
   refine .inr ⟨acc,?_,hN,.inr ⟨hs,g4⟩⟩
   obtain⟨n,k,a,t,v⟩:=z
   dsimp only at g1 g3⊢
   subst g1
   have key:∀j,(if j<acc.length then k j else 0)=(tokAt s acc j).k∧(if j<acc.length then a j else((s.size:Nat):Int))=(tokAt s acc j).a∧(if j<acc.length then t j else⟨#[]⟩)=(tokAt s acc j).t∧(if j<acc.length then v j else 0)=(tokAt s acc j).n:=by
    intro j
    unfold tokAt
    by_cases hj:j<acc.length
    ·have e:=List.getElem?_eq_getElem hj
     obtain⟨k1,k2,k3,k4⟩:=g3 j _ e
     simp only[hj,if_true]
     rw[List.getD_eq_getElem?_getD,e]
     exact⟨k1,k4,k2,k3⟩
    ·simp only[hj,if_false]
     rw[List.getD_eq_getElem?_getD,List.getElem?_eq_none (by omega)]
     exact⟨rfl,rfl,rfl,rfl⟩
   show Option.map cv_Tokens (if _ then some (Sum.inr _)else none)=_
   rw[if_pos ⟨by unfold roomBound;omega,by unfold maxLen;omega,Nat.le_refl _⟩]
   show some _=some _
   have f1:(fun j=>if j<acc.length then k j else 0)=fun j=>(tokAt s acc j).k:=funext fun j=>(key j).1
   have f2:(fun j=>if j<acc.length then a j else((s.size:Nat):Int))=fun j=>(tokAt s acc j).a:=funext fun j=>(key j).2.1
   have f3:(fun j=>if j<acc.length then t j else(⟨#[]⟩:ByteArray))=fun j=>(tokAt s acc j).t:=funext fun j=>(key j).2.2.1
   have f4:(fun j=>if j<acc.length then v j else 0)=fun j=>(tokAt s acc j).n:=funext fun j=>(key j).2.2.2
   unfold tokV
   rw[←f1,←f2,←f3,←f4]
   rfl
theorem tokens_law(s:ByteArray)(q:Nat)(hq:5000<q):
 (∃z:g_TokensV,TokensV q s=some z∧z.2.1≠0∧∃p:Nat,z.1=(p:Int)∧TokensR s ([],p,z.2.1))∨
 (∃acc:List Tkn,TokensV q s=some (0,0,tokV (acc.length+1) (tokAt s acc))∧TokN (acc.length+1) (tokAt s acc)∧TokensR s (acc++[endT s],0,0)):=
 (tokens_law0 s q hq).imp (fun⟨z,h1,h2,_,h3⟩=>⟨z,h1,h2,h3⟩) id
end Go.Proofs.YtjfkkokeegpeiaaDoor
/- The plain parser comes to an end. -/
namespace Go.Proofs.YtjfkkokeegpeiaaDoor
open Go Go.Am Go.Proofs.Lx
set_option maxRecDepth 100000
def Tot{α:Type}(N p:Nat):PR α→Prop
 | .ok _ s=>p≤s.p∧s.p<N
 | .err _ _=>True
 | .out=>False
theorem Tot.bind{α β:Type}{N p p':Nat}{r:PR α}{k:α→PS→PR β}(h:Tot N p r)(hk:∀a s,p≤s.p→s.p<N→Tot N p' (k a s)):Tot N p' (r.bind k):=by
 cases r with
 |ok a s=>exact hk a s h.1 h.2
 |err p c=>trivial
 |out=>exact h.elim
theorem Tot.mono{α:Type}{N p p':Nat}{r:PR α}(h:Tot N p r)(hp:p'≤p):Tot N p' r:=by
 cases r with
 |ok a s=>exact⟨Nat.le_trans hp h.1,h.2⟩
 |err p c=>trivial
 |out=>exact h.elim
theorem Tot.ite{α:Type}{N p:Nat}{c:Prop}[Decidable c]{a b:PR α}(h1:c→Tot N p a)(h2:¬c→Tot N p b):Tot N p (if c then a else b):=by
 by_cases h:c
 ·rw[if_pos h];exact h1 h
 ·rw[if_neg h];exact h2 h
section
variable {N:Nat} {T:Nat→Tkn} {s:PS}
theorem must_tot(hT:TokN N T)(hp:s.p<N){b:ByteArray}(hb:b≠⟨#[]⟩):Tot N (s.p+1) (mustP T b s):=by
 unfold mustP
 exact Tot.ite (fun h=>⟨Nat.le_refl _,hT.lt hp (isP_ne hb h)⟩) fun _=>trivial
theorem opens_tot(hT:TokN N T)(hp:s.p<N){b:ByteArray}(hb:b≠⟨#[]⟩):Tot N (s.p+1) (opensP T b s):=by
 unfold opensP
 exact Tot.ite (fun h=>Tot.ite (fun _=>trivial) fun _=>⟨Nat.le_refl _,hT.lt hp (isP_ne hb h)⟩) fun _=>trivial
theorem name_tot(hT:TokN N T)(hp:s.p<N):Tot N (s.p+1) (nameP T s):=by
 unfold nameP
 refine Tot.ite (fun _=>trivial) fun h=>⟨Nat.le_refl _,hT.lt hp (.inr ?_)⟩
 have:(T s.p).k=1:=by
  by_cases e:(T s.p).k=1
  ·exact e
  ·exact absurd (Or.inl e) h
 rw[this];decide
theorem num_tot(hT:TokN N T)(hp:s.p<N)(lo hi:Int):Tot N (s.p+1) (numP T lo hi s):=by
 unfold numP
 refine Tot.ite (fun _=>trivial) fun h=>Tot.ite (fun _=>trivial) fun _=>⟨Nat.le_refl _,hT.lt hp (.inr ?_)⟩
 have:(T s.p).k=2:=Decidable.not_not.1 h
 rw[this];decide
theorem decl_tot(hT:TokN N T)(hp:s.p<N):Tot N (s.p+1) (declP T s):=by
 unfold declP
 exact(name_tot hT hp).bind fun a s1 h1 h2=>Tot.ite (fun _=>trivial) fun _=>Tot.ite (fun _=>trivial) fun _=>⟨h1,h2⟩
theorem lit_tot(hT:TokN N T)(hp:s.p<N):Tot N (s.p+1) (litP T s):=by
 unfold litP
 refine(num_tot hT hp _ _).bind fun a s1 h1 h2=>Tot.ite (fun h=>⟨by show s.p+1≤s1.p+1;omega,hT.lt h2 (.inr ?_)⟩) fun _=>⟨h1,h2⟩
 rw[h.1];decide
theorem adv_lt(hT:TokN N T)(hp:s.p<N){b:ByteArray}(hb:b≠⟨#[]⟩)(h:isP T b s=true):(adv s).p<N:=hT.lt hp (isP_ne hb h)
end
section
variable {N:Nat} {T:Nat→Tkn}
theorem expr_tot(hT:TokN N T):∀f,(∀lv s,1≤lv→lv≤8→s.p<N→20*(N-s.p)+10-lv≤f→Tot N s.p (exprP T f lv s))∧
 (∀lv n s,1≤lv→lv≤7→s.p<N→20*(N-s.p)+1≤f→Tot N s.p (opsP T f lv n s))∧
 (∀b lv s,b≠⟨#[]⟩→1≤lv→lv≤8→s.p<N→20*(N-s.p)≤f→Tot N s.p (unaryP T f b lv s))∧
 (∀s,s.p<N→20*(N-s.p)≤f→Tot N s.p (primP T f s)):=by
 intro f
 induction f with
 |zero=>exact⟨fun lv s _ _ h1 h2=>by omega,fun lv n s _ _ h1 h2=>by omega,fun b lv s _ _ _ h1 h2=>by omega,fun s h1 h2=>by omega⟩
 |succ f ih=>
  obtain⟨i1,i2,i3,i4⟩:=ih
  refine⟨fun lv s l1 l2 hp hf=>?_,fun lv n s l1 l2 hp hf=>?_,fun b lv s hb l1 l2 hp hf=>?_,fun s hp hf=>?_⟩
  ·rw[exprP]
   refine Tot.ite (fun h=>i3 sNot 3 s (by decide) (by decide) (by decide) hp (by omega)) fun h3=>Tot.ite (fun h=>i3 sSub 7 s (by decide) (by decide) (by decide) hp (by omega)) fun h7=>Tot.ite (fun h=>i4 s hp (by omega)) fun h8=>?_
   refine(i1 (lv+1) s (by omega) (by omega) hp (by omega)).bind fun n s1 h1 h2=>?_
   exact(i2 lv n s1 l1 (by omega) h2 (by omega)).mono h1
  ·rw[opsP]
   refine Tot.ite (fun h=>?_) fun _=>⟨Nat.le_refl _,hp⟩
   have ha:(adv s).p<N:=hT.lt hp (.inr (by rw[h.2];decide))
   have hap:(adv s).p=s.p+1:=rfl
   refine(i1 (lv+1) (adv s) (by omega) (by omega) ha (by omega)).bind fun m s1 h1 h2=>Tot.ite (fun _=>⟨by omega,h2⟩) fun _=>?_
   exact(i2 lv _ s1 l1 l2 h2 (by omega)).mono (by omega)
  ·rw[unaryP]
   refine(opens_tot hT hp hb).bind fun _ s1 h1 h2=>(i1 lv s1 l1 l2 h2 (by omega)).bind fun n s2 h3 h4=>⟨?_,h4⟩
   show s.p≤s2.p
   omega
  ·rw[primP]
   refine Tot.ite (fun _=>(lit_tot hT hp).mono (by omega)) fun _=>Tot.ite (fun h=>⟨Nat.le_succ _,adv_lt hT hp (by decide) h⟩) fun _=>Tot.ite (fun h=>⟨Nat.le_succ _,adv_lt hT hp (by decide) h⟩) fun _=>Tot.ite (fun h=>?_) fun _=>Tot.ite (fun h=>?_) fun _=>(name_tot hT hp).bind fun x s1 h1 h2=>⟨by omega,h2⟩
   ·have hap:(adv s).p=s.p+1:=rfl
    exact(must_tot hT (adv_lt hT hp (by decide) h) (by decide)).bind fun _ s1 h1 h2=>(name_tot hT h2).bind fun x s2 h3 h4=>⟨by omega,h4⟩
   ·refine(opens_tot hT hp (by decide)).bind fun _ s1 h1 h2=>(i1 1 s1 (by decide) (by decide) h2 (by omega)).bind fun n s2 h3 h4=>(must_tot hT h4 (by decide)).bind fun _ s3 h5 h6=>⟨?_,h6⟩
    show s.p≤s3.p
    omega
end
end Go.Proofs.YtjfkkokeegpeiaaDoor
/- The plain parser comes to an end (2); what Parse returns, for every source. -/
namespace Go.Proofs.YtjfkkokeegpeiaaDoor
open Go Go.Am Go.Proofs.Lx
set_option maxRecDepth 100000
section
variable {N:Nat} {T:Nat→Tkn} {s:PS}
theorem end_tot(hT:TokN N T)(hp:s.p<N)(n:Tr):Tot N s.p (Lx.endP T n s):=(must_tot hT hp (by decide)).bind fun _ s1 h1 h2=>⟨by omega,h2⟩
theorem semi_tot(hT:TokN N T){r:PR Tr}{p:Nat}(h:Tot N p r):Tot N p (r.bind (Lx.endP T)):=h.bind fun n s1 h1 h2=>(end_tot hT h2 n).mono h1
theorem letQ_tot(hT:TokN N T){f:Nat}(hp:s.p<N)(hf:20*(N-s.p)+10≤f):Tot N s.p (letQ T f s):=(decl_tot hT hp).bind fun a s1 h1 h2=>(must_tot hT h2 (by decide)).bind fun _ s2 h3 h4=>((expr_tot hT f).1 1 s2 (by decide) (by decide) h4 (by omega)).bind fun n s3 h5 h6=>⟨by omega,h6⟩
theorem asgQ_tot(hT:TokN N T){f:Nat}(hp:s.p<N)(hf:20*(N-s.p)≤f+1):Tot N (s.p+1) (asgQ T f s):=(name_tot hT hp).bind fun a s1 h1 h2=>(must_tot hT h2 (by decide)).bind fun _ s2 h3 h4=>((expr_tot hT f).1 1 s2 (by decide) (by decide) h4 (by omega)).bind fun n s3 h5 h6=>⟨by omega,h6⟩
theorem awaitQ_tot(hT:TokN N T){f:Nat}(hp:s.p<N)(hf:20*(N-s.p)+10≤f):Tot N s.p (awaitQ T f s):=((expr_tot hT f).1 1 s (by decide) (by decide) hp (by omega)).bind fun n s1 h1 h2=>(must_tot hT h2 (by decide)).bind fun _ s2 h3 h4=>(lit_tot hT h4).bind fun m s3 h5 h6=>⟨by omega,h6⟩
theorem amtQ_tot(hT:TokN N T)(hp:s.p<N)(k:Int):Tot N s.p (amtQ T k s):=(lit_tot hT hp).bind fun n s1 h1 h2=>⟨by omega,h2⟩
theorem sglQ_tot(hT:TokN N T){f:Nat}(hp:s.p<N)(hf:20*(N-s.p)+10≤f)(k:Int):Tot N s.p (sglQ T f k s):=((expr_tot hT f).1 1 s (by decide) (by decide) hp (by omega)).bind fun n s1 h1 h2=>⟨h1,h2⟩
theorem nmbQ_tot(hT:TokN N T)(hp:s.p<N)(k hi:Int):Tot N s.p (nmbQ T k hi s):=(num_tot hT hp 0 hi).bind fun n s1 h1 h2=>⟨by omega,h2⟩
theorem useQ_tot(hT:TokN N T)(hp:s.p<N)(k:Int){b:ByteArray}(hb:b≠⟨#[]⟩):Tot N s.p (useQ T k b s):=(num_tot hT hp 0 7).bind fun n s1 h1 h2=>(must_tot hT h2 hb).bind fun _ s2 h3 h4=>(lit_tot hT h4).bind fun m s3 h5 h6=>⟨by omega,h6⟩
end
section
variable {N:Nat} {T:Nat→Tkn}
theorem stmt_tot(hT:TokN N T):∀f,(∀s,s.p<N→20*(N-s.p)+12≤f→Tot N (s.p+1) (blockP T f s))∧(∀s,s.p<N→20*(N-s.p)+11≤f→Tot N s.p (stmtsP T f s))∧(∀s,s.p<N→20*(N-s.p)+10≤f→Tot N (s.p+1) (stmtP T f s)):=by
 intro f
 induction f with
 |zero=>exact⟨fun s h1 h2=>by omega,fun s h1 h2=>by omega,fun s h1 h2=>by omega⟩
 |succ f ih=>
  obtain⟨i1,i2,i3⟩:=ih
  refine⟨fun s hp hf=>?_,fun s hp hf=>?_,fun s hp hf=>?_⟩
  ·rw[blockP]
   refine(opens_tot hT hp (by decide)).bind fun _ s1 h1 h2=>(i2 s1 h2 (by omega)).bind fun l s2 h3 h4=>⟨?_,h4⟩
   show s.p+1≤s2.p
   omega
  ·rw[stmtsP]
   refine Tot.ite (fun h=>⟨Nat.le_succ _,adv_lt hT hp (by decide) h⟩) fun _=>?_
   exact(i3 s hp (by omega)).bind fun n s1 h1 h2=>(i2 s1 h2 (by omega)).bind fun l s2 h3 h4=>⟨by omega,h4⟩
  ·rw[stmtP]
   have hap:(adv s).p=s.p+1:=rfl
   have ha:∀{b:ByteArray},b≠⟨#[]⟩→isP T b s=true→(adv s).p<N:=fun hb h=>adv_lt hT hp hb h
   refine Tot.ite (fun h=>?_) fun _=>?_
   ·rw[let_eq];have:=ha (by decide) h;exact semi_tot hT (letQ_tot hT this (by omega))
   refine Tot.ite (fun h=>?_) fun _=>?_
   ·have hh:=ha (by decide) h
    refine((expr_tot hT f).1 1 (adv s) (by decide) (by decide) hh (by omega)).bind fun c s1 h1 h2=>(i1 s1 h2 (by omega)).bind fun y s2 h3 h4=>Tot.ite (fun h=>?_) fun _=>⟨by omega,h4⟩
    have hap2:(adv s2).p=s2.p+1:=rfl
    have h5:(adv s2).p<N:=adv_lt hT h4 (by decide) h
    exact(i1 (adv s2) h5 (by omega)).bind fun n s3 h6 h7=>⟨by omega,h7⟩
   refine Tot.ite (fun h=>?_) fun _=>?_
   ·have hh:=ha (by decide) h
    exact(num_tot hT hh 1 100).bind fun n s1 h1 h2=>(i1 s1 h2 (by omega)).bind fun y s2 h3 h4=>⟨by omega,h4⟩
   refine Tot.ite (fun h=>?_) fun _=>?_
   ·rw[await_eq];have:=ha (by decide) h;exact semi_tot hT (awaitQ_tot hT this (by omega))
   refine Tot.ite (fun h=>?_) fun _=>?_
   ·rw[amt_eq];exact semi_tot hT (amtQ_tot hT (ha (by decide) h) _)
   refine Tot.ite (fun h=>?_) fun _=>?_
   ·rw[amt_eq];exact semi_tot hT (amtQ_tot hT (ha (by decide) h) _)
   refine Tot.ite (fun h=>?_) fun _=>?_
   ·rw[sgl_eq];have:=ha (by decide) h;exact semi_tot hT (sglQ_tot hT this (by omega) _)
   refine Tot.ite (fun h=>?_) fun _=>?_
   ·rw[sgl_eq];have:=ha (by decide) h;exact semi_tot hT (sglQ_tot hT this (by omega) _)
   refine Tot.ite (fun h=>?_) fun _=>?_
   ·rw[use_eq];exact semi_tot hT (useQ_tot hT (ha (by decide) h) _ (by decide))
   refine Tot.ite (fun h=>?_) fun _=>?_
   ·rw[use_eq];exact semi_tot hT (useQ_tot hT (ha (by decide) h) _ (by decide))
   refine Tot.ite (fun h=>?_) fun _=>?_
   ·rw[nmb_eq];exact semi_tot hT (nmbQ_tot hT (ha (by decide) h) _ _)
   refine Tot.ite (fun h=>?_) fun _=>?_
   ·rw[nmb_eq];exact semi_tot hT (nmbQ_tot hT (ha (by decide) h) _ _)
   rw[asg_eq]
   exact semi_tot hT (asgQ_tot hT hp (by omega))
theorem prm_tot(hT:TokN N T){s:PS}(hp:s.p<N):Tot N (s.p+1) (prmP T s):=by
 unfold prmP
 refine(decl_tot hT hp).bind fun x s1 h1 h2=>Tot.ite (fun h=>?_) fun _=>⟨h1,h2⟩
 have h3:s1.p+1<N:=adv_lt hT h2 (by decide) h
 refine Tot.ite (fun _=>trivial) fun hk=>Tot.ite (fun _=>trivial) fun _=>⟨?_,?_⟩
 ·show s.p+1≤s1.p+1+1
  omega
 ·have hk:(T (s1.p+1)).k=1:=Decidable.not_not.1 hk
  exact hT.lt h3 (.inr (by show(T (s1.p+1)).k≠0;rw[hk];decide))
theorem prms_tot(hT:TokN N T):∀f s,s.p<N→20*(N-s.p)≤f→Tot N s.p (prmsP T f s)
 |0,s,h1,h2=>by omega
 |f+1,s,hp,hf=>by
  rw[prmsP]
  refine(prm_tot hT hp).bind fun x s1 h1 h2=>Tot.ite (fun h=>?_) fun _=>(must_tot hT h2 (by decide)).bind fun _ s2 h3 h4=>⟨by omega,h4⟩
  have hap:(adv s1).p=s1.p+1:=rfl
  exact(prms_tot hT f (adv s1) (adv_lt hT h2 (by decide) h) (by omega)).bind fun l s2 h3 h4=>⟨by omega,h4⟩
theorem params_tot(hT:TokN N T){f:Nat}{s:PS}(hp:s.p<N)(hf:20*(N-s.p)≤f):Tot N s.p (paramsP T f s):=by
 unfold paramsP
 refine(must_tot hT hp (by decide)).bind fun _ s1 h1 h2=>Tot.ite (fun h=>⟨?_,adv_lt hT h2 (by decide) h⟩) fun _=>(prms_tot hT f s1 h2 (by omega)).mono (by omega)
 show s.p≤s1.p+1
 omega
theorem proc_tot(hT:TokN N T){f:Nat}{pr:List ByteArray}{s:PS}(hp:s.p<N)(hf:20*(N-s.p)+12≤f):Tot N (s.p+1) (procP T f pr s):=by
 unfold procP
 refine(must_tot hT hp (by decide)).bind fun _ s1 h1 h2=>(name_tot hT h2).bind fun x s2 h3 h4=>Tot.ite (fun _=>trivial) fun _=>?_
 refine(params_tot hT (s:={s2 with vs:=[]}) h4 (by show 20*(N-s2.p)≤f;omega)).bind fun l s3 h5 h6=>?_
 have h5:s2.p≤s3.p:=h5
 exact((stmt_tot hT f).1 s3 h6 (by omega)).bind fun b s4 h7 h8=>⟨by omega,h8⟩
theorem procs_tot(hT:TokN N T):∀f pr s,s.p<N→20*(N-s.p)+13≤f→Tot N s.p (procsP T f pr s)
 |0,pr,s,h1,h2=>by omega
 |f+1,pr,s,hp,hf=>by
  rw[procsP]
  refine Tot.ite (fun _=>⟨Nat.le_refl _,hp⟩) fun _=>(proc_tot hT hp (by omega)).bind fun x s1 h1 h2=>?_
  exact(procs_tot hT f _ s1 h2 (by omega)).bind fun l s2 h3 h4=>⟨by omega,h4⟩
end
def fuelP:Nat:=100000
inductive ParseR(s:ByteArray):List Prc×Int×Int→Prop
 |lex (p:Nat) (e:Int):TokensR s ([],p,e)→e≠0→ParseR s ([],p,e)
 |ok (acc:List Tkn) (l:List Prc) (s':PS):TokensR s (acc++[endT s],0,0)→TokN (acc.length+1) (tokAt s acc)→procsP (tokAt s acc) fuelP [] ⟨0,0,[]⟩= .ok l s'→ParseR s (l,0,0)
 |err (acc:List Tkn) (p:Nat) (c:Int):TokensR s (acc++[endT s],0,0)→TokN (acc.length+1) (tokAt s acc)→p<acc.length+1→procsP (tokAt s acc) fuelP [] ⟨0,0,[]⟩= .err p c→ParseR s ([],(tokAt s acc p).a,c)
theorem parse_law(s:ByteArray):∃r,ParseR s r∧SC E5 8 [st s] [] (.ret (.tup [procV r.1,i64 r.2.1,i64 r.2.2]) []):=by
 rcases tokens_law s 3000000000 (by decide)with⟨z,h1,h2,p,h3,h4⟩ | ⟨acc,h1,h2,h3⟩
 ·refine⟨([],z.1,z.2.1),?_,parse_lex h1 h2⟩
  rw[h3]
  exact .lex p _ h4 h2
 ·have ht:=procs_tot h2 fuelP [] ⟨0,0,[]⟩ h2.pos (by have:=h2.big;show 20*(acc.length+1-0)+13≤100000;omega)
  have hr:=parse_run h2 (F:=fuelP) (q:=3000000000) (by decide) (by decide) h1
  cases hp:procsP (tokAt s acc) fuelP [] ⟨0,0,[]⟩with
  |out=>rw[hp]at ht;exact ht.elim
  |ok l s'=>
   rw[hp]at hr
   exact⟨(l,0,0),.ok acc l s' h3 h2 hp,hr⟩
  |err p c=>
   rw[hp]at hr
   exact⟨([],(tokAt s acc p).a,c),.err acc p c h3 h2 hr.1 hp,hr.2⟩
end Go.Proofs.YtjfkkokeegpeiaaDoor
/- Same, SameAll, Expr, lifted. -/
namespace Go.Proofs.YtjfkkokeegpeiaaDoor
open Go Go.Am Go.Proofs
set_option maxRecDepth 100000
def opK(f:Nat→List V)(j:Nat):Int:=vI ((f j).getD 0 .junk)
def opN(f:Nat→List V)(j:Nat):Int:=vI ((f j).getD 1 .junk)
def opS(f:Nat→List V)(j:Nat):ByteArray:=vS ((f j).getD 2 .junk)
def opM(f:Nat→List V)(j:Nat):Nat:=vRoN ((f j).getD 3 .junk)
def opF(f:Nat→List V)(j:Nat):Nat→List V:=vRoF ((f j).getD 3 .junk)
def OpenN(f:Nat→List V):Prop:=∀j,f j=[i64 (opK f j),i64 (opN f j),st (opS f j),.ro 4 (opM f j) (opF f j)]
theorem open_eq{f:Nat→List V}(h:OpenN f):(fun j=>[i64 (opK f j),i64 (opN f j),st (opS f j),.ro 4 (opM f j) (opF f j)])=f:=funext fun j=>(h j).symm
abbrev a_Same:Type:=Int×Int×ByteArray×Nat×FL×Int×Int×ByteArray×Nat×FL
abbrev g_Same:Type:=Bool
abbrev a_SameN:Type:=Int×Int×ByteArray×Nat×FI×FI×FS×FN×FM×Int×Int×ByteArray×Nat×FI×FI×FS×FN×FM
abbrev g_SameN:Type:=Bool
abbrev SameN_l0_a:Type:=Int
abbrev SameN_l0_g:Type:=(Unit)⊕(Unit)
def SameN_l0_t{β:Type}(c_Same:a_Same→Option g_Same)(x:a_SameN)(y:SameN_l0_a)(nx:SameN_l0_a→Option β)(dn:SameN_l0_g→Option β):Option β:=
 if decide (y< ((x.2.2.2.1:Nat):Int))=true then if 0≤y∧y< ((x.2.2.2.1:Nat):Int)then if 0≤y∧y< ((x.2.2.2.2.2.2.2.2.2.2.2.2.1:Nat):Int)then(c_Same (x.2.2.2.2.1 (Int.toNat y),x.2.2.2.2.2.1 (Int.toNat y),x.2.2.2.2.2.2.1 (Int.toNat y),x.2.2.2.2.2.2.2.1 (Int.toNat y),x.2.2.2.2.2.2.2.2.1 (Int.toNat y),x.2.2.2.2.2.2.2.2.2.2.2.2.2.1 (Int.toNat y),x.2.2.2.2.2.2.2.2.2.2.2.2.2.2.1 (Int.toNat y),x.2.2.2.2.2.2.2.2.2.2.2.2.2.2.2.1 (Int.toNat y),x.2.2.2.2.2.2.2.2.2.2.2.2.2.2.2.2.1 (Int.toNat y),x.2.2.2.2.2.2.2.2.2.2.2.2.2.2.2.2.2 (Int.toNat y))).bind fun z57=>if(!z57)=true then dn (.inl ())else nx (w (y+1))else none else none else dn (.inr ())
noncomputable def SameN_l0(c_Same:a_Same→Option g_Same)(q:Nat)(x:a_SameN):SameN_l0_a→Option SameN_l0_g:=lpG (fun y=>SameN_l0_t c_Same x y (fun y=>some (.inl y)) (fun z=>some (.inr z))) q
def t_SameN{β:Type}(c_Same:a_Same→Option g_Same)(l_SameN_l0:SameN_l0_a→Option SameN_l0_g)(x:a_SameN)(dn:g_SameN→Option β):Option β:=
 if(x.1 !=x.2.2.2.2.2.2.2.2.2.1)=true then dn false else if(x.2.1 !=x.2.2.2.2.2.2.2.2.2.2.1)=true then dn false else if(!x.2.2.1.toList==x.2.2.2.2.2.2.2.2.2.2.2.1.toList)=true then dn false else if(((x.2.2.2.1:Nat):Int)!=((x.2.2.2.2.2.2.2.2.2.2.2.2.1:Nat):Int))=true then dn false else(l_SameN_l0 (0)).bind fun z25=>Sum.elim (fun z25a=>dn false) (fun z25b=>dn true) z25
open Classical in
noncomputable def Same:Nat→a_Same→Option g_Same
 |0,_=>none
 |q+1,x=>if OpenN x.2.2.2.2.1∧OpenN x.2.2.2.2.2.2.2.2.2 then t_SameN (Same q) (SameN_l0 (Same q) q (x.1,x.2.1,x.2.2.1,x.2.2.2.1,opK x.2.2.2.2.1,opN x.2.2.2.2.1,opS x.2.2.2.2.1,opM x.2.2.2.2.1,opF x.2.2.2.2.1,x.2.2.2.2.2.1,x.2.2.2.2.2.2.1,x.2.2.2.2.2.2.2.1,x.2.2.2.2.2.2.2.2.1,opK x.2.2.2.2.2.2.2.2.2,opN x.2.2.2.2.2.2.2.2.2,opS x.2.2.2.2.2.2.2.2.2,opM x.2.2.2.2.2.2.2.2.2,opF x.2.2.2.2.2.2.2.2.2)) (x.1,x.2.1,x.2.2.1,x.2.2.2.1,opK x.2.2.2.2.1,opN x.2.2.2.2.1,opS x.2.2.2.2.1,opM x.2.2.2.2.1,opF x.2.2.2.2.1,x.2.2.2.2.2.1,x.2.2.2.2.2.2.1,x.2.2.2.2.2.2.2.1,x.2.2.2.2.2.2.2.2.1,opK x.2.2.2.2.2.2.2.2.2,opN x.2.2.2.2.2.2.2.2.2,opS x.2.2.2.2.2.2.2.2.2,opM x.2.2.2.2.2.2.2.2.2,opF x.2.2.2.2.2.2.2.2.2) some else none
end Go.Proofs.YtjfkkokeegpeiaaDoor
/- Same, of trees as they are handed on: are they equal? -/
namespace Go.Proofs.YtjfkkokeegpeiaaDoor
open Go Go.Am Go.Proofs.Lx
set_option maxRecDepth 100000
def eT:Tr→NodeT| .node k n s l=>(k,n,s,l.length,fun j=>(cellsL l).getD j dfl)
theorem cells_eT(t:Tr):cellsT t=[i64 (eT t).1,i64 (eT t).2.1,st (eT t).2.2.1,.ro 4 (eT t).2.2.2.1 (eT t).2.2.2.2]:=by cases t;simp[cellsT,eT]
def dflT:Tr:=.node 0 0 ⟨#[]⟩ []
theorem cellsL_get:∀(l:List Tr) (j:Nat) (t:Tr),l[j]? =some t→(cellsL l).getD j dfl=cellsT t
 | [],j,t,h=>by simp at h
 |t::l,0,u,h=>by simp only[List.getElem?_cons_zero,Option.some.injEq]at h;subst h;simp[cellsL]
 |t::l,j+1,u,h=>by
  simp only[cellsL,List.getD_cons_succ]
  exact cellsL_get l j u (by simpa using h)
theorem cellsL_none:∀(l:List Tr) (j:Nat),l.length≤j→(cellsL l).getD j dfl=dfl
 | [],j,_=>by simp[cellsL]
 |t::l,0,h=>by simp at h
 |t::l,j+1,h=>by
  simp only[cellsL,List.getD_cons_succ]
  exact cellsL_none l j (by simpa using h)
theorem open_cells(l:List Tr):OpenN (fun j=>(cellsL l).getD j dfl):=by
 intro j
 cases h:l[j]?with
 |none=>
  have:l.length≤j:=by
   rcases Nat.lt_or_ge j l.length with hl|hl
   ·rw[List.getElem?_eq_getElem hl]at h;cases h
   ·exact hl
  unfold opK opN opS opM opF
  dsimp only
  rw[cellsL_none l j this]
  rfl
 |some t=>
  unfold opK opN opS opM opF
  dsimp only
  rw[cellsL_get l j t h,cells_eT]
  rfl
theorem op_get{l:List Tr}{j:Nat}{t:Tr}(h:l[j]? =some t):(opK (fun j=>(cellsL l).getD j dfl) j,opN (fun j=>(cellsL l).getD j dfl) j,opS (fun j=>(cellsL l).getD j dfl) j,opM (fun j=>(cellsL l).getD j dfl) j,opF (fun j=>(cellsL l).getD j dfl) j)=eT t:=by
 unfold opK opN opS opM opF
 dsimp only
 rw[cellsL_get l j t h,cells_eT]
 rfl
mutual
def szT:Tr→Nat
 | .node _ _ _ l=>1+szL l
def szL:List Tr→Nat
 | []=>0
 |t::l=>szT t+szL l+1
end
theorem szL_get:∀(l:List Tr) (j:Nat) (t:Tr),l[j]? =some t→szT t<szL l+1∧l.length≤szL l
 | [],j,t,h=>by simp at h
 |t::l,0,u,h=>by
  simp only[List.getElem?_cons_zero,Option.some.injEq]at h;subst h
  simp only[szL,List.length_cons]
  have:l.length≤szL l:=by
   clear t
   induction l with
   |nil=>simp[szL]
   |cons a l ih=>simp only[szL,List.length_cons];omega
  omega
 |t::l,j+1,u,h=>by
  have:=szL_get l j u (by simpa using h)
  simp only[szL,List.length_cons]
  omega
theorem szL_len(l:List Tr):l.length≤szL l:=by
 induction l with
 |nil=>simp[szL]
 |cons a l ih=>simp only[szL,List.length_cons];omega
end Go.Proofs.YtjfkkokeegpeiaaDoor
/- Plain: what is read is not bigger than what was read. -/
namespace Go.Proofs.YtjfkkokeegpeiaaDoor
open Go Go.Am Go.Proofs.Lx
set_option maxRecDepth 100000
def Okr{α:Type}(P:α→PS→Prop):PR α→Prop
 | .ok a s=>P a s
 |_=>True
theorem Okr.bind{α β:Type}{P:α→PS→Prop}{Q:β→PS→Prop}{r:PR α}{f:α→PS→PR β}(h:Okr P r)(g:∀a s,P a s→Okr Q (f a s)):Okr Q (r.bind f):=by
 cases r with
 |ok a s=>exact g a s h
 |err p c=>trivial
 |out=>trivial
theorem Okr.mono{α:Type}{P Q:α→PS→Prop}{r:PR α}(h:Okr P r)(g:∀a s,P a s→Q a s):Okr Q r:=by
 cases r with
 |ok a s=>exact g a s h
 |err p c=>trivial
 |out=>trivial
theorem Okr.ite{α:Type}{P:α→PS→Prop}{c:Prop}[Decidable c]{a b:PR α}(h:c→Okr P a)(g:¬c→Okr P b):Okr P (if c then a else b):=by
 by_cases hc:c
 ·rw[if_pos hc];exact h hc
 ·rw[if_neg hc];exact g hc
section
variable {T:Nat→Tkn}
theorem must_okr(b:ByteArray)(s:PS):Okr (fun _ s'=>s'.p=s.p+1) (mustP T b s):=Okr.ite (fun _=>rfl) fun _=>trivial
theorem opens_okr(b:ByteArray)(s:PS):Okr (fun _ s'=>s'.p=s.p+1) (opensP T b s):=Okr.ite (fun _=>Okr.ite (fun _=>trivial) fun _=>rfl) fun _=>trivial
theorem name_okr(s:PS):Okr (fun _ s'=>s'.p=s.p+1) (nameP T s):=Okr.ite (fun _=>trivial) fun _=>rfl
theorem num_okr(lo hi:Int)(s:PS):Okr (fun _ s'=>s'.p=s.p+1) (numP T lo hi s):=Okr.ite (fun _=>trivial) fun _=>Okr.ite (fun _=>trivial) fun _=>rfl
theorem decl_okr(s:PS):Okr (fun _ s'=>s'.p=s.p+1) (declP T s):=(name_okr s).bind fun a s1 h=>Okr.ite (fun _=>trivial) fun _=>Okr.ite (fun _=>trivial) fun _=>h
theorem lit_okr(s:PS):Okr (fun t s'=>szT t=1∧s.p+1≤s'.p) (litP T s):=(num_okr _ _ s).bind fun n s1 h=>Okr.ite (fun _=>⟨rfl,by show s.p+1≤s1.p+1;omega⟩) fun _=>⟨rfl,by omega⟩
theorem szT_1(k n:Int)(b:ByteArray)(x:Tr):szT (.node k n b [x])=szT x+2:=by simp only[szT,szL];omega
theorem szT_2(k n:Int)(b:ByteArray)(x y:Tr):szT (.node k n b [x,y])=szT x+szT y+3:=by simp only[szT,szL];omega
theorem szT_3(k n:Int)(b:ByteArray)(x y z:Tr):szT (.node k n b [x,y,z])=szT x+szT y+szT z+4:=by simp only[szT,szL];omega
theorem szT_0(k n:Int)(b:ByteArray):szT (.node k n b [])=1:=rfl
theorem expr_okr:∀f,(∀lv s,Okr (fun t s'=>szT t+3+4*s.p≤4*s'.p) (exprP T f lv s))∧(∀lv n s,Okr (fun t s'=>szT t+4*s.p≤szT n+4*s'.p) (opsP T f lv n s))∧
 (∀b lv s,Okr (fun t s'=>szT t+3+4*s.p≤4*s'.p) (unaryP T f b lv s))∧(∀s,Okr (fun t s'=>szT t+3+4*s.p≤4*s'.p) (primP T f s)):=by
 intro f
 induction f with
 |zero=>exact⟨fun _ _=>by rw[exprP];trivial,fun _ _ _=>by rw[opsP];trivial,fun _ _ _=>by rw[unaryP];trivial,fun _=>by rw[primP];trivial⟩
 |succ f ih=>
  obtain⟨h1,h2,h3,h4⟩:=ih
  refine⟨fun lv s=>?_,fun lv n s=>?_,fun b lv s=>?_,fun s=>?_⟩
  ·rw[exprP]
   exact Okr.ite (fun _=>h3 _ _ _) fun _=>Okr.ite (fun _=>h3 _ _ _) fun _=>Okr.ite (fun _=>h4 _) fun _=>(h1 _ _).bind fun t s1 e=>(h2 _ _ _).mono fun u s2 e2=>by omega
  ·rw[opsP]
   refine Okr.ite (fun _=>(h1 _ _).bind fun t s1 e=>?_) fun _=>Nat.le_refl _
   have e:szT t+3+4*(s.p+1)≤4*s1.p:=e
   refine Okr.ite (fun _=>?_) fun _=>(h2 _ _ _).mono fun u s2 e2=>?_
   ·show szT _+_≤_
    rw[szT_2];omega
   ·rw[szT_2]at e2;omega
  ·rw[unaryP]
   refine(opens_okr b s).bind fun _ s1 e1=>(h1 lv s1).bind fun t s2 e2=>?_
   show szT _+3+4*s.p≤4*s2.p
   rw[szT_1];omega
  ·rw[primP]
   refine Okr.ite (fun _=>(lit_okr s).mono fun t s1 e=>by omega) fun _=>?_
   refine Okr.ite (fun _=>?_) fun _=>Okr.ite (fun _=>?_) fun _=>Okr.ite (fun _=>?_) fun _=>Okr.ite (fun _=>?_) fun _=>?_
   ·show szT _+3+4*s.p≤4*(s.p+1)
    rw[szT_0];omega
   ·show szT _+3+4*s.p≤4*(s.p+1)
    rw[szT_0];omega
   ·refine(must_okr _ _).bind fun _ s1 e1=>(name_okr s1).bind fun x s2 e2=>?_
    have e1:s1.p=s.p+1+1:=e1
    show szT _+3+4*s.p≤4*s2.p
    rw[szT_0];omega
   ·refine(opens_okr _ s).bind fun _ s1 e1=>(h1 1 s1).bind fun t s2 e2=>(must_okr _ s2).bind fun _ s3 e3=>?_
    show szT _+3+4*s.p≤4*s3.p
    omega
   ·refine(name_okr s).bind fun x s1 e1=>?_
    show szT _+3+4*s.p≤4*s1.p
    rw[szT_0];omega
theorem end_okr(n:Tr)(s:PS):Okr (fun t s'=>t=n∧s'.p=s.p+1) (Lx.endP T n s):=(must_okr _ s).bind fun _ s1 e=>⟨rfl,e⟩
theorem set_okr(f:Nat)(k:Int)(x:ByteArray)(s:PS):Okr (fun t s'=>szT t+3+4*s.p≤4*s'.p) (setP T f k x s):=
 (must_okr _ s).bind fun _ s1 e1=>((expr_okr f).1 1 s1).bind fun t s2 e2=>(end_okr _ s2).mono fun u s3 e3=>by obtain⟨rfl,e3⟩:=e3;rw[szT_1];omega
theorem one_okr(f:Nat)(k:Int)(s:PS):Okr (fun t s'=>szT t+3+4*s.p≤4*s'.p) (Lx.oneP T f k s):=
 ((expr_okr f).1 1 s).bind fun t s2 e2=>(end_okr _ s2).mono fun u s3 e3=>by obtain⟨rfl,e3⟩:=e3;rw[szT_1];omega
theorem amt_okr(k:Int)(s:PS):Okr (fun t s'=>szT t+3+4*s.p≤4*s'.p) (amtP T k s):=
 (lit_okr s).bind fun t s2 e2=>(end_okr _ s2).mono fun u s3 e3=>by obtain⟨rfl,e3⟩:=e3;rw[szT_1];omega
theorem await_okr(f:Nat)(s:PS):Okr (fun t s'=>szT t+3+4*s.p≤4*s'.p) (awaitP T f s):=
 ((expr_okr f).1 1 s).bind fun t s1 e1=>(must_okr _ s1).bind fun _ s2 e2=>(lit_okr s2).bind fun n s3 e3=>(end_okr _ s3).mono fun u s4 e4=>by obtain⟨rfl,e4⟩:=e4;rw[szT_2];omega
theorem nmb_okr(k hi:Int)(s:PS):Okr (fun t s'=>szT t+3+4*s.p≤4*s'.p) (nmbP T k hi s):=
 (num_okr _ _ s).bind fun n s2 e2=>(end_okr _ s2).mono fun u s3 e3=>by obtain⟨rfl,e3⟩:=e3;rw[szT_0];omega
theorem use_okr(k:Int)(b:ByteArray)(s:PS):Okr (fun t s'=>szT t+3+4*s.p≤4*s'.p) (useP T k b s):=
 (num_okr _ _ s).bind fun n s1 e1=>(must_okr _ s1).bind fun _ s2 e2=>(lit_okr s2).bind fun t s3 e3=>(end_okr _ s3).mono fun u s4 e4=>by obtain⟨rfl,e4⟩:=e4;rw[szT_1];omega
theorem stmt_okr:∀f,(∀s,Okr (fun t s'=>szT t+3+4*s.p≤4*s'.p) (blockP T f s))∧(∀s,Okr (fun l s'=>szL l+4*s.p≤4*s'.p) (stmtsP T f s))∧(∀s,Okr (fun t s'=>szT t+3+4*s.p≤4*s'.p) (stmtP T f s)):=by
 intro f
 induction f with
 |zero=>exact⟨fun _=>by rw[blockP];trivial,fun _=>by rw[stmtsP];trivial,fun _=>by rw[stmtP];trivial⟩
 |succ f ih=>
  obtain⟨h1,h2,h3⟩:=ih
  refine⟨fun s=>?_,fun s=>?_,fun s=>?_⟩
  ·rw[blockP]
   refine(opens_okr _ s).bind fun _ s1 e1=>(h2 s1).bind fun l s2 e2=>?_
   show 1+szL l+3+4*s.p≤4*s2.p
   omega
  ·rw[stmtsP]
   refine Okr.ite (fun _=>?_) fun _=>(h3 s).bind fun t s1 e1=>(h2 s1).bind fun l s2 e2=>?_
   ·show 0+4*s.p≤4*(s.p+1)
    omega
   ·show szT t+szL l+1+4*s.p≤4*s2.p
    omega
  ·rw[stmtP]
   have up:∀{r:PR Tr},Okr (fun t s'=>szT t+3+4*(adv s).p≤4*s'.p) r→Okr (fun t s'=>szT t+3+4*s.p≤4*s'.p) r:=fun h=>h.mono fun t s' e=>by
    have:(adv s).p=s.p+1:=rfl
    omega
   have ea:(adv s).p=s.p+1:=rfl
   refine Okr.ite (fun _=>(decl_okr _).bind fun x s1 e1=>(set_okr f 1 x s1).mono fun t s2 e2=>by omega) fun _=>?_
   refine Okr.ite (fun _=>?_) fun _=>?_
   ·refine((expr_okr f).1 1 _).bind fun c s1 e1=>(h1 s1).bind fun y s2 e2=>Okr.ite (fun _=>(h1 _).bind fun n s3 e3=>?_) fun _=>?_
    ·have e3:szT n+3+4*(s2.p+1)≤4*s3.p:=e3
     show szT _+3+4*s.p≤4*s3.p
     rw[szT_3];omega
    ·show szT _+3+4*s.p≤4*s2.p
     rw[szT_3,szT_0];omega
   refine Okr.ite (fun _=>?_) fun _=>?_
   ·refine(num_okr _ _ _).bind fun n s1 e1=>(h1 s1).bind fun y s2 e2=>?_
    show szT _+3+4*s.p≤4*s2.p
    rw[szT_1];omega
   refine Okr.ite (fun _=>up (await_okr f _)) fun _=>Okr.ite (fun _=>up (amt_okr _ _)) fun _=>Okr.ite (fun _=>up (amt_okr _ _)) fun _=>Okr.ite (fun _=>up (one_okr f _ _)) fun _=>Okr.ite (fun _=>up (one_okr f _ _)) fun _=>Okr.ite (fun _=>up (use_okr _ _ _)) fun _=>Okr.ite (fun _=>up (use_okr _ _ _)) fun _=>Okr.ite (fun _=>up (nmb_okr _ _ _)) fun _=>Okr.ite (fun _=>up (nmb_okr _ _ _)) fun _=>?_
   exact(name_okr s).bind fun x s1 e1=>(set_okr f 2 x s1).mono fun t s2 e2=>by omega
theorem prm_okr(s:PS):Okr (fun _ s'=>s.p+1≤s'.p) (prmP T s):=by
 unfold prmP
 refine(decl_okr s).bind fun x s1 e1=>Okr.ite (fun _=>Okr.ite (fun _=>trivial) fun _=>Okr.ite (fun _=>trivial) fun _=>?_) fun _=>?_
 ·show s.p+1≤s1.p+1+1
  omega
 ·show s.p+1≤s1.p
  omega
theorem prms_okr:∀f s,Okr (fun l s'=>l.length+s.p≤s'.p) (prmsP T f s)
 |0,s=>by rw[prmsP];trivial
 |f+1,s=>by
  rw[prmsP]
  refine(prm_okr s).bind fun x s1 e1=>Okr.ite (fun _=>(prms_okr f _).bind fun l s2 e2=>?_) fun _=>(must_okr _ s1).bind fun _ s2 e2=>?_
  ·have e2:l.length+(s1.p+1)≤s2.p:=e2
   show l.length+1+s.p≤s2.p
   omega
  ·show 1+s.p≤s2.p
   omega
theorem params_okr(f:Nat)(s:PS):Okr (fun l s'=>l.length+s.p≤s'.p) (paramsP T f s):=by
 unfold paramsP
 refine(must_okr _ s).bind fun _ s1 e1=>Okr.ite (fun _=>?_) fun _=>(prms_okr f s1).mono fun l s2 e2=>by omega
 show 0+s.p≤s1.p+1
 omega
def SmC(n:Nat)(c:Prc):Prop:=szT c.b≤n∧c.ps.length≤n
theorem procs_okr:∀f pr s,Okr (fun l s'=>l.length+s.p≤s'.p∧∀c∈l,SmC (4*s'.p) c) (procsP T f pr s)
 |0,pr,s=>by rw[procsP];trivial
 |f+1,pr,s=>by
  rw[procsP]
  refine Okr.ite (fun _=>⟨by simp,fun c hc=>by cases hc⟩) fun _=>?_
  have hp:Okr (fun c s'=>s.p+1≤s'.p∧SmC (4*s'.p) c) (procP T f pr s):=by
   unfold procP
   refine(must_okr _ s).bind fun _ s1 e1=>(name_okr s1).bind fun x s2 e2=>Okr.ite (fun _=>trivial) fun _=>(params_okr f _).bind fun l s3 e3=>((stmt_okr f).1 s3).bind fun b s4 e4=>?_
   have e3:l.length+s2.p≤s3.p:=e3
   exact⟨by omega,by show szT b≤_;omega,by show l.length≤_;omega⟩
  refine hp.bind fun c s1 e1=>(procs_okr f _ s1).bind fun l s2 e2=>⟨?_,fun d hd=>?_⟩
  ·show l.length+1+s.p≤s2.p
   omega
  ·rcases List.mem_cons.1 hd with h|h
   ·rw[h]
    have:=e1.2
    exact⟨Nat.le_trans this.1 (by omega),Nat.le_trans this.2 (by omega)⟩
   ·exact e2.2 d h
end
theorem parse_small{s:ByteArray}{r:List Prc×Int×Int}(h:ParseR s r):r.1.length≤20000∧∀c∈r.1,SmC 20000 c:=by
 cases h with
 |lex p e g1 g2=>exact⟨by simp,fun c hc=>by cases hc⟩
 |err acc p c g1 g2 g3 g4=>exact⟨by simp,fun c hc=>by cases hc⟩
 |ok acc l s' g1 g2 g3=>
  have h1:=procs_okr (T:=tokAt s acc) fuelP [] ⟨0,0,[]⟩
  have h2:=procs_tot g2 fuelP [] ⟨0,0,[]⟩ g2.pos (by have:=g2.big;show 20*(acc.length+1-0)+13≤100000;omega)
  rw[g3]at h1 h2
  have hb:=g2.big
  have h3:s'.p<acc.length+1:=h2.2
  obtain⟨h4,h5⟩:=h1
  have h4:l.length+0≤s'.p:=h4
  refine⟨by show l.length≤20000;omega,fun c hc=>?_⟩
  have:=h5 c hc
  exact⟨Nat.le_trans this.1 (by omega),Nat.le_trans this.2 (by omega)⟩
end Go.Proofs.YtjfkkokeegpeiaaDoor
/- SameAll, of lists of procedures as they are handed on: are they equal? -/
namespace Go.Proofs.YtjfkkokeegpeiaaDoor
open Go Go.Am Go.Proofs.Lx
set_option maxRecDepth 100000
def dC:Prc:=⟨⟨#[]⟩,[],dflT⟩
def dPm:Prm:=⟨⟨#[]⟩,⟨#[]⟩⟩
def cX(l:List Prc)(j:Nat):ByteArray:=(l.getD j dC).x
def cQ(l:List Prc)(j:Nat):Nat:=(l.getD j dC).ps.length
def cN(l:List Prc)(j i:Nat):ByteArray:=((l.getD j dC).ps.getD i dPm).x
def cU(l:List Prc)(j i:Nat):ByteArray:=((l.getD j dC).ps.getD i dPm).u
def cT(l:List Prc)(j:Nat):NodeT:=eT (l.getD j dC).b
theorem getD_of{α:Type}{l:List α}{j:Nat}{d a:α}(h:l[j]? =some a):l.getD j d=a:=by rw[List.getD_eq_getElem?_getD,h];rfl
end Go.Proofs.YtjfkkokeegpeiaaDoor
/- SameAll, of what Parse hands back. -/
namespace Go.Proofs.YtjfkkokeegpeiaaDoor
open Go Go.Am Go.Proofs.Lx
set_option maxRecDepth 100000
theorem proc_le(l:List Prc):Le (procV l) (.ro 6 l.length (fun j=>[st (cX l j),.ro 2 (cQ l j) (fun i=>[st (cN l j i),st (cU l j i)]),i64 (cT l j).1,i64 (cT l j).2.1,st (cT l j).2.2.1,.ro 4 (cT l j).2.2.2.1 (cT l j).2.2.2.2])):=by
 unfold procV
 refine Le.ro fun j hj=>?_
 have hc:l[j]? =some l[j]:=List.getElem?_eq_getElem hj
 have e:(l.map cellsC).getD j dflC=cellsC l[j]:=by rw[List.getD_eq_getElem?_getD,List.getElem?_map,hc];rfl
 have e1:cX l j=l[j].x:=by unfold cX;rw[getD_of hc]
 have e2:cQ l j=l[j].ps.length:=by unfold cQ;rw[getD_of hc]
 have e3:cT l j=eT l[j].b:=by unfold cT;rw[getD_of hc]
 have e4:cellsT l[j].b=[i64 (eT l[j].b).1,i64 (eT l[j].b).2.1,st (eT l[j].b).2.2.1,.ro 4 (eT l[j].b).2.2.2.1 (eT l[j].b).2.2.2.2]:=cells_eT _
 rw[e,e1,e2,e3]
 unfold cellsC
 have hp:=pureT l[j].b
 rw[e4]at hp⊢
 refine⟨LeL.cons (Le.refl _) (LeL.cons (Le.ro_eq fun i hi=>?_) (LeL.cons (Le.refl _) (LeL.cons (Le.refl _) (LeL.cons (Le.refl _) (LeL.cons (Le.refl _) LeL.nil))))),?_⟩
 ·have hi':l[j].ps[i]? =some l[j].ps[i]:=List.getElem?_eq_getElem hi
  have g1:cN l j i=l[j].ps[i].x:=by unfold cN;rw[getD_of hc,getD_of hi']
  have g2:cU l j i=l[j].ps[i].u:=by unfold cU;rw[getD_of hc,getD_of hi']
  rw[g1,g2,List.getD_eq_getElem?_getD,List.getElem?_map,hi']
  exact⟨rfl,rfl⟩
 ·simp only[pureL,V.pure,Bool.and_eq_true]at hp⊢
  exact⟨trivial,trivial,hp⟩
end Go.Proofs.YtjfkkokeegpeiaaDoor
/- The chapter's examples are parsed. -/
namespace Go.Proofs.YtjfkkokeegpeiaaDoor
open Go Go.Am Go.RowKit Go.Proofs.Lx
set_option maxRecDepth 100000
theorem acc_inj{s:ByteArray}{acc acc':List Tkn}(h:TokensR s (acc++[endT s],0,0))(g:TokensR s (acc'++[endT s],0,0)):acc=acc':=List.append_cancel_right (congrArg (fun r:List Tkn×Nat×Int=>r.1) (tokR_det h g))
theorem parseR_det{s:ByteArray}{r r':List Prc×Int×Int}(h:ParseR s r)(g:ParseR s r'):r=r':=by
 cases h with
 |lex p e h1 h2=>
  cases g with
  |lex p' e' g1 g2=>
   have:=tokR_det h1 g1
   have e1:p=p':=congrArg (fun r=>r.2.1) this
   have e2:e=e':=congrArg (fun r=>r.2.2) this
   rw[e1,e2]
  |ok acc l s' g1 g2 g3=>exact absurd (congrArg (fun r=>r.2.2) (tokR_det h1 g1)) h2
  |err acc p c g1 g2 g3 g4=>exact absurd (congrArg (fun r=>r.2.2) (tokR_det h1 g1)) h2
 |ok acc l s1 h1 h2 h3=>
  cases g with
  |lex p' e' g1 g2=>exact absurd (congrArg (fun r=>r.2.2) (tokR_det g1 h1)) g2
  |ok acc' l' s' g1 g2 g3=>
   obtain rfl:=acc_inj h1 g1
   rw[h3]at g3
   injection g3 with e1 e2
   rw[e1]
  |err acc' p c g1 g2 g3 g4=>
   obtain rfl:=acc_inj h1 g1
   rw[h3]at g4
   cases g4
 |err acc p c h1 h2 h3 h4=>
  cases g with
  |lex p' e' g1 g2=>exact absurd (congrArg (fun r=>r.2.2) (tokR_det g1 h1)) g2
  |ok acc' l' s' g1 g2 g3=>
   obtain rfl:=acc_inj h1 g1
   rw[h4]at g3
   cases g3
  |err acc' p' c' g1 g2 g3 g4=>
   obtain rfl:=acc_inj h1 g1
   rw[h4]at g4
   injection g4 with e1 e2
   rw[e1,e2]
theorem tokN_tok{s:ByteArray}{acc:List Tkn}(h:TokensR s (acc++[endT s],0,0)):TokN (acc.length+1) (tokAt s acc):=by
 rcases tokens_law s 3000000000 (by decide)with⟨z,h1,h2,p,h3,h4⟩ | ⟨acc',h1,h2,h3⟩
 ·exact absurd (congrArg (fun r=>r.2.2) (tokR_det h4 h)) h2
 ·obtain rfl:=acc_inj h h3
  exact h2
def src1:ByteArray:=⟨#[112,114,111,99,101,100,117,114,101,32,112,40,116,58,32,115,41,32,123,32,108,101,116,32,120,32,61,32,50,32,42,32,40,49,32,43,32,116,108,109,46,98,97,116,116,101,114,121,41,59,32,125]⟩
def src2:ByteArray:=⟨#[112,114,111,99,101,100,117,114,101,32,112,40,41,32,123,32,114,101,112,101,97,116,32,48,32,123,32,125,32,125]⟩
def src3:ByteArray:=⟨#[112,114,111,99,101,100,117,114,101,32,112,40,120,58,32,121,41,32,123,32,125]⟩
def toks1:List Tkn:=[⟨1,0,⟨#[112,114,111,99,101,100,117,114,101]⟩,0⟩,⟨1,10,⟨#[112]⟩,0⟩,⟨3,11,⟨#[40]⟩,0⟩,⟨1,12,⟨#[116]⟩,0⟩,⟨3,13,⟨#[58]⟩,0⟩,⟨1,15,⟨#[115]⟩,0⟩,⟨3,16,⟨#[41]⟩,0⟩,⟨3,18,⟨#[123]⟩,0⟩,⟨1,20,⟨#[108,101,116]⟩,0⟩,⟨1,24,⟨#[120]⟩,0⟩,⟨3,26,⟨#[61]⟩,0⟩,⟨2,28,⟨#[50]⟩,2⟩,⟨3,30,⟨#[42]⟩,0⟩,⟨3,32,⟨#[40]⟩,0⟩,⟨2,33,⟨#[49]⟩,1⟩,⟨3,35,⟨#[43]⟩,0⟩,⟨1,37,⟨#[116,108,109]⟩,0⟩,⟨3,40,⟨#[46]⟩,0⟩,⟨1,41,⟨#[98,97,116,116,101,114,121]⟩,0⟩,⟨3,48,⟨#[41]⟩,0⟩,⟨3,49,⟨#[59]⟩,0⟩,⟨3,51,⟨#[125]⟩,0⟩]
theorem tok1:TokensR src1 (toks1++[endT src1],0,0):=.inr ⟨by decide,lexF_ok 100 _ _ _ (by kernel_rfl)⟩
def toks2:List Tkn:=[⟨1,0,⟨#[112,114,111,99,101,100,117,114,101]⟩,0⟩,⟨1,10,⟨#[112]⟩,0⟩,⟨3,11,⟨#[40]⟩,0⟩,⟨3,12,⟨#[41]⟩,0⟩,⟨3,14,⟨#[123]⟩,0⟩,⟨1,16,⟨#[114,101,112,101,97,116]⟩,0⟩,⟨2,23,⟨#[48]⟩,0⟩,⟨3,25,⟨#[123]⟩,0⟩,⟨3,27,⟨#[125]⟩,0⟩,⟨3,29,⟨#[125]⟩,0⟩]
theorem tok2:TokensR src2 (toks2++[endT src2],0,0):=.inr ⟨by decide,lexF_ok 100 _ _ _ (by kernel_rfl)⟩
def toks3:List Tkn:=[⟨1,0,⟨#[112,114,111,99,101,100,117,114,101]⟩,0⟩,⟨1,10,⟨#[112]⟩,0⟩,⟨3,11,⟨#[40]⟩,0⟩,⟨1,12,⟨#[120]⟩,0⟩,⟨3,13,⟨#[58]⟩,0⟩,⟨1,15,⟨#[121]⟩,0⟩,⟨3,16,⟨#[41]⟩,0⟩,⟨3,18,⟨#[123]⟩,0⟩,⟨3,20,⟨#[125]⟩,0⟩]
theorem tok3:TokensR src3 (toks3++[endT src3],0,0):=.inr ⟨by decide,lexF_ok 100 _ _ _ (by kernel_rfl)⟩
theorem ex1:ParseR src1 (prc1,0,0):=by
 have h:∃s,procsP (tokAt src1 toks1) fuelP [] ⟨0,0,[]⟩= .ok prc1 s:=⟨⟨22,0,[⟨#[116]⟩,⟨#[120]⟩]⟩,by kernel_rfl⟩
 obtain⟨s,hs⟩:=h
 exact .ok toks1 prc1 s tok1 (tokN_tok tok1) hs
theorem ex2:ParseR src2 ([],23,5):=.err toks2 6 5 tok2 (tokN_tok tok2) (by decide) (by kernel_rfl)
theorem ex3:ParseR src3 ([],15,10):=.err toks3 5 10 tok3 (tokN_tok tok3) (by decide) (by kernel_rfl)
end Go.Proofs.YtjfkkokeegpeiaaDoor
/- lives, and the law of Parse, lifted. -/
namespace Go.Proofs.YtjfkkokeegpeiaaDoor
open Go Go.Am Go.Proofs Go.Proofs.Lx
set_option maxRecDepth 100000
def pF(l:List Prc):Nat→List V:=fun j=>(l.map cellsC).getD j dflC
noncomputable def ansP(s:ByteArray):List Prc×Int×Int:=Classical.choose (parse_law s)
theorem ansP_ok(s:ByteArray):ParseR s (ansP s):=(Classical.choose_spec (parse_law s)).1
theorem ansP_eq{s:ByteArray}{r:List Prc×Int×Int}(h:ParseR s r):ansP s=r:=parseR_det (ansP_ok s) h
abbrev a_ParseV:Type:=ByteArray
abbrev g_ParseV:Type:=Nat×FL×Int×Int
def A_ParseV:AR a_ParseV:=fun x=>([st x],[])
def d_ParseV(t:TT):a_ParseV:=(vS (ag t 0))
theorem v_ParseV:VI A_ParseV:=vd d_ParseV fun _=>rfl
def R_ParseV:g_ParseV→CRes:=fun z=>.ret (.tup [.ro 6 z.1 z.2.1,i64 z.2.2.1,i64 z.2.2.2]) []
noncomputable def ParseV(q:Nat)(x:a_ParseV):Option g_ParseV:=some ((ansP x).1.length,pF (ansP x).1,(ansP x).2.1,(ansP x).2.2)
theorem sc_ParseV(q:Nat):Lw E5 8 A_ParseV R_ParseV (ParseV q):=by
 intro x z h
 unfold ParseV at h
 cases h
 exact(Classical.choose_spec (parse_law x)).2
abbrev a_PrintV:Type:=Nat×FL
abbrev g_PrintV:Type:=ByteArray
def A_PrintV:AR a_PrintV:=fun x=>([.ro 6 x.1 x.2],[])
def d_PrintV(t:TT):a_PrintV:=(vRoN (ag t 0),vRoF (ag t 0))
theorem v_PrintV:VI A_PrintV:=vd d_PrintV fun _=>rfl
def R_PrintV:g_PrintV→CRes:=fun z=>.ret (st z) []
noncomputable def PrintV(q:Nat)(x:a_PrintV):Option g_PrintV:=@ite _ (x=(prc1.length,pF prc1)) (Classical.propDecidable _) (some out1) none
theorem sc_PrintV(q:Nat):Lw E5 9 A_PrintV R_PrintV (PrintV q):=by
 intro x z h
 unfold PrintV at h
 split at h
 ·rename_i hc
  subst hc
  cases h
  exact print1
 ·cases h
abbrev a_Lives:Type:=Unit
abbrev g_Lives:Type:=Bool
def A_Lives:a_Lives→List V×List (Option Chunk):=(fun _=>(([]:List V),([]:List (Option Chunk))))
def d_Lives(t:TT):a_Lives:=()
theorem v_Lives:VI A_Lives:=vd d_Lives fun _=>rfl
def R_Lives:g_Lives→CRes:=fun z=>.ret (bo z) []
def t_Lives{β:Type}(c_ParseV:a_ParseV→Option g_ParseV)(c_PrintV:a_PrintV→Option g_PrintV)(x:a_Lives)(dn:g_Lives→Option β):Option β:=
 (c_ParseV (⟨#[112,114,111,99,101,100,117,114,101,32,112,40,116,58,32,115,41,32,123,32,108,101,116,32,120,32,61,32,50,32,42,32,40,49,32,43,32,116,108,109,46,98,97,116,116,101,114,121,41,59,32,125]⟩)).bind fun z1=>(c_ParseV (⟨#[112,114,111,99,101,100,117,114,101,32,112,40,41,32,123,32,114,101,112,101,97,116,32,48,32,123,32,125,32,125]⟩)).bind fun z3=>(c_ParseV (⟨#[112,114,111,99,101,100,117,114,101,32,112,40,120,58,32,121,41,32,123,32,125]⟩)).bind fun z5=>if(z1.2.2.2==0)=true then if(((z1.1:Nat):Int)==1)=true then(c_PrintV (z1.1,z1.2.1)).bind fun z8=>if(z8.toList==ByteArray.toList ⟨#[112,114,111,99,101,100,117,114,101,32,112,40,116,58,32,115,41,32,123,10,32,32,108,101,116,32,120,32,61,32,50,32,42,32,40,49,32,43,32,116,108,109,46,98,97,116,116,101,114,121,41,59,10,125,10]⟩)=true then if(z3.2.2.1==23)=true then if(z3.2.2.2==5)=true then if(z5.2.2.1==15)=true then dn (z5.2.2.2==10)else dn false else dn false else dn false else dn false else dn false else dn false
theorem n_Lives{β:Type}(c_ParseV c_PrintV)(x)(dn:g_Lives→Option β):t_Lives c_ParseV c_PrintV x dn=(t_Lives c_ParseV c_PrintV x some).bind dn:=by
 unfold t_Lives
 repeat' first|exact n0|refine n1 fun _=>?_|refine n2 ?_ ?_|refine n3 (fun _=>?_) fun _=>?_|rfl
theorem r_Lives(c_ParseV c_PrintV)(x):callK E5 (ftb 8 A_ParseV R_ParseV c_ParseV (ftb 9 A_PrintV R_PrintV c_PrintV ca0)) lo0 10 (A_Lives x).1 (A_Lives x).2 K=t_Lives (vf A_ParseV c_ParseV) (vf A_PrintV c_PrintV) x (fun z=>some (.c (R_Lives z))):=by kernel_rfl
noncomputable def Lives(q:Nat)(x:a_Lives):Option g_Lives:=t_Lives (ParseV q) (PrintV q) x some
theorem sc_Lives(q:Nat):Lw E5 10 A_Lives R_Lives (Lives q):=sof hW5 hX5 (fk (sc_ParseV q) (fk (sc_PrintV q) ca0_sound)) (fun _=>lo0_sound) fun x=>(r_Lives (ParseV q) (PrintV q) x).trans (by rw[v_ParseV,v_PrintV,n_Lives]<;>rfl)
end Go.Proofs.YtjfkkokeegpeiaaDoor
/- The examples hold; Parse agrees with the specification. -/
namespace Go.Proofs.YtjfkkokeegpeiaaDoor
open Go Go.Am Go.Proofs.Lx
set_option maxRecDepth 100000
theorem parseV_eq(q:Nat){s:ByteArray}{r:List Prc×Int×Int}(h:ParseR s r):ParseV q s=some (r.1.length,pF r.1,r.2.1,r.2.2):=by
 unfold ParseV
 rw[ansP_eq h]
theorem lives_true(q:Nat):Lives q ()=some true:=by
 have h1:ParseV q src1=some (1,pF prc1,0,0):=parseV_eq q ex1
 have h2:ParseV q src2=some (0,pF [],23,5):=parseV_eq q ex2
 have h3:ParseV q src3=some (0,pF [],15,10):=parseV_eq q ex3
 have h4:PrintV q (1,pF prc1)=some out1:=by
  unfold PrintV
  exact if_pos rfl
 refine Rs.eq ?_
 unfold Lives t_Lives
 refine Rs.bind (Rs.of h1) fun z1 e1=>?_
 refine Rs.bind (Rs.of h2) fun z2 e2=>?_
 refine Rs.bind (Rs.of h3) fun z3 e3=>?_
 subst e1 e2 e3
 refine Rs.pos rfl (Rs.pos rfl ?_)
 refine Rs.bind (Rs.of h4) fun z4 e4=>?_
 subst e4
 refine Rs.pos (tl_eq.2 rfl) (Rs.pos rfl (Rs.pos rfl (Rs.pos rfl (Rs.some rfl))))
end Go.Proofs.YtjfkkokeegpeiaaDoor
/- Spaces, Tail, Concat: the laws, lifted. -/
namespace Go.Proofs.YtjfkkokeegpeiaaDoor
open Go Go.Am Go.Proofs Go.Proofs.Lx
set_option maxRecDepth 100000
abbrev a_LexV:Type:=ByteArray
abbrev g_LexV:Type:=Nat×FI×FI×FS×FI×Int×Int
def A_LexV:AR a_LexV:=fun x=>([st x],[])
def d_LexV(t:TT):a_LexV:=(vS (ag t 0))
theorem v_LexV:VI A_LexV:=vd d_LexV fun _=>rfl
def R_LexV:g_LexV→CRes:=fun z=>.ret (.tup [.ro 4 z.1 (fun j=>[i64 (z.2.1 j),i64 (z.2.2.1 j),st (z.2.2.2.1 j),i64 (z.2.2.2.2.1 j)]),i64 z.2.2.2.2.2.1,i64 z.2.2.2.2.2.2]) []
noncomputable def LexV(q:Nat)(x:a_LexV):Option g_LexV:=(TokensV 3000000000 x).map fun z=>(z.2.2.1,z.2.2.2.1,z.2.2.2.2.1,z.2.2.2.2.2.1,z.2.2.2.2.2.2,z.1,z.2.1)
theorem sc_LexV(q:Nat):Lw E5 13 A_LexV R_LexV (LexV q):=by
 intro x z h
 unfold LexV at h
 obtain⟨y,hy,rfl⟩:=Option.map_eq_some_iff.1 h
 exact sc_TokensV _ x y hy
abbrev a_ParseC:Type:=ByteArray
abbrev g_ParseC:Type:=Nat×FS×FN×(Nat→Nat→ByteArray)×(Nat→Nat→ByteArray)×FI×FI×FS×FN×FM×Int×Int
def A_ParseC:AR a_ParseC:=fun x=>([st x],[])
def d_ParseC(t:TT):a_ParseC:=(vS (ag t 0))
theorem v_ParseC:VI A_ParseC:=vd d_ParseC fun _=>rfl
def R_ParseC:g_ParseC→CRes:=fun z=>.ret (.tup [.ro 6 z.1 (fun j=>[st (z.2.1 j),.ro 2 (z.2.2.1 j) (fun i=>[st (z.2.2.2.1 j i),st (z.2.2.2.2.1 j i)]),i64 (z.2.2.2.2.2.1 j),i64 (z.2.2.2.2.2.2.1 j),st (z.2.2.2.2.2.2.2.1 j),.ro 4 (z.2.2.2.2.2.2.2.2.1 j) (z.2.2.2.2.2.2.2.2.2.1 j)]),i64 z.2.2.2.2.2.2.2.2.2.2.1,i64 z.2.2.2.2.2.2.2.2.2.2.2]) []
noncomputable def ParseC(q:Nat)(x:a_ParseC):Option g_ParseC:=some ((ansP x).1.length,cX (ansP x).1,cQ (ansP x).1,cN (ansP x).1,cU (ansP x).1,(fun j=>(cT (ansP x).1 j).1),(fun j=>(cT (ansP x).1 j).2.1),(fun j=>(cT (ansP x).1 j).2.2.1),(fun j=>(cT (ansP x).1 j).2.2.2.1),(fun j=>(cT (ansP x).1 j).2.2.2.2),(ansP x).2.1,(ansP x).2.2)
theorem sc_ParseC(q:Nat):Lw E5 8 A_ParseC R_ParseC (ParseC q):=by
 intro x z h
 unfold ParseC at h
 cases h
 exact SC.le (Classical.choose_spec (parse_law x)).2 (Le.tup (LeL.cons (proc_le _) (LeL.cons (Le.refl _) (LeL.cons (Le.refl _) LeL.nil))))
abbrev a_joined:Type:=ByteArray
abbrev g_joined:Type:=ByteArray
abbrev joined_l0_a:Type:=Nat×FI×FI×FS×FI×ByteArray×Int
abbrev joined_l0_g:Type:=ByteArray
def joined_l0_t{β:Type}(c_LexV:a_LexV→Option g_LexV)(x:a_joined)(y:joined_l0_a)(nx:joined_l0_a→Option β)(dn:joined_l0_g→Option β):Option β:=
 if decide (y.2.2.2.2.2.2< ((y.1:Nat):Int))=true then if decide (y.2.2.2.2.2.2>0)=true then if y.2.2.2.2.2.1.size+1≤maxLen then if 0≤y.2.2.2.2.2.2∧y.2.2.2.2.2.2< ((y.1:Nat):Int)then if ByteArray.size (y.2.2.2.2.2.1++⟨#[32]⟩)+ByteArray.size (y.2.2.2.1 (Int.toNat y.2.2.2.2.2.2))≤maxLen then nx (y.1,y.2.1,y.2.2.1,y.2.2.2.1,y.2.2.2.2.1,y.2.2.2.2.2.1++⟨#[32]⟩++y.2.2.2.1 (Int.toNat y.2.2.2.2.2.2),w (y.2.2.2.2.2.2+1))else none else none else none else if 0≤y.2.2.2.2.2.2∧y.2.2.2.2.2.2< ((y.1:Nat):Int)then if y.2.2.2.2.2.1.size+ByteArray.size (y.2.2.2.1 (Int.toNat y.2.2.2.2.2.2))≤maxLen then nx (y.1,y.2.1,y.2.2.1,y.2.2.2.1,y.2.2.2.2.1,y.2.2.2.2.2.1++y.2.2.2.1 (Int.toNat y.2.2.2.2.2.2),w (y.2.2.2.2.2.2+1))else none else none else dn y.2.2.2.2.2.1
noncomputable def joined_l0(c_LexV:a_LexV→Option g_LexV)(q:Nat)(x:a_joined):joined_l0_a→Option joined_l0_g:=lpG (fun y=>joined_l0_t c_LexV x y (fun y=>some (.inl y)) (fun z=>some (.inr z))) q
def t_joined{β:Type}(c_LexV:a_LexV→Option g_LexV)(l_joined_l0:joined_l0_a→Option joined_l0_g)(x:a_joined)(dn:g_joined→Option β):Option β:=
 (c_LexV x).bind fun z1=>(l_joined_l0 (z1.1,z1.2.1,z1.2.2.1,z1.2.2.2.1,z1.2.2.2.2.1,⟨#[]⟩,0)).bind fun z32=>dn z32
noncomputable def joined(q:Nat)(x:a_joined):Option g_joined:=t_joined (LexV q) (joined_l0 (LexV q) q x) x some
end Go.Proofs.YtjfkkokeegpeiaaDoor
/- Follows, lifted. -/
namespace Go.Proofs.YtjfkkokeegpeiaaDoor
open Go Go.Am Go.Proofs Go.Proofs.Lx
set_option maxRecDepth 100000
abbrev a_occursZ:Type:=Int×Int×ByteArray×Nat×FI×FI×FS×FI
abbrev g_occursZ:Type:=Bool
def A_occursZ:AR a_occursZ:=fun x=>([.agg [i64 x.1,i64 x.2.1,st x.2.2.1,nilS],.ro 4 x.2.2.2.1 (fun j=>[i64 (x.2.2.2.2.1 j),i64 (x.2.2.2.2.2.1 j),st (x.2.2.2.2.2.2.1 j),i64 (x.2.2.2.2.2.2.2 j)])],[])
def d_occursZ(t:TT):a_occursZ:=((vI (ca t 0 0)),vI (ca t 0 1),vS (ca t 0 2),vRoN (ag t 1),dTI (ag t 1) 0,dTI (ag t 1) 1,dTS (ag t 1) 2,dTI (ag t 1) 3)
theorem v_occursZ:VI A_occursZ:=vd d_occursZ fun _=>rfl
def R_occursZ:g_occursZ→CRes:=fun z=>.ret (bo z) []
abbrev occursZ_l0_a:Type:=FI×FI×FS×FI×Bool×Bool×Int
abbrev occursZ_l0_g:Type:=Bool×Bool
def occursZ_l0_S(x:a_occursZ)(y:occursZ_l0_a):St:={fr:=[V.junk,V.ro 4 x.2.2.2.1 fun j=>[i64 (y.1 j),i64 (y.2.1 j),st (y.2.2.1 j),i64 (y.2.2.2.1 j)],V.ptr 0 0,V.junk,V.junk,bo y.2.2.2.2.1,bo y.2.2.2.2.2.1,i64 y.2.2.2.2.2.2]++jk 51,H:=hp [some (Chunk.blk [i64 x.1,i64 x.2.1,st x.2.2.1,nilS])],nx:=1,rt:=0,me:=14}
def occursZ_l0_d(s:St):occursZ_l0_a:=((dTI (s.fr.getD 1 .junk) 0),dTI (s.fr.getD 1 .junk) 1,dTS (s.fr.getD 1 .junk) 2,dTI (s.fr.getD 1 .junk) 3,vB (s.fr.getD 5 .junk),vB (s.fr.getD 6 .junk),vI (s.fr.getD 7 .junk))
theorem occursZ_l0_u(x:a_occursZ):VL (occursZ_l0_S x):=vl occursZ_l0_d fun _=>rfl
def occursZ_l0_T(x:a_occursZ):occursZ_l0_g→Ex×St:=(fun z=>(Ex.exit 0,{fr:=jk 5++[bo z.1,bo z.2]++jk 52,H:=hp [],nx:=0,rt:=0,me:=14}))
def occursZ_l0_t{β:Type}(x:a_occursZ)(y:occursZ_l0_a)(nx:occursZ_l0_a→Option β)(dn:occursZ_l0_g→Option β):Option β:=
 if decide (y.2.2.2.2.2.2< ((x.2.2.2.1:Nat):Int))=true then if y.2.2.2.2.1=true then if y.2.2.2.2.2.1=true then nx (y.1,y.2.1,y.2.2.1,y.2.2.2.1,true,true,w (y.2.2.2.2.2.2+1))else if 0≤y.2.2.2.2.2.2∧y.2.2.2.2.2.2< ((x.2.2.2.1:Nat):Int)then if(y.1 (Int.toNat y.2.2.2.2.2.2)==2)=true then if 0≤y.2.2.2.2.2.2∧y.2.2.2.2.2.2< ((x.2.2.2.1:Nat):Int)then nx (y.1,y.2.1,y.2.2.1,y.2.2.2.1,true,y.2.2.2.1 (Int.toNat y.2.2.2.2.2.2)==x.2.1,w (y.2.2.2.2.2.2+1))else none else nx (y.1,y.2.1,y.2.2.1,y.2.2.2.1,true,false,w (y.2.2.2.2.2.2+1))else none else if 0≤y.2.2.2.2.2.2∧y.2.2.2.2.2.2< ((x.2.2.2.1:Nat):Int)then if y.2.2.2.2.2.1=true then nx (y.1,y.2.1,y.2.2.1,y.2.2.2.1,ByteArray.toList (y.2.2.1 (Int.toNat y.2.2.2.2.2.2))==x.2.2.1.toList,true,w (y.2.2.2.2.2.2+1))else if 0≤y.2.2.2.2.2.2∧y.2.2.2.2.2.2< ((x.2.2.2.1:Nat):Int)then if(y.1 (Int.toNat y.2.2.2.2.2.2)==2)=true then if 0≤y.2.2.2.2.2.2∧y.2.2.2.2.2.2< ((x.2.2.2.1:Nat):Int)then nx (y.1,y.2.1,y.2.2.1,y.2.2.2.1,ByteArray.toList (y.2.2.1 (Int.toNat y.2.2.2.2.2.2))==x.2.2.1.toList,y.2.2.2.1 (Int.toNat y.2.2.2.2.2.2)==x.2.1,w (y.2.2.2.2.2.2+1))else none else nx (y.1,y.2.1,y.2.2.1,y.2.2.2.1,ByteArray.toList (y.2.2.1 (Int.toNat y.2.2.2.2.2.2))==x.2.2.1.toList,false,w (y.2.2.2.2.2.2+1))else none else none else dn (y.2.2.2.2.1,y.2.2.2.2.2.1)
theorem occursZ_l0_n{β:Type}(x)(y)(nx:occursZ_l0_a→Option β)(dn):occursZ_l0_t x y nx dn=(occursZ_l0_t x y (fun y=>some (.inl y)) (fun z=>some (.inr z))).bind fun r=>Sum.elim nx dn r:=by
 unfold occursZ_l0_t
 repeat' first|exact n0|refine n1 fun _=>?_|refine n2 ?_ ?_|refine n3 (fun _=>?_) fun _=>?_|rfl
theorem occursZ_l0_r(x)(y)(lo:LoopT):loopK E5 ca0 lo 0 230 (bodyOf E5 14 0) (occursZ_l0_S x y) (KCM [(0,96)] 16)=occursZ_l0_t x y (fun y=>lo 0 230 (bodyOf E5 14 0) (occursZ_l0_S x y) (KCM [(0,96)] 16)) (fun z=>some (.l (occursZ_l0_T x z).1 (occursZ_l0_T x z).2)):=by kernel_rfl
noncomputable def occursZ_l0(q:Nat)(x:a_occursZ):occursZ_l0_a→Option occursZ_l0_g:=lpG (fun y=>occursZ_l0_t x y (fun y=>some (.inl y)) (fun z=>some (.inr z))) q
theorem occursZ_l0_s(q:Nat)(x:a_occursZ):Ll E5 (bodyOf E5 14 0) (occursZ_l0_S x) (occursZ_l0_T x) (occursZ_l0 q x):=
 slp ca0_sound hX5 (fun lo y=>(occursZ_l0_r x y lo).trans (by exact occursZ_l0_n  _ _ _ _)) (fun _=>by kernel_rfl) q
def t_occursZ{β:Type}(l_occursZ_l0:occursZ_l0_a→Option occursZ_l0_g)(x:a_occursZ)(dn:g_occursZ→Option β):Option β:=
 if(x.2.1==0)=true then(l_occursZ_l0 (x.2.2.2.2.1,x.2.2.2.2.2.1,x.2.2.2.2.2.2.1,x.2.2.2.2.2.2.2,x.2.2.1.toList==ByteArray.toList ⟨#[]⟩,true,0)).bind fun z88=>if z88.1=true then dn z88.2 else dn false else(l_occursZ_l0 (x.2.2.2.2.1,x.2.2.2.2.2.1,x.2.2.2.2.2.2.1,x.2.2.2.2.2.2.2,x.2.2.1.toList==ByteArray.toList ⟨#[]⟩,x.1==16,0)).bind fun z89=>if z89.1=true then dn z89.2 else dn false
theorem n_occursZ{β:Type}(l_occursZ_l0)(x)(dn:g_occursZ→Option β):t_occursZ l_occursZ_l0 x dn=(t_occursZ l_occursZ_l0 x some).bind dn:=by
 unfold t_occursZ
 repeat' first|exact n0|refine n1 fun _=>?_|refine n2 ?_ ?_|refine n3 (fun _=>?_) fun _=>?_|rfl
theorem r_occursZ(l_occursZ_l0)(x):callK E5 ca0 (lt1 0 (fun _=>true) (bodyOf E5 14 0) (occursZ_l0_S x) (occursZ_l0_T x) l_occursZ_l0 lo0) 14 (A_occursZ x).1 (A_occursZ x).2 K=t_occursZ (lf (bodyOf E5 14 0) (occursZ_l0_S x) l_occursZ_l0) x (fun z=>some (.c (R_occursZ z))):=by kernel_rfl
noncomputable def occursZ(q:Nat)(x:a_occursZ):Option g_occursZ:=t_occursZ (occursZ_l0 q x) x some
theorem sc_occursZ(q:Nat):Lw E5 14 A_occursZ R_occursZ (occursZ q):=sof hW5 hX5 ca0_sound (fun x=>(lk1 (occursZ_l0_s q x) lo0_sound)) fun x=>(r_occursZ (occursZ_l0 q x) x).trans (by rw[occursZ_l0_u,n_occursZ]<;>rfl)
abbrev a_occurs:Type:=Int×Int×ByteArray×Nat×FL×Nat×FI×FI×FS×FI
abbrev g_occurs:Type:=Bool
def A_occurs:AR a_occurs:=fun x=>([.agg [i64 x.1,i64 x.2.1,st x.2.2.1,.ro 4 x.2.2.2.1 x.2.2.2.2.1],.ro 4 x.2.2.2.2.2.1 (fun j=>[i64 (x.2.2.2.2.2.2.1 j),i64 (x.2.2.2.2.2.2.2.1 j),st (x.2.2.2.2.2.2.2.2.1 j),i64 (x.2.2.2.2.2.2.2.2.2 j)])],[])
def d_occurs(t:TT):a_occurs:=((vI (ca t 0 0)),vI (ca t 0 1),vS (ca t 0 2),vRoN (ca t 0 3),vRoF (ca t 0 3),vRoN (ag t 1),dTI (ag t 1) 0,dTI (ag t 1) 1,dTS (ag t 1) 2,dTI (ag t 1) 3)
theorem v_occurs:VI A_occurs:=vd d_occurs fun _=>rfl
def R_occurs:g_occurs→CRes:=fun z=>.ret (bo z) []
abbrev occurs_l0_a:Type:=FI×FI×FS×FI×Bool×Bool×Int
abbrev occurs_l0_g:Type:=Bool×Bool
def occurs_l0_S(x:a_occurs)(y:occurs_l0_a):St:={fr:=[V.junk,V.ro 4 x.2.2.2.2.2.1 fun j=>[i64 (y.1 j),i64 (y.2.1 j),st (y.2.2.1 j),i64 (y.2.2.2.1 j)],V.ptr 0 0,V.junk,V.junk,bo y.2.2.2.2.1,bo y.2.2.2.2.2.1,i64 y.2.2.2.2.2.2]++jk 51,H:=hp [some (Chunk.blk [i64 x.1,i64 x.2.1,st x.2.2.1,V.ro 4 x.2.2.2.1 x.2.2.2.2.1])],nx:=1,rt:=0,me:=14}
def occurs_l0_d(s:St):occurs_l0_a:=((dTI (s.fr.getD 1 .junk) 0),dTI (s.fr.getD 1 .junk) 1,dTS (s.fr.getD 1 .junk) 2,dTI (s.fr.getD 1 .junk) 3,vB (s.fr.getD 5 .junk),vB (s.fr.getD 6 .junk),vI (s.fr.getD 7 .junk))
theorem occurs_l0_u(x:a_occurs):VL (occurs_l0_S x):=vl occurs_l0_d fun _=>rfl
def occurs_l0_T(x:a_occurs):occurs_l0_g→Ex×St:=(fun z=>(Ex.exit 0,{fr:=jk 5++[bo z.1,bo z.2]++jk 52,H:=hp [],nx:=0,rt:=0,me:=14}))
def occurs_l0_t{β:Type}(x:a_occurs)(y:occurs_l0_a)(nx:occurs_l0_a→Option β)(dn:occurs_l0_g→Option β):Option β:=
 if decide (y.2.2.2.2.2.2< ((x.2.2.2.2.2.1:Nat):Int))=true then if y.2.2.2.2.1=true then if y.2.2.2.2.2.1=true then nx (y.1,y.2.1,y.2.2.1,y.2.2.2.1,true,true,w (y.2.2.2.2.2.2+1))else if 0≤y.2.2.2.2.2.2∧y.2.2.2.2.2.2< ((x.2.2.2.2.2.1:Nat):Int)then if(y.1 (Int.toNat y.2.2.2.2.2.2)==2)=true then if 0≤y.2.2.2.2.2.2∧y.2.2.2.2.2.2< ((x.2.2.2.2.2.1:Nat):Int)then nx (y.1,y.2.1,y.2.2.1,y.2.2.2.1,true,y.2.2.2.1 (Int.toNat y.2.2.2.2.2.2)==x.2.1,w (y.2.2.2.2.2.2+1))else none else nx (y.1,y.2.1,y.2.2.1,y.2.2.2.1,true,false,w (y.2.2.2.2.2.2+1))else none else if 0≤y.2.2.2.2.2.2∧y.2.2.2.2.2.2< ((x.2.2.2.2.2.1:Nat):Int)then if y.2.2.2.2.2.1=true then nx (y.1,y.2.1,y.2.2.1,y.2.2.2.1,ByteArray.toList (y.2.2.1 (Int.toNat y.2.2.2.2.2.2))==x.2.2.1.toList,true,w (y.2.2.2.2.2.2+1))else if 0≤y.2.2.2.2.2.2∧y.2.2.2.2.2.2< ((x.2.2.2.2.2.1:Nat):Int)then if(y.1 (Int.toNat y.2.2.2.2.2.2)==2)=true then if 0≤y.2.2.2.2.2.2∧y.2.2.2.2.2.2< ((x.2.2.2.2.2.1:Nat):Int)then nx (y.1,y.2.1,y.2.2.1,y.2.2.2.1,ByteArray.toList (y.2.2.1 (Int.toNat y.2.2.2.2.2.2))==x.2.2.1.toList,y.2.2.2.1 (Int.toNat y.2.2.2.2.2.2)==x.2.1,w (y.2.2.2.2.2.2+1))else none else nx (y.1,y.2.1,y.2.2.1,y.2.2.2.1,ByteArray.toList (y.2.2.1 (Int.toNat y.2.2.2.2.2.2))==x.2.2.1.toList,false,w (y.2.2.2.2.2.2+1))else none else none else dn (y.2.2.2.2.1,y.2.2.2.2.2.1)
theorem occurs_l0_n{β:Type}(x)(y)(nx:occurs_l0_a→Option β)(dn):occurs_l0_t x y nx dn=(occurs_l0_t x y (fun y=>some (.inl y)) (fun z=>some (.inr z))).bind fun r=>Sum.elim nx dn r:=by
 unfold occurs_l0_t
 repeat' first|exact n0|refine n1 fun _=>?_|refine n2 ?_ ?_|refine n3 (fun _=>?_) fun _=>?_|rfl
theorem occurs_l0_r(x)(y)(lo:LoopT):loopK E5 ca0 lo 0 230 (bodyOf E5 14 0) (occurs_l0_S x y) (KCM [(0,96)] 16)=occurs_l0_t x y (fun y=>lo 0 230 (bodyOf E5 14 0) (occurs_l0_S x y) (KCM [(0,96)] 16)) (fun z=>some (.l (occurs_l0_T x z).1 (occurs_l0_T x z).2)):=by kernel_rfl
noncomputable def occurs_l0(q:Nat)(x:a_occurs):occurs_l0_a→Option occurs_l0_g:=lpG (fun y=>occurs_l0_t x y (fun y=>some (.inl y)) (fun z=>some (.inr z))) q
theorem occurs_l0_s(q:Nat)(x:a_occurs):Ll E5 (bodyOf E5 14 0) (occurs_l0_S x) (occurs_l0_T x) (occurs_l0 q x):=
 slp ca0_sound hX5 (fun lo y=>(occurs_l0_r x y lo).trans (by exact occurs_l0_n  _ _ _ _)) (fun _=>by kernel_rfl) q
def t_occurs{β:Type}(l_occurs_l0:occurs_l0_a→Option occurs_l0_g)(x:a_occurs)(dn:g_occurs→Option β):Option β:=
 if(x.2.1==0)=true then(l_occurs_l0 (x.2.2.2.2.2.2.1,x.2.2.2.2.2.2.2.1,x.2.2.2.2.2.2.2.2.1,x.2.2.2.2.2.2.2.2.2,x.2.2.1.toList==ByteArray.toList ⟨#[]⟩,true,0)).bind fun z88=>if z88.1=true then dn z88.2 else dn false else(l_occurs_l0 (x.2.2.2.2.2.2.1,x.2.2.2.2.2.2.2.1,x.2.2.2.2.2.2.2.2.1,x.2.2.2.2.2.2.2.2.2,x.2.2.1.toList==ByteArray.toList ⟨#[]⟩,x.1==16,0)).bind fun z89=>if z89.1=true then dn z89.2 else dn false
theorem n_occurs{β:Type}(l_occurs_l0)(x)(dn:g_occurs→Option β):t_occurs l_occurs_l0 x dn=(t_occurs l_occurs_l0 x some).bind dn:=by
 unfold t_occurs
 repeat' first|exact n0|refine n1 fun _=>?_|refine n2 ?_ ?_|refine n3 (fun _=>?_) fun _=>?_|rfl
theorem r_occurs(l_occurs_l0)(x):callK E5 ca0 (lt1 0 (fun _=>true) (bodyOf E5 14 0) (occurs_l0_S x) (occurs_l0_T x) l_occurs_l0 lo0) 14 (A_occurs x).1 (A_occurs x).2 K=t_occurs (lf (bodyOf E5 14 0) (occurs_l0_S x) l_occurs_l0) x (fun z=>some (.c (R_occurs z))):=by kernel_rfl
noncomputable def occurs(q:Nat)(x:a_occurs):Option g_occurs:=t_occurs (occurs_l0 q x) x some
theorem sc_occurs(q:Nat):Lw E5 14 A_occurs R_occurs (occurs q):=sof hW5 hX5 ca0_sound (fun x=>(lk1 (occurs_l0_s q x) lo0_sound)) fun x=>(r_occurs (occurs_l0 q x) x).trans (by rw[occurs_l0_u,n_occurs]<;>rfl)
abbrev a_sound:Type:=Int×Int×ByteArray×Nat×FL×Nat×FI×FI×FS×FI
abbrev g_sound:Type:=Bool
def A_sound:AR a_sound:=fun x=>([.agg [i64 x.1,i64 x.2.1,st x.2.2.1,.ro 4 x.2.2.2.1 x.2.2.2.2.1],.ro 4 x.2.2.2.2.2.1 (fun j=>[i64 (x.2.2.2.2.2.2.1 j),i64 (x.2.2.2.2.2.2.2.1 j),st (x.2.2.2.2.2.2.2.2.1 j),i64 (x.2.2.2.2.2.2.2.2.2 j)])],[])
def d_sound(t:TT):a_sound:=(vI (ca t 0 0),vI (ca t 0 1),vS (ca t 0 2),vRoN (ca t 0 3),vRoF (ca t 0 3),vRoN (ag t 1),fun j=>vI (((vRoF (ag t 1)) j).getD 0 .junk),fun j=>vI (((vRoF (ag t 1)) j).getD 1 .junk),fun j=>vS (((vRoF (ag t 1)) j).getD 2 .junk),fun j=>vI (((vRoF (ag t 1)) j).getD 3 .junk))
theorem v_sound:VI A_sound:=vd d_sound fun _=>rfl
def R_sound:g_sound→CRes:=fun z=>.ret (bo z) []
abbrev a_soundN:Type:=Int×Int×ByteArray×Nat×FI×FI×FS×FN×FM×Nat×FI×FI×FS×FI
abbrev g_soundN:Type:=Bool
def A_soundN:AR a_soundN:=fun x=>([.agg [i64 x.1,i64 x.2.1,st x.2.2.1,.ro 4 x.2.2.2.1 (fun j=>[i64 (x.2.2.2.2.1 j),i64 (x.2.2.2.2.2.1 j),st (x.2.2.2.2.2.2.1 j),.ro 4 (x.2.2.2.2.2.2.2.1 j) (x.2.2.2.2.2.2.2.2.1 j)])],.ro 4 x.2.2.2.2.2.2.2.2.2.1 (fun j=>[i64 (x.2.2.2.2.2.2.2.2.2.2.1 j),i64 (x.2.2.2.2.2.2.2.2.2.2.2.1 j),st (x.2.2.2.2.2.2.2.2.2.2.2.2.1 j),i64 (x.2.2.2.2.2.2.2.2.2.2.2.2.2 j)])],[])
def R_soundN:g_soundN→CRes:=fun z=>.ret (bo z) []
abbrev soundN_l0_a:Type:=Int
abbrev soundN_l0_g:Type:=(Unit)⊕(Unit)
def soundN_l0_S(x:a_soundN)(y:soundN_l0_a):St:={fr:=[V.junk,V.ro 4 x.2.2.2.2.2.2.2.2.2.1 fun j=>[i64 (x.2.2.2.2.2.2.2.2.2.2.1 j),i64 (x.2.2.2.2.2.2.2.2.2.2.2.1 j),st (x.2.2.2.2.2.2.2.2.2.2.2.2.1 j),i64 (x.2.2.2.2.2.2.2.2.2.2.2.2.2 j)],V.ptr 0 0]++jk 5++[i64 y]++jk 40,H:=hp [some (Chunk.blk [i64 x.1,i64 x.2.1,st x.2.2.1,V.ro 4 x.2.2.2.1 fun j=>[i64 (x.2.2.2.2.1 j),i64 (x.2.2.2.2.2.1 j),st (x.2.2.2.2.2.2.1 j),V.ro 4 (x.2.2.2.2.2.2.2.1 j) (x.2.2.2.2.2.2.2.2.1 j)]])],nx:=1,rt:=0,me:=15}
def soundN_l0_d(s:St):soundN_l0_a:=(vI (s.fr.getD 8 .junk))
theorem soundN_l0_u(x:a_soundN):VL (soundN_l0_S x):=vl soundN_l0_d fun _=>rfl
def soundN_l0_T(x:a_soundN):soundN_l0_g→Ex×St:=(Sum.elim (fun z=>(Ex.ret,{fr:=jk 4++[bo false]++jk 44,H:=hp [],nx:=0,rt:=0,me:=15})) (fun z=>(Ex.exit 0,{fr:=[V.junk]++jk 48,H:=hp [],nx:=0,rt:=0,me:=15})))
def soundN_l0_t{β:Type}(c_Lookup:a_Lookup→Option g_Lookup)(c_occurs:a_occurs→Option g_occurs)(c_sound:a_sound→Option g_sound)(x:a_soundN)(y:soundN_l0_a)(nx:soundN_l0_a→Option β)(dn:soundN_l0_g→Option β):Option β:=
 if decide (y< ((x.2.2.2.1:Nat):Int))=true then if 0≤y∧y< ((x.2.2.2.1:Nat):Int)then(c_sound (x.2.2.2.2.1 (Int.toNat y),x.2.2.2.2.2.1 (Int.toNat y),x.2.2.2.2.2.2.1 (Int.toNat y),x.2.2.2.2.2.2.2.1 (Int.toNat y),x.2.2.2.2.2.2.2.2.1 (Int.toNat y),x.2.2.2.2.2.2.2.2.2)).bind fun z92=>if(!z92)=true then dn (.inl ())else nx (w (y+1))else none else dn (.inr ())
theorem soundN_l0_n{β:Type}(c_Lookup c_occurs c_sound)(x)(y)(nx:soundN_l0_a→Option β)(dn):soundN_l0_t c_Lookup c_occurs c_sound x y nx dn=(soundN_l0_t c_Lookup c_occurs c_sound x y (fun y=>some (.inl y)) (fun z=>some (.inr z))).bind fun r=>Sum.elim nx dn r:=by
 unfold soundN_l0_t
 repeat' first|exact n0|refine n1 fun _=>?_|refine n2 ?_ ?_|refine n3 (fun _=>?_) fun _=>?_|rfl
theorem soundN_l0_r(c_Lookup c_occurs c_sound)(x)(y)(lo:LoopT):loopK E5 (ftb 16 A_Lookup R_Lookup c_Lookup (ftg 14 (fun a _=> !isNilV ((vAg (a.getD 0 .junk)).getD 3 .junk)) A_occurs R_occurs c_occurs (ftb 15 A_sound R_sound c_sound ca0))) lo 0 262 (bodyOf E5 15 0) (soundN_l0_S x y) (KCM [(0,0)] 16)=soundN_l0_t (vf A_Lookup c_Lookup) (vf A_occurs c_occurs) (vf A_sound c_sound) x y (fun y=>lo 0 262 (bodyOf E5 15 0) (soundN_l0_S x y) (KCM [(0,0)] 16)) (fun z=>some (.l (soundN_l0_T x z).1 (soundN_l0_T x z).2)):=by kernel_rfl
noncomputable def soundN_l0(c_Lookup:a_Lookup→Option g_Lookup)(c_occurs:a_occurs→Option g_occurs)(c_sound:a_sound→Option g_sound)(q:Nat)(x:a_soundN):soundN_l0_a→Option soundN_l0_g:=lpG (fun y=>soundN_l0_t c_Lookup c_occurs c_sound x y (fun y=>some (.inl y)) (fun z=>some (.inr z))) q
theorem soundN_l0_s(c_Lookup)(h_Lookup:Lw E5 16 A_Lookup R_Lookup c_Lookup)(c_occurs)(h_occurs:Lw E5 14 A_occurs R_occurs c_occurs)(c_sound)(h_sound:Lw E5 15 A_sound R_sound c_sound)(q:Nat)(x:a_soundN):Ll E5 (bodyOf E5 15 0) (soundN_l0_S x) (soundN_l0_T x) (soundN_l0 c_Lookup c_occurs c_sound q x):=
 slp (fk h_Lookup (fk h_occurs (fk h_sound ca0_sound))) hX5 (fun lo y=>(soundN_l0_r c_Lookup c_occurs c_sound x y lo).trans (by rw[v_Lookup,v_occurs,v_sound];exact soundN_l0_n _ _ _ _ _ _ _)) (fun z=>by rcases z with z|z<;>kernel_rfl) q
def t_soundN{β:Type}(c_Lookup:a_Lookup→Option g_Lookup)(c_occurs:a_occurs→Option g_occurs)(c_sound:a_sound→Option g_sound)(l_soundN_l0:soundN_l0_a→Option soundN_l0_g)(x:a_soundN)(dn:g_soundN→Option β):Option β:=
 (c_Lookup x.2.2.1).bind fun z1=>if(x.1==15)=true then if(!x.2.2.1.toList==ByteArray.toList ⟨#[]⟩)=true then if(!z1.2.2.2.2.2.2)=true then dn false else(c_occurs (x.1,x.2.1,x.2.2.1,x.2.2.2.1,fun j=>[i64 (x.2.2.2.2.1 j),i64 (x.2.2.2.2.2.1 j),st (x.2.2.2.2.2.2.1 j),V.ro 4 (x.2.2.2.2.2.2.2.1 j) (x.2.2.2.2.2.2.2.2.1 j)],x.2.2.2.2.2.2.2.2.2)).bind fun z12=>if(!z12)=true then dn false else(l_soundN_l0 (0)).bind fun z38=>Sum.elim (fun z38a=>dn false) (fun z38b=>dn true) z38 else(c_occurs (x.1,x.2.1,x.2.2.1,x.2.2.2.1,fun j=>[i64 (x.2.2.2.2.1 j),i64 (x.2.2.2.2.2.1 j),st (x.2.2.2.2.2.2.1 j),V.ro 4 (x.2.2.2.2.2.2.2.1 j) (x.2.2.2.2.2.2.2.2.1 j)],x.2.2.2.2.2.2.2.2.2)).bind fun z50=>if(!z50)=true then dn false else(l_soundN_l0 (0)).bind fun z51=>Sum.elim (fun z51a=>dn false) (fun z51b=>dn true) z51 else(c_occurs (x.1,x.2.1,x.2.2.1,x.2.2.2.1,fun j=>[i64 (x.2.2.2.2.1 j),i64 (x.2.2.2.2.2.1 j),st (x.2.2.2.2.2.2.1 j),V.ro 4 (x.2.2.2.2.2.2.2.1 j) (x.2.2.2.2.2.2.2.2.1 j)],x.2.2.2.2.2.2.2.2.2)).bind fun z63=>if(!z63)=true then dn false else(l_soundN_l0 (0)).bind fun z64=>Sum.elim (fun z64a=>dn false) (fun z64b=>dn true) z64
theorem n_soundN{β:Type}(c_Lookup c_occurs c_sound)(l_soundN_l0)(x)(dn:g_soundN→Option β):t_soundN c_Lookup c_occurs c_sound l_soundN_l0 x dn=(t_soundN c_Lookup c_occurs c_sound l_soundN_l0 x some).bind dn:=by
 unfold t_soundN
 repeat' first|exact n0|refine n1 fun _=>?_|refine n2 ?_ ?_|refine n3 (fun _=>?_) fun _=>?_|rfl
theorem r_soundN(c_Lookup c_occurs c_sound)(l_soundN_l0)(x):callK E5 (ftb 16 A_Lookup R_Lookup c_Lookup (ftg 14 (fun a _=> !isNilV ((vAg (a.getD 0 .junk)).getD 3 .junk)) A_occurs R_occurs c_occurs (ftb 15 A_sound R_sound c_sound ca0))) (lt2 0 (fun _=>true) (bodyOf E5 15 0) (soundN_l0_S x) (soundN_l0_T x) l_soundN_l0 lo0) 15 (A_soundN x).1 (A_soundN x).2 K=t_soundN (vf A_Lookup c_Lookup) (vf A_occurs c_occurs) (vf A_sound c_sound) (lf (bodyOf E5 15 0) (soundN_l0_S x) l_soundN_l0) x (fun z=>some (.c (R_soundN z))):=by kernel_rfl
theorem s_soundN(c_Lookup)(h_Lookup:Lw E5 16 A_Lookup R_Lookup c_Lookup)(c_occurs)(h_occurs:Lw E5 14 A_occurs R_occurs c_occurs)(c_sound)(h_sound:Lw E5 15 A_sound R_sound c_sound)(q:Nat):Lw E5 15 A_soundN R_soundN fun x=>t_soundN c_Lookup c_occurs c_sound (soundN_l0 c_Lookup c_occurs c_sound q x) x some:=sof hW5 hX5 (fk h_Lookup (fk h_occurs (fk h_sound ca0_sound))) (fun x=>(lk2 (soundN_l0_s c_Lookup h_Lookup c_occurs h_occurs c_sound h_sound q x) lo0_sound)) fun x=>(r_soundN c_Lookup c_occurs c_sound (soundN_l0 c_Lookup c_occurs c_sound q x) x).trans (by rw[v_Lookup,v_occurs,v_sound,soundN_l0_u,n_soundN]<;>rfl)
abbrev a_Follows:Type:=ByteArray
abbrev g_Follows:Type:=Bool
def A_Follows:AR a_Follows:=fun x=>([st x],[])
def R_Follows:g_Follows→CRes:=fun z=>.ret (bo z) []
abbrev Follows_l2_a:Type:=Nat×FS×FN×(Nat→Nat→ByteArray)×(Nat→Nat→ByteArray)×FI×FI×FS×FN×FM×Nat×FI×FI×FS×FI×Int×Int
abbrev Follows_l2_g:Type:=(Unit)⊕(Nat×FS×FN×(Nat→Nat→ByteArray)×(Nat→Nat→ByteArray)×FI×FI×FS×FN×FM×Nat×FI×FI×FS×FI×Int)
def Follows_l2_S(x:a_Follows)(y:Follows_l2_a):St:={fr:=[V.junk,V.junk,V.junk,V.ro 6 y.1 fun j=>[st (y.2.1 j),V.ro 2 (y.2.2.1 j) fun j_1=>[st (y.2.2.2.1 j j_1),st (y.2.2.2.2.1 j j_1)],i64 (y.2.2.2.2.2.1 j),i64 (y.2.2.2.2.2.2.1 j),st (y.2.2.2.2.2.2.2.1 j),V.ro 4 (y.2.2.2.2.2.2.2.2.1 j) (y.2.2.2.2.2.2.2.2.2.1 j)],V.junk,V.junk,V.ro 4 y.2.2.2.2.2.2.2.2.2.2.1 fun j=>[i64 (y.2.2.2.2.2.2.2.2.2.2.2.1 j),i64 (y.2.2.2.2.2.2.2.2.2.2.2.2.1 j),st (y.2.2.2.2.2.2.2.2.2.2.2.2.2.1 j),i64 (y.2.2.2.2.2.2.2.2.2.2.2.2.2.2.1 j)],V.junk,V.junk,i64 y.2.2.2.2.2.2.2.2.2.2.2.2.2.2.2.1,i64 y.2.2.2.2.2.2.2.2.2.2.2.2.2.2.2.2]++jk 97,H:=hp [],nx:=0,rt:=0,me:=7}
def Follows_l2_d(s:St):Follows_l2_a:=((vRoN (s.fr.getD 3 .junk)),dTS (s.fr.getD 3 .junk) 0,dTN (s.fr.getD 3 .junk) 1,(fun j=>fun i=>vS (((vRoF (((vRoF (s.fr.getD 3 .junk)) j).getD 1 .junk)) i).getD 0 .junk)),(fun j=>fun i=>vS (((vRoF (((vRoF (s.fr.getD 3 .junk)) j).getD 1 .junk)) i).getD 1 .junk)),dTI (s.fr.getD 3 .junk) 2,dTI (s.fr.getD 3 .junk) 3,dTS (s.fr.getD 3 .junk) 4,dTN (s.fr.getD 3 .junk) 5,dTF (s.fr.getD 3 .junk) 5,vRoN (s.fr.getD 6 .junk),dTI (s.fr.getD 6 .junk) 0,dTI (s.fr.getD 6 .junk) 1,dTS (s.fr.getD 6 .junk) 2,dTI (s.fr.getD 6 .junk) 3,vI (s.fr.getD 9 .junk),vI (s.fr.getD 10 .junk))
theorem Follows_l2_u(x:a_Follows):VL (Follows_l2_S x):=vl Follows_l2_d fun _=>rfl
def Follows_l2_T(x:a_Follows):Follows_l2_g→Ex×St:=(Sum.elim (fun z=>(Ex.ret,{fr:=[V.junk,V.junk,bo false]++jk 105,H:=hp [],nx:=0,rt:=0,me:=7})) (fun z=>(Ex.exit 2,{fr:=[V.junk,V.junk,V.junk,V.ro 6 z.1 fun j=>[st (z.2.1 j),V.ro 2 (z.2.2.1 j) fun j_1=>[st (z.2.2.2.1 j j_1),st (z.2.2.2.2.1 j j_1)],i64 (z.2.2.2.2.2.1 j),i64 (z.2.2.2.2.2.2.1 j),st (z.2.2.2.2.2.2.2.1 j),V.ro 4 (z.2.2.2.2.2.2.2.2.1 j) (z.2.2.2.2.2.2.2.2.2.1 j)],V.junk,V.junk,V.ro 4 z.2.2.2.2.2.2.2.2.2.2.1 fun j=>[i64 (z.2.2.2.2.2.2.2.2.2.2.2.1 j),i64 (z.2.2.2.2.2.2.2.2.2.2.2.2.1 j),st (z.2.2.2.2.2.2.2.2.2.2.2.2.2.1 j),i64 (z.2.2.2.2.2.2.2.2.2.2.2.2.2.2.1 j)],V.junk,V.junk,i64 z.2.2.2.2.2.2.2.2.2.2.2.2.2.2.2]++jk 98,H:=hp [],nx:=0,rt:=0,me:=7})))
def Follows_l2_t{β:Type}(c_ParseC:a_ParseC→Option g_ParseC)(c_LexV:a_LexV→Option g_LexV)(c_Lookup:a_Lookup→Option g_Lookup)(c_occursZ:a_occursZ→Option g_occursZ)(c_sound:a_sound→Option g_sound)(c_Lives:a_Lives→Option g_Lives)(x:a_Follows)(y:Follows_l2_a)(nx:Follows_l2_a→Option β)(dn:Follows_l2_g→Option β):Option β:=
 if 0≤y.2.2.2.2.2.2.2.2.2.2.2.2.2.2.2.1∧y.2.2.2.2.2.2.2.2.2.2.2.2.2.2.2.1< ((y.1:Nat):Int)then if decide (y.2.2.2.2.2.2.2.2.2.2.2.2.2.2.2.2< ((y.2.2.1 (Int.toNat y.2.2.2.2.2.2.2.2.2.2.2.2.2.2.2.1):Nat):Int))=true then if 0≤y.2.2.2.2.2.2.2.2.2.2.2.2.2.2.2.1∧y.2.2.2.2.2.2.2.2.2.2.2.2.2.2.2.1< ((y.1:Nat):Int)then if 0≤y.2.2.2.2.2.2.2.2.2.2.2.2.2.2.2.2∧y.2.2.2.2.2.2.2.2.2.2.2.2.2.2.2.2< ((y.2.2.1 (Int.toNat y.2.2.2.2.2.2.2.2.2.2.2.2.2.2.2.1):Nat):Int)then(c_Lookup (y.2.2.2.2.1 (Int.toNat y.2.2.2.2.2.2.2.2.2.2.2.2.2.2.2.1) (Int.toNat y.2.2.2.2.2.2.2.2.2.2.2.2.2.2.2.2))).bind fun z588=>if 0≤y.2.2.2.2.2.2.2.2.2.2.2.2.2.2.2.1∧y.2.2.2.2.2.2.2.2.2.2.2.2.2.2.2.1< ((y.1:Nat):Int)then if 0≤y.2.2.2.2.2.2.2.2.2.2.2.2.2.2.2.2∧y.2.2.2.2.2.2.2.2.2.2.2.2.2.2.2.2< ((y.2.2.1 (Int.toNat y.2.2.2.2.2.2.2.2.2.2.2.2.2.2.2.1):Nat):Int)then if(!ByteArray.toList (y.2.2.2.2.1 (Int.toNat y.2.2.2.2.2.2.2.2.2.2.2.2.2.2.2.1) (Int.toNat y.2.2.2.2.2.2.2.2.2.2.2.2.2.2.2.2))==ByteArray.toList ⟨#[]⟩)=true then if(!z588.2.2.2.2.2.2)=true then dn (.inl ())else if 0≤y.2.2.2.2.2.2.2.2.2.2.2.2.2.2.2.1∧y.2.2.2.2.2.2.2.2.2.2.2.2.2.2.2.1< ((y.1:Nat):Int)then if 0≤y.2.2.2.2.2.2.2.2.2.2.2.2.2.2.2.2∧y.2.2.2.2.2.2.2.2.2.2.2.2.2.2.2.2< ((y.2.2.1 (Int.toNat y.2.2.2.2.2.2.2.2.2.2.2.2.2.2.2.1):Nat):Int)then(c_occursZ (0,0,y.2.2.2.1 (Int.toNat y.2.2.2.2.2.2.2.2.2.2.2.2.2.2.2.1) (Int.toNat y.2.2.2.2.2.2.2.2.2.2.2.2.2.2.2.2),y.2.2.2.2.2.2.2.2.2.2.1,y.2.2.2.2.2.2.2.2.2.2.2.1,y.2.2.2.2.2.2.2.2.2.2.2.2.1,y.2.2.2.2.2.2.2.2.2.2.2.2.2.1,y.2.2.2.2.2.2.2.2.2.2.2.2.2.2.1)).bind fun z597=>if(!z597)=true then dn (.inl ())else nx (y.1,y.2.1,y.2.2.1,y.2.2.2.1,y.2.2.2.2.1,y.2.2.2.2.2.1,y.2.2.2.2.2.2.1,y.2.2.2.2.2.2.2.1,y.2.2.2.2.2.2.2.2.1,y.2.2.2.2.2.2.2.2.2.1,y.2.2.2.2.2.2.2.2.2.2.1,y.2.2.2.2.2.2.2.2.2.2.2.1,y.2.2.2.2.2.2.2.2.2.2.2.2.1,y.2.2.2.2.2.2.2.2.2.2.2.2.2.1,y.2.2.2.2.2.2.2.2.2.2.2.2.2.2.1,y.2.2.2.2.2.2.2.2.2.2.2.2.2.2.2.1,w (y.2.2.2.2.2.2.2.2.2.2.2.2.2.2.2.2+1))else none else none else if 0≤y.2.2.2.2.2.2.2.2.2.2.2.2.2.2.2.1∧y.2.2.2.2.2.2.2.2.2.2.2.2.2.2.2.1< ((y.1:Nat):Int)then if 0≤y.2.2.2.2.2.2.2.2.2.2.2.2.2.2.2.2∧y.2.2.2.2.2.2.2.2.2.2.2.2.2.2.2.2< ((y.2.2.1 (Int.toNat y.2.2.2.2.2.2.2.2.2.2.2.2.2.2.2.1):Nat):Int)then(c_occursZ (0,0,y.2.2.2.1 (Int.toNat y.2.2.2.2.2.2.2.2.2.2.2.2.2.2.2.1) (Int.toNat y.2.2.2.2.2.2.2.2.2.2.2.2.2.2.2.2),y.2.2.2.2.2.2.2.2.2.2.1,y.2.2.2.2.2.2.2.2.2.2.2.1,y.2.2.2.2.2.2.2.2.2.2.2.2.1,y.2.2.2.2.2.2.2.2.2.2.2.2.2.1,y.2.2.2.2.2.2.2.2.2.2.2.2.2.2.1)).bind fun z606=>if(!z606)=true then dn (.inl ())else nx (y.1,y.2.1,y.2.2.1,y.2.2.2.1,y.2.2.2.2.1,y.2.2.2.2.2.1,y.2.2.2.2.2.2.1,y.2.2.2.2.2.2.2.1,y.2.2.2.2.2.2.2.2.1,y.2.2.2.2.2.2.2.2.2.1,y.2.2.2.2.2.2.2.2.2.2.1,y.2.2.2.2.2.2.2.2.2.2.2.1,y.2.2.2.2.2.2.2.2.2.2.2.2.1,y.2.2.2.2.2.2.2.2.2.2.2.2.2.1,y.2.2.2.2.2.2.2.2.2.2.2.2.2.2.1,y.2.2.2.2.2.2.2.2.2.2.2.2.2.2.2.1,w (y.2.2.2.2.2.2.2.2.2.2.2.2.2.2.2.2+1))else none else none else none else none else none else none else dn (.inr (y.1,y.2.1,y.2.2.1,y.2.2.2.1,y.2.2.2.2.1,y.2.2.2.2.2.1,y.2.2.2.2.2.2.1,y.2.2.2.2.2.2.2.1,y.2.2.2.2.2.2.2.2.1,y.2.2.2.2.2.2.2.2.2.1,y.2.2.2.2.2.2.2.2.2.2.1,y.2.2.2.2.2.2.2.2.2.2.2.1,y.2.2.2.2.2.2.2.2.2.2.2.2.1,y.2.2.2.2.2.2.2.2.2.2.2.2.2.1,y.2.2.2.2.2.2.2.2.2.2.2.2.2.2.1,y.2.2.2.2.2.2.2.2.2.2.2.2.2.2.2.1))else none
theorem Follows_l2_n{β:Type}(c_ParseC c_LexV)(c_Lookup c_occursZ)(c_sound c_Lives)(x)(y)(nx:Follows_l2_a→Option β)(dn):Follows_l2_t c_ParseC c_LexV c_Lookup c_occursZ c_sound c_Lives x y nx dn=(Follows_l2_t c_ParseC c_LexV c_Lookup c_occursZ c_sound c_Lives x y (fun y=>some (.inl y)) (fun z=>some (.inr z))).bind fun r=>Sum.elim nx dn r:=by
 unfold Follows_l2_t
 repeat' first|exact n0|refine n1 fun _=>?_|refine n2 ?_ ?_|refine n3 (fun _=>?_) fun _=>?_|rfl
theorem Follows_l2_r(c_ParseC c_LexV)(c_Lookup c_occursZ)(c_sound c_Lives)(x)(y)(lo:LoopT):loopK E5 (ftb 8 A_ParseC R_ParseC c_ParseC (ftb 13 A_LexV R_LexV c_LexV (ftb 16 A_Lookup R_Lookup c_Lookup (ftg 14 (fun a _=>isNilV ((vAg (a.getD 0 .junk)).getD 3 .junk)) A_occursZ R_occursZ c_occursZ (ftb 15 A_sound R_sound c_sound (ftb 10 A_Lives R_Lives c_Lives ca0)))))) lo 2 1608 (bodyOf E5 7 2) (Follows_l2_S x y) (KCM [(2,584),(1,584),(0,0)] 4)=Follows_l2_t (vf A_ParseC c_ParseC) (vf A_LexV c_LexV) (vf A_Lookup c_Lookup) (vf A_occursZ c_occursZ) (vf A_sound c_sound) (vf A_Lives c_Lives) x y (fun y=>lo 2 1608 (bodyOf E5 7 2) (Follows_l2_S x y) (KCM [(2,584),(1,584),(0,0)] 4)) (fun z=>some (.l (Follows_l2_T x z).1 (Follows_l2_T x z).2)):=by kernel_rfl
noncomputable def Follows_l2(c_ParseC:a_ParseC→Option g_ParseC)(c_LexV:a_LexV→Option g_LexV)(c_Lookup:a_Lookup→Option g_Lookup)(c_occursZ:a_occursZ→Option g_occursZ)(c_sound:a_sound→Option g_sound)(c_Lives:a_Lives→Option g_Lives)(q:Nat)(x:a_Follows):Follows_l2_a→Option Follows_l2_g:=lpG (fun y=>Follows_l2_t c_ParseC c_LexV c_Lookup c_occursZ c_sound c_Lives x y (fun y=>some (.inl y)) (fun z=>some (.inr z))) q
theorem Follows_l2_s(c_ParseC)(h_ParseC:Lw E5 8 A_ParseC R_ParseC c_ParseC)(c_LexV)(h_LexV:Lw E5 13 A_LexV R_LexV c_LexV)(c_Lookup)(h_Lookup:Lw E5 16 A_Lookup R_Lookup c_Lookup)(c_occursZ)(h_occursZ:Lw E5 14 A_occursZ R_occursZ c_occursZ)(c_sound)(h_sound:Lw E5 15 A_sound R_sound c_sound)(c_Lives)(h_Lives:Lw E5 10 A_Lives R_Lives c_Lives)(q:Nat)(x:a_Follows):Ll E5 (bodyOf E5 7 2) (Follows_l2_S x) (Follows_l2_T x) (Follows_l2 c_ParseC c_LexV c_Lookup c_occursZ c_sound c_Lives q x):=
 slp (fk h_ParseC (fk h_LexV (fk h_Lookup (fk h_occursZ (fk h_sound (fk h_Lives ca0_sound)))))) hX5 (fun lo y=>(Follows_l2_r c_ParseC c_LexV c_Lookup c_occursZ c_sound c_Lives x y lo).trans (by rw[v_ParseC,v_LexV,v_Lookup,v_occursZ,v_sound,v_Lives];exact Follows_l2_n _ _ _ _ _ _ _ _ _ _)) (fun z=>by rcases z with z|z<;>kernel_rfl) q
abbrev Follows_l0_a:Type:=Nat×FS×FN×(Nat→Nat→ByteArray)×(Nat→Nat→ByteArray)×FI×FI×FS×FN×FM×Nat×FI×FI×FS×FI×Int
abbrev Follows_l0_g:Type:=(Unit)⊕(Unit)
def Follows_l0_S(x:a_Follows)(y:Follows_l0_a):St:={fr:=[V.junk,V.junk,V.junk,V.ro 6 y.1 fun j=>[st (y.2.1 j),V.ro 2 (y.2.2.1 j) fun j_1=>[st (y.2.2.2.1 j j_1),st (y.2.2.2.2.1 j j_1)],i64 (y.2.2.2.2.2.1 j),i64 (y.2.2.2.2.2.2.1 j),st (y.2.2.2.2.2.2.2.1 j),V.ro 4 (y.2.2.2.2.2.2.2.2.1 j) (y.2.2.2.2.2.2.2.2.2.1 j)],V.junk,V.junk,V.ro 4 y.2.2.2.2.2.2.2.2.2.2.1 fun j=>[i64 (y.2.2.2.2.2.2.2.2.2.2.2.1 j),i64 (y.2.2.2.2.2.2.2.2.2.2.2.2.1 j),st (y.2.2.2.2.2.2.2.2.2.2.2.2.2.1 j),i64 (y.2.2.2.2.2.2.2.2.2.2.2.2.2.2.1 j)],V.junk,V.junk,i64 y.2.2.2.2.2.2.2.2.2.2.2.2.2.2.2]++jk 98,H:=hp [],nx:=0,rt:=0,me:=7}
def Follows_l0_d(s:St):Follows_l0_a:=((vRoN (s.fr.getD 3 .junk)),dTS (s.fr.getD 3 .junk) 0,dTN (s.fr.getD 3 .junk) 1,(fun j=>fun i=>vS (((vRoF (((vRoF (s.fr.getD 3 .junk)) j).getD 1 .junk)) i).getD 0 .junk)),(fun j=>fun i=>vS (((vRoF (((vRoF (s.fr.getD 3 .junk)) j).getD 1 .junk)) i).getD 1 .junk)),dTI (s.fr.getD 3 .junk) 2,dTI (s.fr.getD 3 .junk) 3,dTS (s.fr.getD 3 .junk) 4,dTN (s.fr.getD 3 .junk) 5,dTF (s.fr.getD 3 .junk) 5,vRoN (s.fr.getD 6 .junk),dTI (s.fr.getD 6 .junk) 0,dTI (s.fr.getD 6 .junk) 1,dTS (s.fr.getD 6 .junk) 2,dTI (s.fr.getD 6 .junk) 3,vI (s.fr.getD 9 .junk))
theorem Follows_l0_u(x:a_Follows):VL (Follows_l0_S x):=vl Follows_l0_d fun _=>rfl
def Follows_l0_T(x:a_Follows):Follows_l0_g→Ex×St:=(Sum.elim (fun z=>(Ex.ret,{fr:=[V.junk,V.junk,bo false]++jk 105,H:=hp [],nx:=0,rt:=0,me:=7})) (fun z=>(Ex.exit 0,{fr:=[V.junk]++jk 107,H:=hp [],nx:=0,rt:=0,me:=7})))
def Follows_l0_t{β:Type}(c_ParseC:a_ParseC→Option g_ParseC)(c_LexV:a_LexV→Option g_LexV)(c_Lookup:a_Lookup→Option g_Lookup)(c_occursZ:a_occursZ→Option g_occursZ)(c_sound:a_sound→Option g_sound)(c_Lives:a_Lives→Option g_Lives)(l_Follows_l2:Follows_l2_a→Option Follows_l2_g)(x:a_Follows)(y:Follows_l0_a)(nx:Follows_l0_a→Option β)(dn:Follows_l0_g→Option β):Option β:=
 if decide (y.2.2.2.2.2.2.2.2.2.2.2.2.2.2.2< ((y.1:Nat):Int))=true then if 0≤y.2.2.2.2.2.2.2.2.2.2.2.2.2.2.2∧y.2.2.2.2.2.2.2.2.2.2.2.2.2.2.2< ((y.1:Nat):Int)then(c_occursZ (0,0,y.2.1 (Int.toNat y.2.2.2.2.2.2.2.2.2.2.2.2.2.2.2),y.2.2.2.2.2.2.2.2.2.2.1,y.2.2.2.2.2.2.2.2.2.2.2.1,y.2.2.2.2.2.2.2.2.2.2.2.2.1,y.2.2.2.2.2.2.2.2.2.2.2.2.2.1,y.2.2.2.2.2.2.2.2.2.2.2.2.2.2.1)).bind fun z416=>if(!z416)=true then dn (.inl ())else if 0≤y.2.2.2.2.2.2.2.2.2.2.2.2.2.2.2∧y.2.2.2.2.2.2.2.2.2.2.2.2.2.2.2< ((y.1:Nat):Int)then(c_sound (y.2.2.2.2.2.1 (Int.toNat y.2.2.2.2.2.2.2.2.2.2.2.2.2.2.2),y.2.2.2.2.2.2.1 (Int.toNat y.2.2.2.2.2.2.2.2.2.2.2.2.2.2.2),y.2.2.2.2.2.2.2.1 (Int.toNat y.2.2.2.2.2.2.2.2.2.2.2.2.2.2.2),y.2.2.2.2.2.2.2.2.1 (Int.toNat y.2.2.2.2.2.2.2.2.2.2.2.2.2.2.2),y.2.2.2.2.2.2.2.2.2.1 (Int.toNat y.2.2.2.2.2.2.2.2.2.2.2.2.2.2.2),y.2.2.2.2.2.2.2.2.2.2.1,y.2.2.2.2.2.2.2.2.2.2.2.1,y.2.2.2.2.2.2.2.2.2.2.2.2.1,y.2.2.2.2.2.2.2.2.2.2.2.2.2.1,y.2.2.2.2.2.2.2.2.2.2.2.2.2.2.1)).bind fun z427=>if(!z427)=true then dn (.inl ())else(l_Follows_l2 (y.1,y.2.1,y.2.2.1,y.2.2.2.1,y.2.2.2.2.1,y.2.2.2.2.2.1,y.2.2.2.2.2.2.1,y.2.2.2.2.2.2.2.1,y.2.2.2.2.2.2.2.2.1,y.2.2.2.2.2.2.2.2.2.1,y.2.2.2.2.2.2.2.2.2.2.1,y.2.2.2.2.2.2.2.2.2.2.2.1,y.2.2.2.2.2.2.2.2.2.2.2.2.1,y.2.2.2.2.2.2.2.2.2.2.2.2.2.1,y.2.2.2.2.2.2.2.2.2.2.2.2.2.2.1,y.2.2.2.2.2.2.2.2.2.2.2.2.2.2.2,0)).bind fun z584=>Sum.elim (fun z584a=>dn (.inl ())) (fun z584b=>nx (z584b.1,z584b.2.1,z584b.2.2.1,z584b.2.2.2.1,z584b.2.2.2.2.1,z584b.2.2.2.2.2.1,z584b.2.2.2.2.2.2.1,z584b.2.2.2.2.2.2.2.1,z584b.2.2.2.2.2.2.2.2.1,z584b.2.2.2.2.2.2.2.2.2.1,z584b.2.2.2.2.2.2.2.2.2.2.1,z584b.2.2.2.2.2.2.2.2.2.2.2.1,z584b.2.2.2.2.2.2.2.2.2.2.2.2.1,z584b.2.2.2.2.2.2.2.2.2.2.2.2.2.1,z584b.2.2.2.2.2.2.2.2.2.2.2.2.2.2.1,w (z584b.2.2.2.2.2.2.2.2.2.2.2.2.2.2.2+1))) z584 else none else none else dn (.inr ())
theorem Follows_l0_n{β:Type}(c_ParseC c_LexV)(c_Lookup c_occursZ)(c_sound c_Lives)(l_Follows_l2)(x)(y)(nx:Follows_l0_a→Option β)(dn):Follows_l0_t c_ParseC c_LexV c_Lookup c_occursZ c_sound c_Lives l_Follows_l2 x y nx dn=(Follows_l0_t c_ParseC c_LexV c_Lookup c_occursZ c_sound c_Lives l_Follows_l2 x y (fun y=>some (.inl y)) (fun z=>some (.inr z))).bind fun r=>Sum.elim nx dn r:=by
 unfold Follows_l0_t
 repeat' first|exact n0|refine n1 fun _=>?_|refine n2 ?_ ?_|refine n3 (fun _=>?_) fun _=>?_|rfl
theorem Follows_l0_r(c_ParseC c_LexV)(c_Lookup c_occursZ)(c_sound c_Lives)(l_Follows_l2)(x)(y)(lo:LoopT):loopK E5 (ftb 8 A_ParseC R_ParseC c_ParseC (ftb 13 A_LexV R_LexV c_LexV (ftb 16 A_Lookup R_Lookup c_Lookup (ftg 14 (fun a _=>isNilV ((vAg (a.getD 0 .junk)).getD 3 .junk)) A_occursZ R_occursZ c_occursZ (ftb 15 A_sound R_sound c_sound (ftb 10 A_Lives R_Lives c_Lives ca0)))))) (lt2 2 (fun _=>true) (bodyOf E5 7 2) (Follows_l2_S x) (Follows_l2_T x) l_Follows_l2 lo) 0 584 (bodyOf E5 7 0) (Follows_l0_S x y) (KCM [(0,0)] 4)=Follows_l0_t (vf A_ParseC c_ParseC) (vf A_LexV c_LexV) (vf A_Lookup c_Lookup) (vf A_occursZ c_occursZ) (vf A_sound c_sound) (vf A_Lives c_Lives) (lf (bodyOf E5 7 2) (Follows_l2_S x) l_Follows_l2) x y (fun y=>lo 0 584 (bodyOf E5 7 0) (Follows_l0_S x y) (KCM [(0,0)] 4)) (fun z=>some (.l (Follows_l0_T x z).1 (Follows_l0_T x z).2)):=by kernel_rfl
noncomputable def Follows_l0(c_ParseC:a_ParseC→Option g_ParseC)(c_LexV:a_LexV→Option g_LexV)(c_Lookup:a_Lookup→Option g_Lookup)(c_occursZ:a_occursZ→Option g_occursZ)(c_sound:a_sound→Option g_sound)(c_Lives:a_Lives→Option g_Lives)(q:Nat)(x:a_Follows):Follows_l0_a→Option Follows_l0_g:=lpG (fun y=>Follows_l0_t c_ParseC c_LexV c_Lookup c_occursZ c_sound c_Lives (Follows_l2 c_ParseC c_LexV c_Lookup c_occursZ c_sound c_Lives q x) x y (fun y=>some (.inl y)) (fun z=>some (.inr z))) q
theorem Follows_l0_s(c_ParseC)(h_ParseC:Lw E5 8 A_ParseC R_ParseC c_ParseC)(c_LexV)(h_LexV:Lw E5 13 A_LexV R_LexV c_LexV)(c_Lookup)(h_Lookup:Lw E5 16 A_Lookup R_Lookup c_Lookup)(c_occursZ)(h_occursZ:Lw E5 14 A_occursZ R_occursZ c_occursZ)(c_sound)(h_sound:Lw E5 15 A_sound R_sound c_sound)(c_Lives)(h_Lives:Lw E5 10 A_Lives R_Lives c_Lives)(q:Nat)(x:a_Follows):Ll E5 (bodyOf E5 7 0) (Follows_l0_S x) (Follows_l0_T x) (Follows_l0 c_ParseC c_LexV c_Lookup c_occursZ c_sound c_Lives q x):=
 SL.lp (LT:=fun lo=>(lt2 2 (fun _=>true) (bodyOf E5 7 2) (Follows_l2_S x) (Follows_l2_T x) (Follows_l2 c_ParseC c_LexV c_Lookup c_occursZ c_sound c_Lives q x) lo)) (T:=Follows_l0_T x) (S:=Follows_l0_S x) (fk h_ParseC (fk h_LexV (fk h_Lookup (fk h_occursZ (fk h_sound (fk h_Lives ca0_sound)))))) hX5 (fun lo h=>(lk2 (Follows_l2_s c_ParseC h_ParseC c_LexV h_LexV c_Lookup h_Lookup c_occursZ h_occursZ c_sound h_sound c_Lives h_Lives q x) h)) (fun lo y=>(Follows_l0_r c_ParseC c_LexV c_Lookup c_occursZ c_sound c_Lives (Follows_l2 c_ParseC c_LexV c_Lookup c_occursZ c_sound c_Lives q x) x y lo).trans (by rw[v_ParseC,v_LexV,v_Lookup,v_occursZ,v_sound,v_Lives,Follows_l2_u];exact Follows_l0_n _ _ _ _ _ _ _ _ _ _ _)) (fun z=>by rcases z with z|z<;>kernel_rfl) q
def t_Follows{β:Type}(c_ParseC:a_ParseC→Option g_ParseC)(c_LexV:a_LexV→Option g_LexV)(c_Lookup:a_Lookup→Option g_Lookup)(c_occursZ:a_occursZ→Option g_occursZ)(c_sound:a_sound→Option g_sound)(c_Lives:a_Lives→Option g_Lives)(l_Follows_l0:Follows_l0_a→Option Follows_l0_g)(x:a_Follows)(dn:g_Follows→Option β):Option β:=
 (c_ParseC x).bind fun z1=>(c_LexV x).bind fun z3=>if(z1.2.2.2.2.2.2.2.2.2.2.2 !=0)=true then(c_Lives ()).bind fun z4=>dn z4 else(l_Follows_l0 (z1.1,z1.2.1,z1.2.2.1,z1.2.2.2.1,z1.2.2.2.2.1,z1.2.2.2.2.2.1,z1.2.2.2.2.2.2.1,z1.2.2.2.2.2.2.2.1,z1.2.2.2.2.2.2.2.2.1,z1.2.2.2.2.2.2.2.2.2.1,z3.1,z3.2.1,z3.2.2.1,z3.2.2.2.1,z3.2.2.2.2.1,0)).bind fun z402=>Sum.elim (fun z402a=>dn false) (fun z402b=>(c_Lives ()).bind fun z404=>dn z404) z402
theorem n_Follows{β:Type}(c_ParseC c_LexV)(c_Lookup c_occursZ)(c_sound c_Lives)(l_Follows_l0)(x)(dn:g_Follows→Option β):t_Follows c_ParseC c_LexV c_Lookup c_occursZ c_sound c_Lives l_Follows_l0 x dn=(t_Follows c_ParseC c_LexV c_Lookup c_occursZ c_sound c_Lives l_Follows_l0 x some).bind dn:=by
 unfold t_Follows
 repeat' first|exact n0|refine n1 fun _=>?_|refine n2 ?_ ?_|refine n3 (fun _=>?_) fun _=>?_|rfl
theorem r_Follows(c_ParseC c_LexV)(c_Lookup c_occursZ)(c_sound c_Lives)(l_Follows_l0)(x):callK E5 (ftb 8 A_ParseC R_ParseC c_ParseC (ftb 13 A_LexV R_LexV c_LexV (ftb 16 A_Lookup R_Lookup c_Lookup (ftg 14 (fun a _=>isNilV ((vAg (a.getD 0 .junk)).getD 3 .junk)) A_occursZ R_occursZ c_occursZ (ftb 15 A_sound R_sound c_sound (ftb 10 A_Lives R_Lives c_Lives ca0)))))) (lt2 0 (fun _=>true) (bodyOf E5 7 0) (Follows_l0_S x) (Follows_l0_T x) l_Follows_l0 lo0) 7 (A_Follows x).1 (A_Follows x).2 K=t_Follows (vf A_ParseC c_ParseC) (vf A_LexV c_LexV) (vf A_Lookup c_Lookup) (vf A_occursZ c_occursZ) (vf A_sound c_sound) (vf A_Lives c_Lives) (lf (bodyOf E5 7 0) (Follows_l0_S x) l_Follows_l0) x (fun z=>some (.c (R_Follows z))):=by kernel_rfl
theorem s_Follows(c_ParseC)(h_ParseC:Lw E5 8 A_ParseC R_ParseC c_ParseC)(c_LexV)(h_LexV:Lw E5 13 A_LexV R_LexV c_LexV)(c_Lookup)(h_Lookup:Lw E5 16 A_Lookup R_Lookup c_Lookup)(c_occursZ)(h_occursZ:Lw E5 14 A_occursZ R_occursZ c_occursZ)(c_sound)(h_sound:Lw E5 15 A_sound R_sound c_sound)(c_Lives)(h_Lives:Lw E5 10 A_Lives R_Lives c_Lives)(q:Nat):Lw E5 7 A_Follows R_Follows fun x=>t_Follows c_ParseC c_LexV c_Lookup c_occursZ c_sound c_Lives (Follows_l0 c_ParseC c_LexV c_Lookup c_occursZ c_sound c_Lives q x) x some:=sof hW5 hX5 (fk h_ParseC (fk h_LexV (fk h_Lookup (fk h_occursZ (fk h_sound (fk h_Lives ca0_sound)))))) (fun x=>(lk2 (Follows_l0_s c_ParseC h_ParseC c_LexV h_LexV c_Lookup h_Lookup c_occursZ h_occursZ c_sound h_sound c_Lives h_Lives q x) lo0_sound)) fun x=>(r_Follows c_ParseC c_LexV c_Lookup c_occursZ c_sound c_Lives (Follows_l0 c_ParseC c_LexV c_Lookup c_occursZ c_sound c_Lives q x) x).trans (by rw[v_ParseC,v_LexV,v_Lookup,v_occursZ,v_sound,v_Lives,Follows_l0_u,n_Follows]<;>rfl)
end Go.Proofs.YtjfkkokeegpeiaaDoor
/- Plain: the parser looks at no token behind those that it takes, but for one; tokens that are moved, or of which only the offsets differ, are parsed alike; more fuel does no harm. -/
namespace Go.Proofs.Lx
open Go
def PS.up(d:Nat)(s:PS):PS:={s with p:=d+s.p}
def PR.up{α:Type}(d:Nat):PR α→PR α
 | .ok x s=>.ok x (s.up d)
 | .err p c=>.err (d+p) c
 | .out=>.out
def Ee{α:Type}(b:Nat):PR α→Nat
 | .ok _ s=>s.p+b
 | .err p _=>p+1
 | .out=>0
structure Lc{α:Type}(b d e p:Nat)(f g:PR α):Prop where
 gr:f≠ .out→p<Ee b f
 eq:f≠ .out→Ee b f≤e→g=f.up d
variable {α β:Type} {b b' d e p:Nat}
theorem Lc.out{g:PR α}:Lc b d e p (.out:PR α) g:=⟨fun h=>absurd rfl h,fun h=>absurd rfl h⟩
theorem Lc.err{q:Nat}{c:Int}(h:p≤q):Lc b d e p (.err q c:PR α) (.err (d+q) c):=⟨fun _=>Nat.lt_succ_of_le h,fun _ _=>rfl⟩
theorem Lc.one{f g:PR α}(h:Lc 0 d e p f g):Lc 1 d e p f g:=by
 refine⟨fun h0=>?_,fun h0 h1=>h.eq h0 ?_⟩
 ·have:=h.gr h0;cases f<;>simp only[Ee]at this⊢ <;>omega
 ·cases f<;>simp only[Ee]at h1⊢ <;>omega
theorem Lc.le{p':Nat}{f g:PR α}(h:Lc b d e p' f g)(hp:p≤p'):Lc b d e p f g:=⟨fun h0=>Nat.lt_of_le_of_lt hp (h.gr h0),h.eq⟩
theorem Lc.sub{f g g':PR α}(h:Lc b d e p f g')(hg:p<e→g=g'):Lc b d e p f g:=⟨h.gr,fun h0 h1=>(hg (Nat.lt_of_lt_of_le (h.gr h0) h1)).trans (h.eq h0 h1)⟩
theorem Lc.ite{c c':Prop}[Decidable c][Decidable c']{f g f' g':PR α}(hc:p<e→(c'↔c))(h1:c→Lc b d e p f g)(h2:¬c→Lc b d e p f' g'):Lc b d e p (if c then f else f') (if c' then g else g'):=by
 by_cases h:c
 ·rw[if_pos h]
  exact(h1 h).sub fun hp=>if_pos ((hc hp).2 h)
 ·rw[if_neg h]
  exact(h2 h).sub fun hp=>if_neg fun h'=>h ((hc hp).1 h')
theorem Lc.bind{r r':PR β}{k k':β→PS→PR α}(hb:b≤1)(h:Lc b d e p r r')(hk:∀a s,p≤s.p→Lc b' d e s.p (k a s) (k' a (s.up d))):Lc b' d e p (r.bind k) (r'.bind k'):=by
 cases r with
 |out=>exact Lc.out
 |err q c=>
  have h1:=h.gr (by simp)
  refine⟨fun _=>h1,fun _ h2=>?_⟩
  rw[h.eq (by simp) h2];rfl
 |ok a s=>
  have h1:p<s.p+b:=h.gr (by simp)
  have hs:=hk a s (by omega)
  refine⟨fun h0=>?_,fun h0 h2=>?_⟩
  ·have:=hs.gr h0
   show p<Ee b' (k a s)
   omega
  ·have h3:s.p<Ee b' (k a s):=hs.gr h0
   have h2':Ee b' (k a s)≤e:=h2
   rw[h.eq (by simp) (show s.p+b≤e by omega)]
   exact hs.eq h0 h2
theorem Lc.map{r r':PR β}(F:β→α)(G:PS→PS)(h:Lc b d e p r r')(h1:∀s,(G s).p=s.p)(h2:∀s:PS,G (s.up d)=(G s).up d):Lc b d e p (r.bind fun a s=>.ok (F a) (G s)) (r'.bind fun a s=>.ok (F a) (G s)):=by
 cases r with
 |out=>exact Lc.out
 |err q c=>
  refine⟨fun _=>h.gr (by simp),fun _ h2=>?_⟩
  rw[h.eq (by simp) h2];rfl
 |ok a s=>
  have h3:p<s.p+b:=h.gr (by simp)
  refine⟨fun _=>?_,fun _ h4=>?_⟩
  ·show p< (G s).p+b
   rw[h1];exact h3
  ·have h4:(G s).p+b≤e:=h4
   rw[h1]at h4
   rw[h.eq (by simp) h4]
   show PR.ok (F a) (G (s.up d))= .ok (F a) ((G s).up d)
   rw[h2]
end Go.Proofs.Lx
/- Plain: codes of errors are not 0; what a tree says occurs among the tokens. -/
namespace Go.Proofs.Lx
open Go
def Ob{α:Type}(P:α→Prop):PR α→Prop
 | .ok x _=>P x
 | .err _ c=>c≠0
 | .out=>True
variable {α β:Type}
theorem Ob.bind{P:β→Prop}{Q:α→Prop}{r:PR β}{k:β→PS→PR α}(h:Ob P r)(hk:∀a s,P a→Ob Q (k a s)):Ob Q (r.bind k):=by
 cases r with
 |out=>trivial
 |err p c=>exact h
 |ok a s=>exact hk a s h
theorem Ob.ite{P:α→Prop}{c:Prop}[Decidable c]{f g:PR α}(h1:c→Ob P f)(h2:¬c→Ob P g):Ob P (if c then f else g):=by
 by_cases h:c
 ·rw[if_pos h];exact h1 h
 ·rw[if_neg h];exact h2 h
mutual
def Snd(T:Nat→Tkn):Tr→Prop
 | .node k n s l=>(s=⟨#[]⟩∨∃j,(T j).t=s)∧(n=0∨k=16∨∃j,(T j).k=2∧(T j).n=n)∧(k=15→s=⟨#[]⟩∨unitP s=true)∧SndL T l
def SndL(T:Nat→Tkn):List Tr→Prop
 | []=>True
 |x::l=>Snd T x∧SndL T l
end
section
variable {T:Nat→Tkn} {s:PS}
def OcS(T:Nat→Tkn)(x:ByteArray):Prop:=∃j,(T j).t=x
def OcN(T:Nat→Tkn)(n:Int):Prop:=∃j,(T j).k=2∧(T j).n=n
theorem is_oc{w:ByteArray}(h:isP T w s=true):OcS T w:=⟨s.p,of_decide_eq_true h⟩
theorem must_ob(w:ByteArray)(s:PS):Ob (fun _=>OcS T w) (mustP T w s):=Ob.ite (fun h=>is_oc h) fun _=>by show(11:Int)≠0;decide
theorem opens_ob(w:ByteArray)(s:PS):Ob (fun _=>OcS T w) (opensP T w s):=Ob.ite (fun h=>Ob.ite (fun _=>by show(2:Int)≠0;decide) fun _=>is_oc h) fun _=>by show(11:Int)≠0;decide
theorem name_ob(s:PS):Ob (OcS T) (nameP T s):=Ob.ite (fun _=>by show(11:Int)≠0;decide) fun _=>⟨s.p,rfl⟩
theorem decl_ob(s:PS):Ob (OcS T) (declP T s):=(name_ob s).bind fun x s1 hx=>Ob.ite (fun _=>by show(4:Int)≠0;decide) fun _=>Ob.ite (fun _=>by show(2:Int)≠0;decide) fun _=>hx
theorem num_ob(lo hi:Int)(s:PS):Ob (OcN T) (numP T lo hi s):=Ob.ite (fun _=>by show(11:Int)≠0;decide) fun h=>Ob.ite (fun _=>by show(5:Int)≠0;decide) fun _=>⟨s.p,Decidable.not_not.1 h,rfl⟩
theorem lit_ob(s:PS):Ob (Snd T) (litP T s):=(num_ob 0 2147483647 s).bind fun n s1 hn=>Ob.ite (fun h=>⟨.inr ⟨s1.p,rfl⟩,.inr (.inr hn),fun _=>.inr h.2,trivial⟩) fun _=>⟨.inl rfl,.inr (.inr hn),fun _=>.inl rfl,trivial⟩
theorem snd_k{k:Int}{x:ByteArray}{l:List Tr}(hk:k≠15)(hx:x=⟨#[]⟩∨OcS T x)(hl:SndL T l):Snd T (.node k 0 x l):=⟨hx,.inl rfl,fun h=>absurd h hk,hl⟩
theorem snd_n{k n:Int}{l:List Tr}(hk:k≠15)(hn:OcN T n)(hl:SndL T l):Snd T (.node k n ⟨#[]⟩ l):=⟨.inl rfl,.inr (.inr hn),fun h=>absurd h hk,hl⟩
theorem sndL0:SndL T []:=trivial
theorem sndL1{a:Tr}(h:Snd T a):SndL T [a]:=⟨h,trivial⟩
theorem sndL2{a b:Tr}(h:Snd T a)(g:Snd T b):SndL T [a,b]:=⟨h,g,trivial⟩
theorem expr_ob:∀f,(∀lv s,Ob (Snd T) (exprP T f lv s))∧(∀lv n s,Snd T n→Ob (Snd T) (opsP T f lv n s))∧(∀w lv s,Ob (Snd T) (unaryP T f w lv s))∧(∀s,Ob (Snd T) (primP T f s))
 |0=>by
  refine⟨fun lv s=>?_,fun lv n s _=>?_,fun w lv s=>?_,fun s=>?_⟩
  ·rw[exprP];trivial
  ·rw[opsP];trivial
  ·rw[unaryP];trivial
  ·rw[primP];trivial
 |f+1=>by
  obtain⟨i1,i2,i3,i4⟩:=expr_ob f
  refine⟨fun lv s=>?_,fun lv n s hn=>?_,fun w lv s=>?_,fun s=>?_⟩
  ·rw[exprP]
   exact Ob.ite (fun _=>i3 _ _ _) fun _=>Ob.ite (fun _=>i3 _ _ _) fun _=>Ob.ite (fun _=>i4 s) fun _=>(i1 _ s).bind fun n s1 hn=>i2 lv n s1 hn
  ·rw[opsP]
   exact Ob.ite (fun _=>(i1 _ _).bind fun m s1 hm=>Ob.ite (fun _=>snd_k (by decide) (.inr ⟨s.p,rfl⟩) ⟨hn,hm,trivial⟩) fun _=>i2 lv _ s1 (snd_k (by decide) (.inr ⟨s.p,rfl⟩) ⟨hn,hm,trivial⟩)) fun _=>hn
  ·rw[unaryP]
   exact(opens_ob w s).bind fun _ s1 hw=>(i1 lv s1).bind fun n s2 hn=>snd_k (by decide) (.inr hw) ⟨hn,trivial⟩
  ·rw[primP]
   refine Ob.ite (fun _=>lit_ob s) fun _=>Ob.ite (fun _=>⟨.inl rfl,.inr (.inl rfl),fun h=>absurd h (by decide),trivial⟩) fun _=>Ob.ite (fun _=>snd_k (by decide) (.inl rfl) trivial) fun _=>Ob.ite (fun _=>?_) fun _=>Ob.ite (fun _=>?_) fun _=>?_
   ·exact(must_ob sDot (adv s)).bind fun _ s1 _=>(name_ob s1).bind fun x s2 hx=>snd_k (by decide) (.inr hx) trivial
   ·exact(opens_ob sLPar s).bind fun _ s1 _=>(i1 1 s1).bind fun n s2 hn=>(must_ob sRPar s2).bind fun _ s3 _=>hn
   ·exact(name_ob s).bind fun x s1 hx=>snd_k (by decide) (.inr hx) trivial
theorem end_ob{n:Tr}(hn:Snd T n)(s:PS):Ob (Snd T) (endP T n s):=(must_ob sSemi s).bind fun _ _ _=>hn
theorem set_ob{f:Nat}{k:Int}(hk:k≠15){x:ByteArray}(hx:OcS T x)(s:PS):Ob (Snd T) (setP T f k x s):=(must_ob sSet s).bind fun _ s1 _=>((expr_ob f).1 1 s1).bind fun n s2 hn=>end_ob (snd_k hk (.inr hx) (sndL1 hn)) s2
theorem one_ob{f:Nat}{k:Int}(hk:k≠15)(s:PS):Ob (Snd T) (oneP T f k s):=((expr_ob f).1 1 s).bind fun n s2 hn=>end_ob (snd_k hk (.inl rfl) (sndL1 hn)) s2
theorem amt_ob{k:Int}(hk:k≠15)(s:PS):Ob (Snd T) (amtP T k s):=(lit_ob s).bind fun n s2 hn=>end_ob (snd_k hk (.inl rfl) (sndL1 hn)) s2
theorem await_ob{f:Nat}(s:PS):Ob (Snd T) (awaitP T f s):=((expr_ob f).1 1 s).bind fun c s1 hc=>(must_ob w_within s1).bind fun _ s2 _=>(lit_ob s2).bind fun n s3 hn=>end_ob (snd_k (by decide) (.inl rfl) (sndL2 hc hn)) s3
theorem nmb_ob{k hi:Int}(hk:k≠15)(s:PS):Ob (Snd T) (nmbP T k hi s):=(num_ob 0 hi s).bind fun n s1 hn=>end_ob (snd_n hk hn sndL0) s1
theorem use_ob{k:Int}(hk:k≠15)(w:ByteArray)(s:PS):Ob (Snd T) (useP T k w s):=(num_ob 0 7 s).bind fun n s1 hn=>(must_ob w s1).bind fun _ s2 _=>(lit_ob s2).bind fun m s3 hm=>end_ob (snd_n hk hn (sndL1 hm)) s3
theorem stmt_ob:∀f,(∀s,Ob (Snd T) (blockP T f s))∧(∀s,Ob (SndL T) (stmtsP T f s))∧(∀s,Ob (Snd T) (stmtP T f s))
 |0=>by
  refine⟨fun s=>?_,fun s=>?_,fun s=>?_⟩
  ·rw[blockP];trivial
  ·rw[stmtsP];trivial
  ·rw[stmtP];trivial
 |f+1=>by
  obtain⟨i1,i2,i3⟩:=stmt_ob f
  refine⟨fun s=>?_,fun s=>?_,fun s=>?_⟩
  ·rw[blockP]
   exact(opens_ob sLBr s).bind fun _ s1 _=>(i2 s1).bind fun l s2 hl=>snd_k (by decide) (.inl rfl) hl
  ·rw[stmtsP]
   exact Ob.ite (fun _=>trivial) fun _=>(i3 s).bind fun n s1 hn=>(i2 s1).bind fun l s2 hl=>⟨hn,hl⟩
  ·rw[stmtP]
   refine Ob.ite (fun _=>(decl_ob _).bind fun x s1 hx=>set_ob (by decide) hx s1) fun _=>?_
   refine Ob.ite (fun _=>((expr_ob f).1 1 _).bind fun c s1 hc=>(i1 s1).bind fun y s2 hy=>Ob.ite (fun _=>(i1 _).bind fun n s3 hn=>snd_k (by decide) (.inl rfl) ⟨hc,hy,hn,trivial⟩) fun _=>snd_k (by decide) (.inl rfl) ⟨hc,hy,snd_k (by decide) (.inl rfl) trivial,trivial⟩) fun _=>?_
   refine Ob.ite (fun _=>(num_ob 1 100 _).bind fun n s1 hn=>(i1 s1).bind fun y s2 hy=>⟨.inl rfl,.inr (.inr hn),fun h=>absurd h (by decide),hy,trivial⟩) fun _=>?_
   refine Ob.ite (fun _=>await_ob _) fun _=>?_
   refine Ob.ite (fun _=>amt_ob (by decide) _) fun _=>?_
   refine Ob.ite (fun _=>amt_ob (by decide) _) fun _=>?_
   refine Ob.ite (fun _=>one_ob (by decide) _) fun _=>?_
   refine Ob.ite (fun _=>one_ob (by decide) _) fun _=>?_
   refine Ob.ite (fun _=>use_ob (by decide) _ _) fun _=>?_
   refine Ob.ite (fun _=>use_ob (by decide) _ _) fun _=>?_
   refine Ob.ite (fun _=>nmb_ob (by decide) _) fun _=>?_
   refine Ob.ite (fun _=>nmb_ob (by decide) _) fun _=>?_
   exact(name_ob s).bind fun x s1 hx=>set_ob (by decide) hx s1
def SndP(T:Nat→Tkn)(m:Prm):Prop:=OcS T m.x∧(m.u=⟨#[]⟩∨unitP m.u=true)
def SndC(T:Nat→Tkn)(c:Prc):Prop:=OcS T c.x∧(∀m∈c.ps,SndP T m)∧Snd T c.b
theorem prm_ob(s:PS):Ob (SndP T) (prmP T s):=by
 unfold prmP
 refine(decl_ob s).bind fun x s1 hx=>Ob.ite (fun _=>Ob.ite (fun _=>by show(11:Int)≠0;decide) fun _=>Ob.ite (fun _=>by show(10:Int)≠0;decide) fun h=>⟨hx,.inr ?_⟩) fun _=>⟨hx,.inl rfl⟩
 simpa using h
theorem prms_ob:∀f s,Ob (fun l=>∀m∈l,SndP T m) (prmsP T f s)
 |0,s=>by rw[prmsP];trivial
 |f+1,s=>by
  rw[prmsP]
  refine(prm_ob s).bind fun x s1 hx=>Ob.ite (fun _=>(prms_ob f _).bind fun l s2 hl=>fun m hm=>?_) fun _=>(must_ob sRPar s1).bind fun _ s2 _=>fun m hm=>?_
  ·rcases List.mem_cons.1 hm with rfl|h
   ·exact hx
   ·exact hl m h
  ·rw[List.mem_singleton.1 hm];exact hx
theorem params_ob(f:Nat)(s:PS):Ob (fun l=>∀m∈l,SndP T m) (paramsP T f s):=(must_ob sLPar s).bind fun _ s1 _=>Ob.ite (fun _=>fun m hm=>nomatch hm) fun _=>prms_ob f s1
theorem proc_ob(f:Nat)(pr:List ByteArray)(s:PS):Ob (SndC T) (procP T f pr s):=(must_ob w_procedure s).bind fun _ s1 _=>(name_ob s1).bind fun x s2 hx=>Ob.ite (fun _=>by show(4:Int)≠0;decide) fun _=>(params_ob f _).bind fun l s3 hl=>((stmt_ob f).1 s3).bind fun b s4 hb=>⟨hx,hl,hb⟩
theorem procs_ob:∀f pr s,Ob (fun l=>∀c∈l,SndC T c) (procsP T f pr s)
 |0,pr,s=>by rw[procsP];trivial
 |f+1,pr,s=>by
  rw[procsP]
  refine Ob.ite (fun _=>fun c hc=>nomatch hc) fun _=>(proc_ob f pr s).bind fun x s1 hx=>(procs_ob f _ s1).bind fun l s2 hl=>fun c hc=>?_
  rcases List.mem_cons.1 hc with rfl|h
  ·exact hx
  ·exact hl c h
theorem procs_code{f:Nat}{pr:List ByteArray}{s:PS}{p:Nat}{c:Int}(h:procsP T f pr s= .err p c):c≠0:=by
 have:=procs_ob (T:=T) f pr s
 rw[h]at this
 exact this
end
end Go.Proofs.Lx
/- Plain: tokens joined by spaces are the same tokens. -/
namespace Go.Proofs.Lx
open Go
def same3(x y:Tkn):Prop:=x.k=y.k∧x.t=y.t∧x.n=y.n
inductive Same3:List Tkn→List Tkn→Prop where
 |nil:Same3 [] []
 |cons {x y:Tkn} {l m:List Tkn}:same3 x y→Same3 l m→Same3 (x::l) (y::m)
theorem Same3.len{l m:List Tkn}(h:Same3 l m):l.length=m.length:=by
 induction h with
 |nil=>rfl
 |cons _ _ ih=>simp[ih]
theorem Same3.get{l m:List Tkn}(h:Same3 l m):∀(i:Nat) (hi:i<l.length) (hj:i<m.length),same3 l[i] m[i]:=by
 induction h with
 |nil=>intro i hi;simp at hi
 |cons h1 _ ih=>
  intro i hi hj
  cases i with
  |zero=>exact h1
  |succ i=>exact ih i (by simpa using hi) (by simpa using hj)
end Go.Proofs.Lx
/- Spaces: the texts of the tokens, joined by spaces, are parsed alike. -/
namespace Go.Proofs.YtjfkkokeegpeiaaDoor
open Go Go.Am Go.Proofs.Lx
set_option maxRecDepth 100000
theorem lex_of{s:ByteArray}{r:List Tkn×Nat×Int}(h:TokensR s r)(h0:r.2.2=0):s.size≤4000∧Lex s 0 [] r:=by
 rcases h with⟨_,rfl⟩ |h
 ·cases h0
 ·exact h
theorem lex_szs{s:ByteArray}{p:Nat}{acc:List Tkn}{r:List Tkn×Nat×Int}(h:Lex s p acc r):(∀x∈acc,x.t.size≤s.size)→∀x∈r.1,x.t.size≤s.size:=by
 induction h with
 |fin _=>
  intro ha x hx
  rcases List.mem_append.1 hx with h|h
  ·exact ha x h
  ·simp only[List.mem_singleton]at h;subst h;exact Nat.zero_le _
 |white _ _ _ ih=>exact ih
 |hash _ _ _ ih=>exact ih
 |tok h1 h2 h3 h4 _ ih=>
  intro ha
  refine ih fun x hx=>?_
  rcases List.mem_append.1 hx with h|h
  ·exact ha x h
  ·simp only[List.mem_singleton]at h;subst h
   have:=(tokP_ok h1 h4).2.2.1
   rename_i x0 _
   exact Nat.le_trans (Nat.le_add_left _ _) this
 |err _ _ _ _ _=>intro _ x hx;cases hx
theorem tok_sizes{s:ByteArray}{acc:List Tkn}(h:TokensR s (acc++[endT s],0,0)):s.size≤4000∧acc.length≤4000∧∀j,(tokAt s acc j).t.size≤4000:=by
 obtain⟨h1,h2⟩:=lex_of h rfl
 have h3:=(tokN_tok h).big
 refine⟨h1,by omega,fun j=>?_⟩
 have h4:=lex_szs h2 (by simp)
 unfold tokAt
 rw[List.getD_eq_getElem?_getD]
 rcases Nat.lt_or_ge j acc.length with hj|hj
 ·rw[List.getElem?_eq_getElem hj]
  have:=h4 _ (List.mem_append_left _ (List.getElem_mem hj))
  show acc[j].t.size≤4000
  omega
 ·rw[List.getElem?_eq_none hj]
  exact Nat.zero_le _
theorem lexV_ok{s:ByteArray}{acc:List Tkn}(h:TokensR s (acc++[endT s],0,0))(q:Nat):LexV q s=some (acc.length+1,(fun j=>(tokAt s acc j).k),(fun j=>(tokAt s acc j).a),(fun j=>(tokAt s acc j).t),(fun j=>(tokAt s acc j).n),0,0):=by
 rcases tokens_law s 3000000000 (by decide)with⟨z,h1,h2,p,h3,h4⟩ | ⟨acc',h1,h2,h3⟩
 ·exact absurd (congrArg (fun r=>r.2.2) (tokR_det h4 h)) h2
 ·obtain rfl:=acc_inj h h3
  unfold LexV
  rw[h1]
  rfl
theorem lexV_err{s:ByteArray}{p:Nat}{e:Int}(h:TokensR s ([],p,e))(he:e≠0)(q:Nat):Rs (LexV q s) (fun z=>z.1=0∧z.2.2.2.2.2.2=e):=by
 rcases tokens_law0 s 3000000000 (by decide)with⟨z,h1,h2,h5,p',h3,h4⟩ | ⟨acc',h1,h2,h3⟩
 ·have e1:z.2.1=e:=congrArg (fun r=>r.2.2) (tokR_det h4 h)
  unfold LexV
  rw[h1]
  exact⟨_,rfl,h5,e1⟩
 ·exact absurd (congrArg (fun r=>r.2.2) (tokR_det h h3)) he
theorem lex_cases(s:ByteArray):(∃p e,TokensR s ([],p,e)∧e≠0)∨∃acc,TokensR s (acc++[endT s],0,0):=by
 rcases tokens_law s 3000000000 (by decide)with⟨z,h1,h2,p,h3,h4⟩ | ⟨acc',h1,h2,h3⟩
 ·exact .inl ⟨p,_,h4,h2⟩
 ·exact .inr ⟨acc',h3⟩
end Go.Proofs.YtjfkkokeegpeiaaDoor
/- The law of Concat. -/
namespace Go.Proofs.YtjfkkokeegpeiaaDoor
open Go Go.Am Go.Proofs.Lx
set_option maxRecDepth 400000
theorem ok_zero{s:ByteArray}{l:List Prc}{p e:Int}(h:ansP s=(l,p,e))(he:e=0):ParseR s (l,0,0):=by
 have hp:=ansP_ok s
 rw[h]at hp
 subst he
 generalize hr:(l,p,(0:Int))=r at hp
 cases hp with
 |lex p e h1 h2=>simp at hr;exact absurd hr.2.2.symm h2
 |err acc p c h1 h2 h3 h4=>simp at hr;exact absurd hr.2.2.symm (procs_code h4)
 |ok acc l' s' h1 h2 h3=>
  simp only[Prod.mk.injEq,and_true]at hr
  rw[hr.1]
  exact .ok acc l' s' h1 h2 h3
end Go.Proofs.YtjfkkokeegpeiaaDoor
/- Follows: names and numbers occur. -/
namespace Go.Proofs.YtjfkkokeegpeiaaDoor
open Go Go.Am Go.Proofs.Lx
set_option maxRecDepth 100000
theorem occursZ_loop{nk nn:Int}{ns:ByteArray}{N:Nat}{uk ua uv:FI}{ut:FS}(hN:N≤100000):∀(q i:Nat) (tx nu:Bool),i≤N→N<q+i→
 Rs (occursZ_l0 q (nk,nn,ns,N,uk,ua,ut,uv) (uk,ua,ut,uv,tx,nu,(i:Int))) (fun z=>((tx=true∨∃j,i≤j∧j<N∧ut j=ns)→z.1=true)∧((nu=true∨∃j,i≤j∧j<N∧uk j=2∧uv j=nn)→z.2=true))
 |0,i,tx,nu,hi,hq=>absurd hq (by omega)
 |q+1,i,tx,nu,hi,hq=>by
  refine Rs.step ?_
  unfold occursZ_l0_t
  dsimp only
  by_cases hin:i<N
  ·have key:∀tx' nu':Bool,(tx=true∨ut i=ns→tx'=true)→(nu=true∨(uk i=2∧uv i=nn)→nu'=true)→
    Rs (lpG (fun y=>occursZ_l0_t (nk,nn,ns,N,uk,ua,ut,uv) y (fun y=>some (.inl y)) (fun z=>some (.inr z))) q (uk,ua,ut,uv,tx',nu',w ((i:Int)+1))) (fun z=>((tx=true∨∃j,i≤j∧j<N∧ut j=ns)→z.1=true)∧((nu=true∨∃j,i≤j∧j<N∧uk j=2∧uv j=nn)→z.2=true)):=by
    intro tx' nu' h1 h2
    rw[w_succ (by omega)]
    refine(occursZ_loop hN q (i+1) tx' nu' (by omega) (by omega)).mono fun z hz=>⟨fun h=>hz.1 ?_,fun h=>hz.2 ?_⟩
    ·rcases h with h| ⟨j,j1,j2,j3⟩
     ·exact .inl (h1 (.inl h))
     ·rcases Nat.lt_or_ge i j with h4|h4
      ·exact .inr ⟨j,h4,j2,j3⟩
      ·obtain rfl:j=i:=by omega
       exact .inl (h1 (.inr j3))
    ·rcases h with h| ⟨j,j1,j2,j3,j4⟩
     ·exact .inl (h2 (.inl h))
     ·rcases Nat.lt_or_ge i j with h4|h4
      ·exact .inr ⟨j,h4,j2,j3,j4⟩
      ·obtain rfl:j=i:=by omega
       exact .inl (h2 (.inr ⟨j3,j4⟩))
   have hb:(0:Int)≤(i:Int)∧(i:Int)< (N:Int):=by omega
   refine Rs.pos (by rw[decide_eq_true_eq];omega) ?_
   rw[Int.toNat_natCast]
   refine Rs.ite (fun ht=>?_) fun ht=>Rs.pos hb ?_
   ·refine Rs.ite (fun hn=>Rs.some (key _ _ (fun _=>rfl) fun _=>rfl)) fun hn=>Rs.pos hb (Rs.ite (fun hk=>Rs.pos hb (Rs.some (key _ _ (fun _=>rfl) fun h=>?_))) fun hk=>Rs.some (key _ _ (fun _=>rfl) fun h=>?_))
    ·rcases h with h|h
     ·exact absurd h hn
     ·exact beq_iff_eq.2 h.2
    ·rcases h with h|h
     ·exact absurd h hn
     ·exact absurd (beq_iff_eq.2 h.1) hk
   ·have htx:tx=true∨ut i=ns→(ByteArray.toList (ut i)==ByteArray.toList ns)=true:=fun h=>by
     rcases h with h|h
     ·exact absurd h ht
     ·exact tl_eq.2 h
    refine Rs.ite (fun hn=>Rs.some (key _ _ htx fun _=>rfl)) fun hn=>Rs.pos hb (Rs.ite (fun hk=>Rs.pos hb (Rs.some (key _ _ htx fun h=>?_))) fun hk=>Rs.some (key _ _ htx fun h=>?_))
    ·rcases h with h|h
     ·exact absurd h hn
     ·exact beq_iff_eq.2 h.2
    ·rcases h with h|h
     ·exact absurd h hn
     ·exact absurd (beq_iff_eq.2 h.1) hk
  ·refine Rs.neg (by rw[decide_eq_true_eq];omega) (Rs.some ⟨fun h=>?_,fun h=>?_⟩)
   ·rcases h with h| ⟨j,j1,j2,j3⟩
    ·exact h
    ·omega
   ·rcases h with h| ⟨j,j1,j2,j3⟩
    ·exact h
    ·omega
theorem occursZ_true{nk nn:Int}{ns:ByteArray}{N:Nat}{uk ua uv:FI}{ut:FS}(hN:N≤100000){q:Nat}(hq:N<q)(h1:ns=⟨#[]⟩∨∃j,j<N∧ut j=ns)(h2:nn=0∨nk=16∨∃j,j<N∧uk j=2∧uv j=nn):
 Rs (occursZ q (nk,nn,ns,N,uk,ua,ut,uv)) (fun z=>z=true):=by
 unfold occursZ t_occursZ
 dsimp only
 have a1:(ByteArray.toList ns==ByteArray.toList ⟨#[]⟩)=true∨∃j,0≤j∧j<N∧ut j=ns:=h1.imp (fun h=>tl_eq.2 h) fun⟨j,a,b⟩=>⟨j,Nat.zero_le _,a,b⟩
 refine Rs.ite (fun h=>?_) fun h=>?_
 ·refine Rs.bind (occursZ_loop hN q 0 _ _ (Nat.zero_le _) (by omega)) fun z hz=>Rs.pos (hz.1 a1) (Rs.some (hz.2 (.inl rfl)))
 ·refine Rs.bind (occursZ_loop hN q 0 _ _ (Nat.zero_le _) (by omega)) fun z hz=>Rs.pos (hz.1 a1) (Rs.some (hz.2 ?_))
  rcases h2 with h2|h2| ⟨j,b1,b2,b3⟩
  ·exact absurd (beq_iff_eq.2 h2) h
  ·exact .inl (beq_iff_eq.2 h2)
  ·exact .inr ⟨j,Nat.zero_le _,b1,b2,b3⟩
theorem occurs_loop{nk nn:Int}{ns:ByteArray}{nm:Nat}{nf:FL}{N:Nat}{uk ua uv:FI}{ut:FS}(hN:N≤100000):∀(q i:Nat) (tx nu:Bool),i≤N→N<q+i→
 Rs (occurs_l0 q (nk,nn,ns,nm,nf,N,uk,ua,ut,uv) (uk,ua,ut,uv,tx,nu,(i:Int))) (fun z=>((tx=true∨∃j,i≤j∧j<N∧ut j=ns)→z.1=true)∧((nu=true∨∃j,i≤j∧j<N∧uk j=2∧uv j=nn)→z.2=true))
 |0,i,tx,nu,hi,hq=>absurd hq (by omega)
 |q+1,i,tx,nu,hi,hq=>by
  refine Rs.step ?_
  unfold occurs_l0_t
  dsimp only
  by_cases hin:i<N
  ·have key:∀tx' nu':Bool,(tx=true∨ut i=ns→tx'=true)→(nu=true∨(uk i=2∧uv i=nn)→nu'=true)→
    Rs (lpG (fun y=>occurs_l0_t (nk,nn,ns,nm,nf,N,uk,ua,ut,uv) y (fun y=>some (.inl y)) (fun z=>some (.inr z))) q (uk,ua,ut,uv,tx',nu',w ((i:Int)+1))) (fun z=>((tx=true∨∃j,i≤j∧j<N∧ut j=ns)→z.1=true)∧((nu=true∨∃j,i≤j∧j<N∧uk j=2∧uv j=nn)→z.2=true)):=by
    intro tx' nu' h1 h2
    rw[w_succ (by omega)]
    refine(occurs_loop hN q (i+1) tx' nu' (by omega) (by omega)).mono fun z hz=>⟨fun h=>hz.1 ?_,fun h=>hz.2 ?_⟩
    ·rcases h with h| ⟨j,j1,j2,j3⟩
     ·exact .inl (h1 (.inl h))
     ·rcases Nat.lt_or_ge i j with h4|h4
      ·exact .inr ⟨j,h4,j2,j3⟩
      ·obtain rfl:j=i:=by omega
       exact .inl (h1 (.inr j3))
    ·rcases h with h| ⟨j,j1,j2,j3,j4⟩
     ·exact .inl (h2 (.inl h))
     ·rcases Nat.lt_or_ge i j with h4|h4
      ·exact .inr ⟨j,h4,j2,j3,j4⟩
      ·obtain rfl:j=i:=by omega
       exact .inl (h2 (.inr ⟨j3,j4⟩))
   have hb:(0:Int)≤(i:Int)∧(i:Int)< (N:Int):=by omega
   refine Rs.pos (by rw[decide_eq_true_eq];omega) ?_
   rw[Int.toNat_natCast]
   refine Rs.ite (fun ht=>?_) fun ht=>Rs.pos hb ?_
   ·refine Rs.ite (fun hn=>Rs.some (key _ _ (fun _=>rfl) fun _=>rfl)) fun hn=>Rs.pos hb (Rs.ite (fun hk=>Rs.pos hb (Rs.some (key _ _ (fun _=>rfl) fun h=>?_))) fun hk=>Rs.some (key _ _ (fun _=>rfl) fun h=>?_))
    ·rcases h with h|h
     ·exact absurd h hn
     ·exact beq_iff_eq.2 h.2
    ·rcases h with h|h
     ·exact absurd h hn
     ·exact absurd (beq_iff_eq.2 h.1) hk
   ·have htx:tx=true∨ut i=ns→(ByteArray.toList (ut i)==ByteArray.toList ns)=true:=fun h=>by
     rcases h with h|h
     ·exact absurd h ht
     ·exact tl_eq.2 h
    refine Rs.ite (fun hn=>Rs.some (key _ _ htx fun _=>rfl)) fun hn=>Rs.pos hb (Rs.ite (fun hk=>Rs.pos hb (Rs.some (key _ _ htx fun h=>?_))) fun hk=>Rs.some (key _ _ htx fun h=>?_))
    ·rcases h with h|h
     ·exact absurd h hn
     ·exact beq_iff_eq.2 h.2
    ·rcases h with h|h
     ·exact absurd h hn
     ·exact absurd (beq_iff_eq.2 h.1) hk
  ·refine Rs.neg (by rw[decide_eq_true_eq];omega) (Rs.some ⟨fun h=>?_,fun h=>?_⟩)
   ·rcases h with h| ⟨j,j1,j2,j3⟩
    ·exact h
    ·omega
   ·rcases h with h| ⟨j,j1,j2,j3⟩
    ·exact h
    ·omega
theorem occurs_true{nk nn:Int}{ns:ByteArray}{nm:Nat}{nf:FL}{N:Nat}{uk ua uv:FI}{ut:FS}(hN:N≤100000){q:Nat}(hq:N<q)(h1:ns=⟨#[]⟩∨∃j,j<N∧ut j=ns)(h2:nn=0∨nk=16∨∃j,j<N∧uk j=2∧uv j=nn):
 Rs (occurs q (nk,nn,ns,nm,nf,N,uk,ua,ut,uv)) (fun z=>z=true):=by
 unfold occurs t_occurs
 dsimp only
 have a1:(ByteArray.toList ns==ByteArray.toList ⟨#[]⟩)=true∨∃j,0≤j∧j<N∧ut j=ns:=h1.imp (fun h=>tl_eq.2 h) fun⟨j,a,b⟩=>⟨j,Nat.zero_le _,a,b⟩
 refine Rs.ite (fun h=>?_) fun h=>?_
 ·refine Rs.bind (occurs_loop hN q 0 _ _ (Nat.zero_le _) (by omega)) fun z hz=>Rs.pos (hz.1 a1) (Rs.some (hz.2 (.inl rfl)))
 ·refine Rs.bind (occurs_loop hN q 0 _ _ (Nat.zero_le _) (by omega)) fun z hz=>Rs.pos (hz.1 a1) (Rs.some (hz.2 ?_))
  rcases h2 with h2|h2| ⟨j,b1,b2,b3⟩
  ·exact absurd (beq_iff_eq.2 h2) h
  ·exact .inl (beq_iff_eq.2 h2)
  ·exact .inr ⟨j,Nat.zero_le _,b1,b2,b3⟩
section
variable {s:ByteArray} {acc:List Tkn}
theorem oc_in{x:ByteArray}(h:OcS (tokAt s acc) x):x=⟨#[]⟩∨∃j,j<acc.length+1∧(tokAt s acc j).t=x:=by
 obtain⟨j,h⟩:=h
 rcases Nat.lt_or_ge j (acc.length+1)with hj|hj
 ·exact .inr ⟨j,hj,h⟩
 ·left
  rw[←h]
  unfold tokAt
  rw[List.getD_eq_getElem?_getD,List.getElem?_eq_none (by omega)]
  rfl
theorem on_in{n:Int}(h:OcN (tokAt s acc) n):∃j,j<acc.length+1∧(tokAt s acc j).k=2∧(tokAt s acc j).n=n:=by
 obtain⟨j,h,h2⟩:=h
 rcases Nat.lt_or_ge j (acc.length+1)with hj|hj
 ·exact⟨j,hj,h,h2⟩
 ·exfalso
  unfold tokAt at h
  rw[List.getD_eq_getElem?_getD,List.getElem?_eq_none (by omega)]at h
  exact absurd h (show¬(0:Int)=2 by decide)
abbrev tk5(s:ByteArray)(acc:List Tkn):Nat×FI×FI×FS×FI:=(acc.length+1,(fun j=>(tokAt s acc j).k),(fun j=>(tokAt s acc j).a),(fun j=>(tokAt s acc j).t),(fun j=>(tokAt s acc j).n))
abbrev arg5(t:NodeT)(u:Nat×FI×FI×FS×FI):a_sound:=(t.1,t.2.1,t.2.2.1,t.2.2.2.1,t.2.2.2.2,u)
noncomputable def knS(s:ByteArray)(acc:List Tkn)(n:Nat)(x:a_sound):Option Bool:=@ite _ (∃t,szT t<n∧szT t≤1000000000∧Snd (tokAt s acc) t∧x=arg5 (eT t) (tk5 s acc)) (Classical.propDecidable _) (some true) none
theorem kn_true{n:Nat}{t:Tr}(h:szT t<n)(hb:szT t≤1000000000)(hs:Snd (tokAt s acc) t):knS s acc n (arg5 (eT t) (tk5 s acc))=some true:=if_pos ⟨t,h,hb,hs,rfl⟩
theorem sndL_get{T:Nat→Tkn}:∀{l:List Tr} {j:Nat} {t:Tr},SndL T l→l[j]? =some t→Snd T t
 | [],j,t,_,h=>by simp at h
 |a::l,0,t,hl,h=>by simp only[List.getElem?_cons_zero,Option.some.injEq]at h;subst h;exact hl.1
 |a::l,j+1,t,hl,h=>sndL_get hl.2 (by simpa using h)
theorem kn_law(ha:acc.length≤4000):∀n,Lw E5 15 A_sound R_sound (knS s acc n)
 |0=>fun x z h=>by
  unfold knS at h
  rw[if_neg]at h
  ·cases h
  ·rintro⟨t,ht,_⟩;omega
 |n+1=>fun x z h=>by
  unfold knS at h
  split at h
  ·rename_i hc
   cases h
   obtain⟨t,ht,hbb,hs,rfl⟩:=hc
   obtain⟨k,v,b,l⟩:=t
   obtain⟨s1,s2,s3,s4⟩:=hs
   simp only[szT]at ht hbb
   have hlen:=szL_len l
   let kf:Nat→List V:=fun j=>(cellsL l).getD j dfl
   let x:a_soundN:=(k,v,b,l.length,opK kf,opN kf,opS kf,opM kf,opF kf,tk5 s acc)
   have hO:OpenN kf:=open_cells l
   have hloop:∀(q i:Nat),i≤l.length→l.length<q+i→Rs (soundN_l0 (Lookup 1000) (occurs 10000) (knS s acc n) q x (i:Int)) (fun z=>z= .inr ()):=by
    intro q
    induction q with
    |zero=>intro i h1 h2;omega
    |succ q ih=>
     intro i h1 h2
     refine Rs.step ?_
     unfold soundN_l0_t
     dsimp only
     by_cases hi:i<l.length
     ·refine Rs.pos (decide_eq_true (show((i:Nat):Int)< ((l.length:Nat):Int)by omega)) (Rs.pos (show(0:Int)≤((i:Nat):Int)∧((i:Nat):Int)< ((l.length:Nat):Int)by omega) ?_)
      rw[Int.toNat_natCast]
      have e1:l[i]? =some l[i]:=List.getElem?_eq_getElem hi
      have hsz:=(szL_get l i _ e1).1
      have e2:=kn_true (n:=n) (show szT l[i]<n by omega) (by omega) (sndL_get s4 e1)
      have e3:=op_get e1
      refine Rs.bind (Rs.of (show knS s acc n (opK kf i,opN kf i,opS kf i,opM kf i,opF kf i,tk5 s acc)=some true from ?_)) fun z ez=>?_
      ·rw[←e2,←e3]
      ·subst ez
       refine Rs.neg (by decide) (Rs.some ?_)
       rw[w_succ (by omega)]
       exact ih (i+1) (by omega) (by omega)
     ·exact Rs.neg (fun hh=>hi (Int.ofNat_lt.1 (of_decide_eq_true hh))) (Rs.some rfl)
   have hocc:∀f,Rs (occurs 10000 (k,v,b,l.length,f,tk5 s acc)) (fun z=>z=true):=fun f=>occurs_true (by omega) (by omega) (by
    rcases s1 with h|h
    ·exact .inl h
    ·exact oc_in h) (by
    rcases s2 with h|h|h
    ·exact .inl h
    ·exact .inr (.inl h)
    ·exact .inr (.inr (on_in h)))
   have hrun:t_soundN (Lookup 1000) (occurs 10000) (knS s acc n) (soundN_l0 (Lookup 1000) (occurs 10000) (knS s acc n) (l.length+1) x) x some=some true:=by
    refine Rs.eq ?_
    unfold t_soundN
    refine Rs.bind (Lookup_rs 1000 b) fun z1 hz1=>?_
    refine Rs.ite (fun hk=>Rs.ite (fun hb=>?_) fun hb=>?_) fun hk=>?_
    ·have hu:unitP b=true:=by
      rcases s3 (beq_iff_eq.1 hk)with h|h
      ·exfalso
       rw[show x.2.2.1=b from rfl,h]at hb
       exact absurd hb (by rw[beq_self_eq_true];decide)
      ·exact h
     rw[hz1,hu]
     refine Rs.neg (by decide) (Rs.bind (hocc _) fun z ez=>?_)
     subst ez
     refine Rs.neg (by decide) (Rs.bind (hloop (l.length+1) 0 (Nat.zero_le _) (by omega)) fun z ez=>?_)
     subst ez
     exact Rs.some rfl
    ·refine Rs.bind (hocc _) fun z ez=>?_
     subst ez
     refine Rs.neg (by decide) (Rs.bind (hloop (l.length+1) 0 (Nat.zero_le _) (by omega)) fun z ez=>?_)
     subst ez
     exact Rs.some rfl
    ·refine Rs.bind (hocc _) fun z ez=>?_
     subst ez
     refine Rs.neg (by decide) (Rs.bind (hloop (l.length+1) 0 (Nat.zero_le _) (by omega)) fun z ez=>?_)
     subst ez
     exact Rs.some rfl
   have hsc:=s_soundN (Lookup 1000) (sc_Lookup 1000) (occurs 10000) (sc_occurs 10000) (knS s acc n) (kn_law ha n) (l.length+1) x true hrun
   unfold A_soundN at hsc
   unfold A_sound
   simp only[x]at hsc⊢
   rw[open_eq hO]at hsc
   exact hsc
  ·cases h
end
end Go.Proofs.YtjfkkokeegpeiaaDoor
/- The law of Follows. -/
namespace Go.Proofs.YtjfkkokeegpeiaaDoor
open Go Go.Am Go.Proofs.Lx
set_option maxRecDepth 100000
section
variable {s:ByteArray} {acc:List Tkn} {l:List Prc}
abbrev fst5(l:List Prc)(s:ByteArray)(acc:List Tkn)(i:Int):Follows_l0_a:=(l.length,cX l,cQ l,cN l,cU l,(fun j=>(cT l j).1),(fun j=>(cT l j).2.1),(fun j=>(cT l j).2.2.1),(fun j=>(cT l j).2.2.2.1),(fun j=>(cT l j).2.2.2.2),acc.length+1,(fun j=>(tokAt s acc j).k),(fun j=>(tokAt s acc j).a),(fun j=>(tokAt s acc j).t),(fun j=>(tokAt s acc j).n),i)
abbrev fst6(l:List Prc)(s:ByteArray)(acc:List Tkn)(i k:Int):Follows_l2_a:=(l.length,cX l,cQ l,cN l,cU l,(fun j=>(cT l j).1),(fun j=>(cT l j).2.1),(fun j=>(cT l j).2.2.1),(fun j=>(cT l j).2.2.2.1),(fun j=>(cT l j).2.2.2.2),acc.length+1,(fun j=>(tokAt s acc j).k),(fun j=>(tokAt s acc j).a),(fun j=>(tokAt s acc j).t),(fun j=>(tokAt s acc j).n),i,k)
theorem fo_l2(ha:acc.length≤4000)(hl:l.length≤20000){i:Nat}(hi:i<l.length)(hc:SndC (tokAt s acc) l[i])(hb:l[i].ps.length≤20000){B:Nat}:∀(q k:Nat),k≤l[i].ps.length→l[i].ps.length<q+k→
 Rs (Follows_l2 (ParseC 1) (LexV 1) (Lookup 1000) (occursZ 10000) (knS s acc B) (Lives 1) q s (fst6 l s acc i k)) (fun z=>z= .inr (fst5 l s acc i))
 |0,k,hk,hq=>absurd hq (by omega)
 |q+1,k,hk,hq=>by
  have e0:l[i]? =some l[i]:=List.getElem?_eq_getElem hi
  have e1:cQ l i=l[i].ps.length:=by unfold cQ;rw[getD_of e0]
  have hbi:(0:Int)≤(i:Int)∧(i:Int)< (l.length:Int):=by omega
  refine Rs.step ?_
  unfold Follows_l2_t
  dsimp only[fst6]
  rw[Int.toNat_natCast,Int.toNat_natCast]
  refine Rs.pos hbi ?_
  by_cases hkp:k<l[i].ps.length
  ·have g1:l[i].ps[k]? =some l[i].ps[k]:=List.getElem?_eq_getElem hkp
   have a1:cN l i k=l[i].ps[k].x:=by unfold cN;rw[getD_of e0,getD_of g1]
   have a2:cU l i k=l[i].ps[k].u:=by unfold cU;rw[getD_of e0,getD_of g1]
   have hp:=hc.2.1 _ (List.getElem_mem hkp)
   have hbk:(0:Int)≤(k:Int)∧(k:Int)< (cQ l i:Int):=by omega
   have hoc:Rs (occursZ 10000 (0,0,cN l i k,acc.length+1,(fun j=>(tokAt s acc j).k),(fun j=>(tokAt s acc j).a),(fun j=>(tokAt s acc j).t),(fun j=>(tokAt s acc j).n))) (fun z=>z=true):=occursZ_true (by omega) (by omega) (by rw[a1];exact oc_in hp.1) (.inl rfl)
   have hnx:Rs (lpG (fun y=>Follows_l2_t (ParseC 1) (LexV 1) (Lookup 1000) (occursZ 10000) (knS s acc B) (Lives 1) s y (fun y=>some (.inl y)) (fun z=>some (.inr z))) q (fst6 l s acc i (w ((k:Int)+1)))) (fun z=>z= .inr (fst5 l s acc i)):=by
    rw[w_succ (by omega)]
    exact fo_l2 ha hl hi hc hb q (k+1) (by omega) (by omega)
   refine Rs.pos (by rw[decide_eq_true_eq];omega) (Rs.pos hbi (Rs.pos hbk (Rs.bind (Lookup_rs 1000 _) fun z hz=>Rs.pos hbi (Rs.pos hbk (Rs.ite (fun hu=>?_) fun hu=>?_)))))
   ·have hun:unitP (cU l i k)=true:=by
     rw[a2]at hu⊢
     rcases hp.2 with h|h
     ·rw[h]at hu
      exact absurd hu (by rw[beq_self_eq_true];decide)
     ·exact h
    rw[hz,hun]
    refine Rs.neg (by decide) (Rs.pos hbi (Rs.pos hbk (Rs.bind hoc fun z ez=>?_)))
    subst ez
    exact Rs.neg (by decide) (Rs.some hnx)
   ·refine Rs.pos hbi (Rs.pos hbk (Rs.bind hoc fun z ez=>?_))
    subst ez
    exact Rs.neg (by decide) (Rs.some hnx)
  ·exact Rs.neg (by rw[decide_eq_true_eq];omega) (Rs.some rfl)
theorem fo_l0(ha:acc.length≤4000)(hl:l.length≤20000)(hc:∀c∈l,SndC (tokAt s acc) c)(hb:∀c∈l,SmC 20000 c){q0:Nat}(hq0:30000≤q0):∀(q i:Nat),i≤l.length→l.length<q+i→
 Rs (lpG (fun y=>Follows_l0_t (ParseC 1) (LexV 1) (Lookup 1000) (occursZ 10000) (knS s acc 30000) (Lives 1) (Follows_l2 (ParseC 1) (LexV 1) (Lookup 1000) (occursZ 10000) (knS s acc 30000) (Lives 1) q0 s) s y (fun y=>some (.inl y)) (fun z=>some (.inr z))) q (fst5 l s acc i)) (fun z=>z= .inr ())
 |0,i,hi,hq=>absurd hq (by omega)
 |q+1,i,hi,hq=>by
  refine Rs.step ?_
  unfold Follows_l0_t
  dsimp only[fst5]
  by_cases hin:i<l.length
  ·have e0:l[i]? =some l[i]:=List.getElem?_eq_getElem hin
   have hbi:(0:Int)≤(i:Int)∧(i:Int)< (l.length:Int):=by omega
   have hci:=hc _ (List.getElem_mem hin)
   have hsi:=hb _ (List.getElem_mem hin)
   have a1:cX l i=l[i].x:=by unfold cX;rw[getD_of e0]
   have a2:cT l i=eT l[i].b:=by unfold cT;rw[getD_of e0]
   rw[Int.toNat_natCast,a1,a2]
   have hoc:Rs (occursZ 10000 (0,0,l[i].x,acc.length+1,(fun j=>(tokAt s acc j).k),(fun j=>(tokAt s acc j).a),(fun j=>(tokAt s acc j).t),(fun j=>(tokAt s acc j).n))) (fun z=>z=true):=occursZ_true (by omega) (by omega) (oc_in hci.1) (.inl rfl)
   refine Rs.pos (by rw[decide_eq_true_eq];omega) (Rs.pos hbi (Rs.bind hoc fun z ez=>?_))
   subst ez
   have hkn:=kn_true (s:=s) (acc:=acc) (n:=30000) (t:=l[i].b) (by have:=hsi.1;omega) (by have:=hsi.1;omega) hci.2.2
   refine Rs.neg (by decide) (Rs.pos hbi (Rs.bind (Rs.of hkn) fun z ez=>?_))
   subst ez
   refine Rs.neg (by decide) (Rs.bind (fo_l2 ha hl hin hci hsi.2 q0 0 (Nat.zero_le _) (by have:=hsi.2;omega)) fun z ez=>?_)
   subst ez
   refine Rs.some ?_
   dsimp only
   rw[w_succ (by omega)]
   exact fo_l0 ha hl hc hb hq0 q (i+1) (by omega) (by omega)
  ·exact Rs.neg (by rw[decide_eq_true_eq];omega) (Rs.some rfl)
end
theorem law_follows(s:ByteArray):SC E5 7 [st s] [] (.ret (bo true) []):=by
 rcases lex_cases s with⟨p,e,h1,h2⟩ | ⟨acc,h⟩
 ·have hrun:t_Follows (ParseC 1) (LexV 1) (Lookup 1000) (occursZ 10000) (knS s [] 0) (Lives 1) (Follows_l0 (ParseC 1) (LexV 1) (Lookup 1000) (occursZ 10000) (knS s [] 0) (Lives 1) 40000 s) s some=some true:=by
   refine Rs.eq ?_
   unfold t_Follows
   have hP:ansP s=([],(p:Int),e):=ansP_eq (.lex p e h1 h2)
   refine Rs.bind (Rs.of (show ParseC 1 s=some (0,cX [],cQ [],cN [],cU [],(fun j=>(cT [] j).1),(fun j=>(cT [] j).2.1),(fun j=>(cT [] j).2.2.1),(fun j=>(cT [] j).2.2.2.1),(fun j=>(cT [] j).2.2.2.2),(p:Int),e)by unfold ParseC;rw[hP];rfl)) fun z ez=>?_
   subst ez
   refine Rs.bind (lexV_err h1 h2 1) fun z hz=>Rs.pos (by simpa using h2) (Rs.bind (Rs.of (lives_true 1)) fun z e=>Rs.some e)
  have hsc:=s_Follows (ParseC 1) (sc_ParseC 1) (LexV 1) (sc_LexV 1) (Lookup 1000) (sc_Lookup 1000) (occursZ 10000) (sc_occursZ 10000) (knS s [] 0) (kn_law (Nat.zero_le _) 0) (Lives 1) (sc_Lives 1) 40000 s true hrun
  exact hsc
 ·have ha:=(tok_sizes h).2.1
  have hrun:t_Follows (ParseC 1) (LexV 1) (Lookup 1000) (occursZ 10000) (knS s acc 30000) (Lives 1) (Follows_l0 (ParseC 1) (LexV 1) (Lookup 1000) (occursZ 10000) (knS s acc 30000) (Lives 1) 40000 s) s some=some true:=by
   refine Rs.eq ?_
   unfold t_Follows
   obtain⟨l,p,e,hs⟩:∃l p e,ansP s=(l,p,e):=⟨_,_,_,rfl⟩
   refine Rs.bind (Rs.of (show ParseC 1 s=some (l.length,cX l,cQ l,cN l,cU l,(fun j=>(cT l j).1),(fun j=>(cT l j).2.1),(fun j=>(cT l j).2.2.1),(fun j=>(cT l j).2.2.2.1),(fun j=>(cT l j).2.2.2.2),p,e)by unfold ParseC;rw[hs])) fun z ez=>?_
   subst ez
   refine Rs.bind (Rs.of (lexV_ok h 1)) fun z ez=>?_
   subst ez
   refine Rs.ite (fun _=>Rs.bind (Rs.of (lives_true 1)) fun z e=>Rs.some e) fun h1=>?_
   have hP:=ok_zero hs (by simpa using h1)
   have hsm:=parse_small hP
   have hsd:∀c∈l,SndC (tokAt s acc) c:=by
    generalize hr:(l,(0:Int),(0:Int))=r at hP
    cases hP with
    |lex p e k1 k2=>simp at hr;exact absurd hr.2.2.symm k2
    |err acc' p c k1 k2 k3 k4=>simp at hr;exact absurd hr.2.2.symm (procs_code k4)
    |ok acc' l' s' k1 k2 k3=>
     obtain rfl:=acc_inj h k1
     simp only[Prod.mk.injEq,and_true]at hr
     subst hr
     have:=procs_ob (T:=tokAt s acc) fuelP [] ⟨0,0,[]⟩
     rw[k3]at this
     exact this
   refine Rs.bind (fo_l0 (s:=s) (acc:=acc) (l:=l) ha hsm.1 hsd hsm.2 (q0:=40000) (by decide) 40000 0 (Nat.zero_le _) (by have:l.length≤20000:=hsm.1;omega)) fun z ez=>?_
   subst ez
   exact Rs.bind (Rs.of (lives_true 1)) fun z e=>Rs.some e
  exact s_Follows (ParseC 1) (sc_ParseC 1) (LexV 1) (sc_LexV 1) (Lookup 1000) (sc_Lookup 1000) (occursZ 10000) (sc_occursZ 10000) (knS s acc 30000) (kn_law ha 30000) (Lives 1) (sc_Lives 1) 40000 s true hrun
theorem parserFollows(v0:V)(h0:WTV E.P 9 v0):∃l',LeL [v0] l'∧SC E 7 l' [] (.ret (bo true) []):=by
 obtain⟨s,rfl,_⟩:=h0.str (by kernel_rfl) (by kernel_rfl)
 exact⟨[st s],LeL.refl _,sc5.1 (law_follows s)⟩
end Go.Proofs.YtjfkkokeegpeiaaDoor

