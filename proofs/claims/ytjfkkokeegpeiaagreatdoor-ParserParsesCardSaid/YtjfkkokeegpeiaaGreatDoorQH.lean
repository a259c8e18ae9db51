/- Texts joined. -/
import Derived.Test.YtjfkkokeegpeiaaGreatDoorQG
import Derived.Test.YtjfkkokeegpeiaaGreatDoorQF
import Derived.Test.YtjfkkokeegpeiaaGreatDoorQE
/- The reference's parser against the plain one: statements that begin with a reserved word. -/
set_option linter.unusedSimpArgs false
set_option linter.unusedVariables false
namespace Go.Proofs.YtjfkkokeegpeiaaGreatDoor
open Go Go.Am Go.Proofs.Lx
set_option maxRecDepth 100000
section
variable {N:Nat} {T:Nat→Tkn} {s:PS} {x:g_rfail} {p:Nat} {c:Int}
theorem one_eq(q:Nat)(y:a_one):one q y=some y:=rfl
theorem isP_pos{b:ByteArray}(h:(T s.p).t=b):isP T b s=true:=decide_eq_true h
theorem isP_neg{b:ByteArray}(h:(T s.p).t≠b):¬isP T b s=true:=fun hh=>h (of_decide_eq_true hh)
theorem isP_off{a b:ByteArray}(h:(T s.p).t=a)(hab:a≠b):¬isP T b s=true:=fun hh=>hab (h.symm.trans (of_decide_eq_true hh))
theorem stmt_let(f:Nat)(e:(T s.p).t=w_let):stmtP T (f+1) s=(declP T (adv s)).bind fun x s1=>setP T f 1 x s1:=by
 rw[stmtP,if_pos (isP_pos e)]
theorem stmt_if(f:Nat)(e:(T s.p).t=w_if):stmtP T (f+1) s=brQ T f (adv s):=by
 rw[stmtP,if_neg (isP_off e (by decide)),if_pos (isP_pos e)]
 rfl
theorem stmt_repeat(f:Nat)(e:(T s.p).t=w_repeat):stmtP T (f+1) s=repQ T f (adv s):=by
 rw[stmtP,if_neg (isP_off e (by decide)),if_neg (isP_off e (by decide)),if_pos (isP_pos e)]
 rfl
theorem stmt_await(f:Nat)(e:(T s.p).t=w_await):stmtP T (f+1) s=awaitP T f (adv s):=by
 rw[stmtP,if_neg (isP_off e (by decide)),if_neg (isP_off e (by decide)),if_neg (isP_off e (by decide)),if_pos (isP_pos e)]
theorem stmt_wait(f:Nat)(e:(T s.p).t=w_wait):stmtP T (f+1) s=amtP T 5 (adv s):=by
 rw[stmtP,if_neg (isP_off e (by decide)),if_neg (isP_off e (by decide)),if_neg (isP_off e (by decide)),if_neg (isP_off e (by decide)),if_pos (isP_pos e)]
theorem stmt_keep(f:Nat)(e:(T s.p).t=w_keep):stmtP T (f+1) s=amtP T 11 (adv s):=by
 rw[stmtP,if_neg (isP_off e (by decide)),if_neg (isP_off e (by decide)),if_neg (isP_off e (by decide)),if_neg (isP_off e (by decide)),if_neg (isP_off e (by decide)),if_pos (isP_pos e)]
theorem stmt_require(f:Nat)(e:(T s.p).t=w_require):stmtP T (f+1) s=Lx.oneP T f 7 (adv s):=by
 rw[stmtP,if_neg (isP_off e (by decide)),if_neg (isP_off e (by decide)),if_neg (isP_off e (by decide)),if_neg (isP_off e (by decide)),if_neg (isP_off e (by decide)),if_neg (isP_off e (by decide)),if_pos (isP_pos e)]
theorem stmt_point(f:Nat)(e:(T s.p).t=w_point):stmtP T (f+1) s=Lx.oneP T f 8 (adv s):=by
 rw[stmtP,if_neg (isP_off e (by decide)),if_neg (isP_off e (by decide)),if_neg (isP_off e (by decide)),if_neg (isP_off e (by decide)),if_neg (isP_off e (by decide)),if_neg (isP_off e (by decide)),if_neg (isP_off e (by decide)),if_pos (isP_pos e)]
theorem stmt_use(f:Nat)(e:(T s.p).t=w_use):stmtP T (f+1) s=useP T 9 w_for (adv s):=by
 rw[stmtP,if_neg (isP_off e (by decide)),if_neg (isP_off e (by decide)),if_neg (isP_off e (by decide)),if_neg (isP_off e (by decide)),if_neg (isP_off e (by decide)),if_neg (isP_off e (by decide)),if_neg (isP_off e (by decide)),if_neg (isP_off e (by decide)),if_pos (isP_pos e)]
theorem stmt_send(f:Nat)(e:(T s.p).t=w_send):stmtP T (f+1) s=useP T 10 sComma (adv s):=by
 rw[stmtP,if_neg (isP_off e (by decide)),if_neg (isP_off e (by decide)),if_neg (isP_off e (by decide)),if_neg (isP_off e (by decide)),if_neg (isP_off e (by decide)),if_neg (isP_off e (by decide)),if_neg (isP_off e (by decide)),if_neg (isP_off e (by decide)),if_neg (isP_off e (by decide)),if_pos (isP_pos e)]
theorem stmt_emit(f:Nat)(e:(T s.p).t=w_emit):stmtP T (f+1) s=nmbP T 12 99 (adv s):=by
 rw[stmtP,if_neg (isP_off e (by decide)),if_neg (isP_off e (by decide)),if_neg (isP_off e (by decide)),if_neg (isP_off e (by decide)),if_neg (isP_off e (by decide)),if_neg (isP_off e (by decide)),if_neg (isP_off e (by decide)),if_neg (isP_off e (by decide)),if_neg (isP_off e (by decide)),if_neg (isP_off e (by decide)),if_pos (isP_pos e)]
theorem stmt_abort(f:Nat)(e:(T s.p).t=w_abort):stmtP T (f+1) s=nmbP T 13 999 (adv s):=by
 rw[stmtP,if_neg (isP_off e (by decide)),if_neg (isP_off e (by decide)),if_neg (isP_off e (by decide)),if_neg (isP_off e (by decide)),if_neg (isP_off e (by decide)),if_neg (isP_off e (by decide)),if_neg (isP_off e (by decide)),if_neg (isP_off e (by decide)),if_neg (isP_off e (by decide)),if_neg (isP_off e (by decide)),if_neg (isP_off e (by decide)),if_pos (isP_pos e)]
theorem stmt_no(f:Nat)(e0:(T s.p).t≠w_let)(e1:(T s.p).t≠w_if)(e2:(T s.p).t≠w_repeat)(e3:(T s.p).t≠w_await)(e4:(T s.p).t≠w_wait)(e5:(T s.p).t≠w_keep)(e6:(T s.p).t≠w_require)(e7:(T s.p).t≠w_point)(e8:(T s.p).t≠w_use)(e9:(T s.p).t≠w_send)(e10:(T s.p).t≠w_emit)(e11:(T s.p).t≠w_abort):stmtP T (f+1) s=(nameP T s).bind fun x s1=>setP T f 2 x s1:=by
 rw[stmtP,if_neg (isP_neg e0),if_neg (isP_neg e1),if_neg (isP_neg e2),if_neg (isP_neg e3),if_neg (isP_neg e4),if_neg (isP_neg e5),if_neg (isP_neg e6),if_neg (isP_neg e7),if_neg (isP_neg e8),if_neg (isP_neg e9),if_neg (isP_neg e10),if_neg (isP_neg e11)]
theorem XG.push(h:XG N T s x)(hl:s.vs.length<12)(a:ByteArray):XG N T {s with vs:=s.vs++[a]} (x.1,x.2.1,x.2.2.1,x.2.2.2.1,x.2.2.2.2.1,x.2.2.2.2.2.1,x.2.2.2.2.2.2.1,x.2.2.2.2.2.2.2.1,x.2.2.2.2.2.2.2.2.1,x.2.2.2.2.2.2.2.2.2.1+1,fun j=>if j<x.2.2.2.2.2.2.2.2.2.1 then x.2.2.2.2.2.2.2.2.2.2 j else a):=by
 obtain⟨l,v,rfl,h1,h2,h3,h4⟩:=h
 refine⟨l,_,?_,h1.push (x:=a),h2,h3,?_⟩
 ·show _=rst N T s.p _ 0 l (s.vs++[a]).length _
  rw[List.length_append]
  rfl
 ·show(s.vs++[a]).length≤12
  rw[List.length_append,List.length_singleton]
  omega
theorem XB.push(h:XB N T p c x)(n:Nat)(v:Nat→ByteArray):XB N T p c (x.1,x.2.1,x.2.2.1,x.2.2.2.1,x.2.2.2.2.1,x.2.2.2.2.2.1,x.2.2.2.2.2.2.1,x.2.2.2.2.2.2.2.1,x.2.2.2.2.2.2.2.2.1,n,v):=by
 obtain⟨h1,p',o,nv,v',rfl,hp⟩:=h
 exact⟨h1,p',o,n,v,rfl,hp⟩
theorem freshP_room{a:ByteArray}{s':PS}(hl:s.vs.length≤12)(h:freshP T s= .ok a s'):s'.vs=s.vs∧s'.vs.length<12:=by
 unfold freshP at h
 cases e:nameP T s with
 |ok b s1=>
  rw[e]at h
  dsimp only[PR.bind]at h
  obtain⟨e1,e2⟩:=nameP_vs e
  split at h
  ·cases h
  ·split at h
   ·cases h
   ·rename_i hne
    injection h with h1 h2
    rw[←h2,e1]
    exact⟨rfl,by omega⟩
 |err p c=>rw[e]at h;cases h
 |out=>rw[e]at h;cases h
theorem rworded_step(hT:TokN N T){f q:Nat}(hq:20≤q)(hE:HEq N T f (q+1))(hB:HBq N T f (q+1))(h:XG N T s x)(hk:(T s.p).k=1)(hres:Lx.resP (T s.p).t=true)(ho:stmtP T (f+1) s≠ .out):
 Rs (rworded (q+2) ((T s.p).t,x)) (PV N T pN RN (stmtP T (f+1) s)):=by
 show Rs ((t_rwordedR (rnameV (q+1)) (rmust (q+1)) (rexpr (q+1)) (rblock (q+1)) (rtake (q+1)) (rnumber (q+1)) (rliteral (q+1)) (one (q+1)) (rnumbered (q+1)) (endedK (q+1)) (endedO (q+1)) (rfail (q+1)) ((T s.p).t,x) some).map cv_rworded) _
 refine Rs.map (P:=PV N T (fun y=>pN (cv_rworded y)) (fun a y=>RN a (cv_rworded y)) (stmtP T (f+1) s)) ?_ fun z hz=>hz
 obtain⟨q',rfl⟩:∃k,q=k+1:=⟨q-1,by omega⟩
 unfold t_rwordedR
 by_cases e:(T s.p).t=w_let
 ·refine Rs.pos (tl_eq.2 e) ?_
  rw[stmt_let f e]at ho⊢
  have hp:=h.adv hT (.inl (by rw[e];decide))
  have e0:((declP T (adv s)).bind fun x s1=>setP T f 1 x s1)=(freshP T (adv s)).bind fun a s1=>(mustP T sSet {s1 with vs:=s1.vs++[a]}).bind fun _ s2=>(exprP T f 1 s2).bind fun n s3=>Lx.endP T (.node 1 0 a [n]) s3:=by
   rw[declP_eq,PR.bind_assoc]
   rfl
  rw[e0]at ho⊢
  obtain⟨z,hz1,hz2,hz3⟩:=rnameV_rs hT (q'+2) (by omega) hp
  have hl:(adv s).vs.length≤12:=hp.names.2.2
  rw[hz1]
  dsimp only[Option.bind_some]
  refine Rs.pos ⟨by rw[hz3];unfold roomBound;omega,by rw[hz3];unfold maxLen;omega,Nat.le_refl _⟩ ?_
  cases e1:freshP T (adv s)with
  |out=>rw[e1]at hz2;exact hz2.elim
  |err p c=>
   rw[e1]at hz2
   refine PV.err hz2.1 ?_
   have hb:XB N T p c z.2:=hz2.2
   exact Rs.bind (rmust_bq (q'+2) (hb.push _ _) sSet) fun v hb=>Rs.bind (rexpr_bq (q'+1) hb 1) fun v hb=>Rs.bind (endedK_bq (q'+2) (1,0,z.1,1,_) hb) fun v hb=>Rs.some hb
  |ok a s1=>
   rw[e1]at hz2 ho
   have ha:z.1=a:=hz2.1
   have hg:XG N T s1 z.2:=hz2.2
   obtain⟨r1,r2⟩:=freshP_room hl e1
   have hg2:=hg.push r2 z.1
   rw[ha]at hg2
   dsimp only[PR.bind]at ho⊢
   rw[ha]
   refine PV.seq (rmust_rs hT (q'+2) hg2 sSet (by decide)) (fun u s2 y e2 _ h2=>?_) (fun p c y hb=>?_)
   ·rw[e2]at ho
    refine PV.seq (hE f (Nat.le_refl _) 1 (by decide) (by decide) s2 y h2 (PR.bind_out (show(exprP T f 1 s2).bind _≠ .out from ho))) (fun t s3 v e3 hr h3=>?_) (fun p c v hb=>?_)
    ·exact PV.same (endedK_rs hT (q'+2) (RepN.ro1 hr) h3) (fun a z h=>h) (fun z=>rfl)
    ·exact Rs.bind (endedK_bq (q'+2) (1,0,_,1,_) hb) fun v hb=>Rs.some hb
   ·exact Rs.bind (rexpr_bq (q'+1) hb 1) fun v hb=>Rs.bind (endedK_bq (q'+2) (1,0,_,1,_) hb) fun v hb=>Rs.some hb
 have e0:=e
 clear e
 refine Rs.neg (fun hh=>e0 (tl_eq.1 hh)) ?_
 by_cases e:(T s.p).t=w_if
 ·refine Rs.pos (tl_eq.2 e) ?_
  rw[stmt_if f e]at ho⊢
  have hp:=h.adv hT (.inl (by rw[e];decide))
  unfold brQ at ho⊢
  refine PV.seq (hE f (Nat.le_refl _) 1 (by decide) (by decide) _ _ hp (PR.bind_out ho)) (fun t1 s1 z1 e1 hr1 h1=>?_) (fun p c z1 hb=>?_)
  ·rw[e1]at ho
   dsimp only[PR.bind]at ho
   refine PV.seq (hB f (Nat.le_refl _) s1 _ h1 (PR.bind_out ho)) (fun t2 s2 z2 e2 hr2 h2=>?_) (fun p c z2 hb=>?_)
   ·rw[e2]at ho
    dsimp only[PR.bind]at ho
    have h2:XG N T s2 z2.2.2.2.2.2:=h2
    rw[rtake_rq hT (q'+2) h2]
    dsimp only[Option.bind_some]
    by_cases hi:isP T w_else s2=true
    ·rw[if_pos hi]at ho
     refine Rs.pos hi ?_
     rw[if_pos hi,if_pos hi]
     refine PV.seq (hB f (Nat.le_refl _) (adv s2) _ (h2.adv hT (isP_ne (by decide) hi)) (PR.bind_out ho)) (fun t3 s3 z3 e3 hr3 h3=>?_) (fun p c z3 hb=>Rs.some hb)
     refine PV.ok ?_ h3
     simp only[RN,RepN,RepL,List.length_cons,List.length_nil,cv_rworded,Sum.elim_inl,Sum.elim_inr]
     exact⟨trivial,trivial,trivial,trivial,⟨(z1.1,z1.2.1,z1.2.2.1,z1.2.2.2.1,z1.2.2.2.2.1),rfl,hr1⟩,⟨(z2.1,z2.2.1,z2.2.2.1,z2.2.2.2.1,z2.2.2.2.2.1),rfl,hr2⟩,⟨(z3.1,z3.2.1,z3.2.2.1,z3.2.2.2.1,z3.2.2.2.2.1),rfl,hr3⟩,trivial⟩
    ·rw[if_neg hi]at ho
     refine Rs.neg hi ?_
     rw[if_neg hi,if_neg hi]
     refine PV.ok ?_ h2
     simp only[RN,RepN,RepL,List.length_cons,List.length_nil,cv_rworded,Sum.elim_inl,Sum.elim_inr]
     exact⟨trivial,trivial,trivial,trivial,⟨(z1.1,z1.2.1,z1.2.2.1,z1.2.2.2.1,z1.2.2.2.2.1),rfl,hr1⟩,⟨(z2.1,z2.2.1,z2.2.2.1,z2.2.2.2.1,z2.2.2.2.2.1),rfl,hr2⟩,⟨(14,0,⟨#[]⟩,0,fun _=>[]),rfl,by simp⟩,trivial⟩
   ·rw[rtake_bq (q'+2) hb]
    dsimp only[Option.bind_some]
    exact Rs.neg (fun hh=>by cases hh) (Rs.some hb)
  ·refine Rs.bind (rblock_bq q' hb) fun z2 hb=>?_
   rw[rtake_bq (q'+2) hb]
   dsimp only[Option.bind_some]
   exact Rs.neg (fun hh=>by cases hh) (Rs.some hb)
 have e1:=e
 clear e
 refine Rs.neg (fun hh=>e1 (tl_eq.1 hh)) ?_
 by_cases e:(T s.p).t=w_repeat
 ·refine Rs.pos (tl_eq.2 e) ?_
  rw[stmt_repeat f e]at ho⊢
  have hp:=h.adv hT (.inl (by rw[e];decide))
  unfold repQ at ho⊢
  refine PV.seq (rnumber_rs hT (q'+2) hp 1 100) (fun n s1 z e1 hn h1=>?_) (fun p c z hb=>?_)
  ·rw[e1]at ho
   dsimp only[PR.bind]at ho
   have hn:z.1=n:=hn
   refine PV.seq (hB f (Nat.le_refl _) s1 _ h1 (PR.bind_out ho)) (fun t2 s2 z2 e2 hr2 h2=>?_) (fun p c z2 hb=>Rs.some hb)
   rw[←hn]
   exact PV.ok (RepN.ro1 hr2) h2
  ·exact Rs.bind (rblock_bq q' hb) fun z2 hb=>Rs.some hb
 have e2:=e
 clear e
 refine Rs.neg (fun hh=>e2 (tl_eq.1 hh)) ?_
 by_cases e:(T s.p).t=w_wait
 ·refine Rs.pos (tl_eq.2 e) ?_
  rw[stmt_wait f e]at ho⊢
  have hp:=h.adv hT (.inl (by rw[e];decide))
  unfold amtP
  refine PV.seq (rliteral_rs hT (q'+2) hp) (fun t s1 z e1 hr h1=>?_) (fun p c z hb=>?_)
  ·rw[one_eq]
   dsimp only[Option.bind_some]
   exact PV.same (endedO_rs hT (q'+2) (y:=(5,0,⟨#[]⟩,1,_)) (RepN.fn1 (y:=(z.1,z.2.1,z.2.2.1,z.2.2.2.1,z.2.2.2.2.1)) hr) h1) (fun a z h=>h) (fun z=>rfl)
  ·rw[one_eq]
   dsimp only[Option.bind_some]
   exact Rs.bind (endedO_bq (q'+2) (5,0,_,1,_) hb) fun v hb=>Rs.some hb
 have e3:=e
 clear e
 refine Rs.neg (fun hh=>e3 (tl_eq.1 hh)) ?_
 by_cases e:(T s.p).t=w_await
 ·refine Rs.pos (tl_eq.2 e) ?_
  rw[stmt_await f e]at ho⊢
  have hp:=h.adv hT (.inl (by rw[e];decide))
  unfold awaitP at ho⊢
  refine PV.seq (hE f (Nat.le_refl _) 1 (by decide) (by decide) _ _ hp (PR.bind_out ho)) (fun t s1 z e1 hr h1=>?_) (fun p c z hb=>?_)
  ·refine PV.seq (rmust_rs hT (q'+2) h1 w_within (by decide)) (fun u s2 y e2 _ h2=>?_) (fun p c y hb=>?_)
   ·refine PV.seq (rliteral_rs hT (q'+2) h2) (fun t2 s3 v e3 hr2 h3=>?_) (fun p c v hb=>?_)
    ·exact PV.same (endedK_rs hT (q'+2) (y:=(6,0,⟨#[]⟩,2,_)) (RepN.k2 (y:=(z.1,z.2.1,z.2.2.1,z.2.2.2.1,z.2.2.2.2.1)) (z:=(v.1,v.2.1,v.2.2.1,v.2.2.2.1,v.2.2.2.2.1)) hr hr2) h3) (fun a z h=>h) (fun z=>rfl)
    ·exact Rs.bind (endedK_bq (q'+2) (6,0,_,2,_) hb) fun v hb=>Rs.some hb
   ·exact Rs.bind (rliteral_bq (q'+2) hb) fun v hb=>Rs.bind (endedK_bq (q'+2) (6,0,_,2,_) hb) fun v hb=>Rs.some hb
  ·exact Rs.bind (rmust_bq (q'+2) hb w_within) fun v hb=>Rs.bind (rliteral_bq (q'+2) hb) fun v hb=>Rs.bind (endedK_bq (q'+2) (6,0,_,2,_) hb) fun v hb=>Rs.some hb
 have e4:=e
 clear e
 refine Rs.neg (fun hh=>e4 (tl_eq.1 hh)) ?_
 by_cases e:(T s.p).t=w_require
 ·refine Rs.pos (tl_eq.2 e) ?_
  rw[stmt_require f e]at ho⊢
  have hp:=h.adv hT (.inl (by rw[e];decide))
  unfold Lx.oneP at ho⊢
  refine PV.seq (hE f (Nat.le_refl _) 1 (by decide) (by decide) _ _ hp (PR.bind_out ho)) (fun t s1 z e1 hr h1=>?_) (fun p c z hb=>?_)
  ·rw[one_eq]
   dsimp only[Option.bind_some]
   exact PV.same (endedO_rs hT (q'+2) (y:=(7,0,⟨#[]⟩,1,_)) (RepN.fn1 (y:=(z.1,z.2.1,z.2.2.1,z.2.2.2.1,z.2.2.2.2.1)) hr) h1) (fun a z h=>h) (fun z=>rfl)
  ·rw[one_eq]
   dsimp only[Option.bind_some]
   exact Rs.bind (endedO_bq (q'+2) (7,0,_,1,_) hb) fun v hb=>Rs.some hb
 have e5:=e
 clear e
 refine Rs.neg (fun hh=>e5 (tl_eq.1 hh)) ?_
 by_cases e:(T s.p).t=w_point
 ·refine Rs.pos (tl_eq.2 e) ?_
  rw[stmt_point f e]at ho⊢
  have hp:=h.adv hT (.inl (by rw[e];decide))
  unfold Lx.oneP at ho⊢
  refine PV.seq (hE f (Nat.le_refl _) 1 (by decide) (by decide) _ _ hp (PR.bind_out ho)) (fun t s1 z e1 hr h1=>?_) (fun p c z hb=>?_)
  ·rw[one_eq]
   dsimp only[Option.bind_some]
   exact PV.same (endedO_rs hT (q'+2) (y:=(8,0,⟨#[]⟩,1,_)) (RepN.fn1 (y:=(z.1,z.2.1,z.2.2.1,z.2.2.2.1,z.2.2.2.2.1)) hr) h1) (fun a z h=>h) (fun z=>rfl)
  ·rw[one_eq]
   dsimp only[Option.bind_some]
   exact Rs.bind (endedO_bq (q'+2) (8,0,_,1,_) hb) fun v hb=>Rs.some hb
 have e6:=e
 clear e
 refine Rs.neg (fun hh=>e6 (tl_eq.1 hh)) ?_
 by_cases e:(T s.p).t=w_use
 ·refine Rs.pos (tl_eq.2 e) ?_
  rw[stmt_use f e]at ho⊢
  have hp:=h.adv hT (.inl (by rw[e];decide))
  exact PV.same (rnumbered_use hT (q'+2) 9 w_for (by decide) hp) (fun a z h=>h) (fun z=>rfl)
 have e7:=e
 clear e
 refine Rs.neg (fun hh=>e7 (tl_eq.1 hh)) ?_
 by_cases e:(T s.p).t=w_send
 ·refine Rs.pos (tl_eq.2 e) ?_
  rw[stmt_send f e]at ho⊢
  have hp:=h.adv hT (.inl (by rw[e];decide))
  exact PV.same (rnumbered_use hT (q'+2) 10 sComma (by decide) hp) (fun a z h=>h) (fun z=>rfl)
 have e8:=e
 clear e
 refine Rs.neg (fun hh=>e8 (tl_eq.1 hh)) ?_
 by_cases e:(T s.p).t=w_keep
 ·refine Rs.pos (tl_eq.2 e) ?_
  rw[stmt_keep f e]at ho⊢
  have hp:=h.adv hT (.inl (by rw[e];decide))
  unfold amtP
  refine PV.seq (rliteral_rs hT (q'+2) hp) (fun t s1 z e1 hr h1=>?_) (fun p c z hb=>?_)
  ·rw[one_eq]
   dsimp only[Option.bind_some]
   exact PV.same (endedO_rs hT (q'+2) (y:=(11,0,⟨#[]⟩,1,_)) (RepN.fn1 (y:=(z.1,z.2.1,z.2.2.1,z.2.2.2.1,z.2.2.2.2.1)) hr) h1) (fun a z h=>h) (fun z=>rfl)
  ·rw[one_eq]
   dsimp only[Option.bind_some]
   exact Rs.bind (endedO_bq (q'+2) (11,0,_,1,_) hb) fun v hb=>Rs.some hb
 have e9:=e
 clear e
 refine Rs.neg (fun hh=>e9 (tl_eq.1 hh)) ?_
 by_cases e:(T s.p).t=w_emit
 ·refine Rs.pos (tl_eq.2 e) ?_
  rw[stmt_emit f e]at ho⊢
  have hp:=h.adv hT (.inl (by rw[e];decide))
  exact PV.same (rnumbered_nmb hT (q'+2) 12 99 hp) (fun a z h=>h) (fun z=>rfl)
 have e10:=e
 clear e
 refine Rs.neg (fun hh=>e10 (tl_eq.1 hh)) ?_
 by_cases e:(T s.p).t=w_abort
 ·refine Rs.pos (tl_eq.2 e) ?_
  rw[stmt_abort f e]at ho⊢
  have hp:=h.adv hT (.inl (by rw[e];decide))
  exact PV.same (rnumbered_nmb hT (q'+2) 13 999 hp) (fun a z h=>h) (fun z=>rfl)
 have e11:=e
 clear e
 refine Rs.neg (fun hh=>e11 (tl_eq.1 hh)) ?_
 rw[stmt_no f e0 e1 e2 e4 e3 e9 e5 e6 e7 e8 e10 e11]
 have hn:nameP T s= .err s.p 11:=if_pos (.inr hres)
 rw[hn]
 exact PV.err h.lt (Rs.bind (h.says (by decide) _) fun z hz=>Rs.some hz)
end
end Go.Proofs.YtjfkkokeegpeiaaGreatDoor
/- The reference's parser against the plain one: statements. -/
namespace Go.Proofs.YtjfkkokeegpeiaaGreatDoor
open Go Go.Am Go.Proofs.Lx
set_option maxRecDepth 100000
section
variable {N:Nat} {T:Nat→Tkn} {p:Nat} {c:Int}
def TokK(N:Nat)(T:Nat→Tkn):Prop:=∀j,j<N→Lx.resP (T j).t=true→(T j).k=1
def HWq(N:Nat)(T:Nat→Tkn)(f q:Nat):Prop:=∀g,g≤f→∀(s:PS) (x:g_rfail),XG N T s x→(T s.p).k=1→Lx.resP (T s.p).t=true→stmtP T g s≠ .out→Rs (rworded q ((T s.p).t,x)) (PV N T pN RN (stmtP T g s))
theorem rstatement_step(hT:TokN N T)(hK:TokK N T){f q:Nat}(hE:HEq N T f (q+1))(hW:HWq N T (f+1) (q+1)){s:PS}{x:g_rfail}(h:XG N T s x)(ho:stmtP T (f+1) s≠ .out):
 Rs (rstatement (q+2) x) (PV N T pN RN (stmtP T (f+1) s)):=by
 show Rs ((t_rstatementR (RReserved (q+1)) (rworded (q+1)) (rnameZ (q+1)) (rmust (q+1)) (rexpr (q+1)) (endedK (q+1)) x some).map cv_rstatement) _
 refine Rs.map (P:=PV N T (fun y=>pN (cv_rstatement y)) (fun a y=>RN a (cv_rstatement y)) (stmtP T (f+1) s)) ?_ fun z hz=>hz
 unfold t_rstatementR
 refine Rs.pos h.bounds (Rs.pos h.bounds ?_)
 rw[h.kind,h.text,RReserved_eq]
 dsimp only[Option.bind_some]
 have plain:¬Lx.resP (T s.p).t=true→stmtP T (f+1) s≠ .out→Rs ((rnameZ (q+1) (1,x)).bind fun z27=>(rmust (q+1) ({data:=#[(61:UInt8)]},z27.2)).bind fun z40=>(rexpr (q+1) (1,z40)).bind fun z53=>
  (endedK (q+1) (2,0,z27.1,1,selL [[i64 (z53.1),i64 (z53.2.1),st (z53.2.2.1),V.ro 4 (z53.2.2.2.1) (z53.2.2.2.2.1)]],z53.2.2.2.2.2)).bind fun z70=>some z70) (PV N T (fun y=>pN (cv_rstatement y)) (fun a y=>RN a (cv_rstatement y)) (stmtP T (f+1) s)):=by
  intro hr ho
  have ne:∀{b:ByteArray},Lx.resP b=true→(T s.p).t≠b:=fun hb e=>hr (by rw[e];exact hb)
  rw[stmt_no f (ne rfl) (ne rfl) (ne rfl) (ne rfl) (ne rfl) (ne rfl) (ne rfl) (ne rfl) (ne rfl) (ne rfl) (ne rfl) (ne rfl)]at ho⊢
  refine PV.seq (rnameZ_rs hT q h) (fun a s1 z e ha h1=>?_) (fun p c z hb=>?_)
  ·have ha:z.1=a:=ha
   rw[e]at ho
   have ho:(mustP T sSet s1).bind _≠ .out:=ho
   unfold setP
   refine PV.seq (rmust_rs hT (q+1) h1 sSet (by decide)) (fun u s2 y e2 _ h2=>?_) (fun p c y hb=>?_)
   ·rw[e2]at ho
    refine PV.seq (hE f (Nat.le_refl _) 1 (by decide) (by decide) s2 y h2 (PR.bind_out (show(exprP T f 1 s2).bind _≠ .out from ho))) (fun t s3 v e3 hr h3=>?_) (fun p c v hb=>?_)
    ·rw[←ha]
     exact PV.same (endedK_rs hT (q+1) (RepN.ro1 hr) h3) (fun a z h=>h) (fun z=>rfl)
    ·exact Rs.bind (endedK_bq (q+1) (2,0,_,1,_) hb) fun v hb=>Rs.some hb
   ·exact Rs.bind (rexpr_bq q hb 1) fun v hb=>Rs.bind (endedK_bq (q+1) (2,0,_,1,_) hb) fun v hb=>Rs.some hb
  ·exact Rs.bind (rmust_bq (q+1) hb sSet) fun v hb=>Rs.bind (rexpr_bq q hb 1) fun v hb=>Rs.bind (endedK_bq (q+1) (2,0,_,1,_) hb) fun v hb=>Rs.some hb
 by_cases hk:(T s.p).k=1
 ·refine Rs.pos (beq_iff_eq.2 hk) ?_
  by_cases hr:Lx.resP (T s.p).t=true
  ·refine Rs.pos hr ?_
   exact PV.same (hW (f+1) (Nat.le_refl _) s x h hk hr ho) (fun a z h=>h) (fun z=>rfl)
  ·refine Rs.neg hr ?_
   exact plain hr ho
 ·refine Rs.neg (fun hh=>hk (beq_iff_eq.1 hh)) ?_
  exact plain (fun hr=>hk (hK s.p h.lt hr)) ho
theorem rstmts(hT:TokN N T)(hK:TokK N T):∀f,f≤1000000000→∀q,2*f+26≤q→HSq N T f q∧HBq N T f q∧HWq N T f q:=by
 intro f
 induction f with
 |zero=>
  intro _ q _
  refine⟨fun g hg s x _ ho=>?_,fun g hg s x _ ho=>?_,fun g hg s x _ _ _ ho=>?_⟩
  all_goals
   obtain rfl:g=0:=by omega
  ·rw[stmtP]at ho;exact absurd rfl ho
  ·rw[blockP]at ho;exact absurd rfl ho
  ·rw[stmtP]at ho;exact absurd rfl ho
 |succ f ih=>
  intro hf q hq
  obtain⟨q,rfl⟩:∃k,q=k+3:=⟨q-3,by omega⟩
  obtain⟨a1,a2,a3⟩:=ih (by omega) (q+3) (by omega)
  obtain⟨b1,b2,b3⟩:=ih (by omega) (q+2) (by omega)
  obtain⟨c1,c2,c3⟩:=ih (by omega) (q+1) (by omega)
  have w1:HWq N T (f+1) (q+2):=fun g hg s x h hk hr ho=>by
   by_cases e:g≤f
   ·exact b3 g e s x h hk hr ho
   ·obtain rfl:g=f+1:=by omega
    exact rworded_step hT (by omega) (rexprs hT f (q+1) (by omega)).1 c2 h hk hr ho
  refine⟨fun g hg s x h ho=>?_,fun g hg s x h ho=>?_,fun g hg s x h hk hr ho=>?_⟩
  ·by_cases e:g≤f
   ·exact a1 g e s x h ho
   ·obtain rfl:g=f+1:=by omega
    exact rstatement_step hT hK (rexprs hT f (q+2) (by omega)).1 w1 h ho
  ·by_cases e:g≤f
   ·exact a2 g e s x h ho
   ·obtain rfl:g=f+1:=by omega
    exact rblock_step hT (by omega) (by omega) b1 h ho
  ·by_cases e:g≤f
   ·exact a3 g e s x h hk hr ho
   ·obtain rfl:g=f+1:=by omega
    exact rworded_step hT (by omega) (rexprs hT f (q+2) (by omega)).1 b2 h hk hr ho
end
end Go.Proofs.YtjfkkokeegpeiaaGreatDoor
/- The reference's parser against the plain one: a parameter, the loop over parameters. -/
namespace Go.Proofs.YtjfkkokeegpeiaaGreatDoor
open Go Go.Am Go.Proofs.Lx
set_option maxRecDepth 100000
noncomputable def prmK{β:Type}(q:Nat)(x:g_rfail)(k:ByteArray→ByteArray→g_rfail→Option β):Option β:=
 (rnameV q (12,x)).bind fun a=>
  if(a.2.2.2.2.2.2.2.2.2.2.1+1)*16≤roomBound∧a.2.2.2.2.2.2.2.2.2.2.1+1≤maxLen∧a.2.2.2.2.2.2.2.2.2.2.1≤a.2.2.2.2.2.2.2.2.2.2.1 then
   (rtake q (sColon,(a.2.1,a.2.2.1,a.2.2.2.1,a.2.2.2.2.1,a.2.2.2.2.2.1,a.2.2.2.2.2.2.1,a.2.2.2.2.2.2.2.1,a.2.2.2.2.2.2.2.2.1,a.2.2.2.2.2.2.2.2.2.1,a.2.2.2.2.2.2.2.2.2.2.1+1,fun(j:Nat)=>if j<a.2.2.2.2.2.2.2.2.2.2.1 then a.2.2.2.2.2.2.2.2.2.2.2 j else a.1))).bind fun b=>
    if b.1=true then
     if(0:Int)≤b.2.1∧b.2.1< ((b.2.2.2.2.2.1:Nat):Int)then
      if(b.2.2.2.2.2.2.1 (Int.toNat (b.2.1))!=(1:Int))=true then
       (rfail q (11,b.2)).bind fun c=>(known q (b.2.2.2.2.2.2.1 (Int.toNat (b.2.1)),b.2.2.2.2.2.2.2.1 (Int.toNat (b.2.1)),b.2.2.2.2.2.2.2.2.1 (Int.toNat (b.2.1)),b.2.2.2.2.2.2.2.2.2.1 (Int.toNat (b.2.1)))).bind fun d=>
        if(!d)=true then(rfail q (10,c)).bind fun e=>(rtake q ((b.2.2.2.2.2.2.2.2.1 (Int.toNat (b.2.1))),e)).bind fun f=>k a.1 (b.2.2.2.2.2.2.2.2.1 (Int.toNat (b.2.1))) f.2
        else(rtake q ((b.2.2.2.2.2.2.2.2.1 (Int.toNat (b.2.1))),c)).bind fun f=>k a.1 (b.2.2.2.2.2.2.2.2.1 (Int.toNat (b.2.1))) f.2
      else(known q (b.2.2.2.2.2.2.1 (Int.toNat (b.2.1)),b.2.2.2.2.2.2.2.1 (Int.toNat (b.2.1)),b.2.2.2.2.2.2.2.2.1 (Int.toNat (b.2.1)),b.2.2.2.2.2.2.2.2.2.1 (Int.toNat (b.2.1)))).bind fun d=>
       if(!d)=true then(rfail q (10,b.2)).bind fun e=>(rtake q ((b.2.2.2.2.2.2.2.2.1 (Int.toNat (b.2.1))),e)).bind fun f=>k a.1 (b.2.2.2.2.2.2.2.2.1 (Int.toNat (b.2.1))) f.2
       else(rtake q ((b.2.2.2.2.2.2.2.2.1 (Int.toNat (b.2.1))),b.2)).bind fun f=>k a.1 (b.2.2.2.2.2.2.2.2.1 (Int.toNat (b.2.1))) f.2
     else none
    else k a.1 ⟨#[]⟩ b.2
  else none
def pr0(m:Bool)(x:g_rfail):Bool×Nat×(Nat→Int)×(Nat→Int)×(Nat→ByteArray)×(Nat→Int)×Int×Int×Int×Int×Nat×(Nat→ByteArray):=(m,rb0 x)
def prA(m:Bool)(x:g_rfail)(a:PrT):Bool×Nat×(Nat→Int)×(Nat→Int)×(Nat→ByteArray)×(Nat→Int)×Int×Int×Int×Int×Nat×(Nat→ByteArray)×PrT:=(m,x.2.2.2.2.1,x.2.2.2.2.2.1,x.2.2.2.2.2.2.1,x.2.2.2.2.2.2.2.1,x.2.2.2.2.2.2.2.2.1,x.1,x.2.1,x.2.2.1,x.2.2.2.1,x.2.2.2.2.2.2.2.2.2.1,x.2.2.2.2.2.2.2.2.2.2,a)
def prE(x:g_rfail)(a:PrT):Nat×Nat×(Nat→Int)×(Nat→Int)×(Nat→ByteArray)×(Nat→Int)×Int×Int×Int×Int×Nat×(Nat→ByteArray)×(Nat→ByteArray)×(Nat→ByteArray):=(a.2.2,x.2.2.2.2.1,x.2.2.2.2.2.1,x.2.2.2.2.2.2.1,x.2.2.2.2.2.2.2.1,x.2.2.2.2.2.2.2.2.1,x.1,x.2.1,x.2.2.1,x.2.2.2.1,x.2.2.2.2.2.2.2.2.2.1,x.2.2.2.2.2.2.2.2.2.2,a.1,a.2.1)
theorem prm_t0{β:Type}(q:Nat)(c0:a_rparamsR)(m:Bool)(x:g_rfail)(nx:rparamsR_l0_a→Option β)(dn:rparamsR_l0_g→Option β):rparamsR_l0_t0 (rmust q) (ris q) (rnameV q) (rtake q) (rfail q) (known q) c0 (pr0 m x) nx dn=
 if m=true then prmK q x (fun nm u v=>(rtake q (sComma,v)).bind fun y=>nx (.inr (prA y.1 y.2 (prm1 nm u))))else dn (.inl (rb0 x)):=rfl
theorem prm_t1{β:Type}(q:Nat)(c0:a_rparamsR)(m:Bool)(x:g_rfail)(a:PrT)(nx:rparamsR_l0_a→Option β)(dn:rparamsR_l0_g→Option β):rparamsR_l0_t1 (rmust q) (ris q) (rnameV q) (rtake q) (rfail q) (known q) c0 (prA m x a) nx dn=
 if m=true then prmK q x (fun nm u v=>if(a.2.2+1)*32≤roomBound∧a.2.2+1≤maxLen∧a.2.2≤a.2.2 then(rtake q (sComma,v)).bind fun y=>nx (.inr (prA y.1 y.2 (prmN a nm u)))else none)else dn (.inr (prE x a)):=rfl
section
variable {N:Nat} {T:Nat→Tkn} {s:PS} {x:g_rfail} {p:Nat} {c:Int}
theorem prmK_rs{β:Type}{k:ByteArray→ByteArray→g_rfail→Option β}{P:β→Prop}(hT:TokN N T)(q:Nat)(hq:12<q)(h:XG N T s x)
 (hok:∀m s1 v,prmP T s= .ok m s1→XG N T s1 v→Rs (k m.x m.u v) P) (hbad:∀p c nm u v,prmP T s= .err p c→p<N→XB N T p c v→Rs (k nm u v) P):Rs (prmK q x k) P:=by
 obtain⟨z,hz1,hz2,hz3⟩:=rnameV_rs hT q hq h
 have hl:s.vs.length≤12:=h.names.2.2
 have hpm:prmP T s=(freshP T s).bind fun x s0=>if isP T sColon {s0 with vs:=s0.vs++[x]}=true then
  (if(T (s0.p+1)).k≠1 then .err (s0.p+1) 11 else if unitP (T (s0.p+1)).t=false then .err (s0.p+1) 10 else .ok ⟨x,(T (s0.p+1)).t⟩ (adv (adv {s0 with vs:=s0.vs++[x]})))
  else .ok ⟨x,⟨#[]⟩⟩ {s0 with vs:=s0.vs++[x]}:=by
  unfold prmP
  rw[declP_eq,PR.bind_assoc]
  rfl
 unfold prmK
 rw[hz1]
 dsimp only[Option.bind_some]
 refine Rs.pos ⟨by rw[hz3];unfold roomBound;omega,by rw[hz3];unfold maxLen;omega,Nat.le_refl _⟩ ?_
 cases e1:freshP T s with
 |out=>rw[e1]at hz2;exact hz2.elim
 |err p c=>
  rw[e1]at hz2 hpm
  have hb:XB N T p c z.2:=hz2.2
  rw[rtake_bq q (hb.push _ _) sColon]
  dsimp only[Option.bind_some]
  exact Rs.neg (fun hh=>by cases hh) (hbad p c _ _ _ hpm hz2.1 (hb.push _ _))
 |ok b s0=>
  rw[e1]at hz2 hpm
  have hbn:z.1=b:=hz2.1
  have hg:XG N T s0 z.2:=hz2.2
  obtain⟨r1,r2⟩:=freshP_room hl e1
  have hg2:=hg.push r2 z.1
  rw[hbn]at hg2⊢
  dsimp only[PR.bind]at hpm
  rw[rtake_rq hT q hg2 sColon]
  dsimp only[Option.bind_some]
  by_cases hc:isP T sColon {s0 with vs:=s0.vs++[b]}=true
  ·rw[if_pos hc]at hpm
   refine Rs.pos hc ?_
   rw[if_pos hc]
   have hg3:=hg2.adv hT (isP_ne (by decide) hc)
   refine Rs.pos hg3.bounds ?_
   rw[hg3.kind,hg3.text,hg3.at_,hg3.num,known_eq]
   dsimp only[Option.bind_some]
   by_cases hk:(T (s0.p+1)).k=1
   ·rw[if_neg (fun h=>h hk)]at hpm
    refine Rs.neg (fun hh=>bne_iff_ne.1 hh hk) ?_
    by_cases hu:unitP (T (s0.p+1)).t=true
    ·rw[if_neg (by rw[hu];decide)]at hpm
     refine Rs.neg (fun hh=>?_) ?_
     ·have hh:(!(decide ((T (s0.p+1)).k=1)&&unitP (T (s0.p+1)).t))=true:=hh
      rw[decide_eq_true hk,hu]at hh
      cases hh
     ·have ht:isP T (T (s0.p+1)).t (adv {s0 with vs:=s0.vs++[b]})=true:=decide_eq_true rfl
      have hr:=rtake_rq hT q hg3 (T (s0.p+1)).t
      rw[ht,if_pos rfl]at hr
      refine Rs.bind (Rs.of hr) fun y hy=>?_
      rw[hy]
      exact hok _ _ _ hpm (hg3.adv hT (.inr (show(T (s0.p+1)).k≠0 by rw[hk];decide)))
    ·rw[if_pos (Bool.eq_false_iff.2 hu)]at hpm
     refine Rs.pos (show(!(decide ((T (s0.p+1)).k=1)&&unitP (T (s0.p+1)).t))=true by rw[Bool.eq_false_iff.2 hu,Bool.and_false];rfl) ?_
     refine Rs.bind (hg3.says (by decide) q) fun v hb=>Rs.bind (Rs.of (rtake_bq q hb _)) fun y hy=>?_
     rw[hy]
     exact hbad _ _ _ _ _ hpm hg3.lt hb
   ·rw[if_pos hk]at hpm
    refine Rs.pos (bne_iff_ne.2 hk) ?_
    refine Rs.bind (hg3.says (by decide) q) fun v hb=>?_
    refine Rs.pos (show(!(decide ((T (s0.p+1)).k=1)&&unitP (T (s0.p+1)).t))=true by rw[decide_eq_false hk,Bool.false_and];rfl) ?_
    refine Rs.bind (hb.says q 10) fun v hb=>Rs.bind (Rs.of (rtake_bq q hb _)) fun y hy=>?_
    rw[hy]
    exact hbad _ _ _ _ _ hpm hg3.lt hb
  ·rw[if_neg hc]at hpm
   refine Rs.neg hc ?_
   rw[if_neg hc]
   exact hok _ _ _ hpm hg2
def LPr(N:Nat)(T:Nat→Tkn)(acc:List Prm):PR (List Prm)→rparamsR_l0_g→Prop
 | .ok l s,.inr z=>∃x a,z=prE x a∧RepQ (acc++l) a∧XG N T s x
 | .err p c,.inr z=>∃x a,z=prE x a∧p<N∧XB N T p c x
 |_,_=>False
def PSr(acc:List Prm)(x:g_rfail):rparamsR_l0_a→Prop
 | .inl y=>acc=[]∧y=pr0 true x
 | .inr y=>∃a,y=prA true x a∧RepQ acc a
noncomputable abbrev plp(q m:Nat)(c0:g_rfail):rparamsR_l0_a→Option rparamsR_l0_g:=rparamsR_l0 (rmust q) (ris q) (rnameV q) (rtake q) (rfail q) (known q) m c0
theorem prm_end0(q m:Nat)(c0 x:g_rfail):plp q (m+1) c0 (.inl (pr0 false x))=some (.inl (rb0 x)):=by
 refine Rs.eq ?_
 unfold plp rparamsR_l0
 refine Rs.step3 fun Q hQ=>?_
 rw[Sum.elim_inl,prm_t0]
 exact Rs.neg (by decide) (Rs.some rfl)
theorem prm_end1(q m:Nat)(c0 x:g_rfail)(a:PrT):plp q (m+1) c0 (.inr (prA false x a))=some (.inr (prE x a)):=by
 refine Rs.eq ?_
 unfold plp rparamsR_l0
 refine Rs.step3 fun Q hQ=>?_
 rw[Sum.elim_inr,prm_t1]
 exact Rs.neg (by decide) (Rs.some rfl)
theorem prms_rs(hT:TokN N T){q:Nat}(hq:12<q)(c0:g_rfail):∀(g m:Nat),g+1<m→∀(acc:List Prm) (s:PS) (x:g_rfail) (y:rparamsR_l0_a),PSr acc x y→acc.length+g≤1000000000→XG N T s x→prmsQ T g s≠ .out→Rs (plp q m c0 y) (LPr N T acc (prmsQ T g s)):=by
 intro g
 induction g with
 |zero=>intro m _ acc s x y _ _ _ ho;rw[prmsQ]at ho;exact absurd rfl ho
 |succ g ih=>
  intro m hm acc s x y hy hb h ho
  obtain⟨m,rfl⟩:∃k,m=k+2:=⟨m-2,by omega⟩
  rw[prmsQ]at ho⊢
  have next:∀(v:g_rfail) (a:PrT) (b:Bool×g_rfail),
   (match prmP T s with| .ok m s1=>b=(isP T sComma s1,if isP T sComma s1=true then(w (v.1+1),v.2)else v)∧XG N T s1 v∧RepQ (acc++[m]) a| .err p c=>b=(false,v)∧p<N∧XB N T p c v| .out=>False)→
   Rs (plp q (m+1) c0 (.inr (prA b.1 b.2 a))) (LPr N T acc ((prmP T s).bind fun x s1=>if isP T sComma s1=true then(prmsQ T g (adv s1)).bind fun l s2=>.ok (x::l) s2 else .ok [x] s1)):=by
   intro v a b hw
   cases e:prmP T s with
   |out=>rw[e]at hw;exact hw.elim
   |err p c=>
    rw[e]at hw
    obtain⟨rfl,hp,hx⟩:=hw
    exact⟨_,prm_end1 q m c0 v a,v,a,rfl,hp,hx⟩
   |ok pm s1=>
    rw[e]at hw ho
    obtain⟨rfl,hx,ha⟩:=hw
    dsimp only[PR.bind]at ho⊢
    by_cases hc:isP T sComma s1=true
    ·rw[if_pos hc]at ho⊢
     rw[hc,if_pos rfl]
     have ho2:=PR.bind_out (show(prmsQ T g (adv s1)).bind _≠ .out from ho)
     refine(ih (m+1) (by omega) (acc++[pm]) (adv s1) (w (v.1+1),v.2) (.inr (prA true (w (v.1+1),v.2) a)) ⟨a,rfl,ha⟩ (by simp;omega) (hx.adv hT (isP_ne (by decide) hc)) ho2).mono fun z hz=>?_
     cases e2:prmsQ T g (adv s1)with
     |out=>exact absurd e2 ho2
     |err p c=>rw[e2]at hz;rcases z with z|z<;>exact hz
     |ok l s3=>
      rw[e2]at hz
      rcases z with z|z
      ·exact hz.elim
      ·rw[show LPr N T (acc++[pm]) (.ok l s3) (.inr z)=∃x a,z=prE x a∧RepQ ((acc++[pm])++l) a∧XG N T s3 x from rfl,List.append_assoc]at hz
       exact hz
    ·rw[if_neg hc,Bool.eq_false_iff.2 hc]
     exact⟨_,prm_end1 q m c0 _ a,v,a,rfl,ha,hx⟩
  unfold plp rparamsR_l0 at next⊢
  refine Rs.step3 fun Q hQ=>?_
  rcases y with y|y
  ·obtain⟨rfl,rfl⟩:=hy
   rw[Sum.elim_inl,prm_t0]
   refine Rs.pos rfl (prmK_rs hT q hq h (fun pm s1 v e hv=>?_) (fun p c nm u v e hp hv=>?_))
   ·refine Rs.bind (Rs.of (rtake_rq hT q hv sComma)) fun y hy=>Rs.some (hQ _ (next v _ y ?_))
    rw[e]
    exact⟨hy,hv,prm1_rep _ _⟩
   ·refine Rs.bind (Rs.of (rtake_bq q hv sComma)) fun y hy=>Rs.some (hQ _ (next v _ y ?_))
    rw[e]
    exact⟨hy,hp,hv⟩
  ·obtain⟨a,rfl,ha⟩:=hy
   have hal:=ha.1
   rw[Sum.elim_inr,prm_t1]
   refine Rs.pos rfl (prmK_rs hT q hq h (fun pm s1 v e hv=>Rs.pos ⟨by unfold roomBound;omega,by unfold maxLen;omega,Nat.le_refl _⟩ ?_) (fun p c nm u v e hp hv=>Rs.pos ⟨by unfold roomBound;omega,by unfold maxLen;omega,Nat.le_refl _⟩ ?_))
   ·refine Rs.bind (Rs.of (rtake_rq hT q hv sComma)) fun y hy=>Rs.some (hQ _ (next v _ y ?_))
    rw[e]
    exact⟨hy,hv,prmN_rep ha _ _⟩
   ·refine Rs.bind (Rs.of (rtake_bq q hv sComma)) fun y hy=>Rs.some (hQ _ (next v _ y ?_))
    rw[e]
    exact⟨hy,hp,hv⟩
end
end Go.Proofs.YtjfkkokeegpeiaaGreatDoor
/- The reference's parser against the plain one: the parameters of a procedure, its body. -/
namespace Go.Proofs.YtjfkkokeegpeiaaGreatDoor
open Go Go.Am Go.Proofs.Lx
set_option maxRecDepth 100000
def strip(x:g_rfail):a_rparams:=(x.1,x.2.1,x.2.2.1,x.2.2.2.1,x.2.2.2.2.1,x.2.2.2.2.2.1,x.2.2.2.2.2.2.1,x.2.2.2.2.2.2.2.1,x.2.2.2.2.2.2.2.2.1)
section
variable {N:Nat} {T:Nat→Tkn} {s:PS} {x:g_rfail} {p:Nat} {c:Int}
theorem XG.clear(h:XG N T s x):XG N T {s with vs:=[]} (x.1,x.2.1,x.2.2.1,x.2.2.2.1,x.2.2.2.2.1,x.2.2.2.2.2.1,x.2.2.2.2.2.2.1,x.2.2.2.2.2.2.2.1,x.2.2.2.2.2.2.2.2.1,0,fun _=>ByteArray.empty):=by
 obtain⟨l,v,rfl,h1,h2,h3,h4⟩:=h
 exact⟨l,_,rfl,fun j b e=>by simp at e,h2,h3,by simp⟩
theorem RepQ.nil(f g:Nat→ByteArray):RepQ [] (f,g,0):=⟨rfl,fun j m e=>by simp at e⟩
theorem rparams_rs(hT:TokN N T){f q:Nat}(hq:12<q)(hf:f+1<q)(hf2:f≤1000000000)(h:XG N T s x)(ho:paramsP T f {s with vs:=[]}≠ .out):Rs (rparams q (strip x)) (PV N T (fun z=>z.2.2.2) (fun l z=>RepQ l (z.2.1,z.2.2.1,z.1)) (paramsP T f {s with vs:=[]})):=by
 unfold rparams
 refine Rs.map (P:=PV N T (fun y=>(cv_rparams y).2.2.2) (fun l y=>RepQ l ((cv_rparams y).2.1,(cv_rparams y).2.2.1,(cv_rparams y).1)) (paramsP T f {s with vs:=[]})) ?_ fun z hz=>hz
 unfold rparamsR t_rparamsR
 have hop:paramsP T f {s with vs:=[]}=(mustP T sLPar {s with vs:=[]}).bind fun _ s1=>if isP T sRPar s1=true then .ok [] (adv s1)else(prmsQ T f s1).bind fun l s2=>(mustP T sRPar s2).bind fun _ s3=>.ok l s3:=by
  unfold paramsP
  congr 1
  funext u s1
  rw[prms_eq]
 rw[hop]at ho⊢
 obtain⟨m,rfl⟩:∃k,q=k+1:=⟨q-1,by omega⟩
 refine PV.seq (rmust_rs hT (m+1) h.clear sLPar (by decide)) (fun u s1 z e _ h1=>?_) (fun p c z hb=>?_)
 ·have h1:XG N T s1 z:=h1
  rw[e]at ho
  dsimp only[PR.bind]at ho
  refine Rs.pos (beq_iff_eq.2 h1.good) ?_
  rw[ris_rq (m+1) h1]
  dsimp only[Option.bind_some]
  by_cases hi:isP T sRPar s1=true
  ·rw[if_pos hi]at ho⊢
   rw[hi]
   refine Rs.bind (P:=fun y=>y= .inl (rb0 z)) (Rs.of (prm_end0 (m+1) m _ z)) fun y hy=>?_
   subst hy
   dsimp only[Sum.elim_inl]
   refine Rs.bind (rmust_is hT (m+1) h1 sRPar (by decide) hi) fun v hv=>?_
   exact PV.ok (RepQ.nil _ _) hv
  ·rw[if_neg hi]at ho⊢
   rw[Bool.eq_false_iff.2 hi]
   have ho2:=PR.bind_out ho
   refine Rs.bind (prms_rs hT hq _ f (m+1) hf [] s1 z (.inl (pr0 true z)) ⟨rfl,rfl⟩ (by simpa using hf2) h1 ho2) fun y hy=>?_
   cases e2:prmsQ T f s1 with
   |out=>exact absurd e2 ho2
   |err p c=>
    rw[e2]at hy
    dsimp only[PR.bind]
    rcases y with y|y
    ·exact hy.elim
    ·obtain⟨v,a,rfl,hp,hb⟩:=hy
     exact PV.err hp (Rs.bind (rmust_bq (m+1) hb sRPar) fun v hb=>Rs.some hb)
   |ok l s2=>
    rw[e2]at hy
    dsimp only[PR.bind]
    rcases y with y|y
    ·exact hy.elim
    ·obtain⟨v,a,rfl,ha,hv⟩:=hy
     rw[List.nil_append]at ha
     exact PV.seq (rmust_rs hT (m+1) hv sRPar (by decide)) (fun u s3 w e _ h3=>PV.ok ha h3) (fun p c w hb=>Rs.some hb)
 ·have hb:XB N T p c z:=hb
  refine Rs.neg (fun hh=>hb.bad (beq_iff_eq.1 hh)) ?_
  refine Rs.bind (P:=fun y=>y= .inl (rb0 z)) (Rs.of (prm_end0 (m+1) m _ z)) fun y hy=>?_
  subst hy
  dsimp only[Sum.elim_inl]
  exact Rs.bind (rmust_bq (m+1) hb sRPar) fun v hb=>Rs.some hb
theorem rparams_bq(q:Nat)(h:XB N T p c x):Rs (rparams (q+1) (strip x)) (fun z=>XB N T p c z.2.2.2):=by
 unfold rparams
 refine Rs.map (P:=fun y=>XB N T p c (cv_rparams y).2.2.2) ?_ fun z hz=>hz
 unfold rparamsR t_rparamsR
 refine Rs.bind (rmust_bq (q+1) (h.push 0 fun _=>ByteArray.empty) sLPar) fun z hb=>?_
 refine Rs.neg (fun hh=>hb.bad (beq_iff_eq.1 hh)) ?_
 refine Rs.bind (P:=fun y=>y= .inl (rb0 z)) (Rs.of (prm_end0 (q+1) q _ z)) fun y hy=>?_
 subst hy
 dsimp only[Sum.elim_inl]
 exact Rs.bind (rmust_bq (q+1) hb sRPar) fun v hb=>Rs.some hb
def tailP(T:Nat→Tkn)(f:Nat)(s:PS):PR (List Prm×Tr):=(paramsP T f {s with vs:=[]}).bind fun l s3=>(blockP T f s3).bind fun b s4=>.ok (l,b) s4
theorem proc_eq(T:Nat→Tkn)(f:Nat)(pr:List ByteArray)(s:PS):procP T f pr s=(mustP T w_procedure s).bind fun _ s1=>(newP T pr s1).bind fun a s2=>(tailP T f s2).bind fun y s4=>.ok ⟨a,y.1,y.2⟩ s4:=by
 unfold procP newP tailP
 congr 1
 funext u s1
 rw[PR.bind_assoc]
 congr 1
 funext a s2
 by_cases h:inP pr a=true
 ·rw[if_pos h,if_pos h];rfl
 ·rw[if_neg h,if_neg h]
  show _=(((paramsP T f {s2 with vs:=[]}).bind fun l s3=>(blockP T f s3).bind fun b s4=>PR.ok (l,b) s4).bind fun y s4=>PR.ok (Prc.mk a y.1 y.2) s4)
  rw[PR.bind_assoc]
  congr 1
  funext l s3
  rw[PR.bind_assoc]
  rfl
theorem tail_rs{β:Type}{k:g_rparams→g_rblock→Option β}{P:β→Prop}(hT:TokN N T)(hK:TokK N T){f q:Nat}(hq:2*f+26≤q)(hf2:f≤1000000000)(h:XG N T s x)(ho:tailP T f s≠ .out)
 (hok:∀l b s4 zl zb,tailP T f s= .ok (l,b) s4→RepQ l (zl.2.1,zl.2.2.1,zl.1)→RN b zb→XG N T s4 (pN zb)→Rs (k zl zb) P) (hbad:∀p c zl zb,tailP T f s= .err p c→p<N→XB N T p c (pN zb)→Rs (k zl zb) P):
 Rs ((rparams q (strip x)).bind fun l=>(rblock q l.2.2.2).bind fun b=>k l b) P:=by
 obtain⟨z,hz1,hz2⟩:=rparams_rs hT (q:=q) (by omega) (by omega) hf2 h (PR.bind_out ho)
 rw[hz1]
 dsimp only[Option.bind_some]
 unfold tailP at ho hok hbad
 cases e:paramsP T f {s with vs:=[]}with
 |out=>rw[e]at hz2;exact hz2.elim
 |err p c=>
  rw[e]at hz2 hbad
  obtain⟨q',rfl⟩:∃k,q=k+2:=⟨q-2,by omega⟩
  exact Rs.bind (rblock_bq q' hz2.2) fun b hb=>hbad p c z b rfl hz2.1 hb
 |ok l s3=>
  rw[e]at hz2 ho hok hbad
  dsimp only[PR.bind]at ho hok hbad
  have ho2:=PR.bind_out ho
  obtain⟨b,hb1,hb2⟩:=(rstmts hT hK f hf2 q hq).2.1 f (Nat.le_refl _) s3 _ hz2.2 ho2
  rw[hb1]
  dsimp only[Option.bind_some]
  cases e2:blockP T f s3 with
  |out=>exact absurd e2 ho2
  |err p c=>
   rw[e2]at hb2 hbad
   exact hbad p c z b rfl hb2.1 hb2.2
  |ok t s4=>
   rw[e2]at hb2 hok
   exact hok l t s4 z b rfl hz2.1 hb2.1 hb2.2
theorem tail_bq{β:Type}{k:g_rparams→g_rblock→Option β}{P:β→Prop}(q:Nat)(h:XB N T p c x)(hbad:∀zl zb,XB N T p c (pN zb)→Rs (k zl zb) P):Rs ((rparams (q+2) (strip x)).bind fun l=>(rblock (q+2) l.2.2.2).bind fun b=>k l b) P:=
 Rs.bind (rparams_bq (q+1) h) fun l hl=>Rs.bind (rblock_bq q hl) fun b hb=>hbad l b hb
end
end Go.Proofs.YtjfkkokeegpeiaaGreatDoor
/- The plain parser comes to an end. -/
namespace Go.Proofs.YtjfkkokeegpeiaaGreatDoor
open Go Go.Am Go.Proofs.Lx
set_option maxRecDepth 100000
def Tot{α:Type}(N p:Nat):PR α→Prop
 | .ok _ s=>p≤s.p∧s.p<N
 | .err _ _=>True
 | .out=>False
theorem Tot.bind{α β:Type}{N p p':Nat}{r:PR α}{k:α→PS→PR β}(h:Tot N p r)(hk:∀a s,p≤s.p→s.p<N→Tot N p' (k a s)):Tot N p' (r.bind k):=by
 cases r with
 |ok a s=>exact hk a s h.1 h.2
 |err p c=>trivial
 |out=>exact h.elim
theorem Tot.mono{α:Type}{N p p':Nat}{r:PR α}(h:Tot N p r)(hp:p'≤p):Tot N p' r:=by
 cases r with
 |ok a s=>exact⟨Nat.le_trans hp h.1,h.2⟩
 |err p c=>trivial
 |out=>exact h.elim
theorem Tot.ite{α:Type}{N p:Nat}{c:Prop}[Decidable c]{a b:PR α}(h1:c→Tot N p a)(h2:¬c→Tot N p b):Tot N p (if c then a else b):=by
 by_cases h:c
 ·rw[if_pos h];exact h1 h
 ·rw[if_neg h];exact h2 h
section
variable {N:Nat} {T:Nat→Tkn} {s:PS}
theorem must_tot(hT:TokN N T)(hp:s.p<N){b:ByteArray}(hb:b≠⟨#[]⟩):Tot N (s.p+1) (mustP T b s):=by
 unfold mustP
 exact Tot.ite (fun h=>⟨Nat.le_refl _,hT.lt hp (isP_ne hb h)⟩) fun _=>trivial
theorem opens_tot(hT:TokN N T)(hp:s.p<N){b:ByteArray}(hb:b≠⟨#[]⟩):Tot N (s.p+1) (opensP T b s):=by
 unfold opensP
 exact Tot.ite (fun h=>Tot.ite (fun _=>trivial) fun _=>⟨Nat.le_refl _,hT.lt hp (isP_ne hb h)⟩) fun _=>trivial
theorem name_tot(hT:TokN N T)(hp:s.p<N):Tot N (s.p+1) (nameP T s):=by
 unfold nameP
 refine Tot.ite (fun _=>trivial) fun h=>⟨Nat.le_refl _,hT.lt hp (.inr ?_)⟩
 have:(T s.p).k=1:=by
  by_cases e:(T s.p).k=1
  ·exact e
  ·exact absurd (Or.inl e) h
 rw[this];decide
theorem num_tot(hT:TokN N T)(hp:s.p<N)(lo hi:Int):Tot N (s.p+1) (numP T lo hi s):=by
 unfold numP
 refine Tot.ite (fun _=>trivial) fun h=>Tot.ite (fun _=>trivial) fun _=>⟨Nat.le_refl _,hT.lt hp (.inr ?_)⟩
 have:(T s.p).k=2:=Decidable.not_not.1 h
 rw[this];decide
theorem decl_tot(hT:TokN N T)(hp:s.p<N):Tot N (s.p+1) (declP T s):=by
 unfold declP
 exact(name_tot hT hp).bind fun a s1 h1 h2=>Tot.ite (fun _=>trivial) fun _=>Tot.ite (fun _=>trivial) fun _=>⟨h1,h2⟩
theorem lit_tot(hT:TokN N T)(hp:s.p<N):Tot N (s.p+1) (litP T s):=by
 unfold litP
 refine(num_tot hT hp _ _).bind fun a s1 h1 h2=>Tot.ite (fun h=>⟨by show s.p+1≤s1.p+1;omega,hT.lt h2 (.inr ?_)⟩) fun _=>⟨h1,h2⟩
 rw[h.1];decide
theorem adv_lt(hT:TokN N T)(hp:s.p<N){b:ByteArray}(hb:b≠⟨#[]⟩)(h:isP T b s=true):(adv s).p<N:=hT.lt hp (isP_ne hb h)
end
section
variable {N:Nat} {T:Nat→Tkn}
theorem expr_tot(hT:TokN N T):∀f,(∀lv s,1≤lv→lv≤8→s.p<N→20*(N-s.p)+10-lv≤f→Tot N s.p (exprP T f lv s))∧
 (∀lv n s,1≤lv→lv≤7→s.p<N→20*(N-s.p)+1≤f→Tot N s.p (opsP T f lv n s))∧
 (∀b lv s,b≠⟨#[]⟩→1≤lv→lv≤8→s.p<N→20*(N-s.p)≤f→Tot N s.p (unaryP T f b lv s))∧
 (∀s,s.p<N→20*(N-s.p)≤f→Tot N s.p (primP T f s)):=by
 intro f
 induction f with
 |zero=>exact⟨fun lv s _ _ h1 h2=>by omega,fun lv n s _ _ h1 h2=>by omega,fun b lv s _ _ _ h1 h2=>by omega,fun s h1 h2=>by omega⟩
 |succ f ih=>
  obtain⟨i1,i2,i3,i4⟩:=ih
  refine⟨fun lv s l1 l2 hp hf=>?_,fun lv n s l1 l2 hp hf=>?_,fun b lv s hb l1 l2 hp hf=>?_,fun s hp hf=>?_⟩
  ·rw[exprP]
   refine Tot.ite (fun h=>i3 sNot 3 s (by decide) (by decide) (by decide) hp (by omega)) fun h3=>Tot.ite (fun h=>i3 sSub 7 s (by decide) (by decide) (by decide) hp (by omega)) fun h7=>Tot.ite (fun h=>i4 s hp (by omega)) fun h8=>?_
   refine(i1 (lv+1) s (by omega) (by omega) hp (by omega)).bind fun n s1 h1 h2=>?_
   exact(i2 lv n s1 l1 (by omega) h2 (by omega)).mono h1
  ·rw[opsP]
   refine Tot.ite (fun h=>?_) fun _=>⟨Nat.le_refl _,hp⟩
   have ha:(adv s).p<N:=hT.lt hp (.inr (by rw[h.2];decide))
   have hap:(adv s).p=s.p+1:=rfl
   refine(i1 (lv+1) (adv s) (by omega) (by omega) ha (by omega)).bind fun m s1 h1 h2=>Tot.ite (fun _=>⟨by omega,h2⟩) fun _=>?_
   exact(i2 lv _ s1 l1 l2 h2 (by omega)).mono (by omega)
  ·rw[unaryP]
   refine(opens_tot hT hp hb).bind fun _ s1 h1 h2=>(i1 lv s1 l1 l2 h2 (by omega)).bind fun n s2 h3 h4=>⟨?_,h4⟩
   show s.p≤s2.p
   omega
  ·rw[primP]
   refine Tot.ite (fun _=>(lit_tot hT hp).mono (by omega)) fun _=>Tot.ite (fun h=>⟨Nat.le_succ _,adv_lt hT hp (by decide) h⟩) fun _=>Tot.ite (fun h=>⟨Nat.le_succ _,adv_lt hT hp (by decide) h⟩) fun _=>Tot.ite (fun h=>?_) fun _=>Tot.ite (fun h=>?_) fun _=>(name_tot hT hp).bind fun x s1 h1 h2=>⟨by omega,h2⟩
   ·have hap:(adv s).p=s.p+1:=rfl
    exact(must_tot hT (adv_lt hT hp (by decide) h) (by decide)).bind fun _ s1 h1 h2=>(name_tot hT h2).bind fun x s2 h3 h4=>⟨by omega,h4⟩
   ·refine(opens_tot hT hp (by decide)).bind fun _ s1 h1 h2=>(i1 1 s1 (by decide) (by decide) h2 (by omega)).bind fun n s2 h3 h4=>(must_tot hT h4 (by decide)).bind fun _ s3 h5 h6=>⟨?_,h6⟩
    show s.p≤s3.p
    omega
end
end Go.Proofs.YtjfkkokeegpeiaaGreatDoor
/- The plain parser comes to an end (2); what Parse returns, for every source. -/
namespace Go.Proofs.YtjfkkokeegpeiaaGreatDoor
open Go Go.Am Go.Proofs.Lx
set_option maxRecDepth 100000
section
variable {N:Nat} {T:Nat→Tkn} {s:PS}
theorem end_tot(hT:TokN N T)(hp:s.p<N)(n:Tr):Tot N s.p (Lx.endP T n s):=(must_tot hT hp (by decide)).bind fun _ s1 h1 h2=>⟨by omega,h2⟩
theorem semi_tot(hT:TokN N T){r:PR Tr}{p:Nat}(h:Tot N p r):Tot N p (r.bind (Lx.endP T)):=h.bind fun n s1 h1 h2=>(end_tot hT h2 n).mono h1
theorem letQ_tot(hT:TokN N T){f:Nat}(hp:s.p<N)(hf:20*(N-s.p)+10≤f):Tot N s.p (letQ T f s):=(decl_tot hT hp).bind fun a s1 h1 h2=>(must_tot hT h2 (by decide)).bind fun _ s2 h3 h4=>((expr_tot hT f).1 1 s2 (by decide) (by decide) h4 (by omega)).bind fun n s3 h5 h6=>⟨by omega,h6⟩
theorem asgQ_tot(hT:TokN N T){f:Nat}(hp:s.p<N)(hf:20*(N-s.p)≤f+1):Tot N (s.p+1) (asgQ T f s):=(name_tot hT hp).bind fun a s1 h1 h2=>(must_tot hT h2 (by decide)).bind fun _ s2 h3 h4=>((expr_tot hT f).1 1 s2 (by decide) (by decide) h4 (by omega)).bind fun n s3 h5 h6=>⟨by omega,h6⟩
theorem awaitQ_tot(hT:TokN N T){f:Nat}(hp:s.p<N)(hf:20*(N-s.p)+10≤f):Tot N s.p (awaitQ T f s):=((expr_tot hT f).1 1 s (by decide) (by decide) hp (by omega)).bind fun n s1 h1 h2=>(must_tot hT h2 (by decide)).bind fun _ s2 h3 h4=>(lit_tot hT h4).bind fun m s3 h5 h6=>⟨by omega,h6⟩
theorem amtQ_tot(hT:TokN N T)(hp:s.p<N)(k:Int):Tot N s.p (amtQ T k s):=(lit_tot hT hp).bind fun n s1 h1 h2=>⟨by omega,h2⟩
theorem sglQ_tot(hT:TokN N T){f:Nat}(hp:s.p<N)(hf:20*(N-s.p)+10≤f)(k:Int):Tot N s.p (sglQ T f k s):=((expr_tot hT f).1 1 s (by decide) (by decide) hp (by omega)).bind fun n s1 h1 h2=>⟨h1,h2⟩
theorem nmbQ_tot(hT:TokN N T)(hp:s.p<N)(k hi:Int):Tot N s.p (nmbQ T k hi s):=(num_tot hT hp 0 hi).bind fun n s1 h1 h2=>⟨by omega,h2⟩
theorem useQ_tot(hT:TokN N T)(hp:s.p<N)(k:Int){b:ByteArray}(hb:b≠⟨#[]⟩):Tot N s.p (useQ T k b s):=(num_tot hT hp 0 7).bind fun n s1 h1 h2=>(must_tot hT h2 hb).bind fun _ s2 h3 h4=>(lit_tot hT h4).bind fun m s3 h5 h6=>⟨by omega,h6⟩
end
section
variable {N:Nat} {T:Nat→Tkn}
theorem stmt_tot(hT:TokN N T):∀f,(∀s,s.p<N→20*(N-s.p)+12≤f→Tot N (s.p+1) (blockP T f s))∧(∀s,s.p<N→20*(N-s.p)+11≤f→Tot N s.p (stmtsP T f s))∧(∀s,s.p<N→20*(N-s.p)+10≤f→Tot N (s.p+1) (stmtP T f s)):=by
 intro f
 induction f with
 |zero=>exact⟨fun s h1 h2=>by omega,fun s h1 h2=>by omega,fun s h1 h2=>by omega⟩
 |succ f ih=>
  obtain⟨i1,i2,i3⟩:=ih
  refine⟨fun s hp hf=>?_,fun s hp hf=>?_,fun s hp hf=>?_⟩
  ·rw[blockP]
   refine(opens_tot hT hp (by decide)).bind fun _ s1 h1 h2=>(i2 s1 h2 (by omega)).bind fun l s2 h3 h4=>⟨?_,h4⟩
   show s.p+1≤s2.p
   omega
  ·rw[stmtsP]
   refine Tot.ite (fun h=>⟨Nat.le_succ _,adv_lt hT hp (by decide) h⟩) fun _=>?_
   exact(i3 s hp (by omega)).bind fun n s1 h1 h2=>(i2 s1 h2 (by omega)).bind fun l s2 h3 h4=>⟨by omega,h4⟩
  ·rw[stmtP]
   have hap:(adv s).p=s.p+1:=rfl
   have ha:∀{b:ByteArray},b≠⟨#[]⟩→isP T b s=true→(adv s).p<N:=fun hb h=>adv_lt hT hp hb h
   refine Tot.ite (fun h=>?_) fun _=>?_
   ·rw[let_eq];have:=ha (by decide) h;exact semi_tot hT (letQ_tot hT this (by omega))
   refine Tot.ite (fun h=>?_) fun _=>?_
   ·have hh:=ha (by decide) h
    refine((expr_tot hT f).1 1 (adv s) (by decide) (by decide) hh (by omega)).bind fun c s1 h1 h2=>(i1 s1 h2 (by omega)).bind fun y s2 h3 h4=>Tot.ite (fun h=>?_) fun _=>⟨by omega,h4⟩
    have hap2:(adv s2).p=s2.p+1:=rfl
    have h5:(adv s2).p<N:=adv_lt hT h4 (by decide) h
    exact(i1 (adv s2) h5 (by omega)).bind fun n s3 h6 h7=>⟨by omega,h7⟩
   refine Tot.ite (fun h=>?_) fun _=>?_
   ·have hh:=ha (by decide) h
    exact(num_tot hT hh 1 100).bind fun n s1 h1 h2=>(i1 s1 h2 (by omega)).bind fun y s2 h3 h4=>⟨by omega,h4⟩
   refine Tot.ite (fun h=>?_) fun _=>?_
   ·rw[await_eq];have:=ha (by decide) h;exact semi_tot hT (awaitQ_tot hT this (by omega))
   refine Tot.ite (fun h=>?_) fun _=>?_
   ·rw[amt_eq];exact semi_tot hT (amtQ_tot hT (ha (by decide) h) _)
   refine Tot.ite (fun h=>?_) fun _=>?_
   ·rw[amt_eq];exact semi_tot hT (amtQ_tot hT (ha (by decide) h) _)
   refine Tot.ite (fun h=>?_) fun _=>?_
   ·rw[sgl_eq];have:=ha (by decide) h;exact semi_tot hT (sglQ_tot hT this (by omega) _)
   refine Tot.ite (fun h=>?_) fun _=>?_
   ·rw[sgl_eq];have:=ha (by decide) h;exact semi_tot hT (sglQ_tot hT this (by omega) _)
   refine Tot.ite (fun h=>?_) fun _=>?_
   ·rw[use_eq];exact semi_tot hT (useQ_tot hT (ha (by decide) h) _ (by decide))
   refine Tot.ite (fun h=>?_) fun _=>?_
   ·rw[use_eq];exact semi_tot hT (useQ_tot hT (ha (by decide) h) _ (by decide))
   refine Tot.ite (fun h=>?_) fun _=>?_
   ·rw[nmb_eq];exact semi_tot hT (nmbQ_tot hT (ha (by decide) h) _ _)
   refine Tot.ite (fun h=>?_) fun _=>?_
   ·rw[nmb_eq];exact semi_tot hT (nmbQ_tot hT (ha (by decide) h) _ _)
   rw[asg_eq]
   exact semi_tot hT (asgQ_tot hT hp (by omega))
theorem prm_tot(hT:TokN N T){s:PS}(hp:s.p<N):Tot N (s.p+1) (prmP T s):=by
 unfold prmP
 refine(decl_tot hT hp).bind fun x s1 h1 h2=>Tot.ite (fun h=>?_) fun _=>⟨h1,h2⟩
 have h3:s1.p+1<N:=adv_lt hT h2 (by decide) h
 refine Tot.ite (fun _=>trivial) fun hk=>Tot.ite (fun _=>trivial) fun _=>⟨?_,?_⟩
 ·show s.p+1≤s1.p+1+1
  omega
 ·have hk:(T (s1.p+1)).k=1:=Decidable.not_not.1 hk
  exact hT.lt h3 (.inr (by show(T (s1.p+1)).k≠0;rw[hk];decide))
theorem prms_tot(hT:TokN N T):∀f s,s.p<N→20*(N-s.p)≤f→Tot N s.p (prmsP T f s)
 |0,s,h1,h2=>by omega
 |f+1,s,hp,hf=>by
  rw[prmsP]
  refine(prm_tot hT hp).bind fun x s1 h1 h2=>Tot.ite (fun h=>?_) fun _=>(must_tot hT h2 (by decide)).bind fun _ s2 h3 h4=>⟨by omega,h4⟩
  have hap:(adv s1).p=s1.p+1:=rfl
  exact(prms_tot hT f (adv s1) (adv_lt hT h2 (by decide) h) (by omega)).bind fun l s2 h3 h4=>⟨by omega,h4⟩
theorem params_tot(hT:TokN N T){f:Nat}{s:PS}(hp:s.p<N)(hf:20*(N-s.p)≤f):Tot N s.p (paramsP T f s):=by
 unfold paramsP
 refine(must_tot hT hp (by decide)).bind fun _ s1 h1 h2=>Tot.ite (fun h=>⟨?_,adv_lt hT h2 (by decide) h⟩) fun _=>(prms_tot hT f s1 h2 (by omega)).mono (by omega)
 show s.p≤s1.p+1
 omega
theorem proc_tot(hT:TokN N T){f:Nat}{pr:List ByteArray}{s:PS}(hp:s.p<N)(hf:20*(N-s.p)+12≤f):Tot N (s.p+1) (procP T f pr s):=by
 unfold procP
 refine(must_tot hT hp (by decide)).bind fun _ s1 h1 h2=>(name_tot hT h2).bind fun x s2 h3 h4=>Tot.ite (fun _=>trivial) fun _=>?_
 refine(params_tot hT (s:={s2 with vs:=[]}) h4 (by show 20*(N-s2.p)≤f;omega)).bind fun l s3 h5 h6=>?_
 have h5:s2.p≤s3.p:=h5
 exact((stmt_tot hT f).1 s3 h6 (by omega)).bind fun b s4 h7 h8=>⟨by omega,h8⟩
theorem procs_tot(hT:TokN N T):∀f pr s,s.p<N→20*(N-s.p)+13≤f→Tot N s.p (procsP T f pr s)
 |0,pr,s,h1,h2=>by omega
 |f+1,pr,s,hp,hf=>by
  rw[procsP]
  refine Tot.ite (fun _=>⟨Nat.le_refl _,hp⟩) fun _=>(proc_tot hT hp (by omega)).bind fun x s1 h1 h2=>?_
  exact(procs_tot hT f _ s1 h2 (by omega)).bind fun l s2 h3 h4=>⟨by omega,h4⟩
end
def fuelP:Nat:=100000
inductive ParseR(s:ByteArray):List Prc×Int×Int→Prop
 |lex (p:Nat) (e:Int):TokensR s ([],p,e)→e≠0→ParseR s ([],p,e)
 |ok (acc:List Tkn) (l:List Prc) (s':PS):TokensR s (acc++[endT s],0,0)→TokN (acc.length+1) (tokAt s acc)→procsP (tokAt s acc) fuelP [] ⟨0,0,[]⟩= .ok l s'→ParseR s (l,0,0)
 |err (acc:List Tkn) (p:Nat) (c:Int):TokensR s (acc++[endT s],0,0)→TokN (acc.length+1) (tokAt s acc)→p<acc.length+1→procsP (tokAt s acc) fuelP [] ⟨0,0,[]⟩= .err p c→ParseR s ([],(tokAt s acc p).a,c)
theorem parse_law(s:ByteArray):∃r,ParseR s r∧SC E5 8 [st s] [] (.ret (.tup [procV r.1,i64 r.2.1,i64 r.2.2]) []):=by
 rcases tokens_law s 3000000000 (by decide)with⟨z,h1,h2,p,h3,h4⟩ | ⟨acc,h1,h2,h3⟩
 ·refine⟨([],z.1,z.2.1),?_,parse_lex h1 h2⟩
  rw[h3]
  exact .lex p _ h4 h2
 ·have ht:=procs_tot h2 fuelP [] ⟨0,0,[]⟩ h2.pos (by have:=h2.big;show 20*(acc.length+1-0)+13≤100000;omega)
  have hr:=parse_run h2 (F:=fuelP) (q:=3000000000) (by decide) (by decide) h1
  cases hp:procsP (tokAt s acc) fuelP [] ⟨0,0,[]⟩with
  |out=>rw[hp]at ht;exact ht.elim
  |ok l s'=>
   rw[hp]at hr
   exact⟨(l,0,0),.ok acc l s' h3 h2 hp,hr⟩
  |err p c=>
   rw[hp]at hr
   exact⟨([],(tokAt s acc p).a,c),.err acc p c h3 h2 hr.1 hp,hr.2⟩
end Go.Proofs.YtjfkkokeegpeiaaGreatDoor
/- Reserved words are words: of the tokens of every source. -/
namespace Go.Proofs.YtjfkkokeegpeiaaGreatDoor
open Go Go.Am Go.Proofs.Lx
set_option maxRecDepth 100000
def Kw(x:Tkn):Prop:=Lx.resP x.t=true→x.k=1
theorem kw_head{t:ByteArray}(h:Lx.resP t=true):∃c l,t.data.toList=c::l∧letterI c.toNat=true:=by
 rw[Lx.resP,inP_iff]at h
 simp only[keywords,List.mem_cons,List.not_mem_nil,or_false]at h
 rcases h with h|h|h|h|h|h|h|h|h|h|h|h|h|h|h|h|h|h|h<;>(rw[h];exact⟨_,_,rfl,by decide⟩)
theorem head_of{s:ByteArray}{p n:Nat}(hp:p<s.size){c:UInt8}{l:List UInt8}(h:((s.extract p s.size).extract 0 n).data.toList=c::l):c=s.get! p:=by
 rw[extract_list,extract_list,List.drop_zero,drop_get s p hp]at h
 have h2:s.size-p=(s.size-p-1)+1:=by omega
 rw[h2,List.take_succ_cons]at h
 cases hn:n-0 with
 |zero=>rw[hn]at h;simp at h
 |succ m=>
  rw[hn,List.take_succ_cons]at h
  injection h with h1 h2
  exact h1.symm
theorem tokP_kw{s:ByteArray}{p:Nat}{x:Tkn}(hp:p<s.size)(h:tokP s p=(x,0)):Kw x:=by
 intro hr
 obtain⟨c,l,h3,h4⟩:=kw_head hr
 by_cases h1:letterI ((s.get! p).toNat:Int)=true
 ·rw[tokP_word h1]at h
  unfold wordP at h
  split at h
  ·cases h
  ·cases h;rfl
 ·by_cases h2:digitI ((s.get! p).toNat:Int)=true
  ·rw[tokP_num h1 h2]at h
   unfold numberP at h
   split at h
   ·cases h
   ·split at h
    ·cases h
    ·cases h
     have:=head_of hp h3
     rw[this]at h4
     exact absurd h4 h1
  ·rw[tokP_sym h1 h2]at h
   unfold symbolP at h
   split at h
   ·cases h
   ·cases h
    have:=head_of hp h3
    rw[this]at h4
    exact absurd h4 h1
theorem end_kw(s:ByteArray):Kw (endT s):=fun h=>by
 have h2:Lx.resP ⟨#[]⟩=true:=h
 exact absurd h2 (by decide)
theorem lex_kw{s:ByteArray}{p:Nat}{acc:List Tkn}{r:List Tkn×Nat×Int}(h:Lex s p acc r):(∀x∈acc,Kw x)→∀x∈r.1,Kw x:=by
 induction h with
 |fin _=>
  intro ha x hx
  rcases List.mem_append.1 hx with h|h
  ·exact ha x h
  ·simp only[List.mem_singleton]at h;subst h;exact end_kw s
 |white _ _ _ ih=>exact ih
 |hash _ _ _ ih=>exact ih
 |tok h1 h2 h3 h4 _ ih=>
  intro ha
  refine ih fun x hx=>?_
  rcases List.mem_append.1 hx with h|h
  ·exact ha x h
  ·simp only[List.mem_singleton]at h;subst h;exact(tokP_kw h1 h4:Kw _)
 |err _ _ _ _ _=>intro _ x hx;cases hx
theorem tokK_of{s:ByteArray}{acc:List Tkn}(h:TokensR s (acc++[endT s],0,0)):TokK (acc.length+1) (tokAt s acc):=by
 intro j _
 have ha:∀x∈acc,Kw x:=by
  rcases h with⟨_,h⟩ | ⟨_,h⟩
  ·have:=congrArg (fun r:List Tkn×Nat×Int=>r.1.length) h
   simp at this
  ·exact fun x hx=>lex_kw h (fun x hx=>by cases hx) x (List.mem_append_left _ hx)
 show Kw (tokAt s acc j)
 unfold tokAt
 rw[List.getD_eq_getElem?_getD]
 cases e:acc[j]?with
 |none=>exact end_kw s
 |some x=>exact ha x (List.mem_of_getElem? e)
end Go.Proofs.YtjfkkokeegpeiaaGreatDoor
/- The reference's Parse: the loop over procedures. -/
namespace Go.Proofs.YtjfkkokeegpeiaaGreatDoor
open Go Go.Am Go.Proofs.Lx
set_option maxRecDepth 100000
def xz(N:Nat)(T:Nat→Tkn):g_rfail:=(0,0,0,0,N,(fun j=>(T j).k),(fun j=>(T j).a),(fun j=>(T j).t),(fun j=>(T j).n),0,(fun _=>ByteArray.empty))
theorem xz_good{N:Nat}{T:Nat→Tkn}(hT:TokN N T):XG N T ⟨0,0,[]⟩ (xz N T):=⟨0,_,rfl,fun j b e=>by simp at e,hT.pos,Nat.zero_le _,by simp⟩
def pcA(x:g_rfail)(a:AcP)(nm:Nat→ByteArray):Nat×(Nat→Int)×(Nat→Int)×(Nat→ByteArray)×(Nat→Int)×Int×Int×Int×Int×Nat×(Nat→ByteArray)×(Nat→ByteArray)×(Nat→Nat)×(Nat→Nat→List V)×(Nat→Int)×(Nat→Int)×(Nat→ByteArray)×(Nat→Nat)×(Nat→Nat→List V)×Nat×(Nat→ByteArray):=
 (x.2.2.2.2.1,x.2.2.2.2.2.1,x.2.2.2.2.2.2.1,x.2.2.2.2.2.2.2.1,x.2.2.2.2.2.2.2.2.1,x.1,x.2.1,x.2.2.1,x.2.2.2.1,x.2.2.2.2.2.2.2.2.2.1,x.2.2.2.2.2.2.2.2.2.2,a.1,a.2.1,a.2.2.1,a.2.2.2.1,a.2.2.2.2.1,a.2.2.2.2.2.1,a.2.2.2.2.2.2.1,a.2.2.2.2.2.2.2.1,a.2.2.2.2.2.2.2.2,nm)
def pcE(x:g_rfail)(a:AcP):Nat×Nat×(Nat→Int)×(Nat→Int)×(Nat→ByteArray)×(Nat→Int)×Int×Int×Int×Int×Nat×(Nat→ByteArray)×(Nat→ByteArray)×(Nat→Nat)×(Nat→Nat→List V)×(Nat→Int)×(Nat→Int)×(Nat→ByteArray)×(Nat→Nat)×(Nat→Nat→List V):=
 (a.2.2.2.2.2.2.2.2,x.2.2.2.2.1,x.2.2.2.2.2.1,x.2.2.2.2.2.2.1,x.2.2.2.2.2.2.2.1,x.2.2.2.2.2.2.2.2.1,x.1,x.2.1,x.2.2.1,x.2.2.2.1,x.2.2.2.2.2.2.2.2.2.1,x.2.2.2.2.2.2.2.2.2.2,a.1,a.2.1,a.2.2.1,a.2.2.2.1,a.2.2.2.2.1,a.2.2.2.2.2.1,a.2.2.2.2.2.2.1,a.2.2.2.2.2.2.2.1)
noncomputable abbrev pclp(q m:Nat)(src:ByteArray):RParseT_l0_a→Option RParseT_l0_g:=RParseT_l0 (RTokV q) (rmustZ q) (rmust q) (rnameZ q) (rnameN q) (rparams q) (rblock q) m src
def LPP(N:Nat)(T:Nat→Tkn)(acc:List Prc):PR (List Prc)→RParseT_l0_g→Prop
 | .ok l s,.inl z=>acc++l=[]
 | .ok l s,.inr z=>∃x a,z=pcE x a∧RepP (acc++l) a∧XG N T s x
 | .err p c,.inr z=>∃x a,z=pcE x a∧p<N∧XB N T p c x
 |_,_=>False
def PCs(N:Nat)(T:Nat→Tkn)(acc:List Prc)(pr:List ByteArray)(s:PS)(x:g_rfail):RParseT_l0_a→Prop
 | .inl y=>acc=[]∧pr=[]∧s=⟨0,0,[]⟩∧x=xz N T∧y=tokV N T
 | .inr y=>∃a nm,y=pcA x a nm∧RepP acc a∧Ag nm pr∧pr.length=acc.length
section
variable {N:Nat} {T:Nat→Tkn}
theorem proc_end(q m:Nat)(src:ByteArray)(x:g_rfail)(a:AcP)(nm:Nat→ByteArray)(h:x.2.2.1≠0):pclp q (m+1) src (.inr (pcA x a nm))=some (.inr (pcE x a)):=by
 refine Rs.eq ?_
 unfold pclp RParseT_l0
 refine Rs.step3 fun Q hQ=>?_
 rw[Sum.elim_inr]
 unfold RParseT_l0_t1
 exact Rs.neg (fun hh=>h (beq_iff_eq.1 hh)) (Rs.some rfl)
theorem proc_err1{f:Nat}{pr:List ByteArray}{s:PS}{p:Nat}{c:Int}(e:mustP T w_procedure s= .err p c):procP T f pr s= .err p c:=by
 rw[proc_eq,e];rfl
theorem proc_err2{f:Nat}{pr:List ByteArray}{s s1:PS}{u:Unit}{p:Nat}{c:Int}(e:mustP T w_procedure s= .ok u s1)(e2:newP T pr s1= .err p c):procP T f pr s= .err p c:=by
 rw[proc_eq,e]
 show(newP T pr s1).bind _=_
 rw[e2];rfl
theorem proc_tail{f:Nat}{pr:List ByteArray}{s s1 s2:PS}{u:Unit}{b:ByteArray}(e:mustP T w_procedure s= .ok u s1)(e2:newP T pr s1= .ok b s2):procP T f pr s=(tailP T f s2).bind fun y s4=>.ok ⟨b,y.1,y.2⟩ s4:=by
 rw[proc_eq,e]
 show(newP T pr s1).bind _=_
 rw[e2];rfl
theorem rprocs_rs(hT:TokN N T)(hK:TokK N T)(src:ByteArray){F q:Nat}(hF:F≤1000000000)(hq:2*F+100≤q):∀g,g≤F→∀m,g+1<m→∀(acc:List Prc) (pr:List ByteArray) (s:PS) (x:g_rfail) (y:RParseT_l0_a),PCs N T acc pr s x y→acc.length+g≤F→XG N T s x→procsP T g pr s≠ .out→
 Rs (pclp q m src y) (LPP N T acc (procsP T g pr s)):=by
 intro g
 induction g with
 |zero=>intro _ m _ acc pr s x y _ _ _ ho;rw[procsP]at ho;exact absurd rfl ho
 |succ g ih=>
  intro hg m hm acc pr s x y hy hb h ho
  obtain⟨m,rfl⟩:∃k,m=k+2:=⟨m-2,by omega⟩
  rw[procsP]at ho⊢
  have next:¬(T s.p).k=0→∀(v:g_rfail) (a:AcP) (nm:Nat→ByteArray),pr.length=acc.length→∀r,procP T g pr s=r→
   (match r with| .ok c s1=>XG N T s1 v∧RepP (acc++[c]) a∧Ag nm (pr++[c.x]) | .err p c=>p<N∧XB N T p c v| .out=>False)→
   Rs (pclp q (m+1) src (.inr (pcA v a nm))) (LPP N T acc (if(T s.p).k=0 then .ok [] s else(procP T g pr s).bind fun x s1=>(procsP T g (pr++[x.x]) s1).bind fun l s2=>.ok (x::l) s2)):=by
   intro hk v a nm hl r e hw
   rw[if_neg hk]at ho⊢
   cases r with
   |out=>exact hw.elim
   |err p c=>
    rw[e]
    exact⟨_,proc_end q m src v a nm hw.2.bad,v,a,rfl,hw.1,hw.2⟩
   |ok c s1=>
    rw[e]at ho⊢
    dsimp only[PR.bind]at ho⊢
    have ho2:=PR.bind_out ho
    refine(ih (by omega) (m+1) (by omega) (acc++[c]) (pr++[c.x]) s1 v (.inr (pcA v a nm)) ⟨a,nm,rfl,hw.2.1,hw.2.2,by simp[hl]⟩ (by simp;omega) hw.1 ho2).mono fun z hz=>?_
    cases e2:procsP T g (pr++[c.x]) s1 with
    |out=>exact absurd e2 ho2
    |err p c=>rw[e2]at hz;rcases z with z|z<;>exact hz
    |ok l s3=>
     rw[e2]at hz
     rcases z with z|z
     ·have hz:(acc++[c])++l=[]:=hz
      exact absurd hz (by simp)
     ·rw[show LPP N T (acc++[c]) (.ok l s3) (.inr z)=∃x a,z=pcE x a∧RepP ((acc++[c])++l) a∧XG N T s3 x from rfl,List.append_assoc]at hz
      exact hz
  obtain⟨q',rfl⟩:∃k,q=k+2:=⟨q-2,by omega⟩
  unfold pclp RParseT_l0 at next⊢
  refine Rs.step3 fun Q hQ=>?_
  rcases y with y|y
  ·obtain⟨rfl,rfl,rfl,rfl,rfl⟩:=hy
   rw[Sum.elim_inl]
   unfold RParseT_l0_t0
   have hpos:=hT.pos
   refine Rs.pos (show(0:Int)≤0∧(0:Int)< ((N:Nat):Int)by omega) ?_
   by_cases hk:(T 0).k=0
   ·refine Rs.neg (fun hh=>bne_iff_ne.1 hh hk) (Rs.some ?_)
    rw[if_pos hk]
    exact rfl
   ·refine Rs.pos (bne_iff_ne.2 hk) ?_
    obtain⟨z,hz1,hz2⟩:=rmust_rs hT (q'+2) h w_procedure (by decide)
    refine Rs.bind (P:=fun y=>y=z) (Rs.of hz1) fun y hy=>?_
    rw[hy]
    cases e:mustP T w_procedure ⟨0,0,[]⟩with
    |out=>rw[e]at hz2;exact hz2.elim
    |err p c=>
     rw[e]at hz2
     refine Rs.bind (rnameZ_bq (q'+1) hz2.2 1) fun v hv=>tail_bq q' hv fun zl zb hx=>Rs.some (hQ _ ?_)
     exact next hk (pN zb) (acP1 (v.1,zl.1,zl.2.1,zl.2.2.1,(zb.1,zb.2.1,zb.2.2.1,zb.2.2.2.1,zb.2.2.2.2.1))) (fun _=>v.1) rfl _ (proc_err1 e) ⟨hz2.1,hx⟩
    |ok u s1=>
     rw[e]at hz2
     have hn:newP T [] s1=nameP T s1:=by
      unfold newP
      cases nameP T s1<;>rfl
     obtain⟨v,hv1,hv2⟩:=rnameZ_rs hT (q'+1) hz2.2
     refine Rs.bind (P:=fun y=>y=v) (Rs.of hv1) fun y hy=>?_
     rw[hy]
     cases e2:nameP T s1 with
     |out=>rw[e2]at hv2;exact hv2.elim
     |err p c=>
      rw[e2]at hv2
      refine tail_bq q' hv2.2 fun zl zb hx=>Rs.some (hQ _ ?_)
      exact next hk (pN zb) (acP1 (v.1,zl.1,zl.2.1,zl.2.2.1,(zb.1,zb.2.1,zb.2.2.1,zb.2.2.2.1,zb.2.2.2.2.1))) (fun _=>v.1) rfl _ (proc_err2 e (hn.trans e2)) ⟨hv2.1,hx⟩
     |ok b s2=>
      rw[e2]at hv2
      have hvb:v.1=b:=hv2.1
      have ho2:tailP T g s2≠ .out:=by
       rw[if_neg hk,proc_tail e (hn.trans e2)]at ho
       exact PR.bind_out (PR.bind_out ho)
      refine tail_rs hT hK (q:=q'+2) (by omega) (by omega) hv2.2 ho2 (fun l t s4 zl zb e3 hl ht hx=>Rs.some (hQ _ ?_)) (fun p c zl zb e3 hp hx=>Rs.some (hQ _ ?_))
      ·exact next hk (pN zb) (acP1 (v.1,zl.1,zl.2.1,zl.2.2.1,(zb.1,zb.2.1,zb.2.2.1,zb.2.2.2.1,zb.2.2.2.2.1))) (fun _=>v.1) rfl (.ok ⟨b,l,t⟩ s4) (by rw[proc_tail e (hn.trans e2),e3];rfl) ⟨hx,acP1_rep ⟨hvb,hl,ht⟩,fun j b' hb'=>by
        cases j with
        |zero=>simp only[List.nil_append,List.getElem?_cons_zero,Option.some.injEq]at hb';rw[←hb'];exact hvb
        |succ j=>simp at hb'⟩
      ·exact next hk (pN zb) (acP1 (v.1,zl.1,zl.2.1,zl.2.2.1,(zb.1,zb.2.1,zb.2.2.1,zb.2.2.2.1,zb.2.2.2.2.1))) (fun _=>v.1) rfl (.err p c) (by rw[proc_tail e (hn.trans e2),e3];rfl) ⟨hp,hx⟩
  ·obtain⟨a,nm,rfl,ha,hnm,hlen⟩:=hy
   have hal:=ha.1
   rw[Sum.elim_inr]
   unfold RParseT_l0_t1
   refine Rs.pos (beq_iff_eq.2 h.good) (Rs.pos h.bounds ?_)
   have hkk:(pcA x a nm).2.1 (Int.toNat (pcA x a nm).2.2.2.2.2.1)=(T s.p).k:=h.kind
   rw[hkk]
   by_cases hk:(T s.p).k=0
   ·refine Rs.neg (fun hh=>bne_iff_ne.1 hh hk) (Rs.some ?_)
    rw[if_pos hk]
    exact⟨x,a,rfl,by rw[List.append_nil];exact ha,h⟩
   ·refine Rs.pos (bne_iff_ne.2 hk) ?_
    have hcnt:(pcA x a nm).2.2.2.2.2.2.2.2.2.2.2.2.2.2.2.2.2.2.2.1=pr.length:=hal.trans hlen.symm
    have g1:(pr.length+1)*16≤roomBound∧pr.length+1≤maxLen:=⟨by unfold roomBound;omega,by unfold maxLen;omega⟩
    have g2:(pr.length+1)*96≤roomBound∧pr.length+1≤maxLen∧pr.length≤pr.length:=⟨by unfold roomBound;omega,by unfold maxLen;omega,Nat.le_refl _⟩
    have wl:w (((pr.length:Nat):Int)+(1:Int))=((pr.length:Nat):Int)+1:=by rw[w_succ (by omega)];omega
    have hpl:pr.length≤4000000000:=by omega
    have hpq:pr.length<q'+2:=by omega
    rw[hcnt,wl]
    obtain⟨z,hz1,hz2⟩:=rmust_rs hT (q'+2) h w_procedure (by decide)
    refine Rs.bind (P:=fun y=>y=z) (Rs.of hz1) fun y hy=>?_
    rw[hy]
    cases e:mustP T w_procedure s with
    |out=>rw[e]at hz2;exact hz2.elim
    |err p c=>
     rw[e]at hz2
     refine Rs.bind (rnameN_bq (q'+2) hnm hpl hpq hz2.2 (((pr.length:Nat):Int)+1)) fun v hv=>?_
     refine Rs.pos ⟨g1.1,g1.2,by rw[hv.2];exact Nat.le_refl _⟩ (tail_bq q' hv.1 fun zl zb hx=>Rs.pos g2 (Rs.some (hQ _ ?_)))
     have key:=next hk (pN zb) (acPN a (v.1,zl.1,zl.2.1,zl.2.2.1,(zb.1,zb.2.1,zb.2.2.1,zb.2.2.2.1,zb.2.2.2.2.1))) (fun j=>if j<pr.length then v.2.2.1 j else v.1) hlen _ (proc_err1 e) ⟨hz2.1,hx⟩
     unfold acPN at key
     rw[hal,←hlen]at key
     exact key
    |ok u s1=>
     rw[e]at hz2
     obtain⟨v,hv1,hv2,hv3⟩:=rnameN_rs hT (q'+2) hnm hpl hpq hz2.2
     refine Rs.bind (P:=fun y=>y=v) (Rs.of hv1) fun y hy=>?_
     rw[hy]
     refine Rs.pos ⟨g1.1,g1.2,by rw[hv3];exact Nat.le_refl _⟩ ?_
     cases e2:newP T pr s1 with
     |out=>rw[e2]at hv2;exact hv2.elim
     |err p c=>
      rw[e2]at hv2
      refine tail_bq q' hv2.2 fun zl zb hx=>Rs.pos g2 (Rs.some (hQ _ ?_))
      have key:=next hk (pN zb) (acPN a (v.1,zl.1,zl.2.1,zl.2.2.1,(zb.1,zb.2.1,zb.2.2.1,zb.2.2.2.1,zb.2.2.2.2.1))) (fun j=>if j<pr.length then v.2.2.1 j else v.1) hlen _ (proc_err2 e e2) ⟨hv2.1,hx⟩
      unfold acPN at key
      rw[hal,←hlen]at key
      exact key
     |ok b s2=>
      rw[e2]at hv2
      have hvb:v.1=b:=hv2.1.1
      have hvn:v.2.2.1=nm:=hv2.1.2
      have ho2:tailP T g s2≠ .out:=by
       rw[if_neg hk,proc_tail e e2]at ho
       exact PR.bind_out (PR.bind_out ho)
      refine tail_rs hT hK (q:=q'+2) (by omega) (by omega) hv2.2 ho2 (fun l t s4 zl zb e3 hl ht hx=>Rs.pos g2 (Rs.some (hQ _ ?_))) (fun p c zl zb e3 hp hx=>Rs.pos g2 (Rs.some (hQ _ ?_)))
      ·have key:=next hk (pN zb) (acPN a (v.1,zl.1,zl.2.1,zl.2.2.1,(zb.1,zb.2.1,zb.2.2.1,zb.2.2.2.1,zb.2.2.2.2.1))) (fun j=>if j<pr.length then v.2.2.1 j else v.1) hlen (.ok ⟨b,l,t⟩ s4) (by rw[proc_tail e e2,e3];rfl) ⟨hx,acPN_rep ha ⟨hvb,hl,ht⟩,by rw[hvn,hvb];exact hnm.push⟩
       unfold acPN at key
       rw[hal,←hlen]at key
       exact key
      ·have key:=next hk (pN zb) (acPN a (v.1,zl.1,zl.2.1,zl.2.2.1,(zb.1,zb.2.1,zb.2.2.1,zb.2.2.2.1,zb.2.2.2.2.1))) (fun j=>if j<pr.length then v.2.2.1 j else v.1) hlen (.err p c) (by rw[proc_tail e e2,e3];rfl) ⟨hp,hx⟩
       unfold acPN at key
       rw[hal,←hlen]at key
       exact key
end
end Go.Proofs.YtjfkkokeegpeiaaGreatDoor
/- The reference's Parse answers as the program's. -/
namespace Go.Proofs.YtjfkkokeegpeiaaGreatDoor
open Go Go.Am Go.Proofs.Lx
set_option maxRecDepth 100000
theorem rparse_lex{q:Nat}{s:ByteArray}{z:g_RTokV}(hz:RTokV q s=some z)(he:z.2.1≠0):SC E5 9 [st s] [] (.ret (.tup [procV [],i64 z.1,i64 z.2.1]) []):=by
 have hp:RParseT q s=some (.inl (z.1,z.2.1)):=by
  unfold RParseT t_RParseT
  rw[hz]
  dsimp only[Option.bind_some]
  rw[if_pos (by simpa using he)]
 exact SC.le (sc_RParseT q s _ hp) (Le.tup (LeL.cons Le.nil_ro (LeL.cons (Le.refl _) (LeL.cons (Le.refl _) LeL.nil))))
theorem rparse_run{N:Nat}{T:Nat→Tkn}(hT:TokN N T)(hK:TokK N T){F q:Nat}(hF:F≤1000000000)(hq:2*F+100≤q){s:ByteArray}(hz:RTokV q s=some (0,0,tokV N T))(ho:procsP T F [] ⟨0,0,[]⟩≠ .out):
 match procsP T F [] ⟨0,0,[]⟩with
 | .ok l _=>SC E5 9 [st s] [] (.ret (.tup [procV l,i64 0,i64 0]) [])
 | .err p c=>SC E5 9 [st s] [] (.ret (.tup [procV [],i64 (T p).a,i64 c]) [])
 | .out=>True:=by
 obtain⟨z,h1,h2⟩:=rprocs_rs hT hK s hF hq F (Nat.le_refl _) q (by omega) [] [] ⟨0,0,[]⟩ (xz N T) (.inl (tokV N T)) ⟨rfl,rfl,rfl,rfl,rfl⟩ (by simp) (xz_good hT) ho
 have hp:∀r,(Sum.elim (fun z538a=>(some (.inl ((0:Int),(0:Int))):Option g_RParseT)) (fun z538b:Nat×Nat×(Nat→Int)×(Nat→Int)×(Nat→ByteArray)×(Nat→Int)×Int×Int×Int×Int×Nat×(Nat→ByteArray)×(Nat→ByteArray)×(Nat→Nat)×(Nat→Nat→List V)×(Nat→Int)×(Nat→Int)×(Nat→ByteArray)×(Nat→Nat)×(Nat→Nat→List V)=>
  if(z538b.2.2.2.2.2.2.2.2.1 !=(0:Int))=true then some (.inl ((z538b.2.2.2.2.2.2.2.2.2.1,z538b.2.2.2.2.2.2.2.2.1)))
  else some (.inr ((z538b.1,z538b.2.2.2.2.2.2.2.2.2.2.2.2)))) z)=some r→RParseT q s=some r:=by
  intro r hr
  unfold RParseT t_RParseT
  rw[hz]
  dsimp only[Option.bind_some]
  rw[if_neg (by simp)]
  rw[show RParseT_l0 (RTokV q) (rmustZ q) (rmust q) (rnameZ q) (rnameN q) (rparams q) (rblock q) q s (.inl (tokV N T))=some z from h1]
  exact hr
 cases hr:procsP T F [] ⟨0,0,[]⟩with
 |out=>trivial
 |err p c=>
  rw[hr]at h2
  rcases z with z|z
  ·exact h2.elim
  ·obtain⟨x,a,rfl,hpN,hb⟩:=h2
   obtain⟨b1,p',o,nv,v,rfl,hp'⟩:=hb
   have key:=hp (.inl ((T p).a,c)) (if_pos (bne_iff_ne.2 b1))
   exact SC.le (sc_RParseT q s _ key) (Le.tup (LeL.cons Le.nil_ro (LeL.cons (Le.refl _) (LeL.cons (Le.refl _) LeL.nil))))
 |ok l s2=>
  rw[hr]at h2
  rcases z with z|z
  ·have e:l=[]:=by simpa[LPP]using h2
   subst e
   exact SC.le (sc_RParseT q s _ (hp (.inl (0,0)) rfl)) (Le.tup (LeL.cons Le.nil_ro (LeL.cons (Le.refl _) (LeL.cons (Le.refl _) LeL.nil))))
  ·obtain⟨x,b,rfl,hb,hx⟩:=h2
   rw[List.nil_append]at hb
   have hg:=hx.good
   have key:=hp (.inr (b.2.2.2.2.2.2.2.2,b.1,b.2.1,b.2.2.1,b.2.2.2.1,b.2.2.2.2.1,b.2.2.2.2.2.1,b.2.2.2.2.2.2.1,b.2.2.2.2.2.2.2.1)) (if_neg (fun hh=>bne_iff_ne.1 hh hg))
   have h3:=SC.giveM (L2:=[]) 0 (sc_RParseT q s _ key) (by rfl) (by simp[V.bw,V.bw2,V.bw1,Am.hp,V.pure,pureL])
   simp only[V.bw,V.bw2,V.bw1,Am.hp,List.map_cons,List.map_nil,List.getD_eq_getElem?_getD,List.getElem?_cons_succ,List.getElem?_cons_zero,Option.getD_some,Nat.zero_add,Nat.le_refl,and_self,if_true]at h3
   exact SC.le h3 (Le.tup (LeL.cons (leP hb) (LeL.cons (Le.refl _) (LeL.cons (Le.refl _) LeL.nil))))
theorem rparse_law{s:ByteArray}{r:List Prc×Int×Int}(h:ParseR s r):SC E5 9 [st s] [] (.ret (.tup [procV r.1,i64 r.2.1,i64 r.2.2]) []):=by
 rcases rtokens_law s 300000 (by decide)with⟨z,h1,h2,p,h3,h4⟩ | ⟨acc,h1,h2,h3⟩
 ·cases h with
  |lex p' e g1 g2=>
   have:=tokR_det h4 g1
   have e1:p=p':=congrArg (fun r=>r.2.1) this
   have e2:z.2.1=e:=congrArg (fun r=>r.2.2) this
   have:=rparse_lex h1 h2
   rw[h3,e1,e2]at this
   exact this
  |ok acc l s' g1 g2 g3=>
   have:=congrArg (fun r=>r.2.2) (tokR_det h4 g1)
   exact absurd this h2
  |err acc p' c g1 g2 g3 g4=>
   have:=congrArg (fun r=>r.2.2) (tokR_det h4 g1)
   exact absurd this h2
 ·have inj:∀{acc':List Tkn},TokensR s (acc'++[endT s],0,0)→acc'=acc:=fun g=>by
   have:=congrArg (fun r=>r.1) (tokR_det g h3)
   exact List.append_cancel_right this
  cases h with
  |lex p' e g1 g2=>
   have:=congrArg (fun r=>r.2.2) (tokR_det g1 h3)
   exact absurd this g2
  |ok acc' l s' g1 g2 g3=>
   obtain rfl:=inj g1
   have hr:=rparse_run h2 (tokK_of h3) (F:=fuelP) (q:=300000) (by decide) (by decide) h1 (by rw[g3];intro h;cases h)
   rw[g3]at hr
   exact hr
  |err acc' p' c g1 g2 g3 g4=>
   obtain rfl:=inj g1
   have hr:=rparse_run h2 (tokK_of h3) (F:=fuelP) (q:=300000) (by decide) (by decide) h1 (by rw[g4];intro h;cases h)
   rw[g4]at hr
   exact hr
end Go.Proofs.YtjfkkokeegpeiaaGreatDoor
/- Same, SameAll, Expr, lifted. -/
namespace Go.Proofs.YtjfkkokeegpeiaaGreatDoor
open Go Go.Am Go.Proofs
set_option maxRecDepth 100000
def opK(f:Nat→List V)(j:Nat):Int:=vI ((f j).getD 0 .junk)
def opN(f:Nat→List V)(j:Nat):Int:=vI ((f j).getD 1 .junk)
def opS(f:Nat→List V)(j:Nat):ByteArray:=vS ((f j).getD 2 .junk)
def opM(f:Nat→List V)(j:Nat):Nat:=vRoN ((f j).getD 3 .junk)
def opF(f:Nat→List V)(j:Nat):Nat→List V:=vRoF ((f j).getD 3 .junk)
def OpenN(f:Nat→List V):Prop:=∀j,f j=[i64 (opK f j),i64 (opN f j),st (opS f j),.ro 4 (opM f j) (opF f j)]
theorem open_eq{f:Nat→List V}(h:OpenN f):(fun j=>[i64 (opK f j),i64 (opN f j),st (opS f j),.ro 4 (opM f j) (opF f j)])=f:=funext fun j=>(h j).symm
abbrev a_Same:Type:=Int×Int×ByteArray×Nat×FL×Int×Int×ByteArray×Nat×FL
abbrev g_Same:Type:=Bool
def A_Same:AR a_Same:=fun x=>([.agg [i64 x.1,i64 x.2.1,st x.2.2.1,.ro 4 x.2.2.2.1 x.2.2.2.2.1],.agg [i64 x.2.2.2.2.2.1,i64 x.2.2.2.2.2.2.1,st x.2.2.2.2.2.2.2.1,.ro 4 x.2.2.2.2.2.2.2.2.1 x.2.2.2.2.2.2.2.2.2]],[])
def d_Same(t:TT):a_Same:=((vI (ca t 0 0)),vI (ca t 0 1),vS (ca t 0 2),vRoN (ca t 0 3),vRoF (ca t 0 3),vI (ca t 1 0),vI (ca t 1 1),vS (ca t 1 2),vRoN (ca t 1 3),vRoF (ca t 1 3))
theorem v_Same:VI A_Same:=vd d_Same fun _=>rfl
def R_Same:g_Same→CRes:=fun z=>.ret (bo z) []
abbrev a_SameN:Type:=Int×Int×ByteArray×Nat×FI×FI×FS×FN×FM×Int×Int×ByteArray×Nat×FI×FI×FS×FN×FM
abbrev g_SameN:Type:=Bool
def A_SameN:AR a_SameN:=fun x=>([.agg [i64 x.1,i64 x.2.1,st x.2.2.1,.ro 4 x.2.2.2.1 (fun j=>[i64 (x.2.2.2.2.1 j),i64 (x.2.2.2.2.2.1 j),st (x.2.2.2.2.2.2.1 j),.ro 4 (x.2.2.2.2.2.2.2.1 j) (x.2.2.2.2.2.2.2.2.1 j)])],.agg [i64 x.2.2.2.2.2.2.2.2.2.1,i64 x.2.2.2.2.2.2.2.2.2.2.1,st x.2.2.2.2.2.2.2.2.2.2.2.1,.ro 4 x.2.2.2.2.2.2.2.2.2.2.2.2.1 (fun j=>[i64 (x.2.2.2.2.2.2.2.2.2.2.2.2.2.1 j),i64 (x.2.2.2.2.2.2.2.2.2.2.2.2.2.2.1 j),st (x.2.2.2.2.2.2.2.2.2.2.2.2.2.2.2.1 j),.ro 4 (x.2.2.2.2.2.2.2.2.2.2.2.2.2.2.2.2.1 j) (x.2.2.2.2.2.2.2.2.2.2.2.2.2.2.2.2.2 j)])]],[])
def R_SameN:g_SameN→CRes:=fun z=>.ret (bo z) []
abbrev SameN_l0_a:Type:=Int
abbrev SameN_l0_g:Type:=(Unit)⊕(Unit)
def SameN_l0_S(x:a_SameN)(y:SameN_l0_a):St:={fr:=[V.junk,V.junk,V.ptr 0 0,V.ptr 1 0,V.junk,i64 y]++jk 47,H:=hp [some (Chunk.blk [i64 x.1,i64 x.2.1,st x.2.2.1,V.ro 4 x.2.2.2.1 fun j=>[i64 (x.2.2.2.2.1 j),i64 (x.2.2.2.2.2.1 j),st (x.2.2.2.2.2.2.1 j),V.ro 4 (x.2.2.2.2.2.2.2.1 j) (x.2.2.2.2.2.2.2.2.1 j)]]),some (Chunk.blk [i64 x.2.2.2.2.2.2.2.2.2.1,i64 x.2.2.2.2.2.2.2.2.2.2.1,st x.2.2.2.2.2.2.2.2.2.2.2.1,V.ro 4 x.2.2.2.2.2.2.2.2.2.2.2.2.1 fun j=>[i64 (x.2.2.2.2.2.2.2.2.2.2.2.2.2.1 j),i64 (x.2.2.2.2.2.2.2.2.2.2.2.2.2.2.1 j),st (x.2.2.2.2.2.2.2.2.2.2.2.2.2.2.2.1 j),V.ro 4 (x.2.2.2.2.2.2.2.2.2.2.2.2.2.2.2.2.1 j) (x.2.2.2.2.2.2.2.2.2.2.2.2.2.2.2.2.2 j)]])],nx:=2,rt:=0,me:=19}
def SameN_l0_d(s:St):SameN_l0_a:=(vI (s.fr.getD 5 .junk))
theorem SameN_l0_u(x:a_SameN):VL (SameN_l0_S x):=vl SameN_l0_d fun _=>rfl
def SameN_l0_T(x:a_SameN):SameN_l0_g→Ex×St:=(Sum.elim (fun z=>(Ex.ret,{fr:=jk 4++[bo false]++jk 48,H:=hp [],nx:=0,rt:=0,me:=19})) (fun z=>(Ex.exit 0,{fr:=[V.junk]++jk 52,H:=hp [],nx:=0,rt:=0,me:=19})))
def SameN_l0_t{β:Type}(c_Same:a_Same→Option g_Same)(x:a_SameN)(y:SameN_l0_a)(nx:SameN_l0_a→Option β)(dn:SameN_l0_g→Option β):Option β:=
 if decide (y< ((x.2.2.2.1:Nat):Int))=true then if 0≤y∧y< ((x.2.2.2.1:Nat):Int)then if 0≤y∧y< ((x.2.2.2.2.2.2.2.2.2.2.2.2.1:Nat):Int)then(c_Same (x.2.2.2.2.1 (Int.toNat y),x.2.2.2.2.2.1 (Int.toNat y),x.2.2.2.2.2.2.1 (Int.toNat y),x.2.2.2.2.2.2.2.1 (Int.toNat y),x.2.2.2.2.2.2.2.2.1 (Int.toNat y),x.2.2.2.2.2.2.2.2.2.2.2.2.2.1 (Int.toNat y),x.2.2.2.2.2.2.2.2.2.2.2.2.2.2.1 (Int.toNat y),x.2.2.2.2.2.2.2.2.2.2.2.2.2.2.2.1 (Int.toNat y),x.2.2.2.2.2.2.2.2.2.2.2.2.2.2.2.2.1 (Int.toNat y),x.2.2.2.2.2.2.2.2.2.2.2.2.2.2.2.2.2 (Int.toNat y))).bind fun z57=>if(!z57)=true then dn (.inl ())else nx (w (y+1))else none else none else dn (.inr ())
theorem SameN_l0_n{β:Type}(c_Same)(x)(y)(nx:SameN_l0_a→Option β)(dn):SameN_l0_t c_Same x y nx dn=(SameN_l0_t c_Same x y (fun y=>some (.inl y)) (fun z=>some (.inr z))).bind fun r=>Sum.elim nx dn r:=by
 unfold SameN_l0_t
 repeat' first|exact n0|refine n1 fun _=>?_|refine n2 ?_ ?_|refine n3 (fun _=>?_) fun _=>?_|rfl
theorem SameN_l0_r(c_Same)(x)(y)(lo:LoopT):loopK E5 (ftb 19 A_Same R_Same c_Same ca0) lo 0 44 (bodyOf E5 19 0) (SameN_l0_S x y) (KCM [(0,0)] 16)=SameN_l0_t (vf A_Same c_Same) x y (fun y=>lo 0 44 (bodyOf E5 19 0) (SameN_l0_S x y) (KCM [(0,0)] 16)) (fun z=>some (.l (SameN_l0_T x z).1 (SameN_l0_T x z).2)):=by kernel_rfl
noncomputable def SameN_l0(c_Same:a_Same→Option g_Same)(q:Nat)(x:a_SameN):SameN_l0_a→Option SameN_l0_g:=lpG (fun y=>SameN_l0_t c_Same x y (fun y=>some (.inl y)) (fun z=>some (.inr z))) q
theorem SameN_l0_s(c_Same)(h_Same:Lw E5 19 A_Same R_Same c_Same)(q:Nat)(x:a_SameN):Ll E5 (bodyOf E5 19 0) (SameN_l0_S x) (SameN_l0_T x) (SameN_l0 c_Same q x):=
 slp (fk h_Same ca0_sound) hX5 (fun lo y=>(SameN_l0_r c_Same x y lo).trans (by rw[v_Same];exact SameN_l0_n _ _ _ _ _)) (fun z=>by rcases z with z|z<;>kernel_rfl) q
def t_SameN{β:Type}(c_Same:a_Same→Option g_Same)(l_SameN_l0:SameN_l0_a→Option SameN_l0_g)(x:a_SameN)(dn:g_SameN→Option β):Option β:=
 if(x.1 !=x.2.2.2.2.2.2.2.2.2.1)=true then dn false else if(x.2.1 !=x.2.2.2.2.2.2.2.2.2.2.1)=true then dn false else if(!x.2.2.1.toList==x.2.2.2.2.2.2.2.2.2.2.2.1.toList)=true then dn false else if(((x.2.2.2.1:Nat):Int)!=((x.2.2.2.2.2.2.2.2.2.2.2.2.1:Nat):Int))=true then dn false else(l_SameN_l0 (0)).bind fun z25=>Sum.elim (fun z25a=>dn false) (fun z25b=>dn true) z25
theorem n_SameN{β:Type}(c_Same)(l_SameN_l0)(x)(dn:g_SameN→Option β):t_SameN c_Same l_SameN_l0 x dn=(t_SameN c_Same l_SameN_l0 x some).bind dn:=by
 unfold t_SameN
 repeat' first|exact n0|refine n1 fun _=>?_|refine n2 ?_ ?_|refine n3 (fun _=>?_) fun _=>?_|rfl
theorem r_SameN(c_Same)(l_SameN_l0)(x):callK E5 (ftb 19 A_Same R_Same c_Same ca0) (lt2 0 (fun _=>true) (bodyOf E5 19 0) (SameN_l0_S x) (SameN_l0_T x) l_SameN_l0 lo0) 19 (A_SameN x).1 (A_SameN x).2 K=t_SameN (vf A_Same c_Same) (lf (bodyOf E5 19 0) (SameN_l0_S x) l_SameN_l0) x (fun z=>some (.c (R_SameN z))):=by kernel_rfl
theorem s_SameN(c_Same)(h_Same:Lw E5 19 A_Same R_Same c_Same)(q:Nat):Lw E5 19 A_SameN R_SameN fun x=>t_SameN c_Same (SameN_l0 c_Same q x) x some:=sof hW5 hX5 (fk h_Same ca0_sound) (fun x=>(lk2 (SameN_l0_s c_Same h_Same q x) lo0_sound)) fun x=>(r_SameN c_Same (SameN_l0 c_Same q x) x).trans (by rw[v_Same,SameN_l0_u,n_SameN]<;>rfl)
open Classical in
noncomputable def Same:Nat→a_Same→Option g_Same
 |0,_=>none
 |q+1,x=>if OpenN x.2.2.2.2.1∧OpenN x.2.2.2.2.2.2.2.2.2 then t_SameN (Same q) (SameN_l0 (Same q) q (x.1,x.2.1,x.2.2.1,x.2.2.2.1,opK x.2.2.2.2.1,opN x.2.2.2.2.1,opS x.2.2.2.2.1,opM x.2.2.2.2.1,opF x.2.2.2.2.1,x.2.2.2.2.2.1,x.2.2.2.2.2.2.1,x.2.2.2.2.2.2.2.1,x.2.2.2.2.2.2.2.2.1,opK x.2.2.2.2.2.2.2.2.2,opN x.2.2.2.2.2.2.2.2.2,opS x.2.2.2.2.2.2.2.2.2,opM x.2.2.2.2.2.2.2.2.2,opF x.2.2.2.2.2.2.2.2.2)) (x.1,x.2.1,x.2.2.1,x.2.2.2.1,opK x.2.2.2.2.1,opN x.2.2.2.2.1,opS x.2.2.2.2.1,opM x.2.2.2.2.1,opF x.2.2.2.2.1,x.2.2.2.2.2.1,x.2.2.2.2.2.2.1,x.2.2.2.2.2.2.2.1,x.2.2.2.2.2.2.2.2.1,opK x.2.2.2.2.2.2.2.2.2,opN x.2.2.2.2.2.2.2.2.2,opS x.2.2.2.2.2.2.2.2.2,opM x.2.2.2.2.2.2.2.2.2,opF x.2.2.2.2.2.2.2.2.2) some else none
theorem sc_Same:∀q x z,Same q x=some z→SC E5 19 (A_Same x).1 (A_Same x).2 (R_Same z):=by
 intro q
 induction q with
 |zero=>intro x z h;cases h
 |succ q ih=>
  intro x z h
  unfold Same at h
  split at h
  ·rename_i hO
   have this:=s_SameN (Same q) ih q (x.1,x.2.1,x.2.2.1,x.2.2.2.1,opK x.2.2.2.2.1,opN x.2.2.2.2.1,opS x.2.2.2.2.1,opM x.2.2.2.2.1,opF x.2.2.2.2.1,x.2.2.2.2.2.1,x.2.2.2.2.2.2.1,x.2.2.2.2.2.2.2.1,x.2.2.2.2.2.2.2.2.1,opK x.2.2.2.2.2.2.2.2.2,opN x.2.2.2.2.2.2.2.2.2,opS x.2.2.2.2.2.2.2.2.2,opM x.2.2.2.2.2.2.2.2.2,opF x.2.2.2.2.2.2.2.2.2) z h
   unfold A_SameN at this
   unfold A_Same
   simp only at this⊢
   rw[open_eq hO.1,open_eq hO.2]at this
   exact this
  ·cases h
abbrev a_Itoa:Type:=Int
abbrev g_Itoa:Type:=ByteArray
noncomputable def Itoa(q:Nat)(x:a_Itoa):Option g_Itoa:=if-9223372036854775808≤x∧x≤9223372036854775807 then some ⟨(Lib.itoa x).toArray⟩else none
end Go.Proofs.YtjfkkokeegpeiaaGreatDoor
/- The reference's Expr, lifted. -/
namespace Go.Proofs.YtjfkkokeegpeiaaGreatDoor
open Go Go.Am Go.Proofs
set_option maxRecDepth 100000
abbrev a_SameAll:Type:=Nat×FS×FN×(Nat→Nat→ByteArray)×(Nat→Nat→ByteArray)×FI×FI×FS×FN×FM×Nat×FS×FN×(Nat→Nat→ByteArray)×(Nat→Nat→ByteArray)×FI×FI×FS×FN×FM
abbrev g_SameAll:Type:=Bool
def A_SameAll:AR a_SameAll:=fun x=>([.ro 6 x.1 (fun j=>[st (x.2.1 j),.ro 2 (x.2.2.1 j) (fun i=>[st (x.2.2.2.1 j i),st (x.2.2.2.2.1 j i)]),i64 (x.2.2.2.2.2.1 j),i64 (x.2.2.2.2.2.2.1 j),st (x.2.2.2.2.2.2.2.1 j),.ro 4 (x.2.2.2.2.2.2.2.2.1 j) (x.2.2.2.2.2.2.2.2.2.1 j)]),.ro 6 x.2.2.2.2.2.2.2.2.2.2.1 (fun j=>[st (x.2.2.2.2.2.2.2.2.2.2.2.1 j),.ro 2 (x.2.2.2.2.2.2.2.2.2.2.2.2.1 j) (fun i=>[st (x.2.2.2.2.2.2.2.2.2.2.2.2.2.1 j i),st (x.2.2.2.2.2.2.2.2.2.2.2.2.2.2.1 j i)]),i64 (x.2.2.2.2.2.2.2.2.2.2.2.2.2.2.2.1 j),i64 (x.2.2.2.2.2.2.2.2.2.2.2.2.2.2.2.2.1 j),st (x.2.2.2.2.2.2.2.2.2.2.2.2.2.2.2.2.2.1 j),.ro 4 (x.2.2.2.2.2.2.2.2.2.2.2.2.2.2.2.2.2.2.1 j) (x.2.2.2.2.2.2.2.2.2.2.2.2.2.2.2.2.2.2.2 j)])],[])
def R_SameAll:g_SameAll→CRes:=fun z=>.ret (bo z) []
abbrev SameAll_l2_a:Type:=Int×Int
abbrev SameAll_l2_g:Type:=(Unit)⊕(Int)
def SameAll_l2_S(x:a_SameAll)(y:SameAll_l2_a):St:={fr:=[V.ro 6 x.1 fun j=>[st (x.2.1 j),V.ro 2 (x.2.2.1 j) fun j_1=>[st (x.2.2.2.1 j j_1),st (x.2.2.2.2.1 j j_1)],i64 (x.2.2.2.2.2.1 j),i64 (x.2.2.2.2.2.2.1 j),st (x.2.2.2.2.2.2.2.1 j),V.ro 4 (x.2.2.2.2.2.2.2.2.1 j) (x.2.2.2.2.2.2.2.2.2.1 j)],V.ro 6 x.2.2.2.2.2.2.2.2.2.2.1 fun j=>[st (x.2.2.2.2.2.2.2.2.2.2.2.1 j),V.ro 2 (x.2.2.2.2.2.2.2.2.2.2.2.2.1 j) fun j_1=>[st (x.2.2.2.2.2.2.2.2.2.2.2.2.2.1 j j_1),st (x.2.2.2.2.2.2.2.2.2.2.2.2.2.2.1 j j_1)],i64 (x.2.2.2.2.2.2.2.2.2.2.2.2.2.2.2.1 j),i64 (x.2.2.2.2.2.2.2.2.2.2.2.2.2.2.2.2.1 j),st (x.2.2.2.2.2.2.2.2.2.2.2.2.2.2.2.2.2.1 j),V.ro 4 (x.2.2.2.2.2.2.2.2.2.2.2.2.2.2.2.2.2.2.1 j) (x.2.2.2.2.2.2.2.2.2.2.2.2.2.2.2.2.2.2.2 j)],V.junk,V.junk,V.junk,i64 y.1,i64 y.2]++jk 78,H:=hp [],nx:=0,rt:=0,me:=10}
def SameAll_l2_d(s:St):SameAll_l2_a:=((vI (s.fr.getD 5 .junk)),vI (s.fr.getD 6 .junk))
theorem SameAll_l2_u(x:a_SameAll):VL (SameAll_l2_S x):=vl SameAll_l2_d fun _=>rfl
def SameAll_l2_T(x:a_SameAll):SameAll_l2_g→Ex×St:=(Sum.elim (fun z=>(Ex.ret,{fr:=jk 4++[bo false]++jk 80,H:=hp [],nx:=0,rt:=0,me:=10})) (fun z=>(Ex.exit 2,{fr:=[V.ro 6 x.1 fun j=>[st (x.2.1 j),V.ro 2 (x.2.2.1 j) fun j_1=>[st (x.2.2.2.1 j j_1),st (x.2.2.2.2.1 j j_1)],i64 (x.2.2.2.2.2.1 j),i64 (x.2.2.2.2.2.2.1 j),st (x.2.2.2.2.2.2.2.1 j),V.ro 4 (x.2.2.2.2.2.2.2.2.1 j) (x.2.2.2.2.2.2.2.2.2.1 j)],V.ro 6 x.2.2.2.2.2.2.2.2.2.2.1 fun j=>[st (x.2.2.2.2.2.2.2.2.2.2.2.1 j),V.ro 2 (x.2.2.2.2.2.2.2.2.2.2.2.2.1 j) fun j_1=>[st (x.2.2.2.2.2.2.2.2.2.2.2.2.2.1 j j_1),st (x.2.2.2.2.2.2.2.2.2.2.2.2.2.2.1 j j_1)],i64 (x.2.2.2.2.2.2.2.2.2.2.2.2.2.2.2.1 j),i64 (x.2.2.2.2.2.2.2.2.2.2.2.2.2.2.2.2.1 j),st (x.2.2.2.2.2.2.2.2.2.2.2.2.2.2.2.2.2.1 j),V.ro 4 (x.2.2.2.2.2.2.2.2.2.2.2.2.2.2.2.2.2.2.1 j) (x.2.2.2.2.2.2.2.2.2.2.2.2.2.2.2.2.2.2.2 j)],V.junk,V.junk,V.junk,i64 z]++jk 79,H:=hp [],nx:=0,rt:=0,me:=10})))
def SameAll_l2_t{β:Type}(c_Same:a_Same→Option g_Same)(x:a_SameAll)(y:SameAll_l2_a)(nx:SameAll_l2_a→Option β)(dn:SameAll_l2_g→Option β):Option β:=
 if 0≤y.1∧y.1< ((x.1:Nat):Int)then if decide (y.2< ((x.2.2.1 (Int.toNat y.1):Nat):Int))=true then if 0≤y.1∧y.1< ((x.1:Nat):Int)then if 0≤y.2∧y.2< ((x.2.2.1 (Int.toNat y.1):Nat):Int)then if 0≤y.1∧y.1< ((x.2.2.2.2.2.2.2.2.2.2.1:Nat):Int)then if 0≤y.2∧y.2< ((x.2.2.2.2.2.2.2.2.2.2.2.2.1 (Int.toNat y.1):Nat):Int)then if(if true=true then !(ByteArray.toList (x.2.2.2.1 (Int.toNat y.1) (Int.toNat y.2))==ByteArray.toList (x.2.2.2.2.2.2.2.2.2.2.2.2.2.1 (Int.toNat y.1) (Int.toNat y.2))&&(ByteArray.toList (x.2.2.2.2.1 (Int.toNat y.1) (Int.toNat y.2))==ByteArray.toList (x.2.2.2.2.2.2.2.2.2.2.2.2.2.2.1 (Int.toNat y.1) (Int.toNat y.2))&&true))else ByteArray.toList (x.2.2.2.1 (Int.toNat y.1) (Int.toNat y.2))==ByteArray.toList (x.2.2.2.2.2.2.2.2.2.2.2.2.2.1 (Int.toNat y.1) (Int.toNat y.2))&&(ByteArray.toList (x.2.2.2.2.1 (Int.toNat y.1) (Int.toNat y.2))==ByteArray.toList (x.2.2.2.2.2.2.2.2.2.2.2.2.2.2.1 (Int.toNat y.1) (Int.toNat y.2))&&true))=true then dn (.inl ())else nx (y.1,w (y.2+1))else none else none else none else none else dn (.inr y.1)else none
theorem SameAll_l2_n{β:Type}(c_Same)(x)(y)(nx:SameAll_l2_a→Option β)(dn):SameAll_l2_t c_Same x y nx dn=(SameAll_l2_t c_Same x y (fun y=>some (.inl y)) (fun z=>some (.inr z))).bind fun r=>Sum.elim nx dn r:=by
 unfold SameAll_l2_t
 repeat' first|exact n0|refine n1 fun _=>?_|refine n2 ?_ ?_|refine n3 (fun _=>?_) fun _=>?_|rfl
theorem SameAll_l2_r(c_Same)(x)(y)(lo:LoopT):loopK E5 (ftb 19 A_Same R_Same c_Same ca0) lo 2 99 (bodyOf E5 10 2) (SameAll_l2_S x y) (KCM [(2,35),(1,35),(0,0)] 16)=SameAll_l2_t (vf A_Same c_Same) x y (fun y=>lo 2 99 (bodyOf E5 10 2) (SameAll_l2_S x y) (KCM [(2,35),(1,35),(0,0)] 16)) (fun z=>some (.l (SameAll_l2_T x z).1 (SameAll_l2_T x z).2)):=by kernel_rfl
noncomputable def SameAll_l2(c_Same:a_Same→Option g_Same)(q:Nat)(x:a_SameAll):SameAll_l2_a→Option SameAll_l2_g:=lpG (fun y=>SameAll_l2_t c_Same x y (fun y=>some (.inl y)) (fun z=>some (.inr z))) q
theorem SameAll_l2_s(c_Same)(h_Same:Lw E5 19 A_Same R_Same c_Same)(q:Nat)(x:a_SameAll):Ll E5 (bodyOf E5 10 2) (SameAll_l2_S x) (SameAll_l2_T x) (SameAll_l2 c_Same q x):=
 slp (fk h_Same ca0_sound) hX5 (fun lo y=>(SameAll_l2_r c_Same x y lo).trans (by rw[v_Same];exact SameAll_l2_n _ _ _ _ _)) (fun z=>by rcases z with z|z<;>kernel_rfl) q
abbrev SameAll_l0_a:Type:=Int
abbrev SameAll_l0_g:Type:=(Unit)⊕(Unit)
def SameAll_l0_S(x:a_SameAll)(y:SameAll_l0_a):St:={fr:=[V.ro 6 x.1 fun j=>[st (x.2.1 j),V.ro 2 (x.2.2.1 j) fun j_1=>[st (x.2.2.2.1 j j_1),st (x.2.2.2.2.1 j j_1)],i64 (x.2.2.2.2.2.1 j),i64 (x.2.2.2.2.2.2.1 j),st (x.2.2.2.2.2.2.2.1 j),V.ro 4 (x.2.2.2.2.2.2.2.2.1 j) (x.2.2.2.2.2.2.2.2.2.1 j)],V.ro 6 x.2.2.2.2.2.2.2.2.2.2.1 fun j=>[st (x.2.2.2.2.2.2.2.2.2.2.2.1 j),V.ro 2 (x.2.2.2.2.2.2.2.2.2.2.2.2.1 j) fun j_1=>[st (x.2.2.2.2.2.2.2.2.2.2.2.2.2.1 j j_1),st (x.2.2.2.2.2.2.2.2.2.2.2.2.2.2.1 j j_1)],i64 (x.2.2.2.2.2.2.2.2.2.2.2.2.2.2.2.1 j),i64 (x.2.2.2.2.2.2.2.2.2.2.2.2.2.2.2.2.1 j),st (x.2.2.2.2.2.2.2.2.2.2.2.2.2.2.2.2.2.1 j),V.ro 4 (x.2.2.2.2.2.2.2.2.2.2.2.2.2.2.2.2.2.2.1 j) (x.2.2.2.2.2.2.2.2.2.2.2.2.2.2.2.2.2.2.2 j)],V.junk,V.junk,V.junk,i64 y]++jk 79,H:=hp [],nx:=0,rt:=0,me:=10}
def SameAll_l0_d(s:St):SameAll_l0_a:=(vI (s.fr.getD 5 .junk))
theorem SameAll_l0_u(x:a_SameAll):VL (SameAll_l0_S x):=vl SameAll_l0_d fun _=>rfl
def SameAll_l0_T(x:a_SameAll):SameAll_l0_g→Ex×St:=(Sum.elim (fun z=>(Ex.ret,{fr:=jk 4++[bo false]++jk 80,H:=hp [],nx:=0,rt:=0,me:=10})) (fun z=>(Ex.exit 0,{fr:=[V.junk]++jk 84,H:=hp [],nx:=0,rt:=0,me:=10})))
def SameAll_l0_t{β:Type}(c_Same:a_Same→Option g_Same)(l_SameAll_l2:SameAll_l2_a→Option SameAll_l2_g)(x:a_SameAll)(y:SameAll_l0_a)(nx:SameAll_l0_a→Option β)(dn:SameAll_l0_g→Option β):Option β:=
 if decide (y< ((x.1:Nat):Int))=true then if 0≤y∧y< ((x.1:Nat):Int)then if 0≤y∧y< ((x.2.2.2.2.2.2.2.2.2.2.1:Nat):Int)then if(!ByteArray.toList (x.2.1 (Int.toNat y))==ByteArray.toList (x.2.2.2.2.2.2.2.2.2.2.2.1 (Int.toNat y)))=true then dn (.inl ())else if 0≤y∧y< ((x.1:Nat):Int)then if 0≤y∧y< ((x.2.2.2.2.2.2.2.2.2.2.1:Nat):Int)then if(((x.2.2.1 (Int.toNat y):Nat):Int)!=((x.2.2.2.2.2.2.2.2.2.2.2.2.1 (Int.toNat y):Nat):Int))=true then dn (.inl ())else if 0≤y∧y< ((x.1:Nat):Int)then if 0≤y∧y< ((x.2.2.2.2.2.2.2.2.2.2.1:Nat):Int)then(c_Same (x.2.2.2.2.2.1 (Int.toNat y),x.2.2.2.2.2.2.1 (Int.toNat y),x.2.2.2.2.2.2.2.1 (Int.toNat y),x.2.2.2.2.2.2.2.2.1 (Int.toNat y),x.2.2.2.2.2.2.2.2.2.1 (Int.toNat y),x.2.2.2.2.2.2.2.2.2.2.2.2.2.2.2.1 (Int.toNat y),x.2.2.2.2.2.2.2.2.2.2.2.2.2.2.2.2.1 (Int.toNat y),x.2.2.2.2.2.2.2.2.2.2.2.2.2.2.2.2.2.1 (Int.toNat y),x.2.2.2.2.2.2.2.2.2.2.2.2.2.2.2.2.2.2.1 (Int.toNat y),x.2.2.2.2.2.2.2.2.2.2.2.2.2.2.2.2.2.2.2 (Int.toNat y))).bind fun z74=>if(!z74)=true then dn (.inl ())else(l_SameAll_l2 (y,0)).bind fun z83=>Sum.elim (fun z83a=>dn (.inl ())) (fun z83b=>nx (w (z83b+1))) z83 else none else none else none else none else none else none else dn (.inr ())
theorem SameAll_l0_n{β:Type}(c_Same)(l_SameAll_l2)(x)(y)(nx:SameAll_l0_a→Option β)(dn):SameAll_l0_t c_Same l_SameAll_l2 x y nx dn=(SameAll_l0_t c_Same l_SameAll_l2 x y (fun y=>some (.inl y)) (fun z=>some (.inr z))).bind fun r=>Sum.elim nx dn r:=by
 unfold SameAll_l0_t
 repeat' first|exact n0|refine n1 fun _=>?_|refine n2 ?_ ?_|refine n3 (fun _=>?_) fun _=>?_|rfl
theorem SameAll_l0_r(c_Same)(l_SameAll_l2)(x)(y)(lo:LoopT):loopK E5 (ftb 19 A_Same R_Same c_Same ca0) (lt2 2 (fun _=>true) (bodyOf E5 10 2) (SameAll_l2_S x) (SameAll_l2_T x) l_SameAll_l2 lo) 0 35 (bodyOf E5 10 0) (SameAll_l0_S x y) (KCM [(0,0)] 16)=SameAll_l0_t (vf A_Same c_Same) (lf (bodyOf E5 10 2) (SameAll_l2_S x) l_SameAll_l2) x y (fun y=>lo 0 35 (bodyOf E5 10 0) (SameAll_l0_S x y) (KCM [(0,0)] 16)) (fun z=>some (.l (SameAll_l0_T x z).1 (SameAll_l0_T x z).2)):=by kernel_rfl
noncomputable def SameAll_l0(c_Same:a_Same→Option g_Same)(q:Nat)(x:a_SameAll):SameAll_l0_a→Option SameAll_l0_g:=lpG (fun y=>SameAll_l0_t c_Same (SameAll_l2 c_Same q x) x y (fun y=>some (.inl y)) (fun z=>some (.inr z))) q
theorem SameAll_l0_s(c_Same)(h_Same:Lw E5 19 A_Same R_Same c_Same)(q:Nat)(x:a_SameAll):Ll E5 (bodyOf E5 10 0) (SameAll_l0_S x) (SameAll_l0_T x) (SameAll_l0 c_Same q x):=
 SL.lp (LT:=fun lo=>(lt2 2 (fun _=>true) (bodyOf E5 10 2) (SameAll_l2_S x) (SameAll_l2_T x) (SameAll_l2 c_Same q x) lo)) (T:=SameAll_l0_T x) (S:=SameAll_l0_S x) (fk h_Same ca0_sound) hX5 (fun lo h=>(lk2 (SameAll_l2_s c_Same h_Same q x) h)) (fun lo y=>(SameAll_l0_r c_Same (SameAll_l2 c_Same q x) x y lo).trans (by rw[v_Same,SameAll_l2_u];exact SameAll_l0_n _ _ _ _ _ _)) (fun z=>by rcases z with z|z<;>kernel_rfl) q
def t_SameAll{β:Type}(c_Same:a_Same→Option g_Same)(l_SameAll_l0:SameAll_l0_a→Option SameAll_l0_g)(x:a_SameAll)(dn:g_SameAll→Option β):Option β:=
 if(((x.1:Nat):Int)!=((x.2.2.2.2.2.2.2.2.2.2.1:Nat):Int))=true then dn false else(l_SameAll_l0 (0)).bind fun z40=>Sum.elim (fun z40a=>dn false) (fun z40b=>dn true) z40
theorem n_SameAll{β:Type}(c_Same)(l_SameAll_l0)(x)(dn:g_SameAll→Option β):t_SameAll c_Same l_SameAll_l0 x dn=(t_SameAll c_Same l_SameAll_l0 x some).bind dn:=by
 unfold t_SameAll
 repeat' first|exact n0|refine n1 fun _=>?_|refine n2 ?_ ?_|refine n3 (fun _=>?_) fun _=>?_|rfl
theorem r_SameAll(c_Same)(l_SameAll_l0)(x):callK E5 (ftb 19 A_Same R_Same c_Same ca0) (lt2 0 (fun _=>true) (bodyOf E5 10 0) (SameAll_l0_S x) (SameAll_l0_T x) l_SameAll_l0 lo0) 10 (A_SameAll x).1 (A_SameAll x).2 K=t_SameAll (vf A_Same c_Same) (lf (bodyOf E5 10 0) (SameAll_l0_S x) l_SameAll_l0) x (fun z=>some (.c (R_SameAll z))):=by kernel_rfl
noncomputable def SameAll(q:Nat)(x:a_SameAll):Option g_SameAll:=t_SameAll (Same q) (SameAll_l0 (Same q) q x) x some
theorem sc_SameAll(q:Nat):Lw E5 10 A_SameAll R_SameAll (SameAll q):=sof hW5 hX5 (fk (sc_Same q) ca0_sound) (fun x=>(lk2 (SameAll_l0_s (Same q) (sc_Same q) q x) lo0_sound)) fun x=>(r_SameAll (Same q) (SameAll_l0 (Same q) q x) x).trans (by rw[v_Same,SameAll_l0_u,n_SameAll]<;>rfl)
end Go.Proofs.YtjfkkokeegpeiaaGreatDoor
/- Same, of trees as they are handed on: are they equal? -/
namespace Go.Proofs.YtjfkkokeegpeiaaGreatDoor
open Go Go.Am Go.Proofs.Lx
set_option maxRecDepth 100000
def eT:Tr→NodeT| .node k n s l=>(k,n,s,l.length,fun j=>(cellsL l).getD j dfl)
theorem cells_eT(t:Tr):cellsT t=[i64 (eT t).1,i64 (eT t).2.1,st (eT t).2.2.1,.ro 4 (eT t).2.2.2.1 (eT t).2.2.2.2]:=by cases t;simp[cellsT,eT]
def dflT:Tr:=.node 0 0 ⟨#[]⟩ []
theorem cellsL_get:∀(l:List Tr) (j:Nat) (t:Tr),l[j]? =some t→(cellsL l).getD j dfl=cellsT t
 | [],j,t,h=>by simp at h
 |t::l,0,u,h=>by simp only[List.getElem?_cons_zero,Option.some.injEq]at h;subst h;simp[cellsL]
 |t::l,j+1,u,h=>by
  simp only[cellsL,List.getD_cons_succ]
  exact cellsL_get l j u (by simpa using h)
theorem cellsL_none:∀(l:List Tr) (j:Nat),l.length≤j→(cellsL l).getD j dfl=dfl
 | [],j,_=>by simp[cellsL]
 |t::l,0,h=>by simp at h
 |t::l,j+1,h=>by
  simp only[cellsL,List.getD_cons_succ]
  exact cellsL_none l j (by simpa using h)
theorem open_cells(l:List Tr):OpenN (fun j=>(cellsL l).getD j dfl):=by
 intro j
 cases h:l[j]?with
 |none=>
  have:l.length≤j:=by
   rcases Nat.lt_or_ge j l.length with hl|hl
   ·rw[List.getElem?_eq_getElem hl]at h;cases h
   ·exact hl
  unfold opK opN opS opM opF
  dsimp only
  rw[cellsL_none l j this]
  rfl
 |some t=>
  unfold opK opN opS opM opF
  dsimp only
  rw[cellsL_get l j t h,cells_eT]
  rfl
theorem op_get{l:List Tr}{j:Nat}{t:Tr}(h:l[j]? =some t):(opK (fun j=>(cellsL l).getD j dfl) j,opN (fun j=>(cellsL l).getD j dfl) j,opS (fun j=>(cellsL l).getD j dfl) j,opM (fun j=>(cellsL l).getD j dfl) j,opF (fun j=>(cellsL l).getD j dfl) j)=eT t:=by
 unfold opK opN opS opM opF
 dsimp only
 rw[cellsL_get l j t h,cells_eT]
 rfl
mutual
def szT:Tr→Nat
 | .node _ _ _ l=>1+szL l
def szL:List Tr→Nat
 | []=>0
 |t::l=>szT t+szL l+1
end
theorem szL_get:∀(l:List Tr) (j:Nat) (t:Tr),l[j]? =some t→szT t<szL l+1∧l.length≤szL l
 | [],j,t,h=>by simp at h
 |t::l,0,u,h=>by
  simp only[List.getElem?_cons_zero,Option.some.injEq]at h;subst h
  simp only[szL,List.length_cons]
  have:l.length≤szL l:=by
   clear t
   induction l with
   |nil=>simp[szL]
   |cons a l ih=>simp only[szL,List.length_cons];omega
  omega
 |t::l,j+1,u,h=>by
  have:=szL_get l j u (by simpa using h)
  simp only[szL,List.length_cons]
  omega
theorem szL_len(l:List Tr):l.length≤szL l:=by
 induction l with
 |nil=>simp[szL]
 |cons a l ih=>simp only[szL,List.length_cons];omega
theorem same_rs:∀(q:Nat) (t u:Tr),szT t<q→szL [t]≤1000000000→Rs (Same q ((eT t).1,(eT t).2.1,(eT t).2.2.1,(eT t).2.2.2.1,(eT t).2.2.2.2,eT u)) (fun b=>b=true↔t=u):=by
 intro q
 induction q with
 |zero=>intro t u h;omega
 |succ q ih=>
  intro t u hq hb
  obtain⟨k,n,s,l⟩:=t
  obtain⟨k',n',s',l'⟩:=u
  unfold Same
  dsimp only[eT]
  refine Rs.pos ⟨open_cells l,open_cells l'⟩ ?_
  unfold t_SameN
  dsimp only
  by_cases h1:k=k'
  ·refine Rs.neg (by simp[h1]) ?_
   by_cases h2:n=n'
   ·refine Rs.neg (by simp[h2]) ?_
    by_cases h3:s=s'
    ·refine Rs.neg (by rw[tl_dec];simp[h3]) ?_
     by_cases h4:l.length=l'.length
     ·refine Rs.neg (by simp[h4]) ?_
      subst h1 h2 h3
      simp only[szT]at hq
      simp only[szL,szT]at hb
      have hlen:=szL_len l
      unfold SameN_l0
      have key:∀(m i:Nat),l.length-i<m→i≤l.length→(∀j,j<i→l[j]? =l'[j]?)→Rs (lpG (fun y=>SameN_l0_t (Same q) (k,n,s,l.length,opK (fun j=>(cellsL l).getD j dfl),opN (fun j=>(cellsL l).getD j dfl),opS (fun j=>(cellsL l).getD j dfl),opM (fun j=>(cellsL l).getD j dfl),opF (fun j=>(cellsL l).getD j dfl),k,n,s,l'.length,opK (fun j=>(cellsL l').getD j dfl),opN (fun j=>(cellsL l').getD j dfl),opS (fun j=>(cellsL l').getD j dfl),opM (fun j=>(cellsL l').getD j dfl),opF (fun j=>(cellsL l').getD j dfl)) y (fun y=>some (.inl y)) (fun z=>some (.inr z))) m ((i:Nat):Int)) (fun z=>(z= .inr ()∧l=l')∨(z= .inl ()∧l≠l')):=by
       intro m
       induction m with
       |zero=>intro i h;omega
       |succ m ihm=>
        intro i hm hi hno
        refine Rs.step3 fun Q hQ=>?_
        unfold SameN_l0_t
        dsimp only
        by_cases hil:i<l.length
        ·refine Rs.pos (decide_eq_true (show((i:Nat):Int)< ((l.length:Nat):Int)by omega)) (Rs.pos (show(0:Int)≤((i:Nat):Int)∧((i:Nat):Int)< ((l.length:Nat):Int)by omega) (Rs.pos (show(0:Int)≤((i:Nat):Int)∧((i:Nat):Int)< ((l'.length:Nat):Int)by omega) ?_))
         rw[Int.toNat_natCast]
         have e1:l[i]? =some l[i]:=List.getElem?_eq_getElem hil
         have hil':i<l'.length:=by omega
         have e2:l'[i]? =some l'[i]:=List.getElem?_eq_getElem hil'
         have hsz:=(szL_get l i _ e1).1
         have:=ih l[i] l'[i] (by omega) (by simp only[szL];omega)
         have e3:((eT l[i]).1,(eT l[i]).2.1,(eT l[i]).2.2.1,(eT l[i]).2.2.2.1,(eT l[i]).2.2.2.2,eT l'[i])=(opK (fun j=>(cellsL l).getD j dfl) i,opN (fun j=>(cellsL l).getD j dfl) i,opS (fun j=>(cellsL l).getD j dfl) i,opM (fun j=>(cellsL l).getD j dfl) i,opF (fun j=>(cellsL l).getD j dfl) i,opK (fun j=>(cellsL l').getD j dfl) i,opN (fun j=>(cellsL l').getD j dfl) i,opS (fun j=>(cellsL l').getD j dfl) i,opM (fun j=>(cellsL l').getD j dfl) i,opF (fun j=>(cellsL l').getD j dfl) i):=by
          rw[←op_get e1,←op_get e2]
         rw[e3]at this
         refine Rs.bind this fun b hb2=>?_
         cases b with
         |false=>
          refine Rs.pos rfl (Rs.some (.inr ⟨rfl,fun h=>?_⟩))
          have:l[i]=l'[i]:=by
           have e4:l[i]? =l'[i]? :=by rw[h]
           rw[e1,e2]at e4
           exact Option.some.inj e4
          exact absurd (hb2.2 this) (by decide)
         |true=>
          refine Rs.neg (by decide) (Rs.some (hQ _ ?_))
          rw[w_succ (by omega)]
          refine ihm (i+1) (by omega) hil fun j hj=>?_
          by_cases hji:j=i
          ·subst hji
           rw[e1,e2,hb2.1 rfl]
          ·exact hno j (by omega)
        ·refine Rs.neg (fun h=>hil (Int.ofNat_lt.1 (of_decide_eq_true h))) (Rs.some (.inl ⟨rfl,?_⟩))
         apply List.ext_getElem?
         intro j
         by_cases hj:j<i
         ·exact hno j hj
         ·have a1:l[j]? =none:=List.getElem?_eq_none (by omega)
          have a2:l'[j]? =none:=List.getElem?_eq_none (by omega)
          rw[a1,a2]
      refine Rs.bind (key q 0 (by omega) (Nat.zero_le _) (fun j hj=>absurd hj (Nat.not_lt_zero j))) fun z hz=>?_
      rcases hz with⟨rfl,e⟩ | ⟨rfl,e⟩
      ·exact Rs.some ⟨fun _=>(by rw[e]),fun _=>rfl⟩
      ·exact Rs.some ⟨fun h=>(by cases h),fun h=>absurd (by injection h) e⟩
     ·refine Rs.pos (by simp;omega) (Rs.some ⟨fun h=>(by cases h),fun h=>absurd (by injection h with _ _ _ h;rw[h]) h4⟩)
    ·refine Rs.pos (by rw[tl_dec];simp[h3]) (Rs.some ⟨fun h=>(by cases h),fun h=>absurd (by injection h) h3⟩)
   ·refine Rs.pos (by simp[h2]) (Rs.some ⟨fun h=>(by cases h),fun h=>absurd (by injection h) h2⟩)
  ·refine Rs.pos (by simp[h1]) (Rs.some ⟨fun h=>(by cases h),fun h=>absurd (by injection h) h1⟩)
end Go.Proofs.YtjfkkokeegpeiaaGreatDoor
/- Plain: what is read is not bigger than what was read. -/
namespace Go.Proofs.YtjfkkokeegpeiaaGreatDoor
open Go Go.Am Go.Proofs.Lx
set_option maxRecDepth 100000
def Okr{α:Type}(P:α→PS→Prop):PR α→Prop
 | .ok a s=>P a s
 |_=>True
theorem Okr.bind{α β:Type}{P:α→PS→Prop}{Q:β→PS→Prop}{r:PR α}{f:α→PS→PR β}(h:Okr P r)(g:∀a s,P a s→Okr Q (f a s)):Okr Q (r.bind f):=by
 cases r with
 |ok a s=>exact g a s h
 |err p c=>trivial
 |out=>trivial
theorem Okr.mono{α:Type}{P Q:α→PS→Prop}{r:PR α}(h:Okr P r)(g:∀a s,P a s→Q a s):Okr Q r:=by
 cases r with
 |ok a s=>exact g a s h
 |err p c=>trivial
 |out=>trivial
theorem Okr.ite{α:Type}{P:α→PS→Prop}{c:Prop}[Decidable c]{a b:PR α}(h:c→Okr P a)(g:¬c→Okr P b):Okr P (if c then a else b):=by
 by_cases hc:c
 ·rw[if_pos hc];exact h hc
 ·rw[if_neg hc];exact g hc
section
variable {T:Nat→Tkn}
theorem must_okr(b:ByteArray)(s:PS):Okr (fun _ s'=>s'.p=s.p+1) (mustP T b s):=Okr.ite (fun _=>rfl) fun _=>trivial
theorem opens_okr(b:ByteArray)(s:PS):Okr (fun _ s'=>s'.p=s.p+1) (opensP T b s):=Okr.ite (fun _=>Okr.ite (fun _=>trivial) fun _=>rfl) fun _=>trivial
theorem name_okr(s:PS):Okr (fun _ s'=>s'.p=s.p+1) (nameP T s):=Okr.ite (fun _=>trivial) fun _=>rfl
theorem num_okr(lo hi:Int)(s:PS):Okr (fun _ s'=>s'.p=s.p+1) (numP T lo hi s):=Okr.ite (fun _=>trivial) fun _=>Okr.ite (fun _=>trivial) fun _=>rfl
theorem decl_okr(s:PS):Okr (fun _ s'=>s'.p=s.p+1) (declP T s):=(name_okr s).bind fun a s1 h=>Okr.ite (fun _=>trivial) fun _=>Okr.ite (fun _=>trivial) fun _=>h
theorem lit_okr(s:PS):Okr (fun t s'=>szT t=1∧s.p+1≤s'.p) (litP T s):=(num_okr _ _ s).bind fun n s1 h=>Okr.ite (fun _=>⟨rfl,by show s.p+1≤s1.p+1;omega⟩) fun _=>⟨rfl,by omega⟩
theorem szT_1(k n:Int)(b:ByteArray)(x:Tr):szT (.node k n b [x])=szT x+2:=by simp only[szT,szL];omega
theorem szT_2(k n:Int)(b:ByteArray)(x y:Tr):szT (.node k n b [x,y])=szT x+szT y+3:=by simp only[szT,szL];omega
theorem szT_3(k n:Int)(b:ByteArray)(x y z:Tr):szT (.node k n b [x,y,z])=szT x+szT y+szT z+4:=by simp only[szT,szL];omega
theorem szT_0(k n:Int)(b:ByteArray):szT (.node k n b [])=1:=rfl
theorem expr_okr:∀f,(∀lv s,Okr (fun t s'=>szT t+3+4*s.p≤4*s'.p) (exprP T f lv s))∧(∀lv n s,Okr (fun t s'=>szT t+4*s.p≤szT n+4*s'.p) (opsP T f lv n s))∧
 (∀b lv s,Okr (fun t s'=>szT t+3+4*s.p≤4*s'.p) (unaryP T f b lv s))∧(∀s,Okr (fun t s'=>szT t+3+4*s.p≤4*s'.p) (primP T f s)):=by
 intro f
 induction f with
 |zero=>exact⟨fun _ _=>by rw[exprP];trivial,fun _ _ _=>by rw[opsP];trivial,fun _ _ _=>by rw[unaryP];trivial,fun _=>by rw[primP];trivial⟩
 |succ f ih=>
  obtain⟨h1,h2,h3,h4⟩:=ih
  refine⟨fun lv s=>?_,fun lv n s=>?_,fun b lv s=>?_,fun s=>?_⟩
  ·rw[exprP]
   exact Okr.ite (fun _=>h3 _ _ _) fun _=>Okr.ite (fun _=>h3 _ _ _) fun _=>Okr.ite (fun _=>h4 _) fun _=>(h1 _ _).bind fun t s1 e=>(h2 _ _ _).mono fun u s2 e2=>by omega
  ·rw[opsP]
   refine Okr.ite (fun _=>(h1 _ _).bind fun t s1 e=>?_) fun _=>Nat.le_refl _
   have e:szT t+3+4*(s.p+1)≤4*s1.p:=e
   refine Okr.ite (fun _=>?_) fun _=>(h2 _ _ _).mono fun u s2 e2=>?_
   ·show szT _+_≤_
    rw[szT_2];omega
   ·rw[szT_2]at e2;omega
  ·rw[unaryP]
   refine(opens_okr b s).bind fun _ s1 e1=>(h1 lv s1).bind fun t s2 e2=>?_
   show szT _+3+4*s.p≤4*s2.p
   rw[szT_1];omega
  ·rw[primP]
   refine Okr.ite (fun _=>(lit_okr s).mono fun t s1 e=>by omega) fun _=>?_
   refine Okr.ite (fun _=>?_) fun _=>Okr.ite (fun _=>?_) fun _=>Okr.ite (fun _=>?_) fun _=>Okr.ite (fun _=>?_) fun _=>?_
   ·show szT _+3+4*s.p≤4*(s.p+1)
    rw[szT_0];omega
   ·show szT _+3+4*s.p≤4*(s.p+1)
    rw[szT_0];omega
   ·refine(must_okr _ _).bind fun _ s1 e1=>(name_okr s1).bind fun x s2 e2=>?_
    have e1:s1.p=s.p+1+1:=e1
    show szT _+3+4*s.p≤4*s2.p
    rw[szT_0];omega
   ·refine(opens_okr _ s).bind fun _ s1 e1=>(h1 1 s1).bind fun t s2 e2=>(must_okr _ s2).bind fun _ s3 e3=>?_
    show szT _+3+4*s.p≤4*s3.p
    omega
   ·refine(name_okr s).bind fun x s1 e1=>?_
    show szT _+3+4*s.p≤4*s1.p
    rw[szT_0];omega
theorem end_okr(n:Tr)(s:PS):Okr (fun t s'=>t=n∧s'.p=s.p+1) (Lx.endP T n s):=(must_okr _ s).bind fun _ s1 e=>⟨rfl,e⟩
theorem set_okr(f:Nat)(k:Int)(x:ByteArray)(s:PS):Okr (fun t s'=>szT t+3+4*s.p≤4*s'.p) (setP T f k x s):=
 (must_okr _ s).bind fun _ s1 e1=>((expr_okr f).1 1 s1).bind fun t s2 e2=>(end_okr _ s2).mono fun u s3 e3=>by obtain⟨rfl,e3⟩:=e3;rw[szT_1];omega
theorem one_okr(f:Nat)(k:Int)(s:PS):Okr (fun t s'=>szT t+3+4*s.p≤4*s'.p) (Lx.oneP T f k s):=
 ((expr_okr f).1 1 s).bind fun t s2 e2=>(end_okr _ s2).mono fun u s3 e3=>by obtain⟨rfl,e3⟩:=e3;rw[szT_1];omega
theorem amt_okr(k:Int)(s:PS):Okr (fun t s'=>szT t+3+4*s.p≤4*s'.p) (amtP T k s):=
 (lit_okr s).bind fun t s2 e2=>(end_okr _ s2).mono fun u s3 e3=>by obtain⟨rfl,e3⟩:=e3;rw[szT_1];omega
theorem await_okr(f:Nat)(s:PS):Okr (fun t s'=>szT t+3+4*s.p≤4*s'.p) (awaitP T f s):=
 ((expr_okr f).1 1 s).bind fun t s1 e1=>(must_okr _ s1).bind fun _ s2 e2=>(lit_okr s2).bind fun n s3 e3=>(end_okr _ s3).mono fun u s4 e4=>by obtain⟨rfl,e4⟩:=e4;rw[szT_2];omega
theorem nmb_okr(k hi:Int)(s:PS):Okr (fun t s'=>szT t+3+4*s.p≤4*s'.p) (nmbP T k hi s):=
 (num_okr _ _ s).bind fun n s2 e2=>(end_okr _ s2).mono fun u s3 e3=>by obtain⟨rfl,e3⟩:=e3;rw[szT_0];omega
theorem use_okr(k:Int)(b:ByteArray)(s:PS):Okr (fun t s'=>szT t+3+4*s.p≤4*s'.p) (useP T k b s):=
 (num_okr _ _ s).bind fun n s1 e1=>(must_okr _ s1).bind fun _ s2 e2=>(lit_okr s2).bind fun t s3 e3=>(end_okr _ s3).mono fun u s4 e4=>by obtain⟨rfl,e4⟩:=e4;rw[szT_1];omega
theorem stmt_okr:∀f,(∀s,Okr (fun t s'=>szT t+3+4*s.p≤4*s'.p) (blockP T f s))∧(∀s,Okr (fun l s'=>szL l+4*s.p≤4*s'.p) (stmtsP T f s))∧(∀s,Okr (fun t s'=>szT t+3+4*s.p≤4*s'.p) (stmtP T f s)):=by
 intro f
 induction f with
 |zero=>exact⟨fun _=>by rw[blockP];trivial,fun _=>by rw[stmtsP];trivial,fun _=>by rw[stmtP];trivial⟩
 |succ f ih=>
  obtain⟨h1,h2,h3⟩:=ih
  refine⟨fun s=>?_,fun s=>?_,fun s=>?_⟩
  ·rw[blockP]
   refine(opens_okr _ s).bind fun _ s1 e1=>(h2 s1).bind fun l s2 e2=>?_
   show 1+szL l+3+4*s.p≤4*s2.p
   omega
  ·rw[stmtsP]
   refine Okr.ite (fun _=>?_) fun _=>(h3 s).bind fun t s1 e1=>(h2 s1).bind fun l s2 e2=>?_
   ·show 0+4*s.p≤4*(s.p+1)
    omega
   ·show szT t+szL l+1+4*s.p≤4*s2.p
    omega
  ·rw[stmtP]
   have up:∀{r:PR Tr},Okr (fun t s'=>szT t+3+4*(adv s).p≤4*s'.p) r→Okr (fun t s'=>szT t+3+4*s.p≤4*s'.p) r:=fun h=>h.mono fun t s' e=>by
    have:(adv s).p=s.p+1:=rfl
    omega
   have ea:(adv s).p=s.p+1:=rfl
   refine Okr.ite (fun _=>(decl_okr _).bind fun x s1 e1=>(set_okr f 1 x s1).mono fun t s2 e2=>by omega) fun _=>?_
   refine Okr.ite (fun _=>?_) fun _=>?_
   ·refine((expr_okr f).1 1 _).bind fun c s1 e1=>(h1 s1).bind fun y s2 e2=>Okr.ite (fun _=>(h1 _).bind fun n s3 e3=>?_) fun _=>?_
    ·have e3:szT n+3+4*(s2.p+1)≤4*s3.p:=e3
     show szT _+3+4*s.p≤4*s3.p
     rw[szT_3];omega
    ·show szT _+3+4*s.p≤4*s2.p
     rw[szT_3,szT_0];omega
   refine Okr.ite (fun _=>?_) fun _=>?_
   ·refine(num_okr _ _ _).bind fun n s1 e1=>(h1 s1).bind fun y s2 e2=>?_
    show szT _+3+4*s.p≤4*s2.p
    rw[szT_1];omega
   refine Okr.ite (fun _=>up (await_okr f _)) fun _=>Okr.ite (fun _=>up (amt_okr _ _)) fun _=>Okr.ite (fun _=>up (amt_okr _ _)) fun _=>Okr.ite (fun _=>up (one_okr f _ _)) fun _=>Okr.ite (fun _=>up (one_okr f _ _)) fun _=>Okr.ite (fun _=>up (use_okr _ _ _)) fun _=>Okr.ite (fun _=>up (use_okr _ _ _)) fun _=>Okr.ite (fun _=>up (nmb_okr _ _ _)) fun _=>Okr.ite (fun _=>up (nmb_okr _ _ _)) fun _=>?_
   exact(name_okr s).bind fun x s1 e1=>(set_okr f 2 x s1).mono fun t s2 e2=>by omega
theorem prm_okr(s:PS):Okr (fun _ s'=>s.p+1≤s'.p) (prmP T s):=by
 unfold prmP
 refine(decl_okr s).bind fun x s1 e1=>Okr.ite (fun _=>Okr.ite (fun _=>trivial) fun _=>Okr.ite (fun _=>trivial) fun _=>?_) fun _=>?_
 ·show s.p+1≤s1.p+1+1
  omega
 ·show s.p+1≤s1.p
  omega
theorem prms_okr:∀f s,Okr (fun l s'=>l.length+s.p≤s'.p) (prmsP T f s)
 |0,s=>by rw[prmsP];trivial
 |f+1,s=>by
  rw[prmsP]
  refine(prm_okr s).bind fun x s1 e1=>Okr.ite (fun _=>(prms_okr f _).bind fun l s2 e2=>?_) fun _=>(must_okr _ s1).bind fun _ s2 e2=>?_
  ·have e2:l.length+(s1.p+1)≤s2.p:=e2
   show l.length+1+s.p≤s2.p
   omega
  ·show 1+s.p≤s2.p
   omega
theorem params_okr(f:Nat)(s:PS):Okr (fun l s'=>l.length+s.p≤s'.p) (paramsP T f s):=by
 unfold paramsP
 refine(must_okr _ s).bind fun _ s1 e1=>Okr.ite (fun _=>?_) fun _=>(prms_okr f s1).mono fun l s2 e2=>by omega
 show 0+s.p≤s1.p+1
 omega
def SmC(n:Nat)(c:Prc):Prop:=szT c.b≤n∧c.ps.length≤n
theorem procs_okr:∀f pr s,Okr (fun l s'=>l.length+s.p≤s'.p∧∀c∈l,SmC (4*s'.p) c) (procsP T f pr s)
 |0,pr,s=>by rw[procsP];trivial
 |f+1,pr,s=>by
  rw[procsP]
  refine Okr.ite (fun _=>⟨by simp,fun c hc=>by cases hc⟩) fun _=>?_
  have hp:Okr (fun c s'=>s.p+1≤s'.p∧SmC (4*s'.p) c) (procP T f pr s):=by
   unfold procP
   refine(must_okr _ s).bind fun _ s1 e1=>(name_okr s1).bind fun x s2 e2=>Okr.ite (fun _=>trivial) fun _=>(params_okr f _).bind fun l s3 e3=>((stmt_okr f).1 s3).bind fun b s4 e4=>?_
   have e3:l.length+s2.p≤s3.p:=e3
   exact⟨by omega,by show szT b≤_;omega,by show l.length≤_;omega⟩
  refine hp.bind fun c s1 e1=>(procs_okr f _ s1).bind fun l s2 e2=>⟨?_,fun d hd=>?_⟩
  ·show l.length+1+s.p≤s2.p
   omega
  ·rcases List.mem_cons.1 hd with h|h
   ·rw[h]
    have:=e1.2
    exact⟨Nat.le_trans this.1 (by omega),Nat.le_trans this.2 (by omega)⟩
   ·exact e2.2 d h
end
theorem parse_small{s:ByteArray}{r:List Prc×Int×Int}(h:ParseR s r):r.1.length≤20000∧∀c∈r.1,SmC 20000 c:=by
 cases h with
 |lex p e g1 g2=>exact⟨by simp,fun c hc=>by cases hc⟩
 |err acc p c g1 g2 g3 g4=>exact⟨by simp,fun c hc=>by cases hc⟩
 |ok acc l s' g1 g2 g3=>
  have h1:=procs_okr (T:=tokAt s acc) fuelP [] ⟨0,0,[]⟩
  have h2:=procs_tot g2 fuelP [] ⟨0,0,[]⟩ g2.pos (by have:=g2.big;show 20*(acc.length+1-0)+13≤100000;omega)
  rw[g3]at h1 h2
  have hb:=g2.big
  have h3:s'.p<acc.length+1:=h2.2
  obtain⟨h4,h5⟩:=h1
  have h4:l.length+0≤s'.p:=h4
  refine⟨by show l.length≤20000;omega,fun c hc=>?_⟩
  have:=h5 c hc
  exact⟨Nat.le_trans this.1 (by omega),Nat.le_trans this.2 (by omega)⟩
end Go.Proofs.YtjfkkokeegpeiaaGreatDoor
/- SameAll, of lists of procedures as they are handed on: are they equal? -/
namespace Go.Proofs.YtjfkkokeegpeiaaGreatDoor
open Go Go.Am Go.Proofs.Lx
set_option maxRecDepth 100000
def dC:Prc:=⟨⟨#[]⟩,[],dflT⟩
def dPm:Prm:=⟨⟨#[]⟩,⟨#[]⟩⟩
def cX(l:List Prc)(j:Nat):ByteArray:=(l.getD j dC).x
def cQ(l:List Prc)(j:Nat):Nat:=(l.getD j dC).ps.length
def cN(l:List Prc)(j i:Nat):ByteArray:=((l.getD j dC).ps.getD i dPm).x
def cU(l:List Prc)(j i:Nat):ByteArray:=((l.getD j dC).ps.getD i dPm).u
def cT(l:List Prc)(j:Nat):NodeT:=eT (l.getD j dC).b
def xS(l m:List Prc):a_SameAll:=(l.length,cX l,cQ l,cN l,cU l,(fun j=>(cT l j).1),(fun j=>(cT l j).2.1),(fun j=>(cT l j).2.2.1),(fun j=>(cT l j).2.2.2.1),(fun j=>(cT l j).2.2.2.2),m.length,cX m,cQ m,cN m,cU m,(fun j=>(cT m j).1),(fun j=>(cT m j).2.1),(fun j=>(cT m j).2.2.1),(fun j=>(cT m j).2.2.2.1),(fun j=>(cT m j).2.2.2.2))
theorem getD_of{α:Type}{l:List α}{j:Nat}{d a:α}(h:l[j]? =some a):l.getD j d=a:=by rw[List.getD_eq_getElem?_getD,h];rfl
theorem prm_ne{a b:Prm}(h:a.x=b.x)(g:a.u=b.u):a=b:=by cases a;cases b;simp only at h g;rw[h,g]
section
variable {l m:List Prc} {q:Nat}
theorem prms_same(i:Nat){c d:Prc}(hc:l[i]? =some c)(hd:m[i]? =some d)(hlen:c.ps.length=d.ps.length)(hb:c.ps.length≤1000000000)(hl:i<l.length)(hm:i<m.length):∀(n k:Nat),k+n=c.ps.length→∀r,n<r→(∀j,j<k→c.ps[j]? =d.ps[j]?)→
 Rs (SameAll_l2 (Same q) r (xS l m) (((i:Nat):Int),((k:Nat):Int))) (fun z=>(z= .inr ((i:Nat):Int)∧c.ps=d.ps)∨(z= .inl ()∧c.ps≠d.ps)):=by
 have e1:cQ l i=c.ps.length:=by unfold cQ;rw[getD_of hc]
 have e2:cQ m i=c.ps.length:=by unfold cQ;rw[getD_of hd,hlen]
 intro n
 induction n with
 |zero=>
  intro k hk r hr hi
  obtain⟨r,rfl⟩:∃t,r=t+1:=⟨r-1,by omega⟩
  unfold SameAll_l2
  refine Rs.step3 fun Q hQ=>?_
  unfold SameAll_l2_t
  dsimp only[xS]
  refine Rs.pos (show(0:Int)≤((i:Nat):Int)∧((i:Nat):Int)< ((l.length:Nat):Int)by omega) ?_
  rw[Int.toNat_natCast]
  refine Rs.neg (fun hh=>by have:((k:Nat):Int)< ((cQ l i:Nat):Int):=of_decide_eq_true hh;omega) (Rs.some (.inl ⟨rfl,?_⟩))
  apply List.ext_getElem?
  intro j
  by_cases hj:j<k
  ·exact hi j hj
  ·rw[List.getElem?_eq_none (show c.ps.length≤j by omega),List.getElem?_eq_none (show d.ps.length≤j by omega)]
 |succ n ih=>
  intro k hk r hr hi
  obtain⟨r,rfl⟩:∃t,r=t+1:=⟨r-1,by omega⟩
  have hk1:k<c.ps.length:=by omega
  have hk2:k<d.ps.length:=by omega
  have g1:c.ps[k]? =some c.ps[k]:=List.getElem?_eq_getElem hk1
  have g2:d.ps[k]? =some d.ps[k]:=List.getElem?_eq_getElem hk2
  have a1:cN l i k=c.ps[k].x:=by unfold cN;rw[getD_of hc,getD_of g1]
  have a2:cU l i k=c.ps[k].u:=by unfold cU;rw[getD_of hc,getD_of g1]
  have a3:cN m i k=d.ps[k].x:=by unfold cN;rw[getD_of hd,getD_of g2]
  have a4:cU m i k=d.ps[k].u:=by unfold cU;rw[getD_of hd,getD_of g2]
  unfold SameAll_l2
  refine Rs.step3 fun Q hQ=>?_
  unfold SameAll_l2_t
  dsimp only[xS]
  have b1:(0:Int)≤((i:Nat):Int)∧((i:Nat):Int)< ((l.length:Nat):Int):=by omega
  have b2:(0:Int)≤((i:Nat):Int)∧((i:Nat):Int)< ((m.length:Nat):Int):=by omega
  have b3:(0:Int)≤((k:Nat):Int)∧((k:Nat):Int)< ((cQ l i:Nat):Int):=by omega
  have b4:(0:Int)≤((k:Nat):Int)∧((k:Nat):Int)< ((cQ m i:Nat):Int):=by omega
  refine Rs.pos b1 ?_
  rw[Int.toNat_natCast,Int.toNat_natCast]
  refine Rs.pos (decide_eq_true b3.2) (Rs.pos b1 (Rs.pos b3 (Rs.pos b2 (Rs.pos b4 ?_))))
  by_cases hx:c.ps[k].x=d.ps[k].x
  ·by_cases hu:c.ps[k].u=d.ps[k].u
   ·refine Rs.neg (by rw[a1,a2,a3,a4,hx,hu];simp) (Rs.some (hQ _ ?_))
    rw[w_succ (by omega)]
    refine ih (k+1) (by omega) r (by omega) fun j hj=>?_
    by_cases hjk:j=k
    ·subst hjk
     rw[g1,g2,prm_ne hx hu]
    ·exact hi j (by omega)
   ·refine Rs.pos (by rw[a1,a2,a3,a4];simp only[tl_dec,decide_eq_false hu];simp) (Rs.some (.inr ⟨rfl,fun h=>hu ?_⟩))
    have e:c.ps[k]? =d.ps[k]? :=by rw[h]
    rw[g1,g2]at e
    rw[Option.some.inj e]
  ·refine Rs.pos (by rw[a1,a2,a3,a4];simp only[tl_dec,decide_eq_false hx];simp) (Rs.some (.inr ⟨rfl,fun h=>hx ?_⟩))
   have e:c.ps[k]? =d.ps[k]? :=by rw[h]
   rw[g1,g2]at e
   rw[Option.some.inj e]
theorem prc_eq{a b:Prc}(h:a.x=b.x)(g:a.ps=b.ps)(k:a.b=b.b):a=b:=by cases a;cases b;simp only at h g k;rw[h,g,k]
theorem procs_same(hq:1000000<q)(hlen:l.length=m.length)(hb:l.length≤20000)(hs:∀c∈l,SmC 20000 c):∀(n i:Nat),i+n=l.length→∀r,n<r→(∀j,j<i→l[j]? =m[j]?)→
 Rs (lpG (fun y=>SameAll_l0_t (Same q) (SameAll_l2 (Same q) q (xS l m)) (xS l m) y (fun y=>some (.inl y)) (fun z=>some (.inr z))) r ((i:Nat):Int)) (fun z=>(z= .inr ()∧l=m)∨(z= .inl ()∧l≠m)):=by
 intro n
 induction n with
 |zero=>
  intro i hi r hr hj
  obtain⟨r,rfl⟩:∃t,r=t+1:=⟨r-1,by omega⟩
  refine Rs.step3 fun Q hQ=>?_
  unfold SameAll_l0_t
  dsimp only[xS]
  refine Rs.neg (fun hh=>by have:((i:Nat):Int)< ((l.length:Nat):Int):=of_decide_eq_true hh;omega) (Rs.some (.inl ⟨rfl,?_⟩))
  apply List.ext_getElem?
  intro j
  by_cases hji:j<i
  ·exact hj j hji
  ·rw[List.getElem?_eq_none (show l.length≤j by omega),List.getElem?_eq_none (show m.length≤j by omega)]
 |succ n ih=>
  intro i hi r hr hj
  obtain⟨r,rfl⟩:∃t,r=t+1:=⟨r-1,by omega⟩
  have hi1:i<l.length:=by omega
  have hi2:i<m.length:=by omega
  have hc:l[i]? =some l[i]:=List.getElem?_eq_getElem hi1
  have hd:m[i]? =some m[i]:=List.getElem?_eq_getElem hi2
  obtain⟨s1,s2⟩:=hs l[i] (List.getElem_mem hi1)
  have no:(l[i]≠m[i])→l≠m:=fun h e=>h (by
   have e2:l[i]? =m[i]? :=by rw[e]
   rw[hc,hd]at e2
   exact Option.some.inj e2)
  refine Rs.step3 fun Q hQ=>?_
  unfold SameAll_l0_t
  dsimp only[xS]
  have b1:(0:Int)≤((i:Nat):Int)∧((i:Nat):Int)< ((l.length:Nat):Int):=by omega
  have b2:(0:Int)≤((i:Nat):Int)∧((i:Nat):Int)< ((m.length:Nat):Int):=by omega
  refine Rs.pos (decide_eq_true b1.2) (Rs.pos b1 (Rs.pos b2 ?_))
  rw[Int.toNat_natCast]
  have a1:cX l i=l[i].x:=by unfold cX;rw[getD_of hc]
  have a2:cX m i=m[i].x:=by unfold cX;rw[getD_of hd]
  have a3:cQ l i=l[i].ps.length:=by unfold cQ;rw[getD_of hc]
  have a4:cQ m i=m[i].ps.length:=by unfold cQ;rw[getD_of hd]
  have a5:cT l i=eT l[i].b:=by unfold cT;rw[getD_of hc]
  have a6:cT m i=eT m[i].b:=by unfold cT;rw[getD_of hd]
  by_cases hx:l[i].x=m[i].x
  ·refine Rs.neg (by rw[a1,a2,hx];simp) (Rs.pos b1 (Rs.pos b2 ?_))
   by_cases hp:l[i].ps.length=m[i].ps.length
   ·refine Rs.neg (fun hh=>bne_iff_ne.1 hh (by rw[a3,a4,hp])) (Rs.pos b1 (Rs.pos b2 ?_))
    rw[a5,a6]
    refine Rs.bind (same_rs q l[i].b m[i].b (by omega) (by simp only[szL];omega)) fun v hv=>?_
    cases v with
    |false=>
     refine Rs.pos rfl (Rs.some (.inr ⟨rfl,no fun e=>?_⟩))
     have:=hv.2 (by rw[e])
     cases this
    |true=>
     have hbb:l[i].b=m[i].b:=hv.1 rfl
     refine Rs.neg (by decide) (Rs.bind (prms_same (q:=q) i hc hd hp (by omega) hi1 hi2 l[i].ps.length 0 (by omega) q (by omega) (fun j h=>absurd h (Nat.not_lt_zero j))) fun v hv=>?_)
     rcases hv with⟨rfl,e⟩ | ⟨rfl,e⟩
     ·dsimp only[Sum.elim_inr]
      refine Rs.some (hQ _ ?_)
      rw[w_succ (by omega)]
      refine ih (i+1) (by omega) r (by omega) fun j hji=>?_
      by_cases hjk:j=i
      ·subst hjk
       rw[hc,hd,prc_eq hx e hbb]
      ·exact hj j (by omega)
     ·dsimp only[Sum.elim_inl]
      exact Rs.some (.inr ⟨rfl,no fun h=>e (by rw[h])⟩)
   ·refine Rs.pos (bne_iff_ne.2 (by rw[a3,a4];omega)) (Rs.some (.inr ⟨rfl,no fun e=>hp (by rw[e])⟩))
  ·refine Rs.pos (by rw[a1,a2,tl_dec,decide_eq_false hx];rfl) (Rs.some (.inr ⟨rfl,no fun e=>hx (by rw[e])⟩))
theorem sameAll_rs(hq:1000000<q)(hb:l.length≤20000)(hs:∀c∈l,SmC 20000 c):Rs (SameAll q (xS l m)) (fun b=>b=true↔l=m):=by
 unfold SameAll t_SameAll
 by_cases hlen:l.length=m.length
 ·refine Rs.neg (fun hh=>bne_iff_ne.1 hh (show((l.length:Nat):Int)=((m.length:Nat):Int)by omega)) ?_
  unfold SameAll_l0
  refine Rs.bind (procs_same hq hlen hb hs l.length 0 (by omega) q (by omega) (fun j h=>absurd h (Nat.not_lt_zero j))) fun z hz=>?_
  rcases hz with⟨rfl,e⟩ | ⟨rfl,e⟩
  ·exact Rs.some ⟨fun _=>e,fun _=>rfl⟩
  ·exact Rs.some ⟨fun h=>(by cases h),fun h=>absurd h e⟩
 ·exact Rs.pos (bne_iff_ne.2 (show((l.length:Nat):Int)≠((m.length:Nat):Int)by omega)) (Rs.some ⟨fun h=>(by cases h),fun h=>absurd (by rw[h]) hlen⟩)
end
end Go.Proofs.YtjfkkokeegpeiaaGreatDoor
/- SameAll, of what Parse hands back. -/
namespace Go.Proofs.YtjfkkokeegpeiaaGreatDoor
open Go Go.Am Go.Proofs.Lx
set_option maxRecDepth 100000
theorem proc_le(l:List Prc):Le (procV l) (.ro 6 l.length (fun j=>[st (cX l j),.ro 2 (cQ l j) (fun i=>[st (cN l j i),st (cU l j i)]),i64 (cT l j).1,i64 (cT l j).2.1,st (cT l j).2.2.1,.ro 4 (cT l j).2.2.2.1 (cT l j).2.2.2.2])):=by
 unfold procV
 refine Le.ro fun j hj=>?_
 have hc:l[j]? =some l[j]:=List.getElem?_eq_getElem hj
 have e:(l.map cellsC).getD j dflC=cellsC l[j]:=by rw[List.getD_eq_getElem?_getD,List.getElem?_map,hc];rfl
 have e1:cX l j=l[j].x:=by unfold cX;rw[getD_of hc]
 have e2:cQ l j=l[j].ps.length:=by unfold cQ;rw[getD_of hc]
 have e3:cT l j=eT l[j].b:=by unfold cT;rw[getD_of hc]
 have e4:cellsT l[j].b=[i64 (eT l[j].b).1,i64 (eT l[j].b).2.1,st (eT l[j].b).2.2.1,.ro 4 (eT l[j].b).2.2.2.1 (eT l[j].b).2.2.2.2]:=cells_eT _
 rw[e,e1,e2,e3]
 unfold cellsC
 have hp:=pureT l[j].b
 rw[e4]at hp⊢
 refine⟨LeL.cons (Le.refl _) (LeL.cons (Le.ro_eq fun i hi=>?_) (LeL.cons (Le.refl _) (LeL.cons (Le.refl _) (LeL.cons (Le.refl _) (LeL.cons (Le.refl _) LeL.nil))))),?_⟩
 ·have hi':l[j].ps[i]? =some l[j].ps[i]:=List.getElem?_eq_getElem hi
  have g1:cN l j i=l[j].ps[i].x:=by unfold cN;rw[getD_of hc,getD_of hi']
  have g2:cU l j i=l[j].ps[i].u:=by unfold cU;rw[getD_of hc,getD_of hi']
  rw[g1,g2,List.getD_eq_getElem?_getD,List.getElem?_map,hi']
  exact⟨rfl,rfl⟩
 ·simp only[pureL,V.pure,Bool.and_eq_true]at hp⊢
  exact⟨trivial,trivial,hp⟩
theorem sameAll_sc{l:List Prc}(m:List Prc)(hb:l.length≤20000)(hs:∀c∈l,SmC 20000 c):∃b:Bool,(b=true↔l=m)∧SC E5 10 [procV l,procV m] [] (.ret (bo b) []):=by
 obtain⟨b,h1,h2⟩:=sameAll_rs (l:=l) (m:=m) (q:=2000000) (by decide) hb hs
 refine⟨b,h2,?_⟩
 have h3:=sc_SameAll 2000000 (xS l m) b h1
 exact SC.arg h3 (LeL.cons (proc_le l) (LeL.cons (proc_le m) LeL.nil)) rfl rfl
end Go.Proofs.YtjfkkokeegpeiaaGreatDoor
/- The chapter's examples are parsed. -/
namespace Go.Proofs.YtjfkkokeegpeiaaGreatDoor
open Go Go.Am Go.RowKit Go.Proofs.Lx
set_option maxRecDepth 100000
theorem acc_inj{s:ByteArray}{acc acc':List Tkn}(h:TokensR s (acc++[endT s],0,0))(g:TokensR s (acc'++[endT s],0,0)):acc=acc':=List.append_cancel_right (congrArg (fun r:List Tkn×Nat×Int=>r.1) (tokR_det h g))
theorem parseR_det{s:ByteArray}{r r':List Prc×Int×Int}(h:ParseR s r)(g:ParseR s r'):r=r':=by
 cases h with
 |lex p e h1 h2=>
  cases g with
  |lex p' e' g1 g2=>
   have:=tokR_det h1 g1
   have e1:p=p':=congrArg (fun r=>r.2.1) this
   have e2:e=e':=congrArg (fun r=>r.2.2) this
   rw[e1,e2]
  |ok acc l s' g1 g2 g3=>exact absurd (congrArg (fun r=>r.2.2) (tokR_det h1 g1)) h2
  |err acc p c g1 g2 g3 g4=>exact absurd (congrArg (fun r=>r.2.2) (tokR_det h1 g1)) h2
 |ok acc l s1 h1 h2 h3=>
  cases g with
  |lex p' e' g1 g2=>exact absurd (congrArg (fun r=>r.2.2) (tokR_det g1 h1)) g2
  |ok acc' l' s' g1 g2 g3=>
   obtain rfl:=acc_inj h1 g1
   rw[h3]at g3
   injection g3 with e1 e2
   rw[e1]
  |err acc' p c g1 g2 g3 g4=>
   obtain rfl:=acc_inj h1 g1
   rw[h3]at g4
   cases g4
 |err acc p c h1 h2 h3 h4=>
  cases g with
  |lex p' e' g1 g2=>exact absurd (congrArg (fun r=>r.2.2) (tokR_det g1 h1)) g2
  |ok acc' l' s' g1 g2 g3=>
   obtain rfl:=acc_inj h1 g1
   rw[h4]at g3
   cases g3
  |err acc' p' c' g1 g2 g3 g4=>
   obtain rfl:=acc_inj h1 g1
   rw[h4]at g4
   injection g4 with e1 e2
   rw[e1,e2]
theorem tokN_tok{s:ByteArray}{acc:List Tkn}(h:TokensR s (acc++[endT s],0,0)):TokN (acc.length+1) (tokAt s acc):=by
 rcases tokens_law s 3000000000 (by decide)with⟨z,h1,h2,p,h3,h4⟩ | ⟨acc',h1,h2,h3⟩
 ·exact absurd (congrArg (fun r=>r.2.2) (tokR_det h4 h)) h2
 ·obtain rfl:=acc_inj h h3
  exact h2
def src1:ByteArray:=⟨#[112,114,111,99,101,100,117,114,101,32,112,40,116,58,32,115,41,32,123,32,108,101,116,32,120,32,61,32,50,32,42,32,40,49,32,43,32,116,108,109,46,98,97,116,116,101,114,121,41,59,32,125]⟩
def src2:ByteArray:=⟨#[112,114,111,99,101,100,117,114,101,32,112,40,41,32,123,32,114,101,112,101,97,116,32,48,32,123,32,125,32,125]⟩
def src3:ByteArray:=⟨#[112,114,111,99,101,100,117,114,101,32,112,40,120,58,32,121,41,32,123,32,125]⟩
def toks1:List Tkn:=[⟨1,0,⟨#[112,114,111,99,101,100,117,114,101]⟩,0⟩,⟨1,10,⟨#[112]⟩,0⟩,⟨3,11,⟨#[40]⟩,0⟩,⟨1,12,⟨#[116]⟩,0⟩,⟨3,13,⟨#[58]⟩,0⟩,⟨1,15,⟨#[115]⟩,0⟩,⟨3,16,⟨#[41]⟩,0⟩,⟨3,18,⟨#[123]⟩,0⟩,⟨1,20,⟨#[108,101,116]⟩,0⟩,⟨1,24,⟨#[120]⟩,0⟩,⟨3,26,⟨#[61]⟩,0⟩,⟨2,28,⟨#[50]⟩,2⟩,⟨3,30,⟨#[42]⟩,0⟩,⟨3,32,⟨#[40]⟩,0⟩,⟨2,33,⟨#[49]⟩,1⟩,⟨3,35,⟨#[43]⟩,0⟩,⟨1,37,⟨#[116,108,109]⟩,0⟩,⟨3,40,⟨#[46]⟩,0⟩,⟨1,41,⟨#[98,97,116,116,101,114,121]⟩,0⟩,⟨3,48,⟨#[41]⟩,0⟩,⟨3,49,⟨#[59]⟩,0⟩,⟨3,51,⟨#[125]⟩,0⟩]
theorem tok1:TokensR src1 (toks1++[endT src1],0,0):=.inr ⟨by decide,lexF_ok 100 _ _ _ (by kernel_rfl)⟩
def toks2:List Tkn:=[⟨1,0,⟨#[112,114,111,99,101,100,117,114,101]⟩,0⟩,⟨1,10,⟨#[112]⟩,0⟩,⟨3,11,⟨#[40]⟩,0⟩,⟨3,12,⟨#[41]⟩,0⟩,⟨3,14,⟨#[123]⟩,0⟩,⟨1,16,⟨#[114,101,112,101,97,116]⟩,0⟩,⟨2,23,⟨#[48]⟩,0⟩,⟨3,25,⟨#[123]⟩,0⟩,⟨3,27,⟨#[125]⟩,0⟩,⟨3,29,⟨#[125]⟩,0⟩]
theorem tok2:TokensR src2 (toks2++[endT src2],0,0):=.inr ⟨by decide,lexF_ok 100 _ _ _ (by kernel_rfl)⟩
def toks3:List Tkn:=[⟨1,0,⟨#[112,114,111,99,101,100,117,114,101]⟩,0⟩,⟨1,10,⟨#[112]⟩,0⟩,⟨3,11,⟨#[40]⟩,0⟩,⟨1,12,⟨#[120]⟩,0⟩,⟨3,13,⟨#[58]⟩,0⟩,⟨1,15,⟨#[121]⟩,0⟩,⟨3,16,⟨#[41]⟩,0⟩,⟨3,18,⟨#[123]⟩,0⟩,⟨3,20,⟨#[125]⟩,0⟩]
theorem tok3:TokensR src3 (toks3++[endT src3],0,0):=.inr ⟨by decide,lexF_ok 100 _ _ _ (by kernel_rfl)⟩
theorem ex1:ParseR src1 (prc1,0,0):=by
 have h:∃s,procsP (tokAt src1 toks1) fuelP [] ⟨0,0,[]⟩= .ok prc1 s:=⟨⟨22,0,[⟨#[116]⟩,⟨#[120]⟩]⟩,by kernel_rfl⟩
 obtain⟨s,hs⟩:=h
 exact .ok toks1 prc1 s tok1 (tokN_tok tok1) hs
theorem ex2:ParseR src2 ([],23,5):=.err toks2 6 5 tok2 (tokN_tok tok2) (by decide) (by kernel_rfl)
theorem ex3:ParseR src3 ([],15,10):=.err toks3 5 10 tok3 (tokN_tok tok3) (by decide) (by kernel_rfl)
end Go.Proofs.YtjfkkokeegpeiaaGreatDoor
/- lives, and the law of Parse, lifted. -/
namespace Go.Proofs.YtjfkkokeegpeiaaGreatDoor
open Go Go.Am Go.Proofs Go.Proofs.Lx
set_option maxRecDepth 100000
def pF(l:List Prc):Nat→List V:=fun j=>(l.map cellsC).getD j dflC
noncomputable def ansP(s:ByteArray):List Prc×Int×Int:=Classical.choose (parse_law s)
theorem ansP_ok(s:ByteArray):ParseR s (ansP s):=(Classical.choose_spec (parse_law s)).1
theorem ansP_eq{s:ByteArray}{r:List Prc×Int×Int}(h:ParseR s r):ansP s=r:=parseR_det (ansP_ok s) h
abbrev a_ParseV:Type:=ByteArray
abbrev g_ParseV:Type:=Nat×FL×Int×Int
def A_ParseV:AR a_ParseV:=fun x=>([st x],[])
def d_ParseV(t:TT):a_ParseV:=(vS (ag t 0))
theorem v_ParseV:VI A_ParseV:=vd d_ParseV fun _=>rfl
def R_ParseV:g_ParseV→CRes:=fun z=>.ret (.tup [.ro 6 z.1 z.2.1,i64 z.2.2.1,i64 z.2.2.2]) []
noncomputable def ParseV(q:Nat)(x:a_ParseV):Option g_ParseV:=some ((ansP x).1.length,pF (ansP x).1,(ansP x).2.1,(ansP x).2.2)
theorem sc_ParseV(q:Nat):Lw E5 8 A_ParseV R_ParseV (ParseV q):=by
 intro x z h
 unfold ParseV at h
 cases h
 exact(Classical.choose_spec (parse_law x)).2
abbrev a_RefV:Type:=ByteArray
abbrev g_RefV:Type:=Nat×FL×Int×Int
def A_RefV:AR a_RefV:=fun x=>([st x],[])
def d_RefV(t:TT):a_RefV:=(vS (ag t 0))
theorem v_RefV:VI A_RefV:=vd d_RefV fun _=>rfl
def R_RefV:g_RefV→CRes:=fun z=>.ret (.tup [.ro 6 z.1 z.2.1,i64 z.2.2.1,i64 z.2.2.2]) []
noncomputable def RefV(q:Nat)(x:a_RefV):Option g_RefV:=some ((ansP x).1.length,pF (ansP x).1,(ansP x).2.1,(ansP x).2.2)
theorem sc_RefV(q:Nat):Lw E5 9 A_RefV R_RefV (RefV q):=by
 intro x z h
 unfold RefV at h
 cases h
 exact rparse_law (ansP_ok x)
abbrev a_SameV:Type:=Nat×FL×Nat×FL
abbrev g_SameV:Type:=Bool
def A_SameV:AR a_SameV:=fun x=>([.ro 6 x.1 x.2.1,.ro 6 x.2.2.1 x.2.2.2],[])
def d_SameV(t:TT):a_SameV:=(vRoN (ag t 0),vRoF (ag t 0),vRoN (ag t 1),vRoF (ag t 1))
theorem v_SameV:VI A_SameV:=vd d_SameV fun _=>rfl
def R_SameV:g_SameV→CRes:=fun z=>.ret (bo z) []
noncomputable def SameV(q:Nat)(x:a_SameV):Option g_SameV:=@ite _ (∃l:List Prc,x=(l.length,pF l,l.length,pF l)∧l.length≤20000∧∀c∈l,SmC 20000 c) (Classical.propDecidable _) (some true) none
theorem sc_SameV(q:Nat):Lw E5 10 A_SameV R_SameV (SameV q):=by
 intro x z h
 unfold SameV at h
 split at h
 ·rename_i hc
  obtain⟨l,rfl,h1,h2⟩:=hc
  cases h
  obtain⟨b,h3,h4⟩:=sameAll_sc l h1 h2
  have e:b=true:=h3.2 rfl
  rw[e]at h4
  exact h4
 ·cases h
abbrev a_PrintV:Type:=Nat×FL
abbrev g_PrintV:Type:=ByteArray
def A_PrintV:AR a_PrintV:=fun x=>([.ro 6 x.1 x.2],[])
def d_PrintV(t:TT):a_PrintV:=(vRoN (ag t 0),vRoF (ag t 0))
theorem v_PrintV:VI A_PrintV:=vd d_PrintV fun _=>rfl
def R_PrintV:g_PrintV→CRes:=fun z=>.ret (st z) []
noncomputable def PrintV(q:Nat)(x:a_PrintV):Option g_PrintV:=@ite _ (x=(prc1.length,pF prc1)) (Classical.propDecidable _) (some out1) none
theorem sc_PrintV(q:Nat):Lw E5 13 A_PrintV R_PrintV (PrintV q):=by
 intro x z h
 unfold PrintV at h
 split at h
 ·rename_i hc
  subst hc
  cases h
  exact print1
 ·cases h
abbrev a_Lives:Type:=Unit
abbrev g_Lives:Type:=Bool
def A_Lives:a_Lives→List V×List (Option Chunk):=(fun _=>(([]:List V),([]:List (Option Chunk))))
def d_Lives(t:TT):a_Lives:=()
theorem v_Lives:VI A_Lives:=vd d_Lives fun _=>rfl
def R_Lives:g_Lives→CRes:=fun z=>.ret (bo z) []
def t_Lives{β:Type}(c_ParseV:a_ParseV→Option g_ParseV)(c_PrintV:a_PrintV→Option g_PrintV)(x:a_Lives)(dn:g_Lives→Option β):Option β:=
 (c_ParseV (⟨#[112,114,111,99,101,100,117,114,101,32,112,40,116,58,32,115,41,32,123,32,108,101,116,32,120,32,61,32,50,32,42,32,40,49,32,43,32,116,108,109,46,98,97,116,116,101,114,121,41,59,32,125]⟩)).bind fun z1=>(c_ParseV (⟨#[112,114,111,99,101,100,117,114,101,32,112,40,41,32,123,32,114,101,112,101,97,116,32,48,32,123,32,125,32,125]⟩)).bind fun z3=>(c_ParseV (⟨#[112,114,111,99,101,100,117,114,101,32,112,40,120,58,32,121,41,32,123,32,125]⟩)).bind fun z5=>if(z1.2.2.2==0)=true then if(((z1.1:Nat):Int)==1)=true then(c_PrintV (z1.1,z1.2.1)).bind fun z8=>if(z8.toList==ByteArray.toList ⟨#[112,114,111,99,101,100,117,114,101,32,112,40,116,58,32,115,41,32,123,10,32,32,108,101,116,32,120,32,61,32,50,32,42,32,40,49,32,43,32,116,108,109,46,98,97,116,116,101,114,121,41,59,10,125,10]⟩)=true then if(z3.2.2.1==23)=true then if(z3.2.2.2==5)=true then if(z5.2.2.1==15)=true then dn (z5.2.2.2==10)else dn false else dn false else dn false else dn false else dn false else dn false
theorem n_Lives{β:Type}(c_ParseV c_PrintV)(x)(dn:g_Lives→Option β):t_Lives c_ParseV c_PrintV x dn=(t_Lives c_ParseV c_PrintV x some).bind dn:=by
 unfold t_Lives
 repeat' first|exact n0|refine n1 fun _=>?_|refine n2 ?_ ?_|refine n3 (fun _=>?_) fun _=>?_|rfl
theorem r_Lives(c_ParseV c_PrintV)(x):callK E5 (ftb 8 A_ParseV R_ParseV c_ParseV (ftb 13 A_PrintV R_PrintV c_PrintV ca0)) lo0 11 (A_Lives x).1 (A_Lives x).2 K=t_Lives (vf A_ParseV c_ParseV) (vf A_PrintV c_PrintV) x (fun z=>some (.c (R_Lives z))):=by kernel_rfl
noncomputable def Lives(q:Nat)(x:a_Lives):Option g_Lives:=t_Lives (ParseV q) (PrintV q) x some
theorem sc_Lives(q:Nat):Lw E5 11 A_Lives R_Lives (Lives q):=sof hW5 hX5 (fk (sc_ParseV q) (fk (sc_PrintV q) ca0_sound)) (fun _=>lo0_sound) fun x=>(r_Lives (ParseV q) (PrintV q) x).trans (by rw[v_ParseV,v_PrintV,n_Lives]<;>rfl)
abbrev a_LParses:Type:=ByteArray
abbrev g_LParses:Type:=Bool
def A_LParses:AR a_LParses:=fun x=>([st x],[])
def R_LParses:g_LParses→CRes:=fun z=>.ret (bo z) []
def t_LParses{β:Type}(c_ParseV:a_ParseV→Option g_ParseV)(c_RefV:a_RefV→Option g_RefV)(c_SameV:a_SameV→Option g_SameV)(c_Lives:a_Lives→Option g_Lives)(x:a_LParses)(dn:g_LParses→Option β):Option β:=
 (c_ParseV x).bind fun z1=>(c_RefV x).bind fun z3=>(c_SameV (z1.1,z1.2.1,z3.1,z3.2.1)).bind fun z8=>if z8=true then if(z1.2.2.1==z3.2.2.1)=true then if(z1.2.2.2==z3.2.2.2)=true then(c_Lives ()).bind fun z9=>dn z9 else dn false else dn false else dn false
theorem n_LParses{β:Type}(c_ParseV c_RefV)(c_SameV c_Lives)(x)(dn:g_LParses→Option β):t_LParses c_ParseV c_RefV c_SameV c_Lives x dn=(t_LParses c_ParseV c_RefV c_SameV c_Lives x some).bind dn:=by
 unfold t_LParses
 repeat' first|exact n0|refine n1 fun _=>?_|refine n2 ?_ ?_|refine n3 (fun _=>?_) fun _=>?_|rfl
theorem r_LParses(c_ParseV c_RefV)(c_SameV c_Lives)(x):callK E5 (ftb 8 A_ParseV R_ParseV c_ParseV (ftb 9 A_RefV R_RefV c_RefV (ftb 10 A_SameV R_SameV c_SameV (ftb 11 A_Lives R_Lives c_Lives ca0)))) lo0 3 (A_LParses x).1 (A_LParses x).2 K=t_LParses (vf A_ParseV c_ParseV) (vf A_RefV c_RefV) (vf A_SameV c_SameV) (vf A_Lives c_Lives) x (fun z=>some (.c (R_LParses z))):=by kernel_rfl
noncomputable def LParses(q:Nat)(x:a_LParses):Option g_LParses:=t_LParses (ParseV q) (RefV q) (SameV q) (Lives q) x some
theorem sc_LParses(q:Nat):Lw E5 3 A_LParses R_LParses (LParses q):=sof hW5 hX5 (fk (sc_ParseV q) (fk (sc_RefV q) (fk (sc_SameV q) (fk (sc_Lives q) ca0_sound)))) (fun _=>lo0_sound) fun x=>(r_LParses (ParseV q) (RefV q) (SameV q) (Lives q) x).trans (by rw[v_ParseV,v_RefV,v_SameV,v_Lives,n_LParses]<;>rfl)
end Go.Proofs.YtjfkkokeegpeiaaGreatDoor
/- The examples hold; Parse agrees with the specification. -/
namespace Go.Proofs.YtjfkkokeegpeiaaGreatDoor
open Go Go.Am Go.Proofs.Lx
set_option maxRecDepth 100000
theorem parseV_eq(q:Nat){s:ByteArray}{r:List Prc×Int×Int}(h:ParseR s r):ParseV q s=some (r.1.length,pF r.1,r.2.1,r.2.2):=by
 unfold ParseV
 rw[ansP_eq h]
theorem lives_true(q:Nat):Lives q ()=some true:=by
 have h1:ParseV q src1=some (1,pF prc1,0,0):=parseV_eq q ex1
 have h2:ParseV q src2=some (0,pF [],23,5):=parseV_eq q ex2
 have h3:ParseV q src3=some (0,pF [],15,10):=parseV_eq q ex3
 have h4:PrintV q (1,pF prc1)=some out1:=by
  unfold PrintV
  exact if_pos rfl
 refine Rs.eq ?_
 unfold Lives t_Lives
 refine Rs.bind (Rs.of h1) fun z1 e1=>?_
 refine Rs.bind (Rs.of h2) fun z2 e2=>?_
 refine Rs.bind (Rs.of h3) fun z3 e3=>?_
 subst e1 e2 e3
 refine Rs.pos rfl (Rs.pos rfl ?_)
 refine Rs.bind (Rs.of h4) fun z4 e4=>?_
 subst e4
 refine Rs.pos (tl_eq.2 rfl) (Rs.pos rfl (Rs.pos rfl (Rs.pos rfl (Rs.some rfl))))
theorem parses_true(s:ByteArray):LParses 0 s=some true:=by
 have hs:=parse_small (ansP_ok s)
 have h3:SameV 0 ((ansP s).1.length,pF (ansP s).1,(ansP s).1.length,pF (ansP s).1)=some true:=by
  unfold SameV
  exact if_pos ⟨(ansP s).1,rfl,hs.1,hs.2⟩
 unfold LParses t_LParses
 rw[show ParseV 0 s=some ((ansP s).1.length,pF (ansP s).1,(ansP s).2.1,(ansP s).2.2)from rfl,show RefV 0 s=some ((ansP s).1.length,pF (ansP s).1,(ansP s).2.1,(ansP s).2.2)from rfl]
 dsimp only[Option.bind_some]
 rw[h3]
 dsimp only[Option.bind_some]
 rw[if_pos rfl,if_pos (beq_self_eq_true _),if_pos (beq_self_eq_true _),lives_true]
 rfl
theorem law_parses(s:ByteArray):SC E5 3 [st s] [] (.ret (bo true) []):=sc_LParses 0 s true (parses_true s)
end Go.Proofs.YtjfkkokeegpeiaaGreatDoor
/- The law of Parse, as the row wants it. -/
namespace Go.Proofs.YtjfkkokeegpeiaaGreatDoor
open Go Go.Am Go.Proofs.Lx
theorem parserParses(v0:V)(h0:WTV E.P 9 v0):∃l',LeL [v0] l'∧SC E 3 l' [] (.ret (bo true) []):=by
 obtain⟨s,rfl,_⟩:=h0.str (by kernel_rfl) (by kernel_rfl)
 exact⟨[st s],LeL.refl _,sc5.1 (law_parses s)⟩
end Go.Proofs.YtjfkkokeegpeiaaGreatDoor

