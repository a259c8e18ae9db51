/- Texts joined. -/
import Derived.Test.YtjfkkokeegpeiaaGreatDoorQD
import Derived.Test.YtjfkkokeegpeiaaGreatDoorQE
import Derived.Test.YtjfkkokeegpeiaaGreatDoorQF
/- The program's lexer, of words: the plain one. -/
set_option linter.unusedSimpArgs false
set_option linter.unusedVariables false
namespace Go.Proofs.YtjfkkokeegpeiaaGreatDoor
open Go Go.Am Go.Proofs.Lx
set_option maxRecDepth 100000
theorem letter_eq(q:Nat)(c:Int):letter q c=some (letterI c):=by
 unfold letter t_letter letterI
 simp only[ge_iff_le,decide_eq_true_eq]
 by_cases h1:97≤c<;>by_cases h2:c≤122<;>by_cases h3:65≤c<;>by_cases h4:c≤90<;>simp[h1,h2,h3,h4]<;>omega
theorem digit_eq(q:Nat)(c:Int):digit q c=some (digitI c):=by
 unfold digit t_digit digitI
 simp only[ge_iff_le,decide_eq_true_eq]
 by_cases h1:48≤c<;>by_cases h2:c≤57<;>simp[h1,h2]
theorem notLf_eq(q:Nat)(c:Int):notLf q c=some (ne10 c):=rfl
theorem wordC_eq(q:Nat)(c:Int):wordC q c=some (wordI c):=by
 unfold wordC t_wordC
 rw[letter_eq]
 dsimp only[Option.bind_some]
 unfold wordI
 by_cases h:letterI c=true
 ·rw[if_pos h,h];rfl
 ·rw[if_neg h,digit_eq]
  simp only[Bool.not_eq_true]at h
  rw[h];rfl
theorem flat_letter:Flat letterI:=fun c h=>by rw[Bool.eq_iff_iff];simp[letterI];omega
theorem flat_digit:Flat digitI:=fun c h=>by rw[Bool.eq_iff_iff];simp[digitI];omega
theorem flat_white:Flat whiteI:=fun c h=>by rw[Bool.eq_iff_iff];simp[whiteI];omega
theorem flat_word:Flat wordI:=fun c h=>by unfold wordI;rw[flat_letter c h,flat_digit c h]
theorem flat_ne10:Flat ne10:=fun c h=>by rw[Bool.eq_iff_iff];simp[ne10];omega
def spanSt(g:Int→Bool)(s:ByteArray)(y:Nat):Option (Nat⊕(Int⊕Unit)):=
 if y<s.size then(if(!(g ((Utf8.decode s y).1:Int)))=true then some (.inr (.inl ((y:Nat):Int)))else some (.inl (y+(Utf8.decode s y).2)))else some (.inr (.inr ()))
theorem span_run(g:Int→Bool)(hg:Flat g)(s:ByteArray):∀(m y:Nat),y≤s.size→s.size-y<m→∃r,lpG (spanSt g s) m y=some r∧(r= .inl (((y+spanL g (s.data.toList.drop y):Nat):Nat):Int)∨(r= .inr ()∧y+spanL g (s.data.toList.drop y)=s.size)):=by
 intro m
 induction m with
 |zero=>intro y _ h;omega
 |succ m ih=>
  intro y hy hm
  rw[lpG_succ]
  by_cases h:y<s.size
  ·by_cases hc:g ((Utf8.decode s y).1:Int)=true
   ·have e:spanSt g s y=some (.inl (y+(Utf8.decode s y).2)):=by unfold spanSt;rw[if_pos h,if_neg (by rw[hc];simp)]
    rw[e]
    obtain⟨h1,h2,_⟩:=decode_len s y h
    have e2:=span_step s g hg y h hc
    obtain⟨r,k1,k2⟩:=ih (y+(Utf8.decode s y).2) h2 (by omega)
    refine⟨r,k1,?_⟩
    rw[e2]
    rw[Nat.add_assoc]at k2
    exact k2
   ·have e:spanSt g s y=some (.inr (.inl ((y:Nat):Int))):=by unfold spanSt;rw[if_pos h,if_pos (by simpa using hc)]
    rw[e]
    refine⟨_,rfl,.inl ?_⟩
    rw[span_stop s g y h (by rw[←decode_g s g hg y h];simpa using hc)]
    rfl
  ·have e:spanSt g s y=some (.inr (.inr ())):=by unfold spanSt;rw[if_neg h]
   rw[e]
   have:y=s.size:=by omega
   subst this
   exact⟨_,rfl,.inr ⟨rfl,by rw[span_end];rfl⟩⟩
theorem span_len(g:Int→Bool)(s:ByteArray):spanL g s.data.toList≤s.size:=by
 have:=spanL_le g s.data.toList
 simpa using this
theorem spanN_eq(q:Nat)(s:ByteArray)(hq:s.size<q):spanN q s=some ((spanL ne10 s.data.toList:Nat):Int):=by
 unfold spanN t_spanN spanN_l0
 have e:(fun y=>spanN_l0_t (notLf q) s y (fun y=>(some (.inl y):Option (spanN_l0_a⊕spanN_l0_g))) (fun z=>some (.inr z)))=spanSt ne10 s:=by
  funext y
  unfold spanN_l0_t spanSt
  simp only[notLf_eq,Option.bind_some]
 rw[e]
 obtain⟨r,k1,k2⟩:=span_run ne10 flat_ne10 s q 0 (Nat.zero_le _) (by omega)
 rw[k1]
 rw[List.drop_zero,Nat.zero_add]at k2
 rcases k2 with rfl| ⟨rfl,k2⟩
 ·rfl
 ·rw[k2];rfl
theorem spanD_eq(q:Nat)(s:ByteArray)(hq:s.size<q):spanD q s=some ((spanL digitI s.data.toList:Nat):Int):=by
 unfold spanD t_spanD spanD_l0
 have e:(fun y=>spanD_l0_t (digit q) s y (fun y=>(some (.inl y):Option (spanD_l0_a⊕spanD_l0_g))) (fun z=>some (.inr z)))=spanSt digitI s:=by
  funext y
  unfold spanD_l0_t spanSt
  simp only[digit_eq,Option.bind_some]
 rw[e]
 obtain⟨r,k1,k2⟩:=span_run digitI flat_digit s q 0 (Nat.zero_le _) (by omega)
 rw[k1]
 rw[List.drop_zero,Nat.zero_add]at k2
 rcases k2 with rfl| ⟨rfl,k2⟩
 ·rfl
 ·rw[k2];rfl
theorem spanW_eq(q:Nat)(s:ByteArray)(hq:s.size<q):spanW q s=some ((spanL wordI s.data.toList:Nat):Int):=by
 unfold spanW t_spanW spanW_l0
 have e:(fun y=>spanW_l0_t (wordC q) s y (fun y=>(some (.inl y):Option (spanW_l0_a⊕spanW_l0_g))) (fun z=>some (.inr z)))=spanSt wordI s:=by
  funext y
  unfold spanW_l0_t spanSt
  simp only[wordC_eq,Option.bind_some]
 rw[e]
 obtain⟨r,k1,k2⟩:=span_run wordI flat_word s q 0 (Nat.zero_le _) (by omega)
 rw[k1]
 rw[List.drop_zero,Nat.zero_add]at k2
 rcases k2 with rfl| ⟨rfl,k2⟩
 ·rfl
 ·rw[k2];rfl
def tokE(z:Tkn×Int):Int×Int×ByteArray×Int×Int:=(z.1.k,z.1.a,z.1.t,z.1.n,z.2)
theorem word_eq(q:Nat)(s:ByteArray)(hq:s.size<q):word q s=some (tokE (wordP s)):=by
 unfold word t_word wordP
 rw[spanW_eq q s hq]
 dsimp only[Option.bind_some]
 have hl:=span_len wordI s
 generalize spanL wordI s.data.toList=k at hl⊢
 by_cases h:12<k
 ·have h':(k:Int)>12:=by omega
  rw[if_pos h,if_pos (decide_eq_true h')];rfl
 ·have h':¬(k:Int)>12:=by omega
  have h3:(0:Int)≤0∧(0:Int)≤((k:Nat):Int)∧((k:Nat):Int)≤((s.size:Nat):Int):=by omega
  rw[if_neg h,if_neg (fun hh=>h' (of_decide_eq_true hh)),if_pos h3];rfl
end Go.Proofs.YtjfkkokeegpeiaaGreatDoor
/- The program's lexer, of symbols and numbers: the plain one. -/
namespace Go.Proofs.YtjfkkokeegpeiaaGreatDoor
open Go Go.Am Go.Proofs.Lx
set_option maxRecDepth 100000
theorem sym_two{s:ByteArray}(h1:1<s.size){l:List UInt8}(hl:l∈sym2)(e:s.extract 0 2=⟨l.toArray⟩):((3,0,s.extract 0 2,0,0):Int×Int×ByteArray×Int×Int)=tokE (symbolP s):=by
 have h2:symN s.data.toList=2:=symN_two (t:=s.extract 0 2) h1 rfl (by rw[e];exact hl)
 unfold symbolP
 rw[h2,if_neg (by decide)]
 rfl
theorem sym_one{s:ByteArray}(h0:0<s.size)(hn:¬(1<s.data.toList.length∧s.data.toList.take 2∈sym2))(hi:(0:Int)≤Lib.indexByte sym1 s[0]):((3,0,s.extract 0 1,0,0):Int×Int×ByteArray×Int×Int)=tokE (symbolP s):=by
 have h2:=symN_one h0 hn
 rw[if_pos hi]at h2
 unfold symbolP
 rw[h2,if_neg (by decide)]
 rfl
theorem sym_no{s:ByteArray}(h0:0<s.size)(hn:¬(1<s.data.toList.length∧s.data.toList.take 2∈sym2))(hi:¬(0:Int)≤Lib.indexByte sym1 s[0]):((0,0,⟨#[]⟩,0,11):Int×Int×ByteArray×Int×Int)=tokE (symbolP s):=by
 have h2:=symN_one h0 hn
 rw[if_neg hi]at h2
 unfold symbolP
 rw[h2,if_pos rfl]
 rfl
theorem lsym_rs(q:Nat)(s:ByteArray)(h0:0<s.size):Rs (lsym q s) (fun z=>z=tokE (symbolP s)):=by
 unfold lsym t_lsym
 refine Rs.pos (show(0:Int)≤0∧(0:Int)< ((s.size:Nat):Int)by omega) ?_
 have hg:=drop_get s 0 h0
 have e:=get_at s 0 h0
 simp only[Nat.add_zero]at e
 rw[List.drop_zero,e]at hg
 have hb:List.getD s.data.toList 0 (0:UInt8)=s[0]:=by rw[hg];rfl
 have hix:∀q,IndexByte q ({data:=#[123,125,40,41,61,59,44,58,60,62,43,45,42,47,33,46]},((UInt8.toNat (List.getD s.data.toList 0 (0:UInt8)):Nat):Int))=some (Lib.indexByte sym1 s[0]):=by
  intro q
  unfold IndexByte
  dsimp only
  rw[hb,Int.toNat_natCast,UInt8.ofNat_toNat]
  rfl
 refine Rs.bind ⟨_,hix q,rfl⟩ fun z hz=>?_
 subst hz
 by_cases hi:(0:Int)≤Lib.indexByte sym1 s[0]
 ·refine Rs.pos (decide_eq_true hi) ?_
  have hb1:(0:Int)≤0∧(0:Int)≤1∧(1:Int)≤((s.size:Nat):Int):=by omega
  by_cases h1:1<s.size
  ·have hbn:(0:Int)≤0∧(0:Int)≤2∧(2:Int)≤((s.size:Nat):Int):=by omega
   refine Rs.pos (decide_eq_true (show((s.size:Nat):Int)>1 by omega)) (Rs.pos hbn ?_)
   by_cases c1:s.extract 0 2=sOr
   ·exact Rs.pos (tl_eq.2 c1) (Rs.pos hbn (Rs.some (sym_two h1 (by decide) c1)))
   refine Rs.neg (fun h=>c1 (tl_eq.1 h)) ?_
   by_cases c2:s.extract 0 2=sAnd
   ·exact Rs.pos (tl_eq.2 c2) (Rs.pos hbn (Rs.some (sym_two h1 (by decide) c2)))
   refine Rs.neg (fun h=>c2 (tl_eq.1 h)) ?_
   by_cases c3:s.extract 0 2=sLe
   ·exact Rs.pos (tl_eq.2 c3) (Rs.pos hbn (Rs.some (sym_two h1 (by decide) c3)))
   refine Rs.neg (fun h=>c3 (tl_eq.1 h)) ?_
   by_cases c4:s.extract 0 2=sGe
   ·exact Rs.pos (tl_eq.2 c4) (Rs.pos hbn (Rs.some (sym_two h1 (by decide) c4)))
   refine Rs.neg (fun h=>c4 (tl_eq.1 h)) ?_
   by_cases c5:s.extract 0 2=sEq
   ·exact Rs.pos (tl_eq.2 c5) (Rs.pos hbn (Rs.some (sym_two h1 (by decide) c5)))
   refine Rs.neg (fun h=>c5 (tl_eq.1 h)) ?_
   by_cases c6:s.extract 0 2=sNe
   ·exact Rs.pos (tl_eq.2 c6) (Rs.pos hbn (Rs.some (sym_two h1 (by decide) c6)))
   refine Rs.neg (fun h=>c6 (tl_eq.1 h)) ?_
   have hn:¬(1<s.data.toList.length∧s.data.toList.take 2∈sym2):=sym2_not rfl (by
    intro l hl
    simp only[sym2,List.mem_cons,List.not_mem_nil,or_false]at hl
    rcases hl with rfl|rfl|rfl|rfl|rfl|rfl
    ·exact c1
    ·exact c2
    ·exact c3
    ·exact c4
    ·exact c5
    ·exact c6)
   exact Rs.pos hb1 (Rs.some (sym_one h0 hn hi))
  ·have hn:¬(1<s.data.toList.length∧s.data.toList.take 2∈sym2):=fun h=>h1 (by simpa using h.1)
   refine Rs.neg (fun h=>h1 (by have:=of_decide_eq_true h;omega)) ?_
   exact Rs.pos hb1 (Rs.some (sym_one h0 hn hi))
 ·refine Rs.neg (fun h=>hi (of_decide_eq_true h)) ?_
  by_cases h1:1<s.size
  ·have hbn:(0:Int)≤0∧(0:Int)≤2∧(2:Int)≤((s.size:Nat):Int):=by omega
   refine Rs.pos (decide_eq_true (show((s.size:Nat):Int)>1 by omega)) (Rs.pos hbn ?_)
   by_cases c1:s.extract 0 2=sOr
   ·exact Rs.pos (tl_eq.2 c1) (Rs.pos hbn (Rs.some (sym_two h1 (by decide) c1)))
   refine Rs.neg (fun h=>c1 (tl_eq.1 h)) ?_
   by_cases c2:s.extract 0 2=sAnd
   ·exact Rs.pos (tl_eq.2 c2) (Rs.pos hbn (Rs.some (sym_two h1 (by decide) c2)))
   refine Rs.neg (fun h=>c2 (tl_eq.1 h)) ?_
   by_cases c3:s.extract 0 2=sLe
   ·exact Rs.pos (tl_eq.2 c3) (Rs.pos hbn (Rs.some (sym_two h1 (by decide) c3)))
   refine Rs.neg (fun h=>c3 (tl_eq.1 h)) ?_
   by_cases c4:s.extract 0 2=sGe
   ·exact Rs.pos (tl_eq.2 c4) (Rs.pos hbn (Rs.some (sym_two h1 (by decide) c4)))
   refine Rs.neg (fun h=>c4 (tl_eq.1 h)) ?_
   by_cases c5:s.extract 0 2=sEq
   ·exact Rs.pos (tl_eq.2 c5) (Rs.pos hbn (Rs.some (sym_two h1 (by decide) c5)))
   refine Rs.neg (fun h=>c5 (tl_eq.1 h)) ?_
   by_cases c6:s.extract 0 2=sNe
   ·exact Rs.pos (tl_eq.2 c6) (Rs.pos hbn (Rs.some (sym_two h1 (by decide) c6)))
   refine Rs.neg (fun h=>c6 (tl_eq.1 h)) ?_
   have hn:¬(1<s.data.toList.length∧s.data.toList.take 2∈sym2):=sym2_not rfl (by
    intro l hl
    simp only[sym2,List.mem_cons,List.not_mem_nil,or_false]at hl
    rcases hl with rfl|rfl|rfl|rfl|rfl|rfl
    ·exact c1
    ·exact c2
    ·exact c3
    ·exact c4
    ·exact c5
    ·exact c6)
   exact Rs.some (sym_no h0 hn hi)
  ·have hn:¬(1<s.data.toList.length∧s.data.toList.take 2∈sym2):=fun h=>h1 (by simpa using h.1)
   refine Rs.neg (fun h=>h1 (by have:=of_decide_eq_true h;omega)) ?_
   exact Rs.some (sym_no h0 hn hi)
theorem val_ge:∀(l:List UInt8) (n:Int),(∀b∈l,digitI b.toNat=true)→0≤n→n≤valI n l
 | [],n,_,_=>Int.le_refl _
 |b::l,n,h,h0=>by
  have hb:=h b (.head _)
  simp[digitI]at hb
  have:=val_ge l (10*n+((b.toNat:Int)-48)) (fun c hc=>h c (.tail _ hc)) (by omega)
  show n≤valI (10*n+((b.toNat:Int)-48)) l
  omega
theorem num_loop(q:Nat)(x0:a_lnum)(t:ByteArray)(hd:∀b∈t.data.toList,digitI b.toNat=true):∀(m p:Nat) (n:Int),p≤t.size→t.size-p<m→0≤n→n≤2147483647→
 Rs (lpG (fun y=>lnum_l0_t (spanD q) x0 y (fun y=>some (.inl y)) (fun z=>some (.inr z))) m (t,n,p)) (fun r=>if valI n (t.data.toList.drop p)>2147483647 then r= .inl ()else r= .inr (t,valI n (t.data.toList.drop p))):=by
 intro m
 induction m with
 |zero=>intro p n _ h;omega
 |succ m ih=>
  intro p n hp hm h0 h1
  refine Rs.step3 fun Q hQ=>?_
  unfold lnum_l0_t
  dsimp only
  by_cases h:p<t.size
  ·refine Rs.pos h ?_
   have hg:=drop_get t p h
   have hdg:digitI ((t.get! p).toNat:Int)=true:=hd _ (List.mem_of_getElem? (get_list t p h))
   have hdg':=hdg
   simp[digitI]at hdg'
   have e:=get_at t p h
   simp only[Nat.add_zero]at e
   have hdec:Utf8.decode t p=((t.get! p).toNat,1):=by
    have:=decode_ascii t p h (by rw[←e];omega)
    rw[this,←e]
   rw[hdec]
   dsimp only
   have e32:IntKind.wrap .i32 (((t.get! p).toNat:Int)-48)=((t.get! p).toNat:Int)-48:=by
    simp[IntKind.wrap,IntKind.bits,IntKind.signed];omega
   have ew:w (w (10*n)+w (IntKind.wrap .i32 (((t.get! p).toNat:Int)-48)))=10*n+(((t.get! p).toNat:Int)-48):=by
    rw[e32,w_in (n:=10*n) (by omega) (by omega),w_in (n:=((t.get! p).toNat:Int)-48) (by omega) (by omega),w_in (by omega) (by omega)]
   rw[ew]
   have ev:valI n (t.data.toList.drop p)=valI (10*n+(((t.get! p).toNat:Int)-48)) (t.data.toList.drop (p+1)):=by rw[hg];rfl
   by_cases hc:10*n+(((t.get! p).toNat:Int)-48)>2147483647
   ·refine Rs.pos (decide_eq_true hc) (Rs.some ?_)
    have hv:=val_ge (t.data.toList.drop (p+1)) (10*n+(((t.get! p).toNat:Int)-48)) (fun b hb=>hd b (List.mem_of_mem_drop hb)) (by omega)
    show(if _ then _ else _)
    rw[if_pos (by rw[ev];omega)]
   ·refine Rs.neg (fun hh=>hc (of_decide_eq_true hh)) (Rs.some (hQ _ ?_))
    rw[ev]
    exact ih (p+1) _ h (by omega) (by omega) (by omega)
  ·refine Rs.neg h (Rs.some ?_)
   have hlen:t.data.toList.length=t.size:=by simp
   have:t.data.toList.drop p=[]:=List.drop_of_length_le (by omega)
   show(if _ then _ else _)
   rw[this]
   rw[if_neg (show¬(valI n []>2147483647)by show¬n>2147483647;omega)]
   rfl
theorem lnum_rs(q:Nat)(s:ByteArray)(hq:s.size<q):Rs (lnum q s) (fun z=>z=tokE (numberP (s.extract 0 (spanL digitI s.data.toList)))):=by
 unfold lnum t_lnum
 rw[spanD_eq q s hq]
 dsimp only[Option.bind_some]
 have hl:=span_len digitI s
 have hd:∀b∈(s.extract 0 (spanL digitI s.data.toList)).data.toList,digitI b.toNat=true:=by
  intro b hb
  rw[extract_list]at hb
  simp only[List.drop_zero,Nat.sub_zero]at hb
  obtain⟨j,hj⟩:=List.mem_iff_getElem?.1 hb
  rw[List.getElem?_take]at hj
  split at hj
  ·rename_i hlt
   obtain⟨c,h1,h2⟩:=spanL_get digitI s.data.toList j hlt
   rw[h1]at hj
   cases hj
   exact h2
  ·cases hj
 have ht:(s.extract 0 (spanL digitI s.data.toList)).size≤s.size:=by simp;omega
 generalize hk:spanL digitI s.data.toList=k at hl hd ht⊢
 have e0:Int.toNat ((k:Nat):Int)=k:=by omega
 rw[e0]
 refine Rs.pos (show(0:Int)≤0∧(0:Int)≤((k:Nat):Int)∧((k:Nat):Int)≤((s.size:Nat):Int)by omega) ?_
 generalize s.extract 0 k=t at hd ht⊢
 have hloop:=num_loop q s t hd q 0 0 (Nat.zero_le _) (by omega) (by omega) (by omega)
 rw[List.drop_zero]at hloop
 have tail:¬(1<t.size∧t.data.toList[0]? =some 48)→Rs ((lnum_l0 (spanD q) q s (t,0,0)).bind fun z16=>Sum.elim (fun z16a=>(some (((0:Int),(0:Int),{data:=#[]},(0:Int),(5:Int))):Option g_lnum)) (fun z16b=>some (((2:Int),(0:Int),z16b.1,z16b.2,(0:Int)))) z16) (fun z=>z=tokE (numberP t)):=by
  intro hno
  refine Rs.bind hloop fun r hr=>?_
  unfold numberP
  rw[if_neg hno]
  by_cases hv:valI 0 t.data.toList>2147483647
  ·rw[if_pos hv]at hr⊢
   subst hr
   exact Rs.some rfl
  ·rw[if_neg hv]at hr⊢
   subst hr
   exact Rs.some rfl
 by_cases h1:1<t.size
 ·refine Rs.pos (decide_eq_true (show((t.size:Nat):Int)>1 by omega)) (Rs.pos (show(0:Int)≤0∧(0:Int)< ((t.size:Nat):Int)by omega) ?_)
  have hg:=drop_get t 0 (by omega)
  rw[List.drop_zero]at hg
  have hb:List.getD t.data.toList 0 (0:UInt8)=t.get! 0:=by rw[hg];rfl
  rw[hb]
  by_cases hc:(((t.get! 0).toNat:Nat):Int)=48
  ·refine Rs.pos (by simpa using hc) (Rs.some ?_)
   unfold numberP
   rw[if_pos ⟨h1,by rw[hg];simp only[List.getElem?_cons_zero,Option.some.injEq];exact UInt8.toNat_inj.1 (by show(t.get! 0).toNat=48;omega)⟩]
   rfl
  ·refine Rs.neg (by simpa using hc) (tail fun h=>hc ?_)
   have:=h.2
   rw[hg]at this
   simp only[List.getElem?_cons_zero,Option.some.injEq]at this
   rw[this];rfl
 ·exact Rs.neg (fun h=>h1 (by have:=of_decide_eq_true h;omega)) (tail fun h=>h1 h.1)
end Go.Proofs.YtjfkkokeegpeiaaGreatDoor
/- The reference's lexer: letters, what is skipped. -/
namespace Go.Proofs.YtjfkkokeegpeiaaGreatDoor
open Go Go.Am Go.Proofs.Lx
set_option maxRecDepth 100000
theorem RLetter_eq(q:Nat)(c:Int):RLetter q c=some (letterI c):=letter_eq q c
theorem RDigit_eq(q:Nat)(c:Int):RDigit q c=some (digitI c):=digit_eq q c
theorem RWhite_eq(q:Nat)(c:Int):RWhite q c=some (whiteI c):=by
 unfold RWhite t_RWhite whiteI
 by_cases h1:c=32<;>by_cases h2:c=9<;>by_cases h3:c=10<;>by_cases h4:c=13<;>simp[h1,h2,h3,h4]
def skipL:Bool→List UInt8→Nat
 |_,[]=>0
 |true,b::l=>1+skipL (!(b==10)) l
 |false,b::l=>if b=35 then 1+skipL true l else if whiteI b.toNat then 1+skipL false l else 0
theorem skip_rs(q:Nat)(s:ByteArray)(x0:a_RSkip)(hx:x0.1=s)(hs:s.size≤4000):∀(m p:Nat) (c:Bool),p≤s.size→s.size-p<m→Rs (RSkip_l0 (RWhite q) m x0 (((p:Nat):Int),c)) (fun z=>Sum.elim id id z=((p+skipL c (s.data.toList.drop p):Nat):Int)):=by
 intro m
 induction m with
 |zero=>intro p c _ h;omega
 |succ m ih=>
  intro p c hp hm
  unfold RSkip_l0
  refine Rs.step3 fun Q hQ=>?_
  unfold RSkip_l0_t
  rw[hx]
  dsimp only
  by_cases hlt:p<s.size
  ·have hg:=drop_get s p hlt
   have hget:List.getD s.data.toList p (0:UInt8)=s.get! p:=by
    rw[List.getD_eq_getElem?_getD,get_list s p hlt];rfl
   refine Rs.pos (decide_eq_true (Int.ofNat_lt.2 hlt)) (Rs.pos (show(0:Int)≤((p:Nat):Int)∧((p:Nat):Int)< ((s.size:Nat):Int)by omega) ?_)
   rw[Int.toNat_natCast,hget,w_succ (by omega)]
   cases c with
   |true=>
    refine Rs.pos rfl (Rs.some (hQ _ ?_))
    have e:((((s.get! p).toNat:Nat):Int)!=10)= !(s.get! p==10):=by
     rw[Bool.eq_iff_iff]
     simp only[bne_iff_ne,ne_eq,Bool.not_eq_true',beq_eq_false_iff_ne]
     constructor
     ·intro h e;rw[e]at h;exact h rfl
     ·intro h e;exact h (UInt8.toNat_inj.1 (by show(s.get! p).toNat=10;omega))
    rw[e]
    refine(ih (p+1) _ hlt (by omega)).mono fun z hz=>?_
    rw[hz,hg]
    simp only[skipL]
    omega
   |false=>
    refine Rs.neg (by decide) ?_
    by_cases h35:s.get! p=35
    ·refine Rs.pos (by rw[h35];rfl) (Rs.some (hQ _ ?_))
     refine(ih (p+1) true hlt (by omega)).mono fun z hz=>?_
     rw[hz,hg]
     simp only[skipL,h35,if_true]
     omega
    ·refine Rs.neg (fun h=>h35 (UInt8.toNat_inj.1 (by have:=beq_iff_eq.1 h;show(s.get! p).toNat=35;omega))) ?_
     rw[RWhite_eq]
     dsimp only[Option.bind_some]
     cases hw:whiteI ((s.get! p).toNat:Int)with
     |false=>
      refine Rs.pos rfl (Rs.some ?_)
      show((p:Nat):Int)=_
      rw[hg]
      simp only[skipL,h35,if_false,hw,Bool.false_eq_true]
      rfl
     |true=>
      refine Rs.neg (by decide) (Rs.some (hQ _ ?_))
      refine(ih (p+1) false hlt (by omega)).mono fun z hz=>?_
      rw[hz,hg]
      simp only[skipL,h35,if_false,hw,if_true]
      omega
  ·refine Rs.neg (fun h=>hlt (Int.ofNat_lt.1 (of_decide_eq_true h))) (Rs.some ?_)
   have hlen:s.data.toList.length=s.size:=by simp
   have:s.data.toList.drop p=[]:=List.drop_of_length_le (by omega)
   show((p:Nat):Int)=_
   rw[this]
   cases c<;>rfl
end Go.Proofs.YtjfkkokeegpeiaaGreatDoor
/- Skip and Lex: what the reference skips, Lex passes over. -/
namespace Go.Proofs.YtjfkkokeegpeiaaGreatDoor
open Go Go.Am Go.Proofs.Lx
theorem span_zero{s:ByteArray}{g:Int→Bool}{p:Nat}(hp:p<s.size)(h:g (s.get! p).toNat=false):spanL g (s.data.toList.drop p)=0:=span_stop s g p hp h
theorem span_next{s:ByteArray}{g:Int→Bool}{p:Nat}(hp:p<s.size)(h:g (s.get! p).toNat=true):spanL g (s.data.toList.drop p)=1+spanL g (s.data.toList.drop (p+1)):=span_more s g 1 p (by omega) (fun j h1 h2=>by rw[show j=p by omega];exact h)
theorem skip_true{s:ByteArray}:∀(n p:Nat),s.size-p=n→p≤s.size→skipL true (s.data.toList.drop p)=spanL ne10 (s.data.toList.drop p)+skipL false (s.data.toList.drop (p+spanL ne10 (s.data.toList.drop p))):=by
 intro n
 induction n with
 |zero=>
  intro p h hp
  have:s.data.toList.drop p=[]:=List.drop_of_length_le (by simp;omega)
  rw[this]
  have h2:s.data.toList.drop (p+spanL ne10 [])=[]:=List.drop_of_length_le (by simp;omega)
  rw[h2];rfl
 |succ n ih=>
  intro p h hp
  have hlt:p<s.size:=by omega
  cases hb:ne10 (s.get! p).toNat
  ·rw[span_zero hlt hb,drop_get s p hlt]
   have h10:(s.get! p)=10:=by
    simp[ne10]at hb
    exact UInt8.toNat_inj.1 (by simp;omega)
   have hw:whiteI ((s.get! p).toNat:Int)=true:=by rw[h10];rfl
   simp only[Nat.add_zero,Nat.zero_add]
   rw[drop_get s p hlt]
   simp[skipL,h10,whiteI]
  ·rw[span_next hlt hb,drop_get s p hlt]
   have h10:((s.get! p)==10)=false:=by
    simp[ne10]at hb
    rw[beq_eq_false_iff_ne]
    intro h
    rw[h]at hb
    exact hb rfl
   simp only[skipL,h10,Bool.not_false]
   rw[ih (p+1) (by omega) (by omega),show p+(1+spanL ne10 (s.data.toList.drop (p+1)))=p+1+spanL ne10 (s.data.toList.drop (p+1))by omega]
   omega
theorem lex_skip{s:ByteArray}{acc:List Tkn}{r:List Tkn×Nat×Int}:∀(n p:Nat),s.size-p=n→p≤s.size→Lex s (p+skipL false (s.data.toList.drop p)) acc r→Lex s p acc r:=by
 intro n
 induction n using Nat.strongRecOn with
 |ind n ih=>
  intro p h hp hl
  by_cases hlt:p<s.size
  ·rw[drop_get s p hlt]at hl
   simp only[skipL]at hl
   by_cases h35:(s.get! p)=35
   ·rw[if_pos h35]at hl
    have hh:(s.get! p).toNat=35:=by rw[h35];rfl
    have ho:=hash_ok hlt hh
    refine .hash hlt hh (ih (s.size-(p+spanL ne10 (s.data.toList.drop p))) (by omega) _ rfl ho.2.1 ?_)
    have e1:spanL ne10 (s.data.toList.drop p)=1+spanL ne10 (s.data.toList.drop (p+1)):=span_next hlt (by rw[hh];rfl)
    have e2:=skip_true (s:=s) (s.size-(p+1)) (p+1) rfl (by omega)
    rw[e2]at hl
    rw[e1,show p+(1+spanL ne10 (s.data.toList.drop (p+1)))=p+1+spanL ne10 (s.data.toList.drop (p+1))by omega]
    rw[show p+(1+(spanL ne10 (s.data.toList.drop (p+1))+skipL false (s.data.toList.drop (p+1+spanL ne10 (s.data.toList.drop (p+1))))))=p+1+spanL ne10 (s.data.toList.drop (p+1))+skipL false (s.data.toList.drop (p+1+spanL ne10 (s.data.toList.drop (p+1))))by omega]at hl
    exact hl
   ·rw[if_neg h35]at hl
    cases hw:whiteI ((s.get! p).toNat:Int)
    ·rw[hw]at hl
     simpa using hl
    ·rw[hw,if_pos rfl]at hl
     refine .white hlt hw (ih (s.size-(p+1)) (by omega) (p+1) rfl (by omega) ?_)
     rwa [show p+1+skipL false (s.data.toList.drop (p+1))=p+(1+skipL false (s.data.toList.drop (p+1)))by omega]
  ·have:s.data.toList.drop p=[]:=List.drop_of_length_le (by simp;omega)
   rw[this]at hl
   simpa[skipL]using hl
theorem skip_stop{s:ByteArray}:∀(n p:Nat),s.size-p=n→p≤s.size→p+skipL false (s.data.toList.drop p)<s.size→
 whiteI (s.get! (p+skipL false (s.data.toList.drop p))).toNat=false∧(s.get! (p+skipL false (s.data.toList.drop p))).toNat≠35:=by
 intro n
 induction n using Nat.strongRecOn with
 |ind n ih=>
  intro p h hp hl
  by_cases hlt:p<s.size
  ·rw[drop_get s p hlt]at hl⊢
   simp only[skipL]at hl⊢
   by_cases h35:(s.get! p)=35
   ·rw[if_pos h35]at hl⊢
    have hh:(s.get! p).toNat=35:=by rw[h35];rfl
    have e2:=skip_true (s:=s) (s.size-(p+1)) (p+1) rfl (by omega)
    rw[e2]at hl⊢
    have hle:=spanL_le ne10 (s.data.toList.drop (p+1))
    simp at hle
    rw[show p+(1+(spanL ne10 (s.data.toList.drop (p+1))+skipL false (s.data.toList.drop (p+1+spanL ne10 (s.data.toList.drop (p+1))))))=p+1+spanL ne10 (s.data.toList.drop (p+1))+skipL false (s.data.toList.drop (p+1+spanL ne10 (s.data.toList.drop (p+1))))by omega]at hl⊢
    exact ih _ (by omega) _ rfl (by omega) hl
   ·rw[if_neg h35]at hl⊢
    cases hw:whiteI ((s.get! p).toNat:Int)
    ·refine⟨by simpa using hw,?_⟩
     intro hh
     apply h35
     exact UInt8.toNat_inj.1 (by simpa using hh)
    ·rw[hw,if_pos rfl]at hl
     simp only[if_true]
     rw[show p+(1+skipL false (s.data.toList.drop (p+1)))=p+1+skipL false (s.data.toList.drop (p+1))by omega]at hl⊢
     exact ih (s.size-(p+1)) (by omega) (p+1) rfl (by omega) hl
  ·omega
end Go.Proofs.YtjfkkokeegpeiaaGreatDoor
/- The reference's lexer: symbols. -/
namespace Go.Proofs.YtjfkkokeegpeiaaGreatDoor
open Go Go.Am Go.Proofs.Lx
set_option maxRecDepth 100000
theorem Rs.ite{α:Type}{c:Prop}{i:Decidable c}{a b:Option α}{P:α→Prop}(h:c→Rs a P)(g:¬c→Rs b P):Rs (@ite _ c i a b) P:=by
 by_cases hc:c
 ·rw[_root_.if_pos hc];exact h hc
 ·rw[_root_.if_neg hc];exact g hc
def rsymS(s:ByteArray)(p:Nat):ByteArray:=if symN (s.data.toList.drop p)=0 then⟨#[]⟩else s.extract p (p+symN (s.data.toList.drop p))
theorem sym2_no{s:ByteArray}{p:Nat}(hm:∀l∈sym2,s.extract p (p+2)≠⟨l.toArray⟩):¬(1< (s.data.toList.drop p).length∧(s.data.toList.drop p).take 2∈sym2):=by
 rintro⟨_,h⟩
 refine hm _ h ?_
 have:=extract_list s p (p+2)
 rw[Nat.add_sub_cancel_left]at this
 rw[←this]
theorem rsym_two{s:ByteArray}{p:Nat}(h1:p+1<s.size){l:List UInt8}(hl:l∈sym2)(e:s.extract p (p+2)=⟨l.toArray⟩):s.extract p (p+2)=rsymS s p:=by
 have:=extract_list s p (p+2)
 rw[Nat.add_sub_cancel_left,e]at this
 have hm:(s.data.toList.drop p).take 2∈sym2:=by rw[←this];exact hl
 have e:symN (s.data.toList.drop p)=2:=by
  unfold symN
  rw[if_pos ⟨by simp;omega,hm⟩]
 rw[rsymS,e];rfl
theorem sym1_at{b:UInt8}{k:Int}(h:(((b.toNat:Nat):Int)==k)=true)(hk:k∈[(123:Int),125,40,41,61,59,44,58,60,62,43,45,42,47,33,46]):sym1.contains b=true:=by
 have h:=beq_iff_eq.1 h
 have e:b=(k.toNat).toUInt8:=by
  apply UInt8.toNat_inj.1
  rw[←h]
  simp
 rw[e]
 simp only[List.mem_cons,List.not_mem_nil,or_false]at hk
 rcases hk with rfl|rfl|rfl|rfl|rfl|rfl|rfl|rfl|rfl|rfl|rfl|rfl|rfl|rfl|rfl|rfl<;>decide
theorem rsym_one{s:ByteArray}{p:Nat}(h0:p<s.size)(hno:¬(1< (s.data.toList.drop p).length∧(s.data.toList.drop p).take 2∈sym2)){k:Int}(h:((((s.get! p).toNat:Nat):Int)==k)=true)(hk:k∈[(123:Int),125,40,41,61,59,44,58,60,62,43,45,42,47,33,46]):s.extract p (p+1)=rsymS s p:=by
 have hb:=sym1_at h hk
 have e:symN (s.data.toList.drop p)=1:=by
  unfold symN
  rw[if_neg hno,drop_get s p h0]
  simp only[List.head?_cons,Option.any_some,hb,cond_true]
 rw[rsymS,e];rfl
theorem sym1_no{b:UInt8}(h:∀k∈[(123:Int),125,40,41,61,59,44,58,60,62,43,45,42,47,33,46],¬(((b.toNat:Nat):Int)==k)=true):sym1.contains b=false:=by
 rw[Bool.eq_false_iff]
 intro hc
 have hm:=List.contains_iff_mem.1 hc
 refine h b.toNat ?_ (by simp)
 simp only[sym1,List.mem_cons,List.not_mem_nil,or_false]at hm
 rcases hm with rfl|rfl|rfl|rfl|rfl|rfl|rfl|rfl|rfl|rfl|rfl|rfl|rfl|rfl|rfl|rfl<;>simp
theorem rsym_none{s:ByteArray}{p:Nat}(h0:p<s.size)(hno:¬(1< (s.data.toList.drop p).length∧(s.data.toList.drop p).take 2∈sym2))(h:∀k∈[(123:Int),125,40,41,61,59,44,58,60,62,43,45,42,47,33,46],¬((((s.get! p).toNat:Nat):Int)==k)=true):(⟨#[]⟩:ByteArray)=rsymS s p:=by
 have hb:=sym1_no h
 have e:symN (s.data.toList.drop p)=0:=by
  unfold symN
  rw[if_neg hno,drop_get s p h0]
  simp only[List.head?_cons,Option.any_some,hb,cond_false]
 rw[rsymS,e];rfl
theorem rsym_rs(q:Nat)(s:ByteArray)(p:Nat)(hs:s.size≤4000)(hp:p<s.size):Rs (RSym q (s,((p:Nat):Int))) (fun z=>z=rsymS s p):=by
 unfold RSym t_RSym
 dsimp only
 have hget:List.getD s.data.toList p (0:UInt8)=s.get! p:=by
  rw[List.getD_eq_getElem?_getD,get_list s p hp];rfl
 have e2:w (((p:Nat):Int)+2)=((p+2:Nat):Int):=by rw[w_in (by omega) (by omega)];omega
 rw[w_succ (by omega),e2]
 simp only[Int.toNat_natCast]
 rw[hget]
 have hb0:(0:Int)≤((p:Nat):Int)∧((p:Nat):Int)< ((s.size:Nat):Int):=by omega
 have hb1:(0:Int)≤((p:Nat):Int)∧((p:Nat):Int)≤((p+1:Nat):Int)∧((p+1:Nat):Int)≤((s.size:Nat):Int):=by omega
 by_cases h1:p+1<s.size
 ·have hb2:(0:Int)≤((p:Nat):Int)∧((p:Nat):Int)≤((p+2:Nat):Int)∧((p+2:Nat):Int)≤((s.size:Nat):Int):=by omega
  refine Rs.pos (decide_eq_true (Int.ofNat_lt.2 h1)) (Rs.pos hb2 ?_)
  refine Rs.ite (fun h=>Rs.pos hb2 (Rs.some (rsym_two h1 (by decide) (tl_eq.1 h)))) fun c1=>?_
  refine Rs.ite (fun h=>Rs.pos hb2 (Rs.some (rsym_two h1 (by decide) (tl_eq.1 h)))) fun c2=>?_
  refine Rs.ite (fun h=>Rs.pos hb2 (Rs.some (rsym_two h1 (by decide) (tl_eq.1 h)))) fun c3=>?_
  refine Rs.ite (fun h=>Rs.pos hb2 (Rs.some (rsym_two h1 (by decide) (tl_eq.1 h)))) fun c4=>?_
  refine Rs.ite (fun h=>Rs.pos hb2 (Rs.some (rsym_two h1 (by decide) (tl_eq.1 h)))) fun c5=>?_
  refine Rs.ite (fun h=>Rs.pos hb2 (Rs.some (rsym_two h1 (by decide) (tl_eq.1 h)))) fun c6=>?_
  have hno:=sym2_no (s:=s) (p:=p) (by
   intro l hl
   simp only[sym2,List.mem_cons,List.not_mem_nil,or_false]at hl
   rcases hl with rfl|rfl|rfl|rfl|rfl|rfl
   ·exact fun e=>c1 (tl_eq.2 e)
   ·exact fun e=>c2 (tl_eq.2 e)
   ·exact fun e=>c3 (tl_eq.2 e)
   ·exact fun e=>c4 (tl_eq.2 e)
   ·exact fun e=>c5 (tl_eq.2 e)
   ·exact fun e=>c6 (tl_eq.2 e))
  refine Rs.pos hb0 ?_
  refine Rs.ite (fun h=>Rs.pos hb1 (Rs.some (rsym_one hp hno h (by decide)))) fun k1=>?_
  refine Rs.ite (fun h=>Rs.pos hb1 (Rs.some (rsym_one hp hno h (by decide)))) fun k2=>?_
  refine Rs.ite (fun h=>Rs.pos hb1 (Rs.some (rsym_one hp hno h (by decide)))) fun k3=>?_
  refine Rs.ite (fun h=>Rs.pos hb1 (Rs.some (rsym_one hp hno h (by decide)))) fun k4=>?_
  refine Rs.ite (fun h=>Rs.pos hb1 (Rs.some (rsym_one hp hno h (by decide)))) fun k5=>?_
  refine Rs.ite (fun h=>Rs.pos hb1 (Rs.some (rsym_one hp hno h (by decide)))) fun k6=>?_
  refine Rs.ite (fun h=>Rs.pos hb1 (Rs.some (rsym_one hp hno h (by decide)))) fun k7=>?_
  refine Rs.ite (fun h=>Rs.pos hb1 (Rs.some (rsym_one hp hno h (by decide)))) fun k8=>?_
  refine Rs.ite (fun h=>Rs.pos hb1 (Rs.some (rsym_one hp hno h (by decide)))) fun k9=>?_
  refine Rs.ite (fun h=>Rs.pos hb1 (Rs.some (rsym_one hp hno h (by decide)))) fun k10=>?_
  refine Rs.ite (fun h=>Rs.pos hb1 (Rs.some (rsym_one hp hno h (by decide)))) fun k11=>?_
  refine Rs.ite (fun h=>Rs.pos hb1 (Rs.some (rsym_one hp hno h (by decide)))) fun k12=>?_
  refine Rs.ite (fun h=>Rs.pos hb1 (Rs.some (rsym_one hp hno h (by decide)))) fun k13=>?_
  refine Rs.ite (fun h=>Rs.pos hb1 (Rs.some (rsym_one hp hno h (by decide)))) fun k14=>?_
  refine Rs.ite (fun h=>Rs.pos hb1 (Rs.some (rsym_one hp hno h (by decide)))) fun k15=>?_
  refine Rs.ite (fun h=>Rs.pos hb1 (Rs.some (rsym_one hp hno h (by decide)))) fun k16=>?_
  refine Rs.some (rsym_none hp hno ?_)
  intro k hk
  simp only[List.mem_cons,List.not_mem_nil,or_false]at hk
  rcases hk with rfl|rfl|rfl|rfl|rfl|rfl|rfl|rfl|rfl|rfl|rfl|rfl|rfl|rfl|rfl|rfl<;>assumption
 ·have hno:¬(1< (s.data.toList.drop p).length∧(s.data.toList.drop p).take 2∈sym2):=fun h=>h1 (by have:=h.1;simp at this;omega)
  refine Rs.neg (fun h=>h1 (Int.ofNat_lt.1 (of_decide_eq_true h))) ?_
  refine Rs.pos hb0 ?_
  refine Rs.ite (fun h=>Rs.pos hb1 (Rs.some (rsym_one hp hno h (by decide)))) fun k1=>?_
  refine Rs.ite (fun h=>Rs.pos hb1 (Rs.some (rsym_one hp hno h (by decide)))) fun k2=>?_
  refine Rs.ite (fun h=>Rs.pos hb1 (Rs.some (rsym_one hp hno h (by decide)))) fun k3=>?_
  refine Rs.ite (fun h=>Rs.pos hb1 (Rs.some (rsym_one hp hno h (by decide)))) fun k4=>?_
  refine Rs.ite (fun h=>Rs.pos hb1 (Rs.some (rsym_one hp hno h (by decide)))) fun k5=>?_
  refine Rs.ite (fun h=>Rs.pos hb1 (Rs.some (rsym_one hp hno h (by decide)))) fun k6=>?_
  refine Rs.ite (fun h=>Rs.pos hb1 (Rs.some (rsym_one hp hno h (by decide)))) fun k7=>?_
  refine Rs.ite (fun h=>Rs.pos hb1 (Rs.some (rsym_one hp hno h (by decide)))) fun k8=>?_
  refine Rs.ite (fun h=>Rs.pos hb1 (Rs.some (rsym_one hp hno h (by decide)))) fun k9=>?_
  refine Rs.ite (fun h=>Rs.pos hb1 (Rs.some (rsym_one hp hno h (by decide)))) fun k10=>?_
  refine Rs.ite (fun h=>Rs.pos hb1 (Rs.some (rsym_one hp hno h (by decide)))) fun k11=>?_
  refine Rs.ite (fun h=>Rs.pos hb1 (Rs.some (rsym_one hp hno h (by decide)))) fun k12=>?_
  refine Rs.ite (fun h=>Rs.pos hb1 (Rs.some (rsym_one hp hno h (by decide)))) fun k13=>?_
  refine Rs.ite (fun h=>Rs.pos hb1 (Rs.some (rsym_one hp hno h (by decide)))) fun k14=>?_
  refine Rs.ite (fun h=>Rs.pos hb1 (Rs.some (rsym_one hp hno h (by decide)))) fun k15=>?_
  refine Rs.ite (fun h=>Rs.pos hb1 (Rs.some (rsym_one hp hno h (by decide)))) fun k16=>?_
  refine Rs.some (rsym_none hp hno ?_)
  intro k hk
  simp only[List.mem_cons,List.not_mem_nil,or_false]at hk
  rcases hk with rfl|rfl|rfl|rfl|rfl|rfl|rfl|rfl|rfl|rfl|rfl|rfl|rfl|rfl|rfl|rfl<;>assumption
end Go.Proofs.YtjfkkokeegpeiaaGreatDoor
/- The reference's lexer: one token. -/
namespace Go.Proofs.YtjfkkokeegpeiaaGreatDoor
open Go Go.Am Go.Proofs.Lx
set_option maxRecDepth 100000
def oneP(s:ByteArray)(p:Nat):Tkn×Int:=if(tokP s p).2=0 then({(tokP s p).1 with a:=p},0)else(noTok,(tokP s p).2)
theorem one_word{s:ByteArray}{p:Nat}(hp:p<s.size)(hl:letterI (s.get! p).toNat=true)(n:Nat)(hn:spanL wordI (s.data.toList.drop p)=n):
 oneP s p=if 12<n then(noTok,2)else(⟨1,p,s.extract p (p+n),0⟩,0):=by
 have hle:p+n≤s.size:=by have:=spanL_le wordI (s.data.toList.drop p);simp at this;omega
 have e:tokP s p=if 12<n then(noTok,2)else(⟨1,0,(s.extract p s.size).extract 0 n,0⟩,0):=by
  unfold tokP wordP
  rw[if_pos hl,ext_list s p (by omega),hn]
 rw[oneP,e,ext_ext s p n hle]
 by_cases h:12<n
 ·simp[h]
 ·simp[h]
theorem one_number{s:ByteArray}{p:Nat}(hp:p<s.size)(hl:letterI (s.get! p).toNat=false)(hd:digitI (s.get! p).toNat=true)(n:Nat)(hn:spanL digitI (s.data.toList.drop p)=n):
 oneP s p=if 1<n∧(s.get! p).toNat=48 then(noTok,11)else if valI 0 ((s.data.toList.drop p).take n)>2147483647 then(noTok,5)else(⟨2,p,s.extract p (p+n),valI 0 ((s.data.toList.drop p).take n)⟩,0):=by
 have hle:p+n≤s.size:=by have:=spanL_le digitI (s.data.toList.drop p);simp at this;omega
 have e0:=seg_ok digitI digit_lt hp hd
 rw[hn]at e0
 have ht:(s.extract p (p+n)).data.toList=(s.data.toList.drop p).take n:=by rw[extract_list,Nat.add_sub_cancel_left]
 have hz:(s.extract p (p+n)).size=n:=by simp;omega
 have hg:((s.data.toList.drop p).take n)[0]? =some (s.get! p):=by
  rw[List.getElem?_take_of_lt (by omega),List.getElem?_drop,Nat.add_zero,get_list s p hp]
 have h48:((s.data.toList.drop p).take n)[0]? =some 48↔(s.get! p).toNat=48:=by
  rw[hg,Option.some.injEq,←UInt8.toNat_inj];rfl
 have e:tokP s p=numberP (s.extract p (p+n)):=by
  unfold tokP
  rw[if_neg (by rw[hl];simp),if_pos hd,ext_list s p (by omega),hn,ext_ext s p n hle]
 rw[oneP,e]
 unfold numberP
 rw[ht,hz]
 by_cases h1:1<n∧(s.get! p).toNat=48
 ·rw[if_pos h1,if_pos (show 1<n∧_ from⟨h1.1,h48.2 h1.2⟩)];rfl
 ·rw[if_neg h1,if_neg (fun h:1<n∧_=>h1 ⟨h.1,h48.1 h.2⟩)]
  by_cases h2:valI 0 ((s.data.toList.drop p).take n)>2147483647
  ·simp[h2]
  ·simp[h2]
theorem one_symbol{s:ByteArray}{p:Nat}(hp:p<s.size)(hl:letterI (s.get! p).toNat=false)(hd:digitI (s.get! p).toNat=false):
 oneP s p=if symN (s.data.toList.drop p)=0 then(noTok,11)else(⟨3,p,rsymS s p,0⟩,0):=by
 have e:tokP s p=if symN (s.data.toList.drop p)=0 then(noTok,11)else(⟨3,0,(s.extract p s.size).extract 0 (symN (s.data.toList.drop p)),0⟩,0):=by
  unfold tokP symbolP
  rw[if_neg (by rw[hl];simp),if_neg (by rw[hd];simp),ext_list s p (by omega)]
 rw[oneP,e,rsymS]
 by_cases h:symN (s.data.toList.drop p)=0
 ·simp[h]
 ·have:=sym_ok hp h
  simp only[h,if_false,if_true]
  rw[ext_ext s p _ this.2.1]
theorem one_ok_size{s:ByteArray}{p:Nat}{x:Tkn}(hp:p<s.size)(h:oneP s p=(x,0)):x.a=p∧1≤x.t.size∧p+x.t.size≤s.size∧tokP s p=({x with a:=0},0):=by
 unfold oneP at h
 by_cases h0:(tokP s p).2=0
 ·rw[if_pos h0]at h
  simp only[Prod.mk.injEq,and_true]at h
  subst h
  have hq:tokP s p=((tokP s p).1,0):=Prod.ext rfl h0
  have:=tokP_ok hp hq
  refine⟨rfl,this.2.1,this.2.2.1,?_⟩
  rw[hq]
  simp only[Prod.mk.injEq,and_true]
  have ha:=this.1
  cases hx:(tokP s p).1
  rw[hx]at ha
  simp only at ha
  subst ha
  rfl
 ·rw[if_neg h0]at h
  simp only[Prod.mk.injEq]at h
  exact absurd h.2 h0
theorem one_l0(q:Nat)(s:ByteArray)(x0:a_ROne)(hx:x0.1=s)(hs:s.size≤4000):∀(m p:Nat),p≤s.size→s.size-p<m→Rs (ROne_l0 (RLetter q) (RDigit q) (RSym q) m x0 ((p:Nat):Int)) (fun z=>z=((p+spanL wordI (s.data.toList.drop p):Nat):Int)):=by
 intro m
 induction m with
 |zero=>intro p _ h;omega
 |succ m ih=>
  intro p hp hm
  unfold ROne_l0
  refine Rs.step3 fun Q hQ=>?_
  unfold ROne_l0_t
  rw[hx]
  dsimp only
  by_cases hlt:p<s.size
  ·have hget:List.getD s.data.toList p (0:UInt8)=s.get! p:=by
    rw[List.getD_eq_getElem?_getD,get_list s p hlt];rfl
   have hb:(0:Int)≤((p:Nat):Int)∧((p:Nat):Int)< ((s.size:Nat):Int):=by omega
   refine Rs.pos (decide_eq_true (Int.ofNat_lt.2 hlt)) (Rs.pos hb ?_)
   rw[Int.toNat_natCast,hget,w_succ (by omega),RLetter_eq,RDigit_eq]
   dsimp only[Option.bind_some]
   have go:wordI ((s.get! p).toNat:Int)=true→Q (((p+1:Nat):Int)):=fun hw=>hQ _ ((ih (p+1) hlt (by omega)).mono fun z hz=>by
    rw[hz,span_next (p:=p) hlt hw];exact congrArg (fun n:Nat=>(n:Int)) (by omega))
   cases hl:letterI ((s.get! p).toNat:Int)with
   |true=>exact Rs.pos rfl (Rs.some (go (by unfold wordI;rw[hl];rfl)))
   |false=>
    refine Rs.neg (by decide) (Rs.pos hb ?_)
    cases hd:digitI ((s.get! p).toNat:Int)with
    |true=>exact Rs.pos rfl (Rs.some (go (by unfold wordI;rw[hl,hd];rfl)))
    |false=>
     refine Rs.neg (by decide) (Rs.some ?_)
     show((p:Nat):Int)=_
     rw[span_zero (g:=wordI) hlt (by unfold wordI;rw[hl,hd];rfl)];rfl
  ·refine Rs.neg (fun h=>hlt (Int.ofNat_lt.1 (of_decide_eq_true h))) (Rs.some ?_)
   have he:p=s.size:=by omega
   show((p:Nat):Int)=_
   rw[he,span_end];rfl
theorem wrap8(x:Int)(h:0≤x)(h1:x<256):IntKind.wrap .u8 x=x:=by
 have:IntKind.wrap .u8 x=x%256:=by simp[IntKind.wrap,IntKind.bits,IntKind.signed]
 rw[this];omega
theorem valI_cons(n:Int)(b:UInt8)(l:List UInt8):valI n (b::l)=valI (10*n+((b.toNat:Int)-48)) l:=rfl
theorem one_l2(q:Nat)(s:ByteArray)(x0:a_ROne)(hx:x0.1=s)(hs:s.size≤4000):∀(m p:Nat) (V:Int),p≤s.size→s.size-p<m→0≤V→
 Rs (ROne_l2 (RLetter q) (RDigit q) (RSym q) m x0 (((p:Nat):Int),min V 2147483648)) (fun z=>z=(((p+spanL digitI (s.data.toList.drop p):Nat):Int),min (valI V ((s.data.toList.drop p).take (spanL digitI (s.data.toList.drop p)))) 2147483648)):=by
 intro m
 induction m with
 |zero=>intro p V _ h;omega
 |succ m ih=>
  intro p V hp hm hV
  unfold ROne_l2
  refine Rs.step3 fun Q hQ=>?_
  unfold ROne_l2_t
  rw[hx]
  dsimp only
  by_cases hlt:p<s.size
  ·have hget:List.getD s.data.toList p (0:UInt8)=s.get! p:=by
    rw[List.getD_eq_getElem?_getD,get_list s p hlt];rfl
   have hb:(0:Int)≤((p:Nat):Int)∧((p:Nat):Int)< ((s.size:Nat):Int):=by omega
   refine Rs.pos (decide_eq_true (Int.ofNat_lt.2 hlt)) (Rs.pos hb ?_)
   rw[Int.toNat_natCast,hget,w_succ (by omega),RDigit_eq]
   dsimp only[Option.bind_some]
   cases hd:digitI ((s.get! p).toNat:Int)with
   |true=>
    have hd':=hd
    simp[digitI]at hd'
    have e1:IntKind.wrap IntKind.u8 ((((s.get! p).toNat:Nat):Int)-48)=(((s.get! p).toNat:Nat):Int)-48:=wrap8 _ (by omega) (by omega)
    have e2:w (w (10*min V 2147483648)+w ((((s.get! p).toNat:Nat):Int)-48))=10*min V 2147483648+((((s.get! p).toNat:Nat):Int)-48):=by
     rw[w_in (n:=10*min V 2147483648) (by omega) (by omega),w_in (n:=(((s.get! p).toNat:Nat):Int)-48) (by omega) (by omega)]
     exact w_in (by omega) (by omega)
    rw[e1,e2]
    refine Rs.pos rfl (Rs.pos hb (Rs.some ?_))
    have e3:(if(2147483648:Int)<10*min V 2147483648+((((s.get! p).toNat:Nat):Int)-48)then(2147483648:Int)else 10*min V 2147483648+((((s.get! p).toNat:Nat):Int)-48))=min (10*V+((((s.get! p).toNat:Nat):Int)-48)) 2147483648:=by
     by_cases hh:(2147483648:Int)<10*min V 2147483648+((((s.get! p).toNat:Nat):Int)-48)
     ·rw[if_pos hh];omega
     ·rw[if_neg hh];omega
    rw[e3]
    refine hQ _ ((ih (p+1) _ hlt (by omega) (by omega)).mono fun z hz=>?_)
    rw[hz,span_next (p:=p) hlt hd,drop_get s p hlt,Nat.add_comm 1,List.take_succ_cons,valI_cons]
    refine Prod.ext ?_ rfl
    dsimp only
    omega
   |false=>
    refine Rs.neg (by decide) (Rs.some ?_)
    show((((p:Nat):Int),min V 2147483648):Int×Int)=_
    rw[span_zero hlt hd];rfl
  ·refine Rs.neg (fun h=>hlt (Int.ofNat_lt.1 (of_decide_eq_true h))) (Rs.some ?_)
   have he:p=s.size:=by omega
   show((((p:Nat):Int),min V 2147483648):Int×Int)=_
   rw[he,span_end];rfl
end Go.Proofs.YtjfkkokeegpeiaaGreatDoor
/- The reference's lexer: One. -/
namespace Go.Proofs.YtjfkkokeegpeiaaGreatDoor
open Go Go.Am Go.Proofs.Lx
set_option maxRecDepth 100000
theorem one_rs(q:Nat)(s:ByteArray)(p:Nat)(hs:s.size≤4000)(hp:p<s.size)(hq:4001≤q):Rs (ROne q (s,((p:Nat):Int))) (fun z=>z=tokE (oneP s p)):=by
 unfold ROne t_ROne
 have hget:List.getD s.data.toList p (0:UInt8)=s.get! p:=by
  rw[List.getD_eq_getElem?_getD,get_list s p hp];rfl
 have hb:(0:Int)≤((p:Nat):Int)∧((p:Nat):Int)< ((s.size:Nat):Int):=by omega
 dsimp only
 refine Rs.pos hb ?_
 rw[Int.toNat_natCast,hget,RLetter_eq,RDigit_eq]
 dsimp only[Option.bind_some]
 cases hl:letterI ((s.get! p).toNat:Int)with
 |true=>
  refine Rs.pos rfl ?_
  refine Rs.bind (one_l0 q s (s,((p:Nat):Int)) rfl hs q p (by omega) (by omega)) fun z hz=>?_
  subst hz
  obtain⟨n,hn⟩:∃n,spanL wordI (s.data.toList.drop p)=n:=⟨_,rfl⟩
  have hle:=spanL_le wordI (s.data.toList.drop p)
  rw[hn]at hle
  simp at hle
  rw[one_word hp hl n hn,hn]
  have e:w (((p+n:Nat):Int)-((p:Nat):Int))=((n:Nat):Int):=by rw[w_in (by omega) (by omega)];omega
  rw[e]
  by_cases h:12<n
  ·rw[if_pos h]
   exact Rs.pos (decide_eq_true (show((n:Nat):Int)>12 by omega)) (Rs.some rfl)
  ·rw[if_neg h]
   have hb2:(0:Int)≤((p:Nat):Int)∧((p:Nat):Int)≤((p+n:Nat):Int)∧((p+n:Nat):Int)≤((s.size:Nat):Int):=by omega
   refine Rs.neg (fun hh=>h (by have:=of_decide_eq_true hh;omega)) (Rs.pos hb2 (Rs.some ?_))
   rw[Int.toNat_natCast];rfl
 |false=>
  refine Rs.neg (by decide) (Rs.pos hb ?_)
  cases hd:digitI ((s.get! p).toNat:Int)with
  |true=>
   refine Rs.pos rfl ?_
   refine Rs.bind (one_l2 q s (s,((p:Nat):Int)) rfl hs q p 0 (by omega) (by omega) (by omega)) fun z hz=>?_
   subst hz
   obtain⟨n,hn⟩:∃n,spanL digitI (s.data.toList.drop p)=n:=⟨_,rfl⟩
   have hle:=spanL_le digitI (s.data.toList.drop p)
   rw[hn]at hle
   simp at hle
   rw[one_number hp hl hd n hn,hn]
   dsimp only
   have e:w (((p+n:Nat):Int)-((p:Nat):Int))=((n:Nat):Int):=by rw[w_in (by omega) (by omega)];omega
   rw[e]
   generalize valI 0 ((s.data.toList.drop p).take n)=V
   have hb2:(0:Int)≤((p:Nat):Int)∧((p:Nat):Int)≤((p+n:Nat):Int)∧((p+n:Nat):Int)≤((s.size:Nat):Int):=by omega
   have rest:∀c:Prop,[Decidable c]→¬c→Rs (if decide (min V 2147483648>(2147483647:Int))=true then some (((0:Int),(0:Int),{data:=#[]},(0:Int),(5:Int)):Int×Int×ByteArray×Int×Int)else if(0:Int)≤((p:Nat):Int)∧((p:Nat):Int)≤((p+n:Nat):Int)∧((p+n:Nat):Int)≤((s.size:Nat):Int)then some (((2:Int),((p:Nat):Int),ByteArray.extract s p (Int.toNat ((p+n:Nat):Int)),min V 2147483648,(0:Int)))else none) (fun z=>z=tokE (if c then(noTok,11)else if V>2147483647 then(noTok,5)else(⟨2,p,s.extract p (p+n),V⟩,0))):=by
    intro c _ hc
    rw[if_neg hc]
    by_cases hv:V>2147483647
    ·rw[if_pos hv]
     exact Rs.pos (decide_eq_true (show min V 2147483648>(2147483647:Int)by omega)) (Rs.some rfl)
    ·rw[if_neg hv]
     refine Rs.neg (fun hh=>hv (by have:=of_decide_eq_true hh;omega)) (Rs.pos hb2 (Rs.some ?_))
     have e3:min V 2147483648=V:=by omega
     rw[e3,Int.toNat_natCast];rfl
   by_cases h1:1<n
   ·refine Rs.pos (decide_eq_true (show((n:Nat):Int)>1 by omega)) (Rs.pos hb ?_)
    by_cases h48:(s.get! p).toNat=48
    ·refine Rs.pos (by rw[h48];rfl) (Rs.some ?_)
     rw[if_pos ⟨h1,h48⟩];rfl
    ·refine Rs.neg (fun h=>h48 (by have:=beq_iff_eq.1 h;omega)) (rest _ fun h=>h48 h.2)
   ·exact Rs.neg (fun hh=>h1 (by have:=of_decide_eq_true hh;omega)) (rest _ fun h=>h1 h.1)
  |false=>
   refine Rs.neg (by decide) ?_
   refine Rs.bind (rsym_rs q s p hs hp) fun z hz=>?_
   subst hz
   rw[one_symbol hp hl hd]
   by_cases h0:symN (s.data.toList.drop p)=0
   ·rw[if_pos h0]
    refine Rs.pos (tl_eq.2 ?_) (Rs.some rfl)
    rw[rsymS,if_pos h0]
   ·rw[if_neg h0]
    refine Rs.neg (fun hh=>?_) (Rs.some rfl)
    have:=tl_eq.1 hh
    rw[rsymS,if_neg h0]at this
    have h2:(s.extract p (p+symN (s.data.toList.drop p))).size=0:=by rw[this];rfl
    have h3:=sym_ok hp h0
    simp at h2
    omega
end Go.Proofs.YtjfkkokeegpeiaaGreatDoor
/- The program's lexer: the plain one. -/
namespace Go.Proofs.YtjfkkokeegpeiaaGreatDoor
open Go Go.Am Go.Proofs.Lx
set_option maxRecDepth 100000
abbrev TkT:Type:=(Nat→Int)×(Nat→ByteArray)×(Nat→Int)×(Nat→Int)
def RepK(l:List Tkn)(a:TkT):Prop:=∀j x,l[j]? =some x→a.1 j=x.k∧a.2.1 j=x.t∧a.2.2.1 j=x.n∧a.2.2.2 j=x.a
theorem RepK.push{l:List Tkn}{a:TkT}(h:RepK l a)(x:Tkn):RepK (l++[x]) (fun j=>if j<l.length then a.1 j else x.k,fun j=>if j<l.length then a.2.1 j else x.t,fun j=>if j<l.length then a.2.2.1 j else x.n,fun j=>if j<l.length then a.2.2.2 j else x.a):=by
 intro j y e
 by_cases hj:j<l.length
 ·rw[List.getElem?_append_left hj]at e
  simp only[hj,if_true]
  exact h j y e
 ·rw[List.getElem?_append_right (by omega)]at e
  simp only[hj,if_false]
  cases hk:j-l.length with
  |zero=>rw[hk]at e;simp only[List.getElem?_cons_zero,Option.some.injEq]at e;subst e;exact⟨rfl,rfl,rfl,rfl⟩
  |succ n=>rw[hk]at e;simp at e
theorem RepK.one(x:Tkn):RepK [x] (fun _=>x.k,fun _=>x.t,fun _=>x.n,fun _=>x.a):=by
 intro j y e
 cases j with
 |zero=>simp only[List.getElem?_cons_zero,Option.some.injEq]at e;subst e;exact⟨rfl,rfl,rfl,rfl⟩
 |succ j=>simp at e
def endT(s:ByteArray):Tkn:=⟨0,(s.size:Nat),⟨#[]⟩,0⟩
def TL(s:ByteArray):Tokens_l0_g→Prop
 | .inl z=>∃p:Nat,z.1=(p:Int)∧z.2≠0∧Lex s 0 [] ([],p,z.2)
 | .inr (.inl _)=>Lex s 0 [] ([endT s],0,0)
 | .inr (.inr z)=>∃acc:List Tkn,z.1=acc.length∧acc.length≤s.size∧RepK acc (z.2.1,z.2.2.2.1,z.2.2.2.2,z.2.2.1)∧Lex s 0 [] (acc++[endT s],0,0)
def TS(acc:List Tkn)(p d:Nat):Tokens_l0_a→Prop
 | .inl y=>acc=[]∧y=(p,((d:Nat):Int))
 | .inr y=>∃(a:TkT) (n:Nat),y=(((d:Nat):Int),a.1,a.2.1,a.2.2.1,a.2.2.2,p,n)∧n=acc.length∧RepK acc a
theorem tokP_word{s:ByteArray}{p:Nat}(h:letterI ((s.get! p).toNat:Int)=true):tokP s p=wordP (s.extract p s.size):=by unfold tokP;rw[if_pos h]
theorem tokP_num{s:ByteArray}{p:Nat}(h:¬letterI ((s.get! p).toNat:Int)=true)(h2:digitI ((s.get! p).toNat:Int)=true):tokP s p=numberP ((s.extract p s.size).extract 0 (spanL digitI (s.extract p s.size).data.toList)):=by unfold tokP;rw[if_neg h,if_pos h2]
theorem tokP_sym{s:ByteArray}{p:Nat}(h:¬letterI ((s.get! p).toNat:Int)=true)(h2:¬digitI ((s.get! p).toNat:Int)=true):tokP s p=symbolP (s.extract p s.size):=by unfold tokP;rw[if_neg h,if_neg h2]
theorem white_iff(c:Int):whiteI c=true↔c=32∨c=9∨c=10∨c=13:=by simp[whiteI]
set_option maxHeartbeats 1000000 in
theorem tok_loop(q:Nat)(s:ByteArray)(hs:s.size≤4000)(hq:4000<q):∀(m p d:Nat) (acc:List Tkn) (y:Tokens_l0_a),TS acc p d y→p≤s.size→d≤s.size→s.size-p<m→Bd s p d→acc.length≤max p d→(∀r,Lex s (max p d) acc r→Lex s 0 [] r)→
 Rs (Tokens_l0 (letter q) (digit q) (spanN q) (word q) (lnum q) (lsym q) m s y) (TL s):=by
 intro m
 induction m with
 |zero=>intro p d acc y _ _ _ h;omega
 |succ m ih=>
  intro p d acc y hy hp hd hm hbd hacc hinv
  unfold Tokens_l0
  refine Rs.step3 fun Q hQ=>?_
  have e1:Int.toNat ((p:Nat):Int)=p:=by omega
  have e2:Int.toNat ((s.size:Nat):Int)=s.size:=by omega
  have hr:(s.extract p s.size).size=s.size-p:=ext_size s p
  rcases y with y|y
  ·obtain⟨rfl,rfl⟩:=hy
   rw[Sum.elim_inl]
   unfold Tokens_l0_t0
   dsimp only
   by_cases hlt:p<s.size
   ·obtain⟨hw1,hw2,_⟩:=decode_len s p hlt
    refine Rs.pos hlt ?_
    by_cases hpd:p<d
    ·refine Rs.pos (decide_eq_true (Int.ofNat_lt.2 hpd)) (Rs.some ?_)
     obtain⟨b1,b2⟩:=hbd.step hpd hd
     refine hQ _ (ih (p+(Utf8.decode s p).2) d [] _ ⟨rfl,rfl⟩ hw2 hd (by omega) b2 (by omega) fun r h=>hinv r ?_)
     rwa [Nat.max_eq_right (by omega)]at h⊢
    ·refine Rs.neg (fun h=>hpd (Int.ofNat_lt.1 (of_decide_eq_true h))) (Rs.pos (show(0:Int)≤((p:Nat):Int)∧((p:Nat):Int)≤((s.size:Nat):Int)∧((s.size:Nat):Int)≤((s.size:Nat):Int)by omega) ?_)
     have hmax:max p d=p:=Nat.max_eq_left (by omega)
     rw[hmax]at hinv hacc
     have hi:=hinv
     have e:=get_at s p hlt
     simp only[Nat.add_zero]at e
     have hW:=decode_g s whiteI flat_white p hlt
     have hLt:=decode_g s letterI flat_letter p hlt
     have hDg:=decode_g s digitI flat_digit p hlt
     have hlo:(s.get! p).toNat<128→Utf8.decode s p=((s.get! p).toNat,1):=fun h=>by
      have:=decode_ascii s p hlt (by rw[←e];exact h)
      rw[this,←e]
     have hhi:128≤(s.get! p).toNat→128≤(Utf8.decode s p).1:=fun h=>(decode_high s p hlt (by rw[←e];exact h)).1
     have skip:whiteI (((Utf8.decode s p).1:Nat):Int)=true→Rs (Tokens_l0 (letter q) (digit q) (spanN q) (word q) (lnum q) (lsym q) m s (.inl (p+(Utf8.decode s p).2,((d:Nat):Int)))) (TL s):=by
      intro hwh
      rw[hW]at hwh
      have hb:(s.get! p).toNat<128:=by have:=(white_iff _).1 hwh;omega
      have hd1:=hlo hb
      refine ih _ d [] _ ⟨rfl,rfl⟩ hw2 hd (by omega) (Bd.refl _ _ _ (by omega)) (by omega) fun r h=>hi r (.white hlt hwh ?_)
      rw[hd1]at h
      rwa [Nat.max_eq_left (by show d≤p+1;omega)]at h
     by_cases c1:(((Utf8.decode s p).1:Nat):Int)=32
     ·exact Rs.pos (beq_iff_eq.2 c1) (Rs.some (hQ _ (skip ((white_iff _).2 (.inl c1)))))
     refine Rs.neg (fun h=>c1 (beq_iff_eq.1 h)) ?_
     by_cases c2:(((Utf8.decode s p).1:Nat):Int)=9
     ·exact Rs.pos (beq_iff_eq.2 c2) (Rs.some (hQ _ (skip ((white_iff _).2 (.inr (.inl c2))))))
     refine Rs.neg (fun h=>c2 (beq_iff_eq.1 h)) ?_
     by_cases c3:(((Utf8.decode s p).1:Nat):Int)=10
     ·exact Rs.pos (beq_iff_eq.2 c3) (Rs.some (hQ _ (skip ((white_iff _).2 (.inr (.inr (.inl c3)))))))
     refine Rs.neg (fun h=>c3 (beq_iff_eq.1 h)) ?_
     by_cases c4:(((Utf8.decode s p).1:Nat):Int)=13
     ·exact Rs.pos (beq_iff_eq.2 c4) (Rs.some (hQ _ (skip ((white_iff _).2 (.inr (.inr (.inr c4)))))))
     refine Rs.neg (fun h=>c4 (beq_iff_eq.1 h)) ?_
     have hwf:whiteI ((s.get! p).toNat:Int)=false:=by
      rw[←hW,Bool.eq_false_iff]
      intro h
      rcases(white_iff _).1 h with h|h|h|h
      ·exact c1 h
      ·exact c2 h
      ·exact c3 h
      ·exact c4 h
     rw[e1,e2]
     by_cases c5:(((Utf8.decode s p).1:Nat):Int)=35
     ·have hb:(s.get! p).toNat<128:=by
       rcases Nat.lt_or_ge (s.get! p).toNat 128 with h|h
       ·exact h
       ·have:=hhi h;omega
      have hd1:=hlo hb
      have h35:(s.get! p).toNat=35:=by have hh:=c5;rw[hd1]at hh;dsimp only at hh;omega
      obtain⟨k1,k2,k3⟩:=hash_ok hlt h35
      refine Rs.pos (beq_iff_eq.2 c5) ?_
      rw[spanN_eq q _ (by omega),ext_list s p (by omega)]
      dsimp only[Option.bind_some]
      refine Rs.some (hQ _ ?_)
      have ew:w (((p:Nat):Int)+((spanL ne10 (s.data.toList.drop p):Nat):Int))=((p+spanL ne10 (s.data.toList.drop p):Nat):Int):=by rw[w_in (by omega) (by omega)];omega
      rw[ew]
      obtain⟨b1,b2⟩:=k3.step (by omega) k2
      refine ih (p+(Utf8.decode s p).2) (p+spanL ne10 (s.data.toList.drop p)) [] _ ⟨rfl,rfl⟩ hw2 k2 (by omega) b2 (by omega) fun r h=>hi r (.hash hlt h35 ?_)
      rwa [Nat.max_eq_right b1]at h
     refine Rs.neg (fun h=>c5 (beq_iff_eq.1 h)) ?_
     have h35:(s.get! p).toNat≠35:=fun h=>c5 (by rw[hlo (by omega),h];rfl)
     rw[letter_eq]
     dsimp only[Option.bind_some]
     obtain⟨x,er,hx⟩:∃x er,tokP s p=(x,er):=⟨_,_,rfl⟩
     by_cases cl:letterI (((Utf8.decode s p).1:Nat):Int)=true
     ·refine Rs.pos cl ?_
      have hz:wordP (s.extract p s.size)=(x,er):=by
       rw[hLt]at cl
       exact(tokP_word cl).symm.trans hx
      rw[word_eq q _ (by omega),hz]
      dsimp only[Option.bind_some]
      refine Rs.ite (fun he=>?_) (fun he=>?_)
      ·refine Rs.some ?_
       have he':er≠0:=by simpa[tokE]using he
       exact⟨p,rfl,he',hi _ (.err hlt hwf h35 hx he')⟩
      ·have he':er=0:=by simpa[tokE]using he
       subst he'
       obtain⟨o1,o2,o3,o4,o5⟩:=tokP_ok hlt hx
       refine Rs.some (hQ _ ?_)
       have ew:w (((p:Nat):Int)+((x.t.size:Nat):Int))=((p+x.t.size:Nat):Int):=by rw[w_in (by omega) (by omega)];omega
       dsimp only[tokE]
       rw[ew]
       have hbs:Bd s p (p+x.t.size):=.inl o5
       obtain⟨b1,b2⟩:=hbs.step (by omega) o3
       refine ih (p+(Utf8.decode s p).2) (p+x.t.size) ([]++[{x with a:=(p:Int)}]) _ ⟨_,_,rfl,rfl,RepK.one {x with a:=(p:Int)}⟩ hw2 o3 (by omega) b2 (by simp;omega) fun r h=>hi r (.tok hlt hwf h35 hx ?_)
       rwa [Nat.max_eq_right b1]at h
     refine Rs.neg cl ?_
     rw[digit_eq]
     dsimp only[Option.bind_some]
     by_cases cd:digitI (((Utf8.decode s p).1:Nat):Int)=true
     ·refine Rs.pos cd ?_
      have hz:numberP ((s.extract p s.size).extract 0 (spanL digitI (s.extract p s.size).data.toList))=(x,er):=by
       rw[hLt]at cl
       rw[hDg]at cd
       exact(tokP_num cl cd).symm.trans hx
      refine Rs.bind (lnum_rs q _ (by omega)) fun z hzz=>?_
      rw[hz]at hzz
      subst hzz
      refine Rs.ite (fun he=>?_) (fun he=>?_)
      ·refine Rs.some ?_
       have he':er≠0:=by simpa[tokE]using he
       exact⟨p,rfl,he',hi _ (.err hlt hwf h35 hx he')⟩
      ·have he':er=0:=by simpa[tokE]using he
       subst he'
       obtain⟨o1,o2,o3,o4,o5⟩:=tokP_ok hlt hx
       refine Rs.some (hQ _ ?_)
       have ew:w (((p:Nat):Int)+((x.t.size:Nat):Int))=((p+x.t.size:Nat):Int):=by rw[w_in (by omega) (by omega)];omega
       dsimp only[tokE]
       rw[ew]
       have hbs:Bd s p (p+x.t.size):=.inl o5
       obtain⟨b1,b2⟩:=hbs.step (by omega) o3
       refine ih (p+(Utf8.decode s p).2) (p+x.t.size) ([]++[{x with a:=(p:Int)}]) _ ⟨_,_,rfl,rfl,RepK.one {x with a:=(p:Int)}⟩ hw2 o3 (by omega) b2 (by simp;omega) fun r h=>hi r (.tok hlt hwf h35 hx ?_)
       rwa [Nat.max_eq_right b1]at h
     refine Rs.neg cd ?_
     have hz:symbolP (s.extract p s.size)=(x,er):=by
      rw[hLt]at cl
      rw[hDg]at cd
      exact(tokP_sym cl cd).symm.trans hx
     refine Rs.bind (lsym_rs q _ (by omega)) fun z hzz=>?_
     rw[hz]at hzz
     subst hzz
     refine Rs.ite (fun he=>?_) (fun he=>?_)
     ·refine Rs.some ?_
      have he':er≠0:=by simpa[tokE]using he
      exact⟨p,rfl,he',hi _ (.err hlt hwf h35 hx he')⟩
     ·have he':er=0:=by simpa[tokE]using he
      subst he'
      obtain⟨o1,o2,o3,o4,o5⟩:=tokP_ok hlt hx
      refine Rs.some (hQ _ ?_)
      have ew:w (((p:Nat):Int)+((x.t.size:Nat):Int))=((p+x.t.size:Nat):Int):=by rw[w_in (by omega) (by omega)];omega
      dsimp only[tokE]
      rw[ew]
      have hbs:Bd s p (p+x.t.size):=.inl o5
      obtain⟨b1,b2⟩:=hbs.step (by omega) o3
      refine ih (p+(Utf8.decode s p).2) (p+x.t.size) ([]++[{x with a:=(p:Int)}]) _ ⟨_,_,rfl,rfl,RepK.one {x with a:=(p:Int)}⟩ hw2 o3 (by omega) b2 (by simp;omega) fun r h=>hi r (.tok hlt hwf h35 hx ?_)
      rwa [Nat.max_eq_right b1]at h
   ·refine Rs.neg hlt (Rs.some ?_)
    exact hinv _ (.fin (by omega))
  ·obtain⟨a,_,rfl,rfl,ha⟩:=hy
   rw[Sum.elim_inr]
   unfold Tokens_l0_t1
   dsimp only
   by_cases hlt:p<s.size
   ·obtain⟨hw1,hw2,_⟩:=decode_len s p hlt
    refine Rs.pos hlt ?_
    by_cases hpd:p<d
    ·refine Rs.pos (decide_eq_true (Int.ofNat_lt.2 hpd)) (Rs.some ?_)
     obtain⟨b1,b2⟩:=hbd.step hpd hd
     refine hQ _ (ih (p+(Utf8.decode s p).2) d acc _ ⟨a,_,rfl,rfl,ha⟩ hw2 hd (by omega) b2 (by omega) fun r h=>hinv r ?_)
     rwa [Nat.max_eq_right (by omega)]at h⊢
    ·refine Rs.neg (fun h=>hpd (Int.ofNat_lt.1 (of_decide_eq_true h))) (Rs.pos (show(0:Int)≤((p:Nat):Int)∧((p:Nat):Int)≤((s.size:Nat):Int)∧((s.size:Nat):Int)≤((s.size:Nat):Int)by omega) ?_)
     have hmax:max p d=p:=Nat.max_eq_left (by omega)
     rw[hmax]at hinv hacc
     have hi:=hinv
     have e:=get_at s p hlt
     simp only[Nat.add_zero]at e
     have hW:=decode_g s whiteI flat_white p hlt
     have hLt:=decode_g s letterI flat_letter p hlt
     have hDg:=decode_g s digitI flat_digit p hlt
     have hlo:(s.get! p).toNat<128→Utf8.decode s p=((s.get! p).toNat,1):=fun h=>by
      have:=decode_ascii s p hlt (by rw[←e];exact h)
      rw[this,←e]
     have hhi:128≤(s.get! p).toNat→128≤(Utf8.decode s p).1:=fun h=>(decode_high s p hlt (by rw[←e];exact h)).1
     have skip:whiteI (((Utf8.decode s p).1:Nat):Int)=true→Rs (Tokens_l0 (letter q) (digit q) (spanN q) (word q) (lnum q) (lsym q) m s (.inr (((d:Nat):Int),a.1,a.2.1,a.2.2.1,a.2.2.2,p+(Utf8.decode s p).2,acc.length))) (TL s):=by
      intro hwh
      rw[hW]at hwh
      have hb:(s.get! p).toNat<128:=by have:=(white_iff _).1 hwh;omega
      have hd1:=hlo hb
      refine ih _ d acc _ ⟨a,_,rfl,rfl,ha⟩ hw2 hd (by omega) (Bd.refl _ _ _ (by omega)) (by omega) fun r h=>hi r (.white hlt hwh ?_)
      rw[hd1]at h
      rwa [Nat.max_eq_left (by show d≤p+1;omega)]at h
     by_cases c1:(((Utf8.decode s p).1:Nat):Int)=32
     ·exact Rs.pos (beq_iff_eq.2 c1) (Rs.some (hQ _ (skip ((white_iff _).2 (.inl c1)))))
     refine Rs.neg (fun h=>c1 (beq_iff_eq.1 h)) ?_
     by_cases c2:(((Utf8.decode s p).1:Nat):Int)=9
     ·exact Rs.pos (beq_iff_eq.2 c2) (Rs.some (hQ _ (skip ((white_iff _).2 (.inr (.inl c2))))))
     refine Rs.neg (fun h=>c2 (beq_iff_eq.1 h)) ?_
     by_cases c3:(((Utf8.decode s p).1:Nat):Int)=10
     ·exact Rs.pos (beq_iff_eq.2 c3) (Rs.some (hQ _ (skip ((white_iff _).2 (.inr (.inr (.inl c3)))))))
     refine Rs.neg (fun h=>c3 (beq_iff_eq.1 h)) ?_
     by_cases c4:(((Utf8.decode s p).1:Nat):Int)=13
     ·exact Rs.pos (beq_iff_eq.2 c4) (Rs.some (hQ _ (skip ((white_iff _).2 (.inr (.inr (.inr c4)))))))
     refine Rs.neg (fun h=>c4 (beq_iff_eq.1 h)) ?_
     have hwf:whiteI ((s.get! p).toNat:Int)=false:=by
      rw[←hW,Bool.eq_false_iff]
      intro h
      rcases(white_iff _).1 h with h|h|h|h
      ·exact c1 h
      ·exact c2 h
      ·exact c3 h
      ·exact c4 h
     rw[e1,e2]
     by_cases c5:(((Utf8.decode s p).1:Nat):Int)=35
     ·have hb:(s.get! p).toNat<128:=by
       rcases Nat.lt_or_ge (s.get! p).toNat 128 with h|h
       ·exact h
       ·have:=hhi h;omega
      have hd1:=hlo hb
      have h35:(s.get! p).toNat=35:=by have hh:=c5;rw[hd1]at hh;dsimp only at hh;omega
      obtain⟨k1,k2,k3⟩:=hash_ok hlt h35
      refine Rs.pos (beq_iff_eq.2 c5) ?_
      rw[spanN_eq q _ (by omega),ext_list s p (by omega)]
      dsimp only[Option.bind_some]
      refine Rs.some (hQ _ ?_)
      have ew:w (((p:Nat):Int)+((spanL ne10 (s.data.toList.drop p):Nat):Int))=((p+spanL ne10 (s.data.toList.drop p):Nat):Int):=by rw[w_in (by omega) (by omega)];omega
      rw[ew]
      obtain⟨b1,b2⟩:=k3.step (by omega) k2
      refine ih (p+(Utf8.decode s p).2) (p+spanL ne10 (s.data.toList.drop p)) acc _ ⟨a,_,rfl,rfl,ha⟩ hw2 k2 (by omega) b2 (by omega) fun r h=>hi r (.hash hlt h35 ?_)
      rwa [Nat.max_eq_right b1]at h
     refine Rs.neg (fun h=>c5 (beq_iff_eq.1 h)) ?_
     have h35:(s.get! p).toNat≠35:=fun h=>c5 (by rw[hlo (by omega),h];rfl)
     rw[letter_eq]
     dsimp only[Option.bind_some]
     obtain⟨x,er,hx⟩:∃x er,tokP s p=(x,er):=⟨_,_,rfl⟩
     by_cases cl:letterI (((Utf8.decode s p).1:Nat):Int)=true
     ·refine Rs.pos cl ?_
      have hz:wordP (s.extract p s.size)=(x,er):=by
       rw[hLt]at cl
       exact(tokP_word cl).symm.trans hx
      rw[word_eq q _ (by omega),hz]
      dsimp only[Option.bind_some]
      refine Rs.ite (fun he=>?_) (fun he=>?_)
      ·refine Rs.some ?_
       have he':er≠0:=by simpa[tokE]using he
       exact⟨p,rfl,he',hi _ (.err hlt hwf h35 hx he')⟩
      ·have he':er=0:=by simpa[tokE]using he
       subst he'
       obtain⟨o1,o2,o3,o4,o5⟩:=tokP_ok hlt hx
       refine Rs.pos ⟨by unfold roomBound;omega,by unfold maxLen;omega,Nat.le_refl _⟩ ?_
       refine Rs.some (hQ _ ?_)
       have ew:w (((p:Nat):Int)+((x.t.size:Nat):Int))=((p+x.t.size:Nat):Int):=by rw[w_in (by omega) (by omega)];omega
       dsimp only[tokE]
       rw[ew]
       have hbs:Bd s p (p+x.t.size):=.inl o5
       obtain⟨b1,b2⟩:=hbs.step (by omega) o3
       refine ih (p+(Utf8.decode s p).2) (p+x.t.size) (acc++[{x with a:=(p:Int)}]) _ ⟨_,_,rfl,by simp,ha.push {x with a:=(p:Int)}⟩ hw2 o3 (by omega) b2 (by simp;omega) fun r h=>hi r (.tok hlt hwf h35 hx ?_)
       rwa [Nat.max_eq_right b1]at h
     refine Rs.neg cl ?_
     rw[digit_eq]
     dsimp only[Option.bind_some]
     by_cases cd:digitI (((Utf8.decode s p).1:Nat):Int)=true
     ·refine Rs.pos cd ?_
      have hz:numberP ((s.extract p s.size).extract 0 (spanL digitI (s.extract p s.size).data.toList))=(x,er):=by
       rw[hLt]at cl
       rw[hDg]at cd
       exact(tokP_num cl cd).symm.trans hx
      refine Rs.bind (lnum_rs q _ (by omega)) fun z hzz=>?_
      rw[hz]at hzz
      subst hzz
      refine Rs.ite (fun he=>?_) (fun he=>?_)
      ·refine Rs.some ?_
       have he':er≠0:=by simpa[tokE]using he
       exact⟨p,rfl,he',hi _ (.err hlt hwf h35 hx he')⟩
      ·have he':er=0:=by simpa[tokE]using he
       subst he'
       obtain⟨o1,o2,o3,o4,o5⟩:=tokP_ok hlt hx
       refine Rs.pos ⟨by unfold roomBound;omega,by unfold maxLen;omega,Nat.le_refl _⟩ ?_
       refine Rs.some (hQ _ ?_)
       have ew:w (((p:Nat):Int)+((x.t.size:Nat):Int))=((p+x.t.size:Nat):Int):=by rw[w_in (by omega) (by omega)];omega
       dsimp only[tokE]
       rw[ew]
       have hbs:Bd s p (p+x.t.size):=.inl o5
       obtain⟨b1,b2⟩:=hbs.step (by omega) o3
       refine ih (p+(Utf8.decode s p).2) (p+x.t.size) (acc++[{x with a:=(p:Int)}]) _ ⟨_,_,rfl,by simp,ha.push {x with a:=(p:Int)}⟩ hw2 o3 (by omega) b2 (by simp;omega) fun r h=>hi r (.tok hlt hwf h35 hx ?_)
       rwa [Nat.max_eq_right b1]at h
     refine Rs.neg cd ?_
     have hz:symbolP (s.extract p s.size)=(x,er):=by
      rw[hLt]at cl
      rw[hDg]at cd
      exact(tokP_sym cl cd).symm.trans hx
     refine Rs.bind (lsym_rs q _ (by omega)) fun z hzz=>?_
     rw[hz]at hzz
     subst hzz
     refine Rs.ite (fun he=>?_) (fun he=>?_)
     ·refine Rs.some ?_
      have he':er≠0:=by simpa[tokE]using he
      exact⟨p,rfl,he',hi _ (.err hlt hwf h35 hx he')⟩
     ·have he':er=0:=by simpa[tokE]using he
      subst he'
      obtain⟨o1,o2,o3,o4,o5⟩:=tokP_ok hlt hx
      refine Rs.pos ⟨by unfold roomBound;omega,by unfold maxLen;omega,Nat.le_refl _⟩ ?_
      refine Rs.some (hQ _ ?_)
      have ew:w (((p:Nat):Int)+((x.t.size:Nat):Int))=((p+x.t.size:Nat):Int):=by rw[w_in (by omega) (by omega)];omega
      dsimp only[tokE]
      rw[ew]
      have hbs:Bd s p (p+x.t.size):=.inl o5
      obtain⟨b1,b2⟩:=hbs.step (by omega) o3
      refine ih (p+(Utf8.decode s p).2) (p+x.t.size) (acc++[{x with a:=(p:Int)}]) _ ⟨_,_,rfl,by simp,ha.push {x with a:=(p:Int)}⟩ hw2 o3 (by omega) b2 (by simp;omega) fun r h=>hi r (.tok hlt hwf h35 hx ?_)
      rwa [Nat.max_eq_right b1]at h
   ·refine Rs.neg hlt (Rs.some ?_)
    exact⟨acc,rfl,by omega,ha,hinv _ (.fin (by omega))⟩
end Go.Proofs.YtjfkkokeegpeiaaGreatDoor
/- The program's tokens: what the plain lexer says; what is true of them. -/
namespace Go.Proofs.YtjfkkokeegpeiaaGreatDoor
open Go Go.Am Go.Proofs.Lx
set_option maxRecDepth 100000
def Good(x:Tkn):Prop:=(x.k≠3→levP x.t=0)∧(x.k=1→x.t.size≤12∧∀c∈x.t.data.toList,c≠32)
theorem end_good(s:ByteArray):Good (endT s):=⟨fun _=>(by decide:levP ⟨#[]⟩=0),fun h=>absurd h (show¬(0:Int)=1 by decide)⟩
theorem lev_zero{t:ByteArray}(h:∀c∈t.data.toList,wordI c.toNat=true):levP t=0:=by
 have no:∀(b:UInt8) (l:List UInt8),wordI b.toNat=false→t≠⟨(b::l).toArray⟩:=by
  intro b l hb e
  have:=h b (by rw[e];simp)
  rw[hb]at this;cases this
 unfold levP
 rw[if_neg (no 124 [124] (by decide)),if_neg (no 38 [38] (by decide)),if_neg,if_neg,if_neg]
 ·rintro(e|e)
  ·exact no 42 [] (by decide) e
  ·exact no 47 [] (by decide) e
 ·rintro(e|e)
  ·exact no 43 [] (by decide) e
  ·exact no 45 [] (by decide) e
 ·rintro(e|e|e|e|e|e)
  ·exact no 60 [] (by decide) e
  ·exact no 60 [61] (by decide) e
  ·exact no 62 [] (by decide) e
  ·exact no 62 [61] (by decide) e
  ·exact no 61 [61] (by decide) e
  ·exact no 33 [61] (by decide) e
theorem span_all_g(g:Int→Bool)(s:ByteArray):∀c∈(s.extract 0 (spanL g s.data.toList)).data.toList,g c.toNat=true:=by
 intro b hb
 rw[extract_list]at hb
 simp only[List.drop_zero,Nat.sub_zero]at hb
 obtain⟨j,hj⟩:=List.mem_iff_getElem?.1 hb
 rw[List.getElem?_take]at hj
 split at hj
 ·rename_i hlt
  obtain⟨c,h1,h2⟩:=spanL_get g s.data.toList j hlt
  rw[h1]at hj
  cases hj
  exact h2
 ·cases hj
theorem digit_word{c:Int}(h:digitI c=true):wordI c=true:=by unfold wordI;rw[h];simp
theorem word_no32{c:UInt8}(h:wordI c.toNat=true):c≠32:=by rintro rfl;revert h;decide
theorem tokP_good{s:ByteArray}{p:Nat}{x:Tkn}(h:tokP s p=(x,0)):Good x:=by
 by_cases h1:letterI ((s.get! p).toNat:Int)=true
 ·rw[tokP_word h1]at h
  unfold wordP at h
  split at h
  ·cases h
  ·rename_i h12
   cases h
   have hw:=span_all_g wordI (s.extract p s.size)
   refine⟨fun _=>lev_zero hw,fun _=>⟨?_,fun c hc=>word_no32 (hw c hc)⟩⟩
   have:=span_len wordI (s.extract p s.size)
   simp only[ByteArray.size_extract]at*
   omega
 ·by_cases h2:digitI ((s.get! p).toNat:Int)=true
  ·rw[tokP_num h1 h2]at h
   have hw:=span_all_g digitI (s.extract p s.size)
   unfold numberP at h
   split at h
   ·cases h
   ·split at h
    ·cases h
    ·cases h
     exact⟨fun _=>lev_zero fun c hc=>digit_word (hw c hc),fun h=>absurd h (show¬(2:Int)=1 by decide)⟩
  ·rw[tokP_sym h1 h2]at h
   unfold symbolP at h
   split at h
   ·cases h
   ·cases h
    exact⟨fun h=>absurd rfl h,fun h=>absurd h (show¬(3:Int)=1 by decide)⟩
theorem lex_good{s:ByteArray}{p:Nat}{acc:List Tkn}{r:List Tkn×Nat×Int}(h:Lex s p acc r):(∀x∈acc,Good x)→∀x∈r.1,Good x:=by
 induction h with
 |fin _=>
  intro ha x hx
  rcases List.mem_append.1 hx with h|h
  ·exact ha x h
  ·simp only[List.mem_singleton]at h;subst h;exact end_good s
 |white _ _ _ ih=>exact ih
 |hash _ _ _ ih=>exact ih
 |tok h1 h2 h3 h4 _ ih=>
  intro ha
  refine ih fun x hx=>?_
  rcases List.mem_append.1 hx with h|h
  ·exact ha x h
  ·simp only[List.mem_singleton]at h;subst h;exact⟨(tokP_good h4).1,(tokP_good h4).2⟩
 |err _ _ _ _ _=>intro _ x hx;cases hx
def tokAt(s:ByteArray)(l:List Tkn)(j:Nat):Tkn:=l.getD j (endT s)
theorem tokN_of{s:ByteArray}{acc:List Tkn}(hs:acc.length≤4000)(hg:∀x∈acc,Good x):TokN (acc.length+1) (tokAt s acc):=by
 have he:∀j,tokAt s acc j=endT s∨tokAt s acc j∈acc:=by
  intro j
  unfold tokAt
  rw[List.getD_eq_getElem?_getD]
  cases h:acc[j]?with
  |none=>exact .inl rfl
  |some x=>exact .inr (List.mem_of_getElem? h)
 have hgood:∀j,Good (tokAt s acc j):=fun j=>by
  rcases he j with h|h
  ·rw[h];exact end_good s
  ·exact hg _ h
 have hlast:tokAt s acc (acc.length+1-1)=endT s:=by
  unfold tokAt
  rw[List.getD_eq_getElem?_getD,List.getElem?_eq_none (by omega)]
  rfl
 exact⟨by omega,by omega,by rw[hlast];rfl,by rw[hlast];rfl,fun j=>(hgood j).1,fun j=>(hgood j).2⟩
theorem tokens_law(s:ByteArray)(q:Nat)(hq:5000<q):
 (∃z:g_TokensV,TokensV q s=some z∧z.2.1≠0∧∃p:Nat,z.1=(p:Int)∧TokensR s ([],p,z.2.1))∨
 (∃acc:List Tkn,TokensV q s=some (0,0,tokV (acc.length+1) (tokAt s acc))∧TokN (acc.length+1) (tokAt s acc)∧TokensR s (acc++[endT s],0,0)):=by
 unfold TokensV Tokens t_Tokens
 by_cases hbig:4000<s.size
 ·refine .inl ⟨(4000,2,0,fun _=>0,fun _=>0,fun _=>ByteArray.empty,fun _=>0),?_,by decide,4000,rfl,.inl ⟨hbig,rfl⟩⟩
  rw[if_pos (decide_eq_true (show((s.size:Nat):Int)>4000 by omega))]
  rfl
 ·have hs:s.size≤4000:=by omega
  rw[if_neg (fun h=>hbig (by have:=of_decide_eq_true h;omega))]
  obtain⟨z,h1,h2⟩:=tok_loop q s hs (by omega) q 0 0 [] (.inl (0,0)) ⟨rfl,rfl⟩ (Nat.zero_le _) (Nat.zero_le _) (by omega) (Bd.refl _ _ _ (Nat.le_refl _)) (Nat.zero_le _) (fun r h=>h)
  rw[h1]
  dsimp only[Option.bind_some]
  rcases z with z|z|z
  ·obtain⟨p,g1,g2,g3⟩:=h2
   exact .inl ⟨_,rfl,g2,p,g1,.inr ⟨hs,g3⟩⟩
  ·refine .inr ⟨[],?_,tokN_of (by simp) (by simp),.inr ⟨hs,h2⟩⟩
   rfl
  ·obtain⟨acc,g1,g2,g3,g4⟩:=h2
   have hgood:=lex_good g4 (by simp)
   have hN:=tokN_of (s:=s) (acc:=acc) (by omega) (fun x hx=>hgood x (List.mem_append_left _ hx))
   refine .inr ⟨acc,?_,hN,.inr ⟨hs,g4⟩⟩
   obtain⟨n,k,a,t,v⟩:=z
   dsimp only at g1 g3⊢
   subst g1
   have key:∀j,(if j<acc.length then k j else 0)=(tokAt s acc j).k∧(if j<acc.length then a j else((s.size:Nat):Int))=(tokAt s acc j).a∧(if j<acc.length then t j else⟨#[]⟩)=(tokAt s acc j).t∧(if j<acc.length then v j else 0)=(tokAt s acc j).n:=by
    intro j
    unfold tokAt
    by_cases hj:j<acc.length
    ·have e:=List.getElem?_eq_getElem hj
     obtain⟨k1,k2,k3,k4⟩:=g3 j _ e
     simp only[hj,if_true]
     rw[List.getD_eq_getElem?_getD,e]
     exact⟨k1,k4,k2,k3⟩
    ·simp only[hj,if_false]
     rw[List.getD_eq_getElem?_getD,List.getElem?_eq_none (by omega)]
     exact⟨rfl,rfl,rfl,rfl⟩
   show Option.map cv_Tokens (if _ then some (Sum.inr _)else none)=_
   rw[if_pos ⟨by unfold roomBound;omega,by unfold maxLen;omega,Nat.le_refl _⟩]
   show some _=some _
   have f1:(fun j=>if j<acc.length then k j else 0)=fun j=>(tokAt s acc j).k:=funext fun j=>(key j).1
   have f2:(fun j=>if j<acc.length then a j else((s.size:Nat):Int))=fun j=>(tokAt s acc j).a:=funext fun j=>(key j).2.1
   have f3:(fun j=>if j<acc.length then t j else(⟨#[]⟩:ByteArray))=fun j=>(tokAt s acc j).t:=funext fun j=>(key j).2.2.1
   have f4:(fun j=>if j<acc.length then v j else 0)=fun j=>(tokAt s acc j).n:=funext fun j=>(key j).2.2.2
   unfold tokV
   rw[←f1,←f2,←f3,←f4]
   rfl
end Go.Proofs.YtjfkkokeegpeiaaGreatDoor
/- The reference's lexer: the loop of Tokens. -/
namespace Go.Proofs.YtjfkkokeegpeiaaGreatDoor
open Go Go.Am Go.Proofs.Lx
set_option maxRecDepth 100000
theorem skipL_le:∀(l:List UInt8) (c:Bool),skipL c l≤l.length
 | [],c=>by cases c<;>exact Nat.le_refl _
 |b::l,true=>by have:=skipL_le l (!(b==10));simp only[skipL,List.length_cons];omega
 |b::l,false=>by
  have h1:=skipL_le l true
  have h2:=skipL_le l false
  simp only[skipL,List.length_cons]
  by_cases h:b=35
  ·rw[if_pos h];omega
  ·rw[if_neg h]
   cases whiteI b.toNat
   ·rw[if_neg (by decide)];omega
   ·rw[if_pos rfl];omega
theorem rskip_rs(q:Nat)(s:ByteArray)(p:Nat)(hs:s.size≤4000)(hp:p≤s.size)(hq:4001≤q):Rs (RSkip q (s,((p:Nat):Int))) (fun z=>z=((p+skipL false (s.data.toList.drop p):Nat):Int)):=by
 unfold RSkip t_RSkip
 refine Rs.bind (skip_rs q s (s,((p:Nat):Int)) rfl hs q p false hp (by omega)) fun z hz=>?_
 cases z with
 |inl z=>exact Rs.some hz
 |inr z=>exact Rs.some hz
theorem one_err{s:ByteArray}{p:Nat}{x:Tkn}{er:Int}(h:oneP s p=(x,er))(he:er≠0):∃y,tokP s p=(y,er):=by
 unfold oneP at h
 by_cases h0:(tokP s p).2=0
 ·rw[if_pos h0]at h
  simp only[Prod.mk.injEq]at h
  exact absurd h.2.symm he
 ·rw[if_neg h0]at h
  simp only[Prod.mk.injEq]at h
  exact⟨_,Prod.ext rfl h.2⟩
def RTS(acc:List Tkn)(p:Nat):RTokens_l0_a→Prop
 | .inl y=>acc=[]∧y=((p:Nat):Int)
 | .inr y=>∃(a:TkT) (n:Nat),y=(((p:Nat):Int),a.1,a.2.2.2,a.2.1,a.2.2.1,n)∧n=acc.length∧RepK acc a
theorem rtok_loop (q : Nat) (s : ByteArray) (hs : s.size ≤ 4000) (hq : 4001 ≤ q) : ∀ (m p : Nat) (acc : List Tkn) (y : RTokens_l0_a), RTS acc p y → p ≤ s.size → s.size - p < m → acc.length ≤ p → (∀ r, Lex s p acc r → Lex s 0 [] r) → (p < s.size → whiteI (s.get! p).toNat = false ∧ (s.get! p).toNat ≠ 35) →
 Rs (RTokens_l0 (RSkip q) (ROne q) m s y) (TL s) := by
 intro m
 induction m with
 | zero => intro p acc y _ _ h; omega
 | succ m ih =>
  intro p acc y hy hp hm hacc hinv hst
  unfold RTokens_l0
  refine Rs.step3 fun Q hQ => ?_
  -- what follows a token
  have next : ∀ x : Tkn, p < s.size → oneP s p = (x, 0) → ∃ p', p + x.t.size + skipL false (s.data.toList.drop (p + x.t.size)) = p' ∧ w (((p : Nat) : Int) + ((x.t.size : Nat) : Int)) = ((p + x.t.size : Nat) : Int) ∧ p + x.t.size ≤ s.size ∧ p < p' ∧ p' ≤ s.size ∧ (∀ r, Lex s p' (acc ++ [x]) r → Lex s 0 [] r) ∧ (p' < s.size → whiteI (s.get! p').toNat = false ∧ (s.get! p').toNat ≠ 35) := by
   intro x hlt hx
   obtain ⟨k1, k2, k3, k4⟩ := one_ok_size hlt hx
   have hle := skipL_le (s.data.toList.drop (p + x.t.size)) false
   simp at hle
   refine ⟨_, rfl, by rw [w_in (by omega) (by omega)]; omega, k3, by omega, by omega, fun r h => ?_, fun h => ?_⟩
   ·have h2 := lex_skip (s.size - (p + x.t.size)) (p + x.t.size) rfl k3 h
    obtain ⟨w1, w2⟩ := hst hlt
    refine hinv r (.tok hlt w1 w2 k4 ?_)
    have e : ({ ({ x with a := 0 } : Tkn) with a := (p : Int) } : Tkn) = x := by cases x; simp only at k1; subst k1; rfl
    rw [e]
    exact h2
   ·exact skip_stop (s.size - (p + x.t.size)) (p + x.t.size) rfl k3 h
  rcases y with y | y
  ·obtain ⟨rfl, rfl⟩ := hy
   rw [Sum.elim_inl]
   unfold RTokens_l0_t0
   by_cases hlt : p < s.size
   ·refine Rs.pos (decide_eq_true (Int.ofNat_lt.2 hlt)) ?_
    refine Rs.bind (one_rs q s p hs hlt hq) fun z hz => ?_
    obtain ⟨x, er, hx⟩ : ∃ x er, oneP s p = (x, er) := ⟨_, _, rfl⟩
    rw [hx] at hz
    subst hz
    by_cases he : er = 0
    ·subst he
     refine Rs.neg (by show ¬ ((0 : Int) != 0) = true; decide) ?_
     obtain ⟨p', e1, e2, g1, g2, g3, g4, g5⟩ := next x hlt hx
     refine Rs.bind (P := fun z => z = ((p' : Nat) : Int)) ?_ fun z hz => ?_
     ·show Rs (RSkip q (s, w (((p : Nat) : Int) + ((x.t.size : Nat) : Int)))) _
      rw [e2, ← e1]
      exact rskip_rs q s _ hs g1 hq
     ·subst hz
      refine Rs.some (hQ _ (ih p' ([] ++ [x]) _ ⟨(fun _ => x.k, fun _ => x.t, fun _ => x.n, fun _ => x.a), 1, rfl, rfl, RepK.one x⟩ g3 (by omega) (by simp; omega) g4 g5))
    ·refine Rs.pos (by show (er != 0) = true; rw [bne_iff_ne]; exact he) (Rs.some ?_)
     obtain ⟨w1, w2⟩ := hst hlt
     obtain ⟨y, hy⟩ := one_err hx he
     exact ⟨p, rfl, he, hinv _ (.err hlt w1 w2 hy he)⟩
   ·refine Rs.neg (fun h => hlt (Int.ofNat_lt.1 (of_decide_eq_true h))) (Rs.some ?_)
    exact hinv _ (.fin (by omega))
  ·obtain ⟨a, n, rfl, rfl, hr⟩ := hy
   rw [Sum.elim_inr]
   unfold RTokens_l0_t1
   dsimp only
   by_cases hlt : p < s.size
   ·refine Rs.pos (decide_eq_true (Int.ofNat_lt.2 hlt)) ?_
    refine Rs.bind (one_rs q s p hs hlt hq) fun z hz => ?_
    obtain ⟨x, er, hx⟩ : ∃ x er, oneP s p = (x, er) := ⟨_, _, rfl⟩
    rw [hx] at hz
    subst hz
    by_cases he : er = 0
    ·subst he
     refine Rs.neg (by show ¬ ((0 : Int) != 0) = true; decide) (Rs.pos ⟨by unfold roomBound; omega, by unfold maxLen; omega, Nat.le_refl _⟩ ?_)
     obtain ⟨p', e1, e2, g1, g2, g3, g4, g5⟩ := next x hlt hx
     refine Rs.bind (P := fun z => z = ((p' : Nat) : Int)) ?_ fun z hz => ?_
     ·show Rs (RSkip q (s, w (((p : Nat) : Int) + ((x.t.size : Nat) : Int)))) _
      rw [e2, ← e1]
      exact rskip_rs q s _ hs g1 hq
     ·subst hz
      refine Rs.some (hQ _ (ih p' (acc ++ [x]) _ ⟨_, acc.length + 1, rfl, by simp, hr.push x⟩ g3 (by omega) (by simp; omega) g4 g5))
    ·refine Rs.pos (by show (er != 0) = true; rw [bne_iff_ne]; exact he) (Rs.some ?_)
     obtain ⟨w1, w2⟩ := hst hlt
     obtain ⟨y, hy⟩ := one_err hx he
     exact ⟨p, rfl, he, hinv _ (.err hlt w1 w2 hy he)⟩
   ·refine Rs.neg (fun h => hlt (Int.ofNat_lt.1 (of_decide_eq_true h))) (Rs.some ?_)
    exact ⟨acc, rfl, by omega, hr, hinv _ (.fin (by omega))⟩
end Go.Proofs.YtjfkkokeegpeiaaGreatDoor
/- The reference's Parse, lifted. -/
namespace Go.Proofs.YtjfkkokeegpeiaaGreatDoor
open Go Go.Am Go.Proofs
set_option maxRecDepth 100000
abbrev a_rmustZ:Type:=ByteArray×Int×Int×Int×Int×Nat×FI×FI×FS×FI
abbrev g_rmustZ:Type:=SR
def A_rmustZ:AR a_rmustZ:=fun x=>([.ptr 0 0,st x.1],[some (.blk [.ro 4 x.2.2.2.2.2.1 (fun j=>[i64 (x.2.2.2.2.2.2.1 j),i64 (x.2.2.2.2.2.2.2.1 j),st (x.2.2.2.2.2.2.2.2.1 j),i64 (x.2.2.2.2.2.2.2.2.2 j)]),i64 x.2.1,i64 x.2.2.1,i64 x.2.2.2.1,i64 x.2.2.2.2.1,nilS])])
def d_rmustZ(t:TT):a_rmustZ:=((vS (ag t 1)),vI (cc t 0 1),vI (cc t 0 2),vI (cc t 0 3),vI (cc t 0 4),vRoN (cc t 0 0),dTI (cc t 0 0) 0,dTI (cc t 0 0) 1,dTS (cc t 0 0) 2,dTI (cc t 0 0) 3)
theorem v_rmustZ:VI A_rmustZ:=vd d_rmustZ fun _=>rfl
def R_rmustZ:g_rmustZ→CRes:=fun z=>.ret (.tup []) (hHR z)
noncomputable def rmustZ(q:Nat)(x:a_rmustZ):Option g_rmustZ:=rmust q (x.1,x.2.1,x.2.2.1,x.2.2.2.1,x.2.2.2.2.1,x.2.2.2.2.2.1,x.2.2.2.2.2.2.1,x.2.2.2.2.2.2.2.1,x.2.2.2.2.2.2.2.2.1,x.2.2.2.2.2.2.2.2.2,0,fun _=>ByteArray.empty)
theorem sc_rmustZ(q:Nat):Lw E5 25 A_rmustZ R_rmustZ (rmustZ q):=by
 intro x z h
 have this:=un7 (sc_rmust q _ z h) (by kernel_rfl)
 refine SC.virtB 0 [.ro 4 x.2.2.2.2.2.1 (fun j=>[i64 (x.2.2.2.2.2.2.1 j),i64 (x.2.2.2.2.2.2.2.1 j),st (x.2.2.2.2.2.2.2.2.1 j),i64 (x.2.2.2.2.2.2.2.2.2 j)]),i64 x.2.1,i64 x.2.2.1,i64 x.2.2.2.1,i64 x.2.2.2.2.1,.sl 1 1 0 0] 9 1 (fun j=>[st ByteArray.empty]) (by decide) this rfl (fun β S w us b hb hd=>?_) (by show 1≤1;decide) (by show 1≤1;decide)
 simp only[denL]at hd⊢
 obtain⟨u1,r1,rfl,h1,u2,r2,rfl,h2,u3,r3,rfl,h3,u4,r4,rfl,h4,u5,r5,rfl,h5,u6,r6,rfl,h6,rfl⟩:=hd
 exact⟨u1,_,rfl,h1,u2,_,rfl,h2,u3,_,rfl,h3,u4,_,rfl,h4,u5,_,rfl,h5,u6,_,rfl,nil_sl (by show 1<2;decide) hb h6,rfl⟩
abbrev a_rparamsR:Type:=SR
abbrev g_rparamsR:Type:=(SR)⊕(Nat×FS×FS×SR)
def A_rparamsR:AR a_rparamsR:=fun x=>([.ptr 0 0],(hHR x))
def R_rparamsR:g_rparamsR→CRes:=Sum.elim (fun z:SR=>.ret nilS (hHR z)) (fun z:Nat×FS×FS×SR=>.ret (.sl 2 2 0 z.1) [some (.blk [.ro 4 z.2.2.2.2.2.2.2.1 (fun j=>[i64 (z.2.2.2.2.2.2.2.2.1 j),i64 (z.2.2.2.2.2.2.2.2.2.1 j),st (z.2.2.2.2.2.2.2.2.2.2.1 j),i64 (z.2.2.2.2.2.2.2.2.2.2.2.1 j)]),i64 z.2.2.2.1,i64 z.2.2.2.2.1,i64 z.2.2.2.2.2.1,i64 z.2.2.2.2.2.2.1,.sl 1 1 0 z.2.2.2.2.2.2.2.2.2.2.2.2.1]),some (.row 9 1 z.2.2.2.2.2.2.2.2.2.2.2.2.1 (fun j=>[st (z.2.2.2.2.2.2.2.2.2.2.2.2.2 j)])),some (.row 66 2 z.1 (fun j=>[st (z.2.1 j),st (z.2.2.1 j)]))])
abbrev rparamsR_l0_a:Type:=(Bool×SB)⊕(Bool×Nat×FI×FI×FS×FI×Int×Int×Int×Int×Nat×FS×FS×FS×Nat)
abbrev rparamsR_l0_g:Type:=(SB)⊕(Nat×Nat×FI×FI×FS×FI×Int×Int×Int×Int×Nat×FS×FS×FS)
def rparamsR_l0_S0(x:a_rparamsR)(y:Bool×SB):St:={fr:=[V.ptr 0 0,V.junk,V.junk,nilS,bo y.1]++jk 71,H:=hp [some (hRB y.2),some (hRV0 y.2)],nx:=2,rt:=1,me:=27}
def rparamsR_l0_d0(s:St):Bool×SB:=((vB (s.fr.getD 4 .junk)),vRoN (cb s 0 0),dTI (cb s 0 0) 0,dTI (cb s 0 0) 1,dTS (cb s 0 0) 2,dTI (cb s 0 0) 3,vI (cb s 0 1),vI (cb s 0 2),vI (cb s 0 3),vI (cb s 0 4),vSlN (cb s 0 5),dRS (s.H 1) 0)
def rparamsR_l0_S1(x:a_rparamsR)(y:Bool×Nat×FI×FI×FS×FI×Int×Int×Int×Int×Nat×FS×FS×FS×Nat):St:={fr:=[V.ptr 0 0,V.junk,V.junk,V.sl 2 2 0 y.2.2.2.2.2.2.2.2.2.2.2.2.2.2,bo y.1]++jk 71,H:=hp [some (hRB y.2),some (hRV y.2),some (Chunk.row 66 2 y.2.2.2.2.2.2.2.2.2.2.2.2.2.2 fun j=>[st (y.2.2.2.2.2.2.2.2.2.2.2.2.1 j),st (y.2.2.2.2.2.2.2.2.2.2.2.2.2.1 j)])],nx:=3,rt:=1,me:=27}
def rparamsR_l0_d1(s:St):Bool×Nat×FI×FI×FS×FI×Int×Int×Int×Int×Nat×FS×FS×FS×Nat:=((vB (s.fr.getD 4 .junk)),vRoN (cb s 0 0),dTI (cb s 0 0) 0,dTI (cb s 0 0) 1,dTS (cb s 0 0) 2,dTI (cb s 0 0) 3,vI (cb s 0 1),vI (cb s 0 2),vI (cb s 0 3),vI (cb s 0 4),vSlN (cb s 0 5),dRS (s.H 1) 0,dRS (s.H 2) 0,dRS (s.H 2) 1,vSlN (s.fr.getD 3 .junk))
def rparamsR_l0_S(x:a_rparamsR):rparamsR_l0_a→St:=(Sum.elim (rparamsR_l0_S0 x) (rparamsR_l0_S1 x))
def rparamsR_l0_d(s:St):rparamsR_l0_a:=(match s.nx==2 with|true=>(.inl (rparamsR_l0_d0 s)) |false=>(.inr (rparamsR_l0_d1 s)))
theorem rparamsR_l0_u(x:a_rparamsR):VL (rparamsR_l0_S x):=vl rparamsR_l0_d (fun y=>by rcases y with y|y<;>rfl)
def rparamsR_l0_T(x:a_rparamsR):rparamsR_l0_g→Ex×St:=(Sum.elim (fun z=>(Ex.exit 0,{fr:=[V.ptr 0 0,V.junk,V.junk,nilS]++jk 72,H:=hp [some (hRB z),some (hRV0 z)],nx:=2,rt:=1,me:=27})) (fun z=>(Ex.exit 0,{fr:=[V.ptr 0 0,V.junk,V.junk,V.sl 2 2 0 z.1]++jk 72,H:=hp [some (hRB z.2),some (hRV z.2),some (Chunk.row 66 2 z.1 fun j=>[st (z.2.2.2.2.2.2.2.2.2.2.2.2.1 j),st (z.2.2.2.2.2.2.2.2.2.2.2.2.2 j)])],nx:=3,rt:=1,me:=27})))
def rparamsR_l0_t0{β:Type}(c_rmust:a_rmust→Option g_rmust)(c_ris:a_ris→Option g_ris)(c_rnameV:a_rnameV→Option g_rnameV)(c_rtake:a_rtake→Option g_rtake)(c_rfail:a_rfail→Option g_rfail)(c_known:a_known→Option g_known)(x:a_rparamsR)(y:Bool×SB)(nx:rparamsR_l0_a→Option β)(dn:rparamsR_l0_g→Option β):Option β:=
 if y.1=true then(c_rnameV (12,y.2.2.2.2.2.2.1,y.2.2.2.2.2.2.2.1,y.2.2.2.2.2.2.2.2.1,y.2.2.2.2.2.2.2.2.2.1,y.2.1,y.2.2.1,y.2.2.2.1,y.2.2.2.2.1,y.2.2.2.2.2.1,y.2.2.2.2.2.2.2.2.2.2)).bind fun z1869=>if(z1869.2.2.2.2.2.2.2.2.2.2.1+1)*16≤roomBound∧z1869.2.2.2.2.2.2.2.2.2.2.1+1≤maxLen∧z1869.2.2.2.2.2.2.2.2.2.2.1≤z1869.2.2.2.2.2.2.2.2.2.2.1 then(c_rtake (⟨#[58]⟩,z1869.2.1,z1869.2.2.1,z1869.2.2.2.1,z1869.2.2.2.2.1,z1869.2.2.2.2.2.1,z1869.2.2.2.2.2.2.1,z1869.2.2.2.2.2.2.2.1,z1869.2.2.2.2.2.2.2.2.1,z1869.2.2.2.2.2.2.2.2.2.1,z1869.2.2.2.2.2.2.2.2.2.2.1+1,fun j=>if j<z1869.2.2.2.2.2.2.2.2.2.2.1 then z1869.2.2.2.2.2.2.2.2.2.2.2 j else z1869.1)).bind fun z1882=>if z1882.1=true then if 0≤z1882.2.1∧z1882.2.1< ((z1882.2.2.2.2.2.1:Nat):Int)then if(z1882.2.2.2.2.2.2.1 (Int.toNat z1882.2.1)!=1)=true then(c_rfail (11,z1882.2)).bind fun z1895=>(c_known (z1882.2.2.2.2.2.2.1 (Int.toNat z1882.2.1),z1882.2.2.2.2.2.2.2.1 (Int.toNat z1882.2.1),z1882.2.2.2.2.2.2.2.2.1 (Int.toNat z1882.2.1),z1882.2.2.2.2.2.2.2.2.2.1 (Int.toNat z1882.2.1))).bind fun z1900=>if(!z1900)=true then(c_rfail (10,z1895)).bind fun z1913=>(c_rtake (z1882.2.2.2.2.2.2.2.2.1 (Int.toNat z1882.2.1),z1913)).bind fun z1926=>(c_rtake (⟨#[44]⟩,z1926.2)).bind fun z1939=>nx (.inr (z1939.1,z1939.2.2.2.2.2.1,z1939.2.2.2.2.2.2.1,z1939.2.2.2.2.2.2.2.1,z1939.2.2.2.2.2.2.2.2.1,z1939.2.2.2.2.2.2.2.2.2.1,z1939.2.1,z1939.2.2.1,z1939.2.2.2.1,z1939.2.2.2.2.1,z1939.2.2.2.2.2.2.2.2.2.2.1,z1939.2.2.2.2.2.2.2.2.2.2.2,fun j=>z1869.1,fun j=>z1882.2.2.2.2.2.2.2.2.1 (Int.toNat z1882.2.1),1))else(c_rtake (z1882.2.2.2.2.2.2.2.2.1 (Int.toNat z1882.2.1),z1895)).bind fun z1952=>(c_rtake (⟨#[44]⟩,z1952.2)).bind fun z1965=>nx (.inr (z1965.1,z1965.2.2.2.2.2.1,z1965.2.2.2.2.2.2.1,z1965.2.2.2.2.2.2.2.1,z1965.2.2.2.2.2.2.2.2.1,z1965.2.2.2.2.2.2.2.2.2.1,z1965.2.1,z1965.2.2.1,z1965.2.2.2.1,z1965.2.2.2.2.1,z1965.2.2.2.2.2.2.2.2.2.2.1,z1965.2.2.2.2.2.2.2.2.2.2.2,fun j=>z1869.1,fun j=>z1882.2.2.2.2.2.2.2.2.1 (Int.toNat z1882.2.1),1))else(c_known (z1882.2.2.2.2.2.2.1 (Int.toNat z1882.2.1),z1882.2.2.2.2.2.2.2.1 (Int.toNat z1882.2.1),z1882.2.2.2.2.2.2.2.2.1 (Int.toNat z1882.2.1),z1882.2.2.2.2.2.2.2.2.2.1 (Int.toNat z1882.2.1))).bind fun z1970=>if(!z1970)=true then(c_rfail (10,z1882.2)).bind fun z1983=>(c_rtake (z1882.2.2.2.2.2.2.2.2.1 (Int.toNat z1882.2.1),z1983)).bind fun z1996=>(c_rtake (⟨#[44]⟩,z1996.2)).bind fun z2009=>nx (.inr (z2009.1,z2009.2.2.2.2.2.1,z2009.2.2.2.2.2.2.1,z2009.2.2.2.2.2.2.2.1,z2009.2.2.2.2.2.2.2.2.1,z2009.2.2.2.2.2.2.2.2.2.1,z2009.2.1,z2009.2.2.1,z2009.2.2.2.1,z2009.2.2.2.2.1,z2009.2.2.2.2.2.2.2.2.2.2.1,z2009.2.2.2.2.2.2.2.2.2.2.2,fun j=>z1869.1,fun j=>z1882.2.2.2.2.2.2.2.2.1 (Int.toNat z1882.2.1),1))else(c_rtake (z1882.2.2.2.2.2.2.2.2.1 (Int.toNat z1882.2.1),z1882.2)).bind fun z2022=>(c_rtake (⟨#[44]⟩,z2022.2)).bind fun z2035=>nx (.inr (z2035.1,z2035.2.2.2.2.2.1,z2035.2.2.2.2.2.2.1,z2035.2.2.2.2.2.2.2.1,z2035.2.2.2.2.2.2.2.2.1,z2035.2.2.2.2.2.2.2.2.2.1,z2035.2.1,z2035.2.2.1,z2035.2.2.2.1,z2035.2.2.2.2.1,z2035.2.2.2.2.2.2.2.2.2.2.1,z2035.2.2.2.2.2.2.2.2.2.2.2,fun j=>z1869.1,fun j=>z1882.2.2.2.2.2.2.2.2.1 (Int.toNat z1882.2.1),1))else none else(c_rtake (⟨#[44]⟩,z1882.2)).bind fun z2048=>nx (.inr (z2048.1,z2048.2.2.2.2.2.1,z2048.2.2.2.2.2.2.1,z2048.2.2.2.2.2.2.2.1,z2048.2.2.2.2.2.2.2.2.1,z2048.2.2.2.2.2.2.2.2.2.1,z2048.2.1,z2048.2.2.1,z2048.2.2.2.1,z2048.2.2.2.2.1,z2048.2.2.2.2.2.2.2.2.2.2.1,z2048.2.2.2.2.2.2.2.2.2.2.2,fun j=>z1869.1,fun j=>⟨#[]⟩,1))else none else dn (.inl y.2)
theorem rparamsR_l0_n0{β:Type}(c_rmust c_ris)(c_rnameV c_rtake)(c_rfail c_known)(x)(y)(nx:rparamsR_l0_a→Option β)(dn):rparamsR_l0_t0 c_rmust c_ris c_rnameV c_rtake c_rfail c_known x y nx dn=(rparamsR_l0_t0 c_rmust c_ris c_rnameV c_rtake c_rfail c_known x y (fun y=>some (.inl y)) (fun z=>some (.inr z))).bind fun r=>Sum.elim nx dn r:=by
 unfold rparamsR_l0_t0
 repeat' first|exact n0|refine n1 fun _=>?_|refine n2 ?_ ?_|refine n3 (fun _=>?_) fun _=>?_|rfl
theorem rparamsR_l0_r0(c_rmust c_ris)(c_rnameV c_rtake)(c_rfail c_known)(x)(y)(lo:LoopT):loopK E5 (ftb 25 A_rmust R_rmust c_rmust (ftb 64 A_ris R_ris c_ris (ftg 26 (fun a L=> !isNilV (a.getD 1 .junk)&&L.length==2) A_rnameV R_rnameV c_rnameV (ftb 60 A_rtake R_rtake c_rtake (ftb 61 A_rfail R_rfail c_rfail (ftb 65 A_known R_known c_known ca0)))))) lo 0 25 (bodyOf E5 27 0) (rparamsR_l0_S x (.inl y)) (KCM [(0,9)] 4)=rparamsR_l0_t0 (vf A_rmust c_rmust) (vf A_ris c_ris) (vf A_rnameV c_rnameV) (vf A_rtake c_rtake) (vf A_rfail c_rfail) (vf A_known c_known) x y (fun y=>lo 0 25 (bodyOf E5 27 0) (rparamsR_l0_S x y) (KCM [(0,9)] 4)) (fun z=>some (.l (rparamsR_l0_T x z).1 (rparamsR_l0_T x z).2)):=by kernel_rfl
def rparamsR_l0_t1{β:Type}(c_rmust:a_rmust→Option g_rmust)(c_ris:a_ris→Option g_ris)(c_rnameV:a_rnameV→Option g_rnameV)(c_rtake:a_rtake→Option g_rtake)(c_rfail:a_rfail→Option g_rfail)(c_known:a_known→Option g_known)(x:a_rparamsR)(y:Bool×Nat×FI×FI×FS×FI×Int×Int×Int×Int×Nat×FS×FS×FS×Nat)(nx:rparamsR_l0_a→Option β)(dn:rparamsR_l0_g→Option β):Option β:=
 if y.1=true then(c_rnameV (12,y.2.2.2.2.2.2.1,y.2.2.2.2.2.2.2.1,y.2.2.2.2.2.2.2.2.1,y.2.2.2.2.2.2.2.2.2.1,y.2.1,y.2.2.1,y.2.2.2.1,y.2.2.2.2.1,y.2.2.2.2.2.1,y.2.2.2.2.2.2.2.2.2.2.1,y.2.2.2.2.2.2.2.2.2.2.2.1)).bind fun z2062=>if(z2062.2.2.2.2.2.2.2.2.2.2.1+1)*16≤roomBound∧z2062.2.2.2.2.2.2.2.2.2.2.1+1≤maxLen∧z2062.2.2.2.2.2.2.2.2.2.2.1≤z2062.2.2.2.2.2.2.2.2.2.2.1 then(c_rtake (⟨#[58]⟩,z2062.2.1,z2062.2.2.1,z2062.2.2.2.1,z2062.2.2.2.2.1,z2062.2.2.2.2.2.1,z2062.2.2.2.2.2.2.1,z2062.2.2.2.2.2.2.2.1,z2062.2.2.2.2.2.2.2.2.1,z2062.2.2.2.2.2.2.2.2.2.1,z2062.2.2.2.2.2.2.2.2.2.2.1+1,fun j=>if j<z2062.2.2.2.2.2.2.2.2.2.2.1 then z2062.2.2.2.2.2.2.2.2.2.2.2 j else z2062.1)).bind fun z2075=>if z2075.1=true then if 0≤z2075.2.1∧z2075.2.1< ((z2075.2.2.2.2.2.1:Nat):Int)then if(z2075.2.2.2.2.2.2.1 (Int.toNat z2075.2.1)!=1)=true then(c_rfail (11,z2075.2)).bind fun z2088=>(c_known (z2075.2.2.2.2.2.2.1 (Int.toNat z2075.2.1),z2075.2.2.2.2.2.2.2.1 (Int.toNat z2075.2.1),z2075.2.2.2.2.2.2.2.2.1 (Int.toNat z2075.2.1),z2075.2.2.2.2.2.2.2.2.2.1 (Int.toNat z2075.2.1))).bind fun z2093=>if(!z2093)=true then(c_rfail (10,z2088)).bind fun z2106=>(c_rtake (z2075.2.2.2.2.2.2.2.2.1 (Int.toNat z2075.2.1),z2106)).bind fun z2119=>if(y.2.2.2.2.2.2.2.2.2.2.2.2.2.2+1)*32≤roomBound∧y.2.2.2.2.2.2.2.2.2.2.2.2.2.2+1≤maxLen∧y.2.2.2.2.2.2.2.2.2.2.2.2.2.2≤y.2.2.2.2.2.2.2.2.2.2.2.2.2.2 then(c_rtake (⟨#[44]⟩,z2119.2)).bind fun z2132=>nx (.inr (z2132.1,z2132.2.2.2.2.2.1,z2132.2.2.2.2.2.2.1,z2132.2.2.2.2.2.2.2.1,z2132.2.2.2.2.2.2.2.2.1,z2132.2.2.2.2.2.2.2.2.2.1,z2132.2.1,z2132.2.2.1,z2132.2.2.2.1,z2132.2.2.2.2.1,z2132.2.2.2.2.2.2.2.2.2.2.1,z2132.2.2.2.2.2.2.2.2.2.2.2,fun j=>if j<y.2.2.2.2.2.2.2.2.2.2.2.2.2.2 then y.2.2.2.2.2.2.2.2.2.2.2.2.1 j else z2062.1,fun j=>if j<y.2.2.2.2.2.2.2.2.2.2.2.2.2.2 then y.2.2.2.2.2.2.2.2.2.2.2.2.2.1 j else z2075.2.2.2.2.2.2.2.2.1 (Int.toNat z2075.2.1),y.2.2.2.2.2.2.2.2.2.2.2.2.2.2+1))else none else(c_rtake (z2075.2.2.2.2.2.2.2.2.1 (Int.toNat z2075.2.1),z2088)).bind fun z2145=>if(y.2.2.2.2.2.2.2.2.2.2.2.2.2.2+1)*32≤roomBound∧y.2.2.2.2.2.2.2.2.2.2.2.2.2.2+1≤maxLen∧y.2.2.2.2.2.2.2.2.2.2.2.2.2.2≤y.2.2.2.2.2.2.2.2.2.2.2.2.2.2 then(c_rtake (⟨#[44]⟩,z2145.2)).bind fun z2158=>nx (.inr (z2158.1,z2158.2.2.2.2.2.1,z2158.2.2.2.2.2.2.1,z2158.2.2.2.2.2.2.2.1,z2158.2.2.2.2.2.2.2.2.1,z2158.2.2.2.2.2.2.2.2.2.1,z2158.2.1,z2158.2.2.1,z2158.2.2.2.1,z2158.2.2.2.2.1,z2158.2.2.2.2.2.2.2.2.2.2.1,z2158.2.2.2.2.2.2.2.2.2.2.2,fun j=>if j<y.2.2.2.2.2.2.2.2.2.2.2.2.2.2 then y.2.2.2.2.2.2.2.2.2.2.2.2.1 j else z2062.1,fun j=>if j<y.2.2.2.2.2.2.2.2.2.2.2.2.2.2 then y.2.2.2.2.2.2.2.2.2.2.2.2.2.1 j else z2075.2.2.2.2.2.2.2.2.1 (Int.toNat z2075.2.1),y.2.2.2.2.2.2.2.2.2.2.2.2.2.2+1))else none else(c_known (z2075.2.2.2.2.2.2.1 (Int.toNat z2075.2.1),z2075.2.2.2.2.2.2.2.1 (Int.toNat z2075.2.1),z2075.2.2.2.2.2.2.2.2.1 (Int.toNat z2075.2.1),z2075.2.2.2.2.2.2.2.2.2.1 (Int.toNat z2075.2.1))).bind fun z2163=>if(!z2163)=true then(c_rfail (10,z2075.2)).bind fun z2176=>(c_rtake (z2075.2.2.2.2.2.2.2.2.1 (Int.toNat z2075.2.1),z2176)).bind fun z2189=>if(y.2.2.2.2.2.2.2.2.2.2.2.2.2.2+1)*32≤roomBound∧y.2.2.2.2.2.2.2.2.2.2.2.2.2.2+1≤maxLen∧y.2.2.2.2.2.2.2.2.2.2.2.2.2.2≤y.2.2.2.2.2.2.2.2.2.2.2.2.2.2 then(c_rtake (⟨#[44]⟩,z2189.2)).bind fun z2202=>nx (.inr (z2202.1,z2202.2.2.2.2.2.1,z2202.2.2.2.2.2.2.1,z2202.2.2.2.2.2.2.2.1,z2202.2.2.2.2.2.2.2.2.1,z2202.2.2.2.2.2.2.2.2.2.1,z2202.2.1,z2202.2.2.1,z2202.2.2.2.1,z2202.2.2.2.2.1,z2202.2.2.2.2.2.2.2.2.2.2.1,z2202.2.2.2.2.2.2.2.2.2.2.2,fun j=>if j<y.2.2.2.2.2.2.2.2.2.2.2.2.2.2 then y.2.2.2.2.2.2.2.2.2.2.2.2.1 j else z2062.1,fun j=>if j<y.2.2.2.2.2.2.2.2.2.2.2.2.2.2 then y.2.2.2.2.2.2.2.2.2.2.2.2.2.1 j else z2075.2.2.2.2.2.2.2.2.1 (Int.toNat z2075.2.1),y.2.2.2.2.2.2.2.2.2.2.2.2.2.2+1))else none else(c_rtake (z2075.2.2.2.2.2.2.2.2.1 (Int.toNat z2075.2.1),z2075.2)).bind fun z2215=>if(y.2.2.2.2.2.2.2.2.2.2.2.2.2.2+1)*32≤roomBound∧y.2.2.2.2.2.2.2.2.2.2.2.2.2.2+1≤maxLen∧y.2.2.2.2.2.2.2.2.2.2.2.2.2.2≤y.2.2.2.2.2.2.2.2.2.2.2.2.2.2 then(c_rtake (⟨#[44]⟩,z2215.2)).bind fun z2228=>nx (.inr (z2228.1,z2228.2.2.2.2.2.1,z2228.2.2.2.2.2.2.1,z2228.2.2.2.2.2.2.2.1,z2228.2.2.2.2.2.2.2.2.1,z2228.2.2.2.2.2.2.2.2.2.1,z2228.2.1,z2228.2.2.1,z2228.2.2.2.1,z2228.2.2.2.2.1,z2228.2.2.2.2.2.2.2.2.2.2.1,z2228.2.2.2.2.2.2.2.2.2.2.2,fun j=>if j<y.2.2.2.2.2.2.2.2.2.2.2.2.2.2 then y.2.2.2.2.2.2.2.2.2.2.2.2.1 j else z2062.1,fun j=>if j<y.2.2.2.2.2.2.2.2.2.2.2.2.2.2 then y.2.2.2.2.2.2.2.2.2.2.2.2.2.1 j else z2075.2.2.2.2.2.2.2.2.1 (Int.toNat z2075.2.1),y.2.2.2.2.2.2.2.2.2.2.2.2.2.2+1))else none else none else if(y.2.2.2.2.2.2.2.2.2.2.2.2.2.2+1)*32≤roomBound∧y.2.2.2.2.2.2.2.2.2.2.2.2.2.2+1≤maxLen∧y.2.2.2.2.2.2.2.2.2.2.2.2.2.2≤y.2.2.2.2.2.2.2.2.2.2.2.2.2.2 then(c_rtake (⟨#[44]⟩,z2075.2)).bind fun z2241=>nx (.inr (z2241.1,z2241.2.2.2.2.2.1,z2241.2.2.2.2.2.2.1,z2241.2.2.2.2.2.2.2.1,z2241.2.2.2.2.2.2.2.2.1,z2241.2.2.2.2.2.2.2.2.2.1,z2241.2.1,z2241.2.2.1,z2241.2.2.2.1,z2241.2.2.2.2.1,z2241.2.2.2.2.2.2.2.2.2.2.1,z2241.2.2.2.2.2.2.2.2.2.2.2,fun j=>if j<y.2.2.2.2.2.2.2.2.2.2.2.2.2.2 then y.2.2.2.2.2.2.2.2.2.2.2.2.1 j else z2062.1,fun j=>if j<y.2.2.2.2.2.2.2.2.2.2.2.2.2.2 then y.2.2.2.2.2.2.2.2.2.2.2.2.2.1 j else⟨#[]⟩,y.2.2.2.2.2.2.2.2.2.2.2.2.2.2+1))else none else none else dn (.inr (y.2.2.2.2.2.2.2.2.2.2.2.2.2.2,y.2.1,y.2.2.1,y.2.2.2.1,y.2.2.2.2.1,y.2.2.2.2.2.1,y.2.2.2.2.2.2.1,y.2.2.2.2.2.2.2.1,y.2.2.2.2.2.2.2.2.1,y.2.2.2.2.2.2.2.2.2.1,y.2.2.2.2.2.2.2.2.2.2.1,y.2.2.2.2.2.2.2.2.2.2.2.1,y.2.2.2.2.2.2.2.2.2.2.2.2.1,y.2.2.2.2.2.2.2.2.2.2.2.2.2.1))
theorem rparamsR_l0_n1{β:Type}(c_rmust c_ris)(c_rnameV c_rtake)(c_rfail c_known)(x)(y)(nx:rparamsR_l0_a→Option β)(dn):rparamsR_l0_t1 c_rmust c_ris c_rnameV c_rtake c_rfail c_known x y nx dn=(rparamsR_l0_t1 c_rmust c_ris c_rnameV c_rtake c_rfail c_known x y (fun y=>some (.inl y)) (fun z=>some (.inr z))).bind fun r=>Sum.elim nx dn r:=by
 unfold rparamsR_l0_t1
 repeat' first|exact n0|refine n1 fun _=>?_|refine n2 ?_ ?_|refine n3 (fun _=>?_) fun _=>?_|rfl
theorem rparamsR_l0_r1(c_rmust c_ris)(c_rnameV c_rtake)(c_rfail c_known)(x)(y)(lo:LoopT):loopK E5 (ftb 25 A_rmust R_rmust c_rmust (ftb 64 A_ris R_ris c_ris (ftg 26 (fun a L=> !isNilV (a.getD 1 .junk)&&L.length==2) A_rnameV R_rnameV c_rnameV (ftb 60 A_rtake R_rtake c_rtake (ftb 61 A_rfail R_rfail c_rfail (ftb 65 A_known R_known c_known ca0)))))) lo 0 25 (bodyOf E5 27 0) (rparamsR_l0_S x (.inr y)) (KCM [(0,9)] 4)=rparamsR_l0_t1 (vf A_rmust c_rmust) (vf A_ris c_ris) (vf A_rnameV c_rnameV) (vf A_rtake c_rtake) (vf A_rfail c_rfail) (vf A_known c_known) x y (fun y=>lo 0 25 (bodyOf E5 27 0) (rparamsR_l0_S x y) (KCM [(0,9)] 4)) (fun z=>some (.l (rparamsR_l0_T x z).1 (rparamsR_l0_T x z).2)):=by kernel_rfl
noncomputable def rparamsR_l0(c_rmust:a_rmust→Option g_rmust)(c_ris:a_ris→Option g_ris)(c_rnameV:a_rnameV→Option g_rnameV)(c_rtake:a_rtake→Option g_rtake)(c_rfail:a_rfail→Option g_rfail)(c_known:a_known→Option g_known)(q:Nat)(x:a_rparamsR):rparamsR_l0_a→Option rparamsR_l0_g:=lpG (Sum.elim (fun y=>rparamsR_l0_t0 c_rmust c_ris c_rnameV c_rtake c_rfail c_known x y (fun y=>some (.inl y)) (fun z=>some (.inr z))) (fun y=>rparamsR_l0_t1 c_rmust c_ris c_rnameV c_rtake c_rfail c_known x y (fun y=>some (.inl y)) (fun z=>some (.inr z)))) q
theorem rparamsR_l0_s(c_rmust)(h_rmust:Lw E5 25 A_rmust R_rmust c_rmust)(c_ris)(h_ris:Lw E5 64 A_ris R_ris c_ris)(c_rnameV)(h_rnameV:Lw E5 26 A_rnameV R_rnameV c_rnameV)(c_rtake)(h_rtake:Lw E5 60 A_rtake R_rtake c_rtake)(c_rfail)(h_rfail:Lw E5 61 A_rfail R_rfail c_rfail)(c_known)(h_known:Lw E5 65 A_known R_known c_known)(q:Nat)(x:a_rparamsR):Ll E5 (bodyOf E5 27 0) (rparamsR_l0_S x) (rparamsR_l0_T x) (rparamsR_l0 c_rmust c_ris c_rnameV c_rtake c_rfail c_known q x):=
 slp (fk h_rmust (fk h_ris (fk h_rnameV (fk h_rtake (fk h_rfail (fk h_known ca0_sound)))))) hX5 (fun lo y=>by
  rcases y with y|y
  ·exact(rparamsR_l0_r0 c_rmust c_ris c_rnameV c_rtake c_rfail c_known x y lo).trans (by rw[v_rmust,v_ris,v_rnameV,v_rtake,v_rfail,v_known];exact rparamsR_l0_n0 _ _ _ _ _ _ _ _ _ _)
  ·exact(rparamsR_l0_r1 c_rmust c_ris c_rnameV c_rtake c_rfail c_known x y lo).trans (by rw[v_rmust,v_ris,v_rnameV,v_rtake,v_rfail,v_known];exact rparamsR_l0_n1 _ _ _ _ _ _ _ _ _ _)) (fun z=>by rcases z with z|z<;>kernel_rfl) q
def t_rparamsR{β:Type}(c_rmust:a_rmust→Option g_rmust)(c_ris:a_ris→Option g_ris)(c_rnameV:a_rnameV→Option g_rnameV)(c_rtake:a_rtake→Option g_rtake)(c_rfail:a_rfail→Option g_rfail)(c_known:a_known→Option g_known)(l_rparamsR_l0:rparamsR_l0_a→Option rparamsR_l0_g)(x:a_rparamsR)(dn:g_rparamsR→Option β):Option β:=
 (c_rmust (⟨#[40]⟩,x)).bind fun z12=>if(z12.2.2.1==0)=true then(c_ris (⟨#[41]⟩,z12)).bind fun z25=>(l_rparamsR_l0 (.inl (!z25.1,z25.2.2.2.2.2.1,z25.2.2.2.2.2.2.1,z25.2.2.2.2.2.2.2.1,z25.2.2.2.2.2.2.2.2.1,z25.2.2.2.2.2.2.2.2.2.1,z25.2.1,z25.2.2.1,z25.2.2.2.1,z25.2.2.2.2.1,z25.2.2.2.2.2.2.2.2.2.2))).bind fun z1764=>Sum.elim (fun z1764a=>(c_rmust (⟨#[41]⟩,z1764a.2.2.2.2.2.1,z1764a.2.2.2.2.2.2.1,z1764a.2.2.2.2.2.2.2.1,z1764a.2.2.2.2.2.2.2.2.1,z1764a.1,z1764a.2.1,z1764a.2.2.1,z1764a.2.2.2.1,z1764a.2.2.2.2.1,z1764a.2.2.2.2.2.2.2.2.2)).bind fun z1777=>dn (.inl z1777)) (fun z1764b=>(c_rmust (⟨#[41]⟩,z1764b.2.2.2.2.2.2.1,z1764b.2.2.2.2.2.2.2.1,z1764b.2.2.2.2.2.2.2.2.1,z1764b.2.2.2.2.2.2.2.2.2.1,z1764b.2.1,z1764b.2.2.1,z1764b.2.2.2.1,z1764b.2.2.2.2.1,z1764b.2.2.2.2.2.1,z1764b.2.2.2.2.2.2.2.2.2.2.1,z1764b.2.2.2.2.2.2.2.2.2.2.2.1)).bind fun z1791=>dn (.inr (z1764b.1,z1764b.2.2.2.2.2.2.2.2.2.2.2.2.1,z1764b.2.2.2.2.2.2.2.2.2.2.2.2.2,z1791))) z1764 else(l_rparamsR_l0 (.inl (false,z12.2.2.2.2.1,z12.2.2.2.2.2.1,z12.2.2.2.2.2.2.1,z12.2.2.2.2.2.2.2.1,z12.2.2.2.2.2.2.2.2.1,z12.1,z12.2.1,z12.2.2.1,z12.2.2.2.1,z12.2.2.2.2.2.2.2.2.2))).bind fun z1792=>Sum.elim (fun z1792a=>(c_rmust (⟨#[41]⟩,z1792a.2.2.2.2.2.1,z1792a.2.2.2.2.2.2.1,z1792a.2.2.2.2.2.2.2.1,z1792a.2.2.2.2.2.2.2.2.1,z1792a.1,z1792a.2.1,z1792a.2.2.1,z1792a.2.2.2.1,z1792a.2.2.2.2.1,z1792a.2.2.2.2.2.2.2.2.2)).bind fun z1805=>dn (.inl z1805)) (fun z1792b=>(c_rmust (⟨#[41]⟩,z1792b.2.2.2.2.2.2.1,z1792b.2.2.2.2.2.2.2.1,z1792b.2.2.2.2.2.2.2.2.1,z1792b.2.2.2.2.2.2.2.2.2.1,z1792b.2.1,z1792b.2.2.1,z1792b.2.2.2.1,z1792b.2.2.2.2.1,z1792b.2.2.2.2.2.1,z1792b.2.2.2.2.2.2.2.2.2.2.1,z1792b.2.2.2.2.2.2.2.2.2.2.2.1)).bind fun z1819=>dn (.inr (z1792b.1,z1792b.2.2.2.2.2.2.2.2.2.2.2.2.1,z1792b.2.2.2.2.2.2.2.2.2.2.2.2.2,z1819))) z1792
theorem n_rparamsR{β:Type}(c_rmust c_ris)(c_rnameV c_rtake)(c_rfail c_known)(l_rparamsR_l0)(x)(dn:g_rparamsR→Option β):t_rparamsR c_rmust c_ris c_rnameV c_rtake c_rfail c_known l_rparamsR_l0 x dn=(t_rparamsR c_rmust c_ris c_rnameV c_rtake c_rfail c_known l_rparamsR_l0 x some).bind dn:=by
 unfold t_rparamsR
 repeat' first|exact n0|refine n1 fun _=>?_|refine n2 ?_ ?_|refine n3 (fun _=>?_) fun _=>?_|rfl
theorem r_rparamsR(c_rmust c_ris)(c_rnameV c_rtake)(c_rfail c_known)(l_rparamsR_l0)(x):callK E5 (ftb 25 A_rmust R_rmust c_rmust (ftb 64 A_ris R_ris c_ris (ftg 26 (fun a L=> !isNilV (a.getD 1 .junk)&&L.length==2) A_rnameV R_rnameV c_rnameV (ftb 60 A_rtake R_rtake c_rtake (ftb 61 A_rfail R_rfail c_rfail (ftb 65 A_known R_known c_known ca0)))))) (lt2 0 (fun _=>true) (bodyOf E5 27 0) (rparamsR_l0_S x) (rparamsR_l0_T x) l_rparamsR_l0 lo0) 27 (A_rparamsR x).1 (A_rparamsR x).2 K=t_rparamsR (vf A_rmust c_rmust) (vf A_ris c_ris) (vf A_rnameV c_rnameV) (vf A_rtake c_rtake) (vf A_rfail c_rfail) (vf A_known c_known) (lf (bodyOf E5 27 0) (rparamsR_l0_S x) l_rparamsR_l0) x (fun z=>some (.c (R_rparamsR z))):=by kernel_rfl
noncomputable def rparamsR(q:Nat)(x:a_rparamsR):Option g_rparamsR:=t_rparamsR (rmust q) (ris q) (rnameV q) (rtake q) (rfail q) (known q) (rparamsR_l0 (rmust q) (ris q) (rnameV q) (rtake q) (rfail q) (known q) q x) x some
theorem sc_rparamsR(q:Nat):Lw E5 27 A_rparamsR R_rparamsR (rparamsR q):=sof hW5 hX5 (fk (u7 (sc_rmust q) fun _=>by kernel_rfl) (fk (u7 (sc_ris q) fun _=>by kernel_rfl) (fk (u7 (sc_rnameV q) fun _=>by kernel_rfl) (fk (u7 (sc_rtake q) fun _=>by kernel_rfl) (fk (u7 (sc_rfail q) fun _=>by kernel_rfl) (fk (u7 (sc_known q) fun _=>by kernel_rfl) ca0_sound)))))) (fun x=>(lk2 (rparamsR_l0_s (rmust q) (u7 (sc_rmust q) fun _=>by kernel_rfl) (ris q) (u7 (sc_ris q) fun _=>by kernel_rfl) (rnameV q) (u7 (sc_rnameV q) fun _=>by kernel_rfl) (rtake q) (u7 (sc_rtake q) fun _=>by kernel_rfl) (rfail q) (u7 (sc_rfail q) fun _=>by kernel_rfl) (known q) (u7 (sc_known q) fun _=>by kernel_rfl) q x) lo0_sound)) fun x=>(r_rparamsR (rmust q) (ris q) (rnameV q) (rtake q) (rfail q) (known q) (rparamsR_l0 (rmust q) (ris q) (rnameV q) (rtake q) (rfail q) (known q) q x) x).trans (by rw[v_rmust,v_ris,v_rnameV,v_rtake,v_rfail,v_known,rparamsR_l0_u,n_rparamsR]<;>rfl)
abbrev a_rparams:Type:=Int×Int×Int×Int×Nat×FI×FI×FS×FI
abbrev g_rparams:Type:=Nat×FS×FS×SR
def A_rparams:AR a_rparams:=fun x=>([.ptr 0 0],[some (.blk [.ro 4 x.2.2.2.2.1 (fun j=>[i64 (x.2.2.2.2.2.1 j),i64 (x.2.2.2.2.2.2.1 j),st (x.2.2.2.2.2.2.2.1 j),i64 (x.2.2.2.2.2.2.2.2 j)]),i64 x.1,i64 x.2.1,i64 x.2.2.1,i64 x.2.2.2.1,nilS])])
def d_rparams(t:TT):a_rparams:=((vI (cc t 0 1)),vI (cc t 0 2),vI (cc t 0 3),vI (cc t 0 4),vRoN (cc t 0 0),dTI (cc t 0 0) 0,dTI (cc t 0 0) 1,dTS (cc t 0 0) 2,dTI (cc t 0 0) 3)
theorem v_rparams:VI A_rparams:=vd d_rparams fun _=>rfl
def R_rparams:g_rparams→CRes:=fun z=>.ret (.ro 2 z.1 (fun j=>[st (z.2.1 j),st (z.2.2.1 j)])) (hHR z.2.2.2)
def cv_rparams:g_rparamsR→g_rparams:=Sum.elim (fun z=>(0,fun _=>ByteArray.empty,fun _=>ByteArray.empty,z)) (fun z=>z)
theorem cvs_rparams{args:List V}{L:List (Option Chunk)}(z:g_rparamsR)(h:SC E5 27 args L (R_rparamsR z)):SC E5 27 args L (R_rparams (cv_rparams z)):=by
 rcases z with z|z
 ·exact SC.le h Le.nil_ro
 ·have h2:=SC.giveM (L2:=[some (.blk [.ro 4 z.2.2.2.2.2.2.2.1 (fun j=>[i64 (z.2.2.2.2.2.2.2.2.1 j),i64 (z.2.2.2.2.2.2.2.2.2.1 j),st (z.2.2.2.2.2.2.2.2.2.2.1 j),i64 (z.2.2.2.2.2.2.2.2.2.2.2.1 j)]),i64 z.2.2.2.1,i64 z.2.2.2.2.1,i64 z.2.2.2.2.2.1,i64 z.2.2.2.2.2.2.1,.sl 1 1 0 z.2.2.2.2.2.2.2.2.2.2.2.2.1]),some (.row 9 1 z.2.2.2.2.2.2.2.2.2.2.2.2.1 (fun j=>[st (z.2.2.2.2.2.2.2.2.2.2.2.2.2 j)]))]) 2 h (by rfl) (by simp[V.bw,V.bw2,V.bw1,hp,V.pure,pureL])
  simp only[V.bw,V.bw2,V.bw1,hp,List.getD_eq_getElem?_getD,List.getElem?_cons_succ,List.getElem?_cons_zero,Option.getD_some,Nat.zero_add,Nat.le_refl,and_self,if_true]at h2
  exact h2
noncomputable def rparams(q:Nat)(x:a_rparams):Option g_rparams:=(rparamsR q (x.1,x.2.1,x.2.2.1,x.2.2.2.1,x.2.2.2.2.1,x.2.2.2.2.2.1,x.2.2.2.2.2.2.1,x.2.2.2.2.2.2.2.1,x.2.2.2.2.2.2.2.2,0,fun _=>ByteArray.empty)).map cv_rparams
theorem sc_rparams(q:Nat):Lw E5 27 A_rparams R_rparams (rparams q):=by
 intro x z h
 obtain⟨y,hy,rfl⟩:=Option.map_eq_some_iff.1 h
 have this:=cvs_rparams y (sc_rparamsR q _ y hy)
 refine SC.virtB 0 [.ro 4 x.2.2.2.2.1 (fun j=>[i64 (x.2.2.2.2.2.1 j),i64 (x.2.2.2.2.2.2.1 j),st (x.2.2.2.2.2.2.2.1 j),i64 (x.2.2.2.2.2.2.2.2 j)]),i64 x.1,i64 x.2.1,i64 x.2.2.1,i64 x.2.2.2.1,.sl 1 1 0 0] 9 1 (fun j=>[st ByteArray.empty]) (by decide) this rfl (fun β S w us b hb hd=>?_) (by show 1≤1;decide) (by show 1≤1;decide)
 simp only[denL]at hd⊢
 obtain⟨u1,r1,rfl,h1,u2,r2,rfl,h2,u3,r3,rfl,h3,u4,r4,rfl,h4,u5,r5,rfl,h5,u6,r6,rfl,h6,rfl⟩:=hd
 exact⟨u1,_,rfl,h1,u2,_,rfl,h2,u3,_,rfl,h3,u4,_,rfl,h4,u5,_,rfl,h5,u6,_,rfl,nil_sl (by show 1<2;decide) hb h6,rfl⟩
abbrev a_RTokV:Type:=ByteArray
abbrev g_RTokV:Type:=Int×Int×Nat×FI×FI×FS×FI
def A_RTokV:AR a_RTokV:=fun x=>([st x],[])
def d_RTokV(t:TT):a_RTokV:=(vS (ag t 0))
theorem v_RTokV:VI A_RTokV:=vd d_RTokV fun _=>rfl
def R_RTokV:g_RTokV→CRes:=fun z=>.ret (.tup [.ro 4 z.2.2.1 (fun j=>[i64 (z.2.2.2.1 j),i64 (z.2.2.2.2.1 j),st (z.2.2.2.2.2.1 j),i64 (z.2.2.2.2.2.2 j)]),i64 z.1,i64 z.2.1]) []
def cv_RTokens:g_RTokens→g_RTokV:=Sum.elim (fun z=>(z.1,z.2,0,fun _=>0,fun _=>0,fun _=>ByteArray.empty,fun _=>0)) id
noncomputable def RTokV(q:Nat)(x:a_RTokV):Option g_RTokV:=(RTokens q x).map cv_RTokens
theorem sc_RTokV(q:Nat):Lw E5 24 A_RTokV R_RTokV (RTokV q):=by
 intro x z h
 obtain⟨y,hy,rfl⟩:=Option.map_eq_some_iff.1 h
 have hs:=sc_RTokens q x y hy
 rcases y with y|y
 ·exact SC.le hs (Le.tup (LeL.cons Le.nil_ro (LeL.cons (Le.refl _) (LeL.cons (Le.refl _) LeL.nil))))
 ·have h2:=SC.giveM (L2:=[]) 0 hs (by rfl) (by simp[V.bw,V.bw2,V.bw1,hp,V.pure,pureL])
  simp only[V.bw,V.bw2,V.bw1,hp,List.map_cons,List.map_nil,List.getD_eq_getElem?_getD,List.getElem?_cons_succ,List.getElem?_cons_zero,Option.getD_some,Nat.zero_add,Nat.le_refl,and_self,if_true]at h2
  exact h2
abbrev a_RParseT:Type:=ByteArray
abbrev g_RParseT:Type:=(Int×Int)⊕(Nat×FS×FN×FM×FI×FI×FS×FN×FM)
def A_RParseT:AR a_RParseT:=fun x=>([st x],[])
def R_RParseT:g_RParseT→CRes:=Sum.elim (fun z=>CRes.ret (V.tup [nilS,i64 z.1,i64 z.2]) []:(Int×Int)→CRes) (fun z=>CRes.ret (V.tup [V.sl 0 6 0 z.1,i64 0,i64 0]) [some (Chunk.row 56 6 z.1 fun j=>[st (z.2.1 j),V.ro 2 (z.2.2.1 j) (z.2.2.2.1 j),i64 (z.2.2.2.2.1 j),i64 (z.2.2.2.2.2.1 j),st (z.2.2.2.2.2.2.1 j),V.ro 4 (z.2.2.2.2.2.2.2.1 j) (z.2.2.2.2.2.2.2.2 j)])]:(Nat×FS×FN×FM×FI×FI×FS×FN×FM)→CRes)
abbrev RParseT_l0_a:Type:=(Nat×FI×FI×FS×FI)⊕(Nat×FI×FI×FS×FI×Int×Int×Int×Int×Nat×FS×FS×FN×FM×FI×FI×FS×FN×FM×Nat×FS)
abbrev RParseT_l0_g:Type:=(Nat×FI×FI×FS×FI)⊕(Nat×Nat×FI×FI×FS×FI×Int×Int×Int×Int×Nat×FS×FS×FN×FM×FI×FI×FS×FN×FM)
def RParseT_l0_S0(x:a_RParseT)(y:Nat×FI×FI×FS×FI):St:={fr:=jk 8++[V.ptr 0 0,nilS,nilS]++jk 74,H:=hp [some (Chunk.blk [V.ro 4 y.1 fun j=>[i64 (y.2.1 j),i64 (y.2.2.1 j),st (y.2.2.2.1 j),i64 (y.2.2.2.2 j)],i64 0,i64 0,i64 0,i64 0,nilS])],nx:=1,rt:=0,me:=9}
def RParseT_l0_d0(s:St):Nat×FI×FI×FS×FI:=((vRoN (cb s 0 0)),dTI (cb s 0 0) 0,dTI (cb s 0 0) 1,dTS (cb s 0 0) 2,dTI (cb s 0 0) 3)
def RParseT_l0_S1(x:a_RParseT)(y:Nat×FI×FI×FS×FI×Int×Int×Int×Int×Nat×FS×FS×FN×FM×FI×FI×FS×FN×FM×Nat×FS):St:={fr:=jk 8++[V.ptr 0 0,V.sl 2 6 0 y.2.2.2.2.2.2.2.2.2.2.2.2.2.2.2.2.2.2.2.1,V.sl 3 1 0 y.2.2.2.2.2.2.2.2.2.2.2.2.2.2.2.2.2.2.2.1]++jk 74,H:=hp [some (hRB y),some (hRV y),some (Chunk.row 56 6 y.2.2.2.2.2.2.2.2.2.2.2.2.2.2.2.2.2.2.2.1 fun j=>[st (y.2.2.2.2.2.2.2.2.2.2.2.1 j),V.ro 2 (y.2.2.2.2.2.2.2.2.2.2.2.2.1 j) (y.2.2.2.2.2.2.2.2.2.2.2.2.2.1 j),i64 (y.2.2.2.2.2.2.2.2.2.2.2.2.2.2.1 j),i64 (y.2.2.2.2.2.2.2.2.2.2.2.2.2.2.2.1 j),st (y.2.2.2.2.2.2.2.2.2.2.2.2.2.2.2.2.1 j),V.ro 4 (y.2.2.2.2.2.2.2.2.2.2.2.2.2.2.2.2.2.1 j) (y.2.2.2.2.2.2.2.2.2.2.2.2.2.2.2.2.2.2.1 j)]),some (Chunk.row 9 1 y.2.2.2.2.2.2.2.2.2.2.2.2.2.2.2.2.2.2.2.1 fun j=>[st (y.2.2.2.2.2.2.2.2.2.2.2.2.2.2.2.2.2.2.2.2 j)])],nx:=4,rt:=0,me:=9}
def RParseT_l0_d1(s:St):Nat×FI×FI×FS×FI×Int×Int×Int×Int×Nat×FS×FS×FN×FM×FI×FI×FS×FN×FM×Nat×FS:=((vRoN (cb s 0 0)),dTI (cb s 0 0) 0,dTI (cb s 0 0) 1,dTS (cb s 0 0) 2,dTI (cb s 0 0) 3,vI (cb s 0 1),vI (cb s 0 2),vI (cb s 0 3),vI (cb s 0 4),vSlN (cb s 0 5),dRS (s.H 1) 0,dRS (s.H 2) 0,dRN (s.H 2) 1,dRF (s.H 2) 1,dRI (s.H 2) 2,dRI (s.H 2) 3,dRS (s.H 2) 4,dRN (s.H 2) 5,dRF (s.H 2) 5,vSlN (s.fr.getD 9 .junk),dRS (s.H 3) 0)
def RParseT_l0_S(x:a_RParseT):RParseT_l0_a→St:=(Sum.elim (RParseT_l0_S0 x) (RParseT_l0_S1 x))
def RParseT_l0_d(s:St):RParseT_l0_a:=(match s.nx==1 with|true=>(.inl (RParseT_l0_d0 s)) |false=>(.inr (RParseT_l0_d1 s)))
theorem RParseT_l0_u(x:a_RParseT):VL (RParseT_l0_S x):=vl RParseT_l0_d (fun y=>by rcases y with y|y<;>rfl)
def RParseT_l0_T(x:a_RParseT):RParseT_l0_g→Ex×St:=(Sum.elim (fun z=>(Ex.exit 0,{fr:=jk 8++[V.ptr 0 0,nilS]++jk 75,H:=hp [some (Chunk.blk [V.ro 4 z.1 fun j=>[i64 (z.2.1 j),i64 (z.2.2.1 j),st (z.2.2.2.1 j),i64 (z.2.2.2.2 j)],i64 0,i64 0,i64 0,i64 0,nilS])],nx:=1,rt:=0,me:=9})) (fun z=>(Ex.exit 0,{fr:=jk 8++[V.ptr 0 0,V.sl 2 6 0 z.1]++jk 75,H:=hp [some (hRB z.2),some (hRV z.2),some (Chunk.row 56 6 z.1 fun j=>[st (z.2.2.2.2.2.2.2.2.2.2.2.2.1 j),V.ro 2 (z.2.2.2.2.2.2.2.2.2.2.2.2.2.1 j) (z.2.2.2.2.2.2.2.2.2.2.2.2.2.2.1 j),i64 (z.2.2.2.2.2.2.2.2.2.2.2.2.2.2.2.1 j),i64 (z.2.2.2.2.2.2.2.2.2.2.2.2.2.2.2.2.1 j),st (z.2.2.2.2.2.2.2.2.2.2.2.2.2.2.2.2.2.1 j),V.ro 4 (z.2.2.2.2.2.2.2.2.2.2.2.2.2.2.2.2.2.2.1 j) (z.2.2.2.2.2.2.2.2.2.2.2.2.2.2.2.2.2.2.2 j)])],nx:=3,rt:=0,me:=9})))
def RParseT_l0_t0{β:Type}(c_RTokV:a_RTokV→Option g_RTokV)(c_rmustZ:a_rmustZ→Option g_rmustZ)(c_rmust:a_rmust→Option g_rmust)(c_rnameZ:a_rnameZ→Option g_rnameZ)(c_rnameN:a_rnameN→Option g_rnameN)(c_rparams:a_rparams→Option g_rparams)(c_rblock:a_rblock→Option g_rblock)(x:a_RParseT)(y:Nat×FI×FI×FS×FI)(nx:RParseT_l0_a→Option β)(dn:RParseT_l0_g→Option β):Option β:=
 if(0:Int)≤0∧0< ((y.1:Nat):Int)then if(y.2.1 0 !=0)=true then(c_rmustZ (⟨#[112,114,111,99,101,100,117,114,101]⟩,0,0,0,0,y)).bind fun z565=>(c_rnameZ (1,z565)).bind fun z578=>(c_rparams (z578.2.1,z578.2.2.1,z578.2.2.2.1,z578.2.2.2.2.1,z578.2.2.2.2.2.1,z578.2.2.2.2.2.2.1,z578.2.2.2.2.2.2.2.1,z578.2.2.2.2.2.2.2.2.1,z578.2.2.2.2.2.2.2.2.2.1)).bind fun z588=>(c_rblock z588.2.2.2).bind fun z600=>nx (.inr (z600.2.2.2.2.2.2.2.2.2.1,z600.2.2.2.2.2.2.2.2.2.2.1,z600.2.2.2.2.2.2.2.2.2.2.2.1,z600.2.2.2.2.2.2.2.2.2.2.2.2.1,z600.2.2.2.2.2.2.2.2.2.2.2.2.2.1,z600.2.2.2.2.2.1,z600.2.2.2.2.2.2.1,z600.2.2.2.2.2.2.2.1,z600.2.2.2.2.2.2.2.2.1,z600.2.2.2.2.2.2.2.2.2.2.2.2.2.2.1,z600.2.2.2.2.2.2.2.2.2.2.2.2.2.2.2,fun j=>z578.1,fun j=>z588.1,fun(j j_1:Nat)=>[st (z588.2.1 j_1),st (z588.2.2.1 j_1)],fun j=>z600.1,fun j=>z600.2.1,fun j=>z600.2.2.1,fun j=>z600.2.2.2.1,fun j=>z600.2.2.2.2.1,1,fun j=>z578.1))else dn (.inl y)else none
theorem RParseT_l0_n0{β:Type}(c_RTokV c_rmustZ)(c_rmust c_rnameZ)(c_rnameN c_rparams c_rblock)(x)(y)(nx:RParseT_l0_a→Option β)(dn):RParseT_l0_t0 c_RTokV c_rmustZ c_rmust c_rnameZ c_rnameN c_rparams c_rblock x y nx dn=(RParseT_l0_t0 c_RTokV c_rmustZ c_rmust c_rnameZ c_rnameN c_rparams c_rblock x y (fun y=>some (.inl y)) (fun z=>some (.inr z))).bind fun r=>Sum.elim nx dn r:=by
 unfold RParseT_l0_t0
 repeat' first|exact n0|refine n1 fun _=>?_|refine n2 ?_ ?_|refine n3 (fun _=>?_) fun _=>?_|rfl
theorem RParseT_l0_r0(c_RTokV c_rmustZ)(c_rmust c_rnameZ)(c_rnameN c_rparams c_rblock)(x)(y)(lo:LoopT):loopK E5 (ftb 24 A_RTokV R_RTokV c_RTokV (ftg 25 (fun _ L=>L.length==1) A_rmustZ R_rmustZ c_rmustZ (ftb 25 A_rmust R_rmust c_rmust (ftg 26 (fun a L=>isNilV (a.getD 1 .junk)) A_rnameZ R_rnameZ c_rnameZ (ftg 26 (fun a L=>L.length==3) A_rnameN R_rnameN c_rnameN (ftg 27 (fun _ L=>L.length==1) A_rparams R_rparams c_rparams (ftb 28 A_rblock R_rblock c_rblock ca0))))))) lo 0 1792 (bodyOf E5 9 0) (RParseT_l0_S x (.inl y)) (KCM [(0,768)] 28)=RParseT_l0_t0 (vf A_RTokV c_RTokV) (vf A_rmustZ c_rmustZ) (vf A_rmust c_rmust) (vf A_rnameZ c_rnameZ) (vf A_rnameN c_rnameN) (vf A_rparams c_rparams) (vf A_rblock c_rblock) x y (fun y=>lo 0 1792 (bodyOf E5 9 0) (RParseT_l0_S x y) (KCM [(0,768)] 28)) (fun z=>some (.l (RParseT_l0_T x z).1 (RParseT_l0_T x z).2)):=by kernel_rfl
def RParseT_l0_t1{β:Type}(c_RTokV:a_RTokV→Option g_RTokV)(c_rmustZ:a_rmustZ→Option g_rmustZ)(c_rmust:a_rmust→Option g_rmust)(c_rnameZ:a_rnameZ→Option g_rnameZ)(c_rnameN:a_rnameN→Option g_rnameN)(c_rparams:a_rparams→Option g_rparams)(c_rblock:a_rblock→Option g_rblock)(x:a_RParseT)(y:Nat×FI×FI×FS×FI×Int×Int×Int×Int×Nat×FS×FS×FN×FM×FI×FI×FS×FN×FM×Nat×FS)(nx:RParseT_l0_a→Option β)(dn:RParseT_l0_g→Option β):Option β:=
 if(y.2.2.2.2.2.2.2.1==0)=true then if 0≤y.2.2.2.2.2.1∧y.2.2.2.2.2.1< ((y.1:Nat):Int)then if(y.2.1 (Int.toNat y.2.2.2.2.2.1)!=0)=true then(c_rmust (⟨#[112,114,111,99,101,100,117,114,101]⟩,y.2.2.2.2.2.1,y.2.2.2.2.2.2.1,y.2.2.2.2.2.2.2.1,y.2.2.2.2.2.2.2.2.1,y.1,y.2.1,y.2.2.1,y.2.2.2.1,y.2.2.2.2.1,y.2.2.2.2.2.2.2.2.2.1,y.2.2.2.2.2.2.2.2.2.2.1)).bind fun z614=>(c_rnameN (w (((y.2.2.2.2.2.2.2.2.2.2.2.2.2.2.2.2.2.2.2.1:Nat):Int)+1),y.2.2.2.2.2.2.2.2.2.2.2.2.2.2.2.2.2.2.2.1,y.2.2.2.2.2.2.2.2.2.2.2.2.2.2.2.2.2.2.2.2,z614)).bind fun z629=>if(y.2.2.2.2.2.2.2.2.2.2.2.2.2.2.2.2.2.2.2.1+1)*16≤roomBound∧y.2.2.2.2.2.2.2.2.2.2.2.2.2.2.2.2.2.2.2.1+1≤maxLen∧y.2.2.2.2.2.2.2.2.2.2.2.2.2.2.2.2.2.2.2.1≤z629.2.1 then(c_rparams (z629.2.2.2.1,z629.2.2.2.2.1,z629.2.2.2.2.2.1,z629.2.2.2.2.2.2.1,z629.2.2.2.2.2.2.2.1,z629.2.2.2.2.2.2.2.2.1,z629.2.2.2.2.2.2.2.2.2.1,z629.2.2.2.2.2.2.2.2.2.2.1,z629.2.2.2.2.2.2.2.2.2.2.2.1)).bind fun z639=>(c_rblock z639.2.2.2).bind fun z651=>if(y.2.2.2.2.2.2.2.2.2.2.2.2.2.2.2.2.2.2.2.1+1)*96≤roomBound∧y.2.2.2.2.2.2.2.2.2.2.2.2.2.2.2.2.2.2.2.1+1≤maxLen∧y.2.2.2.2.2.2.2.2.2.2.2.2.2.2.2.2.2.2.2.1≤y.2.2.2.2.2.2.2.2.2.2.2.2.2.2.2.2.2.2.2.1 then nx (.inr (z651.2.2.2.2.2.2.2.2.2.1,z651.2.2.2.2.2.2.2.2.2.2.1,z651.2.2.2.2.2.2.2.2.2.2.2.1,z651.2.2.2.2.2.2.2.2.2.2.2.2.1,z651.2.2.2.2.2.2.2.2.2.2.2.2.2.1,z651.2.2.2.2.2.1,z651.2.2.2.2.2.2.1,z651.2.2.2.2.2.2.2.1,z651.2.2.2.2.2.2.2.2.1,z651.2.2.2.2.2.2.2.2.2.2.2.2.2.2.1,z651.2.2.2.2.2.2.2.2.2.2.2.2.2.2.2,fun j=>if j<y.2.2.2.2.2.2.2.2.2.2.2.2.2.2.2.2.2.2.2.1 then y.2.2.2.2.2.2.2.2.2.2.2.1 j else z629.1,fun j=>if j<y.2.2.2.2.2.2.2.2.2.2.2.2.2.2.2.2.2.2.2.1 then y.2.2.2.2.2.2.2.2.2.2.2.2.1 j else z639.1,fun(j j_1:Nat)=>if j<y.2.2.2.2.2.2.2.2.2.2.2.2.2.2.2.2.2.2.2.1 then y.2.2.2.2.2.2.2.2.2.2.2.2.2.1 j j_1 else[st (z639.2.1 j_1),st (z639.2.2.1 j_1)],fun j=>if j<y.2.2.2.2.2.2.2.2.2.2.2.2.2.2.2.2.2.2.2.1 then y.2.2.2.2.2.2.2.2.2.2.2.2.2.2.1 j else z651.1,fun j=>if j<y.2.2.2.2.2.2.2.2.2.2.2.2.2.2.2.2.2.2.2.1 then y.2.2.2.2.2.2.2.2.2.2.2.2.2.2.2.1 j else z651.2.1,fun j=>if j<y.2.2.2.2.2.2.2.2.2.2.2.2.2.2.2.2.2.2.2.1 then y.2.2.2.2.2.2.2.2.2.2.2.2.2.2.2.2.1 j else z651.2.2.1,fun j=>if j<y.2.2.2.2.2.2.2.2.2.2.2.2.2.2.2.2.2.2.2.1 then y.2.2.2.2.2.2.2.2.2.2.2.2.2.2.2.2.2.1 j else z651.2.2.2.1,fun(j j_1:Nat)=>if j<y.2.2.2.2.2.2.2.2.2.2.2.2.2.2.2.2.2.2.2.1 then y.2.2.2.2.2.2.2.2.2.2.2.2.2.2.2.2.2.2.1 j j_1 else z651.2.2.2.2.1 j_1,y.2.2.2.2.2.2.2.2.2.2.2.2.2.2.2.2.2.2.2.1+1,fun j=>if j<y.2.2.2.2.2.2.2.2.2.2.2.2.2.2.2.2.2.2.2.1 then z629.2.2.1 j else z629.1))else none else none else dn (.inr (y.2.2.2.2.2.2.2.2.2.2.2.2.2.2.2.2.2.2.2.1,y.1,y.2.1,y.2.2.1,y.2.2.2.1,y.2.2.2.2.1,y.2.2.2.2.2.1,y.2.2.2.2.2.2.1,y.2.2.2.2.2.2.2.1,y.2.2.2.2.2.2.2.2.1,y.2.2.2.2.2.2.2.2.2.1,y.2.2.2.2.2.2.2.2.2.2.1,y.2.2.2.2.2.2.2.2.2.2.2.1,y.2.2.2.2.2.2.2.2.2.2.2.2.1,y.2.2.2.2.2.2.2.2.2.2.2.2.2.1,y.2.2.2.2.2.2.2.2.2.2.2.2.2.2.1,y.2.2.2.2.2.2.2.2.2.2.2.2.2.2.2.1,y.2.2.2.2.2.2.2.2.2.2.2.2.2.2.2.2.1,y.2.2.2.2.2.2.2.2.2.2.2.2.2.2.2.2.2.1,y.2.2.2.2.2.2.2.2.2.2.2.2.2.2.2.2.2.2.1))else none else dn (.inr (y.2.2.2.2.2.2.2.2.2.2.2.2.2.2.2.2.2.2.2.1,y.1,y.2.1,y.2.2.1,y.2.2.2.1,y.2.2.2.2.1,y.2.2.2.2.2.1,y.2.2.2.2.2.2.1,y.2.2.2.2.2.2.2.1,y.2.2.2.2.2.2.2.2.1,y.2.2.2.2.2.2.2.2.2.1,y.2.2.2.2.2.2.2.2.2.2.1,y.2.2.2.2.2.2.2.2.2.2.2.1,y.2.2.2.2.2.2.2.2.2.2.2.2.1,y.2.2.2.2.2.2.2.2.2.2.2.2.2.1,y.2.2.2.2.2.2.2.2.2.2.2.2.2.2.1,y.2.2.2.2.2.2.2.2.2.2.2.2.2.2.2.1,y.2.2.2.2.2.2.2.2.2.2.2.2.2.2.2.2.1,y.2.2.2.2.2.2.2.2.2.2.2.2.2.2.2.2.2.1,y.2.2.2.2.2.2.2.2.2.2.2.2.2.2.2.2.2.2.1))
theorem RParseT_l0_n1{β:Type}(c_RTokV c_rmustZ)(c_rmust c_rnameZ)(c_rnameN c_rparams c_rblock)(x)(y)(nx:RParseT_l0_a→Option β)(dn):RParseT_l0_t1 c_RTokV c_rmustZ c_rmust c_rnameZ c_rnameN c_rparams c_rblock x y nx dn=(RParseT_l0_t1 c_RTokV c_rmustZ c_rmust c_rnameZ c_rnameN c_rparams c_rblock x y (fun y=>some (.inl y)) (fun z=>some (.inr z))).bind fun r=>Sum.elim nx dn r:=by
 unfold RParseT_l0_t1
 repeat' first|exact n0|refine n1 fun _=>?_|refine n2 ?_ ?_|refine n3 (fun _=>?_) fun _=>?_|rfl
theorem RParseT_l0_r1(c_RTokV c_rmustZ)(c_rmust c_rnameZ)(c_rnameN c_rparams c_rblock)(x)(y)(lo:LoopT):loopK E5 (ftb 24 A_RTokV R_RTokV c_RTokV (ftg 25 (fun _ L=>L.length==1) A_rmustZ R_rmustZ c_rmustZ (ftb 25 A_rmust R_rmust c_rmust (ftg 26 (fun a L=>isNilV (a.getD 1 .junk)) A_rnameZ R_rnameZ c_rnameZ (ftg 26 (fun a L=>L.length==3) A_rnameN R_rnameN c_rnameN (ftg 27 (fun _ L=>L.length==1) A_rparams R_rparams c_rparams (ftb 28 A_rblock R_rblock c_rblock ca0))))))) lo 0 1792 (bodyOf E5 9 0) (RParseT_l0_S x (.inr y)) (KCM [(0,768)] 28)=RParseT_l0_t1 (vf A_RTokV c_RTokV) (vf A_rmustZ c_rmustZ) (vf A_rmust c_rmust) (vf A_rnameZ c_rnameZ) (vf A_rnameN c_rnameN) (vf A_rparams c_rparams) (vf A_rblock c_rblock) x y (fun y=>lo 0 1792 (bodyOf E5 9 0) (RParseT_l0_S x y) (KCM [(0,768)] 28)) (fun z=>some (.l (RParseT_l0_T x z).1 (RParseT_l0_T x z).2)):=by kernel_rfl
noncomputable def RParseT_l0(c_RTokV:a_RTokV→Option g_RTokV)(c_rmustZ:a_rmustZ→Option g_rmustZ)(c_rmust:a_rmust→Option g_rmust)(c_rnameZ:a_rnameZ→Option g_rnameZ)(c_rnameN:a_rnameN→Option g_rnameN)(c_rparams:a_rparams→Option g_rparams)(c_rblock:a_rblock→Option g_rblock)(q:Nat)(x:a_RParseT):RParseT_l0_a→Option RParseT_l0_g:=lpG (Sum.elim (fun y=>RParseT_l0_t0 c_RTokV c_rmustZ c_rmust c_rnameZ c_rnameN c_rparams c_rblock x y (fun y=>some (.inl y)) (fun z=>some (.inr z))) (fun y=>RParseT_l0_t1 c_RTokV c_rmustZ c_rmust c_rnameZ c_rnameN c_rparams c_rblock x y (fun y=>some (.inl y)) (fun z=>some (.inr z)))) q
theorem RParseT_l0_s(c_RTokV)(h_RTokV:Lw E5 24 A_RTokV R_RTokV c_RTokV)(c_rmustZ)(h_rmustZ:Lw E5 25 A_rmustZ R_rmustZ c_rmustZ)(c_rmust)(h_rmust:Lw E5 25 A_rmust R_rmust c_rmust)(c_rnameZ)(h_rnameZ:Lw E5 26 A_rnameZ R_rnameZ c_rnameZ)(c_rnameN)(h_rnameN:Lw E5 26 A_rnameN R_rnameN c_rnameN)(c_rparams)(h_rparams:Lw E5 27 A_rparams R_rparams c_rparams)(c_rblock)(h_rblock:Lw E5 28 A_rblock R_rblock c_rblock)(q:Nat)(x:a_RParseT):Ll E5 (bodyOf E5 9 0) (RParseT_l0_S x) (RParseT_l0_T x) (RParseT_l0 c_RTokV c_rmustZ c_rmust c_rnameZ c_rnameN c_rparams c_rblock q x):=
 slp (fk h_RTokV (fk h_rmustZ (fk h_rmust (fk h_rnameZ (fk h_rnameN (fk h_rparams (fk h_rblock ca0_sound))))))) hX5 (fun lo y=>by
  rcases y with y|y
  ·exact(RParseT_l0_r0 c_RTokV c_rmustZ c_rmust c_rnameZ c_rnameN c_rparams c_rblock x y lo).trans (by rw[v_RTokV,v_rmustZ,v_rmust,v_rnameZ,v_rnameN,v_rparams,v_rblock];exact RParseT_l0_n0 _ _ _ _ _ _ _ _ _ _ _)
  ·exact(RParseT_l0_r1 c_RTokV c_rmustZ c_rmust c_rnameZ c_rnameN c_rparams c_rblock x y lo).trans (by rw[v_RTokV,v_rmustZ,v_rmust,v_rnameZ,v_rnameN,v_rparams,v_rblock];exact RParseT_l0_n1 _ _ _ _ _ _ _ _ _ _ _)) (fun z=>by rcases z with z|z<;>kernel_rfl) q
def t_RParseT{β:Type}(c_RTokV:a_RTokV→Option g_RTokV)(c_rmustZ:a_rmustZ→Option g_rmustZ)(c_rmust:a_rmust→Option g_rmust)(c_rnameZ:a_rnameZ→Option g_rnameZ)(c_rnameN:a_rnameN→Option g_rnameN)(c_rparams:a_rparams→Option g_rparams)(c_rblock:a_rblock→Option g_rblock)(l_RParseT_l0:RParseT_l0_a→Option RParseT_l0_g)(x:a_RParseT)(dn:g_RParseT→Option β):Option β:=
 (c_RTokV x).bind fun z1=>if(z1.2.1 !=0)=true then dn (.inl (z1.1,z1.2.1))else(l_RParseT_l0 (.inl z1.2.2)).bind fun z538=>Sum.elim (fun z538a=>dn (.inl (0,0))) (fun z538b=>if(z538b.2.2.2.2.2.2.2.2.1 !=0)=true then dn (.inl (z538b.2.2.2.2.2.2.2.2.2.1,z538b.2.2.2.2.2.2.2.2.1))else dn (.inr (z538b.1,z538b.2.2.2.2.2.2.2.2.2.2.2.2))) z538
theorem n_RParseT{β:Type}(c_RTokV c_rmustZ)(c_rmust c_rnameZ)(c_rnameN c_rparams c_rblock)(l_RParseT_l0)(x)(dn:g_RParseT→Option β):t_RParseT c_RTokV c_rmustZ c_rmust c_rnameZ c_rnameN c_rparams c_rblock l_RParseT_l0 x dn=(t_RParseT c_RTokV c_rmustZ c_rmust c_rnameZ c_rnameN c_rparams c_rblock l_RParseT_l0 x some).bind dn:=by
 unfold t_RParseT
 repeat' first|exact n0|refine n1 fun _=>?_|refine n2 ?_ ?_|refine n3 (fun _=>?_) fun _=>?_|rfl
theorem r_RParseT(c_RTokV c_rmustZ)(c_rmust c_rnameZ)(c_rnameN c_rparams c_rblock)(l_RParseT_l0)(x):callK E5 (ftb 24 A_RTokV R_RTokV c_RTokV (ftg 25 (fun _ L=>L.length==1) A_rmustZ R_rmustZ c_rmustZ (ftb 25 A_rmust R_rmust c_rmust (ftg 26 (fun a L=>isNilV (a.getD 1 .junk)) A_rnameZ R_rnameZ c_rnameZ (ftg 26 (fun a L=>L.length==3) A_rnameN R_rnameN c_rnameN (ftg 27 (fun _ L=>L.length==1) A_rparams R_rparams c_rparams (ftb 28 A_rblock R_rblock c_rblock ca0))))))) (lt2 0 (fun _=>true) (bodyOf E5 9 0) (RParseT_l0_S x) (RParseT_l0_T x) l_RParseT_l0 lo0) 9 (A_RParseT x).1 (A_RParseT x).2 K=t_RParseT (vf A_RTokV c_RTokV) (vf A_rmustZ c_rmustZ) (vf A_rmust c_rmust) (vf A_rnameZ c_rnameZ) (vf A_rnameN c_rnameN) (vf A_rparams c_rparams) (vf A_rblock c_rblock) (lf (bodyOf E5 9 0) (RParseT_l0_S x) l_RParseT_l0) x (fun z=>some (.c (R_RParseT z))):=by kernel_rfl
noncomputable def RParseT(q:Nat)(x:a_RParseT):Option g_RParseT:=t_RParseT (RTokV q) (rmustZ q) (rmust q) (rnameZ q) (rnameN q) (rparams q) (rblock q) (RParseT_l0 (RTokV q) (rmustZ q) (rmust q) (rnameZ q) (rnameN q) (rparams q) (rblock q) q x) x some
theorem sc_RParseT(q:Nat):Lw E5 9 A_RParseT R_RParseT (RParseT q):=sof hW5 hX5 (fk (sc_RTokV q) (fk (sc_rmustZ q) (fk (u7 (sc_rmust q) fun _=>by kernel_rfl) (fk (u7 (sc_rnameZ q) fun _=>by kernel_rfl) (fk (u7 (sc_rnameN q) fun _=>by kernel_rfl) (fk (sc_rparams q) (fk (sc_rblock q) ca0_sound))))))) (fun x=>(lk2 (RParseT_l0_s (RTokV q) (sc_RTokV q) (rmustZ q) (sc_rmustZ q) (rmust q) (u7 (sc_rmust q) fun _=>by kernel_rfl) (rnameZ q) (u7 (sc_rnameZ q) fun _=>by kernel_rfl) (rnameN q) (u7 (sc_rnameN q) fun _=>by kernel_rfl) (rparams q) (sc_rparams q) (rblock q) (sc_rblock q) q x) lo0_sound)) fun x=>(r_RParseT (RTokV q) (rmustZ q) (rmust q) (rnameZ q) (rnameN q) (rparams q) (rblock q) (RParseT_l0 (RTokV q) (rmustZ q) (rmust q) (rnameZ q) (rnameN q) (rparams q) (rblock q) q x) x).trans (by rw[v_RTokV,v_rmustZ,v_rmust,v_rnameZ,v_rnameN,v_rparams,v_rblock,RParseT_l0_u,n_RParseT]<;>rfl)
end Go.Proofs.YtjfkkokeegpeiaaGreatDoor
/- The reference's lexer: Tokens. -/
namespace Go.Proofs.YtjfkkokeegpeiaaGreatDoor
open Go Go.Am Go.Proofs.Lx
set_option maxRecDepth 100000
theorem rtokens_law(s:ByteArray)(q:Nat)(hq:5000<q):
 (∃z:g_RTokV,RTokV q s=some z∧z.2.1≠0∧∃p:Nat,z.1=(p:Int)∧TokensR s ([],p,z.2.1))∨
 (∃acc:List Tkn,RTokV q s=some (0,0,tokV (acc.length+1) (tokAt s acc))∧TokN (acc.length+1) (tokAt s acc)∧TokensR s (acc++[endT s],0,0)):=by
 unfold RTokV RTokens t_RTokens
 by_cases hbig:4000<s.size
 ·refine .inl ⟨(4000,2,0,fun _=>0,fun _=>0,fun _=>ByteArray.empty,fun _=>0),?_,by decide,4000,rfl,.inl ⟨hbig,rfl⟩⟩
  rw[if_pos (decide_eq_true (show((s.size:Nat):Int)>4000 by omega))]
  rfl
 ·have hs:s.size≤4000:=by omega
  rw[if_neg (fun h=>hbig (by have:=of_decide_eq_true h;omega))]
  obtain⟨p0,k1,k2⟩:=rskip_rs q s 0 hs (Nat.zero_le _) (by omega)
  have hle:=skipL_le (s.data.toList.drop 0) false
  simp only[List.drop_zero]at hle
  have hlen:s.data.toList.length=s.size:=by simp
  obtain⟨z,h1,h2⟩:=rtok_loop q s hs (by omega) q (0+skipL false (s.data.toList.drop 0)) [] (.inl p0) ⟨rfl,k2⟩ (by rw[List.drop_zero];omega) (by omega) (Nat.zero_le _) (fun r h=>lex_skip s.size 0 (by omega) (Nat.zero_le _) h) (skip_stop s.size 0 (by omega) (Nat.zero_le _))
  have k1':RSkip q (s,(0:Int))=some p0:=k1
  rw[k1']
  dsimp only[Option.bind_some]
  rw[h1]
  dsimp only[Option.bind_some]
  rcases z with z|z|z
  ·obtain⟨p,g1,g2,g3⟩:=h2
   exact .inl ⟨_,rfl,g2,p,g1,.inr ⟨hs,g3⟩⟩
  ·refine .inr ⟨[],?_,tokN_of (by simp) (by simp),.inr ⟨hs,h2⟩⟩
   rfl
  ·obtain⟨acc,g1,g2,g3,g4⟩:=h2
   have hgood:=lex_good g4 (by simp)
   have hN:=tokN_of (s:=s) (acc:=acc) (by omega) (fun x hx=>hgood x (List.mem_append_left _ hx))
   refine .inr ⟨acc,?_,hN,.inr ⟨hs,g4⟩⟩
   obtain⟨n,k,a,t,v⟩:=z
   dsimp only at g1 g3⊢
   subst g1
   have key:∀j,(if j<acc.length then k j else 0)=(tokAt s acc j).k∧(if j<acc.length then a j else((s.size:Nat):Int))=(tokAt s acc j).a∧(if j<acc.length then t j else⟨#[]⟩)=(tokAt s acc j).t∧(if j<acc.length then v j else 0)=(tokAt s acc j).n:=by
    intro j
    unfold tokAt
    by_cases hj:j<acc.length
    ·have e:=List.getElem?_eq_getElem hj
     obtain⟨k1,k2,k3,k4⟩:=g3 j _ e
     simp only[hj,if_true]
     rw[List.getD_eq_getElem?_getD,e]
     exact⟨k1,k4,k2,k3⟩
    ·simp only[hj,if_false]
     rw[List.getD_eq_getElem?_getD,List.getElem?_eq_none (by omega)]
     exact⟨rfl,rfl,rfl,rfl⟩
   show Option.map cv_RTokens (if _ then some (Sum.inr _)else none)=_
   rw[if_pos ⟨by unfold roomBound;omega,by unfold maxLen;omega,Nat.le_refl _⟩]
   show some _=some _
   have f1:(fun j=>if j<acc.length then k j else 0)=fun j=>(tokAt s acc j).k:=funext fun j=>(key j).1
   have f2:(fun j=>if j<acc.length then a j else((s.size:Nat):Int))=fun j=>(tokAt s acc j).a:=funext fun j=>(key j).2.1
   have f3:(fun j=>if j<acc.length then t j else(⟨#[]⟩:ByteArray))=fun j=>(tokAt s acc j).t:=funext fun j=>(key j).2.2.1
   have f4:(fun j=>if j<acc.length then v j else 0)=fun j=>(tokAt s acc j).n:=funext fun j=>(key j).2.2.2
   unfold tokV
   rw[←f1,←f2,←f3,←f4]
   rfl
end Go.Proofs.YtjfkkokeegpeiaaGreatDoor
/- The reference's parser, its small functions: where nothing is bad as the plain one, where something is bad nothing changes. -/
namespace Go.Proofs.YtjfkkokeegpeiaaGreatDoor
open Go Go.Am Go.Proofs.Lx
set_option maxRecDepth 100000
def rst(N:Nat)(T:Nat→Tkn)(p:Nat)(o b l:Int)(nv:Nat)(vs:Nat→ByteArray):g_rfail:=(((p:Nat):Int),o,b,l,N,fun j=>(T j).k,fun j=>(T j).a,fun j=>(T j).t,fun j=>(T j).n,nv,vs)
section
variable {N:Nat} {T:Nat→Tkn} {p:Nat} {o l:Int} {nv:Nat} {vs:Nat→ByteArray}
theorem rfail_ok(q:Nat)(e:Int)(hp:p<N):rfail q (e,rst N T p o 0 l nv vs)=some (rst N T p o e (T p).a nv vs):=by
 unfold rfail t_rfail
 refine(if_pos (show((0:Int)==0)=true from rfl)).trans ((if_pos (show(0:Int)≤((p:Nat):Int)∧((p:Nat):Int)< ((N:Nat):Int)by omega)).trans ?_)
 rfl
theorem rfail_bad(q:Nat)(e:Int){b:Int}(hb:b≠0):rfail q (e,rst N T p o b l nv vs)=some (rst N T p o b l nv vs):=by
 unfold rfail t_rfail
 refine(if_neg (fun h=>hb (beq_iff_eq.1 (show(b==0)=true from h)))).trans ?_
 rfl
theorem ris_ok(q:Nat)(s:ByteArray)(hp:p<N):ris q (s,rst N T p o 0 l nv vs)=some (decide ((T p).t=s),rst N T p o 0 l nv vs):=by
 unfold ris t_ris
 refine(if_pos (show((0:Int)==0)=true from rfl)).trans ((if_pos (show(0:Int)≤((p:Nat):Int)∧((p:Nat):Int)< ((N:Nat):Int)by omega)).trans ?_)
 refine congrArg some (Prod.ext ?_ rfl)
 rw[Bool.eq_iff_iff,decide_eq_true_iff]
 exact tl_eq
theorem ris_bad(q:Nat)(s:ByteArray){b:Int}(hb:b≠0):ris q (s,rst N T p o b l nv vs)=some (false,rst N T p o b l nv vs):=by
 unfold ris t_ris
 refine(if_neg (fun h=>hb (beq_iff_eq.1 (show(b==0)=true from h)))).trans ?_
 rfl
theorem rtake_yes(q:Nat)(s:ByteArray)(hp:p<N)(hN:N≤4001)(h:(T p).t=s):rtake q (s,rst N T p o 0 l nv vs)=some (true,rst N T (p+1) o 0 l nv vs):=by
 unfold rtake t_rtake
 rw[ris_ok q s hp,decide_eq_true h]
 dsimp only[Option.bind_some,Bool.not_true]
 rw[if_neg (by decide)]
 refine congrArg some (Prod.ext rfl (Prod.ext ?_ rfl))
 exact w_succ (by omega)
theorem rtake_no(q:Nat)(s:ByteArray)(hp:p<N)(h:(T p).t≠s):rtake q (s,rst N T p o 0 l nv vs)=some (false,rst N T p o 0 l nv vs):=by
 unfold rtake t_rtake
 rw[ris_ok q s hp,decide_eq_false h]
 rfl
theorem rtake_bad(q:Nat)(s:ByteArray){b:Int}(hb:b≠0):rtake q (s,rst N T p o b l nv vs)=some (false,rst N T p o b l nv vs):=by
 unfold rtake t_rtake
 rw[ris_bad q s hb]
 rfl
end
end Go.Proofs.YtjfkkokeegpeiaaGreatDoor
/- The reference's parser: must, opens. -/
namespace Go.Proofs.YtjfkkokeegpeiaaGreatDoor
open Go Go.Am Go.Proofs.Lx
set_option maxRecDepth 100000
section
variable {N:Nat} {T:Nat→Tkn} {p:Nat} {o l:Int} {nv:Nat} {vs:Nat→ByteArray}
theorem rmust_yes(q:Nat)(s:ByteArray)(hp:p<N)(hN:N≤4001)(h:(T p).t=s):rmust q (s,rst N T p o 0 l nv vs)=some (rst N T (p+1) o 0 l nv vs):=by
 unfold rmust t_rmust
 rw[rtake_yes q s hp hN h]
 rfl
theorem rmust_no(q:Nat)(s:ByteArray)(hp:p<N)(h:(T p).t≠s):rmust q (s,rst N T p o 0 l nv vs)=some (rst N T p o 11 (T p).a nv vs):=by
 unfold rmust t_rmust
 rw[rtake_no q s hp h]
 dsimp only[Option.bind_some,Bool.not_false]
 rw[if_pos (show(!false)=true from rfl),rfail_ok q 11 hp]
 rfl
theorem rmust_bad(q:Nat)(s:ByteArray){b:Int}(hb:b≠0):rmust q (s,rst N T p o b l nv vs)=some (rst N T p o b l nv vs):=by
 unfold rmust t_rmust
 rw[rtake_bad q s hb]
 dsimp only[Option.bind_some,Bool.not_false]
 rw[if_pos (show(!false)=true from rfl),rfail_bad q 11 hb]
 rfl
end
end Go.Proofs.YtjfkkokeegpeiaaGreatDoor
/- The reference's parser: opens. -/
namespace Go.Proofs.YtjfkkokeegpeiaaGreatDoor
open Go Go.Am Go.Proofs.Lx
set_option maxRecDepth 100000
section
variable {N:Nat} {T:Nat→Tkn} {p:Nat} {o l:Int} {nv:Nat} {vs:Nat→ByteArray}
theorem ropens_yes(q:Nat)(s:ByteArray)(hp:p<N)(hN:N≤4001)(h:(T p).t=s)(ho:o<12):ropens q (s,rst N T p o 0 l nv vs)=some (rst N T (p+1) (w (o+1)) 0 l nv vs):=by
 unfold ropens t_ropens
 rw[ris_ok q s hp,decide_eq_true h]
 dsimp only[Option.bind_some]
 refine(if_neg (show¬(!true)=true by decide)).trans ((if_neg (fun hh=>by have:=of_decide_eq_true hh;have h2:o≥12:=this;omega)).trans ?_)
 rw[rtake_yes q s hp hN h]
 rfl
theorem ropens_deep(q:Nat)(s:ByteArray)(hp:p<N)(h:(T p).t=s)(ho:12≤o):ropens q (s,rst N T p o 0 l nv vs)=some (rst N T p (w (o+1)) 2 (T p).a nv vs):=by
 unfold ropens t_ropens
 rw[ris_ok q s hp,decide_eq_true h]
 dsimp only[Option.bind_some]
 refine(if_neg (show¬(!true)=true by decide)).trans ((if_pos (decide_eq_true (show o≥12 from ho))).trans ?_)
 rw[rfail_ok q 2 hp]
 dsimp only[Option.bind_some]
 rw[rtake_bad q s (by decide)]
 rfl
end
end Go.Proofs.YtjfkkokeegpeiaaGreatDoor
/- The reference's parser: opens where something is bad. -/
namespace Go.Proofs.YtjfkkokeegpeiaaGreatDoor
open Go Go.Am Go.Proofs.Lx
set_option maxRecDepth 100000
section
variable {N:Nat} {T:Nat→Tkn} {p:Nat} {o l:Int} {nv:Nat} {vs:Nat→ByteArray}
theorem ropens_bad(q:Nat)(s:ByteArray){b:Int}(hb:b≠0):ropens q (s,rst N T p o b l nv vs)=some (rst N T p (w (o+1)) b l nv vs):=by
 unfold ropens t_ropens
 rw[ris_bad q s hb]
 dsimp only[Option.bind_some]
 refine(if_pos (show(!false)=true from rfl)).trans ?_
 rw[rfail_bad q 11 hb]
 dsimp only[Option.bind_some]
 by_cases ho:o≥12
 ·refine(if_pos (decide_eq_true ho)).trans ?_
  rw[rfail_bad q 2 hb]
  dsimp only[Option.bind_some]
  rw[rtake_bad q s hb]
  rfl
 ·refine(if_neg (fun hh=>ho (of_decide_eq_true hh))).trans ?_
  rw[rtake_bad q s hb]
  rfl
end
end Go.Proofs.YtjfkkokeegpeiaaGreatDoor
/- The reference's parser: opens where the sign is not there. -/
namespace Go.Proofs.YtjfkkokeegpeiaaGreatDoor
open Go Go.Am Go.Proofs.Lx
set_option maxRecDepth 100000
section
variable {N:Nat} {T:Nat→Tkn} {p:Nat} {o l:Int} {nv:Nat} {vs:Nat→ByteArray}
theorem ropens_no(q:Nat)(s:ByteArray)(hp:p<N)(h:(T p).t≠s):ropens q (s,rst N T p o 0 l nv vs)=some (rst N T p (w (o+1)) 11 (T p).a nv vs):=by
 unfold ropens t_ropens
 rw[ris_ok q s hp,decide_eq_false h]
 dsimp only[Option.bind_some]
 refine(if_pos (show(!false)=true from rfl)).trans ?_
 rw[rfail_ok q 11 hp]
 dsimp only[Option.bind_some]
 by_cases ho:o≥12
 ·refine(if_pos (decide_eq_true ho)).trans ?_
  rw[rfail_bad q 2 (by decide)]
  dsimp only[Option.bind_some]
  rw[rtake_bad q s (by decide)]
  rfl
 ·refine(if_neg (fun hh=>ho (of_decide_eq_true hh))).trans ?_
  rw[rtake_bad q s (by decide)]
  rfl
end
end Go.Proofs.YtjfkkokeegpeiaaGreatDoor
/- The reference's parser: where something is bad, number and name change nothing. -/
namespace Go.Proofs.YtjfkkokeegpeiaaGreatDoor
open Go Go.Am Go.Proofs.Lx
set_option maxRecDepth 100000
theorem rfail_bad'(q:Nat)(e:Int)(x:g_rfail)(hb:x.2.2.1≠0):rfail q (e,x)=some x:=by
 unfold rfail t_rfail
 exact if_neg (fun h=>hb (beq_iff_eq.1 h))
theorem rnumber_bad'(q:Nat)(lo hi:Int)(x:g_rfail)(hb:x.2.2.1≠0)(hp:(0:Int)≤x.1∧x.1< ((x.2.2.2.2.1:Nat):Int)):rnumber q (lo,hi,x)=some (0,x):=by
 unfold rnumber t_rnumber
 dsimp only
 rw[if_pos hp]
 simp only[rfail_bad' q _ x hb,Option.bind_some,bne_iff_ne,ne_eq,hb,not_false_eq_true,if_true,ite_self]
end Go.Proofs.YtjfkkokeegpeiaaGreatDoor
/- The reference's parser: number where nothing is bad. -/
namespace Go.Proofs.YtjfkkokeegpeiaaGreatDoor
open Go Go.Am Go.Proofs.Lx
set_option maxRecDepth 100000
section
variable {N:Nat} {T:Nat→Tkn} {p:Nat} {o l:Int} {nv:Nat} {vs:Nat→ByteArray}
theorem rst_bounds(b:Int)(hp:p<N):(0:Int)≤(rst N T p o b l nv vs).1∧(rst N T p o b l nv vs).1< (((rst N T p o b l nv vs).2.2.2.2.1:Nat):Int):=by
 show(0:Int)≤((p:Nat):Int)∧((p:Nat):Int)< ((N:Nat):Int)
 omega
theorem rnumber_kind(q:Nat)(lo hi:Int)(hp:p<N)(h:(T p).k≠2):rnumber q (lo,hi,rst N T p o 0 l nv vs)=some (0,rst N T p o 11 (T p).a nv vs):=by
 have hb:(rst N T p o 11 (T p).a nv vs).2.2.1≠0:=by show(11:Int)≠0;decide
 unfold rnumber t_rnumber
 dsimp only
 refine(if_pos (rst_bounds 0 hp)).trans ((if_pos (bne_iff_ne.2 (show(T p).k≠2 from h))).trans ?_)
 rw[rfail_ok q 11 hp]
 simp only[rfail_bad' q _ _ hb,Option.bind_some,bne_iff_ne,ne_eq,hb,not_false_eq_true,if_true,ite_self]
theorem rnumber_range(q:Nat)(lo hi:Int)(hp:p<N)(h:(T p).k=2)(hr:(T p).n<lo∨hi< (T p).n):rnumber q (lo,hi,rst N T p o 0 l nv vs)=some (0,rst N T p o 5 (T p).a nv vs):=by
 have hb:(rst N T p o 5 (T p).a nv vs).2.2.1≠0:=by show(5:Int)≠0;decide
 unfold rnumber t_rnumber
 dsimp only
 refine(if_pos (rst_bounds 0 hp)).trans ((if_neg (fun hh=>bne_iff_ne.1 hh (show(T p).k=2 from h))).trans ?_)
 rw[rfail_ok q 5 hp]
 by_cases h1:(T p).n<lo
 ·refine(if_pos (decide_eq_true (show(T p).n<lo from h1))).trans ?_
  simp only[Option.bind_some,bne_iff_ne,ne_eq,hb,not_false_eq_true,if_true,ite_self]
 ·refine(if_neg (fun hh=>h1 (of_decide_eq_true hh))).trans ((if_pos (decide_eq_true (show(T p).n>hi by omega))).trans ?_)
  simp only[Option.bind_some,bne_iff_ne,ne_eq,hb,not_false_eq_true,if_true,ite_self]
theorem rnumber_ok(q:Nat)(lo hi:Int)(hp:p<N)(hN:N≤4001)(h:(T p).k=2)(hr:¬((T p).n<lo∨hi< (T p).n)):rnumber q (lo,hi,rst N T p o 0 l nv vs)=some ((T p).n,rst N T (p+1) o 0 l nv vs):=by
 unfold rnumber t_rnumber
 dsimp only
 refine(if_pos (rst_bounds 0 hp)).trans ((if_neg (fun hh=>bne_iff_ne.1 hh (show(T p).k=2 from h))).trans ?_)
 refine(if_neg (fun hh=>hr (.inl (of_decide_eq_true hh)))).trans ((if_neg (fun hh=>hr (.inr (of_decide_eq_true hh)))).trans ?_)
 refine(if_neg (show¬((0:Int)!=0)=true by decide)).trans ?_
 refine congrArg some (Prod.ext rfl (Prod.ext ?_ rfl))
 exact w_succ (by omega)
end
end Go.Proofs.YtjfkkokeegpeiaaGreatDoor
/- The reference's parser: reserved words, units, names said. -/
namespace Go.Proofs.YtjfkkokeegpeiaaGreatDoor
open Go Go.Am Go.Proofs.Lx
set_option maxRecDepth 100000
theorem RReserved_rs(q:Nat)(t:ByteArray):Rs (RReserved q t) (fun z=>z=Lx.resP t):=by
 have pos_kw:∀{k:ByteArray},t=k→(h:inP keywords k=true:=by decide)→true=Lx.resP t:=by
  intro k e h
  rw[e];exact h.symm
 unfold RReserved t_RReserved
 refine Rs.ite (fun h=>Rs.some (pos_kw (tl_eq.1 h))) fun c1=>?_
 refine Rs.ite (fun h=>Rs.some (pos_kw (tl_eq.1 h))) fun c2=>?_
 refine Rs.ite (fun h=>Rs.some (pos_kw (tl_eq.1 h))) fun c3=>?_
 refine Rs.ite (fun h=>Rs.some (pos_kw (tl_eq.1 h))) fun c4=>?_
 refine Rs.ite (fun h=>Rs.some (pos_kw (tl_eq.1 h))) fun c5=>?_
 refine Rs.ite (fun h=>Rs.some (pos_kw (tl_eq.1 h))) fun c6=>?_
 refine Rs.ite (fun h=>Rs.some (pos_kw (tl_eq.1 h))) fun c7=>?_
 refine Rs.ite (fun h=>Rs.some (pos_kw (tl_eq.1 h))) fun c8=>?_
 refine Rs.ite (fun h=>Rs.some (pos_kw (tl_eq.1 h))) fun c9=>?_
 refine Rs.ite (fun h=>Rs.some (pos_kw (tl_eq.1 h))) fun c10=>?_
 refine Rs.ite (fun h=>Rs.some (pos_kw (tl_eq.1 h))) fun c11=>?_
 refine Rs.ite (fun h=>Rs.some (pos_kw (tl_eq.1 h))) fun c12=>?_
 refine Rs.ite (fun h=>Rs.some (pos_kw (tl_eq.1 h))) fun c13=>?_
 refine Rs.ite (fun h=>Rs.some (pos_kw (tl_eq.1 h))) fun c14=>?_
 refine Rs.ite (fun h=>Rs.some (pos_kw (tl_eq.1 h))) fun c15=>?_
 refine Rs.ite (fun h=>Rs.some (pos_kw (tl_eq.1 h))) fun c16=>?_
 refine Rs.ite (fun h=>Rs.some (pos_kw (tl_eq.1 h))) fun c17=>?_
 refine Rs.ite (fun h=>Rs.some (pos_kw (tl_eq.1 h))) fun c18=>?_
 refine Rs.ite (fun h=>Rs.some (pos_kw (tl_eq.1 h))) fun c19=>?_
 refine Rs.some ?_
 show false=Lx.resP t
 symm
 rw[Bool.eq_false_iff,Ne,Lx.resP,inP_iff]
 intro hm
 simp only[keywords,List.mem_cons,List.not_mem_nil,or_false]at hm
 rcases hm with h|h|h|h|h|h|h|h|h|h|h|h|h|h|h|h|h|h|h<;>first|exact c1 (tl_eq.2 h) |exact c2 (tl_eq.2 h) |exact c3 (tl_eq.2 h) |exact c4 (tl_eq.2 h) |exact c5 (tl_eq.2 h) |exact c6 (tl_eq.2 h) |exact c7 (tl_eq.2 h) |exact c8 (tl_eq.2 h) |exact c9 (tl_eq.2 h) |exact c10 (tl_eq.2 h) |exact c11 (tl_eq.2 h) |exact c12 (tl_eq.2 h) |exact c13 (tl_eq.2 h) |exact c14 (tl_eq.2 h) |exact c15 (tl_eq.2 h) |exact c16 (tl_eq.2 h) |exact c17 (tl_eq.2 h) |exact c18 (tl_eq.2 h) |exact c19 (tl_eq.2 h)
theorem RReserved_eq(q:Nat)(t:ByteArray):RReserved q t=some (Lx.resP t):=by
 obtain⟨z,h,e⟩:=RReserved_rs q t
 rw[h,e]
theorem amongZ_eq(q:Nat)(t:ByteArray):amongZ (q+1) t=some false:=rfl
end Go.Proofs.YtjfkkokeegpeiaaGreatDoor
/- The reference's parser against the plain one: states, answers, how they are joined. -/
namespace Go.Proofs.YtjfkkokeegpeiaaGreatDoor
open Go Go.Am Go.Proofs.Lx
set_option maxRecDepth 100000
def XG(N:Nat)(T:Nat→Tkn)(s:PS)(x:g_rfail):Prop:=∃l v,x=rst N T s.p ((s.o:Nat):Int) 0 l s.vs.length v∧Ag v s.vs∧s.p<N∧s.o≤12∧s.vs.length≤12
def XB(N:Nat)(T:Nat→Tkn)(p:Nat)(c:Int)(x:g_rfail):Prop:=c≠0∧∃p' o nv v,x=rst N T p' o c (T p).a nv v∧p'<N
def PV{ζ α:Type}(N:Nat)(T:Nat→Tkn)(pj:ζ→g_rfail)(R:α→ζ→Prop)(r:PR α)(z:ζ):Prop:=match r with
 | .ok a s=>R a z∧XG N T s (pj z)
 | .err p c=>p<N∧XB N T p c (pj z)
 | .out=>False
section
variable {N:Nat} {T:Nat→Tkn}
theorem PV.seq{ζ ξ α β:Type}{pj:ζ→g_rfail}{R:α→ζ→Prop}{pk:ξ→g_rfail}{S:β→ξ→Prop}{o:Option ζ}{k:ζ→Option ξ}{r:PR α}{f:α→PS→PR β}(h:Rs o (PV N T pj R r))
 (hok:∀a s z,r= .ok a s→R a z→XG N T s (pj z)→Rs (k z) (PV N T pk S (f a s)))
 (hbad:∀p c z,XB N T p c (pj z)→Rs (k z) (fun y=>XB N T p c (pk y))):Rs (o.bind k) (PV N T pk S (r.bind f)):=by
 obtain⟨z,rfl,hz⟩:=h
 cases r with
 |ok a s=>exact hok a s z rfl hz.1 hz.2
 |err p c=>
  obtain⟨y,h1,h2⟩:=hbad p c z hz.2
  exact⟨y,h1,hz.1,h2⟩
 |out=>exact hz.elim
theorem PV.last{ζ ξ α:Type}{pj:ζ→g_rfail}{R:α→ζ→Prop}{pk:ξ→g_rfail}{S:α→ξ→Prop}{o:Option ζ}{k:ζ→Option ξ}{r:PR α}(h:Rs o (PV N T pj R r))
 (hok:∀a s z,r= .ok a s→R a z→XG N T s (pj z)→Rs (k z) (fun y=>S a y∧XG N T s (pk y)))
 (hbad:∀p c z,XB N T p c (pj z)→Rs (k z) (fun y=>XB N T p c (pk y))):Rs (o.bind k) (PV N T pk S r):=by
 obtain⟨z,rfl,hz⟩:=h
 cases r with
 |ok a s=>exact hok a s z rfl hz.1 hz.2
 |err p c=>
  obtain⟨y,h1,h2⟩:=hbad p c z hz.2
  exact⟨y,h1,hz.1,h2⟩
 |out=>exact hz.elim
variable {s:PS} {x:g_rfail} {p:Nat} {c:Int}
theorem XB.bad(h:XB N T p c x):x.2.2.1≠0:=by
 obtain⟨h1,p',o,nv,v,rfl,_⟩:=h
 exact h1
theorem XB.bounds(h:XB N T p c x):(0:Int)≤x.1∧x.1< ((x.2.2.2.2.1:Nat):Int):=by
 obtain⟨h1,p',o,nv,v,rfl,hp⟩:=h
 exact rst_bounds c hp
theorem XG.bounds(h:XG N T s x):(0:Int)≤x.1∧x.1< ((x.2.2.2.2.1:Nat):Int):=by
 obtain⟨l,v,rfl,_,hp,_⟩:=h
 exact rst_bounds 0 hp
theorem XG.good(h:XG N T s x):x.2.2.1=0:=by
 obtain⟨l,v,rfl,_⟩:=h
 rfl
theorem XB.opn(h:XB N T p c x)(o:Int):XB N T p c (x.1,o,x.2.2):=by
 obtain⟨h1,p',o',nv,v,rfl,hp⟩:=h
 exact⟨h1,p',o,nv,v,rfl,hp⟩
theorem XG.adv(hT:TokN N T)(h:XG N T s x)(hk:(T s.p).t≠⟨#[]⟩∨(T s.p).k≠0):XG N T (adv s) (w (x.1+1),x.2):=by
 obtain⟨l,v,rfl,h1,h2,h3,h4⟩:=h
 refine⟨l,v,?_,h1,hT.lt h2 hk,h3,h4⟩
 have:=hT.big
 exact Prod.ext (w_succ (by omega)) rfl
theorem XG.close(h:XG N T s x)(ho:1≤s.o):XG N T (closeP s) (x.1,w (x.2.1-1),x.2.2):=by
 obtain⟨l,v,rfl,h1,h2,h3,h4⟩:=h
 refine⟨l,v,?_,h1,h2,(by show s.o-1≤12;omega),h4⟩
 refine Prod.ext rfl (Prod.ext ?_ rfl)
 show w (((s.o:Nat):Int)-1)=((s.o-1:Nat):Int)
 rw[w_in (by omega) (by omega)]
 omega
theorem XG.says(h:XG N T s x){c:Int}(hc:c≠0)(q:Nat):Rs (rfail q (c,x)) (XB N T s.p c):=by
 obtain⟨l,v,rfl,h1,h2,h3,h4⟩:=h
 exact⟨_,rfail_ok q c h2,hc,s.p,_,_,v,rfl,h2⟩
theorem XB.says(h:XB N T p c x)(q:Nat)(e:Int):Rs (rfail q (e,x)) (XB N T p c):=⟨x,rfail_bad' q e x h.bad,h⟩
theorem ris_rq(q:Nat)(h:XG N T s x)(b:ByteArray):ris q (b,x)=some (isP T b s,x):=by
 obtain⟨l,v,rfl,h1,h2,h3,h4⟩:=h
 exact ris_ok q b h2
theorem rtake_rq(hT:TokN N T)(q:Nat)(h:XG N T s x)(b:ByteArray):rtake q (b,x)=some (isP T b s,if isP T b s=true then(w (x.1+1),x.2)else x):=by
 obtain⟨l,v,rfl,h1,h2,h3,h4⟩:=h
 have:=hT.big
 by_cases hb:(T s.p).t=b
 ·have e:isP T b s=true:=decide_eq_true hb
  rw[rtake_yes q b h2 (by omega) hb,e,if_pos rfl]
  exact congrArg some (Prod.ext rfl (Prod.ext (w_succ (by omega)).symm rfl))
 ·have e:isP T b s=false:=decide_eq_false hb
  rw[rtake_no q b h2 hb,e]
  rfl
theorem rtake_bq(q:Nat)(h:XB N T p c x)(b:ByteArray):rtake q (b,x)=some (false,x):=by
 obtain⟨h1,p',o,nv,v,rfl,hp⟩:=h
 exact rtake_bad q b h1
theorem rmust_rs(hT:TokN N T)(q:Nat)(h:XG N T s x)(b:ByteArray)(hb:b≠⟨#[]⟩):Rs (rmust q (b,x)) (PV N T id (fun _ _=>True) (mustP T b s)):=by
 obtain⟨l,v,rfl,h1,h2,h3,h4⟩:=h
 have:=hT.big
 unfold mustP
 by_cases e:(T s.p).t=b
 ·rw[if_pos (show isP T b s=true from decide_eq_true e)]
  refine⟨_,rmust_yes q b h2 (by omega) e,trivial,l,v,rfl,h1,hT.lt h2 (.inl (by rw[e];exact hb)),h3,h4⟩
 ·rw[if_neg (show¬isP T b s=true from fun hh=>e (of_decide_eq_true hh))]
  exact⟨_,rmust_no q b h2 e,h2,by decide,s.p,_,_,v,rfl,h2⟩
theorem rmust_bq(q:Nat)(h:XB N T p c x)(b:ByteArray):Rs (rmust q (b,x)) (XB N T p c):=by
 obtain⟨h1,p',o,nv,v,rfl,hp⟩:=h
 exact⟨_,rmust_bad q b h1,h1,p',o,nv,v,rfl,hp⟩
end
end Go.Proofs.YtjfkkokeegpeiaaGreatDoor
/- The reference's parser against the plain one: opens, number, lists of names, units. -/
namespace Go.Proofs.YtjfkkokeegpeiaaGreatDoor
open Go Go.Am Go.Proofs.Lx
set_option maxRecDepth 100000
section
variable {N:Nat} {T:Nat→Tkn} {s:PS} {x:g_rfail} {p:Nat} {c:Int}
theorem PV.err{ξ β:Type}{pk:ξ→g_rfail}{S:β→ξ→Prop}{o:Option ξ}(hp:p<N)(h:Rs o (fun y=>XB N T p c (pk y))):Rs o (PV N T pk S (.err p c)):=Rs.mono h fun _ hz=>⟨hp,hz⟩
theorem PV.ok{ξ β:Type}{pk:ξ→g_rfail}{S:β→ξ→Prop}{a:β}{y:ξ}(h:S a y)(g:XG N T s (pk y)):Rs (some y) (PV N T pk S (.ok a s)):=⟨y,rfl,h,g⟩
theorem XG.lt(h:XG N T s x):s.p<N:=by obtain⟨l,v,rfl,h1,h2,h3,h4⟩:=h;exact h2
theorem XG.kind(h:XG N T s x):x.2.2.2.2.2.1 (Int.toNat x.1)=(T s.p).k:=by obtain⟨l,v,rfl,h1,h2,h3,h4⟩:=h;rfl
theorem XG.at_(h:XG N T s x):x.2.2.2.2.2.2.1 (Int.toNat x.1)=(T s.p).a:=by obtain⟨l,v,rfl,h1,h2,h3,h4⟩:=h;rfl
theorem XG.text(h:XG N T s x):x.2.2.2.2.2.2.2.1 (Int.toNat x.1)=(T s.p).t:=by obtain⟨l,v,rfl,h1,h2,h3,h4⟩:=h;rfl
theorem XG.num(h:XG N T s x):x.2.2.2.2.2.2.2.2.1 (Int.toNat x.1)=(T s.p).n:=by obtain⟨l,v,rfl,h1,h2,h3,h4⟩:=h;rfl
theorem ropens_rs(hT:TokN N T)(q:Nat)(h:XG N T s x)(b:ByteArray)(hb:b≠⟨#[]⟩):Rs (ropens q (b,x)) (PV N T id (fun _ _=>True) (opensP T b s)):=by
 obtain⟨l,v,rfl,h1,h2,h3,h4⟩:=h
 have:=hT.big
 unfold opensP
 by_cases e:(T s.p).t=b
 ·rw[if_pos (show isP T b s=true from decide_eq_true e)]
  by_cases ho:s.o=12
  ·rw[if_pos ho]
   exact⟨_,ropens_deep q b h2 e (by omega),h2,by decide,s.p,_,_,v,rfl,h2⟩
  ·rw[if_neg ho]
   refine⟨_,ropens_yes q b h2 (by omega) e (by omega),trivial,l,v,?_,h1,hT.lt h2 (.inl (by rw[e];exact hb)),(by show s.o+1≤12;omega),h4⟩
   show rst N T (s.p+1) (w (((s.o:Nat):Int)+1)) 0 l s.vs.length v=_
   rw[w_succ (by omega)]
 ·rw[if_neg (show¬isP T b s=true from fun hh=>e (of_decide_eq_true hh))]
  exact⟨_,ropens_no q b h2 e,h2,by decide,s.p,_,_,v,rfl,h2⟩
theorem ropens_bq(q:Nat)(h:XB N T p c x)(b:ByteArray):Rs (ropens q (b,x)) (XB N T p c):=by
 obtain⟨h1,p',o,nv,v,rfl,hp⟩:=h
 exact⟨_,ropens_bad q b h1,h1,p',_,nv,v,rfl,hp⟩
theorem rnumber_rs(hT:TokN N T)(q:Nat)(h:XG N T s x)(lo hi:Int):Rs (rnumber q (lo,hi,x)) (PV N T (fun z=>z.2) (fun a z=>z.1=a) (numP T lo hi s)):=by
 obtain⟨l,v,rfl,h1,h2,h3,h4⟩:=h
 have:=hT.big
 unfold numP
 by_cases e:(T s.p).k≠2
 ·rw[if_pos e]
  exact⟨_,rnumber_kind q lo hi h2 e,h2,by decide,s.p,_,_,v,rfl,h2⟩
 ·rw[if_neg e]
  by_cases hr:(T s.p).n<lo∨hi< (T s.p).n
  ·rw[if_pos hr]
   exact⟨_,rnumber_range q lo hi h2 (by omega) hr,h2,by decide,s.p,_,_,v,rfl,h2⟩
  ·rw[if_neg hr]
   exact⟨_,rnumber_ok q lo hi h2 (by omega) (by omega) hr,rfl,l,v,rfl,h1,hT.lt h2 (.inr (by omega)),h3,h4⟩
theorem rnumber_bq(q:Nat)(h:XB N T p c x)(lo hi:Int):Rs (rnumber q (lo,hi,x)) (fun z=>XB N T p c z.2):=⟨_,rnumber_bad' q lo hi x h.bad h.bounds,h⟩
end
theorem inP_cons(a:ByteArray)(l:List ByteArray)(t:ByteArray):inP (a::l) t=(decide (a=t)||inP l t):=rfl
theorem among_loop{l:List ByteArray}{f:Nat→ByteArray}{t:ByteArray}(hf:Ag f l)(hb:l.length≤4000000000):∀(k i:Nat),i+k=l.length→∀m,k<m→Rs (among_l0 m (l.length,f,t) ((i:Nat):Int)) (fun z=>z=if inP (l.drop i) t=true then .inl ()else .inr ()):=by
 intro k
 induction k with
 |zero=>
  intro i hi m hm
  obtain⟨m,rfl⟩:∃k,m=k+1:=⟨m-1,by omega⟩
  unfold among_l0
  refine Rs.step3 fun Q hQ=>?_
  unfold among_l0_t
  refine Rs.neg (fun h=>?_) (Rs.some ?_)
  ·have h2:((i:Nat):Int)< ((l.length:Nat):Int):=of_decide_eq_true h
   omega
  ·rw[List.drop_of_length_le (by omega)]
   rfl
 |succ k ih=>
  intro i hi m hm
  obtain⟨m,rfl⟩:∃k,m=k+1:=⟨m-1,by omega⟩
  have hl:i<l.length:=by omega
  have hc:inP (l.drop i) t=(decide (l[i]=t)||inP (l.drop (i+1)) t):=by rw[List.drop_eq_getElem_cons hl,inP_cons]
  have hfi:f i=l[i]:=hf i _ (List.getElem?_eq_getElem hl)
  rw[hc]
  unfold among_l0
  refine Rs.step3 fun Q hQ=>?_
  unfold among_l0_t
  have b1:((i:Nat):Int)< ((l.length:Nat):Int):=by omega
  have b2:(0:Int)≤((i:Nat):Int):=by omega
  refine Rs.pos (decide_eq_true b1) (Rs.pos ⟨b2,b1⟩ ?_)
  refine Rs.ite (fun h=>Rs.some ?_) (fun h=>Rs.some ?_)
  ·have e:l[i]=t:=by rw[←hfi];exact tl_eq.1 h
   show Sum.inl ()=_
   rw[decide_eq_true e]
   rfl
  ·have e:¬l[i]=t:=fun e=>h (tl_eq.2 (show f i=t by rw[hfi];exact e))
   refine hQ _ ?_
   rw[decide_eq_false e,Bool.false_or]
   rw[w_succ (by omega)]
   exact ih (i+1) (by omega) m (by omega)
theorem among_eq{l:List ByteArray}{f:Nat→ByteArray}(hf:Ag f l)(hb:l.length≤4000000000)(t:ByteArray)(q:Nat)(hq:l.length<q):among q (l.length,f,t)=some (inP l t):=by
 obtain⟨z,h,e⟩:=among_loop (t:=t) hf hb l.length 0 (by omega) q hq
 unfold among t_among
 rw[show among_l0 q (l.length,f,t) (0:Int)=some z from h,e,List.drop_zero]
 by_cases hi:inP l t=true
 ·rw[if_pos hi,hi]
  rfl
 ·rw[if_neg hi,Bool.eq_false_iff.2 hi]
  rfl
theorem RLook_rs(q:Nat)(t:ByteArray):Rs (RLook q t) (fun z=>z.2.2.2.2.2.2=unitP t):=by
 unfold RLook t_RLook
 repeat' refine Rs.ite (fun h=>?_) (fun h=>?_)
 all_goals refine Rs.some ?_
 all_goals simp only[tl_eq]at*
 all_goals first
  | (subst_vars;decide)
  | (show false=unitP t;symm;rw[Bool.eq_false_iff,Ne,unitP,inP_iff];simp only[unitsL,List.mem_cons,List.not_mem_nil,or_false,not_or];refine⟨?_,?_,?_,?_,?_,?_,?_,?_,?_,?_,?_,?_,?_⟩<;>(intro e;subst e;contradiction))
theorem known_eq(q:Nat)(k a:Int)(t:ByteArray)(n:Int):known q (k,a,t,n)=some (decide (k=1)&&unitP t):=by
 obtain⟨z,h,e⟩:=RLook_rs q t
 unfold known t_known
 dsimp only
 rw[h]
 dsimp only[Option.bind_some]
 by_cases hk:k=1
 ·rw[if_pos (show(k==(1:Int))=true from beq_iff_eq.2 hk),e,decide_eq_true hk,Bool.true_and]
 ·rw[if_neg (show¬(k==(1:Int))=true from fun hh=>hk (beq_iff_eq.1 hh)),decide_eq_false hk,Bool.false_and]
end Go.Proofs.YtjfkkokeegpeiaaGreatDoor
/- The reference's parser against the plain one: names. -/
namespace Go.Proofs.YtjfkkokeegpeiaaGreatDoor
open Go Go.Am Go.Proofs.Lx
set_option maxRecDepth 100000
section
variable {N:Nat} {T:Nat→Tkn} {s:PS} {x:g_rfail} {p:Nat} {c:Int}
theorem rnameZ_rs(hT:TokN N T)(q:Nat)(h:XG N T s x):Rs (rnameZ (q+1) (1,x)) (PV N T (fun z=>z.2) (fun a z=>z.1=a) (nameP T s)):=by
 unfold rnameZ t_rnameZ nameP
 dsimp only
 rw[if_pos h.bounds,h.kind,h.text]
 by_cases hk:(T s.p).k=1
 ·refine Rs.neg (fun hh=>bne_iff_ne.1 hh hk) ?_
  rw[RReserved_eq]
  dsimp only[Option.bind_some]
  by_cases hr:Lx.resP (T s.p).t=true
  ·rw[if_pos (show _∨_ from .inr hr),if_pos hr]
   refine PV.err h.lt (Rs.bind (h.says (by decide) _) fun z hz=>?_)
   rw[amongZ_eq]
   simp only[rfail_bad' _ _ _ hz.bad,Option.bind_some,bne_iff_ne,ne_eq,hz.bad,not_false_eq_true,if_true,ite_self,if_false,Bool.false_eq_true]
   exact Rs.some hz
  ·rw[if_neg (show¬(_∨_)from fun hh=>hh.elim (fun e=>e hk) hr),if_neg hr,amongZ_eq]
   dsimp only[Option.bind_some]
   refine Rs.neg (by decide) (Rs.neg (fun hh=>absurd (show(0:Int)≥1 from of_decide_eq_true hh) (by decide)) (Rs.neg (fun hh=>bne_iff_ne.1 hh h.good) ?_))
   exact PV.ok rfl (h.adv hT (.inr (by rw[hk];decide)))
 ·rw[if_pos (show _∨_ from .inl hk)]
  refine Rs.pos (bne_iff_ne.2 hk) (PV.err h.lt (Rs.bind (h.says (by decide) _) fun z hz=>?_))
  rw[amongZ_eq]
  simp only[rfail_bad' _ _ _ hz.bad,Option.bind_some,bne_iff_ne,ne_eq,hz.bad,not_false_eq_true,if_true,ite_self,if_false,Bool.false_eq_true]
  exact Rs.some hz
theorem rnameZ_bq(q:Nat)(h:XB N T p c x)(m:Int):Rs (rnameZ (q+1) (m,x)) (fun z=>XB N T p c z.2):=by
 unfold rnameZ t_rnameZ
 dsimp only
 rw[if_pos h.bounds,RReserved_eq,amongZ_eq]
 simp only[rfail_bad' _ _ _ h.bad,Option.bind_some,bne_iff_ne,ne_eq,h.bad,not_false_eq_true,if_true,ite_self,if_false,Bool.false_eq_true]
 exact Rs.some h
end
end Go.Proofs.YtjfkkokeegpeiaaGreatDoor
/- The reference's parser against the plain one: names that are not in a list. -/
namespace Go.Proofs.Lx
def newP(T:Nat→Tkn)(l:List ByteArray)(s:PS):PR ByteArray:=(nameP T s).bind fun x s'=>if inP l x=true then .err s.p 4 else .ok x s'
def freshP(T:Nat→Tkn)(s:PS):PR ByteArray:=(nameP T s).bind fun x s'=>if inP s.vs x=true then .err s.p 4 else if s.vs.length=12 then .err s.p 2 else .ok x s'
theorem nameP_vs{T:Nat→Tkn}{s s':PS}{a:ByteArray}(h:nameP T s= .ok a s'):s'.vs=s.vs∧s'.o=s.o:=by
 unfold nameP at h
 split at h
 ·cases h
 ·injection h with h1 h2
  rw[←h2]
  exact⟨rfl,rfl⟩
theorem declP_eq(T:Nat→Tkn)(s:PS):declP T s=(freshP T s).bind fun x s'=>.ok x {s' with vs:=s'.vs++[x]}:=by
 unfold declP freshP
 cases h:nameP T s with
 |ok a s'=>
  dsimp only[PR.bind]
  by_cases h1:inP s.vs a=true
  ·rw[if_pos h1,if_pos h1]
  ·rw[if_neg h1,if_neg h1]
   by_cases h2:s.vs.length=12
   ·rw[if_pos h2,if_pos h2]
   ·rw[if_neg h2,if_neg h2]
    show PR.ok a _=PR.ok a {s' with vs:=s'.vs++[a]}
    rw[(nameP_vs h).1]
 |err p c=>rfl
 |out=>rfl
end Go.Proofs.Lx
namespace Go.Proofs.YtjfkkokeegpeiaaGreatDoor
open Go Go.Am Go.Proofs.Lx
set_option maxRecDepth 100000
section
variable {N:Nat} {T:Nat→Tkn} {s:PS} {x:g_rfail} {p:Nat} {c:Int}
theorem XG.says'(h:XG N T s x){c:Int}(hc:c≠0)(q:Nat):Rs (rfail q (c,x)) (fun z=>XB N T s.p c z∧z.2.2.2.2.2.2.2.2.2.1=x.2.2.2.2.2.2.2.2.2.1∧z.2.2.2.2.2.2.2.2.2.2=x.2.2.2.2.2.2.2.2.2.2):=by
 obtain⟨l,v,rfl,h1,h2,h3,h4⟩:=h
 exact⟨_,rfail_ok q c h2,⟨hc,s.p,_,_,v,rfl,h2⟩,rfl,rfl⟩
theorem XG.names(h:XG N T s x):x.2.2.2.2.2.2.2.2.2.1=s.vs.length∧Ag (fun j=>x.2.2.2.2.2.2.2.2.2.2 (0+j)) s.vs∧s.vs.length≤12:=by
 obtain⟨l,v,rfl,h1,h2,h3,h4⟩:=h
 exact⟨rfl,fun j b hb=>(congrArg v (Nat.zero_add j)).trans (h1 j b hb),h4⟩
theorem PV.err2{ξ β:Type}{pk:ξ→g_rfail}{S:β→ξ→Prop}{D:ξ→Prop}{o:Option ξ}(hp:p<N)(h:Rs o (fun y=>XB N T p c (pk y)∧D y)):Rs o (fun y=>PV N T pk S (.err p c) y∧D y):=Rs.mono h fun _ hz=>⟨⟨hp,hz.1⟩,hz.2⟩
theorem rnameV_rs(hT:TokN N T)(q:Nat)(hq:12<q)(h:XG N T s x):Rs (rnameV q (12,x)) (fun z=>PV N T (fun z=>z.2) (fun a z=>z.1=a) (freshP T s) z∧z.2.2.2.2.2.2.2.2.2.2.1=s.vs.length):=by
 obtain⟨n1,n2,n3⟩:=h.names
 have ha:=fun t=>among_eq n2 (by omega) t q (by omega)
 unfold rnameV t_rnameV freshP nameP
 dsimp only
 rw[if_pos h.bounds,h.kind,h.text,n1]
 by_cases hk:(T s.p).k=1
 ·refine Rs.neg (fun hh=>bne_iff_ne.1 hh hk) ?_
  rw[RReserved_eq]
  dsimp only[Option.bind_some]
  by_cases hr:Lx.resP (T s.p).t=true
  ·rw[if_pos (show _∨_ from .inr hr),if_pos hr]
   refine PV.err2 h.lt (Rs.bind (h.says' (by decide) _) fun z hz=>?_)
   obtain⟨hz,e1,e2⟩:=hz
   rw[e1,e2,n1,ha]
   refine Rs.pos ⟨by omega,rfl⟩ ?_
   simp only[rfail_bad' _ _ _ hz.bad,Option.bind_some,bne_iff_ne,ne_eq,hz.bad,not_false_eq_true,if_true,ite_self,if_false,Bool.false_eq_true]
   exact Rs.some ⟨hz,e1.trans n1⟩
  ·rw[if_neg (show¬(_∨_)from fun hh=>hh.elim (fun e=>e hk) hr),if_neg hr,ha]
   dsimp only[Option.bind_some,PR.bind]
   refine Rs.pos ⟨by omega,rfl⟩ ?_
   by_cases hi:inP s.vs (T s.p).t=true
   ·rw[if_pos hi,if_pos hi]
    refine PV.err2 h.lt (Rs.bind (h.says' (by decide) _) fun z hz=>?_)
    obtain⟨hz,e1,e2⟩:=hz
    simp only[rfail_bad' _ _ _ hz.bad,Option.bind_some,bne_iff_ne,ne_eq,hz.bad,not_false_eq_true,if_true,ite_self,if_false,Bool.false_eq_true]
    exact Rs.some ⟨hz,e1.trans n1⟩
   ·rw[if_neg hi,if_neg hi]
    by_cases hl:s.vs.length=12
    ·rw[if_pos hl]
     refine Rs.pos (decide_eq_true (show((s.vs.length:Nat):Int)≥12 by omega)) (PV.err2 h.lt (Rs.bind (h.says' (by decide) _) fun z hz=>?_))
     obtain⟨hz,e1,e2⟩:=hz
     simp only[rfail_bad' _ _ _ hz.bad,Option.bind_some,bne_iff_ne,ne_eq,hz.bad,not_false_eq_true,if_true,ite_self,if_false,Bool.false_eq_true]
     exact Rs.some ⟨hz,e1.trans n1⟩
    ·rw[if_neg hl]
     refine Rs.neg (fun hh=>by have:((s.vs.length:Nat):Int)≥12:=of_decide_eq_true hh;omega) (Rs.neg (fun hh=>bne_iff_ne.1 hh h.good) ?_)
     exact Rs.some ⟨⟨rfl,h.adv hT (.inr (by rw[hk];decide))⟩,n1⟩
 ·rw[if_pos (show _∨_ from .inl hk)]
  refine Rs.pos (bne_iff_ne.2 hk) (PV.err2 h.lt (Rs.bind (h.says' (by decide) _) fun z hz=>?_))
  obtain⟨hz,e1,e2⟩:=hz
  rw[e1,e2,n1,ha]
  refine Rs.pos ⟨by omega,rfl⟩ ?_
  simp only[rfail_bad' _ _ _ hz.bad,Option.bind_some,bne_iff_ne,ne_eq,hz.bad,not_false_eq_true,if_true,ite_self,if_false,Bool.false_eq_true]
  exact Rs.some ⟨hz,e1.trans n1⟩
theorem rnameN_rs(hT:TokN N T)(q:Nat){l:List ByteArray}{f:Nat→ByteArray}(hf:Ag f l)(hb:l.length≤4000000000)(hq:l.length<q)(h:XG N T s x):Rs (rnameN q (((l.length:Nat):Int)+1,l.length,f,x)) (fun z=>PV N T (fun z=>z.2.2.2) (fun a z=>z.1=a∧z.2.2.1=f) (newP T l s) z∧z.2.1=l.length):=by
 have ha:=fun t=>among_eq (f:=fun j=>f (0+j)) (fun j b hj=>(congrArg f (Nat.zero_add j)).trans (hf j b hj)) hb t q hq
 unfold rnameN t_rnameN newP nameP
 dsimp only
 rw[if_pos h.bounds,h.kind,h.text]
 by_cases hk:(T s.p).k=1
 ·refine Rs.neg (fun hh=>bne_iff_ne.1 hh hk) ?_
  rw[RReserved_eq]
  dsimp only[Option.bind_some]
  by_cases hr:Lx.resP (T s.p).t=true
  ·rw[if_pos (show _∨_ from .inr hr),if_pos hr]
   refine PV.err2 h.lt (Rs.bind (h.says (by decide) _) fun z hz=>?_)
   rw[ha]
   refine Rs.pos ⟨by omega,rfl⟩ ?_
   simp only[rfail_bad' _ _ _ hz.bad,Option.bind_some,bne_iff_ne,ne_eq,hz.bad,not_false_eq_true,if_true,ite_self,if_false,Bool.false_eq_true]
   exact Rs.some ⟨hz,rfl⟩
  ·rw[if_neg (show¬(_∨_)from fun hh=>hh.elim (fun e=>e hk) hr),if_neg hr,ha]
   dsimp only[Option.bind_some,PR.bind]
   refine Rs.pos ⟨by omega,rfl⟩ ?_
   by_cases hi:inP l (T s.p).t=true
   ·rw[if_pos hi,if_pos hi]
    refine PV.err2 h.lt (Rs.bind (h.says (by decide) _) fun z hz=>?_)
    simp only[rfail_bad' _ _ _ hz.bad,Option.bind_some,bne_iff_ne,ne_eq,hz.bad,not_false_eq_true,if_true,ite_self,if_false,Bool.false_eq_true]
    exact Rs.some ⟨hz,rfl⟩
   ·rw[if_neg hi,if_neg hi]
    refine Rs.neg (fun hh=>by have:((l.length:Nat):Int)≥((l.length:Nat):Int)+1:=of_decide_eq_true hh;omega) (Rs.neg (fun hh=>bne_iff_ne.1 hh h.good) ?_)
    exact Rs.some ⟨⟨⟨rfl,rfl⟩,h.adv hT (.inr (by rw[hk];decide))⟩,rfl⟩
 ·rw[if_pos (show _∨_ from .inl hk)]
  refine Rs.pos (bne_iff_ne.2 hk) (PV.err2 h.lt (Rs.bind (h.says (by decide) _) fun z hz=>?_))
  rw[ha]
  refine Rs.pos ⟨by omega,rfl⟩ ?_
  simp only[rfail_bad' _ _ _ hz.bad,Option.bind_some,bne_iff_ne,ne_eq,hz.bad,not_false_eq_true,if_true,ite_self,if_false,Bool.false_eq_true]
  exact Rs.some ⟨hz,rfl⟩
theorem rnameN_bq(q:Nat){l:List ByteArray}{f:Nat→ByteArray}(hf:Ag f l)(hb:l.length≤4000000000)(hq:l.length<q)(h:XB N T p c x)(m:Int):Rs (rnameN q (m,l.length,f,x)) (fun z=>XB N T p c z.2.2.2∧z.2.1=l.length):=by
 have ha:=fun t=>among_eq (f:=fun j=>f (0+j)) (fun j b hj=>(congrArg f (Nat.zero_add j)).trans (hf j b hj)) hb t q hq
 unfold rnameN t_rnameN
 dsimp only
 rw[if_pos h.bounds,RReserved_eq,ha]
 simp only[rfail_bad' _ _ _ h.bad,Option.bind_some,bne_iff_ne,ne_eq,h.bad,not_false_eq_true,if_true,ite_self,if_false,Bool.false_eq_true,Nat.zero_add,Nat.le_refl,and_self]
 exact Rs.some ⟨h,rfl⟩
end
end Go.Proofs.YtjfkkokeegpeiaaGreatDoor
/- The reference's parser against the plain one: literals, operators. -/
namespace Go.Proofs.YtjfkkokeegpeiaaGreatDoor
open Go Go.Am Go.Proofs.Lx
set_option maxRecDepth 100000
abbrev RN(t:Tr)(z:g_rexpr):Prop:=RepN t (z.1,z.2.1,z.2.2.1,z.2.2.2.1,z.2.2.2.2.1)
abbrev pN(z:g_rexpr):g_rfail:=z.2.2.2.2.2
theorem lev1{t:ByteArray}:levP t=1↔t=sOr:=by
 unfold levP
 constructor
 ·intro h
  repeat' split at h
  all_goals first|assumption|omega
 ·intro h
  rw[h];rfl
theorem lev2{t:ByteArray}:levP t=2↔t=sAnd:=by
 unfold levP
 constructor
 ·intro h
  repeat' split at h
  all_goals first|assumption|omega
 ·intro h
  rw[h];rfl
theorem lev4{t:ByteArray}:levP t=4↔t=sLt∨t=sLe∨t=sGt∨t=sGe∨t=sEq∨t=sNe:=by
 unfold levP
 constructor
 ·intro h
  repeat' split at h
  all_goals first|assumption|omega
 ·intro h
  rcases h with h|h|h|h|h|h<;>(rw[h];rfl)
theorem lev5{t:ByteArray}:levP t=5↔t=sAdd∨t=sSub:=by
 unfold levP
 constructor
 ·intro h
  repeat' split at h
  all_goals first|assumption|omega
 ·intro h
  rcases h with h|h<;>(rw[h];rfl)
theorem lev6{t:ByteArray}:levP t=6↔t=sMul∨t=sDiv:=by
 unfold levP
 constructor
 ·intro h
  repeat' split at h
  all_goals first|assumption|omega
 ·intro h
  rcases h with h|h<;>(rw[h];rfl)
section
variable {N:Nat} {T:Nat→Tkn} {s:PS} {x:g_rfail} {p:Nat} {c:Int}
theorem rliteral_rs(hT:TokN N T)(q:Nat)(h:XG N T s x):Rs (rliteral q x) (PV N T pN RN (litP T s)):=by
 unfold rliteral
 refine Rs.map (P:=PV N T (fun y=>pN (cv_rliteral y)) (fun a y=>RN a (cv_rliteral y)) (litP T s)) ?_ fun z hz=>hz
 unfold rliteralR t_rliteralR litP
 refine PV.seq (rnumber_rs hT q h 0 2147483647) (fun n s1 z e hr h1=>?_) (fun p c z hb=>?_)
 ·have h1:XG N T s1 z.2:=h1
  have hr:z.1=n:=hr
  refine Rs.pos h1.bounds (Rs.pos (beq_iff_eq.2 h1.good) ?_)
  rw[h1.kind,h1.at_,h1.text,h1.num,known_eq,hr]
  dsimp only[Option.bind_some]
  by_cases hk:(T s1.p).k=1∧unitP (T s1.p).t=true
  ·rw[if_pos hk,decide_eq_true hk.1,hk.2]
   exact Rs.pos rfl (PV.ok RepN.leaf (h1.adv hT (.inr (by rw[hk.1];decide))))
  ·rw[if_neg hk]
   refine Rs.neg (fun hh=>hk ?_) (PV.ok RepN.leaf h1)
   rw[Bool.and_eq_true,decide_eq_true_eq]at hh
   exact hh
 ·have hb:XB N T p c z.2:=hb
  refine Rs.pos hb.bounds (Rs.neg (fun hh=>hb.bad (beq_iff_eq.1 hh)) ?_)
  exact Rs.some hb
theorem rliteral_bq(q:Nat)(h:XB N T p c x):Rs (rliteral q x) (fun z=>XB N T p c (pN z)):=by
 unfold rliteral
 refine Rs.map (P:=fun y=>XB N T p c (pN (cv_rliteral y))) ?_ fun z hz=>hz
 unfold rliteralR t_rliteralR
 refine Rs.bind (rnumber_bq q h 0 2147483647) fun z hb=>?_
 refine Rs.pos hb.bounds (Rs.neg (fun hh=>hb.bad (beq_iff_eq.1 hh)) ?_)
 exact Rs.some hb
theorem nz1:((1:Nat)=0)=False:=eq_false (by decide)
theorem nz2:((2:Nat)=0)=False:=eq_false (by decide)
theorem nz3:((3:Nat)=0)=False:=eq_false (by decide)
theorem nz4:((4:Nat)=0)=False:=eq_false (by decide)
theorem nz5:((5:Nat)=0)=False:=eq_false (by decide)
theorem operator1(hT:TokN N T)(q:Nat)(h:XG N T s x):operator q (1,x)=some (if levP (T s.p).t=1 then((T s.p).t,w (x.1+1),x.2)else(⟨#[]⟩,x)):=by
 unfold operator t_operator
 rw[show operators q ((1,x):Int×g_rfail).1=some (.inl sOr)from rfl]
 dsimp only[Option.bind_some,Sum.elim_inl,Sum.elim_inr]
 by_cases e:levP (T s.p).t=1
 ·rw[if_pos e]
  rw[lev1]at e
  have i0:isP T sOr s=true:=decide_eq_true e
  simp only[rtake_rq hT q h,i0,Option.bind_some,if_true,if_false,Bool.false_eq_true,eq_self_iff_true,nz1,nz2,nz3,nz4,nz5]
  rw[e]
 ·rw[if_neg e]
  rw[lev1]at e
  have i0:isP T sOr s=false:=decide_eq_false e
  simp only[rtake_rq hT q h,i0,Option.bind_some,if_true,if_false,Bool.false_eq_true,eq_self_iff_true,nz1,nz2,nz3,nz4,nz5]
theorem operator1_bq(q:Nat)(h:XB N T p c x):operator q (1,x)=some (⟨#[]⟩,x):=by
 unfold operator t_operator
 rw[show operators q ((1,x):Int×g_rfail).1=some (.inl sOr)from rfl]
 simp only[rtake_bq q h,Sum.elim_inl,Sum.elim_inr,Option.bind_some,if_true,if_false,Bool.false_eq_true,eq_self_iff_true,nz1,nz2,nz3,nz4,nz5]
theorem operator2(hT:TokN N T)(q:Nat)(h:XG N T s x):operator q (2,x)=some (if levP (T s.p).t=2 then((T s.p).t,w (x.1+1),x.2)else(⟨#[]⟩,x)):=by
 unfold operator t_operator
 rw[show operators q ((2,x):Int×g_rfail).1=some (.inl sAnd)from rfl]
 dsimp only[Option.bind_some,Sum.elim_inl,Sum.elim_inr]
 by_cases e:levP (T s.p).t=2
 ·rw[if_pos e]
  rw[lev2]at e
  have i0:isP T sAnd s=true:=decide_eq_true e
  simp only[rtake_rq hT q h,i0,Option.bind_some,if_true,if_false,Bool.false_eq_true,eq_self_iff_true,nz1,nz2,nz3,nz4,nz5]
  rw[e]
 ·rw[if_neg e]
  rw[lev2]at e
  have i0:isP T sAnd s=false:=decide_eq_false e
  simp only[rtake_rq hT q h,i0,Option.bind_some,if_true,if_false,Bool.false_eq_true,eq_self_iff_true,nz1,nz2,nz3,nz4,nz5]
theorem operator2_bq(q:Nat)(h:XB N T p c x):operator q (2,x)=some (⟨#[]⟩,x):=by
 unfold operator t_operator
 rw[show operators q ((2,x):Int×g_rfail).1=some (.inl sAnd)from rfl]
 simp only[rtake_bq q h,Sum.elim_inl,Sum.elim_inr,Option.bind_some,if_true,if_false,Bool.false_eq_true,eq_self_iff_true,nz1,nz2,nz3,nz4,nz5]
theorem operator4(hT:TokN N T)(q:Nat)(h:XG N T s x):operator q (4,x)=some (if levP (T s.p).t=4 then((T s.p).t,w (x.1+1),x.2)else(⟨#[]⟩,x)):=by
 unfold operator t_operator
 rw[show operators q ((4,x):Int×g_rfail).1=some (.inr (.inr (sLt,sLe,sGt,sGe,sEq,sNe)))from rfl]
 dsimp only[Option.bind_some,Sum.elim_inl,Sum.elim_inr]
 by_cases e:levP (T s.p).t=4
 ·rw[if_pos e]
  rw[lev4]at e
  rcases e with e|e|e|e|e|e
  ·have i0:isP T sLt s=true:=decide_eq_true e
   simp only[rtake_rq hT q h,i0,Option.bind_some,if_true,if_false,Bool.false_eq_true,eq_self_iff_true,nz1,nz2,nz3,nz4,nz5]
   rw[e]
  ·have i0:isP T sLt s=false:=by unfold isP;rw[e];rfl
   have i1:isP T sLe s=true:=decide_eq_true e
   simp only[rtake_rq hT q h,i0,i1,Option.bind_some,if_true,if_false,Bool.false_eq_true,eq_self_iff_true,nz1,nz2,nz3,nz4,nz5]
   rw[e]
  ·have i0:isP T sLt s=false:=by unfold isP;rw[e];rfl
   have i1:isP T sLe s=false:=by unfold isP;rw[e];rfl
   have i2:isP T sGt s=true:=decide_eq_true e
   simp only[rtake_rq hT q h,i0,i1,i2,Option.bind_some,if_true,if_false,Bool.false_eq_true,eq_self_iff_true,nz1,nz2,nz3,nz4,nz5]
   rw[e]
  ·have i0:isP T sLt s=false:=by unfold isP;rw[e];rfl
   have i1:isP T sLe s=false:=by unfold isP;rw[e];rfl
   have i2:isP T sGt s=false:=by unfold isP;rw[e];rfl
   have i3:isP T sGe s=true:=decide_eq_true e
   simp only[rtake_rq hT q h,i0,i1,i2,i3,Option.bind_some,if_true,if_false,Bool.false_eq_true,eq_self_iff_true,nz1,nz2,nz3,nz4,nz5]
   rw[e]
  ·have i0:isP T sLt s=false:=by unfold isP;rw[e];rfl
   have i1:isP T sLe s=false:=by unfold isP;rw[e];rfl
   have i2:isP T sGt s=false:=by unfold isP;rw[e];rfl
   have i3:isP T sGe s=false:=by unfold isP;rw[e];rfl
   have i4:isP T sEq s=true:=decide_eq_true e
   simp only[rtake_rq hT q h,i0,i1,i2,i3,i4,Option.bind_some,if_true,if_false,Bool.false_eq_true,eq_self_iff_true,nz1,nz2,nz3,nz4,nz5]
   rw[e]
  ·have i0:isP T sLt s=false:=by unfold isP;rw[e];rfl
   have i1:isP T sLe s=false:=by unfold isP;rw[e];rfl
   have i2:isP T sGt s=false:=by unfold isP;rw[e];rfl
   have i3:isP T sGe s=false:=by unfold isP;rw[e];rfl
   have i4:isP T sEq s=false:=by unfold isP;rw[e];rfl
   have i5:isP T sNe s=true:=decide_eq_true e
   simp only[rtake_rq hT q h,i0,i1,i2,i3,i4,i5,Option.bind_some,if_true,if_false,Bool.false_eq_true,eq_self_iff_true,nz1,nz2,nz3,nz4,nz5]
   rw[e]
 ·rw[if_neg e]
  rw[lev4]at e
  simp only[not_or]at e
  have i0:isP T sLt s=false:=decide_eq_false e.1
  have i1:isP T sLe s=false:=decide_eq_false e.2.1
  have i2:isP T sGt s=false:=decide_eq_false e.2.2.1
  have i3:isP T sGe s=false:=decide_eq_false e.2.2.2.1
  have i4:isP T sEq s=false:=decide_eq_false e.2.2.2.2.1
  have i5:isP T sNe s=false:=decide_eq_false e.2.2.2.2.2
  simp only[rtake_rq hT q h,i0,i1,i2,i3,i4,i5,Option.bind_some,if_true,if_false,Bool.false_eq_true,eq_self_iff_true,nz1,nz2,nz3,nz4,nz5]
theorem operator4_bq(q:Nat)(h:XB N T p c x):operator q (4,x)=some (⟨#[]⟩,x):=by
 unfold operator t_operator
 rw[show operators q ((4,x):Int×g_rfail).1=some (.inr (.inr (sLt,sLe,sGt,sGe,sEq,sNe)))from rfl]
 simp only[rtake_bq q h,Sum.elim_inl,Sum.elim_inr,Option.bind_some,if_true,if_false,Bool.false_eq_true,eq_self_iff_true,nz1,nz2,nz3,nz4,nz5]
theorem operator5(hT:TokN N T)(q:Nat)(h:XG N T s x):operator q (5,x)=some (if levP (T s.p).t=5 then((T s.p).t,w (x.1+1),x.2)else(⟨#[]⟩,x)):=by
 unfold operator t_operator
 rw[show operators q ((5,x):Int×g_rfail).1=some (.inr (.inl (sAdd,sSub)))from rfl]
 dsimp only[Option.bind_some,Sum.elim_inl,Sum.elim_inr]
 by_cases e:levP (T s.p).t=5
 ·rw[if_pos e]
  rw[lev5]at e
  rcases e with e|e
  ·have i0:isP T sAdd s=true:=decide_eq_true e
   simp only[rtake_rq hT q h,i0,Option.bind_some,if_true,if_false,Bool.false_eq_true,eq_self_iff_true,nz1,nz2,nz3,nz4,nz5]
   rw[e]
  ·have i0:isP T sAdd s=false:=by unfold isP;rw[e];rfl
   have i1:isP T sSub s=true:=decide_eq_true e
   simp only[rtake_rq hT q h,i0,i1,Option.bind_some,if_true,if_false,Bool.false_eq_true,eq_self_iff_true,nz1,nz2,nz3,nz4,nz5]
   rw[e]
 ·rw[if_neg e]
  rw[lev5]at e
  simp only[not_or]at e
  have i0:isP T sAdd s=false:=decide_eq_false e.1
  have i1:isP T sSub s=false:=decide_eq_false e.2
  simp only[rtake_rq hT q h,i0,i1,Option.bind_some,if_true,if_false,Bool.false_eq_true,eq_self_iff_true,nz1,nz2,nz3,nz4,nz5]
theorem operator5_bq(q:Nat)(h:XB N T p c x):operator q (5,x)=some (⟨#[]⟩,x):=by
 unfold operator t_operator
 rw[show operators q ((5,x):Int×g_rfail).1=some (.inr (.inl (sAdd,sSub)))from rfl]
 simp only[rtake_bq q h,Sum.elim_inl,Sum.elim_inr,Option.bind_some,if_true,if_false,Bool.false_eq_true,eq_self_iff_true,nz1,nz2,nz3,nz4,nz5]
theorem operator6(hT:TokN N T)(q:Nat)(h:XG N T s x):operator q (6,x)=some (if levP (T s.p).t=6 then((T s.p).t,w (x.1+1),x.2)else(⟨#[]⟩,x)):=by
 unfold operator t_operator
 rw[show operators q ((6,x):Int×g_rfail).1=some (.inr (.inl (sMul,sDiv)))from rfl]
 dsimp only[Option.bind_some,Sum.elim_inl,Sum.elim_inr]
 by_cases e:levP (T s.p).t=6
 ·rw[if_pos e]
  rw[lev6]at e
  rcases e with e|e
  ·have i0:isP T sMul s=true:=decide_eq_true e
   simp only[rtake_rq hT q h,i0,Option.bind_some,if_true,if_false,Bool.false_eq_true,eq_self_iff_true,nz1,nz2,nz3,nz4,nz5]
   rw[e]
  ·have i0:isP T sMul s=false:=by unfold isP;rw[e];rfl
   have i1:isP T sDiv s=true:=decide_eq_true e
   simp only[rtake_rq hT q h,i0,i1,Option.bind_some,if_true,if_false,Bool.false_eq_true,eq_self_iff_true,nz1,nz2,nz3,nz4,nz5]
   rw[e]
 ·rw[if_neg e]
  rw[lev6]at e
  simp only[not_or]at e
  have i0:isP T sMul s=false:=decide_eq_false e.1
  have i1:isP T sDiv s=false:=decide_eq_false e.2
  simp only[rtake_rq hT q h,i0,i1,Option.bind_some,if_true,if_false,Bool.false_eq_true,eq_self_iff_true,nz1,nz2,nz3,nz4,nz5]
theorem operator6_bq(q:Nat)(h:XB N T p c x):operator q (6,x)=some (⟨#[]⟩,x):=by
 unfold operator t_operator
 rw[show operators q ((6,x):Int×g_rfail).1=some (.inr (.inl (sMul,sDiv)))from rfl]
 simp only[rtake_bq q h,Sum.elim_inl,Sum.elim_inr,Option.bind_some,if_true,if_false,Bool.false_eq_true,eq_self_iff_true,nz1,nz2,nz3,nz4,nz5]
theorem operator_rq(hT:TokN N T)(q:Nat)(h:XG N T s x)(lv:Nat)(h1:1≤lv)(h2:lv≤6)(h3:lv≠3):operator q (((lv:Nat):Int),x)=some (if levP (T s.p).t=lv then((T s.p).t,w (x.1+1),x.2)else(⟨#[]⟩,x)):=by
 have:lv=1∨lv=2∨lv=4∨lv=5∨lv=6:=by omega
 rcases this with rfl|rfl|rfl|rfl|rfl
 ·exact operator1 hT q h
 ·exact operator2 hT q h
 ·exact operator4 hT q h
 ·exact operator5 hT q h
 ·exact operator6 hT q h
theorem operator_bq(q:Nat)(h:XB N T p c x)(lv:Nat)(h1:1≤lv)(h2:lv≤6)(h3:lv≠3):operator q (((lv:Nat):Int),x)=some (⟨#[]⟩,x):=by
 have:lv=1∨lv=2∨lv=4∨lv=5∨lv=6:=by omega
 rcases this with rfl|rfl|rfl|rfl|rfl
 ·exact operator1_bq q h
 ·exact operator2_bq q h
 ·exact operator4_bq q h
 ·exact operator5_bq q h
 ·exact operator6_bq q h
end
end Go.Proofs.YtjfkkokeegpeiaaGreatDoor
/- The reference's parser against the plain one: the loop over operators. -/
namespace Go.Proofs.YtjfkkokeegpeiaaGreatDoor
open Go Go.Am Go.Proofs.Lx
set_option maxRecDepth 100000
abbrev Zr0:Type:=ByteArray×Nat×(Nat→Int)×(Nat→Int)×(Nat→ByteArray)×(Nat→Int)×Int×Int×Int×Int×Nat×(Nat→ByteArray)×NodeT
abbrev Zr1:Type:=ByteArray×Nat×(Nat→Int)×(Nat→Int)×(Nat→ByteArray)×(Nat→Int)×Int×Int×Int×Int×Nat×(Nat→ByteArray)×ByteArray×Int×Int×ByteArray×Nat×(Nat→List V)×NodeT
def zr0(op:ByteArray)(x:g_rfail)(a:NodeT):Zr0:=(op,x.2.2.2.2.1,x.2.2.2.2.2.1,x.2.2.2.2.2.2.1,x.2.2.2.2.2.2.2.1,x.2.2.2.2.2.2.2.2.1,x.1,x.2.1,x.2.2.1,x.2.2.2.1,x.2.2.2.2.2.2.2.2.2.1,x.2.2.2.2.2.2.2.2.2.2,a)
def zr1(op:ByteArray)(x:g_rfail)(o:ByteArray)(a b:NodeT):Zr1:=(op,x.2.2.2.2.1,x.2.2.2.2.2.1,x.2.2.2.2.2.2.1,x.2.2.2.2.2.2.2.1,x.2.2.2.2.2.2.2.2.1,x.1,x.2.1,x.2.2.1,x.2.2.2.1,x.2.2.2.2.2.2.2.2.2.1,x.2.2.2.2.2.2.2.2.2.2,o,a.1,a.2.1,a.2.2.1,a.2.2.2.1,a.2.2.2.2,b)
def LRq(N:Nat)(T:Nat→Tkn):PR Tr→rexprR_l0_g→Prop
 | .ok t s,.inl z=>∃x n,z=(zr0 ⟨#[]⟩ x n).2∧RepN t n∧XG N T s x
 | .ok t s,.inr z=>∃x o a b ta tb,z=(zr1 ⟨#[]⟩ x o a b).2∧t= .node 20 0 o [ta,tb]∧RepN ta a∧RepN tb b∧XG N T s x
 | .err p c,.inl z=>∃x n,z=(zr0 ⟨#[]⟩ x n).2∧p<N∧XB N T p c x
 | .err p c,.inr z=>∃x o a b,z=(zr1 ⟨#[]⟩ x o a b).2∧p<N∧XB N T p c x
 | .out,_=>False
def LRt(n:Tr)(op:ByteArray)(x:g_rfail):rexprR_l0_a→Prop
 | .inl y=>∃a,y=zr0 op x a∧RepN n a
 | .inr y=>∃o a b ta tb,y=zr1 op x o a b∧n= .node 20 0 o [ta,tb]∧RepN ta a∧RepN tb b
section
variable {N:Nat} {T:Nat→Tkn}
def HEq(N:Nat)(T:Nat→Tkn)(f q:Nat):Prop:=∀g,g≤f→∀lv,1≤lv→lv≤7→∀(s:PS) (x:g_rfail),XG N T s x→exprP T g lv s≠ .out→Rs (rexpr q (((lv:Nat):Int),x)) (PV N T pN RN (exprP T g lv s))
theorem loop_end0(q m:Nat)(c:a_rexprR)(x:g_rfail)(a:NodeT):rexprR_l0 (ris q) (runary q) (rexpr q) (rprimary q) (operator q) (m+1) c (.inl (zr0 ⟨#[]⟩ x a))=some (.inl (zr0 ⟨#[]⟩ x a).2):=by
 refine Rs.eq ?_
 unfold rexprR_l0
 refine Rs.step3 fun Q hQ=>?_
 rw[Sum.elim_inl]
 unfold rexprR_l0_t0
 exact Rs.neg (show¬(!ByteArray.toList {data:=#[]}==ByteArray.toList {data:=#[]})=true by simp) (Rs.some rfl)
theorem loop_end1(q m:Nat)(c:a_rexprR)(x:g_rfail)(o:ByteArray)(a b:NodeT):rexprR_l0 (ris q) (runary q) (rexpr q) (rprimary q) (operator q) (m+1) c (.inr (zr1 ⟨#[]⟩ x o a b))=some (.inr (zr1 ⟨#[]⟩ x o a b).2):=by
 refine Rs.eq ?_
 unfold rexprR_l0
 refine Rs.step3 fun Q hQ=>?_
 rw[Sum.elim_inr]
 unfold rexprR_l0_t1
 exact Rs.neg (show¬(!ByteArray.toList {data:=#[]}==ByteArray.toList {data:=#[]})=true by simp) (Rs.some rfl)
theorem lev_ne{t:ByteArray}{lv:Nat}(h:levP t=lv)(h1:1≤lv):t≠⟨#[]⟩:=by
 rintro rfl
 have:levP ⟨#[]⟩=0:=rfl
 omega
theorem lev_some{t:ByteArray}{lv:Nat}(h:levP t=lv)(h1:1≤lv):lv≤6∧lv≠3:=by
 unfold levP at h
 repeat' split at h
 all_goals omega
theorem some_op{t:ByteArray}(h:t≠⟨#[]⟩):(!ByteArray.toList t==ByteArray.toList {data:=#[]})=true:=by
 rw[tl_dec,decide_eq_false h]
 rfl
theorem opsP_no{g lv:Nat}{n:Tr}{s:PS}(h:levP (T s.p).t≠lv):opsP T (g+1) lv n s= .ok n s:=by
 rw[opsP,if_neg (fun hh=>h hh.1)]
theorem ops_rs (hT : TokN N T) {f q : Nat} (hE : HEq N T f q) (lv : Nat) (hl1 : 1 ≤ lv) (c0 : g_rfail) : ∀ (g : Nat), g ≤ f → ∀ (m : Nat), g + 1 < m → ∀ (n : Tr) (s : PS) (x : g_rfail) (y : rexprR_l0_a), LRt n (T s.p).t x y → levP (T s.p).t = lv → XG N T (adv s) x → opsP T g lv n s ≠ .out →
 Rs (rexprR_l0 (ris q) (runary q) (rexpr q) (rprimary q) (operator q) m (((lv : Nat) : Int), c0) y) (LRq N T (opsP T g lv n s)) := by
 intro g
 induction g with
 | zero => intro _ m _ n s x y _ _ _ ho; exact absurd rfl ho
 | succ g ih =>
  intro hg m hm n s x y hy hlv h ho
  obtain ⟨m, rfl⟩ : ∃ k, m = k + 1 := ⟨m - 1, by omega⟩
  obtain ⟨hl6, hl3⟩ := lev_some hlv hl1
  have hk : (T s.p).k = 3 := Classical.byContradiction fun hk => by have := hT.sym _ hk; omega
  have hop : opsP T (g + 1) lv n s = (exprP T g (lv + 1) (adv s)).bind fun m s' => if lv = 4 then .ok (.node 20 0 (T s.p).t [n, m]) s' else opsP T g lv (.node 20 0 (T s.p).t [n, m]) s' := by rw [opsP, if_pos ⟨hlv, hk⟩]
  have hne := some_op (lev_ne hlv hl1)
  rw [hop] at ho ⊢
  have key := hE g (by omega) (lv + 1) (by omega) (by omega) (adv s) x h (PR.bind_out ho)
  obtain ⟨z, hz1, hz2⟩ := key
  have w1 : w (((lv : Nat) : Int) + (1 : Int)) = ((lv + 1 : Nat) : Int) := w_succ (by omega)
  -- what the round goes on with
  have fin : ∀ (a : NodeT) (ha : RepN n a) (P' : Prop), ((∀ op' (x' : g_rfail), (match exprP T g (lv + 1) (adv s) with | .ok m s' => (lv ≠ 4 ∧ levP (T s'.p).t = lv ∧ op' = (T s'.p).t ∧ XG N T (adv s') x') ∨ (op' = ⟨#[]⟩ ∧ XG N T s' x' ∧ (lv = 4 ∨ levP (T s'.p).t ≠ lv)) | .err p c => op' = ⟨#[]⟩ ∧ XB N T p c x' | .out => False) →
   Rs (rexprR_l0 (ris q) (runary q) (rexpr q) (rprimary q) (operator q) m (((lv : Nat) : Int), c0) (.inr (zr1 op' x' (T s.p).t a (z.1, z.2.1, z.2.2.1, z.2.2.2.1, z.2.2.2.2.1)))) (LRq N T ((exprP T g (lv + 1) (adv s)).bind fun m s' => if lv = 4 then .ok (.node 20 0 (T s.p).t [n, m]) s' else opsP T g lv (.node 20 0 (T s.p).t [n, m]) s'))) → P') → P' := by
   intro a ha P' hP
   refine hP fun op' x' hx => ?_
   obtain ⟨m, rfl⟩ : ∃ k, m = k + 1 := ⟨m - 1, by omega⟩
   cases e : exprP T g (lv + 1) (adv s) with
   | ok t s' =>
    rw [e] at hx hz2 ho
    dsimp only [PR.bind] at hx ho ⊢
    rcases hx with ⟨h4, hl', rfl, hx⟩ | ⟨rfl, hx, h4⟩
    ·rw [if_neg h4] at ho ⊢
     exact ih (by omega) (m + 1) (by omega) _ s' x' _ ⟨_, a, _, n, t, rfl, rfl, ha, hz2.1⟩ hl' hx ho
    ·refine ⟨_, loop_end1 q m _ x' _ a _, ?_⟩
     have hr : (if lv = 4 then PR.ok (Tr.node 20 0 (T s.p).t [n, t]) s' else opsP T g lv (.node 20 0 (T s.p).t [n, t]) s') = .ok (.node 20 0 (T s.p).t [n, t]) s' := by
      by_cases h5 : lv = 4
      ·rw [if_pos h5]
      ·rw [if_neg h5] at ho ⊢
       obtain ⟨g, rfl⟩ : ∃ k, g = k + 1 := by
        cases g with
        | zero => exact absurd rfl ho
        | succ g => exact ⟨g, rfl⟩
       exact opsP_no (h4.resolve_left h5)
     rw [hr]
     exact ⟨x', _, a, _, n, t, rfl, rfl, ha, hz2.1, hx⟩
   | err p c =>
    rw [e] at hx hz2
    obtain ⟨rfl, hx⟩ := hx
    exact ⟨_, loop_end1 q m _ x' _ a _, x', _, a, _, rfl, hz2.1, hx⟩
   | out => rw [e] at hz2; exact hz2.elim
  unfold rexprR_l0 at fin ⊢
  refine Rs.step3 fun Q hQ => ?_
  rcases y with y | y
  ·obtain ⟨a, rfl, ha⟩ := hy
   refine fin a ha _ fun fin => ?_
   rw [Sum.elim_inl]
   unfold rexprR_l0_t0
   refine Rs.pos hne ?_
   dsimp only [zr0]
   rw [w1, show rexpr q (((lv + 1 : Nat) : Int), x.1, x.2.1, x.2.2.1, x.2.2.2.1, x.2.2.2.2.1, x.2.2.2.2.2.1, x.2.2.2.2.2.2.1, x.2.2.2.2.2.2.2.1, x.2.2.2.2.2.2.2.2.1, x.2.2.2.2.2.2.2.2.2.1, x.2.2.2.2.2.2.2.2.2.2) = some z from hz1]
   dsimp only [Option.bind_some]
   cases e : exprP T g (lv + 1) (adv s) with
   | ok t s' =>
    rw [e] at hz2
    have hz3 : XG N T s' z.2.2.2.2.2 := hz2.2
    by_cases h4 : lv = 4
    ·refine Rs.neg (fun hh => bne_iff_ne.1 hh (by omega)) (Rs.some (hQ _ (fin ⟨#[]⟩ z.2.2.2.2.2 ?_)))
     rw [e]
     exact .inr ⟨rfl, hz3, .inl h4⟩
    ·refine Rs.pos (bne_iff_ne.2 (by omega)) ?_
     rw [operator_rq hT q hz3 lv hl1 hl6 hl3]
     by_cases h5 : levP (T s'.p).t = lv
     ·rw [if_pos h5]
      refine Rs.some (hQ _ (fin (T s'.p).t (w (z.2.2.2.2.2.1 + 1), z.2.2.2.2.2.2) ?_))
      rw [e]
      exact .inl ⟨h4, h5, rfl, hz3.adv hT (.inl (lev_ne h5 hl1))⟩
     ·rw [if_neg h5]
      refine Rs.some (hQ _ (fin ⟨#[]⟩ z.2.2.2.2.2 ?_))
      rw [e]
      exact .inr ⟨rfl, hz3, .inr h5⟩
   | err p c =>
    rw [e] at hz2
    have hz3 : XB N T p c z.2.2.2.2.2 := hz2.2
    by_cases h4 : lv = 4
    ·refine Rs.neg (fun hh => bne_iff_ne.1 hh (by omega)) (Rs.some (hQ _ (fin ⟨#[]⟩ z.2.2.2.2.2 ?_)))
     rw [e]
     exact ⟨rfl, hz3⟩
    ·refine Rs.pos (bne_iff_ne.2 (by omega)) ?_
     rw [operator_bq q hz3 lv hl1 hl6 hl3]
     refine Rs.some (hQ _ (fin ⟨#[]⟩ z.2.2.2.2.2 ?_))
     rw [e]
     exact ⟨rfl, hz3⟩
   | out => rw [e] at hz2; exact hz2.elim
  ·obtain ⟨o, a, b, ta, tb, rfl, rfl, ha, hb⟩ := hy
   refine fin _ (show RepN (.node 20 0 o [ta, tb]) (20, 0, o, 2, fun j => [i64 (if 0 + j = 0 then a.1 else b.1), i64 (if 0 + j = 0 then a.2.1 else b.2.1), st (if 0 + j = 0 then a.2.2.1 else b.2.2.1), .ro 4 (if 0 + j = 0 then a.2.2.2.1 else b.2.2.2.1) fun i => if 0 + j = 0 then a.2.2.2.2 i else b.2.2.2.2 i]) from ?_) _ fun fin => ?_
   ·simp only [RepN, RepL, List.length_cons, List.length_nil]
    exact ⟨trivial, trivial, trivial, trivial, ⟨a, rfl, ha⟩, ⟨b, rfl, hb⟩, trivial⟩
   rw [Sum.elim_inr]
   unfold rexprR_l0_t1
   refine Rs.pos hne ?_
   dsimp only [zr1]
   rw [w1, show rexpr q (((lv + 1 : Nat) : Int), x.1, x.2.1, x.2.2.1, x.2.2.2.1, x.2.2.2.2.1, x.2.2.2.2.2.1, x.2.2.2.2.2.2.1, x.2.2.2.2.2.2.2.1, x.2.2.2.2.2.2.2.2.1, x.2.2.2.2.2.2.2.2.2.1, x.2.2.2.2.2.2.2.2.2.2) = some z from hz1]
   dsimp only [Option.bind_some]
   cases e : exprP T g (lv + 1) (adv s) with
   | ok t s' =>
    rw [e] at hz2
    have hz3 : XG N T s' z.2.2.2.2.2 := hz2.2
    by_cases h4 : lv = 4
    ·refine Rs.neg (fun hh => bne_iff_ne.1 hh (by omega)) (Rs.some (hQ _ (fin ⟨#[]⟩ z.2.2.2.2.2 ?_)))
     rw [e]
     exact .inr ⟨rfl, hz3, .inl h4⟩
    ·refine Rs.pos (bne_iff_ne.2 (by omega)) ?_
     rw [operator_rq hT q hz3 lv hl1 hl6 hl3]
     by_cases h5 : levP (T s'.p).t = lv
     ·rw [if_pos h5]
      refine Rs.some (hQ _ (fin (T s'.p).t (w (z.2.2.2.2.2.1 + 1), z.2.2.2.2.2.2) ?_))
      rw [e]
      exact .inl ⟨h4, h5, rfl, hz3.adv hT (.inl (lev_ne h5 hl1))⟩
     ·rw [if_neg h5]
      refine Rs.some (hQ _ (fin ⟨#[]⟩ z.2.2.2.2.2 ?_))
      rw [e]
      exact .inr ⟨rfl, hz3, .inr h5⟩
   | err p c =>
    rw [e] at hz2
    have hz3 : XB N T p c z.2.2.2.2.2 := hz2.2
    by_cases h4 : lv = 4
    ·refine Rs.neg (fun hh => bne_iff_ne.1 hh (by omega)) (Rs.some (hQ _ (fin ⟨#[]⟩ z.2.2.2.2.2 ?_)))
     rw [e]
     exact ⟨rfl, hz3⟩
    ·refine Rs.pos (bne_iff_ne.2 (by omega)) ?_
     rw [operator_bq q hz3 lv hl1 hl6 hl3]
     refine Rs.some (hQ _ (fin ⟨#[]⟩ z.2.2.2.2.2 ?_))
     rw [e]
     exact ⟨rfl, hz3⟩
   | out => rw [e] at hz2; exact hz2.elim
end
end Go.Proofs.YtjfkkokeegpeiaaGreatDoor
/- The reference's parser against the plain one: expressions. -/
namespace Go.Proofs.YtjfkkokeegpeiaaGreatDoor
open Go Go.Am Go.Proofs.Lx
set_option maxRecDepth 100000
section
variable {N:Nat} {T:Nat→Tkn} {s:PS} {x:g_rfail} {p:Nat} {c:Int}
def HUq(N:Nat)(T:Nat→Tkn)(f q:Nat):Prop:=∀g,g≤f→∀b:ByteArray,b≠⟨#[]⟩→∀lv,1≤lv→lv≤7→∀(s:PS) (x:g_rfail),XG N T s x→unaryP T g b lv s≠ .out→Rs (runary q (b,((lv:Nat):Int),x)) (PV N T pN RN (unaryP T g b lv s))
def HPq(N:Nat)(T:Nat→Tkn)(f q:Nat):Prop:=∀g,g≤f→∀(s:PS) (x:g_rfail),XG N T s x→primP T g s≠ .out→Rs (rprimary q x) (PV N T pN RN (primP T g s))
theorem PV.same{ζ ξ α:Type}{pj:ζ→g_rfail}{R:α→ζ→Prop}{pk:ξ→g_rfail}{S:α→ξ→Prop}{o:Option ζ}{k:ζ→ξ}{r:PR α}(h:Rs o (PV N T pj R r))(hR:∀a z,R a z→S a (k z))(hp:∀z,pk (k z)=pj z):Rs (o.bind fun z=>some (k z)) (PV N T pk S r):=
 PV.last h (fun a s z e ha hs=>Rs.some ⟨hR a z ha,by rw[hp];exact hs⟩) (fun p c z hb=>Rs.some (by rw[hp];exact hb))
theorem rexpr_bq(q:Nat)(h:XB N T p c x)(lv:Int):Rs (rexpr (q+1) (lv,x)) (fun z=>XB N T p c (pN z)):=by
 show Rs ((t_rexprR (ris q) (runary q) (rexpr q) (rprimary q) (operator q) (rexprR_l0 (ris q) (runary q) (rexpr q) (rprimary q) (operator q) q (lv,x)) (lv,x) some).map cv_rexpr) _
 refine Rs.map (P:=fun y=>XB N T p c (pN (cv_rexpr y))) ?_ fun z hz=>hz
 unfold t_rexprR
 exact Rs.pos (bne_iff_ne.2 h.bad) (Rs.some h)
theorem ops_id{f lv:Nat}{r:PR Tr}(h:r≠ .out→f≠0)(hl:lv=3∨lv=7):(r.bind fun n s'=>opsP T f lv n s')=r:=by
 cases r with
 |ok t s'=>
  obtain⟨f,rfl⟩:∃k,f=k+1:=⟨f-1,by have:=h (fun h=>by cases h);omega⟩
  refine opsP_no (fun e=>?_)
  have:=lev_some e (by omega)
  omega
 |err p c=>rfl
 |out=>rfl
theorem expr_pos{f lv:Nat}{s:PS}(h:exprP T f lv s≠ .out):f≠0:=by
 rintro rfl
 rw[exprP]at h
 exact h rfl
theorem rexpr_step(hT:TokN N T){f q:Nat}(hq:f+1<q)(hE:HEq N T f q)(hU:HUq N T f q)(hP:HPq N T f q)(lv:Nat)(hl1:1≤lv)(hl:lv≤7)(s:PS)(x:g_rfail)(h:XG N T s x)(ho:exprP T (f+1) lv s≠ .out):
 Rs (rexpr (q+1) (((lv:Nat):Int),x)) (PV N T pN RN (exprP T (f+1) lv s)):=by
 show Rs ((t_rexprR (ris q) (runary q) (rexpr q) (rprimary q) (operator q) (rexprR_l0 (ris q) (runary q) (rexpr q) (rprimary q) (operator q) q (((lv:Nat):Int),x)) (((lv:Nat):Int),x) some).map cv_rexpr) _
 refine Rs.map (P:=PV N T (fun y=>pN (cv_rexpr y)) (fun a y=>RN a (cv_rexpr y)) (exprP T (f+1) lv s)) ?_ fun z hz=>hz
 unfold t_rexprR
 refine Rs.neg (fun hh=>bne_iff_ne.1 hh h.good) ?_
 dsimp only
 have hop:exprP T (f+1) lv s=if lv=3∧isP T sNot s=true then unaryP T f sNot 3 s else if lv=7∧isP T sSub s=true then unaryP T f sSub 7 s else if lv=8 then primP T f s else(exprP T f (lv+1) s).bind fun n s'=>opsP T f lv n s':=by rw[exprP]
 rw[if_neg (show¬lv=8 by omega)]at hop
 by_cases h3:lv=3
 ·subst h3
  refine Rs.pos (by decide) ?_
  rw[ris_rq q h]
  dsimp only[Option.bind_some]
  by_cases hi:isP T sNot s=true
  ·rw[if_pos ⟨rfl,hi⟩]at hop
   rw[hop]at ho⊢
   refine Rs.pos hi ?_
   exact PV.same (hU f (Nat.le_refl _) sNot (by decide) 3 (by decide) (by decide) s x h ho) (fun a z h=>h) (fun z=>rfl)
  ·rw[if_neg (fun h=>hi h.2),if_neg (fun h=>by omega),ops_id expr_pos (.inl rfl)]at hop
   rw[hop]at ho⊢
   refine Rs.neg hi ?_
   exact PV.same (hE f (Nat.le_refl _) 4 (by decide) (by decide) s x h ho) (fun a z h=>h) (fun z=>rfl)
 ·rw[if_neg (fun h=>h3 h.1)]at hop
  refine Rs.neg (fun hh=>h3 (by have:=beq_iff_eq.1 hh;omega)) ?_
  by_cases h7:lv=7
  ·subst h7
   refine Rs.pos (by decide) ?_
   rw[ris_rq q h]
   dsimp only[Option.bind_some]
   by_cases hi:isP T sSub s=true
   ·rw[if_pos ⟨rfl,hi⟩]at hop
    rw[hop]at ho⊢
    refine Rs.pos hi ?_
    exact PV.same (hU f (Nat.le_refl _) sSub (by decide) 7 (by decide) (by decide) s x h ho) (fun a z h=>h) (fun z=>rfl)
   ·rw[if_neg (fun h=>hi h.2),ops_id expr_pos (.inr rfl)]at hop
    rw[hop]at ho⊢
    refine Rs.neg hi ?_
    obtain⟨g,rfl⟩:∃k,f=k+1:=⟨f-1,by have:=expr_pos ho;omega⟩
    have e8:exprP T (g+1) (7+1) s=primP T g s:=by
     rw[exprP,if_neg (fun h=>absurd h.1 (by decide)),if_neg (fun h=>absurd h.1 (by decide)),if_pos rfl]
    rw[e8]at ho⊢
    exact PV.same (hP g (by omega) s x h ho) (fun a z h=>h) (fun z=>rfl)
  ·rw[if_neg (fun h=>h7 h.1)]at hop
   rw[hop]at ho⊢
   refine Rs.neg (fun hh=>h7 (by have:=beq_iff_eq.1 hh;omega)) ?_
   rw[w_succ (i:=lv) (by omega)]
   refine PV.seq (hE f (Nat.le_refl _) (lv+1) (by omega) (by omega) s x h (PR.bind_out ho)) (fun t s1 z e hr h1=>?_) (fun p c z hb=>?_)
   ·have h1:XG N T s1 z.2.2.2.2.2:=h1
    rw[e]at ho
    have ho:opsP T f lv t s1≠ .out:=ho
    have hf:f≠0:=by rintro rfl;rw[opsP]at ho;exact ho rfl
    rw[operator_rq hT q h1 lv hl1 (by omega) h3]
    dsimp only[Option.bind_some]
    obtain⟨m,rfl⟩:∃k,q=k+1:=⟨q-1,by omega⟩
    have hfin:Rs (rexprR_l0 (ris (m+1)) (runary (m+1)) (rexpr (m+1)) (rprimary (m+1)) (operator (m+1)) (m+1) (((lv:Nat):Int),x) (.inl (zr0 (if levP (T s1.p).t=lv then((T s1.p).t,w (z.2.2.2.2.2.1+1),z.2.2.2.2.2.2)else(⟨#[]⟩,z.2.2.2.2.2)).1 (if levP (T s1.p).t=lv then((T s1.p).t,w (z.2.2.2.2.2.1+1),z.2.2.2.2.2.2)else(⟨#[]⟩,z.2.2.2.2.2)).2 (z.1,z.2.1,z.2.2.1,z.2.2.2.1,z.2.2.2.2.1)))) (LRq N T (opsP T f lv t s1)):=by
     by_cases hl':levP (T s1.p).t=lv
     ·rw[if_pos hl']
      exact ops_rs hT hE lv hl1 x f (Nat.le_refl _) (m+1) (by omega) t s1 _ _ ⟨_,rfl,hr⟩ hl' (h1.adv hT (.inl (lev_ne hl' hl1))) ho
     ·rw[if_neg hl']
      refine⟨_,loop_end0 (m+1) m _ _ _,?_⟩
      obtain⟨g,rfl⟩:∃k,f=k+1:=⟨f-1,by omega⟩
      rw[opsP_no hl']
      exact⟨_,_,rfl,hr,h1⟩
    refine Rs.bind hfin fun y hy=>?_
    cases e2:opsP T f lv t s1 with
    |out=>exact absurd e2 ho
    |ok a s2=>
     rw[e2]at hy
     rcases y with y|y
     ·obtain⟨x',n,rfl,g1,g2⟩:=hy
      exact Rs.some ⟨g1,g2⟩
     ·obtain⟨x',o,na,nb,ta,tb,rfl,rfl,g1,g2,g3⟩:=hy
      exact Rs.some ⟨RepN.k2 g1 g2,g3⟩
    |err p c=>
     rw[e2]at hy
     rcases y with y|y
     ·obtain⟨x',n,rfl,g1,g2⟩:=hy
      exact Rs.some ⟨g1,g2⟩
     ·obtain⟨x',o,na,nb,rfl,g1,g2⟩:=hy
      exact Rs.some ⟨g1,g2⟩
   ·have hb:XB N T p c z.2.2.2.2.2:=hb
    rw[operator_bq q hb lv hl1 (by omega) h3]
    dsimp only[Option.bind_some]
    obtain⟨m,rfl⟩:∃k,q=k+1:=⟨q-1,by omega⟩
    refine Rs.bind (P:=fun y=>y= .inl (zr0 ⟨#[]⟩ z.2.2.2.2.2 (z.1,z.2.1,z.2.2.1,z.2.2.2.1,z.2.2.2.2.1)).2) ⟨_,loop_end0 (m+1) m _ _ _,rfl⟩ fun y hy=>?_
    rw[hy]
    exact Rs.some hb
theorem runary_step(hT:TokN N T){f q:Nat}(hE:HEq N T f (q+1))(b:ByteArray)(hb:b≠⟨#[]⟩)(lv:Nat)(hl1:1≤lv)(hl:lv≤7)(s:PS)(x:g_rfail)(h:XG N T s x)(ho:unaryP T (f+1) b lv s≠ .out):
 Rs (runary (q+2) (b,((lv:Nat):Int),x)) (PV N T pN RN (unaryP T (f+1) b lv s)):=by
 show Rs ((t_runaryR (ropens (q+1)) (rexpr (q+1)) (b,((lv:Nat):Int),x) some).map cv_runary) _
 refine Rs.map (P:=PV N T (fun y=>pN (cv_runary y)) (fun a y=>RN a (cv_runary y)) (unaryP T (f+1) b lv s)) ?_ fun z hz=>hz
 unfold t_runaryR
 dsimp only
 have hop:unaryP T (f+1) b lv s=(opensP T b s).bind fun _ s1=>(exprP T f lv s1).bind fun n s2=>.ok (.node 19 0 b [n]) (closeP s2):=by rw[unaryP]
 rw[hop]at ho⊢
 refine PV.seq (ropens_rs hT (q+1) h b hb) (fun u s1 z e _ h1=>?_) (fun p c z hb=>?_)
 ·have o1:=opens_op (T:=T) b s
  rw[e]at ho o1
  have o1:s1.o=s.o+1:=o1
  have ho:(exprP T f lv s1).bind _≠ .out:=ho
  refine PV.seq (hE f (Nat.le_refl _) lv hl1 hl s1 z h1 (PR.bind_out ho)) (fun t s2 y e hr h2=>?_) (fun p c y hb=>?_)
  ·have o2:=(expr_op (T:=T) f).1 lv s1
   rw[e]at o2
   have o2:s2.o=s1.o:=o2
   have h2:XG N T s2 y.2.2.2.2.2:=h2
   exact PV.ok (RepN.k1 hr) (h2.close (by omega))
  ·have hb:XB N T p c y.2.2.2.2.2:=hb
   exact Rs.some (hb.opn _)
 ·refine Rs.bind (rexpr_bq q hb _) fun y hb=>?_
  have hb:XB N T p c y.2.2.2.2.2:=hb
  exact Rs.some (hb.opn _)
theorem rprim_step(hT:TokN N T){f q:Nat}(hE:HEq N T f (q+1))(s:PS)(x:g_rfail)(h:XG N T s x)(ho:primP T (f+1) s≠ .out):
 Rs (rprimary (q+2) x) (PV N T pN RN (primP T (f+1) s)):=by
 show Rs ((t_rprimaryR (rliteral (q+1)) (rtake (q+1)) (rmust (q+1)) (rnameZ (q+1)) (ris (q+1)) (ropens (q+1)) (rexpr (q+1)) x some).map cv_rprimary) _
 refine Rs.map (P:=PV N T (fun y=>pN (cv_rprimary y)) (fun a y=>RN a (cv_rprimary y)) (primP T (f+1) s)) ?_ fun z hz=>hz
 unfold t_rprimaryR
 refine Rs.pos h.bounds ?_
 rw[h.kind]
 have hop:primP T (f+1) s=if(T s.p).k=2 then litP T s
  else if isP T w_true s=true then .ok (.node 16 1 ⟨#[]⟩ []) (adv s)
  else if isP T w_false s=true then .ok (.node 16 0 ⟨#[]⟩ []) (adv s)
  else if isP T w_tlm s=true then(mustP T sDot (adv s)).bind fun _ s1=>(nameP T s1).bind fun x s2=>.ok (.node 18 0 x []) s2
  else if isP T sLPar s=true then(opensP T sLPar s).bind fun _ s1=>(exprP T f 1 s1).bind fun n s2=>(mustP T sRPar s2).bind fun _ s3=>.ok n (closeP s3)
  else(nameP T s).bind fun x s1=>.ok (.node 17 0 x []) s1:=by rw[primP]
 by_cases hk:(T s.p).k=2
 ·rw[if_pos hk]at hop
  rw[hop]at ho⊢
  refine Rs.pos (beq_iff_eq.2 hk) ?_
  exact PV.same (rliteral_rs hT (q+1) h) (fun a z h=>h) (fun z=>rfl)
 ·rw[if_neg hk]at hop
  refine Rs.neg (fun hh=>hk (beq_iff_eq.1 hh)) ?_
  rw[rtake_rq hT (q+1) h]
  dsimp only[Option.bind_some]
  by_cases h1:isP T w_true s=true
  ·rw[if_pos h1]at hop
   rw[hop]at ho⊢
   refine Rs.pos h1 ?_
   rw[if_pos h1]
   exact PV.ok RepN.leaf (h.adv hT (isP_ne (by decide) h1))
  ·rw[if_neg h1]at hop
   refine Rs.neg h1 ?_
   rw[if_neg h1,rtake_rq hT (q+1) h]
   dsimp only[Option.bind_some]
   by_cases h2:isP T w_false s=true
   ·rw[if_pos h2]at hop
    rw[hop]at ho⊢
    refine Rs.pos h2 ?_
    rw[if_pos h2]
    exact PV.ok RepN.leaf (h.adv hT (isP_ne (by decide) h2))
   ·rw[if_neg h2]at hop
    refine Rs.neg h2 ?_
    rw[if_neg h2,rtake_rq hT (q+1) h]
    dsimp only[Option.bind_some]
    by_cases h3:isP T w_tlm s=true
    ·rw[if_pos h3]at hop
     rw[hop]at ho⊢
     refine Rs.pos h3 ?_
     rw[if_pos h3]
     refine PV.seq (rmust_rs hT (q+1) (h.adv hT (isP_ne (by decide) h3)) sDot (by decide)) (fun u s1 z e _ g1=>?_) (fun p c z hb=>?_)
     ·refine PV.seq (rnameZ_rs hT q g1) (fun a s2 y e ha g2=>?_) (fun p c y hb=>?_)
      ·have ha:y.1=a:=ha
       refine PV.ok ?_ g2
       rw[←ha]
       exact RepN.leaf
      ·exact Rs.some hb
     ·exact Rs.bind (rnameZ_bq q hb 1) fun y hb=>Rs.some hb
    ·rw[if_neg h3]at hop
     refine Rs.neg h3 ?_
     rw[if_neg h3,ris_rq (q+1) h]
     dsimp only[Option.bind_some]
     by_cases h4:isP T sLPar s=true
     ·rw[if_pos h4]at hop
      rw[hop]at ho⊢
      refine Rs.pos h4 ?_
      refine PV.seq (ropens_rs hT (q+1) h sLPar (by decide)) (fun u s1 z e _ g1=>?_) (fun p c z hb=>?_)
      ·have o1:=opens_op (T:=T) sLPar s
       rw[e]at ho o1
       have o1:s1.o=s.o+1:=o1
       have ho:(exprP T f 1 s1).bind _≠ .out:=ho
       refine PV.seq (hE f (Nat.le_refl _) 1 (by decide) (by decide) s1 z g1 (PR.bind_out ho)) (fun t s2 y e hr g2=>?_) (fun p c y hb=>?_)
       ·have o2:=(expr_op (T:=T) f).1 1 s1
        rw[e]at o2
        have o2:s2.o=s1.o:=o2
        refine PV.seq (rmust_rs hT (q+1) g2 sRPar (by decide)) (fun u s3 v e _ g3=>?_) (fun p c v hb=>?_)
        ·have o3:=must_op (T:=T) sRPar s2
         rw[e]at o3
         have o3:s3.o=s2.o:=o3
         have g3:XG N T s3 v:=g3
         exact PV.ok hr (g3.close (by omega))
        ·have hb:XB N T p c v:=hb
         exact Rs.some (hb.opn _)
       ·refine Rs.bind (rmust_bq (q+1) hb sRPar) fun v hb=>?_
        exact Rs.some (hb.opn _)
      ·refine Rs.bind (rexpr_bq q hb 1) fun y hb=>Rs.bind (rmust_bq (q+1) hb sRPar) fun v hb=>?_
       exact Rs.some (hb.opn _)
     ·rw[if_neg h4]at hop
      rw[hop]at ho⊢
      refine Rs.neg h4 ?_
      refine PV.seq (rnameZ_rs hT q h) (fun a s2 y e ha g2=>?_) (fun p c y hb=>?_)
      ·have ha:y.1=a:=ha
       refine PV.ok ?_ g2
       rw[←ha]
       exact RepN.leaf
      ·exact Rs.some hb
theorem rexprs(hT:TokN N T):∀f q,f+3≤q→HEq N T f q∧HUq N T f q∧HPq N T f q:=by
 intro f
 induction f with
 |zero=>
  intro q _
  refine⟨fun g hg lv _ _ s x _ ho=>?_,fun g hg b _ lv _ _ s x _ ho=>?_,fun g hg s x _ ho=>?_⟩
  all_goals
   obtain rfl:g=0:=by omega
  ·rw[exprP]at ho;exact absurd rfl ho
  ·rw[unaryP]at ho;exact absurd rfl ho
  ·rw[primP]at ho;exact absurd rfl ho
 |succ f ih=>
  intro q hq
  obtain⟨q,rfl⟩:∃k,q=k+2:=⟨q-2,by omega⟩
  obtain⟨a1,a2,a3⟩:=ih (q+2) (by omega)
  obtain⟨b1,b2,b3⟩:=ih (q+1) (by omega)
  refine⟨fun g hg lv h1 h2 s x h ho=>?_,fun g hg b hb lv h1 h2 s x h ho=>?_,fun g hg s x h ho=>?_⟩
  ·by_cases e:g≤f
   ·exact a1 g e lv h1 h2 s x h ho
   ·obtain rfl:g=f+1:=by omega
    exact rexpr_step hT (by omega) b1 b2 b3 lv h1 h2 s x h ho
  ·by_cases e:g≤f
   ·exact a2 g e b hb lv h1 h2 s x h ho
   ·obtain rfl:g=f+1:=by omega
    exact runary_step hT b1 b hb lv h1 h2 s x h ho
  ·by_cases e:g≤f
   ·exact a3 g e s x h ho
   ·obtain rfl:g=f+1:=by omega
    exact rprim_step hT b1 s x h ho
end
end Go.Proofs.YtjfkkokeegpeiaaGreatDoor
/- The reference's parser against the plain one: what a semicolon ends, numbered statements. -/
namespace Go.Proofs.YtjfkkokeegpeiaaGreatDoor
open Go Go.Am Go.Proofs.Lx
set_option maxRecDepth 100000
section
variable {N:Nat} {T:Nat→Tkn} {s:PS} {x:g_rfail} {p:Nat} {c:Int}
theorem endedK_rs(hT:TokN N T)(q:Nat){t:Tr}{y:NodeT}(hr:RepN t y)(h:XG N T s x):Rs (endedK q (y.1,y.2.1,y.2.2.1,y.2.2.2.1,y.2.2.2.2,x)) (PV N T pN RN (Lx.endP T t s)):=by
 unfold endedK endedKR t_endedKR Lx.endP
 exact PV.seq (rmust_rs hT q h sSemi (by decide)) (fun u s1 z e _ h1=>PV.ok hr h1) (fun p c z hb=>Rs.some hb)
theorem endedO_rs(hT:TokN N T)(q:Nat){t:Tr}{y:NodeT}(hr:RepN t y)(h:XG N T s x):Rs (endedO q (y.1,y.2.1,y.2.2.1,y.2.2.2.1,y.2.2.2.2,x)) (PV N T pN RN (Lx.endP T t s)):=by
 unfold endedO t_endedO Lx.endP
 exact PV.seq (rmust_rs hT q h sSemi (by decide)) (fun u s1 z e _ h1=>PV.ok hr h1) (fun p c z hb=>Rs.some hb)
theorem endedZ_rs(hT:TokN N T)(q:Nat)(k n:Int)(b:ByteArray)(h:XG N T s x):Rs (endedZ q (k,n,b,x)) (PV N T pN RN (Lx.endP T (.node k n b []) s)):=by
 unfold endedZ
 refine Rs.map (P:=PV N T (fun y=>pN (cv_endedZ y)) (fun a y=>RN a (cv_endedZ y)) (Lx.endP T (.node k n b []) s)) ?_ fun z hz=>hz
 unfold endedZR t_endedZR Lx.endP
 exact PV.seq (rmust_rs hT q h sSemi (by decide)) (fun u s1 z e _ h1=>PV.ok RepN.leaf h1) (fun p c z hb=>Rs.some hb)
theorem endedK_bq(q:Nat)(y:NodeT)(h:XB N T p c x):Rs (endedK q (y.1,y.2.1,y.2.2.1,y.2.2.2.1,y.2.2.2.2,x)) (fun z=>XB N T p c (pN z)):=by
 unfold endedK endedKR t_endedKR
 exact Rs.bind (rmust_bq q h sSemi) fun z hb=>Rs.some hb
theorem endedO_bq(q:Nat)(y:NodeT)(h:XB N T p c x):Rs (endedO q (y.1,y.2.1,y.2.2.1,y.2.2.2.1,y.2.2.2.2,x)) (fun z=>XB N T p c (pN z)):=by
 unfold endedO t_endedO
 exact Rs.bind (rmust_bq q h sSemi) fun z hb=>Rs.some hb
theorem endedZ_bq(q:Nat)(k n:Int)(b:ByteArray)(h:XB N T p c x):Rs (endedZ q (k,n,b,x)) (fun z=>XB N T p c (pN z)):=by
 unfold endedZ
 refine Rs.map (P:=fun y=>XB N T p c (pN (cv_endedZ y))) ?_ fun z hz=>hz
 unfold endedZR t_endedZR
 exact Rs.bind (rmust_bq q h sSemi) fun z hb=>Rs.some hb
theorem RepN.ro1{k n:Int}{b:ByteArray}{a:Tr}{z:g_rexpr}(h:RN a z):RepN (.node k n b [a]) (k,n,b,1,selL [[i64 (z.1),i64 (z.2.1),st (z.2.2.1),V.ro 4 (z.2.2.2.1) (z.2.2.2.2.1)]]):=RepN.k1 (y:=(z.1,z.2.1,z.2.2.1,z.2.2.2.1,z.2.2.2.2.1)) h
theorem RepN.fn1{k n:Int}{b:ByteArray}{a:Tr}{y:NodeT}(h:RepN a y):RepN (.node k n b [a]) (k,n,b,1,fun _=>[i64 y.1,i64 y.2.1,st y.2.2.1,.ro 4 y.2.2.2.1 y.2.2.2.2]):=by
 simp only[RepN,RepL,List.length_cons,List.length_nil]
 exact⟨trivial,trivial,trivial,trivial,⟨y,rfl,h⟩,trivial⟩
theorem rnumbered_use(hT:TokN N T)(q:Nat)(k:Int)(b:ByteArray)(hb:b≠⟨#[]⟩)(h:XG N T s x):Rs (rnumbered q (k,7,b,x)) (PV N T pN RN (useP T k b s)):=by
 unfold rnumbered t_rnumbered useP
 refine PV.seq (rnumber_rs hT q h 0 7) (fun n s1 z e hn h1=>?_) (fun p c z hx=>?_)
 ·have hn:z.1=n:=hn
  refine Rs.pos (some_op hb) ?_
  refine PV.seq (rmust_rs hT q h1 b hb) (fun u s2 y e _ h2=>?_) (fun p c y hx=>?_)
  ·refine PV.seq (rliteral_rs hT q h2) (fun t s3 v e hr h3=>?_) (fun p c v hx=>?_)
   ·rw[←hn]
    exact PV.same (endedK_rs hT q (RepN.ro1 hr) h3) (fun a z h=>h) (fun z=>rfl)
   ·exact Rs.bind (endedK_bq q (k,z.1,_,1,_) hx) fun v hb=>Rs.some hb
  ·exact Rs.bind (rliteral_bq q hx) fun v hx=>Rs.bind (endedK_bq q (k,z.1,_,1,_) hx) fun v hb=>Rs.some hb
 ·refine Rs.pos (some_op hb) ?_
  exact Rs.bind (rmust_bq q hx b) fun v hx=>Rs.bind (rliteral_bq q hx) fun v hx=>Rs.bind (endedK_bq q (k,z.1,_,1,_) hx) fun v hb=>Rs.some hb
theorem rnumbered_nmb(hT:TokN N T)(q:Nat)(k hi:Int)(h:XG N T s x):Rs (rnumbered q (k,hi,⟨#[]⟩,x)) (PV N T pN RN (nmbP T k hi s)):=by
 have hne:¬(!ByteArray.toList {data:=#[]}==ByteArray.toList {data:=#[]})=true:=by simp
 unfold rnumbered t_rnumbered nmbP
 refine PV.seq (rnumber_rs hT q h 0 hi) (fun n s1 z e hn h1=>?_) (fun p c z hx=>?_)
 ·have hn:z.1=n:=hn
  refine Rs.neg hne ?_
  rw[←hn]
  exact PV.same (endedZ_rs hT q k z.1 _ h1) (fun a z h=>h) (fun z=>rfl)
 ·refine Rs.neg hne ?_
  exact Rs.bind (endedZ_bq q k z.1 _ hx) fun v hb=>Rs.some hb
theorem rmust_is(hT:TokN N T)(q:Nat)(h:XG N T s x)(b:ByteArray)(hb:b≠⟨#[]⟩)(hi:isP T b s=true):Rs (rmust q (b,x)) (XG N T (adv s)):=by
 obtain⟨z,h1,h2⟩:=rmust_rs hT q h b hb
 unfold mustP at h2
 rw[if_pos hi]at h2
 exact⟨z,h1,h2.2⟩
end
end Go.Proofs.YtjfkkokeegpeiaaGreatDoor
/- The reference's parser against the plain one: the loop over statements, blocks. -/
namespace Go.Proofs.YtjfkkokeegpeiaaGreatDoor
open Go Go.Am Go.Proofs.Lx
set_option maxRecDepth 100000
abbrev Zb0:Type:=Nat×(Nat→Int)×(Nat→Int)×(Nat→ByteArray)×(Nat→Int)×Int×Int×Int×Int×Nat×(Nat→ByteArray)
def rb0(x:g_rfail):Zb0:=(x.2.2.2.2.1,x.2.2.2.2.2.1,x.2.2.2.2.2.2.1,x.2.2.2.2.2.2.2.1,x.2.2.2.2.2.2.2.2.1,x.1,x.2.1,x.2.2.1,x.2.2.2.1,x.2.2.2.2.2.2.2.2.2.1,x.2.2.2.2.2.2.2.2.2.2)
def rba(x:g_rfail)(a:AccT):Nat×(Nat→Int)×(Nat→Int)×(Nat→ByteArray)×(Nat→Int)×Int×Int×Int×Int×Nat×(Nat→ByteArray)×AccT:=(x.2.2.2.2.1,x.2.2.2.2.2.1,x.2.2.2.2.2.2.1,x.2.2.2.2.2.2.2.1,x.2.2.2.2.2.2.2.2.1,x.1,x.2.1,x.2.2.1,x.2.2.2.1,x.2.2.2.2.2.2.2.2.2.1,x.2.2.2.2.2.2.2.2.2.2,a)
def rbb(x:g_rfail)(a:AccT):Nat×(Nat→Int)×(Nat→Int)×(Nat→ByteArray)×(Nat→Int)×Int×Int×Int×Int×Nat×(Nat→ByteArray)×Nat×(Nat→Int)×(Nat→Int)×(Nat→ByteArray)×(Nat→Nat)×(Nat→Nat→List V):=(x.2.2.2.2.1,x.2.2.2.2.2.1,x.2.2.2.2.2.2.1,x.2.2.2.2.2.2.2.1,x.2.2.2.2.2.2.2.2.1,x.1,x.2.1,x.2.2.1,x.2.2.2.1,x.2.2.2.2.2.2.2.2.2.1,x.2.2.2.2.2.2.2.2.2.2,a.2.2.2.2.2,a.1,a.2.1,a.2.2.1,a.2.2.2.1,a.2.2.2.2.1)
def LBr(N:Nat)(T:Nat→Tkn)(acc:List Tr):PR (List Tr)→rblockR_l0_g→Prop
 | .ok l s,.inl z=>acc++l=[]∧∃sE x,z=rb0 x∧s=adv sE∧isP T sRBr sE=true∧XG N T sE x
 | .ok l s,.inr z=>∃sE x a,z=rbb x a∧s=adv sE∧isP T sRBr sE=true∧RepA (acc++l) a∧XG N T sE x
 | .err p c,.inl z=>∃x,z=rb0 x∧p<N∧XB N T p c x
 | .err p c,.inr z=>∃x a,z=rbb x a∧p<N∧XB N T p c x
 | .out,_=>False
def BSr(acc:List Tr)(x:g_rfail):rblockR_l0_a→Prop
 | .inl y=>acc=[]∧y=rb0 x
 | .inr y=>∃a,y=rba x a∧RepA acc a
section
variable {N:Nat} {T:Nat→Tkn} {p:Nat} {c:Int}
def HSq(N:Nat)(T:Nat→Tkn)(f q:Nat):Prop:=∀g,g≤f→∀(s:PS) (x:g_rfail),XG N T s x→stmtP T g s≠ .out→Rs (rstatement q x) (PV N T pN RN (stmtP T g s))
def HBq(N:Nat)(T:Nat→Tkn)(f q:Nat):Prop:=∀g,g≤f→∀(s:PS) (x:g_rfail),XG N T s x→blockP T g s≠ .out→Rs (rblock q x) (PV N T pN RN (blockP T g s))
theorem block_end0(q m:Nat)(c0:g_rfail)(x:g_rfail)(h:x.2.2.1≠0):rblockR_l0 (ropens q) (ris q) (rmust q) (rstatement q) (m+1) c0 (.inl (rb0 x))=some (.inl (rb0 x)):=by
 refine Rs.eq ?_
 unfold rblockR_l0
 refine Rs.step3 fun Q hQ=>?_
 rw[Sum.elim_inl]
 unfold rblockR_l0_t0
 exact Rs.neg (fun hh=>h (beq_iff_eq.1 hh)) (Rs.some rfl)
theorem block_end1(q m:Nat)(c0:g_rfail)(x:g_rfail)(a:AccT)(h:x.2.2.1≠0):rblockR_l0 (ropens q) (ris q) (rmust q) (rstatement q) (m+1) c0 (.inr (rba x a))=some (.inr (rbb x a)):=by
 refine Rs.eq ?_
 unfold rblockR_l0
 refine Rs.step3 fun Q hQ=>?_
 rw[Sum.elim_inr]
 unfold rblockR_l0_t1
 exact Rs.neg (fun hh=>h (beq_iff_eq.1 hh)) (Rs.some rfl)
theorem stmts_rs (hT : TokN N T) {f q : Nat} (hS : HSq N T f q) (c0 : g_rfail) : ∀ (g : Nat), g ≤ f → ∀ (m : Nat), g + 1 < m → ∀ (acc : List Tr) (s : PS) (x : g_rfail) (y : rblockR_l0_a), BSr acc x y → acc.length + g ≤ 1000000000 → XG N T s x → stmtsP T g s ≠ .out →
 Rs (rblockR_l0 (ropens q) (ris q) (rmust q) (rstatement q) m c0 y) (LBr N T acc (stmtsP T g s)) := by
 intro g
 induction g with
 | zero => intro _ m _ acc s x y _ _ _ ho; rw [stmtsP] at ho; exact absurd rfl ho
 | succ g ih =>
  intro hg m hm acc s x y hy hb h ho
  obtain ⟨m, rfl⟩ : ∃ k, m = k + 2 := ⟨m - 2, by omega⟩
  have hop : stmtsP T (g + 1) s = if isP T sRBr s = true then .ok [] (adv s) else (stmtP T g s).bind fun n s1 => (stmtsP T g s1).bind fun l s2 => .ok (n :: l) s2 := by rw [stmtsP]
  rw [hop] at ho ⊢
  -- what the next round answers
  have next : ¬ isP T sRBr s = true → ∀ (z : g_rexpr) (a : AccT), PV N T pN RN (stmtP T g s) z → (∀ t, RN t z → RepA (acc ++ [t]) a) → Rs (rblockR_l0 (ropens q) (ris q) (rmust q) (rstatement q) (m + 1) c0 (.inr (rba z.2.2.2.2.2 a))) (LBr N T acc (if isP T sRBr s = true then .ok [] (adv s) else (stmtP T g s).bind fun n s1 => (stmtsP T g s1).bind fun l s2 => .ok (n :: l) s2)) := by
   intro hi z a hz ha
   rw [if_neg hi] at ho ⊢
   cases e : stmtP T g s with
   | out => rw [e] at hz; exact hz.elim
   | err p c =>
    rw [e] at hz
    exact ⟨_, block_end1 q m c0 _ a hz.2.bad, _, a, rfl, hz.1, hz.2⟩
   | ok t s1 =>
    rw [e] at hz ho
    have ho2 : stmtsP T g s1 ≠ .out := PR.bind_out (show (stmtsP T g s1).bind _ ≠ .out from ho)
    show Rs _ (LBr N T acc ((stmtsP T g s1).bind fun l s2 => .ok (t :: l) s2))
    refine (ih (by omega) (m + 1) (by omega) (acc ++ [t]) s1 z.2.2.2.2.2 (.inr (rba z.2.2.2.2.2 a)) ⟨a, rfl, ha t hz.1⟩ (by simp; omega) hz.2 ho2).mono fun v hv => ?_
    cases e2 : stmtsP T g s1 with
    | out => exact absurd e2 ho2
    | err p c => rw [e2] at hv; rcases v with v | v <;> exact hv
    | ok l s3 =>
     rw [e2] at hv
     rcases v with v | v
     ·exact absurd hv.1 (by simp)
     ·rw [show LBr N T (acc ++ [t]) (.ok l s3) (.inr v) = ∃ sE x a, v = rbb x a ∧ s3 = adv sE ∧ isP T sRBr sE = true ∧ RepA ((acc ++ [t]) ++ l) a ∧ XG N T sE x from rfl, List.append_assoc] at hv
      exact hv
  unfold rblockR_l0 at next ⊢
  refine Rs.step3 fun Q hQ => ?_
  rcases y with y | y
  ·obtain ⟨rfl, rfl⟩ := hy
   rw [Sum.elim_inl]
   unfold rblockR_l0_t0
   dsimp only [rb0]
   refine Rs.pos (beq_iff_eq.2 h.good) (Rs.bind (P := fun z => z = (isP T sRBr s, x)) (Rs.of (ris_rq q h sRBr)) fun z hz => ?_)
   subst hz
   by_cases hi : isP T sRBr s = true
   ·refine Rs.neg (fun hh => by rw [hi] at hh; cases hh) (Rs.some ?_)
    rw [if_pos hi]
    exact ⟨rfl, s, x, rfl, rfl, hi, h⟩
   ·refine Rs.pos (by rw [Bool.eq_false_iff.2 hi]; rfl) ?_
    have ho1 : stmtP T g s ≠ .out := by rw [if_neg hi] at ho; exact PR.bind_out ho
    refine Rs.bind (hS g (by omega) s x h ho1) fun z hz => Rs.some (hQ _ ?_)
    exact next hi z (acc1 (z.1, z.2.1, z.2.2.1, z.2.2.2.1, z.2.2.2.2.1)) hz fun t ht => acc1_rep ht
  ·obtain ⟨a, rfl, ha⟩ := hy
   rw [Sum.elim_inr]
   unfold rblockR_l0_t1
   dsimp only [rba]
   refine Rs.pos (beq_iff_eq.2 h.good) (Rs.bind (P := fun z => z = (isP T sRBr s, x)) (Rs.of (ris_rq q h sRBr)) fun z hz => ?_)
   subst hz
   by_cases hi : isP T sRBr s = true
   ·refine Rs.neg (fun hh => by rw [hi] at hh; cases hh) (Rs.some ?_)
    rw [if_pos hi]
    exact ⟨s, x, a, rfl, rfl, hi, by rw [List.append_nil]; exact ha, h⟩
   ·refine Rs.pos (by rw [Bool.eq_false_iff.2 hi]; rfl) ?_
    have ho1 : stmtP T g s ≠ .out := by rw [if_neg hi] at ho; exact PR.bind_out ho
    refine Rs.bind (hS g (by omega) s x h ho1) fun z hz => ?_
    have hal := ha.1
    refine Rs.pos ⟨by unfold roomBound; omega, by unfold maxLen; omega, Nat.le_refl _⟩ (Rs.some (hQ _ ?_))
    exact next hi z (accN a (z.1, z.2.1, z.2.2.1, z.2.2.2.1, z.2.2.2.2.1)) hz fun t ht => accN_rep ha ht
theorem rblock_bq(q:Nat){x:g_rfail}(h:XB N T p c x):Rs (rblock (q+2) x) (fun z=>XB N T p c (pN z)):=by
 show Rs ((t_rblockR (ropens (q+1)) (ris (q+1)) (rmust (q+1)) (rstatement (q+1)) (rblockR_l0 (ropens (q+1)) (ris (q+1)) (rmust (q+1)) (rstatement (q+1)) (q+1) x) x some).map cv_rblock) _
 refine Rs.map (P:=fun y=>XB N T p c (pN (cv_rblock y))) ?_ fun z hz=>hz
 unfold t_rblockR
 refine Rs.bind (ropens_bq (q+1) h sLBr) fun z hz=>?_
 refine Rs.bind (P:=fun y=>y= .inl (rb0 z)) (Rs.of (block_end0 (q+1) q x z hz.bad)) fun y hy=>?_
 subst hy
 dsimp only[Sum.elim_inl]
 refine Rs.bind (rmust_bq (q+1) hz sRBr) fun v hb=>?_
 exact Rs.some (hb.opn _)
theorem rblock_step(hT:TokN N T){f q:Nat}(hq:f<q)(hf:f≤1000000000)(hS:HSq N T f (q+1)){s:PS}{x:g_rfail}(h:XG N T s x)(ho:blockP T (f+1) s≠ .out):Rs (rblock (q+2) x) (PV N T pN RN (blockP T (f+1) s)):=by
 show Rs ((t_rblockR (ropens (q+1)) (ris (q+1)) (rmust (q+1)) (rstatement (q+1)) (rblockR_l0 (ropens (q+1)) (ris (q+1)) (rmust (q+1)) (rstatement (q+1)) (q+1) x) x some).map cv_rblock) _
 refine Rs.map (P:=PV N T (fun y=>pN (cv_rblock y)) (fun a y=>RN a (cv_rblock y)) (blockP T (f+1) s)) ?_ fun z hz=>hz
 unfold t_rblockR
 have hop:blockP T (f+1) s=(opensP T sLBr s).bind fun _ s1=>(stmtsP T f s1).bind fun l s2=>.ok (.node 14 0 ⟨#[]⟩ l) (closeP s2):=by rw[blockP]
 rw[hop]at ho⊢
 refine PV.seq (ropens_rs hT (q+1) h sLBr (by decide)) (fun u s1 z e _ h1=>?_) (fun p c z hz=>?_)
 ·have o1:=opens_op (T:=T) sLBr s
  rw[e]at ho o1
  have o1:s1.o=s.o+1:=o1
  have ho2:stmtsP T f s1≠ .out:=PR.bind_out (show(stmtsP T f s1).bind _≠ .out from ho)
  have o2:=(stmt_op (T:=T) f).2.1 s1
  refine Rs.bind (stmts_rs hT hS x f (Nat.le_refl _) (q+1) (by omega) [] s1 z (.inl (rb0 z)) ⟨rfl,rfl⟩ (by simpa using hf) h1 ho2) fun y hy=>?_
  cases e2:stmtsP T f s1 with
  |out=>exact absurd e2 ho2
  |ok l s2=>
   rw[e2]at hy o2
   have o2:s2.o=s1.o:=o2
   rcases y with y|y
   ·obtain⟨hl,sE,v,rfl,rfl,hi,g⟩:=hy
    rw[List.nil_append]at hl
    subst hl
    dsimp only[Sum.elim_inl,PR.bind]
    refine Rs.bind (rmust_is hT (q+1) g sRBr (by decide) hi) fun v hb=>?_
    exact PV.ok RepN.leaf (hb.close (by omega))
   ·obtain⟨sE,v,a,rfl,rfl,hi,ha,g⟩:=hy
    rw[List.nil_append]at ha
    dsimp only[Sum.elim_inr,PR.bind]
    refine Rs.bind (rmust_is hT (q+1) g sRBr (by decide) hi) fun v hb=>?_
    exact PV.ok ha.node (hb.close (by omega))
  |err p c=>
   rw[e2]at hy
   dsimp only[PR.bind]
   rcases y with y|y
   ·obtain⟨v,rfl,hp,hb⟩:=hy
    refine PV.err hp ?_
    exact Rs.bind (rmust_bq (q+1) hb sRBr) fun v hb=>Rs.some (hb.opn _)
   ·obtain⟨v,a,rfl,hp,hb⟩:=hy
    refine PV.err hp ?_
    exact Rs.bind (rmust_bq (q+1) hb sRBr) fun v hb=>Rs.some (hb.opn _)
 ·refine Rs.bind (P:=fun y=>y= .inl (rb0 z)) (Rs.of (block_end0 (q+1) q x z hz.bad)) fun y hy=>?_
  subst hy
  dsimp only[Sum.elim_inl]
  refine Rs.bind (rmust_bq (q+1) hz sRBr) fun v hb=>?_
  exact Rs.some (hb.opn _)
end
end Go.Proofs.YtjfkkokeegpeiaaGreatDoor

