/- GrammarPriorities: the trees for a greater priority are among those for a lesser one, in the same order; the trees of a grammar are among those of one with further productions behind; where what the statement reads is of bulk at most 1048576. -/
import Derived.Test.YtfkkmdelpddojaaPrio9
import Derived.Test.YtfkkmdelpddojaaPrio8
import Derived.Test.YtfkkmdelpddojaaPrio4
set_option linter.unusedVariables false
set_option linter.unusedSimpArgs false
set_option linter.defProp false
section
open Bool renaming and_eq_true→ZmA
open List renaming range→Zmm,mem_cons_of_mem→ZmN,mem_cons_self→ZmR,getElem_mem→ZmE
set_option maxRecDepth 20000
set_option maxHeartbeats 4000000
namespace Go.PV.Ytfkkmdelpddojaa
open Go Go.Proofs
def itU (l:List Tk) (T:ByteArray→Int→Nat→Nat→List Tn):List It→Nat→Nat→List (List Tn)
 | [],f,t=>if f=t then [[]] else []
 | i::is,f,t =>
   if i.kind=3 then (Zmm (t-f)).flatMap fun j=>(T i.text i.prio f (f+1+j)).flatMap fun x=>(itU l T is (f+1+j) t).map (x::·)
   else if f<t∧takeF i (tkAt l f)=true then (itU l T is (f+1) t).map (fun ks=>if i.kind=1 then ks else Tn.mk (-1) f []::ks) else []
def treU (g:List Pd) (l:List Tk) (T:ByteArray→Int→Nat→Nat→List Int→List Tn) (sym:ByteArray) (least:Int) (f t:Nat) (banned:List Int) (q:Int):List Tn :=
 if YH (pdAt g q) sym least=false∨q∈banned then []
 else if XN (pdAt g q)=false then (itU l (fun s p f t=>T s p f t []) (pdAt g q).items f t).map fun ks=>Tn.mk q 0 ks
 else (T (headI (pdAt g q)).text (headI (pdAt g q)).prio f t (banned++[q])).map fun x=>Tn.mk q 0 [x]
def trU (g:List Pd) (l:List Tk) (dn:Sp→List Int):Nat→ByteArray→Int→Nat→Nat→List Int→List Tn
 | 0,_,_,_,_,_=>[]
 | n+1,sym,least,f,t,banned=>(dn (f,t)).flatMap (treU g l (trU g l dn n) sym least f t banned)
theorem ZfK {l:List Tk} {has:It→Nat→Nat→Bool} {T:ByteArray→Int→Nat→Nat→List Tn} (hT:∀ i f t,T i.text i.prio f t ≠ []→has i f t=true):∀ (is:List It) (f t:Nat),itU l T is f t ≠ []→canL l has is f t=true
 | [],f,t,h=>by
   unfold itU at h;split at h
   ·unfold canL; simp [*]
   ·exact absurd rfl h
 | i::is,f,t,h=>by
   unfold itU at h;unfold canL;by_cases h3:i.kind=3
   ·rw [if_pos h3] at h;rw [if_pos h3];obtain ⟨ks,hks⟩:=List.exists_mem_of_ne_nil _ h;obtain ⟨j,hj,hks⟩:=List.mem_flatMap.1 hks;obtain ⟨x,hx,hks⟩:=List.mem_flatMap.1 hks;obtain ⟨ks',hks',_⟩:=List.mem_map.1 hks;have hj':=List.mem_range.1 hj;rw [ZmA,decide_eq_true_eq];refine ⟨by omega,List.any_eq_true.2 ⟨j,hj,?_⟩⟩;rw [ZmA];exact ⟨hT i _ _ (List.ne_nil_of_mem hx),ZfK hT is _ _ (List.ne_nil_of_mem hks')⟩
   ·rw [if_neg h3] at h;rw [if_neg h3];split at h
    ·rename_i hc;rw [ZmA,decide_eq_true_eq,ZmA];refine ⟨hc.1,hc.2,ZfK hT is _ _ fun e=>?_⟩;rw [e] at h;exact h rfl
    ·exact absurd rfl h
theorem itsG_U {l:List Tk} {has:It→Nat→Nat→Bool} {T:ByteArray→Int→Nat→Nat→List Tn} (hT:∀ i f t,T i.text i.prio f t ≠ []→has i f t=true):∀ (is:List It) (f t:Nat),(∀ i∈is,1≤i.kind∧i.kind≤3)→itsG l has T is f t=itU l T is f t
 | [],f,t,_=>rfl
 | i::is,f,t,hk=>by
   have ih:=fun f t=>itsG_U (l:=l) hT is f t fun i hi=>hk i (ZmN _ hi)
   have hki:=hk i (ZmR ..);by_cases hc:canL l has (i::is) f t=false
   ·have:itU l T (i::is) f t=[]:=Classical.byContradiction fun h=>by rw [ZfK hT _ _ _ h] at hc; cases hc
    rw [this];unfold itsG;rw [if_pos hc]
   ·have hc':canL l has (i::is) f t=true:=by simpa using hc
    unfold itsG itU;rw [if_neg hc];unfold canL at hc';rw [ZmA,decide_eq_true_eq] at hc';by_cases h1:i.kind=1
    ·have h3:¬ i.kind=3:=by omega
     rw [if_neg h3] at hc';rw [ZmA] at hc';rw [if_pos h1,if_neg h3,if_pos ⟨hc'.1,hc'.2.1⟩,ih];simp [h1]
    ·by_cases h2:i.kind=2
     ·have h3:¬ i.kind=3:=by omega
      rw [if_neg h3] at hc';rw [ZmA] at hc';rw [if_neg h1,if_pos h2,if_neg h3,if_pos ⟨hc'.1,hc'.2.1⟩,ih];simp [h1]
     ·have h3:i.kind=3:=by omega
      rw [if_neg h1,if_neg h2,if_pos h3]
      congr 1
      funext j
      rw [ih];split
      ·rename_i hcj
       have:itU l T is (f+1+j) t=[]:=Classical.byContradiction fun h=>by rw [ZfK hT _ _ _ h] at hcj; cases hcj
       rw [this]; simp
      ·rfl
def Cov (g:List Pd) (met S:List Int) (s:ByteArray) (p:Int):Prop:=∀ q∈met,YH (pdAt g q) s p=true→q∈S
structure OpR (g:List Pd) (met:List Int) (s:ByteArray) (p:Int) (qs seen S:List Int):Prop where
 sub:∀ q∈seen,q∈S
 cov:∀ q∈qs,YH (pdAt g q) s p=true→q∈S
 new:∀ q∈S,q ∉ seen→XN (pdAt g q)=true∧Cov g met S (headI (pdAt g q)).text (headI (pdAt g q)).prio
theorem Zeq {g:List Pd} {met:List Int} {W:ByteArray→Int→List Int→Bool × List Int} {m:Nat} (hW:∀ s p seen,(metF met seen).length<m→(W s p seen).1=false→OpR g met s p met seen (W s p seen).2) {s:ByteArray} {p:Int}:∀ (qs seen:List Int),(∀ q∈qs,q∈met)→(metF met seen).length<m+1→(opL g W s p qs seen).1=false→OpR g met s p qs seen (opL g W s p qs seen).2
 | [],seen,_,_,_=>⟨fun _ h=>h,(fun _ h=>by cases h),fun _ h h'=>absurd h h'⟩
 | q::qs,seen,hm,hn,hf=>by
   have hm':∀ q∈qs,q∈met:=fun q h=>hm q (ZmN _ h)
   unfold opL at hf ⊢;by_cases h1:q∈seen∨YH (pdAt g q) s p=false
   ·rw [if_pos h1] at hf ⊢;have h:=Zeq hW qs seen hm' hn hf;refine ⟨h.sub,fun q' hq hs=>?_,h.new⟩;rcases List.mem_cons.1 hq with rfl | hq
    ·rcases h1 with h1 | h1
     ·exact h.sub _ h1
     ·rw [h1] at hs; cases hs
    ·exact h.cov q' hq hs
   ·rw [if_neg h1] at hf ⊢;by_cases h2:XN (pdAt g q)=false
    ·rw [if_pos h2] at hf; cases hf
    ·rw [if_neg h2] at hf ⊢;by_cases h3:(W (headI (pdAt g q)).text (headI (pdAt g q)).prio (q::seen)).1=true
     ·rw [if_pos h3] at hf; cases hf
     ·rw [if_neg h3] at hf ⊢;have hlt:=Zcp (hm q (ZmR ..)) (fun h=>h1 (.inl h));have hw:=hW _ _ (q::seen) (by omega) (by simpa using h3);have hmono:=Zhc (l:=met) (s:=q::seen) (s':=(W (headI (pdAt g q)).text (headI (pdAt g q)).prio (q::seen)).2) hw.sub;have h:=Zeq hW qs _ hm' (by omega) hf;refine ⟨fun q' hq=>h.sub _ (hw.sub _ (ZmN _ hq)),fun q' hq hs=>?_,fun q' hq hn'=>?_⟩
      ·rcases List.mem_cons.1 hq with rfl | hq
       ·exact h.sub _ (hw.sub _ (ZmR ..))
       ·exact h.cov q' hq hs
      ·by_cases h4:q'∈(W (headI (pdAt g q)).text (headI (pdAt g q)).prio (q::seen)).2
       ·by_cases h5:q'=q
        ·subst h5;exact ⟨by simpa using h2,fun q2 hq2 hs2=>h.sub _ (hw.cov q2 hq2 hs2)⟩
        ·have:=hw.new q' h4 (fun h'=>by rcases List.mem_cons.1 h' with h' | h'; exact h5 h'; exact hn' h')
         exact ⟨this.1,fun q2 hq2 hs2=>h.sub _ (this.2 q2 hq2 hs2)⟩
       ·exact h.new q' hq h4
theorem Zhe {g:List Pd} {met:List Int}:∀ (n:Nat) (s:ByteArray) (p:Int) (seen:List Int),(metF met seen).length<n→(opW g met n s p seen).1=false→OpR g met s p met seen (opW g met n s p seen).2
 | 0,s,p,seen,h,_=>by omega
 | n+1,s,p,seen,h,hf=>Zeq (Zhe n) met seen (fun _ h=>h) h hf
theorem Zjl {g:List Pd} {l:List Tk} {dn:Sp→List Int} {f t:Nat} {banned S:List Int} (hS:∀ q∈S,XN (pdAt g q)=true∧Cov g (metF (dn (f,t)) banned) S (headI (pdAt g q)).text (headI (pdAt g q)).prio):∀ (n:Nat) (s:ByteArray) (p:Int) (b:List Int),(∀ q∈banned,q∈b)→Cov g (metF (dn (f,t)) banned) S s p→trU g l dn n s p f t b=[]
 | 0,_,_,_,_,_=>rfl
 | n+1,s,p,b,hb,hc=>by
   unfold trU;refine List.flatMap_eq_nil_iff.2 fun q hq=>?_
   unfold treU;by_cases h1:YH (pdAt g q) s p=false∨q∈b
   ·rw [if_pos h1]
   ·rw [if_neg h1]
    have hs:YH (pdAt g q) s p=true:=by
     cases h:YH (pdAt g q) s p with
     | true=>rfl
     | false=>exact absurd (.inl h) h1
    have hqS:=hc q (List.mem_filter.2 ⟨hq,by simpa using fun h=>h1 (.inr (hb q h))⟩) hs;obtain ⟨h2,h3⟩:=hS q hqS;rw [if_neg (by simp [h2]),Zjl hS n _ _ (b++[q]) (fun q' h=>List.mem_append_left _ (hb q' h)) h3];rfl
theorem Zj5 {g:List Pd} {l:List Tk} {dn:Sp→List Int} {f t:Nat} {banned:List Int} {s:ByteArray} {p:Int} (hl:(dn (f,t)).length≤12) (h:openF g dn s p (f,t) banned=false) (n:Nat):trU g l dn n s p f t banned=[]:=by
 have hm:(metF (metF (dn (f,t)) banned) []).length<13:=by
  have:=ZaT (metF (dn (f,t)) banned) []
  have:=ZaT (dn (f,t)) banned
  omega
 have hr:=Zhe 13 s p [] hm h;exact Zjl (fun q hq=>hr.new q hq (by simp)) n s p banned (fun _ h=>h) fun q hq hs=>hr.cov q hq hs
theorem trU_has {g:List Pd} {l:List Tk} {dn:Sp→List Int} {n:Nat} {i:It} {f t:Nat} {b:List Int} (h:trU g l dn n i.text i.prio f t b ≠ []):hasF g dn i f t=true:=by
 cases n with
 | zero=>exact absurd rfl h
 | succ n =>
   unfold trU at h;obtain ⟨x,hx⟩:=List.exists_mem_of_ne_nil _ h;obtain ⟨q,hq,hx⟩:=List.mem_flatMap.1 hx;refine List.any_eq_true.2 ⟨q,hq,?_⟩;unfold treU at hx;split at hx
   ·cases hx
   ·rename_i h1;cases h:YH (pdAt g q) i.text i.prio with
    | true=>rfl
    | false=>exact absurd (.inl h) h1
theorem Zaf {α β:Type} {F G:α→List β}:∀ {l:List α},(∀ x∈l,F x=G x)→l.flatMap F=l.flatMap G
 | [],_=>rfl
 | x::l,h=>by rw [List.flatMap_cons,List.flatMap_cons,h x (ZmR ..),Zaf fun y hy=>h y (ZmN _ hy)]
theorem Zlb {g:List Pd} {l:List Tk} {dn:Sp→List Int} (hd:DOk g l dn):∀ (n:Nat) (s:ByteArray) (p:Int) (f t:Nat) (b:List Int),tresG g l dn n s p f t b=trU g l dn n s p f t b
 | 0,_,_,_,_,_=>rfl
 | n+1,s,p,f,t,b=>by
   have ih:tresG g l dn n=trU g l dn n:=by
    funext s p f t b
    exact Zlb hd n s p f t b
   unfold tresG trU;rw [ih];refine Zaf fun q hq=>?_
   unfold treQ treU;obtain ⟨q0,q1⟩:=hd.in_ _ q hq;obtain ⟨k,rfl⟩:∃ k:Nat,q=(k:Int):=⟨q.toNat,by omega⟩
   have hkd:=hd.kd (pdAt g (k:Int)) (by rw [Xa (by omega)]; exact ZmE _);split
   ·rfl
   ·split
    ·rw [itsG_U (fun i f t h=>trU_has h) _ _ _ hkd]
    ·split
     ·rename_i ho;rw [Zj5 (hd.len _) ho]; rfl
     ·rfl
end Go.PV.Ytfkkmdelpddojaa
end
section
open List renaming range→Zmm,mem_cons_of_mem→ZmN,mem_cons_self→ZmR,drop_zero→Zm4,getElem?_eq_none→ZmS
open Nat renaming le_refl→Zmc,zero_le→ZmU
set_option maxRecDepth 20000
set_option maxHeartbeats 4000000
namespace Go.PV.Ytfkkmdelpddojaa
open Go Go.Proofs
open Classical in
noncomputable def dnS (g:List Pd) (l:List Tk):Sp→List Int:=fun s=>((Zmm g.length).filter fun q=>decide (Mt g l (pdAt g (q:Nat)).items s.1 s.2)).map fun q:Nat=>(q:Int)
theorem ZcN {g:List Pd} {l:List Tk} {s:Sp} {q:Int}:q∈dnS g l s↔∃ k:Nat,q=(k:Int)∧k<g.length∧Mt g l (pdAt g k).items s.1 s.2:=by
 unfold dnS;rw [List.mem_map]
 constructor
 ·rintro ⟨k,hk,rfl⟩;obtain ⟨h1,h2⟩:=List.mem_filter.1 hk;exact ⟨k,rfl,List.mem_range.1 h1,by simpa using h2⟩
 ·rintro ⟨k,rfl,h1,h2⟩;exact ⟨k,List.mem_filter.2 ⟨List.mem_range.2 h1,by simpa using h2⟩,rfl⟩
theorem dnS_lt (g:List Pd) (l:List Tk) (s:Sp):(dnS g l s).Pairwise (·<·):=by
 unfold dnS;rw [List.pairwise_map];exact ((List.pairwise_lt_range).filter _).imp fun h=>by omega
theorem Zah {α β:Type} {F:α→List β} {p:α→Bool}:∀ {l:List α},(∀ x∈l,p x=false→F x=[])→l.flatMap F=(l.filter p).flatMap F
 | [],_=>rfl
 | x::l,h=>by
   have ih:=Zah (p:=p) (l:=l) fun y hy=>h y (ZmN _ hy)
   rw [List.flatMap_cons,List.filter_cons];cases hp:p x with
   | true=>simp [ih]
   | false=>simp [h x (ZmR ..) hp,ih]
theorem asc_eq {a b:List Int} (ha:a.Pairwise (·≤·)) (hb:b.Pairwise (·≤·)) (na:a.Nodup) (nb:b.Nodup) (h:∀ x,x∈a↔x∈b):a=b :=
 Zei ((List.perm_ext_iff_of_nodup na nb).2 h) ha hb
theorem itU_C {g:List Pd} {l:List Tk} {sym:ByteArray} {least:Int} {C:Ch} (hG:GOk g l.length) (hF:FinC g l sym least C) {T T':ByteArray→Int→Nat→Nat→List Tn}
 (hT:∀ s p f t,f≤t→t≤l.length→Ask g C s p f→T s p f t=T' s p f t) (hT':∀ s p f t,f≤t→t≤l.length→Ask g C s p f→T' s p f t ≠ []→∃ q,q<g.length∧YH (pdAt g q) s p=true∧Mt g l (pdAt g q).items f t) :
 ∀ (is:List It) (q d s f t:Nat),f≤t→t≤l.length→⟨q,d,s⟩∈stC C f→(pdAt g q).items.drop d=is→itU l T is f t=itU l T' is f t
 | [],q,d,s,f,t,hft,htl,hx,hd=>rfl
 | i::is,q,d,s,f,t,hft,htl,hx,hd=>by
   obtain ⟨hi,hd2⟩:=Zep hd;unfold itU;by_cases h3:i.kind=3
   ·rw [if_pos h3,if_pos h3];have hask:Ask g C i.text i.prio f:=hF.ask (by omega) hx hi h3;refine Zaf fun j hj=>?_
    have hj:=List.mem_range.1 hj;rw [hT _ _ f (f+1+j) (by omega) (by omega) hask];by_cases he:T' i.text i.prio f (f+1+j)=[]
    ·rw [he]; rfl
    ·obtain ⟨q',h1,h2,h4⟩:=hT' _ _ f (f+1+j) (by omega) (by omega) hask he;have hy:=hF.comp h4 (by omega) q' 0 f (hask.has (h4.prod h1) h2) Zm4;have hc:=hF.clo (f+1+j) (by omega) _ hy;unfold Go.PV.Ytfkkmdelpddojaa.clo at hc;rw [show Xf g ⟨q',(pdAt g q').items.length,f⟩=none from ZmS (Zmc _)] at hc;have hz:=hc _ hx i hi h3 h2;rw [itU_C hG hF hT hT' is q (d+1) s (f+1+j) t (by omega) htl hz hd2]
   ·rw [if_neg h3,if_neg h3];split
    ·rename_i hc;have hcl:=hF.clo f (by omega) _ hx;unfold Go.PV.Ytfkkmdelpddojaa.clo at hcl;rw [show Xf g ⟨q,d,s⟩=some i from hi] at hcl;dsimp only at hcl;rw [if_neg h3] at hcl;rw [itU_C hG hF hT hT' is q (d+1) s (f+1) t (by omega) htl (hcl (by omega) hc.2) hd2]
    ·rfl
theorem trU_S {g:List Pd} {l:List Tk} {n:Nat} {s:ByteArray} {p:Int} {f t:Nat} {b:List Int} (h:trU g l (dnS g l) n s p f t b ≠ []):∃ q,q<g.length∧YH (pdAt g q) s p=true∧Mt g l (pdAt g q).items f t:=by
 cases n with
 | zero=>exact absurd rfl h
 | succ n =>
   unfold trU at h;obtain ⟨x,hx⟩:=List.exists_mem_of_ne_nil _ h;obtain ⟨q,hq,hx⟩:=List.mem_flatMap.1 hx;obtain ⟨k,rfl,h1,h2⟩:=ZcN.1 hq;refine ⟨k,h1,?_,h2⟩;unfold treU at hx;split at hx
   ·cases hx
   ·rename_i h3;cases h:YH (pdAt g k) s p with
    | true=>rfl
    | false=>exact absurd (.inl h) h3
theorem trU_C {g:List Pd} {l:List Tk} {sym:ByteArray} {least:Int} {C:Ch} (hG:GOk g l.length) (hF:FinC g l sym least C):∀ (n:Nat) (s:ByteArray) (p:Int) (f t:Nat) (b:List Int),f≤t→t≤l.length→Ask g C s p f→trU g l C.sorted.done n s p f t b=trU g l (dnS g l) n s p f t b
 | 0,_,_,_,_,_,_,_,_=>rfl
 | n+1,s,p,f,t,b,hft,htl,ha=>by
   unfold trU;rw [Zah (p:=fun q=>YH (pdAt g q) s p) (l:=C.sorted.done (f,t)) (fun q _ h=>by unfold treU; rw [if_pos (.inl h)]),Zah (p:=fun q=>YH (pdAt g q) s p) (l:=dnS g l (f,t)) (fun q _ h=>by unfold treU; rw [if_pos (.inl h)])];have hmd:∀ q,q∈C.sorted.done (f,t)↔q∈C.done (f,t):=fun q=>(Jb _).mem_iff
   have hnn:∀ q∈C.sorted.done (f,t),∃ k:Nat,q=(k:Int)∧k<g.length:=fun q hq=>by
    obtain ⟨x,hx,_,_,rfl⟩:=(hF.done f t htl q).1 ((hmd q).1 hq);exact ⟨x.prod,rfl,(hF.ok t htl x hx).1⟩
   have hl:(C.sorted.done (f,t)).filter (fun q=>YH (pdAt g q) s p)=(dnS g l (f,t)).filter (fun q=>YH (pdAt g q) s p):=by
    refine asc_eq ((ZeD _).filter _) (((dnS_lt g l (f,t)).imp fun h=>by omega).filter _) (((Jb _).nodup_iff.2 (hF.nd f t htl)).filter _) (((dnS_lt g l (f,t)).imp fun h=>by omega).filter _) fun q=>?_
    rw [List.mem_filter,List.mem_filter]
    constructor
    ·rintro ⟨h1,h2⟩;obtain ⟨k,rfl,hk⟩:=hnn q h1;exact ⟨ZcN.2 ⟨k,rfl,hk,(hF.done_iff (by omega) htl ha hk h2).1 ((hmd _).1 h1)⟩,h2⟩
    ·rintro ⟨h1,h2⟩;obtain ⟨k,rfl,hk,hm⟩:=ZcN.1 h1;exact ⟨(hmd _).2 ((hF.done_iff (by omega) htl ha hk h2).2 hm),h2⟩
   rw [hl];refine Zaf fun q hq=>?_
   obtain ⟨hq1,hq2⟩:=List.mem_filter.1 hq;obtain ⟨k,rfl,hk,hm⟩:=ZcN.1 hq1;have h0:=ha.has (hm.prod hk) hq2;unfold treU;split
   ·rfl
   ·split
    ·rw [itU_C hG hF (T':=fun s p f t=>trU g l (dnS g l) n s p f t []) (fun s p f t h1 h2 h3=>trU_C hG hF n s p f t [] h1 h2 h3) (fun s p f t h1 h2 h3 h4=>trU_S h4) _ k 0 f f t hft htl h0 Zm4]
    ·rename_i hsg;obtain ⟨i,hit,hhd,h3⟩:=Zb2 (by simpa using hsg);rw [hhd,trU_C hG hF n i.text i.prio f t _ hft htl (hF.ask (by omega) h0 (show Xf g ⟨k,0,f⟩=some i by unfold Xf; rw [hit]; rfl) h3)]
theorem ZgF {g:List Pd} {l:List Tk} (hG:GOk g l.length) (hk:∀ p∈g,∀ i∈p.items,1≤i.kind∧i.kind≤3) (sym:ByteArray) (least:Int):parX g sym least l=trU g l (dnS g l) (l.length * 13+13) sym least 0 l.length []:=by
 have hF:=fin_ok hG sym least;unfold parX;rw [Zlb (DOk.of hG hk sym least)];exact trU_C hG hF _ sym least 0 l.length [] (ZmU _) (Zmc _) hF.ini
end Go.PV.Ytfkkmdelpddojaa
end
section
open Bool renaming and_eq_true→ZmA,and_self→Zmp,false_eq_true→Zmv,false_and→Zm6
open Int renaming natCast_nonneg→ZmL,toNat_natCast→Zmw
open List renaming drop_eq_getElem_cons→ZmY,map_cons→Zmd,map_nil→Zmg,length_cons→Zmi,length_nil→Zml,all_cons→Zmz,all_nil→ZmJ,drop→Zmb,set_cons_zero→Zmn,set_cons_succ→Zmy,drop_eq_nil_of_le→Znb,getElem_mem→ZmE,getD_cons_zero→Zmq,getD_cons_succ→Zmr,getD_nil→Zms,drop_zero→Zm4,mem_cons_self→ZmR,mem_cons_of_mem→ZmN
open Nat renaming reduceEqDiff→Zl9,reduceLT→Zma,reduceAdd→Zmj,succ_ne_self→Zme,zero_add→Zmh,le_refl→Zmc,add_zero→Zmo,lt_or_ge→ZmI
open Option renaming map_none→Zna,map_some→Zm1
set_option maxRecDepth 20000
set_option maxHeartbeats 4000000
namespace Go.PV.Ytfkkmdelpddojaa
open Go Go.Proofs
def eqL {α β:Type} (p:α→β→Bool):List α→List β→Bool
 | [],[]=>true
 | a::l,b::m=>p a b && eqL p l m
 | _,_=>false
theorem Zlc {α β:Type} {p:α→β→Bool}:∀ {l:List α} {m:List β},eqL p l m=true→l.length=m.length
 | [],[],_=>rfl
 | a::l,b::m,h=>by
   simp only [eqL,ZmA] at h;simp [Zlc h.2]
theorem eqL_ne {α β:Type} {p:α→β→Bool} {l:List α} {m:List β} (h:¬ l.length=m.length):eqL p l m=false:=by
 cases he:eqL p l m with
 | false=>rfl
 | true=>exact absurd (Zlc he) h
theorem Zjm {α β:Type} {p:α→β→Bool} {l:List α} {m:List β} {i:Nat} (h:i<l.length) (h':i<m.length):eqL p (l.drop i) (m.drop i)=(p l[i] m[i] && eqL p (l.drop (i+1)) (m.drop (i+1))):=by
 rw [ZmY h,ZmY h',eqL]
theorem equalTt {l m:List Tn} {f:VV} {p:Tn→Tn→Bool} {H:AH} {K:VE→AH→Prop} (hl:l.length≤1099511627776)
 (hf:∀ (i:Nat) (h:i<l.length) (h':i<m.length) H',SubH H H'→FnAt Try.prog f [tnV l[i],tnV m[i]] (boolV (p l[i] m[i])) H') (hK:K (.ret (boolV (eqL p l m))) H):ZO Try.prog 65 [tnsV l,tnsV m,f] H K:=by
 refine ReadF.use (x:=boolV (eqL p l m)) ?_ hK;clear hK;refine Zy fd65 (by simp) ?_;delta c65 Zq Za Ze Zn Zr
 (repeat' (first | (simp only [↓Zt,Zu,intV,boolV,Zl9,Zma,reduceCtorEq,Zx,undef,Xt, *]) | (refine WN ?_ ?_<;>intro) | (refine ZC ?_) | (exact SubH.refl _) | (with_reducible refine And.intro ?_ ?_)))
 ·rename_i h;rw [eqL_ne (by simp at h; omega)]
 ·rename_i h;have hlm:l.length=m.length:=by simp at h; omega
  refine YJ (fun _ _ _ h=>h) (fun A H'=>SubH H H'∧A.d=[]∧A.t 1=tnsV m∧A.t 2=f∧A.t 15=tnsV l∧A.t 16=iV l.length∧∃ (i:Nat),i≤l.length∧A.t 17=iV i∧eqL p l m=eqL p (l.drop i) (m.drop i))
   (fun A _=>match A.t 17 with | .lit (.int _ i)=>((l.length:Int)-i).toNat | _=>0) ?_ ?_
  ·exact ⟨SubH.refl _,rfl,rfl,rfl,rfl,rfl,0,by omega,rfl,rfl⟩
  ·clear h;rintro ⟨t,d⟩ H' ⟨hs',rfl,h1,h2,h15,h16,i,hi,h17,he⟩;dsimp only at h1 h2 h15 h16 h17;rw [he];clear he;delta b65_1 Zn Zr Za Zk Zb Zi Zc Zg Zq Zm
   (repeat' (first | (refine (hf _ _ _ _ ?_) _ ?_) | (simp only [↓Yt,↓Ya,↓Ye,↓ZZ,↓Ys,↓ZaJ,↓Xe,↓ZY,↓ZF,↓ZD,↓JB,↓Xs,↓Jg,↓ZcU,↓ZcV,↓ZG,↓ZH,↓YX,↓ZJ,↓YY,↓ZI,↓ZP,↓Zv,↓ZR,↓ZE,↓ZS,↓YR,↓Yy,↓s_un,↓Xn,↓ZN,↓ZK,↓Yj,↓Yl,↓Yz,ptrV,boolV,Zmd,Zmg,Zmi,Zml,ite_true,ite_false,Zl9,Zma,Zmj,true_and,Zme,decide_true,decide_false,ZmL,Zmw,AH.get,AH.set_set,setAt,Zmz,ZmJ,Zmp,eq_self,Zmh,Zmb,and_self,Wt,Int.ofNat_lt,Wc,YB,Ws,Zmn,Zmy,↓Xo,YP,Zmc,WC,Yn,WE,XG,Yo,WD,Yp,Wf,Wg,ZkP,Int.ofNat_lt,Zdm,ZbD,XE,Xt, *]) | (refine Jw ?_ ?_<;>intro) | (refine WN ?_ ?_<;>intro) | (refine ZC ?_) | (refine YL rfl (fun _ _ _ h=>h) ?_) | (refine Zw fun zr zh=>?_; have zg:=zh; (try simp only [AH.set_none] at zg)) | (refine SubH.of_set ?_ ?_) | (exact SubH.none (by assumption) (by assumption)) | (exact SubH.none (by assumption) zg.2) | (with_reducible refine And.intro ?_ ?_)))
   ·rename_i h2;have h1:i<m.length:=by assumption
    rw [Zjm (by omega) h1,show p l[i] m[i]=false from by simpa using h2];rfl
   ·rename_i h2;have h1:i<m.length:=by assumption
    rw [ZQ (n:=(i:Int)+1) (by omega) (by omega)];exact ⟨i+1,by omega,rfl,by rw [Zjm (by omega) h1,show p l[i] m[i]=true from by simpa using h2,Bool.true_and]⟩
   ·rw [ZQ (n:=(i:Int)+1) (by omega) (by omega)];omega
   ·rw [Znb (by omega),Znb (by omega)];delta c65_1 Zq
    (repeat' (first | (simp only [↓Zt,Zu,Zl9,Zma, *]) | (refine ZC ?_)))
    rfl
mutual
def Tn.beq:Tn→Tn→Bool
 | .mk o n k,.mk o' n' k'=>decide (o=o') && decide (n=n') && ZbJ k k'
def ZbJ:List Tn→List Tn→Bool
 | [],[]=>true
 | a::l,b::m=>a.beq b && ZbJ l m
 | _,_=>false
end
theorem Zhf:∀ (l m:List Tn),ZbJ l m=eqL Tn.beq l m
 | [],[]=>rfl
 | a::l,b::m=>by rw [ZbJ,eqL,Zhf l m]
 | [],b::m=>rfl
 | a::l,[]=>rfl
mutual
theorem Tn.beq_iff:∀ (a b:Tn),a.beq b=true↔a=b
 | .mk o n k,.mk o' n' k'=>by
   simp only [Tn.beq,ZmA,decide_eq_true_eq,ZfL k k',Tn.mk.injEq,and_assoc]
theorem ZfL:∀ (l m:List Tn),ZbJ l m=true↔l=m
 | [],[]=>by simp [ZbJ]
 | a::l,b::m=>by simp only [ZbJ,ZmA,Tn.beq_iff a b,ZfL l m,List.cons.injEq]
 | [],b::m=>by simp [ZbJ]
 | a::l,[]=>by simp [ZbJ]
end
theorem Tn.beq_eq (a b:Tn):a.beq b=(decide (a.prod=b.prod) && decide (a.tok=b.tok) && eqL Tn.beq a.kids b.kids):=by
 cases a; cases b; rw [Tn.beq,Zhf]; rfl
inductive Tn.wide:Tn→Prop
 | mk (o n:Int) (ks:List Tn):ks.length≤1099511627776→(∀ k∈ks,Tn.wide k)→Tn.wide (.mk o n ks)
theorem Tn.wide.kids {a:Tn} (h:a.wide):a.kids.length≤1099511627776∧∀ k∈a.kids,k.wide:=by
 cases h with
 | mk o n ks h1 h2=>exact ⟨h1,h2⟩
theorem equal_ok (a:Tn):∀ b,a.wide→PureF Try.prog 30 [tnV a,tnV b] (boolV (a.beq b)):=by
 refine Tn.ind (p:=fun a=>∀ b,a.wide→PureF Try.prog 30 [tnV a,tnV b] (boolV (a.beq b))) (fun a ih b ha=>?_) a;have n1:=ha.kids.1;have ih':∀ (i:Nat) (h:i<a.kids.length) (h':i<b.kids.length),PureF Try.prog 30 [tnV a.kids[i],tnV b.kids[i]] (boolV (a.kids[i].beq b.kids[i])):=fun i h h'=>ih _ (ZmE h) _ (ha.kids.2 _ (ZmE h))
 clear ih ha;rw [a.beq_eq];refine PureF.forget fun H=>?_
 refine Zy fd30 (by simp) ?_;delta c30 Zj Zq Zd Zb Zn Za Zp Zr Zc
 (repeat' (first | (refine equalTt n1 (p:=Tn.beq) (fun i h h' H' _=>FnAt.lit ZlW (ih' i h h')) ?_) | (simp only [↓Ya,↓Ye,↓Xe,↓ZY,↓ZF,↓Yk,↓Yx,↓YZ,↓ZD,↓ZG,↓ZH,↓ZJ,↓ZI,↓ZP,↓ZU,↓Zv,↓ZR,↓ZE,↓ZV,↓Ym,↓YE,↓ZS,↓Yy,↓Wx,↓ZA,↓ZK,↓ZL,↓Yr,ptrV,boolV,Zmd,Zmg,Zmq,Zmr,Zms,ite_true,ite_false,Zl9,Zma,ne_eq,not_false_eq_true,true_and,Zmv,Zme,decide_true,decide_false,Bool.true_and,Zm6,Yc,Zx,AH.get,eq_self,Zmh,Zmo,Zmb,Yq,YB,↓Wz,Yn,YK,Yo,Yp,YG,undef,flT_44_0,flT_44_1,ZiS,Yd,ZaH,en_65, *]) | (refine XU ?_ ?_<;>intro) | (refine ZC ?_) | (refine Zw fun zr zh=>?_; have zg:=zh; (try simp only [AH.set_none] at zg)) | (exact SubH.refl _) | (refine SubH.of_set ?_ ?_)))
def wthF:List Tn→List Tn→List Tn
 | a,[]=>a
 | [],_::_=>[]
 | x::a,y::b=>if x.beq y=true then wthF a b else wthF (x::a) b
theorem Zjn:∀ b,wthF [] b=[]
 | []=>rfl
 | _::_=>by rw [wthF]
theorem ZdK:∀ {b a:List Tn},a.Sublist b→wthF a b=[]
 | [],a,h=>by rw [List.sublist_nil.1 h]; rfl
 | y::b,[],h=>Zjn _
 | y::b,x::a,h=>by
   rw [wthF];split
   ·rename_i e;obtain rfl:=(x.beq_iff y).1 e;exact ZdK (List.cons_sublist_cons.1 h)
   ·rename_i e;rcases List.sublist_cons_iff.1 h with h | ⟨r,hr,h⟩
    ·exact ZdK h
    ·exact absurd ((x.beq_iff y).2 (List.cons.inj hr).1) e
theorem Zhg (a b:List Tn) (hb:b.length≤1099511627776) (ha:∀ x∈a,x.wide):PureF Try.prog 21 [tnsV a,tnsV b] (boolV (decide (wthF a b=[]))):=by
 refine PureF.forget fun H=>?_
 obtain ⟨R,hR⟩:∃ R,R=wthF a b:=⟨_,rfl⟩
 rw [← hR];replace hR:=Hold.mk hR;refine Zy fd21 (by simp) ?_;delta c21 Zq Za Ze
 (repeat' (first | (simp only [↓Zt,Zu,intV,boolV,Zl9,Zma,reduceCtorEq,Zx,undef,Xt, *])))
 refine YJ (fun _ _ _ h=>h) (fun A H'=>SubH H H'∧A.d=[]∧A.t 7=tnsV b∧A.t 8=iV b.length∧∃ (i:Nat) (c:List Tn) (ex:Bool),i≤b.length∧A.t 9=iV i∧A.t 0=.slice ex c.length (encC tnE c)∧Hold (∀ x∈c,x.wide)∧Hold (R=wthF c (b.drop i)))
  (fun A _=>match A.t 9 with | .lit (.int _ i)=>((b.length:Int)-i).toNat | _=>0) ?_ ?_
 ·exact ⟨SubH.refl _,rfl,rfl,rfl,0,a,false,by omega,rfl,rfl,⟨ha⟩,by rw [Zm4]; exact hR⟩
 ·clear hR ha;rintro ⟨t,d⟩ H' ⟨hs',rfl,h7,h8,i,c,ex,hi,h9,h0,hc,hR⟩;dsimp only at h7 h8 h9 h0;delta b21_1 Zn Zr Zk Zb Zi Zg Za Ze Zm Zp Zq Zc
  have hw:IntKind.wrap .i64 ((i:Int)+1)=((i+1:Nat):Int):=by
   rcases ZmI i b.length with h | h
   ·rw [ZQ (by omega) (by omega)]; rfl
   ·rw [ZQ (by omega) (by omega)]; rfl
  by_cases hlt:i<b.length
  ·have hil:(i:Int)<(b.length:Int):=by omega
   have hdi:=ZkP hlt;have hRd:=hR.out;rw [ZmY hlt] at hRd;clear hR;cases c with
   | nil =>
     rw [wthF] at hRd;have hc0:¬ (0:Int)<((0:Nat):Int):=by omega
     replace hRd:=Hold.mk hRd
     (repeat' (first | (simp only [↓Zt,Zu,ptrV,intV,Zl9,Zma,Zmj,reduceCtorEq,Yc,Zx,setAt,↓Zbr,undef,Zdm,ZbD,XE,Xt,ZlW, *]) | (refine Yf mixed (fun _ _ _ _ e h=>⟨e.trans h.1,h.2⟩) _ (SubH.refl _) ?_) | (refine Zw fun zr zh=>?_; have zg:=zh; (try simp only [AH.set_none] at zg)) | (refine SubH.of_set ?_ ?_) | (exact SubH.none (by assumption) (by assumption)) | (with_reducible refine And.intro ?_ ?_)))
     ·exact ⟨i+1,[],ex,by omega,rfl,rfl,hc,⟨by rw [Zjn]; exact hRd.out⟩⟩
     ·omega
   | cons x c =>
     have hx:=equal_ok x b[i] (hc.out x (ZmR ..));have hc0:(0:Int)<((c.length+1:Nat):Int):=by omega
     have hdx:(encC tnE (x::c)).drop ((0:Int).toNat * 3)=iV x.prod::iV x.tok::encS tnE x.kids::encC tnE c:=by
      rw [Yg,ZcA]; rfl
     rw [wthF] at hRd;cases hbq:x.beq b[i] with
     | true =>
       rw [if_pos hbq] at hRd;rw [hbq] at hx;replace hRd:=Hold.mk hRd;clear hbq
       (repeat' (first | (simp only [↓Zt,Zu,ptrV,intV,boolV,Zl9,Zma,Zmj,reduceCtorEq,setAt,Zmb,Int.reduceLE,Xx,Zna,Zm1,Jc,idxV,idxOk,imp_self,Zdm,ZbD,XE,Xt,ZlW, *]) | (refine Yf mixed (fun _ _ _ _ e h=>⟨e.trans h.1,h.2⟩) _ (SubH.refl _) ?_) | (refine Zw fun zr zh=>?_; have zg:=zh; (try simp only [AH.set_none] at zg)) | (refine SubH.of_set ?_ ?_) | (exact SubH.none (by assumption) (by assumption)) | (refine PureF.use (hx) ?_) | (with_reducible refine And.intro ?_ ?_)))
       ·show 1≤_; omega
       ·exact ⟨i+1,c,_,by omega,rfl,by rw [show Zmb (Int.toNat 1 * 3) (encC tnE (x::c))=encC tnE c from by rw [Yg,ZcA]; rfl]; rfl,⟨fun y hy=>hc.out y (ZmN _ hy)⟩,⟨hRd.out⟩⟩
       ·omega
     | false =>
       rw [if_neg (by rw [hbq]; simp)] at hRd;rw [hbq] at hx;replace hRd:=Hold.mk hRd;clear hbq
       (repeat' (first | (simp only [↓Zt,Zu,ptrV,intV,boolV,Zl9,Zma,Zmj,reduceCtorEq,setAt,Zmb,Int.reduceLE,Zdm,ZbD,XE,Xt,ZlW, *]) | (refine Yf mixed (fun _ _ _ _ e h=>⟨e.trans h.1,h.2⟩) _ (SubH.refl _) ?_) | (refine Zw fun zr zh=>?_; have zg:=zh; (try simp only [AH.set_none] at zg)) | (refine SubH.of_set ?_ ?_) | (exact SubH.none (by assumption) (by assumption)) | (refine PureF.use (hx) ?_) | (with_reducible refine And.intro ?_ ?_)))
       ·exact ⟨i+1,x::c,ex,by omega,rfl,rfl,hc,⟨hRd.out⟩⟩
       ·omega
  ·have hil:¬ (i:Int)<(b.length:Int):=by omega
   have hRd:=hR.out;rw [Znb (by omega)] at hRd;have hRc:R=c:=by rw [hRd]; cases c<;>rfl
   subst hRc;clear hRd hR
   (repeat' (first | (simp only [↓Zt,Zu,Zma, *]) | (refine YL rfl (fun _ _ _ h=>h) ?_)))
   delta c21_1 Za Ze Zm Zc
   (repeat' (first | (simp only [↓Zt,Zu,intV,Zl9,Zma,reduceCtorEq,Xt, *]) | (refine ZC ?_)))
   rw [show decide ((R.length:Int)=0)=decide (R=[]) from decide_eq_decide.2 (by rw [← List.length_eq_zero_iff]; omega)]
end Go.PV.Ytfkkmdelpddojaa
end
section
open Bool renaming and_eq_true→ZmA
open List renaming mem_cons_self→ZmR,mem_cons_of_mem→ZmN,length_append→ZmB,length_cons→Zmi,getElem_mem→ZmE,length_take→ZmV,take_of_length_le→ZmQ
open Nat renaming le_refl→Zmc
set_option maxRecDepth 20000
set_option maxHeartbeats 4000000
namespace Go.PV.Ytfkkmdelpddojaa
open Go Go.Proofs
theorem ZaF {α β:Type} {F F':α→List β}:∀ {l l':List α},l.Sublist l'→(∀ x∈l,(F x).Sublist (F' x))→(l.flatMap F).Sublist (l'.flatMap F'):=by
 intro l l' h
 induction h with
 | slnil=>intro _; exact .slnil
 | cons x _ ih =>
   intro hf;rw [List.flatMap_cons];exact (ih hf).trans (List.sublist_append_right _ _)
 | cons_cons x _ ih =>
   intro hf;rw [List.flatMap_cons,List.flatMap_cons];exact (hf x (ZmR ..)).append (ih fun y hy=>hf y (ZmN _ hy))
theorem ZiK {p:Pd} {s:ByteArray} {a b:Int} (h:a≤b) (hs:YH p s b=true):YH p s a=true:=by
 unfold YH at hs ⊢;rw [ZmA,decide_eq_true_eq,decide_eq_true_eq] at hs ⊢;exact ⟨hs.1,by omega⟩
theorem ZlT {g:List Pd} {l:List Tk} {dn:Sp→List Int} {least most:Int} (h:least≤most) (n:Nat) (s:ByteArray) (f t:Nat) (b:List Int):(trU g l dn n s most f t b).Sublist (trU g l dn n s least f t b):=by
 cases n with
 | zero=>exact .slnil
 | succ n =>
   unfold trU;refine ZaF (List.Sublist.refl _) fun q hq=>?_
   unfold treU;by_cases h1:YH (pdAt g q) s most=false∨q∈b
   ·rw [if_pos h1]; exact List.nil_sublist _
   ·have h2:¬ (YH (pdAt g q) s least=false∨q∈b):=fun h'=>by
     rcases h' with h' | h'
     ·refine h1 (.inl ?_);cases h3:YH (pdAt g q) s most with
      | false=>rfl
      | true=>rw [ZiK h h3] at h'; cases h'
     ·exact h1 (.inr h')
    rw [if_neg h1,if_neg h2];exact List.Sublist.refl _
theorem Zh2 {l:List Tk} {T T':ByteArray→Int→Nat→Nat→List Tn} (hT:∀ s p f t,(T s p f t).Sublist (T' s p f t)):∀ (is:List It) (f t:Nat),(itU l T is f t).Sublist (itU l T' is f t)
 | [],_,_=>List.Sublist.refl _
 | i::is,f,t=>by
   unfold itU;split
   ·exact ZaF (List.Sublist.refl _) fun j _=>ZaF (hT _ _ _ _) fun x _=>(Zh2 hT is _ _).map _
   ·split
    ·exact (Zh2 hT is _ _).map _
    ·exact List.Sublist.refl _
section
variable {g more:List Pd} {l:List Tk}
theorem ZdL {q:Nat} (h:q<g.length):pdAt (g++more) (q:Int)=pdAt g (q:Int):=by
 rw [Xa h,Xa (show q<(g++more).length by rw [ZmB]; omega)];exact List.getElem_append_left h
theorem Mt.app_prods {is:List It} {f t:Nat} (h:Mt g l is f t):Mt (g++more) l is f t:=by
 induction h with
 | nil=>exact .nil _
 | tok h1 h2 h3 _ ih=>exact .tok h1 h2 h3 ih
 | sym q h1 h2 h3 h4 _ ih1 ih2=>exact .sym q h1 (by rw [ZmB]; omega) (by rw [ZdL h2]; exact h3) (by rw [ZdL h2]; exact ih1) ih2
open Classical in
theorem dnS_app (s:Sp):(dnS g l s).Sublist (dnS (g++more) l s):=by
 unfold dnS;refine List.Sublist.map _ ?_;rw [ZmB,List.range_add,List.filter_append];refine List.Sublist.trans ?_ (List.sublist_append_left _ _)
 have h:∀ L:List Nat,(∀ q∈L,q<g.length)→(L.filter fun q=>@decide (Mt g l (pdAt g (q:Nat)).items s.1 s.2) (Classical.propDecidable _)).Sublist (L.filter fun q=>@decide (Mt (g++more) l (pdAt (g++more) (q:Nat)).items s.1 s.2) (Classical.propDecidable _)):=fun L hL=>by
  induction L with
  | nil=>exact .slnil
  | cons q L ih =>
    have ih:=ih fun q hq=>hL q (ZmN _ hq)
    have hq:=hL q (ZmR ..);rw [List.filter_cons,List.filter_cons];split
    ·rename_i h1;have h1:Mt g l (pdAt g (q:Nat)).items s.1 s.2:=by simpa using h1
     rw [if_pos (decide_eq_true (by rw [ZdL hq]; exact h1.app_prods))];exact ih.cons_cons _
    ·split
     ·exact ih.cons _
     ·exact ih
 exact h _ fun q hq=>List.mem_range.1 hq
theorem Zh3:∀ (n:Nat) (s:ByteArray) (p:Int) (f t:Nat) (b:List Int),(trU g l (dnS g l) n s p f t b).Sublist (trU (g++more) l (dnS (g++more) l) n s p f t b)
 | 0,_,_,_,_,_=>.slnil
 | n+1,s,p,f,t,b=>by
   unfold trU;refine ZaF (dnS_app _) fun q hq=>?_
   obtain ⟨k,rfl,hk,_⟩:=ZcN.1 hq;unfold treU;rw [ZdL hk];split
   ·exact List.Sublist.refl _
   ·split
    ·exact (Zh2 (fun s p f t=>Zh3 n s p f t []) _ _ _).map _
    ·exact (Zh3 n _ _ _ _ _).map _
end
theorem Zf5 {l:List Tk} {T:ByteArray→Int→Nat→Nat→List Tn} (hT:∀ s p f t,∀ x∈T s p f t,x.wide):∀ (is:List It) (f t:Nat),∀ ks∈itU l T is f t,ks.length≤is.length∧∀ x∈ks,x.wide
 | [],f,t,ks,h=>by
   unfold itU at h;split at h
   ·rw [List.mem_singleton.1 h]; exact ⟨Zmc _,fun _ h=>by cases h⟩
   ·cases h
 | i::is,f,t,ks,h=>by
   unfold itU at h;split at h
   ·obtain ⟨j,_,h⟩:=List.mem_flatMap.1 h;obtain ⟨x,hx,h⟩:=List.mem_flatMap.1 h;obtain ⟨ks',hk,rfl⟩:=List.mem_map.1 h;obtain ⟨h1,h2⟩:=Zf5 hT is _ _ ks' hk;refine ⟨by rw [Zmi,Zmi]; omega,fun y hy=>?_⟩;rcases List.mem_cons.1 hy with rfl | hy
    ·exact hT _ _ _ _ _ hx
    ·exact h2 y hy
   ·split at h
    ·obtain ⟨ks',hk,rfl⟩:=List.mem_map.1 h;obtain ⟨h1,h2⟩:=Zf5 hT is _ _ ks' hk;split
     ·exact ⟨by rw [Zmi]; omega,h2⟩
     ·refine ⟨by rw [Zmi,Zmi]; omega,fun y hy=>?_⟩;rcases List.mem_cons.1 hy with rfl | hy
      ·exact .mk _ _ _ (by simp) (fun _ h=>by cases h)
      ·exact h2 y hy
    ·cases h
theorem Zf6 {g:List Pd} {l:List Tk} (hi:∀ p∈g,p.items.length≤30):∀ (n:Nat) (s:ByteArray) (p:Int) (f t:Nat) (b:List Int),∀ x∈trU g l (dnS g l) n s p f t b,x.wide
 | 0,_,_,_,_,_,x,h=>by cases h
 | n+1,s,p,f,t,b,x,h=>by
   unfold trU at h;obtain ⟨q,hq,h⟩:=List.mem_flatMap.1 h;obtain ⟨k,rfl,hk,_⟩:=ZcN.1 hq;have hk30:=hi (pdAt g (k:Int)) (by rw [Xa hk]; exact ZmE hk);unfold treU at h;split at h
   ·cases h
   ·split at h
    ·obtain ⟨ks,hks,rfl⟩:=List.mem_map.1 h;obtain ⟨h1,h2⟩:=Zf5 (fun s p f t x hx=>Zf6 hi n s p f t [] x hx) _ _ _ ks hks;exact .mk _ _ _ (by omega) h2
    ·obtain ⟨y,hy,rfl⟩:=List.mem_map.1 h;refine .mk _ _ _ (by simp) fun z hz=>?_
     rw [List.mem_singleton.1 hz];exact Zf6 hi n _ _ _ _ _ y hy
theorem Zjo {α:Type} {a b:List α} {n:Nat} (h:a.Sublist b) (hb:(b.take n).length<n):(a.take n).Sublist (b.take n):=by
 have h1:b.length<n:=by rw [ZmV] at hb; omega
 have h2:=h.length_le;rw [ZmQ (by omega),ZmQ (by omega)];exact h
theorem XT {g:List Pd} {sym:ByteArray} {least:Int} {l:List Tk} (h:(YQ g sym least l 1000).2=0):Wj g least l.length=0∧parX g sym least l ≠ []∧(YQ g sym least l 1000).1=(parX g sym least l).take 1000:=by
 unfold YQ at h ⊢;by_cases ha:Wj g least l.length=0
 ·rw [if_pos ha] at h ⊢;rw [if_neg (by omega)] at h ⊢;by_cases hx:parX g sym least l=[]
  ·rw [if_pos hx] at h; cases h
  ·rw [if_neg hx];exact ⟨ha,hx,rfl⟩
 ·rw [if_neg ha] at h; exact absurd h ha
theorem Zer {g:List Pd} {sym:ByteArray} {least:Int} {l:List Tk} (h:¬ (YQ g sym least l 1000).2=0):(YQ g sym least l 1000).1=[]:=by
 unfold YQ at h ⊢;by_cases ha:Wj g least l.length=0
 ·rw [if_pos ha] at h ⊢;rw [if_neg (by omega)] at h ⊢;by_cases hx:parX g sym least l=[]
  ·rw [if_pos hx]
  ·rw [if_neg hx] at h; exact absurd rfl h
 ·rw [if_neg ha]
theorem Zjp {g:List Pd} {sym:ByteArray} {least:Int} {l:List Tk} (ha:Wj g least l.length=0) (hx:parX g sym least l ≠ []):(YQ g sym least l 1000).2=0∧(YQ g sym least l 1000).1=(parX g sym least l).take 1000:=by
 unfold YQ;rw [if_pos ha,if_neg (by omega),if_neg hx];exact ⟨rfl,rfl⟩
theorem ZcO {g:List Pd} {least:Int} {n:Nat} (h:Wj g least n=0):Jl g=0∧prioF least=true∧n≤200:=by
 unfold Wj at h;split at h
 ·rename_i h1;split at h
  ·rename_i h2;split at h
   ·rename_i h3; exact ⟨h1,h2,h3⟩
   ·cases h
  ·cases h
 ·cases h
theorem Zf7 {g:List Pd} {least:Int} {n:Nat} (h1:Jl g=0) (h2:prioF least=true) (h3:n≤200):Wj g least n=0:=by
 unfold Wj;rw [if_pos h1,if_pos h2,if_pos h3]
theorem ZiL {g:List Pd} {sym:ByteArray} {least most:Int} {l:List Tk} (hg:g.length≤12) (hl:l.length≤20) (h0:0≤least) (hm:least≤most) (h:(YQ g sym most l 1000).2=0) :
 (YQ g sym least l 1000).2=0∧((YQ g sym least l 1000).1.length<1000→wthF (YQ g sym most l 1000).1 (YQ g sym least l 1000).1=[]):=by
 obtain ⟨ha,hx,he⟩:=XT h;obtain ⟨hc,hp,hn⟩:=ZcO ha;obtain ⟨hG,hk⟩:=GOk.of hc hg hl
 have hs:(parX g sym most l).Sublist (parX g sym least l):=by
  rw [ZgF hG hk,ZgF hG hk];exact ZlT hm _ _ _ _ _
 have ha2:Wj g least l.length=0:=Zf7 hc (by
  unfold prioF at hp ⊢;rw [ZmA,decide_eq_true_eq,decide_eq_true_eq] at hp ⊢
  omega) hn
 obtain ⟨e1,e2⟩:=Zjp (sym:=sym) ha2 (fun e=>hx (by rw [e] at hs; exact List.sublist_nil.1 hs));refine ⟨e1,fun hlt=>?_⟩;rw [he];rw [e2] at hlt ⊢;exact ZdK (Zjo hs hlt)
theorem Zj6 {g more:List Pd} {sym:ByteArray} {most:Int} {l:List Tk} (hg:g.length≤12) (hgm:(g++more).length≤12) (hl:l.length≤20) (hc2:Jl (g++more)=0) (h:(YQ g sym most l 1000).2=0) :
 (YQ (g++more) sym most l 1000).2=0∧((YQ (g++more) sym most l 1000).1.length<1000→wthF (YQ g sym most l 1000).1 (YQ (g++more) sym most l 1000).1=[]):=by
 obtain ⟨ha,hx,he⟩:=XT h;obtain ⟨hc,hp,hn⟩:=ZcO ha;obtain ⟨hG,hk⟩:=GOk.of hc hg hl;obtain ⟨hG2,hk2⟩:=GOk.of hc2 hgm hl
 have hs:(parX g sym most l).Sublist (parX (g++more) sym most l):=by
  rw [ZgF hG hk,ZgF hG2 hk2];exact Zh3 _ _ _ _ _ _
 have ha2:Wj (g++more) most l.length=0:=Zf7 hc2 hp hn;obtain ⟨e1,e2⟩:=Zjp (sym:=sym) ha2 (fun e=>hx (by rw [e] at hs; exact List.sublist_nil.1 hs));refine ⟨e1,fun hlt=>?_⟩;rw [he];rw [e2] at hlt ⊢;exact ZdK (Zjo hs hlt)
theorem Zj7 {g:List Pd} {sym:ByteArray} {least:Int} {l:List Tk} (hg:Wj g least l.length=0→g.length≤12∧l.length≤20):∀ x∈(YQ g sym least l 1000).1,x.wide:=fun x hx=>by
 by_cases h:(YQ g sym least l 1000).2=0
 ·obtain ⟨ha,_,he⟩:=XT h;obtain ⟨h1,h2⟩:=hg ha;obtain ⟨hG,hk⟩:=GOk.of (ZcO ha).1 h1 h2;rw [he] at hx;have hx:=List.mem_of_mem_take hx;rw [ZgF hG hk] at hx;exact Zf6 hG.its _ _ _ _ _ _ x hx
 ·rw [Zer h] at hx; cases hx
theorem ZlU {g:List Pd} {sym:ByteArray} {least:Int} {l:List Tk}:(YQ g sym least l 1000).1.length≤1000:=by
 by_cases h:(YQ g sym least l 1000).2=0
 ·rw [(XT h).2.2,ZmV]; omega
 ·rw [Zer h]; simp
end Go.PV.Ytfkkmdelpddojaa
end
section
open Bool renaming false_eq_true→Zmv,not_true→ZmK,not_false→ZmG
open List renaming length_append→ZmB,map_cons→Zmd,map_nil→Zmg,length_cons→Zmi,length_nil→Zml,getD_cons_zero→Zmq,getD_cons_succ→Zmr,getD_nil→Zms,cons_append→Zm5,nil_append→ZmO,append_nil→ZmF,getElem?_cons_zero→ZmC,getElem?_cons_succ→ZmD,set_cons_zero→Zmn,set_cons_succ→Zmy,replicate_succ→ZmP,replicate_zero→ZmZ,flatten_cons→ZmT,flatten_nil→ZmX
open Nat renaming reduceEqDiff→Zl9,reduceLT→Zma,reduceAdd→Zmj,reduceLeDiff→Zmu,succ_ne_self→Zme,mul_one→ZmM,zero_add→Zmh,le_refl→Zmc
set_option maxRecDepth 20000
set_option maxHeartbeats 4000000
namespace Go.PV.Ytfkkmdelpddojaa
open Go Go.Proofs
abbrev u8V (n:Int):VV:=.lit (.int .u8 n)
theorem ZiM {g:List Pd} {n:Nat} {most:Int} (h:ZcM g n most=true):(g.length≤8∨500<g.length)∧((n:Int)≤most∨200<n):=by
 unfold ZcM at h;split at h
 ·cases h
 ·rw [decide_eq_true_eq] at h;omega
theorem ZlV {g:List Pd} (h:Jl g=0):g.length≤500:=by
 unfold Jl at h;split at h
 ·rename_i h'; exact h'.1
 ·cases h
theorem ZeI {g:List Pd} {least:Int} {n:Nat} {most:Int} (hs:ZcM g n most=true) (hm:most≤20) (h:Wj g least n=0):g.length≤12∧n≤20:=by
 obtain ⟨h1,h2,h3⟩:=ZcO h;obtain ⟨h4,h5⟩:=ZiM hs
 have:=ZlV h1
 omega
theorem ZgG (g more:List Pd) (sym:ByteArray) (lo hi:Int) (l:List Tk) (hg:g.length+more.length≤1099511627776) (hgi:cntI g+cntI more≤1099511627776) (hl:l.length≤1099511627776) (hsz:sym.size≤maxLen) (hlo:0≤lo∧lo≤255) (hhi:0≤hi∧hi≤255) :
 PureF Try.prog 4 [pdsV g,pdsV more,sV sym,u8V lo,u8V hi,tksV l] (boolV true):=by
 have hci:∀ (g:List Pd),∀ p∈g,p.items.length≤cntI g:=fun g p hp=>ZkN (f:=fun p:Pd=>p.items.length) hp
 have hbi:cntI (g++more)=cntI g+cntI more:=by unfold cntI; rw [List.map_append,List.sum_append]
 have hbl:(g++more).length=g.length+more.length:=ZmB;have c1:=Zf3 g l 6 (by omega) (by omega) hl (.inl rfl);have c2:=Zf3 more [] 0 (by omega) (by omega) (by simp) (lv:=.lit (.slice none 0 0)) (.inr ⟨rfl,rfl⟩);have c3:=Zf3 (g++more) l 6 (by omega) (by omega) hl (.inl rfl);have hcc:=Zj4 g more hg;have ho1:=own_ok g (by omega) (fun p hp=>by have:=hci g p hp; omega);have ho2:=own_ok (g++more) (by omega) (fun p hp=>by have:=hci _ p hp; omega);have htk:=ZlO l hl;have hck:=Zi0 (g++more) (by omega) (fun p hp=>by have:=hci _ p hp; omega);have haw:=awake_w;refine PureF.forget fun H=>?_
 refine Zy fd4 (by simp) ?_;delta c4 Zq Za Zo Zr Zp Zc Zh Zm Ze;cases s1:ZcM g l.length 6 with
 | false =>
   rw [s1] at c1;clear c3 ho1 ho2 hck hci hbi hbl
   (repeat' (first | (simp only [↓Zt,Zu,boolV,Zl9,Zma,reduceCtorEq,Yc,Zx,undef,en_8,Zdu,en_9, *]) | (refine ZC ?_) | (exact SubH.refl _) | (refine PureF.use (c1) ?_) | (refine PureF.use (haw) ?_)))
 | true =>
   rw [s1] at c1;cases s2:ZcM more ([]:List Tk).length 0 with
   | false =>
     rw [s2] at c2;clear c3 ho1 ho2 hck hci hbi hbl
     (repeat' (first | (simp only [↓Zt,Zu,boolV,Zl9,Zma,reduceCtorEq,Yc,Zx,undef,en_8,Zdu,en_9, *]) | (refine ZC ?_) | (exact SubH.refl _) | (refine PureF.use (c1) ?_) | (refine PureF.use (c2) ?_) | (refine PureF.use (haw) ?_)))
   | true =>
     rw [s2] at c2;cases s3:ZcM (g++more) l.length 6 with
     | false =>
       rw [s3] at c3;clear ho1 ho2 hck hci hbi hbl
       (repeat' (first | (simp only [↓Zt,Zu,boolV,Zl9,Zma,Zmj,Zmu,reduceCtorEq,Zx,fillV,setAt,undef,ZB,ZB,Jp,JU,en_8,Zdu,en_9, *]) | (refine ZC ?_) | (exact SubH.refl _) | (refine PureF.use (c1) ?_) | (refine PureF.use (c2) ?_) | (refine PureF.use (c3) ?_) | (refine PureF.use (hcc) ?_) | (refine PureF.use (haw) ?_)))
     | true =>
       rw [s3] at c3;have a1:=fun most=>ZeI (least:=most) s1 (by omega)
       have a3:=fun most=>ZeI (least:=most) s3 (by omega)
       have p1:=fun most=>Zf2 g sym most l 1000 (by omega) (fun p hp=>by have:=hci g p hp; omega) hsz (a1 most)
       have p3:=fun most=>Zf2 (g++more) sym most l 1000 (by omega) (fun p hp=>by have:=hci _ p hp; omega) hsz (a3 most)
       have w1:=fun most=>Zj7 (sym:=sym) (a1 most)
       have hwl:IntKind.wrap .i64 lo=lo:=ZQ (by omega) (by omega);have hwh:IntKind.wrap .i64 hi=hi:=ZQ (by omega) (by omega);have pl:=fun least most (h0:0≤least) (hm:least≤most) (h:(YQ g sym most l 1000).2=0)=>ZiL (sym:=sym) (l:=l) (a1 most (XT h).1).1 (a1 most (XT h).1).2 h0 hm h
       have pm:=fun most (h:(YQ g sym most l 1000).2=0) (hc:Jl (g++more)=0)=>Zj6 (more:=more) (sym:=sym) (l:=l) (a1 most (XT h).1).1 (a3 most (Zf7 hc (ZcO (XT h).1).2.1 (ZcO (XT h).1).2.2)).1 (a1 most (XT h).1).2 hc h
       have hln:=fun g most=>ZlU (g:=g) (sym:=sym) (least:=most) (l:=l)
       have her:=fun g most=>Zer (g:=g) (sym:=sym) (least:=most) (l:=l)
       obtain ⟨least,most,hmn,hmx,h0,hle⟩:∃ least most,(if hi<lo then hi else lo)=least∧(if hi > lo then hi else lo)=most∧0≤least∧least≤most:=⟨_,_,rfl,rfl,by split<;>omega,by split<;>split<;>omega⟩
       have p1l:=p1 least;have p1h:=p1 most;have p3h:=p3 most;have w1h:=w1 most;have pl:=pl least most h0 hle;have pm:=pm most;have hl2:=hln g least;have hl3:=hln (g++more) most;have he1:=her g most;clear hbi hbl a1 a3 p1 p3 w1 hln her h0 hle hg hgi hl hlo hhi hci;generalize YQ g sym least l 1000=R2 at *
       generalize YQ g sym most l 1000=R1 at *
       generalize YQ (g++more) sym most l 1000=R3 at *
       obtain ⟨a,e1⟩:=R1;obtain ⟨b,e2⟩:=R2;obtain ⟨c,e3⟩:=R3;dsimp only at pl pm hl2 hl3 he1 w1h;by_cases h1:e1=0
       ·subst h1;obtain ⟨rfl,hwb⟩:=pl rfl;have pm:=pm rfl;have wb:=Zhg a b (by omega) w1h;have wc:=Zhg a c (by omega) w1h;clear pl he1
        have hb:(b.length<1000∧PureF Try.prog 21 [tnsV a,tnsV b] (boolV true))∨¬ b.length<1000:=by
         by_cases h:b.length<1000
         ·rw [decide_eq_true (hwb h)] at wb; exact .inl ⟨h,wb⟩
         ·exact .inr h
        clear wb hwb;by_cases hc:Jl (g++more)=0
        ·obtain ⟨rfl,hwc⟩:=pm hc
         have hcw:(c.length<1000∧PureF Try.prog 21 [tnsV a,tnsV c] (boolV true))∨¬ c.length<1000:=by
          by_cases h:c.length<1000
          ·rw [decide_eq_true (hwc h)] at wc; exact .inl ⟨h,wc⟩
          ·exact .inr h
         rw [hc] at hck;clear wc hwc pm hc w1h hl2 hl3;rcases hb with ⟨hb,wb⟩ | hb
         ·have hbi:(b.length:Int)<1000:=by omega
          rcases hcw with ⟨hcw,wc⟩ | hcw
          ·have hci:¬ (1000:Int)≤(c.length:Int):=by omega
           (repeat' (first | (refine JY ZgJ ZgK ?_) | (simp only [↓Yt,↓Ya,↓Ye,↓ZZ,↓Yv,↓Xe,↓ZY,↓ZF,↓Yk,↓Yx,↓YN,↓ZD,↓ZG,↓ZH,↓ZJ,↓ZI,↓ZP,↓ZU,↓Zv,↓ZR,↓ZE,↓ZV,↓Ym,↓YE,↓Yy,↓s_un,↓Js,↓YC,↓Xj,↓ZX,↓ZK,↓ZL,↓Xk,↓Zdx,↓Zdy,↓Yj,↓Yl,↓YW,↓Yr,↓XJ,Yw,intV,boolV,Zmd,Zmg,Zmi,Zml,Zmq,Zmr,Zms,Zm5,ZmO,ZmF,ite_true,ite_false,Zl9,Zma,Zmj,Zmu,ne_eq,not_false_eq_true,true_and,Zmv,Zme,decide_true,decide_false,ZmK,reduceCtorEq,ZmM,Zx,fillV,setAt,eq_self,Zmh,and_self,ZmC,ZmD,vcMax,vcMin,XR,Zmn,Zmy,Zmc,XA,undef,ZB,ZmP,ZmZ,ZmT,ZmX,ZB,Jp,JU,Xt,en_8,Zdu,en_9,ZgH,ZgI,Zfc,Zh8,Zdt, *]) | (refine ZC ?_) | (exact SubH.refl _) | (refine PureF.use (c1) ?_) | (refine PureF.use (c2) ?_) | (refine PureF.use (c3) ?_) | (refine PureF.use (hcc) ?_) | (refine PureF.use (haw) ?_) | (refine PureF.use (ho1) ?_) | (refine PureF.use (ho2) ?_) | (refine PureF.use (hck) ?_) | (refine PureF.use (htk) ?_) | (refine PureF.use (p1h) ?_) | (refine PureF.use (p1l) ?_) | (refine PureF.use (p3h) ?_) | (refine PureF.use (wb) ?_) | (refine PureF.use (wc) ?_)))
          ·have hci:(1000:Int)≤(c.length:Int):=by omega
           (repeat' (first | (refine JY ZgJ ZgK ?_) | (simp only [↓Yt,↓Ya,↓Ye,↓ZZ,↓Yv,↓Xe,↓ZY,↓ZF,↓Yk,↓Yx,↓WJ,↓YN,↓ZD,↓ZG,↓ZH,↓ZJ,↓ZI,↓ZP,↓ZU,↓Zv,↓ZR,↓ZE,↓ZV,↓Ym,↓YE,↓Yy,↓s_un,↓Js,↓YC,↓Xj,↓ZX,↓ZK,↓ZL,↓Xk,↓Zdx,↓Zdy,↓Yj,↓Yl,↓YW,↓Yr,↓XJ,Yw,intV,boolV,Zmd,Zmg,Zmi,Zml,Zmq,Zmr,Zms,Zm5,ZmO,ZmF,ite_true,ite_false,Zl9,Zma,Zmj,Zmu,ne_eq,not_false_eq_true,true_and,Zmv,Zme,decide_true,ZmK,reduceCtorEq,ZmM,Yc,Zx,fillV,setAt,eq_self,Zmh,and_self,ZmC,ZmD,vcMax,vcMin,XR,Zmn,Zmy,Zmc,XA,undef,ZB,ZmP,ZmZ,ZmT,ZmX,ZB,Jp,JU,Xt,en_8,Zdu,en_9,ZgH,ZgI,Zfc,Zh8,Zdt, *]) | (refine ZC ?_) | (exact SubH.refl _) | (refine PureF.use (c1) ?_) | (refine PureF.use (c2) ?_) | (refine PureF.use (c3) ?_) | (refine PureF.use (hcc) ?_) | (refine PureF.use (haw) ?_) | (refine PureF.use (ho1) ?_) | (refine PureF.use (ho2) ?_) | (refine PureF.use (hck) ?_) | (refine PureF.use (htk) ?_) | (refine PureF.use (p1h) ?_) | (refine PureF.use (p1l) ?_) | (refine PureF.use (p3h) ?_) | (refine PureF.use (wb) ?_)))
         ·have hbi:¬ (b.length:Int)<1000:=by omega
          rcases hcw with ⟨hcw,wc⟩ | hcw
          ·have hci:¬ (1000:Int)≤(c.length:Int):=by omega
           (repeat' (first | (refine JY ZgJ ZgK ?_) | (simp only [↓Yt,↓Ya,↓Ye,↓ZZ,↓Yv,↓Xe,↓ZY,↓ZF,↓Yk,↓Yx,↓YZ,↓YN,↓ZD,↓ZG,↓ZH,↓ZJ,↓ZI,↓ZP,↓ZU,↓Zv,↓ZR,↓ZE,↓ZV,↓Ym,↓YE,↓Yy,↓s_un,↓Js,↓YC,↓Xj,↓ZX,↓ZK,↓ZL,↓Xk,↓Zdx,↓Zdy,↓Yj,↓Yl,↓YW,↓Yr,↓XJ,Yw,intV,boolV,Zmd,Zmg,Zmi,Zml,Zmq,Zmr,Zms,Zm5,ZmO,ZmF,ite_true,ite_false,Zl9,Zma,Zmj,Zmu,ne_eq,not_false_eq_true,true_and,Zmv,Zme,decide_true,decide_false,ZmK,reduceCtorEq,ZmM,Yc,Zx,fillV,setAt,eq_self,Zmh,and_self,ZmC,ZmD,vcMax,vcMin,XR,Zmn,Zmy,Zmc,XA,undef,ZB,ZmP,ZmZ,ZmT,ZmX,ZB,Jp,JU,Xt,en_8,Zdu,en_9,ZgH,ZgI,Zfc,Zh8,Zdt, *]) | (refine ZC ?_) | (exact SubH.refl _) | (refine PureF.use (c1) ?_) | (refine PureF.use (c2) ?_) | (refine PureF.use (c3) ?_) | (refine PureF.use (hcc) ?_) | (refine PureF.use (haw) ?_) | (refine PureF.use (ho1) ?_) | (refine PureF.use (ho2) ?_) | (refine PureF.use (hck) ?_) | (refine PureF.use (htk) ?_) | (refine PureF.use (p1h) ?_) | (refine PureF.use (p1l) ?_) | (refine PureF.use (p3h) ?_) | (refine PureF.use (wc) ?_)))
          ·have hci:(1000:Int)≤(c.length:Int):=by omega
           (repeat' (first | (refine JY ZgJ ZgK ?_) | (simp only [↓Yt,↓Ya,↓Ye,↓ZZ,↓Yv,↓Xe,↓ZY,↓ZF,↓Yk,↓Yx,↓WJ,↓YZ,↓YN,↓ZD,↓ZG,↓ZH,↓ZJ,↓ZI,↓ZP,↓ZU,↓Zv,↓ZR,↓ZE,↓ZV,↓Ym,↓YE,↓Yy,↓s_un,↓Js,↓YC,↓Xj,↓ZX,↓ZK,↓ZL,↓Xk,↓Zdx,↓Zdy,↓Yj,↓Yl,↓YW,↓Yr,↓XJ,Yw,intV,boolV,Zmd,Zmg,Zmi,Zml,Zmq,Zmr,Zms,Zm5,ZmO,ZmF,ite_true,ite_false,Zl9,Zma,Zmj,Zmu,ne_eq,not_false_eq_true,true_and,Zmv,Zme,decide_true,decide_false,ZmK,reduceCtorEq,ZmM,Yc,Zx,fillV,setAt,eq_self,Zmh,and_self,ZmC,ZmD,vcMax,vcMin,XR,Zmn,Zmy,Zmc,XA,undef,ZB,ZmP,ZmZ,ZmT,ZmX,ZB,Jp,JU,Xt,en_8,Zdu,en_9,ZgH,ZgI,Zfc,Zh8,Zdt, *]) | (refine ZC ?_) | (exact SubH.refl _) | (refine PureF.use (c1) ?_) | (refine PureF.use (c2) ?_) | (refine PureF.use (c3) ?_) | (refine PureF.use (hcc) ?_) | (refine PureF.use (haw) ?_) | (refine PureF.use (ho1) ?_) | (refine PureF.use (ho2) ?_) | (refine PureF.use (hck) ?_) | (refine PureF.use (htk) ?_) | (refine PureF.use (p1h) ?_) | (refine PureF.use (p1l) ?_) | (refine PureF.use (p3h) ?_)))
        ·generalize Jl (g++more)=ce at *
         clear wc pm w1h hl2 hl3;rcases hb with ⟨hb,wb⟩ | hb
         ·have hbi:(b.length:Int)<1000:=by omega
          (repeat' (first | (refine JY ZgJ ZgK ?_) | (simp only [↓Yt,↓Ya,↓Ye,↓ZZ,↓Yb,↓Yv,↓Xe,↓ZY,↓ZF,↓Yk,↓Yx,↓YN,↓ZD,↓Xs,↓ZG,↓ZH,↓ZJ,↓ZI,↓ZP,↓ZU,↓Zv,↓ZR,↓ZE,↓ZV,↓Ym,↓YE,↓Yy,↓s_un,↓Js,↓YC,↓Xj,↓ZX,↓ZK,↓ZL,↓Xk,↓Zdx,↓Zdy,↓Yj,↓Yl,↓XJ,Yw,intV,boolV,Zmd,Zmg,Zmi,Zml,Zmq,Zmr,Zms,Zm5,ZmO,ZmF,ite_true,ite_false,Zl9,Zma,Zmj,Zmu,ne_eq,not_false_eq_true,true_and,Zmv,Zme,decide_true,decide_false,ZmK,ZmG,reduceCtorEq,ZmM,Zx,fillV,setAt,eq_self,Zmh,and_self,ZmC,ZmD,vcMax,vcMin,XR,Zmn,Zmy,Zmc,XA,undef,ZB,ZmP,ZmZ,ZmT,ZmX,ZB,Jp,JU,Xt,en_8,Zdu,en_9,ZgH,ZgI,Zfc,Zh8,Zdt, *]) | (refine ZC ?_) | (exact SubH.refl _) | (refine PureF.use (c1) ?_) | (refine PureF.use (c2) ?_) | (refine PureF.use (c3) ?_) | (refine PureF.use (hcc) ?_) | (refine PureF.use (haw) ?_) | (refine PureF.use (ho1) ?_) | (refine PureF.use (ho2) ?_) | (refine PureF.use (hck) ?_) | (refine PureF.use (htk) ?_) | (refine PureF.use (p1h) ?_) | (refine PureF.use (p1l) ?_) | (refine PureF.use (wb) ?_)))
         ·have hbi:¬ (b.length:Int)<1000:=by omega
          (repeat' (first | (refine JY ZgJ ZgK ?_) | (simp only [↓Yt,↓Ya,↓Ye,↓ZZ,↓Yb,↓Yv,↓Xe,↓ZY,↓ZF,↓Yk,↓YZ,↓YN,↓ZD,↓Xs,↓ZG,↓ZH,↓ZJ,↓ZI,↓ZP,↓ZU,↓Zv,↓ZR,↓ZE,↓ZV,↓Ym,↓YE,↓Yy,↓s_un,↓Js,↓YC,↓Xj,↓ZX,↓ZK,↓ZL,↓Xk,↓Zdx,↓Zdy,↓Yj,↓Yl,↓XJ,Yw,intV,boolV,Zmd,Zmg,Zmi,Zml,Zmq,Zmr,Zms,Zm5,ZmO,ZmF,ite_true,ite_false,Zl9,Zma,Zmj,Zmu,ne_eq,not_false_eq_true,true_and,Zmv,Zme,decide_true,decide_false,ZmK,ZmG,reduceCtorEq,ZmM,Yc,Zx,fillV,setAt,eq_self,Zmh,and_self,ZmC,ZmD,vcMax,vcMin,XR,Zmn,Zmy,Zmc,XA,undef,ZB,ZmP,ZmZ,ZmT,ZmX,ZB,Jp,JU,Xt,en_8,Zdu,en_9,ZgH,ZgI,Zfc,Zh8,Zdt, *]) | (refine ZC ?_) | (exact SubH.refl _) | (refine PureF.use (c1) ?_) | (refine PureF.use (c2) ?_) | (refine PureF.use (c3) ?_) | (refine PureF.use (hcc) ?_) | (refine PureF.use (haw) ?_) | (refine PureF.use (ho1) ?_) | (refine PureF.use (ho2) ?_) | (refine PureF.use (hck) ?_) | (refine PureF.use (htk) ?_) | (refine PureF.use (p1h) ?_) | (refine PureF.use (p1l) ?_)))
       ·have ha:=he1 h1;have z0:((0:Nat):Int)=0:=rfl;subst ha;clear pl pm he1
        (repeat' (first | (refine JY ZgJ ZgK ?_) | (simp only [↓Yt,↓Ya,↓Ye,↓ZZ,↓Yb,↓Yv,↓Xe,↓ZY,↓ZF,↓Yk,↓Yx,↓YN,↓ZD,↓Xs,↓ZG,↓ZH,↓ZJ,↓ZI,↓ZP,↓ZU,↓Zv,↓ZR,↓ZE,↓ZV,↓Ym,↓YE,↓Yy,↓s_un,↓Js,↓YC,↓Xj,↓ZX,↓ZK,↓ZL,↓Xk,↓Zdx,↓Zdy,↓Yj,↓Yr,↓XJ,Yw,intV,boolV,Zmd,Zmg,Zmi,Zml,Zmq,Zmr,Zms,Zm5,ZmO,ZmF,ite_true,ite_false,Zl9,Zma,Zmj,Zmu,ne_eq,not_false_eq_true,true_and,Zmv,Zme,decide_true,decide_false,ZmK,ZmG,reduceCtorEq,ZmM,Zx,fillV,setAt,eq_self,Zmh,and_self,ZmC,ZmD,vcMax,vcMin,XR,Zmn,Zmy,Zmc,XA,undef,ZB,ZmP,ZmZ,ZmT,ZmX,ZB,Jp,JU,Xt,en_8,Zdu,en_9,ZgH,ZgI,Zfc, *]) | (refine ZC ?_) | (exact SubH.refl _) | (refine PureF.use (c1) ?_) | (refine PureF.use (c2) ?_) | (refine PureF.use (c3) ?_) | (refine PureF.use (hcc) ?_) | (refine PureF.use (haw) ?_) | (refine PureF.use (ho1) ?_) | (refine PureF.use (htk) ?_) | (refine PureF.use (p1h) ?_)))
end Go.PV.Ytfkkmdelpddojaa
end
section
open Bool renaming and_eq_true→ZmA
open List renaming append_nil→ZmF
open Nat renaming le_refl→Zmc
set_option maxRecDepth 20000
namespace Go.Proofs.Ytfkkmdelpddojaa
open Go.ChangeShapes Go.WideShapes Go.RowKit Go.PV Go.PV.Ytfkkmdelpddojaa
theorem Zca (H:Type) (enc:TypeId × Value→H) (W:World) (base:Nat) (args:Array Value) (ds gs:List (DataW H)) (before:List MemPlace)
 (hval:∀ (j:Nat) t v,Try.f4.params[j]?=some t→args[j]?=some v→Value.okWide Try.prog W .any base t v)
 (hW:DataW.Whole enc Try.prog Try.f4.params.toList Rows.grammarPrioritiesSpec.vars false W args.toList ds gs before) (hk:Rows.uptoSmall H (ds++gs)=true) :
 Calls Try.prog 4 args W fun e W'=>∃ v,e=.returned v∧Rows.grammarPrioritiesSpec.post enc Try.prog Try.f4 false true false false W args v W':=by
 have hW':=hW;obtain ⟨p,q,hA0,hV,rfl,hfz,hnd⟩:=hW;have hA:DataW.TrodAll enc Try.prog W 0 (fun _=>true) true Try.f4.params.toList args.toList ds p:=hA0;rw [Try.params4] at hA hval;obtain ⟨v0,vs0,d0,ds0,p0,q0,hargs,rfl,rfl,h0,r0⟩:=trodAll_cons hA;obtain ⟨v1,vs1,d1,ds1,p1,q1,rfl,rfl,rfl,h1,r1⟩:=trodAll_cons r0;obtain ⟨v2,vs2,d2,ds2,p2,q2,rfl,rfl,rfl,h2,r2⟩:=trodAll_cons r1;obtain ⟨v3,vs3,d3,ds3,p3,q3,rfl,rfl,rfl,h3,r3⟩:=trodAll_cons r2;obtain ⟨v4,vs4,d4,ds4,p4,q4,rfl,rfl,rfl,h4,r4⟩:=trodAll_cons r3;obtain ⟨v5,vs5,d5,ds5,p5,q5,rfl,rfl,rfl,h5,r5⟩:=trodAll_cons r4;obtain ⟨rfl,rfl,rfl⟩:=trodAll_nil r5;obtain rfl:args=#[v0,v1,v2,v3,v4,v5]:=by cases args; simp_all
 obtain ⟨rfl,rfl⟩:=trodVars_none hV;have hb:=small_of hk;simp only [ZmF,bulkA] at hb;obtain ⟨g,_,m0,a0⟩:=Zar (rdPds _) h0 (Zmc _);obtain ⟨more,_,m1,a1⟩:=Zar (rdPds _) h1 (Zmc _);obtain ⟨sym,_,m2,a2⟩:=Zar (JK (n:=bulkD d2) Try.underlying9) h2 (Zmc _);obtain ⟨lo,k3,_,a3⟩:=Zar (ZdR (n:=bulkD d3) Try.underlying5) h3 (Zmc _);obtain ⟨hi,k4,_,a4⟩:=Zar (ZdR (n:=bulkD d4) Try.underlying5) h4 (Zmc _);obtain ⟨l,_,m5,a5⟩:=Zar (rdTks _) h5 (Zmc _);have b0:=ZeZ a0 (ZbS Try.underlying22 (hval 0 22 v0 rfl rfl));have b1:=ZeZ a1 (ZbS Try.underlying22 (hval 1 22 v1 rfl rfl));have b2:=ZeZ a2 (Zhr Try.underlying9 (hval 2 9 v2 rfl rfl));have b3:=ZeZ a3 (Zg1 Try.underlying5 (hval 3 5 v3 rfl rfl));have b4:=ZeZ a4 (Zg1 Try.underlying5 (hval 4 5 v4 rfl rfl));have b5:=ZeZ a5 (ZbS Try.underlying23 (hval 5 23 v5 rfl rfl))
 have hp:PureF Try.prog 4 [pdsV g,pdsV more,sV sym,u8V lo,u8V hi,tksV l] (boolV true):=by
  have e1:=ZkQ g;have e2:=ZkQ more;have e3:=ZhL g;have e4:=ZhL more;have e5:=tks_len l;have e6:(1048576:Nat)≤maxLen:=by decide
  simp only [Lit.wf,ZmA,decide_eq_true_eq] at k3 k4;exact ZgG g more sym lo hi l (by omega) (by unfold cntI; omega) (by omega) (by omega) k3 k4
 exact ZjG (xs:=[pdsV g,pdsV more,sV sym,u8V lo,u8V hi,tksV l]) laidOut (by kernel_rfl) (tb:=4) (by kernel_rfl) Try.underlying4 rfl hW' rfl ⟨_,_,rfl,b0,_,_,rfl,b1,_,_,rfl,b2,_,_,rfl,b3,_,_,rfl,b4,_,_,rfl,b5,rfl⟩ hp
set_option maxRecDepth 100000 in
theorem Zda (os:Os) (started:os.Started) (H:Type) (enc:TypeId × Value→H) (F:Stop.Interp) :
 ReturnsInHanded {} Try.checked os 4 .any ((Rows.OpenSpec.upto Rows.grammarPrioritiesSpec).pre6 enc Try.prog Try.f4 Rows.grammarPrioritiesUptoRow.domain false) (((Rows.OpenSpec.upto Rows.grammarPrioritiesSpec).at F).post enc Try.prog Try.f4 false true false false):=by
 refine returnsInHanded_of_cond (C:=Try.checked) (s:=Rows.OpenSpec.upto Rows.grammarPrioritiesSpec) (k:=Rows.uptoSmall) rfl own started (by kernel_rfl) Try.func4
  (OpenSpec.witness (enc:=enc) (C:=Try.checked) (s:=Rows.OpenSpec.upto Rows.grammarPrioritiesSpec) (k:=Rows.uptoSmall) rfl false ⟨#[],#[.slice none 0 0,.slice none 0 0,.string .empty,.int .u8 0,.int .u8 0,.slice none 0 0],[]⟩ 8 (by kernel_rfl) (by kernel_rfl) (by kernel_rfl)
    (x:=([.nil,.nil,.lit (.string []),.lit (.int .u8 0),.lit (.int .u8 0),.nil],[],[])) (by kernel_rfl) rfl (by kernel_rfl)) ?_
 intro W base args ds gs before hval hW _ hk _;exact Zca H enc W base args ds gs before hval hW hk
theorem grammarPriorities:Rows.GrammarPrioritiesUptoSaid :=
 OpenClaim.holds_of_cond 4 Try.f4 rfl rfl rfl rfl rfl rfl rfl ⟨rfl,rfl,rfl,rfl,rfl⟩ rfl rfl rfl rfl rfl (by kernel_rfl) Try.func4 (by kernel_rfl)
  (of_decide_eq_true (by kernel_rfl)) (by unfold Func.isWrapper; first | (rw [if_pos (by decide +kernel)]; kernel_rfl) | (rw [if_neg (by decide +kernel)]; exact ⟨rfl,rfl⟩))
  (fun os started H enc _ F=>Zda os started H enc F)
#print axioms grammarPriorities
end Go.Proofs.Ytfkkmdelpddojaa
end
