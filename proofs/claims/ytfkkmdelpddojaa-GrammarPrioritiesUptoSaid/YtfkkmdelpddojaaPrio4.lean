/- Part 4 of 10 of what the proof of Prio needs. -/
import Derived.Test.YtfkkmdelpddojaaPrio3
import Derived.RangeFuncLeaves
import Derived.RangeFuncRecord
import Derived.RecoverIn
import Derived.Laws.BitsLemmas
import Derived.Laws.Strings
import Derived.OpenShut
import Derived.Handed
import Derived.JoinedOf
import Derived.Carry
import Derived.JoinedCond
import Derived.Test.YtfkkmdelpddojaaRows
import Derived.StringKeys
set_option linter.unusedVariables false
set_option linter.unusedSimpArgs false
set_option linter.defProp false
section
open Bool renaming and_eq_true→ZmA
open List renaming range→Zmm,length_cons→Zmi
open Nat renaming lt_or_ge→ZmI
open Option renaming map_eq_some_iff→Znc
namespace Go.PV
section
variable {cx:Cx} {ops:Array Oper} {Q:APost} {Hh:AH} {Hi:Nat→AH} {stop:List Nat} {full:Array Bool} {cut:Option Nat} {K:AF→AH→Prop}
theorem ZiU {listed:Array Bool} {i j:Nat} (h:j∈rdy ops stop listed) (hne:j ≠ i):j∈rdy ops stop (listed.setIfInBounds i true):=by
 have h':=XW h;simp only [rdy,List.mem_filter,Bool.not_eq_true',List.contains_eq_mem,decide_eq_false_iff_not];exact ⟨ready_mono h'.1 hne,h'.2⟩
theorem Zfi {listed:Array Bool} {i j:Nat} (hcl:Jy ops listed) (hj:j∈Region.ready .any ops listed) (hi:i<ops.size) (hun:listed.getD i true=false):i∈Zcu ops j:=by
 obtain ⟨_,oj,hoj,hall⟩:=mem_ready.1 hj;by_cases hin:i∈Zcu ops j
 ·exact hin
 ·exfalso
  have h5:=Zaw hcl _ _ _ (fun k hk=>by
   obtain ⟨o',e,ho',he,hb,rfl⟩:=Zce hk;rw [hoj] at ho'; cases ho';exact hall e he hb) i (List.mem_range.2 hi) hin
  rcases ZmI i listed.size with h' | h'
  ·simp [h'] at hun h5; rw [hun] at h5; cases h5
  ·simp [Array.getElem?_eq_none h'] at h5
theorem need_mem {listed:Array Bool} {i j:Nat} (hcl:Jy ops listed) (hj:j∈Region.ready .any ops listed) (hi:i∈Region.ready .any ops listed):i∈Zcu ops j:=by
 obtain ⟨hun,oi,hoi,_⟩:=mem_ready.1 hi
 have hlt:i<ops.size:=by
  rcases ZmI i ops.size with h | h
  ·exact h
  ·rw [Array.getElem?_eq_none h] at hoi; cases hoi
 exact Zfi hcl hj hlt hun
theorem Zfj {i:Nat} {oi:Oper} {x:VV} (hci:cut ≠ some i) (hcut:∀ j,cut=some j→Zgn oi.op=true∨∀ listed,Jy ops listed→listed.getD j false=true→listed.getD i false=true) (hnd:∀ (j:Nat) (o:Oper) c,ops[j]?=some o→o.op ≠ .defer c) (hQ:panQ Q) (hi:ops[i]?=some oi) :
 ∀ (n:Nat) (listed:Array Bool) (A:AF) (H:AH),Jy ops listed →
   (∀ j oj,ops[j]?=some oj→j ≠ i→listed.getD j true=false→(∀ e∈oj.after,Region.binds .any e=true→e.on ≠ i)→oi.apart ops oj=true) →
   i∈rdy ops stop listed→TkG cx (gopOf ops oi) A (Hi i) x→(gone cut listed∨SubH (Hi i) H)→AAny cx ops Q Hi stop full cut K n (listed.setIfInBounds i true) (A.put oi.dst x) H→AAny cx ops Q Hi stop full cut K (n+1) listed A H
 | n,listed,A,H,hcl,hfree,hr,ht,hsub,hh=>by
   refine ⟨fun e=>(by rw [e] at hr; cases hr),fun j hj=>?_⟩;by_cases hji:j=i
   ·subst hji;simp only [AOp,hi];rcases hsub with hg | hsub
    ·have hg':=hg.set j;obtain ⟨c,hc,hl⟩:=hg;rcases hcut c hc with hp | hp
     ·exact (ht.pure hp H).use (SubH.refl _) ⟨.inl hg',hh⟩
     ·exfalso
      have h1:=hp listed hcl hl;have h0:=(mem_ready.1 (XW hr).1).1;rcases ZmI j listed.size with h' | h'
      ·simp [h'] at h0 h1; rw [h0] at h1; cases h1
      ·simp [Array.getElem?_eq_none h'] at h1
    ·exact ht.use hsub ⟨.inr fun _ _ h=>h,hh⟩
   ·have hj':=ZiU (i:=i) hj hji;cases n with
    | zero=>rw [hh.1] at hj'; cases hj'
    | succ n =>
      have h1:=hh.2 j hj';obtain ⟨hjun,oj,hoj,hall⟩:=mem_ready.1 (XW hj).1
      have hnot:∀ e∈oj.after,Region.binds .any e=true→e.on ≠ i:=fun e he hb heq=>by
       have h1:=hall e he hb;have h0:=(mem_ready.1 (XW hr).1).1;rw [heq] at h1;rcases ZmI i listed.size with h' | h'
       ·simp [h'] at h0 h1; rw [h0] at h1; cases h1
       ·simp [Array.getElem?_eq_none h'] at h1
      have hap:=hfree j oj hoj hji hjun hnot;simp only [AOp,hoj] at h1 ⊢;refine Zbb (o:=gopOf ops oj) (fun c=>hnd j oj c hoj) ?_ (vcG_put (oi:=oi) hQ hap (fun c=>hnd j oj c hoj) h1);rintro A' H' ⟨⟨u,rfl⟩,g1,g2⟩
      have g1:gone cut (listed.setIfInBounds j true)∨∀ k∈Zcu ops j,SubH (Hi k) H→SubH (Hi k) H':=by
       rcases g1 with ⟨c,hc,hl⟩ | g1
       ·left;rw [Array.setIfInBounds_comm _ _ (Ne.symm hji)] at hl;rcases Zdf hl with rfl | hl
        ·exact absurd hc hci
        ·exact ⟨c,hc,hl⟩
       ·exact .inr g1
      have g3:gone cut (listed.setIfInBounds j true)∨SubH (Hi i) H':=by
       rcases g1 with g1 | g1
       ·exact .inl g1
       ·rcases hsub with hg | hsub
        ·exact .inl (hg.set j)
        ·exact .inr (g1 i (need_mem hcl (XW hj).1 (XW hr).1) hsub)
      refine ⟨g1,Zfj hci hcut hnd hQ hi n _ _ H' (hcl.set (XW hj).1) ?_ (ZiU hr (Ne.symm hji)) (ht.same (put_same (Oper.apart_spec hap).2.2)) g3 ?_⟩
      ·intro k ok hk hki hun hno;refine hfree k ok hk hki ?_ hno;by_cases hjk:j=k
       ·subst hjk; exact hjun
       ·rw [getD_set_ne true hjk] at hun; exact hun
      ·rw [Array.setIfInBounds_comm _ _ hji];exact g2
def vcPl (cx:Cx) (Hh:AH):GPlan→(AF→AH→Prop)→APost→AF→AH→Prop
 | .fin,K,_=>K
 | .tk _ o p,K,Q=>fun A H=>vcG cx o (fun A' _=>vcPl cx Hh p K Q A' H) (fun _ _ _=>False) A Hh
 | .one _ o p,K,Q=>vcG cx o (fun A' H'=>SubH Hh H'∧vcPl cx Hh p K Q A' H') Q
 | .cut o p,K,Q=>vcG cx o (fun A' H'=>vcPl cx Hh p K Q A' H') Q
 | .two _ o p _ o' p',K,Q=>fun A H=>vcG cx o (fun A' H'=>SubH Hh H'∧vcPl cx Hh p K Q A' H') Q A H∧vcG cx o' (fun A' H'=>SubH Hh H'∧vcPl cx Hh p' K Q A' H') Q A H
def vcPl2 (cx:Cx) (Hi:Nat→AH):GPlan→(AF→AH→Prop)→APost→AF→AH→Prop
 | .fin,K,_=>K
 | .tk i o p,K,Q=>fun A H=>vcG cx o (fun A' _=>vcPl2 cx Hi p K Q A' H) (fun _ _ _=>False) A (Hi i)
 | .one nd o p,K,Q=>fun A H=>vcG cx o (fun A' H'=>(∀ k∈nd,SubH (Hi k) H→SubH (Hi k) H')∧vcPl2 cx Hi p K Q A' H') Q A H
 | .cut o p,K,Q=>vcG cx o (fun A' H'=>vcPl2 cx Hi p K Q A' H') Q
 | .two nd o p nd' o' p',K,Q=>fun A H=>vcG cx o (fun A' H'=>(∀ k∈nd,SubH (Hi k) H→SubH (Hi k) H')∧vcPl2 cx Hi p K Q A' H') Q A H∧vcG cx o' (fun A' H'=>(∀ k∈nd',SubH (Hi k) H→SubH (Hi k) H')∧vcPl2 cx Hi p' K Q A' H') Q A H
theorem ZaY {cx:Cx} {Q:APost} {o:GOp} {A:AF} {H:AH} {next next':AF→AH→Prop} (hk:∀ A H,next A H→next' A H) (h:vcG cx o next Q A H):vcG cx o next' Q A H:=by
 by_cases hnd:∀ c,o.op ≠ .defer c
 ·exact Zbb hnd hk h
 ·have hex:∃ c,o.op=.defer c:=by
   rcases Classical.em (∃ c,o.op=.defer c) with h | h
   ·exact h
   ·exact absurd (fun c hc=>h ⟨c,hc⟩) hnd
  obtain ⟨c,hc⟩:=hex;obtain ⟨dst,op,g⟩:=o;dsimp only at hc;subst hc
  have hdo:vcDo cx ⟨dst,.defer c,g⟩ next Q A H→vcDo cx ⟨dst,.defer c,g⟩ next' Q A H:=by
   rintro ⟨h1,h2,h3⟩;refine ⟨h1,h2,?_⟩;split
   ·rename_i f hf;rw [hf] at h3;dsimp only at h3;split
    ·rename_i e1 e2;rw [e1,e2] at h3;exact hk _ _ h3
    ·rename_i hn;split at h3
     ·rename_i e1 e2; exact absurd e2 (hn _ _ _ _ e1)
     ·exact h3
   ·rename_i hn;split at h3
    ·rename_i f hf; exact absurd hf (hn f)
    ·exact h3
  unfold vcG at *
  dsimp only at *
  split at h
  ·exact hdo h
  ·split at h
   ·split at h
    ·rename_i e2; rw [if_pos e2]; exact hdo h
    ·rename_i e2; rw [if_neg e2]; exact ⟨h.1,h.2.1,hk _ _ h.2.2⟩
   ·exact ⟨h.1,h.2.1,hk _ _ h.2.2⟩
   ·exact h.elim
theorem Zbc {cx:Cx} {Hh:AH} {K:AF→AH→Prop} {Q:APost}:∀ (p:GPlan) (A:AF) (H:AH),vcPl cx Hh p K Q A H→vcPl2 cx (fun _=>Hh) p K Q A H
 | .fin,A,H,h=>h
 | .tk i o p,A,H,h=>ZaY (fun A' _ h=>Zbc p A' H h) h
 | .one nd o p,A,H,h=>ZaY (next:=fun A' H'=>SubH Hh H'∧vcPl cx Hh p K Q A' H') (fun A' H' h=>⟨fun _ _ _=>h.1,Zbc p A' H' h.2⟩) h
 | .cut o p,A,H,h=>ZaY (next:=fun A' H'=>vcPl cx Hh p K Q A' H') (fun A' H' h=>Zbc p A' H' h) h
 | .two nd o p nd' o' p',A,H,h=>⟨ZaY (next:=fun A' H'=>SubH Hh H'∧vcPl cx Hh p K Q A' H') (fun A' H' h=>⟨fun _ _ _=>h.1,Zbc p A' H' h.2⟩) h.1,ZaY (next:=fun A' H'=>SubH Hh H'∧vcPl cx Hh p' K Q A' H') (fun A' H' h=>⟨fun _ _ _=>h.1,Zbc p' A' H' h.2⟩) h.2⟩
theorem Zdz {i:Nat} {o:GOp} (h:gAt ops i=some o):∃ oi,ops[i]?=some oi∧o=gopOf ops oi:=by
 simp only [gAt,Znc] at h;obtain ⟨oi,h1,rfl⟩:=h;exact ⟨oi,h1,rfl⟩
def cutOk (ops:Array Oper) (stop:List Nat) (cut:Option Nat):Prop:=∀ i oi,ops[i]?=some oi→i ∉ stop→cut ≠ some i→∀ j,cut=some j→Zgn oi.op=true∨∀ listed,Jy ops listed→listed.getD j false=true→listed.getD i false=true
theorem cutOk_of (ops:Array Oper) (tail:List Nat):cutOk ops tail (cutOf ops tail):=by
 intro i oi hi hs hne j hj;unfold cutOf at hj;split at hj
 ·split at hj
  ·rename_i j' _ hall;cases hj
   have hlt:i<ops.size:=by
    rcases ZmI i ops.size with h | h
    ·exact h
    ·rw [Array.getElem?_eq_none h] at hi; cases hi
   by_cases hin:i∈clo ops (ops.size * 20+20) (Zmm ops.size) (preds ops j)
   ·have h2:=List.all_eq_true.1 hall i hin;simp only [hi,Bool.or_eq_true,beq_iff_eq,List.contains_eq_mem,decide_eq_true_eq] at h2;rcases h2 with (h2 | h2) | h2
    ·subst h2
     exfalso
     apply hne
     unfold cutOf
     simp_all
    ·exact absurd h2 hs
    ·exact .inl h2
   ·right;intro listed hcl hl;by_cases hjo:∃ oj,ops[j]?=some oj
    ·obtain ⟨oj,hoj⟩:=hjo
     exact Zaw hcl _ _ _ (fun k hk=>by
      obtain ⟨o',e,ho',he,hb,rfl⟩:=Zce hk;exact hcl j o' hl ho' e he hb) i (List.mem_range.2 hlt) hin
    ·exfalso
     have:preds ops j=[]:=by
      unfold preds;split
      ·rename_i o ho; exact absurd ⟨o,ho⟩ hjo
      ·rfl
     rw [this] at hin
     apply hin
     cases h:ops.size * 20+20 with
     | zero=>omega
     | succ m=>simp only [clo]; exact List.mem_range.2 hlt
  ·cases hj
 ·cases hj
theorem rdy_lt {i:Nat} {oi:Oper} (hi:ops[i]?=some oi):i<ops.size:=by
 rcases ZmI i ops.size with h | h
 ·exact h
 ·rw [Array.getElem?_eq_none h] at hi; cases hi
theorem ZaC {listed:Array Bool} {i k:Nat} (h:(listed.setIfInBounds i true).getD k true=false):listed.getD k true=false:=by
 simp only [Array.getD_eq_getD_getElem?] at h ⊢;rw [Array.getElem?_setIfInBounds] at h;split at h
 ·split at h
  ·cases h
  ·cases h
 ·exact h
theorem Jj (hcut:cutOk ops stop cut) (hnd:∀ (j:Nat) (o:Oper) c,ops[j]?=some o→o.op ≠ .defer c) (hQ:panQ Q):∀ (n:Nat) (listed:Array Bool) (g:GPlan) (A:AF) (H:AH),planT cx.P ops stop full cut n listed=some g→Jy ops listed→vcPl2 cx Hi g K Q A H→(gone cut listed∨∀ k,k<ops.size→listed.getD k true=false→SubH (Hi k) H) →
 AAny cx ops Q Hi stop full cut K n listed A H
 | 0,listed,g,A,H,hp,hcl,h,hsub=>by
   simp only [planT] at hp;split at hp
   ·rename_i e;cases hp;simp only [ZmA,beq_iff_eq,List.isEmpty_iff] at e;exact ⟨e.2,e.1,h⟩
   ·cases hp
 | n+1,listed,g,A,H,hp,hcl,h,hsub=>by
   simp only [planT] at hp;split at hp
   ·rename_i e;cases hp;simp only [ZmA,beq_iff_eq,List.isEmpty_iff] at e;exact ⟨fun _=>⟨e.1,h⟩,fun i hi=>by rw [e.2] at hi; cases hi⟩
   ·split at hp
    ·rename_i i hfind;have hir:=List.mem_of_find?_eq_some hfind;have hik0:=List.find?_some hfind;simp only [ZmA,bne_iff_ne,ne_eq] at hik0;obtain ⟨hik,hci⟩:=hik0;split at hp
     ·rename_i o p ho hp';cases hp;obtain ⟨oi,hi,rfl⟩:=Zdz ho;simp only [isTk,hi,ZmA] at hik;obtain ⟨x,h1,h2⟩:=TkG.of (o:=gopOf ops oi) hik.1 h;exact Zfj hci (hcut i oi hi (XW hir).2 hci) hnd hQ hi n listed A H hcl (Region.free_spec hi hik.2) hir h1 (hsub.imp id fun h=>h i (rdy_lt hi) (mem_ready.1 (XW hir).1).1) (Jj hcut hnd hQ n _ p _ H hp' (hcl.set (XW hir).1) h2 (hsub.imp (fun h=>h.set i) (fun h k hk hu=>h k hk (ZaC hu))))
     ·cases hp
    ·split at hp
     ·rename_i i hrd;split at hp
      ·rename_i o p ho hp';cases hp;obtain ⟨oi,hi,rfl⟩:=Zdz ho;refine ⟨fun e=>(by rw [hrd] at e; cases e),fun j hj=>?_⟩;have hjr:=hj;rw [hrd] at hj;obtain rfl:j=i:=by simpa using hj
       simp only [AOp,hi];split at h
       ·rename_i hcj
        have hg:gone cut (listed.setIfInBounds j true):=by
         refine ⟨j,by simpa using hcj,?_⟩;have h0:=(mem_ready.1 (XW hjr).1).1;rcases ZmI j listed.size with h' | h'
         ·simp [Array.getD_eq_getD_getElem?,h']
         ·simp [Array.getElem?_eq_none h'] at h0
        exact Zbb (o:=gopOf ops oi) (fun c=>hnd j oi c hi) (fun A' H' hk=>⟨.inl hg,Jj hcut hnd hQ n _ p A' H' hp' (hcl.set (XW hjr).1) hk (.inl hg)⟩) h
       ·exact Zbb (o:=gopOf ops oi) (fun c=>hnd j oi c hi) (fun A' H' hk=>⟨.inr hk.1,Jj hcut hnd hQ n _ p A' H' hp' (hcl.set (XW hjr).1) hk.2 (hsub.imp (fun h=>h.set j) fun h k hks hu=>hk.1 k (Zfi hcl (XW hjr).1 hks (ZaC hu)) (h k hks (ZaC hu)))⟩) h
      ·cases hp
     ·rename_i i j hrd;split at hp
      ·rename_i o p o' p' ho hp' ho' hp'';cases hp;obtain ⟨oi,hi,rfl⟩:=Zdz ho;obtain ⟨oj,hj,rfl⟩:=Zdz ho';refine ⟨fun e=>(by rw [hrd] at e; cases e),fun k hk=>?_⟩;have hkr:=hk;rw [hrd] at hk;have hk:k=i∨k=j:=by simpa using hk
       rcases hk with rfl | rfl
       ·simp only [AOp,hi];exact Zbb (o:=gopOf ops oi) (fun c=>hnd k oi c hi) (fun A' H' hk=>⟨.inr hk.1,Jj hcut hnd hQ n _ p A' H' hp' (hcl.set (XW hkr).1) hk.2 (hsub.imp (fun h=>h.set k) fun h q hqs hu=>hk.1 q (Zfi hcl (XW hkr).1 hqs (ZaC hu)) (h q hqs (ZaC hu)))⟩) h.1
       ·simp only [AOp,hj];exact Zbb (o:=gopOf ops oj) (fun c=>hnd k oj c hj) (fun A' H' hk=>⟨.inr hk.1,Jj hcut hnd hQ n _ p' A' H' hp'' (hcl.set (XW hkr).1) hk.2 (hsub.imp (fun h=>h.set k) fun h q hqs hu=>hk.1 q (Zfi hcl (XW hkr).1 hqs (ZaC hu)) (h q hqs (ZaC hu)))⟩) h.2
      ·cases hp
     ·cases hp
theorem ZaZ {p:GPlan} {tail:List GOp} {A:AF} {H:AH} (hm:cx.P.follows .mixedOrders=true) (hQ:panQ Q) (Hi:Nat→AH) (hsub:∀ k,SubH (Hi k) H) (h:vcPl2 cx Hi p (vcL cx tail Q) Q A H):ACx cx (.dreg p tail) Q A H:=by
 intro c hc;cases c with
 | region id ops draw =>
   unfold ZM at hc;split at hc
   ·rename_i hd;subst hd;unfold Xw at hc;dsimp only at hc;split at hc
    ·rename_i hcond;simp only [ZmA] at hcond;obtain ⟨⟨⟨hg,_⟩,hnd⟩,htail⟩:=hcond;split at hc
     ·rename_i p' q hp hq;cases hc
      have hnd':∀ (j:Nat) (o:Oper) c,ops[j]?=some o→o.op ≠ .defer c:=fun j o c hj hd=>by
       have hjs:j<ops.size:=by
        rcases ZmI j ops.size with h | h
        ·exact h
        ·rw [Array.getElem?_eq_none h] at hj; cases hj
       rw [Array.getElem?_eq_getElem hjs] at hj;cases hj
       have:=Array.all_eq_true.1 hnd j hjs
       rw [hd] at this;cases this
      have hany:=Jj (cx:=cx) (K:=vcL cx (q.filterMap (gAt ops)) Q) (cutOk_of ops _) hnd' hQ _ _ p A H hp (Jy.none _) h (.inr fun k _ _=>hsub k);intro S w a hs hf;refine wpIn_region_any hm ?_;have hs':=hs.drawn (w.drawn+1);have hk:=Step.drawn S H w (w.drawn+1);have hf':=hf.step hs hk
      have:=Zfh (cx:=cx) (Q:=Q) (Hi:=Hi) (m:=(Zkc ops ops.size).length) (S0:=S) (H0:=H) (w0:=w) hg htail
       (fun A H S w a hk h1 h2 h3 fuel hfu=>Zew hg _ _ q A H S w a hq hk h1 h2 h3 fuel hfu) _ _ A H S _ a (Jy.none _) hany hk hs' hf'
      have hlen:(Zkc ops ops.size).length≤ops.size:=by
       have hg:∀ n listed,(ZeU ops n listed).length≤n:=by
        intro n
        induction n with
        | zero=>simp [ZeU]
        | succ n ih =>
          intro listed;simp only [ZeU];split
          ·simp
          ·have:=ih (listed.setIfInBounds ‹_› true)
           simp only [Zmi]; omega
       have ht:∀ (order:List Nat) n,(Zgm ops order n).length≤order.length:=by
        intro order n
        induction n with
        | zero=>simp [Zgm]
        | succ n ih =>
          simp only [Zgm];split
          ·split
           ·simp
           ·exact ih
          ·simp
       exact Nat.le_trans (ht _ _) (hg _ _)
      rwa [Nat.sub_add_cancel hlen] at this
     ·cases hc
    ·cases hc
   ·split at hc<;>cases hc
 | seq x y=>simp only [ZM] at hc; split at hc<;>cases hc
 | _=>simp [ZM] at hc
theorem Yf {p:GPlan} {tail:List GOp} {A:AF} {H:AH} (hm:cx.P.follows .mixedOrders=true) (hQ:panQ Q) (Hh:AH) (hsub:SubH Hh H) (h:vcPl cx Hh p (vcL cx tail Q) Q A H):ACx cx (.dreg p tail) Q A H :=
 ZaZ hm hQ (fun _=>Hh) (fun _=>hsub) (Zbc p A H h)
end
section
variable {cx:Cx} {Q:APost} {A:AF} {H Hh:AH} {K:AF→AH→Prop}
theorem Xc:vcPl cx Hh .fin K Q A H=K A H:=rfl
def plK (cx:Cx) (Hh:AH) (p:GPlan) (K:AF→AH→Prop) (Q:APost) (H:AH):AF→AH→Prop:=fun A' _=>vcPl cx Hh p K Q A' H
def oneK (cx:Cx) (Hh:AH) (p:GPlan) (K:AF→AH→Prop) (Q:APost):AF→AH→Prop:=fun A' H'=>SubH Hh H'∧vcPl cx Hh p K Q A' H'
def cutK (cx:Cx) (Hh:AH) (p:GPlan) (K:AF→AH→Prop) (Q:APost):AF→AH→Prop:=fun A' H'=>vcPl cx Hh p K Q A' H'
theorem s_cutK (p:GPlan) (A':AF) (H':AH):cutK cx Hh p K Q A' H'=vcPl cx Hh p K Q A' H':=rfl
def noQ:APost:=fun _ _ _=>False
theorem Wy (p:GPlan) (A':AF) (H':AH):plK cx Hh p K Q H A' H'=vcPl cx Hh p K Q A' H:=rfl
theorem XM (p:GPlan) (A':AF) (H':AH):oneK cx Hh p K Q A' H'=(SubH Hh H'∧vcPl cx Hh p K Q A' H'):=rfl
def ZbG (x:VV) (want:Bool) (cx:Cx) (d:Option Tmp) (op:Op) (Q:APost) (A:AF) (H H':AH) (k:AF→AH→Prop):Prop :=
 match x with
 | .lit (.bool t)=>(if t=want then vcDo cx ⟨d,op,none⟩ k Q A H else (dOk cx.N d∧Yc cx.P op A∧k (A.put d Zx) H'))
 | .lit (.tuple _)=>dOk cx.N d∧Yc cx.P op A∧k (A.put d Zx) H'
 | _=>False
theorem Xg (i:Nat) (d:Option Tmp) (op:Op) (p:GPlan):vcPl cx Hh (.tk i ⟨d,op,none⟩ p) K Q A H=vcDo cx ⟨d,op,none⟩ (plK cx Hh p K Q H) noQ A Hh:=rfl
theorem s_vcG (d:Option Tmp) (op:Op) (g:Tmp) (want:Bool) (next:AF→AH→Prop):vcG cx ⟨d,op,some (g,want)⟩ next Q A H=ZbG (A.t g) want cx d op Q A H H next:=by
 unfold ZbG;simp only [vcG];cases h:A.t g with
 | lit v=>cases v<;>rfl
 | _=>rfl
theorem WF (i:Nat) (d:Option Tmp) (op:Op) (g:Tmp) (want:Bool) (p:GPlan):vcPl cx Hh (.tk i ⟨d,op,some (g,want)⟩ p) K Q A H=ZbG (A.t g) want cx d op noQ A Hh H (plK cx Hh p K Q H):=by
 simp only [vcPl];rw [s_vcG];unfold ZbG;cases h:A.t g with
 | lit v=>cases v<;>rfl
 | _=>rfl
theorem Xm (nd:List Nat) (d:Option Tmp) (op:Op) (p:GPlan):vcPl cx Hh (.one nd ⟨d,op,none⟩ p) K Q A H=vcDo cx ⟨d,op,none⟩ (oneK cx Hh p K Q) Q A H:=rfl
theorem s_plCutN (d:Option Tmp) (op:Op) (p:GPlan):vcPl cx Hh (.cut ⟨d,op,none⟩ p) K Q A H=vcDo cx ⟨d,op,none⟩ (cutK cx Hh p K Q) Q A H:=rfl
theorem ZiV (nd:List Nat) (d:Option Tmp) (op:Op) (g:Tmp) (want:Bool) (p:GPlan):vcPl cx Hh (.one nd ⟨d,op,some (g,want)⟩ p) K Q A H=ZbG (A.t g) want cx d op Q A H H (oneK cx Hh p K Q):=by
 simp only [vcPl];rw [s_vcG];rfl
theorem s_plTwo (nd nd':List Nat) (o o':GOp) (p p':GPlan):vcPl cx Hh (.two nd o p nd' o' p') K Q A H=(vcPl cx Hh (.one nd o p) K Q A H∧vcPl cx Hh (.one nd' o' p') K Q A H):=rfl
section
variable {d:Option Tmp} {op:Op} {H':AH} {k:AF→AH→Prop}
theorem Zbq:ZbG (.lit (.bool true)) true cx d op Q A H H' k=vcDo cx ⟨d,op,none⟩ k Q A H:=rfl
theorem ZcY:ZbG (.lit (.bool true)) false cx d op Q A H H' k=(dOk cx.N d∧Yc cx.P op A∧k (A.put d Zx) H'):=rfl
theorem Zbr:ZbG (.lit (.bool false)) true cx d op Q A H H' k=(dOk cx.N d∧Yc cx.P op A∧k (A.put d Zx) H'):=rfl
theorem JF:ZbG (.lit (.bool false)) false cx d op Q A H H' k=vcDo cx ⟨d,op,none⟩ k Q A H:=rfl
end
end
end Go.PV
end
section
open List renaming eq_nil_of_length_eq_zero→Znd
namespace Go.PV
def ZjE (P:Program) (l:Nat) (R:Ending→World→Prop):Exit→Act→World→Prop
 | .normal,_,w=>∃ v w',(Instr.endRound l none).run P w=.ok v w'∧R (.returned v) w'
 | .ret,_,w=>∃ v w',(Instr.endRound l (some .ret)).run P w=.ok v w'∧R (.returned v) w'
 | .exit id,_,w=>∃ v w',(Instr.endRound l (some (.exit id))).run P w=.ok v w'∧R (.returned v) w'
 | .panic ch,a,w=>a.defers=[]∧R (.panicked ch) w
 | _,_,_=>False
theorem Zix {F:Fence} {n:Nat} {P:Program} {l:Nat} {f:FuncId} {tmps:Array Value} {assign body:Code} {w:World} {R:Ending→World→Prop} (hF:F.fn f) {fn:Func} (hfn:P.funcs[f]?=some fn)
 (h:assign.wpIn (F.inRound l) n P (Exit.then (fun a₁ w₁=>∃ w₂,(Instr.beginRound l).run P w₁=.ok () w₂∧body.wpIn (F.inRound l) n P (ZjE P l R) a₁ w₂) (fun _ _ _=>False))
   { tmps:=tmps,defers:=[] } w) :
 RoundIn F n P l f tmps assign body w R:=by
 refine ⟨hF,fun c cs hr=>?_⟩
 let b:Frame:={ (default:Frame) with fn:=f,kind:=.normal,roundOf:=some l }
 have hb0:Frame.round l f tmps assign body .normal=b.atR { tmps:=tmps,defers:=[] } [.code assign,.beginRound,.code body]:=by
  simp [Frame.round,Frame.atR,b]
 have hr':(F.inRound l).room ((c::cs).length+1+n):=hr;have hF':(F.inRound l).fn b.fn:=hF;obtain ⟨e,a₁,w₁,hq,harr⟩:=h b [.beginRound,.code body] (c::cs) rfl hF' hr';rw [← hb0] at harr;cases e with
 | normal =>
   obtain ⟨w₂,hbr,hbody⟩:=hq
   have s1:StepsIn (Machine.fenced P (F.inRound l)) P (lone (b.atR a₁ [.beginRound,.code body]) (c::cs) w₁) (lone (b.atR a₁ [.code body]) (c::cs) w₂) :=
    .one (fenced_calm (fr:=b.atR a₁ [.beginRound,.code body]) hF' hr' rfl) (stepR_beginRound rfl hbr)
   obtain ⟨e₂,a₂,w₃,hq₂,harr₂⟩:=hbody b [] (c::cs) rfl hF' hr';cases e₂ with
   | normal =>
     obtain ⟨v,w₄,hend,hR⟩:=hq₂;exact ⟨.returned v,w₄,hR,(StepsIn.trans harr s1).trans (StepsIn.trans harr₂ (.one (fenced_calm (fr:=b.atR a₂ []) hF' hr' rfl) (stepR_round_end rfl rfl hend)))⟩
   | ret =>
     obtain ⟨v,w₄,hend,hR⟩:=hq₂;obtain ⟨k₁,hs⟩:=harr₂.2 rfl;exact ⟨.returned v,w₄,hR,(StepsIn.trans harr s1).trans (StepsIn.trans hs (.one (fenced_calm (fr:=b.atR a₂ (.code .ret::k₁)) hF' hr' rfl) (stepR_round_ret rfl rfl hend)))⟩
   | exit id =>
     obtain ⟨v,w₄,hend,hR⟩:=hq₂;obtain ⟨k₁,hk,hs⟩:=harr₂.2 rfl rfl;exact ⟨.returned v,w₄,hR,(StepsIn.trans harr s1).trans (StepsIn.trans hs (.one (fenced_calm (fr:=b.atR a₂ (.code (.exit id)::k₁)) hF' hr' rfl) (stepR_round_exit rfl rfl hk hend)))⟩
   | goto t=>exact hq₂.elim
   | panic chain =>
     obtain ⟨hd,hR⟩:=hq₂;obtain ⟨todo,hs⟩:=harr₂;have hleave:Frame.leaving P { b.atR a₂ todo with mode:=.panicking chain } w₃ (.panicked chain):=⟨rfl,hd,fn,hfn⟩
     have hl:(lone { b.atR a₂ todo with mode:=.panicking chain } (c::cs) w₃).fenced P (F.inRound l):=fenced_leaving hF' hr' hleave;exact ⟨.panicked chain,w₃,hR,(StepsIn.trans harr s1).trans (StepsIn.trans hs (.one hl (step_leave_panicked hleave)))⟩
   | outgrown=>exact hq₂.elim
 | exit id=>exact hq.elim
 | goto t=>exact hq.elim
 | ret=>exact hq.elim
 | panic chain=>exact hq.elim
 | outgrown=>exact hq.elim
def Zap:List Tmp→List VV→(Nat→VV)→(Nat→VV)
 | p::ps,x::xs,t=>Zap ps xs (upd t p x)
 | _,_,t=>t
theorem Zex {S:Nat→Prop} {w:World} {N:Nat}:∀ {ps:List Tmp} {xs:List VV} {us:List Value} {t:Nat→VV} {ts:Array Value},RvL S w xs us→xs.length=ps.length→(∀ p∈ps,p<N)→ts.size=N→RvT S w t ts →
 RvT S w (Zap ps xs t) ((ps.zip us).foldl (fun t (p,v)=>t.setIfInBounds p v) ts)∧((ps.zip us).foldl (fun (t:Array Value) (p,v)=>t.setIfInBounds p v) ts).size=N
 | [],xs,us,t,ts,hx,hl,hp,hn,ht=>by
   have:xs=[]:=Znd (by simpa using hl)
   subst this;simp [RvL] at hx; subst hx;exact ⟨ht,hn⟩
 | p::ps,[],us,t,ts,hx,hl,hp,hn,ht=>by simp at hl
 | p::ps,x::xs,us,t,ts,hx,hl,hp,hn,ht=>by
   obtain ⟨u,us',rfl,h1,h2⟩:=hx;simp only [List.zip_cons_cons,List.foldl_cons,Zap];exact Zex h2 (by simpa using hl) (fun q hq=>hp q (by simp [hq])) (by simpa using hn) (RvT.put ht (by rw [hn]; exact hp p (by simp)) h1)
def Zic (l:Nat) (fn:FuncId) (N:Nat) (t:Nat→VV) (ps:Array Tmp) (asg bd:Code) (ds:Nat) (K:VE→AH→Prop):APost
 | .normal=>fun _ H=>(∃ pe,H l=some (.loop .busy pe fn N t ps asg bd ds))∧K (.ret (boolV true)) (H.set l (.loop .ready none fn N t ps asg bd ds))
 | .ret=>fun _ H=>(∃ pe,H l=some (.loop .busy pe fn N t ps asg bd ds))∧K (.ret (boolV false)) (H.set l (.loop .done (some .ret) fn N t ps asg bd ds))
 | .exit id=>fun _ H=>(∃ pe,H l=some (.loop .busy pe fn N t ps asg bd ds))∧K (.ret (boolV false)) (H.set l (.loop .done (some (.exit id)) fn N t ps asg bd ds))
 | .panic ch=>fun A H=>A.d=[]∧K (.pan ch) H
 | _=>fun _ _=>False
theorem ZaD {P:Program} {ro:Option Nat} {l:Nat} {xs:List VV} {H:AH} {K:VE→AH→Prop} {pe:Option Code} {fn:FuncId} {N:Nat} {t:Nat→VV} {ps:Array Tmp} {asg bd:Code} {ds:Nat}
 (hl:H l=some (.loop .ready pe fn N t ps asg bd ds)) (hlen:xs.length=ps.size) (hps:∀ p∈ps.toList,p<N) (hfn:(P.funcs[fn]?).isSome=true)
 (h:AC ⟨P,N,some l⟩ asg (thenA (fun A1 H1=>(∃ pe,H1 l=some (.loop .ready pe fn N t ps asg bd ds))∧∀ pe,AC ⟨P,N,some l⟩ bd (Zic l fn N t ps asg bd ds K) A1 (H1.set l (.loop .busy pe fn N t ps asg bd ds))) (fun _ _ _=>False)) ⟨Zap ps.toList xs t,[]⟩ H) :
 ACall P ro (.lit (.func (.yield l) #[] #[])) xs H K:=by
 intro S w f args hs hf hx;obtain rfl:f=.func (.yield l) #[] #[]:=hf;obtain ⟨fn',hfn'⟩:=Option.isSome_iff_exists.1 hfn;obtain ⟨ts,ht1,ht2,ht3⟩:=hs.blk l _ hl;have hargs:args.size=ps.size:=by rw [← hlen]; simpa using hx.length
 refine ⟨fun d w' hd f' hle=>?_,?_⟩
 ·simp only [Deferred.ofValue,Sem.run_pure,Result.ok.injEq] at hd;obtain ⟨rfl,rfl⟩:=hd;simp [Target.leads] at hle
 have hy:=run_yield (P:=P) (args:=args) ht1 hargs
 have hr:(do let d ← Deferred.ofValue (.func (.yield l) #[] #[]) args; invoke d.target d.args:Sem Next).run P w=(Instr.yield l args).run P w:=by
  simp only [Deferred.ofValue,invoke,Sem.run_bind,Sem.run_pure,Result.andThen_ok,Array.empty_append]
 rw [hr,hy];dsimp only;refine Zix (show (P.funcs[fn]?).isSome=true from hfn) hfn' ?_
 have hz:(ps.zip args).foldl (fun (t:Array Value) (p,v)=>t.setIfInBounds p v) ts=(ps.toList.zip args.toList).foldl (fun t (p,v)=>t.setIfInBounds p v) ts:=by
  rw [← Array.foldl_toList,Array.toList_zip]
 obtain ⟨g1,g2⟩:=Zex (N:=N) (S:=S) (w:=w) hx (by simpa using hlen) hps ht2 ht3;rw [← hz] at g1 g2;refine wpIn_mono (h S w { tmps:=(ps.zip args).foldl (fun (t:Array Value) (p,v)=>t.setIfInBounds p v) ts,defers:=[] } hs ⟨g2,rfl,g1⟩) ?_;rintro e a1 w1 ⟨h0,S1,H1,A1,k1,k2,k3,k4⟩;cases e with
 | normal =>
   obtain ⟨⟨pe1,hl1⟩,hbody⟩:=k4;obtain ⟨ts1,q1,q2,q3⟩:=k2.blk l _ hl1;refine ⟨_,run_beginRound q1 rfl,?_⟩
   have hw:=k2.write (c:=.loop .busy pe1 fn N t ps asg bd ds) (o:=.loop { state:=.busy,pending:=pe1,fn,tmps:=ts1,params:=ps,assign:=asg,body:=bd,defers:=ds }) hl1
    ⟨ts1,by rw [Array.getElem?_setIfInBounds_self_of_lt (k2.lt_of hl1)],q2,fun i=>RvT.step q3 k2 (k2.write (c:=.obj (.loop { state:=.busy,pending:=pe1,fn,tmps:=ts1,params:=ps,assign:=asg,body:=bd,defers:=ds })) hl1 (by simp [RvB,k2.lt_of hl1])).2 i⟩
   refine wpIn_mono (hbody pe1 S1 _ a1 hw.1 (k3.step k2 hw.2)) ?_;rintro e a2 w2 ⟨h0',S2,H2,A2,m1,m2,m3,m4⟩
   have fin:∀ (jump:Option Code),(∃ pe,H2 l=some (.loop .busy pe fn N t ps asg bd ds))→K (.ret (boolV jump.isNone)) (H2.set l (.loop (if jump.isNone then .ready else .done) jump fn N t ps asg bd ds)) →
    ∃ v w',(Instr.endRound l jump).run P w2=.ok v w'∧RQ K S H w (.returned v) w':=by
    rintro jump ⟨pe2,hl2⟩ hk;obtain ⟨ts2,r1,r2,r3⟩:=m2.blk l _ hl2
    have hw2:=m2.write (c:=.loop (if jump.isNone then .ready else .done) jump fn N t ps asg bd ds) (o:=.loop { state:=if jump.isNone then .ready else .done,pending:=jump,fn,tmps:=ts2,params:=ps,assign:=asg,body:=bd,defers:=ds }) hl2
     ⟨ts2,by rw [Array.getElem?_setIfInBounds_self_of_lt (m2.lt_of hl2)],r2,fun i=>RvT.step r3 m2 (m2.write (c:=.obj (.loop { state:=if jump.isNone then .ready else .done,pending:=jump,fn,tmps:=ts2,params:=ps,assign:=asg,body:=bd,defers:=ds })) hl2 (by simp [RvB,m2.lt_of hl2])).2 i⟩
    exact ⟨_,_,run_endRound jump r1,S2,_,boolV jump.isNone,((k1.trans hw.2).trans m1).trans hw2.2,hw2.1,rfl,hk⟩
   cases e with
   | normal=>exact fin none m4.1 m4.2
   | ret=>exact fin (some .ret) m4.1 m4.2
   | exit id=>exact fin (some (.exit id)) m4.1 m4.2
   | panic ch=>exact ⟨m3.2.1.trans m4.1,S2,H2,(k1.trans hw.2).trans m1,m2,m4.2⟩
   | goto t=>exact m4.elim
   | outgrown=>exact absurd rfl h0'
 | _=>first | exact k4.elim | exact absurd rfl h0
end Go.PV
end
section
namespace Go.PV
def FunV (x:VV) (g:FuncId) (first cap:List VV):Prop :=
 x=.func (.func g) first cap∨∃ a b:Array Value,x=.lit (.func (.func g) a b)∧first=a.toList.map .lit∧cap=b.toList.map .lit
theorem FunV.real {x:VV} {g:FuncId} {first cap:List VV} (h:FunV x g first cap) {S:Nat→Prop} {w:World} {u:Value} (hx:Rv S w x u):∃ a b,u=.func (.func g) a b∧RvL S w first a.toList∧RvL S w cap b.toList:=by
 rcases h with rfl | ⟨a,b,rfl,rfl,rfl⟩
 ·obtain ⟨a,b,rfl,h1,h2⟩:=hx;exact ⟨a,b,rfl,h1,h2⟩
 ·obtain rfl:=hx;exact ⟨a,b,rfl,RvL.lits _,RvL.lits _⟩
def WL (r:Nat):Deferred:={ target:=.collected r,args:=#[] }
def rfPost (Q:APost) (A:AF) (r l:Nat) (fn:FuncId) (N:Nat) (ps:Array Tmp) (asg bd:Code):VE→AH→Prop
 | .ret _,H=>∃ st jump,H l=some (.loop st jump fn N A.t ps asg bd r)∧st ≠ .busy ∧
    (match jump with
     | none=>Q .normal { A with d:=WL r::A.d } (H.del l)
     | some .ret=>Q .ret { A with d:=WL r::A.d } (H.del l)
     | some (.exit id)=>Q (.exit id) { A with d:=WL r::A.d } (H.del l)
     | _=>False)
 | .pan ch,H=>Q (.panic ch) { A with d:=WL r::A.d } H
theorem Zcf {cx:Cx} {Q:APost} {A:AF} {H:AH} {g:Operand} {ps:Array Tmp} {asg bd:ACode} (hro:cx.ro=none) {gf:FuncId} {first cap:List VV} (hg:FunV (A.eval g) gf first cap) (he:Zz cx.P gf=true)
 (h:∀ r l fn ca cb,ZM cx.P ca=asg→ZM cx.P cb=bd→H r=none→H l=none→l ≠ r→(cx.P.funcs[fn]?).isSome=true →
   ZO cx.P gf (first++[.lit (.func (.yield l) #[] #[])]++cap) ((H.set r (.obj (.deferred (some [])))).set l (.loop .ready none fn cx.N A.t ps ca cb r)) (rfPost Q A r l fn cx.N ps ca cb)) :
 ACx cx (.rfunc g ps asg bd) Q A H:=by
 intro c hc;cases c with
 | rangeFunc g' ps' ca cb =>
   simp only [ZM,ACode.rfunc.injEq] at hc;obtain ⟨rfl,rfl,hca,hcb⟩:=hc;intro S w a hs hf;refine wpIn_rangeFunc ?_;intro fn hfn;have hroF:(Xy cx.P cx.ro).round=none:=hro;rw [hroF];obtain ⟨x,y,hu,hx1,hx2⟩:=hg.real (hf.eval g');have p1:=hs.push (o:=.deferred (some [])) (b:=.obj (.deferred (some []))) (by simp [RvB])
   have p2:=p1.1.push (o:=.loop { state:=.ready,pending:=none,fn,tmps:=a.tmps,params:=ps',assign:=ca,body:=cb,defers:=w.heap.size })
    (b:=.loop .ready none fn cx.N A.t ps' ca cb w.heap.size) ⟨a.tmps,Array.getElem?_push_size,hf.1,by
      have q:=p1.1.push (o:=.loop { state:=.ready,pending:=none,fn,tmps:=a.tmps,params:=ps',assign:=ca,body:=cb,defers:=w.heap.size }) (b:=.obj (.loop { state:=.ready,pending:=none,fn,tmps:=a.tmps,params:=ps',assign:=ca,body:=cb,defers:=w.heap.size })) Array.getElem?_push_size;exact (hf.2.2.step hs p1.2.1).step p1.1 q.2.1⟩
   have hsz:(w.heap.push (.deferred (some []))).size=w.heap.size+1:=by simp
   have hn0:H w.heap.size=none:=p1.2.2
   have hn1:H (w.heap.size+1)=none:=by
    have:=p2.2.2
    simp only [hsz] at this
    rwa [AH.set_ne _ _ (by omega)] at this
   have hk:=p1.2.1.trans p2.2.1;have hc1:=h w.heap.size (w.heap.size+1) fn ca cb hca hcb hn0 hn1 (by omega) hfn;have hsim:=p2.1;simp only [hsz] at hsim hk;refine ⟨w.heap.size+1,[WL w.heap.size],_,{ target:=.fn (.func gf) y,args:=x++#[.func (.yield (w.heap.size+1)) #[] #[]] },((w.alloc (.deferred (some []))).alloc (.loop { state:=.ready,pending:=none,fn,tmps:=a.tmps,params:=ps',assign:=ca,body:=cb,defers:=w.heap.size })),gf,(x++#[.func (.yield (w.heap.size+1)) #[] #[]])++y,((w.alloc (.deferred (some []))).alloc (.loop { state:=.ready,pending:=none,fn,tmps:=a.tmps,params:=ps',assign:=ca,body:=cb,defers:=w.heap.size })),run_enterLoop_outer _ _ _ _ _,?_,?_,?_,fun h=>(by cases h),?_⟩
   ·have hmap:(#[Operand.const (Value.func (Fn.yield (w.heap.size+1)) #[] #[])].map a.eval)=#[Value.func (Fn.yield (w.heap.size+1)) #[] #[]]:=by simp [Act.eval]
    simp only [resolve,hu,Deferred.ofValue,Sem.run_pure,hmap]
   ·intro f' hf';simp only [Target.leads,Option.some.injEq] at hf';rw [← hf']; exact We he
   ·simp only [invoke,Jv he]
   ·have hargs:RvL S ((w.alloc (.deferred (some []))).alloc (.loop { state:=.ready,pending:=none,fn,tmps:=a.tmps,params:=ps',assign:=ca,body:=cb,defers:=w.heap.size })) (first++[VV.lit (.func (.yield (w.heap.size+1)) #[] #[])]++cap) ((x++#[Value.func (.yield (w.heap.size+1)) #[] #[]])++y).toList:=by
     have e:((x++#[Value.func (.yield (w.heap.size+1)) #[] #[]])++y).toList=x.toList++[Value.func (.yield (w.heap.size+1)) #[] #[]]++y.toList:=by simp
     rw [e];exact ((hx1.step hs hk).append (RvL.lits [Value.func (Fn.yield (w.heap.size+1)) #[] #[]])).append (hx2.step hs hk)
    have hcall:=hc1 S ((w.alloc (.deferred (some []))).alloc (.loop { state:=.ready,pending:=none,fn,tmps:=a.tmps,params:=ps',assign:=ca,body:=cb,defers:=w.heap.size })) _ hsim hargs;refine ⟨We he,fun cs hr=>?_⟩;obtain ⟨e,w3,fr,hR,rest⟩:=(Jt (ro:=cx.ro)).2 hcall |>.2 cs hr
    refine ⟨e,w3,fr,?_,rest⟩;have hf':RvF cx.N S w { A with d:=WL w.heap.size::A.d } { a with defers:=[WL w.heap.size]++a.defers }:=⟨hf.1,by simp [hf.2.1],hf.2.2⟩
    cases e with
    | returned v =>
      obtain ⟨S',H',x',k1,k2,k3,st,jump,k4,k5,k6⟩:=hR;obtain ⟨ts,q1,q2,q3⟩:=k2.blk _ _ k4
      have hwr:=k2.write (c:=.obj (.loop { state:=.exhausted,pending:=jump,fn,tmps:=ts,params:=ps',assign:=ca,body:=cb,defers:=w.heap.size })) (o:=.loop { state:=.exhausted,pending:=jump,fn,tmps:=ts,params:=ps',assign:=ca,body:=cb,defers:=w.heap.size }) k4
       (by simp [RvB,k2.lt_of k4])
      have hdel:=hwr.1.del (w.heap.size+1);have hall:=((hk.trans k1).trans hwr.2).trans hdel.2
      have hdd:(H'.set (w.heap.size+1) (.obj (.loop { state:=.exhausted,pending:=jump,fn,tmps:=ts,params:=ps',assign:=ca,body:=cb,defers:=w.heap.size }))).del (w.heap.size+1)=H'.del (w.heap.size+1):=by
       funext i; simp only [AH.del,AH.set]; split<;>rfl
      rw [hdd] at hdel hall;refine ⟨jump,_,run_endLoop q1 k5,?_⟩;have hfr:=hf'.step hs hall;cases jump with
      | none=>exact ⟨by simp,_,_,_,hall,hdel.1,hfr,k6⟩
      | some c =>
        cases c with
        | ret=>exact wpIn_ret ⟨by simp,_,_,_,hall,hdel.1,hfr,k6⟩
        | exit id=>exact wpIn_exit ⟨by simp,_,_,_,hall,hdel.1,hfr,k6⟩
        | _=>exact k6.elim
    | panicked ch =>
      obtain ⟨S',H',k1,k2,k4⟩:=hR;exact ⟨by simp,_,_,_,hk.trans k1,k2,hf'.step hs (hk.trans k1),k4⟩
    | outgrown=>exact hR.elim
 | region id ops draw =>
   exfalso
   unfold ZM Xw at hc;split at hc
   ·dsimp only at hc;split at hc
    ·split at hc<;>cases hc
    ·cases hc
   ·split at hc<;>cases hc
 | seq x y=>simp only [ZM] at hc; split at hc<;>cases hc
 | _=>simp [ZM] at hc
end Go.PV
end
section
open List renaming getD_eq_getElem?_getD→Zne,getElem?_eq_none→ZmS,eq_nil_of_length_eq_zero→Znd,getElem?_cons_zero→ZmC,mem_cons_self→ZmR,mem_cons_of_mem→ZmN,range→Zmm,getElem?_cons_succ→ZmD
open Nat renaming lt_or_ge→ZmI
namespace Go.PV
def DQ (K:VE→FrameMode→AH→Prop) (S:Nat→Prop) (H:AH) (w:World):Ending→FrameMode→World→Prop
 | .returned v,u,w'=>∃ S' H' x,Step S H w S' H' w'∧Sim S' H' w'∧Rv S' w' x v∧K (.ret x) u H'
 | .panicked ch,u,w'=>∃ S' H',Step S H w S' H' w'∧Sim S' H' w'∧K (.pan ch) u H'
 | .outgrown,_,_=>False
def Zid (P:Program) (f:FuncId) (xs:List VV) (u:FrameMode) (H:AH) (K:VE→FrameMode→AH→Prop):Prop :=
 ∀ S w (args:Array Value),Sim S H w→RvL S w xs args.toList→CallsDIn (Xy P none) 0 P f args u w (DQ K S H w)
def WB (P:Program) (rs:List ResultVar) (K:VE→AH→Prop) (t:Nat→VV):List Deferred→FrameMode→AH→Prop
 | [],.returning,H=>∃ x H' x',resV P rs ⟨t,[]⟩ H=some x∧GhV H x H' x'∧K (.ret x') H'
 | [],.panicking ch,H=>∃ H',SubH H' H∧K (.pan ch) H'
 | [],.run,_=>False
 | ⟨.collected r,_⟩::ds,u,H=>u ≠ .run∧H r=some (.obj (.deferred (some [])))∧WB P rs K t ds u (H.del r)
 | ⟨.fn (.func f) cap,args⟩::ds,u,H=>u ≠ .run∧Zz P f=true∧∃ xs H0,GhL H ((args++cap).toList.map .lit) H0 xs∧Zid P f xs u H0 fun
     | .ret _,u',H'=>WB P rs K t ds (settle u') H'
     | .pan ch,u',H'=>WB P rs K t ds (raised u' ch) H'
 | _::_,_,_=>False
def ZiW (P:Program) (rs:List ResultVar) (K:VE→AH→Prop):APost
 | .normal=>fun A H=>WB P rs K A.t A.d .returning H
 | .ret=>fun A H=>WB P rs K A.t A.d .returning H
 | .panic ch=>fun A H=>WB P rs K A.t A.d (.panicking ch) H
 | _=>fun _ _=>False
theorem WV {P:Program} {fn:Func} {K:VE→AH→Prop} {t:Nat→VV} {tmps:Array Value} {S0:Nat→Prop} {H0:AH} {w0:World}:∀ (ds:List Deferred) (u:FrameMode) (S:Nat→Prop) (H:AH) (w:World),WB P fn.results.toList K t ds u H→Step S0 H0 w0 S H w→Sim S H w→RvT S w t tmps →
 LeavesInM (Xy P none) 0 P fn tmps (RQ K S0 H0 w0) ds u w
 | [],.returning,S,H,w,h,k,hs,ht=>by
   obtain ⟨x,H',x',g1,g2,g3⟩:=h;obtain ⟨v,q1,q2⟩:=Zbp (N:=tmps.size) (a:={ tmps:=tmps,defers:=[] }) hs ⟨rfl,rfl,ht⟩ g1;obtain ⟨S',p1,p2,p3⟩:=g2 S w v hs q2;exact ⟨v,q1,S',H',x',k.trans p1,p2,p3,g3⟩
 | [],.panicking ch,S,H,w,h,k,hs,ht=>by
   obtain ⟨H',g2,g3⟩:=h;exact ⟨S,H',k.trans (hs.sub g2).2,(hs.sub g2).1,g3⟩
 | [],.run,S,H,w,h,k,hs,ht=>h.elim
 | ⟨.collected r,asg⟩::ds,u,S,H,w,h,k,hs,ht=>by
   simp only [WB] at h;obtain ⟨hu,hr,h⟩:=h;refine ⟨hu,.inl ⟨r,_,rfl,run_takeDeferred (hs.blk r _ hr),?_⟩⟩;have hwr:=hs.write (c:=.obj (.deferred none)) (o:=.deferred none) hr (by simp [RvB,hs.lt_of hr]);have hdel:=hwr.1.del r;have hall:=hwr.2.trans hdel.2;have hdd:(H.set r (.obj (.deferred none))).del r=H.del r:=by funext i; simp only [AH.del,AH.set]; split<;>rfl
   rw [hdd] at hdel hall;exact WV ds u S _ _ h (k.trans hall) hdel.1 (ht.step hs hall)
 | ⟨.fn (.func f) cap,asg⟩::ds,u,S,H,w,h,k,hs,ht=>by
   simp only [WB] at h;obtain ⟨hu,he,xs,H1,gh,h⟩:=h;obtain ⟨S1,a1,a2,a3⟩:=gh S w (asg++cap).toList hs (RvL.lits _);refine ⟨hu,.inr ⟨fun h=>(by cases h),.func f,cap,f,asg++cap,rfl,Jv he _ _,fun g hg=>?_,?_⟩⟩
   ·simp only [Target.leads,Option.some.injEq] at hg;rw [← hg]; exact We he
   ·refine CallsDIn.mono (h S1 w (asg++cap) a2 a3) ?_;intro e u' w' hq;cases e with
    | returned v =>
      obtain ⟨S',H',x,g1,g2,g3,g4⟩:=hq;exact WV ds (settle u') S' H' w' g4 ((k.trans a1).trans g1) g2 (ht.step hs (a1.trans g1))
    | panicked ch =>
      obtain ⟨S',H',g1,g2,g4⟩:=hq;exact WV ds (raised u' ch) S' H' w' g4 ((k.trans a1).trans g1) g2 (ht.step hs (a1.trans g1))
    | outgrown=>exact hq.elim
 | ⟨.nil,_⟩::ds,u,S,H,w,h,k,hs,ht=>h.elim
 | ⟨.builtin _ _ _ _,_⟩::ds,u,S,H,w,h,k,hs,ht=>h.elim
 | ⟨.coroexit _,_⟩::ds,u,S,H,w,h,k,hs,ht=>h.elim
 | ⟨.fn (.method _) _,_⟩::ds,u,S,H,w,h,k,hs,ht=>h.elim
 | ⟨.fn (.methodOf _ _) _,_⟩::ds,u,S,H,w,h,k,hs,ht=>h.elim
 | ⟨.fn (.via _ _ _ _) _,_⟩::ds,u,S,H,w,h,k,hs,ht=>h.elim
 | ⟨.fn (.yield _) _,_⟩::ds,u,S,H,w,h,k,hs,ht=>h.elim
theorem Zie {N:Nat} {S:Nat→Prop} {w:World} {xs:List VV} {args:Array Value} (hx:RvL S w xs args.toList) (hN:xs.length≤N) :
 RvF N S w ⟨fun i=>xs.getD i Zx,[]⟩ { tmps:=args++Array.replicate (N-args.size) undef,defers:=[] }:=by
 have hl:args.size=xs.length:=by simpa using hx.length
 refine ⟨by simp; omega,rfl,fun i=>?_⟩
 have:=RvL.get i hx
 by_cases hi:i<args.size
 ·have e:(args++Array.replicate (N-args.size) undef).getD i undef=args.toList.getD i undef:=by
   simp only [Array.getD_eq_getD_getElem?,Zne];rw [Array.getElem?_append_left hi];simp
  rw [e]; exact this
 ·have e:(args++Array.replicate (N-args.size) undef).getD i undef=undef:=by
   simp only [Array.getD_eq_getD_getElem?];rw [Array.getElem?_append_right (by omega),Array.getElem?_replicate]
   split<;>rfl
  have e2:xs.getD i Zx=Zx:=by
   rw [Zne,ZmS (by omega)];rfl
  show Rv S w (xs.getD i Zx) _;rw [e,e2];rfl
theorem Ju {P:Program} {f N:Nat} {rs:List ResultVar} {a:ACode} (hd:FnD P f N rs a) {xs:List VV} {H:AH} {K:VE→AH→Prop} (hN:xs.length≤N)
 (h:ACx ⟨P,N,none⟩ a (ZiW P rs K) ⟨fun i=>xs.getD i Zx,[]⟩ H):ZO P f xs H K:=by
 obtain ⟨fn,c,hf,hb,rfl,rfl,rfl⟩:=hd;intro S w args hs hx;refine callsIn_of_wp_marks hf hb (show (P.funcs[f]?).isSome=true by rw [hf]; rfl) ?_ rfl;have hw:=h c rfl S w _ hs (Zie hx hN);refine wpIn_mono hw ?_;rintro e a' w' ⟨h0,S',H',A',h1,h2,h3,h4⟩;cases e with
 | normal=>show LeavesInM _ _ _ _ _ _ a'.defers _ _; rw [h3.2.1]; exact WV A'.d .returning S' H' w' h4 h1 h2 h3.2.2
 | ret=>show LeavesInM _ _ _ _ _ _ a'.defers _ _; rw [h3.2.1]; exact WV A'.d .returning S' H' w' h4 h1 h2 h3.2.2
 | panic ch=>show LeavesInM _ _ _ _ _ _ a'.defers _ _; rw [h3.2.1]; exact WV A'.d (.panicking ch) S' H' w' h4 h1 h2 h3.2.2
 | exit id=>exact h4.elim
 | goto l=>exact h4.elim
 | outgrown=>exact absurd rfl h0
def ZfT (P:Program) (rs:List ResultVar) (u:FrameMode) (K:VE→FrameMode→AH→Prop):APost:=Jd P rs (fun e H=>K e u H)
theorem Zif {P:Program} {fn:Func} {N:Nat} {u:FrameMode} {K:VE→FrameMode→AH→Prop} {S0 S:Nat→Prop} {H0 H:AH} {w0 w:World} {A:AF} {a:Act} (k:Step S0 H0 w0 S H w) (hs:Sim S H w) (hf:RvF N S w A a) (hd:A.d=[])
 (h:∃ x H' x',resV P fn.results.toList A H=some x∧GhV H x H' x'∧K (.ret x') u H'):a.defers=[]∧∃ v,(results fn a.tmps).run P w=.ok v w∧DQ K S0 H0 w0 (.returned v) u w:=by
 obtain ⟨x,H'',x',g1,g2,g3⟩:=h;obtain ⟨v,q1,q2⟩:=Zbp hs hf g1;obtain ⟨S'',p1,p2,p3⟩:=g2 S w v hs q2;exact ⟨hf.2.1.trans hd,v,q1,S'',H'',x',k.trans p1,p2,p3,g3⟩
theorem Zgs {P:Program} {f N:Nat} {rs:List ResultVar} {a:ACode} (hd:FnD P f N rs a) {xs:List VV} {u:FrameMode} {H:AH} {K:VE→FrameMode→AH→Prop} (hN:xs.length≤N)
 (h:ACx ⟨P,N,none⟩ a (ZfT P rs u K) ⟨fun i=>xs.getD i Zx,[]⟩ H):Zid P f xs u H K:=by
 obtain ⟨fn,c,hf,hb,rfl,rfl,rfl⟩:=hd;intro S w args hs hx;refine CallsDIn.mono (callsDIn_of_wp (R:=fun e w'=>DQ K S H w e u w') hf hb (show (P.funcs[f]?).isSome=true by rw [hf]; rfl) ?_ rfl) ?_
 ·have hw:=h c rfl S w _ hs (Zie hx hN);refine wpIn_mono hw ?_;rintro e a' w' ⟨h0,S',H',A',h1,h2,h3,h4⟩;cases e with
  | normal=>exact Zif h1 h2 h3 h4.1 h4.2
  | ret=>exact Zif h1 h2 h3 h4.1 h4.2
  | panic ch =>
    obtain ⟨g1,H'',g2,g3⟩:=h4;exact ⟨h3.2.1.trans g1,S',H'',h1.trans (h2.sub g2).2,(h2.sub g2).1,g3⟩
  | exit id=>exact h4.elim
  | goto l=>exact h4.elim
  | outgrown=>exact absurd rfl h0
 ·rintro e u' w' ⟨rfl,hq⟩;exact hq
def ZdP:FrameMode→Value × FrameMode
 | .panicking ({ v,recovered:=false,goexit:=false }::older)=>(v,.panicking ({ v,recovered:=true }::older))
 | u=>(.nilIface,u)
def isMv (o:GOp):Bool:=match o.op,o.g with | .move _,none=>true | .assign _,none=>true | _,_=>false
def mvV (A:AF) (o:GOp):AF:=match o.op with | .move x=>A.put o.dst (A.eval x) | .assign x=>A.put o.dst (A.eval x) | _=>A
def mvs:List GOp→AF→AF
 | [],A=>A
 | o::l,A=>mvs l (mvV A o)
theorem Zey {ops:Array Oper} {o:Oper} (hg:gOk ops o=true) (hn:(gopOf ops o).g=none) (ts:Array Value):Region.wanted o (yielded ops ts)=true:=by
 unfold gOk at hg;unfold gopOf at hn;cases hgd':o.guard with
 | none=>simp [Region.wanted,hgd']
 | some p =>
   simp only [hgd'] at hg hn;obtain ⟨e,he⟩:=Option.isSome_iff_exists.1 hg;rw [Option.bind_some,he] at hn;cases hn
theorem ZkJ {P:Program} {ops:Array Oper} {N:Nat} {S:Nat→Prop} {F:Fence} {Q:Exit→Act→List Frame→World→Prop} {cs:List Frame} {w:World}:∀ (is:List Nat) (l:List GOp) (A:AF) (a:Act),
 (∀ j:Nat,l[j]?=(is[j]?).bind fun i:Nat=>(ops[i]?).map (gopOf ops))→is.length=l.length→(∀ o∈l,isMv o=true∧dOk N o.dst)→(∀ (i:Nat) (o:Oper),ops[i]?=some o→gOk ops o=true)→RvF N S w A a →
 (∀ a',RvF N S w (mvs l A) a'→Q .normal a' cs w)→wpOpsSIn F 0 P ops Q is a cs w
 | [],l,A,a,hl,hlen,hm,hg,hf,hQ=>by
   have:l=[]:=Znd (by simpa using hlen.symm)
   subst this;exact hQ a hf
 | i::is,[],A,a,hl,hlen,hm,hg,hf,hQ=>by simp at hlen
 | i::is,g::l,A,a,hl,hlen,hm,hg,hf,hQ=>by
   have h0:=hl 0;simp only [ZmC,Option.bind_some] at h0;obtain ⟨o,ho,hgo⟩:=Option.map_eq_some_iff.1 h0.symm;obtain ⟨hmv,hd⟩:=hm g (ZmR ..)
   have next:∀ v x,(mvV A g=A.put g.dst x)→Rv S w x v→wpOpsSIn F 0 P ops Q is (a.put o.dst v) cs w:=by
    intro v x hx hv;refine ZkJ is l (mvV A g) _ (fun j=>by have:=hl (j+1); simpa using this) (by simpa using hlen) (fun o' ho'=>hm o' (ZmN _ ho')) hg ?_ (fun a' h=>hQ a' h);rw [hx];have hdst:g.dst=o.dst:=by rw [← hgo]; rfl
    rw [hdst];refine hf.put (fun e he=>?_) hv;rw [hdst,he] at hd;exact hd
   have hop:g.op=o.op:=by rw [← hgo]; rfl
   have hgn:(gopOf ops o).g=none:=by
    rw [hgo];unfold isMv at hmv;split at hmv<;>first | assumption | cases hmv
   simp only [wpOpsSIn,ho,Zey (hg i o ho) hgn,if_true];unfold isMv at hmv;split at hmv
   ·rename_i x e1 e2;have e1':o.op=.move x:=by rw [← hop,e1]
    refine ⟨fun f hf'=>by simp [Oper.about,e1'] at hf',?_⟩
    have:(execOp a.eval o).run P w=.ok (.value (a.eval x)) w:=by simp [execOp,e1']
    rw [this];exact next _ _ (by simp [mvV,e1]) (hf.eval x)
   ·rename_i x e1 e2;have e1':o.op=.assign x:=by rw [← hop,e1]
    refine ⟨fun f hf'=>by simp [Oper.about,e1'] at hf',?_⟩
    have:(execOp a.eval o).run P w=.ok (.value (a.eval x)) w:=by simp [execOp,e1']
    rw [this];exact next _ _ (by simp [mvV,e1]) (hf.eval x)
   ·cases hmv
theorem ZeS {P:Program} {f N:Nat} {rs:List ResultVar} {a:ACode} {d:Nat} {ts:Array TypeId} {l:List GOp} (hd:FnD P f N rs (.seq (.reg (⟨some d,.call { callee:=.builtin .recover,args:=#[],argTypes:=ts },none⟩::l)) a)) (hmv:∀ o∈l,isMv o=true∧dOk N o.dst)
 {xs:List VV} {u:FrameMode} {H:AH} {K:VE→FrameMode→AH→Prop} (hN:xs.length≤N) (hdN:d<N)
 (h:ACx ⟨P,N,none⟩ a (ZfT P rs (ZdP u).2 K) (mvs l ⟨upd (fun i=>xs.getD i Zx) d (.lit (ZdP u).1),[]⟩) H):Zid P f xs u H K:=by
 obtain ⟨fn,c,hf,hb,rfl,rfl,hc⟩:=hd;intro S w args hs hx;refine callsDIn_of_wpSIn hf hb (show (P.funcs[f]?).isSome=true by rw [hf]; rfl) ?_;intro c₀ cs hu;cases c with
 | seq c1 c2 =>
   simp only [ZM] at hc;split at hc
   ·cases hc
   ·simp only [ACode.seq.injEq] at hc;obtain ⟨hc1,hc2⟩:=hc;refine wpSIn_seq ?_;cases c1 with
    | region id ops draw =>
      unfold ZM Xw at hc1;split at hc1
      ·dsimp only at hc1;split at hc1
       ·split at hc1<;>cases hc1
       ·cases hc1
      ·rename_i hdr;split at hc1
       ·rename_i hgok;simp only [ACode.reg.injEq] at hc1;have hdr':draw=false:=by simpa using hdr
        subst hdr'
        have hgo:∀ i o,ops[i]?=some o→gOk ops o=true:=fun i o ho=>by
         have hi:i<ops.size:=by
          rcases ZmI i ops.size with h | h
          ·exact h
          ·rw [Array.getElem?_eq_none h] at ho; cases ho
         rw [Array.getElem?_eq_getElem hi] at ho;cases ho;exact Array.all_eq_true.1 hgok i hi
        have hmapj:∀ j:Nat,((ops[j]?).map (gopOf ops))=((⟨some d,.call { callee:=.builtin .recover,args:=#[],argTypes:=ts },none⟩:GOp)::l)[j]?:=fun j=>by
         rw [← hc1,List.getElem?_map,Array.getElem?_toList]
        have hlen:ops.size=l.length+1:=by
         have:=congrArg List.length hc1
         simpa using this
        obtain ⟨o,ho0,hgo0⟩:=Option.map_eq_some_iff.1 (hmapj 0);have hdst:o.dst=some d:=congrArg GOp.dst hgo0;have hop:o.op=.call { callee:=.builtin .recover,args:=#[],argTypes:=ts }:=congrArg GOp.op hgo0;have hgd:(gopOf ops o).g=none:=congrArg GOp.g hgo0;refine wpSIn_region ?_;have hw:=Zey (hgo 0 o ho0) hgd
        have hex:∀ (ρ:Operand→Value) (w:World),(execOp ρ o).run P w=.ok .recover w:=by
         intro ρ w;simp [execOp,hop,resolve,invoke,builtin]
        have hab:∀ (ρ:Operand→Value) (w:World) f',o.about P w ρ=some f'→(Xy P none).fn f':=by
         intro ρ w f' he;simp [Oper.about,hop,resolve,Target.leads] at he
        rw [hlen,List.range_succ_eq_map];simp only [wpOpsSIn,ho0,hw,if_true,hex];refine ⟨hab _ _,?_⟩
        have key:∀ (v:Value) (u':FrameMode),ZdP u=(v,u')→wpOpsSIn (Xy P none) 0 P ops (Exit.thenS (c2.wpSIn (Xy P none) 0 P (bodyPostS P fn c₀ cs (DQ K S H w))) (bodyPostS P fn c₀ cs (DQ K S H w))) ((Zmm l.length).map Nat.succ)
         (({ tmps:=args++Array.replicate (fn.ntmps-args.size) undef,defers:=[] }:Act).put o.dst v) ({ c₀ with mode:=u' }::cs) w:=by
         intro v u' hrm;rw [hrm] at h;have hf0:=Zie (N:=fn.ntmps) hx hN
         have hf1:RvF fn.ntmps S w (AF.put ⟨fun i=>xs.getD i Zx,[]⟩ o.dst (.lit v)) (Act.put { tmps:=args++Array.replicate (fn.ntmps-args.size) undef,defers:=[] } o.dst v) :=
          hf0.put (fun e he=>by rw [hdst] at he; cases he; exact hdN) rfl
         refine ZkJ _ l _ _ (fun j=>?_) (by simp) hmv hgo hf1 fun a2 hf2=>?_
         ·have:=hmapj (j+1)
          rw [ZmD] at this;rw [← this,List.getElem?_map];by_cases hj:j<l.length
          ·rw [List.getElem?_range hj]; rfl
          ·rw [ZmS (by simpa using hj),Array.getElem?_eq_none (by omega)]; rfl
         ·rw [hdst] at hf2;refine wpSIn_of_wpIn rfl ?_;have hw:=h c2 hc2 S w _ hs hf2;refine wpIn_mono hw ?_;rintro e a' w' ⟨h0,S',H',A',h1,h2,h3,h4⟩;cases e with
          | normal =>
            obtain ⟨g1,v',g2,g3⟩:=Zif h1 h2 h3 h4.1 h4.2;exact ⟨g1,u',rfl,v',g2,g3⟩
          | ret =>
            obtain ⟨g1,v',g2,g3⟩:=Zif h1 h2 h3 h4.1 h4.2;exact ⟨g1,u',rfl,v',g2,g3⟩
          | panic ch =>
            obtain ⟨g1,H'',g2,g3⟩:=h4;exact ⟨h3.2.1.trans g1,u',rfl,S',H'',h1.trans (h2.sub g2).2,(h2.sub g2).1,g3⟩
          | exit id=>exact h4.elim
          | goto l=>exact h4.elim
          | outgrown=>exact absurd rfl h0
        by_cases hp:∃ v older,u=.panicking ({ v,recovered:=false,goexit:=false }::older)
        ·obtain ⟨v,older,hp⟩:=hp
         have hrd:recoverD (c₀::cs)=some (v,{ c₀ with mode:=.panicking ({ v,recovered:=true }::older) }::cs):=by
          simp only [recoverD,hu,hp]
         simp only [hrd];exact key v _ (by rw [hp]; rfl)
        ·have hrm:ZdP u=(.nilIface,u):=by
          unfold ZdP;split
          ·rename_i v older; exact absurd ⟨v,older,rfl⟩ hp
          ·rfl
         have hrd:recoverD (c₀::cs)=none:=by
          simp only [recoverD,hu];split
          ·rename_i v older; exact absurd ⟨v,older,rfl⟩ hp
          ·rfl
         have hc0:({ c₀ with mode:=u }:Frame)=c₀:=by subst hu; rfl
         simp only [hrd]
         have:=key .nilIface u hrm
         rw [hc0] at this;exact this
       ·cases hc1
    | seq x y=>simp only [ZM] at hc1; split at hc1<;>cases hc1
    | _=>simp [ZM] at hc1
 | region id ops draw =>
   exfalso
   unfold ZM Xw at hc;split at hc
   ·dsimp only at hc;split at hc
    ·split at hc<;>cases hc
    ·cases hc
   ·split at hc<;>cases hc
 | _=>simp [ZM] at hc
end Go.PV
end
section
namespace Go.PV
open Go
theorem Zgt {P:Program} {f N:Nat} {rs:List ResultVar} {a:ACode} (hd:FnD P f N rs a) {xs:List VV} {H:AH} {K:VE→AH→Prop} (hN:xs.length≤N)
 (h:ACx ⟨P,N,none⟩ a (Jd P rs K) ⟨fun i=>xs.getD i Zx,[]⟩ H):ZO P f xs H K:=by
 obtain ⟨fn,c,hf,hb,rfl,rfl,rfl⟩:=hd;intro S w args hs hx;refine callsIn_of_wp hf hb (show (P.funcs[f]?).isSome=true by rw [hf]; rfl) ?_ rfl;have hw:=h c rfl S w _ hs (Zie hx hN);refine wpIn_mono hw ?_;rintro e a' w' ⟨h0,S',H',A',h1,h2,h3,h4⟩
 have fin:A'.d=[]→(∃ x H'' x',resV P fn.results.toList A' H'=some x∧GhV H' x H'' x'∧K (.ret x') H'')→a'.defers=[]∧∃ v,(results fn a'.tmps).run P w'=.ok v w'∧RQ K S H w (.returned v) w':=by
  rintro hd ⟨x,H'',x',g1,g2,g3⟩;obtain ⟨u,q1,q2⟩:=Zbp h2 h3 g1;obtain ⟨S'',p1,p2,p3⟩:=g2 S' w' u h2 q2;exact ⟨h3.2.1.trans hd,u,q1,S'',H'',x',h1.trans p1,p2,p3,g3⟩
 cases e with
 | normal=>exact fin h4.1 h4.2
 | ret=>exact fin h4.1 h4.2
 | panic ch =>
   obtain ⟨g1,H'',g2,g3⟩:=h4;exact ⟨h3.2.1.trans g1,S',H'',h1.trans (h2.sub g2).2,(h2.sub g2).1,g3⟩
 | exit id=>exact h4.elim
 | goto l=>exact h4.elim
 | outgrown=>exact absurd rfl h0
theorem Zdg {P:Program} {ops:Array Oper} {a b:ACode}:Xw P ops ≠ .seq a b:=by
 unfold Xw;dsimp only;split
 ·split
  ·intro h; cases h
  ·intro h; cases h
 ·intro h; cases h
theorem acx_seqK {cx:Cx} {a b:ACode} {Q:APost} {K:AF→AH→Prop} {A:AF} {H:AH} (hQ:Zaa Q) (hK:∀ A H,K A H→ACx cx b Q A H) (h:vc cx a (thenA K Q) A H):ACx cx (.seq a b) Q A H:=by
 intro c hc;cases c with
 | seq x y =>
   simp only [ZM] at hc;split at hc
   ·cases hc
   ·injection hc with h1 h2
    subst h1;refine Zh4 ((Jh x (thenA K Q) A H (fun l A H=>hQ l A H) h).mono ?_);intro e A' H' hq;cases e with
    | normal=>exact hK A' H' hq y h2
    | _=>exact hq
 | region id ops draw =>
   simp only [ZM] at hc;split at hc
   ·exact absurd hc Zdg
   ·split at hc<;>cases hc
 | _=>simp only [ZM] at hc; cases hc
def seqs:List ACode→ACode→ACode
 | [],b=>b
 | a::l,b=>.seq a (seqs l b)
def vcs (cx:Cx) (K:AF→AH→Prop) (Q:APost):List ACode→AF→AH→Prop
 | []=>K
 | a::l=>vc cx a (thenA (vcs cx K Q l) Q)
theorem JX {cx:Cx} {b:ACode} {Q:APost} {K:AF→AH→Prop} (hQ:Zaa Q) (hK:∀ A H,K A H→ACx cx b Q A H):∀ (l:List ACode) (A:AF) (H:AH),vcs cx K Q l A H→ACx cx (seqs l b) Q A H
 | [],A,H,h=>hK A H h
 | a::l,A,H,h=>acx_seqK hQ (fun A H h=>JX hQ hK l A H h) h
structure Hold (p:Prop):Prop where
 out:p
end Go.PV
end
section
open List renaming length_append→ZmB,length_cons→Zmi,drop_eq_nil_of_le→Znb,nil_append→ZmO,getElem_mem→ZmE
namespace Go.PV
theorem ZQ {n:Int} (h : -9223372036854775808≤n) (h':n≤9223372036854775807):IntKind.i64.wrap n=n:=by rw [IntKind.wrap_i64]; omega
theorem XV (k:IntKind) (n:Int):VV.cells (.lit (.int k n))=[.lit (.int k n)]:=rfl
theorem Wc (k:IntKind) (n:Int):VV.one (.lit (.int k n))=true:=rfl
theorem ZaQ (b:Bool):VV.cells (.lit (.bool b))=[.lit (.bool b)]:=rfl
theorem ZaR (b:Bool):VV.one (.lit (.bool b))=true:=rfl
theorem cl_str (b:ByteArray):VV.cells (.lit (.string b))=[.lit (.string b)]:=rfl
theorem WM (b:ByteArray):VV.one (.lit (.string b))=true:=rfl
theorem ZeX (a:Option Addr):VV.cells (.lit (.pointer a))=[.lit (.pointer a)]:=rfl
theorem on_ptr (a:Option Addr):VV.one (.lit (.pointer a))=true:=rfl
theorem Zl6 (a:Option Addr) (n c:Nat):VV.cells (.lit (.slice a n c))=[.lit (.slice a n c)]:=rfl
theorem on_sl (a:Option Addr) (n c:Nat):VV.one (.lit (.slice a n c))=true:=rfl
theorem Zkk (a:Option Nat):VV.cells (.lit (.map a))=[.lit (.map a)]:=rfl
theorem Zkl (a:Option Nat):VV.one (.lit (.map a))=true:=rfl
theorem cl_fn (f:Fn) (a b:Array Value):VV.cells (.lit (.func f a b))=[.lit (.func f a b)]:=rfl
theorem YB (cs:List VV):VV.cells (.agg cs)=cs:=rfl
theorem XR (ex:Bool) (n:Nat) (cs:List VV):VV.cells (.slice ex n cs)=[.slice ex n cs]:=rfl
theorem ZkK (f:Fn) (a b:List VV):VV.cells (.func f a b)=[.func f a b]:=rfl
theorem Ws (ex:Bool) (n:Nat) (cs:List VV):VV.one (.slice ex n cs)=true:=rfl
theorem on_func (f:Fn) (a b:List VV):VV.one (.func f a b)=true:=rfl
theorem Yq (n:Nat) (x:VV) (cs:List VV):ldV n false (x::cs)=some x:=rfl
theorem JG (x0 x1:VV) (cs:List VV):ldV 2 true (x0::x1::cs)=some (.agg [x0,x1]):=by simp [ldV]
theorem Wt (x0 x1 x2:VV) (cs:List VV):ldV 3 true (x0::x1::x2::cs)=some (.agg [x0,x1,x2]):=by simp [ldV]
theorem Jk (x0 x1 x2 x3:VV) (cs:List VV):ldV 4 true (x0::x1::x2::x3::cs)=some (.agg [x0,x1,x2,x3]):=by simp [ldV]
abbrev iV (n:Int):VV:=.lit (.int .i64 n)
def encC {α:Type} (enc:α→List VV) (l:List α):List VV:=(l.map enc).flatten
abbrev encS {α:Type} (enc:α→List VV) (l:List α):VV:=.slice false l.length (encC enc l)
section
variable {α:Type} {enc:α→List VV} {k:Nat}
theorem Zbd:encC enc []=[]:=rfl
theorem Yg (x:α) (l:List α):encC enc (x::l)=enc x++encC enc l:=rfl
theorem YS (l m:List α):encC enc (l++m)=encC enc l++encC enc m:=by simp [encC]
theorem YO (hk:∀ x,(enc x).length=k) (l:List α):(encC enc l).length=l.length * k:=by
 induction l with
 | nil=>simp [encC]
 | cons x l ih=>rw [Yg,ZmB,ih,hk,Zmi,Nat.succ_mul]; omega
theorem WZ (hk:∀ x,(enc x).length=k) {l:List α} {i:Nat} (hi:i<l.length):(encC enc l).drop (i * k)=enc l[i]++encC enc (l.drop (i+1)):=by
 induction l generalizing i with
 | nil=>simp at hi
 | cons x l ih =>
   cases i with
   | zero=>simp [Yg]
   | succ i =>
     rw [Yg,List.drop_append];have h1:(enc x).drop ((i+1) * k)=[]:=Znb (by rw [hk]; rw [Nat.succ_mul]; omega);have h2:(i+1) * k-(enc x).length=i * k:=by rw [hk,Nat.succ_mul]; omega
     rw [h1,h2,ZmO,ih (by simpa using hi)];rfl
theorem Zbs {enc:α→VV} {l:List α} {i:Nat} (hi:i<l.length):(encC (fun x=>[enc x]) l).drop i=enc l[i]::encC (fun x=>[enc x]) (l.drop (i+1)):=by
 have:=WZ (enc:=fun x=>[enc x]) (k:=1) (fun _=>rfl) hi
 simpa using this
end
abbrev intE (n:Int):List VV:=[.lit (.int .i64 n)]
abbrev intsV (l:List Int):VV:=encS intE l
def FnAt (P:Program) (f:VV) (xs:List VV) (y:VV) (H:AH):Prop:=∀ K:VE→AH→Prop,K (.ret y) H→WS P none f xs H K
theorem FnAt.lit {P:Program} {g:FuncId} {xs:List VV} {y:VV} {H:AH} (he:Zz P g=true) (h:PureF P g xs y):FnAt P (.lit (.func (.func g) #[] #[])) xs y H:=fun K hk=>by
 rw [ZL]; exact ⟨he,h.use hk⟩
theorem FnAt.cap {P:Program} {g:FuncId} {first cap xs:List VV} {y:VV} {H:AH} (he:Zz P g=true) (h:∀ K:VE→AH→Prop,K (.ret y) H→ZO P g (first++xs++cap) H K):FnAt P (.func (.func g) first cap) xs y H:=fun K hk=>⟨he,h K hk⟩
theorem JO {l:List Int} {i:Nat} (hi:i<l.length):(encC intE l).drop i=iV l[i]::encC intE (l.drop (i+1)):=Zbs (enc:=fun n:Int=>.lit (.int .i64 n)) hi
def idxF {α:Type} (p:α→Bool) (l:List α):Int:=match l.findIdx? p with | some i=>i | none => -1
theorem JH {α:Type} {p:α→Bool} {l:List α} {i:Nat} (hi:i<l.length) (hp:p l[i]=true) (hj:∀ j (h:j<i),p l[j]=false):idxF p l=i:=by
 have:l.findIdx? p=some i:=by
  rw [List.findIdx?_eq_some_iff_getElem];exact ⟨hi,hp,fun j h=>by rw [hj j h]; simp⟩
 simp [idxF,this]
theorem Zaq {α:Type} {p:α→Bool} {l:List α} (hj:∀ j (h:j<l.length),p l[j]=false):idxF p l = -1:=by
 have:l.findIdx? p=none:=by
  rw [List.findIdx?_eq_none_iff];intro x hx;obtain ⟨i,hi,rfl⟩:=List.getElem_of_mem hx;exact hj i hi
 simp [idxF,this]
theorem Zb6 {α:Type} {p:α→Bool} {l:List α}:decide (0≤idxF p l)=l.any p:=by
 unfold idxF;cases h:l.findIdx? p with
 | none =>
   rw [List.findIdx?_eq_none_iff] at h
   have:l.any p=false:=by simpa using h
   rw [this]; rfl
 | some i =>
   rw [List.findIdx?_eq_some_iff_getElem] at h;obtain ⟨hi,hp,_⟩:=h
   have:l.any p=true:=by simp only [List.any_eq_true]; exact ⟨_,ZmE hi,hp⟩
   rw [this]; simp
end Go.PV
end
section
open Bool renaming false_eq_true→Zmv,not_true→ZmK,not_false→ZmG,false_and→Zm6,and_self→Zmp
open Int renaming natCast_nonneg→ZmL,toNat_natCast→Zmw
open List renaming replicate→ZmH
open Nat renaming succ_ne_self→Zme,mul_one→ZmM,zero_add→Zmh,add_zero→Zmo,le_refl→Zmc
namespace Go.PV
theorem AH.get (H:AH) (r i:Nat) (b:Blk):(H.set r b) i=if i=r then some b else H i:=rfl
theorem AH.set_none {H:AH} {r i:Nat} {b:Blk}:(H.set r b) i=none↔(¬ i=r∧¬ r=i)∧H i=none:=by
 rw [AH.get];by_cases h:i=r
 ·simp [h]
 ·simp [h,Ne.symm h]
theorem AH.ne_of {H:AH} {r i:Nat} {b:Blk} (h:H i=some b) (hr:H r=none):¬ i=r∧¬ r=i:=⟨fun e=>(by rw [e,hr] at h; cases h),fun e=>(by rw [← e,hr] at h; cases h)⟩
theorem SubH.trans {H1 H2 H3:AH} (h:SubH H1 H2) (k:SubH H2 H3):SubH H1 H3:=fun r b hb=>k r b (h r b hb)
theorem SubH.new {H:AH} {r:Nat} {b:Blk} (hr:H r=none):SubH H (H.set r b):=(SubH.refl H).of_set hr
theorem SubH.none {H1 H2:AH} (h:SubH H1 H2) {r:Nat} (hr:H2 r=none):H1 r=none:=by
 cases e:H1 r with
 | none=>rfl
 | some b=>rw [h r b e] at hr; cases hr
theorem SubH.set {H1 H2:AH} (h:SubH H1 H2) (r:Nat) (b:Blk):SubH (H1.set r b) (H2.set r b):=fun i c hc=>by
 rw [AH.get] at hc ⊢;split at hc
 ·rename_i e; rw [if_pos e]; exact hc
 ·rename_i e; rw [if_neg e]; exact h i c hc
theorem AH.comm {H:AH} {r i:Nat} (b c:Blk) (h:¬ i=r):(H.set r b).set i c=(H.set i c).set r b:=AH.set_comm H b c h
def Zbe (H:AH) (p:Nat→Prop):Prop:=∀ r,H r=none→p r
@[congr] theorem allNew_congr {H H':AH} {p:Nat→Prop} (h:H=H'):Zbe H p=Zbe H' p:=by rw [h]
theorem Zw {H:AH} {p:Nat→Prop} (h:∀ r,H r=none→p r):Zbe H p:=h
def Zig (z:Option (List Value)) (e:TypeId) (H:AH) (K:VE→AH→Prop):Prop :=
 match z with
 | some zs=>Zbe H fun r=>K (.ret (ptrV r 0)) (H.set r (.cells e (zs.map .lit) 0))
 | none=>False
theorem Xo (P:Program) (e:TypeId) (H:AH) (K:VE→AH→Prop):ZaM P e H K=Zig (zeroT P e) e H K:=rfl
theorem YP (zs:List Value) (e:TypeId) (H:AH) (K:VE→AH→Prop):Zig (some zs) e H K=Zbe H fun r=>K (.ret (ptrV r 0)) (H.set r (.cells e (zs.map .lit) 0)):=rfl
theorem Wz (e:TypeId) (x:VV) (H:AH) (K:VE→AH→Prop):vcBox e x H K=Zbe H fun r=>K (.ret (ptrV r 0)) (H.set r (.cells e x.cells 0)):=rfl
def makeB (z:Option (List Value)) (e k b:Nat) (l c:Int) (H:AH) (K:VE→AH→Prop):Prop :=
 match z with
 | some zs=>zs.length=k∧0≤l∧l≤c∧(b:Int) * c≤281474976710656∧c≤9223372036854775807 ∧
    Zbe H fun r=>K (.ret (.lit (.slice (some ⟨r,0,none⟩) l.toNat c.toNat))) (H.set r (.cells e ((ZmH c.toNat zs).flatten.map .lit) 0))
 | none=>False
def makeA (P:Program) (t:Option (TypeId × Nat × Nat)) (l c:VV) (H:AH) (K:VE→AH→Prop):Prop :=
 match t,l,c with
 | some (e,k,b),.lit (.int _ l),.lit (.int _ c)=>makeB (zeroT P e) e k b l c H K
 | _,_,_=>False
theorem n_make (P:Program) (t:TypeId) (l c:VV) (H:AH) (K:VE→AH→Prop):Zcq P t l c H K=makeA P (elT P t) l c H K:=rfl
theorem ZkL (P:Program) (e:TypeId) (k b:Nat) (q q':IntKind) (l c:Int) (H:AH) (K:VE→AH→Prop):makeA P (some (e,k,b)) (.lit (.int q l)) (.lit (.int q' c)) H K=makeB (zeroT P e) e k b l c H K:=rfl
theorem ZkM (zs:List Value) (e k b:Nat) (l c:Int) (H:AH) (K:VE→AH→Prop):makeB (some zs) e k b l c H K=(zs.length=k∧0≤l∧l≤c∧(b:Int) * c≤281474976710656∧c≤9223372036854775807 ∧
        Zbe H fun r=>K (.ret (.lit (.slice (some ⟨r,0,none⟩) l.toNat c.toNat))) (H.set r (.cells e ((ZmH c.toNat zs).flatten.map .lit) 0))):=rfl
section
variable (P:Program) (t:TypeId) (H:AH) (K:VE→AH→Prop)
def ldB (x:Option VV) (H:AH) (K:VE→AH→Prop):Prop:=match x with | some x=>K (.ret x) H | none=>False
def ldA (x:Option (Nat × Bool)) (b:Option Blk) (o:Nat) (H:AH) (K:VE→AH→Prop):Prop :=
 match x,b with
 | some (n,ag),some (.cells _ cs _)=>ldB (ldV n ag (cs.drop o)) H K
 | _,_=>False
def ldC (x:Option (Nat × Bool)) (cs:List VV) (H:AH) (K:VE→AH→Prop):Prop :=
 match x with
 | some (n,ag)=>ldB (ldV n ag cs) H K
 | none=>False
theorem WC (cs:List VV):Wa P t (.iptr cs) H K=ldC (ldT P t) cs H K:=by
 unfold Wa ldC; cases ldT P t<;>rfl
theorem Yn (r o:Nat):Wa P t (.lit (.pointer (some ⟨r,o,none⟩))) H K=ldA (ldT P t) (H r) o H K:=by
 unfold Wa ldA;cases ldT P t with
 | none=>rfl
 | some p =>
   cases hr:H r with
   | none=>simp only [hr]
   | some b=>cases b<;>simp only [hr]<;>rfl
theorem Yo (n:Nat) (ag:Bool) (e:TypeId) (cs:List VV) (sp o:Nat):ldA (some (n,ag)) (some (.cells e cs sp)) o H K=ldB (ldV n ag (cs.drop o)) H K:=rfl
theorem WD (n:Nat) (ag:Bool) (cs:List VV):ldC (some (n,ag)) cs H K=ldB (ldV n ag cs) H K:=rfl
theorem Yp (x:VV):ldB (some x) H K=K (.ret x) H:=rfl
def faA (x:Option (Nat × Nat × Bool)) (y:Nat→VV) (H:AH) (K:VE→AH→Prop):Prop:=match x with | some (off,n,_)=>n ≠ 0∧K (.ret (y off)) H | none=>False
theorem Zcg (f:Nat) (cs:List VV):YF P t (.iptr cs) f H K=faA (flT P t f) (fun off=>.iptr (cs.drop off)) H K:=by
 unfold YF faA; cases flT P t f<;>rfl
theorem YK (f r o:Nat):YF P t (.lit (.pointer (some ⟨r,o,none⟩))) f H K=faA (flT P t f) (fun off=>.lit (.pointer (some ⟨r,o+off,none⟩))) H K:=by
 unfold YF faA; cases flT P t f<;>rfl
theorem YG (off n:Nat) (ag:Bool) (y:Nat→VV):faA (some (off,n,ag)) y H K=(n ≠ 0∧K (.ret (y off)) H):=rfl
def stA (z:Option Nat) (b:Option Blk) (r o:Nat) (xs:List VV) (H:AH) (K:VE→AH→Prop):Prop :=
 match b with
 | some (.cells e cs sp)=>z=some xs.length∧xs.all VV.one=true∧o+xs.length≤cs.length∧K (.ret Zx) (H.set r (.cells e (setAt cs o xs) sp))
 | _=>False
theorem Wf (r o:Nat) (x:VV):Jo P t (.lit (.pointer (some ⟨r,o,none⟩))) x H K=stA (szT P t) (H r) r o x.cells H K:=by
 unfold Jo stA;cases hr:H r with
 | none=>simp only [hr]
 | some b=>cases b<;>simp only [hr]
theorem Wg (z:Option Nat) (e:TypeId) (cs:List VV) (sp r o:Nat) (xs:List VV):stA z (some (.cells e cs sp)) r o xs H K=(z=some xs.length∧xs.all VV.one=true∧o+xs.length≤cs.length∧K (.ret Zx) (H.set r (.cells e (setAt cs o xs) sp))):=rfl
def ixA (x:Option (TypeId × Nat × Nat)) (a:VV) (j:Int) (H:AH) (K:VE→AH→Prop):Prop :=
 match x,a with
 | some (_,k,_),.slice _ n cs=>(0≤j∧j<(n:Int))∧K (.ret (.iptr (cs.drop (j.toNat * k)))) H
 | some (_,k,_),.lit (.slice (some ⟨r,o,none⟩) n _)=>(0≤j∧j<(n:Int))∧K (.ret (.lit (.pointer (some ⟨r,o+j.toNat * k,none⟩)))) H
 | _,_=>False
theorem WE (ex:Bool) (n:Nat) (cs:List VV) (q:IntKind) (j:Int):Yu P t (.slice ex n cs) (.lit (.int q j)) H K=ixA (elT P t) (.slice ex n cs) j H K:=by
 unfold Yu ixA; cases elT P t<;>rfl
theorem Zfk (r o n c:Nat) (q:IntKind) (j:Int):Yu P t (.lit (.slice (some ⟨r,o,none⟩) n c)) (.lit (.int q j)) H K=ixA (elT P t) (.lit (.slice (some ⟨r,o,none⟩) n c)) j H K:=by
 unfold Yu ixA; cases elT P t<;>rfl
theorem XG (e k b:Nat) (ex:Bool) (n:Nat) (cs:List VV) (j:Int):ixA (some (e,k,b)) (.slice ex n cs) j H K=((0≤j∧j<(n:Int))∧K (.ret (.iptr (cs.drop (j.toNat * k)))) H):=rfl
theorem Zcz (e k b:Nat) (r o n c:Nat) (j:Int):ixA (some (e,k,b)) (.lit (.slice (some ⟨r,o,none⟩) n c)) j H K=((0≤j∧j<(n:Int))∧K (.ret (.lit (.pointer (some ⟨r,o+j.toNat * k,none⟩)))) H):=rfl
theorem XA (ex:Bool) (n:Nat) (cs:List VV):vcLen P t (.slice ex n cs) H K=(elT P t ≠ none∧K (.ret (intV n)) H):=rfl
theorem Zih (a:Option Addr) (n c:Nat):vcLen P t (.lit (.slice a n c)) H K=(elT P t ≠ none∧K (.ret (intV n)) H):=rfl
theorem JI (s:ByteArray):vcLen P t (.lit (.string s)) H K=(P.underlying t=some .string∧K (.ret (intV s.size)) H):=rfl
end
section
variable {P:Program} {t:TypeId} {H:AH} {K:VE→AH→Prop} {a a' x x':VV}
@[congr] theorem ldB_congr {x x':Option VV} (h:x=x'):ldB x H K=ldB x' H K:=by rw [h]
@[congr] theorem ldA_congr {x x':Option (Nat × Bool)} {b b':Option Blk} {o o':Nat} (h:x=x') (h2:b=b') (h3:o=o'):ldA x b o H K=ldA x' b' o' H K:=by rw [h,h2,h3]
@[congr] theorem ldC_congr {x x':Option (Nat × Bool)} {cs cs':List VV} (h:x=x') (h2:cs=cs'):ldC x cs H K=ldC x' cs' H K:=by rw [h,h2]
@[congr] theorem faA_congr {x x':Option (Nat × Nat × Bool)} {y:Nat→VV} (h:x=x'):faA x y H K=faA x' y H K:=by rw [h]
@[congr] theorem stA_congr {z z':Option Nat} {b b':Option Blk} {r r' o o':Nat} {xs xs':List VV} (h:z=z') (h2:b=b') (h3:r=r') (h4:o=o') (h5:xs=xs'):stA z b r o xs H K=stA z' b' r' o' xs' H K:=by rw [h,h2,h3,h4,h5]
@[congr] theorem ixA_congr {x x':Option (TypeId × Nat × Nat)} {j j':Int} (h:x=x') (h2:a=a') (h3:j=j'):ixA x a j H K=ixA x' a' j' H K:=by rw [h,h2,h3]
@[congr] theorem vcLoad_congr (h:a=a'):Wa P t a H K=Wa P t a' H K:=by rw [h]
@[congr] theorem vcStore_congr (h:a=a') (h2:x=x'):Jo P t a x H K=Jo P t a' x' H K:=by rw [h,h2]
@[congr] theorem vcNil_congr (h:a=a'):vcNil a H K=vcNil a' H K:=by rw [h]
@[congr] theorem Zj8 {f:Nat} (h:a=a'):YF P t a f H K=YF P t a' f H K:=by rw [h]
@[congr] theorem vcField_congr {f:Nat} (h:a=a'):JT P t a f H K=JT P t a' f H K:=by rw [h]
@[congr] theorem Zj9 (h:a=a') (h2:x=x'):Yu P t a x H K=Yu P t a' x' H K:=by rw [h,h2]
@[congr] theorem vcBin_congr {op:BinOp} {ox oy:Operand} (h:a=a') (h2:x=x'):vcBin P op t ox oy a x H K=vcBin P op t ox oy a' x' H K:=by rw [h,h2]
@[congr] theorem vcUn_congr {op:UnOp} (h:a=a'):vcUn op a H K=vcUn op a' H K:=by rw [h]
@[congr] theorem vcLen_congr (h:a=a'):vcLen P t a H K=vcLen P t a' H K:=by rw [h]
@[congr] theorem Zl7 {i:Nat} (h:a=a'):Yw a i H K=Yw a' i H K:=by rw [h]
@[congr] theorem vcIface_congr (h:a=a'):Ze7 P t a H K=Ze7 P t a' H K:=by rw [h]
@[congr] theorem AppendA_congr (h:a=a') (h2:x=x'):Jf P t a x H K=Jf P t a' x' H K:=by rw [h,h2]
@[congr] theorem vcCopy_congr (h:a=a') (h2:x=x'):ZeT P t a x H K=ZeT P t a' x' H K:=by rw [h,h2]
@[congr] theorem vcCall_congr {ro:Option Nat} {xs xs':List VV} (h:a=a') (h2:xs=xs'):WS P ro a xs H K=WS P ro a' xs' H K:=by rw [h,h2]
@[congr] theorem Zl8 {b:Builtin} {ts:List TypeId} {xs xs':List VV} (h2:xs=xs'):YM P b ts xs H K=YM P b ts xs' H K:=by rw [h2]
@[congr] theorem VCalls_congr {f:FuncId} {xs xs':List VV} (h2:xs=xs'):ZO P f xs H K=ZO P f xs' H K:=by rw [h2]
@[congr] theorem vcBuild_congr {ps ps':List (Nat × VV)} (h2:ps=ps'):ZT P t ps H K=ZT P t ps' H K:=by rw [h2]
@[congr] theorem Zjq {n:Nat} {ps ps':List (Nat × VV)} (h2:ps=ps'):ZB P t n ps H K=ZB P t n ps' H K:=by rw [h2]
@[congr] theorem allocA_congr {z z':Option (List Value)} {e:TypeId} (h:z=z'):Zig z e H K=Zig z' e H K:=by rw [h]
@[congr] theorem makeA_congr {z z':Option (TypeId × Nat × Nat)} (h:z=z') (h2:a=a') (h3:x=x'):makeA P z a x H K=makeA P z' a' x' H K:=by rw [h,h2,h3]
@[congr] theorem makeB_congr {z z':Option (List Value)} {e k b:Nat} {l c l' c':Int} (h:z=z') (h2:l=l') (h3:c=c'):makeB z e k b l c H K=makeB z' e k b l' c' H K:=by rw [h,h2,h3]
@[congr] theorem vcBox_congr {e:TypeId} (h:a=a'):vcBox e a H K=vcBox e a' H K:=by rw [h]
end
section
variable {P:Program} {H H0:AH} {K:VE→AH→Prop}
def PtR (H:AH) (a:VV) (cs:List VV):Prop:=a=.iptr cs∨∃ r o e bs sp,a=ptrV r o∧H r=some (.cells e bs sp)∧bs.drop o=cs
def SlR (H:AH) (v:VV) (n:Nat) (cs:List VV):Prop:=(∃ ex,v=.slice ex n cs)∨(v=.lit (.slice none 0 0)∧n=0∧cs=[])∨∃ r o c e bs sp,v=.lit (.slice (some ⟨r,o,none⟩) n c)∧H r=some (.cells e bs sp)∧bs.drop o=cs
theorem PtR.mono {H H':AH} {a:VV} {cs:List VV} (h:PtR H a cs) (hs:SubH H H'):PtR H' a cs:=by
 rcases h with rfl | ⟨r,o,e,bs,sp,rfl,hr,hd⟩
 ·exact .inl rfl
 ·exact .inr ⟨r,o,e,bs,sp,rfl,hs _ _ hr,hd⟩
theorem SlR.mono {H H':AH} {v:VV} {n:Nat} {cs:List VV} (h:SlR H v n cs) (hs:SubH H H'):SlR H' v n cs:=by
 rcases h with h | h | ⟨r,o,c,e,bs,sp,rfl,hr,hd⟩
 ·exact .inl h
 ·exact .inr (.inl h)
 ·exact .inr (.inr ⟨r,o,c,e,bs,sp,rfl,hs _ _ hr,hd⟩)
theorem SlR.len {t:TypeId} {v:VV} {n:Nat} {cs:List VV} (h:SlR H v n cs) (ht:elT P t ≠ none) (k:K (.ret (intV n)) H):vcLen P t v H K:=by
 rcases h with ⟨ex,rfl⟩ | ⟨rfl,rfl,rfl⟩ | ⟨r,o,c,e,bs,sp,rfl,hr,hd⟩
 ·exact ⟨ht,k⟩
 ·exact ⟨ht,k⟩
 ·exact ⟨ht,k⟩
theorem SlR.index {t e:TypeId} {k b:Nat} {v:VV} {n:Nat} {cs:List VV} (h:SlR H v n cs) (ht:elT P t=some (e,k,b)) {q:IntKind} {j:Int} (h0:0≤j) (h1:j<(n:Int))
 (hk:∀ a,PtR H a (cs.drop (j.toNat * k))→K (.ret a) H):Yu P t v (.lit (.int q j)) H K:=by
 rcases h with ⟨ex,rfl⟩ | ⟨rfl,rfl,rfl⟩ | ⟨r,o,c,e',bs,sp,rfl,hr,hd⟩
 ·simp only [Yu,ht]; exact ⟨⟨h0,h1⟩,hk _ (.inl rfl)⟩
 ·omega
 ·simp only [Yu,ht]; exact ⟨⟨h0,h1⟩,hk _ (.inr ⟨r,_,e',bs,sp,rfl,hr,by rw [← hd,List.drop_drop]⟩)⟩
theorem PtR.field {s:TypeId} {f off n:Nat} {ag:Bool} {a:VV} {cs:List VV} (h:PtR H a cs) (hf:flT P s f=some (off,n,ag)) (hn:n ≠ 0) (hk:∀ a',PtR H a' (cs.drop off)→K (.ret a') H):YF P s a f H K:=by
 rcases h with rfl | ⟨r,o,e,bs,sp,rfl,hr,hd⟩
 ·simp only [YF,hf]; exact ⟨hn,hk _ (.inl rfl)⟩
 ·simp only [YF,hf,ptrV]; exact ⟨hn,hk _ (.inr ⟨r,_,e,bs,sp,rfl,hr,by rw [← hd,List.drop_drop]⟩)⟩
theorem PtR.load {t:TypeId} {n:Nat} {ag:Bool} {a:VV} {cs:List VV} {x:VV} (h:PtR H a cs) (ht:ldT P t=some (n,ag)) (hx:ldV n ag cs=some x) (k:K (.ret x) H):Wa P t a H K:=by
 rcases h with rfl | ⟨r,o,e,bs,sp,rfl,hr,hd⟩
 ·simp only [Wa,ht,hx]; exact k
 ·simp only [Wa,ht,ptrV,hr,hd,hx]; exact k
def ReadF (P:Program) (f:FuncId) (xs:List VV) (x:VV) (H:AH):Prop:=ZO P f xs H (fun e H'=>e=.ret x∧SubH H H')
theorem ReadF.use {f:FuncId} {xs:List VV} {x:VV} (h:ReadF P f xs x H) (k:K (.ret x) H):ZO P f xs H K:=fun S w args hs hx =>
 (h S w args hs hx).mono fun e w' hq=>by
   cases e with
   | returned v =>
     obtain ⟨S',H',y,h1,h2,h3,h4,h5⟩:=hq;cases h4;exact ⟨S',H,_,h1.trans (h2.sub h5).2,(h2.sub h5).1,h3,k⟩
   | panicked ch=>obtain ⟨S',H',h1,h2,h4,h5⟩:=hq; cases h4
   | outgrown=>exact hq
def ZaK (P:Program) (f:FuncId) (xs:List VV) (x:VV) (H:AH):Prop:=ZO P f xs H (fun e H'=>∃ y,e=.ret y∧GhV H' y H x)
theorem ZaK.use {f:FuncId} {xs:List VV} {x:VV} (h:ZaK P f xs x H) (k:K (.ret x) H):ZO P f xs H K:=fun S w args hs hx =>
 (h S w args hs hx).mono fun e w' hq=>by
   cases e with
   | returned v =>
     obtain ⟨S',H',y,h1,h2,h3,z,h4,h5⟩:=hq;cases h4;obtain ⟨S'',g1,g2,g3⟩:=h5 S' w' v h2 h3;exact ⟨S'',H,x,h1.trans g1,g2,g3,k⟩
   | panicked ch=>obtain ⟨S',H',h1,h2,z,h4,h5⟩:=hq; cases h4
   | outgrown=>exact hq
theorem ZaK.pure {f:FuncId} {xs:List VV} {x:VV} (h:∀ H,ZaK P f xs x H):PureF P f xs x:=fun H=>(h H).use ⟨rfl,rfl⟩
theorem GhV.nil (H:AH):GhV H (.lit (.slice none 0 0)) H (.slice false 0 []):=GhV.own (e:=0) (k:=0) (OwnX.nil H 0 0)
theorem GhV.back {H1 H2 H3:AH} {e:TypeId} {k n:Nat} {v:VV} {cs:List VV} (h:OwnX H1 H2 e k v n cs) (hs:SubH H3 H1):GhV H2 v H3 (.slice false n cs):=(GhV.own h).trans (GhV.forget hs _)
theorem eq_nil {t e:TypeId} {ox:Operand} {ex:Bool} {n:Nat} {cs:List VV} (hu:P.underlying t=some (.slice e)) (h:∀ b,(0<n→b=false)→K (.ret (boolV b)) H) :
 vcBin P .eql t ox (.const (.slice none 0 0)) (.slice ex n cs) (.lit (.slice none 0 0)) H K:=by
 unfold vcBin;simp only [Xl];exact ⟨⟨e,hu⟩,.inr (.inl rfl),fun b hb=>h b hb⟩
theorem Zbt {t e:TypeId} {k b:Nat} {zs:List Value} {s x:VV} {n m:Nat} {cs news:List VV} (hel:elT P t=some (e,k,b)) (hz:zeroT P e=some zs) (hzk:zs.length=k) (hk:0<k) (ho:OwnX H0 H e k s n cs) (hs:srcV H k x=some (m,news))
 (hone:news.all VV.one=true) (hb:(n+m) * b≤140737488355328) (h63:n+m≤9223372036854775807) (hK:∀ v' H',OwnX H0 H' e k v' (n+m) (cs++news)→K (.ret v') H'):Jf P t s x H K :=
 .inl ⟨e,k,b,zs,H0,n,cs,m,news,hel,hz,hzk,hk,ho,hs,hone,hb,h63,hK⟩
theorem WP {t e:TypeId} {k b:Nat} {zs:List Value} {x:VV} {n m:Nat} {cs news:List VV} (hel:elT P t=some (e,k,b)) (hz:zeroT P e=some zs) (hzk:zs.length=k) (hk:0<k) (hcl:cs.length=n * k) (hs:srcV H k x=some (m,news))
 (hone:news.all VV.one=true) (hb:(n+m) * b≤140737488355328) (h63:n+m≤9223372036854775807) (h0:m=0→K (.ret (.slice true n cs)) H) (hK:m ≠ 0→∀ v' H',OwnX H H' e k v' (n+m) (cs++news)→K (.ret v') H'):Jf P t (.slice true n cs) x H K :=
 .inr (.inl ⟨e,k,b,zs,n,cs,m,news,hel,hz,hzk,hk,rfl,hcl,hs,hone,hb,h63,h0,hK⟩)
theorem OwnX.alloc {e:TypeId} {k n r:Nat} {v:VV} {cs:List VV} (h:OwnX H0 H e k v n cs) (hr:H r=none) (b:Blk):OwnX (H0.set r b) (H.set r b) e k v n cs:=by
 rcases h with ⟨rfl,rfl,rfl,rfl⟩ | ⟨g,c,sp,rfl,h0,rfl,h1,h2,h3,h4⟩
 ·exact .inl ⟨rfl,rfl,rfl,rfl⟩
 ·rw [AH.set_none] at hr;refine .inr ⟨g,c,sp,rfl,?_,AH.comm _ _ hr.1.1,h1,h2,h3,h4⟩;rw [AH.get,if_neg hr.1.2]; exact h0
theorem OwnX.sub {e:TypeId} {k n:Nat} {v:VV} {cs:List VV} (h:OwnX H0 H e k v n cs):SubH H0 H:=by
 rcases h with ⟨rfl,rfl,rfl,rfl⟩ | ⟨g,c,sp,rfl,h0,rfl,h1,h2,h3,h4⟩
 ·exact SubH.refl _
 ·exact SubH.new h0
theorem OwnX.read {e:TypeId} {k n:Nat} {v:VV} {cs:List VV} (h:OwnX H0 H e k v n cs):SlR H v n cs:=by
 rcases h with ⟨rfl,rfl,rfl,rfl⟩ | ⟨g,c,sp,rfl,h0,rfl,h1,h2,h3,h4⟩
 ·exact .inr (.inl ⟨rfl,rfl,rfl⟩)
 ·exact .inr (.inr ⟨g,0,c,e,cs,sp,rfl,AH.set_same _ _ _,by simp⟩)
theorem OwnX.shrink {H1:AH} {e:TypeId} {k n:Nat} {v:VV} {cs:List VV} (h:OwnX H0 H e k v n cs) (hs:SubH H1 H0):∃ H',OwnX H1 H' e k v n cs∧SubH H' H:=by
 rcases h with ⟨rfl,rfl,rfl,rfl⟩ | ⟨g,c,sp,rfl,h0,rfl,h1,h2,h3,h4⟩
 ·exact ⟨H1,.inl ⟨rfl,rfl,rfl,rfl⟩,hs⟩
 ·exact ⟨H1.set g (.cells e cs sp),.inr ⟨g,c,sp,rfl,hs.none h0,rfl,h1,h2,h3,h4⟩,hs.set _ _⟩
theorem SubH.del {H1 H2:AH} (h:SubH H1 H2) {g:Nat} (hg:H1 g=Option.none):SubH H1 (H2.del g):=fun r b hb=>by
 rw [AH.del_ne _ (fun e=>by rw [e,hg] at hb; cases hb)]; exact h r b hb
theorem GhV.row {H1:AH} {g e:Nat} {n c:Nat} {cs:List VV} {sp:Nat} {z:VV} (hg:H g=some (.cells e cs sp)) (hc:n≤c) (hs:SubH H1 H) (hn:H1 g=none):GhV H (.agg [.lit (.slice (some ⟨g,0,none⟩) n c),z]) H1 (.agg [.slice false n cs,z]) :=
 GhV.agg (GhL.cons (GhV.slice hg hc) (GhL.cons (GhV.forget (hs.del hn) z) (GhL.nil _)))
end
def Zt:=And.intro @Yt (And.intro @Ya (And.intro @Ye (And.intro @JE (And.intro @ZZ (And.intro @Yb (And.intro @Yv (And.intro @Ys (And.intro @ZaJ (And.intro @Xe (And.intro @Zcv (And.intro @XF (And.intro @ZY (And.intro @ZF (And.intro @Yk (And.intro @Yx (And.intro @WJ (And.intro @YZ (And.intro @YN (And.intro @ZD (And.intro @JB (And.intro @Xs (And.intro @Jg (And.intro @ZcU (And.intro @ZcV (And.intro @ZG (And.intro @ZH (And.intro @YX (And.intro @ZJ (And.intro @YY (And.intro @ZI (And.intro @ZP (And.intro @ZU (And.intro @Zv (And.intro @ZR (And.intro @ZE (And.intro @ZV (And.intro @Ym (And.intro @YE (And.intro @ZS (And.intro @YR (And.intro @Yh (And.intro @Yy (And.intro @s_un (And.intro @Xn (And.intro @Wx (And.intro @Wp (And.intro @YC (And.intro @Zcx (And.intro @ZA (And.intro @ZN (And.intro @ZX (And.intro @ZK (And.intro @ZL (And.intro @Xk (And.intro @WX (And.intro @Yj (And.intro @Yl (And.intro @YV (And.intro @ZaX (And.intro @YW (And.intro @Yr (And.intro @XJ (And.intro @Yz (And.intro @Zea (And.intro @Xc (And.intro @Xg (And.intro @WF (And.intro @Xo (And.intro @Wz (And.intro @Wy (@Zbq)))))))))))))))))))))))))))))))))))))))))))))))))))))))))))))))))))))))
def Zu:=And.intro @List.map_cons.{0,0} (And.intro @List.map_nil.{0,0} (And.intro @List.length_cons.{0} (And.intro @List.length_nil.{0} (And.intro @List.getD_cons_zero.{0} (And.intro @List.getD_cons_succ.{0} (And.intro @List.getD_nil.{0} (And.intro @List.cons_append.{0} (And.intro @List.nil_append.{0} (And.intro @List.append_nil.{0} (And.intro @ite_true.{1} (And.intro @ite_false.{1} (And.intro @ne_eq.{1} (And.intro @not_false_eq_true (And.intro @not_true_eq_false (And.intro @true_and (And.intro @and_true (And.intro @Zmv (And.intro @Nat.zero_ne_one (And.intro @Zme (And.intro @decide_true (And.intro @decide_false (And.intro @ZmK (And.intro @ZmG (And.intro @Zm6 (And.intro @ZmL (And.intro @Zmw (And.intro @ZmM (And.intro @AH.get (And.intro @AH.set_set (And.intro @List.all_cons.{0} (And.intro @List.all_nil.{0} (And.intro @Zmp (And.intro @eq_self.{1} (And.intro @Zmh (And.intro @Zmo (And.intro @and_self (And.intro @List.getElem?_cons_zero.{0} (And.intro @List.getElem?_cons_succ.{0} (And.intro @Yq (And.intro @Wt (And.intro @Jk (And.intro @XV (And.intro @Wc (And.intro @cl_str (And.intro @WM (And.intro @ZeX (And.intro @on_sl (And.intro @YB (And.intro @XR (And.intro @Ws (And.intro @List.set_cons_zero.{0} (And.intro @List.set_cons_succ.{0} (And.intro @YP (And.intro @Zmc (And.intro @WC (And.intro @Yn (And.intro @Zcg (And.intro @YK (And.intro @WE (And.intro @Zfk (And.intro @XG (And.intro @Zcz (And.intro @XA (And.intro @Zih (And.intro @Yo (And.intro @WD (And.intro @Yp (And.intro @YG (And.intro @Wf (And.intro @Wg (And.intro @List.replicate_succ.{0} (And.intro @List.replicate_zero.{0} (And.intro @List.flatten_cons.{0} (@List.flatten_nil.{0}))))))))))))))))))))))))))))))))))))))))))))))))))))))))))))))))))))))))))
end Go.PV
end
section
open List renaming length_take→ZmV
namespace Go.PV
open Go
theorem GhL.append {H H' H'':AH}:∀ {xs xs' ys ys':List VV},xs.length=xs'.length→GhL H xs H' xs'→GhL H' ys H'' ys'→GhL H (xs++ys) H'' (xs'++ys'):=by
 intro xs xs' ys ys' hl h k S w us hs hx
 have split:∀ (xs:List VV) {S:Nat→Prop} {ys:List VV} {us:List Value},RvL S w (xs++ys) us→∃ u1 u2,us=u1++u2∧RvL S w xs u1∧RvL S w ys u2:=by
  intro xs
  induction xs with
  | nil=>intro S ys us h; exact ⟨[],us,rfl,rfl,h⟩
  | cons x xs ih =>
    intro S ys us h;obtain ⟨u,us',rfl,h1,h2⟩:=h;obtain ⟨u1,u2,rfl,h3,h4⟩:=ih h2;exact ⟨u::u1,u2,rfl,⟨u,u1,rfl,h1,h3⟩,h4⟩
 have join:∀ (xs:List VV) {S:Nat→Prop} {ys:List VV} {u1 u2:List Value},RvL S w xs u1→RvL S w ys u2→RvL S w (xs++ys) (u1++u2):=by
  intro xs
  induction xs with
  | nil=>intro S ys u1 u2 h k; obtain rfl:u1=[]:=h; exact k
  | cons x xs ih =>
    intro S ys u1 u2 h k;obtain ⟨u,us',rfl,h1,h2⟩:=h;exact ⟨u,us'++u2,rfl,h1,ih h2 k⟩
 obtain ⟨u1,u2,rfl,h1,h2⟩:=split xs hx;obtain ⟨S1,a1,a2,a3⟩:=h S w u1 hs h1;obtain ⟨S2,b1,b2,b3⟩:=k S1 w u2 a2 (h2.step hs a1);exact ⟨S2,a1.trans b1,b2,join xs' (a3.step a2 b1) b3⟩
theorem Ghost.cell {N:Nat} {A:AF} {H H':AH} {r:Nat} {e:TypeId} {cs cs':List VV} {sp:Nat} (hr:H r=some (.cells e cs sp)) (h:GhL (H.del r) cs H' cs'):Ghost N A H A (H'.set r (.cells e cs' sp)):=fun S w a hs hf=>by
 have hsub:SubH (H.del r) H:=fun i b hb=>by
  by_cases e:i=r
  ·subst e; rw [AH.del_same] at hb; cases hb
  ·rw [AH.del_ne _ e] at hb; exact hb
 obtain ⟨s1,s2⟩:=hs.sub hsub;obtain ⟨vs,v1,v2,v3⟩:=hs.blk r _ hr;obtain ⟨S',a1,a2,a3⟩:=h S w _ s1 v3
 have hlt:r<w.heap.size:=by
  refine Nat.lt_of_not_ge fun hn=>?_
  rw [Array.getElem?_eq_none hn] at v1; cases v1
 have hnS:¬ S' r:=fun hS=>by
  rcases a1.snew r hS with h1 | h1 | h1
  ·exact hs.dis r _ hr h1
  ·exact h1 (AH.del_same _ _)
  ·omega
 have l1:(vs.toList.take cs.length).length=cs.length:=by
  have e:vs.toList.length=vs.size:=Array.length_toList;rw [ZmV]; omega
 have hlen:cs'.length=cs.length:=by rw [← a3.length]; exact l1
 refine ⟨S',?_,⟨fun i b hb=>?_,fun i b hb=>?_,a2.lt⟩,?_⟩
 ·have k:=s2.trans a1;refine ⟨k.os,k.tape,k.output,k.size,k.sub,fun _ _ _=>rfl,fun i hi=>?_,fun i hi=>?_⟩
  ·by_cases e:i=r
   ·subst e; exact .inl (by rw [hr]; simp)
   ·rw [AH.get,if_neg e] at hi;exact k.own i hi
  ·exact k.snew i hi
 ·by_cases e:i=r
  ·subst e;rw [AH.set_same] at hb;cases hb;exact ⟨vs,v1,by rw [hlen]; exact v2,by rw [hlen]; exact a3⟩
  ·rw [AH.get,if_neg e] at hb;exact a2.blk i b hb
 ·by_cases e:i=r
  ·subst e; exact hnS
  ·rw [AH.get,if_neg e] at hb;exact a2.dis i b hb
 ·exact ⟨hf.1,hf.2.1,fun j=>((hf.2.2 j).step hs s2).step s1 a1⟩
theorem ZgY {cx:Cx} {Q:APost} {A:AF} {H:AH} {a:ACode} (I:AF→AH→Prop) (μ:AF→AH→Nat) (h0:I A H)
 (round:∀ A H,I A H→ACx cx a (thenA (fun A' H'=>I A' H'∧μ A' H'<μ A H) Q) A H):ACx cx (.loop a) Q A H:=by
 intro c hc;cases c with
 | loop c =>
   simp only [ZM,ACode.loop.injEq] at hc;exact ZkA I μ h0 fun A H hI=>round A H hI c hc
 | region id ops draw =>
   exfalso
   unfold ZM Xw at hc;split at hc
   ·dsimp only at hc;split at hc
    ·split at hc<;>cases hc
    ·cases hc
   ·split at hc<;>cases hc
 | seq x y=>simp only [ZM] at hc; split at hc<;>cases hc
 | _=>simp [ZM] at hc
end Go.PV
end
section
open List renaming take_of_length_le→ZmQ
open Nat renaming le_refl→Zmc
namespace Go.PV
open Go
theorem ZgZ (a b:ByteArray):(a.toList == b.toList)=decide (a=b):=by
 have h:a.toList=b.toList↔a=b:=by
  rw [ByteArray.toList_eq,ByteArray.toList_eq]
  constructor
  ·intro h; cases a; cases b; simp only [ByteArray.mk.injEq]; exact Array.toList_inj.1 h
  ·rintro rfl; rfl
 rw [Bool.eq_iff_iff];simp [h]
theorem Zgu {P:Program} {H:AH} {KK:VE→AH→Prop} (t:TypeId) (x y:Operand) (a b:ByteArray):vcBin P .eql t x y (.lit (.string a)) (.lit (.string b)) H KK=KK (.ret (.lit (.bool (decide (a=b))))) H:=by
 simp only [vcBin,binV,ZgZ]
theorem JJ {P:Program} {H:AH} {KK:VE→AH→Prop} (t:TypeId) (x y:Operand) (a b:ByteArray):vcBin P .neq t x y (.lit (.string a)) (.lit (.string b)) H KK=KK (.ret (.lit (.bool (!decide (a=b))))) H:=by
 simp only [vcBin,binV,ZgZ]
def OwnF (P:Program) (f:FuncId) (xs:List VV) (H:AH) (e:TypeId) (k n:Nat) (cs:List VV):Prop:=ZO P f xs H (fun r H'=>∃ v Hb,r=.ret v∧SubH H Hb∧OwnX Hb H' e k v n cs)
theorem OwnF.use {P:Program} {f:FuncId} {xs:List VV} {H:AH} {e:TypeId} {k n:Nat} {cs:List VV} {K:VE→AH→Prop} (h:OwnF P f xs H e k n cs) (hK:∀ v H',OwnX H H' e k v n cs→K (.ret v) H'):ZO P f xs H K:=fun S w args hs hx =>
 (h S w args hs hx).mono fun e w' hq=>by
   cases e with
   | returned v =>
     obtain ⟨S',H',y,h1,h2,h3,z,Hb,h4,h5,h6⟩:=hq;cases h4;obtain ⟨H2,g1,g2⟩:=h6.shrink h5;exact ⟨S',H2,_,h1.trans (h2.sub g2).2,(h2.sub g2).1,h3,hK _ _ g1⟩
   | panicked ch=>obtain ⟨S',H',h1,h2,z,Hb,h4,_⟩:=hq; cases h4
   | outgrown=>exact hq
theorem OwnX.put {H0 H:AH} {e:TypeId} {k n r:Nat} {v:VV} {cs:List VV} {b0:Blk} (h:OwnX H0 H e k v n cs) (hr:H0 r=some b0) (b:Blk):OwnX (H0.set r b) (H.set r b) e k v n cs:=by
 rcases h with ⟨rfl,rfl,rfl,rfl⟩ | ⟨g,c,sp,rfl,h0,rfl,h1,h2,h3,h4⟩
 ·exact .inl ⟨rfl,rfl,rfl,rfl⟩
 ·have hg:¬ g=r:=fun e=>by subst e; rw [h0] at hr; cases hr
  refine .inr ⟨g,c,sp,rfl,?_,AH.comm _ _ (fun e=>hg e.symm),h1,h2,h3,h4⟩;rw [AH.get,if_neg hg]; exact h0
theorem OwnX.cells {H0 H:AH} {e:TypeId} {k n:Nat} {v:VV} {cs:List VV} (h:OwnX H0 H e k v n cs):v.cells=[v]∧VV.one v=true:=by
 rcases h with ⟨rfl,_⟩ | ⟨g,c,sp,rfl,_⟩<;>exact ⟨rfl,rfl⟩
theorem OwnX.swap {H0 H1 H2:AH} {e e':TypeId} {k k' n n':Nat} {v v':VV} {cs cs':List VV} (h:OwnX H0 H1 e k v n cs) (h':OwnX H1 H2 e' k' v' n' cs'):∃ Hx,OwnX H0 Hx e' k' v' n' cs'∧OwnX Hx H2 e k v n cs:=by
 rcases h' with ⟨rfl,rfl,rfl,rfl⟩ | ⟨g,c,sp,rfl,h0,rfl,h1,h2,h3,h4⟩
 ·exact ⟨H0,OwnX.nil _ _ _,h⟩
 ·exact ⟨H0.set g (.cells e' cs' sp),.inr ⟨g,c,sp,rfl,h.sub.none h0,rfl,h1,h2,h3,h4⟩,h.alloc h0 _⟩
theorem OwnX.form {H0 H1:AH} {e:TypeId} {k n:Nat} {v:VV} {cs:List VV} (h:OwnX H0 H1 e k v n cs):∃ a c,v=.lit (.slice a n c):=by
 rcases h with ⟨rfl,rfl,_⟩ | ⟨g,c,sp,rfl,_⟩
 ·exact ⟨none,0,rfl⟩
 ·exact ⟨_,c,rfl⟩
theorem Zbu {P:Program} {H0 H:AH} {K:VE→AH→Prop} {t e:TypeId} {k b:Nat} {zs:List Value} {s:VV} {n:Nat} {cs xs:List VV} (hel:elT P t=some (e,k,b)) (hz:zeroT P e=some zs) (hzk:zs.length=k) (hk:0<k) (ho:OwnX H0 H e k s n cs) (hx:xs.length=k)
 (hone:xs.all VV.one=true) (hb:(n+1) * b≤140737488355328) (h63:n+1≤9223372036854775807) (hK:∀ v' H',OwnX H0 H' e k v' (n+1) (cs++xs)→K (.ret v') H'):Jf P t s (.slice true 1 xs) H K:=by
 refine Zbt hel hz hzk hk ho (m:=1) (news:=xs) ?_ hone hb h63 hK;simp only [srcV,Nat.one_mul,hx,Zmc,if_true];rw [ZmQ (by omega)]
theorem JY {P:Program} {s d:TypeId} {s':TypeDesc} {k q:IntKind} {n:Int} {H:AH} {K:VE→AH→Prop} (hs:P.underlying s=some s') (hd:P.underlying d=some (.int k)) (hk:K (.ret (.lit (.int k (k.wrap n)))) H):Zai P s d (.lit (.int q n)) H K:=⟨k,s',hs,hd,hk⟩
structure InB (H0 H:AH) (r:Nat) (T:TypeId) (pre post:List VV) (e k n:Nat) (cs:List VV) (v:VV) (Hb:AH):Prop where
 own:OwnX Hb H e k v n cs
 blk:Hb r=some (.cells T (pre++v::post) 0)
 sub:SubH H0 Hb
 new:H0 r=none
section
variable {H0 H:AH} {r:Nat} {T:TypeId} {pre post:List VV} {e k n:Nat} {cs:List VV} {v:VV} {Hb:AH}
theorem InB.at (h:InB H0 H r T pre post e k n cs v Hb):H r=some (.cells T (pre++v::post) 0):=h.own.sub _ _ h.blk
theorem InB.start (hr:H r=some (.cells T (pre++.lit (.slice none 0 0)::post) 0)) (hs:SubH H0 H) (hn:H0 r=none):InB H0 H r T pre post e k 0 [] (.lit (.slice none 0 0)) H:=⟨OwnX.nil _ _ _,hr,hs,hn⟩
theorem InB.alloc (h:InB H0 H r T pre post e k n cs v Hb) {z:Nat} (hz:H z=none) (b:Blk):InB H0 (H.set z b) r T pre post e k n cs v (Hb.set z b):=by
 have hb:Hb z=none:=h.own.sub.none hz;refine ⟨h.own.alloc hz b,?_,h.sub.of_set (h.sub.none hb),h.new⟩;rw [AH.get,if_neg]
 ·exact h.blk
 ·rintro rfl; rw [h.blk] at hb; cases hb
theorem InB.next {v':VV} {H':AH} {n':Nat} {cs':List VV} (h:InB H0 H r T pre post e k n cs v Hb) (ho:OwnX Hb H' e k v' n' cs'):InB H0 (H'.set r (.cells T (pre++v'::post) 0)) r T pre post e k n' cs' v' (Hb.set r (.cells T (pre++v'::post) 0)) :=
 ⟨ho.put h.blk _,AH.set_same _ _ _,h.sub.of_set h.new,h.new⟩
theorem InB.back (h:InB H0 H r T pre post e k n cs v Hb):GhL H (pre++v::post) H0 (pre++.slice false n cs::post):=by
 refine GhL.append rfl (GhL.refl _ _) (GhL.cons ((GhV.own h.own).trans (GhV.forget h.sub _)) (GhL.refl _ _))
theorem InB.ret {r2:Nat} {b2:Blk} (h:InB (H0.set r2 b2) H r T pre post e k n cs v Hb) (n2:H0 r2=none) (b:Blk):GhL (H.set r2 b) (pre++v::post) H0 (pre++.slice false n cs::post):=by
 have hb:=h.sub _ _ (AH.set_same H0 r2 b2);have hs:SubH H0 (Hb.set r2 b):=((SubH.new n2).trans h.sub).of_set n2;exact GhL.append rfl (GhL.refl _ _) (GhL.cons ((GhV.own (h.own.put hb b)).trans (GhV.forget hs _)) (GhL.refl _ _))
end
theorem AH.del_get (H:AH) (r i:Nat):H.del r i=if i=r then none else H i:=rfl
theorem OwnX.del {H0 H:AH} {e:TypeId} {k n r:Nat} {v:VV} {cs:List VV} {b:Blk} (h:OwnX H0 H e k v n cs) (hr:H0 r=some b):OwnX (H0.del r) (H.del r) e k v n cs:=by
 rcases h with ⟨rfl,rfl,rfl,rfl⟩ | ⟨g,c,sp,rfl,h0,rfl,h1,h2,h3,h4⟩
 ·exact .inl ⟨rfl,rfl,rfl,rfl⟩
 ·have hg:¬ g=r:=fun e=>by subst e; rw [h0] at hr; cases hr
  refine .inr ⟨g,c,sp,rfl,?_,?_,h1,h2,h3,h4⟩
  ·rw [AH.del_get,if_neg hg]; exact h0
  ·funext i
   simp only [AH.del_get,AH.get];by_cases e1:i=r
   ·subst e1;rw [if_pos rfl,if_neg (fun e=>hg e.symm),if_pos rfl]
   ·rw [if_neg e1,if_neg e1]
theorem InB.ghost {H0 H:AH} {r:Nat} {T:TypeId} {pre post:List VV} {e k n:Nat} {cs:List VV} {v:VV} {Hb:AH} (h:InB H0 H r T pre post e k n cs v Hb) (N:Nat) (A:AF) :
 Ghost N A H A (H0.set r (.cells T (pre++.slice false n cs::post) 0)):=by
 refine Ghost.cell h.at ?_;have hs:SubH H0 (Hb.del r):=h.sub.del h.new;exact GhL.append rfl (GhL.refl _ _) (GhL.cons ((GhV.own (h.own.del h.blk)).trans (GhV.forget hs _)) (GhL.refl _ _))
theorem OwnX.ghost {H0 H Hb:AH} {e:TypeId} {k n i:Nat} {cs:List VV} {t:Nat→VV} {d:List Deferred} (h:OwnX Hb H e k (t i) n cs) (hs:SubH H0 Hb) (N:Nat) :
 Ghost N ⟨t,d⟩ H ⟨upd t i (.slice false n cs),d⟩ H0:=Ghost.slot (A:=⟨t,d⟩) ((GhV.own h).trans (GhV.forget hs _))
theorem GhL.from {H H1:AH} {H':AH} {xs xs':List VV} (hs:SubH H1 H) (h:GhL H1 xs H' xs'):GhL H xs H' xs':=fun S w us hw hx=>by
 obtain ⟨s1,s2⟩:=hw.sub hs;obtain ⟨S',a1,a2,a3⟩:=h S w us s1 (hx.step hw s2);exact ⟨S',s2.trans a1,a2,a3⟩
theorem GhV.from {H H1:AH} {H':AH} {xs xs':VV} (hs:SubH H1 H) (h:GhV H1 xs H' xs'):GhV H xs H' xs':=fun S w us hw hx=>by
 obtain ⟨s1,s2⟩:=hw.sub hs;obtain ⟨S',a1,a2,a3⟩:=h S w us s1 (hx.step hw s2);exact ⟨S',s2.trans a1,a2,a3⟩
theorem Zlm {P:Program} {f:FuncId} {xs:List VV} {x:VV} {H H1:AH} {K:VE→AH→Prop} (h:ZO P f xs H1 (fun e H'=>∃ y,e=.ret y∧GhV H' y H x)) (k:K (.ret x) H):ZO P f xs H1 K:=fun S w args hs hx =>
 (h S w args hs hx).mono fun e w' hq=>by
   cases e with
   | returned v =>
     obtain ⟨S',H',y,h1,h2,h3,z,h4,h5⟩:=hq;cases h4;obtain ⟨S'',g1,g2,g3⟩:=h5 S' w' v h2 h3;exact ⟨S'',H,x,h1.trans g1,g2,g3,k⟩
   | panicked ch=>obtain ⟨S',H',h1,h2,z,h4,h5⟩:=hq; cases h4
   | outgrown=>exact hq
theorem RvC.pre {S:Nat→Prop} {w:World}:∀ {xs ys:List VV} {r o:Nat},RvC S w (xs++ys) r o→RvC S w xs r o
 | [],_,_,_,_=>trivial
 | x::xs,ys,r,o,h=>⟨h.1,RvC.pre h.2⟩
theorem ZeY {cx:Cx} {c:Code} {a:ACode} {Q:APost} {A:AF} {H:AH} (h:ZM cx.P c=a) (k:ACx cx a Q A H):AC cx c Q A H:=k c h
end Go.PV
end
section
open List renaming take_succ_eq_append_getElem→Znf,map_cons→Zmd,length_cons→Zmi
open Nat renaming le_refl→Zmc
namespace Go.PV.Ytfkkmdelpddojaa
open Go Go.Proofs
abbrev sV (s:ByteArray):VV:=.lit (.string s)
abbrev bV (b:Bool):VV:=.lit (.bool b)
abbrev noNm:ByteArray:={ data:=#[] }
theorem XK {α:Type} {l:List α} {i:Nat} (h:i<l.length):l.take (i+1)=l.take i++[l[i]]:=Znf h
theorem ZkN {α:Type} {f:α→Nat} {x:α}:∀ {l:List α},x∈l→f x≤(l.map f).sum
 | y::l,h=>by
   rw [Zmd,List.sum_cons];rcases List.mem_cons.1 h with rfl | h
   ·omega
   ·have:=ZkN (f:=f) h; omega
theorem Zfl {α:Type} {f:α→Nat} (hf:∀ x,0<f x):∀ (l:List α),l.length≤(l.map f).sum
 | []=>by simp
 | y::l=>by have:=Zfl hf l; have:=hf y; rw [Zmd,List.sum_cons,Zmi]; omega
structure It where
 kind:Int
 text:ByteArray
 prio:Int
abbrev itE (i:It):List VV:=[iV i.kind,sV i.text,iV i.prio]
abbrev itV (i:It):VV:=.agg (itE i)
abbrev itsV (l:List It):VV:=encS itE l
theorem ZbB {l:List It} {i:Nat} (hi:i<l.length):(encC itE l).drop (i * 3)=iV l[i].kind::sV l[i].text::iV l[i].prio::encC itE (l.drop (i+1)):=WZ (enc:=itE) (k:=3) (fun _=>rfl) hi
theorem it_take {l:List It} {i:Nat} (h:i<l.length):encC itE (l.take (i+1))=encC itE (l.take i)++[iV l[i].kind,sV l[i].text,iV l[i].prio]:=by
 rw [XK h,YS]; rfl
structure Pd where
 left:ByteArray
 prio:Int
 name:ByteArray
 items:List It
abbrev pdE (p:Pd):List VV:=[sV p.left,iV p.prio,sV p.name,itsV p.items]
abbrev pdV (p:Pd):VV:=.agg (pdE p)
abbrev pdsV (l:List Pd):VV:=encS pdE l
theorem WG {l:List Pd} {i:Nat} (hi:i<l.length):(encC pdE l).drop (i * 4)=sV l[i].left::iV l[i].prio::sV l[i].name::itsV l[i].items::encC pdE (l.drop (i+1)):=WZ (enc:=pdE) (k:=4) (fun _=>rfl) hi
theorem pd_take {l:List Pd} {i:Nat} (h:i<l.length):encC pdE (l.take (i+1))=encC pdE (l.take i)++[sV l[i].left,iV l[i].prio,sV l[i].name,itsV l[i].items]:=by
 rw [XK h,YS]; rfl
structure Tk where
 kind:ByteArray
 text:ByteArray
abbrev tkE (t:Tk):List VV:=[sV t.kind,sV t.text]
abbrev tkV (t:Tk):VV:=.agg (tkE t)
abbrev tksV (l:List Tk):VV:=encS tkE l
theorem ZhK {l:List Tk} {i:Nat} (hi:i<l.length):(encC tkE l).drop (i * 2)=sV l[i].kind::sV l[i].text::encC tkE (l.drop (i+1)):=WZ (enc:=tkE) (k:=2) (fun _=>rfl) hi
theorem tk_take {l:List Tk} {i:Nat} (h:i<l.length):encC tkE (l.take (i+1))=encC tkE (l.take i)++[sV l[i].kind,sV l[i].text]:=by
 rw [XK h,YS]; rfl
inductive Tn where
 | mk (prod tok:Int) (kids:List Tn)
def Tn.prod:Tn→Int | .mk o _ _=>o
def Tn.tok:Tn→Int | .mk _ n _=>n
def Tn.kids:Tn→List Tn | .mk _ _ k=>k
mutual
def tnE:Tn→List VV
 | .mk op n ks=>[iV op,iV n,.slice false ks.length (tnsE ks)]
def tnsE:List Tn→List VV
 | []=>[]
 | k::ks=>tnE k++tnsE ks
end
theorem ZkO:∀ ks,tnsE ks=encC tnE ks
 | []=>rfl
 | k::ks=>by rw [tnsE,Yg,ZkO ks]
theorem ZcA (e:Tn):tnE e=[iV e.prod,iV e.tok,encS tnE e.kids]:=by
 cases e; rw [tnE,ZkO]; rfl
abbrev tnV (e:Tn):VV:=.agg [iV e.prod,iV e.tok,encS tnE e.kids]
abbrev tnsV (l:List Tn):VV:=encS tnE l
theorem ZcB (e:Tn):(tnE e).length=3:=by rw [ZcA]; rfl
theorem ZkP {l:List Tn} {i:Nat} (hi:i<l.length):(encC tnE l).drop (i * 3)=iV l[i].prod::iV l[i].tok::encS tnE l[i].kids::encC tnE (l.drop (i+1)):=by
 rw [WZ ZcB hi,ZcA]; rfl
mutual
def Tn.sz:Tn→Nat
 | .mk _ _ ks=>1+tnsSz ks
def tnsSz:List Tn→Nat
 | []=>0
 | k::ks=>k.sz+tnsSz ks
end
mutual
def Tn.dp:Tn→Nat
 | .mk _ _ ks=>tnsDp ks+1
def tnsDp:List Tn→Nat
 | []=>0
 | k::ks=>max k.dp (tnsDp ks)
end
theorem Tn.sz_eq (e:Tn):e.sz=1+tnsSz e.kids:=by cases e; rfl
theorem Tn.sz_pos (e:Tn):0<e.sz:=by rw [e.sz_eq]; omega
theorem Zg0 {e:Tn}:∀ {l:List Tn},e∈l→e.sz≤tnsSz l
 | k::l,h=>by
   rw [tnsSz];rcases List.mem_cons.1 h with rfl | h
   ·omega
   ·have:=Zg0 h; omega
mutual
theorem Tn.dp_le:∀ e:Tn,e.dp≤e.sz
 | .mk _ _ ks=>by have:=ZiX ks; rw [Tn.dp,Tn.sz]; omega
theorem ZiX:∀ l:List Tn,tnsDp l≤tnsSz l
 | []=>by simp [tnsDp]
 | k::l=>by have:=Tn.dp_le k; have:=ZiX l; rw [tnsDp,tnsSz]; omega
end
theorem Tn.ind {p:Tn→Prop} (h:∀ e:Tn,(∀ k∈e.kids,p k)→p e) (e:Tn):p e:=by
 have:∀ n (e:Tn),e.sz≤n→p e:=by
  intro n
  induction n with
  | zero=>intro e he; have:=e.sz_pos; omega
  | succ n ih=>intro e he; exact h e fun k hk=>ih k (by have:=Zg0 hk; have:=e.sz_eq; omega)
 exact this e.sz e (Zmc _)
def itOk (i:It):Bool:=decide (1≤i.kind) && decide (i.kind≤3) && !decide (i.text=noNm) && decide ((i.text.size:Int)≤100) && (decide (0≤i.prio) && decide (i.prio≤1000)) && (decide (i.kind=3) || decide (i.prio=0))
def pdOk (p:Pd):Bool:=!decide (p.left=noNm) && decide ((p.left.size:Int)≤100) && decide ((p.name.size:Int)≤100) && (decide (0≤p.prio) && decide (p.prio≤1000)) && decide (1≤(p.items.length:Int)) && decide ((p.items.length:Int)≤30) && p.items.all itOk
def Jl (g:List Pd):Int:=if g.length≤500∧g.all pdOk=true then 0 else 170
end Go.PV.Ytfkkmdelpddojaa
end
section
open List renaming length_cons→Zmi,mem_cons_self→ZmR,mem_cons_of_mem→ZmN,append_nil→ZmF
namespace Go.PV
open Go.ChangeShapes Go.WideShapes Go.RowKit
abbrev old (w:World) (r:Nat):Prop:=r<w.heap.size
theorem sim_old (w:World):Sim (old w) AH.nil w:=⟨fun r b h=>by simp [AH.nil] at h,fun r b h=>by simp [AH.nil] at h,fun r h=>h⟩
section
variable {P:Program} {α β:Type} {t e:TypeId} {enc:α→List VV} {dom:α→Prop} {enc':β→List VV} {dom':β→Prop}
theorem RvL.split {S:Nat→Prop} {w:World} {xs ys:List VV} {cs:List Value} {k:Nat} (h1:RvL S w xs (cs.take k)) (h2:RvL S w ys (cs.drop k)):RvL S w (xs++ys) cs:=by
 have:=h1.append h2
 rwa [List.take_append_drop] at this
theorem Zdh {S:Nat→Prop} {w:World}:∀ {xs:List VV} {cs:List Value} {r o:Nat},RvL S w xs cs→(∀ j,j<cs.length→w.cell? ⟨r,o+j,none⟩=cs[j]?)→RvC S w xs r o
 | [],_,_,_,_,_=>trivial
 | x::xs,cs,r,o,h,hc=>by
   obtain ⟨u,us,rfl,h1,h2⟩:=h;refine ⟨⟨u,by simpa using hc 0 (by simp),h1⟩,Zdh h2 fun j hj=>?_⟩
   have:=hc (j+1) (by simpa using hj)
   rw [show o+1+j=o+(j+1) by omega];simpa using this
theorem RvC.append {S:Nat→Prop} {w:World}:∀ {xs ys:List VV} {r o:Nat},RvC S w xs r o→RvC S w ys r (o+xs.length)→RvC S w (xs++ys) r o
 | [],_,_,_,_,h=>h
 | x::xs,ys,r,o,h,h'=>⟨h.1,RvC.append h.2 (by rw [Zmi] at h'; rw [show o+1+xs.length=o+(xs.length+1) by omega]; exact h')⟩
theorem ZbS {w:World} {r:Reach} {base:Nat} {v:Value} (ht:P.underlying t=some (.slice e)) (h:Value.okWide P w r base t v):v.cells.toList=[v]:=by
 obtain ⟨a,l,c,rfl⟩:=okWide_slice ht h;rfl
theorem Zg1 {w:World} {r:Reach} {base:Nat} {v:Value} {k:IntKind} (ht:P.underlying t=some (.int k)) (h:Value.okWide P w r base t v):v.cells.toList=[v]:=by
 obtain ⟨n,rfl⟩:=okWide_int ht h;rfl
theorem Zhr {w:World} {r:Reach} {base:Nat} {v:Value} (ht:P.underlying t=some .string) (h:Value.okWide P w r base t v):v.cells.toList=[v]:=by
 obtain ⟨n,rfl⟩:=okWide_string ht h;rfl
end
section
variable {P:Program}
theorem ZjF {W W':World} {S':Nat→Prop} {H':AH} (h:Step (old W) AH.nil W S' H' W'):Below W.heap.size W W':=⟨h.os,h.tape,h.output,h.size,fun k hk=>h.fr k hk rfl⟩
theorem ZcC {H:Type} {en:TypeId × Value→H} (hl:laidOutB P=true) {W W':World} (hb:Below W.heap.size W W') {sp:Nat→Bool}:∀ {ts:List TypeId} {vs:List Value} {ds:List (DataW H)} {ps:List MemPlace},
 (∀ t∈ts,P.readableRec t=true∧t<P.types.size)→DataW.TrodAll en P W 0 (fun _=>true) true ts vs ds ps→(∀ x∈ps,x.block<W.heap.size)→(∀ x∈ps,sp x.block=true)→DataW.TrodAll en P W' 0 sp true ts vs ds ps
 | [],vs,ds,ps,_,h,_,_=>by obtain ⟨rfl,rfl,rfl⟩:=trodAll_nil h; exact trodAll_mk0
 | t::ts,vs,ds,ps,hr,h,hlt,hsp=>by
   obtain ⟨v,vs',d,ds',p,q,rfl,rfl,rfl,h1,h2⟩:=trodAll_cons h;obtain ⟨r1,r2⟩:=hr t (ZmR ..)
   exact trodAll_cons_mk (WideElems.Trod_stays hl r1 r2 h1 (fun x hx=>hb.same (hlt x (by simp [hx]))) (fun x hx=>hsp x (by simp [hx])))
    (ZcC hl hb (fun t ht=>hr t (ZmN _ ht)) h2 (fun x hx=>hlt x (by simp [hx])) (fun x hx=>hsp x (by simp [hx])))
theorem Zln {H:Type} {en:TypeId × Value→H} {fn:Func} {s:ChangeSpec} {apart fresh handsOn again:Bool} {W W':World} {args:Array Value} {ds gs:List (DataW H)} {before:List MemPlace} {tb:TypeId}
 (hl:laidOutB P=true) (hr:(fn.params.toList.all fun t=>P.readableRec t && decide (t<P.types.size))=true) (hres:fn.resultTypes=#[tb]) (htb:P.underlying tb=some .bool) (hvars:s.vars=[])
 (hW:DataW.Whole en P fn.params.toList s.vars apart W args.toList ds gs before) (hs:s.fn H (ds++gs)={ results:=[.lit (.bool true)],args:=ds })
 (hb:Below W.heap.size W W'):s.post en P fn apart fresh handsOn again W args (.bool true) W':=by
 have hlt:=hW.lt;have hW':=hW;obtain ⟨p,q,hA,hV,rfl,hfz,hnd⟩:=hW
 have hq:gs=[]∧q=[]:=by
  have hV':DataW.TrodVars en P W (fun _=>true) s.vars gs q:=hV;rw [hvars] at hV';exact trodVars_none hV'
 obtain ⟨rfl,rfl⟩:=hq;simp only [ZmF] at hW' hs hfz hnd hlt
 have hrr:∀ t∈fn.params.toList,P.readableRec t=true∧t<P.types.size:=fun t ht=>by
  have:=List.all_eq_true.1 hr t ht
  simpa using this
 have hres':∀ (b:Nat) (sp:Nat→Bool) (hd:Bool),DataW.TrodAll en P W' b sp hd fn.resultTypes.toList ((Value.bool true).resultList fn.resultTypes.size) [.lit (.bool true)] []:=fun b sp hd=>by
  rw [hres];exact trodAll_cons_mk (p:=[]) (p':=[]) (shut_bool htb _) trodAll_mk0
 have hargs:∀ sp:Nat→Bool,(∀ x∈p,sp x.block=true)→DataW.TrodAll en P W' 0 sp true fn.params.toList args.toList ds p:=fun sp hsp=>ZcC hl hb hrr hA hlt hsp
 have hv:∀ sp:Nat→Bool,DataW.TrodVars en P W' sp s.vars [] []:=fun sp=>by rw [hvars]; exact rfl
 have hold:∀ x∈p,(fun b=>decide (b<W.heap.size)) x.block=true:=fun x hx=>by simpa using hlt x hx
 refine ⟨ds,[],p,[],p,[],hW',?_,?_,?_,hb.frame _,fun _=>⟨?_,_,_,([]++p)++[],⟨[]++p,[],trodAll_append (hargs (fun _=>true) fun _ _=>rfl) (hres' _ _ _),hv _,rfl,?_,?_⟩,?_⟩⟩
 ·simp only [ZmF,hs]; exact hres' _ _ _
 ·simp only [ZmF,hs]; exact hargs _ hold
 ·simp only [ZmF,hs]; exact hv _
 ·exact ok_one hres rfl (okWide_bool_mk htb _)
 ·intro b off hp;have hp':MemPlace.cell b off∈p:=by simpa using hp
  rw [hb.frozen (p:=⟨b,off,none⟩) (hlt _ hp')];exact hfz b off hp'
 ·intro ha
  have:=hnd ha
  simpa using this
 ·intro x hx _;simpa using hx
theorem ZjG {H:Type} {en:TypeId × Value→H} {f:FuncId} {fn:Func} {s:ChangeSpec} {apart fresh handsOn again:Bool} {W:World} {args:Array Value} {ds gs:List (DataW H)} {before:List MemPlace} {tb:TypeId} {xs:List VV}
 (hl:laidOutB P=true) (hr:(fn.params.toList.all fun t=>P.readableRec t && decide (t<P.types.size))=true) (hres:fn.resultTypes=#[tb]) (htb:P.underlying tb=some .bool) (hvars:s.vars=[])
 (hW:DataW.Whole en P fn.params.toList s.vars apart W args.toList ds gs before) (hs:s.fn H (ds++gs)={ results:=[.lit (.bool true)],args:=ds })
 (hx:RvL (old W) W xs args.toList) (h:PureF P f xs (boolV true)):Calls P f args W fun e W'=>∃ v,e=.returned v∧s.post en P fn apart fresh handsOn again W args v W':=by
 refine (h AH.nil (old W) W args (sim_old W) hx).calls (Zim P none) |>.mono fun e W' hq=>?_
 cases e with
 | returned v =>
   obtain ⟨S',H',x,h1,h2,h3,h4,_⟩:=hq;simp only [VE.ret.injEq] at h4;subst h4;simp only [boolV,Rv] at h3;subst h3;exact ⟨_,rfl,Zln hl hr hres htb hvars hW hs (ZjF h1)⟩
 | panicked ch=>obtain ⟨S',H',h1,h2,h3,_⟩:=hq; simp at h3
 | outgrown=>exact hq.elim
end
end Go.PV
end
section
open List renaming drop_eq_nil_of_le→Znb,getElem?_cons_zero→ZmC,map_cons→Zmd,getElem?_eq_getElem→ZmW,getElem_mem→ZmE
open Nat renaming le_refl→Zmc,zero_le→ZmU
namespace Go.PV
open Go.ChangeShapes Go.WideShapes Go.RowKit
mutual
def bulkD {H:Type}:DataW H→Nat
 | .lit (.string bytes)=>bytes.length+1
 | .lit _=>1
 | .nil=>1
 | .ptr d=>bulkD d+1
 | .slice elems spare=>bulkA elems+bulkA spare+1
 | .agg parts=>bulkA parts+1
 | .iface _ d=>bulkD d+1
 | .map entries=>bulkE entries+1
 | .held _=>1
def bulkA {H:Type}:List (DataW H)→Nat
 | []=>0
 | d::r=>bulkD d+bulkA r
def bulkE {H:Type}:List (Lit × DataW H)→Nat
 | []=>0
 | x::r=>bulkX x+bulkE r
def bulkX {H:Type}:Lit × DataW H→Nat
 | (.string bytes,d)=>bytes.length+bulkD d+1
 | (_,d)=>bulkD d+1
end
def RdN (n:Nat) (P:Program) (t:TypeId) {α:Type} (enc:α→List VV) (dom:α→Prop) (msr:α→Nat):Prop :=
 ∀ (H:Type) (en:TypeId × Value→H) (w:World) (base:Nat) (spare:Nat→Bool) (held:Bool) (fuel:Nat) (cs:List Value) (d:DataW H) (ps:List MemPlace),
   DataW.trod en P w base spare held fuel t cs=some (d,ps)→bulkD d≤n→∃ a,dom a∧msr a≤bulkD d∧RvL (old w) w (enc a) cs
def RdNFs (n:Nat) (P:Program) (fs:List Field) (off tot:Nat) {α:Type} (enc:α→List VV) (dom:α→Prop) (msr:α→Nat):Prop :=
 ∀ (H:Type) (en:TypeId × Value→H) (w:World) (base:Nat) (spare:Nat→Bool) (held:Bool) (k:Nat) (cs:List Value) (xs:List (DataW H × List MemPlace)),
   cs.length=tot→xs.length=fs.length→(∀ (i:Nat) (f:Field),fs[i]?=some f→DataW.trod en P w base spare held k f.type ((cs.drop f.offset).take (P.cellsOf f.type))=xs[i]?) →
   bulkA (xs.map (·.1))≤n→∃ a,dom a∧msr a≤bulkA (xs.map (·.1))∧RvL (old w) w (enc a) (cs.drop off)
theorem Zeb {H:Type} (d:DataW H):1≤bulkD d:=by
 cases d with
 | lit l=>cases l<;>simp [bulkD]
 | _=>simp [bulkD]
section
variable {n:Nat} {P:Program} {α β:Type} {t e:TypeId} {enc:α→List VV} {dom:α→Prop} {msr:α→Nat} {enc':β→List VV} {dom':β→Prop} {msr':β→Nat}
theorem ZdQ (g:α→β) (h:RdN n P t enc dom msr) (h1:∀ a,enc' (g a)=enc a) (h2:∀ a,dom a→dom' (g a)) (h3:∀ a,msr' (g a)≤msr a):RdN n P t enc' dom' msr':=by
 intro H en w base spare held fuel cs d ps ht hw;obtain ⟨a,ha,hm,hr⟩:=h H en w base spare held fuel cs d ps ht hw;exact ⟨g a,h2 a ha,Nat.le_trans (h3 a) hm,by rw [h1]; exact hr⟩
theorem ZdA:RdN 0 P t enc dom msr:=by
 intro H en w base spare held fuel cs d ps ht hw
 have:=Zeb d
 omega
theorem ZdR {k:IntKind} (ht:P.underlying t=some (.int k)):RdN n P t (fun n:Int=>[.lit (.int k n)]) (fun n=>(Lit.int k n).wf=true) (fun _=>1):=by
 intro H en w base spare held fuel cs d ps h _;obtain ⟨m,rfl,_,hw⟩:=DataW.trod_int ht h;exact ⟨m,hw,Zeb d,_,[],rfl,rfl,rfl⟩
theorem JK (ht:P.underlying t=some .string):RdN n P t (fun s:ByteArray=>[VV.lit (.string s)]) (fun _=>True) (fun s=>s.size+1):=by
 intro H en w base spare held fuel cs d ps h hw;obtain ⟨s,rfl,hx,hm⟩:=DataW.trod_string ht h;simp only [Prod.mk.injEq] at hx;obtain ⟨rfl,rfl⟩:=hx;refine ⟨s,trivial,?_,_,[],rfl,rfl,rfl⟩;simp only [bulkD,Array.length_toList];exact Zmc _
theorem Zec (tot:Nat):RdNFs n P [] tot tot (fun _:Unit=>[]) (fun _=>True) (fun _=>0):=by
 intro H en w base spare held k cs xs hl _ _ _;refine ⟨(),trivial,ZmU _,?_⟩;rw [Znb (by omega)];rfl
theorem WA {f:Field} {fs:List Field} {off tot k:Nat} (ho:f.offset=off) (hk:P.cellsOf f.type=k) (h1:RdN n P f.type enc dom msr) (h2:RdNFs n P fs (off+k) tot enc' dom' msr') :
 RdNFs n P (f::fs) off tot (fun p:α × β=>enc p.1++enc' p.2) (fun p=>dom p.1∧dom' p.2) (fun p=>msr p.1+msr' p.2):=by
 intro H en w base spare held m cs xs hl hx hr hw;cases xs with
 | nil=>simp at hx
 | cons x xs =>
   have h0:=hr 0 f (by simp);simp only [ZmC] at h0;simp only [Zmd,bulkA] at hw ⊢;obtain ⟨a,ha,hma,hra⟩:=h1 H en w base spare held m _ x.1 x.2 h0 (by omega);obtain ⟨b,hb,hmb,hrb⟩:=h2 H en w base spare held m cs xs hl (by simpa using hx) (fun i f hf=>by simpa using hr (i+1) f (by simpa using hf)) (by omega);refine ⟨(a,b),⟨ha,hb⟩,by show msr a+msr' b≤_; omega,RvL.split (k:=k) ?_ ?_⟩
   ·rw [ho,hk] at hra; exact hra
   ·rw [List.drop_drop]; exact hrb
theorem ZcZ {fs:Array Field} {tot:Nat} (ht:P.underlying t=some (.struct fs)) (hc:P.cellsOf t=tot) (h:RdNFs n P fs.toList 0 tot enc dom msr):RdN (n+1) P t enc dom (fun a=>msr a+1):=by
 intro H en w base spare held fuel cs d ps hr hw;obtain ⟨xs,k,_,hx,hl,hxl,hf⟩:=DataW.trod_struct ht hr;simp only [Prod.mk.injEq] at hx;obtain ⟨rfl,rfl⟩:=hx;simp only [bulkD] at hw ⊢;obtain ⟨a,ha,hm,hra⟩:=h H en w base spare held k cs xs (by rw [hl,hc]) (by simpa using hxl) (fun i f hi=>hf i f (by simpa using hi)) (by omega);exact ⟨a,ha,by show msr a+1≤_; omega,by simpa using hra⟩
theorem Zfm {S:Nat→Prop} {w:World} {k r:Nat} (hl:∀ a,(enc a).length=k):∀ (bs:List Nat) (o:Nat),(∀ i (h:i<bs.length),∃ a,dom a∧msr a≤bs[i]∧RvC S w (enc a) r (o+i * k))→∃ l,l.length=bs.length∧(∀ a∈l,dom a)∧(l.map msr).sum≤bs.sum∧RvC S w (encC enc l) r o
 | [],_,_=>⟨[],rfl,by simp,by simp,trivial⟩
 | b::bs,o,h=>by
   obtain ⟨a,ha,hm,hr⟩:=h 0 (by simp)
   obtain ⟨l,hn,hd,hs,hrl⟩:=Zfm hl bs (o+k) fun i hi=>by
    obtain ⟨b,hb,hmb,hrb⟩:=h (i+1) (by simpa using hi);exact ⟨b,hb,by simpa using hmb,by rw [Nat.succ_mul] at hrb; rw [show o+k+i * k=o+(i * k+k) by omega]; exact hrb⟩
   refine ⟨a::l,by simp [hn],?_,?_,?_⟩
   ·intro b hb;rcases List.mem_cons.1 hb with rfl | hb
    ·exact ha
    ·exact hd b hb
   ·simp only [Zmd,List.sum_cons];simp only [List.getElem_cons_zero] at hm;omega
   ·rw [Yg];exact RvC.append (by simpa using hr) (by rw [hl]; exact hrl)
theorem Zg2 {H:Type}:∀ (l:List (DataW H)),bulkA l=(l.map bulkD).sum
 | []=>rfl
 | d::l=>by rw [bulkA,Zg2 l]; rfl
theorem Zg3 {H:Type} {d:DataW H}:∀ {l:List (DataW H)},d∈l→bulkD d≤bulkA l
 | x::l,h=>by
   rw [bulkA];rcases List.mem_cons.1 h with rfl | h
   ·omega
   ·have:=Zg3 h; omega
theorem Zlo {k:Nat} (ht:P.underlying t=some (.slice e)) (hc:P.cellsOf e=k) (hk:0<k) (h:RdN n P e enc dom msr) (hl:∀ a,(enc a).length=k) :
 RdN (n+1) P t (fun l=>[encS enc l]) (fun l=>∀ a∈l,dom a) (fun l=>(l.map msr).sum+1):=by
 intro H en w base spare held fuel cs d ps hr hw;rcases DataW.trod_slice ht hr with ⟨rfl,_⟩ | ⟨a,len,cap,elems,rest,n',_,rfl,hx,_,hlc,hcm,hlen,hel,_,_⟩
 ·exact ⟨[],by simp,by simpa using Zeb d,_,[],rfl,⟨none,0,rfl,⟨by simp,by simp⟩,by simp⟩,rfl⟩
 ·simp only [Prod.mk.injEq] at hx;obtain ⟨rfl,rfl⟩:=hx;simp only [bulkD] at hw ⊢
  have each:∀ i,(hi:i<elems.length)→∃ x,dom x∧msr x≤bulkD elems[i].1∧(a.add (i * k)).spot=none∧a.block<w.heap.size∧RvC (old w) w (enc x) a.block (a.off+i * k):=by
   intro i hi';have hi:i<len:=by omega
   have h1:=hel i hi;rw [hc] at h1;rw [ZmW hi',Option.bind_eq_some_iff] at h1;obtain ⟨cs',hcs,hd⟩:=h1;have hmem:bulkD elems[i].1≤bulkA (elems.map (·.1)):=Zg3 (List.mem_map.2 ⟨elems[i],ZmE _,rfl⟩);obtain ⟨x,hx,hmx,hrx⟩:=h H en w base spare held n' cs' elems[i].1 elems[i].2 hd (by omega);obtain ⟨hblk,hcl,hcell⟩:=World.cells?_some hcs
   have hsp:∀ j,j<k→((a.add (i * k)).add j)=⟨a.block,a.off+i * k+j,none⟩:=by
    intro j hj;have h2:=hcell j hj;rw [ZmW (by omega)] at h2;have h3:=World.cell?_spot h2;unfold Addr.add at h3 ⊢;obtain ⟨ab,ao,ax⟩:=a;split at h3<;>rename_i hj0<;>split at h3<;>rename_i hi0<;>simp_all
   have h2:=hcell 0 hk;rw [ZmW (by omega)] at h2;have h3:=World.cell?_spot h2;refine ⟨x,hx,hmx,by simpa [Addr.add] using h3,?_,Zdh hrx fun j hj=>?_⟩
   ·have:=World.block_lt_of_cell? w _ h2
    rw [hsp 0 hk] at this;exact this
   ·rw [← hsp j (by omega)]; exact hcell j (by omega)
  obtain ⟨l,hn,hd,hs,hrl⟩:=Zfm (S:=old w) (w:=w) (r:=a.block) (dom:=dom) (msr:=msr) hl (elems.map fun x=>bulkD x.1) a.off fun i hi=>by
   obtain ⟨x,h1,h1',_,_,h2⟩:=each i (by simpa using hi);exact ⟨x,h1,by simpa using h1',h2⟩
  have hle:elems.length=len:=by omega
  have hn':l.length=len:=by rw [hn,List.length_map,hle]
  refine ⟨l,hd,?_,_,[],rfl,⟨some a,cap,by rw [hn'],⟨by omega,by simp⟩,fun hp=>?_⟩,rfl⟩
  ·have e1:bulkA (elems.map (·.1))=(elems.map fun x=>bulkD x.1).sum:=by rw [Zg2,List.map_map]; rfl
   show (l.map msr).sum+1≤_;omega
  ·obtain ⟨x,_,_,h3,h4,_⟩:=each 0 (by omega);have e0:a.add (0 * k)=a:=by simp [Addr.add]
   rw [e0] at h3;obtain ⟨ab,ao,ax⟩:=a;exact ⟨ab,ao,by simp at h3; rw [h3],h4,hrl⟩
theorem Zar {H:Type} {en:TypeId × Value→H} {w:World} {base:Nat} {spare:Nat→Bool} {held:Bool} {v:Value} {d:DataW H} {ps:List MemPlace} (h:RdN n P t enc dom msr)
 (ht:DataW.Trod en P w base spare held t v d ps) (hw:bulkD d≤n):∃ a,dom a∧msr a≤bulkD d∧RvL (old w) w (enc a) v.cells.toList:=by
 obtain ⟨fuel,hf⟩:=ht;exact h H en w base spare held fuel _ d ps hf hw
end
end Go.PV
end
section
open List renaming map_cons→Zmd
open Nat renaming le_refl→Zmc
set_option maxRecDepth 20000
namespace Go.PV.Ytfkkmdelpddojaa
open Go Go.Proofs Go.ChangeShapes Go.WideShapes Go.RowKit
def itWt (i:It):Nat:=i.text.size+3
def pdWt (p:Pd):Nat:=p.left.size+p.name.size+(p.items.map itWt).sum+3
def tkWt (t:Tk):Nat:=t.kind.size+t.text.size+2
theorem Zc0 {n:Nat} {P:Program} {α:Type} {t e:TypeId} {enc:α→List VV} {dom:α→Prop} {msr:α→Nat} {k:Nat} (ht:P.underlying t=some (.slice e)) (hc:P.cellsOf e=k) (hk:0<k) (h:∀ m,m<n→RdN m P e enc dom msr) (hl:∀ a,(enc a).length=k) :
 RdN n P t (fun l=>[encS enc l]) (fun l=>∀ a∈l,dom a) (fun l=>(l.map msr).sum+1):=by
 cases n with
 | zero=>exact ZdA
 | succ n=>exact Zlo ht hc hk (h n (Nat.lt_succ_self _)) hl
theorem rdIt (n:Nat):RdN n Try.prog 88 itE (fun _=>True) itWt:=by
 cases n with
 | zero=>exact ZdA
 | succ n =>
   refine ZdQ (fun p:Int × ByteArray × Int × Unit=>(⟨p.1,p.2.1,p.2.2.1⟩:It)) (ZcZ (tot:=3) Try.underlying88 (by kernel_rfl) (WA (k:=1) rfl (by kernel_rfl) (ZdR Try.underlying3) (WA (k:=1) rfl (by kernel_rfl) (JK Try.underlying9) (WA (k:=1) rfl (by kernel_rfl) (ZdR Try.underlying3) (Zec 3))))) ?_ (fun _ _=>trivial) ?_
   ·intro p; rfl
   ·intro p; show p.2.1.size+3≤_; omega
theorem rdPd (n:Nat):RdN n Try.prog 52 pdE (fun _=>True) pdWt:=by
 cases n with
 | zero=>exact ZdA
 | succ n =>
   have hs:RdN n Try.prog 50 (fun l:List It=>[encS itE l]) (fun l=>∀ a∈l,True) (fun l=>(l.map itWt).sum+1):=Zc0 (k:=3) Try.underlying50 (by kernel_rfl) (by omega) (fun i hi=>rdIt i) (fun _=>rfl);refine ZdQ (fun p:ByteArray × Int × ByteArray × List It × Unit=>(⟨p.1,p.2.1,p.2.2.1,p.2.2.2.1⟩:Pd)) (ZcZ (tot:=4) Try.underlying52 (by kernel_rfl) (WA (k:=1) rfl (by kernel_rfl) (JK Try.underlying9) (WA (k:=1) rfl (by kernel_rfl) (ZdR Try.underlying3) (WA (k:=1) rfl (by kernel_rfl) (JK Try.underlying9) (WA (k:=1) rfl (by kernel_rfl) hs (Zec 4)))))) ?_ (fun _ _=>trivial) ?_
   ·intro p; rfl
   ·intro p; show p.1.size+p.2.2.1.size+(p.2.2.2.1.map itWt).sum+3≤_; omega
theorem rdTk (n:Nat):RdN n Try.prog 100 tkE (fun _=>True) tkWt:=by
 cases n with
 | zero=>exact ZdA
 | succ n =>
   refine ZdQ (fun p:ByteArray × ByteArray × Unit=>(⟨p.1,p.2.1⟩:Tk)) (ZcZ (tot:=2) Try.underlying100 (by kernel_rfl) (WA (k:=1) rfl (by kernel_rfl) (JK Try.underlying9) (WA (k:=1) rfl (by kernel_rfl) (JK Try.underlying9) (Zec 2)))) ?_ (fun _ _=>trivial) ?_
   ·intro p; rfl
   ·intro p; show p.1.size+p.2.1.size+2≤_; omega
theorem rdPds (n:Nat):RdN n Try.prog 22 (fun l:List Pd=>[pdsV l]) (fun _=>True) (fun l=>(l.map pdWt).sum+1) :=
 ZdQ id (Zc0 (k:=4) Try.underlying22 (by kernel_rfl) (by omega) (fun i hi=>rdPd i) (fun _=>rfl)) (fun _=>rfl) (fun _ _=>trivial) (fun l=>Zmc _)
theorem rdTks (n:Nat):RdN n Try.prog 23 (fun l:List Tk=>[tksV l]) (fun _=>True) (fun l=>(l.map tkWt).sum+1) :=
 ZdQ id (Zc0 (k:=2) Try.underlying23 (by kernel_rfl) (by omega) (fun i hi=>rdTk i) (fun _=>rfl)) (fun _=>rfl) (fun _ _=>trivial) (fun l=>Zmc _)
theorem ZkQ (l:List Pd):l.length≤(l.map pdWt).sum:=Zfl (f:=pdWt) (fun p=>by unfold pdWt; omega) l
theorem tks_len (l:List Tk):l.length≤(l.map tkWt).sum:=Zfl (f:=tkWt) (fun p=>by unfold tkWt; omega) l
theorem ZhL:∀ l:List Pd,(l.map fun p=>p.items.length).sum≤(l.map pdWt).sum
 | []=>Zmc _
 | p::l=>by
   have h1:=ZhL l;have h2:=Zfl (f:=itWt) (fun i=>by unfold itWt; omega) p.items;simp only [Zmd,List.sum_cons]
   have:pdWt p=p.left.size+p.name.size+(p.items.map itWt).sum+3:=rfl
   omega
end Go.PV.Ytfkkmdelpddojaa
end
section
set_option maxRecDepth 20000
namespace Go.PV
open Go.ChangeShapes Go.WideShapes Go.RowKit
theorem ZeZ {S:Nat→Prop} {w:World} {x:VV} {v:Value} (h:RvL S w [x] v.cells.toList) (hv:v.cells.toList=[v]):Rv S w x v:=by
 obtain ⟨u,us,e,hr,_⟩:=h;rw [hv] at e;simp only [List.cons.injEq] at e;rw [e.1]; exact hr
end Go.PV
namespace Go.Proofs.Ytfkkmdelpddojaa
open Go.PV
mutual
theorem Zfn {H:Type}:∀ d:DataW H,Rows.uptoBulk d=bulkD d
 | .lit l=>by cases l<;>rfl
 | .nil=>rfl
 | .ptr d=>by rw [Rows.uptoBulk,bulkD,Zfn d]
 | .slice elems spare=>by rw [Rows.uptoBulk,bulkD,Zax elems,Zax spare]
 | .agg parts=>by rw [Rows.uptoBulk,bulkD,Zax parts]
 | .iface _ d=>by rw [Rows.uptoBulk,bulkD,Zfn d]
 | .map entries=>by rw [Rows.uptoBulk,bulkD,ZbO entries]
 | .held _=>rfl
theorem Zax {H:Type}:∀ l:List (DataW H),Rows.uptoBulkAll l=bulkA l
 | []=>rfl
 | d::r=>by rw [Rows.uptoBulkAll,bulkA,Zfn d,Zax r]
theorem ZbO {H:Type}:∀ l:List (Lit × DataW H),Rows.uptoBulkEntries l=bulkE l
 | []=>rfl
 | x::r=>by rw [Rows.uptoBulkEntries,bulkE,Zhs x,ZbO r]
theorem Zhs {H:Type}:∀ x:Lit × DataW H,Rows.uptoBulkEntry x=bulkX x
 | (l,d)=>by cases l<;>simp only [Rows.uptoBulkEntry,bulkX,Zfn d]
end
theorem small_of {H:Type} {l:List (DataW H)} (hk:Rows.uptoSmall H l=true):bulkA l≤1048576:=by
 have h:Rows.uptoBulkAll l≤1048576:=of_decide_eq_true hk
 rwa [Zax] at h
theorem own:ownKnob Try.prog.godebug=none:=by kernel_rfl
theorem laidOut:laidOutB Try.prog=true:=by kernel_rfl
end Go.Proofs.Ytfkkmdelpddojaa
end
section
namespace Go.PV
open Go
def smap (m:ByteArray→Option VV):Value→Option VV
 | .string s=>m s
 | _=>none
def supd (m:ByteArray→Option VV) (s:ByteArray) (y:VV):ByteArray→Option VV:=fun s'=>if s'=s then some y else m s'
theorem smap_set (m:ByteArray→Option VV) (s:ByteArray) (y:VV):mset (smap m) (.string s) y=smap (supd m s y):=by
 funext k
 by_cases h:k=.string s
 ·subst h; rw [Wq]; simp [smap,supd]
 ·rw [Wu _ _ h];cases k<;>simp only [smap,supd]<;>try rfl
  rename_i s';rw [if_neg]; rintro rfl; exact h rfl
theorem ZiY:(fun _=>none:Value→Option VV)=smap (fun _=>none):=by funext k; cases k<;>rfl
structure Zdo (P:Program) (t:TypeId) (z:Value):Prop where
 mt:MapT P t z
 all:∀ s:ByteArray,s.size≤maxLen→ZW P t (.string s)
section
variable {P:Program} {t:TypeId} {z:Value} {H:AH} {K:VE→AH→Prop} {r:Nat} {m:ByteArray→Option VV} {s:ByteArray}
theorem Zed {ok:Bool} (h:Zdo P t z) (hz:s.size≤maxLen) (hr:H r=some (.map (ZW P t) (smap m))) (hk:(∀ y,m s=some y→K (.ret (okV ok y true)) H)) (hn:m s=none→K (.ret (okV ok (.lit z) false)) H):XP P t (.lit (.map (some r))) (.lit (.string s)) ok H K:=by
 refine ⟨z,h.mt,.string s,rfl,h.all s hz,?_⟩;simp only [hr];refine ⟨fun _ h=>h,?_⟩;show (match m s with | some y=>K (.ret (okV ok y true)) H | none=>K (.ret (okV ok (.lit z) false)) H);cases hm:m s with
 | some y=>exact hk y hm
 | none=>exact hn hm
theorem Zlp {y:VV} (h:Zdo P t z) (hz:s.size≤maxLen) (hr:H r=some (.map (ZW P t) (smap m))) (hk:K (.ret Zx) (H.set r (.map (ZW P t) (smap (supd m s y))))):XY P t (.lit (.map (some r))) (.lit (.string s)) y H K:=by
 refine ⟨z,h.mt,.string s,rfl,h.all s hz,?_⟩;simp only [hr,smap_set];exact ⟨fun _ h=>h,h.all s hz,hk⟩
end
theorem strMap {P:Program} {t kt et:TypeId} {z:Value} (hu:P.underlying t=some (.map kt et)) (hs:P.underlying kt=some .string) (hz:zeroV P et=some z):Zdo P t z:=by
 refine ⟨⟨kt,et,hu,Go.Maps.string_keyed hs,hz⟩,fun s hl=>?_⟩
 have:∃ l,keyOf P kt (.string s)=some l:=by
  simp only [keyOf,hs,mapKey,hl,if_true];exact ⟨_,rfl⟩
 obtain ⟨l,hl⟩:=this;exact ⟨kt,et,l,hu,hl⟩
end Go.PV
end
section
open Nat renaming le_refl→Zmc
namespace Go.PV
open Go
theorem ZjH (m:Value→Option VV) (k:Value) (y z:VV):mset (mset m k y) k z=mset m k z:=by
 funext k'
 by_cases h:k'=k
 ·subst h; rw [Wq,Wq]
 ·rw [Wu _ _ h,Wu _ _ h,Wu _ _ h]
section
variable {α:Type}
open Classical in
noncomputable def kmap (kf:α→Value) (m:α→Option VV):Value→Option VV:=fun k=>if h:∃ a,kf a=k then m h.choose else none
open Classical in
noncomputable def kupd (m:α→Option VV) (a:α) (y:VV):α→Option VV:=fun a'=>if a'=a then some y else m a'
theorem Za0 (m:α→Option VV) (a:α) (y:VV):kupd m a y a=some y:=by simp [kupd]
theorem ZdS (m:α→Option VV) {a a':α} (y:VV) (h:¬ a'=a):kupd m a y a'=m a':=by simp [kupd,h]
variable {kf:α→Value} (hi:∀ a b,kf a=kf b→a=b)
include hi
theorem ZdT (m:α→Option VV) (a:α):kmap kf m (kf a)=m a:=by
 have h:∃ b,kf b=kf a:=⟨a,rfl⟩
 unfold kmap;rw [dif_pos h,hi _ _ h.choose_spec]
theorem ZiZ (m:α→Option VV) (a:α) (y:VV):mset (kmap kf m) (kf a) y=kmap kf (kupd m a y):=by
 funext k
 by_cases hk:∃ b,kf b=k
 ·obtain ⟨b,rfl⟩:=hk;rw [ZdT hi];by_cases hb:b=a
  ·subst hb; rw [Wq,Za0]
  ·rw [Wu _ _ (fun h=>hb (hi _ _ h)),ZdT hi,ZdS _ _ hb]
 ·have:¬ k=kf a:=fun h=>hk ⟨a,h.symm⟩
  rw [Wu _ _ this];unfold kmap;rw [dif_neg hk,dif_neg hk]
omit hi in
theorem ZdB:(fun _=>none:Value→Option VV)=kmap kf (fun _=>none):=by funext k; unfold kmap; split<;>rfl
omit hi in
theorem Zee {m:α→Option VV} {k:Value} {y:VV} (h:kmap kf m k=some y):∃ a,kf a=k∧m a=some y:=by
 unfold kmap at h;split at h
 ·rename_i hk; exact ⟨_,hk.choose_spec,h⟩
 ·cases h
end
structure KMap {α:Type} (P:Program) (t:TypeId) (z:Value) (kf:α→Value) (kx:α→VV) (ok:α→Prop):Prop where
 mt:MapT P t z
 inj:∀ a b,kf a=kf b→a=b
 lit:∀ a,Za8 (kx a)=some (kf a)
 all:∀ a,ok a→ZW P t (kf a)
section
variable {α:Type} {P:Program} {t:TypeId} {z:Value} {kf:α→Value} {kx:α→VV} {ok:α→Prop} {H:AH} {K:VE→AH→Prop} {r:Nat} {m:α→Option VV} {a:α}
theorem Za1 {b:Bool} (h:KMap P t z kf kx ok) (hz:ok a) (hr:H r=some (.map (ZW P t) (kmap kf m))) (hk:(∀ y,m a=some y→K (.ret (okV b y true)) H)) (hn:m a=none→K (.ret (okV b (.lit z) false)) H):XP P t (.lit (.map (some r))) (kx a) b H K:=by
 refine ⟨z,h.mt,kf a,h.lit a,h.all a hz,?_⟩;simp only [hr];refine ⟨fun _ h=>h,?_⟩;rw [ZdT h.inj];cases hm:m a with
 | some y=>exact hk y hm
 | none=>exact hn hm
theorem Zef {y:VV} (h:KMap P t z kf kx ok) (hz:ok a) (hr:H r=some (.map (ZW P t) (kmap kf m))) (hk:K (.ret Zx) (H.set r (.map (ZW P t) (kmap kf (kupd m a y))))):XY P t (.lit (.map (some r))) (kx a) y H K:=by
 refine ⟨z,h.mt,kf a,h.lit a,h.all a hz,?_⟩;simp only [hr,ZiZ h.inj];exact ⟨fun _ h=>h,h.all a hz,hk⟩
end
theorem acx_show {cx:Cx} {a:ACode} {Q:APost} {A:AF} {H:AH} {b:Nat} {ks:Value→Prop} {m:Value→Option VV} (hb:H b=some (.map ks m)) (hl:∀ k x,m k=some x→∃ v,x=.lit v)
 (h:∀ arr clock,Ents m arr clock→(∀ e∈arr.toList,ks e.key)→ACx cx a Q A (H.set b (.obj (.map arr clock)))):ACx cx a Q A H:=fun c hc S w ac hs hf=>by
 obtain ⟨arr,clock,g1,g2,g3,g4,g5,g6,g7⟩:=hs.blk b _ hb
 have he:Ents m arr clock:=⟨g3,fun e he=>by
  obtain ⟨x,hx,hr⟩:=g4 e he;obtain ⟨v,rfl⟩:=hl _ _ hx;rw [show e.val=v from hr]; exact hx,g5,g6,g7⟩
 have hs':Sim S (H.set b (.obj (.map arr clock))) w:=by
  refine ⟨fun r c hr=>?_,fun r c hr=>?_,hs.lt⟩
  ·by_cases e:r=b
   ·subst e; rw [AH.set_same] at hr; cases hr; exact g1
   ·rw [AH.set_ne _ _ e] at hr; exact hs.blk r c hr
  ·by_cases e:r=b
   ·subst e; exact hs.dis r _ hb
   ·rw [AH.set_ne _ _ e] at hr; exact hs.dis r c hr
 have hst:Step S H w S (H.set b (.obj (.map arr clock))) w:=⟨rfl,rfl,rfl,Zmc _,fun _ h=>h,fun _ _ _=>rfl,fun r hr=>by
  by_cases e:r=b
  ·subst e; exact .inl (by rw [hb]; simp)
  ·rw [AH.set_ne _ _ e] at hr; exact .inl hr,fun _ h=>.inl h⟩
 exact wpIn_mono (h arr clock he g2 c hc S w ac hs' hf) fun _ _ _ hq=>hq.lift hst
theorem Ghost.hide {N:Nat} {A:AF} {H:AH} {b:Nat} {ks:Value→Prop} {m:Value→Option VV} {arr:Array MapEntry} {clock:Nat} (hb:H b=some (.obj (.map arr clock))) (he:Ents m arr clock) (hk:∀ e∈arr.toList,ks e.key):Ghost N A H A (H.set b (.map ks m)):=fun S w a hs hf=>by
 refine ⟨S,?_,?_,hf⟩
 ·exact ⟨rfl,rfl,rfl,Zmc _,fun _ h=>h,fun _ _ _=>rfl,fun r hr=>by
   by_cases e:r=b
   ·subst e; exact .inl (by rw [hb]; simp)
   ·rw [AH.set_ne _ _ e] at hr; exact .inl hr,fun _ h=>.inl h⟩
 ·refine ⟨fun r c hr=>?_,fun r c hr=>?_,hs.lt⟩
  ·by_cases e:r=b
   ·subst e;rw [AH.set_same] at hr;cases hr;exact ⟨arr,clock,hs.blk r _ hb,hk,he.keys,fun e h=>⟨_,he.get e h,rfl⟩,he.all,he.nd,he.old⟩
   ·rw [AH.set_ne _ _ e] at hr; exact hs.blk r c hr
  ·by_cases e:r=b
   ·subst e; exact hs.dis r _ hb
   ·rw [AH.set_ne _ _ e] at hr; exact hs.dis r c hr
end Go.PV
end
section
namespace Go.PV
open Go
section
variable {κ:Type}
abbrev OB (κ:Type):=κ→Option (Nat × Blk)
open Classical in
noncomputable def OB.put (B:OB κ) (k:κ) (x:Option (Nat × Blk)):OB κ:=fun k'=>if k'=k then x else B k'
theorem OB.put_same (B:OB κ) (k:κ) (x:Option (Nat × Blk)):B.put k x k=x:=by simp [OB.put]
theorem OB.put_ne (B:OB κ) {k k':κ} (x:Option (Nat × Blk)) (h:¬ k'=k):B.put k x k'=B k':=by simp [OB.put,h]
structure Objs (H0 H:AH) (B:OB κ):Prop where
 inj:∀ k k' a b b',B k=some (a,b)→B k'=some (a,b')→k=k'
 new:∀ k a b,B k=some (a,b)→H0 a=none
 sub:SubH H0 H
 at_:∀ k a b,B k=some (a,b)→H a=some b
variable {H0 H H':AH} {B:OB κ} {k k':κ} {a:Nat} {b b':Blk}
theorem Objs.apart (h:Objs H0 H B) {a':Nat} (hk:B k=some (a,b)) (hk':B k'=some (a',b')) (hne:¬ k=k'):¬ a=a':=fun e=>by
 subst e; exact hne (h.inj _ _ _ _ _ hk hk')
theorem Objs.turn (h:Objs H0 H B) {g:Nat} (hg:H0 g=none) (hnew:∀ k' b',¬ k'=k→B k'=some (g,b')→False) (hs:SubH H0 H') (hag:H' g=some b) (hkeep:∀ k' a' b',¬ k'=k→B k'=some (a',b')→H' a'=some b'):Objs H0 H' (B.put k (some (g,b))):=by
 refine ⟨fun x y c d e hx hy=>?_,fun x c d hx=>?_,hs,fun x c d hx=>?_⟩
 ·by_cases ex:x=k
  ·by_cases ey:y=k
   ·rw [ex,ey]
   ·subst ex;rw [OB.put_same] at hx;rw [OB.put_ne _ _ ey] at hy;cases hx;exact (hnew _ _ ey hy).elim
  ·by_cases ey:y=k
   ·subst ey;rw [OB.put_same] at hy;rw [OB.put_ne _ _ ex] at hx;cases hy;exact (hnew _ _ ex hx).elim
   ·rw [OB.put_ne _ _ ex] at hx;rw [OB.put_ne _ _ ey] at hy;exact h.inj _ _ _ _ _ hx hy
 ·by_cases ex:x=k
  ·subst ex; rw [OB.put_same] at hx; cases hx; exact hg
  ·rw [OB.put_ne _ _ ex] at hx; exact h.new _ _ _ hx
 ·by_cases ex:x=k
  ·subst ex; rw [OB.put_same] at hx; cases hx; exact hag
  ·rw [OB.put_ne _ _ ex] at hx; exact hkeep _ _ _ ex hx
theorem Objs.set (h:Objs H0 H B) (hk:B k=some (a,b)) (b':Blk):Objs H0 (H.set a b') (B.put k (some (a,b'))) :=
 h.turn (h.new _ _ _ hk) (fun k' c hne hc=>hne (h.inj _ _ _ _ _ hc hk)) (h.sub.of_set (h.new _ _ _ hk)) (AH.set_same _ _ _) fun k' a' c hne hc=>by
  rw [AH.set_ne _ _ (fun e=>h.apart hc hk hne e)]; exact h.at_ _ _ _ hc
theorem Objs.alloc (h:Objs H0 H B) {z:Nat} (hz:H z=none) (k:κ) (b:Blk):Objs H0 (H.set z b) (B.put k (some (z,b))) :=
 h.turn (h.sub.none hz) (fun k' c _ hc=>by rw [h.at_ _ _ _ hc] at hz; cases hz) (h.sub.of_set (h.sub.none hz)) (AH.set_same _ _ _) fun k' a' c _ hc=>by
  have:=h.at_ _ _ _ hc
  rw [AH.set_ne _ _ (fun e=>by subst e; rw [hz] at this; cases this)]; exact this
theorem Objs.skip (h:Objs H0 H B) {z:Nat} (hz:H z=none) (b:Blk):Objs H0 (H.set z b) B :=
 ⟨h.inj,h.new,h.sub.of_set (h.sub.none hz),fun k a c hc=>by
   have:=h.at_ _ _ _ hc
   rw [AH.set_ne _ _ (fun e=>by subst e; rw [hz] at this; cases this)]; exact this⟩
theorem Objs.mono (h:Objs H0 H B) (hs:SubH H H'):Objs H0 H' B:=⟨h.inj,h.new,h.sub.trans hs,fun k a b hk=>hs _ _ (h.at_ _ _ _ hk)⟩
theorem Objs.keep (h:Objs H0 H B) {r:Nat} {c:Blk} (hr:H0 r=some c):H r=some c:=h.sub _ _ hr
theorem Objs.none (B0:OB κ) (h0:∀ k,B0 k=none) (H:AH):Objs H H B0:=⟨fun k _ _ _ _ h=>(by rw [h0] at h; cases h),fun k _ _ h=>(by rw [h0] at h; cases h),SubH.refl _,fun k _ _ h=>(by rw [h0] at h; cases h)⟩
variable {α:Type}
def SlO (B:OB κ) (k:κ) (e:TypeId) (w:Nat) (enc:α→List VV) (v:VV) (l:List α):Prop :=
 (l=[]∧v=.lit (.slice none 0 0)∧B k=none)∨∃ a c sp,v=.lit (.slice (some ⟨a,0,none⟩) l.length c)∧B k=some (a,.cells e (encC enc l) sp)∧c * w=l.length * w+sp∧l.length≤c∧c≤maxLen
theorem SlO.of {e:TypeId} {w:Nat} {enc:α→List VV} {v:VV} {l:List α} {B B':OB κ} (h:SlO B k e w enc v l) (hb:B' k=B k):SlO B' k e w enc v l:=by
 unfold SlO;rw [hb]; exact h
theorem SlO.none (k:κ) (e:TypeId) (w:Nat) (enc:α→List VV) {B:OB κ} (hb:B k=none):SlO B k e w enc (.lit (.slice none 0 0)) []:=.inl ⟨rfl,rfl,hb⟩
theorem SlO.cells {e:TypeId} {w:Nat} {enc:α→List VV} {v:VV} {l:List α} (h:SlO B k e w enc v l):v.cells=[v]∧VV.one v=true:=by
 rcases h with ⟨_,rfl,_⟩ | ⟨a,c,sp,rfl,_⟩<;>exact ⟨rfl,rfl⟩
theorem SlO.form {e:TypeId} {w:Nat} {enc:α→List VV} {v:VV} {l:List α} (h:SlO B k e w enc v l):∃ a c,v=.lit (.slice a l.length c):=by
 rcases h with ⟨rfl,rfl,_⟩ | ⟨a,c,sp,rfl,_⟩
 ·exact ⟨Option.none,0,rfl⟩
 ·exact ⟨_,_,rfl⟩
theorem SlO.own {e:TypeId} {w:Nat} {enc:α→List VV} {v:VV} {l:List α} (hl:∀ x,(enc x).length=w) (h:SlO B k e w enc v l) (ho:Objs H0 H B):∃ Hb,OwnX Hb H e w v l.length (encC enc l)∧(∀ r c,H0 r=some c→Hb r=some c)∧(∀ k' a' b',¬ k'=k→B k'=some (a',b')→Hb a'=some b')∧(∀ r,H r=Option.none→Hb r=Option.none)∧(∀ r,Hb r=Option.none→H0 r=Option.none)∧∀ k' b' g,¬ k'=k→B k'=some (g,b')→Hb g=Option.none→False:=by
 rcases h with ⟨rfl,rfl,hb⟩ | ⟨a,c,sp,rfl,hb,h1,h2,h3⟩
 ·exact ⟨H,OwnX.nil _ _ _,ho.sub,fun k' a' b' _ h=>ho.at_ _ _ _ h,fun _ h=>h,fun _ h=>ho.sub.none h,fun k' b' g _ h hn=>by rw [ho.at_ _ _ _ h] at hn; cases hn⟩
 ·have hat:=ho.at_ _ _ _ hb;have h0:=ho.new _ _ _ hb;refine ⟨H.del a,.inr ⟨a,c,sp,rfl,AH.del_same _ _,?_,YO hl l,?_,h2,h3⟩,fun r d hr=>?_,fun k' a' b' hne hk'=>?_,fun r hr=>?_,fun r hr=>?_,fun k' b' g hne hk' hn=>?_⟩
  ·funext i
   rw [AH.get,AH.del_get];by_cases e:i=a
   ·subst e; rw [if_pos rfl]; exact hat
   ·rw [if_neg e,if_neg e]
  ·rw [YO hl l]; exact h1
  ·rw [AH.del_ne _ (fun e=>by subst e; rw [h0] at hr; cases hr)]; exact ho.sub _ _ hr
  ·rw [AH.del_ne _ (fun e=>ho.apart hk' hb hne e)]; exact ho.at_ _ _ _ hk'
  ·rw [AH.del_get]; split
   ·rfl
   ·exact hr
  ·rw [AH.del_get] at hr;split at hr
   ·rename_i e; rw [e]; exact h0
   ·exact ho.sub.none hr
  ·rw [AH.del_ne _ (fun e=>ho.apart hk' hb hne e),ho.at_ _ _ _ hk'] at hn; cases hn
theorem SlO.read {e:TypeId} {w:Nat} {enc:α→List VV} {v:VV} {l:List α} (h:SlO B k e w enc v l) (ho:Objs H0 H B):SlR H v l.length (encC enc l):=by
 rcases h with ⟨rfl,rfl,_⟩ | ⟨a,c,sp,rfl,hb,_⟩
 ·exact .inr (.inl ⟨rfl,rfl,rfl⟩)
 ·exact .inr (.inr ⟨a,0,c,_,_,sp,rfl,ho.at_ _ _ _ hb,rfl⟩)
theorem SlO.append {P:Program} {t e:TypeId} {w b:Nat} {enc:α→List VV} {zs:List Value} {v:VV} {l:List α} {x:α} {K:VE→AH→Prop} (hl:∀ x,(enc x).length=w) (hel:elT P t=some (e,w,b)) (hz:zeroT P e=some zs) (hzk:zs.length=w) (hk:0<w) (h:SlO B k e w enc v l) (ho:Objs H0 H B)
 (hone:(enc x).all VV.one=true) (hb:(l.length+1) * b≤140737488355328) (h63:l.length+1≤9223372036854775807)
 (hK:∀ v' H' B',SlO B' k e w enc v' (l++[x])→(∀ k',¬ k'=k→B' k'=B k')→Objs H0 H' B'→K (.ret v') H'):Jf P t v (.slice true 1 (enc x)) H K:=by
 obtain ⟨Hb,o1,o2,o3,o4,o5,o6⟩:=h.own hl ho;refine Zbu hel hz hzk hk o1 (hl x) hone hb h63 fun v' H' ho'=>?_
 have e1:encC enc (l++[x])=encC enc l++enc x:=by rw [YS]; simp [Yg,Zbd]
 rcases ho' with ⟨_,h1,_⟩ | ⟨g,c,sp,rfl,hg,rfl,h1,h2,h3,h4⟩
 ·omega
 ·refine hK _ _ (B.put k (some (g,.cells e (encC enc (l++[x])) sp))) (.inr ⟨g,c,sp,by simp,OB.put_same _ _ _,?_,by simpa using h3,h4⟩) (fun k' hne=>OB.put_ne _ _ hne) ?_
  ·rw [h2,h1]; simp
  ·rw [e1];refine ho.turn (o5 g hg) (fun k' b' hne hk'=>o6 k' b' g hne hk' hg) ?_ (AH.set_same _ _ _) fun k' a' b' hne hk'=>?_
   ·intro r d hr
    have:=o2 r d hr
    rw [AH.set_ne _ _ (fun e=>by subst e; rw [hg] at this; cases this)]; exact this
   ·have:=o3 k' a' b' hne hk'
    rw [AH.set_ne _ _ (fun e=>by subst e; rw [hg] at this; cases this)]; exact this
end
end Go.PV
end
