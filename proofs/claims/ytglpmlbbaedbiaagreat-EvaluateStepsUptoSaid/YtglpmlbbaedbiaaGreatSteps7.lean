/- Part 7 of 11 of what the proof of Steps needs. -/
import Derived.Test.YtglpmlbbaedbiaaGreatSteps6
import Derived.Test.YtglpmlbbaedbiaaGreatSteps5
set_option linter.unusedVariables false
set_option linter.unusedSimpArgs false
set_option linter.defProp false
section
open Bool renaming false_eq_true→ZoS
open Go.PV.AH renaming set_none→Zn2,ne_of→ZnX,get→Zn8,set_same→Zn4,set_ne→Zoa
open Go.PV.Hold renaming mk→Zn0
open Go.PV.PureF renaming use→Zn3
open Go.PV.SubH renaming refl→Zn1,of_set→Zn6,new→Zn5
open Int renaming reduceEq→Zoh,toNat_natCast→ZoJ
open List renaming getElem?_eq_getElem→ZoH,getElem_mem→Zn9,drop_eq_getElem_cons→Zoz,drop→ZnZ,drop_eq_nil_of_le→Zop,map_cons→Zou,map_nil→ZoE,getD_cons_zero→ZoP,getD_cons_succ→ZoQ,getD_nil→ZoR
open Nat renaming reduceEqDiff→ZnW,reduceLT→ZnY,reduceAdd→Zn7,succ_ne_self→ZoD,zero_add→Zot,add_zero→ZoL,reduceLeDiff→Zof
open Option renaming map_none→ZoC,map_some→Zog
set_option maxRecDepth 20000
set_option maxHeartbeats 4000000
namespace Go.PV.YtglpmlbbaedbiaaGreat
open Go Go.Proofs
section
variable {P:Program} {t:TypeId} {z:Value} {H:AH} {K:VE→AH→Prop} {r:Nat} {m:ByteArray→Option VV} {s:ByteArray}
theorem ZeD {ok:Bool} {y:VV} (h:Zdq P t z) (hz:s.size≤maxLen) (hm:m s=some y) (hr:H r=some (.map (Wq P t) (smap m))) (hk:K (.ret (okV ok y true)) H):Zah P t (.lit (.map (some r))) (.lit (.string s)) ok H K :=
 Zfo h hz hr (fun y' h'=>by rw [hm] at h'; cases h'; exact hk) (fun h'=>by rw [hm] at h'; cases h')
theorem ZmK {ok:Bool} (h:Zdq P t z) (hz:s.size≤maxLen) (hm:m s=none) (hr:H r=some (.map (Wq P t) (smap m))) (hk:K (.ret (okV ok (.lit z) false)) H):Zah P t (.lit (.map (some r))) (.lit (.string s)) ok H K :=
 Zfo h hz hr (fun y' h'=>by rw [hm] at h'; cases h') (fun h'=>hk)
end
theorem Zd0 {l:List Fu} {s:ByteArray}:∀ {k:Nat},(∀ j (h:j < l.length),j < k→¬ l[j].name=s)→funMk l k s=none
 | 0,_=>rfl
 | k + 1,h=>by
   rw [funMk];cases hk:l[k]? with
   | none=>exact Zd0 fun j h1 h2=>h j h1 (by omega)
   | some f =>
     obtain ⟨h1,rfl⟩:=List.getElem?_eq_some_iff.1 hk;show (if s=_ then _ else _)=none;rw [if_neg (fun e=>h k h1 (by omega) e.symm)];exact Zd0 fun j h1 h2=>h j h1 (by omega)
theorem Zd1 {l:List Fu} {s:ByteArray} {j:Nat} (hj:j < l.length) (hs:l[j].name=s):∀ {k:Nat},j < k→(∀ i (h:i < l.length),j < i→¬ l[i].name=s)→funMk l k s=some (.iptr ((encC fuE l).drop (j * 3)))
 | k + 1,hjk,h=>by
   rw [funMk];by_cases e:j=k
   ·subst e;rw [ZoH hj];show (if s=_ then _ else _)=_;rw [if_pos hs.symm]
   ·cases hk:l[k]? with
    | none=>exact Zd1 hj hs (by omega) h
    | some f =>
      obtain ⟨h1,rfl⟩:=List.getElem?_eq_some_iff.1 hk;show (if s=_ then _ else _)=_;rw [if_neg (fun e=>h k h1 (by omega) e.symm)];exact Zd1 hj hs (by omega) h
theorem Zd2 {l:List Co} {s:ByteArray}:∀ {k:Nat},(∀ j (h:j < l.length),j < k→¬ l[j].name=s)→conMk l k s=none
 | 0,_=>rfl
 | k + 1,h=>by
   rw [conMk];cases hk:l[k]? with
   | none=>exact Zd2 fun j h1 h2=>h j h1 (by omega)
   | some f =>
     obtain ⟨h1,rfl⟩:=List.getElem?_eq_some_iff.1 hk;show (if s=_ then _ else _)=none;rw [if_neg (fun e=>h k h1 (by omega) e.symm)];exact Zd2 fun j h1 h2=>h j h1 (by omega)
theorem Zd3 {l:List Co} {s:ByteArray} {j:Nat} (hj:j < l.length) (hs:l[j].name=s):∀ {k:Nat},j < k→(∀ i (h:i < l.length),j < i→¬ l[i].name=s)→conMk l k s=some (iV l[j].arity)
 | k + 1,hjk,h=>by
   rw [conMk];by_cases e:j=k
   ·subst e;rw [ZoH hj];show (if s=_ then _ else _)=_;rw [if_pos hs.symm]
   ·cases hk:l[k]? with
    | none=>exact Zd3 hj hs (by omega) h
    | some f =>
      obtain ⟨h1,rfl⟩:=List.getElem?_eq_some_iff.1 hk;show (if s=_ then _ else _)=_;rw [if_neg (fun e=>h k h1 (by omega) e.symm)];exact Zd3 hj hs (by omega) h
theorem ZkA {α:Type} {f:α→ByteArray} {l:List α} (h:(l.map f).Nodup) {i j:Nat} (hi:i < l.length) (hj:j < l.length) (hij:¬ i=j):¬ f l[i]=f l[j]:=fun e=>by
 have hp:=List.pairwise_iff_getElem.1 h;rcases Nat.lt_or_gt_of_ne hij with h1 | h1
 ·have:=hp i j (by simpa using hi) (by simpa using hj) h1
  simp only [List.getElem_map] at this;exact this e
 ·have:=hp j i (by simpa using hj) (by simpa using hi) h1
  simp only [List.getElem_map] at this;exact this e.symm
structure NdP (p:Pr):Prop where
 funs:(p.funs.map (·.name)).Nodup
 cons:(p.cons.map (·.name)).Nodup
theorem ZkB {l:List Fu} (h:(l.map (·.name)).Nodup) (s:ByteArray):(atFu l s=-1∧funMk l l.length s=none)∨∃ j,∃ hj:j < l.length,atFu l s=j∧l[j].name=s∧funMk l l.length s=some (.iptr ((encC fuE l).drop (j * 3))):=by
 rcases Wm (fun c:Fu=>decide (c.name=s)) l with ⟨h1,h2⟩ | ⟨j,hj,h1,h2,h3⟩
 ·refine .inl ⟨h1,Zd0 fun j hj _ e=>?_⟩
  have:=h2 _ (Zn9 hj)
  simp [e] at this
 ·have hs:l[j].name=s:=by simpa using h2
  exact .inr ⟨j,hj,h1,hs,Zd1 hj hs hj fun i hi hij e=>ZkA h hi hj (by omega) (e.trans hs.symm)⟩
theorem conMk_at {l:List Co} (h:(l.map (·.name)).Nodup) (s:ByteArray):(atCo l s=-1∧conMk l l.length s=none)∨∃ j,∃ hj:j < l.length,atCo l s=j∧l[j].name=s∧conMk l l.length s=some (iV l[j].arity):=by
 rcases Wm (fun c:Co=>decide (c.name=s)) l with ⟨h1,h2⟩ | ⟨j,hj,h1,h2,h3⟩
 ·refine .inl ⟨h1,Zd2 fun j hj _ e=>?_⟩
  have:=h2 _ (Zn9 hj)
  simp [e] at this
 ·have hs:l[j].name=s:=by simpa using h2
  exact .inr ⟨j,hj,h1,hs,Zd3 hj hs hj fun i hi hij e=>ZkA h hi hj (by omega) (e.trans hs.symm)⟩
def formB (op nk:Int) (nm:Bool):Bool :=
 if op=1∨op=2 then !decide (0 < nk) && nm else if op=5 then decide (nk=1) && nm else if op=4 then !decide (nk < 2) && !nm else if op=3 then nm else false
def sdOwn (p:Pr) (e:Ex) (bound:List ByteArray):Int :=
 if formB e.op e.kids.length (!decide (e.name={ data:=#[] }))=false then 2 else
 if e.op=2∧atFu p.funs e.name < 0 then 9 else
 if e.op=3∧atCo p.cons e.name < 0 then 9 else
 if e.op=3∧¬ (e.kids.length:Int)=arCo p.cons e.name then 5 else
 if e.op=1∧hasF bound e.name=false then 422 else 0
mutual
def Ex.sdF (p:Pr):Ex→List ByteArray→Int
 | .mk op n ks,nm=>if sdOwn p (.mk op n ks) nm=0 then sdsF p ks (if op=5 then nm ++ [n] else nm) else sdOwn p (.mk op n ks) nm
def sdsF (p:Pr):List Ex→List ByteArray→Int
 | [],_=>0
 | k :: ks,nm=>if k.sdF p nm=0 then sdsF p ks nm else k.sdF p nm
end
theorem Ex.sdF_eq (p:Pr) (e:Ex) (nm:List ByteArray):e.sdF p nm=if sdOwn p e nm=0 then sdsF p e.kids (if e.op=5 then nm ++ [e.name] else nm) else sdOwn p e nm:=by
 cases e; rw [Ex.sdF]; rfl
theorem Ziq {p:Pr} {l:List Ex} {nm:List ByteArray} {i:Nat} (h:i < l.length):sdsF p (l.drop i) nm=if l[i].sdF p nm=0 then sdsF p (l.drop (i + 1)) nm else l[i].sdF p nm:=by
 rw [Zoz h,sdsF]
def sdQ (H0:AH) (R:Int):APost:=YW Tryz.prog [.tmp 6] fun e H'=>e=.ret (iV R)∧SubH H0 H'
theorem Zfa {p:Pr} {ks:List Ex} {nm:List ByteArray} {t:Nat→VV} {H0 B:AH} {m1 m2 r3:Nat} {R:Int} (hN:ks.length≤1099511627776)
 (ih:∀ i (h:i < ks.length) (H:AH),TabAt H (.agg (tabE m1 m2)) p→ReadF Tryz.prog 46 [.agg (tabE m1 m2),exV ks[i],strsV nm] (iV (ks[i].sdF p nm)) H) (hR:R=sdsF p ks nm) (h2:t 2=strsV nm) (hv:TabAt B (.agg (tabE m1 m2)) p) (h3:t 3=ptrV r3 0)
 (k3:B r3=some (.cells 85 (tabE m1 m2) 0)) (h95:t 95=exsV ks) (h96:t 96=iV ks.length) (h97:t 97=iV 0) (hs:SubH H0 B) :
 ACx ⟨Tryz.prog,109,none⟩ (.loop b46_1) (YX 2 (thenA (ACx ⟨Tryz.prog,109,none⟩ c46_1 (sdQ H0 R)) (sdQ H0 R))) ⟨t,[]⟩ B:=by
 refine ZW (fun _ _ _ h=>h) (fun A H'=>SubH B H'∧A.d=[]∧A.t 2=strsV nm∧A.t 3=ptrV r3 0∧A.t 95=exsV ks∧A.t 96=iV ks.length∧∃ i:Nat,i≤ks.length∧A.t 97=iV i∧R=sdsF p (ks.drop i) nm)
  (fun A _=>match A.t 97 with | .lit (.int _ i)=>((ks.length:Int) - i).toNat | _=>0) ?_ ?_
 ·exact ⟨Zn1 _,rfl,h2,h3,h95,h96,0,by omega,h97,hR⟩
 ·clear hR h2 h3 h95 h96 h97;rintro ⟨t,d⟩ H' ⟨hb,rfl,h2,h3,h95,h96,i,hi,h97,hR⟩;dsimp only at h2 h3 h95 h96 h97;delta b46_1 Zn Zr Zk Zb Zi Zg Za Zo Zc Zm;have q3:=hb _ _ k3;by_cases hlt:i < ks.length
  ·have hil:(i:Int) < (ks.length:Int):=by omega
   have hdi:=XB hlt;rw [Ziq hlt] at hR;replace hR:=Zn0 hR;have rd:=fun H2 (h:SubH B H2)=>ih i hlt H2 (hv.mono h)
   clear ih k3
   (repeat' (first | (simp only [↓ZI,ZJ,ptrV,ZnW,ZnY,Zn7,setAt,ZnZ,Yt,WR,YD,Ys,Yn,en_46, *]) | (refine Ym ?_ ?_<;>intro) | (refine ZP ?_) | (refine ZK fun zr zh=>?_; have zg:=zh; (try simp only [Zn2] at zg); (try have zn_q3:=ZnX q3 zh); (try have zn_q3:=ZnX q3 zg.2); (try have zn_q3:=ZnX q3 zg.2.2)) | (refine Zn6 ?_ ?_) | (exact SubH.none (by assumption) (by assumption)) | (refine (rd _ ?_).use ?_) | (with_reducible refine And.intro ?_ ?_)))
   all_goals try rw [ZR (n:=(i:Int) + 1) (by omega) (by omega)]
   all_goals first
    | omega
    | exact hs.trans hb
    | exact hb
    | exact hb.of_set (hb.none zh)
    | exact hs.none (hb.none zh)
    | (have hne:(!decide (Ex.sdF p ks[i] nm=0))=true:=by assumption
       rw [hR.out,if_neg (by simpa using hne)])
    | (have hne:(!decide (Ex.sdF p ks[i] nm=0))=false:=by assumption
       exact ⟨i + 1,by omega,rfl,by rw [hR.out,if_pos (by simpa using hne)]⟩)
  ·have hil:¬ (i:Int) < (ks.length:Int):=by omega
   rw [Zop (by omega)] at hR;have hR:R=0:=hR;subst hR
   (repeat' (first | (simp only [↓ZI,ZJ,ptrV,ZnY, *]) | (refine Ya rfl (fun _ _ _ h=>h) ?_)))
   delta c46_1 Zf
   (repeat' (first | (simp only [↓ZI,ZJ,ZnW,ZnY, *]) | (refine ZP ?_)))
   exact hs.trans hb
theorem eq_funP {ox:Operand} {c:Value} {a:Option Addr} {H:AH} {K:VE→AH→Prop}:vcBin Tryz.prog .eql 137 ox (.const c) (.lit (.pointer a)) nilP H K=K (.ret (boolV a.isNone)) H:=eq_ptr (e:=81) (by kernel_rfl)
theorem eq_funI {ox:Operand} {c:Value} {cs:List VV} {H:AH} {K:VE→AH→Prop}:vcBin Tryz.prog .eql 137 ox (.const c) (.iptr cs) nilP H K=K (.ret (boolV false)) H:=eq_iptr (e:=81) (by kernel_rfl)
theorem sd_node {p:Pr} {op nk:Int} {name:ByteArray} {kids:List Ex} {nb hb:Bool} {bound:List ByteArray} {m1 m2:Nat} {H:AH} {R:Int} (hN:kids.length≤1099511627776) (hbl:bound.length≤1099511627776) (hz:name.size≤maxLen) (hnk:(kids.length:Int)=nk)
 (ih:∀ (nm':List ByteArray),nm'.length≤bound.length + 1→∀ i (h:i < kids.length) (H:AH),TabAt H (.agg (tabE m1 m2)) p→ReadF Tryz.prog 46 [.agg (tabE m1 m2),exV kids[i],strsV nm'] (iV (kids[i].sdF p nm')) H)
 (hm1:H m1=some (fmB (funMk p.funs p.funs.length))) (hm2:H m2=some (cmB (conMk p.cons p.cons.length)))
 (hfa:(atFu p.funs name=-1∧funMk p.funs p.funs.length name=none)∨∃ j,∃ hj:j < p.funs.length,atFu p.funs name=j∧p.funs[j].name=name∧funMk p.funs p.funs.length name=some (.iptr ((encC fuE p.funs).drop (j * 3))))
 (hca:(atCo p.cons name=-1∧conMk p.cons p.cons.length name=none)∨∃ j,∃ hj:j < p.cons.length,atCo p.cons name=j∧p.cons[j].name=name∧conMk p.cons p.cons.length name=some (iV p.cons[j].arity))
 (hhas:PureF Tryz.prog 81 [strsV bound,sV name] (boolV hb))
 (o:Int) (ho:o=if formB op nk (!decide (name={ data:=#[] }))=false then 2 else if op=2∧atFu p.funs name < 0 then 9 else if op=3∧atCo p.cons name < 0 then 9 else if op=3∧¬ nk=arCo p.cons name then 5 else if op=1∧hb=false then 422 else 0)
 (hR:R=if o=0 then sdsF p kids (if op=5 then bound ++ [name] else bound) else o):ReadF Tryz.prog 46 [.agg (tabE m1 m2),.agg [iV op,sV name,encS exE kids],strsV bound] (iV R) H:=by
 refine ZN fd46 (by simp) ?_;delta c46 Zj Zf Zd Zb Ze Zq Zr Zc Zm Za Zp Zh Zn Zo Zl;unfold formB at ho;unfold arCo at ho;by_cases h1:op=1
 ·subst h1;by_cases hn:name={ data:=#[] }
  ·have hR':=Zn0 (show (2:Int)=R by rw [hR,ho]; simp [hn]);clear hR ho ih
   (repeat' (first | (simp only [↓ZI,ZJ,↓XF,ptrV,intV,ZnW,ZnY,reduceCtorEq,ZU,ZM,ZnZ,undef,Yj,Yw,Yg,Yz,Ye,Yc,Yn, *]) | (refine YU ?_ ?_<;>intro) | (refine ZP ?_) | (refine ZS mixed (fun _ _ _ _ e h=>⟨e.trans h.1,h.2⟩) _ (Zn1 _) ?_) | (refine ZK fun zr zh=>?_; have zg:=zh; (try simp only [Zn2] at zg); (try have zn_hm1:=ZnX hm1 zh); (try have zn_hm1:=ZnX hm1 zg.2); (try have zn_hm1:=ZnX hm1 zg.2.2); (try have zn_hm2:=ZnX hm2 zh); (try have zn_hm2:=ZnX hm2 zg.2); (try have zn_hm2:=ZnX hm2 zg.2.2)) | (exact Zn1 _) | (refine Zn6 ?_ ?_) | (with_reducible refine And.intro ?_ ?_)))
   all_goals first
    | rw [hR'.out]
    | (rename_i r3 n3 n3' w1 w2; exact (Zn5 n3).of_set zg.2)
  ·by_cases hk:0 < nk
   ·have hR':=Zn0 (show (2:Int)=R by rw [hR,ho]; simp [hk]);clear hR ho ih
    (repeat' (first | (simp only [↓ZI,ZJ,↓XF,ptrV,intV,ZnW,ZnY,reduceCtorEq,ZU,ZM,ZnZ,undef,Yj,Yw,Yg,Yz,Ye,Yc,Yn, *]) | (refine ZP ?_) | (refine ZS mixed (fun _ _ _ _ e h=>⟨e.trans h.1,h.2⟩) _ (Zn1 _) ?_) | (refine ZK fun zr zh=>?_; have zg:=zh; (try simp only [Zn2] at zg); (try have zn_hm1:=ZnX hm1 zh); (try have zn_hm1:=ZnX hm1 zg.2); (try have zn_hm1:=ZnX hm1 zg.2.2); (try have zn_hm2:=ZnX hm2 zh); (try have zn_hm2:=ZnX hm2 zg.2); (try have zn_hm2:=ZnX hm2 zg.2.2)) | (exact Zn1 _) | (refine Zn6 ?_ ?_) | (with_reducible refine And.intro ?_ ?_)))
    all_goals first
     | rw [hR'.out]
     | (rename_i r3 n3 n3' w1 w2; exact (Zn5 n3).of_set zg.2)
   ·cases hb with
    | false =>
      have hR':=Zn0 (show (422:Int)=R by rw [hR,ho]; simp [hn,hk]);clear hR ho ih
      (repeat' (first | (simp only [↓ZI,ZJ,↓XF,ptrV,intV,boolV,ZnW,ZnY,reduceCtorEq,ZM,ZnZ,undef,Zoh,Yj,Yw,Yg,Yz,Ye,Yc,Yn,ZnN, *]) | (refine ZP ?_) | (refine ZS mixed (fun _ _ _ _ e h=>⟨e.trans h.1,h.2⟩) _ (Zn1 _) ?_) | (refine ZK fun zr zh=>?_; have zg:=zh; (try simp only [Zn2] at zg); (try have zn_hm1:=ZnX hm1 zh); (try have zn_hm1:=ZnX hm1 zg.2); (try have zn_hm1:=ZnX hm1 zg.2.2); (try have zn_hm2:=ZnX hm2 zh); (try have zn_hm2:=ZnX hm2 zg.2); (try have zn_hm2:=ZnX hm2 zg.2.2)) | (exact Zn1 _) | (refine Zn6 ?_ ?_) | (refine Zn3 (hhas) ?_) | (with_reducible refine And.intro ?_ ?_)))
      all_goals first
       | rw [hR'.out]
       | (rename_i r3 n3 n3' w1 w2; exact (Zn5 n3).of_set zg.2)
    | true =>
      have hR':=Zn0 (show R=sdsF p kids bound by rw [hR,ho]; simp [hn,hk]);clear hR ho
      (repeat' (first | (simp only [↓ZI,ZJ,↓XF,ptrV,intV,boolV,ZnW,ZnY,reduceCtorEq,ZM,ZnZ,undef,Zoh,Yj,Yw,Yg,Yz,Ye,Yc,Yn,ZnN, *]) | (refine ZS mixed (fun _ _ _ _ e h=>⟨e.trans h.1,h.2⟩) _ (Zn1 _) ?_) | (refine ZK fun zr zh=>?_; have zg:=zh; (try simp only [Zn2] at zg); (try have zn_hm1:=ZnX hm1 zh); (try have zn_hm1:=ZnX hm1 zg.2); (try have zn_hm1:=ZnX hm1 zg.2.2); (try have zn_hm2:=ZnX hm2 zh); (try have zn_hm2:=ZnX hm2 zg.2); (try have zn_hm2:=ZnX hm2 zg.2.2)) | (refine Zn3 (hhas) ?_)))
      rename_i r3 n3 n3' w1 w2;have hsr:∀ b1 b2,SubH H ((H.set r3 b1).set zr b2):=fun _ _=>(Zn5 n3).of_set zg.2
      refine Zfa (ks:=kids) (nm:=bound) (r3:=r3) hN (fun i h H=>ih _ (by omega) i h H) hR'.out (by simp only [ZL,ZnW,if_false, *]<;>rfl) ⟨m1,m2,rfl,hsr _ _ _ _ hm1,hsr _ _ _ _ hm2⟩ (by simp only [ZL,ZnW,if_true,if_false, *]<;>rfl) (by simp only [Zn8, *,if_true,if_false]<;>rfl) (by simp only [ZL,ZnW,if_true,if_false, *]<;>rfl) (by simp only [ZL,ZnW,if_true,if_false, *]<;>rfl) (by simp only [ZL,ZnW,if_true,if_false, *]<;>rfl) (hsr _ _)
 ·by_cases h2:op=2
  ·subst h2;by_cases hn:name={ data:=#[] }
   ·have hR':=Zn0 (show (2:Int)=R by rw [hR,ho]; simp [hn]);clear hR ho ih
    (repeat' (first | (simp only [↓ZI,ZJ,↓XF,ptrV,intV,ZnW,ZnY,reduceCtorEq,ZU,ZM,ZnZ,undef,Yj,Yw,Yg,Yz,Ye,Yc,Yn, *]) | (refine YU ?_ ?_<;>intro) | (refine ZP ?_) | (refine ZS mixed (fun _ _ _ _ e h=>⟨e.trans h.1,h.2⟩) _ (Zn1 _) ?_) | (refine ZK fun zr zh=>?_; have zg:=zh; (try simp only [Zn2] at zg); (try have zn_hm1:=ZnX hm1 zh); (try have zn_hm1:=ZnX hm1 zg.2); (try have zn_hm1:=ZnX hm1 zg.2.2); (try have zn_hm2:=ZnX hm2 zh); (try have zn_hm2:=ZnX hm2 zg.2); (try have zn_hm2:=ZnX hm2 zg.2.2)) | (exact Zn1 _) | (refine Zn6 ?_ ?_) | (with_reducible refine And.intro ?_ ?_)))
    all_goals first
     | rw [hR'.out]
     | (rename_i r3 n3 n3' w1 w2; exact (Zn5 n3).of_set zg.2)
   ·by_cases hk:0 < nk
    ·have hR':=Zn0 (show (2:Int)=R by rw [hR,ho]; simp [hk]);clear hR ho ih
     (repeat' (first | (simp only [↓ZI,ZJ,↓XF,ptrV,intV,ZnW,ZnY,reduceCtorEq,ZU,ZM,ZnZ,undef,Yj,Yw,Yg,Yz,Ye,Yc,Yn, *]) | (refine ZP ?_) | (refine ZS mixed (fun _ _ _ _ e h=>⟨e.trans h.1,h.2⟩) _ (Zn1 _) ?_) | (refine ZK fun zr zh=>?_; have zg:=zh; (try simp only [Zn2] at zg); (try have zn_hm1:=ZnX hm1 zh); (try have zn_hm1:=ZnX hm1 zg.2); (try have zn_hm1:=ZnX hm1 zg.2.2); (try have zn_hm2:=ZnX hm2 zh); (try have zn_hm2:=ZnX hm2 zg.2); (try have zn_hm2:=ZnX hm2 zg.2.2)) | (exact Zn1 _) | (refine Zn6 ?_ ?_) | (with_reducible refine And.intro ?_ ?_)))
     all_goals first
      | rw [hR'.out]
      | (rename_i r3 n3 n3' w1 w2; exact (Zn5 n3).of_set zg.2)
    ·rcases hfa with ⟨hat,hfn⟩ | ⟨j,hj,hat,hjn,hfn⟩
     ·have hR':=Zn0 (show (9:Int)=R by rw [hR,ho]; simp [hn,hk,hat]);clear hR ho ih hat
      (repeat' (first | (refine ZmK Zaa hz hfn (by first | assumption | simp only [Zn8, *,if_false]) ?_) | (simp only [↓JH,↓WV,↓WW,↓Wu,↓Ww,↓Jf,↓XA,↓Zck,↓ZbJ,↓WX,↓Xe,↓Zdk,↓ZcZ,↓Xf,↓Zak,↓Zcl,↓Zgl,↓XK,↓XL,↓XM,↓XN,↓We,↓ZL,↓WA,↓Xk,↓ZbK,↓Zdm,↓Zf2,↓Wf,↓JB,↓s_un,↓Zbp,↓YQ,↓Jm,↓Zal,↓ZfT,↓Zan,↓ZaM,↓XE,↓XF,ptrV,intV,boolV,Zou,ZoE,ZoP,ZoQ,ZoR,ite_true,ite_false,ZnW,ZnY,ne_eq,not_false_eq_true,true_and,ZoS,ZoD,decide_true,decide_false,Bool.not_true,Bool.not_false,reduceCtorEq,ZM,↓Zao,↓Zap,Zn8,eq_self,Zot,ZoL,ZnZ,Zaf,WB,↓Zbq,JC,ZaW,Zdo,JD,Jo,ZaX,↓ZeQ,undef,eq_funP,Option.isNone_none,okV,Yj,Yw,Yg,Za6,Yz,Ye,Yc,ZeA,Yn, *]) | (refine ZP ?_) | (refine ZS mixed (fun _ _ _ _ e h=>⟨e.trans h.1,h.2⟩) _ (Zn1 _) ?_) | (refine ZK fun zr zh=>?_; have zg:=zh; (try simp only [Zn2] at zg); (try have zn_hm1:=ZnX hm1 zh); (try have zn_hm1:=ZnX hm1 zg.2); (try have zn_hm1:=ZnX hm1 zg.2.2); (try have zn_hm2:=ZnX hm2 zh); (try have zn_hm2:=ZnX hm2 zg.2); (try have zn_hm2:=ZnX hm2 zg.2.2)) | (exact Zn1 _) | (refine Zn6 ?_ ?_) | (with_reducible refine And.intro ?_ ?_)))
      all_goals first
       | rw [hR'.out]
       | (rename_i r3 n3 n3' w1 w2; exact (Zn5 n3).of_set zg.2)
     ·clear hjn;have hj0:¬ (j:Int) < 0:=by omega
      have hR':=Zn0 (show R=sdsF p kids bound by rw [hR,ho]; simp [hn,hk,hat,hj0]);clear hR ho hat
      (repeat' (first | (refine ZeD Zaa hz hfn (by first | assumption | simp only [Zn8, *,if_false]) ?_) | (simp only [↓JH,↓WV,↓WW,↓ZbI,↓Wu,↓Ww,↓Jf,↓XA,↓Zjy,↓ZbJ,↓WX,↓Xe,↓Zdk,↓ZcZ,↓Xf,↓Zcl,↓XK,↓XL,↓XM,↓XN,↓We,↓ZL,↓WA,↓Xk,↓ZbK,↓Zdm,↓Zf2,↓Wf,↓JB,↓s_un,↓Zbp,↓YQ,↓Jm,↓Zal,↓ZfT,↓Zan,↓ZaM,↓XE,↓XF,ptrV,intV,boolV,Zou,ZoE,ZoP,ZoQ,ZoR,ite_true,ite_false,ZnW,ZnY,ne_eq,not_false_eq_true,true_and,ZoS,ZoD,decide_true,decide_false,Bool.not_true,Bool.not_false,reduceCtorEq,ZM,↓Zao,↓Zap,Zn8,eq_self,Zot,ZoL,ZnZ,Zaf,WB,↓Zbq,JC,ZaW,Zdo,JD,Jo,ZaX,↓ZeQ,undef,eq_funI,okV,Yj,Yw,Yg,Za6,Yz,Ye,Yc,ZeA,Yn, *]) | (refine ZS mixed (fun _ _ _ _ e h=>⟨e.trans h.1,h.2⟩) _ (Zn1 _) ?_) | (refine ZK fun zr zh=>?_; have zg:=zh; (try simp only [Zn2] at zg); (try have zn_hm1:=ZnX hm1 zh); (try have zn_hm1:=ZnX hm1 zg.2); (try have zn_hm1:=ZnX hm1 zg.2.2); (try have zn_hm2:=ZnX hm2 zh); (try have zn_hm2:=ZnX hm2 zg.2); (try have zn_hm2:=ZnX hm2 zg.2.2))))
      rename_i r3 n3 n3' w1 w2;have hsr:∀ b1 b2,SubH H ((H.set r3 b1).set zr b2):=fun _ _=>(Zn5 n3).of_set zg.2
      refine Zfa (ks:=kids) (nm:=bound) (r3:=r3) hN (fun i h H=>ih _ (by omega) i h H) hR'.out (by simp only [ZL,ZnW,if_false, *]<;>rfl) ⟨m1,m2,rfl,hsr _ _ _ _ hm1,hsr _ _ _ _ hm2⟩ (by simp only [ZL,ZnW,if_true,if_false, *]<;>rfl) (by simp only [Zn8, *,if_true,if_false]<;>rfl) (by simp only [ZL,ZnW,if_true,if_false, *]<;>rfl) (by simp only [ZL,ZnW,if_true,if_false, *]<;>rfl) (by simp only [ZL,ZnW,if_true,if_false, *]<;>rfl) (hsr _ _)
  ·by_cases h5:op=5
   ·subst h5;by_cases hn:name={ data:=#[] }
    ·have hR':=Zn0 (show (2:Int)=R by rw [hR,ho]; simp [hn]);clear hR ho ih
     (repeat' (first | (simp only [↓ZI,ZJ,↓XF,ptrV,intV,ZnW,ZnY,reduceCtorEq,ZU,ZM,ZnZ,undef,Yj,Yw,Yg,Yz,Ye,Yc,Yn, *]) | (refine Zdl ?_ ?_<;>intro) | (refine ZP ?_) | (refine ZS mixed (fun _ _ _ _ e h=>⟨e.trans h.1,h.2⟩) _ (Zn1 _) ?_) | (refine ZK fun zr zh=>?_; have zg:=zh; (try simp only [Zn2] at zg); (try have zn_hm1:=ZnX hm1 zh); (try have zn_hm1:=ZnX hm1 zg.2); (try have zn_hm1:=ZnX hm1 zg.2.2); (try have zn_hm2:=ZnX hm2 zh); (try have zn_hm2:=ZnX hm2 zg.2); (try have zn_hm2:=ZnX hm2 zg.2.2)) | (exact Zn1 _) | (refine Zn6 ?_ ?_) | (with_reducible refine And.intro ?_ ?_)))
     all_goals first
      | rw [hR'.out]
      | (rename_i r3 n3 n3' w1 w2; exact (Zn5 n3).of_set zg.2)
    ·by_cases hk:nk=1
     ·have hR':=Zn0 (show R=sdsF p kids (bound ++ [name]) by rw [hR,ho]; simp [hn,hk]);clear hR ho
      (repeat' (first | (simp only [↓ZI,ZJ,↓XF,ptrV,intV,ZnW,ZnY,Zof,reduceCtorEq,ZM,fillV,setAt,ZnZ,forall_const,undef,Zoh,ZQ,YB,ZoC,Zog,YV,idxV,idxOk,ZQ,Yj,Yw,Yg,Yz,Ye,Yc,Yn,YH,Xr, *]) | (refine ZS mixed (fun _ _ _ _ e h=>⟨e.trans h.1,h.2⟩) _ (Zn1 _) ?_) | (refine ZK fun zr zh=>?_; have zg:=zh; (try simp only [Zn2] at zg); (try have zn_hm1:=ZnX hm1 zh); (try have zn_hm1:=ZnX hm1 zg.2); (try have zn_hm1:=ZnX hm1 zg.2.2); (try have zn_hm2:=ZnX hm2 zh); (try have zn_hm2:=ZnX hm2 zg.2); (try have zn_hm2:=ZnX hm2 zg.2.2)) | (with_reducible refine And.intro ?_ ?_)))
      ·exact Nat.zero_le _
      ·rw [show (bound.length == bound.length)=true from by simp,Nat.sub_zero];refine Zek YH Xr rfl (by omega) (Wb (enc:=strE) (k:=1) (fun _=>rfl) bound) rfl rfl (by omega) (by omega) (fun v' H' ho=>?_);have k4:=ho.sub _ _ (Zn4 _ _ _);rename_i r3 n3 n3' w1 w2;have k3:H' r3=some (.cells 85 (tabE m1 m2) 0):=ho.sub _ _ (by rw [Zoa _ _ zg.1.2]; exact Zn4 _ _ _);have hsr:∀ b1 b2,SubH H ((H.set r3 b1).set zr b2):=fun _ _=>(Zn5 n3).of_set zg.2
       have e1:encC strE bound ++ [sV name]=encC strE (bound ++ [name]):=by rw [Yo]; rfl
       have e2:bound.length + 1=(bound ++ [name]).length:=by simp
       rw [e1,e2] at ho;have hoc:=ho.cells.1;replace ho:=Zn0 ho;clear e1 e2
       (repeat' (first | (simp only [↓ZI,ZJ,intV,ZnW,ZnY,reduceCtorEq,ZnZ,Yj,Yz,Yn, *])))
       refine XI (OwnX.ghost (i:=2) (e:=9) (k:=1) (n:=(bound ++ [name]).length) (cs:=encC strE (bound ++ [name])) (by simp only [ZL,ZnW,if_true,if_false]; exact ho.out) (Zn1 _) _) ?_;exact Zfa (ks:=kids) (nm:=bound ++ [name]) (r3:=r3) hN (fun i h H=>ih _ (by simp) i h H) hR'.out (by simp only [ZL,ZnW,if_true,if_false, *]<;>rfl) ⟨m1,m2,rfl,hsr _ _ _ _ hm1,hsr _ _ _ _ hm2⟩ (by simp only [ZL,ZnW,if_true,if_false, *]<;>rfl) (by rw [Zoa _ _ zg.1.2]; exact Zn4 _ _ _) (by simp only [ZL,ZnW,if_true,if_false, *]<;>rfl) (by simp only [ZL,ZnW,if_true,if_false, *]<;>rfl) (by simp only [ZL,ZnW,if_true,if_false, *]<;>rfl) (hsr _ _)
     ·have hR':=Zn0 (show (2:Int)=R by rw [hR,ho]; simp [hk]);clear hR ho ih
      (repeat' (first | (simp only [↓ZI,ZJ,↓XF,ptrV,intV,ZnW,ZnY,reduceCtorEq,ZU,ZM,ZnZ,undef,Yj,Yw,Yg,Yz,Ye,Yc,Yn, *]) | (refine ZP ?_) | (refine ZS mixed (fun _ _ _ _ e h=>⟨e.trans h.1,h.2⟩) _ (Zn1 _) ?_) | (refine ZK fun zr zh=>?_; have zg:=zh; (try simp only [Zn2] at zg); (try have zn_hm1:=ZnX hm1 zh); (try have zn_hm1:=ZnX hm1 zg.2); (try have zn_hm1:=ZnX hm1 zg.2.2); (try have zn_hm2:=ZnX hm2 zh); (try have zn_hm2:=ZnX hm2 zg.2); (try have zn_hm2:=ZnX hm2 zg.2.2)) | (exact Zn1 _) | (refine Zn6 ?_ ?_) | (with_reducible refine And.intro ?_ ?_)))
      all_goals first
       | rw [hR'.out]
       | (rename_i r3 n3 n3' w1 w2; exact (Zn5 n3).of_set zg.2)
   ·by_cases h4:op=4
    ·subst h4;by_cases hn:name={ data:=#[] }
     ·by_cases hk:nk < 2
      ·have hR':=Zn0 (show (2:Int)=R by rw [hR,ho]; simp [hk]);clear hR ho ih
       (repeat' (first | (simp only [↓ZI,ZJ,↓XF,ptrV,intV,ZnW,ZnY,reduceCtorEq,ZU,ZM,ZnZ,undef,Yj,Yw,Yg,Yz,Ye,Yc,Yn, *]) | (refine ZP ?_) | (refine ZS mixed (fun _ _ _ _ e h=>⟨e.trans h.1,h.2⟩) _ (Zn1 _) ?_) | (refine ZK fun zr zh=>?_; have zg:=zh; (try simp only [Zn2] at zg); (try have zn_hm1:=ZnX hm1 zh); (try have zn_hm1:=ZnX hm1 zg.2); (try have zn_hm1:=ZnX hm1 zg.2.2); (try have zn_hm2:=ZnX hm2 zh); (try have zn_hm2:=ZnX hm2 zg.2); (try have zn_hm2:=ZnX hm2 zg.2.2)) | (exact Zn1 _) | (refine Zn6 ?_ ?_) | (with_reducible refine And.intro ?_ ?_)))
       all_goals first
        | rw [hR'.out]
        | (rename_i r3 n3 n3' w1 w2; exact (Zn5 n3).of_set zg.2)
      ·have hR':=Zn0 (show R=sdsF p kids bound by rw [hR,ho]; simp [hn,hk]);clear hR ho
       (repeat' (first | (simp only [↓ZI,ZJ,↓XF,ptrV,intV,ZnW,ZnY,reduceCtorEq,ZM,ZnZ,undef,Zoh,Yj,Yw,Yg,Yz,Ye,Yc,Yn, *]) | (refine ZS mixed (fun _ _ _ _ e h=>⟨e.trans h.1,h.2⟩) _ (Zn1 _) ?_) | (refine ZK fun zr zh=>?_; have zg:=zh; (try simp only [Zn2] at zg); (try have zn_hm1:=ZnX hm1 zh); (try have zn_hm1:=ZnX hm1 zg.2); (try have zn_hm1:=ZnX hm1 zg.2.2); (try have zn_hm2:=ZnX hm2 zh); (try have zn_hm2:=ZnX hm2 zg.2); (try have zn_hm2:=ZnX hm2 zg.2.2))))
       rename_i r3 n3 n3' w1 w2;have hsr:∀ b1 b2,SubH H ((H.set r3 b1).set zr b2):=fun _ _=>(Zn5 n3).of_set zg.2
       refine Zfa (ks:=kids) (nm:=bound) (r3:=r3) hN (fun i h H=>ih _ (by omega) i h H) hR'.out (by simp only [ZL,ZnW,if_false, *]<;>rfl) ⟨m1,m2,rfl,hsr _ _ _ _ hm1,hsr _ _ _ _ hm2⟩ (by simp only [ZL,ZnW,if_true,if_false, *]<;>rfl) (by simp only [Zn8, *,if_true,if_false]<;>rfl) (by simp only [ZL,ZnW,if_true,if_false, *]<;>rfl) (by simp only [ZL,ZnW,if_true,if_false, *]<;>rfl) (by simp only [ZL,ZnW,if_true,if_false, *]<;>rfl) (hsr _ _)
     ·have hR':=Zn0 (show (2:Int)=R by rw [hR,ho]; simp [hn]);clear hR ho ih
      (repeat' (first | (simp only [↓ZI,ZJ,↓XF,ptrV,intV,ZnW,ZnY,reduceCtorEq,ZU,ZM,ZnZ,undef,Yj,Yw,Yg,Yz,Ye,Yc,Yn, *]) | (refine YU ?_ ?_<;>intro) | (refine ZP ?_) | (refine ZS mixed (fun _ _ _ _ e h=>⟨e.trans h.1,h.2⟩) _ (Zn1 _) ?_) | (refine ZK fun zr zh=>?_; have zg:=zh; (try simp only [Zn2] at zg); (try have zn_hm1:=ZnX hm1 zh); (try have zn_hm1:=ZnX hm1 zg.2); (try have zn_hm1:=ZnX hm1 zg.2.2); (try have zn_hm2:=ZnX hm2 zh); (try have zn_hm2:=ZnX hm2 zg.2); (try have zn_hm2:=ZnX hm2 zg.2.2)) | (exact Zn1 _) | (refine Zn6 ?_ ?_) | (with_reducible refine And.intro ?_ ?_)))
      all_goals first
       | rw [hR'.out]
       | (rename_i r3 n3 n3' w1 w2; exact (Zn5 n3).of_set zg.2)
    ·by_cases h3:op=3
     ·subst h3;by_cases hn:name={ data:=#[] }
      ·have hR':=Zn0 (show (2:Int)=R by rw [hR,ho]; simp [hn]);clear hR ho ih
       (repeat' (first | (simp only [↓ZI,ZJ,↓XF,ptrV,intV,ZnW,ZnY,reduceCtorEq,ZM,ZnZ,undef,Yj,Yw,Yg,Yz,Ye,Yc,Yn, *]) | (refine ZP ?_) | (refine ZS mixed (fun _ _ _ _ e h=>⟨e.trans h.1,h.2⟩) _ (Zn1 _) ?_) | (refine ZK fun zr zh=>?_; have zg:=zh; (try simp only [Zn2] at zg); (try have zn_hm1:=ZnX hm1 zh); (try have zn_hm1:=ZnX hm1 zg.2); (try have zn_hm1:=ZnX hm1 zg.2.2); (try have zn_hm2:=ZnX hm2 zh); (try have zn_hm2:=ZnX hm2 zg.2); (try have zn_hm2:=ZnX hm2 zg.2.2)) | (exact Zn1 _) | (refine Zn6 ?_ ?_) | (with_reducible refine And.intro ?_ ?_)))
       all_goals first
        | rw [hR'.out]
        | (rename_i r3 n3 n3' w1 w2; exact (Zn5 n3).of_set zg.2)
      ·rcases hca with ⟨hat,hcn⟩ | ⟨j,hj,hat,hjn,hcn⟩
       ·have hR':=Zn0 (show (9:Int)=R by rw [hR,ho]; simp [hn,hat]);clear hR ho ih hat
        (repeat' (first | (refine ZmK Zc7 hz hcn (by first | assumption | simp only [Zn8, *,if_false]) ?_) | (simp only [↓JH,↓WV,↓WW,↓Wu,↓Ww,↓Jf,↓XA,↓Zck,↓ZbJ,↓WX,↓Xe,↓Xf,↓Zak,↓Zcl,↓Zgl,↓XK,↓XL,↓XM,↓XN,↓We,↓ZL,↓WA,↓Xk,↓Wf,↓JB,↓s_un,↓Zbp,↓YQ,↓Jm,↓ZaL,↓Zal,↓ZfT,↓Zan,↓XE,↓XF,ZV,ptrV,intV,boolV,Zou,ZoE,ZoP,ZoQ,ZoR,ite_true,ite_false,ZnW,ZnY,ne_eq,not_false_eq_true,true_and,ZoD,decide_true,decide_false,Bool.not_true,Bool.not_false,reduceCtorEq,ZM,↓Zao,↓Zap,Zn8,eq_self,Zot,ZoL,ZnZ,List.getElem?_cons_zero,List.getElem?_cons_succ,Zaf,WB,↓Zbq,JC,ZaW,Zdo,JD,Jo,ZaX,↓ZeQ,undef,okV,Yj,Yw,Yg,ZeN,Yz,Ye,Yc,Zjs,Yn, *]) | (refine ZP ?_) | (refine ZS mixed (fun _ _ _ _ e h=>⟨e.trans h.1,h.2⟩) _ (Zn1 _) ?_) | (refine ZK fun zr zh=>?_; have zg:=zh; (try simp only [Zn2] at zg); (try have zn_hm1:=ZnX hm1 zh); (try have zn_hm1:=ZnX hm1 zg.2); (try have zn_hm1:=ZnX hm1 zg.2.2); (try have zn_hm2:=ZnX hm2 zh); (try have zn_hm2:=ZnX hm2 zg.2); (try have zn_hm2:=ZnX hm2 zg.2.2)) | (exact Zn1 _) | (refine Zn6 ?_ ?_) | (with_reducible refine And.intro ?_ ?_)))
        all_goals first
         | rw [hR'.out]
         | (rename_i r3 n3 n3' w1 w2; exact (Zn5 n3).of_set zg.2)
       ·have hj0:¬ (j:Int) < 0:=by omega
        rw [hat] at ho;simp only [ZoJ,ZoH hj] at ho;clear hjn;by_cases hka:nk=p.cons[j].arity
        ·have hR':=Zn0 (show R=sdsF p kids bound by rw [hR,ho]; simp [hn,hj0,hka]);clear hR ho hat
         (repeat' (first | (refine ZeD Zc7 hz hcn (by first | assumption | simp only [Zn8, *,if_false]) ?_) | (simp only [↓JH,↓WV,↓WW,↓ZbI,↓Wu,↓Ww,↓Jf,↓XA,↓Zjy,↓ZbJ,↓WX,↓Xe,↓Xf,↓Zcl,↓XK,↓XL,↓XM,↓XN,↓We,↓ZL,↓WA,↓Xk,↓Wf,↓JB,↓s_un,↓Zbp,↓YQ,↓Jm,↓ZaL,↓Zal,↓ZfT,↓Zan,↓XE,↓Zc0,↓XF,ZV,ptrV,intV,boolV,Zou,ZoE,ZoP,ZoQ,ZoR,ite_true,ite_false,ZnW,ZnY,ne_eq,not_false_eq_true,true_and,ZoD,decide_true,decide_false,Bool.not_true,Bool.not_false,reduceCtorEq,ZM,↓Zao,↓Zap,Zn8,eq_self,Zot,ZoL,ZnZ,List.getElem?_cons_zero,List.getElem?_cons_succ,Zaf,WB,↓Zbq,JC,ZaW,Zdo,JD,Jo,ZaX,↓ZeQ,undef,okV,Yj,Yw,Yg,ZeN,Yz,Ye,Yc,Zjs,Yn, *]) | (refine ZS mixed (fun _ _ _ _ e h=>⟨e.trans h.1,h.2⟩) _ (Zn1 _) ?_) | (refine ZK fun zr zh=>?_; have zg:=zh; (try simp only [Zn2] at zg); (try have zn_hm1:=ZnX hm1 zh); (try have zn_hm1:=ZnX hm1 zg.2); (try have zn_hm1:=ZnX hm1 zg.2.2); (try have zn_hm2:=ZnX hm2 zh); (try have zn_hm2:=ZnX hm2 zg.2); (try have zn_hm2:=ZnX hm2 zg.2.2))))
         rename_i r3 n3 n3' w1 w2;have hsr:∀ b1 b2,SubH H ((H.set r3 b1).set zr b2):=fun _ _=>(Zn5 n3).of_set zg.2
         refine Zfa (ks:=kids) (nm:=bound) (r3:=r3) hN (fun i h H=>ih _ (by omega) i h H) hR'.out (by simp only [ZL,ZnW,if_false, *]<;>rfl) ⟨m1,m2,rfl,hsr _ _ _ _ hm1,hsr _ _ _ _ hm2⟩ (by simp only [ZL,ZnW,if_true,if_false, *]<;>rfl) (by simp only [Zn8, *,if_true,if_false]<;>rfl) (by simp only [ZL,ZnW,if_true,if_false, *]<;>rfl) (by simp only [ZL,ZnW,if_true,if_false, *]<;>rfl) (by simp only [ZL,ZnW,if_true,if_false, *]<;>rfl) (hsr _ _)
        ·have hR':=Zn0 (show (5:Int)=R by rw [hR,ho]; simp [hn,hj0,hka]);clear hR ho hat ih
         (repeat' (first | (refine ZeD Zc7 hz hcn (by first | assumption | simp only [Zn8, *,if_false]) ?_) | (simp only [↓JH,↓WV,↓WW,↓Wu,↓Ww,↓Jf,↓XA,↓Zck,↓ZbJ,↓WX,↓Xe,↓Xf,↓Zak,↓Zcl,↓Zgl,↓XK,↓XL,↓XM,↓XN,↓We,↓ZL,↓WA,↓Xk,↓Wf,↓JB,↓s_un,↓Zbp,↓YQ,↓Jm,↓ZaL,↓Zal,↓ZfT,↓Zan,↓XE,↓Zc0,↓XF,ZV,ptrV,intV,boolV,Zou,ZoE,ZoP,ZoQ,ZoR,ite_true,ite_false,ZnW,ZnY,ne_eq,not_false_eq_true,true_and,ZoD,decide_true,decide_false,Bool.not_true,Bool.not_false,reduceCtorEq,ZM,↓Zao,↓Zap,Zn8,eq_self,Zot,ZoL,ZnZ,List.getElem?_cons_zero,List.getElem?_cons_succ,Zaf,WB,↓Zbq,JC,ZaW,Zdo,JD,Jo,ZaX,↓ZeQ,undef,okV,Yj,Yw,Yg,ZeN,Yz,Ye,Yc,Zjs,Yn, *]) | (refine ZP ?_) | (refine ZS mixed (fun _ _ _ _ e h=>⟨e.trans h.1,h.2⟩) _ (Zn1 _) ?_) | (refine ZK fun zr zh=>?_; have zg:=zh; (try simp only [Zn2] at zg); (try have zn_hm1:=ZnX hm1 zh); (try have zn_hm1:=ZnX hm1 zg.2); (try have zn_hm1:=ZnX hm1 zg.2.2); (try have zn_hm2:=ZnX hm2 zh); (try have zn_hm2:=ZnX hm2 zg.2); (try have zn_hm2:=ZnX hm2 zg.2.2)) | (exact Zn1 _) | (refine Zn6 ?_ ?_) | (with_reducible refine And.intro ?_ ?_)))
         all_goals first
          | rw [hR'.out]
          | (rename_i r3 n3 n3' w1 w2; exact (Zn5 n3).of_set zg.2)
     ·have hR':=Zn0 (show (2:Int)=R by rw [hR,ho]; simp [h1,h2,h3,h4,h5]);clear hR ho ih
      (repeat' (first | (simp only [↓ZI,ZJ,↓XF,ptrV,intV,ZnW,ZnY,reduceCtorEq,ZM,ZnZ,undef,Yj,Yw,Yg,Yz,Ye,Yc,Yn, *]) | (refine ZP ?_) | (refine ZS mixed (fun _ _ _ _ e h=>⟨e.trans h.1,h.2⟩) _ (Zn1 _) ?_) | (refine ZK fun zr zh=>?_; have zg:=zh; (try simp only [Zn2] at zg); (try have zn_hm1:=ZnX hm1 zh); (try have zn_hm1:=ZnX hm1 zg.2); (try have zn_hm1:=ZnX hm1 zg.2.2); (try have zn_hm2:=ZnX hm2 zh); (try have zn_hm2:=ZnX hm2 zg.2); (try have zn_hm2:=ZnX hm2 zg.2.2)) | (exact Zn1 _) | (refine Zn6 ?_ ?_) | (with_reducible refine And.intro ?_ ?_)))
      all_goals first
       | rw [hR'.out]
       | (rename_i r3 n3 n3' w1 w2; exact (Zn5 n3).of_set zg.2)
end Go.PV.YtglpmlbbaedbiaaGreat
end
section
open Go.PV.AH renaming set_none→Zn2,set_same→Zn4,set_ne→Zoa,ne_of→ZnX
open Go.PV.GhL renaming cons→Zod
open Go.PV.GhV renaming refl→Zoq
open Go.PV.Hold renaming mk→Zn0
open Go.PV.PureF renaming forget→Zoj,use→Zn3
open Go.PV.SubH renaming new→Zn5,of_set→Zn6,refl→Zn1
open List renaming getElem_mem→Zn9,drop→ZnZ,drop_eq_nil_of_le→Zop,drop_zero→ZoB
open Nat renaming reduceEqDiff→ZnW,reduceLT→ZnY,reduceAdd→Zn7,zero_add→Zot
open Option renaming bind_some→Zol,map_some→Zog
set_option maxRecDepth 20000
set_option maxHeartbeats 4000000
namespace Go.PV.YtglpmlbbaedbiaaGreat
open Go Go.Proofs
theorem ZkC (e:Ex):e.sz≤1152921504606846976→PureF Tryz.prog 42 [exV e] (.tuple [iV e.sz,iV e.dp]):=by
 refine Ex.ind (p:=fun e=>e.sz≤1152921504606846976→PureF Tryz.prog 42 [exV e] (.tuple [iV e.sz,iV e.dp])) (fun e ih hs=>?_) e;have hz:=e.sz_eq;have hl:=YC e.kids;have ih':∀ i (h:i < e.kids.length),PureF Tryz.prog 42 [exV e.kids[i]] (.tuple [iV e.kids[i].sz,iV e.kids[i].dp]):=fun i h=>ih _ (Zn9 h) (by have:=Yl (Zn9 h); omega)
 clear ih;refine Zoj fun H=>?_
 refine ZN fd42 (by simp) ?_;delta c42 Zj Zf Zd Zb Ze Zq;obtain ⟨N,D,hN,hD,hNs,hlN⟩:∃ N D,e.sz=N∧e.dp=D∧N≤1152921504606846976∧e.kids.length≤N:=⟨_,_,rfl,rfl,hs,by omega⟩
 have hDN:D≤N:=by have:=e.dp_le; omega
 have h0:1 + exsSz e.kids=N:=by omega
 have h1:exsDp e.kids + 1=D:=by rw [← hD,e.dp_eq]
 rw [hN,hD];clear hs hl hz hN hD
 (repeat' (first | (simp only [↓ZI,ZJ,ptrV,intV,ZnW,ZnY,reduceCtorEq,ZM,ZnZ,undef,Yj,Yz,Yn, *]) | (refine ZK fun zr zh=>?_; have zg:=zh; (try simp only [Zn2] at zg))))
 refine ZW (fun _ _ _ h=>h) (fun A H'=>SubH H H'∧A.d=[]∧A.t 9=exsV e.kids∧A.t 10=iV e.kids.length∧∃ (i n d:Nat),i≤e.kids.length∧A.t 11=iV i∧A.t 2=iV n∧A.t 3=iV d∧1 + n + exsSz (e.kids.drop i)=N∧max d (exsDp (e.kids.drop i)) + 1=D)
  (fun A _=>match A.t 11 with | .lit (.int _ i)=>((e.kids.length:Int) - i).toNat | _=>0) ?_ ?_
 ·exact ⟨Zn5 zh,rfl,rfl,rfl,0,0,0,by omega,rfl,rfl,rfl,h0,by simpa using h1⟩
 ·clear h0 h1;rintro ⟨t,d⟩ H' ⟨hs',rfl,h9,h10,i,n,d,hi,h6,h4,h5,hn,hdd⟩;dsimp only at h9 h10 h4 h5 h6;delta b42_1 Zn Zr Zk Zb Zi Zg Zo Za Zh Zc Zq Zm
  (repeat' (first | (simp only [↓ZI,ZJ,ZV,ptrV,ZnW,ZnY,Zn7,setAt,ZnZ,vcMax,XB,Yt,YD,Ys,Yn,ZhT, *]) | (refine ZY ?_ ?_<;>intro) | (refine Ya rfl (fun _ _ _ h=>h) ?_) | (refine ZK fun zr zh=>?_; have zg:=zh; (try simp only [Zn2] at zg)) | (refine Zn6 ?_ ?_) | (exact SubH.none (by assumption) (by assumption)) | (refine Zn3 (ih' _ (by assumption)) ?_) | (with_reducible refine And.intro ?_ ?_)))
  ·rename_i hlt;have e1:=Zb3 hlt;rw [ZR (n:=(i:Int) + 1) (by omega) (by omega),ZR (n:=(n:Int) + (e.kids[i].sz:Int)) (by omega) (by omega)];exact ⟨i + 1,n + e.kids[i].sz,max d e.kids[i].dp,by omega,rfl,by simp,by simp; split<;>omega,by omega,by rw [Zb4 hlt] at hdd; omega⟩
  ·rename_i hlt;rw [ZR (n:=(i:Int) + 1) (by omega) (by omega)];omega
  ·rename_i hlt;rw [Zop (by omega)] at hn hdd;delta c42_1 Za Zm Zc;have hn':N=n + 1:=by simp [exsSz] at hn; omega
   have hd':D=d + 1:=by simpa [exsDp] using hdd.symm
   rw [show (N:Int)=(n:Int) + 1 by omega,show (D:Int)=(d:Int) + 1 by omega];have w1:IntKind.i64.wrap ((n:Int) + 1)=(n:Int) + 1:=ZR (by omega) (by omega);have w2:IntKind.i64.wrap ((d:Int) + 1)=(d:Int) + 1:=ZR (by omega) (by omega);clear hn hn' hd' hdd hDN hlN hNs
   (repeat' (first | (simp only [↓ZI,ZJ,ZnW,ZnY, *])))
   exact Yk rfl (by simp only [resV,YO,YN,ZL,ZnW,if_true,if_false,Zol,Zog,tupV, *]<;>rfl) ⟨rfl,hs'⟩
theorem sd_ok {p:Pr} (hnd:NdP p) {m1 m2:Nat}:∀ (n:Nat) (e:Ex) (nm:List ByteArray) (H:AH),e.sz < n→e.sz≤1099511627776→nm.length + e.sz≤1099511627776→e.nmOk→TabAt H (.agg (tabE m1 m2)) p→ReadF Tryz.prog 46 [.agg (tabE m1 m2),exV e,strsV nm] (iV (e.sdF p nm)) H:=by
 intro n
 induction n with
 | zero=>intro e nm H h0; omega
 | succ n ih =>
   intro e nm H h0 hs hb hnm hv;have z:=e.sz_eq;have hkl:=YC e.kids;rw [Ex.nmOk_iff] at hnm;obtain ⟨a1,a2,ha,hm1,hm2⟩:=hv;obtain ⟨rfl,rfl⟩:a1=m1∧a2=m2:=by simpa [tabE,eq_comm] using ha
   refine sd_node (nk:=e.kids.length) (hb:=hasF nm e.name) (nb:=true) (by omega) (by omega) (by have:=hnm.1; unfold maxLen; omega) rfl (fun nm' hl i h H hv'=>?_) hm1 hm2 (ZkB hnd.funs _) (conMk_at hnd.cons _) (Zik nm e.name (by omega)) (sdOwn p e nm) rfl (e.sdF_eq p nm)
   have:=Yl (Zn9 h)
   exact ih _ _ _ (by omega) (by omega) (by omega) (hnm.2 _ (Zn9 h)) hv'
theorem ZkD {α:Type} {p:α→Bool} {l:List α} (h:¬ 0≤idxF p l):∀ x∈l,p x=false:=by
 rcases Wm p l with ⟨_,h2⟩ | ⟨j,hj,h1,_⟩
 ·exact h2
 ·omega
theorem ZkE {α:Type} {f:α→ByteArray}:∀ {l:List α},(∀ i (h:i < l.length),∀ x∈l.take i,¬ f x=f l[i])→(l.map f).Nodup:=fun {l} h=>by
 rw [List.Nodup,List.pairwise_iff_getElem];intro i j hi hj hij;simp only [List.length_map] at hi hj;simp only [List.getElem_map];exact h j hj _ (List.mem_take_iff_getElem.2 ⟨i,by omega,rfl⟩)
theorem Zes {all:List Co}:∀ {l:List Co} {i:Nat},Za1 all l i=0→∀ k (h:k < l.length),∀ x∈all.take (i + k),¬ x.name=l[k].name
 | c :: l,i,h,k,hk,x,hx=>by
   rw [Za1] at h;split at h
   ·split at h
    ·cases h
    ·split at h
     ·cases h
     ·rename_i h3;cases k with
      | zero =>
        have:=ZkD h3 x hx
        simpa using this
      | succ k =>
        exact Zes h k (by simpa using hk) x (by rw [show i + 1 + k=i + (k + 1) by omega]; exact hx)
   ·cases h
theorem ZgD {p:Pr} {R:Int}:∀ {l:List Fu} {i:Nat},WY R p l i=0→(∀ k (h:k < l.length),Zbi p (i + k) l[k]=0)∧R=0
 | [],i,h=>⟨fun k hk=>by simp at hk,h⟩
 | f :: l,i,h=>by
   rw [WY] at h;split at h
   ·rename_i h1;obtain ⟨h2,h3⟩:=ZgD h;refine ⟨fun k hk=>?_,h3⟩;cases k with
    | zero=>exact h1
    | succ k=>have:=h2 k (by simpa using hk); rw [show i + 1 + k=i + (k + 1) by omega] at this; exact this
   ·rename_i h1; exact absurd h h1
theorem ZgE {p:Pr} (h:Ji p=0):p.funs.length≤100∧Jy p.cons=0∧(∀ k (h:k < p.funs.length),Zbi p k p.funs[k]=0)∧Xw p p.funs=0:=by
 unfold Ji at h;split at h
 ·cases h
 ·split at h
  ·rename_i h1 h2;have h3:=ZgD h;refine ⟨by omega,h2,fun k hk=>?_,h3.2⟩
   have:=h3.1 k hk
   rwa [Zot] at this
  ·rename_i h1 h2; exact absurd h h2
theorem ZkF {p:Pr} (h:Ji p=0):NdP p:=by
 obtain ⟨h1,h2,h3,_⟩:=ZgE h;refine ⟨ZkE fun i hi x hx=>?_,ZkE fun i hi x hx=>?_⟩
 ·have:=h3 i hi
  unfold Zbi at this;split at this
  ·split at this
   ·cases this
   ·rename_i h4;have h5:=ZkD (fun h=>h4 (.inr h)) x hx;simpa using h5
  ·cases this
 ·unfold Jy at h2;split at h2
  ·cases h2
  ·have:=Zes h2 i hi x (by simpa using hx)
   exact this
noncomputable def Wo (p:Pr) (e:Ex):Int:=if Ji p=0 then (if 5000 < e.sz then 7 else if 200 < e.dp then 6 else e.sdF p []) else Ji p
theorem ZjH {H:AH} {t:Nat→VV} {r sp:Nat} {c:Int} {a b:Option Nat} {e':TypeId} {K:VE→AH→Prop} (h4:t 4=ptrV r 0) (h5:t 5=iV c) (k4:H r=some (.cells e' [.lit (.map a),.lit (.map b)] sp)) (hk:K (.ret (.tuple [.agg [.lit (.map a),.lit (.map b)],iV c])) H):YW Tryz.prog [.cell 4 85,.tmp 5] K .ret ⟨t,[]⟩ H :=
 Yk rfl (by simp only [resV,YO,YN,WR,h4,h5,k4,ptrV,ZoB,ZjD,Zol,Zog,tupV]) hk
theorem ZkG {p:Pr} {e:Ex} (hp:PrOk p) (hs:e.sz≤1099511627776) (hn:e.nmOk) {H:AH} {K:VE→AH→Prop}
 (hK:∀ a b H',SubH H H'→(Wo p e=0→TabAt H' (.agg [.lit (.map a),.lit (.map b)]) p)→K (.ret (.tuple [.agg [.lit (.map a),.lit (.map b)],iV (Wo p e)])) H'):Yh Tryz.prog 24 [prV p,exV e] H K:=by
 have hck:=check_ok hp;have hsz:=ZkC e (by omega)
 have htb:∀ (H:AH) (K:VE→AH→Prop),(∀ m1 m2 H',SubH H H'→TabAt H' (.agg (tabE m1 m2)) p→K (.ret (.agg (tabE m1 m2))) H')→Yh Tryz.prog 45 [prV p] H K:=fun H K hK=>Znq (p:=p) (H0:=H) (K:=K) hp.cons hp.funs (fun c hc=>by have:=hp.cnames c hc; unfold maxLen; omega) (fun c hc=>by have:=hp.fnames c hc; unfold maxLen; omega) (fun v H' h1 h2=>by
  obtain ⟨m1,m2,rfl,h3⟩:=h2;exact hK m1 m2 H' h1 ⟨m1,m2,rfl,h3⟩)
 have hsd:=fun (h:Ji p=0) H m1 m2=>sd_ok (ZkF h) (m1:=m1) (m2:=m2) (e.sz + 1) e [] H (by omega) hs (by simpa using hs) hn
 refine ZN fd24 (by simp) ?_;delta c24 Zj Zi Zf Zb Zo Zr Zc Za Zm Zq Zg Zh;unfold Wo at hK;replace hK:=Zn0 hK;clear hp hs hn;by_cases hz:Ji p=0
 ·replace hsd:=hsd hz;rw [hz] at hck;rw [if_pos hz] at hK;clear hz;by_cases h1:5000 < e.sz
  ·have h1':(5000:Int) < (e.sz:Int):=by omega
   rw [if_pos h1] at hK
   (repeat' (first | (simp only [↓ZI,ZJ,ZV,ptrV,ZnW,ZnY,Zn7,ZM,ZX,fillV,setAt,ZnZ,undef,Zbc,Yt,JG,Zjo,Wj,ZkW,ZhT, *]) | (refine ZK fun zr zh=>?_; have zg:=zh; (try simp only [Zn2] at zg)) | (refine Zn3 (hck) ?_) | (refine Zn3 (hsz) ?_)))
   rename_i r3 n3 n3' r5 n5 n5';exact ZjH (by simp only [ZL,ZnW,if_true,if_false, *]<;>rfl) (by simp only [ZL,ZnW,if_true,if_false, *]<;>rfl) (Zn4 _ _ _) (hK.out _ _ _ (((Zn5 n3).of_set n5'.2).of_set zg.2.2) (fun h=>by cases h))
  ·have h1':¬ (5000:Int) < (e.sz:Int):=by omega
   rw [if_neg h1] at hK;by_cases h2:200 < e.dp
   ·have h2':(200:Int) < (e.dp:Int):=by omega
    rw [if_pos h2] at hK
    (repeat' (first | (simp only [↓ZI,ZJ,ZV,ptrV,ZnW,ZnY,Zn7,ZM,ZX,fillV,setAt,ZnZ,undef,Zbc,Yt,JG,Zjo,Wj,ZkW,ZhT, *]) | (refine ZK fun zr zh=>?_; have zg:=zh; (try simp only [Zn2] at zg)) | (refine Zn3 (hck) ?_) | (refine Zn3 (hsz) ?_)))
    rename_i r3 n3 n3' r5 n5 n5';exact ZjH (by simp only [ZL,ZnW,if_true,if_false, *]<;>rfl) (by simp only [ZL,ZnW,if_true,if_false, *]<;>rfl) (Zn4 _ _ _) (hK.out _ _ _ (((Zn5 n3).of_set n5'.2).of_set zg.2.2) (fun h=>by cases h))
   ·have h2':¬ (200:Int) < (e.dp:Int):=by omega
    rw [if_neg h2] at hK;generalize e.sdF p []=R at *
    (repeat' (first | (simp only [↓ZI,ZJ,ZV,ptrV,ZnW,ZnY,ZM,ZnZ,undef,Zbc,Yt,Wj,ZkW,ZhT,en_45, *]) | (refine ZK fun zr zh=>?_; have zg:=zh; (try simp only [Zn2] at zg)) | (refine Zn3 (hck) ?_) | (refine Zn3 (hsz) ?_)))
    rename_i r2 n2 n2' r3 n3 n3';refine htb _ _ (fun m1 m2 H' hs' hv'=>?_);have hsH:=(((Zn5 n2).of_set n3'.2).of_set zg.2.2).trans hs';have k3:H' r3=some (.cells 35 [iV e.op,sV e.name,encS exE e.kids] 0):=hs' _ _ (by rw [Zoa _ _ zg.1.2]; exact Zn4 _ _ _);have k4:=hs' _ _ (Zn4 _ _ _);have g4:H zr=none:=zg.2.2;generalize zr=r4 at *
    have hc:=fun H2 (h:SubH H' H2)=>hsd H2 m1 m2 (hv'.mono h)
    replace hv':=Zn0 hv';clear n2 n2' n3 n3' zg zh hck hsz htb hsd
    (repeat' (first | (simp only [↓ZI,ZJ,ptrV,ZnW,ZnY,Zn7,setAt,ZnZ,Yt,WR,JG,Wj,en_46, *]) | (refine ZS mixed (fun _ _ _ _ e h=>⟨e.trans h.1,h.2⟩) _ (Zn1 _) ?_) | (refine ZK fun zr zh=>?_; have zg:=zh; (try simp only [Zn2] at zg); (try have zn_k3:=ZnX k3 zh); (try have zn_k3:=ZnX k3 zg.2); (try have zn_k3:=ZnX k3 zg.2.2); (try have zn_k4:=ZnX k4 zh); (try have zn_k4:=ZnX k4 zg.2); (try have zn_k4:=ZnX k4 zg.2.2))))
    refine YM (Zod (Zoq _ _) (Zod (Zoq _ _) (Zod (GhV.nil _) (GhL.nil _)))) ?_;refine (hc _ (Zn5 zh)).use ?_
    (repeat' (first | (simp only [↓ZI,ZJ,ZnW,ZnY,Zn7,setAt,JG, *]) | (exact Zn1 _) | (with_reducible refine And.intro ?_ ?_)))
    refine ZjH (by simp only [ZL,ZnW,if_true,if_false, *]<;>rfl) (by simp only [ZL,ZnW,if_true,if_false, *]<;>rfl) (Zn4 _ _ _) (hK.out _ _ _ ((hsH.of_set (hsH.none zh)).of_set g4) (fun _=>?_));obtain ⟨a1,a2,ha,x1,x2⟩:=hv'.out;obtain ⟨rfl,rfl⟩:a1=m1∧a2=m2:=by simpa [tabE,eq_comm] using ha
    exact ⟨a1,a2,rfl,by rw [Zoa _ _ (ZaQ k4 x1).2,Zoa _ _ (ZnX x1 zh).1]; exact x1,by rw [Zoa _ _ (ZaQ k4 x2).2,Zoa _ _ (ZnX x2 zh).1]; exact x2⟩
 ·rw [if_neg hz] at hK
  (repeat' (first | (simp only [↓ZI,ZJ,ptrV,ZnW,ZnY,Zn7,ZM,ZX,fillV,setAt,ZnZ,undef,Zbc,JG,Zjo,Wj,ZkW, *]) | (refine ZK fun zr zh=>?_; have zg:=zh; (try simp only [Zn2] at zg)) | (refine Zn3 (hck) ?_)))
  rename_i r3 n3 n3' r5 n5 n5';exact ZjH (by simp only [ZL,ZnW,if_true,if_false, *]<;>rfl) (by simp only [ZL,ZnW,if_true,if_false, *]<;>rfl) (Zn4 _ _ _) (hK.out _ _ _ (((Zn5 n3).of_set n5'.2).of_set zg.2.2) (fun h=>absurd h hz))
end Go.PV.YtglpmlbbaedbiaaGreat
end
section
open List renaming all_cons→ZoT
open Nat renaming le_refl→Zoc
namespace Go.PV.YtglpmlbbaedbiaaGreat
open Go Go.Proofs
theorem Zbw {α:Type} {f g:α→Bool}:∀ {l:List α},(∀ x∈l,f x=g x)→l.all f=l.all g
 | [],_=>rfl
 | x :: l,h=>by rw [ZoT,ZoT,h x (by simp),Zbw fun y hy=>h y (by simp [hy])]
abbrev noNm:ByteArray:={ data:=#[] }
def Ex.inner (e:Ex):Option (Ex × List Ex):=if e.op=4 then (match e.kids with | k :: r=>if k.op=4 then some (k,r) else none | []=>none) else none
def flatN:Nat→Ex→Ex
 | 0,e=>e
 | n + 1,e=>match e.inner with
   | some (k,r)=>flatN n (.mk 4 noNm (k.kids ++ r))
   | none=>e
def Ex.flat (e:Ex):Ex:=flatN e.sz e
theorem Ex.inner_some {e k:Ex} {r:List Ex} (h:e.inner=some (k,r)):e.op=4∧e.kids=k :: r∧k.op=4:=by
 unfold Ex.inner at h;split at h
 ·rename_i h1;split at h
  ·rename_i k' r' h2;split at h
   ·cases h; exact ⟨h1,h2,by assumption⟩
   ·cases h
  ·cases h
 ·cases h
theorem Ex.inner_sz {e k:Ex} {r:List Ex} (h:e.inner=some (k,r)):(Ex.mk 4 noNm (k.kids ++ r)).sz + 1=e.sz:=by
 obtain ⟨h1,h2,h3⟩:=Ex.inner_some h;rw [e.sz_eq,h2,Ex.sz_eq];show 1 + exsSz (k.kids ++ r) + 1=_;rw [Zel,exsSz,k.sz_eq]; omega
theorem ZkH:∀ (n m:Nat) (e:Ex),e.sz≤n→e.sz≤m→flatN n e=flatN m e
 | 0,m,e,h,_=>by have:=e.sz_pos; omega
 | n + 1,0,e,_,h=>by have:=e.sz_pos; omega
 | n + 1,m + 1,e,h,h'=>by
   rw [flatN,flatN];cases hi:e.inner with
   | none=>rfl
   | some x =>
     obtain ⟨k,r⟩:=x
     have:=Ex.inner_sz hi
     exact ZkH n m _ (by omega) (by omega)
theorem Ex.flat_some {e k:Ex} {r:List Ex} (h:e.inner=some (k,r)):e.flat=(Ex.mk 4 noNm (k.kids ++ r)).flat:=by
 have hs:=Ex.inner_sz h;obtain ⟨n,hn⟩:∃ n,e.sz=n + 1:=⟨e.sz - 1,by have:=e.sz_pos; omega⟩
 rw [Ex.flat,hn,flatN,h,Ex.flat];exact ZkH _ _ _ (by omega) (Zoc _)
theorem Ex.flat_none {e:Ex} (h:e.inner=none):e.flat=e:=by
 obtain ⟨n,hn⟩:∃ n,e.sz=n + 1:=⟨e.sz - 1,by have:=e.sz_pos; omega⟩
 rw [Ex.flat,hn,flatN,h]
theorem Ex.flat_ind {p:Ex→Prop} (hp:∀ e k r,e.inner=some (k,r)→p e→p (.mk 4 noNm (k.kids ++ r))):∀ (n:Nat) (e:Ex),e.sz≤n→p e→p e.flat∧e.flat.inner=none∧e.flat.sz≤e.sz
 | 0,e,h,_=>by have:=e.sz_pos; omega
 | n + 1,e,h,he=>by
   cases hi:e.inner with
   | none=>rw [Ex.flat_none hi]; exact ⟨he,hi,Zoc _⟩
   | some x =>
     obtain ⟨k,r⟩:=x;have hs:=Ex.inner_sz hi;rw [Ex.flat_some hi];obtain ⟨h1,h2,h3⟩:=Ex.flat_ind hp n _ (by omega) (hp _ _ _ hi he);exact ⟨h1,h2,by omega⟩
theorem Ex.flat_inner (e:Ex):e.flat.inner=none:=(Ex.flat_ind (p:=fun _=>True) (fun _ _ _ _ _=>trivial) e.sz e (Zoc _) trivial).2.1
theorem Ex.flat_sz (e:Ex):e.flat.sz≤e.sz:=(Ex.flat_ind (p:=fun _=>True) (fun _ _ _ _ _=>trivial) e.sz e (Zoc _) trivial).2.2
theorem Ex.flat_op (e:Ex) (h:e.op=4):e.flat.op=4:=(Ex.flat_ind (p:=fun e=>e.op=4) (fun _ _ _ _ _=>rfl) e.sz e (Zoc _) h).1
def arFu (l:List Fu) (n:ByteArray):Int:=match l[(atFu l n).toNat]? with | some c=>c.arity | none=>0
def isVn (p:Pr):Nat→Ex→Bool
 | 0,_=>false
 | n + 1,e=>if e.op=5 then true else if e.op=2 then decide (0 < arFu p.funs e.name) else if e.op=3 then e.kids.all (isVn p n) else if e.op=4 then
     (match e.flat.kids with | k :: r=>decide (k.op=2) && (decide ((r.length:Int) < arFu p.funs k.name) && r.all (isVn p n)) | []=>false) else false
def Ex.isV (p:Pr) (e:Ex):Bool:=isVn p e.sz e
theorem ZgF {p:Pr}:∀ (n m:Nat) (e:Ex),e.sz≤n→e.sz≤m→isVn p n e=isVn p m e
 | 0,m,e,h,_=>by have:=e.sz_pos; omega
 | n + 1,0,e,_,h=>by have:=e.sz_pos; omega
 | n + 1,m + 1,e,h,h'=>by
   have hz:=e.sz_eq;have h1:e.kids.all (isVn p n)=e.kids.all (isVn p m):=Zbw fun x hx=>ZgF n m x (by have:=Yl hx; omega) (by have:=Yl hx; omega)
   rw [isVn,isVn,h1];have hf:=e.flat_sz;have hfz:=e.flat.sz_eq;cases hk:e.flat.kids with
   | nil=>rfl
   | cons k r =>
     have h2:r.all (isVn p n)=r.all (isVn p m):=Zbw fun x hx=>by
      have h3:=Yl (l:=e.flat.kids) (e:=x) (by rw [hk]; simp [hx]);exact ZgF n m x (by omega) (by omega)
     dsimp only;rw [h2]
theorem Ex.isV_eq (p:Pr) (e:Ex):e.isV p=if e.op=5 then true else if e.op=2 then decide (0 < arFu p.funs e.name) else if e.op=3 then e.kids.all (·.isV p) else if e.op=4 then
 (match e.flat.kids with | k :: r=>decide (k.op=2) && (decide ((r.length:Int) < arFu p.funs k.name) && r.all (·.isV p)) | []=>false) else false:=by
 obtain ⟨n,hn⟩:∃ n,e.sz=n + 1:=⟨e.sz - 1,by have:=e.sz_pos; omega⟩
 have hz:=e.sz_eq;have h1:e.kids.all (isVn p n)=e.kids.all (·.isV p):=Zbw fun x hx=>ZgF n _ x (by have:=Yl hx; omega) (Zoc _)
 have hf:=e.flat_sz;have hfz:=e.flat.sz_eq;rw [Ex.isV,hn,isVn,h1];cases hk:e.flat.kids with
 | nil=>rfl
 | cons k r =>
   have h2:r.all (isVn p n)=r.all (·.isV p):=Zbw fun x hx=>by
    have h3:=Yl (l:=e.flat.kids) (e:=x) (by rw [hk]; simp [hx]);exact ZgF n _ x (by omega) (Zoc _)
   dsimp only;rw [h2]
theorem ZmL {p:Pr} {l:List Ex} {b:List ByteArray}:sdsF p l b=0↔∀ k∈l,k.sdF p b=0:=by
 induction l with
 | nil=>simp [sdsF]
 | cons k l ih =>
   rw [sdsF]
   constructor
   ·intro h;split at h
    ·rename_i h1;intro x hx;rcases List.mem_cons.1 hx with rfl | hx
     ·exact h1
     ·exact ih.1 h x hx
    ·rename_i h1; exact absurd h h1
   ·intro h;rw [if_pos (h k (by simp))];exact ih.2 fun x hx=>h x (by simp [hx])
theorem Xq {p:Pr} {e:Ex} {b:List ByteArray}:e.sdF p b=0↔sdOwn p e b=0∧∀ k∈e.kids,k.sdF p (if e.op=5 then b ++ [e.name] else b)=0:=by
 rw [e.sdF_eq]
 constructor
 ·intro h;split at h
  ·rename_i h1; exact ⟨h1,ZmL.1 h⟩
  ·rename_i h1; exact absurd h h1
 ·rintro ⟨h1,h2⟩;rw [if_pos h1]; exact ZmL.2 h2
theorem XR {p:Pr} {e:Ex} {b:List ByteArray}:sdOwn p e b=0 ↔
 formB e.op e.kids.length (!decide (e.name=noNm))=true∧(e.op=2→0≤atFu p.funs e.name)∧(e.op=3→0≤atCo p.cons e.name∧(e.kids.length:Int)=arCo p.cons e.name)∧(e.op=1→e.name∈b):=by
 unfold sdOwn;rw [← WI (l:=b)];generalize formB e.op e.kids.length (!decide (e.name=noNm))=fb;generalize hasF b e.name=hb;generalize atFu p.funs e.name=af;generalize atCo p.cons e.name=ac;generalize arCo p.cons e.name=ar;generalize (e.kids.length:Int)=nk;generalize e.op=op;cases fb with
 | false=>simp
 | true =>
   by_cases h2:op=2
   ·subst h2; by_cases h:af < 0<;>simp [h]<;>omega
   ·by_cases h3:op=3
    ·subst h3;by_cases h4:ac < 0
     ·simp [h4]; omega
     ·by_cases h5:nk=ar
      ·simp [h4,h5]; omega
      ·simp [h4,h5]
    ·by_cases h1:op=1
     ·subst h1; cases hb<;>simp
     ·simp [h1,h2,h3]
theorem Zhc {p:Pr} {b:List ByteArray} {e k:Ex} {r:List Ex} (hi:e.inner=some (k,r)) (he:e.sdF p b=0):(Ex.mk 4 noNm (k.kids ++ r)).sdF p b=0:=by
 obtain ⟨h1,h2,h3⟩:=Ex.inner_some hi;have he':=Xq.1 he;rw [h1] at he';simp only [show ¬ (4:Int)=5 by decide,if_false] at he';have hk:=Xq.1 (he'.2 k (by rw [h2]; simp));rw [h3] at hk;simp only [show ¬ (4:Int)=5 by decide,if_false] at hk;have f1:=(XR.1 he'.1).1;have f2:=(XR.1 hk.1).1;rw [h1,h2] at f1;rw [h3] at f2;refine Xq.2 ⟨XR.2 ⟨?_,by simp [Ex.op],by simp [Ex.op],by simp [Ex.op]⟩,?_⟩
 ·simp [formB] at f1 f2
  change formB 4 ((k.kids ++ r).length:Nat) (!decide (noNm=noNm))=true
  simp [formB];omega
 ·simp only [Ex.op,Ex.kids,show ¬ (4:Int)=5 by decide,if_false];intro x hx;rcases List.mem_append.1 hx with hx | hx
  ·exact hk.2 x hx
  ·exact he'.2 x (by rw [h2]; simp [hx])
theorem Zjd {p:Pr} {b:List ByteArray} {e:Ex} (h:e.sdF p b=0):e.flat.sdF p b=0 :=
 (Ex.flat_ind (p:=fun e=>e.sdF p b=0) (fun e k r hi he=>Zhc hi he) e.sz e (Zoc _) h).1
theorem Zdy {p:Pr} {b:List ByteArray} {e:Ex} (h:e.sdF p b=0) (h4:e.op=4):e.name=noNm∧∃ k1 k2 r,e.kids=k1 :: k2 :: r:=by
 have h1:=(XR.1 (Xq.1 h).1).1;rw [h4] at h1;simp [formB] at h1;refine ⟨h1.2,?_⟩;cases hk:e.kids with
 | nil=>rw [hk] at h1; simp at h1
 | cons k1 l =>
   cases l with
   | nil=>rw [hk] at h1; simp at h1
   | cons k2 r=>exact ⟨k1,k2,r,rfl⟩
end Go.PV.YtglpmlbbaedbiaaGreat
end
section
open Bool renaming false_eq_true→ZoS
open Go.PV.AH renaming get→Zn8,set_none→Zn2,set_same→Zn4
open Go.PV.GhL renaming cons→Zod
open Go.PV.GhV renaming refl→Zoq,forget→Zoi
open Go.PV.Hold renaming mk→Zn0
open Go.PV.PureF renaming use→Zn3
open Go.PV.SubH renaming new→Zn5,refl→Zn1
open List renaming map_cons→Zou,map_nil→ZoE,length_cons→Zox,getD_cons_zero→ZoP,getD_cons_succ→ZoQ,getD_nil→ZoR,all_cons→ZoT,drop→ZnZ,set_cons_zero→Zo1,set_cons_succ→Zo0,drop_zero→ZoB,drop_eq_getElem_cons→Zoz,drop_eq_nil_of_le→Zop,getElem_mem→Zn9,length_append→Zow
open Nat renaming reduceEqDiff→ZnW,reduceLT→ZnY,reduceAdd→Zn7,succ_ne_self→ZoD,zero_add→Zot,le_refl→Zoc,reduceMul→Zor,reduceLeDiff→Zof
open Option renaming bind_some→Zol,map_some→Zog,map_none→ZoC
set_option maxRecDepth 20000
set_option maxHeartbeats 4000000
namespace Go.PV.YtglpmlbbaedbiaaGreat
open Go Go.Proofs
mutual
theorem Ex.put_nil:∀ e:Ex,e.put []=e
 | .mk op n ks=>by
   rw [Ex.put,List.filter_nil,ite_self,ZgG ks]
   have:(if op=1 then lastB [] n else none)=none:=by split<;>rfl
   rw [this]
theorem ZgG:∀ l:List Ex,Zdv l []=l
 | []=>rfl
 | k :: ks=>by rw [Zdv,Ex.put_nil k,ZgG ks]
end
theorem Zc8 (e:Ex) (hs:e.sz≤1099511627776):PureF Tryz.prog 38 [exV e] (exV e):=by
 have hp:=Zl4 (e.sz + 1) e [] (by omega) hs (by simp);rw [e.put_nil] at hp;refine Xo.pure fun H0=>?_
 refine ZN fd38 (by simp) ?_;delta c38 Zj Zi Zb Zo Zr Zg
 (repeat' (first | (refine YM (Zod (Zoq _ _) (Zod (GhV.nil _) (GhL.nil _))) (Zn3 hp ?_)) | (simp only [↓WV,↓WW,↓Zck,↓WX,↓Xe,↓Xf,↓XK,↓XL,↓Zax,↓XM,↓Zay,↓XN,↓We,↓JR,↓ZL,↓Wf,↓JO,↓Jg,↓Zbp,↓WD,↓XY,ptrV,Zou,ZoE,Zox,List.length_nil,ZoP,ZoQ,ZoR,ite_true,ite_false,ZnW,ZnY,Zn7,true_and,ZoD,ZM,Zn8,AH.set_set,setAt,ZoT,List.all_nil,Bool.and_self,eq_self,Zot,ZnZ,Xt,ZbN,Zcm,WB,Zaq,Zo1,Zo0,↓Jh,Wv,↓Zbq,Zoc,JC,JD,Jo,ZdW,ZdX,undef,Yt,YD,Ys,ZnM, *]) | (refine ZK fun zr zh=>?_; have zg:=zh; (try simp only [Zn2] at zg))))
 rename_i r1 n1 n1';refine Za9 Yt (by simp only [ZL,ZnW,if_true,if_false, *]<;>rfl) (Zn4 _ _ _) (by rw [ZoB]; exact Xt _ _ _ _) ?_;refine ⟨_,rfl,Zoi ((Zn5 n1).of_set zg.2) _⟩
mutual
def Pa.parts:Pa→Ex→List Bd→List Bd × Bool
 | .mk c n ks,e,l=>if c=true then (if e.op=3∧e.name=n∧e.kids.length=ks.length then Yu ks e.kids l else (l,false)) else (l ++ [(n,e)],true)
def Yu:List Pa→List Ex→List Bd→List Bd × Bool
 | [],_,l=>(l,true)
 | p :: ps,e :: es,l=>match p.parts e l with
   | (l',true)=>Yu ps es l'
   | (l',false)=>(l',false)
 | _ :: _,[],l=>(l,false)
end
theorem Pa.parts_eq (p:Pa) (e:Ex) (l:List Bd):p.parts e l=if p.con=true then (if e.op=3∧e.name=p.name∧e.kids.length=p.kids.length then Yu p.kids e.kids l else (l,false)) else (l ++ [(p.name,e)],true):=by
 cases p; rw [Pa.parts]; rfl
mutual
theorem Pa.parts_len:∀ (p:Pa) (e:Ex) (l:List Bd),(p.parts e l).1.length≤l.length + p.sz
 | .mk c n ks,e,l=>by
   have:=ZbT ks e.kids l
   rw [Pa.parts,Pa.sz];split
   ·split
    ·omega
    ·simp
   ·simp
theorem ZbT:∀ (ps:List Pa) (es:List Ex) (l:List Bd),(Yu ps es l).1.length≤l.length + pasSz ps
 | [],_,l=>by simp [Yu]
 | p :: ps,e :: es,l=>by
   have h1:=Pa.parts_len p e l;rw [Yu,pasSz];split
   ·rename_i l' h;have h2:=ZbT ps es l';rw [h] at h1;simp only at h1;omega
   ·rename_i l' h;rw [h] at h1;simp only at h1 ⊢;omega
 | _ :: _,[],l=>by simp [Yu]
end
theorem Zdz {ps:List Pa} {es:List Ex} {l:List Bd} {i:Nat} (h:i < ps.length) (h':i < es.length):Yu (ps.drop i) (es.drop i) l=if (ps[i].parts es[i] l).2=true then Yu (ps.drop (i + 1)) (es.drop (i + 1)) (ps[i].parts es[i] l).1 else (ps[i].parts es[i] l):=by
 rw [Zoz h,Zoz h',Yu];generalize ps[i].parts es[i] l=r;obtain ⟨l',b⟩:=r;cases b<;>rfl
abbrev prtV (r:List Bd × Bool):VV:=.tuple [bdsV r.1,bV r.2]
def prQ (H0:AH) (R:List Bd × Bool):APost:=YW Tryz.prog [.tmp 6,.tmp 7] fun e H'=>∃ y,e=VE.ret y∧GhV H' y H0 (prtV R)
theorem Zd4 {H0 H:AH} {t:Nat→VV} {ps:List Pa} {es:List Ex} {l:List Bd} {b:Bool} {r3 r4:Nat} {x0 x1 y0 y1:VV} {R:List Bd × Bool} (hN:ps.length≤1099511627776) (hbl:b=true→es.length=ps.length) (hl:l.length + pasSz ps≤1099511627776)
 (ih':∀ i (h:i < ps.length) (h':i < es.length) (l:List Bd),l.length + ps[i].sz≤1099511627776→PureF Tryz.prog 105 [paV ps[i],exV es[i],bdsV l] (prtV (ps[i].parts es[i] l)))
 (hR:R=if b=true then Yu ps es l else (l,false)) (h2:t 2=bdsV l) (h3:t 3=ptrV r3 0) (h4:t 4=ptrV r4 0) (h8:t 8=bV b) (h9:t 9=iV 0)
 (k3:H r3=some (.cells 74 [x0,x1,encS paE ps] 0)) (k4:H r4=some (.cells 35 [y0,y1,encS exE es] 0)) (hs:SubH H0 H) :
 ACx ⟨Tryz.prog,72,none⟩ (.loop Zjv) (YX 0 (thenA (ACx ⟨Tryz.prog,72,none⟩ ZhF (prQ H0 R)) (prQ H0 R))) ⟨t,[]⟩ H:=by
 refine ZW (fun _ _ _ h=>h) (fun A H'=>H'=H∧A.d=[]∧A.t 3=ptrV r3 0∧A.t 4=ptrV r4 0∧∃ (i:Nat) (m:List Bd) (b:Bool),i≤ps.length∧A.t 9=iV i∧A.t 2=bdsV m∧A.t 8=bV b∧(b=true→es.length=ps.length∧m.length + pasSz (ps.drop i)≤1099511627776)∧R=if b=true then Yu (ps.drop i) (es.drop i) m else (m,false))
  (fun A _=>match A.t 9 with | .lit (.int _ i)=>((ps.length:Int) - i).toNat | _=>0) ?_ ?_
 ·exact ⟨rfl,rfl,h3,h4,0,l,b,by omega,h9,h2,h8,fun h=>⟨hbl h,hl⟩,hR⟩
 ·clear hbl hR h2 h3 h4 h8 h9 hl;rintro ⟨t,d⟩ H' ⟨rfl,rfl,h3,h4,i,m,b,hi,h9,h2,h8,hb,hR⟩;dsimp only at h2 h3 h4 h8 h9;cases b with
  | false =>
    simp only [ZoS,if_false] at hR;subst hR;clear hb;delta Zjv Za Zd Zb Ze Zn Zp Zr Zq Zk Zo Zh Zc Zm;by_cases hlt:i < ps.length
    ·(repeat' (first | (simp only [↓ZI,ZJ,ptrV,intV,ZnW,ZnY,reduceCtorEq,ZnZ,Wk,WL,XU, *]) | (refine Ya rfl (fun _ _ _ h=>h) ?_)))
     delta ZhF Za Zc
     (repeat' (first | (simp only [↓ZI,ZJ,ZnW,ZnY, *])))
     exact Yk rfl (by simp only [resV,YO,YN,ZL,ZnW,if_true,if_false,Zol,Zog,tupV, *]<;>rfl) ⟨_,rfl,Zoi hs _⟩
    ·(repeat' (first | (simp only [↓ZI,ZJ,ptrV,intV,ZnW,ZnY,reduceCtorEq,ZU,ZM,ZnZ,undef,Wk,WL,XU, *]) | (refine Ya rfl (fun _ _ _ h=>h) ?_)))
     delta ZhF Za Zc
     (repeat' (first | (simp only [↓ZI,ZJ,ZnW,ZnY, *])))
     exact Yk rfl (by simp only [resV,YO,YN,ZL,ZnW,if_true,if_false,Zol,Zog,tupV, *]<;>rfl) ⟨_,rfl,Zoi hs _⟩
  | true =>
    obtain ⟨hel,hml⟩:=hb rfl;simp only [if_true] at hR;clear hb;delta Zjv Za Zd Zb Ze Zn Zp Zr Zq Zk Zo Zh Zc Zm;by_cases hlt:i < ps.length
    ·have hlt':i < es.length:=by omega
     rw [Zdz hlt hlt'] at hR;have hd:=Jp hlt;have hil:(i:Int) < (ps.length:Int):=by omega
     have hil':(i:Int) < (es.length:Int):=by omega
     have hc:=ih' i hlt hlt' m (by omega);have hpl:=Pa.parts_len ps[i] es[i] m;generalize ps[i].parts es[i] m=r at *
     obtain ⟨m',b'⟩:=r;simp only at hpl;have hnew:=Zn0 (show m'.length + pasSz (ps.drop (i + 1))≤1099511627776 by omega);replace hR:=Zn0 hR;clear hd hml ih'
     (repeat' (first | (simp only [↓ZI,ZJ,ZV,ptrV,intV,ZnW,ZnY,reduceCtorEq,ZnZ,XQ,XB,Wk,Yj,WL,Wn,Yz,Yt,XU,Yn,en_105, *]) | (refine ZS mixed (fun _ _ _ _ e h=>⟨e.trans h.1,h.2⟩) _ (Zn1 _) ?_) | (exact Zn1 _) | (refine Zn3 (hc) ?_) | (with_reducible refine And.intro ?_ ?_)))
     all_goals rw [ZR (n:=(i:Int) + 1) (by omega) (by omega)]
     ·exact ⟨i + 1,m',b',by omega,rfl,rfl,rfl,fun _=>hnew.out,by rw [hR.out]; cases b'<;>rfl⟩
     ·omega
    ·rw [Zop (by omega)] at hR;simp only [Yu] at hR;subst hR
     (repeat' (first | (simp only [↓ZI,ZJ,ptrV,intV,ZnW,ZnY,reduceCtorEq,ZU,ZM,ZnZ,undef,Wk,WL,XU, *]) | (refine Ya rfl (fun _ _ _ h=>h) ?_)))
     delta ZhF Za Zc
     (repeat' (first | (simp only [↓ZI,ZJ,ZnW,ZnY, *])))
     exact Yk rfl (by simp only [resV,YO,YN,ZL,ZnW,if_true,if_false,Zol,Zog,tupV, *]<;>rfl) ⟨_,rfl,Zoi hs _⟩
theorem parts_ok:∀ (n:Nat) (p:Pa) (e:Ex) (l:List Bd),p.sz < n→e.sz≤1099511627776→l.length + p.sz≤1099511627776→PureF Tryz.prog 105 [paV p,exV e,bdsV l] (prtV (p.parts e l)):=by
 intro n
 induction n with
 | zero=>intro p e l h; omega
 | succ n ih =>
   intro p e l h0 hs hl;have z1:=p.sz_eq;have z2:=e.sz_eq;have hkl:=YZ p.kids;have hel:=YC e.kids;have ih':∀ i (h:i < p.kids.length) (h':i < e.kids.length) (l:List Bd),l.length + p.kids[i].sz≤1099511627776→PureF Tryz.prog 105 [paV p.kids[i],exV e.kids[i],bdsV l] (prtV (p.kids[i].parts e.kids[i] l)):=fun i h h' l hl=>ih _ _ l (by have:=YP (Zn9 h); omega) (by have:=Yl (Zn9 h'); omega) hl
   have hcp:=Zc8 e hs;refine Xo.pure fun H0=>?_
   refine ZN fd105 (by simp) ?_;delta c105 Zj Zq Zd Zb Zr Za Ze Zo Zl Zc Zm Zp Zf;rw [p.parts_eq];by_cases hc:p.con=true
   ·rw [if_pos hc];clear hcp;obtain ⟨R,hR⟩:∃ R,R=(if e.op=3∧e.name=p.name∧e.kids.length=p.kids.length then Yu p.kids e.kids l else (l,false)):=⟨_,rfl⟩
    rw [← hR];obtain ⟨b0,hb0⟩:∃ b0:Bool,b0=(decide (e.op=3) && (decide (e.name=p.name) && decide (e.kids.length=p.kids.length))):=⟨_,rfl⟩
    have hR':R=if b0=true then Yu p.kids e.kids l else (l,false):=by
     rw [hR,hb0];by_cases h1:e.op=3<;>by_cases h2:e.name=p.name<;>by_cases h3:e.kids.length=p.kids.length<;>simp [h1,h2,h3]
    have hbl:b0=true→e.kids.length=p.kids.length:=fun h=>by rw [hb0] at h; simp at h; exact h.2.2
    clear hR;replace hb0:=Zn0 hb0;replace hR':=Zn0 hR';replace hbl:=Zn0 hbl;have hkN:p.kids.length≤1099511627776:=by omega
    have hzl:=Zn0 (show l.length + pasSz p.kids≤1099511627776 by omega);clear hl hs z1 z2 hkl hel h0
    (repeat' (first | (simp only [↓ZI,ZJ,↓Xd,ptrV,intV,ZnW,ZnY,reduceCtorEq,ZU,ZM,ZnZ,undef,Wk,Yj,ZcK,Jl,Yg,Yw,WL,Yz,JQ,Ye,Yc,XU,Yn, *]) | (refine WP ?_ ?_<;>intro) | (refine ZK fun zr zh=>?_; have zg:=zh; (try simp only [Zn2] at zg))))
    all_goals have z3:=zg.2
    ·rename_i r1 n1 n1' _ _;refine Zd4 (ps:=p.kids) (es:=e.kids) (l:=l) (b:=b0) (r3:=r1) (r4:=zr) hkN hbl.out hzl.out ih' hR'.out (by simp only [ZL,ZnW,if_false, *]<;>rfl) (by simp only [ZL,ZnW,if_true,if_false, *]<;>rfl) (by simp only [ZL,ZnW,if_true,if_false, *]<;>rfl) ?_ (by simp only [ZL,ZnW,if_true,if_false, *]<;>rfl) (by simp only [Zn8, *,if_true,if_false]<;>rfl) (Zn4 _ _ _) ((Zn5 n1).of_set zg.2);simp only [ZL,ZnW,if_true,if_false];rw [hb0.out];simp [*];omega
    ·rename_i r1 n1 n1' _ _;refine Zd4 (ps:=p.kids) (es:=e.kids) (l:=l) (b:=b0) (r3:=r1) (r4:=zr) hkN hbl.out hzl.out ih' hR'.out (by simp only [ZL,ZnW,if_false, *]<;>rfl) (by simp only [ZL,ZnW,if_true,if_false, *]<;>rfl) (by simp only [ZL,ZnW,if_true,if_false, *]<;>rfl) ?_ (by simp only [ZL,ZnW,if_true,if_false, *]<;>rfl) (by simp only [Zn8, *,if_true,if_false]<;>rfl) (Zn4 _ _ _) ((Zn5 n1).of_set zg.2);simp only [ZL,ZnW,if_true,if_false];rw [hb0.out];simp [*]
    ·rename_i r1 n1 n1' _;refine Zd4 (ps:=p.kids) (es:=e.kids) (l:=l) (b:=b0) (r3:=r1) (r4:=zr) hkN hbl.out hzl.out ih' hR'.out (by simp only [ZL,ZnW,if_false, *]<;>rfl) (by simp only [ZL,ZnW,if_true,if_false, *]<;>rfl) (by simp only [ZL,ZnW,if_true,if_false, *]<;>rfl) ?_ (by simp only [ZL,ZnW,if_true,if_false, *]<;>rfl) (by simp only [Zn8, *,if_true,if_false]<;>rfl) (Zn4 _ _ _) ((Zn5 n1).of_set zg.2);simp only [ZL,ZnW,if_true,if_false];rw [hb0.out];simp [*]
   ·have hc':p.con=false:=by simpa using hc
    rw [if_neg hc];have hb1:(l.length + 1) * 72≤140737488355328:=by omega
    clear ih' z1 z2 hkl hel hc h0
    (repeat' (first | (simp only [↓ZI,ZJ,ptrV,intV,ZnW,ZnY,Zn7,Zor,Zof,reduceCtorEq,ZM,ZX,fillV,setAt,ZnZ,forall_const,undef,ZQ,YB,ZoC,Zog,YV,idxV,idxOk,ZQ,ZcK,Jl,Yt,JQ,Ye,WH,Zmj,Jd,ZnK, *]) | (refine ZS mixed (fun _ _ _ _ e h=>⟨e.trans h.1,h.2⟩) _ (Zn1 _) ?_) | (refine ZK fun zr zh=>?_; have zg:=zh; (try simp only [Zn2] at zg)) | (exact Zn1 _) | (refine Zn3 (hcp) ?_) | (with_reducible refine And.intro ?_ ?_)))
    ·omega
    ·rw [show (l.length == l.length)=true from by simp,Nat.sub_zero];rename_i r1 n1 n1';refine Zek Jd WH rfl (by omega) (Wb (enc:=bdE) (k:=4) (fun _=>rfl) l) rfl rfl (by omega) (by omega) (fun v' H' ho=>?_)
     (repeat' (first | (simp only [↓ZI,ZJ,ZnW,ZnY, *])))
     refine Yk rfl (by simp only [resV,YO,YN,ZL,ZnW,if_true,if_false,Zol,Zog,tupV, *]<;>rfl) ⟨_,rfl,?_⟩;refine GhV.tuple (Zod ?_ (Zod (Zoq _ _) (GhL.nil _)))
     have:=GhV.back ho ((Zn5 n1).of_set zg.2)
     rw [show encC bdE l ++ [VV.lit (.string p.name),iV e.op,sV e.name,encS exE e.kids]=encC bdE (l ++ [(p.name,e)]) from by rw [Yo]; rfl] at this;show GhV _ _ _ (.slice false (l ++ [(p.name,e)]).length _);rw [Zow];exact this
end Go.PV.YtglpmlbbaedbiaaGreat
end
section
open Bool renaming false_eq_true→ZoS
open Go.PV.AH renaming set_none→Zn2,ne_of→ZnX,set_same→Zn4,get→Zn8
open Go.PV.GhL renaming cons→Zod
open Go.PV.GhV renaming refl→Zoq,forget→Zoi
open Go.PV.Hold renaming mk→Zn0
open Go.PV.PureF renaming use→Zn3
open Go.PV.SubH renaming refl→Zn1,new→Zn5,of_set→Zn6
open List renaming drop_zero→ZoB,drop_eq_getElem_cons→Zoz,getElem_mem→Zn9,drop→ZnZ,drop_eq_nil_of_le→Zop
open Nat renaming reduceEqDiff→ZnW,reduceLT→ZnY,reduceAdd→Zn7
open Option renaming bind_some→Zol,map_some→Zog
set_option maxRecDepth 20000
set_option maxHeartbeats 4000000
namespace Go.PV.YtglpmlbbaedbiaaGreat
open Go Go.Proofs
def zEx:Ex:=.mk 0 { data:=#[] } []
def XV (n:Int):List Cl→Int
 | []=>0
 | c :: l=>if (c.pats.length:Int)=n then (if (ZT c.pats).Nodup then XV n l else 10) else 5
def selGo (vs:List Ex):List Cl→Nat→Int × Ex × Int
 | [],_=>(0,zEx,420)
 | c :: l,i=>if (Yu c.pats vs []).2=true then ((i:Int),c.body.put (Yu c.pats vs []).1,0) else selGo vs l (i + 1)
def Yy (f:Fu) (vs:List Ex):Int × Ex × Int :=
 if (vs.length:Int)=f.arity then (if XV f.arity f.cls=0 then selGo vs f.cls 0 else (0,zEx,XV f.arity f.cls)) else (0,zEx,5)
abbrev selV (r:Int × Ex × Int):VV:=.tuple [iV r.1,exV r.2.1,iV r.2.2]
def slQ (H0:AH) (R:Int × Ex × Int):APost:=YW Tryz.prog [.tmp 4,.cell 5 35,.tmp 6] fun e H'=>∃ y,e=VE.ret y∧GhV H' y H0 (selV R)
theorem ZhJ {H0 H:AH} {t:Nat→VV} {r sp:Nat} {k c:Int} {a b d:VV} {e':TypeId} {x:Ex} (h4:t 4=iV k) (h5:t 5=ptrV r 0) (h6:t 6=iV c) (k5:H r=some (.cells e' [a,b,d] sp)) (hg:GhV H (.agg [a,b,d]) H0 (exV x)):slQ H0 (k,x,c) .ret ⟨t,[]⟩ H:=by
 refine Yk rfl (x:=.tuple [iV k,.agg [a,b,d],iV c]) (by simp only [resV,YO,YN,Yt,h4,h5,h6,k5,ptrV,ZoB,Xt,Zol,Zog,tupV]) ⟨_,rfl,?_⟩
 have h1:GhL H [iV k,.agg [a,b,d],iV c] H0 [iV k,exV x,iV c]:=by
  refine Zod (Zoq _ _) (Zod hg (Zod (Zoq _ _) (GhL.nil _)))
 exact GhV.tuple h1
theorem Jj {H0 H:AH} (hs:SubH H0 H):GhV H (.agg [iV 0,sV { data:=#[] },.lit (.slice none 0 0)]) H0 (exV zEx) :=
 GhV.agg (Zod (Zoq _ _) (Zod (Zoq _ _) (Zod ((GhV.nil _).trans (Zoi hs _)) (GhL.nil _))))
theorem ZfD {n:Int} {l:List Cl} {i:Nat} (h:i < l.length):XV n (l.drop i)=if (l[i].pats.length:Int)=n then (if (ZT l[i].pats).Nodup then XV n (l.drop (i + 1)) else 10) else 5:=by rw [Zoz h,XV]
theorem Zlg {vs:List Ex} {l:List Cl} {i k:Nat} (h:i < l.length):selGo vs (l.drop i) k=if (Yu l[i].pats vs []).2=true then ((k:Int),l[i].body.put (Yu l[i].pats vs []).1,0) else selGo vs (l.drop (i + 1)) (k + 1):=by rw [Zoz h,selGo]
theorem ZcC {n:Int}:∀ {l:List Cl},XV n l=0→∀ c∈l,(c.pats.length:Int)=n∧(ZT c.pats).Nodup
 | c :: l,h=>by
   rw [XV] at h;split at h
   ·rename_i h1;split at h
    ·rename_i h2;intro x hx;rcases List.mem_cons.1 hx with rfl | hx
     ·exact ⟨h1,h2⟩
     ·exact ZcC h x hx
    ·cases h
   ·cases h
 | [],_=>by simp
theorem sel_loop {H0 H:AH} {t:Nat→VV} {cls:List Cl} {vs:List Ex} {r5:Nat} {R:Int × Ex × Int} (hN:clsSz cls≤1099511627776) (hv:vs.length≤1099511627776) (hvs:∀ e∈vs,e.sz≤1099511627776) (hp:∀ c∈cls,c.pats.length=vs.length)
 (hR:R=selGo vs cls 0) (h1:t 1=exsV vs) (h5:t 5=ptrV r5 0) (h41:t 41=clsV cls) (h42:t 42=iV cls.length) (h43:t 43=iV 0)
 (k5:H r5=some (.cells 35 Zx 0)) (n5:H0 r5=none) (hs:SubH H0 H) :
 ACx ⟨Tryz.prog,79,none⟩ (.loop b66_3) (YX 2 (thenA (ACx ⟨Tryz.prog,79,none⟩ c66_3 (slQ H0 R)) (slQ H0 R))) ⟨t,[]⟩ H:=by
 have hcl:=ZaZ ZbO cls;have hclN:cls.length≤1099511627776:=by unfold clsSz at hN; omega
 have hb:∀ i (h:i < cls.length),clSz cls[i]≤1099511627776:=fun i h=>by have h1:=WF (f:=clSz) (Zn9 h); unfold clsSz at hN; omega
 have hbp:∀ i (h:i < cls.length) (l:List Bd),l.length≤1099511627776→PureF Tryz.prog 65 [exV cls[i].body,bdsV l] (exV (cls[i].body.put l)):=fun i h l hl=>Zl4 _ _ l (Nat.lt_succ_self _) (by have h1:=hb i h; unfold clSz at h1; omega) hl
 have hpp:∀ i (h:i < cls.length) k (h':k < cls[i].pats.length) (h'':k < vs.length) (l:List Bd),l.length + cls[i].pats[k].sz≤1099511627776→PureF Tryz.prog 105 [paV cls[i].pats[k],exV vs[k],bdsV l] (prtV (cls[i].pats[k].parts vs[k] l)):=fun i h k h' h'' l hl =>
  parts_ok _ _ _ l (Nat.lt_succ_self _) (hvs _ (Zn9 _)) hl
 have hpz:∀ i (h:i < cls.length),pasSz cls[i].pats≤1099511627776∧cls[i].pats.length=vs.length:=fun i h=>⟨by have h1:=hb i h; unfold clSz at h1; omega,hp _ (Zn9 _)⟩
 clear hcl hN hb hvs hp
 refine ZW (fun _ _ _ h=>h) (fun A H'=>SubH H0 H'∧H' r5=some (.cells 35 Zx 0)∧A.d=[]∧A.t 1=exsV vs∧A.t 5=ptrV r5 0∧A.t 41=clsV cls∧A.t 42=iV cls.length∧∃ i:Nat,i≤cls.length∧A.t 43=iV i∧R=selGo vs (cls.drop i) i)
  (fun A _=>match A.t 43 with | .lit (.int _ i)=>((cls.length:Int) - i).toNat | _=>0) ?_ ?_
 ·exact ⟨hs,k5,rfl,h1,h5,h41,h42,0,by omega,h43,hR⟩
 ·clear hs k5 h1 h5 h41 h42 h43 hR;rintro ⟨t,d⟩ H ⟨hs,k5,rfl,h1,h5,h41,h42,i,hi,h43,hR⟩;dsimp only at h1 h5 h41 h42 h43;replace hR:=Zn0 hR;delta b66_3 Zn Zr Za Zk Zb Zi Zc Zg Zq Zf
  (repeat' (first | (simp only [↓ZI,ZJ,ptrV,ZnW,ZnY,Zn7,setAt,ZaY,Zjr,Zjq,ZbE,Zch, *]) | (refine ZY ?_ ?_<;>intro) | (refine ZK fun zr zh=>?_; have zg:=zh; (try simp only [Zn2] at zg); (try have zn_k5:=ZnX k5 zh); (try have zn_k5:=ZnX k5 zg.2); (try have zn_k5:=ZnX k5 zg.2.2))))
  ·have hlt:i < cls.length:=by assumption
   obtain ⟨hpz1,hpz2⟩:=hpz i hlt;have hpp':=hpp i hlt;have hbp':=hbp i hlt;have hg:=Zlg (vs:=vs) (k:=i) hlt;have hpn:=YZ cls[i].pats;clear hpp hbp hpz;refine XI (Ghost.slot (i:=11) (x':=bdsV []) (by simp only [ZL,ZnW,if_true,if_false]; exact GhV.nil _)) ?_;obtain ⟨X,hX⟩:∃ X,X=Yu cls[i].pats vs []:=⟨_,rfl⟩
   rw [← hX] at hg;have hXl:X.1.length≤1099511627776:=by have:=ZbT cls[i].pats vs []; rw [hX]; simp only [List.length_nil] at this; omega
   have sH:SubH H0 (H.set zr (.cells 78 [pasV cls[i].pats,iV cls[i].body.op,sV cls[i].body.name,exsV cls[i].body.kids] 0)):=hs.of_set (hs.none zh);have q10:(H.set zr (.cells 78 [pasV cls[i].pats,iV cls[i].body.op,sV cls[i].body.name,exsV cls[i].body.kids] 0)) zr=some (.cells 78 [pasV cls[i].pats,iV cls[i].body.op,sV cls[i].body.name,exsV cls[i].body.kids] 0):=Zn4 _ _ _;have q5:(H.set zr (.cells 78 [pasV cls[i].pats,iV cls[i].body.op,sV cls[i].body.name,exsV cls[i].body.kids] 0)) r5=some (.cells 35 Zx 0):=(by simp only [Zn8, *,if_false]<;>rfl)
   generalize H.set zr (.cells 78 [pasV cls[i].pats,iV cls[i].body.op,sV cls[i].body.name,exsV cls[i].body.kids] 0)=Hy at *
   refine ZW (fun _ _ _ h=>h) (fun A H'=>H'=Hy∧A.d=[]∧A.t 1=exsV vs∧A.t 5=ptrV r5 0∧A.t 9=iV i∧A.t 10=ptrV zr 0∧A.t 41=clsV cls∧A.t 42=iV cls.length∧A.t 43=iV i∧∃ (k:Nat) (m:List Bd) (b:Bool),k≤vs.length∧A.t 13=iV k∧A.t 11=bdsV m∧A.t 12=bV b∧(b=true→m.length + pasSz (cls[i].pats.drop k)≤1099511627776)∧X=if b=true then Yu (cls[i].pats.drop k) (vs.drop k) m else (m,false))
    (fun A _=>match A.t 13 with | .lit (.int _ i)=>((vs.length:Int) - i).toNat | _=>0) ?_ ?_
   ·exact ⟨rfl,rfl,(by simp only [ZL,ZnW,if_false, *]<;>rfl),(by simp only [ZL,ZnW,if_false, *]<;>rfl),(by simp only [ZL,ZnW,if_true,if_false, *]<;>rfl),(by simp only [ZL,ZnW,if_true,if_false, *]<;>rfl),(by simp only [ZL,ZnW,if_false, *]<;>rfl),(by simp only [ZL,ZnW,if_false, *]<;>rfl),(by simp only [ZL,ZnW,if_false, *]<;>rfl),0,[],true,by omega,(by simp only [ZL,ZnW,if_true,if_false, *]<;>rfl),by simp only [ZL,ZnW,if_true,if_false],(by simp only [ZL,ZnW,if_true,if_false, *]<;>rfl),fun _=>by simpa using hpz1,hX⟩
   ·clear h1 h5 h41 h42 h43 hX zh zg zn_k5 k5 hs;rintro ⟨t,d⟩ H' ⟨rfl,rfl,h1,h5,h9,h10,h41,h42,h43,k,m,b,hk,h13,h11,h12,hb,hX⟩;dsimp only at h1 h5 h9 h10 h41 h42 h43 h13 h11 h12;have fin:∀ (t:Nat→VV),t 1=exsV vs→t 5=ptrV r5 0→t 9=iV i→t 10=ptrV zr 0→t 41=clsV cls→t 42=iV cls.length→t 43=iV i→t 11=bdsV X.1→t 12=bV X.2→True:=fun _ _ _ _ _ _ _ _ _ _=>trivial
    clear fin;cases b with
    | false =>
      simp only [ZoS,if_false] at hX;subst hX;clear hb;delta b66_2 Za Ze Zn Zp Zr Zq Zd Zb Zk Zo Zh Zc Zm;have hg2:R=selGo vs (cls.drop (i + 1)) (i + 1):=by rw [hR.out,hg]; simp
      replace hg2:=Zn0 hg2;clear hg hR;by_cases hkl:k < vs.length
      ·(repeat' (first | (simp only [↓ZI,ZJ,ptrV,intV,ZnW,ZnY,reduceCtorEq,Yn, *]) | (refine Ya rfl (fun _ _ _ h=>h) ?_)))
       delta ZnO Za Zr Zd Zb Zo Zc Zg Zf
       (repeat' (first | (simp only [↓ZI,ZJ,ZnW,ZnY, *]) | (refine Ya rfl (fun _ _ _ h=>h) ?_)))
       delta c66_2 Zm Za
       (repeat' (first | (simp only [↓ZI,ZJ,ptrV,ZnW,ZnY, *]) | (with_reducible refine And.intro ?_ ?_)))
       all_goals rw [ZR (n:=(i:Int) + 1) (by omega) (by omega)]
       ·exact ⟨i + 1,by omega,rfl,hg2.out⟩
       ·omega
      ·(repeat' (first | (simp only [↓ZI,ZJ,ptrV,intV,ZnW,ZnY,reduceCtorEq,ZU,ZM,undef,Yn, *]) | (refine Ya rfl (fun _ _ _ h=>h) ?_)))
       delta ZnO Za Zr Zd Zb Zo Zc Zg Zf
       (repeat' (first | (simp only [↓ZI,ZJ,ZnW,ZnY, *]) | (refine Ya rfl (fun _ _ _ h=>h) ?_)))
       delta c66_2 Zm Za
       (repeat' (first | (simp only [↓ZI,ZJ,ptrV,ZnW,ZnY, *]) | (with_reducible refine And.intro ?_ ?_)))
       all_goals rw [ZR (n:=(i:Int) + 1) (by omega) (by omega)]
       ·exact ⟨i + 1,by omega,rfl,hg2.out⟩
       ·omega
    | true =>
      have hml:=hb rfl;simp only [if_true] at hX;clear hb;delta b66_2 Za Ze Zn Zp Zr Zq Zd Zb Zk Zo Zh Zc Zm;by_cases hkl:k < vs.length
      ·have hkp:k < cls[i].pats.length:=by omega
       rw [Zdz hkp hkl] at hX;have hd:=Jp hkp;have hi1:(k:Int) < (vs.length:Int):=by omega
       have hi2:(k:Int) < (cls[i].pats.length:Int):=by omega
       have hc:=hpp' k hkp hkl m (by omega);have hpl:=Pa.parts_len cls[i].pats[k] vs[k] m;generalize cls[i].pats[k].parts vs[k] m=r at *
       obtain ⟨m',b'⟩:=r;simp only at hpl;have hnew:=Zn0 (show m'.length + pasSz (cls[i].pats.drop (k + 1))≤1099511627776 by omega);replace hX:=Zn0 hX;replace hg:=Zn0 hg;clear hd hml hpp' hpz1 hpz2 hpn
       (repeat' (first | (simp only [↓ZI,ZJ,ZV,ptrV,intV,ZnW,ZnY,reduceCtorEq,ZnZ,XQ,XB,Za7,WL,Wn,Yt,XU,Yn,en_105, *]) | (refine ZS mixed (fun _ _ _ _ e h=>⟨e.trans h.1,h.2⟩) _ (Zn1 _) ?_) | (exact Zn1 _) | (refine Zn3 (hc) ?_) | (with_reducible refine And.intro ?_ ?_)))
       all_goals rw [ZR (n:=(k:Int) + 1) (by omega) (by omega)]
       ·exact ⟨k + 1,m',b',by omega,rfl,rfl,rfl,fun _=>hnew.out,by rw [hX.out]; cases b'<;>rfl⟩
       ·omega
      ·rw [Zop (by omega)] at hX;simp only [Yu] at hX;subst hX;have hg2:R=((i:Int),cls[i].body.put m,0):=by rw [hR.out,hg]; simp
       have hbc:=hbp' m hXl;have hg2:=Zn0 hg2;clear hg hR
       (repeat' (first | (simp only [↓ZI,ZJ,ptrV,intV,ZnW,ZnY,reduceCtorEq,ZU,ZM,undef,Yn, *]) | (refine Ya rfl (fun _ _ _ h=>h) ?_)))
       delta ZnO Za Zr Zd Zb Zo Zc Zg Zf
       (repeat' (first | (simp only [↓ZI,ZJ,ptrV,ZnW,ZnY,Zn7,reduceCtorEq,setAt,ZnZ,Zx,Zkj,Yt,YD,ZnM, *]) | (refine Zn3 (hbc) ?_)))
       exact ZhJ (by simp only [ZL,ZnW,if_true,if_false, *]<;>rfl) (by simp only [ZL,ZnW,if_false, *]<;>rfl) (by simp only [ZL,ZnW,if_true,if_false, *]<;>rfl) (Zn4 _ _ _) (Zoi (sH.of_set n5) _)
  ·have hie:i=cls.length:=by omega
   subst hie;have hg2:R=(0,zEx,420):=by rw [hR.out,Zop (by omega)]; rfl
   rw [hg2];refine Ya rfl (fun _ _ _ h=>h) ?_;clear hR hg2;delta c66_3 Zq Zf Zg
   (repeat' (first | (simp only [↓ZI,ZJ,ptrV,ZnW,ZnY,Zn7,ZX,fillV,setAt,Zx,YD,WJ, *])))
   exact ZhJ (by simp only [ZL,ZnW,if_true,if_false, *]<;>rfl) (by simp only [ZL,ZnW,if_false, *]<;>rfl) (by simp only [ZL,ZnW,if_true,if_false, *]<;>rfl) (Zn4 _ _ _) (Jj (hs.of_set n5))
theorem Zir (f:Fu) (vs:List Ex) (hf:fuSz f≤1099511627776) (hv:vs.length≤1099511627776) (hvs:∀ e∈vs,e.sz≤1099511627776) (hn:∀ c∈f.cls,∀ s∈ZT c.pats,s.size≤maxLen) :
 PureF Tryz.prog 66 [fuV f,exsV vs] (selV (Yy f vs)):=by
 refine Xo.pure fun H0=>?_
 show Yh Tryz.prog _ _ H0 _;refine ZN fd66 (by simp) ?_;show vc _ _ (slQ H0 (Yy f vs)) _ _;obtain ⟨R,hR⟩:∃ R,R=Yy f vs:=⟨_,rfl⟩
 rw [← hR];have hN:clsSz f.cls≤1099511627776:=by unfold fuSz at hf; omega
 have hcl:=ZaZ ZbO f.cls;have hclN:f.cls.length≤1099511627776:=by unfold clsSz at hN; omega
 have hb:∀ i (h:i < f.cls.length),pasSz f.cls[i].pats≤1099511627776:=fun i h=>by have h1:=WF (f:=clSz) (Zn9 h); have h2:clSz f.cls[i]=1 + pasSz f.cls[i].pats + f.cls[i].body.sz:=rfl; unfold clsSz at hN; omega
 have hnm:∀ i (h:i < f.cls.length),PureF Tryz.prog 104 [pasV f.cls[i].pats] (strsV (ZT f.cls[i].pats)):=fun i h=>names_ok _ _ (Nat.lt_succ_self _) (hb i h)
 have htw:∀ i (h:i < f.cls.length),PureF Tryz.prog 103 [strsV (ZT f.cls[i].pats)] (boolV (!decide (ZT f.cls[i].pats).Nodup)):=fun i h=>twice_ok _ (by have h1:=Xm f.cls[i].pats; have h2:=hb i h; omega) (hn _ (Zn9 h))
 clear hcl hb hn;delta c66 Zj Zf Zi Za Ze Zd Zb Zn Zr Zq Zg;by_cases ha:(vs.length:Int)=f.arity
 ·have hR2:R=if XV f.arity f.cls=0 then selGo vs f.cls 0 else (0,zEx,XV f.arity f.cls):=by rw [hR,Yy,if_pos ha]
  clear hR;replace hR2:=Zn0 hR2
  (repeat' (first | (simp only [↓ZI,ZJ,ptrV,intV,ZnW,ZnY,reduceCtorEq,ZM,ZnZ,undef,JK,ZbG,Yc,ZhB,Ys,Zch,Yn, *]) | (refine ZK fun zr zh=>?_; have zg:=zh; (try simp only [Zn2] at zg))))
  rename_i r2 n2 n2';obtain ⟨z1,z2⟩:=zg
  refine ZW (fun _ _ _ h=>h) (fun A H=>SubH H0 H∧H r2=some (.cells 81 [sV f.name,iV f.arity,clsV f.cls] 0)∧H zr=some (.cells 35 Zx 0)∧A.d=[]∧A.t 1=exsV vs∧A.t 2=ptrV r2 0∧A.t 5=ptrV zr 0∧A.t 21=clsV f.cls∧A.t 22=iV f.cls.length∧∃ i:Nat,i≤f.cls.length∧A.t 23=iV i∧XV f.arity f.cls=XV f.arity (f.cls.drop i))
   (fun A _=>match A.t 23 with | .lit (.int _ i)=>((f.cls.length:Int) - i).toNat | _=>0) ?_ ?_
  ·exact ⟨(Zn5 n2).of_set z2,(by simp only [Zn8, *,if_true,if_false]<;>rfl),Zn4 _ _ _,rfl,(by simp only [ZL,ZnW,if_false, *]<;>rfl),(by simp only [ZL,ZnW,if_true,if_false, *]<;>rfl),(by simp only [ZL,ZnW,if_true,if_false, *]<;>rfl),(by simp only [ZL,ZnW,if_true,if_false, *]<;>rfl),(by simp only [ZL,ZnW,if_true,if_false, *]<;>rfl),0,by omega,(by simp only [ZL,ZnW,if_true,if_false, *]<;>rfl),rfl⟩
  ·clear zh n2';rintro ⟨t,d⟩ H ⟨hs,k2,k5,rfl,h1,h2,h5,h21,h22,i,hi,h23,hE⟩;dsimp only at h1 h2 h5 h21 h22 h23;have hE':=fun h:i < f.cls.length=>hE.trans (ZfD h)
   replace hE:=Zn0 hE;replace hE':=Zn0 hE';delta b66_1 Zn Zr Zk Zb Zi Zg Zd Ze Zq Zf Zo Zm Za
   (repeat' (first | (simp only [↓ZI,ZJ,ptrV,intV,boolV,ZnW,ZnY,Zn7,reduceCtorEq,ZX,fillV,setAt,ZnZ,ZaY,Zx,Za7,JK,Zjr,WL,Yc,Zjq,YD,WJ,ZbE,Zch,XU,en_104,en_103, *]) | (refine ZY ?_ ?_<;>intro) | (refine Ym ?_ ?_<;>intro) | (refine ZK fun zr zh=>?_; have zg:=zh; (try simp only [Zn2] at zg); (try have zn_k2:=ZnX k2 zh); (try have zn_k2:=ZnX k2 zg.2); (try have zn_k2:=ZnX k2 zg.2.2); (try have zn_k5:=ZnX k5 zh); (try have zn_k5:=ZnX k5 zg.2); (try have zn_k5:=ZnX k5 zg.2.2)) | (refine Zn6 ?_ ?_) | (exact SubH.none (by assumption) (by assumption)) | (refine Zn3 (hnm _ (by assumption)) ?_) | (refine Zn3 (htw _ (by assumption)) ?_) | (with_reducible refine And.intro ?_ ?_)))
   ·have hlt:i < f.cls.length:=by assumption
    have hp:¬ (f.cls[i].pats.length:Int)=f.arity:=by simpa using (by assumption:(!decide ((f.cls[i].pats.length:Int)=f.arity))=true)
    have he:XV f.arity f.cls=5:=by rw [hE'.out hlt,if_neg hp]
    rw [hR2.out,he,if_neg (by omega)];exact ZhJ (by simp only [ZL,ZnW,if_true,if_false, *]<;>rfl) (by simp only [ZL,ZnW,if_false, *]<;>rfl) (by simp only [ZL,ZnW,if_true,if_false, *]<;>rfl) (Zn4 _ _ _) (Jj ((hs.of_set (hs.none (by assumption))).of_set z2))
   ·have hlt:i < f.cls.length:=by assumption
    have hp:(f.cls[i].pats.length:Int)=f.arity:=by simpa using (by assumption:(!decide ((f.cls[i].pats.length:Int)=f.arity))=false)
    have hd:¬ (ZT f.cls[i].pats).Nodup:=by simpa using (by assumption:(!decide (ZT f.cls[i].pats).Nodup)=true)
    have he:XV f.arity f.cls=10:=by rw [hE'.out hlt,if_pos hp,if_neg hd]
    rw [hR2.out,he,if_neg (by omega)];exact ZhJ (by simp only [ZL,ZnW,if_true,if_false, *]<;>rfl) (by simp only [ZL,ZnW,if_false, *]<;>rfl) (by simp only [ZL,ZnW,if_true,if_false, *]<;>rfl) (Zn4 _ _ _) (Jj ((hs.of_set (hs.none (by assumption))).of_set z2))
   ·have hlt:i < f.cls.length:=by assumption
    have hp:(f.cls[i].pats.length:Int)=f.arity:=by simpa using (by assumption:(!decide ((f.cls[i].pats.length:Int)=f.arity))=false)
    have hd:(ZT f.cls[i].pats).Nodup:=by simpa using (by assumption:(!decide (ZT f.cls[i].pats).Nodup)=false)
    rw [ZR (n:=(i:Int) + 1) (by omega) (by omega)];exact ⟨i + 1,by omega,rfl,by rw [hE'.out hlt,if_pos hp,if_pos hd]⟩
   ·rw [ZR (n:=(i:Int) + 1) (by omega) (by omega)];omega
   ·have he:XV f.arity f.cls=0:=by rw [hE.out,Zop (by omega)]; rfl
    have hR3:R=selGo vs f.cls 0:=by rw [hR2.out,if_pos he]
    clear hE hE' hR2 hnm htw hf;refine Ya rfl (fun _ _ _ h=>h) ?_;delta c66_4 Zd Zb Ze Zq
    (repeat' (first | (simp only [↓ZI,ZJ,ptrV,intV,ZnW,ZnY,reduceCtorEq,ZnZ,ZbG,ZhB,Zch, *])))
    refine sel_loop hN hv hvs (fun c hc=>?_) rfl (by simp only [ZL,ZnW,if_false, *]<;>rfl) (by simp only [ZL,ZnW,if_false, *]<;>rfl) (by simp only [ZL,ZnW,if_true,if_false, *]<;>rfl) (by simp only [ZL,ZnW,if_true,if_false, *]<;>rfl) (by simp only [ZL,ZnW,if_true,if_false, *]<;>rfl) (by assumption) z2 hs
    have:=(ZcC he c hc).1
    omega
 ·have hR2:R=(0,zEx,5):=by rw [hR,Yy,if_neg ha]
  clear hR;rw [hR2];clear hR2
  (repeat' (first | (simp only [↓ZI,ZJ,ptrV,intV,ZnW,ZnY,Zn7,reduceCtorEq,ZM,ZX,fillV,setAt,ZnZ,undef,JK,Yc,YD,WJ,Ys,Yn, *]) | (refine ZK fun zr zh=>?_; have zg:=zh; (try simp only [Zn2] at zg))))
  rename_i r2 n2 n2';exact ZhJ (by simp only [ZL,ZnW,if_true,if_false, *]<;>rfl) (by simp only [ZL,ZnW,if_true,if_false, *]<;>rfl) (by simp only [ZL,ZnW,if_true,if_false, *]<;>rfl) (Zn4 _ _ _) (Jj ((Zn5 n2).of_set zg.2))
end Go.PV.YtglpmlbbaedbiaaGreat
end
section
open Nat renaming le_refl→Zoc
namespace Go.PV.YtglpmlbbaedbiaaGreat
open Go Go.Proofs
def Xl (e:Ex) (l:List Ex):Ex:=if l.length=0 then e else .mk 4 noNm (e :: l)
def nonV (p:Pr) (l:List Ex):Int:=idxF (fun k=>!k.isV p) l
def headV (p:Pr) (e:Ex):Bool:=match e.kids with | k :: _=>k.isV p | []=>false
def preE (p:Pr) (e:Ex):Ex:=if e.op=4∧headV p e=true then e.flat else e
def redF (p:Pr) (e:Ex):Ex × Int :=
 match e.kids with
 | f :: a :: r =>
   if f.op=5 then ((Xl ((f.kids.headD zEx).put [(f.name,a)]) r),0)
   else if f.op=3 then (e,421)
   else (match p.funs[(atFu p.funs f.name).toNat]? with
    | some g=>(Xl (Yy g ((a :: r).take g.arity.toNat)).2.1 ((a :: r).drop g.arity.toNat),(Yy g ((a :: r).take g.arity.toNat)).2.2)
    | none=>(e,0))
 | _=>(e,0)
def stepN (p:Pr):Nat→Ex→Ex × Int
 | 0,e=>(e,0)
 | n + 1,e =>
   if e.op=2 then (match p.funs[(atFu p.funs e.name).toNat]? with | some f=>((Yy f []).2.1,(Yy f []).2.2) | none=>(e,0))
   else if 0≤nonV p (preE p e).kids then
    (match (preE p e).kids[(nonV p (preE p e).kids).toNat]? with
     | some k=>(.mk (preE p e).op (preE p e).name ((preE p e).kids.set (nonV p (preE p e).kids).toNat (stepN p n k).1),(stepN p n k).2)
     | none=>(e,0))
   else redF p (preE p e)
def stepF (p:Pr) (e:Ex):Ex × Int:=stepN p e.sz e
theorem Zfb (p:Pr) (e:Ex):(preE p e).sz≤e.sz:=by
 unfold preE; split
 ·exact e.flat_sz
 ·exact Zoc _
theorem ZkI {p:Pr}:∀ (n m:Nat) (e:Ex),e.sz≤n→e.sz≤m→stepN p n e=stepN p m e
 | 0,m,e,h,_=>by have:=e.sz_pos; omega
 | n + 1,0,e,_,h=>by have:=e.sz_pos; omega
 | n + 1,m + 1,e,h,h'=>by
   rw [stepN,stepN];have h1:=Zfb p e;have h2:=(preE p e).sz_eq;cases hk:(preE p e).kids[(nonV p (preE p e).kids).toNat]? with
   | none=>rfl
   | some k =>
     have h3:=Yl (List.mem_of_getElem? hk);dsimp only;rw [ZkI n m k (by omega) (by omega)]
theorem ZcN (p:Pr) (e:Ex):stepF p e =
 if e.op=2 then (match p.funs[(atFu p.funs e.name).toNat]? with | some f=>((Yy f []).2.1,(Yy f []).2.2) | none=>(e,0))
 else if 0≤nonV p (preE p e).kids then
  (match (preE p e).kids[(nonV p (preE p e).kids).toNat]? with
   | some k=>(.mk (preE p e).op (preE p e).name ((preE p e).kids.set (nonV p (preE p e).kids).toNat (stepF p k).1),(stepF p k).2)
   | none=>(e,0))
 else redF p (preE p e):=by
 obtain ⟨n,hn⟩:∃ n,e.sz=n + 1:=⟨e.sz - 1,by have:=e.sz_pos; omega⟩
 rw [stepF,hn,stepN];have h1:=Zfb p e;have h2:=(preE p e).sz_eq;cases hk:(preE p e).kids[(nonV p (preE p e).kids).toNat]? with
 | none=>rfl
 | some k =>
   have h3:=Yl (List.mem_of_getElem? hk);dsimp only;rw [ZkI n k.sz k (by omega) (Zoc _)];rfl
theorem flat_nm {e:Ex} (h:e.nmOk):e.flat.nmOk:=by
 refine (Ex.flat_ind (p:=fun e=>e.nmOk) (fun e k r hi he=>?_) e.sz e (Zoc _) h).1;obtain ⟨h1,h2,h3⟩:=Ex.inner_some hi;have he':=Ex.nmOk_iff.1 he;have hk:=Ex.nmOk_iff.1 (he'.2 k (by rw [h2]; simp));refine Ex.nmOk_iff.2 ⟨Nat.zero_le 1099511627776,?_⟩;simp only [Ex.kids];intro x hx;rcases List.mem_append.1 hx with hx | hx
 ·exact hk.2 x hx
 ·exact he'.2 x (by rw [h2]; simp [hx])
theorem ZjI {p:Pr} {e:Ex} {b:List ByteArray} (hsd:e.sdF p b=0):(preE p e).sdF p b=0∧(e.nmOk→(preE p e).nmOk)∧(preE p e).op=e.op:=by
 unfold preE;split
 ·rename_i h; exact ⟨Zjd hsd,flat_nm,by rw [e.flat_op h.1,h.1]⟩
 ·exact ⟨hsd,id,rfl⟩
theorem ZmM {op nk:Int} {nm:Bool} (h:formB op nk nm=true):op=1∨op=2∨op=3∨op=4∨op=5:=by
 unfold formB at h;split at h
 ·omega
 ·split at h
  ·omega
  ·split at h
   ·omega
   ·split at h
    ·omega
    ·cases h
theorem Zd5 {p:Pr} {e:Ex} (hsd:e.sdF p []=0) (hv:e.isV p=false) (h2:¬ e.op=2) :
 (e.op=3∨e.op=4) ∧
 ((∃ i,∃ h:i < (preE p e).kids.length,nonV p (preE p e).kids=i∧(preE p e).kids[i].isV p=false) ∨
  (nonV p (preE p e).kids=-1∧(∀ k∈(preE p e).kids,k.isV p=true)∧e.op=4∧preE p e=e.flat∧(preE p e).name=noNm∧∃ f a r,(preE p e).kids=f :: a :: r ∧
    ((f.op=5∧∃ bd,f.kids=[bd])∨f.op=3∨(f.op=2∧0 < arFu p.funs f.name∧arFu p.funs f.name≤(r.length:Int) + 1)))):=by
 have hown:=XR.1 (Xq.1 hsd).1;obtain ⟨q1,q2,q3⟩:=ZjI hsd;rw [e.isV_eq] at hv
 have hop:e.op=3∨e.op=4:=by
  rcases ZmM hown.1 with h | h | h | h | h
  ·have:=hown.2.2.2 h; simp at this
  ·exact absurd h h2
  ·exact .inl h
  ·exact .inr h
  ·rw [if_pos h] at hv; cases hv
 refine ⟨hop,?_⟩;rcases Wm (fun k:Ex=>!k.isV p) (preE p e).kids with ⟨h1,h3⟩ | ⟨i,hi,h1,h3,_⟩
 ·right;have hall:∀ k∈(preE p e).kids,k.isV p=true:=fun k hk=>by simpa using h3 k hk
  have h5:¬ e.op=5:=by omega
  rw [if_neg h5,if_neg h2] at hv
  have h4:e.op=4:=by
   rcases hop with h | h
   ·exfalso
    rw [if_pos h] at hv;have hpe:preE p e=e:=by unfold preE; rw [if_neg (by omega)]
    rw [hpe] at hall;rw [List.all_eq_true.2 hall] at hv; cases hv
   ·exact h
  rw [if_neg (by omega),if_pos h4] at hv;have hq4:(preE p e).op=4:=by rw [q3,h4]
  obtain ⟨hn,f,a,r,hk⟩:=Zdy q1 hq4
  have hfl:preE p e=e.flat:=by
   unfold preE;split
   ·rfl
   ·rename_i hne
    exfalso
    have hpe:preE p e=e:=by unfold preE; rw [if_neg hne]
    refine hne ⟨h4,?_⟩;rw [hpe] at hk hall;unfold headV;rw [hk];exact hall f (by rw [hk]; simp)
  refine ⟨h1,hall,h4,hfl,hn,f,a,r,hk,?_⟩;have hfi:=e.flat_inner;rw [← hfl] at hfi hv;rw [hk] at hv;have hf4:¬ f.op=4:=fun h=>by simp [Ex.inner,hq4,hk,h] at hfi
  have hsf:=(Xq.1 q1).2 f (by rw [hk]; simp);rw [hq4] at hsf;simp only [show ¬ (4:Int)=5 by decide,if_false] at hsf;have hof:=XR.1 (Xq.1 hsf).1;have hfv:=hall f (by rw [hk]; simp);rw [f.isV_eq] at hfv;rcases ZmM hof.1 with h | h | h | h | h
  ·have:=hof.2.2.2 h; simp at this
  ·right; right
   rw [if_neg (by omega),if_pos h] at hfv;refine ⟨h,by simpa using hfv,?_⟩;have h6:(a :: r).all (·.isV p)=true:=List.all_eq_true.2 fun x hx=>hall x (by rw [hk]; simp at hx; simp [hx])
   dsimp only at hv;rw [h6,h] at hv;simp at hv;omega
  ·exact .inr (.inl h)
  ·exact absurd h hf4
  ·left;refine ⟨h,?_⟩
   have:=hof.1
   rw [h] at this;simp [formB] at this
   match hfk:f.kids,this.1 with
   | [bd],_=>exact ⟨bd,rfl⟩
   | [],h7=>simp at h7
   | _ :: _ :: _,h7=>simp at h7; omega
 ·left;exact ⟨i,hi,h1,by simpa using h3⟩
end Go.PV.YtglpmlbbaedbiaaGreat
end
section
open List renaming map_cons→Zou,eq_nil_of_length_eq_zero→ZoM
open Nat renaming mul_le_mul_right→ZoZ
open Option renaming map_eq_some_iff→ZoW
namespace Go.PV.YtglpmlbbaedbiaaGreat
open Go Go.Proofs
mutual
theorem Pa.parts_all {Q:Ex→Prop} (hQ:∀ e,Q e→e.op=3→∀ k∈e.kids,Q k):∀ (p:Pa) (e:Ex) (l:List Bd),Q e→(∀ b∈l,Q b.2)→∀ b∈(p.parts e l).1,Q b.2
 | .mk c n ks,e,l,he,hl=>by
   rw [Pa.parts];split
   ·split
    ·rename_i h;exact ZbU hQ ks e.kids l (hQ e he h.1) hl
    ·exact hl
   ·intro b hb;rcases List.mem_append.1 hb with hb | hb
    ·exact hl b hb
    ·simp at hb; subst hb; exact he
theorem ZbU {Q:Ex→Prop} (hQ:∀ e,Q e→e.op=3→∀ k∈e.kids,Q k):∀ (ps:List Pa) (es:List Ex) (l:List Bd),(∀ e∈es,Q e)→(∀ b∈l,Q b.2)→∀ b∈(Yu ps es l).1,Q b.2
 | [],_,l,_,hl=>by rw [Yu]; exact hl
 | p :: ps,e :: es,l,he,hl=>by
   have h1:=Pa.parts_all hQ p e l (he e (by simp)) hl;rw [Yu];split
   ·rename_i l' h;rw [h] at h1;exact ZbU hQ ps es l' (fun x hx=>he x (by simp [hx])) h1
   ·rename_i l' h;rw [h] at h1;exact h1
 | _ :: _,[],l,_,hl=>by rw [Yu]; exact hl
end
mutual
theorem Pa.parts_names:∀ (p:Pa) (e:Ex) (l:List Bd),(p.parts e l).2=true→(p.parts e l).1.map (·.1)=l.map (·.1) ++ p.names
 | .mk c n ks,e,l,h=>by
   rw [Pa.parts] at h ⊢;rw [Pa.names];split
   ·rename_i hc;rw [if_pos hc] at h;split
    ·rename_i h2;rw [if_pos h2] at h;exact ZaF ks e.kids l h
    ·rename_i h2;rw [if_neg h2] at h;cases h
   ·simp
theorem ZaF:∀ (ps:List Pa) (es:List Ex) (l:List Bd),(Yu ps es l).2=true→(Yu ps es l).1.map (·.1)=l.map (·.1) ++ ZT ps
 | [],_,l,_=>by simp [Yu,ZT]
 | p :: ps,e :: es,l,h=>by
   have h1:=Pa.parts_names p e l;rw [Yu] at h ⊢;rw [ZT];split
   ·rename_i l' h2;rw [h2] at h1 h;rw [ZaF ps es l' h,h1 rfl,List.append_assoc]
   ·rename_i l' h2;rw [h2] at h;cases h
 | _ :: _,[],l,h=>by rw [Yu] at h; cases h
end
theorem Zfs {l:List Bd} {n:ByteArray} {x:Ex} (h:lastB l n=some x):∃ b∈l,b.1=n∧b.2=x:=by
 unfold lastB at h;simp only [ZoW] at h;obtain ⟨b,h1,h2⟩:=h;have h3:=List.mem_of_find?_eq_some h1;have h4:=List.find?_some h1;exact ⟨b,by simpa using h3,by simpa using h4,h2⟩
theorem Znr {l:List Bd} {n:ByteArray} (h:lastB l n=none):n ∉ l.map (·.1):=by
 unfold lastB at h;simp only [Option.map_eq_none_iff,List.find?_eq_none,List.mem_reverse] at h;intro hm;obtain ⟨b,hb,rfl⟩:=List.mem_map.1 hm;exact h b hb (by simp)
theorem Zhd {p:Pr} {op:Int} {name:ByteArray} {ks ks':List Ex} {b b':List ByteArray} (h:sdOwn p (.mk op name ks) b=0) (hl:ks'.length=ks.length) (hb:op=1→name∈b→name∈b'):sdOwn p (.mk op name ks') b'=0:=by
 have h':=XR.1 h;refine XR.2 ?_;simp only [Ex.op,Ex.name,Ex.kids] at h' ⊢;rw [hl];exact ⟨h'.1,h'.2.1,h'.2.2.1,fun h1=>hb h1 (h'.2.2.2 h1)⟩
theorem sd_mono {p:Pr}:∀ (e:Ex) (b b':List ByteArray),e.sdF p b=0→(∀ n∈b,n∈b')→e.sdF p b'=0:=by
 intro e;refine Ex.ind (p:=fun e=>∀ (b b':List ByteArray),e.sdF p b=0→(∀ n∈b,n∈b')→e.sdF p b'=0) (fun e ih b b' h hb=>?_) e;obtain ⟨op,name,ks⟩:=e;have h':=Xq.1 h;refine Xq.2 ⟨Zhd h'.1 rfl (fun _ hn=>hb _ hn),fun k hk=>ih k hk _ _ (h'.2 k hk) ?_⟩;simp only [Ex.op,Ex.name];by_cases h5:op=5
 ·simp only [h5,if_true];intro n hn;rcases List.mem_append.1 hn with hn | hn
  ·exact List.mem_append_left _ (hb n hn)
  ·exact List.mem_append_right _ hn
 ·simp only [h5,if_false]; exact hb
theorem sd_put {p:Pr}:∀ (e:Ex) (l:List Bd) (b b':List ByteArray),e.sdF p b=0→(∀ n∈b,n∈b'∨n∈l.map (·.1))→(∀ x∈l,x.2.sdF p []=0)→(e.put l).sdF p b'=0:=by
 intro e;refine Ex.ind (p:=fun e=>∀ (l:List Bd) (b b':List ByteArray),e.sdF p b=0→(∀ n∈b,n∈b'∨n∈l.map (·.1))→(∀ x∈l,x.2.sdF p []=0)→(e.put l).sdF p b'=0) (fun e ih l b b' h hb hl=>?_) e;have h':=Xq.1 h;rw [e.put_eq];split
 ·rename_i x hx;split at hx
  ·obtain ⟨y,hy,_,rfl⟩:=Zfs hx;exact sd_mono _ [] b' (hl y hy) (by simp)
  ·cases hx
 ·rename_i hx;have he:=e.eta;refine Xq.2 ⟨Zhd (ks:=e.kids) (b:=b) (by rw [he]; exact h'.1) (by simp) (fun h1 hn=>?_),fun k hk=>?_⟩
  ·rw [if_pos h1] at hx;rcases hb _ hn with h2 | h2
   ·exact h2
   ·exact absurd h2 (Znr hx)
  ·change Ex.sdF p k (if e.op=5 then b' ++ [e.name] else b')=0
   obtain ⟨k0,hk0,rfl⟩:=List.mem_map.1 hk;have h3:=h'.2 k0 hk0;by_cases h5:e.op=5
   ·rw [if_pos h5] at h3;rw [if_pos h5,if_pos h5];refine ih k0 hk0 _ _ _ h3 (fun n hn=>?_) (fun x hx=>hl x (List.mem_filter.1 hx).1);by_cases hnn:n=e.name
    ·left; rw [hnn]; simp
    ·rcases List.mem_append.1 hn with hn | hn
     ·rcases hb n hn with h6 | h6
      ·exact .inl (List.mem_append_left _ h6)
      ·right;obtain ⟨y,hy,rfl⟩:=List.mem_map.1 h6;exact List.mem_map.2 ⟨y,List.mem_filter.2 ⟨hy,by simpa using hnn⟩,rfl⟩
     ·simp at hn; exact absurd hn hnn
   ·rw [if_neg h5] at h3;rw [if_neg h5,if_neg h5];exact ih k0 hk0 _ _ _ h3 hb hl
theorem nm_put:∀ (e:Ex) (l:List Bd),e.nmOk→(∀ x∈l,x.2.nmOk)→(e.put l).nmOk:=by
 intro e;refine Ex.ind (p:=fun e=>∀ (l:List Bd),e.nmOk→(∀ x∈l,x.2.nmOk)→(e.put l).nmOk) (fun e ih l h hl=>?_) e;have h':=Ex.nmOk_iff.1 h;rw [e.put_eq];split
 ·rename_i x hx;split at hx
  ·obtain ⟨y,hy,_,rfl⟩:=Zfs hx;exact hl y hy
  ·cases hx
 ·refine Ex.nmOk_iff.2 ⟨h'.1,fun k hk=>?_⟩;obtain ⟨k0,hk0,rfl⟩:=List.mem_map.1 hk;refine ih k0 hk0 _ (h'.2 k0 hk0) ?_;split
  ·exact fun x hx=>hl x (List.mem_filter.1 hx).1
  ·exact hl
theorem Zet {f:Ex→Ex} {M:Nat}:∀ (ks:List Ex),(∀ k∈ks,(f k).sz≤k.sz * M)→exsSz (ks.map f)≤exsSz ks * M
 | [],_=>by simp [exsSz]
 | k :: ks,h=>by
   rw [Zou,exsSz,exsSz,Nat.add_mul];have h1:=h k (by simp);have h2:=Zet ks (fun x hx=>h x (by simp [hx]));omega
theorem sz_put {M:Nat}:∀ (e:Ex) (l:List Bd),(∀ x∈l,x.2.sz≤M)→(e.put l).sz≤e.sz * (1 + M):=by
 intro e;refine Ex.ind (p:=fun e=>∀ (l:List Bd),(∀ x∈l,x.2.sz≤M)→(e.put l).sz≤e.sz * (1 + M)) (fun e ih l hl=>?_) e;rw [e.put_eq];have hp:=e.sz_pos;have hm:=ZoZ (1 + M) (show 1≤e.sz from hp);split
 ·rename_i x hx;split at hx
  ·obtain ⟨y,hy,_,rfl⟩:=Zfs hx
   have:=hl y hy; omega
  ·cases hx
 ·have hl':∀ x∈(if e.op=5 then l.filter (fun b=>!decide (b.1=e.name)) else l),x.2.sz≤M:=by
   split
   ·exact fun x hx=>hl x (List.mem_filter.1 hx).1
   ·exact hl
  have h1:=Zet (f:=fun k=>k.put (if e.op=5 then l.filter (fun b=>!decide (b.1=e.name)) else l)) (M:=1 + M) e.kids (fun k hk=>ih k hk _ hl');have h2:=e.sz_eq;rw [Ex.sz_eq,h2,Nat.add_mul]
  change 1 + exsSz (e.kids.map _)≤_
  omega
theorem ZgH {vs:List Ex}:∀ (cls:List Cl) (i:Nat),(selGo vs cls i).2.2=0→∃ c∈cls,(Yu c.pats vs []).2=true∧(selGo vs cls i).2.1=c.body.put (Yu c.pats vs []).1
 | [],i,h=>by simp [selGo] at h
 | c :: cls,i,h=>by
   rw [selGo] at h ⊢;split
   ·rename_i h1;exact ⟨c,by simp,h1,rfl⟩
   ·rename_i h1;rw [if_neg h1] at h;obtain ⟨c',h2,h3⟩:=ZgH cls (i + 1) h;exact ⟨c',by simp [h2],h3⟩
theorem ZiQ {f:Fu} {vs:List Ex} (h:(Yy f vs).2.2=0):∃ c∈f.cls,(Yu c.pats vs []).2=true∧(Yy f vs).2.1=c.body.put (Yu c.pats vs []).1:=by
 unfold Yy at h ⊢;split
 ·rename_i h1;rw [if_pos h1] at h;split
  ·rename_i h2;rw [if_pos h2] at h;exact ZgH _ _ h
  ·rename_i h2;rw [if_neg h2] at h;exact absurd h h2
 ·rename_i h1;rw [if_neg h1] at h;cases h
theorem Zeu {R:Int} {l:List Co}:∀ {ps:List Pa},Za3 R l ps=0→(∀ q∈ps,paChk l q=0)∧R=0
 | [],h=>⟨by simp,h⟩
 | q :: ps,h=>by
   rw [Za3] at h;split at h
   ·rename_i h1;obtain ⟨h2,h3⟩:=Zeu h;refine ⟨fun x hx=>?_,h3⟩;rcases List.mem_cons.1 hx with rfl | hx
    ·exact h1
    ·exact h2 x hx
   ·rename_i h1; exact absurd h h1
theorem Zlh {p:Pr} {f:Fu} {c:Cl} (h:clErr p f c=0):(c.pats.length:Int)=f.arity∧(∀ q∈c.pats,paChk p.cons q=0)∧(YF c.pats).Nodup∧c.body.sz≤1000∧c.body.dp≤100∧c.body.shF p (YF c.pats).reverse=0:=by
 unfold clErr at h;split at h
 ·rename_i h1;obtain ⟨h2,h3⟩:=Zeu h;split at h3
  ·rename_i h4;unfold Za4 at h3;split at h3
   ·cases h3
   ·split at h3
    ·cases h3
    ·exact ⟨h1,h2,h4,by omega,by omega,h3⟩
  ·cases h3
 ·cases h
theorem Zev {R:Int} {p:Pr} {f:Fu}:∀ {l:List Cl},Zas R p f l=0→(∀ c∈l,clErr p f c=0)∧R=0
 | [],h=>⟨by simp,h⟩
 | c :: l,h=>by
   rw [Zas] at h;split at h
   ·rename_i h1;obtain ⟨h2,h3⟩:=Zev h;refine ⟨fun x hx=>?_,h3⟩;rcases List.mem_cons.1 hx with rfl | hx
    ·exact h1
    ·exact h2 x hx
   ·rename_i h1; exact absurd h h1
theorem ZdA {p:Pr}:∀ {l:List Fu},Xw p l=0→∀ f∈l,∀ c∈f.cls,clErr p f c=0
 | [],_=>by simp
 | f :: l,h=>by
   rw [Xw] at h;obtain ⟨h1,h2⟩:=Zev h;intro x hx;rcases List.mem_cons.1 hx with rfl | hx
   ·exact h1
   ·exact ZdA h2 x hx
theorem ZfE {l:List Co}:∀ {L:List Pl},WN l L=0→∀ x∈L,plErr l x=0
 | [],_=>by simp
 | y :: L,h=>by
   rw [WN] at h;split at h
   ·rename_i h1;intro x hx;rcases List.mem_cons.1 hx with rfl | hx
    ·exact h1
    ·exact ZfE h x hx
   ·rename_i h1; exact absurd h h1
theorem chk_leaf {l:List Co} {q:Pa} (h:paChk l q=0):∀ x∈q.all 0,x.1.con=false→x.1.kids=[]:=by
 unfold paChk at h;split at h
 ·cases h
 ·split at h
  ·cases h
  ·intro x hx hc;have h1:=ZfE h x hx;unfold plErr at h1;split at h1
   ·rename_i h2;have h3:¬ 0 < x.1.kids.length:=fun h4=>h2.2 ⟨hc,h4⟩
    exact ZoM (by omega)
   ·cases h1
theorem ZiR (L M:List Pl):varsL (L ++ M)=varsL L ++ varsL M:=List.filterMap_append
mutual
theorem ZgI:∀ (q:Pa) (a:Int),(∀ x∈q.all a,x.1.con=false→x.1.kids=[])→varsL (q.all a)=q.names
 | .mk c n ks,a,h=>by
   rw [Pa.all] at h ⊢;rw [Pa.names];have h2:=ZdB ks (a + 1) (fun x hx=>h x (by simp [hx]));cases c with
   | true =>
     show varsL (_ :: _)=_;rw [varsL,List.filterMap_cons];simp only [Pa.con,if_true];exact h2
   | false =>
     have h3:ks=[]:=h (Pa.mk false n ks,a) (by simp) rfl;subst h3;simp [varsL,Xp,Pa.con,Pa.name]
theorem ZdB:∀ (ks:List Pa) (a:Int),(∀ x∈Xp ks a,x.1.con=false→x.1.kids=[])→varsL (Xp ks a)=ZT ks
 | [],a,_=>by simp [Xp,varsL,ZT]
 | q :: ks,a,h=>by
   rw [Xp] at h ⊢;rw [ZiR,ZT,ZgI q a (fun x hx=>h x (by simp [hx])),ZdB ks a (fun x hx=>h x (by simp [hx]))]
end
theorem ZbV {l:List Co}:∀ {ps:List Pa},(∀ q∈ps,paChk l q=0)→YF ps=ZT ps
 | [],_=>rfl
 | q :: ps,h=>by
   rw [YF,List.flatMap_cons,ZT];have h1:varsP q=q.names:=ZgI q 0 (chk_leaf (h q (by simp)));have h2:=ZbV (ps:=ps) (fun x hx=>h x (by simp [hx]));rw [h1]
   congr 1
theorem nameB_ne {b:ByteArray} (h:nameB b=true):¬ b=noNm:=fun e=>by subst e; cases h
theorem mis_form {e:Ex} (h:misF e=false):formB e.op e.kids.length (!decide (e.name=noNm))=true:=by
 have hn:=nameB_ne (b:=e.name);unfold misF at h;unfold formB;generalize nameB e.name=nb at *
 generalize (e.kids.length:Int)=nk at *
 generalize e.op=op at *
 split at h
 ·rename_i h1;rw [if_pos h1];cases nb with
  | true=>simp at h; have:=hn rfl; simp [this]; omega
  | false=>simp at h
 ·rename_i h1;rw [if_neg h1];split at h
  ·rename_i h3;cases nb with
   | true=>have:=hn rfl; simp [this,h3]
   | false=>simp at h
  ·rename_i h3;split at h
   ·rename_i h4;simp at h;simp [h4,h.2]; omega
   ·rename_i h4;split at h
    ·rename_i h5;cases nb with
     | true=>simp at h; have:=hn rfl; simp [this,h5,h]
     | false=>simp at h
    ·cases h
theorem sh_kids {p:Pr} {l:List Ex} {b:List ByteArray}:shsF p l b=0→∀ k∈l,k.shF p b=0:=by
 induction l with
 | nil=>simp
 | cons k l ih =>
   rw [shsF];intro h;split at h
   ·rename_i h1;intro x hx;rcases List.mem_cons.1 hx with rfl | hx
    ·exact h1
    ·exact ih h x hx
   ·rename_i h1; exact absurd h h1
theorem sh_sd {p:Pr}:∀ (e:Ex) (nm b:List ByteArray),e.shF p nm=0→(∀ n∈nm,n∈b)→e.sdF p b=0:=by
 intro e;refine Ex.ind (p:=fun e=>∀ (nm b:List ByteArray),e.shF p nm=0→(∀ n∈nm,n∈b)→e.sdF p b=0) (fun e ih nm b h hb=>?_) e;rw [e.shF_eq] at h;split at h
 ·rename_i h0;have h1:=sh_kids h;refine Xq.2 ⟨XR.2 ?_,fun k hk=>ih k hk _ _ (h1 k hk) ?_⟩
  ·unfold ownF at h0;split at h0
   ·cases h0
   ·rename_i hm;split at h0
    ·cases h0
    ·rename_i h2;split at h0
     ·cases h0
     ·rename_i h3;split at h0
      ·cases h0
      ·rename_i h4;refine ⟨mis_form (by simpa using hm),fun h5=>?_,fun h5=>⟨?_,?_⟩,fun h5=>?_⟩
       ·exact Int.not_lt.1 fun h6=>h2 (.inl ⟨h5,h6⟩)
       ·exact Int.not_lt.1 fun h6=>h2 (.inr ⟨h5,h6⟩)
       ·exact Classical.not_not.1 fun h6=>h3 ⟨h5,h6⟩
       ·refine hb _ (WI.1 ?_);cases hh:hasF nm e.name with
        | true=>rfl
        | false=>exact absurd ⟨h5,hh⟩ h4
  ·split
   ·intro n hn;rcases List.mem_cons.1 hn with rfl | hn
    ·simp
    ·exact List.mem_append_left _ (hb n hn)
   ·exact hb
 ·rename_i h0; exact absurd h h0
end Go.PV.YtglpmlbbaedbiaaGreat
end
section
open Go.PV.AH renaming set_none→Zn2,set_same→Zn4
open Go.PV.GhL renaming cons→Zod
open Go.PV.Hold renaming mk→Zn0
open Go.PV.PureF renaming forget→Zoj,use→Zn3
open Go.PV.SubH renaming refl→Zn1,new→Zn5,of_set→Zn6
open Int renaming reduceLT→Zom,reduceNeg→ZoA
open List renaming take_append_drop→ZoU,length_take→ZoF,getElem_mem→Zn9,drop→ZnZ,drop_eq_nil_of_le→Zop,drop_eq_getElem_cons→Zoz
open Nat renaming reduceEqDiff→ZnW,reduceLT→ZnY,reduceMul→Zor
open Option renaming map_none→ZoC,map_some→Zog,bind_some→Zol
set_option maxRecDepth 20000
set_option maxHeartbeats 8000000
namespace Go.PV.YtglpmlbbaedbiaaGreat
open Go Go.Proofs
theorem rtakeCo {l:List Co} {n:ByteArray} {i:Nat} {H:AH} {K:VE→AH→Prop} (hi:i≤l.length) (hl:l.length≤1099511627776) (hK:K (.ret (iV (atCo (l.take i) n))) H):Yh Tryz.prog 88 [.slice false i (encC coE l),sV n] H K:=by
 have e:encC coE l=encC coE (l.take i) ++ encC coE (l.drop i):=by rw [← Yo,ZoU]
 rw [e];refine YM (Zod (GhV.trunc _ _ _ _ _) (GhL.refl _ _)) ?_;have el:(l.take i).length=i:=by rw [ZoF]; omega
 rw [show VV.slice false i (encC coE (l.take i))=cosV (l.take i) from by rw [cosV,encS,el]];exact (Zc6 (l.take i) n (by omega)).use hK
theorem rCons_ok (l:List Co) (hl:l.length≤1099511627776) (hn:∀ c∈l,c.name.size≤1099511627776):PureF Tryz.prog 86 [cosV l] (iV (Jy l)):=by
 have hna:∀ i (h:i < l.length),PureF Tryz.prog 87 [sV l[i].name] (boolV (nameB l[i].name)):=fun i h=>ZeV _ (hn _ (Zn9 h))
 clear hn;refine Zoj fun H=>?_
 refine ZN fd86 (by simp) ?_;delta c86 Zf Za Ze Zm Zr;obtain ⟨R,hR⟩:∃ R,R=Jy l:=⟨_,rfl⟩
 rw [← hR];unfold Jy at hR;by_cases h100:100 < l.length
 ·have h1:(100:Int) < (l.length:Int):=by omega
  rw [if_pos h100] at hR;rw [hR];clear hR
  (repeat' (first | (simp only [↓ZI,ZJ,intV,ZnW,ZnY,reduceCtorEq,ZM,undef,Ja, *]) | (refine ZP ?_) | (exact Zn1 _)))
 ·have h1:¬ (100:Int) < (l.length:Int):=by omega
  rw [if_neg h100] at hR;replace hR:=Zn0 hR
  (repeat' (first | (simp only [↓ZI,ZJ,intV,ZnW,ZnY,reduceCtorEq,ZM,undef,Ja, *])))
  refine ZW (fun _ _ _ h=>h) (fun A H'=>SubH H H'∧A.d=[]∧A.t 0=cosV l∧∃ i:Nat,i≤l.length∧A.t 3=iV i∧R=Za1 l (l.drop i) i)
   (fun A _=>match A.t 3 with | .lit (.int _ i)=>((l.length:Int) - i).toNat | _=>0) ?_ ?_
  ·exact ⟨Zn1 _,rfl,(by simp only [ZL,ZnW,if_false, *]<;>rfl),0,by omega,(by simp only [ZL,ZnW,if_true,if_false, *]<;>rfl),hR.out⟩
  ·clear hR h1;rintro ⟨t,d⟩ H' ⟨hs,rfl,h0,i,hi,h3,hR⟩;dsimp only at h0 h3;delta b86_1 Za Ze Zn Zr Zk Zd Zb Zo Zq Zc Zf Zm Zp;by_cases hlt:i < l.length
   ·have hil:(i:Int) < (l.length:Int):=by omega
    have hdi:=Jx hlt;have hni:=hna i hlt;rw [Zep hlt] at hR;replace hR:=Zn0 hR;clear hna
    (repeat' (first | (simp only [↓ZI,ZJ,intV,boolV,ZnW,ZnY,Zor,reduceCtorEq,ZU,ZM,ZnZ,undef,YB,ZoC,Zog,YV,idxV,idxOk,Nat.sub_zero,Zfl,JX,Ye,Yc,Ja,JL,Zcj, *]) | (refine YU ?_ ?_<;>intro) | (refine ZY ?_ ?_<;>intro) | (refine Ym ?_ ?_<;>intro) | (refine ZP ?_) | (refine ZS mixed (fun _ _ _ _ e h=>⟨e.trans h.1,h.2⟩) _ (Zn1 _) ?_) | (refine Zn3 (hni) ?_) | (refine rtakeCo (by omega) (by omega) ?_) | (with_reducible refine And.intro ?_ ?_)))
    all_goals try rw [ZR (n:=(i:Int) + 1) (by omega) (by omega)]
    all_goals first
     | exact fun _=>trivial
     | exact Nat.zero_le _
     | exact hs
     | omega
     | (refine congrArg (fun z:Int=>VE.ret (iV z)) ?_
        rw [hR.out]; repeat' split
        all_goals first
         | rfl
         | omega
         | simp_all
         | (exfalso; simp_all; omega))
     | (refine ⟨i + 1,by omega,rfl,?_⟩
        rw [hR.out]; repeat' split
        all_goals first
         | rfl
         | omega
         | simp_all
         | (exfalso; simp_all; omega))
     | trace_state
   ·have hil:¬ (i:Int) < (l.length:Int):=by omega
    rw [Zop (by omega)] at hR;have hR:R=0:=hR;rw [hR];clear hR
    (repeat' (first | (simp only [↓ZI,ZJ,intV,ZnW,ZnY,reduceCtorEq,Ja, *]) | (refine Ya rfl (fun _ _ _ h=>h) ?_)))
    delta c86_1 Zf
    (repeat' (first | (simp only [↓ZI,ZJ,ZnW,ZnY, *]) | (refine ZP ?_)))
    all_goals try exact hs
mutual
def Pa.dp:Pa→Nat
 | .mk _ _ ks=>pasDp ks + 1
def pasDp:List Pa→Nat
 | []=>0
 | k :: ks=>max k.dp (pasDp ks)
end
theorem Pa.dp_eq (p:Pa):p.dp=pasDp p.kids + 1:=by cases p; rw [Pa.dp]; rfl
theorem Zli {l:List Pa} {i:Nat} (h:i < l.length):pasDp (l.drop i)=max l[i].dp (pasDp (l.drop (i + 1))):=by rw [Zoz h,pasDp]
def mxL (d:Int) (L:List Pl):Int:=L.foldl (fun d x=>max d (x.2 + 1)) d
theorem Zlj (d:Int) (L M:List Pl):mxL d (L ++ M)=mxL (mxL d L) M:=List.foldl_append
mutual
theorem ZmN:∀ (p:Pa) (a d:Int),0≤a→mxL d (p.all a)=max d (a + p.dp)
 | .mk c n ks,a,d,ha=>by
   rw [Pa.all];show mxL (max d (a + 1)) (Xp ks (a + 1))=_;rw [ZmO ks (a + 1) (max d (a + 1)) (by omega) (by omega),Pa.dp];omega
theorem ZmO:∀ (ks:List Pa) (a d:Int),0≤a→a≤d→mxL d (Xp ks a)=max d (a + pasDp ks)
 | [],a,d,ha,hd=>by show d=_; rw [pasDp]; omega
 | k :: ks,a,d,ha,hd=>by
   rw [Xp,Zlj,ZmN k a d ha,ZmO ks a _ ha (by omega),pasDp];omega
end
theorem dpL_all (p:Pa):dpL (p.all 0)=p.dp:=by
 have:=ZmN p 0 0 (by omega)
 have h2:dpL (p.all 0)=mxL 0 (p.all 0):=rfl;rw [h2,this]; omega
mutual
theorem Pa.dp_le:∀ e:Pa,e.dp≤e.sz
 | .mk _ _ ks=>by have:=ZkJ ks; rw [Pa.dp,Pa.sz]; omega
theorem ZkJ:∀ l:List Pa,pasDp l≤pasSz l
 | []=>by simp [pasDp]
 | k :: l=>by have:=Pa.dp_le k; have:=ZkJ l; rw [pasDp,pasSz]; omega
end
theorem psize_ok (e:Pa):e.sz≤1099511627776→PureF Tryz.prog 124 [paV e] (.tuple [iV e.sz,iV e.dp]):=by
 refine Pa.ind (p:=fun e=>e.sz≤1099511627776→PureF Tryz.prog 124 [paV e] (.tuple [iV e.sz,iV e.dp])) (fun e ih hs=>?_) e;have hz:=e.sz_eq;have hl:=YZ e.kids;have ih':∀ i (h:i < e.kids.length),PureF Tryz.prog 124 [paV e.kids[i]] (.tuple [iV e.kids[i].sz,iV e.kids[i].dp]):=fun i h=>ih _ (Zn9 h) (by have:=YP (Zn9 h); omega)
 clear ih;refine Zoj fun H=>?_
 refine ZN fd124 (by simp) ?_;delta c124 Zj Zf;obtain ⟨N,D,hN,hD,hNs,hlN⟩:∃ N D,e.sz=N∧e.dp=D∧N≤1099511627776∧e.kids.length≤N:=⟨_,_,rfl,rfl,hs,by omega⟩
 have hDN:D≤N:=by have:=e.dp_le; omega
 have h0:1 + pasSz e.kids=N:=by omega
 have h1:pasDp e.kids + 1=D:=by rw [← hD,e.dp_eq]
 rw [hN,hD];clear hs hl hz hN hD
 (repeat' (first | (simp only [↓ZI,ZJ,ptrV,ZnY,ZM,undef, *]) | (refine ZK fun zr zh=>?_; have zg:=zh; (try simp only [Zn2] at zg))))
 refine ZW (fun _ _ _ h=>h) (fun A H'=>SubH H H'∧H' zr=some (.cells 126 [bV e.con,sV e.name,encS paE e.kids] 0)∧A.d=[]∧A.t 1=ptrV zr 0∧∃ (i n d:Nat),i≤e.kids.length∧A.t 6=iV i∧A.t 4=iV n∧A.t 5=iV d∧n + pasSz (e.kids.drop i)=N∧max d (pasDp (e.kids.drop i)) + 1=D)
  (fun A _=>match A.t 6 with | .lit (.int _ i)=>((e.kids.length:Int) - i).toNat | _=>0) ?_ ?_
 ·exact ⟨Zn5 zh,Zn4 _ _ _,rfl,rfl,0,1,0,by omega,rfl,rfl,rfl,h0,by simpa using h1⟩
 ·clear h0 h1;rintro ⟨t,d⟩ H' ⟨hs',k1,rfl,h1,i,n,d,hi,h6,h4,h5,hn,hdd⟩;dsimp only at h1 h4 h5 h6;delta b124_1 Za Zd Zb Ze Zn Zr Zk Zo Zh Zc Zq Zm;by_cases hlt:i < e.kids.length
  ·have hil:(i:Int) < (e.kids.length:Int):=by omega
   have hdi:=XQ hlt;have ihi:=ih' i hlt;have e1:=Jp hlt;have e2:=Zli hlt;have w1:IntKind.i64.wrap ((n:Int) + (e.kids[i].sz:Int))=((n + e.kids[i].sz:Nat):Int):=by rw [ZR (by omega) (by omega)]; omega
   clear ih';rw [e1] at hn;rw [e2] at hdd;replace hn:=Zn0 hn;replace hdd:=Zn0 hdd;clear e1 e2
   (repeat' (first | (simp only [↓ZI,ZJ,ZV,ptrV,intV,ZnW,ZnY,reduceCtorEq,ZnZ,vcMax,Xa,YS,Jc,YG,en_124, *]) | (refine Zn3 (ihi) ?_) | (with_reducible refine And.intro ?_ ?_)))
   all_goals try rw [ZR (n:=(i:Int) + 1) (by omega) (by omega)]
   all_goals first
    | omega
    | exact hs'
    | exact ⟨i + 1,n + e.kids[i].sz,max d e.kids[i].dp,by omega,rfl,by simp,by simp; split<;>omega,by have:=hn.out; omega,by have:=hdd.out; omega⟩
    | trace_state
  ·have hil:¬ (i:Int) < (e.kids.length:Int):=by omega
   rw [Zop (by omega)] at hn hdd;have hn':N=n:=by simpa [pasSz] using hn.symm
   have hd':D=d + 1:=by simpa [pasDp] using hdd.symm
   have w2:IntKind.i64.wrap ((d:Int) + 1)=((d + 1:Nat):Int):=by rw [ZR (by omega) (by omega)]; omega
   subst hn' hd';clear hn hdd
   (repeat' (first | (simp only [↓ZI,ZJ,ptrV,intV,ZnW,ZnY,reduceCtorEq,ZnZ,Xa,YS,YG, *]) | (refine Ya rfl (fun _ _ _ h=>h) ?_)))
   delta c124_1 Za Zm Zc
   (repeat' (first | (simp only [↓ZI,ZJ,ZnW,ZnY, *])))
   exact Yk rfl (by simp only [resV,YO,YN,ZL,ZnW,if_true,if_false,Zol,Zog,tupV, *]<;>rfl) ⟨rfl,hs'⟩
mutual
def Pa.psF (l:List Co):Pa→Int
 | .mk c n ks=>if plErr l (.mk c n ks,0)=0 then ZaA l ks else plErr l (.mk c n ks,0)
def ZaA (l:List Co):List Pa→Int
 | []=>0
 | k :: ks=>if k.psF l=0 then ZaA l ks else k.psF l
end
theorem Pa.psF_eq (l:List Co) (p:Pa):p.psF l=if plErr l (p,0)=0 then ZaA l p.kids else plErr l (p,0):=by cases p; rw [Pa.psF]; rfl
theorem Zj0 {l:List Co} {ks:List Pa} {i:Nat} (h:i < ks.length):ZaA l (ks.drop i)=if ks[i].psF l=0 then ZaA l (ks.drop (i + 1)) else ks[i].psF l:=by rw [Zoz h,ZaA]
theorem plErr_at (l:List Co) (p:Pa) (a b:Int):plErr l (p,a)=plErr l (p,b):=rfl
theorem ZdC {l:List Co}:∀ (L M:List Pl),WN l (L ++ M)=if WN l L=0 then WN l M else WN l L
 | [],M=>by simp [WN]
 | x :: L,M=>by
   rw [List.cons_append,WN,WN,ZdC L M];by_cases h:plErr l x=0
   ·simp only [h,if_true]
   ·simp only [h,if_false]
mutual
theorem ZmP (l:List Co):∀ (p:Pa) (a:Int),WN l (p.all a)=p.psF l
 | .mk c n ks,a=>by rw [Pa.all,WN,Pa.psF,ZmQ l ks (a + 1),plErr_at l _ a 0]
theorem ZmQ (l:List Co):∀ (ks:List Pa) (a:Int),WN l (Xp ks a)=ZaA l ks
 | [],a=>rfl
 | k :: ks,a=>by rw [Xp,ZdC,ZmP l k a,ZmQ l ks a,ZaA]
end
theorem ZkK (l:List Co) (p:Pa):paChk l p=if 100 < p.sz then 7 else if 50 < p.dp then 6 else p.psF l:=by
 unfold paChk;rw [dpL_all,ZmP];by_cases h:50 < p.dp
 ·have h':(50:Int) < (p.dp:Int):=by omega
  simp only [h,h',if_true]
 ·have h':¬ (50:Int) < (p.dp:Int):=by omega
  simp only [h,h',if_false]
mutual
def Pa.nmOk:Pa→Prop
 | .mk _ n ks=>n.size≤1099511627776∧Zfc ks
def Zfc:List Pa→Prop
 | []=>True
 | k :: ks=>k.nmOk∧Zfc ks
end
theorem ZfF:∀ {ks:List Pa},Zfc ks↔∀ k∈ks,k.nmOk
 | []=>by simp [Zfc]
 | k :: ks=>by rw [Zfc,ZfF]; simp
theorem Pa.nmOk_iff {e:Pa}:e.nmOk↔e.name.size≤1099511627776∧∀ k∈e.kids,k.nmOk:=by
 cases e; rw [Pa.nmOk,ZfF]; rfl
theorem Zns (l:List Co) (hl:l.length≤1099511627776) (e:Pa):e.sz≤1099511627776→e.nmOk→PureF Tryz.prog 125 [cosV l,paV e] (iV (e.psF l)):=by
 refine Pa.ind (p:=fun e=>e.sz≤1099511627776→e.nmOk→PureF Tryz.prog 125 [cosV l,paV e] (iV (e.psF l))) (fun e ih hs hn=>?_) e;have hz:=e.sz_eq;have hkl:=YZ e.kids;have hn':=Pa.nmOk_iff.1 hn;have ih':∀ i (h:i < e.kids.length),PureF Tryz.prog 125 [cosV l,paV e.kids[i]] (iV (e.kids[i].psF l)):=fun i h=>ih _ (Zn9 h) (by have:=YP (Zn9 h); omega) (hn'.2 _ (Zn9 h))
 have hnm:=ZeV e.name hn'.1;have hco:=Zc6 l e.name hl
 have hat:atCo l e.name=-1∨∃ j:Nat,∃ h:j < l.length,atCo l e.name=j:=by
  rcases Wm (fun c:Co=>decide (c.name=e.name)) l with ⟨h,_⟩ | ⟨j,h,hj,_⟩
  ·exact .inl h
  ·exact .inr ⟨j,h,hj⟩
 have hkN:e.kids.length≤1099511627776:=by omega
 rw [e.psF_eq];obtain ⟨R,hR⟩:∃ R,R=(if plErr l (e,0)=0 then ZaA l e.kids else plErr l (e,0)):=⟨_,rfl⟩
 rw [← hR];unfold plErr at hR;dsimp only at hR;clear ih hn hn' hs hz hkl;refine Zoj fun H=>?_
 refine ZN fd125 (by simp) ?_;delta c125 Zj Zf Zd Zb Zo Zr Zq Za Zp Zc Zm Ze Zk Zn;replace hR:=Zn0 hR
 have hloop:∀ (t:Nat→VV) (B:AH) (r3:Nat),R=ZaA l e.kids→t 0=cosV l→t 3=ptrV r3 0→t 6=iV 0→SubH H B→B r3=some (.cells 126 [bV e.con,sV e.name,encS paE e.kids] 0) →
  ACx ⟨Tryz.prog,57,none⟩ (.loop ZlS) (YX 0 (thenA (ACx ⟨Tryz.prog,57,none⟩ ZlT (YW Tryz.prog [.tmp 4] fun e H'=>e=.ret (iV R)∧SubH H H')) (YW Tryz.prog [.tmp 4] fun e H'=>e=.ret (iV R)∧SubH H H'))) ⟨t,[]⟩ B:=by
  intro t B r3 hR h0 h3 h6 hs k3
  refine ZW (fun _ _ _ h=>h) (fun A H'=>SubH H H'∧H' r3=some (.cells 126 [bV e.con,sV e.name,encS paE e.kids] 0)∧A.d=[]∧A.t 0=cosV l∧A.t 3=ptrV r3 0∧∃ i:Nat,i≤e.kids.length∧A.t 6=iV i∧R=ZaA l (e.kids.drop i))
   (fun A _=>match A.t 6 with | .lit (.int _ i)=>((e.kids.length:Int) - i).toNat | _=>0) ?_ ?_
  ·exact ⟨hs,k3,rfl,h0,h3,0,by omega,h6,hR⟩
  ·clear hR h0 h3 h6 hs k3;rintro ⟨t,d⟩ H' ⟨hs,k3,rfl,h0,h3,i,hi,h6,hR⟩;dsimp only at h0 h3 h6;delta ZlS Za Zd Zb Ze Zn Zr Zk Zo Zc Zm;by_cases hlt:i < e.kids.length
   ·have hil:(i:Int) < (e.kids.length:Int):=by omega
    have hdi:=XQ hlt;have ihi:=ih' i hlt;rw [Zj0 hlt] at hR;replace hR:=Zn0 hR;clear ih' hnm hco hat
    (repeat' (first | (simp only [↓ZI,ZJ,ptrV,intV,ZnW,ZnY,reduceCtorEq,ZnZ,Xa,YS,Jc,YG,en_125, *]) | (refine Ym ?_ ?_<;>intro) | (refine ZP ?_) | (refine Zn3 (ihi) ?_) | (with_reducible refine And.intro ?_ ?_)))
    all_goals try rw [ZR (n:=(i:Int) + 1) (by omega) (by omega)]
    all_goals first
     | omega
     | exact hs
     | (have hne:(!decide (Pa.psF l e.kids[i]=0))=true:=by assumption
        rw [hR.out,if_neg (by simpa using hne)])
     | (have hne:(!decide (Pa.psF l e.kids[i]=0))=false:=by assumption
        exact ⟨i + 1,by omega,rfl,by rw [hR.out,if_pos (by simpa using hne)]⟩)
     | trace_state
   ·have hil:¬ (i:Int) < (e.kids.length:Int):=by omega
    rw [Zop (by omega)] at hR;have hR:R=0:=hR;rw [hR];clear ih' hnm hco hat hR
    (repeat' (first | (simp only [↓ZI,ZJ,ptrV,intV,ZnW,ZnY,reduceCtorEq,ZnZ,Xa,YS,YG, *]) | (refine Ya rfl (fun _ _ _ h=>h) ?_)))
    delta ZlT Zf
    (repeat' (first | (simp only [↓ZI,ZJ,ZnW,ZnY, *]) | (refine ZP ?_)))
    all_goals try exact hs
 clear ih';replace hR:=hR.out;generalize hnb:nameB e.name=nb at *
 generalize hac:atCo l e.name=ac at *
 cases nb with
 | false =>
   have hR':=Zn0 (show (411:Int)=R by rw [hR]; simp);clear hR hloop hat
   (repeat' (first | (simp only [↓ZI,ZJ,ptrV,boolV,ZnW,ZnY,ZU,ZM,ZnZ,undef,XJ,Ye,JL, *]) | (refine ZP ?_) | (refine ZK fun zr zh=>?_; have zg:=zh; (try simp only [Zn2] at zg)) | (exact Zn1 _) | (refine Zn6 ?_ ?_) | (refine Zn3 (hnm) ?_) | (with_reducible refine And.intro ?_ ?_)))
   all_goals first
    | rw [hR'.out]
    | exact Zn5 zh
 | true =>
   cases hc:e.con with
   | false =>
     by_cases hk:0 < e.kids.length
     ·have hk':(0:Int) < (e.kids.length:Int):=by omega
      have hR':=Zn0 (show (411:Int)=R by rw [hR,hc]; simp [hk]);clear hR hloop hat
      (repeat' (first | (simp only [↓ZI,ZJ,ptrV,intV,boolV,ZnW,ZnY,reduceCtorEq,ZM,ZnZ,undef,Xa,XJ,Xx,YS,Ye,JQ,YG,JL, *]) | (refine ZP ?_) | (refine ZK fun zr zh=>?_; have zg:=zh; (try simp only [Zn2] at zg)) | (exact Zn1 _) | (refine Zn6 ?_ ?_) | (refine Zn3 (hnm) ?_) | (with_reducible refine And.intro ?_ ?_)))
      all_goals first
       | rw [hR'.out]
       | exact Zn5 zh
     ·have hk':¬ (0:Int) < (e.kids.length:Int):=by omega
      have hR':=Zn0 (show R=ZaA l e.kids by rw [hR,hc]; simp [hk]);rw [hc] at hloop;clear hR hat
      (repeat' (first | (simp only [↓ZI,ZJ,ptrV,intV,boolV,ZnW,ZnY,reduceCtorEq,ZM,ZnZ,undef,Xa,XJ,Xx,YS,Ye,JQ,YG,JL, *]) | (refine ZK fun zr zh=>?_; have zg:=zh; (try simp only [Zn2] at zg)) | (refine Zn3 (hnm) ?_)))
      exact hloop _ _ zr hR'.out (by simp only [ZL,ZnW,if_false, *]<;>rfl) (by simp only [ZL,ZnW,if_true,if_false, *]<;>rfl) (by simp only [ZL,ZnW,if_true,if_false, *]<;>rfl) (Zn5 zh) (Zn4 _ _ _)
   | true =>
     rcases hat with rfl | ⟨j,hj,rfl⟩
     ·have hR':=Zn0 (show (9:Int)=R by rw [hR,hc]; simp);clear hR hloop
      (repeat' (first | (simp only [↓ZI,ZJ,ptrV,boolV,ZnW,ZnY,reduceCtorEq,ZU,ZM,ZnZ,undef,Zom,ZoA,XJ,Xx,Ye,JQ,JL,Zcj, *]) | (refine ZP ?_) | (refine ZK fun zr zh=>?_; have zg:=zh; (try simp only [Zn2] at zg)) | (exact Zn1 _) | (refine Zn6 ?_ ?_) | (refine Zn3 (hnm) ?_) | (refine Zn3 (hco) ?_) | (with_reducible refine And.intro ?_ ?_)))
      all_goals first
       | rw [hR'.out]
       | exact Zn5 zh
     ·have hcd:=Jx hj;have hjl:(j:Int) < (l.length:Int):=by omega
      have hj0:¬ (j:Int) < 0:=by omega
      by_cases hka:(e.kids.length:Int)=l[j].arity
      ·have hR':=Zn0 (show R=ZaA l e.kids by rw [hR,hc]; simp [hj,hka,hj0]);rw [hc] at hloop;clear hR
       (repeat' (first | (simp only [↓ZI,ZJ,ptrV,intV,boolV,ZnW,ZnY,reduceCtorEq,ZU,ZM,ZnZ,undef,Xa,XJ,Xx,JX,YS,Ye,JQ,Yc,YG,Ja,JL,Zcj, *]) | (refine ZS mixed (fun _ _ _ _ e h=>⟨e.trans h.1,h.2⟩) _ (Zn1 _) ?_) | (refine ZK fun zr zh=>?_; have zg:=zh; (try simp only [Zn2] at zg)) | (refine Zn3 (hnm) ?_) | (refine Zn3 (hco) ?_)))
       exact hloop _ _ zr hR'.out (by simp only [ZL,ZnW,if_false, *]<;>rfl) (by simp only [ZL,ZnW,if_true,if_false, *]<;>rfl) (by simp only [ZL,ZnW,if_true,if_false, *]<;>rfl) (Zn5 zh) (Zn4 _ _ _)
      ·have hR':=Zn0 (show (5:Int)=R by rw [hR,hc]; simp [hj,hka,hj0]);clear hR hloop
       (repeat' (first | (simp only [↓ZI,ZJ,ptrV,intV,boolV,ZnW,ZnY,reduceCtorEq,ZU,ZM,ZnZ,undef,Xa,XJ,Xx,JX,YS,Ye,JQ,Yc,YG,Ja,JL,Zcj, *]) | (refine ZP ?_) | (refine ZS mixed (fun _ _ _ _ e h=>⟨e.trans h.1,h.2⟩) _ (Zn1 _) ?_) | (refine ZK fun zr zh=>?_; have zg:=zh; (try simp only [Zn2] at zg)) | (exact Zn1 _) | (refine Zn6 ?_ ?_) | (refine Zn3 (hnm) ?_) | (refine Zn3 (hco) ?_) | (with_reducible refine And.intro ?_ ?_)))
       all_goals first
        | rw [hR'.out]
        | exact Zn5 zh
theorem Zlk (e:Ex):e.sz≤1152921504606846976→PureF Tryz.prog 128 [exV e] (.tuple [iV e.sz,iV e.dp]):=by
 refine Ex.ind (p:=fun e=>e.sz≤1152921504606846976→PureF Tryz.prog 128 [exV e] (.tuple [iV e.sz,iV e.dp])) (fun e ih hs=>?_) e;have hz:=e.sz_eq;have hl:=YC e.kids;have ih':∀ i (h:i < e.kids.length),PureF Tryz.prog 128 [exV e.kids[i]] (.tuple [iV e.kids[i].sz,iV e.kids[i].dp]):=fun i h=>ih _ (Zn9 h) (by have:=Yl (Zn9 h); omega)
 clear ih;refine Zoj fun H=>?_
 refine ZN fd128 (by simp) ?_;delta c128 Zj Zf;obtain ⟨N,D,hN,hD,hNs,hlN⟩:∃ N D,e.sz=N∧e.dp=D∧N≤1152921504606846976∧e.kids.length≤N:=⟨_,_,rfl,rfl,hs,by omega⟩
 have hDN:D≤N:=by have:=e.dp_le; omega
 have h0:1 + exsSz e.kids=N:=by omega
 have h1:exsDp e.kids + 1=D:=by rw [← hD,e.dp_eq]
 rw [hN,hD];clear hs hl hz hN hD
 (repeat' (first | (simp only [↓ZI,ZJ,ptrV,ZnY,ZM,undef, *]) | (refine ZK fun zr zh=>?_; have zg:=zh; (try simp only [Zn2] at zg))))
 refine ZW (fun _ _ _ h=>h) (fun A H'=>SubH H H'∧A.d=[]∧A.t 1=ptrV zr 0∧∃ (i n d sp:Nat),H' zr=some (.cells 28 [iV e.op,sV e.name,encS exE e.kids] sp)∧i≤e.kids.length∧A.t 6=iV i∧A.t 4=iV n∧A.t 5=iV d∧n + exsSz (e.kids.drop i)=N∧max d (exsDp (e.kids.drop i)) + 1=D)
  (fun A _=>match A.t 6 with | .lit (.int _ i)=>((e.kids.length:Int) - i).toNat | _=>0) ?_ ?_
 ·exact ⟨Zn5 zh,rfl,rfl,0,1,0,0,Zn4 _ _ _,by omega,rfl,rfl,rfl,h0,by simpa using h1⟩
 ·clear h0 h1;rintro ⟨t,d⟩ H' ⟨hs',rfl,h1,i,n,d,sp,k1,hi,h6,h4,h5,hn,hdd⟩;dsimp only at h1 h4 h5 h6;delta b128_1 Za Zd Zb Ze Zn Zr Zk Zo Zh Zc Zq Zm
  (repeat' (first | (simp only [↓ZI,ZJ,ZV,ptrV,intV,ZnW,ZnY,reduceCtorEq,ZnZ,vcMax,XB,Yb,Yv,Yp,Yf,en_128, *]) | (refine ZY ?_ ?_<;>intro) | (refine Ya rfl (fun _ _ _ h=>h) ?_) | (refine Zn3 (ih' _ (by assumption)) ?_) | (with_reducible refine And.intro ?_ ?_)))
  ·rename_i hlt;have e1:=Zb3 hlt;rw [ZR (n:=(i:Int) + 1) (by omega) (by omega),ZR (n:=(n:Int) + (e.kids[i].sz:Int)) (by omega) (by omega)];exact ⟨i + 1,n + e.kids[i].sz,max d e.kids[i].dp,sp,rfl,by omega,rfl,by simp,by simp; split<;>omega,by omega,by rw [Zb4 hlt] at hdd; omega⟩
  ·rename_i hlt;rw [ZR (n:=(i:Int) + 1) (by omega) (by omega)];omega
  ·rename_i hlt;rw [Zop (by omega)] at hn hdd;delta c128_1 Za Zm Zc;have hn':N=n:=by simpa [exsSz] using hn.symm
   have hd':D=d + 1:=by simpa [exsDp] using hdd.symm
   subst hn'; subst hd'
   (repeat' (first | (simp only [↓ZI,ZJ,ZnW,ZnY, *])))
   rw [ZR (n:=(d:Int) + 1) (by omega) (by omega)];exact Yk rfl (by simp only [resV,YO,YN,ZL,ZnW,if_true,if_false,Zol,Zog,tupV, *]<;>rfl) ⟨rfl,hs'⟩
end Go.PV.YtglpmlbbaedbiaaGreat
end
section
open Go.PV.AH renaming set_none→Zn2,set_same→Zn4
open Go.PV.Hold renaming mk→Zn0
open Go.PV.SubH renaming new→Zn5
open List renaming drop→ZnZ,getElem_mem→Zn9,length_append→Zow,take_of_length_le→Zos
open Nat renaming reduceEqDiff→ZnW,reduceLT→ZnY,reduceLeDiff→Zof
set_option maxRecDepth 20000
set_option maxHeartbeats 8000000
namespace Go.PV.YtglpmlbbaedbiaaGreat
open Go Go.Proofs
theorem ZmR {f:FuncId} {xs:List VV} {H0 H:AH} {e:TypeId} {k n:Nat} {cs:List VV} {K:VE→AH→Prop} (h:Yh Tryz.prog f xs H (fun r H'=>∃ v,r=.ret v∧OutE H0 H' e k v n cs)) (hK:∀ v H',OutE H0 H' e k v n cs→K (.ret v) H'):Yh Tryz.prog f xs H K:=fun S w args hs hx =>
 (h S w args hs hx).mono fun e w' hq=>by
   cases e with
   | returned v =>
     obtain ⟨S',H',y,h1,h2,h3,z,h4,h5⟩:=hq;cases h4;exact ⟨S',H',_,h1,h2,h3,hK _ _ h5⟩
   | panicked ch=>obtain ⟨S',H',h1,h2,z,h4,_⟩:=hq; cases h4
   | outgrown=>exact hq
def vrQ (H0:AH) (cs:List ByteArray):VE→AH→Prop:=fun r H'=>∃ v,r=.ret v∧OutE H0 H' 9 1 v cs.length (encC strE cs)
theorem rvars_ok:∀ (n:Nat) (p:Pa) (acc:List ByteArray) (v:VV) (H0 H:AH),p.sz < n→acc.length + p.sz≤1099511627776→OutE H0 H 9 1 v acc.length (encC strE acc)→Yh Tryz.prog 126 [paV p,v] H (vrQ H0 (acc ++ p.names)):=by
 intro n
 induction n with
 | zero=>intro p acc v H0 H h; omega
 | succ n ih =>
   intro p acc v H0 H h0 hs ho;have hz:=p.sz_eq;have hkl:=YZ p.kids;have hkN:p.kids.length≤1099511627776:=by omega
   refine ZN fd126 (by simp) ?_;delta c126 Zj Zq Zd Zb Zr Za Zl Zc Zf;rw [p.names_eq];have hvc:=ho.cells.1;cases hc:p.con with
   | false =>
     rw [if_neg (by simp)];replace ho:=Zn0 ho;clear ih
     (repeat' (first | (simp only [↓ZI,ZJ,ptrV,ZnW,ZnY,Zof,ZM,fillV,setAt,ZnZ,undef,ZQ,ZQ,Xx,XJ,JQ,Ye,YH,Xr, *]) | (refine ZK fun zr zh=>?_; have zg:=zh; (try simp only [Zn2] at zg))))
     refine (ho.out.alloc zh _).append1 (xs:=[sV p.name]) YH Xr rfl (by omega) rfl rfl (by omega) (by omega) (fun v' H' ho2=>?_);have e1:encC strE acc ++ [sV p.name]=encC strE (acc ++ [p.name]):=by rw [Yo]; rfl
     have e2:acc.length + 1=(acc ++ [p.name]).length:=by simp
     rw [e1,e2] at ho2;replace ho2:=Zn0 ho2;clear e1 e2
     (repeat' (first | (simp only [↓ZI,ZJ,ZnW,ZnY, *]) | (refine ZP ?_)))
     exact ⟨v',rfl,ho2.out⟩
   | true =>
     rw [if_pos rfl];have hstart:OutE H0 H 9 1 v (acc ++ ZT (p.kids.take 0)).length (encC strE (acc ++ ZT (p.kids.take 0))):=by simpa [ZT] using ho
     replace ho:=Zn0 ho;replace hstart:=Zn0 hstart
     (repeat' (first | (simp only [↓ZI,ZJ,ptrV,ZnW,ZnY,ZM,ZnZ,undef,Xx,JQ, *]) | (refine ZK fun zr zh=>?_; have zg:=zh; (try simp only [Zn2] at zg))))
     have g1:=ho.out.sub.none zh
     refine ZW (fun _ _ _ h=>h) (fun A H'=>A.d=[]∧A.t 2=ptrV zr 0∧∃ (i:Nat),i≤p.kids.length∧A.t 5=iV i∧OutE (H0.set zr (.cells 126 [bV true,sV p.name,encS paE p.kids] 0)) H' 9 1 (A.t 1) (acc ++ ZT (p.kids.take i)).length (encC strE (acc ++ ZT (p.kids.take i))))
      (fun A _=>match A.t 5 with | .lit (.int _ i)=>((p.kids.length:Int) - i).toNat | _=>0) ?_ ?_
     ·exact ⟨rfl,(by simp only [ZL,ZnW,if_true,if_false, *]<;>rfl),0,by omega,(by simp only [ZL,ZnW,if_true,if_false, *]<;>rfl),by simp only [ZL,ZnW,if_false]; exact hstart.out.allocB zh _⟩
     ·clear hstart;rintro ⟨t,d⟩ H' ⟨rfl,h2,i,hi,h5,ho'⟩;dsimp only at h2 h5 ho';have k2:=ho'.sub _ _ (Zn4 _ _ _);have hvc':=ho'.cells.1;delta b126_1 Za Zd Zb Ze Zn Zr Zk Zo Zc Zm;by_cases hlt:i < p.kids.length
      ·have hil:(i:Int) < (p.kids.length:Int):=by omega
       have hdi:=XQ hlt;have hsm:=YP (Zn9 hlt);have htk:=Jq p.kids (i + 1);rw [Zc4 hlt] at htk;have hnl:=Xm (p.kids.take i);have ihi:=ih p.kids[i] (acc ++ ZT (p.kids.take i)) (t 1) _ H' (by omega) (by rw [Zow]; omega) ho';rw [List.append_assoc,← WC hlt] at ihi;have ihu:=fun K hK=>ZmR (K:=K) ihi hK
       replace ho':=Zn0 ho';clear ih ihi htk hnl
       (repeat' (first | (simp only [↓ZI,ZJ,ptrV,intV,ZnW,ZnY,reduceCtorEq,ZnZ,Xa,YS,Jc,YG,en_126, *]) | (refine ihu _ (fun v2 H2 ho2=>?_)) | (with_reducible refine And.intro ?_ ?_)))
       all_goals try rw [ZR (n:=(i:Int) + 1) (by omega) (by omega)]
       all_goals first
        | omega
        | exact ⟨i + 1,by omega,rfl,ho2⟩
        | trace_state
      ·have hil:¬ (i:Int) < (p.kids.length:Int):=by omega
       rw [Zos (by omega)] at ho';replace ho':=Zn0 ho';clear ih
       (repeat' (first | (simp only [↓ZI,ZJ,ptrV,intV,ZnW,ZnY,reduceCtorEq,ZnZ,Xa,YS,YG, *]) | (refine Ya rfl (fun _ _ _ h=>h) ?_)))
       delta c126_1 Za Zc
       (repeat' (first | (simp only [↓ZI,ZJ,ZnW,ZnY, *]) | (refine ZP ?_)))
       exact ⟨_,rfl,ho'.out.weak (Zn5 g1)⟩
end Go.PV.YtglpmlbbaedbiaaGreat
end
section
open Go.PV.AH renaming set_none→Zn2,get→Zn8,set_same→Zn4,set_ne→Zoa
open Go.PV.Hold renaming mk→Zn0
open Go.PV.PureF renaming use→Zn3,forget→Zoj
open Go.PV.SubH renaming refl→Zn1,of_set→Zn6,new→Zn5
open Int renaming reduceLT→Zom,reduceLE→Zok,reduceEq→Zoh,reduceNeg→ZoA
open List renaming drop→ZnZ,drop_eq_nil_of_le→Zop,eq_nil_of_length_eq_zero→ZoM,nil_append→ZoV,getElem_mem→Zn9
open Nat renaming reduceEqDiff→ZnW,reduceLT→ZnY,reduceLeDiff→Zof,zero_add→Zot
set_option maxRecDepth 20000
set_option maxHeartbeats 8000000
namespace Go.PV.YtglpmlbbaedbiaaGreat
open Go Go.Proofs
theorem ZcO {p:Pr} {op:Int} {name:ByteArray} {ks:List Ex} {nm vars:List ByteArray} {t:Nat→VV} {H0 B:AH} {r3 r4:Nat} {R:Int} (hN:ks.length≤1099511627776)
 (ih:∀ i (h:i < ks.length),PureF Tryz.prog 129 [prV p,exV ks[i],strsV vars] (iV (ks[i].shF p nm))) (hR:R=shsF p ks nm) (h2:t 2=strsV vars) (h3:t 3=ptrV r3 0) (h4:t 4=ptrV r4 0) (h7:t 7=iV ks.length) (h9:t 9=iV 0)
 (k3:B r3=some (.cells 25 [cosV p.cons,fusV p.funs] 0)) (k4:B r4=some (.cells 28 [iV op,sV name,encS exE ks] 0)) (hs:SubH H0 B) :
 ACx ⟨Tryz.prog,140,none⟩ (.loop ZlU) (YX 1 (thenA (ACx ⟨Tryz.prog,140,none⟩ ZlV (sdQ H0 R)) (sdQ H0 R))) ⟨t,[]⟩ B:=by
 refine ZW (fun _ _ _ h=>h) (fun A H'=>H'=B∧A.d=[]∧A.t 2=strsV vars∧A.t 3=ptrV r3 0∧A.t 4=ptrV r4 0∧A.t 7=iV ks.length∧∃ i:Nat,i≤ks.length∧A.t 9=iV i∧R=shsF p (ks.drop i) nm)
  (fun A _=>match A.t 9 with | .lit (.int _ i)=>((ks.length:Int) - i).toNat | _=>0) ?_ ?_
 ·exact ⟨rfl,rfl,h2,h3,h4,h7,0,by omega,h9,hR⟩
 ·clear hR h2 h3 h4 h7 h9;rintro ⟨t,d⟩ H' ⟨rfl,rfl,h2,h3,h4,h7,i,hi,h9,hR⟩;dsimp only at h2 h3 h4 h7 h9;delta ZlU Za Zn Zr Zb Zd Zk Zo Zc Zm;by_cases hlt:i < ks.length
  ·have hil:(i:Int) < (ks.length:Int):=by omega
   have hdi:=XB hlt;rw [Zin hlt] at hR;replace hR:=Zn0 hR;have ihi:=ih i hlt;clear ih
   (repeat' (first | (simp only [↓ZI,ZJ,ptrV,ZnW,ZnY,ZnZ,Yb,YI,Yv,Yp,Yf,en_129, *]) | (refine Ym ?_ ?_<;>intro) | (refine ZP ?_) | (refine ZS mixed (fun _ _ _ _ e h=>⟨e.trans h.1,h.2⟩) _ (Zn1 _) ?_) | (refine Zn3 (ihi) ?_) | (with_reducible refine And.intro ?_ ?_)))
   all_goals try rw [ZR (n:=(i:Int) + 1) (by omega) (by omega)]
   all_goals first
    | omega
    | exact hs
    | (have hne:(!decide (Ex.shF p ks[i] nm=0))=true:=by assumption
       rw [hR.out,if_neg (by simpa using hne)])
    | (have hne:(!decide (Ex.shF p ks[i] nm=0))=false:=by assumption
       exact ⟨i + 1,by omega,rfl,by rw [hR.out,if_pos (by simpa using hne)]⟩)
  ·have hil:¬ (i:Int) < (ks.length:Int):=by omega
   rw [Zop (by omega)] at hR;have hR:R=0:=hR;subst hR
   (repeat' (first | (simp only [↓ZI,ZJ,ptrV,ZnW,ZnY, *]) | (refine Ya rfl (fun _ _ _ h=>h) ?_)))
   delta ZlV Zf
   (repeat' (first | (simp only [↓ZI,ZJ,ZnW,ZnY, *]) | (refine ZP ?_)))
   all_goals try exact hs
theorem rsh_node {p:Pr} {op nk ac af:Int} {name:ByteArray} {kids:List Ex} {m nb hb:Bool} {nm vars:List ByteArray} {R:Int} (hN:kids.length≤1099511627776) (hvl:vars.length≤1099511627776) (hnk:(kids.length:Int)=nk) (hmm:∀ x,x∈nm↔x∈vars)
 (ih:∀ (nm' vars':List ByteArray),(∀ x,x∈nm'↔x∈vars')→vars'.length≤vars.length + 1→∀ i (h:i < kids.length),PureF Tryz.prog 129 [prV p,exV kids[i],strsV vars'] (iV (kids[i].shF p nm')))
 (hn:PureF Tryz.prog 87 [sV name] (boolV nb)) (hc:PureF Tryz.prog 88 [cosV p.cons,sV name] (iV ac)) (hf:PureF Tryz.prog 89 [fusV p.funs,sV name] (iV af))
 (hat:ac=-1∨∃ j:Nat,∃ h:j < p.cons.length,ac=j) (hhas:PureF Tryz.prog 127 [strsV vars,sV name] (boolV hb))
 (hm:m=if op=1∨op=2 then decide (0 < nk) || !nb else if op=3 then !nb else if op=4 then decide (nk < 2) || !decide (name={ data:=#[] }) else if op=5 then !decide (nk=1) || !nb else true)
 (o:Int) (ho:o=if m=true then 411 else if (op=2∧af < 0)∨(op=3∧ac < 0) then 9 else if op=3∧¬ nk=(match p.cons[ac.toNat]? with | some c=>c.arity | none=>0) then 5 else if op=1∧hb=false then 411 else 0)
 (hR:R=if o=0 then shsF p kids (if op=5 then name :: nm else nm) else o):PureF Tryz.prog 129 [prV p,.agg [iV op,sV name,encS exE kids],strsV vars] (iV R):=by
 refine Zoj fun H=>?_
 refine ZN fd129 (by simp) ?_;delta c129 Zj Zf Zd Zb Ze Zc Zm Za Zp Zr Zq Zl;by_cases h1:op=1
 ·subst h1;by_cases hk:0 < nk
  ·have hR':=Zn0 (show (411:Int)=R by rw [hR,ho,hm]; simp [hk]);clear hR ho hm ih hmm
   (repeat' (first | (simp only [↓ZI,ZJ,ptrV,intV,ZnW,ZnY,reduceCtorEq,ZM,ZnZ,undef,Zom,Zok,Yb,ZZ,Yv,Yc,Yf, *]) | (refine ZP ?_) | (refine ZK fun zr zh=>?_; have zg:=zh; (try simp only [Zn2] at zg)) | (exact Zn1 _) | (refine Zn6 ?_ ?_) | (with_reducible refine And.intro ?_ ?_)))
   all_goals first
    | rw [hR'.out]
    | (rename_i r3 n3 n3'; exact (Zn5 n3).of_set zg.2)
  ·cases nb with
   | false =>
     have hR':=Zn0 (show (411:Int)=R by rw [hR,ho,hm]; simp [hk]);clear hR ho hm ih hmm
     (repeat' (first | (simp only [↓ZI,ZJ,ptrV,intV,boolV,ZnW,ZnY,reduceCtorEq,ZU,ZM,ZnZ,undef,Zoh,Zom,Zok,Yb,ZZ,Yq,Yv,Yc,Ye,Yf,JL, *]) | (refine ZP ?_) | (refine ZK fun zr zh=>?_; have zg:=zh; (try simp only [Zn2] at zg)) | (exact Zn1 _) | (refine Zn6 ?_ ?_) | (refine Zn3 (hn) ?_) | (with_reducible refine And.intro ?_ ?_)))
     all_goals first
      | rw [hR'.out]
      | (rename_i r3 n3 n3'; exact (Zn5 n3).of_set zg.2)
   | true =>
     cases hb with
     | false =>
       have hR':=Zn0 (show (411:Int)=R by rw [hR,ho,hm]; simp [hk]);clear hR ho hm ih hmm
       (repeat' (first | (simp only [↓ZI,ZJ,ptrV,intV,boolV,ZnW,ZnY,reduceCtorEq,ZU,ZM,ZnZ,undef,Zoh,Zom,Zok,Yb,ZZ,Yq,Yv,Yc,Ye,Yf,JL,ZeO,Zcj,ZeB, *]) | (refine ZP ?_) | (refine ZS mixed (fun _ _ _ _ e h=>⟨e.trans h.1,h.2⟩) _ (Zn1 _) ?_) | (refine ZK fun zr zh=>?_; have zg:=zh; (try simp only [Zn2] at zg)) | (exact Zn1 _) | (refine Zn6 ?_ ?_) | (refine Zn3 (hn) ?_) | (refine Zn3 (hhas) ?_) | (with_reducible refine And.intro ?_ ?_)))
       all_goals first
        | rw [hR'.out]
        | (rename_i r3 n3 n3'; exact (Zn5 n3).of_set zg.2)
     | true =>
       have hR':=Zn0 (show R=shsF p kids nm by rw [hR,ho,hm]; simp [hk]);replace hmm:=Zn0 hmm;clear hR ho hm
       (repeat' (first | (simp only [↓ZI,ZJ,ptrV,intV,boolV,ZnW,ZnY,reduceCtorEq,ZU,ZM,ZnZ,undef,Zoh,Zom,Zok,Yb,ZZ,Yq,Yv,Yc,Ye,Yf,JL,ZeO,Zcj,ZeB, *]) | (refine ZS mixed (fun _ _ _ _ e h=>⟨e.trans h.1,h.2⟩) _ (Zn1 _) ?_) | (refine ZK fun zr zh=>?_; have zg:=zh; (try simp only [Zn2] at zg)) | (exact Zn1 _) | (refine Zn3 (hn) ?_) | (refine Zn3 (hhas) ?_) | (with_reducible refine And.intro ?_ ?_)))
       rename_i r3 n3 n3';refine ZcO (op:=1) (name:=name) (ks:=kids) (nm:=nm) (vars:=vars) (r3:=r3) (r4:=zr) hN (fun i h=>ih nm vars hmm.out (by omega) i h) hR'.out (by simp only [ZL,ZnW,if_false, *]<;>rfl) (by simp only [ZL,ZnW,if_true,if_false, *]<;>rfl) (by simp only [ZL,ZnW,if_true,if_false, *]<;>rfl) (by simp only [ZL,ZnW,if_true,if_false, *]<;>rfl) (by simp only [ZL,ZnW,if_true,if_false, *]<;>rfl) (by simp only [Zn8, *,if_true,if_false]<;>rfl) (Zn4 _ _ _) ((Zn5 n3).of_set zg.2)
 ·by_cases h2:op=2
  ·subst h2;by_cases hk:0 < nk
   ·have hR':=Zn0 (show (411:Int)=R by rw [hR,ho,hm]; simp [hk]);clear hR ho hm ih hmm
    (repeat' (first | (simp only [↓ZI,ZJ,ptrV,intV,ZnW,ZnY,reduceCtorEq,ZM,ZnZ,undef,Zom,Zok,Yb,ZZ,Yv,Yc,Yf, *]) | (refine ZP ?_) | (refine ZK fun zr zh=>?_; have zg:=zh; (try simp only [Zn2] at zg)) | (exact Zn1 _) | (refine Zn6 ?_ ?_) | (with_reducible refine And.intro ?_ ?_)))
    all_goals first
     | rw [hR'.out]
     | (rename_i r3 n3 n3'; exact (Zn5 n3).of_set zg.2)
   ·cases nb with
    | false =>
      have hR':=Zn0 (show (411:Int)=R by rw [hR,ho,hm]; simp [hk]);clear hR ho hm ih hmm
      (repeat' (first | (simp only [↓ZI,ZJ,ptrV,intV,boolV,ZnW,ZnY,reduceCtorEq,ZU,ZM,ZnZ,undef,Zoh,Zom,Zok,Yb,ZZ,Yq,Yv,Yc,Ye,Yf,JL, *]) | (refine ZP ?_) | (refine ZK fun zr zh=>?_; have zg:=zh; (try simp only [Zn2] at zg)) | (exact Zn1 _) | (refine Zn6 ?_ ?_) | (refine Zn3 (hn) ?_) | (with_reducible refine And.intro ?_ ?_)))
      all_goals first
       | rw [hR'.out]
       | (rename_i r3 n3 n3'; exact (Zn5 n3).of_set zg.2)
    | true =>
      by_cases haf:af < 0
      ·have hR':=Zn0 (show (9:Int)=R by rw [hR,ho,hm]; simp [hk,haf]);clear hR ho hm ih hmm
       (repeat' (first | (simp only [↓ZI,ZJ,ptrV,intV,boolV,ZnW,ZnY,reduceCtorEq,ZU,ZM,ZnZ,undef,Zoh,Zom,Zok,Yb,ZZ,Yq,Xj,Yv,Yc,Ye,Wz,Yf,JL,ZeO, *]) | (refine ZP ?_) | (refine ZK fun zr zh=>?_; have zg:=zh; (try simp only [Zn2] at zg)) | (exact Zn1 _) | (refine Zn6 ?_ ?_) | (refine Zn3 (hn) ?_) | (refine Zn3 (hf) ?_) | (with_reducible refine And.intro ?_ ?_)))
       all_goals first
        | rw [hR'.out]
        | (rename_i r3 n3 n3'; exact (Zn5 n3).of_set zg.2)
      ·have hR':=Zn0 (show R=shsF p kids nm by rw [hR,ho,hm]; simp [hk,haf]);replace hmm:=Zn0 hmm;clear hR ho hm
       (repeat' (first | (simp only [↓ZI,ZJ,ptrV,intV,boolV,ZnW,ZnY,reduceCtorEq,ZU,ZM,ZnZ,undef,Zoh,Zom,Zok,Yb,ZZ,Yq,Xj,Yv,Yc,Ye,Wz,Yf,JL,ZeO,Zcj,ZeB, *]) | (refine ZS mixed (fun _ _ _ _ e h=>⟨e.trans h.1,h.2⟩) _ (Zn1 _) ?_) | (refine ZK fun zr zh=>?_; have zg:=zh; (try simp only [Zn2] at zg)) | (exact Zn1 _) | (refine Zn3 (hn) ?_) | (refine Zn3 (hf) ?_) | (with_reducible refine And.intro ?_ ?_)))
       rename_i r3 n3 n3';refine ZcO (op:=2) (name:=name) (ks:=kids) (nm:=nm) (vars:=vars) (r3:=r3) (r4:=zr) hN (fun i h=>ih nm vars hmm.out (by omega) i h) hR'.out (by simp only [ZL,ZnW,if_false, *]<;>rfl) (by simp only [ZL,ZnW,if_true,if_false, *]<;>rfl) (by simp only [ZL,ZnW,if_true,if_false, *]<;>rfl) (by simp only [ZL,ZnW,if_true,if_false, *]<;>rfl) (by simp only [ZL,ZnW,if_true,if_false, *]<;>rfl) (by simp only [Zn8, *,if_true,if_false]<;>rfl) (Zn4 _ _ _) ((Zn5 n3).of_set zg.2)
  ·by_cases h3:op=3
   ·subst h3;cases nb with
    | false =>
      have hR':=Zn0 (show (411:Int)=R by rw [hR,ho,hm]; simp);clear hR ho hm ih hmm
      (repeat' (first | (simp only [↓ZI,ZJ,ptrV,intV,boolV,ZnW,ZnY,reduceCtorEq,ZU,ZM,ZnZ,undef,Zoh,Zom,Zok,Yb,ZZ,Yq,Yv,Yc,Ye,Yf,JL, *]) | (refine ZP ?_) | (refine ZK fun zr zh=>?_; have zg:=zh; (try simp only [Zn2] at zg)) | (exact Zn1 _) | (refine Zn6 ?_ ?_) | (refine Zn3 (hn) ?_) | (with_reducible refine And.intro ?_ ?_)))
      all_goals first
       | rw [hR'.out]
       | (rename_i r3 n3 n3'; exact (Zn5 n3).of_set zg.2)
    | true =>
      rcases hat with rfl | ⟨j,hj,rfl⟩
      ·have hR':=Zn0 (show (9:Int)=R by rw [hR,ho,hm]; simp);clear hR ho hm ih hmm
       (repeat' (first | (simp only [↓ZI,ZJ,ptrV,intV,boolV,ZnW,ZnY,reduceCtorEq,ZU,ZM,ZnZ,undef,Zoh,Zom,Zok,ZoA,Yb,ZZ,Yq,Wr,Yv,Yc,Ye,Zav,Yf,JL,ZeO,Zcj, *]) | (refine ZP ?_) | (refine ZK fun zr zh=>?_; have zg:=zh; (try simp only [Zn2] at zg)) | (exact Zn1 _) | (refine Zn6 ?_ ?_) | (refine Zn3 (hn) ?_) | (refine Zn3 (hc) ?_) | (with_reducible refine And.intro ?_ ?_)))
       all_goals first
        | rw [hR'.out]
        | (rename_i r3 n3 n3'; exact (Zn5 n3).of_set zg.2)
      ·have hcd:=Jx hj;have hjl:(j:Int) < (p.cons.length:Int):=by omega
       have hj0:¬ (j:Int) < 0:=by omega
       by_cases hka:nk=p.cons[j].arity
       ·have hR':=Zn0 (show R=shsF p kids nm by rw [hR,ho,hm]; simp [hj,hka,hj0]);replace hmm:=Zn0 hmm;clear hR ho hm
        (repeat' (first | (simp only [↓ZI,ZJ,ptrV,intV,boolV,ZnW,ZnY,reduceCtorEq,ZU,ZM,ZnZ,undef,Zoh,Zom,Zok,Yb,ZZ,Yq,Wr,JX,Yv,Yc,Ye,Zav,Yf,Ja,JL,ZeO,Zcj,ZeB, *]) | (refine ZS mixed (fun _ _ _ _ e h=>⟨e.trans h.1,h.2⟩) _ (Zn1 _) ?_) | (refine ZK fun zr zh=>?_; have zg:=zh; (try simp only [Zn2] at zg)) | (exact Zn1 _) | (refine Zn3 (hn) ?_) | (refine Zn3 (hc) ?_) | (with_reducible refine And.intro ?_ ?_)))
        rename_i r3 n3 n3';refine ZcO (op:=3) (name:=name) (ks:=kids) (nm:=nm) (vars:=vars) (r3:=r3) (r4:=zr) hN (fun i h=>ih nm vars hmm.out (by omega) i h) hR'.out (by simp only [ZL,ZnW,if_false, *]<;>rfl) (by simp only [ZL,ZnW,if_true,if_false, *]<;>rfl) (by simp only [ZL,ZnW,if_true,if_false, *]<;>rfl) (by simp only [ZL,ZnW,if_true,if_false, *]<;>rfl) (by simp only [ZL,ZnW,if_true,if_false, *]<;>rfl) (by simp only [Zn8, *,if_true,if_false]<;>rfl) (Zn4 _ _ _) ((Zn5 n3).of_set zg.2)
       ·have hR':=Zn0 (show (5:Int)=R by rw [hR,ho,hm]; simp [hj,hka,hj0]);clear hR ho hm ih hmm
        (repeat' (first | (simp only [↓ZI,ZJ,ptrV,intV,boolV,ZnW,ZnY,reduceCtorEq,ZU,ZM,ZnZ,undef,Zoh,Zom,Zok,Yb,ZZ,Yq,Wr,JX,Yv,Yc,Ye,Zav,Yf,Ja,JL,ZeO,Zcj, *]) | (refine ZP ?_) | (refine ZS mixed (fun _ _ _ _ e h=>⟨e.trans h.1,h.2⟩) _ (Zn1 _) ?_) | (refine ZK fun zr zh=>?_; have zg:=zh; (try simp only [Zn2] at zg)) | (exact Zn1 _) | (refine Zn6 ?_ ?_) | (refine Zn3 (hn) ?_) | (refine Zn3 (hc) ?_) | (with_reducible refine And.intro ?_ ?_)))
        all_goals first
         | rw [hR'.out]
         | (rename_i r3 n3 n3'; exact (Zn5 n3).of_set zg.2)
   ·by_cases h4:op=4
    ·subst h4;by_cases hk:nk < 2
     ·have hR':=Zn0 (show (411:Int)=R by rw [hR,ho,hm]; simp [hk]);clear hR ho hm ih hmm
      (repeat' (first | (simp only [↓ZI,ZJ,ptrV,intV,ZnW,ZnY,reduceCtorEq,ZU,ZM,ZnZ,undef,Zoh,Zom,Zok,Yb,ZZ,Yv,Yc,Yf, *]) | (refine ZP ?_) | (refine ZK fun zr zh=>?_; have zg:=zh; (try simp only [Zn2] at zg)) | (exact Zn1 _) | (refine Zn6 ?_ ?_) | (with_reducible refine And.intro ?_ ?_)))
      all_goals first
       | rw [hR'.out]
       | (rename_i r3 n3 n3'; exact (Zn5 n3).of_set zg.2)
     ·by_cases hnn:name={ data:=#[] }
      ·have hR':=Zn0 (show R=shsF p kids nm by rw [hR,ho,hm]; simp [hk,hnn]);replace hmm:=Zn0 hmm;clear hR ho hm
       (repeat' (first | (simp only [↓ZI,ZJ,↓XF,ptrV,intV,ZnW,ZnY,reduceCtorEq,ZU,ZM,ZnZ,undef,Zoh,Zom,Zok,Yb,ZZ,Yq,Yv,Yc,Ye,Yf,JL,ZeO,Zcj,ZeB, *]) | (refine ZS mixed (fun _ _ _ _ e h=>⟨e.trans h.1,h.2⟩) _ (Zn1 _) ?_) | (refine ZK fun zr zh=>?_; have zg:=zh; (try simp only [Zn2] at zg)) | (exact Zn1 _) | (with_reducible refine And.intro ?_ ?_)))
       rename_i r3 n3 n3';refine ZcO (op:=4) (name:={ data:=#[] }) (ks:=kids) (nm:=nm) (vars:=vars) (r3:=r3) (r4:=zr) hN (fun i h=>ih nm vars hmm.out (by omega) i h) hR'.out (by simp only [ZL,ZnW,if_false, *]<;>rfl) (by simp only [ZL,ZnW,if_true,if_false, *]<;>rfl) (by simp only [ZL,ZnW,if_true,if_false, *]<;>rfl) (by simp only [ZL,ZnW,if_true,if_false, *]<;>rfl) (by simp only [ZL,ZnW,if_true,if_false, *]<;>rfl) (by simp only [Zn8, *,if_true,if_false]<;>rfl) (Zn4 _ _ _) ((Zn5 n3).of_set zg.2)
      ·have hR':=Zn0 (show (411:Int)=R by rw [hR,ho,hm]; simp [hk,hnn]);clear hR ho hm ih hmm
       (repeat' (first | (simp only [↓ZI,ZJ,↓XF,ptrV,intV,ZnW,ZnY,reduceCtorEq,ZU,ZM,ZnZ,undef,Zoh,Zom,Zok,Yb,ZZ,Yq,Yv,Yc,Ye,Yf, *]) | (refine ZP ?_) | (refine ZK fun zr zh=>?_; have zg:=zh; (try simp only [Zn2] at zg)) | (exact Zn1 _) | (refine Zn6 ?_ ?_) | (with_reducible refine And.intro ?_ ?_)))
       all_goals first
        | rw [hR'.out]
        | (rename_i r3 n3 n3'; exact (Zn5 n3).of_set zg.2)
    ·by_cases h5:op=5
     ·subst h5;by_cases hk:nk=1
      ·cases nb with
       | false =>
         have hR':=Zn0 (show (411:Int)=R by rw [hR,ho,hm]; simp [hk]);clear hR ho hm ih hmm
         (repeat' (first | (simp only [↓ZI,ZJ,ptrV,intV,boolV,ZnW,ZnY,reduceCtorEq,ZU,ZM,ZnZ,undef,Zom,Zok,Yb,ZZ,Yq,Yv,Yc,Ye,Yf,JL, *]) | (refine ZP ?_) | (refine ZK fun zr zh=>?_; have zg:=zh; (try simp only [Zn2] at zg)) | (exact Zn1 _) | (refine Zn6 ?_ ?_) | (refine Zn3 (hn) ?_) | (with_reducible refine And.intro ?_ ?_)))
         all_goals first
          | rw [hR'.out]
          | (rename_i r3 n3 n3'; exact (Zn5 n3).of_set zg.2)
       | true =>
         have hR':=Zn0 (show R=shsF p kids (name :: nm) by rw [hR,ho,hm]; simp [hk]);replace hmm:=Zn0 hmm;clear hR ho hm
         (repeat' (first | (simp only [↓ZI,ZJ,ptrV,intV,boolV,ZnW,ZnY,Zof,reduceCtorEq,ZU,ZM,fillV,ZnZ,undef,Zom,Zok,ZQ,ZQ,Yb,ZZ,Yq,Yv,Yc,Ye,Yf,YH,Xr,JL,ZeO,Zcj,ZeB, *]) | (refine ZS mixed (fun _ _ _ _ e h=>⟨e.trans h.1,h.2⟩) _ (Zn1 _) ?_) | (refine ZK fun zr zh=>?_; have zg:=zh; (try simp only [Zn2] at zg)) | (exact Zn1 _) | (refine Zn3 (hn) ?_) | (with_reducible refine And.intro ?_ ?_)))
         rename_i r3 n3 n3';have hsr:∀ b1 b2,SubH H ((H.set r3 b1).set zr b2):=fun _ _=>(Zn5 n3).of_set zg.2
         refine (OutE.start (Zn1 _)).append YH Xr rfl (by omega) (XZ (enc:=strE) (k:=1) (fun _=>rfl) _ false vars) (Xv Ze7 vars) (by omega) (by omega) (fun h0=>by rw [ZoM h0]; rfl) (fun v' H' ho=>?_);have k4:=ho.sub _ _ (Zn4 _ _ _);rw [Zot,ZoV] at ho;replace ho:=Zn0 ho
         (repeat' (first | (simp only [↓ZI,ZJ,ZnW,ZnY,Zof,fillV,setAt,ZnZ,ZQ,ZQ,Yq,Ye,YH,Xr, *])))
         refine ho.out.append1 (xs:=[sV name]) YH Xr rfl (by omega) rfl rfl (by omega) (by omega) (fun v2 H2 ho2=>?_);have e1:encC strE vars ++ [sV name]=encC strE (vars ++ [name]):=by rw [Yo]; rfl
         have e2:vars.length + 1=(vars ++ [name]).length:=by simp
         rw [e1,e2] at ho2;have hc2:=ho2.cells.1;have k42:=ho2.sub _ _ (Zn4 _ _ _);replace ho2:=Zn0 ho2;clear e1 e2
         (repeat' (first | (simp only [↓ZI,ZJ,ZnW,ZnY, *])))
         refine XI (OutE.ghost (i:=2) (e:=9) (k:=1) (n:=(vars ++ [name]).length) (cs:=encC strE (vars ++ [name])) (by simp only [ZL,ZnW,if_true,if_false]; exact ho2.out) _) ?_;refine ZcO (op:=5) (name:=name) (ks:=kids) (nm:=name :: nm) (vars:=vars ++ [name]) (r3:=r3) (r4:=zr) hN (fun i h=>ih _ _ (fun x=>?_) (by simp) i h) hR'.out (by simp only [ZL,ZnW,if_true,if_false, *]<;>rfl) (by simp only [ZL,ZnW,if_true,if_false, *]<;>rfl) (by simp only [ZL,ZnW,if_true,if_false, *]<;>rfl) (by simp only [ZL,ZnW,if_true,if_false, *]<;>rfl) (by simp only [ZL,ZnW,if_true,if_false, *]<;>rfl) (by rw [Zoa _ _ zg.1.2]; exact Zn4 _ _ _) (Zn4 _ _ _) (hsr _ _)
         have:=hmm.out x
         simp only [List.mem_cons,List.mem_append,List.not_mem_nil,or_false,this];exact Or.comm
      ·have hR':=Zn0 (show (411:Int)=R by rw [hR,ho,hm]; simp [hk]);clear hR ho hm ih hmm
       (repeat' (first | (simp only [↓ZI,ZJ,ptrV,intV,ZnW,ZnY,reduceCtorEq,ZU,ZM,ZnZ,undef,Zom,Zok,Yb,ZZ,Yv,Yc,Yf, *]) | (refine ZP ?_) | (refine ZK fun zr zh=>?_; have zg:=zh; (try simp only [Zn2] at zg)) | (exact Zn1 _) | (refine Zn6 ?_ ?_) | (with_reducible refine And.intro ?_ ?_)))
       all_goals first
        | rw [hR'.out]
        | (rename_i r3 n3 n3'; exact (Zn5 n3).of_set zg.2)
     ·have hR':=Zn0 (show (411:Int)=R by rw [hR,ho,hm]; simp [h1,h2,h3,h4,h5]);clear hR ho hm ih hmm;by_cases hlo:op < 1
      ·(repeat' (first | (simp only [↓ZI,ZJ,ptrV,intV,ZnW,ZnY,reduceCtorEq,ZU,ZM,ZnZ,undef,Yb,ZZ,Yv,Yc,Yf, *]) | (refine ZP ?_) | (refine ZK fun zr zh=>?_; have zg:=zh; (try simp only [Zn2] at zg)) | (exact Zn1 _) | (refine Zn6 ?_ ?_) | (with_reducible refine And.intro ?_ ?_)))
       all_goals first
        | rw [hR'.out]
        | (rename_i r3 n3 n3'; exact (Zn5 n3).of_set zg.2)
      ·have hhi:5 < op:=by omega
       (repeat' (first | (simp only [↓ZI,ZJ,ptrV,intV,ZnW,ZnY,reduceCtorEq,ZM,ZnZ,undef,Yb,ZZ,Yv,Yc,Yf, *]) | (refine ZP ?_) | (refine ZK fun zr zh=>?_; have zg:=zh; (try simp only [Zn2] at zg)) | (exact Zn1 _) | (refine Zn6 ?_ ?_) | (with_reducible refine And.intro ?_ ?_)))
       all_goals first
        | rw [hR'.out]
        | (rename_i r3 n3 n3'; exact (Zn5 n3).of_set zg.2)
theorem Znt (p:Pr) (hpc:p.cons.length≤1099511627776) (hpf:p.funs.length≤1099511627776):∀ (n:Nat) (e:Ex) (nm vars:List ByteArray),e.sz < n→vars.length + e.sz≤1099511627776→e.nmOk→(∀ x,x∈nm↔x∈vars)→PureF Tryz.prog 129 [prV p,exV e,strsV vars] (iV (e.shF p nm)):=by
 intro n
 induction n with
 | zero=>intro e nm vars h0; omega
 | succ n ih =>
   intro e nm vars h0 hs hnm hmm;have z:=e.sz_eq;have hkl:=YC e.kids;rw [Ex.nmOk_iff] at hnm
   have hh:hasF nm e.name=hasF vars e.name:=by
    cases h1:hasF nm e.name with
    | true=>exact (WI.2 ((hmm _).1 (WI.1 h1))).symm
    | false =>
      cases h2:hasF vars e.name with
      | false=>rfl
      | true=>rw [WI.2 ((hmm _).2 (WI.1 h2))] at h1; cases h1
   refine rsh_node (nk:=e.kids.length) (ac:=atCo p.cons e.name) (af:=atFu p.funs e.name) (m:=misF e) (nb:=nameB e.name) (hb:=hasF nm e.name) (nm:=nm) (by omega) (by omega) rfl hmm (fun nm' vars' hm' hl i h=>?_) (ZeV _ hnm.1) (Zc6 p.cons e.name hpc) (Zio p.funs e.name hpf) ?_ (by rw [hh]; exact Zip vars e.name (by omega)) rfl (ownF p e nm) rfl (e.shF_eq p nm)
   ·have:=Yl (Zn9 h)
    exact ih _ _ _ (by omega) (by omega) (hnm.2 _ (Zn9 h)) hm'
   ·rcases Wm (fun c:Co=>decide (c.name=e.name)) p.cons with ⟨h,_⟩ | ⟨j,h,hj,_⟩
    ·exact .inl h
    ·exact .inr ⟨j,h,hj⟩
end Go.PV.YtglpmlbbaedbiaaGreat
end
