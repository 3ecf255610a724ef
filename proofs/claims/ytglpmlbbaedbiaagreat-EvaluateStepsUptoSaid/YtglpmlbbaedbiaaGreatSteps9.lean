/- Part 9 of 11 of what the proof of Steps needs. -/
import Derived.Test.YtglpmlbbaedbiaaGreatSteps5
import Derived.Test.YtglpmlbbaedbiaaGreatSteps6
import Derived.Test.YtglpmlbbaedbiaaGreatSteps7
import Derived.Test.YtglpmlbbaedbiaaGreatSteps8
set_option linter.unusedVariables false
set_option linter.unusedSimpArgs false
set_option linter.defProp false
section
open Go.PV.AH renaming set_none→Zn2,ne_of→ZnX,set_same→Zn4,get→Zn8
open Go.PV.GhL renaming cons→Zod
open Go.PV.GhV renaming forget→Zoi,refl→Zoq
open Go.PV.Hold renaming mk→Zn0
open Go.PV.PureF renaming use→Zn3
open Go.PV.SubH renaming new→Zn5,refl→Zn1
open Int renaming reduceLE→Zok,reduceNeg→ZoA,reduceEq→Zoh
open List renaming map_cons→Zou,drop_zero→ZoB,drop→ZnZ,take_of_length_le→Zos,length_take→ZoF,length_append→Zow,append_nil→ZoO,getElem_mem→Zn9
open Nat renaming reduceEqDiff→ZnW,reduceLT→ZnY,reduceAdd→Zn7,reduceLeDiff→Zof,reduceMul→Zor,le_refl→Zoc,lt_or_ge→Zoy
set_option maxRecDepth 20000
set_option maxHeartbeats 4000000
namespace Go.PV.YtglpmlbbaedbiaaGreat
open Go Go.Proofs
mutual
def Ex.putM (m:Bool):Ex→List Bd→Ex
 | .mk op n ks,l=>if m=true∧op=9 then .mk op n ks else match (if op=1 then lastB l n else none) with
   | some e=>if m=true then .mk 9 { data:=#[] } [e] else e
   | none=>.mk op n (ZdG m ks (if op=5 then l.filter (fun b=>!decide (b.1=n)) else l))
def ZdG (m:Bool):List Ex→List Bd→List Ex
 | [],_=>[]
 | k :: ks,l=>k.putM m l :: ZdG m ks l
end
theorem ZgL (m:Bool):∀ (ks:List Ex) (l:List Bd),ZdG m ks l=ks.map (·.putM m l)
 | [],_=>rfl
 | k :: ks,l=>by rw [ZdG,Zou,ZgL m ks l]
theorem Ex.putM_eq (m:Bool) (e:Ex) (l:List Bd):e.putM m l=if m=true∧e.op=9 then e else match (if e.op=1 then lastB l e.name else none) with
 | some x=>if m=true then .mk 9 { data:=#[] } [x] else x
 | none=>.mk e.op e.name (e.kids.map (·.putM m (if e.op=5 then l.filter (fun b=>!decide (b.1=e.name)) else l))):=by
 cases e; rw [Ex.putM,ZgL]; rfl
mutual
theorem Ex.putM_false:∀ (e:Ex) (l:List Bd),e.putM false l=e.put l
 | .mk op n ks,l=>by
   rw [Ex.putM,Ex.put,if_neg (by simp),ZdH ks]
   split<;>simp_all
theorem ZdH:∀ (ks:List Ex) (l:List Bd),ZdG false ks l=Zdv ks l
 | [],l=>rfl
 | k :: ks,l=>by rw [ZdG,Zdv,Ex.putM_false k l,ZdH ks l]
end
def rpQ (H0:AH) (x:Ex):APost:=YW Tryz.prog [.cell 6 28] fun e H'=>∃ y,e=VE.ret y∧GhV H' y H0 (exV x)
theorem ZeY {H0 H:AH} {t:Nat→VV} {r6 sp:Nat} {a b c:VV} {x:Ex} {e':TypeId} (h6:t 6=ptrV r6 0) (k6:H r6=some (.cells e' [a,b,c] sp)) (hg:GhV H (.agg [a,b,c]) H0 (exV x)):rpQ H0 x .ret ⟨t,[]⟩ H :=
 Za9 Yp h6 k6 (by rw [ZoB]; exact Xt _ _ _ _) ⟨_,rfl,hg⟩
theorem Ziw {op:Int} {nm:ByteArray} {kids:List Ex} {m:Bool} {l:List Bd} {t:Nat→VV} {H0 B:AH} {r3 r6:Nat} {z0 z1 z2:VV} (hN:kids.length≤1099511627776)
 (ih:∀ i (h:i < kids.length),PureF Tryz.prog 97 [exV kids[i],bdsV l,bV m] (exV (kids[i].putM m l)))
 (h1:t 1=bdsV l) (h2:t 2=bV m) (h3:t 3=ptrV r3 0) (h6:t 6=ptrV r6 0) (k3:B r3=some (.cells 28 [iV op,sV nm,encS exE kids] 0)) (k6:B r6=some (.cells 28 [z0,z1,z2] 0)) (n6:H0 r6=none) (hs:SubH H0 B) :
 ACx ⟨Tryz.prog,112,none⟩ c97_3 (rpQ H0 (.mk op nm (kids.map (·.putM m l)))) ⟨t,[]⟩ B:=by
 obtain ⟨ks,hks⟩:∃ ks,ks=kids.map (·.putM m l):=⟨_,rfl⟩
 have hkl:ks.length=kids.length:=by rw [hks]; simp
 have hki:∀ i (h:i < kids.length) (h':i < ks.length),kids[i].putM m l=ks[i]:=fun i h h'=>by simp only [hks,List.getElem_map]
 rw [← hks];clear hks;refine Ya rfl (fun _ _ _ h=>h) ?_;delta c97_3 Zd Zb Zq Zr Zi Zg Zf
 (repeat' (first | (simp only [↓ZI,ZJ,ptrV,ZnW,ZnY,Zn7,Zof,ZX,fillV,setAt,ZnZ,Yq,ZZ,Ye,Yc,YJ,Wt,Yi, *]) | (refine ZK fun zr zh=>?_; have zg:=zh; (try simp only [Zn2] at zg); (try have zn_k3:=ZnX k3 zh); (try have zn_k3:=ZnX k3 zg.2); (try have zn_k3:=ZnX k3 zg.2.2); (try have zn_k6:=ZnX k6 zh); (try have zn_k6:=ZnX k6 zg.2); (try have zn_k6:=ZnX k6 zg.2.2))))
 have hin:InB B (B.set zr (.cells 28 [iV op,sV nm,.lit (.slice none 0 0)] 0)) zr 28 [iV op,sV nm] [] 28 3 0 [] (.lit (.slice none 0 0)) _ :=
  InB.start (Zn4 _ _ _) (Zn5 zh) zh
 refine ZW (fun _ _ _ h=>h) (fun A H=>A.d=[]∧A.t 1=bdsV l∧A.t 2=bV m∧A.t 3=ptrV r3 0∧A.t 6=ptrV r6 0∧A.t 10=ptrV zr 0∧∃ (i:Nat) (v:VV) (Hb:AH),i≤kids.length∧A.t 11=iV i∧InB B H zr 28 [iV op,sV nm] [] 28 3 i (encC exE (ks.take i)) v Hb)
  (fun A _=>match A.t 11 with | .lit (.int _ i)=>((kids.length:Int) - i).toNat | _=>0) ?_ ?_
 ·exact ⟨rfl,(by simp only [ZL,ZnW,if_false, *]<;>rfl),(by simp only [ZL,ZnW,if_false, *]<;>rfl),(by simp only [ZL,ZnW,if_false, *]<;>rfl),(by simp only [ZL,ZnW,if_false, *]<;>rfl),(by simp only [ZL,ZnW,if_true,if_false, *]<;>rfl),0,_,_,by omega,(by simp only [ZL,ZnW,if_true,if_false, *]<;>rfl),hin⟩
 ·clear hin h1 h2 h3 h6;rintro ⟨t,d'⟩ H ⟨rfl,h1,h2,h3,h6,h10,i,v,Hb,hi,h11,hb⟩;dsimp only at h1 h2 h3 h6 h10 h11;have q10:=hb.at;have q3:=hb.sub' _ _ k3;delta b97_3 Za Zd Zb Ze Zn Zr Zk Zo Zq Zl Zg Zm Zc
  (repeat' (first | (simp only [↓ZI,ZJ,ptrV,intV,ZnW,ZnY,Zn7,Zor,Zof,reduceCtorEq,fillV,setAt,ZnZ,ZQ,XB,ZQ,Yb,Yp,Yv,Yi,Yf,en_97, *]) | (refine ZY ?_ ?_<;>intro) | (refine ZS mixed (fun _ _ _ _ e h=>⟨e.trans h.1,h.2⟩) _ (Zn1 _) ?_) | (exact Zn1 _) | (refine Zn3 (ih _ (by assumption)) ?_) | (with_reducible refine And.intro ?_ ?_)))
  ·have hlt:i < kids.length:=by assumption
   refine Wl Yf Yi rfl (by omega) hb.own rfl rfl (by omega) (by omega) (fun v' H' ho=>?_);have hb2:=hb.next ho;have q10':=ho.sub _ _ hb.blk;have hc1:=ho.cells.1;have hc2:=ho.cells.2;clear hb q10 q3 ho
   (repeat' (first | (simp only [↓ZI,ZJ,ptrV,ZnW,ZnY,Zn7,setAt,Yb,szT_26, *]) | (with_reducible refine And.intro ?_ ?_)))
   all_goals rw [ZR (n:=(i:Int) + 1) (by omega) (by omega)]
   ·rw [← Zjc (by omega)] at hb2;exact ⟨i + 1,v',_,by omega,rfl,hb2⟩
   ·omega
  ·have hie:i=kids.length:=by omega
   subst hie;rw [Zos (by omega)] at hb;refine XI (hb.ghost _ _) ?_;have n10:=hb.new;have hx:Blk.cells 28 ([iV op,sV nm] ++ [.slice false kids.length (encC exE ks)]) 0=.cells 28 [iV op,sV nm,encS exE ks] 0:=by rw [← hkl]; rfl
   rw [hx];clear hb q10 q3 hx;have d6:=ZnX k6 n10;refine Ya rfl (fun _ _ _ h=>h) ?_;delta c97_2 Zb Zg
   (repeat' (first | (simp only [↓ZI,ZJ,ptrV,ZnW,ZnY,Zn7,setAt,ZnZ,Yp,YJ, *])))
   exact ZeY (by simp only [ZL,ZnW,if_false, *]<;>rfl) (Zn4 _ _ _) (Zoi ((hs.of_set (hs.none n10)).of_set n6) _)
theorem Zbm {l:List Bd} {n:ByteArray} {j:Nat} (h:j < l.length):(l.take (j + 1)).filter (fun b=>!decide (b.1=n))=(l.take j).filter (fun b=>!decide (b.1=n)) ++ (if l[j].1=n then [] else [l[j]]):=by
 rw [YL h,List.filter_append]
 congr 1
 by_cases hp:l[j].1=n<;>simp [hp]
theorem Zhe {op:Int} {nm:ByteArray} {kids:List Ex} {m:Bool} {l:List Bd} {t:Nat→VV} {H0 B:AH} {r3 r6:Nat} {z0 z1 z2:VV} (hN:kids.length≤1099511627776) (hl:l.length≤1099511627776)
 (ih:∀ (l:List Bd),l.length≤1099511627776→∀ i (h:i < kids.length),PureF Tryz.prog 97 [exV kids[i],bdsV l,bV m] (exV (kids[i].putM m l)))
 (h1:t 1=bdsV l) (h2:t 2=bV m) (h3:t 3=ptrV r3 0) (h6:t 6=ptrV r6 0) (k3:B r3=some (.cells 28 [iV op,sV nm,encS exE kids] 0)) (k6:B r6=some (.cells 28 [z0,z1,z2] 0)) (n6:H0 r6=none) (hs:SubH H0 B) :
 ACx ⟨Tryz.prog,112,none⟩ ZnQ (rpQ H0 (.mk op nm (kids.map (·.putM m (if op=5 then l.filter (fun b=>!decide (b.1=nm)) else l))))) ⟨t,[]⟩ B:=by
 refine Ya rfl (fun _ _ _ h=>h) ?_;delta ZnQ Zd Zb Zm Zr Zq Zc Zf;by_cases h5:op=5
 ·rw [if_pos h5];subst h5;have hlf:(l.filter fun b=>!decide (b.1=nm)).length≤1099511627776:=by have:=List.length_filter_le (fun b:Bd=>!decide (b.1=nm)) l; omega
  (repeat' (first | (simp only [↓ZI,ZJ,ptrV,ZnW,ZnY,Zn7,Zor,Zof,fillV,ZnZ,ZQ,ZQ,ZZ,Yc,Je,Jv, *])))
  refine ZW (fun _ _ _ h=>h) (fun A H=>A.d=[]∧A.t 1=bdsV l∧A.t 2=bV m∧A.t 3=ptrV r3 0∧A.t 6=ptrV r6 0∧∃ (i:Nat),i≤l.length∧A.t 9=iV i∧OutE B H 174 4 (A.t 8) ((l.take i).filter (fun b=>!decide (b.1=nm))).length (encC bdE ((l.take i).filter (fun b=>!decide (b.1=nm)))))
   (fun A _=>match A.t 9 with | .lit (.int _ i)=>((l.length:Int) - i).toNat | _=>0) ?_ ?_
  ·exact ⟨rfl,(by simp only [ZL,ZnW,if_false, *]<;>rfl),(by simp only [ZL,ZnW,if_false, *]<;>rfl),(by simp only [ZL,ZnW,if_false, *]<;>rfl),(by simp only [ZL,ZnW,if_false, *]<;>rfl),0,by omega,(by simp only [ZL,ZnW,if_true,if_false, *]<;>rfl),OutE.start (Zn1 _)⟩
  ·clear h1 h2 h3 h6;rintro ⟨t,d'⟩ H ⟨rfl,h1,h2,h3,h6,i,hi,h9,ho⟩;dsimp only at h1 h2 h3 h6 h9 ho;have q3:=ho.sub _ _ k3;have hfl:=List.length_filter_le (fun b:Bd=>!decide (b.1=nm)) (l.take i);have htl:(l.take i).length≤l.length:=by rw [ZoF]; omega
   have hA:(((l.take i).filter (fun b=>!decide (b.1=nm))).length + 1) * 64≤140737488355328∧((l.take i).filter (fun b=>!decide (b.1=nm))).length + 1≤9223372036854775807:=by omega
   clear hfl htl;replace hA:=Zn0 hA;delta b97_2 Za Ze Zn Zr Zk Zd Zb Zq Zl Zc Zm
   (repeat' (first | (simp only [↓ZI,ZJ,↓XF,ptrV,intV,ZnW,ZnY,Zn7,Zor,Zof,reduceCtorEq,fillV,setAt,ZnZ,ZQ,Zcd,ZQ,ZcW,Yq,Ye,ldT_174,Je,Jv, *]) | (refine ZY ?_ ?_<;>intro) | (refine Ym ?_ ?_<;>intro) | (refine ZS mixed (fun _ _ _ _ e h=>⟨e.trans h.1,h.2⟩) _ (Zn1 _) ?_) | (with_reducible refine And.intro ?_ ?_)))
   ·have hlt:i < l.length:=by assumption
    have hne:¬ l[i].1=nm:=by simpa using (by assumption:(!decide (l[i].1=nm))=true)
    have e:=Zbm (n:=nm) hlt;rw [if_neg hne] at e;refine ho.append1 Je Jv rfl (by omega) rfl rfl hA.out.1 hA.out.2 (fun v2 H2 ho2=>?_)
    rw [show encC bdE ((l.take i).filter (fun b=>!decide (b.1=nm))) ++ [sV l[i].1,iV l[i].2.op,sV l[i].2.name,exsV l[i].2.kids]=encC bdE ((l.take (i + 1)).filter (fun b=>!decide (b.1=nm))) from by rw [e,Yo]; rfl,
     show ((l.take i).filter (fun b=>!decide (b.1=nm))).length + 1=((l.take (i + 1)).filter (fun b=>!decide (b.1=nm))).length from by rw [e,Zow]; rfl] at ho2
    (repeat' (first | (simp only [↓ZI,ZJ,ptrV,ZnW,ZnY, *]) | (with_reducible refine And.intro ?_ ?_)))
    all_goals rw [ZR (n:=(i:Int) + 1) (by omega) (by omega)]
    ·exact ⟨i + 1,by omega,rfl,ho2⟩
    ·omega
   ·have hlt:i < l.length:=by assumption
    have hne:l[i].1=nm:=by simpa using (by assumption:(!decide (l[i].1=nm))=false)
    have e:=Zbm (n:=nm) hlt;rw [if_pos hne,ZoO] at e;rw [ZR (n:=(i:Int) + 1) (by omega) (by omega)];exact ⟨i + 1,by omega,rfl,by rw [e]; exact ho⟩
   ·rw [ZR (n:=(i:Int) + 1) (by omega) (by omega)];omega
   ·have hie:i=l.length:=by omega
    subst hie;rw [Zos (Zoc _)] at ho;clear hA q3;refine XI (H':=B) (Ghost.slot (i:=8) (x':=bdsV (l.filter fun b=>!decide (b.1=nm))) (by simp only [ZL,ZnW,if_false]; exact ho.back)) ?_;clear ho;refine Ya rfl (fun _ _ _ h=>h) ?_;delta c97_1 Za Zc
    (repeat' (first | (simp only [↓ZI,ZJ,ZnW,ZnY, *])))
    exact Ziw hN (ih _ hlf) (by simp only [ZL,ZnW,if_true,if_false, *]<;>rfl) (by simp only [ZL,ZnW,if_false, *]<;>rfl) (by simp only [ZL,ZnW,if_false, *]<;>rfl) (by simp only [ZL,ZnW,if_false, *]<;>rfl) k3 k6 n6 hs
 ·rw [if_neg h5]
  (repeat' (first | (simp only [↓ZI,ZJ,ptrV,ZnW,ZnY,ZnZ,ZZ,Yc, *])))
  exact Ziw hN (ih l hl) (by simp only [ZL,ZnW,if_false, *]<;>rfl) (by simp only [ZL,ZnW,if_false, *]<;>rfl) (by simp only [ZL,ZnW,if_false, *]<;>rfl) (by simp only [ZL,ZnW,if_false, *]<;>rfl) k3 k6 n6 hs
theorem rput_ok (m:Bool):∀ (n:Nat) (e:Ex) (l:List Bd),e.sz < n→e.sz≤1099511627776→l.length≤1099511627776→PureF Tryz.prog 97 [exV e,bdsV l,bV m] (exV (e.putM m l)):=by
 intro n
 induction n with
 | zero=>intro e l h; omega
 | succ n ih =>
   intro e l h0 hs hl;have z1:=e.sz_eq;have hkl:=YC e.kids;have hN:e.kids.length≤1099511627776:=by omega
   have ih':∀ (l:List Bd),l.length≤1099511627776→∀ i (h:i < e.kids.length),PureF Tryz.prog 97 [exV e.kids[i],bdsV l,bV m] (exV (e.kids[i].putM m l)):=fun l hl i h=>ih _ l (by have:=Yl (Zn9 h); omega) (by have:=Yl (Zn9 h); omega) hl
   clear ih z1 hkl h0 hs;refine Xo.pure fun H0=>?_
   refine ZN fd97 (by simp) ?_;show vc _ _ (rpQ H0 (e.putM m l)) _ _;delta c97 Zj Zi Za Zp Zr Zq Zb Zg Zd Zm Ze Zc;by_cases h9:m=true∧e.op=9
   ·obtain ⟨hm,h9⟩:=h9;have hp:e.putM m l=e:=by rw [e.putM_eq,if_pos ⟨hm,h9⟩]
    rw [hp];clear hp ih';subst hm;have h9':=Zn0 h9
    (repeat' (first | (simp only [↓ZI,ZJ,ptrV,ZnW,ZnY,Zn7,ZM,setAt,ZnZ,undef,ZZ,Yp,Yc,YJ,Yi, *]) | (refine ZK fun zr zh=>?_; have zg:=zh; (try simp only [Zn2] at zg))))
    rename_i r3 n3 n3';refine ZeY (by simp only [ZL,ZnW,if_true,if_false, *]<;>rfl) (Zn4 _ _ _) ?_;rw [← h9];exact Zoi ((Zn5 n3).of_set zg.2) _
   ·have hb9:(m && decide (e.op=9))=false:=by
     cases m with
     | false=>rfl
     | true=>simp only [Bool.true_and]; exact decide_eq_false fun h=>h9 ⟨rfl,h⟩
    have hX:=e.putM_eq m l;rw [if_neg h9] at hX;clear h9
    have hmid:∀ (op:Int) (nm:ByteArray),op=e.op→nm=e.name→¬ (op=1∧lastB l nm ≠ none)→e.putM m l=.mk op nm (e.kids.map (·.putM m (if op=5 then l.filter (fun b=>!decide (b.1=nm)) else l))):=by
     rintro op nm rfl rfl hno;rw [hX];by_cases h1:e.op=1
     ·have:lastB l e.name=none:=by
       cases h:lastB l e.name with
       | none=>rfl
       | some x=>exact absurd ⟨h1,by rw [h]; simp⟩ hno
      rw [if_pos h1,this]
     ·rw [if_neg h1]
    by_cases h1:e.op=1
    ·obtain ⟨X,hXe⟩:∃ X,X=e.putM m l:=⟨_,rfl⟩
     have hno:lastB l e.name=none→X=.mk 1 e.name (e.kids.map (·.putM m l)):=fun h=>by
      rw [hXe,hmid 1 e.name h1.symm rfl (fun h'=>h'.2 h),if_neg (by omega)]
     have hsome:∀ x,lastB l e.name=some x→X=if m=true then .mk 9 { data:=#[] } [x] else x:=fun x h=>by
      rw [hXe,hX,if_pos h1,h]
     rw [← hXe];clear hXe hX hmid;replace hno:=Zn0 hno;replace hsome:=Zn0 hsome;have w0:IntKind.i64.wrap ((l.length:Int) - 1)=(l.length:Int) - 1:=ZR (by omega) (by omega)
     have hgo:∀ (t:Nat→VV) (B:AH) (r3 r6:Nat) (z0 z1 z2:VV),t 1=bdsV l→t 2=bV m→t 3=ptrV r3 0→t 6=ptrV r6 0→t 7=iV ((l.length:Int) - 1)→B r3=some (.cells 28 [iV 1,sV e.name,encS exE e.kids] 0)→B r6=some (.cells 28 [z0,z1,z2] 0)→H0 r6=none→SubH H0 B →
      ACx ⟨Tryz.prog,112,none⟩ (.loop b97_1) (YX 0 (thenA (ACx ⟨Tryz.prog,112,none⟩ ZnQ (rpQ H0 X)) (rpQ H0 X))) ⟨t,[]⟩ B:=by
      clear w0 h1 hb9;intro t B r3 r6 z0 z1 z2 t1 t2 t3 t6 t7 k3 k6 n6 hs
      refine ZW (fun _ _ _ h=>h) (fun A H=>H=B∧A.d=[]∧A.t 1=bdsV l∧A.t 2=bV m∧A.t 3=ptrV r3 0∧A.t 6=ptrV r6 0∧∃ k:Nat,k≤l.length∧A.t 7=iV ((k:Int) - 1)∧∀ j (h:j < l.length),k≤j→¬ l[j].1=e.name)
       (fun A _=>match A.t 7 with | .lit (.int _ i)=>(i + 1).toNat | _=>0) ?_ ?_
      ·exact ⟨rfl,rfl,t1,t2,t3,t6,l.length,by omega,t7,fun j h hj=>by omega⟩
      ·clear t1 t2 t3 t6 t7;rintro ⟨t,d⟩ H ⟨rfl,rfl,t1,t2,t3,t6,k,hk,t7,hall⟩;dsimp only at t1 t2 t3 t6 t7;delta b97_1 Za Zm Zr Zk Zd Zb Zn Zp Zq Zg Zc;cases k with
       | zero =>
         replace t7:t 7=iV (-1):=by rw [t7]; rfl
         have hX:=hno.out (ZgA fun j h=>hall j h (Nat.zero_le _));rw [hX];clear hX hall
         (repeat' (first | (simp only [↓ZI,ZJ,ptrV,ZnY,Zok,ZoA, *])))
         have:=Zhe (op:=1) (nm:=e.name) (kids:=e.kids) (m:=m) (l:=l) (t:=upd (upd t 25 (iV (-1))) 26 (.lit (.bool false))) hN hl ih' (by simp only [ZL,ZnW,if_false, *]<;>rfl) (by simp only [ZL,ZnW,if_false, *]<;>rfl) (by simp only [ZL,ZnW,if_false, *]<;>rfl) (by simp only [ZL,ZnW,if_false, *]<;>rfl) k3 k6 n6 hs
         rw [if_neg (by omega)] at this;exact this
       | succ j =>
         replace t7:t 7=iV j:=by rw [t7]; congr 3; omega
         have hj:j < l.length:=by omega
         by_cases hn:l[j].1=e.name
         ·have hX:=hsome.out _ (ZgB hj hn fun i h hi=>hall i h (by omega));clear hall;cases m with
          | false =>
            rw [hX,if_neg (by simp)];clear hX
            (repeat' (first | (simp only [↓ZI,ZJ,↓Xd,ptrV,ZnW,ZnY,Zn7,reduceCtorEq,setAt,ZnZ,Zcd,ZcW,Yq,Zh3,Ye,Yp,YJ,Je, *]) | (refine ZS mixed (fun _ _ _ _ e h=>⟨e.trans h.1,h.2⟩) _ (Zn1 _) ?_)))
            exact ZeY (by simp only [ZL,ZnW,if_false, *]<;>rfl) (Zn4 _ _ _) (Zoi (hs.of_set n6) _)
          | true =>
            rw [hX,if_pos rfl];clear hX
            (repeat' (first | (simp only [↓ZI,ZJ,↓Xd,ptrV,ZnW,ZnY,Zn7,Zor,Zof,reduceCtorEq,ZX,fillV,setAt,ZnZ,ZeS,ZQ,Zcd,ZQ,ZcW,Yq,Zh3,Ye,Yp,YJ,Wt,Yi,Je,Yf, *]) | (refine ZS mixed (fun _ _ _ _ e h=>⟨e.trans h.1,h.2⟩) _ (Zn1 _) ?_)))
            refine ZeY (by simp only [ZL,ZnW,if_false, *]<;>rfl) (Zn4 _ _ _) ?_;refine GhV.agg (Zod (Zoq _ _) (Zod (Zoq _ _) (Zod ?_ (GhL.nil _))));have e1:encS exE [l[j].2]=.slice false 1 [iV l[j].2.op,sV l[j].2.name,encS exE l[j].2.kids]:=by rw [encS,Yr,Zg9,ZoO,XC]; rfl
            show GhV _ _ _ (encS exE [l[j].2]);rw [e1];exact (GhV.imm _).trans (Zoi (hs.of_set n6) _)
         ·have hall':∀ i (h:i < l.length),j≤i→¬ l[i].1=e.name:=fun i h hi=>by
           rcases Zoy j i with h' | h'
           ·exact hall i h (by omega)
           ·obtain rfl:i=j:=by omega
            exact hn
          clear hall
          (repeat' (first | (simp only [↓ZI,ZJ,↓Xd,ptrV,ZnW,ZnY,ZU,ZM,ZnZ,undef,Zcd,ZcW,Yq,Ye,Je, *]) | (refine ZS mixed (fun _ _ _ _ e h=>⟨e.trans h.1,h.2⟩) _ (Zn1 _) ?_) | (with_reducible refine And.intro ?_ ?_)))
          all_goals rw [ZR (n:=(j:Int) - 1) (by omega) (by omega)]
          ·exact ⟨j,by omega,rfl,hall'⟩
          ·omega
     clear hno hsome ih';cases m with
     | false =>
       (repeat' (first | (simp only [↓ZI,ZJ,ptrV,intV,ZnW,ZnY,reduceCtorEq,ZU,ZM,ZnZ,undef,ZZ,Yc,Yi,Je, *]) | (refine ZK fun zr zh=>?_; have zg:=zh; (try simp only [Zn2] at zg))))
       rename_i r3 n3 n3';exact hgo _ _ r3 zr _ _ _ (by simp only [ZL,ZnW,if_false, *]<;>rfl) (by simp only [ZL,ZnW,if_false, *]<;>rfl) (by simp only [ZL,ZnW,if_true,if_false, *]<;>rfl) (by simp only [ZL,ZnW,if_true,if_false, *]<;>rfl) (by simp only [ZL,ZnW,if_true,if_false, *]<;>rfl) (by simp only [Zn8, *,if_true,if_false]<;>rfl) (Zn4 _ _ _) zg.2 ((Zn5 n3).of_set zg.2)
     | true =>
       have h9:¬ e.op=9:=by omega
       (repeat' (first | (simp only [↓ZI,ZJ,ptrV,intV,ZnW,ZnY,reduceCtorEq,ZM,ZnZ,undef,Zoh,ZZ,Yc,Yi,Je, *]) | (refine ZK fun zr zh=>?_; have zg:=zh; (try simp only [Zn2] at zg))))
       rename_i r3 n3 n3';exact hgo _ _ r3 zr _ _ _ (by simp only [ZL,ZnW,if_false, *]<;>rfl) (by simp only [ZL,ZnW,if_false, *]<;>rfl) (by simp only [ZL,ZnW,if_true,if_false, *]<;>rfl) (by simp only [ZL,ZnW,if_true,if_false, *]<;>rfl) (by simp only [ZL,ZnW,if_true,if_false, *]<;>rfl) (by simp only [Zn8, *,if_true,if_false]<;>rfl) (Zn4 _ _ _) zg.2 ((Zn5 n3).of_set zg.2)
    ·have hX:=hmid e.op e.name rfl rfl (fun h=>h1 h.1);rw [hX];clear hX hmid;cases m with
     | false =>
       (repeat' (first | (simp only [↓ZI,ZJ,ptrV,ZnW,ZnY,ZU,ZM,ZnZ,undef,ZZ,Yc,Yi, *]) | (refine ZK fun zr zh=>?_; have zg:=zh; (try simp only [Zn2] at zg))))
       rename_i r3 n3 n3';exact Zhe hN hl ih' (by simp only [ZL,ZnW,if_false, *]<;>rfl) (by simp only [ZL,ZnW,if_false, *]<;>rfl) (by simp only [ZL,ZnW,if_true,if_false, *]<;>rfl) (by simp only [ZL,ZnW,if_true,if_false, *]<;>rfl) (by simp only [Zn8, *,if_true,if_false]<;>rfl) (Zn4 _ _ _) zg.2 ((Zn5 n3).of_set zg.2)
     | true =>
       have h9:¬ e.op=9:=by simpa using hb9
       (repeat' (first | (simp only [↓ZI,ZJ,ptrV,ZnW,ZnY,ZM,ZnZ,undef,ZZ,Yc,Yi, *]) | (refine ZK fun zr zh=>?_; have zg:=zh; (try simp only [Zn2] at zg))))
       rename_i r3 n3 n3';exact Zhe hN hl ih' (by simp only [ZL,ZnW,if_false, *]<;>rfl) (by simp only [ZL,ZnW,if_false, *]<;>rfl) (by simp only [ZL,ZnW,if_true,if_false, *]<;>rfl) (by simp only [ZL,ZnW,if_true,if_false, *]<;>rfl) (by simp only [Zn8, *,if_true,if_false]<;>rfl) (Zn4 _ _ _) zg.2 ((Zn5 n3).of_set zg.2)
end Go.PV.YtglpmlbbaedbiaaGreat
end
section
open Go.PV.AH renaming set_none→Zn2,get→Zn8,set_same→Zn4
open Go.PV.GhL renaming cons→Zod
open Go.PV.GhV renaming forget→Zoi,refl→Zoq
open Go.PV.Hold renaming mk→Zn0
open Go.PV.PureF renaming use→Zn3
open Go.PV.SubH renaming new→Zn5,refl→Zn1
open List renaming drop_eq_getElem_cons→Zoz,getElem_mem→Zn9,drop→ZnZ,drop_eq_nil_of_le→Zop,eq_nil_of_length_eq_zero→ZoM,nil_append→ZoV,length_append→Zow
open Nat renaming reduceEqDiff→ZnW,reduceLT→ZnY,reduceAdd→Zn7,reduceMul→Zor,reduceLeDiff→Zof,zero_add→Zot
open Option renaming bind_some→Zol,map_some→Zog
set_option maxRecDepth 20000
set_option maxHeartbeats 4000000
namespace Go.PV.YtglpmlbbaedbiaaGreat
open Go Go.Proofs
mutual
def Pa.mat:Pa→Ex→List Bd→List Bd × Bool
 | .mk c n ks,e,l=>if c=true then (if e.op=3∧e.name=n∧e.kids.length=ks.length then Wh ks e.kids l else (l,false)) else (l ++ [(n,e)],true)
def Wh:List Pa→List Ex→List Bd→List Bd × Bool
 | [],_,l=>(l,true)
 | p :: ps,e :: es,l=>if (p.mat e l).2=true then Wh ps es (p.mat e l).1 else (l,false)
 | _ :: _,[],l=>(l,false)
end
theorem Pa.mat_eq (p:Pa) (e:Ex) (l:List Bd):p.mat e l=if p.con=true then (if e.op=3∧e.name=p.name∧e.kids.length=p.kids.length then Wh p.kids e.kids l else (l,false)) else (l ++ [(p.name,e)],true):=by
 cases p; rw [Pa.mat]; rfl
mutual
theorem Pa.mat_parts:∀ (p:Pa) (e:Ex) (l:List Bd),(p.mat e l).2=(p.parts e l).2∧((p.parts e l).2=true→(p.mat e l).1=(p.parts e l).1)
 | .mk c n ks,e,l=>by
   have:=ZbW ks e.kids l
   rw [Pa.mat,Pa.parts];split
   ·split
    ·exact this
    ·simp
   ·simp
theorem ZbW:∀ (ps:List Pa) (es:List Ex) (l:List Bd),(Wh ps es l).2=(Yu ps es l).2∧((Yu ps es l).2=true→(Wh ps es l).1=(Yu ps es l).1)
 | [],_,l=>by simp [Wh,Yu]
 | p :: ps,e :: es,l=>by
   obtain ⟨h1,h2⟩:=Pa.mat_parts p e l;rw [Wh,Yu,h1];generalize hr:p.parts e l=r at *
   obtain ⟨l',b⟩:=r;cases b with
   | true =>
     simp only [if_true];rw [h2 rfl];exact ZbW ps es l'
   | false=>simp
 | _ :: _,[],l=>by simp [Wh,Yu]
end
mutual
theorem Pa.mat_len:∀ (p:Pa) (e:Ex) (l:List Bd),(p.mat e l).1.length≤l.length + p.sz
 | .mk c n ks,e,l=>by
   have:=Zd6 ks e.kids l
   rw [Pa.mat,Pa.sz];split
   ·split
    ·omega
    ·simp
   ·simp
theorem Zd6:∀ (ps:List Pa) (es:List Ex) (l:List Bd),(Wh ps es l).1.length≤l.length + pasSz ps
 | [],_,l=>by simp [Wh]
 | p :: ps,e :: es,l=>by
   have h1:=Pa.mat_len p e l;have h2:=Zd6 ps es (p.mat e l).1;rw [Wh,pasSz];split
   ·omega
   ·simp
 | _ :: _,[],l=>by simp [Wh]
end
theorem ZfG {ps:List Pa} {es:List Ex} {l:List Bd} {i:Nat} (h:i < ps.length) (h':i < es.length):Wh (ps.drop i) (es.drop i) l=if (ps[i].mat es[i] l).2=true then Wh (ps.drop (i + 1)) (es.drop (i + 1)) (ps[i].mat es[i] l).1 else (l,false):=by
 rw [Zoz h,Zoz h',Wh]
theorem Zj4:∀ (n:Nat) (p:Pa) (e:Ex) (l:List Bd),p.sz < n→e.sz≤1099511627776→l.length + p.sz≤1099511627776→PureF Tryz.prog 131 [paV p,exV e,bdsV l] (prtV (p.mat e l)):=by
 intro n
 induction n with
 | zero=>intro p e l h; omega
 | succ n ih =>
   intro p e l h0 hs hl;have z1:=p.sz_eq;have z2:=e.sz_eq;have hkl:=YZ p.kids;have hel:=YC e.kids;have ih':∀ i (h:i < p.kids.length) (h':i < e.kids.length) (l:List Bd),l.length + p.kids[i].sz≤1099511627776→PureF Tryz.prog 131 [paV p.kids[i],exV e.kids[i],bdsV l] (prtV (p.kids[i].mat e.kids[i] l)):=fun i h h' l hl=>ih _ _ l (by have:=YP (Zn9 h); omega) (by have:=Yl (Zn9 h'); omega) hl
   refine Xo.pure fun H0=>?_
   refine ZN fd131 (by simp) ?_;delta c131 Zj Zq Zd Zb Zr Za Zl Zc Zm Zp Zf;rw [p.mat_eq];by_cases hc:p.con=true
   ·rw [if_pos hc];have hzl:l.length + pasSz p.kids≤1099511627776:=by omega
    have hkN:p.kids.length≤1099511627776:=by omega
    clear ih hl hs z1 z2 hkl hel h0;by_cases h3:e.op=3
    ·by_cases hn:e.name=p.name
     ·by_cases hk:e.kids.length=p.kids.length
      ·rw [if_pos ⟨h3,hn,hk⟩];obtain ⟨R,hR⟩:∃ R,R=Wh p.kids e.kids l:=⟨_,rfl⟩
       rw [← hR];replace hR:=Zn0 hR;replace hzl:=Zn0 hzl
       (repeat' (first | (simp only [↓ZI,ZJ,↓XF,ptrV,intV,ZnW,ZnY,reduceCtorEq,ZM,ZnZ,undef,Xa,Yb,Xx,XJ,ZZ,Yq,YS,Yv,JQ,Ye,Yc,YG,Yf, *]) | (refine ZK fun zr zh=>?_; have zg:=zh; (try simp only [Zn2] at zg))))
       rename_i r1 n1 n1';have z2:=zg.2
       refine ZW (fun _ _ _ h=>h) (fun A H'=>H'=(H0.set r1 (.cells 126 [bV true,sV p.name,encS paE p.kids] 0)).set zr (.cells 28 [iV 3,sV p.name,encS exE e.kids] 0)∧A.d=[]∧A.t 3=ptrV r1 0∧A.t 4=ptrV zr 0∧∃ (i:Nat) (m:List Bd),i≤p.kids.length∧A.t 8=iV i∧A.t 2=bdsV m∧m.length + pasSz (p.kids.drop i)≤1099511627776∧R=Wh (p.kids.drop i) (e.kids.drop i) m)
        (fun A _=>match A.t 8 with | .lit (.int _ i)=>((p.kids.length:Int) - i).toNat | _=>0) ?_ ?_
       ·exact ⟨rfl,rfl,(by simp only [ZL,ZnW,if_true,if_false, *]<;>rfl),(by simp only [ZL,ZnW,if_true,if_false, *]<;>rfl),0,l,by omega,(by simp only [ZL,ZnW,if_true,if_false, *]<;>rfl),(by simp only [ZL,ZnW,if_false, *]<;>rfl),hzl.out,hR.out⟩
       ·clear hR hzl;rintro ⟨t,d⟩ H' ⟨hH',rfl,h3',h4',i,m,hi,h8,h2,hml,hR⟩;dsimp only at h3' h4' h8 h2;have hs0:SubH H0 H':=by rw [hH']; exact (Zn5 n1).of_set z2
        have q3:H' r1=some (.cells 126 [bV true,sV p.name,encS paE p.kids] 0):=by rw [hH']; exact (by simp only [Zn8, *,if_true,if_false]<;>rfl)
        have q4:H' zr=some (.cells 28 [iV 3,sV p.name,encS exE e.kids] 0):=by rw [hH']; exact Zn4 _ _ _
        clear n1' zg zh;rw [← hH'];clear hH';delta b131_1 Za Zd Zb Ze Zn Zr Zk Zo Zh Zc Zq Zm;by_cases hlt:i < p.kids.length
        ·have hlt':i < e.kids.length:=by omega
         rw [ZfG hlt hlt'] at hR;have hd:=Jp hlt;have hil:(i:Int) < (p.kids.length:Int):=by omega
         have hil':(i:Int) < (e.kids.length:Int):=by omega
         have hcl:=ih' i hlt hlt' m (by omega);have hpl:=Pa.mat_len p.kids[i] e.kids[i] m;generalize p.kids[i].mat e.kids[i] m=r at *
         obtain ⟨m',b'⟩:=r;simp only at hpl;have hnew:=Zn0 (show m'.length + pasSz (p.kids.drop (i + 1))≤1099511627776 by omega);clear hd hml ih' h3 hn hk;cases b' with
         | true =>
           replace hR:=Zn0 hR
           (repeat' (first | (simp only [↓ZI,ZJ,ZV,ptrV,intV,ZnW,ZnY,reduceCtorEq,ZnZ,XQ,XB,Xa,Yb,YS,Jc,Yv,Yp,YG,Yf,ZlL, *]) | (refine ZS mixed (fun _ _ _ _ e h=>⟨e.trans h.1,h.2⟩) _ (Zn1 _) ?_) | (exact Zn1 _) | (refine Zn3 (hcl) ?_) | (with_reducible refine And.intro ?_ ?_)))
           all_goals rw [ZR (n:=(i:Int) + 1) (by omega) (by omega)]
           ·exact ⟨i + 1,m',by omega,rfl,rfl,hnew.out,by rw [hR.out]; rfl⟩
           ·omega
         | false =>
           have hR:R=(m,false):=by rw [hR]; rfl
           rw [hR];clear hR
           (repeat' (first | (simp only [↓ZI,ZJ,ZV,ptrV,intV,ZnW,ZnY,reduceCtorEq,ZnZ,XQ,XB,Xa,Yb,YS,Jc,Yv,Yp,YG,Yf,ZlL, *]) | (refine ZS mixed (fun _ _ _ _ e h=>⟨e.trans h.1,h.2⟩) _ (Zn1 _) ?_) | (exact Zn1 _) | (refine Zn3 (hcl) ?_) | (with_reducible refine And.intro ?_ ?_)))
           exact Yk rfl (by simp only [resV,YO,YN,ZL,ZnW,if_true,if_false,Zol,Zog,tupV, *]<;>rfl) ⟨_,rfl,Zoi hs0 _⟩
        ·rw [Zop (by omega)] at hR;have hR:R=(m,true):=by rw [hR]; rfl
         rw [hR];clear hR h3 hn hk
         (repeat' (first | (simp only [↓ZI,ZJ,ptrV,intV,ZnW,ZnY,reduceCtorEq,ZnZ,Xa,YS,YG, *]) | (refine Ya rfl (fun _ _ _ h=>h) ?_)))
         delta c131_1 Za Zc Zq
         (repeat' (first | (simp only [↓ZI,ZJ,ZnW,ZnY, *])))
         exact Yk rfl (by simp only [resV,YO,YN,ZL,ZnW,if_true,if_false,Zol,Zog,tupV, *]<;>rfl) ⟨_,rfl,Zoi hs0 _⟩
      ·rw [if_neg (fun h=>hk h.2.2)];have hk':¬ (e.kids.length:Int)=(p.kids.length:Int):=by omega
       (repeat' (first | (simp only [↓ZI,ZJ,↓XF,ptrV,intV,ZnW,ZnY,reduceCtorEq,ZM,ZnZ,undef,Xa,Yb,Xx,XJ,ZZ,Yq,YS,Yv,JQ,Ye,Yc,YG,Yf, *]) | (refine ZK fun zr zh=>?_; have zg:=zh; (try simp only [Zn2] at zg))))
       rename_i r1 n1 n1';exact Yk rfl (by simp only [resV,YO,YN,ZL,ZnW,if_true,if_false,Zol,Zog,tupV, *]<;>rfl) ⟨_,rfl,Zoi ((Zn5 n1).of_set zg.2) _⟩
     ·rw [if_neg (fun h=>hn h.2.1)]
      (repeat' (first | (simp only [↓ZI,ZJ,↓XF,ptrV,ZnW,ZnY,ZU,ZM,ZnZ,undef,Xx,XJ,ZZ,Yq,JQ,Ye,Yc, *]) | (refine ZK fun zr zh=>?_; have zg:=zh; (try simp only [Zn2] at zg))))
      rename_i r1 n1 n1';exact Yk rfl (by simp only [resV,YO,YN,ZL,ZnW,if_true,if_false,Zol,Zog,tupV, *]<;>rfl) ⟨_,rfl,Zoi ((Zn5 n1).of_set zg.2) _⟩
    ·rw [if_neg (fun h=>h3 h.1)]
     (repeat' (first | (simp only [↓ZI,ZJ,ptrV,ZnW,ZnY,ZU,ZM,ZnZ,undef,Xx,ZZ,JQ,Yc, *]) | (refine ZK fun zr zh=>?_; have zg:=zh; (try simp only [Zn2] at zg))))
     rename_i r1 n1 n1';exact Yk rfl (by simp only [resV,YO,YN,ZL,ZnW,if_true,if_false,Zol,Zog,tupV, *]<;>rfl) ⟨_,rfl,Zoi ((Zn5 n1).of_set zg.2) _⟩
   ·have hc':p.con=false:=by simpa using hc
    rw [if_neg hc];have hb1:(l.length + 1) * 72≤140737488355328:=by omega
    clear ih' z1 z2 hkl hel hc h0
    (repeat' (first | (simp only [↓ZI,ZJ,ptrV,ZnW,ZnY,Zn7,Zor,Zof,ZM,ZX,fillV,setAt,ZnZ,undef,ZQ,ZQ,Xx,XJ,Yp,JQ,Ye,Jv,Zmk,Je, *]) | (refine ZS mixed (fun _ _ _ _ e h=>⟨e.trans h.1,h.2⟩) _ (Zn1 _) ?_) | (refine ZK fun zr zh=>?_; have zg:=zh; (try simp only [Zn2] at zg))))
    rename_i r1 n1 n1';have hs0:=(Zn5 n1 (b:=.cells 126 [bV false,sV p.name,encS paE p.kids] 0)).of_set (b:=.cells 28 [iV e.op,sV e.name,encS exE e.kids] 0) zg.2;refine (OutE.start (Zn1 _)).append Je Jv rfl (by omega) (XZ (enc:=bdE) (k:=4) (fun _=>rfl) _ false l) (Xv Zl2 l) (by omega) (by omega) (fun h0=>by rw [ZoM h0]; rfl) (fun v' H' ho=>?_);have hos:=ho.sub
    (repeat' (first | (simp only [↓ZI,ZJ,ZnW,ZnY, *])))
    have ho':OutE ((H0.set r1 (.cells 126 [bV false,sV p.name,encS paE p.kids] 0)).set zr (.cells 28 [iV e.op,sV e.name,encS exE e.kids] 0)) H' 174 4 v' l.length (encC bdE l):=by rw [Zot,ZoV] at ho; exact ho
    clear ho;have hA:(l.length + 1) * 64≤140737488355328∧l.length + 1≤9223372036854775807:=by omega
    refine ho'.append1 (xs:=[VV.lit (.string p.name),iV e.op,sV e.name,encS exE e.kids]) Je Jv rfl (by omega) rfl rfl hA.1 hA.2 (fun v2 H2 ho2=>?_);have hg:=ho2.back.trans (Zoi hs0 _);have he:encC bdE l ++ [VV.lit (.string p.name),iV e.op,sV e.name,encS exE e.kids]=encC bdE (l ++ [(p.name,e)]):=by rw [Yo]; rfl
    have hn:(l ++ [(p.name,e)]).length=l.length + 1:=by rw [Zow]; rfl
    rw [he,← hn] at hg;clear ho' ho2 he hn hA
    (repeat' (first | (simp only [↓ZI,ZJ,ZnW,ZnY, *])))
    exact Yk rfl (by simp only [resV,YO,YN,ZL,ZnW,if_true,if_false,Zol,Zog,tupV, *]<;>rfl) ⟨_,rfl,GhV.tuple (Zod hg (Zod (Zoq _ _) (GhL.nil _)))⟩
end Go.PV.YtglpmlbbaedbiaaGreat
end
section
open Go.PV.AH renaming set_none→Zn2,set_same→Zn4
open Go.PV.GhL renaming cons→Zod
open Go.PV.GhV renaming forget→Zoi,refl→Zoq
open Go.PV.Hold renaming mk→Zn0
open Go.PV.PureF renaming use→Zn3
open Go.PV.SubH renaming new→Zn5,refl→Zn1
open Int renaming reduceNeg→ZoA
open List renaming drop→ZnZ,drop_zero→ZoB,drop_eq_getElem_cons→Zoz,getElem_mem→Zn9,drop_eq_nil_of_le→Zop
open Nat renaming reduceEqDiff→ZnW,reduceLT→ZnY,reduceAdd→Zn7,reduceMul→Zor,reduceLeDiff→Zof
open Option renaming bind_some→Zol,map_some→Zog
set_option maxRecDepth 20000
set_option maxHeartbeats 4000000
namespace Go.PV.YtglpmlbbaedbiaaGreat
open Go Go.Proofs
theorem ZmW (e:Ex) (l:List Bd) (hs:e.sz≤1099511627776) (hl:l.length≤1099511627776):PureF Tryz.prog 75 [exV e,bdsV l] (exV (e.put l)):=by
 have hp:=rput_ok false _ e l (Nat.lt_succ_self _) hs hl;rw [e.putM_false] at hp;refine Xo.pure fun H0=>?_
 refine ZN fd75 (by simp) ?_;delta c75 Zj Zi Zb Za Zo Zr Zg
 (repeat' (first | (simp only [↓ZI,ZJ,ptrV,ZnW,ZnY,Zn7,ZM,setAt,ZnZ,undef,Yp,YJ,Yi,en_97, *]) | (refine ZK fun zr zh=>?_; have zg:=zh; (try simp only [Zn2] at zg)) | (refine Zn3 (hp) ?_)))
 rename_i r1 n1 n1';exact Za9 Yp (by simp only [ZL,ZnW,if_true,if_false, *]<;>rfl) (Zn4 _ _ _) (by rw [ZoB]; exact Xt _ _ _ _) ⟨_,rfl,Zoi ((Zn5 n1).of_set zg.2) _⟩
def XH (vs:List Ex):List Cl→Nat→Int × List Bd
 | [],_=>(-1,[])
 | c :: l,i=>if (Wh c.pats vs []).2=true then ((i:Int),(Wh c.pats vs []).1) else XH vs l (i + 1)
theorem ZhL {vs:List Ex} {l:List Cl} {i k:Nat} (h:i < l.length):XH vs (l.drop i) k=if (Wh l[i].pats vs []).2=true then ((k:Int),(Wh l[i].pats vs []).1) else XH vs (l.drop (i + 1)) (k + 1):=by rw [Zoz h,XH]
abbrev clrV (r:Int × List Bd):VV:=.tuple [iV r.1,bdsV r.2]
theorem Zlp (f:Fu) (vs:List Ex) (hf:fuSz f≤1099511627776) (hv:vs.length≤1099511627776) (hvs:∀ e∈vs,e.sz≤1099511627776) (hp:∀ c∈f.cls,c.pats.length=vs.length) :
 PureF Tryz.prog 94 [fuV f,exsV vs] (clrV (XH vs f.cls 0)):=by
 have hN:clsSz f.cls≤1099511627776:=by unfold fuSz at hf; omega
 have hclN:f.cls.length≤1099511627776:=by have:=ZaZ ZbO f.cls; unfold clsSz at hN; omega
 have hb:∀ i (h:i < f.cls.length),pasSz f.cls[i].pats≤1099511627776∧f.cls[i].pats.length=vs.length:=fun i h=>⟨by have h1:=WF (f:=clSz) (Zn9 h); have h2:clSz f.cls[i]=1 + pasSz f.cls[i].pats + f.cls[i].body.sz:=rfl; unfold clsSz at hN; omega,hp _ (Zn9 h)⟩
 have hpp:∀ i (h:i < f.cls.length) k (h':k < f.cls[i].pats.length) (h'':k < vs.length) (l:List Bd),l.length + f.cls[i].pats[k].sz≤1099511627776→PureF Tryz.prog 131 [paV f.cls[i].pats[k],exV vs[k],bdsV l] (prtV (f.cls[i].pats[k].mat vs[k] l)):=fun i h k h' h'' l hl =>
  Zj4 _ _ _ l (Nat.lt_succ_self _) (hvs _ (Zn9 _)) hl
 clear hN hvs hp hf;refine Xo.pure fun H0=>?_
 refine ZN fd94 (by simp) ?_;delta c94 Zj Zf Zq;obtain ⟨R,hR⟩:∃ R,R=XH vs f.cls 0:=⟨_,rfl⟩
 rw [← hR];replace hR:=Zn0 hR
 (repeat' (first | (simp only [↓ZI,ZJ,ptrV,ZnY,ZM,undef, *]) | (refine ZK fun zr zh=>?_; have zg:=zh; (try simp only [Zn2] at zg))))
 refine ZW (fun _ _ _ h=>h) (fun A H'=>H'=H0.set zr (.cells 67 (fuE f) 0)∧A.d=[]∧A.t 1=exsV vs∧A.t 2=ptrV zr 0∧∃ i:Nat,i≤f.cls.length∧A.t 6=iV i∧R=XH vs (f.cls.drop i) i)
  (fun A _=>match A.t 6 with | .lit (.int _ i)=>((f.cls.length:Int) - i).toNat | _=>0) ?_ ?_
 ·exact ⟨rfl,rfl,(by simp only [ZL,ZnW,if_false, *]<;>rfl),(by simp only [ZL,ZnW,if_true,if_false, *]<;>rfl),0,by omega,(by simp only [ZL,ZnW,if_true,if_false, *]<;>rfl),hR.out⟩
 ·clear hR;rintro ⟨t,d⟩ H ⟨hHe,rfl,h1,h2,i,hi,h6,hR⟩;dsimp only at h1 h2 h6;have k2:H zr=some (.cells 67 (fuE f) 0):=by rw [hHe]; exact Zn4 _ _ _
  have hs0:SubH H0 H:=by rw [hHe]; exact Zn5 zh
  rw [← hHe];clear hHe zg zh;delta b94_2 Za Zd Zb Ze Zn Zr Zq Zc Zf;by_cases hlt:i < f.cls.length
  ·have hil:(i:Int) < (f.cls.length:Int):=by omega
   obtain ⟨hpz1,hpz2⟩:=hb i hlt;have hpp':=hpp i hlt;rw [ZhL hlt] at hR;clear hb hpp;obtain ⟨X,hX⟩:∃ X,X=Wh f.cls[i].pats vs []:=⟨_,rfl⟩
   rw [← hX] at hR;replace hR:=Zn0 hR;have hcd:=ZaY hlt;replace hpz2:=Zn0 hpz2
   (repeat' (first | (simp only [↓ZI,ZJ,ptrV,intV,ZnW,ZnY,Zn7,Zor,Zof,reduceCtorEq,fillV,ZnZ,ZQ,ZQ,Xz,Jb,WK,Je,Jv, *])))
   refine XI (H':=H) (Ghost.slot (i:=7) (x':=bdsV []) (by simp only [ZL,ZnW,if_true,if_false]; exact GhV.imm H)) ?_
   refine ZW (fun _ _ _ h=>h) (fun A H'=>H'=H∧A.d=[]∧A.t 1=exsV vs∧A.t 2=ptrV zr 0∧A.t 6=iV i∧∃ (k:Nat) (m:List Bd) (b:Bool),k≤f.cls[i].pats.length∧A.t 9=iV k∧A.t 7=bdsV m∧A.t 8=bV b∧(b=true→m.length + pasSz (f.cls[i].pats.drop k)≤1099511627776∧X=Wh (f.cls[i].pats.drop k) (vs.drop k) m)∧(b=false→X.2=false))
    (fun A _=>match A.t 9 with | .lit (.int _ k)=>((f.cls[i].pats.length:Int) - k).toNat | _=>0) ?_ ?_
   ·exact ⟨rfl,rfl,(by simp only [ZL,ZnW,if_false, *]<;>rfl),(by simp only [ZL,ZnW,if_false, *]<;>rfl),(by simp only [ZL,ZnW,if_false, *]<;>rfl),0,[],true,by omega,(by simp only [ZL,ZnW,if_true,if_false, *]<;>rfl),by simp only [ZL,ZnW,if_true,if_false],(by simp only [ZL,ZnW,if_true,if_false, *]<;>rfl),fun _=>⟨by simpa using hpz1,hX⟩,fun h=>by cases h⟩
   ·clear h1 h2 h6 hX;rintro ⟨t,d⟩ H' ⟨rfl,rfl,h1,h2,h6,k,m,b,hk,h9,h7,h8,ht,hf⟩;dsimp only at h1 h2 h6 h9 h7 h8;have hpl:f.cls[i].pats.length=vs.length:=hpz2.out;cases b with
    | false =>
      have hX2:=hf rfl;have hg2:R=XH vs (f.cls.drop (i + 1)) (i + 1):=by rw [hR.out,if_neg (by rw [hX2]; simp)]
      replace hg2:=Zn0 hg2;clear hR ht hf hX2 hpl;delta b94_1 Za Zd Zb Zk Ze Zn Zp Zr Zq Zo Zh Zc Zm;by_cases hkl:k < f.cls[i].pats.length
      ·(repeat' (first | (simp only [↓ZI,ZJ,ptrV,intV,ZnW,ZnY,reduceCtorEq,ZnZ,Xz,XD,Jb,YS,WK,YG, *]) | (refine Ya rfl (fun _ _ _ h=>h) ?_)))
       delta ZnP Za Zr Zc
       (repeat' (first | (simp only [↓ZI,ZJ,ZnW,ZnY, *]) | (refine Ya rfl (fun _ _ _ h=>h) ?_)))
       delta c94_2 Za Zm Zc
       (repeat' (first | (simp only [↓ZI,ZJ,ptrV,ZnW,ZnY, *]) | (with_reducible refine And.intro ?_ ?_)))
       all_goals rw [ZR (n:=(i:Int) + 1) (by omega) (by omega)]
       ·exact ⟨i + 1,by omega,rfl,hg2.out⟩
       ·omega
      ·(repeat' (first | (simp only [↓ZI,ZJ,ptrV,intV,ZnW,ZnY,reduceCtorEq,ZU,ZM,ZnZ,undef,Xz,XD,Jb,YS,WK,YG, *]) | (refine Ya rfl (fun _ _ _ h=>h) ?_)))
       delta ZnP Za Zr Zc
       (repeat' (first | (simp only [↓ZI,ZJ,ZnW,ZnY, *]) | (refine Ya rfl (fun _ _ _ h=>h) ?_)))
       delta c94_2 Za Zm Zc
       (repeat' (first | (simp only [↓ZI,ZJ,ptrV,ZnW,ZnY, *]) | (with_reducible refine And.intro ?_ ?_)))
       all_goals rw [ZR (n:=(i:Int) + 1) (by omega) (by omega)]
       ·exact ⟨i + 1,by omega,rfl,hg2.out⟩
       ·omega
    | true =>
      obtain ⟨hml,hX⟩:=ht rfl;clear ht hf;delta b94_1 Za Zd Zb Zk Ze Zn Zp Zr Zq Zo Zh Zc Zm;by_cases hkl:k < f.cls[i].pats.length
      ·have hkv:k < vs.length:=by omega
       rw [ZfG hkl hkv] at hX;have hd:=Jp hkl;have hi1:(k:Int) < (vs.length:Int):=by omega
       have hi2:(k:Int) < (f.cls[i].pats.length:Int):=by omega
       have hc:=hpp' k hkl hkv m (by omega);have hpl2:=Pa.mat_len f.cls[i].pats[k] vs[k] m;have hpd:=XQ hkl;have hed:=XB hkv;generalize f.cls[i].pats[k].mat vs[k] m=r at *
       obtain ⟨m',b'⟩:=r;simp only at hpl2;have hnew:=Zn0 (show m'.length + pasSz (f.cls[i].pats.drop (k + 1))≤1099511627776 by omega);replace hX:=Zn0 hX;clear hd hml hpp' hpz1 hpl
       (repeat' (first | (simp only [↓ZI,ZJ,ZV,ptrV,intV,ZnW,ZnY,reduceCtorEq,ZnZ,Xz,XD,Jb,YS,Jc,Yp,WK,YG,Yf,ZlL, *]) | (refine ZS mixed (fun _ _ _ _ e h=>⟨e.trans h.1,h.2⟩) _ (Zn1 _) ?_) | (exact Zn1 _) | (refine Zn3 (hc) ?_) | (with_reducible refine And.intro ?_ ?_)))
       all_goals rw [ZR (n:=(k:Int) + 1) (by omega) (by omega)]
       ·refine ⟨k + 1,m',b',by omega,rfl,rfl,rfl,fun h=>⟨hnew.out,?_⟩,fun h=>?_⟩
        ·subst h; rw [hX.out]; rfl
        ·subst h; rw [hX.out]; rfl
       ·omega
      ·rw [Zop (by omega)] at hX;have hX:X=(m,true):=by rw [hX]; rfl
       have hg2:R=((i:Int),m):=by rw [hR.out,hX]; rfl
       rw [hg2];clear hR hg2 hX hpl
       (repeat' (first | (simp only [↓ZI,ZJ,ptrV,intV,ZnW,ZnY,reduceCtorEq,ZU,ZM,ZnZ,undef,Xz,XD,Jb,YS,WK,YG, *]) | (refine Ya rfl (fun _ _ _ h=>h) ?_)))
       delta ZnP Za Zr Zc
       (repeat' (first | (simp only [↓ZI,ZJ,ZnW,ZnY, *])))
       exact Yk rfl (by simp only [resV,YO,YN,ZL,ZnW,if_true,if_false,Zol,Zog,tupV, *]<;>rfl) ⟨_,rfl,Zoi hs0 _⟩
  ·rw [Zop (by omega)] at hR;have hR:R=(-1,[]):=hR;rw [hR];clear hR
   (repeat' (first | (simp only [↓ZI,ZJ,ptrV,intV,ZnW,ZnY,reduceCtorEq,ZnZ,ZoA,Xz,Jb,WK, *]) | (refine Ya rfl (fun _ _ _ h=>h) ?_)))
   delta c94_3 Zq
   (repeat' (first | (simp only [↓ZI,ZJ,ZnY,ZoA, *])))
   exact Yk rfl (by simp only [resV,YO,YN,ZL,ZnW,if_true,if_false,Zol,Zog,tupV, *]<;>rfl) ⟨_,rfl,GhV.tuple (Zod (Zoq _ _) (Zod ((GhV.nil _).trans (Zoi hs0 _)) (GhL.nil _)))⟩
end Go.PV.YtglpmlbbaedbiaaGreat
end
section
open Go.PV.AH renaming set_none→Zn2,get→Zn8,set_same→Zn4
open Go.PV.GhL renaming cons→Zod
open Go.PV.GhV renaming refl→Zoq,forget→Zoi
open Go.PV.Hold renaming mk→Zn0
open Go.PV.PureF renaming use→Zn3
open Go.PV.SubH renaming new→Zn5,refl→Zn1
open Int renaming reduceLT→Zom,reduceNeg→ZoA
open List renaming drop_zero→ZoB,getElem_mem→Zn9,drop→ZnZ,eq_nil_of_length_eq_zero→ZoM,length_append→Zow,take_of_length_le→Zos,drop_eq_nil_of_le→Zop
open Nat renaming reduceEqDiff→ZnW,reduceLT→ZnY,reduceLeDiff→Zof,reduceAdd→Zn7,zero_add→Zot
open Option renaming bind_some→Zol,map_some→Zog
set_option maxRecDepth 20000
set_option maxHeartbeats 4000000
namespace Go.PV.YtglpmlbbaedbiaaGreat
open Go Go.Proofs
theorem Zca {vs:List Ex}:∀ (l:List Cl) (i:Nat),((XH vs l i).1=-1∧selGo vs l i=(0,zEx,420)) ∨
 ∃ j,∃ h:j < l.length,(XH vs l i).1=((i + j:Nat):Int)∧(XH vs l i).2.length≤pasSz l[j].pats∧selGo vs l i=(((i + j:Nat):Int),l[j].body.put (XH vs l i).2,0)
 | [],i=>.inl ⟨rfl,rfl⟩
 | c :: l,i=>by
   obtain ⟨h1,h2⟩:=ZbW c.pats vs [];by_cases h:(Yu c.pats vs []).2=true
   ·refine .inr ⟨0,by simp,?_⟩;have hl:=Zd6 c.pats vs [];rw [XH,selGo,if_pos (by rw [h1]; exact h),if_pos h,← h2 h];refine ⟨rfl,by simpa using hl,rfl⟩
   ·rw [XH,selGo,if_neg (by rw [h1]; exact h),if_neg h];rcases Zca l (i + 1) with ⟨h3,h4⟩ | ⟨j,hj,h3,h4,h5⟩
    ·exact .inl ⟨h3,h4⟩
    ·refine .inr ⟨j + 1,by simpa using hj,by rw [h3]; congr 1; omega,by simpa using h4,?_⟩;rw [h5]
     simp; omega
def rsQ (H0:AH) (R:Int × Ex × Int):APost:=YW Tryz.prog [.tmp 4,.cell 5 28,.tmp 6] fun e H'=>∃ y,e=VE.ret y∧GhV H' y H0 (selV R)
theorem ZhM {H0 H:AH} {t:Nat→VV} {r sp:Nat} {k c:Int} {a b d:VV} {e':TypeId} {x:Ex} (h4:t 4=iV k) (h5:t 5=ptrV r 0) (h6:t 6=iV c) (k5:H r=some (.cells e' [a,b,d] sp)) (hg:GhV H (.agg [a,b,d]) H0 (exV x)):rsQ H0 (k,x,c) .ret ⟨t,[]⟩ H:=by
 refine Yk rfl (x:=.tuple [iV k,.agg [a,b,d],iV c]) (by simp only [resV,YO,YN,Yp,h4,h5,h6,k5,ptrV,ZoB,Xt,Zol,Zog,tupV]) ⟨_,rfl,?_⟩
 have h1:GhL H [iV k,.agg [a,b,d],iV c] H0 [iV k,exV x,iV c]:=by
  refine Zod (Zoq _ _) (Zod hg (Zod (Zoq _ _) (GhL.nil _)))
 exact GhV.tuple h1
theorem ZgM (f:Fu) (vs:List Ex) (hf:fuSz f≤1099511627776) (hv:vs.length≤1099511627776) (hvs:∀ e∈vs,e.sz≤1099511627776) :
 PureF Tryz.prog 73 [fuV f,exsV vs] (selV (Yy f vs)):=by
 refine Xo.pure fun H0=>?_
 show Yh Tryz.prog _ _ H0 _;refine ZN fd73 (by simp) ?_;show vc _ _ (rsQ H0 (Yy f vs)) _ _;obtain ⟨R,hR⟩:∃ R,R=Yy f vs:=⟨_,rfl⟩
 rw [← hR];have hN:clsSz f.cls≤1099511627776:=by unfold fuSz at hf; omega
 have hclN:f.cls.length≤1099511627776:=by have:=ZaZ ZbO f.cls; unfold clsSz at hN; omega
 have hcz:∀ i (h:i < f.cls.length),pasSz f.cls[i].pats≤1099511627776∧f.cls[i].body.sz≤1099511627776:=fun i h=>by have h1:=WF (f:=clSz) (Zn9 h); have h2:clSz f.cls[i]=1 + pasSz f.cls[i].pats + f.cls[i].body.sz:=rfl; unfold clsSz at hN; omega
 have hnm:∀ i (h:i < f.cls.length) k (h':k < f.cls[i].pats.length),PureF Tryz.prog 106 [paV f.cls[i].pats[k]] (strsV f.cls[i].pats[k].names):=fun i h k h'=>Znj _ (by have:=(hcz i h).1; have:=YP (Zn9 h'); omega)
 have htw:∀ i (h:i < f.cls.length),PureF Tryz.prog 107 [strsV (ZT f.cls[i].pats)] (boolV (!decide (ZT f.cls[i].pats).Nodup)):=fun i h=>Zni _ (by have:=(hcz i h).1; have:=Xm f.cls[i].pats; omega)
 delta c73 Zj Zf Zi Za Ze Zd Zb Zn Zr Zq Zg;by_cases ha:(vs.length:Int)=f.arity
 ·have hR2:R=if XV f.arity f.cls=0 then selGo vs f.cls 0 else (0,zEx,XV f.arity f.cls):=by rw [hR,Yy,if_pos ha]
  clear hR;replace hR2:=Zn0 hR2
  (repeat' (first | (simp only [↓ZI,ZJ,ptrV,intV,ZnW,ZnY,reduceCtorEq,ZM,ZnZ,undef,WG,Yc,Yi,Yf, *]) | (refine ZK fun zr zh=>?_; have zg:=zh; (try simp only [Zn2] at zg))))
  rename_i r2 n2 n2';obtain ⟨z1,z2⟩:=zg;have hBs:SubH H0 ((H0.set r2 (.cells 67 [sV f.name,iV f.arity,clsV f.cls] 0)).set zr (.cells 28 Zx 0)):=(Zn5 n2).of_set z2;have kB2:((H0.set r2 (.cells 67 [sV f.name,iV f.arity,clsV f.cls] 0)).set zr (.cells 28 Zx 0)) r2=some (.cells 67 [sV f.name,iV f.arity,clsV f.cls] 0):=(by simp only [Zn8, *,if_true,if_false]<;>rfl)
  have kB5:((H0.set r2 (.cells 67 [sV f.name,iV f.arity,clsV f.cls] 0)).set zr (.cells 28 Zx 0)) zr=some (.cells 28 Zx 0):=Zn4 _ _ _;show ACx _ _ _ _ ((H0.set r2 (.cells 67 [sV f.name,iV f.arity,clsV f.cls] 0)).set zr (.cells 28 Zx 0));generalize (H0.set r2 (.cells 67 [sV f.name,iV f.arity,clsV f.cls] 0)).set zr (.cells 28 Zx 0)=B at *
  clear zh n2' n2 z1
  refine ZW (fun _ _ _ h=>h) (fun A H=>H=B∧A.d=[]∧A.t 1=exsV vs∧A.t 2=ptrV r2 0∧A.t 5=ptrV zr 0∧∃ i:Nat,i≤f.cls.length∧A.t 7=iV i∧XV f.arity f.cls=XV f.arity (f.cls.drop i))
   (fun A _=>match A.t 7 with | .lit (.int _ i)=>((f.cls.length:Int) - i).toNat | _=>0) ?_ ?_
  ·exact ⟨rfl,rfl,(by simp only [ZL,ZnW,if_false, *]<;>rfl),(by simp only [ZL,ZnW,if_true,if_false, *]<;>rfl),(by simp only [ZL,ZnW,if_true,if_false, *]<;>rfl),0,by omega,(by simp only [ZL,ZnW,if_true,if_false, *]<;>rfl),rfl⟩
  ·rintro ⟨t,d⟩ H ⟨rfl,rfl,h1,h2,h5,i,hi,h7,hE⟩;dsimp only at h1 h2 h5 h7;have hE':=fun h:i < f.cls.length=>hE.trans (ZfD h)
   replace hE:=Zn0 hE;replace hE':=Zn0 hE';delta b73_2 Za Zd Zb Ze Zn Zr Zk Zq Zf Zg Zc;by_cases hlt:i < f.cls.length
   ·have hil:(i:Int) < (f.cls.length:Int):=by omega
    have hcd:=ZaY hlt;by_cases hp:(f.cls[i].pats.length:Int)=f.arity
    ·have hpz:=(hcz i hlt).1;have hpl:=YZ f.cls[i].pats;have hnm':=hnm i hlt;have htw':=htw i hlt;have htk:∀ k,(ZT (f.cls[i].pats.take k)).length≤1099511627776:=fun k=>by have:=Xm (f.cls[i].pats.take k); have:=Jq f.cls[i].pats k; omega
     have hnl:∀ k (h:k < f.cls[i].pats.length),f.cls[i].pats[k].names.length≤1099511627776:=fun k h=>by have:=YP (Zn9 h); have:=f.cls[i].pats[k].names_len; omega
     have hplN:f.cls[i].pats.length≤1099511627776:=by omega
     clear hnm htw hcz hpz hpl;replace hp:=Zn0 hp;have hpd:(!decide ((f.cls[i].pats.length:Int)=f.arity))=false:=by rw [decide_eq_true hp.out]; rfl
     (repeat' (first | (simp only [↓ZI,ZJ,ptrV,intV,ZnW,ZnY,Zof,reduceCtorEq,fillV,ZnZ,ZQ,ZQ,Xz,XD,WG,Jb,YS,Yc,WK,YG,YH,Xr, *]) | (refine ZS mixed (fun _ _ _ _ e h=>⟨e.trans h.1,h.2⟩) _ (Zn1 _) ?_)))
     refine ZW (fun _ _ _ h=>h) (fun A H'=>A.d=[]∧A.t 1=exsV vs∧A.t 2=ptrV r2 0∧A.t 5=ptrV zr 0∧A.t 7=iV i∧∃ k:Nat,k≤f.cls[i].pats.length∧A.t 9=iV k∧OutE H H' 9 1 (A.t 8) (ZT (f.cls[i].pats.take k)).length (encC strE (ZT (f.cls[i].pats.take k))))
      (fun A _=>match A.t 9 with | .lit (.int _ k)=>((f.cls[i].pats.length:Int) - k).toNat | _=>0) ?_ ?_
     ·exact ⟨rfl,(by simp only [ZL,ZnW,if_false, *]<;>rfl),(by simp only [ZL,ZnW,if_false, *]<;>rfl),(by simp only [ZL,ZnW,if_false, *]<;>rfl),(by simp only [ZL,ZnW,if_false, *]<;>rfl),0,by omega,(by simp only [ZL,ZnW,if_true,if_false, *]<;>rfl),by simp only [ZL,ZnW,if_true,if_false]; exact OutE.start (Zn1 _)⟩
     ·clear h1 h2 h5 h7;rintro ⟨t,d⟩ H' ⟨rfl,h1,h2,h5,h7,k,hk,h9,ho⟩;dsimp only at h1 h2 h5 h7 h9 ho;have k2:=ho.sub _ _ kB2;have hk1:=htk k;delta b73_1 Za Zd Zb Zk Ze Zn Zr Zo Zl Zc Zm;by_cases hkl:k < f.cls[i].pats.length
      ·have hki:=hnl k hkl;have hc:=hnm' k hkl;have hpd2:=XQ hkl;have hkl2:(k:Int) < (f.cls[i].pats.length:Int):=by omega
       have e:ZT (f.cls[i].pats.take (k + 1))=ZT (f.cls[i].pats.take k) ++ f.cls[i].pats[k].names:=WC hkl;replace e:=Zn0 e;clear hnm' htw' htk hnl
       (repeat' (first | (simp only [↓ZI,ZJ,ptrV,intV,ZnW,ZnY,reduceCtorEq,ZnZ,Xz,XD,Jb,YS,Jc,WK,YG,en_106, *]) | (refine Zn3 (hc) ?_)))
       refine ho.append YH Xr rfl (by omega) (XZ (enc:=strE) (k:=1) (fun _=>rfl) _ false _) (Xv Ze7 _) (by omega) (by omega) (fun h0=>by rw [ZoM h0]; rfl) (fun v' H'' ho2=>?_);rw [← Yo,← Zow,← e.out] at ho2
       (repeat' (first | (simp only [↓ZI,ZJ,ptrV,ZnW,ZnY, *]) | (with_reducible refine And.intro ?_ ?_)))
       all_goals rw [ZR (n:=(k:Int) + 1) (by omega) (by omega)]
       ·exact ⟨k + 1,by omega,rfl,ho2⟩
       ·omega
      ·have hkl2:¬ (k:Int) < (f.cls[i].pats.length:Int):=by omega
       rw [Zos (by omega)] at ho;clear hnm' htk hnl
       (repeat' (first | (simp only [↓ZI,ZJ,ptrV,intV,ZnW,ZnY,reduceCtorEq,ZnZ,Xz,XD,Jb,YS,WK,YG, *])))
       refine XI (H':=H) (Ghost.slot (i:=8) (x':=strsV (ZT f.cls[i].pats)) (by simp only [ZL,ZnW,if_false]; exact ho.back)) ?_;refine Ya rfl (fun _ _ _ h=>h) ?_;clear ho k2 H';delta c73_1 Za Zo Zr Zq Zf Zg;by_cases hnd:(ZT f.cls[i].pats).Nodup
       ·have hE2:XV f.arity f.cls=XV f.arity (f.cls.drop (i + 1)):=by rw [hE'.out hlt,if_pos hp.out,if_pos hnd]
        replace hE2:=Zn0 hE2;have hnd2:(!decide (ZT f.cls[i].pats).Nodup)=false:=by rw [decide_eq_true hnd]; rfl
        rw [hnd2] at htw';clear hE hE' hR2 hnd hnd2
        (repeat' (first | (simp only [↓ZI,ZJ,boolV,ZnW,ZnY,en_107, *]) | (refine Ya rfl (fun _ _ _ h=>h) ?_) | (refine Zn3 (htw') ?_)))
        delta c73_2 Za Zm Zc
        (repeat' (first | (simp only [↓ZI,ZJ,ptrV,ZnW,ZnY, *]) | (with_reducible refine And.intro ?_ ?_)))
        all_goals rw [ZR (n:=(i:Int) + 1) (by omega) (by omega)]
        ·exact ⟨i + 1,by omega,rfl,hE2.out⟩
        ·omega
       ·have he:XV f.arity f.cls=10:=by rw [hE'.out hlt,if_pos hp.out,if_neg hnd]
        have hnd2:(!decide (ZT f.cls[i].pats).Nodup)=true:=by rw [decide_eq_false hnd]; rfl
        rw [hR2.out,he,if_neg (by omega)];rw [hnd2] at htw';clear hE hE' hR2 hnd hnd2 he
        (repeat' (first | (simp only [↓ZI,ZJ,ptrV,boolV,ZnW,ZnY,Zn7,ZX,fillV,setAt,Zx,YJ,Wt,en_107, *]) | (refine Zn3 (htw') ?_)))
        refine ZhM (by simp only [ZL,ZnW,if_true,if_false, *]<;>rfl) (by simp only [ZL,ZnW,if_false, *]<;>rfl) (by simp only [ZL,ZnW,if_true,if_false, *]<;>rfl) (Zn4 _ _ _) (Jj (hBs.of_set z2))
    ·have he:XV f.arity f.cls=5:=by rw [hE'.out hlt,if_neg hp]
     rw [hR2.out,he,if_neg (by omega)]
     (repeat' (first | (simp only [↓ZI,ZJ,ptrV,intV,ZnW,ZnY,Zn7,reduceCtorEq,ZX,fillV,setAt,ZnZ,Zx,Xz,XD,WG,Jb,YS,Yc,YJ,Wt,WK,YG, *]) | (refine ZS mixed (fun _ _ _ _ e h=>⟨e.trans h.1,h.2⟩) _ (Zn1 _) ?_)))
     exact ZhM (by simp only [ZL,ZnW,if_true,if_false, *]<;>rfl) (by simp only [ZL,ZnW,if_false, *]<;>rfl) (by simp only [ZL,ZnW,if_true,if_false, *]<;>rfl) (Zn4 _ _ _) (Jj (hBs.of_set z2))
   ·have he:XV f.arity f.cls=0:=by rw [hE.out,Zop (by omega)]; rfl
    have hR3:R=selGo vs f.cls 0:=by rw [hR2.out,if_pos he]
    have hall:=ZcC he;clear hE hE' hR2 hnm htw he
    (repeat' (first | (simp only [↓ZI,ZJ,ptrV,intV,ZnW,ZnY,reduceCtorEq,ZnZ,Xz,Jb,WK, *])))
    refine Ya rfl (fun _ _ _ h=>h) ?_;have hcl:=Zlp f vs hf hv hvs (fun c hc=>by have:=hall c hc; omega);clear hi hall hvs;rcases Zca (vs:=vs) f.cls 0 with ⟨hg1,hg2⟩ | ⟨j,hj,hg1,hg2,hg3⟩
    ·rw [hg2];generalize XH vs f.cls 0=r at *
     obtain ⟨c,m⟩:=r;dsimp only at hg1;subst hg1;clear hR3 hg2;delta c73_3 Zb Za Zo Zr Zh Zc Zm Zq Zf Zg Zd Zk
     (repeat' (first | (simp only [↓ZI,ZJ,ZV,ptrV,ZnW,ZnY,Zn7,ZX,fillV,setAt,ZnZ,Zom,ZoA,Zx,ZbC,YJ,Wt,en_94, *]) | (refine Zn3 (hcl) ?_)))
     exact ZhM (by simp only [ZL,ZnW,if_true,if_false, *]<;>rfl) (by simp only [ZL,ZnW,if_false, *]<;>rfl) (by simp only [ZL,ZnW,if_true,if_false, *]<;>rfl) (Zn4 _ _ _) (Jj (hBs.of_set z2))
    ·obtain ⟨hz1,hz2⟩:=hcz j hj;rw [hg3];generalize XH vs f.cls 0=r at *
     obtain ⟨c,m⟩:=r;dsimp only at hg1 hg2;rw [Zot] at hg1 ⊢;subst hg1;have hput:=ZmW f.cls[j].body m hz2 (by omega);have hcd:=ZaY hj;have hjl:(j:Int) < (f.cls.length:Int):=by omega
     dsimp only;generalize f.cls[j].body.put m=y at *
     clear hR3 hg2 hg3 hcz hz1 hz2;delta c73_3 Zb Za Zo Zr Zh Zc Zm Zq Zf Zg Zd Zk
     (repeat' (first | (simp only [↓ZI,ZJ,ZV,ptrV,ZnW,ZnY,Zn7,reduceCtorEq,ZX,fillV,setAt,ZnZ,Zx,Xz,ZcU,Jb,ZbC,Yp,YJ,Wt,WK,en_94,en_75, *]) | (refine ZY ?_ ?_<;>intro) | (refine Zn3 (hcl) ?_) | (refine Zn3 (hput) ?_)))
     ·omega
     ·exact ZhM (by simp only [ZL,ZnW,if_true,if_false, *]<;>rfl) (by simp only [ZL,ZnW,if_false, *]<;>rfl) (by simp only [ZL,ZnW,if_true,if_false, *]<;>rfl) (Zn4 _ _ _) (Zoi (hBs.of_set z2) _)
 ·have hR2:R=(0,zEx,5):=by rw [hR,Yy,if_neg ha]
  clear hR;rw [hR2];clear hR2
  (repeat' (first | (simp only [↓ZI,ZJ,ptrV,intV,ZnW,ZnY,Zn7,reduceCtorEq,ZM,ZX,fillV,setAt,ZnZ,undef,WG,Yc,YJ,Wt,Yi,Yf, *]) | (refine ZK fun zr zh=>?_; have zg:=zh; (try simp only [Zn2] at zg))))
  rename_i r2 n2 n2';exact ZhM (by simp only [ZL,ZnW,if_true,if_false, *]<;>rfl) (by simp only [ZL,ZnW,if_true,if_false, *]<;>rfl) (by simp only [ZL,ZnW,if_true,if_false, *]<;>rfl) (Zn4 _ _ _) (Jj ((Zn5 n2).of_set zg.2))
end Go.PV.YtglpmlbbaedbiaaGreat
end
section
open Go.PV.AH renaming set_none→Zn2,get→Zn8,ne_of→ZnX,set_same→Zn4,set_ne→Zoa
open Go.PV.GhL renaming cons→Zod
open Go.PV.GhV renaming refl→Zoq,forget→Zoi
open Go.PV.Hold renaming mk→Zn0
open Go.PV.PureF renaming use→Zn3
open Go.PV.SubH renaming refl→Zn1,new→Zn5,of_set→Zn6
open Int renaming toNat_natCast→ZoJ,reduceLT→Zom,reduceLE→Zok,toNat_zero→ZoI,reduceEq→Zoh
open List renaming drop_zero→ZoB,getElem?_eq_getElem→ZoH,getElem_mem→Zn9,drop→ZnZ,nil_append→ZoV,length_cons→Zox,mem_cons_of_mem→ZoY,length_take→ZoF,take_append_drop→ZoU
open Nat renaming reduceEqDiff→ZnW,reduceLT→ZnY,reduceAdd→Zn7,lt_or_ge→Zoy,reduceMul→Zor,reduceLeDiff→Zof,zero_add→Zot,zero_mul→ZoK
open Option renaming bind_some→Zol,map_some→Zog,map_none→ZoC
set_option maxRecDepth 20000
set_option maxHeartbeats 16000000
namespace Go.PV.YtglpmlbbaedbiaaGreat
open Go Go.Proofs
def rstX (p:Pr) (e:Ex):Ex:=if e.op=2 then (stepF p e).1 else if (stepF p e).2=0 then (stepF p e).1 else preE p e
def rstQ (H0:AH) (X:Ex) (c:Int):APost:=YW Tryz.prog [.cell 4 28,.tmp 5] fun e H'=>∃ y,e=VE.ret y∧GhV H' y H0 (.tuple [exV X,iV c])
theorem Zce {H0 H:AH} {t:Nat→VV} {r sp:Nat} {c:Int} {a b d:VV} {e':TypeId} {x:Ex} (h4:t 4=ptrV r 0) (h5:t 5=iV c) (k4:H r=some (.cells e' [a,b,d] sp)) (hg:GhV H (.agg [a,b,d]) H0 (exV x)):rstQ H0 x c .ret ⟨t,[]⟩ H:=by
 refine Yk rfl (x:=.tuple [.agg [a,b,d],iV c]) (by simp only [resV,YO,YN,Yp,h4,h5,k4,ptrV,ZoB,Xt,Zol,Zog,tupV]) ⟨_,rfl,?_⟩;have h1:GhL H [.agg [a,b,d],iV c] H0 [exV x,iV c]:=Zod hg (Zod (Zoq _ _) (GhL.nil _));exact GhV.tuple h1
theorem ZgN {H0 H:AH} {t:Nat→VV} {r g n c sp:Nat} {op cd:Int} {name:ByteArray} {l:List Ex} {cs:List VV} {e' e2:TypeId} (h4:t 4=ptrV r 0) (h5:t 5=iV cd) (k4:H r=some (.cells e' [iV op,sV name,.lit (.slice (some ⟨g,0,none⟩) n c)] 0)) (kg:H g=some (.cells e2 cs sp)) (hcs:cs=encC exE l) (hn:n=l.length) (hle:n≤c) (hs:SubH H0 H) (gg:H0 g=none):rstQ H0 (.mk op name l) cd .ret ⟨t,[]⟩ H:=by
 subst hcs; subst hn;exact Zce h4 h5 k4 (GhV.agg (Zod (Zoq _ _) (Zod (Zoq _ _) (Zod ((GhV.slice kg hle).trans (Zoi (hs.del gg) _)) (GhL.nil _)))))
theorem rsel0_ok {f:Fu} (hf:fuSz f≤1099511627776) {H:AH} {K:VE→AH→Prop} (hK:K (.ret (selV (Yy f []))) H):Yh Tryz.prog 73 [.agg [sV f.name,iV f.arity,clsV f.cls],.lit (.slice none 0 0)] H K:=by
 refine YM (Zod (Zoq _ _) (Zod (GhV.nil _) (GhL.nil _))) ?_;exact (ZgM f [] hf (by simp) (by simp)).use hK
def RstInv (H0:AH) (p:Pr) (E:Ex) (A:AF) (H:AH):Prop :=
 ∃ r2 r3 r4,A.d=[]∧A.t 2=ptrV r2 0∧A.t 3=ptrV r3 0∧A.t 4=ptrV r4 0∧A.t 5=iV 0∧SubH H0 H∧H0 r4=none∧H r2=some (.cells 25 [cosV p.cons,fusV p.funs] 0) ∧
   H r3=some (.cells 28 [iV E.op,sV E.name,encS exE E.kids] 0)∧(∃ a b c,H r4=some (.cells 28 [a,b,c] 0))∧(¬ r2=r4∧¬ r4=r2)∧(¬ r3=r4∧¬ r4=r3)
theorem ZkO {p:Pr} (hp:FuOk p) (hpf:p.funs.length≤1099511627776):∀ (n:Nat) (e:Ex),e.sz < n→e.sz≤1099511627776→e.sdF p []=0→e.isV p=false→PureF Tryz.prog 41 [prV p,exV e] (.tuple [exV (rstX p e),iV (stepF p e).2]):=by
 intro n
 induction n with
 | zero=>intro e h0; omega
 | succ n ih =>
   intro e h0 hs hsd hnv;have z:=e.sz_eq;have hkl:=YC e.kids;have hsd':=Xq.1 hsd;have hown:=XR.1 hsd'.1;have hfn:=Zbv p e.name hpf;refine Xo.pure fun H=>?_
   by_cases h2:e.op=2
   ·refine ZN fd41 (by simp) ?_;show vc _ _ (rstQ H (rstX p e) (stepF p e).2) _ _;delta c41 Zj Zi Zf Zd Zb Zm Zr Zo Zk Za Zh Zc Zg ZH Zp Zq;obtain ⟨j,hj,hat,har,_⟩:=ZdD hp.nd (hown.2.1 h2)
    have hst:stepF p e=((Yy p.funs[j] []).2.1,(Yy p.funs[j] []).2.2):=by
     rw [ZcN,if_pos h2,hat,ZoJ,ZoH hj]
    have hX:rstX p e=(Yy p.funs[j] []).2.1:=by unfold rstX; rw [if_pos h2,hst]
    rw [hX,hst];have hsel:=fun (H:AH) (K:VE→AH→Prop)=>rsel0_ok (f:=p.funs[j]) (hp.sz _ (Zn9 hj)) (H:=H) (K:=K)
    generalize Yy p.funs[j] []=S at *
    obtain ⟨sk,sb,sx⟩:=S;rw [hat] at hfn;have hjd:=WE hj;have hj0:(0:Int)≤(j:Int):=by omega
    have hjl:(j:Int) < (p.funs.length:Int):=by omega
    clear ih hsd hsd' hown hst hnv hat har hX
    (repeat' (first | (simp only [↓ZI,ZJ,ZV,ptrV,ZnW,ZnY,Zn7,ZM,setAt,ZnZ,undef,ZZ,Yq,Xj,YI,Yp,Yc,Ye,Wz,ZbC,YJ,Yi,Wd,Zbo,en_73, *]) | (refine ZS mixed (fun _ _ _ _ e h=>⟨e.trans h.1,h.2⟩) _ (Zn1 _) ?_) | (refine And.intro (Zn5 (by assumption)) ?_) | (refine ZK fun zr zh=>?_; have zg:=zh; (try simp only [Zn2] at zg)) | (exact Zn1 _) | (refine Zn3 (hfn) ?_) | (refine hsel _ _ ?_) | (with_reducible refine And.intro ?_ ?_)))
    all_goals rename_i r2 n2 n2' r3 n3 n3' r4 n4 n4'
    all_goals have g3:=n3'.2
    all_goals have g4:=n4'.2.2
    all_goals have g7:=zg.2.2.2
    all_goals exact Zce (e':=28) (sp:=0) (x:=sb) (by simp only [ZL,ZnW,if_true,if_false, *]<;>rfl) (by simp only [ZL,ZnW,if_true,if_false, *]<;>rfl) (by simp only [Zn8, *,if_true,if_false]<;>rfl) (Zoi (by repeat (first | exact Zn1 _ | refine Zn6 ?_ (by assumption))) _)
   ·obtain ⟨hop,hsplit⟩:=Zd5 hsd hnv h2;obtain ⟨q1,_,q3⟩:=ZjI hsd;have qz:=Zfb p e;have hXe:rstX p e=if (stepF p e).2=0 then (stepF p e).1 else preE p e:=by unfold rstX; rw [if_neg h2]
    obtain ⟨E,hE⟩:∃ E,E=preE p e:=⟨_,rfl⟩
    have hst:stepF p e=if 0≤nonV p E.kids then
     (match E.kids[(nonV p E.kids).toNat]? with
      | some k=>(.mk E.op E.name (E.kids.set (nonV p E.kids).toNat (stepF p k).1),(stepF p k).2)
      | none=>(e,0))
     else redF p E:=by rw [ZcN,if_neg h2,← hE]; rfl
    rw [hXe];rw [← hE] at hsplit q1 q3 qz;rw [← hE];have hEz:=E.sz_eq;have hEl:=YC E.kids;have hEN:E.kids.length≤1099511627776:=by omega
    have hEs:=(Xq.1 q1).2;rw [if_neg (by omega)] at hEs;have hisv:∀ (k:Ex),k.sz≤1099511627776→k.sdF p []=0→PureF Tryz.prog 40 [prV p,exV k] (boolV (k.isV p)):=fun k hk hs=>Zje hp.nd hpf (k.sz + 1) k [] (by omega) hk hs
    refine Zbh fd41 (by simp) ?_;show ACx _ _ (rstQ H _ _) _ _;delta c41 Zj Zi Zf Zd Zb Zm Zr Zo Zk Za Zh Zc Zg ZH Zp Zq;refine ZcL (l:=[_,_,_]) (K:=RstInv H p E) (fun _ _ _ h=>h) ?_ _ _ ?_
    ·rintro ⟨t,d⟩ B ⟨r2,r3,r4,rfl,h2',h3',h4',h5',hsb,g4,k2,k3,⟨z1,z2,z3,k4⟩,⟨d24,d42⟩,⟨d34,d43⟩⟩;dsimp only at h2' h3' h4' h5';refine Ya rfl (fun _ _ _ h=>h) ?_;replace hE:=Zn0 hE;replace hst:=Zn0 hst;replace hXe:=Zn0 hXe
     (repeat' (first | (simp only [↓ZI,ZJ,ZnY, *])))
     refine ZW (fun _ _ _ h=>h) (fun A H'=>H'=B∧A.d=[]∧A.t 2=ptrV r2 0∧A.t 3=ptrV r3 0∧A.t 4=ptrV r4 0∧A.t 5=iV 0∧∃ i:Nat,i≤E.kids.length∧A.t 9=iV i∧∀ j (h:j < E.kids.length),j < i→(!E.kids[j].isV p)=false)
      (fun A _=>match A.t 9 with | .lit (.int _ i)=>((E.kids.length:Int) - i).toNat | _=>0) ?_ ?_
     ·exact ⟨rfl,rfl,(by simp only [ZL,ZnW,if_false, *]<;>rfl),(by simp only [ZL,ZnW,if_false, *]<;>rfl),(by simp only [ZL,ZnW,if_false, *]<;>rfl),(by simp only [ZL,ZnW,if_false, *]<;>rfl),0,by omega,(by simp only [ZL,if_true, *]<;>rfl),fun j _ h=>by omega⟩
     ·clear h2' h3' h4' h5';rintro ⟨t,d⟩ H' ⟨rfl,rfl,h2',h3',h4',h5',i,hi,h9,hj⟩;dsimp only at h2' h3' h4' h5' h9;delta b41_1 Za Zd Zb Ze Zn Zr Zk Zo Zq Zh Zi Zg Zc Zm Zl Zf;by_cases hlt:i < E.kids.length
      ·have hil:(i:Int) < (E.kids.length:Int):=by omega
       have hki:=Yl (Zn9 hlt);have hdi:=XB hlt;have hv:=hisv E.kids[i] (by omega) (hEs _ (Zn9 hlt));cases hiv:E.kids[i].isV p with
       | true =>
         rw [hiv] at hv;replace hj:=Zn0 hj;clear ih hisv
         (repeat' (first | (simp only [↓ZI,ZJ,ptrV,intV,boolV,ZnW,ZnY,reduceCtorEq,ZnZ,Yb,Yv,YI,Yp,Yf,Zba, *]) | (refine ZS mixed (fun _ _ _ _ e h=>⟨e.trans h.1,h.2⟩) _ (Zn1 _) ?_) | (refine Zn3 (hv) ?_) | (with_reducible refine And.intro ?_ ?_)))
         all_goals try rw [ZR (n:=(i:Int) + 1) (by omega) (by omega)]
         all_goals first
          | omega
          | (refine ⟨i + 1,by omega,rfl,fun j h h'=>?_⟩
             rcases Zoy j i with h2 | h2
             ·exact hj.out j h h2
             ·obtain rfl:j=i:=by omega
              simp [hiv])
          | trace_state
       | false =>
         rw [hiv] at hv
         have hni:nonV p E.kids=(i:Int):=by
          rw [show nonV p E.kids=idxF (fun k=>!k.isV p) E.kids from rfl,← XP (p:=fun k=>!k.isV p) hlt (by simp [hiv]) (fun j h=>hj j (by omega) h)]
         have hst2:stepF p e=(.mk E.op E.name (E.kids.set i (stepF p E.kids[i]).1),(stepF p E.kids[i]).2):=by
          rw [hst.out,hni,if_pos (by omega),ZoJ,ZoH hlt]
         have hik:=ih E.kids[i] (by omega) (by omega) (hEs _ (Zn9 hlt)) hiv
         have hkX:rstX p E.kids[i]=(stepF p E.kids[i]).1∨¬ (stepF p E.kids[i]).2=0:=by
          by_cases h:(stepF p E.kids[i]).2=0
          ·left; unfold rstX
           by_cases h2':E.kids[i].op=2
           ·rw [if_pos h2']
           ·rw [if_neg h2',if_pos h]
          ·exact .inr h
         rw [hst2];clear hst hst2 hXe hj hisv hni ih;generalize rstX p E.kids[i]=X at *
         generalize stepF p E.kids[i]=S at *
         obtain ⟨S1,S2⟩:=S;dsimp only at hkX hik ⊢;by_cases hx:S2=0
         ·subst hx;rw [if_pos rfl];have hXS:X=S1:=hkX.resolve_right (by simp);subst hXS;clear hkX q3
          (repeat' (first | (simp only [↓ZI,ZJ,ZV,ptrV,intV,boolV,ZnW,ZnY,Zn7,Zor,Zof,reduceCtorEq,fillV,setAt,ZnZ,ZQ,ZQ,Yb,ZZ,Yq,Yv,YI,Yp,Yc,Ye,YJ,Yi,Yf,Zba,ZhS, *]) | (refine ZS mixed (fun _ _ _ _ e h=>⟨e.trans h.1,h.2⟩) _ (Zn1 _) ?_) | (refine And.intro (Zn5 (by assumption)) ?_) | (refine ZK fun zr zh=>?_; have zg:=zh; (try simp only [Zn2] at zg); (try have zn_k2:=ZnX k2 zh); (try have zn_k2:=ZnX k2 zg.2); (try have zn_k2:=ZnX k2 zg.2.2); (try have zn_k3:=ZnX k3 zh); (try have zn_k3:=ZnX k3 zg.2); (try have zn_k3:=ZnX k3 zg.2.2); (try have zn_k4:=ZnX k4 zh); (try have zn_k4:=ZnX k4 zg.2); (try have zn_k4:=ZnX k4 zg.2.2)) | (exact Zn1 _) | (refine Zn3 (hv) ?_) | (refine Zn3 (hik) ?_) | (with_reducible refine And.intro ?_ ?_)))
          ·have x10:=zg;have d4a:=ZnX k4 zg;generalize zr=r10 at *
           refine Xy Yf Yi rfl (by omega) rfl (XZ (enc:=exE) (k:=3) Wx _ false E.kids) (Xv ZbP _) (by omega) (by omega) (fun h=>by omega) (fun _ v' H2 ho=>?_);rcases ho with ⟨_,h00,_⟩ | ⟨g,c,sp,rfl,hg,rfl,hl1,hl2,hl3,_⟩
           ·omega
           rw [ZoV,Zot] at *
           have hgg:=hg;simp only [Zn2] at hgg;have d4g:=ZnX k4 hgg.2;have yg:=hsb.none hgg.2;have y10:=hsb.none x10;have hb4:=Zn0 k4;clear hik zh k2 k3
           (repeat' (first | (simp only [↓ZI,ZJ,ptrV,ZnW,ZnY,Zn7,Zof,ZX,fillV,setAt,ZnZ,Yb,Yv,Yp,YJ,Wt,Yi,Yf, *]) | (refine And.intro (Zn5 (by assumption)) ?_) | (refine ZK fun zr zh=>?_; have zg:=zh; (try simp only [Zn2] at zg); (try have zn_k4:=ZnX k4 zh); (try have zn_k4:=ZnX k4 zg.2); (try have zn_k4:=ZnX k4 zg.2.2)) | (exact Zn1 _) | (refine Zn6 ?_ ?_) | (with_reducible refine And.intro ?_ ?_)))
           ·omega
           ·have y12:=hsb.none zg.2.2;exact ZgN (e':=28) (e2:=28) (r:=r4) (g:=g) (by simp only [ZL,ZnW,if_false, *]<;>rfl) (by simp only [ZL,ZnW,if_true,if_false, *]<;>rfl) (Zn4 _ _ _) (by rw [Zoa _ _ d4g.2]; exact Zn4 _ _ _) (ZdE hlt) (by rw [List.length_set]) (by omega) (by repeat (first | exact hsb | refine Zn6 ?_ (by assumption))) yg
          ·rename_i r10 m10 m10' w2 w3 w4;have x10:=m10';have x12:=zg.2;have d4a:=w4;have d4b:=ZnX k4 x12;have dab:=zg.1;generalize zr=r12 at *
           refine Xy Yf Yi rfl (by omega) rfl (XZ (enc:=exE) (k:=3) Wx _ false E.kids) (Xv ZbP _) (by omega) (by omega) (fun h=>by omega) (fun _ v' H2 ho=>?_);rcases ho with ⟨_,h00,_⟩ | ⟨g,c,sp,rfl,hg,rfl,hl1,hl2,hl3,_⟩
           ·omega
           rw [ZoV,Zot] at *
           have hgg:=hg;simp only [Zn2] at hgg;have d4g:=ZnX k4 hgg.2.2;have yg:=hsb.none hgg.2.2;have y10:=hsb.none x10;have y12:=hsb.none x12;have hb4:=Zn0 k4;clear hik zh zg k2 k3 m10 m10'
           (repeat' (first | (simp only [↓ZI,ZJ,ptrV,ZnW,ZnY,Zn7,Zof,ZX,fillV,setAt,ZnZ,Yb,Yv,Yp,YJ,Wt,Yf, *]) | (exact Zn1 _) | (refine Zn6 ?_ ?_) | (with_reducible refine And.intro ?_ ?_)))
           ·omega
           ·exact ZgN (e':=28) (e2:=28) (r:=r4) (g:=g) (by simp only [ZL,ZnW,if_false, *]<;>rfl) (by simp only [ZL,ZnW,if_true,if_false, *]<;>rfl) (Zn4 _ _ _) (by rw [Zoa _ _ d4g.2]; exact Zn4 _ _ _) (ZdE hlt) (by rw [List.length_set]) (by omega) (by repeat (first | exact hsb | refine Zn6 ?_ (by assumption))) yg
          ·have x10:=zg;have d4a:=ZnX k4 zg;generalize zr=r10 at *
           refine Xy Yf Yi rfl (by omega) rfl (XZ (enc:=exE) (k:=3) Wx _ false E.kids) (Xv ZbP _) (by omega) (by omega) (fun h=>by omega) (fun _ v' H2 ho=>?_);rcases ho with ⟨_,h00,_⟩ | ⟨g,c,sp,rfl,hg,rfl,hl1,hl2,hl3,_⟩
           ·omega
           rw [ZoV,Zot] at *
           have hgg:=hg;simp only [Zn2] at hgg;have d4g:=ZnX k4 hgg.2;have yg:=hsb.none hgg.2;have y10:=hsb.none x10;have hb4:=Zn0 k4;clear hik zh k2 k3
           (repeat' (first | (simp only [↓ZI,ZJ,ptrV,ZnW,ZnY,Zn7,Zof,ZX,fillV,setAt,ZnZ,Yb,Yv,Yp,YJ,Wt,Yi,Yf, *]) | (refine And.intro (Zn5 (by assumption)) ?_) | (refine ZK fun zr zh=>?_; have zg:=zh; (try simp only [Zn2] at zg); (try have zn_k4:=ZnX k4 zh); (try have zn_k4:=ZnX k4 zg.2); (try have zn_k4:=ZnX k4 zg.2.2)) | (exact Zn1 _) | (refine Zn6 ?_ ?_) | (with_reducible refine And.intro ?_ ?_)))
           ·omega
           ·have y12:=hsb.none zg.2.2;exact ZgN (e':=28) (e2:=28) (r:=r4) (g:=g) (by simp only [ZL,ZnW,if_false, *]<;>rfl) (by simp only [ZL,ZnW,if_true,if_false, *]<;>rfl) (Zn4 _ _ _) (by rw [Zoa _ _ d4g.2]; exact Zn4 _ _ _) (ZdE hlt) (by rw [List.length_set]) (by omega) (by repeat (first | exact hsb | refine Zn6 ?_ (by assumption))) yg
          ·rename_i r10 m10 m10' w2 w3 w4;have x10:=m10';have x12:=zg.2;have d4a:=w4;have d4b:=ZnX k4 x12;have dab:=zg.1;generalize zr=r12 at *
           refine Xy Yf Yi rfl (by omega) rfl (XZ (enc:=exE) (k:=3) Wx _ false E.kids) (Xv ZbP _) (by omega) (by omega) (fun h=>by omega) (fun _ v' H2 ho=>?_);rcases ho with ⟨_,h00,_⟩ | ⟨g,c,sp,rfl,hg,rfl,hl1,hl2,hl3,_⟩
           ·omega
           rw [ZoV,Zot] at *
           have hgg:=hg;simp only [Zn2] at hgg;have d4g:=ZnX k4 hgg.2.2;have yg:=hsb.none hgg.2.2;have y10:=hsb.none x10;have y12:=hsb.none x12;have hb4:=Zn0 k4;clear hik zh zg k2 k3 m10 m10'
           (repeat' (first | (simp only [↓ZI,ZJ,ptrV,ZnW,ZnY,Zn7,Zof,ZX,fillV,setAt,ZnZ,Yb,Yv,Yp,YJ,Wt,Yf, *]) | (exact Zn1 _) | (refine Zn6 ?_ ?_) | (with_reducible refine And.intro ?_ ?_)))
           ·omega
           ·exact ZgN (e':=28) (e2:=28) (r:=r4) (g:=g) (by simp only [ZL,ZnW,if_false, *]<;>rfl) (by simp only [ZL,ZnW,if_true,if_false, *]<;>rfl) (Zn4 _ _ _) (by rw [Zoa _ _ d4g.2]; exact Zn4 _ _ _) (ZdE hlt) (by rw [List.length_set]) (by omega) (by repeat (first | exact hsb | refine Zn6 ?_ (by assumption))) yg
         ·rw [if_neg hx];clear hkX q3;have k3':GhV H' (.agg [iV E.op,sV E.name,encS exE E.kids]) H (exV E):=Zoi hsb _
          (repeat' (first | (simp only [↓ZI,ZJ,ZV,ptrV,intV,boolV,ZnW,ZnY,Zn7,reduceCtorEq,setAt,ZnZ,Yb,Yv,YI,Yp,YJ,Yi,Yf,Zba,ZhS, *]) | (refine ZS mixed (fun _ _ _ _ e h=>⟨e.trans h.1,h.2⟩) _ (Zn1 _) ?_) | (refine And.intro (Zn5 (by assumption)) ?_) | (refine ZK fun zr zh=>?_; have zg:=zh; (try simp only [Zn2] at zg); (try have zn_k2:=ZnX k2 zh); (try have zn_k2:=ZnX k2 zg.2); (try have zn_k2:=ZnX k2 zg.2.2); (try have zn_k3:=ZnX k3 zh); (try have zn_k3:=ZnX k3 zg.2); (try have zn_k3:=ZnX k3 zg.2.2); (try have zn_k4:=ZnX k4 zh); (try have zn_k4:=ZnX k4 zg.2); (try have zn_k4:=ZnX k4 zg.2.2)) | (exact Zn1 _) | (refine Zn3 (hv) ?_) | (refine Zn3 (hik) ?_) | (with_reducible refine And.intro ?_ ?_)))
          all_goals have y10:=hsb.none zg
          all_goals exact Zce (e':=28) (sp:=0) (by simp only [ZL,ZnW,if_false, *]<;>rfl) (by simp only [ZL,ZnW,if_true,if_false, *]<;>rfl) (Zn4 _ _ _) (Zoi (by repeat (first | exact hsb | refine Zn6 ?_ (by assumption))) _)
      ·have hil:¬ (i:Int) < (E.kids.length:Int):=by omega
       have hni:nonV p E.kids=-1:=by
        rw [show nonV p E.kids=idxF (fun k=>!k.isV p) E.kids from rfl];exact Wp (p:=fun k=>!k.isV p) (fun j h=>hj j h (by omega))
       rcases hsplit with ⟨i',hi',hni',_⟩ | ⟨_,hall,hop4,hEf,hEnn,f,a,r,hk,hcase⟩
       ·rw [hni] at hni'; omega
       have hEo:E.op=4:=by rw [q3,hop4]
       have hfs:=hEs f (by rw [hk]; simp);have hfo:=XR.1 (Xq.1 hfs).1;have ek:encS exE E.kids=.slice false (r.length + 2) (iV f.op :: sV f.name :: encS exE f.kids :: iV a.op :: sV a.name :: encS exE a.kids :: encC exE r):=by rw [hk,encS,Yr,Yr,XC,XC]; rfl
       have hmz:∀ x∈E.kids,x.sz≤1099511627776:=fun x hx=>by have:=Yl hx; omega
       have hrz:r.length + 2≤1099511627776:=by rw [hk] at hEN; simpa using hEN
       have hl0:(0:Int) < ((r.length + 2:Nat):Int):=by omega
       have hl1:(0:Int) < ((r.length + 2 - 1:Nat):Int):=by omega
       have hred:redF p E=if f.op=5 then ((Xl ((f.kids.headD zEx).put [(f.name,a)]) r),0)
        else if f.op=3 then (E,421)
        else (match p.funs[(atFu p.funs f.name).toNat]? with
         | some g=>(Xl (Yy g ((a :: r).take g.arity.toNat)).2.1 ((a :: r).drop g.arity.toNat),(Yy g ((a :: r).take g.arity.toNat)).2.2)
         | none=>(E,0)):=by unfold redF; rw [hk]; rfl
       have hst2:stepF p e=redF p E:=by rw [hst.out,hni,if_neg (by omega)]
       rw [hred] at hst2;have hfnf:=Zbv p f.name hpf;clear hst hXe hred ih hisv hEs hEl hEz q1 q3 qz hsd hsd' hown hnv hkl z hEf hj hni hfn hEnn hall;have hkx:E.kids.length=r.length + 2:=by rw [hk]; rfl
       replace hst2:=Zn0 hst2;replace hk:=Zn0 hk;replace hkx:=Zn0 hkx;replace ek:=Zn0 ek;replace hEo:=Zn0 hEo
       (repeat' (first | (simp only [↓ZI,ZJ,ptrV,intV,ZnW,ZnY,reduceCtorEq,ZnZ,Yb,Yv,Yf, *])))
       delta c41_1 Zd Zb Zq Zr Zi Zg Zc Zm Za Zo Zf Zk ZG Zh ZF;refine Ya rfl (fun _ _ _ h=>h) ?_;rcases hcase with ⟨hf5,bd,hbd⟩ | hf3 | ⟨hf2,hfp,hfl⟩
       ·have hbz:bd.sz≤1099511627776:=by have h1:=hmz f (by rw [hk.out]; simp); have h2:=f.sz_eq; rw [hbd,exsSz] at h2; omega
        have ekf:encS exE f.kids=.slice false 1 [iV bd.op,sV bd.name,encS exE bd.kids]:=by rw [hbd,encS,Yr,XC]; rfl
        rw [hst2.out,if_pos hf5,hbd];clear hst2;show vc _ _ (rstQ H (if (0:Int)=0 then (Xl (bd.put [(f.name,a)]) r) else E) 0) _ _;rw [if_pos rfl]
        have hput:∀ (H:AH) (K:VE→AH→Prop),K (.ret (exV (bd.put [(f.name,a)]))) H→Yh Tryz.prog 75 [.agg [iV bd.op,sV bd.name,encS exE bd.kids],.slice true 1 [sV f.name,iV a.op,sV a.name,encS exE a.kids]] H K:=fun H K hK =>
         YM (Zod (Zoq _ _) (Zod (GhV.imm H) (GhL.nil _))) ((ZmW bd [(f.name,a)] hbz (by simp)).use hK)
        have happ:=ZkL false (bd.put [(f.name,a)]) r (by omega);generalize bd.put [(f.name,a)]=X at *
        generalize hY:Xl X r=Y at *
        clear hfo hmz hbd hY hfnf;rw [hEo.out,ek.out,hf5,ekf] at k3;replace ekf:=Zn0 ekf;have hw1:((1:Nat):Int)=1:=rfl
        (repeat' (first | (simp only [↓ZI,ZJ,ptrV,ZnW,ZnY,Zn7,Zor,Zof,ZX,fillV,setAt,ZnZ,Zom,Zok,ZQ,ZX,ZoI,ZoK,Int.reduceToNat,YB,ZoC,Zog,YV,idxV,idxOk,imp_self,Yb,ZZ,Yq,Yv,Yp,Yc,Ye,YJ,Yi,Jv,Zmk,Yf,Je,en_75,en_74, *]) | (refine ZS mixed (fun _ _ _ _ e h=>⟨e.trans h.1,h.2⟩) _ (Zn1 _) ?_) | (refine And.intro (Zn5 (by assumption)) ?_) | (refine ZK fun zr zh=>?_; have zg:=zh; (try simp only [Zn2] at zg); (try have zn_k2:=ZnX k2 zh); (try have zn_k2:=ZnX k2 zg.2); (try have zn_k2:=ZnX k2 zg.2.2); (try have zn_k3:=ZnX k3 zh); (try have zn_k3:=ZnX k3 zg.2); (try have zn_k3:=ZnX k3 zg.2.2); (try have zn_k4:=ZnX k4 zh); (try have zn_k4:=ZnX k4 zg.2); (try have zn_k4:=ZnX k4 zg.2.2)) | (exact Zn1 _) | (refine Zn3 (happ) ?_) | (refine hput _ _ ?_) | (with_reducible refine And.intro ?_ ?_)))
        all_goals have y13:=hsb.none zg
        all_goals first
         | omega
         | exact fun h=>trivial
         | (refine Zce (e':=28) (sp:=0) (by simp only [ZL,ZnW,if_false, *]<;>rfl) (by simp only [ZL,ZnW,if_true,if_false, *]<;>rfl) (Zn4 _ _ _) ?_
            exact Zoi (by repeat (first | exact hsb | refine Zn6 ?_ (by assumption))) _)
         | trace_state
       ·rw [hst2.out,if_neg (show ¬ f.op=5 by omega),if_pos hf3];clear hst2 hfo hmz hfnf;show vc _ _ (rstQ H (if (421:Int)=0 then E else E) 421) _ _;rw [if_neg (by omega)];rw [hEo.out,ek.out,hf3] at k3;have q7:VV.agg [iV 4,sV E.name,.slice false (r.length + 2) (iV 3 :: sV f.name :: encS exE f.kids :: iV a.op :: sV a.name :: encS exE a.kids :: encC exE r)]=exV E:=by rw [← hf3,← ek.out,← hEo.out]
        replace q7:=Zn0 q7
        (repeat' (first | (simp only [↓ZI,ZJ,ptrV,ZnW,ZnY,Zn7,Zor,Zof,setAt,ZnZ,Zoh,Zok,ZoI,ZoK,Int.reduceToNat,YB,ZoC,Zog,YV,idxV,idxOk,imp_self,Yb,ZZ,Yv,Yp,Yc,YJ,Yi,Yf, *]) | (refine ZS mixed (fun _ _ _ _ e h=>⟨e.trans h.1,h.2⟩) _ (Zn1 _) ?_) | (refine And.intro (Zn5 (by assumption)) ?_) | (refine ZK fun zr zh=>?_; have zg:=zh; (try simp only [Zn2] at zg); (try have zn_k2:=ZnX k2 zh); (try have zn_k2:=ZnX k2 zg.2); (try have zn_k2:=ZnX k2 zg.2.2); (try have zn_k3:=ZnX k3 zh); (try have zn_k3:=ZnX k3 zg.2); (try have zn_k3:=ZnX k3 zg.2.2); (try have zn_k4:=ZnX k4 zh); (try have zn_k4:=ZnX k4 zg.2); (try have zn_k4:=ZnX k4 zg.2.2))))
        all_goals have y13:=hsb.none zg
        all_goals first
         | omega
         | exact fun h=>trivial
         | (refine Zce (e':=28) (sp:=0) (by simp only [ZL,ZnW,if_false, *]<;>rfl) (by simp only [ZL,ZnW,if_true,if_false, *]<;>rfl) (Zn4 _ _ _) ?_
            rw [q7.out];exact Zoi (by repeat (first | exact hsb | refine Zn6 ?_ (by assumption))) _)
         | trace_state
       ·obtain ⟨j,hj,hat,har,hfm⟩:=ZdD hp.nd (hfo.2.1 hf2);rw [hst2.out,if_neg (show ¬ f.op=5 by omega),if_neg (show ¬ f.op=3 by omega)];rw [hat,ZoJ,ZoH hj];rw [har] at hfp hfl;rw [hat] at hfnf;obtain ⟨ka,hka⟩:∃ ka:Nat,p.funs[j].arity=ka:=⟨p.funs[j].arity.toNat,by omega⟩
        have hkl:ka≤(a :: r).length:=by rw [Zox]; omega
        have hvs:∀ x∈(a :: r).take ka,x.sz≤1099511627776:=fun x hx=>hmz x (by rw [hk.out]; exact ZoY _ (List.mem_of_mem_take hx))
        have hseq:=ZgM p.funs[j] ((a :: r).take ka) (hp.sz _ (Zn9 hj)) (by rw [ZoF,Zox]; omega) hvs;have eal:encC exE (a :: r)=iV a.op :: sV a.name :: encS exE a.kids :: encC exE r:=by rw [Yr,XC]; rfl
        have hsel:∀ (H:AH) (K:VE→AH→Prop),K (.ret (selV (Yy p.funs[j] ((a :: r).take ka)))) H→Yh Tryz.prog 73 [.agg [sV p.funs[j].name,iV ka,clsV p.funs[j].cls],.slice false ka (iV a.op :: sV a.name :: encS exE a.kids :: encC exE r)] H K:=fun H K hK=>by
         rw [← eal];have e:encC exE (a :: r)=encC exE ((a :: r).take ka) ++ encC exE ((a :: r).drop ka):=by rw [← Yo,ZoU]
         rw [e];refine YM (Zod (Zoq _ _) (Zod (GhV.trunc _ _ _ _ _) (GhL.nil _))) ?_;have el:((a :: r).take ka).length=ka:=by rw [ZoF]; omega
         rw [show VV.slice false ka (encC exE ((a :: r).take ka))=exsV ((a :: r).take ka) from by rw [exsV,encS,el],← hka];exact hseq.use hK
        show vc _ _ (rstQ H (if (Yy p.funs[j] ((a :: r).take p.funs[j].arity.toNat)).2.2=0 then Xl (Yy p.funs[j] ((a :: r).take p.funs[j].arity.toNat)).2.1 ((a :: r).drop p.funs[j].arity.toNat) else E) (Yy p.funs[j] ((a :: r).take p.funs[j].arity.toNat)).2.2) _ _;rw [show p.funs[j].arity.toNat=ka by omega];generalize Yy p.funs[j] ((a :: r).take ka)=S at *
        obtain ⟨sk,sb,sx⟩:=S;dsimp only;have happ:=ZkL false sb ((a :: r).drop ka) (by rw [List.length_drop,Zox]; omega);have hdl:((a :: r).drop ka).length=r.length + 2 - 1 - ka:=by rw [List.length_drop,Zox]; omega
        have hdc:encC exE ((a :: r).drop ka)=(iV a.op :: sV a.name :: encS exE a.kids :: encC exE r).drop (ka * 3):=by
         rw [← eal];have h2:encC exE (a :: r)=encC exE ((a :: r).take ka) ++ encC exE ((a :: r).drop ka):=by rw [← Yo,ZoU]
         rw [h2,List.drop_left' (by rw [Wb Wx,ZoF]; congr 1; omega)]
        rw [hdl,hdc] at happ;have q7:VV.agg [iV 4,sV E.name,.slice false (r.length + 2) (iV 2 :: sV f.name :: encS exE f.kids :: iV a.op :: sV a.name :: encS exE a.kids :: encC exE r)]=exV E:=by rw [← hf2,← ek.out,← hEo.out]
        replace q7:=Zn0 q7;generalize Xl sb ((a :: r).drop ka)=Y at *
        rw [hka] at hfm;rw [hEo.out,ek.out,hf2] at k3;have hka0:(0:Int)≤(ka:Int):=by omega
        have hkal:ka≤r.length + 2 - 1:=by rw [Zox] at hkl; omega
        have hjd:=WE hj;have hj0:(0:Int)≤(j:Int):=by omega
        have hjl:(j:Int) < (p.funs.length:Int):=by omega
        rw [hka] at hjd;clear hfo hmz hseq hvs hdl hdc hkl hfp hfl har hat hk hst2 hfm;by_cases hsx:sx=0
        ·subst hsx;rw [if_pos rfl]
         (repeat' (first | (simp only [↓ZI,ZJ,ZV,ptrV,ZnW,ZnY,Zn7,Zor,Zof,reduceCtorEq,setAt,ZnZ,Zoh,Zok,ZoI,ZoK,Int.reduceToNat,YB,ZoC,Zog,YV,idxV,idxOk,imp_self,Yb,ZZ,Yq,Xj,WG,Yv,YI,Yp,Yc,Ye,Wz,ZbC,YJ,Zf0,Yi,ZbD,Yf,Wd,en_74,Zbo,en_73, *]) | (refine ZS mixed (fun _ _ _ _ e h=>⟨e.trans h.1,h.2⟩) _ (Zn1 _) ?_) | (refine And.intro (Zn5 (by assumption)) ?_) | (refine ZK fun zr zh=>?_; have zg:=zh; (try simp only [Zn2] at zg); (try have zn_k2:=ZnX k2 zh); (try have zn_k2:=ZnX k2 zg.2); (try have zn_k2:=ZnX k2 zg.2.2); (try have zn_k3:=ZnX k3 zh); (try have zn_k3:=ZnX k3 zg.2); (try have zn_k3:=ZnX k3 zg.2.2); (try have zn_k4:=ZnX k4 zh); (try have zn_k4:=ZnX k4 zg.2); (try have zn_k4:=ZnX k4 zg.2.2)) | (exact Zn1 _) | (refine Zn3 (hfnf) ?_) | (refine Zn3 (happ) ?_) | (refine hsel _ _ ?_) | (with_reducible refine And.intro ?_ ?_)))
         all_goals first
          | exact fun h=>trivial
          | exact Nat.zero_le _
          | (rename_i s1 s2 s3 s4 s5 s6 u1 u2 u3 u4 u5 u6
             have y13:=hsb.none s3;have y15:=hsb.none u3.2;have y17:=hsb.none zg.2.2;refine Zce (e':=28) (sp:=0) (by simp only [ZL,ZnW,if_false, *]<;>rfl) (by simp only [ZL,ZnW,if_true,if_false, *]<;>rfl) (Zn4 _ _ _) ?_;exact Zoi (by repeat (first | exact hsb | refine Zn6 ?_ (by assumption))) _)
          | trace_state
        ·rw [if_neg hsx]
         (repeat' (first | (simp only [↓ZI,ZJ,ZV,ptrV,ZnW,ZnY,Zn7,Zor,Zof,reduceCtorEq,setAt,ZnZ,Zoh,Zok,ZoI,ZoK,Int.reduceToNat,YB,ZoC,Zog,YV,idxV,idxOk,imp_self,Yb,ZZ,Yq,Xj,WG,Yv,YI,Yp,Yc,Ye,Wz,ZbC,YJ,Zf0,Yi,ZbD,Yf,Wd,Zbo,en_73, *]) | (refine ZS mixed (fun _ _ _ _ e h=>⟨e.trans h.1,h.2⟩) _ (Zn1 _) ?_) | (refine And.intro (Zn5 (by assumption)) ?_) | (refine ZK fun zr zh=>?_; have zg:=zh; (try simp only [Zn2] at zg); (try have zn_k2:=ZnX k2 zh); (try have zn_k2:=ZnX k2 zg.2); (try have zn_k2:=ZnX k2 zg.2.2); (try have zn_k3:=ZnX k3 zh); (try have zn_k3:=ZnX k3 zg.2); (try have zn_k3:=ZnX k3 zg.2.2); (try have zn_k4:=ZnX k4 zh); (try have zn_k4:=ZnX k4 zg.2); (try have zn_k4:=ZnX k4 zg.2.2)) | (exact Zn1 _) | (refine Zn3 (hfnf) ?_) | (refine hsel _ _ ?_) | (with_reducible refine And.intro ?_ ?_)))
         all_goals first
          | exact fun h=>trivial
          | exact Nat.zero_le _
          | (rename_i s1 s2 s3 s4 s5 s6 u1 u2 u3 u4 u5 u6
             have y13:=hsb.none s3;have y15:=hsb.none u3.2;have y17:=hsb.none zg.2.2;refine Zce (e':=28) (sp:=0) (by simp only [ZL,ZnW,if_false, *]<;>rfl) (by simp only [ZL,ZnW,if_true,if_false, *]<;>rfl) (Zn4 _ _ _) ?_;rw [q7.out];exact Zoi (by repeat (first | exact hsb | refine Zn6 ?_ (by assumption))) _)
          | trace_state
    ·simp only [vcs];rcases hop with h3 | h4
     ·have hEe:E=e:=by rw [hE]; unfold preE; rw [if_neg (by omega)]
      clear ih hsd hsd' hown hst hnv hXe;replace hE:=Zn0 hE;replace hEe:=Zn0 hEe
      (repeat' (first | (simp only [↓ZI,ZJ,ptrV,ZnW,ZnY,ZU,ZM,ZnZ,undef,Zoh,ZZ,Yc,Yi,Zba, *]) | (refine ZS mixed (fun _ _ _ _ e h=>⟨e.trans h.1,h.2⟩) _ (Zn1 _) ?_) | (refine ZK fun zr zh=>?_; have zg:=zh; (try simp only [Zn2] at zg))))
      rename_i r2 n2 n2' r3 n3 n3';have g3:=n3'.2;have g4:=zg.2.2;exact ⟨r2,r3,zr,rfl,(by simp only [ZL,ZnW,if_true,if_false, *]<;>rfl),(by simp only [ZL,ZnW,if_true,if_false, *]<;>rfl),(by simp only [ZL,ZnW,if_true,if_false, *]<;>rfl),(by simp only [ZL,ZnW,if_true,if_false, *]<;>rfl),(by repeat (first | exact Zn1 _ | refine Zn6 ?_ (by assumption))),g4,(by simp only [Zn8, *,if_true,if_false]<;>rfl),by rw [Zoa _ _ zg.1.2,Zn4,hEe.out,h3],⟨_,_,_,(by simp only [Zn8, *,if_true,if_false]<;>rfl)⟩,⟨zg.2.1.2,zg.2.1.1⟩,⟨zg.1.2,zg.1.1⟩⟩
     ·obtain ⟨hen,k,k2,r,hek⟩:=Zdy hsd h4;have hks:=hsd'.2 k (by rw [hek]; simp);rw [if_neg (by omega)] at hks;have hkz:k.sz≤1099511627776:=by have:=Yl (l:=e.kids) (e:=k) (by rw [hek]; simp); omega
      have hkv:=hisv k hkz hks;have hl0:(0:Int) < ((r.length + 2:Nat):Int):=by omega
      have ek:encS exE e.kids=.slice false (r.length + 2) (iV k.op :: sV k.name :: encS exE k.kids :: encC exE (k2 :: r)):=by rw [hek,encS,Yr,XC]; rfl
      have q5:VV.agg [iV 4,sV e.name,.slice false (r.length + 2) (iV k.op :: sV k.name :: encS exE k.kids :: encC exE (k2 :: r))]=exV e:=by rw [← ek]; show _=VV.agg [iV e.op,sV e.name,encS exE e.kids]; rw [h4]
      have hfl:=ZkM hsd hs;rw [← q5] at hfl;have hhd:headV p e=k.isV p:=by unfold headV; rw [hek]
      cases hkb:k.isV p with
      | true =>
        have hEe:E=e.flat:=by rw [hE]; unfold preE; rw [if_pos ⟨h4,by rw [hhd,hkb]⟩]
        rw [← hEe] at hfl;rw [hkb] at hkv;clear ih hsd hsd' hown hst hnv hkb hhd hek hen q5 hXe;replace hE:=Zn0 hE;replace hEe:=Zn0 hEe
        (repeat' (first | (simp only [↓ZI,ZJ,ptrV,boolV,ZnW,ZnY,Zn7,ZM,setAt,ZnZ,undef,Zoh,Zok,ZoI,ZoK,Yb,ZZ,Yv,YI,Yp,Yc,YJ,Yi,Yf,Zba,en_72, *]) | (refine ZS mixed (fun _ _ _ _ e h=>⟨e.trans h.1,h.2⟩) _ (Zn1 _) ?_) | (refine ZK fun zr zh=>?_; have zg:=zh; (try simp only [Zn2] at zg)) | (refine Zn3 (hkv) ?_) | (refine Zn3 (hfl) ?_)))
        rename_i r2 n2 n2' r3 n3 n3';have g3:=n3'.2;have g4:=zg.2.2;exact ⟨r2,r3,zr,rfl,(by simp only [ZL,ZnW,if_true,if_false, *]<;>rfl),(by simp only [ZL,ZnW,if_true,if_false, *]<;>rfl),(by simp only [ZL,ZnW,if_true,if_false, *]<;>rfl),(by simp only [ZL,ZnW,if_true,if_false, *]<;>rfl),(by repeat (first | exact Zn1 _ | refine Zn6 ?_ (by assumption))),g4,(by simp only [Zn8, *,if_true,if_false]<;>rfl),(by simp only [Zn8, *,if_true,if_false]<;>rfl),⟨_,_,_,(by simp only [Zn8, *,if_true,if_false]<;>rfl)⟩,⟨zg.2.1.2,zg.2.1.1⟩,⟨zg.1.2,zg.1.1⟩⟩
      | false =>
        have hEe:E=e:=by rw [hE]; unfold preE; rw [if_neg (by rw [hhd,hkb]; simp)]
        rw [hkb] at hkv;replace hkb:=Zn0 hkb;clear ih hsd hsd' hown hst hnv hhd hek hen q5 hXe;replace hE:=Zn0 hE;replace hEe:=Zn0 hEe
        (repeat' (first | (simp only [↓ZI,ZJ,ptrV,boolV,ZnW,ZnY,ZM,ZnZ,undef,Zoh,Zok,ZoI,ZoK,Yb,ZZ,Yv,YI,Yp,Yc,Yi,Yf,Zba, *]) | (refine ZS mixed (fun _ _ _ _ e h=>⟨e.trans h.1,h.2⟩) _ (Zn1 _) ?_) | (refine ZK fun zr zh=>?_; have zg:=zh; (try simp only [Zn2] at zg)) | (refine Zn3 (hkv) ?_)))
        rename_i r2 n2 n2' r3 n3 n3';have g3:=n3'.2;have g4:=zg.2.2;exact ⟨r2,r3,zr,rfl,(by simp only [ZL,ZnW,if_true,if_false, *]<;>rfl),(by simp only [ZL,ZnW,if_true,if_false, *]<;>rfl),(by simp only [ZL,ZnW,if_true,if_false, *]<;>rfl),(by simp only [ZL,ZnW,if_true,if_false, *]<;>rfl),(by repeat (first | exact Zn1 _ | refine Zn6 ?_ (by assumption))),g4,(by simp only [Zn8, *,if_true,if_false]<;>rfl),by rw [Zoa _ _ zg.1.2,Zn4,hEe.out,h4,ek],⟨_,_,_,(by simp only [Zn8, *,if_true,if_false]<;>rfl)⟩,⟨zg.2.1.2,zg.2.1.1⟩,⟨zg.1.2,zg.1.1⟩⟩
end Go.PV.YtglpmlbbaedbiaaGreat
end
section
open Go.PV.AH renaming set_none→Zn2,set_same→Zn4,ne_of→ZnX,get→Zn8,set_ne→Zoa
open Go.PV.GhL renaming cons→Zod
open Go.PV.GhV renaming refl→Zoq,forget→Zoi
open Go.PV.Hold renaming mk→Zn0
open Go.PV.PureF renaming use→Zn3
open Go.PV.SubH renaming refl→Zn1,of_set→Zn6
open Int renaming toNat_natCast→ZoJ
open List renaming drop_zero→ZoB,drop→ZnZ
open Nat renaming reduceEqDiff→ZnW,reduceLT→ZnY,reduceAdd→Zn7
open Option renaming bind_some→Zol,map_some→Zog
set_option maxRecDepth 20000
set_option maxHeartbeats 8000000
namespace Go.PV.YtglpmlbbaedbiaaGreat
open Go Go.Proofs
theorem Zix {p:Pr} {e:Ex} (h:(stepF p e).2=0):rstX p e=(stepF p e).1:=by
 unfold rstX;by_cases h2:e.op=2
 ·rw [if_pos h2]
 ·rw [if_neg h2,if_pos h]
def rsrQ (H0:AH) (R:Ex × Bool × Int):APost:=YW Tryz.prog [.cell 4 28,.tmp 5,.tmp 6] fun e H'=>∃ y,e=VE.ret y∧GhV H' y H0 (srV R)
theorem ZgO {H0 H:AH} {t:Nat→VV} {r sp:Nat} {b1:Bool} {c:Int} {a b d:VV} {e':TypeId} {x:Ex} (h4:t 4=ptrV r 0) (h5:t 5=boolV b1) (h6:t 6=iV c) (k4:H r=some (.cells e' [a,b,d] sp)) (hg:GhV H (.agg [a,b,d]) H0 (exV x)):rsrQ H0 (x,b1,c) .ret ⟨t,[]⟩ H:=by
 refine Yk rfl (x:=.tuple [.agg [a,b,d],boolV b1,iV c]) (by simp only [resV,YO,YN,Yp,h4,h5,h6,k4,ptrV,ZoB,Xt,Zol,Zog,tupV]) ⟨_,rfl,?_⟩;have h1:GhL H [.agg [a,b,d],boolV b1,iV c] H0 [exV x,boolV b1,iV c]:=Zod hg (Zod (Zoq _ _) (Zod (Zoq _ _) (GhL.nil _)));exact GhV.tuple h1
theorem rStep_ok {p:Pr} (hp:InOk p) (hrp:RPrOk p) {e:Ex} (hs:e.sz≤1099511627776):PureF Tryz.prog 16 [prV p,exV e] (srV (stepR p e)):=by
 have hrt:=Ziv hrp hs;refine Xo.pure fun H0=>?_
 refine ZN fd16 (by simp) ?_;show vc _ _ (rsrQ H0 (stepR p e)) _ _;delta c16 Zj Zi Zq Zf Zb Zo Zr Zc Za Zm Zg Zh;by_cases hr:Wo p e=0
 ·obtain ⟨hc,hz,_,hsd⟩:=JW hr;have hfu:=hp.fu hc;have hisv:=Zje hfu.nd hrp.funs (e.sz + 1) e [] (by omega) hs hsd;rw [hr] at hrt;cases hv:e.isV p with
  | true =>
    have hR:stepR p e=(e,false,0):=by unfold stepR; rw [if_pos hr,if_pos hv]
    rw [hR];rw [hv] at hisv;clear hR hr hv
    (repeat' (first | (simp only [↓ZI,ZJ,ptrV,boolV,ZnW,ZnY,Zn7,ZM,setAt,ZnZ,undef,YI,Yp,YJ,Yi,Zgf,Zba, *]) | (refine ZK fun zr zh=>?_; have zg:=zh; (try simp only [Zn2] at zg)) | (refine Zn3 (hrt) ?_) | (refine Zn3 (hisv) ?_)))
    rename_i r2 n2 n2' r3 n3 n3';have g3:=n3'.2;have g4:=zg.2.2;refine ZgO (e':=28) (sp:=0) (by simp only [ZL,ZnW,if_true,if_false, *]<;>rfl) (by simp only [ZL,ZnW,if_true,if_false, *]<;>rfl) (by simp only [ZL,ZnW,if_true,if_false, *]<;>rfl) (Zn4 _ _ _) ?_;exact Zoi (by repeat (first | exact Zn1 _ | refine Zn6 ?_ (by assumption))) _
  | false =>
    have hst:=ZkO hfu hrp.funs (e.sz + 1) e (by omega) hs hsd hv;rw [hv] at hisv;by_cases hx:(stepF p e).2=0
    ·have hR:stepR p e=((stepF p e).1,true,0):=by unfold stepR; rw [if_pos hr,if_neg (by simp [hv]),if_pos hx]
     rw [hR];rw [Zix hx,hx] at hst;generalize stepF p e=S at *
     obtain ⟨S1,S2⟩:=S;dsimp only at hx;subst hx;clear hR hr hv
     (repeat' (first | (simp only [↓ZI,ZJ,ZV,ptrV,boolV,ZnW,ZnY,Zn7,ZM,setAt,ZnZ,undef,YI,Yp,YJ,Yi,Zgf,Zba,ZhS, *]) | (refine ZK fun zr zh=>?_; have zg:=zh; (try simp only [Zn2] at zg)) | (refine Zn3 (hrt) ?_) | (refine Zn3 (hisv) ?_) | (refine Zn3 (hst) ?_)))
     rename_i r2 n2 n2' r3 n3 n3' r4 n4 n4';have g3:=n3'.2;have g4:=n4'.2.2;have g8:=zg.2.2.2;refine ZgO (e':=28) (sp:=0) (by simp only [ZL,ZnW,if_true,if_false, *]<;>rfl) (by simp only [ZL,ZnW,if_true,if_false, *]<;>rfl) (by simp only [ZL,ZnW,if_true,if_false, *]<;>rfl) (Zn4 _ _ _) ?_;exact Zoi (by repeat (first | exact Zn1 _ | refine Zn6 ?_ (by assumption))) _
    ·have hR:stepR p e=(zEx,false,(stepF p e).2):=by unfold stepR; rw [if_pos hr,if_neg (by simp [hv]),if_neg hx]
     rw [hR];generalize rstX p e=X at *
     generalize stepF p e=S at *
     obtain ⟨S1,S2⟩:=S;dsimp only at hx;clear hR hr hv
     (repeat' (first | (simp only [↓ZI,ZJ,ZV,ptrV,boolV,ZnW,ZnY,Zn7,ZM,ZX,fillV,setAt,ZnZ,undef,ZX,YI,Yp,YJ,Wt,Yi,Zgf,Zba,ZhS, *]) | (refine ZK fun zr zh=>?_; have zg:=zh; (try simp only [Zn2] at zg)) | (refine Zn3 (hrt) ?_) | (refine Zn3 (hisv) ?_) | (refine Zn3 (hst) ?_)))
     rename_i r2 n2 n2' r3 n3 n3' r4 n4 n4';have g3:=n3'.2;have g4:=n4'.2.2;have g8:=zg.2.2.2;refine ZgO (e':=28) (sp:=0) (by simp only [ZL,ZnW,if_true,if_false, *]<;>rfl) (by simp only [ZL,ZnW,if_true,if_false, *]<;>rfl) (by simp only [ZL,ZnW,if_true,if_false, *]<;>rfl) (Zn4 _ _ _) ?_;exact Jj (by repeat (first | exact Zn1 _ | refine Zn6 ?_ (by assumption)))
 ·have hR:stepR p e=(zEx,false,Wo p e):=by unfold stepR; rw [if_neg hr]
  rw [hR];clear hR
  (repeat' (first | (simp only [↓ZI,ZJ,ptrV,ZnW,ZnY,Zn7,ZM,ZX,fillV,setAt,ZnZ,undef,ZX,YI,Yp,YJ,Wt,Yi,Zgf, *]) | (refine ZK fun zr zh=>?_; have zg:=zh; (try simp only [Zn2] at zg)) | (refine Zn3 (hrt) ?_)))
  rename_i r2 n2 n2' r3 n3 n3';have g3:=n3'.2;have g4:=zg.2.2;refine ZgO (e':=28) (sp:=0) (by simp only [ZL,ZnW,if_true,if_false, *]<;>rfl) (by simp only [ZL,ZnW,if_true,if_false, *]<;>rfl) (by simp only [ZL,ZnW,if_true,if_false, *]<;>rfl) (Zn4 _ _ _) ?_;exact Jj (by repeat (first | exact Zn1 _ | refine Zn6 ?_ (by assumption)))
def rssQ (H0:AH) (R:Ex × Int × Int):APost:=YW Tryz.prog [.cell 6 28,.tmp 7,.tmp 8] fun e H'=>∃ y,e=VE.ret y∧GhV H' y H0 (ssV R)
theorem Zcf {H0 H:AH} {t:Nat→VV} {r sp:Nat} {k c:Int} {a b d:VV} {e':TypeId} {x:Ex} (h6:t 6=ptrV r 0) (h7:t 7=iV k) (h8:t 8=iV c) (k6:H r=some (.cells e' [a,b,d] sp)) (hg:GhV H (.agg [a,b,d]) H0 (exV x)):rssQ H0 (x,k,c) .ret ⟨t,[]⟩ H:=by
 refine Yk rfl (x:=.tuple [.agg [a,b,d],iV k,iV c]) (by simp only [resV,YO,YN,Yp,h6,h7,h8,k6,ptrV,ZoB,Xt,Zol,Zog,tupV]) ⟨_,rfl,?_⟩;have h1:GhL H [.agg [a,b,d],iV k,iV c] H0 [exV x,iV k,iV c]:=Zod hg (Zod (Zoq _ _) (Zod (Zoq _ _) (GhL.nil _)));exact GhV.tuple h1
theorem Zj5 {p:Pr} (hfu:FuOk p) (hpf:p.funs.length≤1099511627776) (hb:∀ f∈p.funs,BdOk p f) {e:Ex} {most:Nat} {r3 r4 r6:Nat} {t:Nat→VV} {H0 B:AH} {R:Ex × Int × Int} (hm:most≤2000) (he:ClQ p 20000 e) (hR:R=Wg p most 0 e)
 (h2:t 2=iV most) (h3:t 3=ptrV r3 0) (h4:t 4=ptrV r4 0) (h6:t 6=ptrV r6 0) (h10:t 10=iV 0) (hs:SubH H0 B) (g4:H0 r4=none) (g6:H0 r6=none) (d46:¬ r4=r6) (d34:¬ r3=r4) (d36:¬ r3=r6)
 (k3:B r3=some (.cells 25 [cosV p.cons,fusV p.funs] 0)) (k4:B r4=some (.cells 28 [iV e.op,sV e.name,encS exE e.kids] 0)) (k6:∃ a b c,B r6=some (.cells 28 [a,b,c] 0)) :
 ACx ⟨Tryz.prog,59,none⟩ (.loop b18_1) (YX 0 (rssQ H0 R)) ⟨t,[]⟩ B:=by
 refine ZW (fun _ _ _ h=>h) (fun A H'=>A.d=[]∧A.t 2=iV most∧A.t 3=ptrV r3 0∧A.t 4=ptrV r4 0∧A.t 6=ptrV r6 0∧SubH H0 H'∧H' r3=some (.cells 25 [cosV p.cons,fusV p.funs] 0)∧(∃ a b c,H' r6=some (.cells 28 [a,b,c] 0)) ∧
  ∃ (n:Nat) (e':Ex),n≤most∧A.t 10=iV n∧H' r4=some (.cells 28 [iV e'.op,sV e'.name,encS exE e'.kids] 0)∧ClQ p 20000 e'∧R=Wg p (most - n) n e')
  (fun A _=>match A.t 10 with | .lit (.int _ n)=>((most:Int) - n).toNat | _=>0) ?_ ?_
 ·exact ⟨rfl,h2,h3,h4,h6,hs,k3,k6,0,e,by omega,h10,k4,he,hR⟩
 ·clear h2 h3 h4 h6 h10 hs k3 k4 k6 he hR;rintro ⟨t,d⟩ H' ⟨rfl,h2,h3,h4,h6,hsb,k3,⟨z1,z2,z3,k6⟩,n,e',hn,h10,k4,he,hR⟩;dsimp only at h2 h3 h4 h6 h10;have d64:¬ r6=r4:=fun e=>d46 e.symm
  have d43:¬ r4=r3:=fun e=>d34 e.symm
  have d63:¬ r6=r3:=fun e=>d36 e.symm
  delta b18_1 Zb Zo Zr Za Zg Zc Zf Zn Zq Zh Zi Zm;have hez:=he.2.2;have hisv:=Zje hfu.nd hpf (e'.sz + 1) e' [] (by omega) (by omega) he.1;cases hv:e'.isV p with
  | true =>
    have hR':R=(e',(n:Int),0):=by
     rw [hR];cases most - n with
     | zero=>rw [Wg,if_pos hv]
     | succ m=>rw [Wg,if_pos hv]
    rw [hv] at hisv;rw [hR'];clear hR hR' hv
    (repeat' (first | (simp only [↓ZI,ZJ,ptrV,boolV,ZnW,ZnY,Zn7,setAt,ZnZ,YI,Yp,YJ,Zba, *]) | (refine Zn3 (hisv) ?_)))
    refine Zcf (e':=28) (sp:=0) (by simp only [ZL,ZnW,if_false, *]<;>rfl) (by simp only [ZL,ZnW,if_true,if_false, *]<;>rfl) (by simp only [ZL,ZnW,if_true,if_false, *]<;>rfl) (Zn4 _ _ _) ?_;exact Zoi (by repeat (first | exact hsb | refine Zn6 ?_ (by assumption))) _
  | false =>
    have hst:=ZkO hfu hpf (e'.sz + 1) e' (by omega) (by omega) he.1 hv;rw [hv] at hisv;by_cases hnm:n=most
    ·have hR':R=(zEx,0,8):=by
      rw [hR,show most - n=0 by omega,Wg,if_neg (by simp [hv])]
     rw [hR'];have hni:(n:Int)=(most:Int):=by omega
     clear hR hR' hv hst
     (repeat' (first | (simp only [↓ZI,ZJ,ptrV,boolV,ZnW,ZnY,Zn7,ZX,fillV,setAt,ZnZ,ZX,YI,Yp,YJ,Wt,Zba, *]) | (refine Zn3 (hisv) ?_)))
     refine Zcf (e':=28) (sp:=0) (by simp only [ZL,ZnW,if_false, *]<;>rfl) (by simp only [ZL,ZnW,if_true,if_false, *]<;>rfl) (by simp only [ZL,ZnW,if_true,if_false, *]<;>rfl) (Zn4 _ _ _) ?_;exact Jj (by repeat (first | exact hsb | refine Zn6 ?_ (by assumption)))
    ·have hni:¬ (n:Int)=(most:Int):=by omega
     obtain ⟨m,hm2⟩:∃ m,most - n=m + 1:=⟨most - n - 1,by omega⟩
     have hR1:R=if (stepF p e').2=0 then (if 20000 < (stepF p e').1.sz then (zEx,0,7) else Wg p m (n + 1) (stepF p e').1) else (zEx,0,(stepF p e').2):=by
      rw [hR,hm2,Wg,if_neg (by simp [hv])]
     clear hR;by_cases hx:(stepF p e').2=0
     ·have hcl:=Zb9 hb (M:=20000) (e'.sz + 1) e' (by omega) he hv hx;rw [if_pos hx] at hR1;rw [Zix hx,hx] at hst;generalize stepF p e'=S at *
      obtain ⟨S1,S2⟩:=S;dsimp only at hx hR1 hcl;subst hx;have hS1:S1.sz≤1099511627776:=by have:=hcl.2.2; omega
      have hsz:=Zjb S1 (by omega);by_cases hlg:20000 < S1.sz
      ·have hlg':(20000:Int) < (S1.sz:Int):=by omega
       rw [if_pos hlg] at hR1;rw [hR1];clear hR1 hv hcl
       (repeat' (first | (simp only [↓ZI,ZJ,ZV,ptrV,boolV,ZnW,ZnY,Zn7,ZX,fillV,setAt,ZnZ,ZX,YI,Yp,YJ,Wt,Yi,Zba,ZhS,ZhR, *]) | (refine ZK fun zr zh=>?_; have zg:=zh; (try simp only [Zn2] at zg); (try have zn_k3:=ZnX k3 zh); (try have zn_k3:=ZnX k3 zg.2); (try have zn_k3:=ZnX k3 zg.2.2); (try have zn_k4:=ZnX k4 zh); (try have zn_k4:=ZnX k4 zg.2); (try have zn_k4:=ZnX k4 zg.2.2); (try have zn_k6:=ZnX k6 zh); (try have zn_k6:=ZnX k6 zg.2); (try have zn_k6:=ZnX k6 zg.2.2)) | (refine Zn3 (hisv) ?_) | (refine Zn3 (hst) ?_) | (refine Zn3 (hsz) ?_)))
       have y11:=hsb.none zg;refine Zcf (e':=28) (sp:=0) (by simp only [ZL,ZnW,if_false, *]<;>rfl) (by simp only [ZL,ZnW,if_true,if_false, *]<;>rfl) (by simp only [ZL,ZnW,if_true,if_false, *]<;>rfl) (Zn4 _ _ _) ?_;exact Jj (by repeat (first | exact hsb | refine Zn6 ?_ (by assumption)))
      ·have hlg':¬ (20000:Int) < (S1.sz:Int):=by omega
       rw [if_neg hlg] at hR1;replace hR1:=Zn0 hR1;replace hcl:=Zn0 hcl;clear hv
       (repeat' (first | (simp only [↓ZI,ZJ,ZV,ptrV,boolV,ZnW,ZnY,Zn7,setAt,ZnZ,YI,Yp,YJ,Yi,Zba,ZhS,ZhR, *]) | (refine ZK fun zr zh=>?_; have zg:=zh; (try simp only [Zn2] at zg); (try have zn_k3:=ZnX k3 zh); (try have zn_k3:=ZnX k3 zg.2); (try have zn_k3:=ZnX k3 zg.2.2); (try have zn_k4:=ZnX k4 zh); (try have zn_k4:=ZnX k4 zg.2); (try have zn_k4:=ZnX k4 zg.2.2); (try have zn_k6:=ZnX k6 zh); (try have zn_k6:=ZnX k6 zg.2); (try have zn_k6:=ZnX k6 zg.2.2)) | (refine Zn6 ?_ ?_) | (exact SubH.none (by assumption) (by assumption)) | (refine Zn3 (hisv) ?_) | (refine Zn3 (hst) ?_) | (refine Zn3 (hsz) ?_) | (with_reducible refine And.intro ?_ ?_)))
       all_goals have y11:=hsb.none zg
       all_goals try rw [ZR (n:=(n:Int) + 1) (by omega) (by omega)]
       all_goals first
        | omega
        | exact (hsb.of_set y11).of_set g4
        | exact ⟨_,_,_,rfl⟩
        | (refine ⟨n + 1,S1,by omega,rfl,rfl,⟨hcl.out.1,hcl.out.2.1,by omega⟩,?_⟩
           rw [hR1.out,show most - (n + 1)=m by omega])
        | trace_state
     ·rw [if_neg hx] at hR1;generalize rstX p e'=X at *
      generalize stepF p e'=S at *
      obtain ⟨S1,S2⟩:=S;dsimp only at hx hR1;rw [hR1];clear hR1 hv
      (repeat' (first | (simp only [↓ZI,ZJ,ZV,ptrV,boolV,ZnW,ZnY,Zn7,ZX,fillV,setAt,ZnZ,ZX,YI,Yp,YJ,Wt,Yi,Zba,ZhS, *]) | (refine ZK fun zr zh=>?_; have zg:=zh; (try simp only [Zn2] at zg); (try have zn_k3:=ZnX k3 zh); (try have zn_k3:=ZnX k3 zg.2); (try have zn_k3:=ZnX k3 zg.2.2); (try have zn_k4:=ZnX k4 zh); (try have zn_k4:=ZnX k4 zg.2); (try have zn_k4:=ZnX k4 zg.2.2); (try have zn_k6:=ZnX k6 zh); (try have zn_k6:=ZnX k6 zg.2); (try have zn_k6:=ZnX k6 zg.2.2)) | (refine Zn3 (hisv) ?_) | (refine Zn3 (hst) ?_)))
      have y11:=hsb.none zg;refine Zcf (e':=28) (sp:=0) (by simp only [ZL,ZnW,if_false, *]<;>rfl) (by simp only [ZL,ZnW,if_true,if_false, *]<;>rfl) (by simp only [ZL,ZnW,if_true,if_false, *]<;>rfl) (Zn4 _ _ _) ?_;exact Jj (by repeat (first | exact hsb | refine Zn6 ?_ (by assumption)))
theorem Znw {p:Pr} (hp:InOk p) (hrp:RPrOk p) {e:Ex} (hs:e.sz≤1099511627776) (hn:e.nmOk) (most:Int):PureF Tryz.prog 18 [prV p,exV e,iV most] (ssV (WO p e most)):=by
 have hrt:=Ziv hrp hs;refine Xo.pure fun H0=>?_
 refine ZN fd18 (by simp) ?_;show vc _ _ (rssQ H0 (WO p e most)) _ _;delta c18 Zj Zi Zf Zb Zo Zr Zc Za Zm Zq Zg Zp;by_cases hr:Wo p e=0
 ·obtain ⟨hc,hz,_,hsd⟩:=JW hr;have hfu:=hp.fu hc;have hbd:=ZeW hc hp.ok;rw [hr] at hrt;by_cases hm:most < 0∨2000 < most
  ·have hR:WO p e most=(zEx,0,4):=by unfold WO; rw [if_pos hr,if_pos hm]
   rw [hR];clear hR hr hfu hbd;by_cases hm0:most < 0
   ·clear hm
    (repeat' (first | (simp only [↓ZI,ZJ,ptrV,ZnW,ZnY,Zn7,ZU,ZM,ZX,fillV,setAt,ZnZ,undef,ZX,YI,Yp,YJ,Wt,Yi,Zgf, *]) | (refine ZK fun zr zh=>?_; have zg:=zh; (try simp only [Zn2] at zg)) | (refine Zn3 (hrt) ?_)))
    rename_i r3 n3 n3' r4 n4 n4';have g4:=n4'.2;have g6:=zg.2.2;refine Zcf (e':=28) (sp:=0) (by simp only [ZL,ZnW,if_true,if_false, *]<;>rfl) (by simp only [ZL,ZnW,if_true,if_false, *]<;>rfl) (by simp only [ZL,ZnW,if_true,if_false, *]<;>rfl) (Zn4 _ _ _) ?_;exact Jj (by repeat (first | exact Zn1 _ | refine Zn6 ?_ (by assumption)))
   ·have hm2:2000 < most:=by omega
    clear hm
    (repeat' (first | (simp only [↓ZI,ZJ,ptrV,ZnW,ZnY,Zn7,ZM,ZX,fillV,setAt,ZnZ,undef,ZX,YI,Yp,YJ,Wt,Yi,Zgf, *]) | (refine ZK fun zr zh=>?_; have zg:=zh; (try simp only [Zn2] at zg)) | (refine Zn3 (hrt) ?_)))
    rename_i r3 n3 n3' r4 n4 n4';have g4:=n4'.2;have g6:=zg.2.2;refine Zcf (e':=28) (sp:=0) (by simp only [ZL,ZnW,if_true,if_false, *]<;>rfl) (by simp only [ZL,ZnW,if_true,if_false, *]<;>rfl) (by simp only [ZL,ZnW,if_true,if_false, *]<;>rfl) (Zn4 _ _ _) ?_;exact Jj (by repeat (first | exact Zn1 _ | refine Zn6 ?_ (by assumption)))
  ·have hm0:¬ most < 0:=fun h=>hm (.inl h)
   have hm2:¬ 2000 < most:=fun h=>hm (.inr h)
   obtain ⟨k,rfl⟩:∃ k:Nat,most=k:=⟨most.toNat,by omega⟩
   have hR:WO p e (k:Int)=Wg p k 0 e:=by unfold WO; rw [if_pos hr,if_neg hm,ZoJ]
   rw [hR];clear hR hr hm;obtain ⟨R,hR⟩:∃ R,R=Wg p k 0 e:=⟨_,rfl⟩
   rw [← hR];replace hR:=Zn0 hR;replace hfu:=Zn0 hfu;replace hbd:=Zn0 hbd
   (repeat' (first | (simp only [↓ZI,ZJ,ptrV,ZnW,ZnY,ZM,ZnZ,undef,YI,Yp,Yi,Zgf, *]) | (refine ZK fun zr zh=>?_; have zg:=zh; (try simp only [Zn2] at zg)) | (refine Zn3 (hrt) ?_)))
   rename_i r3 n3 n3' r4 n4 n4';have g4:=n4'.2;have g6:=zg.2.2;exact Zj5 hfu.out hrp.funs hbd.out (e:=e) (most:=k) (by omega) ⟨hsd,hn,by omega⟩ hR.out (by simp only [ZL,ZnW,if_false, *]<;>rfl) (by simp only [ZL,ZnW,if_true,if_false, *]<;>rfl) (by simp only [ZL,ZnW,if_true,if_false, *]<;>rfl) (by simp only [ZL,ZnW,if_true,if_false, *]<;>rfl) (by simp only [ZL,ZnW,if_true,if_false, *]<;>rfl) (by repeat (first | exact Zn1 _ | refine Zn6 ?_ (by assumption))) g4 g6 zg.1.2 n4'.1.2 zg.2.1.2 (by simp only [Zn8, *,if_true,if_false]<;>rfl) (by rw [Zoa _ _ zg.1.2]; exact Zn4 _ _ _) ⟨_,_,_,Zn4 _ _ _⟩
 ·have hR:WO p e most=(zEx,0,Wo p e):=by unfold WO; rw [if_neg hr]
  rw [hR];clear hR
  (repeat' (first | (simp only [↓ZI,ZJ,ptrV,ZnW,ZnY,Zn7,ZM,ZX,fillV,setAt,ZnZ,undef,ZX,YI,Yp,YJ,Wt,Yi,Zgf, *]) | (refine ZK fun zr zh=>?_; have zg:=zh; (try simp only [Zn2] at zg)) | (refine Zn3 (hrt) ?_)))
  rename_i r3 n3 n3' r4 n4 n4';have g4:=n4'.2;have g6:=zg.2.2;refine Zcf (e':=28) (sp:=0) (by simp only [ZL,ZnW,if_true,if_false, *]<;>rfl) (by simp only [ZL,ZnW,if_true,if_false, *]<;>rfl) (by simp only [ZL,ZnW,if_true,if_false, *]<;>rfl) (Zn4 _ _ _) ?_;exact Jj (by repeat (first | exact Zn1 _ | refine Zn6 ?_ (by assumption)))
end Go.PV.YtglpmlbbaedbiaaGreat
end
section
open Go.PV.AH renaming set_none→Zn2,set_ne→Zoa,set_same→Zn4,ne_of→ZnX,get→Zn8
open Go.PV.Hold renaming mk→Zn0
open Go.PV.PureF renaming forget→Zoj,use→Zn3
open Go.PV.SubH renaming new→Zn5,of_set→Zn6,refl→Zn1
open List renaming drop_eq_getElem_cons→Zoz,map_cons→Zou,getElem_mem→Zn9,drop→ZnZ,drop_eq_nil_of_le→Zop,take_of_length_le→Zos,drop_zero→ZoB
open Nat renaming reduceEqDiff→ZnW,reduceLT→ZnY,reduceAdd→Zn7,reduceMul→Zor,reduceLeDiff→Zof,le_refl→Zoc
set_option maxRecDepth 20000
set_option maxHeartbeats 4000000
namespace Go.PV.YtglpmlbbaedbiaaGreat
open Go Go.Proofs
def prSz (p:Pr):Nat:=p.cons.length + fusSz p.funs
theorem Zlq {l:List Fu} {i:Nat} (h:i < l.length):fusSz (l.drop i)=fuSz l[i] + fusSz (l.drop (i + 1)):=by
 unfold fusSz; rw [Zoz h,Zou,List.sum_cons]
theorem small_ok (p:Pr) (n:Int) (hs:prSz p≤1099511627776):PureF Tryz.prog 6 [prV p,iV n] (boolV (decide ((prSz p:Int)≤n))):=by
 have hl:p.funs.length≤fusSz p.funs:=ZaZ Zkq p.funs;have hc:∀ i (h:i < p.funs.length),fuSz p.funs[i]≤1099511627776:=fun i h=>by have:=WF (f:=fuSz) (Zn9 h); unfold prSz fusSz at hs; omega
 have hf:∀ i (h:i < p.funs.length),PureF Tryz.prog 20 [fuV p.funs[i]] (iV (fuSz p.funs[i])):=fun i h=>Znd _ (hc i h)
 have hp:prSz p=p.cons.length + fusSz p.funs:=rfl;have hlN:p.funs.length≤1099511627776:=by omega
 obtain ⟨N,hN⟩:∃ N,prSz p=N:=⟨_,rfl⟩
 rw [hN] at hs hp ⊢;have hcl:p.cons.length≤1099511627776:=by omega
 clear hN hl;refine Zoj fun H=>?_
 refine ZN fd6 (by simp) ?_;delta c6 Zj Zq Zd Zb Ze Zc;replace hp:=Zn0 hp
 (repeat' (first | (simp only [↓ZI,ZJ,ptrV,intV,boolV,ZnW,ZnY,reduceCtorEq,ZM,ZnZ,undef,Wr,Xj,Zav,Wz,Wd,Ja, *]) | (refine ZK fun zr zh=>?_; have zg:=zh; (try simp only [Zn2] at zg))))
 refine ZW (fun _ _ _ h=>h) (fun A H'=>SubH H H'∧A.d=[]∧A.t 1=iV n∧A.t 12=fusV p.funs∧A.t 13=iV p.funs.length∧∃ (i m:Nat),i≤p.funs.length∧A.t 14=iV i∧A.t 5=iV m∧m + fusSz (p.funs.drop i)=N)
  (fun A _=>match A.t 14 with | .lit (.int _ i)=>((p.funs.length:Int) - i).toNat | _=>0) ?_ ?_
 ·exact ⟨Zn5 zh,rfl,(by simp only [ZL,ZnW,if_false, *]<;>rfl),(by simp only [ZL,ZnW,if_true,if_false, *]<;>rfl),(by simp only [ZL,ZnW,if_true,if_false, *]<;>rfl),0,p.cons.length,by omega,(by simp only [ZL,ZnW,if_true,if_false, *]<;>rfl),(by simp only [ZL,ZnW,if_true,if_false, *]<;>rfl),hp.out.symm⟩
 ·clear hp;rintro ⟨t,d⟩ H' ⟨hs',rfl,h1,h12,h13,i,m,hi,h14,h5,hm⟩;dsimp only at h1 h12 h13 h14 h5;delta b6_1 Zn Zr Zk Zb Zi Zg Za Zo Zc Zq Zm;by_cases hlt:i < p.funs.length
  ·have hil:(i:Int) < (p.funs.length:Int):=by omega
   have hfi:=hf i hlt;have e1:=Zlq hlt;have e2:=WE hlt;have hw:IntKind.i64.wrap ((m:Int) + (fuSz p.funs[i]:Int))=(m:Int) + (fuSz p.funs[i]:Int):=ZR (by omega) (by omega);rw [e1] at hm;clear hf hc e1;by_cases hg:n < (m:Int) + (fuSz p.funs[i]:Int)
   ·have hd:decide ((N:Int)≤n)=false:=decide_eq_false (by omega);rw [hd];clear hd hm
    (repeat' (first | (simp only [↓ZI,ZJ,ptrV,ZnW,ZnY,Zn7,setAt,ZnZ,ZbC,Zf0,ZbD,Wd,en_20, *]) | (refine ZP ?_) | (refine ZK fun zr zh=>?_; have zg:=zh; (try simp only [Zn2] at zg)) | (refine Zn6 ?_ ?_) | (exact SubH.none (by assumption) (by assumption)) | (refine Zn3 (hfi) ?_)))
   ·replace hm:=Zn0 hm
    (repeat' (first | (simp only [↓ZI,ZJ,ptrV,ZnW,ZnY,Zn7,setAt,ZnZ,ZbC,Zf0,ZbD,Wd,en_20, *]) | (refine ZK fun zr zh=>?_; have zg:=zh; (try simp only [Zn2] at zg)) | (refine Zn6 ?_ ?_) | (exact SubH.none (by assumption) (by assumption)) | (refine Zn3 (hfi) ?_) | (with_reducible refine And.intro ?_ ?_)))
    all_goals rw [ZR (n:=(i:Int) + 1) (by omega) (by omega)]
    ·exact ⟨i + 1,m + fuSz p.funs[i],by omega,rfl,rfl,by have:=hm.out; omega⟩
    ·omega
  ·have hil:¬ (i:Int) < (p.funs.length:Int):=by omega
   rw [Zop (by omega)] at hm;have hm:m=N:=by simpa [fusSz] using hm
   subst hm
   (repeat' (first | (simp only [↓ZI,ZJ,ZnY, *]) | (refine Ya rfl (fun _ _ _ h=>h) ?_)))
   delta c6_1 Za Zn Zc
   (repeat' (first | (simp only [↓ZI,ZJ,ZnW,ZnY, *]) | (refine ZP ?_)))
theorem co_take {l:List Co} {i:Nat} (h:i < l.length):encC coE (l.take (i + 1))=encC coE (l.take i) ++ [sV l[i].name,iV l[i].arity]:=by
 rw [YL h,Yo]; rfl
theorem fu_take {l:List Fu} {i:Nat} (h:i < l.length):encC fuE (l.take (i + 1))=encC fuE (l.take i) ++ [sV l[i].name,iV l[i].arity,clsV l[i].cls]:=by
 rw [YL h,Yo]; rfl
abbrev nilV:VV:=.lit (.slice none 0 0)
theorem prog_ok (p:Pr) (hs:prSz p≤1099511627776):PureF Tryz.prog 9 [prV p] (prV p):=by
 have hl:p.funs.length≤fusSz p.funs:=ZaZ Zkq p.funs;have hc:∀ i (h:i < p.funs.length),fuSz p.funs[i]≤1099511627776:=fun i h=>by have:=WF (f:=fuSz) (Zn9 h); unfold prSz fusSz at hs; omega
 have hf:∀ i (h:i < p.funs.length),PureF Tryz.prog 29 [fuV p.funs[i]] (fuV p.funs[i]):=fun i h=>fun_ok _ (hc i h)
 have hp:prSz p=p.cons.length + fusSz p.funs:=rfl;have hfN:p.funs.length≤1099511627776:=by omega
 have hcN:p.cons.length≤1099511627776:=by omega
 clear hl hc hp hs;refine Xo.pure fun H0=>?_
 refine ZN fd9 (by simp) ?_;delta c9 Zj Zi Zd Zb Ze Zq
 (repeat' (first | (simp only [↓ZI,ZJ,ptrV,intV,ZnW,ZnY,reduceCtorEq,ZM,ZnZ,undef,Wr,Zav,zeroT_44,Ja, *]) | (refine ZK fun zr zh=>?_; have zg:=zh; (try simp only [Zn2] at zg))))
 rename_i r1 n1 n1' r2 n2 n2';obtain ⟨⟨d32,d23⟩,⟨d31,d13⟩,n3⟩:=zg;obtain ⟨⟨d21,d12⟩,n2''⟩:=n2';obtain ⟨B0,hB0⟩:∃ B0,B0=(H0.set r1 (.cells 25 [cosV p.cons,fusV p.funs] 0)).set r2 (.cells 44 [nilV,nilV] 0):=⟨_,rfl⟩
 have q1:B0 r1=some (.cells 25 [cosV p.cons,fusV p.funs] 0):=by rw [hB0,Zoa _ _ d12]; exact Zn4 _ _ _
 have hw0:SubH (H0.set r2 (.cells 44 [nilV,nilV] 0)) B0:=by rw [hB0]; exact (Zn5 n1).set _ _
 rw [← hB0] at zh;rw [← hB0];have hb0:InB B0 (B0.set zr (.cells 44 [nilV,nilV] 0)) zr 44 [] [nilV] 76 2 0 [] nilV _:=InB.start (Zn4 _ _ _) (Zn5 zh) zh;generalize zr=r3 at *
 refine ZW (fun _ _ _ h=>h) (fun A H=>A.d=[]∧A.t 1=ptrV r1 0∧A.t 2=ptrV r2 0∧A.t 3=ptrV r3 0∧A.t 9=cosV p.cons∧A.t 10=iV p.cons.length∧∃ (i:Nat) (v:VV) (Hb:AH),i≤p.cons.length∧A.t 11=iV i∧InB B0 H r3 44 [] [nilV] 76 2 i (encC coE (p.cons.take i)) v Hb)
  (fun A _=>match A.t 11 with | .lit (.int _ i)=>((p.cons.length:Int) - i).toNat | _=>0) ?_ ?_
 ·exact ⟨rfl,(by simp only [ZL,ZnW,if_true,if_false, *]<;>rfl),(by simp only [ZL,ZnW,if_true,if_false, *]<;>rfl),(by simp only [ZL,ZnW,if_true,if_false, *]<;>rfl),(by simp only [ZL,ZnW,if_true,if_false, *]<;>rfl),(by simp only [ZL,ZnW,if_true,if_false, *]<;>rfl),0,_,_,by omega,(by simp only [ZL,ZnW,if_true,if_false, *]<;>rfl),hb0⟩
 ·clear hb0 n2 hB0;rintro ⟨t,d⟩ H ⟨rfl,h1,h2,h3,h9,h10,i,v,Hb,hi,h11,hbl⟩;dsimp only at h1 h2 h3 h9 h10 h11;have q3:=hbl.at;delta b9_1 Zn Zr Zk Zb Zi Zg Zd Zq Zl Zm Za;by_cases hlt:i < p.cons.length
  ·have hil:(i:Int) < (p.cons.length:Int):=by omega
   have e2:=Jx hlt
   (repeat' (first | (simp only [↓ZI,ZJ,ptrV,ZnW,ZnY,Zn7,Zor,Zof,fillV,setAt,ZnZ,ZQ,ZQ,XG,ldT_102,Ws,szT_102,Zm2,Ja,Zaw,ZeK, *]) | (refine ZK fun zr zh=>?_; have zg:=zh; (try simp only [Zn2] at zg); (try have zn_q3:=ZnX q3 zh); (try have zn_q3:=ZnX q3 zg.2); (try have zn_q3:=ZnX q3 zg.2.2))))
   have hb2:=hbl.alloc zg (.cells 102 [sV p.cons[i].name,iV p.cons[i].arity] 0);refine Wl Zaw ZeK rfl (by omega) hb2.own rfl rfl (by omega) (by omega) (fun v' H'' ho=>?_);have hb3:=hb2.next ho;have q3':=ho.sub _ _ hb2.blk;have hc1:=ho.cells.1;have hc2:=ho.cells.2;clear hb2 hbl q3 ho
   (repeat' (first | (simp only [↓ZI,ZJ,ptrV,ZnW,ZnY,Zn7,Zof,setAt,XG,szT_41, *]) | (with_reducible refine And.intro ?_ ?_)))
   all_goals rw [ZR (n:=(i:Int) + 1) (by omega) (by omega)]
   ·rw [← co_take hlt] at hb3;exact ⟨i + 1,v',_,by omega,rfl,hb3⟩
   ·omega
  ·have hil:¬ (i:Int) < (p.cons.length:Int):=by omega
   (repeat' (first | (simp only [↓ZI,ZJ,ptrV,ZnY, *])))
   have hin:i=p.cons.length:=by omega
   subst hin;rw [Zos (Zoc _)] at hbl;have d13':=none_ne q1 hbl.new;refine XI (hbl.ghost _ _) ?_;clear hbl q3 h9 h10 h11;show ACx _ _ _ _ (B0.set r3 (.cells 44 [cosV p.cons,nilV] 0));have q1':(B0.set r3 (.cells 44 [cosV p.cons,nilV] 0)) r1=some (.cells 25 [cosV p.cons,fusV p.funs] 0):=by rw [Zoa _ _ (fun e=>d13' e.symm)]; exact q1
   delta c9_2 Zd Zb Ze Zq;refine Ya rfl (fun _ _ _ h=>h) ?_
   (repeat' (first | (simp only [↓ZI,ZJ,ptrV,intV,ZnW,ZnY,reduceCtorEq,ZnZ,Xj,Wz,Wd, *])))
   have hn3:(H0.set r2 (.cells 44 [nilV,nilV] 0)) r3=none:=by rw [Zn8,if_neg d32]; exact n3
   have hb0:InB (H0.set r2 (.cells 44 [nilV,nilV] 0)) (B0.set r3 (.cells 44 [cosV p.cons,nilV] 0)) r3 44 [cosV p.cons] [] 81 3 0 [] nilV _ :=
    InB.start (Zn4 _ _ _) (hw0.trans (Zn5 zh)) hn3
   refine ZW (fun _ _ _ h=>h) (fun A H=>A.d=[]∧A.t 2=ptrV r2 0∧A.t 3=ptrV r3 0∧A.t 23=fusV p.funs∧A.t 24=iV p.funs.length∧∃ (i:Nat) (v:VV) (Hb:AH),i≤p.funs.length∧A.t 25=iV i∧InB (H0.set r2 (.cells 44 [nilV,nilV] 0)) H r3 44 [cosV p.cons] [] 81 3 i (encC fuE (p.funs.take i)) v Hb)
    (fun A _=>match A.t 25 with | .lit (.int _ i)=>((p.funs.length:Int) - i).toNat | _=>0) ?_ ?_
   ·exact ⟨rfl,(by simp only [ZL,ZnW,if_false, *]<;>rfl),(by simp only [ZL,ZnW,if_false, *]<;>rfl),(by simp only [ZL,ZnW,if_true,if_false, *]<;>rfl),(by simp only [ZL,ZnW,if_true,if_false, *]<;>rfl),0,_,_,by omega,(by simp only [ZL,ZnW,if_true,if_false, *]<;>rfl),hb0⟩
   ·clear hb0 h1 h2 h3 q1' q1 hw0 hn3 hi;rintro ⟨t,d⟩ H ⟨rfl,h2,h3,h23,h24,i,v,Hb,hi,h25,hbl⟩;dsimp only at h2 h3 h23 h24 h25;have q3:=hbl.at;have q2:=hbl.cell2;delta b9_2 Zn Zr Zk Zb Zi Zg Zd Zo Zq Zl Zm Za;by_cases hlt:i < p.funs.length
    ·have hil:(i:Int) < (p.funs.length:Int):=by omega
     have e2:=WE hlt;have hfi:=hf i hlt
     (repeat' (first | (simp only [↓ZI,ZJ,ptrV,ZnW,ZnY,Zn7,Zor,Zof,fillV,setAt,ZnZ,ZQ,ZQ,WU,ZbC,ZbF,Zf0,ZbD,Wd,ZaK,ZcJ,en_29, *]) | (refine ZS mixed (fun _ _ _ _ e h=>⟨e.trans h.1,h.2⟩) _ (Zn1 _) ?_) | (refine ZK fun zr zh=>?_; have zg:=zh; (try simp only [Zn2] at zg); (try have zn_q3:=ZnX q3 zh); (try have zn_q3:=ZnX q3 zg.2); (try have zn_q3:=ZnX q3 zg.2.2)) | (exact Zn1 _) | (refine Zn3 (hfi) ?_) | (with_reducible refine And.intro ?_ ?_)))
     have hb2:=hbl.alloc zg (.cells 67 [sV p.funs[i].name,iV p.funs[i].arity,clsV p.funs[i].cls] 0);refine Wl ZaK ZcJ rfl (by omega) hb2.own rfl rfl (by omega) (by omega) (fun v' H'' ho=>?_);have hb3:=hb2.next ho;have q3':=ho.sub _ _ hb2.blk;have hc1:=ho.cells.1;have hc2:=ho.cells.2;clear hb2 hbl q3 q2 ho
     (repeat' (first | (simp only [↓ZI,ZJ,ptrV,ZnW,ZnY,Zn7,setAt,WU,szT_42, *]) | (with_reducible refine And.intro ?_ ?_)))
     all_goals rw [ZR (n:=(i:Int) + 1) (by omega) (by omega)]
     ·rw [← fu_take hlt] at hb3;exact ⟨i + 1,v',_,by omega,rfl,hb3⟩
     ·omega
    ·have hil:¬ (i:Int) < (p.funs.length:Int):=by omega
     have hin:i=p.funs.length:=by omega
     subst hin;rw [Zos (Zoc _)] at hbl;have hc1:=hbl.own.cells.1;have hc2:=hbl.own.cells.2
     (repeat' (first | (simp only [↓ZI,ZJ,ptrV,ZnY, *])))
     delta c9_1 Zb Zg
     (repeat' (first | (simp only [↓ZI,ZJ,ptrV,ZnW,ZnY,Zn7,setAt,ZnZ,Zbc,szT_44, *]) | (refine Ya rfl (fun _ _ _ h=>h) ?_)))
     refine Za9 Zbc (by simp only [ZL,ZnW,if_false, *]<;>rfl) (Zn4 _ _ _) (by rw [ZoB]; exact ZjD _ _ _) ?_;exact ⟨_,rfl,GhV.agg (hbl.ret n2'' _)⟩
end Go.PV.YtglpmlbbaedbiaaGreat
end
section
open List renaming map_cons→Zou,length_cons→Zox
open Nat renaming le_refl→Zoc
set_option maxRecDepth 20000
namespace Go.PV.YtglpmlbbaedbiaaGreat
open Go Go.Proofs Go.ChangeShapes Go.WideShapes Go.RowKit
def coWt (c:Co):Nat:=c.name.size + 3
def prWt (p:Pr):Nat:=(p.cons.map coWt).sum + (p.funs.map fuWt).sum + 3
theorem rdCo (n:Nat):RdN n Tryz.prog 102 coE (fun _=>True) coWt:=by
 cases n with
 | zero=>exact JM
 | succ n =>
   refine Zdt (fun p:ByteArray × Int × Unit=>(⟨p.1,p.2.1⟩:Co)) (JU (tot:=2) Tryz.underlying102 (by kernel_rfl) (Xb (k:=1) rfl (by kernel_rfl) (Zb7 Tryz.underlying9) (Xb (k:=1) rfl (by kernel_rfl) (Zgw Tryz.underlying3) (ZaP 2)))) ?_ (fun _ _=>trivial) ?_
   ·intro p; rfl
   ·intro p; show p.1.size + 3≤_; omega
theorem rdPr (n:Nat):RdN n Tryz.prog 25 (fun p:Pr=>[cosV p.cons,fusV p.funs]) (fun _=>True) prWt:=by
 cases n with
 | zero=>exact JM
 | succ n =>
   have hs:RdN n Tryz.prog 22 (fun l:List Co=>[encS coE l]) (fun l=>∀ a∈l,True) (fun l=>(l.map coWt).sum + 1):=JV (k:=2) Tryz.underlying22 (by kernel_rfl) (by omega) (fun i hi=>rdCo i) (fun _=>rfl);have hf:RdN n Tryz.prog 23 (fun l:List Fu=>[encS fuE l]) (fun l=>∀ a∈l,True) (fun l=>(l.map fuWt).sum + 1):=JV (k:=3) Tryz.underlying23 (by kernel_rfl) (by omega) (fun i hi=>rdFu i) (fun _=>rfl);refine Zdt (fun p:List Co × List Fu × Unit=>(⟨p.1,p.2.1⟩:Pr)) (JU (tot:=2) Tryz.underlying25 (by kernel_rfl) (Xb (k:=1) rfl (by kernel_rfl) hs (Xb (k:=1) rfl (by kernel_rfl) hf (ZaP 2)))) ?_ (fun _ _=>trivial) ?_
   ·intro p; rfl
   ·intro p; show (p.1.map coWt).sum + (p.2.1.map fuWt).sum + 3≤_; omega
theorem ZeZ {α:Type} {f:α→Nat} (h:∀ x,0 < f x):∀ l:List α,l.length≤(l.map f).sum
 | []=>Zoc _
 | x :: l=>by have:=ZeZ h l; have:=h x; simp only [Zou,List.sum_cons,Zox]; omega
theorem Ex.nmOk_wt:∀ e:Ex,e.wt≤1099511627776→e.nmOk:=by
 refine Ex.ind (p:=fun e=>e.wt≤1099511627776→e.nmOk) (fun e ih h=>?_);have hw:e.wt=4 + e.name.size + exsWt e.kids:=by cases e; rw [Ex.wt]; rfl
 refine Ex.nmOk_iff.2 ⟨by omega,fun k hk=>ih k hk ?_⟩;have h1:=WF (f:=Ex.wt) hk;rw [Zhb] at hw;omega
theorem Pa.wt_eq (e:Pa):e.wt=4 + e.name.size + pasWt e.kids:=by cases e; rw [Pa.wt]; rfl
theorem Pa.nmOk_wt:∀ e:Pa,e.wt≤1099511627776→e.nmOk:=by
 refine Pa.ind (p:=fun e=>e.wt≤1099511627776→e.nmOk) (fun e ih h=>?_);have hw:=e.wt_eq;refine Pa.nmOk_iff.2 ⟨by omega,fun k hk=>ih k hk ?_⟩;have h1:=WF (f:=Pa.wt) hk;rw [ZcM] at hw;omega
mutual
theorem Pa.all_wt:∀ (p:Pa) (a:Int),∀ x∈p.all a,x.1.wt≤p.wt
 | .mk c n ks,a,x,h=>by
   rw [Pa.all] at h;rcases List.mem_cons.1 h with rfl | h
   ·exact Zoc _
   ·have:=Ziy ks _ x h
    rw [Pa.wt]; omega
theorem Ziy:∀ (l:List Pa) (a:Int),∀ x∈Xp l a,x.1.wt≤pasWt l
 | [],a,x,h=>by simp [Xp] at h
 | p :: l,a,x,h=>by
   rw [Xp] at h;rw [pasWt];rcases List.mem_append.1 h with h | h
   ·have:=Pa.all_wt p a x h; omega
   ·have:=Ziy l a x h; omega
end
theorem Ziz {l:List Pa} {q:Pa} (h:q∈l):q.wt≤pasWt l:=by rw [ZcM]; exact WF h
theorem cl_ok {c:Cl} (h:clWt c≤1048576):ClOk c∧RClOk c∧∀ s∈ZT c.pats,s.size≤1048576:=by
 have h4:clWt c=pasWt c.pats + c.body.wt + 2:=rfl;have h1:=ZeT c.pats;have h2:=c.body.sz_wt;refine ⟨⟨by omega,fun q hq x hx=>?_,by omega,c.body.nmOk_wt (by omega)⟩,⟨by omega,fun q hq=>q.nmOk_wt ?_,by omega,c.body.nmOk_wt (by omega)⟩,fun s hs=>?_⟩
 ·have:=Ziz hq
  have:=Pa.all_wt q 0 x hx
  have:=x.1.wt_eq
  omega
 ·have:=Ziz hq; omega
 ·have:=ZcB c.pats s hs; omega
theorem clWt_pos (c:Cl):0 < clWt c:=by unfold clWt; omega
theorem coWt_pos (c:Co):0 < coWt c:=by unfold coWt; omega
theorem fuWt_pos (f:Fu):0 < fuWt f:=by unfold fuWt; omega
theorem pr_ok {p:Pr} (h:prWt p≤1048576):InOk p∧RPrOk p∧prSz p≤1048576∧p.cons.length≤1048576∧p.funs.length≤1048576:=by
 have h0:prWt p=(p.cons.map coWt).sum + (p.funs.map fuWt).sum + 3:=rfl;have c1:=ZeZ coWt_pos p.cons;have f1:=ZeZ fuWt_pos p.funs;have hc:∀ c∈p.cons,c.name.size≤1048576:=fun c hc=>by have:=WF (f:=coWt) hc; have h:coWt c=c.name.size + 3:=rfl; omega
 have hf:∀ f∈p.funs,fuWt f≤1048576:=fun f hf=>by have:=WF (f:=fuWt) hf; omega
 have hfn:∀ f∈p.funs,f.name.size≤1048576:=fun f hf'=>by have:=hf f hf'; have h:fuWt f=f.name.size + (f.cls.map clWt).sum + 4:=rfl; omega
 have hcl:∀ f∈p.funs,∀ c∈f.cls,clWt c≤1048576:=fun f hf' c hc'=>by have:=hf f hf'; have h:fuWt f=f.name.size + (f.cls.map clWt).sum + 4:=rfl; have:=WF (f:=clWt) hc'; omega
 have hcn:∀ f∈p.funs,f.cls.length≤1048576:=fun f hf'=>by have:=hf f hf'; have h:fuWt f=f.name.size + (f.cls.map clWt).sum + 4:=rfl; have:=ZeZ clWt_pos f.cls; omega
 have h5:(1048576:Nat)≤maxLen:=by decide
 refine ⟨⟨⟨by omega,by omega,fun c h=>by have:=hc c h; omega,fun f h=>by have:=hfn f h; omega,fun f h=>⟨by have:=hcn f h; omega,fun c h'=>(cl_ok (hcl f h c h')).1⟩⟩,fun f h=>by have:=ZmF f; have:=hf f h; omega,fun f h c h' s hs=>by have:=(cl_ok (hcl f h c h')).2.2 s hs; omega⟩,
  ⟨by omega,by omega,fun c h=>by have:=hc c h; omega,fun f h=>by have:=hfn f h; omega,fun f h=>⟨by have:=hcn f h; omega,fun c h'=>(cl_ok (hcl f h c h')).2.1⟩⟩,?_,by omega,by omega⟩
 have:fusSz p.funs≤(p.funs.map fuWt).sum:=Zl1 ZmF p.funs
 unfold prSz; omega
end Go.PV.YtglpmlbbaedbiaaGreat
end
section
open Bool renaming false_eq_true→ZoS
open Go.PV.AH renaming get→Zn8,set_none→Zn2
open Go.PV.PureF renaming forget→Zoj
open Go.PV.SubH renaming refl→Zn1,of_set→Zn6
open Int renaming toNat_natCast→ZoJ
open List renaming map_cons→Zou,map_nil→ZoE,length_cons→Zox,all_cons→ZoT,drop→ZnZ,set_cons_zero→Zo1,set_cons_succ→Zo0,drop_eq_nil_of_le→Zop,getElem_mem→Zn9,getD_cons_zero→ZoP,getD_cons_succ→ZoQ,getD_nil→ZoR
open Nat renaming reduceEqDiff→ZnW,reduceLT→ZnY,reduceAdd→Zn7,succ_ne_self→ZoD,zero_add→Zot,le_refl→Zoc,add_zero→ZoL
set_option maxRecDepth 20000
set_option maxHeartbeats 4000000
namespace Go.PV.YtglpmlbbaedbiaaGreat
open Go Go.Proofs
theorem equalEr {l m:List Ex} {f:VV} {p:Ex→Ex→Bool} {H:AH} {K:VE→AH→Prop} (hl:l.length≤1099511627776)
 (hf:∀ (i:Nat) (h:i < l.length) (h':i < m.length) H',SubH H H'→FnAt Tryz.prog f [exV l[i],exV m[i]] (boolV (p l[i] m[i])) H') (hK:K (.ret (boolV (eqL p l m))) H):Yh Tryz.prog 36 [exsV l,exsV m,f] H K:=by
 refine ReadF.use (x:=boolV (eqL p l m)) ?_ hK;clear hK;refine ZN fd36 (by simp) ?_;delta c36 Zq Za Ze Zn Zr
 (repeat' (first | (simp only [↓ZI,ZJ,intV,boolV,ZnW,ZnY,reduceCtorEq,ZM,undef,Yn,Yf, *]) | (refine Ym ?_ ?_<;>intro) | (refine ZP ?_) | (exact Zn1 _) | (with_reducible refine And.intro ?_ ?_)))
 ·rename_i h;rw [eqL_ne (by simp at h; omega)]
 ·rename_i h;have hlm:l.length=m.length:=by simp at h; omega
  refine ZW (fun _ _ _ h=>h) (fun A H'=>SubH H H'∧A.d=[]∧A.t 1=exsV m∧A.t 2=f∧A.t 15=exsV l∧A.t 16=iV l.length∧∃ (i:Nat),i≤l.length∧A.t 17=iV i∧eqL p l m=eqL p (l.drop i) (m.drop i))
   (fun A _=>match A.t 17 with | .lit (.int _ i)=>((l.length:Int) - i).toNat | _=>0) ?_ ?_
  ·exact ⟨Zn1 _,rfl,rfl,rfl,rfl,rfl,0,by omega,rfl,rfl⟩
  ·clear h;rintro ⟨t,d⟩ H' ⟨hs',rfl,h1,h2,h15,h16,i,hi,h17,he⟩;dsimp only at h1 h2 h15 h16 h17;rw [he];clear he;delta b36_1 Zn Zr Za Zk Zb Zi Zc Zg Zq Zm
   (repeat' (first | (refine (hf _ _ _ _ ?_) _ ?_) | (simp only [↓JH,↓WV,↓WW,↓Wu,↓XA,↓Zjx,↓Zck,↓WX,↓Xe,↓Xf,↓Zgk,↓Zak,↓Zcl,↓ZnR,↓Zgl,↓XK,↓XL,↓Zax,↓XM,↓Zay,↓XN,↓We,↓ZL,↓WA,↓Xk,↓Wf,↓JO,↓JB,↓s_un,↓Jg,↓Wa,↓WD,↓Zan,↓Jw,↓Zbr,ptrV,boolV,Zou,ZoE,Zox,List.length_nil,ite_true,ite_false,ZnW,ZnY,Zn7,true_and,ZoD,decide_true,decide_false,Int.natCast_nonneg,ZoJ,Zn8,AH.set_set,setAt,ZoT,List.all_nil,Bool.and_self,eq_self,Zot,ZnZ,and_self,Xt,Int.ofNat_lt,ZbN,Zcm,WB,Zaq,Zo1,Zo0,↓Jh,Wv,Zoc,ZdU,JC,ZfV,Zcn,JD,ZdV,Jo,ZdW,ZdX,XB,Int.ofNat_lt,Yt,Yp,YD,YJ,Ys,Yi,Yn,Yf, *]) | (refine ZY ?_ ?_<;>intro) | (refine Ym ?_ ?_<;>intro) | (refine ZP ?_) | (refine Ya rfl (fun _ _ _ h=>h) ?_) | (refine ZK fun zr zh=>?_; have zg:=zh; (try simp only [Zn2] at zg)) | (refine Zn6 ?_ ?_) | (exact SubH.none (by assumption) (by assumption)) | (exact SubH.none (by assumption) zg.2) | (with_reducible refine And.intro ?_ ?_)))
   ·rename_i h2;have h1:i < m.length:=by assumption
    rw [Zkt (by omega) h1,show p l[i] m[i]=false from by simpa using h2];rfl
   ·rename_i h2;have h1:i < m.length:=by assumption
    rw [ZR (n:=(i:Int) + 1) (by omega) (by omega)];exact ⟨i + 1,by omega,rfl,by rw [Zkt (by omega) h1,show p l[i] m[i]=true from by simpa using h2,Bool.true_and]⟩
   ·rw [ZR (n:=(i:Int) + 1) (by omega) (by omega)];omega
   ·rw [Zop (by omega),Zop (by omega)];delta c36_1 Zq
    (repeat' (first | (simp only [↓ZI,ZJ,ZnW,ZnY, *]) | (refine ZP ?_)))
    rfl
theorem ZmX (a:Ex):∀ b,a.sz≤1099511627776→b.sz≤1099511627776→PureF Tryz.prog 14 [exV a,exV b] (boolV (a.beq b)):=by
 refine Ex.ind (p:=fun a=>∀ b,a.sz≤1099511627776→b.sz≤1099511627776→PureF Tryz.prog 14 [exV a,exV b] (boolV (a.beq b))) (fun a ih b ha hb=>?_) a;have l1:=YC a.kids;have l2:=YC b.kids;have z1:=a.sz_eq;have z2:=b.sz_eq;have ih':∀ (i:Nat) (h:i < a.kids.length) (h':i < b.kids.length),PureF Tryz.prog 14 [exV a.kids[i],exV b.kids[i]] (boolV (a.kids[i].beq b.kids[i])):=fun i h h'=>ih _ (Zn9 h) _ (by have:=Yl (Zn9 h); omega) (by have:=Yl (Zn9 h'); omega)
 have n1:a.kids.length≤1099511627776:=by omega
 have n2:b.kids.length≤1099511627776:=by omega
 clear ih z1 z2 l1 l2 ha hb;rw [a.beq_eq];refine Zoj fun H=>?_
 refine ZN fd14 (by simp) ?_;delta c14 Zj Zq Zd Zb Zn Za Zp Zr Zc
 (repeat' (first | (refine equalEr n1 (p:=Ex.beq) (fun i h h' H' _=>FnAt.lit en_14 (ih' i h h')) ?_) | (simp only [↓WV,↓WW,↓Zck,↓WX,↓Xe,↓Zdk,↓ZcX,↓ZcY,↓Xf,↓XK,↓XL,↓XM,↓XN,↓We,↓JR,↓ZL,↓WA,↓Xk,↓ZbK,↓Zdm,↓Zf2,↓Wf,↓JB,↓Zbp,↓YQ,↓WD,↓XY,↓XE,↓Xd,ptrV,boolV,Zou,ZoE,ZoP,ZoQ,ZoR,ite_true,ite_false,ZnW,ZnY,ne_eq,not_false_eq_true,true_and,ZoS,ZoD,decide_true,decide_false,Bool.true_and,Bool.false_and,ZU,ZM,Zn8,eq_self,Zot,ZoL,ZnZ,Zaf,WB,↓Zbq,JC,ZaW,JD,Jo,ZaX,undef,Yg,ZZ,Yw,Yq,Yj,Yb,Yc,Ye,Yz,Yv,en_36, *]) | (refine WP ?_ ?_<;>intro) | (refine ZP ?_) | (refine ZK fun zr zh=>?_; have zg:=zh; (try simp only [Zn2] at zg)) | (exact Zn1 _) | (refine Zn6 ?_ ?_)))
end Go.PV.YtglpmlbbaedbiaaGreat
end
section
open Go.PV.AH renaming set_none→Zn2,ne_of→ZnX,get→Zn8
open Go.PV.PureF renaming forget→Zoj,use→Zn3
open Go.PV.SubH renaming refl→Zn1,of_set→Zn6,new→Zn5
open List renaming drop→ZnZ
open Nat renaming reduceEqDiff→ZnW,reduceLT→ZnY,reduceAdd→Zn7
set_option maxRecDepth 20000
set_option maxHeartbeats 8000000
namespace Go.PV.YtglpmlbbaedbiaaGreat
open Go Go.Proofs
theorem eql_bool {ox oy:Operand} {a b:Bool} {H:AH} {K:VE→AH→Prop}:vcBin Tryz.prog .eql 4 ox oy (.lit (.bool a)) (.lit (.bool b)) H K=K (.ret (boolV (a == b))) H:=by
 have hu:(Tryz.prog).underlying 4=some .bool:=Tryz.underlying4;unfold vcBin;simp only [YR];exact propext ⟨fun h=>h.2.2 _ rfl,fun h=>⟨hu,.inr (.inr hu),fun c hb=>by rw [show c=(a == b) from hb]; exact h⟩⟩
theorem eql_bb {ox oy:Operand} {b:Bool} {H:AH} {K:VE→AH→Prop}:vcBin Tryz.prog .eql 4 ox oy (.lit (.bool b)) (.lit (.bool b)) H K=K (.ret (boolV true)) H:=by
 cases b<;>exact eql_bool
theorem ZeF:zEx.sz=1:=by decide
theorem stepR_sz {p:Pr} (hp:InOk p) {e:Ex} (hn:e.nmOk) (hs:e.sz≤1048576):(stepR p e).1.sz≤1099511627776:=by
 unfold stepR;by_cases hr:Wo p e=0
 ·rw [if_pos hr];obtain ⟨hc,hz,_,hsd⟩:=JW hr;by_cases hv:e.isV p=true
  ·rw [if_pos hv]; show e.sz≤_; omega
  ·rw [if_neg hv];by_cases hx:(stepF p e).2=0
   ·rw [if_pos hx];have hcl:=Zb9 (ZeW hc hp.ok) (M:=5000) (e.sz + 1) e (by omega) ⟨hsd,hn,hz⟩ (by simpa using hv) hx
    have:=hcl.2.2
    show (stepF p e).1.sz≤_;omega
   ·rw [if_neg hx]; show zEx.sz≤_; rw [ZeF]; omega
 ·rw [if_neg hr]; show zEx.sz≤_; rw [ZeF]; omega
theorem ZiA {p:Pr}:∀ (m n:Nat) (e:Ex),e.sz≤20000→(Wg p m n e).1.sz≤20000
 | 0,n,e,h=>by
   rw [Wg];split
   ·exact h
   ·show zEx.sz≤_; rw [ZeF]; omega
 | m + 1,n,e,h=>by
   rw [Wg];split
   ·exact h
   ·split
    ·split
     ·show zEx.sz≤_; rw [ZeF]; omega
     ·exact ZiA m (n + 1) _ (by omega)
    ·show zEx.sz≤_; rw [ZeF]; omega
theorem Znx {p:Pr} {e:Ex} {most:Int}:(WO p e most).1.sz≤20000:=by
 unfold WO;by_cases hr:Wo p e=0
 ·rw [if_pos hr];obtain ⟨hc,hz,_,hsd⟩:=JW hr;split
  ·show zEx.sz≤_; rw [ZeF]; omega
  ·exact ZiA _ _ _ (by omega)
 ·rw [if_neg hr]; show zEx.sz≤_; rw [ZeF]; omega
def StA (H0:AH) (p:Pr) (e:Ex) (most:Int) (x1:Ex) (b1:Bool) (c1:Int) (r3 r4 r9:Nat) (A:AF) (H:AH):Prop:=SubH H0 H∧A.d=[]∧A.t 2=iV most∧A.t 3=ptrV r3 0∧A.t 4=ptrV r4 0∧A.t 9=ptrV r9 0∧A.t 10=boolV b1∧A.t 11=iV c1 ∧
 H r3=some (.cells 25 [cosV p.cons,fusV p.funs] 0)∧H r4=some (.cells 28 [iV e.op,sV e.name,encS exE e.kids] 0)∧H r9=some (.cells 35 [iV x1.op,sV x1.name,encS exE x1.kids] 0)
def StB (H0:AH) (p:Pr) (e:Ex) (most:Int) (x1:Ex) (b1:Bool) (c1:Int) (x2:Ex) (k2 c2:Int) (A:AF) (H:AH):Prop:=∃ r3 r4 r9 r12 r15,StA H0 p e most x1 b1 c1 r3 r4 r9 A H∧A.t 12=ptrV r12 0∧A.t 13=boolV b1∧A.t 14=iV c1∧A.t 15=ptrV r15 0∧A.t 16=iV k2∧A.t 17=iV c2 ∧
 H r12=some (.cells 28 [iV x1.op,sV x1.name,encS exE x1.kids] 0)∧H r15=some (.cells 35 [iV x2.op,sV x2.name,encS exE x2.kids] 0)
theorem Zny (p:Pr) (e:Ex) (most:Int) (hw:prWt p≤1048576) (hwe:e.wt≤1048576) (haw:PureF Tryz.prog 7 [] (boolV true)):PureF Tryz.prog 4 [prV p,exV e,iV most] (boolV true):=by
 obtain ⟨hin,hrp,hps,_,_⟩:=pr_ok hw;have hes:=e.sz_wt;have hen:=e.nmOk_wt (by omega);have hnd:=Zkr e (by omega);have hsm:=small_ok p 200 (by omega);refine Zoj fun H=>?_
 by_cases h1:(prSz p:Int)≤200
 ·rw [decide_eq_true h1] at hsm;by_cases h2:150 < (e.sz:Int)
  ·refine ZN fd4 (by simp) ?_;delta c4 Zj Zq Zb Zo Zr Za Zh Zc Zp Zi Zv Zg Zt Zw Zu Zs
   (repeat' (first | (simp only [↓ZI,ZJ,ZV,ptrV,boolV,ZnW,ZnY,ZU,ZM,ZnZ,undef,Yp,YI,en_5,en_6,en_7, *]) | (refine ZP ?_) | (refine ZK fun zr zh=>?_; have zg:=zh; (try simp only [Zn2] at zg)) | (exact Zn1 _) | (refine Zn6 ?_ ?_) | (refine Zn3 (hnd) ?_) | (refine Zn3 (hsm) ?_) | (refine Zn3 (haw) ?_)))
  ·by_cases h5:50 < most∧most≤2000
   ·obtain ⟨h3,h4⟩:=h5;refine ZN fd4 (by simp) ?_;delta c4 Zj Zq Zb Zo Zr Za Zh Zc Zp Zi Zv Zg Zt Zw Zu Zs
    (repeat' (first | (simp only [↓ZI,ZJ,ZV,ptrV,boolV,ZnW,ZnY,ZM,ZnZ,undef,Yp,YI,en_5,en_6,en_7, *]) | (refine ZP ?_) | (refine ZK fun zr zh=>?_; have zg:=zh; (try simp only [Zn2] at zg)) | (exact Zn1 _) | (refine Zn6 ?_ ?_) | (refine Zn3 (hnd) ?_) | (refine Zn3 (hsm) ?_) | (refine Zn3 (haw) ?_)))
   ·have hpr:=prog_ok p (by omega);have hcp:=Zks e (by omega);have hst:=Step_ok hin (e:=e) (by omega) hen;have hrst:=rStep_ok hin hrp (e:=e) (by omega);have hss:=Steps_ok hin (e:=e) (by omega) hen most;have hrss:=Znw hin hrp (e:=e) (by omega) hen most;have z1:=stepR_sz hin hen (by omega);have z2:=Znx (p:=p) (e:=e) (most:=most);generalize stepR p e=R1 at *
    generalize WO p e most=R2 at *
    obtain ⟨x1,b1,c1⟩:=R1;obtain ⟨x2,k2,c2⟩:=R2;dsimp only at z1 z2;have s1:=ZmX x1 x1 z1 z1;have s2:=ZmX x2 x2 (by omega) (by omega);rw [(Ex.beq_iff _ _).2 rfl] at s1 s2;clear hin hrp hps hen hw hwe hes z1 z2;refine Zbh fd4 (by simp) ?_;delta c4 Zj Zq Zb Zo Zr Za Zh Zc Zp Zi Zv Zg Zt Zw Zu Zs;refine ZcL (l:=[_,_,_,_]) (K:=fun A H2=>∃ r3 r4 r9,StA H p e most x1 b1 c1 r3 r4 r9 A H2) (fun _ _ _ h=>h) ?_ _ _ ?_
    ·clear h5 hnd hsm h1 h2;rintro ⟨t,d⟩ B ⟨r3,r4,r9,hsb,rfl,h2,h3,h4,h9,h10,h11,k3,k4,k9⟩;dsimp only at h2 h3 h4 h9 h10 h11;refine ZcL (l:=[_,_]) (K:=StB H p e most x1 b1 c1 x2 k2 c2) (fun _ _ _ h=>h) ?_ _ _ ?_
     ·clear h2 h3 h4 h9 h10 h11 k3 k4 k9 hsb;rintro ⟨t,d⟩ B ⟨r3,r4,r9,r12,r15,⟨hsb,rfl,h2,h3,h4,h9,h10,h11,k3,k4,k9⟩,h12,h13,h14,h15,h16,h17,k12,k15⟩;dsimp only at h2 h3 h4 h9 h10 h11 h12 h13 h14 h15 h16 h17;clear hpr hcp hst hrst hss;refine Ya rfl (fun _ _ _ h=>h) ?_
      (repeat' (first | (simp only [↓ZI,ZJ,ZV,ptrV,boolV,ZnW,ZnY,Zn7,setAt,ZnZ,eql_bb,Yp,YI,Yt,YJ,Yi,en_7,en_18,en_14, *]) | (refine ZP ?_) | (refine ZK fun zr zh=>?_; have zg:=zh; (try simp only [Zn2] at zg); (try have zn_k9:=ZnX k9 zh); (try have zn_k9:=ZnX k9 zg.2); (try have zn_k9:=ZnX k9 zg.2.2); (try have zn_k12:=ZnX k12 zh); (try have zn_k12:=ZnX k12 zg.2); (try have zn_k12:=ZnX k12 zg.2.2); (try have zn_k15:=ZnX k15 zh); (try have zn_k15:=ZnX k15 zg.2); (try have zn_k15:=ZnX k15 zg.2.2)) | (refine Zn6 ?_ ?_) | (exact SubH.none (by assumption) (by assumption)) | (refine Zn3 (hrss) ?_) | (refine Zn3 (s1) ?_) | (refine Zn3 (s2) ?_) | (refine Zn3 (haw) ?_)))
      all_goals first
       | exact hsb
       | exact hsb.none zg
     ·simp only [vcs]
      (repeat' (first | (simp only [↓ZI,ZJ,ZV,ptrV,boolV,ZnW,ZnY,Zn7,setAt,ZnZ,Yp,YI,YD,YJ,Yi,Ys,en_9,ZkV,en_16,en_17, *]) | (refine ZS mixed (fun _ _ _ _ e h=>⟨e.trans h.1,h.2⟩) _ (Zn1 _) ?_) | (refine And.intro (Zn5 (by assumption)) ?_) | (refine ZK fun zr zh=>?_; have zg:=zh; (try simp only [Zn2] at zg); (try have zn_k3:=ZnX k3 zh); (try have zn_k3:=ZnX k3 zg.2); (try have zn_k3:=ZnX k3 zg.2.2); (try have zn_k4:=ZnX k4 zh); (try have zn_k4:=ZnX k4 zg.2); (try have zn_k4:=ZnX k4 zg.2.2); (try have zn_k9:=ZnX k9 zh); (try have zn_k9:=ZnX k9 zg.2); (try have zn_k9:=ZnX k9 zg.2.2)) | (exact Zn1 _) | (refine Zn3 (hpr) ?_) | (refine Zn3 (hcp) ?_) | (refine Zn3 (hrst) ?_) | (refine Zn3 (hss) ?_) | (with_reducible refine And.intro ?_ ?_)))
      all_goals rename_i r12 m12 m12' w3 w4 w9
      all_goals have y12:=hsb.none m12'
      all_goals have y15:=hsb.none zg.2
      all_goals exact ⟨r3,r4,r9,r12,zr,⟨(hsb.of_set y12).of_set y15,rfl,(by simp only [ZL,ZnW,if_false, *]<;>rfl),(by simp only [ZL,ZnW,if_false, *]<;>rfl),(by simp only [ZL,ZnW,if_false, *]<;>rfl),(by simp only [ZL,ZnW,if_false, *]<;>rfl),(by simp only [ZL,ZnW,if_false, *]<;>rfl),(by simp only [ZL,ZnW,if_false, *]<;>rfl),(by simp only [Zn8, *,if_false]<;>rfl),(by simp only [Zn8, *,if_false]<;>rfl),(by simp only [Zn8, *,if_false]<;>rfl)⟩,(by simp only [ZL,ZnW,if_true,if_false, *]<;>rfl),(by simp only [ZL,ZnW,if_true,if_false, *]<;>rfl),(by simp only [ZL,ZnW,if_true,if_false, *]<;>rfl),(by simp only [ZL,ZnW,if_true,if_false, *]<;>rfl),(by simp only [ZL,ZnW,if_true,if_false, *]<;>rfl),(by simp only [ZL,ZnW,if_true,if_false, *]<;>rfl),(by simp only [Zn8, *,if_true,if_false]<;>rfl),(by simp only [Zn8, *,if_true,if_false]<;>rfl)⟩
    ·simp only [vcs];by_cases h3:50 < most
     ·have h4:¬ most≤2000:=fun h=>h5 ⟨h3,h⟩
      clear h5
      (repeat' (first | (simp only [↓ZI,ZJ,ZV,ptrV,boolV,ZnW,ZnY,Zn7,ZM,setAt,ZnZ,undef,Yp,YI,YD,Ys,en_5,en_6,en_9,ZkV,en_15, *]) | (refine ZS mixed (fun _ _ _ _ e h=>⟨e.trans h.1,h.2⟩) _ (Zn1 _) ?_) | (refine And.intro (Zn5 (by assumption)) ?_) | (refine ZK fun zr zh=>?_; have zg:=zh; (try simp only [Zn2] at zg)) | (exact Zn1 _) | (refine Zn3 (hnd) ?_) | (refine Zn3 (hsm) ?_) | (refine Zn3 (hpr) ?_) | (refine Zn3 (hcp) ?_) | (refine Zn3 (hst) ?_) | (with_reducible refine And.intro ?_ ?_)))
      all_goals rename_i r3 n3 n3' r4 n4 n4'
      all_goals exact ⟨r3,r4,zr,((Zn5 n3').of_set n4'.2).of_set zg.2.2,rfl,(by simp only [ZL,ZnW,if_false, *]<;>rfl),(by simp only [ZL,ZnW,if_true,if_false, *]<;>rfl),(by simp only [ZL,ZnW,if_true,if_false, *]<;>rfl),(by simp only [ZL,ZnW,if_true,if_false, *]<;>rfl),(by simp only [ZL,ZnW,if_true,if_false, *]<;>rfl),(by simp only [ZL,ZnW,if_true,if_false, *]<;>rfl),(by simp only [Zn8, *,if_true,if_false]<;>rfl),(by simp only [Zn8, *,if_true,if_false]<;>rfl),(by simp only [Zn8, *,if_true,if_false]<;>rfl)⟩
     ·clear h5
      (repeat' (first | (simp only [↓ZI,ZJ,ZV,ptrV,boolV,ZnW,ZnY,Zn7,ZU,ZM,setAt,ZnZ,undef,Yp,YI,YD,Ys,en_5,en_6,en_9,ZkV,en_15, *]) | (refine ZS mixed (fun _ _ _ _ e h=>⟨e.trans h.1,h.2⟩) _ (Zn1 _) ?_) | (refine And.intro (Zn5 (by assumption)) ?_) | (refine ZK fun zr zh=>?_; have zg:=zh; (try simp only [Zn2] at zg)) | (exact Zn1 _) | (refine Zn3 (hnd) ?_) | (refine Zn3 (hsm) ?_) | (refine Zn3 (hpr) ?_) | (refine Zn3 (hcp) ?_) | (refine Zn3 (hst) ?_) | (with_reducible refine And.intro ?_ ?_)))
      all_goals rename_i r3 n3 n3' r4 n4 n4'
      all_goals exact ⟨r3,r4,zr,((Zn5 n3').of_set n4'.2).of_set zg.2.2,rfl,(by simp only [ZL,ZnW,if_false, *]<;>rfl),(by simp only [ZL,ZnW,if_true,if_false, *]<;>rfl),(by simp only [ZL,ZnW,if_true,if_false, *]<;>rfl),(by simp only [ZL,ZnW,if_true,if_false, *]<;>rfl),(by simp only [ZL,ZnW,if_true,if_false, *]<;>rfl),(by simp only [ZL,ZnW,if_true,if_false, *]<;>rfl),(by simp only [Zn8, *,if_true,if_false]<;>rfl),(by simp only [Zn8, *,if_true,if_false]<;>rfl),(by simp only [Zn8, *,if_true,if_false]<;>rfl)⟩
 ·rw [decide_eq_false h1] at hsm;refine ZN fd4 (by simp) ?_;delta c4 Zj Zq Zb Zo Zr Za Zh Zc Zp Zi Zv Zg Zt Zw Zu Zs
  (repeat' (first | (simp only [↓ZI,ZJ,ZV,ptrV,boolV,ZnW,ZnY,ZU,ZM,ZnZ,undef,Yp,YI,en_5,en_6,en_7, *]) | (refine ZP ?_) | (refine ZK fun zr zh=>?_; have zg:=zh; (try simp only [Zn2] at zg)) | (exact Zn1 _) | (refine Zn6 ?_ ?_) | (refine Zn3 (hnd) ?_) | (refine Zn3 (hsm) ?_) | (refine Zn3 (haw) ?_)))
end Go.PV.YtglpmlbbaedbiaaGreat
end
section
open Nat renaming beq→Zob
namespace Go.PV
inductive EV where
 | lit (v:Value)
 | ptr (k o:Nat)
 | sl (k o n:Nat) (c:Option Nat) (d:Nat)
 | es (k o d lo s:Nat)
 | map (k:Nat)
 | isl (ex:Bool) (n:Nat) (cs:List EV)
 | iptr (cs:List EV)
 | agg (cs:List EV)
 | tuple (cs:List EV)
 | func (f:FuncId) (first cap:List EV)
 | yield (k:Nat)
 | iface (t:TypeId) (x:EV)
instance:Inhabited EV:=⟨.lit undef⟩
structure Pay where
 r:Nat
 c:Nat:=0
 fn:FuncId:=0
 ca:Code:=.skip
 cb:Code:=.skip
 t:Nat→VV:=fun _=>ZM
abbrev Sg:=Nat→Option Pay
def Ext (σ σ':Sg):Prop:=∀ k p,σ k=some p→σ' k=some p
theorem Ext.refl (σ:Sg):Ext σ σ:=fun _ _ h=>h
theorem Ext.trans {σ σ' σ'':Sg} (h:Ext σ σ') (k:Ext σ' σ''):Ext σ σ'':=fun i p hp=>k i p (h i p hp)
mutual
def RV (σ:Sg):EV→VV→Prop
 | .lit v,x=>x=.lit v
 | .ptr k o,x=>∃ p,σ k=some p∧x=ptrV p.r o
 | .sl k o n c d,x=>∃ p,σ k=some p∧n≤c.getD p.c - d∧x=.lit (.slice (some ⟨p.r,o,none⟩) n (c.getD p.c - d))
 | .es k o d lo s,x=>∃ p,σ k=some p∧x=.lit (.slice (some ⟨p.r,if p.c - d=lo then o else o + lo * s,none⟩) 0 (p.c - d - lo))
 | .map k,x=>∃ p,σ k=some p∧x=.lit (.map (some p.r))
 | .isl ex n cs,x=>∃ ys,x=.slice ex n ys∧RVL σ cs ys
 | .iptr cs,x=>∃ ys,x=.iptr ys∧RVL σ cs ys
 | .agg cs,x=>∃ ys,x=.agg ys∧RVL σ cs ys
 | .tuple cs,x=>∃ ys,x=.tuple ys∧RVL σ cs ys
 | .func f a b,x=>∃ asg bs,x=.func (.func f) asg bs∧RVL σ a asg∧RVL σ b bs
 | .yield k,x=>∃ p,σ k=some p∧x=.lit (.func (.yield p.r) #[] #[])
 | .iface t v,x=>∃ y,x=.iface t y∧RV σ v y
def RVL (σ:Sg):List EV→List VV→Prop
 | [],ys=>ys=[]
 | v :: vs,ys=>∃ y ys',ys=y :: ys'∧RV σ v y∧RVL σ vs ys'
end
section
variable {σ σ':Sg}
mutual
theorem RV.mono (h:Ext σ σ'):∀ (v:EV) (x:VV),RV σ v x→RV σ' v x
 | .lit v,x,hx=>hx
 | .ptr k o,x,⟨p,hp,e⟩=>⟨p,h k p hp,e⟩
 | .sl k o n c d,x,⟨p,hp,e⟩=>⟨p,h k p hp,e⟩
 | .es k o d lo s,x,⟨p,hp,e⟩=>⟨p,h k p hp,e⟩
 | .map k,x,⟨p,hp,e⟩=>⟨p,h k p hp,e⟩
 | .isl ex n cs,x,⟨ys,e,hl⟩=>⟨ys,e,RVL.mono h cs ys hl⟩
 | .iptr cs,x,⟨ys,e,hl⟩=>⟨ys,e,RVL.mono h cs ys hl⟩
 | .agg cs,x,⟨ys,e,hl⟩=>⟨ys,e,RVL.mono h cs ys hl⟩
 | .tuple cs,x,⟨ys,e,hl⟩=>⟨ys,e,RVL.mono h cs ys hl⟩
 | .func f a b,x,⟨asg,bs,e,h1,h2⟩=>⟨asg,bs,e,RVL.mono h a asg h1,RVL.mono h b bs h2⟩
 | .yield k,x,⟨p,hp,e⟩=>⟨p,h k p hp,e⟩
 | .iface t v,x,⟨y,e,hv⟩=>⟨y,e,RV.mono h v y hv⟩
theorem RVL.mono (h:Ext σ σ'):∀ (vs:List EV) (xs:List VV),RVL σ vs xs→RVL σ' vs xs
 | [],xs,hx=>hx
 | v :: vs,xs,⟨y,ys,e,h1,h2⟩=>⟨y,ys,e,RV.mono h v y h1,RVL.mono h vs ys h2⟩
end
mutual
theorem RV.fn (h:Ext σ σ'):∀ (v:EV) (x y:VV),RV σ v x→RV σ' v y→x=y
 | .lit v,x,y,hx,hy=>hx.trans hy.symm
 | .ptr k o,x,y,⟨p,hp,e⟩,⟨q,hq,e'⟩=>by rw [h k p hp] at hq; cases hq; rw [e,e']
 | .sl k o n c d,x,y,⟨p,hp,_,e⟩,⟨q,hq,_,e'⟩=>by rw [h k p hp] at hq; cases hq; rw [e,e']
 | .es k o d lo s,x,y,⟨p,hp,e⟩,⟨q,hq,e'⟩=>by rw [h k p hp] at hq; cases hq; rw [e,e']
 | .map k,x,y,⟨p,hp,e⟩,⟨q,hq,e'⟩=>by rw [h k p hp] at hq; cases hq; rw [e,e']
 | .isl ex n cs,x,y,⟨xs,e,hl⟩,⟨ys,e',hl'⟩=>by rw [e,e',RVL.fn h cs xs ys hl hl']
 | .iptr cs,x,y,⟨xs,e,hl⟩,⟨ys,e',hl'⟩=>by rw [e,e',RVL.fn h cs xs ys hl hl']
 | .agg cs,x,y,⟨xs,e,hl⟩,⟨ys,e',hl'⟩=>by rw [e,e',RVL.fn h cs xs ys hl hl']
 | .tuple cs,x,y,⟨xs,e,hl⟩,⟨ys,e',hl'⟩=>by rw [e,e',RVL.fn h cs xs ys hl hl']
 | .func f a b,x,y,⟨asg,bs,e,h1,h2⟩,⟨as',bs',e',h1',h2'⟩=>by rw [e,e',RVL.fn h a asg as' h1 h1',RVL.fn h b bs bs' h2 h2']
 | .yield k,x,y,⟨p,hp,e⟩,⟨q,hq,e'⟩=>by rw [h k p hp] at hq; cases hq; rw [e,e']
 | .iface t v,x,y,⟨a,e,hv⟩,⟨b,e',hv'⟩=>by rw [e,e',RV.fn h v a b hv hv']
theorem RVL.fn (h:Ext σ σ'):∀ (vs:List EV) (xs ys:List VV),RVL σ vs xs→RVL σ' vs ys→xs=ys
 | [],xs,ys,hx,hy=>Eq.trans (show xs=[] from hx) (show ys=[] from hy).symm
 | v :: vs,xs,ys,⟨y,ys',e,h1,h2⟩,⟨z,zs',e',h1',h2'⟩=>by rw [e,e',RV.fn h v y z h1 h1',RVL.fn h vs ys' zs' h2 h2']
end
theorem RVL.length {vs:List EV}:∀ {xs:List VV},RVL σ vs xs→xs.length=vs.length:=by
 induction vs with
 | nil=>intro xs h; simp [RVL] at h; simp [h]
 | cons v vs ih =>
   intro xs h;obtain ⟨y,ys,rfl,_,h2⟩:=h;simp [ih h2]
theorem RVL.get? {vs:List EV}:∀ {xs:List VV} (i:Nat) (v:EV),RVL σ vs xs→vs[i]?=some v→∃ x,xs[i]?=some x∧RV σ v x:=by
 induction vs with
 | nil=>intro xs i v h hv; simp at hv
 | cons u us ih =>
   intro xs i v h hv;obtain ⟨y,ys,rfl,h1,h2⟩:=h;cases i with
   | zero=>simp at hv; subst hv; exact ⟨y,by simp,h1⟩
   | succ i=>simpa using ih i v h2 (by simpa using hv)
theorem RVL.append {vs us:List EV}:∀ {xs ys:List VV},RVL σ vs xs→RVL σ us ys→RVL σ (vs ++ us) (xs ++ ys):=by
 induction vs with
 | nil=>intro xs ys h1 h2; simp [RVL] at h1; subst h1; simpa using h2
 | cons v vs ih =>
   intro xs ys h1 h2;obtain ⟨y,ys',rfl,h3,h4⟩:=h1;exact ⟨y,ys' ++ ys,rfl,h3,ih h4 h2⟩
theorem RVL.take {vs:List EV}:∀ {xs:List VV} (n:Nat),RVL σ vs xs→RVL σ (vs.take n) (xs.take n):=by
 induction vs with
 | nil=>intro xs n h; simp [RVL] at h; subst h; simp [RVL]
 | cons v vs ih =>
   intro xs n h;obtain ⟨y,ys,rfl,h3,h4⟩:=h;cases n with
   | zero=>simp [RVL]
   | succ n=>exact ⟨y,ys.take n,by simp,h3,ih n h4⟩
theorem RVL.drop {vs:List EV}:∀ {xs:List VV} (n:Nat),RVL σ vs xs→RVL σ (vs.drop n) (xs.drop n):=by
 induction vs with
 | nil=>intro xs n h; simp [RVL] at h; subst h; simp [RVL]
 | cons v vs ih =>
   intro xs n h;obtain ⟨y,ys,rfl,h3,h4⟩:=h;cases n with
   | zero=>exact ⟨y,ys,rfl,h3,h4⟩
   | succ n=>simpa using ih n h4
theorem RVL.set {vs:List EV}:∀ {xs:List VV} (n:Nat) (v:EV) (x:VV),RVL σ vs xs→RV σ v x→RVL σ (vs.set n v) (xs.set n x):=by
 induction vs with
 | nil=>intro xs n v x h _; simp [RVL] at h; subst h; simp [RVL]
 | cons u us ih =>
   intro xs n v x h hx;obtain ⟨y,ys,rfl,h3,h4⟩:=h;cases n with
   | zero=>exact ⟨x,ys,rfl,hx,h4⟩
   | succ n=>exact ⟨y,ys.set n x,by simp,h3,ih n v x h4 hx⟩
theorem RVL.setAt {us:List EV}:∀ {ys:List VV} {vs:List EV} {xs:List VV} (o:Nat),RVL σ vs xs→RVL σ us ys→RVL σ (PV.setAt vs o us) (PV.setAt xs o ys):=by
 induction us with
 | nil=>intro ys vs xs o h1 h2; simp [RVL] at h2; subst h2; exact h1
 | cons u us ih =>
   intro ys vs xs o h1 h2;obtain ⟨y,ys',rfl,h3,h4⟩:=h2;exact ih (o + 1) (h1.set o u y h3) h4
theorem RVL.lits (us:List Value):RVL σ (us.map .lit) (us.map .lit):=by
 induction us with
 | nil=>simp [RVL]
 | cons u us ih=>exact ⟨.lit u,us.map .lit,rfl,by simp [RV],ih⟩
end
def EV.cells:EV→List EV
 | .lit v=>v.cells.toList.map .lit
 | .agg cs=>cs
 | x=>[x]
def EV.one:EV→Bool
 | .lit v=>v.oneCell'
 | .agg _=>false
 | .tuple _=>false
 | _=>true
section
variable {σ:Sg}
theorem RV.cells {v:EV} {x:VV} (h:RV σ v x):RVL σ v.cells x.cells:=by
 cases v with
 | lit v=>obtain rfl:=h; exact RVL.lits _
 | ptr k o=>obtain ⟨p,hp,rfl⟩:=h; exact ⟨_,[],rfl,⟨p,hp,rfl⟩,rfl⟩
 | sl k o n c d=>obtain ⟨p,hp,hn,rfl⟩:=h; exact ⟨_,[],rfl,⟨p,hp,hn,rfl⟩,rfl⟩
 | es k o d lo s=>obtain ⟨p,hp,rfl⟩:=h; exact ⟨_,[],rfl,⟨p,hp,rfl⟩,rfl⟩
 | map k=>obtain ⟨p,hp,rfl⟩:=h; exact ⟨_,[],rfl,⟨p,hp,rfl⟩,rfl⟩
 | yield k=>obtain ⟨p,hp,rfl⟩:=h; exact ⟨_,[],rfl,⟨p,hp,rfl⟩,rfl⟩
 | isl ex n cs=>obtain ⟨ys,rfl,hl⟩:=h; exact ⟨_,[],rfl,⟨ys,rfl,hl⟩,rfl⟩
 | iptr cs=>obtain ⟨ys,rfl,hl⟩:=h; exact ⟨_,[],rfl,⟨ys,rfl,hl⟩,rfl⟩
 | agg cs=>obtain ⟨ys,rfl,hl⟩:=h; exact hl
 | tuple cs=>obtain ⟨ys,rfl,hl⟩:=h; exact ⟨_,[],rfl,⟨ys,rfl,hl⟩,rfl⟩
 | func f a b=>obtain ⟨asg,bs,rfl,h1,h2⟩:=h; exact ⟨_,[],rfl,⟨asg,bs,rfl,h1,h2⟩,rfl⟩
 | iface t v=>obtain ⟨y,rfl,hv⟩:=h; exact ⟨_,[],rfl,⟨y,rfl,hv⟩,rfl⟩
theorem RV.one {v:EV} {x:VV} (h:RV σ v x):v.one=x.one:=by
 cases v with
 | lit v=>obtain rfl:=h; rfl
 | ptr k o=>obtain ⟨p,hp,rfl⟩:=h; rfl
 | sl k o n c d=>obtain ⟨p,hp,_,rfl⟩:=h; rfl
 | es k o d lo s=>obtain ⟨p,hp,rfl⟩:=h; rfl
 | map k=>obtain ⟨p,hp,rfl⟩:=h; rfl
 | yield k=>obtain ⟨p,hp,rfl⟩:=h; rfl
 | isl ex n cs=>obtain ⟨ys,rfl,hl⟩:=h; rfl
 | iptr cs=>obtain ⟨ys,rfl,hl⟩:=h; rfl
 | agg cs=>obtain ⟨ys,rfl,hl⟩:=h; rfl
 | tuple cs=>obtain ⟨ys,rfl,hl⟩:=h; rfl
 | func f a b=>obtain ⟨asg,bs,rfl,h1,h2⟩:=h; rfl
 | iface t v=>obtain ⟨y,rfl,hv⟩:=h; rfl
theorem RVL.ones {vs:List EV}:∀ {xs:List VV},RVL σ vs xs→vs.all EV.one=xs.all VV.one:=by
 induction vs with
 | nil=>intro xs h; simp [RVL] at h; simp [h]
 | cons v vs ih =>
   intro xs h;obtain ⟨y,ys,rfl,h1,h2⟩:=h;simp [h1.one,ih h2]
end
inductive Tr (α:Type) where
 | lf
 | nd (v:Option α) (l r:Tr α)
def Tr.get {α:Type}:Tr α→Nat→Option α
 | .lf,_=>none
 | .nd v l r,k=>match k with
   | 0=>v
   | k + 1=>cond (Zob (k % 2) 0) (l.get (k / 2)) (r.get (k / 2))
def Tr.set {α:Type}:Nat→Tr α→Nat→α→Option (Tr α)
 | 0,_,_,_=>none
 | n + 1,t,k,x=>match k with
   | 0=>match t with
     | .lf=>some (.nd (some x) .lf .lf)
     | .nd _ l r=>some (.nd (some x) l r)
   | k + 1=>match t with
     | .lf=>cond (Zob (k % 2) 0) (match Tr.set n .lf (k / 2) x with | some l=>some (.nd none l .lf) | none=>none) (match Tr.set n .lf (k / 2) x with | some r=>some (.nd none .lf r) | none=>none)
     | .nd v l r=>cond (Zob (k % 2) 0) (match Tr.set n l (k / 2) x with | some l'=>some (.nd v l' r) | none=>none) (match Tr.set n r (k / 2) x with | some r'=>some (.nd v l r') | none=>none)
theorem beqF {n:Nat} (h:¬ n=0):Zob n 0=false:=by
 cases n with
 | zero=>exact absurd rfl h
 | succ n=>rfl
theorem Tr.get_set {α:Type}:∀ (n:Nat) (t:Tr α) (k:Nat) (x:α) (t':Tr α),Tr.set n t k x=some t'→∀ j,t'.get j=if j=k then some x else t.get j
 | 0,t,k,x,t',h=>by simp [Tr.set] at h
 | n + 1,t,k,x,t',h=>by
   intro j;cases k with
   | zero =>
     cases t with
     | lf =>
       simp only [Tr.set,Option.some.injEq] at h;subst h;cases j with
       | zero=>simp [Tr.get]
       | succ j=>simp [Tr.get]
     | nd v l r =>
       simp only [Tr.set,Option.some.injEq] at h;subst h;cases j with
       | zero=>simp [Tr.get]
       | succ j=>simp [Tr.get]
   | succ k =>
     have hk:∀ j,(j % 2=k % 2)→(j / 2=k / 2)→j=k:=fun j h1 h2=>by omega
     cases t with
     | lf =>
       simp only [Tr.set] at h;by_cases hp:k % 2=0
       ·simp only [hp,Nat.beq_refl,cond_true] at h;cases hs:Tr.set n .lf (k / 2) x with
        | none=>simp [hs] at h
        | some l =>
          simp only [hs,Option.some.injEq] at h;subst h;have ih:=Tr.get_set n _ _ _ _ hs;cases j with
          | zero=>simp [Tr.get]
          | succ j =>
            simp only [Tr.get,Nat.add_right_cancel_iff];by_cases hj:j % 2=0
            ·simp only [hj,Nat.beq_refl,cond_true,ih];by_cases e:j=k
             ·simp [e]
             ·have:j / 2 ≠ k / 2:=fun e'=>e (hk j (by omega) e')
              simp [e,this,Tr.get]
            ·have hb:Zob (j % 2) 0=false:=beqF hj
             have:j ≠ k:=fun e=>hj (by rw [e,hp])
             simp [hb,this,Tr.get]
       ·have hb:Zob (k % 2) 0=false:=beqF hp;simp only [hb,cond_false] at h;cases hs:Tr.set n .lf (k / 2) x with
        | none=>simp [hs] at h
        | some l =>
          simp only [hs,Option.some.injEq] at h;subst h;have ih:=Tr.get_set n _ _ _ _ hs;cases j with
          | zero=>simp [Tr.get]
          | succ j =>
            simp only [Tr.get,Nat.add_right_cancel_iff];by_cases hj:j % 2=0
            ·have:j ≠ k:=fun e=>hp (by rw [← e,hj])
             simp [hj,this,Tr.get]
            ·have hbj:Zob (j % 2) 0=false:=beqF hj;simp only [hbj,cond_false,ih];by_cases e:j=k
             ·simp [e]
             ·have:j / 2 ≠ k / 2:=fun e'=>e (hk j (by omega) e')
              simp [e,this,Tr.get]
     | nd v l r =>
       simp only [Tr.set] at h;by_cases hp:k % 2=0
       ·simp only [hp,Nat.beq_refl,cond_true] at h;cases hs:Tr.set n l (k / 2) x with
        | none=>simp [hs] at h
        | some l' =>
          simp only [hs,Option.some.injEq] at h;subst h;have ih:=Tr.get_set n _ _ _ _ hs;cases j with
          | zero=>simp [Tr.get]
          | succ j =>
            simp only [Tr.get,Nat.add_right_cancel_iff];by_cases hj:j % 2=0
            ·simp only [hj,Nat.beq_refl,cond_true,ih];by_cases e:j=k
             ·simp [e]
             ·have:j / 2 ≠ k / 2:=fun e'=>e (hk j (by omega) e')
              simp [e,this]
            ·have hb:Zob (j % 2) 0=false:=beqF hj
             have:j ≠ k:=fun e=>hj (by rw [e,hp])
             simp [hb,this]
       ·have hb:Zob (k % 2) 0=false:=beqF hp;simp only [hb,cond_false] at h;cases hs:Tr.set n r (k / 2) x with
        | none=>simp [hs] at h
        | some l' =>
          simp only [hs,Option.some.injEq] at h;subst h;have ih:=Tr.get_set n _ _ _ _ hs;cases j with
          | zero=>simp [Tr.get]
          | succ j =>
            simp only [Tr.get,Nat.add_right_cancel_iff];by_cases hj:j % 2=0
            ·have:j ≠ k:=fun e=>hp (by rw [← e,hj])
             simp [hj,this]
            ·have hbj:Zob (j % 2) 0=false:=beqF hj;simp only [hbj,cond_false,ih];by_cases e:j=k
             ·simp [e]
             ·have:j / 2 ≠ k / 2:=fun e'=>e (hk j (by omega) e')
              simp [e,this]
end Go.PV
end
