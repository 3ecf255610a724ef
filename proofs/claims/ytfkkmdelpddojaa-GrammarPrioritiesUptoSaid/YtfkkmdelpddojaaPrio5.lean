/- Part 5 of 10 of what the proof of Prio needs. -/
import Derived.Test.YtfkkmdelpddojaaPrio4
import Derived.Laws.Strings
set_option linter.unusedVariables false
set_option linter.unusedSimpArgs false
set_option linter.defProp false
section
open Bool renaming not_false→ZmG,and_self→Zmp,false_eq_true→Zmv,false_and→Zm6,not_true→ZmK
open Int renaming reduceNeg→Zm3
open List renaming map_cons→Zmd,map_nil→Zmg,getD_cons_zero→Zmq,getD_cons_succ→Zmr,getD_nil→Zms,drop→Zmb,getElem_mem→ZmE
open Nat renaming reduceEqDiff→Zl9,reduceLT→Zma,lt_or_ge→ZmI,succ_ne_self→Zme,zero_add→Zmh,add_zero→Zmo
set_option maxRecDepth 20000
set_option maxHeartbeats 4000000
namespace Go.PV.Ytfkkmdelpddojaa
open Go Go.Proofs
abbrev intsV (l:List Int):VV:=encS intE l
theorem idxIt {l:List It} {f:VV} {p:It→Bool} {H:AH} {K:VE→AH→Prop} (hl:l.length≤1099511627776)
 (hf:∀ i (h:i<l.length),FnAt Try.prog f [itV l[i]] (boolV (p l[i])) H) (hK:K (.ret (iV (idxF p l))) H):ZO Try.prog 110 [itsV l,f] H K:=by
 refine Zy fd110 (by simp) ?_;delta c110 Zf Za Ze Zq
 (repeat' (first | (simp only [↓Zt,Zu,intV,Zl9,Zma,reduceCtorEq,Zx,undef,Xu, *])))
 refine YJ (fun _ _ _ h=>h) (fun A H'=>H'=H∧A.d=[]∧A.t 0=itsV l∧A.t 1=f∧A.t 7=iV l.length∧∃ i:Nat,i≤l.length∧A.t 8=iV i∧∀ j (h:j<l.length),j<i→p l[j]=false)
  (fun A _=>match A.t 8 with | .lit (.int _ i)=>((l.length:Int)-i).toNat | _=>0) ?_ ?_
 ·exact ⟨rfl,rfl,rfl,rfl,rfl,0,by simp,rfl,by simp⟩
 ·rintro ⟨t,d⟩ H' ⟨rfl,rfl,h0,h1,h7,i,hi,h8,hj⟩;dsimp only at h0 h1 h7 h8;delta b110_1 Zn Zr Za Zc Zk Zb Zq Zm;by_cases hlt:i<l.length
  ·have hil:(i:Int)<(l.length:Int):=by omega
   have hdi:=ZbB hlt
   (repeat' (first | (simp only [↓Zt,Zu,boolV,Zl9,Zma,reduceCtorEq,JD,Xu, *]) | (refine WN ?_ ?_<;>intro) | (refine ZC ?_) | (refine hf _ hlt _ ?_) | (with_reducible refine And.intro ?_ ?_)))
   ·rw [← JH hlt (by assumption) (fun j h=>hj j (by omega) h)];exact hK
   ·rw [ZQ (by omega) (by omega)];refine ⟨i+1,by omega,by simp,fun j h h'=>?_⟩;rcases ZmI j i with h2 | h2
    ·exact hj j h h2
    ·obtain rfl:j=i:=by omega
     assumption
   ·rw [ZQ (by omega) (by omega)];omega
  ·have hil:¬ (i:Int)<(l.length:Int):=by omega
   (repeat' (first | (simp only [↓Zt,Zu,Zma, *]) | (refine YL rfl (fun _ _ _ h=>h) ?_)))
   delta c110_1 Zq
   (repeat' (first | (simp only [↓Zt,Zu,Zl9,Zma,Zm3, *]) | (refine ZC ?_)))
   rw [show (-1:Int)=idxF p l from (Zaq fun j h=>hj j h (by omega)).symm];exact hK
theorem hasIt {l:List It} {f:VV} {p:It→Bool} {H:AH} {K:VE→AH→Prop} (hl:l.length≤1099511627776)
 (hf:∀ i (h:i<l.length),FnAt Try.prog f [itV l[i]] (boolV (p l[i])) H) (hK:K (.ret (boolV (l.any p))) H):ZO Try.prog 93 [itsV l,f] H K:=by
 refine Zy fd93 (by simp) ?_;delta c93 Zq Za Zo Zr Zm Zc;have e:decide (0≤idxF p l)=l.any p:=Zb6;rw [← e] at hK;replace hK:=Hold.mk hK;clear e
 (repeat' (first | (simp only [↓Zt,Zu,Zl9,Zma,reduceCtorEq,Zx,undef,en_110, *]) | (refine ZC ?_) | (refine idxIt hl hf ?_)))
 exact hK.out
theorem idxPd {l:List Pd} {f:VV} {p:Pd→Bool} {H:AH} {K:VE→AH→Prop} (hl:l.length≤1099511627776)
 (hf:∀ i (h:i<l.length),FnAt Try.prog f [pdV l[i]] (boolV (p l[i])) H) (hK:K (.ret (iV (idxF p l))) H):ZO Try.prog 92 [pdsV l,f] H K:=by
 refine Zy fd92 (by simp) ?_;delta c92 Zf Za Ze Zq
 (repeat' (first | (simp only [↓Zt,Zu,intV,Zl9,Zma,reduceCtorEq,Zx,undef,Xb, *])))
 refine YJ (fun _ _ _ h=>h) (fun A H'=>H'=H∧A.d=[]∧A.t 0=pdsV l∧A.t 1=f∧A.t 7=iV l.length∧∃ i:Nat,i≤l.length∧A.t 8=iV i∧∀ j (h:j<l.length),j<i→p l[j]=false)
  (fun A _=>match A.t 8 with | .lit (.int _ i)=>((l.length:Int)-i).toNat | _=>0) ?_ ?_
 ·exact ⟨rfl,rfl,rfl,rfl,rfl,0,by simp,rfl,by simp⟩
 ·rintro ⟨t,d⟩ H' ⟨rfl,rfl,h0,h1,h7,i,hi,h8,hj⟩;dsimp only at h0 h1 h7 h8;delta b92_1 Zn Zr Za Zc Zk Zb Zq Zm;by_cases hlt:i<l.length
  ·have hil:(i:Int)<(l.length:Int):=by omega
   have hdi:=WG hlt
   (repeat' (first | (simp only [↓Zt,Zu,boolV,Zl9,Zma,reduceCtorEq,Je,Xb, *]) | (refine WN ?_ ?_<;>intro) | (refine ZC ?_) | (refine hf _ hlt _ ?_) | (with_reducible refine And.intro ?_ ?_)))
   ·rw [← JH hlt (by assumption) (fun j h=>hj j (by omega) h)];exact hK
   ·rw [ZQ (by omega) (by omega)];refine ⟨i+1,by omega,by simp,fun j h h'=>?_⟩;rcases ZmI j i with h2 | h2
    ·exact hj j h h2
    ·obtain rfl:j=i:=by omega
     assumption
   ·rw [ZQ (by omega) (by omega)];omega
  ·have hil:¬ (i:Int)<(l.length:Int):=by omega
   (repeat' (first | (simp only [↓Zt,Zu,Zma, *]) | (refine YL rfl (fun _ _ _ h=>h) ?_)))
   delta c92_1 Zq
   (repeat' (first | (simp only [↓Zt,Zu,Zl9,Zma,Zm3, *]) | (refine ZC ?_)))
   rw [show (-1:Int)=idxF p l from (Zaq fun j h=>hj j h (by omega)).symm];exact hK
theorem hasPd {l:List Pd} {f:VV} {p:Pd→Bool} {H:AH} {K:VE→AH→Prop} (hl:l.length≤1099511627776)
 (hf:∀ i (h:i<l.length),FnAt Try.prog f [pdV l[i]] (boolV (p l[i])) H) (hK:K (.ret (boolV (l.any p))) H):ZO Try.prog 52 [pdsV l,f] H K:=by
 refine Zy fd52 (by simp) ?_;delta c52 Zq Za Zo Zr Zm Zc;have e:decide (0≤idxF p l)=l.any p:=Zb6;rw [← e] at hK;replace hK:=Hold.mk hK;clear e
 (repeat' (first | (simp only [↓Zt,Zu,Zl9,Zma,reduceCtorEq,Zx,undef,en_92, *]) | (refine ZC ?_) | (refine idxPd hl hf ?_)))
 exact hK.out
theorem WQ:Program.underlying Try.prog 9=some .string:=Try.underlying9
def prioF (n:Int):Bool:=decide (0≤n) && decide (n≤1000)
theorem ZhM (n:Int):PureF Try.prog 75 [iV n] (boolV (prioF n)):=by
 refine PureF.forget fun H=>?_
 refine Zy fd75 (by simp) ?_;delta c75 Zq Za Zm Zp Zr Zc prioF;by_cases h1:0≤n
 ·(repeat' (first | (simp only [↓Zt,Zu,boolV,Zl9,Zma,Bool.true_and,reduceCtorEq,Zx,undef, *]) | (refine ZC ?_) | (exact SubH.refl _)))
 ·(repeat' (first | (simp only [↓Zt,Zu,boolV,Zl9,Zma,reduceCtorEq,Yc,Zx,undef, *]) | (refine ZC ?_) | (exact SubH.refl _)))
theorem ZjI (i:It):PureF Try.prog 95 [itV i] (boolV (itOk i)):=by
 refine PureF.forget fun H=>?_
 have hp:=ZhM i.prio;unfold prioF at hp;refine Zy fd95 (by simp) ?_;delta c95 Zj Zq Zd Zb Zm Za Zp Zr Zc itOk;by_cases h1:1≤i.kind
 ·by_cases h2:i.kind≤3
  ·by_cases h3:¬ i.text={ data:=#[] }
   ·by_cases h4:(i.text.size:Int)≤100
    ·by_cases h5:0≤i.prio
     ·by_cases h6:i.prio≤1000
      ·by_cases h7:i.kind=3
       ·(repeat' (first | (refine WQ) | (simp only [↓Ya,↓Ye,↓Xe,↓ZY,↓ZF,↓Yk,↓Yx,↓WJ,↓ZD,↓ZG,↓ZH,↓ZJ,↓ZI,↓ZP,↓ZU,↓Zv,↓ZR,↓ZE,↓ZV,↓Ym,↓YE,↓ZS,↓Yy,↓Wx,↓ZA,↓ZX,↓ZK,↓ZL,↓Xk,↓YV,↓YW,↓Yr,↓JJ,ptrV,intV,boolV,Zmd,Zmg,Zmq,Zmr,Zms,ite_true,ite_false,Zl9,Zma,ne_eq,not_false_eq_true,true_and,Zme,decide_true,decide_false,ZmG,Bool.true_or,Yc,Zx,AH.get,Zmp,eq_self,Zmh,Zmo,Zmb,Yq,YB,↓Wz,Yn,YK,JI,Yo,Yp,YG,undef,Int.reduceLE,Xd,XQ,XZ,Yd,Wb,JS, *]) | (refine ZC ?_) | (refine Zw fun zr zh=>?_; have zg:=zh; (try simp only [AH.set_none] at zg)) | (exact SubH.refl _) | (refine SubH.of_set ?_ ?_) | (refine PureF.use (hp) ?_) | (with_reducible refine And.intro ?_ ?_)))
       ·(repeat' (first | (refine WQ) | (simp only [↓Ya,↓Ye,↓Xe,↓ZY,↓ZF,↓Yk,↓Yx,↓YN,↓ZD,↓ZG,↓ZH,↓ZJ,↓ZI,↓ZP,↓ZU,↓Zv,↓ZR,↓ZE,↓ZV,↓Ym,↓YE,↓ZS,↓Yy,↓Wx,↓ZA,↓ZX,↓ZK,↓ZL,↓Xk,↓YV,↓YW,↓Yr,↓JJ,ptrV,intV,boolV,Zmd,Zmg,Zmq,Zmr,Zms,ite_true,ite_false,Zl9,Zma,ne_eq,not_false_eq_true,true_and,Zmv,Zme,decide_true,decide_false,ZmG,Bool.true_and,Bool.false_or,Zx,AH.get,Zmp,eq_self,Zmh,Zmo,Zmb,Yq,YB,↓Wz,Yn,YK,JI,Yo,Yp,YG,undef,Xd,XQ,XZ,Yd,Wb,JS, *]) | (refine ZC ?_) | (refine Zw fun zr zh=>?_; have zg:=zh; (try simp only [AH.set_none] at zg)) | (exact SubH.refl _) | (refine SubH.of_set ?_ ?_) | (refine PureF.use (hp) ?_) | (with_reducible refine And.intro ?_ ?_)))
      ·(repeat' (first | (refine WQ) | (simp only [↓Ya,↓Ye,↓Xe,↓ZY,↓ZF,↓Yk,↓Yx,↓YZ,ZaB,↓ZD,↓ZG,↓ZH,↓ZJ,↓ZI,↓ZP,↓ZU,↓Zv,↓ZR,↓ZE,↓ZV,↓Ym,↓YE,↓ZS,↓Yy,↓Wx,↓ZA,↓ZX,↓ZK,↓ZL,↓Xk,↓YV,↓YW,↓JJ,ptrV,intV,boolV,Zmd,Zmg,Zmq,Zmr,Zms,ite_true,ite_false,Zl9,Zma,ne_eq,not_false_eq_true,true_and,Zmv,Zme,decide_true,decide_false,ZmG,Bool.and_false,Zm6,Yc,Zx,AH.get,Zmp,eq_self,Zmh,Zmo,Zmb,Yq,YB,↓Wz,Yn,YK,JI,Yo,Yp,YG,undef,Xd,XQ,XZ,Yd,Wb,JS, *]) | (refine ZC ?_) | (refine Zw fun zr zh=>?_; have zg:=zh; (try simp only [AH.set_none] at zg)) | (exact SubH.refl _) | (refine SubH.of_set ?_ ?_) | (refine PureF.use (hp) ?_) | (with_reducible refine And.intro ?_ ?_)))
     ·(repeat' (first | (refine WQ) | (simp only [↓Ya,↓Ye,↓Xe,↓ZY,↓ZF,↓Yk,↓Yx,↓YZ,ZaB,↓ZD,↓ZG,↓ZH,↓ZJ,↓ZI,↓ZP,↓ZU,↓Zv,↓ZR,↓ZE,↓ZV,↓Ym,↓YE,↓ZS,↓Yy,↓Wx,↓ZA,↓ZX,↓ZK,↓ZL,↓Xk,↓YV,↓YW,↓JJ,ptrV,intV,boolV,Zmd,Zmg,Zmq,Zmr,Zms,ite_true,ite_false,Zl9,Zma,ne_eq,not_false_eq_true,true_and,Zmv,Zme,decide_true,decide_false,ZmG,Bool.and_false,Zm6,Yc,Zx,AH.get,Zmp,eq_self,Zmh,Zmo,Zmb,Yq,YB,↓Wz,Yn,YK,JI,Yo,Yp,YG,undef,Xd,XQ,XZ,Yd,Wb,JS, *]) | (refine ZC ?_) | (refine Zw fun zr zh=>?_; have zg:=zh; (try simp only [AH.set_none] at zg)) | (exact SubH.refl _) | (refine SubH.of_set ?_ ?_) | (refine PureF.use (hp) ?_) | (with_reducible refine And.intro ?_ ?_)))
    ·(repeat' (first | (refine WQ) | (simp only [↓Ya,↓Ye,↓Xe,↓ZY,↓ZF,↓Yk,↓Yx,↓YZ,ZaB,↓ZD,↓ZG,↓ZH,↓ZJ,↓ZI,↓ZP,↓ZU,↓Zv,↓ZR,↓ZE,↓ZV,↓Ym,↓YE,↓ZS,↓Yy,↓Wx,↓ZA,↓ZX,↓Xk,↓YV,↓YW,↓JJ,ptrV,intV,boolV,Zmd,Zmg,Zmq,Zmr,Zms,ite_true,ite_false,Zl9,Zma,ne_eq,not_false_eq_true,true_and,Zmv,Zme,decide_true,decide_false,ZmG,Bool.and_false,Zm6,Yc,Zx,AH.get,Zmp,eq_self,Zmh,Zmo,Zmb,Yq,YB,↓Wz,Yn,YK,JI,Yo,Yp,YG,undef,Xd,XQ,Yd,Wb,JS, *]) | (refine ZC ?_) | (refine Zw fun zr zh=>?_; have zg:=zh; (try simp only [AH.set_none] at zg)) | (exact SubH.refl _) | (refine SubH.of_set ?_ ?_) | (with_reducible refine And.intro ?_ ?_)))
   ·(repeat' (first | (refine WQ) | (simp only [↓Ya,↓Ye,↓Xe,↓ZY,↓ZF,↓Yk,↓Yx,↓WJ,↓YZ,↓YN,ZaB,↓ZD,↓ZG,↓ZH,↓ZJ,↓ZI,↓ZP,↓ZU,↓Zv,↓ZR,↓ZE,↓ZV,↓Ym,↓YE,↓ZS,↓Yy,↓Wx,↓ZA,↓ZX,↓ZK,↓ZL,↓Xk,↓YV,↓YW,↓Yr,↓JJ,ptrV,intV,boolV,Zmd,Zmg,Zmq,Zmr,Zms,ite_true,ite_false,Zl9,Zma,ne_eq,not_false_eq_true,true_and,Zmv,Zme,decide_true,decide_false,Bool.true_and,Zm6,Bool.true_or,Bool.false_or,Yc,Zx,AH.get,Zmp,eq_self,Zmh,Zmo,Zmb,Yq,YB,↓Wz,Yn,YK,JI,Yo,Yp,YG,undef,Xd,XQ,XZ,Yd,Wb,JS, *]) | (refine XU ?_ ?_<;>intro) | (refine ZbN ?_ ?_<;>intro) | (refine Zcw ?_ ?_<;>intro) | (refine ZC ?_) | (refine Zw fun zr zh=>?_; have zg:=zh; (try simp only [AH.set_none] at zg)) | (exact SubH.refl _) | (refine SubH.of_set ?_ ?_) | (refine PureF.use (hp) ?_) | (with_reducible refine And.intro ?_ ?_)))
  ·(repeat' (first | (simp only [↓Zt,Zu,ZaB,ptrV,boolV,Zl9,Zma,Bool.and_false,Yc,Zx,Zmb,undef,Xd,Yd,JS, *]) | (refine ZC ?_) | (refine Zw fun zr zh=>?_; have zg:=zh; (try simp only [AH.set_none] at zg)) | (exact SubH.refl _) | (refine SubH.of_set ?_ ?_)))
 ·(repeat' (first | (simp only [↓Zt,Zu,ZaB,ptrV,boolV,Zl9,Zma,Yc,Zx,Zmb,undef,Xd,Yd,JS, *]) | (refine ZC ?_) | (refine Zw fun zr zh=>?_; have zg:=zh; (try simp only [AH.set_none] at zg)) | (exact SubH.refl _) | (refine SubH.of_set ?_ ?_)))
theorem ZjJ (p:Pd) (hl:p.items.length≤1099511627776):PureF Try.prog 54 [pdV p] (boolV (pdOk p)):=by
 have hf:∀ i (h:i<p.items.length) H,FnAt Try.prog (.lit (.func (.func 94) #[] #[])) [itV p.items[i]] (boolV (!itOk p.items[i])) H:=fun i h H=>FnAt.lit en_94 (by
  refine PureF.forget fun H=>?_
  have hi:=ZjI p.items[i];refine Zy fd94 (by simp) ?_;delta c94 Zj Zq Zb Zo Zr Zc
  (repeat' (first | (simp only [↓Zt,Zu,ptrV,boolV,Zl9,Zma,Zx,Zmb,undef,JD,en_95, *]) | (refine ZC ?_) | (refine Zw fun zr zh=>?_; have zg:=zh; (try simp only [AH.set_none] at zg)) | (exact SubH.refl _) | (refine SubH.of_set ?_ ?_) | (refine PureF.use (hi) ?_))))
 refine PureF.forget fun H=>?_
 have hp:=ZhM p.prio;unfold prioF at hp;have hal:(!p.items.any fun i=>!itOk i)=p.items.all itOk:=by rw [List.all_eq_not_any_not]
 refine Zy fd54 (by simp) ?_;delta c54 Zj Zq Zd Zb Zr Za Zp Zc pdOk;rw [← hal];obtain ⟨B,hB⟩:∃ B,B=p.items.any fun i=>!itOk i:=⟨_,rfl⟩
 rw [← hB];have hc:=fun (H:AH) (K:VE→AH→Prop)=>hasIt (l:=p.items) (p:=fun i=>!itOk i) (f:=.lit (.func (.func 94) #[] #[])) (H:=H) (K:=K) hl (fun i h=>hf i h H)
 rw [← hB] at hc;clear hB hal hf;by_cases h1:¬ p.left={ data:=#[] }
 ·by_cases h2:(p.left.size:Int)≤100
  ·by_cases h3:(p.name.size:Int)≤100
   ·by_cases h4:0≤p.prio
    ·by_cases h5:p.prio≤1000
     ·by_cases h6:1≤p.items.length
      ·by_cases h7:p.items.length≤30
       ·(repeat' (first | (refine hc _ _ ?_) | (refine WQ) | (simp only [↓Ya,↓Ye,↓Xe,↓ZY,↓ZF,↓Yk,↓Yx,↓YZ,↓ZD,↓ZG,↓ZH,↓ZJ,↓ZI,↓ZP,↓ZU,↓Zv,↓ZR,↓ZE,↓ZV,↓Ym,↓YE,↓ZS,↓Yy,↓s_un,↓Wx,↓ZA,↓ZX,↓ZK,↓ZL,↓Xk,↓Yj,↓YV,↓YW,↓JJ,ptrV,intV,boolV,Zmd,Zmg,Zmq,Zmr,Zms,ite_true,ite_false,Zl9,Zma,ne_eq,not_false_eq_true,true_and,Zmv,Zme,decide_true,decide_false,ZmG,Bool.true_and,Zm6,reduceCtorEq,Yc,Zx,AH.get,Zmp,eq_self,Zmh,Zmo,Zmb,Yq,YB,↓Wz,Yn,YK,XA,JI,Yo,Yp,YG,undef,WH,ZaA,WW,Xh,Wb,Yd,Wi,Xu,JS,ZcT, *]) | (refine XU ?_ ?_<;>intro) | (refine ZC ?_) | (refine Zw fun zr zh=>?_; have zg:=zh; (try simp only [AH.set_none] at zg)) | (exact SubH.refl _) | (refine SubH.of_set ?_ ?_) | (refine PureF.use (hp) ?_) | (with_reducible refine And.intro ?_ ?_)))
       ·(repeat' (first | (refine hc _ _ ?_) | (refine WQ) | (simp only [↓Ya,↓Ye,↓Xe,↓ZY,↓ZF,↓Yk,↓Yx,↓YZ,↓ZD,↓ZG,↓ZH,↓ZJ,↓ZI,↓ZP,↓ZU,↓Zv,↓ZR,↓ZE,↓ZV,↓Ym,↓YE,↓ZS,↓Yy,↓s_un,↓Wx,↓ZA,↓ZX,↓ZK,↓ZL,↓Xk,↓Yj,↓YV,↓YW,↓JJ,ptrV,intV,boolV,Zmd,Zmg,Zmq,Zmr,Zms,ite_true,ite_false,Zl9,Zma,ne_eq,not_false_eq_true,true_and,Zmv,Zme,decide_true,decide_false,ZmG,Bool.true_and,Zm6,reduceCtorEq,Yc,Zx,AH.get,Zmp,eq_self,Zmh,Zmo,Zmb,Yq,YB,↓Wz,Yn,YK,XA,JI,Yo,Yp,YG,undef,WH,ZaA,WW,Xh,Wb,Yd,Wi,Xu,JS,ZcT, *]) | (refine XU ?_ ?_<;>intro) | (refine ZC ?_) | (refine Zw fun zr zh=>?_; have zg:=zh; (try simp only [AH.set_none] at zg)) | (exact SubH.refl _) | (refine SubH.of_set ?_ ?_) | (refine PureF.use (hp) ?_) | (with_reducible refine And.intro ?_ ?_)))
      ·(repeat' (first | (refine hc _ _ ?_) | (refine WQ) | (simp only [↓Ya,↓Ye,↓Xe,↓ZY,↓ZF,↓Yk,↓Yx,↓YZ,↓ZD,↓ZG,↓ZH,↓ZJ,↓ZI,↓ZP,↓ZU,↓Zv,↓ZR,↓ZE,↓ZV,↓Ym,↓YE,↓ZS,↓Yy,↓s_un,↓Wx,↓ZA,↓ZX,↓ZK,↓ZL,↓Xk,↓Yj,↓YV,↓YW,↓JJ,ptrV,intV,boolV,Zmd,Zmg,Zmq,Zmr,Zms,ite_true,ite_false,Zl9,Zma,ne_eq,not_false_eq_true,true_and,Zmv,Zme,decide_true,decide_false,ZmG,Bool.true_and,Zm6,reduceCtorEq,Yc,Zx,AH.get,Zmp,eq_self,Zmh,Zmo,Zmb,Yq,YB,↓Wz,Yn,YK,XA,JI,Yo,Yp,YG,undef,WH,ZaA,WW,Xh,Wb,Yd,Wi,Xu,JS,ZcT, *]) | (refine XU ?_ ?_<;>intro) | (refine ZC ?_) | (refine Zw fun zr zh=>?_; have zg:=zh; (try simp only [AH.set_none] at zg)) | (exact SubH.refl _) | (refine SubH.of_set ?_ ?_) | (refine PureF.use (hp) ?_) | (with_reducible refine And.intro ?_ ?_)))
     ·(repeat' (first | (refine WQ) | (simp only [↓Ya,↓Ye,↓Xe,↓ZY,↓ZF,↓Yk,↓Yx,↓YZ,↓ZD,↓ZG,↓ZH,↓ZJ,↓ZI,↓ZP,↓ZU,↓Zv,↓ZR,↓ZE,↓ZV,↓Ym,↓YE,↓ZS,↓Yy,↓Wx,↓ZA,↓ZX,↓ZK,↓ZL,↓Xk,↓YV,↓JJ,ptrV,intV,boolV,Zmd,Zmg,Zmq,Zmr,Zms,ite_true,ite_false,Zl9,Zma,ne_eq,not_false_eq_true,true_and,Zmv,Zme,decide_true,decide_false,ZmG,Bool.and_false,Zm6,Yc,Zx,AH.get,Zmp,eq_self,Zmh,Zmo,Zmb,Yq,YB,↓Wz,Yn,YK,JI,Yo,Yp,YG,undef,WH,ZaA,WW,Wb,Yd,JS,ZcT, *]) | (refine ZC ?_) | (refine Zw fun zr zh=>?_; have zg:=zh; (try simp only [AH.set_none] at zg)) | (exact SubH.refl _) | (refine SubH.of_set ?_ ?_) | (refine PureF.use (hp) ?_) | (with_reducible refine And.intro ?_ ?_)))
    ·(repeat' (first | (refine WQ) | (simp only [↓Ya,↓Ye,↓Xe,↓ZY,↓ZF,↓Yk,↓Yx,↓YZ,↓ZD,↓ZG,↓ZH,↓ZJ,↓ZI,↓ZP,↓ZU,↓Zv,↓ZR,↓ZE,↓ZV,↓Ym,↓YE,↓ZS,↓Yy,↓Wx,↓ZA,↓ZX,↓ZK,↓ZL,↓Xk,↓YV,↓JJ,ptrV,intV,boolV,Zmd,Zmg,Zmq,Zmr,Zms,ite_true,ite_false,Zl9,Zma,ne_eq,not_false_eq_true,true_and,Zmv,Zme,decide_true,decide_false,ZmG,Bool.and_false,Zm6,Yc,Zx,AH.get,Zmp,eq_self,Zmh,Zmo,Zmb,Yq,YB,↓Wz,Yn,YK,JI,Yo,Yp,YG,undef,WH,ZaA,WW,Wb,Yd,JS,ZcT, *]) | (refine ZC ?_) | (refine Zw fun zr zh=>?_; have zg:=zh; (try simp only [AH.set_none] at zg)) | (exact SubH.refl _) | (refine SubH.of_set ?_ ?_) | (refine PureF.use (hp) ?_) | (with_reducible refine And.intro ?_ ?_)))
   ·(repeat' (first | (refine WQ) | (simp only [↓Ya,↓Ye,↓Xe,↓ZY,↓ZF,↓Yk,↓Yx,↓YZ,↓ZD,↓ZG,↓ZH,↓ZJ,↓ZI,↓ZP,↓ZU,↓Zv,↓ZR,↓ZE,↓ZV,↓Ym,↓YE,↓ZS,↓Yy,↓Wx,↓ZA,↓ZX,↓Xk,↓YV,↓JJ,ptrV,intV,boolV,Zmd,Zmg,Zmq,Zmr,Zms,ite_true,ite_false,Zl9,Zma,ne_eq,not_false_eq_true,true_and,Zmv,Zme,decide_true,decide_false,ZmG,Bool.and_false,Zm6,Yc,Zx,AH.get,Zmp,eq_self,Zmh,Zmo,Zmb,Yq,YB,↓Wz,Yn,YK,JI,Yo,Yp,YG,undef,WH,ZaA,Wb,JS,ZcT, *]) | (refine ZC ?_) | (refine Zw fun zr zh=>?_; have zg:=zh; (try simp only [AH.set_none] at zg)) | (exact SubH.refl _) | (refine SubH.of_set ?_ ?_) | (with_reducible refine And.intro ?_ ?_)))
  ·(repeat' (first | (refine WQ) | (simp only [↓Ya,↓Ye,↓Xe,↓ZY,↓ZF,↓Yk,↓Yx,↓YZ,↓ZD,↓ZG,↓ZH,↓ZJ,↓ZI,↓ZP,↓ZU,↓Zv,↓ZR,↓ZE,↓ZV,↓Ym,↓YE,↓ZS,↓Yy,↓Wx,↓ZA,↓ZX,↓Xk,↓YV,↓JJ,ptrV,intV,boolV,Zmd,Zmg,Zmq,Zmr,Zms,ite_true,ite_false,Zl9,Zma,ne_eq,not_false_eq_true,true_and,Zmv,Zme,decide_false,ZmG,Bool.and_false,Zm6,Yc,Zx,AH.get,eq_self,Zmo,Zmb,Yq,YB,↓Wz,Yn,YK,JI,Yo,Yp,YG,undef,WH,Wb,JS,ZcT, *]) | (refine ZC ?_) | (refine Zw fun zr zh=>?_; have zg:=zh; (try simp only [AH.set_none] at zg)) | (exact SubH.refl _) | (refine SubH.of_set ?_ ?_) | (with_reducible refine And.intro ?_ ?_)))
 ·(repeat' (first | (refine hc _ _ ?_) | (refine WQ) | (simp only [↓Ya,↓Ye,↓Xe,↓ZY,↓ZF,↓Yk,↓Yx,↓YZ,↓ZD,↓ZG,↓ZH,↓ZJ,↓ZI,↓ZP,↓ZU,↓Zv,↓ZR,↓ZE,↓ZV,↓Ym,↓YE,↓ZS,↓Yy,↓s_un,↓Wx,↓ZA,↓ZX,↓ZK,↓ZL,↓Xk,↓Yj,↓YV,↓YW,↓JJ,ptrV,intV,boolV,Zmd,Zmg,Zmq,Zmr,Zms,ite_true,ite_false,Zl9,Zma,ne_eq,not_false_eq_true,true_and,Zmv,Zme,decide_true,decide_false,Bool.true_and,Zm6,reduceCtorEq,Yc,Zx,AH.get,eq_self,Zmh,Zmo,Zmb,Yq,YB,↓Wz,Yn,YK,XA,JI,Yo,Yp,YG,undef,WH,ZaA,WW,Xh,Wb,Yd,Wi,Xu,JS,ZcT, *]) | (refine XU ?_ ?_<;>intro) | (refine Zcw ?_ ?_<;>intro) | (refine ZC ?_) | (refine Zw fun zr zh=>?_; have zg:=zh; (try simp only [AH.set_none] at zg)) | (exact SubH.refl _) | (refine SubH.of_set ?_ ?_) | (refine PureF.use (hp) ?_) | (with_reducible refine And.intro ?_ ?_)))
theorem Zi0 (g:List Pd) (hl:g.length≤1099511627776) (hi:∀ p∈g,p.items.length≤1099511627776):PureF Try.prog 16 [pdsV g] (iV (Jl g)):=by
 have hf:∀ i (h:i<g.length) H,FnAt Try.prog (.lit (.func (.func 53) #[] #[])) [pdV g[i]] (boolV (!pdOk g[i])) H:=fun i h H=>FnAt.lit en_53 (by
  refine PureF.forget fun H=>?_
  have hi:=ZjJ g[i] (hi _ (ZmE h));refine Zy fd53 (by simp) ?_;delta c53 Zj Zq Zb Zo Zr Zc
  (repeat' (first | (simp only [↓Zt,Zu,ptrV,boolV,Zl9,Zma,Zx,Zmb,undef,Je,en_54, *]) | (refine ZC ?_) | (refine Zw fun zr zh=>?_; have zg:=zh; (try simp only [AH.set_none] at zg)) | (exact SubH.refl _) | (refine SubH.of_set ?_ ?_) | (refine PureF.use (hi) ?_))))
 refine PureF.forget fun H=>?_
 have hc:=fun (H:AH) (K:VE→AH→Prop)=>hasPd (l:=g) (p:=fun p=>!pdOk p) (f:=.lit (.func (.func 53) #[] #[])) (H:=H) (K:=K) hl (fun i h=>hf i h H)
 have hal:(g.any fun p=>!pdOk p)=!g.all pdOk:=by rw [List.all_eq_not_any_not,Bool.not_not]
 rw [hal] at hc;refine Zy fd16 (by simp) ?_;delta c16 Zf Za Ze Zm Zp Zr Zq Jl;clear hf hal;by_cases h1:g.length≤500
 ·have h1':¬ 500<(g.length:Int):=by omega
  cases h2:g.all pdOk
  ·rw [h2] at hc
   (repeat' (first | (refine hc _ _ ?_) | (simp only [↓Ya,↓Ye,↓ZZ,↓Yb,↓Xe,↓ZY,↓ZF,↓Yk,↓YN,↓ZD,↓Xs,↓ZG,↓ZH,↓ZJ,↓ZI,↓ZP,↓ZU,↓Zv,↓ZR,↓ZE,↓ZV,↓Ym,↓YE,↓Yy,↓ZX,↓ZK,↓ZL,↓Xk,↓ZaX,intV,boolV,Zmd,Zmg,Zmq,Zmr,Zms,ite_true,ite_false,Zl9,Zma,ne_eq,not_false_eq_true,true_and,Zmv,Zme,decide_false,ZmG,reduceCtorEq,Zx,eq_self,XA,undef,and_false,Xb,en_52, *]) | (refine ZC ?_) | (exact SubH.refl _)))
  ·rw [h2] at hc
   (repeat' (first | (refine hc _ _ ?_) | (simp only [↓Yt,↓Ya,↓Ye,↓ZZ,↓Yv,↓Xe,↓ZY,↓ZF,↓Yk,↓YN,↓ZD,↓ZG,↓ZH,↓ZJ,↓ZI,↓ZP,↓ZU,↓Zv,↓ZR,↓ZE,↓ZV,↓Ym,↓YE,↓Yy,↓ZX,↓ZK,↓ZL,↓Xk,↓ZaX,intV,boolV,Zmd,Zmg,Zmq,Zmr,Zms,ite_true,ite_false,Zl9,Zma,ne_eq,not_false_eq_true,true_and,Zmv,Zme,decide_false,ZmK,reduceCtorEq,Zx,eq_self,and_self,XA,undef,Xb,en_52, *]) | (refine ZC ?_) | (exact SubH.refl _)))
 ·have h1':500<(g.length:Int):=by omega
  (repeat' (first | (simp only [↓Zt,Zu,intV,Zl9,Zma,reduceCtorEq,Yc,Zx,undef,false_and,Xb,en_52, *]) | (refine ZC ?_) | (exact SubH.refl _)))
def Wj (g:List Pd) (least:Int) (n:Nat):Int:=if Jl g=0 then (if prioF least=true then (if n≤200 then 0 else 5) else 4) else 170
theorem asked_ok (g:List Pd) (least:Int) (l:List Tk) (hl:g.length≤1099511627776) (hi:∀ p∈g,p.items.length≤1099511627776):PureF Try.prog 42 [pdsV g,iV least,tksV l] (iV (Wj g least l.length)):=by
 refine PureF.forget fun H=>?_
 have hc:=Zi0 g hl hi;have hp:=ZhM least;refine Zy fd42 (by simp) ?_;delta c42 Zf Za Zo Zr Zm Zc Zq Ze Wj;generalize Jl g=X at *
 by_cases h0:X=0
 ·cases h1:prioF least
  ·rw [h1] at hp
   (repeat' (first | (simp only [↓Zt,Zu,boolV,Zl9,Zma,reduceCtorEq,Zx,undef,Zdt,JS, *]) | (refine ZC ?_) | (exact SubH.refl _) | (refine PureF.use (hc) ?_) | (refine PureF.use (hp) ?_)))
  ·rw [h1] at hp;by_cases h2:l.length≤200
   ·have h2':¬ 200<(l.length:Int):=by omega
    (repeat' (first | (simp only [↓Zt,Zu,intV,boolV,Zl9,Zma,reduceCtorEq,Zx,undef,Zam,Zdt,JS, *]) | (refine ZC ?_) | (exact SubH.refl _) | (refine PureF.use (hc) ?_) | (refine PureF.use (hp) ?_)))
   ·have h2':200<(l.length:Int):=by omega
    (repeat' (first | (simp only [↓Zt,Zu,intV,boolV,Zl9,Zma,reduceCtorEq,Zx,undef,Zam,Zdt,JS, *]) | (refine ZC ?_) | (exact SubH.refl _) | (refine PureF.use (hc) ?_) | (refine PureF.use (hp) ?_)))
 ·(repeat' (first | (simp only [↓Zt,Zu,Zl9,Zma,reduceCtorEq,Zx,undef,Zdt, *]) | (refine ZC ?_) | (exact SubH.refl _) | (refine PureF.use (hc) ?_)))
def YH (p:Pd) (sym:ByteArray) (least:Int):Bool:=decide (p.left=sym) && decide (least≤p.prio)
theorem Zch (p:Pd) (sym:ByteArray) (least:Int):PureF Try.prog 51 [pdV p,sV sym,iV least] (boolV (YH p sym least)):=by
 refine PureF.forget fun H=>?_
 refine Zy fd51 (by simp) ?_;delta c51 Zj Zq Zd Zb Za Zn Zp Zr Zc YH;by_cases h1:p.left=sym
 ·(repeat' (first | (simp only [↓Zt,Zu,↓Zgu,ptrV,boolV,Zl9,Zma,Bool.true_and,Zx,Zmb,undef,WH,WW,Wb,Yd, *]) | (refine ZC ?_) | (refine Zw fun zr zh=>?_; have zg:=zh; (try simp only [AH.set_none] at zg)) | (exact SubH.refl _) | (refine SubH.of_set ?_ ?_)))
 ·(repeat' (first | (simp only [↓Zt,Zu,↓Zgu,ptrV,boolV,Zl9,Zma,Yc,Zx,Zmb,undef,WH,Wb, *]) | (refine ZC ?_) | (refine Zw fun zr zh=>?_; have zg:=zh; (try simp only [AH.set_none] at zg)) | (exact SubH.refl _) | (refine SubH.of_set ?_ ?_)))
def takeF (i:It) (t:Tk):Bool:=if i.kind=1 then decide (t.kind=noNm) && decide (t.text=i.text) else decide (t.kind=i.text)
theorem Zi1 (i:It) (t:Tk):PureF Try.prog 80 [itV i,tkV t] (boolV (takeF i t)):=by
 refine PureF.forget fun H=>?_
 refine Zy fd80 (by simp) ?_;delta c80 Zj Zq Zd Zb Zm Zr Za Zp Zc Zn takeF;by_cases h1:i.kind=1
 ·by_cases h2:t.kind={ data:=#[] }
  ·(repeat' (first | (simp only [↓Zt,Zu,↓Zgu,ptrV,boolV,Zl9,Zma,Bool.true_and,Zx,Zmb,undef,Xd,ZfQ,flT_66_1,XQ,Yd,Wb, *]) | (refine ZC ?_) | (refine Zw fun zr zh=>?_; have zg:=zh; (try simp only [AH.set_none] at zg)) | (exact SubH.refl _) | (refine SubH.of_set ?_ ?_)))
  ·(repeat' (first | (simp only [↓Zt,Zu,↓Zgu,ptrV,boolV,Zl9,Zma,Yc,Zx,Zmb,undef,Xd,ZfQ,Yd,Wb, *]) | (refine ZC ?_) | (refine Zw fun zr zh=>?_; have zg:=zh; (try simp only [AH.set_none] at zg)) | (exact SubH.refl _) | (refine SubH.of_set ?_ ?_)))
 ·(repeat' (first | (simp only [↓Zt,Zu,↓Zgu,ptrV,boolV,Zl9,Zma,Zx,Zmb,undef,Xd,ZfQ,XQ,Yd,Wb, *]) | (refine ZC ?_) | (refine Zw fun zr zh=>?_; have zg:=zh; (try simp only [AH.set_none] at zg)) | (exact SubH.refl _) | (refine SubH.of_set ?_ ?_)))
end Go.PV.Ytfkkmdelpddojaa
end
section
open List renaming eq_nil_of_length_eq_zero→Znd,range→Zmm,getElem?_eq_none→ZmS
namespace Go.PV
open Go
def Zgv (x:VV) (want:Bool) (cx:Cx) (d:Option Tmp) (op:Op) (k:AF→AH→Prop) (Q:APost) (A:AF) (H:AH):Prop :=
 match x with
 | .lit (.bool t)=>(if t=want then vcDo cx ⟨d,op,none⟩ k Q A H else (dOk cx.N d∧Yc cx.P op A∧k (A.put d Zx) H))
 | .lit (.tuple _)=>dOk cx.N d∧Yc cx.P op A∧k (A.put d Zx) H
 | _=>False
def vcG2 (cx:Cx) (o:GOp) (k:AF→AH→Prop) (Q:APost) (A:AF) (H:AH):Prop :=
 match o.g with
 | none=>vcDo cx ⟨o.dst,o.op,none⟩ k Q A H
 | some (d,want)=>Zgv (A.t d) want cx o.dst o.op k Q A H
def vcL2 (cx:Cx):List GOp→APost→AF→AH→Prop
 | [],Q=>Q .normal
 | o::l,Q=>vcG2 cx o (vcL2 cx l Q) Q
section
variable {cx:Cx} {Q:APost} {S:Nat→Prop} {H:AH} {w:World} {A:AF} {a:Act}
theorem ZjK {ops:Array Oper} {o:Oper} {next:AF→AH→Prop} (hg:gOk ops o=true) (h:vcG2 cx (gopOf ops o) next Q A H) {S0:Nat→Prop} {H0:AH} {w0:World} (k:Step S0 H0 w0 S H w) (hs:Sim S H w) (hf:RvF cx.N S w A a) (nx:Act→World→Prop)
 (h1:∀ S' H' A' a' w',Step S0 H0 w0 S' H' w'→Sim S' H' w'→RvF cx.N S' w' A' a'→next A' H'→nx a' w') :
 if Region.wanted o (yielded ops a.tmps) then o.wpIn (Xy cx.P cx.ro) 0 cx.P a w nx (LQ cx Q S0 H0 w0) else (∀ f,o.about cx.P w a.eval=some f→(Xy cx.P cx.ro).fn f)∧nx (a.put o.dst undef) w:=by
 unfold vcG2 at h;split at h
 ·rename_i he;refine Zcc hg ?_ k hs hf nx h1;unfold vcG;rw [he];exact h
 ·rename_i d want he;unfold Zgv at h;split at h
  ·rename_i b hb;refine Zcc hg ?_ k hs hf nx h1;unfold vcG;rw [he];simp only [hb];exact h
  ·rename_i vs hb;have hw:=Zfb (ops:=ops) (o:=o) hf he hb;rw [hw,if_neg (by simp)];refine ⟨Zbl h.2.1 hf,h1 S H _ _ w k hs (RvF.put hf (x:=Zx) (u:=undef) ?_ rfl) h.2.2⟩;intro d' hd';have h2:dOk cx.N o.dst:=h.1;rw [hd'] at h2;exact h2
  ·exact h.elim
theorem Zfo {ops:Array Oper}:∀ (is:List Nat) (l:List Oper) (A:AF) (H:AH) (S:Nat→Prop) (w:World) (a:Act) (S0:Nat→Prop) (H0:AH) (w0:World),
 (∀ j:Nat,l[j]?=(is[j]?).bind fun i:Nat=>ops[i]?)→is.length=l.length→(∀ o∈l,gOk ops o=true)→vcL2 cx (l.map (gopOf ops)) Q A H→Step S0 H0 w0 S H w→Sim S H w→RvF cx.N S w A a →
 wpOpsIn (Xy cx.P cx.ro) 0 cx.P ops (LQ cx Q S0 H0 w0) is a w
 | [],l,A,H,S,w,a,S0,H0,w0,hl,hlen,hg,h,k,hs,hf=>by
   have:l=[]:=Znd (by simpa using hlen.symm)
   subst this;exact ⟨by simp,S,H,A,k,hs,hf,h⟩
 | i::is,[],A,H,S,w,a,S0,H0,w0,hl,hlen,hg,h,k,hs,hf=>by simp at hlen
 | i::is,o::l,A,H,S,w,a,S0,H0,w0,hl,hlen,hg,h,k,hs,hf=>by
   have ho:ops[i]?=some o:=by have:=hl 0; simpa using this.symm
   simp only [wpOpsIn,ho]
   exact ZjK (hg o (by simp)) h k hs hf _ fun S' H' A' a' w' g1 g2 g3 g4 =>
    Zfo is l A' H' S' w' a' S0 H0 w0 (fun j=>by have:=hl (j+1); simpa using this) (by simpa using hlen) (fun o' ho'=>hg o' (by simp [ho'])) g4 g1 g2 g3
theorem ZjL {id:Nat} {ops:Array Oper} (hg:ops.all (gOk ops)=true) (h:vcL2 cx (ops.toList.map (gopOf ops)) Q A H):AC cx (.region id ops false) Q A H:=by
 intro S w a hs hf;refine wpIn_region (Zfo (Zmm ops.size) ops.toList A H S w a S H w ?_ (by simp) ?_ h (.refl _ _ _) hs hf)
 ·intro j;by_cases hj:j<ops.size
  ·rw [List.getElem?_range hj];simp
  ·rw [ZmS (by simpa using hj),ZmS (by simpa using hj)];rfl
 ·intro o ho;exact Array.all_eq_true_iff_forall_mem.1 hg o (by simpa using ho)
end
theorem Zht {P:Program} {ops:Array Oper} {l:List GOp}:Xw P ops ≠ .reg l:=by
 unfold Xw;dsimp only;split
 ·split
  ·intro h; cases h
  ·intro h; cases h
 ·intro h; cases h
theorem acx_reg2 {cx:Cx} {l:List GOp} {Q:APost} {A:AF} {H:AH} (h:vcL2 cx l Q A H):ACx cx (.reg l) Q A H:=by
 intro c hc;cases c with
 | region id ops draw =>
   simp only [ZM] at hc;split at hc
   ·exact absurd hc Zht
   ·rename_i hd;have hd':draw=false:=by simpa using hd
    subst hd';split at hc
    ·rename_i hg
     injection hc with hc
     subst hc;exact ZjL hg h
    ·cases hc
 | seq x y=>simp only [ZM] at hc; split at hc<;>cases hc
 | _=>simp only [ZM] at hc; cases hc
theorem acx_seqA {cx:Cx} {a b:ACode} {Q:APost} {K:AF→AH→Prop} {A:AF} {H:AH} (hK:∀ A H,K A H→ACx cx b Q A H) (h:ACx cx a (thenA K Q) A H):ACx cx (.seq a b) Q A H:=by
 intro c hc;cases c with
 | seq x y =>
   simp only [ZM] at hc;split at hc
   ·cases hc
   ·injection hc with h1 h2
    refine Zh4 ((h x h1).mono ?_);intro e A' H' hq;cases e with
    | normal=>exact hK A' H' hq y h2
    | _=>exact hq
 | region id ops draw =>
   simp only [ZM] at hc;split at hc
   ·exact absurd hc Zdg
   ·split at hc<;>cases hc
 | _=>simp only [ZM] at hc; cases hc
section
variable {cx:Cx} {Q:APost} {k:AF→AH→Prop} {A:AF} {H:AH} {d:Option Tmp} {op:Op} {l:List GOp}
@[congr] theorem guard2_congr {x x':VV} {want:Bool} (h:x=x'):Zgv x want cx d op k Q A H=Zgv x' want cx d op k Q A H:=by rw [h]
end
end Go.PV
end
section
open Nat renaming beq→Zmf
namespace Go.PV
inductive EV where
 | lit (v:Value)
 | ptr (k o:Nat)
 | sl (k o n:Nat) (c:Option Nat) (d:Nat)
 | es (k o d lo s:Nat)
 | map (k:Nat)
 | isl (ex:Bool) (n:Nat) (cs:List EV)
 | iptr (cs:List EV)
 | agg (cs:List EV)
 | tuple (cs:List EV)
 | func (f:FuncId) (first cap:List EV)
 | yield (k:Nat)
 | iface (t:TypeId) (x:EV)
instance:Inhabited EV:=⟨.lit undef⟩
structure Pay where
 r:Nat
 c:Nat:=0
 fn:FuncId:=0
 ca:Code:=.skip
 cb:Code:=.skip
 t:Nat→VV:=fun _=>Zx
abbrev Sg:=Nat→Option Pay
def Ext (σ σ':Sg):Prop:=∀ k p,σ k=some p→σ' k=some p
theorem Ext.refl (σ:Sg):Ext σ σ:=fun _ _ h=>h
theorem Ext.trans {σ σ' σ'':Sg} (h:Ext σ σ') (k:Ext σ' σ''):Ext σ σ'':=fun i p hp=>k i p (h i p hp)
mutual
def RV (σ:Sg):EV→VV→Prop
 | .lit v,x=>x=.lit v
 | .ptr k o,x=>∃ p,σ k=some p∧x=ptrV p.r o
 | .sl k o n c d,x=>∃ p,σ k=some p∧n≤c.getD p.c-d∧x=.lit (.slice (some ⟨p.r,o,none⟩) n (c.getD p.c-d))
 | .es k o d lo s,x=>∃ p,σ k=some p∧x=.lit (.slice (some ⟨p.r,if p.c-d=lo then o else o+lo * s,none⟩) 0 (p.c-d-lo))
 | .map k,x=>∃ p,σ k=some p∧x=.lit (.map (some p.r))
 | .isl ex n cs,x=>∃ ys,x=.slice ex n ys∧RVL σ cs ys
 | .iptr cs,x=>∃ ys,x=.iptr ys∧RVL σ cs ys
 | .agg cs,x=>∃ ys,x=.agg ys∧RVL σ cs ys
 | .tuple cs,x=>∃ ys,x=.tuple ys∧RVL σ cs ys
 | .func f a b,x=>∃ asg bs,x=.func (.func f) asg bs∧RVL σ a asg∧RVL σ b bs
 | .yield k,x=>∃ p,σ k=some p∧x=.lit (.func (.yield p.r) #[] #[])
 | .iface t v,x=>∃ y,x=.iface t y∧RV σ v y
def RVL (σ:Sg):List EV→List VV→Prop
 | [],ys=>ys=[]
 | v::vs,ys=>∃ y ys',ys=y::ys'∧RV σ v y∧RVL σ vs ys'
end
section
variable {σ σ':Sg}
mutual
theorem RV.mono (h:Ext σ σ'):∀ (v:EV) (x:VV),RV σ v x→RV σ' v x
 | .lit v,x,hx=>hx
 | .ptr k o,x,⟨p,hp,e⟩=>⟨p,h k p hp,e⟩
 | .sl k o n c d,x,⟨p,hp,e⟩=>⟨p,h k p hp,e⟩
 | .es k o d lo s,x,⟨p,hp,e⟩=>⟨p,h k p hp,e⟩
 | .map k,x,⟨p,hp,e⟩=>⟨p,h k p hp,e⟩
 | .isl ex n cs,x,⟨ys,e,hl⟩=>⟨ys,e,RVL.mono h cs ys hl⟩
 | .iptr cs,x,⟨ys,e,hl⟩=>⟨ys,e,RVL.mono h cs ys hl⟩
 | .agg cs,x,⟨ys,e,hl⟩=>⟨ys,e,RVL.mono h cs ys hl⟩
 | .tuple cs,x,⟨ys,e,hl⟩=>⟨ys,e,RVL.mono h cs ys hl⟩
 | .func f a b,x,⟨asg,bs,e,h1,h2⟩=>⟨asg,bs,e,RVL.mono h a asg h1,RVL.mono h b bs h2⟩
 | .yield k,x,⟨p,hp,e⟩=>⟨p,h k p hp,e⟩
 | .iface t v,x,⟨y,e,hv⟩=>⟨y,e,RV.mono h v y hv⟩
theorem RVL.mono (h:Ext σ σ'):∀ (vs:List EV) (xs:List VV),RVL σ vs xs→RVL σ' vs xs
 | [],xs,hx=>hx
 | v::vs,xs,⟨y,ys,e,h1,h2⟩=>⟨y,ys,e,RV.mono h v y h1,RVL.mono h vs ys h2⟩
end
mutual
theorem RV.fn (h:Ext σ σ'):∀ (v:EV) (x y:VV),RV σ v x→RV σ' v y→x=y
 | .lit v,x,y,hx,hy=>hx.trans hy.symm
 | .ptr k o,x,y,⟨p,hp,e⟩,⟨q,hq,e'⟩=>by rw [h k p hp] at hq; cases hq; rw [e,e']
 | .sl k o n c d,x,y,⟨p,hp,_,e⟩,⟨q,hq,_,e'⟩=>by rw [h k p hp] at hq; cases hq; rw [e,e']
 | .es k o d lo s,x,y,⟨p,hp,e⟩,⟨q,hq,e'⟩=>by rw [h k p hp] at hq; cases hq; rw [e,e']
 | .map k,x,y,⟨p,hp,e⟩,⟨q,hq,e'⟩=>by rw [h k p hp] at hq; cases hq; rw [e,e']
 | .isl ex n cs,x,y,⟨xs,e,hl⟩,⟨ys,e',hl'⟩=>by rw [e,e',RVL.fn h cs xs ys hl hl']
 | .iptr cs,x,y,⟨xs,e,hl⟩,⟨ys,e',hl'⟩=>by rw [e,e',RVL.fn h cs xs ys hl hl']
 | .agg cs,x,y,⟨xs,e,hl⟩,⟨ys,e',hl'⟩=>by rw [e,e',RVL.fn h cs xs ys hl hl']
 | .tuple cs,x,y,⟨xs,e,hl⟩,⟨ys,e',hl'⟩=>by rw [e,e',RVL.fn h cs xs ys hl hl']
 | .func f a b,x,y,⟨asg,bs,e,h1,h2⟩,⟨as',bs',e',h1',h2'⟩=>by rw [e,e',RVL.fn h a asg as' h1 h1',RVL.fn h b bs bs' h2 h2']
 | .yield k,x,y,⟨p,hp,e⟩,⟨q,hq,e'⟩=>by rw [h k p hp] at hq; cases hq; rw [e,e']
 | .iface t v,x,y,⟨a,e,hv⟩,⟨b,e',hv'⟩=>by rw [e,e',RV.fn h v a b hv hv']
theorem RVL.fn (h:Ext σ σ'):∀ (vs:List EV) (xs ys:List VV),RVL σ vs xs→RVL σ' vs ys→xs=ys
 | [],xs,ys,hx,hy=>Eq.trans (show xs=[] from hx) (show ys=[] from hy).symm
 | v::vs,xs,ys,⟨y,ys',e,h1,h2⟩,⟨z,zs',e',h1',h2'⟩=>by rw [e,e',RV.fn h v y z h1 h1',RVL.fn h vs ys' zs' h2 h2']
end
theorem RVL.length {vs:List EV}:∀ {xs:List VV},RVL σ vs xs→xs.length=vs.length:=by
 induction vs with
 | nil=>intro xs h; simp [RVL] at h; simp [h]
 | cons v vs ih =>
   intro xs h;obtain ⟨y,ys,rfl,_,h2⟩:=h;simp [ih h2]
theorem RVL.get? {vs:List EV}:∀ {xs:List VV} (i:Nat) (v:EV),RVL σ vs xs→vs[i]?=some v→∃ x,xs[i]?=some x∧RV σ v x:=by
 induction vs with
 | nil=>intro xs i v h hv; simp at hv
 | cons u us ih =>
   intro xs i v h hv;obtain ⟨y,ys,rfl,h1,h2⟩:=h;cases i with
   | zero=>simp at hv; subst hv; exact ⟨y,by simp,h1⟩
   | succ i=>simpa using ih i v h2 (by simpa using hv)
theorem RVL.append {vs us:List EV}:∀ {xs ys:List VV},RVL σ vs xs→RVL σ us ys→RVL σ (vs++us) (xs++ys):=by
 induction vs with
 | nil=>intro xs ys h1 h2; simp [RVL] at h1; subst h1; simpa using h2
 | cons v vs ih =>
   intro xs ys h1 h2;obtain ⟨y,ys',rfl,h3,h4⟩:=h1;exact ⟨y,ys'++ys,rfl,h3,ih h4 h2⟩
theorem RVL.take {vs:List EV}:∀ {xs:List VV} (n:Nat),RVL σ vs xs→RVL σ (vs.take n) (xs.take n):=by
 induction vs with
 | nil=>intro xs n h; simp [RVL] at h; subst h; simp [RVL]
 | cons v vs ih =>
   intro xs n h;obtain ⟨y,ys,rfl,h3,h4⟩:=h;cases n with
   | zero=>simp [RVL]
   | succ n=>exact ⟨y,ys.take n,by simp,h3,ih n h4⟩
theorem RVL.drop {vs:List EV}:∀ {xs:List VV} (n:Nat),RVL σ vs xs→RVL σ (vs.drop n) (xs.drop n):=by
 induction vs with
 | nil=>intro xs n h; simp [RVL] at h; subst h; simp [RVL]
 | cons v vs ih =>
   intro xs n h;obtain ⟨y,ys,rfl,h3,h4⟩:=h;cases n with
   | zero=>exact ⟨y,ys,rfl,h3,h4⟩
   | succ n=>simpa using ih n h4
theorem RVL.set {vs:List EV}:∀ {xs:List VV} (n:Nat) (v:EV) (x:VV),RVL σ vs xs→RV σ v x→RVL σ (vs.set n v) (xs.set n x):=by
 induction vs with
 | nil=>intro xs n v x h _; simp [RVL] at h; subst h; simp [RVL]
 | cons u us ih =>
   intro xs n v x h hx;obtain ⟨y,ys,rfl,h3,h4⟩:=h;cases n with
   | zero=>exact ⟨x,ys,rfl,hx,h4⟩
   | succ n=>exact ⟨y,ys.set n x,by simp,h3,ih n v x h4 hx⟩
theorem RVL.setAt {us:List EV}:∀ {ys:List VV} {vs:List EV} {xs:List VV} (o:Nat),RVL σ vs xs→RVL σ us ys→RVL σ (PV.setAt vs o us) (PV.setAt xs o ys):=by
 induction us with
 | nil=>intro ys vs xs o h1 h2; simp [RVL] at h2; subst h2; exact h1
 | cons u us ih =>
   intro ys vs xs o h1 h2;obtain ⟨y,ys',rfl,h3,h4⟩:=h2;exact ih (o+1) (h1.set o u y h3) h4
theorem RVL.lits (us:List Value):RVL σ (us.map .lit) (us.map .lit):=by
 induction us with
 | nil=>simp [RVL]
 | cons u us ih=>exact ⟨.lit u,us.map .lit,rfl,by simp [RV],ih⟩
end
def EV.cells:EV→List EV
 | .lit v=>v.cells.toList.map .lit
 | .agg cs=>cs
 | x=>[x]
def EV.one:EV→Bool
 | .lit v=>v.oneCell'
 | .agg _=>false
 | .tuple _=>false
 | _=>true
section
variable {σ:Sg}
theorem RV.cells {v:EV} {x:VV} (h:RV σ v x):RVL σ v.cells x.cells:=by
 cases v with
 | lit v=>obtain rfl:=h; exact RVL.lits _
 | ptr k o=>obtain ⟨p,hp,rfl⟩:=h; exact ⟨_,[],rfl,⟨p,hp,rfl⟩,rfl⟩
 | sl k o n c d=>obtain ⟨p,hp,hn,rfl⟩:=h; exact ⟨_,[],rfl,⟨p,hp,hn,rfl⟩,rfl⟩
 | es k o d lo s=>obtain ⟨p,hp,rfl⟩:=h; exact ⟨_,[],rfl,⟨p,hp,rfl⟩,rfl⟩
 | map k=>obtain ⟨p,hp,rfl⟩:=h; exact ⟨_,[],rfl,⟨p,hp,rfl⟩,rfl⟩
 | yield k=>obtain ⟨p,hp,rfl⟩:=h; exact ⟨_,[],rfl,⟨p,hp,rfl⟩,rfl⟩
 | isl ex n cs=>obtain ⟨ys,rfl,hl⟩:=h; exact ⟨_,[],rfl,⟨ys,rfl,hl⟩,rfl⟩
 | iptr cs=>obtain ⟨ys,rfl,hl⟩:=h; exact ⟨_,[],rfl,⟨ys,rfl,hl⟩,rfl⟩
 | agg cs=>obtain ⟨ys,rfl,hl⟩:=h; exact hl
 | tuple cs=>obtain ⟨ys,rfl,hl⟩:=h; exact ⟨_,[],rfl,⟨ys,rfl,hl⟩,rfl⟩
 | func f a b=>obtain ⟨asg,bs,rfl,h1,h2⟩:=h; exact ⟨_,[],rfl,⟨asg,bs,rfl,h1,h2⟩,rfl⟩
 | iface t v=>obtain ⟨y,rfl,hv⟩:=h; exact ⟨_,[],rfl,⟨y,rfl,hv⟩,rfl⟩
theorem RV.one {v:EV} {x:VV} (h:RV σ v x):v.one=x.one:=by
 cases v with
 | lit v=>obtain rfl:=h; rfl
 | ptr k o=>obtain ⟨p,hp,rfl⟩:=h; rfl
 | sl k o n c d=>obtain ⟨p,hp,_,rfl⟩:=h; rfl
 | es k o d lo s=>obtain ⟨p,hp,rfl⟩:=h; rfl
 | map k=>obtain ⟨p,hp,rfl⟩:=h; rfl
 | yield k=>obtain ⟨p,hp,rfl⟩:=h; rfl
 | isl ex n cs=>obtain ⟨ys,rfl,hl⟩:=h; rfl
 | iptr cs=>obtain ⟨ys,rfl,hl⟩:=h; rfl
 | agg cs=>obtain ⟨ys,rfl,hl⟩:=h; rfl
 | tuple cs=>obtain ⟨ys,rfl,hl⟩:=h; rfl
 | func f a b=>obtain ⟨asg,bs,rfl,h1,h2⟩:=h; rfl
 | iface t v=>obtain ⟨y,rfl,hv⟩:=h; rfl
theorem RVL.ones {vs:List EV}:∀ {xs:List VV},RVL σ vs xs→vs.all EV.one=xs.all VV.one:=by
 induction vs with
 | nil=>intro xs h; simp [RVL] at h; simp [h]
 | cons v vs ih =>
   intro xs h;obtain ⟨y,ys,rfl,h1,h2⟩:=h;simp [h1.one,ih h2]
end
inductive Tr (α:Type) where
 | lf
 | nd (v:Option α) (l r:Tr α)
def Tr.get {α:Type}:Tr α→Nat→Option α
 | .lf,_=>none
 | .nd v l r,k=>match k with
   | 0=>v
   | k+1=>cond (Zmf (k % 2) 0) (l.get (k / 2)) (r.get (k / 2))
def Tr.set {α:Type}:Nat→Tr α→Nat→α→Option (Tr α)
 | 0,_,_,_=>none
 | n+1,t,k,x=>match k with
   | 0=>match t with
     | .lf=>some (.nd (some x) .lf .lf)
     | .nd _ l r=>some (.nd (some x) l r)
   | k+1=>match t with
     | .lf=>cond (Zmf (k % 2) 0) (match Tr.set n .lf (k / 2) x with | some l=>some (.nd none l .lf) | none=>none) (match Tr.set n .lf (k / 2) x with | some r=>some (.nd none .lf r) | none=>none)
     | .nd v l r=>cond (Zmf (k % 2) 0) (match Tr.set n l (k / 2) x with | some l'=>some (.nd v l' r) | none=>none) (match Tr.set n r (k / 2) x with | some r'=>some (.nd v l r') | none=>none)
theorem beqF {n:Nat} (h:¬ n=0):Zmf n 0=false:=by
 cases n with
 | zero=>exact absurd rfl h
 | succ n=>rfl
theorem Tr.get_set {α:Type}:∀ (n:Nat) (t:Tr α) (k:Nat) (x:α) (t':Tr α),Tr.set n t k x=some t'→∀ j,t'.get j=if j=k then some x else t.get j
 | 0,t,k,x,t',h=>by simp [Tr.set] at h
 | n+1,t,k,x,t',h=>by
   intro j;cases k with
   | zero =>
     cases t with
     | lf =>
       simp only [Tr.set,Option.some.injEq] at h;subst h;cases j with
       | zero=>simp [Tr.get]
       | succ j=>simp [Tr.get]
     | nd v l r =>
       simp only [Tr.set,Option.some.injEq] at h;subst h;cases j with
       | zero=>simp [Tr.get]
       | succ j=>simp [Tr.get]
   | succ k =>
     have hk:∀ j,(j % 2=k % 2)→(j / 2=k / 2)→j=k:=fun j h1 h2=>by omega
     cases t with
     | lf =>
       simp only [Tr.set] at h;by_cases hp:k % 2=0
       ·simp only [hp,Nat.beq_refl,cond_true] at h;cases hs:Tr.set n .lf (k / 2) x with
        | none=>simp [hs] at h
        | some l =>
          simp only [hs,Option.some.injEq] at h;subst h;have ih:=Tr.get_set n _ _ _ _ hs;cases j with
          | zero=>simp [Tr.get]
          | succ j =>
            simp only [Tr.get,Nat.add_right_cancel_iff];by_cases hj:j % 2=0
            ·simp only [hj,Nat.beq_refl,cond_true,ih];by_cases e:j=k
             ·simp [e]
             ·have:j / 2 ≠ k / 2:=fun e'=>e (hk j (by omega) e')
              simp [e,this,Tr.get]
            ·have hb:Zmf (j % 2) 0=false:=beqF hj
             have:j ≠ k:=fun e=>hj (by rw [e,hp])
             simp [hb,this,Tr.get]
       ·have hb:Zmf (k % 2) 0=false:=beqF hp;simp only [hb,cond_false] at h;cases hs:Tr.set n .lf (k / 2) x with
        | none=>simp [hs] at h
        | some l =>
          simp only [hs,Option.some.injEq] at h;subst h;have ih:=Tr.get_set n _ _ _ _ hs;cases j with
          | zero=>simp [Tr.get]
          | succ j =>
            simp only [Tr.get,Nat.add_right_cancel_iff];by_cases hj:j % 2=0
            ·have:j ≠ k:=fun e=>hp (by rw [← e,hj])
             simp [hj,this,Tr.get]
            ·have hbj:Zmf (j % 2) 0=false:=beqF hj;simp only [hbj,cond_false,ih];by_cases e:j=k
             ·simp [e]
             ·have:j / 2 ≠ k / 2:=fun e'=>e (hk j (by omega) e')
              simp [e,this,Tr.get]
     | nd v l r =>
       simp only [Tr.set] at h;by_cases hp:k % 2=0
       ·simp only [hp,Nat.beq_refl,cond_true] at h;cases hs:Tr.set n l (k / 2) x with
        | none=>simp [hs] at h
        | some l' =>
          simp only [hs,Option.some.injEq] at h;subst h;have ih:=Tr.get_set n _ _ _ _ hs;cases j with
          | zero=>simp [Tr.get]
          | succ j =>
            simp only [Tr.get,Nat.add_right_cancel_iff];by_cases hj:j % 2=0
            ·simp only [hj,Nat.beq_refl,cond_true,ih];by_cases e:j=k
             ·simp [e]
             ·have:j / 2 ≠ k / 2:=fun e'=>e (hk j (by omega) e')
              simp [e,this]
            ·have hb:Zmf (j % 2) 0=false:=beqF hj
             have:j ≠ k:=fun e=>hj (by rw [e,hp])
             simp [hb,this]
       ·have hb:Zmf (k % 2) 0=false:=beqF hp;simp only [hb,cond_false] at h;cases hs:Tr.set n r (k / 2) x with
        | none=>simp [hs] at h
        | some l' =>
          simp only [hs,Option.some.injEq] at h;subst h;have ih:=Tr.get_set n _ _ _ _ hs;cases j with
          | zero=>simp [Tr.get]
          | succ j =>
            simp only [Tr.get,Nat.add_right_cancel_iff];by_cases hj:j % 2=0
            ·have:j ≠ k:=fun e=>hp (by rw [← e,hj])
             simp [hj,this]
            ·have hbj:Zmf (j % 2) 0=false:=beqF hj;simp only [hbj,cond_false,ih];by_cases e:j=k
             ·simp [e]
             ·have:j / 2 ≠ k / 2:=fun e'=>e (hk j (by omega) e')
              simp [e,this]
end Go.PV
end
section
open Nat renaming beq→Zmf,eq_of_beq_eq_true→Zmk,ble→Zmx,le_of_ble_eq_true→Zmt
namespace Go.PV
inductive EB where
 | cells (e:TypeId) (cs:List EV)
 | grown (e:TypeId) (s:Nat) (cs:List EV)
 | map (t:TypeId) (l:List (Value × EV))
 | loop (st:LoopState) (jump:Option (Option Nat)) (N:Nat) (t:Tr EV) (ps:Array Tmp) (asg bd:ACode) (r:Nat)
 | deferred
 | dead
def beqU:List UInt8→List UInt8→Bool
 | [],[]=>true
 | a::asg,b::bs=>cond (Zmf a.toNat b.toNat) (beqU asg bs) false
 | _,_=>false
theorem ZdC:∀ (a b:List UInt8),beqU a b=true↔a=b
 | [],[]=>by simp [beqU]
 | [],b::bs=>by simp [beqU]
 | a::asg,[]=>by simp [beqU]
 | a::asg,b::bs=>by
   simp only [beqU,List.cons.injEq];cases h:Zmf a.toNat b.toNat with
   | false =>
     have:a ≠ b:=fun e=>by rw [e,Nat.beq_refl] at h; cases h
     simp [this]
   | true =>
     have:a=b:=UInt8.toNat_inj.1 (Zmk h)
     simp [this,ZdC asg bs]
theorem toListB (a:ByteArray):a.toList=a.data.toList:=ByteArray.toList_eq a
def goodK:Value→Bool
 | .int _ _=>true
 | .string _=>true
 | .bool _=>true
 | _=>false
def Zgw:List Value→Bool
 | []=>true
 | v::vs=>cond (goodK v) (Zgw vs) false
def beqK:Value→Value→Bool
 | .int k a,.int k' b=>cond (decide (k=k')) (decide (a=b)) false
 | .string a,.string b=>beqU a.data.toList b.data.toList
 | .bool a,.bool b=>cond a b (!b)
 | _,_=>false
theorem ZdD {a b:Value} (ha:goodK a=true):beqK a b=true↔a=b:=by
 cases a with
 | int k n =>
   cases b<;>simp [beqK]
 | string s =>
   cases b<;>simp only [beqK]<;>try simp
   rename_i s';rw [ZdC]
   constructor
   ·intro h;cases s; cases s';simp only [ByteArray.mk.injEq];exact Array.toList_inj.1 h
   ·rintro rfl; rfl
 | bool p =>
   cases b<;>simp only [beqK]<;>try simp
   rename_i q;cases p<;>cases q<;>simp
 | _=>simp [goodK] at ha
def beqKL:List Value→List Value→Bool
 | [],[]=>true
 | a::asg,b::bs=>cond (beqK a b) (beqKL asg bs) false
 | _,_=>false
theorem Zeg:∀ {a b:List Value},Zgw a=true→(beqKL a b=true↔a=b)
 | [],[],_=>by simp [beqKL]
 | [],b::bs,_=>by simp [beqKL]
 | a::asg,[],_=>by simp [beqKL]
 | a::asg,b::bs,h=>by
   simp only [Zgw] at h;cases ha:goodK a with
   | false=>simp [ha] at h
   | true =>
     simp only [ha,cond_true] at h;simp only [beqKL,List.cons.injEq,← ZdD (b:=b) ha];cases hb:beqK a b with
     | false=>simp
     | true=>simp [Zeg h]
def ZdU:Value→Bool
 | .agg vs=>Zgw vs.toList
 | v=>goodK v
def ZcD:Value→Value→Bool
 | .agg a,.agg b=>beqKL a.toList b.toList
 | a,b=>beqK a b
theorem Zfp {a b:Value} (h:ZdU a=true):ZcD a b=true↔a=b:=by
 cases a with
 | agg vs =>
   cases b with
   | agg us =>
     simp only [ZcD,Zeg h,Value.agg.injEq];exact ⟨fun h=>Array.toList_inj.1 h,fun h=>by rw [h]⟩
   | _=>simp [ZcD,beqK]
 | int k n=>cases b<;>simp only [ZcD]<;>exact ZdD rfl
 | string k=>cases b<;>simp only [ZcD]<;>exact ZdD rfl
 | bool k=>cases b<;>simp only [ZcD]<;>exact ZdD rfl
 | _=>simp [ZdU,goodK] at h
def lookM:List (Value × EV)→Value→Option EV
 | [],_=>none
 | (k,v)::l,q=>cond (ZcD q k) (some v) (lookM l q)
def jumpC:Option (Option Nat)→Option Code
 | none=>none
 | some none=>some .ret
 | some (some id)=>some (.exit id)
def RVo (σ:Sg):Option EV→VV→Prop
 | some v,x=>RV σ v x
 | none,x=>x=Zx
def RM (σ:Sg) (l:List (Value × EV)) (m:Value→Option VV):Prop :=
 ∀ k,ZdU k=true→match lookM l k with
   | none=>m k=none
   | some v=>∃ x,m k=some x∧RV σ v x
def RB (P:Program) (σ:Sg) (p:Pay):EB→Blk→Prop
 | .cells e cs,B=>∃ ys,B=.cells e ys 0∧RVL σ cs ys
 | .grown e s cs,B=>∃ ys sp,B=.cells e ys sp∧RVL σ cs ys∧p.c * s=ys.length+sp∧p.c≤maxLen
 | .map t l,B=>∃ m,B=.map (ZW P t) m∧RM σ l m
 | .loop st j N t ps asg bd r,B=>∃ pe q,B=.loop st pe p.fn N p.t ps p.ca p.cb q.r∧σ r=some q∧(st ≠ .busy→pe=jumpC j)∧ZM P p.ca=asg∧ZM P p.cb=bd∧(P.funcs[p.fn]?).isSome=true∧∀ i,RVo σ (t.get i) (p.t i)
 | .deferred,B=>B=.obj (.deferred (some []))
 | .dead,_=>True
def EB.isDead:EB→Bool
 | .dead=>true
 | _=>false
def RBl (P:Program) (σ:Sg) (k:Nat) (b:EB) (H:AH):Prop:=b.isDead=true∨∃ p B,σ k=some p∧H p.r=some B∧RB P σ p b B
section
variable {P:Program} {σ σ':Sg} {H:AH}
theorem RVo.mono (h:Ext σ σ') {v:Option EV} {x:VV} (hx:RVo σ v x):RVo σ' v x:=by
 cases v with
 | none=>exact hx
 | some v=>exact RV.mono h v x hx
theorem RB.mono (h:Ext σ σ') {p:Pay} {b:EB} {B:Blk} (hb:RB P σ p b B):RB P σ' p b B:=by
 cases b with
 | cells e cs=>obtain ⟨ys,e1,h1⟩:=hb; exact ⟨ys,e1,RVL.mono h _ _ h1⟩
 | grown e s cs=>obtain ⟨ys,sp,e1,h1,h2⟩:=hb; exact ⟨ys,sp,e1,RVL.mono h _ _ h1,h2⟩
 | map t l =>
   obtain ⟨m,e1,h1⟩:=hb;refine ⟨m,e1,fun k hk=>?_⟩
   have:=h1 k hk
   split
   ·rename_i e; rw [e] at this; exact this
   ·rename_i v e; rw [e] at this; obtain ⟨x,g1,g2⟩:=this; exact ⟨x,g1,RV.mono h _ _ g2⟩
 | loop st j N t ps asg bd r =>
   obtain ⟨pe,q,e1,h1,h2,h3,h4,h5,h6⟩:=hb;exact ⟨pe,q,e1,h _ _ h1,h2,h3,h4,h5,fun i=>(h6 i).mono h⟩
 | deferred=>exact hb
 | dead=>trivial
theorem RBl.mono (h:Ext σ σ') {k:Nat} {b:EB} (hb:RBl P σ k b H):RBl P σ' k b H:=by
 rcases hb with hb | ⟨p,B,h1,h2,h3⟩
 ·exact .inl hb
 ·exact .inr ⟨p,B,h _ _ h1,h2,h3.mono h⟩
theorem RB.fn (h:Ext σ σ') {p:Pay} {b:EB} {B B':Blk} (hc:(∃ e cs,b=.cells e cs)∨∃ e s cs,b=.grown e s cs) (hb:RB P σ p b B) (hb':RB P σ' p b B'):B=B':=by
 rcases hc with ⟨e,cs,rfl⟩ | ⟨e,s,cs,rfl⟩
 ·obtain ⟨ys,rfl,h1⟩:=hb;obtain ⟨zs,rfl,h2⟩:=hb';rw [RVL.fn h _ _ _ h1 h2]
 ·obtain ⟨ys,sp,rfl,h1,h3,_⟩:=hb;obtain ⟨zs,sp',rfl,h2,h4,_⟩:=hb';obtain rfl:=RVL.fn h _ _ _ h1 h2
  have:sp=sp':=by omega
  rw [this]
end
def ldE (n:Nat) (ag:Bool) (cs:List EV):Option EV:=cond ag (cond (Zmx n cs.length) (some (.agg (cs.take n))) none) (match cs with | c::_=>some c | []=>none)
def partE (off n:Nat) (ag:Bool) (cs:List EV):Option EV:=cond ag (cond (Zmx (off+n) cs.length) (some (.agg ((cs.drop off).take n))) none) (match cs.drop off with | c::_=>some c | []=>none)
def fillE (pl:Nat→Option (Nat × Nat)) (cs:List EV):List (Nat × EV)→Option (List EV)
 | []=>some cs
 | (i,x)::rest =>
   match pl i with
   | none=>none
   | some (off,size)=>cond (cond (Zmf x.cells.length size) (Zmx (off+size) cs.length) false) (fillE pl (setAt cs off x.cells) rest) none
def RVP (σ:Sg):List (Nat × EV)→List (Nat × VV)→Prop
 | [],xs=>xs=[]
 | (i,v)::vs,xs=>∃ x xs',xs=(i,x)::xs'∧RV σ v x∧RVP σ vs xs'
section
variable {P:Program} {σ:Sg} {H:AH}
theorem Za2 {n:Nat} {ag:Bool} {cs:List EV} {ys:List VV} {v:EV} (hl:RVL σ cs ys) (h:ldE n ag cs=some v):∃ x,ldV n ag ys=some x∧RV σ v x:=by
 cases ag with
 | true =>
   simp only [ldE,cond_true] at h;cases hb:Zmx n cs.length with
   | false=>simp [hb] at h
   | true =>
     simp only [hb,cond_true,Option.some.injEq] at h;subst h
     have:n≤ys.length:=by rw [hl.length]; exact Zmt hb
     exact ⟨.agg (ys.take n),by simp [ldV,this],_,rfl,hl.take n⟩
 | false =>
   simp only [ldE,cond_false] at h;cases cs with
   | nil=>simp at h
   | cons c cs =>
     simp only [Option.some.injEq] at h;subst h;obtain ⟨y,ys',rfl,h1,_⟩:=hl;exact ⟨y,by simp [ldV],h1⟩
theorem Zez {off n:Nat} {ag:Bool} {cs:List EV} {ys:List VV} {v:EV} (hl:RVL σ cs ys) (h:partE off n ag cs=some v):∃ x,partV off n ag ys=some x∧RV σ v x:=by
 cases ag with
 | true =>
   simp only [partE,cond_true] at h;cases hb:Zmx (off+n) cs.length with
   | false=>simp [hb] at h
   | true =>
     simp only [hb,cond_true,Option.some.injEq] at h;subst h
     have:off+n≤ys.length:=by rw [hl.length]; exact Zmt hb
     exact ⟨.agg ((ys.drop off).take n),by simp [partV,this],_,rfl,(hl.drop off).take n⟩
 | false =>
   simp only [partE,cond_false] at h;have hd:=hl.drop off;cases hc:cs.drop off with
   | nil=>simp [hc] at h
   | cons c cs' =>
     simp only [hc,Option.some.injEq] at h;subst h;rw [hc] at hd;obtain ⟨y,ys',e,h1,_⟩:=hd;refine ⟨y,?_,h1⟩
     have:ys[off]?=some y:=by
      have:=List.getElem?_drop (xs:=ys) (i:=off) (j:=0)
      rw [e] at this;simpa using this.symm
     simp [partV,this]
theorem ZbT {pl:Nat→Option (Nat × Nat)}:∀ {ps:List (Nat × EV)} {us:List (Nat × VV)} {cs ds:List EV} {ys:List VV},RVP σ ps us→RVL σ cs ys→fillE pl cs ps=some ds→∃ zs,fillV pl ys us=some zs∧RVL σ ds zs
 | [],us,cs,ds,ys,hp,hl,h=>by
   simp only [RVP] at hp;subst hp;simp only [fillE,Option.some.injEq] at h;subst h;exact ⟨ys,rfl,hl⟩
 | (i,v)::ps,us,cs,ds,ys,hp,hl,h=>by
   obtain ⟨x,us',rfl,h1,h2⟩:=hp;simp only [fillE] at h;cases hpl:pl i with
   | none=>simp [hpl] at h
   | some q =>
     obtain ⟨off,size⟩:=q;simp only [hpl] at h;cases hb1:Zmf v.cells.length size with
     | false=>simp [hb1] at h
     | true =>
       cases hb2:Zmx (off+size) cs.length with
       | false=>simp [hb1,hb2] at h
       | true =>
         simp only [hb1,hb2,cond_true] at h;obtain ⟨zs,g1,g2⟩:=ZbT h2 (hl.setAt off h1.cells) h;refine ⟨zs,?_,g2⟩;have e1:x.cells.length=size:=by rw [h1.cells.length]; exact Zmk hb1
         have e2:off+size≤ys.length:=by rw [hl.length]; exact Zmt hb2
         simp only [fillV,hpl,e1,e2,and_self,if_true];exact g1
theorem RVP.map {ev:Operand→EV} {f:Operand→VV} (h:∀ o,RV σ (ev o) (f o)):∀ (l:List (Nat × Operand)),RVP σ (l.map fun p=>(p.1,ev p.2)) (l.map fun p=>(p.1,f p.2))
 | []=>rfl
 | p::l=>⟨f p.2,_,rfl,h p.2,RVP.map h l⟩
theorem RVL.map {ev:Operand→EV} {f:Operand→VV} (h:∀ o,RV σ (ev o) (f o)):∀ (l:List Operand),RVL σ (l.map ev) (l.map f)
 | []=>rfl
 | p::l=>⟨f p,_,rfl,h p,RVL.map h l⟩
end
end Go.PV
end
section
open Nat renaming ble→Zmx,beq→Zmf,le_of_ble_eq_true→Zmt,eq_of_beq_eq_true→Zmk
namespace Go.PV
def undK (P:Program) (t:TypeId):Nat :=
 match P.underlying t with
 | some .bool=>1
 | some (.slice _)=>2
 | some (.pointer _)=>3
 | some (.interface _)=>4
 | some (.map _ _)=>5
 | some (.func _ _ _)=>6
 | some .string=>7
 | some (.int _)=>8
 | some _=>9
 | none=>0
def eqK (x y:EV):Option (Nat × Bool) :=
 match y with
 | .lit (.bool q)=>(match x with | .lit (.bool p)=>some (1,cond p q (!q)) | _=>none)
 | .lit (.slice none 0 0)=>(match x with | .isl _ n _=>cond (Zmx 1 n) (some (2,false)) none | .sl _ _ _ _ _=>some (2,false) | .es _ _ _ _ _=>some (2,false) | .lit (.slice none 0 0)=>some (2,true) | _=>none)
 | .lit (.pointer none)=>(match x with | .ptr _ _=>some (3,false) | .iptr _=>some (3,false) | .lit (.pointer none)=>some (3,true) | _=>none)
 | .lit .nilIface=>(match x with | .iface _ _=>some (4,false) | .lit .nilIface=>some (4,true) | _=>none)
 | .lit (.map none)=>(match x with | .map _=>some (5,false) | .lit (.map none)=>some (5,true) | _=>none)
 | .lit .nilFunc=>(match x with | .func _ _ _=>some (6,false) | .yield _=>some (6,false) | .lit .nilFunc=>some (6,true) | .lit (.func _ _ _)=>some (6,false) | _=>none)
 | _=>none
def eqE (P:Program) (t:TypeId) (ox oy:Operand) (x y:EV):Option Bool :=
 match eqK x y with
 | some (n,b)=>cond (Zmf (undK P t) n) (cond (cond (Wk ox) true (cond (Wk oy) true (Zmf n 1))) (some b) none) none
 | none=>none
def binE (P:Program) (op:BinOp) (t:TypeId) (ox oy:Operand) (x y:EV):Option EV :=
 match x,y with
 | .lit (.int k a),.lit (.int k' b)=>(match binV op (.int k a) (.int k' b) with | some r=>some (.lit r) | none=>none)
 | .lit (.string a),.lit (.string b) =>
   (match op with
    | .eql=>some (.lit (.bool (beqU a.data.toList b.data.toList)))
    | .neq=>some (.lit (.bool (!(beqU a.data.toList b.data.toList))))
    | .lss=>some (.lit (.bool (Op.bytesLess a.data.toList b.data.toList)))
    | .leq=>some (.lit (.bool (Op.bytesLess a.data.toList b.data.toList || beqU a.data.toList b.data.toList)))
    | .gtr=>some (.lit (.bool (!(Op.bytesLess a.data.toList b.data.toList || beqU a.data.toList b.data.toList))))
    | .geq=>some (.lit (.bool (!(Op.bytesLess a.data.toList b.data.toList))))
    | _=>none)
 | x,y =>
   match op with
   | .eql=>(match eqE P t ox oy x y with | some b=>some (.lit (.bool b)) | none=>none)
   | .neq=>(match eqE P t ox oy x y with | some b=>some (.lit (.bool (!b))) | none=>none)
   | _=>none
section
variable {P:Program} {σ:Sg} {H:AH} {K:VE→AH→Prop}
theorem Zci (P:Program) (t:TypeId) :
 (undK P t=1→P.underlying t=some .bool)∧(undK P t=2→∃ e,P.underlying t=some (.slice e))∧(undK P t=3→∃ e,P.underlying t=some (.pointer e)) ∧
 (undK P t=4→∃ e,P.underlying t=some (.interface e))∧(undK P t=5→∃ k e,P.underlying t=some (.map k e))∧(undK P t=6→∃ a b c,P.underlying t=some (.func a b c)) ∧
 (undK P t=7→P.underlying t=some .string):=by
 unfold undK
 split<;>rename_i h<;>refine ⟨?_,?_,?_,?_,?_,?_,?_⟩<;>intro e<;>first | (exact absurd e (by decide)) | exact h | exact ⟨_,h⟩ | exact ⟨_,_,h⟩ | exact ⟨_,_,_,h⟩
theorem Zlq {t:TypeId} {x y:EV} {x' y':VV} {n:Nat} {b:Bool} (hx:RV σ x x') (hy:RV σ y y') (h:eqK x y=some (n,b)) (hn:undK P t=n) :
 eqOk P t x' y'∧(n=1→P.underlying t=some .bool)∧∀ c,eqOut P t x' y' c→c=b:=by
 have hu:=Zci P t;unfold eqK at h;split at h
 ·obtain rfl:=hy;split at h
  ·rename_i q _ p;obtain rfl:=hx;simp only [Option.some.injEq,Prod.mk.injEq] at h;obtain ⟨rfl,rfl⟩:=h;refine ⟨hu.1 hn,fun _=>hu.1 hn,fun c hc=>?_⟩;simp only [eqOut] at hc;rw [hc];cases p<;>cases q<;>rfl
  ·cases h
 ·obtain rfl:=hy;split at h
  ·rename_i ex m cs;obtain ⟨ys,rfl,_⟩:=hx;cases hb:Zmx 1 m with
   | false=>simp [hb] at h
   | true =>
     simp only [hb,cond_true,Option.some.injEq,Prod.mk.injEq] at h;obtain ⟨rfl,rfl⟩:=h
     have:=Zmt hb
     exact ⟨hu.2.1 hn,fun h=>(by cases h),fun c hc=>hc (by omega)⟩
  ·obtain ⟨p,_,_,rfl⟩:=hx;simp only [Option.some.injEq,Prod.mk.injEq] at h;obtain ⟨rfl,rfl⟩:=h;exact ⟨hu.2.1 hn,fun h=>(by cases h),fun c hc=>hc⟩
  ·obtain ⟨p,_,rfl⟩:=hx;simp only [Option.some.injEq,Prod.mk.injEq] at h;obtain ⟨rfl,rfl⟩:=h;exact ⟨hu.2.1 hn,fun h=>(by cases h),fun c hc=>hc⟩
  ·obtain rfl:=hx;simp only [Option.some.injEq,Prod.mk.injEq] at h;obtain ⟨rfl,rfl⟩:=h;exact ⟨hu.2.1 hn,fun h=>(by cases h),fun c hc=>hc⟩
  ·cases h
 ·obtain rfl:=hy;split at h
  ·obtain ⟨p,_,rfl⟩:=hx;simp only [Option.some.injEq,Prod.mk.injEq] at h;obtain ⟨rfl,rfl⟩:=h;exact ⟨hu.2.2.1 hn,fun h=>(by cases h),fun c hc=>hc⟩
  ·obtain ⟨ys,rfl,_⟩:=hx;simp only [Option.some.injEq,Prod.mk.injEq] at h;obtain ⟨rfl,rfl⟩:=h;exact ⟨hu.2.2.1 hn,fun h=>(by cases h),fun c hc=>hc⟩
  ·obtain rfl:=hx;simp only [Option.some.injEq,Prod.mk.injEq] at h;obtain ⟨rfl,rfl⟩:=h;exact ⟨hu.2.2.1 hn,fun h=>(by cases h),fun c hc=>hc⟩
  ·cases h
 ·obtain rfl:=hy;split at h
  ·obtain ⟨y,rfl,_⟩:=hx;simp only [Option.some.injEq,Prod.mk.injEq] at h;obtain ⟨rfl,rfl⟩:=h;exact ⟨hu.2.2.2.1 hn,fun h=>(by cases h),fun c hc=>hc⟩
  ·obtain rfl:=hx;simp only [Option.some.injEq,Prod.mk.injEq] at h;obtain ⟨rfl,rfl⟩:=h;exact ⟨hu.2.2.2.1 hn,fun h=>(by cases h),fun c hc=>hc⟩
  ·cases h
 ·obtain rfl:=hy;split at h
  ·obtain ⟨p,_,rfl⟩:=hx;simp only [Option.some.injEq,Prod.mk.injEq] at h;obtain ⟨rfl,rfl⟩:=h;exact ⟨hu.2.2.2.2.1 hn,fun h=>(by cases h),fun c hc=>hc⟩
  ·obtain rfl:=hx;simp only [Option.some.injEq,Prod.mk.injEq] at h;obtain ⟨rfl,rfl⟩:=h;exact ⟨hu.2.2.2.2.1 hn,fun h=>(by cases h),fun c hc=>hc⟩
  ·cases h
 ·obtain rfl:=hy;split at h
  ·obtain ⟨asg,bs,rfl,_⟩:=hx;simp only [Option.some.injEq,Prod.mk.injEq] at h;obtain ⟨rfl,rfl⟩:=h;exact ⟨hu.2.2.2.2.2.1 hn,fun h=>(by cases h),fun c hc=>hc⟩
  ·obtain ⟨p,_,rfl⟩:=hx;simp only [Option.some.injEq,Prod.mk.injEq] at h;obtain ⟨rfl,rfl⟩:=h;exact ⟨hu.2.2.2.2.2.1 hn,fun h=>(by cases h),fun c hc=>hc⟩
  ·obtain rfl:=hx;simp only [Option.some.injEq,Prod.mk.injEq] at h;obtain ⟨rfl,rfl⟩:=h;exact ⟨hu.2.2.2.2.2.1 hn,fun h=>(by cases h),fun c hc=>hc⟩
  ·obtain rfl:=hx;simp only [Option.some.injEq,Prod.mk.injEq] at h;obtain ⟨rfl,rfl⟩:=h;exact ⟨hu.2.2.2.2.2.1 hn,fun h=>(by cases h),fun c hc=>hc⟩
  ·cases h
 ·cases h
theorem ZcE {t:TypeId} {x y:VV} (h:eqOk P t x y):Xl y=none:=by
 unfold eqOk at h;split at h<;>first | rfl | exact h.elim
theorem Zlr {t:TypeId} {ox oy:Operand} {x y:EV} {x' y':VV} {b:Bool} (hx:RV σ x x') (hy:RV σ y y') (h:eqE P t ox oy x y=some b) :
 eqOk P t x' y'∧(Wk ox=true∨Wk oy=true∨P.underlying t=some .bool)∧∀ c,eqOut P t x' y' c→c=b:=by
 unfold eqE at h;split at h
 ·rename_i n b' hk;cases hn:Zmf (undK P t) n with
  | false=>simp [hn] at h
  | true =>
    have hn':=Zmk hn;simp only [hn,cond_true] at h;obtain ⟨g1,g2,g3⟩:=Zlq (P:=P) (t:=t) hx hy hk hn';cases h1:Wk ox with
    | true=>simp only [h1,cond_true,Option.some.injEq] at h; subst h; exact ⟨g1,.inl rfl,g3⟩
    | false =>
      cases h2:Wk oy with
      | true=>simp only [h1,h2,cond_true,cond_false,Option.some.injEq] at h; subst h; exact ⟨g1,.inr (.inl rfl),g3⟩
      | false =>
        simp only [h1,h2,cond_false] at h;cases h3:Zmf n 1 with
        | false=>simp [h3] at h
        | true=>simp only [h3,cond_true,Option.some.injEq] at h; subst h; exact ⟨g1,.inr (.inr (g2 (Zmk h3))),g3⟩
 ·cases h
theorem strEq (a b:ByteArray):(a.data.toList == b.data.toList)=beqU a.data.toList b.data.toList:=by
 rw [Bool.eq_iff_iff,ZdC]; simp
theorem ZjM {op:BinOp} {t:TypeId} {ox oy:Operand} {x y:EV} {x' y':VV} {v:EV} (hx:RV σ x x') (hy:RV σ y y') (h:binE P op t ox oy x y=some v) (hK:∀ z,RV σ v z→K (.ret z) H):vcBin P op t ox oy x' y' H K:=by
 unfold binE at h;split at h
 ·obtain rfl:=hx; obtain rfl:=hy;split at h
  ·rename_i r hr;simp only [Option.some.injEq] at h;subst h;simp only [vcBin,hr];exact hK _ rfl
  ·cases h
 ·obtain rfl:=hx; obtain rfl:=hy;split at h
  all_goals first
   | (cases h; done)
   | (simp only [Option.some.injEq] at h; subst h; simp only [vcBin,binV,toListB,strEq]; exact hK _ rfl)
 ·rename_i n1 n2;have key:∀ b,eqE P t ox oy x y=some b→eqOk P t x' y'∧(Wk ox=true∨Wk oy=true∨P.underlying t=some .bool)∧(∀ c,eqOut P t x' y' c→c=b):=fun b hb=>Zlr hx hy hb
  split at h
  ·split at h
   ·rename_i b hb;obtain ⟨g1,g2,g3⟩:=key b hb;have hl:=ZcE g1;simp only [Option.some.injEq] at h;subst h;unfold vcBin;split
    ·exact g1.elim
    ·exact g1.elim
    ·dsimp only;rw [hl];split
     ·rename_i e; cases e
     ·exact ⟨g1,g2,fun c hc=>by rw [g3 c hc]; exact hK _ rfl⟩
   ·cases h
  ·split at h
   ·rename_i b hb;obtain ⟨g1,g2,g3⟩:=key b hb;have hl:=ZcE g1;simp only [Option.some.injEq] at h;subst h;unfold vcBin;split
    ·exact g1.elim
    ·exact g1.elim
    ·dsimp only;rw [hl];split
     ·rename_i e; cases e
     ·exact ⟨g1,g2,fun c hc=>by rw [g3 c hc]; exact hK _ rfl⟩
   ·cases h
  ·cases h
end
def unE (op:UnOp) (x:EV):Option EV :=
 match x with
 | .lit v=>(match unV op v with | some r=>some (.lit r) | none=>none)
 | _=>none
def convE (P:Program) (s d:TypeId) (x:EV):Option EV :=
 match x with
 | .lit (.int _ n)=>(match P.underlying s with | some _=>(match P.underlying d with | some (.int k)=>some (.lit (.int k (k.wrap n))) | _=>none) | none=>none)
 | .lit (.string b)=>(match P.underlying s with
   | some _=>(match P.underlying d with
     | some .string=>some (.lit (.string b))
     | some (.slice e)=>(match P.underlying e with
       | some (.int .u8)=>some (.isl false b.data.size (b.data.toList.map fun c=>.lit (.int .u8 (c.toNat:Int))))
       | _=>none)
     | _=>none)
   | none=>none)
 | _=>none
def nilE (x:EV):Option EV :=
 match x with
 | .iptr cs=>some (.iptr cs)
 | .ptr k o=>some (.ptr k o)
 | .lit (.func (.func f) a b)=>some (.lit (.func (.func f) a b))
 | .yield k=>some (.yield k)
 | .func f a b=>some (.func f a b)
 | _=>none
def Zc1 (P:Program) (s:TypeId) (a:EV) (f:Nat):Option EV :=
 match flT P s f with
 | some (off,n,_)=>cond (Zmf n 0) none (match a with | .iptr cs=>some (.iptr (cs.drop off)) | .ptr k o=>some (.ptr k (o+off)) | _=>none)
 | none=>none
def Zkm (P:Program) (s:TypeId) (x:EV) (f:Nat):Option EV :=
 match flT P s f with
 | some (off,n,ag)=>(match x with | .agg cs=>partE off n ag cs | .lit (.agg vs)=>partE off n ag (vs.toList.map .lit) | _=>none)
 | none=>none
def inB (j:Int) (n:Nat):Bool:=cond (decide (0≤j)) (decide (j<(n:Int))) false
def Zc2 (P:Program) (t:TypeId) (a i:EV):Option EV :=
 match i with
 | .lit (.int _ j) =>
   (match elT P t with
    | some (_,k,_)=>(match a with
      | .isl _ n cs=>cond (inB j n) (some (.iptr (cs.drop (j.toNat * k)))) none
      | .sl q o n _ _=>cond (inB j n) (some (.ptr q (o+j.toNat * k))) none
      | _=>none)
    | none=>(match arT P t with
      | some (n,_,k)=>(match a with
        | .iptr cs=>cond (inB j n) (some (.iptr (cs.drop (j.toNat * k)))) none
        | .ptr q o=>cond (inB j n) (some (.ptr q (o+j.toNat * k))) none
        | _=>none)
      | none=>none))
 | _=>none
def loadE (P:Program) (get:Nat→Option EB) (t:TypeId) (a:EV):Option EV :=
 match ldT P t with
 | some (n,ag)=>(match a with
   | .iptr cs=>ldE n ag cs
   | .ptr k o=>(match get k with
     | some (.cells _ cs)=>ldE n ag (cs.drop o)
     | some (.grown _ _ cs)=>ldE n ag (cs.drop o)
     | _=>none)
   | _=>none)
 | none=>none
section
variable {P:Program} {σ:Sg} {H:AH} {K:VE→AH→Prop}
theorem Zls {op:UnOp} {x:EV} {x':VV} {v:EV} (hx:RV σ x x') (h:unE op x=some v) (hK:∀ z,RV σ v z→K (.ret z) H):vcUn op x' H K:=by
 unfold unE at h;split at h
 ·obtain rfl:=hx;split at h
  ·rename_i r hr;simp only [Option.some.injEq] at h;subst h;simp only [vcUn,hr];exact hK _ rfl
  ·cases h
 ·cases h
theorem Ziy {s d:TypeId} {x:EV} {x':VV} {v:EV} (hx:RV σ x x') (h:convE P s d x=some v) (hK:∀ z,RV σ v z→K (.ret z) H):Zai P s d x' H K:=by
 unfold convE at h;split at h
 ·obtain rfl:=hx;split at h
  ·rename_i s' h1;split at h
   ·rename_i k h2;simp only [Option.some.injEq] at h;subst h;exact ⟨k,s',h1,h2,hK _ rfl⟩
   ·cases h
  ·cases h
 ·rename_i b;obtain rfl:=hx;split at h
  ·rename_i s' h1;split at h
   ·rename_i h2;simp only [Option.some.injEq] at h;subst h;simp only [Zai,h2];exact ⟨s',h1,hK _ rfl⟩
   ·rename_i e h2;split at h
    ·rename_i h4;simp only [Option.some.injEq] at h;subst h;simp only [Zai,h2];refine ⟨s',h1,h4,hK _ ⟨_,rfl,?_⟩⟩
     have:=RVL.lits (σ:=σ) (b.data.toList.map fun c=>Value.int .u8 (c.toNat:Int))
     simpa [Function.comp_def] using this
    ·cases h
   ·cases h
  ·cases h
 ·cases h
theorem ZjN {x:EV} {x':VV} {v:EV} (hx:RV σ x x') (h:nilE x=some v) (hK:∀ z,RV σ v z→K (.ret z) H):vcNil x' H K:=by
 unfold nilE at h;split at h<;>first | (cases h; done) | skip
 ·simp only [Option.some.injEq] at h; subst h;have h2:=hx;obtain ⟨ys,rfl,_⟩:=hx;exact hK _ h2
 ·simp only [Option.some.injEq] at h; subst h;have h2:=hx;obtain ⟨p,_,rfl⟩:=hx;exact hK _ h2
 ·simp only [Option.some.injEq] at h; subst h;obtain rfl:=hx;exact hK _ rfl
 ·simp only [Option.some.injEq] at h; subst h;have h2:=hx;obtain ⟨p,_,rfl⟩:=hx;exact hK _ h2
 ·simp only [Option.some.injEq] at h; subst h;have h2:=hx;obtain ⟨asg,bs,rfl,_⟩:=hx;exact hK _ h2
theorem ZdV {s:TypeId} {f:Nat} {a:EV} {a':VV} {v:EV} (ha:RV σ a a') (h:Zc1 P s a f=some v) (hK:∀ z,RV σ v z→K (.ret z) H):YF P s a' f H K:=by
 unfold Zc1 at h;split at h
 ·rename_i off n ag hf;cases hb:Zmf n 0 with
  | true=>simp [hb] at h
  | false =>
    have hn:n ≠ 0:=fun e=>by rw [e] at hb; cases hb
    simp only [hb,cond_false] at h;split at h
    ·simp only [Option.some.injEq] at h; subst h;obtain ⟨ys,rfl,hl⟩:=ha;simp only [YF,hf];exact ⟨hn,hK _ ⟨_,rfl,hl.drop off⟩⟩
    ·simp only [Option.some.injEq] at h; subst h;obtain ⟨p,hp,rfl⟩:=ha;simp only [YF,hf,ptrV];exact ⟨hn,hK _ ⟨p,hp,rfl⟩⟩
    ·cases h
 ·cases h
theorem Zhu {s:TypeId} {f:Nat} {a:EV} {a':VV} {v:EV} (ha:RV σ a a') (h:Zkm P s a f=some v) (hK:∀ z,RV σ v z→K (.ret z) H):JT P s a' f H K:=by
 unfold Zkm at h;split at h
 ·rename_i off n ag hf;split at h
  ·obtain ⟨ys,rfl,hl⟩:=ha;obtain ⟨x,h1,h2⟩:=Zez hl h;simp only [JT,hf,h1];exact hK _ h2
  ·rename_i vs;obtain rfl:=ha;obtain ⟨x,h1,h2⟩:=Zez (RVL.lits (σ:=σ) vs.toList) h;simp only [JT,hf,h1];exact hK _ h2
  ·cases h
 ·cases h
theorem ZdE {j:Int} {n:Nat} (h:inB j n=true):0≤j∧j<(n:Int):=by
 unfold inB at h;by_cases h1:0≤j
 ·simp only [h1,decide_true,cond_true,decide_eq_true_eq] at h; exact ⟨h1,h⟩
 ·simp [h1] at h
theorem ZdW {t:TypeId} {a i:EV} {a' i':VV} {v:EV} (ha:RV σ a a') (hi:RV σ i i') (h:Zc2 P t a i=some v) (hK:∀ z,RV σ v z→K (.ret z) H):Yu P t a' i' H K:=by
 unfold Zc2 at h;split at h
 ·rename_i kk j;obtain rfl:=hi;split at h
  ·rename_i e k b hel;split at h
   ·rename_i ex n cs;obtain ⟨ys,rfl,hl⟩:=ha;cases hb:inB j n with
    | false=>simp [hb] at h
    | true =>
      simp only [hb,cond_true,Option.some.injEq] at h;subst h;simp only [Yu,hel];exact ⟨ZdE hb,hK _ ⟨_,rfl,hl.drop _⟩⟩
   ·rename_i q o n c d;obtain ⟨p,hp,_,rfl⟩:=ha;cases hb:inB j n with
    | false=>simp [hb] at h
    | true =>
      simp only [hb,cond_true,Option.some.injEq] at h;subst h;simp only [Yu,hel];exact ⟨ZdE hb,hK _ ⟨p,hp,rfl⟩⟩
   ·cases h
  ·rename_i hel;split at h
   ·rename_i n e k har;split at h
    ·obtain ⟨ys,rfl,hl⟩:=ha;cases hb:inB j n with
     | false=>simp [hb] at h
     | true =>
       simp only [hb,cond_true,Option.some.injEq] at h;subst h;simp only [Yu,hel,har];exact ⟨ZdE hb,hK _ ⟨_,rfl,hl.drop _⟩⟩
    ·obtain ⟨p,hp,rfl⟩:=ha;cases hb:inB j n with
     | false=>simp [hb] at h
     | true =>
       simp only [hb,cond_true,Option.some.injEq] at h;subst h;simp only [Yu,hel,har,ptrV];exact ⟨ZdE hb,hK _ ⟨p,hp,rfl⟩⟩
    ·cases h
   ·cases h
 ·cases h
theorem Ziz {get:Nat→Option EB} {t:TypeId} {a:EV} {a':VV} {v:EV} (hg:∀ k b,get k=some b→RBl P σ k b H) (ha:RV σ a a') (h:loadE P get t a=some v) (hK:∀ z,RV σ v z→K (.ret z) H):Wa P t a' H K:=by
 unfold loadE at h;split at h
 ·rename_i n ag hl;split at h
  ·obtain ⟨ys,rfl,hc⟩:=ha;obtain ⟨x,h1,h2⟩:=Za2 hc h;simp only [Wa,hl,h1];exact hK _ h2
  ·rename_i k o;obtain ⟨p,hp,rfl⟩:=ha;split at h
   ·rename_i e cs hb;rcases hg k _ hb with hd | ⟨q,B,g1,g2,g3⟩
    ·cases hd
    ·rw [hp] at g1; cases g1;obtain ⟨ys,rfl,hc⟩:=g3;obtain ⟨x,h1,h2⟩:=Za2 (hc.drop o) h;simp only [Wa,hl,ptrV,g2,h1];exact hK _ h2
   ·rename_i e s cs hb;rcases hg k _ hb with hd | ⟨q,B,g1,g2,g3⟩
    ·cases hd
    ·rw [hp] at g1; cases g1;obtain ⟨ys,sp,rfl,hc,_⟩:=g3;obtain ⟨x,h1,h2⟩:=Za2 (hc.drop o) h;simp only [Wa,hl,ptrV,g2,h1];exact hK _ h2
   ·cases h
  ·cases h
 ·cases h
end
end Go.PV
end
section
open List renaming replicate→ZmH,map_cons→Zmd,map_nil→Zmg
open Nat renaming ble→Zmx,beq→Zmf,le_of_ble_eq_true→Zmt,eq_of_beq_eq_true→Zmk,le_refl→Zmc
namespace Go.PV
def Zkn (P:Program) (t:TypeId) (ps:List (Nat × EV)):Option EV :=
 match stT P t with
 | some (zs,pl)=>(match fillE (fun i=>pl[i]?) (zs.map .lit) ps with | some cs=>some (.agg cs) | none=>none)
 | none=>none
def ZbU (P:Program) (t:TypeId) (len:Nat) (ps:List (Nat × EV)):Option EV :=
 match elT P t with
 | some (e,k,_)=>(match zeroT P e with
   | some zs=>cond (cond (Zmx (len * k) 16777216) (Zmf zs.length k) false)
      (match fillE (fun i=>some (i * k,k)) ((ZmH len zs).flatten.map .lit) ps with | some cs=>some (.isl true len cs) | none=>none) none
   | none=>none)
 | none=>none
def idxE (x:Option EV) (d:Nat):Option Nat :=
 match x with
 | none=>some d
 | some (.lit (.int _ j))=>cond (decide (0≤j)) (some j.toNat) none
 | _=>none
def Zko (P:Program) (t:TypeId) (x:EV) (lo hi mx:Option EV):Option EV :=
 match x with
 | .isl ex n cs =>
   (match elT P t,idxE lo 0,idxE hi n,idxE mx n with
    | some (_,k,_),some l,some h,some m=>cond (cond (cond mx.isSome hi.isSome true) (cond (Zmx l h) (cond (Zmx h m) (Zmx m n) false) false) false)
       (some (.isl (cond mx.isSome (Zmf m h) (cond ex (Zmf h n) false)) (h-l) (cs.drop (l * k)))) none
    | _,_,_,_=>none)
 | .lit (.slice none 0 0) =>
   (match elT P t,idxE lo 0,idxE hi 0,idxE mx 0 with
    | some (_,k,_),some l,some h,some m=>cond (cond (cond mx.isSome hi.isSome true) (cond (Zmx l h) (cond (Zmx h m) (Zmx m 0) false) false) false) (some (.lit (.slice none 0 0))) none
    | _,_,_,_=>none)
 | .sl q o n c d =>
   (match elT P t,idxE lo 0,idxE hi n with
    | some (_,k,_),some l,some h=>cond (cond (Zmx l h) (Zmx h n) false)
       (match mx with
        | some m=>(match idxE (some m) 0 with
          | some m=>cond (cond hi.isSome (cond (Zmx h m) (Zmx m n) false) false) (some (.sl q (cond (Zmf m l) o (o+l * k)) (h-l) (some (m-l)) 0)) none
          | none=>none)
        | none=>(match c with
          | some c=>some (.sl q (cond (Zmf (c-d) l) o (o+l * k)) (h-l) (some (c-d-l)) 0)
          | none=>cond (Zmf l 0) (some (.sl q o h none d)) (cond (Zmf l h) (some (.es q o d l k)) (some (.sl q (o+l * k) (h-l) none (d+l)))))) none
    | _,_,_=>none)
 | .lit (.string s) =>
   (match mx,idxE lo 0,idxE hi s.size with
    | none,some l,some h=>cond (cond (Zmf (undK P t) 7) (cond (Zmx l h) (Zmx h s.size) false) false) (some (.lit (.string (s.extract l h)))) none
    | _,_,_=>none)
 | _=>none
def lenE (P:Program) (t:TypeId) (x:EV):Option EV :=
 match x with
 | .isl _ n _=>(match elT P t with | some _=>some (.lit (.int .i64 (n:Int))) | none=>none)
 | .sl _ _ n _ _=>(match elT P t with | some _=>some (.lit (.int .i64 (n:Int))) | none=>none)
 | .es _ _ _ _ _=>(match elT P t with | some _=>some (.lit (.int .i64 0)) | none=>none)
 | .lit (.slice _ n _)=>(match elT P t with | some _=>some (.lit (.int .i64 (n:Int))) | none=>none)
 | .lit (.string s)=>cond (Zmf (undK P t) 7) (some (.lit (.int .i64 (s.data.size:Int)))) none
 | _=>none
def ZfU (x:EV) (i:Nat):Option EV :=
 match x with
 | .tuple cs=>(match cs.drop i with | c::_=>some c | []=>none)
 | _=>none
def okE (ok:Bool) (x:EV) (b:Bool):EV:=cond ok (.tuple [x,.lit (.bool b)]) x
def ZhN (P:Program) (x:EV) (t:TypeId) (ok:Bool):Option EV :=
 cond (Za6 P t) (match x with
  | .iface u y=>cond (Zmf u t) (some (okE ok y true)) (cond ok (match zeroV P t with | some z=>some (okE ok (.lit z) false) | none=>none) none)
  | .lit .nilIface=>cond ok (match zeroV P t with | some z=>some (okE ok (.lit z) false) | none=>none) none
  | _=>none) none
def Zkp (P:Program) (t:TypeId) (x i:EV):Option EV :=
 match x,i with
 | .lit (.string s),.lit (.int _ j)=>cond (cond (Zmf (undK P t) 7) (decide (0≤j)) false) (match s.data.toList[j.toNat]? with | some b=>some (.lit (.int .u8 (b.toNat:Int))) | none=>none) none
 | _,_=>none
section
variable {P:Program} {σ:Sg} {H:AH} {K:VE→AH→Prop}
theorem Zhv {t:TypeId} {ps:List (Nat × EV)} {us:List (Nat × VV)} {v:EV} (hp:RVP σ ps us) (h:Zkn P t ps=some v) (hK:∀ z,RV σ v z→K (.ret z) H):ZT P t us H K:=by
 unfold Zkn at h;split at h
 ·rename_i zs pl hst;split at h
  ·rename_i cs hf;simp only [Option.some.injEq] at h; subst h;obtain ⟨ys,g1,g2⟩:=ZbT hp (RVL.lits zs) hf;simp only [ZT,hst,g1];exact hK _ ⟨ys,rfl,g2⟩
  ·cases h
 ·cases h
theorem Zc9 {t:TypeId} {len:Nat} {ps:List (Nat × EV)} {us:List (Nat × VV)} {v:EV} (hp:RVP σ ps us) (h:ZbU P t len ps=some v) (hK:∀ z,RV σ v z→K (.ret z) H):ZB P t len us H K:=by
 unfold ZbU at h;split at h
 ·rename_i e k b hel;split at h
  ·rename_i zs hz;cases h1:Zmx (len * k) 16777216 with
   | false=>simp [h1] at h
   | true =>
     cases h2:Zmf zs.length k with
     | false=>simp [h1,h2] at h
     | true =>
       simp only [h1,h2,cond_true] at h;split at h
       ·rename_i cs hf;simp only [Option.some.injEq] at h; subst h;obtain ⟨ys,g1,g2⟩:=ZbT hp (RVL.lits _) hf;simp only [ZB,hel,hz,g1];exact ⟨⟨Zmt h1,Zmk h2⟩,hK _ ⟨ys,rfl,g2⟩⟩
       ·cases h
  ·cases h
 ·cases h
def RVO (σ:Sg):Option EV→Option VV→Prop
 | none,x=>x=none
 | some v,x=>∃ y,x=some y∧RV σ v y
theorem RVO.map {ev:Operand→EV} {f:Operand→VV} (h:∀ o,RV σ (ev o) (f o)) (o:Option Operand):RVO σ (o.map ev) (o.map f):=by
 cases o with
 | none=>rfl
 | some o=>exact ⟨_,rfl,h o⟩
theorem XX {x:Option EV} {y:Option VV} {d n:Nat} (hx:RVO σ x y) (h:idxE x d=some n):idxOk y∧idxV y d=n∧(y=none↔x=none):=by
 unfold idxE at h;split at h
 ·simp only [Option.some.injEq] at h; subst h;obtain rfl:=hx;exact ⟨trivial,rfl,by simp⟩
 ·rename_i k j;obtain ⟨y,rfl,hy⟩:=hx;obtain rfl:=hy;by_cases hj:0≤j
  ·simp only [hj,decide_true,cond_true,Option.some.injEq] at h;exact ⟨hj,h,by simp⟩
  ·simp [hj] at h
 ·cases h
theorem Zlt (m:EV) (d d':Nat):idxE (some m) d=idxE (some m) d':=by
 cases m with
 | lit v=>cases v<;>rfl
 | _=>rfl
theorem natBeq (a b:Nat):Zmf a b=(a == b):=by
 cases h:Zmf a b with
 | true=>simp [Zmk h]
 | false =>
   have:a ≠ b:=fun e=>by rw [e,Nat.beq_refl] at h; cases h
   simp [this]
theorem cond3 {a b:Bool} (h:cond a b false=true):a=true∧b=true:=by cases a<;>simp_all
theorem condS {α:Type} {c:Bool} {x:Option α} {v:α} (h:cond c x none=some v):c=true∧x=some v:=by cases c<;>simp_all
theorem RVO.some {x:Option EV} {y:Option VV} (hx:RVO σ x y):x.isSome=y.isSome:=by
 cases x with
 | none=>obtain rfl:=hx; rfl
 | some v=>obtain ⟨y,rfl,_⟩:=hx; rfl
theorem Zhw {t:TypeId} {x:EV} {x':VV} {lo hi mx:Option EV} {lo' hi' mx':Option VV} {v:EV} (hx:RV σ x x') (h1:RVO σ lo lo') (h2:RVO σ hi hi') (h3:RVO σ mx mx')
 (h:Zko P t x lo hi mx=some v) (hK:∀ z,RV σ v z→K (.ret z) H):Xx P t x' lo' hi' mx' H K:=by
 have hmh:∀ {b:Bool},cond mx.isSome hi.isSome true=true→(mx' ≠ none→hi' ≠ none):=by
  intro _ hc hm hh;rw [h3.some,h2.some] at hc;subst hh;cases mx' with
  | none=>exact hm rfl
  | some m=>simp at hc
 unfold Zko at h;split at h
 ·rename_i ex n cs;obtain ⟨ys,rfl,hl⟩:=hx;split at h
  ·rename_i e k b l hh m hel e1 e2 e3;obtain ⟨a1,a2,a3⟩:=XX h1 e1;obtain ⟨b1,b2,b3⟩:=XX h2 e2;obtain ⟨c1,c2,c3⟩:=XX h3 e3;have hq:=condS h;clear h;obtain ⟨hc,h⟩:=hq;obtain ⟨hc1,hc⟩:=cond3 hc;obtain ⟨hc2,hc⟩:=cond3 hc;obtain ⟨hc3,hc4⟩:=cond3 hc;simp only [Option.some.injEq] at h; subst h;simp only [Xx,hel,a2,b2,c2];refine ⟨⟨a1,b1,c1,hmh (b:=true) hc1,by rw [a2,b2]; exact Zmt hc2,by rw [b2,c2]; exact Zmt hc3,by rw [c2]; exact Zmt hc4⟩,hK _ ⟨_,?_,hl.drop _⟩⟩;have hb:∀ a b:Nat,Zmf a b=(a == b):=natBeq;cases mx' with
   | none =>
     have:mx.isSome=false:=by rw [h3.some]; rfl
     simp only [this,cond_false];cases ex<;>simp [hb]
   | some m' =>
     have:mx.isSome=true:=by rw [h3.some]; rfl
     simp only [this,cond_true,hb]
  ·cases h
 ·obtain rfl:=hx;split at h
  ·rename_i e k b l hh m hel e1 e2 e3;obtain ⟨a1,a2,a3⟩:=XX h1 e1;obtain ⟨b1,b2,b3⟩:=XX h2 e2;obtain ⟨c1,c2,c3⟩:=XX h3 e3;have hq:=condS h;clear h;obtain ⟨hc,h⟩:=hq;obtain ⟨hc1,hc⟩:=cond3 hc;obtain ⟨hc2,hc⟩:=cond3 hc;obtain ⟨hc3,hc4⟩:=cond3 hc;simp only [Option.some.injEq] at h; subst h;simp only [Xx,hel];exact ⟨⟨a1,b1,c1,hmh (b:=true) hc1,by rw [a2,b2]; exact Zmt hc2,by rw [b2,c2]; exact Zmt hc3,by rw [c2]; exact Zmt hc4⟩,hK _ rfl⟩
  ·cases h
 ·rename_i q o n c d;obtain ⟨p,hp,hn,rfl⟩:=hx;split at h
  ·rename_i e k b l hh hel e1 e2;obtain ⟨a1,a2,a3⟩:=XX h1 e1;obtain ⟨b1,b2,b3⟩:=XX h2 e2;have hq:=condS h;clear h;obtain ⟨hc,h⟩:=hq;obtain ⟨hc2,hc3⟩:=cond3 hc;have hlh:=Zmt hc2;have hhn:=Zmt hc3;simp only [Xx,hel,a2,b2];split at h
   ·rename_i m;split at h
    ·rename_i m' e3;have e3':idxE (some m) (c.getD p.c-d)=some m':=(Zlt m _ 0).trans e3;obtain ⟨c1,c2,c3⟩:=XX h3 e3';have hq:=condS h;clear h;obtain ⟨hc,h⟩:=hq;obtain ⟨hc4,hc⟩:=cond3 hc;obtain ⟨hc5,hc6⟩:=cond3 hc;have hhm:=Zmt hc5;have hmn:=Zmt hc6;simp only [Option.some.injEq] at h; subst h;rw [c2];refine ⟨⟨a1,b1,c1,fun _=>?_,by rw [a2,b2]; exact hlh,by rw [b2,c2]; exact hhm,by rw [c2]; omega⟩,hK _ ⟨p,hp,?_,?_⟩⟩
     ·rw [h2.some] at hc4;intro e; rw [e] at hc4; cases hc4
     ·simp; omega
     ·simp only [Option.getD_some,Nat.sub_zero]
      have:(if m'=l then o else o+l * k)=cond (Zmf m' l) o (o+l * k):=by
       cases hb:Zmf m' l with
       | true=>rw [if_pos (Zmk hb)]; rfl
       | false=>rw [if_neg (fun e=>by rw [e,Nat.beq_refl] at hb; cases hb)]; rfl
      rw [this]
    ·cases h
   ·obtain rfl:=h3;have sok:Jc lo' hi' none n (c.getD p.c-d):=⟨a1,b1,trivial,fun h=>absurd rfl h,by rw [a2,b2]; exact hlh,by rw [b2]; show hh≤c.getD p.c-d; omega,Zmc _⟩
    have hbq:∀ a b:Nat,∀ u w:Nat,(if a=b then u else w)=cond (Zmf a b) u w:=by
     intro a b u w;cases hb:Zmf a b with
     | true=>rw [if_pos (Zmk hb)]; rfl
     | false=>rw [if_neg (fun e=>by rw [e,Nat.beq_refl] at hb; cases hb)]; rfl
    refine ⟨sok,?_⟩;show K (.ret (.lit (.slice (some ⟨p.r,if (c.getD p.c-d)=l then o else o+l * k,none⟩) (hh-l) ((c.getD p.c-d)-l)))) H;split at h
    ·rename_i c;simp only [Option.some.injEq] at h; subst h;simp only [Option.getD_some] at hn ⊢;refine hK _ ⟨p,hp,?_,?_⟩
     ·simp; omega
     ·simp only [Option.getD_some,Nat.sub_zero,hbq]
    ·simp only [Option.getD_none] at hn ⊢;cases hl0:Zmf l 0 with
     | true =>
       have:=Zmk hl0
       subst this;simp only [hl0,cond_true,Option.some.injEq] at h; subst h;refine hK _ ⟨p,hp,?_,?_⟩
       ·simp only [Option.getD_none]; omega
       ·simp
     | false =>
       simp only [hl0,cond_false] at h;cases hlh':Zmf l hh with
       | true =>
         have:=Zmk hlh'
         subst this;simp only [hlh',cond_true,Option.some.injEq] at h; subst h;refine hK _ ⟨p,hp,?_⟩;rw [Nat.sub_self]
       | false =>
         have hne:l ≠ hh:=fun e=>by rw [e,Nat.beq_refl] at hlh'; cases hlh'
         simp only [hlh',cond_false,Option.some.injEq] at h; subst h;refine hK _ ⟨p,hp,?_,?_⟩
         ·simp only [Option.getD_none]; omega
         ·rw [if_neg (by omega)];simp only [Option.getD_none,Nat.sub_sub]
  ·cases h
 ·rename_i s;obtain rfl:=hx;split at h
  ·rename_i l hh e1 e2;obtain rfl:=h3;obtain ⟨a1,a2,a3⟩:=XX h1 e1;obtain ⟨b1,b2,b3⟩:=XX h2 e2;have hq:=condS h;clear h;obtain ⟨hc,h⟩:=hq;obtain ⟨hc1,hc⟩:=cond3 hc;obtain ⟨hc2,hc3⟩:=cond3 hc;simp only [Option.some.injEq] at h; subst h;simp only [Xx,a2,b2];exact ⟨(Zci P t).2.2.2.2.2.2 (Zmk hc1),trivial,⟨a1,b1,trivial,fun h=>absurd rfl h,by rw [a2,b2]; exact Zmt hc2,by rw [b2]; exact Zmt hc3,Zmc _⟩,hK _ rfl⟩
  ·cases h
 ·cases h
theorem ZjO {t:TypeId} {x:EV} {x':VV} {v:EV} (hx:RV σ x x') (h:lenE P t x=some v) (hK:∀ z,RV σ v z→K (.ret z) H):vcLen P t x' H K:=by
 unfold lenE at h;split at h
 ·obtain ⟨ys,rfl,_⟩:=hx;split at h
  ·rename_i e; simp only [Option.some.injEq] at h; subst h; exact ⟨by rw [e]; simp,hK _ rfl⟩
  ·cases h
 ·obtain ⟨p,_,_,rfl⟩:=hx;split at h
  ·rename_i e; simp only [Option.some.injEq] at h; subst h; exact ⟨by rw [e]; simp,hK _ rfl⟩
  ·cases h
 ·obtain ⟨p,_,rfl⟩:=hx;split at h
  ·rename_i e; simp only [Option.some.injEq] at h; subst h; exact ⟨by rw [e]; simp,hK _ rfl⟩
  ·cases h
 ·obtain rfl:=hx;split at h
  ·rename_i e; simp only [Option.some.injEq] at h; subst h; exact ⟨by rw [e]; simp,hK _ rfl⟩
  ·cases h
 ·obtain rfl:=hx;have hq:=condS h;clear h;obtain ⟨hc,h⟩:=hq;simp only [Option.some.injEq] at h; subst h;exact ⟨(Zci P t).2.2.2.2.2.2 (Zmk hc),hK _ rfl⟩
 ·cases h
theorem Ze4 {x:EV} {x':VV} {i:Nat} {v:EV} (hx:RV σ x x') (h:ZfU x i=some v) (hK:∀ z,RV σ v z→K (.ret z) H):Yw x' i H K:=by
 unfold ZfU at h;split at h
 ·rename_i cs;obtain ⟨ys,rfl,hl⟩:=hx;have hd:=hl.drop i;split at h
  ·rename_i c cs' hc;simp only [Option.some.injEq] at h; subst h;rw [hc] at hd;obtain ⟨y,ys',e,hy,_⟩:=hd
   have:ys[i]?=some y:=by
    have:=List.getElem?_drop (xs:=ys) (i:=i) (j:=0)
    rw [e] at this;simpa using this.symm
   simp only [Yw,this];exact hK _ hy
  ·cases h
 ·cases h
theorem Zbf {ok:Bool} {v:EV} {x:VV} {b:Bool} (h:RV σ v x):RV σ (okE ok v b) (okV ok x b):=by
 cases ok with
 | false=>exact h
 | true=>exact ⟨_,rfl,x,_,rfl,h,_,[],rfl,rfl,rfl⟩
theorem Zgx {x:EV} {x':VV} {t:TypeId} {ok:Bool} {v:EV} (hx:RV σ x x') (h:ZhN P x t ok=some v) (hK:∀ z,RV σ v z→K (.ret z) H):Za7 P x' t ok H K:=by
 unfold ZhN at h;have hq:=condS h;clear h;obtain ⟨hc,h⟩:=hq;refine ⟨hc,?_⟩;split at h
 ·rename_i u y;obtain ⟨z,rfl,hz⟩:=hx;dsimp only;cases hb:Zmf u t with
  | true =>
    simp only [hb,cond_true,Option.some.injEq] at h; subst h;rw [if_pos (Zmk hb)];exact hK _ (Zbf hz)
  | false =>
    rw [if_neg (fun e=>by rw [e,Nat.beq_refl] at hb; cases hb)];simp only [hb,cond_false] at h;have hq:=condS h;clear h;obtain ⟨h1,h⟩:=hq;refine ⟨h1,?_⟩;split at h
    ·rename_i z' hz';simp only [Option.some.injEq] at h; subst h;simp only [hz'];exact hK _ (Zbf rfl)
    ·cases h
 ·obtain rfl:=hx;dsimp only;have hq:=condS h;clear h;obtain ⟨h1,h⟩:=hq;refine ⟨h1,?_⟩;split at h
  ·rename_i z' hz';simp only [Option.some.injEq] at h; subst h;simp only [hz'];exact hK _ (Zbf rfl)
  ·cases h
 ·cases h
theorem Zhx {t:TypeId} {x i:EV} {x' i':VV} {v:EV} (hx:RV σ x x') (hi:RV σ i i') (h:Zkp P t x i=some v) (hK:∀ z,RV σ v z→K (.ret z) H):Zcr P t x' i' H K:=by
 unfold Zkp at h;split at h
 ·obtain rfl:=hx;obtain rfl:=hi;have hq:=condS h;clear h;obtain ⟨hc,h⟩:=hq;obtain ⟨hc1,hc2⟩:=cond3 hc;split at h
  ·rename_i b hb;simp only [Option.some.injEq] at h; subst h;refine ⟨(Zci P t).2.2.2.2.2.2 (Zmk hc1),of_decide_eq_true hc2,?_⟩;simp only [hb];exact hK _ rfl
  ·cases h
 ·cases h
end
def maxE (a b:EV):Option EV :=
 match a,b with
 | .lit (.int k a),.lit (.int _ b)=>some (.lit (.int k (cond (decide (a<b)) b a)))
 | _,_=>none
def minE (a b:EV):Option EV :=
 match a,b with
 | .lit (.int k a),.lit (.int _ b)=>some (.lit (.int k (cond (decide (b<a)) b a)))
 | _,_=>none
def two? (l:List Operand):Option (Operand × Operand):=match l with | [a,b]=>some (a,b) | _=>none
def pureE (P:Program) (ev:Operand→EV) (get:Nat→Option EB) (op:Op):Option EV :=
 match op with
 | .move x=>some (ev x)
 | .assign x=>some (ev x)
 | .pick c a b=>(match ev c with | .lit (.bool t)=>some (cond t (ev a) (ev b)) | _=>none)
 | .build t ps=>Zkn P t (ps.toList.map fun p=>(p.1,ev p.2))
 | .buildSlice t len ps=>ZbU P t len (ps.toList.map fun p=>(p.1,ev p.2))
 | .load t a=>loadE P get t (ev a)
 | .nilCheck x=>nilE (ev x)
 | .binOp op t x y _=>binE P op t x y (ev x) (ev y)
 | .unOp op _ x=>unE op (ev x)
 | .convert s d x=>convE P s d (ev x)
 | .makeInterface t x=>cond (Za6 P t) (some (.iface t (ev x))) none
 | .makeFunc (.func f) first cap=>some (.func f (first.toList.map ev) (cap.toList.map ev))
 | .slice t x lo hi mx=>Zko P t (ev x) (lo.map ev) (hi.map ev) (mx.map ev)
 | .fieldAddr s x f=>Zc1 P s (ev x) f
 | .field s x f=>Zkm P s (ev x) f
 | .indexAddr t x i=>Zc2 P t (ev x) (ev i)
 | .index t x i=>Zkp P t (ev x) (ev i)
 | .typeAssert x _ t ok=>ZhN P (ev x) t ok
 | .extract x i=>ZfU (ev x) i
 | .call { callee:=.builtin .len,args,argTypes }=>(match argTypes.toList,args.toList with | [t],[x]=>lenE P t (ev x) | _,_=>none)
 | .call { callee:=.builtin .max,args,.. }=>(match args.toList with | [x,y]=>maxE (ev x) (ev y) | _=>none)
 | .call { callee:=.builtin .min,args,.. }=>(match args.toList with | [x,y]=>minE (ev x) (ev y) | _=>none)
 | _=>none
theorem ZbV {cx:Cx} {A:AF} {σ:Sg} {H:AH} {K:VE→AH→Prop} {ev:Operand→EV} {get:Nat→Option EB} {op:Op} {v:EV} (hev:∀ o,RV σ (ev o) (A.eval o)) (hg:∀ k b,get k=some b→RBl cx.P σ k b H)
 (h:pureE cx.P ev get op=some v) (hK:∀ z,RV σ v z→K (.ret z) H):vcOp cx op A H K:=by
 unfold pureE at h;split at h
 ·simp only [Option.some.injEq] at h; subst h; exact hK _ (hev _)
 ·simp only [Option.some.injEq] at h; subst h; exact hK _ (hev _)
 ·rename_i c a b;split at h
  ·rename_i t ht;have hc:=hev c;rw [ht] at hc;have hc':A.eval c=.lit (.bool t):=hc;simp only [Option.some.injEq] at h; subst h;simp only [vcOp,hc'];cases t
   ·exact hK _ (hev b)
   ·exact hK _ (hev a)
  ·cases h
 ·exact Zhv (RVP.map hev _) h hK
 ·exact Zc9 (RVP.map hev _) h hK
 ·exact Ziz hg (hev _) h hK
 ·exact ZjN (hev _) h hK
 ·exact ZjM (hev _) (hev _) h hK
 ·exact Zls (hev _) h hK
 ·exact Ziy (hev _) h hK
 ·have hq:=condS h;clear h;obtain ⟨h1,h⟩:=hq;simp only [Option.some.injEq] at h; subst h;exact ⟨h1,hK _ ⟨_,rfl,hev _⟩⟩
 ·simp only [Option.some.injEq] at h; subst h;exact hK _ ⟨_,_,rfl,RVL.map hev _,RVL.map hev _⟩
 ·exact Zhw (hev _) (RVO.map hev _) (RVO.map hev _) (RVO.map hev _) h hK
 ·exact ZdV (hev _) h hK
 ·exact Zhu (hev _) h hK
 ·exact ZdW (hev _) (hev _) h hK
 ·exact Zhx (hev _) (hev _) h hK
 ·exact Zgx (hev _) h hK
 ·exact Ze4 (hev _) h hK
 ·rename_i args ats;split at h
  ·rename_i t x h1 h2;show YM cx.P .len ats.toList (args.toList.map A.eval) H K;rw [h1,h2];exact ZjO (hev x) h hK
  ·cases h
 ·rename_i args ats;split at h
  ·rename_i x y h2;show YM cx.P .max ats.toList (args.toList.map A.eval) H K;rw [h2,Zdx];have hx:=hev x;have hy:=hev y;unfold maxE at h;split at h
   ·rename_i k a k' b e1 e2;rw [e1] at hx;rw [e2] at hy;simp only [Option.some.injEq] at h; subst h;simp only [Zmd,Zmg,show A.eval x=_ from hx,show A.eval y=_ from hy,vcMax]
    have:(if b > a then b else a)=cond (decide (a<b)) b a:=by by_cases hab:a<b<;>simp [hab]
    rw [this];exact hK _ rfl
   ·cases h
  ·cases h
 ·rename_i args ats;split at h
  ·rename_i x y h2;show YM cx.P .min ats.toList (args.toList.map A.eval) H K;rw [h2,Zdy];have hx:=hev x;have hy:=hev y;unfold minE at h;split at h
   ·rename_i k a k' b e1 e2;rw [e1] at hx;rw [e2] at hy;simp only [Option.some.injEq] at h; subst h;simp only [Zmd,Zmg,show A.eval x=_ from hx,show A.eval y=_ from hy,vcMin]
    have:(if b<a then b else a)=cond (decide (b<a)) b a:=by by_cases hab:b<a<;>simp [hab]
    rw [this];exact hK _ rfl
   ·cases h
  ·cases h
 ·cases h
end Go.PV
end
section
open List renaming replicate→ZmH
open Nat renaming beq→Zmf,ble→Zmx,eq_of_beq_eq_true→Zmk,le_of_ble_eq_true→Zmt
namespace Go.PV
open Go.Maps
structure HR (P:Program) (σ:Sg) (h:Tr EB) (H:AH):Prop where
 blk:∀ k b,h.get k=some b→RBl P σ k b H
 inj:∀ k k' b b' p p',h.get k=some b→h.get k'=some b'→b.isDead=false→b'.isDead=false→σ k=some p→σ k'=some p'→p.r=p'.r→k=k'
 dom:∀ k,h.get k=none→σ k=none
def sgS (σ:Sg) (k:Nat) (p:Pay):Sg:=fun i=>if i=k then some p else σ i
theorem Zfq {σ:Sg} {k:Nat} {p:Pay} (h:σ k=none):Ext σ (sgS σ k p):=fun i q hq=>by
 unfold sgS;split
 ·rename_i e; rw [e,h] at hq; cases hq
 ·exact hq
theorem Ji (σ:Sg) (k:Nat) (p:Pay):sgS σ k p k=some p:=by simp [sgS]
def newB (h:Tr EB) (k:Nat) (b:EB):Option (Tr EB):=match h.get k with | none=>Tr.set 40 h k b | some _=>none
section
variable {P:Program} {σ:Sg} {h h':Tr EB} {H:AH}
theorem Zcj {k:Nat} {b:EB} (hn:newB h k b=some h'):h.get k=none∧Tr.set 40 h k b=some h':=by
 unfold newB at hn;split at hn
 ·rename_i e; exact ⟨e,hn⟩
 ·cases hn
theorem HR.new (hr:HR P σ h H) {k:Nat} {b:EB} {B:Blk} {p:Pay} (hn:newB h k b=some h') (hH:H p.r=none) (hb:RB P (sgS σ k p) p b B):Ext σ (sgS σ k p)∧HR P (sgS σ k p) h' (H.set p.r B):=by
 obtain ⟨hk,hs⟩:=Zcj hn;have hg:=Tr.get_set _ _ _ _ _ hs;have hx:Ext σ (sgS σ k p):=Zfq (hr.dom k hk)
 have hlive:∀ i b',h.get i=some b'→b'.isDead=false→∃ q,σ i=some q∧q.r ≠ p.r:=fun i b' hi hd=>by
  rcases hr.blk i b' hi with h1 | ⟨q,B',h1,h2,h3⟩
  ·rw [hd] at h1; cases h1
  ·exact ⟨q,h1,fun e=>by rw [e,hH] at h2; cases h2⟩
 refine ⟨hx,⟨fun i c hi=>?_,fun i j c d q q' hi hj hc hd hq hq' e=>?_,fun i hi=>?_⟩⟩
 ·rw [hg] at hi;split at hi
  ·rename_i e; subst e; cases hi;exact .inr ⟨p,B,Ji _ _ _,by simp [AH.set],hb⟩
  ·rcases hr.blk i c hi with h1 | ⟨q,B',h1,h2,h3⟩
   ·exact .inl h1
   ·refine .inr ⟨q,B',hx _ _ h1,?_,h3.mono hx⟩;rw [AH.set_ne]
    ·exact h2
    ·intro e; rw [e,hH] at h2; cases h2
 ·rw [hg] at hi hj;by_cases e1:i=k
  ·by_cases e2:j=k
   ·rw [e1,e2]
   ·rw [if_neg e2] at hj;obtain ⟨q2,g1,g2⟩:=hlive j d hj hd;rw [hx _ _ g1] at hq';cases hq';subst e1;rw [Ji] at hq;cases hq;exact absurd e.symm g2
  ·rw [if_neg e1] at hi;obtain ⟨q1,f1,f2⟩:=hlive i c hi hc;rw [hx _ _ f1] at hq;cases hq;by_cases e2:j=k
   ·subst e2;rw [Ji] at hq';cases hq';exact absurd e f2
   ·rw [if_neg e2] at hj;obtain ⟨q2,g1,g2⟩:=hlive j d hj hd;rw [hx _ _ g1] at hq';cases hq';exact hr.inj i j c d _ _ hi hj hc hd f1 g1 e
 ·rw [hg] at hi;split at hi
  ·cases hi
  ·rename_i e;unfold sgS;rw [if_neg e];exact hr.dom i hi
theorem HR.upd (hr:HR P σ h H) {k:Nat} {b b0:EB} {B:Blk} {p:Pay} (hk:h.get k=some b0) (hd:b0.isDead=false) (hp:σ k=some p) (hs:Tr.set 40 h k b=some h') (hb:RB P σ p b B):HR P σ h' (H.set p.r B):=by
 have hg:=Tr.get_set _ _ _ _ _ hs;refine ⟨fun i c hi=>?_,fun i j c d q q' hi hj hc hd' hq hq' e=>?_,fun i hi=>?_⟩
 ·rw [hg] at hi;split at hi
  ·rename_i e; subst e; cases hi;exact .inr ⟨p,B,hp,by simp [AH.set],hb⟩
  ·rename_i ne;cases hc:c.isDead with
   | true=>exact .inl hc
   | false =>
     rcases hr.blk i c hi with h1 | ⟨q,B',h1,h2,h3⟩
     ·exact .inl h1
     ·refine .inr ⟨q,B',h1,?_,h3⟩;rw [AH.set_ne]
      ·exact h2
      ·intro e; exact ne (hr.inj i k c b0 q p hi hk hc hd h1 hp e)
 ·rw [hg] at hi hj;by_cases e1:i=k
  ·by_cases e2:j=k
   ·rw [e1,e2]
   ·rw [if_neg e2] at hj;subst e1;exact hr.inj i j b0 d q q' hk hj hd hd' hq hq' e
  ·rw [if_neg e1] at hi;by_cases e2:j=k
   ·subst e2;exact hr.inj i j c b0 q q' hi hk hc hd hq hq' e
   ·rw [if_neg e2] at hj;exact hr.inj i j c d q q' hi hj hc hd' hq hq' e
 ·rw [hg] at hi;split at hi
  ·cases hi
  ·exact hr.dom i hi
theorem HR.kill (hr:HR P σ h H) {k:Nat} {b0:EB} {p:Pay} (hk:h.get k=some b0) (hd:b0.isDead=false) (hp:σ k=some p) (hs:Tr.set 40 h k .dead=some h'):HR P σ h' (H.del p.r):=by
 have hg:=Tr.get_set _ _ _ _ _ hs;refine ⟨fun i c hi=>?_,fun i j c d q q' hi hj hc hd' hq hq' e=>?_,fun i hi=>?_⟩
 ·rw [hg] at hi;split at hi
  ·cases hi; exact .inl rfl
  ·rename_i ne;cases hc:c.isDead with
   | true=>exact .inl hc
   | false =>
     rcases hr.blk i c hi with h1 | ⟨q,B',h1,h2,h3⟩
     ·exact .inl h1
     ·refine .inr ⟨q,B',h1,?_,h3⟩;rw [AH.del_ne]
      ·exact h2
      ·intro e; exact ne (hr.inj i k c b0 q p hi hk hc hd h1 hp e)
 ·rw [hg] at hi hj;by_cases e1:i=k
  ·rw [if_pos e1] at hi; cases hi; cases hc
  ·rw [if_neg e1] at hi;by_cases e2:j=k
   ·rw [if_pos e2] at hj; cases hj; cases hd'
   ·rw [if_neg e2] at hj;exact hr.inj i j c d q q' hi hj hc hd' hq hq' e
 ·rw [hg] at hi;split at hi
  ·cases hi
  ·exact hr.dom i hi
end
abbrev HE:=EV × Tr EB
def Zkq (P:Program) (nb:Nat) (e:TypeId) (h:Tr EB):Option HE :=
 match zeroT P e with
 | some zs=>(match newB h nb (.cells e (zs.map .lit)) with | some h'=>some (.ptr nb 0,h') | none=>none)
 | none=>none
def boxE (nb:Nat) (e:TypeId) (x:EV) (h:Tr EB):Option HE:=match newB h nb (.cells e x.cells) with | some h'=>some (.ptr nb 0,h') | none=>none
def Zkr (P:Program) (t:TypeId) (a x:EV) (h:Tr EB):Option HE :=
 match a with
 | .ptr k o=>(match szT P t with
   | some n=>cond (cond (Zmf n x.cells.length) (x.cells.all EV.one) false) (match h.get k with
     | some (.cells e cs)=>cond (Zmx (o+x.cells.length) cs.length) (match Tr.set 40 h k (.cells e (setAt cs o x.cells)) with | some h'=>some (.lit undef,h') | none=>none) none
     | some (.grown e s cs)=>cond (Zmx (o+x.cells.length) cs.length) (match Tr.set 40 h k (.grown e s (setAt cs o x.cells)) with | some h'=>some (.lit undef,h') | none=>none) none
     | _=>none) none
   | none=>none)
 | _=>none
def ZfV (nb:Nat) (t:TypeId) (h:Tr EB):Option HE:=match newB h nb (.map t []) with | some h'=>some (.map nb,h') | none=>none
def Zc3 (P:Program) (nb:Nat) (t:TypeId) (l c:EV) (h:Tr EB):Option HE :=
 match l,c with
 | .lit (.int _ l),.lit (.int _ c)=>(match elT P t with
   | some (e,k,b)=>(match zeroT P e with
     | some zs=>cond (cond (Zmf zs.length k) (cond (decide (0≤l)) (cond (decide (l≤c)) (cond (decide ((b:Int) * c≤281474976710656)) (decide (c≤9223372036854775807)) false) false) false) false)
        (match newB h nb (.cells e ((ZmH c.toNat zs).flatten.map .lit)) with | some h'=>some (.sl nb 0 l.toNat (some c.toNat) 0,h') | none=>none) none
     | none=>none)
   | none=>none)
 | _,_=>none
def litL:List EV→Option (List Value)
 | []=>some []
 | .lit v::l=>(match litL l with | some vs=>some (v::vs) | none=>none)
 | _=>none
def litE:EV→Option Value
 | .lit v=>some v
 | .agg cs=>(match litL cs with | some vs=>some (.agg vs.toArray) | none=>none)
 | _=>none
def Zfr (P:Program) (t:TypeId) (k:Value):Bool:=match P.underlying t with | some (.map kt _)=>(keyOf P kt k).isSome | _=>false
def ZhO (P:Program) (mt:TypeId→Option Value) (t:TypeId) (x key:EV) (ok:Bool) (h:Tr EB):Option EV :=
 match mt t,litE key with
 | some z,some kv=>cond (cond (ZdU kv) (Zfr P t kv) false) (match x with
   | .lit (.map none)=>some (okE ok (.lit z) false)
   | .map q=>(match h.get q with
     | some (.map t' l)=>cond (Zmf t' t) (match lookM l kv with | some v=>some (okE ok v true) | none=>some (okE ok (.lit z) false)) none
     | _=>none)
   | _=>none) none
 | _,_=>none
def Zfs (P:Program) (mt:TypeId→Option Value) (t:TypeId) (x key y:EV) (h:Tr EB):Option HE :=
 match mt t,litE key with
 | some _,some kv=>cond (cond (ZdU kv) (Zfr P t kv) false) (match x with
   | .map q=>(match h.get q with
     | some (.map t' l)=>cond (Zmf t' t) (match Tr.set 40 h q (.map t ((kv,y)::l)) with | some h'=>some (.lit undef,h') | none=>none) none
     | _=>none)
   | _=>none) none
 | _,_=>none
def srcE (h:Tr EB) (k:Nat):EV→Option (Nat × List EV)
 | .isl _ n cs=>cond (Zmx (n * k) cs.length) (some (n,cs.take (n * k))) none
 | .lit (.slice none 0 0)=>some (0,[])
 | .sl q o n _ _=>(match h.get q with
   | some (.cells _ cs)=>cond (Zmx (o+n * k) cs.length) (some (n,(cs.drop o).take (n * k))) none
   | some (.grown _ _ cs)=>cond (Zmx (o+n * k) cs.length) (some (n,(cs.drop o).take (n * k))) none
   | _=>none)
 | _=>none
def ZhP (P:Program) (nb:Nat) (t:TypeId) (s x:EV) (h:Tr EB):Option HE :=
 match elT P t with
 | some (e,k,b)=>(match zeroT P e with
   | some zs=>cond (cond (Zmf zs.length k) (Zmx 1 k) false) (match srcE h k x with
     | some (m,news)=>cond (news.all EV.one) (match s with
       | .lit (.slice none 0 0)=>cond (Zmf m 0) (some (s,h)) (cond (cond (Zmx (m * b) 140737488355328) (Zmx m 9223372036854775807) false)
          (match newB h nb (.grown e k news) with | some h'=>some (.sl nb 0 m none 0,h') | none=>none) none)
       | .isl true n cs=>cond (Zmf cs.length (n * k)) (cond (cond (Zmx ((n+m) * b) 140737488355328) (Zmx (n+m) 9223372036854775807) false) (cond (Zmf m 0) (some (s,h))
          (match newB h nb (.grown e k (cs++news)) with | some h'=>some (.sl nb 0 (n+m) none 0,h') | none=>none)) none) none
       | .sl q o n (some c) d=>cond (cond (Zmf (c-d) n) (cond (Zmx ((n+m) * b) 140737488355328) (Zmx (n+m) 9223372036854775807) false) false) (match srcE h k s with
          | some (_,cs)=>cond (Zmf m 0) (some (s,h)) (match newB h nb (.grown e k (cs++news)) with | some h'=>some (.sl nb 0 (n+m) none 0,h') | none=>none)
          | none=>none) none
       | .sl q o n none d=>(match h.get q with
          | some (.grown e' k' cs)=>cond (cond (Zmf o 0) (cond (Zmf d 0) (cond (Zmf e' e) (cond (Zmf k' k) (cond (Zmf cs.length (n * k)) (cond (Zmx ((n+m) * b) 140737488355328) (cond (Zmx (n+m) 9223372036854775807) (Zmx 1 (n+m)) false) false) false) false) false) false) false)
             (match Tr.set 40 h q .dead with
              | some h1=>(match newB h1 nb (.grown e k (cs++news)) with | some h'=>some (.sl nb 0 (n+m) none 0,h') | none=>none)
              | none=>none) none
          | _=>none)
       | _=>none) none
     | none=>none) none
   | none=>none)
 | none=>none
section
variable {P:Program} {σ:Sg} {h h':Tr EB} {H:AH} {K:VE→AH→Prop}
def EK (P:Program) (σ:Sg) (v:EV) (h':Tr EB) (K:VE→AH→Prop):Prop:=∀ σ' H' x,Ext σ σ'→HR P σ' h' H'→RV σ' v x→K (.ret x) H'
theorem Zhy {nb:Nat} {e:TypeId} {v:EV} (hr:HR P σ h H) (he:Zkq P nb e h=some (v,h')) (hK:EK P σ v h' K):ZaM P e H K:=by
 unfold Zkq at he;split at he
 ·rename_i zs hz;split at he
  ·rename_i h1 hn;simp only [Option.some.injEq,Prod.mk.injEq] at he;obtain ⟨rfl,rfl⟩:=he;simp only [ZaM,hz];intro r hH;obtain ⟨g1,g2⟩:=hr.new (p:={ r:=r }) hn hH (B:=.cells e (zs.map .lit) 0) ⟨_,rfl,RVL.lits zs⟩;exact hK _ _ _ g1 g2 ⟨_,Ji _ _ _,rfl⟩
  ·cases he
 ·cases he
theorem ZjP {nb:Nat} {e:TypeId} {x v:EV} {x':VV} (hr:HR P σ h H) (hx:RV σ x x') (he:boxE nb e x h=some (v,h')) (hK:EK P σ v h' K):vcBox e x' H K:=by
 unfold boxE at he;split at he
 ·rename_i h1 hn;simp only [Option.some.injEq,Prod.mk.injEq] at he;obtain ⟨rfl,rfl⟩:=he;intro r hH;obtain ⟨g1,g2⟩:=hr.new (p:={ r:=r }) hn hH (B:=.cells e x'.cells 0) ⟨_,rfl,RVL.mono (Zfq (hr.dom _ (Zcj hn).1)) _ _ hx.cells⟩;exact hK _ _ _ g1 g2 ⟨_,Ji _ _ _,rfl⟩
 ·cases he
theorem Zhz {t:TypeId} {a x v:EV} {a' x':VV} (hr:HR P σ h H) (ha:RV σ a a') (hx:RV σ x x') (he:Zkr P t a x h=some (v,h')) (hK:EK P σ v h' K):Jo P t a' x' H K:=by
 unfold Zkr at he;split at he
 ·rename_i k o;obtain ⟨p,hp,rfl⟩:=ha;split at he
  ·rename_i n hsz;have hq:=condS he;clear he;obtain ⟨hc,he⟩:=hq;obtain ⟨hc1,hc2⟩:=cond3 hc;have e1:szT P t=some x'.cells.length:=by rw [hsz,Zmk hc1,hx.cells.length]
   have e2:x'.cells.all VV.one=true:=by rw [← hx.cells.ones]; exact hc2
   split at he
   ·rename_i e cs hk;have hq:=condS he;clear he;obtain ⟨hc3,he⟩:=hq;have hle:=Zmt hc3;split at he
    ·rename_i h1 hs;simp only [Option.some.injEq,Prod.mk.injEq] at he;obtain ⟨rfl,rfl⟩:=he;rcases hr.blk k _ hk with hd | ⟨q,B,g1,g2,g3⟩
     ·cases hd
     ·rw [hp] at g1; cases g1;obtain ⟨ys,rfl,hl⟩:=g3;simp only [Jo,ptrV,g2];refine ⟨e1,e2,by rw [hx.cells.length,hl.length]; exact hle,hK _ _ _ (Ext.refl σ) (hr.upd hk rfl hp hs ⟨_,rfl,hl.setAt o hx.cells⟩) rfl⟩
    ·cases he
   ·rename_i e s cs hk;have hq:=condS he;clear he;obtain ⟨hc3,he⟩:=hq;have hle:=Zmt hc3;split at he
    ·rename_i h1 hs;simp only [Option.some.injEq,Prod.mk.injEq] at he;obtain ⟨rfl,rfl⟩:=he;rcases hr.blk k _ hk with hd | ⟨q,B,g1,g2,g3⟩
     ·cases hd
     ·rw [hp] at g1; cases g1;obtain ⟨ys,sp,rfl,hl,h3,h4⟩:=g3;simp only [Jo,ptrV,g2];refine ⟨e1,e2,by rw [hx.cells.length,hl.length]; exact hle,hK _ _ _ (Ext.refl σ) (hr.upd hk rfl hp hs ⟨_,sp,rfl,hl.setAt o hx.cells,by rw [Zac]; exact h3,h4⟩) rfl⟩
    ·cases he
   ·cases he
  ·cases he
 ·cases he
theorem Ze5 {nb:Nat} {t:TypeId} {v:EV} (hr:HR P σ h H) (he:ZfV nb t h=some (v,h')) (hK:EK P σ v h' K):ZaW P t H K:=by
 unfold ZfV at he;split at he
 ·rename_i h1 hn;simp only [Option.some.injEq,Prod.mk.injEq] at he;obtain ⟨rfl,rfl⟩:=he;intro r hH;obtain ⟨g1,g2⟩:=hr.new (p:={ r:=r }) hn hH (B:=.map (ZW P t) (fun _=>none)) ⟨_,rfl,fun k hk=>by simp [lookM]⟩;exact hK _ _ _ g1 g2 ⟨_,Ji _ _ _,rfl⟩
 ·cases he
theorem ZdX {nb:Nat} {t:TypeId} {l c v:EV} {l' c':VV} (hr:HR P σ h H) (hl:RV σ l l') (hc:RV σ c c') (he:Zc3 P nb t l c h=some (v,h')) (hK:EK P σ v h' K):Zcq P t l' c' H K:=by
 unfold Zc3 at he;split at he
 ·rename_i kl l kc c;obtain rfl:=hl;obtain rfl:=hc;split at he
  ·rename_i e k b hel;split at he
   ·rename_i zs hz;have hq:=condS he;clear he;obtain ⟨hc,he⟩:=hq;obtain ⟨hc1,hc⟩:=cond3 hc;obtain ⟨hc2,hc⟩:=cond3 hc;obtain ⟨hc3,hc⟩:=cond3 hc;obtain ⟨hc4,hc5⟩:=cond3 hc;split at he
    ·rename_i h1 hn;simp only [Option.some.injEq,Prod.mk.injEq] at he;obtain ⟨rfl,rfl⟩:=he;simp only [Zcq,hel,hz];have hlc:=of_decide_eq_true hc3;have hl0:=of_decide_eq_true hc2;refine ⟨Zmk hc1,hl0,hlc,of_decide_eq_true hc4,of_decide_eq_true hc5,fun r hH=>?_⟩;obtain ⟨g1,g2⟩:=hr.new (p:={ r:=r }) hn hH (B:=.cells e ((ZmH c.toNat zs).flatten.map .lit) 0) ⟨_,rfl,RVL.lits _⟩;exact hK _ _ _ g1 g2 ⟨_,Ji _ _ _,by simp; omega,rfl⟩
    ·cases he
   ·cases he
  ·cases he
 ·cases he
theorem Zg4:∀ {cs:List EV} {vs:List Value} {ys:List VV},litL cs=some vs→RVL σ cs ys→Xl (.agg ys)=some vs
 | [],vs,ys,h,hl=>by
   simp only [litL,Option.some.injEq] at h;subst h;simp only [RVL] at hl;subst hl;rfl
 | c::cs,vs,ys,h,hl=>by
   obtain ⟨y,ys',rfl,h1,h2⟩:=hl;cases c with
   | lit v =>
     obtain rfl:=h1;simp only [litL] at h;split at h
     ·rename_i us hu;simp only [Option.some.injEq] at h;subst h
      have:=Zg4 hu h2
      simp only [Xl,List.mapM_cons] at this ⊢;simp [this]
     ·cases h
   | _=>simp [litL] at h
theorem Zg5 {x:EV} {v:Value} {y:VV} (h:litE x=some v) (hx:RV σ x y):Za8 y=some v:=by
 cases x with
 | lit u=>obtain rfl:=hx; exact h
 | agg cs =>
   obtain ⟨ys,rfl,hl⟩:=hx;simp only [litE] at h;split at h
   ·rename_i vs hv;simp only [Option.some.injEq] at h;subst h;simp [Za8,Zg4 hv hl]
   ·cases h
 | _=>simp [litE] at h
theorem Zbm {t:TypeId} {k:Value} (h:Zfr P t k=true):ZW P t k:=by
 unfold Zfr at h;split at h
 ·rename_i kt et hu;obtain ⟨l,hl⟩:=Option.isSome_iff_exists.1 h;exact ⟨kt,et,l,hu,hl⟩
 ·cases h
theorem Zgy {mt:TypeId→Option Value} (hmt:∀ t z,mt t=some z→MapT P t z) {t:TypeId} {x key v:EV} {x' key':VV} {ok:Bool} (hr:HR P σ h H) (hx:RV σ x x') (hk:RV σ key key') (he:ZhO P mt t x key ok h=some v) (hK:∀ z,RV σ v z→K (.ret z) H) :
 XP P t x' key' ok H K:=by
 unfold ZhO at he;split at he
 ·rename_i z kv hz hkv;have hq:=condS he;clear he;obtain ⟨hc,he⟩:=hq;obtain ⟨hc1,hc2⟩:=cond3 hc;refine ⟨z,hmt t z hz,kv,Zg5 hkv hk,Zbm hc2,?_⟩;split at he
  ·obtain rfl:=hx;simp only [Option.some.injEq] at he;subst he;exact hK _ (Zbf rfl)
  ·rename_i q;obtain ⟨p,hp,rfl⟩:=hx;split at he
   ·rename_i t' l hq;have hqq:=condS he;clear he;obtain ⟨hc3,he⟩:=hqq;obtain rfl:=Zmk hc3;rcases hr.blk q _ hq with hd | ⟨q',B,g1,g2,g3⟩
    ·cases hd
    ·rw [hp] at g1; cases g1;obtain ⟨m,rfl,hm⟩:=g3;dsimp only;rw [g2];dsimp only;refine ⟨fun k h=>h,?_⟩;have hmk:=hm kv hc1;split at he
     ·rename_i w hw;rw [hw] at hmk;obtain ⟨y,e1,hy⟩:=hmk;simp only [Option.some.injEq] at he;subst he;rw [e1];exact hK _ (Zbf hy)
     ·rename_i hw;rw [hw] at hmk;simp only [Option.some.injEq] at he;subst he;rw [show m kv=none from hmk];exact hK _ (Zbf rfl)
   ·cases he
  ·cases he
 ·cases he
theorem ZcF {mt:TypeId→Option Value} (hmt:∀ t z,mt t=some z→MapT P t z) {t:TypeId} {x key y v:EV} {x' key' y':VV} (hr:HR P σ h H) (hx:RV σ x x') (hk:RV σ key key') (hy:RV σ y y') (he:Zfs P mt t x key y h=some (v,h')) (hK:EK P σ v h' K) :
 XY P t x' key' y' H K:=by
 unfold Zfs at he;split at he
 ·rename_i z kv hz hkv;have hq:=condS he;clear he;obtain ⟨hc,he⟩:=hq;obtain ⟨hc1,hc2⟩:=cond3 hc;refine ⟨z,hmt t z hz,kv,Zg5 hkv hk,Zbm hc2,?_⟩;split at he
  ·rename_i q;obtain ⟨p,hp,rfl⟩:=hx;split at he
   ·rename_i t' l hq;have hqq:=condS he;clear he;obtain ⟨hc3,he⟩:=hqq;obtain rfl:=Zmk hc3;split at he
    ·rename_i h1 hs;simp only [Option.some.injEq,Prod.mk.injEq] at he;obtain ⟨rfl,rfl⟩:=he;rcases hr.blk q _ hq with hd | ⟨q',B,g1,g2,g3⟩
     ·cases hd
     ·rw [hp] at g1; cases g1;obtain ⟨m,rfl,hm⟩:=g3;dsimp only;rw [g2];dsimp only;refine ⟨fun k h=>h,Zbm hc2,hK _ _ _ (Ext.refl σ) (hr.upd hq rfl hp hs ⟨_,rfl,fun k hk=>?_⟩) rfl⟩;simp only [lookM];cases hb:ZcD k kv with
      | true =>
        have:=(Zfp hk).1 hb
        subst this;simp only [cond_true];exact ⟨y',Wq _ _ _,hy⟩
      | false =>
        have:k ≠ kv:=fun e=>by rw [(Zfp hk).2 e] at hb; cases hb
        simp only [cond_false,Wu _ _ this];exact hm k hk
    ·cases he
   ·cases he
  ·cases he
 ·cases he
end
end Go.PV
end
section
open List renaming nil_append→ZmO
open Nat renaming le_of_ble_eq_true→Zmt,eq_of_beq_eq_true→Zmk,beq→Zmf,zero_add→Zmh
namespace Go.PV
section
variable {P:Program} {σ:Sg} {h h':Tr EB} {H H0:AH} {K:VE→AH→Prop}
theorem Zlu {k m:Nat} {x:EV} {x':VV} {news:List EV} (hr:HR P σ h H) (hx:RV σ x x') (he:srcE h k x=some (m,news)):∃ ys,srcV H k x'=some (m,ys)∧RVL σ news ys:=by
 unfold srcE at he;split at he
 ·rename_i ex n cs;obtain ⟨ys,rfl,hl⟩:=hx;have hq:=condS he;clear he;obtain ⟨hc,he⟩:=hq;simp only [Option.some.injEq,Prod.mk.injEq] at he;obtain ⟨rfl,rfl⟩:=he
  have:n * k≤ys.length:=by rw [hl.length]; exact Zmt hc
  exact ⟨ys.take (n * k),by simp [srcV,this],hl.take _⟩
 ·obtain rfl:=hx;simp only [Option.some.injEq,Prod.mk.injEq] at he;obtain ⟨rfl,rfl⟩:=he;exact ⟨[],rfl,rfl⟩
 ·rename_i q o n c d;obtain ⟨p,hp,hn,rfl⟩:=hx;split at he
  ·rename_i e cs hq;have hqq:=condS he;clear he;obtain ⟨hc,he⟩:=hqq;simp only [Option.some.injEq,Prod.mk.injEq] at he;obtain ⟨rfl,rfl⟩:=he;rcases hr.blk q _ hq with hd | ⟨q',B,g1,g2,g3⟩
   ·cases hd
   ·rw [hp] at g1; cases g1;obtain ⟨ys,rfl,hl⟩:=g3
    have:o+n * k≤ys.length:=by rw [hl.length]; exact Zmt hc
    exact ⟨(ys.drop o).take (n * k),by simp [srcV,g2,this],(hl.drop _).take _⟩
  ·rename_i e s cs hq;have hqq:=condS he;clear he;obtain ⟨hc,he⟩:=hqq;simp only [Option.some.injEq,Prod.mk.injEq] at he;obtain ⟨rfl,rfl⟩:=he;rcases hr.blk q _ hq with hd | ⟨q',B,g1,g2,g3⟩
   ·cases hd
   ·rw [hp] at g1; cases g1;obtain ⟨ys,sp,rfl,hl,_⟩:=g3
    have:o+n * k≤ys.length:=by rw [hl.length]; exact Zmt hc
    exact ⟨(ys.drop o).take (n * k),by simp [srcV,g2,this],(hl.drop _).take _⟩
  ·cases he
 ·cases he
theorem HR.own (hr:HR P σ h H0) {nb:Nat} {e:TypeId} {k N:Nat} {cs:List EV} {ys:List VV} {v':VV} {H':AH} (hn:newB h nb (.grown e k cs)=some h') (hl:RVL σ cs ys) (hN:N ≠ 0) (ho:OwnX H0 H' e k v' N ys) :
 ∃ σ',Ext σ σ'∧HR P σ' h' H'∧RV σ' (.sl nb 0 N none 0) v':=by
 rcases ho with ⟨_,h0,_⟩ | ⟨g,c,sp,rfl,h0,rfl,h1,h2,h3,h4⟩
 ·exact absurd h0 hN
 ·have hx:Ext σ (sgS σ nb { r:=g,c:=c }):=Zfq (hr.dom _ (Zcj hn).1);obtain ⟨g1,g2⟩:=hr.new (p:={ r:=g,c:=c }) hn h0 (B:=.cells e ys sp) ⟨ys,sp,rfl,RVL.mono hx _ _ hl,h2,h4⟩;exact ⟨_,g1,g2,_,Ji _ _ _,by simpa using h3,by simp⟩
theorem Zgz {nb:Nat} {t:TypeId} {s x v:EV} {s' x':VV} (hr:HR P σ h H) (hs:RV σ s s') (hx:RV σ x x') (he:ZhP P nb t s x h=some (v,h')) (hK:EK P σ v h' K):Jf P t s' x' H K:=by
 unfold ZhP at he;split at he
 ·rename_i e k b hel;split at he
  ·rename_i zs hz;have hq:=condS he;clear he;obtain ⟨hc,he⟩:=hq;obtain ⟨hc1,hc2⟩:=cond3 hc;have hzk:=Zmk hc1;have hk:0<k:=Zmt hc2;split at he
   ·rename_i m news hsrc;obtain ⟨ys,hys,hnl⟩:=Zlu hr hx hsrc;have hq:=condS he;clear he;obtain ⟨hone,he⟩:=hq;have hone':ys.all VV.one=true:=by rw [← hnl.ones]; exact hone
    split at he
    ·obtain rfl:=hs;cases hm:Zmf m 0 with
     | true =>
       have:=Zmk hm
       subst this;simp only [hm,cond_true,Option.some.injEq,Prod.mk.injEq] at he;obtain ⟨rfl,rfl⟩:=he;exact .inr (.inr ⟨e,k,b,zs,0,[],0,ys,hel,hz,hzk,hk,.inl ⟨rfl,rfl,rfl⟩,hys,hone',by omega,by omega,fun _=>hK _ _ _ (Ext.refl σ) hr rfl,fun h=>absurd rfl h⟩)
     | false =>
       have hm0:m ≠ 0:=fun e=>by rw [e] at hm; cases hm
       simp only [hm,cond_false] at he;have hq:=condS he;clear he;obtain ⟨hc,he⟩:=hq;obtain ⟨hc3,hc4⟩:=cond3 hc;split at he
       ·rename_i h1 hn;simp only [Option.some.injEq,Prod.mk.injEq] at he;obtain ⟨rfl,rfl⟩:=he;refine .inr (.inr ⟨e,k,b,zs,0,[],m,ys,hel,hz,hzk,hk,.inl ⟨rfl,rfl,rfl⟩,hys,hone',by rw [Zmh]; exact Zmt hc3,by rw [Zmh]; exact Zmt hc4,fun h=>absurd h hm0,fun _ v' H' ho=>?_⟩);rw [Zmh,ZmO] at ho;obtain ⟨σ',g1,g2,g3⟩:=hr.own hn hnl hm0 ho;exact hK _ _ _ g1 g2 g3
       ·cases he
    ·rename_i n cs;obtain ⟨zs',rfl,hcl⟩:=hs;have hq:=condS he;clear he;obtain ⟨hc5,he⟩:=hq;have hq:=condS he;clear he;obtain ⟨hc,he⟩:=hq;obtain ⟨hc3,hc4⟩:=cond3 hc;have hlen:zs'.length=n * k:=by rw [hcl.length]; exact Zmk hc5
     cases hm:Zmf m 0 with
     | true =>
       have:=Zmk hm
       subst this;simp only [hm,cond_true,Option.some.injEq,Prod.mk.injEq] at he;obtain ⟨rfl,rfl⟩:=he;exact .inr (.inl ⟨e,k,b,zs,n,zs',0,ys,hel,hz,hzk,hk,rfl,hlen,hys,hone',Zmt hc3,Zmt hc4,fun _=>hK _ _ _ (Ext.refl σ) hr ⟨_,rfl,hcl⟩,fun h=>absurd rfl h⟩)
     | false =>
       have hm0:m ≠ 0:=fun e=>by rw [e] at hm; cases hm
       simp only [hm,cond_false] at he;split at he
       ·rename_i h1 hn;simp only [Option.some.injEq,Prod.mk.injEq] at he;obtain ⟨rfl,rfl⟩:=he;refine .inr (.inl ⟨e,k,b,zs,n,zs',m,ys,hel,hz,hzk,hk,rfl,hlen,hys,hone',Zmt hc3,Zmt hc4,fun h=>absurd h hm0,fun _ v' H' ho=>?_⟩);obtain ⟨σ',g1,g2,g3⟩:=hr.own hn (hcl.append hnl) (by omega) ho;exact hK _ _ _ g1 g2 g3
       ·cases he
    ·rename_i q o n c d;have hs0:=hs;obtain ⟨p,hp,hnc,rfl⟩:=hs;have hq:=condS he;clear he;obtain ⟨hc,he⟩:=hq;obtain ⟨hc5,hc⟩:=cond3 hc;obtain ⟨hc3,hc4⟩:=cond3 hc;have hcn:c-d=n:=Zmk hc5;split at he
     ·rename_i n' cs hsr
      have hcap:∃ us,n'=n∧capN H k (.lit (.slice (some ⟨p.r,o,none⟩) n ((some c).getD p.c-d))) n us∧RVL σ cs us:=by
       simp only [srcE] at hsr;simp only [Option.getD_some,hcn];split at hsr
       ·rename_i e' cs' hbq;have hqq:=condS hsr;clear hsr;obtain ⟨hc6,hsr⟩:=hqq;simp only [Option.some.injEq,Prod.mk.injEq] at hsr;obtain ⟨rfl,rfl⟩:=hsr;rcases hr.blk q _ hbq with hd | ⟨q',B,g1,g2,g3⟩
        ·cases hd
        ·rw [hp] at g1; cases g1;obtain ⟨us,rfl,hl⟩:=g3;exact ⟨_,rfl,.inr ⟨_,_,_,_,_,rfl,g2,by rw [hl.length]; exact Zmt hc6,rfl⟩,(hl.drop _).take _⟩
       ·rename_i e' s' cs' hbq;have hqq:=condS hsr;clear hsr;obtain ⟨hc6,hsr⟩:=hqq;simp only [Option.some.injEq,Prod.mk.injEq] at hsr;obtain ⟨rfl,rfl⟩:=hsr;rcases hr.blk q _ hbq with hd | ⟨q',B,g1,g2,g3⟩
        ·cases hd
        ·rw [hp] at g1; cases g1;obtain ⟨us,sp,rfl,hl,_⟩:=g3;exact ⟨_,rfl,.inr ⟨_,_,_,_,_,rfl,g2,by rw [hl.length]; exact Zmt hc6,rfl⟩,(hl.drop _).take _⟩
       ·cases hsr
      obtain ⟨us,rfl,hcap,hul⟩:=hcap;cases hm:Zmf m 0 with
      | true =>
        have:=Zmk hm
        subst this;simp only [hm,cond_true,Option.some.injEq,Prod.mk.injEq] at he;obtain ⟨rfl,rfl⟩:=he;exact .inr (.inr ⟨e,k,b,zs,n',us,0,ys,hel,hz,hzk,hk,hcap,hys,hone',Zmt hc3,Zmt hc4,fun _=>hK _ _ _ (Ext.refl σ) hr hs0,fun h=>absurd rfl h⟩)
      | false =>
        have hm0:m ≠ 0:=fun e=>by rw [e] at hm; cases hm
        simp only [hm,cond_false] at he;split at he
        ·rename_i h1 hn;simp only [Option.some.injEq,Prod.mk.injEq] at he;obtain ⟨rfl,rfl⟩:=he;refine .inr (.inr ⟨e,k,b,zs,n',us,m,ys,hel,hz,hzk,hk,hcap,hys,hone',Zmt hc3,Zmt hc4,fun h=>absurd h hm0,fun _ v' H' ho=>?_⟩);obtain ⟨σ',g1,g2,g3⟩:=hr.own hn (hul.append hnl) (by omega) ho;exact hK _ _ _ g1 g2 g3
        ·cases he
     ·cases he
    ·rename_i q o n d;obtain ⟨p,hp,hnc,rfl⟩:=hs;split at he
     ·rename_i e' k' cs hbq;have hq:=condS he;clear he;obtain ⟨hc,he⟩:=hq;obtain ⟨ha1,hc⟩:=cond3 hc;obtain ⟨ha2,hc⟩:=cond3 hc;obtain ⟨ha3,hc⟩:=cond3 hc;obtain ⟨ha4,hc⟩:=cond3 hc;obtain ⟨ha5,hc⟩:=cond3 hc;obtain ⟨ha6,hc⟩:=cond3 hc;obtain ⟨ha7,ha8⟩:=cond3 hc;obtain rfl:=Zmk ha1;obtain rfl:=Zmk ha2;obtain rfl:=Zmk ha3;obtain rfl:=Zmk ha4;have hl5:=Zmk ha5;split at he
      ·rename_i h1 hs1;split at he
       ·rename_i h2 hn;simp only [Option.some.injEq,Prod.mk.injEq] at he;obtain ⟨rfl,rfl⟩:=he;rcases hr.blk q _ hbq with hd | ⟨q',B,g1,g2,g3⟩
        ·cases hd
        ·rw [hp] at g1; cases g1;obtain ⟨us,sp,rfl,hl,h3,h4⟩:=g3;have hkill:=hr.kill hbq rfl hp hs1
         have hset:H=(H.del p.r).set p.r (.cells e' us sp):=by
          funext i
          simp only [AH.set,AH.del];split
          ·rename_i e; rw [e,g2]
          ·rfl
         simp only [Option.getD_none,Nat.sub_zero] at hnc ⊢;refine .inl ⟨e',k',b,zs,H.del p.r,n,us,m,ys,hel,hz,hzk,hk,.inr ⟨p.r,p.c,sp,rfl,AH.del_same _ _,hset,by rw [hl.length,hl5],h3,hnc,h4⟩,hys,hone',Zmt ha6,Zmt ha7,fun v' H' ho=>?_⟩
         have:=Zmt ha8
         obtain ⟨σ',g1,g2,g3⟩:=hkill.own hn (hl.append hnl) (by omega) ho;exact hK _ _ _ g1 g2 g3
       ·cases he
      ·cases he
     ·cases he
    ·cases he
   ·cases he
  ·cases he
 ·cases he
end
end Go.PV
end
section
open Nat renaming beq→Zmf,eq_of_beq_eq_true→Zmk
namespace Go.PV
mutual
def EV.closedB:EV→Bool
 | .lit _=>true
 | .isl _ _ cs=>XI cs
 | .iptr cs=>XI cs
 | .agg cs=>XI cs
 | .tuple cs=>XI cs
 | .func _ a b=>cond (XI a) (XI b) false
 | .iface _ x=>x.closedB
 | _=>false
def XI:List EV→Bool
 | []=>true
 | v::vs=>cond v.closedB (XI vs) false
end
mutual
def EV.vv:EV→VV
 | .lit v=>.lit v
 | .isl ex n cs=>.slice ex n (vvL cs)
 | .iptr cs=>.iptr (vvL cs)
 | .agg cs=>.agg (vvL cs)
 | .tuple cs=>.tuple (vvL cs)
 | .func f a b=>.func (.func f) (vvL a) (vvL b)
 | .iface t x=>.iface t x.vv
 | _=>Zx
def vvL:List EV→List VV
 | []=>[]
 | v::vs=>v.vv::vvL vs
end
mutual
theorem RV.vv {σ:Sg}:∀ (v:EV),v.closedB=true→RV σ v v.vv
 | .lit v,h=>rfl
 | .isl ex n cs,h=>⟨_,rfl,RVL.vv cs h⟩
 | .iptr cs,h=>⟨_,rfl,RVL.vv cs h⟩
 | .agg cs,h=>⟨_,rfl,RVL.vv cs h⟩
 | .tuple cs,h=>⟨_,rfl,RVL.vv cs h⟩
 | .func f a b,h=>by
   simp only [EV.closedB] at h;obtain ⟨h1,h2⟩:=cond3 h;exact ⟨_,_,rfl,RVL.vv a h1,RVL.vv b h2⟩
 | .iface t x,h=>⟨_,rfl,RV.vv x h⟩
 | .ptr _ _,h=>by cases h
 | .sl _ _ _ _ _,h=>by cases h
 | .es _ _ _ _ _,h=>by cases h
 | .map _,h=>by cases h
 | .yield _,h=>by cases h
theorem RVL.vv {σ:Sg}:∀ (vs:List EV),XI vs=true→RVL σ vs (vvL vs)
 | [],h=>rfl
 | v::vs,h=>by
   simp only [XI] at h;obtain ⟨h1,h2⟩:=cond3 h;exact ⟨_,_,rfl,RV.vv v h1,RVL.vv vs h2⟩
end
theorem RV.vv_eq {σ:Sg} {v:EV} {x:VV} (h:v.closedB=true) (hx:RV σ v x):x=v.vv:=RV.fn (Ext.refl σ) v x v.vv hx (RV.vv v h)
theorem RVL.vv_eq {σ:Sg} {v:List EV} {x:List VV} (h:XI v=true) (hx:RVL σ v x):x=vvL v:=RVL.fn (Ext.refl σ) v x (vvL v) hx (RVL.vv v h)
mutual
def Xi:EV→Tr EB→Option (EV × Tr EB)
 | .sl k o n c d,h=>(match h.get k with
   | some (.cells _ cs)=>cond (cond (Zmf o 0) (XI cs) false) (match Tr.set 40 h k .dead with | some h'=>some (.isl false n cs,h') | none=>none) none
   | some (.grown _ _ cs)=>cond (cond (Zmf o 0) (XI cs) false) (match Tr.set 40 h k .dead with | some h'=>some (.isl false n cs,h') | none=>none) none
   | _=>none)
 | .agg cs,h=>(match Zay cs h with | some (cs',h')=>some (.agg cs',h') | none=>none)
 | .tuple cs,h=>(match Zay cs h with | some (cs',h')=>some (.tuple cs',h') | none=>none)
 | v,h=>cond v.closedB (some (v,h)) none
def Zay:List EV→Tr EB→Option (List EV × Tr EB)
 | [],h=>some ([],h)
 | v::vs,h=>(match Xi v h with
   | some (v',h')=>(match Zay vs h' with | some (vs',h'')=>some (v'::vs',h'') | none=>none)
   | none=>none)
end
section
variable {P:Program} {σ:Sg}
theorem Zg6 {h h':Tr EB} {H:AH} {k n:Nat} {c:Option Nat} {d:Nat} {x:VV} {cs:List EV} {b:EB} (hr:HR P σ h H) (hx:RV σ (.sl k 0 n c d) x) (hb:h.get k=some b) (hbc:(∃ e,b=.cells e cs)∨∃ e s,b=.grown e s cs) (hcl:XI cs=true)
 (hs:Tr.set 40 h k .dead=some h'):∃ H',GhV H x H' (EV.vv (.isl false n cs))∧HR P σ h' H'∧XI cs=true:=by
 obtain ⟨p,hp,hn,rfl⟩:=hx;have hlive:b.isDead=false:=by rcases hbc with ⟨e,rfl⟩ | ⟨e,s,rfl⟩<;>rfl
 rcases hr.blk k b hb with hd | ⟨q,B,g1,g2,g3⟩
 ·rw [hlive] at hd; cases hd
 ·rw [hp] at g1; cases g1
  have hB:∃ e ys sp,B=.cells e ys sp∧RVL σ cs ys:=by
   rcases hbc with ⟨e,rfl⟩ | ⟨e,s,rfl⟩
   ·obtain ⟨ys,rfl,hl⟩:=g3; exact ⟨_,ys,0,rfl,hl⟩
   ·obtain ⟨ys,sp,rfl,hl,_⟩:=g3; exact ⟨_,ys,sp,rfl,hl⟩
  obtain ⟨e,ys,sp,rfl,hl⟩:=hB;obtain rfl:=RVL.vv_eq hcl hl;exact ⟨_,GhV.slice g2 hn,hr.kill hb hlive hp hs,hcl⟩
theorem XB {v v':EV} {h h':Tr EB} {H:AH} {x:VV} (he:cond v.closedB (some (v,h)) none=some (v',h')) (hr:HR P σ h H) (hx:RV σ v x):∃ H',GhV H x H' v'.vv∧HR P σ h' H'∧v'.closedB=true:=by
 obtain ⟨hc,he⟩:=condS he;simp only [Option.some.injEq,Prod.mk.injEq] at he;obtain ⟨rfl,rfl⟩:=he;obtain rfl:=RV.vv_eq hc hx;exact ⟨H,GhV.refl _ _,hr,hc⟩
mutual
theorem ZcG:∀ (v:EV) (h:Tr EB) (v':EV) (h':Tr EB),Xi v h=some (v',h')→∀ (H:AH) (x:VV),HR P σ h H→RV σ v x→∃ H',GhV H x H' v'.vv∧HR P σ h' H'∧v'.closedB=true
 | .sl k o n c d,h,v',h',he,H,x,hr,hx=>by
   simp only [Xi] at he;split at he
   ·rename_i e cs hb;have hq:=condS he;clear he;obtain ⟨hc,he⟩:=hq;obtain ⟨hc1,hc2⟩:=cond3 hc;obtain rfl:=Zmk hc1;split at he
    ·rename_i h1 hs;simp only [Option.some.injEq,Prod.mk.injEq] at he;obtain ⟨rfl,rfl⟩:=he;exact Zg6 hr hx hb (.inl ⟨e,rfl⟩) hc2 hs
    ·cases he
   ·rename_i e s cs hb;have hq:=condS he;clear he;obtain ⟨hc,he⟩:=hq;obtain ⟨hc1,hc2⟩:=cond3 hc;obtain rfl:=Zmk hc1;split at he
    ·rename_i h1 hs;simp only [Option.some.injEq,Prod.mk.injEq] at he;obtain ⟨rfl,rfl⟩:=he;exact Zg6 hr hx hb (.inr ⟨e,s,rfl⟩) hc2 hs
    ·cases he
   ·cases he
 | .agg cs,h,v',h',he,H,x,hr,hx=>by
   simp only [Xi] at he;split at he
   ·rename_i cs' h1 hl;simp only [Option.some.injEq,Prod.mk.injEq] at he;obtain ⟨rfl,rfl⟩:=he;obtain ⟨ys,rfl,hys⟩:=hx;obtain ⟨H',g1,g2,g3⟩:=ZaL cs h cs' h1 hl H ys hr hys;exact ⟨H',GhV.agg g1,g2,g3⟩
   ·cases he
 | .tuple cs,h,v',h',he,H,x,hr,hx=>by
   simp only [Xi] at he;split at he
   ·rename_i cs' h1 hl;simp only [Option.some.injEq,Prod.mk.injEq] at he;obtain ⟨rfl,rfl⟩:=he;obtain ⟨ys,rfl,hys⟩:=hx;obtain ⟨H',g1,g2,g3⟩:=ZaL cs h cs' h1 hl H ys hr hys;exact ⟨H',GhV.tuple g1,g2,g3⟩
   ·cases he
 | .lit v,h,v',h',he,H,x,hr,hx=>XB (by simpa only [Xi] using he) hr hx
 | .isl ex n cs,h,v',h',he,H,x,hr,hx=>XB (by simpa only [Xi] using he) hr hx
 | .iptr cs,h,v',h',he,H,x,hr,hx=>XB (by simpa only [Xi] using he) hr hx
 | .func f a b,h,v',h',he,H,x,hr,hx=>XB (by simpa only [Xi] using he) hr hx
 | .iface t y,h,v',h',he,H,x,hr,hx=>XB (by simpa only [Xi] using he) hr hx
 | .ptr k o,h,v',h',he,H,x,hr,hx=>XB (by simpa only [Xi] using he) hr hx
 | .es k o d lo s,h,v',h',he,H,x,hr,hx=>XB (by simpa only [Xi] using he) hr hx
 | .map k,h,v',h',he,H,x,hr,hx=>XB (by simpa only [Xi] using he) hr hx
 | .yield k,h,v',h',he,H,x,hr,hx=>XB (by simpa only [Xi] using he) hr hx
theorem ZaL:∀ (v:List EV) (h:Tr EB) (v':List EV) (h':Tr EB),Zay v h=some (v',h')→∀ (H:AH) (x:List VV),HR P σ h H→RVL σ v x→∃ H',GhL H x H' (vvL v')∧HR P σ h' H'∧XI v'=true
 | [],h,v',h',he,H,x,hr,hx=>by
   simp only [Zay,Option.some.injEq,Prod.mk.injEq] at he;obtain ⟨rfl,rfl⟩:=he;simp only [RVL] at hx;subst hx;exact ⟨H,GhL.nil H,hr,rfl⟩
 | v::vs,h,v',h',he,H,x,hr,hx=>by
   simp only [Zay] at he;split at he
   ·rename_i u h1 hu;split at he
    ·rename_i us h2 hus;simp only [Option.some.injEq,Prod.mk.injEq] at he;obtain ⟨rfl,rfl⟩:=he;obtain ⟨y,ys,rfl,hy,hys⟩:=hx;obtain ⟨H1,g1,g2,g3⟩:=ZcG v h u h1 hu H y hr hy;obtain ⟨H2,f1,f2,f3⟩:=ZaL vs h1 us h2 hus H1 ys g2 hys;exact ⟨H2,GhL.cons g1 f1,f2,by simp only [XI,g3,f3,cond_true]⟩
    ·cases he
   ·cases he
end
theorem Ja {v v':EV} {h h':Tr EB} (he:cond v.closedB (some (v,h)) none=some (v',h')):v'.closedB=true:=by
 obtain ⟨hc,he⟩:=condS he;simp only [Option.some.injEq,Prod.mk.injEq] at he;obtain ⟨rfl,rfl⟩:=he;exact hc
mutual
theorem ZbP:∀ (v:EV) (h:Tr EB) (v':EV) (h':Tr EB),Xi v h=some (v',h')→v'.closedB=true
 | .sl k o n c d,h,v',h',he=>by
   simp only [Xi] at he;split at he
   ·have hq:=condS he;clear he;obtain ⟨hc,he⟩:=hq;split at he
    ·simp only [Option.some.injEq,Prod.mk.injEq] at he;obtain ⟨rfl,rfl⟩:=he;exact (cond3 hc).2
    ·cases he
   ·have hq:=condS he;clear he;obtain ⟨hc,he⟩:=hq;split at he
    ·simp only [Option.some.injEq,Prod.mk.injEq] at he;obtain ⟨rfl,rfl⟩:=he;exact (cond3 hc).2
    ·cases he
   ·cases he
 | .agg cs,h,v',h',he=>by
   simp only [Xi] at he;split at he
   ·rename_i cs' h1 hl;simp only [Option.some.injEq,Prod.mk.injEq] at he;obtain ⟨rfl,rfl⟩:=he;exact Zag cs h cs' h1 hl
   ·cases he
 | .tuple cs,h,v',h',he=>by
   simp only [Xi] at he;split at he
   ·rename_i cs' h1 hl;simp only [Option.some.injEq,Prod.mk.injEq] at he;obtain ⟨rfl,rfl⟩:=he;exact Zag cs h cs' h1 hl
   ·cases he
 | .lit v,h,v',h',he=>Ja (by simpa only [Xi] using he)
 | .isl ex n cs,h,v',h',he=>Ja (by simpa only [Xi] using he)
 | .iptr cs,h,v',h',he=>Ja (by simpa only [Xi] using he)
 | .func f a b,h,v',h',he=>Ja (by simpa only [Xi] using he)
 | .iface t y,h,v',h',he=>Ja (by simpa only [Xi] using he)
 | .ptr k o,h,v',h',he=>Ja (by simpa only [Xi] using he)
 | .es k o d lo s,h,v',h',he=>Ja (by simpa only [Xi] using he)
 | .map k,h,v',h',he=>Ja (by simpa only [Xi] using he)
 | .yield k,h,v',h',he=>Ja (by simpa only [Xi] using he)
theorem Zag:∀ (v:List EV) (h:Tr EB) (v':List EV) (h':Tr EB),Zay v h=some (v',h')→XI v'=true
 | [],h,v',h',he=>by
   simp only [Zay,Option.some.injEq,Prod.mk.injEq] at he;obtain ⟨rfl,rfl⟩:=he;rfl
 | v::vs,h,v',h',he=>by
   simp only [Zay] at he;split at he
   ·rename_i u h1 hu;split at he
    ·rename_i us h2 hus;simp only [Option.some.injEq,Prod.mk.injEq] at he;obtain ⟨rfl,rfl⟩:=he;simp only [XI,ZbP v h u h1 hu,Zag vs h1 us h2 hus,cond_true]
    ·cases he
   ·cases he
end
end
end Go.PV
end
section
open Bool renaming and_eq_true→ZmA
open List renaming map_cons→Zmd,map_nil→Zmg,all_cons→Zmz
open Nat renaming beq→Zmf,eq_of_beq_eq_true→Zmk,ble→Zmx,le_of_ble_eq_true→Zmt
namespace Go.PV
structure Cfg where
 P:Program
 ft:FuncId→Option (Nat × List ResultVar × ACode)
 mt:TypeId→Option Value
 im:TypeId→String→Option FuncId
 mm:List (FuncId × List EV × EV)
structure CfgOk (C:Cfg):Prop where
 ft:∀ f N rs a,C.ft f=some (N,rs,a)→FnD C.P f N rs a∧Zz C.P f=true
 mt:∀ t z,C.mt t=some z→MapT C.P t z
 im:∀ t m g,C.im t m=some g→∀ z w,(method (C.P.types.size+Made.depth) t z m).run C.P w=.ok (g,z) w
 mixed:C.P.follows .mixedOrders=true
 mm:∀ g ys v,(g,ys,v)∈C.mm→Zz C.P g=true∧XI ys=true∧v.closedB=true∧PureF C.P g (vvL ys) v.vv
abbrev HN:=EV × Tr EB × Nat
abbrev CallF:=EV→List EV→Tr EB→Nat→Option HN
def Jz (C:Cfg) (call:CallF):Prop:=∀ f xs h nx v h' nx',call f xs h nx=some (v,h',nx')→∀ σ H f' xs' ro K,HR C.P σ h H→RV σ f f'→RVL σ xs xs'→EK C.P σ v h' K→WS C.P ro f' xs' H K
def w2 (x:Option HE) (nx:Nat):Option HN:=match x with | some (v,h)=>some (v,h,nx) | none=>none
theorem ZaS {x:Option HE} {nx nx':Nat} {v:EV} {h:Tr EB} (e:w2 x nx=some (v,h,nx')):x=some (v,h):=by
 unfold w2 at e;split at e
 ·simp only [Option.some.injEq,Prod.mk.injEq] at e;obtain ⟨rfl,rfl,_⟩:=e;rfl
 ·cases e
def effE (C:Cfg) (call:CallF) (nb:Nat) (ev:Operand→EV) (op:Op) (h:Tr EB) (nx:Nat):Option HN :=
 match op with
 | .alloc e=>w2 (Zkq C.P nb e h) nx
 | .box e x=>w2 (boxE nb e (ev x) h) nx
 | .store t a v=>w2 (Zkr C.P t (ev a) (ev v) h) nx
 | .makeMap t none=>w2 (ZfV nb t h) nx
 | .makeSlice t l c=>w2 (Zc3 C.P nb t (ev l) (ev c) h) nx
 | .lookup t m k ok=>(match ZhO C.P C.mt t (ev m) (ev k) ok h with | some v=>some (v,h,nx) | none=>none)
 | .mapUpdate t m k v=>w2 (Zfs C.P C.mt t (ev m) (ev k) (ev v) h) nx
 | .insert t m k v=>w2 (Zfs C.P C.mt t (ev m) (ev k) (ev v) h) nx
 | .call { callee:=.builtin .append,args,argTypes }=>(match argTypes.toList,args.toList with | [t,t'],[s,x]=>cond (Zmf t t') (w2 (ZhP C.P nb t (ev s) (ev x) h) nx) none | _,_=>none)
 | .call { callee:=.value f,args,.. }=>call (ev f) (args.toList.map ev) h nx
 | .call { callee:=.invoke x m,args,.. }=>(match ev x with | .iface t y=>(match C.im t m with | some g=>call (.lit (.func (.func g) #[] #[])) (y::args.toList.map ev) h nx | none=>none) | _=>none)
 | _=>none
def opE (C:Cfg) (call:CallF) (nb:Nat) (ev:Operand→EV) (op:Op) (h:Tr EB) (nx:Nat):Option HN :=
 match pureE C.P ev h.get op with
 | some v=>some (v,h,nx)
 | none=>effE C call nb ev op h nx
section
variable {C:Cfg} {call:CallF} {cx:Cx} {A:AF} {σ:Sg} {h h':Tr EB} {H:AH} {K:VE→AH→Prop}
theorem Zlv (hC:CfgOk C) (hcall:Jz C call) (hP:cx.P=C.P) {nb nx nx':Nat} {ev:Operand→EV} {op:Op} {v:EV} (hev:∀ o,RV σ (ev o) (A.eval o)) (hr:HR C.P σ h H) (he:opE C call nb ev op h nx=some (v,h',nx'))
 (hK:EK C.P σ v h' K):vcOp cx op A H K:=by
 obtain ⟨P',N,ro⟩:=cx;obtain rfl:P'=C.P:=hP;unfold opE at he;split at he
 ·rename_i w hw;simp only [Option.some.injEq,Prod.mk.injEq] at he;obtain ⟨rfl,rfl,_⟩:=he;exact ZbV (cx:=⟨C.P,N,ro⟩) hev (fun k b hb=>hr.blk k b hb) hw (fun z hz=>hK _ _ _ (Ext.refl σ) hr hz)
 ·rename_i hp0;clear hp0;unfold effE at he;split at he
  ·exact Zhy hr (ZaS he) hK
  ·exact ZjP hr (hev _) (ZaS he) hK
  ·exact Zhz hr (hev _) (hev _) (ZaS he) hK
  ·exact Ze5 hr (ZaS he) hK
  ·exact ZdX hr (hev _) (hev _) (ZaS he) hK
  ·split at he
   ·rename_i w hw;simp only [Option.some.injEq,Prod.mk.injEq] at he;obtain ⟨rfl,rfl,_⟩:=he;exact Zgy hC.mt hr (hev _) (hev _) hw (fun z hz=>hK _ _ _ (Ext.refl σ) hr hz)
   ·cases he
  ·exact ZcF hC.mt hr (hev _) (hev _) (hev _) (ZaS he) hK
  ·exact ZcF hC.mt hr (hev _) (hev _) (hev _) (ZaS he) hK
  ·rename_i args ats;split at he
   ·rename_i t t' s x h1 h2;have hq:=condS he;clear he;obtain ⟨hc,he⟩:=hq;show YM C.P .append ats.toList (args.toList.map A.eval) H K;rw [h1,h2];simp only [Zmd,Zmg];rw [WX,if_pos (Zmk hc)];exact Zgz hr (hev _) (hev _) (ZaS he) hK
   ·cases he
  ·exact hcall _ _ _ _ _ _ _ he σ H _ _ ro K hr (hev _) (RVL.map hev _) hK
  ·rename_i x m args ats;split at he
   ·rename_i t y hx;split at he
    ·rename_i g hg;have hxr:=hev x;rw [hx] at hxr;obtain ⟨y',hxe,hy⟩:=hxr;have hcl:=hcall _ _ _ _ _ _ _ he σ H (.lit (.func (.func g) #[] #[])) (y'::args.toList.map A.eval) ro K hr rfl ⟨y',_,rfl,hy,RVL.map hev _⟩ hK;rw [ZL] at hcl;show ZkB C.P ro (A.eval x) m (args.toList.map A.eval) H K;refine ⟨g,y',hcl.1,hcl.2,fun S w u hu=>?_⟩;rw [hxe] at hu;obtain ⟨v,rfl,hv⟩:=hu;exact ⟨v,hv,t,v,rfl,hC.im t m g hg v w⟩
    ·cases he
   ·cases he
  ·cases he
end
inductive ED where
 | mark (k:Nat)
 | fn (f:FuncId) (args cap:List EV)
structure ES where
 t:Tr EV
 d:List ED
 h:Tr EB
 nx:Nat
def RD (σ:Sg):ED→Deferred→Prop
 | .mark k,d=>∃ p,σ k=some p∧d=WL p.r
 | .fn f args cap,d=>∃ asg cs:List Value,d={ target:=.fn (.func f) cs.toArray,args:=asg.toArray }∧RVL σ args (asg.map .lit)∧RVL σ cap (cs.map .lit)
def RDL (σ:Sg):List ED→List Deferred→Prop
 | [],ds=>ds=[]
 | e::es,ds=>∃ d ds',ds=d::ds'∧RD σ e d∧RDL σ es ds'
structure RA (P:Program) (σ:Sg) (s:ES) (A:AF) (H:AH):Prop where
 t:∀ i,RVo σ (s.t.get i) (A.t i)
 d:RDL σ s.d A.d
 h:HR P σ s.h H
theorem RD.mono {σ σ':Sg} (h:Ext σ σ') {e:ED} {d:Deferred} (hd:RD σ e d):RD σ' e d:=by
 cases e with
 | mark k=>obtain ⟨p,hp,e⟩:=hd; exact ⟨p,h _ _ hp,e⟩
 | fn f args cap=>obtain ⟨asg,cs,e,h1,h2⟩:=hd; exact ⟨asg,cs,e,RVL.mono h _ _ h1,RVL.mono h _ _ h2⟩
theorem RDL.mono {σ σ':Sg} (h:Ext σ σ'):∀ {es:List ED} {ds:List Deferred},RDL σ es ds→RDL σ' es ds
 | [],ds,hd=>hd
 | e::es,ds,⟨d,ds',e1,h1,h2⟩=>⟨d,ds',e1,h1.mono h,RDL.mono h h2⟩
def evO (t:Tr EV):Operand→EV
 | .tmp i=>(match t.get i with | some v=>v | none=>.lit undef)
 | .const v=>.lit v
 | .global g=>.lit (.pointer (some ⟨g,0,none⟩))
 | .func f=>.lit (.func (.func f) #[] #[])
theorem JA {σ:Sg} {t:Tr EV} {A:AF} (h:∀ i,RVo σ (t.get i) (A.t i)) (o:Operand):RV σ (evO t o) (A.eval o):=by
 cases o with
 | tmp i =>
   have:=h i
   simp only [evO,AF.eval];cases e:t.get i with
   | none=>rw [e] at this; exact this
   | some v=>rw [e] at this; exact this
 | const v=>rfl
 | global g=>rfl
 | func f=>rfl
def putE (s:ES) (dst:Option Tmp) (v:EV):Option ES :=
 match dst with
 | none=>some s
 | some d=>(match Tr.set 20 s.t d v with | some t'=>some { s with t:=t' } | none=>none)
theorem Zas {P:Program} {σ:Sg} {s s':ES} {A:AF} {H:AH} {dst:Option Tmp} {v:EV} {x:VV} (hs:RA P σ s A H) (hx:RV σ v x) (he:putE s dst v=some s'):RA P σ s' (A.put dst x) H:=by
 cases dst with
 | none=>simp only [putE,Option.some.injEq] at he; subst he; exact hs
 | some d =>
   simp only [putE] at he;split at he
   ·rename_i t' ht;simp only [Option.some.injEq] at he;subst he;refine ⟨fun i=>?_,hs.d,hs.h⟩;simp only [AF.put,upd,Tr.get_set _ _ _ _ _ ht];split
    ·exact hx
    ·exact hs.t i
   ·cases he
def dOkB (N:Nat):Option Tmp→Bool
 | none=>true
 | some d=>Zmx (d+1) N
theorem Za3 {N:Nat} {d:Option Tmp} (h:dOkB N d=true):dOk N d:=by
 cases d with
 | none=>trivial
 | some d=>exact Zmt h
def Ze0:EV→Bool
 | .lit _=>true
 | .ptr _ _=>true
 | .sl _ _ _ _ _=>true
 | .es _ _ _ _ _=>true
 | .map _=>true
 | .yield _=>true
 | _=>false
theorem ZiA {σ:Sg} {v:EV} {x:VV} (h:Ze0 v=true) (hx:RV σ v x):∃ u,x=.lit u:=by
 cases v with
 | lit u=>exact ⟨u,hx⟩
 | ptr k o=>obtain ⟨p,_,e⟩:=hx; exact ⟨_,e⟩
 | sl k o n c d=>obtain ⟨p,_,_,e⟩:=hx; exact ⟨_,e⟩
 | es k o d lo s=>obtain ⟨p,_,e⟩:=hx; exact ⟨_,e⟩
 | map k=>obtain ⟨p,_,e⟩:=hx; exact ⟨_,e⟩
 | yield k=>obtain ⟨p,_,e⟩:=hx; exact ⟨_,e⟩
 | _=>cases h
theorem JP {σ:Sg}:∀ {vs:List EV} {xs:List VV},vs.all Ze0=true→RVL σ vs xs→∃ us:List Value,xs=us.map .lit∧Xl (.agg xs)=some us
 | [],xs,_,hl=>by simp only [RVL] at hl; subst hl; exact ⟨[],rfl,rfl⟩
 | v::vs,xs,h,⟨y,ys,e,h1,h2⟩=>by
   simp only [Zmz,ZmA] at h;obtain ⟨u,rfl⟩:=ZiA h.1 h1;obtain ⟨us,rfl,h3⟩:=JP h.2 h2;subst e;refine ⟨u::us,rfl,?_⟩;simp only [Xl,List.mapM_cons] at h3 ⊢;simp [h3]
def deferE (f:EV) (args:List EV):Option ED :=
 match f with
 | .func g first cap=>cond (cond (first.all Ze0) (cond (cap.all Ze0) (args.all Ze0) false) false) (some (.fn g (first++args) cap)) none
 | .lit (.func (.func g) a b)=>cond (args.all Ze0) (some (.fn g (a.toList.map .lit++args) (b.toList.map .lit))) none
 | _=>none
def doE (C:Cfg) (call:CallF) (N rb:Nat) (out:Bool) (dst:Option Tmp) (op:Op) (s:ES):Option ES :=
 cond (dOkB N dst) (match op with
  | .defer c=>cond out (match c.callee with
    | .value f=>(match deferE (evO s.t f) (c.args.toList.map (evO s.t)) with | some e=>putE { s with d:=e::s.d } dst (.lit undef) | none=>none)
    | _=>none) none
  | op=>(match opE C call (match dst with | some d=>rb+d | none=>rb+N) (evO s.t) op s.h s.nx with
    | some (v,h',nx')=>putE { s with h:=h',nx:=nx' } dst v
    | none=>none)) none
def ZbC (C:Cfg) (op:Op) (ev:Operand→EV):Bool :=
 match op with
 | .call { callee:=.value f,.. }=>(match ev f with
   | .lit (.func (.func g) _ _)=>(C.ft g).isSome
   | .func g _ _=>(C.ft g).isSome
   | .lit (.tuple _)=>true
   | _=>false)
 | .call { callee:=.invoke x _,.. }=>(match ev x with | .lit (.tuple _)=>true | _=>false)
 | _=>true
def stepE (C:Cfg) (call:CallF) (N rb:Nat) (out un:Bool) (o:GOp) (s:ES):Option ES :=
 match o.g with
 | none=>doE C call N rb out o.dst o.op s
 | some (d,want)=>(match s.t.get d with
   | some (.lit (.bool b))=>cond (cond b want (!want)) (doE C call N rb out o.dst o.op s) (cond (cond (dOkB N o.dst) (ZbC C o.op (evO s.t)) false) (putE s o.dst (.lit undef)) none)
   | some (.lit (.tuple _))=>cond un (cond (cond (dOkB N o.dst) (ZbC C o.op (evO s.t)) false) (putE s o.dst (.lit undef)) none) none
   | none=>cond un (cond (cond (dOkB N o.dst) (ZbC C o.op (evO s.t)) false) (putE s o.dst (.lit undef)) none) none
   | _=>none)
def ZbH (C:Cfg) (call:CallF) (N rb:Nat) (out un:Bool):List GOp→ES→Option ES
 | [],s=>some s
 | o::l,s=>(match stepE C call N rb out un o s with | some s'=>ZbH C call N rb out un l s' | none=>none)
section
variable {C:Cfg} {call:CallF} {N rb:Nat} {out:Bool} {ro:Option Nat} {A:AF} {σ:Sg} {s s':ES} {H:AH} {k:AF→AH→Prop} {Q:APost}
theorem RA.with_h (hs:RA C.P σ s A H) {σ':Sg} (hx:Ext σ σ') {h':Tr EB} {H':AH} (hr:HR C.P σ' h' H') (nx':Nat):RA C.P σ' { s with h:=h',nx:=nx' } A H':=⟨fun i=>(hs.t i).mono hx,hs.d.mono hx,hr⟩
theorem Zck (hC:CfgOk C) (hcall:Jz C call) (hout:out=true→ro=none) {dst:Option Tmp} {op:Op} (hs:RA C.P σ s A H) (he:doE C call N rb out dst op s=some s')
 (hk:∀ σ' A' H',Ext σ σ'→RA C.P σ' s' A' H'→k A' H'):vcDo ⟨C.P,N,ro⟩ ⟨dst,op,none⟩ k Q A H:=by
 unfold doE at he;have hq:=condS he;clear he;obtain ⟨hd,he⟩:=hq;refine ⟨Za3 hd,?_⟩;split at he
 ·rename_i c;have hq:=condS he;clear he;obtain ⟨ho,he⟩:=hq;refine ⟨hout ho,?_⟩;split at he
  ·rename_i f hf;rw [hf];dsimp only;split at he
   ·rename_i e hde;have hev:=JA (σ:=σ) (t:=s.t) (A:=A) hs.t;have hfv:=hev f;have hargs:=RVL.map (σ:=σ) hev c.args.toList;unfold deferE at hde;split at hde
    ·rename_i g first cap hfe;rw [hfe] at hfv;obtain ⟨asg,bs,e1,h1,h2⟩:=hfv;have hq:=condS hde;clear hde;obtain ⟨hc,hde⟩:=hq;obtain ⟨hc1,hc⟩:=cond3 hc;obtain ⟨hc2,hc3⟩:=cond3 hc;obtain ⟨us1,rfl,q1⟩:=JP hc1 h1;obtain ⟨us2,rfl,q2⟩:=JP hc2 h2;obtain ⟨us3,e3,q3⟩:=JP hc3 hargs;simp only [Option.some.injEq] at hde;subst hde;have hval:valOf (A.eval f)=some (.func (.func g) us1.toArray us2.toArray):=by rw [e1]; simp [valOf,q1,q2]
     rw [hval,q3];dsimp only
     have hs2:RA C.P σ { s with d:=.fn g (first++c.args.toList.map (evO s.t)) cap::s.d } { A with d:={ target:=.fn (.func g) us2.toArray,args:=us1.toArray++us3.toArray }::A.d } H :=
      ⟨hs.t,⟨_,_,rfl,⟨us1++us3,us2,by simp,by rw [List.map_append,← e3]; exact h1.append hargs,h2⟩,hs.d⟩,hs.h⟩
     exact hk σ _ _ (Ext.refl σ) (Zas (x:=Zx) (v:=.lit undef) hs2 rfl he)
    ·rename_i g a b hfe;rw [hfe] at hfv;have e1:A.eval f=.lit (.func (.func g) a b):=hfv;have hq:=condS hde;clear hde;obtain ⟨hc3,hde⟩:=hq;obtain ⟨us3,e3,q3⟩:=JP hc3 hargs;simp only [Option.some.injEq] at hde;subst hde;rw [e1,q3];dsimp only [valOf]
     have hs2:RA C.P σ { s with d:=.fn g (a.toList.map .lit++c.args.toList.map (evO s.t)) (b.toList.map .lit)::s.d } { A with d:={ target:=.fn (.func g) b,args:=a++us3.toArray }::A.d } H :=
      ⟨hs.t,⟨_,_,rfl,⟨a.toList++us3,b.toList,by simp,by rw [List.map_append,← e3]; exact (RVL.lits _).append hargs,RVL.lits _⟩,hs.d⟩,hs.h⟩
     exact hk σ _ _ (Ext.refl σ) (Zas (x:=Zx) (v:=.lit undef) hs2 rfl he)
    ·cases hde
   ·cases he
  ·cases he
 ·rename_i op' hnd;split at he
  ·rename_i v h' nx' hop
   have:vcOp ⟨C.P,N,ro⟩ op A H (vcK k Q dst A):=Zlv hC hcall rfl (JA hs.t) hs.h hop fun σ' H' x hx hr hv=>hk σ' _ _ hx (Zas (hs.with_h hx hr nx') hv he)
   cases op with
   | defer c=>exact absurd rfl (hnd c)
   | _=>exact this
  ·cases he
theorem Zdi (hC:CfgOk C) {op:Op} (hev:∀ o,RV σ (evO s.t o) (A.eval o)) (h:ZbC C op (evO s.t)=true):Yc C.P op A:=by
 unfold ZbC at h;unfold Yc;split at h
 ·rename_i f args ats;dsimp only;have hf:=hev f
  have hft:∀ g,(C.ft g).isSome=true→Zz C.P g=true:=fun g hg=>by
   obtain ⟨⟨N,rs,a⟩,e⟩:=Option.isSome_iff_exists.1 hg;exact (hC.ft g N rs a e).2
  split at h
  ·rename_i g a b e;rw [e] at hf;rw [show A.eval f=_ from hf];exact hft g h
  ·rename_i g a b e;rw [e] at hf;obtain ⟨asg,bs,e1,_⟩:=hf;rw [e1];exact hft g h
  ·rename_i vs e;rw [e] at hf;rw [show A.eval f=_ from hf];trivial
  ·cases h
 ·rename_i x m args ats;dsimp only;have hf:=hev x;split at h
  ·rename_i vs e;rw [e] at hf;rw [show A.eval x=_ from hf];trivial
  ·cases h
 ·rename_i n1 n2;split
  ·rename_i f args ats; exact absurd rfl (n1 f args ats)
  ·rename_i x m args ats; exact absurd rfl (n2 x m args ats)
  ·trivial
theorem Zbv (hC:CfgOk C) {dst:Option Tmp} {op:Op} (hs:RA C.P σ s A H) (he:cond (cond (dOkB N dst) (ZbC C op (evO s.t)) false) (putE s dst (.lit undef)) none=some s')
 (hk:∀ σ' A' H',Ext σ σ'→RA C.P σ' s' A' H'→k A' H'):dOk N dst∧Yc C.P op A∧k (A.put dst Zx) H:=by
 obtain ⟨hc,he'⟩:=condS he;obtain ⟨hc1,hc2⟩:=cond3 hc;exact ⟨Za3 hc1,Zdi hC (JA hs.t) hc2,hk σ _ _ (Ext.refl σ) (Zas (x:=Zx) (v:=.lit undef) hs rfl he')⟩
theorem ZhQ {b want:Bool} (h:(cond b want (!want))=true):b=want:=by cases b<;>cases want<;>simp_all
theorem ZhR {b want:Bool} (h:(cond b want (!want))=false):b ≠ want:=by cases b<;>cases want<;>simp_all
theorem ZhA (hC:CfgOk C) (hcall:Jz C call) (hout:out=true→ro=none) {o:GOp} {un:Bool} (hs:RA C.P σ s A H) (he:stepE C call N rb out un o s=some s')
 (hk:∀ σ' A' H',Ext σ σ'→RA C.P σ' s' A' H'→k A' H'):vcG2 ⟨C.P,N,ro⟩ o k Q A H:=by
 obtain ⟨dst,op,g⟩:=o;unfold stepE at he;unfold vcG2;cases g with
 | none=>exact Zck hC hcall hout hs he hk
 | some g =>
   obtain ⟨d,want⟩:=g;have ht:=hs.t d;dsimp only at he ⊢;split at he
   ·rename_i b e;rw [e] at ht;rw [show A.t d=.lit (.bool b) from ht];unfold Zgv;dsimp only;cases hb:cond b want (!want) with
    | true =>
      simp only [hb,cond_true] at he;rw [if_pos (ZhQ hb)];exact Zck hC hcall hout hs he hk
    | false =>
      simp only [hb,cond_false] at he;rw [if_neg (ZhR hb)];exact Zbv hC hs he hk
   ·rename_i vs e;rw [e] at ht;rw [show A.t d=.lit (.tuple vs) from ht];exact Zbv hC hs (condS he).2 hk
   ·rename_i e;rw [e] at ht;rw [show A.t d=.lit (.tuple #[]) from ht];exact Zbv hC hs (condS he).2 hk
   ·cases he
theorem Jx (hC:CfgOk C) (hcall:Jz C call) (hout:out=true→ro=none) {o:GOp} (hs:RA C.P σ s A H) (he:stepE C call N rb out false o s=some s')
 (hk:∀ σ' A' H',Ext σ σ'→RA C.P σ' s' A' H'→k A' H'):vcG ⟨C.P,N,ro⟩ o k Q A H:=by
 obtain ⟨dst,op,g⟩:=o;unfold stepE at he;unfold vcG;cases g with
 | none=>exact Zck hC hcall hout hs he hk
 | some g =>
   obtain ⟨d,want⟩:=g;have ht:=hs.t d;dsimp only at he ⊢;split at he
   ·rename_i b e;rw [e] at ht;rw [show A.t d=.lit (.bool b) from ht];dsimp only;cases hb:cond b want (!want) with
    | true =>
      simp only [hb,cond_true] at he;rw [if_pos (ZhQ hb)];exact Zck hC hcall hout hs he hk
    | false =>
      simp only [hb,cond_false] at he;rw [if_neg (ZhR hb)];exact Zbv hC hs he hk
   ·cases (condS he).1
   ·cases (condS he).1
   ·cases he
theorem ZcH (hC:CfgOk C) (hcall:Jz C call) (hout:out=true→ro=none) {un:Bool}:∀ (l:List GOp) (σ:Sg) (s s':ES) (A:AF) (H:AH),RA C.P σ s A H→ZbH C call N rb out un l s=some s' →
 (∀ σ' A' H',Ext σ σ'→RA C.P σ' s' A' H'→Q .normal A' H')→vcL2 ⟨C.P,N,ro⟩ l Q A H
 | [],σ,s,s',A,H,hs,he,hk=>by
   simp only [ZbH,Option.some.injEq] at he;subst he;exact hk σ A H (Ext.refl σ) hs
 | o::l,σ,s,s',A,H,hs,he,hk=>by
   simp only [ZbH] at he;split at he
   ·rename_i s1 h1;exact ZhA hC hcall hout hs h1 fun σ1 A1 H1 hx hs1=>ZcH hC hcall hout l σ1 s1 s' A1 H1 hs1 he fun σ' A' H' hx'=>hk σ' A' H' (hx.trans hx')
   ·cases he
theorem ZcI (hC:CfgOk C) (hcall:Jz C call) (hout:out=true→ro=none):∀ (l:List GOp) (σ:Sg) (s s':ES) (A:AF) (H:AH),RA C.P σ s A H→ZbH C call N rb out false l s=some s' →
 (∀ σ' A' H',Ext σ σ'→RA C.P σ' s' A' H'→Q .normal A' H')→vcL ⟨C.P,N,ro⟩ l Q A H
 | [],σ,s,s',A,H,hs,he,hk=>by
   simp only [ZbH,Option.some.injEq] at he;subst he;exact hk σ A H (Ext.refl σ) hs
 | o::l,σ,s,s',A,H,hs,he,hk=>by
   simp only [ZbH] at he;split at he
   ·rename_i s1 h1;exact Jx hC hcall hout hs h1 fun σ1 A1 H1 hx hs1=>ZcI hC hcall hout l σ1 s1 s' A1 H1 hs1 he fun σ' A' H' hx'=>hk σ' A' H' (hx.trans hx')
   ·cases he
end
end Go.PV
end
