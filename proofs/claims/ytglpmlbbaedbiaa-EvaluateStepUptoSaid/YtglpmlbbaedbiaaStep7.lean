/- Part 7 of 11 of what the proof of Step needs. -/
import Derived.Test.YtglpmlbbaedbiaaStep6
import Derived.Test.YtglpmlbbaedbiaaStep5
set_option linter.unusedVariables false
set_option linter.unusedSimpArgs false
set_option linter.defProp false
section
open Go.PV.AH renaming set_none→Zpb,set_same→Zpc,set_ne→Zpg,ne_of→Zo6
open Go.PV.GhL renaming cons→Zpn
open Go.PV.GhV renaming refl→Zpt
open Go.PV.Hold renaming mk→Zo8
open Go.PV.PureF renaming forget→ZpF,use→Zpe
open Go.PV.SubH renaming new→Zph,of_set→Zpi,refl→Zpa
open List renaming getElem_mem→Zpk,drop→Zo9,drop_eq_nil_of_le→ZpC,drop_zero→ZpV
open Nat renaming reduceEqDiff→Zo5,reduceLT→Zo7,reduceAdd→Zpd,zero_add→Zpu
open Option renaming bind_some→ZpH,map_some→Zps
set_option maxRecDepth 20000
set_option maxHeartbeats 4000000
namespace Go.PV.Ytglpmlbbaedbiaa
open Go Go.Proofs
theorem esize_ok (e:Ex):e.sz≤1152921504606846976→PureF Try.prog 51 [exV e] (.tuple [iV e.sz,iV e.dp]):=by
 refine Ex.ind (p:=fun e=>e.sz≤1152921504606846976→PureF Try.prog 51 [exV e] (.tuple [iV e.sz,iV e.dp])) (fun e ih hs=>?_) e;have hz:=e.sz_eq;have hl:=YL e.kids;have ih':∀ i (h:i<e.kids.length),PureF Try.prog 51 [exV e.kids[i]] (.tuple [iV e.kids[i].sz,iV e.kids[i].dp]):=fun i h=>ih _ (Zpk h) (by have:=ZX (Zpk h); omega)
 clear ih;refine ZpF fun H=>?_
 refine ZK fd51 (by simp) ?_;delta c51 Zj Zf Zd Zb Ze Zq;obtain ⟨N,D,hN,hD,hNs,hlN⟩:∃ N D,e.sz=N∧e.dp=D∧N≤1152921504606846976∧e.kids.length≤N:=⟨_,_,rfl,rfl,hs,by omega⟩
 have hDN:D≤N:=by have:=e.dp_le; omega
 have h0:1+exsSz e.kids=N:=by omega
 have h1:exsDp e.kids+1=D:=by rw [← hD,e.dp_eq]
 rw [hN,hD];clear hs hl hz hN hD
 (repeat' (first | (simp only [↓ZF,ZG,ptrV,intV,Zo5,Zo7,reduceCtorEq,ZJ,Zo9,undef,ZW,Yk,ZZ, *]) | (refine ZH fun zr zh=>?_; have zg:=zh; (try simp only [Zpb] at zg))))
 refine ZY (fun _ _ _ h=>h) (fun A H'=>SubH H H'∧A.d=[]∧A.t 9=exsV e.kids∧A.t 10=iV e.kids.length∧∃ (i n d:Nat),i≤e.kids.length∧A.t 11=iV i∧A.t 2=iV n∧A.t 3=iV d∧1+n+exsSz (e.kids.drop i)=N∧max d (exsDp (e.kids.drop i))+1=D)
  (fun A _=>match A.t 11 with | .lit (.int _ i)=>((e.kids.length:Int)-i).toNat | _=>0) ?_ ?_
 ·exact ⟨Zph zh,rfl,rfl,rfl,0,0,0,by omega,rfl,rfl,rfl,h0,by simpa using h1⟩
 ·clear h0 h1;rintro ⟨t,d⟩ H' ⟨hs',rfl,h9,h10,i,n,d,hi,h6,h4,h5,hn,hdd⟩;dsimp only at h9 h10 h4 h5 h6;delta b51_1 Zn Zr Zk Zb Zi Zg Zo Za Zh Zc Zq Zm
  (repeat' (first | (simp only [↓ZF,ZG,ZP,ptrV,Zo5,Zo7,Zpd,setAt,Zo9,vcMax,WL,Ye,YE,Yc,ZZ,ZlN, *]) | (refine Yf ?_ ?_<;>intro) | (refine Ya rfl (fun _ _ _ h=>h) ?_) | (refine ZH fun zr zh=>?_; have zg:=zh; (try simp only [Zpb] at zg)) | (refine Zpi ?_ ?_) | (exact SubH.none (by assumption) (by assumption)) | (refine Zpe (ih' _ (by assumption)) ?_) | (with_reducible refine And.intro ?_ ?_)))
  ·rename_i hlt;have e1:=Zed hlt;rw [ZO (n:=(i:Int)+1) (by omega) (by omega),ZO (n:=(n:Int)+(e.kids[i].sz:Int)) (by omega) (by omega)];exact ⟨i+1,n+e.kids[i].sz,max d e.kids[i].dp,by omega,rfl,by simp,by simp; split<;>omega,by omega,by rw [Zee hlt] at hdd; omega⟩
  ·rename_i hlt;rw [ZO (n:=(i:Int)+1) (by omega) (by omega)];omega
  ·rename_i hlt;rw [ZpC (by omega)] at hn hdd;delta c51_1 Za Zm Zc;have hn':N=n+1:=by simp [exsSz] at hn; omega
   have hd':D=d+1:=by simpa [exsDp] using hdd.symm
   rw [show (N:Int)=(n:Int)+1 by omega,show (D:Int)=(d:Int)+1 by omega];have w1:IntKind.i64.wrap ((n:Int)+1)=(n:Int)+1:=ZO (by omega) (by omega);have w2:IntKind.i64.wrap ((d:Int)+1)=(d:Int)+1:=ZO (by omega) (by omega);clear hn hn' hd' hdd hDN hlN hNs
   (repeat' (first | (simp only [↓ZF,ZG,Zo5,Zo7, *])))
   exact YD rfl (by simp only [resV,Xi,Xh,ZI,Zo5,if_true,if_false,ZpH,Zps,tupV, *]<;>rfl) ⟨rfl,hs'⟩
theorem sd_ok {p:Pr} (hnd:NdP p) {m1 m2:Nat}:∀ (n:Nat) (e:Ex) (nm:List ByteArray) (H:AH),e.sz<n→e.sz≤1099511627776→nm.length+e.sz≤1099511627776→e.nmOk→TabAt H (.agg (tabE m1 m2)) p→ReadF Try.prog 60 [.agg (tabE m1 m2),exV e,strsV nm] (iV (e.sdF p nm)) H:=by
 intro n
 induction n with
 | zero=>intro e nm H h0; omega
 | succ n ih =>
   intro e nm H h0 hs hb hnm hv;have z:=e.sz_eq;have hkl:=YL e.kids;rw [Ex.nmOk_iff] at hnm;obtain ⟨a1,a2,ha,hm1,hm2⟩:=hv;obtain ⟨rfl,rfl⟩:a1=m1∧a2=m2:=by simpa [tabE,eq_comm] using ha
   refine sd_node (nk:=e.kids.length) (hb:=hasF nm e.name) (nb:=true) (by omega) (by omega) (by have:=hnm.1; unfold maxLen; omega) rfl (fun nm' hl i h H hv'=>?_) hm1 hm2 (ZhJ hnd.funs _) (conMk_at hnd.cons _) (Zi0 nm e.name (by omega)) (sdOwn p e nm) rfl (e.sdF_eq p nm)
   have:=ZX (Zpk h)
   exact ih _ _ _ (by omega) (by omega) (by omega) (hnm.2 _ (Zpk h)) hv'
theorem Zls {α:Type} {p:α→Bool} {l:List α} (h:¬ 0≤idxF p l):∀ x∈l,p x=false:=by
 rcases WA p l with ⟨_,h2⟩ | ⟨j,hj,h1,_⟩
 ·exact h2
 ·omega
theorem Zlt {α:Type} {f:α→ByteArray}:∀ {l:List α},(∀ i (h:i<l.length),∀ x∈l.take i,¬ f x=f l[i])→(l.map f).Nodup:=fun {l} h=>by
 rw [List.Nodup,List.pairwise_iff_getElem];intro i j hi hj hij;simp only [List.length_map] at hi hj;simp only [List.getElem_map];exact h j hj _ (List.mem_take_iff_getElem.2 ⟨i,by omega,rfl⟩)
theorem ZeI {all:List Co}:∀ {l:List Co} {i:Nat},Zbw all l i=0→∀ k (h:k<l.length),∀ x∈all.take (i+k),¬ x.name=l[k].name
 | c::l,i,h,k,hk,x,hx=>by
   rw [Zbw] at h;split at h
   ·split at h
    ·cases h
    ·split at h
     ·cases h
     ·rename_i h3;cases k with
      | zero =>
        have:=Zls h3 x hx
        simpa using this
      | succ k =>
        exact ZeI h k (by simpa using hk) x (by rw [show i+1+k=i+(k+1) by omega]; exact hx)
   ·cases h
theorem Zg3 {p:Pr} {R:Int}:∀ {l:List Fu} {i:Nat},JA R p l i=0→(∀ k (h:k<l.length),ZbR p (i+k) l[k]=0)∧R=0
 | [],i,h=>⟨fun k hk=>by simp at hk,h⟩
 | f::l,i,h=>by
   rw [JA] at h;split at h
   ·rename_i h1;obtain ⟨h2,h3⟩:=Zg3 h;refine ⟨fun k hk=>?_,h3⟩;cases k with
    | zero=>exact h1
    | succ k=>have:=h2 k (by simpa using hk); rw [show i+1+k=i+(k+1) by omega] at this; exact this
   ·rename_i h1; exact absurd h h1
theorem Za5 {p:Pr} (h:Jh p=0):p.funs.length≤100∧Zbx p.cons=0∧(∀ k (h:k<p.funs.length),ZbR p k p.funs[k]=0)∧Ws p p.funs=0:=by
 unfold Jh at h;split at h
 ·cases h
 ·split at h
  ·rename_i h1 h2;have h3:=Zg3 h;refine ⟨by omega,h2,fun k hk=>?_,h3.2⟩
   have:=h3.1 k hk
   rwa [Zpu] at this
  ·rename_i h1 h2; exact absurd h h2
theorem ZhK {p:Pr} (h:Jh p=0):NdP p:=by
 obtain ⟨h1,h2,h3,_⟩:=Za5 h;refine ⟨Zlt fun i hi x hx=>?_,Zlt fun i hi x hx=>?_⟩
 ·have:=h3 i hi
  unfold ZbR at this;split at this
  ·split at this
   ·cases this
   ·rename_i h4;have h5:=Zls (fun h=>h4 (.inr h)) x hx;simpa using h5
  ·cases this
 ·unfold Zbx at h2;split at h2
  ·cases h2
  ·have:=ZeI h2 i hi x (by simpa using hx)
   exact this
noncomputable def Wm (p:Pr) (e:Ex):Int:=if Jh p=0 then (if 5000<e.sz then 7 else if 200<e.dp then 6 else e.sdF p []) else Jh p
theorem Zkq {H:AH} {t:Nat→VV} {r sp:Nat} {c:Int} {a b:Option Nat} {e':TypeId} {K:VE→AH→Prop} (h4:t 4=ptrV r 0) (h5:t 5=iV c) (k4:H r=some (.cells e' [.lit (.map a),.lit (.map b)] sp)) (hk:K (.ret (.tuple [.agg [.lit (.map a),.lit (.map b)],iV c])) H):YP Try.prog [.cell 4 115,.tmp 5] K .ret ⟨t,[]⟩ H :=
 YD rfl (by simp only [resV,Xi,Xh,WJ,h4,h5,k4,ptrV,ZpV,Zkl,ZpH,Zps,tupV]) hk
theorem Zlu {p:Pr} {e:Ex} (hp:PrOk p) (hs:e.sz≤1099511627776) (hn:e.nmOk) {H:AH} {K:VE→AH→Prop}
 (hK:∀ a b H',SubH H H'→(Wm p e=0→TabAt H' (.agg [.lit (.map a),.lit (.map b)]) p)→K (.ret (.tuple [.agg [.lit (.map a),.lit (.map b)],iV (Wm p e)])) H'):ZU Try.prog 43 [prV p,exV e] H K:=by
 have hck:=check_ok hp;have hsz:=esize_ok e (by omega)
 have htb:∀ (H:AH) (K:VE→AH→Prop),(∀ m1 m2 H',SubH H H'→TabAt H' (.agg (tabE m1 m2)) p→K (.ret (.agg (tabE m1 m2))) H')→ZU Try.prog 59 [prV p] H K:=fun H K hK=>Zoq (p:=p) (H0:=H) (K:=K) hp.cons hp.funs (fun c hc=>by have:=hp.cnames c hc; unfold maxLen; omega) (fun c hc=>by have:=hp.fnames c hc; unfold maxLen; omega) (fun v H' h1 h2=>by
  obtain ⟨m1,m2,rfl,h3⟩:=h2;exact hK m1 m2 H' h1 ⟨m1,m2,rfl,h3⟩)
 have hsd:=fun (h:Jh p=0) H m1 m2=>sd_ok (ZhK h) (m1:=m1) (m2:=m2) (e.sz+1) e [] H (by omega) hs (by simpa using hs) hn
 refine ZK fd43 (by simp) ?_;delta c43 Zj Zi Zf Zb Zo Zr Zc Za Zm Zq Zg Zh;unfold Wm at hK;replace hK:=Zo8 hK;clear hp hs hn;by_cases hz:Jh p=0
 ·replace hsd:=hsd hz;rw [hz] at hck;rw [if_pos hz] at hK;clear hz;by_cases h1:5000<e.sz
  ·have h1':(5000:Int)<(e.sz:Int):=by omega
   rw [if_pos h1] at hK
   (repeat' (first | (simp only [↓ZF,ZG,ZP,ptrV,Zo5,Zo7,Zpd,ZJ,ZQ,fillV,setAt,Zo9,undef,Zbk,Ye,WD,ZgK,Xz,ZlO,ZlN, *]) | (refine ZH fun zr zh=>?_; have zg:=zh; (try simp only [Zpb] at zg)) | (refine Zpe (hck) ?_) | (refine Zpe (hsz) ?_)))
   rename_i r3 n3 n3' r5 n5 n5';exact Zkq (by simp only [ZI,Zo5,if_true,if_false, *]<;>rfl) (by simp only [ZI,Zo5,if_true,if_false, *]<;>rfl) (Zpc _ _ _) (hK.out _ _ _ (((Zph n3).of_set n5'.2).of_set zg.2.2) (fun h=>by cases h))
  ·have h1':¬ (5000:Int)<(e.sz:Int):=by omega
   rw [if_neg h1] at hK;by_cases h2:200<e.dp
   ·have h2':(200:Int)<(e.dp:Int):=by omega
    rw [if_pos h2] at hK
    (repeat' (first | (simp only [↓ZF,ZG,ZP,ptrV,Zo5,Zo7,Zpd,ZJ,ZQ,fillV,setAt,Zo9,undef,Zbk,Ye,WD,ZgK,Xz,ZlO,ZlN, *]) | (refine ZH fun zr zh=>?_; have zg:=zh; (try simp only [Zpb] at zg)) | (refine Zpe (hck) ?_) | (refine Zpe (hsz) ?_)))
    rename_i r3 n3 n3' r5 n5 n5';exact Zkq (by simp only [ZI,Zo5,if_true,if_false, *]<;>rfl) (by simp only [ZI,Zo5,if_true,if_false, *]<;>rfl) (Zpc _ _ _) (hK.out _ _ _ (((Zph n3).of_set n5'.2).of_set zg.2.2) (fun h=>by cases h))
   ·have h2':¬ (200:Int)<(e.dp:Int):=by omega
    rw [if_neg h2] at hK;generalize e.sdF p []=R at *
    (repeat' (first | (simp only [↓ZF,ZG,ZP,ptrV,Zo5,Zo7,ZJ,Zo9,undef,Zbk,Ye,Xz,ZlO,ZlN,en_59, *]) | (refine ZH fun zr zh=>?_; have zg:=zh; (try simp only [Zpb] at zg)) | (refine Zpe (hck) ?_) | (refine Zpe (hsz) ?_)))
    rename_i r2 n2 n2' r3 n3 n3';refine htb _ _ (fun m1 m2 H' hs' hv'=>?_);have hsH:=(((Zph n2).of_set n3'.2).of_set zg.2.2).trans hs';have k3:H' r3=some (.cells 34 [iV e.op,sV e.name,encS exE e.kids] 0):=hs' _ _ (by rw [Zpg _ _ zg.1.2]; exact Zpc _ _ _);have k4:=hs' _ _ (Zpc _ _ _);have g4:H zr=none:=zg.2.2;generalize zr=r4 at *
    have hc:=fun H2 (h:SubH H' H2)=>hsd H2 m1 m2 (hv'.mono h)
    replace hv':=Zo8 hv';clear n2 n2' n3 n3' zg zh hck hsz htb hsd
    (repeat' (first | (simp only [↓ZF,ZG,ptrV,Zo5,Zo7,Zpd,setAt,Zo9,Ye,WJ,WD,Xz,en_60, *]) | (refine ZR mixed (fun _ _ _ _ e h=>⟨e.trans h.1,h.2⟩) _ (Zpa _) ?_) | (refine ZH fun zr zh=>?_; have zg:=zh; (try simp only [Zpb] at zg); (try have zn_k3:=Zo6 k3 zh); (try have zn_k3:=Zo6 k3 zg.2); (try have zn_k3:=Zo6 k3 zg.2.2); (try have zn_k4:=Zo6 k4 zh); (try have zn_k4:=Zo6 k4 zg.2); (try have zn_k4:=Zo6 k4 zg.2.2))))
    refine YU (Zpn (Zpt _ _) (Zpn (Zpt _ _) (Zpn (GhV.nil _) (GhL.nil _)))) ?_;refine (hc _ (Zph zh)).use ?_
    (repeat' (first | (simp only [↓ZF,ZG,Zo5,Zo7,Zpd,setAt,WD, *]) | (exact Zpa _) | (with_reducible refine And.intro ?_ ?_)))
    refine Zkq (by simp only [ZI,Zo5,if_true,if_false, *]<;>rfl) (by simp only [ZI,Zo5,if_true,if_false, *]<;>rfl) (Zpc _ _ _) (hK.out _ _ _ ((hsH.of_set (hsH.none zh)).of_set g4) (fun _=>?_));obtain ⟨a1,a2,ha,x1,x2⟩:=hv'.out;obtain ⟨rfl,rfl⟩:a1=m1∧a2=m2:=by simpa [tabE,eq_comm] using ha
    exact ⟨a1,a2,rfl,by rw [Zpg _ _ (Jr k4 x1).2,Zpg _ _ (Zo6 x1 zh).1]; exact x1,by rw [Zpg _ _ (Jr k4 x2).2,Zpg _ _ (Zo6 x2 zh).1]; exact x2⟩
 ·rw [if_neg hz] at hK
  (repeat' (first | (simp only [↓ZF,ZG,ptrV,Zo5,Zo7,Zpd,ZJ,ZQ,fillV,setAt,Zo9,undef,Zbk,WD,ZgK,Xz,ZlO, *]) | (refine ZH fun zr zh=>?_; have zg:=zh; (try simp only [Zpb] at zg)) | (refine Zpe (hck) ?_)))
  rename_i r3 n3 n3' r5 n5 n5';exact Zkq (by simp only [ZI,Zo5,if_true,if_false, *]<;>rfl) (by simp only [ZI,Zo5,if_true,if_false, *]<;>rfl) (Zpc _ _ _) (hK.out _ _ _ (((Zph n3).of_set n5'.2).of_set zg.2.2) (fun h=>absurd h hz))
end Go.PV.Ytglpmlbbaedbiaa
end
section
open List renaming all_cons→ZpU
open Nat renaming le_refl→Zpl
namespace Go.PV.Ytglpmlbbaedbiaa
open Go Go.Proofs
theorem ZbG {α:Type} {f g:α→Bool}:∀ {l:List α},(∀ x∈l,f x=g x)→l.all f=l.all g
 | [],_=>rfl
 | x::l,h=>by rw [ZpU,ZpU,h x (by simp),ZbG fun y hy=>h y (by simp [hy])]
abbrev noNm:ByteArray:={ data:=#[] }
def Ex.inner (e:Ex):Option (Ex × List Ex):=if e.op=4 then (match e.kids with | k::r=>if k.op=4 then some (k,r) else none | []=>none) else none
def flatN:Nat→Ex→Ex
 | 0,e=>e
 | n+1,e=>match e.inner with
   | some (k,r)=>flatN n (.mk 4 noNm (k.kids++r))
   | none=>e
def Ex.flat (e:Ex):Ex:=flatN e.sz e
theorem Ex.inner_some {e k:Ex} {r:List Ex} (h:e.inner=some (k,r)):e.op=4∧e.kids=k::r∧k.op=4:=by
 unfold Ex.inner at h;split at h
 ·rename_i h1;split at h
  ·rename_i k' r' h2;split at h
   ·cases h; exact ⟨h1,h2,by assumption⟩
   ·cases h
  ·cases h
 ·cases h
theorem Ex.inner_sz {e k:Ex} {r:List Ex} (h:e.inner=some (k,r)):(Ex.mk 4 noNm (k.kids++r)).sz+1=e.sz:=by
 obtain ⟨h1,h2,h3⟩:=Ex.inner_some h;rw [e.sz_eq,h2,Ex.sz_eq];show 1+exsSz (k.kids++r)+1=_;rw [ZeE,exsSz,k.sz_eq]; omega
theorem Zlv:∀ (n m:Nat) (e:Ex),e.sz≤n→e.sz≤m→flatN n e=flatN m e
 | 0,m,e,h,_=>by have:=e.sz_pos; omega
 | n+1,0,e,_,h=>by have:=e.sz_pos; omega
 | n+1,m+1,e,h,h'=>by
   rw [flatN,flatN];cases hi:e.inner with
   | none=>rfl
   | some x =>
     obtain ⟨k,r⟩:=x
     have:=Ex.inner_sz hi
     exact Zlv n m _ (by omega) (by omega)
theorem Ex.flat_some {e k:Ex} {r:List Ex} (h:e.inner=some (k,r)):e.flat=(Ex.mk 4 noNm (k.kids++r)).flat:=by
 have hs:=Ex.inner_sz h;obtain ⟨n,hn⟩:∃ n,e.sz=n+1:=⟨e.sz-1,by have:=e.sz_pos; omega⟩
 rw [Ex.flat,hn,flatN,h,Ex.flat];exact Zlv _ _ _ (by omega) (Zpl _)
theorem Ex.flat_none {e:Ex} (h:e.inner=none):e.flat=e:=by
 obtain ⟨n,hn⟩:∃ n,e.sz=n+1:=⟨e.sz-1,by have:=e.sz_pos; omega⟩
 rw [Ex.flat,hn,flatN,h]
theorem Ex.flat_ind {p:Ex→Prop} (hp:∀ e k r,e.inner=some (k,r)→p e→p (.mk 4 noNm (k.kids++r))):∀ (n:Nat) (e:Ex),e.sz≤n→p e→p e.flat∧e.flat.inner=none∧e.flat.sz≤e.sz
 | 0,e,h,_=>by have:=e.sz_pos; omega
 | n+1,e,h,he=>by
   cases hi:e.inner with
   | none=>rw [Ex.flat_none hi]; exact ⟨he,hi,Zpl _⟩
   | some x =>
     obtain ⟨k,r⟩:=x;have hs:=Ex.inner_sz hi;rw [Ex.flat_some hi];obtain ⟨h1,h2,h3⟩:=Ex.flat_ind hp n _ (by omega) (hp _ _ _ hi he);exact ⟨h1,h2,by omega⟩
theorem Ex.flat_inner (e:Ex):e.flat.inner=none:=(Ex.flat_ind (p:=fun _=>True) (fun _ _ _ _ _=>trivial) e.sz e (Zpl _) trivial).2.1
theorem Ex.flat_sz (e:Ex):e.flat.sz≤e.sz:=(Ex.flat_ind (p:=fun _=>True) (fun _ _ _ _ _=>trivial) e.sz e (Zpl _) trivial).2.2
theorem Ex.flat_op (e:Ex) (h:e.op=4):e.flat.op=4:=(Ex.flat_ind (p:=fun e=>e.op=4) (fun _ _ _ _ _=>rfl) e.sz e (Zpl _) h).1
def arFu (l:List Fu) (n:ByteArray):Int:=match l[(atFu l n).toNat]? with | some c=>c.arity | none=>0
def isVn (p:Pr):Nat→Ex→Bool
 | 0,_=>false
 | n+1,e=>if e.op=5 then true else if e.op=2 then decide (0<arFu p.funs e.name) else if e.op=3 then e.kids.all (isVn p n) else if e.op=4 then
     (match e.flat.kids with | k::r=>decide (k.op=2) && (decide ((r.length:Int)<arFu p.funs k.name) && r.all (isVn p n)) | []=>false) else false
def Ex.isV (p:Pr) (e:Ex):Bool:=isVn p e.sz e
theorem Zg4 {p:Pr}:∀ (n m:Nat) (e:Ex),e.sz≤n→e.sz≤m→isVn p n e=isVn p m e
 | 0,m,e,h,_=>by have:=e.sz_pos; omega
 | n+1,0,e,_,h=>by have:=e.sz_pos; omega
 | n+1,m+1,e,h,h'=>by
   have hz:=e.sz_eq;have h1:e.kids.all (isVn p n)=e.kids.all (isVn p m):=ZbG fun x hx=>Zg4 n m x (by have:=ZX hx; omega) (by have:=ZX hx; omega)
   rw [isVn,isVn,h1];have hf:=e.flat_sz;have hfz:=e.flat.sz_eq;cases hk:e.flat.kids with
   | nil=>rfl
   | cons k r =>
     have h2:r.all (isVn p n)=r.all (isVn p m):=ZbG fun x hx=>by
      have h3:=ZX (l:=e.flat.kids) (e:=x) (by rw [hk]; simp [hx]);exact Zg4 n m x (by omega) (by omega)
     dsimp only;rw [h2]
theorem Ex.isV_eq (p:Pr) (e:Ex):e.isV p=if e.op=5 then true else if e.op=2 then decide (0<arFu p.funs e.name) else if e.op=3 then e.kids.all (·.isV p) else if e.op=4 then
 (match e.flat.kids with | k::r=>decide (k.op=2) && (decide ((r.length:Int)<arFu p.funs k.name) && r.all (·.isV p)) | []=>false) else false:=by
 obtain ⟨n,hn⟩:∃ n,e.sz=n+1:=⟨e.sz-1,by have:=e.sz_pos; omega⟩
 have hz:=e.sz_eq;have h1:e.kids.all (isVn p n)=e.kids.all (·.isV p):=ZbG fun x hx=>Zg4 n _ x (by have:=ZX hx; omega) (Zpl _)
 have hf:=e.flat_sz;have hfz:=e.flat.sz_eq;rw [Ex.isV,hn,isVn,h1];cases hk:e.flat.kids with
 | nil=>rfl
 | cons k r =>
   have h2:r.all (isVn p n)=r.all (·.isV p):=ZbG fun x hx=>by
    have h3:=ZX (l:=e.flat.kids) (e:=x) (by rw [hk]; simp [hx]);exact Zg4 n _ x (by omega) (Zpl _)
   dsimp only;rw [h2]
theorem ZnI {p:Pr} {l:List Ex} {b:List ByteArray}:sdsF p l b=0↔∀ k∈l,k.sdF p b=0:=by
 induction l with
 | nil=>simp [sdsF]
 | cons k l ih =>
   rw [sdsF]
   constructor
   ·intro h;split at h
    ·rename_i h1;intro x hx;rcases List.mem_cons.1 hx with rfl | hx
     ·exact h1
     ·exact ih.1 h x hx
    ·rename_i h1; exact absurd h h1
   ·intro h;rw [if_pos (h k (by simp))];exact ih.2 fun x hx=>h x (by simp [hx])
theorem Xn {p:Pr} {e:Ex} {b:List ByteArray}:e.sdF p b=0↔sdOwn p e b=0∧∀ k∈e.kids,k.sdF p (if e.op=5 then b++[e.name] else b)=0:=by
 rw [e.sdF_eq]
 constructor
 ·intro h;split at h
  ·rename_i h1; exact ⟨h1,ZnI.1 h⟩
  ·rename_i h1; exact absurd h h1
 ·rintro ⟨h1,h2⟩;rw [if_pos h1]; exact ZnI.2 h2
theorem XT {p:Pr} {e:Ex} {b:List ByteArray}:sdOwn p e b=0 ↔
 formB e.op e.kids.length (!decide (e.name=noNm))=true∧(e.op=2→0≤atFu p.funs e.name)∧(e.op=3→0≤atCo p.cons e.name∧(e.kids.length:Int)=arCo p.cons e.name)∧(e.op=1→e.name∈b):=by
 unfold sdOwn;rw [← Zfc (l:=b)];generalize formB e.op e.kids.length (!decide (e.name=noNm))=fb;generalize hasF b e.name=hb;generalize atFu p.funs e.name=af;generalize atCo p.cons e.name=ac;generalize arCo p.cons e.name=ar;generalize (e.kids.length:Int)=nk;generalize e.op=op;cases fb with
 | false=>simp
 | true =>
   by_cases h2:op=2
   ·subst h2; by_cases h:af<0<;>simp [h]<;>omega
   ·by_cases h3:op=3
    ·subst h3;by_cases h4:ac<0
     ·simp [h4]; omega
     ·by_cases h5:nk=ar
      ·simp [h4,h5]; omega
      ·simp [h4,h5]
    ·by_cases h1:op=1
     ·subst h1; cases hb<;>simp
     ·simp [h1,h2,h3]
theorem ZhL {p:Pr} {b:List ByteArray} {e k:Ex} {r:List Ex} (hi:e.inner=some (k,r)) (he:e.sdF p b=0):(Ex.mk 4 noNm (k.kids++r)).sdF p b=0:=by
 obtain ⟨h1,h2,h3⟩:=Ex.inner_some hi;have he':=Xn.1 he;rw [h1] at he';simp only [show ¬ (4:Int)=5 by decide,if_false] at he';have hk:=Xn.1 (he'.2 k (by rw [h2]; simp));rw [h3] at hk;simp only [show ¬ (4:Int)=5 by decide,if_false] at hk;have f1:=(XT.1 he'.1).1;have f2:=(XT.1 hk.1).1;rw [h1,h2] at f1;rw [h3] at f2;refine Xn.2 ⟨XT.2 ⟨?_,by simp [Ex.op],by simp [Ex.op],by simp [Ex.op]⟩,?_⟩
 ·simp [formB] at f1 f2
  change formB 4 ((k.kids++r).length:Nat) (!decide (noNm=noNm))=true
  simp [formB];omega
 ·simp only [Ex.op,Ex.kids,show ¬ (4:Int)=5 by decide,if_false];intro x hx;rcases List.mem_append.1 hx with hx | hx
  ·exact hk.2 x hx
  ·exact he'.2 x (by rw [h2]; simp [hx])
theorem Zfu {p:Pr} {b:List ByteArray} {e:Ex} (h:e.sdF p b=0):e.flat.sdF p b=0 :=
 (Ex.flat_ind (p:=fun e=>e.sdF p b=0) (fun e k r hi he=>ZhL hi he) e.sz e (Zpl _) h).1
theorem ZdN {p:Pr} {b:List ByteArray} {e:Ex} (h:e.sdF p b=0) (h4:e.op=4):e.name=noNm∧∃ k1 k2 r,e.kids=k1::k2::r:=by
 have h1:=(XT.1 (Xn.1 h).1).1;rw [h4] at h1;simp [formB] at h1;refine ⟨h1.2,?_⟩;cases hk:e.kids with
 | nil=>rw [hk] at h1; simp at h1
 | cons k1 l =>
   cases l with
   | nil=>rw [hk] at h1; simp at h1
   | cons k2 r=>exact ⟨k1,k2,r,rfl⟩
end Go.PV.Ytglpmlbbaedbiaa
end
section
namespace Go.PV
open Go
theorem least {p:Nat→Prop} {n:Nat} (h:p n):∃ m,p m∧∀ k,k<m→¬ p k:=by
 induction n using Nat.strongRecOn with
 | _ n ih =>
   by_cases hk:∃ k,k<n∧p k
   ·obtain ⟨k,h1,h2⟩:=hk; exact ih k h1 h2
   ·exact ⟨n,h,fun k hk' hp=>hk ⟨k,hk',hp⟩⟩
theorem ZfQ {cx:Cx} {Q:APost} {A:AF} {H:AH} {a:ACode} (hQ:Zbi Q) (I:Nat→AF→AH→Prop) {n0:Nat} (h0:I n0 A H)
 (round:∀ n A H,I n A H→∀ R:AF→AH→Prop,(∀ m A' H',m<n→I m A' H'→R A' H')→vc cx a (thenA R Q) A H):ACx cx (.loop a) Q A H:=by
 classical
 have hm:∀ A H,∃ m,(∃ n,I n A H)→I m A H∧∀ k,k<m→¬ I k A H:=fun A H=>by
  by_cases h:∃ n,I n A H
  ·obtain ⟨n,hn⟩:=h;obtain ⟨m,h1,h2⟩:=least (p:=fun n=>I n A H) hn;exact ⟨m,fun _=>⟨h1,h2⟩⟩
  ·exact ⟨0,fun h'=>absurd h' h⟩
 refine ZY hQ (fun A H=>∃ n,I n A H) (fun A H=>Classical.choose (hm A H)) ⟨n0,h0⟩ fun A H hI=>?_
 have hc:=Classical.choose_spec (hm A H) hI;refine round _ A H hc.1 _ fun m A' H' hlt hI'=>⟨⟨m,hI'⟩,?_⟩
 have hc':=Classical.choose_spec (hm A' H') ⟨m,hI'⟩;refine Nat.lt_of_le_of_lt (Nat.le_of_not_lt fun hk=>hc'.2 m hk hI') hlt
end Go.PV
end
section
open Go.PV.AH renaming set_none→Zpb,set_same→Zpc,get→Zpf,set_ne→Zpg
open Go.PV.Hold renaming mk→Zo8
open Go.PV.PureF renaming forget→ZpF,use→Zpe
open Go.PV.SubH renaming refl→Zpa,new→Zph
open Int renaming reduceLE→ZpZ
open List renaming take_append_drop→Zqi,length_append→Zpy,take_of_length_le→ZpD,drop_zero→ZpV,drop→Zo9
open Nat renaming reduceEqDiff→Zo5,reduceLT→Zo7,reduceMul→ZpQ,reduceAdd→Zpd,reduceLeDiff→Zpo
open Option renaming map_none→ZpS,map_some→Zps,bind_some→ZpH
set_option maxRecDepth 20000
set_option maxHeartbeats 4000000
namespace Go.PV.Ytglpmlbbaedbiaa
open Go Go.Proofs
theorem grow_ok (n:Nat) (hn:n≤1099511627776) {H:AH} {K:VE→AH→Prop} (hK:∀ v H',OwnX H H' 34 3 v 0 []→K (.ret v) H'):ZU Try.prog 104 [.lit (.slice none 0 0),iV n] H K:=by
 refine ZK fd104 (by simp) ?_;delta c104 Zq Za Zm Zr Ze Zn Zc;replace hK:=Zo8 hK;have w0:IntKind.i64.wrap ((0:Int)-0)=0:=ZO (by omega) (by omega);have w1:IntKind.i64.wrap ((n:Int)-0)=(n:Int):=by rw [ZO (by omega) (by omega)]; omega
 have z0:((0:Nat):Int)=0:=rfl;by_cases h0:0<n
 ·have h0':(0:Int)<(n:Int):=by omega
  have hn0:¬ (n:Int)<0:=by omega
  have hn63:n * 48≤140737488355328:=by omega
  (repeat' (first | (simp only [↓ZF,ZG,↓s_cap,s_capL,intV,Zo5,Zo7,Nat.zero_ne_one,reduceCtorEq,ZJ,undef,ZpZ,Int.toNat_zero,YC,ZpS,Zps,Xj,idxV,idxOk,ZZ, *]) | (with_reducible refine And.intro ?_ ?_)))
  ·exact fun h=>trivial
  ·refine ⟨34,3,48,_,.i64,.i64,n,ZZ,Yc,rfl,by omega,by kernel_rfl,rfl,rfl,h0,hn63,by omega,fun g c hg h1 h2=>?_⟩;have hz:¬ ((c:Int)<0):=by omega
   (repeat' (first | (simp only [↓ZF,ZG,intV,Zo5,Zo7,ZpQ,Nat.reduceSub,Nat.zero_ne_one,reduceCtorEq,ZpZ,Int.toNat_zero,YC,ZpS,Zps,Xj,idxV,idxOk,ZZ, *]) | (refine ZM ?_) | (with_reducible refine And.intro ?_ ?_)))
   ·exact fun h=>trivial
   ·exact Nat.zero_le _
   ·rw [ite_self,Nat.sub_zero];exact hK.out _ _ (.inr ⟨g,c,c * 3,rfl,hg,rfl,by simp,by simp,Nat.zero_le _,h2⟩)
 ·have hn:(n:Int)=0:=by omega
  clear w1
  (repeat' (first | (simp only [↓ZF,ZG,↓s_cap,s_capL,intV,Zo5,Zo7,Nat.zero_ne_one,reduceCtorEq,ZJ,undef,Int.reduceLT,ZZ, *]) | (refine ZM ?_)))
  exact hK.out _ _ (OwnX.nil _ _ _)
abbrev exssE (l:List Ex):List VV:=[exsV l]
theorem ZmW (a:Ex):(exE a).all VV.one=true:=by rw [WU]; rfl
theorem Zos (ex:Bool) (L:List (List Ex)) (hL:L.length≤1099511627776) (hs:L.flatten.length≤1099511627776):PureF Try.prog 87 [.slice ex L.length (encC exssE L)] (exsV L.flatten):=by
 have htk:∀ i,(L.take i).flatten.length≤1099511627776:=fun i=>by
  have e:=congrArg (fun l=>l.flatten.length) (Zqi i L);simp only [List.flatten_append,Zpy] at e;omega
 refine Wl.pure fun H=>?_
 refine ZK fd87 (by simp) ?_;delta c87 Zq Zf Za Ze
 (repeat' (first | (simp only [↓ZF,ZG,intV,Zo5,Zo7,reduceCtorEq,ZJ,undef,Zfq, *])))
 refine ZY (fun _ _ _ h=>h) (fun A H'=>H'=H∧A.d=[]∧A.t 0=.slice ex L.length (encC exssE L)∧A.t 9=.slice ex L.length (encC exssE L)∧A.t 10=iV L.length∧∃ (i:Nat),i≤L.length∧A.t 11=iV i∧A.t 3=iV ((L.take i).flatten.length:Nat))
  (fun A _=>match A.t 11 with | .lit (.int _ i)=>((L.length:Int)-i).toNat | _=>0) ?_ ?_
 ·exact ⟨rfl,rfl,rfl,rfl,rfl,0,by omega,rfl,rfl⟩
 ·rintro ⟨t,d⟩ H' ⟨rfl,rfl,h0,h9,h10,i,hi,h11,h3⟩;dsimp only at h0 h9 h10 h11 h3;delta b87_1 Zn Zr Zk Zb Zc Za Ze Zm Zq;by_cases hlt:i<L.length
  ·have hil:(i:Int)<(L.length:Int):=by omega
   have hdi:(encC exssE L).drop i=exsV L[i]::encC exssE (L.drop (i+1)):=ZaZ (enc:=fun l:List Ex=>exsV l) hlt;have hsn:(L.take (i+1)).flatten.length=(L.take i).flatten.length+L[i].length:=by rw [YM hlt,List.flatten_append,Zpy]; simp
   have h1:=htk (i+1);have w1:IntKind.i64.wrap (((L.take i).flatten.length:Int)+(L[i].length:Int))=((L.take (i+1)).flatten.length:Int):=by rw [ZO (by omega) (by omega)]; omega
   have hge:¬ ((L.take (i+1)).flatten.length:Int)<0:=by omega
   clear hsn
   (repeat' (first | (simp only [↓ZF,ZG,intV,Zo5,Zo7,reduceCtorEq,Yk,Zfq,ZZ, *]) | (with_reducible refine And.intro ?_ ?_)))
   all_goals rw [ZO (n:=(i:Int)+1) (by omega) (by omega)]
   ·exact ⟨i+1,by omega,rfl,rfl⟩
   ·omega
  ·have hil:¬ (i:Int)<(L.length:Int):=by omega
   rw [ZpD (by omega)] at h3
   (repeat' (first | (simp only [↓ZF,ZG,Zo7, *])))
   delta c87_2 Za Zo Zr Zc Ze Zq;refine Ya rfl (fun _ _ _ h=>h) ?_
   (repeat' (first | (simp only [↓ZF,ZG,intV,Zo5,Zo7,reduceCtorEq,Zfq,en_104, *]) | (refine grow_ok _ hs (fun v H2 ho=>?_))))
   refine ZY (fun _ _ _ h=>h) (fun A H2=>A.d=[]∧A.t 25=.slice ex L.length (encC exssE L)∧A.t 26=iV L.length∧∃ (k:Nat) (Hb:AH),k≤L.length∧A.t 27=iV k∧SubH H' Hb∧OwnX Hb H2 34 3 (A.t 6) (L.take k).flatten.length (encC exE (L.take k).flatten))
    (fun A _=>match A.t 27 with | .lit (.int _ i)=>((L.length:Int)-i).toNat | _=>0) ?_ ?_
   ·exact ⟨rfl,(by simp only [ZI,Zo5,if_true,if_false, *]<;>rfl),(by simp only [ZI,Zo5,if_true,if_false, *]<;>rfl),0,_,by omega,(by simp only [ZI,Zo5,if_true,if_false, *]<;>rfl),Zpa _,by simp only [ZI,Zo5,if_true,if_false]; exact ho⟩
   ·clear ho h0 h9 h10 h11 h3;rintro ⟨t,d⟩ H2 ⟨rfl,h25,h26,k,Hb,hk,h27,hsb,ho⟩;dsimp only at h25 h26 h27 ho;delta b87_2 Zn Zr Zk Zb Zc Za Zl Zm;by_cases hkt:k<L.length
    ·have hkl:(k:Int)<(L.length:Int):=by omega
     have hdk:(encC exssE L).drop k=exsV L[k]::encC exssE (L.drop (k+1)):=ZaZ (enc:=fun l:List Ex=>exsV l) hkt;have h1:=htk (k+1);have e:(L.take (k+1)).flatten=(L.take k).flatten++L[k]:=by rw [YM hkt,List.flatten_append]; simp
     rw [e,Zpy] at h1
     (repeat' (first | (simp only [↓ZF,ZG,Zo5,Zo7,Yk,Zfq, *])))
     refine Za0 ZZ Yc rfl (by omega) ho (Zcm (enc:=exE) (k:=3) Zbv _ false _) (Zbb ZmW _) (by omega) (by omega) (fun v' H'' ho2=>?_);rw [← Yu,← Zpy,← e] at ho2
     (repeat' (first | (simp only [↓ZF,ZG,Zo5,Zo7, *]) | (with_reducible refine And.intro ?_ ?_)))
     all_goals rw [ZO (n:=(k:Int)+1) (by omega) (by omega)]
     ·exact ⟨k+1,_,by omega,rfl,hsb,ho2⟩
     ·omega
    ·have hkl:¬ (k:Int)<(L.length:Int):=by omega
     rw [ZpD (by omega)] at ho
     (repeat' (first | (simp only [↓ZF,ZG,Zo7, *]) | (refine Ya rfl (fun _ _ _ h=>h) ?_)))
     delta c87_1 Za Zc
     (repeat' (first | (simp only [↓ZF,ZG,Zo5,Zo7, *]) | (refine ZM ?_)))
     exact ⟨_,rfl,GhV.back ho hsb⟩
theorem Zmg (a b:List Ex) (h:a.length+b.length≤1099511627776):PureF Try.prog 87 [.slice true 2 [exsV a,exsV b]] (exsV (a++b)):=by
 have:=Zos true [a,b] (by simp) (by simpa using h)
 have e1:encC exssE [a,b]=[exsV a,exsV b]:=by rw [Yh,Yh]; rfl
 have e2:[a,b].flatten=a++b:=by simp
 rw [e1,e2] at this;exact this
theorem fl_ret {H0 H:AH} {t:Nat→VV} {r:Nat} {x:Ex} {e':TypeId} (h2:t 2=ptrV r 0) (k2:H r=some (.cells e' [iV x.op,sV x.name,encS exE x.kids] 0)) (hs:SubH H0 H):YP Try.prog [.cell 2 34] (fun e H'=>e=.ret (exV x)∧SubH H0 H') .ret ⟨t,[]⟩ H :=
 YD rfl (by simp only [resV,Xi,Xh,Ye,h2,k2,ptrV,ZpV,XY,ZpH,Zps,tupV]) ⟨rfl,hs⟩
theorem ZnJ {p:Pr} {b:List ByteArray} {e:Ex} (hsd:e.sdF p b=0) (hs:e.sz≤1099511627776):PureF Try.prog 70 [exV e] (exV e.flat):=by
 refine ZpF fun H0=>?_
 refine ZK fd70 (by simp) ?_;delta c70 Zj Zi;obtain ⟨F,hF⟩:∃ F,F=e.flat:=⟨_,rfl⟩
 rw [← hF];replace hF:=Zo8 hF
 (repeat' (first | (simp only [↓ZF,ZG,ptrV,Zo7,ZJ,undef,Yc, *]) | (refine ZH fun zr zh=>?_; have zg:=zh; (try simp only [Zpb] at zg))))
 rename_i r1 n1 n1';have d12:=zg.1.2;have d21:=zg.1.1;have g2:=zg.2
 refine Za2 (fun t H=>t 1=ptrV r1 0∧t 2=ptrV zr 0∧SubH H0 H∧(∃ a b c,H zr=some (.cells 34 [a,b,c] 0))∧∃ e':Ex,H r1=some (.cells 34 [iV e'.op,sV e'.name,encS exE e'.kids] 0)∧F=e'.flat∧e'.sdF p b=0∧e'.sz≤1099511627776)
  ⟨(by simp only [ZI,Zo5,if_true,if_false, *]<;>rfl),(by simp only [ZI,Zo5,if_true,if_false, *]<;>rfl),(Zph n1).of_set zg.2,⟨_,_,_,Zpc _ _ _⟩,e,(by simp only [Zpf, *,if_true,if_false]<;>rfl),hF.out,hsd,hs⟩ ?_
 clear hsd hs hF zh zg;generalize zr=r2 at *
 rintro t B ⟨h1,h2,hsb,k2,e1,k1,hF,hsd,hs⟩
 refine ZfQ (fun _ _ _ h=>h) (fun n A H'=>A.d=[]∧A.t 1=ptrV r1 0∧A.t 2=ptrV r2 0∧SubH H0 H'∧(∃ a b c,H' r2=some (.cells 34 [a,b,c] 0))∧∃ e':Ex,H' r1=some (.cells 34 [iV e'.op,sV e'.name,encS exE e'.kids] 0)∧F=e'.flat∧e'.sdF p b=0∧e'.sz≤1099511627776∧e'.sz=n)
  (n0:=e1.sz) ⟨rfl,h1,h2,hsb,k2,e1,k1,hF,hsd,hs,rfl⟩ ?_
 clear h1 h2 hsb k2 k1 hF hsd hs;rintro n ⟨t,d⟩ H' ⟨rfl,h1,h2,hsb,⟨a,b',c,k2⟩,e',k1,hF,hsd,hs,hn⟩ R hRR;dsimp only at h1 h2;delta b70_1 Zd Zb Zm Za Zp Zr Zq Zo Zg;cases hi:e'.inner with
 | some x =>
   obtain ⟨k,r⟩:=x;obtain ⟨i1,i2,i3⟩:=Ex.inner_some hi;have hz:=Ex.inner_sz hi;have hzk:=k.sz_eq;have hkl:=YL (k.kids++r);have hz2:=Ex.sz_eq (Ex.mk 4 noNm (k.kids++r));have hcc:=Zmg k.kids r (by rw [Zpy] at hkl; change _=1+exsSz (k.kids++r) at hz2; omega)
   have hnew:=Zo8 (show (Ex.mk 4 noNm (k.kids++r)).sz<n∧F=(Ex.mk 4 noNm (k.kids++r)).flat∧(Ex.mk 4 noNm (k.kids++r)).sdF p b=0∧(Ex.mk 4 noNm (k.kids++r)).sz≤1099511627776 from by
    exact ⟨by omega,by rw [hF,Ex.flat_some hi],ZhL hi hsd,by omega⟩)
   rw [i1,i2] at k1;have ek:encS exE (k::r)=.slice false (r.length+1) (iV k.op::sV k.name::encS exE k.kids::encC exE r):=by rw [encS,Yh,WU]; rfl
   rw [ek,i3] at k1;clear hz hzk hkl hz2 hF hsd hs hn ek i1 i2;replace hRR:=Zo8 hRR;have hl0:(0:Int)<((r.length+1:Nat):Int):=by omega
   (repeat' (first | (simp only [↓ZF,ZG,ptrV,Zo5,Zo7,Zpd,ZpQ,Zpo,ZQ,fillV,setAt,Zo9,Ze5,ZpZ,ZN,Int.toNat_zero,Nat.zero_mul,Int.reduceToNat,YC,ZpS,Zps,Xj,idxV,idxOk,imp_self,ZQ,ZT,ZW,Yg,Yk,YE,JR,ZZ,Zfq,zeroT_32,en_87, *]) | (refine ZR mixed (fun _ _ _ _ e h=>⟨e.trans h.1,h.2⟩) _ (Zpa _) ?_) | (refine Zpe (hcc) ?_)))
   have hn:=hnew.out;exact hRR.out _ _ _ hn.1 ⟨rfl,by simp only [ZI,Zo5,if_false]; exact h1,by simp only [ZI,Zo5,if_false]; exact h2,hsb.of_set n1,⟨a,b',c,by rw [Zpg _ _ d21]; exact k2⟩,Ex.mk 4 noNm (k.kids++r),Zpc _ _ _,hn.2.1,hn.2.2.1,hn.2.2.2,rfl⟩
 | none =>
   by_cases h4:e'.op=4
   ·obtain ⟨hnn,k,k2',r,hk⟩:=ZdN hsd h4;have hk4:¬ k.op=4:=fun h=>by simp [Ex.inner,h4,hk,h] at hi
    have ek:encS exE (k::k2'::r)=.slice false (r.length+2) (iV k.op::sV k.name::encS exE k.kids::encC exE (k2'::r)):=by rw [encS,Yh,WU]; rfl
    have e1:=Ex.flat_none hi;rw [e1] at hF;replace hF:=Zo8 hF;have k1':=k1;rw [h4,hk,ek] at k1;have hl0:(0:Int)<((r.length+2:Nat):Int):=by omega
    replace ek:=Zo8 ek;clear hi hsd hs hn e1
    (repeat' (first | (simp only [↓ZF,ZG,ptrV,Zo5,Zo7,Zo9,ZpZ,Int.toNat_zero,Nat.zero_mul,ZT,ZW,Yg,Yk,ZZ, *]) | (refine Ya rfl (fun _ _ _ h=>h) ?_)))
    delta c70_1 Zb Zg
    (repeat' (first | (simp only [↓ZF,ZG,ptrV,Zo5,Zo7,Zpd,setAt,Zo9,Ye,YE, *])))
    refine fl_ret (r:=r2) (x:=F) (e':=34) (by simp only [ZI,Zo5,if_false]; exact h2) ?_ (hsb.of_set g2);rw [Zpc,hF.out,h4,hk,ek.out,hnn]
   ·have e1:=Ex.flat_none hi;rw [e1] at hF;replace hF:=Zo8 hF;clear hi hsd hs hn e1
    (repeat' (first | (simp only [↓ZF,ZG,ptrV,Zo5,Zo7,Yb,ZJ,Zo9,undef,ZT,Yg, *]) | (refine Ya rfl (fun _ _ _ h=>h) ?_)))
    delta c70_1 Zb Zg
    (repeat' (first | (simp only [↓ZF,ZG,ptrV,Zo5,Zo7,Zpd,setAt,Zo9,Ye,YE, *])))
    refine fl_ret (r:=r2) (x:=F) (e':=34) (by simp only [ZI,Zo5,if_false]; exact h2) ?_ (hsb.of_set g2);rw [Zpc,hF.out]
end Go.PV.Ytglpmlbbaedbiaa
end
section
open Bool renaming and_self→Zp3,false_eq_true→ZpT
open Go.PV.AH renaming get→Zpf,set_set→ZpA,set_none→Zpb,set_same→Zpc
open Go.PV.GhL renaming cons→Zpn
open Go.PV.GhV renaming refl→Zpt,forget→ZpB
open Go.PV.Hold renaming mk→Zo8
open Go.PV.PureF renaming use→Zpe
open Go.PV.SubH renaming new→Zph,refl→Zpa
open List renaming map_cons→Zpp,map_nil→Zpw,length_cons→Zpx,length_nil→Zp0,getD_cons_zero→ZpN,getD_cons_succ→ZpK,getD_nil→ZpL,all_cons→ZpU,drop→Zo9,set_cons_zero→Zp5,set_cons_succ→Zp4,drop_zero→ZpV,drop_eq_getElem_cons→ZpI,drop_eq_nil_of_le→ZpC,getElem_mem→Zpk,length_append→Zpy
open Nat renaming reduceEqDiff→Zo5,reduceLT→Zo7,reduceAdd→Zpd,succ_ne_self→Zpv,zero_add→Zpu,le_refl→Zpl,reduceMul→ZpQ,reduceLeDiff→Zpo
open Option renaming bind_some→ZpH,map_some→Zps,map_none→ZpS
set_option maxRecDepth 20000
set_option maxHeartbeats 4000000
namespace Go.PV.Ytglpmlbbaedbiaa
open Go Go.Proofs
mutual
theorem Ex.put_nil:∀ e:Ex,e.put []=e
 | .mk op n ks=>by
   rw [Ex.put,List.filter_nil,ite_self,Zg5 ks]
   have:(if op=1 then lastB [] n else none)=none:=by split<;>rfl
   rw [this]
theorem Zg5:∀ l:List Ex,ZdL l []=l
 | []=>rfl
 | k::ks=>by rw [ZdL,Ex.put_nil k,Zg5 ks]
end
theorem ZfR (e:Ex) (hs:e.sz≤1099511627776):PureF Try.prog 49 [exV e] (exV e):=by
 have hp:=ZmV (e.sz+1) e [] (by omega) hs (by simp);rw [e.put_nil] at hp;refine Wl.pure fun H0=>?_
 refine ZK fd49 (by simp) ?_;delta c49 Zj Zi Zb Zo Zr Zg
 (repeat' (first | (refine YU (Zpn (Zpt _ _) (Zpn (GhV.nil _) (GhL.nil _))) (Zpe hp ?_)) | (simp only [↓Xx,↓Xy,↓ZaU,↓XA,↓Yo,↓Ys,↓YJ,↓YG,↓WP,↓YH,↓WQ,↓YI,↓YT,↓Wk,↓ZI,↓YR,↓Wu,↓XQ,↓Zax,↓Xk,↓YX,ptrV,Zpp,Zpw,Zpx,Zp0,ZpN,ZpK,ZpL,ite_true,ite_false,Zo5,Zo7,Zpd,true_and,Zpv,ZJ,Zpf,ZpA,setAt,ZpU,List.all_nil,Zp3,eq_self,Zpu,Zo9,XY,JH,JS,Xw,JN,Zp5,Zp4,↓XS,Xt,↓Zaz,Zpl,Wf,Wg,XF,Zbe,Zbf,undef,Ye,YE,Yc,ZoO, *]) | (refine ZH fun zr zh=>?_; have zg:=zh; (try simp only [Zpb] at zg))))
 rename_i r1 n1 n1';refine ZcU Ye (by simp only [ZI,Zo5,if_true,if_false, *]<;>rfl) (Zpc _ _ _) (by rw [ZpV]; exact XY _ _ _ _) ?_;refine ⟨_,rfl,ZpB ((Zph n1).of_set zg.2) _⟩
mutual
def Pa.parts:Pa→Ex→List Bd→List Bd × Bool
 | .mk c n ks,e,l=>if c=true then (if e.op=3∧e.name=n∧e.kids.length=ks.length then Yi ks e.kids l else (l,false)) else (l++[(n,e)],true)
def Yi:List Pa→List Ex→List Bd→List Bd × Bool
 | [],_,l=>(l,true)
 | p::ps,e::es,l=>match p.parts e l with
   | (l',true)=>Yi ps es l'
   | (l',false)=>(l',false)
 | _::_,[],l=>(l,false)
end
theorem Pa.parts_eq (p:Pa) (e:Ex) (l:List Bd):p.parts e l=if p.con=true then (if e.op=3∧e.name=p.name∧e.kids.length=p.kids.length then Yi p.kids e.kids l else (l,false)) else (l++[(p.name,e)],true):=by
 cases p; rw [Pa.parts]; rfl
mutual
theorem Pa.parts_len:∀ (p:Pa) (e:Ex) (l:List Bd),(p.parts e l).1.length≤l.length+p.sz
 | .mk c n ks,e,l=>by
   have:=Zb0 ks e.kids l
   rw [Pa.parts,Pa.sz];split
   ·split
    ·omega
    ·simp
   ·simp
theorem Zb0:∀ (ps:List Pa) (es:List Ex) (l:List Bd),(Yi ps es l).1.length≤l.length+pasSz ps
 | [],_,l=>by simp [Yi]
 | p::ps,e::es,l=>by
   have h1:=Pa.parts_len p e l;rw [Yi,pasSz];split
   ·rename_i l' h;have h2:=Zb0 ps es l';rw [h] at h1;simp only at h1;omega
   ·rename_i l' h;rw [h] at h1;simp only at h1 ⊢;omega
 | _::_,[],l=>by simp [Yi]
end
theorem ZdO {ps:List Pa} {es:List Ex} {l:List Bd} {i:Nat} (h:i<ps.length) (h':i<es.length):Yi (ps.drop i) (es.drop i) l=if (ps[i].parts es[i] l).2=true then Yi (ps.drop (i+1)) (es.drop (i+1)) (ps[i].parts es[i] l).1 else (ps[i].parts es[i] l):=by
 rw [ZpI h,ZpI h',Yi];generalize ps[i].parts es[i] l=r;obtain ⟨l',b⟩:=r;cases b<;>rfl
abbrev prtV (r:List Bd × Bool):VV:=.tuple [bdsV r.1,bV r.2]
def prQ (H0:AH) (R:List Bd × Bool):APost:=YP Try.prog [.tmp 6,.tmp 7] fun e H'=>∃ y,e=VE.ret y∧GhV H' y H0 (prtV R)
theorem Zem {H0 H:AH} {t:Nat→VV} {ps:List Pa} {es:List Ex} {l:List Bd} {b:Bool} {r3 r4:Nat} {x0 x1 y0 y1:VV} {R:List Bd × Bool} (hN:ps.length≤1099511627776) (hbl:b=true→es.length=ps.length) (hl:l.length+pasSz ps≤1099511627776)
 (ih':∀ i (h:i<ps.length) (h':i<es.length) (l:List Bd),l.length+ps[i].sz≤1099511627776→PureF Try.prog 35 [paV ps[i],exV es[i],bdsV l] (prtV (ps[i].parts es[i] l)))
 (hR:R=if b=true then Yi ps es l else (l,false)) (h2:t 2=bdsV l) (h3:t 3=ptrV r3 0) (h4:t 4=ptrV r4 0) (h8:t 8=bV b) (h9:t 9=iV 0)
 (k3:H r3=some (.cells 57 [x0,x1,encS paE ps] 0)) (k4:H r4=some (.cells 34 [y0,y1,encS exE es] 0)) (hs:SubH H0 H) :
 ACx ⟨Try.prog,72,none⟩ (.loop ZoW) (Xf 0 (thenA (ACx ⟨Try.prog,72,none⟩ ZlS (prQ H0 R)) (prQ H0 R))) ⟨t,[]⟩ H:=by
 refine ZY (fun _ _ _ h=>h) (fun A H'=>H'=H∧A.d=[]∧A.t 3=ptrV r3 0∧A.t 4=ptrV r4 0∧∃ (i:Nat) (m:List Bd) (b:Bool),i≤ps.length∧A.t 9=iV i∧A.t 2=bdsV m∧A.t 8=bV b∧(b=true→es.length=ps.length∧m.length+pasSz (ps.drop i)≤1099511627776)∧R=if b=true then Yi (ps.drop i) (es.drop i) m else (m,false))
  (fun A _=>match A.t 9 with | .lit (.int _ i)=>((ps.length:Int)-i).toNat | _=>0) ?_ ?_
 ·exact ⟨rfl,rfl,h3,h4,0,l,b,by omega,h9,h2,h8,fun h=>⟨hbl h,hl⟩,hR⟩
 ·clear hbl hR h2 h3 h4 h8 h9 hl;rintro ⟨t,d⟩ H' ⟨rfl,rfl,h3,h4,i,m,b,hi,h9,h2,h8,hb,hR⟩;dsimp only at h2 h3 h4 h8 h9;cases b with
  | false =>
    simp only [ZpT,if_false] at hR;subst hR;clear hb;delta ZoW Za Zd Zb Ze Zn Zp Zr Zq Zk Zo Zh Zc Zm;by_cases hlt:i<ps.length
    ·(repeat' (first | (simp only [↓ZF,ZG,ptrV,intV,Zo5,Zo7,reduceCtorEq,Zo9,XD,Wi,Xl, *]) | (refine Ya rfl (fun _ _ _ h=>h) ?_)))
     delta ZlS Za Zc
     (repeat' (first | (simp only [↓ZF,ZG,Zo5,Zo7, *])))
     exact YD rfl (by simp only [resV,Xi,Xh,ZI,Zo5,if_true,if_false,ZpH,Zps,tupV, *]<;>rfl) ⟨_,rfl,ZpB hs _⟩
    ·(repeat' (first | (simp only [↓ZF,ZG,ptrV,intV,Zo5,Zo7,reduceCtorEq,Yb,ZJ,Zo9,undef,XD,Wi,Xl, *]) | (refine Ya rfl (fun _ _ _ h=>h) ?_)))
     delta ZlS Za Zc
     (repeat' (first | (simp only [↓ZF,ZG,Zo5,Zo7, *])))
     exact YD rfl (by simp only [resV,Xi,Xh,ZI,Zo5,if_true,if_false,ZpH,Zps,tupV, *]<;>rfl) ⟨_,rfl,ZpB hs _⟩
  | true =>
    obtain ⟨hel,hml⟩:=hb rfl;simp only [if_true] at hR;clear hb;delta ZoW Za Zd Zb Ze Zn Zp Zr Zq Zk Zo Zh Zc Zm;by_cases hlt:i<ps.length
    ·have hlt':i<es.length:=by omega
     rw [ZdO hlt hlt'] at hR;have hd:=Zcb hlt;have hil:(i:Int)<(ps.length:Int):=by omega
     have hil':(i:Int)<(es.length:Int):=by omega
     have hc:=ih' i hlt hlt' m (by omega);have hpl:=Pa.parts_len ps[i] es[i] m;generalize ps[i].parts es[i] m=r at *
     obtain ⟨m',b'⟩:=r;simp only at hpl;have hnew:=Zo8 (show m'.length+pasSz (ps.drop (i+1))≤1099511627776 by omega);replace hR:=Zo8 hR;clear hd hml ih'
     (repeat' (first | (simp only [↓ZF,ZG,ZP,ptrV,intV,Zo5,Zo7,reduceCtorEq,Zo9,WM,WL,XD,ZW,Wi,XB,Yk,Ye,Xl,ZZ,en_35, *]) | (refine ZR mixed (fun _ _ _ _ e h=>⟨e.trans h.1,h.2⟩) _ (Zpa _) ?_) | (exact Zpa _) | (refine Zpe (hc) ?_) | (with_reducible refine And.intro ?_ ?_)))
     all_goals rw [ZO (n:=(i:Int)+1) (by omega) (by omega)]
     ·exact ⟨i+1,m',b',by omega,rfl,rfl,rfl,fun _=>hnew.out,by rw [hR.out]; cases b'<;>rfl⟩
     ·omega
    ·rw [ZpC (by omega)] at hR;simp only [Yi] at hR;subst hR
     (repeat' (first | (simp only [↓ZF,ZG,ptrV,intV,Zo5,Zo7,reduceCtorEq,Yb,ZJ,Zo9,undef,XD,Wi,Xl, *]) | (refine Ya rfl (fun _ _ _ h=>h) ?_)))
     delta ZlS Za Zc
     (repeat' (first | (simp only [↓ZF,ZG,Zo5,Zo7, *])))
     exact YD rfl (by simp only [resV,Xi,Xh,ZI,Zo5,if_true,if_false,ZpH,Zps,tupV, *]<;>rfl) ⟨_,rfl,ZpB hs _⟩
theorem parts_ok:∀ (n:Nat) (p:Pa) (e:Ex) (l:List Bd),p.sz<n→e.sz≤1099511627776→l.length+p.sz≤1099511627776→PureF Try.prog 35 [paV p,exV e,bdsV l] (prtV (p.parts e l)):=by
 intro n
 induction n with
 | zero=>intro p e l h; omega
 | succ n ih =>
   intro p e l h0 hs hl;have z1:=p.sz_eq;have z2:=e.sz_eq;have hkl:=XG p.kids;have hel:=YL e.kids;have ih':∀ i (h:i<p.kids.length) (h':i<e.kids.length) (l:List Bd),l.length+p.kids[i].sz≤1099511627776→PureF Try.prog 35 [paV p.kids[i],exV e.kids[i],bdsV l] (prtV (p.kids[i].parts e.kids[i] l)):=fun i h h' l hl=>ih _ _ l (by have:=Xd (Zpk h); omega) (by have:=ZX (Zpk h'); omega) hl
   have hcp:=ZfR e hs;refine Wl.pure fun H0=>?_
   refine ZK fd35 (by simp) ?_;delta c35 Zj Zq Zd Zb Zr Za Ze Zo Zl Zc Zm Zp Zf;rw [p.parts_eq];by_cases hc:p.con=true
   ·rw [if_pos hc];clear hcp;obtain ⟨R,hR⟩:∃ R,R=(if e.op=3∧e.name=p.name∧e.kids.length=p.kids.length then Yi p.kids e.kids l else (l,false)):=⟨_,rfl⟩
    rw [← hR];obtain ⟨b0,hb0⟩:∃ b0:Bool,b0=(decide (e.op=3) && (decide (e.name=p.name) && decide (e.kids.length=p.kids.length))):=⟨_,rfl⟩
    have hR':R=if b0=true then Yi p.kids e.kids l else (l,false):=by
     rw [hR,hb0];by_cases h1:e.op=3<;>by_cases h2:e.name=p.name<;>by_cases h3:e.kids.length=p.kids.length<;>simp [h1,h2,h3]
    have hbl:b0=true→e.kids.length=p.kids.length:=fun h=>by rw [hb0] at h; simp at h; exact h.2.2
    clear hR;replace hb0:=Zo8 hb0;replace hR':=Zo8 hR';replace hbl:=Zo8 hbl;have hkN:p.kids.length≤1099511627776:=by omega
    have hzl:=Zo8 (show l.length+pasSz p.kids≤1099511627776 by omega);clear hl hs z1 z2 hkl hel h0
    (repeat' (first | (simp only [↓ZF,ZG,↓ZaP,ptrV,intV,Zo5,Zo7,reduceCtorEq,Yb,ZJ,Zo9,undef,XD,ZW,WY,Wb,ZT,Yd,Wi,Yk,Zc3,Ym,Yg,Xl,ZZ, *]) | (refine JD ?_ ?_<;>intro) | (refine ZH fun zr zh=>?_; have zg:=zh; (try simp only [Zpb] at zg))))
    all_goals have z3:=zg.2
    ·rename_i r1 n1 n1' _ _;refine Zem (ps:=p.kids) (es:=e.kids) (l:=l) (b:=b0) (r3:=r1) (r4:=zr) hkN hbl.out hzl.out ih' hR'.out (by simp only [ZI,Zo5,if_false, *]<;>rfl) (by simp only [ZI,Zo5,if_true,if_false, *]<;>rfl) (by simp only [ZI,Zo5,if_true,if_false, *]<;>rfl) ?_ (by simp only [ZI,Zo5,if_true,if_false, *]<;>rfl) (by simp only [Zpf, *,if_true,if_false]<;>rfl) (Zpc _ _ _) ((Zph n1).of_set zg.2);simp only [ZI,Zo5,if_true,if_false];rw [hb0.out];simp [*];omega
    ·rename_i r1 n1 n1' _ _;refine Zem (ps:=p.kids) (es:=e.kids) (l:=l) (b:=b0) (r3:=r1) (r4:=zr) hkN hbl.out hzl.out ih' hR'.out (by simp only [ZI,Zo5,if_false, *]<;>rfl) (by simp only [ZI,Zo5,if_true,if_false, *]<;>rfl) (by simp only [ZI,Zo5,if_true,if_false, *]<;>rfl) ?_ (by simp only [ZI,Zo5,if_true,if_false, *]<;>rfl) (by simp only [Zpf, *,if_true,if_false]<;>rfl) (Zpc _ _ _) ((Zph n1).of_set zg.2);simp only [ZI,Zo5,if_true,if_false];rw [hb0.out];simp [*]
    ·rename_i r1 n1 n1' _;refine Zem (ps:=p.kids) (es:=e.kids) (l:=l) (b:=b0) (r3:=r1) (r4:=zr) hkN hbl.out hzl.out ih' hR'.out (by simp only [ZI,Zo5,if_false, *]<;>rfl) (by simp only [ZI,Zo5,if_true,if_false, *]<;>rfl) (by simp only [ZI,Zo5,if_true,if_false, *]<;>rfl) ?_ (by simp only [ZI,Zo5,if_true,if_false, *]<;>rfl) (by simp only [Zpf, *,if_true,if_false]<;>rfl) (Zpc _ _ _) ((Zph n1).of_set zg.2);simp only [ZI,Zo5,if_true,if_false];rw [hb0.out];simp [*]
   ·have hc':p.con=false:=by simpa using hc
    rw [if_neg hc];have hb1:(l.length+1) * 72≤140737488355328:=by omega
    clear ih' z1 z2 hkl hel hc h0
    (repeat' (first | (simp only [↓ZF,ZG,ptrV,intV,Zo5,Zo7,Zpd,ZpQ,Zpo,reduceCtorEq,ZJ,ZQ,fillV,setAt,Zo9,forall_const,undef,ZN,YC,ZpS,Zps,Xj,idxV,idxOk,ZN,WY,Wb,Ye,Zc3,Ym,WF,Zni,Zas,en_49, *]) | (refine ZR mixed (fun _ _ _ _ e h=>⟨e.trans h.1,h.2⟩) _ (Zpa _) ?_) | (refine ZH fun zr zh=>?_; have zg:=zh; (try simp only [Zpb] at zg)) | (exact Zpa _) | (refine Zpe (hcp) ?_) | (with_reducible refine And.intro ?_ ?_)))
    ·omega
    ·rw [show (l.length == l.length)=true from by simp,Nat.sub_zero];rename_i r1 n1 n1';refine ZeD Zas WF rfl (by omega) (XU (enc:=bdE) (k:=4) (fun _=>rfl) l) rfl rfl (by omega) (by omega) (fun v' H' ho=>?_)
     (repeat' (first | (simp only [↓ZF,ZG,Zo5,Zo7, *])))
     refine YD rfl (by simp only [resV,Xi,Xh,ZI,Zo5,if_true,if_false,ZpH,Zps,tupV, *]<;>rfl) ⟨_,rfl,?_⟩;refine GhV.tuple (Zpn ?_ (Zpn (Zpt _ _) (GhL.nil _)))
     have:=GhV.back ho ((Zph n1).of_set zg.2)
     rw [show encC bdE l++[VV.lit (.string p.name),iV e.op,sV e.name,encS exE e.kids]=encC bdE (l++[(p.name,e)]) from by rw [Yu]; rfl] at this;show GhV _ _ _ (.slice false (l++[(p.name,e)]).length _);rw [Zpy];exact this
end Go.PV.Ytglpmlbbaedbiaa
end
section
open Bool renaming false_eq_true→ZpT
open Go.PV.AH renaming set_none→Zpb,ne_of→Zo6,set_same→Zpc,get→Zpf
open Go.PV.GhL renaming cons→Zpn
open Go.PV.GhV renaming refl→Zpt,forget→ZpB
open Go.PV.Hold renaming mk→Zo8
open Go.PV.PureF renaming use→Zpe
open Go.PV.SubH renaming refl→Zpa,new→Zph,of_set→Zpi
open List renaming drop_zero→ZpV,drop_eq_getElem_cons→ZpI,getElem_mem→Zpk,length_nil→Zp0,drop→Zo9,drop_eq_nil_of_le→ZpC
open Nat renaming lt_succ_self→Zp8,reduceEqDiff→Zo5,reduceLT→Zo7,reduceAdd→Zpd
open Option renaming bind_some→ZpH,map_some→Zps
set_option maxRecDepth 20000
set_option maxHeartbeats 4000000
namespace Go.PV.Ytglpmlbbaedbiaa
open Go Go.Proofs
def zEx:Ex:=.mk 0 { data:=#[] } []
def WI (n:Int):List Cl→Int
 | []=>0
 | c::l=>if (c.pats.length:Int)=n then (if (ZV c.pats).Nodup then WI n l else 10) else 5
def selGo (vs:List Ex):List Cl→Nat→Int × Ex × Int
 | [],_=>(0,zEx,420)
 | c::l,i=>if (Yi c.pats vs []).2=true then ((i:Int),c.body.put (Yi c.pats vs []).1,0) else selGo vs l (i+1)
def Yn (f:Fu) (vs:List Ex):Int × Ex × Int :=
 if (vs.length:Int)=f.arity then (if WI f.arity f.cls=0 then selGo vs f.cls 0 else (0,zEx,WI f.arity f.cls)) else (0,zEx,5)
abbrev selV (r:Int × Ex × Int):VV:=.tuple [iV r.1,exV r.2.1,iV r.2.2]
def slQ (H0:AH) (R:Int × Ex × Int):APost:=YP Try.prog [.tmp 4,.cell 5 34,.tmp 6] fun e H'=>∃ y,e=VE.ret y∧GhV H' y H0 (selV R)
theorem Zir {H0 H:AH} {t:Nat→VV} {r sp:Nat} {k c:Int} {a b d:VV} {e':TypeId} {x:Ex} (h4:t 4=iV k) (h5:t 5=ptrV r 0) (h6:t 6=iV c) (k5:H r=some (.cells e' [a,b,d] sp)) (hg:GhV H (.agg [a,b,d]) H0 (exV x)):slQ H0 (k,x,c) .ret ⟨t,[]⟩ H:=by
 refine YD rfl (x:=.tuple [iV k,.agg [a,b,d],iV c]) (by simp only [resV,Xi,Xh,Ye,h4,h5,h6,k5,ptrV,ZpV,XY,ZpH,Zps,tupV]) ⟨_,rfl,?_⟩
 have h1:GhL H [iV k,.agg [a,b,d],iV c] H0 [iV k,exV x,iV c]:=by
  refine Zpn (Zpt _ _) (Zpn hg (Zpn (Zpt _ _) (GhL.nil _)))
 exact GhV.tuple h1
theorem Zkr {H0 H:AH} (hs:SubH H0 H):GhV H (.agg [iV 0,sV { data:=#[] },.lit (.slice none 0 0)]) H0 (exV zEx) :=
 GhV.agg (Zpn (Zpt _ _) (Zpn (Zpt _ _) (Zpn ((GhV.nil _).trans (ZpB hs _)) (GhL.nil _))))
theorem ZkM {n:Int} {l:List Cl} {i:Nat} (h:i<l.length):WI n (l.drop i)=if (l[i].pats.length:Int)=n then (if (ZV l[i].pats).Nodup then WI n (l.drop (i+1)) else 10) else 5:=by rw [ZpI h,WI]
theorem Zmh {vs:List Ex} {l:List Cl} {i k:Nat} (h:i<l.length):selGo vs (l.drop i) k=if (Yi l[i].pats vs []).2=true then ((k:Int),l[i].body.put (Yi l[i].pats vs []).1,0) else selGo vs (l.drop (i+1)) (k+1):=by rw [ZpI h,selGo]
theorem Zf6 {n:Int}:∀ {l:List Cl},WI n l=0→∀ c∈l,(c.pats.length:Int)=n∧(ZV c.pats).Nodup
 | c::l,h=>by
   rw [WI] at h;split at h
   ·rename_i h1;split at h
    ·rename_i h2;intro x hx;rcases List.mem_cons.1 hx with rfl | hx
     ·exact ⟨h1,h2⟩
     ·exact Zf6 h x hx
    ·cases h
   ·cases h
 | [],_=>by simp
theorem sel_loop {H0 H:AH} {t:Nat→VV} {cls:List Cl} {vs:List Ex} {r5:Nat} {R:Int × Ex × Int} (hN:clsSz cls≤1099511627776) (hv:vs.length≤1099511627776) (hvs:∀ e∈vs,e.sz≤1099511627776) (hp:∀ c∈cls,c.pats.length=vs.length)
 (hR:R=selGo vs cls 0) (h1:t 1=exsV vs) (h5:t 5=ptrV r5 0) (h41:t 41=clsV cls) (h42:t 42=iV cls.length) (h43:t 43=iV 0)
 (k5:H r5=some (.cells 34 Zx 0)) (n5:H0 r5=none) (hs:SubH H0 H) :
 ACx ⟨Try.prog,79,none⟩ (.loop b10_3) (Xf 2 (thenA (ACx ⟨Try.prog,79,none⟩ c10_3 (slQ H0 R)) (slQ H0 R))) ⟨t,[]⟩ H:=by
 have hcl:=Zcl Ze7 cls;have hclN:cls.length≤1099511627776:=by unfold clsSz at hN; omega
 have hb:∀ i (h:i<cls.length),clSz cls[i]≤1099511627776:=fun i h=>by have h1:=Jz (f:=clSz) (Zpk h); unfold clsSz at hN; omega
 have hbp:∀ i (h:i<cls.length) (l:List Bd),l.length≤1099511627776→PureF Try.prog 36 [exV cls[i].body,bdsV l] (exV (cls[i].body.put l)):=fun i h l hl=>ZmV _ _ l (Zp8 _) (by have h1:=hb i h; unfold clSz at h1; omega) hl
 have hpp:∀ i (h:i<cls.length) k (h':k<cls[i].pats.length) (h'':k<vs.length) (l:List Bd),l.length+cls[i].pats[k].sz≤1099511627776→PureF Try.prog 35 [paV cls[i].pats[k],exV vs[k],bdsV l] (prtV (cls[i].pats[k].parts vs[k] l)):=fun i h k h' h'' l hl =>
  parts_ok _ _ _ l (Zp8 _) (hvs _ (Zpk _)) hl
 have hpz:∀ i (h:i<cls.length),pasSz cls[i].pats≤1099511627776∧cls[i].pats.length=vs.length:=fun i h=>⟨by have h1:=hb i h; unfold clSz at h1; omega,hp _ (Zpk _)⟩
 clear hcl hN hb hvs hp
 refine ZY (fun _ _ _ h=>h) (fun A H'=>SubH H0 H'∧H' r5=some (.cells 34 Zx 0)∧A.d=[]∧A.t 1=exsV vs∧A.t 5=ptrV r5 0∧A.t 41=clsV cls∧A.t 42=iV cls.length∧∃ i:Nat,i≤cls.length∧A.t 43=iV i∧R=selGo vs (cls.drop i) i)
  (fun A _=>match A.t 43 with | .lit (.int _ i)=>((cls.length:Int)-i).toNat | _=>0) ?_ ?_
 ·exact ⟨hs,k5,rfl,h1,h5,h41,h42,0,by omega,h43,hR⟩
 ·clear hs k5 h1 h5 h41 h42 h43 hR;rintro ⟨t,d⟩ H ⟨hs,k5,rfl,h1,h5,h41,h42,i,hi,h43,hR⟩;dsimp only at h1 h5 h41 h42 h43;replace hR:=Zo8 hR;delta b10_3 Zn Zr Za Zk Zb Zi Zc Zg Zq Zf
  (repeat' (first | (simp only [↓ZF,ZG,ptrV,Zo5,Zo7,Zpd,setAt,ZdE,Zig,Zih,Za8,Zbj, *]) | (refine Yf ?_ ?_<;>intro) | (refine ZH fun zr zh=>?_; have zg:=zh; (try simp only [Zpb] at zg); (try have zn_k5:=Zo6 k5 zh); (try have zn_k5:=Zo6 k5 zg.2); (try have zn_k5:=Zo6 k5 zg.2.2))))
  ·have hlt:i<cls.length:=by assumption
   obtain ⟨hpz1,hpz2⟩:=hpz i hlt;have hpp':=hpp i hlt;have hbp':=hbp i hlt;have hg:=Zmh (vs:=vs) (k:=i) hlt;have hpn:=XG cls[i].pats;clear hpp hbp hpz;refine JY (Ghost.slot (i:=11) (x':=bdsV []) (by simp only [ZI,Zo5,if_true,if_false]; exact GhV.nil _)) ?_;obtain ⟨X,hX⟩:∃ X,X=Yi cls[i].pats vs []:=⟨_,rfl⟩
   rw [← hX] at hg;have hXl:X.1.length≤1099511627776:=by have:=Zb0 cls[i].pats vs []; rw [hX]; simp only [Zp0] at this; omega
   have sH:SubH H0 (H.set zr (.cells 93 [pasV cls[i].pats,iV cls[i].body.op,sV cls[i].body.name,exsV cls[i].body.kids] 0)):=hs.of_set (hs.none zh);have q10:(H.set zr (.cells 93 [pasV cls[i].pats,iV cls[i].body.op,sV cls[i].body.name,exsV cls[i].body.kids] 0)) zr=some (.cells 93 [pasV cls[i].pats,iV cls[i].body.op,sV cls[i].body.name,exsV cls[i].body.kids] 0):=Zpc _ _ _;have q5:(H.set zr (.cells 93 [pasV cls[i].pats,iV cls[i].body.op,sV cls[i].body.name,exsV cls[i].body.kids] 0)) r5=some (.cells 34 Zx 0):=(by simp only [Zpf, *,if_false]<;>rfl)
   generalize H.set zr (.cells 93 [pasV cls[i].pats,iV cls[i].body.op,sV cls[i].body.name,exsV cls[i].body.kids] 0)=Hy at *
   refine ZY (fun _ _ _ h=>h) (fun A H'=>H'=Hy∧A.d=[]∧A.t 1=exsV vs∧A.t 5=ptrV r5 0∧A.t 9=iV i∧A.t 10=ptrV zr 0∧A.t 41=clsV cls∧A.t 42=iV cls.length∧A.t 43=iV i∧∃ (k:Nat) (m:List Bd) (b:Bool),k≤vs.length∧A.t 13=iV k∧A.t 11=bdsV m∧A.t 12=bV b∧(b=true→m.length+pasSz (cls[i].pats.drop k)≤1099511627776)∧X=if b=true then Yi (cls[i].pats.drop k) (vs.drop k) m else (m,false))
    (fun A _=>match A.t 13 with | .lit (.int _ i)=>((vs.length:Int)-i).toNat | _=>0) ?_ ?_
   ·exact ⟨rfl,rfl,(by simp only [ZI,Zo5,if_false, *]<;>rfl),(by simp only [ZI,Zo5,if_false, *]<;>rfl),(by simp only [ZI,Zo5,if_true,if_false, *]<;>rfl),(by simp only [ZI,Zo5,if_true,if_false, *]<;>rfl),(by simp only [ZI,Zo5,if_false, *]<;>rfl),(by simp only [ZI,Zo5,if_false, *]<;>rfl),(by simp only [ZI,Zo5,if_false, *]<;>rfl),0,[],true,by omega,(by simp only [ZI,Zo5,if_true,if_false, *]<;>rfl),by simp only [ZI,Zo5,if_true,if_false],(by simp only [ZI,Zo5,if_true,if_false, *]<;>rfl),fun _=>by simpa using hpz1,hX⟩
   ·clear h1 h5 h41 h42 h43 hX zh zg zn_k5 k5 hs;rintro ⟨t,d⟩ H' ⟨rfl,rfl,h1,h5,h9,h10,h41,h42,h43,k,m,b,hk,h13,h11,h12,hb,hX⟩;dsimp only at h1 h5 h9 h10 h41 h42 h43 h13 h11 h12;have fin:∀ (t:Nat→VV),t 1=exsV vs→t 5=ptrV r5 0→t 9=iV i→t 10=ptrV zr 0→t 41=clsV cls→t 42=iV cls.length→t 43=iV i→t 11=bdsV X.1→t 12=bV X.2→True:=fun _ _ _ _ _ _ _ _ _ _=>trivial
    clear fin;cases b with
    | false =>
      simp only [ZpT,if_false] at hX;subst hX;clear hb;delta b10_2 Za Ze Zn Zp Zr Zq Zd Zb Zk Zo Zh Zc Zm;have hg2:R=selGo vs (cls.drop (i+1)) (i+1):=by rw [hR.out,hg]; simp
      replace hg2:=Zo8 hg2;clear hg hR;by_cases hkl:k<vs.length
      ·(repeat' (first | (simp only [↓ZF,ZG,ptrV,intV,Zo5,Zo7,reduceCtorEq,ZZ, *]) | (refine Ya rfl (fun _ _ _ h=>h) ?_)))
       delta ZoV Za Zr Zd Zb Zo Zc Zg Zf
       (repeat' (first | (simp only [↓ZF,ZG,Zo5,Zo7, *]) | (refine Ya rfl (fun _ _ _ h=>h) ?_)))
       delta c10_2 Zm Za
       (repeat' (first | (simp only [↓ZF,ZG,ptrV,Zo5,Zo7, *]) | (with_reducible refine And.intro ?_ ?_)))
       all_goals rw [ZO (n:=(i:Int)+1) (by omega) (by omega)]
       ·exact ⟨i+1,by omega,rfl,hg2.out⟩
       ·omega
      ·(repeat' (first | (simp only [↓ZF,ZG,ptrV,intV,Zo5,Zo7,reduceCtorEq,Yb,ZJ,undef,ZZ, *]) | (refine Ya rfl (fun _ _ _ h=>h) ?_)))
       delta ZoV Za Zr Zd Zb Zo Zc Zg Zf
       (repeat' (first | (simp only [↓ZF,ZG,Zo5,Zo7, *]) | (refine Ya rfl (fun _ _ _ h=>h) ?_)))
       delta c10_2 Zm Za
       (repeat' (first | (simp only [↓ZF,ZG,ptrV,Zo5,Zo7, *]) | (with_reducible refine And.intro ?_ ?_)))
       all_goals rw [ZO (n:=(i:Int)+1) (by omega) (by omega)]
       ·exact ⟨i+1,by omega,rfl,hg2.out⟩
       ·omega
    | true =>
      have hml:=hb rfl;simp only [if_true] at hX;clear hb;delta b10_2 Za Ze Zn Zp Zr Zq Zd Zb Zk Zo Zh Zc Zm;by_cases hkl:k<vs.length
      ·have hkp:k<cls[i].pats.length:=by omega
       rw [ZdO hkp hkl] at hX;have hd:=Zcb hkp;have hi1:(k:Int)<(vs.length:Int):=by omega
       have hi2:(k:Int)<(cls[i].pats.length:Int):=by omega
       have hc:=hpp' k hkp hkl m (by omega);have hpl:=Pa.parts_len cls[i].pats[k] vs[k] m;generalize cls[i].pats[k].parts vs[k] m=r at *
       obtain ⟨m',b'⟩:=r;simp only at hpl;have hnew:=Zo8 (show m'.length+pasSz (cls[i].pats.drop (k+1))≤1099511627776 by omega);replace hX:=Zo8 hX;replace hg:=Zo8 hg;clear hd hml hpp' hpz1 hpz2 hpn
       (repeat' (first | (simp only [↓ZF,ZG,ZP,ptrV,intV,Zo5,Zo7,reduceCtorEq,Zo9,WM,WL,Zal,Wi,XB,Ye,Xl,ZZ,en_35, *]) | (refine ZR mixed (fun _ _ _ _ e h=>⟨e.trans h.1,h.2⟩) _ (Zpa _) ?_) | (exact Zpa _) | (refine Zpe (hc) ?_) | (with_reducible refine And.intro ?_ ?_)))
       all_goals rw [ZO (n:=(k:Int)+1) (by omega) (by omega)]
       ·exact ⟨k+1,m',b',by omega,rfl,rfl,rfl,fun _=>hnew.out,by rw [hX.out]; cases b'<;>rfl⟩
       ·omega
      ·rw [ZpC (by omega)] at hX;simp only [Yi] at hX;subst hX;have hg2:R=((i:Int),cls[i].body.put m,0):=by rw [hR.out,hg]; simp
       have hbc:=hbp' m hXl;have hg2:=Zo8 hg2;clear hg hR
       (repeat' (first | (simp only [↓ZF,ZG,ptrV,intV,Zo5,Zo7,reduceCtorEq,Yb,ZJ,undef,ZZ, *]) | (refine Ya rfl (fun _ _ _ h=>h) ?_)))
       delta ZoV Za Zr Zd Zb Zo Zc Zg Zf
       (repeat' (first | (simp only [↓ZF,ZG,ptrV,Zo5,Zo7,Zpd,reduceCtorEq,setAt,Zo9,Zx,ZhB,Ye,YE,ZoO, *]) | (refine Zpe (hbc) ?_)))
       exact Zir (by simp only [ZI,Zo5,if_true,if_false, *]<;>rfl) (by simp only [ZI,Zo5,if_false, *]<;>rfl) (by simp only [ZI,Zo5,if_true,if_false, *]<;>rfl) (Zpc _ _ _) (ZpB (sH.of_set n5) _)
  ·have hie:i=cls.length:=by omega
   subst hie;have hg2:R=(0,zEx,420):=by rw [hR.out,ZpC (by omega)]; rfl
   rw [hg2];refine Ya rfl (fun _ _ _ h=>h) ?_;clear hR hg2;delta c10_3 Zq Zf Zg
   (repeat' (first | (simp only [↓ZF,ZG,ptrV,Zo5,Zo7,Zpd,ZQ,fillV,setAt,Zx,YE,JR, *])))
   exact Zir (by simp only [ZI,Zo5,if_true,if_false, *]<;>rfl) (by simp only [ZI,Zo5,if_false, *]<;>rfl) (by simp only [ZI,Zo5,if_true,if_false, *]<;>rfl) (Zpc _ _ _) (Zkr (hs.of_set n5))
theorem Zi3 (f:Fu) (vs:List Ex) (hf:fuSz f≤1099511627776) (hv:vs.length≤1099511627776) (hvs:∀ e∈vs,e.sz≤1099511627776) (hn:∀ c∈f.cls,∀ s∈ZV c.pats,s.size≤maxLen) :
 PureF Try.prog 10 [fuV f,exsV vs] (selV (Yn f vs)):=by
 refine Wl.pure fun H0=>?_
 show ZU Try.prog _ _ H0 _;refine ZK fd10 (by simp) ?_;show vc _ _ (slQ H0 (Yn f vs)) _ _;obtain ⟨R,hR⟩:∃ R,R=Yn f vs:=⟨_,rfl⟩
 rw [← hR];have hN:clsSz f.cls≤1099511627776:=by unfold fuSz at hf; omega
 have hcl:=Zcl Ze7 f.cls;have hclN:f.cls.length≤1099511627776:=by unfold clsSz at hN; omega
 have hb:∀ i (h:i<f.cls.length),pasSz f.cls[i].pats≤1099511627776:=fun i h=>by have h1:=Jz (f:=clSz) (Zpk h); have h2:clSz f.cls[i]=1+pasSz f.cls[i].pats+f.cls[i].body.sz:=rfl; unfold clsSz at hN; omega
 have hnm:∀ i (h:i<f.cls.length),PureF Try.prog 34 [pasV f.cls[i].pats] (strsV (ZV f.cls[i].pats)):=fun i h=>names_ok _ _ (Zp8 _) (hb i h)
 have htw:∀ i (h:i<f.cls.length),PureF Try.prog 33 [strsV (ZV f.cls[i].pats)] (boolV (!decide (ZV f.cls[i].pats).Nodup)):=fun i h=>twice_ok _ (by have h1:=JF f.cls[i].pats; have h2:=hb i h; omega) (hn _ (Zpk h))
 clear hcl hb hn;delta c10 Zj Zf Zi Za Ze Zd Zb Zn Zr Zq Zg;by_cases ha:(vs.length:Int)=f.arity
 ·have hR2:R=if WI f.arity f.cls=0 then selGo vs f.cls 0 else (0,zEx,WI f.arity f.cls):=by rw [hR,Yn,if_pos ha]
  clear hR;replace hR2:=Zo8 hR2
  (repeat' (first | (simp only [↓ZF,ZG,ptrV,intV,Zo5,Zo7,reduceCtorEq,ZJ,Zo9,undef,Wq,Za9,Yg,Zgq,Yc,Zbj,ZZ, *]) | (refine ZH fun zr zh=>?_; have zg:=zh; (try simp only [Zpb] at zg))))
  rename_i r2 n2 n2';obtain ⟨z1,z2⟩:=zg
  refine ZY (fun _ _ _ h=>h) (fun A H=>SubH H0 H∧H r2=some (.cells 40 [sV f.name,iV f.arity,clsV f.cls] 0)∧H zr=some (.cells 34 Zx 0)∧A.d=[]∧A.t 1=exsV vs∧A.t 2=ptrV r2 0∧A.t 5=ptrV zr 0∧A.t 21=clsV f.cls∧A.t 22=iV f.cls.length∧∃ i:Nat,i≤f.cls.length∧A.t 23=iV i∧WI f.arity f.cls=WI f.arity (f.cls.drop i))
   (fun A _=>match A.t 23 with | .lit (.int _ i)=>((f.cls.length:Int)-i).toNat | _=>0) ?_ ?_
  ·exact ⟨(Zph n2).of_set z2,(by simp only [Zpf, *,if_true,if_false]<;>rfl),Zpc _ _ _,rfl,(by simp only [ZI,Zo5,if_false, *]<;>rfl),(by simp only [ZI,Zo5,if_true,if_false, *]<;>rfl),(by simp only [ZI,Zo5,if_true,if_false, *]<;>rfl),(by simp only [ZI,Zo5,if_true,if_false, *]<;>rfl),(by simp only [ZI,Zo5,if_true,if_false, *]<;>rfl),0,by omega,(by simp only [ZI,Zo5,if_true,if_false, *]<;>rfl),rfl⟩
  ·clear zh n2';rintro ⟨t,d⟩ H ⟨hs,k2,k5,rfl,h1,h2,h5,h21,h22,i,hi,h23,hE⟩;dsimp only at h1 h2 h5 h21 h22 h23;have hE':=fun h:i<f.cls.length=>hE.trans (ZkM h)
   replace hE:=Zo8 hE;replace hE':=Zo8 hE';delta b10_1 Zn Zr Zk Zb Zi Zg Zd Ze Zq Zf Zo Zm Za
   (repeat' (first | (simp only [↓ZF,ZG,ptrV,intV,boolV,Zo5,Zo7,Zpd,reduceCtorEq,ZQ,fillV,setAt,Zo9,ZdE,Zx,Zal,Wq,Zig,Wi,Yg,Zih,YE,JR,Za8,Zbj,Xl,en_34,en_33, *]) | (refine Yf ?_ ?_<;>intro) | (refine Yp ?_ ?_<;>intro) | (refine ZH fun zr zh=>?_; have zg:=zh; (try simp only [Zpb] at zg); (try have zn_k2:=Zo6 k2 zh); (try have zn_k2:=Zo6 k2 zg.2); (try have zn_k2:=Zo6 k2 zg.2.2); (try have zn_k5:=Zo6 k5 zh); (try have zn_k5:=Zo6 k5 zg.2); (try have zn_k5:=Zo6 k5 zg.2.2)) | (refine Zpi ?_ ?_) | (exact SubH.none (by assumption) (by assumption)) | (refine Zpe (hnm _ (by assumption)) ?_) | (refine Zpe (htw _ (by assumption)) ?_) | (with_reducible refine And.intro ?_ ?_)))
   ·have hlt:i<f.cls.length:=by assumption
    have hp:¬ (f.cls[i].pats.length:Int)=f.arity:=by simpa using (by assumption:(!decide ((f.cls[i].pats.length:Int)=f.arity))=true)
    have he:WI f.arity f.cls=5:=by rw [hE'.out hlt,if_neg hp]
    rw [hR2.out,he,if_neg (by omega)];exact Zir (by simp only [ZI,Zo5,if_true,if_false, *]<;>rfl) (by simp only [ZI,Zo5,if_false, *]<;>rfl) (by simp only [ZI,Zo5,if_true,if_false, *]<;>rfl) (Zpc _ _ _) (Zkr ((hs.of_set (hs.none (by assumption))).of_set z2))
   ·have hlt:i<f.cls.length:=by assumption
    have hp:(f.cls[i].pats.length:Int)=f.arity:=by simpa using (by assumption:(!decide ((f.cls[i].pats.length:Int)=f.arity))=false)
    have hd:¬ (ZV f.cls[i].pats).Nodup:=by simpa using (by assumption:(!decide (ZV f.cls[i].pats).Nodup)=true)
    have he:WI f.arity f.cls=10:=by rw [hE'.out hlt,if_pos hp,if_neg hd]
    rw [hR2.out,he,if_neg (by omega)];exact Zir (by simp only [ZI,Zo5,if_true,if_false, *]<;>rfl) (by simp only [ZI,Zo5,if_false, *]<;>rfl) (by simp only [ZI,Zo5,if_true,if_false, *]<;>rfl) (Zpc _ _ _) (Zkr ((hs.of_set (hs.none (by assumption))).of_set z2))
   ·have hlt:i<f.cls.length:=by assumption
    have hp:(f.cls[i].pats.length:Int)=f.arity:=by simpa using (by assumption:(!decide ((f.cls[i].pats.length:Int)=f.arity))=false)
    have hd:(ZV f.cls[i].pats).Nodup:=by simpa using (by assumption:(!decide (ZV f.cls[i].pats).Nodup)=false)
    rw [ZO (n:=(i:Int)+1) (by omega) (by omega)];exact ⟨i+1,by omega,rfl,by rw [hE'.out hlt,if_pos hp,if_pos hd]⟩
   ·rw [ZO (n:=(i:Int)+1) (by omega) (by omega)];omega
   ·have he:WI f.arity f.cls=0:=by rw [hE.out,ZpC (by omega)]; rfl
    have hR3:R=selGo vs f.cls 0:=by rw [hR2.out,if_pos he]
    clear hE hE' hR2 hnm htw hf;refine Ya rfl (fun _ _ _ h=>h) ?_;delta c10_4 Zd Zb Ze Zq
    (repeat' (first | (simp only [↓ZF,ZG,ptrV,intV,Zo5,Zo7,reduceCtorEq,Zo9,Za9,Zgq,Zbj, *])))
    refine sel_loop hN hv hvs (fun c hc=>?_) rfl (by simp only [ZI,Zo5,if_false, *]<;>rfl) (by simp only [ZI,Zo5,if_false, *]<;>rfl) (by simp only [ZI,Zo5,if_true,if_false, *]<;>rfl) (by simp only [ZI,Zo5,if_true,if_false, *]<;>rfl) (by simp only [ZI,Zo5,if_true,if_false, *]<;>rfl) (by assumption) z2 hs
    have:=(Zf6 he c hc).1
    omega
 ·have hR2:R=(0,zEx,5):=by rw [hR,Yn,if_neg ha]
  clear hR;rw [hR2];clear hR2
  (repeat' (first | (simp only [↓ZF,ZG,ptrV,intV,Zo5,Zo7,Zpd,reduceCtorEq,ZJ,ZQ,fillV,setAt,Zo9,undef,Wq,Yg,YE,JR,Yc,ZZ, *]) | (refine ZH fun zr zh=>?_; have zg:=zh; (try simp only [Zpb] at zg))))
  rename_i r2 n2 n2';exact Zir (by simp only [ZI,Zo5,if_true,if_false, *]<;>rfl) (by simp only [ZI,Zo5,if_true,if_false, *]<;>rfl) (by simp only [ZI,Zo5,if_true,if_false, *]<;>rfl) (Zpc _ _ _) (Zkr ((Zph n2).of_set zg.2))
end Go.PV.Ytglpmlbbaedbiaa
end
section
open List renaming mem_of_getElem?→Zqh
open Nat renaming le_refl→Zpl
namespace Go.PV.Ytglpmlbbaedbiaa
open Go Go.Proofs
def Yr (e:Ex) (l:List Ex):Ex:=if l.length=0 then e else .mk 4 noNm (e::l)
def nonV (p:Pr) (l:List Ex):Int:=idxF (fun k=>!k.isV p) l
def headV (p:Pr) (e:Ex):Bool:=match e.kids with | k::_=>k.isV p | []=>false
def preE (p:Pr) (e:Ex):Ex:=if e.op=4∧headV p e=true then e.flat else e
def redF (p:Pr) (e:Ex):Ex × Int :=
 match e.kids with
 | f::a::r =>
   if f.op=5 then ((Yr ((f.kids.headD zEx).put [(f.name,a)]) r),0)
   else if f.op=3 then (e,421)
   else (match p.funs[(atFu p.funs f.name).toNat]? with
    | some g=>(Yr (Yn g ((a::r).take g.arity.toNat)).2.1 ((a::r).drop g.arity.toNat),(Yn g ((a::r).take g.arity.toNat)).2.2)
    | none=>(e,0))
 | _=>(e,0)
def stepN (p:Pr):Nat→Ex→Ex × Int
 | 0,e=>(e,0)
 | n+1,e =>
   if e.op=2 then (match p.funs[(atFu p.funs e.name).toNat]? with | some f=>((Yn f []).2.1,(Yn f []).2.2) | none=>(e,0))
   else if 0≤nonV p (preE p e).kids then
    (match (preE p e).kids[(nonV p (preE p e).kids).toNat]? with
     | some k=>(.mk (preE p e).op (preE p e).name ((preE p e).kids.set (nonV p (preE p e).kids).toNat (stepN p n k).1),(stepN p n k).2)
     | none=>(e,0))
   else redF p (preE p e)
def stepF (p:Pr) (e:Ex):Ex × Int:=stepN p e.sz e
theorem Zg6 (p:Pr) (e:Ex):(preE p e).sz≤e.sz:=by
 unfold preE; split
 ·exact e.flat_sz
 ·exact Zpl _
theorem Zlw {p:Pr}:∀ (n m:Nat) (e:Ex),e.sz≤n→e.sz≤m→stepN p n e=stepN p m e
 | 0,m,e,h,_=>by have:=e.sz_pos; omega
 | n+1,0,e,_,h=>by have:=e.sz_pos; omega
 | n+1,m+1,e,h,h'=>by
   rw [stepN,stepN];have h1:=Zg6 p e;have h2:=(preE p e).sz_eq;cases hk:(preE p e).kids[(nonV p (preE p e).kids).toNat]? with
   | none=>rfl
   | some k =>
     have h3:=ZX (Zqh hk);dsimp only;rw [Zlw n m k (by omega) (by omega)]
theorem ZbS (p:Pr) (e:Ex):stepF p e =
 if e.op=2 then (match p.funs[(atFu p.funs e.name).toNat]? with | some f=>((Yn f []).2.1,(Yn f []).2.2) | none=>(e,0))
 else if 0≤nonV p (preE p e).kids then
  (match (preE p e).kids[(nonV p (preE p e).kids).toNat]? with
   | some k=>(.mk (preE p e).op (preE p e).name ((preE p e).kids.set (nonV p (preE p e).kids).toNat (stepF p k).1),(stepF p k).2)
   | none=>(e,0))
 else redF p (preE p e):=by
 obtain ⟨n,hn⟩:∃ n,e.sz=n+1:=⟨e.sz-1,by have:=e.sz_pos; omega⟩
 rw [stepF,hn,stepN];have h1:=Zg6 p e;have h2:=(preE p e).sz_eq;cases hk:(preE p e).kids[(nonV p (preE p e).kids).toNat]? with
 | none=>rfl
 | some k =>
   have h3:=ZX (Zqh hk);dsimp only;rw [Zlw n k.sz k (by omega) (Zpl _)];rfl
theorem ZnK {e:Ex} (h:e.nmOk):e.flat.nmOk:=by
 refine (Ex.flat_ind (p:=fun e=>e.nmOk) (fun e k r hi he=>?_) e.sz e (Zpl _) h).1;obtain ⟨h1,h2,h3⟩:=Ex.inner_some hi;have he':=Ex.nmOk_iff.1 he;have hk:=Ex.nmOk_iff.1 (he'.2 k (by rw [h2]; simp));refine Ex.nmOk_iff.2 ⟨Nat.zero_le 1099511627776,?_⟩;simp only [Ex.kids];intro x hx;rcases List.mem_append.1 hx with hx | hx
 ·exact hk.2 x hx
 ·exact he'.2 x (by rw [h2]; simp [hx])
theorem ZmX {p:Pr} {e:Ex} {b:List ByteArray} (hsd:e.sdF p b=0):(preE p e).sdF p b=0∧(e.nmOk→(preE p e).nmOk)∧(preE p e).op=e.op:=by
 unfold preE;split
 ·rename_i h; exact ⟨Zfu hsd,ZnK,by rw [e.flat_op h.1,h.1]⟩
 ·exact ⟨hsd,id,rfl⟩
theorem ZnL {op nk:Int} {nm:Bool} (h:formB op nk nm=true):op=1∨op=2∨op=3∨op=4∨op=5:=by
 unfold formB at h;split at h
 ·omega
 ·split at h
  ·omega
  ·split at h
   ·omega
   ·split at h
    ·omega
    ·cases h
theorem Zg7 {p:Pr} {e:Ex} (hsd:e.sdF p []=0) (hv:e.isV p=false) (h2:¬ e.op=2) :
 (e.op=3∨e.op=4) ∧
 ((∃ i,∃ h:i<(preE p e).kids.length,nonV p (preE p e).kids=i∧(preE p e).kids[i].isV p=false) ∨
  (nonV p (preE p e).kids = -1∧(∀ k∈(preE p e).kids,k.isV p=true)∧e.op=4∧preE p e=e.flat∧(preE p e).name=noNm∧∃ f a r,(preE p e).kids=f::a::r ∧
    ((f.op=5∧∃ bd,f.kids=[bd])∨f.op=3∨(f.op=2∧0<arFu p.funs f.name∧arFu p.funs f.name≤(r.length:Int)+1)))):=by
 have hown:=XT.1 (Xn.1 hsd).1;obtain ⟨q1,q2,q3⟩:=ZmX hsd;rw [e.isV_eq] at hv
 have hop:e.op=3∨e.op=4:=by
  rcases ZnL hown.1 with h | h | h | h | h
  ·have:=hown.2.2.2 h; simp at this
  ·exact absurd h h2
  ·exact .inl h
  ·exact .inr h
  ·rw [if_pos h] at hv; cases hv
 refine ⟨hop,?_⟩;rcases WA (fun k:Ex=>!k.isV p) (preE p e).kids with ⟨h1,h3⟩ | ⟨i,hi,h1,h3,_⟩
 ·right;have hall:∀ k∈(preE p e).kids,k.isV p=true:=fun k hk=>by simpa using h3 k hk
  have h5:¬ e.op=5:=by omega
  rw [if_neg h5,if_neg h2] at hv
  have h4:e.op=4:=by
   rcases hop with h | h
   ·exfalso
    rw [if_pos h] at hv;have hpe:preE p e=e:=by unfold preE; rw [if_neg (by omega)]
    rw [hpe] at hall;rw [List.all_eq_true.2 hall] at hv; cases hv
   ·exact h
  rw [if_neg (by omega),if_pos h4] at hv;have hq4:(preE p e).op=4:=by rw [q3,h4]
  obtain ⟨hn,f,a,r,hk⟩:=ZdN q1 hq4
  have hfl:preE p e=e.flat:=by
   unfold preE;split
   ·rfl
   ·rename_i hne
    exfalso
    have hpe:preE p e=e:=by unfold preE; rw [if_neg hne]
    refine hne ⟨h4,?_⟩;rw [hpe] at hk hall;unfold headV;rw [hk];exact hall f (by rw [hk]; simp)
  refine ⟨h1,hall,h4,hfl,hn,f,a,r,hk,?_⟩;have hfi:=e.flat_inner;rw [← hfl] at hfi hv;rw [hk] at hv;have hf4:¬ f.op=4:=fun h=>by simp [Ex.inner,hq4,hk,h] at hfi
  have hsf:=(Xn.1 q1).2 f (by rw [hk]; simp);rw [hq4] at hsf;simp only [show ¬ (4:Int)=5 by decide,if_false] at hsf;have hof:=XT.1 (Xn.1 hsf).1;have hfv:=hall f (by rw [hk]; simp);rw [f.isV_eq] at hfv;rcases ZnL hof.1 with h | h | h | h | h
  ·have:=hof.2.2.2 h; simp at this
  ·right; right
   rw [if_neg (by omega),if_pos h] at hfv;refine ⟨h,by simpa using hfv,?_⟩;have h6:(a::r).all (·.isV p)=true:=List.all_eq_true.2 fun x hx=>hall x (by rw [hk]; simp at hx; simp [hx])
   dsimp only at hv;rw [h6,h] at hv;simp at hv;omega
  ·exact .inr (.inl h)
  ·exact absurd h hf4
  ·left;refine ⟨h,?_⟩
   have:=hof.1
   rw [h] at this;simp [formB] at this
   match hfk:f.kids,this.1 with
   | [bd],_=>exact ⟨bd,rfl⟩
   | [],h7=>simp at h7
   | _::_::_,h7=>simp at h7; omega
 ·left;exact ⟨i,hi,h1,by simpa using h3⟩
end Go.PV.Ytglpmlbbaedbiaa
end
section
open Bool renaming false_eq_true→ZpT,and_self→Zp3
open Go.PV.AH renaming set_none→Zpb,set_same→Zpc,set_set→ZpA,ne_of→Zo6,get→Zpf
open Go.PV.GhL renaming cons→Zpn
open Go.PV.GhV renaming forget→ZpB,refl→Zpt
open Go.PV.Hold renaming mk→Zo8
open Go.PV.PureF renaming use→Zpe
open Go.PV.SubH renaming new→Zph,refl→Zpa,of_set→Zpi
open Int renaming reduceNeg→Zp1,reduceEq→ZpE,reduceLE→ZpZ
open List renaming drop_zero→ZpV,drop→Zo9,length_cons→Zpx,map_cons→Zpp,map_nil→Zpw,getD_cons_zero→ZpN,getD_cons_succ→ZpK,getD_nil→ZpL,getElem_mem→Zpk,length_nil→Zp0,cons_append→Zp6,all_cons→ZpU,set_cons_zero→Zp5,set_cons_succ→Zp4
open Nat renaming reduceEqDiff→Zo5,reduceLT→Zo7,reduceAdd→Zpd,reduceMul→ZpQ,reduceLeDiff→Zpo,lt_or_ge→ZpJ,le_refl→Zpl,succ_ne_self→Zpv,zero_add→Zpu,add_zero→ZpO
open Option renaming bind_some→ZpH,map_some→Zps,map_none→ZpS
set_option maxRecDepth 20000
set_option maxHeartbeats 4000000
namespace Go.PV.Ytglpmlbbaedbiaa
open Go Go.Proofs
theorem ap_ret {H0 H:AH} {t:Nat→VV} {r sp:Nat} {a b c x:VV} {e':TypeId} (h4:t 4=ptrV r 0) (k4:H r=some (.cells e' [a,b,c] sp)) (hg:GhV H (.agg [a,b,c]) H0 x):YP Try.prog [.cell 4 34] (fun e H'=>∃ y,e=.ret y∧GhV H' y H0 x) .ret ⟨t,[]⟩ H :=
 YD rfl (by simp only [resV,Xi,Xh,Ye,h4,k4,ptrV,ZpV,XY,ZpH,Zps,tupV]) ⟨_,rfl,hg⟩
theorem Zg8 (ex:Bool) (e:Ex) (l:List Ex) (hl:l.length≤1099511627776):PureF Try.prog 74 [exV e,.slice ex l.length (encC exE l)] (exV (Yr e l)):=by
 refine Wl.pure fun H=>?_
 refine ZK fd74 (by simp) ?_;delta c74 Zj Zi Za Ze Zm Zr Zb Zg Zq Zl;unfold Yr;by_cases h0:l.length=0
 ·have h0':(l.length:Int)=0:=by omega
  rw [if_pos h0];clear h0
  (repeat' (first | (simp only [↓ZF,ZG,ptrV,intV,Zo5,Zo7,Zpd,reduceCtorEq,ZJ,setAt,Zo9,undef,Ye,YE,Yc,ZZ, *]) | (refine ZH fun zr zh=>?_; have zg:=zh; (try simp only [Zpb] at zg))))
  rename_i r2 n2 n2';exact ap_ret (e':=34) (sp:=0) (by simp only [ZI,Zo5,if_true,if_false, *]<;>rfl) (Zpc _ _ _) (ZpB ((Zph n2).of_set zg.2) _)
 ·have h0':¬ (l.length:Int)=0:=by omega
  rw [if_neg h0]
  (repeat' (first | (simp only [↓ZF,ZG,ptrV,intV,Zo5,Zo7,Zpd,ZpQ,Zpo,reduceCtorEq,ZJ,fillV,setAt,Zo9,undef,ZN,ZN,Ye,Yc,ZZ, *]) | (refine ZH fun zr zh=>?_; have zg:=zh; (try simp only [Zpb] at zg))))
  rename_i r2 n2 n2';refine Ww ZZ Yc rfl (by omega) rfl (Zcm (enc:=exE) (k:=3) Zbv _ ex _) (Zbb ZmW _) (by omega) (by omega) (fun h=>absurd h h0) (fun _ v' H' ho=>?_);have k4:=ho.sub _ _ (Zpc _ _ _);have hc1:=ho.cells.1;have hc2:=ho.cells.2;have e1:[iV e.op,sV e.name,encS exE e.kids]++encC exE l=encC exE (e::l):=by rw [Yh,WU]
  have e2:1+l.length=(e::l).length:=by rw [Zpx]; omega
  have ho':=ho.put (Zpc _ _ _) (.cells 34 [iV 4,sV noNm,v'] 0);rw [e1,e2,ZpA] at ho';replace ho':=Zo8 ho';clear ho e1 e2
  (repeat' (first | (simp only [↓ZF,ZG,Zo5,Zo7,Zpd,Zpo,ZQ,fillV,setAt,ZQ,YE,JR, *])))
  refine ap_ret (e':=34) (sp:=0) (by simp only [ZI,Zo5,if_true,if_false, *]<;>rfl) (Zpc _ _ _) ?_;exact GhV.agg (Zpn (Zpt _ _) (Zpn (Zpt _ _) (Zpn (GhV.back ho'.out ((Zph n2).of_set zg.2)) (GhL.nil _))))
theorem idxEx {l:List Ex} {ex:Bool} {f:VV} {p:Ex→Bool} {H:AH} {K:VE→AH→Prop} (hl:l.length≤1099511627776)
 (hf:∀ i (h:i<l.length),FnAt Try.prog f [exV l[i]] (boolV (p l[i])) H) (hK:K (.ret (iV (idxF p l))) H):ZU Try.prog 71 [.slice ex l.length (encC exE l),f] H K:=by
 refine ZK fd71 (by simp) ?_;delta c71 Zf Za Ze Zq
 (repeat' (first | (simp only [↓ZF,ZG,intV,Zo5,Zo7,reduceCtorEq,ZJ,undef,ZZ, *])))
 refine ZY (fun _ _ _ h=>h) (fun A H'=>H'=H∧A.d=[]∧A.t 0=.slice ex l.length (encC exE l)∧A.t 1=f∧A.t 7=iV l.length∧∃ i:Nat,i≤l.length∧A.t 8=iV i∧∀ j (h:j<l.length),j<i→p l[j]=false)
  (fun A _=>match A.t 8 with | .lit (.int _ i)=>((l.length:Int)-i).toNat | _=>0) ?_ ?_
 ·exact ⟨rfl,rfl,rfl,rfl,rfl,0,by simp,rfl,by simp⟩
 ·rintro ⟨t,d⟩ H' ⟨rfl,rfl,h0,h1,h7,i,hi,h8,hj⟩;dsimp only at h0 h1 h7 h8;delta b71_1 Zn Zr Za Zc Zk Zb Zq Zm;by_cases hlt:i<l.length
  ·have hil:(i:Int)<(l.length:Int):=by omega
   have hdi:=WL hlt
   (repeat' (first | (simp only [↓ZF,ZG,boolV,Zo5,Zo7,reduceCtorEq,Ye,ZZ, *]) | (refine Yp ?_ ?_<;>intro) | (refine ZM ?_) | (refine hf _ hlt _ ?_) | (with_reducible refine And.intro ?_ ?_)))
   ·rw [← JT hlt (by assumption) (fun j h=>hj j (by omega) h)];exact hK
   ·rw [ZO (by omega) (by omega)];refine ⟨i+1,by omega,by simp,fun j h h'=>?_⟩;rcases ZpJ j i with h2 | h2
    ·exact hj j h h2
    ·obtain rfl:j=i:=by omega
     assumption
   ·rw [ZO (by omega) (by omega)];omega
  ·have hil:¬ (i:Int)<(l.length:Int):=by omega
   (repeat' (first | (simp only [↓ZF,ZG,Zo7, *]) | (refine Ya rfl (fun _ _ _ h=>h) ?_)))
   delta c71_1 Zq
   (repeat' (first | (simp only [↓ZF,ZG,Zo5,Zo7,Zp1, *]) | (refine ZM ?_)))
   rw [show (-1:Int)=idxF p l from (ZaO fun j h=>hj j h (by omega)).symm];exact hK
theorem contEx {l:List Ex} {ex:Bool} {f:VV} {p:Ex→Bool} {H:AH} {K:VE→AH→Prop} (hl:l.length≤1099511627776)
 (hf:∀ i (h:i<l.length),FnAt Try.prog f [exV l[i]] (boolV (p l[i])) H) (hK:K (.ret (boolV (l.any p))) H):ZU Try.prog 68 [.slice ex l.length (encC exE l),f] H K:=by
 refine ZK fd68 (by simp) ?_;delta c68 Zq Za Zo Zr Zm Zc;have e:decide (0≤idxF p l)=l.any p:=ZhH;rw [← e] at hK;replace hK:=Zo8 hK;clear e
 (repeat' (first | (simp only [↓ZF,ZG,Zo5,Zo7,reduceCtorEq,ZJ,undef,ZlP, *]) | (refine ZM ?_) | (refine idxEx hl hf ?_)))
 exact hK.out
theorem isV63 {p:Pr} {m1 m2 r2:Nat} {k:Ex} {q:Bool} {H:AH} (hr:H r2=some (.cells 115 (tabE m1 m2) 0)) (hk:∀ H',SubH H H'→ReadF Try.prog 48 [.agg (tabE m1 m2),exV k] (boolV q) H') :
 FnAt Try.prog (.func (.func 69) [] [ptrV r2 0]) [exV k] (boolV (!q)) H:=by
 refine FnAt.cap en_69 fun K hK=>?_
 refine ReadF.use (x:=boolV (!q)) ?_ hK;refine ZK fd69 (by simp) ?_;delta c69 Zj Zq Zb Zo Zr Zc
 (repeat' (first | (simp only [↓ZF,ZG,ptrV,boolV,Zo5,Zo7,ZJ,Zo9,undef,WJ,Ye,ZgJ, *]) | (refine ZM ?_) | (refine ZH fun zr zh=>?_; have zg:=zh; (try simp only [Zpb] at zg); (try have zn_hr:=Zo6 hr zh); (try have zn_hr:=Zo6 hr zg.2); (try have zn_hr:=Zo6 hr zg.2.2)) | (exact Zpa _) | (refine Zpi ?_ ?_) | (refine (hk _ ?_).use ?_)))
theorem isV61 {p:Pr} {m1 m2 r2:Nat} {l:List Ex} {ex:Bool} {q:Ex→Bool} {H:AH} {K:VE→AH→Prop} (hl:l.length≤1099511627776) (hr:H r2=some (.cells 115 (tabE m1 m2) 0)) (hk:∀ i (h:i<l.length) H',SubH H H'→ReadF Try.prog 48 [.agg (tabE m1 m2),exV l[i]] (boolV (q l[i])) H') (hK:K (.ret (boolV (l.all q))) H) :
 ZU Try.prog 67 [.slice ex l.length (encC exE l),ptrV r2 0] H K:=by
 refine ZK fd67 (by simp) ?_;delta c67 Zq Za Zr Zo Zc;have e:(!l.any fun x=>!q x)=l.all q:=by rw [List.not_any_eq_all_not]; simp
 rw [← e] at hK;replace hK:=Zo8 hK;have hc:=fun K hK=>contEx (ex:=ex) (f:=.func (.func 69) [] [ptrV r2 0]) (p:=fun x=>!q x) (H:=H) (K:=K) hl (fun i h=>isV63 (p:=p) hr (hk i h)) hK
 clear hr hk e
 (repeat' (first | (simp only [↓ZF,ZG,ptrV,boolV,Zo5,Zo7,reduceCtorEq,ZJ,undef,en_68, *]) | (refine ZM ?_) | (refine hc _ ?_)))
 exact hK.out
theorem nm_flat {e:Ex} (h:e.nmOk):e.flat.nmOk:=by
 refine (Ex.flat_ind (p:=fun e=>e.nmOk) (fun e k r hi he=>?_) e.sz e (Zpl _) h).1;obtain ⟨h1,h2,h3⟩:=Ex.inner_some hi;have he':=Ex.nmOk_iff.1 he;have hk:=Ex.nmOk_iff.1 (he'.2 k (by rw [h2]; simp));refine Ex.nmOk_iff.2 ⟨Nat.zero_le 1099511627776,?_⟩;simp only [Ex.kids];intro x hx;rcases List.mem_append.1 hx with hx | hx
 ·exact hk.2 x hx
 ·exact he'.2 x (by rw [h2]; simp [hx])
theorem Zks {p:Pr} (hnd:NdP p) {s:ByteArray} (h:0≤atFu p.funs s):∃ j,∃ hj:j<p.funs.length,atFu p.funs s=j∧arFu p.funs s=p.funs[j].arity∧funMk p.funs p.funs.length s=some (.iptr (sV p.funs[j].name::iV p.funs[j].arity::clsV p.funs[j].cls::encC fuE (p.funs.drop (j+1)))):=by
 rcases ZhJ hnd.funs s with ⟨h1,_⟩ | ⟨j,hj,h1,h2,h3⟩
 ·omega
 ·refine ⟨j,hj,h1,?_,by rw [h3,Jg hj]⟩;unfold arFu;rw [h1]; simp [hj]
theorem isV_ok {p:Pr} (hnd:NdP p) {m1 m2:Nat}:∀ (n:Nat) (e:Ex) (b:List ByteArray) (H:AH),e.sz<n→e.sz≤1099511627776→e.nmOk→e.sdF p b=0→TabAt H (.agg (tabE m1 m2)) p→ReadF Try.prog 48 [.agg (tabE m1 m2),exV e] (boolV (e.isV p)) H:=by
 intro n
 induction n with
 | zero=>intro e b H h0; omega
 | succ n ih =>
   intro e b H h0 hs hnm hsd hv;have z:=e.sz_eq;have hkl:=YL e.kids;have hkN:e.kids.length≤1099511627776:=by omega
   have hsd':=Xn.1 hsd;have hown:=XT.1 hsd'.1;have hnm':=Ex.nmOk_iff.1 hnm;have hzn:e.name.size≤maxLen:=by have:=hnm'.1; unfold maxLen; omega
   obtain ⟨a1,a2,ha,hm1,hm2⟩:=hv;obtain ⟨rfl,rfl⟩:a1=m1∧a2=m2:=by simpa [tabE,eq_comm] using ha
   have hv:∀ H',SubH H H'→TabAt H' (.agg (tabE a1 a2)) p:=fun H' h=>⟨a1,a2,rfl,h _ _ hm1,h _ _ hm2⟩
   rw [Ex.isV_eq];refine ZK fd48 (by simp) ?_;delta c48 Zj Zq Zr Zc Zd Zb Zm Za Zo Zg Zi Zp;by_cases h5:e.op=5
   ·rw [if_pos h5];clear ih hsd hsd' hown
    (repeat' (first | (simp only [↓ZF,ZG,ptrV,boolV,Zo5,Zo7,ZJ,Zo9,undef,ZT,Yg, *]) | (refine ZM ?_) | (refine ZH fun zr zh=>?_; have zg:=zh; (try simp only [Zpb] at zg); (try have zn_hm1:=Zo6 hm1 zh); (try have zn_hm1:=Zo6 hm1 zg.2); (try have zn_hm1:=Zo6 hm1 zg.2.2)) | (exact Zpa _) | (refine Zpi ?_ ?_)))
   ·rw [if_neg h5];by_cases h2:e.op=2
    ·rw [if_pos h2];obtain ⟨j,hj,_,har,hfm⟩:=Zks hnd (hown.2.1 h2);rw [har];clear ih hsd hsd' hown h5
     (repeat' (first | (refine Zcy JB hzn hfm (by first | assumption | simp only [Zpf, *,if_false]) ?_) | (simp only [↓Xx,↓Xy,↓Xm,↓Xc,↓XI,↓YS,↓ZaU,↓XA,↓Yo,↓Ys,↓WK,↓Zgm,↓YJ,↓YG,↓YH,↓YI,↓YT,↓ZI,↓YB,↓YR,↓Wy,↓Wc,↓Zax,↓Wz,↓Yj,↓WG,↓WH,↓YK,vcNil,ptrV,boolV,Zpp,Zpw,ZpN,ZpK,ZpL,ite_true,ite_false,Zo5,Zo7,ne_eq,not_false_eq_true,true_and,ZpT,Zpv,decide_true,decide_false,ZJ,Zpf,eq_self,Zpu,ZpO,Zo9,We,Xw,↓Zaz,Zbc,Wf,ZgV,Jo,Wg,Zbd,XF,Jj,undef,ZpE,okV,ZT,Ja,Yd,Wq,Yg,ZaS,Ym, *]) | (refine ZM ?_) | (refine ZH fun zr zh=>?_; have zg:=zh; (try simp only [Zpb] at zg); (try have zn_hm1:=Zo6 hm1 zh); (try have zn_hm1:=Zo6 hm1 zg.2); (try have zn_hm1:=Zo6 hm1 zg.2.2)) | (exact Zpa _) | (refine Zpi ?_ ?_)))
    ·rw [if_neg h2];by_cases h3:e.op=3
     ·rw [if_pos h3];have hall:=fun (r2:Nat) (H':AH) (hsb:SubH H H') hr (K:VE→AH→Prop)=>isV61 (p:=p) (m1:=a1) (m2:=a2) (r2:=r2) (l:=e.kids) (ex:=false) (q:=fun x=>x.isV p) (H:=H') (K:=K) hkN hr (fun i h H2 h2=>ih _ _ _ (by have:=ZX (Zpk h); omega) (by have:=ZX (Zpk h); omega) (hnm'.2 _ (Zpk h)) (hsd'.2 _ (Zpk h)) (hv _ (hsb.trans h2)))
      clear ih hsd hsd' hown h5 h2
      (repeat' (first | (simp only [↓ZF,ZG,ptrV,boolV,Zo5,Zo7,ZJ,Zo9,undef,ZpE,ZT,ZW,Yg,Yk,en_67, *]) | (refine ZM ?_) | (refine ZH fun zr zh=>?_; have zg:=zh; (try simp only [Zpb] at zg); (try have zn_hm1:=Zo6 hm1 zh); (try have zn_hm1:=Zo6 hm1 zg.2); (try have zn_hm1:=Zo6 hm1 zg.2.2)) | (exact Zpa _) | (refine Zpi ?_ ?_) | (refine hall _ _ ?_ ?_ _ ?_)))
     ·rw [if_neg h3];by_cases h4:e.op=4
      ·rw [if_pos h4];have hfl:=ZnJ hsd hs;have hfz:=e.flat_sz;have hfs:=Zfu hsd;have hfn:=nm_flat hnm;have hf4:=e.flat_op h4;have hfi:=e.flat_inner;generalize e.flat=F at *
       obtain ⟨hFn,k,k2,r,hFk⟩:=ZdN hfs hf4;have hfs':=(Xn.1 hfs).2;rw [hf4] at hfs';simp only [show ¬ (4:Int)=5 by decide,if_false] at hfs';have hks:=hfs' k (by rw [hFk]; simp);have hkn:=(Ex.nmOk_iff.1 hfn).2 k (by rw [hFk]; simp);have hzk:k.name.size≤maxLen:=by have:=(Ex.nmOk_iff.1 hkn).1; unfold maxLen; omega
       have hFz:=F.sz_eq;rw [hFk] at hFz;have hrl:=YL (k2::r);rw [exsSz] at hFz
       have hr:∀ x∈k2::r,x.sz<n∧x.sz≤1099511627776∧x.nmOk∧x.sdF p b=0:=fun x hx=>by
        have:=ZX hx
        exact ⟨by omega,by omega,(Ex.nmOk_iff.1 hfn).2 x (by rw [hFk]; simp [hx]),hfs' x (by rw [hFk]; simp [hx])⟩
       rw [hFk];dsimp only;generalize k2::r=r' at *
       have hrN:r'.length≤1099511627776:=by omega
       have ek:encS exE F.kids=.slice false (r'.length+1) (iV k.op::sV k.name::encS exE k.kids::encC exE r'):=by rw [hFk,encS,Yh,WU]; rfl
       have q1:VV.agg [iV 4,sV e.name,encS exE e.kids]=exV e:=by show _=VV.agg [iV e.op,sV e.name,encS exE e.kids]; rw [h4]
       have q2:VV.agg [iV 4,sV F.name,.slice false (r'.length+1) (iV k.op::sV k.name::encS exE k.kids::encC exE r')]=exV F:=by show _=VV.agg [iV F.op,sV F.name,encS exE F.kids]; rw [hf4,ek]
       have hfl':PureF Try.prog 70 [.agg [iV 4,sV e.name,encS exE e.kids]] (.agg [iV 4,sV F.name,.slice false (r'.length+1) (iV k.op::sV k.name::encS exE k.kids::encC exE r')]):=by rw [q1,q2]; exact hfl
       have hall:=fun (r2:Nat) (H':AH) (hsb:SubH H H') hr2 (K:VE→AH→Prop)=>isV61 (p:=p) (m1:=a1) (m2:=a2) (r2:=r2) (l:=r') (ex:=false) (q:=fun x=>x.isV p) (H:=H') (K:=K) hrN hr2 (fun i h H2 h2=>by
        obtain ⟨q1,q2,q3,q4⟩:=hr _ (Zpk h);exact ih _ _ _ q1 q2 q3 q4 (hv _ (hsb.trans h2)))
       have hl0:(0:Int)<((r'.length+1:Nat):Int):=by omega
       have hw:IntKind.i64.wrap (((r'.length+1:Nat):Int)-1)=(r'.length:Int):=by rw [ZO (by omega) (by omega)]; omega
       by_cases hk2:k.op=2
       ·obtain ⟨j,hj,_,har,hfm⟩:=Zks hnd ((XT.1 (Xn.1 hks).1).2.1 hk2);rw [har,hk2];rw [hk2] at hfl';clear ih hsd hsd' hown h5 h2 h3 hfl hfs hfn hf4 hfi hFn hFk hfs' hks hkn hFz hrl hr ek q1 q2
        (repeat' (first | (refine Zcy JB hzk hfm (by first | assumption | simp only [Zpf, *,if_false]) ?_) | (simp only [↓Xx,↓Xy,↓Xm,↓Xc,↓XI,↓YS,↓ZaU,↓WO,↓XA,↓Yo,↓ZaV,↓ZaK,↓ZbB,↓Ys,↓WK,↓Zgm,↓YJ,↓YG,↓WP,↓YH,↓WQ,↓YI,↓YT,↓Wk,↓ZI,↓YV,↓YB,↓JL,↓ZaW,↓Zct,↓YR,↓Wu,↓Wy,↓Wc,↓XQ,↓Zax,↓Wz,↓ZjP,↓Yj,↓Xv,↓WG,↓Jy,↓Xk,↓YX,↓ZjQ,↓Zd7,↓XW,↓YK,↓ZiO,vcNil,ptrV,intV,boolV,Zpp,Zpw,Zpx,Zp0,ZpN,ZpK,ZpL,Zp6,List.nil_append,ite_true,ite_false,Zo5,Zo7,Zpd,ZpQ,Zpo,ne_eq,not_false_eq_true,not_true_eq_false,true_and,List.drop_succ_cons,ZpV,ZpT,Zpv,decide_true,decide_false,Bool.true_and,Bool.false_and,reduceCtorEq,Yb,ZJ,↓Wv,↓XR,↓Zns,↓ZhG,Zpf,ZpA,setAt,ZpU,List.all_nil,Zp3,eq_self,Zpu,ZpO,Zo9,and_self,We,XY,JH,JS,Xw,JN,Zp5,Zp4,↓XS,Xt,↓Zaz,Zpl,Zbc,Wf,ZgV,Jo,Zeb,Zbo,ZbQ,Wg,Zbd,XF,Jj,Zbe,Zbf,↓Zay,↓ZmP,↓Zlg,↓Zcu,↓ZgT,↓ZgU,undef,ZpE,ZpZ,okV,Int.toNat_zero,Nat.zero_mul,Int.reduceToNat,YC,ZpS,Zps,Xj,idxV,idxOk,imp_self,ZT,Ja,Yd,Wq,ZW,Yg,ZaS,Ym,Yk,Ye,YE,Yc,ZZ,en_67,en_70, *]) | (refine Zgz ?_ ?_<;>intro) | (refine ZM ?_) | (refine ZR mixed (fun _ _ _ _ e h=>⟨e.trans h.1,h.2⟩) _ (Zpa _) ?_) | (refine ZH fun zr zh=>?_; have zg:=zh; (try simp only [Zpb] at zg); (try have zn_hm1:=Zo6 hm1 zh); (try have zn_hm1:=Zo6 hm1 zg.2); (try have zn_hm1:=Zo6 hm1 zg.2.2)) | (exact Zpa _) | (refine Zpi ?_ ?_) | (refine Zpe (hfl') ?_) | (refine hall _ _ ?_ ?_ _ ?_) | (with_reducible refine And.intro ?_ ?_)))
       ·clear ih hsd hsd' hown h5 h2 h3 hfl hfs hfn hf4 hfi hFn hFk hfs' hks hkn hFz hrl hr ek q1 q2
        (repeat' (first | (simp only [↓ZF,ZG,ptrV,boolV,Zo5,Zo7,Zpd,Yb,ZJ,↓ZhG,setAt,Zo9,↓ZmP,↓Zlg,undef,ZpE,ZpZ,Int.toNat_zero,Nat.zero_mul,ZT,ZW,Yg,Yk,Ye,YE,Yc,ZZ,en_70, *]) | (refine ZM ?_) | (refine ZR mixed (fun _ _ _ _ e h=>⟨e.trans h.1,h.2⟩) _ (Zpa _) ?_) | (refine ZH fun zr zh=>?_; have zg:=zh; (try simp only [Zpb] at zg); (try have zn_hm1:=Zo6 hm1 zh); (try have zn_hm1:=Zo6 hm1 zg.2); (try have zn_hm1:=Zo6 hm1 zg.2.2)) | (exact Zpa _) | (refine Zpi ?_ ?_) | (refine Zpe (hfl') ?_) | (with_reducible refine And.intro ?_ ?_)))
      ·rw [if_neg h4];clear ih hsd hsd' hown
       (repeat' (first | (simp only [↓ZF,ZG,ptrV,boolV,Zo5,Zo7,ZJ,Zo9,undef,ZT,Yg, *]) | (refine ZM ?_) | (refine ZH fun zr zh=>?_; have zg:=zh; (try simp only [Zpb] at zg); (try have zn_hm1:=Zo6 hm1 zh); (try have zn_hm1:=Zo6 hm1 zg.2); (try have zn_hm1:=Zo6 hm1 zg.2.2)) | (exact Zpa _) | (refine Zpi ?_ ?_)))
end Go.PV.Ytglpmlbbaedbiaa
end
section
open Bool renaming false_eq_true→ZpT,and_self→Zp3
open Go.PV.AH renaming set_none→Zpb,ne_of→Zo6,get→Zpf,set_set→ZpA,set_same→Zpc,set_ne→Zpg
open Go.PV.GhL renaming cons→Zpn
open Go.PV.GhV renaming refl→Zpt,forget→ZpB
open Go.PV.Hold renaming mk→Zo8
open Go.PV.PureF renaming use→Zpe
open Go.PV.SubH renaming refl→Zpa,of_set→Zpi,new→Zph
open Int renaming toNat_natCast→ZpW,reduceLE→ZpZ,reduceNeg→Zp1,reduceEq→ZpE
open List renaming drop→Zo9,drop_zero→ZpV,getElem?_eq_getElem→ZpP,getElem_mem→Zpk,map_cons→Zpp,map_nil→Zpw,length_cons→Zpx,length_nil→Zp0,getD_cons_zero→ZpN,getD_cons_succ→ZpK,getD_nil→ZpL,all_cons→ZpU,getElem?_cons_zero→Zqa,getElem?_cons_succ→Zqb,set_cons_zero→Zp5,set_cons_succ→Zp4,mem_cons_of_mem→Zqe,length_take→ZpX,take_append_drop→Zqi,length_drop→Zp7
open Nat renaming reduceLT→Zo7,reduceEqDiff→Zo5,reduceAdd→Zpd,reduceMul→ZpQ,reduceLeDiff→Zpo,succ_ne_self→Zpv,zero_add→Zpu,add_zero→ZpO,le_refl→Zpl
open Option renaming bind_some→ZpH,map_some→Zps,map_none→ZpS
set_option maxRecDepth 20000
set_option maxHeartbeats 8000000
namespace Go.PV.Ytglpmlbbaedbiaa
open Go Go.Proofs
theorem cloneEx {l:List Ex} (hl:l.length≤1099511627776) (hne:0<l.length) (H:AH):OwnF Try.prog 73 [exsV l] H 34 3 l.length (encC exE l):=by
 refine ZK fd73 (by simp) ?_;delta c73 Zq Za Zr Zl Zc
 (repeat' (first | (simp only [↓ZF,ZG,Zo7,reduceCtorEq,ZJ,undef, *])))
 refine Zkn und_32 fun b hb=>?_
 have hb:=hb hne;subst hb
 (repeat' (first | (simp only [↓ZF,ZG,boolV,Zo5,Zo7,Zpd,ZpQ,Zpo,reduceCtorEq,fillV,ZN,ZN,ZZ,Yc, *])))
 refine Ww ZZ Yc rfl (by omega) rfl (Zcm (enc:=exE) (k:=3) Zbv H false l) (Zbb ZmW l) (by omega) (by omega) (fun h=>by omega) (fun _ v' H' ho=>?_)
 (repeat' (first | (simp only [↓ZF,ZG,Zo5,Zo7, *]) | (refine ZM ?_)))
 exact ⟨_,H,rfl,Zpa _,by simpa using ho⟩
theorem isV68 {p:Pr} {m1 m2 r2:Nat} {k:Ex} {q:Bool} {H:AH} (hr:H r2=some (.cells 115 (tabE m1 m2) 0)) (hk:∀ H',SubH H H'→ReadF Try.prog 48 [.agg (tabE m1 m2),exV k] (boolV q) H') :
 FnAt Try.prog (.func (.func 72) [] [ptrV r2 0]) [exV k] (boolV (!q)) H:=by
 refine FnAt.cap en_72 fun K hK=>?_
 refine ReadF.use (x:=boolV (!q)) ?_ hK;refine ZK fd72 (by simp) ?_;delta c72 Zj Zq Zb Zo Zr Zc
 (repeat' (first | (simp only [↓ZF,ZG,ptrV,boolV,Zo5,Zo7,ZJ,Zo9,undef,WJ,Ye,ZgJ, *]) | (refine ZM ?_) | (refine ZH fun zr zh=>?_; have zg:=zh; (try simp only [Zpb] at zg); (try have zn_hr:=Zo6 hr zh); (try have zn_hr:=Zo6 hr zg.2); (try have zn_hr:=Zo6 hr zg.2.2)) | (exact Zpa _) | (refine Zpi ?_ ?_) | (refine (hk _ ?_).use ?_)))
structure FuOk (p:Pr):Prop where
 nd:NdP p
 sz:∀ f∈p.funs,fuSz f≤1099511627776
 nm:∀ f∈p.funs,∀ c∈f.cls,∀ s∈ZV c.pats,s.size≤maxLen
abbrev spV (r:Ex × Int):VV:=.tuple [exV r.1,iV r.2]
def stQ (H0:AH) (R:Ex × Int):APost:=YP Try.prog [.cell 4 34,.tmp 5] fun e H'=>∃ y,e=VE.ret y∧GhV H' y H0 (spV R)
theorem Zis {H0 H:AH} {t:Nat→VV} {r sp:Nat} {c:Int} {a b d:VV} {e':TypeId} {x:Ex} (h4:t 4=ptrV r 0) (h5:t 5=iV c) (k4:H r=some (.cells e' [a,b,d] sp)) (hg:GhV H (.agg [a,b,d]) H0 (exV x)):stQ H0 (x,c) .ret ⟨t,[]⟩ H:=by
 refine YD rfl (x:=.tuple [.agg [a,b,d],iV c]) (by simp only [resV,Xi,Xh,Ye,h4,h5,k4,ptrV,ZpV,XY,ZpH,Zps,tupV]) ⟨_,rfl,?_⟩;have h1:GhL H [.agg [a,b,d],iV c] H0 [exV x,iV c]:=Zpn hg (Zpn (Zpt _ _) (GhL.nil _));exact GhV.tuple h1
theorem Zkt {l:List Ex} {i:Nat} {x:Ex} (h:i<l.length):(((encC exE l).set (i * 3) (iV x.op)).set (i * 3+1) (sV x.name)).set (i * 3+1+1) (encS exE x.kids)=encC exE (l.set i x):=by
 have:=Zec (enc:=exE) (k:=3) Zbv x h
 rw [WU x] at this;exact this
theorem Zku {H0 H:AH} {t:Nat→VV} {r g n c sp:Nat} {op cd:Int} {name:ByteArray} {l:List Ex} {cs:List VV} {e' e2:TypeId} (h4:t 4=ptrV r 0) (h5:t 5=iV cd) (k4:H r=some (.cells e' [iV op,sV name,.lit (.slice (some ⟨g,0,none⟩) n c)] 0)) (kg:H g=some (.cells e2 cs sp)) (hcs:cs=encC exE l) (hn:n=l.length) (hle:n≤c) (hs:SubH H0 H) (gg:H0 g=none):stQ H0 (.mk op name l,cd) .ret ⟨t,[]⟩ H:=by
 subst hcs; subst hn;exact Zis h4 h5 k4 (GhV.agg (Zpn (Zpt _ _) (Zpn (Zpt _ _) (Zpn ((GhV.slice kg hle).trans (ZpB (hs.del gg) _)) (GhL.nil _)))))
theorem sel0_ok {f:Fu} (hf:fuSz f≤1099511627776) (hn:∀ c∈f.cls,∀ s∈ZV c.pats,s.size≤maxLen) {H:AH} {K:VE→AH→Prop} (hK:K (.ret (selV (Yn f []))) H):ZU Try.prog 10 [.agg [sV f.name,iV f.arity,clsV f.cls],.lit (.slice none 0 0)] H K:=by
 refine YU (Zpn (Zpt _ _) (Zpn (GhV.nil _) (GhL.nil _))) ?_;exact (Zi3 f [] hf (by simp) (by simp) hn).use hK
def StInv (H0:AH) (m1 m2:Nat) (E:Ex) (A:AF) (H:AH):Prop :=
 ∃ r2 r3 r4,A.d=[]∧A.t 2=ptrV r2 0∧A.t 3=ptrV r3 0∧A.t 4=ptrV r4 0∧A.t 5=iV 0∧SubH H0 H∧H0 r4=none∧H r2=some (.cells 115 (tabE m1 m2) 0) ∧
   H r3=some (.cells 34 [iV E.op,sV E.name,encS exE E.kids] 0)∧(∃ a b c,H r4=some (.cells 34 [a,b,c] 0))∧(¬ r2=r4∧¬ r4=r2)∧(¬ r3=r4∧¬ r4=r3)
theorem step_ok {p:Pr} (hp:FuOk p) {m1 m2:Nat}:∀ (n:Nat) (e:Ex) (H:AH),e.sz<n→e.sz≤1099511627776→e.nmOk→e.sdF p []=0→e.isV p=false→TabAt H (.agg (tabE m1 m2)) p→Wl Try.prog 50 [.agg (tabE m1 m2),exV e] (spV (stepF p e)) H:=by
 intro n
 induction n with
 | zero=>intro e H h0; omega
 | succ n ih =>
   intro e H h0 hs hnm hsd hnv hv;have z:=e.sz_eq;have hkl:=YL e.kids;have hkN:e.kids.length≤1099511627776:=by omega
   have hsd':=Xn.1 hsd;have hown:=XT.1 hsd'.1;have hnm':=Ex.nmOk_iff.1 hnm;have hzn:e.name.size≤maxLen:=by have:=hnm'.1; unfold maxLen; omega
   obtain ⟨a1,a2,ha,hm1,hm2⟩:=hv;obtain ⟨rfl,rfl⟩:a1=m1∧a2=m2:=by simpa [tabE,eq_comm] using ha
   have hv:∀ H',SubH H H'→TabAt H' (.agg (tabE a1 a2)) p:=fun H' h=>⟨a1,a2,rfl,h _ _ hm1,h _ _ hm2⟩
   by_cases h2:e.op=2
   ·refine ZK fd50 (by simp) ?_;show vc _ _ (stQ H (stepF p e)) _ _;delta c50 Zj Zi Zf Zd Zb Zm Zr Zq Zo Za Zh Zc Zg Zp Zk ZE ZD;obtain ⟨j,hj,hat,har,hfm⟩:=Zks hp.nd (hown.2.1 h2)
    have hst:stepF p e=((Yn p.funs[j] []).2.1,(Yn p.funs[j] []).2.2):=by
     rw [ZbS,if_pos h2,hat,ZpW,ZpP hj]
    rw [hst];have hsel:=fun (H:AH) (K:VE→AH→Prop)=>sel0_ok (f:=p.funs[j]) (hp.sz _ (Zpk hj)) (hp.nm _ (Zpk hj)) (H:=H) (K:=K)
    generalize Yn p.funs[j] []=S at *
    obtain ⟨sk,sb,sx⟩:=S;clear ih hsd hsd' hown hst hnv hat har
    (repeat' (first | (refine Zcy JB hzn hfm (by first | assumption | simp only [Zpf, *,if_false]) ?_) | (simp only [↓Xx,↓Xy,↓Xm,↓Xc,↓ZaU,↓XA,↓Yo,↓Ys,↓WK,↓YJ,↓YG,↓WP,↓YH,↓WQ,↓YI,↓YT,↓Wk,↓ZI,↓YV,↓YB,↓YR,↓Wu,↓Wy,↓Wc,↓XQ,↓Zax,↓Yj,↓WG,↓Wo,↓Xk,↓YX,↓YK,vcNil,ZP,ptrV,boolV,Zpp,Zpw,Zpx,Zp0,ZpN,ZpK,ZpL,ite_true,ite_false,Zo5,Zo7,Zpd,ne_eq,not_false_eq_true,true_and,ZpT,Zpv,decide_true,ZJ,Zpf,ZpA,setAt,ZpU,List.all_nil,Zp3,eq_self,Zpu,ZpO,Zo9,Zqa,Zqb,We,XY,JH,JS,Xw,JN,Zp5,Zp4,↓XS,Xt,↓Zaz,Zpl,Zbc,Wf,Jo,Wg,Zbd,XF,Jj,Zbe,Zbf,undef,okV,ZT,Ja,Yd,Yg,ZaS,Ym,Zdu,Ye,YE,Yc,en_10, *]) | (refine ZH fun zr zh=>?_; have zg:=zh; (try simp only [Zpb] at zg); (try have zn_hm1:=Zo6 hm1 zh); (try have zn_hm1:=Zo6 hm1 zg.2); (try have zn_hm1:=Zo6 hm1 zg.2.2)) | (refine hsel _ _ ?_)))
    rename_i r2 n2 n2' w2 r3 n3 n3' w3 r4 n4 n4';have g3:=n3'.2;have g4:=n4'.2.2;have g7:=zg.2.2.2;exact Zis (e':=34) (sp:=0) (x:=sb) (by simp only [ZI,Zo5,if_true,if_false, *]<;>rfl) (by simp only [ZI,Zo5,if_true,if_false, *]<;>rfl) (by simp only [Zpf, *,if_true,if_false]<;>rfl) (ZpB (by repeat (first | exact Zpa _ | refine Zpi ?_ (by assumption))) _)
   ·obtain ⟨hop,hsplit⟩:=Zg7 hsd hnv h2;obtain ⟨q1,q2,q3⟩:=ZmX hsd;have q2:=q2 hnm;have qz:=Zg6 p e;obtain ⟨E,hE⟩:∃ E,E=preE p e:=⟨_,rfl⟩
    have hst:stepF p e=if 0≤nonV p E.kids then
     (match E.kids[(nonV p E.kids).toNat]? with
      | some k=>(.mk E.op E.name (E.kids.set (nonV p E.kids).toNat (stepF p k).1),(stepF p k).2)
      | none=>(e,0))
     else redF p E:=by rw [ZbS,if_neg h2,← hE]<;>rfl
    rw [hst];rw [← hE] at hsplit q1 q2 q3 qz;have hEz:=E.sz_eq;have hEl:=YL E.kids;have hEN:E.kids.length≤1099511627776:=by omega
    have hEs:=(Xn.1 q1).2;rw [if_neg (by omega)] at hEs;have hEn:=(Ex.nmOk_iff.1 q2).2;have hisv:∀ (k:Ex) (hk:k.sz≤1099511627776) (hn:k.nmOk) (hs:k.sdF p []=0) (H':AH),SubH H H'→ReadF Try.prog 48 [.agg (tabE a1 a2),exV k] (boolV (k.isV p)) H':=fun k hk hn hs H' hb=>isV_ok hp.nd (k.sz+1) k [] H' (by omega) hk hn hs (hv _ hb)
    have hidx:=fun (r2:Nat) (H':AH) (hb:SubH H H') hr (K:VE→AH→Prop)=>idxEx (l:=E.kids) (ex:=false) (f:=.func (.func 72) [] [ptrV r2 0]) (p:=fun k=>!k.isV p) (H:=H') (K:=K) hEN (fun i h=>isV68 (p:=p) (m1:=a1) (m2:=a2) hr (fun H2 h2=>hisv _ (by have:=ZX (Zpk h); omega) (hEn _ (Zpk h)) (hEs _ (Zpk h)) H2 (hb.trans h2)))
    refine ZdB fd50 (by simp) ?_;show ACx _ _ (stQ H _) _ _;delta c50 Zj Zi Zf Zd Zb Zm Zr Zq Zo Za Zh Zc Zg Zp Zk ZE ZD;refine ZcT (l:=[_,_,_]) (K:=StInv H a1 a2 E) (fun _ _ _ h=>h) ?_ _ _ ?_
    ·rintro ⟨t,d⟩ H' ⟨r2,r3,r4,rfl,h2',h3',h4',h5',hsb,g4,k2,k3,⟨z1,z2,z3,k4⟩,⟨d24,d42⟩,⟨d34,d43⟩⟩;dsimp only at h2' h3' h4' h5';refine Ya rfl (fun _ _ _ h=>h) ?_;rcases hsplit with ⟨i,hi,hni,hiv⟩ | ⟨hni,hall,hop4,hEf,hEnn,f,a,r,hk,hcase⟩
     ·have hR:(if 0≤nonV p E.kids then
       (match E.kids[(nonV p E.kids).toNat]? with
        | some k=>(.mk E.op E.name (E.kids.set (nonV p E.kids).toNat (stepF p k).1),(stepF p k).2)
        | none=>(e,0))
       else redF p E)=(.mk E.op E.name (E.kids.set i (stepF p E.kids[i]).1),(stepF p E.kids[i]).2):=by
       rw [hni,if_pos (by omega),ZpW,ZpP hi]
      rw [hR];have hki:=ZX (Zpk hi);have hik:=fun H2 (h2:SubH H H2)=>ih E.kids[i] H2 (by omega) (by omega) (hEn _ (Zpk hi)) (hEs _ (Zpk hi)) hiv (hv _ h2)
      have hni':idxF (fun k=>!k.isV p) E.kids=(i:Int):=hni;have hcl:=cloneEx hEN (by omega);have hi0:(0:Int)≤(i:Int):=by omega
      have hil:(i:Int)<(E.kids.length:Int):=by omega
      have hdi:=WL hi;have hid:=hidx r2 H' hsb k2;generalize stepF p E.kids[i]=S at *
      obtain ⟨S1,S2⟩:=S;replace hE:=Zo8 hE;replace hst:=Zo8 hst;replace hni:=Zo8 hni;clear ih hR hidx hisv;clear q3
      (repeat' (first | (simp only [↓ZF,ZG,ZP,ptrV,Zo5,Zo7,Zpd,setAt,Zo9,ZT,Yd,ZW,Yg,Ym,Ye,WJ,Yk,YE,Yc,ZZ,ZlP,en_50,en_73, *]) | (refine ZR mixed (fun _ _ _ _ e h=>⟨e.trans h.1,h.2⟩) _ (Zpa _) ?_) | (refine And.intro (Zph (by assumption)) ?_) | (refine ZH fun zr zh=>?_; have zg:=zh; (try simp only [Zpb] at zg); (try have zn_k2:=Zo6 k2 zh); (try have zn_k2:=Zo6 k2 zg.2); (try have zn_k2:=Zo6 k2 zg.2.2); (try have zn_k3:=Zo6 k3 zh); (try have zn_k3:=Zo6 k3 zg.2); (try have zn_k3:=Zo6 k3 zg.2.2); (try have zn_k4:=Zo6 k4 zh); (try have zn_k4:=Zo6 k4 zg.2); (try have zn_k4:=Zo6 k4 zg.2.2)) | (exact Zpa _) | (refine Zpi ?_ ?_) | (exact SubH.none (by assumption) (by assumption)) | (refine hid _ ?_) | (refine (hik _ ?_).use ?_) | (with_reducible refine And.intro ?_ ?_)))
      ·have x10:=zg;have d4a:=Zo6 k4 zg;generalize zr=r10 at *
       refine (hcl _).use (fun v H2 ho=>?_);rcases ho with ⟨_,h00,_⟩ | ⟨g,c,sp,rfl,hg,rfl,hl1,hl2,hl3,_⟩
       ·omega
       have hgg:=hg;simp only [Zpb] at hgg;have d4g:=Zo6 k4 hgg.2;have yg:=hsb.none hgg.2;have y10:=hsb.none x10;have hb4:=Zo8 k4;clear hik hcl hid zh k2 k3
       (repeat' (first | (simp only [↓ZF,ZG,ptrV,Zo5,Zo7,Zpd,Zpo,ZQ,fillV,setAt,Zo9,ZW,Ye,Yk,YE,JR,Yc,ZZ, *]) | (refine And.intro (Zph (by assumption)) ?_) | (refine ZH fun zr zh=>?_; have zg:=zh; (try simp only [Zpb] at zg); (try have zn_k4:=Zo6 k4 zh); (try have zn_k4:=Zo6 k4 zg.2); (try have zn_k4:=Zo6 k4 zg.2.2)) | (exact Zpa _) | (refine Zpi ?_ ?_) | (with_reducible refine And.intro ?_ ?_)))
       ·omega
       ·have y12:=hsb.none zg.2.2;exact Zku (e':=34) (e2:=34) (r:=r4) (g:=g) (by simp only [ZI,Zo5,if_false, *]<;>rfl) (by simp only [ZI,Zo5,if_true,if_false, *]<;>rfl) (Zpc _ _ _) (by rw [Zpg _ _ d4g.2]; exact Zpc _ _ _) (Zkt hi) (by rw [List.length_set]) hl3 (by repeat (first | exact hsb | refine Zpi ?_ (by assumption))) yg
      ·rename_i r10 m10 m10' w2 w3 w4;have x10:=m10';have x12:=zg.2;have d4a:=w4;have d4b:=Zo6 k4 x12;have dab:=zg.1;generalize zr=r12 at *
       refine (hcl _).use (fun v H2 ho=>?_);rcases ho with ⟨_,h00,_⟩ | ⟨g,c,sp,rfl,hg,rfl,hl1,hl2,hl3,_⟩
       ·omega
       have hgg:=hg;simp only [Zpb] at hgg;have d4g:=Zo6 k4 hgg.2.2;have yg:=hsb.none hgg.2.2;have y10:=hsb.none x10;have y12:=hsb.none x12;have hb4:=Zo8 k4;clear hik hcl hid zh zg k2 k3 m10 m10'
       (repeat' (first | (simp only [↓ZF,ZG,ptrV,Zo5,Zo7,Zpd,Zpo,ZQ,fillV,setAt,Zo9,ZW,Ye,Yk,YE,JR,ZZ, *]) | (exact Zpa _) | (refine Zpi ?_ ?_) | (with_reducible refine And.intro ?_ ?_)))
       ·omega
       ·exact Zku (e':=34) (e2:=34) (r:=r4) (g:=g) (by simp only [ZI,Zo5,if_false, *]<;>rfl) (by simp only [ZI,Zo5,if_true,if_false, *]<;>rfl) (Zpc _ _ _) (by rw [Zpg _ _ d4g.2]; exact Zpc _ _ _) (Zkt hi) (by rw [List.length_set]) hl3 (by repeat (first | exact hsb | refine Zpi ?_ (by assumption))) yg
      ·have x10:=zg;have d4a:=Zo6 k4 zg;generalize zr=r10 at *
       refine (hcl _).use (fun v H2 ho=>?_);rcases ho with ⟨_,h00,_⟩ | ⟨g,c,sp,rfl,hg,rfl,hl1,hl2,hl3,_⟩
       ·omega
       have hgg:=hg;simp only [Zpb] at hgg;have d4g:=Zo6 k4 hgg.2;have yg:=hsb.none hgg.2;have y10:=hsb.none x10;have hb4:=Zo8 k4;clear hik hcl hid zh k2 k3
       (repeat' (first | (simp only [↓ZF,ZG,ptrV,Zo5,Zo7,Zpd,Zpo,ZQ,fillV,setAt,Zo9,ZW,Ye,Yk,YE,JR,Yc,ZZ, *]) | (refine And.intro (Zph (by assumption)) ?_) | (refine ZH fun zr zh=>?_; have zg:=zh; (try simp only [Zpb] at zg); (try have zn_k4:=Zo6 k4 zh); (try have zn_k4:=Zo6 k4 zg.2); (try have zn_k4:=Zo6 k4 zg.2.2)) | (exact Zpa _) | (refine Zpi ?_ ?_) | (with_reducible refine And.intro ?_ ?_)))
       ·omega
       ·have y12:=hsb.none zg.2.2;exact Zku (e':=34) (e2:=34) (r:=r4) (g:=g) (by simp only [ZI,Zo5,if_false, *]<;>rfl) (by simp only [ZI,Zo5,if_true,if_false, *]<;>rfl) (Zpc _ _ _) (by rw [Zpg _ _ d4g.2]; exact Zpc _ _ _) (Zkt hi) (by rw [List.length_set]) hl3 (by repeat (first | exact hsb | refine Zpi ?_ (by assumption))) yg
      ·rename_i r10 m10 m10' w2 w3 w4;have x10:=m10';have x12:=zg.2;have d4a:=w4;have d4b:=Zo6 k4 x12;have dab:=zg.1;generalize zr=r12 at *
       refine (hcl _).use (fun v H2 ho=>?_);rcases ho with ⟨_,h00,_⟩ | ⟨g,c,sp,rfl,hg,rfl,hl1,hl2,hl3,_⟩
       ·omega
       have hgg:=hg;simp only [Zpb] at hgg;have d4g:=Zo6 k4 hgg.2.2;have yg:=hsb.none hgg.2.2;have y10:=hsb.none x10;have y12:=hsb.none x12;have hb4:=Zo8 k4;clear hik hcl hid zh zg k2 k3 m10 m10'
       (repeat' (first | (simp only [↓ZF,ZG,ptrV,Zo5,Zo7,Zpd,Zpo,ZQ,fillV,setAt,Zo9,ZW,Ye,Yk,YE,JR,ZZ, *]) | (exact Zpa _) | (refine Zpi ?_ ?_) | (with_reducible refine And.intro ?_ ?_)))
       ·omega
       ·exact Zku (e':=34) (e2:=34) (r:=r4) (g:=g) (by simp only [ZI,Zo5,if_false, *]<;>rfl) (by simp only [ZI,Zo5,if_true,if_false, *]<;>rfl) (Zpc _ _ _) (by rw [Zpg _ _ d4g.2]; exact Zpc _ _ _) (Zkt hi) (by rw [List.length_set]) hl3 (by repeat (first | exact hsb | refine Zpi ?_ (by assumption))) yg
     ·have hR:(if 0≤nonV p E.kids then
       (match E.kids[(nonV p E.kids).toNat]? with
        | some k=>(.mk E.op E.name (E.kids.set (nonV p E.kids).toNat (stepF p k).1),(stepF p k).2)
        | none=>(e,0))
       else redF p E)=redF p E:=by rw [hni,if_neg (by omega)]
      rw [hR];clear hR hst;have hid:∀ K:VE→AH→Prop,K (.ret (iV (-1))) H'→ZU Try.prog 71 [encS exE E.kids,.func (.func 72) [] [ptrV r2 0]] H' K:=fun K hK=>hidx r2 H' hsb k2 K (by rw [show idxF (fun k=>!k.isV p) E.kids = -1 from hni]; exact hK)
      have hEo:E.op=4:=by rw [q3,hop4]
      have hfs:=hEs f (by rw [hk]; simp);have hfn:=hEn f (by rw [hk]; simp);have hzf:f.name.size≤maxLen:=by have:=(Ex.nmOk_iff.1 hfn).1; unfold maxLen; omega
      have hfo:=XT.1 (Xn.1 hfs).1;have ek:encS exE E.kids=.slice false (r.length+2) (iV f.op::sV f.name::encS exE f.kids::iV a.op::sV a.name::encS exE a.kids::encC exE r):=by rw [hk,encS,Yh,Yh,WU,WU]; rfl
      have hmz:∀ x∈E.kids,x.sz≤1099511627776:=fun x hx=>by have:=ZX hx; omega
      have hrz:r.length+2≤1099511627776:=by rw [hk] at hEN; simpa using hEN
      have hl0:(0:Int)<((r.length+2:Nat):Int):=by omega
      have hl1:(0:Int)<((r.length+2-1:Nat):Int):=by omega
      have hred:redF p E=if f.op=5 then ((Yr ((f.kids.headD zEx).put [(f.name,a)]) r),0)
       else if f.op=3 then (E,421)
       else (match p.funs[(atFu p.funs f.name).toNat]? with
        | some g=>(Yr (Yn g ((a::r).take g.arity.toNat)).2.1 ((a::r).drop g.arity.toNat),(Yn g ((a::r).take g.arity.toNat)).2.2)
        | none=>(E,0)):=by unfold redF; rw [hk]<;>rfl
      rw [hred];replace hE:=Zo8 hE;clear hred ih hidx hisv hEs hEn hall hEl hEz q1 q2 q3 qz hsd hsd' hown hnv hkl z hEf hnm hnm';rcases hcase with ⟨hf5,bd,hbd⟩ | hf3 | ⟨hf2,hfp,hfl⟩
      ·rw [if_pos hf5,hbd];have hbz:bd.sz≤1099511627776:=by have h1:=hmz f (by rw [hk]; simp); have h2:=f.sz_eq; rw [hbd,exsSz] at h2; omega
       have ekf:encS exE f.kids=.slice false 1 [iV bd.op,sV bd.name,encS exE bd.kids]:=by rw [hbd,encS,Yh,WU]; rfl
       have hput:∀ (H:AH) (K:VE→AH→Prop),K (.ret (exV (bd.put [(f.name,a)]))) H→ZU Try.prog 36 [.agg [iV bd.op,sV bd.name,encS exE bd.kids],.slice true 1 [sV f.name,iV a.op,sV a.name,encS exE a.kids]] H K:=fun H K hK =>
        YU (Zpn (Zpt _ _) (Zpn (GhV.imm H) (GhL.nil _))) ((ZmV (bd.sz+1) bd [(f.name,a)] (by omega) hbz (by simp)).use hK)
       have happ:=Zg8 false (bd.put [(f.name,a)]) r (by omega);show vc _ _ (stQ H (Yr (bd.put [(f.name,a)]) r,0)) _ _;generalize bd.put [(f.name,a)]=X at *
       generalize hY:Yr X r=Y at *
       clear hfo hmz hbd hY;rw [ek] at hid;rw [hEo,ek,hf5,ekf] at k3;rw [hf5,ekf] at hid;replace hEo:=Zo8 hEo;replace ek:=Zo8 ek;replace ekf:=Zo8 ekf;have hw1:((1:Nat):Int)=1:=rfl
       (repeat' (first | (simp only [↓ZF,ZG,ptrV,Zo5,Zo7,Zpd,ZpQ,Zpo,ZQ,fillV,setAt,Zo9,Int.reduceLT,ZpZ,Zp1,ZN,ZQ,Int.toNat_zero,Nat.zero_mul,Int.reduceToNat,YC,ZpS,Zps,Xj,idxV,idxOk,imp_self,ZT,Yd,ZW,Yg,Ym,Ye,Yk,YE,Yc,WF,Zni,ZZ,Zas,ZlP,ZoO,en_74, *]) | (refine ZR mixed (fun _ _ _ _ e h=>⟨e.trans h.1,h.2⟩) _ (Zpa _) ?_) | (refine And.intro (Zph (by assumption)) ?_) | (refine ZH fun zr zh=>?_; have zg:=zh; (try simp only [Zpb] at zg); (try have zn_k2:=Zo6 k2 zh); (try have zn_k2:=Zo6 k2 zg.2); (try have zn_k2:=Zo6 k2 zg.2.2); (try have zn_k3:=Zo6 k3 zh); (try have zn_k3:=Zo6 k3 zg.2); (try have zn_k3:=Zo6 k3 zg.2.2); (try have zn_k4:=Zo6 k4 zh); (try have zn_k4:=Zo6 k4 zg.2); (try have zn_k4:=Zo6 k4 zg.2.2)) | (exact Zpa _) | (refine Zpe (happ) ?_) | (refine hput _ _ ?_) | (refine hid _ ?_) | (with_reducible refine And.intro ?_ ?_)))
       all_goals have y13:=hsb.none zg
       all_goals first
        | omega
        | exact fun h=>trivial
        | (refine Zis (e':=34) (sp:=0) (by simp only [ZI,Zo5,if_false, *]<;>rfl) (by simp only [ZI,Zo5,if_true,if_false, *]<;>rfl) (Zpc _ _ _) ?_
           exact ZpB (by repeat (first | exact hsb | refine Zpi ?_ (by assumption))) _)
        | trace_state
      ·rw [if_neg (by omega),if_pos hf3];clear hfo hmz;rw [ek] at hid;rw [hEo,ek,hf3] at k3;have q7:VV.agg [iV 4,sV E.name,.slice false (r.length+2) (iV 3::sV f.name::encS exE f.kids::iV a.op::sV a.name::encS exE a.kids::encC exE r)]=exV E:=by rw [← hf3,← ek,← hEo]
       replace hEo:=Zo8 hEo;replace ek:=Zo8 ek;replace q7:=Zo8 q7;rw [hf3] at hid;clear hEnn
       (repeat' (first | (simp only [↓ZF,ZG,ptrV,Zo5,Zo7,Zpd,ZpQ,Zpo,setAt,Zo9,ZpE,ZpZ,Zp1,Int.toNat_zero,Nat.zero_mul,Int.reduceToNat,YC,ZpS,Zps,Xj,idxV,idxOk,imp_self,ZT,ZW,Yg,Ye,Yk,YE,Yc,ZZ,ZlP, *]) | (refine ZR mixed (fun _ _ _ _ e h=>⟨e.trans h.1,h.2⟩) _ (Zpa _) ?_) | (refine And.intro (Zph (by assumption)) ?_) | (refine ZH fun zr zh=>?_; have zg:=zh; (try simp only [Zpb] at zg); (try have zn_k2:=Zo6 k2 zh); (try have zn_k2:=Zo6 k2 zg.2); (try have zn_k2:=Zo6 k2 zg.2.2); (try have zn_k3:=Zo6 k3 zh); (try have zn_k3:=Zo6 k3 zg.2); (try have zn_k3:=Zo6 k3 zg.2.2); (try have zn_k4:=Zo6 k4 zh); (try have zn_k4:=Zo6 k4 zg.2); (try have zn_k4:=Zo6 k4 zg.2.2)) | (refine hid _ ?_)))
       have y13:=hsb.none zg;refine Zis (e':=34) (sp:=0) (by simp only [ZI,Zo5,if_false, *]<;>rfl) (by simp only [ZI,Zo5,if_true,if_false, *]<;>rfl) (Zpc _ _ _) ?_;rw [q7.out];exact ZpB (by repeat (first | exact hsb | refine Zpi ?_ (by assumption))) _
      ·rw [if_neg (by omega),if_neg (by omega)];obtain ⟨j,hj,hat,har,hfm⟩:=Zks hp.nd (hfo.2.1 hf2);rw [hat,ZpW,ZpP hj];rw [har] at hfp hfl;obtain ⟨ka,hka⟩:∃ ka:Nat,p.funs[j].arity=ka:=⟨p.funs[j].arity.toNat,by omega⟩
       have hkl:ka≤(a::r).length:=by rw [Zpx]; omega
       have hvs:∀ x∈(a::r).take ka,x.sz≤1099511627776:=fun x hx=>hmz x (by rw [hk]; exact Zqe _ (List.mem_of_mem_take hx))
       have hseq:=Zi3 p.funs[j] ((a::r).take ka) (hp.sz _ (Zpk hj)) (by rw [ZpX,Zpx]; omega) hvs (hp.nm _ (Zpk hj));have eal:encC exE (a::r)=iV a.op::sV a.name::encS exE a.kids::encC exE r:=by rw [Yh,WU]; rfl
       have hsel:∀ (H:AH) (K:VE→AH→Prop),K (.ret (selV (Yn p.funs[j] ((a::r).take ka)))) H→ZU Try.prog 10 [.agg [sV p.funs[j].name,iV ka,clsV p.funs[j].cls],.slice false ka (iV a.op::sV a.name::encS exE a.kids::encC exE r)] H K:=fun H K hK=>by
        rw [← eal];have e:encC exE (a::r)=encC exE ((a::r).take ka)++encC exE ((a::r).drop ka):=by rw [← Yu,Zqi]
        rw [e];refine YU (Zpn (Zpt _ _) (Zpn (GhV.trunc _ _ _ _ _) (GhL.nil _))) ?_;have el:((a::r).take ka).length=ka:=by rw [ZpX]; omega
        rw [show VV.slice false ka (encC exE ((a::r).take ka))=exsV ((a::r).take ka) from by rw [exsV,encS,el],← hka];exact hseq.use hK
       show vc _ _ (stQ H (Yr (Yn p.funs[j] ((a::r).take p.funs[j].arity.toNat)).2.1 ((a::r).drop p.funs[j].arity.toNat),(Yn p.funs[j] ((a::r).take p.funs[j].arity.toNat)).2.2)) _ _;rw [show p.funs[j].arity.toNat=ka by omega];generalize Yn p.funs[j] ((a::r).take ka)=S at *
       obtain ⟨sk,sb,sx⟩:=S;have happ:=Zg8 false sb ((a::r).drop ka) (by rw [Zp7,Zpx]; omega);have hdl:((a::r).drop ka).length=r.length+2-1-ka:=by rw [Zp7,Zpx]; omega
       have hdc:encC exE ((a::r).drop ka)=(iV a.op::sV a.name::encS exE a.kids::encC exE r).drop (ka * 3):=by
        rw [← eal]
        have:=ZfP (enc:=exE) (k:=3) Zbv (a::r) ka
        have h2:encC exE (a::r)=encC exE ((a::r).take ka)++encC exE ((a::r).drop ka):=by rw [← Yu,Zqi]
        rw [h2,List.drop_left' (by rw [XU Zbv,ZpX]; congr 1; omega)]
       rw [hdl,hdc] at happ;generalize Yr sb ((a::r).drop ka)=Y at *
       show vc _ _ (stQ H (Y,sx)) _ _;rw [hka] at hfm;rw [ek] at hid;rw [hEo,ek,hf2] at k3;rw [hf2] at hid;replace hEo:=Zo8 hEo;replace ek:=Zo8 ek;have hm1':=hsb _ _ hm1;have hka0:(0:Int)≤(ka:Int):=by omega
       have hkal:ka≤r.length+2-1:=by rw [Zpx] at hkl; omega
       clear hfo hmz hseq hvs hdl hdc hkl hfp hfl har hat hka hp hk
       (repeat' (first | (refine Zcy JB hzf hfm (by first | assumption | simp only [Zpf, *,if_false]) ?_) | (simp only [↓Wj,↓Xx,↓Xy,↓Xm,↓XI,↓YS,↓ZaU,↓WO,↓XA,↓Yo,↓Ys,↓Zb9,↓YJ,↓YG,↓WP,↓YH,↓WQ,↓YI,↓YT,↓Wk,↓ZI,↓YV,↓YB,↓YR,↓Wu,↓Wy,↓Wc,↓XQ,↓Wz,↓ZjP,↓Yj,↓Xv,↓WG,↓Wo,↓Xk,↓YX,↓ZiN,↓YK,vcNil,ZP,ptrV,boolV,Zpp,Zpw,Zpx,Zp0,ite_true,ite_false,Zo5,Zo7,Zpd,ZpQ,Zpo,ne_eq,not_false_eq_true,not_true_eq_false,true_and,and_true,List.drop_succ_cons,ZpV,ZpT,Zpv,decide_false,Bool.false_and,reduceCtorEq,ZpW,↓Wv,↓XR,↓Jl,↓Znt,Zpf,ZpA,setAt,ZpU,List.all_nil,Zp3,eq_self,Zpu,ZpO,Zo9,and_self,Zqa,Zqb,We,XY,JH,JS,Xw,JN,Zp5,Zp4,↓XS,Xt,Zpl,Zbc,Wf,ZgV,Jo,Zeb,Zbo,Wg,Zbd,XF,Jj,Zbe,Zbf,↓Zay,↓ZmP,↓s_plCutN,↓Zcu,ZpE,ZpZ,Zp1,okV,ZpW,Int.toNat_zero,Nat.zero_mul,Int.reduceToNat,YC,ZpS,Zps,Xj,idxV,idxOk,imp_self,ZT,Ja,Yd,ZW,Wq,Yg,ZaS,Ym,Zdu,Ye,Yk,YE,Yc,ZZ,en_10,ZlP,en_74, *]) | (refine ZR mixed (fun _ _ _ _ e h=>⟨e.trans h.1,h.2⟩) _ (Zpa _) ?_) | (refine And.intro (Zph (by assumption)) ?_) | (refine ZH fun zr zh=>?_; have zg:=zh; (try simp only [Zpb] at zg); (try have zn_hm1':=Zo6 hm1' zh); (try have zn_hm1':=Zo6 hm1' zg.2); (try have zn_hm1':=Zo6 hm1' zg.2.2); (try have zn_k2:=Zo6 k2 zh); (try have zn_k2:=Zo6 k2 zg.2); (try have zn_k2:=Zo6 k2 zg.2.2); (try have zn_k3:=Zo6 k3 zh); (try have zn_k3:=Zo6 k3 zg.2); (try have zn_k3:=Zo6 k3 zg.2.2); (try have zn_k4:=Zo6 k4 zh); (try have zn_k4:=Zo6 k4 zg.2); (try have zn_k4:=Zo6 k4 zg.2.2)) | (exact Zpa _) | (refine Zpe (happ) ?_) | (refine hsel _ _ ?_) | (refine hid _ ?_) | (with_reducible refine And.intro ?_ ?_)))
       all_goals first
        | exact fun h=>trivial
        | exact Nat.zero_le _
        | (rename_i r13 m13 m13' w1 w2 w3 w4
           have y13:=hsb.none m13';have y17:=hsb.none zg.2;refine Zis (e':=34) (sp:=0) (by simp only [ZI,Zo5,if_false, *]<;>rfl) (by simp only [ZI,Zo5,if_true,if_false, *]<;>rfl) (Zpc _ _ _) ?_;exact ZpB (by repeat (first | exact hsb | refine Zpi ?_ (by assumption))) _)
        | trace_state
    ·simp only [vcs];rcases hop with h3 | h4
     ·have hEe:E=e:=by rw [hE]; unfold preE; rw [if_neg (by omega)]
      clear ih hsd hsd' hown hst hnv;replace hE:=Zo8 hE;replace hEe:=Zo8 hEe
      (repeat' (first | (simp only [↓ZF,ZG,ptrV,Zo5,Zo7,Yb,ZJ,Zo9,undef,ZpE,ZT,Yg,Yc,ZgJ, *]) | (refine ZR mixed (fun _ _ _ _ e h=>⟨e.trans h.1,h.2⟩) _ (Zpa _) ?_) | (refine ZH fun zr zh=>?_; have zg:=zh; (try simp only [Zpb] at zg); (try have zn_hm1:=Zo6 hm1 zh); (try have zn_hm1:=Zo6 hm1 zg.2); (try have zn_hm1:=Zo6 hm1 zg.2.2))))
      rename_i r2 n2 n2' w2 r3 n3 n3' w3;have g3:=n3'.2;have g4:=zg.2.2;exact ⟨r2,r3,zr,rfl,(by simp only [ZI,Zo5,if_true,if_false, *]<;>rfl),(by simp only [ZI,Zo5,if_true,if_false, *]<;>rfl),(by simp only [ZI,Zo5,if_true,if_false, *]<;>rfl),(by simp only [ZI,Zo5,if_true,if_false, *]<;>rfl),(by repeat (first | exact Zpa _ | refine Zpi ?_ (by assumption))),g4,(by simp only [Zpf, *,if_true,if_false]<;>rfl),by rw [Zpg _ _ zg.1.2,Zpc,hEe.out,h3],⟨_,_,_,(by simp only [Zpf, *,if_true,if_false]<;>rfl)⟩,⟨zg.2.1.2,zg.2.1.1⟩,⟨zg.1.2,zg.1.1⟩⟩
     ·obtain ⟨hen,k,k2,r,hek⟩:=ZdN hsd h4;have hks:=hsd'.2 k (by rw [hek]; simp);rw [if_neg (by omega)] at hks;have hkn:=hnm'.2 k (by rw [hek]; simp);have hkz:k.sz≤1099511627776:=by have:=ZX (l:=e.kids) (e:=k) (by rw [hek]; simp); omega
      have hkv:=hisv k hkz hkn hks;have hl0:(0:Int)<((r.length+2:Nat):Int):=by omega
      have ek:encS exE e.kids=.slice false (r.length+2) (iV k.op::sV k.name::encS exE k.kids::encC exE (k2::r)):=by rw [hek,encS,Yh,WU]; rfl
      have q5:VV.agg [iV 4,sV e.name,.slice false (r.length+2) (iV k.op::sV k.name::encS exE k.kids::encC exE (k2::r))]=exV e:=by rw [← ek]; show _=VV.agg [iV e.op,sV e.name,encS exE e.kids]; rw [h4]
      have hfl:=ZnJ hsd hs;rw [← q5] at hfl;have hhd:headV p e=k.isV p:=by unfold headV; rw [hek]
      cases hkb:k.isV p with
      | true =>
        have hEe:E=e.flat:=by rw [hE]; unfold preE; rw [if_pos ⟨h4,by rw [hhd,hkb]⟩]
        rw [← hEe] at hfl;rw [hkb] at hkv;clear ih hsd hsd' hown hst hnv hkb hhd hek hen q5;replace hE:=Zo8 hE;replace hEe:=Zo8 hEe
        (repeat' (first | (simp only [↓ZF,ZG,ptrV,boolV,Zo5,Zo7,Zpd,ZJ,setAt,Zo9,undef,ZpE,ZpZ,Int.toNat_zero,Nat.zero_mul,ZT,ZW,Yg,Ye,WJ,Yk,YE,Yc,ZZ,ZgJ,en_70, *]) | (refine ZR mixed (fun _ _ _ _ e h=>⟨e.trans h.1,h.2⟩) _ (Zpa _) ?_) | (refine ZH fun zr zh=>?_; have zg:=zh; (try simp only [Zpb] at zg); (try have zn_hm1:=Zo6 hm1 zh); (try have zn_hm1:=Zo6 hm1 zg.2); (try have zn_hm1:=Zo6 hm1 zg.2.2)) | (exact Zpa _) | (refine Zpi ?_ ?_) | (refine Zpe (hfl) ?_) | (refine (hkv _ ?_).use ?_)))
        rename_i r2 n2 n2' w2 r3 n3 n3' w3;have g3:=n3'.2;have g4:=zg.2.2;exact ⟨r2,r3,zr,rfl,(by simp only [ZI,Zo5,if_true,if_false, *]<;>rfl),(by simp only [ZI,Zo5,if_true,if_false, *]<;>rfl),(by simp only [ZI,Zo5,if_true,if_false, *]<;>rfl),(by simp only [ZI,Zo5,if_true,if_false, *]<;>rfl),(by repeat (first | exact Zpa _ | refine Zpi ?_ (by assumption))),g4,(by simp only [Zpf, *,if_true,if_false]<;>rfl),(by simp only [Zpf, *,if_true,if_false]<;>rfl),⟨_,_,_,(by simp only [Zpf, *,if_true,if_false]<;>rfl)⟩,⟨zg.2.1.2,zg.2.1.1⟩,⟨zg.1.2,zg.1.1⟩⟩
      | false =>
        have hEe:E=e:=by rw [hE]; unfold preE; rw [if_neg (by rw [hhd,hkb]; simp)]
        rw [hkb] at hkv;replace hkb:=Zo8 hkb;clear ih hsd hsd' hown hst hnv hhd hek hen q5;replace hE:=Zo8 hE;replace hEe:=Zo8 hEe
        (repeat' (first | (simp only [↓ZF,ZG,ptrV,boolV,Zo5,Zo7,ZJ,Zo9,undef,ZpE,ZpZ,Int.toNat_zero,Nat.zero_mul,ZT,ZW,Yg,Ye,WJ,Yk,Yc,ZZ,ZgJ, *]) | (refine ZR mixed (fun _ _ _ _ e h=>⟨e.trans h.1,h.2⟩) _ (Zpa _) ?_) | (refine ZH fun zr zh=>?_; have zg:=zh; (try simp only [Zpb] at zg); (try have zn_hm1:=Zo6 hm1 zh); (try have zn_hm1:=Zo6 hm1 zg.2); (try have zn_hm1:=Zo6 hm1 zg.2.2)) | (exact Zpa _) | (refine Zpi ?_ ?_) | (refine (hkv _ ?_).use ?_)))
        rename_i r2 n2 n2' w2 r3 n3 n3' w3;have g3:=n3'.2;have g4:=zg.2.2;exact ⟨r2,r3,zr,rfl,(by simp only [ZI,Zo5,if_true,if_false, *]<;>rfl),(by simp only [ZI,Zo5,if_true,if_false, *]<;>rfl),(by simp only [ZI,Zo5,if_true,if_false, *]<;>rfl),(by simp only [ZI,Zo5,if_true,if_false, *]<;>rfl),(by repeat (first | exact Zpa _ | refine Zpi ?_ (by assumption))),g4,(by simp only [Zpf, *,if_true,if_false]<;>rfl),by rw [Zpg _ _ zg.1.2,Zpc,hEe.out,h4,ek],⟨_,_,_,(by simp only [Zpf, *,if_true,if_false]<;>rfl)⟩,⟨zg.2.1.2,zg.2.1.1⟩,⟨zg.1.2,zg.1.1⟩⟩
end Go.PV.Ytglpmlbbaedbiaa
end
section
open List renaming append_assoc→Zqc,map_cons→Zpp,eq_nil_of_length_eq_zero→ZpY
open Nat renaming mul_le_mul_right→Zqg
open Option renaming map_eq_some_iff→Zp9
namespace Go.PV.Ytglpmlbbaedbiaa
open Go Go.Proofs
mutual
theorem Pa.parts_all {Q:Ex→Prop} (hQ:∀ e,Q e→e.op=3→∀ k∈e.kids,Q k):∀ (p:Pa) (e:Ex) (l:List Bd),Q e→(∀ b∈l,Q b.2)→∀ b∈(p.parts e l).1,Q b.2
 | .mk c n ks,e,l,he,hl=>by
   rw [Pa.parts];split
   ·split
    ·rename_i h;exact Zb1 hQ ks e.kids l (hQ e he h.1) hl
    ·exact hl
   ·intro b hb;rcases List.mem_append.1 hb with hb | hb
    ·exact hl b hb
    ·simp at hb; subst hb; exact he
theorem Zb1 {Q:Ex→Prop} (hQ:∀ e,Q e→e.op=3→∀ k∈e.kids,Q k):∀ (ps:List Pa) (es:List Ex) (l:List Bd),(∀ e∈es,Q e)→(∀ b∈l,Q b.2)→∀ b∈(Yi ps es l).1,Q b.2
 | [],_,l,_,hl=>by rw [Yi]; exact hl
 | p::ps,e::es,l,he,hl=>by
   have h1:=Pa.parts_all hQ p e l (he e (by simp)) hl;rw [Yi];split
   ·rename_i l' h;rw [h] at h1;exact Zb1 hQ ps es l' (fun x hx=>he x (by simp [hx])) h1
   ·rename_i l' h;rw [h] at h1;exact h1
 | _::_,[],l,_,hl=>by rw [Yi]; exact hl
end
mutual
theorem Pa.parts_names:∀ (p:Pa) (e:Ex) (l:List Bd),(p.parts e l).2=true→(p.parts e l).1.map (·.1)=l.map (·.1)++p.names
 | .mk c n ks,e,l,h=>by
   rw [Pa.parts] at h ⊢;rw [Pa.names];split
   ·rename_i hc;rw [if_pos hc] at h;split
    ·rename_i h2;rw [if_pos h2] at h;exact ZaC ks e.kids l h
    ·rename_i h2;rw [if_neg h2] at h;cases h
   ·simp
theorem ZaC:∀ (ps:List Pa) (es:List Ex) (l:List Bd),(Yi ps es l).2=true→(Yi ps es l).1.map (·.1)=l.map (·.1)++ZV ps
 | [],_,l,_=>by simp [Yi,ZV]
 | p::ps,e::es,l,h=>by
   have h1:=Pa.parts_names p e l;rw [Yi] at h ⊢;rw [ZV];split
   ·rename_i l' h2;rw [h2] at h1 h;rw [ZaC ps es l' h,h1 rfl,Zqc]
   ·rename_i l' h2;rw [h2] at h;cases h
 | _::_,[],l,h=>by rw [Yi] at h; cases h
end
theorem Zdf {l:List Bd} {n:ByteArray} {x:Ex} (h:lastB l n=some x):∃ b∈l,b.1=n∧b.2=x:=by
 unfold lastB at h;simp only [Zp9] at h;obtain ⟨b,h1,h2⟩:=h;have h3:=List.mem_of_find?_eq_some h1;have h4:=List.find?_some h1;exact ⟨b,by simpa using h3,by simpa using h4,h2⟩
theorem Zot {l:List Bd} {n:ByteArray} (h:lastB l n=none):n ∉ l.map (·.1):=by
 unfold lastB at h;simp only [Option.map_eq_none_iff,List.find?_eq_none,List.mem_reverse] at h;intro hm;obtain ⟨b,hb,rfl⟩:=List.mem_map.1 hm;exact h b hb (by simp)
theorem ZhM {p:Pr} {op:Int} {name:ByteArray} {ks ks':List Ex} {b b':List ByteArray} (h:sdOwn p (.mk op name ks) b=0) (hl:ks'.length=ks.length) (hb:op=1→name∈b→name∈b'):sdOwn p (.mk op name ks') b'=0:=by
 have h':=XT.1 h;refine XT.2 ?_;simp only [Ex.op,Ex.name,Ex.kids] at h' ⊢;rw [hl];exact ⟨h'.1,h'.2.1,h'.2.2.1,fun h1=>hb h1 (h'.2.2.2 h1)⟩
theorem Zg9 {p:Pr}:∀ (e:Ex) (b b':List ByteArray),e.sdF p b=0→(∀ n∈b,n∈b')→e.sdF p b'=0:=by
 intro e;refine Ex.ind (p:=fun e=>∀ (b b':List ByteArray),e.sdF p b=0→(∀ n∈b,n∈b')→e.sdF p b'=0) (fun e ih b b' h hb=>?_) e;obtain ⟨op,name,ks⟩:=e;have h':=Xn.1 h;refine Xn.2 ⟨ZhM h'.1 rfl (fun _ hn=>hb _ hn),fun k hk=>ih k hk _ _ (h'.2 k hk) ?_⟩;simp only [Ex.op,Ex.name];by_cases h5:op=5
 ·simp only [h5,if_true];intro n hn;rcases List.mem_append.1 hn with hn | hn
  ·exact List.mem_append_left _ (hb n hn)
  ·exact List.mem_append_right _ hn
 ·simp only [h5,if_false]; exact hb
theorem ZmY {p:Pr}:∀ (e:Ex) (l:List Bd) (b b':List ByteArray),e.sdF p b=0→(∀ n∈b,n∈b'∨n∈l.map (·.1))→(∀ x∈l,x.2.sdF p []=0)→(e.put l).sdF p b'=0:=by
 intro e;refine Ex.ind (p:=fun e=>∀ (l:List Bd) (b b':List ByteArray),e.sdF p b=0→(∀ n∈b,n∈b'∨n∈l.map (·.1))→(∀ x∈l,x.2.sdF p []=0)→(e.put l).sdF p b'=0) (fun e ih l b b' h hb hl=>?_) e;have h':=Xn.1 h;rw [e.put_eq];split
 ·rename_i x hx;split at hx
  ·obtain ⟨y,hy,_,rfl⟩:=Zdf hx;exact Zg9 _ [] b' (hl y hy) (by simp)
  ·cases hx
 ·rename_i hx;have he:=e.eta;refine Xn.2 ⟨ZhM (ks:=e.kids) (b:=b) (by rw [he]; exact h'.1) (by simp) (fun h1 hn=>?_),fun k hk=>?_⟩
  ·rw [if_pos h1] at hx;rcases hb _ hn with h2 | h2
   ·exact h2
   ·exact absurd h2 (Zot hx)
  ·change Ex.sdF p k (if e.op=5 then b'++[e.name] else b')=0
   obtain ⟨k0,hk0,rfl⟩:=List.mem_map.1 hk;have h3:=h'.2 k0 hk0;by_cases h5:e.op=5
   ·rw [if_pos h5] at h3;rw [if_pos h5,if_pos h5];refine ih k0 hk0 _ _ _ h3 (fun n hn=>?_) (fun x hx=>hl x (List.mem_filter.1 hx).1);by_cases hnn:n=e.name
    ·left; rw [hnn]; simp
    ·rcases List.mem_append.1 hn with hn | hn
     ·rcases hb n hn with h6 | h6
      ·exact .inl (List.mem_append_left _ h6)
      ·right;obtain ⟨y,hy,rfl⟩:=List.mem_map.1 h6;exact List.mem_map.2 ⟨y,List.mem_filter.2 ⟨hy,by simpa using hnn⟩,rfl⟩
     ·simp at hn; exact absurd hn hnn
   ·rw [if_neg h5] at h3;rw [if_neg h5,if_neg h5];exact ih k0 hk0 _ _ _ h3 hb hl
theorem ZmZ:∀ (e:Ex) (l:List Bd),e.nmOk→(∀ x∈l,x.2.nmOk)→(e.put l).nmOk:=by
 intro e;refine Ex.ind (p:=fun e=>∀ (l:List Bd),e.nmOk→(∀ x∈l,x.2.nmOk)→(e.put l).nmOk) (fun e ih l h hl=>?_) e;have h':=Ex.nmOk_iff.1 h;rw [e.put_eq];split
 ·rename_i x hx;split at hx
  ·obtain ⟨y,hy,_,rfl⟩:=Zdf hx;exact hl y hy
  ·cases hx
 ·refine Ex.nmOk_iff.2 ⟨h'.1,fun k hk=>?_⟩;obtain ⟨k0,hk0,rfl⟩:=List.mem_map.1 hk;refine ih k0 hk0 _ (h'.2 k0 hk0) ?_;split
  ·exact fun x hx=>hl x (List.mem_filter.1 hx).1
  ·exact hl
theorem ZeJ {f:Ex→Ex} {M:Nat}:∀ (ks:List Ex),(∀ k∈ks,(f k).sz≤k.sz * M)→exsSz (ks.map f)≤exsSz ks * M
 | [],_=>by simp [exsSz]
 | k::ks,h=>by
   rw [Zpp,exsSz,exsSz,Nat.add_mul];have h1:=h k (by simp);have h2:=ZeJ ks (fun x hx=>h x (by simp [hx]));omega
theorem sz_put {M:Nat}:∀ (e:Ex) (l:List Bd),(∀ x∈l,x.2.sz≤M)→(e.put l).sz≤e.sz * (1+M):=by
 intro e;refine Ex.ind (p:=fun e=>∀ (l:List Bd),(∀ x∈l,x.2.sz≤M)→(e.put l).sz≤e.sz * (1+M)) (fun e ih l hl=>?_) e;rw [e.put_eq];have hp:=e.sz_pos;have hm:=Zqg (1+M) (show 1≤e.sz from hp);split
 ·rename_i x hx;split at hx
  ·obtain ⟨y,hy,_,rfl⟩:=Zdf hx
   have:=hl y hy; omega
  ·cases hx
 ·have hl':∀ x∈(if e.op=5 then l.filter (fun b=>!decide (b.1=e.name)) else l),x.2.sz≤M:=by
   split
   ·exact fun x hx=>hl x (List.mem_filter.1 hx).1
   ·exact hl
  have h1:=ZeJ (f:=fun k=>k.put (if e.op=5 then l.filter (fun b=>!decide (b.1=e.name)) else l)) (M:=1+M) e.kids (fun k hk=>ih k hk _ hl');have h2:=e.sz_eq;rw [Ex.sz_eq,h2,Nat.add_mul]
  change 1+exsSz (e.kids.map _)≤_
  omega
theorem Zha {vs:List Ex}:∀ (cls:List Cl) (i:Nat),(selGo vs cls i).2.2=0→∃ c∈cls,(Yi c.pats vs []).2=true∧(selGo vs cls i).2.1=c.body.put (Yi c.pats vs []).1
 | [],i,h=>by simp [selGo] at h
 | c::cls,i,h=>by
   rw [selGo] at h ⊢;split
   ·rename_i h1;exact ⟨c,by simp,h1,rfl⟩
   ·rename_i h1;rw [if_neg h1] at h;obtain ⟨c',h2,h3⟩:=Zha cls (i+1) h;exact ⟨c',by simp [h2],h3⟩
theorem Zjy {f:Fu} {vs:List Ex} (h:(Yn f vs).2.2=0):∃ c∈f.cls,(Yi c.pats vs []).2=true∧(Yn f vs).2.1=c.body.put (Yi c.pats vs []).1:=by
 unfold Yn at h ⊢;split
 ·rename_i h1;rw [if_pos h1] at h;split
  ·rename_i h2;rw [if_pos h2] at h;exact Zha _ _ h
  ·rename_i h2;rw [if_neg h2] at h;exact absurd h h2
 ·rename_i h1;rw [if_neg h1] at h;cases h
theorem ZeK {R:Int} {l:List Co}:∀ {ps:List Pa},Zby R l ps=0→(∀ q∈ps,paChk l q=0)∧R=0
 | [],h=>⟨by simp,h⟩
 | q::ps,h=>by
   rw [Zby] at h;split at h
   ·rename_i h1;obtain ⟨h2,h3⟩:=ZeK h;refine ⟨fun x hx=>?_,h3⟩;rcases List.mem_cons.1 hx with rfl | hx
    ·exact h1
    ·exact h2 x hx
   ·rename_i h1; exact absurd h h1
theorem Zen {p:Pr} {f:Fu} {c:Cl} (h:clErr p f c=0):(c.pats.length:Int)=f.arity∧(∀ q∈c.pats,paChk p.cons q=0)∧(Yx c.pats).Nodup∧c.body.sz≤1000∧c.body.dp≤100∧c.body.shF p (Yx c.pats).reverse=0:=by
 unfold clErr at h;split at h
 ·rename_i h1;obtain ⟨h2,h3⟩:=ZeK h;split at h3
  ·rename_i h4;unfold Zcn at h3;split at h3
   ·cases h3
   ·split at h3
    ·cases h3
    ·exact ⟨h1,h2,h4,by omega,by omega,h3⟩
  ·cases h3
 ·cases h
theorem ZeL {R:Int} {p:Pr} {f:Fu}:∀ {l:List Cl},Za4 R p f l=0→(∀ c∈l,clErr p f c=0)∧R=0
 | [],h=>⟨by simp,h⟩
 | c::l,h=>by
   rw [Za4] at h;split at h
   ·rename_i h1;obtain ⟨h2,h3⟩:=ZeL h;refine ⟨fun x hx=>?_,h3⟩;rcases List.mem_cons.1 hx with rfl | hx
    ·exact h1
    ·exact h2 x hx
   ·rename_i h1; exact absurd h h1
theorem JW {p:Pr}:∀ {l:List Fu},Ws p l=0→∀ f∈l,∀ c∈f.cls,clErr p f c=0
 | [],_=>by simp
 | f::l,h=>by
   rw [Ws] at h;obtain ⟨h1,h2⟩:=ZeL h;intro x hx;rcases List.mem_cons.1 hx with rfl | hx
   ·exact h1
   ·exact JW h2 x hx
theorem Zf7 {l:List Co}:∀ {L:List Pl},Zcx l L=0→∀ x∈L,plErr l x=0
 | [],_=>by simp
 | y::L,h=>by
   rw [Zcx] at h;split at h
   ·rename_i h1;intro x hx;rcases List.mem_cons.1 hx with rfl | hx
    ·exact h1
    ·exact Zf7 h x hx
   ·rename_i h1; exact absurd h h1
theorem chk_leaf {l:List Co} {q:Pa} (h:paChk l q=0):∀ x∈q.all 0,x.1.con=false→x.1.kids=[]:=by
 unfold paChk at h;split at h
 ·cases h
 ·split at h
  ·cases h
  ·intro x hx hc;have h1:=Zf7 h x hx;unfold plErr at h1;split at h1
   ·rename_i h2;have h3:¬ 0<x.1.kids.length:=fun h4=>h2.2 ⟨hc,h4⟩
    exact ZpY (by omega)
   ·cases h1
theorem Zjz (L M:List Pl):varsL (L++M)=varsL L++varsL M:=List.filterMap_append
mutual
theorem Zhb:∀ (q:Pa) (a:Int),(∀ x∈q.all a,x.1.con=false→x.1.kids=[])→varsL (q.all a)=q.names
 | .mk c n ks,a,h=>by
   rw [Pa.all] at h ⊢;rw [Pa.names];have h2:=ZdP ks (a+1) (fun x hx=>h x (by simp [hx]));cases c with
   | true =>
     show varsL (_::_)=_;rw [varsL,List.filterMap_cons];simp only [Pa.con,if_true];exact h2
   | false =>
     have h3:ks=[]:=h (Pa.mk false n ks,a) (by simp) rfl;subst h3;simp [varsL,XH,Pa.con,Pa.name]
theorem ZdP:∀ (ks:List Pa) (a:Int),(∀ x∈XH ks a,x.1.con=false→x.1.kids=[])→varsL (XH ks a)=ZV ks
 | [],a,_=>by simp [XH,varsL,ZV]
 | q::ks,a,h=>by
   rw [XH] at h ⊢;rw [Zjz,ZV,Zhb q a (fun x hx=>h x (by simp [hx])),ZdP ks a (fun x hx=>h x (by simp [hx]))]
end
theorem Zb2 {l:List Co}:∀ {ps:List Pa},(∀ q∈ps,paChk l q=0)→Yx ps=ZV ps
 | [],_=>rfl
 | q::ps,h=>by
   rw [Yx,List.flatMap_cons,ZV];have h1:varsP q=q.names:=Zhb q 0 (chk_leaf (h q (by simp)));have h2:=Zb2 (ps:=ps) (fun x hx=>h x (by simp [hx]));rw [h1]
   congr 1
theorem nameB_ne {b:ByteArray} (h:nameB b=true):¬ b=noNm:=fun e=>by subst e; cases h
theorem mis_form {e:Ex} (h:misF e=false):formB e.op e.kids.length (!decide (e.name=noNm))=true:=by
 have hn:=nameB_ne (b:=e.name);unfold misF at h;unfold formB;generalize nameB e.name=nb at *
 generalize (e.kids.length:Int)=nk at *
 generalize e.op=op at *
 split at h
 ·rename_i h1;rw [if_pos h1];cases nb with
  | true=>simp at h; have:=hn rfl; simp [this]; omega
  | false=>simp at h
 ·rename_i h1;rw [if_neg h1];split at h
  ·rename_i h3;cases nb with
   | true=>have:=hn rfl; simp [this,h3]
   | false=>simp at h
  ·rename_i h3;split at h
   ·rename_i h4;simp at h;simp [h4,h.2]; omega
   ·rename_i h4;split at h
    ·rename_i h5;cases nb with
     | true=>simp at h; have:=hn rfl; simp [this,h5,h]
     | false=>simp at h
    ·cases h
theorem sh_kids {p:Pr} {l:List Ex} {b:List ByteArray}:shsF p l b=0→∀ k∈l,k.shF p b=0:=by
 induction l with
 | nil=>simp
 | cons k l ih =>
   rw [shsF];intro h;split at h
   ·rename_i h1;intro x hx;rcases List.mem_cons.1 hx with rfl | hx
    ·exact h1
    ·exact ih h x hx
   ·rename_i h1; exact absurd h h1
theorem sh_sd {p:Pr}:∀ (e:Ex) (nm b:List ByteArray),e.shF p nm=0→(∀ n∈nm,n∈b)→e.sdF p b=0:=by
 intro e;refine Ex.ind (p:=fun e=>∀ (nm b:List ByteArray),e.shF p nm=0→(∀ n∈nm,n∈b)→e.sdF p b=0) (fun e ih nm b h hb=>?_) e;rw [e.shF_eq] at h;split at h
 ·rename_i h0;have h1:=sh_kids h;refine Xn.2 ⟨XT.2 ?_,fun k hk=>ih k hk _ _ (h1 k hk) ?_⟩
  ·unfold ownF at h0;split at h0
   ·cases h0
   ·rename_i hm;split at h0
    ·cases h0
    ·rename_i h2;split at h0
     ·cases h0
     ·rename_i h3;split at h0
      ·cases h0
      ·rename_i h4;refine ⟨mis_form (by simpa using hm),fun h5=>?_,fun h5=>⟨?_,?_⟩,fun h5=>?_⟩
       ·exact Int.not_lt.1 fun h6=>h2 (.inl ⟨h5,h6⟩)
       ·exact Int.not_lt.1 fun h6=>h2 (.inr ⟨h5,h6⟩)
       ·exact Classical.not_not.1 fun h6=>h3 ⟨h5,h6⟩
       ·refine hb _ (Zfc.1 ?_);cases hh:hasF nm e.name with
        | true=>rfl
        | false=>exact absurd ⟨h5,hh⟩ h4
  ·split
   ·intro n hn;rcases List.mem_cons.1 hn with rfl | hn
    ·simp
    ·exact List.mem_append_left _ (hb n hn)
   ·exact hb
 ·rename_i h0; exact absurd h h0
end Go.PV.Ytglpmlbbaedbiaa
end
section
open Int renaming toNat_natCast→ZpW
open List renaming set_cons_succ→Zp4,mem_of_getElem?→Zqh,getElem?_eq_getElem→ZpP,getElem_mem→Zpk,mem_cons_of_mem→Zqe
open Nat renaming mul_le_mul_right→Zqg,le_refl→Zpl
namespace Go.PV.Ytglpmlbbaedbiaa
open Go Go.Proofs
theorem Zi4 {x:Ex}:∀ {l:List Ex} {i:Nat} (h:i<l.length),exsSz (l.set i x)+l[i].sz=exsSz l+x.sz
 | k::l,0,h=>by simp [exsSz]; omega
 | k::l,i+1,h=>by
   have:=Zi4 (x:=x) (l:=l) (i:=i) (by simpa using h)
   simp only [Zp4,exsSz,List.getElem_cons_succ];omega
structure BdOk (p:Pr) (f:Fu):Prop where
 body:∀ c∈f.cls,c.body.sdF p (ZV c.pats)=0∧c.body.sz≤1000∧c.body.nmOk
theorem ZhN {p:Pr} (h:Jh p=0) (hp:PrOk p):∀ f∈p.funs,BdOk p f:=fun f hf=>⟨fun c hc=>by
 obtain ⟨_,_,_,h4⟩:=Za5 h;obtain ⟨h5,h6,h7,h8,h9,h10⟩:=Zen (JW h4 f hf c hc);rw [Zb2 h6] at h10;exact ⟨sh_sd _ _ _ h10 (fun n hn=>List.mem_reverse.1 hn),h8,((hp.cls f hf).2 c hc).bnames⟩⟩
def ClQ (p:Pr) (M:Nat) (e:Ex):Prop:=e.sdF p []=0∧e.nmOk∧e.sz≤M
theorem ClQ.kid {p:Pr} {M:Nat} {e:Ex} (h:ClQ p M e) (h5:¬ e.op=5) {k:Ex} (hk:k∈e.kids):ClQ p M k:=by
 have h1:=(Xn.1 h.1).2 k hk;rw [if_neg h5] at h1;have h2:=ZX hk;have h3:=e.sz_eq;have h4:=h.2.2;exact ⟨h1,(Ex.nmOk_iff.1 h.2.1).2 k hk,by omega⟩
theorem Zi5 {p:Pr} {f:Fu} (hb:BdOk p f) {vs:List Ex} {M:Nat} (hvs:∀ v∈vs,ClQ p M v) (h:(Yn f vs).2.2=0):ClQ p (1000 * (1+M)) (Yn f vs).2.1:=by
 obtain ⟨c,hc,h1,h2⟩:=Zjy h;rw [h2];obtain ⟨b1,b2,b3⟩:=hb.body c hc;have hall:=Zb1 (Q:=ClQ p M) (fun e he h3 k hk=>he.kid (by omega) hk) c.pats vs [] hvs (by simp);have hnm:=ZaC c.pats vs [] h1;generalize (Yi c.pats vs []).1=l at *
 refine ⟨ZmY _ _ _ [] b1 (fun n hn=>.inr (by rw [hnm]; simpa using hn)) (fun x hx=>(hall x hx).1),ZmZ _ _ b3 (fun x hx=>(hall x hx).2.1),?_⟩
 have:=sz_put (M:=M) c.body l (fun x hx=>(hall x hx).2.2)
 have h3:=Zqg (1+M) b2;omega
theorem Zi6 {p:Pr} {X:Ex} {r:List Ex} {M N:Nat} (hX:ClQ p M X) (hr:∀ x∈r,x.sdF p []=0∧x.nmOk) (hN:exsSz r≤N):ClQ p (1+M+N) (Yr X r):=by
 unfold Yr;split
 ·exact ⟨hX.1,hX.2.1,by have:=hX.2.2; omega⟩
 ·rename_i h0;have hrl:0<r.length:=by omega
  refine ⟨Xn.2 ⟨XT.2 ⟨?_,by simp [Ex.op],by simp [Ex.op],by simp [Ex.op]⟩,?_⟩,Ex.nmOk_iff.2 ⟨Nat.zero_le 1099511627776,?_⟩,?_⟩
  ·change formB 4 ((X::r).length:Nat) (!decide (noNm=noNm))=true
   simp [formB]; omega
  ·intro k hk
   change Ex.sdF p k (if (4:Int)=5 then []++[noNm] else [])=0
   rw [if_neg (by decide)];rcases List.mem_cons.1 hk with rfl | hk
   ·exact hX.1
   ·exact (hr k hk).1
  ·intro k hk;rcases List.mem_cons.1 hk with rfl | hk
   ·exact hX.2.1
   ·exact (hr k hk).2
  ·rw [Ex.sz_eq]
   change 1+exsSz (X::r)≤_
   rw [exsSz]
   have:=hX.2.2
   omega
theorem ZdQ:∀ (l:List Ex) (i:Nat),exsSz (l.drop i)≤exsSz l
 | [],i=>by simp [exsSz]
 | k::l,0=>by simp
 | k::l,i+1=>by have:=ZdQ l i; simp only [List.drop_succ_cons,exsSz]; omega
theorem Zeo {p:Pr} (hb:∀ f∈p.funs,BdOk p f) {M:Nat}:∀ (n:Nat) (e:Ex),e.sz<n→ClQ p M e→e.isV p=false→(stepF p e).2=0→ClQ p (e.sz+1+(1000+M) * (1+M)) (stepF p e).1:=by
 intro n
 induction n with
 | zero=>intro e h0; omega
 | succ n ih =>
   intro e h0 he hv hx;have hA:(1000+M) * (1+M)=1000 * (1+M)+M * (1+M):=Nat.add_mul _ _ _;have hMM:M≤M * (1+M):=Nat.le_mul_of_pos_right _ (by omega);have hM1:M≤1000 * (1+M):=by omega
   have hw:∀ {N:Nat} {x:Ex},ClQ p N x→N≤e.sz+1+(1000+M) * (1+M)→ClQ p (e.sz+1+(1000+M) * (1+M)) x:=fun h h'=>⟨h.1,h.2.1,by have:=h.2.2; omega⟩
   have hown:=XT.1 (Xn.1 he.1).1;rw [ZbS] at hx ⊢;by_cases h2:e.op=2
   ·rw [if_pos h2] at hx ⊢;cases hf:p.funs[(atFu p.funs e.name).toNat]? with
    | none=>exact hw he (by omega)
    | some f =>
      rw [hf] at hx;exact hw (Zi5 (hb f (Zqh hf)) (vs:=[]) (M:=M) (by simp) hx) (by omega)
   ·rw [if_neg h2] at hx ⊢;obtain ⟨hop,hsp⟩:=Zg7 he.1 hv h2;obtain ⟨q1,q2,q3⟩:=ZmX (p:=p) he.1;have qz:=Zg6 p e;have hez:=he.2.2;have hE:ClQ p M (preE p e):=⟨q1,q2 he.2.1,by omega⟩
    generalize preE p e=E at *
    have hEz:=E.sz_eq;have hE5:¬ E.op=5:=by omega
    have hkq:∀ k∈E.kids,ClQ p M k:=fun k hk=>hE.kid hE5 hk
    rcases hsp with ⟨i,hi,hni,hiv⟩ | ⟨hni,hall,hop4,hEf,hEnn,f,a,r,hk,hcase⟩
    ·rw [hni,if_pos (by omega),ZpW,ZpP hi] at hx ⊢;have hkm:=Zpk hi;have hks:=ZX hkm;have h4:=ih E.kids[i] (by omega) (hkq _ hkm) hiv hx;have hset:=Zi4 (x:=(stepF p E.kids[i]).1) hi
     have hx':∀ k∈E.kids.set i (stepF p E.kids[i]).1,k.sdF p []=0∧k.nmOk:=fun k hk=>by
      rcases List.mem_or_eq_of_mem_set hk with hk | rfl
      ·exact ⟨(hkq k hk).1,(hkq k hk).2.1⟩
      ·exact ⟨h4.1,h4.2.1⟩
     refine ⟨Xn.2 ⟨ZhM (ks:=E.kids) (b:=[]) (by rw [E.eta]; exact (Xn.1 hE.1).1) (by simp) (fun _ h=>h),fun k hk=>?_⟩,Ex.nmOk_iff.2 ⟨(Ex.nmOk_iff.1 hE.2.1).1,fun k hk=>(hx' k hk).2⟩,?_⟩
     ·change Ex.sdF p k (if E.op=5 then []++[E.name] else [])=0
      rw [if_neg hE5];exact (hx' k hk).1
     ·rw [Ex.sz_eq]
      change 1+exsSz (E.kids.set i _)≤_
      have h5:=h4.2.2;omega
    ·rw [hni,if_neg (by omega)] at hx ⊢;rw [hk,exsSz,exsSz] at hEz;unfold redF at hx ⊢;rw [hk] at hx ⊢;dsimp only at hx ⊢
     have hrq:∀ x∈r,x.sdF p []=0∧x.nmOk:=fun x hx=>by
      have:=hkq x (by rw [hk]; simp [hx]); exact ⟨this.1,this.2.1⟩
     have hfq:=hkq f (by rw [hk]; simp);have haq:=hkq a (by rw [hk]; simp);rcases hcase with ⟨hf5,bd,hbd⟩ | hf3 | ⟨hf2,hfp,hfl⟩
     ·rw [if_pos hf5,hbd];have h6:=(Xn.1 hfq.1).2 bd (by rw [hbd]; simp);rw [if_pos hf5] at h6;have h7:=(Ex.nmOk_iff.1 hfq.2.1).2 bd (by rw [hbd]; simp);have h8:=f.sz_eq;rw [hbd,exsSz] at h8;have h9:=hfq.2.2;have h10:=sz_put (M:=M) bd [(f.name,a)] (by simpa using haq.2.2);have h11:=Zqg (1+M) (show bd.sz≤M by omega);have hX:ClQ p (M * (1+M)) (bd.put [(f.name,a)]):=⟨ZmY bd _ _ [] h6 (fun n hn=>.inr (by simpa using hn)) (by simpa using haq.1),ZmZ bd _ h7 (by simpa using haq.2.1),by omega⟩
      exact hw (Zi6 hX hrq (Zpl _)) (by omega)
     ·rw [if_neg (by omega),if_pos hf3] at hx;cases hx
     ·rw [if_neg (by omega),if_neg (by omega)] at hx ⊢;cases hg:p.funs[(atFu p.funs f.name).toNat]? with
      | none=>exact hw hE (by omega)
      | some g =>
        rw [hg] at hx;have hs:=Zi5 (hb g (Zqh hg)) (vs:=(a::r).take g.arity.toNat) (M:=M) (fun v hv=>hkq v (by rw [hk]; exact Zqe _ (List.mem_of_mem_take hv))) hx;have hd:=ZdQ (a::r) g.arity.toNat;rw [exsSz] at hd
        exact hw (Zi6 hs (fun x hx=>by
         have:=hkq x (by rw [hk]; exact Zqe _ (List.mem_of_mem_drop hx))
         exact ⟨this.1,this.2.1⟩) hd) (by omega)
end Go.PV.Ytglpmlbbaedbiaa
end
section
open Go.PV.AH renaming set_none→Zpb,set_ne→Zpg,set_same→Zpc,ne_of→Zo6
open Go.PV.GhL renaming cons→Zpn
open Go.PV.GhV renaming refl→Zpt,forget→ZpB
open Go.PV.PureF renaming use→Zpe
open Go.PV.SubH renaming refl→Zpa,of_set→Zpi
open List renaming drop_zero→ZpV,drop→Zo9
open Nat renaming reduceEqDiff→Zo5,reduceLT→Zo7,reduceAdd→Zpd
open Option renaming bind_some→ZpH,map_some→Zps
set_option maxRecDepth 20000
set_option maxHeartbeats 8000000
namespace Go.PV.Ytglpmlbbaedbiaa
open Go Go.Proofs
structure InOk (p:Pr):Prop where
 ok:PrOk p
 sz:∀ f∈p.funs,fuSz f≤1099511627776
 nm:∀ f∈p.funs,∀ c∈f.cls,∀ s∈ZV c.pats,s.size≤maxLen
theorem InOk.fu {p:Pr} (h:InOk p) (hc:Jh p=0):FuOk p:=⟨ZhK hc,h.sz,h.nm⟩
theorem Zmi {p:Pr} {e:Ex} (h:Wm p e=0):Jh p=0∧e.sz≤5000∧e.dp≤200∧e.sdF p []=0:=by
 unfold Wm at h;split at h
 ·rename_i h1;split at h
  ·cases h
  ·split at h
   ·cases h
   ·exact ⟨h1,by omega,by omega,h⟩
 ·rename_i h1; exact absurd h h1
noncomputable def stepR (p:Pr) (e:Ex):Ex × Bool × Int :=
 if Wm p e=0 then (if e.isV p=true then (e,false,0) else if (stepF p e).2=0 then ((stepF p e).1,true,0) else (zEx,false,(stepF p e).2)) else (zEx,false,Wm p e)
abbrev srV (r:Ex × Bool × Int):VV:=.tuple [exV r.1,boolV r.2.1,iV r.2.2]
def srQ (H0:AH) (R:Ex × Bool × Int):APost:=YP Try.prog [.cell 4 34,.tmp 5,.tmp 6] fun e H'=>∃ y,e=VE.ret y∧GhV H' y H0 (srV R)
theorem Zkv {H0 H:AH} {t:Nat→VV} {r sp:Nat} {b1:Bool} {c:Int} {a b d:VV} {e':TypeId} {x:Ex} (h4:t 4=ptrV r 0) (h5:t 5=boolV b1) (h6:t 6=iV c) (k4:H r=some (.cells e' [a,b,d] sp)) (hg:GhV H (.agg [a,b,d]) H0 (exV x)):srQ H0 (x,b1,c) .ret ⟨t,[]⟩ H:=by
 refine YD rfl (x:=.tuple [.agg [a,b,d],boolV b1,iV c]) (by simp only [resV,Xi,Xh,Ye,h4,h5,h6,k4,ptrV,ZpV,XY,ZpH,Zps,tupV]) ⟨_,rfl,?_⟩;have h1:GhL H [.agg [a,b,d],boolV b1,iV c] H0 [exV x,boolV b1,iV c]:=Zpn hg (Zpn (Zpt _ _) (Zpn (Zpt _ _) (GhL.nil _)));exact GhV.tuple h1
theorem Step_ok {p:Pr} (hp:InOk p) {e:Ex} (hs:e.sz≤1099511627776) (hn:e.nmOk):PureF Try.prog 27 [prV p,exV e] (srV (stepR p e)):=by
 refine Wl.pure fun H0=>?_
 refine ZK fd27 (by simp) ?_;show vc _ _ (srQ H0 (stepR p e)) _ _;delta c27 Zj Zi Zq Zf Zb Zo Zr Za Zh Zg Zc Zm
 (repeat' (first | (simp only [↓ZF,ZG,ptrV,Zo5,Zo7,ZJ,Zo9,undef,Zbk,Ye,Yc,en_43, *]) | (refine ZH fun zr zh=>?_; have zg:=zh; (try simp only [Zpb] at zg))))
 rename_i r2 n2 n2' r3 n3 n3';have g3:=n3'.2;have g4:=zg.2.2;have d34:=zg.1;refine Zlu hp.ok hs hn (fun ta tb H' hs' ht=>?_);have k3:H' r3=some (.cells 34 [iV e.op,sV e.name,encS exE e.kids] 0):=hs' _ _ (by rw [Zpg _ _ d34.2]; exact Zpc _ _ _);have k4:=hs' _ _ (Zpc _ _ _);have hsb:SubH H0 H':=SubH.trans (by repeat (first | exact Zpa _ | refine Zpi ?_ (by assumption))) hs';generalize zr=r4 at *
 clear hs' zh zg n3 n3' n2 n2';by_cases hr:Wm p e=0
 ·obtain ⟨hc,hz,_,hsd⟩:=Zmi hr;have hfu:=hp.fu hc
  obtain ⟨m1,m2,hma,hmb⟩:∃ m1 m2,ta=some m1∧tb=some m2:=by
   obtain ⟨m1,m2,h,_⟩:=ht hr;simp [tabE] at h;exact ⟨m1,m2,h.1,h.2⟩
  subst hma hmb;have hta:=ht hr;have hisv:=fun H2 (h:SubH H' H2)=>isV_ok hfu.nd (m1:=m1) (m2:=m2) (e.sz+1) e [] H2 (by omega) hs hn hsd (hta.mono h)
  have hcp:=ZfR e hs;cases hv:e.isV p with
  | true =>
    have hR:stepR p e=(e,false,0):=by unfold stepR; rw [if_pos hr,if_pos hv]
    rw [hR];rw [hr];rw [hv] at hisv;clear hR hr hv ht
    (repeat' (first | (simp only [↓ZF,ZG,ZP,ptrV,boolV,Zo5,Zo7,Zpd,setAt,Zo9,Ye,WJ,WD,YE,Xz,ZgJ,en_49, *]) | (refine ZH fun zr zh=>?_; have zg:=zh; (try simp only [Zpb] at zg); (try have zn_k3:=Zo6 k3 zh); (try have zn_k3:=Zo6 k3 zg.2); (try have zn_k3:=Zo6 k3 zg.2.2); (try have zn_k4:=Zo6 k4 zh); (try have zn_k4:=Zo6 k4 zg.2); (try have zn_k4:=Zo6 k4 zg.2.2)) | (exact Zpa _) | (refine Zpi ?_ ?_) | (refine Zpe (hcp) ?_) | (refine (hisv _ ?_).use ?_)))
    have y7:=hsb.none zg;refine Zkv (e':=34) (sp:=0) (by simp only [ZI,Zo5,if_true,if_false, *]<;>rfl) (by simp only [ZI,Zo5,if_true,if_false, *]<;>rfl) (by simp only [ZI,Zo5,if_true,if_false, *]<;>rfl) (Zpc _ _ _) ?_;exact ZpB (by repeat (first | exact hsb | refine Zpi ?_ (by assumption))) _
  | false =>
    have hst:=fun H2 (h:SubH H' H2)=>step_ok hfu (m1:=m1) (m2:=m2) (e.sz+1) e H2 (by omega) hs hn hsd hv (hta.mono h)
    by_cases hx:(stepF p e).2=0
    ·have hR:stepR p e=((stepF p e).1,true,0):=by unfold stepR; rw [if_pos hr,if_neg (by simp [hv]),if_pos hx]
     have hcl:=Zeo (ZhN hc hp.ok) (M:=5000) (e.sz+1) e (by omega) ⟨hsd,hn,hz⟩ hv hx;have hcp2:=ZfR (stepF p e).1 (by have:=hcl.2.2; omega);rw [hR];generalize stepF p e=S at *
     obtain ⟨S1,S2⟩:=S;dsimp only at hx;subst hx;rw [hr];rw [hv] at hisv;clear hR hr hv ht hcl
     (repeat' (first | (simp only [↓ZF,ZG,ZP,ptrV,boolV,Zo5,Zo7,Zpd,setAt,Zo9,Ye,WJ,WD,YE,Yc,Xz,ZgJ,en_49,en_50, *]) | (refine ZH fun zr zh=>?_; have zg:=zh; (try simp only [Zpb] at zg); (try have zn_k3:=Zo6 k3 zh); (try have zn_k3:=Zo6 k3 zg.2); (try have zn_k3:=Zo6 k3 zg.2.2); (try have zn_k4:=Zo6 k4 zh); (try have zn_k4:=Zo6 k4 zg.2); (try have zn_k4:=Zo6 k4 zg.2.2)) | (exact Zpa _) | (refine Zpi ?_ ?_) | (refine Zpe (hcp2) ?_) | (refine (hisv _ ?_).use ?_) | (refine (hst _ ?_).use ?_)))
     rename_i r7 m7 m7' w1 w2;have y7:=hsb.none m7';have y9:=hsb.none zg.2;refine Zkv (e':=34) (sp:=0) (by simp only [ZI,Zo5,if_true,if_false, *]<;>rfl) (by simp only [ZI,Zo5,if_true,if_false, *]<;>rfl) (by simp only [ZI,Zo5,if_true,if_false, *]<;>rfl) (Zpc _ _ _) ?_;exact ZpB (by repeat (first | exact hsb | refine Zpi ?_ (by assumption))) _
    ·have hR:stepR p e=(zEx,false,(stepF p e).2):=by unfold stepR; rw [if_pos hr,if_neg (by simp [hv]),if_neg hx]
     rw [hR];generalize stepF p e=S at *
     obtain ⟨S1,S2⟩:=S;dsimp only at hx;rw [hr];rw [hv] at hisv;clear hR hr hv ht
     (repeat' (first | (simp only [↓ZF,ZG,ZP,ptrV,boolV,Zo5,Zo7,Zpd,ZQ,fillV,setAt,Zo9,ZQ,Ye,WJ,WD,YE,JR,Yc,Xz,ZgJ,en_50, *]) | (refine ZH fun zr zh=>?_; have zg:=zh; (try simp only [Zpb] at zg); (try have zn_k3:=Zo6 k3 zh); (try have zn_k3:=Zo6 k3 zg.2); (try have zn_k3:=Zo6 k3 zg.2.2); (try have zn_k4:=Zo6 k4 zh); (try have zn_k4:=Zo6 k4 zg.2); (try have zn_k4:=Zo6 k4 zg.2.2)) | (exact Zpa _) | (refine Zpi ?_ ?_) | (refine (hisv _ ?_).use ?_) | (refine (hst _ ?_).use ?_)))
     rename_i r7 m7 m7' w1 w2;have y7:=hsb.none m7';have y9:=hsb.none zg.2;refine Zkv (e':=34) (sp:=0) (by simp only [ZI,Zo5,if_true,if_false, *]<;>rfl) (by simp only [ZI,Zo5,if_true,if_false, *]<;>rfl) (by simp only [ZI,Zo5,if_true,if_false, *]<;>rfl) (Zpc _ _ _) ?_;exact Zkr (by repeat (first | exact hsb | refine Zpi ?_ (by assumption)))
 ·have hR:stepR p e=(zEx,false,Wm p e):=by unfold stepR; rw [if_neg hr]
  rw [hR];clear ht hR
  (repeat' (first | (simp only [↓ZF,ZG,ZP,ptrV,Zo5,Zo7,Zpd,ZQ,fillV,setAt,ZQ,WD,YE,JR,Xz, *]) | (refine ZH fun zr zh=>?_; have zg:=zh; (try simp only [Zpb] at zg); (try have zn_k3:=Zo6 k3 zh); (try have zn_k3:=Zo6 k3 zg.2); (try have zn_k3:=Zo6 k3 zg.2.2); (try have zn_k4:=Zo6 k4 zh); (try have zn_k4:=Zo6 k4 zg.2); (try have zn_k4:=Zo6 k4 zg.2.2))))
  have y7:=hsb.none zg;refine Zkv (e':=34) (sp:=0) (by simp only [ZI,Zo5,if_true,if_false, *]<;>rfl) (by simp only [ZI,Zo5,if_true,if_false, *]<;>rfl) (by simp only [ZI,Zo5,if_true,if_false, *]<;>rfl) (Zpc _ _ _) ?_;exact Zkr (by repeat (first | exact hsb | refine Zpi ?_ (by assumption)))
theorem TabAt.put {H:AH} {v:VV} {p:Pr} (h:TabAt H v p) {r:Nat} {e:TypeId} {xs:List VV} {sp:Nat} (hr:H r=some (.cells e xs sp)) (b:Blk):TabAt (H.set r b) v p:=by
 obtain ⟨m1,m2,h0,h1,h2⟩:=h;exact ⟨m1,m2,h0,by rw [Zpg _ _ (Jr hr h1).2]; exact h1,by rw [Zpg _ _ (Jr hr h2).2]; exact h2⟩
end Go.PV.Ytglpmlbbaedbiaa
end
