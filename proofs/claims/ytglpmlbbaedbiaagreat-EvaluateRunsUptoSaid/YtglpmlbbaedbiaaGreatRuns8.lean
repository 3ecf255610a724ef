/- Part 8 of 11 of what the proof of Runs needs. -/
import Derived.Test.YtglpmlbbaedbiaaGreatRuns7
import Derived.Test.YtglpmlbbaedbiaaGreatRuns5
import Derived.Test.YtglpmlbbaedbiaaGreatRuns6
set_option linter.unusedVariables false
set_option linter.unusedSimpArgs false
set_option linter.defProp false
section
open Go.PV.AH renaming set_none→ZpO,set_ne→ZpV,set_same→ZpP
open Go.PV.GhL renaming cons→ZpZ
open Go.PV.GhV renaming forget→Zqq,refl→Zp8
open Go.PV.PureF renaming use→ZpQ
open Go.PV.SubH renaming refl→ZpN,of_set→ZpS
open Int renaming reduceLT→Zqe,reduceNeg→ZqG
open List renaming getElem_mem→ZpW,getElem?_eq_getElem→ZqC,drop→ZpL
open Nat renaming reduceEqDiff→ZpI,reduceLT→ZpJ,reduceAdd→ZpT,zero_add→Zp2,lt_succ_self→ZqK
set_option maxRecDepth 20000
set_option maxHeartbeats 4000000
namespace Go.PV.YtglpmlbbaedbiaaGreat
open Go Go.Proofs
theorem ZeL {p:Pr} {us:List Val}:∀ (cs:List Cl) (k:Nat),(∀ c∈cs,us.length=c.pats.length)→(WM cs us=none→JC (ZL p us) cs k=(-1,[]))∧(∀ b e,WM cs us=some (b,e)→∃ i,∃ h:i<cs.length,cs[i].body=b∧JC (ZL p us) cs k=(((k+i:Nat):Int),envB p e))
 | [],k,_=>⟨fun _=>rfl,fun b e h=>by rw [WM] at h; cases h⟩
 | c::cs,k,hl=>by
   obtain ⟨h1,h2⟩:=Ze9 p c.pats us ([],[]) (hl c (by simp));have hnil:envB p (([],[]):Env)=[]:=rfl;rw [hnil] at h1 h2;rw [WM,JC,h1];obtain ⟨i1,i2⟩:=ZeL (p:=p) (us:=us) cs (k+1) (fun c hc=>hl c (by simp [hc]));by_cases h:(Wd c.pats us ([],[])).2=true
   ·rw [if_pos h,if_pos h];refine ⟨fun h=>(by cases h),fun b e hb=>?_⟩;cases hb;exact ⟨0,by simp,rfl,by rw [h2 h]; rfl⟩
   ·rw [if_neg h,if_neg h];refine ⟨i1,fun b e hb=>?_⟩;obtain ⟨i,hi,hb1,hb2⟩:=i2 b e hb;exact ⟨i+1,by simpa using hi,by simpa using hb1,by rw [hb2]; congr 2; omega⟩
abbrev ZhX (i j:Nat) (p:Pr) (fu d:Int) (H:AH) (X:EvR):APost:=YI Tryz.prog [.cell i 106,.cell j 28] (ghK (RvK p fu d H X))
theorem ZeM {i j:Nat} {p:Pr} {c fu d:Int} {v:Val} {H0 H:AH} {t:Nat→VV} {ri rj si sj:Nat} {e1 e2:TypeId} (hi:t i=ptrV ri 0) (hj:t j=ptrV rj 0) (ki:H ri=some (.cells e1 (stE p c fu d 0) si)) (kj:H rj=some (.cells e2 [iV (v.ex p).op,sV (v.ex p).name,exsV (v.ex p).kids] sj)) (hs:SubH H0 H):ZhX i j p fu d H0 (.ok (c,v)) .ret ⟨t,[]⟩ H :=
 ZfL hi hj ki kj ⟨_,H0,Zqq hs _,rfl,.inl ⟨c,v,rfl,rfl⟩⟩
theorem Za3 {i j:Nat} {p:Pr} {k c fu d d':Int} {x:Ex} {H0 H:AH} {t:Nat→VV} {ri rj si sj:Nat} {e1 e2:TypeId} (hk:¬ k=0) (hi:t i=ptrV ri 0) (hj:t j=ptrV rj 0) (ki:H ri=some (.cells e1 (stE p c fu d' k) si)) (kj:H rj=some (.cells e2 [iV x.op,sV x.name,exsV x.kids] sj)) (hs:SubH H0 H):ZhX i j p fu d H0 (.error k) .ret ⟨t,[]⟩ H :=
 ZfL hi hj ki kj ⟨_,H0,Zqq hs _,rfl,.inr ⟨k,c,d',x,hk,rfl,rfl⟩⟩
theorem rvg_errZ {i j:Nat} {p:Pr} {k c fu d d':Int} {H0 H:AH} {t:Nat→VV} {ri rj si sj:Nat} {e1 e2:TypeId} (hk:¬ k=0) (hi:t i=ptrV ri 0) (hj:t j=ptrV rj 0) (ki:H ri=some (.cells e1 (stE p c fu d' k) si)) (kj:H rj=some (.cells e2 [iV 0,sV ⟨#[]⟩,.lit (.slice none 0 0)] sj)) (hs:SubH H0 H):ZhX i j p fu d H0 (.error k) .ret ⟨t,[]⟩ H :=
 ZfL hi hj ki kj ⟨.tuple [stV p c fu d' k,exV zEx],H0,GhV.tuple (ZpZ (Zp8 _ _) (ZpZ (GhV.agg (ZpZ (Zp8 _ _) (ZpZ (Zp8 _ _) (ZpZ ((GhV.nil _).trans (Zqq hs _)) (GhL.nil _))))) (GhL.nil _))),rfl,.inr ⟨k,c,d',zEx,hk,rfl,rfl⟩⟩
theorem Zix {p:Pr} (hp:PgR p) {fu g c d:Int} {ev:EvF} (hev:RvHyp p fu g ev) {j:Nat} {us:List Val} (hj:j<p.funs.length) (hul:us.length≤1099511627776) (hu:YP p us) (hl:(us.length:Int)=p.funs[j].arity) (hd:0≤d) (hc:0≤c∧c≤fu) (hfu:fu≤100000) (hms:(fu-c) * 5001≤g) (H:AH) :
 ZT Tryz.prog 57 [stV p c fu d 0,fuV p.funs[j],exsV (ZL p us)] H (RvK p fu d H (callG p fu ev c d j us)):=by
 refine JH ?_;refine ZE fd57 (by simp) ?_;delta c57 Zj Zi Zb Za Zo Zr Zg Zd Zm Zq Zh Zc Zk;have hel:=Xu p us;have hco:=ZgP hp (us:=us) (ex:=false) (m:=(ZL p us).length) (fu:=fu) (c:=c) (d:=d) hel hul hu ⟨hc.1,by omega⟩;obtain ⟨hclN,hcls⟩:=hp.cls _ (ZpW hj);have hcl:=Zlj p.funs[j] (ZL p us) hclN (by omega) fun i h=>⟨(hcls _ (ZpW h)).2.1,by have:=(hcls _ (ZpW h)).1; omega⟩
 obtain ⟨hf1,hf2⟩:=ZeL (p:=p) (us:=us) p.funs[j].cls 0 (fun c hc'=>by have:=(hcls c hc').1; omega);have hbg:=fun c1 h b e hb=>ZjF hp (fu:=fu) (c:=c) (d:=d) (j:=j) hu (ZqC hj) hl hc (c1:=c1) h (b:=b) (e:=e) hb
 have hX:callG p fu ev c d j us=match cntV fu c d us with
  | .error k=>.error k
  | .ok c1=>match WM p.funs[j].cls us with
    | none=>.error 420
    | some (b,e)=>ev c1 (d+1) b e.1 e.2:=by
  unfold callG;rw [ZqC hj];cases cntV fu c d us<;>rfl
 rw [hX];have hbd:∀ (i:Nat) (h:i<p.funs[j].cls.length),p.funs[j].cls[i].body.sz≤1000:=fun i h=>(hcls _ (ZpW h)).2.2.2.1
 have hen:∀ b e,WM p.funs[j].cls us=some (b,e)→e.1.length≤1099511627776:=fun b e h=>by
  obtain ⟨cl,hm,_,_,h2⟩:=Zgy hu (fun c hc'=>by have:=(hcls c hc').1; omega) h;rw [h2,List.length_reverse]
  have:=Ju cl.pats
  have:=(hcls cl hm).2.1
  omega
 clear hX hcls hul;generalize ZL p us=es at *
 (repeat' (first | (simp only [↓Zz,ZA,ptrV,ZpI,ZpJ,ZD,ZpL,undef,Yq,Xl,Yc,en_93, *]) | (refine ZB fun zr zh=>?_; have zg:=zh; (try simp only [ZpO] at zg))))
 rename_i r3 h3 g3 r4 h4 g4 r6 h6 g6;have f3:H r3=none:=by simpa using g3
 have f4:H r4=none:=g4.2;have f6:H r6=none:=by simp only [g6]
 have f7:H zr=none:=by simp only [zg]
 have d67:¬ r6=zr∧¬ zr=r6:=by simp only [zg]; simp
 revert zr
 intro r7 h7 g7 f7 d67;refine (hco _).mono fun e' H' hq=>?_
 obtain ⟨rfl,x,rfl,⟨c1,hcn,rfl⟩ | ⟨k,c1,hk,hcn,rfl⟩⟩:=hq
 ·rw [hcn];dsimp only;clear hco;cases hfc:WM p.funs[j].cls us with
  | none =>
    have hq:=hf1 hfc;rw [hq] at hcl;have hfl:=fun H=>ZhW (p:=p) (fu:=fu) (c:=c1) (d:=d) (k:=420) H
    clear hf1 hf2 hbg hq hcn hfc;dsimp only
    (repeat' (first | (simp only [↓Zz,ZA,ZI,ZpI,ZpJ,ZpT,setAt,ZpL,Zqe,ZqG,Yj,Yq,YO,ZaB,Yn,en_94,en_95, *]) | (refine ZpQ (hcl) ?_)))
    refine (hfl _).mono fun e' H' hq=>?_
    obtain ⟨rfl,rfl⟩:=hq;clear hfl
    (repeat' (first | (simp only [↓Zz,ZA,ZI,ZpI,ZpJ,ZpT,setAt,ZqG,Yn,YE, *])))
    exact Za3 (ri:=r6) (rj:=r7) (k:=420) (x:=zEx) (by decide) (by simp only [ZC,ZpI,if_true,if_false, *]<;>rfl) (by simp only [ZC,ZpI,if_true,if_false, *]<;>rfl) (by rw [ZpV _ _ d67.1,ZpP]) (ZpP _ _ _) (by repeat (first | exact ZpN _ | assumption | refine ZpS ?_ (by assumption)))
  | some be =>
    obtain ⟨b,e⟩:=be;obtain ⟨i,hi,hbi,hq⟩:=hf2 b e hfc;obtain ⟨hg,_⟩:=hbg c1 hcn b e hfc;obtain ⟨k1,k2,k3⟩:=Zb8 hcn;subst k1;rw [Zp2] at hq;rw [hq] at hcl;have hsz:=hbd i hi;subst hbi
    have hpu:=Zom true _ p.funs[j].cls[i].body (envB p e) (ZqK _) (Ex.wd_of (by omega)) (by
     unfold envB bdL;rw [List.length_reverse,List.length_zip]
     have:=hen _ _ hfc
     omega)
    have hdr:=Zc4 hi;have hbo:=fun H=>Zl1 hev (d:=d) hg (by omega) hd k3 rfl H
    have hi0:¬ (i:Int)<0:=by omega
    have hil:(i:Int)<(p.funs[j].cls.length:Int):=by omega
    clear hf1 hf2 hbg hq hfc hev hms hg hcn hen;dsimp only
    (repeat' (first | (simp only [↓Zz,ZA,ZI,ZpI,ZpJ,ZpT,reduceCtorEq,setAt,ZpL,Yj,Jf,ZdS,Yq,YO,ZaB,Zbj,Yd,Yn,ZaC,en_94,en_97,en_96, *]) | (refine ZJ mixed (fun _ _ _ _ e h=>⟨e.trans h.1,h.2⟩) _ (ZpN _) ?_) | (exact ZpN _) | (refine ZpQ (hcl) ?_) | (refine ZpQ (hpu) ?_) | (with_reducible refine And.intro ?_ ?_)))
    refine Zdd (hbo _) (fun c' v hR=>?_) (fun k c' d' x hk hR=>?_)
    ·rw [hR];clear hbo hR hcl hpu
     (repeat' (first | (simp only [↓Zz,ZA,ZI,ZpI,ZpJ,ZpT,setAt,Yn,YE, *]) | (exact ZpN _) | (with_reducible refine And.intro ?_ ?_)))
     exact ZeM (ri:=r6) (rj:=r7) (by simp only [ZC,ZpI,if_true,if_false, *]<;>rfl) (by simp only [ZC,ZpI,if_true,if_false, *]<;>rfl) (by rw [ZpV _ _ d67.1,ZpP]) (ZpP _ _ _) (by repeat (first | exact ZpN _ | assumption | refine ZpS ?_ (by assumption)))
    ·rw [hR];clear hbo hR hcl hpu
     (repeat' (first | (simp only [↓Zz,ZA,ZI,ZpI,ZpJ,ZpT,setAt,Yn,YE, *]) | (exact ZpN _) | (with_reducible refine And.intro ?_ ?_)))
     exact Za3 (ri:=r6) (rj:=r7) (x:=x) hk (by simp only [ZC,ZpI,if_true,if_false, *]<;>rfl) (by simp only [ZC,ZpI,if_true,if_false, *]<;>rfl) (by rw [ZpV _ _ d67.1,ZpP]) (ZpP _ _ _) (by repeat (first | exact ZpN _ | assumption | refine ZpS ?_ (by assumption)))
 ·rw [hcn];clear hco hcl hf1 hf2 hbg hcn
  (repeat' (first | (simp only [↓Zz,ZA,ZpI,ZpJ,ZpT,ZM,fillV,setAt,ZpL,ZM,Yj,Yq,YO,Yn,YE,Zcr, *])))
  exact rvg_errZ (ri:=r6) (rj:=r7) hk (by simp only [ZC,ZpI,if_true,if_false, *]<;>rfl) (by simp only [ZC,ZpI,if_true,if_false, *]<;>rfl) (by rw [ZpV _ _ d67.1,ZpP]) (ZpP _ _ _) (by repeat (first | exact ZpN _ | assumption | refine ZpS ?_ (by assumption)))
end Go.PV.YtglpmlbbaedbiaaGreat
end
section
open Go.PV.AH renaming del_ne→Zqf,set_none→ZpO,set_ne→ZpV,set_same→ZpP,get→ZpU,ne_of→ZpK,set_set→Zqj
open Go.PV.GhL renaming cons→ZpZ
open Go.PV.GhV renaming refl→Zp8,forget→Zqq
open Go.PV.Hold renaming mk→ZpM
open Go.PV.SubH renaming set→Zqk,refl→ZpN,of_set→ZpS
open Int renaming natCast_nonneg→ZqU,toNat_natCast→ZqN
open List renaming drop_zero→ZqL,getElem_map→ZqR,getElem_mem→ZpW,map_cons→Zp3,map_nil→Zqa,drop→ZpL,length_append→Zqt,drop_eq_nil_of_le→Zp9
open Nat renaming reduceEqDiff→ZpI,reduceLT→ZpJ,reduceAdd→ZpT,reduceMul→Zqu,reduceLeDiff→Zp1,succ_ne_self→Zp7,zero_add→Zp2
open Option renaming bind_some→Zqg,map_some→Zp6
set_option maxRecDepth 20000
set_option maxHeartbeats 4000000
namespace Go.PV.YtglpmlbbaedbiaaGreat
open Go Go.Proofs
theorem OutE.put {H0 H:AH} {e:TypeId} {k n r:Nat} {v:VV} {cs:List VV} {b0:Blk} (h:OutE H0 H e k v n cs) (hr:H0 r=some b0) (b:Blk):OutE (H0.set r b) (H.set r b) e k v n cs:=by
 rcases h with ⟨h1,h2,h3,h4⟩ | ⟨Hb,h1,h2⟩
 ·exact .inl ⟨h1,h2,h3,Zqk h4 _ _⟩
 ·exact .inr ⟨Hb.set r b,Zqk h1 _ _,h2.put (h1 _ _ hr) b⟩
def hi1 (A B:AH):Nat→AH:=fun k=>if k=0 then A else B
theorem hi1_0 (A B:AH):hi1 A B 0=A:=rfl
theorem hi1_1 (A B:AH):hi1 A B 1=B:=rfl
theorem hi1_2 (A B:AH):hi1 A B 2=B:=rfl
theorem hi1_3 (A B:AH):hi1 A B 3=B:=rfl
theorem hi1_4 (A B:AH):hi1 A B 4=B:=rfl
theorem hi1_5 (A B:AH):hi1 A B 5=B:=rfl
theorem hi1_6 (A B:AH):hi1 A B 6=B:=rfl
theorem hi1_7 (A B:AH):hi1 A B 7=B:=rfl
theorem hi1_8 (A B:AH):hi1 A B 8=B:=rfl
theorem del_sub (A:AH) (r:Nat):SubH (A.del r) A:=fun i b hb=>by
 by_cases e:i=r
 ·subst e; rw [AH.del_same] at hb; cases hb
 ·rw [Zqf _ e] at hb; exact hb
theorem Zon (A:AH) (r:Nat):∀ k,SubH (hi1 A (A.del r) k) A:=fun k=>by
 unfold hi1;split
 ·exact ZpN _
 ·exact del_sub A r
theorem Zl2 {A H:AH} {r:Nat} {k:Nat} (hk:¬ k=0) (b:Blk) (h:SubH (hi1 A (A.del r) k) H):SubH (hi1 A (A.del r) k) (H.set r b):=by
 unfold hi1 at *
 rw [if_neg hk] at h ⊢;exact h.of_set (AH.del_same _ _)
def RlK (p:Pr) (fu d:Int) (H:AH) (R:EvL) (e:VE) (H':AH):Prop :=
 H'=H∧((∃ c l,R=.ok (c,l)∧e=.ret (.tuple [stV p c fu d 0,exsV (ZL p l)]))∨(∃ k c d' xs,¬ k=0∧R=.error k∧e=.ret (.tuple [stV p c fu d' k,exsV xs])))
theorem rl_use {p:Pr} {fu d:Int} {H:AH} {R:EvL} {f:FuncId} {xs:List VV} {K:VE→AH→Prop} (h:ZT Tryz.prog f xs H (RlK p fu d H R)) (h1:∀ c l,R=.ok (c,l)→K (.ret (.tuple [stV p c fu d 0,exsV (ZL p l)])) H) (h2:∀ (k c d':Int) (x:List Ex),¬ k=0→R=.error k→K (.ret (.tuple [stV p c fu d' k,exsV x])) H):ZT Tryz.prog f xs H K:=h.mono fun e H' hq=>by
 obtain ⟨rfl,⟨c,v,hR,rfl⟩ | ⟨k,c,d',x,hk,hR,rfl⟩⟩:=hq
 ·exact h1 c v hR
 ·exact h2 k c d' x hk hR
def RlI (p:Pr) (fu d:Int) (ev:EvF) (ns:List ByteArray) (vs:List Val) (ks:List Ex) (c0:Int) (X:EvL) (i:Nat) (c' dd k:Int) (l:List Ex):Prop :=
 (k=0∧dd=d∧c0≤c'∧c'≤fu∧∃ lv,l=ZL p lv∧lv.length=i∧X=appL lv (listG ev d ns vs c' (ks.drop i)))∨(¬ k=0∧X=.error k)
theorem Znv {p:Pr} {fu d c' dd k:Int} {X:EvL} {l:List Ex} {H0 H:AH} {t:Nat→VV} {r4 s4:Nat} {v:VV} {e1:TypeId} (h4:t 4=ptrV r4 0) (h5:t 5=v) (k4:H r4=some (.cells e1 (stE p c' fu dd k) s4)) (hg:GhV H v H0 (exsV l)) (hr:(∃ c l',X=.ok (c,l')∧c'=c∧dd=d∧k=0∧l=ZL p l')∨(¬ k=0∧X=.error k)):YI Tryz.prog [.cell 4 106,.tmp 5] (ghK (RlK p fu d H0 X)) .ret ⟨t,[]⟩ H:=by
 refine Yo rfl (x:=.tuple [stV p c' fu dd k,v]) (by simp only [resV,YY,YX,Yq,h4,h5,k4,ptrV,ZqL,Jb,Zqg,Zp6,tupV]) ?_;refine ⟨.tuple [stV p c' fu dd k,exsV l],H0,GhV.tuple (ZpZ (Zp8 _ _) (ZpZ hg (GhL.nil _))),rfl,?_⟩;rcases hr with ⟨c,l',h1,rfl,rfl,rfl,rfl⟩ | ⟨h1,h2⟩
 ·exact .inl ⟨_,l',h1,rfl⟩
 ·exact .inr ⟨k,c',dd,l,h1,h2,rfl⟩
theorem Zl3 {p:Pr} {fu g c d:Int} {ev:EvF} (hev:RvHyp p fu g ev) (hpr:ZeG p fu ev) {ks:List Ex} {ns:List ByteArray} {vs:List Val} (hk:∀ k∈ks,k.sdF p ns=0∧k.nmOk∧k.sz≤5000∧(fu-c) * 5001+k.sz<g) (hkl:ks.length≤5000) (hen:EnvOk p (ns,vs)) (hc:0≤c∧c≤fu) (hd:0≤d∧d≤2000) {ms:List Ex} (hms:ms=ks.map (·.putM true (bdL ns (ZL p vs)))) (H:AH) :
 ZT Tryz.prog 58 [stV p c fu d 0,exsV ms] H (RlK p fu d H (listG ev d ns vs c ks)):=by
 refine JH ?_;refine ZE fd58 (by simp) ?_;delta c58 Zj Zi Zq Zc Zf;have hml:ms.length=ks.length:=by rw [hms,List.length_map]
 have hmi:∀ i (h:i<ks.length) (h':i<ms.length),ks[i].putM true (bdL ns (ZL p vs))=ms[i]:=fun i h h'=>by simp only [hms,ZqR]
 clear hms;obtain ⟨X,hX⟩:∃ X,X=listG ev d ns vs c ks:=⟨_,rfl⟩
 rw [← hX];replace hX:=ZpM hX;replace hml:=ZpM hml
 (repeat' (first | (simp only [↓Zz,ZA,ptrV,ZpI,ZpJ,ZpT,Zqu,Zp1,ZD,fillV,undef,ZH,ZH,Yc,Xl,ZU, *]) | (refine ZB fun zr zh=>?_; have zg:=zh; (try simp only [ZpO] at zg))))
 rename_i r2 h2 g2;have f2:H r2=none:=by simpa using g2
 have f4:H zr=none:=by simp only [zg]
 have d24:¬ r2=zr∧¬ zr=r2:=by simp only [zg]; simp
 revert zr
 intro r4 h4 g4 f4 d24;obtain ⟨B,hB⟩:∃ B,B=((H.set r2 (.cells 106 (stE p c fu d 0) 0)).set r4 (.cells 106 [.lit (.slice none 0 0),.lit (.slice none 0 0),iV 0,iV 0,iV 0,iV 0] 0)):=⟨_,rfl⟩
 have b2:B r2=some (.cells 106 (stE p c fu d 0) 0):=by rw [hB,ZpV _ _ d24.1,ZpP]
 have b4:B r4=some (.cells 106 [.lit (.slice none 0 0),.lit (.slice none 0 0),iV 0,iV 0,iV 0,iV 0] 0):=by rw [hB,ZpP]
 have hsB:SubH H B:=by rw [hB]; exact (by repeat (first | exact ZpN _ | assumption | refine ZpS ?_ (by assumption)))
 rw [← hB];clear h2 g2 h4 g4 hB
 refine ZP (fun _ _ _ h=>h) (fun A H'=>A.d=[]∧A.t 1=exsV ms∧A.t 2=ptrV r2 0∧A.t 4=ptrV r4 0∧∃ (i:Nat) (c' dd k:Int) (l:List Ex),i≤ms.length∧A.t 7=iV i∧l.length=i∧OutE (B.set r2 (.cells 106 (stE p c' fu dd k) 0)) H' 28 3 (A.t 6) i (encC exE l)∧RlI p fu d ev ns vs ks c X i c' dd k l)
  (fun A _=>match A.t 7 with | .lit (.int _ i)=>((ms.length:Int)-i).toNat | _=>0) ?_ ?_
 ·refine ⟨rfl,(by simp only [ZC,ZpI,if_false, *]<;>rfl),(by simp only [ZC,ZpI,if_true,if_false, *]<;>rfl),(by simp only [ZC,ZpI,if_true,if_false, *]<;>rfl),0,c,d,0,[],by omega,(by simp only [ZC,ZpI,if_true,if_false, *]<;>rfl),rfl,?_,.inl ⟨rfl,rfl,by omega,hc.2,[],rfl,rfl,by rw [ZlZ]; exact hX.out⟩⟩;simp only [ZC,ZpI,if_true,if_false];rw [Zaw b2];exact OutE.start (ZpN _)
 ·clear hX;rintro ⟨t,d'⟩ H' ⟨rfl,h1,h2,h4,i,c',dd,k,l,hi,h7,hl,ho,hI⟩;dsimp only at h1 h2 h4 h7 ho;have q2:H' r2=some (.cells 106 [cosV p.cons,fusV p.funs,iV c',iV fu,iV dd,iV k] 0):=ho.sub _ _ (ZpP _ _ _);have q4:=ho.sub _ _ (show (B.set r2 _) r4=_ by rw [ZpV _ _ d24.2]; exact b4);delta b58_1 Za Ze Zn Zp Zr Zq Zi Zb Zk Zo Zh Zg Zl Zc Zm;rcases hI with ⟨rfl,rfl,hcc,hcf,lv,rfl,hlv,hX⟩ | ⟨hk0,hX⟩
  ·by_cases hlt:i<ms.length
   ·have hlt':i<ks.length:=by have:=hml.out; omega
    have hil:(i:Int)<(ms.length:Int):=by omega
    obtain ⟨z1,z2,z3,z4⟩:=hk _ (ZpW hlt');have hgd:Zb4 p fu c' ks[i] ns vs:=⟨z1,z2,z3,hen,by omega,hcf⟩
    have hcl:=fun H=>hev c' dd ks[i] ns vs H hgd (by omega) hd.1 hd.2
    rw [hmi i hlt' hlt] at hcl;rw [ZhT hlt'] at hX;have hdi:=XI hlt;have hpr':=hpr c' dd ks[i] ns vs;clear hev hpr hk z1 z2 z3 z4 hmi;replace hX:=ZpM hX;replace hl:=ZpM hl
    (repeat' (first | (refine Zcj mixed (fun _ _ _ _ e h=>⟨e.trans h.1,h.2⟩) (hi1 (H'.set zr (.cells 28 [.lit (.int .i64 0),.lit (.string ⟨#[]⟩),.lit (.slice none 0 0)] 0)) ((H'.set zr (.cells 28 [.lit (.int .i64 0),.lit (.string ⟨#[]⟩),.lit (.slice none 0 0)] 0)).del r2)) (Zon _ _) ?_) | (simp only [↓Wq,↓Wg,↓XM,↓XN,↓Xz,↓XZ,↓Wb,↓Xe,↓Yf,↓Zag,↓JE,↓Yi,↓Yu,↓Yr,↓Ys,↓Yt,↓YS,↓WZ,↓ZC,↓Xb,↓Jh,↓Zah,↓Zbn,↓YA,↓Wr,↓Wv,↓Yb,↓Xf,↓Jn,↓XP,↓XF,↓Zd0,↓Wm,↓XA,ptrV,intV,Zp3,Zqa,ite_true,ite_false,ZpI,ZpJ,ne_eq,not_false_eq_true,true_and,Zp7,decide_true,reduceCtorEq,ZqU,ZqN,ZpU,eq_self,Zp2,ZpL,and_self,Wi,XT,Jb,↓Ww,XW,ZbA,XG,WY,ZcQ,ZaF,Zb2,XH,ZbB,Xr,WO,Zc5,ZfK,Zc6,hi1_0,hi1_1,hi1_2,hi1_3,hi1_4,Yj,YO,Yq,Yd,Yc,ZU,en_31, *]) | (refine ZB fun zr zh=>?_; have zg:=zh; (try simp only [ZpO] at zg); (try have zn_q2:=ZpK q2 zh); (try have zn_q2:=ZpK q2 zg.2); (try have zn_q2:=ZpK q2 zg.2.2); (try have zn_q4:=ZpK q4 zh); (try have zn_q4:=ZpK q4 zg.2); (try have zn_q4:=ZpK q4 zg.2.2))))
    refine Zdd (hcl _) (fun c2 v hR=>?_) (fun k2 c2 d2 x hk2 hR=>?_)
    ·obtain ⟨g1,g2,g3⟩:=hpr' _ _ hgd hR
     have hX2:X=appL (lv++[v]) (listG ev dd ns vs c2 (ks.drop (i+1))):=by
      rw [hX.out,hR];dsimp only;cases listG ev dd ns vs c2 (ks.drop (i+1)) with
      | error k=>rfl
      | ok x=>simp [appL]
     replace hX2:=ZpM hX2;clear hcl hpr' hR hX
     (repeat' (first | (simp only [↓Zz,ZA,ZI,ptrV,ZpI,ZpJ,ZpT,Zqu,Zp1,fillV,setAt,ZpL,ZH,ZH,ZiZ,Zc5,ZfK,Zc6,Zcy,hi1_6,hi1_7,hi1_8,Yd,Yn,YE,Yc,ZU, *]) | (with_reducible refine And.intro ?_ ?_)))
     ·exact fun k _ h=>h
     ·exact fun k hk h=>Zl2 (by intro e; subst e; simp at hk) _ h
     have hoN:=OutE.put (ho.alloc zh (.cells 28 [iV (v.ex p).op,sV (v.ex p).name,encS exE (v.ex p).kids] 0)) (ZpP _ _ _) (.cells 106 (stE p c2 fu dd 0) 0);rw [Zqj] at hoN;have hzr2:¬ zr=r2:=(ZpK q2 zh).2;have hh:((H'.set zr (.cells 28 [iV 0,sV ⟨#[]⟩,.lit (.slice none 0 0)] 0)).set r2 (.cells 106 (stE p c2 fu dd 0) 0)).set zr (.cells 28 [iV (v.ex p).op,sV (v.ex p).name,encS exE (v.ex p).kids] 0)=(H'.set zr (.cells 28 [iV (v.ex p).op,sV (v.ex p).name,encS exE (v.ex p).kids] 0)).set r2 (.cells 106 (stE p c2 fu dd 0) 0):=by rw [AH.comm _ _ (fun e=>hzr2 e.symm),Zqj]; first | exact AH.comm _ _ hzr2 | exact AH.comm _ _ (fun e=>hzr2 e.symm)
     rw [hh];clear hh q2 q4 ho;refine hoN.append1 (xs:=[iV (v.ex p).op,sV (v.ex p).name,encS exE (v.ex p).kids]) ZU Yc rfl (by omega) rfl rfl (by omega) (by omega) (fun v2 H2 ho2=>?_);have c6:=ho2.cells.1;have c7:=ho2.cells.2;replace ho2:=ZpM ho2
     (repeat' (first | (simp only [↓Zz,ZA,ptrV,ZpI,ZpJ, *]) | (with_reducible refine And.intro ?_ ?_)))
     all_goals rw [ZK (n:=(i:Int)+1) (by omega) (by omega)]
     ·refine ⟨i+1,c2,dd,0,ZL p (lv++[v]),by omega,rfl,by rw [Xu]; simp [hlv],?_,.inl ⟨rfl,rfl,by omega,g3,lv++[v],rfl,by simp [hlv],hX2.out⟩⟩;have e2:encC exE (ZL p (lv++[v]))=encC exE (ZL p lv)++[iV (v.ex p).op,sV (v.ex p).name,encS exE (v.ex p).kids]:=by rw [Xg,List.map_append,Yl,← Xg]; show _++encC exE [v.ex p]=_; rw [YF,Jt]; rfl
      rw [e2];exact ho2.out
     ·omega
    ·have hX2:X=.error k2:=by rw [hX.out,hR]; rfl
     replace hX2:=ZpM hX2;clear hcl hpr' hR hX
     (repeat' (first | (simp only [↓Zz,ZA,ZI,ptrV,ZpI,ZpJ,ZpT,Zqu,Zp1,fillV,setAt,ZpL,ZH,ZH,ZiZ,Zc5,ZfK,Zc6,Zcy,hi1_6,hi1_7,hi1_8,Yd,Yn,YE,Yc,ZU, *]) | (with_reducible refine And.intro ?_ ?_)))
     ·exact fun k _ h=>h
     ·exact fun k hk h=>Zl2 (by intro e; subst e; simp at hk) _ h
     have hoN:=OutE.put (ho.alloc zh (.cells 28 [iV x.op,sV x.name,encS exE x.kids] 0)) (ZpP _ _ _) (.cells 106 (stE p c2 fu d2 k2) 0);rw [Zqj] at hoN;have hzr2:¬ zr=r2:=(ZpK q2 zh).2;have hh:((H'.set zr (.cells 28 [iV 0,sV ⟨#[]⟩,.lit (.slice none 0 0)] 0)).set r2 (.cells 106 (stE p c2 fu d2 k2) 0)).set zr (.cells 28 [iV x.op,sV x.name,encS exE x.kids] 0)=(H'.set zr (.cells 28 [iV x.op,sV x.name,encS exE x.kids] 0)).set r2 (.cells 106 (stE p c2 fu d2 k2) 0):=by rw [AH.comm _ _ (fun e=>hzr2 e.symm),Zqj]; first | exact AH.comm _ _ hzr2 | exact AH.comm _ _ (fun e=>hzr2 e.symm)
     rw [hh];clear hh q2 q4 ho;refine hoN.append1 (xs:=[iV x.op,sV x.name,encS exE x.kids]) ZU Yc rfl (by omega) rfl rfl (by omega) (by omega) (fun v2 H2 ho2=>?_);have c6:=ho2.cells.1;have c7:=ho2.cells.2;replace ho2:=ZpM ho2
     (repeat' (first | (simp only [↓Zz,ZA,ptrV,ZpI,ZpJ, *]) | (with_reducible refine And.intro ?_ ?_)))
     all_goals rw [ZK (n:=(i:Int)+1) (by omega) (by omega)]
     ·refine ⟨i+1,c2,d2,k2,ZL p lv++[x],by omega,rfl,by rw [Zqt,Xu]; simp [hlv],?_,.inr ⟨hk2,hX2.out⟩⟩;have e2:encC exE (ZL p lv++[x])=encC exE (ZL p lv)++[iV x.op,sV x.name,encS exE x.kids]:=by rw [Yl]; show _++encC exE [x]=_; rw [YF,Jt]; rfl
      rw [e2];exact ho2.out
     ·omega
   ·have hil:¬ (i:Int)<(ms.length:Int):=by omega
    have hX2:X=.ok (c',lv):=by
     rw [hX,Zp9 (by have:=hml.out; omega),listG]; simp [appL]
    have hbk:=(OutE.put ho (show (B.set r2 _) r4=_ by rw [ZpV _ _ d24.2]; exact b4) (.cells 106 (stE p c' fu dd 0) 0)).back.trans (Zqq (show SubH H _ from (hsB.of_set f2).of_set f4) _);have hos:=ho.cells;obtain ⟨o1,o2⟩:=hos;rw [show (VV.slice false i (encC exE (ZL p lv)))=exsV (ZL p lv) by rw [← hl]] at hbk;replace hbk:=ZpM hbk;rw [hX2];clear hX hX2;clear ho hev hpr hk hmi
    (repeat' (first | (simp only [↓Zz,ZA,ptrV,intV,ZpI,ZpJ,reduceCtorEq,ZN,ZD,undef,ZU, *])))
    refine ZV rfl (fun _ _ _ h=>h) ?_;delta Zpx Zb Za Zg Zc
    (repeat' (first | (simp only [↓Zz,ZA,ptrV,ZpI,ZpJ,ZpT,setAt,ZpL,Yq,Yn, *])))
    refine Znv (v:=t 6) (r4:=r4) (by simp only [ZC,ZpI,if_false, *]<;>rfl) (by simp only [ZC,ZpI,if_true,if_false, *]<;>rfl) (ZpP _ _ _) hbk.out (.inl ⟨c',lv,rfl,rfl,rfl,rfl,rfl⟩)
  ·rw [hX];have hbk:=(OutE.put ho (show (B.set r2 _) r4=_ by rw [ZpV _ _ d24.2]; exact b4) (.cells 106 (stE p c' fu dd k) 0)).back.trans (Zqq (show SubH H _ from (hsB.of_set f2).of_set f4) _);obtain ⟨o1,o2⟩:=ho.cells;rw [show (VV.slice false i (encC exE l))=exsV l by rw [← hl]] at hbk;replace hbk:=ZpM hbk;replace hX:=ZpM hX;have hk0':=ZpM hk0;clear ho hev hpr hk hmi;by_cases hlt:i<ms.length
   ·have hil:(i:Int)<(ms.length:Int):=by omega
    (repeat' (first | (simp only [↓Zz,ZA,ptrV,intV,ZpI,ZpJ,reduceCtorEq,ZpL,Yj,YO,ZU, *])))
    refine ZV rfl (fun _ _ _ h=>h) ?_;delta Zpx Zb Za Zg Zc
    (repeat' (first | (simp only [↓Zz,ZA,ptrV,ZpI,ZpJ,ZpT,setAt,ZpL,Yq,Yn, *])))
    exact Znv (v:=t 6) (r4:=r4) (by simp only [ZC,ZpI,if_false, *]<;>rfl) (by simp only [ZC,ZpI,if_true,if_false, *]<;>rfl) (ZpP _ _ _) hbk.out (.inr ⟨hk0'.out,rfl⟩)
   ·have hil:¬ (i:Int)<(ms.length:Int):=by omega
    (repeat' (first | (simp only [↓Zz,ZA,ptrV,intV,ZpI,ZpJ,reduceCtorEq,ZN,ZD,undef,ZU, *])))
    refine ZV rfl (fun _ _ _ h=>h) ?_;delta Zpx Zb Za Zg Zc
    (repeat' (first | (simp only [↓Zz,ZA,ptrV,ZpI,ZpJ,ZpT,setAt,ZpL,Yq,Yn, *])))
    exact Znv (v:=t 6) (r4:=r4) (by simp only [ZC,ZpI,if_false, *]<;>rfl) (by simp only [ZC,ZpI,if_true,if_false, *]<;>rfl) (ZpP _ _ _) hbk.out (.inr ⟨hk0'.out,rfl⟩)
end Go.PV.YtglpmlbbaedbiaaGreat
end
section
open Go.PV.AH renaming set_none→ZpO,set_same→ZpP
open Go.PV.Hold renaming mk→ZpM
open Go.PV.PureF renaming forget→Zp4
open Go.PV.SubH renaming refl→ZpN,new→ZpR
open Int renaming reduceNeg→ZqG
open List renaming drop→ZpL,drop_eq_nil_of_le→Zp9
open Nat renaming reduceLT→ZpJ,reduceEqDiff→ZpI,lt_or_ge→Zqm
set_option maxRecDepth 20000
set_option maxHeartbeats 8000000
namespace Go.PV.YtglpmlbbaedbiaaGreat
open Go Go.Proofs
theorem Zed (l:List Co) (n:ByteArray) (hl:l.length≤1099511627776):PureF Tryz.prog 88 [cosV l,sV n] (iV (atCo l n)):=by
 refine Zp4 fun H=>?_
 refine ZE fd88 (by simp) ?_;delta c88 Zf;unfold atCo
 (repeat' (first | (simp only [↓Zz,ZA,ZpJ,ZD,undef, *])))
 refine ZP (fun _ _ _ h=>h) (fun A H'=>H'=H∧A.d=[]∧A.t 0=cosV l∧A.t 1=sV n∧∃ i:Nat,i≤l.length∧A.t 5=iV i∧∀ j (h:j<l.length),j<i→decide (l[j].name=n)=false)
  (fun A _=>match A.t 5 with | .lit (.int _ i)=>((l.length:Int)-i).toNat | _=>0) ?_ ?_
 ·exact ⟨rfl,rfl,rfl,rfl,0,by simp,rfl,by simp⟩
 ·rintro ⟨t,d⟩ H' ⟨rfl,rfl,h0,h1,i,hi,h5,hj⟩;dsimp only at h0 h1 h5;delta b88_1 Za Ze Zn Zr Zk Zd Zb Zc Zm;by_cases hlt:i<l.length
  ·have hil:(i:Int)<(l.length:Int):=by omega
   have hdi:=Zaj hlt;replace hj:=ZpM hj
   (repeat' (first | (simp only [↓Zz,ZA,↓Xw,intV,ZpI,ZpJ,reduceCtorEq,ZpL,Zgs,ZW,JJ, *]) | (refine ZX ?_ ?_<;>intro) | (refine ZG ?_) | (exact ZpN _) | (with_reducible refine And.intro ?_ ?_)))
   all_goals try rw [ZK (n:=(i:Int)+1) (by omega) (by omega)]
   all_goals first
    | omega
    | (have hn:l[i].name=n:=by assumption
       rw [← Jo (p:=fun c=>decide (c.name=n)) hlt (by simpa using hn) (fun j h=>hj.out j (by omega) h)])
    | (have hn:¬ l[i].name=n:=by assumption
       refine ⟨i+1,by omega,rfl,fun j h h'=>?_⟩;rcases Zqm j i with h2 | h2
       ·exact hj.out j h h2
       ·obtain rfl:j=i:=by omega
        simpa using hn)
  ·have hil:¬ (i:Int)<(l.length:Int):=by omega
   have e:=ZpM (Zai (p:=fun c=>decide (c.name=n)) fun j h=>hj j h (by omega));clear hj
   (repeat' (first | (simp only [↓Zz,ZA,intV,ZpI,ZpJ,reduceCtorEq,JJ, *]) | (refine ZV rfl (fun _ _ _ h=>h) ?_)))
   delta c88_1 Zq
   (repeat' (first | (simp only [↓Zz,ZA,ZpI,ZpJ,ZqG, *]) | (refine ZG ?_)))
   rw [e.out];exact ⟨rfl,ZpN _⟩
theorem ZjL (l:List Fu) (n:ByteArray) (hl:l.length≤1099511627776):PureF Tryz.prog 89 [fusV l,sV n] (iV (atFu l n)):=by
 refine Zp4 fun H=>?_
 refine ZE fd89 (by simp) ?_;delta c89 Zf;unfold atFu
 (repeat' (first | (simp only [↓Zz,ZA,ZpJ,ZD,undef, *])))
 refine ZP (fun _ _ _ h=>h) (fun A H'=>H'=H∧A.d=[]∧A.t 0=fusV l∧A.t 1=sV n∧∃ i:Nat,i≤l.length∧A.t 5=iV i∧∀ j (h:j<l.length),j<i→decide (l[j].name=n)=false)
  (fun A _=>match A.t 5 with | .lit (.int _ i)=>((l.length:Int)-i).toNat | _=>0) ?_ ?_
 ·exact ⟨rfl,rfl,rfl,rfl,0,by simp,rfl,by simp⟩
 ·rintro ⟨t,d⟩ H' ⟨rfl,rfl,h0,h1,i,hi,h5,hj⟩;dsimp only at h0 h1 h5;delta b89_1 Za Ze Zn Zr Zk Zd Zb Zc Zm;by_cases hlt:i<l.length
  ·have hil:(i:Int)<(l.length:Int):=by omega
   have hdi:=Wy hlt;replace hj:=ZpM hj
   (repeat' (first | (simp only [↓Zz,ZA,↓Xw,intV,ZpI,ZpJ,reduceCtorEq,ZpL,ZfS,ZW,Wp, *]) | (refine ZX ?_ ?_<;>intro) | (refine ZG ?_) | (exact ZpN _) | (with_reducible refine And.intro ?_ ?_)))
   all_goals try rw [ZK (n:=(i:Int)+1) (by omega) (by omega)]
   all_goals first
    | omega
    | (have hn:l[i].name=n:=by assumption
       rw [← Jo (p:=fun c=>decide (c.name=n)) hlt (by simpa using hn) (fun j h=>hj.out j (by omega) h)])
    | (have hn:¬ l[i].name=n:=by assumption
       refine ⟨i+1,by omega,rfl,fun j h h'=>?_⟩;rcases Zqm j i with h2 | h2
       ·exact hj.out j h h2
       ·obtain rfl:j=i:=by omega
        simpa using hn)
  ·have hil:¬ (i:Int)<(l.length:Int):=by omega
   have e:=ZpM (Zai (p:=fun c=>decide (c.name=n)) fun j h=>hj j h (by omega));clear hj
   (repeat' (first | (simp only [↓Zz,ZA,intV,ZpI,ZpJ,reduceCtorEq,Wp, *]) | (refine ZV rfl (fun _ _ _ h=>h) ?_)))
   delta c89_1 Zq
   (repeat' (first | (simp only [↓Zz,ZA,ZpI,ZpJ,ZqG, *]) | (refine ZG ?_)))
   rw [e.out];exact ⟨rfl,ZpN _⟩
theorem Zo3 (p:Pr) (n:ByteArray) (hl:p.cons.length≤1099511627776):PureF Tryz.prog 91 [prV p,sV n] (iV (atCo p.cons n)):=by
 refine Zp4 fun H=>?_
 refine ZE fd91 (by simp) ?_;delta c91 Zj Zf;unfold atCo
 (repeat' (first | (simp only [↓Zz,ZA,ptrV,ZpJ,ZD,undef, *]) | (refine ZB fun zr zh=>?_; have zg:=zh; (try simp only [ZpO] at zg))))
 have hs0:=ZpR (b:=.cells 25 [cosV p.cons,fusV p.funs] 0) zh
 refine ZP (fun _ _ _ h=>h) (fun A H'=>H'=H.set zr (.cells 25 [cosV p.cons,fusV p.funs] 0)∧A.d=[]∧A.t 2=ptrV zr 0∧A.t 1=sV n∧∃ i:Nat,i≤p.cons.length∧A.t 5=iV i∧∀ j (h:j<p.cons.length),j<i→decide (p.cons[j].name=n)=false)
  (fun A _=>match A.t 5 with | .lit (.int _ i)=>((p.cons.length:Int)-i).toNat | _=>0) ?_ ?_
 ·exact ⟨rfl,rfl,rfl,rfl,0,by simp,rfl,by simp⟩
 ·rintro ⟨t,d⟩ H' ⟨hH,rfl,h2,h1,i,hi,h5,hj⟩;dsimp only at h2 h1 h5;have k2:H' zr=some (.cells 25 [cosV p.cons,fusV p.funs] 0):=by rw [hH]; exact ZpP _ _ _
  have hs:SubH H H':=by rw [hH]; exact hs0
  replace hH:=ZpM hH;delta b91_1 Za Zd Zb Ze Zn Zr Zk Zc Zm;by_cases hlt:i<p.cons.length
  ·have hil:(i:Int)<(p.cons.length:Int):=by omega
   have hdi:=Zaj hlt;replace hj:=ZpM hj
   (repeat' (first | (simp only [↓Zz,ZA,↓Xw,ptrV,intV,ZpI,ZpJ,reduceCtorEq,ZpL,WR,Zgs,Za6,ZW,JJ, *]) | (refine ZX ?_ ?_<;>intro) | (refine ZG ?_) | (with_reducible refine And.intro ?_ ?_)))
   all_goals try rw [ZK (n:=(i:Int)+1) (by omega) (by omega)]
   all_goals first
    | omega
    | exact hs
    | exact hH.out
    | (have hn:p.cons[i].name=n:=by assumption
       rw [← Jo (p:=fun c=>decide (c.name=n)) hlt (by simpa using hn) (fun j h=>hj.out j (by omega) h)])
    | (have hn:¬ p.cons[i].name=n:=by assumption
       refine ⟨i+1,by omega,rfl,fun j h h'=>?_⟩;rcases Zqm j i with h2 | h2
       ·exact hj.out j h h2
       ·obtain rfl:j=i:=by omega
        simpa using hn)
  ·have hil:¬ (i:Int)<(p.cons.length:Int):=by omega
   have e:=ZpM (Zai (p:=fun c=>decide (c.name=n)) fun j h=>hj j h (by omega));clear hj
   (repeat' (first | (simp only [↓Zz,ZA,ptrV,intV,ZpI,ZpJ,reduceCtorEq,ZpL,WR,Za6,JJ, *]) | (refine ZV rfl (fun _ _ _ h=>h) ?_)))
   delta c91_1 Zq
   (repeat' (first | (simp only [↓Zz,ZA,ZpI,ZpJ,ZqG, *]) | (refine ZG ?_)))
   all_goals first
    | rw [e.out]
    | exact hs
theorem ZgA (p:Pr) (n:ByteArray) (hl:p.funs.length≤1099511627776):PureF Tryz.prog 56 [prV p,sV n] (iV (atFu p.funs n)):=by
 refine Zp4 fun H=>?_
 refine ZE fd56 (by simp) ?_;delta c56 Zj Zf;unfold atFu
 (repeat' (first | (simp only [↓Zz,ZA,ptrV,ZpJ,ZD,undef, *]) | (refine ZB fun zr zh=>?_; have zg:=zh; (try simp only [ZpO] at zg))))
 have hs0:=ZpR (b:=.cells 25 [cosV p.cons,fusV p.funs] 0) zh
 refine ZP (fun _ _ _ h=>h) (fun A H'=>H'=H.set zr (.cells 25 [cosV p.cons,fusV p.funs] 0)∧A.d=[]∧A.t 2=ptrV zr 0∧A.t 1=sV n∧∃ i:Nat,i≤p.funs.length∧A.t 5=iV i∧∀ j (h:j<p.funs.length),j<i→decide (p.funs[j].name=n)=false)
  (fun A _=>match A.t 5 with | .lit (.int _ i)=>((p.funs.length:Int)-i).toNat | _=>0) ?_ ?_
 ·exact ⟨rfl,rfl,rfl,rfl,0,by simp,rfl,by simp⟩
 ·rintro ⟨t,d⟩ H' ⟨hH,rfl,h2,h1,i,hi,h5,hj⟩;dsimp only at h2 h1 h5;have k2:H' zr=some (.cells 25 [cosV p.cons,fusV p.funs] 0):=by rw [hH]; exact ZpP _ _ _
  have hs:SubH H H':=by rw [hH]; exact hs0
  replace hH:=ZpM hH;delta b56_1 Za Zd Zb Ze Zn Zr Zk Zc Zm;by_cases hlt:i<p.funs.length
  ·have hil:(i:Int)<(p.funs.length:Int):=by omega
   have hdi:=Wy hlt;replace hj:=ZpM hj
   (repeat' (first | (simp only [↓Zz,ZA,↓Xw,ptrV,intV,ZpI,ZpJ,reduceCtorEq,ZpL,Xp,ZfS,WS,ZW,Wp, *]) | (refine ZX ?_ ?_<;>intro) | (refine ZG ?_) | (with_reducible refine And.intro ?_ ?_)))
   all_goals try rw [ZK (n:=(i:Int)+1) (by omega) (by omega)]
   all_goals first
    | omega
    | exact hs
    | exact hH.out
    | (have hn:p.funs[i].name=n:=by assumption
       rw [← Jo (p:=fun c=>decide (c.name=n)) hlt (by simpa using hn) (fun j h=>hj.out j (by omega) h)])
    | (have hn:¬ p.funs[i].name=n:=by assumption
       refine ⟨i+1,by omega,rfl,fun j h h'=>?_⟩;rcases Zqm j i with h2 | h2
       ·exact hj.out j h h2
       ·obtain rfl:j=i:=by omega
        simpa using hn)
  ·have hil:¬ (i:Int)<(p.funs.length:Int):=by omega
   have e:=ZpM (Zai (p:=fun c=>decide (c.name=n)) fun j h=>hj j h (by omega));clear hj
   (repeat' (first | (simp only [↓Zz,ZA,ptrV,intV,ZpI,ZpJ,reduceCtorEq,ZpL,Xp,WS,Wp, *]) | (refine ZV rfl (fun _ _ _ h=>h) ?_)))
   delta c56_1 Zq
   (repeat' (first | (simp only [↓Zz,ZA,ZpI,ZpJ,ZqG, *]) | (refine ZG ?_)))
   all_goals first
    | rw [e.out]
    | exact hs
theorem ZjM (l:List ByteArray) (s:ByteArray) (hl:l.length≤1099511627776):PureF Tryz.prog 127 [strsV l,sV s] (boolV (hasF l s)):=by
 refine Zp4 fun H=>?_
 refine ZE fd127 (by simp) ?_;delta c127 Zq Zf
 (repeat' (first | (simp only [↓Zz,ZA,boolV,ZpJ,ZD,undef, *])))
 refine ZP (fun _ _ _ h=>h) (fun A H'=>H'=H∧A.d=[]∧A.t 0=strsV l∧A.t 1=sV s∧∃ (i:Nat),i≤l.length∧A.t 5=iV i∧hasF l s=hasF (l.drop i) s)
  (fun A _=>match A.t 5 with | .lit (.int _ i)=>((l.length:Int)-i).toNat | _=>0) ?_ ?_
 ·exact ⟨rfl,rfl,rfl,rfl,0,by omega,rfl,rfl⟩
 ·rintro ⟨t,d⟩ H' ⟨rfl,rfl,h0,h1,i,hi,h5,hh⟩;dsimp only at h0 h1 h5;rw [hh];clear hh;delta b127_1 Za Ze Zn Zr Zk Zb Zq Zm Zc
  (repeat' (first | (simp only [↓Zz,ZA,↓Xw,intV,ZpI,ZpJ,reduceCtorEq,Zcx,ZW,Xy, *]) | (refine ZX ?_ ?_<;>intro) | (refine ZG ?_) | (refine ZV rfl (fun _ _ _ h=>h) ?_) | (exact ZpN _) | (with_reducible refine And.intro ?_ ?_)))
  ·have hlt:i<l.length:=by assumption
   have he:l[i]=s:=by assumption
   rw [Zd8 hlt,decide_eq_true he,Bool.true_or]
  ·have hlt:i<l.length:=by assumption
   have he:¬ l[i]=s:=by assumption
   rw [ZK (n:=(i:Int)+1) (by omega) (by omega)];exact ⟨i+1,by omega,rfl,by rw [Zd8 hlt,decide_eq_false he,Bool.false_or]⟩
  ·rw [ZK (n:=(i:Int)+1) (by omega) (by omega)];omega
  ·rw [Zp9 (by omega)];delta c127_1 Zq
   (repeat' (first | (simp only [↓Zz,ZA,ZpI,ZpJ, *]) | (refine ZG ?_)))
   exact ⟨rfl,ZpN _⟩
end Go.PV.YtglpmlbbaedbiaaGreat
end
section
open Go.PV.AH renaming set_none→ZpO,set_ne→ZpV,set_same→ZpP
open Go.PV.PureF renaming forget→Zp4
open Go.PV.SubH renaming refl→ZpN,of_set→ZpS
open Int renaming reduceLE→Zqi
open List renaming drop→ZpL,drop_zero→ZqL,getElem_mem→ZpW,getElem_map→ZqR,getElem?_eq_getElem→ZqC
open Nat renaming reduceLT→ZpJ,reduceEqDiff→ZpI,reduceAdd→ZpT
open Option renaming bind_some→Zqg,map_some→Zp6
set_option maxRecDepth 20000
set_option maxHeartbeats 4000000
namespace Go.PV.YtglpmlbbaedbiaaGreat
open Go Go.Proofs
theorem rflat_id {nm:ByteArray} {k:Ex} {ks:List Ex} (hk:¬ k.op=4):PureF Tryz.prog 72 [exV (.mk 4 nm (k::ks))] (exV (.mk 4 nm (k::ks))):=by
 refine Zp4 fun H=>?_
 refine ZE fd72 (by simp) ?_;delta c72 Zj Zi;have hcs:encC exE (k::ks)=iV k.op::sV k.name::exsV k.kids::encC exE ks:=by rw [YF,Jt]; rfl
 have hd0:ZpL (Int.toNat 0 * 3) (iV k.op::sV k.name::exsV k.kids::encC exE ks)=iV k.op::sV k.name::exsV k.kids::encC exE ks:=rfl;have hl:(0:Int)<((ks.length+1:Nat):Int):=by omega
 have hex:exV (.mk 4 nm (k::ks))=.agg [iV 4,sV nm,.slice false (ks.length+1) (encC exE (k::ks))]:=rfl;rw [hex];clear hex;generalize ks.length+1=m at *
 (repeat' (first | (simp only [↓Zz,ZA,ptrV,ZpJ,ZD,undef,Yc, *]) | (refine ZB fun zr zh=>?_; have zg:=zh; (try simp only [ZpO] at zg))))
 rename_i r1 h1 g1;have f1:H r1=none:=by simpa using g1
 have f2:H zr=none:=by simp only [zg]
 have d12:¬ r1=zr∧¬ zr=r1:=by simp only [zg]; simp
 obtain ⟨B,hB⟩:∃ B,B=((H.set r1 (.cells 28 [iV 4,sV nm,.slice false m (iV k.op::sV k.name::exsV k.kids::encC exE ks)] 0)).set zr (.cells 28 [iV 0,sV ⟨#[]⟩,.lit (.slice none 0 0)] 0)):=⟨_,rfl⟩
 have b1:B r1=some (.cells 28 [iV 4,sV nm,.slice false m (iV k.op::sV k.name::exsV k.kids::encC exE ks)] 0):=by rw [hB,ZpV _ _ d12.1,ZpP]
 have b2:B zr=some (.cells 28 [iV 0,sV ⟨#[]⟩,.lit (.slice none 0 0)] 0):=by rw [hB,ZpP]
 have hsB:SubH H B:=by rw [hB]; exact (by repeat (first | exact ZpN _ | assumption | refine ZpS ?_ (by assumption)))
 rw [← hB];clear hB h1 g1 zh zg;generalize zr=r2 at *
 refine ZP (fun _ _ _ h=>h) (fun A H'=>H'=B∧A.d=[]∧A.t 1=ptrV r1 0∧A.t 2=ptrV r2 0) (fun _ _=>0) ?_ ?_
 ·exact ⟨rfl,rfl,(by simp only [ZC,ZpI,if_true,if_false, *]<;>rfl),(by simp only [ZC,ZpI,if_true,if_false, *]<;>rfl)⟩
 ·rintro ⟨t,d⟩ H' ⟨rfl,rfl,t1,t2⟩;dsimp only at t1 t2;delta b72_1 Zd Zb Zm Za Zp Zr Zq Zl Zc Zg
  (repeat' (first | (simp only [↓Zz,ZA,ptrV,ZpI,ZpJ,ZpL,Zqi,and_false,ZO,ZR,ZQ,Ye,ZU, *])))
  refine ZV rfl (fun _ _ _ h=>h) ?_;delta c72_1 Zb Zg
  (repeat' (first | (simp only [↓Zz,ZA,ptrV,ZpI,ZpJ,ZpT,setAt,ZpL,Yd,YE, *])))
  refine Yo rfl (x:=.agg [iV 4,sV nm,.slice false m (iV k.op::sV k.name::exsV k.kids::encC exE ks)]) ?_ ⟨rfl,hsB.of_set f2⟩;simp only [resV,YY,YX,Yd,t2,ZpP,ZC,ZpI,if_false,ptrV,ZqL,XT,Zqg,Zp6,tupV]
theorem Zoo {p:Pr} (hnd:NdP p) {j:Nat} (hj:j<p.funs.length):atFu p.funs p.funs[j].name=j:=by
 unfold atFu;rcases WI (fun c:Fu=>decide (c.name=p.funs[j].name)) p.funs with ⟨_,h2⟩ | ⟨i,hi,h1,h2,h3⟩
 ·have:=h2 _ (ZpW hj)
  simp at this
 ·rw [h1];have hn:=List.pairwise_iff_getElem.1 hnd.funs;have he:p.funs[i].name=p.funs[j].name:=by simpa using h2
  rcases Nat.lt_trichotomy i j with h | h | h
  ·exact (hn i j (by simpa using hi) (by simpa using hj) h (by rw [ZqR,ZqR]; exact he)).elim
  ·rw [h]
  ·exact (hn j i (by simpa using hj) (by simpa using hi) h (by rw [ZqR,ZqR]; exact he.symm)).elim
theorem ZjN {p:Pr} {j:Nat} (hj:j<p.funs.length):ZeK p j=p.funs[j].name:=by unfold ZeK; rw [ZqC hj]
end Go.PV.YtglpmlbbaedbiaaGreat
end
section
open Bool renaming and_self→Zqo
open Go.PV.AH renaming set_same→ZpP,set_ne→ZpV,del_ne→Zqf,set_none→ZpO,get→ZpU,set_set→Zqj,ne_of→ZpK
open Go.PV.GhL renaming cons→ZpZ
open Go.PV.GhV renaming refl→Zp8
open Go.PV.Hold renaming mk→ZpM
open Go.PV.PureF renaming use→ZpQ
open Go.PV.SubH renaming new→ZpR,refl→ZpN,of_set→ZpS
open Int renaming reduceEq→Zp5,reduceLE→Zqi,natCast_nonneg→ZqU,toNat_natCast→ZqN
open List renaming length_cons→Zqb,eq_nil_of_length_eq_zero→ZqD,drop→ZpL,length_nil→Zqh,all_cons→Zqn,all_nil→Zqv,set_cons_zero→Zqs,set_cons_succ→Zqy,map_cons→Zp3,map_nil→Zqa,append_nil→ZqJ,getElem?_cons_zero→ZqE,getElem?_cons_succ→ZqF,getElem?_eq_getElem→ZqC,getElem_mem→ZpW,length_drop→ZqO,length_take→ZqI,drop_zero→ZqL,length_append→Zqt
open Nat renaming le_refl→ZpY,reduceEqDiff→ZpI,reduceLT→ZpJ,reduceAdd→ZpT,succ_ne_self→Zp7,zero_add→Zp2,reduceMul→Zqu,reduceLeDiff→Zp1,lt_succ_self→ZqK,add_zero→ZqB
open Option renaming map_none→Zqz,map_some→Zp6
set_option maxRecDepth 20000
set_option maxHeartbeats 4000000
namespace Go.PV.YtglpmlbbaedbiaaGreat
open Go Go.Proofs
theorem sub1 {H:AH} {r:Nat} {b:Blk} (h:H r=some b):SubH (AH.nil.set r b) H:=fun i x hx=>by
 by_cases e:i=r
 ·subst e; rw [ZpP] at hx; rw [h]; exact hx
 ·rw [ZpV _ _ e] at hx; cases hx
def Sb (x x':VV):Prop:=∀ (S:Nat→Prop) (w:World) (u:Value),Rv S w x u→Rv S w x' u
def SbL:List VV→List VV→Prop
 | [],[]=>True
 | x::xs,y::ys=>Sb x y∧SbL xs ys
 | _,_=>False
theorem SbL.refl:∀ l:List VV,SbL l l
 | []=>trivial
 | _::l=>⟨fun _ _ _ h=>h,SbL.refl l⟩
theorem Sb.nil:Sb (.lit (.slice none 0 0)) (.slice false 0 []):=fun S w u h=>by
 obtain rfl:=h;exact ⟨none,0,rfl,⟨ZpY _,fun h=>by cases h⟩,fun h=>absurd h (by omega)⟩
theorem RvC.sb {S:Nat→Prop} {w:World}:∀ {xs ys:List VV} {r o:Nat},SbL xs ys→RvC S w xs r o→RvC S w ys r o
 | [],[],_,_,_,h=>h
 | x::xs,y::ys,r,o,hl,h=>⟨by obtain ⟨u,h1,h2⟩:=h.1; exact ⟨u,h1,hl.1 _ _ _ h2⟩,RvC.sb hl.2 h.2⟩
 | [],_::_,_,_,hl,_=>hl.elim
 | _::_,[],_,_,hl,_=>hl.elim
theorem GhV.cont {H:AH} {ex:Bool} {n:Nat} {cs cs':List VV} (h:SbL cs cs'):GhV H (.slice ex n cs) H (.slice ex n cs'):=fun S w u hs hx=>by
 obtain ⟨a,cap,rfl,h1,h2⟩:=hx;refine ⟨S,.refl _ _ _,hs,a,cap,rfl,h1,fun hn=>?_⟩;obtain ⟨r,o,e,hr,hc⟩:=h2 hn;exact ⟨r,o,e,hr,RvC.sb h hc⟩
theorem ZeN (l:List Ex):(encC exE l).all VV.one=true:=ZdE (fun e=>by rw [Jt]; rfl) l
theorem ZbP (e:Ex) (l:List Ex):encC exE (e::l)=iV e.op::sV e.name::exsV e.kids::encC exE l:=by rw [YF,Jt]; rfl
theorem ex_take' {l:List Ex}:∀ (n:Nat),(encC exE l).take (n * 3)=encC exE (l.take n):=fun n=>by
 induction n generalizing l with
 | zero=>simp [Za1]
 | succ n ih =>
   cases l with
   | nil=>simp [Za1]
   | cons e l=>rw [ZbP,List.take_succ_cons,ZbP,show (n+1) * 3=n * 3+3 by omega]; simp only [List.take_succ_cons]; rw [ih]
theorem ex_drop' {l:List Ex}:∀ (n:Nat),(encC exE l).drop (n * 3)=encC exE (l.drop n):=fun n=>by
 induction n generalizing l with
 | zero=>simp
 | succ n ih =>
   cases l with
   | nil=>simp [Za1]
   | cons e l=>rw [ZbP,List.drop_succ_cons,show (n+1) * 3=n * 3+3 by omega]; simp only [List.drop_succ_cons]; rw [ih]
theorem hi1_9 (A B:AH):hi1 A B 9=B:=rfl
theorem hi1_10 (A B:AH):hi1 A B 10=B:=rfl
theorem hi1_11 (A B:AH):hi1 A B 11=B:=rfl
theorem hi1_14 (A B:AH):hi1 A B 14=B:=rfl
theorem hi1_15 (A B:AH):hi1 A B 15=B:=rfl
theorem ZjO {A H:AH} {r:Nat} {k:Nat} (hk:¬ k=0) (b0 b:Blk):SubH (hi1 A ((H.set r b0).del r) k) (H.set r b):=by
 unfold hi1;rw [if_neg hk];intro i x hx;by_cases e:i=r
 ·subst e; rw [AH.del_same] at hx; cases hx
 ·rw [Zqf _ e,ZpV _ _ e] at hx;rw [ZpV _ _ e]; exact hx
abbrev zS:List VV:=[.lit (.slice none 0 0),.lit (.slice none 0 0),iV 0,iV 0,iV 0,iV 0]
abbrev zX:List VV:=[iV 0,sV ⟨#[]⟩,.lit (.slice none 0 0)]
structure ApB (p:Pr) (H H':AH) (r3 r4 r6 r7:Nat) (st ex:List VV):Prop where
 f3:H r3=none
 f4:H r4=none
 f6:H r6=none
 f7:H r7=none
 d34:¬ r3=r4∧¬ r4=r3
 d36:¬ r3=r6∧¬ r6=r3
 d37:¬ r3=r7∧¬ r7=r3
 d46:¬ r4=r6∧¬ r6=r4
 d47:¬ r4=r7∧¬ r7=r4
 d67:¬ r6=r7∧¬ r7=r6
 k3:H' r3=some (.cells 106 st 0)
 k4:H' r4=some (.cells 28 ex 0)
 k6:H' r6=some (.cells 106 zS 0)
 k7:H' r7=some (.cells 28 zX 0)
 hs:SubH H H'
theorem ApB.alloc {p:Pr} {H H':AH} {r3 r4 r6 r7 z:Nat} {st ex:List VV} (h:ApB p H H' r3 r4 r6 r7 st ex) (hz:H' z=none) (b:Blk):ApB p H (H'.set z b) r3 r4 r6 r7 st ex :=
 { h with k3:=ZpR hz _ _ h.k3,k4:=ZpR hz _ _ h.k4,k6:=ZpR hz _ _ h.k6,k7:=ZpR hz _ _ h.k7,hs:=h.hs.trans (ZpR hz) }
theorem ApB.st {p:Pr} {H H':AH} {r3 r4 r6 r7:Nat} {st ex:List VV} (h:ApB p H H' r3 r4 r6 r7 st ex) (st':List VV):ApB p H (H'.set r3 (.cells 106 st' 0)) r3 r4 r6 r7 st' ex :=
 { h with k3:=ZpP _ _ _,k4:=by rw [ZpV _ _ h.d34.2]; exact h.k4,k6:=by rw [ZpV _ _ h.d36.2]; exact h.k6,k7:=by rw [ZpV _ _ h.d37.2]; exact h.k7,hs:=h.hs.of_set h.f3 }
theorem ApB.ex {p:Pr} {H H':AH} {r3 r4 r6 r7:Nat} {st ex:List VV} (h:ApB p H H' r3 r4 r6 r7 st ex) (ex':List VV):ApB p H (H'.set r4 (.cells 28 ex' 0)) r3 r4 r6 r7 st ex' :=
 { h with k3:=by rw [ZpV _ _ h.d34.1]; exact h.k3,k4:=ZpP _ _ _,k6:=by rw [ZpV _ _ h.d46.2]; exact h.k6,k7:=by rw [ZpV _ _ h.d47.2]; exact h.k7,hs:=h.hs.of_set h.f4 }
abbrev exL (x:Ex):List VV:=[iV x.op,sV x.name,exsV x.kids]
def ApI (p:Pr) (fu c d:Int) (ev:EvF) (X:EvR) (n:Nat) (c' dd k:Int) (x:Ex) (us:List Val):Prop :=
 (k=0∧dd=d∧c≤c'∧c'≤fu∧∃ w,x=w.ex p∧w.ok p∧X=appG p fu ev n c' d w us)∨(¬ k=0∧X=.error k)
theorem Zop {p:Pr} {fu d c':Int} {w:Val} {nm:ByteArray} {es:List Ex} {m:Nat} {v':VV} {H Hb H7:AH} {t:Nat→VV} {r6 r7 s6 s7:Nat} {e6 e7:TypeId} (hw:w.ex p=.mk 4 noNm (.mk 2 nm []::es)) (hm:es.length=m) (ho:OwnX Hb H7 28 3 v' (1+m) ([iV 2,sV nm,.lit (.slice none 0 0)]++encC exE es)) (hs:SubH H Hb)
 (h6:t 6=ptrV r6 0) (h7:t 7=ptrV r7 0) (k6:H7 r6=some (.cells e6 (stE p c' fu d 0) s6)) (k7:H7 r7=some (.cells e7 [iV 4,sV ⟨#[]⟩,v'] s7)):ZhX 6 7 p fu d H (.ok (c',w)) .ret ⟨t,[]⟩ H7:=by
 refine ZfL h6 h7 k6 k7 ⟨.tuple [stV p c' fu d 0,exV (w.ex p)],H,?_,rfl,.inl ⟨c',w,rfl,rfl⟩⟩;refine GhV.tuple (ZpZ (Zp8 _ _) (ZpZ ?_ (GhL.nil _)));rw [hw]
 have e1:exV (.mk 4 noNm (.mk 2 nm []::es))=.agg [iV 4,sV noNm,.slice false (1+m) (iV 2::sV nm::.slice false 0 []::encC exE es)]:=by
  show VV.agg [iV 4,sV noNm,encS exE (.mk 2 nm []::es)]=_;rw [encS,ZbP,Zqb,hm,Nat.add_comm]; rfl
 rw [e1];refine GhV.agg (ZpZ (Zp8 _ _) (ZpZ (Zp8 _ _) (ZpZ ?_ (GhL.nil _))));exact (GhV.back ho hs).trans (GhV.cont ⟨fun _ _ _ h=>h,fun _ _ _ h=>h,Sb.nil,SbL.refl _⟩)
theorem Zo4 {p:Pr} (hp:PgR p) {fu g c d:Int} {ev:EvF} (hev:RvHyp p fu g ev) (hpr:ZeG p fu ev) {v:Val} {us:List Val} {ex:Bool} (hv:v.ok p) (hul:us.length≤1099511627776) (hu:YP p us) (hd:0≤d) (hc:0≤c∧c≤fu) (hfu:fu≤100000) (hms:(fu-c) * 5001≤g) (n:Nat) (hn:us.length≤n) (H:AH) :
 ZT Tryz.prog 59 [stV p c fu d 0,exV (v.ex p),.slice ex us.length (encC exE (ZL p us))] H (RvK p fu d H (appG p fu ev n c d v us)):=by
 refine JH ?_;refine ZE fd59 (by simp) ?_;delta c59 Zj Zi;obtain ⟨X,hX⟩:∃ X,X=appG p fu ev n c d v us:=⟨_,rfl⟩
 rw [← hX];replace hX:=ZpM hX
 (repeat' (first | (simp only [↓Zz,ZA,ptrV,ZpI,ZpJ,ZD,undef,Yc,Xl, *]) | (refine ZB fun zr zh=>?_; have zg:=zh; (try simp only [ZpO] at zg))))
 rename_i r3 h3 g3 r4 h4 g4 r6 h6 g6
 have hA:ApB p H ((((H.set r3 (.cells 106 (stE p c fu d 0) 0)).set r4 (.cells 28 (exL (v.ex p)) 0)).set r6 (.cells 106 zS 0)).set zr (.cells 28 zX 0)) r3 r4 r6 zr (stE p c fu d 0) (exL (v.ex p)):=by
  have f3:H r3=none:=by simpa using g3
  have f4:H r4=none:=g4.2;have f6:H r6=none:=by simp only [g6]
  have f7:H zr=none:=by simp only [zg]
  have d34:¬ r3=r4∧¬ r4=r3:=⟨g4.1.2,g4.1.1⟩
  have d36:¬ r3=r6∧¬ r6=r3:=by simp only [g6]; simp
  have d46:¬ r4=r6∧¬ r6=r4:=by simp only [g6]; simp
  have d37:¬ r3=zr∧¬ zr=r3:=by simp only [zg]; simp
  have d47:¬ r4=zr∧¬ zr=r4:=by simp only [zg]; simp
  have d67:¬ r6=zr∧¬ zr=r6:=by simp only [zg]; simp
  exact ⟨f3,f4,f6,f7,d34,d36,d37,d46,d47,d67,(by simp only [ZpU, *,if_true,if_false]<;>rfl),(by simp only [ZpU, *,if_true,if_false]<;>rfl),(by simp only [ZpU, *,if_true,if_false]<;>rfl),(by simp only [ZpU, *,if_true,if_false]<;>rfl),(by repeat (first | exact ZpN _ | assumption | refine ZpS ?_ (by assumption)))⟩
 clear h3 g3 h4 g4 h6 g6 zh zg;generalize zr=r7 at *
 refine Zgx (fun _ _ _ h=>h) (fun n A H'=>A.d=[]∧A.t 3=ptrV r3 0∧A.t 4=ptrV r4 0∧A.t 6=ptrV r6 0∧A.t 7=ptrV r7 0∧∃ (c' dd k:Int) (x:Ex) (us:List Val) (ex:Bool),ApB p H H' r3 r4 r6 r7 (stE p c' fu dd k) (exL x)∧A.t 2=.slice ex us.length (encC exE (ZL p us))∧YP p us∧us.length≤1099511627776∧us.length≤n∧ApI p fu c d ev X n c' dd k x us)
  (n0:=n) ⟨rfl,(by simp only [ZC,ZpI,if_true,if_false, *]<;>rfl),(by simp only [ZC,ZpI,if_true,if_false, *]<;>rfl),(by simp only [ZC,ZpI,if_true,if_false, *]<;>rfl),(by simp only [ZC,ZpI,if_true,if_false, *]<;>rfl),c,d,0,v.ex p,us,ex,hA,(by simp only [ZC,ZpI,if_false, *]<;>rfl),hu,hul,hn,.inl ⟨rfl,rfl,by omega,hc.2,v,rfl,hv,hX.out⟩⟩ ?_
 clear hX hv hu hul hn hA;rintro n ⟨t,d'⟩ H' ⟨rfl,t3,t4,t6,t7,c',dd,k,x,us,ex,hA,t2,hu,hul,hn,hI⟩ Rr hrr;dsimp only at t3 t4 t6 t7 t2;delta b59_1 Zd Zb Zm Za Zp Zr Zq Zc Zo Zg Zh Zk Zi Ze Zn Zl;have k3:=hA.k3;have k4:=hA.k4;have k6:=hA.k6;have k7:=hA.k7;have d34:=hA.d34;have d67:=hA.d67;have d36:=hA.d36;have d37:=hA.d37;have d46:=hA.d46;have d47:=hA.d47;have f3:=hA.f3;have f4:=hA.f4;have f6:=hA.f6;have f7:=hA.f7;have hs:=hA.hs;have hel:(ZL p us).length=us.length:=Xu p us;replace hel:=ZpM hel;rcases hI with ⟨rfl,rfl,hcc,hcf,w,rfl,hw,hX⟩ | ⟨hk0,hX⟩
 ·by_cases hz:us.length=0
  ·have hz':¬ (0:Int)<(us.length:Int):=by omega
   have hX':X=.ok (c',w):=by
    obtain rfl:=ZqD hz;rw [hX]; cases n<;>rw [appG]; rfl
   rw [hX'];clear hX hrr hz hX' hev hpr
   (repeat' (first | (simp only [↓Zz,ZA,ptrV,intV,ZpI,ZpJ,reduceCtorEq,ZpL,Yj,YO,ZU, *])))
   refine ZV rfl (fun _ _ _ h=>h) ?_;delta Zpy Zb Zg
   (repeat' (first | (refine ZJ mixed (fun _ _ _ _ e h=>⟨e.trans h.1,h.2⟩) _ (sub2 (r:=r3) (r':=r4) k3 k4) ?_) | (refine sub2 (by simp only [ZpU, *,if_false]<;>rfl) (by simp only [ZpU, *,if_false]<;>rfl)) | (simp only [↓WX,↓Xe,↓Yf,↓Yi,↓Yu,↓Yr,↓XJ,↓Ys,↓XK,↓Yt,↓ZC,↓YA,↓YU,ptrV,Zqb,Zqh,ite_true,ite_false,ZpI,ZpJ,ZpT,true_and,Zp7,↓YV,↓YK,↓YL,ZpU,setAt,Zqn,Zqv,Zqo,eq_self,Zp2,ZpL,XT,Jb,XS,We,YT,Xi,Zqs,Zqy,ZpY,XG,XH,Xr,WP,WQ,↓Ws,↓WC,Zar,Yq,Yd,Yn,YE, *]) | (with_reducible refine And.intro ?_ ?_)))
   exact ZeM (ri:=r6) (rj:=r7) (by simp only [ZC,ZpI,if_false, *]<;>rfl) (by simp only [ZC,ZpI,if_false, *]<;>rfl) (by rw [ZpV _ _ d67.1,ZpP]) (ZpP _ _ _) (by repeat (first | exact ZpN _ | assumption | refine ZpS ?_ (by assumption)))
  ·obtain ⟨a,l,hl⟩:∃ a l,us=a::l:=by
    cases us with
    | nil=>exact absurd rfl hz
    | cons a l=>exact ⟨a,l,rfl⟩
   have hz':(0:Int)<(us.length:Int):=by omega
   have hcs:encC exE (ZL p us)=iV (a.ex p).op::sV (a.ex p).name::exsV (a.ex p).kids::encC exE (ZL p l):=by rw [hl,ZL,YF,Jt]; rfl
   have hd0:ZpL (Int.toNat 0 * 3) (iV (a.ex p).op::sV (a.ex p).name::exsV (a.ex p).kids::encC exE (ZL p l))=iV (a.ex p).op::sV (a.ex p).name::exsV (a.ex p).kids::encC exE (ZL p l):=rfl;obtain ⟨n,rfl⟩:∃ n',n=n'+1:=⟨n-1,by omega⟩
   cases w with
   | built m ks =>
     have hX':X=.error 421:=by rw [hX,hl,appG]
     rw [hX'];have hop:((Val.built m ks).ex p).op=3:=by rw [Val.ex]; rfl
     have hfl:=fun H=>ZhW (p:=p) (fu:=fu) (c:=c') (d:=dd) (k:=421) H
     clear hX hrr hX' hl hev hpr;generalize (Val.built m ks).ex p=x at *
     (repeat' (first | (simp only [↓Zz,ZA,ptrV,intV,ZpI,ZpJ,reduceCtorEq,ZpL,Zp5,Yj,ZO,YO,ZQ,Yq,ZU,en_95, *])))
     refine (hfl _).mono fun e' H2 hq=>?_
     obtain ⟨rfl,rfl⟩:=hq;clear hfl
     (repeat' (first | (simp only [↓Zz,ZA,ZI,ptrV,ZpI,ZpJ,ZpT,setAt,Yn,YE, *])))
     exact Za3 (ri:=r6) (rj:=r7) (k:=421) (x:=zEx) (by decide) (by simp only [ZC,ZpI,if_false, *]<;>rfl) (by simp only [ZC,ZpI,if_false, *]<;>rfl) (by rw [ZpV _ _ d67.1,ZpP]) (ZpP _ _ _) (by repeat (first | exact ZpN _ | assumption | refine ZpS ?_ (by assumption)))
   | clo x b ns vs =>
     have hop:((Val.clo x b ns vs).ex p).op=5:=by rw [Val.ex]; rfl
     have hnm:((Val.clo x b ns vs).ex p).name=x:=by rw [Val.ex]; rfl
     have hkd:((Val.clo x b ns vs).ex p).kids=[b.putM true (outB x (bdL ns (ZL p vs)))]:=by rw [Val.ex]; rfl
     have hoka:a.ok p∧YP p l:=by rw [hl] at hu; exact hu
     have hco:=fun ex m H hm=>ZgP hp (us:=[a]) (ex:=ex) (m:=m) (fu:=fu) (c:=c') (d:=dd) hm (by simp) ⟨hoka.1,trivial⟩ ⟨by omega,by omega⟩ H
     have hX':X=match cntV fu c' dd [a] with
      | .error k=>.error k
      | .ok c1=>match ev c1 (dd+1) b (x::ns) (a::vs) with
        | .error k=>.error k
        | .ok (c2,w)=>appG p fu ev n c2 dd w l:=by rw [hX,hl,appG]; rfl
     have hgd:=fun c1 h=>Ziu hw hoka.1 ⟨by omega,hcf⟩ (c1:=c1) (d:=dd) h
     have hbw:b.wd:=Ex.wd_of (by have:=hw.1.2.2.1; omega);have hsd:=hw.1.2.1
     have hgt:∀ H ex,GhV H (.slice ex 1 (iV (a.ex p).op::sV (a.ex p).name::exsV (a.ex p).kids::encC exE (ZL p l))) H (.slice ex 1 (encC exE (ZL p [a]))):=fun H ex=>by
      have htr:iV (a.ex p).op::sV (a.ex p).name::exsV (a.ex p).kids::encC exE (ZL p l)=encC exE (ZL p [a])++encC exE (ZL p l):=by
       show _=encC exE [a.ex p]++_;rw [YF,Jt]; rfl
      rw [htr];exact GhV.trunc _ _ _ _ _
     replace hX':=ZpM hX';replace hl:=ZpM hl;clear hX
     (repeat' (first | (simp only [↓Zz,ZA,ptrV,intV,ZpI,ZpJ,Zqu,Nat.reduceSub,Zp1,reduceCtorEq,ZpL,Zqi,Int.reduceToNat,YC,Zqz,Zp6,Xj,idxV,idxOk,Yj,ZO,YO,ZQ,Yq,ZU,en_93, *]) | (refine ZJ mixed (fun _ _ _ _ e h=>⟨e.trans h.1,h.2⟩) _ (ZpN _) ?_) | (with_reducible refine And.intro ?_ ?_)))
     ·exact fun h=>h.elim
     ·omega
     refine Yy (ZpZ (Zp8 _ _) (ZpZ (hgt _ _) (GhL.nil _))) ?_;refine (hco _ _ _ rfl).mono fun e' H2 hq=>?_
     obtain ⟨rfl,y,rfl,⟨c1,hcn,rfl⟩ | ⟨k,c1,hk,hcn,rfl⟩⟩:=hq
     ·obtain ⟨k1,k2,k3'⟩:=Zb8 hcn;subst k1;have hgd':=hgd _ hcn;have hX2:∀ R,ev (c'+1) (dd+1) b (x::ns) (a::vs)=R→X=match R with | .error k=>.error k | .ok (c2,w)=>appG p fu ev n c2 dd w l:=fun R hR=>by rw [hX'.out,hcn]; dsimp only; rw [hR]
      replace hX2:=ZpM hX2;clear hX' hgd hcn hco;have hok:=hA.st (stE p (c'+1) fu dd 0);have hl1:us.length-1=l.length:=by rw [hl.out]; simp
      have hll:l.length≤n:=by rw [hl.out] at hn; simpa using hn
      have hlul:l.length≤1099511627776:=by omega
      have hbl:bdL (x::ns) (ZL p (a::vs))=bdL ns (ZL p vs)++[(x,a.ex p)]:=by rw [ZL,Zl0]
      have hwc:(b.putM true (outB x (bdL ns (ZL p vs)))).wd:=(Ex.wd_iff.1 (Val.ex_wd hp _ hw)).2 _ (by rw [hkd]; simp)
      have hpp:(b.putM true (outB x (bdL ns (ZL p vs)))).putM true [(x,a.ex p)]=b.putM true (bdL (x::ns) (ZL p (a::vs))):=by
       rw [hbl]
       have:=(ZaI.1 hsd).2 b (by simp [Ex.kids])
       exact put_put b _ _ this
      have hpu:=Zom true _ _ [(x,a.ex p)] (ZqK _) hwc (by simp);rw [hpp] at hpu;have hpu':PureF Tryz.prog 97 [exV (b.putM true (outB x (bdL ns (ZL p vs)))),.slice true 1 [sV x,iV (a.ex p).op,sV (a.ex p).name,exsV (a.ex p).kids],bV true] (exV (b.putM true (bdL (x::ns) (ZL p (a::vs))))):=fun H=>Yy (ZpZ (Zp8 _ _) (ZpZ (GhV.imm H) (ZpZ (Zp8 _ _) (GhL.nil _)))) (hpu H)
      have hbo:=fun H=>Zl1 hev (d:=dd) hgd' (by have:=hw.1.2.2.1; omega) hd k3' rfl H
      have hq3:=hok.k3;have hq4:=hok.k4;have hkd0:ZpL (Int.toNat 0 * 3) (encC exE [b.putM true (outB x (bdL ns (ZL p vs)))])=[iV (b.putM true (outB x (bdL ns (ZL p vs)))).op,sV (b.putM true (outB x (bdL ns (ZL p vs)))).name,exsV (b.putM true (outB x (bdL ns (ZL p vs)))).kids]:=by rw [YF,Jt]; rfl
      have h01:(0:Int)<((1:Nat):Int):=by decide
      clear hgt hpu hpp hwc hbl hsd;generalize b.putM true (outB x (bdL ns (ZL p vs)))=y at *
      generalize (Val.clo x b ns vs).ex p=z at *
      have hd4:((H2.set r3 (.cells 106 (stE p (c'+1) fu dd 0) 0)).del r3) r4=some (.cells 28 (exL z) 0):=by rw [Zqf _ d34.2]; exact hq4
      unfold exL at hd4;replace hrr:=ZpM hrr;replace hl:=ZpM hl
      (repeat' (first | (refine Zcj mixed (fun _ _ _ _ e h=>⟨e.trans h.1,h.2⟩) (hi1 (H2.set r3 (.cells 106 (stE p (c'+1) fu dd 0) 0)) ((H2.set r3 (.cells 106 (stE p (c'+1) fu dd 0) 0)).del r3)) (Zon _ _) ?_) | (simp only [↓Wq,↓Wg,↓XM,↓XN,↓WV,↓Wb,↓Xe,↓Yf,↓Yi,↓Yu,↓Yr,↓XJ,↓Ys,↓XK,↓Yt,↓YS,↓WZ,↓ZC,↓Xb,↓YA,↓YU,↓Wr,↓Jm,↓Zan,↓Yb,↓Xf,↓XP,↓XF,↓Ji,ptrV,Zp3,Zqa,Zqb,Zqh,ZqJ,ite_true,ite_false,ZpI,ZpJ,ZpT,Zqu,Zp1,ne_eq,not_false_eq_true,true_and,Zp7,decide_true,Bool.not_true,ZpU,ZM,fillV,setAt,Zqn,Zqv,Zqo,eq_self,Zp2,ZpL,and_self,ZqE,ZqF,Wi,XT,Jb,XS,Zg9,YT,Xi,Zqs,Zqy,ZpY,ZbA,XG,WY,ZcQ,ZaF,XH,ZbB,Xr,WO,WP,WQ,Zqi,ZH,List.replicate_succ,List.replicate_zero,List.flatten_cons,List.flatten_nil,ZM,ZH,Zc5,ZfK,Zc6,Zcy,hi1_0,hi1_1,hi1_2,hi1_3,hi1_4,hi1_5,hi1_6,hi1_7,hi1_8,hi1_9,hi1_10,hi1_11,Yj,ZR,ZZ,YO,Yq,Yd,Ye,ZW,Yn,Zaf,ZnM,ZU,JL,en_97,en_96, *]) | (refine ZpQ (hpu') ?_) | (with_reducible refine And.intro ?_ ?_)))
      ·exact fun k _ h=>h
      refine Zdd (hbo _) (fun c2 w hR=>?_) (fun k2 c2 d2 x2 hk2 hR=>?_)
      ·have hX3:X=appG p fu ev n c2 dd w l:=hX2.out _ hR;obtain ⟨g1,g2,g3⟩:=hpr _ _ _ _ _ _ _ hgd' hR;replace hX3:=ZpM hX3;clear hbo hX2 hR hpu'
       (repeat' (first | (simp only [↓Zz,ZA,ZI,ptrV,ZpI,ZpJ,ZpT,Zqu,setAt,ZpL,Zqi,ZiZ,Zc5,ZfK,Zc6,Zcy,hi1_14,hi1_15,Int.reduceToNat,YC,Zqz,Zp6,Xj,idxV,idxOk,imp_self,Yn,YE,ZU, *]) | (with_reducible refine And.intro ?_ ?_)))
       ·exact fun _ _=>trivial
       ·exact fun k hk _=>ZjO (by intro e; subst e; simp at hk) _ _
       ·omega
       ·exact hrr.out n _ _ (ZqK _) ⟨rfl,(by simp only [ZC,ZpI,if_false, *]<;>rfl),(by simp only [ZC,ZpI,if_false, *]<;>rfl),(by simp only [ZC,ZpI,if_false, *]<;>rfl),(by simp only [ZC,ZpI,if_false, *]<;>rfl),c2,dd,0,w.ex p,l,_,(hA.st (stE p c2 fu dd 0)).ex (exL (w.ex p)),(by simp only [ZC,ZpI,if_true,if_false, *]<;>rfl),hoka.2,hlul,hll,.inl ⟨rfl,rfl,by omega,g3,w,rfl,g1,hX3.out⟩⟩
      ·have hX3:X=.error k2:=hX2.out _ hR;replace hX3:=ZpM hX3;clear hbo hX2 hR hpu'
       (repeat' (first | (simp only [↓Zz,ZA,ZI,ptrV,ZpI,ZpJ,ZpT,Zqu,setAt,ZpL,Zqi,ZiZ,Zc5,ZfK,Zc6,Zcy,hi1_14,hi1_15,Int.reduceToNat,YC,Zqz,Zp6,Xj,idxV,idxOk,imp_self,Yn,YE,ZU, *]) | (with_reducible refine And.intro ?_ ?_)))
       ·exact fun _ _=>trivial
       ·exact fun k hk _=>ZjO (by intro e; subst e; simp at hk) _ _
       ·omega
       ·exact hrr.out n _ _ (ZqK _) ⟨rfl,(by simp only [ZC,ZpI,if_false, *]<;>rfl),(by simp only [ZC,ZpI,if_false, *]<;>rfl),(by simp only [ZC,ZpI,if_false, *]<;>rfl),(by simp only [ZC,ZpI,if_false, *]<;>rfl),c2,d2,k2,x2,l,_,(hA.st (stE p c2 fu d2 k2)).ex (exL x2),(by simp only [ZC,ZpI,if_true,if_false, *]<;>rfl),hoka.2,hlul,hll,.inr ⟨hk2,hX3.out⟩⟩
     ·have hX2:X=.error k:=by rw [hX'.out,hcn]
      rw [hX2];clear hX2 hX' hgd hcn hco hev hpr;have hok:=hA.st (stE p c1 fu dd k);clear hgt hrr hl;generalize (Val.clo x b ns vs).ex p=z at *
      (repeat' (first | (refine ZJ mixed (fun _ _ _ _ e h=>⟨e.trans h.1,h.2⟩) _ (sub2 (r:=r3) (r':=r4) hok.k3 hok.k4) ?_) | (refine sub2 (by simp only [ZpU, *,if_true,if_false]<;>rfl) (by simp only [ZpU, *,if_false]<;>rfl)) | (simp only [↓Wg,↓XM,↓XN,↓Xz,↓WX,↓Wb,↓Xe,↓Yf,↓Yi,↓Wa,↓ZbR,↓Yu,↓Yr,↓XJ,↓Ys,↓XK,↓Yt,↓YS,↓ZC,↓YA,↓YU,↓Wr,↓Yb,↓Ji,ptrV,Zqb,Zqh,ite_true,ite_false,ZpI,ZpJ,ZpT,ne_eq,not_false_eq_true,true_and,Zp7,decide_false,Bool.not_false,↓YV,↓YK,↓YL,ZpU,setAt,Zqn,Zqv,Zqo,eq_self,Zp2,ZpL,Wi,XT,Jb,XS,We,YT,Xi,Zqs,Zqy,ZpY,XG,WY,XH,Xr,WO,WP,WQ,↓Ws,↓WC,Zar,Yj,YO,Yq,Yd,Yn,YE, *]) | (with_reducible refine And.intro ?_ ?_)))
      exact Za3 (ri:=r6) (rj:=r7) (x:=.mk 5 x [b.putM true (outB x (bdL ns (ZL p vs)))]) hk (by simp only [ZC,ZpI,if_false, *]<;>rfl) (by simp only [ZC,ZpI,if_false, *]<;>rfl) (by rw [ZpV _ _ d67.1,ZpP]) (ZpP _ _ _) (by repeat (first | exact ZpN _ | assumption | refine ZpS ?_ (by assumption)))
   | part j hs2 =>
     obtain ⟨⟨hj,hhl,har⟩,hh⟩:=id hw
     change (hs2.length:Int)<arAt p j at har
     have hA':arAt p j=p.funs[j].arity:=by unfold arAt; rw [ZqC hj]
     have hA10:=hp.ar _ (ZpW hj);obtain ⟨la,hla⟩:∃ la:Nat,p.funs[j].arity-hs2.length=la:=⟨(p.funs[j].arity-hs2.length).toNat,by omega⟩
     have hla1:1≤la:=by omega
     have hla10:la≤10:=by omega
     have hwl:IntKind.i64.wrap (la:Int)=la:=ZK (n:=(la:Int)) (by omega) (by omega);have hfd:=Wy (l:=p.funs) hj;have hnm:=ZjN hj;have hfn:=ZgA p p.funs[j].name hp.nf;rw [Zoo hp.nd hj] at hfn;have hjl:(j:Int)<(p.funs.length:Int):=by omega
     have hsr:∀ H ex,srcV H 3 (.slice ex us.length (iV (a.ex p).op::sV (a.ex p).name::exsV (a.ex p).kids::encC exE (ZL p l)))=some (us.length,encC exE (ZL p us)):=fun H ex=>by
      rw [← hcs,← hel.out];exact Zex (enc:=exE) (k:=3) Zgc H ex _
     have hvt:(ZL p us).take la=ZL p (us.take la):=by rw [Xg,Xg,List.map_take]
     have hvd:(ZL p us).drop la=ZL p (us.drop la):=by rw [Xg,Xg,List.map_drop]
     have hsr2:la≤us.length→∀ H ex,srcV H 3 (.slice ex (la-0) (iV (a.ex p).op::sV (a.ex p).name::exsV (a.ex p).kids::encC exE (ZL p l)))=some (la,encC exE (ZL p (us.take la))):=fun hle H ex=>by
      have hlen:(encC exE (ZL p us)).length=us.length * 3:=by rw [ZbT (enc:=exE) (k:=3) Zgc,hel.out]
      rw [← hcs,Nat.sub_zero];simp only [srcV];rw [if_pos (by rw [hlen]; omega),ex_take',hvt]
     have hdr:ZpL (la * 3) (iV (a.ex p).op::sV (a.ex p).name::exsV (a.ex p).kids::encC exE (ZL p l))=encC exE (ZL p (us.drop la)):=by rw [← hcs,ex_drop',hvd]
     have hdl:us.length-la=(us.drop la).length:=by rw [ZqO]
     by_cases hh0:hs2.length=0
     ·obtain rfl:=ZqD hh0;have hxe:(Val.part j []).ex p=.mk 2 p.funs[j].name []:=by rw [Val.ex,if_pos (show ([]:List Val).length=0 from rfl),hnm]
      rw [hxe] at hA;replace k4:H' r4=some (.cells 28 [iV 2,sV p.funs[j].name,exsV []] 0):=hA.k4;simp only [Zqh] at hla;clear hxe;by_cases hlt:us.length<la
      ·have hlt':(us.length:Int)<(la:Int):=by omega
       have hX':X=.ok (c',.part j us):=by
        rw [hX,hl,appG,if_pos (by rw [← hl,hA']; simp only [Zqh]; omega)]; rfl
       rw [hX'];clear hX hrr hX' hev hpr;replace hl:=ZpM hl
       (repeat' (first | (refine ZJ mixed (fun _ _ _ _ e h=>⟨e.trans h.1,h.2⟩) _ (ZpN _) ?_) | (simp only [↓Wq,↓Wg,↓XM,↓XN,↓Xz,↓WV,↓XZ,↓Wb,↓Xe,↓Yf,↓Zag,↓JE,↓Yi,↓Yu,↓Yr,↓XJ,↓Ys,↓XK,↓Yt,↓YS,↓WZ,↓ZC,↓Xb,↓YH,↓Jh,↓Zah,↓Zbn,↓YA,↓YU,↓Wr,↓Wv,↓Jm,↓Zan,↓Yb,↓Xf,↓Jn,↓XP,↓XF,↓Zd0,↓Zcu,↓Wm,↓WA,↓XA,↓Zch,ptrV,intV,Zp3,Zqa,Zqb,Zqh,ZqJ,ite_true,ite_false,ZpI,ZpJ,ZpT,Zqu,Zp1,ne_eq,not_false_eq_true,true_and,Zp7,decide_true,decide_false,reduceCtorEq,ZqU,ZqN,↓YV,↓YK,↓YL,↓Zku,ZpU,Zqj,ZM,fillV,setAt,Zqn,Zqv,Zqo,eq_self,Zp2,ZqB,ZpL,and_self,ZqE,ZqF,Wi,ZfJ,XT,Zap,XS,Zg9,We,YT,Xi,Zqs,Zqy,↓Ww,XW,ZpY,ZbA,XG,WY,ZcQ,ZaF,Zb2,XH,ZbB,Xr,WO,WP,WQ,↓Ws,↓WC,Zp5,ZH,List.replicate_succ,List.replicate_zero,List.flatten_cons,List.flatten_nil,ZqN,ZM,ZH,Yj,ZO,ZZ,Zbm,Xp,JQ,YO,ZQ,ZW,WS,Xn,ZaB,Zcr,Zeo,ZaW,Yc,ZU,Wp,Zcc, *]) | (refine And.intro (ZpR (by assumption)) ?_) | (refine ZB fun zr zh=>?_; have zg:=zh; (try simp only [ZpO] at zg); (try have zn_k3:=ZpK k3 zh); (try have zn_k3:=ZpK k3 zg.2); (try have zn_k3:=ZpK k3 zg.2.2); (try have zn_k4:=ZpK k4 zh); (try have zn_k4:=ZpK k4 zg.2); (try have zn_k4:=ZpK k4 zg.2.2); (try have zn_k6:=ZpK k6 zh); (try have zn_k6:=ZpK k6 zg.2); (try have zn_k6:=ZpK k6 zg.2.2); (try have zn_k7:=ZpK k7 zh); (try have zn_k7:=ZpK k7 zg.2); (try have zn_k7:=ZpK k7 zg.2.2)) | (exact ZpN _) | (refine ZpQ (hfn) ?_) | (with_reducible refine And.intro ?_ ?_)))
       all_goals
        have hB:=hA.alloc zh (.cells 67 [sV p.funs[j].name,iV p.funs[j].arity,clsV p.funs[j].cls] 0);refine Jl ZU Yc rfl (by omega) rfl (m:=0) (news:=[]) rfl rfl (by omega) (by omega) (fun _=>?_) (fun h=>absurd rfl h)
        (repeat' (first | (refine ZJ mixed (fun _ _ _ _ e h=>⟨e.trans h.1,h.2⟩) _ (sub1 (r:=r3) hB.k3) ?_) | (simp only [↓XM,↓Wb,↓Xe,↓Yf,↓Yi,↓Yu,↓Yr,↓Ys,↓Yt,↓ZC,↓Xb,↓YH,↓YA,↓Jn,↓Zcu,ptrV,Zp3,Zqa,ite_true,ite_false,ZpI,ZpJ,true_and,Zp7,↓YK,↓YL,ZpU,eq_self,ZpL,Jb,XG,XH,Xr,↓Ws,Zar,Yq, *])))
        refine Jl ZU Yc rfl (by omega) rfl (hsr _ _) (ZeN _) (by omega) (by omega) (fun h=>absurd h hz) (fun _ v' H5 ho=>?_);have c6:=ho.cells.1;have c7:=ho.cells.2;have q3:=ho.sub _ _ hB.k3;have q6:=ho.sub _ _ hB.k6;have q7:=ho.sub _ _ hB.k7
        (repeat' (first | (refine sub1 q3) | (refine sub1 (by simp only [ZpU, *,if_false]<;>rfl)) | (simp only [↓WX,↓Xe,↓Yf,↓Yi,↓Wa,↓ZbR,↓Yu,↓Yr,↓XJ,↓Ys,↓XK,↓Yt,↓YS,↓ZC,↓YU,↓Jm,ptrV,Zp3,Zqa,Zqb,Zqh,ite_true,ite_false,ZpI,ZpJ,ZpT,Zp1,true_and,Zp7,↓YV,↓YK,↓YL,ZpU,ZM,fillV,setAt,Zqn,Zqv,Zqo,eq_self,Zp2,and_self,ZqE,ZqF,Zap,XS,We,YT,Xi,Zqs,Zqy,ZpY,WP,WQ,↓Ws,↓WC,ZM,Yn,YE,Zcr, *]) | (with_reducible refine And.intro ?_ ?_)))
        exact Zop (v':=v') (m:=us.length) (es:=ZL p us) (nm:=p.funs[j].name) (by rw [Val.ex,if_neg hz,hnm]) hel.out ((ho.put hB.k6 (.cells 106 (stE p c' fu dd 0) 0)).put (show AH.set _ _ _ r7=_ by rw [ZpV _ _ d67.2]; exact hB.k7) (.cells 28 [iV 4,sV ⟨#[]⟩,v'] 0)) ((hB.hs.of_set f6).of_set f7) (by simp only [ZC,ZpI,if_false, *]<;>rfl) (by simp only [ZC,ZpI,if_false, *]<;>rfl) (by rw [ZpV _ _ d67.1,ZpP]) (ZpP _ _ _)
      ·have hlt':¬ (us.length:Int)<(la:Int):=by omega
       have hle:la≤us.length:=by omega
       have hX':∀ R,callG p fu ev c' dd j (us.take la)=R→X=match R with | .error k=>.error k | .ok (c2,w)=>appG p fu ev n c2 dd w (us.drop la):=fun R hR=>by
        have e1:(arAt p j-(([]:List Val).length:Int)).toNat=la:=by rw [hA']; simp only [Zqh]; omega
        rw [hX,hl,appG,if_neg (by rw [← hl,hA']; simp only [Zqh]; omega),e1,← hl,List.nil_append,hR];cases R<;>rfl
       have htl:(us.take la).length=la:=by rw [ZqI]; omega
       have hca:=fun H=>Zix hp hev (d:=dd) hj (us:=us.take la) (by omega) (Zaa hu la) (by rw [htl]; omega) hd ⟨by omega,hcf⟩ hfu (by omega) H
       have hpr':=fun c2 w h=>ZdH hp hpr (us:=us.take la) (c:=c') (d:=dd) (Zaa hu la) (by rw [htl,hA']; omega) ⟨by omega,hcf⟩ (c':=c2) (v:=w) h
       have hud:=ZbU hu la;have hsr2:=hsr2 hle;have hll:(us.drop la).length≤n:=by rw [ZqO]; omega
       have hlul:(us.drop la).length≤1099511627776:=by rw [ZqO]; omega
       replace hX':=ZpM hX';replace hrr:=ZpM hrr;replace hl:=ZpM hl;clear hX hev hpr hsr
       (repeat' (first | (simp only [↓Zz,ZA,ptrV,intV,ZpI,ZpJ,ZpT,Zqu,Zp1,reduceCtorEq,fillV,setAt,ZpL,Zp5,ZH,YC,Zqz,Zp6,Xj,idxV,idxOk,ZH,Yj,ZO,ZZ,Zbm,Xp,JQ,YO,ZQ,ZW,WS,Xn,ZaB,Zeo,ZaW,Yc,ZU,Wp,Zcc, *]) | (refine ZJ mixed (fun _ _ _ _ e h=>⟨e.trans h.1,h.2⟩) _ (ZpN _) ?_) | (refine And.intro (ZpR (by assumption)) ?_) | (refine ZB fun zr zh=>?_; have zg:=zh; (try simp only [ZpO] at zg); (try have zn_k3:=ZpK k3 zh); (try have zn_k3:=ZpK k3 zg.2); (try have zn_k3:=ZpK k3 zg.2.2); (try have zn_k4:=ZpK k4 zh); (try have zn_k4:=ZpK k4 zg.2); (try have zn_k4:=ZpK k4 zg.2.2); (try have zn_k6:=ZpK k6 zh); (try have zn_k6:=ZpK k6 zg.2); (try have zn_k6:=ZpK k6 zg.2.2); (try have zn_k7:=ZpK k7 zh); (try have zn_k7:=ZpK k7 zg.2); (try have zn_k7:=ZpK k7 zg.2.2)) | (exact ZpN _) | (refine ZpQ (hfn) ?_) | (with_reducible refine And.intro ?_ ?_)))
       any_goals exact fun h=>h.elim
       any_goals omega
       all_goals
        have hB:=hA.alloc zh (.cells 67 [sV p.funs[j].name,iV p.funs[j].arity,clsV p.funs[j].cls] 0);refine (OutE.start (ZpN _)).append ZU Yc rfl (by omega) (m:=0) (news:=[]) rfl rfl (by omega) (by omega) (fun _=>rfl) (fun v1 H5 ho1=>?_);have hos1:=ho1.sub
        (repeat' (first | (simp only [↓Zz,ZA,ZpI,ZpJ, *])))
        refine ho1.append ZU Yc rfl (by omega) (hsr2 _ _) (ZeN _) (by omega) (by omega) (fun h=>by omega) (fun v2 H6 ho2=>?_);have c6:=ho2.cells.1;have c7:=ho2.cells.2;have q3:=ho2.sub _ _ hB.k3;have q4:=ho2.sub _ _ hB.k4;have q10:=ho2.sub _ _ (ZpP _ _ _)
        have hbk:GhV H6 v2 (H'.set zr (.cells 67 [sV p.funs[j].name,iV p.funs[j].arity,clsV p.funs[j].cls] 0)) (exsV (ZL p (us.take la))):=by
         have:=ho2.back
         show GhV _ _ _ (encS exE _);rw [encS,Xu,htl];simpa using this
        replace hbk:=ZpM hbk;clear ho1 ho2 hos1
        (repeat' (first | (simp only [↓Zz,ZA,ptrV,ZpI,ZpJ,ZpL,YC,Zqz,Zp6,Xj,idxV,idxOk,imp_self,Yq,ZaB,ZU,en_57, *])))
        refine Yy (ZpZ (Zp8 _ _) (ZpZ (Zp8 _ _) (ZpZ hbk.out (GhL.nil _)))) ?_;refine Zdd (hca _) (fun c2 w hR=>?_) (fun k2 c2 d2 x2 hk2 hR=>?_)
        ·have hX3:X=appG p fu ev n c2 dd w (us.drop la):=hX'.out _ hR;obtain ⟨g1,g2,g3⟩:=hpr' _ _ hR;replace hX3:=ZpM hX3;have hq3:=hB.k3;have hq4:=hB.k4;clear hca hX' hR hpr' hbk q3 q4 q10
         (repeat' (first | (simp only [↓Zz,ZA,ZI,ptrV,ZpI,ZpJ,ZpT,setAt,Yn,YE, *])))
         exact hrr.out n _ _ (ZqK _) ⟨rfl,(by simp only [ZC,ZpI,if_false, *]<;>rfl),(by simp only [ZC,ZpI,if_false, *]<;>rfl),(by simp only [ZC,ZpI,if_false, *]<;>rfl),(by simp only [ZC,ZpI,if_false, *]<;>rfl),c2,dd,0,w.ex p,us.drop la,_,(hB.st (stE p c2 fu dd 0)).ex (exL (w.ex p)),(by simp only [ZC,ZpI,if_true,if_false, *]<;>rfl),hud,hlul,hll,.inl ⟨rfl,rfl,by omega,g3,w,rfl,g1,hX3.out⟩⟩
        ·have hX3:X=.error k2:=hX'.out _ hR;replace hX3:=ZpM hX3;have hq3:=hB.k3;have hq4:=hB.k4;clear hca hX' hR hpr' hbk q3 q4 q10
         (repeat' (first | (simp only [↓Zz,ZA,ZI,ptrV,ZpI,ZpJ,ZpT,setAt,Yn,YE, *])))
         exact hrr.out n _ _ (ZqK _) ⟨rfl,(by simp only [ZC,ZpI,if_false, *]<;>rfl),(by simp only [ZC,ZpI,if_false, *]<;>rfl),(by simp only [ZC,ZpI,if_false, *]<;>rfl),(by simp only [ZC,ZpI,if_false, *]<;>rfl),c2,d2,k2,x2,us.drop la,_,(hB.st (stE p c2 fu d2 k2)).ex (exL x2),(by simp only [ZC,ZpI,if_true,if_false, *]<;>rfl),hud,hlul,hll,.inr ⟨hk2,hX3.out⟩⟩
     ·have hel2:(ZL p hs2).length=hs2.length:=Xu p hs2;have hxe:(Val.part j hs2).ex p=.mk 4 noNm (.mk 2 p.funs[j].name []::ZL p hs2):=by rw [Val.ex,if_neg hh0,hnm]
      have hfl:=rflat_id (nm:=noNm) (k:=.mk 2 p.funs[j].name []) (ks:=ZL p hs2) (show ¬ (2:Int)=4 by decide)
      have hex4:exL (.mk 4 noNm (.mk 2 p.funs[j].name []::ZL p hs2))=[iV 4,sV noNm,.slice false (hs2.length+1) (iV 2::sV p.funs[j].name::.slice false 0 []::encC exE (ZL p hs2))]:=by
       show [iV 4,sV noNm,encS exE (.mk 2 p.funs[j].name []::ZL p hs2)]=_;rw [encS,ZbP,Zqb,hel2]; rfl
      have hexv:exV (.mk 4 noNm (.mk 2 p.funs[j].name []::ZL p hs2))=.agg [iV 4,sV noNm,.slice false (hs2.length+1) (iV 2::sV p.funs[j].name::.slice false 0 []::encC exE (ZL p hs2))]:=by rw [← hex4]
      rw [hexv] at hfl;rw [hxe] at hA;replace k4:=hA.k4;rw [hex4] at k4 hA;have hd2:ZpL (Int.toNat 0 * 3) (iV 2::sV p.funs[j].name::VV.slice false 0 []::encC exE (ZL p hs2))=iV 2::sV p.funs[j].name::VV.slice false 0 []::encC exE (ZL p hs2):=rfl;obtain ⟨mh,hmh⟩:∃ mh,mh=hs2.length+1:=⟨_,rfl⟩
      have hm0:(0:Int)<(mh:Int):=by omega
      have hm1:1≤mh:=by omega
      have hmm:mh-1=hs2.length:=by omega
      rw [← hmh] at hfl k4 hA
      have hsr8:∀ H ex,srcV H 3 (.slice ex hs2.length (encC exE (ZL p hs2)))=some (hs2.length,encC exE (ZL p hs2)):=fun H ex=>by
       have:=Zex (enc:=exE) (k:=3) Zgc H ex (ZL p hs2)
       rwa [hel2] at this
      replace hmh:=ZpM hmh;replace hel2:=ZpM hel2;clear hxe hex4 hexv;by_cases hlt:us.length<la
      ·have hlt':(us.length:Int)<(la:Int):=by omega
       have hX':X=.ok (c',.part j (hs2++us)):=by
        rw [hX,hl,appG,if_pos (by rw [← hl,hA']; omega)]
       rw [hX'];clear hX hrr hX' hev hpr;replace hl:=ZpM hl
       (repeat' (first | (refine ZJ mixed (fun _ _ _ _ e h=>⟨e.trans h.1,h.2⟩) _ (ZpN _) ?_) | (simp only [↓Wq,↓Wg,↓XM,↓XN,↓Xz,↓WV,↓XZ,↓Wb,↓Xe,↓Yf,↓Zag,↓JE,↓Yi,↓Yu,↓Yr,↓XJ,↓Ys,↓XK,↓Yt,↓YS,↓WZ,↓ZC,↓Xb,↓YH,↓Jh,↓Zah,↓Zbn,↓YA,↓YU,↓Wr,↓Wv,↓Jm,↓Zan,↓ZnT,↓Yb,↓Xf,↓Jn,↓XP,↓XF,↓Zd0,↓Zcu,↓Wm,↓WA,↓XA,↓Zch,ptrV,intV,Zp3,Zqa,Zqb,Zqh,ZqJ,ite_true,ite_false,ZpI,ZpJ,ZpT,Zqu,Zp1,ne_eq,not_false_eq_true,not_true_eq_false,true_and,List.drop_succ_cons,ZqL,Zp7,decide_true,decide_false,Bool.false_and,reduceCtorEq,ZqU,ZqN,↓YV,↓YK,↓YL,↓Zku,ZpU,Zqj,ZM,fillV,setAt,Zqn,Zqv,Zqo,eq_self,Zp2,ZqB,ZpL,and_self,ZqE,ZqF,Wi,ZfJ,XT,Zap,XS,Zg9,We,YT,Xi,Zqs,Zqy,↓Ww,XW,ZpY,ZbA,XG,Zja,WY,ZcQ,ZaF,Zb2,XH,ZbB,Xr,WO,WP,WQ,↓Ws,↓WC,Zp5,Zqi,ZH,List.replicate_succ,List.replicate_zero,List.flatten_cons,List.flatten_nil,Int.reduceToNat,ZqN,YC,Zqz,Zp6,Xj,idxV,idxOk,imp_self,ZM,ZH,Yj,ZO,ZR,ZZ,Zbm,Xp,JQ,YO,ZQ,Yd,Ye,ZW,WS,Xn,ZaB,YE,Zcr,Zeo,ZaW,Yc,ZU,Wp,en_72,Zcc, *]) | (refine And.intro (ZpR (by assumption)) ?_) | (refine ZB fun zr zh=>?_; have zg:=zh; (try simp only [ZpO] at zg); (try have zn_k3:=ZpK k3 zh); (try have zn_k3:=ZpK k3 zg.2); (try have zn_k3:=ZpK k3 zg.2.2); (try have zn_k4:=ZpK k4 zh); (try have zn_k4:=ZpK k4 zg.2); (try have zn_k4:=ZpK k4 zg.2.2); (try have zn_k6:=ZpK k6 zh); (try have zn_k6:=ZpK k6 zg.2); (try have zn_k6:=ZpK k6 zg.2.2); (try have zn_k7:=ZpK k7 zh); (try have zn_k7:=ZpK k7 zg.2); (try have zn_k7:=ZpK k7 zg.2.2)) | (exact ZpN _) | (refine ZpQ (hfn) ?_) | (refine ZpQ (hfl) ?_) | (with_reducible refine And.intro ?_ ?_)))
       all_goals
        have hB:=(hA.ex [iV 4,sV noNm,.slice false mh (iV 2::sV p.funs[j].name::.slice false 0 []::encC exE (ZL p hs2))]).alloc zh (.cells 67 [sV p.funs[j].name,iV p.funs[j].arity,clsV p.funs[j].cls] 0);refine Jl ZU Yc rfl (by omega) rfl (hsr8 _ _) (ZeN _) (by omega) (by omega) (fun h=>absurd h hh0) (fun _ v1 H5 ho1=>?_);have c6:=ho1.cells.1;have c7:=ho1.cells.2;have q3:=ho1.sub _ _ hB.k3
        (repeat' (first | (refine ZJ mixed (fun _ _ _ _ e h=>⟨e.trans h.1,h.2⟩) _ (sub1 (r:=r3) q3) ?_) | (simp only [↓XM,↓Wb,↓Xe,↓Yf,↓Yi,↓Yu,↓Yr,↓Ys,↓Yt,↓ZC,↓Xb,↓YH,↓YA,↓Jn,↓Zcu,ptrV,Zp3,Zqa,ite_true,ite_false,ZpI,ZpJ,true_and,Zp7,↓YK,↓YL,ZpU,eq_self,ZpL,Jb,XG,XH,Xr,↓Ws,Zar,Yq, *])))
        refine ZcR ZU Yc rfl (by omega) ho1 (hsr _ _) (ZeN _) (by omega) (by omega) (fun v2 H6 ho=>?_);have c8:=ho.cells.1;have c9:=ho.cells.2;have w3:=ho.sub _ _ hB.k3;have w6:=ho.sub _ _ hB.k6;have w7:=ho.sub _ _ hB.k7;have ho':=ho;rw [List.append_assoc,← Yl,Nat.add_assoc] at ho';clear ho1 q3 ho
        (repeat' (first | (refine sub1 w3) | (refine sub1 (by simp only [ZpU, *,if_false]<;>rfl)) | (simp only [↓WX,↓Xe,↓Yf,↓Yi,↓Wa,↓ZbR,↓Yu,↓Yr,↓XJ,↓Ys,↓XK,↓Yt,↓YS,↓ZC,↓YU,↓Jm,ptrV,Zp3,Zqa,Zqb,Zqh,ite_true,ite_false,ZpI,ZpJ,ZpT,Zp1,true_and,Zp7,↓YV,↓YK,↓YL,ZpU,ZM,fillV,setAt,Zqn,Zqv,Zqo,eq_self,Zp2,and_self,ZqE,ZqF,Zap,XS,We,YT,Xi,Zqs,Zqy,ZpY,WP,WQ,↓Ws,↓WC,ZM,Yn,YE,Zcr, *]) | (with_reducible refine And.intro ?_ ?_)))
        exact Zop (v':=v2) (m:=hs2.length+us.length) (es:=ZL p hs2++ZL p us) (nm:=p.funs[j].name) (by rw [Val.ex,if_neg (by rw [Zqt]; omega),hnm,Xg,List.map_append,← Xg,← Xg]) (by rw [Zqt,hel.out,hel2.out]) ((ho'.put hB.k6 (.cells 106 (stE p c' fu dd 0) 0)).put (show AH.set _ _ _ r7=_ by rw [ZpV _ _ d67.2]; exact hB.k7) (.cells 28 [iV 4,sV ⟨#[]⟩,v2] 0)) ((hB.hs.of_set f6).of_set f7) (by simp only [ZC,ZpI,if_false, *]<;>rfl) (by simp only [ZC,ZpI,if_false, *]<;>rfl) (by rw [ZpV _ _ d67.1,ZpP]) (ZpP _ _ _)
      ·have hlt':¬ (us.length:Int)<(la:Int):=by omega
       have hle:la≤us.length:=by omega
       have hX':∀ R,callG p fu ev c' dd j (hs2++us.take la)=R→X=match R with | .error k=>.error k | .ok (c2,w)=>appG p fu ev n c2 dd w (us.drop la):=fun R hR=>by
        have e1:(arAt p j-(hs2.length:Int)).toNat=la:=by omega
        rw [hX,hl,appG,if_neg (by rw [← hl,hA']; omega),e1,← hl,hR];cases R<;>rfl
       have htl:(hs2++us.take la).length=hs2.length+la:=by rw [Zqt,ZqI]; omega
       have hoka:YP p (hs2++us.take la):=Jc.2 ⟨hh,Zaa hu la⟩;have hca:=fun H=>Zix hp hev (d:=dd) hj (us:=hs2++us.take la) (by omega) hoka (by rw [htl]; omega) hd ⟨by omega,hcf⟩ hfu (by omega) H
       have hpr':=fun c2 w h=>ZdH hp hpr (us:=hs2++us.take la) (c:=c') (d:=dd) hoka (by rw [htl,hA']; omega) ⟨by omega,hcf⟩ (c':=c2) (v:=w) h
       have hud:=ZbU hu la;have hsr2:=hsr2 hle;have hll:(us.drop la).length≤n:=by rw [ZqO]; omega
       have hlul:(us.drop la).length≤1099511627776:=by rw [ZqO]; omega
       replace hX':=ZpM hX';replace hrr:=ZpM hrr;replace hl:=ZpM hl;clear hX hev hpr hsr
       (repeat' (first | (simp only [↓Zz,ZA,ptrV,intV,ZpI,ZpJ,ZpT,Zqu,Zp1,reduceCtorEq,fillV,setAt,ZpL,Zp5,Zqi,ZH,Int.reduceToNat,YC,Zqz,Zp6,Xj,idxV,idxOk,imp_self,ZH,Yj,ZO,ZR,ZZ,Zbm,Xp,JQ,YO,ZQ,Yd,Ye,ZW,WS,Xn,ZaB,YE,Zeo,ZaW,Yc,ZU,Wp,en_72,Zcc, *]) | (refine ZJ mixed (fun _ _ _ _ e h=>⟨e.trans h.1,h.2⟩) _ (ZpN _) ?_) | (refine And.intro (ZpR (by assumption)) ?_) | (refine ZB fun zr zh=>?_; have zg:=zh; (try simp only [ZpO] at zg); (try have zn_k3:=ZpK k3 zh); (try have zn_k3:=ZpK k3 zg.2); (try have zn_k3:=ZpK k3 zg.2.2); (try have zn_k4:=ZpK k4 zh); (try have zn_k4:=ZpK k4 zg.2); (try have zn_k4:=ZpK k4 zg.2.2); (try have zn_k6:=ZpK k6 zh); (try have zn_k6:=ZpK k6 zg.2); (try have zn_k6:=ZpK k6 zg.2.2); (try have zn_k7:=ZpK k7 zh); (try have zn_k7:=ZpK k7 zg.2); (try have zn_k7:=ZpK k7 zg.2.2)) | (exact ZpN _) | (refine ZpQ (hfn) ?_) | (refine ZpQ (hfl) ?_) | (with_reducible refine And.intro ?_ ?_)))
       any_goals exact fun h=>h.elim
       any_goals omega
       all_goals
        have hB:=(hA.ex [iV 4,sV noNm,.slice false mh (iV 2::sV p.funs[j].name::.slice false 0 []::encC exE (ZL p hs2))]).alloc zh (.cells 67 [sV p.funs[j].name,iV p.funs[j].arity,clsV p.funs[j].cls] 0);refine (OutE.start (ZpN _)).append ZU Yc rfl (by omega) (hsr8 _ _) (ZeN _) (by omega) (by omega) (fun h=>absurd h hh0) (fun v1 H5 ho1=>?_);have hos1:=ho1.sub
        (repeat' (first | (simp only [↓Zz,ZA,ZpI,ZpJ, *])))
        refine ho1.append ZU Yc rfl (by omega) (hsr2 _ _) (ZeN _) (by omega) (by omega) (fun h=>by omega) (fun v2 H6 ho2=>?_);have c6:=ho2.cells.1;have c7:=ho2.cells.2;have q3:=ho2.sub _ _ hB.k3;have q4:=ho2.sub _ _ hB.k4;have q10:=ho2.sub _ _ (ZpP _ _ _);have hbk:=ho2.back
        have hvv:VV.slice false (0+hs2.length+la) ([]++encC exE (ZL p hs2)++encC exE (ZL p (us.take la)))=exsV (ZL p (hs2++us.take la)):=by
         show _=encS exE _;rw [encS,Xu,htl,Xg p (hs2++us.take la),List.map_append,← Xg,← Xg,Yl,List.nil_append,Zp2]
        rw [hvv] at hbk;replace hbk:=ZpM hbk;clear ho1 ho2 hos1 hvv
        (repeat' (first | (simp only [↓Zz,ZA,ptrV,ZpI,ZpJ,ZpL,YC,Zqz,Zp6,Xj,idxV,idxOk,imp_self,Yq,ZaB,ZU,en_57, *])))
        refine Yy (ZpZ (Zp8 _ _) (ZpZ (Zp8 _ _) (ZpZ hbk.out (GhL.nil _)))) ?_;refine Zdd (hca _) (fun c2 w hR=>?_) (fun k2 c2 d2 x2 hk2 hR=>?_)
        ·have hX3:X=appG p fu ev n c2 dd w (us.drop la):=hX'.out _ hR;obtain ⟨g1,g2,g3⟩:=hpr' _ _ hR;replace hX3:=ZpM hX3;have hq3:=hB.k3;have hq4:=hB.k4;clear hca hX' hR hpr' hbk q3 q4 q10
         (repeat' (first | (simp only [↓Zz,ZA,ZI,ptrV,ZpI,ZpJ,ZpT,setAt,Yn,YE, *])))
         exact hrr.out n _ _ (ZqK _) ⟨rfl,(by simp only [ZC,ZpI,if_false, *]<;>rfl),(by simp only [ZC,ZpI,if_false, *]<;>rfl),(by simp only [ZC,ZpI,if_false, *]<;>rfl),(by simp only [ZC,ZpI,if_false, *]<;>rfl),c2,dd,0,w.ex p,us.drop la,_,(hB.st (stE p c2 fu dd 0)).ex (exL (w.ex p)),(by simp only [ZC,ZpI,if_true,if_false, *]<;>rfl),hud,hlul,hll,.inl ⟨rfl,rfl,by omega,g3,w,rfl,g1,hX3.out⟩⟩
        ·have hX3:X=.error k2:=hX'.out _ hR;replace hX3:=ZpM hX3;have hq3:=hB.k3;have hq4:=hB.k4;clear hca hX' hR hpr' hbk q3 q4 q10
         (repeat' (first | (simp only [↓Zz,ZA,ZI,ptrV,ZpI,ZpJ,ZpT,setAt,Yn,YE, *])))
         exact hrr.out n _ _ (ZqK _) ⟨rfl,(by simp only [ZC,ZpI,if_false, *]<;>rfl),(by simp only [ZC,ZpI,if_false, *]<;>rfl),(by simp only [ZC,ZpI,if_false, *]<;>rfl),(by simp only [ZC,ZpI,if_false, *]<;>rfl),c2,d2,k2,x2,us.drop la,_,(hB.st (stE p c2 fu d2 k2)).ex (exL x2),(by simp only [ZC,ZpI,if_true,if_false, *]<;>rfl),hud,hlul,hll,.inr ⟨hk2,hX3.out⟩⟩
 ·rw [hX];clear hX hrr hev hpr;have hk0':=ZpM hk0;by_cases hz:(0:Int)<(us.length:Int)
  ·(repeat' (first | (simp only [↓Zz,ZA,ptrV,ZpI,ZpJ,ZN,ZD,ZpL,undef,Yj,YO, *])))
   refine ZV rfl (fun _ _ _ h=>h) ?_;delta Zpy Zb Zg
   (repeat' (first | (refine ZJ mixed (fun _ _ _ _ e h=>⟨e.trans h.1,h.2⟩) _ (sub2 (r:=r3) (r':=r4) k3 k4) ?_) | (refine sub2 (by simp only [ZpU, *,if_false]<;>rfl) (by simp only [ZpU, *,if_false]<;>rfl)) | (simp only [↓WX,↓Xe,↓Yf,↓Yi,↓Yu,↓Yr,↓XJ,↓Ys,↓XK,↓Yt,↓ZC,↓YA,↓YU,ptrV,Zqb,Zqh,ite_true,ite_false,ZpI,ZpJ,ZpT,true_and,Zp7,↓YV,↓YK,↓YL,ZpU,setAt,Zqn,Zqv,Zqo,eq_self,Zp2,ZpL,XT,Jb,XS,We,YT,Xi,Zqs,Zqy,ZpY,XG,XH,Xr,WP,WQ,↓Ws,↓WC,Zar,Yq,Yd,Yn,YE, *]) | (with_reducible refine And.intro ?_ ?_)))
   exact Za3 (ri:=r6) (rj:=r7) (x:=x) hk0'.out (by simp only [ZC,ZpI,if_false, *]<;>rfl) (by simp only [ZC,ZpI,if_false, *]<;>rfl) (by rw [ZpV _ _ d67.1,ZpP]) (ZpP _ _ _) (by repeat (first | exact ZpN _ | assumption | refine ZpS ?_ (by assumption)))
  ·(repeat' (first | (simp only [↓Zz,ZA,ptrV,ZpI,ZpJ,ZN,ZD,ZpL,undef,Yj,YO, *])))
   refine ZV rfl (fun _ _ _ h=>h) ?_;delta Zpy Zb Zg
   (repeat' (first | (refine ZJ mixed (fun _ _ _ _ e h=>⟨e.trans h.1,h.2⟩) _ (sub2 (r:=r3) (r':=r4) k3 k4) ?_) | (refine sub2 (by simp only [ZpU, *,if_false]<;>rfl) (by simp only [ZpU, *,if_false]<;>rfl)) | (simp only [↓WX,↓Xe,↓Yf,↓Yi,↓Yu,↓Yr,↓XJ,↓Ys,↓XK,↓Yt,↓ZC,↓YA,↓YU,ptrV,Zqb,Zqh,ite_true,ite_false,ZpI,ZpJ,ZpT,true_and,Zp7,↓YV,↓YK,↓YL,ZpU,setAt,Zqn,Zqv,Zqo,eq_self,Zp2,ZpL,XT,Jb,XS,We,YT,Xi,Zqs,Zqy,ZpY,XG,XH,Xr,WP,WQ,↓Ws,↓WC,Zar,Yq,Yd,Yn,YE, *]) | (with_reducible refine And.intro ?_ ?_)))
   exact Za3 (ri:=r6) (rj:=r7) (x:=x) hk0'.out (by simp only [ZC,ZpI,if_false, *]<;>rfl) (by simp only [ZC,ZpI,if_false, *]<;>rfl) (by rw [ZpV _ _ d67.1,ZpP]) (ZpP _ _ _) (by repeat (first | exact ZpN _ | assumption | refine ZpS ?_ (by assumption)))
end Go.PV.YtglpmlbbaedbiaaGreat
end
section
open Bool renaming and_self→Zqo
open Go.PV.AH renaming get→ZpU,set_none→ZpO,set_ne→ZpV,set_same→ZpP,set_set→Zqj,ne_of→ZpK
open Go.PV.GhL renaming cons→ZpZ
open Go.PV.GhV renaming refl→Zp8
open Go.PV.Hold renaming mk→ZpM
open Go.PV.PureF renaming use→ZpQ
open Go.PV.SubH renaming refl→ZpN,of_set→ZpS,none→Zqp
open Int renaming reduceLE→Zqi,reduceEq→Zp5,toNat_natCast→ZqN
open List renaming drop→ZpL,length_cons→Zqb,length_nil→Zqh,getD_cons_succ→Zqw,getD_nil→Zqx,all_cons→Zqn,all_nil→Zqv,set_cons_zero→Zqs,set_cons_succ→Zqy,map_cons→Zp3,map_nil→Zqa,getElem_mem→ZpW,getElem?_cons_zero→ZqE,getElem?_cons_succ→ZqF
open Nat renaming reduceEqDiff→ZpI,reduceLT→ZpJ,reduceAdd→ZpT,succ_ne_self→Zp7,zero_add→Zp2,le_refl→ZpY,add_zero→ZqB,reduceLeDiff→Zp1,reduceMul→Zqu
open Option renaming map_none→Zqz,map_some→Zp6
set_option maxRecDepth 20000
set_option maxHeartbeats 4000000
namespace Go.PV.YtglpmlbbaedbiaaGreat
open Go Go.Proofs
theorem Zhf {p:Pr} {H:AH} {c fu d:Int} {E:List VV} {r2 r3 r4 zr:Nat} (f2:H r2=none) (f3:H r3=none) (f4:H r4=none) (f5:H zr=none) (d23:¬ r2=r3∧¬ r3=r2) (d24:¬ r2=r4∧¬ r4=r2) (d34:¬ r3=r4∧¬ r4=r3) (d25:¬ r2=zr∧¬ zr=r2) (d35:¬ r3=zr∧¬ zr=r3) (d45:¬ r4=zr∧¬ zr=r4):ApB p H ((((H.set r2 (.cells 106 (stE p c fu d 0) 0)).set r3 (.cells 28 E 0)).set r4 (.cells 106 zS 0)).set zr (.cells 28 zX 0)) r2 r3 r4 zr (stE p c fu d 0) E:=by
 exact ⟨f2,f3,f4,f5,d23,d24,d25,d34,d35,d45,(by simp only [ZpU, *,if_true,if_false]<;>rfl),(by simp only [ZpU, *,if_true,if_false]<;>rfl),(by simp only [ZpU, *,if_true,if_false]<;>rfl),(by simp only [ZpU, *,if_true,if_false]<;>rfl),(by repeat (first | exact ZpN _ | assumption | refine ZpS ?_ (by assumption)))⟩
theorem ZmG {p:Pr} {ns:List ByteArray} {vs:List Val} {s:ByteArray} {v:Val} (h:findV ns vs s=some v):lastB (bdL ns (ZL p vs)) s=some (v.ex p):=by
 rw [EnvR.of p ns vs s,Zns,h]; rfl
theorem put_node {p:Pr} {e:Ex} {ns:List ByteArray} {vs:List Val} (hg:e.sdF p ns=0) (hen:EnvOk p (ns,vs)) :
 (e.op=1→∀ v,findV ns vs e.name=some v→e.putM true (bdL ns (ZL p vs))=.mk 9 noNm [v.ex p]) ∧
 (¬ e.op=1→e.putM true (bdL ns (ZL p vs))=.mk e.op e.name (e.kids.map (·.putM true (if e.op=5 then outB e.name (bdL ns (ZL p vs)) else bdL ns (ZL p vs))))):=by
 have h9:¬ (true=true∧e.op=9):=fun h=>by have:=h.2; rcases ZbO hg with h | h | h | h | h<;>omega
 refine ⟨fun h1 v hv=>?_,fun h1=>?_⟩
 ·rw [Ex.putM_eq,if_neg h9,if_pos h1,ZmG hv]; rfl
 ·rw [Ex.putM_eq,if_neg h9,if_neg h1]
theorem op2_kids {p:Pr} {e:Ex} {b:List ByteArray} (h:e.sdF p b=0) (ho:e.op=2):e.kids=[]:=by
 obtain ⟨h1,h2⟩:=ZaI.1 h;obtain ⟨g1,g2,g3,g4⟩:=ZeE.1 h1;rw [ho] at g1;simp [formB] at g1;exact g1.1
theorem Zo5 {p:Pr} {s:ByteArray} {j:Nat} (hj:j<p.funs.length) (h:atFu p.funs s=j):p.funs[j].name=s:=by
 unfold atFu at h;rcases WI (fun c:Fu=>decide (c.name=s)) p.funs with ⟨h1,_⟩ | ⟨i,hi,h1,h2,h3⟩
 ·omega
 ·obtain rfl:i=j:=by omega
  simpa using h2
theorem rev_ok {p:Pr} (hp:PgR p) {fu:Int} (hfu:fu≤100000):∀ g:Nat,RvHyp p fu g (evG p fu g):=by
 intro g
 induction g with
 | zero =>
   intro c d e ns vs H hg hms hd hd2
   have:=e.sz_eq
   have:=hg.cf
   omega
 | succ g ih =>
   intro c d e ns vs H hg hms hd hd2;have hpr:=ZdJ hp (fu:=fu) g;have hz:=e.sz_eq;have hz5:=hg.sz;have hcf:=hg.cf;have hc0:=hg.c0;have hkn:=(Ex.nmOk_iff.1 hg.nm).2;have hkl:=YN e.kids;refine JH ?_;refine ZE fd31 (by simp) ?_;delta c31 Zj Zi Zd Zb Zm Zr Zg Zc Zq Zo Zk Zh Za;obtain ⟨X,hX⟩:∃ X,X=evG p fu (g+1) c d e ns vs:=⟨_,rfl⟩
   rw [← hX];rw [Ziv] at hX;obtain ⟨hp1,hp2⟩:=put_node (p:=p) hg.sd hg.env;rcases ZbO hg.sd with ⟨ho,hn⟩ | ⟨ho,k,hk,hks⟩ | ⟨ho,ha⟩ | ⟨ho,hk⟩ | ⟨ho,hk2,hk⟩
   ·obtain ⟨w,hw,hwo⟩:=Zf1 hg.env.1 hg.env.2 hn;rw [if_pos ho,hw] at hX;rw [hX,hp1 ho w hw];have hxv:exV (.mk 9 noNm [w.ex p])=.agg [iV 9,sV noNm,.slice false 1 [iV (w.ex p).op,sV (w.ex p).name,exsV (w.ex p).kids]]:=by show VV.agg [_,_,encS exE [w.ex p]]=_; rw [encS,ZbP]; rfl
    rw [hxv];have hd0:ZpL (Int.toNat 0 * 3) [iV (w.ex p).op,sV (w.ex p).name,exsV (w.ex p).kids]=[iV (w.ex p).op,sV (w.ex p).name,exsV (w.ex p).kids]:=rfl;have h01:(0:Int)<((1:Nat):Int):=by decide
    clear ih hpr hX hxv hp1 hp2 hkn
    (repeat' (first | (simp only [↓Zz,ZA,ptrV,ZpI,ZpJ,ZD,ZpL,undef,Yj,ZO,YO,ZQ,Xl,Yc, *]) | (refine ZB fun zr zh=>?_; have zg:=zh; (try simp only [ZpO] at zg))))
    rename_i r2 h2 g2 r3 h3 g3 r4 h4 g4
    (have hA:=Zhf (p:=p) (H:=H) (c:=c) (fu:=fu) (d:=d) (E:=[iV 9,sV noNm,.slice false 1 [iV (w.ex p).op,sV (w.ex p).name,exsV (w.ex p).kids]]) (r2:=r2) (r3:=r3) (r4:=r4) (zr:=zr) (by simpa using g2) g3.2 (by simp only [g4]) (by simp only [zg]) ⟨g3.1.2,g3.1.1⟩ (by simp only [g4]; simp) (by simp only [g4]; simp) (by simp only [zg]; simp) (by simp only [zg]; simp) (by simp only [zg]; simp))
    clear h2 g2 h3 g3 h4 g4 zh zg;generalize ((((H.set r2 (.cells 106 (stE p c fu d 0) 0)).set r3 (.cells 28 [iV 9,sV noNm,.slice false 1 [iV (w.ex p).op,sV (w.ex p).name,exsV (w.ex p).kids]] 0)).set r4 (.cells 106 zS 0)).set zr (.cells 28 zX 0))=H' at *
    generalize zr=r5 at *
    (have k3:=hA.k3; have k4:=hA.k4; have k6:=hA.k6; have k7:=hA.k7; have d34:=hA.d34; have d36:=hA.d36; have d37:=hA.d37; have d46:=hA.d46; have d47:=hA.d47; have d67:=hA.d67; have f3:=hA.f3; have f4:=hA.f4; have f6:=hA.f6; have f7:=hA.f7; have hs:=hA.hs)
    (repeat' (first | (refine ZJ mixed (fun _ _ _ _ e h=>⟨e.trans h.1,h.2⟩) _ (sub2 (r:=r2) (r':=r3) k3 k4) ?_) | (refine sub2 (by simp only [ZpU, *,if_false]<;>rfl) (by simp only [ZpU, *,if_false]<;>rfl)) | (simp only [↓WX,↓Xe,↓Yf,↓Yi,↓Wa,↓ZbR,↓Yu,↓Yr,↓XJ,↓Ys,↓XK,↓Yt,↓YS,↓ZC,↓YA,↓YU,↓Yb,↓Xf,Zqb,Zqh,Zqw,Zqx,ite_true,ite_false,ZpI,ZpJ,ZpT,ne_eq,not_false_eq_true,true_and,Zp7,↓YV,↓YK,↓YL,ZpU,setAt,Zqn,Zqv,Zqo,eq_self,Zp2,ZpL,and_self,Wi,XT,Jb,XS,We,YT,Xi,Zqs,Zqy,ZpY,ZbA,XG,WY,ZcQ,ZaF,XH,ZbB,Xr,WO,WP,WQ,↓Ws,↓WC,Zqi,Zar,ZR,Yq,Yd,Ye,Yn,YE,ZU, *]) | (with_reducible refine And.intro ?_ ?_)))
    exact ZeM (ri:=r4) (rj:=r5) (by simp only [ZC,ZpI,if_true,if_false, *]<;>rfl) (by simp only [ZC,ZpI,if_true,if_false, *]<;>rfl) (by rw [ZpV _ _ d67.1,ZpP]) (ZpP _ _ _) (by repeat (first | exact ZpN _ | assumption | refine ZpS ?_ (by assumption)))
   ·rw [if_neg (by omega),if_pos ho,hk] at hX;have hpe:=hp2 (by omega);rw [ho,if_pos rfl,hk,Zp3,Zqa] at hpe;have hve:(Val.clo e.name k ns vs).ex p=.mk 5 e.name [k.putM true (outB e.name (bdL ns (ZL p vs)))]:=by rw [Val.ex]
    rw [hX,hpe];have hxv:exV (.mk 5 e.name [k.putM true (outB e.name (bdL ns (ZL p vs)))])=.agg [iV 5,sV e.name,exsV [k.putM true (outB e.name (bdL ns (ZL p vs)))]]:=rfl;rw [hxv];generalize [k.putM true (outB e.name (bdL ns (ZL p vs)))]=ks at *
    clear ih hpr hX hxv hp1 hp2 hkn hpe
    (repeat' (first | (simp only [↓Zz,ZA,ptrV,ZpI,ZpJ,ZD,ZpL,undef,Zp5,Yj,ZO,YO,ZQ,Xl,Yc, *]) | (refine ZB fun zr zh=>?_; have zg:=zh; (try simp only [ZpO] at zg))))
    rename_i r2 h2 g2 r3 h3 g3 r4 h4 g4
    (have hA:=Zhf (p:=p) (H:=H) (c:=c) (fu:=fu) (d:=d) (E:=[iV 5,sV e.name,exsV ks]) (r2:=r2) (r3:=r3) (r4:=r4) (zr:=zr) (by simpa using g2) g3.2 (by simp only [g4]) (by simp only [zg]) ⟨g3.1.2,g3.1.1⟩ (by simp only [g4]; simp) (by simp only [g4]; simp) (by simp only [zg]; simp) (by simp only [zg]; simp) (by simp only [zg]; simp))
    clear h2 g2 h3 g3 h4 g4 zh zg;generalize ((((H.set r2 (.cells 106 (stE p c fu d 0) 0)).set r3 (.cells 28 [iV 5,sV e.name,exsV ks] 0)).set r4 (.cells 106 zS 0)).set zr (.cells 28 zX 0))=H' at *
    generalize zr=r5 at *
    (have k3:=hA.k3; have k4:=hA.k4; have k6:=hA.k6; have k7:=hA.k7; have d34:=hA.d34; have d36:=hA.d36; have d37:=hA.d37; have d46:=hA.d46; have d47:=hA.d47; have d67:=hA.d67; have f3:=hA.f3; have f4:=hA.f4; have f6:=hA.f6; have f7:=hA.f7; have hs:=hA.hs)
    (repeat' (first | (refine ZJ mixed (fun _ _ _ _ e h=>⟨e.trans h.1,h.2⟩) _ (sub2 (r:=r2) (r':=r3) k3 k4) ?_) | (refine sub2 (by simp only [ZpU, *,if_false]<;>rfl) (by simp only [ZpU, *,if_false]<;>rfl)) | (simp only [↓WX,↓Xe,↓Yf,↓Yi,↓Wa,↓ZbR,↓Yu,↓Yr,↓XJ,↓Ys,↓XK,↓Yt,↓ZC,↓YA,↓YU,Zqb,Zqh,Zqw,Zqx,ite_true,ite_false,ZpI,ZpJ,ZpT,true_and,Zp7,↓YV,↓YK,↓YL,ZpU,setAt,Zqn,Zqv,Zqo,eq_self,Zp2,ZpL,XT,Jb,XS,We,YT,Xi,Zqs,Zqy,ZpY,XG,XH,Xr,WP,WQ,↓Ws,↓WC,Zar,Yq,Yd,Yn,YE, *]) | (with_reducible refine And.intro ?_ ?_)))
    exact ZeM (v:=.clo e.name k ns vs) (ri:=r4) (rj:=r5) (by simp only [ZC,ZpI,if_true,if_false, *]<;>rfl) (by simp only [ZC,ZpI,if_true,if_false, *]<;>rfl) (by rw [ZpV _ _ d67.1,ZpP]) (by rw [hve]; exact ZpP _ _ _) (by repeat (first | exact ZpN _ | assumption | refine ZpS ?_ (by assumption)))
   ·rw [if_neg (by omega),if_neg (by omega),if_pos ho] at hX;obtain ⟨j,hj,ha1,ha2,ha3⟩:=Znu hp.nd ha;have hA0:=hp.ar _ (ZpW hj);rw [ha2,ha1,ZqN] at hX;have hpe:=hp2 (by omega);rw [ho,op2_kids hg.sd ho,Zqa,← Zo5 hj ha1] at hpe;rw [hpe];have hxv:exV (.mk 2 p.funs[j].name [])=.agg [iV 2,sV p.funs[j].name,.slice false 0 []]:=rfl;rw [hxv];have hfn:=ZgA p p.funs[j].name hp.nf;rw [Zoo hp.nd hj] at hfn;have hfd:=Wy hj;have hj0:(0:Int)≤(j:Int):=by omega
    have hjl:(j:Int)<(p.funs.length:Int):=by omega
    clear hxv hp1 hp2 hkn hpe ha3;by_cases hlt:0<p.funs[j].arity
    ·rw [if_pos hlt] at hX;have hve:(Val.part j []).ex p=.mk 2 p.funs[j].name []:=by rw [Val.ex,if_pos (show ([]:List Val).length=0 from rfl),ZjN hj]
     rw [hX];clear ih hpr hX
     (repeat' (first | (simp only [↓Zz,ZA,ptrV,ZpI,ZpJ,ZD,ZpL,undef,Zp5,Yj,ZO,YO,ZQ,Xl,Yc, *]) | (refine ZB fun zr zh=>?_; have zg:=zh; (try simp only [ZpO] at zg))))
     rename_i r2 h2 g2 r3 h3 g3 r4 h4 g4
     (have hA:=Zhf (p:=p) (H:=H) (c:=c) (fu:=fu) (d:=d) (E:=[iV 2,sV p.funs[j].name,.slice false 0 []]) (r2:=r2) (r3:=r3) (r4:=r4) (zr:=zr) (by simpa using g2) g3.2 (by simp only [g4]) (by simp only [zg]) ⟨g3.1.2,g3.1.1⟩ (by simp only [g4]; simp) (by simp only [g4]; simp) (by simp only [zg]; simp) (by simp only [zg]; simp) (by simp only [zg]; simp))
     clear h2 g2 h3 g3 h4 g4 zh zg;generalize ((((H.set r2 (.cells 106 (stE p c fu d 0) 0)).set r3 (.cells 28 [iV 2,sV p.funs[j].name,.slice false 0 []] 0)).set r4 (.cells 106 zS 0)).set zr (.cells 28 zX 0))=H' at *
     generalize zr=r5 at *
     (have k3:=hA.k3; have k4:=hA.k4; have k6:=hA.k6; have k7:=hA.k7; have d34:=hA.d34; have d36:=hA.d36; have d37:=hA.d37; have d46:=hA.d46; have d47:=hA.d47; have d67:=hA.d67; have f3:=hA.f3; have f4:=hA.f4; have f6:=hA.f6; have f7:=hA.f7; have hs:=hA.hs)
     (repeat' (first | (refine ZJ mixed (fun _ _ _ _ e h=>⟨e.trans h.1,h.2⟩) _ (sub2 (r:=r2) (r':=r3) k3 k4) ?_) | (refine sub2 (by simp only [ZpU, *,if_false]<;>rfl) (by simp only [ZpU, *,if_false]<;>rfl)) | (simp only [↓XM,↓XN,↓Xz,↓WX,↓Wb,↓Xe,↓Yf,↓Yi,↓Wa,↓ZbR,↓Yu,↓Yr,↓XJ,↓Ys,↓XK,↓Yt,↓YS,↓WZ,↓ZC,↓YA,↓YU,↓Wr,↓Yb,↓Xf,↓XP,↓XF,↓WA,Zp3,Zqa,Zqb,Zqh,Zqw,Zqx,ite_true,ite_false,ZpI,ZpJ,ZpT,ne_eq,not_false_eq_true,true_and,Zp7,decide_true,reduceCtorEq,ZqN,↓YV,↓YK,↓YL,ZpU,setAt,Zqn,Zqv,Zqo,eq_self,Zp2,ZqB,ZpL,and_self,Wi,ZfJ,XT,Jb,XS,We,YT,Xi,Zqs,Zqy,ZpY,ZbA,XG,Zja,WY,ZcQ,ZaF,XH,ZbB,Xr,WO,WP,WQ,↓Ws,↓WC,ZqN,Zar,Zbm,Xp,ZZ,JQ,Yq,Yd,ZQ,WS,Xn,ZW,Yn,YE,Wp,Zcc, *]) | (refine ZpQ (hfn) ?_) | (with_reducible refine And.intro ?_ ?_)))
     exact ZeM (v:=.part j []) (ri:=r4) (rj:=r5) (by simp only [ZC,ZpI,if_true,if_false, *]<;>rfl) (by simp only [ZC,ZpI,if_true,if_false, *]<;>rfl) (by rw [ZpV _ _ d67.1,ZpP]) (by rw [hve]; exact ZpP _ _ _) (by repeat (first | exact ZpN _ | assumption | refine ZpS ?_ (by assumption)))
    ·rw [if_neg hlt] at hX;have hca:=fun H=>Zix (d:=d) hp ih hj (us:=[]) (by simp) trivial (by simp only [Zqh]; omega) hd ⟨hc0,hcf⟩ hfu (by omega) H
     have hge:¬ (0:Int)<p.funs[j].arity:=hlt;replace hX:=ZpM hX;clear ih hpr
     (repeat' (first | (simp only [↓Zz,ZA,ptrV,ZpI,ZpJ,ZD,ZpL,undef,Zp5,Yj,ZO,YO,ZQ,Xl,Yc, *]) | (refine ZB fun zr zh=>?_; have zg:=zh; (try simp only [ZpO] at zg))))
     rename_i r2 h2 g2 r3 h3 g3 r4 h4 g4
     (have hA:=Zhf (p:=p) (H:=H) (c:=c) (fu:=fu) (d:=d) (E:=[iV 2,sV p.funs[j].name,.slice false 0 []]) (r2:=r2) (r3:=r3) (r4:=r4) (zr:=zr) (by simpa using g2) g3.2 (by simp only [g4]) (by simp only [zg]) ⟨g3.1.2,g3.1.1⟩ (by simp only [g4]; simp) (by simp only [g4]; simp) (by simp only [zg]; simp) (by simp only [zg]; simp) (by simp only [zg]; simp))
     clear h2 g2 h3 g3 h4 g4 zh zg;generalize ((((H.set r2 (.cells 106 (stE p c fu d 0) 0)).set r3 (.cells 28 [iV 2,sV p.funs[j].name,.slice false 0 []] 0)).set r4 (.cells 106 zS 0)).set zr (.cells 28 zX 0))=H' at *
     generalize zr=r5 at *
     (have k3:=hA.k3; have k4:=hA.k4; have k6:=hA.k6; have k7:=hA.k7; have d34:=hA.d34; have d36:=hA.d36; have d37:=hA.d37; have d46:=hA.d46; have d47:=hA.d47; have d67:=hA.d67; have f3:=hA.f3; have f4:=hA.f4; have f6:=hA.f6; have f7:=hA.f7; have hs:=hA.hs)
     (repeat' (first | (simp only [↓Zz,ZA,ZpI,ZpJ,reduceCtorEq,ZpL,Zbm,Xp,ZZ,JQ,Yq,ZQ,WS,Xn,ZW,ZaB,Wp,Zcc,en_57, *]) | (refine ZJ mixed (fun _ _ _ _ e h=>⟨e.trans h.1,h.2⟩) _ (ZpN _) ?_) | (exact ZpN _) | (refine ZpQ (hfn) ?_) | (with_reducible refine And.intro ?_ ?_)))
     refine Yy (ZpZ (Zp8 _ _) (ZpZ (Zp8 _ _) (ZpZ (GhV.nil _) (GhL.nil _)))) ?_;refine Zdd (hca _) (fun c2 w hR=>?_) (fun k2 c2 d2 x2 hk2 hR=>?_)
     ·have hX2:X=.ok (c2,w):=by rw [hX.out,hR]
      rw [hX2];clear hX hX2 hR hca hfn
      (repeat' (first | (simp only [↓Zz,ZA,ZI,ZpI,ZpJ,ZpT,setAt,Yn,YE, *]) | (exact ZpN _) | (with_reducible refine And.intro ?_ ?_)))
      exact ZeM (ri:=r4) (rj:=r5) (by simp only [ZC,ZpI,if_true,if_false, *]<;>rfl) (by simp only [ZC,ZpI,if_true,if_false, *]<;>rfl) (by rw [ZpV _ _ d67.1,ZpP]) (ZpP _ _ _) (by repeat (first | exact ZpN _ | assumption | refine ZpS ?_ (by assumption)))
     ·have hX2:X=.error k2:=by rw [hX.out,hR]
      rw [hX2];clear hX hX2 hR hca hfn
      (repeat' (first | (simp only [↓Zz,ZA,ZI,ZpI,ZpJ,ZpT,setAt,Yn,YE, *]) | (exact ZpN _) | (with_reducible refine And.intro ?_ ?_)))
      exact Za3 (ri:=r4) (rj:=r5) (x:=x2) hk2 (by simp only [ZC,ZpI,if_true,if_false, *]<;>rfl) (by simp only [ZC,ZpI,if_true,if_false, *]<;>rfl) (by rw [ZpV _ _ d67.1,ZpP]) (ZpP _ _ _) (by repeat (first | exact ZpN _ | assumption | refine ZpS ?_ (by assumption)))
   ·have hpe:=hp2 (by omega);rw [ho,if_neg (by decide)] at hpe;rw [hpe];rw [if_neg (by omega),if_neg (by omega),if_neg (by omega)] at hX;obtain ⟨ms,hms⟩:∃ ms,ms=e.kids.map (·.putM true (bdL ns (ZL p vs))):=⟨_,rfl⟩
    have hls:=fun H=>Zl3 (d:=d) ih hpr (ks:=e.kids) (ns:=ns) (vs:=vs) (c:=c) (fun k hk'=>⟨hk k hk',hkn k hk',by have:=Ya hk'; omega,by have:=Ya hk'; omega⟩) (by omega) hg.env ⟨hc0,hcf⟩ ⟨hd,hd2⟩ hms H
    rw [← hms];have hxv:exV (.mk 3 e.name ms)=.agg [iV 3,sV e.name,exsV ms]:=rfl;rw [hxv];replace hX:=ZpM hX;clear ih hpr hp1 hp2 hpe hxv hms
    (repeat' (first | (simp only [↓Zz,ZA,ptrV,ZpI,ZpJ,ZD,ZpL,undef,Zp5,Yj,ZO,ZR,YO,Yq,ZQ,Ye,Xl,Yc,en_58, *]) | (refine ZB fun zr zh=>?_; have zg:=zh; (try simp only [ZpO] at zg))))
    rename_i r2 h2 g2 r3 h3 g3 r4 h4 g4
    (have hA:=Zhf (p:=p) (H:=H) (c:=c) (fu:=fu) (d:=d) (E:=[iV 3,sV e.name,exsV ms]) (r2:=r2) (r3:=r3) (r4:=r4) (zr:=zr) (by simpa using g2) g3.2 (by simp only [g4]) (by simp only [zg]) ⟨g3.1.2,g3.1.1⟩ (by simp only [g4]; simp) (by simp only [g4]; simp) (by simp only [zg]; simp) (by simp only [zg]; simp) (by simp only [zg]; simp))
    clear h2 g2 h3 g3 h4 g4 zh zg;generalize ((((H.set r2 (.cells 106 (stE p c fu d 0) 0)).set r3 (.cells 28 [iV 3,sV e.name,exsV ms] 0)).set r4 (.cells 106 zS 0)).set zr (.cells 28 zX 0))=H' at *
    generalize zr=r5 at *
    (have k3:=hA.k3; have k4:=hA.k4; have k6:=hA.k6; have k7:=hA.k7; have d34:=hA.d34; have d36:=hA.d36; have d37:=hA.d37; have d46:=hA.d46; have d47:=hA.d47; have d67:=hA.d67; have f3:=hA.f3; have f4:=hA.f4; have f6:=hA.f6; have f7:=hA.f7; have hs:=hA.hs)
    refine rl_use (hls _) (fun c1 l hR=>?_) (fun k1 c1 d1 x1 hk1 hR=>?_)
    ·have hX2:X=.ok (c1,.built e.name l):=by rw [hX.out,hR]; simp only [if_pos ho]
     have hve:(Val.built e.name l).ex p=.mk 3 e.name (ZL p l):=by rw [Val.ex]
     rw [hX2];clear hX hX2 hR hls
     (repeat' (first | (refine ZJ mixed (fun _ _ _ _ e h=>⟨e.trans h.1,h.2⟩) _ (sub2 (r:=zr) (r':=r3) (by simp only [ZpU, *,if_true]<;>rfl) (by simp only [ZpU, *,if_false]<;>rfl)) ?_) | (refine sub2 (by simp only [ZpU, *,if_true,if_false]<;>rfl) (by simp only [ZpU, *,if_false]<;>rfl)) | (simp only [↓XM,↓WX,↓Wb,↓Xe,↓Yf,↓Yi,↓Wa,↓ZbR,↓Yu,↓Yr,↓XJ,↓Ys,↓XK,↓Yt,↓ZC,↓Xb,↓YH,↓YA,↓YU,↓Wv,↓Jm,↓Yb,↓Wh,ZI,ptrV,Zp3,Zqa,Zqb,Zqh,Zqw,Zqx,ite_true,ite_false,ZpI,ZpJ,ZpT,Zp1,ne_eq,not_false_eq_true,true_and,Zp7,↓YV,↓YK,↓YL,ZpU,Zqj,ZM,fillV,setAt,Zqn,Zqv,Zqo,eq_self,Zp2,ZqB,ZpL,and_self,ZqE,ZqF,Wi,Jb,Zap,XS,Zg9,We,YT,ZdB,Xi,Zqs,Zqy,↓Ww,XW,ZpY,XG,WY,XH,Xr,WO,WP,WQ,↓Ws,↓WC,Zar,ZM,ZO,ZZ,Yq,ZQ,ZW,Yn,YE,Zcr,Xl, *]) | (refine ZB fun zr zh=>?_; have zg:=zh; (try simp only [ZpO] at zg); (try have zn_k3:=ZpK k3 zh); (try have zn_k3:=ZpK k3 zg.2); (try have zn_k3:=ZpK k3 zg.2.2); (try have zn_k4:=ZpK k4 zh); (try have zn_k4:=ZpK k4 zg.2); (try have zn_k4:=ZpK k4 zg.2.2); (try have zn_k6:=ZpK k6 zh); (try have zn_k6:=ZpK k6 zg.2); (try have zn_k6:=ZpK k6 zg.2.2); (try have zn_k7:=ZpK k7 zh); (try have zn_k7:=ZpK k7 zg.2); (try have zn_k7:=ZpK k7 zg.2.2)) | (with_reducible refine And.intro ?_ ?_)))
     have f8:H zr=none:=Zqp hs zg;exact ZeM (v:=.built e.name l) (ri:=r4) (rj:=r5) (by simp only [ZC,ZpI,if_true,if_false, *]<;>rfl) (by simp only [ZC,ZpI,if_true,if_false, *]<;>rfl) (by rw [ZpV _ _ d67.1,ZpP]) (by rw [hve]; exact ZpP _ _ _) (by repeat (first | exact ZpN _ | assumption | refine ZpS ?_ (by assumption)))
    ·have hX2:X=.error k1:=by rw [hX.out,hR]
     rw [hX2];clear hX hX2 hR hls
     (repeat' (first | (refine ZJ mixed (fun _ _ _ _ e h=>⟨e.trans h.1,h.2⟩) _ (sub2 (r:=zr) (r':=r3) (by simp only [ZpU, *,if_true]<;>rfl) (by simp only [ZpU, *,if_false]<;>rfl)) ?_) | (refine sub2 (by simp only [ZpU, *,if_true,if_false]<;>rfl) (by simp only [ZpU, *,if_false]<;>rfl)) | (simp only [↓XM,↓WX,↓Wb,↓Xe,↓Yf,↓Yi,↓Wa,↓ZbR,↓Yu,↓Yr,↓XJ,↓Ys,↓XK,↓Yt,↓ZC,↓Xb,↓YH,↓YA,↓YU,↓Wv,↓Jm,↓Yb,↓Wh,ZI,ptrV,Zp3,Zqa,Zqb,Zqh,Zqw,Zqx,ite_true,ite_false,ZpI,ZpJ,ZpT,Zp1,ne_eq,not_false_eq_true,true_and,Zp7,↓YV,↓YK,↓YL,ZpU,Zqj,ZM,fillV,setAt,Zqn,Zqv,Zqo,eq_self,Zp2,ZqB,ZpL,and_self,ZqE,ZqF,Wi,Jb,Zap,XS,Zg9,We,YT,ZdB,Xi,Zqs,Zqy,↓Ww,XW,ZpY,XG,WY,XH,Xr,WO,WP,WQ,↓Ws,↓WC,Zar,ZM,ZO,ZZ,Yq,ZQ,ZW,Yn,YE,Zcr,Xl, *]) | (refine ZB fun zr zh=>?_; have zg:=zh; (try simp only [ZpO] at zg); (try have zn_k3:=ZpK k3 zh); (try have zn_k3:=ZpK k3 zg.2); (try have zn_k3:=ZpK k3 zg.2.2); (try have zn_k4:=ZpK k4 zh); (try have zn_k4:=ZpK k4 zg.2); (try have zn_k4:=ZpK k4 zg.2.2); (try have zn_k6:=ZpK k6 zh); (try have zn_k6:=ZpK k6 zg.2); (try have zn_k6:=ZpK k6 zg.2.2); (try have zn_k7:=ZpK k7 zh); (try have zn_k7:=ZpK k7 zg.2); (try have zn_k7:=ZpK k7 zg.2.2)) | (with_reducible refine And.intro ?_ ?_)))
     have f8:H zr=none:=Zqp hs zg;exact Za3 (x:=.mk 3 e.name x1) (ri:=r4) (rj:=r5) hk1 (by simp only [ZC,ZpI,if_true,if_false, *]<;>rfl) (by simp only [ZC,ZpI,if_true,if_false, *]<;>rfl) (by rw [ZpV _ _ d67.1,ZpP]) (ZpP _ _ _) (by repeat (first | exact ZpN _ | assumption | refine ZpS ?_ (by assumption)))
   ·have hpe:=hp2 (by omega);rw [ho,if_neg (by decide)] at hpe;rw [hpe];rw [if_neg (by omega),if_neg (by omega),if_neg (by omega)] at hX;obtain ⟨ms,hms⟩:∃ ms,ms=e.kids.map (·.putM true (bdL ns (ZL p vs))):=⟨_,rfl⟩
    have hls:=fun H=>Zl3 (d:=d) ih hpr (ks:=e.kids) (ns:=ns) (vs:=vs) (c:=c) (fun k hk'=>⟨hk k hk',hkn k hk',by have:=Ya hk'; omega,by have:=Ya hk'; omega⟩) (by omega) hg.env ⟨hc0,hcf⟩ ⟨hd,hd2⟩ hms H
    have hlo:=fun c1 l=>ZdI (d:=d) hpr hg.env e.kids c c1 l (fun k hk'=>⟨hk k hk',hkn k hk',by have:=Ya hk'; omega⟩) ⟨hc0,hcf⟩
    rw [← hms];have hxv:exV (.mk 4 e.name ms)=.agg [iV 4,sV e.name,exsV ms]:=rfl;rw [hxv];replace hX:=ZpM hX;clear hp1 hp2 hpe hxv hms
    (repeat' (first | (simp only [↓Zz,ZA,ptrV,ZpI,ZpJ,ZD,ZpL,undef,Zp5,Yj,ZO,ZR,YO,Yq,ZQ,Ye,Xl,Yc,en_58, *]) | (refine ZB fun zr zh=>?_; have zg:=zh; (try simp only [ZpO] at zg))))
    rename_i r2 h2 g2 r3 h3 g3 r4 h4 g4
    (have hA:=Zhf (p:=p) (H:=H) (c:=c) (fu:=fu) (d:=d) (E:=[iV 4,sV e.name,exsV ms]) (r2:=r2) (r3:=r3) (r4:=r4) (zr:=zr) (by simpa using g2) g3.2 (by simp only [g4]) (by simp only [zg]) ⟨g3.1.2,g3.1.1⟩ (by simp only [g4]; simp) (by simp only [g4]; simp) (by simp only [zg]; simp) (by simp only [zg]; simp) (by simp only [zg]; simp))
    clear h2 g2 h3 g3 h4 g4 zh zg;generalize ((((H.set r2 (.cells 106 (stE p c fu d 0) 0)).set r3 (.cells 28 [iV 4,sV e.name,exsV ms] 0)).set r4 (.cells 106 zS 0)).set zr (.cells 28 zX 0))=H' at *
    generalize zr=r5 at *
    (have k3:=hA.k3; have k4:=hA.k4; have k6:=hA.k6; have k7:=hA.k7; have d34:=hA.d34; have d36:=hA.d36; have d37:=hA.d37; have d46:=hA.d46; have d47:=hA.d47; have d67:=hA.d67; have f3:=hA.f3; have f4:=hA.f4; have f6:=hA.f6; have f7:=hA.f7; have hs:=hA.hs)
    refine rl_use (hls _) (fun c1 l hR=>?_) (fun k1 c1 d1 x1 hk1 hR=>?_)
    ·obtain ⟨l1,l2,l3,l4⟩:=hlo _ _ hR
     obtain ⟨v,us,rfl⟩:∃ v us,l=v::us:=by
      cases l with
      | nil=>simp at l2; omega
      | cons v us=>exact ⟨v,us,rfl⟩
     have hX2:X=appG p fu (evG p fu g) us.length c1 d v us:=by rw [hX.out,hR]; simp only [ho]; rw [if_neg (by decide)]
     have hul:us.length≤5000:=by simp at l2; omega
     have hap:=fun ex H=>Zo4 hp ih hpr (c:=c1) (d:=d) (ex:=ex) l1.1 (by omega) l1.2 hd ⟨by omega,l4⟩ hfu (by omega) us.length (ZpY _) H
     have hcs:encC exE (ZL p (v::us))=iV (v.ex p).op::sV (v.ex p).name::exsV (v.ex p).kids::encC exE (ZL p us):=by rw [ZL,ZbP]
     have hd0:ZpL (Int.toNat 0 * 3) (iV (v.ex p).op::sV (v.ex p).name::exsV (v.ex p).kids::encC exE (ZL p us))=iV (v.ex p).op::sV (v.ex p).name::exsV (v.ex p).kids::encC exE (ZL p us):=rfl;have hln:(ZL p (v::us)).length=us.length+1:=by rw [Xu]; rfl
     have hln0:(0:Int)<((us.length+1:Nat):Int):=by omega
     replace hX2:=ZpM hX2;clear hX hR hls hlo ih hpr l2 hkn hk
     (repeat' (first | (simp only [↓Zz,ZA,ZI,ZpI,ZpJ,ZpT,Zqu,Zp1,setAt,ZpL,Zqi,Int.reduceToNat,YC,Zqz,Zp6,Xj,idxV,idxOk,imp_self,Yj,YO,Yq,Yd,Yn,ZU,en_59, *]) | (refine ZJ mixed (fun _ _ _ _ e h=>⟨e.trans h.1,h.2⟩) _ (ZpN _) ?_)))
     have hl1:us.length+1-1=us.length:=by omega
     rw [hl1];refine Zdd (hap _ _) (fun c2 w hR=>?_) (fun k2 c2 d2 x2 hk2 hR=>?_)
     ·have hX3:X=.ok (c2,w):=by rw [hX2.out,hR]
      rw [hX3];clear hX2 hX3 hR hap
      (repeat' (first | (simp only [↓Zz,ZA,ZI,ZpI,ZpJ,ZpT,setAt,Yn,YE, *]) | (exact ZpN _) | (with_reducible refine And.intro ?_ ?_)))
      exact ZeM (ri:=r4) (rj:=r5) (by simp only [ZC,ZpI,if_true,if_false, *]<;>rfl) (by simp only [ZC,ZpI,if_true,if_false, *]<;>rfl) (by rw [ZpV _ _ d67.1,ZpP]) (ZpP _ _ _) (by repeat (first | exact ZpN _ | assumption | refine ZpS ?_ (by assumption)))
     ·have hX3:X=.error k2:=by rw [hX2.out,hR]
      rw [hX3];clear hX2 hX3 hR hap
      (repeat' (first | (simp only [↓Zz,ZA,ZI,ZpI,ZpJ,ZpT,setAt,Yn,YE, *]) | (exact ZpN _) | (with_reducible refine And.intro ?_ ?_)))
      exact Za3 (ri:=r4) (rj:=r5) (x:=x2) hk2 (by simp only [ZC,ZpI,if_true,if_false, *]<;>rfl) (by simp only [ZC,ZpI,if_true,if_false, *]<;>rfl) (by rw [ZpV _ _ d67.1,ZpP]) (ZpP _ _ _) (by repeat (first | exact ZpN _ | assumption | refine ZpS ?_ (by assumption)))
    ·have hX2:X=.error k1:=by rw [hX.out,hR]
     rw [hX2];have hk1':=ZpM hk1;clear hX hX2 hR hls hlo ih hpr
     (repeat' (first | (refine ZJ mixed (fun _ _ _ _ e h=>⟨e.trans h.1,h.2⟩) _ (sub2 (r:=r2) (r':=r3) (by simp only [ZpU, *,if_true]<;>rfl) (by simp only [ZpU, *,if_false]<;>rfl)) ?_) | (refine sub2 (by simp only [ZpU, *,if_true,if_false]<;>rfl) (by simp only [ZpU, *,if_false]<;>rfl)) | (simp only [↓Wg,↓XM,↓XN,↓Xz,↓WX,↓Wb,↓Xe,↓Yf,↓Yi,↓Wa,↓Yu,↓Yr,↓XJ,↓Ys,↓XK,↓Yt,↓YS,↓ZC,↓Xb,↓YH,↓YA,↓YU,↓Wr,↓Yb,↓Wh,↓Ji,ZI,Zqb,Zqh,Zqw,Zqx,ite_true,ite_false,ZpI,ZpJ,ZpT,ne_eq,not_false_eq_true,true_and,Zp7,decide_false,Bool.not_false,↓YV,↓YK,↓YL,ZpU,setAt,Zqn,Zqv,Zqo,eq_self,Zp2,ZpL,ZqE,ZqF,Wi,XT,Jb,XS,We,YT,Xi,Zqs,Zqy,ZpY,XG,WY,XH,Xr,WO,WP,WQ,↓Ws,↓WC,Zar,Yj,YO,Yq,Yd,Yn,YE, *]) | (with_reducible refine And.intro ?_ ?_)))
     exact Za3 (x:=.mk 4 e.name ms) (ri:=r4) (rj:=r5) hk1'.out (by simp only [ZC,ZpI,if_true,if_false, *]<;>rfl) (by simp only [ZC,ZpI,if_true,if_false, *]<;>rfl) (by rw [ZpV _ _ d67.1,ZpP]) (ZpP _ _ _) (by repeat (first | exact ZpN _ | assumption | refine ZpS ?_ (by assumption)))
end Go.PV.YtglpmlbbaedbiaaGreat
end
section
open Go.PV.AH renaming set_same→ZpP,set_set→Zqj,set_none→ZpO,ne_of→ZpK,set_ne→ZpV
open Go.PV.Hold renaming mk→ZpM
open Go.PV.PureF renaming use→ZpQ
open Go.PV.SubH renaming refl→ZpN,set→Zqk,new→ZpR
open Int renaming natCast_nonneg→ZqU,toNat_natCast→ZqN,reduceEq→Zp5
open List renaming getElem_mem→ZpW,getElem_map→ZqR,map_cons→Zp3,map_nil→Zqa,drop_eq_nil_of_le→Zp9,drop→ZpL,eq_nil_of_length_eq_zero→ZqD
open Nat renaming reduceLT→ZpJ,reduceEqDiff→ZpI,succ_ne_self→Zp7,reduceAdd→ZpT,reduceLeDiff→Zp1,lt_succ_self→ZqK
set_option maxRecDepth 20000
set_option maxHeartbeats 4000000
namespace Go.PV.YtglpmlbbaedbiaaGreat
open Go Go.Proofs
abbrev tB (a:Int):Blk:=.cells 99 [iV a] 0
def tlK (r:Nat) (a:Int) (n:Nat) (H:AH) (e:VE) (H':AH):Prop:=∃ b,TL a n b∧e=.ret (.tuple [])∧H'=H.set r (tB b)
abbrev TlV (fs:List Fu) (p:Pr) (v:Val):Prop:=∀ (r:Nat) (a:Int) (H:AH),H r=some (tB a) → -2≤a→a≤5000→ZT Tryz.prog 27 [ptrV r 0,v.vv fs] H (tlK r a (v.ex p).full H)
theorem ZeO {r:Nat} {a:Int} {n:Nat} {H:AH} {f:FuncId} {xs:List VV} {K:VE→AH→Prop} (h:ZT Tryz.prog f xs H (tlK r a n H)) (h1:∀ b,TL a n b→K (.ret (.tuple [])) (H.set r (tB b))):ZT Tryz.prog f xs H K:=h.mono fun e H' hq=>by
 obtain ⟨b,hb,rfl,rfl⟩:=hq;exact h1 b hb
theorem Znw {r:Nat} {a b:Int} {n:Nat} {H H':AH} {t:Nat→VV} (hb:TL a n b) (hs:SubH (H.set r (tB b)) H'):YI Tryz.prog [] (fun e H''=>∃ H',SubH H' H''∧tlK r a n H e H') .ret ⟨t,[]⟩ H' :=
 ⟨rfl,_,_,_,rfl,.refl _ _,_,hs,b,hb,rfl,rfl⟩
theorem Zhg {r:Nat} {a b:Int} {n:Nat} {H H':AH} {t:Nat→VV} (hb:TL a n b) (hs:SubH (H.set r (tB b)) H'):YI Tryz.prog [] (fun e H''=>∃ H',SubH H' H''∧tlK r a n H e H') .normal ⟨t,[]⟩ H' :=
 ⟨rfl,_,_,_,rfl,.refl _ _,_,hs,b,hb,rfl,rfl⟩
theorem ZhY {fs:List Fu} {p:Pr} {l:List Val} (hl:l.length≤1099511627776) (ih:∀ v∈l,TlV fs p v) {r:Nat} {a:Int} {H:AH} (hr:H r=some (tB a)) (h1 : -2≤a) (h2:a≤5000):ZT Tryz.prog 51 [ptrV r 0,vsV fs l] H (tlK r a (XQ (ZL p l)) H):=by
 refine WD ?_;refine ZE fd51 (by simp) ?_;delta c51 Za Ze Zq;obtain ⟨N,hN⟩:∃ N,N=XQ (ZL p l):=⟨_,rfl⟩
 rw [← hN];replace hN:=ZpM hN;replace hr:=ZpM hr
 (repeat' (first | (simp only [↓Zz,ZA,ptrV,intV,ZpJ,reduceCtorEq,ZD,undef,YJ, *])))
 refine ZP (fun _ _ _ h=>h) (fun A H'=>A.d=[]∧A.t 0=ptrV r 0∧A.t 6=vsV fs l∧A.t 7=iV l.length∧∃ (i:Nat) (b:Int) (m:Nat),i≤l.length∧A.t 8=iV i∧TL a m b∧N=m+XQ ((ZL p l).drop i)∧H'=H.set r (tB b))
  (fun A _=>match A.t 8 with | .lit (.int _ i)=>((l.length:Int)-i).toNat | _=>0) ?_ ?_
 ·exact ⟨rfl,(by simp only [ZC,ZpI,if_false, *]<;>rfl),(by simp only [ZC,ZpI,if_true,if_false, *]<;>rfl),(by simp only [ZC,ZpI,if_true,if_false, *]<;>rfl),0,a,0,by omega,(by simp only [ZC,ZpI,if_true,if_false, *]<;>rfl),TL.zero h1,by simpa using hN.out,(Zaw hr.out).symm⟩
 ·clear hN;rintro ⟨t,d⟩ H' ⟨rfl,h0,h6,h7,i,b,m,hi,h8,hb,hN,hH⟩;dsimp only at h0 h6 h7 h8;delta b51_1 Zn Zr Zk Zb Zc Za Zo Zm;by_cases hlt:i<l.length
  ·have hil:(i:Int)<(l.length:Int):=by omega
   have e2:=ZdG (fs:=fs) hlt;obtain ⟨o1,o2⟩:=WU fs l[i];have hv:=ih _ (ZpW hlt) r b H' (by rw [hH]; exact ZpP _ _ _) hb.lo (by have:=hb.hi; omega);have hlt':i<(ZL p l).length:=by rw [Xu]; exact hlt
   rw [ZcI hlt'] at hN;have hge:(ZL p l)[i]=l[i].ex p:=by simp only [Xg,ZqR]
   rw [hge] at hN;replace hN:=ZpM hN;replace hb:=ZpM hb;replace hH:=ZpM hH;clear ih hge
   (repeat' (first | (refine ZeO hv (fun b2 hb2=>?_)) | (simp only [↓Wq,↓Wg,↓XM,↓XN,↓Xz,↓XZ,↓Xe,↓Yf,↓Yi,↓ZdY,↓Yu,↓Yr,↓Ys,↓Yt,↓YS,↓WZ,↓ZC,↓Xb,↓YH,↓YA,↓Wr,↓Xf,↓XP,↓XF,↓Wm,↓Zbo,ptrV,Zp3,Zqa,ite_true,ite_false,ZpI,ZpJ,true_and,Zp7,decide_true,reduceCtorEq,ZqU,ZqN,Nat.mul_one,eq_self,and_self,Wi,ZbA,ZcQ,ZaF,ZbB,Xr,Zbk,YJ,Zpq, *]) | (with_reducible refine And.intro ?_ ?_)))
   all_goals rw [ZK (n:=(i:Int)+1) (by omega) (by omega)]
   ·refine ⟨i+1,b2,m+(l[i].ex p).full,by omega,rfl,hb.out.trans hb2,by rw [hN.out]; omega,?_⟩;rw [hH.out,Zqj]
   ·omega
  ·have hil:¬ (i:Int)<(l.length:Int):=by omega
   rw [Zp9 (by rw [Xu]; omega)] at hN;have hb:TL a N b:=by rw [hN]; exact hb
   clear hN;replace hb:=ZpM hb;replace hH:=ZpM hH
   (repeat' (first | (simp only [↓Zz,ZA,ptrV,ZpJ, *])))
   exact Zhg hb.out (by rw [hH.out]; exact ZpN _)
def isIf (d:Option TypeDesc):Bool:=match d with | some (.interface _)=>true | _=>false
theorem Zoq {d:Option TypeDesc} (h:isIf d=true):∃ e,d=some (.interface e):=by
 unfold isIf at h;split at h
 ·rename_i e; exact ⟨e,rfl⟩
 ·cases h
theorem Zor:∃ e,Program.underlying Tryz.prog 95=some (.interface e):=Zoq (by kernel_rfl)
theorem neq_ifV {ox:Operand} {t:TypeId} {y:VV} {H:AH} {K:VE→AH→Prop}:vcBin Tryz.prog .neq 95 ox (.const .nilIface) (.iface t y) (.lit .nilIface) H K=K (.ret (boolV true)) H:=by
 unfold vcBin;simp only [Yw];exact propext ⟨fun h=>h.2.2 _ rfl,fun h=>⟨Zor,.inr (.inl rfl),fun b hb=>by rw [show b=false from hb]; exact h⟩⟩
theorem neq_ifN {ox:Operand} {H:AH} {K:VE→AH→Prop}:vcBin Tryz.prog .neq 95 ox (.const .nilIface) (.lit .nilIface) (.lit .nilIface) H K=K (.ret (boolV false)) H:=by
 unfold vcBin;simp only [Yw];exact propext ⟨fun h=>h.2.2 _ rfl,fun h=>⟨Zor,.inr (.inl rfl),fun b hb=>by rw [show b=true from hb]; exact h⟩⟩
theorem neq_val {v:Val} {fs:List Fu} {ox:Operand} {H:AH} {K:VE→AH→Prop}:vcBin Tryz.prog .neq 95 ox (.const .nilIface) (v.vv fs) (.lit .nilIface) H K=K (.ret (boolV true)) H:=by
 cases v<;>simp only [Val.vv]<;>exact neq_ifV
theorem ZcJ {fs:List Fu} {ks:List Ex} {eo:EnvO} {l:List Bd} {r:Nat} (hkl:ks.length≤10000) (ih:∀ k∈ks,∀ (b:Int) (H:AH),H r=some (tB b) → -2≤b→b≤5000→ZT Tryz.prog 52 [ptrV r 0,exV k,eoC fs eo] H (tlK r b (k.putM true l).full H))
 {a b0:Int} {n N:Nat} {t:Nat→VV} {H0 B:AH} (hN:N=n+XQ (ks.map (·.putM true l))) (hb:TL a n b0) (ha:a≤5000) (h0:t 0=ptrV r 0) (h2:t 2=eoC fs eo) (h42:t 42=exsV ks) (h43:t 43=iV ks.length) (h44:t 44=iV 0) (hB:SubH (H0.set r (tB b0)) B) :
 ACx ⟨Tryz.prog,53,none⟩ (.loop b52_1) (Xh 0 (YI Tryz.prog [] fun e H''=>∃ H',SubH H' H''∧tlK r a N H0 e H')) ⟨t,[]⟩ B:=by
 refine ZP (fun _ _ _ h=>h) (fun A H'=>A.d=[]∧A.t 0=ptrV r 0∧A.t 2=eoC fs eo∧A.t 42=exsV ks∧A.t 43=iV ks.length∧∃ (i:Nat) (b:Int) (m:Nat),i≤ks.length∧A.t 44=iV i∧TL a m b∧N=m+XQ ((ks.map (·.putM true l)).drop i)∧SubH (H0.set r (tB b)) H')
  (fun A _=>match A.t 44 with | .lit (.int _ i)=>((ks.length:Int)-i).toNat | _=>0) ?_ ?_
 ·exact ⟨rfl,h0,h2,h42,h43,0,b0,n,by omega,h44,hb,by simpa using hN,hB⟩
 ·clear h0 h2 h42 h43 h44 hN hB hb;rintro ⟨t,d⟩ H' ⟨rfl,h0,h2,h42,h43,i,b,m,hi,h44,hb,hN,hB⟩;dsimp only at h0 h2 h42 h43 h44;obtain ⟨e1,e2⟩:=ZhQ fs eo;delta b52_1 Zn Zr Zk Zb Zi Zg Za Zo Zm;by_cases hlt:i<ks.length
  ·have hil:(i:Int)<(ks.length:Int):=by omega
   have hdi:=XI hlt;have hr:=hB _ _ (ZpP _ _ _);have hv:=fun H (h:H r=some (tB b))=>ih _ (ZpW hlt) b H h hb.lo (by have:=hb.hi; omega)
   have hlt':i<(ks.map (·.putM true l)).length:=by rw [List.length_map]; exact hlt
   rw [ZcI hlt',ZqR] at hN
   have hst:∀ z X b2,H' z=none→SubH (H0.set r (tB b2)) ((H'.set z X).set r (tB b2)):=fun z X b2 hz=>by
    have h:=Zqk (hB.of_set (b:=X) (hB.none hz)) r (tB b2)
    rwa [Zqj] at h
   replace hN:=ZpM hN;replace hb:=ZpM hb;clear ih hB
   (repeat' (first | (simp only [↓Zz,ZA,ptrV,ZpI,ZpJ,ZpT,reduceCtorEq,setAt,ZpL,YZ,Zbh,Wj,Yx,en_52, *]) | (refine ZB fun zr zh=>?_; have zg:=zh; (try simp only [ZpO] at zg); (try have zn_hr:=ZpK hr zh); (try have zn_hr:=ZpK hr zg.2); (try have zn_hr:=ZpK hr zg.2.2))))
   refine ZeO (hv _ (by rw [ZpV _ _ zn_hr.1]; exact hr)) (fun b2 hb2=>?_);have hst2:=hst _ (.cells 35 [iV ks[i].op,sV ks[i].name,encS exE ks[i].kids] 0) b2 zh;replace hst2:=ZpM hst2;clear hst hv
   (repeat' (first | (simp only [↓Zz,ZA,ptrV,ZpI,ZpJ,reduceCtorEq, *]) | (with_reducible refine And.intro ?_ ?_)))
   all_goals rw [ZK (n:=(i:Int)+1) (by omega) (by omega)]
   ·exact ⟨i+1,b2,_,by omega,rfl,hb.out.trans hb2,by rw [hN.out]; omega,hst2.out⟩
   ·omega
  ·have hil:¬ (i:Int)<(ks.length:Int):=by omega
   rw [Zp9 (by rw [List.length_map]; omega)] at hN;have hb:TL a N b:=by rw [hN]; exact hb
   clear hN;replace hb:=ZpM hb;replace hB:=ZpM hB
   (repeat' (first | (simp only [↓Zz,ZA,ptrV,ZpJ, *])))
   exact Zhg hb.out hB.out
theorem ZmH {fs:List Fu} {p:Pr}:∀ (n:Nat) (e:Ex) (b:List ByteArray) (eo:EnvO) (l:List Bd),e.sz<n→e.sz≤10000→e.sdF p b=0→EnvR p eo l→(∀ s v,eoF eo s=some v→TlV fs p v)→∀ (r:Nat) (a:Int) (H:AH),H r=some (tB a) → -2≤a→a≤5000→ZT Tryz.prog 52 [ptrV r 0,exV e,eoC fs eo] H (tlK r a (e.putM true l).full H):=by
 intro n
 induction n with
 | zero=>intro e b eo l h0; omega
 | succ n ih =>
   intro e b eo l h0 hs hsd her hev r a H hr ha1 ha2;have hz:=e.sz_eq;have hkl:=YN e.kids;obtain ⟨e1,e2⟩:=ZhQ fs eo;refine WD ?_;refine ZE fd52 (by simp) ?_;delta c52 Zj Za Zq Zr Zd Zb Zm Zo Zc Zg Ze;have hf:=Zoh fs eo e.name;have hself:=Zaw hr
   have hkd5:e.op=5→∀ k∈e.kids,k.sdF p (b++[e.name])=0:=fun h5 k hk=>by
    have:=(ZaI.1 hsd).2 k hk
    rwa [if_pos h5] at this
   have hkd:¬ e.op=5→∀ k∈e.kids,k.sdF p b=0:=fun h5 k hk=>by
    have:=(ZaI.1 hsd).2 k hk
    rwa [if_neg h5] at this
   by_cases hneg:a<0
   ·replace hself:=ZpM hself;clear ih her hev hf
    (repeat' (first | (simp only [↓Zz,ZA,vcNil,ptrV,ZpI,ZpJ,reduceCtorEq,ZD,ZpL,undef,Je,ZQ, *]) | (refine ZB fun zr zh=>?_; have zg:=zh; (try simp only [ZpO] at zg); (try have zn_hr:=ZpK hr zh); (try have zn_hr:=ZpK hr zg.2); (try have zn_hr:=ZpK hr zg.2.2))))
    exact Znw (TL.stop hneg ha1) (by rw [hself.out]; exact ZpR (by assumption))
   ·have h9:¬ e.op=9:=by rcases ZbO hsd with h | h | h | h | h<;>omega
    rw [full_put h9,her e.name];by_cases h1:e.op=1
    ·rw [if_pos h1];cases hx:eoF eo e.name with
     | some v =>
       have hv:=hev _ _ hx;obtain ⟨o1,o2⟩:=WU fs v;replace hf:PureF Tryz.prog 48 [eoC fs eo,sV e.name] (v.vv fs):=by rw [hx] at hf; exact hf
       clear ih her hev hx
       (repeat' (first | (simp only [↓Zz,ZA,vcNil,ptrV,boolV,ZpI,ZpJ,reduceCtorEq,ZD,ZpL,undef,Zp5,neq_val,Je,Yg,Ym,ZQ,ZW,Zpt,Zpq, *]) | (refine ZB fun zr zh=>?_; have zg:=zh; (try simp only [ZpO] at zg); (try have zn_hr:=ZpK hr zh); (try have zn_hr:=ZpK hr zg.2); (try have zn_hr:=ZpK hr zg.2.2)) | (refine ZpQ (hf) ?_)))
       refine ZeO (hv r a _ (by rw [ZpV _ _ zn_hr.1]; exact hr) ha1 ha2) (fun b2 hb2=>?_);have hst2:=Zqk (ZpR (b:=.cells 35 [iV 1,sV e.name,encS exE e.kids] 0) zh) r (tB b2);replace hst2:=ZpM hst2;replace hb2:=ZpM hb2;clear hv hf
       (repeat' (first | (simp only [↓Zz, *])))
       exact Znw hb2.out hst2.out
     | none =>
       have hkd:=hkd (by omega);rw [if_neg (by omega:¬ e.op=5)];have hw1:IntKind.i64.wrap (a-1)=a-1:=ZK (by omega) (by omega);replace hf:PureF Tryz.prog 48 [eoC fs eo,sV e.name] nilI:=by rw [hx] at hf; exact hf
       clear hx
       (repeat' (first | (simp only [↓Zz,ZA,vcNil,ptrV,intV,boolV,ZpI,ZpJ,reduceCtorEq,ZD,setAt,ZpL,undef,Zp5,neq_ifN,Je,Yg,Ym,Yk,ZQ,ZW,Xa,Zbw,Yx,Zpt, *]) | (refine ZB fun zr zh=>?_; have zg:=zh; (try simp only [ZpO] at zg); (try have zn_hr:=ZpK hr zh); (try have zn_hr:=ZpK hr zg.2); (try have zn_hr:=ZpK hr zg.2.2)) | (refine ZpQ (hf) ?_)))
       refine ZcJ (eo:=eo) (l:=l) (b0:=a-1) (n:=1) (by omega) (fun k hk b2 H2 h2 h3 h4=>ih k b eo l (by have:=Ya hk; omega) (by have:=Ya hk; omega) (hkd k hk) her hev r b2 H2 h2 h3 h4) rfl (TL.one (by omega)) ha2 (by simp only [ZC,ZpI,if_false, *]<;>rfl) (by simp only [ZC,ZpI,if_false, *]<;>rfl) (by simp only [ZC,ZpI,if_true,if_false, *]<;>rfl) (by simp only [ZC,ZpI,if_true,if_false, *]<;>rfl) (by simp only [ZC,ZpI,if_true,if_false, *]<;>rfl) ?_;exact Zqk (ZpR zh) _ _
    ·rw [if_neg h1];have hw1:IntKind.i64.wrap (a-1)=a-1:=ZK (by omega) (by omega);by_cases h5:e.op=5
     ·have hkd5:=hkd5 h5;rw [if_pos h5]
      (repeat' (first | (simp only [↓Zz,ZA,vcNil,ptrV,intV,ZpI,ZpJ,ZpT,Zp1,reduceCtorEq,ZD,ZM,fillV,setAt,ZpL,cl_ni,undef,Zp5,ZM,Je,Yg,Ym,Yk,ZQ,ZW,Xa,Zbw,Zkp,Yx, *]) | (refine ZB fun zr zh=>?_; have zg:=zh; (try simp only [ZpO] at zg); (try have zn_hr:=ZpK hr zh); (try have zn_hr:=ZpK hr zg.2); (try have zn_hr:=ZpK hr zg.2.2))))
      rename_i r4 h4 g4 q4;refine WN (Ghost.slot (i:=2) (x':=eoC fs ((e.name,none)::eo)) (H':=((H.set r4 (.cells 35 [iV 5,sV e.name,encS exE e.kids] 0)).set r (tB (a-1)))) ?_) ?_
      ·simp only [ZC,ZpI,if_true,if_false];exact GhV.ptrN (ZpP _ _ _) zh (ZpR zh)
      refine ZcJ (eo:=(e.name,none)::eo) (l:=outB e.name l) (b0:=a-1) (n:=1) (by omega) (fun k hk b2 H2 h2 h3 h4=>ih k (b++[e.name]) _ _ (by have:=Ya hk; omega) (by have:=Ya hk; omega) (hkd5 k hk) (her.lam _) ?_ r b2 H2 h2 h3 h4) rfl (TL.one (by omega)) ha2 (by simp only [ZC,ZpI,if_false, *]<;>rfl) (by simp only [ZC,ZpI,if_true,if_false, *]<;>rfl) (by simp only [ZC,ZpI,if_true,if_false, *]<;>rfl) (by simp only [ZC,ZpI,if_true,if_false, *]<;>rfl) (by simp only [ZC,ZpI,if_true,if_false, *]<;>rfl) ?_
      ·intro s v hs
       change (if e.name=s then none else eoF eo s)=some v at hs
       split at hs
       ·cases hs
       ·exact hev s v hs
      ·exact Zqk (ZpR h4) _ _
     ·have hkd:=hkd h5;rw [if_neg h5]
      (repeat' (first | (simp only [↓Zz,ZA,vcNil,ptrV,intV,ZpI,ZpJ,reduceCtorEq,ZD,setAt,ZpL,undef,Je,Yg,Yk,ZQ,Xa,Zbw,Yx, *]) | (refine ZB fun zr zh=>?_; have zg:=zh; (try simp only [ZpO] at zg); (try have zn_hr:=ZpK hr zh); (try have zn_hr:=ZpK hr zg.2); (try have zn_hr:=ZpK hr zg.2.2))))
      refine ZcJ (eo:=eo) (l:=l) (b0:=a-1) (n:=1) (by omega) (fun k hk b2 H2 h2 h3 h4=>ih k b eo l (by have:=Ya hk; omega) (by have:=Ya hk; omega) (hkd k hk) her hev r b2 H2 h2 h3 h4) rfl (TL.one (by omega)) ha2 (by simp only [ZC,ZpI,if_false, *]<;>rfl) (by simp only [ZC,ZpI,if_false, *]<;>rfl) (by simp only [ZC,ZpI,if_true,if_false, *]<;>rfl) (by simp only [ZC,ZpI,if_true,if_false, *]<;>rfl) (by simp only [ZC,ZpI,if_true,if_false, *]<;>rfl) ?_;exact Zqk (ZpR zh) _ _
theorem ZgB:∀ {ns:List ByteArray} {vs:List Val} {s:ByteArray} {v:Val},eoF (eoOf ns vs) s=some v→v∈vs
 | [],vs,s,v,h=>by cases vs<;>cases h
 | n::ns,[],s,v,h=>by cases h
 | n::ns,w::vs,s,v,h=>by
   change (if n=s then some w else eoF (eoOf ns vs) s)=some v at h
   split at h
   ·cases h; simp
   ·exact List.mem_cons_of_mem _ (ZgB h)
theorem Zo6 {p:Pr}:∀ (N:Nat) (v:Val),v.sz≤N→v.ok p→TlV p.funs p v:=by
 intro N
 induction N with
 | zero=>intro v hv; have:=v.sz_eq; omega
 | succ N ih =>
   intro v hv hok r a H hr ha1 ha2;have hvz:=v.sz_eq;have hself:=Zaw hr;refine WD ?_;refine ZE fd27 (by simp) ?_;delta c27 Za Zq Zr Zd Zb Zm Zh Zi Zg Zo Ze;by_cases hneg:a<0
   ·replace hself:=ZpM hself;clear ih
    (repeat' (first | (simp only [↓Zz,ZA,vcNil,ptrV,ZpI,ZpJ,ZD,ZpL,undef,Je,ZQ, *])))
    exact Znw (TL.stop hneg ha1) (by rw [hself.out]; exact ZpN _)
   ·have hw1:IntKind.i64.wrap (a-1)=a-1:=ZK (by omega) (by omega);have hw2:IntKind.i64.wrap (a-1-1)=a-1-1:=ZK (by omega) (by omega);cases v with
    | built n ks =>
      obtain ⟨h1,h2⟩:=hok;have hz:Zaq ks+1≤N+1:=by have:(Val.built n ks).sz=1+Zaq ks:=rfl; omega
      have hvs:=fun H b h=>ZhY (fs:=p.funs) (p:=p) (l:=ks) (H:=H) (a:=b) (r:=r) (by omega) (fun v hv=>ih v (by have:=ZaJ hv; omega) (Xt.1 h2 v hv)) h
      have hfull:(Val.ex p (.built n ks)).full=1+XQ (ZL p ks):=by rw [Val.ex,Ex.full_eq]; rfl
      rw [hfull];rw [Zcz];replace hvs:=ZpM hvs;replace hself:=ZpM hself;clear ih hv hvz h2 hz hfull
      (repeat' (first | (simp only [↓Zz,ZA,vcNil,ZI,ptrV,boolV,ZpI,ZpJ,ZpT,reduceCtorEq,ZD,setAt,ZpL,undef,as_b,Je,ZaK,ZQ,JK,Zbv,Zbw,JD,Zpu, *]) | (refine ZB fun zr zh=>?_; have zg:=zh; (try simp only [ZpO] at zg); (try have zn_hr:=ZpK hr zh); (try have zn_hr:=ZpK hr zg.2); (try have zn_hr:=ZpK hr zg.2.2))))
      refine ZeO (hvs.out _ _ (ZpP _ _ _) (by omega) (by omega)) (fun b2 hb2=>?_);have hst2:=fun X=>Zqk (ZpR (b:=X) zh) r (tB b2)
      replace hst2:=ZpM hst2;replace hb2:=ZpM hb2
      (repeat' (first | (simp only [↓Zz,ZA, *])))
      exact Zhg ((TL.one (by omega)).trans hb2.out) (hst2.out _)
    | clo x b ns vs =>
      obtain ⟨⟨h1,h2,h3,h4,h5⟩,h6⟩:=hok;have hz:Zaq vs+1≤N+1:=by have:(Val.clo x b ns vs).sz=1+Zaq vs:=rfl; omega
      have hw:=fun H b' h=>ZmH (fs:=p.funs) (p:=p) ((Ex.mk 5 x [b]).sz+1) (.mk 5 x [b]) ns (eoOf ns vs) (bdL ns (ZL p vs)) (ZqK _) (by rw [Ex.sz_eq]; simp only [Ex.kids,exsSz]; omega) h2 (EnvR.of p ns vs) (fun s v hs=>ih v (by have:=ZaJ (ZgB hs); omega) (Xt.1 h6 v (ZgB hs))) r b' H h
      have hfull:((Ex.mk 5 x [b]).putM true (bdL ns (ZL p vs))).full=(Val.ex p (.clo x b ns vs)).full:=by
       rw [Ex.putM_eq,Val.ex]; rfl
      rw [hfull] at hw;rw [Zhc];obtain ⟨e1,e2⟩:=JU p.funs vs ns;rw [← Zgg] at hw;replace hw:=ZpM hw;replace hself:=ZpM hself;clear ih hv hvz h2 hz hfull
      (repeat' (first | (simp only [↓Zz,ZA,vcNil,ZI,ptrV,boolV,ZpI,ZpJ,ZpT,reduceCtorEq,ZD,setAt,ZpL,undef,as_bc,as_cc,Je,Zjj,Zjk,ZQ,YZ,Zer,Zko,Zgr,en_52, *]) | (refine ZB fun zr zh=>?_; have zg:=zh; (try simp only [ZpO] at zg); (try have zn_hr:=ZpK hr zh); (try have zn_hr:=ZpK hr zg.2); (try have zn_hr:=ZpK hr zg.2.2))))
      refine ZeO (hw.out _ _ (by rw [ZpV _ _ zn_hr.1]; exact hr) (by omega) (by omega)) (fun b2 hb2=>?_);have hst2:=fun X=>Zqk (ZpR (b:=X) zh) r (tB b2)
      replace hst2:=ZpM hst2;replace hb2:=ZpM hb2
      (repeat' (first | (simp only [↓Zz, *])))
      exact Zhg (hb2.out) (hst2.out _)
    | part j us =>
      obtain ⟨⟨h1,h2,h3⟩,h4⟩:=hok;have hz:Zaq us+1≤N+1:=by have:(Val.part j us).sz=1+Zaq us:=rfl; omega
      have hvs:=fun H b h=>ZhY (fs:=p.funs) (p:=p) (l:=us) (H:=H) (a:=b) (r:=r) h2 (fun v hv=>ih v (by have:=ZaJ hv; omega) (Xt.1 h4 v hv)) h
      rw [Zc7];by_cases h0:us.length=0
      ·have h0':¬ (0:Int)<(us.length:Int):=by omega
       have hfull:(Val.ex p (.part j us)).full=1+XQ (ZL p us):=by
        rw [Val.ex,if_pos h0,ZqD h0]; rfl
       rw [hfull];replace hvs:=ZpM hvs;replace hself:=ZpM hself;clear ih hv hvz h4 hz hfull h0
       (repeat' (first | (simp only [↓Zz,ZA,vcNil,ZI,ptrV,intV,boolV,ZpI,ZpJ,ZpT,reduceCtorEq,ZD,setAt,ZpL,undef,ZpE,ZpG,ZpF,Je,Zbl,ZQ,JK,Zbw,Zhv,ZdU,YJ,Zpu, *]) | (refine ZB fun zr zh=>?_; have zg:=zh; (try simp only [ZpO] at zg); (try have zn_hr:=ZpK hr zh); (try have zn_hr:=ZpK hr zg.2); (try have zn_hr:=ZpK hr zg.2.2))))
       refine ZeO (hvs.out _ _ (ZpP _ _ _) (by omega) (by omega)) (fun b2 hb2=>?_);have hst2:=fun X=>Zqk (ZpR (b:=X) zh) r (tB b2)
       replace hst2:=ZpM hst2;replace hb2:=ZpM hb2
       (repeat' (first | (simp only [↓Zz,ZA, *])))
       exact Zhg ((TL.one (by omega)).trans hb2.out) (hst2.out _)
      ·have h0':(0:Int)<(us.length:Int):=by omega
       have hfull:(Val.ex p (.part j us)).full=2+XQ (ZL p us):=by
        rw [Val.ex,if_neg h0,Ex.full_eq];show 1+XQ (.mk 2 (ZeK p j) []::ZL p us)=_;rw [XQ,Ex.full_eq];show 1+((1+0)+_)=_;omega
       rw [hfull];replace hvs:=ZpM hvs;replace hself:=ZpM hself;clear ih hv hvz h4 hz hfull h0
       (repeat' (first | (simp only [↓Zz,ZA,vcNil,ZI,ptrV,intV,boolV,ZpI,ZpJ,ZpT,reduceCtorEq,ZD,setAt,ZpL,undef,ZpE,ZpG,ZpF,Je,Zbl,ZQ,JK,Zbw,Zhv,ZdU,YJ,Zpu, *]) | (refine ZB fun zr zh=>?_; have zg:=zh; (try simp only [ZpO] at zg); (try have zn_hr:=ZpK hr zh); (try have zn_hr:=ZpK hr zg.2); (try have zn_hr:=ZpK hr zg.2.2))))
       refine ZeO (hvs.out _ _ (ZpP _ _ _) (by omega) (by omega)) (fun b2 hb2=>?_);have hst2:=fun X=>Zqk (ZpR (b:=X) zh) r (tB b2)
       replace hst2:=ZpM hst2;replace hb2:=ZpM hb2
       (repeat' (first | (simp only [↓Zz,ZA, *])))
       exact Zhg ((TL.two (by omega)).trans hb2.out) (hst2.out _)
end Go.PV.YtglpmlbbaedbiaaGreat
end
section
open Bool renaming and_eq_true→ZqA
open Go.PV.AH renaming set_none→ZpO,get→ZpU,set_same→ZpP
open Go.PV.GhV renaming forget→Zqq
open Go.PV.Hold renaming mk→ZpM
open Go.PV.SubH renaming refl→ZpN,of_set→ZpS,new→ZpR
open List renaming getElem_mem→ZpW,drop_zero→ZqL,drop→ZpL,getElem_map→ZqR,take_of_length_le→Zqr
open Nat renaming reduceEqDiff→ZpI,reduceLT→ZpJ,reduceAdd→ZpT,reduceLeDiff→Zp1,reduceMul→Zqu
open Option renaming bind_some→Zqg,map_some→Zp6
set_option maxRecDepth 20000
set_option maxHeartbeats 4000000
namespace Go.PV.YtglpmlbbaedbiaaGreat
open Go Go.Proofs
mutual
def Val.pl:Val→Bool
 | .built _ ks=>Zb5 ks
 | .clo _ _ _ _=>false
 | .part _ _=>false
def Zb5:List Val→Bool
 | []=>true
 | v::l=>v.pl && Zb5 l
end
theorem Zfb:∀ {l:List Val},Zb5 l=true↔∀ v∈l,v.pl=true
 | []=>by simp [Zb5]
 | v::l=>by rw [Zb5,ZqA,Zfb (l:=l)]; simp
theorem ZmI {l:List Val} {i:Nat} (h:i<l.length) (hp:l[i].pl=false):Zb5 l=false:=by
 cases hv:Zb5 l with
 | false=>rfl
 | true=>rw [Zfb.1 hv _ (ZpW h)] at hp; cases hp
def plK (p:Pr) (v:Val) (H:AH) (e:VE) (H':AH):Prop:=(if v.pl=true then e=.ret (exV (v.ex p)) else e=.pan (stopE 423))∧H'=H
theorem pl_use {p:Pr} {v:Val} {H:AH} {f:FuncId} {xs:List VV} {K:VE→AH→Prop} (h:ZT Tryz.prog f xs H (plK p v H)) (h1:v.pl=true→K (.ret (exV (v.ex p))) H) (h2:v.pl=false→K (.pan (stopE 423)) H):ZT Tryz.prog f xs H K:=h.mono fun e H' hq=>by
 obtain ⟨hq,rfl⟩:=hq;cases hp:v.pl with
 | true=>rw [if_pos hp] at hq; rw [hq]; exact h1 hp
 | false=>rw [if_neg (by rw [hp]; simp)] at hq; rw [hq]; exact h2 hp
def plQ (p:Pr) (v:Val) (H0:AH):APost:=YI Tryz.prog [.cell 2 35] (ghK (plK p v H0))
theorem Znx {p:Pr} {v:Val} {H0 H:AH} {t:Nat→VV} (hv:v.pl=false) (hs:SubH H0 H):plQ p v H0 (.panic (stopE 423)) ⟨t,[]⟩ H :=
 ⟨rfl,H,ZpN _,H0,hs,by rw [if_neg (by rw [hv]; simp)],rfl⟩
theorem pl_ret {p:Pr} {v:Val} {H0 H:AH} {t:Nat→VV} {r sp:Nat} {e':TypeId} (hv:v.pl=true) (h2:t 2=ptrV r 0) (k2:H r=some (.cells e' [iV (v.ex p).op,sV (v.ex p).name,exsV (v.ex p).kids] sp)) (hs:SubH H0 H):plQ p v H0 .ret ⟨t,[]⟩ H:=by
 refine ⟨rfl,exV (v.ex p),H,exV (v.ex p),?_,.refl _ _,_,H0,Zqq hs _,by rw [if_pos hv],rfl⟩;simp only [resV,YY,YX,YZ,h2,k2,ptrV,ZqL,XT,Zqg,Zp6,tupV]
theorem plain_ok (p:Pr):∀ (n:Nat) (v:Val) (H:AH),v.sz<n→v.ok p→ZT Tryz.prog 28 [v.vv p.funs] H (plK p v H):=by
 intro n
 induction n with
 | zero=>intro v H h; omega
 | succ n ih =>
   intro v H0 hn hok;refine JH ?_;refine ZE fd28 (by simp) ?_
   change vc _ _ (plQ p v H0) _ _
   delta c28 Zi Za Zq Zr Zh Zg Zc Zd Zb Ze;have hvz:=v.sz_eq;cases v with
   | clo x b ns vs =>
     have hpl:(Val.clo x b ns vs).pl=false:=rfl;rw [Zhc];clear ih
     (repeat' (first | (simp only [↓Zz,ZA,Xc,ZI,ptrV,boolV,ZpI,ZpJ,ZpT,reduceCtorEq,ZD,ZM,fillV,setAt,undef,as_bc,zc_b,ZM,Xc,ZbJ,Zbv,Wj,JD,Zeq, *]) | (refine ZB fun zr zh=>?_; have zg:=zh; (try simp only [ZpO] at zg))))
     exact Znx hpl (by repeat (first | assumption | exact ZpN _ | refine ZpS ?_ (by simp only [*])))
   | part j us =>
     have hpl:(Val.part j us).pl=false:=rfl;rw [Zc7];clear ih
     (repeat' (first | (simp only [↓Zz,ZA,Xc,ZI,ptrV,boolV,ZpI,ZpJ,ZpT,reduceCtorEq,ZD,ZM,fillV,setAt,undef,ZpE,zc_b,ZM,Xc,ZbJ,Zbv,Wj,JD,Zeq, *]) | (refine ZB fun zr zh=>?_; have zg:=zh; (try simp only [ZpO] at zg))))
     exact Znx hpl (by repeat (first | assumption | exact ZpN _ | refine ZpS ?_ (by simp only [*])))
   | built m ks =>
     obtain ⟨hkl,hko⟩:=hok;have hz:Zaq ks+1<n+1:=by have:(Val.built m ks).sz=1+Zaq ks:=rfl; omega
     have ih':∀ i (h:i<ks.length) (H:AH),ZT Tryz.prog 28 [ks[i].vv p.funs] H (plK p ks[i] H):=fun i h H=>ih _ H (by have:=ZaJ (ZpW h); omega) (Xt.1 hko _ (ZpW h))
     rw [Zcz];clear ih hz hn hvz hko
     (repeat' (first | (simp only [↓Zz,ZA,ZI,ptrV,intV,boolV,ZpI,ZpJ,ZpT,Zp1,reduceCtorEq,ZD,ZM,fillV,setAt,ZpL,undef,as_b,ZM,ZdV,ZaK,ZW,JK,Zbh,stT_35,Zbv,Wj,JD,YJ, *]) | (refine ZB fun zr zh=>?_; have zg:=zh; (try simp only [ZpO] at zg))))
     rename_i r2 n2 n2' r3 n3 n3';obtain ⟨es,hes⟩:∃ es,es=ZL p ks:=⟨_,rfl⟩
     have hel:es.length=ks.length:=by rw [hes,Xu]
     have hei:∀ i (h:i<ks.length) (h':i<es.length),ks[i].ex p=es[i]:=fun i h h'=>by simp only [hes,Xg,ZqR]
     have hexx:(Val.built m ks).ex p=.mk 3 m es:=by rw [Val.ex,hes]
     have f2:H0 r2=none:=by simpa using n2'
     have f3:H0 r3=none:=n3'.2;have f5:H0 zr=none:=by simp only [zg]
     have d2:¬ zr=r2∧¬ r2=zr:=by simp only [zg]; simp
     have hsB:SubH H0 ((H0.set r2 (.cells 35 [iV 0,sV ⟨#[]⟩,.lit (.slice none 0 0)] 0)).set r3 (.cells 142 [sV m,vsV p.funs ks] 0)):=(by repeat (first | assumption | exact ZpN _ | refine ZpS ?_ (by simp only [*])))
     have k2:((H0.set r2 (.cells 35 [iV 0,sV ⟨#[]⟩,.lit (.slice none 0 0)] 0)).set r3 (.cells 142 [sV m,vsV p.funs ks] 0)) r2=some (.cells 35 [iV 0,sV ⟨#[]⟩,.lit (.slice none 0 0)] 0):=(by simp only [ZpU, *,if_true,if_false]<;>rfl)
     have hzB:((H0.set r2 (.cells 35 [iV 0,sV ⟨#[]⟩,.lit (.slice none 0 0)] 0)).set r3 (.cells 142 [sV m,vsV p.funs ks] 0)) zr=none:=zh;clear zg zh n2 n2' n3 n3' hes f3;generalize (H0.set r2 (.cells 35 [iV 0,sV ⟨#[]⟩,.lit (.slice none 0 0)] 0)).set r3 (.cells 142 [sV m,vsV p.funs ks] 0)=B at *
     have hin:InB B (B.set zr (.cells 35 [iV 3,sV m,.lit (.slice none 0 0)] 0)) zr 35 [iV 3,sV m] [] 35 3 0 [] (.lit (.slice none 0 0)) _ :=
      InB.start (ZpP _ _ _) (ZpR hzB) hzB
     refine ZP (fun _ _ _ h=>h) (fun A H=>A.d=[]∧A.t 2=ptrV r2 0∧A.t 5=ptrV zr 0∧A.t 21=vsV p.funs ks∧A.t 22=iV ks.length∧∃ (i:Nat) (v:VV) (Hb:AH),i≤ks.length∧A.t 23=iV i∧InB B H zr 35 [iV 3,sV m] [] 35 3 i (encC exE (es.take i)) v Hb∧∀ k (h:k<ks.length),k<i→ks[k].pl=true)
      (fun A _=>match A.t 23 with | .lit (.int _ i)=>((ks.length:Int)-i).toNat | _=>0) ?_ ?_
     ·exact ⟨rfl,(by simp only [ZC,ZpI,if_true,if_false, *]<;>rfl),(by simp only [ZC,ZpI,if_true,if_false, *]<;>rfl),(by simp only [ZC,ZpI,if_true,if_false, *]<;>rfl),(by simp only [ZC,ZpI,if_true,if_false, *]<;>rfl),0,_,_,by omega,(by simp only [ZC,ZpI,if_true,if_false, *]<;>rfl),hin,fun k h h'=>by omega⟩
     ·clear hin;rintro ⟨t,d'⟩ H ⟨rfl,h2,h5,h21,h22,i,v,Hb,hi,h23,hb,hall⟩;dsimp only at h2 h5 h21 h22 h23;have q5:=hb.at;have q2:=hb.sub' _ _ k2;delta b28_1 Zn Zr Zk Zb Zc Zd Za Zo Zq Zl Zg Zm;by_cases hlt:i<ks.length
      ·have hil:(i:Int)<(ks.length:Int):=by omega
       have e2:=ZdG (fs:=p.funs) hlt;obtain ⟨o1,o2⟩:=WU p.funs ks[i];have hc:=ih' i hlt H;have hei':=hei i hlt (by omega);have hnot:=fun h=>ZmI hlt h
       clear ih' hei
       (repeat' (first | (simp only [↓Zz,ZA,ptrV,ZpI,ZpJ,ZpL,Yk,Zbk,Xa,YJ,en_28, *]) | (refine ZJ mixed (fun _ _ _ _ e h=>⟨e.trans h.1,h.2⟩) _ (ZpN _) ?_)))
       refine pl_use hc (fun hpi=>?_) (fun hpi=>?_)
       ·rw [hei']
        have hall':∀ k (h:k<ks.length),k<i+1→ks[k].pl=true:=fun k h h'=>by
         rcases Nat.lt_succ_iff_lt_or_eq.1 h' with h1 | rfl
         ·exact hall k h h1
         ·exact hpi
        replace hall':=ZpM hall';clear hall hpi hnot hei' hc
        (repeat' (first | (simp only [↓Zz,ZA,ZpI,ZpJ,ZpT,Zqu,Zp1,fillV,setAt,ZH,ZH,Wj,Yx, *]) | (exact ZpN _) | (with_reducible refine And.intro ?_ ?_)))
        refine WH Yx Wj rfl (by omega) hb.own rfl rfl (by omega) (by omega) (fun v' H' ho=>?_);have hb2:=hb.next ho;have q5':=ho.sub _ _ hb.blk;have hc1:=ho.cells.1;have hc2:=ho.cells.2;clear hb q5 q2 ho
        (repeat' (first | (simp only [↓Zz,ZA,ptrV,ZpI,ZpJ,ZpT,setAt,Yk,szT_33, *]) | (with_reducible refine And.intro ?_ ?_)))
        all_goals rw [ZK (n:=(i:Int)+1) (by omega) (by omega)]
        ·rw [← Zkw (by omega)] at hb2;exact ⟨i+1,v',_,by omega,rfl,hb2,hall'.out⟩
        ·omega
       ·have hpn:(Val.built m ks).pl=false:=hnot hpi;have hsu:=hsB.trans hb.sub';clear hnot hc hei' hall
        (repeat' (first | (simp only [↓Zz, *])))
        exact Znx hpn hsu
      ·have hil:¬ (i:Int)<(ks.length:Int):=by omega
       have hie:i=ks.length:=by omega
       subst hie
       have hpl:(Val.built m ks).pl=true:=by
        rw [Val.pl,Zfb];intro v hv;obtain ⟨k,hk,rfl⟩:=List.getElem_of_mem hv;exact hall k hk hk
       rw [Zqr (by omega)] at hb
       (repeat' (first | (simp only [↓Zz,ZA,ptrV,ZpJ, *])))
       refine WN (hb.ghost _ _) ?_;have hx:Blk.cells 35 ([iV 3,sV m]++[.slice false ks.length (encC exE es)]) 0=.cells 35 [iV 3,sV m,encS exE es] 0:=by rw [← hel]; rfl
       rw [hx];clear hb q5 q2 hx ih';refine ZV rfl (fun _ _ _ h=>h) ?_;delta c28_1 Zb Zg;have hq:=ZpM hexx;clear hexx
       (repeat' (first | (simp only [↓Zz,ZA,ptrV,ZpI,ZpJ,ZpT,setAt,ZpL,YZ,Zbh, *])))
       refine pl_ret hpl (by simp only [ZC,ZpI,if_false, *]<;>rfl) (e':=35) (sp:=0) (by rw [hq.out]; exact ZpP _ _ _) ((hsB.of_set f5).of_set f2)
end Go.PV.YtglpmlbbaedbiaaGreat
end
section
open Go.PV.AH renaming set_none→ZpO,set_same→ZpP,set_ne→ZpV
open Go.PV.Hold renaming mk→ZpM
open Go.PV.PureF renaming forget→Zp4,use→ZpQ
open Go.PV.SubH renaming refl→ZpN,of_set→ZpS,new→ZpR
open Int renaming reduceLE→Zqi
open List renaming drop_eq_getElem_cons→Zql,drop→ZpL,getElem_mem→ZpW,drop_eq_nil_of_le→Zp9
open Nat renaming reduceEqDiff→ZpI,reduceLT→ZpJ
set_option maxRecDepth 20000
set_option maxHeartbeats 4000000
namespace Go.PV.YtglpmlbbaedbiaaGreat
open Go Go.Proofs
mutual
def Ex.mk9:Ex→Prop
 | .mk op _ ks=>(op=9→¬ ks=[])∧Zi3 ks
def Zi3:List Ex→Prop
 | []=>True
 | k::ks=>k.mk9∧Zi3 ks
end
theorem ZhZ:∀ {ks:List Ex},Zi3 ks↔∀ k∈ks,k.mk9
 | []=>by simp [Zi3]
 | k::ks=>by rw [Zi3,ZhZ (ks:=ks)]; simp
theorem Ex.mk9_iff {e:Ex}:e.mk9↔(e.op=9→¬ e.kids=[])∧∀ k∈e.kids,k.mk9:=by cases e; rw [Ex.mk9,ZhZ]; rfl
theorem mk9_sd {p:Pr}:∀ (e:Ex) (b:List ByteArray),e.sdF p b=0→e.mk9:=by
 intro e;refine Ex.ind (p:=fun e=>∀ b,e.sdF p b=0→e.mk9) (fun e ih b h=>?_) e;obtain ⟨h1,h2⟩:=ZaI.1 h;exact Ex.mk9_iff.2 ⟨fun h9=>by rcases ZbO h with h | h | h | h | h<;>omega,fun k hk=>ih k hk _ (h2 k hk)⟩
theorem mk9_put:∀ (e:Ex) (l:List Bd),e.mk9→(∀ b∈l,b.2.mk9)→(e.putM true l).mk9:=by
 intro e;refine Ex.ind (p:=fun e=>∀ (l:List Bd),e.mk9→(∀ b∈l,b.2.mk9)→(e.putM true l).mk9) (fun e ih l he hl=>?_) e;obtain ⟨h1,h2⟩:=Ex.mk9_iff.1 he;rw [Ex.putM_eq];split
 ·exact he
 ·split
  ·rename_i x hx;rw [if_pos rfl];refine Ex.mk9_iff.2 ⟨fun _=>by simp [Ex.kids],fun k hk=>?_⟩;rcases List.mem_singleton.1 hk with rfl
   split at hx
   ·obtain ⟨b,hb,_,rfl⟩:=ZjE hx;exact hl b hb
   ·cases hx
  ·refine Ex.mk9_iff.2 ⟨fun h=>by simpa [Ex.kids] using h1 h,fun k hk=>?_⟩;obtain ⟨k',hk',rfl⟩:=List.mem_map.1 hk;refine ih k' hk' _ (h2 k' hk') fun b hb=>?_
   split at hb
   ·exact hl b (List.mem_filter.1 hb).1
   ·exact hl b hb
mutual
theorem Val.ex_mk9 {p:Pr}:∀ v:Val,v.ok p→(v.ex p).mk9
 | .built n ks,h=>by
   rw [Val.ex];exact Ex.mk9_iff.2 ⟨(fun h=>by cases h),ZcZ ks h.2⟩
 | .clo x b ns vs,h=>by
   rw [Val.ex];refine Ex.mk9_iff.2 ⟨(fun h=>by cases h),fun k hk=>?_⟩;rcases List.mem_singleton.1 hk with rfl
   obtain ⟨⟨_,hs,hb,_⟩,hv⟩:=h;have hs:=(ZaI.1 hs).2 b (by simp [Ex.kids]);refine mk9_put _ _ (mk9_sd _ _ hs) fun b hb=>?_
   have hb:=(List.mem_filter.1 hb).1;unfold bdL at hb
   have:=(List.of_mem_zip (List.mem_reverse.1 hb)).2
   exact ZcZ vs hv _ this
 | .part j us,h=>by
   rw [Val.ex];split
   ·exact Ex.mk9_iff.2 ⟨(fun h=>by cases h),fun k hk=>by cases hk⟩
   ·refine Ex.mk9_iff.2 ⟨(fun h=>by cases h),fun k hk=>?_⟩;rcases List.mem_cons.1 hk with rfl | hk
    ·exact Ex.mk9_iff.2 ⟨(fun h=>by cases h),fun k hk=>by cases hk⟩
    ·exact ZcZ us h.2 _ hk
theorem ZcZ {p:Pr}:∀ l:List Val,YP p l→∀ k∈ZL p l,k.mk9
 | [],_,k,hk=>by cases hk
 | v::l,h,k,hk=>by
   rw [ZL] at hk;rcases List.mem_cons.1 hk with rfl | hk
   ·exact Val.ex_mk9 v h.1
   ·exact ZcZ l h.2 k hk
end
mutual
def Ex.plB:Ex→Bool
 | .mk op _ ks=>decide (op=3) && ZcA ks
def ZcA:List Ex→Bool
 | []=>true
 | k::ks=>k.plB && ZcA ks
end
theorem Ex.plB_eq (e:Ex):e.plB=(decide (e.op=3) && ZcA e.kids):=by cases e; rw [Ex.plB]; rfl
theorem Zlk {l:List Ex} {i:Nat} (h:i<l.length):ZcA (l.drop i)=(l[i].plB && ZcA (l.drop (i+1))):=by rw [Zql h,ZcA]
mutual
theorem Val.pl_ex (p:Pr):∀ v:Val,(v.ex p).plB=v.pl
 | .built n ks=>by rw [Val.ex,Ex.plB,ZjP p ks]; rfl
 | .clo _ _ _ _=>by rw [Val.ex,Ex.plB]; rfl
 | .part j us=>by rw [Val.ex]; split<;>rw [Ex.plB]<;>rfl
theorem ZjP (p:Pr):∀ l:List Val,ZcA (ZL p l)=Zb5 l
 | []=>rfl
 | v::l=>by rw [ZL,ZcA,Zb5,Val.pl_ex p v,ZjP p l]
end
def fullC (n:Nat) (most:Int):Int:=if (n:Int)≤most then n else most+1
theorem rfull_ok:∀ (e:Ex),e.wd→e.mk9→∀ most:Int,0≤most→most≤5000→PureF Tryz.prog 32 [exV e,iV most] (iV (fullC e.full most)):=by
 intro e;refine Ex.ind (p:=fun e=>e.wd→e.mk9→∀ most:Int,0≤most→most≤5000→PureF Tryz.prog 32 [exV e,iV most] (iV (fullC e.full most))) (fun e ih hwd hmk most h0 h1=>?_) e;obtain ⟨w1,w2⟩:=Ex.wd_iff.1 hwd;obtain ⟨m1,m2⟩:=Ex.mk9_iff.1 hmk;have ihk:∀ k∈e.kids,∀ most:Int,0≤most→most≤5000→PureF Tryz.prog 32 [exV k,iV most] (iV (fullC k.full most)):=fun k hk=>ih k hk (w2 k hk) (m2 k hk)
 clear ih w2 m2 hwd hmk;refine Zp4 fun H=>?_
 refine ZE fd32 (by simp) ?_;delta c32 Zj Zf Zd Zb Zm Zr Zq Za Zo Zc;rw [e.full_eq];by_cases h9:e.op=9
 ·rw [if_pos h9]
  obtain ⟨k,ks,hk⟩:∃ k ks,e.kids=k::ks:=by
   cases h:e.kids with
   | nil=>exact absurd h (m1 h9)
   | cons k ks=>exact ⟨k,ks,rfl⟩
  rw [hk] at ihk w1;rw [hk];have hq:=ihk k (by simp) most h0 h1;have hcs:encC exE (k::ks)=iV k.op::sV k.name::exsV k.kids::encC exE ks:=by rw [YF,Jt]; rfl
  have hd0:ZpL (Int.toNat 0 * 3) (iV k.op::sV k.name::exsV k.kids::encC exE ks)=iV k.op::sV k.name::exsV k.kids::encC exE ks:=rfl;have hl:(0:Int)<((ks.length+1:Nat):Int):=by omega
  have hln:(k::ks).length=ks.length+1:=rfl;rw [show exsHd (k::ks)=k.full from rfl];clear ihk m1
  (repeat' (first | (simp only [↓Zz,ZA,ptrV,ZpI,ZpJ,ZD,ZpL,undef,Zqi,ZR,ZO,Ye,Yd,ZQ,ZU,Zmf, *]) | (refine ZG ?_) | (refine ZB fun zr zh=>?_; have zg:=zh; (try simp only [ZpO] at zg)) | (exact ZpN _) | (refine ZpS ?_ ?_) | (refine ZpQ (hq) ?_)))
 ·rw [if_neg h9];clear m1;obtain ⟨N,hN⟩:∃ N,N=1+XQ e.kids:=⟨_,rfl⟩
  rw [← hN];replace hN:=ZpM hN
  (repeat' (first | (simp only [↓Zz,ZA,ptrV,ZpI,ZpJ,ZD,ZpL,undef,ZO,ZQ, *]) | (refine ZB fun zr zh=>?_; have zg:=zh; (try simp only [ZpO] at zg))))
  refine ZP (fun _ _ _ h=>h) (fun A H'=>SubH H H'∧H' zr=some (.cells 28 [iV e.op,sV e.name,encS exE e.kids] 0)∧A.d=[]∧A.t 1=iV most∧A.t 2=ptrV zr 0∧∃ (i:Nat) (n:Int),i≤e.kids.length∧A.t 6=iV i∧A.t 5=iV n∧1≤n∧((n≤most∧(N:Int)=n+XQ (e.kids.drop i))∨(n=most+1∧most<N)))
   (fun A _=>match A.t 6 with | .lit (.int _ i)=>((e.kids.length:Int)-i).toNat | _=>0) ?_ ?_
  ·refine ⟨ZpR zh,ZpP _ _ _,rfl,(by simp only [ZC,ZpI,if_false, *]<;>rfl),(by simp only [ZC,ZpI,if_true,if_false, *]<;>rfl),0,1,by omega,(by simp only [ZC,ZpI,if_true,if_false, *]<;>rfl),(by simp only [ZC,ZpI,if_true,if_false, *]<;>rfl),by omega,?_⟩;have hN':=hN.out;by_cases hm:1≤most
   ·exact .inl ⟨hm,by rw [hN']; simp⟩
   ·exact .inr ⟨by omega,by omega⟩
  ·clear hN;rintro ⟨t,d⟩ H' ⟨hs,k2,rfl,h1',h2,i,n,hi,h6,h5,hn1,hJ⟩;dsimp only at h1' h2 h5 h6;delta b32_1 Za Zd Zb Ze Zn Zp Zr Zq Zk Zo Zc Zm;by_cases hlt:i<e.kids.length
   ·have hil:(i:Int)<(e.kids.length:Int):=by omega
    rcases hJ with ⟨hle,hN⟩ | ⟨hgt,hN⟩
    ·have hki:=ihk _ (ZpW hlt) (most-n) (by omega) (by omega);have hdi:=XI hlt;rw [ZcI hlt] at hN;have hw1:IntKind.i64.wrap (most-n)=most-n:=ZK (by omega) (by omega);obtain ⟨y,hy⟩:∃ y,y=fullC (e.kids[i]).full (most-n):=⟨_,rfl⟩
     have hy2:0≤y∧n+y≤most+1∧(n+y≤most→y=(e.kids[i]).full)∧(most<n+y→n+y=most+1∧most<n+(e.kids[i]).full):=by
      rw [hy]; unfold fullC
      split<;>refine ⟨by omega,by omega,fun h=>by omega,fun h=>⟨by omega,by omega⟩⟩
     rw [← hy] at hki;have hw2:IntKind.i64.wrap (n+y)=n+y:=ZK (by omega) (by omega);replace hN:=ZpM hN;clear ihk hy
     (repeat' (first | (simp only [↓Zz,ZA,ptrV,intV,ZpI,ZpJ,reduceCtorEq,ZpL,ZR,Ye,Yd,ZU,Zmf, *]) | (refine ZpQ (hki) ?_) | (with_reducible refine And.intro ?_ ?_)))
     all_goals try rw [ZK (n:=(i:Int)+1) (by omega) (by omega)]
     all_goals try omega
     have hN:=hN.out;obtain ⟨y1,y2,y3,y4⟩:=hy2;refine ⟨i+1,n+y,by omega,rfl,rfl,by omega,?_⟩;by_cases hm:n+y≤most
     ·have:=y3 hm
      exact .inl ⟨hm,by omega⟩
     ·have:=y4 (by omega)
      exact .inr ⟨by omega,by omega⟩
    ·have hle:¬ n≤most:=by omega
     have hF:fullC N most=n:=by unfold fullC; rw [if_neg (by omega),hgt]
     rw [hF];clear ihk hF hgt hN
     (repeat' (first | (simp only [↓Zz,ZA,ptrV,intV,ZpI,ZpJ,reduceCtorEq,ZpL,ZR,Ye,ZU, *]) | (refine ZV rfl (fun _ _ _ h=>h) ?_)))
     delta c32_1 Za Zc
     (repeat' (first | (simp only [↓Zz,ZA,ZpI,ZpJ, *]) | (refine ZG ?_)))
     all_goals try exact hs
   ·have hil:¬ (i:Int)<(e.kids.length:Int):=by omega
    have hF:fullC N most=n:=by
     rw [Zp9 (by omega),XQ] at hJ;unfold fullC
     split<;>omega
    rw [hF];clear ihk hF hJ
    (repeat' (first | (simp only [↓Zz,ZA,ptrV,intV,ZpI,ZpJ,reduceCtorEq,ZN,ZD,ZpL,undef,ZR,Ye,ZU, *]) | (refine ZV rfl (fun _ _ _ h=>h) ?_)))
    delta c32_1 Za Zc
    (repeat' (first | (simp only [↓Zz,ZA,ZpI,ZpJ, *]) | (refine ZG ?_)))
    all_goals try exact hs
theorem Zo7:∀ (e:Ex),e.wd→PureF Tryz.prog 33 [exV e] (boolV e.plB):=by
 intro e;refine Ex.ind (p:=fun e=>e.wd→PureF Tryz.prog 33 [exV e] (boolV e.plB)) (fun e ih hwd=>?_) e;obtain ⟨w1,w2⟩:=Ex.wd_iff.1 hwd;have ihk:∀ k∈e.kids,PureF Tryz.prog 33 [exV k] (boolV k.plB):=fun k hk=>ih k hk (w2 k hk)
 clear ih w2 hwd;refine Zp4 fun H=>?_
 refine ZE fd33 (by simp) ?_;delta c33 Zj Zq Zd Zb Zm Zr Zf;rw [e.plB_eq];by_cases h3:e.op=3
 ·rw [show decide (e.op=3)=true by simp [h3],Bool.true_and];obtain ⟨R,hR⟩:∃ R,R=ZcA e.kids:=⟨_,rfl⟩
  rw [← hR];replace hR:=ZpM hR
  (repeat' (first | (simp only [↓Zz,ZA,ptrV,boolV,ZpI,ZpJ,ZD,ZpL,undef,ZO,ZQ, *]) | (refine ZB fun zr zh=>?_; have zg:=zh; (try simp only [ZpO] at zg))))
  refine ZP (fun _ _ _ h=>h) (fun A H'=>SubH H H'∧H' zr=some (.cells 28 [iV 3,sV e.name,encS exE e.kids] 0)∧A.d=[]∧A.t 1=ptrV zr 0∧∃ i:Nat,i≤e.kids.length∧A.t 3=iV i∧R=ZcA (e.kids.drop i))
   (fun A _=>match A.t 3 with | .lit (.int _ i)=>((e.kids.length:Int)-i).toNat | _=>0) ?_ ?_
  ·exact ⟨ZpR zh,ZpP _ _ _,rfl,(by simp only [ZC,ZpI,if_true,if_false, *]<;>rfl),0,by omega,(by simp only [ZC,ZpI,if_true,if_false, *]<;>rfl),hR.out⟩
  ·clear hR;rintro ⟨t,d⟩ H' ⟨hs,k2,rfl,h1,i,hi,h5,hR⟩;dsimp only at h1 h5;delta b33_1 Za Zd Zb Ze Zn Zr Zk Zo Zq Zm Zc;by_cases hlt:i<e.kids.length
   ·have hil:(i:Int)<(e.kids.length:Int):=by omega
    have hdi:=XI hlt;have hki:=ihk _ (ZpW hlt);rw [Zlk hlt] at hR;generalize hvi:(e.kids[i]).plB=vi at *
    replace hR:=ZpM hR;clear ihk;cases vi with
    | true =>
      (repeat' (first | (simp only [↓Zz,ZA,ptrV,intV,boolV,ZpI,ZpJ,reduceCtorEq,ZpL,ZR,Ye,Yd,ZU,Zps, *]) | (refine ZpQ (hki) ?_) | (with_reducible refine And.intro ?_ ?_)))
      all_goals try rw [ZK (n:=(i:Int)+1) (by omega) (by omega)]
      all_goals first
       | omega
       | exact ⟨i+1,by omega,rfl,by rw [hR.out]; rfl⟩
       | trace_state
    | false =>
      (repeat' (first | (simp only [↓Zz,ZA,ptrV,intV,boolV,ZpI,ZpJ,reduceCtorEq,ZpL,ZR,Ye,Yd,ZU,Zps, *]) | (refine ZG ?_) | (refine ZpQ (hki) ?_)))
      all_goals first
       | exact hs
       | (rw [hR.out]; rfl)
       | trace_state
   ·have hil:¬ (i:Int)<(e.kids.length:Int):=by omega
    rw [Zp9 (by omega)] at hR;have hR:R=true:=hR;rw [hR];clear hR ihk
    (repeat' (first | (simp only [↓Zz,ZA,ptrV,intV,ZpI,ZpJ,reduceCtorEq,ZpL,ZR,Ye,ZU, *]) | (refine ZV rfl (fun _ _ _ h=>h) ?_)))
    delta c33_1 Zq
    (repeat' (first | (simp only [↓Zz,ZA,ZpI,ZpJ, *]) | (refine ZG ?_)))
    all_goals try exact hs
 ·rw [show decide (e.op=3)=false by simp [h3],Bool.false_and];clear ihk
  (repeat' (first | (simp only [↓Zz,ZA,ptrV,boolV,ZpI,ZpJ,ZD,ZpL,undef,ZO,ZQ, *]) | (refine ZG ?_) | (refine ZB fun zr zh=>?_; have zg:=zh; (try simp only [ZpO] at zg)) | (exact ZpN _) | (refine ZpS ?_ ?_)))
theorem Zh0:∀ {l m:List Ex},¬ l.length=m.length→eqL Ex.beq l m=false
 | [],[],h=>absurd rfl h
 | [],_::_,_=>rfl
 | _::_,[],_=>rfl
 | a::l,b::m,h=>by rw [eqL,Zh0 (l:=l) (m:=m) (by simpa using h)]; simp
theorem rsame_ok:∀ a:Ex,∀ b,a.sz≤1099511627776→b.sz≤1099511627776→PureF Tryz.prog 35 [exV a,exV b] (boolV (a.beq b)):=by
 intro a;refine Ex.ind (p:=fun a=>∀ b,a.sz≤1099511627776→b.sz≤1099511627776→PureF Tryz.prog 35 [exV a,exV b] (boolV (a.beq b))) (fun a ih b ha hb=>?_) a;have l1:=YN a.kids;have l2:=YN b.kids;have z1:=a.sz_eq;have z2:=b.sz_eq;have ih':∀ (i:Nat) (h:i<a.kids.length) (h':i<b.kids.length),PureF Tryz.prog 35 [exV a.kids[i],exV b.kids[i]] (boolV (a.kids[i].beq b.kids[i])):=fun i h h'=>ih _ (ZpW h) _ (by have:=Ya (ZpW h); omega) (by have:=Ya (ZpW h'); omega)
 have n1:a.kids.length≤1099511627776:=by omega
 have n2:b.kids.length≤1099511627776:=by omega
 clear ih z1 z2 l1 l2 ha hb;rw [a.beq_eq];refine Zp4 fun H=>?_
 refine ZE fd35 (by simp) ?_;delta c35 Zj Zq Zd Zb Zn Za Zp Zr Zf;by_cases ho:a.op=b.op
 ·by_cases hnm:a.name=b.name
  ·by_cases hl:a.kids.length=b.kids.length
   ·have hF:(decide (a.op=b.op) && decide (a.name=b.name) && eqL Ex.beq a.kids b.kids)=eqL Ex.beq a.kids b.kids:=by simp [ho,hnm]
    rw [hF];clear hF;obtain ⟨R,hR⟩:∃ R,R=eqL Ex.beq a.kids b.kids:=⟨_,rfl⟩
    rw [← hR];have hlc:(a.kids.length:Int)=(b.kids.length:Int):=by omega
    replace hR:=ZpM hR;have hl':=ZpM hl;clear hl
    (repeat' (first | (simp only [↓Zz,ZA,↓XE,ptrV,intV,boolV,ZpI,ZpJ,reduceCtorEq,ZD,ZpL,undef,ZR,ZO,ZZ,Ye,ZQ,ZW,ZU, *]) | (refine ZB fun zr zh=>?_; have zg:=zh; (try simp only [ZpO] at zg))))
    rename_i r2 h2 g2;have hB2:((H.set r2 (.cells 28 [iV b.op,sV b.name,encS exE a.kids] 0)).set zr (.cells 28 [iV b.op,sV b.name,encS exE b.kids] 0)) r2=some (.cells 28 [iV b.op,sV b.name,encS exE a.kids] 0):=by rw [ZpV _ _ zg.1.2,ZpP]
    refine ZP (fun _ _ _ h=>h) (fun A H'=>SubH H H'∧H' r2=some (.cells 28 [iV b.op,sV b.name,encS exE a.kids] 0)∧H' zr=some (.cells 28 [iV b.op,sV b.name,encS exE b.kids] 0)∧A.d=[]∧A.t 2=ptrV r2 0∧A.t 3=ptrV zr 0∧∃ i:Nat,i≤a.kids.length∧A.t 5=iV i∧R=eqL Ex.beq (a.kids.drop i) (b.kids.drop i))
     (fun A _=>match A.t 5 with | .lit (.int _ i)=>((a.kids.length:Int)-i).toNat | _=>0) ?_ ?_
    ·exact ⟨ZpS (ZpR h2) zg.2,hB2,ZpP _ _ _,rfl,(by simp only [ZC,ZpI,if_true,if_false, *]<;>rfl),(by simp only [ZC,ZpI,if_true,if_false, *]<;>rfl),0,by omega,(by simp only [ZC,ZpI,if_true,if_false, *]<;>rfl),hR.out⟩
    ·clear hR hlc hB2;rintro ⟨t,d⟩ H' ⟨hs,k2,k3,rfl,t2,t3,i,hi,h5,hR⟩;dsimp only at t2 t3 h5;delta b35_1 Za Zd Zb Ze Zn Zr Zk Zo Zq Zm Zc;by_cases hlt:i<a.kids.length
     ·have hlt':i<b.kids.length:=by have:=hl'.out; omega
      have hil:(i:Int)<(a.kids.length:Int):=by omega
      have hil':(i:Int)<(b.kids.length:Int):=by omega
      have hdi:=XI hlt;have hdi':=XI hlt';have hki:=ih' i hlt hlt';rw [ZdD hlt hlt'] at hR;generalize hvi:(a.kids[i]).beq b.kids[i]=vi at *
      replace hR:=ZpM hR;clear ih';cases vi with
      | true =>
        (repeat' (first | (simp only [↓Zz,ZA,ptrV,intV,boolV,ZpI,ZpJ,reduceCtorEq,ZpL,ZR,Ye,Yd,ZU,en_35, *]) | (refine ZJ mixed (fun _ _ _ _ e h=>⟨e.trans h.1,h.2⟩) _ (ZpN _) ?_) | (refine ZpQ (hki) ?_) | (with_reducible refine And.intro ?_ ?_)))
        all_goals try rw [ZK (n:=(i:Int)+1) (by omega) (by omega)]
        all_goals first
         | omega
         | exact ⟨i+1,by omega,rfl,by rw [hR.out]; rfl⟩
         | trace_state
      | false =>
        (repeat' (first | (simp only [↓Zz,ZA,ptrV,intV,boolV,ZpI,ZpJ,reduceCtorEq,ZpL,ZR,Ye,Yd,ZU,en_35, *]) | (refine ZG ?_) | (refine ZJ mixed (fun _ _ _ _ e h=>⟨e.trans h.1,h.2⟩) _ (ZpN _) ?_) | (refine ZpQ (hki) ?_)))
        all_goals first
         | exact hs
         | (rw [hR.out]; rfl)
         | trace_state
     ·have hil:¬ (i:Int)<(a.kids.length:Int):=by omega
      rw [Zp9 (by omega),Zp9 (by have:=hl'.out; omega)] at hR;have hR:R=true:=hR;rw [hR];clear hR ih'
      (repeat' (first | (simp only [↓Zz,ZA,ptrV,intV,ZpI,ZpJ,reduceCtorEq,ZpL,ZR,Ye,ZU, *]) | (refine ZV rfl (fun _ _ _ h=>h) ?_)))
      delta c35_1 Zq
      (repeat' (first | (simp only [↓Zz,ZA,ZpI,ZpJ, *]) | (refine ZG ?_)))
      all_goals try exact hs
   ·have hlc:¬ (a.kids.length:Int)=(b.kids.length:Int):=by omega
    have hF:(decide (a.op=b.op) && decide (a.name=b.name) && eqL Ex.beq a.kids b.kids)=false:=by
     rw [Zh0 hl]; simp
    rw [hF];clear hF ih'
    (repeat' (first | (simp only [↓Zz,ZA,↓XE,ptrV,intV,boolV,ZpI,ZpJ,reduceCtorEq,ZD,ZpL,undef,ZR,ZO,ZZ,Ye,ZQ,ZW,ZU, *]) | (refine ZG ?_) | (refine ZB fun zr zh=>?_; have zg:=zh; (try simp only [ZpO] at zg)) | (exact ZpN _) | (refine ZpS ?_ ?_)))
  ·have hF:(decide (a.op=b.op) && decide (a.name=b.name) && eqL Ex.beq a.kids b.kids)=false:=by simp [hnm]
   rw [hF];clear hF ih'
   (repeat' (first | (simp only [↓Zz,ZA,↓XE,ptrV,boolV,ZpI,ZpJ,ZN,ZD,ZpL,undef,ZO,ZZ,ZQ,ZW, *]) | (refine ZG ?_) | (refine ZB fun zr zh=>?_; have zg:=zh; (try simp only [ZpO] at zg)) | (exact ZpN _) | (refine ZpS ?_ ?_)))
 ·have hF:(decide (a.op=b.op) && decide (a.name=b.name) && eqL Ex.beq a.kids b.kids)=false:=by simp [ho]
  rw [hF];clear hF ih'
  (repeat' (first | (simp only [↓Zz,ZA,ptrV,boolV,ZpI,ZpJ,ZN,ZD,ZpL,undef,ZO,ZQ, *]) | (refine ZG ?_) | (refine ZB fun zr zh=>?_; have zg:=zh; (try simp only [ZpO] at zg)) | (exact ZpN _) | (refine ZpS ?_ ?_)))
end Go.PV.YtglpmlbbaedbiaaGreat
end
