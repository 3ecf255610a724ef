/- Part 6 of 11 of what the proof of Runs needs. -/
import Derived.Test.YtglpmlbbaedbiaaGreatRuns5
set_option linter.unusedVariables false
set_option linter.unusedSimpArgs false
set_option linter.defProp false
section
open Bool renaming and_self→Zqo
open Go.PV.AH renaming del_ne→Zqf,set_none→ZpO,set_same→ZpP,get→ZpU,set_set→Zqj,ne_of→ZpK,set_ne→ZpV
open Go.PV.GhV renaming refl→Zp8
open Go.PV.Hold renaming mk→ZpM
open Go.PV.PureF renaming use→ZpQ
open Go.PV.SubH renaming new→ZpR,set→Zqk
open Int renaming natCast_nonneg→ZqU,toNat_natCast→ZqN
open List renaming length_append→Zqt,getElem_mem→ZpW,map_cons→Zp3,map_nil→Zqa,length_cons→Zqb,length_nil→Zqh,all_cons→Zqn,all_nil→Zqv,drop→ZpL,set_cons_zero→Zqs,set_cons_succ→Zqy,length_take→ZqI,append_nil→ZqJ,take_of_length_le→Zqr
open Nat renaming reduceEqDiff→ZpI,reduceLT→ZpJ,reduceAdd→ZpT,succ_ne_self→Zp7,zero_add→Zp2,le_refl→ZpY,reduceLeDiff→Zp1
open Option renaming bind_some→Zqg,map_some→Zp6
set_option maxRecDepth 20000
set_option maxHeartbeats 4000000
namespace Go.PV.YtglpmlbbaedbiaaGreat
open Go Go.Proofs
def varsL (L:List Pl):List ByteArray:=L.filterMap fun x=>if x.1.con=true then none else some x.1.name
theorem Zmx {L:List Pl} {k:Nat} (h:k<L.length):varsL (L.take (k+1))=varsL (L.take k)++(if L[k].1.con=true then [] else [L[k].1.name]):=by
 rw [XB h,varsL,List.filterMap_append]
 congr 1
 simp only [List.filterMap_cons,List.filterMap_nil]
 split<;>rename_i e<;>split at e<;>simp_all
theorem ZjA (L:List Pl):(varsL L).length≤L.length:=List.length_filterMap_le _ _
def varsP (p:Pa):List ByteArray:=varsL (p.all 0)
def YB (l:List Pa):List ByteArray:=l.flatMap varsP
theorem Zlf {l:List Pa} {i:Nat} (h:i<l.length):YB (l.take (i+1))=YB (l.take i)++varsP l[i]:=by
 rw [XB h,YB,List.flatMap_append]; simp [YB]
theorem ZoX (p:Pa):(varsP p).length≤p.sz:=by
 have:=ZjA (p.all 0); rw [p.all_len] at this; exact this
theorem ZcX:∀ l:List Pa,(YB l).length≤pasSz l
 | []=>by simp [YB]
 | p::l=>by
   have:=ZcX l; have:=ZoX p
   rw [YB,List.flatMap_cons,Zqt,pasSz]; unfold YB at *; omega
theorem ZhL {H0:AH} {v:VV} {n:Nat} {cs:List VV} {t:Nat→VV} (h2:t 2=v):∀ (rs:List Nat) (H Hb:AH),OwnX Hb H 9 1 v n cs→SubH H0 Hb→rs.Nodup→(∀ r∈rs,Hb r=some (.obj (.deferred (some [])))∧H0 r=none) →
 WL Tryz.prog [.tmp 2] (fun e H'=>∃ y,e=.ret y∧GhV H' y H0 (.slice false n cs)) t (rs.map JM) .returning H
 | [],H,Hb,ho,hs,_,_=>⟨v,H,v,by simp only [resV,YY,YX,h2,Zqg,Zp6,tupV],Zp8 _ _,v,rfl,GhV.back ho hs⟩
 | r::rs,H,Hb,ho,hs,hn,hr=>by
   have h1:=hr r (by simp);refine ⟨by simp,ho.sub _ _ h1.1,?_⟩
   exact ZhL h2 rs (H.del r) (Hb.del r) (ho.del h1.1) (hs.del h1.2) (List.nodup_cons.1 hn).2 fun r' h'=>by
    have h3:=hr r' (by simp [h']);refine ⟨?_,h3.2⟩;rw [Zqf _ (fun e=>(List.nodup_cons.1 hn).1 (by rw [← e]; exact h'))];exact h3.1
def VInv (T:Nat→VV) (fn:FuncId) (ca cb:Code) (r r3 l0:Nat) (acc:List ByteArray) (L:List Pl) (k:Nat) (Hk B:AH):Prop :=
 ∃ v Hb,OwnX Hb B 9 1 v (acc++varsL (L.take k)).length (encC strE (acc++varsL (L.take k)))∧Hb r3=some (.cells 181 [v] 0)∧Hb l0=some (.loop .ready none fn 27 T #[15] ca cb r)∧SubH Hk Hb∧Hk r3=none∧Hk l0=none
theorem Zj9 (l:List Pa) (hs:pasSz l≤1099511627776):PureF Tryz.prog 117 [pasV l] (strsV (YB l)):=by
 have hl:=XY l;have hpz:∀ i (h:i<l.length),l[i].sz≤1099511627776:=fun i h=>by have:=Xm (ZpW h); omega
 have hvl:∀ i,(YB (l.take i)).length≤1099511627776:=fun i=>by have:=ZcX (l.take i); have:=ZcV l i; omega
 have hN:l.length≤1099511627776:=by omega
 clear hl hs;refine JN.pure fun H0=>?_
 refine ZaE fd117 (by simp) ?_;delta c117 Zq Zi Za Ze
 (repeat' (first | (simp only [↓Zz,ZA,ptrV,intV,ZpI,ZpJ,reduceCtorEq,ZD,undef,ZoI,WK, *]) | (refine ZB fun zr zh=>?_; have zg:=zh; (try simp only [ZpO] at zg))))
 have g3:=zh;have hI0:InB H0 (H0.set zr (.cells 181 [.lit (.slice none 0 0)] 0)) zr 181 [] [] 9 1 0 [] (.lit (.slice none 0 0)) _:=InB.start (ZpP _ _ _) (ZpR zh) zh;generalize zr=r3 at *
 refine ZP (fun _ _ _ h=>h) (fun A H'=>A.t 3=ptrV r3 0∧A.t 7=pasV l∧A.t 8=iV l.length∧∃ (i:Nat) (rs:List Nat) (v:VV) (Hb:AH),i≤l.length∧A.t 9=iV i∧A.d=rs.map JM∧rs.Nodup∧(∀ r∈rs,Hb r=some (.obj (.deferred (some [])))∧H0 r=none)∧InB H0 H' r3 181 [] [] 9 1 (YB (l.take i)).length (encC strE (YB (l.take i))) v Hb)
  (fun A _=>match A.t 9 with | .lit (.int _ i)=>((l.length:Int)-i).toNat | _=>0) ?_ ?_
 ·exact ⟨(by simp only [ZC,ZpI,if_true,if_false, *]<;>rfl),(by simp only [ZC,ZpI,if_true,if_false, *]<;>rfl),(by simp only [ZC,ZpI,if_true,if_false, *]<;>rfl),0,[],_,_,by omega,(by simp only [ZC,ZpI,if_true,if_false, *]<;>rfl),rfl,.nil,by simp,hI0⟩
 ·clear hI0;rintro ⟨t,d⟩ H' ⟨h3,h7,h8,i,rs,v,Hb,hi,h9,rfl,hnd,hrs,hin⟩;dsimp only at h3 h7 h8 h9;delta b117_1 Zn Zr Zk Zb Zi Zg Zo Zd Zq Zl;have q3:=hin.at;by_cases hlt:i<l.length
  ·have hil:(i:Int)<(l.length:Int):=by omega
   have hdi:=Wx hlt;replace hin:=ZpM hin;replace hrs:=ZpM hrs;replace hnd:=ZpM hnd
   (repeat' (first | (refine Znq _ (fun rb nb=>?_)) | (simp only [↓Wq,↓Wg,↓XM,↓ZfI,↓XN,↓Xz,↓XZ,↓Zkr,↓Xe,↓Yf,↓Yi,↓Yu,↓Yr,↓XJ,↓Ys,↓XK,↓Yt,↓WZ,↓ZC,↓YA,↓YU,↓Wr,↓Wv,↓Xf,↓XP,↓XF,↓Wm,ptrV,Zp3,Zqa,Zqb,Zqh,ite_true,ite_false,ZpI,ZpJ,ZpT,true_and,Zp7,decide_true,ZqU,ZqN,ZpU,Zqj,setAt,Zqn,Zqv,Zqo,eq_self,Zp2,ZpL,and_self,XT,ZnZ,We,YT,Xi,Zqs,Zqy,↓Ww,XW,ZpY,ZbA,XG,ZcQ,ZaF,XH,ZbB,Xr,WP,WQ,WB,Zep,Jy,WK,ZkQ, *]) | (refine ZB fun zr zh=>?_; have zg:=zh; (try simp only [ZpO] at zg); (try have zn_q3:=ZpK q3 zh); (try have zn_q3:=ZpK q3 zg.2); (try have zn_q3:=ZpK q3 zg.2.2))))
   simp only [ZpO] at nb;have hin1:=((hin.out.alloc zh (.cells 74 [bV l[i].con,sV l[i].name,encS paE l[i].kids] 0)).alloc (z:=rb) (by rw [ZpO]; exact nb) (.cells 74 [bV l[i].con,sV l[i].name,encS paE l[i].kids] 0))
   have hbn:=fun (x:Nat) (h:H' x=none)=>hin.out.own.sub.none h
   have hrs1:∀ r∈rs,((Hb.set zr (.cells 74 [bV l[i].con,sV l[i].name,encS paE l[i].kids] 0)).set rb (.cells 74 [bV l[i].con,sV l[i].name,encS paE l[i].kids] 0)) r=some (.obj (.deferred (some [])))∧H0 r=none:=fun r hr=>by
    have h:=hrs.out r hr;have e1:=ZpK h.1 (hbn _ zh);have e2:=ZpK h.1 (hbn _ nb.2);exact ⟨by rw [ZpV _ _ e2.1,ZpV _ _ e1.1]; exact h.1,h.2⟩
   refine ZbF (fun t H=>t 3=ptrV r3 0∧t 7=pasV l∧t 8=iV l.length∧t 9=iV i∧t 14=.func (.func 141) [] [ptrV rb 0]∧H rb=some (.cells 74 [bV l[i].con,sV l[i].name,encS paE l[i].kids] 0)∧∃ Hb,(∀ r∈rs,Hb r=some (.obj (.deferred (some [])))∧H0 r=none)∧InB H0 H r3 181 [] [] 9 1 (YB (l.take i)).length (encC strE (YB (l.take i))) v Hb)
    ⟨(by simp only [ZC,ZpI,if_false, *]<;>rfl),(by simp only [ZC,ZpI,if_false, *]<;>rfl),(by simp only [ZC,ZpI,if_false, *]<;>rfl),(by simp only [ZC,ZpI,if_false, *]<;>rfl),(by simp only [ZC,ZpI,if_true,if_false, *]<;>rfl),ZpP _ _ _,_,hrs1,hin1⟩ ?_
   clear hin1 hrs1 hbn nb hin hrs q3 h3 h7 h8 h9 hdi;have hsnoc:=Zlf hlt;have hp:=hpz i hlt;have hv1:=hvl (i+1);have hv0:=hvl i;clear hpz hvl;generalize l[i]=p at *
   rintro t Hx ⟨t3,t7,t8,t9,t14,xb,Hb,hrs,hin⟩;refine Zd2 rfl (.inl t14) (by kernel_rfl) ?_;intro r l0 fn ca cb hca hcb hr hl0 hne hfn;have hbr:Hb r=none:=hin.own.sub.none hr;have hbl:Hb l0=none:=hin.own.sub.none hl0;have d3r:=ZpK hin.blk hbr;have d3l:=ZpK hin.blk hbl;obtain ⟨Hk,hHk⟩:∃ Hk,Hk=(Hb.del r3).set r (.obj (.deferred (some []))):=⟨_,rfl⟩
   have k3:Hk r3=none:=by rw [hHk,ZpV _ _ d3r.1,AH.del_same]
   have kl:Hk l0=none:=by rw [hHk,ZpV _ _ hne,Zqf _ d3l.2]; exact hbl
   have kr:Hk r=some (.obj (.deferred (some []))):=by rw [hHk]; exact ZpP _ _ _
   have k0:SubH H0 Hk:=by rw [hHk]; exact (hin.sub.del hin.new).of_set (hin.sub.none hbr)
   have krs:∀ r'∈rs,Hk r'=some (.obj (.deferred (some [])))∧H0 r'=none:=fun r' h'=>by
    have h:=hrs r' h';have e1:=ZpK h.1 hbr;refine ⟨?_,h.2⟩;rw [hHk,ZpV _ _ e1.1,Zqf _ (fun e=>by rw [e,hin.blk] at h; cases h.1)];exact h.1
   have h0r:H0 r=none:=hin.sub.none hbr;have h0l:H0 l0=none:=hin.sub.none hbl;have hrn:r ∉ rs:=fun h=>by have:=(hrs r h).1; rw [hbr] at this; cases this
   refine allRun2 (p:=p) (Hb:=Hk) (Inv:=VInv t fn ca cb r r3 l0 (YB (l.take i)) (p.all 0)) (Stop:=fun _ _=>False) (fun k Hq B h=>?_) (fun k Hq B z b h hz=>?_) hp ?_ (fun _ _ _=>rfl) rfl rfl (s0:=0) ?_ ?_ ?_ (fun _ _ _ h=>h.elim)
   ·obtain ⟨v,Hb,ho,_,_,hs,_⟩:=h;exact hs.trans ho.sub
   ·obtain ⟨v,Hb,ho,h3,hl,hs,n3,nl⟩:=h;have hbz:=ho.sub.none hz;have e3:=ZpK h3 hbz;have el:=ZpK hl hbz;exact ⟨v,Hb.set z b,ho.alloc hz b,by rw [ZpV _ _ e3.1]; exact h3,by rw [ZpV _ _ el.1]; exact hl,hs.set _ _,by rw [ZpV _ _ e3.1]; exact n3,by rw [ZpV _ _ el.1]; exact nl⟩
   ·rintro k hk Hq B ⟨v2,Hb2,ho,b3,bl,hsq,n3,nl⟩ K' hk1 hk2;have hBl:=ho.sub _ _ bl;have q3:=ho.sub _ _ b3;have c1:=ZlQ (p.all 0)[k].1;have hvs:=Zmx hk
    have hlen:((YB (l.take i))++varsL ((p.all 0).take k)).length≤2199023255552:=by
     have h1:=ZjA ((p.all 0).take k);have h2:((p.all 0).take k).length≤p.sz:=by rw [← p.all_len 0,ZqI]; omega
     rw [Zqt]; omega
    generalize (p.all 0)[k]=x at *
    replace ho:=ZpM ho;replace hsq:=ZpM hsq;replace hvs:=ZpM hvs;refine ZbS (l:=l0) (pe:=none) (fn:=fn) (N:=27) (t:=t) (ps:=#[15]) («asg»:=ca) (bd:=cb) (ds:=r) hBl rfl (by simp) hfn ?_;refine Zha hca ?_
    (repeat' (first | (simp only [↓Zz,ZA,ptrV,ZpI,ZpJ,ZpT,setAt,Zbp,Zkq,Zgu, *]) | (refine ZV rfl (fun _ _ _ h=>h) ?_) | (refine ZB fun zr zh=>?_; have zg:=zh; (try simp only [ZpO] at zg); (try have zn_q3:=ZpK q3 zh); (try have zn_q3:=ZpK q3 zg.2); (try have zn_q3:=ZpK q3 zg.2.2); (try have zn_hBl:=ZpK hBl zh); (try have zn_hBl:=ZpK hBl zg.2); (try have zn_hBl:=ZpK hBl zg.2.2)) | (with_reducible refine And.intro ?_ ?_)))
    ·exact ⟨none,rfl⟩
    ·intro pe;refine Zha hcb ?_;have hbz:=ho.out.sub.none zh;have el:=ZpK bl hbz;have e3:=ZpK b3 hbz;have blz:∀ b,(Hb2.set zr b) l0=some (.loop .ready none fn 27 t #[15] ca cb r):=fun b=>by rw [ZpV _ _ el.1]; exact bl
     have hqz:∀ b,SubH Hq (Hb2.set zr b):=fun b=>hsq.out.of_set (hsq.out.none hbz)
     (repeat' (first | (simp only [↓Zz,ZA,ptrV,boolV,ZpI,ZpJ,Zp1,reduceCtorEq,fillV,setAt,ZpL,ZH,ZaM,JA,WB,ZnN,ZW,Xy,Jd,Zes, *]) | (refine Yh ?_ ?_<;>intro) | (refine ZV rfl (fun _ _ _ h=>h) ?_) | (refine ZpQ (c1) ?_)))
     ·have hc:x.1.con=false:=by have h:(!x.1.con)=true:=by assumption
                                simpa using h
      have hx:=hvs.out;rw [if_neg (by simp [hc])] at hx;have hx2:YB (l.take i)++varsL ((p.all 0).take (k+1))=(YB (l.take i)++varsL ((p.all 0).take k))++[x.1.name]:=by rw [hx,List.append_assoc]
      refine WH Xy Jd rfl (by omega) ((ho.out.alloc zh _).put (blz _) _) rfl rfl (by omega) (by omega) (fun v' H'' ho2=>?_);have e2:encC strE ((YB (l.take i)++varsL ((p.all 0).take k))++[x.1.name])=encC strE (YB (l.take i)++varsL ((p.all 0).take k))++[sV x.1.name]:=by rw [Yl]; rfl
      have e3':((YB (l.take i)++varsL ((p.all 0).take k))++[x.1.name]).length=(YB (l.take i)++varsL ((p.all 0).take k)).length+1:=by rw [Zqt]; rfl
      have b3':∀ b c,((Hb2.set zr b).set l0 c) r3=some (.cells 181 [v2] 0):=fun b c=>by rw [ZpV _ _ d3l.1,ZpV _ _ e3.1]; exact b3
      have w3:=ho2.sub _ _ (b3' _ _);have wl:=ho2.sub _ _ (ZpP _ _ _);have hc1:=ho2.cells.1;have hc2:=ho2.cells.2;rw [← e2,← e3',← hx2] at ho2;replace ho2:=ZpM ho2;clear hx hx2 e2 e3' hvs
      (repeat' (first | (simp only [↓Zz,ZA,ptrV,ZpI,setAt,szT_181, *])))
      have wl2:(H''.set r3 (.cells 181 [v'] 0)) l0=some (.loop .busy pe fn 27 t #[15] ca cb r):=by rw [ZpV _ _ d3l.2]; exact wl
      refine ⟨⟨pe,wl2⟩,hk1 _ ⟨v',_,(ho2.out.put (b3' _ _) (.cells 181 [v'] 0)).put (by rw [ZpV _ _ d3l.2]; exact ZpP _ _ _) _,by rw [ZpV _ _ d3l.1]; exact ZpP _ _ _,ZpP _ _ _,(((hqz _).of_set nl).of_set n3).of_set nl,n3,nl⟩⟩
     ·have hc:x.1.con=true:=by have h:(!x.1.con)=false:=by assumption
                               simpa using h
      have hx:=hvs.out;rw [if_pos hc,ZqJ] at hx;refine ⟨⟨pe,ZpP _ _ _⟩,hk1 _ ⟨v2,(Hb2.set zr (.cells 241 [bV x.fst.con,sV x.fst.name,encS paE x.fst.kids,iV x.snd] 0)).set l0 (.loop .ready none fn 27 t #[15] ca cb r),?_,?_,ZpP _ _ _,(hqz _).of_set nl,n3,nl⟩⟩
      ·rw [Zqj,hx];exact (ho.out.alloc zh _).put (blz _) _
      ·rw [ZpV _ _ d3l.1,ZpV _ _ e3.1]; exact b3
   ·have e1:=ZpK xb hr;have e2:=ZpK xb hl0;rw [ZpV _ _ e2.1,ZpV _ _ e1.1]; exact xb
   ·refine ⟨v,(Hb.set r (.obj (.deferred (some [])))).set l0 (.loop .ready none fn 27 t #[15] ca cb r),?_,?_,ZpP _ _ _,?_,k3,kl⟩
    ·simp only [List.take_zero,varsL,List.filterMap_nil,ZqJ];exact (hin.own.alloc hr _).alloc (by rw [ZpV _ _ hne]; exact hl0) _
    ·rw [ZpV _ _ d3l.1,ZpV _ _ d3r.1]; exact hin.blk
    ·rw [hHk];exact (Zqk (fun i b h=>by rw [AH.del_get] at h; split at h; cases h; exact h) _ _).of_set (by rw [ZpV _ _ hne,Zqf _ d3l.2]; exact hbl)
   ·rintro Hd B u ⟨v2,Hb2,ho,b3,bl,hsq,n3,nl⟩ hd;have hBl:=ho.sub _ _ bl;refine ⟨.ready,none,hBl,by simp,?_⟩;rw [← p.all_len 0,Zqr (ZpY _)] at ho
    change OwnX Hb2 B 9 1 v2 (YB (l.take i)++varsP p).length (encC strE (YB (l.take i)++varsP p)) at ho
    rw [← hsnoc] at ho;have ho2:=ho.del bl;have q3:(Hb2.del l0) r3=some (.cells 181 [v2] 0):=by rw [Zqf _ d3l.1]; exact b3
    have hs2:SubH H0 (Hb2.del l0):=((k0.trans hd).trans hsq).del h0l
    have hrs2:∀ r'∈r::rs,(Hb2.del l0) r'=some (.obj (.deferred (some [])))∧H0 r'=none:=fun r' h'=>by
     have hx:Hk r'=some (.obj (.deferred (some [])))∧H0 r'=none:=by
      rcases List.mem_cons.1 h' with rfl | h'
      ·exact ⟨kr,h0r⟩
      ·exact krs r' h'
     exact ⟨by rw [Zqf _ (ZpK hx.1 kl).1]; exact hsq _ _ (hd _ _ hx.1),hx.2⟩
    have hnd2:(r::rs).Nodup:=List.nodup_cons.2 ⟨hrn,hnd.out⟩;have hin2:InB H0 (B.del l0) r3 181 [] [] 9 1 (YB (l.take (i+1))).length (encC strE (YB (l.take (i+1)))) v2 (Hb2.del l0):=⟨ho2,q3,hs2,hin.new⟩
    replace hin2:=ZpM hin2;replace hrs2:=ZpM hrs2;replace hnd2:=ZpM hnd2;clear ho2 q3 hs2 ho hd hsq bl b3 hBl hin hrs hnd krs;show ACx _ Znd _ _ _;delta Znd Zm Za
    (repeat' (first | (simp only [↓Zz,ZA,ptrV,ZpI,ZpJ, *]) | (refine ZV rfl (fun _ _ _ h=>h) ?_) | (with_reducible refine And.intro ?_ ?_)))
    all_goals rw [ZK (n:=(i:Int)+1) (by omega) (by omega)]
    ·exact ⟨i+1,r::rs,v2,_,by omega,rfl,rfl,hnd2.out,hrs2.out,hin2.out⟩
    ·omega
  ·have hil:¬ (i:Int)<(l.length:Int):=by omega
   have hie:i=l.length:=by omega
   subst hie;rw [Zqr (ZpY _)] at hin
   (repeat' (first | (simp only [↓Zz,ZA,ptrV,ZpJ, *]) | (refine ZV rfl (fun _ _ _ h=>h) ?_)))
   delta c117_2 Zb Zc
   (repeat' (first | (simp only [↓Zz,ZA,ptrV,ZpI,ZpJ,ZpL,ZnN, *])))
   exact ZhL (by simp only [ZC,ZpI,if_true,if_false]) rs _ _ hin.own hin.sub hnd hrs
end Go.PV.YtglpmlbbaedbiaaGreat
end
section
open Go.PV.AH renaming set_none→ZpO,set_same→ZpP
open Go.PV.Hold renaming mk→ZpM
open Go.PV.SubH renaming refl→ZpN,of_set→ZpS,none→Zqp,new→ZpR
open List renaming drop→ZpL,take_of_length_le→Zqr
open Nat renaming reduceLT→ZpJ,reduceEqDiff→ZpI,lt_succ_self→ZqK,reduceAdd→ZpT,reduceLeDiff→Zp1,le_refl→ZpY
set_option maxRecDepth 20000
set_option maxHeartbeats 4000000
namespace Go.PV.YtglpmlbbaedbiaaGreat
open Go Go.Proofs
abbrev nilP:VV:=.lit (.pointer none)
def ScAt (H:AH):VV→List ByteArray→Prop
 | v,[]=>v=nilP
 | v,n::l=>∃ r v',v=ptrV r 0∧H r=some (.cells 243 [sV n,v'] 0)∧ScAt H v' l
theorem ScAt.mono {H H':AH} (hs:SubH H H'):∀ {l:List ByteArray} {v:VV},ScAt H v l→ScAt H' v l
 | [],v,h=>h
 | n::l,v,⟨r,v',h1,h2,h3⟩=>⟨r,v',h1,hs _ _ h2,ScAt.mono hs h3⟩
theorem ScAt.one {H:AH}:∀ {l:List ByteArray} {v:VV},ScAt H v l→v.cells=[v]∧VV.one v=true
 | [],v,h=>by cases h; exact ⟨rfl,rfl⟩
 | n::l,v,⟨r,v',h1,h2,h3⟩=>by cases h1; exact ⟨rfl,rfl⟩
theorem ScAt.uniq {H:AH}:∀ {l m:List ByteArray} {v:VV},ScAt H v l→ScAt H v m→l=m
 | [],[],v,h,k=>rfl
 | [],n::m,v,h,⟨r,v',h1,_⟩=>by cases h; simp [ptrV,nilP] at h1
 | n::l,[],v,⟨r,v',h1,_⟩,h=>by cases h; simp [ptrV,nilP] at h1
 | n::l,n'::m,v,⟨r,v',h1,h2,h3⟩,⟨r',v'',k1,k2,k3⟩=>by
   subst h1;obtain rfl:r=r':=by simpa [ptrV] using k1
   rw [h2] at k2;simp only [Option.some.injEq,Blk.cells.injEq,List.cons.injEq,VV.lit.injEq,Value.string.injEq,and_true,true_and] at k2;obtain ⟨rfl,rfl⟩:=k2;rw [ScAt.uniq h3 k3]
open Classical in
noncomputable def scLen (H:AH) (v:VV):Nat:=if h:∃ l,ScAt H v l then h.choose.length else 0
theorem ZlS {H:AH} {v:VV} {l:List ByteArray} (h:ScAt H v l):scLen H v=l.length:=by
 have hx:∃ l,ScAt H v l:=⟨l,h⟩
 rw [scLen,dif_pos hx,ScAt.uniq hx.choose_spec h]
theorem Zoc {P:Program} {t e:TypeId} {ox:Operand} {c:Value} {a:Option Addr} {H:AH} {K:VE→AH→Prop} (hu:P.underlying t=some (.pointer e)):vcBin P .neq t ox (.const c) (.lit (.pointer a)) nilP H K=K (.ret (boolV (!a.isNone))) H:=by
 unfold vcBin;simp only [Yw];exact propext ⟨fun h=>h.2.2 _ rfl,fun h=>⟨⟨e,hu⟩,.inr (.inl rfl),fun b hb=>by rw [show b=a.isNone from hb]; exact h⟩⟩
theorem eq_ptr {P:Program} {t e:TypeId} {ox:Operand} {c:Value} {a:Option Addr} {H:AH} {K:VE→AH→Prop} (hu:P.underlying t=some (.pointer e)):vcBin P .eql t ox (.const c) (.lit (.pointer a)) nilP H K=K (.ret (boolV a.isNone)) H:=by
 unfold vcBin;simp only [Yw];exact propext ⟨fun h=>h.2.2 _ rfl,fun h=>⟨⟨e,hu⟩,.inr (.inl rfl),fun b hb=>by rw [show b=a.isNone from hb]; exact h⟩⟩
theorem eq_iptr {P:Program} {t e:TypeId} {ox:Operand} {c:Value} {cs:List VV} {H:AH} {K:VE→AH→Prop} (hu:P.underlying t=some (.pointer e)):vcBin P .eql t ox (.const c) (.iptr cs) nilP H K=K (.ret (boolV false)) H:=by
 unfold vcBin;simp only [Yw];exact propext ⟨fun h=>h.2.2 _ rfl,fun h=>⟨⟨e,hu⟩,.inr (.inl rfl),fun b hb=>by rw [show b=false from hb]; exact h⟩⟩
theorem ZjB {ox:Operand} {c:Value} {a:Option Addr} {H:AH} {K:VE→AH→Prop}:vcBin Tryz.prog .neq 220 ox (.const c) (.lit (.pointer a)) nilP H K=K (.ret (boolV (!a.isNone))) H:=Zoc (e:=243) (by kernel_rfl)
theorem schas_ok (nm:List ByteArray) (s:ByteArray) {v:VV} {H:AH} (hv:ScAt H v nm):ReadF Tryz.prog 140 [v,sV s] (boolV (hasF nm s)) H:=by
 refine ZE fd140 (by simp) ?_;delta c140 Zq;obtain ⟨R,hR⟩:∃ R,R=hasF nm s:=⟨_,rfl⟩
 rw [← hR];replace hR:=ZpM hR;replace hv:=ZpM hv
 (repeat' (first | (simp only [↓Zz,ZA,boolV,ZpJ,ZD,undef, *])))
 refine ZP (fun _ _ _ h=>h) (fun A H'=>H'=H∧A.d=[]∧A.t 1=sV s∧∃ m,ScAt H (A.t 0) m∧R=hasF m s) (fun A _=>scLen H (A.t 0)) ?_ ?_
 ·exact ⟨rfl,rfl,(by simp only [ZC,ZpI,if_false, *]<;>rfl),nm,by simp only [ZC,ZpI,if_false]; exact hv.out,hR.out⟩
 ·clear hv hR;rintro ⟨t,d⟩ H' ⟨rfl,rfl,h1,m,hm,hR⟩;dsimp only at h1 hm;rw [ZlS hm];delta b140_1 Za Zq Zr Zd Zb Zn Zc;cases m with
  | nil =>
    have h0:t 0=nilP:=hm;rw [show R=false from hR];clear hR hm
    (repeat' (first | (simp only [↓Zz,ZA,boolV,ZpJ,ZjB,Option.isNone_none, *]) | (refine ZV rfl (fun _ _ _ h=>h) ?_)))
    delta c140_1 Zq
    (repeat' (first | (simp only [↓Zz,ZA,ZpI,ZpJ, *]) | (refine ZG ?_) | (exact ZpN _)))
  | cons n m =>
    obtain ⟨r,v',h0,hr,hm'⟩:=hm;have hl:=ZlS hm';have hR':R=(decide (n=s) || hasF m s):=hR;clear hR;replace hR':=ZpM hR';replace hm':=ZpM hm'
    (repeat' (first | (simp only [↓Zz,ZA,↓Xw,vcNil,ptrV,boolV,ZpI,ZpJ,reduceCtorEq,ZpL,ZjB,Option.isNone_some,ZoJ,ZoK,ZW,ldT_220, *]) | (refine ZX ?_ ?_<;>intro) | (refine ZG ?_) | (exact ZpN _) | (with_reducible refine And.intro ?_ ?_)))
    all_goals first
     | exact ZqK _
     | (have hn:¬ n=s:=by assumption
        exact ⟨m,hm'.out,by rw [hR'.out]; simp [hn]⟩)
     | (have hn:n=s:=by assumption
        rw [hR'.out]; simp [hn])
theorem Zod (ex:Bool) (l:List ByteArray) (hl:l.length≤1099511627776) {v:VV} {nm:List ByteArray} {H:AH} {K:VE→AH→Prop} (hv:ScAt H v nm) (hK:∀ v' H',SubH H H'→ScAt H' v' (l.reverse++nm)→K (.ret v') H'):ZT Tryz.prog 120 [v,.slice ex l.length (encC strE l)] H K:=by
 refine ZE fd120 (by simp) ?_;delta c120 Zq Za Ze;replace hv:=ZpM hv;replace hK:=ZpM hK
 (repeat' (first | (simp only [↓Zz,ZA,intV,ZpI,ZpJ,reduceCtorEq,ZD,undef,Xy, *])))
 refine ZP (fun _ _ _ h=>h) (fun A H'=>SubH H H'∧A.d=[]∧A.t 7=.slice ex l.length (encC strE l)∧A.t 8=iV l.length∧∃ i:Nat,i≤l.length∧A.t 9=iV i∧ScAt H' (A.t 0) ((l.take i).reverse++nm)) (fun A _=>match A.t 9 with | .lit (.int _ i)=>((l.length:Int)-i).toNat | _=>0) ?_ ?_
 ·exact ⟨ZpN _,rfl,(by simp only [ZC,ZpI,if_true,if_false, *]<;>rfl),(by simp only [ZC,ZpI,if_true,if_false, *]<;>rfl),0,by omega,(by simp only [ZC,ZpI,if_true,if_false, *]<;>rfl),by simp only [ZC,ZpI,if_false]; exact hv.out⟩
 ·clear hv;rintro ⟨t,d⟩ H' ⟨hs,rfl,h7,h8,i,hi,h9,hm⟩;dsimp only at h7 h8 h9 hm;have h1:=hm.one.1;have h2:=hm.one.2;replace hm:=ZpM hm;delta b120_1 Zn Zr Zk Zb Zc Za Zq Zj Zm;by_cases hlt:i<l.length
  ·have hil:(i:Int)<(l.length:Int):=by omega
   have hdi:=Zcx hlt
   (repeat' (first | (simp only [↓Zz,ZA,ptrV,ZpI,ZpJ,ZpT,Zp1,reduceCtorEq,ZM,fillV,setAt,ZM,ZW,stT_243,Xy, *]) | (refine ZB fun zr zh=>?_; have zg:=zh; (try simp only [ZpO] at zg)) | (refine ZpS ?_ ?_) | (exact Zqp (by assumption) (by assumption)) | (with_reducible refine And.intro ?_ ?_)))
   all_goals rw [ZK (n:=(i:Int)+1) (by omega) (by omega)]
   all_goals first
    | omega
    | exact hs.of_set (hs.none zh)
    | (refine ⟨i+1,by omega,rfl,?_⟩
       rw [XB hlt,List.reverse_append];exact ⟨_,_,rfl,ZpP _ _ _,hm.out.mono (ZpR zh)⟩)
  ·have hil:¬ (i:Int)<(l.length:Int):=by omega
   have hie:i=l.length:=by omega
   subst hie;rw [Zqr (ZpY _)] at hm
   (repeat' (first | (simp only [↓Zz,ZA,ZpJ, *]) | (refine ZV rfl (fun _ _ _ h=>h) ?_)))
   delta c120_1 Za Zc
   (repeat' (first | (simp only [↓Zz,ZA,ZpI,ZpJ,reduceCtorEq, *]) | (refine ZG ?_)))
   exact hK.out _ _ hs hm.out
end Go.PV.YtglpmlbbaedbiaaGreat
end
section
open Go.PV.AH renaming set_none→ZpO,ne_of→ZpK,get→ZpU,set_same→ZpP,set_ne→ZpV
open Go.PV.Hold renaming mk→ZpM
open Go.PV.PureF renaming use→ZpQ
open Go.PV.SubH renaming refl→ZpN,of_set→ZpS,none→Zqp,new→ZpR
open Int renaming reduceEq→Zp5,reduceLT→Zqe,reduceNeg→ZqG
open List renaming drop_eq_getElem_cons→Zql,drop→ZpL,drop_eq_nil_of_le→Zp9,getElem_mem→ZpW
open Nat renaming reduceEqDiff→ZpI,reduceLT→ZpJ,reduceAdd→ZpT,reduceLeDiff→Zp1
set_option maxRecDepth 20000
set_option maxHeartbeats 4000000
namespace Go.PV.YtglpmlbbaedbiaaGreat
open Go Go.Proofs
mutual
def Ex.nmOk:Ex→Prop
 | .mk _ n ks=>n.size≤1099511627776∧Zge ks
def Zge:List Ex→Prop
 | []=>True
 | k::ks=>k.nmOk∧Zge ks
end
theorem ZgK:∀ {ks:List Ex},Zge ks↔∀ k∈ks,k.nmOk
 | []=>by simp [Zge]
 | k::ks=>by rw [Zge,ZgK]; simp
theorem Ex.nmOk_iff {e:Ex}:e.nmOk↔e.name.size≤1099511627776∧∀ k∈e.kids,k.nmOk:=by
 cases e; rw [Ex.nmOk,ZgK]; rfl
def arCo (l:List Co) (n:ByteArray):Int:=match l[(atCo l n).toNat]? with | some c=>c.arity | none=>0
def ownF (p:Pr) (e:Ex) (nm:List ByteArray):Int :=
 if misF e=true then 411 else
 if (e.op=2∧atFu p.funs e.name<0)∨(e.op=3∧atCo p.cons e.name<0) then 9 else
 if e.op=3∧¬ (e.kids.length:Int)=arCo p.cons e.name then 5 else
 if e.op=1∧hasF nm e.name=false then 411 else 0
mutual
def Ex.shF (p:Pr):Ex→List ByteArray→Int
 | .mk op n ks,nm=>if ownF p (.mk op n ks) nm=0 then shsF p ks (if op=5 then n::nm else nm) else ownF p (.mk op n ks) nm
def shsF (p:Pr):List Ex→List ByteArray→Int
 | [],_=>0
 | k::ks,nm=>if k.shF p nm=0 then shsF p ks nm else k.shF p nm
end
theorem Ex.shF_eq (p:Pr) (e:Ex) (nm:List ByteArray):e.shF p nm=if ownF p e nm=0 then shsF p e.kids (if e.op=5 then e.name::nm else nm) else ownF p e nm:=by
 cases e; rw [Ex.shF]; rfl
theorem ZjC {p:Pr} {l:List Ex} {nm:List ByteArray} {i:Nat} (h:i<l.length):shsF p (l.drop i) nm=if l[i].shF p nm=0 then shsF p (l.drop (i+1)) nm else l[i].shF p nm:=by
 rw [Zql h,shsF]
def shQ (H0:AH) (R:Int):APost:=YI Tryz.prog [.tmp 6] fun e H'=>e=.ret (iV R)∧SubH H0 H'
theorem ZbG {p:Pr} {ks:List Ex} {nm:List ByteArray} {t:Nat→VV} {H0 B:AH} {v:VV} {r3:Nat} {R:Int} (hN:ks.length≤1099511627776)
 (ih:∀ i (h:i<ks.length) (H:AH),ScAt H v nm→ReadF Tryz.prog 119 [prV p,exV ks[i],v] (iV (ks[i].shF p nm)) H) (hR:R=shsF p ks nm) (h2:t 2=v) (hv:ScAt B v nm) (h3:t 3=ptrV r3 0)
 (k3:B r3=some (.cells 44 [cosV p.cons,fusV p.funs] 0)) (h74:t 74=exsV ks) (h75:t 75=iV ks.length) (h76:t 76=iV 0) (hs:SubH H0 B) :
 ACx ⟨Tryz.prog,88,none⟩ (.loop Zne) (Xh 1 (thenA (ACx ⟨Tryz.prog,88,none⟩ Znf (shQ H0 R)) (shQ H0 R))) ⟨t,[]⟩ B:=by
 refine ZP (fun _ _ _ h=>h) (fun A H'=>SubH B H'∧A.d=[]∧A.t 2=v∧A.t 3=ptrV r3 0∧A.t 74=exsV ks∧A.t 75=iV ks.length∧∃ i:Nat,i≤ks.length∧A.t 76=iV i∧R=shsF p (ks.drop i) nm)
  (fun A _=>match A.t 76 with | .lit (.int _ i)=>((ks.length:Int)-i).toNat | _=>0) ?_ ?_
 ·exact ⟨ZpN _,rfl,h2,h3,h74,h75,0,by omega,h76,hR⟩
 ·clear hR h2 h3 h74 h75 h76;rintro ⟨t,d⟩ H' ⟨hb,rfl,h2,h3,h74,h75,i,hi,h76,hR⟩;dsimp only at h2 h3 h74 h75 h76;delta Zne Zn Zr Zk Zb Zi Zg Za Zo Zc Zm;have q3:=hb _ _ k3;by_cases hlt:i<ks.length
  ·have hil:(i:Int)<(ks.length:Int):=by omega
   have hdi:=XI hlt;rw [ZjC hlt] at hR;replace hR:=ZpM hR;have rd:=fun H2 (h:SubH B H2)=>ih i hlt H2 (hv.mono h)
   clear ih k3
   (repeat' (first | (simp only [↓Zz,ZA,ptrV,ZpI,ZpJ,ZpT,setAt,ZpL,YZ,Za8,Zbh,Wj,Yx,Zm9, *]) | (refine Yh ?_ ?_<;>intro) | (refine ZG ?_) | (refine ZB fun zr zh=>?_; have zg:=zh; (try simp only [ZpO] at zg); (try have zn_q3:=ZpK q3 zh); (try have zn_q3:=ZpK q3 zg.2); (try have zn_q3:=ZpK q3 zg.2.2)) | (refine ZpS ?_ ?_) | (exact Zqp (by assumption) (by assumption)) | (refine (rd _ ?_).use ?_) | (with_reducible refine And.intro ?_ ?_)))
   all_goals try rw [ZK (n:=(i:Int)+1) (by omega) (by omega)]
   all_goals first
    | omega
    | exact hs.trans hb
    | exact hb
    | exact hb.of_set (hb.none zh)
    | exact hs.none (hb.none zh)
    | (have hne:(!decide (Ex.shF p ks[i] nm=0))=true:=by assumption
       rw [hR.out,if_neg (by simpa using hne)])
    | (have hne:(!decide (Ex.shF p ks[i] nm=0))=false:=by assumption
       exact ⟨i+1,by omega,rfl,by rw [hR.out,if_pos (by simpa using hne)]⟩)
  ·have hil:¬ (i:Int)<(ks.length:Int):=by omega
   rw [Zp9 (by omega)] at hR;have hR:R=0:=hR;subst hR
   (repeat' (first | (simp only [↓Zz,ZA,ptrV,ZpJ, *]) | (refine ZV rfl (fun _ _ _ h=>h) ?_)))
   delta Znf Zf
   (repeat' (first | (simp only [↓Zz,ZA,ZpI,ZpJ, *]) | (refine ZG ?_)))
   exact hs.trans hb
theorem Zmy {p:Pr} {op ac af:Int} {name:ByteArray} {kids:List Ex} {m hb:Bool} {nm:List ByteArray} {v:VV} {H:AH} {R:Int} (hN:kids.length≤1099511627776)
 (ih:∀ (nm':List ByteArray) (v':VV) i (h:i<kids.length) (H:AH),ScAt H v' nm'→ReadF Tryz.prog 119 [prV p,exV kids[i],v'] (iV (kids[i].shF p nm')) H)
 (hm:PureF Tryz.prog 139 [.agg [iV op,sV name,encS exE kids]] (boolV m)) (hc:PureF Tryz.prog 78 [cosV p.cons,sV name] (iV ac)) (hf:PureF Tryz.prog 79 [fusV p.funs,sV name] (iV af))
 (hat:ac = -1∨∃ j:Nat,∃ h:j<p.cons.length,ac=j) (hhas:∀ H,ScAt H v nm→ReadF Tryz.prog 140 [v,sV name] (boolV hb) H) (hv:ScAt H v nm)
 (o:Int) (ho:o=if m=true then 411 else if (op=2∧af<0)∨(op=3∧ac<0) then 9 else if op=3∧¬ (kids.length:Int)=(match p.cons[ac.toNat]? with | some c=>c.arity | none=>0) then 5 else if op=1∧hb=false then 411 else 0)
 (hR:R=if o=0 then shsF p kids (if op=5 then name::nm else nm) else o):ReadF Tryz.prog 119 [prV p,.agg [iV op,sV name,encS exE kids],v] (iV R) H:=by
 have hvc:=hv.one.1;have hvo:=hv.one.2;refine ZE fd119 (by simp) ?_;delta c119 Zj Zf Zb Zo Zr Zd Zc Zm Za Zp Zq Ze;replace hv:=ZpM hv;cases m with
 | true =>
   have hR':=ZpM (show (411:Int)=R by rw [hR,ho]; simp);clear hR ho hhas hat ih
   (repeat' (first | (simp only [↓Zz,ZA,ptrV,boolV,ZpI,ZpJ,ZD,ZpL,undef,YZ,ZbY, *]) | (refine ZG ?_) | (refine ZB fun zr zh=>?_; have zg:=zh; (try simp only [ZpO] at zg)) | (exact ZpN _) | (refine ZpS ?_ ?_) | (refine ZpQ (hm) ?_) | (with_reducible refine And.intro ?_ ?_)))
   all_goals first
    | rw [hR'.out]
    | (rename_i r3 n3 n3'; exact (ZpR n3).of_set zg.2)
 | false =>
   by_cases h2:op=2
   ·subst h2;by_cases haf:af<0
    ·have hR':=ZpM (show (9:Int)=R by rw [hR,ho]; simp [haf]);clear hR ho hhas hat ih
     (repeat' (first | (simp only [↓Zz,ZA,ptrV,boolV,ZpI,ZpJ,ZD,ZpL,undef,Wk,Ym,Yg,Jz,YZ,WT,ZW,ZQ,Zcq,ZbY,Zbb,ZeZ, *]) | (refine ZG ?_) | (refine ZB fun zr zh=>?_; have zg:=zh; (try simp only [ZpO] at zg)) | (exact ZpN _) | (refine ZpS ?_ ?_) | (refine ZpQ (hm) ?_) | (refine ZpQ (hc) ?_) | (refine ZpQ (hf) ?_) | (with_reducible refine And.intro ?_ ?_)))
     all_goals first
      | rw [hR'.out]
      | (rename_i r3 n3 n3'; exact (ZpR n3).of_set zg.2)
    ·have hR':=ZpM (show R=shsF p kids nm by rw [hR,ho]; simp [haf]);clear hR ho hhas hat
     (repeat' (first | (simp only [↓Zz,ZA,ptrV,intV,boolV,ZpI,ZpJ,reduceCtorEq,ZN,ZD,ZpL,undef,Zp5,Wk,Ym,Yg,Jz,Yk,YZ,WT,ZW,ZQ,Zcq,Xa,Yx,ZbY,Zbb,ZeZ,ZfH, *]) | (refine ZJ mixed (fun _ _ _ _ e h=>⟨e.trans h.1,h.2⟩) _ (ZpN _) ?_) | (refine ZB fun zr zh=>?_; have zg:=zh; (try simp only [ZpO] at zg)) | (refine ZpQ (hm) ?_) | (refine ZpQ (hc) ?_) | (refine ZpQ (hf) ?_)))
     rename_i r3 n3 n3';refine ZbG (ks:=kids) (nm:=nm) (v:=v) (r3:=r3) hN (fun i h H=>ih _ _ i h H) hR'.out (by simp only [ZC,ZpI,if_false, *]<;>rfl) (hv.out.mono ((ZpR n3).of_set zg.2)) (by simp only [ZC,ZpI,if_true,if_false, *]<;>rfl) (by simp only [ZpU, *,if_true,if_false]<;>rfl) (by simp only [ZC,ZpI,if_true,if_false, *]<;>rfl) (by simp only [ZC,ZpI,if_true,if_false, *]<;>rfl) (by simp only [ZC,ZpI,if_true,if_false, *]<;>rfl) ((ZpR n3).of_set zg.2)
   ·by_cases h3:op=3
    ·subst h3;rcases hat with rfl | ⟨j,hj,rfl⟩
     ·have hR':=ZpM (show (9:Int)=R by rw [hR,ho]; simp);clear hR ho hhas ih
      (repeat' (first | (simp only [↓Zz,ZA,ptrV,boolV,ZpI,ZpJ,ZN,ZD,ZpL,undef,Zqe,ZqG,Wk,Ym,Yg,YZ,WT,ZW,ZQ,ZbY,Zbb,ZeZ, *]) | (refine ZG ?_) | (refine ZB fun zr zh=>?_; have zg:=zh; (try simp only [ZpO] at zg)) | (exact ZpN _) | (refine ZpS ?_ ?_) | (refine ZpQ (hm) ?_) | (refine ZpQ (hc) ?_) | (with_reducible refine And.intro ?_ ?_)))
      all_goals first
       | rw [hR'.out]
       | (rename_i r3 n3 n3'; exact (ZpR n3).of_set zg.2)
     ·have hcd:=Zaj hj;have hjl:(j:Int)<(p.cons.length:Int):=by omega
      have hj0:¬ (j:Int)<0:=by omega
      by_cases hka:(kids.length:Int)=p.cons[j].arity
      ·have hR':=ZpM (show R=shsF p kids nm by rw [hR,ho]; simp [hj,hka,hj0]);clear hR ho hhas
       (repeat' (first | (simp only [↓Zz,ZA,ptrV,intV,boolV,ZpI,ZpJ,reduceCtorEq,ZN,ZD,ZpL,undef,Zp5,Wk,Ym,Yg,Yk,Zct,YZ,WT,ZW,ZQ,Xa,Yx,Za7,ZbY,Zbb,ZeZ,ZfH, *]) | (refine ZJ mixed (fun _ _ _ _ e h=>⟨e.trans h.1,h.2⟩) _ (ZpN _) ?_) | (refine ZB fun zr zh=>?_; have zg:=zh; (try simp only [ZpO] at zg)) | (refine ZpQ (hm) ?_) | (refine ZpQ (hc) ?_)))
       rename_i r3 n3 n3';refine ZbG (ks:=kids) (nm:=nm) (v:=v) (r3:=r3) hN (fun i h H=>ih _ _ i h H) hR'.out (by simp only [ZC,ZpI,if_false, *]<;>rfl) (hv.out.mono ((ZpR n3).of_set zg.2)) (by simp only [ZC,ZpI,if_true,if_false, *]<;>rfl) (by simp only [ZpU, *,if_true,if_false]<;>rfl) (by simp only [ZC,ZpI,if_true,if_false, *]<;>rfl) (by simp only [ZC,ZpI,if_true,if_false, *]<;>rfl) (by simp only [ZC,ZpI,if_true,if_false, *]<;>rfl) ((ZpR n3).of_set zg.2)
      ·have hR':=ZpM (show (5:Int)=R by rw [hR,ho]; simp [hj,hka,hj0]);clear hR ho hhas ih
       (repeat' (first | (simp only [↓Zz,ZA,ptrV,intV,boolV,ZpI,ZpJ,reduceCtorEq,ZN,ZD,ZpL,undef,Wk,Ym,Yg,Yk,Zct,YZ,WT,ZW,ZQ,Xa,Yx,Za7,ZbY,Zbb,ZeZ, *]) | (refine ZG ?_) | (refine ZJ mixed (fun _ _ _ _ e h=>⟨e.trans h.1,h.2⟩) _ (ZpN _) ?_) | (refine ZB fun zr zh=>?_; have zg:=zh; (try simp only [ZpO] at zg)) | (exact ZpN _) | (refine ZpS ?_ ?_) | (refine ZpQ (hm) ?_) | (refine ZpQ (hc) ?_) | (with_reducible refine And.intro ?_ ?_)))
       all_goals first
        | rw [hR'.out]
        | (rename_i r3 n3 n3'; exact (ZpR n3).of_set zg.2)
    ·by_cases h1:op=1
     ·subst h1;cases hb with
      | false =>
        have hR':=ZpM (show (411:Int)=R by rw [hR,ho]; simp);clear hR ho hat ih
        (repeat' (first | (simp only [↓Zz,ZA,ptrV,boolV,ZpI,ZpJ,ZN,ZD,ZpL,undef,Wk,Ym,Yg,YZ,WT,ZW,ZQ,ZbY,Zbb,ZeZ,ZfH, *]) | (refine ZG ?_) | (refine ZJ mixed (fun _ _ _ _ e h=>⟨e.trans h.1,h.2⟩) _ (ZpN _) ?_) | (refine ZB fun zr zh=>?_; have zg:=zh; (try simp only [ZpO] at zg)) | (exact ZpN _) | (refine ZpS ?_ ?_) | (refine ZpQ (hm) ?_) | (refine ZpQ (hc) ?_) | (refine (hhas _ (hv.out.mono ?_)).use ?_) | (with_reducible refine And.intro ?_ ?_)))
        all_goals first
         | rw [hR'.out]
         | (rename_i r3 n3 n3'; exact (ZpR n3).of_set zg.2)
      | true =>
        have hR':=ZpM (show R=shsF p kids nm by rw [hR,ho]; simp);clear hR ho hat
        (repeat' (first | (simp only [↓Zz,ZA,ptrV,intV,boolV,ZpI,ZpJ,reduceCtorEq,ZN,ZD,ZpL,undef,Zp5,Wk,Ym,Yg,Yk,YZ,WT,ZW,ZQ,Xa,Yx,ZbY,Zbb,ZeZ,ZfH, *]) | (refine ZJ mixed (fun _ _ _ _ e h=>⟨e.trans h.1,h.2⟩) _ (ZpN _) ?_) | (refine ZB fun zr zh=>?_; have zg:=zh; (try simp only [ZpO] at zg)) | (exact ZpN _) | (refine ZpS ?_ ?_) | (refine ZpQ (hm) ?_) | (refine ZpQ (hc) ?_) | (refine (hhas _ (hv.out.mono ?_)).use ?_)))
        rename_i r3 n3 n3'
        ·refine ZbG (ks:=kids) (nm:=nm) (v:=v) (r3:=r3) hN (fun i h H=>ih _ _ i h H) hR'.out (by simp only [ZC,ZpI,if_false, *]<;>rfl) (hv.out.mono ((ZpR n3).of_set zg.2)) (by simp only [ZC,ZpI,if_true,if_false, *]<;>rfl) (by simp only [ZpU, *,if_true,if_false]<;>rfl) (by simp only [ZC,ZpI,if_true,if_false, *]<;>rfl) (by simp only [ZC,ZpI,if_true,if_false, *]<;>rfl) (by simp only [ZC,ZpI,if_true,if_false, *]<;>rfl) ((ZpR n3).of_set zg.2)
     ·by_cases h5:op=5
      ·subst h5;have hR':=ZpM (show R=shsF p kids (name::nm) by rw [hR,ho]; simp);clear hR ho hat hhas
       (repeat' (first | (simp only [↓Zz,ZA,ptrV,boolV,ZpI,ZpJ,Zp1,ZN,ZD,fillV,setAt,ZpL,undef,ZH,Wk,Ym,Yg,Yk,YZ,WT,ZW,ZQ,Xa,Xy,Jd,ZbY,Zbb,ZeZ,ZfH,Zm8, *]) | (refine ZJ mixed (fun _ _ _ _ e h=>⟨e.trans h.1,h.2⟩) _ (ZpN _) ?_) | (refine ZB fun zr zh=>?_; have zg:=zh; (try simp only [ZpO] at zg)) | (exact ZpN _) | (refine ZpS ?_ ?_) | (refine ZpQ (hm) ?_) | (refine ZpQ (hc) ?_) | (refine Zod true [name] (by simp) (hv.out.mono ?_) (fun v' H' hs' hv'=>?_))))
       rename_i r3 n3 n3'
       ·have k4:=hs' _ _ (ZpP _ _ _);have k3:H' r3=some (.cells 44 [cosV p.cons,fusV p.funs] 0):=hs' _ _ (by rw [ZpV _ _ zg.1.2]; exact ZpP _ _ _);have hv2:ScAt H' v' (name::nm):=hv';have hsH:SubH H H':=((ZpR n3).of_set zg.2).trans hs'
        (repeat' (first | (simp only [↓Zz,ZA,intV,ZpI,ZpJ,reduceCtorEq,ZpL,Yx, *])))
        exact ZbG (ks:=kids) (nm:=name::nm) (v:=v') (r3:=r3) hN (fun i h H=>ih _ _ i h H) hR'.out (by simp only [ZC,ZpI,if_true,if_false, *]<;>rfl) hv2 (by simp only [ZC,ZpI,if_true,if_false, *]<;>rfl) k3 (by simp only [ZC,ZpI,if_true,if_false, *]<;>rfl) (by simp only [ZC,ZpI,if_true,if_false, *]<;>rfl) (by simp only [ZC,ZpI,if_true,if_false, *]<;>rfl) hsH
      ·have hR':=ZpM (show R=shsF p kids nm by rw [hR,ho]; simp [h1,h2,h3,h5]);clear hR ho hhas hat
       (repeat' (first | (simp only [↓Zz,ZA,ptrV,intV,boolV,ZpI,ZpJ,reduceCtorEq,ZN,ZD,ZpL,undef,Wk,Ym,Yg,Yk,YZ,WT,ZW,ZQ,Xa,Yx,ZbY,Zbb,ZeZ,ZfH, *]) | (refine ZJ mixed (fun _ _ _ _ e h=>⟨e.trans h.1,h.2⟩) _ (ZpN _) ?_) | (refine ZB fun zr zh=>?_; have zg:=zh; (try simp only [ZpO] at zg)) | (refine ZpQ (hm) ?_) | (refine ZpQ (hc) ?_)))
       rename_i r3 n3 n3';refine ZbG (ks:=kids) (nm:=nm) (v:=v) (r3:=r3) hN (fun i h H=>ih _ _ i h H) hR'.out (by simp only [ZC,ZpI,if_false, *]<;>rfl) (hv.out.mono ((ZpR n3).of_set zg.2)) (by simp only [ZC,ZpI,if_true,if_false, *]<;>rfl) (by simp only [ZpU, *,if_true,if_false]<;>rfl) (by simp only [ZC,ZpI,if_true,if_false, *]<;>rfl) (by simp only [ZC,ZpI,if_true,if_false, *]<;>rfl) (by simp only [ZC,ZpI,if_true,if_false, *]<;>rfl) ((ZpR n3).of_set zg.2)
theorem shape_ok (p:Pr) (hpc:p.cons.length≤1099511627776) (hpf:p.funs.length≤1099511627776):∀ (n:Nat) (e:Ex) (nm:List ByteArray) (v:VV) (H:AH),e.sz<n→e.sz≤1099511627776→e.nmOk→ScAt H v nm→ReadF Tryz.prog 119 [prV p,exV e,v] (iV (e.shF p nm)) H:=by
 intro n
 induction n with
 | zero=>intro e nm v H h0; omega
 | succ n ih =>
   intro e nm v H h0 hs hnm hv;have z:=e.sz_eq;have hkl:=YN e.kids;rw [Ex.nmOk_iff] at hnm;refine Zmy (ac:=atCo p.cons e.name) (af:=atFu p.funs e.name) (m:=misF e) (hb:=hasF nm e.name) (nm:=nm) (by omega) (fun nm' v' i h H hv'=>?_) (Zj8 e hnm.1) (Zk0 p.cons e.name hpc) (findFu p.funs e.name hpf) ?_ (fun H h=>schas_ok nm e.name h) hv (ownF p e nm) rfl (e.shF_eq p nm)
   ·have:=Ya (ZpW h)
    exact ih _ _ _ _ (by omega) (by omega) (hnm.2 _ (ZpW h)) hv'
   ·rcases WI (fun c:Co=>decide (c.name=e.name)) p.cons with ⟨h,_⟩ | ⟨j,h,hj,_⟩
    ·exact .inl h
    ·exact .inr ⟨j,h,hj⟩
end Go.PV.YtglpmlbbaedbiaaGreat
end
section
open Go.PV.AH renaming set_none→ZpO,get→ZpU,set_same→ZpP,ne_of→ZpK
open Go.PV.GhL renaming cons→ZpZ
open Go.PV.Hold renaming mk→ZpM
open Go.PV.PureF renaming use→ZpQ,forget→Zp4
open Go.PV.SubH renaming refl→ZpN,new→ZpR,of_set→ZpS,none→Zqp
open List renaming take_append_drop→ZqV,length_take→ZqI,drop_eq_getElem_cons→Zql,drop→ZpL,append_nil→ZqJ,take_of_length_le→Zqr,getElem_mem→ZpW,drop_eq_nil_of_le→Zp9
open Nat renaming reduceEqDiff→ZpI,reduceLT→ZpJ,reduceAdd→ZpT
open Option renaming map_none→Zqz,map_some→Zp6
set_option maxRecDepth 20000
set_option maxHeartbeats 4000000
namespace Go.PV.YtglpmlbbaedbiaaGreat
open Go Go.Proofs
theorem takeStr {l:List ByteArray} {n:ByteArray} {i:Nat} {H:AH} {K:VE→AH→Prop} (hi:i≤l.length) (hl:l.length≤1099511627776) (hK:K (.ret (boolV (hasF (l.take i) n))) H):ZT Tryz.prog 81 [.slice false i (encC strE l),sV n] H K:=by
 have e:encC strE l=encC strE (l.take i)++encC strE (l.drop i):=by rw [← Yl,ZqV]
 rw [e];refine Yy (ZpZ (GhV.trunc _ _ _ _ _) (GhL.refl _ _)) ?_;have el:(l.take i).length=i:=by rw [ZqI]; omega
 rw [show VV.slice false i (encC strE (l.take i))=strsV (l.take i) from by rw [strsV,encS,el]];exact (Zjz (l.take i) n (by omega)).use hK
def ZbH (R:Int) (l:List Co):List Pa→Int
 | []=>R
 | x::r=>if paChk l x=0 then ZbH R l r else paChk l x
theorem Zfq {R:Int} {l:List Co} {ps:List Pa} {i:Nat} (h:i<ps.length):ZbH R l (ps.drop i)=if paChk l ps[i]=0 then ZbH R l (ps.drop (i+1)) else paChk l ps[i]:=by
 rw [Zql h,ZbH]
def ZbI (p:Pr) (c:Cl):Int:=if 1000<c.body.sz then 7 else if 100<c.body.dp then 6 else c.body.shF p (YB c.pats).reverse
open Classical in
noncomputable def clErr (p:Pr) (f:Fu) (c:Cl):Int :=
 if (c.pats.length:Int)=f.arity then ZbH (if (YB c.pats).Nodup then ZbI p c else 10) p.cons c.pats else 5
def clQ (H0:AH) (R:Int):APost:=YI Tryz.prog [.tmp 6] fun e H'=>e=.ret (iV R)∧SubH H0 H'
structure ClOk (c:Cl):Prop where
 pats:pasSz c.pats≤1099511627776
 names:∀ q∈c.pats,∀ x∈q.all 0,x.1.name.size≤1099511627776
 body:c.body.sz≤1099511627776
 bnames:c.body.nmOk
theorem Zlg {p:Pr} {c:Cl} {t:Nat→VV} {H0 B:AH} {r3 r5:Nat} {R:Int} (hpc:p.cons.length≤1099511627776) (hpf:p.funs.length≤1099511627776) (hc:ClOk c) (hR:R=ZbI p c)
 (h3:t 3=ptrV r3 0) (h5:t 5=ptrV r5 0) (h10:t 10=strsV (YB c.pats)) (k3:B r3=some (.cells 44 [cosV p.cons,fusV p.funs] 0)) (k5:B r5=some (.cells 78 (clE c) 0)) (hs:SubH H0 B) :
 ACx ⟨Tryz.prog,72,none⟩ c80_1 (clQ H0 R) ⟨t,[]⟩ B:=by
 have hsz:=csize_ok c.body (by have:=hc.body; omega);have hvl:(YB c.pats).length≤1099511627776:=by have:=ZcX c.pats; have:=hc.pats; omega
 have hsh:=fun v H (h:ScAt H v (YB c.pats).reverse)=>shape_ok p hpc hpf (c.body.sz+1) c.body _ v H (by omega) hc.body hc.bnames h
 unfold ZbI at hR;replace hR:=ZpM hR;delta c80_1 Zd Zb Zo Zr Za Zh Zc Zm Zf Zq;refine ZV rfl (fun _ _ _ h=>h) ?_
 (repeat' (first | (simp only [↓Zz,ZA,ZI,ptrV,ZpI,ZpJ,reduceCtorEq,ZpL,ZlI,YZ,Za8,Zm7,Zm8,Zm9, *]) | (refine ZX ?_ ?_<;>intro) | (refine ZG ?_) | (refine ZJ mixed (fun _ _ _ _ e h=>⟨e.trans h.1,h.2⟩) _ (ZpN _) ?_) | (refine ZpQ (hsz) ?_) | (refine Zod false (YB c.pats) hvl (nm:=[]) rfl (fun v' H' hs' hv'=>?_))))
 all_goals first
  | (have h:1000<(c.body.sz:Int):=by assumption
     rw [hR.out,if_pos (by omega)])
  | (have h:¬ 1000<(c.body.sz:Int):=by assumption
     have h':100<(c.body.dp:Int):=by assumption
     rw [hR.out,if_neg (by omega),if_pos (by omega)])
  | skip
 have h:¬ 1000<(c.body.sz:Int):=by assumption
 have h':¬ 100<(c.body.dp:Int):=by assumption
 have e:=hR.out;rw [if_neg (by omega),if_neg (by omega)] at e;rw [ZqJ] at hv';have hs2:=hs.trans hs';refine (hsh v' H' hv').use ?_;rw [← e];clear hR hsh e
 (repeat' (first | (simp only [↓Zz,ZA,ZpI,ZpJ, *]) | (refine ZG ?_)))
theorem Zmz {p:Pr} {c:Cl} {t:Nat→VV} {H0 B:AH} {r3 r5:Nat} {R:Int} (hpc:p.cons.length≤1099511627776) (hpf:p.funs.length≤1099511627776) (hc:ClOk c) (hR:R=open Classical in if (YB c.pats).Nodup then ZbI p c else 10)
 (h3:t 3=ptrV r3 0) (h5:t 5=ptrV r5 0) (k3:B r3=some (.cells 44 [cosV p.cons,fusV p.funs] 0)) (k5:B r5=some (.cells 78 (clE c) 0)) (hs:SubH H0 B) :
 ACx ⟨Tryz.prog,72,none⟩ c80_2 (clQ H0 R) ⟨t,[]⟩ B:=by
 have hvl:(YB c.pats).length≤1099511627776:=by have:=ZcX c.pats; have:=hc.pats; omega
 have hva:=Zj9 c.pats hc.pats;delta c80_2 Zd Zb Zo Zr Zc Za Ze Zq;refine ZV rfl (fun _ _ _ h=>h) ?_;replace hR:=ZpM hR;have hct:=fun (t:Nat→VV) (B:AH) (h:R=ZbI p c)=>Zlg (t:=t) (B:=B) (R:=R) (H0:=H0) (r3:=r3) (r5:=r5) hpc hpf hc h
 replace hc:=ZpM hc
 (repeat' (first | (simp only [↓Zz,ZA,ptrV,intV,ZpI,ZpJ,reduceCtorEq,ZpL,Zcs,ZaD,Xy,en_117, *]) | (refine ZpQ (hva) ?_)))
 refine ZP (fun _ _ _ h=>h) (fun A H'=>SubH B H'∧A.d=[]∧A.t 3=ptrV r3 0∧A.t 5=ptrV r5 0∧A.t 10=strsV (YB c.pats)∧A.t 40=strsV (YB c.pats)∧A.t 41=iV (YB c.pats).length∧∃ i:Nat,i≤(YB c.pats).length∧A.t 42=iV i∧((YB c.pats).take i).Nodup)
  (fun A _=>match A.t 42 with | .lit (.int _ i)=>(((YB c.pats).length:Int)-i).toNat | _=>0) ?_ ?_
 ·exact ⟨ZpN _,rfl,(by simp only [ZC,ZpI,if_false, *]<;>rfl),(by simp only [ZC,ZpI,if_false, *]<;>rfl),(by simp only [ZC,ZpI,if_true,if_false, *]<;>rfl),(by simp only [ZC,ZpI,if_true,if_false, *]<;>rfl),(by simp only [ZC,ZpI,if_true,if_false, *]<;>rfl),0,by omega,(by simp only [ZC,ZpI,if_true,if_false, *]<;>rfl),.nil⟩
 ·clear h3 h5 hva;rintro ⟨t,d⟩ H' ⟨hb,rfl,h3,h5,h10,h40,h41,i,hi,h42,hnd⟩;dsimp only at h3 h5 h10 h40 h41 h42;have q3:=hb _ _ k3;have q5:=hb _ _ k5;delta b80_2 Zn Zr Za Zk Zb Zc Zq Zo Zf Zm;have hE:=ZpM hR.out;clear hR;generalize YB c.pats=vs at *
  by_cases hlt:i<vs.length
  ·have hil:(i:Int)<(vs.length:Int):=by omega
   have hdi:=Zcx hlt;have hsn:=ZhF (l:=vs.take i) (s:=vs[i]);rw [← XB hlt] at hsn;replace hsn:=ZpM hsn;replace hnd:=ZpM hnd;clear hct k3 k5
   (repeat' (first | (simp only [↓Zz,ZA,ptrV,boolV,ZpI,ZpJ,reduceCtorEq,YC,Zqz,Zp6,Xj,idxV,idxOk,Nat.sub_zero,ZW,Xy,Zpw, *]) | (refine Yh ?_ ?_<;>intro) | (refine ZG ?_) | (refine takeStr (by omega) hvl ?_) | (with_reducible refine And.intro ?_ ?_)))
   all_goals try rw [ZK (n:=(i:Int)+1) (by omega) (by omega)]
   all_goals first
    | omega
    | exact fun h=>trivial
    | exact hs.trans hb
    | (have h2:hasF (vs.take i) vs[i]=true:=by assumption
       rw [hE.out,if_neg];intro h3;exact (hsn.out.1 (ZhG h3 _)).2 (JT.1 h2))
    | (have h2:hasF (vs.take i) vs[i]=false:=by assumption
       refine ⟨i+1,by omega,rfl,hsn.out.2 ⟨hnd.out,fun h3=>?_⟩⟩;rw [JT.2 h3] at h2;cases h2)
  ·have hil:¬ (i:Int)<(vs.length:Int):=by omega
   rw [Zqr (by omega)] at hnd;have e:=hE.out;rw [if_pos hnd] at e;clear hE;replace e:=ZpM e
   (repeat' (first | (simp only [↓Zz,ZA,ptrV,ZpJ, *])))
   exact hct _ _ e.out (by simp only [ZC,ZpI,if_false]; exact h3) (by simp only [ZC,ZpI,if_false]; exact h5) (by simp only [ZC,ZpI,if_false]; exact h10) q3 q5 (hs.trans hb)
theorem ZoY {p:Pr} {f:Fu} {c:Cl} (hpc:p.cons.length≤1099511627776) (hpf:p.funs.length≤1099511627776) (hc:ClOk c):PureF Tryz.prog 80 [prV p,fuV f,clV c] (iV (clErr p f c)):=by
 have hpl:=XY c.pats;have hps:=hc.pats;have hN:c.pats.length≤1099511627776:=by omega
 have hpk:∀ i (h:i<c.pats.length),PureF Tryz.prog 116 [paV c.pats[i],cosV p.cons] (iV (paChk p.cons c.pats[i])):=fun i h =>
  ZoV _ _ (by have:=Xm (ZpW h); omega) hpc (hc.names _ (ZpW h))
 clear hpl hps;refine Zp4 fun H0=>?_
 refine ZE fd80 (by simp) ?_;delta c80 Zj Zf Zd Zb Ze Zn Zr Zq;obtain ⟨R,hR⟩:∃ R,R=clErr p f c:=⟨_,rfl⟩
 rw [← hR];unfold clErr at hR;by_cases hfa:(c.pats.length:Int)=f.arity
 ·rw [if_pos hfa] at hR;replace hfa:=hfa.symm;have hct:=fun (t:Nat→VV) (B:AH) (r3 r5:Nat) h=>Zmz (p:=p) (c:=c) (t:=t) (B:=B) (R:=R) (H0:=H0) (r3:=r3) (r5:=r5) hpc hpf hc h
  obtain ⟨R2,hR2⟩:∃ R2,R2=(open Classical in if (YB c.pats).Nodup then ZbI p c else 10):=⟨_,rfl⟩
  rw [← hR2] at hR;replace hR:=ZpM hR;replace hR2:=ZpM hR2;replace hc:=ZpM hc
  (repeat' (first | (simp only [↓Zz,ZA,ptrV,intV,ZpI,ZpJ,reduceCtorEq,ZD,ZpL,undef,Zcs,ZbL,ZaD,ZQ,WK, *]) | (refine ZB fun zr zh=>?_; have zg:=zh; (try simp only [ZpO] at zg))))
  rename_i r3 n3 n3' r4 n4 n4'
  refine ZbF (fun t H=>SubH H0 H∧H r3=some (.cells 44 [cosV p.cons,fusV p.funs] 0)∧H zr=some (.cells 78 (clE c) 0)∧t 3=ptrV r3 0∧t 5=ptrV zr 0∧t 23=pasV c.pats∧t 24=iV c.pats.length∧t 25=iV 0)
   ⟨((ZpR n3).of_set n4'.2).of_set zg.2.2,(by simp only [ZpU, *,if_true,if_false]<;>rfl),ZpP _ _ _,(by simp only [ZC,ZpI,if_true,if_false, *]<;>rfl),(by simp only [ZC,ZpI,if_true,if_false, *]<;>rfl),(by simp only [ZC,ZpI,if_true,if_false, *]<;>rfl),(by simp only [ZC,ZpI,if_true,if_false, *]<;>rfl),(by simp only [ZC,ZpI,if_true,if_false, *]<;>rfl)⟩ ?_
  clear n3 n3' n4 n4' zh zg hfa;rintro t B ⟨hs,k3,k5,h3,h5,h23,h24,h25⟩
  refine ZP (fun _ _ _ h=>h) (fun A H'=>SubH B H'∧A.d=[]∧A.t 3=ptrV r3 0∧A.t 5=ptrV zr 0∧A.t 23=pasV c.pats∧A.t 24=iV c.pats.length∧∃ i:Nat,i≤c.pats.length∧A.t 25=iV i∧R=ZbH R2 p.cons (c.pats.drop i))
   (fun A _=>match A.t 25 with | .lit (.int _ i)=>((c.pats.length:Int)-i).toNat | _=>0) ?_ ?_
  ·exact ⟨ZpN _,rfl,h3,h5,h23,h24,0,by omega,h25,hR.out⟩
  ·clear hR h3 h5 h23 h24 h25;rintro ⟨t,d⟩ H' ⟨hb,rfl,h3,h5,h23,h24,i,hi,h25,hR⟩;dsimp only at h3 h5 h23 h24 h25;have q3:=hb _ _ k3;have q5:=hb _ _ k5;delta b80_1 Zn Zr Zk Zb Zi Zg Zd Zo Zc Za Zm;by_cases hlt:i<c.pats.length
   ·have hil:(i:Int)<(c.pats.length:Int):=by omega
    have hdi:=Wx hlt;have hpi:=hpk i hlt;rw [Zfq hlt] at hR;replace hR:=ZpM hR;clear hct hpk k3 k5
    (repeat' (first | (simp only [↓Zz,ZA,ptrV,ZpI,ZpJ,ZpT,setAt,ZpL,Wk,WB,WT,Zep,Jy,WK,en_116, *]) | (refine Yh ?_ ?_<;>intro) | (refine ZG ?_) | (refine ZB fun zr zh=>?_; have zg:=zh; (try simp only [ZpO] at zg); (try have zn_q3:=ZpK q3 zh); (try have zn_q3:=ZpK q3 zg.2); (try have zn_q3:=ZpK q3 zg.2.2); (try have zn_q5:=ZpK q5 zh); (try have zn_q5:=ZpK q5 zg.2); (try have zn_q5:=ZpK q5 zg.2.2)) | (refine ZpS ?_ ?_) | (exact Zqp (by assumption) (by assumption)) | (refine ZpQ (hpi) ?_) | (with_reducible refine And.intro ?_ ?_)))
    all_goals try rw [ZK (n:=(i:Int)+1) (by omega) (by omega)]
    all_goals first
     | omega
     | exact hs.trans hb
     | exact hb.of_set (hb.none zh)
     | exact hs.none (hb.none zh)
     | (have hne:(!decide (paChk p.cons c.pats[i]=0))=true:=by assumption
        rw [hR.out,if_neg (by simpa using hne)])
     | (have hne:(!decide (paChk p.cons c.pats[i]=0))=false:=by assumption
        exact ⟨i+1,by omega,rfl,by rw [hR.out,if_pos (by simpa using hne)]⟩)
     | trace_state
   ·have hil:¬ (i:Int)<(c.pats.length:Int):=by omega
    rw [Zp9 (by omega)] at hR;have e:=ZpM (show R=_ from (show R=R2 from hR).trans hR2.out);clear hR hR2
    (repeat' (first | (simp only [↓Zz,ZA,ptrV,ZpJ, *])))
    exact hct _ _ _ _ e.out (by simp only [ZC,ZpI,if_false]; exact h3) (by simp only [ZC,ZpI,if_false]; exact h5) q3 q5 (hs.trans hb)
 ·rw [if_neg hfa] at hR;replace hR:=ZpM hR
  (repeat' (first | (simp only [↓Zz,ZA,ptrV,intV,ZpI,ZpJ,reduceCtorEq,ZD,ZpL,undef,Zcs,ZbL,ZaD,ZQ,WK, *]) | (refine ZG ?_) | (refine ZB fun zr zh=>?_; have zg:=zh; (try simp only [ZpO] at zg)) | (exact ZpN _) | (refine ZpS ?_ ?_) | (with_reducible refine And.intro ?_ ?_)))
  all_goals first
   | rw [hR.out]
   | (rename_i r3 n3 n3' r4 n4 n4'; exact ((ZpR n3).of_set n4'.2).of_set zg.2.2)
end Go.PV.YtglpmlbbaedbiaaGreat
end
section
open Go.PV.AH renaming set_none→ZpO,ne_of→ZpK,get→ZpU,set_same→ZpP
open Go.PV.GhL renaming cons→ZpZ
open Go.PV.Hold renaming mk→ZpM
open Go.PV.PureF renaming use→ZpQ,forget→Zp4
open Go.PV.SubH renaming refl→ZpN,of_set→ZpS,none→Zqp,new→ZpR
open List renaming take_append_drop→ZqV,length_take→ZqI,drop_eq_getElem_cons→Zql,getElem_mem→ZpW,drop→ZpL,drop_eq_nil_of_le→Zp9
open Nat renaming reduceLT→ZpJ,reduceEqDiff→ZpI,reduceAdd→ZpT,reduceMul→Zqu
open Option renaming map_none→Zqz,map_some→Zp6
set_option maxRecDepth 20000
set_option maxHeartbeats 4000000
namespace Go.PV.YtglpmlbbaedbiaaGreat
open Go Go.Proofs
theorem takeFu {l:List Fu} {n:ByteArray} {i:Nat} {H:AH} {K:VE→AH→Prop} (hi:i≤l.length) (hl:l.length≤1099511627776) (hK:K (.ret (iV (atFu (l.take i) n))) H):ZT Tryz.prog 79 [.slice false i (encC fuE l),sV n] H K:=by
 have e:encC fuE l=encC fuE (l.take i)++encC fuE (l.drop i):=by rw [← Yl,ZqV]
 rw [e];refine Yy (ZpZ (GhV.trunc _ _ _ _ _) (GhL.refl _ _)) ?_;have el:(l.take i).length=i:=by rw [ZqI]; omega
 rw [show VV.slice false i (encC fuE (l.take i))=fusV (l.take i) from by rw [fusV,encS,el]];exact (findFu (l.take i) n (by omega)).use hK
def Zbs (p:Pr) (i:Nat) (f:Fu):Int :=
 if nameB f.name=true then
  (if 0≤atCo p.cons f.name∨0≤atFu (p.funs.take i) f.name then 10 else if f.arity<0∨10<f.arity then 4 else if f.cls.length<1∨100<f.cls.length then 5 else 0)
 else 411
def JG (R:Int) (p:Pr):List Fu→Nat→Int
 | [],_=>R
 | f::l,i=>if Zbs p i f=0 then JG R p l (i+1) else Zbs p i f
theorem Zdl {R:Int} {p:Pr} {l:List Fu} {i k:Nat} (h:i<l.length):JG R p (l.drop i) k=if Zbs p k l[i]=0 then JG R p (l.drop (i+1)) (k+1) else Zbs p k l[i]:=by
 rw [Zql h,JG]
noncomputable def Za2 (R:Int) (p:Pr) (f:Fu):List Cl→Int
 | []=>R
 | c::l=>if clErr p f c=0 then Za2 R p f l else clErr p f c
theorem Zfr {R:Int} {p:Pr} {f:Fu} {l:List Cl} {i:Nat} (h:i<l.length):Za2 R p f (l.drop i)=if clErr p f l[i]=0 then Za2 R p f (l.drop (i+1)) else clErr p f l[i]:=by
 rw [Zql h,Za2]
noncomputable def XX (p:Pr):List Fu→Int
 | []=>0
 | f::l=>Za2 (XX p l) p f f.cls
theorem ZeD {p:Pr} {l:List Fu} {i:Nat} (h:i<l.length):XX p (l.drop i)=Za2 (XX p (l.drop (i+1))) p l[i] l[i].cls:=by
 rw [Zql h,XX]
noncomputable def Jv (p:Pr):Int:=if 100<p.funs.length then 5 else if Zak p.cons=0 then JG (XX p p.funs) p p.funs 0 else Zak p.cons
structure PrOk (p:Pr):Prop where
 cons:p.cons.length≤1099511627776
 funs:p.funs.length≤1099511627776
 cnames:∀ c∈p.cons,c.name.size≤1099511627776
 fnames:∀ f∈p.funs,f.name.size≤1099511627776
 cls:∀ f∈p.funs,f.cls.length≤1099511627776∧∀ c∈f.cls,ClOk c
def ckQ (H0:AH) (R:Int):APost:=YI Tryz.prog [.tmp 2] fun e H'=>e=.ret (iV R)∧SubH H0 H'
theorem ZmA {p:Pr} {t:Nat→VV} {H0 B:AH} {r1:Nat} {R:Int} (hp:PrOk p) (hR:R=XX p p.funs)
 (h1:t 1=ptrV r1 0) (k1:B r1=some (.cells 44 [cosV p.cons,fusV p.funs] 0)) (hs:SubH H0 B) :
 ACx ⟨Tryz.prog,95,none⟩ c44_3 (ckQ H0 R) ⟨t,[]⟩ B:=by
 have hcl:∀ i (h:i<p.funs.length) k (h':k<p.funs[i].cls.length),PureF Tryz.prog 80 [prV p,fuV p.funs[i],clV p.funs[i].cls[k]] (iV (clErr p p.funs[i] p.funs[i].cls[k])):=fun i h k h' =>
  ZoY hp.cons hp.funs ((hp.cls _ (ZpW h)).2 _ (ZpW h'))
 have hcN:∀ i (h:i<p.funs.length),p.funs[i].cls.length≤1099511627776:=fun i h=>(hp.cls _ (ZpW h)).1
 have hN:=hp.funs;clear hp;delta c44_3 Zd Zb Ze Zq;refine ZV rfl (fun _ _ _ h=>h) ?_;replace hR:=ZpM hR
 (repeat' (first | (simp only [↓Zz,ZA,ptrV,intV,ZpJ,reduceCtorEq,ZpL,Jz,Zcq,Zbi, *])))
 refine ZP (fun _ _ _ h=>h) (fun A H'=>SubH B H'∧A.d=[]∧A.t 1=ptrV r1 0∧A.t 73=fusV p.funs∧A.t 74=iV p.funs.length∧∃ i:Nat,i≤p.funs.length∧A.t 75=iV i∧R=XX p (p.funs.drop i))
  (fun A _=>match A.t 75 with | .lit (.int _ i)=>((p.funs.length:Int)-i).toNat | _=>0) ?_ ?_
 ·exact ⟨ZpN _,rfl,(by simp only [ZC,ZpI,if_false, *]<;>rfl),(by simp only [ZC,ZpI,if_true,if_false, *]<;>rfl),(by simp only [ZC,ZpI,if_true,if_false, *]<;>rfl),0,by omega,(by simp only [ZC,ZpI,if_true,if_false, *]<;>rfl),hR.out⟩
 ·clear hR h1;rintro ⟨t,d⟩ H' ⟨hb,rfl,h1,h73,h74,i,hi,h75,hR⟩;dsimp only at h1 h73 h74 h75;have q1:=hb _ _ k1;delta b44_3 Zn Zr Zk Zb Zi Zg Zd Ze Zq;by_cases hlt:i<p.funs.length
  ·have hil:(i:Int)<(p.funs.length:Int):=by omega
   have hdi:=Wy hlt;rw [ZeD hlt] at hR;replace hR:=ZpM hR;have hcli:=hcl i hlt;have hcNi:=hcN i hlt;clear k1 hcl hcN
   (repeat' (first | (simp only [↓Zz,ZA,ptrV,intV,ZpI,ZpJ,ZpT,reduceCtorEq,setAt,ZpL,ZdA,Zg8,ZkM,ZkL,Zdx,Zbi,ZfC, *]) | (refine ZB fun zr zh=>?_; have zg:=zh; (try simp only [ZpO] at zg); (try have zn_q1:=ZpK q1 zh); (try have zn_q1:=ZpK q1 zg.2); (try have zn_q1:=ZpK q1 zg.2.2))))
   refine ZbF (fun t H=>SubH B H∧H r1=some (.cells 44 [cosV p.cons,fusV p.funs] 0)∧H zr=some (.cells 81 (fuE p.funs[i]) 0)∧t 1=ptrV r1 0∧t 7=ptrV zr 0∧t 73=fusV p.funs∧t 74=iV p.funs.length∧t 75=iV i∧t 80=clsV p.funs[i].cls∧t 81=iV p.funs[i].cls.length∧t 82=iV 0)
    ⟨hb.of_set (hb.none zh),(by simp only [ZpU, *,if_false]<;>rfl),ZpP _ _ _,(by simp only [ZC,ZpI,if_false, *]<;>rfl),(by simp only [ZC,ZpI,if_true,if_false, *]<;>rfl),(by simp only [ZC,ZpI,if_false, *]<;>rfl),(by simp only [ZC,ZpI,if_false, *]<;>rfl),(by simp only [ZC,ZpI,if_false, *]<;>rfl),(by simp only [ZC,ZpI,if_true,if_false, *]<;>rfl),(by simp only [ZC,ZpI,if_true,if_false, *]<;>rfl),(by simp only [ZC,ZpI,if_true,if_false, *]<;>rfl)⟩ ?_
   clear zh zg q1 h1 h73 h74 h75 hb hdi;rintro t B2 ⟨hb2,k1,k7,h1,h7,h73,h74,h75,h80,h81,h82⟩
   refine ZP (fun _ _ _ h=>h) (fun A H'=>SubH B2 H'∧A.d=[]∧A.t 1=ptrV r1 0∧A.t 7=ptrV zr 0∧A.t 73=fusV p.funs∧A.t 74=iV p.funs.length∧A.t 75=iV i∧A.t 80=clsV p.funs[i].cls∧A.t 81=iV p.funs[i].cls.length∧∃ k:Nat,k≤p.funs[i].cls.length∧A.t 82=iV k∧R=Za2 (XX p (p.funs.drop (i+1))) p p.funs[i] (p.funs[i].cls.drop k))
    (fun A _=>match A.t 82 with | .lit (.int _ k)=>((p.funs[i].cls.length:Int)-k).toNat | _=>0) ?_ ?_
   ·exact ⟨ZpN _,rfl,h1,h7,h73,h74,h75,h80,h81,0,by omega,h82,hR.out⟩
   ·clear hR h1 h7 h73 h74 h75 h80 h81 h82;rintro ⟨t,d⟩ H' ⟨hb,rfl,h1,h7,h73,h74,h75,h80,h81,k,hk,h82,hR⟩;dsimp only at h1 h7 h73 h74 h75 h80 h81 h82;have q1:=hb _ _ k1;have q7:=hb _ _ k7;delta b44_2 Zn Zr Zk Zb Zi Zg Zo Zc Za Zm;by_cases hkt:k<p.funs[i].cls.length
    ·have hkl:(k:Int)<(p.funs[i].cls.length:Int):=by omega
     have hdk:=Zc4 hkt;have hck:=hcli k hkt;rw [Zfr hkt] at hR;replace hR:=ZpM hR;clear k1 k7 hcli
     (repeat' (first | (simp only [↓Zz,ZA,ptrV,ZpI,ZpJ,ZpT,setAt,ZpL,Zg8,Zm5,Za8,Zm4,Zdy,ZfC,en_80, *]) | (refine Yh ?_ ?_<;>intro) | (refine ZG ?_) | (refine ZB fun zr zh=>?_; have zg:=zh; (try simp only [ZpO] at zg); (try have zn_q1:=ZpK q1 zh); (try have zn_q1:=ZpK q1 zg.2); (try have zn_q1:=ZpK q1 zg.2.2); (try have zn_q7:=ZpK q7 zh); (try have zn_q7:=ZpK q7 zg.2); (try have zn_q7:=ZpK q7 zg.2.2)) | (refine ZpS ?_ ?_) | (exact Zqp (by assumption) (by assumption)) | (refine ZpQ (hck) ?_) | (with_reducible refine And.intro ?_ ?_)))
     all_goals try rw [ZK (n:=(k:Int)+1) (by omega) (by omega)]
     all_goals first
      | omega
      | exact (hs.trans hb2).trans hb
      | exact hb.of_set (hb.none zh)
      | exact hs.none (hb2.none (hb.none zh))
      | (have hne:(!decide (clErr p p.funs[i] p.funs[i].cls[k]=0))=true:=by assumption
         rw [hR.out,if_neg (by simpa using hne)])
      | (have hne:(!decide (clErr p p.funs[i] p.funs[i].cls[k]=0))=false:=by assumption
         exact ⟨k+1,by omega,rfl,by rw [hR.out,if_pos (by simpa using hne)]⟩)
      | trace_state
    ·have hkl:¬ (k:Int)<(p.funs[i].cls.length:Int):=by omega
     rw [Zp9 (show p.funs[i].cls.length≤k by omega)] at hR;have e:=ZpM (show R=XX p (p.funs.drop (i+1)) from hR);clear hR
     (repeat' (first | (simp only [↓Zz,ZA,ptrV,ZpI,ZpJ, *]) | (refine ZV rfl (fun _ _ _ h=>h) ?_)))
     delta c44_1 Zm Za
     (repeat' (first | (simp only [↓Zz,ZA,ptrV,ZpI,ZpJ, *]) | (with_reducible refine And.intro ?_ ?_)))
     all_goals try rw [ZK (n:=(i:Int)+1) (by omega) (by omega)]
     all_goals first
      | omega
      | exact hb2.trans hb
      | exact ⟨i+1,by omega,rfl,e.out⟩
      | trace_state
  ·have hil:¬ (i:Int)<(p.funs.length:Int):=by omega
   rw [Zp9 (by omega)] at hR;have e:=ZpM (show R=0 from hR);clear hR
   (repeat' (first | (simp only [↓Zz,ZA,ptrV,ZpJ, *]) | (refine ZV rfl (fun _ _ _ h=>h) ?_)))
   delta c44_2 Zf
   (repeat' (first | (simp only [↓Zz,ZA,ZpI,ZpJ, *]) | (refine ZG ?_) | (with_reducible refine And.intro ?_ ?_)))
   all_goals first
    | rw [e.out]
    | exact hs.trans hb
theorem check_ok {p:Pr} (hp:PrOk p):PureF Tryz.prog 44 [prV p] (iV (Jv p)):=by
 have hcc:=Zj6 p.cons hp.cons hp.cnames;have hnm:∀ i (h:i<p.funs.length),PureF Tryz.prog 77 [sV p.funs[i].name] (boolV (nameB p.funs[i].name)):=fun i h=>Zd6 _ (hp.fnames _ (ZpW h))
 have hco:=fun n=>Zk0 p.cons n hp.cons
 have hN:=hp.funs;refine Zp4 fun H0=>?_
 refine ZE fd44 (by simp) ?_;delta c44 Zj Zf Zd Zb Ze Zm Zr Zo Zc Za Zq;obtain ⟨R,hR⟩:∃ R,R=Jv p:=⟨_,rfl⟩
 rw [← hR];unfold Jv at hR;by_cases h100:100<p.funs.length
 ·rw [if_pos h100] at hR;have hl:(100:Int)<(p.funs.length:Int):=by omega
  replace hR:=ZpM hR;clear hcc hnm hco
  (repeat' (first | (simp only [↓Zz,ZA,ptrV,intV,ZpI,ZpJ,reduceCtorEq,ZD,ZpL,undef,Jz,Zcq,Zbi, *]) | (refine ZG ?_) | (refine ZB fun zr zh=>?_; have zg:=zh; (try simp only [ZpO] at zg)) | (exact ZpN _) | (refine ZpS ?_ ?_) | (with_reducible refine And.intro ?_ ?_)))
  all_goals first
   | rw [hR.out]
   | (rename_i r3 n3 n3'; exact ((ZpR n3).of_set n3'.2))
   | exact ZpR zh
 ·rw [if_neg h100] at hR;have hl:¬ (100:Int)<(p.funs.length:Int):=by omega
  by_cases hcz:Zak p.cons=0
  ·rw [if_pos hcz] at hR;rw [hcz] at hcc;have hct:=fun (t:Nat→VV) (B:AH) (r1:Nat) h=>ZmA (p:=p) (t:=t) (B:=B) (R:=R) (H0:=H0) (r1:=r1) hp h
   replace hp:=ZpM hp;obtain ⟨R2,hR2⟩:∃ R2,R2=XX p p.funs:=⟨_,rfl⟩
   rw [← hR2] at hR;replace hR:=ZpM hR;replace hR2:=ZpM hR2;clear hcz
   (repeat' (first | (simp only [↓Zz,ZA,ptrV,intV,ZpI,ZpJ,reduceCtorEq,ZD,ZpL,undef,Wk,Jz,WT,Zcq,Zbi,en_76, *]) | (refine ZB fun zr zh=>?_; have zg:=zh; (try simp only [ZpO] at zg)) | (refine ZpQ (hcc) ?_)))
   refine ZbF (fun t H=>SubH H0 H∧H zr=some (.cells 44 [cosV p.cons,fusV p.funs] 0)∧t 1=ptrV zr 0∧t 22=fusV p.funs∧t 23=iV p.funs.length∧t 24=iV 0)
    ⟨ZpR zh,ZpP _ _ _,(by simp only [ZC,ZpI,if_true,if_false, *]<;>rfl),(by simp only [ZC,ZpI,if_true,if_false, *]<;>rfl),(by simp only [ZC,ZpI,if_true,if_false, *]<;>rfl),(by simp only [ZC,ZpI,if_true,if_false, *]<;>rfl)⟩ ?_
   clear zh zg hcc;rintro t B ⟨hs,k1,h1,h22,h23,h24⟩
   refine ZP (fun _ _ _ h=>h) (fun A H'=>SubH B H'∧A.d=[]∧A.t 1=ptrV zr 0∧A.t 22=fusV p.funs∧A.t 23=iV p.funs.length∧∃ i:Nat,i≤p.funs.length∧A.t 24=iV i∧R=JG R2 p (p.funs.drop i) i)
    (fun A _=>match A.t 24 with | .lit (.int _ i)=>((p.funs.length:Int)-i).toNat | _=>0) ?_ ?_
   ·exact ⟨ZpN _,rfl,h1,h22,h23,0,by omega,h24,hR.out⟩
   ·clear hR h1 h22 h23 h24;rintro ⟨t,d⟩ H' ⟨hb,rfl,h1,h22,h23,i,hi,h24,hR⟩;dsimp only at h1 h22 h23 h24;have q1:=hb _ _ k1;delta b44_1 Zn Zr Za Zk Zb Zi Zc Zg Zd Zo Zq Zf Zm Zp Ze;by_cases hlt:i<p.funs.length
    ·have hil:(i:Int)<(p.funs.length:Int):=by omega
     have hdi:=Wy hlt;have hni:=hnm i hlt;have hci:=hco p.funs[i].name;rw [Zdl hlt] at hR;replace hR:=ZpM hR;clear hct k1 hnm hco
     (repeat' (first | (simp only [↓Zz,ZA,ptrV,intV,boolV,ZpI,ZpJ,ZpT,Zqu,reduceCtorEq,ZN,ZD,setAt,ZpL,↓ZhB,↓ZhC,undef,YC,Zqz,Zp6,Xj,idxV,idxOk,Nat.sub_zero,Zig,Wk,Jz,ZbL,ZdA,Zg8,ZW,WT,Zcq,ZQ,ZkM,ZkL,Zdx,Zbi,ZfC,ZfT,Zbb,ZeZ, *]) | (refine YW ?_ ?_<;>intro) | (refine Zdi ?_ ?_<;>intro) | (refine ZX ?_ ?_<;>intro) | (refine Yh ?_ ?_<;>intro) | (refine ZG ?_) | (refine ZJ mixed (fun _ _ _ _ e h=>⟨e.trans h.1,h.2⟩) _ (ZpN _) ?_) | (refine ZB fun zr zh=>?_; have zg:=zh; (try simp only [ZpO] at zg); (try have zn_q1:=ZpK q1 zh); (try have zn_q1:=ZpK q1 zg.2); (try have zn_q1:=ZpK q1 zg.2.2)) | (exact ZpN _) | (refine ZpS ?_ ?_) | (exact Zqp (by assumption) (by assumption)) | (refine ZpQ (hni) ?_) | (refine ZpQ (hci) ?_) | (refine takeFu (by omega) (by omega) ?_) | (with_reducible refine And.intro ?_ ?_)))
     all_goals try rw [ZK (n:=(i:Int)+1) (by omega) (by omega)]
     all_goals first
      | exact hs.trans hb
      | exact hb.of_set (hb.none zh)
      | exact hs.none (hb.none zh)
      | exact fun h=>trivial
      | omega
      | (refine congrArg (fun z:Int=>VE.ret (iV z)) ?_
         rw [hR.out]; unfold Zbs; repeat' split
         all_goals first
          | rfl
          | omega
          | simp_all
          | (exfalso; simp_all; omega))
      | (refine ⟨i+1,by omega,rfl,?_⟩
         rw [hR.out]; unfold Zbs; repeat' split
         all_goals first
          | rfl
          | omega
          | simp_all
          | (exfalso; simp_all; omega))
      | trace_state
    ·have hil:¬ (i:Int)<(p.funs.length:Int):=by omega
     rw [Zp9 (by omega)] at hR;have e:=ZpM (show R=_ from (show R=R2 from hR).trans hR2.out);clear hR hR2
     (repeat' (first | (simp only [↓Zz,ZA,ptrV,ZpJ, *])))
     exact hct _ _ _ e.out (by simp only [ZC,ZpI,if_false]; exact h1) q1 (hs.trans hb)
  ·rw [if_neg hcz] at hR;replace hR:=ZpM hR;clear hnm hco
   (repeat' (first | (simp only [↓Zz,ZA,ptrV,intV,ZpI,ZpJ,reduceCtorEq,ZD,ZpL,undef,Wk,Jz,WT,Zcq,Zbi,en_76, *]) | (refine ZG ?_) | (refine ZB fun zr zh=>?_; have zg:=zh; (try simp only [ZpO] at zg)) | (exact ZpN _) | (refine ZpS ?_ ?_) | (refine ZpQ (hcc) ?_) | (with_reducible refine And.intro ?_ ?_)))
   all_goals first
    | rw [hR.out]
    | exact ZpR zh
end Go.PV.YtglpmlbbaedbiaaGreat
end
section
open Bool renaming and_self→Zqo
open Go.PV.AH renaming set_ne→ZpV,set_same→ZpP,set_none→ZpO,get→ZpU,set_set→Zqj,ne_of→ZpK
open Go.PV.Hold renaming mk→ZpM
open Go.PV.SubH renaming new→ZpR,refl→ZpN
open Int renaming natCast_nonneg→ZqU,toNat_natCast→ZqN
open List renaming getElem?_eq_getElem→ZqC,drop→ZpL,getElem_mem→ZpW,map_cons→Zp3,map_nil→Zqa,length_cons→Zqb,length_nil→Zqh,all_cons→Zqn,all_nil→Zqv,set_cons_zero→Zqs,set_cons_succ→Zqy,drop_zero→ZqL
open Nat renaming reduceEqDiff→ZpI,reduceLT→ZpJ,reduceAdd→ZpT,reduceLeDiff→Zp1,succ_ne_self→Zp7,zero_add→Zp2,add_zero→ZqB,le_refl→ZpY
open Option renaming map_some→Zp6
set_option maxRecDepth 20000
set_option maxHeartbeats 4000000
namespace Go.PV.YtglpmlbbaedbiaaGreat
open Go Go.Proofs
theorem Zd9:Zew Tryz.prog 82 (.pointer none):=strMap (kt:=9) (et:=137) (by kernel_rfl) (by kernel_rfl) (by kernel_rfl)
theorem Zea:Zew Tryz.prog 83 (.int .i64 0):=strMap (kt:=9) (et:=3) (by kernel_rfl) (by kernel_rfl) (by kernel_rfl)
def funMk (l:List Fu):Nat→ByteArray→Option VV
 | 0=>fun _=>none
 | k+1=>match l[k]? with | some f=>supd (funMk l k) f.name (.iptr ((encC fuE l).drop (k * 3))) | none=>funMk l k
def conMk (l:List Co):Nat→ByteArray→Option VV
 | 0=>fun _=>none
 | k+1=>match l[k]? with | some f=>supd (conMk l k) f.name (iV f.arity) | none=>conMk l k
theorem ZmB {l:List Fu} {k:Nat} (h:k<l.length):funMk l (k+1)=supd (funMk l k) l[k].name (.iptr ((encC fuE l).drop (k * 3))):=by
 rw [funMk,ZqC h]
theorem ZmC {l:List Co} {k:Nat} (h:k<l.length):conMk l (k+1)=supd (conMk l k) l[k].name (iV l[k].arity):=by
 rw [conMk,ZqC h]
abbrev fmB (m:ByteArray→Option VV):Blk:=.map (Jq Tryz.prog 82) (smap m)
abbrev cmB (m:ByteArray→Option VV):Blk:=.map (Jq Tryz.prog 83) (smap m)
abbrev tabE (m1 m2:Nat):List VV:=[.lit (.map (some m1)),.lit (.map (some m2))]
def TabAt (H:AH) (v:VV) (p:Pr):Prop:=∃ m1 m2,v=.agg (tabE m1 m2)∧H m1=some (fmB (funMk p.funs p.funs.length))∧H m2=some (cmB (conMk p.cons p.cons.length))
theorem TabAt.mono {H H':AH} {v:VV} {p:Pr} (h:TabAt H v p) (hs:SubH H H'):TabAt H' v p:=by
 obtain ⟨m1,m2,h0,h1,h2⟩:=h;exact ⟨m1,m2,h0,hs _ _ h1,hs _ _ h2⟩
theorem ZoZ (t:TypeId) (H:AH) (K:VE→AH→Prop):Zcd Tryz.prog t H K=Zev H fun r=>K (.ret (.lit (.map (some r)))) (H.set r (.map (Jq Tryz.prog t) (smap fun _=>none))):=by
 rw [← smap_nil]; rfl
structure TInv (H0:AH) (r1 r2 r3 m1 m2:Nat) (p:Pr) (i k:Nat) (H:AH):Prop where
 sub:SubH H0 H
 b1:H r1=some (.cells 44 [cosV p.cons,fusV p.funs] 0)
 b2:∃ z1 z2,H r2=some (.cells 85 [z1,z2] 0)
 b3:H r3=some (.cells 85 (tabE m1 m2) 0)
 bm:H m1=some (fmB (funMk p.funs i))
 bc:H m2=some (cmB (conMk p.cons k))
theorem JY {H:AH} {a b:Nat} {e:TypeId} {xs:List VV} {sp:Nat} {P:Value→Prop} {m:Value→Option VV} (h:H a=some (.cells e xs sp)) (h':H b=some (.map P m)):¬ a=b∧¬ b=a:=by
 refine ⟨fun e=>?_,fun e=>?_⟩<;>subst e<;>rw [h] at h'<;>cases h'
theorem TInv.setF {H0:AH} {r1 r2 r3 m1 m2:Nat} {p:Pr} {i k:Nat} {H:AH} (h:TInv H0 r1 r2 r3 m1 m2 p i k H) (g1:H0 m1=none) (hm:¬ m1=m2) (hi:i<p.funs.length) {cs:List VV} (hc:(encC fuE p.funs).drop (i * 3)=cs) :
 TInv H0 r1 r2 r3 m1 m2 p (i+1) k (H.set m1 (fmB (supd (funMk p.funs i) p.funs[i].name (.iptr cs)))):=by
 obtain ⟨z1,z2,b2⟩:=h.b2;refine ⟨h.sub.of_set g1,?_,⟨z1,z2,?_⟩,?_,?_,?_⟩
 ·rw [ZpV _ _ (JY h.b1 h.bm).1]; exact h.b1
 ·rw [ZpV _ _ (JY b2 h.bm).1]; exact b2
 ·rw [ZpV _ _ (JY h.b3 h.bm).1]; exact h.b3
 ·rw [ZpP,ZmB hi,hc]
 ·rw [ZpV _ _ (fun e=>hm e.symm)]; exact h.bc
theorem TInv.setC {H0:AH} {r1 r2 r3 m1 m2:Nat} {p:Pr} {i k:Nat} {H:AH} (h:TInv H0 r1 r2 r3 m1 m2 p i k H) (g2:H0 m2=none) (hm:¬ m1=m2) (hk:k<p.cons.length) :
 TInv H0 r1 r2 r3 m1 m2 p i (k+1) (H.set m2 (cmB (supd (conMk p.cons k) p.cons[k].name (iV p.cons[k].arity)))):=by
 obtain ⟨z1,z2,b2⟩:=h.b2;refine ⟨h.sub.of_set g2,?_,⟨z1,z2,?_⟩,?_,?_,?_⟩
 ·rw [ZpV _ _ (JY h.b1 h.bc).1]; exact h.b1
 ·rw [ZpV _ _ (JY b2 h.bc).1]; exact b2
 ·rw [ZpV _ _ (JY h.b3 h.bc).1]; exact h.b3
 ·rw [ZpV _ _ hm]; exact h.bm
 ·rw [ZpP,ZmC hk]
theorem TInv.alloc {H0:AH} {r1 r2 r3 m1 m2:Nat} {p:Pr} {i k:Nat} {H:AH} (h:TInv H0 r1 r2 r3 m1 m2 p i k H) {z:Nat} (hz:H z=none) (b:Blk):TInv H0 r1 r2 r3 m1 m2 p i k (H.set z b):=by
 obtain ⟨z1,z2,b2⟩:=h.b2;have s:=ZpR (b:=b) hz;exact ⟨h.sub.trans s,s _ _ h.b1,⟨z1,z2,s _ _ b2⟩,s _ _ h.b3,s _ _ h.bm,s _ _ h.bc⟩
theorem Zo0 {p:Pr} (hpc:p.cons.length≤1099511627776) (hpf:p.funs.length≤1099511627776) (hnc:∀ c∈p.cons,c.name.size≤maxLen) (hnf:∀ f∈p.funs,f.name.size≤maxLen) {H0:AH} {K:VE→AH→Prop} (hK:∀ v H',SubH H0 H'→TabAt H' v p→K (.ret v) H') :
 ZT Tryz.prog 45 [prV p] H0 K:=by
 refine ZE fd45 (by simp) ?_;delta c45 Zj Zi Zq Zr Zg Zd Zb Ze;replace hK:=ZpM hK
 (repeat' (first | (simp only [↓Zz,ZA,↓ZoM,ptrV,intV,ZpI,ZpJ,ZpT,Zp1,reduceCtorEq,ZD,ZM,fillV,setAt,ZpL,cl_map,undef,ZoZ,ZM,Jz,Zcq,ZbX,ZkK,JP,Zbi, *]) | (refine ZB fun zr zh=>?_; have zg:=zh; (try simp only [ZpO] at zg))))
 rename_i r1 n1 n1' r2 n2 n2' m1 k1 k1' m2 k2 k2';have hm12:¬ m1=m2:=k2'.1.2;have g1:=k1'.2.2;have g2:=k2'.2.2.2;have g3:=n2'.2
 refine ZbF (fun t H=>TInv H0 r1 r2 zr m1 m2 p 0 0 H∧t 1=ptrV r1 0∧t 2=ptrV r2 0∧t 3=ptrV zr 0∧t 11=fusV p.funs∧t 12=iV p.funs.length∧t 13=iV 0)
  ⟨⟨((((ZpR n1).of_set n2'.2).of_set g1).of_set g2).of_set zg.2.2.2.2,(by simp only [ZpU, *,if_true,if_false]<;>rfl),⟨_,_,(by simp only [ZpU, *,if_true,if_false]<;>rfl)⟩,ZpP _ _ _,(by simp only [ZpU, *,if_true,if_false]<;>rfl),(by simp only [ZpU, *,if_true,if_false]<;>rfl)⟩,(by simp only [ZC,ZpI,if_true,if_false, *]<;>rfl),(by simp only [ZC,ZpI,if_true,if_false, *]<;>rfl),(by simp only [ZC,ZpI,if_true,if_false, *]<;>rfl),(by simp only [ZC,ZpI,if_true,if_false, *]<;>rfl),(by simp only [ZC,ZpI,if_true,if_false, *]<;>rfl),(by simp only [ZC,ZpI,if_true,if_false, *]<;>rfl)⟩ ?_
 clear n1 n1' n2 n2' k1 k1' k2 k2' zh zg;generalize zr=r3;rintro t B ⟨hI,h1,h2,h3,h11,h12,h13⟩
 refine ZP (fun _ _ _ h=>h) (fun A H'=>A.d=[]∧A.t 1=ptrV r1 0∧A.t 2=ptrV r2 0∧A.t 3=ptrV r3 0∧A.t 11=fusV p.funs∧A.t 12=iV p.funs.length∧∃ i:Nat,i≤p.funs.length∧A.t 13=iV i∧TInv H0 r1 r2 r3 m1 m2 p i 0 H')
  (fun A _=>match A.t 13 with | .lit (.int _ i)=>((p.funs.length:Int)-i).toNat | _=>0) ?_ ?_
 ·exact ⟨rfl,h1,h2,h3,h11,h12,0,by omega,h13,hI⟩
 ·clear hI h1 h2 h3 h11 h12 h13;rintro ⟨t,d⟩ H' ⟨rfl,h1,h2,h3,h11,h12,i,hi,h13,hI⟩;dsimp only at h1 h2 h3 h11 h12 h13;delta b45_1 Zn Zr Za Zc Zd Zb Zk Zm;have q1:=hI.b1;have q3:=hI.b3;have qm:=hI.bm;replace hI:=ZpM hI;by_cases hlt:i<p.funs.length
  ·have hil:(i:Int)<(p.funs.length:Int):=by omega
   have hdi:=Wy hlt;have hzi:=hnf _ (ZpW hlt);clear hnc hnf
   (repeat' (first | (refine Zjt Zd9 hzi qm ?_) | (simp only [↓Wq,↓Wg,↓XM,↓XN,↓Xz,↓XZ,↓Wb,↓Xe,↓Yf,↓Yi,↓ZdY,↓Yu,↓Yr,↓XJ,↓Ys,↓XK,↓Yt,↓YS,↓ZC,↓Xb,↓YH,↓YA,↓Wr,↓Yb,↓Xf,↓ZgG,↓Wm,↓Zbo,ptrV,ite_true,ite_false,ZpI,ZpJ,ne_eq,not_false_eq_true,true_and,Zp7,decide_true,ZqU,ZqN,↓YV,↓YK,eq_self,Zp2,ZqB,ZpL,and_self,Wi,ZbA,XG,Zja,WY,ZcQ,ZaF,XH,ZbB,Xr,WO,↓Ws,Zdz,Jz,Zig,ZiT,Zcq,ZW,Zbi, *]) | (refine ZJ mixed (fun _ _ _ _ e h=>⟨e.trans h.1,h.2⟩) _ (ZpN _) ?_) | (with_reducible refine And.intro ?_ ?_)))
   all_goals rw [ZK (n:=(i:Int)+1) (by omega) (by omega)]
   ·exact ⟨i+1,by omega,rfl,hI.out.setF g1 hm12 hlt hdi⟩
   ·omega
  ·have hil:¬ (i:Int)<(p.funs.length:Int):=by omega
   have hie:i=p.funs.length:=by omega
   subst hie;clear hil
   (repeat' (first | (simp only [↓Zz,ZA,ptrV,ZpJ, *])))
   delta c45_2 Zd Zb Ze Zq;refine ZV rfl (fun _ _ _ h=>h) ?_
   (repeat' (first | (simp only [↓Zz,ZA,ptrV,intV,ZpI,ZpJ,reduceCtorEq,ZpL,Wk,WT,Za7, *])))
   refine ZP (fun _ _ _ h=>h) (fun A H'=>A.d=[]∧A.t 1=ptrV r1 0∧A.t 2=ptrV r2 0∧A.t 3=ptrV r3 0∧A.t 30=cosV p.cons∧A.t 31=iV p.cons.length∧∃ k:Nat,k≤p.cons.length∧A.t 32=iV k∧TInv H0 r1 r2 r3 m1 m2 p p.funs.length k H')
    (fun A _=>match A.t 32 with | .lit (.int _ k)=>((p.cons.length:Int)-k).toNat | _=>0) ?_ ?_
   ·exact ⟨rfl,(by simp only [ZC,ZpI,if_false, *]<;>rfl),(by simp only [ZC,ZpI,if_false, *]<;>rfl),(by simp only [ZC,ZpI,if_false, *]<;>rfl),(by simp only [ZC,ZpI,if_true,if_false, *]<;>rfl),(by simp only [ZC,ZpI,if_true,if_false, *]<;>rfl),0,by omega,(by simp only [ZC,ZpI,if_true,if_false, *]<;>rfl),hI.out⟩
   ·clear hI h1 h2 h3 h11 h12 h13 q1 q3 qm;rintro ⟨t,d⟩ H' ⟨rfl,h1,h2,h3,h30,h31,k,hk,h32,hI⟩;dsimp only at h1 h2 h3 h30 h31 h32;delta b45_2 Zn Zr Zk Zb Zi Zg Zd Zm Za;by_cases hkt:k<p.cons.length
    ·have hkl:(k:Int)<(p.cons.length:Int):=by omega
     have hdk:=Zaj hkt;have hzk:=hnc _ (ZpW hkt);have q1:=hI.b1;have q3:=hI.b3;have qm:=fun z b hz=>(hI.alloc (z:=z) hz b).bc
     replace hI:=ZpM hI;clear hnc hnf
     (repeat' (first | (refine Zjt Zea hzk (qm _ _ (by assumption)) ?_) | (simp only [↓Wq,↓Wg,↓XM,↓XN,↓Xz,↓XZ,↓Xe,↓Yf,↓Yi,↓ZdY,↓Yu,↓Yr,↓XJ,↓Ys,↓XK,↓Yt,↓YS,↓ZC,↓Xb,↓YA,↓YU,↓Wr,↓Wv,↓Yb,↓Xf,↓ZgG,↓Wm,↓Zbo,ptrV,Zp3,Zqa,Zqb,Zqh,ite_true,ite_false,ZpI,ZpJ,ZpT,ne_eq,not_false_eq_true,true_and,Zp7,decide_true,ZqU,ZqN,ZpU,Zqj,setAt,Zqn,Zqv,Zqo,eq_self,Zp2,ZqB,ZpL,and_self,Wi,ZfJ,XS,We,YT,Zqs,Zqy,↓Ww,XW,ZpY,ZbA,XG,WY,ZcQ,ZaF,XH,ZbB,Xr,WO,WP,WQ,ZfU,Zih,Zct,ZW,Zm6,ZkN,ZQ,szT_76,ZfQ,Za7, *]) | (refine ZB fun zr zh=>?_; have zg:=zh; (try simp only [ZpO] at zg); (try have zn_q1:=ZpK q1 zh); (try have zn_q1:=ZpK q1 zg.2); (try have zn_q1:=ZpK q1 zg.2.2); (try have zn_q3:=ZpK q3 zh); (try have zn_q3:=ZpK q3 zg.2); (try have zn_q3:=ZpK q3 zg.2.2)) | (with_reducible refine And.intro ?_ ?_)))
     all_goals rw [ZK (n:=(k:Int)+1) (by omega) (by omega)]
     ·exact ⟨k+1,by omega,rfl,(hI.out.alloc zh _).setC g2 hm12 hkt⟩
     ·omega
    ·have hkl:¬ (k:Int)<(p.cons.length:Int):=by omega
     have hke:k=p.cons.length:=by omega
     subst hke;clear hkl
     (repeat' (first | (simp only [↓Zz,ZA,ptrV,ZpJ, *]) | (refine ZV rfl (fun _ _ _ h=>h) ?_)))
     delta c45_1 Zb Zg;obtain ⟨z1,z2,q2⟩:=hI.b2;have q3:=hI.b3;replace hI:=ZpM hI
     (repeat' (first | (simp only [↓Zz,ZA,ptrV,ZpI,ZpJ,ZpT,setAt,ZpL,Zg7,ZbX, *])))
     refine Yo (x:=.agg (tabE m1 m2)) rfl ?_ (hK.out _ _ (hI.out.sub.of_set g3) ⟨m1,m2,rfl,?_,?_⟩)
     ·simp only [resV,YY,YX,Zg7,ZC,ZpI,if_false,h2,ZpP,ptrV,ZqL,Zp6]; rfl
     ·rw [ZpV _ _ (JY q2 hI.out.bm).2]; exact hI.out.bm
     ·rw [ZpV _ _ (JY q2 hI.out.bc).2]; exact hI.out.bc
end Go.PV.YtglpmlbbaedbiaaGreat
end
section
open Bool renaming false_eq_true→ZqP
open Go.PV.AH renaming set_none→ZpO,ne_of→ZpK,get→ZpU,set_same→ZpP,set_ne→ZpV
open Go.PV.Hold renaming mk→ZpM
open Go.PV.PureF renaming use→ZpQ
open Go.PV.SubH renaming refl→ZpN,of_set→ZpS,none→Zqp,new→ZpR
open Int renaming reduceEq→Zp5,toNat_natCast→ZqN
open List renaming getElem?_eq_getElem→ZqC,getElem_map→ZqR,getElem_mem→ZpW,drop_eq_getElem_cons→Zql,drop→ZpL,drop_eq_nil_of_le→Zp9,map_cons→Zp3,map_nil→Zqa,getD_cons_zero→ZqM,getD_cons_succ→Zqw,getD_nil→Zqx,getElem?_cons_zero→ZqE,getElem?_cons_succ→ZqF
open Nat renaming reduceEqDiff→ZpI,reduceLT→ZpJ,reduceAdd→ZpT,succ_ne_self→Zp7,zero_add→Zp2,add_zero→ZqB,reduceLeDiff→Zp1
open Option renaming map_none→Zqz,map_some→Zp6
set_option maxRecDepth 20000
set_option maxHeartbeats 4000000
namespace Go.PV.YtglpmlbbaedbiaaGreat
open Go Go.Proofs
section
variable {P:Program} {t:TypeId} {z:Value} {H:AH} {K:VE→AH→Prop} {r:Nat} {m:ByteArray→Option VV} {s:ByteArray}
theorem Zi1 {ok:Bool} {y:VV} (h:Zew P t z) (hz:s.size≤maxLen) (hm:m s=some y) (hr:H r=some (.map (Jq P t) (smap m))) (hk:K (.ret (okV ok y true)) H):ZaT P t (.lit (.map (some r))) (.lit (.string s)) ok H K :=
 Zjs h hz hr (fun y' h'=>by rw [hm] at h'; cases h'; exact hk) (fun h'=>by rw [hm] at h'; cases h')
theorem Zoe {ok:Bool} (h:Zew P t z) (hz:s.size≤maxLen) (hm:m s=none) (hr:H r=some (.map (Jq P t) (smap m))) (hk:K (.ret (okV ok (.lit z) false)) H):ZaT P t (.lit (.map (some r))) (.lit (.string s)) ok H K :=
 Zjs h hz hr (fun y' h'=>by rw [hm] at h'; cases h') (fun h'=>hk)
end
theorem Ze5 {l:List Fu} {s:ByteArray}:∀ {k:Nat},(∀ j (h:j<l.length),j<k→¬ l[j].name=s)→funMk l k s=none
 | 0,_=>rfl
 | k+1,h=>by
   rw [funMk];cases hk:l[k]? with
   | none=>exact Ze5 fun j h1 h2=>h j h1 (by omega)
   | some f =>
     obtain ⟨h1,rfl⟩:=List.getElem?_eq_some_iff.1 hk;show (if s=_ then _ else _)=none;rw [if_neg (fun e=>h k h1 (by omega) e.symm)];exact Ze5 fun j h1 h2=>h j h1 (by omega)
theorem Ze6 {l:List Fu} {s:ByteArray} {j:Nat} (hj:j<l.length) (hs:l[j].name=s):∀ {k:Nat},j<k→(∀ i (h:i<l.length),j<i→¬ l[i].name=s)→funMk l k s=some (.iptr ((encC fuE l).drop (j * 3)))
 | k+1,hjk,h=>by
   rw [funMk];by_cases e:j=k
   ·subst e;rw [ZqC hj];show (if s=_ then _ else _)=_;rw [if_pos hs.symm]
   ·cases hk:l[k]? with
    | none=>exact Ze6 hj hs (by omega) h
    | some f =>
      obtain ⟨h1,rfl⟩:=List.getElem?_eq_some_iff.1 hk;show (if s=_ then _ else _)=_;rw [if_neg (fun e=>h k h1 (by omega) e.symm)];exact Ze6 hj hs (by omega) h
theorem Ze7 {l:List Co} {s:ByteArray}:∀ {k:Nat},(∀ j (h:j<l.length),j<k→¬ l[j].name=s)→conMk l k s=none
 | 0,_=>rfl
 | k+1,h=>by
   rw [conMk];cases hk:l[k]? with
   | none=>exact Ze7 fun j h1 h2=>h j h1 (by omega)
   | some f =>
     obtain ⟨h1,rfl⟩:=List.getElem?_eq_some_iff.1 hk;show (if s=_ then _ else _)=none;rw [if_neg (fun e=>h k h1 (by omega) e.symm)];exact Ze7 fun j h1 h2=>h j h1 (by omega)
theorem Ze8 {l:List Co} {s:ByteArray} {j:Nat} (hj:j<l.length) (hs:l[j].name=s):∀ {k:Nat},j<k→(∀ i (h:i<l.length),j<i→¬ l[i].name=s)→conMk l k s=some (iV l[j].arity)
 | k+1,hjk,h=>by
   rw [conMk];by_cases e:j=k
   ·subst e;rw [ZqC hj];show (if s=_ then _ else _)=_;rw [if_pos hs.symm]
   ·cases hk:l[k]? with
    | none=>exact Ze8 hj hs (by omega) h
    | some f =>
      obtain ⟨h1,rfl⟩:=List.getElem?_eq_some_iff.1 hk;show (if s=_ then _ else _)=_;rw [if_neg (fun e=>h k h1 (by omega) e.symm)];exact Ze8 hj hs (by omega) h
theorem ZlT {α:Type} {f:α→ByteArray} {l:List α} (h:(l.map f).Nodup) {i j:Nat} (hi:i<l.length) (hj:j<l.length) (hij:¬ i=j):¬ f l[i]=f l[j]:=fun e=>by
 have hp:=List.pairwise_iff_getElem.1 h;rcases Nat.lt_or_gt_of_ne hij with h1 | h1
 ·have:=hp i j (by simpa using hi) (by simpa using hj) h1
  simp only [ZqR] at this;exact this e
 ·have:=hp j i (by simpa using hj) (by simpa using hi) h1
  simp only [ZqR] at this;exact this e.symm
structure NdP (p:Pr):Prop where
 funs:(p.funs.map (·.name)).Nodup
 cons:(p.cons.map (·.name)).Nodup
theorem ZlU {l:List Fu} (h:(l.map (·.name)).Nodup) (s:ByteArray):(atFu l s = -1∧funMk l l.length s=none)∨∃ j,∃ hj:j<l.length,atFu l s=j∧l[j].name=s∧funMk l l.length s=some (.iptr ((encC fuE l).drop (j * 3))):=by
 rcases WI (fun c:Fu=>decide (c.name=s)) l with ⟨h1,h2⟩ | ⟨j,hj,h1,h2,h3⟩
 ·refine .inl ⟨h1,Ze5 fun j hj _ e=>?_⟩
  have:=h2 _ (ZpW hj)
  simp [e] at this
 ·have hs:l[j].name=s:=by simpa using h2
  exact .inr ⟨j,hj,h1,hs,Ze6 hj hs hj fun i hi hij e=>ZlT h hi hj (by omega) (e.trans hs.symm)⟩
theorem conMk_at {l:List Co} (h:(l.map (·.name)).Nodup) (s:ByteArray):(atCo l s = -1∧conMk l l.length s=none)∨∃ j,∃ hj:j<l.length,atCo l s=j∧l[j].name=s∧conMk l l.length s=some (iV l[j].arity):=by
 rcases WI (fun c:Co=>decide (c.name=s)) l with ⟨h1,h2⟩ | ⟨j,hj,h1,h2,h3⟩
 ·refine .inl ⟨h1,Ze7 fun j hj _ e=>?_⟩
  have:=h2 _ (ZpW hj)
  simp [e] at this
 ·have hs:l[j].name=s:=by simpa using h2
  exact .inr ⟨j,hj,h1,hs,Ze8 hj hs hj fun i hi hij e=>ZlT h hi hj (by omega) (e.trans hs.symm)⟩
def formB (op nk:Int) (nm:Bool):Bool :=
 if op=1∨op=2 then !decide (0<nk) && nm else if op=5 then decide (nk=1) && nm else if op=4 then !decide (nk<2) && !nm else if op=3 then nm else false
def sdOwn (p:Pr) (e:Ex) (bound:List ByteArray):Int :=
 if formB e.op e.kids.length (!decide (e.name={ data:=#[] }))=false then 2 else
 if e.op=2∧atFu p.funs e.name<0 then 9 else
 if e.op=3∧atCo p.cons e.name<0 then 9 else
 if e.op=3∧¬ (e.kids.length:Int)=arCo p.cons e.name then 5 else
 if e.op=1∧hasF bound e.name=false then 422 else 0
mutual
def Ex.sdF (p:Pr):Ex→List ByteArray→Int
 | .mk op n ks,nm=>if sdOwn p (.mk op n ks) nm=0 then sdsF p ks (if op=5 then nm++[n] else nm) else sdOwn p (.mk op n ks) nm
def sdsF (p:Pr):List Ex→List ByteArray→Int
 | [],_=>0
 | k::ks,nm=>if k.sdF p nm=0 then sdsF p ks nm else k.sdF p nm
end
theorem Ex.sdF_eq (p:Pr) (e:Ex) (nm:List ByteArray):e.sdF p nm=if sdOwn p e nm=0 then sdsF p e.kids (if e.op=5 then nm++[e.name] else nm) else sdOwn p e nm:=by
 cases e; rw [Ex.sdF]; rfl
theorem ZjD {p:Pr} {l:List Ex} {nm:List ByteArray} {i:Nat} (h:i<l.length):sdsF p (l.drop i) nm=if l[i].sdF p nm=0 then sdsF p (l.drop (i+1)) nm else l[i].sdF p nm:=by
 rw [Zql h,sdsF]
def sdQ (H0:AH) (R:Int):APost:=YI Tryz.prog [.tmp 6] fun e H'=>e=.ret (iV R)∧SubH H0 H'
theorem Zgf {p:Pr} {ks:List Ex} {nm:List ByteArray} {t:Nat→VV} {H0 B:AH} {m1 m2 r3:Nat} {R:Int} (hN:ks.length≤1099511627776)
 (ih:∀ i (h:i<ks.length) (H:AH),TabAt H (.agg (tabE m1 m2)) p→ReadF Tryz.prog 46 [.agg (tabE m1 m2),exV ks[i],strsV nm] (iV (ks[i].sdF p nm)) H) (hR:R=sdsF p ks nm) (h2:t 2=strsV nm) (hv:TabAt B (.agg (tabE m1 m2)) p) (h3:t 3=ptrV r3 0)
 (k3:B r3=some (.cells 85 (tabE m1 m2) 0)) (h95:t 95=exsV ks) (h96:t 96=iV ks.length) (h97:t 97=iV 0) (hs:SubH H0 B) :
 ACx ⟨Tryz.prog,109,none⟩ (.loop b46_1) (Xh 2 (thenA (ACx ⟨Tryz.prog,109,none⟩ c46_1 (sdQ H0 R)) (sdQ H0 R))) ⟨t,[]⟩ B:=by
 refine ZP (fun _ _ _ h=>h) (fun A H'=>SubH B H'∧A.d=[]∧A.t 2=strsV nm∧A.t 3=ptrV r3 0∧A.t 95=exsV ks∧A.t 96=iV ks.length∧∃ i:Nat,i≤ks.length∧A.t 97=iV i∧R=sdsF p (ks.drop i) nm)
  (fun A _=>match A.t 97 with | .lit (.int _ i)=>((ks.length:Int)-i).toNat | _=>0) ?_ ?_
 ·exact ⟨ZpN _,rfl,h2,h3,h95,h96,0,by omega,h97,hR⟩
 ·clear hR h2 h3 h95 h96 h97;rintro ⟨t,d⟩ H' ⟨hb,rfl,h2,h3,h95,h96,i,hi,h97,hR⟩;dsimp only at h2 h3 h95 h96 h97;delta b46_1 Zn Zr Zk Zb Zi Zg Za Zo Zc Zm;have q3:=hb _ _ k3;by_cases hlt:i<ks.length
  ·have hil:(i:Int)<(ks.length:Int):=by omega
   have hdi:=XI hlt;rw [ZjD hlt] at hR;replace hR:=ZpM hR;have rd:=fun H2 (h:SubH B H2)=>ih i hlt H2 (hv.mono h)
   clear ih k3
   (repeat' (first | (simp only [↓Zz,ZA,ptrV,ZpI,ZpJ,ZpT,setAt,ZpL,YZ,Zg7,Zbh,Wj,Yx,en_46, *]) | (refine Yh ?_ ?_<;>intro) | (refine ZG ?_) | (refine ZB fun zr zh=>?_; have zg:=zh; (try simp only [ZpO] at zg); (try have zn_q3:=ZpK q3 zh); (try have zn_q3:=ZpK q3 zg.2); (try have zn_q3:=ZpK q3 zg.2.2)) | (refine ZpS ?_ ?_) | (exact Zqp (by assumption) (by assumption)) | (refine (rd _ ?_).use ?_) | (with_reducible refine And.intro ?_ ?_)))
   all_goals try rw [ZK (n:=(i:Int)+1) (by omega) (by omega)]
   all_goals first
    | omega
    | exact hs.trans hb
    | exact hb
    | exact hb.of_set (hb.none zh)
    | exact hs.none (hb.none zh)
    | (have hne:(!decide (Ex.sdF p ks[i] nm=0))=true:=by assumption
       rw [hR.out,if_neg (by simpa using hne)])
    | (have hne:(!decide (Ex.sdF p ks[i] nm=0))=false:=by assumption
       exact ⟨i+1,by omega,rfl,by rw [hR.out,if_pos (by simpa using hne)]⟩)
  ·have hil:¬ (i:Int)<(ks.length:Int):=by omega
   rw [Zp9 (by omega)] at hR;have hR:R=0:=hR;subst hR
   (repeat' (first | (simp only [↓Zz,ZA,ptrV,ZpJ, *]) | (refine ZV rfl (fun _ _ _ h=>h) ?_)))
   delta c46_1 Zf
   (repeat' (first | (simp only [↓Zz,ZA,ZpI,ZpJ, *]) | (refine ZG ?_)))
   exact hs.trans hb
theorem eq_funP {ox:Operand} {c:Value} {a:Option Addr} {H:AH} {K:VE→AH→Prop}:vcBin Tryz.prog .eql 137 ox (.const c) (.lit (.pointer a)) nilP H K=K (.ret (boolV a.isNone)) H:=eq_ptr (e:=81) (by kernel_rfl)
theorem eq_funI {ox:Operand} {c:Value} {cs:List VV} {H:AH} {K:VE→AH→Prop}:vcBin Tryz.prog .eql 137 ox (.const c) (.iptr cs) nilP H K=K (.ret (boolV false)) H:=eq_iptr (e:=81) (by kernel_rfl)
theorem sd_node {p:Pr} {op nk:Int} {name:ByteArray} {kids:List Ex} {nb hb:Bool} {bound:List ByteArray} {m1 m2:Nat} {H:AH} {R:Int} (hN:kids.length≤1099511627776) (hbl:bound.length≤1099511627776) (hz:name.size≤maxLen) (hnk:(kids.length:Int)=nk)
 (ih:∀ (nm':List ByteArray),nm'.length≤bound.length+1→∀ i (h:i<kids.length) (H:AH),TabAt H (.agg (tabE m1 m2)) p→ReadF Tryz.prog 46 [.agg (tabE m1 m2),exV kids[i],strsV nm'] (iV (kids[i].sdF p nm')) H)
 (hm1:H m1=some (fmB (funMk p.funs p.funs.length))) (hm2:H m2=some (cmB (conMk p.cons p.cons.length)))
 (hfa:(atFu p.funs name = -1∧funMk p.funs p.funs.length name=none)∨∃ j,∃ hj:j<p.funs.length,atFu p.funs name=j∧p.funs[j].name=name∧funMk p.funs p.funs.length name=some (.iptr ((encC fuE p.funs).drop (j * 3))))
 (hca:(atCo p.cons name = -1∧conMk p.cons p.cons.length name=none)∨∃ j,∃ hj:j<p.cons.length,atCo p.cons name=j∧p.cons[j].name=name∧conMk p.cons p.cons.length name=some (iV p.cons[j].arity))
 (hhas:PureF Tryz.prog 81 [strsV bound,sV name] (boolV hb))
 (o:Int) (ho:o=if formB op nk (!decide (name={ data:=#[] }))=false then 2 else if op=2∧atFu p.funs name<0 then 9 else if op=3∧atCo p.cons name<0 then 9 else if op=3∧¬ nk=arCo p.cons name then 5 else if op=1∧hb=false then 422 else 0)
 (hR:R=if o=0 then sdsF p kids (if op=5 then bound++[name] else bound) else o):ReadF Tryz.prog 46 [.agg (tabE m1 m2),.agg [iV op,sV name,encS exE kids],strsV bound] (iV R) H:=by
 refine ZE fd46 (by simp) ?_;delta c46 Zj Zf Zd Zb Ze Zq Zr Zc Zm Za Zp Zh Zn Zo Zl;unfold formB at ho;unfold arCo at ho;by_cases h1:op=1
 ·subst h1;by_cases hn:name={ data:=#[] }
  ·have hR':=ZpM (show (2:Int)=R by rw [hR,ho]; simp [hn]);clear hR ho ih
   (repeat' (first | (simp only [↓Zz,ZA,↓XE,ptrV,intV,ZpI,ZpJ,reduceCtorEq,ZN,ZD,ZpL,undef,Yk,Ym,Yg,Xa,ZW,ZQ,Yx, *]) | (refine YW ?_ ?_<;>intro) | (refine ZG ?_) | (refine ZJ mixed (fun _ _ _ _ e h=>⟨e.trans h.1,h.2⟩) _ (ZpN _) ?_) | (refine ZB fun zr zh=>?_; have zg:=zh; (try simp only [ZpO] at zg); (try have zn_hm1:=ZpK hm1 zh); (try have zn_hm1:=ZpK hm1 zg.2); (try have zn_hm1:=ZpK hm1 zg.2.2); (try have zn_hm2:=ZpK hm2 zh); (try have zn_hm2:=ZpK hm2 zg.2); (try have zn_hm2:=ZpK hm2 zg.2.2)) | (exact ZpN _) | (refine ZpS ?_ ?_) | (with_reducible refine And.intro ?_ ?_)))
   all_goals first
    | rw [hR'.out]
    | (rename_i r3 n3 n3' w1 w2; exact (ZpR n3).of_set zg.2)
  ·by_cases hk:0<nk
   ·have hR':=ZpM (show (2:Int)=R by rw [hR,ho]; simp [hk]);clear hR ho ih
    (repeat' (first | (simp only [↓Zz,ZA,↓XE,ptrV,intV,ZpI,ZpJ,reduceCtorEq,ZN,ZD,ZpL,undef,Yk,Ym,Yg,Xa,ZW,ZQ,Yx, *]) | (refine ZG ?_) | (refine ZJ mixed (fun _ _ _ _ e h=>⟨e.trans h.1,h.2⟩) _ (ZpN _) ?_) | (refine ZB fun zr zh=>?_; have zg:=zh; (try simp only [ZpO] at zg); (try have zn_hm1:=ZpK hm1 zh); (try have zn_hm1:=ZpK hm1 zg.2); (try have zn_hm1:=ZpK hm1 zg.2.2); (try have zn_hm2:=ZpK hm2 zh); (try have zn_hm2:=ZpK hm2 zg.2); (try have zn_hm2:=ZpK hm2 zg.2.2)) | (exact ZpN _) | (refine ZpS ?_ ?_) | (with_reducible refine And.intro ?_ ?_)))
    all_goals first
     | rw [hR'.out]
     | (rename_i r3 n3 n3' w1 w2; exact (ZpR n3).of_set zg.2)
   ·cases hb with
    | false =>
      have hR':=ZpM (show (422:Int)=R by rw [hR,ho]; simp [hn,hk]);clear hR ho ih
      (repeat' (first | (simp only [↓Zz,ZA,↓XE,ptrV,intV,boolV,ZpI,ZpJ,reduceCtorEq,ZD,ZpL,undef,Zp5,Yk,Ym,Yg,Xa,ZW,ZQ,Yx,Zpw, *]) | (refine ZG ?_) | (refine ZJ mixed (fun _ _ _ _ e h=>⟨e.trans h.1,h.2⟩) _ (ZpN _) ?_) | (refine ZB fun zr zh=>?_; have zg:=zh; (try simp only [ZpO] at zg); (try have zn_hm1:=ZpK hm1 zh); (try have zn_hm1:=ZpK hm1 zg.2); (try have zn_hm1:=ZpK hm1 zg.2.2); (try have zn_hm2:=ZpK hm2 zh); (try have zn_hm2:=ZpK hm2 zg.2); (try have zn_hm2:=ZpK hm2 zg.2.2)) | (exact ZpN _) | (refine ZpS ?_ ?_) | (refine ZpQ (hhas) ?_) | (with_reducible refine And.intro ?_ ?_)))
      all_goals first
       | rw [hR'.out]
       | (rename_i r3 n3 n3' w1 w2; exact (ZpR n3).of_set zg.2)
    | true =>
      have hR':=ZpM (show R=sdsF p kids bound by rw [hR,ho]; simp [hn,hk]);clear hR ho
      (repeat' (first | (simp only [↓Zz,ZA,↓XE,ptrV,intV,boolV,ZpI,ZpJ,reduceCtorEq,ZD,ZpL,undef,Zp5,Yk,Ym,Yg,Xa,ZW,ZQ,Yx,Zpw, *]) | (refine ZJ mixed (fun _ _ _ _ e h=>⟨e.trans h.1,h.2⟩) _ (ZpN _) ?_) | (refine ZB fun zr zh=>?_; have zg:=zh; (try simp only [ZpO] at zg); (try have zn_hm1:=ZpK hm1 zh); (try have zn_hm1:=ZpK hm1 zg.2); (try have zn_hm1:=ZpK hm1 zg.2.2); (try have zn_hm2:=ZpK hm2 zh); (try have zn_hm2:=ZpK hm2 zg.2); (try have zn_hm2:=ZpK hm2 zg.2.2)) | (refine ZpQ (hhas) ?_)))
      rename_i r3 n3 n3' w1 w2;have hsr:∀ b1 b2,SubH H ((H.set r3 b1).set zr b2):=fun _ _=>(ZpR n3).of_set zg.2
      refine Zgf (ks:=kids) (nm:=bound) (r3:=r3) hN (fun i h H=>ih _ (by omega) i h H) hR'.out (by simp only [ZC,ZpI,if_false, *]<;>rfl) ⟨m1,m2,rfl,hsr _ _ _ _ hm1,hsr _ _ _ _ hm2⟩ (by simp only [ZC,ZpI,if_true,if_false, *]<;>rfl) (by simp only [ZpU, *,if_true,if_false]<;>rfl) (by simp only [ZC,ZpI,if_true,if_false, *]<;>rfl) (by simp only [ZC,ZpI,if_true,if_false, *]<;>rfl) (by simp only [ZC,ZpI,if_true,if_false, *]<;>rfl) (hsr _ _)
 ·by_cases h2:op=2
  ·subst h2;by_cases hn:name={ data:=#[] }
   ·have hR':=ZpM (show (2:Int)=R by rw [hR,ho]; simp [hn]);clear hR ho ih
    (repeat' (first | (simp only [↓Zz,ZA,↓XE,ptrV,intV,ZpI,ZpJ,reduceCtorEq,ZN,ZD,ZpL,undef,Yk,Ym,Yg,Xa,ZW,ZQ,Yx, *]) | (refine YW ?_ ?_<;>intro) | (refine ZG ?_) | (refine ZJ mixed (fun _ _ _ _ e h=>⟨e.trans h.1,h.2⟩) _ (ZpN _) ?_) | (refine ZB fun zr zh=>?_; have zg:=zh; (try simp only [ZpO] at zg); (try have zn_hm1:=ZpK hm1 zh); (try have zn_hm1:=ZpK hm1 zg.2); (try have zn_hm1:=ZpK hm1 zg.2.2); (try have zn_hm2:=ZpK hm2 zh); (try have zn_hm2:=ZpK hm2 zg.2); (try have zn_hm2:=ZpK hm2 zg.2.2)) | (exact ZpN _) | (refine ZpS ?_ ?_) | (with_reducible refine And.intro ?_ ?_)))
    all_goals first
     | rw [hR'.out]
     | (rename_i r3 n3 n3' w1 w2; exact (ZpR n3).of_set zg.2)
   ·by_cases hk:0<nk
    ·have hR':=ZpM (show (2:Int)=R by rw [hR,ho]; simp [hk]);clear hR ho ih
     (repeat' (first | (simp only [↓Zz,ZA,↓XE,ptrV,intV,ZpI,ZpJ,reduceCtorEq,ZN,ZD,ZpL,undef,Yk,Ym,Yg,Xa,ZW,ZQ,Yx, *]) | (refine ZG ?_) | (refine ZJ mixed (fun _ _ _ _ e h=>⟨e.trans h.1,h.2⟩) _ (ZpN _) ?_) | (refine ZB fun zr zh=>?_; have zg:=zh; (try simp only [ZpO] at zg); (try have zn_hm1:=ZpK hm1 zh); (try have zn_hm1:=ZpK hm1 zg.2); (try have zn_hm1:=ZpK hm1 zg.2.2); (try have zn_hm2:=ZpK hm2 zh); (try have zn_hm2:=ZpK hm2 zg.2); (try have zn_hm2:=ZpK hm2 zg.2.2)) | (exact ZpN _) | (refine ZpS ?_ ?_) | (with_reducible refine And.intro ?_ ?_)))
     all_goals first
      | rw [hR'.out]
      | (rename_i r3 n3 n3' w1 w2; exact (ZpR n3).of_set zg.2)
    ·rcases hfa with ⟨hat,hfn⟩ | ⟨j,hj,hat,hjn,hfn⟩
     ·have hR':=ZpM (show (9:Int)=R by rw [hR,ho]; simp [hn,hk,hat]);clear hR ho ih hat
      (repeat' (first | (refine Zoe Zd9 hz hfn (by first | assumption | simp only [ZpU, *,if_false]) ?_) | (simp only [↓Wq,↓Wg,↓XM,↓XN,↓Xz,↓WV,↓XZ,↓WX,↓Wb,↓Xe,↓Yf,↓Zag,↓Zcg,↓Yi,↓Wa,↓ZdY,↓ZbR,↓Yu,↓Yr,↓Ys,↓Yt,↓YS,↓ZC,↓Xb,↓YH,↓Jh,↓Zah,↓Zbn,↓YA,↓Wr,↓s_un,↓ZdZ,↓Yb,↓ZbM,↓Jn,↓Zd0,↓JS,↓WA,↓XA,↓XE,ptrV,intV,boolV,Zp3,Zqa,ZqM,Zqw,Zqx,ite_true,ite_false,ZpI,ZpJ,ne_eq,not_false_eq_true,true_and,ZqP,Zp7,decide_true,decide_false,Bool.not_true,Bool.not_false,reduceCtorEq,ZD,↓YV,↓YK,ZpU,eq_self,Zp2,ZqB,ZpL,Wi,YT,↓Zd3,XG,WY,Zb2,XH,Xr,WO,↓Ws,undef,eq_funP,Option.isNone_none,okV,Yk,Ym,Yg,Zdz,Xa,ZW,ZQ,ZiT,Yx, *]) | (refine ZG ?_) | (refine ZJ mixed (fun _ _ _ _ e h=>⟨e.trans h.1,h.2⟩) _ (ZpN _) ?_) | (refine ZB fun zr zh=>?_; have zg:=zh; (try simp only [ZpO] at zg); (try have zn_hm1:=ZpK hm1 zh); (try have zn_hm1:=ZpK hm1 zg.2); (try have zn_hm1:=ZpK hm1 zg.2.2); (try have zn_hm2:=ZpK hm2 zh); (try have zn_hm2:=ZpK hm2 zg.2); (try have zn_hm2:=ZpK hm2 zg.2.2)) | (exact ZpN _) | (refine ZpS ?_ ?_) | (with_reducible refine And.intro ?_ ?_)))
      all_goals first
       | rw [hR'.out]
       | (rename_i r3 n3 n3' w1 w2; exact (ZpR n3).of_set zg.2)
     ·clear hjn;have hj0:¬ (j:Int)<0:=by omega
      have hR':=ZpM (show R=sdsF p kids bound by rw [hR,ho]; simp [hn,hk,hat,hj0]);clear hR ho hat
      (repeat' (first | (refine Zi1 Zd9 hz hfn (by first | assumption | simp only [ZpU, *,if_false]) ?_) | (simp only [↓Wq,↓Wg,↓XM,↓ZfI,↓XN,↓Xz,↓WV,↓XZ,↓ZkS,↓Wb,↓Xe,↓Yf,↓Zag,↓Zcg,↓Yi,↓ZdY,↓Yu,↓Yr,↓Ys,↓Yt,↓YS,↓ZC,↓Xb,↓YH,↓Jh,↓Zah,↓Zbn,↓YA,↓Wr,↓s_un,↓ZdZ,↓Yb,↓ZbM,↓Jn,↓Zd0,↓JS,↓WA,↓XA,↓XE,ptrV,intV,boolV,Zp3,Zqa,ZqM,Zqw,Zqx,ite_true,ite_false,ZpI,ZpJ,ne_eq,not_false_eq_true,true_and,ZqP,Zp7,decide_true,decide_false,Bool.not_true,Bool.not_false,reduceCtorEq,ZD,↓YV,↓YK,ZpU,eq_self,Zp2,ZqB,ZpL,Wi,YT,↓Zd3,XG,WY,Zb2,XH,Xr,WO,↓Ws,undef,eq_funI,okV,Yk,Ym,Yg,Zdz,Xa,ZW,ZQ,ZiT,Yx, *]) | (refine ZJ mixed (fun _ _ _ _ e h=>⟨e.trans h.1,h.2⟩) _ (ZpN _) ?_) | (refine ZB fun zr zh=>?_; have zg:=zh; (try simp only [ZpO] at zg); (try have zn_hm1:=ZpK hm1 zh); (try have zn_hm1:=ZpK hm1 zg.2); (try have zn_hm1:=ZpK hm1 zg.2.2); (try have zn_hm2:=ZpK hm2 zh); (try have zn_hm2:=ZpK hm2 zg.2); (try have zn_hm2:=ZpK hm2 zg.2.2))))
      rename_i r3 n3 n3' w1 w2;have hsr:∀ b1 b2,SubH H ((H.set r3 b1).set zr b2):=fun _ _=>(ZpR n3).of_set zg.2
      refine Zgf (ks:=kids) (nm:=bound) (r3:=r3) hN (fun i h H=>ih _ (by omega) i h H) hR'.out (by simp only [ZC,ZpI,if_false, *]<;>rfl) ⟨m1,m2,rfl,hsr _ _ _ _ hm1,hsr _ _ _ _ hm2⟩ (by simp only [ZC,ZpI,if_true,if_false, *]<;>rfl) (by simp only [ZpU, *,if_true,if_false]<;>rfl) (by simp only [ZC,ZpI,if_true,if_false, *]<;>rfl) (by simp only [ZC,ZpI,if_true,if_false, *]<;>rfl) (by simp only [ZC,ZpI,if_true,if_false, *]<;>rfl) (hsr _ _)
  ·by_cases h5:op=5
   ·subst h5;by_cases hn:name={ data:=#[] }
    ·have hR':=ZpM (show (2:Int)=R by rw [hR,ho]; simp [hn]);clear hR ho ih
     (repeat' (first | (simp only [↓Zz,ZA,↓XE,ptrV,intV,ZpI,ZpJ,reduceCtorEq,ZN,ZD,ZpL,undef,Yk,Ym,Yg,Xa,ZW,ZQ,Yx, *]) | (refine Zet ?_ ?_<;>intro) | (refine ZG ?_) | (refine ZJ mixed (fun _ _ _ _ e h=>⟨e.trans h.1,h.2⟩) _ (ZpN _) ?_) | (refine ZB fun zr zh=>?_; have zg:=zh; (try simp only [ZpO] at zg); (try have zn_hm1:=ZpK hm1 zh); (try have zn_hm1:=ZpK hm1 zg.2); (try have zn_hm1:=ZpK hm1 zg.2.2); (try have zn_hm2:=ZpK hm2 zh); (try have zn_hm2:=ZpK hm2 zg.2); (try have zn_hm2:=ZpK hm2 zg.2.2)) | (exact ZpN _) | (refine ZpS ?_ ?_) | (with_reducible refine And.intro ?_ ?_)))
     all_goals first
      | rw [hR'.out]
      | (rename_i r3 n3 n3' w1 w2; exact (ZpR n3).of_set zg.2)
    ·by_cases hk:nk=1
     ·have hR':=ZpM (show R=sdsF p kids (bound++[name]) by rw [hR,ho]; simp [hn,hk]);clear hR ho
      (repeat' (first | (simp only [↓Zz,ZA,↓XE,ptrV,intV,ZpI,ZpJ,Zp1,reduceCtorEq,ZD,fillV,setAt,ZpL,forall_const,undef,Zp5,ZH,YC,Zqz,Zp6,Xj,idxV,idxOk,ZH,Yk,Ym,Yg,Xa,ZW,ZQ,Yx,Xy,Jd, *]) | (refine ZJ mixed (fun _ _ _ _ e h=>⟨e.trans h.1,h.2⟩) _ (ZpN _) ?_) | (refine ZB fun zr zh=>?_; have zg:=zh; (try simp only [ZpO] at zg); (try have zn_hm1:=ZpK hm1 zh); (try have zn_hm1:=ZpK hm1 zg.2); (try have zn_hm1:=ZpK hm1 zg.2.2); (try have zn_hm2:=ZpK hm2 zh); (try have zn_hm2:=ZpK hm2 zg.2); (try have zn_hm2:=ZpK hm2 zg.2.2)) | (with_reducible refine And.intro ?_ ?_)))
      ·exact Nat.zero_le _
      ·rw [show (bound.length == bound.length)=true from by simp,Nat.sub_zero];refine Zj4 Xy Jd rfl (by omega) (ZbT (enc:=strE) (k:=1) (fun _=>rfl) bound) rfl rfl (by omega) (by omega) (fun v' H' ho=>?_);have k4:=ho.sub _ _ (ZpP _ _ _);rename_i r3 n3 n3' w1 w2;have k3:H' r3=some (.cells 85 (tabE m1 m2) 0):=ho.sub _ _ (by rw [ZpV _ _ zg.1.2]; exact ZpP _ _ _);have hsr:∀ b1 b2,SubH H ((H.set r3 b1).set zr b2):=fun _ _=>(ZpR n3).of_set zg.2
       have e1:encC strE bound++[sV name]=encC strE (bound++[name]):=by rw [Yl]; rfl
       have e2:bound.length+1=(bound++[name]).length:=by simp
       rw [e1,e2] at ho;have hoc:=ho.cells.1;replace ho:=ZpM ho;clear e1 e2
       (repeat' (first | (simp only [↓Zz,ZA,intV,ZpI,ZpJ,reduceCtorEq,ZpL,Yk,Xa,Yx, *])))
       refine WN (OwnX.ghost (i:=2) (e:=9) (k:=1) (n:=(bound++[name]).length) (cs:=encC strE (bound++[name])) (by simp only [ZC,ZpI,if_true,if_false]; exact ho.out) (ZpN _) _) ?_;exact Zgf (ks:=kids) (nm:=bound++[name]) (r3:=r3) hN (fun i h H=>ih _ (by simp) i h H) hR'.out (by simp only [ZC,ZpI,if_true,if_false, *]<;>rfl) ⟨m1,m2,rfl,hsr _ _ _ _ hm1,hsr _ _ _ _ hm2⟩ (by simp only [ZC,ZpI,if_true,if_false, *]<;>rfl) (by rw [ZpV _ _ zg.1.2]; exact ZpP _ _ _) (by simp only [ZC,ZpI,if_true,if_false, *]<;>rfl) (by simp only [ZC,ZpI,if_true,if_false, *]<;>rfl) (by simp only [ZC,ZpI,if_true,if_false, *]<;>rfl) (hsr _ _)
     ·have hR':=ZpM (show (2:Int)=R by rw [hR,ho]; simp [hk]);clear hR ho ih
      (repeat' (first | (simp only [↓Zz,ZA,↓XE,ptrV,intV,ZpI,ZpJ,reduceCtorEq,ZN,ZD,ZpL,undef,Yk,Ym,Yg,Xa,ZW,ZQ,Yx, *]) | (refine ZG ?_) | (refine ZJ mixed (fun _ _ _ _ e h=>⟨e.trans h.1,h.2⟩) _ (ZpN _) ?_) | (refine ZB fun zr zh=>?_; have zg:=zh; (try simp only [ZpO] at zg); (try have zn_hm1:=ZpK hm1 zh); (try have zn_hm1:=ZpK hm1 zg.2); (try have zn_hm1:=ZpK hm1 zg.2.2); (try have zn_hm2:=ZpK hm2 zh); (try have zn_hm2:=ZpK hm2 zg.2); (try have zn_hm2:=ZpK hm2 zg.2.2)) | (exact ZpN _) | (refine ZpS ?_ ?_) | (with_reducible refine And.intro ?_ ?_)))
      all_goals first
       | rw [hR'.out]
       | (rename_i r3 n3 n3' w1 w2; exact (ZpR n3).of_set zg.2)
   ·by_cases h4:op=4
    ·subst h4;by_cases hn:name={ data:=#[] }
     ·by_cases hk:nk<2
      ·have hR':=ZpM (show (2:Int)=R by rw [hR,ho]; simp [hk]);clear hR ho ih
       (repeat' (first | (simp only [↓Zz,ZA,↓XE,ptrV,intV,ZpI,ZpJ,reduceCtorEq,ZN,ZD,ZpL,undef,Yk,Ym,Yg,Xa,ZW,ZQ,Yx, *]) | (refine ZG ?_) | (refine ZJ mixed (fun _ _ _ _ e h=>⟨e.trans h.1,h.2⟩) _ (ZpN _) ?_) | (refine ZB fun zr zh=>?_; have zg:=zh; (try simp only [ZpO] at zg); (try have zn_hm1:=ZpK hm1 zh); (try have zn_hm1:=ZpK hm1 zg.2); (try have zn_hm1:=ZpK hm1 zg.2.2); (try have zn_hm2:=ZpK hm2 zh); (try have zn_hm2:=ZpK hm2 zg.2); (try have zn_hm2:=ZpK hm2 zg.2.2)) | (exact ZpN _) | (refine ZpS ?_ ?_) | (with_reducible refine And.intro ?_ ?_)))
       all_goals first
        | rw [hR'.out]
        | (rename_i r3 n3 n3' w1 w2; exact (ZpR n3).of_set zg.2)
      ·have hR':=ZpM (show R=sdsF p kids bound by rw [hR,ho]; simp [hn,hk]);clear hR ho
       (repeat' (first | (simp only [↓Zz,ZA,↓XE,ptrV,intV,ZpI,ZpJ,reduceCtorEq,ZD,ZpL,undef,Zp5,Yk,Ym,Yg,Xa,ZW,ZQ,Yx, *]) | (refine ZJ mixed (fun _ _ _ _ e h=>⟨e.trans h.1,h.2⟩) _ (ZpN _) ?_) | (refine ZB fun zr zh=>?_; have zg:=zh; (try simp only [ZpO] at zg); (try have zn_hm1:=ZpK hm1 zh); (try have zn_hm1:=ZpK hm1 zg.2); (try have zn_hm1:=ZpK hm1 zg.2.2); (try have zn_hm2:=ZpK hm2 zh); (try have zn_hm2:=ZpK hm2 zg.2); (try have zn_hm2:=ZpK hm2 zg.2.2))))
       rename_i r3 n3 n3' w1 w2;have hsr:∀ b1 b2,SubH H ((H.set r3 b1).set zr b2):=fun _ _=>(ZpR n3).of_set zg.2
       refine Zgf (ks:=kids) (nm:=bound) (r3:=r3) hN (fun i h H=>ih _ (by omega) i h H) hR'.out (by simp only [ZC,ZpI,if_false, *]<;>rfl) ⟨m1,m2,rfl,hsr _ _ _ _ hm1,hsr _ _ _ _ hm2⟩ (by simp only [ZC,ZpI,if_true,if_false, *]<;>rfl) (by simp only [ZpU, *,if_true,if_false]<;>rfl) (by simp only [ZC,ZpI,if_true,if_false, *]<;>rfl) (by simp only [ZC,ZpI,if_true,if_false, *]<;>rfl) (by simp only [ZC,ZpI,if_true,if_false, *]<;>rfl) (hsr _ _)
     ·have hR':=ZpM (show (2:Int)=R by rw [hR,ho]; simp [hn]);clear hR ho ih
      (repeat' (first | (simp only [↓Zz,ZA,↓XE,ptrV,intV,ZpI,ZpJ,reduceCtorEq,ZN,ZD,ZpL,undef,Yk,Ym,Yg,Xa,ZW,ZQ,Yx, *]) | (refine YW ?_ ?_<;>intro) | (refine ZG ?_) | (refine ZJ mixed (fun _ _ _ _ e h=>⟨e.trans h.1,h.2⟩) _ (ZpN _) ?_) | (refine ZB fun zr zh=>?_; have zg:=zh; (try simp only [ZpO] at zg); (try have zn_hm1:=ZpK hm1 zh); (try have zn_hm1:=ZpK hm1 zg.2); (try have zn_hm1:=ZpK hm1 zg.2.2); (try have zn_hm2:=ZpK hm2 zh); (try have zn_hm2:=ZpK hm2 zg.2); (try have zn_hm2:=ZpK hm2 zg.2.2)) | (exact ZpN _) | (refine ZpS ?_ ?_) | (with_reducible refine And.intro ?_ ?_)))
      all_goals first
       | rw [hR'.out]
       | (rename_i r3 n3 n3' w1 w2; exact (ZpR n3).of_set zg.2)
    ·by_cases h3:op=3
     ·subst h3;by_cases hn:name={ data:=#[] }
      ·have hR':=ZpM (show (2:Int)=R by rw [hR,ho]; simp [hn]);clear hR ho ih
       (repeat' (first | (simp only [↓Zz,ZA,↓XE,ptrV,intV,ZpI,ZpJ,reduceCtorEq,ZD,ZpL,undef,Yk,Ym,Yg,Xa,ZW,ZQ,Yx, *]) | (refine ZG ?_) | (refine ZJ mixed (fun _ _ _ _ e h=>⟨e.trans h.1,h.2⟩) _ (ZpN _) ?_) | (refine ZB fun zr zh=>?_; have zg:=zh; (try simp only [ZpO] at zg); (try have zn_hm1:=ZpK hm1 zh); (try have zn_hm1:=ZpK hm1 zg.2); (try have zn_hm1:=ZpK hm1 zg.2.2); (try have zn_hm2:=ZpK hm2 zh); (try have zn_hm2:=ZpK hm2 zg.2); (try have zn_hm2:=ZpK hm2 zg.2.2)) | (exact ZpN _) | (refine ZpS ?_ ?_) | (with_reducible refine And.intro ?_ ?_)))
       all_goals first
        | rw [hR'.out]
        | (rename_i r3 n3 n3' w1 w2; exact (ZpR n3).of_set zg.2)
      ·rcases hca with ⟨hat,hcn⟩ | ⟨j,hj,hat,hjn,hcn⟩
       ·have hR':=ZpM (show (9:Int)=R by rw [hR,ho]; simp [hn,hat]);clear hR ho ih hat
        (repeat' (first | (refine Zoe Zea hz hcn (by first | assumption | simp only [ZpU, *,if_false]) ?_) | (simp only [↓Wq,↓Wg,↓XM,↓XN,↓Xz,↓WV,↓XZ,↓WX,↓Wb,↓Xe,↓Yf,↓Yi,↓Wa,↓ZdY,↓ZbR,↓Yu,↓Yr,↓Ys,↓Yt,↓YS,↓ZC,↓Xb,↓YH,↓YA,↓Wr,↓s_un,↓ZdZ,↓Yb,↓ZbM,↓Wh,↓Jn,↓Zd0,↓JS,↓XA,↓XE,ZI,ptrV,intV,boolV,Zp3,Zqa,ZqM,Zqw,Zqx,ite_true,ite_false,ZpI,ZpJ,ne_eq,not_false_eq_true,true_and,Zp7,decide_true,decide_false,Bool.not_true,Bool.not_false,reduceCtorEq,ZD,↓YV,↓YK,ZpU,eq_self,Zp2,ZqB,ZpL,ZqE,ZqF,Wi,YT,↓Zd3,XG,WY,Zb2,XH,Xr,WO,↓Ws,undef,okV,Yk,Ym,Yg,ZfU,Xa,ZW,ZQ,ZkN,Yx, *]) | (refine ZG ?_) | (refine ZJ mixed (fun _ _ _ _ e h=>⟨e.trans h.1,h.2⟩) _ (ZpN _) ?_) | (refine ZB fun zr zh=>?_; have zg:=zh; (try simp only [ZpO] at zg); (try have zn_hm1:=ZpK hm1 zh); (try have zn_hm1:=ZpK hm1 zg.2); (try have zn_hm1:=ZpK hm1 zg.2.2); (try have zn_hm2:=ZpK hm2 zh); (try have zn_hm2:=ZpK hm2 zg.2); (try have zn_hm2:=ZpK hm2 zg.2.2)) | (exact ZpN _) | (refine ZpS ?_ ?_) | (with_reducible refine And.intro ?_ ?_)))
        all_goals first
         | rw [hR'.out]
         | (rename_i r3 n3 n3' w1 w2; exact (ZpR n3).of_set zg.2)
       ·have hj0:¬ (j:Int)<0:=by omega
        rw [hat] at ho;simp only [ZqN,ZqC hj] at ho;clear hjn;by_cases hka:nk=p.cons[j].arity
        ·have hR':=ZpM (show R=sdsF p kids bound by rw [hR,ho]; simp [hn,hj0,hka]);clear hR ho hat
         (repeat' (first | (refine Zi1 Zea hz hcn (by first | assumption | simp only [ZpU, *,if_false]) ?_) | (simp only [↓Wq,↓Wg,↓XM,↓ZfI,↓XN,↓Xz,↓WV,↓XZ,↓ZkS,↓Wb,↓Xe,↓Yf,↓Yi,↓ZdY,↓Yu,↓Yr,↓Ys,↓Yt,↓YS,↓ZC,↓Xb,↓YH,↓YA,↓Wr,↓s_un,↓ZdZ,↓Yb,↓ZbM,↓Wh,↓Jn,↓Zd0,↓JS,↓XA,↓Ji,↓XE,ZI,ptrV,intV,boolV,Zp3,Zqa,ZqM,Zqw,Zqx,ite_true,ite_false,ZpI,ZpJ,ne_eq,not_false_eq_true,true_and,Zp7,decide_true,decide_false,Bool.not_true,Bool.not_false,reduceCtorEq,ZD,↓YV,↓YK,ZpU,eq_self,Zp2,ZqB,ZpL,ZqE,ZqF,Wi,YT,↓Zd3,XG,WY,Zb2,XH,Xr,WO,↓Ws,undef,okV,Yk,Ym,Yg,ZfU,Xa,ZW,ZQ,ZkN,Yx, *]) | (refine ZJ mixed (fun _ _ _ _ e h=>⟨e.trans h.1,h.2⟩) _ (ZpN _) ?_) | (refine ZB fun zr zh=>?_; have zg:=zh; (try simp only [ZpO] at zg); (try have zn_hm1:=ZpK hm1 zh); (try have zn_hm1:=ZpK hm1 zg.2); (try have zn_hm1:=ZpK hm1 zg.2.2); (try have zn_hm2:=ZpK hm2 zh); (try have zn_hm2:=ZpK hm2 zg.2); (try have zn_hm2:=ZpK hm2 zg.2.2))))
         rename_i r3 n3 n3' w1 w2;have hsr:∀ b1 b2,SubH H ((H.set r3 b1).set zr b2):=fun _ _=>(ZpR n3).of_set zg.2
         refine Zgf (ks:=kids) (nm:=bound) (r3:=r3) hN (fun i h H=>ih _ (by omega) i h H) hR'.out (by simp only [ZC,ZpI,if_false, *]<;>rfl) ⟨m1,m2,rfl,hsr _ _ _ _ hm1,hsr _ _ _ _ hm2⟩ (by simp only [ZC,ZpI,if_true,if_false, *]<;>rfl) (by simp only [ZpU, *,if_true,if_false]<;>rfl) (by simp only [ZC,ZpI,if_true,if_false, *]<;>rfl) (by simp only [ZC,ZpI,if_true,if_false, *]<;>rfl) (by simp only [ZC,ZpI,if_true,if_false, *]<;>rfl) (hsr _ _)
        ·have hR':=ZpM (show (5:Int)=R by rw [hR,ho]; simp [hn,hj0,hka]);clear hR ho hat ih
         (repeat' (first | (refine Zi1 Zea hz hcn (by first | assumption | simp only [ZpU, *,if_false]) ?_) | (simp only [↓Wq,↓Wg,↓XM,↓XN,↓Xz,↓WV,↓XZ,↓WX,↓Wb,↓Xe,↓Yf,↓Yi,↓Wa,↓ZdY,↓ZbR,↓Yu,↓Yr,↓Ys,↓Yt,↓YS,↓ZC,↓Xb,↓YH,↓YA,↓Wr,↓s_un,↓ZdZ,↓Yb,↓ZbM,↓Wh,↓Jn,↓Zd0,↓JS,↓XA,↓Ji,↓XE,ZI,ptrV,intV,boolV,Zp3,Zqa,ZqM,Zqw,Zqx,ite_true,ite_false,ZpI,ZpJ,ne_eq,not_false_eq_true,true_and,Zp7,decide_true,decide_false,Bool.not_true,Bool.not_false,reduceCtorEq,ZD,↓YV,↓YK,ZpU,eq_self,Zp2,ZqB,ZpL,ZqE,ZqF,Wi,YT,↓Zd3,XG,WY,Zb2,XH,Xr,WO,↓Ws,undef,okV,Yk,Ym,Yg,ZfU,Xa,ZW,ZQ,ZkN,Yx, *]) | (refine ZG ?_) | (refine ZJ mixed (fun _ _ _ _ e h=>⟨e.trans h.1,h.2⟩) _ (ZpN _) ?_) | (refine ZB fun zr zh=>?_; have zg:=zh; (try simp only [ZpO] at zg); (try have zn_hm1:=ZpK hm1 zh); (try have zn_hm1:=ZpK hm1 zg.2); (try have zn_hm1:=ZpK hm1 zg.2.2); (try have zn_hm2:=ZpK hm2 zh); (try have zn_hm2:=ZpK hm2 zg.2); (try have zn_hm2:=ZpK hm2 zg.2.2)) | (exact ZpN _) | (refine ZpS ?_ ?_) | (with_reducible refine And.intro ?_ ?_)))
         all_goals first
          | rw [hR'.out]
          | (rename_i r3 n3 n3' w1 w2; exact (ZpR n3).of_set zg.2)
     ·have hR':=ZpM (show (2:Int)=R by rw [hR,ho]; simp [h1,h2,h3,h4,h5]);clear hR ho ih
      (repeat' (first | (simp only [↓Zz,ZA,↓XE,ptrV,intV,ZpI,ZpJ,reduceCtorEq,ZD,ZpL,undef,Yk,Ym,Yg,Xa,ZW,ZQ,Yx, *]) | (refine ZG ?_) | (refine ZJ mixed (fun _ _ _ _ e h=>⟨e.trans h.1,h.2⟩) _ (ZpN _) ?_) | (refine ZB fun zr zh=>?_; have zg:=zh; (try simp only [ZpO] at zg); (try have zn_hm1:=ZpK hm1 zh); (try have zn_hm1:=ZpK hm1 zg.2); (try have zn_hm1:=ZpK hm1 zg.2.2); (try have zn_hm2:=ZpK hm2 zh); (try have zn_hm2:=ZpK hm2 zg.2); (try have zn_hm2:=ZpK hm2 zg.2.2)) | (exact ZpN _) | (refine ZpS ?_ ?_) | (with_reducible refine And.intro ?_ ?_)))
      all_goals first
       | rw [hR'.out]
       | (rename_i r3 n3 n3' w1 w2; exact (ZpR n3).of_set zg.2)
end Go.PV.YtglpmlbbaedbiaaGreat
end
section
open Go.PV.AH renaming set_none→ZpO,set_same→ZpP,set_ne→ZpV,ne_of→ZpK
open Go.PV.GhL renaming cons→ZpZ
open Go.PV.GhV renaming refl→Zp8
open Go.PV.Hold renaming mk→ZpM
open Go.PV.PureF renaming forget→Zp4,use→ZpQ
open Go.PV.SubH renaming new→ZpR,of_set→ZpS,none→Zqp,refl→ZpN
open List renaming getElem_mem→ZpW,drop→ZpL,drop_eq_nil_of_le→Zp9,getElem_map→ZqR,drop_zero→ZqL
open Nat renaming reduceEqDiff→ZpI,reduceLT→ZpJ,reduceAdd→ZpT,zero_add→Zp2
open Option renaming bind_some→Zqg,map_some→Zp6
set_option maxRecDepth 20000
set_option maxHeartbeats 4000000
namespace Go.PV.YtglpmlbbaedbiaaGreat
open Go Go.Proofs
theorem esize_ok (e:Ex):e.sz≤1152921504606846976→PureF Tryz.prog 42 [exV e] (.tuple [iV e.sz,iV e.dp]):=by
 refine Ex.ind (p:=fun e=>e.sz≤1152921504606846976→PureF Tryz.prog 42 [exV e] (.tuple [iV e.sz,iV e.dp])) (fun e ih hs=>?_) e;have hz:=e.sz_eq;have hl:=YN e.kids;have ih':∀ i (h:i<e.kids.length),PureF Tryz.prog 42 [exV e.kids[i]] (.tuple [iV e.kids[i].sz,iV e.kids[i].dp]):=fun i h=>ih _ (ZpW h) (by have:=Ya (ZpW h); omega)
 clear ih;refine Zp4 fun H=>?_
 refine ZE fd42 (by simp) ?_;delta c42 Zj Zf Zd Zb Ze Zq;obtain ⟨N,D,hN,hD,hNs,hlN⟩:∃ N D,e.sz=N∧e.dp=D∧N≤1152921504606846976∧e.kids.length≤N:=⟨_,_,rfl,rfl,hs,by omega⟩
 have hDN:D≤N:=by have:=e.dp_le; omega
 have h0:1+exsSz e.kids=N:=by omega
 have h1:exsDp e.kids+1=D:=by rw [← hD,e.dp_eq]
 rw [hN,hD];clear hs hl hz hN hD
 (repeat' (first | (simp only [↓Zz,ZA,ptrV,intV,ZpI,ZpJ,reduceCtorEq,ZD,ZpL,undef,Yk,Xa,Yx, *]) | (refine ZB fun zr zh=>?_; have zg:=zh; (try simp only [ZpO] at zg))))
 refine ZP (fun _ _ _ h=>h) (fun A H'=>SubH H H'∧A.d=[]∧A.t 9=exsV e.kids∧A.t 10=iV e.kids.length∧∃ (i n d:Nat),i≤e.kids.length∧A.t 11=iV i∧A.t 2=iV n∧A.t 3=iV d∧1+n+exsSz (e.kids.drop i)=N∧max d (exsDp (e.kids.drop i))+1=D)
  (fun A _=>match A.t 11 with | .lit (.int _ i)=>((e.kids.length:Int)-i).toNat | _=>0) ?_ ?_
 ·exact ⟨ZpR zh,rfl,rfl,rfl,0,0,0,by omega,rfl,rfl,rfl,h0,by simpa using h1⟩
 ·clear h0 h1;rintro ⟨t,d⟩ H' ⟨hs',rfl,h9,h10,i,n,d,hi,h6,h4,h5,hn,hdd⟩;dsimp only at h9 h10 h4 h5 h6;delta b42_1 Zn Zr Zk Zb Zi Zg Zo Za Zh Zc Zq Zm
  (repeat' (first | (simp only [↓Zz,ZA,ZI,ptrV,ZpI,ZpJ,ZpT,setAt,ZpL,vcMax,XI,YZ,Zbh,Wj,Yx,Zmg, *]) | (refine ZX ?_ ?_<;>intro) | (refine ZV rfl (fun _ _ _ h=>h) ?_) | (refine ZB fun zr zh=>?_; have zg:=zh; (try simp only [ZpO] at zg)) | (refine ZpS ?_ ?_) | (exact Zqp (by assumption) (by assumption)) | (refine ZpQ (ih' _ (by assumption)) ?_) | (with_reducible refine And.intro ?_ ?_)))
  ·rename_i hlt;have e1:=ZcS hlt;rw [ZK (n:=(i:Int)+1) (by omega) (by omega),ZK (n:=(n:Int)+(e.kids[i].sz:Int)) (by omega) (by omega)];exact ⟨i+1,n+e.kids[i].sz,max d e.kids[i].dp,by omega,rfl,by simp,by simp; split<;>omega,by omega,by rw [ZcT hlt] at hdd; omega⟩
  ·rename_i hlt;rw [ZK (n:=(i:Int)+1) (by omega) (by omega)];omega
  ·rename_i hlt;rw [Zp9 (by omega)] at hn hdd;delta c42_1 Za Zm Zc;have hn':N=n+1:=by simp [exsSz] at hn; omega
   have hd':D=d+1:=by simpa [exsDp] using hdd.symm
   rw [show (N:Int)=(n:Int)+1 by omega,show (D:Int)=(d:Int)+1 by omega];have w1:IntKind.i64.wrap ((n:Int)+1)=(n:Int)+1:=ZK (by omega) (by omega);have w2:IntKind.i64.wrap ((d:Int)+1)=(d:Int)+1:=ZK (by omega) (by omega);clear hn hn' hd' hdd hDN hlN hNs
   (repeat' (first | (simp only [↓Zz,ZA,ZpI,ZpJ, *])))
   exact Yo rfl (by simp only [resV,YY,YX,ZC,ZpI,if_true,if_false,Zqg,Zp6,tupV, *]<;>rfl) ⟨rfl,hs'⟩
theorem sd_ok {p:Pr} (hnd:NdP p) {m1 m2:Nat}:∀ (n:Nat) (e:Ex) (nm:List ByteArray) (H:AH),e.sz<n→e.sz≤1099511627776→nm.length+e.sz≤1099511627776→e.nmOk→TabAt H (.agg (tabE m1 m2)) p→ReadF Tryz.prog 46 [.agg (tabE m1 m2),exV e,strsV nm] (iV (e.sdF p nm)) H:=by
 intro n
 induction n with
 | zero=>intro e nm H h0; omega
 | succ n ih =>
   intro e nm H h0 hs hb hnm hv;have z:=e.sz_eq;have hkl:=YN e.kids;rw [Ex.nmOk_iff] at hnm;obtain ⟨a1,a2,ha,hm1,hm2⟩:=hv;obtain ⟨rfl,rfl⟩:a1=m1∧a2=m2:=by simpa [tabE,eq_comm] using ha
   refine sd_node (nk:=e.kids.length) (hb:=hasF nm e.name) (nb:=true) (by omega) (by omega) (by have:=hnm.1; unfold maxLen; omega) rfl (fun nm' hl i h H hv'=>?_) hm1 hm2 (ZlU hnd.funs _) (conMk_at hnd.cons _) (Zjz nm e.name (by omega)) (sdOwn p e nm) rfl (e.sdF_eq p nm)
   have:=Ya (ZpW h)
   exact ih _ _ _ (by omega) (by omega) (by omega) (hnm.2 _ (ZpW h)) hv'
theorem ZlV {α:Type} {p:α→Bool} {l:List α} (h:¬ 0≤idxF p l):∀ x∈l,p x=false:=by
 rcases WI p l with ⟨_,h2⟩ | ⟨j,hj,h1,_⟩
 ·exact h2
 ·omega
theorem ZlW {α:Type} {f:α→ByteArray}:∀ {l:List α},(∀ i (h:i<l.length),∀ x∈l.take i,¬ f x=f l[i])→(l.map f).Nodup:=fun {l} h=>by
 rw [List.Nodup,List.pairwise_iff_getElem];intro i j hi hj hij;simp only [List.length_map] at hi hj;simp only [ZqR];exact h j hj _ (List.mem_take_iff_getElem.2 ⟨i,by omega,rfl⟩)
theorem Zfs {all:List Co}:∀ {l:List Co} {i:Nat},ZbE all l i=0→∀ k (h:k<l.length),∀ x∈all.take (i+k),¬ x.name=l[k].name
 | c::l,i,h,k,hk,x,hx=>by
   rw [ZbE] at h;split at h
   ·split at h
    ·cases h
    ·split at h
     ·cases h
     ·rename_i h3;cases k with
      | zero =>
        have:=ZlV h3 x hx
        simpa using this
      | succ k =>
        exact Zfs h k (by simpa using hk) x (by rw [show i+1+k=i+(k+1) by omega]; exact hx)
   ·cases h
theorem ZhM {p:Pr} {R:Int}:∀ {l:List Fu} {i:Nat},JG R p l i=0→(∀ k (h:k<l.length),Zbs p (i+k) l[k]=0)∧R=0
 | [],i,h=>⟨fun k hk=>by simp at hk,h⟩
 | f::l,i,h=>by
   rw [JG] at h;split at h
   ·rename_i h1;obtain ⟨h2,h3⟩:=ZhM h;refine ⟨fun k hk=>?_,h3⟩;cases k with
    | zero=>exact h1
    | succ k=>have:=h2 k (by simpa using hk); rw [show i+1+k=i+(k+1) by omega] at this; exact this
   ·rename_i h1; exact absurd h h1
theorem ZcY {p:Pr} (h:Jv p=0):p.funs.length≤100∧Zak p.cons=0∧(∀ k (h:k<p.funs.length),Zbs p k p.funs[k]=0)∧XX p p.funs=0:=by
 unfold Jv at h;split at h
 ·cases h
 ·split at h
  ·rename_i h1 h2;have h3:=ZhM h;refine ⟨by omega,h2,fun k hk=>?_,h3.2⟩
   have:=h3.1 k hk
   rwa [Zp2] at this
  ·rename_i h1 h2; exact absurd h h2
theorem Zip {p:Pr} (h:Jv p=0):NdP p:=by
 obtain ⟨h1,h2,h3,_⟩:=ZcY h;refine ⟨ZlW fun i hi x hx=>?_,ZlW fun i hi x hx=>?_⟩
 ·have:=h3 i hi
  unfold Zbs at this;split at this
  ·split at this
   ·cases this
   ·rename_i h4;have h5:=ZlV (fun h=>h4 (.inr h)) x hx;simpa using h5
  ·cases this
 ·unfold Zak at h2;split at h2
  ·cases h2
  ·have:=Zfs h2 i hi x (by simpa using hx)
   exact this
noncomputable def JZ (p:Pr) (e:Ex):Int:=if Jv p=0 then (if 5000<e.sz then 7 else if 200<e.dp then 6 else e.sdF p []) else Jv p
theorem Zk1 {H:AH} {t:Nat→VV} {r sp:Nat} {c:Int} {a b:Option Nat} {e':TypeId} {K:VE→AH→Prop} (h4:t 4=ptrV r 0) (h5:t 5=iV c) (k4:H r=some (.cells e' [.lit (.map a),.lit (.map b)] sp)) (hk:K (.ret (.tuple [.agg [.lit (.map a),.lit (.map b)],iV c])) H):YI Tryz.prog [.cell 4 85,.tmp 5] K .ret ⟨t,[]⟩ H :=
 Yo rfl (by simp only [resV,YY,YX,Zg7,h4,h5,k4,ptrV,ZqL,ZfJ,Zqg,Zp6,tupV]) hk
theorem right_ok {p:Pr} {e:Ex} (hp:PrOk p) (hs:e.sz≤1099511627776) (hn:e.nmOk) {H:AH} {K:VE→AH→Prop}
 (hK:∀ a b H',SubH H H'→(JZ p e=0→TabAt H' (.agg [.lit (.map a),.lit (.map b)]) p)→K (.ret (.tuple [.agg [.lit (.map a),.lit (.map b)],iV (JZ p e)])) H'):ZT Tryz.prog 24 [prV p,exV e] H K:=by
 have hck:=check_ok hp;have hsz:=esize_ok e (by omega)
 have htb:∀ (H:AH) (K:VE→AH→Prop),(∀ m1 m2 H',SubH H H'→TabAt H' (.agg (tabE m1 m2)) p→K (.ret (.agg (tabE m1 m2))) H')→ZT Tryz.prog 45 [prV p] H K:=fun H K hK=>Zo0 (p:=p) (H0:=H) (K:=K) hp.cons hp.funs (fun c hc=>by have:=hp.cnames c hc; unfold maxLen; omega) (fun c hc=>by have:=hp.fnames c hc; unfold maxLen; omega) (fun v H' h1 h2=>by
  obtain ⟨m1,m2,rfl,h3⟩:=h2;exact hK m1 m2 H' h1 ⟨m1,m2,rfl,h3⟩)
 have hsd:=fun (h:Jv p=0) H m1 m2=>sd_ok (Zip h) (m1:=m1) (m2:=m2) (e.sz+1) e [] H (by omega) hs (by simpa using hs) hn
 refine ZE fd24 (by simp) ?_;delta c24 Zj Zi Zf Zb Zo Zr Zc Za Zm Zq Zg Zh;unfold JZ at hK;replace hK:=ZpM hK;clear hp hs hn;by_cases hz:Jv p=0
 ·replace hsd:=hsd hz;rw [hz] at hck;rw [if_pos hz] at hK;clear hz;by_cases h1:5000<e.sz
  ·have h1':(5000:Int)<(e.sz:Int):=by omega
   rw [if_pos h1] at hK
   (repeat' (first | (simp only [↓Zz,ZA,ZI,ptrV,ZpI,ZpJ,ZpT,ZD,ZM,fillV,setAt,ZpL,undef,Za8,YZ,ZbX,ZkK,JP,Zmh,Zmg, *]) | (refine ZB fun zr zh=>?_; have zg:=zh; (try simp only [ZpO] at zg)) | (refine ZpQ (hck) ?_) | (refine ZpQ (hsz) ?_)))
   rename_i r3 n3 n3' r5 n5 n5';exact Zk1 (by simp only [ZC,ZpI,if_true,if_false, *]<;>rfl) (by simp only [ZC,ZpI,if_true,if_false, *]<;>rfl) (ZpP _ _ _) (hK.out _ _ _ (((ZpR n3).of_set n5'.2).of_set zg.2.2) (fun h=>by cases h))
  ·have h1':¬ (5000:Int)<(e.sz:Int):=by omega
   rw [if_neg h1] at hK;by_cases h2:200<e.dp
   ·have h2':(200:Int)<(e.dp:Int):=by omega
    rw [if_pos h2] at hK
    (repeat' (first | (simp only [↓Zz,ZA,ZI,ptrV,ZpI,ZpJ,ZpT,ZD,ZM,fillV,setAt,ZpL,undef,Za8,YZ,ZbX,ZkK,JP,Zmh,Zmg, *]) | (refine ZB fun zr zh=>?_; have zg:=zh; (try simp only [ZpO] at zg)) | (refine ZpQ (hck) ?_) | (refine ZpQ (hsz) ?_)))
    rename_i r3 n3 n3' r5 n5 n5';exact Zk1 (by simp only [ZC,ZpI,if_true,if_false, *]<;>rfl) (by simp only [ZC,ZpI,if_true,if_false, *]<;>rfl) (ZpP _ _ _) (hK.out _ _ _ (((ZpR n3).of_set n5'.2).of_set zg.2.2) (fun h=>by cases h))
   ·have h2':¬ (200:Int)<(e.dp:Int):=by omega
    rw [if_neg h2] at hK;generalize e.sdF p []=R at *
    (repeat' (first | (simp only [↓Zz,ZA,ZI,ptrV,ZpI,ZpJ,ZD,ZpL,undef,Za8,YZ,JP,Zmh,Zmg,en_45, *]) | (refine ZB fun zr zh=>?_; have zg:=zh; (try simp only [ZpO] at zg)) | (refine ZpQ (hck) ?_) | (refine ZpQ (hsz) ?_)))
    rename_i r2 n2 n2' r3 n3 n3';refine htb _ _ (fun m1 m2 H' hs' hv'=>?_);have hsH:=(((ZpR n2).of_set n3'.2).of_set zg.2.2).trans hs';have k3:H' r3=some (.cells 35 [iV e.op,sV e.name,encS exE e.kids] 0):=hs' _ _ (by rw [ZpV _ _ zg.1.2]; exact ZpP _ _ _);have k4:=hs' _ _ (ZpP _ _ _);have g4:H zr=none:=zg.2.2;generalize zr=r4 at *
    have hc:=fun H2 (h:SubH H' H2)=>hsd H2 m1 m2 (hv'.mono h)
    replace hv':=ZpM hv';clear n2 n2' n3 n3' zg zh hck hsz htb hsd
    (repeat' (first | (simp only [↓Zz,ZA,ptrV,ZpI,ZpJ,ZpT,setAt,ZpL,YZ,Zg7,ZbX,JP,en_46, *]) | (refine ZJ mixed (fun _ _ _ _ e h=>⟨e.trans h.1,h.2⟩) _ (ZpN _) ?_) | (refine ZB fun zr zh=>?_; have zg:=zh; (try simp only [ZpO] at zg); (try have zn_k3:=ZpK k3 zh); (try have zn_k3:=ZpK k3 zg.2); (try have zn_k3:=ZpK k3 zg.2.2); (try have zn_k4:=ZpK k4 zh); (try have zn_k4:=ZpK k4 zg.2); (try have zn_k4:=ZpK k4 zg.2.2))))
    refine Yy (ZpZ (Zp8 _ _) (ZpZ (Zp8 _ _) (ZpZ (GhV.nil _) (GhL.nil _)))) ?_;refine (hc _ (ZpR zh)).use ?_
    (repeat' (first | (simp only [↓Zz,ZA,ZpI,ZpJ,ZpT,setAt,ZbX, *]) | (exact ZpN _) | (with_reducible refine And.intro ?_ ?_)))
    refine Zk1 (by simp only [ZC,ZpI,if_true,if_false, *]<;>rfl) (by simp only [ZC,ZpI,if_true,if_false, *]<;>rfl) (ZpP _ _ _) (hK.out _ _ _ ((hsH.of_set (hsH.none zh)).of_set g4) (fun _=>?_));obtain ⟨a1,a2,ha,x1,x2⟩:=hv'.out;obtain ⟨rfl,rfl⟩:a1=m1∧a2=m2:=by simpa [tabE,eq_comm] using ha
    exact ⟨a1,a2,rfl,by rw [ZpV _ _ (JY k4 x1).2,ZpV _ _ (ZpK x1 zh).1]; exact x1,by rw [ZpV _ _ (JY k4 x2).2,ZpV _ _ (ZpK x2 zh).1]; exact x2⟩
 ·rw [if_neg hz] at hK
  (repeat' (first | (simp only [↓Zz,ZA,ptrV,ZpI,ZpJ,ZpT,ZD,ZM,fillV,setAt,ZpL,undef,Za8,ZbX,ZkK,JP,Zmh, *]) | (refine ZB fun zr zh=>?_; have zg:=zh; (try simp only [ZpO] at zg)) | (refine ZpQ (hck) ?_)))
  rename_i r3 n3 n3' r5 n5 n5';exact Zk1 (by simp only [ZC,ZpI,if_true,if_false, *]<;>rfl) (by simp only [ZC,ZpI,if_true,if_false, *]<;>rfl) (ZpP _ _ _) (hK.out _ _ _ (((ZpR n3).of_set n5'.2).of_set zg.2.2) (fun h=>absurd h hz))
end Go.PV.YtglpmlbbaedbiaaGreat
end
section
namespace Go.PV.YtglpmlbbaedbiaaGreat
open Go Go.Proofs
abbrev noNm:ByteArray:={ data:=#[] }
def Ex.inner (e:Ex):Option (Ex × List Ex):=if e.op=4 then (match e.kids with | k::r=>if k.op=4 then some (k,r) else none | []=>none) else none
def flatN:Nat→Ex→Ex
 | 0,e=>e
 | n+1,e=>match e.inner with
   | some (k,r)=>flatN n (.mk 4 noNm (k.kids++r))
   | none=>e
def Ex.flat (e:Ex):Ex:=flatN e.sz e
def arFu (l:List Fu) (n:ByteArray):Int:=match l[(atFu l n).toNat]? with | some c=>c.arity | none=>0
theorem Zof {p:Pr} {l:List Ex} {b:List ByteArray}:sdsF p l b=0↔∀ k∈l,k.sdF p b=0:=by
 induction l with
 | nil=>simp [sdsF]
 | cons k l ih =>
   rw [sdsF]
   constructor
   ·intro h;split at h
    ·rename_i h1;intro x hx;rcases List.mem_cons.1 hx with rfl | hx
     ·exact h1
     ·exact ih.1 h x hx
    ·rename_i h1; exact absurd h h1
   ·intro h;rw [if_pos (h k (by simp))];exact ih.2 fun x hx=>h x (by simp [hx])
theorem ZaI {p:Pr} {e:Ex} {b:List ByteArray}:e.sdF p b=0↔sdOwn p e b=0∧∀ k∈e.kids,k.sdF p (if e.op=5 then b++[e.name] else b)=0:=by
 rw [e.sdF_eq]
 constructor
 ·intro h;split at h
  ·rename_i h1; exact ⟨h1,Zof.1 h⟩
  ·rename_i h1; exact absurd h h1
 ·rintro ⟨h1,h2⟩;rw [if_pos h1]; exact Zof.2 h2
theorem ZeE {p:Pr} {e:Ex} {b:List ByteArray}:sdOwn p e b=0 ↔
 formB e.op e.kids.length (!decide (e.name=noNm))=true∧(e.op=2→0≤atFu p.funs e.name)∧(e.op=3→0≤atCo p.cons e.name∧(e.kids.length:Int)=arCo p.cons e.name)∧(e.op=1→e.name∈b):=by
 unfold sdOwn;rw [← JT (l:=b)];generalize formB e.op e.kids.length (!decide (e.name=noNm))=fb;generalize hasF b e.name=hb;generalize atFu p.funs e.name=af;generalize atCo p.cons e.name=ac;generalize arCo p.cons e.name=ar;generalize (e.kids.length:Int)=nk;generalize e.op=op;cases fb with
 | false=>simp
 | true =>
   by_cases h2:op=2
   ·subst h2; by_cases h:af<0<;>simp [h]<;>omega
   ·by_cases h3:op=3
    ·subst h3;by_cases h4:ac<0
     ·simp [h4]; omega
     ·by_cases h5:nk=ar
      ·simp [h4,h5]; omega
      ·simp [h4,h5]
    ·by_cases h1:op=1
     ·subst h1; cases hb<;>simp
     ·simp [h1,h2,h3]
end Go.PV.YtglpmlbbaedbiaaGreat
end
section
set_option maxRecDepth 20000
set_option maxHeartbeats 4000000
namespace Go.PV.YtglpmlbbaedbiaaGreat
open Go Go.Proofs
mutual
theorem Ex.put_nil:∀ e:Ex,e.put []=e
 | .mk op n ks=>by
   rw [Ex.put,List.filter_nil,ite_self,ZhN ks]
   have:(if op=1 then lastB [] n else none)=none:=by split<;>rfl
   rw [this]
theorem ZhN:∀ l:List Ex,Zhb l []=l
 | []=>rfl
 | k::ks=>by rw [Zhb,Ex.put_nil k,ZhN ks]
end
mutual
def Pa.parts:Pa→Ex→List Bd→List Bd × Bool
 | .mk c n ks,e,l=>if c=true then (if e.op=3∧e.name=n∧e.kids.length=ks.length then Xq ks e.kids l else (l,false)) else (l++[(n,e)],true)
def Xq:List Pa→List Ex→List Bd→List Bd × Bool
 | [],_,l=>(l,true)
 | p::ps,e::es,l=>match p.parts e l with
   | (l',true)=>Xq ps es l'
   | (l',false)=>(l',false)
 | _::_,[],l=>(l,false)
end
mutual
theorem Pa.parts_len:∀ (p:Pa) (e:Ex) (l:List Bd),(p.parts e l).1.length≤l.length+p.sz
 | .mk c n ks,e,l=>by
   have:=Zft ks e.kids l
   rw [Pa.parts,Pa.sz];split
   ·split
    ·omega
    ·simp
   ·simp
theorem Zft:∀ (ps:List Pa) (es:List Ex) (l:List Bd),(Xq ps es l).1.length≤l.length+pasSz ps
 | [],_,l=>by simp [Xq]
 | p::ps,e::es,l=>by
   have h1:=Pa.parts_len p e l;rw [Xq,pasSz];split
   ·rename_i l' h;have h2:=Zft ps es l';rw [h] at h1;simp only at h1;omega
   ·rename_i l' h;rw [h] at h1;simp only at h1 ⊢;omega
 | _::_,[],l=>by simp [Xq]
end
abbrev prtV (r:List Bd × Bool):VV:=.tuple [bdsV r.1,bV r.2]
end Go.PV.YtglpmlbbaedbiaaGreat
end
section
set_option maxRecDepth 20000
set_option maxHeartbeats 4000000
namespace Go.PV.YtglpmlbbaedbiaaGreat
open Go Go.Proofs
def zEx:Ex:=.mk 0 { data:=#[] } []
end Go.PV.YtglpmlbbaedbiaaGreat
end
section
namespace Go.PV.YtglpmlbbaedbiaaGreat
open Go Go.Proofs
end Go.PV.YtglpmlbbaedbiaaGreat
end
section
open List renaming eq_nil_of_length_eq_zero→ZqD
open Option renaming map_eq_some_iff→ZqQ
namespace Go.PV.YtglpmlbbaedbiaaGreat
open Go Go.Proofs
mutual
theorem Pa.parts_all {Q:Ex→Prop} (hQ:∀ e,Q e→e.op=3→∀ k∈e.kids,Q k):∀ (p:Pa) (e:Ex) (l:List Bd),Q e→(∀ b∈l,Q b.2)→∀ b∈(p.parts e l).1,Q b.2
 | .mk c n ks,e,l,he,hl=>by
   rw [Pa.parts];split
   ·split
    ·rename_i h;exact Zfu hQ ks e.kids l (hQ e he h.1) hl
    ·exact hl
   ·intro b hb;rcases List.mem_append.1 hb with hb | hb
    ·exact hl b hb
    ·simp at hb; subst hb; exact he
theorem Zfu {Q:Ex→Prop} (hQ:∀ e,Q e→e.op=3→∀ k∈e.kids,Q k):∀ (ps:List Pa) (es:List Ex) (l:List Bd),(∀ e∈es,Q e)→(∀ b∈l,Q b.2)→∀ b∈(Xq ps es l).1,Q b.2
 | [],_,l,_,hl=>by rw [Xq]; exact hl
 | p::ps,e::es,l,he,hl=>by
   have h1:=Pa.parts_all hQ p e l (he e (by simp)) hl;rw [Xq];split
   ·rename_i l' h;rw [h] at h1;exact Zfu hQ ps es l' (fun x hx=>he x (by simp [hx])) h1
   ·rename_i l' h;rw [h] at h1;exact h1
 | _::_,[],l,_,hl=>by rw [Xq]; exact hl
end
mutual
theorem Pa.parts_names:∀ (p:Pa) (e:Ex) (l:List Bd),(p.parts e l).2=true→(p.parts e l).1.map (·.1)=l.map (·.1)++p.names
 | .mk c n ks,e,l,h=>by
   rw [Pa.parts] at h ⊢;rw [Pa.names];split
   ·rename_i hc;rw [if_pos hc] at h;split
    ·rename_i h2;rw [if_pos h2] at h;exact Zdm ks e.kids l h
    ·rename_i h2;rw [if_neg h2] at h;cases h
   ·simp
theorem Zdm:∀ (ps:List Pa) (es:List Ex) (l:List Bd),(Xq ps es l).2=true→(Xq ps es l).1.map (·.1)=l.map (·.1)++ZY ps
 | [],_,l,_=>by simp [Xq,ZY]
 | p::ps,e::es,l,h=>by
   have h1:=Pa.parts_names p e l;rw [Xq] at h ⊢;rw [ZY];split
   ·rename_i l' h2;rw [h2] at h1 h;rw [Zdm ps es l' h,h1 rfl,List.append_assoc]
   ·rename_i l' h2;rw [h2] at h;cases h
 | _::_,[],l,h=>by rw [Xq] at h; cases h
end
theorem ZjE {l:List Bd} {n:ByteArray} {x:Ex} (h:lastB l n=some x):∃ b∈l,b.1=n∧b.2=x:=by
 unfold lastB at h;simp only [ZqQ] at h;obtain ⟨b,h1,h2⟩:=h;have h3:=List.mem_of_find?_eq_some h1;have h4:=List.find?_some h1;exact ⟨b,by simpa using h3,by simpa using h4,h2⟩
theorem own_same {p:Pr} {op:Int} {name:ByteArray} {ks ks':List Ex} {b b':List ByteArray} (h:sdOwn p (.mk op name ks) b=0) (hl:ks'.length=ks.length) (hb:op=1→name∈b→name∈b'):sdOwn p (.mk op name ks') b'=0:=by
 have h':=ZeE.1 h;refine ZeE.2 ?_;simp only [Ex.op,Ex.name,Ex.kids] at h' ⊢;rw [hl];exact ⟨h'.1,h'.2.1,h'.2.2.1,fun h1=>hb h1 (h'.2.2.2 h1)⟩
theorem Zkx {p:Pr}:∀ (e:Ex) (b b':List ByteArray),e.sdF p b=0→(∀ n∈b,n∈b')→e.sdF p b'=0:=by
 intro e;refine Ex.ind (p:=fun e=>∀ (b b':List ByteArray),e.sdF p b=0→(∀ n∈b,n∈b')→e.sdF p b'=0) (fun e ih b b' h hb=>?_) e;obtain ⟨op,name,ks⟩:=e;have h':=ZaI.1 h;refine ZaI.2 ⟨own_same h'.1 rfl (fun _ hn=>hb _ hn),fun k hk=>ih k hk _ _ (h'.2 k hk) ?_⟩;simp only [Ex.op,Ex.name];by_cases h5:op=5
 ·simp only [h5,if_true];intro n hn;rcases List.mem_append.1 hn with hn | hn
  ·exact List.mem_append_left _ (hb n hn)
  ·exact List.mem_append_right _ hn
 ·simp only [h5,if_false]; exact hb
theorem Zfv {R:Int} {l:List Co}:∀ {ps:List Pa},ZbH R l ps=0→(∀ q∈ps,paChk l q=0)∧R=0
 | [],h=>⟨by simp,h⟩
 | q::ps,h=>by
   rw [ZbH] at h;split at h
   ·rename_i h1;obtain ⟨h2,h3⟩:=Zfv h;refine ⟨fun x hx=>?_,h3⟩;rcases List.mem_cons.1 hx with rfl | hx
    ·exact h1
    ·exact h2 x hx
   ·rename_i h1; exact absurd h h1
theorem ZhO {p:Pr} {f:Fu} {c:Cl} (h:clErr p f c=0):(c.pats.length:Int)=f.arity∧(∀ q∈c.pats,paChk p.cons q=0)∧(YB c.pats).Nodup∧c.body.sz≤1000∧c.body.dp≤100∧c.body.shF p (YB c.pats).reverse=0:=by
 unfold clErr at h;split at h
 ·rename_i h1;obtain ⟨h2,h3⟩:=Zfv h;split at h3
  ·rename_i h4;unfold ZbI at h3;split at h3
   ·cases h3
   ·split at h3
    ·cases h3
    ·exact ⟨h1,h2,h4,by omega,by omega,h3⟩
  ·cases h3
 ·cases h
theorem Zfw {R:Int} {p:Pr} {f:Fu}:∀ {l:List Cl},Za2 R p f l=0→(∀ c∈l,clErr p f c=0)∧R=0
 | [],h=>⟨by simp,h⟩
 | c::l,h=>by
   rw [Za2] at h;split at h
   ·rename_i h1;obtain ⟨h2,h3⟩:=Zfw h;refine ⟨fun x hx=>?_,h3⟩;rcases List.mem_cons.1 hx with rfl | hx
    ·exact h1
    ·exact h2 x hx
   ·rename_i h1; exact absurd h h1
theorem Zb3 {p:Pr}:∀ {l:List Fu},XX p l=0→∀ f∈l,∀ c∈f.cls,clErr p f c=0
 | [],_=>by simp
 | f::l,h=>by
   rw [XX] at h;obtain ⟨h1,h2⟩:=Zfw h;intro x hx;rcases List.mem_cons.1 hx with rfl | hx
   ·exact h1
   ·exact Zb3 h2 x hx
theorem ZgL {l:List Co}:∀ {L:List Pl},Jj l L=0→∀ x∈L,plErr l x=0
 | [],_=>by simp
 | y::L,h=>by
   rw [Jj] at h;split at h
   ·rename_i h1;intro x hx;rcases List.mem_cons.1 hx with rfl | hx
    ·exact h1
    ·exact ZgL h x hx
   ·rename_i h1; exact absurd h h1
theorem chk_leaf {l:List Co} {q:Pa} (h:paChk l q=0):∀ x∈q.all 0,x.1.con=false→x.1.kids=[]:=by
 unfold paChk at h;split at h
 ·cases h
 ·split at h
  ·cases h
  ·intro x hx hc;have h1:=ZgL h x hx;unfold plErr at h1;split at h1
   ·rename_i h2;have h3:¬ 0<x.1.kids.length:=fun h4=>h2.2 ⟨hc,h4⟩
    exact ZqD (by omega)
   ·cases h1
theorem Zka (L M:List Pl):varsL (L++M)=varsL L++varsL M:=List.filterMap_append
mutual
theorem ZhP:∀ (q:Pa) (a:Int),(∀ x∈q.all a,x.1.con=false→x.1.kids=[])→varsL (q.all a)=q.names
 | .mk c n ks,a,h=>by
   rw [Pa.all] at h ⊢;rw [Pa.names];have h2:=ZeF ks (a+1) (fun x hx=>h x (by simp [hx]));cases c with
   | true =>
     show varsL (_::_)=_;rw [varsL,List.filterMap_cons];simp only [Pa.con,if_true];exact h2
   | false =>
     have h3:ks=[]:=h (Pa.mk false n ks,a) (by simp) rfl;subst h3;simp [varsL,XO,Pa.con,Pa.name]
theorem ZeF:∀ (ks:List Pa) (a:Int),(∀ x∈XO ks a,x.1.con=false→x.1.kids=[])→varsL (XO ks a)=ZY ks
 | [],a,_=>by simp [XO,varsL,ZY]
 | q::ks,a,h=>by
   rw [XO] at h ⊢;rw [Zka,ZY,ZhP q a (fun x hx=>h x (by simp [hx])),ZeF ks a (fun x hx=>h x (by simp [hx]))]
end
theorem ZcH {l:List Co}:∀ {ps:List Pa},(∀ q∈ps,paChk l q=0)→YB ps=ZY ps
 | [],_=>rfl
 | q::ps,h=>by
   rw [YB,List.flatMap_cons,ZY];have h1:varsP q=q.names:=ZhP q 0 (chk_leaf (h q (by simp)));have h2:=ZcH (ps:=ps) (fun x hx=>h x (by simp [hx]));rw [h1]
   congr 1
theorem nameB_ne {b:ByteArray} (h:nameB b=true):¬ b=noNm:=fun e=>by subst e; cases h
theorem mis_form {e:Ex} (h:misF e=false):formB e.op e.kids.length (!decide (e.name=noNm))=true:=by
 have hn:=nameB_ne (b:=e.name);unfold misF at h;unfold formB;generalize nameB e.name=nb at *
 generalize (e.kids.length:Int)=nk at *
 generalize e.op=op at *
 split at h
 ·rename_i h1;rw [if_pos h1];cases nb with
  | true=>simp at h; have:=hn rfl; simp [this]; omega
  | false=>simp at h
 ·rename_i h1;rw [if_neg h1];split at h
  ·rename_i h3;cases nb with
   | true=>have:=hn rfl; simp [this,h3]
   | false=>simp at h
  ·rename_i h3;split at h
   ·rename_i h4;simp at h;simp [h4,h.2]; omega
   ·rename_i h4;split at h
    ·rename_i h5;cases nb with
     | true=>simp at h; have:=hn rfl; simp [this,h5,h]
     | false=>simp at h
    ·cases h
theorem sh_kids {p:Pr} {l:List Ex} {b:List ByteArray}:shsF p l b=0→∀ k∈l,k.shF p b=0:=by
 induction l with
 | nil=>simp
 | cons k l ih =>
   rw [shsF];intro h;split at h
   ·rename_i h1;intro x hx;rcases List.mem_cons.1 hx with rfl | hx
    ·exact h1
    ·exact ih h x hx
   ·rename_i h1; exact absurd h h1
theorem sh_sd {p:Pr}:∀ (e:Ex) (nm b:List ByteArray),e.shF p nm=0→(∀ n∈nm,n∈b)→e.sdF p b=0:=by
 intro e;refine Ex.ind (p:=fun e=>∀ (nm b:List ByteArray),e.shF p nm=0→(∀ n∈nm,n∈b)→e.sdF p b=0) (fun e ih nm b h hb=>?_) e;rw [e.shF_eq] at h;split at h
 ·rename_i h0;have h1:=sh_kids h;refine ZaI.2 ⟨ZeE.2 ?_,fun k hk=>ih k hk _ _ (h1 k hk) ?_⟩
  ·unfold ownF at h0;split at h0
   ·cases h0
   ·rename_i hm;split at h0
    ·cases h0
    ·rename_i h2;split at h0
     ·cases h0
     ·rename_i h3;split at h0
      ·cases h0
      ·rename_i h4;refine ⟨mis_form (by simpa using hm),fun h5=>?_,fun h5=>⟨?_,?_⟩,fun h5=>?_⟩
       ·exact Int.not_lt.1 fun h6=>h2 (.inl ⟨h5,h6⟩)
       ·exact Int.not_lt.1 fun h6=>h2 (.inr ⟨h5,h6⟩)
       ·exact Classical.not_not.1 fun h6=>h3 ⟨h5,h6⟩
       ·refine hb _ (JT.1 ?_);cases hh:hasF nm e.name with
        | true=>rfl
        | false=>exact absurd ⟨h5,hh⟩ h4
  ·split
   ·intro n hn;rcases List.mem_cons.1 hn with rfl | hn
    ·simp
    ·exact List.mem_append_left _ (hb n hn)
   ·exact hb
 ·rename_i h0; exact absurd h h0
end Go.PV.YtglpmlbbaedbiaaGreat
end
section
namespace Go.PV.YtglpmlbbaedbiaaGreat
open Go Go.Proofs
structure BdOk (p:Pr) (f:Fu):Prop where
 body:∀ c∈f.cls,c.body.sdF p (ZY c.pats)=0∧c.body.sz≤1000∧c.body.nmOk
theorem check_bd {p:Pr} (h:Jv p=0) (hp:PrOk p):∀ f∈p.funs,BdOk p f:=fun f hf=>⟨fun c hc=>by
 obtain ⟨_,_,_,h4⟩:=ZcY h;obtain ⟨h5,h6,h7,h8,h9,h10⟩:=ZhO (Zb3 h4 f hf c hc);rw [ZcH h6] at h10;exact ⟨sh_sd _ _ _ h10 (fun n hn=>List.mem_reverse.1 hn),h8,((hp.cls f hf).2 c hc).bnames⟩⟩
def ClQ (p:Pr) (M:Nat) (e:Ex):Prop:=e.sdF p []=0∧e.nmOk∧e.sz≤M
theorem ClQ.kid {p:Pr} {M:Nat} {e:Ex} (h:ClQ p M e) (h5:¬ e.op=5) {k:Ex} (hk:k∈e.kids):ClQ p M k:=by
 have h1:=(ZaI.1 h.1).2 k hk;rw [if_neg h5] at h1;have h2:=Ya hk;have h3:=e.sz_eq;have h4:=h.2.2;exact ⟨h1,(Ex.nmOk_iff.1 h.2.1).2 k hk,by omega⟩
end Go.PV.YtglpmlbbaedbiaaGreat
end
section
open Nat renaming le_refl→ZpY
set_option maxRecDepth 20000
namespace Go.PV.YtglpmlbbaedbiaaGreat
open Go Go.Proofs
inductive Val where
 | built (n:ByteArray) (ks:List Val)
 | clo (x:ByteArray) (b:Ex) (ns:List ByteArray) (vs:List Val)
 | part (j:Nat) (us:List Val)
def Val.kids:Val→List Val
 | .built _ ks=>ks
 | .clo _ _ _ vs=>vs
 | .part _ us=>us
mutual
def Val.sz:Val→Nat
 | .built _ ks=>1+Zaq ks
 | .clo _ _ _ vs=>1+Zaq vs
 | .part _ us=>1+Zaq us
def Zaq:List Val→Nat
 | []=>0
 | v::l=>v.sz+Zaq l
end
theorem Val.sz_eq (v:Val):v.sz=1+Zaq v.kids:=by cases v<;>rfl
theorem ZaJ {v:Val}:∀ {l:List Val},v∈l→v.sz≤Zaq l
 | k::l,h=>by
   rw [Zaq];rcases List.mem_cons.1 h with rfl | h
   ·omega
   ·have:=ZaJ h; omega
theorem Val.ind {q:Val→Prop} (h:∀ v:Val,(∀ k∈v.kids,q k)→q v) (v:Val):q v:=by
 have:∀ n (v:Val),v.sz≤n→q v:=by
  intro n
  induction n with
  | zero=>intro v hv; have:=v.sz_eq; omega
  | succ n ih=>intro v hv; exact h v fun k hk=>ih k (by have:=ZaJ hk; have:=v.sz_eq; omega)
 exact this v.sz v (ZpY _)
mutual
def Val.vv (fs:List Fu):Val→VV
 | .built n ks=>.iface 142 (.agg [sV n,.slice false ks.length (valsC fs ks)])
 | .clo x b ns vs=>.iface 136 (.agg [iV 5,sV x,encS exE [b],envC fs vs ns])
 | .part j us=>.iface 139 (.agg [.iptr ((encC fuE fs).drop (j * 3)),.slice false us.length (valsC fs us)])
def valsC (fs:List Fu):List Val→List VV
 | []=>[]
 | v::l=>v.vv fs::valsC fs l
def envC (fs:List Fu):List Val→List ByteArray→VV
 | v::vs,n::ns=>.iptr [sV n,v.vv fs,envC fs vs ns]
 | _,_=>nilP
end
abbrev valE (fs:List Fu) (v:Val):List VV:=[v.vv fs]
theorem Ziq (fs:List Fu):∀ l:List Val,valsC fs l=encC (valE fs) l
 | []=>rfl
 | v::l=>by rw [valsC,YF,Ziq fs l]; rfl
abbrev vsV (fs:List Fu) (l:List Val):VV:=encS (valE fs) l
theorem Zcz (fs:List Fu) (n:ByteArray) (ks:List Val):(Val.built n ks).vv fs=.iface 142 (.agg [sV n,vsV fs ks]):=by rw [Val.vv,Ziq]
theorem Zhc (fs:List Fu) (x:ByteArray) (b:Ex) (ns:List ByteArray) (vs:List Val):(Val.clo x b ns vs).vv fs=.iface 136 (.agg [iV 5,sV x,encS exE [b],envC fs vs ns]):=by rw [Val.vv]
theorem Zc7 (fs:List Fu) (j:Nat) (us:List Val):(Val.part j us).vv fs=.iface 139 (.agg [.iptr ((encC fuE fs).drop (j * 3)),vsV fs us]):=by rw [Val.vv,Ziq]
theorem ZdG {fs:List Fu} {l:List Val} {i:Nat} (hi:i<l.length):(encC (valE fs) l).drop i=l[i].vv fs::encC (valE fs) (l.drop (i+1)):=Ze3 (enc:=fun v:Val=>v.vv fs) hi
mutual
def Val.nd:Val→Int
 | .built _ ks=>1+Wc ks
 | .clo _ _ _ _=>1
 | .part _ us=>match us with
   | []=>1
   | a::l=>2+(a.nd+Wc l)
def Wc:List Val→Int
 | []=>0
 | v::l=>v.nd+Wc l
end
mutual
def Val.ok (p:Pr):Val→Prop
 | .built _ ks=>ks.length≤5000∧YP p ks
 | .clo x b ns vs=>(ns.length=vs.length∧(Ex.mk 5 x [b]).sdF p ns=0∧b.sz≤5000∧b.nmOk∧x.size≤1099511627776)∧YP p vs
 | .part j us=>(j<p.funs.length∧us.length≤1099511627776∧(us.length:Int)<(match p.funs[j]? with | some f=>f.arity | none=>0))∧YP p us
def YP (p:Pr):List Val→Prop
 | []=>True
 | v::l=>v.ok p∧YP p l
end
theorem Xt {p:Pr}:∀ {l:List Val},YP p l↔∀ v∈l,v.ok p
 | []=>by simp [YP]
 | v::l=>by rw [YP,Xt (l:=l)]; simp
theorem Jc {p:Pr} {l m:List Val}:YP p (l++m)↔YP p l∧YP p m:=by
 simp only [Xt,List.mem_append];exact ⟨fun h=>⟨fun v hv=>h v (.inl hv),fun v hv=>h v (.inr hv)⟩,fun h v hv=>hv.elim (h.1 v) (h.2 v)⟩
def findV:List ByteArray→List Val→ByteArray→Option Val
 | n::ns,v::vs,s=>if n=s then some v else findV ns vs s
 | _,_,_=>none
abbrev Env:=List ByteArray × List Val
mutual
def Pa.mtV:Pa→Val→Env→Env × Bool
 | .mk con n ks,v,e=>if con=true then (match v with
    | .built m us=>if m=n∧us.length=ks.length then Wd ks us e else (e,false)
    | _=>(e,false)) else ((n::e.1,v::e.2),true)
def Wd:List Pa→List Val→Env→Env × Bool
 | k::ks,u::us,e=>if (k.mtV u e).2=true then Wd ks us (k.mtV u e).1 else ((k.mtV u e).1,false)
 | _,_,e=>(e,true)
end
def WM:List Cl→List Val→Option (Ex × Env)
 | [],_=>none
 | c::cs,us=>if (Wd c.pats us ([],[])).2=true then some (c.body,(Wd c.pats us ([],[])).1) else WM cs us
def cntV (fu c d:Int) (us:List Val):Except Int Int:=if 5000<IntKind.i64.wrap (Wc us) then .error 7 else if c=fu then .error 8 else if 2000≤d then .error 6 else .ok (c+1)
abbrev EvR:=Except Int (Int × Val)
abbrev EvL:=Except Int (Int × List Val)
abbrev EvF:=Int→Int→Ex→List ByteArray→List Val→EvR
def arAt (p:Pr) (j:Nat):Int:=match p.funs[j]? with | some f=>f.arity | none=>0
section
variable (p:Pr) (fu:Int) (ev:EvF)
def callG (c d:Int) (j:Nat) (us:List Val):EvR:=match cntV fu c d us with
 | .error k=>.error k
 | .ok c1=>match p.funs[j]? with
   | some f=>match WM f.cls us with
     | none=>.error 420
     | some (b,e)=>ev c1 (d+1) b e.1 e.2
   | none=>.error 0
def appG:Nat→Int→Int→Val→List Val→EvR
 | 0,c,_,v,us=>if us.length=0 then .ok (c,v) else .error 0
 | n+1,c,d,v,us=>match us with
   | []=>.ok (c,v)
   | a::ar=>match v with
     | .built _ _=>.error 421
     | .clo x b ns vs=>match cntV fu c d [a] with
       | .error k=>.error k
       | .ok c1=>match ev c1 (d+1) b (x::ns) (a::vs) with
         | .error k=>.error k
         | .ok (c2,w)=>appG n c2 d w ar
     | .part j hs=>if (us.length:Int)<arAt p j-hs.length then .ok (c,.part j (hs++us)) else
        match callG p fu ev c d j (hs++us.take (arAt p j-hs.length).toNat) with
        | .error k=>.error k
        | .ok (c2,w)=>appG n c2 d w (us.drop (arAt p j-hs.length).toNat)
def listG (d:Int) (ns:List ByteArray) (vs:List Val):Int→List Ex→EvL
 | c,[]=>.ok (c,[])
 | c,k::ks=>match ev c d k ns vs with
   | .error k=>.error k
   | .ok (c',v)=>(match listG d ns vs c' ks with
     | .error k=>.error k
     | .ok (c'',l)=>.ok (c'',v::l))
end
def evG (p:Pr) (fu:Int):Nat→EvF
 | 0=>fun _ _ _ _ _=>.error 0
 | g+1=>fun c d e ns vs =>
   if e.op=1 then (match findV ns vs e.name with | some v=>.ok (c,v) | none=>.error 0)
   else if e.op=5 then .ok (c,.clo e.name (e.kids.headD zEx) ns vs)
   else if e.op=2 then (if 0<arFu p.funs e.name then .ok (c,.part (atFu p.funs e.name).toNat []) else callG p fu (evG p fu g) c d (atFu p.funs e.name).toNat [])
   else match listG (evG p fu g) d ns vs c e.kids with
    | .error k=>.error k
    | .ok (c',l)=>if e.op=3 then .ok (c',.built e.name l) else match l with
      | v::l=>appG p fu (evG p fu g) l.length c' d v l
      | []=>.error 0
end Go.PV.YtglpmlbbaedbiaaGreat
end
section
namespace Go.PV
open Go
theorem least {p:Nat→Prop} {n:Nat} (h:p n):∃ m,p m∧∀ k,k<m→¬ p k:=by
 induction n using Nat.strongRecOn with
 | _ n ih =>
   by_cases hk:∃ k,k<n∧p k
   ·obtain ⟨k,h1,h2⟩:=hk; exact ih k h1 h2
   ·exact ⟨n,h,fun k hk' hp=>hk ⟨k,hk',hp⟩⟩
theorem Zgx {cx:Cx} {Q:APost} {A:AF} {H:AH} {a:ACode} (hQ:Zcn Q) (I:Nat→AF→AH→Prop) {n0:Nat} (h0:I n0 A H)
 (round:∀ n A H,I n A H→∀ R:AF→AH→Prop,(∀ m A' H',m<n→I m A' H'→R A' H')→vc cx a (thenA R Q) A H):ACx cx (.loop a) Q A H:=by
 classical
 have hm:∀ A H,∃ m,(∃ n,I n A H)→I m A H∧∀ k,k<m→¬ I k A H:=fun A H=>by
  by_cases h:∃ n,I n A H
  ·obtain ⟨n,hn⟩:=h;obtain ⟨m,h1,h2⟩:=least (p:=fun n=>I n A H) hn;exact ⟨m,fun _=>⟨h1,h2⟩⟩
  ·exact ⟨0,fun h'=>absurd h' h⟩
 refine ZP hQ (fun A H=>∃ n,I n A H) (fun A H=>Classical.choose (hm A H)) ⟨n0,h0⟩ fun A H hI=>?_
 have hc:=Classical.choose_spec (hm A H) hI;refine round _ A H hc.1 _ fun m A' H' hlt hI'=>⟨⟨m,hI'⟩,?_⟩
 have hc':=Classical.choose_spec (hm A' H') ⟨m,hI'⟩;refine Nat.lt_of_le_of_lt (Nat.le_of_not_lt fun hk=>hc'.2 m hk hI') hlt
end Go.PV
end
section
open Nat renaming ble→Zqc
namespace Go.PV
open Go
def methV (P:Program) (t:TypeId) (name:String):Option (Bool × Option (FuncId × Bool)) :=
 match P.info? t with
 | some i=>(match i.methods.find? (·.name == name) with | some m=>some (m.path.toList.isEmpty,m.func) | none=>none)
 | none=>none
def noPtr (P:Program) (t:TypeId):Bool:=match P.underlying t with | some (.pointer _)=>false | some _=>true | none=>false
theorem run_meth {P:Program} {t:TypeId} {name:String} {f:FuncId} {fuel:Nat} (hn:Zqc 1 fuel=true) (hm:methV P t name=some (true,some (f,false))) (hu:noPtr P t=true) (z:Value) (w:World) :
 (method fuel t z name).run P w=.ok (f,z) w:=by
 cases fuel with
 | zero=>cases hn
 | succ n =>
   unfold methV at hm;split at hm
   ·rename_i i hi;split at hm
    ·rename_i m hm1;simp only [Option.some.injEq,Prod.mk.injEq] at hm;obtain ⟨hp,hf⟩:=hm;have hp':m.path.toList=[]:=by simpa using hp
     unfold noPtr at hu;split at hu
     ·cases hu
     ·rename_i d hnp hd
      have hr:∀ wr,(receiverAt t (.val z) false wr).run P w=.ok z w:=by
       intro wr;unfold receiverAt;rw [Sem.run_bind,run_underlying hd];cases d<;>first | (exact absurd rfl (hnp _)) | simp [Place.get]
      unfold method;simp [typeInfo,hi,hm1,hp',follow,hf,hr]
     ·cases hu
    ·cases hm
   ·cases hm
theorem Znr {P:Program} {g:Nat} {t:TypeId} {m:String} {y:VV} {xs:List VV} {ro:Option Nat} {H:AH} {K:VE→AH→Prop} (hn:Zqc 1 (P.types.size+Made.depth)=true) (hm:methV P t m=some (true,some (g,false))) (hu:noPtr P t=true) (he:ZF P g=true) (h:ZT P g (y::xs) H K):Zgb P ro (.iface t y) m xs H K :=
 ⟨g,y,he,h,fun S w u hu'=>by obtain ⟨v,rfl,hv⟩:=hu'; exact ⟨v,hv,t,v,rfl,run_meth hn hm hu v w⟩⟩
end Go.PV
end
section
open Go.PV.AH renaming set_none→ZpO
open Go.PV.Hold renaming mk→ZpM
open Go.PV.PureF renaming forget→Zp4,use→ZpQ
open Go.PV.SubH renaming refl→ZpN,of_set→ZpS,new→ZpR
open List renaming drop→ZpL,getElem_mem→ZpW,take_of_length_le→Zqr
open Nat renaming reduceLT→ZpJ,reduceEqDiff→ZpI
set_option maxRecDepth 20000
set_option maxHeartbeats 4000000
namespace Go.PV.YtglpmlbbaedbiaaGreat
open Go Go.Proofs
abbrev nilI:VV:=.lit .nilIface
def optV (fs:List Fu):Option Val→VV
 | none=>nilI
 | some v=>v.vv fs
abbrev EnvO:=List (ByteArray × Option Val)
def eoC (fs:List Fu):EnvO→VV
 | []=>nilP
 | (n,o)::l=>.iptr [sV n,optV fs o,eoC fs l]
def eoF:EnvO→ByteArray→Option Val
 | [],_=>none
 | (n,o)::l,s=>if n=s then o else eoF l s
def eoOf:List ByteArray→List Val→EnvO
 | n::ns,v::vs=>(n,some v)::eoOf ns vs
 | _,_=>[]
theorem Zgg (fs:List Fu):∀ (vs:List Val) (ns:List ByteArray),envC fs vs ns=eoC fs (eoOf ns vs)
 | [],ns=>by cases ns<;>simp [envC,eoOf,eoC]
 | v::vs,[]=>by simp [envC,eoOf,eoC]
 | v::vs,n::ns=>by rw [envC,Zgg fs vs ns]; rfl
theorem Zns:∀ (ns:List ByteArray) (vs:List Val) (s:ByteArray),eoF (eoOf ns vs) s=findV ns vs s
 | [],vs,s=>by cases vs<;>rfl
 | n::ns,[],s=>rfl
 | n::ns,v::vs,s=>by
   show (if n=s then some v else eoF (eoOf ns vs) s)=if n=s then some v else findV ns vs s
   rw [Zns ns vs s]
theorem WU (fs:List Fu) (v:Val):(v.vv fs).cells=[v.vv fs]∧VV.one (v.vv fs)=true:=by cases v<;>(simp only [Val.vv]; exact ⟨rfl,rfl⟩)
theorem optV_one (fs:List Fu) (o:Option Val):(optV fs o).cells=[optV fs o]∧VV.one (optV fs o)=true:=by
 cases o with
 | none=>exact ⟨rfl,rfl⟩
 | some v=>exact WU fs v
theorem ZhQ (fs:List Fu) (l:EnvO):(eoC fs l).cells=[eoC fs l]∧VV.one (eoC fs l)=true:=by
 cases l with
 | nil=>exact ⟨rfl,rfl⟩
 | cons x l=>exact ⟨rfl,rfl⟩
theorem neq_iptr {P:Program} {t e:TypeId} {ox:Operand} {c:Value} {cs:List VV} {H:AH} {K:VE→AH→Prop} (hu:P.underlying t=some (.pointer e)):vcBin P .neq t ox (.const c) (.iptr cs) nilP H K=K (.ret (boolV true)) H:=by
 unfold vcBin;simp only [Yw];exact propext ⟨fun h=>h.2.2 _ rfl,fun h=>⟨⟨e,hu⟩,.inr (.inl rfl),fun b hb=>by rw [show b=false from hb]; exact h⟩⟩
theorem Zog {ox:Operand} {c:Value} {cs:List VV} {H:AH} {K:VE→AH→Prop}:vcBin Tryz.prog .neq 131 ox (.const c) (.iptr cs) nilP H K=K (.ret (boolV true)) H:=neq_iptr (e:=185) (by kernel_rfl)
theorem neq_scN {ox:Operand} {c:Value} {H:AH} {K:VE→AH→Prop}:vcBin Tryz.prog .neq 131 ox (.const c) nilP nilP H K=K (.ret (boolV false)) H:=Zoc (a:=none) (e:=185) (by kernel_rfl)
theorem Zoh (fs:List Fu) (l:EnvO) (s:ByteArray):PureF Tryz.prog 48 [eoC fs l,sV s] (optV fs (eoF l s)):=by
 refine Zp4 fun H0=>?_
 refine ZE fd48 (by simp) ?_;delta c48 Zq;obtain ⟨R,hR⟩:∃ R,R=eoF l s:=⟨_,rfl⟩
 rw [← hR];replace hR:=ZpM hR
 (repeat' (first | (simp only [↓Zz,ZA,ZpJ,ZD,undef, *])))
 refine Zgx (fun _ _ _ h=>h) (fun n A H=>SubH H0 H∧A.d=[]∧A.t 1=sV s∧∃ l':EnvO,l'.length=n∧A.t 0=eoC fs l'∧R=eoF l' s) (n0:=l.length) ⟨ZpN _,rfl,(by simp only [ZC,ZpI,if_false, *]<;>rfl),l,rfl,(by simp only [ZC,ZpI,if_false, *]<;>rfl),hR.out⟩ ?_;clear hR;rintro n ⟨t,d⟩ H ⟨hsb,rfl,h1,l',hn,h0,hR⟩ Rr hrr;dsimp only at h1 h0;delta b48_1 Za Zq Zr Zd Zb Zn Zc;cases l' with
 | nil =>
   have hR:R=none:=hR;subst hR;replace h0:t 0=nilP:=h0;clear hrr
   (repeat' (first | (simp only [↓Zz,ZA,boolV,ZpJ,neq_scN, *]) | (refine ZV rfl (fun _ _ _ h=>h) ?_)))
   delta c48_1 Zq
   (repeat' (first | (simp only [↓Zz,ZA,ZpI,ZpJ, *]) | (refine ZG ?_)))
   all_goals first
    | rfl
    | exact hsb
 | cons x l' =>
   obtain ⟨m,o⟩:=x;replace h0:t 0=.iptr [sV m,optV fs o,eoC fs l']:=h0;obtain ⟨o1,o2⟩:=optV_one fs o;obtain ⟨o3,o4⟩:=ZhQ fs l';by_cases hm:m=s
   ·have hR2:R=o:=by rw [hR]; show (if m=s then _ else _)=_; rw [if_pos hm]
    clear hR;subst hR2;clear hrr
    (repeat' (first | (simp only [↓Zz,ZA,↓Xw,vcNil,boolV,ZpI,ZpJ,reduceCtorEq,ZpL,Zog,Zjl,ZoF,ZW,Zbk, *]) | (refine ZG ?_)))
   ·have hR2:R=eoF l' s:=by rw [hR]; show (if m=s then _ else _)=_; rw [if_neg hm]
    clear hR;replace hR:=ZpM hR2;clear hR2;replace hn:=ZpM hn;replace hrr:=ZpM hrr
    (repeat' (first | (simp only [↓Zz,ZA,↓Xw,vcNil,boolV,ZpI,ZpJ,reduceCtorEq,ZpL,Zog,Zjl,ZoG,ZW,Zer, *])))
    exact hrr.out l'.length _ _ (by rw [← hn.out]; simp) ⟨hsb,rfl,(by simp only [ZC,ZpI,if_false, *]<;>rfl),l',rfl,(by simp only [ZC,ZpI,if_true,if_false, *]<;>rfl),hR.out⟩
theorem Zir (a b:Int):IntKind.i64.wrap (IntKind.i64.wrap a+IntKind.i64.wrap b)=IntKind.i64.wrap (a+b):=by simp only [IntKind.wrap_i64]; omega
abbrev ndM:String := "triforium/evaluate.nodes"
theorem en_ndb:ZF Tryz.prog 164=true:=by kernel_rfl
theorem en_ndc:ZF Tryz.prog 162=true:=by kernel_rfl
theorem en_ndp:ZF Tryz.prog 163=true:=by kernel_rfl
theorem Zlh {l:List Val} {i:Nat} (h:i<l.length):Wc (l.take (i+1))=Wc (l.take i)+l[i].nd:=by
 have hsn:∀ (l:List Val) (v:Val),Wc (l++[v])=Wc l+v.nd:=fun l v=>by
  induction l with
  | nil=>simp [Wc]
  | cons x l ih=>rw [List.cons_append,Wc,ih,Wc]; omega
 rw [XB h,hsn]
def NdAt (fs:List Fu) (v:Val):Prop:=∀ (ro:Option Nat) (H:AH) (K:VE→AH→Prop),K (.ret (iV (IntKind.i64.wrap v.nd))) H→Zgb Tryz.prog ro (v.vv fs) ndM [] H K
theorem Zis {fs:List Fu} {l:List Val} (hl:l.length≤1099511627776) (hn:∀ v∈l,NdAt fs v):PureF Tryz.prog 122 [vsV fs l] (iV (IntKind.i64.wrap (Wc l))):=by
 refine Zp4 fun H0=>?_
 refine ZE fd122 (by simp) ?_;delta c122 Zf Za Ze Zq
 (repeat' (first | (simp only [↓Zz,ZA,intV,ZpI,ZpJ,reduceCtorEq,ZD,undef,YJ, *])))
 refine ZP (fun _ _ _ h=>h) (fun A H=>SubH H0 H∧A.d=[]∧A.t 6=vsV fs l∧A.t 7=iV l.length∧∃ i:Nat,i≤l.length∧A.t 8=iV i∧A.t 3=iV (IntKind.i64.wrap (Wc (l.take i))))
  (fun A _=>match A.t 8 with | .lit (.int _ i)=>((l.length:Int)-i).toNat | _=>0) ?_ ?_
 ·exact ⟨ZpN _,rfl,(by simp only [ZC,ZpI,if_true,if_false, *]<;>rfl),(by simp only [ZC,ZpI,if_true,if_false, *]<;>rfl),0,by omega,(by simp only [ZC,ZpI,if_true,if_false, *]<;>rfl),by simp only [ZC,ZpI,if_true,if_false]; rfl⟩
 ·rintro ⟨t,d⟩ H ⟨hsb,rfl,h6,h7,i,hi,h8,h3⟩;dsimp only at h6 h7 h8 h3;delta b122_1 Zn Zr Zk Zb Zc Za Zq Zm;by_cases hlt:i<l.length
  ·have hil:(i:Int)<(l.length:Int):=by omega
   have hv:=hn _ (ZpW hlt);have e2:=ZdG (fs:=fs) hlt;obtain ⟨o1,o2⟩:=WU fs l[i];have hw:IntKind.i64.wrap (IntKind.i64.wrap (Wc (l.take i))+IntKind.i64.wrap l[i].nd)=IntKind.i64.wrap (Wc (l.take (i+1))):=by rw [Zir,Zlh hlt]
   clear hn;replace hv:=ZpM hv
   (repeat' (first | (simp only [↓Zz,ZA,↓s_callI,ZpI,ZpJ,Zbk,YJ, *]) | (refine hv.out _ _ _ ?_) | (with_reducible refine And.intro ?_ ?_)))
   all_goals rw [ZK (n:=(i:Int)+1) (by omega) (by omega)]
   ·exact ⟨i+1,by omega,rfl,rfl⟩
   ·omega
  ·have hil:¬ (i:Int)<(l.length:Int):=by omega
   rw [Zqr (by omega)] at h3
   (repeat' (first | (simp only [↓Zz,ZA,ZpJ, *])))
   delta c122_1 Za Zc
   (repeat' (first | (simp only [↓Zz,ZA,ZpI,ZpJ, *]) | (refine ZG ?_) | (refine ZV rfl (fun _ _ _ h=>h) ?_)))
theorem ndb_ok {fs:List Fu} {n:ByteArray} {ks:List Val} (h:PureF Tryz.prog 122 [vsV fs ks] (iV (IntKind.i64.wrap (Wc ks)))):PureF Tryz.prog 164 [.agg [sV n,vsV fs ks]] (iV (IntKind.i64.wrap (1+Wc ks))):=by
 refine Zp4 fun H0=>?_
 refine ZE fd164 (by simp) ?_;delta c164 Zj Zf Zd Zb Zo Zr Zq Zc;have hw:IntKind.i64.wrap (1+IntKind.i64.wrap (Wc ks))=IntKind.i64.wrap (1+Wc ks):=by simp only [IntKind.wrap_i64]; omega
 (repeat' (first | (simp only [↓Zz,ZA,ptrV,ZpI,ZpJ,ZD,ZpL,undef,ZaK,JK,ZfF, *]) | (refine ZG ?_) | (refine ZB fun zr zh=>?_; have zg:=zh; (try simp only [ZpO] at zg)) | (exact ZpN _) | (refine ZpS ?_ ?_) | (refine ZpQ (h) ?_)))
 all_goals first
  | rfl
  | exact ZpR (by assumption)
theorem ndc_ok (y:VV) (hy:∃ a b c d,y=.agg [a,b,c,d]):PureF Tryz.prog 162 [y] (iV 1):=by
 obtain ⟨a,b,c,d,rfl⟩:=hy;refine Zp4 fun H0=>?_
 refine ZE fd162 (by simp) ?_;delta c162 Zj Zf
 (repeat' (first | (simp only [↓Zz,ZA,ptrV,ZpJ,ZD,undef, *]) | (refine ZG ?_) | (refine ZB fun zr zh=>?_; have zg:=zh; (try simp only [ZpO] at zg)) | (exact ZpN _) | (refine ZpS ?_ ?_)))
 all_goals first
  | rfl
  | exact ZpR (by assumption)
theorem ndp_ok {fs:List Fu} {x:VV} {us:List Val} {X:Int} (hx:∃ cs,x=.iptr cs) (hX0:us.length=0→X=1) (hX:X=IntKind.i64.wrap (2+IntKind.i64.wrap (Wc us))∨us.length=0) (h:PureF Tryz.prog 122 [vsV fs us] (iV (IntKind.i64.wrap (Wc us)))):PureF Tryz.prog 163 [.agg [x,vsV fs us]] (iV X):=by
 obtain ⟨cs,rfl⟩:=hx;refine Zp4 fun H0=>?_
 refine ZE fd163 (by simp) ?_;delta c163 Zj Zf Zd Zb Ze Zm Zr Zo Zq Zc;by_cases h0:us.length=0
 ·have h0':(us.length:Int)=0:=by omega
  obtain rfl:=hX0 h0;clear hX0 hX h0
  (repeat' (first | (simp only [↓Zz,ZA,ptrV,intV,ZpI,ZpJ,reduceCtorEq,ZD,ZpL,undef,Zbl,JK,YJ, *]) | (refine ZG ?_) | (refine ZB fun zr zh=>?_; have zg:=zh; (try simp only [ZpO] at zg)) | (exact ZpN _) | (refine ZpS ?_ ?_)))
  all_goals first
   | rfl
   | exact ZpR (by assumption)
 ·have h0':¬ (us.length:Int)=0:=by omega
  have hw:=(hX.resolve_right h0).symm;clear hX0 hX h0
  (repeat' (first | (simp only [↓Zz,ZA,ptrV,intV,ZpI,ZpJ,reduceCtorEq,ZD,ZpL,undef,Zbl,JK,YJ,ZfF, *]) | (refine ZG ?_) | (refine ZB fun zr zh=>?_; have zg:=zh; (try simp only [ZpO] at zg)) | (exact ZpN _) | (refine ZpS ?_ ?_) | (refine ZpQ (h) ?_)))
  all_goals first
   | rfl
   | exact ZpR (by assumption)
theorem Zo1 (fs:List Fu) (p:Pr) (v:Val):v.ok p→NdAt fs v:=by
 refine Val.ind (q:=fun v=>v.ok p→NdAt fs v) (fun v ih hv=>?_) v;intro ro H K hK;cases v with
 | built n ks =>
   obtain ⟨h1,h2⟩:=hv;rw [Zcz];exact Znr (by kernel_rfl) (by kernel_rfl) (by kernel_rfl) en_ndb ((ndb_ok (Zis (Nat.le_trans h1 (by decide)) (fun k hk=>ih k hk (Xt.1 h2 k hk)))).use hK)
 | clo x b ns vs =>
   rw [Zhc];exact Znr (by kernel_rfl) (by kernel_rfl) (by kernel_rfl) en_ndc ((ndc_ok _ ⟨_,_,_,_,rfl⟩).use hK)
 | part j us =>
   obtain ⟨h1,h2⟩:=hv;rw [Zc7];refine Znr (by kernel_rfl) (by kernel_rfl) (by kernel_rfl) en_ndp ((ndp_ok ⟨_,rfl⟩ (fun h=>?_) ?_ (Zis h1.2.1 (fun k hk=>ih k hk (Xt.1 h2 k hk)))).use hK)
   ·cases us with
    | nil=>rw [Val.nd]; rfl
    | cons a l=>simp at h
   ·cases us with
    | nil=>exact .inr rfl
    | cons a l=>left; simp only [Val.nd,IntKind.wrap_i64,Wc]; omega
theorem total_ok (fs:List Fu) {p:Pr} {l:List Val} (hl:l.length≤1099511627776) (h:YP p l):PureF Tryz.prog 122 [vsV fs l] (iV (IntKind.i64.wrap (Wc l))):=Zis hl fun v hv=>Zo1 fs p v (Xt.1 h v hv)
end Go.PV.YtglpmlbbaedbiaaGreat
end
