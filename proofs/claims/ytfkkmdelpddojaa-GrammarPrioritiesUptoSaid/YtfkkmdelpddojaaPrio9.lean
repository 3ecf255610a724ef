/- Part 9 of 10 of what the proof of Prio needs. -/
import Derived.Test.YtfkkmdelpddojaaPrio8
import Derived.Test.YtfkkmdelpddojaaPrio4
import Derived.Test.YtfkkmdelpddojaaPrio6
set_option linter.unusedVariables false
set_option linter.unusedSimpArgs false
set_option linter.defProp false
section
open Bool renaming and_eq_true→ZmA
open List renaming drop_eq_getElem_cons→ZmY,getElem_mem→ZmE,append_assoc→Zm7,drop_zero→Zm4
open Nat renaming eq_zero_or_pos→Zm9,lt_or_ge→ZmI
set_option maxRecDepth 20000
set_option maxHeartbeats 4000000
namespace Go.PV.Ytfkkmdelpddojaa
open Go Go.Proofs
section
variable {g:List Pd} {l:List Tk} {dn:Sp→List Int} {rc rk:Nat} {Hc:AH}
theorem items_ok (hc:FCh g l dn rc rk Hc) (hd:DOk g l dn) {T:ByteArray→Int→Nat→Nat→List Tn} {q W:Nat} (hq:q<g.length) (hsg:XN (pdAt g q)=false)
 (hTr:∀ sym least f to,f<to→to≤l.length→to-f<W→∀ Hc',FCh g l dn rc rk Hc'→Zd1 g l dn rc rk Hc' (T sym least f to) sym least f to []) :
 ∀ (m dot f t:Nat),(pdAt g q).items.length-dot≤m→dot≤(pdAt g q).items.length→f≤t→t≤l.length→(dot=0→t-f≤W)→(0<dot→t-f<W)→ZaU g l dn rc rk Hc T q dot f t:=by
 intro m
 induction m with
 | zero =>
   intro dot f t hm hdl hft htl hw0 hw1 kids Inv L l0 hy hyo hkd k M Hb B K hL hI hT hF;have he:dot=(pdAt g q).items.length:=by omega
   have hit:(pdAt g q).items.drop dot=[]:=by rw [he]; exact List.drop_length
   rw [hit,itsG] at hL hT;refine Zjc hy hI fun A Hx Bx r6 r7 r8 r9 r10 r11 r12 hA hIx ha=>?_
   refine Zk5 hc hd hy hq hA hIx ha fun A1 h1 ha1 t13=>?_
   refine Zjd hd hy hq he hkd (hy.low hI) hyo h1 hIx ha1 t13 (M:=M) ?_ ?_ hF
   ·rw [hL]; by_cases e:f=t<;>simp [e]
   ·by_cases e:f=t<;>simpa [e] using hT
 | succ m ih =>
   intro dot f t hm hdl hft htl hw0 hw1 kids Inv L l0 hy hyo hkd k M Hb B K hL hI hT hF;refine Zjc hy hI fun A Hx Bx r6 r7 r8 r9 r10 r11 r12 hA hIx ha=>?_
   refine Zk5 hc hd hy hq hA hIx ha fun A1 h1 ha1 t13=>?_
   by_cases he:dot=(pdAt g q).items.length
   ·have hit:(pdAt g q).items.drop dot=[]:=by rw [he]; exact List.drop_length
    rw [hit,itsG] at hL hT;refine Zjd hd hy hq he hkd (hy.low hI) hyo h1 hIx ha1 t13 (M:=M) ?_ ?_ hF
    ·rw [hL]; by_cases e:f=t<;>simp [e]
    ·by_cases e:f=t<;>simpa [e] using hT
   ·have hlt:dot<(pdAt g q).items.length:=by omega
    have hit:=ZmY hlt;refine items_2a hd hy hq hlt h1 hIx ha1 t13 fun A2 h2 ha2 t13=>?_
    have hrok:rOk g l ⟨q,dot,f,t⟩:=⟨hq,hdl,by show f≤l.length; omega,htl⟩
    have hcf:canF g l dn ⟨q,dot,f,t⟩=canL l (hasF g dn) ((pdAt g q).items.drop dot) f t:=rfl;rw [hit] at hL hT hcf;have hkd3:=hd.kd (pdAt g q) (by rw [Xa hq]; exact ZmE hq) _ (ZmE hlt);generalize hi:(pdAt g q).items[dot]=i at *
    cases hca:canL l (hasF g dn) (i::(pdAt g q).items.drop (dot+1)) f t with
    | false =>
      rw [itsG,if_pos hca] at hL hT;exact items_3b hc hd hy hrok (hcf.trans hca) (hy.low hI) h2 hIx ha2 hT
    | true =>
      refine items_3a hc hd hy hrok (hcf.trans hca) h2 hIx ha2 t13 fun A3 B3 h3 hI3 ha3 t13=>?_
      rw [itsG,if_neg (by rw [hca]; simp)] at hL hT;have hca':=hca;unfold canL at hca';rw [ZmA,decide_eq_true_eq] at hca';obtain ⟨hft',hca'⟩:=hca';by_cases hk1:i.kind=1
      ·rw [if_pos hk1] at hL hT
       exact items_4a hd hy hq hlt hft' htl (by rw [hi]; exact hk1) hkd (hy.low hI) hyo (ih (dot+1) (f+1) t (by omega) hlt (by omega) htl (by omega) (fun _=>by
        rcases Zm9 dot with h | h
        ·have:=hw0 h; omega
        ·have:=hw1 h; omega)) h3 hI3 ha3 t13 hL hT hF
      ·rw [if_neg hk1] at hL hT;by_cases hk2:i.kind=2
       ·rw [if_pos hk2] at hL hT
        refine items_4b hd hy hq hlt hft' htl (by rw [hi]; exact hk2) hkd (hy.low hI) hyo (ih (dot+1) (f+1) t (by omega) hlt (by omega) htl (by omega) (fun _=>by
         rcases Zm9 dot with h | h
         ·have:=hw0 h; omega
         ·have:=hw1 h; omega)) h3 hI3 ha3 t13 (M:=M) ?_ ?_ hF
        ·rw [hL,List.map_map]
         congr 1
         refine List.map_congr_left fun ks _=>?_
         show Tn.mk q 0 (kids++Tn.mk (-1) f []::ks)=_;rw [Zm7]; rfl
        ·rw [List.length_map] at hT; exact hT
       ·rw [if_neg hk2] at hL hT
        refine items_4c hc hd hy hq hit hft' htl hk1 hk2 hkd (hy.low hI) hyo (fun to ht1 ht2=>ih (dot+1) to t (by omega) hlt ht2 htl (by omega) (fun _=>by
         rcases Zm9 dot with h | h
         ·have:=hw0 h; omega
         ·have:=hw1 h; omega)) (fun to ht1 ht2 hcn Hc' hc'=>hTr _ _ _ _ ht1 (by omega) ?_ Hc' hc') h3 hI3 ha3 t13 hL hT hF
        rcases Zm9 dot with h | h
        ·have hw:=hw0 h;rcases ZmI to t with h4 | h4
         ·omega
         ·exfalso
          obtain rfl:to=t:=by omega
          cases his:(pdAt g q).items.drop (dot+1) with
          | nil =>
            have hone:(pdAt g q).items=[i]:=by
             have e:=hit;rw [h,Zm4] at e;rw [e,← h,his]
             done
            unfold XN at hsg;rw [hone] at hsg
            have:¬ i.kind=3:=by simpa using hsg
            omega
          | cons i2 is2 =>
            rw [his] at hcn;unfold canL at hcn;simp at hcn
        ·have hw:=hw1 h;omega
end
end Go.PV.Ytfkkmdelpddojaa
end
section
open Bool renaming not_false→ZmG,and_self→Zmp,false_eq_true→Zmv,not_true→ZmK
open Int renaming toNat_natCast→Zmw
open List renaming map_cons→Zmd,map_nil→Zmg,getD_cons_zero→Zmq,getD_cons_succ→Zmr,getD_nil→Zms,drop→Zmb,nodup_nil→Zm0,drop_eq_getElem_cons→ZmY,getElem_mem→ZmE,nil_append→ZmO,length_cons→Zmi,length_nil→Zml,all_cons→Zmz,all_nil→ZmJ,set_cons_zero→Zmn,drop_zero→Zm4,append_assoc→Zm7,length_append→ZmB,append_nil→ZmF,set_cons_succ→Zmy,replicate_succ→ZmP,replicate_zero→ZmZ,flatten_cons→ZmT,flatten_nil→ZmX,getElem?_cons_zero→ZmC,getElem?_cons_succ→ZmD,drop_eq_nil_of_le→Znb
open Nat renaming reduceEqDiff→Zl9,reduceLT→Zma,succ_ne_self→Zme,zero_le→ZmU,mul_one→ZmM,zero_add→Zmh,add_zero→Zmo,le_refl→Zmc,reduceAdd→Zmj,reduceLeDiff→Zmu,reduceMul→Zm8
set_option maxRecDepth 20000
set_option maxHeartbeats 4000000
namespace Go.PV.Ytfkkmdelpddojaa
open Go Go.Proofs
section
variable {g:List Pd} {l:List Tk} {dn:Sp→List Int} {rc rk:Nat} {Hc:AH} {Inv:Option Nat→AH→AH→Prop}
structure TrI (Inv:Option Nat→AH→AH→Prop) (Hb Hz:AH) (r1 r2 r3 r4 r5 r6:Nat) (v:VV) (D:List Int) (S:Int→List Tn) (L M:List Tn) (kN:Nat) (n:Nat) (A:AF) (H:AH):Prop where
 t1:A.t 1=ptrV r1 0
 t2:A.t 2=ptrV r2 0
 t3:A.t 3=ptrV r3 0
 t4:A.t 4=ptrV r4 0
 t5:A.t 5=ptrV r5 0
 t6:A.t 6=ptrV r6 0
 t14:A.t 14=v
 t15:A.t 15=iV D.length
 ex:∃ (i:Nat) (rs:List Nat) (Hq:AH) (ki:Nat),n=D.length-i∧i≤D.length∧A.t 16=iV i∧A.d=rs.map WL∧Inv (some ki) Hq H∧SubH Hz Hq∧rs.Nodup∧(∀ r∈rs,Hq r=some (.obj (.deferred (some [])))∧Hb r=none) ∧
  L.drop ki=(D.drop i).flatMap S++M∧ki+((D.drop i).flatMap S).length=kN
noncomputable abbrev trX:Cx:=⟨Try.prog,87,none⟩
noncomputable abbrev trQ (K:VE→AH→Prop):APost:=XO 0 (retN [] K)
theorem ZlM (hc:FCh g l dn rc rk Hc) (hd:DOk g l dn) (hy:Yi g l dn rk Hc Inv) {sym:ByteArray} {least:Int} {f t:Nat} {banned:List Int} (hft:f≤l.length) (htl:t≤l.length) {S:Int→List Tn} {L M:List Tn} {l0 k r1 r2 r3 r4 r5:Nat} {Hb B:AH} {K:VE→AH→Prop} (hty:TrC rc sym least f t banned r1 r2 r3 r4 r5 Hb) (hI:Inv (some k) Hb B) (hL:L.drop k=(dn (f,t)).flatMap S++M)
 (h:∀ (A:AF) (Hz H:AH) (r6:Nat) (v:VV),IlR Hz v (dn (f,t))→SubH Hb Hz→Hz r6=some (.cells 75 [yV l0] 0)→TrI Inv Hb Hz r1 r2 r3 r4 r5 r6 v (dn (f,t)) S L M (k+((dn (f,t)).flatMap S).length) (dn (f,t)).length A H→ACx trX (.loop Zl4) (trQ K) A H) :
 ZO Try.prog 82 [yV l0,ptrV r1 0,ptrV r2 0,ptrV r3 0,ptrV r4 0,ptrV r5 0] B K:=by
 have hnl:=hd.gok.n;obtain ⟨v,hv,hov⟩:=Zk1 hc (s:=(f,t)) ⟨by show f≤_; omega,by show t≤_; omega⟩;have hcB:=(hy.low hI).trans (hy.sub hI);obtain ⟨y1,y2,y3,y4,y5⟩:=hty;have q1:=hy.sub hI _ _ y1;have q2:=hy.sub hI _ _ y2;have hov2:=fun z b (hz:B z=none)=>hov (B.set z b) (hcB.of_set (hcB.none hz))
 have hln:=fun z b (hz:B z=none) K'=>((hv.mono (hcB.of_set (b:=b) (hcB.none hz))).read).len (P:=Try.prog) (t:=108) (K:=K') (by simp [YA])
 refine Ju fd82 (by simp) ?_;refine Zbg (Q:=retN [] K) ?_ Zkw;delta c82 Zj Zb Zo Zr Ze Zq;refine YL rfl (fun _ _ _ h=>h) ?_;replace hI:=Hold.mk hI;replace hL:=Hold.mk hL;replace h:=Hold.mk h;replace hv:=Hold.mk hv
 (repeat' (first | (refine (hov2 _ _ (by assumption)).use ?_) | (refine hln _ _ (by assumption) _ ?_) | (simp only [↓Ya,↓Ye,↓Ys,↓Zcv,↓ZY,↓ZF,↓ZD,↓ZG,↓ZH,↓ZJ,↓ZI,↓ZP,↓ZU,↓Zv,↓ZR,↓ZS,↓Wx,↓ZX,↓ZK,↓ZL,↓Xk,ptrV,intV,Zmd,Zmg,Zmq,Zmr,Zms,ite_true,ite_false,Zl9,Zma,true_and,Zme,Zx,AH.get,eq_self,Zmb,Yq,JG,cl_fn,↓Wz,Yn,Yo,Yp,undef,YT,ZbE,Zjw, *]) | (refine Zw fun zr zh=>?_; have zg:=zh; (try simp only [AH.set_none] at zg); (try have zn_q1:=AH.ne_of q1 zh); (try have zn_q1:=AH.ne_of q1 zg.2); (try have zn_q1:=AH.ne_of q1 zg.2.2); (try have zn_q1:=AH.ne_of q1 zg.2.2.2); (try have zn_q1:=AH.ne_of q1 zg.2.2.2.2); (try have zn_q2:=AH.ne_of q2 zh); (try have zn_q2:=AH.ne_of q2 zg.2); (try have zn_q2:=AH.ne_of q2 zg.2.2); (try have zn_q2:=AH.ne_of q2 zg.2.2.2); (try have zn_q2:=AH.ne_of q2 zg.2.2.2.2))))
 have hbz:Hb zr=none:=(hy.sub hI.out).none zh;have hsz:SubH Hb (Hb.set zr (.cells 75 [yV l0] 0)):=SubH.new hbz;exact h.out _ (Hb.set zr (.cells 75 [yV l0] 0)) _ zr v (hv.out.mono ((hy.low hI.out).trans hsz)) hsz (AH.set_same _ _ _) ⟨(by simp only [Zv,Zl9,if_false, *]<;>rfl),(by simp only [Zv,Zl9,if_false, *]<;>rfl),(by simp only [Zv,Zl9,if_false, *]<;>rfl),(by simp only [Zv,Zl9,if_false, *]<;>rfl),(by simp only [Zv,Zl9,if_false, *]<;>rfl),(by simp only [Zv,Zl9,if_true,if_false, *]<;>rfl),(by simp only [Zv,Zl9,if_true,if_false, *]<;>rfl),(by simp only [Zv,Zl9,if_true,if_false, *]<;>rfl),0,[],_,k,rfl,ZmU _,(by simp only [Zv,Zl9,if_true,if_false, *]<;>rfl),rfl,hy.al _ _ _ zr (.cells 75 [yV l0] 0) hI.out zh,SubH.refl _,Zm0,(fun _ h=>by cases h),hL.out,rfl⟩
theorem Zj3 (hc:FCh g l dn rc rk Hc) (hd:DOk g l dn) (hy:Yi g l dn rk Hc Inv) {T:ByteArray→Int→Nat→Nat→List Int→List Tn} {sym:ByteArray} {least:Int} {f t:Nat} {banned:List Int} (hft:f≤l.length) (htl:t≤l.length) (hban:banned.length≤999)
 (hit:∀ q,q<g.length→XN (pdAt g q)=false→ZaU g l dn rc rk Hc (fun s p f t=>T s p f t []) q 0 f t)
 (htr:∀ q,q∈dn (f,t)→q ∉ banned→∀ Hc',FCh g l dn rc rk Hc'→Zd1 g l dn rc rk Hc' (T (headI (pdAt g q)).text (headI (pdAt g q)).prio f t (banned++[q])) (headI (pdAt g q)).text (headI (pdAt g q)).prio f t (banned++[q]))
 {L M:List Tn} {l0 r1 r2 r3 r4 r5 r6 kN n:Nat} {Hb Hz H:AH} {A:AF} {v:VV} {K:VE→AH→Prop} (hyo:YOk (yV l0) Inv L) (hcb:SubH Hc Hb) (hty:TrC rc sym least f t banned r1 r2 r3 r4 r5 Hb) (hv:IlR Hz v (dn (f,t))) (hbz:SubH Hb Hz) (z6:Hz r6=some (.cells 75 [yV l0] 0))
 (hlp:TrI Inv Hb Hz r1 r2 r3 r4 r5 r6 v (dn (f,t)) (treQ g l dn T sym least f t banned) L M kN n A H)
 (hT:∀ Hb' B' u,Inv (some kN) Hb' B'→SubH Hb Hb'→K (.ret u) B') (hF:∀ Hb' B' u,Inv none Hb' B'→SubH Hb Hb'→K (.ret u) B'):ACx trX (.loop Zl4) (trQ K) A H:=by
 have hcz:=hcb.trans hbz;have hnl:=hd.gok.n;have hgl:=hd.gok.len;have hin:=hd.in_ (f,t);have hdl:=hd.len (f,t);obtain ⟨y1,y2,y3,y4,y5⟩:=hty;obtain ⟨D,hD⟩:∃ D,D=dn (f,t):=⟨_,rfl⟩
 rw [← hD] at hlp hv htr hin hdl;replace hD:=Hold.mk hD;refine Zeh (fun _ _ _ h=>h) (TrI Inv Hb Hz r1 r2 r3 r4 r5 r6 v D (treQ g l dn T sym least f t banned) L M kN) hlp ?_;clear hlp;rintro n ⟨u,d⟩ H ⟨t1,t2,t3,t4,t5,t6,t14,t15,i,rs,Hq,ki,hn,hi,t16,hdd,hI,hzq,hnd,hrs,hL,hkN⟩ R hR;dsimp only at t1 t2 t3 t4 t5 t6 t14 t15 t16 hdd;subst hdd;have hqs:=hy.sub hI;have hbq:=hbz.trans hzq;have hvr:=(hv.mono (hzq.trans hqs)).read;delta Zl4 Zn Zr Zk Zb Zi Zg Zq Zd Zo Za Zp Zl Zc;have hwi:IntKind.wrap .i64 ((i:Int)+1)=((i+1:Nat):Int):=by rw [ZQ (by omega) (by omega)]; rfl
 by_cases hlt:i<D.length
 ·have hil:(i:Int)<(D.length:Int):=by omega
  rw [ZmY hlt,List.flatMap_cons] at hL hkN
  have hnext:∀ (u':Nat→VV) (rs':List Nat) (Hq':AH) (ki':Nat) (B':AH),(∀ i,i<17→¬ i=8→¬ i=9→¬ i=10→¬ i=11→u' i=u i)→Inv (some ki') Hq' B'→SubH Hq Hq'→rs'.Nodup→(∀ r∈rs',Hq' r=some (.obj (.deferred (some [])))∧Hb r=none) →
   L.drop ki'=(D.drop (i+1)).flatMap (treQ g l dn T sym least f t banned)++M→ki'+((D.drop (i+1)).flatMap (treQ g l dn T sym least f t banned)).length=kN→ACx trX Zl3 (thenA R (trQ K)) ⟨u',rs'.map WL⟩ B':=fun u' rs' Hq' ki' B' hu hI' hs' hnd' hrs' hL' hk'=>by
   have t1':=(hu 1 (by omega) (by omega) (by omega) (by omega) (by omega)).trans t1;have t2':=(hu 2 (by omega) (by omega) (by omega) (by omega) (by omega)).trans t2;have t3':=(hu 3 (by omega) (by omega) (by omega) (by omega) (by omega)).trans t3;have t4':=(hu 4 (by omega) (by omega) (by omega) (by omega) (by omega)).trans t4;have t5':=(hu 5 (by omega) (by omega) (by omega) (by omega) (by omega)).trans t5;have t6':=(hu 6 (by omega) (by omega) (by omega) (by omega) (by omega)).trans t6;have t14':=(hu 14 (by omega) (by omega) (by omega) (by omega) (by omega)).trans t14;have t15':=(hu 15 (by omega) (by omega) (by omega) (by omega) (by omega)).trans t15;have t16':=(hu 16 (by omega) (by omega) (by omega) (by omega) (by omega)).trans t16;delta Zl3 Zm Za;dsimp only [trX];refine YL rfl (fun _ _ _ h=>h) ?_;replace hI':=Hold.mk hI';replace hL':=Hold.mk hL';replace hk':=Hold.mk hk';replace hu:=Hold.mk hu;clear hL hkN hI
   (repeat' (first | (simp only [↓Zt,Zu,Zma, *])))
   exact hR (D.length-(i+1)) _ _ (by omega) ⟨(by simp only [Zv,Zl9,if_false, *]<;>rfl),(by simp only [Zv,Zl9,if_false, *]<;>rfl),(by simp only [Zv,Zl9,if_false, *]<;>rfl),(by simp only [Zv,Zl9,if_false, *]<;>rfl),(by simp only [Zv,Zl9,if_false, *]<;>rfl),(by simp only [Zv,Zl9,if_false, *]<;>rfl),(by simp only [Zv,Zl9,if_false, *]<;>rfl),(by simp only [Zv,Zl9,if_false, *]<;>rfl),i+1,rs',Hq',ki',rfl,by omega,(by simp only [Zv,Zl9,if_true,if_false, *]<;>rfl),rfl,hI'.out,hzq.trans hs',hnd',hrs',hL'.out,hk'.out⟩
  have hnx2:=Hold.mk hnext;clear hnext;have hqm:D[i]∈D:=ZmE hlt;obtain ⟨k0,k1⟩:=hin _ hqm
  have hld:∀ (h:i<D.length),ldV 1 false ((encC intE D).drop ((i:Int).toNat * 1))=some (iV D[i]):=fun h=>by
   rw [Zmw,ZmM,JO h]; rfl
  have hld0:=hld hlt;clear hld;have htrq:=htr D[i] hqm;have hrsS:∀ Hq',SubH Hq Hq'→∀ r∈rs,Hq' r=some (.obj (.deferred (some [])))∧Hb r=none:=fun Hq' h r hr=>⟨h _ _ (hrs r hr).1,(hrs r hr).2⟩
  have q1:=hqs _ _ (hbq _ _ y1);have q2:=hqs _ _ (hbq _ _ y2);have q3:=hqs _ _ (hbq _ _ y3);have q4:=hqs _ _ (hbq _ _ y4);have q5:=hqs _ _ (hbq _ _ y5);have q6:=hqs _ _ (hzq _ _ z6);obtain ⟨⟨rs0,rd0,vd0,hc1,_,_⟩,_⟩:=id hc;have qc:=hqs _ _ (hcz.trans hzq _ _ hc1);have hcH:=(hcz.trans hzq).trans hqs;clear htr;replace hnd:=Hold.mk hnd;replace hrs:=Hold.mk hrs;generalize D[i]=qi at *
  obtain ⟨q,rfl⟩:∃ q:Nat,qi=(q:Int):=⟨qi.toNat,by omega⟩
  have hkl:q<g.length:=by omega
  have hpd:=WG hkl;have hql:(q:Int)<(g.length:Int):=by omega
  have hsv:=Zch g[q] sym least;have hba:=fun H' K'=>inInt (l:=banned) (v:=intsV banned) (x:=(q:Int)) (H:=H') (K:=K') (.inl ⟨_,rfl⟩) (by omega)
  have hpa:=Xa hkl;rw [hpa] at htrq
  have hSq:treQ g l dn T sym least f t banned (q:Int)=if YH g[q] sym least=false∨(q:Int)∈banned then []
   else if XN g[q]=false then (itsG l (hasF g dn) (fun s p f t=>T s p f t []) g[q].items f t).map fun ks=>Tn.mk q 0 ks
   else if openF g dn (headI g[q]).text (headI g[q]).prio (f,t) (banned++[(q:Int)])=false then []
   else (T (headI g[q]).text (headI g[q]).prio f t (banned++[(q:Int)])).map fun x=>Tn.mk q 0 [x]:=by unfold treQ; rw [hpa]
  rw [hSq] at hL hkN;clear hSq;replace hn:=Hold.mk hn;replace hI:=Hold.mk hI;replace hT:=Hold.mk hT;replace hF:=Hold.mk hF;have hR2:=Hold.mk hR;clear hR;cases hse:YH g[q] sym least with
  | false =>
    rw [hse] at hsv;rw [if_pos (.inl hse),ZmO] at hL hkN;replace hL:=Hold.mk hL;replace hkN:=Hold.mk hkN;clear hse htrq hit hpa;generalize g[q]=p at *
    (repeat' (first | (refine Yf mixed (fun _ _ _ _ _ h=>False.elim h) _ (SubH.refl _) ?_) | (simp only [↓Yt,↓Ya,↓Ye,↓JE,↓ZZ,↓Yb,↓Ys,↓ZaJ,↓XF,↓ZY,↓ZF,↓Yk,↓WJ,↓ZD,↓JB,↓ZcU,↓ZG,↓ZH,↓YX,↓ZJ,↓YY,↓ZI,↓ZP,↓ZU,↓Zv,↓ZR,↓ZV,↓Ym,↓YE,↓ZS,↓YR,↓Yh,↓Yy,↓s_un,↓Xn,↓ZA,↓ZN,↓ZK,↓ZL,↓Yj,↓Yl,vcNil,ptrV,boolV,Zmd,Zmg,Zmi,Zml,ite_true,ite_false,Zl9,Zma,ne_eq,not_false_eq_true,true_and,Zme,decide_true,ZmG,Zmw,Yc,Zx,↓Xc,↓Xg,↓WF,↓Xm,AH.get,AH.set_set,setAt,Zmz,ZmJ,Zmp,eq_self,Zmh,Zmo,Zmb,and_self,Yq,Jk,XV,Wc,Zmn,↓Xo,YP,Zmc,WC,Yn,YK,WE,XG,Yo,WD,Yp,YG,Wf,Wg,↓Wy,↓XM,↓ZcY,undef,YU,Yd,YT,Xz,Je,Wb,Zfd,Wv,Xb,ZcS,Zjz, *]) | (refine Zw fun zr zh=>?_; have zg:=zh; (try simp only [AH.set_none] at zg); (try have zn_qc:=AH.ne_of qc zh); (try have zn_qc:=AH.ne_of qc zg.2); (try have zn_qc:=AH.ne_of qc zg.2.2); (try have zn_qc:=AH.ne_of qc zg.2.2.2); (try have zn_qc:=AH.ne_of qc zg.2.2.2.2); (try have zn_q1:=AH.ne_of q1 zh); (try have zn_q1:=AH.ne_of q1 zg.2); (try have zn_q1:=AH.ne_of q1 zg.2.2); (try have zn_q1:=AH.ne_of q1 zg.2.2.2); (try have zn_q1:=AH.ne_of q1 zg.2.2.2.2); (try have zn_q2:=AH.ne_of q2 zh); (try have zn_q2:=AH.ne_of q2 zg.2); (try have zn_q2:=AH.ne_of q2 zg.2.2); (try have zn_q2:=AH.ne_of q2 zg.2.2.2); (try have zn_q2:=AH.ne_of q2 zg.2.2.2.2); (try have zn_q3:=AH.ne_of q3 zh); (try have zn_q3:=AH.ne_of q3 zg.2); (try have zn_q3:=AH.ne_of q3 zg.2.2); (try have zn_q3:=AH.ne_of q3 zg.2.2.2); (try have zn_q3:=AH.ne_of q3 zg.2.2.2.2); (try have zn_q4:=AH.ne_of q4 zh); (try have zn_q4:=AH.ne_of q4 zg.2); (try have zn_q4:=AH.ne_of q4 zg.2.2); (try have zn_q4:=AH.ne_of q4 zg.2.2.2); (try have zn_q4:=AH.ne_of q4 zg.2.2.2.2); (try have zn_q5:=AH.ne_of q5 zh); (try have zn_q5:=AH.ne_of q5 zg.2); (try have zn_q5:=AH.ne_of q5 zg.2.2); (try have zn_q5:=AH.ne_of q5 zg.2.2.2); (try have zn_q5:=AH.ne_of q5 zg.2.2.2.2); (try have zn_q6:=AH.ne_of q6 zh); (try have zn_q6:=AH.ne_of q6 zg.2); (try have zn_q6:=AH.ne_of q6 zg.2.2); (try have zn_q6:=AH.ne_of q6 zg.2.2.2); (try have zn_q6:=AH.ne_of q6 zg.2.2.2.2)) | (exact SubH.refl _) | (refine PureF.use (hsv) ?_) | (refine hvr.index YA (by omega) (by omega) (fun a ha=>?_)) | (refine ha.load Yd (x:=iV q) hld0 ?_) | (with_reducible refine And.intro ?_ ?_)))
    exact hnx2.out _ rs _ _ _ (by intro i h h8 h9 h10 h11; simp only [Zv]; repeat rw [if_neg (by omega)]) (hy.al _ _ _ zr (.cells 3 [iV q] 0) hI.out zh) (SubH.new (hqs.none zh)) hnd.out (hrsS _ (SubH.new (hqs.none zh))) hL.out hkN.out
  | true =>
    rw [hse] at hsv;by_cases hbm:(q:Int)∈banned
    ·rw [decide_eq_true hbm] at hba;rw [if_pos (.inr hbm),ZmO] at hL hkN;replace hL:=Hold.mk hL;replace hkN:=Hold.mk hkN;clear hse htrq hit hpa hbm;generalize g[q]=p at *
     (repeat' (first | (refine hba _ _ ?_) | (refine Yf mixed (fun _ _ _ _ _ h=>False.elim h) _ (SubH.refl _) ?_) | (simp only [↓Yt,↓Ya,↓Ye,↓JE,↓ZZ,↓Yb,↓Ys,↓ZaJ,↓XF,↓ZY,↓ZF,↓Yk,↓YN,↓ZD,↓JB,↓ZcU,↓ZG,↓ZH,↓YX,↓ZJ,↓YY,↓ZI,↓ZP,↓ZU,↓Zv,↓ZR,↓ZV,↓Ym,↓YE,↓ZS,↓YR,↓Yh,↓Yy,↓s_un,↓Xn,↓ZA,↓ZN,↓ZK,↓ZL,↓Yj,↓Yl,vcNil,ptrV,boolV,Zmd,Zmg,Zmi,Zml,ite_true,ite_false,Zl9,Zma,ne_eq,not_false_eq_true,true_and,Zmv,Zme,decide_true,ZmK,Zmw,↓Xc,↓Xg,↓WF,↓Xm,AH.get,AH.set_set,setAt,Zmz,ZmJ,Zmp,eq_self,Zmh,Zmo,Zmb,and_self,Yq,Jk,XV,Wc,Zmn,↓Xo,YP,Zmc,WC,Yn,YK,WE,XG,Yo,WD,Yp,YG,Wf,Wg,↓Wy,↓XM,↓JF,YU,Yd,YT,Xz,Je,Wb,JW,Zfd,Wv,Xb,ZcS,Zjz, *]) | (refine Zw fun zr zh=>?_; have zg:=zh; (try simp only [AH.set_none] at zg); (try have zn_qc:=AH.ne_of qc zh); (try have zn_qc:=AH.ne_of qc zg.2); (try have zn_qc:=AH.ne_of qc zg.2.2); (try have zn_qc:=AH.ne_of qc zg.2.2.2); (try have zn_qc:=AH.ne_of qc zg.2.2.2.2); (try have zn_q1:=AH.ne_of q1 zh); (try have zn_q1:=AH.ne_of q1 zg.2); (try have zn_q1:=AH.ne_of q1 zg.2.2); (try have zn_q1:=AH.ne_of q1 zg.2.2.2); (try have zn_q1:=AH.ne_of q1 zg.2.2.2.2); (try have zn_q2:=AH.ne_of q2 zh); (try have zn_q2:=AH.ne_of q2 zg.2); (try have zn_q2:=AH.ne_of q2 zg.2.2); (try have zn_q2:=AH.ne_of q2 zg.2.2.2); (try have zn_q2:=AH.ne_of q2 zg.2.2.2.2); (try have zn_q3:=AH.ne_of q3 zh); (try have zn_q3:=AH.ne_of q3 zg.2); (try have zn_q3:=AH.ne_of q3 zg.2.2); (try have zn_q3:=AH.ne_of q3 zg.2.2.2); (try have zn_q3:=AH.ne_of q3 zg.2.2.2.2); (try have zn_q4:=AH.ne_of q4 zh); (try have zn_q4:=AH.ne_of q4 zg.2); (try have zn_q4:=AH.ne_of q4 zg.2.2); (try have zn_q4:=AH.ne_of q4 zg.2.2.2); (try have zn_q4:=AH.ne_of q4 zg.2.2.2.2); (try have zn_q5:=AH.ne_of q5 zh); (try have zn_q5:=AH.ne_of q5 zg.2); (try have zn_q5:=AH.ne_of q5 zg.2.2); (try have zn_q5:=AH.ne_of q5 zg.2.2.2); (try have zn_q5:=AH.ne_of q5 zg.2.2.2.2); (try have zn_q6:=AH.ne_of q6 zh); (try have zn_q6:=AH.ne_of q6 zg.2); (try have zn_q6:=AH.ne_of q6 zg.2.2); (try have zn_q6:=AH.ne_of q6 zg.2.2.2); (try have zn_q6:=AH.ne_of q6 zg.2.2.2.2)) | (exact SubH.refl _) | (refine PureF.use (hsv) ?_) | (refine hvr.index YA (by omega) (by omega) (fun a ha=>?_)) | (refine ha.load Yd (x:=iV q) hld0 ?_) | (with_reducible refine And.intro ?_ ?_)))
     exact hnx2.out _ rs _ _ _ (by intro i h h8 h9 h10 h11; simp only [Zv]; repeat rw [if_neg (by omega)]) (hy.al _ _ _ zr (.cells 3 [iV q] 0) hI.out zh) (SubH.new (hqs.none zh)) hnd.out (hrsS _ (SubH.new (hqs.none zh))) hL.out hkN.out
    ·rw [decide_eq_false hbm] at hba;have htrb:=htrq hbm;clear htrq;rw [if_neg (by simp [hse,hbm])] at hL hkN;have hsi:=fun z b (hz:H z=none)=>ZlD (H:=H.set z b) hc hd (hcH.of_set (hcH.none hz)) hkl
     cases hsg:XN g[q] with
     | false =>
       rw [hsg] at hsi;rw [if_pos hsg] at hL hkN;have hits:=hit q hkl (by rw [hpa]; exact hsg);unfold ZaU at hits;rw [hpa,Zm4] at hits;rw [Zm7] at hL
       have hni:∀ z b,H z=none→∀ K':VE→AH→Prop,(∀ Hb' B',Inv (some (ki+(itsG l (hasF g dn) (fun s p f t=>T s p f t []) g[q].items f t).length)) Hb' B'→SubH Hq Hb'→K' (.ret (boolV true)) B')→(∀ Hb' B',Inv none Hb' B'→SubH Hq Hb'→K' (.ret (boolV false)) B') →
        ZO Try.prog 85 [ptrV rc 0,iV q,iV 0,.agg [iV f,iV t],.lit (.slice none 0 0),yV l0] (H.set z b) K':=fun z b hz K' g1 g2=>by
        refine WT (GhL.cons (GhV.refl _ _) (GhL.cons (GhV.refl _ _) (GhL.cons (GhV.refl _ _) (GhL.cons (GhV.refl _ _) (GhL.cons (GhV.nil _) (GhL.cons (GhV.refl _ _) (GhL.nil _))))))) ?_;have hqz:SubH Hq (Hq.set z b):=SubH.new (hqs.none hz);exact hits [] Inv L l0 hy hyo (ZmU _) ki _ (Hq.set z b) (H.set z b) K' hL (hy.al _ _ _ _ _ hI.out hz) (fun Hb' B' h1 h2=>g1 Hb' B' h1 (hqz.trans h2)) (fun Hb' B' h1 h2=>g2 Hb' B' h1 (hqz.trans h2))
       have hdr:L.drop (ki+(itsG l (hasF g dn) (fun s p f t=>T s p f t []) g[q].items f t).length)=(D.drop (i+1)).flatMap (treQ g l dn T sym least f t banned)++M:=by
        rw [← List.drop_drop,hL,List.drop_left' (List.length_map ..)]
       rw [ZmB,List.length_map,← Nat.add_assoc] at hkN;generalize (itsG l (hasF g dn) (fun s p f t=>T s p f t []) g[q].items f t).length=N at *
       replace hL:=Hold.mk hL;replace hdr:=Hold.mk hdr;replace hkN:=Hold.mk hkN;clear hse htrb hit hpa hbm hits hsg;generalize g[q]=p at *
       (repeat' (first | (refine hba _ _ ?_) | (refine (hsi _ _ (by assumption)).use ?_) | (refine hni _ _ (by assumption) _ (fun Hb' B' hB hsb=>?_) (fun Hb' B' hB hsb=>?_)) | (refine Yf mixed (fun _ _ _ _ _ h=>False.elim h) _ (SubH.refl _) ?_) | (simp only [↓Yt,↓Ya,↓Ye,↓JE,↓ZZ,↓Yb,↓Yv,↓Ys,↓ZaJ,↓Xe,↓XF,↓ZY,↓ZF,↓Yk,↓YN,↓ZD,↓JB,↓Xs,↓ZcU,↓ZcV,↓ZG,↓ZH,↓YX,↓ZJ,↓YY,↓ZI,↓ZP,↓ZU,↓Zv,↓ZR,↓ZV,↓Ym,↓YE,↓ZS,↓YR,↓Yh,↓Yy,↓s_un,↓Xn,↓ZA,↓ZN,↓ZK,↓ZL,↓Yj,↓Yl,vcNil,ptrV,boolV,Zmd,Zmg,Zmi,Zml,ite_true,ite_false,Zl9,Zma,ne_eq,not_false_eq_true,true_and,Zmv,Zme,decide_true,ZmK,ZmG,Zmw,↓Xc,↓Xg,↓WF,↓Xm,AH.get,AH.set_set,setAt,Zmz,ZmJ,Zmp,eq_self,Zmh,Zmo,Zmb,and_self,Yq,JG,Jk,XV,Wc,Zmn,↓Xo,YP,Zmc,WC,Yn,YK,WE,XG,Yo,WD,Yp,YG,Wf,Wg,↓Wy,↓XM,↓JF,YU,Yd,YT,Xz,Je,Wb,JW,ZbE,ZeW,Zfd,Wv,Xb,ZcS,Zjz,ZjA,ZlZ, *]) | (refine Zw fun zr zh=>?_; have zg:=zh; (try simp only [AH.set_none] at zg); (try have zn_qc:=AH.ne_of qc zh); (try have zn_qc:=AH.ne_of qc zg.2); (try have zn_qc:=AH.ne_of qc zg.2.2); (try have zn_qc:=AH.ne_of qc zg.2.2.2); (try have zn_qc:=AH.ne_of qc zg.2.2.2.2); (try have zn_q1:=AH.ne_of q1 zh); (try have zn_q1:=AH.ne_of q1 zg.2); (try have zn_q1:=AH.ne_of q1 zg.2.2); (try have zn_q1:=AH.ne_of q1 zg.2.2.2); (try have zn_q1:=AH.ne_of q1 zg.2.2.2.2); (try have zn_q2:=AH.ne_of q2 zh); (try have zn_q2:=AH.ne_of q2 zg.2); (try have zn_q2:=AH.ne_of q2 zg.2.2); (try have zn_q2:=AH.ne_of q2 zg.2.2.2); (try have zn_q2:=AH.ne_of q2 zg.2.2.2.2); (try have zn_q3:=AH.ne_of q3 zh); (try have zn_q3:=AH.ne_of q3 zg.2); (try have zn_q3:=AH.ne_of q3 zg.2.2); (try have zn_q3:=AH.ne_of q3 zg.2.2.2); (try have zn_q3:=AH.ne_of q3 zg.2.2.2.2); (try have zn_q4:=AH.ne_of q4 zh); (try have zn_q4:=AH.ne_of q4 zg.2); (try have zn_q4:=AH.ne_of q4 zg.2.2); (try have zn_q4:=AH.ne_of q4 zg.2.2.2); (try have zn_q4:=AH.ne_of q4 zg.2.2.2.2); (try have zn_q5:=AH.ne_of q5 zh); (try have zn_q5:=AH.ne_of q5 zg.2); (try have zn_q5:=AH.ne_of q5 zg.2.2); (try have zn_q5:=AH.ne_of q5 zg.2.2.2); (try have zn_q5:=AH.ne_of q5 zg.2.2.2.2); (try have zn_q6:=AH.ne_of q6 zh); (try have zn_q6:=AH.ne_of q6 zg.2); (try have zn_q6:=AH.ne_of q6 zg.2.2); (try have zn_q6:=AH.ne_of q6 zg.2.2.2); (try have zn_q6:=AH.ne_of q6 zg.2.2.2.2)) | (exact SubH.refl _) | (refine PureF.use (hsv) ?_) | (refine hvr.index YA (by omega) (by omega) (fun a ha=>?_)) | (refine ha.load Yd (x:=iV q) hld0 ?_) | (with_reducible refine And.intro ?_ ?_)))
       ·exact hnx2.out _ rs _ _ _ (by intro i h h8 h9 h10 h11; simp only [Zv]; repeat rw [if_neg (by omega)]) hB hsb hnd.out (hrsS _ hsb) hdr.out hkN.out
       ·exact Zc5 hy hcb hF.out rs _ _ hB (hbq.trans hsb) hnd.out (hrsS _ hsb)
     | true =>
       rw [hsg] at hsi;rw [if_neg (by simp [hsg])] at hL hkN;obtain ⟨i1,hit1,hhd,h3k⟩:=Zb2 hsg;rw [hhd] at hL hkN htrb;have hi0:(0:Int)<(g[q].items.length:Int):=by rw [hit1]; simp
       have hti:(encC itE g[q].items).drop ((0:Int).toNat * 3)=iV i1.kind::sV i1.text::iV i1.prio::[]:=by rw [hit1]; rfl
       have hcli:=clipInt banned.length (encC intE banned);have hop:=fun bv H' (h:SubH Hq H')=>open_ok (H:=H') (bv:=bv) (hy.fch hc hI.out).chart hd h (sym:=i1.text) (least:=i1.prio) (s:=(f,t)) (banned:=banned++[(q:Int)]) ⟨by show f≤_; omega,by show t≤_; omega⟩ (by rw [ZmB]; simp; omega)
       clear hse hit hpa hbm hsg hit1 hhd;generalize g[q]=p at *
       replace hL:=Hold.mk hL;replace hkN:=Hold.mk hkN;replace htrb:=Hold.mk htrb
       (repeat' (first | (refine hba _ _ ?_) | (refine (hsi _ _ (by assumption)).use ?_) | (refine Yf mixed (fun _ _ _ _ _ h=>False.elim h) _ (SubH.refl _) ?_) | (simp only [↓Yt,↓Ya,↓Ye,↓JE,↓ZZ,↓Yb,↓Yv,↓Ys,↓XF,↓ZY,↓ZF,↓Yk,↓YN,↓ZD,↓ZG,↓ZH,↓YX,↓ZJ,↓YY,↓ZI,↓ZP,↓ZU,↓Zv,↓ZR,↓ZV,↓Ym,↓YE,↓ZS,↓YR,↓Yh,↓Yy,↓s_un,↓Xn,↓YC,↓ZA,↓ZN,↓ZX,↓ZK,↓ZL,↓WX,↓Yj,↓Yl,vcNil,ptrV,boolV,Zmd,Zmg,Zmi,Zml,ZmF,ite_true,ite_false,Zl9,Zma,Zmj,Zmu,ne_eq,not_false_eq_true,true_and,Zmv,Zme,decide_true,ZmK,Zmw,ZmM,↓Xc,↓Xg,↓WF,↓Xm,AH.get,AH.set_set,fillV,setAt,Zmz,ZmJ,Zmp,eq_self,Zmh,Zmo,Zmb,and_self,Yq,Wt,Jk,XV,Wc,WM,YB,Zmn,Zmy,↓Xo,YP,Zmc,WC,Yn,Zcg,YK,WE,XG,Yo,WD,Yp,YG,Wf,Wg,↓Wy,↓XM,↓JF,Int.reduceLE,ZB,ZmP,ZmZ,ZmT,ZmX,ZB,YU,Xh,Yd,YT,Xz,Je,Wb,JW,Wi,JD,Zfd,WU,Wv,Xp,YA,Xb,Xu,ZcS,Zjz,ZjA,en_86, *]) | (refine And.intro (SubH.new (by assumption)) ?_) | (refine Zw fun zr zh=>?_; have zg:=zh; (try simp only [AH.set_none] at zg); (try have zn_qc:=AH.ne_of qc zh); (try have zn_qc:=AH.ne_of qc zg.2); (try have zn_qc:=AH.ne_of qc zg.2.2); (try have zn_qc:=AH.ne_of qc zg.2.2.2); (try have zn_qc:=AH.ne_of qc zg.2.2.2.2); (try have zn_q1:=AH.ne_of q1 zh); (try have zn_q1:=AH.ne_of q1 zg.2); (try have zn_q1:=AH.ne_of q1 zg.2.2); (try have zn_q1:=AH.ne_of q1 zg.2.2.2); (try have zn_q1:=AH.ne_of q1 zg.2.2.2.2); (try have zn_q2:=AH.ne_of q2 zh); (try have zn_q2:=AH.ne_of q2 zg.2); (try have zn_q2:=AH.ne_of q2 zg.2.2); (try have zn_q2:=AH.ne_of q2 zg.2.2.2); (try have zn_q2:=AH.ne_of q2 zg.2.2.2.2); (try have zn_q3:=AH.ne_of q3 zh); (try have zn_q3:=AH.ne_of q3 zg.2); (try have zn_q3:=AH.ne_of q3 zg.2.2); (try have zn_q3:=AH.ne_of q3 zg.2.2.2); (try have zn_q3:=AH.ne_of q3 zg.2.2.2.2); (try have zn_q4:=AH.ne_of q4 zh); (try have zn_q4:=AH.ne_of q4 zg.2); (try have zn_q4:=AH.ne_of q4 zg.2.2); (try have zn_q4:=AH.ne_of q4 zg.2.2.2); (try have zn_q4:=AH.ne_of q4 zg.2.2.2.2); (try have zn_q5:=AH.ne_of q5 zh); (try have zn_q5:=AH.ne_of q5 zg.2); (try have zn_q5:=AH.ne_of q5 zg.2.2); (try have zn_q5:=AH.ne_of q5 zg.2.2.2); (try have zn_q5:=AH.ne_of q5 zg.2.2.2.2); (try have zn_q6:=AH.ne_of q6 zh); (try have zn_q6:=AH.ne_of q6 zg.2); (try have zn_q6:=AH.ne_of q6 zg.2.2); (try have zn_q6:=AH.ne_of q6 zg.2.2.2); (try have zn_q6:=AH.ne_of q6 zg.2.2.2.2)) | (exact SubH.refl _) | (refine PureF.use (hsv) ?_) | (refine PureF.use (hcli) ?_) | (refine hvr.index YA (by omega) (by omega) (fun a ha=>?_)) | (refine ha.load Yd (x:=iV q) hld0 ?_) | (with_reducible refine And.intro ?_ ?_)))
       rename_i r8 n8 n8' w1 w2 w3 w4 w5 w6 w7;refine WP YA Wv rfl (by omega) (by rw [ZdI]; omega) (m:=1) (news:=[iV q]) rfl rfl (by omega) (by omega) (fun h=>by omega) (fun _ v' H2 ho=>?_);have hI9:=hy.al _ _ _ zr (.cells 64 [iV 3,sV i1.text,iV i1.prio] 0) (hy.al _ _ _ r8 (.cells 3 [iV q] 0) hI.out n8) zh;have e8:SubH Hq ((Hq.set r8 (.cells 3 [iV q] 0)).set zr (.cells 64 [iV 3,sV i1.text,iV i1.prio] 0)):=(SubH.new (hqs.none n8)).of_set (hqs.none zg.2);have e9:((Hq.set r8 (.cells 3 [iV q] 0)).set zr (.cells 64 [iV 3,sV i1.text,iV i1.prio] 0)) zr=some (.cells 64 [iV 3,sV i1.text,iV i1.prio] 0):=AH.set_same _ _ _;have e10:((Hq.set r8 (.cells 3 [iV q] 0)).set zr (.cells 64 [iV 3,sV i1.text,iV i1.prio] 0)) r8=some (.cells 3 [iV q] 0):=by rw [AH.set_ne _ _ zg.1.2]; exact AH.set_same _ _ _
       obtain ⟨H1,hH1⟩:∃ H1,H1=(H.set r8 (.cells 3 [iV q] 0)).set zr (.cells 64 [iV 3,sV i1.text,iV i1.prio] 0):=⟨_,rfl⟩
       obtain ⟨Hw,hHw⟩:∃ Hw,Hw=(Hq.set r8 (.cells 3 [iV q] 0)).set zr (.cells 64 [iV 3,sV i1.text,iV i1.prio] 0):=⟨_,rfl⟩
       rw [← hH1,← hHw] at hI9;rw [← hHw] at e8 e9 e10
       change OwnX ((H.set r8 (.cells 3 [iV q] 0)).set zr (.cells 64 [iV 3,sV i1.text,iV i1.prio] 0)) _ _ _ _ _ _ at ho
       rw [← hH1] at ho;clear hH1 hHw n8 n8' w1 w2 w3 w4 w5 w6 w7 zh zg zn_qc zn_q1 zn_q2 zn_q3 zn_q4 zn_q5 zn_q6;have hw1:=hy.sub hI9;have htr0:=fun (K':VE→AH→Prop)=>Zjf (rc:=rc) (K:=K') (sym:=i1.text) (least:=i1.prio) (f:=f) (t:=t) (banned:=banned++[(q:Int)]) hy hI9
       have hbe:intsV (banned++[(q:Int)])=.slice false (banned.length+1) (encC intE banned++[iV q]):=by
        show VV.slice false (banned++[(q:Int)]).length _=_;rw [ZmB,YS]; rfl
       have htr1:∀ K':VE→AH→Prop,(∀ (Hx Bx:AH) (r1 r2 r3 r4 r5:Nat),Inv (some ki) Hx Bx→SubH Hw Hx→TrC rc i1.text i1.prio f t (banned++[(q:Int)]) r1 r2 r3 r4 r5 Hx→K' (.ret (trV r1 r2 r3 r4 r5)) Bx)→ZO Try.prog 44 [ptrV rc 0,sV i1.text,iV i1.prio,.agg [iV f,iV t],v'] H2 K':=fun K' g1=>by
        refine WT (GhL.cons (GhV.refl _ _) (GhL.cons (GhV.refl _ _) (GhL.cons (GhV.refl _ _) (GhL.cons (GhV.refl _ _) (GhL.cons (GhV.own ho) (GhL.nil _)))))) ?_;have h:=htr0 K' g1;rw [hbe] at h;exact h
       have h12:=ho.sub;have hsl:=ho.read;have hlq:(encC intE banned++[iV q])=encC intE (banned++[(q:Int)]):=by rw [YS]; rfl
       rw [hlq] at hsl;have hllq:banned.length+1=(banned++[(q:Int)]).length:=by rw [ZmB]; rfl
       rw [hllq] at hsl
       have hI9':∃ Hw',Inv (some ki) Hw' H2∧SubH Hq Hw':=by
        rcases ho with ⟨_,h,_⟩ | ⟨ga,c,sp,_,hg1,rfl,_⟩
        ·omega
        ·exact ⟨_,hy.al _ _ _ ga _ hI9 hg1,e8.of_set (e8.none (hw1.none hg1))⟩
       have hvc:v'.cells=[v']∧v'.one=true:=by
        rcases ho with ⟨_,h,_⟩ | ⟨ga,c,sp,rfl,_⟩
        ·omega
        ·exact ⟨rfl,rfl⟩
       have hop2:=hop v' H2 ((e8.trans hw1).trans h12) hsl hvc.1 hvc.2;have p1:=h12 _ _ (hw1 _ _ (e8 _ _ (hbq _ _ y1)));have p2:=h12 _ _ (hw1 _ _ (e8 _ _ (hbq _ _ y2)));have p9:=h12 _ _ (hw1 _ _ e9);clear htr0 hbe ho hsl hlq hllq hvc hop q1 q2 q3 q4 q5 q6 qc hba hsi hvr;cases hoe:openF g dn i1.text i1.prio (f,t) (banned++[(q:Int)]) with
       | false =>
         rw [hoe] at hop2
         (repeat' (first | (refine hop2.use ?_) | (simp only [↓Ya,↓Ye,↓ZZ,↓Yb,↓ZaJ,↓ZY,↓ZF,↓ZD,↓JB,↓ZcU,↓ZG,↓ZH,↓ZJ,↓ZI,↓ZU,↓Zv,↓ZR,↓ZE,↓ZS,↓s_un,↓ZA,↓ZK,↓ZL,↓Yj,ptrV,boolV,Zmd,Zmg,ite_true,ite_false,Zl9,Zma,ne_eq,not_false_eq_true,true_and,Zme,ZmG,eq_self,Zmh,Zmb,Yq,JG,Yn,YK,Yo,Yp,YG,XQ,XZ,Yd,YT,Wb,ZbE,en_87, *])))
         obtain ⟨Hw',hIw,hsw⟩:=hI9';exact hnx2.out _ rs Hw' _ _ (by intro i h h8 h9 h10 h11; simp only [Zv]; repeat rw [if_neg (by omega)]) hIw hsw hnd.out (hrsS _ hsw) (by have h:=hL.out; rw [if_pos hoe,ZmO] at h; exact h) (by have h:=hkN.out; rw [if_pos hoe,ZmO] at h; exact h)
       | true =>
         rw [hoe] at hop2
         have hL2:L.drop ki=(T i1.text i1.prio f t (banned++[(q:Int)])).map (fun x=>Tn.mk q 0 [x])++((D.drop (i+1)).flatMap (treQ g l dn T sym least f t banned)++M):=by
          have h:=hL.out; rw [if_neg (by rw [hoe]; simp),Zm7] at h; exact h
         have hk2:ki+(T i1.text i1.prio f t (banned++[(q:Int)])).length+((D.drop (i+1)).flatMap (treQ g l dn T sym least f t banned)).length=kN:=by
          have h:=hkN.out; rw [if_neg (by rw [hoe]; simp),ZmB,List.length_map] at h; omega
         replace hL2:=Hold.mk hL2;replace hk2:=Hold.mk hk2
         (repeat' (first | (refine hop2.use ?_) | (refine htr1 _ (fun Hy By s1 s2 s3 s4 s5 hIy hsy hty=>?_)) | (simp only [↓Yt,↓Ya,↓Ye,↓ZZ,↓Yv,↓Ys,↓ZhI,↓ZY,↓ZF,↓ZD,↓ZG,↓ZH,↓ZJ,↓ZI,↓ZU,↓Zv,↓ZR,↓ZE,↓ZS,↓s_un,↓ZA,↓ZK,↓ZL,↓Yj,ptrV,boolV,Zmd,Zmg,ite_true,ite_false,Zl9,Zma,ne_eq,not_false_eq_true,true_and,Zme,ZmK,eq_self,Zmh,Zmb,Yq,JG,Yn,YK,Yo,Yp,YG,XQ,XZ,Yd,YT,Wb,ZbE,en_87,en_44, *])))
         obtain ⟨X,hX⟩:∃ X,X=T i1.text i1.prio f t (banned++[(q:Int)]):=⟨_,rfl⟩
         have hL2:=hL2.out;have hk2:=hk2.out;have htrc:=htrb.out;rw [← hX] at hL2 hk2 htrc
         have hend:L.drop (ki+X.length)=(D.drop (i+1)).flatMap (treQ g l dn T sym least f t banned)++M:=by
          rw [← List.drop_drop,hL2,List.drop_left' (List.length_map ..)]
         refine ZhZ (fun u' H'=>(∀ i,i<17→¬ i=8→¬ i=9→¬ i=10→¬ i=11→u' i=u i)∧u' 8=ptrV r8 0∧u' 77=trV s1 s2 s3 s4 s5∧Inv (some ki) Hy H') ⟨(by intro i h h8 h9 h10 h11; simp only [Zv]; repeat rw [if_neg (by omega)]),(by simp only [Zv,Zl9,if_true,if_false, *]<;>rfl),(by simp only [Zv,Zl9,if_true,if_false, *]<;>rfl),hIy⟩ ?_;rintro u' By ⟨hu,u8,u77,hIy⟩;have u6:=(hu 6 (by omega) (by omega) (by omega) (by omega) (by omega)).trans t6;replace hu:=Hold.mk hu;clear hL hkN htr1 hX hI9 hI9' hw1 p1 p2 p9 h12 hop2 hqs hI t1 t2 t3 t4 t5 t6 t14 t15 t16 hcH hn;refine Zcf rfl (.inl u77) (by kernel_rfl) ?_;intro r l1 fn ca cb hca hcb' hr hl1 hne hfn;have hsB:=hy.sub hIy;have hyr:Hy r=none:=hsB.none hr;have hyl1:Hy l1=none:=hsB.none hl1;obtain ⟨Hk,hHk⟩:∃ Hk,Hk=Hy.set r (.obj (.deferred (some []))):=⟨_,rfl⟩
         have hIk:=hy.al _ _ _ r (.obj (.deferred (some []))) hIy hr;rw [← hHk] at hIk;have hyk:SubH Hy Hk:=by rw [hHk]; exact SubH.new hyr
         have hkl1:Hk l1=none:=by rw [hHk,AH.set_ne _ _ hne]; exact hyl1
         have hck:SubH Hc Hk:=hy.low hIk;have hqk:SubH Hq Hk:=(e8.trans hsy).trans hyk;have hzk:=hzq.trans hqk;have hfk:FCh g l dn rc rk Hk:=hy.fch hc hIk
         have hrn:(r::rs).Nodup:=List.nodup_cons.2 ⟨(fun h=>by
          have:=(e8.trans hsy) _ _ (hrs.out r h).1
          rw [hyr] at this; cases this),hnd.out⟩
         have hrr:∀ Hb',SubH Hk Hb'→∀ r'∈r::rs,Hb' r'=some (.obj (.deferred (some [])))∧Hb r'=none:=fun Hb' hsb r' hr'=>by
          rcases List.mem_cons.1 hr' with rfl | hr'
          ·exact ⟨hsb _ _ (by rw [hHk]; exact AH.set_same _ _ _),(hbq.trans (e8.trans hsy)).none hyr⟩
          ·exact hrsS _ (hqk.trans hsb) r' hr'
         refine htrc Hk hfk (VI Inv Hk l1 fn 87 u' #[78] ca cb r fun j'=>ki+j') X l1 (VI.yi hy hck) ?_ 0 [] Hk _ _ s1 s2 s3 s4 s5 (by simp) ?_ (hyk _ _ hty.1) (hyk _ _ hty.2.1) (hyk _ _ hty.2.2.1) (hyk _ _ hty.2.2.2.1) (hyk _ _ hty.2.2.2.2) ?_ ?_
         ·rintro j' hj' Hk' B hv K' k1 k2;have hv0:=hv;obtain ⟨b1,b2,b3,b4⟩:=hv;refine ZaD (l:=l1) (pe:=none) (fn:=fn) (N:=87) (t:=u') (ps:=#[78]) («asg»:=ca) (bd:=cb) (ds:=r) b1 rfl (by simp) hfn ?_;refine ZeY hca ?_
          have hdrop:L.drop (ki+j')=Tn.mk q 0 [X[j']]::((X.drop (j'+1)).map (fun x=>Tn.mk q 0 [x])++((D.drop (i+1)).flatMap (treQ g l dn T sym least f t banned)++M)):=by
           rw [← List.drop_drop,hL2,List.drop_append_of_le_length (by rw [List.length_map]; omega),← List.map_drop,ZmY hj',Zmd]; rfl
          generalize X[j']=x at *
          replace hv0:=Hold.mk hv0;replace hdrop:=Hold.mk hdrop;replace hL2:=Hold.mk hL2;replace hend:=Hold.mk hend;replace k1:=Hold.mk k1;replace k2:=Hold.mk k2
          (repeat' (first | (simp only [↓Zt,Zu,ptrV,Zl9,Zma,Zmj,setAt,Zap,ZbD,XE, *]) | (refine YL rfl (fun _ _ _ h=>h) ?_) | (refine Zw fun zr zh=>?_; have zg:=zh; (try simp only [AH.set_none] at zg); (try have zn_b1:=AH.ne_of b1 zh); (try have zn_b1:=AH.ne_of b1 zg.2); (try have zn_b1:=AH.ne_of b1 zg.2.2); (try have zn_b1:=AH.ne_of b1 zg.2.2.2); (try have zn_b1:=AH.ne_of b1 zg.2.2.2.2)) | (with_reducible refine And.intro ?_ ?_)))
          ·exact ⟨none,rfl⟩
          ·intro pe;refine ZeY hcb' ?_;obtain ⟨o1,o2,o3,o4⟩:=VI.enter hy hv0.out zh (.cells 44 [iV x.prod,iV x.tok,encS tnE x.kids] 0) (.loop .busy pe fn 87 u' #[78] ca cb r);have o5:((Hk'.set zr (.cells 44 [iV x.prod,iV x.tok,encS tnE x.kids] 0)).set l1 (.loop .busy pe fn 87 u' #[78] ca cb r)) l1=some (.loop .busy pe fn 87 u' #[78] ca cb r):=AH.set_same _ _ _;show ACx _ _ _ _ ((B.set zr (.cells 44 [iV x.prod,iV x.tok,encS tnE x.kids] 0)).set l1 (.loop .busy pe fn 87 u' #[78] ca cb r));obtain ⟨Bz,hBz⟩:∃ Bz,Bz=(B.set zr (.cells 44 [iV x.prod,iV x.tok,encS tnE x.kids] 0)).set l1 (.loop .busy pe fn 87 u' #[78] ca cb r):=⟨_,rfl⟩
           obtain ⟨Hz2,hHz2⟩:∃ Hz2,Hz2=(Hk'.set zr (.cells 44 [iV x.prod,iV x.tok,encS tnE x.kids] 0)).set l1 (.loop .busy pe fn 87 u' #[78] ca cb r):=⟨_,rfl⟩
           rw [← hBz];rw [← hBz,← hHz2] at o1;rw [← hHz2] at o2 o3 o5;clear hBz hHz2 zh zg zn_b1;have hsz:=hy.sub o1;have hz2:SubH Hz Hz2:=(hzk.trans b3).trans o2;have q6:=hsz _ _ (hz2 _ _ z6);have q8:=hsz _ _ (o2 _ _ (b3 _ _ (hyk _ _ (hsy _ _ e10))));have q16:=hsz _ _ o3;obtain ⟨hkL,hLk⟩:=Zk4 hdrop.out;have hyk2:=hyo (ki+j') hkL Hz2 Bz o1;rw [hLk] at hyk2
           have hcall:∀ ex K2,(∀ B',Inv (some (ki+j'+1)) Hz2 B'→B' l1=some (.loop .busy pe fn 87 u' #[78] ca cb r)→K2 (.ret (boolV true)) B')→(∀ B',Inv none Hz2 B'→B' l1=some (.loop .busy pe fn 87 u' #[78] ca cb r)→K2 (.ret (boolV false)) B')→ACall Try.prog (some l1) (yV l0) [.agg [iV q,iV 0,.slice ex 1 [iV x.prod,iV x.tok,encS tnE x.kids]]] Bz K2:=fun ex K2 g1 g2=>by
            refine ZiI (GhL.cons (GhV.agg (GhL.cons (GhV.refl _ _) (GhL.cons (GhV.refl _ _) (GhL.cons (GhV.imm _) (GhL.nil _))))) (GhL.nil _)) ?_;have h:=acall_ro (ro:=some l1) (hyk2 K2 (fun B' h=>g1 B' h (hy.sub h _ _ o5)) (fun B' h=>g2 B' h (hy.sub h _ _ o5)))
            have e:tnV (Tn.mk q 0 [x])=.agg [iV q,iV 0,.slice false 1 [iV x.prod,iV x.tok,encS tnE x.kids]]:=by
             show VV.agg [iV q,iV 0,.slice false 1 (encC tnE [x])]=_;rw [Yg,Zbd,ZmF,ZcA]
            rw [e] at h;exact h
           have hyl:∀ B xs (K':VE→AH→Prop),WS Try.prog (some l1) (.lit (.func (.yield l0) #[] #[])) xs B K'=ACall Try.prog (some l1) (yV l0) xs B K':=fun _ _ _=>rfl
           clear hnx2 hv0 hdrop hL2 hend hyk2 hLk htrc;replace o1:=Hold.mk o1
           (repeat' (first | (refine hcall _ _ (fun B' hB yl1=>?_) (fun B' hB yl1=>?_)) | (simp only [↓Yt,↓Ya,↓Ye,↓ZZ,↓Yb,↓Yv,↓Ys,↓Xe,↓ZY,↓ZF,↓ZD,↓Jg,↓ZcV,↓ZG,↓ZH,↓ZJ,↓ZI,↓Zv,↓ZS,↓s_un,↓Wp,↓YC,↓ZK,↓Yj,ptrV,boolV,Zmd,Zmg,Zmi,Zml,ZmF,ite_true,ite_false,Zl9,Zma,Zmj,Zm8,Zmu,true_and,Zme,ZmK,ZmG,ZT,fillV,setAt,eq_self,Zmh,Zmb,and_self,ZmC,ZmD,Yq,Wt,XV,YB,XR,Zmn,Zmy,Zmc,Yn,Yo,Yp,ZB,ZmP,ZmZ,ZmT,ZmX,ZT,ZB,Yd,ZeW,Zdm,Zke,XE,Xt, *]) | (refine YL rfl (fun _ _ _ h=>h) ?_)))
           ·exact ⟨⟨pe,yl1⟩,k1.out _ ⟨AH.set_same _ _ _,b2,b3,VI.back (Hy:=Hk) hy hck b2 b3 o2 o5 (SubH.refl _) hB (.loop .ready none fn 87 u' #[78] ca cb r)⟩⟩
           ·exact ⟨⟨pe,yl1⟩,k2.out _ ⟨AH.set_same _ _ _,b2,b3,VI.back (Hy:=Hk) hy hck b2 b3 o2 o5 (SubH.refl _) hB (.loop .done (some .ret) fn 87 u' #[78] ca cb r)⟩⟩
         ·refine ⟨AH.set_same _ _ _,hkl1,SubH.refl _,?_⟩;rw [AH.del_set _ _ _ (by rw [AH.set_ne _ _ hne]; exact hl1)];simpa using hIk
         ·rintro Hb' B' v ⟨b1,b2,b3,b4⟩ hsb;refine ⟨.ready,none,b1,by simp,?_⟩;show ACx trX Zl3 _ _ _;refine hnx2.out u' (r::rs) Hb' _ _ hu.out b4 (hqk.trans hsb) hrn (hrr _ hsb) ?_ ?_
          ·show L.drop (ki+(0+X.length))=_;rw [Zmh]; exact hend
          ·show ki+(0+X.length)+_=_;rw [Zmh]; exact hk2
         ·rintro Hb' B' v ⟨b1,b2,b3,b4⟩ hsb;refine ⟨.done,some .ret,b1,by simp,?_⟩;show WB Try.prog [] K u' ((r::rs).map WL) .returning (B'.del l1);exact Zc5 hy hcb hF.out (r::rs) Hb' _ b4 ((hbz.trans hzk).trans hsb) hrn (hrr _ hsb)
 ·have hil:¬ (i:Int)<(D.length:Int):=by omega
  rw [show D.drop i=[] from Znb (by omega)] at hL hkN;have hk0:ki=kN:=hkN;rw [hk0] at hI;replace hT:=Hold.mk hT;replace hI:=Hold.mk hI;clear hL hkN hn hvr
  (repeat' (first | (simp only [↓Zt,Zu,Zma, *])))
  exact Zc5 hy hcb hT.out rs _ _ hI.out hbq hnd hrs
theorem trees_ok (hd:DOk g l dn):∀ (n:Nat) (sym:ByteArray) (least:Int) (f t:Nat) (banned:List Int),f≤t→t≤l.length→banned.length+(metF (dn (f,t)) banned).length≤12→(t-f) * 13+(metF (dn (f,t)) banned).length<n →
 ∀ Hc,FCh g l dn rc rk Hc→Zd1 g l dn rc rk Hc (tresG g l dn n sym least f t banned) sym least f t banned:=by
 intro n
 induction n with
 | zero=>intro _ _ _ _ _ _ _ _ h; omega
 | succ n ih =>
   intro sym least f t banned hft htl hb hn Hc hc Inv L l0 hy hyo k M Hb B K r1 r2 r3 r4 r5 hL hI x1 x2 x3 x4 x5 hT hF;rw [tresG] at hL hT;refine ZlM hc hd hy (by omega) htl ⟨x1,x2,x3,x4,x5⟩ hI hL fun A Hz H r6 v hv hbz z6 hlp=>?_
   refine Zj3 hc hd hy (by omega) htl (by omega) (fun q hq hsg=>?_) (fun q hq hnb Hc' hc'=>?_) hyo (hy.low hI) ⟨x1,x2,x3,x4,x5⟩ hv hbz z6 hlp hT hF
   ·refine items_ok (W:=t-f) hc hd hq hsg (fun sym least f' to h1 h2 h3 Hc' hc'=>ih sym least f' to [] (by omega) h2 ?_ ?_ Hc' hc') _ 0 f t (Zmc _) (ZmU _) hft htl (fun _=>Zmc _) (fun h=>by omega)
    ·have:=ZaT (dn (f',to)) []
     have:=hd.len (f',to)
     simp; omega
    ·have:=ZaT (dn (f',to)) []
     have:=hd.len (f',to)
     omega
   ·have h1:=ZlG hq hnb;refine ih _ _ f t (banned++[q]) hft htl ?_ (by omega) Hc' hc';rw [ZmB];show banned.length+1+_≤12;omega
end
end Go.PV.Ytfkkmdelpddojaa
end
section
open Bool renaming and_eq_true→ZmA
open Nat renaming le_refl→Zmc
set_option maxRecDepth 20000
set_option maxHeartbeats 4000000
namespace Go.PV.Ytfkkmdelpddojaa
open Go Go.Proofs
theorem Zjg {g:List Pd} {l:List Tk} {by_:ByteArray→List Int} (hG:GOk g l.length) (hby:inBy g by_):∀ (m i:Nat) (C:Ch),Rd g l.length C i 0→i+m=l.length+1→∃ j,i≤j∧j≤l.length+1∧Rd g l.length (readR g l by_ m i C) j 0∧(j=l.length+1∨((readR g l by_ m i C).sets j).st=[])
 | 0,i,C,h,hm=>⟨i,Zmc _,by omega,h,.inl (by omega)⟩
 | m+1,i,C,h,hm=>by
   rw [readR];split
   ·rename_i he;exact ⟨i,Zmc _,by omega,h,.inr he⟩
   ·obtain ⟨j,h1,h2,h3,h4⟩:=Zjg hG hby m (i+1) _ (ZfE hG hby (by omega) 20001 0 C h (by omega)) (by omega);exact ⟨j,by omega,h2,h3,h4⟩
theorem readF_rd {g:List Pd} {l:List Tk} (hG:GOk g l.length) (sym:ByteArray) (least:Int):∃ j,j≤l.length+1∧Rd g l.length (readF g sym least l) j 0∧(j=l.length+1∨((readF g sym least l).sets j).st=[]):=by
 obtain ⟨j,_,h2,h3,h4⟩:=Zjg hG (Zdr g) (l.length+1) 0 _ (ZdG (Zdr g) sym least) (by omega);exact ⟨j,h2,h3,h4⟩
theorem GOk.of {g:List Pd} {n:Nat} (hc:Jl g=0) (hl:g.length≤12) (hn:n≤20):GOk g n∧∀ p∈g,∀ i∈p.items,1≤i.kind∧i.kind≤3:=by
 unfold Jl at hc;split at hc
 ·rename_i h;have hp:∀ p∈g,pdOk p=true:=fun p hp=>List.all_eq_true.1 h.2 p hp
  have hq:∀ p∈g,(p.left.size:Int)≤100∧1≤(p.items.length:Int)∧(p.items.length:Int)≤30∧p.items.all itOk=true:=fun p h=>by
   have h:=hp p h;unfold pdOk at h;simp only [ZmA,decide_eq_true_eq] at h;exact ⟨h.1.1.1.1.1.2,h.1.1.2,h.1.2,h.2⟩
  have hi:∀ p∈g,∀ i∈p.items,(i.text.size:Int)≤100∧1≤i.kind∧i.kind≤3:=fun p h i hi=>by
   have h:=List.all_eq_true.1 (hq p h).2.2.2 i hi;unfold itOk at h;simp only [ZmA,decide_eq_true_eq] at h;exact ⟨h.1.1.2,h.1.1.1.1.1,h.1.1.1.1.2⟩
  refine ⟨⟨hl,fun p h=>?_,fun p h=>⟨?_,fun i h'=>?_⟩,fun p h=>?_,hn⟩,fun p h i h'=>(hi p h i h').2⟩
  ·have:=(hq p h).2.2.1; omega
  ·have:=(hq p h).1; omega
  ·have:=(hi p h i h').1; omega
  ·have:=(hq p h).2.1; omega
 ·cases hc
theorem DOk.of {g:List Pd} {l:List Tk} (hG:GOk g l.length) (hk:∀ p∈g,∀ i∈p.items,1≤i.kind∧i.kind≤3) (sym:ByteArray) (least:Int):DOk g l (readF g sym least l).sorted.done:=by
 obtain ⟨j,h1,h2,_⟩:=readF_rd hG sym least;refine ⟨hG,fun s=>?_,fun s q hq=>?_,hk⟩
 ·show (srtI _).length≤12;unfold srtI;rw [List.length_mergeSort];exact Zk0 hG h2 h1 s
 ·have hq:q∈(readF g sym least l).done s:=by
   have h:q∈srtI ((readF g sym least l).done s):=hq;unfold srtI at h;exact List.mem_mergeSort.1 h
  obtain ⟨a,e⟩:=s;by_cases he:e≤l.length
  ·exact (ZhV h2 a e he).2 q hq
  ·rw [h2.dn a e,Zi7 h1 (by omega)] at hq;cases hq
def parX (g:List Pd) (sym:ByteArray) (least:Int) (l:List Tk):List Tn:=tresG g l (readF g sym least l).sorted.done (l.length * 13+13) sym least 0 l.length []
def YQ (g:List Pd) (sym:ByteArray) (least:Int) (l:List Tk) (most:Int):List Tn × Int :=
 if Wj g least l.length=0 then (if most<1∨1000<most then ([],4) else if parX g sym least l=[] then ([],171) else ((parX g sym least l).take most.toNat,0)) else ([],Wj g least l.length)
end Go.PV.Ytfkkmdelpddojaa
end
section
open List renaming replicate→ZmH,getD_eq_getElem?_getD→Zne,mem_cons_of_mem→ZmN,mem_cons_self→ZmR,getElem_mem→ZmE,getElem?_eq_none→ZmS
open Nat renaming lt_or_ge→ZmI,zero_le→ZmU
set_option maxRecDepth 20000
set_option maxHeartbeats 4000000
namespace Go.PV.Ytfkkmdelpddojaa
open Go Go.Proofs
abbrev Ls:=List (List St)
def atL (L:Ls) (i:Nat):List St:=L.getD i []
def addL (L:Ls) (i:Nat) (x:St):Ls:=if x∈atL L i then L else L.set i (atL L i++[x])
def predL (g:List Pd) (by_:ByteArray→List Int) (i:Nat) (sym:ByteArray) (least:Int) (L:Ls):Ls:=(by_ sym).foldl (fun L k=>if least≤(pdAt g k).prio then addL L i ⟨k.toNat,0,i⟩ else L) L
def pastL (L:Ls) (i k j:Nat):List St:=if j<i then atL L j else if j=i then (atL L j).take k else []
def Zkx (g:List Pd) (x:St) (i k:Nat) (L:Ls):Ls:=(ZcK g (pastL L i k x.start) (pdAt g x.prod).left).foldl (fun L w=>if (itemF g w).1.prio≤(pdAt g x.prod).prio then addL L i ⟨w.prod,w.dot+1,w.start⟩ else L) L
def stepL (g:List Pd) (l:List Tk) (by_:ByteArray→List Int) (i k:Nat) (L:Ls) (x:St):Ls:=match Xf g x with
 | none=>Zkx g x i k L
 | some it=>if it.kind=3 then predL g by_ i it.text it.prio L else match l[i]? with
   | some t=>if takeF it t=true then addL L (i+1) ⟨x.prod,x.dot+1,x.start⟩ else L
   | none=>L
def setL (g:List Pd) (l:List Tk) (by_:ByteArray→List Int) (i:Nat):Nat→Nat→Ls→Ls
 | 0,_,L=>L
 | f+1,k,L=>match (atL L i)[k]? with
   | some x=>setL g l by_ i f (k+1) (stepL g l by_ i k L x)
   | none=>L
def readL (g:List Pd) (l:List Tk) (by_:ByteArray→List Int):Nat→Nat→Ls→Nat × Ls
 | 0,i,L=>(i,L)
 | m+1,i,L=>if atL L i=[] then (i,L) else readL g l by_ m (i+1) (setL g l by_ i 20001 0 L)
def ZbI (g:List Pd) (sym:ByteArray) (least:Int) (l:List Tk):Nat × Ls:=readL g l (byF g) (l.length+1) 0 (predL g (byF g) 0 sym least (ZmH (l.length+1) []))
structure CL (n:Nat) (C:Ch) (L:Ls):Prop where
 len:L.length=n+1
 st:∀ i,i≤n→(C.sets i).st=atL L i
theorem atL_set {L:Ls} {i:Nat} (hi:i<L.length) (v:List St) (j:Nat):atL (L.set i v) j=if j=i then v else atL L j:=by
 unfold atL;rw [Zne,List.getElem?_set,Zne];by_cases e:j=i
 ·subst e; rw [if_pos rfl,if_pos rfl,if_pos hi]; rfl
 ·rw [if_neg (fun h=>e h.symm),if_neg e]
theorem CL.add {n:Nat} {C:Ch} {L:Ls} (h:CL n C L) {i:Nat} (hi:i≤n) (x:St):CL n (C.add i x) (addL L i x):=by
 unfold addL;have hs:=h.st i hi;by_cases e:x∈atL L i
 ·rw [if_pos e];unfold Ch.add;rw [if_pos (by rw [hs]; exact e)];exact h
 ·rw [if_neg e];refine ⟨by rw [List.length_set]; exact h.len,fun j hj=>?_⟩;rw [Zil,hs,atL_set (by rw [h.len]; omega)];by_cases e2:j=i
  ·subst e2;rw [if_pos ⟨rfl,e⟩,if_pos rfl,hs]
  ·rw [if_neg (fun h=>e2 h.1),if_neg e2,h.st j hj]
theorem CL.fold {n:Nat} {α:Type} {f:Ch→α→Ch} {f':Ls→α→Ls}:∀ {l:List α} {C:Ch} {L:Ls},(∀ C L,∀ a∈l,CL n C L→CL n (f C a) (f' L a))→CL n C L→CL n (l.foldl f C) (l.foldl f' L)
 | [],_,_,_,h=>h
 | a::l,C,L,hf,h=>CL.fold (l:=l) (fun C L b hb=>hf C L b (ZmN _ hb)) (hf C L a (ZmR ..) h)
theorem CL.pred {n:Nat} {g:List Pd} {by_:ByteArray→List Int} {C:Ch} {L:Ls} {i:Nat} (hi:i≤n) (sym:ByteArray) (least:Int) (h:CL n C L):CL n (predF g by_ i sym least C) (predL g by_ i sym least L):=by
 refine CL.fold (fun C L k _ h=>?_) h;unfold predK;split
 ·exact h.add hi _
 ·exact h
theorem CL.past {n:Nat} {C:Ch} {L:Ls} (h:CL n C L) (i k:Nat) {j:Nat} (hj:j≤n):prS C i k j=pastL L i k j:=by
 unfold prS pastL;rw [h.st j hj]
theorem CL.wait {n:Nat} {C:Ch} {L:Ls} (h:CL n C L) (i:Nat) (s:ByteArray) (x:St):CL n (C.wait i s x) L:=⟨h.len,fun j hj=>by
 rw [← h.st j hj];unfold Ch.wait upS;by_cases e:j=i
 ·subst e; simp
 ·simp [e]⟩
theorem CL.step {g:List Pd} {l:List Tk} {by_:ByteArray→List Int} {C:Ch} {L:Ls} {i k:Nat} {x:St} (hr:Rd g l.length C i k) (h:CL l.length C L) (hi:i≤l.length) (hx:(C.sets i).st[k]?=some x):CL l.length (stepR g l by_ i C x) (stepL g l by_ i k L x):=by
 obtain ⟨hk,hxe⟩:=List.getElem?_eq_some_iff.1 hx;obtain ⟨a1,a2,a3⟩:=hr.gd.ok i hi x (by rw [← hxe]; exact ZmE hk);unfold stepR stepL;cases he:Xf g x with
 | none =>
   show CL l.length (complF g x i C) (Zkx g x i k L);unfold complF Zkx;rw [hr.wt _ _ a3,h.past i k a3];refine CL.fold (fun C L w _ h=>?_) (show CL l.length (C.fin (x.start,i) x.prod) L from ⟨h.len,h.st⟩);unfold complK;split
   ·exact h.add hi _
   ·exact h
 | some it =>
   dsimp only;by_cases h3:it.kind=3
   ·rw [if_pos h3,if_pos h3];exact (h.wait i it.text x).pred hi _ _
   ·rw [if_neg h3,if_neg h3];cases ht:l[i]? with
    | none=>exact h
    | some t =>
      have hil:i<l.length:=by
       rcases ZmI i l.length with h | h
       ·exact h
       ·rw [ZmS h] at ht; cases ht
      dsimp only;split
      ·exact h.add (by omega) _
      ·exact h
theorem CL.set {g:List Pd} {l:List Tk} {by_:ByteArray→List Int} (hby:inBy g by_) {i:Nat} (hi:i≤l.length):∀ (f k:Nat) (C:Ch) (L:Ls),Rd g l.length C i k→CL l.length C L→CL l.length (setR g l by_ i f k C) (setL g l by_ i f k L)
 | 0,_,_,_,_,h=>h
 | f+1,k,C,L,hr,h=>by
   unfold setR setL;rw [← h.st i hi];cases hx:(C.sets i).st[k]? with
   | some x=>exact CL.set hby hi f (k+1) _ _ (hr.step hby hi hx) (h.step hr hi hx)
   | none=>exact h
theorem CL.read {g:List Pd} {l:List Tk} {by_:ByteArray→List Int} (hG:GOk g l.length) (hby:inBy g by_):∀ (m i:Nat) (C:Ch) (L:Ls),i+m=l.length+1→Rd g l.length C i 0→CL l.length C L→CL l.length (readR g l by_ m i C) (readL g l by_ m i L).2∧Rd g l.length (readR g l by_ m i C) (readL g l by_ m i L).1 0∧(readL g l by_ m i L).1≤l.length+1
 | 0,i,C,L,hm,hr,h=>⟨h,hr,by show i≤_; omega⟩
 | m+1,i,C,L,hm,hr,h=>by
   unfold readR readL;rw [h.st i (by omega)];split
   ·exact ⟨h,hr,by show i≤_; omega⟩
   ·exact CL.read hG hby m (i+1) _ _ (by omega) (ZfE hG hby (by omega) 20001 0 C hr (by omega)) (CL.set hby (by omega) 20001 0 C L hr h)
theorem CL.init (n:Nat):CL n C0 (ZmH (n+1) []):=⟨List.length_replicate,fun i hi=>by
 unfold atL;rw [Zne,List.getElem?_replicate,if_pos (by omega)]; rfl⟩
theorem ZlN {g:List Pd} {l:List Tk} (hG:GOk g l.length) (sym:ByteArray) (least:Int):CL l.length (readF g sym least l) (ZbI g sym least l).2∧Rd g l.length (readF g sym least l) (ZbI g sym least l).1 0∧(ZbI g sym least l).1≤l.length+1 :=
 CL.read hG (Zdr g) (l.length+1) 0 _ _ (by omega) (ZdG (Zdr g) sym least) ((CL.init _).pred (ZmU _) _ _)
def insI (x:Int):List Int→List Int
 | []=>[x]
 | y::l=>if x≤y then x::y::l else y::insI x l
def insS:List Int→List Int
 | []=>[]
 | x::l=>insI x (insS l)
theorem Zeo (x:Int):∀ l,(insI x l).Perm (x::l)
 | []=>.refl _
 | y::l=>by
   unfold insI;split
   ·exact .refl _
   ·exact ((Zeo x l).cons y).trans (.swap x y l)
theorem ZeE (x:Int):∀ {l:List Int},l.Pairwise (·≤·)→(insI x l).Pairwise (·≤·)
 | [],_=>by simp [insI]
 | y::l,h=>by
   have h':=List.pairwise_cons.1 h;unfold insI;split
   ·rename_i hxy;refine List.pairwise_cons.2 ⟨fun z hz=>?_,h⟩;rcases List.mem_cons.1 hz with rfl | hz
    ·exact hxy
    ·have:=h'.1 z hz; omega
   ·rename_i hxy;refine List.pairwise_cons.2 ⟨fun z hz=>?_,ZeE x h'.2⟩;rcases List.mem_cons.1 ((Zeo x l).mem_iff.1 hz) with rfl | hz
    ·omega
    ·exact h'.1 z hz
theorem Zk6:∀ l,insS l=srtI l:=fun l=>by
 have hp:∀ l,(insS l).Perm l:=fun l=>by
  induction l with
  | nil=>exact .refl _
  | cons x l ih=>exact (Zeo x _).trans (ih.cons x)
 have hs:∀ l,(insS l).Pairwise (·≤·):=fun l=>by
  induction l with
  | nil=>exact .nil
  | cons x l ih=>exact ZeE x ih
 exact ZhU (hp l) (hs l)
def dnL (g:List Pd) (R:Nat × Ls):Sp→List Int:=fun s=>insS (if s.2<R.1 then ZcL g (atL R.2 s.2) s.1 else [])
theorem dnL_ok {g:List Pd} {l:List Tk} (hG:GOk g l.length) (sym:ByteArray) (least:Int):(readF g sym least l).sorted.done=dnL g (ZbI g sym least l):=by
 obtain ⟨h1,h2,h3⟩:=ZlN hG sym least
 funext s
 obtain ⟨a,e⟩:=s;show srtI _=insS _;rw [Zk6,h2.dn a e];unfold prS
 congr 1
 by_cases he:e<(ZbI g sym least l).1
 ·rw [if_pos he,if_pos he,h1.st e (by omega)]
 ·rw [if_neg he,if_neg he]
  split<;>rfl
end Go.PV.Ytfkkmdelpddojaa
end
section
set_option maxRecDepth 20000
set_option maxHeartbeats 4000000
namespace Go.PV.Ytfkkmdelpddojaa
open Go Go.Proofs
abbrev bE:ByteArray:={ data:=#[69] }
abbrev bP:ByteArray:={ data:=#[43] }
abbrev bN:ByteArray:={ data:=#[78,85,77] }
abbrev bpl:ByteArray:={ data:=#[112,108,117,115] }
def sumG (r:Int):List Pd:=[⟨bE,60,bpl,[⟨3,bE,60⟩,⟨1,bP,0⟩,⟨3,bE,r⟩]⟩,⟨bE,1000,noNm,[⟨2,bN,0⟩]⟩]
def sumT:List Tk:=[⟨bN,{ data:=#[49] }⟩,⟨noNm,bP⟩,⟨bN,{ data:=#[50] }⟩,⟨noNm,bP⟩,⟨bN,{ data:=#[51] }⟩]
def byS (g:List Pd) (s:ByteArray):List Int:=(insS (JL g (g.length+1) [])).filter fun k=>decide ((pdAt g k).left=s)
theorem byS_ok (g:List Pd):byF g=byS g:=by
 funext s
 unfold byF byK prodF byS;rw [Zk6]
def stsOf (L:List (List (Nat × Nat × Nat))):Ls:=L.map fun l=>l.map fun s=>⟨s.1,s.2.1,s.2.2⟩
theorem chart61:ZbI (sumG 61) bE 0 sumT=(6,stsOf [[(0,0,0),(1,0,0)],[(1,1,0),(0,1,0)],[(0,2,0),(1,0,2)],[(1,1,2),(0,3,0),(0,1,0)],[(0,2,0),(1,0,4)],[(1,1,4),(0,3,0),(0,1,0)]]):=by
 unfold ZbI;rw [byS_ok]
 kernel_rfl
theorem chart60:ZbI (sumG 60) bE 0 sumT=(6,stsOf [[(0,0,0),(1,0,0)],[(1,1,0),(0,1,0)],[(0,2,0),(0,0,2),(1,0,2)],[(1,1,2),(0,3,0),(0,1,2),(0,1,0)],[(0,2,2),(0,2,0),(0,0,4),(1,0,4)],[(1,1,4),(0,3,2),(0,3,0),(0,1,4),(0,1,2),(0,1,0)]]):=by
 unfold ZbI;rw [byS_ok]
 kernel_rfl
theorem Zky (r:Int) (h:r=60∨r=61):GOk (sumG r) sumT.length:=by
 have hc:Jl (sumG r)=0:=by rcases h with rfl | rfl<;>kernel_rfl
 exact (GOk.of hc (by show 2≤12; omega) (by show 5≤20; omega)).1
abbrev tN (k:Int):Tn:=.mk 1 0 [.mk (-1) k []]
theorem par61:parX (sumG 61) bE 0 sumT=[.mk 0 0 [.mk 0 0 [tN 0,tN 2],tN 4]]:=by
 unfold parX;rw [dnL_ok (Zky 61 (.inr rfl)),chart61]
 kernel_rfl
theorem par60:parX (sumG 60) bE 0 sumT=[.mk 0 0 [tN 0,.mk 0 0 [tN 2,tN 4]],.mk 0 0 [.mk 0 0 [tN 0,tN 2],tN 4]]:=by
 unfold parX;rw [dnL_ok (Zky 60 (.inl rfl)),chart60]
 kernel_rfl
theorem parse61:YQ (sumG 61) bE 0 sumT 10=([.mk 0 0 [.mk 0 0 [tN 0,tN 2],tN 4]],0):=by
 have ha:Wj (sumG 61) 0 sumT.length=0:=by kernel_rfl
 unfold YQ;rw [if_pos ha,if_neg (by omega),par61];rfl
theorem parse60:YQ (sumG 60) bE 0 sumT 10=([.mk 0 0 [tN 0,.mk 0 0 [tN 2,tN 4]],.mk 0 0 [.mk 0 0 [tN 0,tN 2],tN 4]],0):=by
 have ha:Wj (sumG 60) 0 sumT.length=0:=by kernel_rfl
 unfold YQ;rw [if_pos ha,if_neg (by omega),par60];rfl
end Go.PV.Ytfkkmdelpddojaa
end
section
set_option maxRecDepth 20000
set_option maxHeartbeats 4000000
namespace Go.PV.Ytfkkmdelpddojaa
open Go Go.Proofs
section
variable {g:List Pd} {l:List Tk} {dn:Sp→List Int} {rk:Nat} {Hc:AH}
theorem Zjh {H H':AH} (h:SubH H H') (z:Nat):SubH (H.del z) (H'.del z):=fun i b hi=>by
 rw [AH.del_get] at hi ⊢;split at hi
 ·cases hi
 ·rename_i e; rw [if_neg e]; exact h _ _ hi
theorem Kt.al {Hb B:AH} (h:Kt g l dn rk Hb B) {z:Nat} (hz:B z=none) (b:Blk):Kt g l dn rk (Hb.set z b) (B.set z b)∧¬ rk=z:=by
 obtain ⟨hs,m,hm,hk⟩:=h;have hne:¬ rk=z:=fun e=>by subst e; rw [hz] at hm; cases hm
 exact ⟨⟨hs.set _ _,m,(AH.set_ne _ _ hne).trans hm,hk⟩,hne⟩
theorem Kt.dl {Hb B:AH} (h:Kt g l dn rk Hb B) {z:Nat} (hz:¬ rk=z):Kt g l dn rk (Hb.del z) (B.del z):=by
 obtain ⟨hs,m,hm,hk⟩:=h;exact ⟨Zjh hs z,m,(AH.del_ne _ hz).trans hm,hk⟩
theorem Kt.upp {Hb B B':AH} (h:Kt g l dn rk Hb B) (ho:Hb rk=none) (hk:Kt g l dn rk (B.del rk) B'):Kt g l dn rk Hb B':=hk.weak (Wh h.1 ho)
def K0 (g:List Pd) (l:List Tk) (dn:Sp→List Int) (rk:Nat) (Hc:AH) (_:Option Nat) (Hb B:AH):Prop:=Kt g l dn rk Hb B∧SubH Hc Hb∧Hb rk=none
theorem K0.yi:Yi g l dn rk Hc (K0 g l dn rk Hc):=by
 refine ⟨fun _ _ _ h=>h,fun k Hb B z b h hz=>?_,fun k Hb B z b h hz hz0=>?_,fun k Hb Hb' B h h1 h2=>?_,fun k Hb B B' h hk=>?_⟩
 ·obtain ⟨h1,h2⟩:=h.1.al hz b;exact ⟨h1,h.2.1.of_set (h.2.1.none (h.1.1.none hz)),(AH.set_ne _ _ h2).trans h.2.2⟩
 ·have hne:¬ rk=z:=fun e=>by subst e; rw [h.2.2] at hz; cases hz
  exact ⟨h.1.dl hne,Wh h.2.1 hz0,(AH.del_ne _ hne).trans h.2.2⟩
 ·exact ⟨h.1.weak h2,h1,h2.none h.2.2⟩
 ·exact ⟨h.1.upp h.2.2 hk,h.2⟩
structure PIx (g:List Pd) (l:List Tk) (dn:Sp→List Int) (rk:Nat) (Hc:AH) (X:List Tn) (r14 l1:Nat) (bl:Blk) (k:Nat) (Hk B:AH):Prop where
 kt:Kt g l dn rk Hk B
 low:SubH Hc Hk
 off:Hk rk=none
 out:∃ v Hb,OwnX Hb B 44 3 v k (encC tnE (X.take k))∧SubH Hk Hb∧Hb r14=some (.cells 26 [v] 0)∧Hb l1=some bl
 n14:Hk r14=none
 nl:Hk l1=none
theorem PIx.al {X:List Tn} {r14 l1 k:Nat} {bl:Blk} {Hk B:AH} (h:PIx g l dn rk Hc X r14 l1 bl k Hk B) {z:Nat} (hz:B z=none) (b:Blk):PIx g l dn rk Hc X r14 l1 bl k (Hk.set z b) (B.set z b):=by
 obtain ⟨h1,h2,h3,⟨v,Hb,ho,hs,a1,a2⟩,h5,h6⟩:=h;obtain ⟨k1,k2⟩:=h1.al hz b;have hbz:=ho.sub.none hz;have e1:=AH.ne_of a1 hbz;have e2:=AH.ne_of a2 hbz;exact ⟨k1,h2.of_set (h2.none (h1.1.none hz)),(AH.set_ne _ _ k2).trans h3,⟨v,Hb.set z b,ho.alloc hz b,hs.set _ _,(AH.set_ne _ _ e1.1).trans a1,(AH.set_ne _ _ e2.1).trans a2⟩,(AH.set_ne _ _ e1.1).trans h5,(AH.set_ne _ _ e2.1).trans h6⟩
theorem PIx.dl {X:List Tn} {r14 l1 k:Nat} {bl:Blk} {Hk B:AH} (h:PIx g l dn rk Hc X r14 l1 bl k Hk B) {z:Nat} {b:Blk} (hz:Hk z=some b) (hz0:Hc z=none):PIx g l dn rk Hc X r14 l1 bl k (Hk.del z) (B.del z):=by
 obtain ⟨h1,h2,h3,⟨v,Hb,ho,hs,a1,a2⟩,h5,h6⟩:=h;have d1:=(AH.ne_of hz h3).2;have d2:=(AH.ne_of hz h5).2;have d3:=(AH.ne_of hz h6).2;exact ⟨h1.dl d1,Wh h2 hz0,(AH.del_ne _ d1).trans h3,⟨v,Hb.del z,ho.del (hs _ _ hz),Zjh hs z,(AH.del_ne _ d2).trans a1,(AH.del_ne _ d3).trans a2⟩,(AH.del_ne _ d2).trans h5,(AH.del_ne _ d3).trans h6⟩
theorem PIx.wk {X:List Tn} {r14 l1 k:Nat} {bl:Blk} {Hk Hk' B:AH} (h:PIx g l dn rk Hc X r14 l1 bl k Hk B) (g1:SubH Hc Hk') (g2:SubH Hk' Hk):PIx g l dn rk Hc X r14 l1 bl k Hk' B:=by
 obtain ⟨h1,h2,h3,⟨v,Hb,ho,hs,a1,a2⟩,h5,h6⟩:=h;exact ⟨h1.weak g2,g1,g2.none h3,⟨v,Hb,ho,g2.trans hs,a1,a2⟩,g2.none h5,g2.none h6⟩
theorem PIx.upp {X:List Tn} {r14 l1 k:Nat} {bl:Blk} (hbl:∀ ks m,¬ bl=.map ks m) {Hk B B':AH} (h:PIx g l dn rk Hc X r14 l1 bl k Hk B) (hk:Kt g l dn rk (B.del rk) B'):PIx g l dn rk Hc X r14 l1 bl k Hk B':=by
 obtain ⟨h1,h2,h3,⟨v,Hb,ho,hs,a1,a2⟩,h5,h6⟩:=h;have hkt:=h1.upp h3 hk;obtain ⟨_,m,hm,_⟩:=h1;have b1:=ho.sub _ _ a1;have b2:=ho.sub _ _ a2;have n1:¬ r14=rk:=fun e=>by subst e; rw [hm] at b1; cases b1
 have n2:¬ l1=rk:=fun e=>by subst e; rw [hm] at b2; exact hbl _ _ (Option.some.inj b2).symm
 have c1:=hk.1 _ _ ((AH.del_ne _ n1).trans b1);have c2:=hk.1 _ _ ((AH.del_ne _ n2).trans b2);refine ⟨hkt,h2,h3,?_,h5,h6⟩;rcases ho with ⟨e1,e2,e3,rfl⟩ | ⟨ga,c,sp,e1,h0,rfl,e4⟩
 ·exact ⟨v,B',.inl ⟨e1,e2,e3,rfl⟩,hkt.1,c1,c2⟩
 ·have n3:¬ ga=rk:=fun e=>by subst e; rw [AH.set_same] at hm; cases hm
  have c3:=hk.1 _ _ ((AH.del_ne _ n3).trans (AH.set_same _ _ _))
  have e5:B'=(B'.del ga).set ga (.cells 44 (encC tnE (X.take k)) sp):=by
   rw [AH.set_del,AH.set_id c3]
  exact ⟨v,B'.del ga,.inr ⟨ga,c,sp,e1,AH.del_same _ _,e5,e4⟩,Wh hkt.1 (hs.none h0),(AH.del_ne _ (AH.ne_of a1 h0).1).trans c1,(AH.del_ne _ (AH.ne_of a2 h0).1).trans c2⟩
def PI (g:List Pd) (l:List Tk) (dn:Sp→List Int) (rk:Nat) (Hc:AH) (X:List Tn) (mo r14 l1:Nat) (b1 b2:Blk):Option Nat→AH→AH→Prop
 | some k,Hk,B=>k<mo∧PIx g l dn rk Hc X r14 l1 b1 k Hk B
 | none,Hk,B=>PIx g l dn rk Hc X r14 l1 b2 mo Hk B
theorem PI.yi {X:List Tn} {mo r14 l1:Nat} {b1 b2:Blk} (h1:∀ ks m,¬ b1=.map ks m) (h2:∀ ks m,¬ b2=.map ks m):Yi g l dn rk Hc (PI g l dn rk Hc X mo r14 l1 b1 b2):=by
 refine ⟨fun k Hb B h=>?_,fun k Hb B z b h hz=>?_,fun k Hb B z b h hz hz0=>?_,fun k Hb Hb' B h g1 g2=>?_,fun k Hb B B' h hk=>?_⟩<;>cases k
 ·exact ⟨h.kt,h.low,h.off⟩
 ·exact ⟨h.2.kt,h.2.low,h.2.off⟩
 ·exact PIx.al h hz b
 ·exact ⟨h.1,h.2.al hz b⟩
 ·exact PIx.dl h hz hz0
 ·exact ⟨h.1,h.2.dl hz hz0⟩
 ·exact PIx.wk h g1 g2
 ·exact ⟨h.1,h.2.wk g1 g2⟩
 ·exact PIx.upp h2 h hk
 ·exact ⟨h.1,h.2.upp h1 hk⟩
end
end Go.PV.Ytfkkmdelpddojaa
end
section
open Bool renaming false_eq_true→Zmv,not_true→ZmK
open List renaming drop→Zmb,map_cons→Zmd,map_nil→Zmg,length_cons→Zmi,length_nil→Zml,getD_cons_zero→Zmq,getD_cons_succ→Zmr,getD_nil→Zms,getElem?_cons_zero→ZmC,getElem?_cons_succ→ZmD,set_cons_zero→Zmn,set_cons_succ→Zmy,take_succ_eq_append_getElem→Znf,append_nil→ZmF,replicate_succ→ZmP,replicate_zero→ZmZ,flatten_cons→ZmT,flatten_nil→ZmX,take_of_length_le→ZmQ
open Nat renaming reduceEqDiff→Zl9,reduceLT→Zma,reduceAdd→Zmj,reduceLeDiff→Zmu,succ_ne_self→Zme,zero_add→Zmh,le_refl→Zmc,reduceMul→Zm8
open Option renaming map_some→Zm1
set_option maxRecDepth 20000
set_option maxHeartbeats 4000000
namespace Go.PV.Ytfkkmdelpddojaa
open Go Go.Proofs
theorem Zk7 {cx:Cx} {Hi:Nat→AH} {K:AF→AH→Prop} {Q:APost} {A:AF} {H:AH} (nd nd':List Nat) (d d':Option Tmp) (op op':Op) (p p':GPlan):vcPl2 cx Hi (.two nd ⟨d,op,none⟩ p nd' ⟨d',op',none⟩ p') K Q A H=(vcDo cx ⟨d,op,none⟩ (one2K cx Hi nd p K Q H) Q A H∧vcDo cx ⟨d',op',none⟩ (one2K cx Hi nd' p' K Q H) Q A H):=rfl
theorem Zji {α:Type} {z1 z2 z3 a b c:α}:∀ (cs:List α) (n:Nat),cs.length=n→((((cs++[z1,z2,z3]).set n a).set (n+1) b).set (n+1+1) c)=cs++[a,b,c]
 | [],n,h=>by subst h; rfl
 | x::cs,0,h=>by simp at h
 | x::cs,n+1,h=>by
   exact congrArg (x::·) (Zji cs n (by simpa using h))
abbrev parV (R:List Tn × Int):VV:=.tuple [tnsV R.1,iV R.2]
theorem Zf2 (g:List Pd) (sym:ByteArray) (least:Int) (l:List Tk) (most:Int) (hgl:g.length≤1099511627776) (hgi:∀ p∈g,p.items.length≤1099511627776) (hsz:sym.size≤maxLen) (hsm:Wj g least l.length=0→g.length≤12∧l.length≤20) :
 PureF Try.prog 10 [pdsV g,sV sym,iV least,tksV l,iV most] (parV (YQ g sym least l most)):=by
 refine ZaK.pure fun H=>?_
 have hak:=asked_ok g least l hgl hgi;refine Ju fd10 (by simp) ?_;refine Zbg (Q:=retN [.tmp 10,.tmp 11] (fun e H'=>∃ y,e=.ret y∧GhV H' y H (parV (YQ g sym least l most)))) ?_ Zkw
 have hfin:∀ (t:Nat→VV) (e:Int) (H':AH),SubH H H'→t 10=.lit (.slice none 0 0)→t 11=iV e→YQ g sym least l most=([],e)→retN [.tmp 10,.tmp 11] (fun e H'=>∃ y,e=.ret y∧GhV H' y H (parV (YQ g sym least l most))) .ret ⟨t,[]⟩ H':=fun t e H' hs h1 h2 h3=>by
  rw [h3];refine ⟨.tuple [.lit (.slice none 0 0),iV e],H',.tuple [.lit (.slice none 0 0),iV e],by simp only [resV,Zal,Zak,h1,h2,Option.bind_some,Zm1]; rfl,GhV.refl _ _,_,rfl,?_⟩;exact (GhV.tuple (GhL.cons (GhV.nil _) (GhL.cons (GhV.refl _ _) (GhL.nil _)))).trans (GhV.forget hs _)
 delta c10 Zj Zq Zf Za Zo Zr Zc Zm Zb Zp Zi Ze Zg Zl Zk Zn;refine YL rfl (fun _ _ _ h=>h) ?_;by_cases ha:Wj g least l.length=0
 ·rw [ha] at hak;obtain ⟨h12,h20⟩:=hsm ha
  have hcg:Jl g=0:=by
   unfold Wj at ha;split at ha
   ·assumption
   ·cases ha
  obtain ⟨hG,hkd⟩:=GOk.of hcg h12 h20;by_cases hm:most<1∨1000<most
  ·have hpf:YQ g sym least l most=([],4):=by unfold YQ; rw [if_pos ha,if_pos hm]
   replace hfin:=Hold.mk hfin;replace hpf:=Hold.mk hpf;clear ha hcg hG hkd hsm;by_cases hm1:most<1
   ·clear hm
    (repeat' (first | (simp only [↓Zt,Zu,ptrV,Zl9,Zma,reduceCtorEq,Yc,Zx,Zmb,undef,Yd,ZlX, *]) | (refine Zw fun zr zh=>?_; have zg:=zh; (try simp only [AH.set_none] at zg)) | (refine PureF.use (hak) ?_)))
    exact hfin.out _ 4 _ (SubH.new zh) (by simp only [Zv,Zl9,if_true,if_false, *]<;>rfl) (by simp only [Zv,Zl9,if_true,if_false, *]<;>rfl) hpf.out
   ·have hm2:1000<most:=by omega
    clear hm
    (repeat' (first | (simp only [↓Zt,Zu,ptrV,Zl9,Zma,reduceCtorEq,Zx,Zmb,undef,Yd,ZlX, *]) | (refine Zw fun zr zh=>?_; have zg:=zh; (try simp only [AH.set_none] at zg)) | (refine PureF.use (hak) ?_)))
    exact hfin.out _ 4 _ (SubH.new zh) (by simp only [Zv,Zl9,if_true,if_false, *]<;>rfl) (by simp only [Zv,Zl9,if_true,if_false, *]<;>rfl) hpf.out
  ·have hm1:¬ most<1:=fun h=>hm (.inl h)
   have hm2:¬ 1000<most:=fun h=>hm (.inr h)
   have hpf:YQ g sym least l most=if parX g sym least l=[] then ([],171) else ((parX g sym least l).take most.toNat,0):=by unfold YQ; rw [if_pos ha,if_neg hm]
   rw [hpf] at hfin ⊢;have hD:=DOk.of hG hkd sym least;have hrd:=fun H K=>read_ok (H:=H) (K:=K) (sym:=sym) (least:=least) hG hsz
   replace hfin:=Hold.mk hfin;clear ha hcg hkd hsm hm hpf hgi hgl
   (repeat' (first | (refine hrd _ _ (fun H2 p hR=>?_)) | (simp only [↓Yt,↓Ya,↓Ye,↓JE,↓ZZ,↓Yv,↓ZY,↓ZF,↓Yk,↓YN,↓ZD,↓ZG,↓ZH,↓ZJ,↓ZI,↓ZP,↓ZU,↓Zv,↓ZR,↓ZE,↓ZV,↓Ym,↓YE,↓ZS,↓Yy,↓Xn,↓Wx,↓Wp,↓ZX,↓ZK,↓ZL,↓Xk,↓Yl,↓ZaX,↓XJ,ptrV,intV,Zmd,Zmg,Zmi,Zml,Zmq,Zmr,Zms,ite_true,ite_false,Zl9,Zma,Zmj,Zmu,ne_eq,not_false_eq_true,true_and,Zmv,Zme,decide_true,decide_false,ZmK,reduceCtorEq,Zx,AH.get,ZT,fillV,setAt,eq_self,Zmh,Zmb,and_self,ZmC,ZmD,Yq,XV,Zmn,Zmy,↓Xo,YP,↓Wz,Zmc,Yn,XA,Yo,Yp,undef,ZT,Yd,zeroT_26,ZaI,Zam,ZlX,en_43,en_44, *]) | (refine Zw fun zr zh=>?_; have zg:=zh; (try simp only [AH.set_none] at zg)) | (refine PureF.use (hak) ?_)))
   rename_i r9 n9 g9;obtain ⟨Hb,hsb,hfc,hkt⟩:=hR.frozen;obtain ⟨X,hX⟩:∃ X,X=parX g sym least l:=⟨_,rfl⟩
   rw [← hX] at hfin ⊢;unfold parX at hX;generalize (readF g sym least l).sorted.done=dn at *
   have htro:=trees_ok (rc:=p.rc) (rk:=p.rk) hD (l.length * 13+13) sym least 0 l.length [] (by omega) (Zmc _) (by have:=ZaT (dn (0,l.length)) []; have:=hD.len (0,l.length); simp; omega) (by have:=ZaT (dn (0,l.length)) []; have:=hD.len (0,l.length); omega);rw [← hX] at htro;clear hX hR hrd hG;have hI1:=K0.yi.al none Hb H2 zr (.cells 26 [.lit (.slice none 0 0)] 0) ⟨hkt,SubH.refl _,hfc.off⟩ zh;have hb14:Hb zr=none:=hkt.1.none zh;have x9:=hsb _ _ (AH.set_same H r9 (.cells 3 [iV most] 0));have hsH:SubH H Hb:=(SubH.new n9).trans hsb;clear hkt hsb zh zg n9 g9;generalize zr=r14 at *
   refine Zhd K0.yi hI1 (fun Hx Bx s1 s2 s3 s4 s5 hIx hsx hty=>?_)
   (repeat' (first | (simp only [↓Zt,↓ZhI, *])))
   refine ZhZ (fun u' H'=>u' 9=ptrV r9 0∧u' 14=ptrV r14 0∧u' 40=trV s1 s2 s3 s4 s5∧K0 g l dn p.rk Hb none Hx H') ⟨(by simp only [Zv,Zl9,if_true,if_false, *]<;>rfl),(by simp only [Zv,Zl9,if_true,if_false, *]<;>rfl),(by simp only [Zv,Zl9,if_true,if_false, *]<;>rfl),hIx⟩ ?_;clear hIx hI1;rintro u Bx ⟨u9,u14,u40,hIx⟩;refine Zcf rfl (.inl u40) (by kernel_rfl) ?_;intro r l1 fn ca cb hca hcb' hr hl1 hne hfn;obtain ⟨hkt,hbx,hxo⟩:=hIx;have x14:Hx r14=some (.cells 26 [.lit (.slice none 0 0)] 0):=hsx _ _ (AH.set_same _ _ _);have b14:=hkt.1 _ _ x14;obtain ⟨hk1,hkr⟩:=hkt.al hr (.obj (.deferred (some [])));obtain ⟨hk2,hkl⟩:=hk1.al (z:=l1) (by rw [AH.set_ne _ _ hne]; exact hl1) (.loop .ready none fn 56 u #[41] ca cb r);have d1:=AH.ne_of b14 hr;have d2:=AH.ne_of b14 hl1;have hxl:Hx l1=none:=hkt.1.none hl1;have hxr:Hx r=none:=hkt.1.none hr;obtain ⟨Hk,hHk⟩:∃ Hk,Hk=(Hx.del r14).set r (.obj (.deferred (some []))):=⟨_,rfl⟩
   have k14:Hk r14=none:=by rw [hHk,AH.set_ne _ _ d1.1]; exact AH.del_same _ _
   have kl1:Hk l1=none:=by rw [hHk,AH.set_ne _ _ hne,AH.del_ne _ d2.2]; exact hxl
   have kr:Hk r=some (.obj (.deferred (some []))):=by rw [hHk]; exact AH.set_same _ _ _
   have hbk:SubH Hb Hk:=by rw [hHk]; exact (Wh hbx hb14).of_set (hbx.none hxr)
   have drk:¬ p.rk=r14:=fun e=>by
    obtain ⟨_,m,hm,_⟩:=hkt;rw [e,b14] at hm; cases hm
   have kof:Hk p.rk=none:=by rw [hHk,AH.set_ne _ _ hkr,AH.del_ne _ drk]; exact hxo
   have hkB:SubH Hk ((Bx.set r (.obj (.deferred (some [])))).set l1 (.loop .ready none fn 56 u #[41] ca cb r)):=by
    rw [hHk];refine SubH.of_set (SubH.set (fun i b hi=>?_) _ _) (by rw [← hHk]; exact kl1);rw [AH.del_get] at hi;split at hi
    ·cases hi
    ·exact hkt.1 _ _ hi
   have hktk:Kt g l dn p.rk Hk ((Bx.set r (.obj (.deferred (some [])))).set l1 (.loop .ready none fn 56 u #[41] ca cb r)):=⟨hkB,hk2.2⟩
   have hxk:∀ i b,¬ i=r14→Hx i=some b→Hk i=some b:=fun i b hi hb=>by
    have e:¬ i=r:=(AH.ne_of hb hxr).1;rw [hHk,AH.set_ne _ _ e,AH.del_ne _ hi]; exact hb
   have hc14:∀ (a:Nat) e cs,¬ e=26→Hx a=some (.cells e cs 0)→Hk a=some (.cells e cs 0):=fun a e cs h1 h2=>hxk a _ (fun e'=>by subst e'; rw [x14] at h2; cases h2; exact h1 rfl) h2
   have hfk:FCh g l dn p.rc p.rk Hk:=hfc.mono hbk kof
   have hP0:PIx g l dn p.rk Hk X r14 l1 (.loop .ready none fn 56 u #[41] ca cb r) 0 Hk ((Bx.set r (.obj (.deferred (some [])))).set l1 (.loop .ready none fn 56 u #[41] ca cb r)) :=
    ⟨hktk,SubH.refl _,kof,⟨_,_,OwnX.nil _ _ _,hkB,by rw [AH.set_ne _ _ d2.1,AH.set_ne _ _ d1.1]; exact b14,AH.set_same _ _ _⟩,k14,kl1⟩
   have hend:∀ (k:Nat) (bl:Blk) (Hb' B':AH),PIx g l dn p.rk Hk X r14 l1 bl k Hb' B'→SubH Hk Hb'→X.take k=X.take most.toNat→(k=0↔X=[])→ACx ⟨Try.prog,56,none⟩ ZjB (retN [.tmp 10,.tmp 11] (fun e H'=>∃ y,e=.ret y∧GhV H' y H (parV (if X=[] then ([],171) else (X.take most.toNat,0))))) ⟨u,[WL r]⟩ (B'.del l1):=fun k bl Hb' B' hP hsb hk hk0=>by
    obtain ⟨_,_,_,⟨v,Hb2,ho,hs,a1,a2⟩,_,_⟩:=hP
    have hlen:(X.take k).length=k:=by
     have:=ho.len
     rw [YO ZcB] at this; omega
    rw [hk] at ho hlen;have ho2:=ho.del a2;have x14':(Hb2.del l1) r14=some (.cells 26 [v] 0):=(AH.del_ne _ d2.1).trans a1;have xr':(Hb2.del l1) r=some (.obj (.deferred (some []))):=(AH.del_ne _ (fun e=>hne e.symm)).trans (hs _ _ (hsb _ _ kr));have hHr:SubH H (Hb2.del l1):=Wh ((hsH.trans hbk).trans (hsb.trans hs)) ((hsH.trans hbk).none kl1);have hnr:H r=none:=hsH.none (hbx.none hxr);have q14:=ho2.sub _ _ x14';have qr:=ho2.sub _ _ xr';have hln:=fun K'=>ho2.read.len (P:=Try.prog) (t:=26) (K:=K') (by simp [Xt])
    have hGv:GhV ((B'.del l1).del r) v H (tnsV (X.take most.toNat)):=by
     have h:=GhV.back (ho2.del xr') (Wh hHr hnr);show GhV _ _ _ (.slice false (X.take most.toNat).length _);rw [hlen]; exact h
    have hHB:SubH H ((B'.del l1).del r):=Wh (hHr.trans ho2.sub) hnr;replace hGv:=Hold.mk hGv;replace hHB:=Hold.mk hHB;clear hfin ho2 ho hs a1 a2 x14' xr' hHr hnr hlen hk x14 b14 htro;delta ZjB Zb Ze Zm Zr Zq Zf Zc;refine YL rfl (fun _ _ _ h=>h) ?_;by_cases hX:X=[]
    ·obtain rfl:=hk0.2 hX;rw [if_pos hX];clear hk0 hX
     (repeat' (first | (refine hln _ ?_) | (simp only [↓Yt,↓Ya,↓Ye,↓ZZ,↓Xe,↓ZY,↓ZF,↓ZD,↓Xs,↓ZG,↓ZH,↓ZJ,↓ZI,↓ZP,↓Zv,↓ZE,↓ZS,↓Yy,↓ZX,↓Xk,↓Yr,ptrV,intV,Zmd,Zmg,ite_true,ite_false,Zl9,Zma,true_and,Zme,decide_true,decide_false,eq_self,Zmb,Yq,Yn,Yo,Yp,ZaH, *]) | (refine Jw ?_ ?_<;>intro)))
     ·exact ⟨by simp,qr,.tuple [.lit (.slice none 0 0),iV 171],_,.tuple [.lit (.slice none 0 0),iV 171],rfl,GhV.refl _ _,_,rfl,(GhV.tuple (GhL.cons (GhV.nil _) (GhL.cons (GhV.refl _ _) (GhL.nil _)))).trans (GhV.forget hHB.out _)⟩
     ·rename_i h; exact absurd rfl h
    ·have hk1:¬ (k:Int)=0:=fun e=>hX (hk0.1 (by omega))
     rw [if_neg hX];clear hk0 hX
     (repeat' (first | (refine hln _ ?_) | (simp only [↓Yt,↓Ya,↓Ye,↓ZZ,↓Yv,↓Xe,↓ZY,↓ZF,↓ZD,↓ZG,↓ZH,↓ZJ,↓ZI,↓ZP,↓Zv,↓ZE,↓ZS,↓Yy,↓ZX,↓Xk,↓Yr,ptrV,intV,Zmd,Zmg,ite_true,ite_false,Zl9,Zma,true_and,Zme,decide_false,eq_self,Zmb,Yq,Yn,Yo,Yp,ZaH, *])))
     exact ⟨by simp,qr,.tuple [v,iV 0],_,.tuple [v,iV 0],rfl,GhV.refl _ _,_,rfl,GhV.tuple (GhL.cons hGv.out (GhL.cons (GhV.refl _ _) (GhL.nil _)))⟩
   refine htro Hk hfk (PI g l dn p.rk Hk X most.toNat r14 l1 (.loop .ready none fn 56 u #[41] ca cb r) (.loop .done (some (.exit 0)) fn 56 u #[41] ca cb r)) X l1 (PI.yi (fun _ _ h=>by cases h) (fun _ _ h=>by cases h)) ?_ 0 [] Hk _ _ s1 s2 s3 s4 s5 (by simp) ⟨by omega,hP0⟩ (hc14 _ _ _ (by decide) hty.1) (hc14 _ _ _ (by decide) hty.2.1) (hc14 _ _ _ (by decide) hty.2.2.1) (hc14 _ _ _ (by decide) hty.2.2.2.1) (hc14 _ _ _ (by decide) hty.2.2.2.2) ?_ ?_
   ·rintro k hk Hk' B ⟨hkm,hP⟩ K' k1 k2;have hP0:=hP;obtain ⟨_,hlow,_,⟨v,Hb2,ho,hs,a1,a2⟩,p14,pl1⟩:=hP;have b1:=ho.sub _ _ a2;have hxk:X.take (k+1)=X.take k++[X[k]]:=Znf hk;refine ZaD (l:=l1) (pe:=none) (fn:=fn) (N:=56) (t:=u) (ps:=#[41]) («asg»:=ca) (bd:=cb) (ds:=r) b1 rfl (by simp) hfn ?_;refine ZeY hca ?_;generalize X[k]=x at *
    replace hP0:=Hold.mk hP0;replace ho:=Hold.mk ho;replace hxk:=Hold.mk hxk;replace k1:=Hold.mk k1;replace k2:=Hold.mk k2;clear hend hfin b14 x14 hkt hk1 hk2 htro
    (repeat' (first | (simp only [↓Zt,Zu,ptrV,Zl9,Zma,Zmj,setAt,Zap,ZbD,XE, *]) | (refine YL rfl (fun _ _ _ h=>h) ?_) | (refine Zw fun zr zh=>?_; have zg:=zh; (try simp only [AH.set_none] at zg); (try have zn_b1:=AH.ne_of b1 zh); (try have zn_b1:=AH.ne_of b1 zg.2); (try have zn_b1:=AH.ne_of b1 zg.2.2); (try have zn_b1:=AH.ne_of b1 zg.2.2.2); (try have zn_b1:=AH.ne_of b1 zg.2.2.2.2)) | (with_reducible refine And.intro ?_ ?_)))
    ·exact ⟨none,rfl⟩
    ·intro pe;refine ZeY hcb' ?_;have hzb:Hb2 zr=none:=ho.out.sub.none zh;have e1:=AH.ne_of a1 hzb;have e2:=AH.ne_of a2 hzb;have e9:=(hbk.trans (hlow.trans hs)) _ _ x9;have e3:=AH.ne_of e9 hzb;have e4:¬ r9=l1:=fun e=>by subst e; rw [e9] at a2; cases a2
     have ho2:=(ho.out.alloc zh (.cells 44 [iV x.prod,iV x.tok,encS tnE x.kids] 0)).put ((AH.set_ne _ _ e2.1).trans a2) (.loop .busy pe fn 56 u #[41] ca cb r);have w14:((Hb2.set zr (.cells 44 [iV x.prod,iV x.tok,encS tnE x.kids] 0)).set l1 (.loop .busy pe fn 56 u #[41] ca cb r)) r14=some (.cells 26 [v] 0):=by rw [AH.set_ne _ _ d2.1,AH.set_ne _ _ e1.1]; exact a1
     have w9:((Hb2.set zr (.cells 44 [iV x.prod,iV x.tok,encS tnE x.kids] 0)).set l1 (.loop .busy pe fn 56 u #[41] ca cb r)) r9=some (.cells 3 [iV most] 0):=by rw [AH.set_ne _ _ e4,AH.set_ne _ _ e3.1]; exact e9
     have w15:((Hb2.set zr (.cells 44 [iV x.prod,iV x.tok,encS tnE x.kids] 0)).set l1 (.loop .busy pe fn 56 u #[41] ca cb r)) zr=some (.cells 44 [iV x.prod,iV x.tok,encS tnE x.kids] 0):=by rw [AH.set_ne _ _ e2.2]; exact AH.set_same _ _ _
     have wl:((Hb2.set zr (.cells 44 [iV x.prod,iV x.tok,encS tnE x.kids] 0)).set l1 (.loop .busy pe fn 56 u #[41] ca cb r)) l1=some (.loop .busy pe fn 56 u #[41] ca cb r):=AH.set_same _ _ _;have wk:SubH Hk' ((Hb2.set zr (.cells 44 [iV x.prod,iV x.tok,encS tnE x.kids] 0)).set l1 (.loop .busy pe fn 56 u #[41] ca cb r)):=(hs.of_set (hs.none hzb)).of_set pl1;show ACx _ _ _ _ ((B.set zr (.cells 44 [iV x.prod,iV x.tok,encS tnE x.kids] 0)).set l1 (.loop .busy pe fn 56 u #[41] ca cb r))
     have hkt2:∃ m,((Hb2.set zr (.cells 44 [iV x.prod,iV x.tok,encS tnE x.kids] 0)).set l1 (.loop .busy pe fn 56 u #[41] ca cb r)) p.rk=some (.map (ZW Try.prog 125) (kmap rsK m))∧∀ r v,m r=some v→v=boolV (canF g l dn r):=by
      obtain ⟨_,m,hm,hk⟩:=hP0.out.kt
      have hb2:Hb2 p.rk=some (.map (ZW Try.prog 125) (kmap rsK m)):=by
       rcases ho.out with ⟨_,_,_,rfl⟩ | ⟨ga,c,sp,_,_,rfl,_⟩
       ·exact hm
       ·by_cases e:p.rk=ga
        ·rw [e,AH.set_same] at hm; cases hm
        ·rw [AH.set_ne _ _ e] at hm; exact hm
      refine ⟨m,?_,hk⟩;rw [AH.set_ne _ _ (fun e=>by rw [e,a2] at hb2; cases hb2),AH.set_ne _ _ (AH.ne_of hb2 hzb).1];exact hb2
     obtain ⟨Bz,hBz⟩:∃ Bz,Bz=(B.set zr (.cells 44 [iV x.prod,iV x.tok,encS tnE x.kids] 0)).set l1 (.loop .busy pe fn 56 u #[41] ca cb r):=⟨_,rfl⟩
     rw [← hBz] at ho2 ⊢;generalize (Hb2.set zr (.cells 44 [iV x.prod,iV x.tok,encS tnE x.kids] 0)).set l1 (.loop .busy pe fn 56 u #[41] ca cb r)=Hw at *
     have q14:=ho2.sub _ _ w14;have q15:=ho2.sub _ _ w15;have hvc:=ho2.cells;have hln:=fun K'=>ho2.read.len (P:=Try.prog) (t:=26) (K:=K') (by simp [Xt])
     have ho3:=Hold.mk ho2;have hP1:=hP0;clear hBz ho ho2 hzb e1 e2 e3 e4 e9 zh zg a1 a2 hs b1 hP0 zn_b1;have hzc:(VV.lit (Value.agg #[.int .i64 0,.int .i64 0,.slice none 0 0])).cells=[iV 0,iV 0,.lit (.slice none 0 0)]:=rfl;obtain ⟨Hl,hHl⟩:∃ Hl,Hl=Hw.del r14:=⟨_,rfl⟩
     have hl14:Hl r14=none:=by rw [hHl]; exact AH.del_same _ _
     have hlw:SubH Hl Hw:=by
      rw [hHl];intro i b hi;rw [AH.del_get] at hi;split at hi
      ·cases hi
      ·exact hi
     have hlz:SubH Hl Bz:=hlw.trans ho3.out.sub;clear hHl
     obtain ⟨Hi,hi0,hi1,hi2,hi3,hi4,hi5,hi6,hi7,hisub⟩:∃ Hi:Nat→AH,Hi 0=Bz∧Hi 1=Bz∧Hi 2=Bz∧Hi 3=Bz∧Hi 4=Hl∧Hi 5=Hl∧Hi 6=Hl∧Hi 7=Hl∧∀ k,SubH (Hi k) Bz:=⟨fun k=>if k<4 then Bz else Hl,rfl,rfl,rfl,rfl,rfl,rfl,rfl,rfl,fun k=>by
      dsimp only;split
      ·exact SubH.refl _
      ·exact hlz⟩
     have hkeep:∀ (L:List Nat),(∀ k∈L,k=4∨k=5∨k=6∨k=7)→∀ H0 H',SubH Hl H'→∀ k∈L,SubH (Hi k) H0→SubH (Hi k) H':=fun L hL H0 H' h k hk _=>by
      rcases hL k hk with rfl | rfl | rfl | rfl
      ·rw [hi4]; exact h
      ·rw [hi5]; exact h
      ·rw [hi6]; exact h
      ·rw [hi7]; exact h
     replace hkeep:=Hold.mk hkeep;replace hisub:=Hold.mk hisub
     (repeat' (first | (simp only [↓Zt, *]) | (refine YL rfl (fun _ _ _ h=>h) ?_)))
     replace hisub:=hisub.out;refine ZaZ mixed (fun _ _ _ _ e h=>⟨e.trans h.1,h.2⟩) Hi hisub ?_;replace hisub:=Hold.mk hisub
     (repeat' (first | (refine hln _ ?_) | (simp only [↓ZG,↓ZH,↓ZJ,↓ZI,↓ZP,↓Zv,↓ZS,↓YC,↓ZX,↓Xk,↓WX,ptrV,intV,Zmd,Zmg,Zmi,Zml,ZmF,ite_true,ite_false,Zl9,Zma,Zmj,Zm8,Zmu,true_and,Zme,fillV,setAt,eq_self,Zmh,Zmb,and_self,Yq,Wt,Zmn,Zmy,Zmc,Yn,Yo,Yp,ZB,ZmP,ZmZ,ZmT,ZmX,ZdY,ZgA,ZdZ,ZB,ZaH,Zdm,XE,Xt, *])))
     refine Zbt Xt XE rfl (by omega) ho3.out (m:=1) (news:=[iV 0,iV 0,.lit (.slice none 0 0)]) rfl rfl (by omega) (by omega) (fun v' H3 ho4=>?_);have hcl:(encC tnE (X.take k)).length=k * 3:=ho3.out.len;rcases ho4 with ⟨_,h,_⟩ | ⟨ga,c,sp,rfl,hga,rfl,g1,g2,g3,g4⟩
     ·omega
     have hlg:Hl ga=none:=hlw.none hga;have f14:=AH.ne_of w14 hga;have f9:=AH.ne_of w9 hga;have f15:=AH.ne_of w15 hga;have fl:=AH.ne_of wl hga;have f149:¬ r9=r14:=fun e=>by subst e; rw [w9] at w14; cases w14
     have f14l:¬ r14=l1:=fun e=>by subst e; rw [w14] at wl; cases wl
     have f1415:¬ r14=zr:=fun e=>by subst e; rw [w14] at w15; cases w15
     have hki:(k:Int)<((k+1:Nat):Int):=by omega
     have hset:((((encC tnE (X.take k)++[iV 0,iV 0,.lit (.slice none 0 0)]).set (k * 3) (iV x.prod)).set (k * 3+1) (iV x.tok)).set (k * 3+1+1) (encS tnE x.kids))=encC tnE (X.take (k+1)):=by
      rw [hxk.out,YS,Yg,Zbd,ZmF,ZcA];exact Zji _ _ hcl
     have hfinal:∀ bl,PIx g l dn p.rk Hk X r14 l1 bl (k+1) Hk' (((Hw.set r14 (.cells 26 [.lit (.slice (some ⟨ga,0,none⟩) (k+1) c)] 0)).set ga (.cells 44 (encC tnE (X.take (k+1))) sp)).set l1 bl):=fun bl=>by
      obtain ⟨m,hm,hmk⟩:=hkt2;have hfg:((Hw.set r14 (.cells 26 [.lit (.slice (some ⟨ga,0,none⟩) (k+1) c)] 0)).set l1 bl) ga=none:=by rw [AH.set_ne _ _ fl.2,AH.set_ne _ _ f14.2]; exact hga
      have hfk:SubH Hk' ((Hw.set r14 (.cells 26 [.lit (.slice (some ⟨ga,0,none⟩) (k+1) c)] 0)).set l1 bl):=(wk.of_set p14).of_set pl1;have he:((Hw.set r14 (.cells 26 [.lit (.slice (some ⟨ga,0,none⟩) (k+1) c)] 0)).set ga (.cells 44 (encC tnE (X.take (k+1))) sp)).set l1 bl=((Hw.set r14 (.cells 26 [.lit (.slice (some ⟨ga,0,none⟩) (k+1) c)] 0)).set l1 bl).set ga (.cells 44 (encC tnE (X.take (k+1))) sp):=AH.set_comm _ _ _ fl.1;rw [he]
      have hmr:((Hw.set r14 (.cells 26 [.lit (.slice (some ⟨ga,0,none⟩) (k+1) c)] 0)).set l1 bl) p.rk=some (.map (ZW Try.prog 125) (kmap rsK m)):=by
       rw [AH.set_ne _ _ (fun e=>by rw [e,wl] at hm; cases hm),AH.set_ne _ _ (fun e=>by rw [e,w14] at hm; cases hm)]; exact hm
      refine ⟨⟨hfk.of_set (hfk.none hfg),m,?_,hmk⟩,hlow,hP1.out.off,⟨_,_,.inr ⟨ga,c,sp,rfl,hfg,rfl,?_,?_,g3,g4⟩,hfk,?_,AH.set_same _ _ _⟩,p14,pl1⟩
      ·rw [AH.set_ne _ _ (fun e=>by rw [e,hfg] at hmr; cases hmr)]; exact hmr
      ·rw [← hset]; simpa using g1
      ·rw [← hset]; simpa using g2
      ·rw [AH.set_ne _ _ f14l]; exact AH.set_same _ _ _
     have hca:∀ b0 b1 b2:Blk,((Hw.set ga b0).set r14 b1).set ga b2=(Hw.set r14 b1).set ga b2:=fun b0 b1 b2=>by
      rw [AH.set_comm _ _ _ f14.1,AH.set_set]
     have hcb:∀ b1 b2:Blk,(Hw.set ga b2).set r14 b1=(Hw.set r14 b1).set ga b2:=fun b1 b2=>AH.set_comm _ _ _ f14.1
     replace hfinal:=Hold.mk hfinal;replace hset:=Hold.mk hset;replace hca:=Hold.mk hca;replace hcb:=Hold.mk hcb;clear hln q14 q15 hcl hkt2;by_cases hme:((k+1:Nat):Int)=most
     ·(repeat' (first | (simp only [↓Zt,Zu,ptrV,intV,Zl9,Zma,Zmj,reduceCtorEq,setAt,Zmb,Zl6,Zij,ZdY,ZgA,ZdZ,Zb7,Zk7,ZaH,Yd,ZbD,szT_26,Xt, *]) | (with_reducible refine And.intro ?_ ?_)))
      all_goals first
       | omega
       | exact hkeep.out _ (by decide) _ _ (by repeat (first | exact hlw | refine SubH.of_set ?_ (by assumption)))
       | skip
      all_goals rw [hset.out]
      all_goals first
       | rw [hca.out]
       | rw [hcb.out]
      all_goals have hk3:k+1=most.toNat:=by omega
      all_goals have h9:=hfinal.out (.loop .done (some (.exit 0)) fn 56 u #[41] ca cb r)
      all_goals exact ⟨⟨pe,by rw [AH.set_ne _ _ fl.1,AH.set_ne _ _ (fun e=>f14l e.symm)]; exact wl⟩,k2.out _ (by rw [hk3] at h9 ⊢; exact h9)⟩
     ·(repeat' (first | (simp only [↓Zt,Zu,ptrV,intV,Zl9,Zma,Zmj,reduceCtorEq,setAt,Zmb,Zl6,Zij,ZdY,ZgA,ZdZ,Zb7,Zk7,ZaH,Yd,ZbD,szT_26,Xt, *]) | (with_reducible refine And.intro ?_ ?_)))
      all_goals first
       | omega
       | exact hkeep.out _ (by decide) _ _ (by repeat (first | exact hlw | refine SubH.of_set ?_ (by assumption)))
       | skip
      all_goals rw [hset.out]
      all_goals first
       | rw [hca.out]
       | rw [hcb.out]
      all_goals exact ⟨⟨pe,by rw [AH.set_ne _ _ fl.1,AH.set_ne _ _ (fun e=>f14l e.symm)]; exact wl⟩,k1.out _ ⟨by omega,hfinal.out _⟩⟩
   ·rintro Hb' B' v ⟨hkm,hP⟩ hsb
    have b1:B' l1=some (.loop .ready none fn 56 u #[41] ca cb r):=by
     obtain ⟨_,_,_,⟨v,Hb2,ho,hs,a1,a2⟩,_,_⟩:=hP;exact ho.sub _ _ a2
    refine ⟨.ready,none,b1,by simp,?_⟩;show ACx ⟨Try.prog,56,none⟩ ZjB _ _ _;rw [Zmh] at hP hkm;exact hend X.length _ _ _ hP hsb (by rw [List.take_length,ZmQ (by omega)]) List.length_eq_zero_iff
   ·rintro Hb' B' v hP hsb
    have hb:B' l1=some (.loop .done (some (.exit 0)) fn 56 u #[41] ca cb r)∧¬ X=[]:=by
     obtain ⟨_,_,_,⟨v,Hb2,ho,hs,a1,a2⟩,_,_⟩:=hP;refine ⟨ho.sub _ _ a2,fun e=>?_⟩
     have:=ho.len
     rw [e,List.take_nil,Zbd,Zml] at this;omega
    refine ⟨.done,some (.exit 0),hb.1,by simp,?_⟩;show ACx ⟨Try.prog,56,none⟩ ZjB _ _ _;exact hend most.toNat _ _ _ hP hsb rfl ⟨fun h=>by omega,fun h=>absurd h hb.2⟩
 ·have hpf:YQ g sym least l most=([],Wj g least l.length):=by unfold YQ; rw [if_neg ha]
  replace hfin:=Hold.mk hfin;replace hpf:=Hold.mk hpf;clear hsm;generalize Wj g least l.length=e at *
  (repeat' (first | (simp only [↓Zt,Zu,ptrV,Zl9,Zma,reduceCtorEq,Zx,undef,ZlX, *]) | (refine Zw fun zr zh=>?_; have zg:=zh; (try simp only [AH.set_none] at zg)) | (refine PureF.use (hak) ?_)))
  exact hfin.out _ e _ (SubH.new zh) (by simp only [Zv,Zl9,if_true,if_false, *]<;>rfl) (by simp only [Zv,Zl9,if_true,if_false, *]<;>rfl) hpf.out
end Go.PV.Ytfkkmdelpddojaa
end
section
set_option maxRecDepth 20000
set_option maxHeartbeats 4000000
namespace Go.PV.Ytfkkmdelpddojaa
open Go Go.Proofs
def lead (C:Ch):Nat→Nat→Nat
 | 0,i=>i
 | m+1,i=>if (C.sets i).st=[] then i else lead C m (i+1)
end Go.PV.Ytfkkmdelpddojaa
end
section
open Int renaming reduceNeg→Zm3
open List renaming drop_zero→Zm4,drop→Zmb
open Nat renaming reduceEqDiff→Zl9,reduceLT→Zma,reduceAdd→Zmj,reduceMul→Zm8,reduceLeDiff→Zmu
open Option renaming map_some→Zm1
set_option maxRecDepth 20000
set_option maxHeartbeats 4000000
namespace Go.PV.Ytfkkmdelpddojaa
open Go Go.Proofs
def VImp (x y:VV):Prop:=∀ S w u,Rv S w x u→Rv S w y u
theorem VImp.refl (x:VV):VImp x x:=fun _ _ _ h=>h
inductive VImps:List VV→List VV→Prop
 | nil:VImps [] []
 | cons {x y:VV} {xs ys:List VV}:VImp x y→VImps xs ys→VImps (x::xs) (y::ys)
theorem VImps.rvC {S:Nat→Prop} {w:World}:∀ {xs ys:List VV} {r o:Nat},VImps xs ys→RvC S w xs r o→RvC S w ys r o
 | _,_,_,_,.nil,_=>trivial
 | _,_,r,o,.cons h hs,h'=>⟨h'.1.elim fun u hu=>⟨u,hu.1,h _ _ _ hu.2⟩,VImps.rvC hs h'.2⟩
theorem VImp.slice {ex:Bool} {n:Nat} {xs ys:List VV} (h:VImps xs ys):VImp (.slice ex n xs) (.slice false n ys):=fun S w u hx=>by
 obtain ⟨a,cap,rfl,h1,h2⟩:=hx;refine ⟨a,cap,rfl,⟨h1.1,fun h=>by cases h⟩,fun hn=>?_⟩;obtain ⟨r,o,e,hr,hc⟩:=h2 hn;exact ⟨r,o,e,hr,VImps.rvC h hc⟩
theorem VImp.gh {x y:VV} (h:VImp x y) (H:AH):GhV H x H y:=fun S w u hs hx=>⟨S,.refl _ _ _,hs,h _ _ _ hx⟩
theorem VImps.refl:∀ xs,VImps xs xs
 | []=>.nil
 | x::xs=>.cons (.refl x) (VImps.refl xs)
theorem PureF.gh {P:Program} {f:FuncId} {xs xs':List VV} {x:VV} (g:∀ H,GhL H xs H xs') (h:PureF P f xs' x):PureF P f xs x:=fun H=>WT (g H) (h H)
theorem sum_w (r:Int):PureF Try.prog 41 [iV r] (pdsV (sumG r)):=by
 refine ZaK.pure fun H=>?_
 refine Zy fd41 (by simp) ?_;delta c41 Zq Za Zr Zc
 (repeat' (first | (simp only [↓Zt,Zu,Zl9,Zma,Zmj,Zm8,Zmu,reduceCtorEq,Zx,ZT,fillV,setAt,undef,ZB,ZT,ZB,Xp,Zkf,JV,stT_62,Xu,Xb, *]) | (refine ZC ?_)))
 refine ⟨_,rfl,VImp.gh ?_ H⟩;refine VImp.slice (.cons (.refl _) (.cons (.refl _) (.cons (.refl _) (.cons (VImp.slice (VImps.refl _)) (.cons (.refl _) (.cons (.refl _) (.cons (.refl _) (.cons (VImp.slice (VImps.refl _)) .nil))))))))
theorem num_w (s:ByteArray):PureF Try.prog 40 [sV s] (tkV ⟨bN,s⟩):=by
 refine PureF.forget fun H=>?_
 refine Zy fd40 (by simp) ?_;delta c40 Zi Za Zq Zr Zg
 (repeat' (first | (simp only [↓Zt,Zu,ptrV,Zl9,Zma,Zmj,Zmu,reduceCtorEq,Zx,ZT,fillV,setAt,undef,ZT,szT_66,stT_66,Zdv, *]) | (refine Zw fun zr zh=>?_; have zg:=zh; (try simp only [AH.set_none] at zg))))
 exact ⟨rfl,tkV ⟨bN,s⟩,_,_,by simp only [resV,Zal,Zak,Zv,Zl9,if_true,if_false,Zgq,AH.set_same,Zm4,Zm1]; rfl,GhV.refl _ _,rfl,SubH.new zh⟩
abbrev t61:VV:=.slice false 1 [iV 0,iV 0,.slice false 2 [iV 0,iV 0,.slice false 2 [iV 1,iV 0,.slice false 1 [iV (-1),iV 0,.slice false 0 []],iV 1,iV 0,.slice false 1 [iV (-1),iV 2,.slice false 0 []]],iV 1,iV 0,.slice false 1 [iV (-1),iV 4,.slice false 0 []]]]
abbrev t60:VV:=.slice false 2 [iV 0,iV 0,.slice false 2 [iV 1,iV 0,.slice false 1 [iV (-1),iV 0,.slice false 0 []],iV 0,iV 0,.slice false 2 [iV 1,iV 0,.slice false 1 [iV (-1),iV 2,.slice false 0 []],iV 1,iV 0,.slice false 1 [iV (-1),iV 4,.slice false 0 []]]],
 iV 0,iV 0,.slice false 2 [iV 0,iV 0,.slice false 2 [iV 1,iV 0,.slice false 1 [iV (-1),iV 0,.slice false 0 []],iV 1,iV 0,.slice false 1 [iV (-1),iV 2,.slice false 0 []]],iV 1,iV 0,.slice false 1 [iV (-1),iV 4,.slice false 0 []]]]
theorem Zk8 (r:Int) (h:r=60∨r=61) (ex:Bool):PureF Try.prog 10 [pdsV (sumG r),sV bE,iV 0,.slice ex 5 (encC tkE sumT),iV 10] (parV (YQ (sumG r) bE 0 sumT 10)):=by
 refine PureF.gh (fun H=>GhL.cons (GhV.refl _ _) (GhL.cons (GhV.refl _ _) (GhL.cons (GhV.refl _ _) (GhL.cons (GhV.imm H) (GhL.cons (GhV.refl _ _) (GhL.nil _)))))) ?_
 exact Zf2 (sumG r) bE 0 sumT 10 (by show 2≤_; omega) (fun p hp=>by
  have:=(Zky r h).its p hp
  omega) (by simp [maxLen]; decide) (fun _=>⟨by show 2≤12; omega,by show 5≤20; omega⟩)
theorem parse_61 (ex:Bool):PureF Try.prog 10 [pdsV (sumG 61),sV bE,iV 0,.slice ex 5 (encC tkE sumT),iV 10] (.tuple [t61,iV 0]):=by
 have h:=Zk8 61 (.inr rfl) ex;rw [parse61] at h;exact h
theorem parse_60 (ex:Bool):PureF Try.prog 10 [pdsV (sumG 60),sV bE,iV 0,.slice ex 5 (encC tkE sumT),iV 10] (.tuple [t60,iV 0]):=by
 have h:=Zk8 60 (.inl rfl) ex;rw [parse60] at h;exact h
theorem awake_w:PureF Try.prog 9 [] (boolV true):=by
 refine PureF.forget fun H=>?_
 have s61:=sum_w 61;have s60:=sum_w 60;have p61:=parse_61 true;have p60:=parse_60 true;have n1:=num_w { data:=#[49] };have n2:=num_w { data:=#[50] };have n3:=num_w { data:=#[51] };have hto:encC tkE sumT=[sV bN,sV { data:=#[49] },sV noNm,sV bP,sV bN,sV { data:=#[50] },sV noNm,sV bP,sV bN,sV { data:=#[51] }]:=rfl;rw [hto] at p61 p60;generalize pdsV (sumG 61)=g61 at *
 generalize pdsV (sumG 60)=g60 at *
 clear hto;refine Zy fd9 (by simp) ?_;delta c9 Zq Za Zr Zc Zo Zh Zm Zp;have k1:((1:Nat):Int)=1:=rfl;have k2:((2:Nat):Int)=2:=rfl;have j0:∀ xs:List VV,xs.drop ((0:Int).toNat * 3)=xs:=fun _=>rfl
 have j1:∀ (a b c:VV) (xs:List VV),(a::b::c::xs).drop ((1:Int).toNat * 3)=xs:=fun _ _ _ _=>rfl
 have j2:∀ (a b:VV) (xs:List VV),(a::b::xs).drop 2=xs:=fun _ _ _=>rfl
 (repeat' (first | (simp only [↓Zt,Zu,↓Xj,Yw,intV,boolV,Zl9,Zma,Zmj,Zm8,Zmu,reduceCtorEq,Zx,ZT,fillV,setAt,Zmb,undef,Int.reduceLT,Int.reduceLE,Zm3,ZB,ZT,ZB,ZiS,ZaH,Zdv,stT_66,Zam,Xt,en_40,en_41,Zfc, *]) | (refine ZC ?_) | (exact SubH.refl _) | (refine PureF.use (s61) ?_) | (refine PureF.use (s60) ?_) | (refine PureF.use (p61) ?_) | (refine PureF.use (p60) ?_) | (refine PureF.use (n1) ?_) | (refine PureF.use (n2) ?_) | (refine PureF.use (n3) ?_)))
end Go.PV.Ytfkkmdelpddojaa
end
section
open List renaming drop→Zmb,take_of_length_le→ZmQ,getElem_mem→ZmE
open Nat renaming reduceEqDiff→Zl9,reduceLT→Zma,reduceAdd→Zmj,reduceMul→Zm8,reduceLeDiff→Zmu,le_refl→Zmc
set_option maxRecDepth 20000
set_option maxHeartbeats 4000000
namespace Go.PV.Ytfkkmdelpddojaa
open Go Go.Proofs
theorem ZlO (l:List Tk) (hl:l.length≤1099511627776):PureF Try.prog 12 [tksV l] (tksV l):=by
 refine ZaK.pure fun H=>?_
 refine Zy fd12 (by simp) ?_;delta c12 Zq Za Ze
 (repeat' (first | (simp only [↓Zt,Zu,intV,Zl9,Zma,reduceCtorEq,Zx,undef,Zkd, *])))
 refine YJ (fun _ _ _ h=>h) (fun A H'=>A.d=[]∧A.t 6=tksV l∧A.t 7=iV l.length∧∃ (i:Nat) (Hb:AH),i≤l.length∧A.t 8=iV i∧SubH H Hb∧OwnX Hb H' 66 2 (A.t 3) i (encC tkE (l.take i)))
  (fun A _=>match A.t 8 with | .lit (.int _ i)=>((l.length:Int)-i).toNat | _=>0) ?_ ?_
 ·exact ⟨rfl,rfl,rfl,0,_,by omega,rfl,SubH.refl _,OwnX.nil _ _ _⟩
 ·rintro ⟨t,d⟩ H' ⟨rfl,h6,h7,i,Hb,hi,h8,hs',ho⟩;dsimp only at h6 h7 h8 ho;delta b12_1 Zn Zr Zk Zb Zi Zg Za Zq Zl Zc Zm;by_cases hlt:i<l.length
  ·have hil:(i:Int)<(l.length:Int):=by omega
   have hdi:=ZhK hlt;have hte:=tk_take hlt;have hw:IntKind.wrap .i64 ((i:Int)+1)=((i+1:Nat):Int):=by rw [ZQ (by omega) (by omega)]; rfl
   replace hte:=Hold.mk hte;replace ho:=Hold.mk ho
   (repeat' (first | (simp only [↓Zt,Zu,ptrV,Zl9,Zma,Zmj,Zm8,Zmu,fillV,setAt,Zmb,JG,ZB,ZB,ldT_100,szT_100,Zlh,Zkd,Zam,Zdv, *]) | (refine Zw fun zr zh=>?_; have zg:=zh; (try simp only [AH.set_none] at zg))))
   refine Zbu Zam Zdv rfl (by omega) (ho.out.alloc zh _) rfl rfl (by omega) (by omega) (fun v' H'' ho2=>?_);rw [← hte.out] at ho2;replace ho2:=Hold.mk ho2
   (repeat' (first | (simp only [↓Zt,Zu,Zl9,Zma, *]) | (with_reducible refine And.intro ?_ ?_)))
   ·exact ⟨i+1,_,by omega,rfl,hs'.of_set (hs'.none (ho.out.sub.none zh)),ho2.out⟩
   ·omega
  ·have hil:¬ (i:Int)<(l.length:Int):=by omega
   have hin:i=l.length:=by omega
   subst hin;rw [ZmQ (Zmc _)] at ho;replace ho:=Hold.mk ho
   (repeat' (first | (simp only [↓Zt,Zu,Zma, *]) | (refine YL rfl (fun _ _ _ h=>h) ?_)))
   delta c12_1 Za Zc
   (repeat' (first | (simp only [↓Zt,Zu,Zl9,Zma, *]) | (refine ZC ?_)))
   exact ⟨_,rfl,GhV.back ho.out hs'⟩
theorem own_ok (l:List Pd) (hl:l.length≤1099511627776) (hit:∀ p∈l,p.items.length≤1099511627776):PureF Try.prog 11 [pdsV l] (pdsV l):=by
 refine ZaK.pure fun H=>?_
 refine Zy fd11 (by simp) ?_;delta c11 Zq Za Ze
 (repeat' (first | (simp only [↓Zt,Zu,intV,Zl9,Zma,reduceCtorEq,Zx,undef,Zab, *])))
 refine YJ (fun _ _ _ h=>h) (fun A H'=>A.d=[]∧A.t 9=pdsV l∧A.t 10=iV l.length∧∃ (i:Nat) (Hb:AH),i≤l.length∧A.t 11=iV i∧SubH H Hb∧OwnX Hb H' 62 4 (A.t 3) i (encC pdE (l.take i)))
  (fun A _=>match A.t 11 with | .lit (.int _ i)=>((l.length:Int)-i).toNat | _=>0) ?_ ?_
 ·exact ⟨rfl,rfl,rfl,0,_,by omega,rfl,SubH.refl _,OwnX.nil _ _ _⟩
 ·rintro ⟨t,d⟩ H' ⟨rfl,h9,h10,i,Hb,hi,h11,hs',ho⟩;dsimp only at h9 h10 h11 ho;delta b11_2 Zn Zr Zk Zb Zi Zg Zd Zq Ze;by_cases hlt:i<l.length
  ·have hil:(i:Int)<(l.length:Int):=by omega
   have hdi:=WG hlt;have hte:=pd_take hlt;have hpi:=hit _ (ZmE hlt);have hw:IntKind.wrap .i64 ((i:Int)+1)=((i+1:Nat):Int):=by rw [ZQ (by omega) (by omega)]; rfl
   replace hte:=Hold.mk hte;replace ho:=Hold.mk ho;generalize l[i]=p at *
   (repeat' (first | (simp only [↓Zt,Zu,ptrV,intV,Zl9,Zma,Zmj,Zmu,reduceCtorEq,ZT,fillV,setAt,Zmb,ZT,flT_52_0,flT_52_1,flT_52_2,Zdw,Zh9,Wb,Yd,Zib,Zia,Zgp,stT_62,Za9,JV,Zdn,Zab, *]) | (refine Zw fun zr zh=>?_; have zg:=zh; (try simp only [AH.set_none] at zg))))
   rename_i r5 n5 n5'
   have hb0:InB (H'.set r5 (.cells 52 [sV p.left,iV p.prio,sV p.name,itsV p.items] 0)) ((H'.set r5 (.cells 52 [sV p.left,iV p.prio,sV p.name,itsV p.items] 0)).set zr (.cells 62 [sV p.left,iV p.prio,sV p.name,.lit (.slice none 0 0)] 0)) zr 62 [sV p.left,iV p.prio,sV p.name] [] 64 3 0 [] (.lit (.slice none 0 0)) _ :=
    InB.start (AH.set_same _ _ _) (SubH.new zh) zh
   have ho5:=ho.out.alloc n5 (.cells 52 [sV p.left,iV p.prio,sV p.name,itsV p.items] 0);have hs5:SubH H (Hb.set r5 (.cells 52 [sV p.left,iV p.prio,sV p.name,itsV p.items] 0)):=hs'.of_set (hs'.none (ho.out.sub.none n5));have hz5:=zh;clear zg n5' ho hs' n5 zh;generalize H'.set r5 (.cells 52 [sV p.left,iV p.prio,sV p.name,itsV p.items] 0)=G0 at *
   generalize Hb.set r5 (.cells 52 [sV p.left,iV p.prio,sV p.name,itsV p.items] 0)=Hb5 at *
   generalize zr=r6 at *
   refine YJ (fun _ _ _ h=>h) (fun A H=>A.d=[]∧A.t 3=t 3∧A.t 6=ptrV r6 0∧A.t 9=pdsV l∧A.t 10=iV l.length∧A.t 11=iV i∧A.t 23=itsV p.items∧A.t 24=iV p.items.length∧∃ (j:Nat) (v:VV) (Hc:AH),j≤p.items.length∧A.t 25=iV j∧InB G0 H r6 62 [sV p.left,iV p.prio,sV p.name] [] 64 3 j (encC itE (p.items.take j)) v Hc)
    (fun A _=>match A.t 25 with | .lit (.int _ j)=>((p.items.length:Int)-j).toNat | _=>0) ?_ ?_
   ·exact ⟨rfl,(by simp only [Zv,Zl9,if_false, *]<;>rfl),(by simp only [Zv,Zl9,if_true,if_false, *]<;>rfl),(by simp only [Zv,Zl9,if_false, *]<;>rfl),(by simp only [Zv,Zl9,if_false, *]<;>rfl),(by simp only [Zv,Zl9,if_false, *]<;>rfl),(by simp only [Zv,Zl9,if_true,if_false, *]<;>rfl),(by simp only [Zv,Zl9,if_true,if_false, *]<;>rfl),0,_,_,by omega,(by simp only [Zv,Zl9,if_true,if_false, *]<;>rfl),hb0⟩
   ·clear hb0 hdi;rintro ⟨t',d⟩ H2 ⟨hdd,k3,k6,k9,k10,k11,k23,k24,j,v,Hc,hj,k25,hb⟩;dsimp only at hdd k3 k6 k9 k10 k11 k23 k24 k25;subst hdd;have q6:=hb.at;delta b11_1 Zn Zr Zk Zb Zi Zg Zd Zq Zl Zm Za;by_cases hjl:j<p.items.length
    ·have hji:(j:Int)<(p.items.length:Int):=by omega
     have hdj:=ZbB hjl;have hjt:=it_take hjl;have hwj:IntKind.wrap .i64 ((j:Int)+1)=((j+1:Nat):Int):=by rw [ZQ (by omega) (by omega)]; rfl
     replace hjt:=Hold.mk hjt;replace hb:=Hold.mk hb;generalize p.items[j]=x at *
     (repeat' (first | (simp only [↓Zt,Zu,ptrV,Zl9,Zma,Zmj,Zm8,Zmu,fillV,setAt,Zmb,ZB,ZB,Xh,ldT_88,Wi,szT_88,zeroT_88,Zdn,Xu,Xp, *]) | (refine Zw fun zr zh=>?_; have zg:=zh; (try simp only [AH.set_none] at zg); (try have zn_q6:=AH.ne_of q6 zh); (try have zn_q6:=AH.ne_of q6 zg.2); (try have zn_q6:=AH.ne_of q6 zg.2.2); (try have zn_q6:=AH.ne_of q6 zg.2.2.2); (try have zn_q6:=AH.ne_of q6 zg.2.2.2.2))))
     have hb1:=hb.out.alloc zh (.cells 88 [iV x.kind,sV x.text,iV x.prio] 0);refine Zbu Xu Xp rfl (by omega) hb1.own rfl rfl (by omega) (by omega) (fun v' H3 ho3=>?_);rw [← hjt.out] at ho3;have hb2:=hb1.next ho3;have q3':=ho3.sub _ _ hb1.blk;have hc1:=ho3.cells.1;have hc2:=ho3.cells.2;replace hb2:=Hold.mk hb2;clear hb1 hb q6 ho3
     (repeat' (first | (simp only [↓Zt,Zu,ptrV,Zl9,Zma,Zmj,setAt,Xh,ZeV, *]) | (with_reducible refine And.intro ?_ ?_)))
     ·exact ⟨j+1,v',_,by omega,rfl,hb2.out⟩
     ·omega
    ·have hji:¬ (j:Int)<(p.items.length:Int):=by omega
     have hjn:j=p.items.length:=by omega
     subst hjn;rw [ZmQ (Zmc _)] at hb;replace hb:=Hold.mk hb
     (repeat' (first | (simp only [↓Zt,Zu,ptrV,Zma,reduceCtorEq, *])))
     refine ZgS (hb.out.ghost _ _) ?_;have q6:(G0.set r6 (.cells 62 ([sV p.left,iV p.prio,sV p.name]++[.slice false p.items.length (encC itE p.items)]) 0)) r6=some (.cells 62 [sV p.left,iV p.prio,sV p.name,itsV p.items] 0):=AH.set_same _ _ _;have ho6:=ho5.alloc hz5 (.cells 62 ([sV p.left,iV p.prio,sV p.name]++[.slice false p.items.length (encC itE p.items)]) 0);have hs6:=hs5.of_set (b:=.cells 62 ([sV p.left,iV p.prio,sV p.name]++[.slice false p.items.length (encC itE p.items)]) 0) (hs5.none (ho5.sub.none hz5));generalize G0.set r6 (.cells 62 ([sV p.left,iV p.prio,sV p.name]++[.slice false p.items.length (encC itE p.items)]) 0)=G6 at *
     generalize Hb5.set r6 (.cells 62 ([sV p.left,iV p.prio,sV p.name]++[.slice false p.items.length (encC itE p.items)]) 0)=Hb6 at *
     clear hb ho5 hs5 hz5;delta c11_1 Za Zb Zq Zr Zl Zc;replace ho6:=Hold.mk ho6;refine YL rfl (fun _ _ _ h=>h) ?_
     (repeat' (first | (simp only [↓Zt,Zu,ptrV,Zl9,Zma,Zmj,Zm8,Zmu,fillV,setAt,Zmb,ZB,ZB,Je,JV,Xb, *])))
     refine Zbu Xb JV rfl (by omega) ho6.out rfl rfl (by omega) (by omega) (fun v' H3 ho7=>?_);rw [← hte.out] at ho7;replace ho7:=Hold.mk ho7
     (repeat' (first | (simp only [↓Zt,Zu,Zl9,Zma, *])))
     delta c11_2 Zm Za
     (repeat' (first | (simp only [↓Zt,Zu,Zl9,Zma, *]) | (refine YL rfl (fun _ _ _ h=>h) ?_) | (with_reducible refine And.intro ?_ ?_)))
     ·exact ⟨i+1,_,by omega,rfl,hs6,ho7.out⟩
     ·omega
  ·have hil:¬ (i:Int)<(l.length:Int):=by omega
   have hin:i=l.length:=by omega
   subst hin;rw [ZmQ (Zmc _)] at ho;replace ho:=Hold.mk ho
   (repeat' (first | (simp only [↓Zt,Zu,Zma, *]) | (refine YL rfl (fun _ _ _ h=>h) ?_)))
   delta c11_3 Za Zc
   (repeat' (first | (simp only [↓Zt,Zu,Zl9,Zma, *]) | (refine ZC ?_)))
   exact ⟨_,rfl,GhV.back ho.out hs'⟩
end Go.PV.Ytfkkmdelpddojaa
end
section
open Bool renaming not_true→ZmK,and_self→Zmp,not_false→ZmG,false_eq_true→Zmv
open Int renaming reduceNeg→Zm3,natCast_nonneg→ZmL,toNat_natCast→Zmw
open List renaming length_append→ZmB,take_of_length_le→ZmQ,drop→Zmb,length_take→ZmV,map_cons→Zmd,map_nil→Zmg,length_cons→Zmi,length_nil→Zml,all_cons→Zmz,all_nil→ZmJ,set_cons_zero→Zmn,set_cons_succ→Zmy
open Nat renaming reduceEqDiff→Zl9,reduceLT→Zma,reduceMul→Zm8,zero_le→ZmU,lt_or_ge→ZmI,reduceAdd→Zmj,succ_ne_self→Zme,zero_add→Zmh,le_refl→Zmc
open Option renaming map_none→Zna,map_some→Zm1
set_option maxRecDepth 20000
set_option maxHeartbeats 4000000
namespace Go.PV.Ytfkkmdelpddojaa
open Go Go.Proofs
theorem grow_ok (n:Nat) (hn:n≤1099511627776) {H:AH} {K:VE→AH→Prop} (hK:∀ v H',OwnX H H' 52 4 v 0 []→K (.ret v) H'):ZO Try.prog 57 [.lit (.slice none 0 0),iV n] H K:=by
 refine Zy fd57 (by simp) ?_;delta c57 Zq Za Zm Zr Ze Zn Zc;replace hK:=Hold.mk hK;have w0:IntKind.i64.wrap ((0:Int)-0)=0:=ZQ (by omega) (by omega);have w1:IntKind.i64.wrap ((n:Int)-0)=(n:Int):=by rw [ZQ (by omega) (by omega)]; omega
 have z0:((0:Nat):Int)=0:=rfl;by_cases h0:0<n
 ·have h0':(0:Int)<(n:Int):=by omega
  have hn0:¬ (n:Int)<0:=by omega
  have hn63:n * 64≤140737488355328:=by omega
  (repeat' (first | (simp only [↓Zt,Zu,↓s_cap,s_capL,intV,Zl9,Zma,reduceCtorEq,Zx,undef,Int.reduceLE,Int.toNat_zero,Xx,Zna,Zm1,Jc,idxV,idxOk,Zab, *]) | (with_reducible refine And.intro ?_ ?_)))
  ·exact fun h=>trivial
  ·refine ⟨52,4,64,_,.i64,.i64,n,Zab,Za9,rfl,by omega,by kernel_rfl,rfl,rfl,h0,hn63,by omega,fun g c hg h1 h2=>?_⟩;have hz:¬ ((c:Int)<0):=by omega
   (repeat' (first | (simp only [↓Zt,Zu,intV,Zl9,Zma,Zm8,Nat.reduceSub,reduceCtorEq,Int.reduceLE,Int.toNat_zero,Xx,Zna,Zm1,Jc,idxV,idxOk,Zab, *]) | (refine ZC ?_) | (with_reducible refine And.intro ?_ ?_)))
   ·exact fun h=>trivial
   ·exact ZmU _
   ·rw [ite_self,Nat.sub_zero];exact hK.out _ _ (.inr ⟨g,c,c * 4,rfl,hg,rfl,by simp,by simp,ZmU _,h2⟩)
 ·have hn:(n:Int)=0:=by omega
  clear w1
  (repeat' (first | (simp only [↓Zt,Zu,↓s_cap,s_capL,intV,Zl9,Zma,reduceCtorEq,Zx,undef,Int.reduceLT,Zab, *]) | (refine ZC ?_)))
  exact hK.out _ _ (OwnX.nil _ _ _)
abbrev pdssE (l:List Pd):List VV:=[pdsV l]
theorem pd_one (a:Pd):(pdE a).all VV.one=true:=rfl
theorem ZlP (ex:Bool) (L:List (List Pd)) (hL:L.length≤1099511627776) (hs:L.flatten.length≤1099511627776):PureF Try.prog 20 [.slice ex L.length (encC pdssE L)] (pdsV L.flatten):=by
 have htk:∀ i,(L.take i).flatten.length≤1099511627776:=fun i=>by
  have e:=congrArg (fun l=>l.flatten.length) (List.take_append_drop i L);simp only [List.flatten_append,ZmB] at e;omega
 refine ZaK.pure fun H=>?_
 refine Zy fd20 (by simp) ?_;delta c20 Zq Zf Za Ze
 (repeat' (first | (simp only [↓Zt,Zu,intV,Zl9,Zma,reduceCtorEq,Zx,undef,Jp, *])))
 refine YJ (fun _ _ _ h=>h) (fun A H'=>H'=H∧A.d=[]∧A.t 0=.slice ex L.length (encC pdssE L)∧A.t 9=.slice ex L.length (encC pdssE L)∧A.t 10=iV L.length∧∃ (i:Nat),i≤L.length∧A.t 11=iV i∧A.t 3=iV ((L.take i).flatten.length:Nat))
  (fun A _=>match A.t 11 with | .lit (.int _ i)=>((L.length:Int)-i).toNat | _=>0) ?_ ?_
 ·exact ⟨rfl,rfl,rfl,rfl,rfl,0,by omega,rfl,rfl⟩
 ·rintro ⟨t,d⟩ H' ⟨rfl,rfl,h0,h9,h10,i,hi,h11,h3⟩;dsimp only at h0 h9 h10 h11 h3;delta b20_1 Zn Zr Zk Zb Zc Za Ze Zm Zq;by_cases hlt:i<L.length
  ·have hil:(i:Int)<(L.length:Int):=by omega
   have hdi:(encC pdssE L).drop i=pdsV L[i]::encC pdssE (L.drop (i+1)):=Zbs (enc:=fun l:List Pd=>pdsV l) hlt;have hsn:(L.take (i+1)).flatten.length=(L.take i).flatten.length+L[i].length:=by rw [XK hlt,List.flatten_append,ZmB]; simp
   have h1:=htk (i+1);have w1:IntKind.i64.wrap (((L.take i).flatten.length:Int)+(L[i].length:Int))=((L.take (i+1)).flatten.length:Int):=by rw [ZQ (by omega) (by omega)]; omega
   have hge:¬ ((L.take (i+1)).flatten.length:Int)<0:=by omega
   clear hsn
   (repeat' (first | (simp only [↓Zt,Zu,intV,Zl9,Zma,reduceCtorEq,ldT_22,Jp,Zab, *]) | (with_reducible refine And.intro ?_ ?_)))
   all_goals rw [ZQ (n:=(i:Int)+1) (by omega) (by omega)]
   ·exact ⟨i+1,by omega,rfl,rfl⟩
   ·omega
  ·have hil:¬ (i:Int)<(L.length:Int):=by omega
   rw [ZmQ (by omega)] at h3
   (repeat' (first | (simp only [↓Zt,Zu,Zma, *])))
   delta c20_2 Za Zo Zr Zc Ze Zq;refine YL rfl (fun _ _ _ h=>h) ?_
   (repeat' (first | (simp only [↓Zt,Zu,intV,Zl9,Zma,reduceCtorEq,Jp,en_57, *]) | (refine grow_ok _ hs (fun v H2 ho=>?_))))
   refine YJ (fun _ _ _ h=>h) (fun A H2=>A.d=[]∧A.t 25=.slice ex L.length (encC pdssE L)∧A.t 26=iV L.length∧∃ (k:Nat) (Hb:AH),k≤L.length∧A.t 27=iV k∧SubH H' Hb∧OwnX Hb H2 52 4 (A.t 6) (L.take k).flatten.length (encC pdE (L.take k).flatten))
    (fun A _=>match A.t 27 with | .lit (.int _ i)=>((L.length:Int)-i).toNat | _=>0) ?_ ?_
   ·exact ⟨rfl,(by simp only [Zv,Zl9,if_true,if_false, *]<;>rfl),(by simp only [Zv,Zl9,if_true,if_false, *]<;>rfl),0,_,by omega,(by simp only [Zv,Zl9,if_true,if_false, *]<;>rfl),SubH.refl _,by simp only [Zv,Zl9,if_true,if_false]; exact ho⟩
   ·clear ho h0 h9 h10 h11 h3;rintro ⟨t,d⟩ H2 ⟨rfl,h25,h26,k,Hb,hk,h27,hsb,ho⟩;dsimp only at h25 h26 h27 ho;delta b20_2 Zn Zr Zk Zb Zc Za Zl Zm;by_cases hkt:k<L.length
    ·have hkl:(k:Int)<(L.length:Int):=by omega
     have hdk:(encC pdssE L).drop k=pdsV L[k]::encC pdssE (L.drop (k+1)):=Zbs (enc:=fun l:List Pd=>pdsV l) hkt;have h1:=htk (k+1);have e:(L.take (k+1)).flatten=(L.take k).flatten++L[k]:=by rw [XK hkt,List.flatten_append]; simp
     rw [e,ZmB] at h1
     (repeat' (first | (simp only [↓Zt,Zu,Zl9,Zma,ldT_22,Jp, *])))
     refine Zbt Zab Za9 rfl (by omega) ho (ZhY (enc:=pdE) (k:=4) (fun _=>rfl) _ false _) (Zf1 pd_one _) (by omega) (by omega) (fun v' H'' ho2=>?_);rw [← YS,← ZmB,← e] at ho2
     (repeat' (first | (simp only [↓Zt,Zu,Zl9,Zma, *]) | (with_reducible refine And.intro ?_ ?_)))
     all_goals rw [ZQ (n:=(k:Int)+1) (by omega) (by omega)]
     ·exact ⟨k+1,_,by omega,rfl,hsb,ho2⟩
     ·omega
    ·have hkl:¬ (k:Int)<(L.length:Int):=by omega
     rw [ZmQ (by omega)] at ho
     (repeat' (first | (simp only [↓Zt,Zu,Zma, *]) | (refine YL rfl (fun _ _ _ h=>h) ?_)))
     delta c20_1 Za Zc
     (repeat' (first | (simp only [↓Zt,Zu,Zl9,Zma, *]) | (refine ZC ?_)))
     exact ⟨_,rfl,GhV.back ho hsb⟩
theorem Zj4 (a b:List Pd) (h:a.length+b.length≤1099511627776):PureF Try.prog 20 [.slice true 2 [pdsV a,pdsV b]] (pdsV (a++b)):=by
 have:=ZlP true [a,b] (by simp) (by simpa using h)
 have e1:encC pdssE [a,b]=[pdsV a,pdsV b]:=by rw [Yg,Yg]; rfl
 have e2:[a,b].flatten=a++b:=by simp
 rw [e1,e2] at this;exact this
theorem idxRit {l:List It} {f:VV} {p:It→Bool} {H:AH} {K:VE→AH→Prop} (hl:l.length≤1099511627776)
 (hf:∀ i (h:i<l.length),FnAt Try.prog f [itV l[i]] (boolV (p l[i])) H) (hK:K (.ret (iV (idxF p l))) H):ZO Try.prog 74 [itsV l,f] H K:=by
 refine Zy fd74 (by simp) ?_;delta c74 Zf Za Ze Zq
 (repeat' (first | (simp only [↓Zt,Zu,intV,Zl9,Zma,reduceCtorEq,Zx,undef,Zdn, *])))
 refine YJ (fun _ _ _ h=>h) (fun A H'=>H'=H∧A.d=[]∧A.t 0=itsV l∧A.t 1=f∧A.t 7=iV l.length∧∃ i:Nat,i≤l.length∧A.t 8=iV i∧∀ j (h:j<l.length),j<i→p l[j]=false)
  (fun A _=>match A.t 8 with | .lit (.int _ i)=>((l.length:Int)-i).toNat | _=>0) ?_ ?_
 ·exact ⟨rfl,rfl,rfl,rfl,rfl,0,by simp,rfl,by simp⟩
 ·rintro ⟨t,d⟩ H' ⟨rfl,rfl,h0,h1,h7,i,hi,h8,hj⟩;dsimp only at h0 h1 h7 h8;delta b74_1 Zn Zr Za Zc Zk Zb Zq Zm;by_cases hlt:i<l.length
  ·have hil:(i:Int)<(l.length:Int):=by omega
   have hdi:=ZbB hlt
   (repeat' (first | (simp only [↓Zt,Zu,boolV,Zl9,Zma,reduceCtorEq,ldT_88,Zdn, *]) | (refine WN ?_ ?_<;>intro) | (refine ZC ?_) | (refine hf _ hlt _ ?_) | (with_reducible refine And.intro ?_ ?_)))
   ·rw [← JH hlt (by assumption) (fun j h=>hj j (by omega) h)];exact hK
   ·rw [ZQ (by omega) (by omega)];refine ⟨i+1,by omega,by simp,fun j h h'=>?_⟩;rcases ZmI j i with h2 | h2
    ·exact hj j h h2
    ·obtain rfl:j=i:=by omega
     assumption
   ·rw [ZQ (by omega) (by omega)];omega
  ·have hil:¬ (i:Int)<(l.length:Int):=by omega
   (repeat' (first | (simp only [↓Zt,Zu,Zma, *]) | (refine YL rfl (fun _ _ _ h=>h) ?_)))
   delta c74_1 Zq
   (repeat' (first | (simp only [↓Zt,Zu,Zl9,Zma,Zm3, *]) | (refine ZC ?_)))
   rw [show (-1:Int)=idxF p l from (Zaq fun j h=>hj j h (by omega)).symm];exact hK
theorem hasRit {l:List It} {f:VV} {p:It→Bool} {H:AH} {K:VE→AH→Prop} (hl:l.length≤1099511627776)
 (hf:∀ i (h:i<l.length),FnAt Try.prog f [itV l[i]] (boolV (p l[i])) H) (hK:K (.ret (boolV (l.any p))) H):ZO Try.prog 38 [itsV l,f] H K:=by
 refine Zy fd38 (by simp) ?_;delta c38 Zq Za Zo Zr Zm Zc;have e:decide (0≤idxF p l)=l.any p:=Zb6;rw [← e] at hK;replace hK:=Hold.mk hK;clear e
 (repeat' (first | (simp only [↓Zt,Zu,Zl9,Zma,reduceCtorEq,Zx,undef,en_74, *]) | (refine ZC ?_) | (refine idxRit hl hf ?_)))
 exact hK.out
theorem ZlQ (i:It):PureF Try.prog 39 [itV i] (boolV (!decide (i.kind=3))):=by
 refine PureF.forget fun H=>?_
 refine Zy fd39 (by simp) ?_;delta c39 Zj Zq Zd Zb Zm Zc;by_cases h:i.kind=3
 ·(repeat' (first | (simp only [↓Zt,Zu,ptrV,boolV,Zl9,Zma,Zx,Zmb,undef,ZiT,Yd, *]) | (refine ZC ?_) | (refine Zw fun zr zh=>?_; have zg:=zh; (try simp only [AH.set_none] at zg)) | (exact SubH.refl _) | (refine SubH.of_set ?_ ?_)))
 ·(repeat' (first | (simp only [↓Zt,Zu,ptrV,boolV,Zl9,Zma,Zx,Zmb,undef,ZiT,Yd, *]) | (refine ZC ?_) | (refine Zw fun zr zh=>?_; have zg:=zh; (try simp only [AH.set_none] at zg)) | (exact SubH.refl _) | (refine SubH.of_set ?_ ?_)))
def allS (p:Pd):Bool:=!p.items.any fun i=>!decide (i.kind=3)
def cntI (l:List Pd):Nat:=(l.map fun p=>p.items.length).sum
def cnt1 (l:List Pd):Nat:=(l.filter fun p=>allS p && decide (p.items.length=1)).length
def cntF (l:List Pd):Nat:=(l.filter fun p=>allS p && !decide (p.items.length=1)).length
theorem sum_snoc {α:Type} (f:α→Nat) (l:List α) (x:α):((l++[x]).map f).sum=(l.map f).sum+f x:=by simp
theorem boolEq {b:Bool} {P Q:Prop} [Decidable P] [Decidable Q] (h:b=true↔¬ P∧Q):b=if P then false else decide Q:=by
 cases b<;>by_cases hP:P<;>by_cases hQ:Q<;>simp_all
def ZcM (g:List Pd) (n:Nat) (most:Int):Bool :=
 if g.length≤8∧(2<cnt1 g∨2<cntF g) then false
 else decide (((g.length≤8∧cntI g≤24)∨500<g.length)∧g.length≤510∧cntI g≤600∧((n:Int)≤most∨(200<n∧n≤210)))
theorem Zf3 (g:List Pd) (l:List Tk) (most:Int) (hg:g.length≤1099511627776) (hs:cntI g≤1099511627776) (hl:l.length≤1099511627776) {lv:VV} (hlv:lv=tksV l∨(l=[]∧lv=.lit (.slice none 0 0))):PureF Try.prog 8 [pdsV g,lv,iV most] (boolV (ZcM g l.length most)):=by
 have hc1:∀ i,cntI (g.take i)≤cntI g:=fun i=>by
  have e:=congrArg cntI (List.take_append_drop i g);unfold cntI at e ⊢;rw [List.map_append,List.sum_append] at e; omega
 have hln:∀ H K,K (.ret (iV l.length)) H→vcLen Try.prog 23 lv H K:=fun H K h=>by
  rcases hlv with rfl | ⟨rfl,rfl⟩<;>exact ⟨by simp [Zkd],h⟩
 clear hlv;refine PureF.forget fun H=>?_
 refine Zy fd8 (by simp) ?_;delta c8 Zq Zf Za Ze
 (repeat' (first | (simp only [↓Zt,Zu,intV,boolV,Zl9,Zma,reduceCtorEq,Zx,undef,Zab, *])))
 refine YJ (fun _ _ _ h=>h) (fun A H'=>SubH H H'∧A.d=[]∧A.t 0=pdsV g∧A.t 1=lv∧A.t 2=iV most∧A.t 12=pdsV g∧A.t 13=iV g.length∧∃ (i:Nat),i≤g.length∧A.t 14=iV i∧A.t 7=iV (cntI (g.take i))∧A.t 8=iV (cnt1 (g.take i))∧A.t 9=iV (cntF (g.take i)))
  (fun A _=>match A.t 14 with | .lit (.int _ i)=>((g.length:Int)-i).toNat | _=>0) ?_ ?_
 ·exact ⟨SubH.refl _,rfl,rfl,rfl,rfl,rfl,rfl,0,by omega,rfl,rfl,rfl,rfl⟩
 ·rintro ⟨t,d⟩ H' ⟨hs',hdd,t0,t1,t2,t12,t13,i,hi,t14,t7,t8,t9⟩;dsimp only at hdd t0 t1 t2 t12 t13 t14 t7 t8 t9;subst hdd;delta b8_1 Zn Zr Zk Zb Zi Zg Za Zd Ze Zc Zo Zq Zm;have f1:cnt1 (g.take i)≤i:=Nat.le_trans (List.length_filter_le _ _) (by rw [ZmV]; omega);have f2:cntF (g.take i)≤i:=Nat.le_trans (List.length_filter_le _ _) (by rw [ZmV]; omega);by_cases hlt:i<g.length
  ·have hil:(i:Int)<(g.length:Int):=by omega
   have hdi:=WG hlt;have hi1:=hc1 (i+1);have s1:cntI (g.take (i+1))=cntI (g.take i)+g[i].items.length:=by unfold cntI; rw [XK hlt,sum_snoc]
   have s2:cnt1 (g.take (i+1))=cnt1 (g.take i)+if (allS g[i] && decide (g[i].items.length=1))=true then 1 else 0:=by
    unfold cnt1; rw [XK hlt,List.filter_append,ZmB]
    congr 1
    cases h:(allS g[i] && decide (g[i].items.length=1))<;>simp [h]
   have s3:cntF (g.take (i+1))=cntF (g.take i)+if (allS g[i] && !decide (g[i].items.length=1))=true then 1 else 0:=by
    unfold cntF; rw [XK hlt,List.filter_append,ZmB]
    congr 1
    cases h:(allS g[i] && !decide (g[i].items.length=1))<;>simp [h]
   have hw:IntKind.wrap .i64 ((i:Int)+1)=((i+1:Nat):Int):=by rw [ZQ (by omega) (by omega)]; rfl
   have hsn:=fun (H:AH) (K:VE→AH→Prop)=>hasRit (l:=g[i].items) (p:=fun i=>!decide (i.kind=3)) (f:=.lit (.func (.func 39) #[] #[])) (H:=H) (K:=K) (by omega) (fun j h=>FnAt.lit en_39 (ZlQ _))
   generalize g[i]=p at *
   have wI:IntKind.wrap .i64 ((cntI (g.take i):Int)+(p.items.length:Int))=(cntI (g.take (i+1)):Int):=by rw [ZQ (by omega) (by omega)]; omega
   have w1:IntKind.wrap .i64 ((cnt1 (g.take i):Int)+1)=((cnt1 (g.take i)+1:Nat):Int):=by rw [ZQ (by omega) (by omega)]; rfl
   have wF:IntKind.wrap .i64 ((cntF (g.take i):Int)+1)=((cntF (g.take i)+1:Nat):Int):=by rw [ZQ (by omega) (by omega)]; rfl
   replace s1:=Hold.mk s1;cases hal:allS p with
   | false =>
     have ha:(p.items.any fun i=>!decide (i.kind=3))=true:=by unfold allS at hal; simpa using hal
     rw [ha] at hsn;rw [hal] at s2 s3;have s2:cnt1 (g.take (i+1))=cnt1 (g.take i):=by simpa using s2
     have s3:cntF (g.take (i+1))=cntF (g.take i):=by simpa using s3
     replace s2:=Hold.mk s2;replace s3:=Hold.mk s3;clear ha hal
     (repeat' (first | (refine hsn _ _ ?_) | (simp only [↓Yt,↓Ya,↓Ye,↓ZZ,↓Yb,↓Yv,↓Ys,↓ZY,↓ZF,↓ZD,↓Jg,↓ZG,↓ZH,↓YX,↓ZJ,↓YY,↓ZI,↓ZP,↓ZU,↓Zv,↓ZR,↓ZE,↓ZS,↓YR,↓Yy,↓s_un,↓Xn,↓ZA,↓ZN,↓ZX,↓ZK,↓ZL,↓Xk,↓Yj,↓Yl,↓Yz,ptrV,intV,boolV,Zmd,Zmg,Zmi,Zml,ite_true,ite_false,Zl9,Zma,Zmj,ne_eq,not_false_eq_true,true_and,Zme,decide_true,ZmK,reduceCtorEq,ZmL,Zmw,AH.get,AH.set_set,setAt,Zmz,ZmJ,Zmp,eq_self,Zmh,Zmb,and_self,Yq,Jk,Wc,WM,YB,Ws,Zmn,Zmy,↓Xo,YP,Zmc,WC,Yn,YK,WE,XG,XA,Yo,WD,Yp,YG,Wf,Wg,Zdw,Zh9,Zib,Zia,Za9,Zab,Zdn,en_38, *]) | (refine Zw fun zr zh=>?_; have zg:=zh; (try simp only [AH.set_none] at zg)) | (refine SubH.of_set ?_ ?_) | (exact SubH.none (by assumption) (by assumption)) | (with_reducible refine And.intro ?_ ?_)))
     ·exact ⟨i+1,by omega,rfl,rfl,by rw [s2.out],by rw [s3.out]⟩
     ·omega
   | true =>
     have ha:(p.items.any fun i=>!decide (i.kind=3))=false:=by unfold allS at hal; simpa using hal
     rw [ha] at hsn;rw [hal] at s2 s3;clear ha hal;by_cases h1:p.items.length=1
     ·have s2:cnt1 (g.take (i+1))=cnt1 (g.take i)+1:=by simpa [h1] using s2
      have s3:cntF (g.take (i+1))=cntF (g.take i):=by simpa [h1] using s3
      have h1i:(p.items.length:Int)=1:=by omega
      have wI1:IntKind.wrap .i64 ((cntI (g.take i):Int)+1)=(cntI (g.take (i+1)):Int):=by have:=s1.out; rw [ZQ (by omega) (by omega)]; omega
      replace s2:=Hold.mk s2;replace s3:=Hold.mk s3;clear h1
      (repeat' (first | (refine hsn _ _ ?_) | (simp only [↓Yt,↓Ya,↓Ye,↓ZZ,↓Yb,↓Ys,↓ZY,↓ZF,↓ZD,↓Jg,↓ZG,↓ZH,↓YX,↓ZJ,↓YY,↓ZI,↓ZP,↓ZU,↓Zv,↓ZR,↓ZE,↓ZS,↓YR,↓Yy,↓s_un,↓Xn,↓ZA,↓ZN,↓ZX,↓ZK,↓ZL,↓Xk,↓Yj,↓Yl,↓Yr,↓Yz,ptrV,intV,boolV,Zmd,Zmg,Zmi,Zml,ite_true,ite_false,Zl9,Zma,Zmj,ne_eq,not_false_eq_true,true_and,Zme,decide_true,ZmG,reduceCtorEq,ZmL,Zmw,AH.get,AH.set_set,setAt,Zmz,ZmJ,Zmp,eq_self,Zmh,Zmb,and_self,Yq,Jk,Wc,WM,YB,Ws,Zmn,Zmy,↓Xo,YP,Zmc,WC,Yn,YK,WE,XG,XA,Yo,WD,Yp,YG,Wf,Wg,Zdw,Zh9,Zib,Zia,Za9,Zab,Zdn,en_38, *]) | (refine Zw fun zr zh=>?_; have zg:=zh; (try simp only [AH.set_none] at zg)) | (refine SubH.of_set ?_ ?_) | (exact SubH.none (by assumption) (by assumption)) | (with_reducible refine And.intro ?_ ?_)))
      ·exact ⟨i+1,by omega,rfl,rfl,by rw [s2.out],by rw [s3.out]⟩
      ·omega
     ·have s2:cnt1 (g.take (i+1))=cnt1 (g.take i):=by simpa [h1] using s2
      have s3:cntF (g.take (i+1))=cntF (g.take i)+1:=by simpa [h1] using s3
      have h1i:¬ (p.items.length:Int)=1:=by omega
      replace s2:=Hold.mk s2;replace s3:=Hold.mk s3;clear h1
      (repeat' (first | (refine hsn _ _ ?_) | (simp only [↓Yt,↓Ya,↓Ye,↓ZZ,↓Yb,↓Yv,↓Ys,↓ZY,↓ZF,↓ZD,↓Jg,↓ZG,↓ZH,↓YX,↓ZJ,↓YY,↓ZI,↓ZP,↓ZU,↓Zv,↓ZR,↓ZE,↓ZS,↓YR,↓Yy,↓s_un,↓Xn,↓ZA,↓ZN,↓ZX,↓ZK,↓ZL,↓Xk,↓Yj,↓Yl,↓Yr,↓Yz,ptrV,intV,boolV,Zmd,Zmg,Zmi,Zml,ite_true,ite_false,Zl9,Zma,Zmj,ne_eq,not_false_eq_true,true_and,Zme,decide_true,decide_false,ZmG,reduceCtorEq,ZmL,Zmw,AH.get,AH.set_set,setAt,Zmz,ZmJ,Zmp,eq_self,Zmh,Zmb,and_self,Yq,Jk,Wc,WM,YB,Ws,Zmn,Zmy,↓Xo,YP,Zmc,WC,Yn,YK,WE,XG,XA,Yo,WD,Yp,YG,Wf,Wg,Zdw,Zh9,Zib,Zia,Za9,Zab,Zdn,en_38, *]) | (refine Zw fun zr zh=>?_; have zg:=zh; (try simp only [AH.set_none] at zg)) | (refine SubH.of_set ?_ ?_) | (exact SubH.none (by assumption) (by assumption)) | (with_reducible refine And.intro ?_ ?_)))
      ·exact ⟨i+1,by omega,rfl,rfl,by rw [s2.out],by rw [s3.out]⟩
      ·omega
  ·have hil:¬ (i:Int)<(g.length:Int):=by omega
   rw [show g.take i=g from ZmQ (by omega)] at t7 t8 t9;clear hc1 f1 f2;unfold ZcM;generalize cntI g=nI at *
   generalize cnt1 g=n1 at *
   generalize cntF g=nF at *
   (repeat' (first | (simp only [↓Zt,Zu,Zma, *]) | (refine YL rfl (fun _ _ _ h=>h) ?_)))
   delta c8_1 Za Ze Zm Zp Zr Zq Zc
   (repeat' (first | (refine hln _ _ ?_) | (simp only [↓Yt,↓Ya,↓Ye,↓ZZ,↓Yb,↓Yv,↓Xe,↓ZY,↓ZF,↓Yk,↓Yx,↓WJ,↓YZ,↓YN,ZaB,↓ZD,↓Xs,↓ZG,↓ZH,↓ZJ,↓ZI,↓ZP,↓Zv,↓ZR,↓ZE,↓ZV,↓Ym,↓YE,↓Yy,↓ZX,↓Xk,↓YV,↓ZaX,intV,Zmd,Zmg,ite_true,ite_false,Zl9,Zma,ne_eq,not_false_eq_true,true_and,and_true,Zmv,Zme,decide_true,decide_false,reduceCtorEq,Yc,Zx,eq_self,XA,undef,Zab, *]) | (refine XU ?_ ?_<;>intro) | (refine ZbN ?_ ?_<;>intro) | (refine Jw ?_ ?_<;>intro) | (refine ZC ?_)))
   all_goals refine congrArg (fun b=>VE.ret (VV.lit (Value.bool b))) (boolEq ?_)
   all_goals simp only [Zmv,decide_eq_true_eq,true_iff,false_iff,false_or,true_or,and_true]
   all_goals omega
end Go.PV.Ytfkkmdelpddojaa
end
section
open Bool renaming and_eq_true→ZmA
open List renaming length_cons→Zmi,getElem_mem→ZmE,append_nil→ZmF,append_assoc→Zm7,length_append→ZmB,eq_nil_of_length_eq_zero→Znd,nodup_nil→Zm0
open Nat renaming le_refl→Zmc
set_option maxRecDepth 20000
set_option maxHeartbeats 4000000
namespace Go.PV.Ytfkkmdelpddojaa
open Go Go.Proofs
inductive Mt (g:List Pd) (l:List Tk):List It→Nat→Nat→Prop
 | nil (f:Nat):Mt g l [] f f
 | tok {i:It} {is:List It} {f t:Nat}:¬ i.kind=3→f<l.length→takeF i (tkAt l f)=true→Mt g l is (f+1) t→Mt g l (i::is) f t
 | sym {i:It} {is:List It} {f m t:Nat} (q:Nat):i.kind=3→q<g.length→YH (pdAt g q) i.text i.prio=true→Mt g l (pdAt g q).items f m→Mt g l is m t→Mt g l (i::is) f t
theorem Mt.app {g:List Pd} {l:List Tk} {a b:List It} {f m t:Nat} (h:Mt g l a f m) (h':Mt g l b m t):Mt g l (a++b) f t:=by
 induction h with
 | nil=>exact h'
 | tok h1 h2 h3 _ ih=>exact .tok h1 h2 h3 (ih h')
 | sym q h1 h2 h3 h4 _ _ ih=>exact .sym q h1 h2 h3 h4 (ih h')
theorem Mt.le {g:List Pd} {l:List Tk} (hp:∀ p∈g,1≤p.items.length) {a:List It} {f t:Nat} (h:Mt g l a f t):f+a.length≤t:=by
 induction h with
 | nil=>simp
 | tok h1 h2 h3 _ ih=>rw [Zmi]; omega
 | sym q h1 h2 h3 h4 _ ih1 ih2 =>
   rw [Zmi]
   have:=hp (pdAt g q) (by rw [Xa h2]; exact ZmE h2)
   omega
theorem Mt.end_ {g:List Pd} {l:List Tk} {a:List It} {f t:Nat} (h:Mt g l a f t) (hf:f≤l.length):t≤l.length:=by
 induction h with
 | nil=>exact hf
 | tok h1 h2 h3 _ ih=>exact ih (by omega)
 | sym q h1 h2 h3 h4 _ ih1 ih2=>exact ih2 (ih1 hf)
theorem ZlR (g:List Pd) (out:List Int) (k:Nat):∃ l,prodK g out k=out++l:=by
 unfold prodK;split
 ·exact ⟨[],(ZmF _).symm⟩
 ·exact ⟨_,rfl⟩
theorem ZfG (g:List Pd) (out:List Int):∀ k,∃ l,XC g out k=out++l
 | 0=>⟨[],(ZmF _).symm⟩
 | k+1=>by
   obtain ⟨a,ha⟩:=ZfG g out k;obtain ⟨b,hb⟩:=ZlR g (XC g out k) k;exact ⟨a++b,by show prodK g (XC g out k) k=_; rw [hb,ha,Zm7]⟩
theorem ZeF (g:List Pd) (out:List Int) {k:Nat}:∀ m,(XC g out k).length≤(XC g out (k+m)).length
 | 0=>Zmc _
 | m+1=>Nat.le_trans (ZeF g out m) (Zg8 _ _ _)
def Zjj (g:List Pd) (out:List Int):Prop:=∀ k:Nat,k<g.length→(k:Int)∈out∨(pdAt g k).items.any (Zbh g out)=true
theorem ZiJ {g:List Pd} {out:List Int} (h:(XC g out g.length).length=out.length):XC g out g.length=out∧Zjj g out:=by
 have hs:∀ k,k≤g.length→XC g out k=out:=fun k hk=>by
  obtain ⟨a,ha⟩:=ZfG g out k;have h1:=ZeF g out (k:=k) (g.length-k);rw [show k+(g.length-k)=g.length by omega,h,ha,ZmB] at h1
  have:a=[]:=Znd (by omega)
  rw [ha,this,ZmF]
 refine ⟨hs _ (Zmc _),fun k hk=>?_⟩;have h1:prodK g (XC g out k) k=out:=hs (k+1) hk;rw [hs k (by omega)] at h1;unfold prodK at h1;split at h1
 ·assumption
 ·have:=congrArg List.length h1
  simp at this
theorem ZeG {g:List Pd}:∀ (n:Nat) {out:List Int},inG g out→out.Nodup→g.length<n+out.length→Zjj g (JL g n out)
 | 0,out,h1,h2,h=>by have:=JZ h2 h1; omega
 | n+1,out,h1,h2,h=>by
   unfold JL;split
   ·rename_i e;obtain ⟨e1,e2⟩:=ZiJ e;rw [e1]; exact e2
   ·rename_i e
    have:=Zbw g out g.length
    exact ZeG n (Zcm h1 _ (Zmc _)) (Zcn h2 _) (by omega)
theorem ZfH (g:List Pd):∀ k:Nat,k<g.length→(∀ i∈(pdAt g k).items,i.kind=3→∃ q∈prodF g,YH (pdAt g q) i.text i.prio=true)→(k:Int)∈prodF g:=fun k hk h=>by
 have hm:∀ q,q∈prodF g↔q∈JL g (g.length+1) []:=fun q=>(Jb _).mem_iff
 rcases ZeG (g:=g) (g.length+1) (out:=[]) (fun _ h=>by cases h) Zm0 (by simp) k hk with h' | h'
 ·exact (hm _).2 h'
 ·obtain ⟨i,hi,hl⟩:=List.any_eq_true.1 h';unfold Zbh at hl;rw [ZmA,decide_eq_true_eq] at hl;obtain ⟨q,hq,hs⟩:=h i hi hl.1
  have:outHas g (JL g (g.length+1) []) i=true:=List.any_eq_true.2 ⟨q,(hm q).1 hq,hs⟩
  rw [this] at hl;exact absurd hl.2 (by simp)
theorem Mt.served {g:List Pd} {l:List Tk} {a:List It} {f t:Nat} (h:Mt g l a f t):∀ i∈a,i.kind=3→∃ q∈prodF g,YH (pdAt g q) i.text i.prio=true:=by
 induction h with
 | nil=>intro i hi; cases hi
 | tok h1 h2 h3 _ ih =>
   intro i hi hk;rcases List.mem_cons.1 hi with rfl | hi
   ·exact absurd hk h1
   ·exact ih i hi hk
 | sym q h1 h2 h3 h4 _ ih1 ih2 =>
   intro i hi hk;rcases List.mem_cons.1 hi with rfl | hi
   ·exact ⟨q,ZfH g q h2 ih1,h3⟩
   ·exact ih2 i hi hk
theorem Mt.prod {g:List Pd} {l:List Tk} {q f t:Nat} (hq:q<g.length) (h:Mt g l (pdAt g q).items f t):(q:Int)∈prodF g:=ZfH g q hq h.served
end Go.PV.Ytfkkmdelpddojaa
end
section
open Bool renaming and_eq_true→ZmA
open List renaming mem_singleton→Zm2,getElem?_eq_getElem→ZmW,getElem?_eq_none→ZmS,append_nil→ZmF,length_take→ZmV,getElem_mem→ZmE,take_of_length_le→ZmQ,take_succ_eq_append_getElem→Znf
open Nat renaming lt_or_ge→ZmI
set_option maxRecDepth 20000
set_option maxHeartbeats 4000000
namespace Go.PV.Ytfkkmdelpddojaa
open Go Go.Proofs
abbrev stC (C:Ch) (e:Nat):List St:=(C.sets e).st
theorem Zh0 (C:Ch) (i:Nat) (x:St) (e:Nat) (y:St):y∈stC (C.add i x) e↔y∈stC C e∨(e=i∧y=x):=by
 show y∈((C.add i x).sets e).st↔_;rw [Zil];by_cases h:e=i∧¬ x∈(C.sets i).st
 ·rw [if_pos h,List.mem_append,Zm2];exact ⟨fun h'=>h'.elim .inl fun h'=>.inr ⟨h.1,h'⟩,fun h'=>h'.elim .inl fun h'=>.inr h'.2⟩
 ·rw [if_neg h];refine ⟨.inl,fun h'=>h'.elim id fun ⟨h1,h2⟩=>?_⟩;subst h1 h2;by_cases hx:y∈(C.sets e).st
  ·exact hx
  ·exact absurd ⟨rfl,hx⟩ h
theorem Zf4 {α:Type} {f:Ch→α→Ch} {R:α→Nat→St→Prop} (hf:∀ C a e y,y∈stC (f C a) e↔y∈stC C e∨R a e y):∀ (l:List α) (C:Ch) (e:Nat) (y:St),y∈stC (l.foldl f C) e↔y∈stC C e∨∃ a∈l,R a e y
 | [],C,e,y=>by simp
 | a::l,C,e,y=>by
   rw [List.foldl_cons,Zf4 hf l,hf];simp only [List.mem_cons,exists_eq_or_imp]
   constructor
   ·rintro ((h | h) | h)
    ·exact .inl h
    ·exact .inr (.inl h)
    ·exact .inr (.inr h)
   ·rintro (h | h | h)
    ·exact .inl (.inl h)
    ·exact .inl (.inr h)
    ·exact .inr h
theorem ZdJ (g:List Pd) (by_:ByteArray→List Int) (i:Nat) (sym:ByteArray) (least:Int) (C:Ch) (e:Nat) (y:St):y∈stC (predF g by_ i sym least C) e↔y∈stC C e∨∃ k∈by_ sym,least≤(pdAt g k).prio∧e=i∧y=⟨k.toNat,0,i⟩:=by
 refine Zf4 (R:=fun k e y=>least≤(pdAt g k).prio∧e=i∧y=⟨k.toNat,0,i⟩) (fun C k e y=>?_) _ C e y;unfold predK;split
 ·rename_i h;rw [Zh0]; simp [h]
 ·rename_i h;simp [h]
theorem ZlS (g:List Pd) (x:St) (i:Nat) (C:Ch) (e:Nat) (y:St):y∈stC (complF g x i C) e↔y∈stC C e∨∃ w∈(C.sets x.start).wt (pdAt g x.prod).left,(itemF g w).1.prio≤(pdAt g x.prod).prio∧e=i∧y=⟨w.prod,w.dot+1,w.start⟩:=by
 refine Zf4 (R:=fun w e y=>(itemF g w).1.prio≤(pdAt g x.prod).prio∧e=i∧y=⟨w.prod,w.dot+1,w.start⟩) (fun C w e y=>?_) _ (C.fin (x.start,i) x.prod) e y;unfold complK;split
 ·rename_i h;rw [Zh0]; simp [h]
 ·rename_i h;simp [h]
theorem Zh1 (C:Ch) (i:Nat) (s:ByteArray) (x:St) (e:Nat):stC (C.wait i s x) e=stC C e:=by
 show ((C.wait i s x).sets e).st=_;unfold Ch.wait upS;by_cases h:e=i
 ·subst h; simp
 ·simp [h]
def newS (g:List Pd) (l:List Tk) (by_:ByteArray→List Int) (C:Ch) (i:Nat) (x:St) (e:Nat) (y:St):Prop:=match Xf g x with
 | none=>∃ w∈(C.sets x.start).wt (pdAt g x.prod).left,(itemF g w).1.prio≤(pdAt g x.prod).prio∧e=i∧y=⟨w.prod,w.dot+1,w.start⟩
 | some it=>if it.kind=3 then ∃ k∈by_ it.text,it.prio≤(pdAt g k).prio∧e=i∧y=⟨k.toNat,0,i⟩ else i<l.length∧takeF it (tkAt l i)=true∧e=i+1∧y=⟨x.prod,x.dot+1,x.start⟩
theorem step_mem (g:List Pd) (l:List Tk) (by_:ByteArray→List Int) (i:Nat) (C:Ch) (x:St) (e:Nat) (y:St):y∈stC (stepR g l by_ i C x) e↔y∈stC C e∨newS g l by_ C i x e y:=by
 unfold stepR newS;cases he:Xf g x with
 | none=>exact ZlS g x i C e y
 | some it =>
   dsimp only;by_cases h3:it.kind=3
   ·rw [if_pos h3,if_pos h3,ZdJ,Zh1]
   ·rw [if_neg h3,if_neg h3];cases ht:l[i]? with
    | none =>
      have:¬ i<l.length:=fun h=>by rw [ZmW h] at ht; cases ht
      simp [this]
    | some t =>
      have hi:i<l.length:=by
       rcases ZmI i l.length with h | h
       ·exact h
       ·rw [ZmS h] at ht; cases ht
      have hta:tkAt l i=t:=by unfold tkAt; rw [ht]
      rw [hta];dsimp only;by_cases hk:takeF it t=true
      ·rw [if_pos hk,Zh0]; simp [hi,hk]
      ·rw [if_neg hk]; simp [hk]
theorem step_gr (g:List Pd) (l:List Tk) (by_:ByteArray→List Int) (i:Nat) (C:Ch) (x:St):(∀ j,j<i→stC (stepR g l by_ i C x) j=stC C j)∧∀ j,∃ m,stC (stepR g l by_ i C x) j=stC C j++m:=by
 unfold stepR;cases he:Xf g x with
 | none =>
   have h:=ZfD g x i C;exact ⟨fun j hj=>h.old j hj,fun j=>h.pre j⟩
 | some it =>
   dsimp only;by_cases h3:it.kind=3
   ·rw [if_pos h3];have h:=Zem g by_ i it.text it.prio (C.wait i it.text x);refine ⟨fun j hj=>(h.old j hj).trans (Zh1 _ _ _ _ _),fun j=>?_⟩;obtain ⟨m,hm⟩:=h.pre j;exact ⟨m,hm.trans (by rw [show ((C.wait i it.text x).sets j).st=stC C j from Zh1 _ _ _ _ _])⟩
   ·rw [if_neg h3];split
    ·split
     ·have h:=ExtC.add (i:=i) (j:=i+1) C ⟨x.prod,x.dot+1,x.start⟩ (by omega);exact ⟨fun j hj=>h.old j hj,fun j=>h.pre j⟩
     ·exact ⟨fun _ _=>rfl,fun j=>⟨[],(ZmF _).symm⟩⟩
    ·exact ⟨fun _ _=>rfl,fun j=>⟨[],(ZmF _).symm⟩⟩
def clo (g:List Pd) (l:List Tk) (by_:ByteArray→List Int) (C:Ch) (e:Nat) (x:St):Prop:=match Xf g x with
 | none=>∀ w∈stC C x.start,∀ it,Xf g w=some it→it.kind=3→YH (pdAt g x.prod) it.text it.prio=true→⟨w.prod,w.dot+1,w.start⟩∈stC C e
 | some it=>if it.kind=3 then ∀ k∈by_ it.text,it.prio≤(pdAt g k).prio→⟨k.toNat,0,e⟩∈stC C e else e<l.length→takeF it (tkAt l e)=true→⟨x.prod,x.dot+1,x.start⟩∈stC C (e+1)
structure Iv (g:List Pd) (l:List Tk) (sym:ByteArray) (least:Int) (C:Ch) (i k:Nat):Prop where
 rd:Rd g l.length C i k
 snd:∀ e,e≤l.length→∀ x∈stC C e,Mt g l ((pdAt g x.prod).items.take x.dot) x.start e
 clo:∀ e,e≤l.length→∀ x∈prS C i k e,clo g l (byF g) C e x
 emp:∀ e,(if k=0 then i<e else i+1<e)→stC C e=[]
 ini:∀ q∈byF g sym,least≤(pdAt g q).prio→⟨q.toNat,0,0⟩∈stC C 0
theorem Iv.lt {g:List Pd} {l:List Tk} {sym:ByteArray} {least:Int} {C:Ch} {i k:Nat} (hG:GOk g l.length) (h:Iv g l sym least C i k) {e:Nat} (he:e≤l.length) {x:St} (hx:x∈stC C e):x.start+x.dot≤e:=by
 have h1:=(h.snd e he x hx).le hG.pos;have h2:=h.rd.gd.ok e he x hx;rw [ZmV,Nat.min_eq_left h2.2.1] at h1;exact h1
theorem Zb3 {g:List Pd} {x:St} (h:Xf g x=none):(pdAt g x.prod).items.length≤x.dot:=List.getElem?_eq_none_iff.1 h
theorem ZeH {g:List Pd} {x:St} {it:It} (h:Xf g x=some it):∃ hd:x.dot<(pdAt g x.prod).items.length,(pdAt g x.prod).items[x.dot]=it:=List.getElem?_eq_some_iff.1 h
theorem ZfI {g:List Pd} {L:List St} {s:ByteArray} {w:St}:w∈ZcK g L s↔w∈L∧∃ it,Xf g w=some it∧it.kind=3∧it.text=s:=by
 unfold ZcK;rw [List.mem_filter];unfold isWt;cases h:Xf g w with
 | none=>simp
 | some it=>simp
theorem Zk9 {C:Ch} {i k j:Nat} {x:St} (h:x∈prS C i k j):x∈stC C j:=by
 unfold prS at h;split at h
 ·exact h
 ·split at h
  ·exact List.mem_of_mem_take h
  ·cases h
theorem ZfJ {g:List Pd} {w:St} {it:It} (h:Xf g w=some it):(itemF g w).1=it:=by
 unfold itemF;unfold Xf at h;rw [h]
theorem Iv.step {g:List Pd} {l:List Tk} {sym:ByteArray} {least:Int} (hG:GOk g l.length) {C:Ch} {i k:Nat} {x:St} (h:Iv g l sym least C i k) (hi:i≤l.length) (hx:(C.sets i).st[k]?=some x):Iv g l sym least (stepR g l (byF g) i C x) i (k+1):=by
 obtain ⟨hk,hxe⟩:=List.getElem?_eq_some_iff.1 hx;have hxm:x∈stC C i:=by rw [← hxe]; exact ZmE hk
 have hrd:=h.rd.step (Zdr g) hi hx;obtain ⟨g1,g2⟩:=step_gr g l (byF g) i C x;have hm:=step_mem g l (byF g) i C x;have hok:=h.rd.gd.ok i hi x hxm;have hsub:∀ e y,y∈stC C e→y∈stC (stepR g l (byF g) i C x) e:=fun e y hy=>(hm e y).2 (.inl hy)
 have hlow:∀ e y,e<i→y∈stC (stepR g l (byF g) i C x) e→y∈stC C e:=fun e y he hy=>by rw [g1 e he] at hy; exact hy
 refine ⟨hrd,fun e he y hy=>?_,fun e he y hy=>?_,fun e he=>?_,fun q hq hp=>hsub _ _ (h.ini q hq hp)⟩
 ·rcases (hm e y).1 hy with hy | hy
  ·exact h.snd e he y hy
  ·unfold newS at hy;cases hit:Xf g x with
   | none =>
     rw [hit] at hy;obtain ⟨w,hw,hp,rfl,rfl⟩:=hy;rw [h.rd.wt _ _ hok.2.2] at hw;obtain ⟨hw1,it,hw2,hw3,hw4⟩:=ZfI.1 hw;obtain ⟨hd,hde⟩:=ZeH hw2;have hxs:=h.snd e hi x hxm;rw [ZmQ (Zb3 hit)] at hxs;have hws:=h.snd _ hok.2.2 w (Zk9 hw1);show Mt g l ((pdAt g w.prod).items.take (w.dot+1)) w.start e;rw [Znf hd,hde];refine hws.app (.sym x.prod hw3 hok.1 ?_ hxs (.nil _));rw [ZfJ hw2] at hp;unfold YH;rw [ZmA,decide_eq_true_eq,decide_eq_true_eq];exact ⟨hw4.symm,hp⟩
   | some it =>
     rw [hit] at hy;dsimp only at hy;by_cases h3:it.kind=3
     ·rw [if_pos h3] at hy;obtain ⟨q,hq,hp,rfl,rfl⟩:=hy;exact .nil _
     ·rw [if_neg h3] at hy;obtain ⟨hl,ht,rfl,rfl⟩:=hy;obtain ⟨hd,hde⟩:=ZeH hit;show Mt g l ((pdAt g x.prod).items.take (x.dot+1)) x.start (i+1);rw [Znf hd,hde];exact (h.snd i hi x hxm).app (.tok h3 hl ht (.nil _))
 ·have hpr:y∈prS C i k e∨(e=i∧y=x):=by
   unfold prS at hy ⊢;by_cases h1:e<i
   ·rw [if_pos h1] at hy ⊢;exact .inl (hlow e y h1 hy)
   ·rw [if_neg h1] at hy ⊢;by_cases h2:e=i
    ·subst h2;rw [if_pos rfl] at hy ⊢;obtain ⟨m,hm2⟩:=g2 e
     have e2:(stC (stepR g l (byF g) e C x) e).take (k+1)=(stC C e).take k++[x]:=by
      rw [hm2,List.take_append_of_le_length (by show k+1≤(C.sets e).st.length; omega),Znf hk];rw [hxe]
     rw [e2,List.mem_append,Zm2] at hy;exact hy.imp id fun h=>⟨rfl,h⟩
    ·rw [if_neg h2] at hy; cases hy
  have hyC:y∈stC C e:=hpr.elim Zk9 fun h=>by rw [h.1,h.2]; exact hxm
  have hlt:=h.lt hG he hyC;have hoy:=h.rd.gd.ok e he y hyC
  have hei:e≤i:=by
   rcases hpr with h' | h'
   ·unfold prS at h';split at h'
    ·omega
    ·split at h'
     ·omega
     ·cases h'
   ·omega
  unfold Go.PV.Ytfkkmdelpddojaa.clo;cases hit:Xf g y with
  | none =>
    dsimp only;have hdl:=Zb3 hit;have hpos:=hG.pos (pdAt g y.prod) (by rw [Xa hoy.1]; exact ZmE hoy.1);intro w hw it hw2 hw3 hsv;have hw':=hlow _ _ (by omega) hw;rcases hpr with hpr | ⟨rfl,rfl⟩
    ·have hc:=h.clo e he y hpr;unfold Go.PV.Ytfkkmdelpddojaa.clo at hc;rw [hit] at hc;exact hsub _ _ (hc w hw' it hw2 hw3 hsv)
    ·refine (hm _ _).2 (.inr ?_);unfold newS;rw [hit];unfold YH at hsv;rw [ZmA,decide_eq_true_eq,decide_eq_true_eq] at hsv;refine ⟨w,?_,by rw [ZfJ hw2]; exact hsv.2,rfl,rfl⟩;rw [h.rd.wt _ _ hoy.2.2];refine ZfI.2 ⟨?_,it,hw2,hw3,hsv.1.symm⟩;unfold prS;rw [if_pos (by omega)];exact hw'
  | some it =>
    dsimp only;by_cases h3:it.kind=3
    ·rw [if_pos h3];intro q hq hp;rcases hpr with hpr | ⟨rfl,rfl⟩
     ·have hc:=h.clo e he y hpr;unfold Go.PV.Ytfkkmdelpddojaa.clo at hc;rw [hit] at hc;dsimp only at hc;rw [if_pos h3] at hc;exact hsub _ _ (hc q hq hp)
     ·refine (hm _ _).2 (.inr ?_);unfold newS;rw [hit];dsimp only;rw [if_pos h3];exact ⟨q,hq,hp,rfl,rfl⟩
    ·rw [if_neg h3];intro hl ht;rcases hpr with hpr | ⟨rfl,rfl⟩
     ·have hc:=h.clo e he y hpr;unfold Go.PV.Ytfkkmdelpddojaa.clo at hc;rw [hit] at hc;dsimp only at hc;rw [if_neg h3] at hc;exact hsub _ _ (hc hl ht)
     ·refine (hm _ _).2 (.inr ?_);unfold newS;rw [hit];dsimp only;rw [if_neg h3];exact ⟨hl,ht,rfl,rfl⟩
 ·rw [if_neg (by omega)] at he;have h0:stC C e=[]:=h.emp e (by split<;>omega);refine List.eq_nil_iff_forall_not_mem.2 fun y hy=>?_
  rcases (hm e y).1 hy with hy | hy
  ·rw [h0] at hy; cases hy
  ·unfold newS at hy;cases hit:Xf g x with
   | none=>rw [hit] at hy; obtain ⟨w,_,_,h',_⟩:=hy; omega
   | some it =>
     rw [hit] at hy;dsimp only at hy;split at hy
     ·obtain ⟨_,_,_,h',_⟩:=hy; omega
     ·obtain ⟨_,_,h',_⟩:=hy; omega
end Go.PV.Ytfkkmdelpddojaa
end
section
open Bool renaming and_eq_true→ZmA
open Int renaming toNat_natCast→Zmw
open List renaming drop_eq_nil_of_le→Znb,drop_eq_getElem_cons→ZmY,getElem?_eq_getElem→ZmW,drop_zero→Zm4,getElem?_eq_none→ZmS,take_of_length_le→ZmQ
open Nat renaming lt_or_ge→ZmI,le_refl→Zmc
set_option maxRecDepth 20000
set_option maxHeartbeats 4000000
namespace Go.PV.Ytfkkmdelpddojaa
open Go Go.Proofs
theorem Iv.up {g:List Pd} {l:List Tk} {sym:ByteArray} {least:Int} {C:Ch} {i:Nat} (h:Iv g l sym least C i (C.sets i).st.length):Iv g l sym least C (i+1) 0:=by
 have hp:∀ j,prS C (i+1) 0 j=prS C i (C.sets i).st.length j:=fun j=>by
  unfold prS;by_cases h1:j<i
  ·rw [if_pos h1,if_pos (by omega)]
  ·rw [if_neg h1];by_cases h2:j=i
   ·subst h2; rw [if_pos rfl,if_pos (by omega),List.take_length]
   ·rw [if_neg h2,if_neg (by omega)]
    split<;>simp
 exact ⟨h.rd.up,h.snd,fun e he x hx=>h.clo e he x (by rw [← hp]; exact hx),fun e he=>h.emp e (by rw [if_pos rfl] at he; split<;>omega),h.ini⟩
theorem Zla {g:List Pd} {l:List Tk} {sym:ByteArray} {least:Int} (hG:GOk g l.length) {i:Nat} (hi:i≤l.length):∀ (f k:Nat) (C:Ch),Iv g l sym least C i k→20000<f+k→Iv g l sym least (setR g l (byF g) i f k C) (i+1) 0
 | 0,k,C,h,hf=>by
   have:=h.rd.gd.len hG hi
   have:=h.rd.kl
   omega
 | f+1,k,C,h,hf=>by
   unfold setR;cases hx:(C.sets i).st[k]? with
   | some x=>exact Zla hG hi f (k+1) _ (h.step hG hi hx) (by omega)
   | none =>
     have h1:=List.getElem?_eq_none_iff.1 hx;have h2:=h.rd.kl
     have:k=(C.sets i).st.length:=by omega
     subst this;exact h.up
theorem Zjk {g:List Pd} {l:List Tk} {sym:ByteArray} {least:Int} (hG:GOk g l.length):∀ (m i:Nat) (C:Ch),Iv g l sym least C i 0→i+m=l.length+1→∃ j,j≤l.length+1∧Iv g l sym least (readR g l (byF g) m i C) j 0∧(j=l.length+1∨stC (readR g l (byF g) m i C) j=[])
 | 0,i,C,h,hm=>⟨i,by omega,h,.inl (by omega)⟩
 | m+1,i,C,h,hm=>by
   unfold readR;split
   ·rename_i he;exact ⟨i,by omega,h,.inr he⟩
   ·exact Zjk hG m (i+1) _ (Zla hG (by omega) 20001 0 C h (by omega)) (by omega)
theorem first_iv (g:List Pd) (l:List Tk) (sym:ByteArray) (least:Int):Iv g l sym least (predF g (byF g) 0 sym least C0) 0 0:=by
 have h0:∀ e,stC C0 e=[]:=fun _=>rfl
 refine ⟨ZdG (Zdr g) sym least,fun e he x hx=>?_,fun e he x hx=>?_,fun e he=>?_,fun q hq hp=>?_⟩
 ·rcases (ZdJ _ _ _ _ _ _ e x).1 hx with h | ⟨k,hk,hp,rfl,rfl⟩
  ·rw [h0] at h; cases h
  ·exact .nil _
 ·unfold prS at hx;rw [if_neg (by omega)] at hx;split at hx
  ·rw [List.take_zero] at hx; cases hx
  ·cases hx
 ·rw [if_pos rfl] at he;refine List.eq_nil_iff_forall_not_mem.2 fun y hy=>?_
  rcases (ZdJ _ _ _ _ _ _ e y).1 hy with h | ⟨k,hk,hp,h,_⟩
  ·rw [h0] at h; cases h
  ·omega
 ·exact (ZdJ _ _ _ _ _ _ _ _).2 (.inr ⟨q,hq,hp,rfl,rfl⟩)
structure FinC (g:List Pd) (l:List Tk) (sym:ByteArray) (least:Int) (C:Ch):Prop where
 ok:∀ e,e≤l.length→∀ x∈stC C e,okS g l.length x
 snd:∀ e,e≤l.length→∀ x∈stC C e,Mt g l ((pdAt g x.prod).items.take x.dot) x.start e
 clo:∀ e,e≤l.length→∀ x∈stC C e,clo g l (byF g) C e x
 ini:∀ q∈byF g sym,least≤(pdAt g q).prio→⟨q.toNat,0,0⟩∈stC C 0
 done:∀ s e,e≤l.length→∀ q:Int,q∈C.done (s,e)↔∃ x∈stC C e,x.start=s∧Xf g x=none∧q=(x.prod:Int)
 nd:∀ s e,e≤l.length→(C.done (s,e)).Nodup
theorem fin_ok {g:List Pd} {l:List Tk} (hG:GOk g l.length) (sym:ByteArray) (least:Int):FinC g l sym least (readF g sym least l):=by
 obtain ⟨j,hj,h,he⟩:=Zjk (sym:=sym) (least:=least) hG (l.length+1) 0 _ (first_iv g l sym least) (by omega)
 change Iv g l sym least (readF g sym least l) j 0 at h
 change j=l.length+1∨stC (readF g sym least l) j=[] at he
 have hall:∀ e,e≤l.length→prS (readF g sym least l) j 0 e=stC (readF g sym least l) e:=fun e hle=>by
  unfold prS;by_cases h1:e<j
  ·rw [if_pos h1]
  ·rw [if_neg h1]
   have h2:stC (readF g sym least l) e=[]:=by
    rcases he with he | he
    ·omega
    ·by_cases h3:e=j
     ·rw [h3]; exact he
     ·exact h.emp e (by rw [if_pos rfl]; omega)
   rw [h2]
   split<;>simp
 refine ⟨fun e hle x hx=>h.rd.gd.ok e hle x hx,h.snd,fun e hle x hx=>h.clo e hle x (by rw [hall e hle]; exact hx),h.ini,fun s e hle q=>?_,fun s e hle=>(ZhV h.rd s e hle).1⟩;rw [h.rd.dn s e,hall e hle];unfold ZcL;rw [List.mem_map]
 constructor
 ·rintro ⟨x,hx,rfl⟩;obtain ⟨h1,h2⟩:=List.mem_filter.1 hx;unfold isDn at h2;rw [ZmA,decide_eq_true_eq,Option.isNone_iff_eq_none] at h2;exact ⟨x,h1,h2.2,h2.1,rfl⟩
 ·rintro ⟨x,hx,h2,h1,rfl⟩;refine ⟨x,List.mem_filter.2 ⟨hx,?_⟩,rfl⟩;unfold isDn;rw [ZmA,decide_eq_true_eq,Option.isNone_iff_eq_none];exact ⟨h1,h2⟩
def Ask (g:List Pd) (C:Ch) (s:ByteArray) (p:Int) (f:Nat):Prop:=∀ k∈byF g s,p≤(pdAt g k).prio→⟨k.toNat,0,f⟩∈stC C f
theorem byF_mem {g:List Pd} {s:ByteArray} {k:Int}:k∈byF g s↔k∈prodF g∧(pdAt g k).left=s:=by
 unfold byF byK;rw [List.mem_filter,decide_eq_true_eq]
theorem Zep {L:List It} {d:Nat} {i:It} {is:List It} (h:L.drop d=i::is):L[d]?=some i∧L.drop (d+1)=is:=by
 have hd:d<L.length:=by
  rcases ZmI d L.length with h' | h'
  ·exact h'
  ·rw [Znb h'] at h; cases h
 rw [ZmY hd] at h;obtain ⟨h1,h2⟩:=List.cons.inj h;exact ⟨by rw [ZmW hd,h1],h2⟩
theorem Ask.has {g:List Pd} {C:Ch} {s:ByteArray} {p:Int} {f:Nat} (h:Ask g C s p f) {q:Nat} (hq:(q:Int)∈prodF g) (hs:YH (pdAt g q) s p=true):⟨q,0,f⟩∈stC C f:=by
 unfold YH at hs;rw [ZmA,decide_eq_true_eq,decide_eq_true_eq] at hs
 have:=h q (byF_mem.2 ⟨hq,hs.1⟩) hs.2
 rwa [Zmw] at this
theorem FinC.ask {g:List Pd} {l:List Tk} {sym:ByteArray} {least:Int} {C:Ch} (hF:FinC g l sym least C) {f:Nat} (hf:f≤l.length) {x:St} (hx:x∈stC C f) {i:It} (hi:Xf g x=some i) (h3:i.kind=3):Ask g C i.text i.prio f:=fun k hk hp=>by
 have h:=hF.clo f hf x hx;unfold Go.PV.Ytfkkmdelpddojaa.clo at h;rw [hi] at h;dsimp only at h;rw [if_pos h3] at h;exact h k hk hp
theorem FinC.comp {g:List Pd} {l:List Tk} {sym:ByteArray} {least:Int} {C:Ch} (hF:FinC g l sym least C) {is:List It} {f t:Nat} (h:Mt g l is f t):f≤l.length→∀ q d s:Nat,⟨q,d,s⟩∈stC C f→(pdAt g q).items.drop d=is→⟨q,(pdAt g q).items.length,s⟩∈stC C t:=by
 induction h with
 | nil f =>
   intro hf q d s hx hd;have h1:=(hF.ok f hf _ hx).2.1;have h2:(pdAt g q).items.length≤d:=List.drop_eq_nil_iff.1 hd
   have:d=(pdAt g q).items.length:=Nat.le_antisymm h1 h2
   rw [← this]; exact hx
 | tok h1 h2 h3 _ ih =>
   rename_i i is f t _;intro hf q d s hx hd;obtain ⟨hi,hd2⟩:=Zep hd;have hc:=hF.clo f hf _ hx;unfold Go.PV.Ytfkkmdelpddojaa.clo at hc;rw [show Xf g ⟨q,d,s⟩=some i from hi] at hc;dsimp only at hc;rw [if_neg h1] at hc;exact ih (by omega) q (d+1) s (hc h2 h3) hd2
 | sym q' h1 h2 h3 h4 h5 ih1 ih2 =>
   rename_i i is f m t;intro hf q d s hx hd;obtain ⟨hi,hd2⟩:=Zep hd;have hm:=h4.end_ hf;have hask:Ask g C i.text i.prio f:=hF.ask hf hx hi h1;have hy:=ih1 hf q' 0 f (hask.has (h4.prod h2) h3) Zm4;have hc:=hF.clo m hm _ hy;unfold Go.PV.Ytfkkmdelpddojaa.clo at hc;rw [show Xf g ⟨q',(pdAt g q').items.length,f⟩=none from ZmS (Zmc _)] at hc;exact ih2 hm q (d+1) s (hc _ hx i hi h1 h3) hd2
theorem FinC.done_iff {g:List Pd} {l:List Tk} {sym:ByteArray} {least:Int} {C:Ch} (hF:FinC g l sym least C) {s:ByteArray} {p:Int} {f t:Nat} (hf:f≤l.length) (ht:t≤l.length) (ha:Ask g C s p f) {q:Nat} (hq:q<g.length) (hs:YH (pdAt g q) s p=true):(q:Int)∈C.done (f,t)↔Mt g l (pdAt g q).items f t:=by
 rw [hF.done f t ht]
 constructor
 ·rintro ⟨x,hx,rfl,hn,he⟩;have e:q=x.prod:=by omega
  have h:=hF.snd t ht x hx;rw [ZmQ (Zb3 hn)] at h;rw [e]; exact h
 ·intro h;exact ⟨_,hF.comp h hf q 0 f (ha.has (h.prod hq) hs) Zm4,rfl,ZmS (Zmc _),rfl⟩
end Go.PV.Ytfkkmdelpddojaa
end
