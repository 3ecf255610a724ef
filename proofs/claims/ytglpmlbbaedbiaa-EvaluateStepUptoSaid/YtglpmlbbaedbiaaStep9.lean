/- Part 9 of 11 of what the proof of Step needs. -/
import Derived.Test.YtglpmlbbaedbiaaStep8
import Derived.Test.YtglpmlbbaedbiaaStep7
import Derived.Test.YtglpmlbbaedbiaaStep5
import Derived.Laws.Strings
set_option linter.unusedVariables false
set_option linter.unusedSimpArgs false
set_option linter.defProp false
section
open Int renaming toNat_natCast→ZpW
open List renaming mem_of_getElem?→Zqh,eq_nil_of_length_eq_zero→ZpY,length_append→Zpy,cons_append→Zp6,take_of_length_le→ZpD,drop_eq_nil_of_le→ZpC,length_take→ZpX,length_drop→Zp7
namespace Go.PV.Ytglpmlbbaedbiaa
open Go Go.Proofs
def Sim (p:Pr) (fu c:Int) (E:Ex):EvR→Prop
 | .ok (c',v)=>∃ (n:Nat) (E':Ex),c'=c+n∧Rd p n E E'∧Rep p v E'
 | .error k=>Bad p fu c E k
def EvSim (p:Pr) (fu:Int) (ev:EvF) (g:Int):Prop:=∀ c d e ns vs es,Zbp p fu c e ns vs→Reps p vs es→(fu-c) * 5001+e.sz<g→Sim p fu c (e.put (bdL ns es)) (ev c d e ns vs)
theorem Zjd (fu c d:Int) (us:List Val):cntV fu c d us=.error 7∨(cntV fu c d us=.error 8∧c=fu)∨cntV fu c d us=.error 6∨(cntV fu c d us=.ok (c+1)∧¬ c=fu):=by
 unfold cntV;split
 ·exact .inl rfl
 ·split
  ·exact .inr (.inl ⟨rfl,by assumption⟩)
  ·split
   ·exact .inr (.inr (.inl rfl))
   ·exact .inr (.inr (.inr ⟨rfl,by assumption⟩))
theorem Zfi {p:Pr} {fu c:Int} {b:Ex} {ns:List ByteArray} {vs:List Val} {es:List Ex} (hg:Zbp p fu c b ns vs) (hr:Reps p vs es):Cld p (b.put (bdL ns es)) :=
 Zmn hg.sd hg.nm (by rw [hr.len]; exact hg.env.1) hr.cl
theorem Zm3 {e:Ex} (h:¬ e.op=4):hdK e=[e]:=if_neg h
theorem ZlE {p:Pr} (hp:Pg p) {fu:Int} {ev:EvF} {g:Int} (hev:EvSim p fu ev g) {c d:Int} {j:Nat} {f:Fu} {us:List Val} {xs r:List Ex} {E:Ex} (hf:p.funs[j]?=some f) (hr:Reps p us xs) (hu:YO p us) (hl:(us.length:Int)=f.arity) (hc:0≤c∧c≤fu) (hb:(fu-c) * 5001≤g)
 (hE:E.isV p=false) (hs:stepF p E=(Yr (Yn f xs).2.1 r,(Yn f xs).2.2)) :
 (∀ k,callG p fu ev c d j us=.error k→Bad p fu c E k)∧(∀ c2 w,callG p fu ev c d j us=.ok (c2,w)→∃ (n:Nat) (X:Ex),c2=c+n∧Rd p n E (Yr X r)∧Rep p w X):=by
 obtain ⟨s1,s2⟩:=ZkP hp (Zqh hf) hr hl;unfold callG;rcases Zjd fu c d us with h | ⟨h,h'⟩ | h | ⟨h,h'⟩
 ·rw [h]; exact ⟨fun k hk=>by cases hk; exact .inl rfl,fun c2 w hk=>by cases hk⟩
 ·rw [h]; exact ⟨fun k hk=>by cases hk; exact .inr (.inr ⟨0,E,rfl,hE,.inl ⟨rfl,by omega⟩⟩),fun c2 w hk=>by cases hk⟩
 ·rw [h]; exact ⟨fun k hk=>by cases hk; exact .inr (.inl rfl),fun c2 w hk=>by cases hk⟩
 ·rw [h,hf];dsimp only;cases hq:Wn f.cls us with
  | none =>
    have:=s1 hq
    exact ⟨fun k hk=>by cases hk; exact .inr (.inr ⟨0,E,rfl,hE,.inr (.inl ⟨rfl,by omega,by rw [hs]; exact this⟩)⟩),fun c2 w hk=>by cases hk⟩
  | some be =>
    obtain ⟨b,e⟩:=be;dsimp only;obtain ⟨es,q1,q2⟩:=s2 b e hq;obtain ⟨hg,hz⟩:=Zi9 hp.pg hu hf hl hc h hq;have hS:=hev (c+1) (d+1) b e.1 e.2 es hg q2 (by omega);have hcl:=Zfi hg q2
    have h1:Rd p 1 E (Yr (b.put (bdL e.1 es)) r):=by
     have:=Rd.one hE hs (by rw [q1])
     rw [q1] at this;exact this
    refine ⟨fun k hk=>?_,fun c2 w hk=>?_⟩
    ·rw [hk] at hS;exact Bad.pre h1 (ZlD hp.bd hcl (show Bad p fu (c+1) _ k from hS))
    ·rw [hk] at hS;obtain ⟨n,X,g1,g2,g3⟩:=hS;exact ⟨1+n,X,by omega,h1.trans (Zhh hp.bd hcl g2),g3⟩
theorem part_hd {p:Pr} {j:Nat} {us:List Val} {h:Ex} (hr:Rep p (.part j us) h):∃ es,hdK h=.mk 2 (JJ p j) []::es∧Reps p us es∧∃ f,p.funs[j]?=some f∧(us.length:Int)<f.arity:=by
 rw [Rep] at hr;obtain ⟨_,hf,es,h1,h2⟩:=hr;refine ⟨es,?_,h2,hf⟩;rcases h1 with ⟨rfl,rfl⟩ | ⟨h4,hfl⟩
 ·rw [Reps] at h2;subst h2;exact Zm3 (show ¬ (2:Int)=4 by decide)
 ·unfold hdK;rw [if_pos h4,hfl]; rfl
theorem redF_fun {p:Pr} {nm:ByteArray} {a:Ex} {r:List Ex} {g:Fu} (hat:p.funs[(atFu p.funs nm).toNat]?=some g):redF p (.mk 4 noNm (.mk 2 nm []::a::r))=(Yr (Yn g ((a::r).take g.arity.toNat)).2.1 ((a::r).drop g.arity.toNat),(Yn g ((a::r).take g.arity.toNat)).2.2):=by
 have h5:¬ (Ex.mk 2 nm []).op=5:=show ¬ (2:Int)=5 by decide
 have h3:¬ (Ex.mk 2 nm []).op=3:=show ¬ (2:Int)=3 by decide
 unfold redF
 show (if (Ex.mk 2 nm []).op=5 then _ else if (Ex.mk 2 nm []).op=3 then _ else (match p.funs[(atFu p.funs nm).toNat]? with
  | some g=>(Yr (Yn g ((a::r).take g.arity.toNat)).2.1 ((a::r).drop g.arity.toNat),(Yn g ((a::r).take g.arity.toNat)).2.2)
  | none=>(Ex.mk 4 noNm (.mk 2 nm []::a::r),0)))=_
 rw [if_neg h5,if_neg h3,hat]
def Apd (E h:Ex) (l:List Ex):Prop:=(l=[]∧E=h)∨(¬ l=[]∧Ap E h l)
theorem Apd.of (X:Ex) (r:List Ex):Apd (Yr X r) X r:=by
 unfold Yr;by_cases hr:r.length=0
 ·rw [if_pos hr]; exact .inl ⟨ZpY hr,rfl⟩
 ·rw [if_neg hr]; exact .inr ⟨fun h=>hr (by rw [h]; rfl),.inl rfl⟩
theorem Zj0 {p:Pr} (hp:Pg p) {fu:Int} {ev:EvF} (hpr:ZdS p fu ev) {g:Int} (hev:EvSim p fu ev g) {d:Int}:∀ (n:Nat) (c:Int) (v:Val) (us:List Val) (h E:Ex) (l:List Ex),us.length≤n→us.length≤1099511627776→Rep p v h→v.ok p→Reps p us l→YO p us→Apd E h l→Cld p E→0≤c∧c≤fu→(fu-c) * 5001≤g→Sim p fu c E (appG p fu ev n c d v us)
 | 0,c,v,us,h,E,l,hn,_,hv,hk,hu,ho,hE,hcE,hc,hb=>by
   obtain rfl:us=[]:=ZpY (by omega);rw [Reps] at hu; subst hu;rw [appG];show Sim p fu c E (.ok (c,v));rcases hE with ⟨_,rfl⟩ | ⟨h,_⟩
   ·exact ⟨0,E,by omega,rfl,hv⟩
   ·exact absurd rfl h
 | n+1,c,v,[],h,E,l,hn,_,hv,hk,hu,ho,hE,hcE,hc,hb=>by
   rw [Reps] at hu; subst hu;rw [appG];rcases hE with ⟨_,rfl⟩ | ⟨h,_⟩
   ·exact ⟨0,E,by omega,rfl,hv⟩
   ·exact absurd rfl h
 | n+1,c,v,a::ar,h,E,l,hn,hm,hv,hk,hu,ho,hE,hcE,hc,hb=>by
   have hlen:=hu.len;have hclv:=hv.cl;have hisv:=hv.isV hp.pg.nd;have hlv:=hu.isV hp.pg.nd;have hlc:=hu.cl
   have hA:Ap E h l:=by
    rcases hE with ⟨rfl,_⟩ | ⟨_,h⟩
    ·simp at hlen
    ·exact h
   have hpre:=hA.pre hclv.1 hisv;have h2:¬ E.op=2:=by rw [hA.op]; decide
   obtain ⟨fh,lh,k1,k2,k3,k4,k5⟩:=Zfh hclv.1 hisv
   have hred:stepF p E=redF p (.mk 4 noNm (hdK h++l)):=step_red h2 hpre fun x hx=>by
    rcases List.mem_append.1 hx with hx | hx
    ·rw [k1] at hx; exact k3 x hx
    ·exact hlv x hx
   obtain ⟨y,l',rfl,hy,hl'⟩:∃ y l',l=y::l'∧Rep p a y∧Reps p ar l':=by rw [Reps] at hu; exact hu
   cases v with
   | built m ks =>
     rw [Rep] at hv;obtain ⟨_,es,rfl,_⟩:=hv;rw [appG];have hh:hdK (Ex.mk 3 m es)=[.mk 3 m es]:=Zm3 (show ¬ (3:Int)=4 by decide);refine .inr (.inr ⟨0,E,rfl,hA.nv hclv.1 hisv fun f t hft hf2 _ _=>?_,.inr (.inr ⟨rfl,by omega,?_⟩)⟩)
     ·rw [hh] at hft; cases hft; exact absurd hf2 (show ¬ (3:Int)=2 by decide)
     ·rw [hred,hh]; rfl
   | clo x b ns vs =>
     obtain ⟨hcl0,es,rfl,hes⟩:Cld p h∧∃ es,h=.mk 5 x [b.put (outB x (bdL ns es))]∧Reps p vs es:=by rw [Rep] at hv; exact hv
     have hh:hdK (Ex.mk 5 x [b.put (outB x (bdL ns es))])=[.mk 5 x [b.put (outB x (bdL ns es))]]:=Zm3 (show ¬ (5:Int)=4 by decide)
     have hnv:E.isV p=false:=hA.nv hclv.1 hisv fun f t hft hf2 _ _=>by
      rw [hh] at hft; cases hft; exact absurd hf2 (show ¬ (5:Int)=2 by decide)
     have hB:(b.put (outB x (bdL ns es))).put [(x,y)]=b.put (bdL (x::ns) (y::es)):=by
      rw [ZhT];exact ZoA (p:=p) b _ fun z hz=>(hes.cl _ (ZjY hz)).1
     have hst:stepF p E=(Yr (b.put (bdL (x::ns) (y::es))) l',0):=by
      rw [hred,hh,← hB]; rfl
     rw [appG];rcases Zjd fu c d [a] with h | ⟨h,h'⟩ | h | ⟨h,h'⟩
     ·rw [h]; exact .inl rfl
     ·rw [h]; exact .inr (.inr ⟨0,E,rfl,hnv,.inl ⟨rfl,by omega⟩⟩)
     ·rw [h]; exact .inr (.inl rfl)
     ·rw [h];dsimp only;have hg:=ZhR hk ho.1 hc h;have hS:=hev (c+1) (d+1) b (x::ns) (a::vs) (y::es) hg (Reps.cons hy hes) (by have:=hg.sz; omega);have hcl:=Zfi hg (Reps.cons hy hes);have h1:Rd p 1 E (Yr (b.put (bdL (x::ns) (y::es))) l'):=Rd.one hnv hst rfl;cases hq:ev (c+1) (d+1) b (x::ns) (a::vs) with
      | error k =>
        rw [hq] at hS;exact Bad.pre h1 (ZlD hp.bd hcl (show Bad p fu (c+1) _ k from hS))
      | ok cw =>
        obtain ⟨c2,w⟩:=cw;rw [hq] at hS;obtain ⟨m,X,g1,g2,g3⟩:=hS;obtain ⟨g4,g5,g6⟩:=hpr _ _ _ _ _ _ _ hg hq;dsimp only;have hR:Rd p (1+m) E (Yr X l'):=h1.trans (Zhh hp.bd hcl g2);have ih:=Zj0 hp hpr hev (d:=d) n c2 w ar X (Yr X l') l' (by simp at hn; omega) (by simp at hm; omega) g3 g4 hl' ho.2 (Apd.of X l') (hR.cl hp.bd hcE) (by omega) (by omega);cases hz:appG p fu ev n c2 d w ar with
        | error k =>
          rw [hz] at ih;refine Bad.pre hR ?_;rw [show c+((1+m:Nat):Int)=c2 by omega]; exact ih
        | ok cz =>
          obtain ⟨c3,z⟩:=cz;rw [hz] at ih;obtain ⟨m2,Y,q1,q2,q3⟩:=ih;exact ⟨1+m+m2,Y,by omega,hR.trans q2,q3⟩
   | part j hs =>
     obtain ⟨es,hh,hes,f,hf,hlf⟩:=part_hd hv;obtain ⟨n1,n2,n3⟩:=ZfU hp.pg.nd hf;have har:arAt p j=f.arity:=by unfold arAt; rw [hf]
     have hel:=hes.len;have hko:YO p hs:=hk.2;rw [appG,har];by_cases hlt:((a::ar).length:Int)<f.arity-hs.length
     ·rw [if_pos hlt];refine ⟨0,E,by omega,rfl,?_⟩;rw [Rep];refine ⟨hcE,⟨f,hf,by rw [Zpy]; omega⟩,es++y::l',.inr ⟨hA.op,?_⟩,hes.append (Reps.cons hy hl')⟩;rw [hA.flat hclv.1 hisv,hh]; rfl
     ·rw [if_neg hlt];have hpos:0<f.arity-hs.length:=by omega
      have hnv:E.isV p=false:=hA.nv hclv.1 hisv fun f' t hft hf2 hl3 _=>by
       rw [hh,Zp6] at hft;obtain ⟨q1,q2⟩:=List.cons.inj hft;subst q1 q2;rw [show (Ex.mk 2 (JJ p j) []).name=JJ p j from rfl,n1,n3,Zpy] at hl3;rw [hlen] at hl3;omega
      obtain ⟨A,R',hAR⟩:∃ A R',es++y::l'=A::R':=by cases es<;>exact ⟨_,_,rfl⟩
      have hst:stepF p E=(Yr (Yn f ((es++y::l').take f.arity.toNat)).2.1 ((es++y::l').drop f.arity.toNat),(Yn f ((es++y::l').take f.arity.toNat)).2.2):=by
       rw [hred,hh,Zp6,hAR];have hat:p.funs[(atFu p.funs (JJ p j)).toNat]?=some f:=by rw [n1,n2,ZpW,hf]
       exact redF_fun hat
      have hta:(es++y::l').take f.arity.toNat=es++(y::l').take (f.arity-hs.length).toNat:=by
       rw [List.take_append,ZpD (by omega)]
       congr 2; omega
      have hdr:(es++y::l').drop f.arity.toNat=(y::l').drop (f.arity-hs.length).toNat:=by
       rw [List.drop_append,ZpC (by omega),List.nil_append]
       congr 1; omega
      rw [hta,hdr] at hst;have hrr:Reps p (hs++(a::ar).take (f.arity-hs.length).toNat) (es++(y::l').take (f.arity-hs.length).toNat):=hes.append (Reps.take _ (Reps.cons hy hl'));have hoo:YO p (hs++(a::ar).take (f.arity-hs.length).toNat):=WC.2 ⟨hko,Zbg ho _⟩;have hll:((hs++(a::ar).take (f.arity-hs.length).toNat).length:Int)=f.arity:=by rw [Zpy,ZpX]; omega
      obtain ⟨cs1,cs2⟩:=ZlE hp hev (d:=d) hf hrr hoo hll hc hb hnv hst;cases hq:callG p fu ev c d j (hs++(a::ar).take (f.arity-hs.length).toNat) with
      | error k=>exact cs1 k hq
      | ok cw =>
        obtain ⟨c2,w⟩:=cw;dsimp only;obtain ⟨m,X,g1,g2,g3⟩:=cs2 c2 w hq;obtain ⟨g4,g5,g6⟩:=Zfe hp.pg hpr hoo (by rw [hll,har]) hc hq;have ih:=Zj0 hp hpr hev (d:=d) n c2 w ((a::ar).drop (f.arity-hs.length).toNat) X _ _ (by rw [Zp7]; omega) (by rw [Zp7]; omega) g3 g4 (Reps.drop _ (Reps.cons hy hl')) (ZcK ho _) (Apd.of X _) (g2.cl hp.bd hcE) (by omega) (by omega);cases hz:appG p fu ev n c2 d w ((a::ar).drop (f.arity-hs.length).toNat) with
        | error k =>
          rw [hz] at ih;refine Bad.pre g2 ?_;rw [show c+(m:Int)=c2 by omega]; exact ih
        | ok cz =>
          obtain ⟨c3,z⟩:=cz;rw [hz] at ih;obtain ⟨m2,Y,q1,q2,q3⟩:=ih;exact ⟨m+m2,Y,by omega,g2.trans q2,q3⟩
end Go.PV.Ytglpmlbbaedbiaa
end
section
open List renaming map_cons→Zpp,getElem?_eq_getElem→ZpP,mem_of_getElem?→Zqh
open Nat renaming le_refl→Zpl
namespace Go.PV.Ytglpmlbbaedbiaa
open Go Go.Proofs
theorem ZhU {p:Pr} (hp:Pg p) {fu:Int} {ev:EvF} (hpr:ZdS p fu ev) {g:Int} (hev:EvSim p fu ev g) {d:Int} {ns:List ByteArray} {vs:List Val} {es:List Ex} (hn:EnvOk p (ns,vs)) (hes:Reps p vs es) {op:Int} {nm:ByteArray}:∀ (ks:List Ex) (c:Int) (ls:List Ex) (E:Ex),(∀ k∈ks,k.sdF p ns=0∧k.nmOk∧k.sz≤5000)→(∀ k∈ks,(fu-c) * 5001+k.sz<g)→(∀ x∈ls,Cld p x)→(∀ x∈ls,x.isV p=true)→Wh p op nm E (ls++ks.map (fun k:Ex=>k.put (bdL ns es)))→0≤c∧c≤fu →
 (∀ k,listG ev d ns vs c ks=.error k→Bad p fu c E k)∧(∀ c' l,listG ev d ns vs c ks=.ok (c',l)→∃ (n:Nat) (E':Ex) (xs:List Ex),c'=c+n∧Rd p n E E'∧Reps p l xs∧Wh p op nm E' (ls++xs))
 | [],c,ls,E,hk,hb,hl,ha,hW,hc=>by
   rw [listG];refine ⟨fun k h=>(by cases h),fun c' l h=>?_⟩;cases h;exact ⟨0,E,[],by omega,rfl,Reps.nil,hW⟩
 | k::ks,c,ls,E,hk,hb,hl,ha,hW,hc=>by
   obtain ⟨k1,k2,k3⟩:=hk k (by simp);have hg:Zbp p fu c k ns vs:=⟨k1,k2,k3,hn,hc.1,hc.2⟩
   have hS:=hev c d k ns vs es hg hes (hb k (by simp));have hcl:=Zfi hg hes;rw [Zpp] at hW;rw [listG];cases hq:ev c d k ns vs with
   | error x =>
     rw [hq] at hS;exact ⟨fun y h=>by cases h; exact Bad.wh hp.bd hl ha hcl hW hS,fun c' l h=>by cases h⟩
   | ok cv =>
     obtain ⟨c1,v⟩:=cv;rw [hq] at hS;dsimp only;obtain ⟨n,X,g1,g2,g3⟩:=hS;obtain ⟨g4,g5,g6⟩:=hpr _ _ _ _ _ _ _ hg hq;obtain ⟨E1,q1,q2⟩:=hW.rd hp.bd hl ha hcl g2;rw [show ls++X::ks.map (fun k:Ex=>k.put (bdL ns es))=(ls++[X])++ks.map (fun k:Ex=>k.put (bdL ns es)) by simp] at q2
     obtain ⟨r1,r2⟩:=ZhU hp hpr hev hn hes (d:=d) ks c1 (ls++[X]) E1 (fun y hy=>hk y (by simp [hy])) (fun y hy=>by have:=hb y (by simp [hy]); omega) (fun x hx=>by
      rcases List.mem_append.1 hx with hx | hx
      ·exact hl x hx
      ·rw [List.mem_singleton.1 hx]; exact g3.cl) (fun x hx=>by
      rcases List.mem_append.1 hx with hx | hx
      ·exact ha x hx
      ·rw [List.mem_singleton.1 hx]; exact g3.isV hp.pg.nd) q2 (by omega)
     cases hz:listG ev d ns vs c1 ks with
     | error x =>
       refine ⟨fun y h=>?_,fun c' l h=>by cases h⟩;cases h;refine Bad.pre q1 ?_;rw [show c+(n:Int)=c1 by omega];exact r1 x hz
     | ok cl =>
       obtain ⟨c2,l'⟩:=cl;refine ⟨fun y h=>(by cases h),fun c' l h=>?_⟩;cases h;obtain ⟨m,E',xs,s1,s2,s3,s4⟩:=r2 c2 l' hz;exact ⟨n+m,E',X::xs,by omega,q1.trans s2,Reps.cons g3 s3,by rw [show ls++X::xs=(ls++[X])++xs by simp]; exact s4⟩
theorem Zfj {e:Ex} (h1:¬ e.op=1) (l:List Bd):e.put l=.mk e.op e.name (e.kids.map (fun k:Ex=>k.put (if e.op=5 then outB e.name l else l))):=by rw [e.put_eq,if_neg h1]
theorem ZnS {p:Pr} (hp:Pg p) {fu:Int}:∀ g:Nat,EvSim p fu (evG p fu g) (g:Int)
 | 0,c,d,e,ns,vs,es,hg,hr,hb=>by have:=hg.cf; omega
 | g+1,c,d,e,ns,vs,es,hg,hr,hb=>by
   have ih:=ZnS hp (fu:=fu) g;have hpr:=ZcX hp.pg (fu:=fu) g;have hz:=e.sz_eq;have hz5:=hg.sz;have hc:=hg.cf;have hc0:=hg.c0;have hkn:=(Ex.nmOk_iff.1 hg.nm).2;have hcE:=Zfi hg hr;rw [ZhS];rcases Zfg hg.sd with ⟨ho,hn⟩ | ⟨ho,k,hk,hks⟩ | ⟨ho,ha⟩ | ⟨ho,hk⟩ | ⟨ho,hk2,hk⟩
   ·obtain ⟨w,hw,_⟩:=Zff hg.env.1 hg.env.2 hn;rw [if_pos ho,hw];obtain ⟨x,h1,h2⟩:=ZlC hr hw;exact ⟨0,e.put (bdL ns es),by omega,rfl,by rw [e.put_eq,if_pos ho,h1]; exact h2⟩
   ·rw [if_neg (by omega),if_pos ho,hk];refine ⟨0,e.put (bdL ns es),by omega,rfl,?_⟩;rw [Rep];refine ⟨hcE,es,?_,hr⟩;rw [Zfj (by omega),hk,if_pos ho,ho]; rfl
   ·obtain ⟨f,hf⟩:∃ f,p.funs[(atFu p.funs e.name).toNat]?=some f:=by
     obtain ⟨j,hj,h1,_⟩:=Zm2 hp.pg.nd ha;rw [h1]; exact ⟨p.funs[j],by simp [hj]⟩
    have hkids:e.kids=[]:=by
     have h1:=(XT.1 (Xn.1 hg.sd).1).1;rw [ho] at h1;unfold formB at h1;rw [if_pos (.inr rfl)] at h1;simp at h1;exact h1.1
    have hE:e.put (bdL ns es)=.mk 2 e.name []:=by rw [Zfj (by omega),hkids,ho]; rfl
    obtain ⟨n1,n2,n3⟩:=ZfU hp.pg.nd hf
    have hname:JJ p (atFu p.funs e.name).toNat=e.name:=by
     rw [n1];rcases WA (fun c:Fu=>decide (c.name=e.name)) p.funs with ⟨h1,_⟩ | ⟨i,hi,h1,h2,_⟩
     ·unfold atFu at ha; omega
     ·have:(atFu p.funs e.name).toNat=i:=by unfold atFu; rw [h1]; simp
      rw [this] at hf;rw [ZpP hi] at hf;cases hf;simpa using h2
    have har:arFu p.funs e.name=f.arity:=by rw [← hname,n1,n3]
    rw [if_neg (by omega),if_neg (by omega),if_pos ho,har,hE];have hclE:Cld p (.mk 2 e.name []):=by rw [← hE]; exact hcE
    by_cases hpos:0<f.arity
    ·rw [if_pos hpos];refine ⟨0,_,by omega,rfl,?_⟩;rw [Rep];exact ⟨hclE,⟨f,hf,hpos⟩,[],.inl ⟨rfl,by rw [hname]⟩,Reps.nil⟩
    ·rw [if_neg hpos];have h0:=hp.pg.ar f (Zqh hf)
     have hst:stepF p (.mk 2 e.name [])=(Yr (Yn f []).2.1 [],(Yn f []).2.2):=by
      rw [ZbS,if_pos (show (Ex.mk 2 e.name []).op=2 from rfl)];show (match p.funs[(atFu p.funs e.name).toNat]? with | some f=>((Yn f []).2.1,(Yn f []).2.2) | none=>(_,0))=_;rw [hf]; rfl
     have hnv:(Ex.mk 2 e.name []).isV p=false:=by
      rw [Ex.isV_eq];show decide (0<arFu p.funs e.name)=false;rw [har]; exact decide_eq_false hpos
     obtain ⟨s1,s2⟩:=ZlE hp ih (d:=d) hf Reps.nil trivial (by show ((0:Nat):Int)=_; omega) ⟨hc0,hc⟩ (by omega) hnv hst;cases hq:callG p fu (evG p fu g) c d (atFu p.funs e.name).toNat [] with
     | error k=>exact s1 k hq
     | ok cw =>
       obtain ⟨c2,w⟩:=cw;obtain ⟨n,X,g1,g2,g3⟩:=s2 c2 w hq;exact ⟨n,X,g1,g2,g3⟩
   ·have hW:Wh p 3 e.name (e.put (bdL ns es)) ([]++e.kids.map (fun k:Ex=>k.put (bdL ns es))):=.inl ⟨rfl,by rw [Zfj (by omega),if_neg (by omega),ho]; rfl⟩;obtain ⟨s1,s2⟩:=ZhU hp hpr ih (d:=d) hg.env hr e.kids c [] _ (fun k hk'=>⟨hk k hk',hkn k hk',by have:=ZX hk'; omega⟩) (fun k hk'=>by have:=ZX hk'; omega) (by simp) (by simp) hW ⟨hc0,hc⟩;rw [if_neg (by omega),if_neg (by omega),if_neg (by omega)];cases hq:listG (evG p fu g) d ns vs c e.kids with
    | error k=>exact s1 k hq
    | ok cl =>
      obtain ⟨c',l⟩:=cl;dsimp only;rw [if_pos ho];obtain ⟨n,E',xs,g1,g2,g3,g4⟩:=s2 c' l hq;refine ⟨n,E',g1,g2,?_⟩;rcases g4 with ⟨_,h⟩ | ⟨h,_⟩
      ·rw [Rep];exact ⟨g2.cl hp.bd hcE,xs,by rw [h]; rfl,g3⟩
      ·exact absurd h (by decide)
   ·obtain ⟨hn4,a,b,r,hab⟩:=ZdN hg.sd ho;have hE:e.put (bdL ns es)=.mk 4 noNm (e.kids.map (fun k:Ex=>k.put (bdL ns es))):=by rw [Zfj (by omega),if_neg (by omega),ho,hn4]
    have hW:Wh p 4 noNm (e.put (bdL ns es)) ([]++e.kids.map (fun k:Ex=>k.put (bdL ns es))):=by
     rw [hE,hab];exact .inr ⟨rfl,_,_,rfl,.inl rfl⟩
    obtain ⟨s1,s2⟩:=ZhU hp hpr ih (d:=d) hg.env hr e.kids c [] _ (fun k hk'=>⟨hk k hk',hkn k hk',by have:=ZX hk'; omega⟩) (fun k hk'=>by have:=ZX hk'; omega) (by simp) (by simp) hW ⟨hc0,hc⟩;rw [if_neg (by omega),if_neg (by omega),if_neg (by omega)];cases hq:listG (evG p fu g) d ns vs c e.kids with
    | error k=>exact s1 k hq
    | ok cl =>
      obtain ⟨c',l⟩:=cl;dsimp only;rw [if_neg (by omega)];obtain ⟨n,E',xs,g1,g2,g3,g4⟩:=s2 c' l hq;obtain ⟨q1,q2,q3,q4⟩:=ZcW hpr hg.env e.kids c c' l (fun k hk'=>⟨hk k hk',hkn k hk',by have:=ZX hk'; omega⟩) ⟨hc0,hc⟩ hq;have hlen:=YL e.kids;cases l with
      | nil=>rw [hab] at q2; simp at q2
      | cons v l =>
        obtain ⟨x,xs',rfl,hv,hl⟩:∃ x xs',xs=x::xs'∧Rep p v x∧Reps p l xs':=by rw [Reps] at g3; exact g3
        dsimp only;have hll:=hl.len
        have hne:¬ xs'=[]:=fun h=>by
         rw [h] at hll;rw [hab] at q2;simp at q2 hll;omega
        have hA:Ap E' x xs':=by
         rcases g4 with ⟨h,_⟩ | ⟨_,h,t,ht,hE⟩
         ·exact absurd h (by decide)
         ·obtain ⟨e1,e2⟩:=List.cons.inj (show x::xs'=h::t from ht);subst e1 e2;rcases hE with h | h
          ·exact .inl h
          ·exact h.2
        have hS:=Zj0 hp hpr ih (d:=d) l.length c' v l x E' xs' (Zpl _) (by simp at q2; omega) hv q1.1 hl q1.2 (.inr ⟨hne,hA⟩) (g2.cl hp.bd hcE) (by omega) (by omega);cases hz:appG p fu (evG p fu g) l.length c' d v l with
        | error k =>
          rw [hz] at hS;refine Bad.pre g2 ?_;rw [← g1]; exact hS
        | ok cz =>
          obtain ⟨c3,z⟩:=cz;rw [hz] at hS;obtain ⟨m2,Y,r1,r2,r3⟩:=hS;exact ⟨n+m2,Y,by omega,g2.trans r2,r3⟩
end Go.PV.Ytglpmlbbaedbiaa
end
section
open Go.PV.AH renaming set_same→Zpc,set_set→ZpA,set_none→Zpb,ne_of→Zo6,set_ne→Zpg
open Go.PV.Hold renaming mk→Zo8
open Go.PV.PureF renaming use→Zpe
open Go.PV.SubH renaming refl→Zpa,set→ZpG,new→Zph
open Int renaming toNat_natCast→ZpW,reduceEq→ZpE
open List renaming getElem_mem→Zpk,map_cons→Zpp,map_nil→Zpw,drop_eq_nil_of_le→ZpC,drop→Zo9,mem_cons_of_mem→Zqe,eq_nil_of_length_eq_zero→ZpY
open Nat renaming reduceLT→Zo7,reduceEqDiff→Zo5,succ_ne_self→Zpv,reduceAdd→Zpd,reduceLeDiff→Zpo,lt_succ_self→Zp8
set_option maxRecDepth 20000
set_option maxHeartbeats 4000000
namespace Go.PV.Ytglpmlbbaedbiaa
open Go Go.Proofs
abbrev tB (a:Int):Blk:=.cells 129 [iV a] 0
def tlK (r:Nat) (a:Int) (n:Nat) (H:AH) (e:VE) (H':AH):Prop:=∃ b,TL a n b∧e=.ret (.tuple [])∧H'=H.set r (tB b)
abbrev TlV (fs:List Fu) (p:Pr) (v:Val):Prop:=∀ (r:Nat) (a:Int) (H:AH),H r=some (tB a) → -2≤a→a≤5000→ZU Try.prog 46 [ptrV r 0,v.vv fs] H (tlK r a (v.ex p).full H)
theorem ZdW {r:Nat} {a:Int} {n:Nat} {H:AH} {f:FuncId} {xs:List VV} {K:VE→AH→Prop} (h:ZU Try.prog f xs H (tlK r a n H)) (h1:∀ b,TL a n b→K (.ret (.tuple [])) (H.set r (tB b))):ZU Try.prog f xs H K:=h.mono fun e H' hq=>by
 obtain ⟨b,hb,rfl,rfl⟩:=hq;exact h1 b hb
theorem Zm4 {r:Nat} {a b:Int} {n:Nat} {H H':AH} {t:Nat→VV} (hb:TL a n b) (hs:SubH (H.set r (tB b)) H'):YP Try.prog [] (fun e H''=>∃ H',SubH H' H''∧tlK r a n H e H') .ret ⟨t,[]⟩ H' :=
 ⟨rfl,_,_,_,rfl,.refl _ _,_,hs,b,hb,rfl,rfl⟩
theorem Zgu {r:Nat} {a b:Int} {n:Nat} {H H':AH} {t:Nat→VV} (hb:TL a n b) (hs:SubH (H.set r (tB b)) H'):YP Try.prog [] (fun e H''=>∃ H',SubH H' H''∧tlK r a n H e H') .normal ⟨t,[]⟩ H' :=
 ⟨rfl,_,_,_,rfl,.refl _ _,_,hs,b,hb,rfl,rfl⟩
theorem Zhi {fs:List Fu} {p:Pr} {l:List Val} (hl:l.length≤1099511627776) (ih:∀ v∈l,TlV fs p v) {r:Nat} {a:Int} {H:AH} (hr:H r=some (tB a)) (h1 : -2≤a) (h2:a≤5000):ZU Try.prog 65 [ptrV r 0,vsV fs l] H (tlK r a (XC (Xq p l)) H):=by
 refine Ji ?_;refine ZK fd65 (by simp) ?_;delta c65 Za Ze Zq;obtain ⟨N,hN⟩:∃ N,N=XC (Xq p l):=⟨_,rfl⟩
 rw [← hN];replace hN:=Zo8 hN;replace hr:=Zo8 hr
 (repeat' (first | (simp only [↓ZF,ZG,ptrV,intV,Zo7,reduceCtorEq,ZJ,undef,YA, *])))
 refine ZY (fun _ _ _ h=>h) (fun A H'=>A.d=[]∧A.t 0=ptrV r 0∧A.t 6=vsV fs l∧A.t 7=iV l.length∧∃ (i:Nat) (b:Int) (m:Nat),i≤l.length∧A.t 8=iV i∧TL a m b∧N=m+XC ((Xq p l).drop i)∧H'=H.set r (tB b))
  (fun A _=>match A.t 8 with | .lit (.int _ i)=>((l.length:Int)-i).toNat | _=>0) ?_ ?_
 ·exact ⟨rfl,(by simp only [ZI,Zo5,if_false, *]<;>rfl),(by simp only [ZI,Zo5,if_true,if_false, *]<;>rfl),(by simp only [ZI,Zo5,if_true,if_false, *]<;>rfl),0,a,0,by omega,(by simp only [ZI,Zo5,if_true,if_false, *]<;>rfl),TL.zero h1,by simpa using hN.out,(Zap hr.out).symm⟩
 ·clear hN;rintro ⟨t,d⟩ H' ⟨rfl,h0,h6,h7,i,b,m,hi,h8,hb,hN,hH⟩;dsimp only at h0 h6 h7 h8;delta b65_1 Zn Zr Zk Zb Zc Za Zo Zm;by_cases hlt:i<l.length
  ·have hil:(i:Int)<(l.length:Int):=by omega
   have e2:=ZcV (fs:=fs) hlt;obtain ⟨o1,o2⟩:=Wt fs l[i];have hv:=ih _ (Zpk hlt) r b H' (by rw [hH]; exact Zpc _ _ _) hb.lo (by have:=hb.hi; omega);have hlt':i<(Xq p l).length:=by rw [Zep]; exact hlt
   rw [ZeM hlt'] at hN;have hge:(Xq p l)[i]=l[i].ex p:=by simp only [Zcf,List.getElem_map]
   rw [hge] at hN;replace hN:=Zo8 hN;replace hb:=Zo8 hb;replace hH:=Zo8 hH;clear ih hge
   (repeat' (first | (refine ZdW hv (fun b2 hb2=>?_)) | (simp only [↓Wj,↓Xx,↓Xy,↓Xm,↓Xc,↓YS,↓XA,↓Yo,↓Ys,↓Zb9,↓YJ,↓YG,↓YH,↓YI,↓YT,↓Wk,↓ZI,↓YV,↓YB,↓YR,↓Wc,↓Xv,↓Xk,↓YX,↓XW,↓ZaL,ptrV,Zpp,Zpw,ite_true,ite_false,Zo5,Zo7,true_and,Zpv,decide_true,reduceCtorEq,Int.natCast_nonneg,ZpW,Nat.mul_one,eq_self,and_self,We,Zbc,Zeb,Zbo,Zbd,XF,Jw,YA,ZoQ, *]) | (with_reducible refine And.intro ?_ ?_)))
   all_goals rw [ZO (n:=(i:Int)+1) (by omega) (by omega)]
   ·refine ⟨i+1,b2,m+(l[i].ex p).full,by omega,rfl,hb.out.trans hb2,by rw [hN.out]; omega,?_⟩;rw [hH.out,ZpA]
   ·omega
  ·have hil:¬ (i:Int)<(l.length:Int):=by omega
   rw [ZpC (by rw [Zep]; omega)] at hN;have hb:TL a N b:=by rw [hN]; exact hb
   clear hN;replace hb:=Zo8 hb;replace hH:=Zo8 hH
   (repeat' (first | (simp only [↓ZF,ZG,ptrV,Zo7, *])))
   exact Zgu hb.out (by rw [hH.out]; exact Zpa _)
def isIf (d:Option TypeDesc):Bool:=match d with | some (.interface _)=>true | _=>false
theorem ZnT {d:Option TypeDesc} (h:isIf d=true):∃ e,d=some (.interface e):=by
 unfold isIf at h;split at h
 ·rename_i e; exact ⟨e,rfl⟩
 ·cases h
theorem ZnU:∃ e,Program.underlying Try.prog 125=some (.interface e):=ZnT (by kernel_rfl)
theorem neq_ifV {ox:Operand} {t:TypeId} {y:VV} {H:AH} {K:VE→AH→Prop}:vcBin Try.prog .neq 125 ox (.const .nilIface) (.iface t y) (.lit .nilIface) H K=K (.ret (boolV true)) H:=by
 unfold vcBin;simp only [Yw];exact propext ⟨fun h=>h.2.2 _ rfl,fun h=>⟨ZnU,.inr (.inl rfl),fun b hb=>by rw [show b=false from hb]; exact h⟩⟩
theorem neq_ifN {ox:Operand} {H:AH} {K:VE→AH→Prop}:vcBin Try.prog .neq 125 ox (.const .nilIface) (.lit .nilIface) (.lit .nilIface) H K=K (.ret (boolV false)) H:=by
 unfold vcBin;simp only [Yw];exact propext ⟨fun h=>h.2.2 _ rfl,fun h=>⟨ZnU,.inr (.inl rfl),fun b hb=>by rw [show b=true from hb]; exact h⟩⟩
theorem neq_val {v:Val} {fs:List Fu} {ox:Operand} {H:AH} {K:VE→AH→Prop}:vcBin Try.prog .neq 125 ox (.const .nilIface) (v.vv fs) (.lit .nilIface) H K=K (.ret (boolV true)) H:=by
 cases v<;>simp only [Val.vv]<;>exact neq_ifV
theorem Zb4 {fs:List Fu} {ks:List Ex} {eo:EnvO} {l:List Bd} {r:Nat} (hkl:ks.length≤10000) (ih:∀ k∈ks,∀ (b:Int) (H:AH),H r=some (tB b) → -2≤b→b≤5000→ZU Try.prog 66 [ptrV r 0,exV k,eoC fs eo] H (tlK r b (k.putM true l).full H))
 {a b0:Int} {n N:Nat} {t:Nat→VV} {H0 B:AH} (hN:N=n+XC (ks.map (·.putM true l))) (hb:TL a n b0) (ha:a≤5000) (h0:t 0=ptrV r 0) (h2:t 2=eoC fs eo) (h42:t 42=exsV ks) (h43:t 43=iV ks.length) (h44:t 44=iV 0) (hB:SubH (H0.set r (tB b0)) B) :
 ACx ⟨Try.prog,53,none⟩ (.loop b66_1) (Xf 0 (YP Try.prog [] fun e H''=>∃ H',SubH H' H''∧tlK r a N H0 e H')) ⟨t,[]⟩ B:=by
 refine ZY (fun _ _ _ h=>h) (fun A H'=>A.d=[]∧A.t 0=ptrV r 0∧A.t 2=eoC fs eo∧A.t 42=exsV ks∧A.t 43=iV ks.length∧∃ (i:Nat) (b:Int) (m:Nat),i≤ks.length∧A.t 44=iV i∧TL a m b∧N=m+XC ((ks.map (·.putM true l)).drop i)∧SubH (H0.set r (tB b)) H')
  (fun A _=>match A.t 44 with | .lit (.int _ i)=>((ks.length:Int)-i).toNat | _=>0) ?_ ?_
 ·exact ⟨rfl,h0,h2,h42,h43,0,b0,n,by omega,h44,hb,by simpa using hN,hB⟩
 ·clear h0 h2 h42 h43 h44 hN hB hb;rintro ⟨t,d⟩ H' ⟨rfl,h0,h2,h42,h43,i,b,m,hi,h44,hb,hN,hB⟩;dsimp only at h0 h2 h42 h43 h44;obtain ⟨e1,e2⟩:=Zhc fs eo;delta b66_1 Zn Zr Zk Zb Zi Zg Za Zo Zm;by_cases hlt:i<ks.length
  ·have hil:(i:Int)<(ks.length:Int):=by omega
   have hdi:=WL hlt;have hr:=hB _ _ (Zpc _ _ _);have hv:=fun H (h:H r=some (tB b))=>ih _ (Zpk hlt) b H h hb.lo (by have:=hb.hi; omega)
   have hlt':i<(ks.map (·.putM true l)).length:=by rw [List.length_map]; exact hlt
   rw [ZeM hlt',List.getElem_map] at hN
   have hst:∀ z X b2,H' z=none→SubH (H0.set r (tB b2)) ((H'.set z X).set r (tB b2)):=fun z X b2 hz=>by
    have h:=ZpG (hB.of_set (b:=X) (hB.none hz)) r (tB b2)
    rwa [ZpA] at h
   replace hN:=Zo8 hN;replace hb:=Zo8 hb;clear ih hB
   (repeat' (first | (simp only [↓ZF,ZG,ptrV,Zo5,Zo7,Zpd,reduceCtorEq,setAt,Zo9,Ye,YE,Yc,ZZ,en_66, *]) | (refine ZH fun zr zh=>?_; have zg:=zh; (try simp only [Zpb] at zg); (try have zn_hr:=Zo6 hr zh); (try have zn_hr:=Zo6 hr zg.2); (try have zn_hr:=Zo6 hr zg.2.2))))
   refine ZdW (hv _ (by rw [Zpg _ _ zn_hr.1]; exact hr)) (fun b2 hb2=>?_);have hst2:=hst _ (.cells 34 [iV ks[i].op,sV ks[i].name,encS exE ks[i].kids] 0) b2 zh;replace hst2:=Zo8 hst2;clear hst hv
   (repeat' (first | (simp only [↓ZF,ZG,ptrV,Zo5,Zo7,reduceCtorEq, *]) | (with_reducible refine And.intro ?_ ?_)))
   all_goals rw [ZO (n:=(i:Int)+1) (by omega) (by omega)]
   ·exact ⟨i+1,b2,_,by omega,rfl,hb.out.trans hb2,by rw [hN.out]; omega,hst2.out⟩
   ·omega
  ·have hil:¬ (i:Int)<(ks.length:Int):=by omega
   rw [ZpC (by rw [List.length_map]; omega)] at hN;have hb:TL a N b:=by rw [hN]; exact hb
   clear hN;replace hb:=Zo8 hb;replace hB:=Zo8 hB
   (repeat' (first | (simp only [↓ZF,ZG,ptrV,Zo7, *])))
   exact Zgu hb.out hB.out
theorem Zmo {fs:List Fu} {p:Pr}:∀ (n:Nat) (e:Ex) (b:List ByteArray) (eo:EnvO) (l:List Bd),e.sz<n→e.sz≤10000→e.sdF p b=0→EnvR p eo l→(∀ s v,eoF eo s=some v→TlV fs p v)→∀ (r:Nat) (a:Int) (H:AH),H r=some (tB a) → -2≤a→a≤5000→ZU Try.prog 66 [ptrV r 0,exV e,eoC fs eo] H (tlK r a (e.putM true l).full H):=by
 intro n
 induction n with
 | zero=>intro e b eo l h0; omega
 | succ n ih =>
   intro e b eo l h0 hs hsd her hev r a H hr ha1 ha2;have hz:=e.sz_eq;have hkl:=YL e.kids;obtain ⟨e1,e2⟩:=Zhc fs eo;refine Ji ?_;refine ZK fd66 (by simp) ?_;delta c66 Zj Za Zq Zr Zd Zb Zm Zo Zc Zg Ze;have hf:=ZnN fs eo e.name;have hself:=Zap hr
   have hkd5:e.op=5→∀ k∈e.kids,k.sdF p (b++[e.name])=0:=fun h5 k hk=>by
    have:=(Xn.1 hsd).2 k hk
    rwa [if_pos h5] at this
   have hkd:¬ e.op=5→∀ k∈e.kids,k.sdF p b=0:=fun h5 k hk=>by
    have:=(Xn.1 hsd).2 k hk
    rwa [if_neg h5] at this
   by_cases hneg:a<0
   ·replace hself:=Zo8 hself;clear ih her hev hf
    (repeat' (first | (simp only [↓ZF,ZG,vcNil,ptrV,Zo5,Zo7,reduceCtorEq,ZJ,Zo9,undef,XV,Yg, *]) | (refine ZH fun zr zh=>?_; have zg:=zh; (try simp only [Zpb] at zg); (try have zn_hr:=Zo6 hr zh); (try have zn_hr:=Zo6 hr zg.2); (try have zn_hr:=Zo6 hr zg.2.2))))
    exact Zm4 (TL.stop hneg ha1) (by rw [hself.out]; exact Zph (by assumption))
   ·have h9:¬ e.op=9:=by rcases Zfg hsd with h | h | h | h | h<;>omega
    rw [full_put h9,her e.name];by_cases h1:e.op=1
    ·rw [if_pos h1];cases hx:eoF eo e.name with
     | some v =>
       have hv:=hev _ _ hx;obtain ⟨o1,o2⟩:=Wt fs v;replace hf:PureF Try.prog 62 [eoC fs eo,sV e.name] (v.vv fs):=by rw [hx] at hf; exact hf
       clear ih her hev hx
       (repeat' (first | (simp only [↓ZF,ZG,vcNil,ptrV,boolV,Zo5,Zo7,reduceCtorEq,ZJ,Zo9,undef,ZpE,neq_val,XV,ZT,Yd,Yg,Ym,ZoR,ZoQ, *]) | (refine ZH fun zr zh=>?_; have zg:=zh; (try simp only [Zpb] at zg); (try have zn_hr:=Zo6 hr zh); (try have zn_hr:=Zo6 hr zg.2); (try have zn_hr:=Zo6 hr zg.2.2)) | (refine Zpe (hf) ?_)))
       refine ZdW (hv r a _ (by rw [Zpg _ _ zn_hr.1]; exact hr) ha1 ha2) (fun b2 hb2=>?_);have hst2:=ZpG (Zph (b:=.cells 34 [iV 1,sV e.name,encS exE e.kids] 0) zh) r (tB b2);replace hst2:=Zo8 hst2;replace hb2:=Zo8 hb2;clear hv hf
       (repeat' (first | (simp only [↓ZF, *])))
       exact Zm4 hb2.out hst2.out
     | none =>
       have hkd:=hkd (by omega);rw [if_neg (by omega:¬ e.op=5)];have hw1:IntKind.i64.wrap (a-1)=a-1:=ZO (by omega) (by omega);replace hf:PureF Try.prog 62 [eoC fs eo,sV e.name] nilI:=by rw [hx] at hf; exact hf
       clear hx
       (repeat' (first | (simp only [↓ZF,ZG,vcNil,ptrV,intV,boolV,Zo5,Zo7,reduceCtorEq,ZJ,setAt,Zo9,undef,ZpE,neq_ifN,XV,ZT,Yd,ZW,Yg,Ym,Yk,Zc5,ZZ,ZoR, *]) | (refine ZH fun zr zh=>?_; have zg:=zh; (try simp only [Zpb] at zg); (try have zn_hr:=Zo6 hr zh); (try have zn_hr:=Zo6 hr zg.2); (try have zn_hr:=Zo6 hr zg.2.2)) | (refine Zpe (hf) ?_)))
       refine Zb4 (eo:=eo) (l:=l) (b0:=a-1) (n:=1) (by omega) (fun k hk b2 H2 h2 h3 h4=>ih k b eo l (by have:=ZX hk; omega) (by have:=ZX hk; omega) (hkd k hk) her hev r b2 H2 h2 h3 h4) rfl (TL.one (by omega)) ha2 (by simp only [ZI,Zo5,if_false, *]<;>rfl) (by simp only [ZI,Zo5,if_false, *]<;>rfl) (by simp only [ZI,Zo5,if_true,if_false, *]<;>rfl) (by simp only [ZI,Zo5,if_true,if_false, *]<;>rfl) (by simp only [ZI,Zo5,if_true,if_false, *]<;>rfl) ?_;exact ZpG (Zph zh) _ _
    ·rw [if_neg h1];have hw1:IntKind.i64.wrap (a-1)=a-1:=ZO (by omega) (by omega);by_cases h5:e.op=5
     ·have hkd5:=hkd5 h5;rw [if_pos h5]
      (repeat' (first | (simp only [↓ZF,ZG,vcNil,ptrV,intV,Zo5,Zo7,Zpd,Zpo,reduceCtorEq,ZJ,ZQ,fillV,setAt,Zo9,cl_ni,undef,ZpE,ZQ,XV,ZT,Yd,ZW,Yg,Ym,Yk,Zc5,ZjM,ZZ, *]) | (refine ZH fun zr zh=>?_; have zg:=zh; (try simp only [Zpb] at zg); (try have zn_hr:=Zo6 hr zh); (try have zn_hr:=Zo6 hr zg.2); (try have zn_hr:=Zo6 hr zg.2.2))))
      rename_i r4 h4 g4 q4;refine JY (Ghost.slot (i:=2) (x':=eoC fs ((e.name,none)::eo)) (H':=((H.set r4 (.cells 34 [iV 5,sV e.name,encS exE e.kids] 0)).set r (tB (a-1)))) ?_) ?_
      ·simp only [ZI,Zo5,if_true,if_false];exact GhV.ptrN (Zpc _ _ _) zh (Zph zh)
      refine Zb4 (eo:=(e.name,none)::eo) (l:=outB e.name l) (b0:=a-1) (n:=1) (by omega) (fun k hk b2 H2 h2 h3 h4=>ih k (b++[e.name]) _ _ (by have:=ZX hk; omega) (by have:=ZX hk; omega) (hkd5 k hk) (her.lam _) ?_ r b2 H2 h2 h3 h4) rfl (TL.one (by omega)) ha2 (by simp only [ZI,Zo5,if_false, *]<;>rfl) (by simp only [ZI,Zo5,if_true,if_false, *]<;>rfl) (by simp only [ZI,Zo5,if_true,if_false, *]<;>rfl) (by simp only [ZI,Zo5,if_true,if_false, *]<;>rfl) (by simp only [ZI,Zo5,if_true,if_false, *]<;>rfl) ?_
      ·intro s v hs
       change (if e.name=s then none else eoF eo s)=some v at hs
       split at hs
       ·cases hs
       ·exact hev s v hs
      ·exact ZpG (Zph h4) _ _
     ·have hkd:=hkd h5;rw [if_neg h5]
      (repeat' (first | (simp only [↓ZF,ZG,vcNil,ptrV,intV,Zo5,Zo7,reduceCtorEq,ZJ,setAt,Zo9,undef,XV,ZT,ZW,Yg,Yk,Zc5,ZZ, *]) | (refine ZH fun zr zh=>?_; have zg:=zh; (try simp only [Zpb] at zg); (try have zn_hr:=Zo6 hr zh); (try have zn_hr:=Zo6 hr zg.2); (try have zn_hr:=Zo6 hr zg.2.2))))
      refine Zb4 (eo:=eo) (l:=l) (b0:=a-1) (n:=1) (by omega) (fun k hk b2 H2 h2 h3 h4=>ih k b eo l (by have:=ZX hk; omega) (by have:=ZX hk; omega) (hkd k hk) her hev r b2 H2 h2 h3 h4) rfl (TL.one (by omega)) ha2 (by simp only [ZI,Zo5,if_false, *]<;>rfl) (by simp only [ZI,Zo5,if_false, *]<;>rfl) (by simp only [ZI,Zo5,if_true,if_false, *]<;>rfl) (by simp only [ZI,Zo5,if_true,if_false, *]<;>rfl) (by simp only [ZI,Zo5,if_true,if_false, *]<;>rfl) ?_;exact ZpG (Zph zh) _ _
theorem ZfW:∀ {ns:List ByteArray} {vs:List Val} {s:ByteArray} {v:Val},eoF (eoOf ns vs) s=some v→v∈vs
 | [],vs,s,v,h=>by cases vs<;>cases h
 | n::ns,[],s,v,h=>by cases h
 | n::ns,w::vs,s,v,h=>by
   change (if n=s then some w else eoF (eoOf ns vs) s)=some v at h
   split at h
   ·cases h; simp
   ·exact Zqe _ (ZfW h)
theorem ZoC {p:Pr}:∀ (N:Nat) (v:Val),v.sz≤N→v.ok p→TlV p.funs p v:=by
 intro N
 induction N with
 | zero=>intro v hv; have:=v.sz_eq; omega
 | succ N ih =>
   intro v hv hok r a H hr ha1 ha2;have hvz:=v.sz_eq;have hself:=Zap hr;refine Ji ?_;refine ZK fd46 (by simp) ?_;delta c46 Za Zq Zr Zd Zb Zm Zh Zi Zg Zo Ze;by_cases hneg:a<0
   ·replace hself:=Zo8 hself;clear ih
    (repeat' (first | (simp only [↓ZF,ZG,vcNil,ptrV,Zo5,Zo7,ZJ,Zo9,undef,XV,Yg, *])))
    exact Zm4 (TL.stop hneg ha1) (by rw [hself.out]; exact Zpa _)
   ·have hw1:IntKind.i64.wrap (a-1)=a-1:=ZO (by omega) (by omega);have hw2:IntKind.i64.wrap (a-1-1)=a-1-1:=ZO (by omega) (by omega);cases v with
    | built n ks =>
      obtain ⟨h1,h2⟩:=hok;have hz:JI ks+1≤N+1:=by have:(Val.built n ks).sz=1+JI ks:=rfl; omega
      have hvs:=fun H b h=>Zhi (fs:=p.funs) (p:=p) (l:=ks) (H:=H) (a:=b) (r:=r) (by omega) (fun v hv=>ih v (by have:=JX hv; omega) (Xa.1 h2 v hv)) h
      have hfull:(Val.ex p (.built n ks)).full=1+XC (Xq p ks):=by rw [Val.ex,Ex.full_eq]; rfl
      rw [hfull];rw [ZbT];replace hvs:=Zo8 hvs;replace hself:=Zo8 hself;clear ih hv hvz h2 hz hfull
      (repeat' (first | (simp only [↓ZF,ZG,vcNil,ZP,ptrV,boolV,Zo5,Zo7,Zpd,reduceCtorEq,ZJ,setAt,Zo9,undef,as_b,XV,JZ,Yg,Je,ZaT,Zc5,Jb,ZoS, *]) | (refine ZH fun zr zh=>?_; have zg:=zh; (try simp only [Zpb] at zg); (try have zn_hr:=Zo6 hr zh); (try have zn_hr:=Zo6 hr zg.2); (try have zn_hr:=Zo6 hr zg.2.2))))
      refine ZdW (hvs.out _ _ (Zpc _ _ _) (by omega) (by omega)) (fun b2 hb2=>?_);have hst2:=fun X=>ZpG (Zph (b:=X) zh) r (tB b2)
      replace hst2:=Zo8 hst2;replace hb2:=Zo8 hb2
      (repeat' (first | (simp only [↓ZF,ZG, *])))
      exact Zgu ((TL.one (by omega)).trans hb2.out) (hst2.out _)
    | clo x b ns vs =>
      obtain ⟨⟨h1,h2,h3,h4,h5⟩,h6⟩:=hok;have hz:JI vs+1≤N+1:=by have:(Val.clo x b ns vs).sz=1+JI vs:=rfl; omega
      have hw:=fun H b' h=>Zmo (fs:=p.funs) (p:=p) ((Ex.mk 5 x [b]).sz+1) (.mk 5 x [b]) ns (eoOf ns vs) (bdL ns (Xq p vs)) (Zp8 _) (by rw [Ex.sz_eq]; simp only [Ex.kids,exsSz]; omega) h2 (EnvR.of p ns vs) (fun s v hs=>ih v (by have:=JX (ZfW hs); omega) (Xa.1 h6 v (ZfW hs))) r b' H h
      have hfull:((Ex.mk 5 x [b]).putM true (bdL ns (Xq p vs))).full=(Val.ex p (.clo x b ns vs)).full:=by
       rw [Ex.putM_eq,Val.ex]; rfl
      rw [hfull] at hw;rw [Zgr];obtain ⟨e1,e2⟩:=Jm p.funs vs ns;rw [← Zfv] at hw;replace hw:=Zo8 hw;replace hself:=Zo8 hself;clear ih hv hvz h2 hz hfull
      (repeat' (first | (simp only [↓ZF,ZG,vcNil,ZP,ptrV,boolV,Zo5,Zo7,Zpd,reduceCtorEq,ZJ,setAt,Zo9,undef,as_bc,as_cc,XV,ZiH,ZiI,Yg,Ye,Zdv,ZjL,ZfG,en_66, *]) | (refine ZH fun zr zh=>?_; have zg:=zh; (try simp only [Zpb] at zg); (try have zn_hr:=Zo6 hr zh); (try have zn_hr:=Zo6 hr zg.2); (try have zn_hr:=Zo6 hr zg.2.2))))
      refine ZdW (hw.out _ _ (by rw [Zpg _ _ zn_hr.1]; exact hr) (by omega) (by omega)) (fun b2 hb2=>?_);have hst2:=fun X=>ZpG (Zph (b:=X) zh) r (tB b2)
      replace hst2:=Zo8 hst2;replace hb2:=Zo8 hb2
      (repeat' (first | (simp only [↓ZF, *])))
      exact Zgu (hb2.out) (hst2.out _)
    | part j us =>
      obtain ⟨⟨h1,h2,h3⟩,h4⟩:=hok;have hz:JI us+1≤N+1:=by have:(Val.part j us).sz=1+JI us:=rfl; omega
      have hvs:=fun H b h=>Zhi (fs:=p.funs) (p:=p) (l:=us) (H:=H) (a:=b) (r:=r) h2 (fun v hv=>ih v (by have:=JX hv; omega) (Xa.1 h4 v hv)) h
      rw [Zco];by_cases h0:us.length=0
      ·have h0':¬ (0:Int)<(us.length:Int):=by omega
       have hfull:(Val.ex p (.part j us)).full=1+XC (Xq p us):=by
        rw [Val.ex,if_pos h0,ZpY h0]; rfl
       rw [hfull];replace hvs:=Zo8 hvs;replace hself:=Zo8 hself;clear ih hv hvz h4 hz hfull h0
       (repeat' (first | (simp only [↓ZF,ZG,vcNil,ZP,ptrV,intV,boolV,Zo5,Zo7,Zpd,reduceCtorEq,ZJ,setAt,Zo9,undef,Zo2,Zo4,Zo3,XV,ZaJ,Yg,Je,Zc5,ZgL,Zc6,YA,ZoS, *]) | (refine ZH fun zr zh=>?_; have zg:=zh; (try simp only [Zpb] at zg); (try have zn_hr:=Zo6 hr zh); (try have zn_hr:=Zo6 hr zg.2); (try have zn_hr:=Zo6 hr zg.2.2))))
       refine ZdW (hvs.out _ _ (Zpc _ _ _) (by omega) (by omega)) (fun b2 hb2=>?_);have hst2:=fun X=>ZpG (Zph (b:=X) zh) r (tB b2)
       replace hst2:=Zo8 hst2;replace hb2:=Zo8 hb2
       (repeat' (first | (simp only [↓ZF,ZG, *])))
       exact Zgu ((TL.one (by omega)).trans hb2.out) (hst2.out _)
      ·have h0':(0:Int)<(us.length:Int):=by omega
       have hfull:(Val.ex p (.part j us)).full=2+XC (Xq p us):=by
        rw [Val.ex,if_neg h0,Ex.full_eq];show 1+XC (.mk 2 (JJ p j) []::Xq p us)=_;rw [XC,Ex.full_eq];show 1+((1+0)+_)=_;omega
       rw [hfull];replace hvs:=Zo8 hvs;replace hself:=Zo8 hself;clear ih hv hvz h4 hz hfull h0
       (repeat' (first | (simp only [↓ZF,ZG,vcNil,ZP,ptrV,intV,boolV,Zo5,Zo7,Zpd,reduceCtorEq,ZJ,setAt,Zo9,undef,Zo2,Zo4,Zo3,XV,ZaJ,Yg,Je,Zc5,ZgL,Zc6,YA,ZoS, *]) | (refine ZH fun zr zh=>?_; have zg:=zh; (try simp only [Zpb] at zg); (try have zn_hr:=Zo6 hr zh); (try have zn_hr:=Zo6 hr zg.2); (try have zn_hr:=Zo6 hr zg.2.2))))
       refine ZdW (hvs.out _ _ (Zpc _ _ _) (by omega) (by omega)) (fun b2 hb2=>?_);have hst2:=fun X=>ZpG (Zph (b:=X) zh) r (tB b2)
       replace hst2:=Zo8 hst2;replace hb2:=Zo8 hb2
       (repeat' (first | (simp only [↓ZF,ZG, *])))
       exact Zgu ((TL.two (by omega)).trans hb2.out) (hst2.out _)
end Go.PV.Ytglpmlbbaedbiaa
end
section
open Bool renaming and_eq_true→ZpM
open Go.PV.AH renaming set_none→Zpb,get→Zpf,set_same→Zpc
open Go.PV.GhV renaming forget→ZpB
open Go.PV.Hold renaming mk→Zo8
open Go.PV.SubH renaming refl→Zpa,of_set→Zpi,new→Zph
open List renaming getElem_mem→Zpk,drop_zero→ZpV,drop→Zo9,take_of_length_le→ZpD
open Nat renaming reduceEqDiff→Zo5,reduceLT→Zo7,reduceAdd→Zpd,reduceLeDiff→Zpo,reduceMul→ZpQ
open Option renaming bind_some→ZpH,map_some→Zps
set_option maxRecDepth 20000
set_option maxHeartbeats 4000000
namespace Go.PV.Ytglpmlbbaedbiaa
open Go Go.Proofs
mutual
def Val.pl:Val→Bool
 | .built _ ks=>Zau ks
 | .clo _ _ _ _=>false
 | .part _ _=>false
def Zau:List Val→Bool
 | []=>true
 | v::l=>v.pl && Zau l
end
theorem Zer:∀ {l:List Val},Zau l=true↔∀ v∈l,v.pl=true
 | []=>by simp [Zau]
 | v::l=>by rw [Zau,ZpM,Zer (l:=l)]; simp
theorem Zmp {l:List Val} {i:Nat} (h:i<l.length) (hp:l[i].pl=false):Zau l=false:=by
 cases hv:Zau l with
 | false=>rfl
 | true=>rw [Zer.1 hv _ (Zpk h)] at hp; cases hp
def plK (p:Pr) (v:Val) (H:AH) (e:VE) (H':AH):Prop:=(if v.pl=true then e=.ret (exV (v.ex p)) else e=.pan (stopE 423))∧H'=H
theorem pl_use {p:Pr} {v:Val} {H:AH} {f:FuncId} {xs:List VV} {K:VE→AH→Prop} (h:ZU Try.prog f xs H (plK p v H)) (h1:v.pl=true→K (.ret (exV (v.ex p))) H) (h2:v.pl=false→K (.pan (stopE 423)) H):ZU Try.prog f xs H K:=h.mono fun e H' hq=>by
 obtain ⟨hq,rfl⟩:=hq;cases hp:v.pl with
 | true=>rw [if_pos hp] at hq; rw [hq]; exact h1 hp
 | false=>rw [if_neg (by rw [hp]; simp)] at hq; rw [hq]; exact h2 hp
def plQ (p:Pr) (v:Val) (H0:AH):APost:=YP Try.prog [.cell 2 34] (ghK (plK p v H0))
theorem Zm5 {p:Pr} {v:Val} {H0 H:AH} {t:Nat→VV} (hv:v.pl=false) (hs:SubH H0 H):plQ p v H0 (.panic (stopE 423)) ⟨t,[]⟩ H :=
 ⟨rfl,H,Zpa _,H0,hs,by rw [if_neg (by rw [hv]; simp)],rfl⟩
theorem pl_ret {p:Pr} {v:Val} {H0 H:AH} {t:Nat→VV} {r sp:Nat} {e':TypeId} (hv:v.pl=true) (h2:t 2=ptrV r 0) (k2:H r=some (.cells e' [iV (v.ex p).op,sV (v.ex p).name,exsV (v.ex p).kids] sp)) (hs:SubH H0 H):plQ p v H0 .ret ⟨t,[]⟩ H:=by
 refine ⟨rfl,exV (v.ex p),H,exV (v.ex p),?_,.refl _ _,_,H0,ZpB hs _,by rw [if_pos hv],rfl⟩;simp only [resV,Xi,Xh,Ye,h2,k2,ptrV,ZpV,XY,ZpH,Zps,tupV]
theorem plain_ok (p:Pr):∀ (n:Nat) (v:Val) (H:AH),v.sz<n→v.ok p→ZU Try.prog 47 [v.vv p.funs] H (plK p v H):=by
 intro n
 induction n with
 | zero=>intro v H h; omega
 | succ n ih =>
   intro v H0 hn hok;refine Zdh ?_;refine ZK fd47 (by simp) ?_
   change vc _ _ (plQ p v H0) _ _
   delta c47 Zi Za Zq Zr Zh Zg Zc Zd Zb Ze;have hvz:=v.sz_eq;cases v with
   | clo x b ns vs =>
     have hpl:(Val.clo x b ns vs).pl=false:=rfl;rw [Zgr];clear ih
     (repeat' (first | (simp only [↓ZF,ZG,YN,ZP,ptrV,boolV,Zo5,Zo7,Zpd,reduceCtorEq,ZJ,ZQ,fillV,setAt,undef,as_bc,zc_b,ZQ,YN,Za6,ZaT,Yc,Jb,Zbu, *]) | (refine ZH fun zr zh=>?_; have zg:=zh; (try simp only [Zpb] at zg))))
     exact Zm5 hpl (by repeat (first | assumption | exact Zpa _ | refine Zpi ?_ (by simp only [*])))
   | part j us =>
     have hpl:(Val.part j us).pl=false:=rfl;rw [Zco];clear ih
     (repeat' (first | (simp only [↓ZF,ZG,YN,ZP,ptrV,boolV,Zo5,Zo7,Zpd,reduceCtorEq,ZJ,ZQ,fillV,setAt,undef,Zo2,zc_b,ZQ,YN,Za6,ZaT,Yc,Jb,Zbu, *]) | (refine ZH fun zr zh=>?_; have zg:=zh; (try simp only [Zpb] at zg))))
     exact Zm5 hpl (by repeat (first | assumption | exact Zpa _ | refine Zpi ?_ (by simp only [*])))
   | built m ks =>
     obtain ⟨hkl,hko⟩:=hok;have hz:JI ks+1<n+1:=by have:(Val.built m ks).sz=1+JI ks:=rfl; omega
     have ih':∀ i (h:i<ks.length) (H:AH),ZU Try.prog 47 [ks[i].vv p.funs] H (plK p ks[i] H):=fun i h H=>ih _ H (by have:=JX (Zpk h); omega) (Xa.1 hko _ (Zpk h))
     rw [ZbT];clear ih hz hn hvz hko
     (repeat' (first | (simp only [↓ZF,ZG,ZP,ptrV,intV,boolV,Zo5,Zo7,Zpd,Zpo,reduceCtorEq,ZJ,ZQ,fillV,setAt,Zo9,undef,as_b,ZQ,Zc7,JZ,Ym,Je,YE,JR,ZaT,Yc,Jb,YA, *]) | (refine ZH fun zr zh=>?_; have zg:=zh; (try simp only [Zpb] at zg))))
     rename_i r2 n2 n2' r3 n3 n3';obtain ⟨es,hes⟩:∃ es,es=Xq p ks:=⟨_,rfl⟩
     have hel:es.length=ks.length:=by rw [hes,Zep]
     have hei:∀ i (h:i<ks.length) (h':i<es.length),ks[i].ex p=es[i]:=fun i h h'=>by simp only [hes,Zcf,List.getElem_map]
     have hexx:(Val.built m ks).ex p=.mk 3 m es:=by rw [Val.ex,hes]
     have f2:H0 r2=none:=by simpa using n2'
     have f3:H0 r3=none:=n3'.2;have f5:H0 zr=none:=by simp only [zg]
     have d2:¬ zr=r2∧¬ r2=zr:=by simp only [zg]; simp
     have hsB:SubH H0 ((H0.set r2 (.cells 34 [iV 0,sV ⟨#[]⟩,.lit (.slice none 0 0)] 0)).set r3 (.cells 161 [sV m,vsV p.funs ks] 0)):=(by repeat (first | assumption | exact Zpa _ | refine Zpi ?_ (by simp only [*])))
     have k2:((H0.set r2 (.cells 34 [iV 0,sV ⟨#[]⟩,.lit (.slice none 0 0)] 0)).set r3 (.cells 161 [sV m,vsV p.funs ks] 0)) r2=some (.cells 34 [iV 0,sV ⟨#[]⟩,.lit (.slice none 0 0)] 0):=(by simp only [Zpf, *,if_true,if_false]<;>rfl)
     have hzB:((H0.set r2 (.cells 34 [iV 0,sV ⟨#[]⟩,.lit (.slice none 0 0)] 0)).set r3 (.cells 161 [sV m,vsV p.funs ks] 0)) zr=none:=zh;clear zg zh n2 n2' n3 n3' hes f3;generalize (H0.set r2 (.cells 34 [iV 0,sV ⟨#[]⟩,.lit (.slice none 0 0)] 0)).set r3 (.cells 161 [sV m,vsV p.funs ks] 0)=B at *
     have hin:InB B (B.set zr (.cells 34 [iV 3,sV m,.lit (.slice none 0 0)] 0)) zr 34 [iV 3,sV m] [] 34 3 0 [] (.lit (.slice none 0 0)) _ :=
      InB.start (Zpc _ _ _) (Zph hzB) hzB
     refine ZY (fun _ _ _ h=>h) (fun A H=>A.d=[]∧A.t 2=ptrV r2 0∧A.t 5=ptrV zr 0∧A.t 21=vsV p.funs ks∧A.t 22=iV ks.length∧∃ (i:Nat) (v:VV) (Hb:AH),i≤ks.length∧A.t 23=iV i∧InB B H zr 34 [iV 3,sV m] [] 34 3 i (encC exE (es.take i)) v Hb∧∀ k (h:k<ks.length),k<i→ks[k].pl=true)
      (fun A _=>match A.t 23 with | .lit (.int _ i)=>((ks.length:Int)-i).toNat | _=>0) ?_ ?_
     ·exact ⟨rfl,(by simp only [ZI,Zo5,if_true,if_false, *]<;>rfl),(by simp only [ZI,Zo5,if_true,if_false, *]<;>rfl),(by simp only [ZI,Zo5,if_true,if_false, *]<;>rfl),(by simp only [ZI,Zo5,if_true,if_false, *]<;>rfl),0,_,_,by omega,(by simp only [ZI,Zo5,if_true,if_false, *]<;>rfl),hin,fun k h h'=>by omega⟩
     ·clear hin;rintro ⟨t,d'⟩ H ⟨rfl,h2,h5,h21,h22,i,v,Hb,hi,h23,hb,hall⟩;dsimp only at h2 h5 h21 h22 h23;have q5:=hb.at;have q2:=hb.sub' _ _ k2;delta b47_1 Zn Zr Zk Zb Zc Zd Za Zo Zq Zl Zg Zm;by_cases hlt:i<ks.length
      ·have hil:(i:Int)<(ks.length:Int):=by omega
       have e2:=ZcV (fs:=p.funs) hlt;obtain ⟨o1,o2⟩:=Wt p.funs ks[i];have hc:=ih' i hlt H;have hei':=hei i hlt (by omega);have hnot:=fun h=>Zmp hlt h
       clear ih' hei
       (repeat' (first | (simp only [↓ZF,ZG,ptrV,Zo5,Zo7,Zo9,ZW,Jw,Yk,YA,en_47, *]) | (refine ZR mixed (fun _ _ _ _ e h=>⟨e.trans h.1,h.2⟩) _ (Zpa _) ?_)))
       refine pl_use hc (fun hpi=>?_) (fun hpi=>?_)
       ·rw [hei']
        have hall':∀ k (h:k<ks.length),k<i+1→ks[k].pl=true:=fun k h h'=>by
         rcases Nat.lt_succ_iff_lt_or_eq.1 h' with h1 | rfl
         ·exact hall k h h1
         ·exact hpi
        replace hall':=Zo8 hall';clear hall hpi hnot hei' hc
        (repeat' (first | (simp only [↓ZF,ZG,Zo5,Zo7,Zpd,ZpQ,Zpo,fillV,setAt,ZN,ZN,Yc,ZZ, *]) | (exact Zpa _) | (with_reducible refine And.intro ?_ ?_)))
        refine XJ ZZ Yc rfl (by omega) hb.own rfl rfl (by omega) (by omega) (fun v' H' ho=>?_);have hb2:=hb.next ho;have q5':=ho.sub _ _ hb.blk;have hc1:=ho.cells.1;have hc2:=ho.cells.2;clear hb q5 q2 ho
        (repeat' (first | (simp only [↓ZF,ZG,ptrV,Zo5,Zo7,Zpd,setAt,ZW,ZmJ, *]) | (with_reducible refine And.intro ?_ ?_)))
        all_goals rw [ZO (n:=(i:Int)+1) (by omega) (by omega)]
        ·rw [← ZjT (by omega)] at hb2;exact ⟨i+1,v',_,by omega,rfl,hb2,hall'.out⟩
        ·omega
       ·have hpn:(Val.built m ks).pl=false:=hnot hpi;have hsu:=hsB.trans hb.sub';clear hnot hc hei' hall
        (repeat' (first | (simp only [↓ZF, *])))
        exact Zm5 hpn hsu
      ·have hil:¬ (i:Int)<(ks.length:Int):=by omega
       have hie:i=ks.length:=by omega
       subst hie
       have hpl:(Val.built m ks).pl=true:=by
        rw [Val.pl,Zer];intro v hv;obtain ⟨k,hk,rfl⟩:=List.getElem_of_mem hv;exact hall k hk hk
       rw [ZpD (by omega)] at hb
       (repeat' (first | (simp only [↓ZF,ZG,ptrV,Zo7, *])))
       refine JY (hb.ghost _ _) ?_;have hx:Blk.cells 34 ([iV 3,sV m]++[.slice false ks.length (encC exE es)]) 0=.cells 34 [iV 3,sV m,encS exE es] 0:=by rw [← hel]; rfl
       rw [hx];clear hb q5 q2 hx ih';refine Ya rfl (fun _ _ _ h=>h) ?_;delta c47_1 Zb Zg;have hq:=Zo8 hexx;clear hexx
       (repeat' (first | (simp only [↓ZF,ZG,ptrV,Zo5,Zo7,Zpd,setAt,Zo9,Ye,YE, *])))
       refine pl_ret hpl (by simp only [ZI,Zo5,if_false, *]<;>rfl) (e':=34) (sp:=0) (by rw [hq.out]; exact Zpc _ _ _) ((hsB.of_set f5).of_set f2)
end Go.PV.Ytglpmlbbaedbiaa
end
section
open Bool renaming and_self→Zp3
open Go.PV.AH renaming ne_of→Zo6,get→Zpf,set_set→ZpA,set_none→Zpb
open Go.PV.SubH renaming set→ZpG,of_set→Zpi,new→Zph
open List renaming map_cons→Zpp,map_nil→Zpw,length_cons→Zpx,length_nil→Zp0,getD_cons_zero→ZpN,getD_cons_succ→ZpK,getD_nil→ZpL,all_cons→ZpU,drop→Zo9,getElem?_cons_zero→Zqa,getElem?_cons_succ→Zqb,set_cons_zero→Zp5,set_cons_succ→Zp4
open Nat renaming reduceEqDiff→Zo5,reduceLT→Zo7,reduceAdd→Zpd,succ_ne_self→Zpv,zero_add→Zpu,add_zero→ZpO,le_refl→Zpl
set_option maxRecDepth 20000
set_option maxHeartbeats 4000000
namespace Go.PV.Ytglpmlbbaedbiaa
open Go Go.Proofs
theorem ZnV:∃ e,Program.underlying Try.prog 20=some (.interface e):=ZnT (by kernel_rfl)
section
variable {H:AH} {K:VE→AH→Prop} {ox:Operand} {u:TypeId} {y:Value}
theorem nil_neq:vcBin Try.prog .neq 20 ox (.const .nilIface) (.lit .nilIface) (.lit .nilIface) H K=K (.ret (boolV false)) H:=by
 unfold vcBin;simp only [Yw];exact propext ⟨fun h=>h.2.2 _ rfl,fun h=>⟨ZnV,.inr (.inl rfl),fun b hb=>by rw [show b=true from hb]; exact h⟩⟩
theorem if_neq:vcBin Try.prog .neq 20 ox (.const .nilIface) (.lit (.iface u y)) (.lit .nilIface) H K=K (.ret (boolV true)) H:=by
 unfold vcBin;simp only [Yw];exact propext ⟨fun h=>h.2.2 _ rfl,fun h=>⟨ZnV,.inr (.inl rfl),fun b hb=>by rw [show b=false from hb]; exact h⟩⟩
end
theorem fdR:FnD Try.prog 44 19 [] (.seq (.reg (⟨some 5,(.call { callee:=(.builtin .recover),args:=#[],argTypes:=#[] }),none⟩::[⟨some 2,(.assign (.tmp 5)),none⟩])) (match c44 with | .seq _ b=>b | c=>c)):=fd44
theorem mv_ok:∀ o∈[(⟨some 2,(.assign (.tmp 5)),none⟩:GOp)],isMv o=true∧dOk 19 o.dst:=fun o ho=>by
 rcases List.mem_singleton.1 ho with rfl
 exact ⟨rfl,by simp [dOk]⟩
theorem cl_z1 (v:Value):VV.cells (.lit (.agg #[v]))=[.lit v]:=rfl
theorem Zhj (i:Nat):AH.nil i=none:=rfl
theorem Zbz (H:AH):SubH AH.nil H:=fun _ _ h=>by cases h
def recd (l:List PanicEntry):FrameMode:=.panicking (l.map fun e=>{ e with recovered:=true })
theorem rec_nil {H:AH} {xs:List VV} {K:VE→FrameMode→AH→Prop} (hN:xs.length≤19) (h:∀ u,K (.ret u) .returning H):ZaN Try.prog 44 xs .returning H K:=by
 refine Zah fdR mv_ok hN (by decide) (Zds (fun _ _ _ h=>h) ?_);delta c44 Zq Zc Za Zr Zh Zi Zg Zd Zb;unfold mvs mvs mvV
 (repeat' (first | (simp only [↓ZF,ZG,boolV,Zo5,Zo7,ZJ,undef,nil_neq,Zck, *])))
 exact ⟨rfl,_,H,_,rfl,.refl _ _,h _⟩
abbrev zR:List VV:=[iV 0,sV ⟨#[]⟩,.lit (.slice none 0 0),iV 0]
theorem rec_stop {H:AH} {r6 r7:Nat} {y0 y1 y2 y3:VV} {x7 c:Int} {K:VE→FrameMode→AH→Prop}
 (b6:H r6=some (.cells 74 [y0,y1,y2,y3] 0)) (b7:H r7=some (.cells 35 [iV x7] 0)) (d67:¬ r6=r7∧¬ r7=r6)
 (h:∀ u H',SubH ((H.set r6 (.cells 74 zR 0)).set r7 (.cells 35 [iV c] 0)) H'→K (.ret u) (recd (stopE c)) H'):ZaN Try.prog 44 [ptrV r6 0,ptrV r7 0] (.panicking (stopE c)) H K:=by
 refine Zah fdR mv_ok (by simp) (by decide) (Zds (fun _ _ _ h=>h) ?_);have n6:∀ r,H r=none→¬ r6=r:=fun r hr=>(Zo6 b6 hr).1
 have n6':∀ r,H r=none→¬ r=r6:=fun r hr=>(Zo6 b6 hr).2
 have n7:∀ r,H r=none→¬ r7=r:=fun r hr=>(Zo6 b7 hr).1
 have n7':∀ r,H r=none→¬ r=r7:=fun r hr=>(Zo6 b7 hr).2
 delta c44 Zq Zc Za Zr Zh Zi Zg Zd Zb;unfold mvs mvs mvV
 (repeat' (first | (refine ZR mixed (fun _ _ _ _ e h=>⟨e.trans h.1,h.2⟩) (AH.nil.set _ _) (ZpG (Zbz _) _ _) ?_) | (refine ZpG (Zbz _) _ _) | (simp only [↓Wj,↓Xx,↓Xy,↓Xm,↓Xc,↓XI,↓WO,↓XA,↓Yo,↓Ys,↓ZgR,↓YJ,↓YG,↓WP,↓YH,↓WQ,↓YI,↓YT,↓ZI,↓YV,↓YB,↓YR,↓Wu,↓Wc,↓s_un,↓XQ,↓Zdz,↓Yj,↓ZbY,↓Wo,↓Znp,↓JM,ZP,ptrV,boolV,Zpp,Zpw,Zpx,Zp0,ZpN,ZpK,ZpL,ite_true,ite_false,Zo5,Zo7,Zpd,ne_eq,not_false_eq_true,true_and,Zpv,Bool.not_true,Bool.not_false,reduceCtorEq,ZJ,↓Wv,↓XR,↓Jl,Zpf,ZpA,ZQ,fillV,setAt,ZpU,List.all_nil,Zp3,eq_self,Zpu,ZpO,Zo9,Zqa,Zqb,We,ZeV,JH,JS,ZlY,Xw,Zp5,Zp4,↓XS,Xt,Zpl,Wf,Jo,Wg,XF,Jj,Zbe,Zbf,↓Zay,↓Zcu,undef,if_neq,Zck,stopE,Xs,Za6,Zn4,okV,cl_z1,Zhj,ZQ,Zn6,ZeS,szT_119,ZeR,Zij,ZaI,Zn5, *]) | (refine ZH fun zr zh=>?_; have zg:=zh; (try simp only [Zpb] at zg)) | (refine Zpi ?_ ?_) | (with_reducible refine And.intro ?_ ?_)))
 refine ⟨rfl,_,_,_,rfl,.refl _ _,h _ _ ?_⟩;exact ZpG (ZpG (Zph zh) _ _) _ _
end Go.PV.Ytglpmlbbaedbiaa
end
section
open Bool renaming false_eq_true→ZpT
open Go.PV.AH renaming set_none→Zpb,get→Zpf,ne_of→Zo6,del_ne→Zpz,set_ne→Zpg
open Go.PV.GhL renaming cons→Zpn
open Go.PV.GhV renaming forget→ZpB,refl→Zpt
open Go.PV.Hold renaming mk→Zo8
open Go.PV.PureF renaming use→Zpe
open Go.PV.SubH renaming refl→Zpa,of_set→Zpi,set→ZpG
open Int renaming reduceEq→ZpE,toNat_natCast→ZpW,reduceLE→ZpZ
open List renaming drop→Zo9,getElem_mem→Zpk,map_cons→Zpp,map_nil→Zpw,length_cons→Zpx,length_nil→Zp0,getD_cons_zero→ZpN,getD_cons_succ→ZpK,getD_nil→ZpL,getElem?_cons_zero→Zqa,getElem?_cons_succ→Zqb,set_cons_zero→Zp5,set_cons_succ→Zp4,append_nil→Zp2
open Nat renaming reduceEqDiff→Zo5,reduceLT→Zo7,reduceAdd→Zpd,reduceLeDiff→Zpo,succ_ne_self→Zpv,zero_add→Zpu,add_zero→ZpO,le_refl→Zpl
open Option renaming map_none→ZpS,map_some→Zps
set_option maxRecDepth 20000
set_option maxHeartbeats 4000000
namespace Go.PV.Ytglpmlbbaedbiaa
open Go Go.Proofs
theorem mapFun:Zcw Try.prog 112 (.pointer none):=JB
theorem ml_use {fs:List Fu} {m1 m2 r:Nat} {fu d:Int} {H:AH} {R:EvL} {f:FuncId} {xs:List VV} {K:VE→AH→Prop} (h:ZU Try.prog f xs H (McL fs m1 m2 r fu d H R)) (h1:∀ c l,R=.ok (c,l)→K (.ret (vsV fs l)) (H.set r (mB m1 m2 fu c d))) (h2:∀ k c d',R=.error k→K (.pan (stopE k)) (H.set r (mB m1 m2 fu c d'))):ZU Try.prog f xs H K:=h.mono fun e H' hq=>by
 rcases hq with ⟨c,v,hR,rfl,rfl⟩ | ⟨k,c,d',hR,rfl,rfl⟩
 ·exact h1 c v hR
 ·exact h2 k c d' hR
theorem ev_ok {p:Pr} (hp:PgR p) {m1 m2 r:Nat} {fu:Int} (hfu:fu≤100000):∀ g:Nat,EvHyp p m1 m2 r fu g (evG p fu g):=by
 intro g
 induction g with
 | zero =>
   intro c d e ns vs H hg hms hd hd2 hm
   have:=e.sz_eq
   have:=hg.cf
   omega
 | succ g ih =>
   intro c d e ns vs H hg hms hd hd2 hm;have hpr:=ZcX hp (fu:=fu) g;have hz:=e.sz_eq;have hz5:=hg.sz;have hcf:=hg.cf;have hc0:=hg.c0;have hkn:=(Ex.nmOk_iff.1 hg.nm).2;have hzn:e.name.size≤maxLen:=by have:=(Ex.nmOk_iff.1 hg.nm).1; unfold maxLen; omega
   have hkl:=YL e.kids;have hm1:=hm.1;obtain ⟨x1,x2⟩:=ZnO hm.2;refine Zdh ?_;refine ZK fd45 (by simp) ?_;delta c45 Zj Zq Zr Zc Zd Zb Zm Zo Za;obtain ⟨X,hX⟩:∃ X,X=evG p fu (g+1) c d e ns vs:=⟨_,rfl⟩
   rw [← hX];rw [ZhS] at hX;obtain ⟨e1,e2⟩:=Jm p.funs vs ns;have hself:=Zap hm1;unfold mB mC at hm1;rcases Zfg hg.sd with ⟨ho,hn⟩ | ⟨ho,k,hk,hks⟩ | ⟨ho,ha⟩ | ⟨ho,hk⟩ | ⟨ho,hk2,hk⟩
   ·obtain ⟨w,hw,hwo⟩:=Zff hg.env.1 hg.env.2 hn;rw [if_pos ho,hw] at hX
    have hf:PureF Try.prog 62 [envC p.funs vs ns,sV e.name] (w.vv p.funs):=by
     have:=ZnN p.funs (eoOf ns vs) e.name
     rw [← Zfv,eoF_of,hw] at this;exact this
    obtain ⟨o1,o2⟩:=Wt p.funs w;rw [hX];replace hself:=Zo8 hself;clear ih hpr hX hw x1 x2
    (repeat' (first | (simp only [↓ZF,ZG,ptrV,Zo5,Zo7,ZJ,Zo9,undef,ZT,Yd,Yg,Zdv,Ym,ZoR, *]) | (refine ZM ?_) | (refine ZH fun zr zh=>?_; have zg:=zh; (try simp only [Zpb] at zg)) | (refine Zpe (hf) ?_)))
    exact ⟨_,H,ZpB (by repeat (first | assumption | exact Zpa _ | refine Zpi ?_ (by simp only [*]))) _,.inl ⟨c,w,rfl,rfl,hself.out.symm⟩⟩
   ·rw [if_neg (by omega),if_pos ho,hk] at hX;rw [hX];replace hself:=Zo8 hself;clear ih hpr hX x1 x2
    (repeat' (first | (simp only [↓ZF,ZG,YN,ptrV,Zo5,Zo7,Zpd,Zpo,ZJ,ZQ,fillV,setAt,Zo9,undef,ZpE,ZQ,YN,ni_155,ZT,Yg,Zdv,Ye,stT_155, *]) | (refine ZM ?_) | (refine ZH fun zr zh=>?_; have zg:=zh; (try simp only [Zpb] at zg))))
    exact ⟨_,H,ZpB (by repeat (first | assumption | exact Zpa _ | refine Zpi ?_ (by simp only [*]))) _,.inl ⟨c,_,rfl,by rw [Zgr]; rfl,hself.out.symm⟩⟩
   ·rw [if_neg (by omega),if_neg (by omega),if_pos ho] at hX;obtain ⟨j,hj,ha1,ha2,ha3⟩:=Zm2 hp.nd ha;have hA0:=hp.ar _ (Zpk hj);rw [ha2,ha1,ZpW] at hX;by_cases hlt:0<p.funs[j].arity
    ·rw [if_pos hlt] at hX;rw [hX];replace hself:=Zo8 hself;clear ih hpr hX
     (repeat' (first | (refine Zcy mapFun hzn ha3 (by first | assumption | simp only [Zpf, *,if_false]) ?_) | (simp only [↓Xx,↓Xy,↓Xm,↓Xc,↓XI,↓YS,↓ZaU,↓WO,↓XA,↓Yo,↓Ys,↓WK,↓Zgm,↓YJ,↓YG,↓YH,↓YI,↓YT,↓ZI,↓YV,↓YB,↓YR,↓Wy,↓Wc,↓ZiL,↓Zax,↓Zdz,↓Wz,↓Yj,↓WG,↓WH,↓YK,vcNil,YN,ptrV,boolV,Zpp,Zpw,Zpx,Zp0,ZpN,ZpK,ZpL,ite_true,ite_false,Zo5,Zo7,Zpd,Zpo,ne_eq,not_false_eq_true,true_and,ZpT,Zpv,decide_true,decide_false,reduceCtorEq,ZJ,↓Wv,↓XR,Zpf,ZQ,fillV,setAt,eq_self,Zpu,ZpO,Zo9,and_self,Zqa,Zqb,We,Zkj,cl_sl,Xw,Znw,Zp5,Zp4,↓Zaz,Zpl,Zbc,Wf,ZgV,Jo,Wg,Zbd,XF,Jj,↓Zay,undef,ZpE,okV,ZQ,YN,ni_158,ZT,Yd,ZiF,Ja,Wq,Yg,Ym,Zci,ZaS,Znj, *]) | (refine ZM ?_) | (refine ZR mixed (fun _ _ _ _ e h=>⟨e.trans h.1,h.2⟩) _ (Zpa _) ?_) | (refine ZH fun zr zh=>?_; have zg:=zh; (try simp only [Zpb] at zg); (try have zn_x1:=Zo6 x1 zh); (try have zn_x1:=Zo6 x1 zg.2); (try have zn_x1:=Zo6 x1 zg.2.2); (try have zn_hm1:=Zo6 hm1 zh); (try have zn_hm1:=Zo6 hm1 zg.2); (try have zn_hm1:=Zo6 hm1 zg.2.2))))
     exact ⟨_,H,GhV.iface (GhV.agg (Zpn (Zpt _ _) (Zpn ((GhV.nil _).trans (ZpB (by repeat (first | assumption | exact Zpa _ | refine Zpi ?_ (by simp only [*]))) _)) (GhL.nil _)))),.inl ⟨c,_,rfl,by rw [Zco,Jg hj]; rfl,hself.out.symm⟩⟩
    ·rw [if_neg hlt] at hX;replace hself:=Zo8 hself;clear hpr;replace hX:=Zo8 hX
     (repeat' (first | (refine Zcy mapFun hzn ha3 (by first | assumption | simp only [Zpf, *,if_false]) ?_) | (simp only [↓Wj,↓Xx,↓Xy,↓Xm,↓Xc,↓XI,↓YS,↓WO,↓XA,↓Yo,↓Ys,↓YJ,↓YG,↓YH,↓YI,↓YT,↓Wk,↓ZI,↓YV,↓YB,↓YR,↓Wy,↓Wc,↓Zax,↓Wz,↓Yj,↓WG,↓Xk,↓YX,↓WH,↓YK,vcNil,ptrV,boolV,Zpp,Zpw,ZpN,ZpK,ZpL,ite_true,ite_false,Zo5,Zo7,ne_eq,not_false_eq_true,true_and,ZpT,Zpv,decide_true,decide_false,reduceCtorEq,ZJ,↓Wv,↓XR,↓Jl,Zpf,eq_self,Zpu,ZpO,Zo9,We,Zkj,Xw,↓Zaz,Zbc,Wf,ZgV,Jo,Wg,Zbd,XF,Jj,↓Zay,↓Zcu,undef,ZpE,okV,ZT,Yd,ZiF,Ja,Wq,Yg,Ym,Zci,ZaS,en_63, *]) | (refine ZR mixed (fun _ _ _ _ e h=>⟨e.trans h.1,h.2⟩) _ (Zpa _) ?_) | (refine ZH fun zr zh=>?_; have zg:=zh; (try simp only [Zpb] at zg); (try have zn_x1:=Zo6 x1 zh); (try have zn_x1:=Zo6 x1 zg.2); (try have zn_x1:=Zo6 x1 zg.2.2); (try have zn_hm1:=Zo6 hm1 zh); (try have zn_hm1:=Zo6 hm1 zg.2); (try have zn_hm1:=Zo6 hm1 zg.2.2)) | (exact Zpa _) | (with_reducible refine And.intro ?_ ?_)))
     refine YU (Zpn (Zpt _ _) (Zpn (Zpt _ _) (Zpn ((GhV.nil _).trans (ZpB (show SubH H _ from (by repeat (first | assumption | exact Zpa _ | refine Zpi ?_ (by simp only [*])))) _)) (GhL.nil _)))) ?_;have hcl:=ZnP (d:=d) hp ih hj (us:=[]) (by simp) trivial (by simp only [Zp0]; omega) hd ⟨hc0,hcf⟩ hfu (by omega) hm;rw [Jg hj] at hcl;refine Zgt hcl (fun c2 w2 hR=>?_) (fun k c2 d2 hR=>?_)
     ·have hX2:=hX.out;rw [hR] at hX2;rw [hX2];obtain ⟨o1,o2⟩:=Wt p.funs w2;clear hX hR hcl ih x1 x2 ha3 hX2
      (repeat' (first | (simp only [↓ZF,ZG,Zo5,Zo7, *]) | (refine ZM ?_)))
      exact ⟨_,_,Zpt _ _,.inl ⟨c2,w2,rfl,rfl,rfl⟩⟩
     ·have hX2:=hX.out;rw [hR] at hX2;rw [hX2];clear hX hR hcl ih x1 x2 ha3 hX2
      (repeat' (first | (simp only [↓ZF, *])))
      exact ZdT (c:=c2) (d':=d2) (Zpa _)
   ·rw [if_neg (by omega),if_neg (by omega),if_neg (by omega)] at hX
    have hdel:SubH (H.del r) H:=fun i b hb=>by
     by_cases e:i=r
     ·subst e; rw [AH.del_same] at hb; cases hb
     ·rw [Zpz _ e] at hb; exact hb
    have hls:=fun (r3 r4 r5:Nat) (H:AH)=>ZnR (d:=d) (r3:=r3) (r4:=r4) (r5:=r5) (H:=H) ih hpr (e:=e) (ns:=ns) (vs:=vs) (c:=c) (fun k hk'=>⟨hk k hk',hkn k hk',by have:=ZX hk'; omega,by have:=ZX hk'; omega⟩) (by omega) hg.env ⟨hc0,hcf⟩ ⟨hd,hd2⟩
    replace hX:=Zo8 hX;replace hls:=Zo8 hls;clear ih hpr
    (repeat' (first | (refine ZR mixed (fun _ _ _ _ e h=>⟨e.trans h.1,h.2⟩) _ (((hdel.set _ _).set _ _).set _ _) ?_) | (simp only [↓Xx,↓Xy,↓Xm,↓Xc,↓XI,↓YS,↓WO,↓XA,↓Yo,↓Ys,↓YJ,↓YG,↓YH,↓YI,↓YT,↓ZI,↓YV,↓YB,↓YR,↓Wc,↓Zax,↓Wz,↓Yj,↓Xk,↓ZjQ,↓YK,ptrV,Zpp,Zpw,ZpN,ZpK,ZpL,List.nil_append,Zp2,ite_true,ite_false,Zo5,Zo7,ne_eq,not_false_eq_true,true_and,Zpv,decide_true,decide_false,ZJ,↓XR,↓Jl,Zpf,eq_self,Zpu,ZpO,Zo9,We,Zkj,Xw,↓Zaz,Wf,Jo,Wg,XF,Jj,↓Zay,undef,ZpE,ZT,Yd,Yg,Ym,en_61, *]) | (refine ZH fun zr zh=>?_; have zg:=zh; (try simp only [Zpb] at zg))))
    rename_i r3 h3 g3 r4 h4 g4;have f3:H r3=none:=by simpa using g3
    have f4:H r4=none:=g4.2;have f5:H zr=none:=by simp only [zg]
    have q3:=Zo6 hm1 f3;have q4:=Zo6 hm1 f4;have q5:=Zo6 hm1 f5;have hs5:SubH H (((H.set r3 (.cells 121 [ptrV r 0] 0)).set r4 (.cells 34 [iV 3,sV e.name,encS exE e.kids] 0)).set zr (.cells 150 [envC p.funs vs ns] 0)):=(by repeat (first | assumption | exact Zpa _ | refine Zpi ?_ (by simp only [*])))
    refine ml_use (hls.out r3 r4 zr _ (hm.mono hs5) (by simp only [Zpf, *,if_true,if_false]<;>rfl) (by simp only [Zpf, *,if_true,if_false]<;>rfl) (by simp only [Zpf, *,if_true,if_false]<;>rfl)) (fun c1 l hR=>?_) (fun k c2 d2 hR=>?_)
    ·have hX2:=hX.out;rw [hR] at hX2;simp only [if_pos ho] at hX2;rw [hX2]
     have hsH:SubH ((((H.del r).set r3 (.cells 121 [ptrV r 0] 0)).set r4 (.cells 34 [iV 3,sV e.name,encS exE e.kids] 0)).set zr (.cells 150 [envC p.funs vs ns] 0)) ((((H.set r3 (.cells 121 [ptrV r 0] 0)).set r4 (.cells 34 [iV 3,sV e.name,encS exE e.kids] 0)).set zr (.cells 150 [envC p.funs vs ns] 0)).set r (mB m1 m2 fu c1 d)) :=
      Zpi (((hdel.set _ _).set _ _).set _ _) (by rw [Zpg _ _ q5.1,Zpg _ _ q4.1,Zpg _ _ q3.1,AH.del_same])
     unfold ptrV at hsH;have hs6:=ZpG hs5 r (mB m1 m2 fu c1 d);replace hs6:=Zo8 hs6;clear hX hR hls hX2 hs5
     (repeat' (first | (simp only [↓ZF,ZG,YN,Zo5,Zo7,Zpd,Zpo,ZQ,fillV,setAt,Ze5,ZQ,YN,ni_161,stT_161, *]) | (refine ZM ?_)))
     exact ⟨_,_,ZpB hs6.out _,.inl ⟨c1,_,rfl,by rw [ZbT],rfl⟩⟩
    ·have hX2:=hX.out;rw [hR] at hX2;simp only at hX2;rw [hX2];clear hX hR hls hX2
     (repeat' (first | (simp only [↓ZF, *])))
     exact ZdT (c:=c2) (d':=d2) (ZpG hs5 _ _)
   ·rw [if_neg (by omega),if_neg (by omega),if_neg (by omega)] at hX;have hls:=fun (r3 r4 r5:Nat) (H:AH)=>ZnR (d:=d) (r3:=r3) (r4:=r4) (r5:=r5) (H:=H) ih hpr (e:=e) (ns:=ns) (vs:=vs) (c:=c) (fun k hk'=>⟨hk k hk',hkn k hk',by have:=ZX hk'; omega,by have:=ZX hk'; omega⟩) (by omega) hg.env ⟨hc0,hcf⟩ ⟨hd,hd2⟩
    have hlo:=fun c1 l=>ZcW (d:=d) hpr hg.env e.kids c c1 l (fun k hk'=>⟨hk k hk',hkn k hk',by have:=ZX hk'; omega⟩) ⟨hc0,hcf⟩
    replace hX:=Zo8 hX;replace hls:=Zo8 hls
    (repeat' (first | (simp only [↓ZF,ZG,ptrV,Zo5,Zo7,ZJ,Zo9,undef,ZpE,ZT,Yg,en_61, *]) | (refine ZH fun zr zh=>?_; have zg:=zh; (try simp only [Zpb] at zg))))
    rename_i r3 h3 g3 r4 h4 g4;have f3:H r3=none:=by simpa using g3
    have f4:H r4=none:=g4.2;have f5:H zr=none:=by simp only [zg]
    have q3:=Zo6 hm1 f3;have q4:=Zo6 hm1 f4;have q5:=Zo6 hm1 f5;have hs5:SubH H (((H.set r3 (.cells 121 [ptrV r 0] 0)).set r4 (.cells 34 [iV 4,sV e.name,encS exE e.kids] 0)).set zr (.cells 150 [envC p.funs vs ns] 0)):=(by repeat (first | assumption | exact Zpa _ | refine Zpi ?_ (by simp only [*])))
    refine ml_use (hls.out r3 r4 zr _ (hm.mono hs5) (by simp only [Zpf, *,if_true,if_false]<;>rfl) (by simp only [Zpf, *,if_true,if_false]<;>rfl) (by simp only [Zpf, *,if_true,if_false]<;>rfl)) (fun c1 us hR=>?_) (fun k c2 d2 hR=>?_)
    ·obtain ⟨g1,g2,g3,g4⟩:=hlo _ _ hR
     obtain ⟨a,l,hl⟩:∃ a l,us=a::l:=by
      cases us with
      | nil=>simp at g2; omega
      | cons a l=>exact ⟨a,l,rfl⟩
     have hX2:X=appG p fu (evG p fu g) l.length c1 d a l:=by
      have:=hX.out
      rw [hR] at this;rw [this,hl];exact if_neg (by omega)
     have hz':(0:Int)<(us.length:Int):=by omega
     have hd0:Zo9 (Int.toNat 0) (a.vv p.funs::encC (valE p.funs) l)=a.vv p.funs::encC (valE p.funs) l:=rfl;have hcs:encC (valE p.funs) us=a.vv p.funs::encC (valE p.funs) l:=by rw [hl]; rfl
     have hl1:us.length-1=l.length:=by rw [hl]; simp
     have hga:a.ok p∧YO p l:=by rw [hl] at g1; exact g1
     have hap:=fun ex H=>apply_ok (H:=H) (ex:=ex) hp ih hpr (c:=c1) (d:=d) hga.1 (us:=l) (by omega) hga.2 hd ⟨by omega,g4⟩ hfu (by omega)
     have hM6:=(hm.mono hs5).set (c':=c1) (d':=d);have hs6:=fun b=>ZpG hs5 r b
     obtain ⟨o1,o2⟩:=Wt p.funs a;replace hs6:=Zo8 hs6;replace hX2:=Zo8 hX2;replace hap:=Zo8 hap;replace g2:=Zo8 g2;clear hX hR hls hs5 hlo ih hpr hl x1 x2
     (repeat' (first | (simp only [↓ZF,ZG,Zo5,Zo7,Zo9,ZpZ,Int.reduceToNat,YC,ZpS,Zps,Xj,idxV,idxOk,imp_self,Zci,Jw,YA,en_64, *]) | (refine ZR mixed (fun _ _ _ _ e h=>⟨e.trans h.1,h.2⟩) _ (Zpa _) ?_) | (with_reducible refine And.intro ?_ ?_)))
     ·omega
     refine Zgt (hap.out _ _ hM6 l.length (Zpl _)) (fun c2 w hR=>?_) (fun k c2 d2 hR=>?_)
     ·have hX3:=hX2.out.trans hR;rw [hX3];clear hX2 hR hX3 hap;obtain ⟨o1,o2⟩:=Wt p.funs w
      (repeat' (first | (simp only [↓ZF,ZG,Zo5,Zo7, *]) | (refine ZM ?_)))
      refine ⟨_,_,ZpB ?_ _,.inl ⟨c2,w,rfl,rfl,rfl⟩⟩;exact hs6.out _
     ·have hX3:=hX2.out.trans hR;rw [hX3];clear hX2 hR hX3 hap
      (repeat' (first | (simp only [↓ZF,ZG, *])))
      refine ZdT (c:=c2) (d':=d2) ?_;exact hs6.out _
    ·have hX2:=hX.out;rw [hR] at hX2;simp only at hX2;rw [hX2];clear hX hR hls hX2
     (repeat' (first | (simp only [↓ZF, *])))
     exact ZdT (c:=c2) (d':=d2) (ZpG hs5 _ _)
end Go.PV.Ytglpmlbbaedbiaa
end
section
open Bool renaming and_eq_true→ZpM
open List renaming length_cons→Zpx
open Nat renaming lt_or_ge→ZpJ
namespace Go.PV
section
variable {cx:Cx} {ops:Array Oper} {Q:APost} {Hh:AH} {Hi:Nat→AH} {stop:List Nat} {full:Array Bool} {cut:Option Nat} {K:AF→AH→Prop} {D:Nat→Prop}
def panD (D:Nat→Prop) (Q:APost):Prop:=∀ c (A:AF) (d:Nat) x H,D d→Q (.panic c) (A.put (some d) x) H→Q (.panic c) A H
theorem pan_put {o:Option Tmp} {c:List PanicEntry} {A:AF} {x:VV} {H:AH} (hQ:panD D Q) (ho:∀ d,o=some d→D d) (h:Q (.panic c) (A.put o x) H):Q (.panic c) A H:=by
 cases o with
 | none=>exact h
 | some d=>exact hQ c A d x H (ho d rfl) h
def tkD:GPlan→List Nat
 | .fin=>[]
 | .tk _ o p=>o.dst.toList++tkD p
 | .one _ _ p=>tkD p
 | .cut _ p=>tkD p
 | .two _ _ p _ _ p'=>tkD p++tkD p'
theorem vcG_putD {oi oj:Oper} {x:VV} {A:AF} {H:AH} {next:AF→AH→Prop} (hQ:panD D Q) (hoi:∀ d,oi.dst=some d→D d) (hap:oi.apart ops oj=true) (hnd:∀ c,oj.op ≠ .defer c) (h:vcG cx (gopOf ops oj) next Q (A.put oi.dst x) H) :
 vcG cx (gopOf ops oj) (fun A' H'=>(∃ u,A'=A.put oj.dst u)∧next (A'.put oi.dst x) H') Q A H:=by
 obtain ⟨h1,h2,h3⟩:=Oper.apart_spec hap;have hsame:AF.same (oj.looksAt ops) A (A.put oi.dst x):=ZbN h1
 have hdo:vcDo cx (gopOf ops oj) next Q (A.put oi.dst x) H→vcDo cx (gopOf ops oj) (fun A' H'=>(∃ u,A'=A.put oj.dst u)∧next (A'.put oi.dst x) H') Q A H:=by
  rw [Zan (o:=gopOf ops oj) hnd,Zan (o:=gopOf ops oj) hnd];rintro ⟨g1,g2⟩;refine ⟨g1,?_⟩
  change vcOp cx oj.op _ _ _ at g2
  rw [Zd9 (Jc hsame)] at g2;refine ZfL ?_ g2;intro e H' hk;cases e with
  | ret u =>
    refine ⟨⟨u,rfl⟩,?_⟩;have hk:next ((A.put oi.dst x).put oj.dst u) H':=hk;rw [ZbO h2] at hk;exact hk
  | pan ch=>exact pan_put hQ hoi hk
 unfold vcG at *
 split
 ·rename_i e;simp only [e] at h;exact hdo h
 ·rename_i d want e;simp only [e] at h;rw [Zca hsame e] at h;split
  ·rename_i b hb;simp only [hb] at h;split at h
   ·rename_i hbw; rw [if_pos hbw]; exact hdo h
   ·rename_i hbw; rw [if_neg hbw];refine ⟨h.1,by have:=h.2.1; rwa [show (gopOf ops oj).op=oj.op from rfl,WR (Jc hsame)] at this,⟨ZJ,rfl⟩,?_⟩;have hk:=h.2.2
    change next ((A.put oi.dst x).put oj.dst ZJ) H at hk
    rw [ZbO h2] at hk;exact hk
  ·rename_i vs hb;simp only [hb] at h;refine ⟨h.1,by have:=h.2.1; rwa [show (gopOf ops oj).op=oj.op from rfl,WR (Jc hsame)] at this,⟨ZJ,rfl⟩,?_⟩;have hk:=h.2.2
   change next ((A.put oi.dst x).put oj.dst ZJ) H at hk
   rw [ZbO h2] at hk;exact hk
  ·rename_i hb hb2
   revert h
   split
   ·rename_i b hb'; exact absurd hb' (hb b)
   ·rename_i vs hb'; exact absurd hb' (hb2 vs)
   ·exact fun h=>h
theorem Zf9 {i:Nat} {oi:Oper} {x:VV} (hci:cut ≠ some i) (hcut:∀ j,cut=some j→Zgp oi.op=true∨∀ listed,WB ops listed→listed.getD j false=true→listed.getD i false=true) (hnd:∀ (j:Nat) (o:Oper) c,ops[j]?=some o→o.op ≠ .defer c) (hQ:panD D Q) (hoi:∀ d,oi.dst=some d→D d) (hi:ops[i]?=some oi) :
 ∀ (n:Nat) (listed:Array Bool) (A:AF) (H:AH),WB ops listed →
   (∀ j oj,ops[j]?=some oj→j ≠ i→listed.getD j true=false→(∀ e∈oj.after,Region.binds .any e=true→e.on ≠ i)→oi.apart ops oj=true) →
   i∈rdy ops stop listed→TkG cx (gopOf ops oi) A (Hi i) x→(gone cut listed∨SubH (Hi i) H)→AAny cx ops Q Hi stop full cut K n (listed.setIfInBounds i true) (A.put oi.dst x) H→AAny cx ops Q Hi stop full cut K (n+1) listed A H
 | n,listed,A,H,hcl,hfree,hr,ht,hsub,hh=>by
   refine ⟨fun e=>(by rw [e] at hr; cases hr),fun j hj=>?_⟩;by_cases hji:j=i
   ·subst hji;simp only [AOp,hi];rcases hsub with hg | hsub
    ·have hg':=hg.set j;obtain ⟨c,hc,hl⟩:=hg;rcases hcut c hc with hp | hp
     ·exact (ht.pure hp H).use (SubH.refl _) ⟨.inl hg',hh⟩
     ·exfalso
      have h1:=hp listed hcl hl;have h0:=(mem_ready.1 (Yv hr).1).1;rcases ZpJ j listed.size with h' | h'
      ·simp [h'] at h0 h1; rw [h0] at h1; cases h1
      ·simp [Array.getElem?_eq_none h'] at h1
    ·exact ht.use hsub ⟨.inr fun _ _ h=>h,hh⟩
   ·have hj':=Ze3 (i:=i) hj hji;cases n with
    | zero=>rw [hh.1] at hj'; cases hj'
    | succ n =>
      have h1:=hh.2 j hj';obtain ⟨hjun,oj,hoj,hall⟩:=mem_ready.1 (Yv hj).1
      have hnot:∀ e∈oj.after,Region.binds .any e=true→e.on ≠ i:=fun e he hb heq=>by
       have h1:=hall e he hb;have h0:=(mem_ready.1 (Yv hr).1).1;rw [heq] at h1;rcases ZpJ i listed.size with h' | h'
       ·simp [h'] at h0 h1; rw [h0] at h1; cases h1
       ·simp [Array.getElem?_eq_none h'] at h1
      have hap:=hfree j oj hoj hji hjun hnot;simp only [AOp,hoj] at h1 ⊢;refine WZ (o:=gopOf ops oj) (fun c=>hnd j oj c hoj) ?_ (vcG_putD (oi:=oi) hQ hoi hap (fun c=>hnd j oj c hoj) h1);rintro A' H' ⟨⟨u,rfl⟩,g1,g2⟩
      have g1:gone cut (listed.setIfInBounds j true)∨∀ k∈Zcr ops j,SubH (Hi k) H→SubH (Hi k) H':=by
       rcases g1 with ⟨c,hc,hl⟩ | g1
       ·left;rw [Array.setIfInBounds_comm _ _ (Ne.symm hji)] at hl;rcases ZbZ hl with rfl | hl
        ·exact absurd hc hci
        ·exact ⟨c,hc,hl⟩
       ·exact .inr g1
      have g3:gone cut (listed.setIfInBounds j true)∨SubH (Hi i) H':=by
       rcases g1 with g1 | g1
       ·exact .inl g1
       ·rcases hsub with hg | hsub
        ·exact .inl (hg.set j)
        ·exact .inr (g1 i (Zle hcl (Yv hj).1 (Yv hr).1) hsub)
      refine ⟨g1,Zf9 hci hcut hnd hQ hoi hi n _ _ H' (hcl.set (Yv hj).1) ?_ (Ze3 hr (Ne.symm hji)) (ht.same (ZbN (Oper.apart_spec hap).2.2)) g3 ?_⟩
      ·intro k ok hk hki hun hno;refine hfree k ok hk hki ?_ hno;by_cases hjk:j=k
       ·subst hjk; exact hjun
       ·rw [getD_set_ne true hjk] at hun; exact hun
      ·rw [Array.setIfInBounds_comm _ _ hji];exact g2
theorem WV (hcut:cutOk ops stop cut) (hnd:∀ (j:Nat) (o:Oper) c,ops[j]?=some o→o.op ≠ .defer c) (hQ:panD D Q):∀ (n:Nat) (listed:Array Bool) (g:GPlan) (A:AF) (H:AH),planT cx.P ops stop full cut n listed=some g→(∀ d∈tkD g,D d)→WB ops listed→vcPl2 cx Hi g K Q A H→(gone cut listed∨∀ k,k<ops.size→listed.getD k true=false→SubH (Hi k) H) →
 AAny cx ops Q Hi stop full cut K n listed A H
 | 0,listed,g,A,H,hp,hD,hcl,h,hsub=>by
   simp only [planT] at hp;split at hp
   ·rename_i e;cases hp;simp only [ZpM,beq_iff_eq,List.isEmpty_iff] at e;exact ⟨e.2,e.1,h⟩
   ·cases hp
 | n+1,listed,g,A,H,hp,hD,hcl,h,hsub=>by
   simp only [planT] at hp;split at hp
   ·rename_i e;cases hp;simp only [ZpM,beq_iff_eq,List.isEmpty_iff] at e;exact ⟨fun _=>⟨e.1,h⟩,fun i hi=>by rw [e.2] at hi; cases hi⟩
   ·split at hp
    ·rename_i i hfind;have hir:=List.mem_of_find?_eq_some hfind;have hik0:=List.find?_some hfind;simp only [ZpM,bne_iff_ne,ne_eq] at hik0;obtain ⟨hik,hci⟩:=hik0;split at hp
     ·rename_i o p ho hp';cases hp;obtain ⟨oi,hi,rfl⟩:=Zao ho;simp only [isTk,hi,ZpM] at hik;obtain ⟨x,h1,h2⟩:=TkG.of (o:=gopOf ops oi) hik.1 h;exact Zf9 hci (hcut i oi hi (Yv hir).2 hci) hnd hQ (fun d h=>hD d (by simp [tkD,gopOf,h])) hi n listed A H hcl (Region.free_spec hi hik.2) hir h1 (hsub.imp id fun h=>h i (rdy_lt hi) (mem_ready.1 (Yv hir).1).1) (WV hcut hnd hQ n _ p _ H hp' (fun d h=>hD d (by first | (simp [tkD,h]; done) | (split<;>simp [tkD,h]))) (hcl.set (Yv hir).1) h2 (hsub.imp (fun h=>h.set i) (fun h k hk hu=>h k hk (Wd hu))))
     ·cases hp
    ·split at hp
     ·rename_i i hrd;split at hp
      ·rename_i o p ho hp';cases hp;obtain ⟨oi,hi,rfl⟩:=Zao ho;refine ⟨fun e=>(by rw [hrd] at e; cases e),fun j hj=>?_⟩;have hjr:=hj;rw [hrd] at hj;obtain rfl:j=i:=by simpa using hj
       simp only [AOp,hi];split at h
       ·rename_i hcj
        have hg:gone cut (listed.setIfInBounds j true):=by
         refine ⟨j,by simpa using hcj,?_⟩;have h0:=(mem_ready.1 (Yv hjr).1).1;rcases ZpJ j listed.size with h' | h'
         ·simp [Array.getD_eq_getD_getElem?,h']
         ·simp [Array.getElem?_eq_none h'] at h0
        exact WZ (o:=gopOf ops oi) (fun c=>hnd j oi c hi) (fun A' H' hk=>⟨.inl hg,WV hcut hnd hQ n _ p A' H' hp' (fun d h=>hD d (by first | (simp [tkD,h]; done) | (split<;>simp [tkD,h]))) (hcl.set (Yv hjr).1) hk (.inl hg)⟩) h
       ·exact WZ (o:=gopOf ops oi) (fun c=>hnd j oi c hi) (fun A' H' hk=>⟨.inr hk.1,WV hcut hnd hQ n _ p A' H' hp' (fun d h=>hD d (by first | (simp [tkD,h]; done) | (split<;>simp [tkD,h]))) (hcl.set (Yv hjr).1) hk.2 (hsub.imp (fun h=>h.set j) fun h k hks hu=>hk.1 k (Zcj hcl (Yv hjr).1 hks (Wd hu)) (h k hks (Wd hu)))⟩) h
      ·cases hp
     ·rename_i i j hrd;split at hp
      ·rename_i o p o' p' ho hp' ho' hp'';cases hp;obtain ⟨oi,hi,rfl⟩:=Zao ho;obtain ⟨oj,hj,rfl⟩:=Zao ho';refine ⟨fun e=>(by rw [hrd] at e; cases e),fun k hk=>?_⟩;have hkr:=hk;rw [hrd] at hk;have hk:k=i∨k=j:=by simpa using hk
       rcases hk with rfl | rfl
       ·simp only [AOp,hi];exact WZ (o:=gopOf ops oi) (fun c=>hnd k oi c hi) (fun A' H' hk=>⟨.inr hk.1,WV hcut hnd hQ n _ p A' H' hp' (fun d h=>hD d (by first | (simp [tkD,h]; done) | (split<;>simp [tkD,h]))) (hcl.set (Yv hkr).1) hk.2 (hsub.imp (fun h=>h.set k) fun h q hqs hu=>hk.1 q (Zcj hcl (Yv hkr).1 hqs (Wd hu)) (h q hqs (Wd hu)))⟩) h.1
       ·simp only [AOp,hj];exact WZ (o:=gopOf ops oj) (fun c=>hnd k oj c hj) (fun A' H' hk=>⟨.inr hk.1,WV hcut hnd hQ n _ p' A' H' hp'' (fun d h=>hD d (by first | (simp [tkD,h]; done) | (split<;>simp [tkD,h]))) (hcl.set (Yv hkr).1) hk.2 (hsub.imp (fun h=>h.set k) fun h q hqs hu=>hk.1 q (Zcj hcl (Yv hkr).1 hqs (Wd hu)) (h q hqs (Wd hu)))⟩) h.2
      ·cases hp
     ·cases hp
theorem Zmq {p:GPlan} {tail:List GOp} {A:AF} {H:AH} (hm:cx.P.follows .mixedOrders=true) (hQ:panD D Q) (hD:∀ d∈tkD p,D d) (Hi:Nat→AH) (hsub:∀ k,SubH (Hi k) H) (h:vcPl2 cx Hi p (vcL cx tail Q) Q A H):ACx cx (.dreg p tail) Q A H:=by
 intro c hc;cases c with
 | region id ops draw =>
   unfold ZS at hc;split at hc
   ·rename_i hd;subst hd;unfold YY at hc;dsimp only at hc;split at hc
    ·rename_i hcond;simp only [ZpM] at hcond;obtain ⟨⟨⟨hg,_⟩,hnd⟩,htail⟩:=hcond;split at hc
     ·rename_i p' q hp hq;cases hc
      have hnd':∀ (j:Nat) (o:Oper) c,ops[j]?=some o→o.op ≠ .defer c:=fun j o c hj hd=>by
       have hjs:j<ops.size:=by
        rcases ZpJ j ops.size with h | h
        ·exact h
        ·rw [Array.getElem?_eq_none h] at hj; cases hj
       rw [Array.getElem?_eq_getElem hjs] at hj;cases hj
       have:=Array.all_eq_true.1 hnd j hjs
       rw [hd] at this;cases this
      have hany:=WV (cx:=cx) (K:=vcL cx (q.filterMap (gAt ops)) Q) (Zlf ops _) hnd' hQ _ _ p A H hp hD (WB.none _) h (.inr fun k _ _=>hsub k);intro S w a hs hf;refine wpIn_region_any hm ?_;have hs':=hs.drawn (w.drawn+1);have hk:=Step.drawn S H w (w.drawn+1);have hf':=hf.step hs hk
      have:=Zea (cx:=cx) (Q:=Q) (Hi:=Hi) (m:=(Zid ops ops.size).length) (S0:=S) (H0:=H) (w0:=w) hg htail
       (fun A H S w a hk h1 h2 h3 fuel hfu=>ZcI hg _ _ q A H S w a hq hk h1 h2 h3 fuel hfu) _ _ A H S _ a (WB.none _) hany hk hs' hf'
      have hlen:(Zid ops ops.size).length≤ops.size:=by
       have hg:∀ n listed,(Zcq ops n listed).length≤n:=by
        intro n
        induction n with
        | zero=>simp [Zcq]
        | succ n ih =>
          intro listed;simp only [Zcq];split
          ·simp
          ·have:=ih (listed.setIfInBounds ‹_› true)
           simp only [Zpx]; omega
       have ht:∀ (order:List Nat) n,(Zdr ops order n).length≤order.length:=by
        intro order n
        induction n with
        | zero=>simp [Zdr]
        | succ n ih =>
          simp only [Zdr];split
          ·split
           ·simp
           ·exact ih
          ·simp
       exact Nat.le_trans (ht _ _) (hg _ _)
      rwa [Nat.sub_add_cancel hlen] at this
     ·cases hc
    ·cases hc
   ·split at hc<;>cases hc
 | seq x y=>simp only [ZS] at hc; split at hc<;>cases hc
 | _=>simp [ZS] at hc
theorem Zdi {p:GPlan} {tail:List GOp} {A:AF} {H:AH} (hm:cx.P.follows .mixedOrders=true) (hQ:panD D Q) (hD:∀ d∈tkD p,D d) (Hh:AH) (hsub:SubH Hh H) (h:vcPl cx Hh p (vcL cx tail Q) Q A H):ACx cx (.dreg p tail) Q A H :=
 Zmq hm hQ hD (fun _=>Hh) (fun _=>hsub) (Zba p A H h)
end
end Go.PV
end
section
open Bool renaming and_self→Zp3,false_eq_true→ZpT
open Go.PV.AH renaming set_ne→Zpg,set_same→Zpc,set_none→Zpb,get→Zpf,set_set→ZpA,ne_of→Zo6
open Go.PV.GhL renaming cons→Zpn
open Go.PV.GhV renaming refl→Zpt,forget→ZpB
open Go.PV.Hold renaming mk→Zo8
open Go.PV.SubH renaming of_set→Zpi,refl→Zpa,set→ZpG,new→Zph
open Int renaming reduceEq→ZpE
open List renaming drop_zero→ZpV,drop→Zo9,map_cons→Zpp,map_nil→Zpw,length_cons→Zpx,length_nil→Zp0,getD_cons_zero→ZpN,getD_cons_succ→ZpK,getD_nil→ZpL,all_cons→ZpU,getElem?_cons_zero→Zqa,getElem?_cons_succ→Zqb,set_cons_zero→Zp5,set_cons_succ→Zp4
open Nat renaming reduceEqDiff→Zo5,reduceLT→Zo7,reduceAdd→Zpd,succ_ne_self→Zpv,zero_add→Zpu,le_refl→Zpl,reduceLeDiff→Zpo,lt_succ_self→Zp8,add_zero→ZpO
open Option renaming bind_some→ZpH,map_some→Zps
set_option maxRecDepth 20000
set_option maxHeartbeats 4000000
namespace Go.PV.Ytglpmlbbaedbiaa
open Go Go.Proofs
def gasOf (fu:Int) (e:Ex):Nat:=(fu * 5001+e.sz+1).toNat
def endF (p:Pr):EvR→Ex × Int × Int
 | .error k=>(zEx,0,k)
 | .ok (c,v)=>if 5000<(v.ex p).full then (zEx,0,7) else if v.pl=true then (v.ex p,c,0) else (zEx,0,423)
noncomputable def runF (p:Pr) (e:Ex) (fu:Int):Ex × Int × Int :=
 if Wm p e=0 then (if fu<0∨100000<fu then (zEx,0,4) else endF p (evG p fu (gasOf fu e) 0 0 e [] [])) else (zEx,0,Wm p e)
def runX (x:Ex × Int × Int):VV:=.tuple [.agg [iV x.1.op,sV x.1.name,exsV x.1.kids,iV x.2.1],iV x.2.2]
theorem Zhk {p:Pr} {e:Ex} (h:Wm p e=0):Jh p=0∧e.sz≤5000∧e.sdF p []=0:=by
 unfold Wm at h;split at h
 ·rename_i hc;split at h
  ·cases h
  ·split at h
   ·cases h
   ·exact ⟨hc,by omega,h⟩
 ·rename_i hc; exact absurd h hc
abbrev rnQ (x:Ex × Int × Int) (H:AH):VE→AH→Prop:=fun e H'=>∃ y,e=.ret y∧GhV H' y H (runX x)
theorem ldT_res:ldT Try.prog 74=some (4,true):=by kernel_rfl
theorem ZaN.mono {P:Program} {f:FuncId} {xs:List VV} {u:FrameMode} {H:AH} {K K':VE→FrameMode→AH→Prop} (h:ZaN P f xs u H K) (hk:∀ e u H,K e u H→K' e u H):ZaN P f xs u H K':=fun S w args hs hx=>CallsDIn.mono (h S w args hs hx) fun e u' w' hq=>by
 cases e with
 | returned v=>obtain ⟨S',H',x,h1,h2,h3,h4⟩:=hq; exact ⟨S',H',x,h1,h2,h3,hk _ _ _ h4⟩
 | panicked ch=>obtain ⟨S',H',h1,h2,h4⟩:=hq; exact ⟨S',H',h1,h2,hk _ _ _ h4⟩
 | outgrown=>exact hq
theorem ZaA {P:Program} {rs:List ResultVar} {K:VE→AH→Prop} {t t':Nat→VV} (he:∀ H,resV P rs ⟨t,[]⟩ H=resV P rs ⟨t',[]⟩ H):∀ (ds:List Deferred) (u:FrameMode) (H:AH),XM P rs K t ds u H→XM P rs K t' ds u H
 | [],.returning,H,h=>by
   obtain ⟨x,H',x',g1,g2,g3⟩:=h;exact ⟨x,H',x',by rw [← he]; exact g1,g2,g3⟩
 | [],.panicking ch,H,h=>h
 | [],.run,H,h=>h
 | ⟨.collected r,_⟩::ds,u,H,h=>⟨h.1,h.2.1,ZaA he ds u _ h.2.2⟩
 | ⟨.fn (.func f) cap,args⟩::ds,u,H,h=>by
   obtain ⟨h1,h2,xs,H0,h3,h4⟩:=h;refine ⟨h1,h2,xs,H0,h3,ZaN.mono h4 fun e u' H' hk=>?_⟩;cases e with
   | ret x=>exact ZaA he ds _ H' hk
   | pan ch=>exact ZaA he ds _ H' hk
 | ⟨.nil,_⟩::ds,u,H,h=>h
 | ⟨.builtin _ _ _ _,_⟩::ds,u,H,h=>h
 | ⟨.coroexit _,_⟩::ds,u,H,h=>h
 | ⟨.fn (.method _) _,_⟩::ds,u,H,h=>h
 | ⟨.fn (.methodOf _ _) _,_⟩::ds,u,H,h=>h
 | ⟨.fn (.via _ _ _ _) _,_⟩::ds,u,H,h=>h
 | ⟨.fn (.yield _) _,_⟩::ds,u,H,h=>h
abbrev D67:Nat→Prop:=fun d=>¬ 6=d∧¬ 7=d
theorem Js {K:VE→AH→Prop}:panD D67 (ZbP Try.prog [.cell 6 74,.cell 7 35] K):=fun c A d x H hd h=>by
 refine ZaA (fun H=>?_) _ _ _ h;show resV Try.prog _ ⟨upd A.t d x,[]⟩ H=_;simp only [resV,Xi,Xh,upd,if_neg hd.1,if_neg hd.2]
theorem Yz {K:AF→AH→Prop} {Q:APost} {D:Nat→Prop} (h:panD D Q):panD D (thenA K Q):=h
theorem ZcY {H H':AH} {t:Nat→VV} {r6 r7:Nat} {x:Ex × Int × Int} {a b c d y:VV} (h6:t 6=ptrV r6 0) (h7:t 7=ptrV r7 0) (k6:H' r6=some (.cells 74 [a,b,c,d] 0)) (k7:H' r7=some (.cells 35 [y] 0)) (hg:GhV H' (.tuple [.agg [a,b,c,d],y]) H (runX x)) :
 XM Try.prog [.cell 6 74,.cell 7 35] (rnQ x H) t [] .returning H':=by
 refine ⟨_,H',_,?_,.refl _ _,_,rfl,hg⟩;simp only [resV,Xi,Xh,ldT_res,ZeS,h6,h7,k6,k7,ptrV,ZpV,ZmR,We,ZpH,Zps,tupV]
theorem Zhl {H H':AH} (hs:SubH H H') (k:Int):GhV H' (.tuple [.agg zR,iV k]) H (runX (zEx,0,k)) :=
 GhV.tuple (Zpn (GhV.agg (Zpn (Zpt _ _) (Zpn (Zpt _ _) (Zpn ((GhV.nil _).trans (ZpB hs _)) (Zpn (Zpt _ _) (GhL.nil _)))))) (Zpn (Zpt _ _) (GhL.nil _)))
abbrev dfR (r6 r7:Nat):Deferred:={ target:=.fn (.func 44) #[.pointer (some ⟨r6,0,none⟩),.pointer (some ⟨r7,0,none⟩)],args:=#[] }
theorem en_rec:ZL Try.prog 44=true:=by kernel_rfl
theorem Zj1 {H H':AH} {t:Nat→VV} {r6 r7:Nat} {k x7:Int} {a b c d:VV} (h6:t 6=ptrV r6 0) (h7:t 7=ptrV r7 0) (k6:H' r6=some (.cells 74 [a,b,c,d] 0)) (k7:H' r7=some (.cells 35 [iV x7] 0)) (d67:¬ r6=r7∧¬ r7=r6) (f6:H r6=none) (f7:H r7=none) (hs:SubH H H') :
 XM Try.prog [.cell 6 74,.cell 7 35] (rnQ (zEx,0,k) H) t [dfR r6 r7] (.panicking (stopE k)) H':=by
 refine ⟨by simp,en_rec,[ptrV r6 0,ptrV r7 0],_,Zpn (Zpt _ _) (Zpn (Zpt _ _) (GhL.nil _)),?_⟩;refine rec_stop k6 k7 d67 (fun u H2 h2=>?_);refine ZcY (r6:=r6) (r7:=r7) h6 h7 (h2 _ _ (by rw [Zpg _ _ d67.1,Zpc])) (h2 _ _ (Zpc _ _ _)) (Zhl (SubH.trans ?_ h2) k);exact Zpi (Zpi hs f6) f7
theorem rn_done {H H':AH} {t:Nat→VV} {r6 r7:Nat} {x:Ex × Int × Int} (h6:t 6=ptrV r6 0) (h7:t 7=ptrV r7 0) (k6:H' r6=some (.cells 74 [iV x.1.op,sV x.1.name,exsV x.1.kids,iV x.2.1] 0)) (k7:H' r7=some (.cells 35 [iV x.2.2] 0)) (hs:SubH H H') :
 XM Try.prog [.cell 6 74,.cell 7 35] (rnQ x H) t [dfR r6 r7] .returning H':=by
 refine ⟨by simp,en_rec,[ptrV r6 0,ptrV r7 0],_,Zpn (Zpt _ _) (Zpn (Zpt _ _) (GhL.nil _)),?_⟩;refine rec_nil (by simp) (fun u=>?_);exact ZcY (r6:=r6) (r7:=r7) h6 h7 k6 k7 (ZpB hs _)
theorem run_ok {p:Pr} {e:Ex} {fu:Int} (hp:PrOk p) (hs:e.sz≤1099511627776) (hn:e.nmOk):PureF Try.prog 25 [prV p,exV e,iV fu] (runX (runF p e fu)):=by
 refine Wl.pure fun H=>?_
 unfold Wl;refine Jf fd25 (by simp) ?_;delta c25 Zj Zi Zb Zo Zr Za Zh Zg Zm Zp Zq Zc Zd;have hrt:=fun (H:AH) (K:VE→AH→Prop) hK=>Zlu (H:=H) (K:=K) hp hs hn hK
 replace hrt:=Zo8 hrt
 (repeat' (first | (simp only [↓ZF,ZG,ptrV,Zo5,Zo7,ZJ,Zo9,undef,Zbk,Ye,ZhA,Zld,en_43, *]) | (refine ZH fun zr zh=>?_; have zg:=zh; (try simp only [Zpb] at zg))))
 rename_i r3 h3 g3 r4 h4 g4 r6 h6 g6;have f6:H r6=none:=by simp only [g6]
 have f7:H zr=none:=by simp only [zg]
 have d67:¬ r6=zr∧¬ zr=r6:=by simp only [zg]; simp
 have f4:H r4=none:=g4.2;have f3:H r3=none:=by simpa using g3
 have hsA:SubH H ((((H.set r3 (.cells 80 [cosV p.cons,fusV p.funs] 0)).set r4 (.cells 34 [iV e.op,sV e.name,encS exE e.kids] 0)).set r6 (.cells 74 zR 0)).set zr (.cells 35 [iV 0] 0)):=(by repeat (first | assumption | exact Zpa _ | refine Zpi ?_ (by simp only [*])))
 refine hrt.out _ _ (fun a b H' hs' hT=>?_);have hs2:=hsA.trans hs';have k4:H' r4=some (.cells 34 [iV e.op,sV e.name,encS exE e.kids] 0):=hs' _ _ (by simp only [Zpf, *,if_true,if_false]<;>rfl);have k6:H' r6=some (.cells 74 zR 0):=hs' _ _ (by simp only [Zpf, *,if_true,if_false]<;>rfl);have k7:H' zr=some (.cells 35 [iV 0] 0):=hs' _ _ (by simp only [Zpf, *,if_true,if_false]<;>rfl);generalize zr=r7 at *
 clear hsA hs' h3 g3 h4 g4 h6 g6 zh zg hrt f3;by_cases hr:Wm p e=0
 ·have hzz:=Zhk hr;replace hT:=hT hr;by_cases hfu:fu<0∨100000<fu
  ·have hF:runF p e fu=(zEx,0,4):=by unfold runF; rw [if_pos hr,if_pos hfu]
   rw [hF,hr];clear hF hzz hT hr;by_cases hf1:fu<0
   ·(repeat' (first | (refine Zdi (D:=D67) mixed (by with_reducible first | exact Js | exact Yz Js | exact Yz (Yz Js) | exact Yz (Yz (Yz Js))) (by decide) (AH.nil.set _ _) (ZpG (Zbz _) _ _) ?_) | (refine ZpG (Zbz _) _ _) | (simp only [↓Xx,↓Xy,↓Xm,↓Xc,↓ZaU,↓WO,↓XA,↓Yo,↓ZaV,↓ZaK,↓ZfJ,↓Ys,↓WK,↓YJ,↓YG,↓WP,↓YH,↓WQ,↓YI,↓YT,↓ZI,↓YV,↓JL,↓ZaW,↓Zct,↓YR,↓Wu,↓Wc,↓XQ,↓Zdz,↓Wo,↓XW,↓YK,↓Zab,ZP,ptrV,Zpp,Zpw,Zpx,Zp0,ZpN,ZpK,ZpL,ite_true,ite_false,Zo5,Zo7,Zpd,true_and,Zpv,decide_true,decide_false,Bool.not_false,Yb,ZJ,↓Wv,↓XR,↓Jl,Zpf,ZpA,ZQ,fillV,setAt,ZpU,List.all_nil,Zp3,eq_self,Zpu,Zo9,Zqa,Zqb,We,ZeV,JH,JS,ZlY,Zkk,Xw,Zp5,Zp4,↓XS,Xt,Zpl,Wf,Wg,XF,Zbe,Zbf,↓Zay,↓Zcu,undef,ZpE,ZQ,Zhj,ZeS,WD,ZaI,ZeR,Zij,Xz, *]) | (refine ZH fun zr zh=>?_; have zg:=zh; (try simp only [Zpb] at zg); (try have zn_k6:=Zo6 k6 zh); (try have zn_k6:=Zo6 k6 zg.2); (try have zn_k6:=Zo6 k6 zg.2.2); (try have zn_k7:=Zo6 k7 zh); (try have zn_k7:=Zo6 k7 zg.2); (try have zn_k7:=Zo6 k7 zg.2.2); (try have zn_k4:=Zo6 k4 zh); (try have zn_k4:=Zo6 k4 zg.2); (try have zn_k4:=Zo6 k4 zg.2.2)) | (refine Zpi ?_ ?_) | (with_reducible refine And.intro ?_ ?_)))
    exact ZcY (r6:=r6) (r7:=r7) (by simp only [ZI,Zo5,if_true,if_false, *]<;>rfl) (by simp only [ZI,Zo5,if_true,if_false, *]<;>rfl) (by rw [Zpg _ _ d67.1,Zpc]) (Zpc _ _ _) (Zhl (Zpi (Zpi (Zpi (Zpi hs2 (hs2.none zh)) f7) f6) f7) _)
   ·have hf2:100000<fu:=by omega
    (repeat' (first | (refine Zdi (D:=D67) mixed (by with_reducible first | exact Js | exact Yz Js | exact Yz (Yz Js) | exact Yz (Yz (Yz Js))) (by decide) (AH.nil.set _ _) (ZpG (Zbz _) _ _) ?_) | (refine ZpG (Zbz _) _ _) | (simp only [↓Xx,↓Xy,↓Xm,↓Xc,↓ZaU,↓WO,↓XA,↓Yo,↓ZaV,↓ZaK,↓ZbC,↓Ys,↓WK,↓YJ,↓YG,↓WP,↓YH,↓WQ,↓YI,↓YT,↓ZI,↓YV,↓JL,↓ZaW,↓Zct,↓YR,↓Wu,↓Wc,↓XQ,↓Zdz,↓Wo,↓XW,↓WH,↓YK,↓Zab,ZP,ptrV,Zpp,Zpw,Zpx,Zp0,ZpN,ZpK,ZpL,ite_true,ite_false,Zo5,Zo7,Zpd,true_and,ZpT,Zpv,decide_true,decide_false,Bool.not_false,↓Wv,↓XR,↓Jl,Zpf,ZpA,ZQ,fillV,setAt,ZpU,List.all_nil,Zp3,eq_self,Zpu,Zo9,Zqa,Zqb,We,ZeV,JH,JS,ZlY,Zkk,Xw,Zp5,Zp4,↓XS,Xt,Zpl,Wf,Wg,XF,Zbe,Zbf,↓Zay,↓Zcu,ZpE,ZQ,Zhj,ZeS,WD,ZaI,ZeR,Zij,Xz, *]) | (refine ZH fun zr zh=>?_; have zg:=zh; (try simp only [Zpb] at zg); (try have zn_k6:=Zo6 k6 zh); (try have zn_k6:=Zo6 k6 zg.2); (try have zn_k6:=Zo6 k6 zg.2.2); (try have zn_k7:=Zo6 k7 zh); (try have zn_k7:=Zo6 k7 zg.2); (try have zn_k7:=Zo6 k7 zg.2.2); (try have zn_k4:=Zo6 k4 zh); (try have zn_k4:=Zo6 k4 zg.2); (try have zn_k4:=Zo6 k4 zg.2.2)) | (refine Zpi ?_ ?_) | (with_reducible refine And.intro ?_ ?_)))
    exact ZcY (r6:=r6) (r7:=r7) (by simp only [ZI,Zo5,if_true,if_false, *]<;>rfl) (by simp only [ZI,Zo5,if_true,if_false, *]<;>rfl) (by rw [Zpg _ _ d67.1,Zpc]) (Zpc _ _ _) (Zhl (Zpi (Zpi (Zpi (Zpi hs2 (hs2.none zh)) f7) f6) f7) _)
  ·have hF:runF p e fu=endF p (evG p fu (gasOf fu e) 0 0 e [] []):=by unfold runF; rw [if_pos hr,if_neg hfu]
   rw [hF,hr];have hf1:¬ fu<0:=by omega
   have hf2:¬ 100000<fu:=by omega
   replace hT:=Zo8 hT;replace hF:=Zo8 hF;clear hr
   (repeat' (first | (simp only [↓ZF,ZG,↓Znq,ZP,ptrV,Zo5,Zo7,Zpd,setAt,Zo9,ZeS,WD,ZaI,Xz, *]) | (refine ZH fun zr zh=>?_; have zg:=zh; (try simp only [Zpb] at zg); (try have zn_k6:=Zo6 k6 zh); (try have zn_k6:=Zo6 k6 zg.2); (try have zn_k6:=Zo6 k6 zg.2.2); (try have zn_k7:=Zo6 k7 zh); (try have zn_k7:=Zo6 k7 zg.2); (try have zn_k7:=Zo6 k7 zg.2.2); (try have zn_k4:=Zo6 k4 zh); (try have zn_k4:=Zo6 k4 zg.2); (try have zn_k4:=Zo6 k4 zg.2.2))))
   obtain ⟨m1,m2,hab,hT1,hT2⟩:=hT.out;obtain ⟨rfl,rfl⟩:a=some m1∧b=some m2:=by simpa [tabE] using hab
   clear hab;refine ⟨rfl,?_⟩;obtain ⟨H5,hH5⟩:∃ H5,H5=(H'.set zr (.cells 115 [.lit (.map (some m1)),.lit (.map (some m2))] 0)).set r7 (.cells 35 [iV 0] 0):=⟨_,rfl⟩
   show vcL _ [] _ ⟨_,[dfR r6 r7]⟩ ((H'.set zr (.cells 115 [.lit (.map (some m1)),.lit (.map (some m2))] 0)).set r7 (.cells 35 [iV 0] 0));rw [← hH5];have dz6:=Zo6 k6 zh;have dz7:=Zo6 k7 zh;have dz4:=Zo6 k4 zh;have d47:¬ r4=r7:=fun h=>by subst h; rw [k4] at k7; simp at k7
   have q4:H5 r4=some (.cells 34 [iV e.op,sV e.name,encS exE e.kids] 0):=by rw [hH5,Zpg _ _ d47,Zpg _ _ dz4.1]; exact k4
   have q6:H5 r6=some (.cells 74 zR 0):=by rw [hH5,Zpg _ _ d67.1,Zpg _ _ dz6.1]; exact k6
   have q7:H5 r7=some (.cells 35 [iV 0] 0):=by rw [hH5,Zpc]
   have q8:H5 zr=some (.cells 115 [.lit (.map (some m1)),.lit (.map (some m2))] 0):=by rw [hH5,Zpg _ _ dz7.2,Zpc]
   have hT5:TabAt H5 (.agg (tabE m1 m2)) p:=by
    refine ⟨m1,m2,rfl,?_,?_⟩
    ·rw [hH5,Zpg _ _ (Jr k7 hT1).2,Zpg _ _ (Zo6 hT1 zh).1]; exact hT1
    ·rw [hH5,Zpg _ _ (Jr k7 hT2).2,Zpg _ _ (Zo6 hT2 zh).1]; exact hT2
   have hs5:SubH H H5:=by rw [hH5]; exact Zpi (Zpi hs2 (hs2.none zh)) f7
   have hev:=fun r H=>ev_ok (ZhQ hzz.1 hp) (m1:=m1) (m2:=m2) (r:=r) (fu:=fu) (by omega) (gasOf fu e) 0 0 e [] [] H ⟨hzz.2.2,hn,hzz.2.1,⟨rfl,trivial⟩,by omega,by omega⟩ (by unfold gasOf; omega) (by omega) (by omega)
   have hpr:=ZcX (ZhQ hzz.1 hp) (fu:=fu) (gasOf fu e) 0 0 e [] [];generalize evG p fu (gasOf fu e) 0 0 e [] []=R at *
   generalize zr=r8 at *
   replace hT5:=Zo8 hT5;clear hT hT1 hT2 hF hs2 k4 k6 k7 zh zg hH5 dz6 dz7 dz4
   (repeat' (first | (simp only [↓ZF,ZG,ptrV,Zo5,Zo7,Zpd,Zpo,ZQ,fillV,setAt,Zo9,ZQ,Ye,WJ,stT_123,ZoP, *]) | (refine ZH fun zr zh=>?_; have zg:=zh; (try simp only [Zpb] at zg); (try have zn_q6:=Zo6 q6 zh); (try have zn_q6:=Zo6 q6 zg.2); (try have zn_q6:=Zo6 q6 zg.2.2); (try have zn_q7:=Zo6 q7 zh); (try have zn_q7:=Zo6 q7 zg.2); (try have zn_q7:=Zo6 q7 zg.2.2); (try have zn_q4:=Zo6 q4 zh); (try have zn_q4:=Zo6 q4 zg.2); (try have zn_q4:=Zo6 q4 zg.2.2); (try have zn_q8:=Zo6 q8 zh); (try have zn_q8:=Zo6 q8 zg.2); (try have zn_q8:=Zo6 q8 zg.2.2))))
   have hM6:MacAt p m1 m2 zr fu 0 0 (H5.set zr (mB m1 m2 fu 0 0)):=⟨Zpc _ _ _,hT5.out.mono (Zph zh)⟩
   have hcl:=hev zr _ hM6;have henv:envC p.funs [] []=.lit (.pointer none):=by rw [Zfv]; rfl
   rw [henv] at hcl;have q6':∀ X,(H5.set zr X) r6=some (.cells 74 zR 0):=fun X=>by rw [Zpg _ _ (Zo6 q6 zh).1]; exact q6
   have q7':∀ X,(H5.set zr X) r7=some (.cells 35 [iV 0] 0):=fun X=>by rw [Zpg _ _ (Zo6 q7 zh).1]; exact q7
   have hs6:∀ X,SubH H (H5.set zr X):=fun X=>hs5.of_set (hs5.none zh)
   have f5:H5 zr=none:=zh;clear hev henv q4 q8 zh zg hT5 hM6;refine Zgt hcl (fun c v hR=>?_) (fun k c d hR=>?_)
   ·rw [ZpA];obtain ⟨g1,g2,g3⟩:=hpr c v ⟨hzz.2.2,hn,hzz.2.1,⟨rfl,trivial⟩,by omega,by omega⟩ hR;have hF:endF p R=if 5000<(v.ex p).full then (zEx,0,7) else if v.pl=true then (v.ex p,c,0) else (zEx,0,423):=by rw [hR]; rfl
    rw [hF];obtain ⟨o1,o2⟩:=Wt p.funs v;obtain ⟨H7,hH7⟩:∃ H7,H7=H5.set zr (mB m1 m2 fu c 0):=⟨_,rfl⟩
    rw [← hH7];have p6:H7 r6=some (.cells 74 zR 0):=by rw [hH7]; exact q6' _
    have p7:H7 r7=some (.cells 35 [iV 0] 0):=by rw [hH7]; exact q7' _
    have p9:H7 zr=some (.cells 123 [.lit (.map (some m1)),.lit (.map (some m2)),iV fu,iV c,iV 0] 0):=by rw [hH7]; exact Zpc _ _ _
    have hs7:SubH H H7:=by rw [hH7]; exact hs6 _
    generalize zr=r9 at *
    clear hcl q6' q7' hs6 hH7 hpr hR hF q6 q7 hs5
    (repeat' (first | (simp only [↓ZF,ZG,ptrV,Zo5,Zo7,ZQ,fillV,setAt,ZQ,stT_129,ZoQ, *]) | (refine ZH fun zr zh=>?_; have zg:=zh; (try simp only [Zpb] at zg); (try have zn_p6:=Zo6 p6 zh); (try have zn_p6:=Zo6 p6 zg.2); (try have zn_p6:=Zo6 p6 zg.2.2); (try have zn_p7:=Zo6 p7 zh); (try have zn_p7:=Zo6 p7 zg.2); (try have zn_p7:=Zo6 p7 zg.2.2); (try have zn_p9:=Zo6 p9 zh); (try have zn_p9:=Zo6 p9 zg.2); (try have zn_p9:=Zo6 p9 zg.2.2))))
    refine ZdW (ZoC v.sz v (Zpl _) g1 zr 5000 _ (Zpc _ _ _) (by omega) (by omega)) (fun bl hbl=>?_);rw [ZpA];have s6:∀ X,(H7.set zr X) r6=some (.cells 74 zR 0):=fun X=>by rw [Zpg _ _ zn_p6.1]; exact p6
    have s7:∀ X,(H7.set zr X) r7=some (.cells 35 [iV 0] 0):=fun X=>by rw [Zpg _ _ zn_p7.1]; exact p7
    have s9:∀ X,(H7.set zr X) r9=some (.cells 123 [.lit (.map (some m1)),.lit (.map (some m2)),iV fu,iV c,iV 0] 0):=fun X=>by rw [Zpg _ _ zn_p9.1]; exact p9
    have hs8:∀ X,SubH H (H7.set zr X):=fun X=>hs7.of_set (hs7.none zh)
    obtain ⟨H8,hH8⟩:∃ H8,H8=H7.set zr (tB bl):=⟨_,rfl⟩
    rw [← hH8];have u6:H8 r6=some (.cells 74 zR 0):=by rw [hH8]; exact s6 _
    have u7:H8 r7=some (.cells 35 [iV 0] 0):=by rw [hH8]; exact s7 _
    have u9:H8 r9=some (.cells 123 [.lit (.map (some m1)),.lit (.map (some m2)),iV fu,iV c,iV 0] 0):=by rw [hH8]; exact s9 _
    have ut:H8 zr=some (.cells 129 [iV bl] 0):=by rw [hH8]; exact Zpc _ _ _
    have hsu:SubH H H8:=by rw [hH8]; exact hs8 _
    have d6t:¬ r6=r9:=fun h=>by subst h; rw [u6] at u9; simp at u9
    generalize zr=rt at *
    clear s6 s7 s9 hs8 hH8 p6 p7 p9 hs7 zh zg zn_p6 zn_p7 zn_p9;by_cases h5:5000<(v.ex p).full
    ·have hb:bl<0:=hbl.gt (by omega) (by omega);rw [if_pos h5];clear h5 hbl
     (repeat' (first | (simp only [↓ZF,ZG,vcNil,YN,Zo5,Zo7,ZQ,fillV,setAt,Zo9,ZQ,YN,Za6,XV,Yg,Zbu, *])))
     show ZbP Try.prog _ _ (.panic (stopE 7)) _ _;exact Zj1 (by simp only [ZI,Zo5,if_true,if_false, *]<;>rfl) (by simp only [ZI,Zo5,if_true,if_false, *]<;>rfl) u6 u7 d67 f6 f7 hsu
    ·have hb:¬ bl<0:=by have:=hbl.le (by omega) (by omega); omega
     rw [if_neg h5];clear h5 hbl;have hpn:=plain_ok p (v.sz+1) v H8 (Zp8 _) g1
     (repeat' (first | (refine Zdi (D:=D67) mixed (by with_reducible first | exact Js | exact Yz Js | exact Yz (Yz Js) | exact Yz (Yz (Yz Js))) (by decide) _ (Zpa _) ?_) | (simp only [↓Wj,↓Xx,↓Xy,↓Xm,↓XI,↓WO,↓XA,↓Yo,↓Ys,↓YJ,↓YG,↓YH,↓YI,↓YT,↓Wk,↓ZI,↓YV,↓YR,↓Wy,↓Wc,↓Yj,↓Xk,↓YX,↓XW,vcNil,Zpp,Zpw,ZpK,ZpL,ite_true,ite_false,Zo5,Zo7,ne_eq,not_false_eq_true,true_and,Zpv,decide_false,↓XR,↓Jl,eq_self,Zpu,ZpO,Zo9,We,Wf,Jo,Wg,XF,Jj,↓Zay,XV,Zc4,Yg,en_47, *])))
     refine pl_use hpn (fun hpl=>?_) (fun hpl=>?_)
     ·rw [if_pos hpl];clear hpn
      (repeat' (first | (simp only [↓ZF,ZG,Zo5,Zo7,Zpd,Zpo,ZQ,fillV,setAt,ZQ,ZaI,ZeR,Zij, *]) | (exact Zpa _) | (with_reducible refine And.intro ?_ ?_)))
      exact rn_done (by simp only [ZI,Zo5,if_true,if_false, *]<;>rfl) (by simp only [ZI,Zo5,if_true,if_false, *]<;>rfl) (by rw [Zpg _ _ d67.1,Zpc]) (Zpc _ _ _) (Zpi (Zpi hsu f6) f7)
     ·rw [if_neg (by rw [hpl]; simp)];clear hpn
      (repeat' (first | (simp only [↓ZF, *])))
      exact Zj1 (by simp only [ZI,Zo5,if_true,if_false, *]<;>rfl) (by simp only [ZI,Zo5,if_true,if_false, *]<;>rfl) u6 u7 d67 f6 f7 hsu
   ·have hF:endF p R=(zEx,0,k):=by rw [hR]; rfl
    rw [hF,ZpA];clear hcl hpr hR hF
    (repeat' (first | (simp only [↓ZF, *])))
    exact Zj1 (by simp only [ZI,Zo5,if_true,if_false, *]<;>rfl) (by simp only [ZI,Zo5,if_true,if_false, *]<;>rfl) (q6' _) (q7' _) d67 f6 f7 (hs6 _)
 ·have hF:runF p e fu=(zEx,0,Wm p e):=by unfold runF; rw [if_neg hr]
  rw [hF];clear hF hT;generalize Wm p e=R at *
  (repeat' (first | (refine Zdi (D:=D67) mixed (by with_reducible first | exact Js | exact Yz Js | exact Yz (Yz Js) | exact Yz (Yz (Yz Js))) (by decide) (AH.nil.set _ _) (ZpG (Zbz _) _ _) ?_) | (refine ZpG (Zbz _) _ _) | (simp only [↓Wj,↓Xx,↓Xy,↓Xm,↓Xc,↓XI,↓ZaU,↓WO,↓XA,↓Yo,↓ZaV,↓ZbB,ZcS,↓Ys,↓WK,↓YJ,↓YG,↓WP,↓YH,↓WQ,↓YI,↓YT,↓ZI,↓YV,↓JL,↓ZaW,↓Zct,↓YR,↓Wu,↓Wc,↓XQ,↓Zdz,↓Wo,↓YK,↓Zab,ZP,ptrV,Zpp,Zpw,Zpx,Zp0,ZpK,ZpL,ite_true,ite_false,Zo5,Zo7,Zpd,true_and,ZpT,Zpv,decide_false,Bool.not_false,Yb,ZJ,↓Wv,↓XR,↓Jl,Zpf,ZpA,ZQ,fillV,setAt,ZpU,List.all_nil,Zp3,eq_self,Zpu,Zo9,Zqa,Zqb,We,ZeV,JH,JS,ZlY,Zkk,Xw,Zp5,Zp4,↓XS,Xt,Zpl,Wf,Wg,XF,Zbe,Zbf,↓Zay,↓Zcu,undef,ZQ,Zhj,ZeS,WD,ZaI,ZeR,Zij,Xz, *]) | (refine ZH fun zr zh=>?_; have zg:=zh; (try simp only [Zpb] at zg); (try have zn_k6:=Zo6 k6 zh); (try have zn_k6:=Zo6 k6 zg.2); (try have zn_k6:=Zo6 k6 zg.2.2); (try have zn_k7:=Zo6 k7 zh); (try have zn_k7:=Zo6 k7 zg.2); (try have zn_k7:=Zo6 k7 zg.2.2); (try have zn_k4:=Zo6 k4 zh); (try have zn_k4:=Zo6 k4 zg.2); (try have zn_k4:=Zo6 k4 zg.2.2)) | (refine Zpi ?_ ?_) | (with_reducible refine And.intro ?_ ?_)))
  exact ZcY (r6:=r6) (r7:=r7) (by simp only [ZI,Zo5,if_true,if_false, *]<;>rfl) (by simp only [ZI,Zo5,if_true,if_false, *]<;>rfl) (by rw [Zpg _ _ d67.1,Zpc]) (Zpc _ _ _) (Zhl (Zpi (Zpi (Zpi (Zpi hs2 (hs2.none zh)) f7) f6) f7) _)
end Go.PV.Ytglpmlbbaedbiaa
end
section
open Bool renaming and_eq_true→ZpM
open List renaming eq_nil_of_length_eq_zero→ZpY
open Nat renaming lt_succ_self→Zp8,le_refl→Zpl
namespace Go.PV.Ytglpmlbbaedbiaa
open Go Go.Proofs
mutual
theorem Rep.plx {p:Pr}:∀ (v:Val) (e:Ex),Rep p v e→v.pl=true→e=v.ex p∧∀ w,Rep p w e→w.pl=true
 | .built n ks,e,h,hp=>by
   rw [Rep] at h;obtain ⟨_,es,rfl,h2⟩:=h;obtain ⟨g1,g2⟩:=Reps.plx ks es h2 hp;refine ⟨by rw [Val.ex,g1],fun w hw=>?_⟩;obtain ⟨m,us,es',rfl,he,hr⟩:=hw.op3 rfl;cases he;exact g2 us hr
 | .clo _ _ _ _,e,h,hp=>by cases hp
 | .part _ _,e,h,hp=>by cases hp
theorem Reps.plx {p:Pr}:∀ (vs:List Val) (es:List Ex),Reps p vs es→Zau vs=true→es=Xq p vs∧∀ ws,Reps p ws es→Zau ws=true
 | [],es,h,hp=>by
   rw [Reps] at h;subst h;refine ⟨rfl,fun ws hw=>?_⟩;obtain rfl:ws=[]:=ZpY (by have:=hw.len; simp at this; omega);rfl
 | v::vs,es,h,hp=>by
   rw [Reps] at h;obtain ⟨e,es',rfl,h1,h2⟩:=h;rw [Zau,ZpM] at hp;obtain ⟨g1,g2⟩:=Rep.plx v e h1 hp.1;obtain ⟨g3,g4⟩:=Reps.plx vs es' h2 hp.2;refine ⟨by rw [Xq,← g1,← g3],fun ws hw=>?_⟩;cases ws with
   | nil=>rw [Reps] at hw; cases hw
   | cons w ws =>
     rw [Reps] at hw;obtain ⟨e2,es2,he,k1,k2⟩:=hw;cases he;rw [Zau,g2 w k1,g4 ws k2]; rfl
end
theorem ZnW {p:Pr} {e:Ex} {fu:Int} (hp:PrOk p) (hr:Wm p e=0) (hn:e.nmOk) (h0:0≤fu):Pg p∧Cld p e∧Sim p fu 0 e (evG p fu (gasOf fu e) 0 0 e [] [])∧(∀ c v,evG p fu (gasOf fu e) 0 0 e [] []=.ok (c,v)→0≤c∧c≤fu):=by
 obtain ⟨h1,h2,h3⟩:=Zhk hr;have hg:=Zox h1 hp;have hG:Zbp p fu 0 e [] []:=⟨h3,hn,h2,⟨rfl,trivial⟩,Int.le_refl _,h0⟩
 have hS:=ZnS hg (fu:=fu) (gasOf fu e) 0 0 e [] [] [] hG Reps.nil (by unfold gasOf; omega);rw [show bdL [] []=([]:List Bd) from rfl,ZlB] at hS;refine ⟨hg,⟨h3,hn⟩,hS,fun c v h=>?_⟩;obtain ⟨_,g2,g3⟩:=ZcX hg.pg _ _ _ _ _ _ _ _ hG h;exact ⟨g2,g3⟩
mutual
theorem Val.pl_sz (p:Pr):∀ v:Val,v.pl=true→(v.ex p).sz=(v.ex p).full
 | .built n ks,h=>by
   rw [Val.ex,Ex.full_eq,Ex.sz_eq];show 1+exsSz (Xq p ks)=if (3:Int)=9 then _ else 1+XC (Xq p ks)
   rw [if_neg (by decide),Zje p ks h]
 | .clo _ _ _ _,h=>by cases h
 | .part _ _,h=>by cases h
theorem Zje (p:Pr):∀ l:List Val,Zau l=true→exsSz (Xq p l)=XC (Xq p l)
 | [],h=>rfl
 | v::l,h=>by
   rw [Zau,ZpM] at h;rw [Xq,exsSz,XC,Val.pl_sz p v h.1,Zje p l h.2]
end
theorem ZnX (p:Pr) (e:Ex) (fu:Int):(runF p e fu).1.sz≤5000:=by
 have hz:zEx.sz≤5000:=by rw [Ex.sz_eq]; show 1+0≤5000; omega
 unfold runF endF;split
 ·split
  ·exact hz
  ·split
   ·exact hz
   ·rename_i c v _;split
    ·exact hz
    ·split
     ·rename_i h1 h2;rw [v.pl_sz p h2]; omega
     ·exact hz
 ·exact hz
theorem Rd.val {p:Pr}:∀ {n m:Nat} {e f g:Ex},Rd p n e f→Rd p m e g→g.isV p=true→n≤m
 | 0,m,e,f,g,h,k,hv=>Nat.zero_le _
 | n+1,0,e,f,g,h,k,hv=>by
   obtain rfl:=k;rw [h.1] at hv; cases hv
 | n+1,m+1,e,f,g,h,k,hv=>Nat.succ_le_succ (Rd.val h.2.2 k.2.2 hv)
theorem Rd.uniq {p:Pr}:∀ {n:Nat} {e f g:Ex},Rd p n e f→Rd p n e g→f=g
 | 0,e,f,g,h,k=>by obtain rfl:=h; exact k
 | n+1,e,f,g,h,k=>Rd.uniq h.2.2 k.2.2
theorem Rd.stuck {p:Pr} {n m:Nat} {e f g:Ex} (h:Rd p n e f) (k:Rd p m e g) (hv:g.isV p=true) (hf:f.isV p=false):n<m∧(stepF p f).2=0:=by
 have h1:=h.val k hv;rcases Nat.lt_or_eq_of_le h1 with h2 | rfl
 ·refine ⟨h2,?_⟩;obtain ⟨x,rfl⟩:∃ x,m=n+(x+1):=⟨m-n-1,by omega⟩
  exact (h.det k).2.1
 ·obtain rfl:=h.uniq k;rw [hv] at hf; cases hf
theorem step_law {p:Pr} {e:Ex} (hp:PrOk p) (hn:e.nmOk) (h0:(runF p e 80).2.2=0) :
 ((stepR p e)=(e,false,0)∧(runF p e 80).2.1=0) ∨
 (∃ x,stepR p e=(x,true,0)∧x.nmOk∧x.sz≤1099511627776∧(0≤(runF p e 80).2.1∧(runF p e 80).2.1≤80)∧((runF p x 80).2.2=7∨(runF p x 80).2.2=6∨((runF p x 80).2.2=0∧(runF p x 80).1=(runF p e 80).1∧(runF p x 80).2.1=(runF p e 80).2.1-1))):=by
 unfold stepR;by_cases hr:Wm p e=0
 ·rw [if_pos hr];obtain ⟨hg,hc,hS,hb⟩:=ZnW hp hr hn (fu:=80) (by decide);have hrun:runF p e 80=endF p (evG p 80 (gasOf 80 e) 0 0 e [] []):=by unfold runF; rw [if_pos hr,if_neg (by decide)]
  rw [hrun] at h0 ⊢;cases hq:evG p 80 (gasOf 80 e) 0 0 e [] [] with
  | error k =>
    exfalso
    rw [hq] at hS h0;have h0:k=0:=h0;subst h0;rcases hS with h | h | ⟨_,_,_,_,⟨h,_⟩ | ⟨h,_⟩ | ⟨h,_⟩⟩<;>cases h
  | ok cv =>
    obtain ⟨c,v⟩:=cv;rw [hq] at hS h0;obtain ⟨n,E',h1,h2,h3⟩:=hS;obtain ⟨b1,b2⟩:=hb c v hq
    have hend:¬ 5000<(v.ex p).full∧v.pl=true:=by
     unfold endF at h0;dsimp only at h0;split at h0
     ·cases h0
     ·split at h0
      ·exact ⟨by assumption,by assumption⟩
      ·cases h0
    have he:endF p (.ok (c,v))=(v.ex p,c,0):=by unfold endF; dsimp only; rw [if_neg hend.1,if_pos hend.2]
    rw [he];have hvE:=h3.isV hg.pg.nd;obtain ⟨hx,hw⟩:=h3.plx v E' hend.2;cases n with
    | zero =>
      obtain rfl:=h2;rw [if_pos hvE];exact .inl ⟨rfl,by show c=0; omega⟩
    | succ n =>
      obtain ⟨g1,g2,g3⟩:=h2;rw [if_neg (by rw [g1]; decide),if_pos g2];refine .inr ⟨_,rfl,(Zfw hg.bd hc g1 g2).2,?_,⟨b1,b2⟩,?_⟩
      ·have h5:=(Zhk hr).2.1
       have:=(Zeo hg.bd (M:=e.sz) (e.sz+1) e (Zp8 _) ⟨hc.1,hc.2,Zpl _⟩ g1 g2).2.2
       have h6:(1000+e.sz) * (1+e.sz)≤6000 * 5001:=Nat.mul_le_mul (by omega) (by omega);omega
      ·have hcx:=Zfw hg.bd hc g1 g2;generalize (stepF p e).1=x at hcx g3;obtain ⟨hck,_,_⟩:=Zhk hr;by_cases hrx:Wm p x=0
       ·have hrunx:runF p x 80=endF p (evG p 80 (gasOf 80 x) 0 0 x [] []):=by unfold runF; rw [if_pos hrx,if_neg (by decide)]
        rw [hrunx];obtain ⟨_,_,hSx,hbx⟩:=ZnW hp hrx hcx.2 (fu:=80) (by decide);cases hqx:evG p 80 (gasOf 80 x) 0 0 x [] [] with
        | error k =>
          rw [hqx] at hSx;have hk:(endF p (.error k)).2.2=k:=rfl;rw [hk];rcases hSx with rfl | rfl | ⟨m,F,k1,k2,k3⟩
          ·exact .inl rfl
          ·exact .inr (.inl rfl)
          ·exfalso
           obtain ⟨s1,s2⟩:=k1.stuck g3 hvE k2;rcases k3 with ⟨_,hn⟩ | ⟨_,_,hs⟩ | ⟨_,_,hs⟩
           ·omega
           ·rw [s2] at hs; cases hs
           ·rw [s2] at hs; cases hs
        | ok cw =>
          obtain ⟨c',w⟩:=cw;rw [hqx] at hSx;obtain ⟨m,F,k1,k2,k3⟩:=hSx;have hm:=k2.val g3 hvE;have hm2:=g3.val k2 (k3.isV hg.pg.nd);obtain rfl:m=n:=by omega
          obtain rfl:=k2.uniq g3;have hwp:=hw w k3;obtain ⟨hwx,_⟩:=k3.plx w F hwp
          right; right
          unfold endF;dsimp only;rw [← hwx,hx,if_neg hend.1,if_pos hwp];exact ⟨rfl,rfl,by show c'=c-1; omega⟩
       ·have hrunx:runF p x 80=(zEx,0,Wm p x):=by unfold runF; rw [if_neg hrx]
        rw [hrunx];dsimp only;unfold Wm at hrx ⊢;rw [if_pos hck] at hrx ⊢;split
        ·exact .inl rfl
        ·split
         ·exact .inr (.inl rfl)
         ·rename_i h1 h2;rw [if_neg h1,if_neg h2] at hrx;exact absurd hcx.1 hrx
 ·exfalso
  have:runF p e 80=(zEx,0,Wm p e):=by unfold runF; rw [if_neg hr]
  rw [this] at h0;exact hr h0
end Go.PV.Ytglpmlbbaedbiaa
end
section
open Bool renaming false_eq_true→ZpT
open Go.PV.AH renaming get→Zpf,set_none→Zpb
open Go.PV.PureF renaming forget→ZpF
open Go.PV.SubH renaming refl→Zpa,of_set→Zpi
open List renaming getElem_mem→Zpk,map_cons→Zpp,map_nil→Zpw,getD_cons_zero→ZpN,getD_cons_succ→ZpK,getD_nil→ZpL,drop→Zo9
open Nat renaming reduceEqDiff→Zo5,reduceLT→Zo7,succ_ne_self→Zpv,zero_add→Zpu,add_zero→ZpO
set_option maxRecDepth 20000
set_option maxHeartbeats 4000000
namespace Go.PV.Ytglpmlbbaedbiaa
open Go Go.Proofs
theorem ZlF (a:Ex):∀ b,a.sz≤1099511627776→b.sz≤1099511627776→PureF Try.prog 14 [exV a,exV b] (boolV (a.beq b)):=by
 refine Ex.ind (p:=fun a=>∀ b,a.sz≤1099511627776→b.sz≤1099511627776→PureF Try.prog 14 [exV a,exV b] (boolV (a.beq b))) (fun a ih b ha hb=>?_) a;have l1:=YL a.kids;have l2:=YL b.kids;have z1:=a.sz_eq;have z2:=b.sz_eq;have ih':∀ (i:Nat) (h:i<a.kids.length) (h':i<b.kids.length),PureF Try.prog 14 [exV a.kids[i],exV b.kids[i]] (boolV (a.kids[i].beq b.kids[i])):=fun i h h'=>ih _ (Zpk h) _ (by have:=ZX (Zpk h); omega) (by have:=ZX (Zpk h'); omega)
 have n1:a.kids.length≤1099511627776:=by omega
 have n2:b.kids.length≤1099511627776:=by omega
 clear ih z1 z2 l1 l2 ha hb;rw [a.beq_eq];refine ZpF fun H=>?_
 refine ZK fd14 (by simp) ?_;delta c14 Zj Zq Zd Zb Zn Za Zp Zr Zc
 (repeat' (first | (refine equalEE n1 (p:=Ex.beq) (fun i h h' H' _=>FnAt.lit en_14 (ih' i h h')) ?_) | (simp only [↓Xx,↓Xy,↓ZaU,↓XA,↓Yo,↓ZaV,↓ZaK,↓ZbB,↓Ys,↓YJ,↓YG,↓YH,↓YI,↓YT,↓Wk,↓ZI,↓YV,↓YB,↓JL,↓ZaW,↓Zct,↓YR,↓Wc,↓Zax,↓Yj,↓Xk,↓YX,↓YK,↓ZaP,ptrV,boolV,Zpp,Zpw,ZpN,ZpK,ZpL,ite_true,ite_false,Zo5,Zo7,ne_eq,not_false_eq_true,true_and,ZpT,Zpv,decide_true,decide_false,Bool.true_and,Bool.false_and,Yb,ZJ,Zpf,eq_self,Zpu,ZpO,Zo9,We,Xw,↓Zaz,Wf,Jo,Wg,XF,Jj,undef,ZT,Yd,ZW,Yg,Ym,Yk,en_37, *]) | (refine JD ?_ ?_<;>intro) | (refine ZM ?_) | (refine ZH fun zr zh=>?_; have zg:=zh; (try simp only [Zpb] at zg)) | (exact Zpa _) | (refine Zpi ?_ ?_)))
end Go.PV.Ytglpmlbbaedbiaa
end
section
set_option maxRecDepth 20000
set_option maxHeartbeats 8000000
namespace Go.PV.Ytglpmlbbaedbiaa
open Go Go.Proofs
def RoA (H0:AH) (p:Pr) (e:Ex) (x:Ex) (c k:Int) (r2 r3 r7:Nat) (A:AF) (H:AH):Prop:=SubH H0 H∧A.d=[]∧A.t 2=ptrV r2 0∧A.t 3=ptrV r3 0∧A.t 7=ptrV r7 0∧A.t 8=iV k ∧
 H r2=some (.cells 71 [cosV p.cons,fusV p.funs] 0)∧H r3=some (.cells 28 [iV e.op,sV e.name,encS exE e.kids] 0)∧H r7=some (.cells 74 [iV x.op,sV x.name,exsV x.kids,iV c] 0)
def RoB (H0:AH) (p:Pr) (e:Ex) (x:Ex) (c k:Int) (y:Ex) (t10:VV) (j:Int) (A:AF) (H:AH):Prop:=∃ r2 r3 r7 r9,RoA H0 p e x c k r2 r3 r7 A H∧A.t 9=ptrV r9 0∧A.t 10=t10∧A.t 11=iV j∧H r9=some (.cells 34 [iV y.op,sV y.name,exsV y.kids] 0)
end Go.PV.Ytglpmlbbaedbiaa
end
section
open Go.PV.AH renaming set_none→Zpb,ne_of→Zo6,get→Zpf
open Go.PV.PureF renaming forget→ZpF,use→Zpe
open Go.PV.SubH renaming refl→Zpa,of_set→Zpi,new→Zph
open Int renaming reduceEq→ZpE
open List renaming drop→Zo9
open Nat renaming reduceEqDiff→Zo5,reduceLT→Zo7,reduceAdd→Zpd
set_option maxRecDepth 20000
set_option maxHeartbeats 8000000
namespace Go.PV.Ytglpmlbbaedbiaa
open Go Go.Proofs
def EsC (H0:AH) (x:Ex) (c:Int) (x2:Ex) (c2 k2:Int) (A:AF) (H:AH):Prop:=∃ r7 r12,SubH H0 H∧A.d=[]∧A.t 7=ptrV r7 0∧A.t 12=ptrV r12 0∧A.t 8=iV k2∧H r7=some (.cells 74 [iV x.op,sV x.name,exsV x.kids,iV c] 0)∧H r12=some (.cells 74 [iV x2.op,sV x2.name,exsV x2.kids,iV c2] 0)
theorem estep_ok (p:Pr) (e:Ex) (hw:prWt p≤1048576) (hwe:e.wt≤1048576) (haw:PureF Try.prog 9 [] (boolV true)):PureF Try.prog 5 [prV p,exV e] (boolV true):=by
 obtain ⟨hin,hps,_,_⟩:=pr_ok hw;have hes:=e.sz_wt;have hen:=e.nmOk_wt (by omega);have hnd:=Zlj e (by omega);have hsm:=small_ok p 200 (by omega);refine ZpF fun H=>?_
 by_cases h1:(prSz p:Int)≤200
 ·rw [decide_eq_true h1] at hsm;by_cases h2:150<(e.sz:Int)
  ·refine ZK fd5 (by simp) ?_;delta c5 Zj Zq Zb Zo Zr Za Zh Zc Zp Zv Zi Zg Zt Zm Zw Zs Zd Zu
   (repeat' (first | (simp only [↓ZF,ZG,ZP,ptrV,boolV,Zo5,Zo7,ZJ,Zo9,undef,ZbK,Zif,en_8,en_24,en_9, *]) | (refine ZM ?_) | (refine ZH fun zr zh=>?_; have zg:=zh; (try simp only [Zpb] at zg)) | (exact Zpa _) | (refine Zpi ?_ ?_) | (refine Zpe (hnd) ?_) | (refine Zpe (hsm) ?_) | (refine Zpe (haw) ?_)))
  ·have hpr:=prog_ok p (by omega);have hcp:=Zlk e (by omega);have hra:=run_ok (fu:=80) hin.ok (e:=e) (by omega) hen;have hst:=Step_ok hin (e:=e) (by omega) hen;have hlaw:=fun h=>step_law (e:=e) hin.ok hen h
   have hnx:=fun (x:Ex) h1 h2=>run_ok (fu:=80) hin.ok (e:=x) h1 h2
   have z1:=ZnX p e 80;have z3:=fun x=>ZnX p x 80
   have heq:=ZlF e e (by omega) (by omega);rw [(Ex.beq_iff _ _).2 rfl] at heq;generalize runF p e 80=R1 at *
   generalize stepR p e=R2 at *
   obtain ⟨x,c,k⟩:=R1;dsimp only at z1 hlaw;unfold runX at hra;dsimp only at hra;have heqx:=ZlF x x (by omega) (by omega);rw [(Ex.beq_iff _ _).2 rfl] at heqx;clear hin hps hen hw hwe hes z1;refine ZdB fd5 (by simp) ?_;delta c5 Zj Zq Zb Zo Zr Za Zh Zc Zp Zv Zi Zg Zt Zm Zw Zs Zd Zu;refine ZcT (l:=[_,_,_,_]) (K:=fun A H2=>∃ r2 r3 r7,RoA H p e x c k r2 r3 r7 A H2) (fun _ _ _ h=>h) ?_ _ _ ?_
   ·clear hnd hsm h1 h2 hra;rintro ⟨t,d⟩ B ⟨r2,r3,r7,hsb,rfl,h2,h3,h7,h8,k2,k3,k7⟩;dsimp only at h2 h3 h7 h8;by_cases k0:k=0
    ·subst k0;replace hlaw:=hlaw rfl;obtain ⟨y,b,j⟩:=R2
     obtain rfl:j=0:=by
      rcases hlaw with ⟨h,_⟩ | ⟨_,h,_⟩<;>cases h<;>rfl
     refine ZcT (l:=[_,_]) (K:=RoB H p e x c 0 y (boolV b) 0) (fun _ _ _ h=>h) ?_ _ _ ?_
     ·clear h2 h3 h7 h8 k2 k3 k7 hsb hst;rintro ⟨t,d⟩ B ⟨r2,r3,r7,r9,⟨hsb,rfl,h2,h3,h7,h8,k2,k3,k7⟩,h9,h10,h11,k9⟩;dsimp only at h2 h3 h7 h8 h9 h10 h11;rcases hlaw with ⟨hq,hc⟩ | ⟨y',hq,q1,q2,hcb,hq3⟩
      ·cases hq;subst hc;clear hnx z3 heqx hpr k2 h2;refine Ya rfl (fun _ _ _ h=>h) ?_
       (repeat' (first | (simp only [↓ZF,ZG,ptrV,boolV,Zo5,Zo7,↓ZhG,Zo9,Zk6,ZbK,Yg,Ye,en_9,ZlM,en_14, *]) | (refine ZM ?_) | (refine ZR mixed (fun _ _ _ _ e h=>⟨e.trans h.1,h.2⟩) _ (Zpa _) ?_) | (exact Zpa _) | (refine Zpe (haw) ?_) | (refine Zpe (heq) ?_) | (refine Zpe (hcp) ?_) | (with_reducible refine And.intro ?_ ?_)))
      ·cases hq;have hrn:=hnx y q2 q1;have z4:=z3 y;clear hnx z3 hcp heq q1 q2;generalize runF p y 80=R3 at *
       obtain ⟨x2,c2,m⟩:=R3;unfold runX at hrn;dsimp only at hrn hq3 z4;refine ZcT (l:=[_,_,_]) (K:=EsC H x c x2 c2 m) (fun _ _ _ h=>h) ?_ _ _ ?_
       ·clear h2 h3 h7 h8 h9 h10 h11 k2 k3 k7 k9 hsb hrn;rintro ⟨t,d⟩ B ⟨r7,r12,hsb,rfl,h7,h12,h8,k7,k12⟩;dsimp only at h7 h12 h8;refine Ya rfl (fun _ _ _ h=>h) ?_;rcases hq3 with rfl | rfl | ⟨rfl,rfl,rfl⟩
        ·(repeat' (first | (simp only [↓ZF,ZG,boolV,Zo5,Zo7,Yb,ZJ,undef,en_9, *]) | (refine ZM ?_) | (refine Zpe (haw) ?_)))
        ·(repeat' (first | (simp only [↓ZF,ZG,boolV,Zo5,Zo7,ZpE,en_9, *]) | (refine ZM ?_) | (refine Zpe (haw) ?_)))
        ·have hcw:IntKind.i64.wrap (c-1)=c-1:=ZO (by omega) (by omega)
         (repeat' (first | (simp only [↓ZF,ZG,ptrV,boolV,Zo5,Zo7,reduceCtorEq,Zo9,ZpE,Zk6,flT_74_0,Yg,Ye,en_9,en_14, *]) | (refine ZM ?_) | (refine Zpe (haw) ?_) | (refine Zpe (heqx) ?_)))
       ·simp only [vcs];clear haw hq3 heqx
        (repeat' (first | (simp only [↓ZF,ZG,ZP,ptrV,boolV,Zo5,Zo7,Zpd,setAt,Zo9,Zif,Ye,ZeR,ZhA,en_26,en_25, *]) | (refine ZR mixed (fun _ _ _ _ e h=>⟨e.trans h.1,h.2⟩) _ (Zpa _) ?_) | (refine And.intro (Zph (by assumption)) ?_) | (refine ZH fun zr zh=>?_; have zg:=zh; (try simp only [Zpb] at zg); (try have zn_k2:=Zo6 k2 zh); (try have zn_k2:=Zo6 k2 zg.2); (try have zn_k2:=Zo6 k2 zg.2.2); (try have zn_k3:=Zo6 k3 zh); (try have zn_k3:=Zo6 k3 zg.2); (try have zn_k3:=Zo6 k3 zg.2.2); (try have zn_k7:=Zo6 k7 zh); (try have zn_k7:=Zo6 k7 zg.2); (try have zn_k7:=Zo6 k7 zg.2.2); (try have zn_k9:=Zo6 k9 zh); (try have zn_k9:=Zo6 k9 zg.2); (try have zn_k9:=Zo6 k9 zg.2.2)) | (exact Zpa _) | (refine Zpe (hpr) ?_) | (refine Zpe (hrn) ?_) | (with_reducible refine And.intro ?_ ?_)))
        all_goals have y12:=hsb.none zg
        all_goals exact ⟨r7,zr,hsb.of_set y12,rfl,(by simp only [ZI,Zo5,if_false, *]<;>rfl),(by simp only [ZI,Zo5,if_true,if_false, *]<;>rfl),(by simp only [ZI,Zo5,if_true,if_false, *]<;>rfl),(by simp only [Zpf, *,if_false]<;>rfl),(by simp only [Zpf, *,if_true]<;>rfl)⟩
     ·simp only [vcs];clear haw hlaw heq heqx hnx z3
      (repeat' (first | (simp only [↓ZF,ZG,ZP,ptrV,boolV,Zo5,Zo7,Zpd,setAt,Zo9,ZbK,Zif,YE,Yc,en_26,ZlM,en_27, *]) | (refine ZR mixed (fun _ _ _ _ e h=>⟨e.trans h.1,h.2⟩) _ (Zpa _) ?_) | (refine And.intro (Zph (by assumption)) ?_) | (refine ZH fun zr zh=>?_; have zg:=zh; (try simp only [Zpb] at zg); (try have zn_k2:=Zo6 k2 zh); (try have zn_k2:=Zo6 k2 zg.2); (try have zn_k2:=Zo6 k2 zg.2.2); (try have zn_k3:=Zo6 k3 zh); (try have zn_k3:=Zo6 k3 zg.2); (try have zn_k3:=Zo6 k3 zg.2.2); (try have zn_k7:=Zo6 k7 zh); (try have zn_k7:=Zo6 k7 zg.2); (try have zn_k7:=Zo6 k7 zg.2.2)) | (exact Zpa _) | (refine Zpe (hpr) ?_) | (refine Zpe (hcp) ?_) | (refine Zpe (hst) ?_) | (with_reducible refine And.intro ?_ ?_)))
      all_goals have y9:=hsb.none zg
      all_goals exact ⟨r2,r3,r7,zr,⟨hsb.of_set y9,rfl,(by simp only [ZI,Zo5,if_false, *]<;>rfl),(by simp only [ZI,Zo5,if_false, *]<;>rfl),(by simp only [ZI,Zo5,if_false, *]<;>rfl),(by simp only [ZI,Zo5,if_false, *]<;>rfl),(by simp only [Zpf, *,if_false]<;>rfl),(by simp only [Zpf, *,if_false]<;>rfl),(by simp only [Zpf, *,if_false]<;>rfl)⟩,(by simp only [ZI,Zo5,if_true,if_false, *]<;>rfl),(by simp only [ZI,Zo5,if_true,if_false, *]<;>rfl),(by simp only [ZI,Zo5,if_true,if_false, *]<;>rfl),(by simp only [Zpf, *,if_true]<;>rfl)⟩
    ·clear hlaw hpr hcp hst hnx z3 heq heqx;refine Ya rfl (fun _ _ _ h=>h) ?_
     (repeat' (first | (simp only [↓ZF,ZG,boolV,Zo5,Zo7,en_9, *]) | (refine ZM ?_) | (refine Zpe (haw) ?_)))
   ·simp only [vcs];clear haw hlaw heq heqx hst hnx z3
    (repeat' (first | (simp only [↓ZF,ZG,ZP,ptrV,boolV,Zo5,Zo7,Zpd,ZJ,setAt,Zo9,undef,ZbK,Zif,ZeR,ZhA,en_8,en_24,en_26,ZlM,en_25, *]) | (refine ZR mixed (fun _ _ _ _ e h=>⟨e.trans h.1,h.2⟩) _ (Zpa _) ?_) | (refine And.intro (Zph (by assumption)) ?_) | (refine ZH fun zr zh=>?_; have zg:=zh; (try simp only [Zpb] at zg)) | (exact Zpa _) | (refine Zpe (hnd) ?_) | (refine Zpe (hsm) ?_) | (refine Zpe (hpr) ?_) | (refine Zpe (hcp) ?_) | (refine Zpe (hra) ?_) | (with_reducible refine And.intro ?_ ?_)))
    all_goals rename_i r2 n2 n2' r3 n3 n3'
    all_goals exact ⟨r2,r3,zr,((Zph n2').of_set n3'.2).of_set zg.2.2,rfl,(by simp only [ZI,Zo5,if_true,if_false, *]<;>rfl),(by simp only [ZI,Zo5,if_true,if_false, *]<;>rfl),(by simp only [ZI,Zo5,if_true,if_false, *]<;>rfl),(by simp only [ZI,Zo5,if_true,if_false, *]<;>rfl),(by simp only [Zpf, *,if_true,if_false]<;>rfl),(by simp only [Zpf, *,if_true,if_false]<;>rfl),(by simp only [Zpf, *,if_true,if_false]<;>rfl)⟩
 ·rw [decide_eq_false h1] at hsm;refine ZK fd5 (by simp) ?_;delta c5 Zj Zq Zb Zo Zr Za Zh Zc Zp Zv Zi Zg Zt Zm Zw Zs Zd Zu
  (repeat' (first | (simp only [↓ZF,ZG,ZP,ptrV,boolV,Zo5,Zo7,Yb,ZJ,Zo9,undef,ZbK,Zif,en_8,en_24,en_9, *]) | (refine ZM ?_) | (refine ZH fun zr zh=>?_; have zg:=zh; (try simp only [Zpb] at zg)) | (exact Zpa _) | (refine Zpi ?_ ?_) | (refine Zpe (hnd) ?_) | (refine Zpe (hsm) ?_) | (refine Zpe (haw) ?_)))
end Go.PV.Ytglpmlbbaedbiaa
end
section
open Nat renaming beq→Zpj
namespace Go.PV
inductive EV where
 | lit (v:Value)
 | ptr (k o:Nat)
 | sl (k o n:Nat) (c:Option Nat) (d:Nat)
 | es (k o d lo s:Nat)
 | map (k:Nat)
 | isl (ex:Bool) (n:Nat) (cs:List EV)
 | iptr (cs:List EV)
 | agg (cs:List EV)
 | tuple (cs:List EV)
 | func (f:FuncId) (first cap:List EV)
 | yield (k:Nat)
 | iface (t:TypeId) (x:EV)
instance:Inhabited EV:=⟨.lit undef⟩
structure Pay where
 r:Nat
 c:Nat:=0
 fn:FuncId:=0
 ca:Code:=.skip
 cb:Code:=.skip
 t:Nat→VV:=fun _=>ZJ
abbrev Sg:=Nat→Option Pay
def Ext (σ σ':Sg):Prop:=∀ k p,σ k=some p→σ' k=some p
theorem Ext.refl (σ:Sg):Ext σ σ:=fun _ _ h=>h
theorem Ext.trans {σ σ' σ'':Sg} (h:Ext σ σ') (k:Ext σ' σ''):Ext σ σ'':=fun i p hp=>k i p (h i p hp)
mutual
def RV (σ:Sg):EV→VV→Prop
 | .lit v,x=>x=.lit v
 | .ptr k o,x=>∃ p,σ k=some p∧x=ptrV p.r o
 | .sl k o n c d,x=>∃ p,σ k=some p∧n≤c.getD p.c-d∧x=.lit (.slice (some ⟨p.r,o,none⟩) n (c.getD p.c-d))
 | .es k o d lo s,x=>∃ p,σ k=some p∧x=.lit (.slice (some ⟨p.r,if p.c-d=lo then o else o+lo * s,none⟩) 0 (p.c-d-lo))
 | .map k,x=>∃ p,σ k=some p∧x=.lit (.map (some p.r))
 | .isl ex n cs,x=>∃ ys,x=.slice ex n ys∧RVL σ cs ys
 | .iptr cs,x=>∃ ys,x=.iptr ys∧RVL σ cs ys
 | .agg cs,x=>∃ ys,x=.agg ys∧RVL σ cs ys
 | .tuple cs,x=>∃ ys,x=.tuple ys∧RVL σ cs ys
 | .func f a b,x=>∃ asg bs,x=.func (.func f) asg bs∧RVL σ a asg∧RVL σ b bs
 | .yield k,x=>∃ p,σ k=some p∧x=.lit (.func (.yield p.r) #[] #[])
 | .iface t v,x=>∃ y,x=.iface t y∧RV σ v y
def RVL (σ:Sg):List EV→List VV→Prop
 | [],ys=>ys=[]
 | v::vs,ys=>∃ y ys',ys=y::ys'∧RV σ v y∧RVL σ vs ys'
end
section
variable {σ σ':Sg}
mutual
theorem RV.mono (h:Ext σ σ'):∀ (v:EV) (x:VV),RV σ v x→RV σ' v x
 | .lit v,x,hx=>hx
 | .ptr k o,x,⟨p,hp,e⟩=>⟨p,h k p hp,e⟩
 | .sl k o n c d,x,⟨p,hp,e⟩=>⟨p,h k p hp,e⟩
 | .es k o d lo s,x,⟨p,hp,e⟩=>⟨p,h k p hp,e⟩
 | .map k,x,⟨p,hp,e⟩=>⟨p,h k p hp,e⟩
 | .isl ex n cs,x,⟨ys,e,hl⟩=>⟨ys,e,RVL.mono h cs ys hl⟩
 | .iptr cs,x,⟨ys,e,hl⟩=>⟨ys,e,RVL.mono h cs ys hl⟩
 | .agg cs,x,⟨ys,e,hl⟩=>⟨ys,e,RVL.mono h cs ys hl⟩
 | .tuple cs,x,⟨ys,e,hl⟩=>⟨ys,e,RVL.mono h cs ys hl⟩
 | .func f a b,x,⟨asg,bs,e,h1,h2⟩=>⟨asg,bs,e,RVL.mono h a asg h1,RVL.mono h b bs h2⟩
 | .yield k,x,⟨p,hp,e⟩=>⟨p,h k p hp,e⟩
 | .iface t v,x,⟨y,e,hv⟩=>⟨y,e,RV.mono h v y hv⟩
theorem RVL.mono (h:Ext σ σ'):∀ (vs:List EV) (xs:List VV),RVL σ vs xs→RVL σ' vs xs
 | [],xs,hx=>hx
 | v::vs,xs,⟨y,ys,e,h1,h2⟩=>⟨y,ys,e,RV.mono h v y h1,RVL.mono h vs ys h2⟩
end
mutual
theorem RV.fn (h:Ext σ σ'):∀ (v:EV) (x y:VV),RV σ v x→RV σ' v y→x=y
 | .lit v,x,y,hx,hy=>hx.trans hy.symm
 | .ptr k o,x,y,⟨p,hp,e⟩,⟨q,hq,e'⟩=>by rw [h k p hp] at hq; cases hq; rw [e,e']
 | .sl k o n c d,x,y,⟨p,hp,_,e⟩,⟨q,hq,_,e'⟩=>by rw [h k p hp] at hq; cases hq; rw [e,e']
 | .es k o d lo s,x,y,⟨p,hp,e⟩,⟨q,hq,e'⟩=>by rw [h k p hp] at hq; cases hq; rw [e,e']
 | .map k,x,y,⟨p,hp,e⟩,⟨q,hq,e'⟩=>by rw [h k p hp] at hq; cases hq; rw [e,e']
 | .isl ex n cs,x,y,⟨xs,e,hl⟩,⟨ys,e',hl'⟩=>by rw [e,e',RVL.fn h cs xs ys hl hl']
 | .iptr cs,x,y,⟨xs,e,hl⟩,⟨ys,e',hl'⟩=>by rw [e,e',RVL.fn h cs xs ys hl hl']
 | .agg cs,x,y,⟨xs,e,hl⟩,⟨ys,e',hl'⟩=>by rw [e,e',RVL.fn h cs xs ys hl hl']
 | .tuple cs,x,y,⟨xs,e,hl⟩,⟨ys,e',hl'⟩=>by rw [e,e',RVL.fn h cs xs ys hl hl']
 | .func f a b,x,y,⟨asg,bs,e,h1,h2⟩,⟨as',bs',e',h1',h2'⟩=>by rw [e,e',RVL.fn h a asg as' h1 h1',RVL.fn h b bs bs' h2 h2']
 | .yield k,x,y,⟨p,hp,e⟩,⟨q,hq,e'⟩=>by rw [h k p hp] at hq; cases hq; rw [e,e']
 | .iface t v,x,y,⟨a,e,hv⟩,⟨b,e',hv'⟩=>by rw [e,e',RV.fn h v a b hv hv']
theorem RVL.fn (h:Ext σ σ'):∀ (vs:List EV) (xs ys:List VV),RVL σ vs xs→RVL σ' vs ys→xs=ys
 | [],xs,ys,hx,hy=>Eq.trans (show xs=[] from hx) (show ys=[] from hy).symm
 | v::vs,xs,ys,⟨y,ys',e,h1,h2⟩,⟨z,zs',e',h1',h2'⟩=>by rw [e,e',RV.fn h v y z h1 h1',RVL.fn h vs ys' zs' h2 h2']
end
theorem RVL.length {vs:List EV}:∀ {xs:List VV},RVL σ vs xs→xs.length=vs.length:=by
 induction vs with
 | nil=>intro xs h; simp [RVL] at h; simp [h]
 | cons v vs ih =>
   intro xs h;obtain ⟨y,ys,rfl,_,h2⟩:=h;simp [ih h2]
theorem RVL.get? {vs:List EV}:∀ {xs:List VV} (i:Nat) (v:EV),RVL σ vs xs→vs[i]?=some v→∃ x,xs[i]?=some x∧RV σ v x:=by
 induction vs with
 | nil=>intro xs i v h hv; simp at hv
 | cons u us ih =>
   intro xs i v h hv;obtain ⟨y,ys,rfl,h1,h2⟩:=h;cases i with
   | zero=>simp at hv; subst hv; exact ⟨y,by simp,h1⟩
   | succ i=>simpa using ih i v h2 (by simpa using hv)
theorem RVL.append {vs us:List EV}:∀ {xs ys:List VV},RVL σ vs xs→RVL σ us ys→RVL σ (vs++us) (xs++ys):=by
 induction vs with
 | nil=>intro xs ys h1 h2; simp [RVL] at h1; subst h1; simpa using h2
 | cons v vs ih =>
   intro xs ys h1 h2;obtain ⟨y,ys',rfl,h3,h4⟩:=h1;exact ⟨y,ys'++ys,rfl,h3,ih h4 h2⟩
theorem RVL.take {vs:List EV}:∀ {xs:List VV} (n:Nat),RVL σ vs xs→RVL σ (vs.take n) (xs.take n):=by
 induction vs with
 | nil=>intro xs n h; simp [RVL] at h; subst h; simp [RVL]
 | cons v vs ih =>
   intro xs n h;obtain ⟨y,ys,rfl,h3,h4⟩:=h;cases n with
   | zero=>simp [RVL]
   | succ n=>exact ⟨y,ys.take n,by simp,h3,ih n h4⟩
theorem RVL.drop {vs:List EV}:∀ {xs:List VV} (n:Nat),RVL σ vs xs→RVL σ (vs.drop n) (xs.drop n):=by
 induction vs with
 | nil=>intro xs n h; simp [RVL] at h; subst h; simp [RVL]
 | cons v vs ih =>
   intro xs n h;obtain ⟨y,ys,rfl,h3,h4⟩:=h;cases n with
   | zero=>exact ⟨y,ys,rfl,h3,h4⟩
   | succ n=>simpa using ih n h4
theorem RVL.set {vs:List EV}:∀ {xs:List VV} (n:Nat) (v:EV) (x:VV),RVL σ vs xs→RV σ v x→RVL σ (vs.set n v) (xs.set n x):=by
 induction vs with
 | nil=>intro xs n v x h _; simp [RVL] at h; subst h; simp [RVL]
 | cons u us ih =>
   intro xs n v x h hx;obtain ⟨y,ys,rfl,h3,h4⟩:=h;cases n with
   | zero=>exact ⟨x,ys,rfl,hx,h4⟩
   | succ n=>exact ⟨y,ys.set n x,by simp,h3,ih n v x h4 hx⟩
theorem RVL.setAt {us:List EV}:∀ {ys:List VV} {vs:List EV} {xs:List VV} (o:Nat),RVL σ vs xs→RVL σ us ys→RVL σ (PV.setAt vs o us) (PV.setAt xs o ys):=by
 induction us with
 | nil=>intro ys vs xs o h1 h2; simp [RVL] at h2; subst h2; exact h1
 | cons u us ih =>
   intro ys vs xs o h1 h2;obtain ⟨y,ys',rfl,h3,h4⟩:=h2;exact ih (o+1) (h1.set o u y h3) h4
theorem RVL.lits (us:List Value):RVL σ (us.map .lit) (us.map .lit):=by
 induction us with
 | nil=>simp [RVL]
 | cons u us ih=>exact ⟨.lit u,us.map .lit,rfl,by simp [RV],ih⟩
end
def EV.cells:EV→List EV
 | .lit v=>v.cells.toList.map .lit
 | .agg cs=>cs
 | x=>[x]
def EV.one:EV→Bool
 | .lit v=>v.oneCell'
 | .agg _=>false
 | .tuple _=>false
 | _=>true
section
variable {σ:Sg}
theorem RV.cells {v:EV} {x:VV} (h:RV σ v x):RVL σ v.cells x.cells:=by
 cases v with
 | lit v=>obtain rfl:=h; exact RVL.lits _
 | ptr k o=>obtain ⟨p,hp,rfl⟩:=h; exact ⟨_,[],rfl,⟨p,hp,rfl⟩,rfl⟩
 | sl k o n c d=>obtain ⟨p,hp,hn,rfl⟩:=h; exact ⟨_,[],rfl,⟨p,hp,hn,rfl⟩,rfl⟩
 | es k o d lo s=>obtain ⟨p,hp,rfl⟩:=h; exact ⟨_,[],rfl,⟨p,hp,rfl⟩,rfl⟩
 | map k=>obtain ⟨p,hp,rfl⟩:=h; exact ⟨_,[],rfl,⟨p,hp,rfl⟩,rfl⟩
 | yield k=>obtain ⟨p,hp,rfl⟩:=h; exact ⟨_,[],rfl,⟨p,hp,rfl⟩,rfl⟩
 | isl ex n cs=>obtain ⟨ys,rfl,hl⟩:=h; exact ⟨_,[],rfl,⟨ys,rfl,hl⟩,rfl⟩
 | iptr cs=>obtain ⟨ys,rfl,hl⟩:=h; exact ⟨_,[],rfl,⟨ys,rfl,hl⟩,rfl⟩
 | agg cs=>obtain ⟨ys,rfl,hl⟩:=h; exact hl
 | tuple cs=>obtain ⟨ys,rfl,hl⟩:=h; exact ⟨_,[],rfl,⟨ys,rfl,hl⟩,rfl⟩
 | func f a b=>obtain ⟨asg,bs,rfl,h1,h2⟩:=h; exact ⟨_,[],rfl,⟨asg,bs,rfl,h1,h2⟩,rfl⟩
 | iface t v=>obtain ⟨y,rfl,hv⟩:=h; exact ⟨_,[],rfl,⟨y,rfl,hv⟩,rfl⟩
theorem RV.one {v:EV} {x:VV} (h:RV σ v x):v.one=x.one:=by
 cases v with
 | lit v=>obtain rfl:=h; rfl
 | ptr k o=>obtain ⟨p,hp,rfl⟩:=h; rfl
 | sl k o n c d=>obtain ⟨p,hp,_,rfl⟩:=h; rfl
 | es k o d lo s=>obtain ⟨p,hp,rfl⟩:=h; rfl
 | map k=>obtain ⟨p,hp,rfl⟩:=h; rfl
 | yield k=>obtain ⟨p,hp,rfl⟩:=h; rfl
 | isl ex n cs=>obtain ⟨ys,rfl,hl⟩:=h; rfl
 | iptr cs=>obtain ⟨ys,rfl,hl⟩:=h; rfl
 | agg cs=>obtain ⟨ys,rfl,hl⟩:=h; rfl
 | tuple cs=>obtain ⟨ys,rfl,hl⟩:=h; rfl
 | func f a b=>obtain ⟨asg,bs,rfl,h1,h2⟩:=h; rfl
 | iface t v=>obtain ⟨y,rfl,hv⟩:=h; rfl
theorem RVL.ones {vs:List EV}:∀ {xs:List VV},RVL σ vs xs→vs.all EV.one=xs.all VV.one:=by
 induction vs with
 | nil=>intro xs h; simp [RVL] at h; simp [h]
 | cons v vs ih =>
   intro xs h;obtain ⟨y,ys,rfl,h1,h2⟩:=h;simp [h1.one,ih h2]
end
inductive Tr (α:Type) where
 | lf
 | nd (v:Option α) (l r:Tr α)
def Tr.get {α:Type}:Tr α→Nat→Option α
 | .lf,_=>none
 | .nd v l r,k=>match k with
   | 0=>v
   | k+1=>cond (Zpj (k % 2) 0) (l.get (k / 2)) (r.get (k / 2))
def Tr.set {α:Type}:Nat→Tr α→Nat→α→Option (Tr α)
 | 0,_,_,_=>none
 | n+1,t,k,x=>match k with
   | 0=>match t with
     | .lf=>some (.nd (some x) .lf .lf)
     | .nd _ l r=>some (.nd (some x) l r)
   | k+1=>match t with
     | .lf=>cond (Zpj (k % 2) 0) (match Tr.set n .lf (k / 2) x with | some l=>some (.nd none l .lf) | none=>none) (match Tr.set n .lf (k / 2) x with | some r=>some (.nd none .lf r) | none=>none)
     | .nd v l r=>cond (Zpj (k % 2) 0) (match Tr.set n l (k / 2) x with | some l'=>some (.nd v l' r) | none=>none) (match Tr.set n r (k / 2) x with | some r'=>some (.nd v l r') | none=>none)
theorem beqF {n:Nat} (h:¬ n=0):Zpj n 0=false:=by
 cases n with
 | zero=>exact absurd rfl h
 | succ n=>rfl
theorem Tr.get_set {α:Type}:∀ (n:Nat) (t:Tr α) (k:Nat) (x:α) (t':Tr α),Tr.set n t k x=some t'→∀ j,t'.get j=if j=k then some x else t.get j
 | 0,t,k,x,t',h=>by simp [Tr.set] at h
 | n+1,t,k,x,t',h=>by
   intro j;cases k with
   | zero =>
     cases t with
     | lf =>
       simp only [Tr.set,Option.some.injEq] at h;subst h;cases j with
       | zero=>simp [Tr.get]
       | succ j=>simp [Tr.get]
     | nd v l r =>
       simp only [Tr.set,Option.some.injEq] at h;subst h;cases j with
       | zero=>simp [Tr.get]
       | succ j=>simp [Tr.get]
   | succ k =>
     have hk:∀ j,(j % 2=k % 2)→(j / 2=k / 2)→j=k:=fun j h1 h2=>by omega
     cases t with
     | lf =>
       simp only [Tr.set] at h;by_cases hp:k % 2=0
       ·simp only [hp,Nat.beq_refl,cond_true] at h;cases hs:Tr.set n .lf (k / 2) x with
        | none=>simp [hs] at h
        | some l =>
          simp only [hs,Option.some.injEq] at h;subst h;have ih:=Tr.get_set n _ _ _ _ hs;cases j with
          | zero=>simp [Tr.get]
          | succ j =>
            simp only [Tr.get,Nat.add_right_cancel_iff];by_cases hj:j % 2=0
            ·simp only [hj,Nat.beq_refl,cond_true,ih];by_cases e:j=k
             ·simp [e]
             ·have:j / 2 ≠ k / 2:=fun e'=>e (hk j (by omega) e')
              simp [e,this,Tr.get]
            ·have hb:Zpj (j % 2) 0=false:=beqF hj
             have:j ≠ k:=fun e=>hj (by rw [e,hp])
             simp [hb,this,Tr.get]
       ·have hb:Zpj (k % 2) 0=false:=beqF hp;simp only [hb,cond_false] at h;cases hs:Tr.set n .lf (k / 2) x with
        | none=>simp [hs] at h
        | some l =>
          simp only [hs,Option.some.injEq] at h;subst h;have ih:=Tr.get_set n _ _ _ _ hs;cases j with
          | zero=>simp [Tr.get]
          | succ j =>
            simp only [Tr.get,Nat.add_right_cancel_iff];by_cases hj:j % 2=0
            ·have:j ≠ k:=fun e=>hp (by rw [← e,hj])
             simp [hj,this,Tr.get]
            ·have hbj:Zpj (j % 2) 0=false:=beqF hj;simp only [hbj,cond_false,ih];by_cases e:j=k
             ·simp [e]
             ·have:j / 2 ≠ k / 2:=fun e'=>e (hk j (by omega) e')
              simp [e,this,Tr.get]
     | nd v l r =>
       simp only [Tr.set] at h;by_cases hp:k % 2=0
       ·simp only [hp,Nat.beq_refl,cond_true] at h;cases hs:Tr.set n l (k / 2) x with
        | none=>simp [hs] at h
        | some l' =>
          simp only [hs,Option.some.injEq] at h;subst h;have ih:=Tr.get_set n _ _ _ _ hs;cases j with
          | zero=>simp [Tr.get]
          | succ j =>
            simp only [Tr.get,Nat.add_right_cancel_iff];by_cases hj:j % 2=0
            ·simp only [hj,Nat.beq_refl,cond_true,ih];by_cases e:j=k
             ·simp [e]
             ·have:j / 2 ≠ k / 2:=fun e'=>e (hk j (by omega) e')
              simp [e,this]
            ·have hb:Zpj (j % 2) 0=false:=beqF hj
             have:j ≠ k:=fun e=>hj (by rw [e,hp])
             simp [hb,this]
       ·have hb:Zpj (k % 2) 0=false:=beqF hp;simp only [hb,cond_false] at h;cases hs:Tr.set n r (k / 2) x with
        | none=>simp [hs] at h
        | some l' =>
          simp only [hs,Option.some.injEq] at h;subst h;have ih:=Tr.get_set n _ _ _ _ hs;cases j with
          | zero=>simp [Tr.get]
          | succ j =>
            simp only [Tr.get,Nat.add_right_cancel_iff];by_cases hj:j % 2=0
            ·have:j ≠ k:=fun e=>hp (by rw [← e,hj])
             simp [hj,this]
            ·have hbj:Zpj (j % 2) 0=false:=beqF hj;simp only [hbj,cond_false,ih];by_cases e:j=k
             ·simp [e]
             ·have:j / 2 ≠ k / 2:=fun e'=>e (hk j (by omega) e')
              simp [e,this]
end Go.PV
end
section
open Nat renaming beq→Zpj,eq_of_beq_eq_true→Zpm,ble→Zpq,le_of_ble_eq_true→Zpr
namespace Go.PV
inductive EB where
 | cells (e:TypeId) (cs:List EV)
 | grown (e:TypeId) (s:Nat) (cs:List EV)
 | map (t:TypeId) (l:List (Value × EV))
 | loop (st:LoopState) (jump:Option (Option Nat)) (N:Nat) (t:Tr EV) (ps:Array Tmp) (asg bd:ACode) (r:Nat)
 | deferred
 | dead
def beqU:List UInt8→List UInt8→Bool
 | [],[]=>true
 | a::asg,b::bs=>cond (Zpj a.toNat b.toNat) (beqU asg bs) false
 | _,_=>false
theorem Zfk:∀ (a b:List UInt8),beqU a b=true↔a=b
 | [],[]=>by simp [beqU]
 | [],b::bs=>by simp [beqU]
 | a::asg,[]=>by simp [beqU]
 | a::asg,b::bs=>by
   simp only [beqU,List.cons.injEq];cases h:Zpj a.toNat b.toNat with
   | false =>
     have:a ≠ b:=fun e=>by rw [e,Nat.beq_refl] at h; cases h
     simp [this]
   | true =>
     have:a=b:=UInt8.toNat_inj.1 (Zpm h)
     simp [this,Zfk asg bs]
theorem toListB (a:ByteArray):a.toList=a.data.toList:=ByteArray.toList_eq a
def goodK:Value→Bool
 | .int _ _=>true
 | .string _=>true
 | .bool _=>true
 | _=>false
def Zit:List Value→Bool
 | []=>true
 | v::vs=>cond (goodK v) (Zit vs) false
def beqK:Value→Value→Bool
 | .int k a,.int k' b=>cond (decide (k=k')) (decide (a=b)) false
 | .string a,.string b=>beqU a.data.toList b.data.toList
 | .bool a,.bool b=>cond a b (!b)
 | _,_=>false
theorem Zfl {a b:Value} (ha:goodK a=true):beqK a b=true↔a=b:=by
 cases a with
 | int k n =>
   cases b<;>simp [beqK]
 | string s =>
   cases b<;>simp only [beqK]<;>try simp
   rename_i s';rw [Zfk]
   constructor
   ·intro h;cases s; cases s';simp only [ByteArray.mk.injEq];exact Array.toList_inj.1 h
   ·rintro rfl; rfl
 | bool p =>
   cases b<;>simp only [beqK]<;>try simp
   rename_i q;cases p<;>cases q<;>simp
 | _=>simp [goodK] at ha
def beqKL:List Value→List Value→Bool
 | [],[]=>true
 | a::asg,b::bs=>cond (beqK a b) (beqKL asg bs) false
 | _,_=>false
theorem ZfX:∀ {a b:List Value},Zit a=true→(beqKL a b=true↔a=b)
 | [],[],_=>by simp [beqKL]
 | [],b::bs,_=>by simp [beqKL]
 | a::asg,[],_=>by simp [beqKL]
 | a::asg,b::bs,h=>by
   simp only [Zit] at h;cases ha:goodK a with
   | false=>simp [ha] at h
   | true =>
     simp only [ha,cond_true] at h;simp only [beqKL,List.cons.injEq,← Zfl (b:=b) ha];cases hb:beqK a b with
     | false=>simp
     | true=>simp [ZfX h]
def Zfy:Value→Bool
 | .agg vs=>Zit vs.toList
 | v=>goodK v
def ZdX:Value→Value→Bool
 | .agg a,.agg b=>beqKL a.toList b.toList
 | a,b=>beqK a b
theorem Zhm {a b:Value} (h:Zfy a=true):ZdX a b=true↔a=b:=by
 cases a with
 | agg vs =>
   cases b with
   | agg us =>
     simp only [ZdX,ZfX h,Value.agg.injEq];exact ⟨fun h=>Array.toList_inj.1 h,fun h=>by rw [h]⟩
   | _=>simp [ZdX,beqK]
 | int k n=>cases b<;>simp only [ZdX]<;>exact Zfl rfl
 | string k=>cases b<;>simp only [ZdX]<;>exact Zfl rfl
 | bool k=>cases b<;>simp only [ZdX]<;>exact Zfl rfl
 | _=>simp [Zfy,goodK] at h
def lookM:List (Value × EV)→Value→Option EV
 | [],_=>none
 | (k,v)::l,q=>cond (ZdX q k) (some v) (lookM l q)
def jumpC:Option (Option Nat)→Option Code
 | none=>none
 | some none=>some .ret
 | some (some id)=>some (.exit id)
def RVo (σ:Sg):Option EV→VV→Prop
 | some v,x=>RV σ v x
 | none,x=>x=ZJ
def RM (σ:Sg) (l:List (Value × EV)) (m:Value→Option VV):Prop :=
 ∀ k,Zfy k=true→match lookM l k with
   | none=>m k=none
   | some v=>∃ x,m k=some x∧RV σ v x
def RB (P:Program) (σ:Sg) (p:Pay):EB→Blk→Prop
 | .cells e cs,B=>∃ ys,B=.cells e ys 0∧RVL σ cs ys
 | .grown e s cs,B=>∃ ys sp,B=.cells e ys sp∧RVL σ cs ys∧p.c * s=ys.length+sp∧p.c≤maxLen
 | .map t l,B=>∃ m,B=.map (Wp P t) m∧RM σ l m
 | .loop st j N t ps asg bd r,B=>∃ pe q,B=.loop st pe p.fn N p.t ps p.ca p.cb q.r∧σ r=some q∧(st ≠ .busy→pe=jumpC j)∧ZS P p.ca=asg∧ZS P p.cb=bd∧(P.funcs[p.fn]?).isSome=true∧∀ i,RVo σ (t.get i) (p.t i)
 | .deferred,B=>B=.obj (.deferred (some []))
 | .dead,_=>True
def EB.isDead:EB→Bool
 | .dead=>true
 | _=>false
def RBl (P:Program) (σ:Sg) (k:Nat) (b:EB) (H:AH):Prop:=b.isDead=true∨∃ p B,σ k=some p∧H p.r=some B∧RB P σ p b B
section
variable {P:Program} {σ σ':Sg} {H:AH}
theorem RVo.mono (h:Ext σ σ') {v:Option EV} {x:VV} (hx:RVo σ v x):RVo σ' v x:=by
 cases v with
 | none=>exact hx
 | some v=>exact RV.mono h v x hx
theorem RB.mono (h:Ext σ σ') {p:Pay} {b:EB} {B:Blk} (hb:RB P σ p b B):RB P σ' p b B:=by
 cases b with
 | cells e cs=>obtain ⟨ys,e1,h1⟩:=hb; exact ⟨ys,e1,RVL.mono h _ _ h1⟩
 | grown e s cs=>obtain ⟨ys,sp,e1,h1,h2⟩:=hb; exact ⟨ys,sp,e1,RVL.mono h _ _ h1,h2⟩
 | map t l =>
   obtain ⟨m,e1,h1⟩:=hb;refine ⟨m,e1,fun k hk=>?_⟩
   have:=h1 k hk
   split
   ·rename_i e; rw [e] at this; exact this
   ·rename_i v e; rw [e] at this; obtain ⟨x,g1,g2⟩:=this; exact ⟨x,g1,RV.mono h _ _ g2⟩
 | loop st j N t ps asg bd r =>
   obtain ⟨pe,q,e1,h1,h2,h3,h4,h5,h6⟩:=hb;exact ⟨pe,q,e1,h _ _ h1,h2,h3,h4,h5,fun i=>(h6 i).mono h⟩
 | deferred=>exact hb
 | dead=>trivial
theorem RBl.mono (h:Ext σ σ') {k:Nat} {b:EB} (hb:RBl P σ k b H):RBl P σ' k b H:=by
 rcases hb with hb | ⟨p,B,h1,h2,h3⟩
 ·exact .inl hb
 ·exact .inr ⟨p,B,h _ _ h1,h2,h3.mono h⟩
theorem RB.fn (h:Ext σ σ') {p:Pay} {b:EB} {B B':Blk} (hc:(∃ e cs,b=.cells e cs)∨∃ e s cs,b=.grown e s cs) (hb:RB P σ p b B) (hb':RB P σ' p b B'):B=B':=by
 rcases hc with ⟨e,cs,rfl⟩ | ⟨e,s,cs,rfl⟩
 ·obtain ⟨ys,rfl,h1⟩:=hb;obtain ⟨zs,rfl,h2⟩:=hb';rw [RVL.fn h _ _ _ h1 h2]
 ·obtain ⟨ys,sp,rfl,h1,h3,_⟩:=hb;obtain ⟨zs,sp',rfl,h2,h4,_⟩:=hb';obtain rfl:=RVL.fn h _ _ _ h1 h2
  have:sp=sp':=by omega
  rw [this]
end
def ldE (n:Nat) (ag:Bool) (cs:List EV):Option EV:=cond ag (cond (Zpq n cs.length) (some (.agg (cs.take n))) none) (match cs with | c::_=>some c | []=>none)
def partE (off n:Nat) (ag:Bool) (cs:List EV):Option EV:=cond ag (cond (Zpq (off+n) cs.length) (some (.agg ((cs.drop off).take n))) none) (match cs.drop off with | c::_=>some c | []=>none)
def fillE (pl:Nat→Option (Nat × Nat)) (cs:List EV):List (Nat × EV)→Option (List EV)
 | []=>some cs
 | (i,x)::rest =>
   match pl i with
   | none=>none
   | some (off,size)=>cond (cond (Zpj x.cells.length size) (Zpq (off+size) cs.length) false) (fillE pl (setAt cs off x.cells) rest) none
def RVP (σ:Sg):List (Nat × EV)→List (Nat × VV)→Prop
 | [],xs=>xs=[]
 | (i,v)::vs,xs=>∃ x xs',xs=(i,x)::xs'∧RV σ v x∧RVP σ vs xs'
section
variable {P:Program} {σ:Sg} {H:AH}
theorem ZbH {n:Nat} {ag:Bool} {cs:List EV} {ys:List VV} {v:EV} (hl:RVL σ cs ys) (h:ldE n ag cs=some v):∃ x,ldV n ag ys=some x∧RV σ v x:=by
 cases ag with
 | true =>
   simp only [ldE,cond_true] at h;cases hb:Zpq n cs.length with
   | false=>simp [hb] at h
   | true =>
     simp only [hb,cond_true,Option.some.injEq] at h;subst h
     have:n≤ys.length:=by rw [hl.length]; exact Zpr hb
     exact ⟨.agg (ys.take n),by simp [ldV,this],_,rfl,hl.take n⟩
 | false =>
   simp only [ldE,cond_false] at h;cases cs with
   | nil=>simp at h
   | cons c cs =>
     simp only [Option.some.injEq] at h;subst h;obtain ⟨y,ys',rfl,h1,_⟩:=hl;exact ⟨y,by simp [ldV],h1⟩
theorem Zga {off n:Nat} {ag:Bool} {cs:List EV} {ys:List VV} {v:EV} (hl:RVL σ cs ys) (h:partE off n ag cs=some v):∃ x,partV off n ag ys=some x∧RV σ v x:=by
 cases ag with
 | true =>
   simp only [partE,cond_true] at h;cases hb:Zpq (off+n) cs.length with
   | false=>simp [hb] at h
   | true =>
     simp only [hb,cond_true,Option.some.injEq] at h;subst h
     have:off+n≤ys.length:=by rw [hl.length]; exact Zpr hb
     exact ⟨.agg ((ys.drop off).take n),by simp [partV,this],_,rfl,(hl.drop off).take n⟩
 | false =>
   simp only [partE,cond_false] at h;have hd:=hl.drop off;cases hc:cs.drop off with
   | nil=>simp [hc] at h
   | cons c cs' =>
     simp only [hc,Option.some.injEq] at h;subst h;rw [hc] at hd;obtain ⟨y,ys',e,h1,_⟩:=hd;refine ⟨y,?_,h1⟩
     have:ys[off]?=some y:=by
      have:=List.getElem?_drop (xs:=ys) (i:=off) (j:=0)
      rw [e] at this;simpa using this.symm
     simp [partV,this]
theorem ZcL {pl:Nat→Option (Nat × Nat)}:∀ {ps:List (Nat × EV)} {us:List (Nat × VV)} {cs ds:List EV} {ys:List VV},RVP σ ps us→RVL σ cs ys→fillE pl cs ps=some ds→∃ zs,fillV pl ys us=some zs∧RVL σ ds zs
 | [],us,cs,ds,ys,hp,hl,h=>by
   simp only [RVP] at hp;subst hp;simp only [fillE,Option.some.injEq] at h;subst h;exact ⟨ys,rfl,hl⟩
 | (i,v)::ps,us,cs,ds,ys,hp,hl,h=>by
   obtain ⟨x,us',rfl,h1,h2⟩:=hp;simp only [fillE] at h;cases hpl:pl i with
   | none=>simp [hpl] at h
   | some q =>
     obtain ⟨off,size⟩:=q;simp only [hpl] at h;cases hb1:Zpj v.cells.length size with
     | false=>simp [hb1] at h
     | true =>
       cases hb2:Zpq (off+size) cs.length with
       | false=>simp [hb1,hb2] at h
       | true =>
         simp only [hb1,hb2,cond_true] at h;obtain ⟨zs,g1,g2⟩:=ZcL h2 (hl.setAt off h1.cells) h;refine ⟨zs,?_,g2⟩;have e1:x.cells.length=size:=by rw [h1.cells.length]; exact Zpm hb1
         have e2:off+size≤ys.length:=by rw [hl.length]; exact Zpr hb2
         simp only [fillV,hpl,e1,e2,and_self,if_true];exact g1
theorem RVP.map {ev:Operand→EV} {f:Operand→VV} (h:∀ o,RV σ (ev o) (f o)):∀ (l:List (Nat × Operand)),RVP σ (l.map fun p=>(p.1,ev p.2)) (l.map fun p=>(p.1,f p.2))
 | []=>rfl
 | p::l=>⟨f p.2,_,rfl,h p.2,RVP.map h l⟩
theorem RVL.map {ev:Operand→EV} {f:Operand→VV} (h:∀ o,RV σ (ev o) (f o)):∀ (l:List Operand),RVL σ (l.map ev) (l.map f)
 | []=>rfl
 | p::l=>⟨f p,_,rfl,h p,RVL.map h l⟩
end
end Go.PV
end
