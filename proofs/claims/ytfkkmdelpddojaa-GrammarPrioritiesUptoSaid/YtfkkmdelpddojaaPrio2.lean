/- Part 2 of 10 of what the proof of Prio needs. -/
import Derived.Test.YtfkkmdelpddojaaPrio1
set_option linter.unusedVariables false
set_option linter.unusedSimpArgs false
set_option linter.defProp false
section
open Bool renaming and_eq_true→ZmA
open List renaming cons_append→Zm5,nil_append→ZmO
open Option renaming map_eq_some_iff→Znc,map_none→Zna
namespace Go.PV
def RQ (K:VE→AH→Prop) (S:Nat→Prop) (H:AH) (w:World):Ending→World→Prop
 | .returned v,w'=>∃ S' H' x,Step S H w S' H' w'∧Sim S' H' w'∧Rv S' w' x v∧K (.ret x) H'
 | .panicked ch,w'=>∃ S' H',Step S H w S' H' w'∧Sim S' H' w'∧K (.pan ch) H'
 | .outgrown,_=>False
def ZO (P:Program) (f:FuncId) (xs:List VV) (H:AH) (K:VE→AH→Prop):Prop :=
 ∀ S w (args:Array Value),Sim S H w→RvL S w xs args.toList→CallsIn (Xy P none) 0 P f args w (RQ K S H w)
def Zb4 (ro:Option Nat) (P:Program) (f:Value) (args:Array Value) (w:World) (R:Ending→World→Prop):Prop :=
 (∀ d w',(Deferred.ofValue f args).run P w=.ok d w'→∀ f',d.target.leads P w' d.args=some f'→(P.funcs[f']?).isSome=true) ∧
 match (do let d ← Deferred.ofValue f args; invoke d.target d.args:Sem Next).run P w with
 | .ok (.enter g asg) w'=>CallsIn (Xy P ro) 0 P g asg w' R
 | .ok (.round l g ts asg body) w'=>RoundIn (Xy P ro) 0 P l g ts asg body w' R
 | _=>False
def ACall (P:Program) (ro:Option Nat) (fv:VV) (xs:List VV) (H:AH) (K:VE→AH→Prop):Prop :=
 ∀ S w f (args:Array Value),Sim S H w→Rv S w fv f→RvL S w xs args.toList→Zb4 ro P f args w (RQ K S H w)
def Zz (P:Program) (f:FuncId):Bool :=
 match P.funcs[f]? with
 | some fn=>fn.name != "runtime.NumGoroutine" && fn.body.isSome
 | none=>false
section
variable {P:Program} {S S':Nat→Prop} {H H':AH} {w w':World} {K K':VE→AH→Prop}
theorem RQ.mono (h:∀ e H,K e H→K' e H) {e:Ending} {w':World} (hq:RQ K S H w e w'):RQ K' S H w e w':=by
 cases e with
 | returned v=>obtain ⟨S',H',x,h1,h2,h3,h4⟩:=hq; exact ⟨S',H',x,h1,h2,h3,h _ _ h4⟩
 | panicked ch=>obtain ⟨S',H',h1,h2,h4⟩:=hq; exact ⟨S',H',h1,h2,h _ _ h4⟩
 | outgrown=>exact hq
theorem RQ.lift (k:Step S H w S' H' w') {e:Ending} {w'':World} (hq:RQ K S' H' w' e w''):RQ K S H w e w'':=by
 cases e with
 | returned v=>obtain ⟨S1,H1,x,h1,h2,h3,h4⟩:=hq; exact ⟨S1,H1,x,k.trans h1,h2,h3,h4⟩
 | panicked ch=>obtain ⟨S1,H1,h1,h2,h4⟩:=hq; exact ⟨S1,H1,k.trans h1,h2,h4⟩
 | outgrown=>exact hq
theorem ZO.mono {f:FuncId} {xs:List VV} (hc:ZO P f xs H K) (h:∀ e H,K e H→K' e H):ZO P f xs H K' :=
 fun S w args hs hx=>(hc S w args hs hx).mono fun _ _ hq=>hq.mono h
theorem Jt {ro:Option Nat} {f:FuncId} {args:Array Value} {R:Ending→World→Prop}:CallsIn (Xy P ro) 0 P f args w R↔CallsIn (Xy P none) 0 P f args w R:=Iff.rfl
theorem We {f:FuncId} (h:Zz P f=true):(P.funcs[f]?).isSome=true:=by
 unfold Zz at h;split at h
 ·rename_i fn hf; rw [hf]; rfl
 ·cases h
theorem Jv {f:FuncId} (h:Zz P f=true) (args:Array Value) (w:World):(callFunc f args).run P w=.ok (.enter f args) w:=by
 unfold Zz at h;split at h
 ·rename_i fn hf;simp only [ZmA,bne_iff_ne,ne_eq] at h;obtain ⟨h1,h2⟩:=h;have h3:fn.body.isNone=false:=by cases hb:fn.body<;>simp_all
  simp only [callFunc,Sem.run_bind,run_program,Result.andThen_ok,hf];rw [if_neg (by simpa using h1),if_neg (by simp [h3])];rfl
 ·cases h
theorem Zjt {ro:Option Nat} {fv:VV} {g:FuncId} {first cap:List VV} {xs:List VV} (hfv:fv=.func (.func g) first cap) (he:Zz P g=true) (h:ZO P g (first++xs++cap) H K) :
 ACall P ro fv xs H K:=by
 subst hfv;intro S w f args hs hf hx;obtain ⟨f',c',rfl,h1,h2⟩:=hf;refine ⟨fun d w' hd f' hl=>?_,?_⟩
 ·simp only [Deferred.ofValue,Sem.run_pure,Result.ok.injEq] at hd;obtain ⟨rfl,rfl⟩:=hd;cases hl;exact We he
 simp only [Deferred.ofValue,invoke,Sem.run_bind,Sem.run_pure,Result.andThen_ok,Jv he];exact Jt.2 (h S w _ hs (by simpa using (h1.append hx).append h2))
theorem Zlf {ro:Option Nat} {fv:VV} {g:FuncId} {first cap:Array Value} {xs:List VV} (hfv:fv=.lit (.func (.func g) first cap)) (he:Zz P g=true) (h:ZO P g (first.toList.map .lit++xs++cap.toList.map .lit) H K) :
 ACall P ro fv xs H K:=by
 subst hfv;intro S w f args hs hf hx;obtain rfl:=hf;refine ⟨fun d w' hd f' hl=>?_,?_⟩
 ·simp only [Deferred.ofValue,Sem.run_pure,Result.ok.injEq] at hd;obtain ⟨rfl,rfl⟩:=hd;cases hl;exact We he
 simp only [Deferred.ofValue,invoke,Sem.run_bind,Sem.run_pure,Result.andThen_ok,Jv he];exact Jt.2 (h S w _ hs (by simpa using ((RvL.lits _).append hx).append (RvL.lits _)))
end
def valOf:VV→Option Value
 | .lit v=>some v
 | .agg cs=>(Xl (.agg cs)).map fun vs=>.agg vs.toArray
 | .iface t (.lit v)=>some (.iface t v)
 | .iface t (.agg cs)=>(Xl (.agg cs)).map fun vs=>.iface t (.agg vs.toArray)
 | .func fn first cap=>(Xl (.agg first)).bind fun f=>(Xl (.agg cap)).map fun c=>.func fn f.toArray c.toArray
 | _=>none
theorem Zd5 {S:Nat→Prop} {w:World} {cs:List VV} {vs us:List Value} (h:Xl (.agg cs)=some vs) (hl:RvL S w cs us):us=vs:=by
 have:=Wd (u:=.agg us.toArray) h ⟨us.toArray,rfl,by simpa using hl⟩
 simpa using this
theorem Ze8 {S:Nat→Prop} {w:World} {x:VV} {v u:Value} (h:valOf x=some v) (hx:Rv S w x u):u=v:=by
 unfold valOf at h;split at h
 ·cases h; exact hx
 ·simp only [Znc] at h;obtain ⟨vs,h1,rfl⟩:=h;exact Wd h1 hx
 ·cases h;obtain ⟨y,rfl,hy⟩:=hx;obtain rfl:=hy;rfl
 ·simp only [Znc] at h;obtain ⟨vs,h1,rfl⟩:=h;obtain ⟨y,rfl,hy⟩:=hx;rw [Wd h1 hy]
 ·simp only [Option.bind_eq_some_iff,Znc] at h;obtain ⟨f,h1,c,h2,rfl⟩:=h;obtain ⟨f',c',rfl,g1,g2⟩:=hx;have e1:=Zd5 h1 g1;have e2:=Zd5 h2 g2;rw [← e1,← e2]
 ·cases h
def YM (P:Program) (b:Builtin) (ts:List TypeId) (xs:List VV) (H:AH) (K:VE→AH→Prop):Prop :=
 match b,ts,xs with
 | .len,[t],[x]=>vcLen P t x H K
 | .append,[t,t'],[s,x]=>if t=t' then (ZfO P t s x H K∨Zd2 P t s x H K∨Zd3 P t s x H K) else Zd4 P t t' s x H K
 | .cap,[t],[x]=>vcCap P t x H K
 | .copy,[t,_],[d,x]=>ZeT P t d x H K
 | .clear,[t],[x]=>Zct P t x H K
 | .max,_,xs=>vcMax xs H K
 | .min,_,xs=>vcMin xs H K
 | _,_,_=>False
def WS (P:Program) (ro:Option Nat) (f:VV) (xs:List VV) (H:AH) (K:VE→AH→Prop):Prop :=
 match f with
 | .lit (.func (.func g) first cap)=>Zz P g=true∧ZO P g (first.toList.map .lit++xs++cap.toList.map .lit) H K
 | .func (.func g) first cap=>Zz P g=true∧ZO P g (first++xs++cap) H K
 | f=>ACall P ro f xs H K
def ZkB (P:Program) (ro:Option Nat) (x:VV) (m:String) (xs:List VV) (H:AH) (K:VE→AH→Prop):Prop :=
 ∃ g y,Zz P g=true∧ZO P g (y::xs) H K∧∀ S w u,Rv S w x u→∃ v,Rv S w y v∧∃ t z,u=.iface t z∧(method (P.types.size+Made.depth) t z m).run P w=.ok (g,v) w
def vcOp (cx:Cx) (op:Op) (A:AF) (H:AH) (K:VE→AH→Prop):Prop :=
 match op with
 | .move x=>K (.ret (A.eval x)) H
 | .assign x=>K (.ret (A.eval x)) H
 | .pick c a b=>(match A.eval c with | .lit (.bool t)=>K (.ret (if t then A.eval a else A.eval b)) H | _=>False)
 | .alloc e=>ZaM cx.P e H K
 | .box e x=>vcBox e (A.eval x) H K
 | .build t ps=>ZT cx.P t (ps.toList.map fun p=>(p.1,A.eval p.2)) H K
 | .buildSlice t len ps=>ZB cx.P t len (ps.toList.map fun p=>(p.1,A.eval p.2)) H K
 | .load t a=>Wa cx.P t (A.eval a) H K
 | .store t a v=>Jo cx.P t (A.eval a) (A.eval v) H K
 | .nilCheck x=>vcNil (A.eval x) H K
 | .binOp op t x y _=>vcBin cx.P op t x y (A.eval x) (A.eval y) H K
 | .unOp op _ x=>vcUn op (A.eval x) H K
 | .convert s d x=>Zai cx.P s d (A.eval x) H K
 | .makeInterface t x=>Ze7 cx.P t (A.eval x) H K
 | .makeFunc fn first cap=>K (.ret (.func fn (first.toList.map A.eval) (cap.toList.map A.eval))) H
 | .makeMap t none=>ZaW cx.P t H K
 | .makeSlice t l c=>Zcq cx.P t (A.eval l) (A.eval c) H K
 | .slice t x lo hi mx=>Xx cx.P t (A.eval x) (lo.map A.eval) (hi.map A.eval) (mx.map A.eval) H K
 | .fieldAddr s x f=>YF cx.P s (A.eval x) f H K
 | .field s x f=>JT cx.P s (A.eval x) f H K
 | .indexAddr t x i=>Yu cx.P t (A.eval x) (A.eval i) H K
 | .lookup t m k ok=>XP cx.P t (A.eval m) (A.eval k) ok H K
 | .mapUpdate t m k v=>XY cx.P t (A.eval m) (A.eval k) (A.eval v) H K
 | .insert t m k v=>XY cx.P t (A.eval m) (A.eval k) (A.eval v) H K
 | .typeAssert x _ t ok=>Za7 cx.P (A.eval x) t ok H K
 | .extract x i=>Yw (A.eval x) i H K
 | .panic x=>(match valOf (A.eval x) with | some (.iface t v)=>K (.pan [{ v:=.iface t v,recovered:=false }]) H | _=>False)
 | .call { callee:=.builtin b,args,argTypes }=>YM cx.P b argTypes.toList (args.toList.map A.eval) H K
 | .call { callee:=.value f,args,.. }=>WS cx.P cx.ro (A.eval f) (args.toList.map A.eval) H K
 | .call { callee:=.invoke x m,args,.. }=>ZkB cx.P cx.ro (A.eval x) m (args.toList.map A.eval) H K
 | .index t x i=>Zcr cx.P t (A.eval x) (A.eval i) H K
 | .range t x=>Zbx cx.P t (A.eval x) H K
 | .next x false=>ZaG (A.eval x) H K
 | .entry x=>Zat (A.eval x) H K
 | .mapEntry t m k=>JC cx.P t (A.eval m) (A.eval k) H K
 | .entryStore _ m s v=>XD (A.eval m) (A.eval s) (A.eval v) H K
 | _=>False
def AO (cx:Cx) (o:Oper) (A:AF) (H:AH) (K:VE→AH→Prop):Prop :=
 ∀ S w a,Sim S H w→RvF cx.N S w A a→∀ (next:Act→World→Prop) (Q:Exit→Act→World→Prop),
   (∀ S' H' x u w',Step S H w S' H' w'→Sim S' H' w'→Rv S' w' x u→K (.ret x) H'→next (a.put o.dst u) w') →
   (∀ S' H' ch w',Step S H w S' H' w'→Sim S' H' w'→K (.pan ch) H'→Q (.panic ch) a w') →
   o.uponIn (Xy cx.P cx.ro) 0 cx.P a next Q ((o.semAt cx.ro a.eval).run cx.P w)
section
variable {cx:Cx} {A:AF} {H:AH} {K:VE→AH→Prop}
theorem YI {o:Oper} (hd:∀ c,o.op ≠ .defer c) (h:∀ S w a,Sim S H w→RvF cx.N S w A a→∃ s:Sem Value,execOp a.eval o=(do pure (.value (← s)))∧Res S H w K (s.run cx.P w)):AO cx o A H K:=by
 intro S w a hs hf next Q h1 h2;obtain ⟨s,he,S',H',x,u,w',hr,g1,g2,g3,g4⟩:=h S w a hs hf;rw [Oper.semAt_eq _ _ _ hd,he];simp only [Sem.run_bind,hr,Result.andThen_ok,Sem.run_pure,Oper.uponIn];exact h1 S' H' x u w' g1 g2 g3 g4
theorem Ze9 {o:Oper} (hd:∀ c,o.op ≠ .defer c) (h:∀ S w a,Sim S H w→RvF cx.N S w A a→∃ s:Sem Unit,execOp a.eval o=(do s; pure .skip)∧∃ S' H' w',s.run cx.P w=.ok () w'∧Step S H w S' H' w'∧Sim S' H' w'∧K (.ret Zx) H'):AO cx o A H K:=by
 intro S w a hs hf next Q h1 h2;obtain ⟨s,he,S',H',w',hr,g1,g2,g4⟩:=h S w a hs hf;rw [Oper.semAt_eq _ _ _ hd,he];simp only [Sem.run_bind,hr,Result.andThen_ok,Sem.run_pure,Oper.uponIn];exact h1 S' H' Zx undef w' g1 g2 rfl g4
theorem RvO.of_map {N:Nat} {S:Nat→Prop} {w:World} {A:AF} {a:Act} (h:RvF N S w A a) (x:Option Operand):RvO S w (x.map A.eval) (x.map a.eval):=by
 cases x with
 | none=>rfl
 | some x=>exact ⟨_,rfl,h.eval x⟩
theorem RvL.of_map {N:Nat} {S:Nat→Prop} {w:World} {A:AF} {a:Act} (h:RvF N S w A a):∀ (xs:List Operand),RvL S w (xs.map A.eval) (xs.map a.eval)
 | []=>by simp [RvL]
 | x::xs=>⟨_,_,rfl,h.eval x,RvL.of_map h xs⟩
def nilFree:Value→Bool
 | .pointer none=>false
 | .nilIface=>false
 | .nilFunc=>false
 | .func (.method _) _ _=>false
 | _=>true
theorem Zet {x:VV} {u:Value} {S:Nat→Prop} {w:World} (h:vcNil x H K) (hs:Sim S H w) (hx:Rv S w x u) :
 nilFree u=true∧K (.ret x) H:=by
 unfold vcNil at h;split at h
 ·obtain ⟨r,o,rfl,_⟩:=hx; exact ⟨rfl,h⟩
 ·obtain rfl:=hx; exact ⟨rfl,h⟩
 ·obtain rfl:=hx; exact ⟨rfl,h⟩
 ·obtain rfl:=hx; exact ⟨rfl,h⟩
 ·obtain ⟨f,c,rfl,_⟩:=hx; exact ⟨rfl,h⟩
 ·exact h.elim
theorem ZeP {b:Builtin} {ts:Array TypeId} {ty:TypeId} {cs:Array Bool} {xs:List VV} {us:Array Value} {S:Nat→Prop} {w:World} (h:YM cx.P b ts.toList xs H K) (hs:Sim S H w) (hx:RvL S w xs us.toList) :
 ∃ s:Sem Value,builtin b ts ty cs us=(do pure (.value (← s)))∧Res S H w K (s.run cx.P w):=by
 unfold YM at h;split at h
 ·rename_i t x e;obtain ⟨u,hu,hxu⟩:=hx.one1;have e1:ts=#[t]:=by apply Array.ext'; simpa using e
  have e2:us=#[u]:=by apply Array.ext'; simpa using hu
  subst e1 e2;exact ⟨_,rfl,Zip h hs hxu⟩
 ·rename_i t t' s x e;obtain ⟨u,v,hu,hsu,hxv⟩:=hx.two;have e1:ts=#[t,t']:=by apply Array.ext'; simpa using e
  have e2:us=#[u,v]:=by apply Array.ext'; simpa using hu
  subst e1 e2;split at h
  ·rename_i ett;subst ett;rcases h with h | h | h
   ·exact ⟨_,rfl,Ze2 h hs hsu hxv⟩
   ·exact ⟨_,rfl,ZeL h hs hsu hxv⟩
   ·exact ⟨_,rfl,ZeM h hs hsu hxv⟩
  ·exact ⟨_,rfl,ZeN h hs hsu hxv⟩
 ·rename_i t x e;obtain ⟨u,hu,hxu⟩:=hx.one1;have e1:ts=#[t]:=by apply Array.ext'; simpa using e
  have e2:us=#[u]:=by apply Array.ext'; simpa using hu
  subst e1 e2;exact ⟨_,rfl,Zis h hs hxu⟩
 ·rename_i t t' s x e;obtain ⟨u,v,hu,hsu,hxv⟩:=hx.two;have e1:ts=#[t,t']:=by apply Array.ext'; simpa using e
  have e2:us=#[u,v]:=by apply Array.ext'; simpa using hu
  subst e1 e2;exact ⟨_,rfl,Zhl h hs hsu hxv⟩
 ·rename_i t x e;obtain ⟨u,hu,hxu⟩:=hx.one1;have e1:ts=#[t]:=by apply Array.ext'; simpa using e
  have e2:us=#[u]:=by apply Array.ext'; simpa using hu
  subst e1 e2;exact ⟨_,rfl,Zgh h hs hxu⟩
 ·exact ⟨_,rfl,Ziq h hs hx⟩
 ·exact ⟨_,rfl,Zir h hs hx⟩
 ·exact h.elim
theorem ZeQ {o:Oper} {a:Act} {f:Value} {args:Array Value} {w:World} {R:Ending→World→Prop} {next:Act→World→Prop} {Q:Exit→Act→World→Prop}
 (hc:Zb4 cx.ro cx.P f args w R) (he:execOp a.eval o=(do let d ← Deferred.ofValue f args; invoke d.target d.args)) (hd:∀ c,o.op ≠ .defer c)
 (h1:∀ v w',R (.returned v) w'→next (a.put o.dst v) w') (h2:∀ ch w',R (.panicked ch) w'→Q (.panic ch) a w') (h3:∀ w',¬ R .outgrown w') :
 o.uponIn (Xy cx.P cx.ro) 0 cx.P a next Q ((o.semAt cx.ro a.eval).run cx.P w):=by
 rw [Oper.semAt_eq _ _ _ hd,he];unfold Zb4 at hc;replace hc:=hc.2;split at hc
 ·rename_i g asg w' hr;rw [hr];refine ⟨fun h=>(by cases h),CallsIn.mono hc ?_⟩;intro e w'' hq;cases e with
  | returned v=>exact h1 v w'' hq
  | panicked ch=>exact h2 ch w'' hq
  | outgrown=>exact absurd hq (h3 w'')
 ·rename_i l g ts asg body w' hr;rw [hr];refine ⟨fun h=>(by cases h),RoundIn.mono hc ?_⟩;intro e w'' hq;cases e with
  | returned v=>exact h1 v w'' hq
  | panicked ch=>exact h2 ch w'' hq
  | outgrown=>exact absurd hq (h3 w'')
 ·exact hc.elim
theorem ao_call {o:Oper} {f:Operand} {args:Array Operand} {ats:Array TypeId} (ho:o.op=.call { callee:=.value f,args,argTypes:=ats }) (h:ACall cx.P cx.ro (A.eval f) (args.toList.map A.eval) H K):AO cx o A H K:=by
 intro S w a hs hf next Q h1 h2;have hx:RvL S w (args.toList.map A.eval) (args.map a.eval).toList:=by simpa using RvL.of_map hf args.toList
 refine ZeQ (h S w (a.eval f) (args.map a.eval) hs (hf.eval f) hx) (by simp only [execOp,ho,resolve]) (by simp [ho]) ?_ ?_ (fun _ h=>h)
 ·rintro v w' ⟨S',H',x,g1,g2,g3,g4⟩; exact h1 S' H' x v w' g1 g2 g3 g4
 ·rintro ch w' ⟨S',H',g1,g2,g4⟩; exact h2 S' H' ch w' g1 g2 g4
theorem Zdc {f:VV} {xs:List VV} (h:WS cx.P cx.ro f xs H K):ACall cx.P cx.ro f xs H K:=by
 unfold WS at h;split at h
 ·exact Zlf rfl h.1 h.2
 ·exact Zjt rfl h.1 h.2
 ·exact h
theorem Zju {o:Oper} (h:vcOp cx o.op A H K):AO cx o A H K:=by
 unfold vcOp at h;split at h
 case h_1 x ho=>exact YI (by simp [ho]) fun S w a hs hf=>⟨pure (a.eval x),by simp [execOp,ho],.same hs rfl (hf.eval x) h⟩
 case h_2 x ho=>exact YI (by simp [ho]) fun S w a hs hf=>⟨pure (a.eval x),by simp [execOp,ho],.same hs rfl (hf.eval x) h⟩
 case h_3 c x y ho =>
  split at h
  ·rename_i t ht;refine YI (by simp [ho]) fun S w a hs hf=>⟨pure (if t then a.eval x else a.eval y),?_,.same hs rfl ?_ h⟩
   ·have:=hf.eval c
    rw [ht] at this;have e:a.eval c=.bool t:=this;simp [execOp,ho,e,asBool]
   ·cases t
    ·exact hf.eval y
    ·exact hf.eval x
  ·exact h.elim
 case h_4 e ho=>exact YI (by simp [ho]) fun S w a hs hf=>⟨_,by simp only [execOp,ho],Zgc h hs⟩
 case h_5 e x ho=>exact YI (by simp [ho]) fun S w a hs hf=>⟨_,by simp only [execOp,ho],Zio h hs (hf.eval x)⟩
 case h_6 t ps ho=>exact YI (by simp [ho]) fun S w a hs hf=>⟨Instr.build t (ps.map fun p=>(p.1,a.eval p.2)),by simp only [execOp,ho],Zgd h hs (by simpa using RvP.of_map (fun x=>hf.eval x) ps.toList)⟩
 case h_7 t len ps ho=>exact YI (by simp [ho]) fun S w a hs hf=>⟨Instr.buildSlice t len (ps.map fun p=>(p.1,a.eval p.2)),by simp only [execOp,ho],ZcP h hs (by simpa using RvP.of_map (fun x=>hf.eval x) ps.toList)⟩
 case h_8 t x ho=>exact YI (by simp [ho]) fun S w a hs hf=>⟨_,by simp only [execOp,ho],Zhi h hs (hf.eval x)⟩
 case h_9 t x y ho=>exact Ze9 (by simp [ho]) fun S w a hs hf=>⟨_,by simp only [execOp,ho],Zf9 h hs (hf.eval x) (hf.eval y)⟩
 case h_10 x ho =>
  refine YI (by simp [ho]) fun S w a hs hf=>⟨pure (a.eval x),?_,.same hs rfl (hf.eval x) (Zet h hs (hf.eval x)).2⟩
  have h1:=(Zet h hs (hf.eval x)).1;simp only [execOp,ho];generalize a.eval x=u at h1;cases u with
  | pointer p=>cases p<;>first | (cases h1; done) | simp
  | func fn f c=>cases fn<;>first | (cases h1; done) | simp
  | nilFunc=>cases h1
  | nilIface=>cases h1
  | _=>simp
 case h_11 op t x y _ ho=>exact YI (by simp [ho]) fun S w a hs hf=>⟨_,by simp only [execOp,ho],Zin h hs (hf.eval x) (hf.eval y)⟩
 case h_12 op _ x ho=>exact YI (by simp [ho]) fun S w a hs hf=>⟨_,by simp only [execOp,ho],Zjs h hs (hf.eval x)⟩
 case h_13 s d x ho=>exact YI (by simp [ho]) fun S w a hs hf=>⟨_,by simp only [execOp,ho],Zhj h hs (hf.eval x)⟩
 case h_14 t x ho=>exact YI (by simp [ho]) fun S w a hs hf=>⟨_,by simp only [execOp,ho],Zgg h hs (hf.eval x)⟩
 case h_15 fn first cap ho =>
  refine YI (by simp [ho]) fun S w a hs hf=>⟨Instr.makeFunc fn (first.map a.eval) (cap.map a.eval),by simp only [execOp,ho],.same (x:=.func fn (first.toList.map A.eval) (cap.toList.map A.eval)) (u:=.func fn (first.map a.eval) (cap.map a.eval)) hs (by simp [Instr.makeFunc]) ⟨_,_,rfl,?_,?_⟩ h⟩
  ·simpa using RvL.of_map hf first.toList
  ·simpa using RvL.of_map hf cap.toList
 case h_16 t ho=>exact YI (by simp [ho]) fun S w a hs hf=>⟨_,by simp only [execOp,ho,Zna],ZeK h hs⟩
 case h_17 t l c ho=>exact YI (by simp [ho]) fun S w a hs hf=>⟨_,by simp only [execOp,ho],Zhk h hs (hf.eval l) (hf.eval c)⟩
 case h_18 t x lo hi mx ho=>exact YI (by simp [ho]) fun S w a hs hf=>⟨_,by simp only [execOp,ho],Zge h hs (hf.eval x) (RvO.of_map hf lo) (RvO.of_map hf hi) (RvO.of_map hf mx)⟩
 case h_19 s x f ho=>exact YI (by simp [ho]) fun S w a hs hf=>⟨_,by simp only [execOp,ho],Zc6 h hs (hf.eval x)⟩
 case h_20 s x f ho=>exact YI (by simp [ho]) fun S w a hs hf=>⟨_,by simp only [execOp,ho],Zga h hs (hf.eval x)⟩
 case h_21 t x i ho=>exact YI (by simp [ho]) fun S w a hs hf=>⟨_,by simp only [execOp,ho],Zc7 h hs (hf.eval x) (hf.eval i)⟩
 case h_22 t m k ok ho=>exact YI (by simp [ho]) fun S w a hs hf=>⟨_,by simp only [execOp,ho],Ze3 h hs (hf.eval m) (hf.eval k)⟩
 case h_23 t m k v ho=>exact Ze9 (by simp [ho]) fun S w a hs hf=>⟨_,by simp only [execOp,ho],ZbL h hs (hf.eval m) (hf.eval k) (hf.eval v)⟩
 case h_24 t m k v ho=>exact Ze9 (by simp [ho]) fun S w a hs hf=>⟨_,by simp only [execOp,ho],ZbL h hs (hf.eval m) (hf.eval k) (hf.eval v)⟩
 case h_25 x xt t ok ho=>exact YI (by simp [ho]) fun S w a hs hf=>⟨Instr.typeAssert (a.eval x) xt t ok,by simp only [execOp,ho],Ze1 h hs (hf.eval x)⟩
 case h_26 x i ho=>exact YI (by simp [ho]) fun S w a hs hf=>⟨_,by simp only [execOp,ho],ZeJ h hs (hf.eval x)⟩
 case h_27 x ho =>
  split at h
  ·rename_i t v hv;intro S w a hs hf next Q h1 h2;rw [Oper.semAt_eq _ _ _ (by simp [ho])];have e:=Ze8 hv (hf.eval x);simp only [execOp,ho,e,Instr.panic,goPanic,Sem.run_bind,Sem.run_halt,Result.andThen_halt,Oper.uponIn];exact h2 S H _ w (.refl _ _ _) hs h
  ·exact h.elim
 case h_28 b args ats ho =>
  refine YI (by simp [ho]) fun S w a hs hf=>?_
  obtain ⟨s,h1,h2⟩:=ZeP (ty:=o.type) (cs:=args.map fun | .const _=>true | _=>false) (us:=args.map a.eval) h hs (by simpa using RvL.of_map hf args.toList);exact ⟨s,by simp only [execOp,ho,resolve,pure_bind,invoke]; exact h1,h2⟩
 case h_29 f args ats ho=>exact ao_call ho (Zdc h)
 case h_30 x m args ats ho =>
  obtain ⟨g,y,hg,hc,hm⟩:=h;intro S w a hs hf next Q h1 h2;obtain ⟨v,hv,t,z,hu,hmr⟩:=hm S w _ (hf.eval x);rw [Oper.semAt_eq _ _ _ (by simp [ho])];have hx:RvL S w (args.toList.map A.eval) (args.map a.eval).toList:=by simpa using RvL.of_map hf args.toList
  have hr:(execOp a.eval o).run cx.P w=.ok (.enter g (#[v]++(args.map a.eval))) w:=by
   have hex:∀ us:Array Value,(#[Value.iface t z]++us).extract 1 (#[Value.iface t z]++us).size=us:=by
    intro us
    apply Array.ext'
    simp [Array.toList_extract,List.extract_eq_take_drop]
   have h0:∀ us:Array Value,(#[Value.iface t z]++us)[0]?=some (.iface t z):=by intro us; rw [Array.getElem?_append_left (by simp)]; rfl
   simp only [execOp,ho,resolve,pure_bind,invoke,hu,h0,hex,callMethod,Sem.run_bind,run_program,Result.andThen_ok,hmr,Jv hg]
  rw [hr];refine ⟨fun h=>(by cases h),Jt.2 ((hc S w _ hs ?_).mono ?_)⟩
  ·simp only [Array.toList_append,Zm5,ZmO];exact ⟨v,_,rfl,hv,hx⟩
  ·intro e w' hq;cases e with
   | returned v=>obtain ⟨S',H',x,g1,g2,g3,g4⟩:=hq; exact h1 S' H' x v w' g1 g2 g3 g4
   | panicked ch=>obtain ⟨S',H',g1,g2,g4⟩:=hq; exact h2 S' H' ch w' g1 g2 g4
   | outgrown=>exact hq.elim
 case h_31 t x i ho=>exact YI (by simp [ho]) fun S w a hs hf=>⟨Instr.index t (a.eval x) (a.eval i),by simp only [execOp,ho],Zgf h hs (hf.eval x) (hf.eval i)⟩
 case h_32 t x ho=>exact YI (by simp [ho]) fun S w a hs hf=>⟨Instr.range t (a.eval x),by simp only [execOp,ho],Zgi h hs (hf.eval x)⟩
 case h_33 x ho=>exact YI (by simp [ho]) fun S w a hs hf=>⟨Instr.next (a.eval x) false o.type,by simp only [execOp,ho],Zhm h hs (hf.eval x)⟩
 case h_34 x ho=>exact YI (by simp [ho]) fun S w a hs hf=>⟨Instr.entry (a.eval x),by simp only [execOp,ho],Zgj h hs (hf.eval x)⟩
 case h_35 t m k ho=>exact YI (by simp [ho]) fun S w a hs hf=>⟨Instr.mapEntry t (a.eval m) (a.eval k),by simp only [execOp,ho],ZdN h hs (hf.eval m) (hf.eval k)⟩
 case h_36 t m s v ho=>exact Ze9 (by simp [ho]) fun S w a hs hf=>⟨Instr.entryStore t (a.eval m) (a.eval s) (a.eval v),by simp only [execOp,ho],ZcQ h hs (hf.eval m) (hf.eval s) (hf.eval v)⟩
 case h_37=>exact h.elim
theorem Zjv {o:Oper} {S:Nat→Prop} {w:World} {a:Act} (h:vcOp cx o.op A H K) (hs:Sim S H w) (hf:RvF cx.N S w A a):∀ f,o.about cx.P w a.eval=some f→(cx.P.funcs[f]?).isSome=true:=by
 intro f he;unfold Oper.about at he;split at he
 ·rename_i c ho;rw [ho] at h;obtain ⟨callee,args,ats⟩:=c;cases callee with
  | builtin b=>simp [resolve,Target.leads] at he
  | value g =>
    have h:WS cx.P cx.ro (A.eval g) (args.toList.map A.eval) H K:=h;have hx:RvL S w (args.toList.map A.eval) (args.map a.eval).toList:=by simpa using RvL.of_map hf args.toList
    have hc:=(Zdc h S w (a.eval g) (args.map a.eval) hs (hf.eval g) hx).1;simp only [resolve] at he;split at he
    ·rename_i d w' hd;exact hc d w' hd f he
    ·cases he
  | invoke x m =>
    obtain ⟨g,y,hg,hc,hm⟩:=h;obtain ⟨v,hv,t,z,hu,hmr⟩:=hm S w _ (hf.eval x);have h0:∀ us:Array Value,(#[Value.iface t z]++us)[0]?=some (.iface t z):=by intro us; rw [Array.getElem?_append_left (by simp)]; rfl
    simp only [resolve,Sem.run_pure,Target.leads,hu,h0,hmr,Option.some.injEq] at he;rw [← he];exact We hg
 ·cases he
def Yc (P:Program) (op:Op) (A:AF):Prop :=
 match op with
 | .call { callee:=.value f,.. } =>
   (match A.eval f with
    | .lit (.func (.func g) _ _)=>Zz P g=true
    | .func (.func g) _ _=>Zz P g=true
    | .lit (.tuple _)=>True
    | _=>False)
 | .call { callee:=.invoke x _,.. }=>(match A.eval x with | .lit (.tuple _)=>True | _=>False)
 | _=>True
theorem Zbl {o:Oper} {S:Nat→Prop} {w:World} {a:Act} (h:Yc cx.P o.op A) (hf:RvF cx.N S w A a):∀ f,o.about cx.P w a.eval=some f→(cx.P.funcs[f]?).isSome=true:=by
 intro f he;unfold Oper.about at he;split at he
 ·rename_i c ho;rw [ho] at h;obtain ⟨callee,args,ats⟩:=c;cases callee with
  | builtin b=>simp [resolve,Target.leads] at he
  | value g =>
    have hr:=hf.eval g;simp only [Yc] at h;split at h
    ·rename_i g' b c' e;rw [e] at hr;have hr:a.eval g=_:=hr;simp only [resolve,hr,Deferred.ofValue,Sem.run_pure,Target.leads,Option.some.injEq] at he;rw [← he]; exact We h
    ·rename_i g' b c' e;rw [e] at hr;obtain ⟨f',c'',hr,_⟩:=hr;simp only [resolve,hr,Deferred.ofValue,Sem.run_pure,Target.leads,Option.some.injEq] at he;rw [← he]; exact We h
    ·rename_i vs e;rw [e] at hr;have hr:a.eval g=_:=hr;simp [resolve,hr,Deferred.ofValue] at he
    ·exact h.elim
  | invoke x m =>
    have hr:=hf.eval x;simp only [Yc] at h;split at h
    ·rename_i vs e;rw [e] at hr;have hr:a.eval x=_:=hr;have h0:∀ us:Array Value,(#[Value.tuple vs]++us)[0]?=some (.tuple vs):=by intro us; rw [Array.getElem?_append_left (by simp)]; rfl
     simp [resolve,hr,Target.leads,h0] at he
    ·exact h.elim
 ·cases he
end
end Go.PV
end
section
open List renaming eq_nil_of_length_eq_zero→Znd,range→Zmm,getElem?_eq_none→ZmS
open Nat renaming lt_or_ge→ZmI
open Option renaming map_eq_some_iff→Znc
namespace Go.PV
structure GOp where
 dst:Option Tmp
 op:Op
 g:Option (Tmp × Bool)
def gopOf (ops:Array Oper) (o:Oper):GOp:=⟨o.dst,o.op,o.guard.bind fun p=>((ops[p.1]?).bind (·.dst)).map fun d=>(d,p.2)⟩
def isDefer:Op→Bool
 | .defer _=>true
 | _=>false
def gOk (ops:Array Oper) (o:Oper):Bool :=
 match o.guard with
 | none=>true
 | some p=>((ops[p.1]?).bind (·.dst)).isSome
def vcK (next:AF→AH→Prop) (Q:APost) (dst:Option Tmp) (A:AF):VE→AH→Prop
 | .ret x=>next (A.put dst x)
 | .pan ch=>Q (.panic ch) A
def dOk (N:Nat):Option Tmp→Prop
 | none=>True
 | some d=>d<N
def ZhD (cx:Cx) (c:Call) (dst:Option Tmp) (A:AF) (H:AH) (next:AF→AH→Prop):Prop :=
 cx.ro=none ∧
 match c.callee with
 | .value f =>
   (match valOf (A.eval f),Xl (.agg (c.args.toList.map A.eval)) with
    | some (.func fn first cap),some args=>next (AF.put { A with d:={ target:=.fn fn cap,args:=first++args.toArray }::A.d } dst Zx) H
    | _,_=>False)
 | _=>False
def vcDo (cx:Cx) (o:GOp) (next:AF→AH→Prop) (Q:APost) (A:AF) (H:AH):Prop :=
 dOk cx.N o.dst ∧
 match o.op with
 | .defer c=>ZhD cx c o.dst A H next
 | op=>vcOp cx op A H (vcK next Q o.dst A)
def vcG (cx:Cx) (o:GOp) (next:AF→AH→Prop) (Q:APost) (A:AF) (H:AH):Prop :=
 match o.g with
 | none=>vcDo cx o next Q A H
 | some (d,want) =>
   (match A.t d with
    | .lit (.bool b)=>if b=want then vcDo cx o next Q A H else dOk cx.N o.dst∧Yc cx.P o.op A∧next (A.put o.dst Zx) H
    | .lit (.tuple _)=>dOk cx.N o.dst∧Yc cx.P o.op A∧next (A.put o.dst Zx) H
    | _=>False)
def vcL (cx:Cx):List GOp→APost→AF→AH→Prop
 | [],Q=>Q .normal
 | o::l,Q=>vcG cx o (vcL cx l Q) Q
section
variable {cx:Cx} {Q:APost} {S:Nat→Prop} {H:AH} {w:World} {A:AF} {a:Act}
theorem Zgk {c:Call} {dst:Option Tmp} {next:AF→AH→Prop} (h:ZhD cx c dst A H next) (hd:dOk cx.N dst) (hs:Sim S H w) (hf:RvF cx.N S w A a) (o:Oper) (ho:o.op=.defer c) (hod:o.dst=dst)
 (nx:Act→World→Prop) (Qr:Exit→Act→World→Prop)
 (h1:∀ A' a',RvF cx.N S w A' a'→next A' H→nx a' w) :
 o.uponIn (Xy cx.P cx.ro) 0 cx.P a nx Qr ((o.semAt cx.ro a.eval).run cx.P w):=by
 obtain ⟨hro,h⟩:=h;split at h
 ·rename_i f hcal;split at h
  ·rename_i fn first cap args hv hargs;have e1:=Ze8 hv (hf.eval f);have e2:=Zd5 hargs (RvL.of_map hf c.args.toList);rw [hro,Oper.semAt_none]
   have hr:(execOp a.eval o).run cx.P w=.ok (.defer { target:=.fn fn cap,args:=first++args.toArray }) w:=by
    have hargs':(c.args.map a.eval)=args.toArray:=by apply Array.ext'; simpa using e2
    simp [execOp,ho,resolve,hcal,e1,Deferred.ofValue,hargs']
   rw [hr];subst hod;refine h1 _ _ ?_ h;refine RvF.put (N:=cx.N) (A:={ A with d:={ target:=.fn fn cap,args:=first++args.toArray }::A.d }) (a:={ a with defers:={ target:=.fn fn cap,args:=first++args.toArray }::a.defers }) (x:=Zx) (u:=undef) ⟨hf.1,by rw [← hf.2.1],hf.2.2⟩ ?_ rfl;intro d hd';rw [hd'] at hd;exact hd
  ·exact h.elim
 ·exact h.elim
theorem Zfa {ops:Array Oper} {o:Oper} {next:AF→AH→Prop} (h:vcDo cx (gopOf ops o) next Q A H) {S0:Nat→Prop} {H0:AH} {w0:World} (k:Step S0 H0 w0 S H w) (hs:Sim S H w) (hf:RvF cx.N S w A a) (nx:Act→World→Prop)
 (h1:∀ S' H' A' a' w',Step S0 H0 w0 S' H' w'→Sim S' H' w'→RvF cx.N S' w' A' a'→next A' H'→nx a' w') :
 o.wpIn (Xy cx.P cx.ro) 0 cx.P a w nx (LQ cx Q S0 H0 w0):=by
 refine ⟨?_,?_⟩
 ·obtain ⟨hd,h⟩:=h;cases hop:o.op with
  | defer c=>intro f hf'; simp [Oper.about,hop] at hf'
  | _ =>
    refine Zjv (cx:=cx) (H:=H) (K:=vcK next Q o.dst A) ?_ hs hf;simp only [gopOf,hop] at h ⊢;exact h
 obtain ⟨hd,h⟩:=h
 have hd':∀ d,o.dst=some d→d<cx.N:=fun d e=>by
  have hd2:dOk cx.N o.dst:=hd;rw [e] at hd2;exact hd2
 cases hop:o.op with
 | defer c =>
   have h':ZhD cx c o.dst A H next:=by
    simp only [gopOf,hop] at h;exact h
   exact Zgk h' hd hs hf o hop rfl nx _ fun A' a' g1 g2=>h1 S H A' a' w k hs g1 g2
 | _ =>
   all_goals
    have h':vcOp cx o.op A H (vcK next Q o.dst A):=by
     simp only [gopOf,hop] at h ⊢;exact h
    refine Zju h' S w a hs hf nx _ ?_ ?_
    ·intro S' H' x u w' g1 g2 g3 g4;exact h1 S' H' _ _ w' (k.trans g1) g2 ((hf.step hs g1).put hd' g3) g4
    ·intro S' H' ch w' g1 g2 g4;exact ⟨by simp,S',H',A,k.trans g1,g2,hf.step hs g1,g4⟩
theorem Zhp {ops:Array Oper} {o:Oper} (hg:gOk ops o=true) (hf:RvF cx.N S w A a) {b want:Bool} {d:Tmp} (he:(gopOf ops o).g=some (d,want)) (hb:A.t d=.lit (.bool b)) (hN:d<a.tmps.size) :
 Region.wanted o (yielded ops a.tmps)=(b == want):=by
 have hr:=hf.2.2 d;rw [hb] at hr;have hr':a.tmps.getD d undef=.bool b:=hr;simp only [gopOf] at he;cases hgd:o.guard with
 | none=>simp [hgd] at he
 | some p =>
   obtain ⟨j,w'⟩:=p;simp only [hgd,Option.bind_some,Znc,Prod.mk.injEq] at he;obtain ⟨d',hj,rfl,rfl⟩:=he
   have ht:a.tmps[d']?=some (.bool b):=by
    rw [Array.getElem?_eq_getElem hN]
    congr 1
    simpa [Array.getD,hN] using hr'
   simp only [Region.wanted,hgd,yielded,hj,Option.bind_some,ht];cases b<;>cases w'<;>rfl
theorem ZeR {ts:Array Value} {d:Nat} {b:Bool} (h:ts.getD d undef=.bool b):d<ts.size:=by
 rcases ZmI d ts.size with h1 | h1
 ·exact h1
 ·rw [Array.getD_eq_getD_getElem?,Array.getElem?_eq_none h1] at h;cases h
theorem Zfb {ops:Array Oper} {o:Oper} (hf:RvF cx.N S w A a) {want:Bool} {d:Tmp} {vs:Array Value} (he:(gopOf ops o).g=some (d,want)) (hb:A.t d=.lit (.tuple vs)):Region.wanted o (yielded ops a.tmps)=false:=by
 have hr:=hf.2.2 d;rw [hb] at hr;have hr':a.tmps.getD d undef=.tuple vs:=hr;simp only [gopOf] at he;cases hgd:o.guard with
 | none=>simp [hgd] at he
 | some p =>
   obtain ⟨j,w'⟩:=p;simp only [hgd,Option.bind_some,Znc,Prod.mk.injEq] at he;obtain ⟨d',hj,rfl,rfl⟩:=he;simp only [Region.wanted,hgd,yielded,hj,Option.bind_some];rcases ZmI d' a.tmps.size with hlt | hge
   ·have ht:a.tmps[d']?=some (.tuple vs):=by
     rw [Array.getElem?_eq_getElem hlt]
     congr 1
     simpa [Array.getD,hlt] using hr'
    rw [ht]; cases w'<;>rfl
   ·rw [Array.getElem?_eq_none hge]; cases w'<;>rfl
theorem Zcc {ops:Array Oper} {o:Oper} {next:AF→AH→Prop} (hg:gOk ops o=true) (h:vcG cx (gopOf ops o) next Q A H) {S0:Nat→Prop} {H0:AH} {w0:World} (k:Step S0 H0 w0 S H w) (hs:Sim S H w) (hf:RvF cx.N S w A a) (nx:Act→World→Prop)
 (h1:∀ S' H' A' a' w',Step S0 H0 w0 S' H' w'→Sim S' H' w'→RvF cx.N S' w' A' a'→next A' H'→nx a' w') :
 if Region.wanted o (yielded ops a.tmps) then o.wpIn (Xy cx.P cx.ro) 0 cx.P a w nx (LQ cx Q S0 H0 w0) else (∀ f,o.about cx.P w a.eval=some f→(Xy cx.P cx.ro).fn f)∧nx (a.put o.dst undef) w:=by
 unfold vcG at h;split at h
 ·rename_i he
  have hw:Region.wanted o (yielded ops a.tmps)=true:=by
   simp only [gopOf] at he;unfold gOk at hg;cases hgd:o.guard with
   | none=>simp [Region.wanted,hgd]
   | some p =>
     simp only [hgd] at hg he;obtain ⟨d,hd⟩:=Option.isSome_iff_exists.1 hg;rw [Option.bind_some,hd] at he;cases he
  rw [if_pos hw];exact Zfa h k hs hf nx h1
 ·rename_i d want he;split at h
  ·rename_i b hb;have hr:=hf.2.2 d;rw [hb] at hr;have hw:=Zhp hg hf he hb (ZeR hr);rw [hw];split at h
   ·rename_i e;rw [if_pos (by simp [e])];exact Zfa h k hs hf nx h1
   ·rename_i e;rw [if_neg (by simpa using e)];refine ⟨Zbl h.2.1 hf,h1 S H _ _ w k hs (RvF.put hf (x:=Zx) (u:=undef) ?_ rfl) h.2.2⟩;intro d' hd';have h2:dOk cx.N o.dst:=h.1;rw [hd'] at h2;exact h2
  ·rename_i vs hb;have hw:=Zfb (ops:=ops) (o:=o) hf he hb;rw [if_neg (by simp [hw])];refine ⟨Zbl h.2.1 hf,h1 S H _ _ w k hs (RvF.put hf (x:=Zx) (u:=undef) ?_ rfl) h.2.2⟩;intro d' hd';have h2:dOk cx.N o.dst:=h.1;rw [hd'] at h2;exact h2
  ·exact h.elim
theorem ZgR {ops:Array Oper}:∀ (is:List Nat) (l:List Oper) (A:AF) (H:AH) (S:Nat→Prop) (w:World) (a:Act) (S0:Nat→Prop) (H0:AH) (w0:World),
 (∀ j:Nat,l[j]?=(is[j]?).bind fun i:Nat=>ops[i]?)→is.length=l.length→(∀ o∈l,gOk ops o=true)→vcL cx (l.map (gopOf ops)) Q A H→Step S0 H0 w0 S H w→Sim S H w→RvF cx.N S w A a →
 wpOpsIn (Xy cx.P cx.ro) 0 cx.P ops (LQ cx Q S0 H0 w0) is a w
 | [],l,A,H,S,w,a,S0,H0,w0,hl,hlen,hg,h,k,hs,hf=>by
   have:l=[]:=Znd (by simpa using hlen.symm)
   subst this;exact ⟨by simp,S,H,A,k,hs,hf,h⟩
 | i::is,[],A,H,S,w,a,S0,H0,w0,hl,hlen,hg,h,k,hs,hf=>by simp at hlen
 | i::is,o::l,A,H,S,w,a,S0,H0,w0,hl,hlen,hg,h,k,hs,hf=>by
   have ho:ops[i]?=some o:=by have:=hl 0; simpa using this.symm
   simp only [wpOpsIn,ho]
   exact Zcc (hg o (by simp)) h k hs hf _ fun S' H' A' a' w' g1 g2 g3 g4 =>
    ZgR is l A' H' S' w' a' S0 H0 w0 (fun j=>by have:=hl (j+1); simpa using this) (by simpa using hlen) (fun o' ho'=>hg o' (by simp [ho'])) g4 g1 g2 g3
theorem Zlg {id:Nat} {ops:Array Oper} (hg:ops.all (gOk ops)=true) (h:vcL cx (ops.toList.map (gopOf ops)) Q A H):AC cx (.region id ops false) Q A H:=by
 intro S w a hs hf;refine wpIn_region (ZgR (Zmm ops.size) ops.toList A H S w a S H w ?_ (by simp) ?_ h (.refl _ _ _) hs hf)
 ·intro j;by_cases hj:j<ops.size
  ·rw [List.getElem?_range hj];simp
  ·rw [ZmS (by simpa using hj),ZmS (by simpa using hj)];rfl
 ·intro o ho;exact Array.all_eq_true_iff_forall_mem.1 hg o (by simpa using ho)
end
end Go.PV
end
section
open Bool renaming false_eq_true→Zmv
open List renaming range→Zmm
namespace Go.PV
def scalT (P:Program) (t:TypeId):Bool :=
 match P.underlying t with
 | some (.int _)=>true
 | some .string=>true
 | some .bool=>true
 | some (.struct _)=>true
 | some (.array _ _)=>true
 | _=>false
def Zgl (P:Program):Op→Bool
 | .move _=>true
 | .assign _=>true
 | .pick _ _ _=>true
 | .load _ _=>true
 | .nilCheck _=>true
 | .unOp _ _ _=>true
 | .convert _ _ _=>true
 | .makeInterface _ _=>true
 | .fieldAddr _ _ _=>true
 | .field _ _ _=>true
 | .indexAddr _ _ _=>true
 | .extract _ _=>true
 | .makeFunc _ _ _=>true
 | .slice _ _ _ _ _=>true
 | .build _ _=>true
 | .buildSlice _ _ _=>true
 | .index _ _ _=>true
 | .binOp op t _ _ _=>!(op matches .eql | .neq) || scalT P t
 | .call { callee:=.builtin .len,.. }=>true
 | .call { callee:=.builtin .max,.. }=>true
 | .call { callee:=.builtin .min,.. }=>true
 | _=>false
def preds (ops:Array Oper) (k:Nat):List Nat:=match ops[k]? with | some o=>o.after.toList.filterMap fun e=>if Region.binds .any e then some e.on else none | none=>[]
def clo (ops:Array Oper):Nat→List Nat→List Nat→List Nat
 | 0,rem,_=>rem
 | _+1,rem,[]=>rem
 | n+1,rem,k::work=>if rem.contains k then clo ops n (rem.filter (· != k)) (preds ops k++work) else clo ops n rem work
def Zkb (ops:Array Oper) (tail:List Nat):Bool :=
 tail.all fun t=>(clo ops (ops.size * 20+20) (Zmm ops.size) (preds ops t)).all fun k=>tail.contains k
def ZeU (ops:Array Oper):Nat→Array Bool→List Nat
 | 0,_=>[]
 | n+1,listed=>match Region.ready .any ops listed with
   | []=>[]
   | i::_=>i::ZeU ops n (listed.setIfInBounds i true)
def Zgm (ops:Array Oper) (order:List Nat):Nat→List Nat
 | 0=>[]
 | n+1 =>
   let t:=order.drop n
   if Zkb ops t then (let t':=Zgm ops order n; if t'.isEmpty then t else t') else []
def Zkc (ops:Array Oper) (n:Nat):List Nat:=Zgm ops (ZeU ops n (Array.replicate n false)) n
inductive GPlan where
 | fin
 | tk (i:Nat) (o:GOp) (p:GPlan)
 | one (need:List Nat) (o:GOp) (p:GPlan)
 | two (need:List Nat) (o:GOp) (p:GPlan) (need':List Nat) (o':GOp) (p':GPlan)
 | cut (o:GOp) (p:GPlan)
def Zcu (ops:Array Oper) (i:Nat):List Nat:=clo ops (ops.size * 20+20) (Zmm ops.size) (preds ops i)
def Zgn:Op→Bool
 | .move _ | .assign _ | .nilCheck _ | .fieldAddr _ _ _=>true
 | _=>false
def cutOf (ops:Array Oper) (tail:List Nat):Option Nat :=
 match ((ZeU ops ops.size (Array.replicate ops.size false)).drop (ops.size-tail.length-1)).head? with
 | some j=>if (clo ops (ops.size * 20+20) (Zmm ops.size) (preds ops j)).all (fun k=>k == j || tail.contains k || (match ops[k]? with | some o=>Zgn o.op | none=>false)) then some j else none
 | none=>none
def rdy (ops:Array Oper) (stop:List Nat) (listed:Array Bool):List Nat:=(Region.ready .any ops listed).filter fun i=>!stop.contains i
def gAt (ops:Array Oper) (i:Nat):Option GOp:=(ops[i]?).map (gopOf ops)
def isTk (P:Program) (ops:Array Oper) (listed:Array Bool) (i:Nat):Bool:=(match ops[i]? with | some o=>Zgl P o.op | none=>false) && Region.free .any ops listed i
def planT (P:Program) (ops:Array Oper) (stop:List Nat) (full:Array Bool) (cut:Option Nat):Nat→Array Bool→Option GPlan
 | 0,listed=>if listed == full && (rdy ops stop listed).isEmpty then some .fin else none
 | n+1,listed =>
   if listed == full && (rdy ops stop listed).isEmpty then some .fin else
   match (rdy ops stop listed).find? (fun i=>isTk P ops listed i && cut != some i) with
   | some i=>(match gAt ops i,planT P ops stop full cut n (listed.setIfInBounds i true) with
     | some o,some p=>some (.tk i o p)
     | _,_=>none)
   | none =>
     match rdy ops stop listed with
     | [i]=>(match gAt ops i,planT P ops stop full cut n (listed.setIfInBounds i true) with
       | some o,some p=>some (if cut == some i then .cut o p else .one (Zcu ops i) o p)
       | _,_=>none)
     | [i,j]=>(match gAt ops i,planT P ops stop full cut n (listed.setIfInBounds i true),gAt ops j,planT P ops stop full cut n (listed.setIfInBounds j true) with
       | some o,some p,some o',some p'=>some (.two (Zcu ops i) o p (Zcu ops j) o' p')
       | _,_,_,_=>none)
     | _=>none
def planS (ops:Array Oper):Nat→Array Bool→Option (List Nat)
 | 0,listed=>if (Region.ready .any ops listed).isEmpty then some [] else none
 | n+1,listed =>
   match Region.ready .any ops listed with
   | [i]=>(planS ops n (listed.setIfInBounds i true)).map fun p=>i::p
   | _=>none
inductive ACode where
 | skip
 | reg (l:List GOp)
 | dreg (p:GPlan) (tail:List GOp)
 | seq (a b:ACode)
 | seqL (a b:ACode)
 | cond (c:Operand) (a b:ACode)
 | block (id:Nat) (a:ACode)
 | loop (a:ACode)
 | exit (id:Nat)
 | ret
 | scope (a:ACode)
 | rfunc (f:Operand) (ps:Array Tmp) (assign body:ACode)
 | bad
def fullOf (ops:Array Oper) (tail:List Nat):Array Bool:=((Zmm ops.size).map fun i=>!tail.contains i).toArray
def Xw (P:Program) (ops:Array Oper):ACode :=
 let tail:=Zkc ops ops.size
 if ops.all (gOk ops) && Region.noSelect ops && ops.all (fun o=>!isDefer o.op) && Zkb ops tail then
  match planT P ops tail (fullOf ops tail) (cutOf ops tail) (ops.size-tail.length) (Array.replicate ops.size false),planS ops tail.length (fullOf ops tail) with
  | some p,some q=>.dreg p (q.filterMap (gAt ops))
  | _,_=>.bad
 else .bad
def Zby:ACode→Bool
 | .seq a b=>Zby a || Zby b
 | .seqL a b=>true
 | .cond _ a b=>Zby a || Zby b
 | .block _ a=>Zby a
 | .scope a=>Zby a
 | .loop _=>true
 | .rfunc _ _ _ _=>true
 | _=>false
def ZM (P:Program):Code→ACode
 | .skip=>.skip
 | .region _ ops draw=>if draw then Xw P ops else if ops.all (gOk ops) then .reg (ops.toList.map (gopOf ops)) else .bad
 | .seq a b=>if Zby (ZM P a) then .seqL (ZM P a) (ZM P b) else .seq (ZM P a) (ZM P b)
 | .cond c a b=>.cond c (ZM P a) (ZM P b)
 | .block id c=>.block id (ZM P c)
 | .loop c=>.loop (ZM P c)
 | .rangeFunc f ps a b=>.rfunc f ps (ZM P a) (ZM P b)
 | .exit id=>.exit id
 | .scope c=>.scope (ZM P c)
 | .label _=>.skip
 | .goto _=>.bad
 | .ret=>.ret
 | .refuse _=>.bad
def ACx (cx:Cx) (a:ACode) (Q:APost) (A:AF) (H:AH):Prop:=∀ c,ZM cx.P c=a→AC cx c Q A H
def vc (cx:Cx):ACode→APost→AF→AH→Prop
 | .skip,Q=>Q .normal
 | .reg l,Q=>vcL cx l Q
 | .seq a b,Q=>vc cx a (thenA (vc cx b Q) Q)
 | .seqL a b,Q=>vc cx a (thenA (ACx cx b Q) Q)
 | .cond c a b,Q=>fun A H=>match A.eval c with | .lit (.bool t)=>(if t=true then vc cx a Q A H else vc cx b Q A H) | _=>False
 | .block id a,Q=>vc cx a (XO id Q)
 | .exit id,Q=>Q (.exit id)
 | .ret,Q=>Q .ret
 | .scope a,Q=>vc cx a Q
 | .bad,Q=>fun _ _=>False
 | a,Q=>ACx cx a Q
section
variable {cx:Cx} {Q:APost} {A:AF} {H:AH}
theorem Ziu {P:Program} {b:Frame} {a:Act} {k:List Item} {cs:List Frame} {w:World} {c:Code} :
 step P (lone (b.atR a (.code (.scope c)::k)) cs w)=.next (lone (b.atR a (.code c::.inScope c::k)) cs w) :=
 step_lone_go (by simp [stepG,stepG.exec,Frame.atR])
theorem Zgo {P:Program} {b:Frame} {a:Act} {k:List Item} {cs:List Frame} {w:World} {c:Code} :
 step P (lone (b.atR a (.inScope c::k)) cs w)=.next (lone (b.atR a k) cs w) :=
 step_lone_go (by simp [stepG,stepG.exec,Frame.atR])
def Zaa (Q:APost):Prop:=∀ l A H,¬ Q (.goto l) A H
theorem ZiR {c:Code} (hQ:Zaa Q) (h:AC cx c Q A H):AC cx (.scope c) Q A H:=by
 intro S w a hs hf b k cs hro hb hr;obtain ⟨e,a₁,w₁,hq,harr⟩:=h S w a hs hf b (.inScope c::k) cs hro hb hr;have h0:=StepsIn.one (P:=cx.P) (fenced_calm (P:=cx.P) (F:=Xy cx.P cx.ro) (fr:=b.atR a (.code (.scope c)::k)) (w:=w) hb hr rfl) Ziu;cases e with
 | normal=>exact ⟨.normal,a₁,w₁,hq,h0.trans (StepsIn.trans harr (.one (fenced_calm (fr:=b.atR a₁ (.inScope c::k)) hb hr rfl) Zgo))⟩
 | exit id=>exact ⟨_,a₁,w₁,hq,⟨fun k' hk=>h0.trans (harr.1 k' (by simpa [exitTo] using hk)),fun hr' hk=>by
    obtain ⟨k₁,h1,h2⟩:=harr.2 hr' (by simpa [exitTo] using hk);exact ⟨k₁,h1,h0.trans h2⟩⟩⟩
 | goto l=>obtain ⟨_,S',H',A',_,_,_,h4⟩:=hq; exact absurd h4 (hQ l A' H')
 | ret=>exact ⟨_,a₁,w₁,hq,.of_steps h0 harr⟩
 | panic ch=>exact ⟨_,a₁,w₁,hq,.of_steps h0 harr⟩
 | outgrown=>exact absurd rfl hq.1
theorem Jh:∀ (c:Code) (Q:APost) (A:AF) (H:AH),Zaa Q→vc cx (ZM cx.P c) Q A H→AC cx c Q A H
 | .skip,Q,A,H,_,h=>ac_skip h
 | .region id ops draw,Q,A,H,_,h=>by
   by_cases hd:draw=true
   ·subst hd;have e:ZM cx.P (.region id ops true)=Xw cx.P ops:=by simp [ZM]
    rw [e] at h
    have:vc cx (Xw cx.P ops) Q A H→ACx cx (Xw cx.P ops) Q A H:=by
     unfold Xw;dsimp only;split
     ·split
      ·exact fun h=>h
      ·exact fun h=>h.elim
     ·exact fun h=>h.elim
    exact this h _ e
   ·have hd':draw=false:=by simpa using hd
    subst hd';simp only [ZM,Zmv,if_false] at h;split at h
    ·rename_i hg; exact Zlg hg h
    ·exact h.elim
 | .seq x y,Q,A,H,hQ,h=>by
   have key:∀ K:AF→AH→Prop,(∀ A H,K A H→AC cx y Q A H)→vc cx (ZM cx.P x) (thenA K Q) A H→AC cx (.seq x y) Q A H:=by
    intro K hK h;refine Zh4 ((Jh x (thenA K Q) A H (fun l A H=>hQ l A H) h).mono ?_);intro e A' H' hq;cases e with
    | normal=>exact hK A' H' hq
    | _=>exact hq
   simp only [ZM] at h;split at h
   ·exact key (ACx cx (ZM cx.P y) Q) (fun A H h=>h _ rfl) (by simpa only [vc] using h)
   ·exact key (vc cx (ZM cx.P y) Q) (fun A H h=>Jh y Q A H hQ h) (by simpa only [vc] using h)
 | .cond c x y,Q,A,H,hQ,h=>by
   simp only [ZM,vc] at h;split at h
   ·rename_i t ht;refine Zkz ht ?_;cases t
    ·exact Jh y Q A H hQ (by simpa using h)
    ·exact Jh x Q A H hQ (by simpa using h)
   ·exact h.elim
 | .block id c,Q,A,H,hQ,h=>ZiN (Jh c (XO id Q) A H (fun l A H=>hQ l A H) h)
 | .loop c,Q,A,H,hQ,h=>h _ rfl
 | .rangeFunc f ps a b,Q,A,H,hQ,h=>h _ rfl
 | .exit id,Q,A,H,_,h=>ac_exit h
 | .scope c,Q,A,H,hQ,h=>ZiR hQ (Jh c Q A H hQ h)
 | .label l,Q,A,H,_,h=>ac_label h
 | .goto l,Q,A,H,_,h=>h.elim
 | .ret,Q,A,H,_,h=>ac_ret h
 | .refuse _,Q,A,H,_,h=>h.elim
end
end Go.PV
end
section
open List renaming getD_eq_getElem?_getD→Zne,getElem?_eq_none→ZmS
open Nat renaming le_refl→Zmc
open Option renaming map_eq_some_iff→Znc
namespace Go.PV
section
variable {cx:Cx} {Q:APost} {A:AF} {H:AH}
theorem Zh6 {a:ACode} (hQ:Zaa Q) (h:vc cx a Q A H):ACx cx a Q A H:=fun c hc=>by subst hc; exact Jh c Q A H hQ h
theorem YJ {a:ACode} (hQ:Zaa Q) (I:AF→AH→Prop) (μ:AF→AH→Nat) (h0:I A H)
 (round:∀ A H,I A H→vc cx a (thenA (fun A' H'=>I A' H'∧μ A' H'<μ A H) Q) A H):ACx cx (.loop a) Q A H:=by
 intro c hc;cases c with
 | loop c =>
   simp only [ZM,ACode.loop.injEq] at hc;subst hc;exact ZkA I μ h0 fun A H hI=>Jh c _ A H (fun l A H=>hQ l A H) (round A H hI)
 | region id ops draw =>
   exfalso
   unfold ZM Xw at hc;split at hc
   ·dsimp only at hc;split at hc
    ·split at hc<;>cases hc
    ·cases hc
   ·split at hc<;>cases hc
 | seq x y=>simp only [ZM] at hc; split at hc<;>cases hc
 | _=>simp [ZM] at hc
end
def SubH (H' H:AH):Prop:=∀ r b,H' r=some b→H r=some b
theorem SubH.refl (H:AH):SubH H H:=fun _ _ h=>h
theorem SubH.nil (H:AH):SubH AH.nil H:=fun _ _ h=>by cases h
theorem SubH.of_set {H' H:AH} {r:Nat} {b:Blk} (h:SubH H' H) (hr:H' r=none):SubH H' (H.set r b):=fun i c hi=>by
 by_cases e:i=r
 ·subst e; rw [hr] at hi; cases hi
 ·rw [AH.set_ne _ _ e]; exact h i c hi
theorem Sim.sub {S:Nat→Prop} {H H':AH} {w:World} (h:Sim S H w) (hsub:SubH H' H):Sim S H' w∧Step S H w S H' w :=
 ⟨⟨fun r b hb=>h.blk r b (hsub r b hb),fun r b hb=>h.dis r b (hsub r b hb),h.lt⟩,⟨rfl,rfl,rfl,Zmc _,fun _ h=>h,fun _ _ _=>rfl,fun r hr=>by
   cases e:H' r with
   | none=>exact absurd e hr
   | some b=>exact .inl (by rw [hsub r b e]; simp),fun _ h=>.inl h⟩⟩
def GhV (H:AH) (x:VV) (H':AH) (x':VV):Prop:=∀ S w u,Sim S H w→Rv S w x u→∃ S',Step S H w S' H' w∧Sim S' H' w∧Rv S' w x' u
def GhL (H:AH) (xs:List VV) (H':AH) (xs':List VV):Prop:=∀ S w us,Sim S H w→RvL S w xs us→∃ S',Step S H w S' H' w∧Sim S' H' w∧RvL S' w xs' us
section
variable {H H' H'' H0:AH} {x x' x'':VV} {xs xs':List VV}
theorem GhV.refl (H:AH) (x:VV):GhV H x H x:=fun S w u hs hx=>⟨S,.refl _ _ _,hs,hx⟩
theorem GhV.trans (h:GhV H x H' x') (k:GhV H' x' H'' x''):GhV H x H'' x'':=fun S w u hs hx=>by
 obtain ⟨S1,a1,a2,a3⟩:=h S w u hs hx;obtain ⟨S2,b1,b2,b3⟩:=k S1 w u a2 a3;exact ⟨S2,a1.trans b1,b2,b3⟩
theorem GhV.forget (h:SubH H' H) (x:VV):GhV H x H' x:=fun S w u hs hx=>⟨S,(hs.sub h).2,(hs.sub h).1,hx⟩
theorem GhV.slice {r n c:Nat} {e:TypeId} {cs:List VV} {sp:Nat} (hr:H r=some (.cells e cs sp)) (hn:n≤c) :
 GhV H (.lit (.slice (some ⟨r,0,none⟩) n c)) (H.del r) (.slice false n cs):=fun S w u hs hx=>by
 obtain rfl:=hx;obtain ⟨h1,h2⟩:=hs.freeze hr;refine ⟨_,h2,h1,_,c,rfl,⟨hn,fun h=>by cases h⟩,fun _=>⟨r,0,rfl,.inr rfl,?_⟩⟩
 have:=((hs.blk r _ hr).mono (S':=fun i=>S i∨i=r) (w':=w) (fun i hi=>⟨.inl hi,rfl⟩) rfl).cells_at 0
 simpa using this
theorem GhV.ptr {r:Nat} {e:TypeId} {cs:List VV} {sp:Nat} (hr:H r=some (.cells e cs sp)):GhV H (ptrV r 0) (H.del r) (.iptr cs):=fun S w u hs hx=>by
 obtain rfl:=hx;obtain ⟨h1,h2⟩:=hs.freeze hr;refine ⟨_,h2,h1,r,0,rfl,.inr rfl,?_⟩
 have:=((hs.blk r _ hr).mono (S':=fun i=>S i∨i=r) (w':=w) (fun i hi=>⟨.inl hi,rfl⟩) rfl).cells_at 0
 simpa using this
theorem GhV.own {e:TypeId} {k n:Nat} {cs:List VV} (h:OwnX H0 H e k x n cs):GhV H x H0 (.slice false n cs):=by
 rcases h with ⟨rfl,rfl,rfl,rfl⟩ | ⟨g,c,sp,rfl,h0,rfl,h1,h2,h3,h4⟩
 ·exact fun S w u hs hx=>by
   obtain rfl:=hx;exact ⟨S,.refl _ _ _,hs,none,0,rfl,⟨Zmc _,fun h=>by cases h⟩,fun h=>absurd h (by omega)⟩
 ·have:=GhV.slice (n:=n) (c:=c) (AH.set_same H0 g (.cells e cs sp)) h3
  rwa [AH.del_set _ _ _ h0] at this
theorem GhL.nil (H:AH):GhL H [] H []:=fun S w us hs hx=>⟨S,.refl _ _ _,hs,hx⟩
theorem GhL.cons (h:GhV H x H' x') (k:GhL H' xs H'' xs'):GhL H (x::xs) H'' (x'::xs'):=fun S w us hs hx=>by
 obtain ⟨u,us',rfl,hx1,hx2⟩:=hx;obtain ⟨S1,a1,a2,a3⟩:=h S w u hs hx1;obtain ⟨S2,b1,b2,b3⟩:=k S1 w us' a2 (hx2.step hs a1);exact ⟨S2,a1.trans b1,b2,u,us',rfl,a3.step a2 b1,b3⟩
theorem GhL.refl (H:AH) (xs:List VV):GhL H xs H xs:=fun S w us hs hx=>⟨S,.refl _ _ _,hs,hx⟩
theorem GhV.agg (h:GhL H xs H' xs'):GhV H (.agg xs) H' (.agg xs'):=fun S w u hs hx=>by
 obtain ⟨vs,rfl,hl⟩:=hx;obtain ⟨S1,a1,a2,a3⟩:=h S w _ hs hl;exact ⟨S1,a1,a2,vs,rfl,a3⟩
theorem GhV.tuple (h:GhL H xs H' xs'):GhV H (.tuple xs) H' (.tuple xs'):=fun S w u hs hx=>by
 obtain ⟨vs,rfl,hl⟩:=hx;obtain ⟨S1,a1,a2,a3⟩:=h S w _ hs hl;exact ⟨S1,a1,a2,vs,rfl,a3⟩
theorem GhV.iface {t:TypeId} (h:GhV H x H' x'):GhV H (.iface t x) H' (.iface t x'):=fun S w u hs hx=>by
 obtain ⟨v,rfl,hl⟩:=hx;obtain ⟨S1,a1,a2,a3⟩:=h S w _ hs hl;exact ⟨S1,a1,a2,v,rfl,a3⟩
theorem GhV.imm {ex:Bool} {n:Nat} {cs:List VV} (H:AH):GhV H (.slice ex n cs) H (.slice false n cs):=fun S w u hs hx=>by
 obtain ⟨a,cap,rfl,⟨h1,_⟩,h3⟩:=hx;exact ⟨S,.refl _ _ _,hs,a,cap,rfl,⟨h1,fun h=>by cases h⟩,h3⟩
end
def Ghost (N:Nat) (A:AF) (H:AH) (A':AF) (H':AH):Prop:=∀ S w a,Sim S H w→RvF N S w A a→∃ S',Step S H w S' H' w∧Sim S' H' w∧RvF N S' w A' a
theorem Ghost.forget {N:Nat} {A:AF} {H H':AH} (h:SubH H' H):Ghost N A H A H':=fun S w a hs hf=>⟨S,(hs.sub h).2,(hs.sub h).1,hf⟩
theorem Ghost.slot {N:Nat} {A:AF} {H H':AH} {i:Nat} {x':VV} (h:GhV H (A.t i) H' x'):Ghost N A H { A with t:=upd A.t i x' } H':=fun S w a hs hf=>by
 obtain ⟨S1,a1,a2,a3⟩:=h S w _ hs (hf.2.2 i);refine ⟨S1,a1,a2,hf.1,hf.2.1,fun j=>?_⟩;simp only [upd];split
 ·rename_i e; subst e; exact a3
 ·exact (hf.2.2 j).step hs a1
theorem ZgS {cx:Cx} {a:ACode} {Q:APost} {A A':AF} {H H':AH} (g:Ghost cx.N A H A' H') (h:ACx cx a Q A' H'):ACx cx a Q A H:=fun c hc S w ac hs hf=>by
 obtain ⟨S1,a1,a2,a3⟩:=g S w ac hs hf;exact wpIn_mono (h c hc S1 w ac a2 a3) fun _ _ _ hq=>hq.lift a1
theorem WT {P:Program} {f:FuncId} {xs xs':List VV} {H H':AH} {K:VE→AH→Prop} (g:GhL H xs H' xs') (h:ZO P f xs' H' K):ZO P f xs H K:=fun S w args hs hx=>by
 obtain ⟨S1,a1,a2,a3⟩:=g S w _ hs hx;exact (h S1 w args a2 a3).mono fun _ _ hq=>hq.lift a1
def Zak (P:Program) (A:AF) (H:AH):ResultVar→Option VV
 | .tmp t=>some (A.t t)
 | .cell a ty =>
   match ldT P ty,A.t a with
   | some (n,ag),.lit (.pointer (some ⟨r,o,none⟩))=>(match H r with | some (.cells _ cs _)=>ldV n ag (cs.drop o) | _=>none)
   | _,_=>none
def Zal (P:Program) (A:AF) (H:AH):List ResultVar→Option (List VV)
 | []=>some []
 | r::rs=>(Zak P A H r).bind fun x=>(Zal P A H rs).map fun xs=>x::xs
def tupV:List VV→VV
 | [x]=>x
 | xs=>.tuple xs
def resV (P:Program) (rs:List ResultVar) (A:AF) (H:AH):Option VV:=(Zal P A H rs).map tupV
def Jd (P:Program) (rs:List ResultVar) (K:VE→AH→Prop):APost
 | .normal=>fun A H=>A.d=[]∧∃ x H' x',resV P rs A H=some x∧GhV H x H' x'∧K (.ret x') H'
 | .ret=>fun A H=>A.d=[]∧∃ x H' x',resV P rs A H=some x∧GhV H x H' x'∧K (.ret x') H'
 | .panic ch=>fun A H=>A.d=[]∧∃ H',SubH H' H∧K (.pan ch) H'
 | _=>fun _ _=>False
def Zh7 (ts:Array Value):ResultVar→Sem Value
 | .tmp t=>pure (ts.getD t undef)
 | .cell b t=>do loadVar t (← asAddr (ts.getD b undef))
theorem Zdd {P:Program} {A:AF} {H:AH} {S:Nat→Prop} {w:World} {N:Nat} {a:Act} (hs:Sim S H w) (hf:RvF N S w A a):∀ {rs:List ResultVar} {xs:List VV},Zal P A H rs=some xs →
 ∃ us,(rs.mapM (Zh7 a.tmps)).run P w=.ok us w∧RvL S w xs us
 | [],xs,h=>by simp [Zal] at h; subst h; exact ⟨[],by simp,by simp [RvL]⟩
 | r::rs,xs,h=>by
   simp only [Zal,Option.bind_eq_some_iff,Znc] at h;obtain ⟨x,h1,xs',h2,rfl⟩:=h;obtain ⟨us,g1,g2⟩:=Zdd hs hf h2
   have hone:∃ u,(Zh7 a.tmps r).run P w=.ok u w∧Rv S w x u:=by
    cases r with
    | tmp t=>simp [Zak] at h1; subst h1; exact ⟨_,rfl,hf.2.2 t⟩
    | cell b ty =>
      simp only [Zak] at h1;split at h1
      ·rename_i n ag r o hl ha;split at h1
       ·rename_i e cs sp hb;obtain ⟨u,q1,q2⟩:=Zbk (w:=w) (S:=S) hl ((hs.blk r _ hb).cells_at o) h1;have hp:=hf.2.2 b;rw [ha] at hp;have hp':a.tmps.getD b undef=.pointer (some ⟨r,o,none⟩):=hp;exact ⟨u,by simp only [Zh7,hp',asAddr,Sem.run_bind,Sem.run_pure,Result.andThen_ok,q1],q2⟩
       ·cases h1
      ·cases h1
   obtain ⟨u,q1,q2⟩:=hone;refine ⟨u::us,?_,u,us,rfl,q2,g2⟩;rw [List.mapM_cons];simp only [Sem.run_bind,q1,g1,Result.andThen_ok,Sem.run_pure]
theorem Zbp {P:Program} {A:AF} {H:AH} {S:Nat→Prop} {w:World} {N:Nat} {a:Act} (hs:Sim S H w) (hf:RvF N S w A a) {fn:Func} {x:VV} (h:resV P fn.results.toList A H=some x) :
 ∃ u,(results fn a.tmps).run P w=.ok u w∧Rv S w x u:=by
 simp only [resV,Znc] at h;obtain ⟨xs,h1,rfl⟩:=h;obtain ⟨us,g1,g2⟩:=Zdd hs hf h1
 have hr:(results fn a.tmps).run P w=.ok (if h:us.toArray.size=1 then us.toArray[0] else .tuple us.toArray) w:=by
  have e:results fn a.tmps=((fn.results.mapM (Zh7 a.tmps)) >>= fun vs=>pure (if h:vs.size=1 then vs[0] else .tuple vs)):=by
   unfold results
   congr 1
  rw [e,Array.mapM_eq_mapM_toList];simp only [Sem.run_bind,Sem.run_map,g1,Result.andThen_ok,Sem.run_pure]
 refine ⟨_,hr,?_⟩
 match xs,us,g2 with
 | [x],us,g2 =>
   obtain ⟨u,rfl,hu⟩:=g2.one1;simpa [tupV] using hu
 | [],us,g2 =>
   simp [RvL] at g2; subst g2;exact ⟨#[],by simp,by simp [RvL]⟩
 | x::y::xs,us,g2 =>
   have hl:=g2.length
   have:¬ us.toArray.size=1:=by simp at hl ⊢; omega
   rw [dif_neg this];exact ⟨us.toArray,rfl,by simpa using g2⟩
structure FnD (P:Program) (f:FuncId) (N:Nat) (rs:List ResultVar) (a:ACode):Prop where
 out:∃ fn c,P.funcs[f]?=some fn∧fn.body=some c∧fn.ntmps=N∧fn.results.toList=rs∧ZM P c=a
theorem Zy {P:Program} {f N:Nat} {rs:List ResultVar} {a:ACode} (hd:FnD P f N rs a) {xs:List VV} {H:AH} {K:VE→AH→Prop} (hN:xs.length≤N)
 (h:vc ⟨P,N,none⟩ a (Jd P rs K) ⟨fun i=>xs.getD i Zx,[]⟩ H):ZO P f xs H K:=by
 obtain ⟨fn,c,hf,hb,rfl,rfl,rfl⟩:=hd;intro S w args hs hx;refine callsIn_of_wp hf hb (show (P.funcs[f]?).isSome=true by rw [hf]; rfl) ?_ rfl;have hl:args.size=xs.length:=by simpa using hx.length
 have hfr:RvF fn.ntmps S w ⟨fun i=>xs.getD i Zx,[]⟩ { tmps:=args++Array.replicate (fn.ntmps-args.size) undef,defers:=[] }:=by
  refine ⟨by simp; omega,rfl,fun i=>?_⟩
  have:=RvL.get i hx
  by_cases hi:i<args.size
  ·have e:(args++Array.replicate (fn.ntmps-args.size) undef).getD i undef=args.toList.getD i undef:=by
    simp only [Array.getD_eq_getD_getElem?,Zne];rw [Array.getElem?_append_left hi];simp
   rw [e]; exact this
  ·have e:(args++Array.replicate (fn.ntmps-args.size) undef).getD i undef=undef:=by
    simp only [Array.getD_eq_getD_getElem?];rw [Array.getElem?_append_right (by omega),Array.getElem?_replicate]
    split<;>rfl
   have e2:xs.getD i Zx=Zx:=by
    rw [Zne,ZmS (by omega)];rfl
   show Rv S w (xs.getD i Zx) _;rw [e,e2];rfl
 have hw:=Jh (cx:=⟨P,fn.ntmps,none⟩) c (Jd P fn.results.toList K) _ H (fun _ _ _ h=>h) h S w _ hs hfr;refine wpIn_mono hw ?_;rintro e a' w' ⟨h0,S',H',A',h1,h2,h3,h4⟩
 have fin:A'.d=[]→(∃ x H'' x',resV P fn.results.toList A' H'=some x∧GhV H' x H'' x'∧K (.ret x') H'')→a'.defers=[]∧∃ v,(results fn a'.tmps).run P w'=.ok v w'∧RQ K S H w (.returned v) w':=by
  rintro hd ⟨x,H'',x',g1,g2,g3⟩;obtain ⟨u,q1,q2⟩:=Zbp h2 h3 g1;obtain ⟨S'',p1,p2,p3⟩:=g2 S' w' u h2 q2;exact ⟨h3.2.1.trans hd,u,q1,S'',H'',x',h1.trans p1,p2,p3,g3⟩
 cases e with
 | normal=>exact fin h4.1 h4.2
 | ret=>exact fin h4.1 h4.2
 | panic ch =>
   obtain ⟨g1,H'',g2,g3⟩:=h4;exact ⟨h3.2.1.trans g1,S',H'',h1.trans (h2.sub g2).2,(h2.sub g2).1,g3⟩
 | exit id=>exact h4.elim
 | goto l=>exact h4.elim
 | outgrown=>exact absurd rfl h0
end Go.PV
end
