/- Part 2 of 11 of what the proof of Step needs. -/
import Derived.Test.YtglpmlbbaedbiaaStep1
set_option linter.unusedVariables false
set_option linter.unusedSimpArgs false
set_option linter.defProp false
section
open List renaming eq_nil_of_length_eq_zero→ZpY,getElem?_eq_none→Zqd
open Nat renaming lt_or_ge→ZpJ
open Option renaming bind_some→ZpH,map_eq_some_iff→Zp9
namespace Go.PV
structure GOp where
 dst:Option Tmp
 op:Op
 g:Option (Tmp × Bool)
def gopOf (ops:Array Oper) (o:Oper):GOp:=⟨o.dst,o.op,o.guard.bind fun p=>((ops[p.1]?).bind (·.dst)).map fun d=>(d,p.2)⟩
def isDefer:Op→Bool
 | .defer _=>true
 | _=>false
def gOk (ops:Array Oper) (o:Oper):Bool :=
 match o.guard with
 | none=>true
 | some p=>((ops[p.1]?).bind (·.dst)).isSome
def vcK (next:AF→AH→Prop) (Q:APost) (dst:Option Tmp) (A:AF):VE→AH→Prop
 | .ret x=>next (A.put dst x)
 | .pan ch=>Q (.panic ch) A
def dOk (N:Nat):Option Tmp→Prop
 | none=>True
 | some d=>d<N
def ZgG (cx:Cx) (c:Call) (dst:Option Tmp) (A:AF) (H:AH) (next:AF→AH→Prop):Prop :=
 cx.ro=none ∧
 match c.callee with
 | .value f =>
   (match valOf (A.eval f),Yw (.agg (c.args.toList.map A.eval)) with
    | some (.func fn first cap),some args=>next (AF.put { A with d:={ target:=.fn fn cap,args:=first++args.toArray }::A.d } dst ZJ) H
    | _,_=>False)
 | _=>False
def vcDo (cx:Cx) (o:GOp) (next:AF→AH→Prop) (Q:APost) (A:AF) (H:AH):Prop :=
 dOk cx.N o.dst ∧
 match o.op with
 | .defer c=>ZgG cx c o.dst A H next
 | op=>vcOp cx op A H (vcK next Q o.dst A)
def vcG (cx:Cx) (o:GOp) (next:AF→AH→Prop) (Q:APost) (A:AF) (H:AH):Prop :=
 match o.g with
 | none=>vcDo cx o next Q A H
 | some (d,want) =>
   (match A.t d with
    | .lit (.bool b)=>if b=want then vcDo cx o next Q A H else dOk cx.N o.dst∧Yb cx.P o.op A∧next (A.put o.dst ZJ) H
    | .lit (.tuple _)=>dOk cx.N o.dst∧Yb cx.P o.op A∧next (A.put o.dst ZJ) H
    | _=>False)
def vcL (cx:Cx):List GOp→APost→AF→AH→Prop
 | [],Q=>Q .normal
 | o::l,Q=>vcG cx o (vcL cx l Q) Q
section
variable {cx:Cx} {Q:APost} {S:Nat→Prop} {H:AH} {w:World} {A:AF} {a:Act}
theorem Zib {c:Call} {dst:Option Tmp} {next:AF→AH→Prop} (h:ZgG cx c dst A H next) (hd:dOk cx.N dst) (hs:Sim S H w) (hf:RvF cx.N S w A a) (o:Oper) (ho:o.op=.defer c) (hod:o.dst=dst)
 (nx:Act→World→Prop) (Qr:Exit→Act→World→Prop)
 (h1:∀ A' a',RvF cx.N S w A' a'→next A' H→nx a' w) :
 o.uponIn (Xp cx.P cx.ro) 0 cx.P a nx Qr ((o.semAt cx.ro a.eval).run cx.P w):=by
 obtain ⟨hro,h⟩:=h;split at h
 ·rename_i f hcal;split at h
  ·rename_i fn first cap args hv hargs;have e1:=ZgF hv (hf.eval f);have e2:=ZfF hargs (RvL.of_map hf c.args.toList);rw [hro,Oper.semAt_none]
   have hr:(execOp a.eval o).run cx.P w=.ok (.defer { target:=.fn fn cap,args:=first++args.toArray }) w:=by
    have hargs':(c.args.map a.eval)=args.toArray:=by apply Array.ext'; simpa using e2
    simp [execOp,ho,resolve,hcal,e1,Deferred.ofValue,hargs']
   rw [hr];subst hod;refine h1 _ _ ?_ h;refine RvF.put (N:=cx.N) (A:={ A with d:={ target:=.fn fn cap,args:=first++args.toArray }::A.d }) (a:={ a with defers:={ target:=.fn fn cap,args:=first++args.toArray }::a.defers }) (x:=ZJ) (u:=undef) ⟨hf.1,by rw [← hf.2.1],hf.2.2⟩ ?_ rfl;intro d hd';rw [hd'] at hd;exact hd
  ·exact h.elim
 ·exact h.elim
theorem ZgH {ops:Array Oper} {o:Oper} {next:AF→AH→Prop} (h:vcDo cx (gopOf ops o) next Q A H) {S0:Nat→Prop} {H0:AH} {w0:World} (k:Step S0 H0 w0 S H w) (hs:Sim S H w) (hf:RvF cx.N S w A a) (nx:Act→World→Prop)
 (h1:∀ S' H' A' a' w',Step S0 H0 w0 S' H' w'→Sim S' H' w'→RvF cx.N S' w' A' a'→next A' H'→nx a' w') :
 o.wpIn (Xp cx.P cx.ro) 0 cx.P a w nx (LQ cx Q S0 H0 w0):=by
 refine ⟨?_,?_⟩
 ·obtain ⟨hd,h⟩:=h;cases hop:o.op with
  | defer c=>intro f hf'; simp [Oper.about,hop] at hf'
  | _ =>
    refine ZlL (cx:=cx) (H:=H) (K:=vcK next Q o.dst A) ?_ hs hf;simp only [gopOf,hop] at h ⊢;exact h
 obtain ⟨hd,h⟩:=h
 have hd':∀ d,o.dst=some d→d<cx.N:=fun d e=>by
  have hd2:dOk cx.N o.dst:=hd;rw [e] at hd2;exact hd2
 cases hop:o.op with
 | defer c =>
   have h':ZgG cx c o.dst A H next:=by
    simp only [gopOf,hop] at h;exact h
   exact Zib h' hd hs hf o hop rfl nx _ fun A' a' g1 g2=>h1 S H A' a' w k hs g1 g2
 | _ =>
   all_goals
    have h':vcOp cx o.op A H (vcK next Q o.dst A):=by
     simp only [gopOf,hop] at h ⊢;exact h
    refine ZlK h' S w a hs hf nx _ ?_ ?_
    ·intro S' H' x u w' g1 g2 g3 g4;exact h1 S' H' _ _ w' (k.trans g1) g2 ((hf.step hs g1).put hd' g3) g4
    ·intro S' H' ch w' g1 g2 g4;exact ⟨by simp,S',H',A,k.trans g1,g2,hf.step hs g1,g4⟩
theorem Zjo {ops:Array Oper} {o:Oper} (hg:gOk ops o=true) (hf:RvF cx.N S w A a) {b want:Bool} {d:Tmp} (he:(gopOf ops o).g=some (d,want)) (hb:A.t d=.lit (.bool b)) (hN:d<a.tmps.size) :
 Region.wanted o (yielded ops a.tmps)=(b == want):=by
 have hr:=hf.2.2 d;rw [hb] at hr;have hr':a.tmps.getD d undef=.bool b:=hr;simp only [gopOf] at he;cases hgd:o.guard with
 | none=>simp [hgd] at he
 | some p =>
   obtain ⟨j,w'⟩:=p;simp only [hgd,ZpH,Zp9,Prod.mk.injEq] at he;obtain ⟨d',hj,rfl,rfl⟩:=he
   have ht:a.tmps[d']?=some (.bool b):=by
    rw [Array.getElem?_eq_getElem hN]
    congr 1
    simpa [Array.getD,hN] using hr'
   simp only [Region.wanted,hgd,yielded,hj,ZpH,ht];cases b<;>cases w'<;>rfl
theorem Zgl {ts:Array Value} {d:Nat} {b:Bool} (h:ts.getD d undef=.bool b):d<ts.size:=by
 rcases ZpJ d ts.size with h1 | h1
 ·exact h1
 ·rw [Array.getD_eq_getD_getElem?,Array.getElem?_eq_none h1] at h;cases h
theorem ZgI {ops:Array Oper} {o:Oper} (hf:RvF cx.N S w A a) {want:Bool} {d:Tmp} {vs:Array Value} (he:(gopOf ops o).g=some (d,want)) (hb:A.t d=.lit (.tuple vs)):Region.wanted o (yielded ops a.tmps)=false:=by
 have hr:=hf.2.2 d;rw [hb] at hr;have hr':a.tmps.getD d undef=.tuple vs:=hr;simp only [gopOf] at he;cases hgd:o.guard with
 | none=>simp [hgd] at he
 | some p =>
   obtain ⟨j,w'⟩:=p;simp only [hgd,ZpH,Zp9,Prod.mk.injEq] at he;obtain ⟨d',hj,rfl,rfl⟩:=he;simp only [Region.wanted,hgd,yielded,hj,ZpH];rcases ZpJ d' a.tmps.size with hlt | hge
   ·have ht:a.tmps[d']?=some (.tuple vs):=by
     rw [Array.getElem?_eq_getElem hlt]
     congr 1
     simpa [Array.getD,hlt] using hr'
    rw [ht]; cases w'<;>rfl
   ·rw [Array.getElem?_eq_none hge]; cases w'<;>rfl
theorem Zc2 {ops:Array Oper} {o:Oper} {next:AF→AH→Prop} (hg:gOk ops o=true) (h:vcG cx (gopOf ops o) next Q A H) {S0:Nat→Prop} {H0:AH} {w0:World} (k:Step S0 H0 w0 S H w) (hs:Sim S H w) (hf:RvF cx.N S w A a) (nx:Act→World→Prop)
 (h1:∀ S' H' A' a' w',Step S0 H0 w0 S' H' w'→Sim S' H' w'→RvF cx.N S' w' A' a'→next A' H'→nx a' w') :
 if Region.wanted o (yielded ops a.tmps) then o.wpIn (Xp cx.P cx.ro) 0 cx.P a w nx (LQ cx Q S0 H0 w0) else (∀ f,o.about cx.P w a.eval=some f→(Xp cx.P cx.ro).fn f)∧nx (a.put o.dst undef) w:=by
 unfold vcG at h;split at h
 ·rename_i he
  have hw:Region.wanted o (yielded ops a.tmps)=true:=by
   simp only [gopOf] at he;unfold gOk at hg;cases hgd:o.guard with
   | none=>simp [Region.wanted,hgd]
   | some p =>
     simp only [hgd] at hg he;obtain ⟨d,hd⟩:=Option.isSome_iff_exists.1 hg;rw [ZpH,hd] at he;cases he
  rw [if_pos hw];exact ZgH h k hs hf nx h1
 ·rename_i d want he;split at h
  ·rename_i b hb;have hr:=hf.2.2 d;rw [hb] at hr;have hw:=Zjo hg hf he hb (Zgl hr);rw [hw];split at h
   ·rename_i e;rw [if_pos (by simp [e])];exact ZgH h k hs hf nx h1
   ·rename_i e;rw [if_neg (by simpa using e)];refine ⟨ZbW h.2.1 hf,h1 S H _ _ w k hs (RvF.put hf (x:=ZJ) (u:=undef) ?_ rfl) h.2.2⟩;intro d' hd';have h2:dOk cx.N o.dst:=h.1;rw [hd'] at h2;exact h2
  ·rename_i vs hb;have hw:=ZgI (ops:=ops) (o:=o) hf he hb;rw [if_neg (by simp [hw])];refine ⟨ZbW h.2.1 hf,h1 S H _ _ w k hs (RvF.put hf (x:=ZJ) (u:=undef) ?_ rfl) h.2.2⟩;intro d' hd';have h2:dOk cx.N o.dst:=h.1;rw [hd'] at h2;exact h2
  ·exact h.elim
theorem ZiD {ops:Array Oper}:∀ (is:List Nat) (l:List Oper) (A:AF) (H:AH) (S:Nat→Prop) (w:World) (a:Act) (S0:Nat→Prop) (H0:AH) (w0:World),
 (∀ j:Nat,l[j]?=(is[j]?).bind fun i:Nat=>ops[i]?)→is.length=l.length→(∀ o∈l,gOk ops o=true)→vcL cx (l.map (gopOf ops)) Q A H→Step S0 H0 w0 S H w→Sim S H w→RvF cx.N S w A a →
 wpOpsIn (Xp cx.P cx.ro) 0 cx.P ops (LQ cx Q S0 H0 w0) is a w
 | [],l,A,H,S,w,a,S0,H0,w0,hl,hlen,hg,h,k,hs,hf=>by
   have:l=[]:=ZpY (by simpa using hlen.symm)
   subst this;exact ⟨by simp,S,H,A,k,hs,hf,h⟩
 | i::is,[],A,H,S,w,a,S0,H0,w0,hl,hlen,hg,h,k,hs,hf=>by simp at hlen
 | i::is,o::l,A,H,S,w,a,S0,H0,w0,hl,hlen,hg,h,k,hs,hf=>by
   have ho:ops[i]?=some o:=by have:=hl 0; simpa using this.symm
   simp only [wpOpsIn,ho]
   exact Zc2 (hg o (by simp)) h k hs hf _ fun S' H' A' a' w' g1 g2 g3 g4 =>
    ZiD is l A' H' S' w' a' S0 H0 w0 (fun j=>by have:=hl (j+1); simpa using this) (by simpa using hlen) (fun o' ho'=>hg o' (by simp [ho'])) g4 g1 g2 g3
theorem Zn1 {id:Nat} {ops:Array Oper} (hg:ops.all (gOk ops)=true) (h:vcL cx (ops.toList.map (gopOf ops)) Q A H):AC cx (.region id ops false) Q A H:=by
 intro S w a hs hf;refine wpIn_region (ZiD (List.range ops.size) ops.toList A H S w a S H w ?_ (by simp) ?_ h (.refl _ _ _) hs hf)
 ·intro j;by_cases hj:j<ops.size
  ·rw [List.getElem?_range hj];simp
  ·rw [Zqd (by simpa using hj),Zqd (by simpa using hj)];rfl
 ·intro o ho;exact Array.all_eq_true_iff_forall_mem.1 hg o (by simpa using ho)
end
end Go.PV
end
section
open Bool renaming false_eq_true→ZpT
namespace Go.PV
def scalT (P:Program) (t:TypeId):Bool :=
 match P.underlying t with
 | some (.int _)=>true
 | some .string=>true
 | some .bool=>true
 | some (.struct _)=>true
 | some (.array _ _)=>true
 | _=>false
def Zic (P:Program):Op→Bool
 | .move _=>true
 | .assign _=>true
 | .pick _ _ _=>true
 | .load _ _=>true
 | .nilCheck _=>true
 | .unOp _ _ _=>true
 | .convert _ _ _=>true
 | .makeInterface _ _=>true
 | .fieldAddr _ _ _=>true
 | .field _ _ _=>true
 | .indexAddr _ _ _=>true
 | .extract _ _=>true
 | .makeFunc _ _ _=>true
 | .slice _ _ _ _ _=>true
 | .build _ _=>true
 | .buildSlice _ _ _=>true
 | .index _ _ _=>true
 | .binOp op t _ _ _=>!(op matches .eql | .neq) || scalT P t
 | .call { callee:=.builtin .len,.. }=>true
 | .call { callee:=.builtin .max,.. }=>true
 | .call { callee:=.builtin .min,.. }=>true
 | _=>false
def preds (ops:Array Oper) (k:Nat):List Nat:=match ops[k]? with | some o=>o.after.toList.filterMap fun e=>if Region.binds .any e then some e.on else none | none=>[]
def clo (ops:Array Oper):Nat→List Nat→List Nat→List Nat
 | 0,rem,_=>rem
 | _+1,rem,[]=>rem
 | n+1,rem,k::work=>if rem.contains k then clo ops n (rem.filter (· != k)) (preds ops k++work) else clo ops n rem work
def ZmF (ops:Array Oper) (tail:List Nat):Bool :=
 tail.all fun t=>(clo ops (ops.size * 20+20) (List.range ops.size) (preds ops t)).all fun k=>tail.contains k
def Zcq (ops:Array Oper):Nat→Array Bool→List Nat
 | 0,_=>[]
 | n+1,listed=>match Region.ready .any ops listed with
   | []=>[]
   | i::_=>i::Zcq ops n (listed.setIfInBounds i true)
def Zdr (ops:Array Oper) (order:List Nat):Nat→List Nat
 | 0=>[]
 | n+1 =>
   let t:=order.drop n
   if ZmF ops t then (let t':=Zdr ops order n; if t'.isEmpty then t else t') else []
def Zid (ops:Array Oper) (n:Nat):List Nat:=Zdr ops (Zcq ops n (Array.replicate n false)) n
inductive GPlan where
 | fin
 | tk (i:Nat) (o:GOp) (p:GPlan)
 | one (need:List Nat) (o:GOp) (p:GPlan)
 | two (need:List Nat) (o:GOp) (p:GPlan) (need':List Nat) (o':GOp) (p':GPlan)
 | cut (o:GOp) (p:GPlan)
def Zcr (ops:Array Oper) (i:Nat):List Nat:=clo ops (ops.size * 20+20) (List.range ops.size) (preds ops i)
def Zgp:Op→Bool
 | .move _ | .assign _ | .nilCheck _ | .fieldAddr _ _ _=>true
 | _=>false
def cutOf (ops:Array Oper) (tail:List Nat):Option Nat :=
 match ((Zcq ops ops.size (Array.replicate ops.size false)).drop (ops.size-tail.length-1)).head? with
 | some j=>if (clo ops (ops.size * 20+20) (List.range ops.size) (preds ops j)).all (fun k=>k == j || tail.contains k || (match ops[k]? with | some o=>Zgp o.op | none=>false)) then some j else none
 | none=>none
def rdy (ops:Array Oper) (stop:List Nat) (listed:Array Bool):List Nat:=(Region.ready .any ops listed).filter fun i=>!stop.contains i
def gAt (ops:Array Oper) (i:Nat):Option GOp:=(ops[i]?).map (gopOf ops)
def isTk (P:Program) (ops:Array Oper) (listed:Array Bool) (i:Nat):Bool:=(match ops[i]? with | some o=>Zic P o.op | none=>false) && Region.free .any ops listed i
def planT (P:Program) (ops:Array Oper) (stop:List Nat) (full:Array Bool) (cut:Option Nat):Nat→Array Bool→Option GPlan
 | 0,listed=>if listed == full && (rdy ops stop listed).isEmpty then some .fin else none
 | n+1,listed =>
   if listed == full && (rdy ops stop listed).isEmpty then some .fin else
   match (rdy ops stop listed).find? (fun i=>isTk P ops listed i && cut != some i) with
   | some i=>(match gAt ops i,planT P ops stop full cut n (listed.setIfInBounds i true) with
     | some o,some p=>some (.tk i o p)
     | _,_=>none)
   | none =>
     match rdy ops stop listed with
     | [i]=>(match gAt ops i,planT P ops stop full cut n (listed.setIfInBounds i true) with
       | some o,some p=>some (if cut == some i then .cut o p else .one (Zcr ops i) o p)
       | _,_=>none)
     | [i,j]=>(match gAt ops i,planT P ops stop full cut n (listed.setIfInBounds i true),gAt ops j,planT P ops stop full cut n (listed.setIfInBounds j true) with
       | some o,some p,some o',some p'=>some (.two (Zcr ops i) o p (Zcr ops j) o' p')
       | _,_,_,_=>none)
     | _=>none
def planS (ops:Array Oper):Nat→Array Bool→Option (List Nat)
 | 0,listed=>if (Region.ready .any ops listed).isEmpty then some [] else none
 | n+1,listed =>
   match Region.ready .any ops listed with
   | [i]=>(planS ops n (listed.setIfInBounds i true)).map fun p=>i::p
   | _=>none
inductive ACode where
 | skip
 | reg (l:List GOp)
 | dreg (p:GPlan) (tail:List GOp)
 | seq (a b:ACode)
 | seqL (a b:ACode)
 | cond (c:Operand) (a b:ACode)
 | block (id:Nat) (a:ACode)
 | loop (a:ACode)
 | exit (id:Nat)
 | ret
 | scope (a:ACode)
 | rfunc (f:Operand) (ps:Array Tmp) (assign body:ACode)
 | bad
def fullOf (ops:Array Oper) (tail:List Nat):Array Bool:=((List.range ops.size).map fun i=>!tail.contains i).toArray
def YY (P:Program) (ops:Array Oper):ACode :=
 let tail:=Zid ops ops.size
 if ops.all (gOk ops) && Region.noSelect ops && ops.all (fun o=>!isDefer o.op) && ZmF ops tail then
  match planT P ops tail (fullOf ops tail) (cutOf ops tail) (ops.size-tail.length) (Array.replicate ops.size false),planS ops tail.length (fullOf ops tail) with
  | some p,some q=>.dreg p (q.filterMap (gAt ops))
  | _,_=>.bad
 else .bad
def Zch:ACode→Bool
 | .seq a b=>Zch a || Zch b
 | .seqL a b=>true
 | .cond _ a b=>Zch a || Zch b
 | .block _ a=>Zch a
 | .scope a=>Zch a
 | .loop _=>true
 | .rfunc _ _ _ _=>true
 | _=>false
def ZS (P:Program):Code→ACode
 | .skip=>.skip
 | .region _ ops draw=>if draw then YY P ops else if ops.all (gOk ops) then .reg (ops.toList.map (gopOf ops)) else .bad
 | .seq a b=>if Zch (ZS P a) then .seqL (ZS P a) (ZS P b) else .seq (ZS P a) (ZS P b)
 | .cond c a b=>.cond c (ZS P a) (ZS P b)
 | .block id c=>.block id (ZS P c)
 | .loop c=>.loop (ZS P c)
 | .rangeFunc f ps a b=>.rfunc f ps (ZS P a) (ZS P b)
 | .exit id=>.exit id
 | .scope c=>.scope (ZS P c)
 | .label _=>.skip
 | .goto _=>.bad
 | .ret=>.ret
 | .refuse _=>.bad
def ACx (cx:Cx) (a:ACode) (Q:APost) (A:AF) (H:AH):Prop:=∀ c,ZS cx.P c=a→AC cx c Q A H
def vc (cx:Cx):ACode→APost→AF→AH→Prop
 | .skip,Q=>Q .normal
 | .reg l,Q=>vcL cx l Q
 | .seq a b,Q=>vc cx a (thenA (vc cx b Q) Q)
 | .seqL a b,Q=>vc cx a (thenA (ACx cx b Q) Q)
 | .cond c a b,Q=>fun A H=>match A.eval c with | .lit (.bool t)=>(if t=true then vc cx a Q A H else vc cx b Q A H) | _=>False
 | .block id a,Q=>vc cx a (Xf id Q)
 | .exit id,Q=>Q (.exit id)
 | .ret,Q=>Q .ret
 | .scope a,Q=>vc cx a Q
 | .bad,Q=>fun _ _=>False
 | a,Q=>ACx cx a Q
section
variable {cx:Cx} {Q:APost} {A:AF} {H:AH}
theorem ZkF {P:Program} {b:Frame} {a:Act} {k:List Item} {cs:List Frame} {w:World} {c:Code} :
 step P (lone (b.atR a (.code (.scope c)::k)) cs w)=.next (lone (b.atR a (.code c::.inScope c::k)) cs w) :=
 step_lone_go (by simp [stepG,stepG.exec,Frame.atR])
theorem Zie {P:Program} {b:Frame} {a:Act} {k:List Item} {cs:List Frame} {w:World} {c:Code} :
 step P (lone (b.atR a (.inScope c::k)) cs w)=.next (lone (b.atR a k) cs w) :=
 step_lone_go (by simp [stepG,stepG.exec,Frame.atR])
def Zbi (Q:APost):Prop:=∀ l A H,¬ Q (.goto l) A H
theorem Zk3 {c:Code} (hQ:Zbi Q) (h:AC cx c Q A H):AC cx (.scope c) Q A H:=by
 intro S w a hs hf b k cs hro hb hr;obtain ⟨e,a₁,w₁,hq,harr⟩:=h S w a hs hf b (.inScope c::k) cs hro hb hr;have h0:=StepsIn.one (P:=cx.P) (fenced_calm (P:=cx.P) (F:=Xp cx.P cx.ro) (fr:=b.atR a (.code (.scope c)::k)) (w:=w) hb hr rfl) ZkF;cases e with
 | normal=>exact ⟨.normal,a₁,w₁,hq,h0.trans (StepsIn.trans harr (.one (fenced_calm (fr:=b.atR a₁ (.inScope c::k)) hb hr rfl) Zie))⟩
 | exit id=>exact ⟨_,a₁,w₁,hq,⟨fun k' hk=>h0.trans (harr.1 k' (by simpa [exitTo] using hk)),fun hr' hk=>by
    obtain ⟨k₁,h1,h2⟩:=harr.2 hr' (by simpa [exitTo] using hk);exact ⟨k₁,h1,h0.trans h2⟩⟩⟩
 | goto l=>obtain ⟨_,S',H',A',_,_,_,h4⟩:=hq; exact absurd h4 (hQ l A' H')
 | ret=>exact ⟨_,a₁,w₁,hq,.of_steps h0 harr⟩
 | panic ch=>exact ⟨_,a₁,w₁,hq,.of_steps h0 harr⟩
 | outgrown=>exact absurd rfl hq.1
theorem Jk:∀ (c:Code) (Q:APost) (A:AF) (H:AH),Zbi Q→vc cx (ZS cx.P c) Q A H→AC cx c Q A H
 | .skip,Q,A,H,_,h=>ac_skip h
 | .region id ops draw,Q,A,H,_,h=>by
   by_cases hd:draw=true
   ·subst hd;have e:ZS cx.P (.region id ops true)=YY cx.P ops:=by simp [ZS]
    rw [e] at h
    have:vc cx (YY cx.P ops) Q A H→ACx cx (YY cx.P ops) Q A H:=by
     unfold YY;dsimp only;split
     ·split
      ·exact fun h=>h
      ·exact fun h=>h.elim
     ·exact fun h=>h.elim
    exact this h _ e
   ·have hd':draw=false:=by simpa using hd
    subst hd';simp only [ZS,ZpT,if_false] at h;split at h
    ·rename_i hg; exact Zn1 hg h
    ·exact h.elim
 | .seq x y,Q,A,H,hQ,h=>by
   have key:∀ K:AF→AH→Prop,(∀ A H,K A H→AC cx y Q A H)→vc cx (ZS cx.P x) (thenA K Q) A H→AC cx (.seq x y) Q A H:=by
    intro K hK h;refine Zj7 ((Jk x (thenA K Q) A H (fun l A H=>hQ l A H) h).mono ?_);intro e A' H' hq;cases e with
    | normal=>exact hK A' H' hq
    | _=>exact hq
   simp only [ZS] at h;split at h
   ·exact key (ACx cx (ZS cx.P y) Q) (fun A H h=>h _ rfl) (by simpa only [vc] using h)
   ·exact key (vc cx (ZS cx.P y) Q) (fun A H h=>Jk y Q A H hQ h) (by simpa only [vc] using h)
 | .cond c x y,Q,A,H,hQ,h=>by
   simp only [ZS,vc] at h;split at h
   ·rename_i t ht;refine Znf ht ?_;cases t
    ·exact Jk y Q A H hQ (by simpa using h)
    ·exact Jk x Q A H hQ (by simpa using h)
   ·exact h.elim
 | .block id c,Q,A,H,hQ,h=>Zhv (Jk c (Xf id Q) A H (fun l A H=>hQ l A H) h)
 | .loop c,Q,A,H,hQ,h=>h _ rfl
 | .rangeFunc f ps a b,Q,A,H,hQ,h=>h _ rfl
 | .exit id,Q,A,H,_,h=>ac_exit h
 | .scope c,Q,A,H,hQ,h=>Zk3 hQ (Jk c Q A H hQ h)
 | .label l,Q,A,H,_,h=>ac_label h
 | .goto l,Q,A,H,_,h=>h.elim
 | .ret,Q,A,H,_,h=>ac_ret h
 | .refuse _,Q,A,H,_,h=>h.elim
end
end Go.PV
end
section
open List renaming getD_eq_getElem?_getD→Zqj,getElem?_eq_none→Zqd
open Nat renaming le_refl→Zpl
open Option renaming map_eq_some_iff→Zp9
namespace Go.PV
section
variable {cx:Cx} {Q:APost} {A:AF} {H:AH}
theorem Zds {a:ACode} (hQ:Zbi Q) (h:vc cx a Q A H):ACx cx a Q A H:=fun c hc=>by subst hc; exact Jk c Q A H hQ h
theorem ZY {a:ACode} (hQ:Zbi Q) (I:AF→AH→Prop) (μ:AF→AH→Nat) (h0:I A H)
 (round:∀ A H,I A H→vc cx a (thenA (fun A' H'=>I A' H'∧μ A' H'<μ A H) Q) A H):ACx cx (.loop a) Q A H:=by
 intro c hc;cases c with
 | loop c =>
   simp only [ZS,ACode.loop.injEq] at hc;subst hc;exact Zng I μ h0 fun A H hI=>Jk c _ A H (fun l A H=>hQ l A H) (round A H hI)
 | region id ops draw =>
   exfalso
   unfold ZS YY at hc;split at hc
   ·dsimp only at hc;split at hc
    ·split at hc<;>cases hc
    ·cases hc
   ·split at hc<;>cases hc
 | seq x y=>simp only [ZS] at hc; split at hc<;>cases hc
 | _=>simp [ZS] at hc
end
def SubH (H' H:AH):Prop:=∀ r b,H' r=some b→H r=some b
theorem SubH.refl (H:AH):SubH H H:=fun _ _ h=>h
theorem SubH.nil (H:AH):SubH AH.nil H:=fun _ _ h=>by cases h
theorem SubH.of_set {H' H:AH} {r:Nat} {b:Blk} (h:SubH H' H) (hr:H' r=none):SubH H' (H.set r b):=fun i c hi=>by
 by_cases e:i=r
 ·subst e; rw [hr] at hi; cases hi
 ·rw [AH.set_ne _ _ e]; exact h i c hi
theorem Sim.sub {S:Nat→Prop} {H H':AH} {w:World} (h:Sim S H w) (hsub:SubH H' H):Sim S H' w∧Step S H w S H' w :=
 ⟨⟨fun r b hb=>h.blk r b (hsub r b hb),fun r b hb=>h.dis r b (hsub r b hb),h.lt⟩,⟨rfl,rfl,rfl,Zpl _,fun _ h=>h,fun _ _ _=>rfl,fun r hr=>by
   cases e:H' r with
   | none=>exact absurd e hr
   | some b=>exact .inl (by rw [hsub r b e]; simp),fun _ h=>.inl h⟩⟩
def GhV (H:AH) (x:VV) (H':AH) (x':VV):Prop:=∀ S w u,Sim S H w→Rv S w x u→∃ S',Step S H w S' H' w∧Sim S' H' w∧Rv S' w x' u
def GhL (H:AH) (xs:List VV) (H':AH) (xs':List VV):Prop:=∀ S w us,Sim S H w→RvL S w xs us→∃ S',Step S H w S' H' w∧Sim S' H' w∧RvL S' w xs' us
section
variable {H H' H'' H0:AH} {x x' x'':VV} {xs xs':List VV}
theorem GhV.refl (H:AH) (x:VV):GhV H x H x:=fun S w u hs hx=>⟨S,.refl _ _ _,hs,hx⟩
theorem GhV.trans (h:GhV H x H' x') (k:GhV H' x' H'' x''):GhV H x H'' x'':=fun S w u hs hx=>by
 obtain ⟨S1,a1,a2,a3⟩:=h S w u hs hx;obtain ⟨S2,b1,b2,b3⟩:=k S1 w u a2 a3;exact ⟨S2,a1.trans b1,b2,b3⟩
theorem GhV.forget (h:SubH H' H) (x:VV):GhV H x H' x:=fun S w u hs hx=>⟨S,(hs.sub h).2,(hs.sub h).1,hx⟩
theorem GhV.slice {r n c:Nat} {e:TypeId} {cs:List VV} {sp:Nat} (hr:H r=some (.cells e cs sp)) (hn:n≤c) :
 GhV H (.lit (.slice (some ⟨r,0,none⟩) n c)) (H.del r) (.slice false n cs):=fun S w u hs hx=>by
 obtain rfl:=hx;obtain ⟨h1,h2⟩:=hs.freeze hr;refine ⟨_,h2,h1,_,c,rfl,⟨hn,fun h=>by cases h⟩,fun _=>⟨r,0,rfl,.inr rfl,?_⟩⟩
 have:=((hs.blk r _ hr).mono (S':=fun i=>S i∨i=r) (w':=w) (fun i hi=>⟨.inl hi,rfl⟩) rfl).cells_at 0
 simpa using this
theorem GhV.ptr {r:Nat} {e:TypeId} {cs:List VV} {sp:Nat} (hr:H r=some (.cells e cs sp)):GhV H (ptrV r 0) (H.del r) (.iptr cs):=fun S w u hs hx=>by
 obtain rfl:=hx;obtain ⟨h1,h2⟩:=hs.freeze hr;refine ⟨_,h2,h1,r,0,rfl,.inr rfl,?_⟩
 have:=((hs.blk r _ hr).mono (S':=fun i=>S i∨i=r) (w':=w) (fun i hi=>⟨.inl hi,rfl⟩) rfl).cells_at 0
 simpa using this
theorem GhV.own {e:TypeId} {k n:Nat} {cs:List VV} (h:OwnX H0 H e k x n cs):GhV H x H0 (.slice false n cs):=by
 rcases h with ⟨rfl,rfl,rfl,rfl⟩ | ⟨g,c,sp,rfl,h0,rfl,h1,h2,h3,h4⟩
 ·exact fun S w u hs hx=>by
   obtain rfl:=hx;exact ⟨S,.refl _ _ _,hs,none,0,rfl,⟨Zpl _,fun h=>by cases h⟩,fun h=>absurd h (by omega)⟩
 ·have:=GhV.slice (n:=n) (c:=c) (AH.set_same H0 g (.cells e cs sp)) h3
  rwa [AH.del_set _ _ _ h0] at this
theorem GhL.nil (H:AH):GhL H [] H []:=fun S w us hs hx=>⟨S,.refl _ _ _,hs,hx⟩
theorem GhL.cons (h:GhV H x H' x') (k:GhL H' xs H'' xs'):GhL H (x::xs) H'' (x'::xs'):=fun S w us hs hx=>by
 obtain ⟨u,us',rfl,hx1,hx2⟩:=hx;obtain ⟨S1,a1,a2,a3⟩:=h S w u hs hx1;obtain ⟨S2,b1,b2,b3⟩:=k S1 w us' a2 (hx2.step hs a1);exact ⟨S2,a1.trans b1,b2,u,us',rfl,a3.step a2 b1,b3⟩
theorem GhL.refl (H:AH) (xs:List VV):GhL H xs H xs:=fun S w us hs hx=>⟨S,.refl _ _ _,hs,hx⟩
theorem GhV.agg (h:GhL H xs H' xs'):GhV H (.agg xs) H' (.agg xs'):=fun S w u hs hx=>by
 obtain ⟨vs,rfl,hl⟩:=hx;obtain ⟨S1,a1,a2,a3⟩:=h S w _ hs hl;exact ⟨S1,a1,a2,vs,rfl,a3⟩
theorem GhV.tuple (h:GhL H xs H' xs'):GhV H (.tuple xs) H' (.tuple xs'):=fun S w u hs hx=>by
 obtain ⟨vs,rfl,hl⟩:=hx;obtain ⟨S1,a1,a2,a3⟩:=h S w _ hs hl;exact ⟨S1,a1,a2,vs,rfl,a3⟩
theorem GhV.iface {t:TypeId} (h:GhV H x H' x'):GhV H (.iface t x) H' (.iface t x'):=fun S w u hs hx=>by
 obtain ⟨v,rfl,hl⟩:=hx;obtain ⟨S1,a1,a2,a3⟩:=h S w _ hs hl;exact ⟨S1,a1,a2,v,rfl,a3⟩
theorem GhV.imm {ex:Bool} {n:Nat} {cs:List VV} (H:AH):GhV H (.slice ex n cs) H (.slice false n cs):=fun S w u hs hx=>by
 obtain ⟨a,cap,rfl,⟨h1,_⟩,h3⟩:=hx;exact ⟨S,.refl _ _ _,hs,a,cap,rfl,⟨h1,fun h=>by cases h⟩,h3⟩
end
def Ghost (N:Nat) (A:AF) (H:AH) (A':AF) (H':AH):Prop:=∀ S w a,Sim S H w→RvF N S w A a→∃ S',Step S H w S' H' w∧Sim S' H' w∧RvF N S' w A' a
theorem Ghost.forget {N:Nat} {A:AF} {H H':AH} (h:SubH H' H):Ghost N A H A H':=fun S w a hs hf=>⟨S,(hs.sub h).2,(hs.sub h).1,hf⟩
theorem Ghost.slot {N:Nat} {A:AF} {H H':AH} {i:Nat} {x':VV} (h:GhV H (A.t i) H' x'):Ghost N A H { A with t:=upd A.t i x' } H':=fun S w a hs hf=>by
 obtain ⟨S1,a1,a2,a3⟩:=h S w _ hs (hf.2.2 i);refine ⟨S1,a1,a2,hf.1,hf.2.1,fun j=>?_⟩;simp only [upd];split
 ·rename_i e; subst e; exact a3
 ·exact (hf.2.2 j).step hs a1
theorem JY {cx:Cx} {a:ACode} {Q:APost} {A A':AF} {H H':AH} (g:Ghost cx.N A H A' H') (h:ACx cx a Q A' H'):ACx cx a Q A H:=fun c hc S w ac hs hf=>by
 obtain ⟨S1,a1,a2,a3⟩:=g S w ac hs hf;exact wpIn_mono (h c hc S1 w ac a2 a3) fun _ _ _ hq=>hq.lift a1
theorem YU {P:Program} {f:FuncId} {xs xs':List VV} {H H':AH} {K:VE→AH→Prop} (g:GhL H xs H' xs') (h:ZU P f xs' H' K):ZU P f xs H K:=fun S w args hs hx=>by
 obtain ⟨S1,a1,a2,a3⟩:=g S w _ hs hx;exact (h S1 w args a2 a3).mono fun _ _ hq=>hq.lift a1
def Xh (P:Program) (A:AF) (H:AH):ResultVar→Option VV
 | .tmp t=>some (A.t t)
 | .cell a ty =>
   match ldT P ty,A.t a with
   | some (n,ag),.lit (.pointer (some ⟨r,o,none⟩))=>(match H r with | some (.cells _ cs _)=>ldV n ag (cs.drop o) | _=>none)
   | _,_=>none
def Xi (P:Program) (A:AF) (H:AH):List ResultVar→Option (List VV)
 | []=>some []
 | r::rs=>(Xh P A H r).bind fun x=>(Xi P A H rs).map fun xs=>x::xs
def tupV:List VV→VV
 | [x]=>x
 | xs=>.tuple xs
def resV (P:Program) (rs:List ResultVar) (A:AF) (H:AH):Option VV:=(Xi P A H rs).map tupV
def YP (P:Program) (rs:List ResultVar) (K:VE→AH→Prop):APost
 | .normal=>fun A H=>A.d=[]∧∃ x H' x',resV P rs A H=some x∧GhV H x H' x'∧K (.ret x') H'
 | .ret=>fun A H=>A.d=[]∧∃ x H' x',resV P rs A H=some x∧GhV H x H' x'∧K (.ret x') H'
 | .panic ch=>fun A H=>A.d=[]∧∃ H',SubH H' H∧K (.pan ch) H'
 | _=>fun _ _=>False
def Zj9 (ts:Array Value):ResultVar→Sem Value
 | .tmp t=>pure (ts.getD t undef)
 | .cell b t=>do loadVar t (← asAddr (ts.getD b undef))
theorem ZeA {P:Program} {A:AF} {H:AH} {S:Nat→Prop} {w:World} {N:Nat} {a:Act} (hs:Sim S H w) (hf:RvF N S w A a):∀ {rs:List ResultVar} {xs:List VV},Xi P A H rs=some xs →
 ∃ us,(rs.mapM (Zj9 a.tmps)).run P w=.ok us w∧RvL S w xs us
 | [],xs,h=>by simp [Xi] at h; subst h; exact ⟨[],by simp,by simp [RvL]⟩
 | r::rs,xs,h=>by
   simp only [Xi,Option.bind_eq_some_iff,Zp9] at h;obtain ⟨x,h1,xs',h2,rfl⟩:=h;obtain ⟨us,g1,g2⟩:=ZeA hs hf h2
   have hone:∃ u,(Zj9 a.tmps r).run P w=.ok u w∧Rv S w x u:=by
    cases r with
    | tmp t=>simp [Xh] at h1; subst h1; exact ⟨_,rfl,hf.2.2 t⟩
    | cell b ty =>
      simp only [Xh] at h1;split at h1
      ·rename_i n ag r o hl ha;split at h1
       ·rename_i e cs sp hb;obtain ⟨u,q1,q2⟩:=ZbV (w:=w) (S:=S) hl ((hs.blk r _ hb).cells_at o) h1;have hp:=hf.2.2 b;rw [ha] at hp;have hp':a.tmps.getD b undef=.pointer (some ⟨r,o,none⟩):=hp;exact ⟨u,by simp only [Zj9,hp',asAddr,Sem.run_bind,Sem.run_pure,Result.andThen_ok,q1],q2⟩
       ·cases h1
      ·cases h1
   obtain ⟨u,q1,q2⟩:=hone;refine ⟨u::us,?_,u,us,rfl,q2,g2⟩;rw [List.mapM_cons];simp only [Sem.run_bind,q1,g1,Result.andThen_ok,Sem.run_pure]
theorem Zb8 {P:Program} {A:AF} {H:AH} {S:Nat→Prop} {w:World} {N:Nat} {a:Act} (hs:Sim S H w) (hf:RvF N S w A a) {fn:Func} {x:VV} (h:resV P fn.results.toList A H=some x) :
 ∃ u,(results fn a.tmps).run P w=.ok u w∧Rv S w x u:=by
 simp only [resV,Zp9] at h;obtain ⟨xs,h1,rfl⟩:=h;obtain ⟨us,g1,g2⟩:=ZeA hs hf h1
 have hr:(results fn a.tmps).run P w=.ok (if h:us.toArray.size=1 then us.toArray[0] else .tuple us.toArray) w:=by
  have e:results fn a.tmps=((fn.results.mapM (Zj9 a.tmps)) >>= fun vs=>pure (if h:vs.size=1 then vs[0] else .tuple vs)):=by
   unfold results
   congr 1
  rw [e,Array.mapM_eq_mapM_toList];simp only [Sem.run_bind,Sem.run_map,g1,Result.andThen_ok,Sem.run_pure]
 refine ⟨_,hr,?_⟩
 match xs,us,g2 with
 | [x],us,g2 =>
   obtain ⟨u,rfl,hu⟩:=g2.one1;simpa [tupV] using hu
 | [],us,g2 =>
   simp [RvL] at g2; subst g2;exact ⟨#[],by simp,by simp [RvL]⟩
 | x::y::xs,us,g2 =>
   have hl:=g2.length
   have:¬ us.toArray.size=1:=by simp at hl ⊢; omega
   rw [dif_neg this];exact ⟨us.toArray,rfl,by simpa using g2⟩
structure FnD (P:Program) (f:FuncId) (N:Nat) (rs:List ResultVar) (a:ACode):Prop where
 out:∃ fn c,P.funcs[f]?=some fn∧fn.body=some c∧fn.ntmps=N∧fn.results.toList=rs∧ZS P c=a
theorem ZK {P:Program} {f N:Nat} {rs:List ResultVar} {a:ACode} (hd:FnD P f N rs a) {xs:List VV} {H:AH} {K:VE→AH→Prop} (hN:xs.length≤N)
 (h:vc ⟨P,N,none⟩ a (YP P rs K) ⟨fun i=>xs.getD i ZJ,[]⟩ H):ZU P f xs H K:=by
 obtain ⟨fn,c,hf,hb,rfl,rfl,rfl⟩:=hd;intro S w args hs hx;refine callsIn_of_wp hf hb (show (P.funcs[f]?).isSome=true by rw [hf]; rfl) ?_ rfl;have hl:args.size=xs.length:=by simpa using hx.length
 have hfr:RvF fn.ntmps S w ⟨fun i=>xs.getD i ZJ,[]⟩ { tmps:=args++Array.replicate (fn.ntmps-args.size) undef,defers:=[] }:=by
  refine ⟨by simp; omega,rfl,fun i=>?_⟩
  have:=RvL.get i hx
  by_cases hi:i<args.size
  ·have e:(args++Array.replicate (fn.ntmps-args.size) undef).getD i undef=args.toList.getD i undef:=by
    simp only [Array.getD_eq_getD_getElem?,Zqj];rw [Array.getElem?_append_left hi];simp
   rw [e]; exact this
  ·have e:(args++Array.replicate (fn.ntmps-args.size) undef).getD i undef=undef:=by
    simp only [Array.getD_eq_getD_getElem?];rw [Array.getElem?_append_right (by omega),Array.getElem?_replicate]
    split<;>rfl
   have e2:xs.getD i ZJ=ZJ:=by
    rw [Zqj,Zqd (by omega)];rfl
   show Rv S w (xs.getD i ZJ) _;rw [e,e2];rfl
 have hw:=Jk (cx:=⟨P,fn.ntmps,none⟩) c (YP P fn.results.toList K) _ H (fun _ _ _ h=>h) h S w _ hs hfr;refine wpIn_mono hw ?_;rintro e a' w' ⟨h0,S',H',A',h1,h2,h3,h4⟩
 have fin:A'.d=[]→(∃ x H'' x',resV P fn.results.toList A' H'=some x∧GhV H' x H'' x'∧K (.ret x') H'')→a'.defers=[]∧∃ v,(results fn a'.tmps).run P w'=.ok v w'∧RQ K S H w (.returned v) w':=by
  rintro hd ⟨x,H'',x',g1,g2,g3⟩;obtain ⟨u,q1,q2⟩:=Zb8 h2 h3 g1;obtain ⟨S'',p1,p2,p3⟩:=g2 S' w' u h2 q2;exact ⟨h3.2.1.trans hd,u,q1,S'',H'',x',h1.trans p1,p2,p3,g3⟩
 cases e with
 | normal=>exact fin h4.1 h4.2
 | ret=>exact fin h4.1 h4.2
 | panic ch =>
   obtain ⟨g1,H'',g2,g3⟩:=h4;exact ⟨h3.2.1.trans g1,S',H'',h1.trans (h2.sub g2).2,(h2.sub g2).1,g3⟩
 | exit id=>exact h4.elim
 | goto l=>exact h4.elim
 | outgrown=>exact absurd rfl h0
end Go.PV
end
