/- Part 6 of 10 of what the proof of Prio needs. -/
import Derived.Test.YtfkkmdelpddojaaPrio5
import Derived.Test.YtfkkmdelpddojaaPrio3
import Derived.KernelRfl
import Derived.Test.YtfkkmdelpddojaaPrio4
import Derived.DeepKeys4
set_option linter.unusedVariables false
set_option linter.unusedSimpArgs false
set_option linter.defProp false
section
open List renaming mem_singleton→Zm2
open Nat renaming beq→Zmf,eq_of_beq_eq_true→Zmk
namespace Go.PV
def beqV:Value→Value→Bool
 | .bool a,.bool b=>cond a b (!b)
 | .int k a,.int k' b=>cond (decide (k=k')) (decide (a=b)) false
 | .string a,.string b=>beqU a.data.toList b.data.toList
 | .pointer none,.pointer none=>true
 | .slice none 0 0,.slice none 0 0=>true
 | .map none,.map none=>true
 | .nilFunc,.nilFunc=>true
 | .nilIface,.nilIface=>true
 | .func (.func f) a b,.func (.func g) c d=>cond (Zmf f g) (match a.toList,b.toList,c.toList,d.toList with | [],[],[],[]=>true | _,_,_,_=>false) false
 | .tuple a,.tuple b=>(match a.toList,b.toList with | [],[]=>true | _,_=>false)
 | .agg a,.agg b=>cond (Zgw a.toList) (beqKL a.toList b.toList) false
 | _,_=>false
theorem Zft {a b:Value} (h:beqV a b=true):a=b:=by
 unfold beqV at h;split at h
 ·rename_i p q; cases p<;>cases q<;>simp_all
 ·obtain ⟨h1,h2⟩:=cond3 h;rw [of_decide_eq_true h1,of_decide_eq_true h2]
 ·rename_i s s'
  have:=(ZdC _ _).1 h
  cases s; cases s';simp only [Value.string.injEq,ByteArray.mk.injEq];exact Array.toList_inj.1 this
 ·rfl
 ·rfl
 ·rfl
 ·rfl
 ·rfl
 ·obtain ⟨h1,h2⟩:=cond3 h;split at h2
  ·rename_i e1 e2 e3 e4;rw [Zmk h1,Array.toList_inj.1 (e1.trans e3.symm),Array.toList_inj.1 (e2.trans e4.symm)]
  ·cases h2
 ·split at h
  ·rename_i e1 e2;rw [Array.toList_inj.1 (e1.trans e2.symm)]
  ·cases h
 ·obtain ⟨h1,h2⟩:=cond3 h;rw [Array.toList_inj.1 ((Zeg h1).1 h2)]
 ·cases h
def beqON:Option Nat→Option Nat→Bool
 | none,none=>true
 | some a,some b=>Zmf a b
 | _,_=>false
theorem ZiB {a b:Option Nat} (h:beqON a b=true):a=b:=by
 cases a<;>cases b<;>simp only [beqON] at h<;>first | rfl | cases h | (rw [Zmk h])
mutual
def beqEV:EV→EV→Bool
 | .lit v,.lit u=>beqV v u
 | .ptr k o,.ptr k' o'=>cond (Zmf k k') (Zmf o o') false
 | .sl k o n c d,.sl k' o' n' c' d'=>cond (Zmf k k') (cond (Zmf o o') (cond (Zmf n n') (cond (beqON c c') (Zmf d d') false) false) false) false
 | .es k o d lo s,.es k' o' d' lo' s'=>cond (Zmf k k') (cond (Zmf o o') (cond (Zmf d d') (cond (Zmf lo lo') (Zmf s s') false) false) false) false
 | .map k,.map k'=>Zmf k k'
 | .isl ex n cs,.isl ex' n' cs'=>cond (cond ex ex' (!ex')) (cond (Zmf n n') (beqEL cs cs') false) false
 | .iptr cs,.iptr cs'=>beqEL cs cs'
 | .agg cs,.agg cs'=>beqEL cs cs'
 | .tuple cs,.tuple cs'=>beqEL cs cs'
 | .func f a b,.func f' a' b'=>cond (Zmf f f') (cond (beqEL a a') (beqEL b b') false) false
 | .yield k,.yield k'=>Zmf k k'
 | .iface t v,.iface t' v'=>cond (Zmf t t') (beqEV v v') false
 | _,_=>false
def beqEL:List EV→List EV→Bool
 | [],[]=>true
 | a::asg,b::bs=>cond (beqEV a b) (beqEL asg bs) false
 | _,_=>false
end
mutual
theorem JQ:∀ (a b:EV),beqEV a b=true→a=b
 | .lit v,b,h=>by cases b<;>simp only [beqEV] at h<;>first | (rw [Zft h]) | cases h
 | .ptr k o,b,h=>by
   cases b<;>simp only [beqEV] at h<;>try (cases h; done)
   obtain ⟨h1,h2⟩:=cond3 h;rw [Zmk h1,Zmk h2]
 | .sl k o n c d,b,h=>by
   cases b<;>simp only [beqEV] at h<;>try (cases h; done)
   obtain ⟨h1,h⟩:=cond3 h;obtain ⟨h2,h⟩:=cond3 h;obtain ⟨h3,h⟩:=cond3 h;obtain ⟨h4,h5⟩:=cond3 h;rw [Zmk h1,Zmk h2,Zmk h3,ZiB h4,Zmk h5]
 | .es k o d lo s,b,h=>by
   cases b<;>simp only [beqEV] at h<;>try (cases h; done)
   obtain ⟨h1,h⟩:=cond3 h;obtain ⟨h2,h⟩:=cond3 h;obtain ⟨h3,h⟩:=cond3 h;obtain ⟨h4,h5⟩:=cond3 h;rw [Zmk h1,Zmk h2,Zmk h3,Zmk h4,Zmk h5]
 | .map k,b,h=>by
   cases b<;>simp only [beqEV] at h<;>try (cases h; done)
   rw [Zmk h]
 | .isl ex n cs,b,h=>by
   cases b<;>simp only [beqEV] at h<;>try (cases h; done)
   rename_i ex' n' cs';obtain ⟨h1,h⟩:=cond3 h;obtain ⟨h2,h3⟩:=cond3 h
   have:ex=ex':=by cases ex<;>cases ex'<;>simp_all
   rw [this,Zmk h2,Xv _ _ h3]
 | .iptr cs,b,h=>by
   cases b<;>simp only [beqEV] at h<;>try (cases h; done)
   rw [Xv _ _ h]
 | .agg cs,b,h=>by
   cases b<;>simp only [beqEV] at h<;>try (cases h; done)
   rw [Xv _ _ h]
 | .tuple cs,b,h=>by
   cases b<;>simp only [beqEV] at h<;>try (cases h; done)
   rw [Xv _ _ h]
 | .func f x y,b,h=>by
   cases b<;>simp only [beqEV] at h<;>try (cases h; done)
   obtain ⟨h1,h⟩:=cond3 h;obtain ⟨h2,h3⟩:=cond3 h;rw [Zmk h1,Xv _ _ h2,Xv _ _ h3]
 | .yield k,b,h=>by
   cases b<;>simp only [beqEV] at h<;>try (cases h; done)
   rw [Zmk h]
 | .iface t v,b,h=>by
   cases b<;>simp only [beqEV] at h<;>try (cases h; done)
   obtain ⟨h1,h2⟩:=cond3 h;rw [Zmk h1,JQ _ _ h2]
theorem Xv:∀ (a b:List EV),beqEL a b=true→a=b
 | [],b,h=>by cases b<;>simp only [beqEL] at h<;>first | rfl | cases h
 | a::asg,b,h=>by
   cases b<;>simp only [beqEL] at h<;>try (cases h; done)
   obtain ⟨h1,h2⟩:=cond3 h;rw [JQ _ _ h1,Xv _ _ h2]
end
def beqML:List (Value × EV)→List (Value × EV)→Bool
 | [],[]=>true
 | a::asg,b::bs=>cond (beqV a.1 b.1) (cond (beqEV a.2 b.2) (beqML asg bs) false) false
 | _,_=>false
theorem ZeA:∀ (a b:List (Value × EV)),beqML a b=true→a=b
 | [],b,h=>by cases b<;>simp only [beqML] at h<;>first | rfl | cases h
 | a::asg,b,h=>by
   cases b<;>simp only [beqML] at h<;>try (cases h; done)
   rename_i b bs;obtain ⟨h1,h⟩:=cond3 h;obtain ⟨h2,h3⟩:=cond3 h
   have:=Zft h1
   have:=JQ _ _ h2
   obtain ⟨a1,a2⟩:=a;obtain ⟨b1,b2⟩:=b
   simp_all [ZeA _ _ h3]
def beqEB:EB→EB→Bool
 | .cells e cs,.cells e' cs'=>cond (Zmf e e') (beqEL cs cs') false
 | .grown e s cs,.grown e' s' cs'=>cond (Zmf e e') (cond (Zmf s s') (beqEL cs cs') false) false
 | .map t l,.map t' l'=>cond (Zmf t t') (beqML l l') false
 | .deferred,.deferred=>true
 | .dead,.dead=>true
 | _,_=>false
theorem ZbW {a b:EB} (h:beqEB a b=true):a=b:=by
 unfold beqEB at h;split at h
 ·obtain ⟨h1,h2⟩:=cond3 h;rw [Zmk h1,Xv _ _ h2]
 ·obtain ⟨h1,h⟩:=cond3 h;obtain ⟨h2,h3⟩:=cond3 h;rw [Zmk h1,Zmk h2,Xv _ _ h3]
 ·obtain ⟨h1,h2⟩:=cond3 h;rw [Zmk h1,ZeA _ _ h2]
 ·rfl
 ·rfl
 ·cases h
def beqO {α:Type} (f:α→α→Bool):Option α→Option α→Bool
 | none,none=>true
 | some a,some b=>f a b
 | _,_=>false
theorem ZjQ {α:Type} {f:α→α→Bool} (hf:∀ a b,f a b=true→a=b) {a b:Option α} (h:beqO f a b=true):a=b:=by
 cases a<;>cases b<;>simp only [beqO] at h<;>first | rfl | cases h | (rw [hf _ _ h])
def beqTr {α:Type} (f:α→α→Bool):Tr α→Tr α→Bool
 | .lf,.lf=>true
 | .nd v l r,.nd v' l' r'=>cond (beqO f v v') (cond (beqTr f l l') (beqTr f r r') false) false
 | _,_=>false
theorem ZaE {α:Type} {f:α→α→Bool} (hf:∀ a b,f a b=true→a=b):∀ (a b:Tr α),beqTr f a b=true→a=b
 | .lf,b,h=>by cases b<;>simp only [beqTr] at h<;>first | rfl | cases h
 | .nd v l r,b,h=>by
   cases b<;>simp only [beqTr] at h<;>try (cases h; done)
   obtain ⟨h1,h⟩:=cond3 h;obtain ⟨h2,h3⟩:=cond3 h;rw [ZjQ hf h1,ZaE hf _ _ h2,ZaE hf _ _ h3]
def beqED:List ED→List ED→Bool
 | [],[]=>true
 | .mark k::l,.mark k'::l'=>cond (Zmf k k') (beqED l l') false
 | .fn f a c::l,.fn f' a' c'::l'=>cond (Zmf f f') (cond (beqEL a a') (cond (beqEL c c') (beqED l l') false) false) false
 | _,_=>false
theorem ZbX:∀ (a b:List ED),beqED a b=true→a=b
 | [],b,h=>by cases b<;>simp only [beqED] at h<;>first | rfl | cases h
 | .mark k::l,b,h=>by
   cases b with
   | nil=>simp only [beqED] at h; cases h
   | cons b bs =>
     cases b<;>simp only [beqED] at h<;>try (cases h; done)
     obtain ⟨h1,h2⟩:=cond3 h;rw [Zmk h1,ZbX _ _ h2]
 | .fn f a c::l,b,h=>by
   cases b with
   | nil=>simp only [beqED] at h; cases h
   | cons b bs =>
     cases b<;>simp only [beqED] at h<;>try (cases h; done)
     obtain ⟨h1,h⟩:=cond3 h;obtain ⟨h2,h⟩:=cond3 h;obtain ⟨h3,h4⟩:=cond3 h;rw [Zmk h1,Xv _ _ h2,Xv _ _ h3,ZbX _ _ h4]
def beqES (a b:ES):Bool:=cond (Zmf a.nx b.nx) (cond (beqED a.d b.d) (cond (beqTr beqEV a.t b.t) (beqTr beqEB a.h b.h) false) false) false
theorem ZiC {a b:ES} (h:beqES a b=true):a=b:=by
 unfold beqES at h;obtain ⟨h1,h⟩:=cond3 h;obtain ⟨h2,h⟩:=cond3 h;obtain ⟨h3,h4⟩:=cond3 h;cases a; cases b;simp only [ES.mk.injEq];exact ⟨ZaE JQ _ _ h3,ZbX _ _ h2,ZaE (fun _ _=>ZbW) _ _ h4,Zmk h1⟩
abbrev RdL:=List (Nat × Nat × EB)
abbrev HsL:=List (List Nat × Tr EB)
def Zfu:EB→Bool
 | .cells _ _=>true
 | .grown _ _ _=>true
 | _=>false
def tkOp (C:Cfg) (t:Tr EV) (h0:Tr EB) (i:Nat) (op:Op):Option (EV × RdL) :=
 match op with
 | .load ty a=>(match evO t a with
   | .ptr k o=>(match h0.get k with
     | some b=>cond (Zfu b) (match pureE C.P (evO t) (fun j=>cond (Zmf j k) (some b) none) (.load ty a) with | some v=>some (v,[(i,k,b)]) | none=>none) none
     | none=>none)
   | _=>(match pureE C.P (evO t) (fun _=>none) (.load ty a) with | some v=>some (v,[]) | none=>none))
 | op=>(match pureE C.P (evO t) (fun _=>none) op with | some v=>some (v,[]) | none=>none)
def tkE (C:Cfg) (N i:Nat) (o:GOp) (t:Tr EV) (h0:Tr EB):Option (EV × RdL) :=
 cond (dOkB N o.dst) (match o.g with
  | none=>tkOp C t h0 i o.op
  | some (d,want)=>(match t.get d with
    | some (.lit (.bool b))=>cond (cond b want (!want)) (tkOp C t h0 i o.op) (cond (ZbC C o.op (evO t)) (some (.lit undef,[])) none)
    | _=>none)) none
def planE (C:Cfg) (call:CallF) (N rb:Nat) (out:Bool) (h0:Tr EB):GPlan→ES→Option (ES × RdL × HsL)
 | .fin,s=>some (s,[],[])
 | .tk i o p,s=>(match tkE C N i o s.t h0 with
   | some (v,rd)=>(match putE s o.dst v with
     | some s1=>(match planE C call N rb out h0 p s1 with | some (s',rd',hs)=>some (s',rd++rd',hs) | none=>none)
     | none=>none)
   | none=>none)
 | .one nd o p,s=>(match stepE C call N rb out false o s with
   | some s1=>(match planE C call N rb out h0 p s1 with | some (s',rd,hs)=>some (s',rd,(nd,s1.h)::hs) | none=>none)
   | none=>none)
 | .cut o p,s=>(match stepE C call N rb out false o s with
   | some s1=>planE C call N rb out h0 p s1
   | none=>none)
 | .two nd o p nd' o' p',s=>(match stepE C call N rb out false o s with
   | some s1=>(match planE C call N rb out h0 p s1 with
     | some (s',rd,hs)=>(match stepE C call N rb out false o' s with
       | some s2=>(match planE C call N rb out h0 p' s2 with
         | some (s'',rd',hs')=>cond (beqES s' s'') (some (s',rd++rd',((nd,s1.h)::hs)++((nd',s2.h)::hs'))) none
         | none=>none)
       | none=>none)
     | none=>none)
   | none=>none)
def memN:List Nat→Nat→Bool
 | [],_=>false
 | a::l,x=>cond (Zmf a x) true (memN l x)
theorem memN_of {l:List Nat} {x:Nat} (h:x∈l):memN l x=true:=by
 induction l with
 | nil=>cases h
 | cons a l ih =>
   simp only [memN];rcases List.mem_cons.1 h with rfl | h
   ·rw [Nat.beq_refl]; rfl
   ·rw [ih h]; cases Zmf a x<;>rfl
def keptB (nd:List Nat) (rd:RdL) (h:Tr EB):Bool:=rd.all fun p=>cond (memN nd p.1) (match h.get p.2.1 with | some b=>beqEB b p.2.2 | none=>false) true
def kept0 (rd:RdL) (h:Tr EB):Bool:=rd.all fun p=>match h.get p.2.1 with | some b=>beqEB b p.2.2 | none=>false
def dregE (C:Cfg) (call:CallF) (N:Nat) (out:Bool) (p:GPlan) (tail:List GOp) (s:ES):Option ES :=
 match planE C call N s.nx out s.h p { s with nx:=s.nx+N+1 } with
 | some (s1,rd,hs)=>cond (cond (kept0 rd s.h) (hs.all fun q=>keptB q.1 rd q.2) false) (ZbH C call N s.nx out false tail s1) none
 | none=>none
def RdOk (P:Program) (σ:Sg) (Hi:Nat→AH) (rd:RdL):Prop:=∀ i k b,(i,k,b)∈rd→∃ p B,σ k=some p∧Hi i p.r=some B∧RB P σ p b B
section
variable {C:Cfg} {call:CallF} {N rb:Nat} {out:Bool} {ro:Option Nat} {Q:APost}
theorem ZjR {cx:Cx} (hP:cx.P=C.P) {σ0 σ:Sg} (hx:Ext σ0 σ) {t:Tr EV} {h0:Tr EB} {i:Nat} {op:Op} {A:AF} {Hi:Nat→AH} {v:EV} {rd:RdL} {K:VE→AH→Prop} (ht:∀ i,RVo σ (t.get i) (A.t i)) (he:tkOp C t h0 i op=some (v,rd))
 (hrd:RdOk C.P σ0 Hi rd) (hK:∀ z,RV σ v z→K (.ret z) (Hi i)):vcOp cx op A (Hi i) K:=by
 have hev:=JA (σ:=σ) (t:=t) (A:=A) ht
 have key:∀ op',(match pureE C.P (evO t) (fun _=>none) op' with | some v=>some (v,([]:RdL)) | none=>none)=some (v,rd)→vcOp cx op' A (Hi i) K:=by
  intro op' h;split at h
  ·rename_i w hw;simp only [Option.some.injEq,Prod.mk.injEq] at h;obtain ⟨rfl,rfl⟩:=h;rw [← hP] at hw;exact ZbV (H:=Hi i) hev (fun k b hb=>by cases hb) hw hK
  ·cases h
 unfold tkOp at he;split at he
 ·rename_i ty a;split at he
  ·rename_i k o hk;split at he
   ·rename_i b hb;have hq:=condS he;clear he;obtain ⟨hc,he⟩:=hq;split at he
    ·rename_i w hw;simp only [Option.some.injEq,Prod.mk.injEq] at he;obtain ⟨rfl,rfl⟩:=he;rw [← hP] at hw;refine ZbV (H:=Hi i) hev (fun j c hj=>?_) hw hK;cases hjk:Zmf j k with
     | false=>simp [hjk] at hj
     | true =>
       simp only [hjk,cond_true,Option.some.injEq] at hj;subst hj;rw [Zmk hjk];obtain ⟨p,B,g1,g2,g3⟩:=hrd i k b (List.mem_singleton.2 rfl);rw [hP];exact .inr ⟨p,B,hx _ _ g1,g2,g3.mono hx⟩
    ·cases he
   ·cases he
  ·exact key _ he
 ·exact key _ he
theorem Zlw (hC:CfgOk C) {σ0 σ:Sg} (hx:Ext σ0 σ) {s s1:ES} {h0:Tr EB} {i:Nat} {o:GOp} {A:AF} {H:AH} {Hi:Nat→AH} {v:EV} {rd:RdL} {k:AF→AH→Prop} (hs:RA C.P σ s A H) (he:tkE C N i o s.t h0=some (v,rd)) (hp:putE s o.dst v=some s1)
 (hrd:RdOk C.P σ0 Hi rd) (hk:∀ A' H',RA C.P σ s1 A' H→k A' H'):vcG ⟨C.P,N,ro⟩ o k Q A (Hi i):=by
 obtain ⟨dst,op,g⟩:=o;unfold tkE at he;have hq:=condS he;clear he;obtain ⟨hd,he⟩:=hq
 have hdo:tkOp C s.t h0 i op=some (v,rd)→vcDo ⟨C.P,N,ro⟩ ⟨dst,op,g⟩ k Q A (Hi i):=by
  intro h;refine ⟨Za3 hd,?_⟩
  have:vcOp ⟨C.P,N,ro⟩ op A (Hi i) (vcK k Q dst A):=ZjR (cx:=⟨C.P,N,ro⟩) rfl hx hs.t h hrd fun z hz=>hk _ _ (Zas hs hz hp)
  cases op with
  | defer c=>simp only [vcOp] at this
  | _=>exact this
 unfold vcG;dsimp only at he ⊢;split at he
 ·exact hdo he
 ·rename_i d want;have ht:=hs.t d;dsimp only;split at he
  ·rename_i b e;rw [e] at ht;rw [show A.t d=.lit (.bool b) from ht];dsimp only;cases hb:cond b want (!want) with
   | true =>
     simp only [hb,cond_true] at he;rw [if_pos (ZhQ hb)];exact hdo he
   | false =>
     simp only [hb,cond_false] at he;rw [if_neg (ZhR hb)];have hq:=condS he;clear he;obtain ⟨hc,he⟩:=hq;simp only [Option.some.injEq,Prod.mk.injEq] at he;obtain ⟨rfl,rfl⟩:=he;exact ⟨Za3 hd,Zdi hC (JA hs.t) hc,hk _ _ (Zas (x:=Zx) (v:=.lit undef) hs rfl hp)⟩
  ·cases he
theorem Jm (hC:CfgOk C) (hcall:Jz C call) (hout:out=true→ro=none) {σ0:Sg} {h0:Tr EB} {Hi:Nat→AH} {K:AF→AH→Prop}:∀ (p:GPlan) (s s':ES) (rd:RdL) (hs:HsL),planE C call N rb out h0 p s=some (s',rd,hs) →
 ∀ (σ:Sg) (A:AF) (H:AH),Ext σ0 σ→RA C.P σ s A H→RdOk C.P σ0 Hi rd→(∀ q∈hs,∀ σ' H',Ext σ0 σ'→HR C.P σ' q.2 H'→∀ k∈q.1,SubH (Hi k) H')→(∀ σ' A' H',Ext σ0 σ'→RA C.P σ' s' A' H'→K A' H')→vcPl2 ⟨C.P,N,ro⟩ Hi p K Q A H
 | .fin,s,s',rd,hs,he,σ,A,H,hx,hr,hrd,hhs,hK=>by
   simp only [planE,Option.some.injEq,Prod.mk.injEq] at he;obtain ⟨rfl,_,_⟩:=he;exact hK σ A H hx hr
 | .tk i o p,s,s',rd,hs,he,σ,A,H,hx,hr,hrd,hhs,hK=>by
   simp only [planE] at he;split at he
   ·rename_i v rd0 htk;split at he
    ·rename_i s1 hput;split at he
     ·rename_i s2 rd1 hs1 hpl;simp only [Option.some.injEq,Prod.mk.injEq] at he;obtain ⟨rfl,rfl,rfl⟩:=he;refine Zlw hC hx hr htk hput (fun i k b hm=>hrd i k b (List.mem_append.2 (.inl hm))) fun A' H' hr'=>?_
      exact Jm hC hcall hout p s1 s2 rd1 hs1 hpl σ A' H hx hr' (fun i k b hm=>hrd i k b (List.mem_append.2 (.inr hm))) hhs hK
     ·cases he
    ·cases he
   ·cases he
 | .one nd o p,s,s',rd,hs,he,σ,A,H,hx,hr,hrd,hhs,hK=>by
   simp only [planE] at he;split at he
   ·rename_i s1 hst;split at he
    ·rename_i s2 rd1 hs1 hpl;simp only [Option.some.injEq,Prod.mk.injEq] at he;obtain ⟨rfl,rfl,rfl⟩:=he;refine Jx hC hcall hout hr hst fun σ1 A1 H1 hx1 hr1=>⟨fun k hk _=>hhs (nd,s1.h) (by simp) σ1 H1 (hx.trans hx1) hr1.h k hk,?_⟩
     exact Jm hC hcall hout p s1 s2 rd1 hs1 hpl σ1 A1 H1 (hx.trans hx1) hr1 hrd (fun h hm=>hhs h (by simp [hm])) hK
    ·cases he
   ·cases he
 | .cut o p,s,s',rd,hs,he,σ,A,H,hx,hr,hrd,hhs,hK=>by
   simp only [planE] at he;split at he
   ·rename_i s1 hst;refine Jx hC hcall hout hr hst fun σ1 A1 H1 hx1 hr1=>?_
    exact Jm hC hcall hout p s1 s' rd hs he σ1 A1 H1 (hx.trans hx1) hr1 hrd hhs hK
   ·cases he
 | .two nd o p nd' o' p',s,s',rd,hs,he,σ,A,H,hx,hr,hrd,hhs,hK=>by
   simp only [planE] at he;split at he
   ·rename_i s1 hst;split at he
    ·rename_i s2 rd1 hs1 hpl;split at he
     ·rename_i s3 hst';split at he
      ·rename_i s4 rd2 hs2 hpl';have hq:=condS he;clear he;obtain ⟨hc,he⟩:=hq;have heq:=ZiC hc;subst heq;simp only [Option.some.injEq,Prod.mk.injEq] at he;obtain ⟨rfl,rfl,rfl⟩:=he;refine ⟨?_,?_⟩
       ·refine Jx hC hcall hout hr hst fun σ1 A1 H1 hx1 hr1=>⟨fun k hk _=>hhs (nd,s1.h) (by simp) σ1 H1 (hx.trans hx1) hr1.h k hk,?_⟩
        exact Jm hC hcall hout p s1 s2 rd1 hs1 hpl σ1 A1 H1 (hx.trans hx1) hr1 (fun i k b hm=>hrd i k b (List.mem_append.2 (.inl hm))) (fun h hm=>hhs h (by simp [hm])) hK
       ·refine Jx hC hcall hout hr hst' fun σ1 A1 H1 hx1 hr1=>⟨fun k hk _=>hhs (nd',s3.h) (by simp) σ1 H1 (hx.trans hx1) hr1.h k hk,?_⟩
        exact Jm hC hcall hout p' s3 s2 rd2 hs2 hpl' σ1 A1 H1 (hx.trans hx1) hr1 (fun i k b hm=>hrd i k b (List.mem_append.2 (.inr hm))) (fun h hm=>hhs h (by simp [hm])) hK
      ·cases he
     ·cases he
    ·cases he
   ·cases he
theorem ZjS {rd:RdL} {h:Tr EB} (hk:kept0 rd h=true) {i k:Nat} {b:EB} (hm:(i,k,b)∈rd):h.get k=some b:=by
 unfold kept0 at hk;rw [List.all_eq_true] at hk
 have:=hk (i,k,b) hm
 dsimp only at this;split at this
 ·rename_i b' e; rw [e,ZbW this]
 ·cases this
theorem ZjT {nd:List Nat} {rd:RdL} {h:Tr EB} (hk:keptB nd rd h=true) {i k:Nat} {b:EB} (hm:(i,k,b)∈rd) (hi:i∈nd):h.get k=some b:=by
 unfold keptB at hk;rw [List.all_eq_true] at hk
 have:=hk (i,k,b) hm
 dsimp only at this;rw [memN_of hi] at this;simp only [cond_true] at this;split at this
 ·rename_i b' e; rw [e,ZbW this]
 ·cases this
theorem condC {α:Type} {c:Bool} {x y v:α} (h:cond c x y=v):(c=true∧x=v)∨(c=false∧y=v):=by cases c<;>simp_all
theorem Jn (hC:CfgOk C) {h0:Tr EB}:∀ (p:GPlan) (s s':ES) (rd:RdL) (hs:HsL),planE C call N rb out h0 p s=some (s',rd,hs)→∀ i k b,(i,k,b)∈rd→Zfu b=true
 | .fin,s,s',rd,hs,he=>by
   simp only [planE,Option.some.injEq,Prod.mk.injEq] at he;obtain ⟨_,rfl,_⟩:=he;intro i k b hm; cases hm
 | .tk i0 o p,s,s',rd,hs,he=>by
   simp only [planE] at he;split at he
   ·rename_i v rd0 htk;split at he
    ·rename_i s1 hput;split at he
     ·rename_i s2 rd1 hs1 hpl;simp only [Option.some.injEq,Prod.mk.injEq] at he;obtain ⟨rfl,rfl,rfl⟩:=he;intro i k b hm;rcases List.mem_append.1 hm with hm | hm
      ·have key:∀ op v rd,tkOp C s.t h0 i0 op=some (v,rd)→(i,k,b)∈rd→Zfu b=true:=by
        intro op v rd he hm;unfold tkOp at he;split at he
        ·split at he
         ·split at he
          ·have hq:=condS he;clear he;obtain ⟨hc,he⟩:=hq;split at he
           ·simp only [Option.some.injEq,Prod.mk.injEq] at he;obtain ⟨_,rfl⟩:=he;simp only [Zm2,Prod.mk.injEq] at hm;obtain ⟨_,_,rfl⟩:=hm;exact hc
           ·cases he
          ·cases he
         ·split at he
          ·simp only [Option.some.injEq,Prod.mk.injEq] at he;obtain ⟨_,rfl⟩:=he;cases hm
          ·cases he
        ·split at he
         ·simp only [Option.some.injEq,Prod.mk.injEq] at he;obtain ⟨_,rfl⟩:=he;cases hm
         ·cases he
       unfold tkE at htk;have hq:=condS htk;clear htk;obtain ⟨_,htk⟩:=hq;split at htk
       ·exact key _ _ _ htk hm
       ·split at htk
        ·rcases condC htk with ⟨_,htk1⟩ | ⟨_,htk1⟩
         ·exact key _ _ _ htk1 hm
         ·have htk2:=(condS htk1).2;simp only [Option.some.injEq,Prod.mk.injEq] at htk2;obtain ⟨_,rfl⟩:=htk2;cases hm
        ·cases htk
      ·exact Jn hC p s1 s2 rd1 hs1 hpl i k b hm
     ·cases he
    ·cases he
   ·cases he
 | .one nd o p,s,s',rd,hs,he=>by
   simp only [planE] at he;split at he
   ·rename_i s1 hst;split at he
    ·rename_i s2 rd1 hs1 hpl;simp only [Option.some.injEq,Prod.mk.injEq] at he;obtain ⟨rfl,rfl,rfl⟩:=he;exact Jn hC p s1 s2 rd1 hs1 hpl
    ·cases he
   ·cases he
 | .cut o p,s,s',rd,hs,he=>by
   simp only [planE] at he;split at he
   ·rename_i s1 hst;exact Jn hC p s1 s' rd hs he
   ·cases he
 | .two nd o p nd' o' p',s,s',rd,hs,he=>by
   simp only [planE] at he;split at he
   ·rename_i s1 hst;split at he
    ·rename_i s2 rd1 hs1 hpl;split at he
     ·rename_i s3 hst';split at he
      ·rename_i s4 rd2 hs2 hpl';have hq:=condS he;clear he;obtain ⟨hc,he⟩:=hq;simp only [Option.some.injEq,Prod.mk.injEq] at he;obtain ⟨rfl,rfl,rfl⟩:=he;intro i k b hm;rcases List.mem_append.1 hm with hm | hm
       ·exact Jn hC p s1 s2 rd1 hs1 hpl i k b hm
       ·exact Jn hC p' s3 s4 rd2 hs2 hpl' i k b hm
      ·cases he
     ·cases he
    ·cases he
   ·cases he
theorem Zdj {b:EB} (h:Zfu b=true):b.isDead=false:=by cases b<;>first | rfl | cases h
open Classical in
theorem ZiD (hC:CfgOk C) (hcall:Jz C call) (hout:out=true→ro=none) (hQ:panQ Q) {p:GPlan} {tail:List GOp} {s s':ES} {σ:Sg} {A:AF} {H:AH} (hr:RA C.P σ s A H) (he:dregE C call N out p tail s=some s')
 (hk:∀ σ' A' H',Ext σ σ'→RA C.P σ' s' A' H'→Q .normal A' H'):ACx ⟨C.P,N,ro⟩ (.dreg p tail) Q A H:=by
 unfold dregE at he;split at he
 ·rename_i s1 rd hs hpl;have hq:=condS he;clear he;obtain ⟨hc,he⟩:=hq;obtain ⟨hc0,hc⟩:=cond3 hc;rw [List.all_eq_true] at hc;have hcells:=Jn hC p _ _ _ _ hpl
  have h0:∀ i k b,(i,k,b)∈rd→∃ q B,σ k=some q∧H q.r=some B∧RB C.P σ q b B:=fun i k b hm=>by
   rcases hr.h.blk k b (ZjS hc0 hm) with hd | h
   ·rw [Zdj (hcells i k b hm)] at hd; cases hd
   ·exact h
  let Hi:Nat→AH:=fun i r=>if ∃ k b q,(i,k,b)∈rd∧σ k=some q∧q.r=r then H r else none
  have hsub:∀ i,SubH (Hi i) H:=fun i r B hB=>by
   simp only [Hi] at hB;split at hB
   ·exact hB
   ·cases hB
  refine ZaZ (cx:=⟨C.P,N,ro⟩) hC.mixed hQ Hi hsub ?_;refine Jm hC hcall hout p _ _ _ _ hpl σ A H (Ext.refl σ) ⟨hr.t,hr.d,hr.h⟩ (fun i k b hm=>?_) (fun q hm σ' H' hx hr' i hi=>?_) (fun σ1 A1 H1 hx hr1=>?_)
  ·obtain ⟨q,B,g1,g2,g3⟩:=h0 i k b hm;refine ⟨q,B,g1,?_,g3⟩;simp only [Hi];rw [if_pos ⟨k,b,q,hm,g1,rfl⟩];exact g2
  ·intro r B hB;simp only [Hi] at hB;split at hB
   ·rename_i hex;obtain ⟨k,b,q,hm',g1,rfl⟩:=hex;obtain ⟨q',B',f1,f2,f3⟩:=h0 i k b hm';rw [g1] at f1; cases f1;obtain rfl:B'=B:=by rw [f2] at hB; exact Option.some.inj hB
    rcases hr'.blk k b (ZjT (hc _ hm) hm' hi) with hd | ⟨q2,B2,e1,e2,e3⟩
    ·rw [Zdj (hcells i k b hm')] at hd; cases hd
    ·rw [hx _ _ g1] at e1; cases e1;have hcb:=hcells i k b hm'
     have:B'=B2:=RB.fn hx (by
      cases b with
      | cells e cs=>exact .inl ⟨e,cs,rfl⟩
      | grown e s cs=>exact .inr ⟨e,s,cs,rfl⟩
      | _=>cases hcb) f3 e3
     rw [this];exact e2
   ·cases hB
  ·exact ZcI hC hcall hout tail σ1 s1 s' A1 H1 hr1 he fun σ' A' H' hx'=>hk σ' A' H' (hx.trans hx')
 ·cases he
end
end Go.PV
end
section
open Nat renaming beq→Zmf,eq_of_beq_eq_true→Zmk
namespace Go.PV
inductive Ex where
 | nrm
 | ext (id:Nat)
 | ret
def loopE (body:ES→Option (Ex × ES)):Nat→ES→Option (Ex × ES)
 | 0,_=>none
 | n+1,s=>match body s with
   | some (.nrm,s1)=>loopE body n s1
   | some (.ret,s1)=>some (.ret,s1)
   | some (.ext i,s1)=>some (.ext i,s1)
   | none=>none
def Zks (C:Cfg):EV→Bool
 | .func g _ _=>(C.ft g).isSome
 | .lit (.func (.func g) _ _)=>(C.ft g).isSome
 | _=>false
def beqNL:List Nat→List Nat→Bool
 | [],[]=>true
 | a::asg,b::bs=>cond (Zmf a b) (beqNL asg bs) false
 | _,_=>false
theorem ZeB:∀ (a b:List Nat),beqNL a b=true→a=b
 | [],b,h=>by cases b<;>simp only [beqNL] at h<;>first | rfl | cases h
 | a::asg,b,h=>by
   cases b<;>simp only [beqNL] at h<;>try (cases h; done)
   obtain ⟨h1,h2⟩:=cond3 h;rw [Zmk h1,ZeB _ _ h2]
def sameL (N N':Nat) (ps ps':Array Tmp) (r r':Nat):Bool:=cond (Zmf N' N) (cond (Zmf r' r) (beqNL ps'.toList ps.toList) false) false
theorem ZbY {N N':Nat} {ps ps':Array Tmp} {r r':Nat} (h:sameL N N' ps ps' r r'=true):N'=N∧ps'=ps∧r'=r:=by
 unfold sameL at h;obtain ⟨h1,h⟩:=cond3 h;obtain ⟨h2,h3⟩:=cond3 h;exact ⟨Zmk h1,Array.toList_inj.1 (ZeB _ _ h3),Zmk h2⟩
def Zkt (C:Cfg) (call:CallF) (N:Nat) (out:Bool) (f:Operand) (ps:Array Tmp) (asg bd:ACode) (s:ES):Option (Ex × ES) :=
 cond (cond out (Zks C (evO s.t f)) false) (match newB s.h s.nx .deferred with
  | some h1=>(match newB h1 (s.nx+1) (.loop .ready none N s.t ps asg bd s.nx) with
    | some h2=>(match call (evO s.t f) [.yield (s.nx+1)] h2 (s.nx+2) with
      | some (_,h3,nx3)=>(match h3.get (s.nx+1) with
        | some (.loop st j N' _ ps' _ _ r')=>(match cond (sameL N N' ps ps' s.nx r') st .busy with
          | .busy=>none
          | _=>(match Tr.set 40 h3 (s.nx+1) .dead with
            | some h4=>some (match j with | none=>.nrm | some none=>.ret | some (some id)=>.ext id,{ s with h:=h4,nx:=nx3,d:=.mark s.nx::s.d })
            | none=>none))
        | _=>none)
      | none=>none)
    | none=>none)
  | none=>none) none
def codeE (C:Cfg) (call:CallF) (lim N:Nat) (out:Bool):ACode→ES→Option (Ex × ES)
 | .skip,s=>some (.nrm,s)
 | .reg l,s=>(match ZbH C call N s.nx out true l { s with nx:=s.nx+N+1 } with | some s'=>some (.nrm,s') | none=>none)
 | .dreg p tail,s=>(match dregE C call N out p tail s with | some s'=>some (.nrm,s') | none=>none)
 | .seq a b,s=>(match codeE C call lim N out a s with
   | some (.nrm,s1)=>codeE C call lim N out b s1
   | some (.ret,s1)=>some (.ret,s1)
   | some (.ext i,s1)=>some (.ext i,s1)
   | none=>none)
 | .seqL a b,s=>(match codeE C call lim N out a s with
   | some (.nrm,s1)=>codeE C call lim N out b s1
   | some (.ret,s1)=>some (.ret,s1)
   | some (.ext i,s1)=>some (.ext i,s1)
   | none=>none)
 | .cond c a b,s=>(match evO s.t c with
   | .lit (.bool t)=>cond t (codeE C call lim N out a s) (codeE C call lim N out b s)
   | _=>none)
 | .block id a,s=>(match codeE C call lim N out a s with
   | some (.nrm,s1)=>some (.nrm,s1)
   | some (.ret,s1)=>some (.ret,s1)
   | some (.ext i,s1)=>cond (Zmf i id) (some (.nrm,s1)) (some (.ext i,s1))
   | none=>none)
 | .loop a,s=>loopE (codeE C call lim N out a) lim s
 | .exit id,s=>some (.ext id,s)
 | .ret,s=>some (.ret,s)
 | .scope a,s=>codeE C call lim N out a s
 | .rfunc f ps asg bd,s=>Zkt C call N out f ps asg bd s
 | .bad,_=>none
def toQ (K:Ex→AF→AH→Prop):APost
 | .normal=>K .nrm
 | .exit id=>K (.ext id)
 | .ret=>K .ret
 | _=>fun _ _=>False
theorem ZdF (K:Ex→AF→AH→Prop):Zaa (toQ K):=fun _ _ _ h=>h
theorem toQ_pan (K:Ex→AF→AH→Prop):panQ (toQ K):=fun _ _ _ _ _ h=>h.elim
def onN (K:Ex→AF→AH→Prop) (k:AF→AH→Prop):Ex→AF→AH→Prop
 | .nrm=>k
 | e=>K e
theorem ZfW (K:Ex→AF→AH→Prop) (k:AF→AH→Prop):toQ (onN K k)=thenA k (toQ K):=by
 funext e
 cases e<;>rfl
section
variable {cx:Cx} {Q Q':APost} {A:AF} {H:AH}
theorem Zbg {a:ACode} (h:ACx cx a Q A H) (hQ:∀ e A H,Q e A H→Q' e A H):ACx cx a Q' A H:=fun c hc=>(h c hc).mono hQ
theorem Zlx {a b:ACode} {K:AF→AH→Prop} (hK:∀ A H,K A H→ACx cx b Q A H) (h:ACx cx a (thenA K Q) A H):ACx cx (.seqL a b) Q A H:=by
 intro c hc;cases c with
 | seq x y =>
   simp only [ZM] at hc;split at hc
   ·injection hc with h1 h2
    refine Zh4 ((h x h1).mono ?_);intro e A' H' hq;cases e with
    | normal=>exact hK A' H' hq y h2
    | _=>exact hq
   ·cases hc
 | region id ops draw =>
   simp only [ZM] at hc;split at hc
   ·unfold Xw at hc;dsimp only at hc;split at hc
    ·split at hc<;>cases hc
    ·cases hc
   ·split at hc<;>cases hc
 | _=>simp only [ZM] at hc; cases hc
theorem Zly {o:Operand} {a b:ACode} {t:Bool} (ho:A.eval o=.lit (.bool t)) (h:ACx cx (if t then a else b) Q A H):ACx cx (.cond o a b) Q A H:=by
 intro c hc;cases c with
 | cond o' x y =>
   simp only [ZM,ACode.cond.injEq] at hc;obtain ⟨rfl,h1,h2⟩:=hc;refine Zkz ho ?_;cases t
   ·exact h y h2
   ·exact h x h1
 | region id ops draw =>
   simp only [ZM] at hc;split at hc
   ·unfold Xw at hc;dsimp only at hc;split at hc
    ·split at hc<;>cases hc
    ·cases hc
   ·split at hc<;>cases hc
 | seq x y=>simp only [ZM] at hc; split at hc<;>cases hc
 | _=>simp only [ZM] at hc; cases hc
theorem ZjU {id:Nat} {a:ACode} (h:ACx cx a (XO id Q) A H):ACx cx (.block id a) Q A H:=by
 intro c hc;cases c with
 | block i x =>
   simp only [ZM,ACode.block.injEq] at hc;obtain ⟨rfl,h1⟩:=hc;exact ZiN (h x h1)
 | region id ops draw =>
   simp only [ZM] at hc;split at hc
   ·unfold Xw at hc;dsimp only at hc;split at hc
    ·split at hc<;>cases hc
    ·cases hc
   ·split at hc<;>cases hc
 | seq x y=>simp only [ZM] at hc; split at hc<;>cases hc
 | _=>simp only [ZM] at hc; cases hc
theorem ZjV (hQ:Zaa Q) {a:ACode} (h:ACx cx a Q A H):ACx cx (.scope a) Q A H:=by
 intro c hc;cases c with
 | scope x =>
   simp only [ZM,ACode.scope.injEq] at hc;exact ZiR hQ (h x hc)
 | region id ops draw =>
   simp only [ZM] at hc;split at hc
   ·unfold Xw at hc;dsimp only at hc;split at hc
    ·split at hc<;>cases hc
    ·cases hc
   ·split at hc<;>cases hc
 | seq x y=>simp only [ZM] at hc; split at hc<;>cases hc
 | _=>simp only [ZM] at hc; cases hc
end
section
variable {C:Cfg} {call:CallF} {lim N:Nat} {out:Bool} {ro:Option Nat}
theorem ZiE {a:ACode} (ha:∀ (s s':ES) (e:Ex),codeE C call lim N out a s=some (e,s')→∀ (σ:Sg) (A:AF) (H:AH) (K:Ex→AF→AH→Prop),RA C.P σ s A H→(∀ σ' A' H',Ext σ σ'→RA C.P σ' s' A' H'→K e A' H')→ACx ⟨C.P,N,ro⟩ a (toQ K) A H)
 {n:Nat} {s s':ES} {e:Ex} (he:loopE (codeE C call lim N out a) n s=some (e,s')) {σ:Sg} {A:AF} {H:AH} {K:Ex→AF→AH→Prop} (hs:RA C.P σ s A H) (hK:∀ σ' A' H',Ext σ σ'→RA C.P σ' s' A' H'→K e A' H'):ACx ⟨C.P,N,ro⟩ (.loop a) (toQ K) A H:=by
 let J:AF→AH→Nat→Prop:=fun A H n=>∃ σ1 s1,Ext σ σ1∧RA C.P σ1 s1 A H∧loopE (codeE C call lim N out a) n s1=some (e,s')
 refine ZgY (fun A H=>∃ n,J A H n) (fun A H=>leastOf (J A H)) ⟨n,σ,s,Ext.refl σ,hs,he⟩ ?_;intro A H hJ;obtain ⟨⟨σ1,s1,hx1,hs1,he1⟩,hmin⟩:=leastOf_spec hJ;rw [← ZfW];generalize hm:leastOf (J A H)=m at he1 hmin;cases m with
 | zero=>simp [loopE] at he1
 | succ m =>
   simp only [loopE] at he1;split at he1
   ·rename_i s2 hb;refine ha _ _ _ hb σ1 A H _ hs1 fun σ2 A2 H2 hx2 hs2=>?_
    have hJ2:J A2 H2 m:=⟨σ2,s2,hx1.trans hx2,hs2,he1⟩
    refine ⟨⟨m,hJ2⟩,?_⟩
    have:=(leastOf_spec (p:=J A2 H2) ⟨m,hJ2⟩).2 m hJ2
    omega
   ·rename_i s2 hb;simp only [Option.some.injEq,Prod.mk.injEq] at he1;obtain ⟨rfl,rfl⟩:=he1;exact ha _ _ _ hb σ1 A H _ hs1 fun σ2 A2 H2 hx2 hs2=>hK σ2 A2 H2 (hx1.trans hx2) hs2
   ·rename_i i s2 hb;simp only [Option.some.injEq,Prod.mk.injEq] at he1;obtain ⟨rfl,rfl⟩:=he1;exact ha _ _ _ hb σ1 A H _ hs1 fun σ2 A2 H2 hx2 hs2=>hK σ2 A2 H2 (hx1.trans hx2) hs2
   ·cases he1
theorem ZiF (hC:CfgOk C) {σ:Sg} {f:EV} {x:VV} (h:Zks C f=true) (hx:RV σ f x):∃ g first cap,FunV x g first cap∧Zz C.P g=true:=by
 have hft:∀ g,(C.ft g).isSome=true→Zz C.P g=true:=fun g hg=>by
  obtain ⟨⟨N,rs,a⟩,e⟩:=Option.isSome_iff_exists.1 hg;exact (hC.ft g N rs a e).2
 unfold Zks at h;split at h
 ·obtain ⟨asg,bs,rfl,_⟩:=hx; exact ⟨_,_,_,.inl rfl,hft _ h⟩
 ·obtain rfl:=hx; exact ⟨_,_,_,.inr ⟨_,_,rfl,rfl,rfl⟩,hft _ h⟩
 ·cases h
theorem ZjW {P:Program} {x:VV} {g:FuncId} {first cap xs:List VV} {H:AH} {K:VE→AH→Prop} (hf:FunV x g first cap) (h:WS P ro x xs H K):Zz P g=true∧ZO P g (first++xs++cap) H K:=by
 rcases hf with rfl | ⟨a,b,rfl,rfl,rfl⟩
 ·exact h
 ·exact h
theorem ZhB (hC:CfgOk C) (hcall:Jz C call) (hout:out=true→ro=none) {f:Operand} {ps:Array Tmp} {asg bd:ACode} {s s':ES} {e:Ex} (he:Zkt C call N out f ps asg bd s=some (e,s')) {σ:Sg} {A:AF} {H:AH} {K:Ex→AF→AH→Prop}
 (hs:RA C.P σ s A H) (hK:∀ σ' A' H',Ext σ σ'→RA C.P σ' s' A' H'→K e A' H'):ACx ⟨C.P,N,ro⟩ (.rfunc f ps asg bd) (toQ K) A H:=by
 unfold Zkt at he;have hq:=condS he;clear he;obtain ⟨hc,he⟩:=hq;obtain ⟨ho,hf⟩:=cond3 hc;have hfr:=JA (σ:=σ) (A:=A) hs.t f;obtain ⟨g,first,cap,hF,hen⟩:=ZiF hC hf hfr;split at he
 ·rename_i h1 hn1;split at he
  ·rename_i h2 hn2;split at he
   ·rename_i v3 h3 nx3 hcl;split at he
    ·rename_i st j N' t' ps' as' bd' r' hg3;split at he
     ·cases he
     ·rename_i st' hst;split at he
      ·rename_i h4 hset;simp only [Option.some.injEq,Prod.mk.injEq] at he;obtain ⟨rfl,rfl⟩:=he
       have setup:∀ r l fn ca cb,ZM C.P ca=asg→ZM C.P cb=bd→H r=none→H l=none→l ≠ r→(C.P.funcs[fn]?).isSome=true →
        ∃ σ2,Ext σ σ2∧HR C.P σ2 h2 ((H.set r (.obj (.deferred (some [])))).set l (.loop .ready none fn N A.t ps ca cb r))∧σ2 (s.nx+1)=some { r:=l,fn,ca,cb,t:=A.t }∧σ2 s.nx=some { r:=r }:=by
        intro r l fn ca cb hca hcb hr hl hlr hfn;obtain ⟨x1,r1⟩:=hs.h.new (p:={ r:=r }) hn1 hr (B:=.obj (.deferred (some []))) rfl;have hl1:(H.set r (.obj (.deferred (some [])))) l=none:=by rw [AH.set_ne _ _ hlr]; exact hl
        have hne:sgS σ s.nx { r:=r } (s.nx+1)=none:=r1.dom _ (Zcj hn2).1;have x2:=Zfq (p:={ r:=l,fn,ca,cb,t:=A.t }) hne;have hsn:sgS (sgS σ s.nx { r:=r }) (s.nx+1) { r:=l,fn,ca,cb,t:=A.t } s.nx=some { r:=r }:=x2 _ _ (Ji _ _ _)
        obtain ⟨x2',r2⟩:=r1.new (p:={ r:=l,fn,ca,cb,t:=A.t }) hn2 hl1 (B:=.loop .ready none fn N A.t ps ca cb r)
         ⟨none,{ r:=r },rfl,hsn,fun _=>rfl,hca,hcb,hfn,fun i=>((hs.t i).mono x1).mono x2⟩
        exact ⟨_,x1.trans x2,r2,Ji _ _ _,hsn⟩
       have hsame:sameL N N' ps ps' s.nx r'=true:=by
        cases hb:sameL N N' ps ps' s.nx r' with
        | true=>rfl
        | false=>rw [hb] at hst; exact absurd rfl hst
       rw [hsame] at hst;obtain ⟨rfl,rfl,rfl⟩:=ZbY hsame;refine Zcf (cx:=⟨C.P,N',ro⟩) (hout ho) hF hen fun r l fn ca cb hca hcb hr hl hlr hfn=>?_
       obtain ⟨σ2,x2,r2,hp2,hq2⟩:=setup r l fn ca cb hca hcb hr hl hlr hfn;refine (ZjW (ro:=ro) hF (hcall _ _ _ _ _ _ _ hcl σ2 _ (A.eval f) [.lit (.func (.yield l) #[] #[])] ro _ r2 (RV.mono x2 _ _ hfr) ⟨_,[],rfl,⟨_,hp2,rfl⟩,rfl⟩ fun σ3 H3 x x3 r3 _=>?_)).2;rcases r3.blk _ _ hg3 with hd | ⟨q,B,e1,e2,e3⟩
       ·cases hd
       ·rw [x3 _ _ hp2] at e1; cases e1;obtain ⟨pe,q2,rfl,f1,f2,f3,f4,f5,f6⟩:=e3;rw [x3 _ _ hq2] at f1; cases f1;refine ⟨st,pe,e2,hst,?_⟩
        have hra:RA C.P σ3 { s with h:=h4,nx:=nx3,d:=.mark s.nx::s.d } { A with d:=WL r::A.d } (H3.del l) :=
         ⟨fun i=>((hs.t i).mono x2).mono x3,⟨_,_,rfl,⟨_,x3 _ _ hq2,rfl⟩,(hs.d.mono x2).mono x3⟩,r3.kill (p:={ r:=l,fn,ca,cb,t:=A.t }) hg3 rfl (x3 _ _ hp2) hset⟩
        have:=hK σ3 _ _ (x2.trans x3) hra
        rw [f2 hst];cases j with
        | none=>exact this
        | some j =>
          cases j with
          | none=>exact this
          | some id=>exact this
      ·cases he
    ·cases he
   ·cases he
  ·cases he
 ·cases he
theorem YD (hC:CfgOk C) (hcall:Jz C call) (hout:out=true→ro=none):∀ (a:ACode) (s s':ES) (e:Ex),codeE C call lim N out a s=some (e,s')→∀ (σ:Sg) (A:AF) (H:AH) (K:Ex→AF→AH→Prop),RA C.P σ s A H →
 (∀ σ' A' H',Ext σ σ'→RA C.P σ' s' A' H'→K e A' H')→ACx ⟨C.P,N,ro⟩ a (toQ K) A H
 | .skip,s,s',e,he,σ,A,H,K,hs,hK=>by
   simp only [codeE,Option.some.injEq,Prod.mk.injEq] at he;obtain ⟨rfl,rfl⟩:=he;exact Zh6 (ZdF K) (hK σ A H (Ext.refl σ) hs)
 | .reg l,s,s',e,he,σ,A,H,K,hs,hK=>by
   simp only [codeE] at he;split at he
   ·rename_i s1 h1;simp only [Option.some.injEq,Prod.mk.injEq] at he;obtain ⟨rfl,rfl⟩:=he;exact acx_reg2 (ZcH hC hcall hout l σ { s with nx:=s.nx+N+1 } _ A H ⟨hs.t,hs.d,hs.h⟩ h1 hK)
   ·cases he
 | .dreg p tail,s,s',e,he,σ,A,H,K,hs,hK=>by
   simp only [codeE] at he;split at he
   ·rename_i s1 h1;simp only [Option.some.injEq,Prod.mk.injEq] at he;obtain ⟨rfl,rfl⟩:=he;exact ZiD hC hcall hout (toQ_pan K) hs h1 hK
   ·cases he
 | .seq a b,s,s',e,he,σ,A,H,K,hs,hK=>by
   simp only [codeE] at he;refine acx_seqA (K:=fun A H=>ACx ⟨C.P,N,ro⟩ b (toQ K) A H) (fun A H h=>h) ?_;rw [← ZfW];split at he
   ·rename_i s1 h1;exact YD hC hcall hout a s s1 .nrm h1 σ A H _ hs fun σ1 A1 H1 hx hs1=>YD hC hcall hout b s1 s' e he σ1 A1 H1 K hs1 fun σ' A' H' hx'=>hK σ' A' H' (hx.trans hx')
   ·rename_i s1 h1;simp only [Option.some.injEq,Prod.mk.injEq] at he;obtain ⟨rfl,rfl⟩:=he;exact YD hC hcall hout a s s1 .ret h1 σ A H _ hs hK
   ·rename_i i s1 h1;simp only [Option.some.injEq,Prod.mk.injEq] at he;obtain ⟨rfl,rfl⟩:=he;exact YD hC hcall hout a s s1 (.ext i) h1 σ A H _ hs hK
   ·cases he
 | .seqL a b,s,s',e,he,σ,A,H,K,hs,hK=>by
   simp only [codeE] at he;refine Zlx (K:=fun A H=>ACx ⟨C.P,N,ro⟩ b (toQ K) A H) (fun A H h=>h) ?_;rw [← ZfW];split at he
   ·rename_i s1 h1;exact YD hC hcall hout a s s1 .nrm h1 σ A H _ hs fun σ1 A1 H1 hx hs1=>YD hC hcall hout b s1 s' e he σ1 A1 H1 K hs1 fun σ' A' H' hx'=>hK σ' A' H' (hx.trans hx')
   ·rename_i s1 h1;simp only [Option.some.injEq,Prod.mk.injEq] at he;obtain ⟨rfl,rfl⟩:=he;exact YD hC hcall hout a s s1 .ret h1 σ A H _ hs hK
   ·rename_i i s1 h1;simp only [Option.some.injEq,Prod.mk.injEq] at he;obtain ⟨rfl,rfl⟩:=he;exact YD hC hcall hout a s s1 (.ext i) h1 σ A H _ hs hK
   ·cases he
 | .cond c a b,s,s',e,he,σ,A,H,K,hs,hK=>by
   simp only [codeE] at he;split at he
   ·rename_i t ht;have hc:=JA (σ:=σ) (A:=A) hs.t c;rw [ht] at hc;refine Zly (t:=t) hc ?_;cases t with
    | true=>exact YD hC hcall hout a s s' e he σ A H K hs hK
    | false=>exact YD hC hcall hout b s s' e he σ A H K hs hK
   ·cases he
 | .block id a,s,s',e,he,σ,A,H,K,hs,hK=>by
   simp only [codeE] at he;refine ZjU ?_
   have hin:XO id (toQ K)=toQ (fun e=>match e with | .ext i=>if i=id then K .nrm else K (.ext i) | e=>K e):=by
    funext e
    cases e with
    | exit i=>simp only [XO,toQ]
    | _=>rfl
   rw [hin];split at he
   ·rename_i s1 h1;simp only [Option.some.injEq,Prod.mk.injEq] at he;obtain ⟨rfl,rfl⟩:=he;exact YD hC hcall hout a s s1 .nrm h1 σ A H _ hs hK
   ·rename_i s1 h1;simp only [Option.some.injEq,Prod.mk.injEq] at he;obtain ⟨rfl,rfl⟩:=he;exact YD hC hcall hout a s s1 .ret h1 σ A H _ hs hK
   ·rename_i i s1 h1;refine YD hC hcall hout a s s1 (.ext i) h1 σ A H _ hs ?_;cases hb:Zmf i id with
    | true =>
      simp only [hb,cond_true,Option.some.injEq,Prod.mk.injEq] at he;obtain ⟨rfl,rfl⟩:=he;dsimp only;rw [if_pos (Zmk hb)];exact hK
    | false =>
      simp only [hb,cond_false,Option.some.injEq,Prod.mk.injEq] at he;obtain ⟨rfl,rfl⟩:=he;dsimp only;rw [if_neg (fun e=>by rw [e,Nat.beq_refl] at hb; cases hb)];exact hK
   ·cases he
 | .loop a,s,s',e,he,σ,A,H,K,hs,hK=>by
   simp only [codeE] at he;exact ZiE (fun s s' e h=>YD hC hcall hout a s s' e h) he hs hK
 | .exit id,s,s',e,he,σ,A,H,K,hs,hK=>by
   simp only [codeE,Option.some.injEq,Prod.mk.injEq] at he;obtain ⟨rfl,rfl⟩:=he;exact Zh6 (ZdF K) (hK σ A H (Ext.refl σ) hs)
 | .ret,s,s',e,he,σ,A,H,K,hs,hK=>by
   simp only [codeE,Option.some.injEq,Prod.mk.injEq] at he;obtain ⟨rfl,rfl⟩:=he;exact Zh6 (ZdF K) (hK σ A H (Ext.refl σ) hs)
 | .scope a,s,s',e,he,σ,A,H,K,hs,hK=>by
   simp only [codeE] at he;exact ZjV (ZdF K) (YD hC hcall hout a s s' e he σ A H K hs hK)
 | .rfunc f ps asg bd,s,s',e,he,σ,A,H,K,hs,hK=>by
   simp only [codeE] at he;exact ZhB hC hcall hout he hs hK
 | .bad,s,s',e,he,σ,A,H,K,hs,hK=>by
   simp only [codeE] at he;cases he
end
end Go.PV
end
section
open List renaming length_cons→Zmi,getElem?_cons_succ→ZmD,getElem?_eq_getElem→ZmW,getD_eq_getElem?_getD→Zne,getElem?_eq_none→ZmS,mem_cons_self→ZmR,mem_cons_of_mem→ZmN
open Nat renaming zero_le→ZmU,ble→Zmx,beq→Zmf,eq_of_beq_eq_true→Zmk,le_of_ble_eq_true→Zmt
namespace Go.PV
def Zdp:List EV→Nat→Tr EV→Option (Tr EV)
 | [],_,t=>some t
 | v::vs,i,t=>match Tr.set 20 t i v with | some t'=>Zdp vs (i+1) t' | none=>none
theorem Zfv:∀ (vs:List EV) (j:Nat) (t t':Tr EV),Zdp vs j t=some t'→∀ i,t'.get i=if j≤i∧i-j<vs.length then vs[i-j]? else t.get i
 | [],j,t,t',h,i=>by
   simp only [Zdp,Option.some.injEq] at h;subst h;simp
 | v::vs,j,t,t',h,i=>by
   simp only [Zdp] at h;split at h
   ·rename_i t1 h1;rw [Zfv vs (j+1) t1 t' h i,Tr.get_set _ _ _ _ _ h1];by_cases e:i=j
    ·subst e; simp; omega
    ·by_cases hlt:j≤i
     ·have h2:i-j=(i-(j+1))+1:=by omega
      simp only [e,if_false];rw [h2];simp only [Zmi,ZmD];by_cases hc:i-(j+1)<vs.length
      ·rw [if_pos ⟨by omega,hc⟩,if_pos ⟨hlt,by omega⟩]
      ·rw [if_neg (by omega),if_neg (by omega)]
     ·rw [if_neg (by omega),if_neg e,if_neg (by omega)]
   ·cases h
theorem ZeC {σ:Sg} {vs:List EV} {xs:List VV} {t:Tr EV} (hl:RVL σ vs xs) (h:Zdp vs 0 .lf=some t) (i:Nat):RVo σ (t.get i) (xs.getD i Zx):=by
 rw [Zfv _ _ _ _ h];simp only [ZmU,true_and,Nat.sub_zero];by_cases hi:i<vs.length
 ·rw [if_pos hi];have hg:vs[i]?=some vs[i]:=ZmW hi;obtain ⟨x,e,hx⟩:=hl.get? i _ hg;rw [hg,Zne,e];exact hx
 ·rw [if_neg hi,Zne,ZmS (by rw [hl.length]; omega)];rfl
def ZcJ:List Tmp→List EV→Tr EV→Option (Tr EV)
 | p::ps,v::vs,t=>match Tr.set 20 t p v with | some t'=>ZcJ ps vs t' | none=>none
 | _,_,t=>some t
theorem Zdk {σ:Sg}:∀ {ps:List Tmp} {vs:List EV} {xs:List VV} {t t':Tr EV} {f:Nat→VV},RVL σ vs xs→(∀ i,RVo σ (t.get i) (f i))→ZcJ ps vs t=some t'→∀ i,RVo σ (t'.get i) (Zap ps xs f i)
 | [],vs,xs,t,t',f,hl,ht,h=>by
   simp only [ZcJ,Option.some.injEq] at h;subst h;simpa only [Zap] using ht
 | p::ps,[],xs,t,t',f,hl,ht,h=>by
   simp only [RVL] at hl;subst hl;simp only [ZcJ,Option.some.injEq] at h;subst h;simpa only [Zap] using ht
 | p::ps,v::vs,xs,t,t',f,hl,ht,h=>by
   obtain ⟨x,xs',rfl,h1,h2⟩:=hl;simp only [ZcJ] at h;split at h
   ·rename_i t1 ht1;simp only [Zap];refine Zdk h2 (fun i=>?_) h;rw [Tr.get_set _ _ _ _ _ ht1];simp only [upd];split
    ·exact h1
    ·exact ht i
   ·cases h
def resE (P:Program) (t:Tr EV) (h:Tr EB):List ResultVar→Option (List EV)
 | []=>some []
 | .tmp i::rs=>(match resE P t h rs with | some vs=>some (evO t (.tmp i)::vs) | none=>none)
 | .cell a ty::rs=>(match t.get a with
   | some (.ptr k o)=>(match loadE P h.get ty (.ptr k o) with
     | some v=>(match resE P t h rs with | some vs=>some (v::vs) | none=>none)
     | none=>none)
   | _=>none)
def tupE:List EV→EV
 | [x]=>x
 | xs=>.tuple xs
theorem Zcl {P:Program} {σ:Sg} {t:Tr EV} {h:Tr EB} {A:AF} {H:AH} (ht:∀ i,RVo σ (t.get i) (A.t i)) (hr:HR P σ h H):∀ {rs:List ResultVar} {vs:List EV},resE P t h rs=some vs→∃ xs,Zal P A H rs=some xs∧RVL σ vs xs
 | [],vs,he=>by
   simp only [resE,Option.some.injEq] at he;subst he;exact ⟨[],rfl,rfl⟩
 | .tmp i::rs,vs,he=>by
   simp only [resE] at he;split at he
   ·rename_i us hu;simp only [Option.some.injEq] at he;subst he;obtain ⟨xs,h1,h2⟩:=Zcl ht hr hu;exact ⟨A.t i::xs,by simp [Zal,Zak,h1],_,_,rfl,JA ht (.tmp i),h2⟩
   ·cases he
 | .cell a ty::rs,vs,he=>by
   simp only [resE] at he;split at he
   ·rename_i k o hk;split at he
    ·rename_i v hv;split at he
     ·rename_i us hu;simp only [Option.some.injEq] at he;subst he;obtain ⟨xs,h1,h2⟩:=Zcl ht hr hu;have hta:=ht a;rw [hk] at hta;obtain ⟨p,hp,e⟩:=hta
      have hld:Wa P ty (A.t a) H (fun e _=>∃ x,e=.ret x∧RV σ v x∧Zak P A H (.cell a ty)=some x):=by
       unfold loadE at hv;split at hv
       ·rename_i n ag hl;dsimp only at hv;split at hv
        ·rename_i e' cs hb;rcases hr.blk k _ hb with hd | ⟨q,B,g1,g2,g3⟩
         ·cases hd
         ·rw [hp] at g1; cases g1;obtain ⟨ys,rfl,hc⟩:=g3;obtain ⟨x,f1,f2⟩:=Za2 (hc.drop o) hv;rw [e];simp only [Wa,hl,ptrV,g2,f1];exact ⟨x,rfl,f2,by simp only [Zak,hl,e,ptrV,g2,f1]⟩
        ·rename_i e' s cs hb;rcases hr.blk k _ hb with hd | ⟨q,B,g1,g2,g3⟩
         ·cases hd
         ·rw [hp] at g1; cases g1;obtain ⟨ys,sp,rfl,hc,_⟩:=g3;obtain ⟨x,f1,f2⟩:=Za2 (hc.drop o) hv;rw [e];simp only [Wa,hl,ptrV,g2,f1];exact ⟨x,rfl,f2,by simp only [Zak,hl,e,ptrV,g2,f1]⟩
        ·cases hv
       ·cases hv
      have:∃ x,RV σ v x∧Zak P A H (.cell a ty)=some x:=by
       rw [e] at hld;simp only [Wa,ptrV] at hld;split at hld
       ·rename_i e1; cases e1
       ·split at hld
        ·split at hld
         ·obtain ⟨x,_,f2,f3⟩:=hld; exact ⟨x,f2,f3⟩
         ·exact hld.elim
        ·exact hld.elim
       ·exact hld.elim
      obtain ⟨x,f2,f3⟩:=this;exact ⟨x::xs,by simp [Zal,f3,h1],_,_,rfl,f2,h2⟩
     ·cases he
    ·cases he
   ·cases he
theorem Zlz {σ:Sg} {vs:List EV} {xs:List VV} (h:RVL σ vs xs):RV σ (tupE vs) (tupV xs):=by
 match vs,h with
 | [],h=>simp only [RVL] at h; subst h; exact ⟨[],rfl,rfl⟩
 | [v],h=>obtain ⟨y,ys,rfl,h1,h2⟩:=h; simp only [RVL] at h2; subst h2; exact h1
 | v::u::vs,h =>
   have h0:=h;obtain ⟨y,ys,rfl,h1,h2⟩:=h;obtain ⟨z,zs,rfl,h3,h4⟩:=h2;exact ⟨_,rfl,h0⟩
def mvE (o:GOp) (t:Tr EV):Option (Tr EV) :=
 match o.op with
 | .move x=>(match o.dst with | none=>some t | some d=>Tr.set 20 t d (evO t x))
 | .assign x=>(match o.dst with | none=>some t | some d=>Tr.set 20 t d (evO t x))
 | _=>none
def mvsE:List GOp→Tr EV→Option (Tr EV)
 | [],t=>some t
 | o::l,t=>match mvE o t with | some t'=>mvsE l t' | none=>none
theorem Zg7 {σ:Sg}:∀ {l:List GOp} {t t':Tr EV} {A:AF},(∀ i,RVo σ (t.get i) (A.t i))→mvsE l t=some t'→(∀ i,RVo σ (t'.get i) ((mvs l A).t i))∧(mvs l A).d=A.d
 | [],t,t',A,ht,he=>by
   simp only [mvsE,Option.some.injEq] at he;subst he;exact ⟨ht,rfl⟩
 | o::l,t,t',A,ht,he=>by
   simp only [mvsE] at he;split at he
   ·rename_i t1 h1
    have hA:(∀ i,RVo σ (t1.get i) ((mvV A o).t i))∧(mvV A o).d=A.d:=by
     have key:∀ x,(match o.dst with | none=>some t | some d=>Tr.set 20 t d (evO t x))=some t1→(∀ i,RVo σ (t1.get i) ((A.put o.dst (A.eval x)).t i))∧(A.put o.dst (A.eval x)).d=A.d:=by
      intro x hx;split at hx
      ·rename_i e;simp only [Option.some.injEq] at hx;subst hx;rw [e];exact ⟨ht,rfl⟩
      ·rename_i d e;rw [e];refine ⟨fun i=>?_,rfl⟩;rw [Tr.get_set _ _ _ _ _ hx];simp only [AF.put,upd];split
       ·exact JA ht x
       ·exact ht i
     unfold mvE at h1;unfold mvV;split at h1
     ·rename_i e; simp only [e]; exact key _ h1
     ·rename_i e; simp only [e]; exact key _ h1
     ·cases h1
    obtain ⟨g1,g2⟩:=Zg7 hA.1 he;exact ⟨g1,g2.trans hA.2⟩
   ·cases he
def recE (N:Nat):ACode→Option (Tmp × List GOp × ACode)
 | .seq (.reg (⟨some d,.call { callee:=.builtin .recover,args,argTypes },none⟩::l)) a=>(match args.toList with | []=>cond (l.all fun o=>cond (isMv o) (dOkB N o.dst) false) (some (d,l,a)) none | _=>none)
 | _=>none
theorem ZlA {N:Nat} {a a':ACode} {d:Tmp} {l:List GOp} (h:recE N a=some (d,l,a')):(∃ ts,a=.seq (.reg (⟨some d,.call { callee:=.builtin .recover,args:=#[],argTypes:=ts },none⟩::l)) a')∧∀ o∈l,isMv o=true∧dOk N o.dst:=by
 unfold recE at h;split at h
 ·rename_i d' args ts l1 a1;split at h
  ·rename_i e;have hq:=condS h;clear h;obtain ⟨hc,h⟩:=hq;simp only [Option.some.injEq,Prod.mk.injEq] at h;obtain ⟨rfl,rfl,rfl⟩:=h
   have:args=#[]:=Array.toList_inj.1 (by rw [e])
   subst this;refine ⟨⟨ts,rfl⟩,fun o ho=>?_⟩;rw [List.all_eq_true] at hc;obtain ⟨h1,h2⟩:=cond3 (hc o ho);exact ⟨h1,Za3 h2⟩
  ·cases h
 ·cases h
def dfunE (C:Cfg) (call:CallF) (lim:Nat) (f:FuncId) (xs:List EV) (h:Tr EB) (nx:Nat):Option (Tr EB × Nat) :=
 match C.ft f with
 | some (N,rs,a)=>cond (Zmx xs.length N) (match Zdp xs 0 .lf with
   | some t=>(match (match recE N a with
      | some (d,l,a')=>cond (Zmx (d+1) N) (match Tr.set 20 t d (.lit .nilIface) with
        | some t1=>(match mvsE l t1 with | some t2=>codeE C call lim N true a' ⟨t2,[],h,nx⟩ | none=>none)
        | none=>none) none
      | none=>codeE C call lim N true a ⟨t,[],h,nx⟩) with
     | some (e,s)=>(match e with
       | .ext _=>none
       | _=>(match s.d with
         | []=>(match resE C.P s.t s.h rs with | some _=>some (s.h,s.nx) | none=>none)
         | _=>none))
     | none=>none)
   | none=>none) none
 | none=>none
def Zdq (C:Cfg) (call:CallF) (lim:Nat) (rs:List ResultVar) (t:Tr EV):List ED→Tr EB→Nat→Option HN
 | [],h,nx=>(match resE C.P t h rs with | some vs=>some (tupE vs,h,nx) | none=>none)
 | .mark k::ds,h,nx=>(match h.get k with
   | some .deferred=>(match Tr.set 40 h k .dead with | some h'=>Zdq C call lim rs t ds h' nx | none=>none)
   | _=>none)
 | .fn f args cap::ds,h,nx=>(match dfunE C call lim f (args++cap) h nx with
   | some (h',nx')=>Zdq C call lim rs t ds h' nx'
   | none=>none)
def Zii:List (FuncId × List EV × EV)→FuncId→List EV→Option EV
 | [],_,_=>none
 | (g',ys,v)::l,g,xs=>cond (cond (Zmf g' g) (beqEL ys xs) false) (some v) (Zii l g xs)
theorem Zfw:∀ {l:List (FuncId × List EV × EV)} {g:FuncId} {xs:List EV} {v:EV},Zii l g xs=some v→(g,xs,v)∈l
 | [],g,xs,v,h=>by cases h
 | (g',ys,u)::l,g,xs,v,h=>by
   simp only [Zii] at h;rcases condC h with ⟨hc,hv⟩ | ⟨_,hv⟩
   ·obtain ⟨h1,h2⟩:=cond3 hc;clear h hc;obtain rfl:=Zmk h1;obtain rfl:=Xv _ _ h2;cases hv;exact ZmR ..
   ·exact ZmN _ (Zfw hv)
def funE (C:Cfg) (call:CallF) (lim:Nat) (g:FuncId) (xs:List EV) (h:Tr EB) (nx:Nat):Option HN :=
 match Zii C.mm g xs with
 | some v=>some (v,h,nx)
 | none =>
 match C.ft g with
 | some (N,rs,a)=>cond (Zmx xs.length N) (match Zdp xs 0 .lf with
   | some t=>(match codeE C call lim N true a ⟨t,[],h,nx⟩ with
     | some (e,s)=>(match e with
       | .ext _=>none
       | _=>Zdq C call lim rs s.t s.d s.h s.nx)
     | none=>none)
   | none=>none) none
 | none=>none
def Zku (C:Cfg) (call:CallF) (lim:Nat) (k:Nat) (xs:List EV) (h:Tr EB) (nx:Nat):Option HN :=
 match h.get k with
 | some (.loop .ready _ N t ps asg bd r)=>cond (cond (Zmf xs.length ps.size) (ps.toList.all fun p=>Zmx (p+1) N) false) (match ZcJ ps.toList xs t with
   | some t1=>(match codeE C call lim N false asg ⟨t1,[],h,nx⟩ with
     | some (.nrm,s1)=>(match s1.h.get k with
       | some (.loop .ready _ N1 _ ps1 _ _ r1)=>cond (sameL N N1 ps ps1 r r1) (match Tr.set 40 s1.h k (.loop .busy none N t ps asg bd r) with
         | some h2=>(match codeE C call lim N false bd { s1 with h:=h2 } with
           | some (e,s2)=>(match s2.h.get k with
             | some (.loop .busy _ N2 _ ps2 _ _ r2)=>cond (sameL N N2 ps ps2 r r2) (match e with
               | .nrm=>(match Tr.set 40 s2.h k (.loop .ready none N t ps asg bd r) with | some h3=>some (.lit (.bool true),h3,s2.nx) | none=>none)
               | .ret=>(match Tr.set 40 s2.h k (.loop .done (some none) N t ps asg bd r) with | some h3=>some (.lit (.bool false),h3,s2.nx) | none=>none)
               | .ext i=>(match Tr.set 40 s2.h k (.loop .done (some (some i)) N t ps asg bd r) with | some h3=>some (.lit (.bool false),h3,s2.nx) | none=>none)) none
             | _=>none)
           | none=>none)
         | none=>none) none
       | _=>none)
     | _=>none)
   | none=>none) none
 | _=>none
def callE (C:Cfg) (lim:Nat):Nat→CallF
 | 0=>fun _ _ _ _=>none
 | n+1=>fun f xs h nx=>match f with
   | .func g first cap=>funE C (callE C lim n) lim g (first++xs++cap) h nx
   | .lit (.func (.func g) a b)=>funE C (callE C lim n) lim g (a.toList.map .lit++xs++b.toList.map .lit) h nx
   | .yield k=>Zku C (callE C lim n) lim k xs h nx
   | _=>none
section
variable {C:Cfg} {call:CallF} {lim:Nat}
theorem ZiG (hC:CfgOk C) (hcall:Jz C call) {f:FuncId} {xs:List EV} {h h':Tr EB} {nx nx':Nat} (he:dfunE C call lim f xs h nx=some (h',nx')) {σ:Sg} {ys:List VV} {H:AH} {K:VE→FrameMode→AH→Prop} (hr:HR C.P σ h H) (hl:RVL σ xs ys)
 (hK:∀ σ' H' x,Ext σ σ'→HR C.P σ' h' H'→K (.ret x) .returning H'):Zz C.P f=true∧Zid C.P f ys .returning H K:=by
 unfold dfunE at he;split at he
 ·rename_i N rs a hf;obtain ⟨hd,hen⟩:=hC.ft f N rs a hf;have hq:=condS he;clear he;obtain ⟨hc,he⟩:=hq;have hN:ys.length≤N:=by rw [hl.length]; exact Zmt hc
  refine ⟨hen,?_⟩;split at he
  ·rename_i t ht;have hfr:=ZeC hl ht;split at he
   ·rename_i e s hrun
    have fin:∀ e',(e'=Ex.nrm∨e'=Ex.ret)→e=e'→∀ σ' A' H',Ext σ σ'→RA C.P σ' s A' H'→A'.d=[]∧∃ x H'' x',resV C.P rs A' H'=some x∧GhV H' x H'' x'∧K (.ret x') .returning H'':=by
     rintro e' he' rfl σ' A' H' hx hra
     have he2:(match s.d with | []=>(match resE C.P s.t s.h rs with | some _=>some (s.h,s.nx) | none=>none) | _=>none)=some (h',nx'):=by
      rcases he' with rfl | rfl<;>exact he
     split at he2
     ·rename_i hd0;split at he2
      ·rename_i vs hv;simp only [Option.some.injEq,Prod.mk.injEq] at he2;obtain ⟨rfl,rfl⟩:=he2;have hdd:=hra.d;rw [hd0] at hdd;obtain ⟨zs,g1,g2⟩:=Zcl hra.t hra.h hv;exact ⟨hdd,tupV zs,H',tupV zs,by simp [resV,g1],GhV.refl _ _,hK σ' H' _ hx hra.h⟩
      ·cases he2
     ·cases he2
    have fin':∀ σ' A' H',Ext σ σ'→RA C.P σ' s A' H'→(match e with | .ext _=>fun (A':AF) (H':AH)=>False | _=>fun A' H'=>A'.d=[]∧∃ x H'' x',resV C.P rs A' H'=some x∧GhV H' x H'' x'∧K (.ret x') .returning H'') A' H':=by
     intro σ' A' H' hx hra;cases e with
     | nrm=>exact fin .nrm (.inl rfl) rfl σ' A' H' hx hra
     | ret=>exact fin .ret (.inr rfl) rfl σ' A' H' hx hra
     | ext i=>cases he
    have mono:∀ e' A' H',toQ (fun e=>match e with | .ext _=>fun (A':AF) (H':AH)=>False | _=>fun A' H'=>A'.d=[]∧∃ x H'' x',resV C.P rs A' H'=some x∧GhV H' x H'' x'∧K (.ret x') .returning H'') e' A' H'→ZfT C.P rs .returning K e' A' H':=by
     intro e' A' H' hq;cases e' with
     | normal=>exact hq
     | ret=>exact hq
     | exit i=>exact hq.elim
     | goto l=>exact hq.elim
     | panic ch=>exact hq.elim
     | outgrown=>exact hq.elim
    split at hrun
    ·rename_i d l a' hrec;obtain ⟨⟨ts,ea⟩,hmv⟩:=ZlA hrec;have hq:=condS hrun;clear hrun;obtain ⟨hdN,hrun⟩:=hq;split at hrun
     ·rename_i t1 ht1;split at hrun
      ·rename_i t2 ht2;rw [ea] at hd;refine ZeS hd hmv hN (Zmt hdN) (Zbg ?_ mono)
       have ht1r:∀ i,RVo σ (t1.get i) (upd (fun i=>ys.getD i Zx) d (.lit .nilIface) i):=fun i=>by
        rw [Tr.get_set _ _ _ _ _ ht1];simp only [upd];split
        ·rfl
        ·exact hfr i
       obtain ⟨g1,g2⟩:=Zg7 (A:=⟨upd (fun i=>ys.getD i Zx) d (.lit .nilIface),[]⟩) ht1r ht2;exact YD (ro:=none) hC hcall (fun _=>rfl) a' _ _ e hrun σ _ H _ ⟨g1,by show RDL σ [] _; exact g2,hr⟩ fin'
      ·cases hrun
     ·cases hrun
    ·exact Zgs hd hN (Zbg (YD (ro:=none) hC hcall (fun _=>rfl) a _ _ e hrun σ _ H _ ⟨hfr,rfl,hr⟩ fin') mono)
   ·cases he
  ·cases he
 ·cases he
theorem Zae (hC:CfgOk C) (hcall:Jz C call) {rs:List ResultVar} {t:Tr EV} {K:VE→AH→Prop}:∀ (es:List ED) (h:Tr EB) (nx:Nat) (v:EV) (h':Tr EB) (nx':Nat),Zdq C call lim rs t es h nx=some (v,h',nx') →
 ∀ (σ:Sg) (ds:List Deferred) (tt:Nat→VV) (H:AH),(∀ i,RVo σ (t.get i) (tt i))→RDL σ es ds→HR C.P σ h H→EK C.P σ v h' K→WB C.P rs K tt ds .returning H
 | [],h,nx,v,h',nx',he,σ,ds,tt,H,ht,hd,hr,hK=>by
   simp only [Zdq] at he;split at he
   ·rename_i vs hv;simp only [Option.some.injEq,Prod.mk.injEq] at he;obtain ⟨rfl,rfl,_⟩:=he;simp only [RDL] at hd;subst hd;obtain ⟨xs,g1,g2⟩:=Zcl (A:=⟨tt,[]⟩) ht hr hv;exact ⟨tupV xs,H,tupV xs,by simp [resV,g1],GhV.refl _ _,hK σ H _ (Ext.refl σ) hr (Zlz g2)⟩
   ·cases he
 | .mark k::es,h,nx,v,h',nx',he,σ,ds,tt,H,ht,hd,hr,hK=>by
   simp only [Zdq] at he;split at he
   ·rename_i hk;split at he
    ·rename_i h1 hs1;obtain ⟨d,ds',rfl,⟨p,hp,rfl⟩,h2⟩:=hd;rcases hr.blk k _ hk with hdd | ⟨q,B,g1,g2,g3⟩
     ·cases hdd
     ·rw [hp] at g1; cases g1;have g3':B=.obj (.deferred (some [])):=g3;subst g3';refine ⟨by simp,g2,?_⟩;exact Zae hC hcall es h1 nx v h' nx' he σ ds' tt _ ht h2 (hr.kill hk rfl hp hs1) hK
    ·cases he
   ·cases he
 | .fn f args cap::es,h,nx,v,h',nx',he,σ,ds,tt,H,ht,hd,hr,hK=>by
   simp only [Zdq] at he;split at he
   ·rename_i h1 nx1 hdf;obtain ⟨d,ds',rfl,⟨asg,cs,rfl,h1a,h1c⟩,h2⟩:=hd
    have hl:RVL σ (args++cap) ((asg.toArray++cs.toArray).toList.map .lit):=by
     simp only [Array.toList_append,List.map_append];exact h1a.append h1c
    obtain ⟨hen,hdc⟩:=ZiG (K:=fun e u' H'=>match e with | .ret _=>WB C.P rs K tt ds' (settle u') H' | .pan ch=>WB C.P rs K tt ds' (raised u' ch) H') hC hcall hdf hr hl
     fun σ' H' x hx hr'=>Zae hC hcall es h1 nx1 v h' nx' he σ' ds' tt H' (fun i=>(ht i).mono hx) (h2.mono hx) hr' fun σ'' H'' y hx'=>hK σ'' H'' y (hx.trans hx')
    exact ⟨by simp,hen,_,H,GhL.refl _ _,hdc⟩
   ·cases he
theorem Zfx (hC:CfgOk C) (hcall:Jz C call) {g:FuncId} {xs:List EV} {h h':Tr EB} {nx nx':Nat} {v:EV} (he:funE C call lim g xs h nx=some (v,h',nx')) {σ:Sg} {ys:List VV} {H:AH} {K:VE→AH→Prop} (hr:HR C.P σ h H) (hl:RVL σ xs ys)
 (hK:EK C.P σ v h' K):Zz C.P g=true∧ZO C.P g ys H K:=by
 unfold funE at he;split at he
 ·rename_i u hu;simp only [Option.some.injEq,Prod.mk.injEq] at he;obtain ⟨rfl,rfl,_⟩:=he;obtain ⟨m1,m2,m3,m4⟩:=hC.mm _ _ _ (Zfw hu);obtain rfl:=RVL.vv_eq m2 hl;refine ⟨m1,(m4 H).mono ?_⟩;rintro e H' ⟨rfl,rfl⟩;exact hK σ H' _ (Ext.refl σ) hr (RV.vv u m3)
 rename_i hnm;clear hnm;split at he
 ·rename_i N rs a hf;obtain ⟨hd,hen⟩:=hC.ft g N rs a hf;have hq:=condS he;clear he;obtain ⟨hc,he⟩:=hq;have hN:ys.length≤N:=by rw [hl.length]; exact Zmt hc
  refine ⟨hen,?_⟩;split at he
  ·rename_i t ht;split at he
   ·rename_i e s hrun;refine Ju hd hN (Zbg (YD (ro:=none) hC hcall (fun _=>rfl) a _ _ e hrun σ _ H (fun e=>match e with | .ext _=>fun (A':AF) (H':AH)=>False | _=>fun A' H'=>WB C.P rs K A'.t A'.d .returning H') ⟨ZeC hl ht,rfl,hr⟩ ?_) ?_)
    ·intro σ' A' H' hx hra;cases e with
     | nrm=>exact Zae hC hcall _ _ _ _ _ _ he σ' A'.d A'.t H' hra.t hra.d hra.h fun σ'' H'' y hx'=>hK σ'' H'' y (hx.trans hx')
     | ret=>exact Zae hC hcall _ _ _ _ _ _ he σ' A'.d A'.t H' hra.t hra.d hra.h fun σ'' H'' y hx'=>hK σ'' H'' y (hx.trans hx')
     | ext i=>cases he
    ·intro e' A' H' hq;cases e' with
     | normal=>exact hq
     | ret=>exact hq
     | exit i=>exact hq.elim
     | goto l=>exact hq.elim
     | panic ch=>exact hq.elim
     | outgrown=>exact hq.elim
   ·cases he
  ·cases he
 ·cases he
theorem ZhC (hC:CfgOk C) (hcall:Jz C call) {k:Nat} {xs:List EV} {h h':Tr EB} {nx nx':Nat} {v:EV} (he:Zku C call lim k xs h nx=some (v,h',nx')) {σ:Sg} {ys:List VV} {H:AH} {K:VE→AH→Prop} {p:Pay} {ro:Option Nat} (hp:σ k=some p) (hr:HR C.P σ h H) (hl:RVL σ xs ys)
 (hK:EK C.P σ v h' K):ACall C.P ro (.lit (.func (.yield p.r) #[] #[])) ys H K:=by
 unfold Zku at he;split at he
 ·rename_i j N t ps asg bd r hk;have hq:=condS he;clear he;obtain ⟨hc,he⟩:=hq;obtain ⟨hc1,hc2⟩:=cond3 hc;rcases hr.blk k _ hk with hdd | ⟨q,B,g1,g2,g3⟩
  ·cases hdd
  ·rw [hp] at g1; cases g1;obtain ⟨pe,qr,rfl,f1,f2,f3,f4,f5,f6⟩:=g3;split at he
   ·rename_i t1 ht1;split at he
    ·rename_i s1 hrun1;split at he
     ·rename_i j1 N1 t1' ps1 as1 bd1 r1 hk1;have hq:=condS he;clear he;obtain ⟨hsame1,he⟩:=hq;obtain ⟨rfl,rfl,rfl⟩:=ZbY hsame1;split at he
      ·rename_i h2 hs2;split at he
       ·rename_i e s2 hrun2;split at he
        ·rename_i j2 N2 t2' ps2 as2 bd2 r2 hk2;have hq:=condS he;clear he;obtain ⟨hsame2,he⟩:=hq;obtain ⟨rfl,rfl,rfl⟩:=ZbY hsame2;refine ZaD (pe:=pe) g2 (by rw [hl.length]; exact Zmk hc1) (fun i hi=>?_) f5 ?_
         ·rw [List.all_eq_true] at hc2;exact Zmt (hc2 i hi)
         ·have hA:∀ σ1 A1 H1,Ext σ σ1→RA C.P σ1 s1 A1 H1→(∃ pe,H1 p.r=some (.loop .ready pe p.fn N2 p.t ps2 p.ca p.cb qr.r))∧∀ pe,AC ⟨C.P,N2,some p.r⟩ p.cb (Zic p.r p.fn N2 p.t ps2 p.ca p.cb qr.r K) A1 (H1.set p.r (.loop .busy pe p.fn N2 p.t ps2 p.ca p.cb qr.r)):=by
           intro σ1 A1 H1 hx1 hra1;rcases hra1.h.blk k _ hk1 with hdd | ⟨q1,B1,e1,e2,e3⟩
           ·cases hdd
           ·rw [hx1 _ _ hp] at e1; cases e1;obtain ⟨pe1,qr1,rfl,i1,_⟩:=e3;rw [hx1 _ _ f1] at i1; cases i1;refine ⟨⟨pe1,e2⟩,fun pe'=>?_⟩
            have hr2:=hra1.h.upd (b:=.loop .busy none N2 t ps2 asg bd r2) (B:=.loop .busy pe' p.fn N2 p.t ps2 p.ca p.cb qr.r) hk1 rfl (hx1 _ _ hp) hs2
             ⟨pe',qr,rfl,hx1 _ _ f1,fun h=>absurd rfl h,f3,f4,f5,fun i=>(f6 i).mono hx1⟩
            have hbody:=YD (ro:=some p.r) hC hcall (fun h=>by cases h) bd _ _ e hrun2 σ1 A1 _ (fun e=>match e with
             | .nrm=>fun _ H=>(∃ pe,H p.r=some (.loop .busy pe p.fn N2 p.t ps2 p.ca p.cb qr.r))∧K (.ret (boolV true)) (H.set p.r (.loop .ready none p.fn N2 p.t ps2 p.ca p.cb qr.r))
             | .ret=>fun _ H=>(∃ pe,H p.r=some (.loop .busy pe p.fn N2 p.t ps2 p.ca p.cb qr.r))∧K (.ret (boolV false)) (H.set p.r (.loop .done (some .ret) p.fn N2 p.t ps2 p.ca p.cb qr.r))
             | .ext id=>fun _ H=>(∃ pe,H p.r=some (.loop .busy pe p.fn N2 p.t ps2 p.ca p.cb qr.r))∧K (.ret (boolV false)) (H.set p.r (.loop .done (some (.exit id)) p.fn N2 p.t ps2 p.ca p.cb qr.r))) ⟨hra1.t,hra1.d,hr2⟩ ?_
            ·refine AC.mono (hbody p.cb f4) ?_;intro e' A' H' hq;cases e' with
             | normal=>exact hq
             | ret=>exact hq
             | exit i=>exact hq
             | goto l=>exact hq.elim
             | panic ch=>exact hq.elim
             | outgrown=>exact hq.elim
            ·intro σ2 A2 H2 hx2 hra2;have hx:=hx1.trans hx2;rcases hra2.h.blk k _ hk2 with hdd | ⟨q2,B2,e1,e2',e3⟩
             ·cases hdd
             ·rw [hx _ _ hp] at e1; cases e1;obtain ⟨pe2,qr2,rfl,i1,_⟩:=e3;rw [hx _ _ f1] at i1; cases i1;cases e with
              | nrm =>
                dsimp only at he;split at he
                ·rename_i h3 hs3;simp only [Option.some.injEq,Prod.mk.injEq] at he;obtain ⟨rfl,rfl,_⟩:=he;exact ⟨⟨pe2,e2'⟩,hK σ2 _ _ hx (hra2.h.upd (B:=.loop .ready none p.fn N2 p.t ps2 p.ca p.cb qr.r) hk2 rfl (hx _ _ hp) hs3 ⟨none,qr,rfl,hx _ _ f1,fun _=>rfl,f3,f4,f5,fun i=>(f6 i).mono hx⟩) rfl⟩
                ·cases he
              | ret =>
                dsimp only at he;split at he
                ·rename_i h3 hs3;simp only [Option.some.injEq,Prod.mk.injEq] at he;obtain ⟨rfl,rfl,_⟩:=he;exact ⟨⟨pe2,e2'⟩,hK σ2 _ _ hx (hra2.h.upd (B:=.loop .done (some .ret) p.fn N2 p.t ps2 p.ca p.cb qr.r) hk2 rfl (hx _ _ hp) hs3 ⟨some .ret,qr,rfl,hx _ _ f1,fun _=>rfl,f3,f4,f5,fun i=>(f6 i).mono hx⟩) rfl⟩
                ·cases he
              | ext id =>
                dsimp only at he;split at he
                ·rename_i h3 hs3;simp only [Option.some.injEq,Prod.mk.injEq] at he;obtain ⟨rfl,rfl,_⟩:=he;exact ⟨⟨pe2,e2'⟩,hK σ2 _ _ hx (hra2.h.upd (B:=.loop .done (some (.exit id)) p.fn N2 p.t ps2 p.ca p.cb qr.r) hk2 rfl (hx _ _ hp) hs3 ⟨some (.exit id),qr,rfl,hx _ _ f1,fun _=>rfl,f3,f4,f5,fun i=>(f6 i).mono hx⟩) rfl⟩
                ·cases he
          have hass:=YD (ro:=some p.r) hC hcall (fun h=>by cases h) asg _ _ .nrm hrun1 σ ⟨Zap ps2.toList ys p.t,[]⟩ H (onN (fun _ _ _=>False) (fun A1 H1=>(∃ pe,H1 p.r=some (.loop .ready pe p.fn N2 p.t ps2 p.ca p.cb qr.r))∧∀ pe,AC ⟨C.P,N2,some p.r⟩ p.cb (Zic p.r p.fn N2 p.t ps2 p.ca p.cb qr.r K) A1 (H1.set p.r (.loop .busy pe p.fn N2 p.t ps2 p.ca p.cb qr.r))))
           ⟨Zdk hl f6 ht1,rfl,hr⟩ hA
          refine AC.mono (hass p.ca f3) ?_;intro e' A' H' hq;cases e' with
          | normal=>exact hq
          | ret=>exact hq.elim
          | exit i=>exact hq.elim
          | goto l=>exact hq.elim
          | panic ch=>exact hq.elim
          | outgrown=>exact hq.elim
        ·cases he
       ·cases he
      ·cases he
     ·cases he
    ·cases he
   ·cases he
 ·cases he
theorem ZfX (hC:CfgOk C) (lim:Nat):∀ n,Jz C (callE C lim n)
 | 0=>fun f xs h nx v h' nx' he=>by simp only [callE] at he; cases he
 | n+1=>fun f xs h nx v h' nx' he σ H f' xs' ro K hr hf hl hK=>by
   simp only [callE] at he;have ih:=ZfX hC lim n;split at he
   ·rename_i g first cap;obtain ⟨asg,bs,rfl,h1,h2⟩:=hf;exact Zfx hC ih he hr ((h1.append hl).append h2) hK
   ·rename_i g a b;obtain rfl:=hf;exact Zfx hC ih he hr (((RVL.lits _).append hl).append (RVL.lits _)) hK
   ·rename_i k;obtain ⟨p,hp,rfl⟩:=hf;exact ZhC (ro:=ro) hC ih he hp hr hl hK
   ·cases he
theorem Zdl {P:Program} {f:FuncId} {xs:List VV} {X:VV} (h:ZO P f xs AH.nil (fun e H'=>∃ x H'',e=.ret x∧GhV H' x H'' X)):PureF P f xs X:=by
 intro H S w args hs hx;have hs0:=hs.sub (SubH.nil H);refine CallsIn.mono (h S w args hs0.1 hx) ?_;intro e w' hq;cases e with
 | returned u =>
   obtain ⟨S0,H0,x,j1,j2,j3,x',H1,e,hg⟩:=hq;cases e;obtain ⟨S',q1,q2,k3⟩:=hg S0 w' u j2 j3;have k1:=j1.trans q1;have hfr:∀ r,r<w.heap.size→w'.heap[r]?=w.heap[r]?:=fun r hr=>k1.fr r hr rfl
   have hS':∀ r,S' r→S r∨w.heap.size≤r:=fun r hr=>by
    rcases k1.snew r hr with h | h | h
    ·exact .inl h
    ·exact absurd rfl h
    ·exact .inr h
   refine ⟨fun r=>S r∨S' r,H,X,⟨k1.os,k1.tape,k1.output,k1.size,fun _ h=>.inl h,fun r hr _=>hfr r hr,fun r hr=>.inl hr,fun r h=>h.elim .inl fun h=>(hS' r h).elim .inl fun h=>.inr (.inr h)⟩,⟨fun r b hb=>?_,fun r b hb hsr=>?_,fun r hr=>?_⟩,?_,rfl,rfl⟩
   ·exact (hs.blk r b hb).mono (fun i hi=>⟨.inl hi,hfr i (hs.lt i hi)⟩) (hfr r (hs.lt_of hb))
   ·rcases hsr with h | h
    ·exact hs.dis r b hb h
    ·rcases hS' r h with h | h
     ·exact hs.dis r b hb h
     ·have:=hs.lt_of hb; omega
   ·rcases hr with h | h
    ·exact Nat.lt_of_lt_of_le (hs.lt r h) k1.size
    ·exact q2.lt r h
   ·exact Rv.mono (fun r h=>⟨.inr h,rfl⟩) _ _ k3
 | panicked ch=>obtain ⟨S',H',k1,k2,x,H1,k3,_⟩:=hq; cases k3
 | outgrown=>exact hq.elim
def ZhS (r:Option HN) (w:EV):Bool:=match r with | some (v,h,_)=>(match Xi v h with | some (u,_)=>beqEV u w | none=>false) | none=>false
theorem ZlB (hC:CfgOk C) (f:FuncId) (xs:List EV) (w:EV) (lim n:Nat) (hxs:XI xs=true) (h:ZhS (callE C lim n (.lit (.func (.func f) #[] #[])) xs .lf 0) w=true):Zz C.P f=true∧XI xs=true∧w.closedB=true∧PureF C.P f (vvL xs) w.vv:=by
 unfold ZhS at h;split at h
 ·rename_i v h' nx' he;split at h
  ·rename_i u h2 hfz;obtain rfl:=JQ _ _ h;have hnil:HR C.P (fun _=>none) .lf AH.nil:=⟨fun k b hb=>(by simp [Tr.get] at hb),fun k k' b b' p p' hb=>(by simp [Tr.get] at hb),fun _ _=>rfl⟩
   have:=ZfX hC lim n _ _ _ _ _ _ _ he (fun _=>none) AH.nil (.lit (.func (.func f) #[] #[])) (vvL xs) none (fun e H'=>∃ x H'',e=.ret x∧GhV H' x H'' u.vv∧u.closedB=true)
    hnil rfl (RVL.vv xs hxs) (fun σ' H' x _ hr hx=>by
     obtain ⟨H2,g1,_,g3⟩:=ZcG v h' u h2 hfz H' x hr hx;exact ⟨x,H2,rfl,g1,g3⟩)
   rw [ZL] at this;have hcl:u.closedB=true:=(ZbP _ _ _ _ hfz)
   exact ⟨this.1,hxs,hcl,Zdl (this.2.mono fun e H' ⟨x,H'',e1,g,_⟩=>⟨x,H'',e1,g⟩)⟩
  ·cases h
 ·cases h
def trueB (r:Option HN):Bool:=match r with | some (.lit (.bool true),_,_)=>true | _=>false
theorem reckoned (hC:CfgOk C) (f:FuncId) (lim n:Nat) (h:trueB (callE C lim n (.lit (.func (.func f) #[] #[])) [] .lf 0)=true):PureF C.P f [] (boolV true):=by
 unfold trueB at h;split at h
 ·rename_i h' nx' he
  have:=ZfX hC lim n _ _ _ _ _ _ _ he (fun _=>none) AH.nil (.lit (.func (.func f) #[] #[])) [] none (fun e H'=>∃ x H'',e=.ret x∧GhV H' x H'' (boolV true))
   ⟨fun k b hb=>(by simp [Tr.get] at hb),fun k k' b b' p p' hb=>(by simp [Tr.get] at hb),fun _ _=>rfl⟩ rfl rfl (fun σ' H' x _ _ hx=>⟨x,H',rfl,by rw [show x=_ from hx]; exact GhV.refl _ _⟩)
  rw [ZL] at this;exact Zdl this.2
 ·cases h
end
end Go.PV
end
section
open List renaming mem_cons_of_mem→ZmN,mem_cons_self→ZmR
namespace Go.PV
def ofT {α:Type}:List (Nat × α)→Tr α→Tr α
 | [],t=>t
 | (k,x)::l,t=>match Tr.set 20 t k x with
   | some t'=>ofT l t'
   | none=>ofT l t
theorem ZfY {α:Type}:∀ (l:List (Nat × α)) (t:Tr α) {f:Nat} {x:α},(ofT l t).get f=some x→(f,x)∈l∨t.get f=some x
 | [],t,f,x,h=>.inr h
 | (k,y)::l,t,f,x,h=>by
   simp only [ofT] at h;split at h
   ·rename_i t' ht;rcases ZfY l t' h with h1 | h1
    ·exact .inl (ZmN _ h1)
    ·rw [Tr.get_set _ _ _ _ _ ht] at h1;split at h1
     ·rename_i e; cases h1; subst e; exact .inl (ZmR ..)
     ·exact .inr h1
   ·rcases ZfY l t h with h1 | h1
    ·exact .inl (ZmN _ h1)
    ·exact .inr h1
theorem ofT_get {α:Type} {f:Nat} {x:α} (l:List (Nat × α)) (t:Tr α) (h:(ofT l .lf).get f=some x):(f,x)∈l:=by
 rcases ZfY l .lf h with h | h
 ·exact h
 ·simp [Tr.get] at h
end Go.PV
end
section
set_option maxRecDepth 100000
namespace Go.PV.Ytfkkmdelpddojaa
open Go Go.Proofs Go.Maps
noncomputable def tab:List (Nat × (Nat × List ResultVar × ACode)):=[(97,(8,[(.tmp 2)],c97)),
 (120,(19,[(.tmp 2)],c120)),
 (121,(25,[(.tmp 2)],c121))]
noncomputable def ftab:Tr (Nat × List ResultVar × ACode):=ofT tab .lf
noncomputable def mtab:TypeId→Option Value:=fun t=>none
noncomputable def itab:TypeId→String→Option FuncId:=fun _ _=>none
noncomputable def CC:Cfg:={ P:=Try.prog,ft:=ftab.get,mt:=mtab,im:=itab,mm:=[] }
theorem CCok:CfgOk CC where
 ft f N rs a h:=by
  have hm:=ofT_get tab .lf h
  have hall:∀ x∈tab,FnD Try.prog x.1 x.2.1 x.2.2.1 x.2.2.2∧Zz Try.prog x.1=true:=by
   simp only [tab,List.forall_mem_cons];exact ⟨⟨fd97,en_97⟩,⟨fd120,en_120⟩,⟨fd121,en_121⟩,fun x hx=>by cases hx⟩
  exact hall _ hm
 mt t z h:=by
  simp only [CC,mtab] at h;cases h
 im t m g h:=by
  simp only [CC,itab] at h;cases h
 mixed:=mixed
 mm _ _ _ h:=by cases h
end Go.PV.Ytfkkmdelpddojaa
end
section
namespace Go.PV
open Go
def OutE (H0 H:AH) (e:TypeId) (k:Nat) (v:VV) (n:Nat) (cs:List VV):Prop:=(v=.slice true 0 []∧n=0∧cs=[]∧SubH H0 H)∨∃ Hb,SubH H0 Hb∧OwnX Hb H e k v n cs
section
variable {H0 H:AH} {e:TypeId} {k n:Nat} {v:VV} {cs:List VV}
theorem OutE.start (hs:SubH H0 H):OutE H0 H e k (.slice true 0 []) 0 []:=.inl ⟨rfl,rfl,rfl,hs⟩
theorem OutE.nil (hs:SubH H0 H):OutE H0 H e k (.lit (.slice none 0 0)) 0 []:=.inr ⟨H,hs,OwnX.nil _ _ _⟩
theorem OutE.sub (h:OutE H0 H e k v n cs):SubH H0 H:=by
 rcases h with ⟨_,_,_,h⟩ | ⟨Hb,h1,h2⟩
 ·exact h
 ·exact h1.trans h2.sub
theorem OutE.cells (h:OutE H0 H e k v n cs):v.cells=[v]∧VV.one v=true:=by
 rcases h with ⟨rfl,_⟩ | ⟨Hb,h1,h2⟩
 ·exact ⟨rfl,rfl⟩
 ·exact h2.cells
theorem OutE.alloc (h:OutE H0 H e k v n cs) {r:Nat} (hr:H r=none) (b:Blk):OutE H0 (H.set r b) e k v n cs:=by
 have hn:=h.sub.none hr;rcases h with ⟨h1,h2,h3,h⟩ | ⟨Hb,h1,h2⟩
 ·exact .inl ⟨h1,h2,h3,h.of_set hn⟩
 ·exact .inr ⟨Hb.set r b,h1.of_set hn,h2.alloc hr b⟩
theorem OutE.back (h:OutE H0 H e k v n cs):GhV H v H0 (.slice false n cs):=by
 rcases h with ⟨rfl,rfl,rfl,h⟩ | ⟨Hb,h1,h2⟩
 ·exact (GhV.imm _).trans (GhV.forget h _)
 ·exact GhV.back h2 h1
theorem OutE.ghost {i:Nat} {t:Nat→VV} {d:List Deferred} (h:OutE H0 H e k (t i) n cs) (N:Nat):Ghost N ⟨t,d⟩ H ⟨upd t i (.slice false n cs),d⟩ H0:=Ghost.slot (A:=⟨t,d⟩) h.back
theorem OutE.append {P:Program} {t b:Nat} {zs:List Value} {x:VV} {m:Nat} {news:List VV} {K:VE→AH→Prop} (h:OutE H0 H e k v n cs) (hel:elT P t=some (e,k,b)) (hz:zeroT P e=some zs) (hzk:zs.length=k) (hk:0<k) (hs:srcV H k x=some (m,news))
 (hone:news.all VV.one=true) (hb:(n+m) * b≤140737488355328) (h63:n+m≤9223372036854775807) (hnl:m=0→news=[]) (hK:∀ v' H',OutE H0 H' e k v' (n+m) (cs++news)→K (.ret v') H'):Jf P t v x H K:=by
 rcases h with ⟨rfl,rfl,rfl,h⟩ | ⟨Hb,h1,h2⟩
 ·refine WP hel hz hzk hk (by simp) hs hone hb h63 (fun h0=>hK _ _ (.inl ⟨rfl,by omega,?_,h⟩)) (fun _ v' H' ho=>hK _ _ (.inr ⟨H,h,ho⟩));rw [hnl h0]; rfl
 ·exact Zbt hel hz hzk hk h2 hs hone hb h63 fun v' H' ho=>hK _ _ (.inr ⟨Hb,h1,ho⟩)
end
theorem OwnX.widen {H0 Hm H:AH} {e:TypeId} {k n:Nat} {v:VV} {cs:List VV} (h:OwnX H0 Hm e k v n cs) (hs:SubH Hm H):∃ Hq,SubH H0 Hq∧OwnX Hq H e k v n cs:=by
 rcases h with ⟨rfl,rfl,rfl,rfl⟩ | ⟨g,c,sp,rfl,h0,rfl,h1,h2,h3,h4⟩
 ·exact ⟨H,hs,OwnX.nil _ _ _⟩
 ·refine ⟨H.del g,((SubH.new h0).trans hs).del h0,.inr ⟨g,c,sp,rfl,AH.del_same _ _,?_,h1,h2,h3,h4⟩⟩;have hg:=hs _ _ (AH.set_same _ _ _)
  funext i
  rw [AH.get];split
  ·rename_i e; rw [e]; exact hg
  ·rename_i e; rw [AH.del_ne _ e]
theorem OutE.swap {H0 Hm H:AH} {e e':TypeId} {k k' n n':Nat} {v v':VV} {cs cs':List VV} (h:OutE H0 Hm e k v n cs) (h':OutE Hm H e' k' v' n' cs'):∃ Hx,OutE H0 Hx e' k' v' n' cs'∧OutE Hx H e k v n cs:=by
 rcases h with ⟨h1,h2,h3,h4⟩ | ⟨Hb,h1,h2⟩
 ·refine ⟨H,?_,.inl ⟨h1,h2,h3,SubH.refl _⟩⟩;rcases h' with ⟨g1,g2,g3,g4⟩ | ⟨Hb,g1,g2⟩
  ·exact .inl ⟨g1,g2,g3,h4.trans g4⟩
  ·exact .inr ⟨Hb,h4.trans g1,g2⟩
 ·rcases h' with ⟨g1,g2,g3,g4⟩ | ⟨Hc,g1,g2⟩
  ·obtain ⟨Hq,q1,q2⟩:=h2.widen g4;exact ⟨Hq,.inl ⟨g1,g2,g3,h1.trans q1⟩,.inr ⟨Hq,SubH.refl _,q2⟩⟩
  ·obtain ⟨Hq,q1,q2⟩:=h2.widen g1;obtain ⟨Hx,x1,x2⟩:=q2.swap g2;exact ⟨Hx,.inr ⟨Hq,h1.trans q1,x1⟩,.inr ⟨Hx,SubH.refl _,x2⟩⟩
theorem OutE.weak {H0 H1 H:AH} {e:TypeId} {k n:Nat} {v:VV} {cs:List VV} (h:OutE H1 H e k v n cs) (hs:SubH H0 H1):OutE H0 H e k v n cs:=by
 rcases h with ⟨h1,h2,h3,h4⟩ | ⟨Hb,h1,h2⟩
 ·exact .inl ⟨h1,h2,h3,hs.trans h4⟩
 ·exact .inr ⟨Hb,hs.trans h1,h2⟩
end Go.PV
end
section
namespace Go.PV
open Go
section
variable {cx:Cx} {Hi:Nat→AH} {K:AF→AH→Prop} {Q:APost} {A:AF} {H:AH}
theorem Zij:vcPl2 cx Hi .fin K Q A H=K A H:=rfl
def pl2K (cx:Cx) (Hi:Nat→AH) (p:GPlan) (K:AF→AH→Prop) (Q:APost) (H:AH):AF→AH→Prop:=fun A' _=>vcPl2 cx Hi p K Q A' H
theorem ZdY (p:GPlan) (A':AF) (H':AH):pl2K cx Hi p K Q H A' H'=vcPl2 cx Hi p K Q A' H:=rfl
theorem ZgA (i:Nat) (d:Option Tmp) (op:Op) (p:GPlan):vcPl2 cx Hi (.tk i ⟨d,op,none⟩ p) K Q A H=vcDo cx ⟨d,op,none⟩ (pl2K cx Hi p K Q H) noQ A (Hi i):=rfl
def one2K (cx:Cx) (Hi:Nat→AH) (nd:List Nat) (p:GPlan) (K:AF→AH→Prop) (Q:APost) (H:AH):AF→AH→Prop:=fun A' H'=>(∀ k∈nd,SubH (Hi k) H→SubH (Hi k) H')∧vcPl2 cx Hi p K Q A' H'
theorem ZdZ (nd:List Nat) (d:Option Tmp) (op:Op) (p:GPlan):vcPl2 cx Hi (.one nd ⟨d,op,none⟩ p) K Q A H=vcDo cx ⟨d,op,none⟩ (one2K cx Hi nd p K Q H) Q A H:=rfl
theorem Zb7 (nd:List Nat) (p:GPlan) (A':AF) (H':AH):one2K cx Hi nd p K Q H A' H'=((∀ k∈nd,SubH (Hi k) H→SubH (Hi k) H')∧vcPl2 cx Hi p K Q A' H'):=rfl
end
end Go.PV
end
section
namespace Go.PV
open Go
theorem least {p:Nat→Prop} {n:Nat} (h:p n):∃ m,p m∧∀ k,k<m→¬ p k:=by
 induction n using Nat.strongRecOn with
 | _ n ih =>
   by_cases hk:∃ k,k<n∧p k
   ·obtain ⟨k,h1,h2⟩:=hk; exact ih k h1 h2
   ·exact ⟨n,h,fun k hk' hp=>hk ⟨k,hk',hp⟩⟩
theorem Zeh {cx:Cx} {Q:APost} {A:AF} {H:AH} {a:ACode} (hQ:Zaa Q) (I:Nat→AF→AH→Prop) {n0:Nat} (h0:I n0 A H)
 (round:∀ n A H,I n A H→∀ R:AF→AH→Prop,(∀ m A' H',m<n→I m A' H'→R A' H')→vc cx a (thenA R Q) A H):ACx cx (.loop a) Q A H:=by
 classical
 have hm:∀ A H,∃ m,(∃ n,I n A H)→I m A H∧∀ k,k<m→¬ I k A H:=fun A H=>by
  by_cases h:∃ n,I n A H
  ·obtain ⟨n,hn⟩:=h;obtain ⟨m,h1,h2⟩:=least (p:=fun n=>I n A H) hn;exact ⟨m,fun _=>⟨h1,h2⟩⟩
  ·exact ⟨0,fun h'=>absurd h' h⟩
 refine YJ hQ (fun A H=>∃ n,I n A H) (fun A H=>Classical.choose (hm A H)) ⟨n0,h0⟩ fun A H hI=>?_
 have hc:=Classical.choose_spec (hm A H) hI;refine round _ A H hc.1 _ fun m A' H' hlt hI'=>⟨⟨m,hI'⟩,?_⟩
 have hc':=Classical.choose_spec (hm A' H') ⟨m,hI'⟩;refine Nat.lt_of_le_of_lt (Nat.le_of_not_lt fun hk=>hc'.2 m hk hI') hlt
end Go.PV
end
section
namespace Go.PV
open Go
end Go.PV
end
section
open Bool renaming and_self→Zmp
open Int renaming natCast_nonneg→ZmL,toNat_natCast→Zmw
open List renaming drop_eq_getElem_cons→ZmY,length_take→ZmV,eq_nil_of_length_eq_zero→Znd,append_assoc→Zm7,length_cons→Zmi,length_nil→Zml,all_cons→Zmz,all_nil→ZmJ,take_of_length_le→ZmQ,map_cons→Zmd,map_nil→Zmg,getD_cons_zero→Zmq,getD_cons_succ→Zmr,getD_nil→Zms
open Nat renaming reduceEqDiff→Zl9,reduceLT→Zma,succ_ne_self→Zme,mul_one→ZmM,zero_add→Zmh
set_option maxRecDepth 20000
set_option maxHeartbeats 4000000
namespace Go.PV.Ytfkkmdelpddojaa
open Go Go.Proofs
theorem Zi2 {P:Program} {f:FuncId} {xs:List VV} {H:AH} {K K':VE→AH→Prop} (h:ZO P f xs H K) (hk:∀ e H',K e H'→∃ H2,SubH H2 H'∧K' e H2):ZO P f xs H K':=fun S w args hs hx =>
 (h S w args hs hx).mono fun e w' hq=>by
   cases e with
   | returned v =>
     obtain ⟨S',H',x,h1,h2,h3,h4⟩:=hq;obtain ⟨H2,g1,g2⟩:=hk _ _ h4;obtain ⟨s1,s2⟩:=h2.sub g1;exact ⟨S',H2,x,h1.trans s2,s1,h3,g2⟩
   | panicked ch =>
     obtain ⟨S',H',h1,h2,h4⟩:=hq;obtain ⟨H2,g1,g2⟩:=hk _ _ h4;obtain ⟨s1,s2⟩:=h2.sub g1;exact ⟨S',H2,h1.trans s2,s1,g2⟩
   | outgrown=>exact hq
theorem nan_ok (n:Int):PureF Try.prog 144 [iV n] (boolV false):=by
 refine PureF.forget fun H=>?_
 refine Zy fd144 (by simp) ?_;delta c144 Zq Za Zn Zc
 (repeat' (first | (simp only [↓Zt,Zu,boolV,Zl9,Zma,reduceCtorEq,Zx,undef, *]) | (refine ZC ?_) | (exact SubH.refl _)))
theorem less_ok (a b:Int):PureF Try.prog 128 [iV a,iV b] (boolV (decide (a<b))):=by
 refine PureF.forget fun H=>?_
 have h1:=nan_ok a;have h2:=nan_ok b;refine Zy fd128 (by simp) ?_;delta c128 Zq Za Zo Zr Zp Zc
 (repeat' (first | (simp only [↓Zt,Zu,boolV,Zl9,Zma,reduceCtorEq,Yc,Zx,undef,en_144, *]) | (refine ZC ?_) | (exact SubH.refl _) | (refine PureF.use (h1) ?_)))
theorem sortA {p q:List Int} {x:Int} (hs:(p++q).Pairwise (·≤·)) (hq:∀ y∈q,x≤y) (hp:∀ y,p.getLast?=some y→y≤x):(p++x::q).Pairwise (·≤·):=by
 rw [List.pairwise_append] at hs ⊢;obtain ⟨h1,h2,h3⟩:=hs
 have hpx:∀ y∈p,y≤x:=fun y hy=>by
  rcases List.eq_nil_or_concat p with rfl | ⟨p',z,rfl⟩
  ·cases hy
  ·have hz:=hp z (by simp);rw [List.concat_eq_append] at h1 hy;rw [List.pairwise_append] at h1;rcases List.mem_append.1 hy with h | h
   ·have:=h1.2.2 y h z (by simp); omega
   ·rw [List.mem_singleton.1 h]; exact hz
 refine ⟨h1,List.pairwise_cons.2 ⟨hq,h2⟩,fun a ha b hb=>?_⟩;rcases List.mem_cons.1 hb with rfl | hb
 ·exact hpx a ha
 ·exact h3 a ha b hb
theorem set_self {H:AH} {r:Nat} {b:Blk} (h:H r=some b):H.set r b=H:=by funext x; simp only [AH.set]; split<;>simp_all
theorem ZkR {p s:List Int} {x:Int} {j:Nat} (hj:p.length=j):(encC intE (p++x::s)).drop j=iV x::encC intE s:=by
 subst hj;rw [YS,Yg,List.drop_left' (by rw [YO (k:=1) (fun _=>rfl)]; omega)]; rfl
theorem Zi3 {p s:List Int} {x y:Int} {j:Nat} (hj:p.length=j):(encC intE (p++x::s)).set j (iV y)=encC intE (p++y::s):=by
 subst hj;have hl:(encC intE p).length=p.length:=by rw [YO (k:=1) (fun _=>rfl)]; omega
 rw [YS,YS,Yg,Yg,List.set_append_right _ _ (by omega),hl,Nat.sub_self]; rfl
theorem ins_ok {l:List Int} {r c sp:Nat} {H:AH} {K:VE→AH→Prop} (hl:l.length≤1099511627776) (hr:H r=some (.cells 3 (encC intE l) sp))
 (hK:∀ l':List Int,l'.Perm l→l'.Pairwise (·≤·)→∀ H',SubH (H.set r (.cells 3 (encC intE l') sp)) H'→K (.ret (.tuple [])) H'):ZO Try.prog 122 [.lit (.slice (some ⟨r,0,none⟩) l.length c),iV 0,iV l.length] H K:=by
 refine Zy fd122 (by simp) ?_;delta c122 Za Zm Zc;obtain ⟨n,hn⟩:∃ n,n=l.length:=⟨_,rfl⟩
 rw [← hn] at hl ⊢;replace hn:=Hold.mk hn;replace hr:=Hold.mk hr;replace hK:=Hold.mk hK;have hw1:IntKind.i64.wrap (0+1)=1:=by rw [ZQ (by omega) (by omega)]; rfl
 (repeat' (first | (simp only [↓Zt,Zu,Zma,Zx,undef, *])))
 refine YJ (fun _ _ _ h=>h) (fun A H'=>A.d=[]∧A.t 0=.lit (.slice (some ⟨r,0,none⟩) n c)∧A.t 1=iV 0∧A.t 2=iV n∧∃ (i:Nat) (m:List Int),1≤i∧A.t 6=iV i∧m.Perm l∧(m.take i).Pairwise (·≤·)∧H'=H.set r (.cells 3 (encC intE m) sp))
  (fun A _=>match A.t 6 with | .lit (.int _ i)=>((n:Int)-i).toNat | _=>0) ?_ ?_
 ·refine ⟨rfl,(by simp only [Zv,Zl9,if_false, *]<;>rfl),(by simp only [Zv,Zl9,if_false, *]<;>rfl),(by simp only [Zv,Zl9,if_false, *]<;>rfl),1,l,by omega,(by simp only [Zv,Zl9,if_true,if_false, *]<;>rfl),.refl _,?_,(set_self hr.out).symm⟩;rcases l with _ | ⟨a,l⟩<;>simp
 ·rintro ⟨t,d⟩ H' ⟨rfl,h0,h1,h2,i,m,hi,h6,hm,hs,rfl⟩;dsimp only at h0 h1 h2 h6;have hml:m.length=n:=by rw [hm.length_eq,← hn.out]
  delta Zkj Za Zn Zr Zc;by_cases hlt:i<n
  ·have hil:(i:Int)<(n:Int):=by omega
   obtain ⟨p0,x,rest,hm0,hp0⟩:∃ p0 x rest,m=p0++x::rest∧p0.length=i:=⟨m.take i,m[i]'(by omega),m.drop (i+1),by rw [← ZmY,List.take_append_drop],by rw [ZmV]; omega⟩
   have hs0:p0.Pairwise (·≤·):=by
    rw [hm0,← hp0,List.take_left'  rfl] at hs; exact hs
   replace hm:=Hold.mk hm;replace hs0:=Hold.mk hs0
   (repeat' (first | (simp only [↓Zt,Zu,Zl9,Zma, *])))
   refine ZgY (fun A H'=>A.d=[]∧A.t 0=.lit (.slice (some ⟨r,0,none⟩) n c)∧A.t 1=iV 0∧A.t 2=iV n∧A.t 6=iV i∧∃ (j:Nat) (p q:List Int),p.length=j∧A.t 7=iV j∧p.length+q.length=i∧(p++q).Pairwise (·≤·)∧(∀ y∈q,x≤y)∧(p++x::(q++rest)).Perm l∧H'=H.set r (.cells 3 (encC intE (p++x::(q++rest))) sp))
    (fun A _=>match A.t 7 with | .lit (.int _ i)=>i.toNat | _=>0) ?_ ?_
   ·exact ⟨rfl,(by simp only [Zv,Zl9,if_false, *]<;>rfl),(by simp only [Zv,Zl9,if_false, *]<;>rfl),(by simp only [Zv,Zl9,if_false, *]<;>rfl),(by simp only [Zv,Zl9,if_false, *]<;>rfl),i,p0,[],hp0,(by simp only [Zv,Zl9,if_true,if_false, *]<;>rfl),by simpa using hp0,by simpa using hs0.out,by simp,by simpa [← hm0] using hm.out,by simp [hm0]⟩
   ·clear h0 h1 h2 h6 hm hs hs0 hm0 hp0 hml;rintro ⟨t,d⟩ H' ⟨rfl,h0,h1,h2,h6,j,p,q,hj,h7,hpq,hs,hq,hm,rfl⟩;dsimp only at h0 h1 h2 h6 h7;delta b122_1 Za Zn Zp Zr Zq Zm Zk Zb Zg Zc;have kr:=AH.set_same H r (.cells 3 (encC intE (p++x::(q++rest))) sp);rcases j with _ | k
    ·have hn0:¬ (0:Int)<((0:Nat):Int):=by omega
     replace hs:=Hold.mk hs;replace hq:=Hold.mk hq;replace hm:=Hold.mk hm;refine YL rfl (fun _ _ _ h=>h) ?_
     (repeat' (first | (simp only [↓Zt,Zu,Zl9,Zma,reduceCtorEq,Yc,Zx,↓Zbr,undef,Zkh, *]) | (refine YL rfl (fun _ _ _ h=>h) ?_) | (refine Yf mixed (fun _ _ _ _ e h=>⟨e.trans h.1,h.2⟩) _ (SubH.refl _) ?_)))
     delta Zki Za Zm Zc;have hwi:IntKind.i64.wrap ((i:Int)+1)=((i+1:Nat):Int):=by rw [ZQ (by omega) (by omega)]; omega
     (repeat' (first | (simp only [↓Zt,Zu,Zl9,Zma,reduceCtorEq, *]) | (with_reducible refine And.intro ?_ ?_)))
     ·obtain rfl:p=[]:=Znd hj;refine ⟨i+1,x::(q++rest),by omega,rfl,hm.out,?_,rfl⟩;have hqi:q.length=i:=by simpa using hpq
      rw [List.take_succ_cons,← hqi,List.take_left' rfl];exact List.pairwise_cons.2 ⟨hq.out,by simpa using hs.out⟩
     ·omega
    ·obtain ⟨p',y,rfl⟩:∃ p' y,p=p'++[y]:=⟨p.dropLast,p.getLast (by intro h; rw [h] at hj; simp at hj),(List.dropLast_concat_getLast _).symm⟩
     have hk:p'.length=k:=by simpa using hj
     have hpos:(0:Int)<((k+1:Nat):Int):=by omega
     have hw:IntKind.i64.wrap (((k+1:Nat):Int)-1)=(k:Int):=by rw [ZQ (by omega) (by omega)]; omega
     have hb1:((k+1:Nat):Int)<(n:Int):=by omega
     have hb2:(k:Int)<(n:Int):=by omega
     have ea:(encC intE (p'++[y]++x::(q++rest))).drop (k+1)=iV x::encC intE (q++rest):=ZkR (by simp [hk])
     have eb:(encC intE (p'++[y]++x::(q++rest))).drop k=iV y::encC intE (x::(q++rest)):=by
      rw [Zm7]; exact ZkR hk
     have hless:=less_ok x y;replace hs:=Hold.mk hs;replace hq:=Hold.mk hq;replace hm:=Hold.mk hm;have el:(encC intE (p'++[y]++x::(q++rest))).length=n:=by rw [YO (k:=1) (fun _=>rfl),hm.out.length_eq,← hn.out]; omega
     have es1:(encC intE (p'++[y]++x::(q++rest))).set (k+1) (iV y)=encC intE (p'++[y]++y::(q++rest)):=Zi3 (by simp [hk])
     have es2:(encC intE (p'++[y]++y::(q++rest))).set k (iV x)=encC intE (p'++x::y::(q++rest)):=by
      rw [Zm7]; exact Zi3 hk
     have el2:(encC intE (p'++[y]++y::(q++rest))).length=n:=by rw [← es1,List.length_set]; exact el
     by_cases hxy:x<y
     ·refine JX (l:=[_]) (K:=fun A H'=>A.d=[]∧A.t 0=.lit (.slice (some ⟨r,0,none⟩) n c)∧A.t 1=iV 0∧A.t 2=iV n∧A.t 6=iV i∧A.t 7=iV ((k+1:Nat):Int)∧H'=H.set r (.cells 3 (encC intE (p'++[y]++x::(q++rest))) sp)) (fun _ _ _ h=>h) ?_ _ _ ?_
      ·clear h0 h1 h2 h6;have h7':=h7;clear h7;rintro ⟨t,d⟩ H2 ⟨rfl,h0,h1,h2,h6,h7,rfl⟩;dsimp only at h0 h1 h2 h6 h7
       obtain ⟨Hi,i9,i13,in_,hsub⟩:∃ Hi:Nat→AH,Hi 9=H.set r (.cells 3 (encC intE (p'++[y]++x::(q++rest))) sp)∧Hi 13=H.set r (.cells 3 (encC intE (p'++[y]++x::(q++rest))) sp)∧(∀ k∈[2,3,4,15,16,17],Hi k=AH.nil)∧∀ k,SubH (Hi k) (H.set r (.cells 3 (encC intE (p'++[y]++x::(q++rest))) sp)) :=
        ⟨fun i=>if i=9∨i=13 then H.set r (.cells 3 (encC intE (p'++[y]++x::(q++rest))) sp) else AH.nil,rfl,rfl,fun k hk=>if_neg (by simp at hk; omega),fun k=>by
          show SubH (if k=9∨k=13 then _ else _) _;split
          ·exact SubH.refl _
          ·intro _ _ h; cases h⟩
       refine YL rfl (fun _ _ _ h=>h) ?_
       (repeat' (first | (refine ZaZ mixed (fun _ _ _ _ e h=>⟨e.trans h.1,h.2⟩) Hi hsub ?_) | (simp only [↓Ya,↓ZY,↓ZF,↓ZD,↓Jg,↓ZG,↓ZH,↓YX,↓ZJ,↓YY,↓ZI,↓ZP,↓Zv,↓ZR,↓ZE,↓ZS,↓YR,↓Yy,↓ZN,↓Zea,Zmi,Zml,ite_true,ite_false,Zl9,Zma,true_and,Zme,reduceCtorEq,ZmL,Zmw,ZmM,AH.get,AH.set_set,setAt,Zmz,ZmJ,Zmp,eq_self,Zmh,and_self,forall_const,Yq,XV,Wc,Yn,Zfk,Zcz,Yo,Yp,Wf,Wg,Zij,ZdY,ZgA,ZdZ,Zb7,Yd,Zfd,YA, *]) | (with_reducible refine And.intro ?_ ?_)))
       ·omega
       ·intro k' hk';rw [in_ k' hk']
        first
         | exact fun _=>fun _ _ h=>by cases h
         | exact fun _ _ h=>by cases h
       ·omega
       ·refine ⟨k,p',y::q,hk,rfl,?_,?_,?_,?_,?_⟩
        ·simp at hpq ⊢; omega
        ·simpa using hs.out
        ·intro z hz;rcases List.mem_cons.1 hz with rfl | hz
         ·omega
         ·exact hq.out z hz
        ·refine List.Perm.trans ?_ hm.out;rw [Zm7];exact List.Perm.append_left _ (List.Perm.swap _ _ _)
        ·rfl
       ·omega
      ·simp only [vcs]
       (repeat' (first | (simp only [↓Zt,Zu,boolV,Zl9,Zma,reduceCtorEq,Yd,YA,Zkh, *]) | (refine Yf mixed (fun _ _ _ _ e h=>⟨e.trans h.1,h.2⟩) _ (SubH.refl _) ?_) | (refine PureF.use (hless) ?_)))
     ·refine YL rfl (fun _ _ _ h=>h) ?_
      (repeat' (first | (simp only [↓Zt,Zu,boolV,Zl9,Zma,reduceCtorEq,Yd,YA,Zkh, *]) | (refine YL rfl (fun _ _ _ h=>h) ?_) | (refine Yf mixed (fun _ _ _ _ e h=>⟨e.trans h.1,h.2⟩) _ (SubH.refl _) ?_) | (refine PureF.use (hless) ?_)))
      delta Zki Za Zm Zc;have hwi:IntKind.i64.wrap ((i:Int)+1)=((i+1:Nat):Int):=by rw [ZQ (by omega) (by omega)]; omega
      (repeat' (first | (simp only [↓Zt,Zu,Zl9,Zma,reduceCtorEq, *]) | (with_reducible refine And.intro ?_ ?_)))
      ·refine ⟨i+1,p'++[y]++x::(q++rest),by omega,rfl,hm.out,?_,rfl⟩;have hqi:(p'++[y]++x::q).length=i+1:=by simp at hpq ⊢; omega
       rw [show p'++[y]++x::(q++rest)=(p'++[y]++x::q)++rest by simp,← hqi,List.take_left' rfl];exact sortA hs.out hq.out (fun z hz=>by simp at hz; omega)
      ·omega
  ·have hil:¬ (i:Int)<(n:Int):=by omega
   rw [ZmQ (by omega)] at hs;have hk2:=hK.out m hm hs _ (SubH.refl _)
   (repeat' (first | (simp only [↓Zt,Zu,Zl9,Zma, *])))
   exact ⟨rfl,_,_,_,rfl,.refl _ _,hk2⟩
theorem ZjX (n:Nat) (h:n≤12):∃ k:Int,PureF Try.prog 97 [.lit (.int .u64 n)] (iV k):=by
 have hr:∀ (i:Int) (w:Int),ZhS (callE CC 100 30 (.lit (.func (.func 97) #[] #[])) [.lit (.int .u64 i)] .lf 0) (.lit (.int .i64 w))=true→PureF Try.prog 97 [.lit (.int .u64 i)] (iV w):=fun i w hh=>(ZlB CCok 97 [.lit (.int .u64 i)] (.lit (.int .i64 w)) 100 30 (by kernel_rfl) hh).2.2.2
 rcases n with _ | _ | _ | _ | _ | _ | _ | _ | _ | _ | _ | _ | _ | n
 ·exact ⟨0,hr 0 0 (by kernel_rfl)⟩
 ·exact ⟨1,hr 1 1 (by kernel_rfl)⟩
 ·exact ⟨2,hr 2 2 (by kernel_rfl)⟩
 ·exact ⟨2,hr 3 2 (by kernel_rfl)⟩
 ·exact ⟨3,hr 4 3 (by kernel_rfl)⟩
 ·exact ⟨3,hr 5 3 (by kernel_rfl)⟩
 ·exact ⟨3,hr 6 3 (by kernel_rfl)⟩
 ·exact ⟨3,hr 7 3 (by kernel_rfl)⟩
 ·exact ⟨4,hr 8 4 (by kernel_rfl)⟩
 ·exact ⟨4,hr 9 4 (by kernel_rfl)⟩
 ·exact ⟨4,hr 10 4 (by kernel_rfl)⟩
 ·exact ⟨4,hr 11 4 (by kernel_rfl)⟩
 ·exact ⟨4,hr 12 4 (by kernel_rfl)⟩
 ·omega
theorem ins_nil {H:AH} {K:VE→AH→Prop} (hK:∀ H',SubH H H'→K (.ret (.tuple [])) H'):ZO Try.prog 122 [.lit (.slice none 0 0),iV 0,iV 0] H K:=by
 refine Zy fd122 (by simp) ?_;delta c122 Za Zm Zc;have hw1:IntKind.i64.wrap (0+1)=1:=by rw [ZQ (by omega) (by omega)]; rfl
 replace hK:=Hold.mk hK
 (repeat' (first | (simp only [↓Zt,Zu,Zma,Zx,undef, *])))
 refine YJ (fun _ _ _ h=>h) (fun A H'=>A.d=[]∧A.t 2=iV 0∧A.t 6=iV 1∧H'=H) (fun _ _=>0) ⟨rfl,(by simp only [Zv,Zl9,if_false, *]<;>rfl),(by simp only [Zv,Zl9,if_true,if_false, *]<;>rfl),rfl⟩ ?_;rintro ⟨t,d⟩ H' ⟨rfl,h2,h6,rfl⟩;dsimp only at h2 h6;have hk2:=hK.out _ (SubH.refl _);have h01:¬ (1:Int)<0:=by decide
 delta Zkj Za Zn Zr Zc
 (repeat' (first | (simp only [↓Zt,Zu,Zl9,Zma,and_false, *])))
 exact ⟨rfl,_,_,_,rfl,.refl _ _,hk2⟩
theorem pdq_ok {v:VV} {n:Nat} {k:Int} {H:AH} {K:VE→AH→Prop} (hn:n≤12) (h:ZO Try.prog 122 [v,iV 0,iV n] H K) (hK:∀ e H',K e H'→e=.ret (.tuple [])):ZO Try.prog 101 [v,iV 0,iV n,iV k] H K:=by
 have h':=h.mono (K':=fun e H'=>e=.ret (.tuple [])∧K (.ret (.tuple [])) H') fun e H' hq=>by
  have:=hK e H' hq
  subst this;exact ⟨rfl,hq⟩
 clear h hK;refine Zy fd101 (by simp) ?_;delta c101 Zq;have hw0:IntKind.i64.wrap ((n:Int)-0)=(n:Int):=by rw [ZQ (by omega) (by omega)]; omega
 have hn':(n:Int)≤12:=by omega
 replace h':=Hold.mk h'
 (repeat' (first | (simp only [↓Zt,Zu,Zma,Zx,undef, *])))
 refine YJ (fun _ _ _ h=>h) (fun A H'=>A.d=[]∧A.t 0=v∧A.t 1=iV 0∧A.t 2=iV n∧H'=H) (fun _ _=>0) ⟨rfl,(by simp only [Zv,Zl9,if_false, *]<;>rfl),(by simp only [Zv,Zl9,if_false, *]<;>rfl),(by simp only [Zv,Zl9,if_false, *]<;>rfl),rfl⟩ ?_;rintro ⟨t,d⟩ H' ⟨rfl,h0,h1,h2,rfl⟩;dsimp only at h0 h1 h2;delta b101_1 Za Zn Zc Zm Zr Zo Zq Zh Zf Zp;have h3:=h'.out;clear h'
 (repeat' (first | (refine h3.mono ?_) | (simp only [↓Ya,↓Ye,↓ZZ,↓Yb,↓Ys,↓ZY,↓ZF,↓ZD,↓ZG,↓ZH,↓ZJ,↓ZI,↓ZP,↓ZU,↓Zv,↓ZR,↓ZE,↓Yy,↓ZK,↓ZL,↓YV,↓Zea,Zmd,Zmg,ite_true,ite_false,Zl9,Zma,true_and,Zme,decide_true,reduceCtorEq,eq_self,and_false,en_122, *])))
 rintro e H2 ⟨rfl,hk⟩
 (repeat' (first | (simp only [↓Zt, *])))
 exact ⟨rfl,_,_,_,rfl,.refl _ _,hk⟩
theorem und_uint:Program.underlying Try.prog 176=some (.int .u64):=by kernel_rfl
theorem und_int:Program.underlying Try.prog 3=some (.int .i64):=by kernel_rfl
theorem srt_ok {v:VV} {a:Option Addr} {n c:Nat} {H:AH} {K:VE→AH→Prop} (hv:v=.lit (.slice a n c)) (hn:n≤12) (h:ZO Try.prog 122 [v,iV 0,iV n] H K) (hK:∀ e H',K e H'→e=.ret (.tuple [])):ZO Try.prog 81 [v] H K:=by
 subst hv;obtain ⟨k,hk⟩:=ZjX n hn;have hp:=pdq_ok (k:=k) hn h hK
 have h':=hp.mono (K':=fun e H'=>e=.ret (.tuple [])∧K (.ret (.tuple [])) H') fun e H' hq=>by
  have:=hK e H' hq
  subst this;exact ⟨rfl,hq⟩
 clear h hK hp;refine Zy fd81 (by simp) ?_;delta c81 Za Ze Zc Zq Zr Zo;have hw0:IntKind.u64.wrap (n:Int)=(n:Int):=by simp [IntKind.wrap,IntKind.bits,IntKind.signed]; omega
 (repeat' (first | (refine JY und_int und_uint ?_) | (refine h'.mono ?_) | (simp only [↓Ya,↓Ye,↓ZY,↓ZF,↓ZD,↓ZG,↓ZH,↓ZJ,↓ZI,↓ZP,↓ZU,↓Zv,↓ZR,↓ZE,↓Js,↓ZX,↓ZK,↓ZL,↓Xk,intV,Zmd,Zmg,Zmq,Zmr,Zms,ite_true,ite_false,Zl9,Zma,ne_eq,not_false_eq_true,true_and,Zme,reduceCtorEq,Zx,eq_self,Zih,undef,YA,en_97,en_101, *]) | (refine PureF.use (hk) ?_)))
 rintro e H2 ⟨rfl,hk⟩
 (repeat' (first | (simp only [↓Zt, *])))
 exact ⟨rfl,_,_,_,rfl,.refl _ _,hk⟩
theorem ZkS {l:List Int} {r c sp:Nat} {H:AH} {K:VE→AH→Prop} (hl:l.length≤12) (hr:H r=some (.cells 3 (encC intE l) sp))
 (hK:∀ l':List Int,l'.Perm l→l'.Pairwise (·≤·)→K (.ret (.tuple [])) (H.set r (.cells 3 (encC intE l') sp))):ZO Try.prog 81 [.lit (.slice (some ⟨r,0,none⟩) l.length c)] H K:=by
 have h:=srt_ok (v:=.lit (.slice (some ⟨r,0,none⟩) l.length c)) (H:=H) (K:=fun e H'=>e=.ret (.tuple [])∧∃ l':List Int,l'.Perm l∧l'.Pairwise (·≤·)∧SubH (H.set r (.cells 3 (encC intE l') sp)) H') rfl hl
  (ins_ok (by omega) hr fun l' h1 h2 H' hs=>⟨rfl,l',h1,h2,hs⟩) (fun e H' hq=>hq.1)
 refine Zi2 h fun e H' hq=>?_
 obtain ⟨rfl,l',h1,h2,hs⟩:=hq;exact ⟨_,hs,hK l' h1 h2⟩
theorem sort_nil {H:AH} {K:VE→AH→Prop} (hK:K (.ret (.tuple [])) H):ZO Try.prog 81 [.lit (.slice none 0 0)] H K:=by
 have h:=srt_ok (v:=.lit (.slice none 0 0)) (n:=0) (H:=H) (K:=fun e H'=>e=.ret (.tuple [])∧SubH H H') rfl (by omega) (ins_nil fun H' hs=>⟨rfl,hs⟩) (fun e H' hq=>hq.1);refine Zi2 h fun e H' hq=>?_
 obtain ⟨rfl,hs⟩:=hq;exact ⟨_,hs,hK⟩
end Go.PV.Ytfkkmdelpddojaa
end
section
open Bool renaming false_eq_true→Zmv,and_self→Zmp
open Int renaming toNat_natCast→Zmw,reduceNeg→Zm3,natCast_nonneg→ZmL
open List renaming getElem_mem→ZmE,drop→Zmb,map_cons→Zmd,map_nil→Zmg,getD_cons_zero→Zmq,getD_cons_succ→Zmr,getD_nil→Zms,cons_append→Zm5,nil_append→ZmO,range→Zmm,mem_singleton→Zm2,length_cons→Zmi,length_nil→Zml,all_cons→Zmz,all_nil→ZmJ,set_cons_zero→Zmn,set_cons_succ→Zmy,append_nil→ZmF,replicate_succ→ZmP,replicate_zero→ZmZ,flatten_cons→ZmT,flatten_nil→ZmX,length_append→ZmB,replicate→ZmH,nodup_nil→Zm0
open Nat renaming reduceEqDiff→Zl9,reduceLT→Zma,mul_one→ZmM,lt_or_ge→ZmI,succ_ne_self→Zme,add_zero→Zmo,le_refl→Zmc,reduceAdd→Zmj,zero_add→Zmh,reduceLeDiff→Zmu
set_option maxRecDepth 20000
set_option maxHeartbeats 4000000
namespace Go.PV.Ytfkkmdelpddojaa
open Go Go.Proofs
theorem ZhT {l:List Int} {v f:VV} {p:Int→Bool} {H:AH} {K:VE→AH→Prop} (hv:SlR H v l.length (encC intE l)) (hl:l.length≤1099511627776)
 (hf:∀ i (h:i<l.length),FnAt Try.prog f [iV l[i]] (boolV (p l[i])) H) (hK:K (.ret (iV (idxF p l))) H):ZO Try.prog 91 [v,f] H K:=by
 refine Zy fd91 (by simp) ?_;delta c91 Zf Za Ze Zq
 (repeat' (first | (simp only [↓Zt,Zu,intV,Zl9,Zma,reduceCtorEq,Zx,undef, *]) | (refine hv.len (by simp [YA]) ?_)))
 refine YJ (fun _ _ _ h=>h) (fun A H'=>H'=H∧A.d=[]∧A.t 0=v∧A.t 1=f∧A.t 7=iV l.length∧∃ i:Nat,i≤l.length∧A.t 8=iV i∧∀ j (h:j<l.length),j<i→p l[j]=false)
  (fun A _=>match A.t 8 with | .lit (.int _ i)=>((l.length:Int)-i).toNat | _=>0) ?_ ?_
 ·exact ⟨rfl,rfl,rfl,rfl,rfl,0,by simp,rfl,by simp⟩
 ·rintro ⟨t,d⟩ H' ⟨rfl,rfl,h0,h1,h7,i,hi,h8,hj⟩;dsimp only at h0 h1 h7 h8
  have hld:∀ (h:i<l.length),ldV 1 false ((encC intE l).drop ((i:Int).toNat * 1))=some (iV l[i]):=fun h=>by
   rw [Zmw,ZmM,JO h]; rfl
  delta b91_1 Zn Zr Za Zc Zk Zb Zq Zm
  (repeat' (first | (simp only [↓Zt,Zu,boolV,Zl9,Zma,reduceCtorEq,Int.ofNat_lt, *]) | (refine Jw ?_ ?_<;>intro) | (refine WN ?_ ?_<;>intro) | (refine ZC ?_) | (refine YL rfl (fun _ _ _ h=>h) ?_) | (refine hv.index YA (by omega) (by omega) (fun a ha=>?_)) | (refine ha.load Yd (x:=iV (l[i]'(by omega))) (hld (by omega)) ?_) | (refine hf _ _ _ ?_) | (with_reducible refine And.intro ?_ ?_)))
  ·have hb:i<l.length:=by assumption
   rw [← JH hb (by assumption) (fun j h=>hj j (by omega) h)];exact hK
  ·have hb:i<l.length:=by assumption
   rw [ZQ (by omega) (by omega)];refine ⟨i+1,by omega,by simp,fun j h h'=>?_⟩;rcases ZmI j i with h2 | h2
   ·exact hj j h h2
   ·obtain rfl:j=i:=by omega
    assumption
  ·rw [ZQ (by omega) (by omega)];omega
  ·delta c91_1 Zq
   (repeat' (first | (simp only [↓Zt,Zu,Zl9,Zma,Zm3, *]) | (refine ZC ?_)))
   rw [show (-1:Int)=idxF p l from (Zaq fun j h=>hj j h (by omega)).symm];exact hK
theorem ZkT {l:List Int} {v f:VV} {p:Int→Bool} {H:AH} {K:VE→AH→Prop} (hv:SlR H v l.length (encC intE l)) (hl:l.length≤1099511627776)
 (hf:∀ i (h:i<l.length),FnAt Try.prog f [iV l[i]] (boolV (p l[i])) H) (hK:K (.ret (boolV (l.any p))) H):ZO Try.prog 48 [v,f] H K:=by
 refine Zy fd48 (by simp) ?_;delta c48 Zq Za Zo Zr Zm Zc;have e:decide (0≤idxF p l)=l.any p:=Zb6;rw [← e] at hK;replace hK:=Hold.mk hK;clear e
 (repeat' (first | (simp only [↓Zt,Zu,Zl9,Zma,reduceCtorEq,Zx,undef,en_91, *]) | (refine ZC ?_) | (refine ZhT hv hl hf ?_)))
 exact hK.out
def pdAt (g:List Pd) (q:Int):Pd:=match g[q.toNat]? with | some p=>p | none=>⟨noNm,0,noNm,[]⟩
def outHas (g:List Pd) (out:List Int) (i:It):Bool:=out.any fun q=>YH (pdAt g q) i.text i.prio
def Zbh (g:List Pd) (out:List Int) (i:It):Bool:=decide (i.kind=3) && !outHas g out i
def inG (g:List Pd) (out:List Int):Prop:=∀ q∈out,0≤q∧q<(g.length:Int)
theorem Xa {g:List Pd} {k:Nat} (h:k<g.length):pdAt g (k:Int)=g[k]:=by unfold pdAt; simp [h]
theorem lacks_ok {g:List Pd} {out:List Int} {v:VV} {r1 r3 s1:Nat} {i:It} {H:AH} (hg:g.length≤1099511627776) (hol:out.length≤1099511627776) (hin:inG g out) (k1:H r1=some (.cells 30 [pdsV g] s1)) (k3:H r3=some (.cells 108 [v] 0)) (hv:SlR H v out.length (encC intE out)) :
 FnAt Try.prog (.func (.func 99) [] [ptrV r3 0,ptrV r1 0]) [itV i] (boolV (Zbh g out i)) H:=by
 refine FnAt.cap en_99 fun K hK=>?_
 refine ReadF.use (x:=boolV (Zbh g out i)) ?_ hK
 have hq:∀ (r:Nat) (H':AH),SubH H H'→H' r=some (.cells 64 [iV i.kind,sV i.text,iV i.prio] 0)→∀ j (h:j<out.length),FnAt Try.prog (.func (.func 100) [] [ptrV r1 0,ptrV r 0]) [iV out[j]] (boolV (YH (pdAt g out[j]) i.text i.prio)) H':=fun r H' hs hr j hj=>by
  refine FnAt.cap en_100 fun K hK=>?_
  refine ReadF.use (x:=boolV (YH (pdAt g out[j]) i.text i.prio)) ?_ hK;obtain ⟨q0,q1⟩:=hin _ (ZmE hj);obtain ⟨k,hk⟩:∃ k:Nat,out[j]=(k:Int):=⟨out[j].toNat,by omega⟩
  have hkl:k<g.length:=by omega
  have k1':=hs _ _ k1;rw [hk,Xa hkl];have hdi:=WG hkl;have hsv:=Zch g[k] i.text i.prio;have hkl':(k:Int)<(g.length:Int):=by omega
  refine Zy fd100 (by simp) ?_;delta c100 Zq Zb Za Zk Zd Zo Zr Zc
  (repeat' (first | (simp only [↓Zt,Zu,ptrV,boolV,Zl9,Zma,reduceCtorEq,Zx,Zmb,undef,XQ,XZ,Xz,Je,Wb,Yd,Xb,ZcS, *]) | (refine ZC ?_) | (refine Yf mixed (fun _ _ _ _ e h=>⟨e.trans h.1,h.2⟩) _ (SubH.refl _) ?_) | (exact SubH.refl _) | (refine PureF.use (hsv) ?_)))
 refine Zy fd99 (by simp) ?_;delta c99 Zj Zq Zd Zb Zm Za Zp Zr Zc Zbh outHas;by_cases hk:i.kind=3
 ·(repeat' (first | (refine ZkT (p:=fun q=>YH (pdAt g q) i.text i.prio) (hv.mono (SubH.new (by assumption))) hol (hq _ _ (SubH.new (by assumption)) (AH.set_same _ _ _)) ?_) | (simp only [↓Ya,↓Ye,↓Xe,↓ZY,↓ZF,↓Yk,↓Yx,↓ZD,↓ZG,↓ZH,↓ZJ,↓ZI,↓ZP,↓ZU,↓Zv,↓ZR,↓ZE,↓ZV,↓Ym,↓YE,↓ZS,↓Yy,↓s_un,↓Wx,↓Wm,↓ZA,↓ZK,↓ZL,↓Yj,↓Yr,ptrV,boolV,Zmd,Zmg,Zmq,Zmr,Zms,Zm5,ZmO,ite_true,ite_false,Zl9,Zma,ne_eq,not_false_eq_true,true_and,Zme,decide_true,Bool.true_and,Zx,AH.get,eq_self,Zmo,Zmb,Yq,YB,↓Wz,Yn,YK,Yo,Yp,YG,undef,Xd,Yd,JW,Zjx, *]) | (refine ZC ?_) | (refine Zw fun zr zh=>?_; have zg:=zh; (try simp only [AH.set_none] at zg); (try have zn_k1:=AH.ne_of k1 zh); (try have zn_k1:=AH.ne_of k1 zg.2); (try have zn_k1:=AH.ne_of k1 zg.2.2); (try have zn_k1:=AH.ne_of k1 zg.2.2.2); (try have zn_k1:=AH.ne_of k1 zg.2.2.2.2); (try have zn_k3:=AH.ne_of k3 zh); (try have zn_k3:=AH.ne_of k3 zg.2); (try have zn_k3:=AH.ne_of k3 zg.2.2); (try have zn_k3:=AH.ne_of k3 zg.2.2.2); (try have zn_k3:=AH.ne_of k3 zg.2.2.2.2)) | (exact SubH.refl _) | (refine SubH.of_set ?_ ?_)))
 ·(repeat' (first | (simp only [↓Zt,Zu,ptrV,boolV,Zl9,Zma,Yc,Zx,Zmb,undef,Xd,Yd,Zjx, *]) | (refine ZC ?_) | (refine Zw fun zr zh=>?_; have zg:=zh; (try simp only [AH.set_none] at zg); (try have zn_k1:=AH.ne_of k1 zh); (try have zn_k1:=AH.ne_of k1 zg.2); (try have zn_k1:=AH.ne_of k1 zg.2.2); (try have zn_k1:=AH.ne_of k1 zg.2.2.2); (try have zn_k1:=AH.ne_of k1 zg.2.2.2.2); (try have zn_k3:=AH.ne_of k3 zh); (try have zn_k3:=AH.ne_of k3 zg.2); (try have zn_k3:=AH.ne_of k3 zg.2.2); (try have zn_k3:=AH.ne_of k3 zg.2.2.2); (try have zn_k3:=AH.ne_of k3 zg.2.2.2.2)) | (exact SubH.refl _) | (refine SubH.of_set ?_ ?_)))
def prodK (g:List Pd) (out:List Int) (k:Nat):List Int:=if (k:Int)∈out∨(pdAt g k).items.any (Zbh g out)=true then out else out++[(k:Int)]
def XC (g:List Pd) (out:List Int):Nat→List Int
 | 0=>out
 | k+1=>prodK g (XC g out k) k
def JL (g:List Pd):Nat→List Int→List Int
 | 0,out=>out
 | n+1,out=>if (XC g out g.length).length=out.length then XC g out g.length else JL g n (XC g out g.length)
theorem Zg8 (g:List Pd) (out:List Int) (k:Nat):out.length≤(prodK g out k).length:=by unfold prodK; split<;>simp
theorem Zbw (g:List Pd) (out:List Int):∀ k,out.length≤(XC g out k).length
 | 0=>Zmc _
 | k+1=>Nat.le_trans (Zbw g out k) (Zg8 _ _ _)
theorem Zi4 {g:List Pd} {out:List Int} {k:Nat} (hk:k<g.length) (h:inG g out):inG g (prodK g out k):=by
 unfold prodK;split
 ·exact h
 ·intro q hq;rcases List.mem_append.1 hq with hq | hq
  ·exact h q hq
  ·rw [List.mem_singleton.1 hq]; omega
theorem Zi5 {g:List Pd} {out:List Int} {k:Nat} (h:out.Nodup):(prodK g out k).Nodup:=by
 unfold prodK;split
 ·exact h
 ·rename_i hn;rw [List.nodup_append];refine ⟨h,by simp,fun a ha b hb=>?_⟩;rw [List.mem_singleton.1 hb];rintro rfl;exact hn (.inl ha)
theorem Zcm {g:List Pd} {out:List Int} (h:inG g out):∀ k,k≤g.length→inG g (XC g out k)
 | 0,_=>h
 | k+1,hk=>Zi4 hk (Zcm h k (by omega))
theorem Zcn {g:List Pd} {out:List Int} (h:out.Nodup):∀ k,(XC g out k).Nodup
 | 0=>h
 | k+1=>Zi5 (Zcn h k)
theorem JZ:∀ {n:Nat} {out:List Int},out.Nodup→(∀ q∈out,0≤q∧q<(n:Int))→out.length≤n
 | 0,out,hn,h=>by
   rcases out with _ | ⟨a,l⟩
   ·exact Zmc _
   ·have:=h a (by simp); omega
 | n+1,out,hn,h=>by
   have h1:=JZ (n:=n) (out:=out.erase (n:Int)) (hn.erase _) fun q hq=>by
    have hm:=hn.mem_erase_iff.1 hq
    have:=h q hm.2
    have:=hm.1
    omega
   rw [List.length_erase] at h1;split at h1<;>omega
inductive PK where | cell | inn | out
 deriving DecidableEq
abbrev boE (b:Bool):List VV:=[bV b]
def inL (N:Nat) (out:List Int):List Bool:=(Zmm N).map fun k:Nat=>decide ((k:Int)∈out)
theorem ZkU (N:Nat) (out:List Int):(inL N out).length=N:=by simp [inL]
theorem inL_drop {N k:Nat} (out:List Int) (h:k<N):(encC boE (inL N out)).drop k=bV (decide ((k:Int)∈out))::encC boE ((inL N out).drop (k+1)):=by
 have hl:k<(inL N out).length:=by rw [ZkU]; exact h
 rw [Zbs (enc:=fun b:Bool=>bV b) hl];simp [inL]
theorem inL_set {N k:Nat} (out:List Int) (h:k<N):(encC boE (inL N out)).set k (bV true)=encC boE (inL N (out++[(k:Int)])):=by
 have e:∀ l:List Bool,encC boE l=l.map fun b=>bV b:=fun l=>by
  induction l with
  | nil=>rfl
  | cons b l ih=>rw [Yg,ih]; rfl
 rw [e,e,← List.map_set]
 congr 1
 apply List.ext_getElem
 ·simp [inL]
 ·intro i h1 h2;simp only [inL,List.getElem_set,List.getElem_map,List.getElem_range,List.mem_append,Zm2];by_cases hik:k=i
  ·subst hik; simp
  ·rw [if_neg hik]
   have:¬ (i:Int)=(k:Int):=by omega
   simp [this]
structure PrS (H0 H:AH) (g:List Pd) (r3 r4:Nat) (v:VV) (out:List Int) (B:OB PK):Prop where
 ob:Objs H0 H B
 cell:B .cell=some (r3,.cells 108 [v] 0)
 inn:B .inn=some (r4,.cells 4 (encC boE (inL g.length out)) 0)
 sl:SlO B .out 3 1 intE v out
 ing:inG g out
 nd:out.Nodup
def prB (H0 H:AH) (g:List Pd) (r1 r3 r4:Nat) (out:List Int):Prop:=H0 r1=some (.cells 30 [pdsV g] 0)∧∃ v B,PrS H0 H g r3 r4 v out B
theorem ZjY {g:List Pd} {out0:List Int} {r1 r3 r4:Nat} {H0 H1:AH} {t:Nat→VV} {Q:APost} {K:AF→AH→Prop} (hN:g.length≤12) (hi:∀ p∈g,p.items.length≤1099511627776)
 (h1:t 1=ptrV r1 0) (h3:t 3=ptrV r3 0) (h4:t 4=.lit (.slice (some ⟨r4,0,none⟩) g.length g.length)) (h5:t 5=boolV false) (h12:t 12=pdsV g) (h13:t 13=iV g.length) (h14:t 14=iV 0) (hb:prB H0 H1 g r1 r3 r4 out0)
 (hQ:Zaa Q) (hK:∀ t' H',t' 1=ptrV r1 0→t' 3=ptrV r3 0→t' 4=.lit (.slice (some ⟨r4,0,none⟩) g.length g.length)→t' 5=boolV (!decide ((XC g out0 g.length).length=out0.length))→prB H0 H' g r1 r3 r4 (XC g out0 g.length)→Q (.exit 2) ⟨t',[]⟩ H') :
 ACx ⟨Try.prog,40,none⟩ (.loop b76_1) Q ⟨t,[]⟩ H1:=by
 refine YJ hQ (fun A H'=>A.d=[]∧A.t 1=ptrV r1 0∧A.t 3=ptrV r3 0∧A.t 4=.lit (.slice (some ⟨r4,0,none⟩) g.length g.length)∧A.t 12=pdsV g∧A.t 13=iV g.length∧∃ k:Nat,k≤g.length∧A.t 14=iV k∧A.t 5=boolV (!decide ((XC g out0 k).length=out0.length))∧prB H0 H' g r1 r3 r4 (XC g out0 k))
  (fun A _=>match A.t 14 with | .lit (.int _ i)=>((g.length:Int)-i).toNat | _=>0) ?_ ?_
 ·exact ⟨rfl,h1,h3,h4,h12,h13,0,by omega,h14,by show t 5=_; rw [h5]; simp [XC],hb⟩
 ·clear h1 h3 h4 h5 h12 h13 h14 hb;rintro ⟨t,d⟩ H ⟨rfl,h1,h3,h4,h12,h13,k,hk,h14,h5,k1,v,B,hS⟩;dsimp only at h1 h3 h4 h5 h12 h13 h14;delta b76_1 Zn Zr Za Zk Zb Zi Zc Zg Zp Zq Zl Zm;by_cases hlt:k<g.length
  ·have hil:(k:Int)<(g.length:Int):=by omega
   have hdi:=WG hlt;have hll:=Zbw g out0 k;have hp:XC g out0 (k+1)=prodK g (XC g out0 k) k:=rfl;generalize XC g out0 k=out at *
   have q1:=hS.ob.keep k1;have q3:=hS.ob.at_ _ _ _ hS.cell;have q4:=hS.ob.at_ _ _ _ hS.inn;have hol:out.length≤g.length:=JZ hS.nd hS.ing;have hrd:=hS.sl.read hS.ob;have hid:=inL_drop out hlt;have hile:=ZkU g.length out;have hpk:prodK g out k=if (k:Int)∈out∨g[k].items.any (Zbh g out)=true then out else out++[(k:Int)]:=by unfold prodK; rw [Xa hlt]
   have hii:=hi _ (ZmE hlt);have hlen:(encC boE (inL g.length out)).length=g.length:=by rw [YO (k:=1) (fun _=>rfl),hile,ZmM]
   by_cases hm:(k:Int)∈out
   ·rw [decide_eq_true hm] at hid;rw [if_pos (.inl hm)] at hpk;rw [hpk] at hp;replace hS:=Hold.mk hS;replace hp:=Hold.mk hp;replace hK:=Hold.mk hK;replace hrd:=Hold.mk hrd
    (repeat' (first | (simp only [↓Zt,Zu,ptrV,boolV,Zl9,Zma,Zmj,Yc,Zx,setAt,undef,Je,ZlY,Zgp,JV,Xb,Zfe,ZcT, *]) | (refine Zw fun zr zh=>?_; have zg:=zh; (try simp only [AH.set_none] at zg); (try have zn_q1:=AH.ne_of q1 zh); (try have zn_q1:=AH.ne_of q1 zg.2); (try have zn_q1:=AH.ne_of q1 zg.2.2); (try have zn_q1:=AH.ne_of q1 zg.2.2.2); (try have zn_q1:=AH.ne_of q1 zg.2.2.2.2); (try have zn_q3:=AH.ne_of q3 zh); (try have zn_q3:=AH.ne_of q3 zg.2); (try have zn_q3:=AH.ne_of q3 zg.2.2); (try have zn_q3:=AH.ne_of q3 zg.2.2.2); (try have zn_q3:=AH.ne_of q3 zg.2.2.2.2); (try have zn_q4:=AH.ne_of q4 zh); (try have zn_q4:=AH.ne_of q4 zg.2); (try have zn_q4:=AH.ne_of q4 zg.2.2); (try have zn_q4:=AH.ne_of q4 zg.2.2.2); (try have zn_q4:=AH.ne_of q4 zg.2.2.2.2)) | (with_reducible refine And.intro ?_ ?_)))
    all_goals rw [ZQ (n:=(k:Int)+1) (by omega) (by omega)]
    ·exact ⟨k+1,by omega,rfl,by rw [hp.out],k1,v,B,by rw [hp.out]; exact { hS.out with ob:=hS.out.ob.skip zh _ }⟩
    ·omega
   ·rw [decide_eq_false hm] at hid;have hca:=fun (H':AH) (hs:SubH H H') (K:VE→AH→Prop)=>hasIt (l:=g[k].items) (p:=Zbh g out) (f:=.func (.func 99) [] [ptrV r3 0,ptrV r1 0]) (H:=H') (K:=K) hii (fun i h=>lacks_ok (by omega) (by omega) hS.ing (hs _ _ q1) (hs _ _ q3) (hrd.mono hs))
    by_cases ha:g[k].items.any (Zbh g out)=true
    ·rw [if_pos (.inr ha)] at hpk;rw [hpk] at hp;rw [ha] at hca;replace hS:=Hold.mk hS;replace hp:=Hold.mk hp;replace hK:=Hold.mk hK;replace hrd:=Hold.mk hrd
     (repeat' (first | (refine hca _ (SubH.new (by assumption)) _ ?_) | (simp only [↓Yt,↓Ya,↓Ye,↓ZZ,↓Yb,↓Ys,↓ZaJ,↓ZY,↓ZF,↓Yk,↓YN,↓ZD,↓JB,↓ZcU,↓ZG,↓ZH,↓YX,↓ZJ,↓YY,↓ZI,↓ZP,↓ZU,↓Zv,↓ZR,↓ZE,↓ZV,↓Ym,↓YE,↓ZS,↓YR,↓Yy,↓Xn,↓Wm,↓ZA,↓ZN,↓ZK,↓ZL,↓Yl,↓Yz,ptrV,boolV,Zmd,Zmg,Zmi,Zml,ite_true,ite_false,Zl9,Zma,Zmj,ne_eq,not_false_eq_true,true_and,Zmv,Zme,decide_true,ZmL,Zmw,ZmM,AH.get,AH.set_set,setAt,Zmz,ZmJ,Zmp,eq_self,Zmh,Zmb,and_self,Yq,Jk,Wc,WM,YB,Ws,Zmn,Zmy,↓Xo,YP,Zmc,WC,Yn,YK,WE,Zfk,XG,Zcz,Yo,WD,Yp,YG,Wf,Wg,Xh,Je,ZlY,Wi,Zgp,JV,Xb,Zfe,ZcT, *]) | (refine Zw fun zr zh=>?_; have zg:=zh; (try simp only [AH.set_none] at zg); (try have zn_q1:=AH.ne_of q1 zh); (try have zn_q1:=AH.ne_of q1 zg.2); (try have zn_q1:=AH.ne_of q1 zg.2.2); (try have zn_q1:=AH.ne_of q1 zg.2.2.2); (try have zn_q1:=AH.ne_of q1 zg.2.2.2.2); (try have zn_q3:=AH.ne_of q3 zh); (try have zn_q3:=AH.ne_of q3 zg.2); (try have zn_q3:=AH.ne_of q3 zg.2.2); (try have zn_q3:=AH.ne_of q3 zg.2.2.2); (try have zn_q3:=AH.ne_of q3 zg.2.2.2.2); (try have zn_q4:=AH.ne_of q4 zh); (try have zn_q4:=AH.ne_of q4 zg.2); (try have zn_q4:=AH.ne_of q4 zg.2.2); (try have zn_q4:=AH.ne_of q4 zg.2.2.2); (try have zn_q4:=AH.ne_of q4 zg.2.2.2.2)) | (with_reducible refine And.intro ?_ ?_)))
     all_goals rw [ZQ (n:=(k:Int)+1) (by omega) (by omega)]
     ·exact ⟨k+1,by omega,rfl,by rw [hp.out],k1,v,B,by rw [hp.out]; exact { hS.out with ob:=hS.out.ob.skip zh _ }⟩
     ·omega
    ·rw [if_neg (fun h=>h.elim hm ha)] at hpk;rw [hpk] at hp;rw [show g[k].items.any (Zbh g out)=false by simpa using ha] at hca;have his:=inL_set out hlt;have d34:=hS.ob.apart hS.cell hS.inn (by decide);replace hp:=Hold.mk hp;replace hK:=Hold.mk hK;replace hrd:=Hold.mk hrd;replace hS:=Hold.mk hS
     (repeat' (first | (refine hca _ (SubH.new (by assumption)) _ ?_) | (simp only [↓Yt,↓Ya,↓Ye,↓ZZ,↓Yb,↓Yv,↓Ys,↓ZY,↓ZF,↓Yk,↓YN,↓ZD,↓ZG,↓ZH,↓YX,↓ZJ,↓YY,↓ZI,↓ZP,↓ZU,↓Zv,↓ZR,↓ZE,↓ZV,↓Ym,↓YE,↓ZS,↓YR,↓Yy,↓Xn,↓YC,↓Wm,↓ZA,↓ZN,↓ZX,↓ZK,↓ZL,↓WX,↓Yl,ptrV,boolV,Zmd,Zmg,Zmi,Zml,ZmF,ite_true,ite_false,Zl9,Zma,Zmj,Zmu,ne_eq,not_false_eq_true,true_and,Zmv,Zme,decide_true,ZmL,Zmw,ZmM,AH.get,AH.set_set,fillV,setAt,Zmz,ZmJ,Zmp,eq_self,Zmh,Zmb,and_self,Yq,Jk,XV,Wc,ZaQ,ZaR,WM,YB,Ws,Zmn,Zmy,↓Xo,YP,Zmc,WC,Yn,YK,WE,Zfk,XG,Zcz,Yo,WD,Yp,YG,Wf,Wg,ZB,ZmP,ZmZ,ZmT,ZmX,Xh,Je,ZlY,Wi,JW,Zgp,Zff,JV,Xb,Zfe,YA,Wv,ZcT, *]) | (refine Zw fun zr zh=>?_; have zg:=zh; (try simp only [AH.set_none] at zg); (try have zn_q1:=AH.ne_of q1 zh); (try have zn_q1:=AH.ne_of q1 zg.2); (try have zn_q1:=AH.ne_of q1 zg.2.2); (try have zn_q1:=AH.ne_of q1 zg.2.2.2); (try have zn_q1:=AH.ne_of q1 zg.2.2.2.2); (try have zn_q3:=AH.ne_of q3 zh); (try have zn_q3:=AH.ne_of q3 zg.2); (try have zn_q3:=AH.ne_of q3 zg.2.2); (try have zn_q3:=AH.ne_of q3 zg.2.2.2); (try have zn_q3:=AH.ne_of q3 zg.2.2.2.2); (try have zn_q4:=AH.ne_of q4 zh); (try have zn_q4:=AH.ne_of q4 zg.2); (try have zn_q4:=AH.ne_of q4 zg.2.2); (try have zn_q4:=AH.ne_of q4 zg.2.2.2); (try have zn_q4:=AH.ne_of q4 zg.2.2.2.2)) | assumption | (with_reducible refine And.intro ?_ ?_)))
     have ho1:=(hS.out.ob.skip zh (.cells 62 [sV g[k].left,iV g[k].prio,sV g[k].name,itsV g[k].items] 0)).set hS.out.inn (.cells 4 (encC boE (inL g.length (out++[(k:Int)]))) 0);have hs1:SlO (B.put .inn (some (r4,.cells 4 (encC boE (inL g.length (out++[(k:Int)]))) 0))) .out 3 1 intE v out:=hS.out.sl.of (OB.put_ne _ _ (by decide));refine SlO.append (l:=out) (x:=(k:Int)) (w:=1) (b:=8) (fun _=>rfl) YA Wv rfl (by omega) hs1 ho1 rfl (by omega) (by omega) (fun v' H' B' s1 s2 s3=>?_);have c3:B' .cell=some (r3,.cells 108 [v] 0):=by rw [s2 _ (by decide),OB.put_ne _ _ (by decide)]; exact hS.out.cell
     have c4:B' .inn=some (r4,.cells 4 (encC boE (inL g.length (out++[(k:Int)]))) 0):=by rw [s2 _ (by decide),OB.put_same]
     have w3:=s3.at_ _ _ _ c3;obtain ⟨e1,e2⟩:=s1.cells
     have hfin:PrS H0 (H'.set r3 (.cells 108 [v'] 0)) g r3 r4 v' (out++[(k:Int)]) (B'.put .cell (some (r3,.cells 108 [v'] 0))) :=
      ⟨s3.set c3 _,OB.put_same _ _ _,by rw [OB.put_ne _ _ (by decide)]; exact c4,s1.of (OB.put_ne _ _ (by decide)),by
        have:=Zi4 hlt hS.out.ing
        rwa [hpk] at this,by
        have:=Zi5 (g:=g) (k:=k) hS.out.nd
        rwa [hpk] at this⟩
     replace hfin:=Hold.mk hfin;clear s1 s2 s3 c3 c4 ho1 hs1 his hid q1 q3 q4 zn_q1 zn_q3 zn_q4
     (repeat' (first | (simp only [↓Zt,Zu,ptrV,boolV,Zl9,Zma,setAt,ZhG, *]) | (with_reducible refine And.intro ?_ ?_)))
     all_goals rw [ZQ (n:=(k:Int)+1) (by omega) (by omega)]
     ·refine ⟨k+1,by omega,rfl,?_,k1,v',_,by rw [hp.out]; exact hfin.out⟩;rw [hp.out,decide_eq_false (by rw [ZmB]; simp; omega)]; rfl
     ·omega
  ·have hil:¬ (k:Int)<(g.length:Int):=by omega
   obtain rfl:k=g.length:=by omega
   have hk2:=fun t' a b c d=>hK t' H a b c d ⟨k1,v,B,hS⟩
   replace hS:=Hold.mk hS
   (repeat' (first | (simp only [↓Zt,Zu,ptrV,boolV,Zma, *])))
   exact hk2 _ (by simp only [Zv,Zl9,if_false, *]<;>rfl) (by simp only [Zv,Zl9,if_false, *]<;>rfl) (by simp only [Zv,Zl9,if_false, *]<;>rfl) (by simp only [Zv,Zl9,if_false, *]<;>rfl)
theorem Zei:∀ {l m:List Int},l.Perm m→l.Pairwise (·≤·)→m.Pairwise (·≤·)→l=m
 | [],m,h,_,_=>(List.Perm.nil_eq h)
 | a::l,[],h,_,_=>by have:=h.length_eq; simp at this
 | a::l,b::m,h,hl,hm=>by
   have h1:=List.pairwise_cons.1 hl;have h2:=List.pairwise_cons.1 hm
   have hab:a=b:=by
    have ha:a∈b::m:=h.subset (by simp);have hb:b∈a::l:=h.symm.subset (by simp);rcases List.mem_cons.1 ha with e | ha
    ·exact e
    ·rcases List.mem_cons.1 hb with e | hb
     ·exact e.symm
     ·have:=h1.1 b hb
      have:=h2.1 a ha
      omega
   subst hab;rw [Zei ((List.perm_cons a).1 h) h1.2 h2.2]
def srtI (l:List Int):List Int:=l.mergeSort fun a b=>decide (a≤b)
theorem Jb (l:List Int):(srtI l).Perm l:=List.mergeSort_perm _ _
theorem ZeD (l:List Int):(srtI l).Pairwise (·≤·):=by
 have:=List.pairwise_mergeSort (le:=fun a b:Int=>decide (a≤b)) (fun a b c h1 h2=>by simp at h1 h2 ⊢; omega) (fun a b=>by simp; omega) l
 exact this.imp fun h=>by simpa using h
theorem ZhU {l m:List Int} (h:m.Perm l) (hs:m.Pairwise (·≤·)):m=srtI l:=Zei (h.trans (Jb l).symm) hs (ZeD l)
def prodF (g:List Pd):List Int:=srtI (JL g (g.length+1) [])
theorem ZgB (g:List Pd) (hN:g.length≤12) (hi:∀ p∈g,p.items.length≤1099511627776):PureF Try.prog 76 [pdsV g] (intsV (prodF g)):=by
 refine ZaK.pure fun H=>?_
 refine Zy fd76 (by simp) ?_;delta c76 Zj Zq Zi Zb Ze Zr Zc
 (repeat' (first | (simp only [↓Zt,Zu,↓Zeu,ptrV,intV,Zl9,Zma,reduceCtorEq,Zx,Zmb,Int.ofNat_le,↓n_make,ZkL,ZkM,undef,Xz,ZgT,Xb,Zfe,ZkE, *]) | (refine Zw fun zr zh=>?_; have zg:=zh; (try simp only [AH.set_none] at zg)) | (with_reducible refine And.intro ?_ ?_)))
 ·omega
 ·omega
 rename_i r1 n1 n1' r3 n3 n3';obtain ⟨H1,hH1⟩:∃ H1,H1=H.set r1 (.cells 30 [.slice false g.length (encC pdE g)] 0):=⟨_,rfl⟩
 have k1:H1 r1=some (.cells 30 [pdsV g] 0):=by rw [hH1]; exact AH.set_same _ _ _
 have hs1:SubH H H1:=by rw [hH1]; exact SubH.new n1
 have hrep:(List.map VV.lit (ZmH g.length [Value.bool false]).flatten)=encC boE (inL g.length []):=by
  have e:∀ n:Nat,List.map VV.lit (ZmH n [Value.bool false]).flatten=encC boE (ZmH n false):=fun n=>by
   induction n with
   | zero=>rfl
   | succ n ih=>rw [ZmP,ZmT,List.map_append,ih,ZmP,Yg]; rfl
  rw [e]
  congr 1
  unfold inL
  apply List.ext_getElem
  ·simp
  ·intro i h1 h2; simp
 rw [hrep];rw [← hH1] at zh ⊢
 have hb0:prB H1 ((H1.set r3 (.cells 108 [.lit (.slice none 0 0)] 0)).set zr (.cells 4 (encC boE (inL g.length [])) 0)) g r1 r3 zr []:=by
  have h0:=((Objs.none (fun _:PK=>none) (fun _=>rfl) H1).alloc (show H1 r3=none by rw [hH1,AH.set_ne _ _ n3'.1.1]; exact n3'.2) .cell (.cells 108 [.lit (.slice none 0 0)] 0)).alloc zh .inn (.cells 4 (encC boE (inL g.length [])) 0);exact ⟨k1,_,_,h0,by rw [OB.put_ne _ _ (by decide),OB.put_same],OB.put_same _ _ _,SlO.none _ _ _ _ (by rw [OB.put_ne _ _ (by decide),OB.put_ne _ _ (by decide)]),(by intro q hq; cases hq),Zm0⟩
 clear hH1;generalize zr=r4 at *
 generalize (H1.set r3 (.cells 108 [.lit (.slice none 0 0)] 0)).set r4 (.cells 4 (encC boE (inL g.length [])) 0)=H2 at *
 obtain ⟨F,hF⟩:∃ F,F=JL g (g.length+1) []:=⟨_,rfl⟩
 have hPF:prodF g=srtI F:=by rw [hF]; rfl
 rw [hPF];clear hPF;replace hF:=Hold.mk hF
 refine YJ (fun _ _ _ h=>h) (fun A H'=>A.d=[]∧A.t 1=ptrV r1 0∧A.t 3=ptrV r3 0∧A.t 4=.lit (.slice (some ⟨r4,0,none⟩) g.length g.length)∧∃ (out:List Int) (ch:Bool),A.t 5=boolV ch∧prB H1 H' g r1 r3 r4 out∧(ch=true→∃ fu,g.length<fu+out.length∧F=JL g fu out)∧(ch=false→F=out))
  (fun A H=>(match H r3 with | some (.cells _ [.lit (.slice _ n _)] _)=>2 * (g.length-n) | _=>0)+(match A.t 5 with | .lit (.bool true)=>1 | _=>0)) ?_ ?_
 ·exact ⟨rfl,(by simp only [Zv,Zl9,if_true,if_false, *]<;>rfl),(by simp only [Zv,Zl9,if_true,if_false, *]<;>rfl),(by simp only [Zv,Zl9,if_true,if_false, *]<;>rfl),[],true,(by simp only [Zv,Zl9,if_true,if_false, *]<;>rfl),hb0,fun _=>⟨g.length+1,by simp,hF.out⟩,fun h=>by cases h⟩
 ·clear hb0 zh zg n1' n3' n3 hF;rintro ⟨t,d⟩ H' ⟨rfl,h1,h3,h4,out,ch,h5,hb,hc1,hc2⟩;dsimp only at h1 h3 h4 h5;obtain ⟨_,v,B,hS⟩:=hb;have q1:=hS.ob.keep k1;have q3:=hS.ob.at_ _ _ _ hS.cell;have hol:out.length≤g.length:=JZ hS.nd hS.ing;obtain ⟨a,c,hv⟩:=hS.sl.form;have hmu:(match H' r3 with | some (.cells _ [.lit (.slice _ n _)] _)=>2 * (g.length-n) | _=>0)=2 * (g.length-out.length):=by rw [q3,hv]
  delta b76_2 Za Zr Zq Zb Ze;cases ch with
  | true =>
    obtain ⟨fu,hfu,hF2⟩:=hc1 rfl;have hpr:=fun (t':Nat→VV) (Q:APost) (hQ:Zaa Q) a b c d e f g' hK=>ZjY (K:=fun _ _=>True) (t:=t') (Q:=Q) hN hi a b c d e f g' ⟨k1,v,B,hS⟩ hQ hK
    replace hS:=Hold.mk hS;replace hF2:=Hold.mk hF2;clear hc1 hc2
    (repeat' (first | (simp only [↓Zt,Zu,ptrV,intV,boolV,Zl9,Zma,reduceCtorEq,Zmb,Xz,Xb, *])))
    refine hpr _ _ (fun _ _ _ h=>h) (by simp only [Zv,Zl9,if_false, *]<;>rfl) (by simp only [Zv,Zl9,if_false, *]<;>rfl) (by simp only [Zv,Zl9,if_false, *]<;>rfl) (by simp only [Zv,Zl9,if_true,if_false, *]<;>rfl) (by simp only [Zv,Zl9,if_true,if_false, *]<;>rfl) (by simp only [Zv,Zl9,if_true,if_false, *]<;>rfl) (by simp only [Zv,Zl9,if_true,if_false, *]<;>rfl) (fun t' H3 w1 w3 w4 w5 hb=>?_);have hle:=Zbw g out g.length;refine ⟨⟨rfl,w1,w3,w4,_,_,w5,hb,fun hch=>?_,fun hch=>?_⟩,?_⟩
    ·have hne:¬ (XC g out g.length).length=out.length:=by simpa using hch
     obtain ⟨f',rfl⟩:∃ f',fu=f'+1:=⟨fu-1,by omega⟩
     refine ⟨f',by omega,?_⟩;rw [hF2.out,JL,if_neg hne]
    ·have he:(XC g out g.length).length=out.length:=by simpa using hch
     obtain ⟨f',rfl⟩:∃ f',fu=f'+1:=⟨fu-1,by omega⟩
     rw [hF2.out,JL,if_pos he]
    ·obtain ⟨_,v2,B2,hS2⟩:=hb;have q32:=hS2.ob.at_ _ _ _ hS2.cell;obtain ⟨a2,c2,hv2⟩:=hS2.sl.form;have hol2:=JZ hS2.nd hS2.ing;dsimp only;rw [q32,hv2,w5];dsimp only;by_cases he:(XC g out g.length).length=out.length
     ·rw [decide_eq_true he];show 2 * (g.length-(XC g out g.length).length)+0<2 * (g.length-out.length)+1;omega
     ·rw [decide_eq_false he];show 2 * (g.length-(XC g out g.length).length)+1<2 * (g.length-out.length)+1;omega
  | false =>
    have hF2:=hc2 rfl;subst hF2;clear hc1 hc2 hv hmu
    have hfin:∀ (K:VE→AH→Prop),(∀ H2 Hb,SubH H Hb→H2 r3=some (.cells 108 [v] 0)→OwnX Hb H2 3 1 v (srtI F).length (encC intE (srtI F))→K (.ret (.tuple [])) H2)→ZO Try.prog 81 [v] H' K:=fun K hK=>by
     rcases hS.sl with ⟨rfl,rfl,_⟩ | ⟨a,c,sp,rfl,hb,g1,g2,g3⟩
     ·exact sort_nil (hK _ H' (hs1.trans hS.ob.sub) q3 (by rw [List.perm_nil.1 (Jb [])]; exact OwnX.nil _ _ _))
     ·have hat:=hS.ob.at_ _ _ _ hb;have ha3:=hS.ob.apart hb hS.cell (by decide);have h0:=hS.ob.new _ _ _ hb;refine ZkS (by omega) hat fun l' p1 p2=>?_
      have hl:l'=srtI F:=ZhU p1 p2;subst hl;refine hK _ (H'.del a) (hs1.trans (hS.ob.sub.del h0)) (by rw [AH.set_ne _ _ (fun e=>ha3 e.symm)]; exact q3) (.inr ⟨a,c,sp,?_,AH.del_same _ _,?_,?_,?_,?_,g3⟩)
      ·rw [p1.length_eq]
      ·funext i
       simp only [AH.get,AH.del_get];by_cases e:i=a<;>simp [e]
      ·rw [YO (k:=1) (fun _=>rfl)]
      ·rw [YO (k:=1) (fun _=>rfl),p1.length_eq]; exact g1
      ·rw [p1.length_eq]; exact g2
    replace hS:=Hold.mk hS
    (repeat' (first | (simp only [↓Zt,Zu,ptrV,boolV,Zma, *])))
    delta c76_1 Zb Zo Zr Zc;refine YL rfl (fun _ _ _ h=>h) ?_
    (repeat' (first | (refine hfin _ (fun H2 Hb s1 w3 ow=>?_)) | (simp only [↓Ya,↓Ye,↓Xe,↓ZY,↓ZF,↓ZD,↓ZG,↓ZH,↓ZJ,↓ZI,↓ZU,↓Zv,↓ZE,↓ZS,↓ZK,↓ZL,ptrV,Zmd,Zmg,ite_true,ite_false,Zl9,Zma,true_and,Zme,eq_self,Zmb,Yq,Yn,Yo,Yp,JW,en_81, *]) | (refine ZC ?_)))
    exact ⟨_,rfl,GhV.back ow s1⟩
end Go.PV.Ytfkkmdelpddojaa
end
section
open Bool renaming and_eq_true→ZmA,and_self→Zmp
open List renaming mem_cons_self→ZmR,mem_cons_of_mem→ZmN
open Nat renaming le_of_ble_eq_true→Zmt
set_option maxRecDepth 20000
set_option maxHeartbeats 4000000
namespace Go.PV.Ytfkkmdelpddojaa
open Go Go.Proofs Go.Maps
structure St where
 prod:Nat
 dot:Nat
 start:Nat
 deriving DecidableEq
abbrev stE (s:St):List VV:=[iV s.prod,iV s.dot,iV s.start]
abbrev stV (s:St):VV:=.agg (stE s)
def stK (s:St):Value:=.agg #[.int .i64 s.prod,.int .i64 s.dot,.int .i64 s.start]
abbrev Sp:=Nat × Nat
abbrev spE (s:Sp):List VV:=[iV s.1,iV s.2]
abbrev spV (s:Sp):VV:=.agg (spE s)
def spK (s:Sp):Value:=.agg #[.int .i64 s.1,.int .i64 s.2]
structure Rs where
 prod:Nat
 dot:Nat
 from_:Nat
 to:Nat
 deriving DecidableEq
abbrev rsE (s:Rs):List VV:=[iV s.prod,iV s.dot,iV s.from_,iV s.to]
abbrev rsV (s:Rs):VV:=.agg (rsE s)
def rsK (s:Rs):Value:=.agg #[.int .i64 s.prod,.int .i64 s.dot,.int .i64 s.from_,.int .i64 s.to]
theorem stK_inj (a b:St) (h:stK a=stK b):a=b:=by
 obtain ⟨a1,a2,a3⟩:=a;obtain ⟨b1,b2,b3⟩:=b;simp [stK] at h
 congr 1<;>omega
theorem Zd0 (a b:Sp) (h:spK a=spK b):a=b:=by
 obtain ⟨a1,a2⟩:=a;obtain ⟨b1,b2⟩:=b;simp [spK] at h
 congr 1<;>omega
theorem rsK_inj (a b:Rs) (h:rsK a=rsK b):a=b:=by
 obtain ⟨a1,a2,a3,a4⟩:=a;obtain ⟨b1,b2,b3,b4⟩:=b;simp [rsK] at h
 congr 1<;>omega
theorem wfN {n:Nat} (h:n≤1099511627776):(Lit.int .i64 (n:Int)).wf=true:=by
 simp only [Lit.wf,ZmA,decide_eq_true_eq];exact ⟨show -9223372036854775808≤(n:Int) by omega,show (n:Int)≤9223372036854775807 by omega⟩
theorem Zg9 {α β:Type} (f:α→Option β):∀ (l:List α),(∀ x∈l,∃ y,f x=some y)→∃ ys,l.mapM f=some ys
 | [],_=>⟨[],rfl⟩
 | x::l,h=>by
   obtain ⟨y,hy⟩:=h x (ZmR ..);obtain ⟨ys,hys⟩:=Zg9 f l fun z hz=>h z (ZmN _ hz)
   exact ⟨y::ys,by simp [List.mapM_cons,hy,hys]⟩
theorem Zbi:Program.underlying Try.prog 3=some (.int .i64):=by kernel_rfl
theorem Zfy {P:Program} {k d:TypeId} {fs:Array Field} (hu:P.underlying k=some (.struct fs)) (hn:fs.all (·.name != "_")=true) {vs:List Value} (hc:vs.length=P.cellsOf k) (hall:∀ f∈fs.toList,∃ y,P.keyLits d f.type ((vs.drop f.offset).take (P.cellsOf f.type))=some y):∃ ls,P.keyLits (d+1) k vs=some ls:=by
 obtain ⟨ys,hys⟩:=Zg9 (fun f:Field=>P.keyLits d f.type ((vs.drop f.offset).take (P.cellsOf f.type))) fs.toList hall;simp only [Program.keyLits,hu,hc,hn,and_self,if_true,hys];exact ⟨_,rfl⟩
theorem ZbZ {P:Program} {k d:TypeId} {fs:Array Field} (hu:P.underlying k=some (.struct fs)) (hk:P.keyType k=true) (hn:fs.all (·.name != "_")=true) {vs:List Value} (hc:vs.length=P.cellsOf k) (hform:(Value.agg vs.toArray).formed P k=true)
 (hd:P.types.size=d) (hall:∀ f∈fs.toList,∃ y,P.keyLits d f.type ((vs.drop f.offset).take (P.cellsOf f.type))=some y):∃ l,keyOf P k (.agg vs.toArray)=some l:=by
 unfold keyOf;rw [hu];simp only [hk,hform,Zmp,if_true];have hcl:(Value.agg vs.toArray).cells.toList=vs:=by simp [Value.cells]
 rw [hcl,hd]
 have:∃ ls,P.keyLits (d+1) k vs=some ls:=Zfy hu hn hc hall
 obtain ⟨ls,hls⟩:=this;rw [hls];exact ⟨_,rfl⟩
theorem Zaz {P:Program} {d:Nat} {t:TypeId} {n:Nat} (hu:P.underlying t=some (.int .i64)) (h:n≤1099511627776):P.keyLits (d+1) t [.int .i64 n]=some [.int .i64 n]:=by
 simp only [Program.keyLits,hu];simp [wfN h]
theorem keyedSt:Keyed Try.prog 129:=Keyed.of_law (deep_law_laid (m:=3) (by kernel_rfl) (by omega) (Zmt (by kernel_rfl)) (by kernel_rfl) (by kernel_rfl))
theorem keyedSp:Keyed Try.prog 99:=Keyed.of_law (deep_law_laid (m:=3) (by kernel_rfl) (by omega) (Zmt (by kernel_rfl)) (by kernel_rfl) (by kernel_rfl))
theorem keyedRs:Keyed Try.prog 185:=Keyed.of_law (deep_law_laid (m:=4) (by kernel_rfl) (by omega) (Zmt (by kernel_rfl)) (by kernel_rfl) (by kernel_rfl))
theorem ktSt:Program.keyType Try.prog 129=true:=by kernel_rfl
theorem ktSp:Program.keyType Try.prog 99=true:=by kernel_rfl
theorem ktRs:Program.keyType Try.prog 185=true:=by kernel_rfl
def Zfz:Option TypeDesc→Array Field
 | some (.struct fs)=>fs
 | _=>#[]
def ZgC (fs:Array Field):List (TypeId × Nat):=fs.toList.map fun f=>(f.type,f.offset)
theorem Zco {fs:Array Field} {l:List (TypeId × Nat)} (h:ZgC fs=l) {f:Field} (hf:f∈fs.toList):(f.type,f.offset)∈l:=by
 rw [← h]; exact List.mem_map.2 ⟨f,hf,rfl⟩
theorem sizeP:∃ d,(Try.prog).types.size=d+1+1:=⟨(Try.prog).types.size-2,by kernel_rfl⟩
theorem keySt {s:St} (h:s.prod≤1099511627776∧s.dot≤1099511627776∧s.start≤1099511627776):ZW Try.prog 119 (stK s):=by
 obtain ⟨fs,hu,hsh,hn⟩:∃ fs,Program.underlying Try.prog 129=some (.struct fs)∧ZgC fs=[(3,0),(3,1),(3,2)]∧fs.all (·.name != "_")=true:=⟨Zfz (Program.underlying Try.prog 129),by kernel_rfl,by kernel_rfl,by kernel_rfl⟩
 obtain ⟨d,hd⟩:=sizeP;have hc1:Program.cellsOf Try.prog 3=1:=by kernel_rfl
 have hc3:Program.cellsOf Try.prog 129=3:=by kernel_rfl
 obtain ⟨l,hl⟩:=ZbZ (vs:=[.int .i64 s.prod,.int .i64 s.dot,.int .i64 s.start]) hu ktSt hn (by rw [hc3]; rfl) (by simp [Value.formed,hu,hc3]) hd fun f hf=>by
  have hm:=Zco hsh hf;simp only [List.mem_cons,Prod.mk.injEq,List.not_mem_nil,or_false] at hm;rcases hm with ⟨e1,e2⟩ | ⟨e1,e2⟩ | ⟨e1,e2⟩<;>rw [e1,e2,hc1]
  ·exact ⟨_,Zaz Zbi h.1⟩
  ·exact ⟨_,Zaz Zbi h.2.1⟩
  ·exact ⟨_,Zaz Zbi h.2.2⟩
 exact ⟨129,4,l,by kernel_rfl,hl⟩
theorem keySp {s:Sp} (h:s.1≤1099511627776∧s.2≤1099511627776):ZW Try.prog 124 (spK s):=by
 obtain ⟨fs,hu,hsh,hn⟩:∃ fs,Program.underlying Try.prog 99=some (.struct fs)∧ZgC fs=[(3,0),(3,1)]∧fs.all (·.name != "_")=true:=⟨Zfz (Program.underlying Try.prog 99),by kernel_rfl,by kernel_rfl,by kernel_rfl⟩
 obtain ⟨d,hd⟩:=sizeP;have hc1:Program.cellsOf Try.prog 3=1:=by kernel_rfl
 have hc3:Program.cellsOf Try.prog 99=2:=by kernel_rfl
 obtain ⟨l,hl⟩:=ZbZ (vs:=[.int .i64 s.1,.int .i64 s.2]) hu ktSp hn (by rw [hc3]; rfl) (by simp [Value.formed,hu,hc3]) hd fun f hf=>by
  have hm:=Zco hsh hf;simp only [List.mem_cons,Prod.mk.injEq,List.not_mem_nil,or_false] at hm;rcases hm with ⟨e1,e2⟩ | ⟨e1,e2⟩<;>rw [e1,e2,hc1]
  ·exact ⟨_,Zaz Zbi h.1⟩
  ·exact ⟨_,Zaz Zbi h.2⟩
 exact ⟨99,108,l,by kernel_rfl,hl⟩
theorem keyRs {s:Rs} (h:s.prod≤1099511627776∧s.dot≤1099511627776∧s.from_≤1099511627776∧s.to≤1099511627776):ZW Try.prog 125 (rsK s):=by
 obtain ⟨fs0,hu0,hsh0,hn0⟩:∃ fs,Program.underlying Try.prog 99=some (.struct fs)∧ZgC fs=[(3,0),(3,1)]∧fs.all (·.name != "_")=true:=⟨Zfz (Program.underlying Try.prog 99),by kernel_rfl,by kernel_rfl,by kernel_rfl⟩
 obtain ⟨fs,hu,hsh,hn⟩:∃ fs,Program.underlying Try.prog 185=some (.struct fs)∧ZgC fs=[(3,0),(3,1),(99,2)]∧fs.all (·.name != "_")=true:=⟨Zfz (Program.underlying Try.prog 185),by kernel_rfl,by kernel_rfl,by kernel_rfl⟩
 obtain ⟨d,hd⟩:=sizeP;have hc1:Program.cellsOf Try.prog 3=1:=by kernel_rfl
 have hc2:Program.cellsOf Try.prog 99=2:=by kernel_rfl
 have hc3:Program.cellsOf Try.prog 185=4:=by kernel_rfl
 obtain ⟨l,hl⟩:=ZbZ (vs:=[.int .i64 s.prod,.int .i64 s.dot,.int .i64 s.from_,.int .i64 s.to]) hu ktRs hn (by rw [hc3]; rfl) (by simp [Value.formed,hu,hc3]) hd fun f hf=>by
  have hm:=Zco hsh hf;simp only [List.mem_cons,Prod.mk.injEq,List.not_mem_nil,or_false] at hm;rcases hm with ⟨e1,e2⟩ | ⟨e1,e2⟩ | ⟨e1,e2⟩
  ·rw [e1,e2,hc1]; exact ⟨_,Zaz Zbi h.1⟩
  ·rw [e1,e2,hc1]; exact ⟨_,Zaz Zbi h.2.1⟩
  ·rw [e1,e2,hc2]
   exact Zfy (d:=d+1) (vs:=[Value.int .i64 s.from_,Value.int .i64 s.to]) hu0 hn0 (by rw [hc2]; rfl) fun f hf=>by
    have hm:=Zco hsh0 hf;simp only [List.mem_cons,Prod.mk.injEq,List.not_mem_nil,or_false] at hm;rcases hm with ⟨e1,e2⟩ | ⟨e1,e2⟩<;>rw [e1,e2,hc1]
    ·exact ⟨_,Zaz Zbi h.2.2.1⟩
    ·exact ⟨_,Zaz Zbi h.2.2.2⟩
 exact ⟨185,4,l,by kernel_rfl,hl⟩
def stOk (s:St):Prop:=s.prod≤1099511627776∧s.dot≤1099511627776∧s.start≤1099511627776
def spOk (s:Sp):Prop:=s.1≤1099511627776∧s.2≤1099511627776
def rsOk (s:Rs):Prop:=s.prod≤1099511627776∧s.dot≤1099511627776∧s.from_≤1099511627776∧s.to≤1099511627776
theorem kmSt:KMap Try.prog 119 (.bool false) stK stV stOk:=⟨⟨129,4,by kernel_rfl,keyedSt,by kernel_rfl⟩,stK_inj,fun _=>rfl,fun _ h=>keySt h⟩
theorem kmSp:KMap Try.prog 124 (.slice none 0 0) spK spV spOk:=⟨⟨99,108,by kernel_rfl,keyedSp,by kernel_rfl⟩,Zd0,fun _=>rfl,fun _ h=>keySp h⟩
theorem kmRs:KMap Try.prog 125 (.bool false) rsK rsV rsOk:=⟨⟨185,4,by kernel_rfl,keyedRs,by kernel_rfl⟩,rsK_inj,fun _=>rfl,fun _ h=>keyRs h⟩
theorem smWt:Zdo Try.prog 120 (.slice none 0 0):=strMap (kt:=9) (et:=118) (by kernel_rfl) (by kernel_rfl) (by kernel_rfl)
theorem smBy:Zdo Try.prog 148 (.slice none 0 0):=strMap (kt:=9) (et:=108) (by kernel_rfl) (by kernel_rfl) (by kernel_rfl)
end Go.PV.Ytfkkmdelpddojaa
end
section
open Bool renaming not_true→ZmK,not_false→ZmG
open Int renaming natCast_nonneg→ZmL,toNat_natCast→Zmw
open List renaming range→Zmm,mem_cons_of_mem→ZmN,mem_cons_self→ZmR,drop_eq_getElem_cons→ZmY,getD_cons_zero→Zmq,getD_cons_succ→Zmr,getD_nil→Zms,drop→Zmb,map_cons→Zmd,map_nil→Zmg,length_cons→Zmi,length_nil→Zml,append_nil→ZmF,set_cons_zero→Zmn,set_cons_succ→Zmy,replicate_succ→ZmP,replicate_zero→ZmZ,flatten_cons→ZmT,flatten_nil→ZmX,drop_zero→Zm4,getElem?_eq_getElem→ZmW,getElem?_eq_none→ZmS
open Nat renaming reduceEqDiff→Zl9,reduceLT→Zma,succ_ne_self→Zme,zero_add→Zmh,reduceAdd→Zmj,reduceMul→Zm8,reduceLeDiff→Zmu,add_zero→Zmo,le_refl→Zmc
open Option renaming map_some→Zm1
set_option maxRecDepth 20000
set_option maxHeartbeats 4000000
namespace Go.PV.Ytfkkmdelpddojaa
open Go Go.Proofs
structure Set1 where
 st:List St
 wt:ByteArray→List St
structure Ch where
 sets:Nat→Set1
 done:Sp→List Int
def upS (f:Nat→Set1) (i:Nat) (x:Set1):Nat→Set1:=fun j=>if j=i then x else f j
def Ch.add (C:Ch) (i:Nat) (x:St):Ch:=if x∈(C.sets i).st then C else { C with sets:=upS C.sets i { C.sets i with st:=(C.sets i).st++[x] } }
inductive RK where
 | it | chart | sets | th (i:Nat) | wm (i:Nat) | dm | km | st (i:Nat) | wt (i:Nat) (s:ByteArray) | ds (s:Sp) | bm | bs (s:ByteArray)
 deriving DecidableEq
abbrev mapV (r:Nat):VV:=.lit (.map (some r))
def setE (vs:Nat→VV) (th wm:Nat→Nat) (i:Nat):List VV:=[vs i,mapV (th i),mapV (wm i)]
def setsC (n:Nat) (vs:Nat→VV) (th wm:Nat→Nat):List VV:=encC (setE vs th wm) (Zmm (n+1))
theorem Zb8 (n:Nat) (vs:Nat→VV) (th wm:Nat→Nat):(setsC n vs th wm).length=(n+1) * 3:=by
 unfold setsC; rw [YO (k:=3) (fun _=>rfl)]; simp
theorem Za4 {n i:Nat} (vs:Nat→VV) (th wm:Nat→Nat) (h:i≤n):(setsC n vs th wm).drop (i * 3)=vs i::mapV (th i)::mapV (wm i)::encC (setE vs th wm) ((Zmm (n+1)).drop (i+1)):=by
 unfold setsC;rw [WZ (k:=3) (fun _=>rfl) (by simp; omega)];simp [setE]
theorem ZjZ {n i:Nat} (vs:Nat→VV) (th wm:Nat→Nat) (h:i≤n):(setsC n vs th wm).drop (i * 3+1)=mapV (th i)::mapV (wm i)::encC (setE vs th wm) ((Zmm (n+1)).drop (i+1)):=by
 rw [← List.drop_drop,Za4 vs th wm h]; rfl
theorem ZfA {n i:Nat} (vs:Nat→VV) (th wm:Nat→Nat) (h:i≤n):(setsC n vs th wm).drop (i * 3+2)=mapV (wm i)::encC (setE vs th wm) ((Zmm (n+1)).drop (i+1)):=by
 rw [← List.drop_drop,Za4 vs th wm h]; rfl
def upV {α:Type} (f:Nat→α) (i:Nat) (v:α):Nat→α:=fun j=>if j=i then v else f j
theorem sets_set {n i:Nat} (vs:Nat→VV) (th wm:Nat→Nat) (v:VV) (h:i≤n):(setsC n vs th wm).set (i * 3) v=setsC n (upV vs i v) th wm:=by
 have e:∀ l:List Nat,¬ i∈l→encC (setE (upV vs i v) th wm) l=encC (setE vs th wm) l:=by
  intro l
  induction l with
  | nil=>intro _; rfl
  | cons a l ih =>
    intro hl;rw [Yg,Yg,ih (fun h=>hl (ZmN _ h))]
    have:¬ a=i:=fun e=>hl (by rw [e]; exact ZmR ..)
    simp [setE,upV,this]
 have hs:Zmm (n+1)=Zmm i++i::(Zmm (n+1)).drop (i+1):=by
  have h1:=(List.take_append_drop i (Zmm (n+1))).symm;rw [ZmY (by simp; omega),List.take_range,Nat.min_eq_left (by omega),List.getElem_range] at h1;exact h1
 have hn:¬ i∈(Zmm (n+1)).drop (i+1):=by
  intro h;obtain ⟨k,hk,hke⟩:=List.getElem_of_mem h;rw [List.getElem_drop,List.getElem_range] at hke;omega
 unfold setsC;generalize (Zmm (n+1)).drop (i+1)=R at *
 rw [hs,YS,Yg,YS,Yg,e _ (by simp),e _ hn];have hl:(encC (setE vs th wm) (Zmm i)).length=i * 3:=by rw [YO (k:=3) (fun _=>rfl)]; simp
 rw [List.set_append_right _ _ (by omega),hl,Nat.sub_self];simp [setE,upV]
structure RSx (H0 H:AH) (g:List Pd) (l:List Tk) (n rc rs rd rk rb:Nat) (th wm:Nat→Nat) (vs:Nat→VV) (vw:Nat→ByteArray→VV) (vd:Sp→VV) (vb:ByteArray→VV) (by_:ByteArray→List Int) (C:Ch) (B:OB RK):Prop where
 ob:Objs H0 H B
 chart:B .chart=some (rc,.cells 127 [pdsV g,tksV l,.lit (.slice (some ⟨rs,0,none⟩) (n+1) (n+1)),mapV rd,mapV rk] 0)
 sets:B .sets=some (rs,.cells 122 (setsC n vs th wm) 0)
 th:∀ i,i≤n→B (.th i)=some (th i,.map (ZW Try.prog 119) (kmap stK fun s=>if s∈(C.sets i).st then some (boolV true) else none))
 wm:∀ i,i≤n→B (.wm i)=some (wm i,.map (ZW Try.prog 120) (smap fun s=>if (C.sets i).wt s=[] then none else some (vw i s)))
 dm:B .dm=some (rd,.map (ZW Try.prog 124) (kmap spK fun s=>if C.done s=[] then none else some (vd s)))
 km:B .km=some (rk,.map (ZW Try.prog 125) (kmap rsK fun _=>none))
 bm:B .bm=some (rb,.map (ZW Try.prog 148) (smap fun s=>if by_ s=[] then none else some (vb s)))
 st:∀ i,i≤n→SlO B (.st i) 129 3 stE (vs i) (C.sets i).st
 wt:∀ i,i≤n→∀ s,SlO B (.wt i s) 129 3 stE (vw i s) ((C.sets i).wt s)
 ds:∀ s,SlO B (.ds s) 3 1 intE (vd s) (C.done s)
 bs:∀ s,SlO B (.bs s) 3 1 intE (vb s) (by_ s)
 wn:∀ i,i≤n→∀ s,(C.sets i).wt s=[]→B (.wt i s)=none
 dn:∀ s,C.done s=[]→B (.ds s)=none
structure Par where
 rc:Nat
 rs:Nat
 rd:Nat
 rk:Nat
 rb:Nat
 th:Nat→Nat
 wm:Nat→Nat
 vw:Nat→ByteArray→VV
 vd:Sp→VV
 vb:ByteArray→VV
def RSat (H0 H:AH) (g:List Pd) (l:List Tk) (n:Nat) (p:Par) (by_:ByteArray→List Int) (C:Ch):Prop:=∃ vs B,RSx H0 H g l n p.rc p.rs p.rd p.rk p.rb p.th p.wm vs p.vw p.vd p.vb by_ C B
theorem RSat.mono {H0 H H':AH} {g:List Pd} {l:List Tk} {n:Nat} {p:Par} {by_:ByteArray→List Int} {C:Ch} (h:RSat H0 H g l n p by_ C) (hs:SubH H H'):RSat H0 H' g l n p by_ C:=by
 obtain ⟨vs,B,h⟩:=h;exact ⟨vs,B,{ h with ob:=h.ob.mono hs }⟩
theorem RSat.skip {H0 H:AH} {g:List Pd} {l:List Tk} {n:Nat} {p:Par} {by_:ByteArray→List Int} {C:Ch} (h:RSat H0 H g l n p by_ C) {z:Nat} (hz:H z=none) (b:Blk):RSat H0 (H.set z b) g l n p by_ C:=h.mono (SubH.new hz)
theorem RSat.keep {H0 H:AH} {g:List Pd} {l:List Tk} {n:Nat} {p:Par} {by_:ByteArray→List Int} {C:Ch} (h:RSat H0 H g l n p by_ C) {r:Nat} {b:Blk} (hr:H0 r=some b):H r=some b:=by
 obtain ⟨vs,B,h⟩:=h;exact h.ob.keep hr
theorem Objs.base {κ:Type} {H0 H:AH} {B:OB κ} (h:Objs H0 H B) {z:Nat} (hz:H z=none) (b:Blk):Objs (H0.set z b) (H.set z b) B :=
 ⟨h.inj,fun k a c hk=>by
   have:=h.at_ _ _ _ hk
   rw [AH.set_ne _ _ (fun e=>by subst e; rw [hz] at this; cases this)]; exact h.new _ _ _ hk,h.sub.set _ _,(h.skip hz b).at_⟩
theorem Objs.weak {κ:Type} {H0 H1 H:AH} {B:OB κ} (h:Objs H1 H B) (hs:SubH H0 H1):Objs H0 H B:=⟨h.inj,fun k a b hk=>hs.none (h.new _ _ _ hk),hs.trans h.sub,h.at_⟩
theorem RSat.base {H0 H:AH} {g:List Pd} {l:List Tk} {n:Nat} {p:Par} {by_:ByteArray→List Int} {C:Ch} (h:RSat H0 H g l n p by_ C) {z:Nat} (hz:H z=none) (b:Blk):RSat (H0.set z b) (H.set z b) g l n p by_ C:=by
 obtain ⟨vs,B,h⟩:=h;exact ⟨vs,B,{ h with ob:=Objs.base h.ob hz b }⟩
theorem RSat.weak {H0 H1 H:AH} {g:List Pd} {l:List Tk} {n:Nat} {p:Par} {by_:ByteArray→List Int} {C:Ch} (h:RSat H1 H g l n p by_ C) (hs:SubH H0 H1):RSat H0 H g l n p by_ C:=by
 obtain ⟨vs,B,h⟩:=h;exact ⟨vs,B,{ h with ob:=Objs.weak h.ob hs }⟩
open Classical in
theorem kupd_ite {α:Type} [DecidableEq α] (l:List α) (x:α) (y:VV):kupd (fun s=>if s∈l then some y else none) x y=fun s=>if s∈l++[x] then some y else none:=by
 funext s
 by_cases h:s=x
 ·subst h; rw [Za0]; simp
 ·rw [ZdS _ _ h];simp [h]
theorem Zkv {H0 H:AH} {g:List Pd} {l:List Tk} {n i:Nat} {p:Par} {by_:ByteArray→List Int} {C:Ch} {x:St} {K:VE→AH→Prop} (hn:n≤1099511627776) (hi:i≤n) (hx:stOk x) (hsl:(C.sets i).st.length≤1099511627776) (h:RSat H0 H g l n p by_ C)
 (hK:∀ H',RSat H0 H' g l n p by_ (C.add i x)→K (.ret (.tuple [])) H'):ZO Try.prog 78 [ptrV p.rc 0,iV i,stV x] H K:=by
 obtain ⟨rc,rs,rd,rk,rb,th,wm,vw,vd,vb⟩:=p;obtain ⟨vs,B,h⟩:=h;dsimp only at h ⊢;refine Zy fd78 (by simp) ?_;delta c78 Zj Za Zq Zr Zd Zb Zk Zc Zl Zg;have qc:=h.ob.at_ _ _ _ h.chart;have qs:=h.ob.at_ _ _ _ h.sets;have qt:=h.ob.at_ _ _ _ (h.th i hi);have d0:=Za4 vs th wm hi;have d1:=ZjZ vs th wm hi;have hin:(i:Int)<((n+1:Nat):Int):=by omega
 have hlen:=Zb8 n vs th wm
 have hlk:∀ (H':AH) (K':VE→AH→Prop),H' (th i)=some (.map (ZW Try.prog 119) (kmap stK fun s=>if s∈(C.sets i).st then some (boolV true) else none))→K' (.ret (boolV (decide (x∈(C.sets i).st)))) H'→XP Try.prog 119 (mapV (th i)) (.agg [iV x.prod,iV x.dot,iV x.start]) false H' K':=fun H' K' hr hk=>by
  refine Za1 (kx:=stV) (a:=x) kmSt hx hr (fun y hy=>?_) (fun hy=>?_)
  ·by_cases hm:x∈(C.sets i).st
   ·rw [if_pos hm] at hy; cases hy; rw [decide_eq_true hm] at hk; exact hk
   ·rw [if_neg hm] at hy; cases hy
  ·by_cases hm:x∈(C.sets i).st
   ·rw [if_pos hm] at hy; cases hy
   ·rw [decide_eq_false hm] at hk; exact hk
 have hup:∀ (H':AH) (K':VE→AH→Prop),H' (th i)=some (.map (ZW Try.prog 119) (kmap stK fun s=>if s∈(C.sets i).st then some (boolV true) else none))→K' (.ret Zx) (H'.set (th i) (.map (ZW Try.prog 119) (kmap stK fun s=>if s∈(C.sets i).st++[x] then some (boolV true) else none)))→XY Try.prog 119 (mapV (th i)) (.agg [iV x.prod,iV x.dot,iV x.start]) (boolV true) H' K':=fun H' K' hr hk=>by
  refine Zef (kx:=stV) (a:=x) kmSt hx hr ?_;rw [kupd_ite]; exact hk
 have dts:=h.ob.apart (h.th i hi) h.sets (by simp);have dtc:=h.ob.apart (h.th i hi) h.chart (by simp);have dts':¬ rs=th i:=fun e=>dts e.symm
 have dtc':¬ rc=th i:=fun e=>dtc e.symm
 replace h:=Hold.mk h;replace hK:=Hold.mk hK;by_cases hm:x∈(C.sets i).st
 ·rw [decide_eq_true hm] at hlk;have hC:C.add i x=C:=by unfold Ch.add; rw [if_pos hm]
  rw [hC] at hK
  (repeat' (first | (refine hlk _ _ ?_ ?_) | (simp only [↓Yt,↓Ya,↓Ye,↓ZZ,↓Yv,↓XF,↓ZY,↓ZF,↓ZD,↓ZG,↓ZH,↓ZJ,↓ZI,↓Zv,↓ZR,↓ZE,↓ZS,↓Yh,↓s_un,↓Wx,↓ZA,↓ZN,↓Wn,↓Yj,vcNil,ptrV,boolV,Zmq,Zmr,Zms,ite_true,ite_false,Zl9,Zma,ne_eq,not_false_eq_true,true_and,Zme,ZmK,reduceCtorEq,ZmL,Zmw,Zx,↓Xc,↓Xg,AH.get,eq_self,Zmh,Zmb,and_self,Yq,Wt,YB,↓Wz,Yn,YK,Zfk,Zcz,Yo,Yp,YG,↓Wy,undef,Jq,Zd6,ZaN,ZkF,Wo,ZaO, *]) | (refine Yf mixed (fun _ _ _ _ e h=>⟨e.trans h.1,h.2⟩) _ (SubH.refl _) ?_) | (refine Zw fun zr zh=>?_; have zg:=zh; (try simp only [AH.set_none] at zg); (try have zn_qc:=AH.ne_of qc zh); (try have zn_qc:=AH.ne_of qc zg.2); (try have zn_qc:=AH.ne_of qc zg.2.2); (try have zn_qc:=AH.ne_of qc zg.2.2.2); (try have zn_qc:=AH.ne_of qc zg.2.2.2.2); (try have zn_qs:=AH.ne_of qs zh); (try have zn_qs:=AH.ne_of qs zg.2); (try have zn_qs:=AH.ne_of qs zg.2.2); (try have zn_qs:=AH.ne_of qs zg.2.2.2); (try have zn_qs:=AH.ne_of qs zg.2.2.2.2); (try have zn_qt:=AH.ne_of qt zh); (try have zn_qt:=AH.ne_of qt zg.2); (try have zn_qt:=AH.ne_of qt zg.2.2); (try have zn_qt:=AH.ne_of qt zg.2.2.2); (try have zn_qt:=AH.ne_of qt zg.2.2.2.2))))
  exact ⟨rfl,_,_,_,rfl,.refl _ _,hK.out _ ⟨_,_,{ h.out with ob:=h.out.ob.skip zh _ }⟩⟩
 ·rw [decide_eq_false hm] at hlk;have hC:C.add i x={ C with sets:=upS C.sets i { C.sets i with st:=(C.sets i).st++[x] } }:=by unfold Ch.add; rw [if_neg hm]
  rw [hC] at hK
  (repeat' (first | (refine hlk _ _ ?_ ?_) | (refine hup _ _ ?_ ?_) | (simp only [↓Ya,↓Ye,↓ZZ,↓Yb,↓XF,↓ZY,↓ZF,↓ZD,↓ZG,↓ZH,↓YX,↓ZJ,↓YY,↓ZI,↓ZP,↓Zv,↓ZR,↓ZE,↓ZS,↓Yh,↓s_un,↓Wx,↓YC,↓ZA,↓ZN,↓Wn,↓WO,↓ZX,↓WX,↓Yj,vcNil,ptrV,boolV,Zmd,Zmg,Zmi,Zml,Zmq,Zmr,Zms,ZmF,ite_true,ite_false,Zl9,Zma,Zmj,Zm8,Zmu,ne_eq,not_false_eq_true,true_and,Zme,ZmG,reduceCtorEq,ZmL,Zmw,Zx,↓Xc,↓Xg,AH.get,fillV,setAt,eq_self,Zmh,Zmo,Zmb,and_self,Yq,Wt,YB,Zmn,Zmy,↓Wz,Zmc,Yn,YK,Zfk,Zcz,Yo,Yp,YG,↓Wy,↓s_plCutN,undef,ZB,ZmP,ZmZ,ZmT,ZmX,Jq,Zd6,WI,ZaN,ZkF,Wo,Zau,Wr,ZaO,XL, *]) | (refine Yf mixed (fun _ _ _ _ e h=>⟨e.trans h.1,h.2⟩) _ (SubH.refl _) ?_) | (refine Zw fun zr zh=>?_; have zg:=zh; (try simp only [AH.set_none] at zg); (try have zn_qc:=AH.ne_of qc zh); (try have zn_qc:=AH.ne_of qc zg.2); (try have zn_qc:=AH.ne_of qc zg.2.2); (try have zn_qc:=AH.ne_of qc zg.2.2.2); (try have zn_qc:=AH.ne_of qc zg.2.2.2.2); (try have zn_qs:=AH.ne_of qs zh); (try have zn_qs:=AH.ne_of qs zg.2); (try have zn_qs:=AH.ne_of qs zg.2.2); (try have zn_qs:=AH.ne_of qs zg.2.2.2); (try have zn_qs:=AH.ne_of qs zg.2.2.2.2); (try have zn_qt:=AH.ne_of qt zh); (try have zn_qt:=AH.ne_of qt zg.2); (try have zn_qt:=AH.ne_of qt zg.2.2); (try have zn_qt:=AH.ne_of qt zg.2.2.2); (try have zn_qt:=AH.ne_of qt zg.2.2.2.2))))
  have ho1:=(h.out.ob.skip zh (.cells 129 (stE x) 0)).set (h.out.th i hi) (.map (ZW Try.prog 119) (kmap stK fun s=>if s∈(C.sets i).st++[x] then some (boolV true) else none));refine SlO.append (l:=(C.sets i).st) (x:=x) (w:=3) (b:=24) (enc:=stE) (fun _=>rfl) XL Wr rfl (by omega) ((h.out.st i hi).of (OB.put_ne _ _ (by simp))) ho1 rfl (by omega) (by omega) (fun v' H' B' s1 s2 s3=>?_);have cs:B' .sets=some (rs,.cells 122 (setsC n vs th wm) 0):=by rw [s2 _ (by simp),OB.put_ne _ _ (by simp)]; exact h.out.sets
  have ws:=s3.at_ _ _ _ cs;have hss:=sets_set vs th wm v' hi;obtain ⟨e1,e2⟩:=s1.cells
  have hfin:RSat H0 (H'.set rs (.cells 122 (setsC n (upV vs i v') th wm) 0)) g l n ⟨rc,rs,rd,rk,rb,th,wm,vw,vd,vb⟩ by_ { C with sets:=upS C.sets i { C.sets i with st:=(C.sets i).st++[x] } }:=by
   have hne:∀ k,¬ k=.sets→¬ k=.st i→¬ k=.th i→(B'.put .sets (some (rs,.cells 122 (setsC n (upV vs i v') th wm) 0))) k=B k:=fun k k1 k2 k3=>by
    rw [OB.put_ne _ _ k1,s2 _ k2,OB.put_ne _ _ k3]
   have hse:∀ j,¬ j=i→upS C.sets i { C.sets i with st:=(C.sets i).st++[x] } j=C.sets j:=fun j hj=>if_neg hj
   have hsi:upS C.sets i { C.sets i with st:=(C.sets i).st++[x] } i={ C.sets i with st:=(C.sets i).st++[x] }:=if_pos rfl;refine ⟨upV vs i v',_,⟨s3.set cs _,?_,OB.put_same _ _ _,fun j hj=>?_,fun j hj=>?_,?_,?_,?_,fun j hj=>?_,fun j hj s=>?_,fun s=>?_,fun s=>?_,fun j hj s hw=>?_,fun s hd=>?_⟩⟩
   ·rw [hne _ (by simp) (by simp) (by simp)]; exact h.out.chart
   ·by_cases e:j=i
    ·subst e;rw [OB.put_ne _ _ (by simp),s2 _ (by simp),OB.put_same];show _=some (th j,Blk.map _ (kmap stK fun s=>if s∈(upS C.sets j { C.sets j with st:=(C.sets j).st++[x] } j).st then some (boolV true) else none));rw [hsi]
    ·rw [hne _ (by simp) (by simp) (by simp [e])];show _=some (th j,Blk.map _ (kmap stK fun s=>if s∈(upS C.sets i { C.sets i with st:=(C.sets i).st++[x] } j).st then some (boolV true) else none));rw [hse j e]; exact h.out.th j hj
   ·rw [hne _ (by simp) (by simp) (by simp)]
    have:(upS C.sets i { C.sets i with st:=(C.sets i).st++[x] } j).wt=(C.sets j).wt:=by
     by_cases e:j=i
     ·subst e; rw [hsi]
     ·rw [hse j e]
    show _=some (wm j,Blk.map _ (smap fun s=>if (upS C.sets i { C.sets i with st:=(C.sets i).st++[x] } j).wt s=[] then none else some (vw j s)));rw [this]; exact h.out.wm j hj
   ·rw [hne _ (by simp) (by simp) (by simp)]; exact h.out.dm
   ·rw [hne _ (by simp) (by simp) (by simp)]; exact h.out.km
   ·rw [hne _ (by simp) (by simp) (by simp)]; exact h.out.bm
   ·by_cases e:j=i
    ·subst e;show SlO _ _ _ _ _ (upV vs j v' j) (upS C.sets j { C.sets j with st:=(C.sets j).st++[x] } j).st;rw [hsi,show upV vs j v' j=v' from if_pos rfl];exact s1.of (OB.put_ne _ _ (by simp))
    ·show SlO _ _ _ _ _ (upV vs i v' j) (upS C.sets i { C.sets i with st:=(C.sets i).st++[x] } j).st;rw [hse j e,show upV vs i v' j=vs j from if_neg e];exact (h.out.st j hj).of (hne _ (by simp) (by simp [e]) (by simp))
   ·have:(upS C.sets i { C.sets i with st:=(C.sets i).st++[x] } j).wt=(C.sets j).wt:=by
     by_cases e:j=i
     ·subst e; rw [hsi]
     ·rw [hse j e]
    show SlO _ _ _ _ _ (vw j s) ((upS C.sets i { C.sets i with st:=(C.sets i).st++[x] } j).wt s);rw [this];exact (h.out.wt j hj s).of (hne _ (by simp) (by simp) (by simp))
   ·exact (h.out.ds s).of (hne _ (by simp) (by simp) (by simp))
   ·exact (h.out.bs s).of (hne _ (by simp) (by simp) (by simp))
   ·rw [hne _ (by simp) (by simp) (by simp)];refine h.out.wn j hj s ?_;have hw:(upS C.sets i { C.sets i with st:=(C.sets i).st++[x] } j).wt s=[]:=hw;by_cases e:j=i
    ·subst e; rw [hsi] at hw; exact hw
    ·rw [hse j e] at hw; exact hw
   ·rw [hne _ (by simp) (by simp) (by simp)];exact h.out.dn s hd
  have hk2:=hK.out _ hfin;replace h:=Hold.mk h;clear hfin hK ho1 s1 s2 s3 cs qt qs qc hlk hup zn_qc zn_qs zn_qt;have hl3:i * 3+1≤(setsC n vs th wm).length:=by omega
  (repeat' (first | (simp only [↓Zt,Zu,vcNil,Zl9,Zma,setAt,↓s_cutK,WI,szT_118, *]) | (with_reducible refine And.intro ?_ ?_)))
  ·omega
  ·exact ⟨rfl,_,_,_,rfl,.refl _ _,hk2⟩
def zIt:It:=⟨0,noNm,0⟩
def itemF (g:List Pd) (x:St):It × Bool:=match (pdAt g x.prod).items[x.dot]? with | some i=>(i,true) | none=>(zIt,false)
abbrev itbV (r:It × Bool):VV:=.tuple [itV r.1,boolV r.2]
theorem Zik {H0 H:AH} {t:Nat→VV} {r sp:Nat} {b:Bool} {i:It} {e':TypeId} (h4:t 4=ptrV r 0) (h5:t 5=boolV b) (k4:H r=some (.cells e' [iV i.kind,sV i.text,iV i.prio] sp)) (hs:SubH H0 H):Jd Try.prog [.cell 4 64,.tmp 5] (fun e H'=>e=.ret (itbV (i,b))∧SubH H0 H') .ret ⟨t,[]⟩ H :=
 Ziv rfl (x:=.tuple [.agg [iV i.kind,sV i.text,iV i.prio],boolV b]) (by simp only [resV,Zal,Zak,JD,h4,h5,k4,ptrV,Zm4,Wt,Option.bind_some,Zm1,tupV]) ⟨rfl,hs⟩
theorem ZkV {g:List Pd} {cv:VV} {cs:List VV} {sp r:Nat} {e:TypeId} {x:St} {H:AH} (hg:g.length≤1099511627776) (hc:cv=.iptr (pdsV g::cs)∨(cv=ptrV r 0∧H r=some (.cells e (pdsV g::cs) sp))) (hp:x.prod<g.length) (hd:x.dot≤g[x.prod].items.length) (hil:g[x.prod].items.length≤1099511627776) :
 ReadF Try.prog 59 [cv,stV x] (itbV (itemF g x)) H:=by
 have hdi:=WG hp;have hpl:(x.prod:Int)<(g.length:Int):=by omega
 have hpa:pdAt g x.prod=g[x.prod]:=Xa hp;unfold itemF;rw [hpa];refine Zy fd59 (by simp) ?_;delta c59 Zj Zi Zq Za Zr Zd Zb Zk Zc Ze Zn Zg;generalize g[x.prod]=p at *
 by_cases hlt:x.dot<p.items.length
 ·have hxi:p.items[x.dot]?=some p.items[x.dot]:=ZmW hlt;rw [hxi];have hti:=ZbB hlt;have hne:¬ (x.dot:Int)=(p.items.length:Int):=by omega
  have hlt':(x.dot:Int)<(p.items.length:Int):=by omega
  rcases hc with rfl | ⟨rfl,hr⟩
  ·(repeat' (first | (simp only [↓Zt,Zu,vcNil,ptrV,intV,Zl9,Zma,Zmj,reduceCtorEq,Zx,setAt,Zmb,undef,YU,Jr,Xh,Zan,Xz,Yd,Wi,JD,WU,Xp,Xb,Xu, *]) | (refine Yf mixed (fun _ _ _ _ e h=>⟨e.trans h.1,h.2⟩) _ (SubH.refl _) ?_) | (refine Zw fun zr zh=>?_; have zg:=zh; (try simp only [AH.set_none] at zg))))
   exact Zik (by simp only [Zv,Zl9,if_true,if_false, *]<;>rfl) (by simp only [Zv,Zl9,if_true,if_false, *]<;>rfl) (AH.set_same _ _ _) (by first | exact (SubH.new (by assumption)).of_set zg.2 | (rw [AH.set_set]; exact (SubH.new (by assumption)).of_set zg.2))
  ·(repeat' (first | (simp only [↓Zt,Zu,vcNil,ptrV,intV,Zl9,Zma,Zmj,reduceCtorEq,Zx,setAt,Zmb,undef,YU,Jr,Xh,Zan,Xz,Yd,Wi,JD,WU,Xp,Xb,Xu, *]) | (refine Yf mixed (fun _ _ _ _ e h=>⟨e.trans h.1,h.2⟩) _ (SubH.refl _) ?_) | (refine Zw fun zr zh=>?_; have zg:=zh; (try simp only [AH.set_none] at zg); (try have zn_hr:=AH.ne_of hr zh); (try have zn_hr:=AH.ne_of hr zg.2); (try have zn_hr:=AH.ne_of hr zg.2.2); (try have zn_hr:=AH.ne_of hr zg.2.2.2); (try have zn_hr:=AH.ne_of hr zg.2.2.2.2))))
   exact Zik (by simp only [Zv,Zl9,if_true,if_false, *]<;>rfl) (by simp only [Zv,Zl9,if_true,if_false, *]<;>rfl) (AH.set_same _ _ _) (by first | exact (SubH.new (by assumption)).of_set zg.2 | (rw [AH.set_set]; exact (SubH.new (by assumption)).of_set zg.2))
 ·have hxi:p.items[x.dot]?=none:=ZmS (by omega);rw [hxi];have hne:(x.dot:Int)=(p.items.length:Int):=by omega
  rcases hc with rfl | ⟨rfl,hr⟩
  ·(repeat' (first | (simp only [↓Zt,Zu,vcNil,ptrV,intV,Zl9,Zma,Zmj,reduceCtorEq,Zx,ZT,fillV,setAt,Zmb,undef,ZT,YU,Jr,Xh,Zan,Xz,Yd,Wi,WU,Zkf,Xp,Xb,Xu, *]) | (refine Yf mixed (fun _ _ _ _ e h=>⟨e.trans h.1,h.2⟩) _ (SubH.refl _) ?_) | (refine Zw fun zr zh=>?_; have zg:=zh; (try simp only [AH.set_none] at zg))))
   exact Zik (by simp only [Zv,Zl9,if_true,if_false, *]<;>rfl) (by simp only [Zv,Zl9,if_true,if_false, *]<;>rfl) (AH.set_same _ _ _) (by first | exact (SubH.new (by assumption)).of_set zg.2 | (rw [AH.set_set]; exact (SubH.new (by assumption)).of_set zg.2))
  ·(repeat' (first | (simp only [↓Zt,Zu,vcNil,ptrV,intV,Zl9,Zma,Zmj,reduceCtorEq,Zx,ZT,fillV,setAt,Zmb,undef,ZT,YU,Jr,Xh,Zan,Xz,Yd,Wi,WU,Zkf,Xp,Xb,Xu, *]) | (refine Yf mixed (fun _ _ _ _ e h=>⟨e.trans h.1,h.2⟩) _ (SubH.refl _) ?_) | (refine Zw fun zr zh=>?_; have zg:=zh; (try simp only [AH.set_none] at zg); (try have zn_hr:=AH.ne_of hr zh); (try have zn_hr:=AH.ne_of hr zg.2); (try have zn_hr:=AH.ne_of hr zg.2.2); (try have zn_hr:=AH.ne_of hr zg.2.2.2); (try have zn_hr:=AH.ne_of hr zg.2.2.2.2))))
   exact Zik (by simp only [Zv,Zl9,if_true,if_false, *]<;>rfl) (by simp only [Zv,Zl9,if_true,if_false, *]<;>rfl) (AH.set_same _ _ _) (by first | exact (SubH.new (by assumption)).of_set zg.2 | (rw [AH.set_set]; exact (SubH.new (by assumption)).of_set zg.2))
end Go.PV.Ytfkkmdelpddojaa
end
