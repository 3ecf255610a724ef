/- Part 1 of 10 of what the proof of Prio needs. -/
import Derived.OrdersIn
import Derived.RangeFuncIn
import Derived.DefersIn
import Derived.RecoverIn
import Derived.Deep.LoopGhost
import Derived.Tactics
import Derived.Laws.Cells
import Derived.Laws.CopyRow
import Derived.Laws.MakeOwn
import Derived.Maps.AppendAt
import Derived.Laws.Tables
import Derived.Laws.StructEq
import Derived.Laws.Small
import Derived.Laws.Cover3
import Derived.Laws.Pointers
import Derived.WideLaws
import Derived.Maps.Keyed
import Derived.Laws.IdiomCopy
import Derived.Lib.ConvBytes
import Derived.Laws.AppendOwn
import Derived.Laws.OwnMore
import Derived.DeepKeys4
import Derived.ArgAppend
import Derived.Lib.AppendZeros
import Derived.Maps.RangeRun
set_option linter.unusedVariables false
set_option linter.unusedSimpArgs false
set_option linter.defProp false
section
open Bool renaming false_eq_true→Zmv
open List renaming replicate→ZmH,replicate_succ→ZmP,drop_eq_nil_of_le→Znb,drop_eq_getElem_cons→ZmY,length_cons→Zmi
open Nat renaming lt_or_ge→ZmI
namespace Go.PV
inductive VV where
 | lit (v:Value)
 | slice (ex:Bool) (n:Nat) (cs:List VV)
 | iptr (cs:List VV)
 | agg (cs:List VV)
 | tuple (cs:List VV)
 | func (fn:Fn) (first captured:List VV)
 | iface (t:TypeId) (x:VV)
def Zx:VV:=.lit undef
instance:Inhabited VV:=⟨Zx⟩
def VV.cells:VV→List VV
 | .lit v=>v.cells.toList.map .lit
 | .agg cs=>cs
 | x=>[x]
mutual
def Rv (S:Nat→Prop) (w:World):VV→Value→Prop
 | .lit v,u=>u=v
 | .slice ex n cs,u=>∃ (a:Option Addr) (cap:Nat),u=.slice a n cap∧(n≤cap∧(ex=true→cap=n))∧(0<n→∃ r o,a=some ⟨r,o,none⟩∧S r∧RvC S w cs r o)
 | .iptr cs,u=>∃ r o,u=.pointer (some ⟨r,o,none⟩)∧S r∧RvC S w cs r o
 | .agg cs,u=>∃ vs:Array Value,u=.agg vs∧RvL S w cs vs.toList
 | .tuple cs,u=>∃ vs:Array Value,u=.tuple vs∧RvL S w cs vs.toList
 | .func fn first cap,u=>∃ f c:Array Value,u=.func fn f c∧RvL S w first f.toList∧RvL S w cap c.toList
 | .iface t x,u=>∃ v,u=.iface t v∧Rv S w x v
def RvL (S:Nat→Prop) (w:World):List VV→List Value→Prop
 | [],us=>us=[]
 | x::xs,us=>∃ u us',us=u::us'∧Rv S w x u∧RvL S w xs us'
def RvC (S:Nat→Prop) (w:World):List VV→Nat→Nat→Prop
 | [],_,_=>True
 | x::xs,r,o=>(∃ u,w.cell? ⟨r,o,none⟩=some u∧Rv S w x u)∧RvC S w xs r (o+1)
end
section
variable {S S':Nat→Prop} {w w':World}
theorem Zhh {r o:Nat} (h:w'.heap[r]?=w.heap[r]?):w'.cell? ⟨r,o,none⟩=w.cell? ⟨r,o,none⟩:=by
 simp only [World.cell?,h]
mutual
theorem Rv.mono (h:∀ r,S r→S' r∧w'.heap[r]?=w.heap[r]?):∀ (x:VV) (u:Value),Rv S w x u→Rv S' w' x u
 | .lit v,u,hu=>hu
 | .slice ex n cs,u,⟨a,cap,e,hx,hc⟩=>⟨a,cap,e,hx,fun hn=>by
    obtain ⟨r,o,e,hs,hr⟩:=hc hn;exact ⟨r,o,e,(h r hs).1,RvC.mono h cs r o hs hr⟩⟩
 | .iptr cs,u,⟨r,o,e,hs,hr⟩=>⟨r,o,e,(h r hs).1,RvC.mono h cs r o hs hr⟩
 | .agg cs,u,⟨vs,e,hl⟩=>⟨vs,e,RvL.mono h cs _ hl⟩
 | .tuple cs,u,⟨vs,e,hl⟩=>⟨vs,e,RvL.mono h cs _ hl⟩
 | .func fn first cap,u,⟨f,c,e,h1,h2⟩=>⟨f,c,e,RvL.mono h first _ h1,RvL.mono h cap _ h2⟩
 | .iface t x,u,⟨v,e,hv⟩=>⟨v,e,Rv.mono h x v hv⟩
theorem RvL.mono (h:∀ r,S r→S' r∧w'.heap[r]?=w.heap[r]?):∀ (xs:List VV) (us:List Value),RvL S w xs us→RvL S' w' xs us
 | [],us,hu=>hu
 | x::xs,us,⟨u,us',e,h1,h2⟩=>⟨u,us',e,Rv.mono h x u h1,RvL.mono h xs us' h2⟩
theorem RvC.mono (h:∀ r,S r→S' r∧w'.heap[r]?=w.heap[r]?):∀ (xs:List VV) (r o:Nat),S r→RvC S w xs r o→RvC S' w' xs r o
 | [],_,_,_,_=>trivial
 | x::xs,r,o,hs,⟨⟨u,hu,hx⟩,h2⟩=>⟨⟨u,(Zhh (h r hs).2).trans hu,Rv.mono h x u hx⟩,RvC.mono h xs r (o+1) hs h2⟩
end
theorem RvL.length {xs:List VV}:∀ {us:List Value},RvL S w xs us→us.length=xs.length:=by
 induction xs with
 | nil=>intro us h; simp [RvL] at h; simp [h]
 | cons x xs ih =>
   intro us h;obtain ⟨u,us',rfl,_,h2⟩:=h;simp [ih h2]
theorem RvL.get {xs:List VV}:∀ {us:List Value} (i:Nat),RvL S w xs us→Rv S w (xs.getD i Zx) (us.getD i undef):=by
 induction xs with
 | nil=>intro us i h; simp [RvL] at h; subst h; simp [Zx,Rv]
 | cons x xs ih =>
   intro us i h;obtain ⟨u,us',rfl,h1,h2⟩:=h;cases i with
   | zero=>simpa using h1
   | succ i=>simpa using ih i h2
theorem RvL.get? {xs:List VV}:∀ {us:List Value} (i:Nat) (x:VV),RvL S w xs us→xs[i]?=some x→∃ u,us[i]?=some u∧Rv S w x u:=by
 induction xs with
 | nil=>intro us i x h hx; simp at hx
 | cons y ys ih =>
   intro us i x h hx;obtain ⟨u,us',rfl,h1,h2⟩:=h;cases i with
   | zero=>simp at hx; subst hx; exact ⟨u,by simp,h1⟩
   | succ i=>simpa using ih i x h2 (by simpa using hx)
theorem RvL.append {xs ys:List VV}:∀ {us vs:List Value},RvL S w xs us→RvL S w ys vs→RvL S w (xs++ys) (us++vs):=by
 induction xs with
 | nil=>intro us vs h1 h2; simp [RvL] at h1; subst h1; simpa using h2
 | cons x xs ih =>
   intro us vs h1 h2;obtain ⟨u,us',rfl,h3,h4⟩:=h1;exact ⟨u,us'++vs,rfl,h3,ih h4 h2⟩
theorem RvL.take {xs:List VV}:∀ {us:List Value} (n:Nat),RvL S w xs us→RvL S w (xs.take n) (us.take n):=by
 induction xs with
 | nil=>intro us n h; simp [RvL] at h; subst h; simp [RvL]
 | cons x xs ih =>
   intro us n h;obtain ⟨u,us',rfl,h3,h4⟩:=h;cases n with
   | zero=>simp [RvL]
   | succ n=>exact ⟨u,us'.take n,by simp,h3,ih n h4⟩
theorem RvL.drop {xs:List VV}:∀ {us:List Value} (n:Nat),RvL S w xs us→RvL S w (xs.drop n) (us.drop n):=by
 induction xs with
 | nil=>intro us n h; simp [RvL] at h; subst h; simp [RvL]
 | cons x xs ih =>
   intro us n h;obtain ⟨u,us',rfl,h3,h4⟩:=h;cases n with
   | zero=>exact ⟨u,us',rfl,h3,h4⟩
   | succ n=>simpa using ih n h4
theorem RvL.set {xs:List VV}:∀ {us:List Value} (n:Nat) (x:VV) (u:Value),RvL S w xs us→Rv S w x u→RvL S w (xs.set n x) (us.set n u):=by
 induction xs with
 | nil=>intro us n x u h _; simp [RvL] at h; subst h; simp [RvL]
 | cons y ys ih =>
   intro us n x u h hx;obtain ⟨u',us',rfl,h3,h4⟩:=h;cases n with
   | zero=>exact ⟨u,us',rfl,hx,h4⟩
   | succ n=>exact ⟨u',us'.set n u,by simp,h3,ih n x u h4 hx⟩
theorem RvL.lits (us:List Value):RvL S w (us.map .lit) us:=by
 induction us with
 | nil=>simp [RvL]
 | cons u us ih=>exact ⟨u,us,rfl,by simp [Rv],ih⟩
theorem RvL.replicate (n:Nat) {x:VV} {u:Value} (h:Rv S w x u):RvL S w (ZmH n x) (ZmH n u):=by
 induction n with
 | zero=>simp [RvL]
 | succ n ih=>exact ⟨u,ZmH n u,by simp [ZmP],h,ih⟩
theorem Rv.cells {x:VV} {u:Value} (h:Rv S w x u):RvL S w x.cells u.cells.toList:=by
 cases x with
 | lit v=>simp [Rv] at h; subst h; exact RvL.lits _
 | agg cs=>obtain ⟨vs,rfl,hl⟩:=h; simpa [VV.cells,Value.cells] using hl
 | slice ex n cs=>obtain ⟨a,cap,rfl,hc⟩:=h; exact ⟨_,[],by simp [Value.cells],⟨a,cap,rfl,hc⟩,by simp [RvL]⟩
 | iptr cs=>obtain ⟨r,o,rfl,hc⟩:=h; exact ⟨_,[],by simp [Value.cells],⟨r,o,rfl,hc⟩,by simp [RvL]⟩
 | tuple cs=>obtain ⟨vs,rfl,hc⟩:=h; exact ⟨_,[],by simp [Value.cells],⟨vs,rfl,hc⟩,by simp [RvL]⟩
 | func fn f c=>obtain ⟨f',c',rfl,hc⟩:=h; exact ⟨_,[],by simp [Value.cells],⟨f',c',rfl,hc⟩,by simp [RvL]⟩
 | iface t y=>obtain ⟨v,rfl,hc⟩:=h; exact ⟨_,[],by simp [Value.cells],⟨v,rfl,hc⟩,by simp [RvL]⟩
theorem RvC.get {xs:List VV}:∀ {r o:Nat} (i:Nat) (x:VV),RvC S w xs r o→xs[i]?=some x→∃ u,w.cell? ⟨r,o+i,none⟩=some u∧Rv S w x u:=by
 induction xs with
 | nil=>intro r o i x h hx; simp at hx
 | cons y ys ih =>
   intro r o i x h hx;obtain ⟨⟨u,hu,hy⟩,h2⟩:=h;cases i with
   | zero=>simp at hx; subst hx; exact ⟨u,hu,hy⟩
   | succ i =>
     obtain ⟨u,h3,h4⟩:=ih i x h2 (by simpa using hx);exact ⟨u,by rw [show o+(i+1)=o+1+i from by omega]; exact h3,h4⟩
theorem RvC.drop {xs:List VV}:∀ {r o:Nat} (n:Nat),RvC S w xs r o→RvC S w (xs.drop n) r (o+n):=by
 induction xs with
 | nil=>intro r o n h; simp [RvC]
 | cons y ys ih =>
   intro r o n h;cases n with
   | zero=>exact h
   | succ n=>simpa [show o+(n+1)=o+1+n from by omega] using ih n h.2
theorem RvC.take {xs:List VV}:∀ {r o:Nat} (n:Nat),RvC S w xs r o→RvC S w (xs.take n) r o:=by
 induction xs with
 | nil=>intro r o n h; simp [RvC]
 | cons y ys ih =>
   intro r o n h;cases n with
   | zero=>simp [RvC]
   | succ n=>exact ⟨h.1,ih n h.2⟩
theorem RvC.of_block {r:Nat} {vs:Array Value} {t:TypeId} {fr:Nat × Nat} (hb:w.heap[r]?=some (.cells vs t fr)) {cs:List VV} :
 ∀ {o:Nat},RvL S w cs (vs.toList.drop o |>.take cs.length)→RvC S w cs r o:=by
 induction cs with
 | nil=>intro o _; simp [RvC]
 | cons c cs ih =>
   intro o h;obtain ⟨u,us',e,h1,h2⟩:=h
   have hlt:o<vs.toList.length:=by
    rcases ZmI o vs.toList.length with hlt | hge
    ·exact hlt
    ·rw [Znb hge] at e; simp at e
   rw [ZmY hlt] at e;simp only [Zmi,List.take_succ_cons,List.cons.injEq] at e;refine ⟨⟨u,?_,h1⟩,ih (o:=o+1) (by rw [← e.2] at h2; exact h2)⟩;simp only [World.cell?,hb,Option.isSome_none,Zmv,if_false];rw [← e.1];simp [Array.getElem?_eq_getElem (show o<vs.size from by simpa using hlt)]
end
end Go.PV
end
section
open Nat renaming le_refl→Zmc,lt_or_ge→ZmI
namespace Go.PV
inductive Blk where
 | cells (elem:TypeId) (cs:List VV) (spare:Nat)
 | map (ks:Value→Prop) (m:Value→Option VV)
 | loop (st:LoopState) (pending:Option Code) (fn:FuncId) (n:Nat) (t:Nat→VV) (params:Array Tmp) (assign body:Code) (defers:Nat)
 | obj (o:Obj)
abbrev AH:=Nat→Option Blk
def AH.set (H:AH) (r:Nat) (b:Blk):AH:=fun i=>if i=r then some b else H i
def AH.del (H:AH) (r:Nat):AH:=fun i=>if i=r then none else H i
def AH.nil:AH:=fun _=>none
theorem AH.set_same (H:AH) (r:Nat) (b:Blk):H.set r b r=some b:=by simp [AH.set]
theorem AH.set_ne (H:AH) {r i:Nat} (b:Blk) (h:i ≠ r):H.set r b i=H i:=by simp [AH.set,h]
theorem AH.del_same (H:AH) (r:Nat):H.del r r=none:=by simp [AH.del]
theorem AH.del_ne (H:AH) {r i:Nat} (h:i ≠ r):H.del r i=H i:=by simp [AH.del,h]
theorem AH.set_set (H:AH) (r:Nat) (b c:Blk):(H.set r b).set r c=H.set r c:=by funext i; simp only [AH.set]; split<;>rfl
theorem AH.del_set (H:AH) (r:Nat) (b:Blk) (h:H r=none):(H.set r b).del r=H:=by
 funext i; simp only [AH.set,AH.del]; split
 ·rename_i e; rw [e,h]
 ·rfl
theorem AH.set_comm (H:AH) {r i:Nat} (b c:Blk) (h:i ≠ r):(H.set r b).set i c=(H.set i c).set r b:=by
 funext j; simp only [AH.set]; split<;>split<;>simp_all
def RvT (S:Nat→Prop) (w:World) (t:Nat→VV) (ts:Array Value):Prop:=∀ i,Rv S w (t i) (ts.getD i undef)
def RvB (S:Nat→Prop) (w:World) (r:Nat):Blk→Prop
 | .cells elem cs sp=>∃ vs:Array Value,w.heap[r]?=some (.cells vs elem (0,0))∧vs.size=cs.length+sp∧RvL S w cs (vs.toList.take cs.length)
 | .map ks m=>∃ (arr:Array MapEntry) (clock:Nat),w.heap[r]?=some (.map arr clock)∧(∀ e∈arr.toList,ks e.key)∧arr.toList.Pairwise (fun a b=>a.key ≠ b.key) ∧
    (∀ e∈arr.toList,∃ x,m e.key=some x∧Rv S w x e.val)∧(∀ k x,m k=some x→∃ e∈arr.toList,e.key=k) ∧
    ((arr.toList.map (·.born)).Nodup∧∀ e∈arr.toList,e.born<clock)
 | .loop st pe fn n t ps asg bd ds=>∃ ts:Array Value,w.heap[r]?=some (.loop { state:=st,pending:=pe,fn,tmps:=ts,params:=ps,assign:=asg,body:=bd,defers:=ds })∧ts.size=n∧RvT S w t ts
 | .obj o=>w.heap[r]?=some o
structure Sim (S:Nat→Prop) (H:AH) (w:World):Prop where
 blk:∀ r b,H r=some b→RvB S w r b
 dis:∀ r b,H r=some b→¬ S r
 lt:∀ r,S r→r<w.heap.size
structure Step (S:Nat→Prop) (H:AH) (w:World) (S':Nat→Prop) (H':AH) (w':World):Prop where
 os:w'.os=w.os
 tape:w'.tape=w.tape
 output:w'.output=w.output
 size:w.heap.size≤w'.heap.size
 sub:∀ r,S r→S' r
 fr:∀ r,r<w.heap.size→H r=none→w'.heap[r]?=w.heap[r]?
 own:∀ r,H' r ≠ none→H r ≠ none∨w.heap.size≤r
 snew:∀ r,S' r→S r∨H r ≠ none∨w.heap.size≤r
section
variable {S S' S'':Nat→Prop} {H H' H'':AH} {w w' w'':World}
theorem Step.refl (S:Nat→Prop) (H:AH) (w:World):Step S H w S H w:=⟨rfl,rfl,rfl,Zmc _,fun _ h=>h,fun _ _ _=>rfl,fun _ h=>.inl h,fun _ h=>.inl h⟩
theorem Step.trans (h:Step S H w S' H' w') (k:Step S' H' w' S'' H'' w''):Step S H w S'' H'' w'' where
 os:=k.os.trans h.os
 tape:=k.tape.trans h.tape
 output:=k.output.trans h.output
 size:=Nat.le_trans h.size k.size
 sub r hr:=k.sub r (h.sub r hr)
 fr r hr hn:=by
  refine (k.fr r (Nat.lt_of_lt_of_le hr h.size) ?_).trans (h.fr r hr hn);cases e:H' r with
  | none=>rfl
  | some b =>
    rcases h.own r (by simp [e]) with h1 | h1
    ·exact absurd hn h1
    ·omega
 own r hr:=by
  rcases k.own r hr with h1 | h1
  ·exact h.own r h1
  ·have:=h.size; exact .inr (by omega)
 snew r hr:=by
  rcases k.snew r hr with h1 | h1 | h1
  ·exact h.snew r h1
  ·rcases h.own r h1 with h2 | h2
   ·exact .inr (.inl h2)
   ·exact .inr (.inr h2)
  ·have:=h.size; exact .inr (.inr (by omega))
theorem Sim.free (h:Sim S H w) {r:Nat} (hr:S r):H r=none:=by
 cases e:H r with
 | none=>rfl
 | some b=>exact absurd hr (h.dis r b e)
theorem Sim.keep (h:Sim S H w) (k:Step S H w S' H' w'):∀ r,S r→S' r∧w'.heap[r]?=w.heap[r]? :=
 fun r hr=>⟨k.sub r hr,k.fr r (h.lt r hr) (h.free hr)⟩
theorem Rv.step {x:VV} {u:Value} (hx:Rv S w x u) (h:Sim S H w) (k:Step S H w S' H' w'):Rv S' w' x u:=Rv.mono (h.keep k) x u hx
theorem RvL.step {x:List VV} {u:List Value} (hx:RvL S w x u) (h:Sim S H w) (k:Step S H w S' H' w'):RvL S' w' x u:=RvL.mono (h.keep k) x u hx
theorem RvT.step {t:Nat→VV} {ts:Array Value} (hx:RvT S w t ts) (h:Sim S H w) (k:Step S H w S' H' w'):RvT S' w' t ts:=fun i=>(hx i).step h k
theorem RvB.mono (h:∀ r,S r→S' r∧w'.heap[r]?=w.heap[r]?) {r:Nat} (hr:w'.heap[r]?=w.heap[r]?) {b:Blk} (hb:RvB S w r b):RvB S' w' r b:=by
 cases b with
 | cells elem cs sp=>obtain ⟨vs,h1,h2,h3⟩:=hb; exact ⟨vs,hr.trans h1,h2,RvL.mono h _ _ h3⟩
 | map ks m =>
   obtain ⟨arr,clock,h1,h2,h3,h4,h5⟩:=hb;exact ⟨arr,clock,hr.trans h1,h2,h3,fun e he=>by obtain ⟨x,g1,g2⟩:=h4 e he; exact ⟨x,g1,Rv.mono h x _ g2⟩,h5⟩
 | loop st pe fn n t ps asg bd ds=>obtain ⟨ts,h1,h2,h3⟩:=hb; exact ⟨ts,hr.trans h1,h2,fun i=>Rv.mono h _ _ (h3 i)⟩
 | obj o=>exact hr.trans hb
theorem Sim.lt_of (h:Sim S H w) {r:Nat} {b:Blk} (hb:H r=some b):r<w.heap.size:=by
 have:=h.blk r b hb
 have hh:w.heap[r]? ≠ none:=by
  cases b with
  | cells elem cs sp=>obtain ⟨vs,h1,_⟩:=this; simp [h1]
  | map ks m=>obtain ⟨vs,c,h1,_⟩:=this; simp [h1]
  | loop st pe fn n t ps asg bd ds=>obtain ⟨vs,h1,_⟩:=this; simp [h1]
  | obj o=>simp only [RvB] at this; simp [this]
 rcases ZmI r w.heap.size with h1 | h1
 ·exact h1
 ·exact absurd (Array.getElem?_eq_none h1) hh
theorem Sim.push (h:Sim S H w) {o:Obj} {b:Blk} (hb:RvB S { w with heap:=w.heap.push o } w.heap.size b) :
 Sim S (H.set w.heap.size b) { w with heap:=w.heap.push o }∧Step S H w S (H.set w.heap.size b) { w with heap:=w.heap.push o }∧H w.heap.size=none:=by
 have hn:H w.heap.size=none:=by
  cases e:H w.heap.size with
  | none=>rfl
  | some c=>exact absurd (h.lt_of e) (by omega)
 have hold:∀ r,r<w.heap.size→(w.heap.push o)[r]?=w.heap[r]?:=fun r hr=>by rw [Array.getElem?_push,if_neg (by omega)]
 refine ⟨⟨fun r c hc=>?_,fun r c hc hs=>?_,fun r hr=>?_⟩,⟨rfl,rfl,rfl,by simp,fun _ h=>h,fun r hr _=>hold r hr,fun r hr=>?_,fun _ h=>.inl h⟩,hn⟩
 ·simp only [AH.set] at hc;split at hc
  ·rename_i e; subst e; cases hc; exact hb
  ·exact (h.blk r c hc).mono (fun r hr=>⟨hr,hold r (h.lt r hr)⟩) (hold r (h.lt_of hc))
 ·simp only [AH.set] at hc;split at hc
  ·rename_i e; subst e; exact absurd (h.lt _ hs) (by omega)
  ·exact h.dis r c hc hs
 ·have:=h.lt r hr; simp; omega
 ·simp only [AH.set] at hr;split at hr
  ·rename_i e; exact .inr (by omega)
  ·exact .inl hr
theorem Sim.share (h:Sim S H w) (o:Obj) :
 Sim (fun r=>S r∨r=w.heap.size) H { w with heap:=w.heap.push o }∧Step S H w (fun r=>S r∨r=w.heap.size) H { w with heap:=w.heap.push o }:=by
 have hold:∀ r,r<w.heap.size→(w.heap.push o)[r]?=w.heap[r]?:=fun r hr=>by rw [Array.getElem?_push,if_neg (by omega)]
 refine ⟨⟨fun r c hc=>?_,fun r c hc hs=>?_,fun r hr=>?_⟩,⟨rfl,rfl,rfl,by simp,fun _ h=>.inl h,fun r hr _=>hold r hr,fun r hr=>.inl hr,fun r hr=>hr.elim .inl (fun e=>.inr (.inr (by omega)))⟩⟩
 ·exact (h.blk r c hc).mono (fun r hr=>⟨.inl hr,hold r (h.lt r hr)⟩) (hold r (h.lt_of hc))
 ·rcases hs with hs | hs
  ·exact h.dis r c hc hs
  ·have:=h.lt_of hc; omega
 ·rcases hr with hr | hr
  ·have:=h.lt r hr; simp; omega
  ·simp; omega
theorem Sim.write (h:Sim S H w) {r:Nat} {b c:Blk} {o:Obj} (hb:H r=some b) (hc:RvB S { w with heap:=w.heap.setIfInBounds r o } r c) :
 Sim S (H.set r c) { w with heap:=w.heap.setIfInBounds r o }∧Step S H w S (H.set r c) { w with heap:=w.heap.setIfInBounds r o }:=by
 have hold:∀ i,i ≠ r→(w.heap.setIfInBounds r o)[i]?=w.heap[i]?:=fun i hi=>by rw [Array.getElem?_setIfInBounds,if_neg (by omega)]
 have hS:∀ i,S i→i ≠ r:=fun i hi e=>by subst e; exact h.dis i b hb hi
 refine ⟨⟨fun i d hd=>?_,fun i d hd hs=>?_,fun i hi=>?_⟩,⟨rfl,rfl,rfl,by simp,fun _ h=>h,fun i hi hn=>hold i (fun e=>by subst e; rw [hb] at hn; cases hn),fun i hi=>?_,fun _ h=>.inl h⟩⟩
 ·simp only [AH.set] at hd;split at hd
  ·rename_i e; subst e; cases hd; exact hc
  ·rename_i e; exact (h.blk i d hd).mono (fun i hi=>⟨hi,hold i (hS i hi)⟩) (hold i e)
 ·simp only [AH.set] at hd;split at hd
  ·rename_i e; subst e; exact h.dis i b hb hs
  ·exact h.dis i d hd hs
 ·have:=h.lt i hi; simpa using this
 ·simp only [AH.set] at hi;split at hi
  ·rename_i e; subst e; exact .inl (by simp [hb])
  ·exact .inl hi
theorem Sim.del (h:Sim S H w) (r:Nat):Sim S (H.del r) w∧Step S H w S (H.del r) w:=by
 refine ⟨⟨fun i b hb=>?_,fun i b hb hs=>?_,h.lt⟩,⟨rfl,rfl,rfl,Zmc _,fun _ h=>h,fun _ _ _=>rfl,fun i hi=>?_,fun _ h=>.inl h⟩⟩
 ·simp only [AH.del] at hb;split at hb
  ·cases hb
  ·exact h.blk i b hb
 ·simp only [AH.del] at hb;split at hb
  ·cases hb
  ·exact h.dis i b hb hs
 ·simp only [AH.del] at hi;split at hi
  ·exact absurd rfl hi
  ·exact .inl hi
theorem Sim.freeze (h:Sim S H w) {r:Nat} {b:Blk} (hb:H r=some b):Sim (fun i=>S i∨i=r) (H.del r) w∧Step S H w (fun i=>S i∨i=r) (H.del r) w:=by
 refine ⟨⟨fun i c hc=>?_,fun i c hc hs=>?_,fun i hi=>?_⟩,⟨rfl,rfl,rfl,Zmc _,fun _ h=>.inl h,fun _ _ _=>rfl,fun i hi=>?_,fun i hi=>hi.elim .inl (fun e=>.inr (.inl (by rw [e,hb]; simp)))⟩⟩
 ·simp only [AH.del] at hc;split at hc
  ·cases hc
  ·exact (h.blk i c hc).mono (fun _ h=>⟨.inl h,rfl⟩) rfl
 ·simp only [AH.del] at hc;split at hc
  ·cases hc
  ·rename_i e;rcases hs with hs | hs
   ·exact h.dis i c hc hs
   ·exact e hs
 ·rcases hi with hi | hi
  ·exact h.lt i hi
  ·subst hi; exact h.lt_of hb
 ·simp only [AH.del] at hi;split at hi
  ·exact absurd rfl hi
  ·exact .inl hi
end
structure AF where
 t:Nat→VV
 d:List Deferred
def upd (t:Nat→VV) (i:Nat) (x:VV):Nat→VV:=fun j=>if j=i then x else t j
theorem upd_ne (t:Nat→VV) {i j:Nat} (x:VV) (h:j ≠ i):upd t i x j=t j:=by simp [upd,h]
def AF.put (A:AF) (dst:Option Tmp) (x:VV):AF :=
 match dst with
 | some d=>{ A with t:=upd A.t d x }
 | none=>A
def AF.eval (A:AF):Operand→VV
 | .tmp t=>A.t t
 | .const v=>.lit v
 | .global g=>.lit (.pointer (some ⟨g,0,none⟩))
 | .func f=>.lit (.func (.func f) #[] #[])
def RvF (N:Nat) (S:Nat→Prop) (w:World) (A:AF) (a:Act):Prop:=a.tmps.size=N∧a.defers=A.d∧RvT S w A.t a.tmps
section
variable {N:Nat} {S S':Nat→Prop} {H H':AH} {w w':World} {A:AF} {a:Act}
theorem RvF.step (h:RvF N S w A a) (hs:Sim S H w) (k:Step S H w S' H' w'):RvF N S' w' A a:=⟨h.1,h.2.1,h.2.2.step hs k⟩
theorem RvF.eval (h:RvF N S w A a) (x:Operand):Rv S w (A.eval x) (a.eval x):=by
 cases x with
 | tmp t=>exact h.2.2 t
 | const v=>simp [AF.eval,Act.eval,Rv]
 | global g=>simp [AF.eval,Act.eval,Rv]
 | func f=>simp [AF.eval,Act.eval,Rv]
theorem RvT.put {t:Nat→VV} {ts:Array Value} (h:RvT S w t ts) {d:Nat} (hd:d<ts.size) {x:VV} {u:Value} (hx:Rv S w x u):RvT S w (upd t d x) (ts.setIfInBounds d u):=by
 intro i;simp only [upd];split
 ·rename_i e; subst e; simpa [Array.getD_eq_getD_getElem?,hd] using hx
 ·rename_i e
  have:(ts.setIfInBounds d u).getD i undef=ts.getD i undef:=by
   simp only [Array.getD_eq_getD_getElem?];rw [Array.getElem?_setIfInBounds_ne (by omega)]
  rw [this]; exact h i
theorem RvF.put (h:RvF N S w A a) {dst:Option Tmp} (hd:∀ d,dst=some d→d<N) {x:VV} {u:Value} (hx:Rv S w x u):RvF N S w (A.put dst x) (a.put dst u):=by
 cases dst with
 | none=>exact h
 | some d =>
   refine ⟨by simp [Act.put,h.1],h.2.1,?_⟩;exact RvT.put h.2.2 (by rw [h.1]; exact hd d rfl) hx
end
def Xy (P:Program) (ro:Option Nat):Fence:={ Fence.wide with fn:=fun f=>(P.funcs[f]?).isSome=true,round:=ro }
theorem Zim (P:Program) (ro:Option Nat) (n:Nat):(Xy P ro).room n:=fun _ h=>by simp [Xy,Fence.wide] at h
structure Cx where
 P:Program
 N:Nat
 ro:Option Nat
abbrev APost:=Exit→AF→AH→Prop
def LQ (cx:Cx) (Q:APost) (S:Nat→Prop) (H:AH) (w:World):Exit→Act→World→Prop :=
 fun e a' w'=>e ≠ .outgrown∧∃ S' H' A',Step S H w S' H' w'∧Sim S' H' w'∧RvF cx.N S' w' A' a'∧Q e A' H'
def AC (cx:Cx) (c:Code) (Q:APost) (A:AF) (H:AH):Prop :=
 ∀ S w a,Sim S H w→RvF cx.N S w A a→c.wpIn (Xy cx.P cx.ro) 0 cx.P (LQ cx Q S H w) a w
theorem LQ.lift {cx:Cx} {Q:APost} {S S':Nat→Prop} {H H':AH} {w w':World} (k:Step S H w S' H' w') {e:Exit} {a:Act} {w'':World}
 (h:LQ cx Q S' H' w' e a w''):LQ cx Q S H w e a w'':=by
 obtain ⟨h0,S1,H1,A1,h1,h2,h3,h4⟩:=h;exact ⟨h0,S1,H1,A1,k.trans h1,h2,h3,h4⟩
theorem LQ.mono {cx:Cx} {Q Q':APost} (hQ:∀ e A H,Q e A H→Q' e A H) {S:Nat→Prop} {H:AH} {w:World} {e:Exit} {a:Act} {w':World} (h:LQ cx Q S H w e a w'):LQ cx Q' S H w e a w':=by
 obtain ⟨h0,S1,H1,A1,h1,h2,h3,h4⟩:=h;exact ⟨h0,S1,H1,A1,h1,h2,h3,hQ _ _ _ h4⟩
def thenA (K:AF→AH→Prop) (Q:APost):APost
 | .normal=>K
 | e=>Q e
def XO (id:Nat) (Q:APost):APost
 | .exit i=>if i=id then Q .normal else Q (.exit i)
 | e=>Q e
section
variable {cx:Cx} {Q Q':APost} {A:AF} {H:AH}
theorem AC.mono {c:Code} (h:AC cx c Q A H) (hQ:∀ e A H,Q e A H→Q' e A H):AC cx c Q' A H :=
 fun S w a hs hf=>wpIn_mono (h S w a hs hf) fun e a' w' hq=>hq.mono hQ
theorem ac_skip (h:Q .normal A H):AC cx .skip Q A H :=
 fun S w a hs hf=>wpIn_skip ⟨by simp,S,H,A,.refl _ _ _,hs,hf,h⟩
theorem ac_label {l:Nat} (h:Q .normal A H):AC cx (.label l) Q A H :=
 fun S w a hs hf=>wpIn_label ⟨by simp,S,H,A,.refl _ _ _,hs,hf,h⟩
theorem ac_exit {id:Nat} (h:Q (.exit id) A H):AC cx (.exit id) Q A H :=
 fun S w a hs hf=>wpIn_exit ⟨by simp,S,H,A,.refl _ _ _,hs,hf,h⟩
theorem ac_ret (h:Q .ret A H):AC cx .ret Q A H :=
 fun S w a hs hf=>wpIn_ret ⟨by simp,S,H,A,.refl _ _ _,hs,hf,h⟩
theorem Zh4 {x y:Code} (h:AC cx x (thenA (AC cx y Q) Q) A H):AC cx (.seq x y) Q A H:=by
 intro S w a hs hf;refine wpIn_seq (wpIn_mono (h S w a hs hf) ?_);intro e a' w' hq;obtain ⟨h0,S1,H1,A1,h1,h2,h3,h4⟩:=hq;cases e with
 | normal=>exact wpIn_mono (h4 S1 w' a' h2 h3) fun _ _ _ h=>h.lift h1
 | exit id=>exact ⟨h0,S1,H1,A1,h1,h2,h3,h4⟩
 | goto l=>exact ⟨h0,S1,H1,A1,h1,h2,h3,h4⟩
 | ret=>exact ⟨h0,S1,H1,A1,h1,h2,h3,h4⟩
 | panic ch=>exact ⟨h0,S1,H1,A1,h1,h2,h3,h4⟩
 | outgrown=>exact absurd rfl h0
theorem Zkz {c:Operand} {x y:Code} {t:Bool} (hc:A.eval c=.lit (.bool t)) (h:AC cx (if t then x else y) Q A H):AC cx (.cond c x y) Q A H:=by
 intro S w a hs hf
 have:=hf.eval c
 rw [hc] at this;exact wpIn_cond (t:=t) this (h S w a hs hf)
theorem ZiN {id:Nat} {c:Code} (h:AC cx c (XO id Q) A H):AC cx (.block id c) Q A H:=by
 intro S w a hs hf;refine wpIn_block (wpIn_mono (h S w a hs hf) ?_);intro e a' w' hq;obtain ⟨h0,S1,H1,A1,h1,h2,h3,h4⟩:=hq;cases e with
 | exit i =>
   simp only [Exit.inBlock];simp only [XO] at h4;split
   ·rename_i e; rw [if_pos e] at h4; exact ⟨by simp,S1,H1,A1,h1,h2,h3,h4⟩
   ·rename_i e; rw [if_neg e] at h4; exact ⟨by simp,S1,H1,A1,h1,h2,h3,h4⟩
 | normal=>exact ⟨h0,S1,H1,A1,h1,h2,h3,h4⟩
 | goto l=>exact ⟨h0,S1,H1,A1,h1,h2,h3,h4⟩
 | ret=>exact ⟨h0,S1,H1,A1,h1,h2,h3,h4⟩
 | panic ch=>exact ⟨h0,S1,H1,A1,h1,h2,h3,h4⟩
 | outgrown=>exact absurd rfl h0
theorem ZkA {c:Code} (I:AF→AH→Prop) (μ:AF→AH→Nat) (h0:I A H)
 (round:∀ A H,I A H→AC cx c (thenA (fun A' H'=>I A' H'∧μ A' H'<μ A H) Q) A H):AC cx (.loop c) Q A H:=by
 intro S w a hs hf
 let J:Nat→Act→World→Prop:=fun n a' w'=>∃ S' H' A',Step S H w S' H' w'∧Sim S' H' w'∧RvF cx.N S' w' A' a'∧I A' H'∧μ A' H'=n
 refine wpIn_loop (fun a' w'=>∃ n,J n a' w') (fun a' w'=>leastOf (fun n=>J n a' w')) ⟨_,S,H,A,.refl _ _ _,hs,hf,h0,rfl⟩ ?_;intro a' w' hJ;obtain ⟨⟨S1,H1,A1,h1,h2,h3,h4,h5⟩,hmin⟩:=leastOf_spec hJ;refine wpIn_mono (round A1 H1 h4 S1 w' a' h2 h3) ?_;intro e a'' w'' hq;obtain ⟨g0,S2,H2,A2,g1,g2,g3,g4⟩:=hq;cases e with
 | normal =>
   have hJ2:J (μ A2 H2) a'' w'':=⟨S2,H2,A2,h1.trans g1,g2,g3,g4.1,rfl⟩
   refine ⟨⟨_,hJ2⟩,?_⟩
   have:=(leastOf_spec (p:=fun n=>J n a'' w'') ⟨_,hJ2⟩).2 _ hJ2
   rw [← h5];exact Nat.lt_of_le_of_lt this g4.2
 | exit id=>exact ⟨g0,S2,H2,A2,h1.trans g1,g2,g3,g4⟩
 | goto l=>exact ⟨g0,S2,H2,A2,h1.trans g1,g2,g3,g4⟩
 | ret=>exact ⟨g0,S2,H2,A2,h1.trans g1,g2,g3,g4⟩
 | panic ch=>exact ⟨g0,S2,H2,A2,h1.trans g1,g2,g3,g4⟩
 | outgrown=>exact absurd rfl g0
end
end Go.PV
end
section
open Bool renaming and_eq_true→ZmA
open List renaming length_take→ZmV,length_cons→Zmi,take_succ_eq_append_getElem→Znf,all_cons→Zmz,drop→Zmb,length_append→ZmB,take_of_length_le→ZmQ,drop_zero→Zm4
open Nat renaming add_zero→Zmo,le_refl→Zmc
namespace Go.PV
def szT (P:Program) (t:TypeId):Option Nat:=(P.info? t).map (·.size)
def zeroT (P:Program) (t:TypeId):Option (List Value):=((P.info? t).bind (·.zero)).map (·.cells.toList)
def Zka:TypeDesc→Bool
 | .struct _=>true
 | .array _ _=>true
 | _=>false
def ldT (P:Program) (t:TypeId):Option (Nat × Bool):=(szT P t).bind fun n=>(P.underlying t).map fun d=>(n,Zka d)
def elT (P:Program) (t:TypeId):Option (TypeId × Nat × Nat) :=
 match P.underlying t with
 | some (.slice e)=>(P.info? e).map fun i=>(e,i.size,i.bytes)
 | _=>none
def arT (P:Program) (t:TypeId):Option (Nat × TypeId × Nat) :=
 match P.underlying t with
 | some (.array n e)=>(szT P e).map fun k=>(n,e,k)
 | _=>none
def flT (P:Program) (s:TypeId) (f:Nat):Option (Nat × Nat × Bool) :=
 match P.underlying s with
 | some (.struct fs)=>(fs[f]?).bind fun fl=>(ldT P fl.type).map fun p=>(fl.offset,p.1,p.2)
 | _=>none
section
variable {P:Program} {S:Nat→Prop} {H:AH} {w:World}
theorem ZiO {t:TypeId} {n:Nat} (h:szT P t=some n):∃ i,P.info? t=some i∧i.size=n:=by
 unfold szT at h;cases hi:P.info? t with
 | none=>simp [hi] at h
 | some i=>exact ⟨i,rfl,by simpa [hi] using h⟩
theorem ZiP {t:TypeId} {n:Nat} {ag:Bool} (h:ldT P t=some (n,ag)):∃ i d,P.info? t=some i∧i.size=n∧P.underlying t=some d∧Zka d=ag:=by
 unfold ldT at h;cases hs:szT P t with
 | none=>simp [hs] at h
 | some m =>
   obtain ⟨i,hi,hm⟩:=ZiO hs;cases hu:P.underlying t with
   | none=>simp [hs,hu] at h
   | some d =>
     simp [hs,hu] at h;exact ⟨i,d,hi,by omega,rfl,h.2⟩
theorem Xq {t:TypeId} {n:Nat} (h:szT P t=some n) (w:World):(sizeOf t).run P w=.ok n w:=by
 obtain ⟨i,hi,rfl⟩:=ZiO h;simp [sizeOf,typeInfo,hi]
theorem Zbn {t:TypeId} {n:Nat} {ag:Bool} (h:ldT P t=some (n,ag)) (w:World):(isAgg t).run P w=.ok ag w:=by
 obtain ⟨i,d,hi,_,hu,rfl⟩:=ZiP h;simp only [isAgg,Sem.run_bind,run_underlying hu,Result.andThen];cases d<;>simp [Zka]
theorem Zh5 {t:TypeId} {n:Nat} {ag:Bool} (h:ldT P t=some (n,ag)):szT P t=some n:=by
 obtain ⟨i,d,hi,h1,hu,h2⟩:=ZiP h;simp [szT,hi,h1]
theorem ZgM {t:TypeId} {zs:List Value} (h:zeroT P t=some zs) (w:World):∃ z,(zeroValue t).run P w=.ok z w∧z.cells.toList=zs∧(∃ i,P.info? t=some i∧i.zero=some z):=by
 unfold zeroT at h;cases hi:P.info? t with
 | none=>simp [hi] at h
 | some i =>
   cases hz:i.zero with
   | none=>simp [hi,hz] at h
   | some z =>
     simp [hi,hz] at h;exact ⟨z,by simp [zeroValue,typeInfo,hi,hz],h,i,rfl,hz⟩
theorem WR (r o i:Nat):(⟨r,o,none⟩:Addr).add i=⟨r,o+i,none⟩:=by unfold Addr.add; split<;>simp_all
theorem RvC.list {cs:List VV}:∀ {r o:Nat},RvC S w cs r o→∃ vs:List Value,RvL S w cs vs∧∀ j v,vs[j]?=some v→w.cell? ⟨r,o+j,none⟩=some v:=by
 induction cs with
 | nil=>intro r o _; exact ⟨[],by simp [RvL],by simp⟩
 | cons c cs ih =>
   intro r o h;obtain ⟨⟨u,hu,hc⟩,h2⟩:=h;obtain ⟨vs,h3,h4⟩:=ih h2;refine ⟨u::vs,⟨u,vs,rfl,hc,h3⟩,fun j v hj=>?_⟩;cases j with
   | zero=>simp at hj; subst hj; exact hu
   | succ j=>rw [show o+(j+1)=o+1+j from by omega]; exact h4 j v (by simpa using hj)
def ldV (n:Nat) (ag:Bool) (cs:List VV):Option VV :=
 if ag then (if n≤cs.length then some (.agg (cs.take n)) else none) else cs.head?
theorem Zbk {t:TypeId} {n:Nat} {ag:Bool} (hl:ldT P t=some (n,ag)) {cs:List VV} {r o:Nat} (hc:RvC S w cs r o) {x:VV} (hv:ldV n ag cs=some x) :
 ∃ u,(loadVar t ⟨r,o,none⟩).run P w=.ok u w∧Rv S w x u:=by
 cases ag with
 | false =>
   cases cs with
   | nil=>simp [ldV] at hv
   | cons c cs =>
     simp [ldV] at hv;subst hv;obtain ⟨⟨u,hu,hcu⟩,_⟩:=hc;refine ⟨u,?_,hcu⟩;simp [loadVar,Zbn hl,hu]
 | true =>
   simp only [ldV,if_true] at hv;split at hv
   ·rename_i hle;cases hv;obtain ⟨vs,h1,h2⟩:=(hc.take n).list;have hlen:vs.length=n:=by rw [h1.length,ZmV]; omega
    refine ⟨.agg vs.toArray,?_,⟨vs.toArray,rfl,by simpa using h1⟩⟩
    have:=run_loadCells_list (P:=P) w ⟨r,o,none⟩ vs (fun j v hj=>by rw [WR]; exact h2 j v hj)
    rw [hlen] at this;simp [loadVar,Zbn hl,Xq (Zh5 hl),this]
   ·cases hv
theorem RvB.cells_at {r:Nat} {e:TypeId} {cs:List VV} {sp:Nat} (h:RvB S w r (.cells e cs sp)) (o:Nat):RvC S w (cs.drop o) r o:=by
 obtain ⟨vs,h1,h2,h3⟩:=h;refine RvC.of_block h1 ?_
 have:=h3.drop o
 rwa [List.drop_take,← List.length_drop] at this
def setAt {α:Type} (cs:List α) (o:Nat):List α→List α
 | []=>cs
 | x::xs=>setAt (cs.set o x) (o+1) xs
theorem ZfM {α:Type}:∀ (xs cs:List α) (o:Nat),o+xs.length≤cs.length→setAt cs o xs=cs.take o++xs++cs.drop (o+xs.length)
 | [],cs,o,_=>by simp [setAt]
 | x::xs,cs,o,h=>by
   simp only [Zmi] at h;rw [setAt,ZfM xs (cs.set o x) (o+1) (by simp; omega)]
   have h1:(cs.set o x).take (o+1)=cs.take o++[x]:=by
    rw [Znf (by simp; omega),List.take_set_of_le (by omega)];simp
   have h2:(cs.set o x).drop (o+1+xs.length)=cs.drop (o+(x::xs).length):=by
    rw [List.drop_set_of_lt (by omega)]
    congr 1
    simp; omega
   rw [h1,h2];simp
theorem Zac {α:Type}:∀ (xs cs:List α) (o:Nat),(setAt cs o xs).length=cs.length
 | [],cs,o=>rfl
 | x::xs,cs,o=>by rw [setAt,Zac xs]; simp
theorem RvL.setAt {xs:List VV}:∀ {us:List Value} {cs:List VV} {vs:List Value} (o:Nat),RvL S w cs vs→RvL S w xs us→RvL S w (PV.setAt cs o xs) (PV.setAt vs o us):=by
 induction xs with
 | nil=>intro us cs vs o h1 h2; simp [RvL] at h2; subst h2; exact h1
 | cons x xs ih =>
   intro us cs vs o h1 h2;obtain ⟨u,us',rfl,h3,h4⟩:=h2;exact ih (o+1) (h1.set o x u h3) h4
def VV.one:VV→Bool
 | .lit v=>v.oneCell'
 | .agg _=>false
 | .tuple _=>false
 | _=>true
theorem Rv.one {x:VV} {u:Value} (h:Rv S w x u) (ho:x.one=true):u.oneCell'=true:=by
 cases x with
 | lit v=>simp [Rv] at h; subst h; exact ho
 | agg cs=>simp [VV.one] at ho
 | tuple cs=>simp [VV.one] at ho
 | slice ex n cs=>obtain ⟨a,cap,rfl,_⟩:=h; rfl
 | iptr cs=>obtain ⟨r,o,rfl,_⟩:=h; rfl
 | func fn f c=>obtain ⟨f',c',rfl,hc⟩:=h; rfl
 | iface t y=>obtain ⟨v,rfl,hc⟩:=h; rfl
theorem RvL.ones {xs:List VV}:∀ {us:List Value},RvL S w xs us→xs.all VV.one=true→∀ u∈us,u.oneCell'=true:=by
 induction xs with
 | nil=>intro us h _; simp [RvL] at h; subst h; simp
 | cons x xs ih =>
   intro us h ho;obtain ⟨u,us',rfl,h1,h2⟩:=h;simp only [Zmz,ZmA] at ho;intro v hv;rcases List.mem_cons.1 hv with rfl | hv
   ·exact h1.one ho.1
   ·exact ih h2 ho.2 v hv
theorem Zjr (w:World) {g:Nat} {cur cs:Array Value} {e:TypeId} {fr:Nat × Nat} (h:w.heap[g]?=some (.cells cur e fr)) :
 w.setRow g cs={ w with heap:=w.heap.setIfInBounds g (.cells cs e fr) }:=by
 unfold World.setRow
 congr 1
 apply Array.ext_getElem?
 intro i;rw [Array.getElem?_modify,Array.getElem?_setIfInBounds];split
 ·rename_i e; subst e;obtain ⟨hlt,h'⟩:=Array.getElem?_eq_some_iff.1 h;simp [hlt,h']
 ·rfl
theorem JR {r o:Nat} {e:TypeId} {cs xs:List VV} {sp:Nat} {us:List Value} (hs:Sim S H w) (hb:H r=some (.cells e cs sp)) (hx:RvL S w xs us) (h1:xs.all VV.one=true) (hle:o+xs.length≤cs.length) :
 ∃ w',(storeCells ⟨r,o,none⟩ us).run P w=.ok () w'∧Step S H w S (H.set r (.cells e (setAt cs o xs) sp)) w'∧Sim S (H.set r (.cells e (setAt cs o xs) sp)) w':=by
 obtain ⟨vs,g1,g2,g3⟩:=hs.blk r _ hb;have hul:=hx.length;have hr:=run_storeCells_at P r o e us 0 vs w g1 (by omega) (hx.ones h1);rw [Zjr w g1] at hr;refine ⟨_,hr,?_⟩
 have hold:∀ i,S i→S i∧(w.heap.setIfInBounds r (Obj.cells (List.take (o+0) vs.toList++us++Zmb (o+0+us.length) vs.toList).toArray e (0,0)))[i]?=w.heap[i]?:=fun i hi =>
  ⟨hi,by rw [Array.getElem?_setIfInBounds,if_neg (by rintro rfl; exact hs.dis r _ hb hi)]⟩
 have:=hs.write (r:=r) (c:=.cells e (setAt cs o xs) sp) (o:=.cells (List.take (o+0) vs.toList++us++Zmb (o+0+us.length) vs.toList).toArray e (0,0)) hb ?_
 ·exact ⟨this.2,this.1⟩
 ·refine ⟨_,by rw [Array.getElem?_setIfInBounds,if_pos rfl,if_pos (hs.lt_of hb)],?_,?_⟩
  ·simp [Zac]; omega
  ·have h5:=(RvL.setAt o g3 hx)
   rw [Zac]
   have e1:setAt (vs.toList.take cs.length) o us=List.take cs.length (List.take (o+0) vs.toList++us++Zmb (o+0+us.length) vs.toList).toArray.toList:=by
    rw [ZfM _ _ _ (by simp; omega)];simp only [Zmo,List.take_take];rw [show min o cs.length=o from by omega];rw [List.take_append,List.take_append,ZmB,ZmV,List.take_take]
    have:min o vs.toList.length=o:=by simp; omega
    rw [this,show min cs.length o=o from by omega,ZmQ (i:=cs.length-o) (by omega),List.drop_take]
   rw [e1] at h5;exact RvL.mono hold _ _ h5
theorem Zf8 {t:TypeId} {r o:Nat} {e:TypeId} {cs:List VV} {x:VV} {u:Value} {sp:Nat} (hs:Sim S H w) (hb:H r=some (.cells e cs sp)) (hx:Rv S w x u)
 (ht:szT P t=some x.cells.length) (h1:x.cells.all VV.one=true) (hle:o+x.cells.length≤cs.length) :
 ∃ w',(storeVar t ⟨r,o,none⟩ u).run P w=.ok () w'∧Step S H w S (H.set r (.cells e (setAt cs o x.cells) sp)) w'∧Sim S (H.set r (.cells e (setAt cs o x.cells) sp)) w':=by
 obtain ⟨w',hr,h2⟩:=JR (P:=P) hs hb hx.cells h1 hle;refine ⟨w',?_,h2⟩;have hlen:u.cells.size=x.cells.length:=by simpa using hx.cells.length
 simp [storeVar,Xq ht,hlen,hr]
theorem ZbQ {e:TypeId} {cells:Array Value} {cs:List VV} (hs:Sim S H w) (hx:RvL S w cs cells.toList) :
 (newRow e cells).run P w=.ok ⟨w.heap.size,0,none⟩ (w.alloc (.cells cells e))∧H w.heap.size=none ∧
   Step S H w S (H.set w.heap.size (.cells e cs 0)) (w.alloc (.cells cells e))∧Sim S (H.set w.heap.size (.cells e cs 0)) (w.alloc (.cells cells e)):=by
 have hk:∀ r,S r→S r∧(w.heap.push (Obj.cells cells e))[r]?=w.heap[r]?:=fun r hr=>⟨hr,by have:=hs.lt r hr; rw [Array.getElem?_push,if_neg (by omega)]⟩
 have:=hs.push (o:=.cells cells e) (b:=.cells e cs 0) ⟨cells,by simp,by have:=hx.length; simp at this ⊢; omega,by
  have h:=RvL.mono (w':={ w with heap:=w.heap.push (.cells cells e) }) hk _ _ hx
  rwa [ZmQ (by rw [hx.length]; exact Zmc _)]⟩
 exact ⟨by simp [newRow],this.2.2,this.2.1,this.1⟩
theorem ZdM {e:TypeId} {cells:Array Value} {cs:List VV} (hs:Sim S H w) (hx:RvL S w cs cells.toList) :
 (newRow e cells).run P w=.ok ⟨w.heap.size,0,none⟩ (w.alloc (.cells cells e)) ∧
   Step S H w (fun r=>S r∨r=w.heap.size) H (w.alloc (.cells cells e))∧Sim (fun r=>S r∨r=w.heap.size) H (w.alloc (.cells cells e)) ∧
   RvC (fun r=>S r∨r=w.heap.size) (w.alloc (.cells cells e)) cs w.heap.size 0:=by
 have h:=hs.share (.cells cells e);refine ⟨by simp [newRow],h.2,h.1,?_⟩;refine RvC.of_block (vs:=cells) (t:=e) (fr:=(0,0)) (heap_alloc_new w _) ?_;rw [Zm4,ZmQ (by rw [hx.length]; exact Zmc _)];exact hx.step hs h.2
end
end Go.PV
end
section
open Bool renaming false_eq_true→Zmv
namespace Go.PV
inductive VE where
 | ret (x:VV)
 | pan (ch:List PanicEntry)
def ptrV (r o:Nat):VV:=.lit (.pointer (some ⟨r,o,none⟩))
def intV (n:Int):VV:=.lit (.int .i64 n)
def boolV (b:Bool):VV:=.lit (.bool b)
def Res (S:Nat→Prop) (H:AH) (w:World) (K:VE→AH→Prop) (r:Result Value):Prop :=
 ∃ S' H' x u w',r=.ok u w'∧Step S H w S' H' w'∧Sim S' H' w'∧Rv S' w' x u∧K (.ret x) H'
section
variable {P:Program} {S:Nat→Prop} {H:AH} {w:World} {K:VE→AH→Prop}
theorem Res.same {x:VV} {u:Value} {r:Result Value} (hs:Sim S H w) (hr:r=.ok u w) (hx:Rv S w x u) (hk:K (.ret x) H):Res S H w K r :=
 ⟨S,H,x,u,w,hr,.refl _ _ _,hs,hx,hk⟩
def Wa (P:Program) (t:TypeId) (a:VV) (H:AH) (K:VE→AH→Prop):Prop :=
 match ldT P t,a with
 | some (n,ag),.iptr cs=>(match ldV n ag cs with | some x=>K (.ret x) H | none=>False)
 | some (n,ag),.lit (.pointer (some ⟨r,o,none⟩)) =>
   (match H r with
    | some (.cells _ cs _)=>(match ldV n ag (cs.drop o) with | some x=>K (.ret x) H | none=>False)
    | _=>False)
 | _,_=>False
theorem Zhi {t:TypeId} {a:VV} {u:Value} (h:Wa P t a H K) (hs:Sim S H w) (ha:Rv S w a u):Res S H w K ((Instr.loadAt t u).run P w):=by
 unfold Wa at h;split at h
 ·rename_i n ag cs hl;obtain ⟨r,o,rfl,hr,hc⟩:=ha;split at h
  ·rename_i x hv;obtain ⟨v,h1,h2⟩:=Zbk hl hc hv;exact .same hs (by simp [Instr.loadAt,Instr.sureAddr,h1]) h2 h
  ·exact h.elim
 ·rename_i n ag r o hl;obtain rfl:=ha;split at h
  ·rename_i e cs sp hb;split at h
   ·rename_i x hv;obtain ⟨v,h1,h2⟩:=Zbk (w:=w) (S:=S) hl ((hs.blk r _ hb).cells_at o) hv;exact .same hs (by simp [Instr.loadAt,Instr.sureAddr,h1]) h2 h
   ·exact h.elim
  ·exact h.elim
 ·exact h.elim
def Jo (P:Program) (t:TypeId) (a x:VV) (H:AH) (K:VE→AH→Prop):Prop :=
 match a with
 | .lit (.pointer (some ⟨r,o,none⟩)) =>
   (match H r with
    | some (.cells e cs sp)=>szT P t=some x.cells.length∧x.cells.all VV.one=true∧o+x.cells.length≤cs.length∧K (.ret Zx) (H.set r (.cells e (setAt cs o x.cells) sp))
    | _=>False)
 | _=>False
theorem Zf9 {t:TypeId} {a x:VV} {u v:Value} (h:Jo P t a x H K) (hs:Sim S H w) (ha:Rv S w a u) (hx:Rv S w x v) :
 ∃ S' H' w',(Instr.storeAt t u v).run P w=.ok () w'∧Step S H w S' H' w'∧Sim S' H' w'∧K (.ret Zx) H':=by
 unfold Jo at h;split at h
 ·rename_i r o;obtain rfl:=ha;split at h
  ·rename_i e cs sp hb;obtain ⟨h1,h2,h3,h4⟩:=h;obtain ⟨w',g1,g2,g3⟩:=Zf8 (P:=P) hs hb hx h1 h2 h3;exact ⟨S,_,w',by simp [Instr.storeAt,Instr.sureAddr,g1],g2,g3,h4⟩
  ·exact h.elim
 ·exact h.elim
def vcNil (x:VV) (H:AH) (K:VE→AH→Prop):Prop :=
 match x with
 | .iptr cs=>K (.ret (.iptr cs)) H
 | .lit (.pointer (some a))=>K (.ret (.lit (.pointer (some a)))) H
 | .lit (.func (.func f) a b)=>K (.ret (.lit (.func (.func f) a b))) H
 | .lit (.func (.yield f) a b)=>K (.ret (.lit (.func (.yield f) a b))) H
 | .func (.func f) a b=>K (.ret (.func (.func f) a b)) H
 | _=>False
def YF (P:Program) (s:TypeId) (a:VV) (f:Nat) (H:AH) (K:VE→AH→Prop):Prop :=
 match flT P s f,a with
 | some (off,n,_),.iptr cs=>n ≠ 0∧K (.ret (.iptr (cs.drop off))) H
 | some (off,n,_),.lit (.pointer (some ⟨r,o,none⟩))=>n ≠ 0∧K (.ret (ptrV r (o+off))) H
 | _,_=>False
theorem Zds {s:TypeId} {f off n:Nat} {ag:Bool} (h:flT P s f=some (off,n,ag)):∃ fs fl,P.underlying s=some (.struct fs)∧fs[f]?=some fl∧fl.offset=off∧ldT P fl.type=some (n,ag):=by
 unfold flT at h;split at h
 ·rename_i fs hu;cases hf:fs[f]? with
  | none=>simp [hf] at h
  | some fl =>
    cases hl:ldT P fl.type with
    | none=>simp [hf,hl] at h
    | some p =>
      simp [hf,hl] at h;exact ⟨fs,fl,hu,hf,h.1,by rw [hl]; cases p; simp at h; simp [h]⟩
 ·cases h
theorem Zc6 {s:TypeId} {f:Nat} {a:VV} {u:Value} (h:YF P s a f H K) (hs:Sim S H w) (ha:Rv S w a u):Res S H w K ((Instr.fieldAt s u f).run P w):=by
 unfold YF at h;split at h
 ·rename_i off n ag cs hf;obtain ⟨fs,fl,h1,h2,rfl,h4⟩:=Zds hf;obtain ⟨r,o,rfl,hr,hc⟩:=ha;refine .same (x:=.iptr (cs.drop fl.offset)) (u:=.pointer (some ⟨r,o+fl.offset,none⟩)) hs ?_ ⟨r,o+fl.offset,rfl,hr,hc.drop _⟩ h.2;simp [Instr.fieldAt,run_underlying h1,h2,Instr.sureAddr,fieldPlace,Xq (Zh5 h4),h.1,WR]
 ·rename_i off n ag r o hf;obtain ⟨fs,fl,h1,h2,rfl,h4⟩:=Zds hf;obtain rfl:=ha;refine .same (x:=ptrV r (o+fl.offset)) (u:=.pointer (some ⟨r,o+fl.offset,none⟩)) hs ?_ rfl h.2;simp [Instr.fieldAt,run_underlying h1,h2,Instr.sureAddr,fieldPlace,Xq (Zh5 h4),h.1,WR]
 ·exact h.elim
def partV (off n:Nat) (ag:Bool) (cs:List VV):Option VV :=
 if ag then (if off+n≤cs.length then some (.agg ((cs.drop off).take n)) else none) else cs[off]?
def JT (P:Program) (s:TypeId) (x:VV) (f:Nat) (H:AH) (K:VE→AH→Prop):Prop :=
 match flT P s f,x with
 | some (off,n,ag),.agg cs=>(match partV off n ag cs with | some y=>K (.ret y) H | none=>False)
 | some (off,n,ag),.lit (.agg vs)=>(match partV off n ag (vs.toList.map .lit) with | some y=>K (.ret y) H | none=>False)
 | _,_=>False
theorem ZgN {t:TypeId} {n:Nat} {ag:Bool} (hl:ldT P t=some (n,ag)) {cs:List VV} {vs:Array Value} (hc:RvL S w cs vs.toList) {off:Nat} {y:VV} (hv:partV off n ag cs=some y) :
 ∃ u,(part t vs off).run P w=.ok u w∧Rv S w y u:=by
 cases ag with
 | false =>
   simp only [partV,Zmv,if_false] at hv;obtain ⟨u,hu,hy⟩:=RvL.get? off y hc hv;refine ⟨u,?_,hy⟩
   have:vs[off]?=some u:=by simpa using hu
   simp [part,Zbn hl,this]
 | true =>
   simp only [partV,if_true] at hv;split at hv
   ·cases hv;refine ⟨.agg (vs.extract off (off+n)),?_,⟨_,rfl,?_⟩⟩
    ·simp [part,Zbn hl,Xq (Zh5 hl)]
    ·have:=(hc.drop off).take n
     simpa [Array.toList_extract,List.extract_eq_take_drop] using this
   ·cases hv
theorem Zga {s:TypeId} {f:Nat} {x:VV} {u:Value} (h:JT P s x f H K) (hs:Sim S H w) (hx:Rv S w x u):Res S H w K ((Instr.field s u f).run P w):=by
 unfold JT at h;split at h
 ·rename_i off n ag cs hf;obtain ⟨fs,fl,h1,h2,rfl,h4⟩:=Zds hf;obtain ⟨vs,rfl,hl⟩:=hx;split at h
  ·rename_i y hy;obtain ⟨u,g1,g2⟩:=ZgN h4 hl hy;exact .same hs (by simp [Instr.field,run_underlying h1,h2,asAgg,g1]) g2 h
  ·exact h.elim
 ·rename_i off n ag vs hf;obtain ⟨fs,fl,h1,h2,rfl,h4⟩:=Zds hf;obtain rfl:=hx;split at h
  ·rename_i y hy;obtain ⟨u,g1,g2⟩:=ZgN (w:=w) (S:=S) h4 (RvL.lits vs.toList) hy;exact .same hs (by simp [Instr.field,run_underlying h1,h2,asAgg,g1]) g2 h
  ·exact h.elim
 ·exact h.elim
theorem Xr {t e:TypeId} {n b:Nat} (h:elT P t=some (e,n,b)):P.underlying t=some (.slice e)∧∃ i,P.info? e=some i∧i.size=n∧i.bytes=b:=by
 unfold elT at h;split at h
 ·rename_i e' hu;cases hi:P.info? e' with
  | none=>simp [hi] at h
  | some i =>
    simp [hi] at h;obtain ⟨rfl,h1,h2⟩:=h;exact ⟨hu,i,hi,h1,h2⟩
 ·cases h
theorem Zgb {t e:TypeId} {n b:Nat} (h:elT P t=some (e,n,b)):szT P e=some n:=by
 obtain ⟨_,i,hi,h1,_⟩:=Xr h;simp [szT,hi,h1]
theorem ZfN {t e:TypeId} {n k:Nat} (h:arT P t=some (n,e,k)):P.underlying t=some (.array n e)∧szT P e=some k:=by
 unfold arT at h;split at h
 ·rename_i n' e' hu;cases hi:szT P e' with
  | none=>simp [hi] at h
  | some i =>
    simp [hi] at h;obtain ⟨rfl,rfl,rfl⟩:=h;exact ⟨hu,hi⟩
 ·cases h
def Yu (P:Program) (t:TypeId) (a i:VV) (H:AH) (K:VE→AH→Prop):Prop :=
 match elT P t,a,i with
 | some (_,k,_),.slice _ n cs,.lit (.int _ j)=>(0≤j∧j<(n:Int))∧K (.ret (.iptr (cs.drop (j.toNat * k)))) H
 | some (_,k,_),.lit (.slice (some ⟨r,o,none⟩) n _),.lit (.int _ j)=>(0≤j∧j<(n:Int))∧K (.ret (ptrV r (o+j.toNat * k))) H
 | none,.iptr cs,.lit (.int _ j)=>(match arT P t with | some (n,_,k)=>(0≤j∧j<(n:Int))∧K (.ret (.iptr (cs.drop (j.toNat * k)))) H | none=>False)
 | none,.lit (.pointer (some ⟨r,o,none⟩)),.lit (.int _ j)=>(match arT P t with | some (n,_,k)=>(0≤j∧j<(n:Int))∧K (.ret (ptrV r (o+j.toNat * k))) H | none=>False)
 | _,_,_=>False
theorem Zc7 {t:TypeId} {a i:VV} {u v:Value} (h:Yu P t a i H K) (hs:Sim S H w) (ha:Rv S w a u) (hi:Rv S w i v):Res S H w K ((Instr.indexAt t u v).run P w):=by
 unfold Yu at h;split at h
 ·rename_i e k b ex n cs q j hel;obtain ⟨hu,_⟩:=Xr hel;obtain ⟨ad,cap,rfl,_,hc⟩:=ha;obtain rfl:=hi;obtain ⟨r,o,rfl,hr,hrc⟩:=hc (by omega);refine .same (x:=.iptr (cs.drop (j.toNat * k))) (u:=.pointer (some ⟨r,o+j.toNat * k,none⟩)) hs ?_ ⟨r,_,rfl,hr,hrc.drop _⟩ h.2;simp [Instr.indexAt,asIntOf,run_underlying hu,h.1,Xq (Zgb hel),WR]
 ·rename_i e k b r o n cap q j hel;obtain ⟨hu,_⟩:=Xr hel;obtain rfl:=ha;obtain rfl:=hi;refine .same (x:=ptrV r (o+j.toNat * k)) (u:=.pointer (some ⟨r,o+j.toNat * k,none⟩)) hs ?_ rfl h.2;simp [Instr.indexAt,asIntOf,run_underlying hu,h.1,Xq (Zgb hel),WR]
 ·rename_i cs q j hel;split at h
  ·rename_i n e k har;obtain ⟨hu,hk⟩:=ZfN har;obtain ⟨r,o,rfl,hr,hrc⟩:=ha;obtain rfl:=hi;refine .same (x:=.iptr (cs.drop (j.toNat * k))) (u:=.pointer (some ⟨r,o+j.toNat * k,none⟩)) hs ?_ ⟨r,_,rfl,hr,hrc.drop _⟩ h.2;simp [Instr.indexAt,asIntOf,run_underlying hu,h.1,Xq hk,WR,Instr.sureAddr]
  ·exact h.elim
 ·rename_i r o q j hel;split at h
  ·rename_i n e k har;obtain ⟨hu,hk⟩:=ZfN har;obtain rfl:=ha;obtain rfl:=hi;refine .same (x:=ptrV r (o+j.toNat * k)) (u:=.pointer (some ⟨r,o+j.toNat * k,none⟩)) hs ?_ rfl h.2;simp [Instr.indexAt,asIntOf,run_underlying hu,h.1,Xq hk,WR,Instr.sureAddr]
  ·exact h.elim
 ·exact h.elim
def binV (op:BinOp):Value→Value→Option Value
 | .int k a,.int k' b =>
   if k=k' then
    match op with
    | .add=>some (.int k (k.wrap (a+b)))
    | .sub=>some (.int k (k.wrap (a-b)))
    | .mul=>some (.int k (k.wrap (a * b)))
    | .quo=>if b=0 then none else some (.int k (k.wrap (a.tdiv b)))
    | .rem=>if b=0 then none else some (.int k (a.tmod b))
    | .eql=>some (.bool (a == b))
    | .neq=>some (.bool (a != b))
    | .lss=>some (.bool (decide (a<b)))
    | .leq=>some (.bool (decide (a≤b)))
    | .gtr=>some (.bool (decide (a > b)))
    | .geq=>some (.bool (decide (a ≥ b)))
    | _=>none
   else none
 | .string a,.string b =>
   match op with
   | .eql=>some (.bool (a.toList == b.toList))
   | .neq=>some (.bool (!(a.toList == b.toList)))
   | .lss=>some (.bool (Op.bytesLess a.toList b.toList))
   | .leq=>some (.bool (Op.bytesLess a.toList b.toList || a.toList == b.toList))
   | .gtr=>some (.bool (!(Op.bytesLess a.toList b.toList || a.toList == b.toList)))
   | .geq=>some (.bool (!(Op.bytesLess a.toList b.toList)))
   | _=>none
 | _,_=>none
theorem ZiQ {op:BinOp} {t:TypeId} {x y:Operand} {u v r:Value} (h:binV op u v=some r) (w:World) :
 (do eqGuard op t x y u v; binOp op t u v:Sem Value).run P w=.ok r w:=by
 unfold binV at h;split at h
 ·rename_i k a k' b;split at h
  ·rename_i hk;subst hk;cases op<;>simp at h<;>first | (subst h; simp [eqGuard,binOp,Op.intArith,Op.intCmp]) | (obtain ⟨h0,rfl⟩:=h; simp [eqGuard,binOp,Op.intDiv,h0])
  ·cases h
 ·rename_i a b;cases op<;>simp at h<;>(subst h; simp [eqGuard,binOp,Op.stringOp])
 ·cases h
def EqAgg (P:Program) (t:TypeId) (xs ys:List Value) (b:Bool):Prop :=
 P.eqGuardType P.depth t=false∧∀ w,(Op.equal t (.agg xs.toArray) (.agg ys.toArray)).run P w=.ok b w
def eqOut (P:Program) (t:TypeId) (x y:VV) (b:Bool):Prop :=
 match x,y with
 | .lit (.bool p),.lit (.bool q)=>b=(p == q)
 | .slice _ n _,.lit (.slice none 0 0)=>0<n→b=false
 | .lit (.slice a _ _),.lit (.slice none 0 0)=>b=a.isNone
 | .iptr _,.lit (.pointer none)=>b=false
 | .lit (.pointer a),.lit (.pointer none)=>b=a.isNone
 | .iface _ _,.lit .nilIface=>b=false
 | .lit (.iface _ _),.lit .nilIface=>b=false
 | .lit .nilIface,.lit .nilIface=>b=true
 | .lit (.map a),.lit (.map none)=>b=a.isNone
 | .func _ _ _,.lit .nilFunc=>b=false
 | .lit (.func _ _ _),.lit .nilFunc=>b=false
 | .lit .nilFunc,.lit .nilFunc=>b=true
 | _,_=>True
def eqOk (P:Program) (t:TypeId) (x y:VV):Prop :=
 match x,y with
 | .lit (.bool _),.lit (.bool _)=>P.underlying t=some .bool
 | .slice _ _ _,.lit (.slice none 0 0)=>∃ e,P.underlying t=some (.slice e)
 | .lit (.slice _ _ _),.lit (.slice none 0 0)=>∃ e,P.underlying t=some (.slice e)
 | .iptr _,.lit (.pointer none)=>∃ e,P.underlying t=some (.pointer e)
 | .lit (.pointer _),.lit (.pointer none)=>∃ e,P.underlying t=some (.pointer e)
 | .iface _ _,.lit .nilIface=>∃ e,P.underlying t=some (.interface e)
 | .lit (.iface _ _),.lit .nilIface=>∃ e,P.underlying t=some (.interface e)
 | .lit .nilIface,.lit .nilIface=>∃ e,P.underlying t=some (.interface e)
 | .lit (.map _),.lit (.map none)=>∃ k e,P.underlying t=some (.map k e)
 | .func _ _ _,.lit .nilFunc=>∃ a b c,P.underlying t=some (.func a b c)
 | .lit (.func _ _ _),.lit .nilFunc=>∃ a b c,P.underlying t=some (.func a b c)
 | .lit .nilFunc,.lit .nilFunc=>∃ a b c,P.underlying t=some (.func a b c)
 | _,_=>False
theorem run_eqIn (d:Nat) {t:TypeId} {x y:VV} {u v:Value} (h:eqOk P t x y) (hx:Rv S w x u) (hy:Rv S w y v):∃ b,(Op.equalIn (d+1) t u v).run P w=.ok b w∧eqOut P t x y b:=by
 unfold eqOk at h;split at h
 ·obtain rfl:=hx; obtain rfl:=hy;exact ⟨_,by simp [Op.equalIn,run_underlying h],rfl⟩
 ·rename_i ex n cs;obtain ⟨a,cap,rfl,_,hc⟩:=hx; obtain rfl:=hy; obtain ⟨e,h⟩:=h;refine ⟨a.isNone,run_equalIn_slice_nil w d t e a _ _ h,fun hn=>?_⟩;obtain ⟨r,o,rfl,_⟩:=hc hn;rfl
 ·obtain rfl:=hx; obtain rfl:=hy; obtain ⟨e,h⟩:=h;exact ⟨_,run_equalIn_slice_nil w d t e _ _ _ h,rfl⟩
 ·obtain ⟨r,o,rfl,_⟩:=hx; obtain rfl:=hy; obtain ⟨e,h⟩:=h;exact ⟨false,by simp [Op.equalIn,run_underlying h],rfl⟩
 ·rename_i a;obtain rfl:=hx; obtain rfl:=hy; obtain ⟨e,h⟩:=h;refine ⟨a.isNone,?_,rfl⟩;cases a<;>simp [Op.equalIn,run_underlying h]
 ·obtain ⟨z,rfl,_⟩:=hx; obtain rfl:=hy; obtain ⟨e,h⟩:=h;exact ⟨false,by simp [Op.equalIn,run_underlying h],rfl⟩
 ·obtain rfl:=hx; obtain rfl:=hy; obtain ⟨e,h⟩:=h;exact ⟨false,by simp [Op.equalIn,run_underlying h],rfl⟩
 ·obtain rfl:=hx; obtain rfl:=hy; obtain ⟨e,h⟩:=h;exact ⟨true,by simp [Op.equalIn,run_underlying h],rfl⟩
 ·obtain rfl:=hx; obtain rfl:=hy; obtain ⟨k,e,h⟩:=h;exact ⟨_,run_equalIn_map_nil w d t k e _ h,rfl⟩
 ·obtain ⟨f,c,rfl,_⟩:=hx; obtain rfl:=hy; obtain ⟨a,b,c,h⟩:=h;exact ⟨false,by simp [Op.equalIn,run_underlying h],rfl⟩
 ·obtain rfl:=hx; obtain rfl:=hy; obtain ⟨a,b,c,h⟩:=h;exact ⟨false,by simp [Op.equalIn,run_underlying h],rfl⟩
 ·obtain rfl:=hx; obtain rfl:=hy; obtain ⟨a,b,c,h⟩:=h;exact ⟨true,by simp [Op.equalIn,run_underlying h],rfl⟩
 ·exact h.elim
theorem run_eq {t:TypeId} {x y:VV} {u v:Value} (h:eqOk P t x y) (hx:Rv S w x u) (hy:Rv S w y v):∃ b,(Op.equal t u v).run P w=.ok b w∧eqOut P t x y b:=run_eqIn 9999 h hx hy
def Wk:Operand→Bool
 | .const _=>true
 | _=>false
def Xl:VV→Option (List Value)
 | .lit (.agg vs)=>some vs.toList
 | .agg cs=>cs.mapM fun | .lit v=>some v | _=>none
 | _=>none
theorem Wd {x:VV} {vs:List Value} {u:Value} (h:Xl x=some vs) (hx:Rv S w x u):u=.agg vs.toArray:=by
 cases x with
 | lit v =>
   cases v<;>simp [Xl] at h
   subst h; obtain rfl:=hx; simp
 | agg cs =>
   obtain ⟨us,rfl,hl⟩:=hx;simp only [Xl] at h
   have:us.toList=vs:=by
    revert h hl
    generalize us.toList=l;clear us
    induction cs generalizing vs l with
    | nil=>intro h hl; simp [RvL] at hl; simp at h; simp [hl,h]
    | cons c cs ih =>
      intro h hl;obtain ⟨u,us',rfl,h1,h2⟩:=hl;simp only [List.mapM_cons,Option.bind_eq_bind,Option.pure_def] at h;cases c with
      | lit v =>
        simp only [Option.bind_some] at h;cases hm:cs.mapM (fun | .lit v=>some v | _=>none) with
        | none=>simp [hm] at h
        | some r =>
          simp [hm] at h;subst h;rw [ih us' hm h2];obtain rfl:=h1;rfl
      | _=>simp at h
   rw [← this]
 | _=>simp [Xl] at h
def vcBin (P:Program) (op:BinOp) (t:TypeId) (ox oy:Operand) (x y:VV) (H:AH) (K:VE→AH→Prop):Prop :=
 match x,y with
 | .lit (.int k a),.lit (.int k' b)=>(match binV op (.int k a) (.int k' b) with | some r=>K (.ret (.lit r)) H | none=>False)
 | .lit (.string a),.lit (.string b)=>(match binV op (.string a) (.string b) with | some r=>K (.ret (.lit r)) H | none=>False)
 | x,y =>
   match op with
   | .eql =>
     (match Xl x,Xl y with
      | some xs,some ys=>∃ b,EqAgg P t xs ys b∧K (.ret (boolV b)) H
      | _,_=>eqOk P t x y∧(Wk ox=true∨Wk oy=true∨P.underlying t=some .bool)∧∀ b,eqOut P t x y b→K (.ret (boolV b)) H)
   | .neq =>
     (match Xl x,Xl y with
      | some xs,some ys=>∃ b,EqAgg P t xs ys b∧K (.ret (boolV (!b))) H
      | _,_=>eqOk P t x y∧(Wk ox=true∨Wk oy=true∨P.underlying t=some .bool)∧∀ b,eqOut P t x y b→K (.ret (boolV (!b))) H)
   | _=>False
end
end Go.PV
end
section
open List renaming getElem?_eq_none→ZmS,getD_eq_getElem?_getD→Zne,replicate→ZmH,replicate_succ→ZmP,flatten_cons→ZmT,length_append→ZmB
open Nat renaming lt_or_ge→ZmI,zero_add→Zmh,add_zero→Zmo,eq_zero_or_pos→Zm9
open Option renaming map_eq_some_iff→Znc,map_some→Zm1,map_none→Zna
namespace Go.PV
section
variable {P:Program} {S:Nat→Prop} {H:AH} {w:World} {K:VE→AH→Prop}
def scal:Value→Value→Bool
 | .int _ _,.int _ _=>true
 | .float _ _,.float _ _=>true
 | .complex _ _ _,.complex _ _ _=>true
 | .string _,.string _=>true
 | _,_=>false
theorem ZgO {t:TypeId} {u v:Value} (h:scal u v=false):binOp .eql t u v=(do pure (.bool (← Op.equal t u v))):=by
 cases u<;>cases v<;>first | rfl | (simp [scal] at h)
theorem ZgP {t:TypeId} {u v:Value} (h:scal u v=false):binOp .neq t u v=(do pure (.bool (!(← Op.equal t u v)))):=by
 cases u<;>cases v<;>first | rfl | (simp [scal] at h)
theorem Zdb {op:BinOp} {t:TypeId} {ox oy:Operand} {u v:Value} (h1:∀ a b,u=.agg a→v=.agg b→False) (h2:Wk ox=true∨Wk oy=true∨u ≠ .nilIface) (w:World) :
 (eqGuard op t ox oy u v).run P w=.ok () w:=by
 cases op
 all_goals first
  | rfl
  | (cases u<;>cases v<;>first
      | rfl
      | (exact absurd (h1 _ _ rfl rfl) id)
      | (rcases h2 with h2 | h2 | h2
         ·cases ox<;>first | rfl | (cases h2; done)
         ·cases oy<;>first | (cases ox<;>rfl) | (cases h2; done)
         ·exact absurd rfl h2))
theorem Ze6 {t:TypeId} {x y:VV} {u v:Value} (h:eqOk P t x y) (hx:Rv S w x u) (hy:Rv S w y v) :
 scal u v=false∧(∀ a b,u=.agg a→v=.agg b→False)∧(P.underlying t=some .bool→u ≠ .nilIface):=by
 unfold eqOk at h;split at h
 ·obtain rfl:=hx; obtain rfl:=hy; exact ⟨rfl,(fun _ _ h=>by cases h),(fun _=>by simp)⟩
 ·obtain ⟨a,cap,rfl,_⟩:=hx; obtain rfl:=hy; exact ⟨rfl,(fun _ _ h=>by cases h),(fun _=>by simp)⟩
 ·obtain rfl:=hx; obtain rfl:=hy; exact ⟨rfl,(fun _ _ h=>by cases h),(fun _=>by simp)⟩
 ·obtain ⟨r,o,rfl,_⟩:=hx; obtain rfl:=hy; exact ⟨rfl,(fun _ _ h=>by cases h),(fun _=>by simp)⟩
 ·obtain rfl:=hx; obtain rfl:=hy; exact ⟨rfl,(fun _ _ h=>by cases h),(fun _=>by simp)⟩
 ·obtain ⟨z,rfl,_⟩:=hx; obtain rfl:=hy; exact ⟨rfl,(fun _ _ h=>by cases h),(fun _=>by simp)⟩
 ·obtain rfl:=hx; obtain rfl:=hy; exact ⟨rfl,(fun _ _ h=>by cases h),(fun _=>by simp)⟩
 ·obtain rfl:=hx; obtain rfl:=hy; obtain ⟨e,h⟩:=h; exact ⟨rfl,(fun _ _ h=>by cases h),(fun h'=>by rw [h] at h'; cases h')⟩
 ·obtain rfl:=hx; obtain rfl:=hy; exact ⟨rfl,(fun _ _ h=>by cases h),(fun _=>by simp)⟩
 ·obtain ⟨f,c,rfl,_⟩:=hx; obtain rfl:=hy; exact ⟨rfl,(fun _ _ h=>by cases h),(fun _=>by simp)⟩
 ·obtain rfl:=hx; obtain rfl:=hy; exact ⟨rfl,(fun _ _ h=>by cases h),(fun _=>by simp)⟩
 ·obtain rfl:=hx; obtain rfl:=hy; exact ⟨rfl,(fun _ _ h=>by cases h),(fun _=>by simp)⟩
 ·exact h.elim
theorem Zin {op:BinOp} {t:TypeId} {ox oy:Operand} {x y:VV} {u v:Value} (h:vcBin P op t ox oy x y H K) (hs:Sim S H w) (hx:Rv S w x u) (hy:Rv S w y v) :
 Res S H w K ((do eqGuard op t ox oy u v; binOp op t u v:Sem Value).run P w):=by
 unfold vcBin at h;split at h
 ·obtain rfl:=hx; obtain rfl:=hy;split at h
  ·rename_i r hr; exact .same (x:=.lit r) hs (ZiQ hr w) rfl h
  ·exact h.elim
 ·obtain rfl:=hx; obtain rfl:=hy;split at h
  ·rename_i r hr; exact .same (x:=.lit r) hs (ZiQ hr w) rfl h
  ·exact h.elim
 ·split at h
  ·split at h
   ·rename_i xs ys e1 e2;obtain ⟨b,⟨hg,hb⟩,hk⟩:=h;rw [Wd e1 hx,Wd e2 hy];exact .same hs (by simp [run_eqGuard_agg w _ t ox oy _ _ hg,ZgO (show scal (.agg xs.toArray) (.agg ys.toArray)=false from rfl),hb w]) (x:=boolV b) rfl hk
   ·obtain ⟨h1,h2,h3⟩:=h;obtain ⟨b,hb,ho⟩:=run_eq h1 hx hy;obtain ⟨g1,g2,g3⟩:=Ze6 h1 hx hy;have hg:=Zdb (P:=P) (op:=.eql) (t:=t) (ox:=ox) (oy:=oy) g2 (h2.imp id (fun h=>h.imp id g3)) w;exact .same hs (by simp [hg,ZgO g1,hb]) (x:=boolV b) rfl (h3 b ho)
  ·split at h
   ·rename_i xs ys e1 e2;obtain ⟨b,⟨hg,hb⟩,hk⟩:=h;rw [Wd e1 hx,Wd e2 hy];exact .same hs (by simp [run_eqGuard_agg w _ t ox oy _ _ hg,ZgP (show scal (.agg xs.toArray) (.agg ys.toArray)=false from rfl),hb w]) (x:=boolV (!b)) rfl hk
   ·obtain ⟨h1,h2,h3⟩:=h;obtain ⟨b,hb,ho⟩:=run_eq h1 hx hy;obtain ⟨g1,g2,g3⟩:=Ze6 h1 hx hy;have hg:=Zdb (P:=P) (op:=.neq) (t:=t) (ox:=ox) (oy:=oy) g2 (h2.imp id (fun h=>h.imp id g3)) w;exact .same hs (by simp [hg,ZgP g1,hb]) (x:=boolV (!b)) rfl (h3 b ho)
  ·exact h.elim
def unV (op:UnOp):Value→Option Value
 | .int k n=>(match op with | .neg=>some (.int k (k.wrap (0-n))) | _=>none)
 | .bool b=>(match op with | .not=>some (.bool (!b)) | _=>none)
 | _=>none
def vcUn (op:UnOp) (x:VV) (H:AH) (K:VE→AH→Prop):Prop :=
 match x with
 | .lit v=>(match unV op v with | some r=>K (.ret (.lit r)) H | none=>False)
 | _=>False
theorem Zjs {op:UnOp} {x:VV} {u:Value} (h:vcUn op x H K) (hs:Sim S H w) (hx:Rv S w x u):Res S H w K ((Op.unary op u).run P w):=by
 unfold vcUn at h;split at h
 ·rename_i v;obtain rfl:=hx;split at h
  ·rename_i r hr;refine .same hs ?_ (x:=.lit r) rfl h;unfold unV at hr;split at hr<;>cases op<;>simp at hr<;>subst hr<;>simp [Op.unary,Op.intArith]
  ·exact h.elim
 ·exact h.elim
def Zai (P:Program) (s d:TypeId) (x:VV) (H:AH) (K:VE→AH→Prop):Prop :=
 match x with
 | .lit (.int _ n)=>∃ k s',P.underlying s=some s'∧P.underlying d=some (.int k)∧K (.ret (.lit (.int k (k.wrap n)))) H
 | .lit (.string b)=>∃ s',P.underlying s=some s'∧(match P.underlying d with
   | some .string=>K (.ret (.lit (.string b))) H
   | some (.slice e)=>P.underlying e=some (.int .u8)∧K (.ret (.slice false b.size (b.data.toList.map fun c=>.lit (.int .u8 (c.toNat:Int))))) H
   | _=>False)
 | _=>False
theorem RvC.of_get {cs:List VV}:∀ {r o:Nat},(∀ j x,cs[j]?=some x→∃ u,w.cell? ⟨r,o+j,none⟩=some u∧Rv S w x u)→RvC S w cs r o:=by
 induction cs with
 | nil=>intro r o _; simp [RvC]
 | cons c cs ih =>
   intro r o h;refine ⟨by simpa using h 0 c (by simp),ih fun j x hx=>?_⟩
   have:=h (j+1) x (by simpa using hx)
   rwa [show o+(j+1)=o+1+j from by omega] at this
theorem Sim.share_at (h:Sim S H w) {w':World} (hsz:w'.heap.size=w.heap.size+1) (hold:∀ r,r<w.heap.size→w'.heap[r]?=w.heap[r]?) (h1:w'.os=w.os) (h2:w'.tape=w.tape) (h3:w'.output=w.output) :
 Sim (fun r=>S r∨r=w.heap.size) H w'∧Step S H w (fun r=>S r∨r=w.heap.size) H w':=by
 refine ⟨⟨fun r c hc=>?_,fun r c hc hs=>?_,fun r hr=>?_⟩,⟨h1,h2,h3,by omega,fun _ h=>.inl h,fun r hr _=>hold r hr,fun r hr=>.inl hr,fun r hr=>hr.elim .inl (fun e=>.inr (.inr (by omega)))⟩⟩
 ·exact (h.blk r c hc).mono (fun r hr=>⟨.inl hr,hold r (h.lt r hr)⟩) (hold r (h.lt_of hc))
 ·rcases hs with hs | hs
  ·exact h.dis r c hc hs
  ·have:=h.lt_of hc; omega
 ·rcases hr with hr | hr
  ·have:=h.lt r hr; omega
  ·omega
theorem Zhj {s d:TypeId} {x:VV} {u:Value} (h:Zai P s d x H K) (hs:Sim S H w) (hx:Rv S w x u):Res S H w K ((convert s d u).run P w):=by
 unfold Zai at h;split at h
 ·rename_i k n;obtain rfl:=hx;obtain ⟨k',s',h1,h2,h3⟩:=h;refine .same hs ?_ (x:=.lit (.int k' (k'.wrap _))) rfl h3;cases s'<;>simp [convert,run_underlying h1,run_underlying h2,Conv.intToInt]
 ·rename_i b;obtain rfl:=hx;obtain ⟨s',h1,h3⟩:=h;split at h3
  ·rename_i h2;refine .same hs ?_ (x:=.lit (.string _)) rfl h3;cases s'<;>simp [convert,run_underlying h1,run_underlying h2]
  ·rename_i e h2;obtain ⟨h4,h3⟩:=h3;have hr:=Lib.run_convert_string_bytes w s d e b h1 h2 h4;obtain ⟨g1,g2⟩:=hs.share_at (w':=Lib.bytesWorld w e b) (Lib.bytesWorld_size w e b) (fun r hr=>Lib.bytesWorld_at_old w e b r hr) rfl rfl rfl;have hcap:b.size≤grownCap w b.size 0 e:=grownCap_ge _ _ _ _;refine ⟨_,H,.slice false b.size (b.data.toList.map fun c=>.lit (.int .u8 (c.toNat:Int))),_,_,hr,g2,g1,⟨_,_,rfl,⟨hcap,fun h=>by cases h⟩,fun _=>⟨_,0,rfl,.inr rfl,RvC.of_get fun j x hx=>?_⟩⟩,h3⟩;simp only [List.getElem?_map,Znc] at hx;obtain ⟨c,hc,rfl⟩:=hx
   have hj:j<b.size:=by
    rcases ZmI j b.data.toList.length with h | h
    ·simpa using h
    ·rw [ZmS h] at hc; cases hc
   refine ⟨_,by rw [Zmh]; exact Lib.bytesWorld_cell w e b j hj,?_⟩;simp [Rv,Zne,hc]
  ·exact h3.elim
 ·exact h.elim
def ZaM (P:Program) (e:TypeId) (H:AH) (K:VE→AH→Prop):Prop :=
 match zeroT P e with
 | some zs=>∀ r,H r=none→K (.ret (ptrV r 0)) (H.set r (.cells e (zs.map .lit) 0))
 | none=>False
theorem Zgc {e:TypeId} (h:ZaM P e H K) (hs:Sim S H w):Res S H w K ((Instr.alloc e true (.tuple #[])).run P w):=by
 unfold ZaM at h;split at h
 ·rename_i zs hz;obtain ⟨z,h1,h2,_⟩:=ZgM hz w;obtain ⟨g1,g2,g3,g4⟩:=ZbQ (P:=P) (e:=e) (cells:=z.cells) (cs:=zs.map .lit) hs (by rw [h2]; exact RvL.lits _);exact ⟨S,_,ptrV w.heap.size 0,_,_,by simp [Instr.alloc,h1,newVar,g1],g3,g4,rfl,h _ g2⟩
 ·exact h.elim
def vcBox (e:TypeId) (x:VV) (H:AH) (K:VE→AH→Prop):Prop :=
 ∀ r,H r=none→K (.ret (ptrV r 0)) (H.set r (.cells e x.cells 0))
theorem Zio {e:TypeId} {x:VV} {u:Value} (h:vcBox e x H K) (hs:Sim S H w) (hx:Rv S w x u):Res S H w K ((Instr.box e u).run P w):=by
 obtain ⟨g1,g2,g3,g4⟩:=ZbQ (P:=P) (e:=e) (cells:=u.cells) (cs:=x.cells) hs hx.cells;exact ⟨S,_,ptrV w.heap.size 0,_,_,by simp [Instr.box,newVar,g1],g3,g4,rfl,h _ g2⟩
def stT (P:Program) (t:TypeId):Option (List Value × List (Nat × Nat)) :=
 match P.info? t,P.underlying t with
 | some it,some (.struct fields) =>
   (match it.zero,fields.toList.mapM (fun f=>(P.info? f.type).map fun i=>(f.offset,i.size)) with
    | some z,some places=>some (z.cells.toList,places)
    | _,_=>none)
 | _,_=>none
def fillV (pl:Nat→Option (Nat × Nat)) (cs:List VV):List (Nat × VV)→Option (List VV)
 | []=>some cs
 | (i,x)::rest =>
   match pl i with
   | none=>none
   | some (off,size)=>if x.cells.length=size∧off+size≤cs.length then fillV pl (setAt cs off x.cells) rest else none
theorem ZgQ (off:Nat):∀ (xs:List Value) (k:Nat) (cs:Array Value),(((xs.zipIdx k).foldl (fun cs (p:Value × Nat)=>cs.setIfInBounds (off+p.2) p.1) cs)).toList=setAt cs.toList (off+k) xs
 | [],k,cs=>by simp [setAt]
 | x::xs,k,cs=>by
   rw [List.zipIdx_cons,List.foldl_cons,ZgQ off xs (k+1)];simp [setAt,Nat.add_assoc]
def RvP (S:Nat→Prop) (w:World):List (Nat × VV)→List (Nat × Value)→Prop
 | [],us=>us=[]
 | (i,x)::xs,us=>∃ u us',us=(i,u)::us'∧Rv S w x u∧RvP S w xs us'
theorem ZcR {pl:Nat→Option (Nat × Nat)}:∀ {ps:List (Nat × VV)} {us:List (Nat × Value)} {cs ds:List VV} {vs:Array Value},RvP S w ps us→RvL S w cs vs.toList→fillV pl cs ps=some ds →
 ∃ arr,Instr.fill pl vs us=some arr∧RvL S w ds arr.toList
 | [],_,cs,ds,vs,hp,hl,hf=>by
   simp [RvP] at hp; subst hp;simp [fillV] at hf; subst hf;exact ⟨vs,rfl,hl⟩
 | (i,x)::ps,_,cs,ds,vs,hp,hl,hf=>by
   obtain ⟨u,us',rfl,hx,hps⟩:=hp;simp only [fillV] at hf;split at hf
   ·cases hf
   ·rename_i off size hpl;split at hf
    ·rename_i hc;have hlen:u.cells.size=x.cells.length:=by simpa using hx.cells.length
     have hvs:vs.size=cs.length:=by simpa using hl.length
     have hset:=RvL.setAt off hl hx.cells;have hfold:=ZgQ off u.cells.toList 0 vs;rw [Zmo] at hfold
     obtain ⟨arr,h1,h2⟩:=ZcR (vs:=(u.cells.zipIdx.foldl (fun cs (p:Value × Nat)=>cs.setIfInBounds (off+p.2) p.1) vs)) hps (by
      rw [← Array.foldl_toList,Array.toList_zipIdx,hfold]; exact hset) hf
     refine ⟨arr,?_,h2⟩;simp only [Instr.fill,hpl];rw [if_neg (by simp; omega)];exact h1
    ·cases hf
theorem RvP.of_map {A:AF} {a:Act} (h:∀ x,Rv S w (A.eval x) (a.eval x)):∀ (ps:List (Nat × Operand)),RvP S w (ps.map fun p=>(p.1,A.eval p.2)) (ps.map fun p=>(p.1,a.eval p.2))
 | []=>by simp [RvP]
 | p::ps=>⟨a.eval p.2,_,rfl,h p.2,RvP.of_map h ps⟩
def ZT (P:Program) (t:TypeId) (ps:List (Nat × VV)) (H:AH) (K:VE→AH→Prop):Prop :=
 match stT P t with
 | some (zs,pl)=>(match fillV (fun i=>pl[i]?) (zs.map .lit) ps with | some cs=>K (.ret (.agg cs)) H | none=>False)
 | none=>False
theorem Zgd {t:TypeId} {ps:List (Nat × VV)} {us:Array (Nat × Value)} (h:ZT P t ps H K) (hs:Sim S H w) (hp:RvP S w ps us.toList):Res S H w K ((Instr.build t us).run P w):=by
 unfold ZT at h;split at h
 ·rename_i zs pl hst;split at h
  ·rename_i cs hf;unfold stT at hst;split at hst
   ·rename_i it fields hi hu;split at hst
    ·rename_i z places hz hpl;cases hst;obtain ⟨arr,g1,g2⟩:=ZcR (vs:=z.cells) hp (RvL.lits _) hf;refine .same (x:=.agg cs) hs (run_build w t us arr ?_) ⟨arr,rfl,g2⟩ h;simp only [Program.built,hi,hu,hz,hpl];rw [← g1]
     congr 1
     funext i
     simp
    ·cases hst
   ·cases hst
  ·exact h.elim
 ·exact h.elim
theorem Za5 {α:Type} (n:Nat) (l:List α):(ZmH n l).flatten.length=n * l.length:=by
 induction n with
 | zero=>simp
 | succ n ih=>rw [ZmP,ZmT,ZmB,ih,Nat.succ_mul,Nat.add_comm]
theorem ZbK (z:Array Value) (n:Nat):(madeCells z (n * z.size)).toList=(ZmH n z.toList).flatten:=by
 rcases Zm9 z.size with h0 | h0
 ·have:z=#[]:=Array.eq_empty_of_size_eq_zero h0
  subst this
  induction n with
  | zero=>simp [madeCells]
  | succ n ih=>simp [madeCells,ZmP] at ih ⊢
 ·apply List.ext_getElem?
  intro i;simp only [madeCells,Array.toList_map,Array.toList_range,List.getElem?_map];by_cases hi:i<n * z.size
  ·rw [List.getElem?_range hi];simp only [Zm1];have hm:i % z.size<z.size:=Nat.mod_lt _ h0;rw [getElem!_pos z (i % z.size) hm]
   have hn:(ZmH n z.toList).flatten[i]?=z.toList[i % z.size]?:=by
    clear hm
    induction n generalizing i with
    | zero=>simp at hi
    | succ n ih =>
      rw [ZmP,ZmT];by_cases hlt:i<z.size
      ·rw [List.getElem?_append_left (by simpa using hlt),Nat.mod_eq_of_lt hlt]
      ·rw [List.getElem?_append_right (by simp; omega)];have h2:i-z.toList.length<n * z.size:=by simp; rw [Nat.succ_mul] at hi; omega
       rw [ih _ h2]
       congr 1
       rw [Nat.mod_eq_sub_mod (by omega:z.size≤i)];simp
   rw [hn];simp [hm]
  ·rw [ZmS (by simp; omega)];simp only [Zna];rw [ZmS];rw [Za5,Array.length_toList]; omega
end
end Go.PV
end
section
open Bool renaming and_eq_true→ZmA
open List renaming replicate→ZmH
open Nat renaming le_refl→Zmc
namespace Go.PV
section
variable {P:Program} {S:Nat→Prop} {H:AH} {w:World} {K:VE→AH→Prop}
theorem Zaj {e:TypeId} {zs:List Value} (h:zeroT P e=some zs):∃ i z,P.info? e=some i∧i.zero=some z∧z.cells.toList=zs:=by
 unfold zeroT at h;cases hi:P.info? e with
 | none=>simp [hi] at h
 | some i =>
   cases hz:i.zero with
   | none=>simp [hi,hz] at h
   | some z=>simp [hi,hz] at h; exact ⟨i,z,rfl,hz,h⟩
def ZB (P:Program) (t:TypeId) (len:Nat) (ps:List (Nat × VV)) (H:AH) (K:VE→AH→Prop):Prop :=
 match elT P t with
 | some (e,k,_) =>
   (match zeroT P e with
    | some zs=>(len * k≤16777216∧zs.length=k) ∧
       (match fillV (fun i=>some (i * k,k)) ((ZmH len zs).flatten.map .lit) ps with
        | some cs=>K (.ret (.slice true len cs)) H
        | none=>False)
    | none=>False)
 | none=>False
theorem ZcP {t:TypeId} {len:Nat} {ps:List (Nat × VV)} {us:Array (Nat × Value)} (h:ZB P t len ps H K) (hs:Sim S H w) (hp:RvP S w ps us.toList) :
 Res S H w K ((Instr.buildSlice t len us).run P w):=by
 unfold ZB at h;split at h
 ·rename_i e k b hel;obtain ⟨hu,i,hi,hik,_⟩:=Xr hel;split at h
  ·rename_i zs hz;obtain ⟨⟨hlen,hzk⟩,h⟩:=h;split at h
   ·rename_i cs hf;obtain ⟨i',z,hi',hz',hzs⟩:=Zaj hz;rw [hi] at hi'; cases hi';have hzsize:z.cells.size=k:=by rw [← hzk,← hzs]; simp
    obtain ⟨arr,h1,h2⟩:=ZcR (w:=w) (S:=S) (vs:=madeCells z.cells (len * k)) hp (by
     rw [← hzsize,ZbK,hzs]; exact RvL.lits _) hf
    obtain ⟨g1,g2,g3,g4⟩:=ZdM (P:=P) (e:=e) (cells:=arr) hs h2;refine ⟨_,H,.slice true len cs,.slice (some ⟨w.heap.size,0,none⟩) len len,_,?_,g2,g3,⟨_,_,rfl,⟨Zmc _,fun _=>rfl⟩,fun _=>⟨_,_,rfl,.inr rfl,g4⟩⟩,h⟩;by_cases h0:len * k=0
    ·have hmade:madeCells z.cells (len * k)=#[]:=by simp [madeCells,h0]
     rw [hmade] at h1;have hr:Array.map (fun x=>(#[]:Array Value)[x % (#[]:Array Value).size]!) (Array.range (len * k))=#[]:=by simp [h0]
     have h0':len * i.size=0:=by rw [hik]; exact h0
     have hn:¬ (16777216<len * i.size):=by omega
     have h1':Instr.fill (fun i_1=>some (i_1 * i.size,i.size)) #[] us.toList=some arr:=by rw [hik]; exact h1
     have hz0:Array.map (fun _=>(default:Value)) (Array.range 0)=#[]:=by simp [Array.range]
     simp [hz0,Instr.buildSlice,run_underlying hu,sizeOf,typeInfo,hi,h0',h1',g1]
    ·have h0':¬ len * i.size=0:=by rw [hik]; exact h0
     have hn:¬ (16777216<len * i.size):=by rw [hik]; omega
     have h1':Instr.fill (fun i_1=>some (i_1 * i.size,i.size)) (Array.map (fun x=>z.cells[x % z.cells.size]!) (Array.range (len * i.size))) us.toList=some arr:=by rw [hik]; exact h1
     simp only [Instr.buildSlice,run_underlying hu,sizeOf,typeInfo,hi,zeroValue,hz',Sem.run_bind,Sem.run_pure,Result.andThen_ok,run_program,h0',hn,if_false,gt_iff_lt,show (2:Nat) ^ 24=16777216 from rfl,h1',g1]
   ·exact h.elim
  ·exact h.elim
 ·exact h.elim
def Zcq (P:Program) (t:TypeId) (l c:VV) (H:AH) (K:VE→AH→Prop):Prop :=
 match elT P t,l,c with
 | some (e,k,b),.lit (.int _ l),.lit (.int _ c) =>
   (match zeroT P e with
    | some zs=>zs.length=k∧0≤l∧l≤c∧(b:Int) * c≤281474976710656∧c≤9223372036854775807 ∧
       ∀ r,H r=none→K (.ret (.lit (.slice (some ⟨r,0,none⟩) l.toNat c.toNat))) (H.set r (.cells e ((ZmH c.toNat zs).flatten.map .lit) 0))
    | none=>False)
 | _,_,_=>False
theorem Zhk {t:TypeId} {l c:VV} {u v:Value} (h:Zcq P t l c H K) (hs:Sim S H w) (hl:Rv S w l u) (hc:Rv S w c v):Res S H w K ((Instr.makeSlice t u v).run P w):=by
 unfold Zcq at h;split at h
 ·rename_i e k b q l q' c hel;obtain rfl:=hl;obtain rfl:=hc;obtain ⟨hu,i,hi,hik,hib⟩:=Xr hel;split at h
  ·rename_i zs hz;obtain ⟨h1,h2,h3,h4,h5,h6⟩:=h;obtain ⟨i',z,hi',hz',hzs⟩:=Zaj hz;rw [hi] at hi'; cases hi';have hzsize:z.cells.size=i.size:=by rw [hik,← h1,← hzs]; simp
   have hr:=run_make (P:=P) w t e i z hu hi hz' q q' l c h2 h3 (by rw [hib]; exact h4) h5;rw [← hzsize] at hr
   obtain ⟨g1,g2,g3,g4⟩:=ZbQ (P:=P) (e:=e) (cells:=madeCells z.cells (c.toNat * z.cells.size)) (cs:=(ZmH c.toNat zs).flatten.map .lit) hs (by
    rw [ZbK,hzs]; exact RvL.lits _)
   exact ⟨S,_,.lit (.slice (some ⟨w.heap.size,0,none⟩) l.toNat c.toNat),_,_,hr,g3,g4,rfl,h6 _ g2⟩
  ·exact h.elim
 ·exact h.elim
def idxV:Option VV→Nat→Nat
 | some (.lit (.int _ j)),_=>j.toNat
 | _,d=>d
def idxOk:Option VV→Prop
 | none=>True
 | some (.lit (.int _ j))=>0≤j
 | _=>False
def RvO (S:Nat→Prop) (w:World):Option VV→Option Value→Prop
 | none,u=>u=none
 | some x,u=>∃ v,u=some v∧Rv S w x v
theorem Ww {isS:Bool} {len cap:Nat} {lo hi mx:Option VV} {lo' hi' mx':Option Value} (h1:RvO S w lo lo') (h2:RvO S w hi hi') (h3:RvO S w mx mx')
 (o1:idxOk lo) (o2:idxOk hi) (o3:idxOk mx) (hx:mx ≠ none→hi ≠ none) (a1:idxV lo 0≤idxV hi len) (a2:hi ≠ none→idxV hi len≤idxV mx cap) (a3:idxV mx cap≤cap) :
 (Instr.sliceBounds isS len cap lo' hi' mx').run P w=.ok (idxV lo 0,idxV hi len,idxV mx cap) w:=by
 have one:∀ {o:Option VV} {o':Option Value} {d:Nat},RvO S w o o'→idxOk o→(o=none∧o'=none∧idxV o d=d)∨∃ x k j,o=some x∧o'=some (.int k j)∧0≤j∧idxV o d=j.toNat:=by
  intro o o' d h ho;cases o with
  | none=>exact .inl ⟨rfl,h,rfl⟩
  | some x =>
    obtain ⟨v,rfl,hv⟩:=h;unfold idxOk at ho;split at ho
    ·rename_i e; cases e
    ·rename_i k j e; cases e; obtain rfl:=hv; exact .inr ⟨_,k,j,rfl,rfl,ho,rfl⟩
    ·exact ho.elim
 have hb:∀ {k:IntKind} {j:Int} {y:Nat} {c:BoundsCode},0≤j→j.toNat≤y→(Instr.sliceBound (.int k j) y c).run P w=.ok j.toNat w:=by
  intro k j y c h0 h1
  have:0≤j∧j≤(y:Int):=⟨h0,by omega⟩
  simp [Instr.sliceBound,asIntOf,this]
 rcases one (d:=cap) h3 o3 with ⟨rfl,rfl,e3⟩ | ⟨x3,k3,j3,rfl,rfl,p3,e3⟩<;>rcases one (d:=len) h2 o2 with ⟨rfl,rfl,e2⟩ | ⟨x2,k2,j2,rfl,rfl,p2,e2⟩<;>rcases one (d:=0) h1 o1 with ⟨rfl,rfl,e1⟩ | ⟨x1,k1,j1,rfl,rfl,p1,e1⟩ <;>
  rw [e1,e2,e3]<;>rw [e1,e2] at a1<;>rw [e3] at a3<;>simp only [e2,e3] at a2
 ·simp [Instr.sliceBounds]
 ·simp [Instr.sliceBounds,hb p1 a1]
 ·have:=a2 (by simp); simp [Instr.sliceBounds,hb p2 this]
 ·have:=a2 (by simp); simp [Instr.sliceBounds,hb p2 this,hb p1 a1]
 ·exact absurd rfl (hx (by simp))
 ·exact absurd rfl (hx (by simp))
 ·have:=a2 (by simp); simp [Instr.sliceBounds,hb p2 this,hb p3 a3]
 ·have:=a2 (by simp); simp [Instr.sliceBounds,hb p2 this,hb p1 a1,hb p3 a3]
def Jc (lo hi mx:Option VV) (len cap:Nat):Prop :=
 idxOk lo∧idxOk hi∧idxOk mx∧(mx ≠ none→hi ≠ none)∧idxV lo 0≤idxV hi len∧idxV hi len≤idxV mx cap∧idxV mx cap≤cap
def Xx (P:Program) (t:TypeId) (x:VV) (lo hi mx:Option VV) (H:AH) (K:VE→AH→Prop):Prop :=
 match x with
 | .slice ex n cs =>
   (match elT P t with
    | some (_,k,_)=>Jc lo hi mx n n∧K (.ret (.slice (match mx with | some _=>idxV mx n == idxV hi n | none=>ex && idxV hi n == n) (idxV hi n-idxV lo 0) (cs.drop (idxV lo 0 * k)))) H
    | none=>False)
 | .lit (.slice (some ⟨r,o,none⟩) n c) =>
   (match elT P t with
    | some (_,k,_)=>Jc lo hi mx n c∧K (.ret (.lit (.slice (some ⟨r,if idxV mx c=idxV lo 0 then o else o+idxV lo 0 * k,none⟩) (idxV hi n-idxV lo 0) (idxV mx c-idxV lo 0)))) H
    | none=>False)
 | .lit (.slice none 0 0) =>
   (match elT P t with
    | some (_,k,_)=>Jc lo hi mx 0 0∧K (.ret (.lit (.slice none 0 0))) H
    | none=>False)
 | .lit (.string s)=>P.underlying t=some .string∧mx=none∧Jc lo hi none s.size s.size∧K (.ret (.lit (.string (s.extract (idxV lo 0) (idxV hi s.size))))) H
 | .lit (.pointer (some ⟨r,o,none⟩)) =>
   (match arT P t with
    | some (n,_,k)=>Jc lo hi mx n n∧K (.ret (.lit (.slice (some ⟨r,if idxV mx n=idxV lo 0 then o else o+idxV lo 0 * k,none⟩) (idxV hi n-idxV lo 0) (idxV mx n-idxV lo 0)))) H
    | none=>False)
 | _=>False
theorem Zge {t:TypeId} {x:VV} {lo hi mx:Option VV} {u:Value} {lo' hi' mx':Option Value} (h:Xx P t x lo hi mx H K) (hs:Sim S H w) (hx:Rv S w x u)
 (h1:RvO S w lo lo') (h2:RvO S w hi hi') (h3:RvO S w mx mx'):Res S H w K ((Instr.sliceAt t u lo' hi' mx').run P w):=by
 have noarr:∀ {p:TypeId × Nat × Nat},elT P t=some p→∀ w,(Instr.sliceAt t u lo' hi' mx').run P w=(Instr.slice t u lo' hi' mx').run P w:=by
  rintro ⟨e,k,b⟩ hel w;obtain ⟨hu,_⟩:=Xr hel;simp [Instr.sliceAt,run_underlying hu]
 unfold Xx at h;split at h
 ·rename_i ex n cs;split at h
  ·rename_i e k b hel;obtain ⟨hu,_⟩:=Xr hel;obtain ⟨⟨o1,o2,o3,hx',a1,a2,a3⟩,hk⟩:=h;obtain ⟨a,cap,rfl,⟨hle,hex⟩,hc⟩:=hx;rw [noarr hel]
   have hm:idxV mx n≤idxV mx cap∧idxV mx cap≤cap:=by
    cases mx with
    | none=>simp only [idxV]; exact ⟨hle,Zmc _⟩
    | some m =>
      unfold idxOk at o3;split at o3
      ·rename_i e; cases e
      ·rename_i k' j e; cases e; simp only [idxV] at a3 ⊢; omega
      ·exact o3.elim
   have hr:=Ww (P:=P) (isS:=true) (len:=n) (cap:=cap) h1 h2 h3 o1 o2 o3 hx' a1 (fun _=>by omega) hm.2;refine ⟨S,H,_,.slice (if idxV mx cap=idxV lo 0 then a else a.map (·.add (idxV lo 0 * k))) (idxV hi n-idxV lo 0) (idxV mx cap-idxV lo 0),w,?_,.refl _ _ _,hs,?_,hk⟩
   ·simp [Instr.slice,run_underlying hu,hr,Xq (Zgb hel)]
   ·refine ⟨_,_,rfl,⟨by omega,?_⟩,fun hn=>?_⟩
    ·intro he;cases mx with
     | none =>
       simp only [ZmA,beq_iff_eq] at he
       have:=hex he.1
       show cap-idxV lo 0=idxV hi n-idxV lo 0;omega
     | some m =>
       simp only [beq_iff_eq] at he;unfold idxOk at o3;split at o3
       ·rename_i e; cases e
       ·rename_i k' j e; cases e;have he':j.toNat=idxV hi n:=he;show j.toNat-idxV lo 0=idxV hi n-idxV lo 0;omega
       ·exact o3.elim
    ·obtain ⟨r,o,rfl,hr',hrc⟩:=hc (by omega);rw [if_neg (by omega)];exact ⟨r,o+idxV lo 0 * k,by simp [WR],hr',hrc.drop _⟩
  ·exact h.elim
 ·rename_i r o n c;split at h
  ·rename_i e k b hel;obtain ⟨hu,_⟩:=Xr hel;obtain ⟨⟨o1,o2,o3,hx',a1,a2,a3⟩,hk⟩:=h;obtain rfl:=hx;rw [noarr hel];have hr:=Ww (P:=P) (isS:=true) (len:=n) (cap:=c) h1 h2 h3 o1 o2 o3 hx' a1 (fun _=>a2) a3;refine .same (x:=.lit (.slice (some ⟨r,if idxV mx c=idxV lo 0 then o else o+idxV lo 0 * k,none⟩) (idxV hi n-idxV lo 0) (idxV mx c-idxV lo 0))) hs ?_ rfl hk;simp [Instr.slice,run_underlying hu,hr,Xq (Zgb hel),WR]
   split<;>rfl
  ·exact h.elim
 ·split at h
  ·rename_i e k b hel;obtain ⟨hu,_⟩:=Xr hel;obtain ⟨⟨o1,o2,o3,hx',a1,a2,a3⟩,hk⟩:=h;obtain rfl:=hx;rw [noarr hel];have hr:=Ww (P:=P) (isS:=true) (len:=0) (cap:=0) h1 h2 h3 o1 o2 o3 hx' a1 (fun _=>a2) a3;have e1:idxV mx 0=0:=by omega
   have e2:idxV hi 0=0:=by omega
   have e3:idxV lo 0=0:=by omega
   rw [e1,e2,e3] at hr;refine .same (x:=.lit (.slice none 0 0)) hs ?_ rfl hk;simp [Instr.slice,run_underlying hu,hr,Xq (Zgb hel)]
  ·exact h.elim
 ·rename_i s;obtain ⟨hu,hmx,⟨o1,o2,o3,hx',a1,a2,a3⟩,hk⟩:=h;obtain rfl:=hx;rw [hmx] at h3;have h3':mx'=none:=h3;have hr:=Ww (P:=P) (isS:=false) (len:=s.size) (cap:=s.size) h1 h2 h3 o1 o2 o3 hx' a1 (fun _=>a2) a3;refine .same (x:=.lit (.string (s.extract (idxV lo 0) (idxV hi s.size)))) hs ?_ rfl hk;rw [h3'] at hr ⊢;simp [Instr.sliceAt,Instr.slice,run_underlying hu,hr]
 ·rename_i r o;split at h
  ·rename_i n e k har;obtain ⟨hu,hk'⟩:=ZfN har;obtain ⟨⟨o1,o2,o3,hx',a1,a2,a3⟩,hk⟩:=h;obtain rfl:=hx;have hr:=Ww (P:=P) (isS:=false) (len:=n) (cap:=n) h1 h2 h3 o1 o2 o3 hx' a1 (fun _=>a2) a3;refine .same (x:=.lit (.slice (some ⟨r,if idxV mx n=idxV lo 0 then o else o+idxV lo 0 * k,none⟩) (idxV hi n-idxV lo 0) (idxV mx n-idxV lo 0))) hs ?_ rfl hk;simp [Instr.sliceAt,run_underlying hu,hr,Xq hk',WR,Instr.sureAddr]
   split<;>rfl
  ·exact h.elim
 ·exact h.elim
def vcLen (P:Program) (t:TypeId) (x:VV) (H:AH) (K:VE→AH→Prop):Prop :=
 match x with
 | .slice _ n _=>elT P t ≠ none∧K (.ret (intV n)) H
 | .lit (.slice _ n _)=>elT P t ≠ none∧K (.ret (intV n)) H
 | .lit (.string s)=>P.underlying t=some .string∧K (.ret (intV s.size)) H
 | _=>False
theorem Zip {t ty:TypeId} {x:VV} {u:Value} (h:vcLen P t x H K) (hs:Sim S H w) (hx:Rv S w x u):Res S H w K ((Builtin.len_ #[t] ty #[u]).run P w):=by
 unfold vcLen at h;split at h
 ·rename_i ex n cs;obtain ⟨a,cap,rfl,_⟩:=hx;obtain ⟨p,hp⟩:=Option.ne_none_iff_exists'.1 h.1;obtain ⟨hu,_⟩:=Xr (show elT P t=some (p.1,p.2.1,p.2.2) from hp);exact .same (x:=intV n) hs (by simp [Builtin.len_,run_underlying hu]; rfl) rfl h.2
 ·rename_i a n cap;obtain rfl:=hx;obtain ⟨p,hp⟩:=Option.ne_none_iff_exists'.1 h.1;obtain ⟨hu,_⟩:=Xr (show elT P t=some (p.1,p.2.1,p.2.2) from hp);exact .same (x:=intV n) hs (by simp [Builtin.len_,run_underlying hu]; rfl) rfl h.2
 ·rename_i s;obtain rfl:=hx;exact .same (x:=intV s.size) hs (by simp [Builtin.len_,run_underlying h.1]; rfl) rfl h.2
 ·exact h.elim
def vcMax (xs:List VV) (H:AH) (K:VE→AH→Prop):Prop :=
 match xs with
 | [.lit (.int k a),.lit (.int _ b)]=>K (.ret (.lit (.int k (if b > a then b else a)))) H
 | _=>False
def vcMin (xs:List VV) (H:AH) (K:VE→AH→Prop):Prop :=
 match xs with
 | [.lit (.int k a),.lit (.int _ b)]=>K (.ret (.lit (.int k (if b<a then b else a)))) H
 | _=>False
theorem RvL.two {x y:VV} {us:List Value} (h:RvL S w [x,y] us):∃ u v,us=[u,v]∧Rv S w x u∧Rv S w y v:=by
 obtain ⟨u,_,rfl,h1,v,_,rfl,h2,h3⟩:=h;simp [RvL] at h3; subst h3;exact ⟨u,v,rfl,h1,h2⟩
theorem RvL.one1 {x:VV} {us:List Value} (h:RvL S w [x] us):∃ u,us=[u]∧Rv S w x u:=by
 obtain ⟨u,_,rfl,h1,h3⟩:=h;simp [RvL] at h3; subst h3;exact ⟨u,rfl,h1⟩
theorem Ziq {ts:Array TypeId} {ty:TypeId} {xs:List VV} {us:Array Value} (h:vcMax xs H K) (hs:Sim S H w) (hx:RvL S w xs us.toList):Res S H w K ((Builtin.max_ ts ty us).run P w):=by
 unfold vcMax at h;split at h
 ·rename_i k a k' b;obtain ⟨u,v,e,h1,h2⟩:=hx.two;obtain rfl:=h1;obtain rfl:=h2;exact .same (x:=.lit (.int k (if b > a then b else a))) hs (by simp [Builtin.max_,e,Builtin.max2]) rfl h
 ·exact h.elim
theorem Zir {ts:Array TypeId} {ty:TypeId} {xs:List VV} {us:Array Value} (h:vcMin xs H K) (hs:Sim S H w) (hx:RvL S w xs us.toList):Res S H w K ((Builtin.min_ ts ty us).run P w):=by
 unfold vcMin at h;split at h
 ·rename_i k a k' b;obtain ⟨u,v,e,h1,h2⟩:=hx.two;obtain rfl:=h1;obtain rfl:=h2;exact .same (x:=.lit (.int k (if b<a then b else a))) hs (by simp [Builtin.min_,e,Builtin.min2]) rfl h
 ·exact h.elim
def Yw (x:VV) (i:Nat) (H:AH) (K:VE→AH→Prop):Prop :=
 match x with
 | .tuple cs=>(match cs[i]? with | some y=>K (.ret y) H | none=>False)
 | .lit (.tuple vs)=>(match vs[i]? with | some y=>K (.ret (.lit y)) H | none=>False)
 | _=>False
theorem ZeJ {x:VV} {i:Nat} {u:Value} (h:Yw x i H K) (hs:Sim S H w) (hx:Rv S w x u):Res S H w K ((Instr.extract u i).run P w):=by
 unfold Yw at h;split at h
 ·obtain ⟨vs,rfl,hl⟩:=hx;split at h
  ·rename_i y hy;obtain ⟨v,h1,h2⟩:=RvL.get? i y hl hy
   have:vs[i]?=some v:=by simpa using h1
   exact .same hs (by simp [Instr.extract,this]) h2 h
  ·exact h.elim
 ·obtain rfl:=hx;split at h
  ·rename_i y hy;exact .same (x:=.lit y) hs (by simp [Instr.extract,hy]) rfl h
  ·exact h.elim
 ·exact h.elim
def Zcr (P:Program) (t:TypeId) (x i:VV) (H:AH) (K:VE→AH→Prop):Prop :=
 match x,i with
 | .lit (.string s),.lit (.int _ j)=>P.underlying t=some .string∧0≤j∧(match s.data.toList[j.toNat]? with | some b=>K (.ret (.lit (.int .u8 (b.toNat:Int)))) H | none=>False)
 | _,_=>False
theorem Zgf {t:TypeId} {x i:VV} {u v:Value} (h:Zcr P t x i H K) (hs:Sim S H w) (hx:Rv S w x u) (hi:Rv S w i v):Res S H w K ((Instr.index t u v).run P w):=by
 unfold Zcr at h;split at h
 ·rename_i s k j;obtain rfl:=hx;obtain rfl:=hi;obtain ⟨h1,h2,h3⟩:=h;split at h3
  ·rename_i b hb
   have hb':s[j.toNat]?=some b:=by
    rw [← hb,Array.getElem?_toList];rfl
   refine .same (x:=.lit (.int .u8 (b.toNat:Int))) (u:=.int .u8 (b.toNat:Int)) hs ?_ rfl h3;simp [Instr.index,asIntOf,run_underlying h1,h2,hb']
  ·exact h3.elim
 ·exact h.elim
def Za6 (P:Program) (t:TypeId):Bool :=
 match P.underlying t with
 | some (.interface _)=>false
 | some _=>true
 | none=>false
theorem Zcs {t:TypeId} (h:Za6 P t=true):∃ d,P.underlying t=some d∧∀ m,d ≠ .interface m:=by
 unfold Za6 at h;split at h
 ·cases h
 ·rename_i d hn hu; exact ⟨d,hu,fun m e=>by subst e; exact hn m rfl⟩
 ·cases h
def Ze7 (P:Program) (t:TypeId) (x:VV) (H:AH) (K:VE→AH→Prop):Prop:=Za6 P t=true∧K (.ret (.iface t x)) H
theorem Zgg {t:TypeId} {x:VV} {u:Value} (h:Ze7 P t x H K) (hs:Sim S H w) (hx:Rv S w x u):Res S H w K ((Instr.makeInterface t u).run P w):=by
 obtain ⟨d,hu,hd⟩:=Zcs h.1;refine .same (x:=.iface t x) (u:=.iface t u) hs ?_ ⟨u,rfl,hx⟩ h.2;simp only [Instr.makeInterface,Sem.run_bind,run_underlying hu,Result.andThen_ok];cases d<;>first | rfl | exact absurd rfl (hd _)
def zeroV (P:Program) (t:TypeId):Option Value:=(P.info? t).bind (·.zero)
theorem ZaV {t:TypeId} {z:Value} (h:zeroV P t=some z) (w:World):(zeroValue t).run P w=.ok z w:=by
 unfold zeroV at h;cases hi:P.info? t with
 | none=>simp [hi] at h
 | some i=>simp [hi] at h; simp [zeroValue,typeInfo,hi,h]
def okV (ok:Bool) (x:VV) (b:Bool):VV:=if ok then .tuple [x,boolV b] else x
def Za7 (P:Program) (x:VV) (t:TypeId) (ok:Bool) (H:AH) (K:VE→AH→Prop):Prop :=
 Za6 P t=true ∧
 match x with
 | .iface u y=>if u=t then K (.ret (okV ok y true)) H else ok=true∧(match zeroV P t with | some z=>K (.ret (okV ok (.lit z) false)) H | none=>False)
 | .lit (.iface u y)=>if u=t then K (.ret (okV ok (.lit y) true)) H else ok=true∧(match zeroV P t with | some z=>K (.ret (okV ok (.lit z) false)) H | none=>False)
 | .lit .nilIface=>ok=true∧(match zeroV P t with | some z=>K (.ret (okV ok (.lit z) false)) H | none=>False)
 | _=>False
theorem Ze1 {x:VV} {xt t:TypeId} {ok:Bool} {u:Value} (h:Za7 P x t ok H K) (hs:Sim S H w) (hx:Rv S w x u):Res S H w K ((Instr.typeAssert u xt t ok).run P w):=by
 obtain ⟨hn,h⟩:=h;obtain ⟨d,hu,hd⟩:=Zcs hn
 have hyes:∀ (y:VV) (v:Value),Rv S w y v→K (.ret (okV ok y true)) H→Res S H w K ((Instr.typeAssert (.iface t v) xt t ok).run P w):=by
  intro y v hy hk;refine .same (x:=okV ok y true) (u:=if ok then .tuple #[v,.bool true] else v) hs ?_ ?_ hk
  ·simp only [Instr.typeAssert,Sem.run_bind,run_underlying hu,Result.andThen_ok];cases d<;>first | (simp; done) | exact absurd rfl (hd _)
  ·cases ok
   ·exact hy
   ·exact ⟨_,rfl,v,_,rfl,hy,_,[],rfl,rfl,rfl⟩
 have hno:∀ (v:Value) (z:Value),(v=.nilIface∨∃ t' y,t' ≠ t∧v=.iface t' y)→ok=true→zeroV P t=some z→K (.ret (okV ok (.lit z) false)) H→Res S H w K ((Instr.typeAssert v xt t ok).run P w):=by
  intro v z hv hok hz hk;subst hok;refine .same (x:=okV true (.lit z) false) (u:=.tuple #[z,.bool false]) hs ?_ ⟨_,rfl,z,_,rfl,rfl,_,[],rfl,rfl,rfl⟩ hk;rcases hv with rfl | ⟨t',y,hne,rfl⟩
  ·simp only [Instr.typeAssert,Sem.run_bind,run_underlying hu,Result.andThen_ok];cases d<;>first | (simp [ZaV hz]; done) | exact absurd rfl (hd _)
  ·simp only [Instr.typeAssert,Sem.run_bind,run_underlying hu,Result.andThen_ok];cases d<;>first | (simp [ZaV hz,hne]; done) | exact absurd rfl (hd _)
 split at h
 ·rename_i t' y;obtain ⟨v,rfl,hy⟩:=hx;split at h
  ·rename_i e; subst e; exact hyes y v hy h
  ·rename_i e;obtain ⟨h1,h2⟩:=h;split at h2
   ·rename_i z hz; exact hno _ z (.inr ⟨t',v,e,rfl⟩) h1 hz h2
   ·exact h2.elim
 ·rename_i t' y;obtain rfl:=hx;split at h
  ·rename_i e; subst e; exact hyes (.lit y) y rfl h
  ·rename_i e;obtain ⟨h1,h2⟩:=h;split at h2
   ·rename_i z hz; exact hno _ z (.inr ⟨t',y,e,rfl⟩) h1 hz h2
   ·exact h2.elim
 ·obtain rfl:=hx;obtain ⟨h1,h2⟩:=h;split at h2
  ·rename_i z hz; exact hno _ z (.inl rfl) h1 hz h2
  ·exact h2.elim
 ·exact h.elim
end
end Go.PV
end
section
open List renaming length_take→ZmV,eq_nil_of_length_eq_zero→Znd,length_append→ZmB
open Nat renaming eq_zero_or_pos→Zm9,zero_le→ZmU,mul_one→ZmM
namespace Go.PV
def OwnX (H0 H:AH) (e:TypeId) (k:Nat) (v:VV) (n:Nat) (cs:List VV):Prop :=
 (v=.lit (.slice none 0 0)∧n=0∧cs=[]∧H=H0) ∨
 ∃ g c sp,v=.lit (.slice (some ⟨g,0,none⟩) n c)∧H0 g=none∧H=H0.set g (.cells e cs sp)∧cs.length=n * k∧c * k=cs.length+sp∧n≤c∧c≤maxLen
section
variable {P:Program} {S:Nat→Prop} {H H0:AH} {w:World} {K:VE→AH→Prop}
theorem OwnX.nil (H:AH) (e:TypeId) (k:Nat):OwnX H H e k (.lit (.slice none 0 0)) 0 []:=.inl ⟨rfl,rfl,rfl,rfl⟩
theorem OwnX.len {e:TypeId} {k n:Nat} {v:VV} {cs:List VV} (h:OwnX H0 H e k v n cs):cs.length=n * k:=by
 rcases h with ⟨_,rfl,rfl,_⟩ | ⟨g,c,sp,_,_,_,h,_⟩
 ·simp
 ·exact h
def srcV (H:AH) (k:Nat):VV→Option (Nat × List VV)
 | .slice _ n cs=>if n * k≤cs.length then some (n,cs.take (n * k)) else none
 | .lit (.slice none 0 0)=>some (0,[])
 | .lit (.slice (some ⟨r,o,none⟩) n _) =>
   (match H r with
    | some (.cells _ cs _)=>if o+n * k≤cs.length then some (n,(cs.drop o).take (n * k)) else none
    | _=>none)
 | _=>none
theorem Zcb {k m:Nat} {x:VV} {news:List VV} {u:Value} (h:srcV H k x=some (m,news)) (hs:Sim S H w) (hx:Rv S w x u) :
 news.length=m * k∧∃ us:List Value,RvL S w news us ∧
  ((u=.slice none 0 0∧m=0)∨(∃ a c,u=.slice a m c∧(0<m→∃ r o,a=some ⟨r,o,none⟩∧∀ j v,us[j]?=some v→w.cell? ⟨r,o+j,none⟩=some v))):=by
 unfold srcV at h;split at h
 ·rename_i ex n cs;split at h
  ·rename_i hle;simp at h;obtain ⟨rfl,rfl⟩:=h;obtain ⟨a,cap,rfl,_,hc⟩:=hx;refine ⟨by rw [ZmV]; omega,?_⟩;rcases Zm9 n with h0 | h0
   ·subst h0;exact ⟨[],by simp [RvL],.inr ⟨a,cap,rfl,fun h=>absurd h (by omega)⟩⟩
   ·obtain ⟨r,o,rfl,hr,hrc⟩:=hc h0;obtain ⟨us,h1,h2⟩:=(hrc.take (n * k)).list;exact ⟨us,h1,.inr ⟨_,cap,rfl,fun _=>⟨r,o,rfl,h2⟩⟩⟩
  ·cases h
 ·simp at h;obtain ⟨rfl,rfl⟩:=h;obtain rfl:=hx;exact ⟨by simp,[],by simp [RvL],.inl ⟨rfl,rfl⟩⟩
 ·rename_i r o n c;split at h
  ·rename_i e cs sp hb;split at h
   ·rename_i hle;simp at h;obtain ⟨rfl,rfl⟩:=h;obtain rfl:=hx;have hc:=((hs.blk r _ hb).cells_at o).take (n * k);obtain ⟨us,h1,h2⟩:=hc.list;exact ⟨by rw [ZmV,List.length_drop]; omega,us,h1,.inr ⟨_,c,rfl,fun _=>⟨r,o,rfl,h2⟩⟩⟩
   ·cases h
  ·cases h
 ·cases h
theorem Zbo (w:World) {t ty e:TypeId} {i:TypeInfo} {size:Nat} {base:Nat} (ht:P.underlying t=some (.slice e)) (hi:P.info? e=some i)
 (v:Value) (n:Nat) (xs:List Value) (hown:w.ownsRow base e size v n xs) (b:Option Addr) (c:Nat):(Builtin.append_ #[t,t] ty #[v,.slice b 0 c]).run P w=.ok v w:=by
 rcases hown.2 with ⟨rfl,rfl⟩ | ⟨g,cap,cur,rfl,_,_,hnc,_⟩
 ·cases b<;>simp [Builtin.append_,run_underlying ht,sizeOf,typeInfo,hi,Builtin.lenOf,Builtin.firstCells,loadCells,loadCellsFrom,storeCells]
 ·cases b<;>simp [Builtin.append_,run_underlying ht,sizeOf,typeInfo,hi,Builtin.lenOf,Builtin.firstCells,hnc,loadCells,loadCellsFrom,storeCells]
def ZfO (P:Program) (t:TypeId) (s x:VV) (H:AH) (K:VE→AH→Prop):Prop :=
 ∃ e k b zs H0 n cs m news,elT P t=some (e,k,b)∧zeroT P e=some zs∧zs.length=k∧0<k∧OwnX H0 H e k s n cs∧srcV H k x=some (m,news)∧news.all VV.one=true ∧
   (n+m) * b≤140737488355328∧n+m≤9223372036854775807∧∀ v' H',OwnX H0 H' e k v' (n+m) (cs++news)→K (.ret v') H'
theorem Ze2 {t ty:TypeId} {s x:VV} {u v:Value} (h:ZfO P t s x H K) (hs:Sim S H w) (hsu:Rv S w s u) (hxv:Rv S w x v) :
 Res S H w K ((Builtin.append_ #[t,t] ty #[u,v]).run P w):=by
 obtain ⟨e,k,b,zs,H0,n,cs,m,news,hel,hz,hzk,hk,hown,hsrc,hone,hbytes,h63,hK⟩:=h;obtain ⟨hu,i,hi,hik,hib⟩:=Xr hel;obtain ⟨i',z,hi',hz',hzs⟩:=Zaj hz;rw [hi] at hi'; cases hi';have hzsize:z.cells.size=k:=by rw [← hzk,← hzs]; simp
 obtain ⟨hnl,us,hus,hform⟩:=Zcb hsrc hs hxv;have hmax:n+m≤maxLen:=by simp only [maxLen]; omega
 have hrow:∃ xs,RvL S w cs xs∧w.ownsRow 0 e k u n xs:=by
  rcases hown with ⟨rfl,rfl,rfl,rfl⟩ | ⟨g,c,sp,rfl,h0,rfl,h1,h2,h3,h4⟩
  ·obtain rfl:=hsu;exact ⟨[],by simp [RvL],by simp,.inl ⟨rfl,rfl⟩⟩
  ·obtain rfl:=hsu;obtain ⟨vs,g1,g2,g3⟩:=hs.blk g _ (AH.set_same H0 g _);refine ⟨_,g3,?_,.inr ⟨g,c,vs,rfl,ZmU _,g1,h3,h4,by rw [g2,← h2],by rw [h1]⟩⟩;rw [g3.length,h1]
 obtain ⟨xs,hxs,hrow⟩:=hrow;by_cases hm:m=0
 ·subst hm;have hnil:news=[]:=Znd (by simpa using hnl);subst hnil
  have hr:(Builtin.append_ #[t,t] ty #[u,v]).run P w=.ok u w:=by
   rcases hform with ⟨rfl,_⟩ | ⟨a,c,rfl,_⟩
   ·exact Zbo w hu hi u n xs hrow none 0
   ·exact Zbo w hu hi u n xs hrow a c
  exact .same hs hr hsu (hK s H (by simpa using hown))
 ·obtain ⟨a,c,rfl,hcell0⟩:∃ a c,v=.slice a m c∧(0<m→∃ r o,a=some ⟨r,o,none⟩∧∀ j v,us[j]?=some v→w.cell? ⟨r,o+j,none⟩=some v):=by
   rcases hform with ⟨_,h0⟩ | h
   ·exact absurd h0 hm
   ·exact h
  obtain ⟨r,o,rfl,hcell⟩:=hcell0 (by omega)
  obtain ⟨v',w',hrun,hown',hgrow,hnil',hwhere⟩:=run_append_own_at (P:=P) w 0 t ty e i z k b hu hi hz' hik hib hzsize hk u n xs hrow ⟨r,o,none⟩ m c us
   (by rw [hus.length,hnl]) (fun j y hy=>by rw [WR]; exact hcell j y hy) (hus.ones hone) hmax hbytes (ZmU _)
  obtain ⟨g',cap',cur',hv',_,hh',hle',hcm',hcs',htk'⟩:∃ g cap cur,v'=.slice (some ⟨g,0,none⟩) (n+m) cap∧0≤g∧w'.heap[g]?=some (.cells cur e (0,0))∧n+m≤cap∧cap≤maxLen∧cur.size=cap * k∧cur.toList.take ((n+m) * k)=xs++us:=by
   rcases hown'.2 with ⟨_,h0⟩ | h
   ·omega
   ·exact h
  subst hv'
  have hown0:∀ q,u.ownBlock=some q→∃ sp,H q=some (.cells e cs sp)∧H0 q=none∧H=H0.set q (.cells e cs sp):=by
   intro q hq;rcases hown with ⟨rfl,rfl,rfl,rfl⟩ | ⟨g,c,sp,rfl,h0,rfl,_⟩
   ·obtain rfl:=hsu; simp [Value.ownBlock] at hq
   ·obtain rfl:=hsu;simp [Value.ownBlock] at hq;subst hq;exact ⟨sp,AH.set_same _ _ _,h0,rfl⟩
  have hH0:∀ q,u.ownBlock ≠ some q→H q=H0 q:=by
   intro q hq;rcases hown with ⟨rfl,rfl,rfl,rfl⟩ | ⟨g,c,sp,rfl,h0,rfl,_⟩
   ·rfl
   ·obtain rfl:=hsu;simp [Value.ownBlock] at hq;exact AH.set_ne _ _ (fun e=>hq e.symm)
  have hg'0:H0 g'=none:=by
   rcases hwhere with hw | hw
   ·obtain ⟨sp,h1,h2,_⟩:=hown0 g' (hw ▸ rfl);exact h2
   ·simp [Value.ownBlock] at hw;subst hw
    have:H w.heap.size=none:=by
     cases e':H w.heap.size with
     | none=>rfl
     | some c=>exact absurd (hs.lt_of e') (by omega)
    by_cases hq:u.ownBlock=some w.heap.size
    ·obtain ⟨sp,h1,_⟩:=hown0 _ hq;rw [this] at h1; cases h1
    ·rw [← hH0 _ hq]; exact this
  have hS0:∀ q,S q→u.ownBlock ≠ some q:=fun q hq he=>by
   obtain ⟨sp,h1,_⟩:=hown0 q he;exact hs.dis q _ h1 hq
  have hkeep:∀ q,S q→S q∧w'.heap[q]?=w.heap[q]?:=fun q hq=>⟨hq,hgrow.block q (hs.lt q hq) (fun e=>hS0 q hq e.symm)⟩
  refine ⟨S,H0.set g' (.cells e (cs++news) (cap' * k-(n+m) * k)),.lit (.slice (some ⟨g',0,none⟩) (n+m) cap'),_,w',hrun,?_,?_,rfl,hK _ _ (.inr ⟨g',cap',_,rfl,hg'0,rfl,?_,?_,hle',hcm'⟩)⟩
  ·refine ⟨hgrow.os,hgrow.tape,hgrow.output,hgrow.size,fun _ h=>h,fun q hq hn=>hgrow.block q hq (fun e=>?_),fun q hq=>?_,fun _ h=>.inl h⟩
   ·obtain ⟨sp,h1,_⟩:=hown0 q e.symm;rw [hn] at h1; cases h1
   ·simp only [AH.set] at hq;split at hq
    ·rename_i e'; subst e';rcases hwhere with hw | hw
     ·obtain ⟨sp,h1,_⟩:=hown0 q (by rw [← hw]; rfl);exact .inl (by simp [h1])
     ·simp [Value.ownBlock] at hw;exact .inr (by omega)
    ·by_cases hq':u.ownBlock=some q
     ·obtain ⟨sp,h1,_⟩:=hown0 q hq';exact .inl (by simp [h1])
     ·exact .inl (by rw [hH0 q hq']; exact hq)
  ·refine ⟨fun q blk hq=>?_,fun q blk hq hSq=>?_,fun q hq=>Nat.lt_of_lt_of_le (hs.lt q hq) hgrow.size⟩
   ·simp only [AH.set] at hq;split at hq
    ·rename_i e'; subst e'; cases hq;refine ⟨cur',hh',?_,?_⟩
     ·rw [ZmB,hnl,hown.len,hcs',← Nat.add_mul]
      have:=Nat.mul_le_mul_right k hle'
      omega
     ·rw [ZmB,hnl,hown.len,← Nat.add_mul,htk'];exact RvL.append (RvL.mono hkeep _ _ hxs) (RvL.mono hkeep _ _ hus)
    ·rename_i hne
     have hqu:u.ownBlock ≠ some q:=fun e=>by
      obtain ⟨sp,_,h2,_⟩:=hown0 q e;rw [h2] at hq; cases hq
     have hHq:H q=some blk:=by rw [hH0 q hqu]; exact hq
     exact (hs.blk q blk hHq).mono hkeep (hgrow.block q (hs.lt_of hHq) (fun e=>hqu e.symm))
   ·simp only [AH.set] at hq;split at hq
    ·rename_i e'; subst e';rcases hwhere with hw | hw
     ·exact hS0 q hSq (by rw [← hw]; rfl)
     ·simp [Value.ownBlock] at hw
      have:=hs.lt q hSq
      omega
    ·have hqu:u.ownBlock ≠ some q:=fun e=>by
      obtain ⟨sp,_,h2,_⟩:=hown0 q e;rw [h2] at hq; cases hq
     exact hs.dis q blk (by rw [hH0 q hqu]; exact hq) hSq
  ·rw [ZmB,hnl,hown.len,← Nat.add_mul]
  ·rw [ZmB,hnl,hown.len,← Nat.add_mul]
   have:=Nat.mul_le_mul_right k hle'
   omega
def ZeT (P:Program) (t:TypeId) (d x:VV) (H:AH) (K:VE→AH→Prop):Prop :=
 match elT P t,d with
 | some (_,1,_),.lit (.slice (some ⟨r,o,none⟩) n _) =>
   (match H r,srcV H 1 x with
    | some (.cells e cs sp),some (m,news)=>news.all VV.one=true∧o+n≤cs.length∧K (.ret (intV (Nat.min m n))) (H.set r (.cells e (setAt cs o (news.take n)) sp))
    | _,_=>False)
 | _,_=>False
theorem Zhl {t t' ty:TypeId} {d x:VV} {u v:Value} (h:ZeT P t d x H K) (hs:Sim S H w) (hdu:Rv S w d u) (hxv:Rv S w x v) :
 Res S H w K ((Builtin.copy_ #[t,t'] ty #[u,v]).run P w):=by
 unfold ZeT at h;split at h
 ·rename_i e' b r o n c hel;obtain ⟨hu,i,hi,hik,hib⟩:=Xr hel;obtain rfl:=hdu;split at h
  ·rename_i e cs sp m news hb hsrc;obtain ⟨hone,hle,hk⟩:=h;obtain ⟨hnl,us,hus,hform⟩:=Zcb hsrc hs hxv;rw [ZmM] at hnl
   have hone':(news.take n).all VV.one=true:=by
    rw [List.all_eq_true] at hone ⊢;exact fun y hy=>hone y (List.mem_of_mem_take hy)
   have htl:(news.take n).length=Nat.min m n:=by rw [ZmV,hnl]; exact Nat.min_comm _ _
   obtain ⟨w',g1,g2,g3⟩:=JR (P:=P) (o:=o) hs hb (hus.take n) hone' (by rw [htl]; have:Nat.min m n≤n:=Nat.min_le_right m n; omega);refine ⟨S,_,intV (Nat.min m n),.int .i64 (Nat.min m n:Nat),w',?_,g2,g3,rfl,hk⟩;have hus_len:(us.take n).length=Nat.min m n:=by rw [(hus.take n).length,htl]
   have hfirst:∀ a c',v=.slice a m c'→(Builtin.firstCells i.size (Nat.min m n) v).run P w=.ok (us.take n).toArray w:=by
    rintro a c' rfl;rw [hik];rcases Zm9 m with h0 | h0
    ·subst h0
     have:us=[]:=Znd (by rw [hus.length,hnl])
     subst this;cases a<;>simp [Builtin.firstCells,loadCells,loadCellsFrom]
    ·have hc:∃ r o,a=some ⟨r,o,none⟩∧∀ j y,us[j]?=some y→w.cell? ⟨r,o+j,none⟩=some y:=by
      rcases hform with ⟨_,h1⟩ | ⟨a',c'',e1,h1⟩
      ·omega
      ·cases e1; exact h1 h0
     obtain ⟨r',o',rfl,hcell⟩:=hc
     have:=run_loadCells_list (P:=P) w ⟨r',o',none⟩ (us.take n) (fun j y hy=>by
      rw [WR];refine hcell j y ?_;rw [List.getElem?_take] at hy;split at hy
      ·exact hy
      ·cases hy)
     rw [hus_len] at this;simp [Builtin.firstCells,this]
   have hlen:(Builtin.lenOf v).run P w=.ok m w:=by
    rcases hform with ⟨rfl,rfl⟩ | ⟨a,c',rfl,_⟩<;>simp [Builtin.lenOf]
   have hf:(Builtin.firstCells i.size (Nat.min m n) v).run P w=.ok (us.take n).toArray w:=by
    rcases hform with ⟨rfl,rfl⟩ | ⟨a,c',rfl,_⟩
    ·exact hfirst none 0 rfl
    ·exact hfirst a c' rfl
   simp [Builtin.copy_,run_underlying hu,hlen,sizeOf,typeInfo,hi,hf,g1,goInt]
  ·exact h.elim
 ·exact h.elim
end
end Go.PV
end
section
open List renaming mem_singleton→Zm2,map_cons→Zmd,map_nil→Zmg,getElem_mem→ZmE,getElem?_eq_getElem→ZmW
open Option renaming map_eq_some_iff→Znc
namespace Go.PV
open Go.Maps
section
variable {P:Program} {S:Nat→Prop} {H H0:AH} {w:World} {K:VE→AH→Prop}
def ZW (P:Program) (t:TypeId) (k:Value):Prop:=∃ kt et l,P.underlying t=some (.map kt et)∧keyOf P kt k=some l
structure MapT (P:Program) (t:TypeId) (z:Value):Prop where
 mk::(out:∃ kt et,P.underlying t=some (.map kt et)∧Keyed P kt∧zeroV P et=some z)
def Za8:VV→Option Value
 | .lit v=>some v
 | .agg cs=>(Xl (.agg cs)).map fun vs=>.agg vs.toArray
 | _=>none
theorem ZbR {x:VV} {v u:Value} (h:Za8 x=some v) (hx:Rv S w x u):u=v:=by
 cases x with
 | lit y=>simp [Za8] at h; subst h; exact hx
 | agg cs =>
   simp only [Za8,Znc] at h;obtain ⟨vs,h1,rfl⟩:=h;exact Wd h1 hx
 | _=>simp [Za8] at h
open Classical in
noncomputable def mset (m:Value→Option VV) (k:Value) (x:VV):Value→Option VV:=fun k'=>if k'=k then some x else m k'
theorem Wq (m:Value→Option VV) (k:Value) (x:VV):mset m k x k=some x:=by simp [mset]
theorem Wu (m:Value→Option VV) {k k':Value} (x:VV) (h:k' ≠ k):mset m k x k'=m k':=by simp [mset,h]
def ZaW (P:Program) (t:TypeId) (H:AH) (K:VE→AH→Prop):Prop :=
 ∀ r,H r=none→K (.ret (.lit (.map (some r)))) (H.set r (.map (ZW P t) (fun _=>none)))
theorem ZeK {t:TypeId} (h:ZaW P t H K) (hs:Sim S H w):Res S H w K ((Instr.makeMap t none).run P w):=by
 have:=hs.push (o:=.map #[] 0) (b:=.map (ZW P t) (fun _=>none)) ⟨#[],0,by simp,by simp,by simp,by simp,by simp,by simp,by simp⟩
 exact ⟨S,_,.lit (.map (some w.heap.size)),_,_,by simp [Instr.makeMap],this.2.1,this.1,rfl,h _ this.2.2⟩
def XP (P:Program) (t:TypeId) (x key:VV) (ok:Bool) (H:AH) (K:VE→AH→Prop):Prop :=
 ∃ z,MapT P t z∧∃ kv,Za8 key=some kv∧ZW P t kv ∧
 match x with
 | .lit (.map none)=>K (.ret (okV ok (.lit z) false)) H
 | .lit (.map (some r)) =>
   (match H r with
    | some (.map ks m)=>(∀ k,ks k→ZW P t k)∧(match m kv with | some y=>K (.ret (okV ok y true)) H | none=>K (.ret (okV ok (.lit z) false)) H)
    | _=>False)
 | _=>False
theorem ZfP {ok:Bool} {x:VV} {v:Value} (b:Bool) (hx:Rv S w x v):Rv S w (okV ok x b) (if ok then .tuple #[v,.bool b] else v):=by
 cases ok
 ·exact hx
 ·exact ⟨_,rfl,v,_,rfl,hx,_,[],rfl,rfl,rfl⟩
theorem Ze3 {t:TypeId} {x key:VV} {ok:Bool} {u v:Value} (h:XP P t x key ok H K) (hs:Sim S H w) (hx:Rv S w x u) (hk:Rv S w key v) :
 Res S H w K ((Instr.lookup t u v ok).run P w):=by
 obtain ⟨z,⟨kt,et,hu,hK,hz⟩,kv,hkv,⟨kt',et',l,hu',hl⟩,h⟩:=h;rw [hu] at hu'; cases hu';obtain rfl:=ZbR hkv hk;split at h
 ·obtain rfl:=hx;refine .same (x:=okV ok (.lit z) false) hs ?_ (ZfP (v:=z) false rfl) h
  have hf:(Instr.findKey kt v ([]:List MapEntry)).run P w=.ok none w:=by
   rcases hK.find w hl [] (by simp) with ⟨h1,_⟩ | ⟨j,e,_,h2,_⟩
   ·exact h1
   ·simp at h2
  simp [Instr.lookup,run_underlying hu,hK.check w true hl,hf,ZaV hz]
 ·rename_i r;obtain rfl:=hx;split at h
  ·rename_i ks m hb;obtain ⟨hks,h⟩:=h;obtain ⟨arr,clock,g1,g2,g3,g4,g5,g6,g7⟩:=hs.blk r _ hb
   have hall:∀ e∈arr.toList,∃ l,keyOf P kt e.key=some l:=fun e he=>by
    obtain ⟨kt',et',l,h1,h2⟩:=hks _ (g2 e he);rw [hu] at h1; cases h1; exact ⟨l,h2⟩
   have hget:(getObj r).run P w=.ok (.map arr clock) w:=by simp only [getObj,Sem.run,g1]
   rcases hK.find w hl arr.toList hall with ⟨h1,h2⟩ | ⟨j,e,h1,h2,h3⟩
   ·have hm:m v=none:=by
     cases hm:m v with
     | none=>rfl
     | some y=>obtain ⟨e,he,hke⟩:=g5 v y hm; exact absurd hke (h2 e he)
    rw [hm] at h;refine .same (x:=okV ok (.lit z) false) hs ?_ (ZfP (v:=z) false rfl) h;simp [Instr.lookup,run_underlying hu,hget,hK.check w _ hl,h1,ZaV hz]
   ·have he:e∈arr.toList:=List.mem_of_getElem? h2;obtain ⟨y,hy,hyr⟩:=g4 e he;rw [h3] at hy;rw [hy] at h;refine .same (x:=okV ok y true) hs ?_ (ZfP true hyr) h;simp [Instr.lookup,run_underlying hu,hget,hK.check w _ hl,h1]
  ·exact h.elim
 ·exact h.elim
def XY (P:Program) (t:TypeId) (x key y:VV) (H:AH) (K:VE→AH→Prop):Prop :=
 ∃ z,MapT P t z∧∃ kv,Za8 key=some kv∧ZW P t kv ∧
 match x with
 | .lit (.map (some r)) =>
   (match H r with
    | some (.map ks m)=>(∀ k,ks k→ZW P t k)∧ks kv∧K (.ret Zx) (H.set r (.map ks (mset m kv y)))
    | _=>False)
 | _=>False
theorem ZbL {t:TypeId} {x key y:VV} {u v q:Value} (h:XY P t x key y H K) (hs:Sim S H w) (hx:Rv S w x u) (hk:Rv S w key v) (hy:Rv S w y q) :
 ∃ S' H' w',(Instr.mapUpdate t u v q).run P w=.ok () w'∧Step S H w S' H' w'∧Sim S' H' w'∧K (.ret Zx) H':=by
 obtain ⟨z,⟨kt,et,hu,hK,hz⟩,kv,hkv,⟨kt',et',l,hu',hl⟩,h⟩:=h;rw [hu] at hu'; cases hu';obtain rfl:=ZbR hkv hk;split at h
 ·rename_i r;obtain rfl:=hx;split at h
  ·rename_i ks m hb;obtain ⟨hks,hkk,h⟩:=h;obtain ⟨arr,clock,g1,g2,g3,g4,g5,g6,g7⟩:=hs.blk r _ hb
   have hall:∀ e∈arr.toList,∃ l,keyOf P kt e.key=some l:=fun e he=>by
    obtain ⟨kt',et',l,h1,h2⟩:=hks _ (g2 e he);rw [hu] at h1; cases h1; exact ⟨l,h2⟩
   have hget:(getObj r).run P w=.ok (.map arr clock) w:=by simp only [getObj,Sem.run,g1]
   have hset:∀ o,(setObj r o).run P w=.ok () { w with heap:=w.heap.setIfInBounds r o }:=fun o=>by simp [setObj,Sem.run,g1]
   have hkeep:∀ o,∀ i,S i→S i∧(w.heap.setIfInBounds r o)[i]?=w.heap[i]?:=fun o i hi=>⟨hi,by rw [Array.getElem?_setIfInBounds,if_neg (by rintro rfl; exact hs.dis r _ hb hi)]⟩
   have hat:∀ o,(w.heap.setIfInBounds r o)[r]?=some o:=fun o=>by rw [Array.getElem?_setIfInBounds,if_pos rfl,if_pos (hs.lt_of hb)]
   rcases hK.find w hl arr.toList hall with ⟨h1,h2⟩ | ⟨j,e,h1,h2,h3⟩
   ·have hw:=hs.write (r:=r) (c:=.map ks (mset m v y)) (o:=.map (arr.push { key:=v,val:=q,born:=clock }) (clock+1)) hb ?_
    ·refine ⟨S,_,_,?_,hw.2,hw.1,h⟩;simp [Instr.mapUpdate,run_underlying hu,hget,hK.check w _ hl,h1,hset]
    ·refine ⟨_,_,hat _,?_,?_,?_,?_,?_,?_⟩
     ·intro e he;simp only [Array.toList_push,List.mem_append,Zm2] at he;rcases he with he | rfl
      ·exact g2 e he
      ·exact hkk
     ·simp only [Array.toList_push];rw [List.pairwise_append];refine ⟨g3,by simp,fun a ha b hb'=>?_⟩;simp only [Zm2] at hb';subst hb';exact h2 a ha
     ·intro e he;simp only [Array.toList_push,List.mem_append,Zm2] at he;rcases he with he | rfl
      ·obtain ⟨x,hx1,hx2⟩:=g4 e he;exact ⟨x,by rw [Wu _ _ (h2 e he)]; exact hx1,Rv.mono (hkeep _) _ _ hx2⟩
      ·exact ⟨y,Wq _ _ _,Rv.mono (hkeep _) _ _ hy⟩
     ·intro k x hkx;simp only [Array.toList_push,List.mem_append,Zm2];by_cases he:k=v
      ·exact ⟨_,.inr rfl,he.symm⟩
      ·rw [Wu _ _ he] at hkx;obtain ⟨e,he1,he2⟩:=g5 k x hkx;exact ⟨e,.inl he1,he2⟩
     ·simp only [Array.toList_push,List.map_append,Zmd,Zmg];rw [List.nodup_append];refine ⟨g6,by simp,fun a ha b hb'=>?_⟩;simp only [Zm2] at hb';subst hb';obtain ⟨e,he,rfl⟩:=List.mem_map.1 ha
      have:=g7 e he
      omega
     ·intro e he;simp only [Array.toList_push,List.mem_append,Zm2] at he;rcases he with he | rfl
      ·have:=g7 e he; omega
      ·exact Nat.lt_succ_self _
   ·have hj:arr[j]?=some e:=by simpa using h2
    have hjlt:=(Array.getElem?_eq_some_iff.1 hj).1;have hstay:(Instr.keyThatStays e.key v).run P w=.ok v w:=by rw [h3]; exact hK.stays w hl
    have hmod:(arr.modify j fun e=>{ e with key:=v,val:=q }).toList=arr.toList.set j { e with key:=v,val:=q }:=by
     apply List.ext_getElem?
     intro i;rw [Array.getElem?_toList,Array.getElem?_modify,List.getElem?_set];split
     ·rename_i e'; subst e';obtain ⟨_,hj'⟩:=Array.getElem?_eq_some_iff.1 hj;simp [hj,hjlt,hj']
     ·simp
    have hw:=hs.write (r:=r) (c:=.map ks (mset m v y)) (o:=.map (arr.modify j fun e=>{ e with key:=v,val:=q }) clock) hb ?_
    ·refine ⟨S,_,_,?_,hw.2,hw.1,h⟩;simp [Instr.mapUpdate,run_underlying hu,hget,hK.check w _ hl,h1,hj,hstay,hset]
    ·have hmem:∀ e',e'∈(arr.modify j fun e=>{ e with key:=v,val:=q }).toList→e'={ e with key:=v,val:=q }∨(e'∈arr.toList∧e'.key ≠ v):=by
      intro e' he';rw [hmod] at he';obtain ⟨i,hi,rfl⟩:=List.getElem_of_mem he';rw [List.getElem_set];split
      ·exact .inl rfl
      ·rename_i hne;refine .inr ⟨ZmE _,fun hk'=>?_⟩;have hi':i<arr.toList.length:=by simpa using hi
       have:=List.pairwise_iff_getElem.1 g3
       have hjl:j<arr.toList.length:=by simpa using hjlt
       have hej:arr.toList[j]=e:=by simpa [ZmW hjl] using h2
       rcases Nat.lt_or_gt_of_ne (Ne.symm hne) with hlt | hlt
       ·exact this i j hi' hjl hlt (by rw [hk',hej,h3])
       ·exact this j i hjl hi' hlt (by rw [hk',hej,h3])
     have hborn:(arr.toList.set j { e with key:=v,val:=q }).map (·.born)=arr.toList.map (·.born):=by
      have hjl:j<arr.toList.length:=by simpa using hjlt
      have hej:arr.toList[j]=e:=by simpa [ZmW hjl] using h2
      apply List.ext_getElem
      ·simp
      ·intro i h1 h2;simp only [List.getElem_map,List.getElem_set];split
       ·rename_i e'; subst e'; rw [hej]
       ·rfl
     refine ⟨_,_,hat _,?_,?_,?_,?_,by rw [hmod,hborn]; exact g6,?_⟩
     ·intro e' he';rcases hmem e' he' with rfl | ⟨h5,_⟩
      ·exact hkk
      ·exact g2 e' h5
     ·rw [hmod,List.pairwise_iff_getElem];intro a b ha hb' hab;have hg:=List.pairwise_iff_getElem.1 g3 a b (by simpa using ha) (by simpa using hb') hab
      have hkey:∀ (i:Nat) (hi:i<(arr.toList.set j { e with key:=v,val:=q }).length),((arr.toList.set j { e with key:=v,val:=q })[i]).key=(arr.toList[i]'(by simpa using hi)).key:=by
       intro i hi;rw [List.getElem_set];split
       ·rename_i e'; subst e';have hjl:j<arr.toList.length:=by simpa using hjlt
        have hej:arr.toList[j]=e:=by simpa [ZmW hjl] using h2
        rw [hej,h3]
       ·rfl
      rw [hkey,hkey];exact hg
     ·intro e' he';rcases hmem e' he' with rfl | ⟨h5,h6⟩
      ·exact ⟨y,Wq _ _ _,Rv.mono (hkeep _) _ _ hy⟩
      ·obtain ⟨x,hx1,hx2⟩:=g4 e' h5;exact ⟨x,by rw [Wu _ _ h6]; exact hx1,Rv.mono (hkeep _) _ _ hx2⟩
     ·intro k x hkx;rw [hmod];by_cases he:k=v
      ·subst he;exact ⟨_,List.mem_of_getElem? (by rw [List.getElem?_set_self (by simpa using hjlt)]),rfl⟩
      ·rw [Wu _ _ he] at hkx;obtain ⟨e',he1,he2⟩:=g5 k x hkx;obtain ⟨i,hi,rfl⟩:=List.getElem_of_mem he1;refine ⟨arr.toList[i],List.mem_of_getElem? (i:=i) ?_,he2⟩;rw [List.getElem?_set_ne,ZmW hi];rintro rfl;have hej:arr.toList[j]=e:=by simpa [ZmW hi] using h2
       rw [hej,h3] at he2;exact he he2.symm
     ·intro e' he';rcases hmem e' he' with rfl | ⟨h5,_⟩
      ·exact g7 e (List.mem_of_getElem? h2)
      ·exact g7 e' h5
  ·exact h.elim
 ·exact h.elim
end
end Go.PV
end
section
open List renaming eq_nil_of_length_eq_zero→Znd,length_append→ZmB,length_take→ZmV
open Nat renaming eq_zero_or_pos→Zm9,le_refl→Zmc
namespace Go.PV
section
variable {P:Program} {S:Nat→Prop} {H:AH} {w:World} {K:VE→AH→Prop}
def Zd2 (P:Program) (t:TypeId) (s x:VV) (H:AH) (K:VE→AH→Prop):Prop :=
 ∃ e k b zs n cs m news,elT P t=some (e,k,b)∧zeroT P e=some zs∧zs.length=k∧0<k∧s=.slice true n cs∧cs.length=n * k∧srcV H k x=some (m,news)∧news.all VV.one=true ∧
   (n+m) * b≤140737488355328∧n+m≤9223372036854775807∧(m=0→K (.ret (.slice true n cs)) H)∧(m ≠ 0→∀ v' H',OwnX H H' e k v' (n+m) (cs++news)→K (.ret v') H')
theorem ZeL {t ty:TypeId} {s x:VV} {u v:Value} (h:Zd2 P t s x H K) (hs:Sim S H w) (hsu:Rv S w s u) (hxv:Rv S w x v) :
 Res S H w K ((Builtin.append_ #[t,t] ty #[u,v]).run P w):=by
 obtain ⟨e,k,b,zs,n,cs,m,news,hel,hz,hzk,hk,rfl,hcl,hsrc,hone,hbytes,h63,hK0,hK⟩:=h;obtain ⟨hu,i,hi,hik,hib⟩:=Xr hel;obtain ⟨i',z,hi',hz',hzs⟩:=Zaj hz;rw [hi] at hi'; cases hi';have hzsize:z.cells.size=k:=by rw [← hzk,← hzs]; simp
 obtain ⟨hnl,us,hus,hform⟩:=Zcb hsrc hs hxv;have hmax:n+m≤maxLen:=by simp only [maxLen]; omega
 have hsu0:=hsu;obtain ⟨a0,cap,rfl,⟨hcap,hex⟩,hc⟩:=hsu;have hcn:n=cap:=by have:=hex rfl; omega
 subst hcn;by_cases hm:m=0
 ·subst hm
  have hr:(Builtin.append_ #[t,t] ty #[.slice a0 n n,v]).run P w=.ok (.slice a0 n n) w:=by
   have hb:∀ (b:Option Addr) (c:Nat),(Builtin.append_ #[t,t] ty #[.slice a0 n n,.slice b 0 c]).run P w=.ok (.slice a0 n n) w:=by
    intro b c;cases a0 with
    | none =>
      have h0:n=0:=by
       rcases Zm9 n with h | h
       ·exact h
       ·obtain ⟨r,o,e,_⟩:=hc h; cases e
      subst h0;cases b<;>simp [Builtin.append_,run_underlying hu,sizeOf,typeInfo,hi,Builtin.lenOf,Builtin.firstCells,loadCells,loadCellsFrom,storeCells]
    | some a=>cases b<;>simp [Builtin.append_,run_underlying hu,sizeOf,typeInfo,hi,Builtin.lenOf,Builtin.firstCells,loadCells,loadCellsFrom,storeCells]
   rcases hform with ⟨rfl,_⟩ | ⟨a,c,rfl,_⟩
   ·exact hb none 0
   ·exact hb a c
  exact .same hs hr hsu0 (hK0 rfl)
 ·obtain ⟨a,c,rfl,hcell0⟩:∃ a c,v=.slice a m c∧(0<m→∃ r o,a=some ⟨r,o,none⟩∧∀ j v,us[j]?=some v→w.cell? ⟨r,o+j,none⟩=some v):=by
   rcases hform with ⟨_,h0⟩ | h
   ·exact absurd h0 hm
   ·exact h
  obtain ⟨r,o,rfl,hcell⟩:=hcell0 (by omega)
  have hold:∃ olds:List Value,RvL S w cs olds∧(∃ v' w',(Builtin.append_ #[t,t] ty #[.slice a0 n n,.slice (some ⟨r,o,none⟩) m c]).run P w=.ok v' w'∧w'.ownsRow w.heap.size e k v' (n+m) (olds++us)∧w.grownBy w' none):=by
   cases a0 with
   | none =>
     have h0:n=0:=by
      rcases Zm9 n with h | h
      ·exact h
      ·obtain ⟨r,o,e,_⟩:=hc h; cases e
     subst h0;have hcs:cs=[]:=Znd (by simpa using hcl);subst hcs
     obtain ⟨v',w',g1,g2,g3,_,g5⟩:=run_append_own_at (P:=P) w w.heap.size t ty e i z k b hu hi hz' hik hib hzsize hk (.slice none 0 0) 0 [] ⟨by simp,.inl ⟨rfl,rfl⟩⟩ ⟨r,o,none⟩ m c us
      (by rw [hus.length,hnl]) (fun j y hy=>by rw [WR]; exact hcell j y hy) (hus.ones hone) (by omega) hbytes (Zmc _)
     exact ⟨[],by simp [RvL],v',w',g1,g2,by simpa [Value.ownBlock] using g3⟩
   | some b0 =>
     have hol:∃ olds:List Value,RvL S w cs olds∧∀ j u,olds[j]?=some u→w.cell? (b0.add j)=some u:=by
      rcases Zm9 n with h | h
      ·subst h;have hcs:cs=[]:=Znd (by simpa using hcl);subst hcs;exact ⟨[],by simp [RvL],by simp⟩
      ·obtain ⟨r',o',e',hr',hrc⟩:=hc h;cases e';obtain ⟨olds,q1,q2⟩:=hrc.list;exact ⟨olds,q1,fun j u hj=>by rw [WR]; exact q2 j u hj⟩
     obtain ⟨olds,q1,q2⟩:=hol
     obtain ⟨v',w',g1,g2,g3⟩:=run_append_arg_grows (P:=P) w t ty e i z k b hu hi hz' hik hib hzsize hk b0 n n olds (by rw [q1.length,hcl]) q2 ⟨r,o,none⟩ m c us
      (by rw [hus.length,hnl]) (fun j y hy=>by rw [WR]; exact hcell j y hy) (by omega) hmax hbytes
     exact ⟨olds,q1,v',w',g1,g2,g3⟩
  obtain ⟨olds,hol,v',w',hrun,hown',hgrow⟩:=hold
  obtain ⟨g',cap',cur',hv',hg',hh',hle',hcm',hcs',htk'⟩:∃ g cap cur,v'=.slice (some ⟨g,0,none⟩) (n+m) cap∧w.heap.size≤g∧w'.heap[g]?=some (.cells cur e (0,0))∧n+m≤cap∧cap≤maxLen∧cur.size=cap * k∧cur.toList.take ((n+m) * k)=olds++us:=by
   rcases hown'.2 with ⟨_,h0⟩ | h
   ·omega
   ·exact h
  subst hv'
  have hnone:H g'=none:=by
   cases e':H g' with
   | none=>rfl
   | some c=>exact absurd (hs.lt_of e') (by omega)
  have hkeep:∀ q,S q→S q∧w'.heap[q]?=w.heap[q]?:=fun q hq=>⟨hq,hgrow.block q (hs.lt q hq) (by simp)⟩
  have hlen:(cs++news).length=(n+m) * k:=by rw [ZmB,hcl,hnl,← Nat.add_mul]
  refine ⟨S,H.set g' (.cells e (cs++news) (cap' * k-(n+m) * k)),.lit (.slice (some ⟨g',0,none⟩) (n+m) cap'),_,w',hrun,?_,?_,rfl,hK hm _ _ (.inr ⟨g',cap',_,rfl,hnone,rfl,hlen,?_,hle',hcm'⟩)⟩
  ·refine ⟨hgrow.os,hgrow.tape,hgrow.output,hgrow.size,fun _ h=>h,fun q hq hn=>hgrow.block q hq (by simp),fun q hq=>?_,fun _ h=>.inl h⟩;simp only [AH.set] at hq;split at hq
   ·rename_i e'; subst e'; exact .inr hg'
   ·exact .inl hq
  ·refine ⟨fun q blk hq=>?_,fun q blk hq hSq=>?_,fun q hq=>Nat.lt_of_lt_of_le (hs.lt q hq) hgrow.size⟩
   ·simp only [AH.set] at hq;split at hq
    ·rename_i e'; subst e'; cases hq;refine ⟨cur',hh',?_,?_⟩
     ·rw [hlen,hcs']
      have:=Nat.mul_le_mul_right k hle'
      omega
     ·rw [hlen,htk'];exact RvL.append (RvL.mono hkeep _ _ hol) (RvL.mono hkeep _ _ hus)
    ·exact (hs.blk q blk hq).mono hkeep (hgrow.block q (hs.lt_of hq) (by simp))
   ·simp only [AH.set] at hq;split at hq
    ·rename_i e'; subst e'
     have:=hs.lt q hSq
     omega
    ·exact hs.dis q blk hq hSq
  ·rw [hlen]
   have:=Nat.mul_le_mul_right k hle'
   omega
def capN (H:AH) (k:Nat) (s:VV) (n:Nat) (cs:List VV):Prop :=
 (s=.lit (.slice none 0 0)∧n=0∧cs=[]) ∨
 ∃ r o e cs0 sp,s=.lit (.slice (some ⟨r,o,none⟩) n n)∧H r=some (.cells e cs0 sp)∧o+n * k≤cs0.length∧cs=(cs0.drop o).take (n * k)
theorem Zld {k n:Nat} {s:VV} {cs:List VV} {u:Value} (h:capN H k s n cs) (hs:Sim S H w) (hu:Rv S w s u) :
 ∃ a0,u=.slice a0 n n∧cs.length=n * k∧(0<n→∃ r o,a0=some ⟨r,o,none⟩∧RvC S w cs r o):=by
 rcases h with ⟨rfl,rfl,rfl⟩ | ⟨r,o,e,cs0,sp,rfl,hb,hle,rfl⟩
 ·obtain rfl:=hu;exact ⟨none,rfl,by simp,fun h=>by omega⟩
 ·obtain rfl:=hu;exact ⟨_,rfl,by rw [ZmV,List.length_drop]; omega,fun _=>⟨r,o,rfl,((hs.blk r _ hb).cells_at o).take (n * k)⟩⟩
def Zd3 (P:Program) (t:TypeId) (s x:VV) (H:AH) (K:VE→AH→Prop):Prop :=
 ∃ e k b zs n cs m news,elT P t=some (e,k,b)∧zeroT P e=some zs∧zs.length=k∧0<k∧capN H k s n cs∧srcV H k x=some (m,news)∧news.all VV.one=true ∧
   (n+m) * b≤140737488355328∧n+m≤9223372036854775807∧(m=0→K (.ret s) H)∧(m ≠ 0→∀ v' H',OwnX H H' e k v' (n+m) (cs++news)→K (.ret v') H')
theorem ZeM {t ty:TypeId} {s x:VV} {u v:Value} (h:Zd3 P t s x H K) (hs:Sim S H w) (hsu:Rv S w s u) (hxv:Rv S w x v) :
 Res S H w K ((Builtin.append_ #[t,t] ty #[u,v]).run P w):=by
 obtain ⟨e,k,b,zs,n,cs,m,news,hel,hz,hzk,hk,hcap0,hsrc,hone,hbytes,h63,hK0,hK⟩:=h;obtain ⟨hu,i,hi,hik,hib⟩:=Xr hel;obtain ⟨i',z,hi',hz',hzs⟩:=Zaj hz;rw [hi] at hi'; cases hi';have hzsize:z.cells.size=k:=by rw [← hzk,← hzs]; simp
 obtain ⟨hnl,us,hus,hform⟩:=Zcb hsrc hs hxv;have hmax:n+m≤maxLen:=by simp only [maxLen]; omega
 have hsu0:=hsu;obtain ⟨a0,rfl,hcl,hc⟩:=Zld hcap0 hs hsu;by_cases hm:m=0
 ·subst hm
  have hr:(Builtin.append_ #[t,t] ty #[.slice a0 n n,v]).run P w=.ok (.slice a0 n n) w:=by
   have hb:∀ (b:Option Addr) (c:Nat),(Builtin.append_ #[t,t] ty #[.slice a0 n n,.slice b 0 c]).run P w=.ok (.slice a0 n n) w:=by
    intro b c;cases a0 with
    | none =>
      have h0:n=0:=by
       rcases Zm9 n with h | h
       ·exact h
       ·obtain ⟨r,o,e,_⟩:=hc h; cases e
      subst h0;cases b<;>simp [Builtin.append_,run_underlying hu,sizeOf,typeInfo,hi,Builtin.lenOf,Builtin.firstCells,loadCells,loadCellsFrom,storeCells]
    | some a=>cases b<;>simp [Builtin.append_,run_underlying hu,sizeOf,typeInfo,hi,Builtin.lenOf,Builtin.firstCells,loadCells,loadCellsFrom,storeCells]
   rcases hform with ⟨rfl,_⟩ | ⟨a,c,rfl,_⟩
   ·exact hb none 0
   ·exact hb a c
  exact .same hs hr hsu0 (hK0 rfl)
 ·obtain ⟨a,c,rfl,hcell0⟩:∃ a c,v=.slice a m c∧(0<m→∃ r o,a=some ⟨r,o,none⟩∧∀ j v,us[j]?=some v→w.cell? ⟨r,o+j,none⟩=some v):=by
   rcases hform with ⟨_,h0⟩ | h
   ·exact absurd h0 hm
   ·exact h
  obtain ⟨r,o,rfl,hcell⟩:=hcell0 (by omega)
  have hold:∃ olds:List Value,RvL S w cs olds∧(∃ v' w',(Builtin.append_ #[t,t] ty #[.slice a0 n n,.slice (some ⟨r,o,none⟩) m c]).run P w=.ok v' w'∧w'.ownsRow w.heap.size e k v' (n+m) (olds++us)∧w.grownBy w' none):=by
   cases a0 with
   | none =>
     have h0:n=0:=by
      rcases Zm9 n with h | h
      ·exact h
      ·obtain ⟨r,o,e,_⟩:=hc h; cases e
     subst h0;have hcs:cs=[]:=Znd (by simpa using hcl);subst hcs
     obtain ⟨v',w',g1,g2,g3,_,g5⟩:=run_append_own_at (P:=P) w w.heap.size t ty e i z k b hu hi hz' hik hib hzsize hk (.slice none 0 0) 0 [] ⟨by simp,.inl ⟨rfl,rfl⟩⟩ ⟨r,o,none⟩ m c us
      (by rw [hus.length,hnl]) (fun j y hy=>by rw [WR]; exact hcell j y hy) (hus.ones hone) (by omega) hbytes (Zmc _)
     exact ⟨[],by simp [RvL],v',w',g1,g2,by simpa [Value.ownBlock] using g3⟩
   | some b0 =>
     have hol:∃ olds:List Value,RvL S w cs olds∧∀ j u,olds[j]?=some u→w.cell? (b0.add j)=some u:=by
      rcases Zm9 n with h | h
      ·subst h;have hcs:cs=[]:=Znd (by simpa using hcl);subst hcs;exact ⟨[],by simp [RvL],by simp⟩
      ·obtain ⟨r',o',e',hrc⟩:=hc h;cases e';obtain ⟨olds,q1,q2⟩:=hrc.list;exact ⟨olds,q1,fun j u hj=>by rw [WR]; exact q2 j u hj⟩
     obtain ⟨olds,q1,q2⟩:=hol
     obtain ⟨v',w',g1,g2,g3⟩:=run_append_arg_grows (P:=P) w t ty e i z k b hu hi hz' hik hib hzsize hk b0 n n olds (by rw [q1.length,hcl]) q2 ⟨r,o,none⟩ m c us
      (by rw [hus.length,hnl]) (fun j y hy=>by rw [WR]; exact hcell j y hy) (by omega) hmax hbytes
     exact ⟨olds,q1,v',w',g1,g2,g3⟩
  obtain ⟨olds,hol,v',w',hrun,hown',hgrow⟩:=hold
  obtain ⟨g',cap',cur',hv',hg',hh',hle',hcm',hcs',htk'⟩:∃ g cap cur,v'=.slice (some ⟨g,0,none⟩) (n+m) cap∧w.heap.size≤g∧w'.heap[g]?=some (.cells cur e (0,0))∧n+m≤cap∧cap≤maxLen∧cur.size=cap * k∧cur.toList.take ((n+m) * k)=olds++us:=by
   rcases hown'.2 with ⟨_,h0⟩ | h
   ·omega
   ·exact h
  subst hv'
  have hnone:H g'=none:=by
   cases e':H g' with
   | none=>rfl
   | some c=>exact absurd (hs.lt_of e') (by omega)
  have hkeep:∀ q,S q→S q∧w'.heap[q]?=w.heap[q]?:=fun q hq=>⟨hq,hgrow.block q (hs.lt q hq) (by simp)⟩
  have hlen:(cs++news).length=(n+m) * k:=by rw [ZmB,hcl,hnl,← Nat.add_mul]
  refine ⟨S,H.set g' (.cells e (cs++news) (cap' * k-(n+m) * k)),.lit (.slice (some ⟨g',0,none⟩) (n+m) cap'),_,w',hrun,?_,?_,rfl,hK hm _ _ (.inr ⟨g',cap',_,rfl,hnone,rfl,hlen,?_,hle',hcm'⟩)⟩
  ·refine ⟨hgrow.os,hgrow.tape,hgrow.output,hgrow.size,fun _ h=>h,fun q hq hn=>hgrow.block q hq (by simp),fun q hq=>?_,fun _ h=>.inl h⟩;simp only [AH.set] at hq;split at hq
   ·rename_i e'; subst e'; exact .inr hg'
   ·exact .inl hq
  ·refine ⟨fun q blk hq=>?_,fun q blk hq hSq=>?_,fun q hq=>Nat.lt_of_lt_of_le (hs.lt q hq) hgrow.size⟩
   ·simp only [AH.set] at hq;split at hq
    ·rename_i e'; subst e'; cases hq;refine ⟨cur',hh',?_,?_⟩
     ·rw [hlen,hcs']
      have:=Nat.mul_le_mul_right k hle'
      omega
     ·rw [hlen,htk'];exact RvL.append (RvL.mono hkeep _ _ hol) (RvL.mono hkeep _ _ hus)
    ·exact (hs.blk q blk hq).mono hkeep (hgrow.block q (hs.lt_of hq) (by simp))
   ·simp only [AH.set] at hq;split at hq
    ·rename_i e'; subst e'
     have:=hs.lt q hSq
     omega
    ·exact hs.dis q blk hq hSq
  ·rw [hlen]
   have:=Nat.mul_le_mul_right k hle'
   omega
end
end Go.PV
end
section
open List renaming replicate→ZmH,range→Zmm,flatten_cons→ZmT,flatten_nil→ZmX,append_nil→ZmF
namespace Go.PV
theorem ZbM (z:Array Value) (n:Nat):(Builtin.zeroCells z n).toList=(ZmH n z.toList).flatten:=by
 have h:∀ n:Nat,(Zmm (n * z.size)).map (fun i=>z[i % z.size]!)=(ZmH n z.toList).flatten:=by
  intro n
  induction n with
  | zero=>simp
  | succ n ih =>
    rw [Nat.succ_mul,List.range_add,List.map_append,ih,List.replicate_succ',List.flatten_append,ZmT,ZmX,ZmF]
    congr 1
    rw [List.map_map]
    apply List.ext_getElem
    ·simp
    ·intro i h1 h2;simp only [List.length_map,List.length_range] at h1;simp [Nat.mod_eq_of_lt h1,h1]
 rw [← h n];simp [Builtin.zeroCells]
section
variable {P:Program} {S:Nat→Prop} {H:AH} {w:World} {K:VE→AH→Prop}
def Zct (P:Program) (t:TypeId) (x:VV) (H:AH) (K:VE→AH→Prop):Prop :=
 match elT P t,x with
 | some (e,k,_),.lit (.slice (some ⟨r,o,none⟩) n _) =>
   if n=0 then K (.ret Zx) H else
   (match H r,zeroT P e with
    | some (.cells e' cs sp),some zs=>zs.length=k∧(zs.map VV.lit).all VV.one=true∧o+n * k≤cs.length∧K (.ret Zx) (H.set r (.cells e' (setAt cs o ((ZmH n zs).flatten.map .lit)) sp))
    | _,_=>False)
 | some _,.lit (.slice none _ _)=>K (.ret Zx) H
 | some _,.slice _ n _=>n=0∧K (.ret Zx) H
 | _,_=>False
theorem Zgh {t ty:TypeId} {x:VV} {u:Value} (h:Zct P t x H K) (hs:Sim S H w) (hxu:Rv S w x u) :
 Res S H w K ((Builtin.clear_ #[t] ty #[u]).run P w):=by
 have done:∀ (r:Sem Value),r.run P w=.ok (.tuple #[]) w→K (.ret Zx) H→Res S H w K (r.run P w):=fun r hr hk=>⟨S,H,Zx,.tuple #[],w,hr,.refl _ _ _,hs,rfl,hk⟩
 unfold Zct at h;split at h
 ·rename_i e k b r o n c hel;obtain ⟨hu,i,hi,hik,hib⟩:=Xr hel;obtain rfl:=hxu;split at h
  ·rename_i h0;subst h0;exact done _ (by simp [Builtin.clear_,run_underlying hu]) h
  ·rename_i h0;split at h
   ·rename_i e' cs sp zs hb hz;obtain ⟨hk,hone,hle,hK⟩:=h;obtain ⟨z,z1,z2,z3⟩:=ZgM hz w;have hl:(Builtin.zeroCells z.cells n).toList=(ZmH n zs).flatten:=by rw [ZbM,z2]
    have hone':(((ZmH n zs).flatten).map VV.lit).all VV.one=true:=by
     rw [List.all_eq_true] at hone ⊢;intro y hy;simp only [List.mem_map,List.mem_flatten,List.mem_replicate] at hy;obtain ⟨v,⟨l,⟨_,rfl⟩,hv⟩,rfl⟩:=hy;exact hone _ (List.mem_map.2 ⟨v,hv,rfl⟩)
    have hlen:(((ZmH n zs).flatten).map VV.lit).length=n * k:=by
     simp [hk]
    obtain ⟨w',g1,g2,g3⟩:=JR (P:=P) (o:=o) hs hb (RvL.lits ((ZmH n zs).flatten)) hone' (by rw [hlen]; exact hle);refine ⟨S,_,Zx,.tuple #[],w',?_,g2,g3,rfl,hK⟩;obtain ⟨m,rfl⟩:∃ m,n=m+1:=⟨n-1,by omega⟩
    simp [Builtin.clear_,run_underlying hu,z1,hl,g1]
   ·exact h.elim
 ·rename_i el n c hel;obtain ⟨e,k,b⟩:=el;obtain ⟨hu,i,hi,hik,hib⟩:=Xr hel;obtain rfl:=hxu;exact done _ (by simp [Builtin.clear_,run_underlying hu]) h
 ·rename_i el ex n cs hel;obtain ⟨e,k,b⟩:=el;obtain ⟨hu,i,hi,hik,hib⟩:=Xr hel;obtain ⟨h0,hk⟩:=h;subst h0;obtain ⟨a,cap,rfl,_,_⟩:=hxu;refine done _ ?_ hk;cases a<;>simp [Builtin.clear_,run_underlying hu]
 ·exact h.elim
end
end Go.PV
end
section
open Nat renaming le_refl→Zmc
namespace Go.PV
section
variable {P:Program} {S:Nat→Prop} {H:AH} {w:World} {K:VE→AH→Prop}
def Zd4 (P:Program) (t tn:TypeId) (s x:VV) (H:AH) (K:VE→AH→Prop):Prop :=
 ∃ e k b zs kn kq n,elT P t=some (e,k,b)∧zeroT P e=some zs∧zs.length=k∧0<k∧P.underlying tn=some (.int kn)∧s=.lit (.slice none 0 0)∧x=.lit (.int kq ((n:Nat):Int))∧0<n ∧
   n * b≤140737488355328∧n≤9223372036854775807∧∀ g c,H g=none→n≤c→c≤maxLen→K (.ret (.lit (.slice (some ⟨g,0,none⟩) n c))) (H.set g (.cells e [] (c * k)))
theorem ZeN {t tn ty:TypeId} {s x:VV} {u v:Value} (h:Zd4 P t tn s x H K) (hs:Sim S H w) (hsu:Rv S w s u) (hxv:Rv S w x v) :
 Res S H w K ((Builtin.append_ #[t,tn] ty #[u,v]).run P w):=by
 obtain ⟨e,k,b,zs,kn,kq,n,hel,hz,hzk,hk,htn,rfl,rfl,hn,hbytes,h63,hK⟩:=h;obtain rfl:=hsu;obtain rfl:=hxv;obtain ⟨hu,i,hi,hik,hib⟩:=Xr hel;obtain ⟨i',z,hi',hz',hzs⟩:=Zaj hz;rw [hi] at hi'; cases hi';have hzsize:z.cells.size=k:=by rw [← hzk,← hzs]; simp
 have hrun:=Lib.run_append_nil_zeros (P:=P) w t tn ty e i z kq kn hu htn hi hz' n hn (by rw [hik]; exact hk) (by omega) (by rw [hib]; omega);have hge:=grownCap_ge w n 0 e;have hle:=grownCap_le_maxLen w n 0 e (by simp only [maxLen]; omega);obtain ⟨c,hc⟩:∃ c,c=grownCap w n 0 e:=⟨_,rfl⟩
 rw [← hc] at hrun hge hle;obtain ⟨vs,hvs⟩:∃ vs,vs=Builtin.zeroCells z.cells n++Builtin.zeroCells z.cells (c-n):=⟨_,rfl⟩
 rw [← hvs] at hrun
 have hsz:vs.size=c * k:=by
  have hzc:∀ m,(Builtin.zeroCells z.cells m).size=m * k:=fun m=>by
   rw [← Array.length_toList,ZbM,List.length_flatten,List.map_replicate,List.sum_replicate_nat,Array.length_toList,hzsize]
  rw [hvs,Array.size_append,hzc,hzc,← Nat.add_mul]
  congr 1; omega
 obtain ⟨w',hw'⟩:∃ w',w'=w.drew.alloc (.cells vs e):=⟨_,rfl⟩
 rw [← hw'] at hrun;have hheap:w'.heap=w.heap.push (.cells vs e (0,0)):=by rw [hw']; rfl
 have hnone:H w.heap.size=none:=by
  cases e':H w.heap.size with
  | none=>rfl
  | some c=>exact absurd (hs.lt_of e') (by omega)
 have hold:∀ q,q<w.heap.size→w'.heap[q]?=w.heap[q]?:=fun q hq=>by
  rw [hheap,Array.getElem?_push,if_neg (by omega)]
 have hkeep:∀ q,S q→S q∧w'.heap[q]?=w.heap[q]?:=fun q hq=>⟨hq,hold q (hs.lt q hq)⟩
 have hsize:w.heap.size≤w'.heap.size:=by rw [hheap,Array.size_push]; omega
 refine ⟨S,H.set w.heap.size (.cells e [] (c * k)),.lit (.slice (some ⟨w.heap.size,0,none⟩) n c),_,w',hrun,?_,?_,rfl,hK _ _ hnone hge hle⟩
 ·refine ⟨by rw [hw']; rfl,by rw [hw']; rfl,by rw [hw']; rfl,hsize,fun _ h=>h,fun q hq hn=>hold q hq,fun q hq=>?_,fun _ h=>.inl h⟩;simp only [AH.set] at hq;split at hq
  ·rename_i e'; subst e'; exact .inr (Zmc _)
  ·exact .inl hq
 ·refine ⟨fun q blk hq=>?_,fun q blk hq hSq=>?_,fun q hq=>Nat.lt_of_lt_of_le (hs.lt q hq) hsize⟩
  ·simp only [AH.set] at hq;split at hq
   ·rename_i e'; subst e'; cases hq;refine ⟨vs,by rw [hheap,Array.getElem?_push,if_pos rfl],by rw [hsz]; simp,by simp [RvL]⟩
   ·exact (hs.blk q blk hq).mono hkeep (hold q (hs.lt_of hq))
  ·simp only [AH.set] at hq;split at hq
   ·rename_i e'; subst e'
    have:=hs.lt _ hSq
    omega
   ·exact hs.dis q blk hq hSq
def vcCap (P:Program) (t:TypeId) (x:VV) (H:AH) (K:VE→AH→Prop):Prop :=
 match x with
 | .lit (.slice _ _ c)=>elT P t ≠ none∧K (.ret (intV c)) H
 | _=>False
theorem Zis {t ty:TypeId} {x:VV} {u:Value} (h:vcCap P t x H K) (hs:Sim S H w) (hx:Rv S w x u):Res S H w K ((Builtin.cap_ #[t] ty #[u]).run P w):=by
 unfold vcCap at h;split at h
 ·rename_i a n cap;obtain rfl:=hx;obtain ⟨p,hp⟩:=Option.ne_none_iff_exists'.1 h.1;obtain ⟨hu,_⟩:=Xr (show elT P t=some (p.1,p.2.1,p.2.2) from hp);exact .same (x:=intV cap) hs (by simp [Builtin.cap_,run_underlying hu]; rfl) rfl h.2
 ·exact h.elim
end
end Go.PV
end
section
open List renaming mem_singleton→Zm2,map_cons→Zmd,map_nil→Zmg,getElem?_eq_getElem→ZmW,getElem_mem→ZmE
open Nat renaming le_refl→Zmc
namespace Go.PV
open Go
structure Ents (m:Value→Option VV) (arr:Array MapEntry) (clock:Nat):Prop where
 keys:arr.toList.Pairwise (fun a b=>a.key ≠ b.key)
 get:∀ e∈arr.toList,m e.key=some (.lit e.val)
 all:∀ k x,m k=some x→∃ e∈arr.toList,e.key=k
 nd:(arr.toList.map (·.born)).Nodup
 old:∀ e∈arr.toList,e.born<clock
section
variable {P:Program} {S:Nat→Prop} {H H0:AH} {w:World} {K:VE→AH→Prop}
def mapD:Option TypeDesc→Bool
 | some (.map _ _)=>true
 | _=>false
def Zbx (P:Program) (t:TypeId) (x:VV) (H:AH) (K:VE→AH→Prop):Prop :=
 mapD (P.underlying t)=true∧match x with
 | .lit (.map (some b)) =>
   (match H b with
    | some (.obj (.map arr clock))=>∀ r,H r=none→K (.ret (ptrV r 0)) (H.set r (.obj (.mapIter (some b) clock #[] clock)))
    | _=>False)
 | _=>False
def ZaG (x:VV) (H:AH) (K:VE→AH→Prop):Prop :=
 match x with
 | .lit (.pointer (some ⟨r,0,none⟩)) =>
   (match H r with
    | some (.obj (.mapIter (some b) since seen last)) =>
      (match H b with
       | some (.obj (.map arr clock))=>(∀ e∈arr.toList,e.born<since)∧since≤last ∧
         ((leftOf arr seen).size=0→K (.ret (.tuple [.lit (.bool false)])) H) ∧
         (∀ e∈(leftOf arr seen).toList,K (.ret (.tuple [.lit (.bool true),.lit e.key,.lit e.val])) (H.set r (.obj (.mapIter (some b) since (seen.push e.born) clock))))
       | _=>False)
    | _=>False)
 | _=>False
def Zat (x:VV) (H:AH) (K:VE→AH→Prop):Prop :=
 match x with
 | .lit (.pointer (some ⟨r,0,none⟩)) =>
   (match H r with
    | some (.obj (.mapIter (some b) since seen last)) =>
      (match H b with
       | some (.obj (.map arr clock))=>clock=last∧∃ s0 e,seen=Array.push s0 e.born∧e∈arr.toList∧(arr.toList.map (·.born)).Nodup∧K (.ret (.tuple [.lit e.key,.lit e.val])) H
       | _=>False)
    | _=>False)
 | _=>False
theorem Zgi {t:TypeId} {x:VV} {u:Value} (h:Zbx P t x H K) (hs:Sim S H w) (hx:Rv S w x u):Res S H w K ((Instr.range t u).run P w):=by
 obtain ⟨hm,h⟩:=h;split at h
 ·rename_i b;obtain rfl:=hx;split at h
  ·rename_i arr clock hb;have hg:w.heap[b]?=some (.map arr clock):=hs.blk b _ hb
   have hu:∃ k e,P.underlying t=some (.map k e):=by
    unfold mapD at hm;split at hm
    ·rename_i k e hk; exact ⟨k,e,hk⟩
    ·cases hm
   obtain ⟨k,e,hu⟩:=hu;have hp:=hs.push (o:=.mapIter (some b) clock #[] clock) (b:=.obj (.mapIter (some b) clock #[] clock)) (by show _=_; simp);refine ⟨S,_,ptrV w.heap.size 0,_,_,?_,hp.2.1,hp.1,rfl,h _ hp.2.2⟩;simp [Instr.range,run_underlying hu,getObj,Sem.run,hg,Result.andThen]
  ·exact h.elim
 ·exact h.elim
theorem Sim.drew (h:Sim S H w):Sim S H w.drew:=⟨fun r b hb=>RvB.mono (w:=w) (w':=w.drew) (fun _ hr=>⟨hr,rfl⟩) rfl (h.blk r b hb),h.dis,h.lt⟩
theorem Step.drew:Step S H w S H w.drew:=⟨rfl,rfl,rfl,Zmc _,fun _ h=>h,fun _ _ _=>rfl,fun _ h=>.inl h,fun _ h=>.inl h⟩
theorem tup1 (k:Value):Rv S w (.tuple [.lit k]) (.tuple #[k]):=⟨_,rfl,k,[],rfl,rfl,rfl⟩
theorem tup2 (k v:Value):Rv S w (.tuple [.lit k,.lit v]) (.tuple #[k,v]):=⟨_,rfl,k,_,rfl,rfl,v,[],rfl,rfl,rfl⟩
theorem tup3 (k v:Value):Rv S w (.tuple [.lit (.bool true),.lit k,.lit v]) (.tuple #[.bool true,k,v]):=⟨_,rfl,.bool true,_,rfl,rfl,k,_,rfl,rfl,v,[],rfl,rfl,rfl⟩
theorem Zhm {ty:TypeId} {x:VV} {u:Value} (h:ZaG x H K) (hs:Sim S H w) (hx:Rv S w x u):Res S H w K ((Instr.next u false ty).run P w):=by
 unfold ZaG at h;split at h
 ·rename_i r;obtain rfl:=hx;split at h
  ·rename_i b since seen last hr;split at h
   ·rename_i arr clock hb;obtain ⟨h1,h2,h3,h4⟩:=h;have gr:w.heap[r]?=some (.mapIter (some b) since seen last):=hs.blk r _ hr;have gb:w.heap[b]?=some (.map arr clock):=hs.blk b _ hb;rcases run_next_at (P:=P) w ty r b since last seen arr clock gr gb h1 h2 with ⟨g1,g2⟩ | ⟨e,he,w1,hw,g2⟩
    ·exact ⟨S,H,_,_,w,g2,.refl _ _ _,hs,tup1 _,h3 g1⟩
    ·have hs1:Sim S H w1:=hw.elim (fun e=>by rw [e]; exact hs) (fun e=>by rw [e]; exact hs.drew);have hst:Step S H w S H w1:=hw.elim (fun e=>by rw [e]; exact .refl _ _ _) (fun e=>by rw [e]; exact .drew)
     have hw2:=hs1.write (r:=r) (c:=.obj (.mapIter (some b) since (seen.push e.born) clock)) (o:=.mapIter (some b) since (seen.push e.born) clock) hr (by
      show _=_;rw [Array.getElem?_setIfInBounds,if_pos rfl,if_pos (hs1.lt_of hr)])
     exact ⟨S,_,_,_,_,g2,hst.trans hw2.2,hw2.1,tup3 _ _,h4 e he⟩
   ·exact h.elim
  ·exact h.elim
 ·exact h.elim
theorem Zgj {x:VV} {u:Value} (h:Zat x H K) (hs:Sim S H w) (hx:Rv S w x u):Res S H w K ((Instr.entry u).run P w):=by
 unfold Zat at h;split at h
 ·rename_i r;obtain rfl:=hx;split at h
  ·rename_i b since seen last hr;split at h
   ·rename_i arr clock hb;obtain ⟨rfl,s0,e,rfl,he,hn,h⟩:=h;have gr:w.heap[r]?=some (.mapIter (some b) since (s0.push e.born) clock):=hs.blk r _ hr;have gb:w.heap[b]?=some (.map arr clock):=hs.blk b _ hb;exact ⟨S,H,_,_,w,run_entry_at (P:=P) w r b since s0 arr clock e gr gb he hn,.refl _ _ _,hs,tup2 _ _,h⟩
   ·exact h.elim
  ·exact h.elim
 ·exact h.elim
end
section
variable {P:Program} {S:Nat→Prop} {H H0:AH} {w:World} {K:VE→AH→Prop}
open Go.Maps
def JC (P:Program) (t:TypeId) (x key:VV) (H:AH) (K:VE→AH→Prop):Prop :=
 ∃ z,MapT P t z∧∃ kv,Za8 key=some kv∧ZW P t kv ∧
 match x with
 | .lit (.map (some b)) =>
   (match H b with
    | some (.map ks m)=>(∀ k,ks k→ZW P t k)∧ks kv∧(∀ k y,m k=some y→∃ v,y=.lit v) ∧
       ∀ arr clock e,e∈arr.toList→e.key=kv→Ents (mset m kv ((m kv).getD (.lit z))) arr clock→(∀ e∈arr.toList,ks e.key)→K (.ret (.tuple [.lit e.val,.lit (.int .i64 (e.born:Int))])) (H.set b (.obj (.map arr clock)))
    | _=>False)
 | _=>False
def XD (x stamp y:VV) (H:AH) (K:VE→AH→Prop):Prop :=
 match x,stamp with
 | .lit (.map (some b)),.lit (.int _ n) =>
   (match H b with
    | some (.obj (.map arr clock))=>∃ e∈arr.toList,(e.born:Int)=n∧∃ ks m,Ents m arr clock∧(∀ e∈arr.toList,ks e.key)∧K (.ret Zx) (H.set b (.map ks (mset m e.key y)))
    | _=>False)
 | _,_=>False
theorem Zes {arr:Array MapEntry} {j:Nat} {e:MapEntry} (hj:arr[j]?=some e) (g:MapEntry→MapEntry):(arr.modify j g).toList=arr.toList.set j (g e):=by
 apply List.ext_getElem?
 intro i;rw [Array.getElem?_toList,Array.getElem?_modify,List.getElem?_set];obtain ⟨hjlt,hj'⟩:=Array.getElem?_eq_some_iff.1 hj;split
 ·rename_i e'; subst e';simp [hj,hjlt,hj']
 ·simp
theorem Zle {m:Value→Option VV} {k:Value} {y:VV} (h:m k=some y):mset m k y=m:=by
 funext k'
 by_cases e:k'=k
 ·subst e; rw [Wq,h]
 ·rw [Wu _ _ e]
theorem Sim.obj (h:Sim S H w) {r:Nat} {b:Blk} {o:Obj} (hb:H r=some b):Sim S (H.set r (.obj o)) { w with heap:=w.heap.setIfInBounds r o }∧Step S H w S (H.set r (.obj o)) { w with heap:=w.heap.setIfInBounds r o } :=
 h.write hb (by show _=_; rw [Array.getElem?_setIfInBounds,if_pos rfl,if_pos (h.lt_of hb)])
theorem ZdN {t:TypeId} {x key:VV} {u v:Value} (h:JC P t x key H K) (hs:Sim S H w) (hx:Rv S w x u) (hk:Rv S w key v):Res S H w K ((Instr.mapEntry t u v).run P w):=by
 obtain ⟨z,⟨kt,et,hu,hK,hz⟩,kv,hkv,⟨kt',et',l,hu',hl⟩,h⟩:=h;rw [hu] at hu'; cases hu';obtain rfl:=ZbR hkv hk;split at h
 ·rename_i r;obtain rfl:=hx;split at h
  ·rename_i ks m hb;obtain ⟨hks,hkk,hlit,h⟩:=h;obtain ⟨arr,clock,g1,g2,g3,g4,g5,g6,g7⟩:=hs.blk r _ hb
   have hall:∀ e∈arr.toList,∃ l,keyOf P kt e.key=some l:=fun e he=>by
    obtain ⟨kt',et',l,h1,h2⟩:=hks _ (g2 e he);rw [hu] at h1; cases h1; exact ⟨l,h2⟩
   have hget:(getObj r).run P w=.ok (.map arr clock) w:=by simp only [getObj,Sem.run,g1]
   have hset:∀ o,(setObj r o).run P w=.ok () { w with heap:=w.heap.setIfInBounds r o }:=fun o=>by simp [setObj,Sem.run,g1]
   have hlitG:∀ e∈arr.toList,m e.key=some (.lit e.val):=fun e he=>by
    obtain ⟨x,hx,hr⟩:=g4 e he;obtain ⟨v,rfl⟩:=hlit _ _ hx;rw [show e.val=v from hr]; exact hx
   rcases hK.find w hl arr.toList hall with ⟨h1,h2⟩ | ⟨j,e,h1,h2,h3⟩
   ·have hm:m v=none:=by
     cases hm:m v with
     | none=>rfl
     | some y=>obtain ⟨e,he,hke⟩:=g5 v y hm; exact absurd hke (h2 e he)
    have hw:=hs.obj (o:=.map (arr.push { key:=v,val:=z,born:=clock }) (clock+1)) hb;refine ⟨S,_,_,_,_,?_,hw.2,hw.1,tup2 z (.int .i64 (clock:Int)),h _ _ { key:=v,val:=z,born:=clock } (by simp) rfl ?_ ?_⟩
    ·simp [Instr.mapEntry,run_underlying hu,hget,hK.check w _ hl,h1,ZaV hz,hset,goInt]
    ·rw [hm];refine ⟨?_,fun e he=>?_,fun k x hkx=>?_,?_,fun e he=>?_⟩
     ·simp only [Array.toList_push];rw [List.pairwise_append];refine ⟨g3,by simp,fun a ha b hb'=>?_⟩;simp only [Zm2] at hb';subst hb';exact h2 a ha
     ·simp only [Array.toList_push,List.mem_append,Zm2] at he;rcases he with he | rfl
      ·rw [Wu _ _ (h2 e he)]; exact hlitG e he
      ·rw [Wq]; rfl
     ·simp only [Array.toList_push,List.mem_append,Zm2];by_cases he:k=v
      ·exact ⟨_,.inr rfl,he.symm⟩
      ·rw [Wu _ _ he] at hkx;obtain ⟨e,he1,he2⟩:=g5 k x hkx;exact ⟨e,.inl he1,he2⟩
     ·simp only [Array.toList_push,List.map_append,Zmd,Zmg];rw [List.nodup_append];refine ⟨g6,by simp,fun a ha b hb'=>?_⟩;simp only [Zm2] at hb';subst hb';obtain ⟨e,he,rfl⟩:=List.mem_map.1 ha
      have:=g7 e he
      omega
     ·simp only [Array.toList_push,List.mem_append,Zm2] at he;rcases he with he | rfl
      ·have:=g7 e he; omega
      ·exact Nat.lt_succ_self _
    ·intro e he;simp only [Array.toList_push,List.mem_append,Zm2] at he;rcases he with he | rfl
     ·exact g2 e he
     ·exact hkk
   ·have hj:arr[j]?=some e:=by simpa using h2
    have hstay:(Instr.keyThatStays e.key v).run P w=.ok v w:=by rw [h3]; exact hK.stays w hl
    have hem:e∈arr.toList:=List.mem_of_getElem? h2
    have hmod:arr.modify j (fun e=>{ e with key:=v })=arr:=by
     apply Array.ext'
     rw [Zes hj]
     apply List.ext_getElem?
     intro i;rw [List.getElem?_set];split
     ·rename_i e';subst e';have hjl:=(Array.getElem?_eq_some_iff.1 hj).1;rw [if_pos (by simpa using hjl),h2,← h3]
     ·rfl
    have hw:=hs.obj (o:=.map arr clock) hb;have hmv:=hlitG e hem;rw [h3] at hmv;refine ⟨S,_,_,_,_,?_,hw.2,hw.1,tup2 e.val (.int .i64 (e.born:Int)),h _ _ e hem h3 ?_ g2⟩
    ·simp [Instr.mapEntry,run_underlying hu,hget,hK.check w _ hl,h1,hj,hstay,hset,hmod,goInt]
    ·rw [hmv];show Ents (mset m v (.lit e.val)) arr clock;rw [Zle hmv];exact ⟨g3,hlitG,g5,g6,g7⟩
  ·exact h.elim
 ·exact h.elim
theorem ZcQ {t:TypeId} {x stamp y:VV} {u v q:Value} (h:XD x stamp y H K) (hs:Sim S H w) (hx:Rv S w x u) (hk:Rv S w stamp v) (hy:Rv S w y q) :
 ∃ S' H' w',(Instr.entryStore t u v q).run P w=.ok () w'∧Step S H w S' H' w'∧Sim S' H' w'∧K (.ret Zx) H':=by
 unfold XD at h;split at h
 ·rename_i r kd n;obtain rfl:=hx;obtain rfl:=hk;split at h
  ·rename_i arr clock hb;obtain ⟨e,he,hn,ks,m,hE,hks,h⟩:=h;have g1:w.heap[r]?=some (.map arr clock):=hs.blk r _ hb;obtain ⟨j,hj,hje⟩:=List.getElem_of_mem he
   have hj2:arr[j]?=some e:=by
    rw [← Array.getElem?_toList,ZmW hj,hje]
   have hfi:arr.findIdx? (fun e=>(e.born:Int) == n)=some j:=by
    rw [Array.findIdx?_eq_some_iff_getElem];have hjs:j<arr.size:=by simpa using hj
    have hja:arr[j]=e:=by simpa using hje
    refine ⟨hjs,by simp [hja,hn],fun i hij=>?_⟩
    have:=List.pairwise_iff_getElem.1 hE.nd i j (by simp; omega) (by simpa using hj) hij
    simp only [List.getElem_map,Array.getElem_toList,hja] at this;simp only [beq_iff_eq];intro h
    apply this
    omega
   have hset:∀ o,(setObj r o).run P w=.ok () { w with heap:=w.heap.setIfInBounds r o }:=fun o=>by simp [setObj,Sem.run,g1]
   have hkeep:∀ o,∀ i,S i→S i∧(w.heap.setIfInBounds r o)[i]?=w.heap[i]?:=fun o i hi=>⟨hi,by rw [Array.getElem?_setIfInBounds,if_neg (by rintro rfl; exact hs.dis r _ hb hi)]⟩
   have hmod:=Zes hj2 (fun e=>{ e with val:=q })
   have hset2:∀ {β:Type} (p:MapEntry→β),(∀ x:MapEntry,p { x with val:=q }=p x)→(arr.toList.set j { e with val:=q }).map p=arr.toList.map p:=fun p hp=>by
    apply List.ext_getElem
    ·simp
    ·intro i h1 h2;simp only [List.getElem_map,List.getElem_set];split
     ·rename_i e'; subst e'; rw [hp,hje]
     ·rfl
   have hmem:∀ e',e'∈arr.toList.set j { e with val:=q }→e'={ e with val:=q }∨(e'∈arr.toList∧e'.key ≠ e.key):=by
    intro e' he';obtain ⟨i,hi,rfl⟩:=List.getElem_of_mem he';rw [List.getElem_set];split
    ·exact .inl rfl
    ·rename_i hne;refine .inr ⟨ZmE _,fun hk'=>?_⟩;have hi':i<arr.toList.length:=by simpa using hi
     have:=List.pairwise_iff_getElem.1 hE.keys
     rcases Nat.lt_or_gt_of_ne (Ne.symm hne) with hlt | hlt
     ·exact this i j hi' hj hlt (by rw [hk',hje])
     ·exact this j i hj hi' hlt (by rw [hk',hje])
   have hw:=hs.write (r:=r) (c:=.map ks (mset m e.key y)) (o:=.map (arr.modify j fun e=>{ e with val:=q }) clock) hb (by
    refine ⟨_,_,by rw [Array.getElem?_setIfInBounds,if_pos rfl,if_pos (hs.lt_of hb)],?_,?_,?_,?_,?_,?_⟩
    ·intro e' he';rw [hmod] at he';rcases hmem e' he' with rfl | ⟨h5,_⟩
     ·exact hks e he
     ·exact hks e' h5
    ·rw [hmod]
     have:=List.pairwise_map (f:=fun x:MapEntry=>x.key) (R:=fun a b=>a ≠ b) (l:=arr.toList.set j { e with val:=q })
     rw [← this,hset2 _ (fun _=>rfl),List.pairwise_map];exact hE.keys
    ·intro e' he';rw [hmod] at he';rcases hmem e' he' with rfl | ⟨h5,h6⟩
     ·exact ⟨y,Wq _ _ _,Rv.mono (hkeep _) _ _ hy⟩
     ·exact ⟨.lit e'.val,by rw [Wu _ _ h6]; exact hE.get e' h5,rfl⟩
    ·intro k x hkx;rw [hmod]
     have hmk:∃ e'∈arr.toList,e'.key=k:=by
      by_cases he':k=e.key
      ·exact ⟨e,he,he'.symm⟩
      ·rw [Wu _ _ he'] at hkx;exact hE.all k x hkx
     obtain ⟨e',h1,h2⟩:=hmk;have h3:k∈(arr.toList.set j { e with val:=q }).map (·.key):=by rw [hset2 _ (fun _=>rfl)]; exact List.mem_map.2 ⟨e',h1,h2⟩
     obtain ⟨e2,h4,h5⟩:=List.mem_map.1 h3;exact ⟨e2,h4,h5⟩
    ·rw [hmod,hset2 _ (fun _=>rfl)]; exact hE.nd
    ·intro e' he';rw [hmod] at he';rcases hmem e' he' with rfl | ⟨h5,_⟩
     ·exact hE.old e he
     ·exact hE.old e' h5)
   refine ⟨S,_,_,?_,hw.2,hw.1,h⟩;simp [Instr.entryStore,getObj,Sem.run,g1,asInt,asIntOf,hfi,hset]
  ·exact h.elim
 ·exact h.elim
end
section
variable {P:Program} {H:AH} {K K':VE→AH→Prop}
theorem Zhn {t:TypeId} {x:VV} (h:Zbx P t x H K) (hk:∀ e H,K e H→K' e H):Zbx P t x H K':=by
 obtain ⟨hm,h⟩:=h;refine ⟨hm,?_⟩;split at h
 ·split at h
  ·exact fun r hr=>hk _ _ (h r hr)
  ·exact h.elim
 ·exact h.elim
theorem Zit {x:VV} (h:ZaG x H K) (hk:∀ e H,K e H→K' e H):ZaG x H K':=by
 unfold ZaG at h ⊢;split at h
 ·split at h
  ·split at h
   ·exact ⟨h.1,h.2.1,fun g=>hk _ _ (h.2.2.1 g),fun y hy=>hk _ _ (h.2.2.2 y hy)⟩
   ·exact h.elim
  ·exact h.elim
 ·exact h.elim
theorem ZeO {t:TypeId} {x key:VV} (h:JC P t x key H K) (hk:∀ e H,K e H→K' e H):JC P t x key H K':=by
 obtain ⟨z,h1,kv,h2,h3,h⟩:=h;refine ⟨z,h1,kv,h2,h3,?_⟩;split at h
 ·split at h
  ·exact ⟨h.1,h.2.1,h.2.2.1,fun arr clock e g1 g2 g3 g4=>hk _ _ (h.2.2.2 arr clock e g1 g2 g3 g4)⟩
  ·exact h.elim
 ·exact h.elim
theorem Zc8 {x s y:VV} (h:XD x s y H K) (hk:∀ e H,K e H→K' e H):XD x s y H K':=by
 unfold XD at h ⊢;split at h
 ·split at h
  ·obtain ⟨e,h1,h2,ks,m,h3,h4,h5⟩:=h;exact ⟨e,h1,h2,ks,m,h3,h4,hk _ _ h5⟩
  ·exact h.elim
 ·exact h.elim
theorem Zho {x:VV} (h:Zat x H K) (hk:∀ e H,K e H→K' e H):Zat x H K':=by
 unfold Zat at h ⊢;split at h
 ·split at h
  ·split at h
   ·obtain ⟨h1,s0,y,h2,h3,h4,h5⟩:=h;exact ⟨h1,s0,y,h2,h3,h4,hk _ _ h5⟩
   ·exact h.elim
  ·exact h.elim
 ·exact h.elim
end
end Go.PV
end
