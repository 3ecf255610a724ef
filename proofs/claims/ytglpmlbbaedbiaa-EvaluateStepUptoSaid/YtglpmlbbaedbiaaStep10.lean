/- Part 10 of 11 of what the proof of Step needs. -/
import Derived.Test.YtglpmlbbaedbiaaStep9
set_option linter.unusedVariables false
set_option linter.unusedSimpArgs false
set_option linter.defProp false
section
open Nat renaming ble→Zpq,beq→Zpj,le_of_ble_eq_true→Zpr,eq_of_beq_eq_true→Zpm
namespace Go.PV
def undK (P:Program) (t:TypeId):Nat :=
 match P.underlying t with
 | some .bool=>1
 | some (.slice _)=>2
 | some (.pointer _)=>3
 | some (.interface _)=>4
 | some (.map _ _)=>5
 | some (.func _ _ _)=>6
 | some .string=>7
 | some (.int _)=>8
 | some _=>9
 | none=>0
def eqK (x y:EV):Option (Nat × Bool) :=
 match y with
 | .lit (.bool q)=>(match x with | .lit (.bool p)=>some (1,cond p q (!q)) | _=>none)
 | .lit (.slice none 0 0)=>(match x with | .isl _ n _=>cond (Zpq 1 n) (some (2,false)) none | .sl _ _ _ _ _=>some (2,false) | .es _ _ _ _ _=>some (2,false) | .lit (.slice none 0 0)=>some (2,true) | _=>none)
 | .lit (.pointer none)=>(match x with | .ptr _ _=>some (3,false) | .iptr _=>some (3,false) | .lit (.pointer none)=>some (3,true) | _=>none)
 | .lit .nilIface=>(match x with | .iface _ _=>some (4,false) | .lit .nilIface=>some (4,true) | _=>none)
 | .lit (.map none)=>(match x with | .map _=>some (5,false) | .lit (.map none)=>some (5,true) | _=>none)
 | .lit .nilFunc=>(match x with | .func _ _ _=>some (6,false) | .yield _=>some (6,false) | .lit .nilFunc=>some (6,true) | .lit (.func _ _ _)=>some (6,false) | _=>none)
 | _=>none
def eqE (P:Program) (t:TypeId) (ox oy:Operand) (x y:EV):Option Bool :=
 match eqK x y with
 | some (n,b)=>cond (Zpj (undK P t) n) (cond (cond (Wa ox) true (cond (Wa oy) true (Zpj n 1))) (some b) none) none
 | none=>none
def binE (P:Program) (op:BinOp) (t:TypeId) (ox oy:Operand) (x y:EV):Option EV :=
 match x,y with
 | .lit (.int k a),.lit (.int k' b)=>(match binV op (.int k a) (.int k' b) with | some r=>some (.lit r) | none=>none)
 | .lit (.string a),.lit (.string b) =>
   (match op with
    | .eql=>some (.lit (.bool (beqU a.data.toList b.data.toList)))
    | .neq=>some (.lit (.bool (!(beqU a.data.toList b.data.toList))))
    | .lss=>some (.lit (.bool (Op.bytesLess a.data.toList b.data.toList)))
    | .leq=>some (.lit (.bool (Op.bytesLess a.data.toList b.data.toList || beqU a.data.toList b.data.toList)))
    | .gtr=>some (.lit (.bool (!(Op.bytesLess a.data.toList b.data.toList || beqU a.data.toList b.data.toList))))
    | .geq=>some (.lit (.bool (!(Op.bytesLess a.data.toList b.data.toList))))
    | _=>none)
 | x,y =>
   match op with
   | .eql=>(match eqE P t ox oy x y with | some b=>some (.lit (.bool b)) | none=>none)
   | .neq=>(match eqE P t ox oy x y with | some b=>some (.lit (.bool (!b))) | none=>none)
   | _=>none
section
variable {P:Program} {σ:Sg} {H:AH} {K:VE→AH→Prop}
theorem Zdj (P:Program) (t:TypeId) :
 (undK P t=1→P.underlying t=some .bool)∧(undK P t=2→∃ e,P.underlying t=some (.slice e))∧(undK P t=3→∃ e,P.underlying t=some (.pointer e)) ∧
 (undK P t=4→∃ e,P.underlying t=some (.interface e))∧(undK P t=5→∃ k e,P.underlying t=some (.map k e))∧(undK P t=6→∃ a b c,P.underlying t=some (.func a b c)) ∧
 (undK P t=7→P.underlying t=some .string):=by
 unfold undK
 split<;>rename_i h<;>refine ⟨?_,?_,?_,?_,?_,?_,?_⟩<;>intro e<;>first | (exact absurd e (by decide)) | exact h | exact ⟨_,h⟩ | exact ⟨_,_,h⟩ | exact ⟨_,_,_,h⟩
theorem ZoD {t:TypeId} {x y:EV} {x' y':VV} {n:Nat} {b:Bool} (hx:RV σ x x') (hy:RV σ y y') (h:eqK x y=some (n,b)) (hn:undK P t=n) :
 eqOk P t x' y'∧(n=1→P.underlying t=some .bool)∧∀ c,eqOut P t x' y' c→c=b:=by
 have hu:=Zdj P t;unfold eqK at h;split at h
 ·obtain rfl:=hy;split at h
  ·rename_i q _ p;obtain rfl:=hx;simp only [Option.some.injEq,Prod.mk.injEq] at h;obtain ⟨rfl,rfl⟩:=h;refine ⟨hu.1 hn,fun _=>hu.1 hn,fun c hc=>?_⟩;simp only [eqOut] at hc;rw [hc];cases p<;>cases q<;>rfl
  ·cases h
 ·obtain rfl:=hy;split at h
  ·rename_i ex m cs;obtain ⟨ys,rfl,_⟩:=hx;cases hb:Zpq 1 m with
   | false=>simp [hb] at h
   | true =>
     simp only [hb,cond_true,Option.some.injEq,Prod.mk.injEq] at h;obtain ⟨rfl,rfl⟩:=h
     have:=Zpr hb
     exact ⟨hu.2.1 hn,fun h=>(by cases h),fun c hc=>hc (by omega)⟩
  ·obtain ⟨p,_,_,rfl⟩:=hx;simp only [Option.some.injEq,Prod.mk.injEq] at h;obtain ⟨rfl,rfl⟩:=h;exact ⟨hu.2.1 hn,fun h=>(by cases h),fun c hc=>hc⟩
  ·obtain ⟨p,_,rfl⟩:=hx;simp only [Option.some.injEq,Prod.mk.injEq] at h;obtain ⟨rfl,rfl⟩:=h;exact ⟨hu.2.1 hn,fun h=>(by cases h),fun c hc=>hc⟩
  ·obtain rfl:=hx;simp only [Option.some.injEq,Prod.mk.injEq] at h;obtain ⟨rfl,rfl⟩:=h;exact ⟨hu.2.1 hn,fun h=>(by cases h),fun c hc=>hc⟩
  ·cases h
 ·obtain rfl:=hy;split at h
  ·obtain ⟨p,_,rfl⟩:=hx;simp only [Option.some.injEq,Prod.mk.injEq] at h;obtain ⟨rfl,rfl⟩:=h;exact ⟨hu.2.2.1 hn,fun h=>(by cases h),fun c hc=>hc⟩
  ·obtain ⟨ys,rfl,_⟩:=hx;simp only [Option.some.injEq,Prod.mk.injEq] at h;obtain ⟨rfl,rfl⟩:=h;exact ⟨hu.2.2.1 hn,fun h=>(by cases h),fun c hc=>hc⟩
  ·obtain rfl:=hx;simp only [Option.some.injEq,Prod.mk.injEq] at h;obtain ⟨rfl,rfl⟩:=h;exact ⟨hu.2.2.1 hn,fun h=>(by cases h),fun c hc=>hc⟩
  ·cases h
 ·obtain rfl:=hy;split at h
  ·obtain ⟨y,rfl,_⟩:=hx;simp only [Option.some.injEq,Prod.mk.injEq] at h;obtain ⟨rfl,rfl⟩:=h;exact ⟨hu.2.2.2.1 hn,fun h=>(by cases h),fun c hc=>hc⟩
  ·obtain rfl:=hx;simp only [Option.some.injEq,Prod.mk.injEq] at h;obtain ⟨rfl,rfl⟩:=h;exact ⟨hu.2.2.2.1 hn,fun h=>(by cases h),fun c hc=>hc⟩
  ·cases h
 ·obtain rfl:=hy;split at h
  ·obtain ⟨p,_,rfl⟩:=hx;simp only [Option.some.injEq,Prod.mk.injEq] at h;obtain ⟨rfl,rfl⟩:=h;exact ⟨hu.2.2.2.2.1 hn,fun h=>(by cases h),fun c hc=>hc⟩
  ·obtain rfl:=hx;simp only [Option.some.injEq,Prod.mk.injEq] at h;obtain ⟨rfl,rfl⟩:=h;exact ⟨hu.2.2.2.2.1 hn,fun h=>(by cases h),fun c hc=>hc⟩
  ·cases h
 ·obtain rfl:=hy;split at h
  ·obtain ⟨asg,bs,rfl,_⟩:=hx;simp only [Option.some.injEq,Prod.mk.injEq] at h;obtain ⟨rfl,rfl⟩:=h;exact ⟨hu.2.2.2.2.2.1 hn,fun h=>(by cases h),fun c hc=>hc⟩
  ·obtain ⟨p,_,rfl⟩:=hx;simp only [Option.some.injEq,Prod.mk.injEq] at h;obtain ⟨rfl,rfl⟩:=h;exact ⟨hu.2.2.2.2.2.1 hn,fun h=>(by cases h),fun c hc=>hc⟩
  ·obtain rfl:=hx;simp only [Option.some.injEq,Prod.mk.injEq] at h;obtain ⟨rfl,rfl⟩:=h;exact ⟨hu.2.2.2.2.2.1 hn,fun h=>(by cases h),fun c hc=>hc⟩
  ·obtain rfl:=hx;simp only [Option.some.injEq,Prod.mk.injEq] at h;obtain ⟨rfl,rfl⟩:=h;exact ⟨hu.2.2.2.2.2.1 hn,fun h=>(by cases h),fun c hc=>hc⟩
  ·cases h
 ·cases h
theorem ZdY {t:TypeId} {x y:VV} (h:eqOk P t x y):Yw y=none:=by
 unfold eqOk at h;split at h<;>first | rfl | exact h.elim
theorem ZoE {t:TypeId} {ox oy:Operand} {x y:EV} {x' y':VV} {b:Bool} (hx:RV σ x x') (hy:RV σ y y') (h:eqE P t ox oy x y=some b) :
 eqOk P t x' y'∧(Wa ox=true∨Wa oy=true∨P.underlying t=some .bool)∧∀ c,eqOut P t x' y' c→c=b:=by
 unfold eqE at h;split at h
 ·rename_i n b' hk;cases hn:Zpj (undK P t) n with
  | false=>simp [hn] at h
  | true =>
    have hn':=Zpm hn;simp only [hn,cond_true] at h;obtain ⟨g1,g2,g3⟩:=ZoD (P:=P) (t:=t) hx hy hk hn';cases h1:Wa ox with
    | true=>simp only [h1,cond_true,Option.some.injEq] at h; subst h; exact ⟨g1,.inl rfl,g3⟩
    | false =>
      cases h2:Wa oy with
      | true=>simp only [h1,h2,cond_true,cond_false,Option.some.injEq] at h; subst h; exact ⟨g1,.inr (.inl rfl),g3⟩
      | false =>
        simp only [h1,h2,cond_false] at h;cases h3:Zpj n 1 with
        | false=>simp [h3] at h
        | true=>simp only [h3,cond_true,Option.some.injEq] at h; subst h; exact ⟨g1,.inr (.inr (g2 (Zpm h3))),g3⟩
 ·cases h
theorem strEq (a b:ByteArray):(a.data.toList == b.data.toList)=beqU a.data.toList b.data.toList:=by
 rw [Bool.eq_iff_iff,Zfk]; simp
theorem Zmr {op:BinOp} {t:TypeId} {ox oy:Operand} {x y:EV} {x' y':VV} {v:EV} (hx:RV σ x x') (hy:RV σ y y') (h:binE P op t ox oy x y=some v) (hK:∀ z,RV σ v z→K (.ret z) H):vcBin P op t ox oy x' y' H K:=by
 unfold binE at h;split at h
 ·obtain rfl:=hx; obtain rfl:=hy;split at h
  ·rename_i r hr;simp only [Option.some.injEq] at h;subst h;simp only [vcBin,hr];exact hK _ rfl
  ·cases h
 ·obtain rfl:=hx; obtain rfl:=hy;split at h
  all_goals first
   | (cases h; done)
   | (simp only [Option.some.injEq] at h; subst h; simp only [vcBin,binV,toListB,strEq]; exact hK _ rfl)
 ·rename_i n1 n2;have key:∀ b,eqE P t ox oy x y=some b→eqOk P t x' y'∧(Wa ox=true∨Wa oy=true∨P.underlying t=some .bool)∧(∀ c,eqOut P t x' y' c→c=b):=fun b hb=>ZoE hx hy hb
  split at h
  ·split at h
   ·rename_i b hb;obtain ⟨g1,g2,g3⟩:=key b hb;have hl:=ZdY g1;simp only [Option.some.injEq] at h;subst h;unfold vcBin;split
    ·exact g1.elim
    ·exact g1.elim
    ·dsimp only;rw [hl];split
     ·rename_i e; cases e
     ·exact ⟨g1,g2,fun c hc=>by rw [g3 c hc]; exact hK _ rfl⟩
   ·cases h
  ·split at h
   ·rename_i b hb;obtain ⟨g1,g2,g3⟩:=key b hb;have hl:=ZdY g1;simp only [Option.some.injEq] at h;subst h;unfold vcBin;split
    ·exact g1.elim
    ·exact g1.elim
    ·dsimp only;rw [hl];split
     ·rename_i e; cases e
     ·exact ⟨g1,g2,fun c hc=>by rw [g3 c hc]; exact hK _ rfl⟩
   ·cases h
  ·cases h
end
def unE (op:UnOp) (x:EV):Option EV :=
 match x with
 | .lit v=>(match unV op v with | some r=>some (.lit r) | none=>none)
 | _=>none
def convE (P:Program) (s d:TypeId) (x:EV):Option EV :=
 match x with
 | .lit (.int _ n)=>(match P.underlying s with | some _=>(match P.underlying d with | some (.int k)=>some (.lit (.int k (k.wrap n))) | _=>none) | none=>none)
 | .lit (.string b)=>(match P.underlying s with
   | some _=>(match P.underlying d with
     | some .string=>some (.lit (.string b))
     | some (.slice e)=>(match P.underlying e with
       | some (.int .u8)=>some (.isl false b.data.size (b.data.toList.map fun c=>.lit (.int .u8 (c.toNat:Int))))
       | _=>none)
     | _=>none)
   | none=>none)
 | _=>none
def nilE (x:EV):Option EV :=
 match x with
 | .iptr cs=>some (.iptr cs)
 | .ptr k o=>some (.ptr k o)
 | .lit (.func (.func f) a b)=>some (.lit (.func (.func f) a b))
 | .yield k=>some (.yield k)
 | .func f a b=>some (.func f a b)
 | _=>none
def Zes (P:Program) (s:TypeId) (a:EV) (f:Nat):Option EV :=
 match flT P s f with
 | some (off,n,_)=>cond (Zpj n 0) none (match a with | .iptr cs=>some (.iptr (cs.drop off)) | .ptr k o=>some (.ptr k (o+off)) | _=>none)
 | none=>none
def Zm6 (P:Program) (s:TypeId) (x:EV) (f:Nat):Option EV :=
 match flT P s f with
 | some (off,n,ag)=>(match x with | .agg cs=>partE off n ag cs | .lit (.agg vs)=>partE off n ag (vs.toList.map .lit) | _=>none)
 | none=>none
def inB (j:Int) (n:Nat):Bool:=cond (decide (0≤j)) (decide (j<(n:Int))) false
def Zet (P:Program) (t:TypeId) (a i:EV):Option EV :=
 match i with
 | .lit (.int _ j) =>
   (match elT P t with
    | some (_,k,_)=>(match a with
      | .isl _ n cs=>cond (inB j n) (some (.iptr (cs.drop (j.toNat * k)))) none
      | .sl q o n _ _=>cond (inB j n) (some (.ptr q (o+j.toNat * k))) none
      | _=>none)
    | none=>(match arT P t with
      | some (n,_,k)=>(match a with
        | .iptr cs=>cond (inB j n) (some (.iptr (cs.drop (j.toNat * k)))) none
        | .ptr q o=>cond (inB j n) (some (.ptr q (o+j.toNat * k))) none
        | _=>none)
      | none=>none))
 | _=>none
def loadE (P:Program) (get:Nat→Option EB) (t:TypeId) (a:EV):Option EV :=
 match ldT P t with
 | some (n,ag)=>(match a with
   | .iptr cs=>ldE n ag cs
   | .ptr k o=>(match get k with
     | some (.cells _ cs)=>ldE n ag (cs.drop o)
     | some (.grown _ _ cs)=>ldE n ag (cs.drop o)
     | _=>none)
   | _=>none)
 | none=>none
section
variable {P:Program} {σ:Sg} {H:AH} {K:VE→AH→Prop}
theorem ZoF {op:UnOp} {x:EV} {x':VV} {v:EV} (hx:RV σ x x') (h:unE op x=some v) (hK:∀ z,RV σ v z→K (.ret z) H):vcUn op x' H K:=by
 unfold unE at h;split at h
 ·obtain rfl:=hx;split at h
  ·rename_i r hr;simp only [Option.some.injEq] at h;subst h;simp only [vcUn,hr];exact hK _ rfl
  ·cases h
 ·cases h
theorem ZkQ {s d:TypeId} {x:EV} {x':VV} {v:EV} (hx:RV σ x x') (h:convE P s d x=some v) (hK:∀ z,RV σ v z→K (.ret z) H):Zaq P s d x' H K:=by
 unfold convE at h;split at h
 ·obtain rfl:=hx;split at h
  ·rename_i s' h1;split at h
   ·rename_i k h2;simp only [Option.some.injEq] at h;subst h;exact ⟨k,s',h1,h2,hK _ rfl⟩
   ·cases h
  ·cases h
 ·rename_i b;obtain rfl:=hx;split at h
  ·rename_i s' h1;split at h
   ·rename_i h2;simp only [Option.some.injEq] at h;subst h;simp only [Zaq,h2];exact ⟨s',h1,hK _ rfl⟩
   ·rename_i e h2;split at h
    ·rename_i h4;simp only [Option.some.injEq] at h;subst h;simp only [Zaq,h2];refine ⟨s',h1,h4,hK _ ⟨_,rfl,?_⟩⟩
     have:=RVL.lits (σ:=σ) (b.data.toList.map fun c=>Value.int .u8 (c.toNat:Int))
     simpa [Function.comp_def] using this
    ·cases h
   ·cases h
  ·cases h
 ·cases h
theorem Zms {x:EV} {x':VV} {v:EV} (hx:RV σ x x') (h:nilE x=some v) (hK:∀ z,RV σ v z→K (.ret z) H):vcNil x' H K:=by
 unfold nilE at h;split at h<;>first | (cases h; done) | skip
 ·simp only [Option.some.injEq] at h; subst h;have h2:=hx;obtain ⟨ys,rfl,_⟩:=hx;exact hK _ h2
 ·simp only [Option.some.injEq] at h; subst h;have h2:=hx;obtain ⟨p,_,rfl⟩:=hx;exact hK _ h2
 ·simp only [Option.some.injEq] at h; subst h;obtain rfl:=hx;exact hK _ rfl
 ·simp only [Option.some.injEq] at h; subst h;have h2:=hx;obtain ⟨p,_,rfl⟩:=hx;exact hK _ h2
 ·simp only [Option.some.injEq] at h; subst h;have h2:=hx;obtain ⟨asg,bs,rfl,_⟩:=hx;exact hK _ h2
theorem Zfz {s:TypeId} {f:Nat} {a:EV} {a':VV} {v:EV} (ha:RV σ a a') (h:Zes P s a f=some v) (hK:∀ z,RV σ v z→K (.ret z) H):Yt P s a' f H K:=by
 unfold Zes at h;split at h
 ·rename_i off n ag hf;cases hb:Zpj n 0 with
  | true=>simp [hb] at h
  | false =>
    have hn:n ≠ 0:=fun e=>by rw [e] at hb; cases hb
    simp only [hb,cond_false] at h;split at h
    ·simp only [Option.some.injEq] at h; subst h;obtain ⟨ys,rfl,hl⟩:=ha;simp only [Yt,hf];exact ⟨hn,hK _ ⟨_,rfl,hl.drop off⟩⟩
    ·simp only [Option.some.injEq] at h; subst h;obtain ⟨p,hp,rfl⟩:=ha;simp only [Yt,hf,ptrV];exact ⟨hn,hK _ ⟨p,hp,rfl⟩⟩
    ·cases h
 ·cases h
theorem ZjA {s:TypeId} {f:Nat} {a:EV} {a':VV} {v:EV} (ha:RV σ a a') (h:Zm6 P s a f=some v) (hK:∀ z,RV σ v z→K (.ret z) H):Zai P s a' f H K:=by
 unfold Zm6 at h;split at h
 ·rename_i off n ag hf;split at h
  ·obtain ⟨ys,rfl,hl⟩:=ha;obtain ⟨x,h1,h2⟩:=Zga hl h;simp only [Zai,hf,h1];exact hK _ h2
  ·rename_i vs;obtain rfl:=ha;obtain ⟨x,h1,h2⟩:=Zga (RVL.lits (σ:=σ) vs.toList) h;simp only [Zai,hf,h1];exact hK _ h2
  ·cases h
 ·cases h
theorem Zfm {j:Int} {n:Nat} (h:inB j n=true):0≤j∧j<(n:Int):=by
 unfold inB at h;by_cases h1:0≤j
 ·simp only [h1,decide_true,cond_true,decide_eq_true_eq] at h; exact ⟨h1,h⟩
 ·simp [h1] at h
theorem ZfA {t:TypeId} {a i:EV} {a' i':VV} {v:EV} (ha:RV σ a a') (hi:RV σ i i') (h:Zet P t a i=some v) (hK:∀ z,RV σ v z→K (.ret z) H):Yl P t a' i' H K:=by
 unfold Zet at h;split at h
 ·rename_i kk j;obtain rfl:=hi;split at h
  ·rename_i e k b hel;split at h
   ·rename_i ex n cs;obtain ⟨ys,rfl,hl⟩:=ha;cases hb:inB j n with
    | false=>simp [hb] at h
    | true =>
      simp only [hb,cond_true,Option.some.injEq] at h;subst h;simp only [Yl,hel];exact ⟨Zfm hb,hK _ ⟨_,rfl,hl.drop _⟩⟩
   ·rename_i q o n c d;obtain ⟨p,hp,_,rfl⟩:=ha;cases hb:inB j n with
    | false=>simp [hb] at h
    | true =>
      simp only [hb,cond_true,Option.some.injEq] at h;subst h;simp only [Yl,hel];exact ⟨Zfm hb,hK _ ⟨p,hp,rfl⟩⟩
   ·cases h
  ·rename_i hel;split at h
   ·rename_i n e k har;split at h
    ·obtain ⟨ys,rfl,hl⟩:=ha;cases hb:inB j n with
     | false=>simp [hb] at h
     | true =>
       simp only [hb,cond_true,Option.some.injEq] at h;subst h;simp only [Yl,hel,har];exact ⟨Zfm hb,hK _ ⟨_,rfl,hl.drop _⟩⟩
    ·obtain ⟨p,hp,rfl⟩:=ha;cases hb:inB j n with
     | false=>simp [hb] at h
     | true =>
       simp only [hb,cond_true,Option.some.injEq] at h;subst h;simp only [Yl,hel,har,ptrV];exact ⟨Zfm hb,hK _ ⟨p,hp,rfl⟩⟩
    ·cases h
   ·cases h
 ·cases h
theorem ZkR {get:Nat→Option EB} {t:TypeId} {a:EV} {a':VV} {v:EV} (hg:∀ k b,get k=some b→RBl P σ k b H) (ha:RV σ a a') (h:loadE P get t a=some v) (hK:∀ z,RV σ v z→K (.ret z) H):XL P t a' H K:=by
 unfold loadE at h;split at h
 ·rename_i n ag hl;split at h
  ·obtain ⟨ys,rfl,hc⟩:=ha;obtain ⟨x,h1,h2⟩:=ZbH hc h;simp only [XL,hl,h1];exact hK _ h2
  ·rename_i k o;obtain ⟨p,hp,rfl⟩:=ha;split at h
   ·rename_i e cs hb;rcases hg k _ hb with hd | ⟨q,B,g1,g2,g3⟩
    ·cases hd
    ·rw [hp] at g1; cases g1;obtain ⟨ys,rfl,hc⟩:=g3;obtain ⟨x,h1,h2⟩:=ZbH (hc.drop o) h;simp only [XL,hl,ptrV,g2,h1];exact hK _ h2
   ·rename_i e s cs hb;rcases hg k _ hb with hd | ⟨q,B,g1,g2,g3⟩
    ·cases hd
    ·rw [hp] at g1; cases g1;obtain ⟨ys,sp,rfl,hc,_⟩:=g3;obtain ⟨x,h1,h2⟩:=ZbH (hc.drop o) h;simp only [XL,hl,ptrV,g2,h1];exact hK _ h2
   ·cases h
  ·cases h
 ·cases h
end
end Go.PV
end
section
open List renaming replicate→ZpR,map_cons→Zpp,map_nil→Zpw
open Nat renaming ble→Zpq,beq→Zpj,le_of_ble_eq_true→Zpr,eq_of_beq_eq_true→Zpm,le_refl→Zpl
namespace Go.PV
def Zm7 (P:Program) (t:TypeId) (ps:List (Nat × EV)):Option EV :=
 match stT P t with
 | some (zs,pl)=>(match fillE (fun i=>pl[i]?) (zs.map .lit) ps with | some cs=>some (.agg cs) | none=>none)
 | none=>none
def ZcM (P:Program) (t:TypeId) (len:Nat) (ps:List (Nat × EV)):Option EV :=
 match elT P t with
 | some (e,k,_)=>(match zeroT P e with
   | some zs=>cond (cond (Zpq (len * k) 16777216) (Zpj zs.length k) false)
      (match fillE (fun i=>some (i * k,k)) ((ZpR len zs).flatten.map .lit) ps with | some cs=>some (.isl true len cs) | none=>none) none
   | none=>none)
 | none=>none
def idxE (x:Option EV) (d:Nat):Option Nat :=
 match x with
 | none=>some d
 | some (.lit (.int _ j))=>cond (decide (0≤j)) (some j.toNat) none
 | _=>none
def Zm8 (P:Program) (t:TypeId) (x:EV) (lo hi mx:Option EV):Option EV :=
 match x with
 | .isl ex n cs =>
   (match elT P t,idxE lo 0,idxE hi n,idxE mx n with
    | some (_,k,_),some l,some h,some m=>cond (cond (cond mx.isSome hi.isSome true) (cond (Zpq l h) (cond (Zpq h m) (Zpq m n) false) false) false)
       (some (.isl (cond mx.isSome (Zpj m h) (cond ex (Zpj h n) false)) (h-l) (cs.drop (l * k)))) none
    | _,_,_,_=>none)
 | .lit (.slice none 0 0) =>
   (match elT P t,idxE lo 0,idxE hi 0,idxE mx 0 with
    | some (_,k,_),some l,some h,some m=>cond (cond (cond mx.isSome hi.isSome true) (cond (Zpq l h) (cond (Zpq h m) (Zpq m 0) false) false) false) (some (.lit (.slice none 0 0))) none
    | _,_,_,_=>none)
 | .sl q o n c d =>
   (match elT P t,idxE lo 0,idxE hi n with
    | some (_,k,_),some l,some h=>cond (cond (Zpq l h) (Zpq h n) false)
       (match mx with
        | some m=>(match idxE (some m) 0 with
          | some m=>cond (cond hi.isSome (cond (Zpq h m) (Zpq m n) false) false) (some (.sl q (cond (Zpj m l) o (o+l * k)) (h-l) (some (m-l)) 0)) none
          | none=>none)
        | none=>(match c with
          | some c=>some (.sl q (cond (Zpj (c-d) l) o (o+l * k)) (h-l) (some (c-d-l)) 0)
          | none=>cond (Zpj l 0) (some (.sl q o h none d)) (cond (Zpj l h) (some (.es q o d l k)) (some (.sl q (o+l * k) (h-l) none (d+l)))))) none
    | _,_,_=>none)
 | .lit (.string s) =>
   (match mx,idxE lo 0,idxE hi s.size with
    | none,some l,some h=>cond (cond (Zpj (undK P t) 7) (cond (Zpq l h) (Zpq h s.size) false) false) (some (.lit (.string (s.extract l h)))) none
    | _,_,_=>none)
 | _=>none
def lenE (P:Program) (t:TypeId) (x:EV):Option EV :=
 match x with
 | .isl _ n _=>(match elT P t with | some _=>some (.lit (.int .i64 (n:Int))) | none=>none)
 | .sl _ _ n _ _=>(match elT P t with | some _=>some (.lit (.int .i64 (n:Int))) | none=>none)
 | .es _ _ _ _ _=>(match elT P t with | some _=>some (.lit (.int .i64 0)) | none=>none)
 | .lit (.slice _ n _)=>(match elT P t with | some _=>some (.lit (.int .i64 (n:Int))) | none=>none)
 | .lit (.string s)=>cond (Zpj (undK P t) 7) (some (.lit (.int .i64 (s.data.size:Int)))) none
 | _=>none
def ZhV (x:EV) (i:Nat):Option EV :=
 match x with
 | .tuple cs=>(match cs.drop i with | c::_=>some c | []=>none)
 | _=>none
def okE (ok:Bool) (x:EV) (b:Bool):EV:=cond ok (.tuple [x,.lit (.bool b)]) x
def Zj2 (P:Program) (x:EV) (t:TypeId) (ok:Bool):Option EV :=
 cond (WW P t) (match x with
  | .iface u y=>cond (Zpj u t) (some (okE ok y true)) (cond ok (match zeroV P t with | some z=>some (okE ok (.lit z) false) | none=>none) none)
  | .lit .nilIface=>cond ok (match zeroV P t with | some z=>some (okE ok (.lit z) false) | none=>none) none
  | _=>none) none
def Zm9 (P:Program) (t:TypeId) (x i:EV):Option EV :=
 match x,i with
 | .lit (.string s),.lit (.int _ j)=>cond (cond (Zpj (undK P t) 7) (decide (0≤j)) false) (match s.data.toList[j.toNat]? with | some b=>some (.lit (.int .u8 (b.toNat:Int))) | none=>none) none
 | _,_=>none
section
variable {P:Program} {σ:Sg} {H:AH} {K:VE→AH→Prop}
theorem ZjB {t:TypeId} {ps:List (Nat × EV)} {us:List (Nat × VV)} {v:EV} (hp:RVP σ ps us) (h:Zm7 P t ps=some v) (hK:∀ z,RV σ v z→K (.ret z) H):ZQ P t us H K:=by
 unfold Zm7 at h;split at h
 ·rename_i zs pl hst;split at h
  ·rename_i cs hf;simp only [Option.some.injEq] at h; subst h;obtain ⟨ys,g1,g2⟩:=ZcL hp (RVL.lits zs) hf;simp only [ZQ,hst,g1];exact hK _ ⟨ys,rfl,g2⟩
  ·cases h
 ·cases h
theorem Zex {t:TypeId} {len:Nat} {ps:List (Nat × EV)} {us:List (Nat × VV)} {v:EV} (hp:RVP σ ps us) (h:ZcM P t len ps=some v) (hK:∀ z,RV σ v z→K (.ret z) H):ZN P t len us H K:=by
 unfold ZcM at h;split at h
 ·rename_i e k b hel;split at h
  ·rename_i zs hz;cases h1:Zpq (len * k) 16777216 with
   | false=>simp [h1] at h
   | true =>
     cases h2:Zpj zs.length k with
     | false=>simp [h1,h2] at h
     | true =>
       simp only [h1,h2,cond_true] at h;split at h
       ·rename_i cs hf;simp only [Option.some.injEq] at h; subst h;obtain ⟨ys,g1,g2⟩:=ZcL hp (RVL.lits _) hf;simp only [ZN,hel,hz,g1];exact ⟨⟨Zpr h1,Zpm h2⟩,hK _ ⟨ys,rfl,g2⟩⟩
       ·cases h
  ·cases h
 ·cases h
def RVO (σ:Sg):Option EV→Option VV→Prop
 | none,x=>x=none
 | some v,x=>∃ y,x=some y∧RV σ v y
theorem RVO.map {ev:Operand→EV} {f:Operand→VV} (h:∀ o,RV σ (ev o) (f o)) (o:Option Operand):RVO σ (o.map ev) (o.map f):=by
 cases o with
 | none=>rfl
 | some o=>exact ⟨_,rfl,h o⟩
theorem XK {x:Option EV} {y:Option VV} {d n:Nat} (hx:RVO σ x y) (h:idxE x d=some n):idxOk y∧idxV y d=n∧(y=none↔x=none):=by
 unfold idxE at h;split at h
 ·simp only [Option.some.injEq] at h; subst h;obtain rfl:=hx;exact ⟨trivial,rfl,by simp⟩
 ·rename_i k j;obtain ⟨y,rfl,hy⟩:=hx;obtain rfl:=hy;by_cases hj:0≤j
  ·simp only [hj,decide_true,cond_true,Option.some.injEq] at h;exact ⟨hj,h,by simp⟩
  ·simp [hj] at h
 ·cases h
theorem ZoG (m:EV) (d d':Nat):idxE (some m) d=idxE (some m) d':=by
 cases m with
 | lit v=>cases v<;>rfl
 | _=>rfl
theorem natBeq (a b:Nat):Zpj a b=(a == b):=by
 cases h:Zpj a b with
 | true=>simp [Zpm h]
 | false =>
   have:a ≠ b:=fun e=>by rw [e,Nat.beq_refl] at h; cases h
   simp [this]
theorem cond3 {a b:Bool} (h:cond a b false=true):a=true∧b=true:=by cases a<;>simp_all
theorem condS {α:Type} {c:Bool} {x:Option α} {v:α} (h:cond c x none=some v):c=true∧x=some v:=by cases c<;>simp_all
theorem RVO.some {x:Option EV} {y:Option VV} (hx:RVO σ x y):x.isSome=y.isSome:=by
 cases x with
 | none=>obtain rfl:=hx; rfl
 | some v=>obtain ⟨y,rfl,_⟩:=hx; rfl
theorem ZjC {t:TypeId} {x:EV} {x':VV} {lo hi mx:Option EV} {lo' hi' mx':Option VV} {v:EV} (hx:RV σ x x') (h1:RVO σ lo lo') (h2:RVO σ hi hi') (h3:RVO σ mx mx')
 (h:Zm8 P t x lo hi mx=some v) (hK:∀ z,RV σ v z→K (.ret z) H):YC P t x' lo' hi' mx' H K:=by
 have hmh:∀ {b:Bool},cond mx.isSome hi.isSome true=true→(mx' ≠ none→hi' ≠ none):=by
  intro _ hc hm hh;rw [h3.some,h2.some] at hc;subst hh;cases mx' with
  | none=>exact hm rfl
  | some m=>simp at hc
 unfold Zm8 at h;split at h
 ·rename_i ex n cs;obtain ⟨ys,rfl,hl⟩:=hx;split at h
  ·rename_i e k b l hh m hel e1 e2 e3;obtain ⟨a1,a2,a3⟩:=XK h1 e1;obtain ⟨b1,b2,b3⟩:=XK h2 e2;obtain ⟨c1,c2,c3⟩:=XK h3 e3;have hq:=condS h;clear h;obtain ⟨hc,h⟩:=hq;obtain ⟨hc1,hc⟩:=cond3 hc;obtain ⟨hc2,hc⟩:=cond3 hc;obtain ⟨hc3,hc4⟩:=cond3 hc;simp only [Option.some.injEq] at h; subst h;simp only [YC,hel,a2,b2,c2];refine ⟨⟨a1,b1,c1,hmh (b:=true) hc1,by rw [a2,b2]; exact Zpr hc2,by rw [b2,c2]; exact Zpr hc3,by rw [c2]; exact Zpr hc4⟩,hK _ ⟨_,?_,hl.drop _⟩⟩;have hb:∀ a b:Nat,Zpj a b=(a == b):=natBeq;cases mx' with
   | none =>
     have:mx.isSome=false:=by rw [h3.some]; rfl
     simp only [this,cond_false];cases ex<;>simp [hb]
   | some m' =>
     have:mx.isSome=true:=by rw [h3.some]; rfl
     simp only [this,cond_true,hb]
  ·cases h
 ·obtain rfl:=hx;split at h
  ·rename_i e k b l hh m hel e1 e2 e3;obtain ⟨a1,a2,a3⟩:=XK h1 e1;obtain ⟨b1,b2,b3⟩:=XK h2 e2;obtain ⟨c1,c2,c3⟩:=XK h3 e3;have hq:=condS h;clear h;obtain ⟨hc,h⟩:=hq;obtain ⟨hc1,hc⟩:=cond3 hc;obtain ⟨hc2,hc⟩:=cond3 hc;obtain ⟨hc3,hc4⟩:=cond3 hc;simp only [Option.some.injEq] at h; subst h;simp only [YC,hel];exact ⟨⟨a1,b1,c1,hmh (b:=true) hc1,by rw [a2,b2]; exact Zpr hc2,by rw [b2,c2]; exact Zpr hc3,by rw [c2]; exact Zpr hc4⟩,hK _ rfl⟩
  ·cases h
 ·rename_i q o n c d;obtain ⟨p,hp,hn,rfl⟩:=hx;split at h
  ·rename_i e k b l hh hel e1 e2;obtain ⟨a1,a2,a3⟩:=XK h1 e1;obtain ⟨b1,b2,b3⟩:=XK h2 e2;have hq:=condS h;clear h;obtain ⟨hc,h⟩:=hq;obtain ⟨hc2,hc3⟩:=cond3 hc;have hlh:=Zpr hc2;have hhn:=Zpr hc3;simp only [YC,hel,a2,b2];split at h
   ·rename_i m;split at h
    ·rename_i m' e3;have e3':idxE (some m) (c.getD p.c-d)=some m':=(ZoG m _ 0).trans e3;obtain ⟨c1,c2,c3⟩:=XK h3 e3';have hq:=condS h;clear h;obtain ⟨hc,h⟩:=hq;obtain ⟨hc4,hc⟩:=cond3 hc;obtain ⟨hc5,hc6⟩:=cond3 hc;have hhm:=Zpr hc5;have hmn:=Zpr hc6;simp only [Option.some.injEq] at h; subst h;rw [c2];refine ⟨⟨a1,b1,c1,fun _=>?_,by rw [a2,b2]; exact hlh,by rw [b2,c2]; exact hhm,by rw [c2]; omega⟩,hK _ ⟨p,hp,?_,?_⟩⟩
     ·rw [h2.some] at hc4;intro e; rw [e] at hc4; cases hc4
     ·simp; omega
     ·simp only [Option.getD_some,Nat.sub_zero]
      have:(if m'=l then o else o+l * k)=cond (Zpj m' l) o (o+l * k):=by
       cases hb:Zpj m' l with
       | true=>rw [if_pos (Zpm hb)]; rfl
       | false=>rw [if_neg (fun e=>by rw [e,Nat.beq_refl] at hb; cases hb)]; rfl
      rw [this]
    ·cases h
   ·obtain rfl:=h3;have sok:Xj lo' hi' none n (c.getD p.c-d):=⟨a1,b1,trivial,fun h=>absurd rfl h,by rw [a2,b2]; exact hlh,by rw [b2]; show hh≤c.getD p.c-d; omega,Zpl _⟩
    have hbq:∀ a b:Nat,∀ u w:Nat,(if a=b then u else w)=cond (Zpj a b) u w:=by
     intro a b u w;cases hb:Zpj a b with
     | true=>rw [if_pos (Zpm hb)]; rfl
     | false=>rw [if_neg (fun e=>by rw [e,Nat.beq_refl] at hb; cases hb)]; rfl
    refine ⟨sok,?_⟩;show K (.ret (.lit (.slice (some ⟨p.r,if (c.getD p.c-d)=l then o else o+l * k,none⟩) (hh-l) ((c.getD p.c-d)-l)))) H;split at h
    ·rename_i c;simp only [Option.some.injEq] at h; subst h;simp only [Option.getD_some] at hn ⊢;refine hK _ ⟨p,hp,?_,?_⟩
     ·simp; omega
     ·simp only [Option.getD_some,Nat.sub_zero,hbq]
    ·simp only [Option.getD_none] at hn ⊢;cases hl0:Zpj l 0 with
     | true =>
       have:=Zpm hl0
       subst this;simp only [hl0,cond_true,Option.some.injEq] at h; subst h;refine hK _ ⟨p,hp,?_,?_⟩
       ·simp only [Option.getD_none]; omega
       ·simp
     | false =>
       simp only [hl0,cond_false] at h;cases hlh':Zpj l hh with
       | true =>
         have:=Zpm hlh'
         subst this;simp only [hlh',cond_true,Option.some.injEq] at h; subst h;refine hK _ ⟨p,hp,?_⟩;rw [Nat.sub_self]
       | false =>
         have hne:l ≠ hh:=fun e=>by rw [e,Nat.beq_refl] at hlh'; cases hlh'
         simp only [hlh',cond_false,Option.some.injEq] at h; subst h;refine hK _ ⟨p,hp,?_,?_⟩
         ·simp only [Option.getD_none]; omega
         ·rw [if_neg (by omega)];simp only [Option.getD_none,Nat.sub_sub]
  ·cases h
 ·rename_i s;obtain rfl:=hx;split at h
  ·rename_i l hh e1 e2;obtain rfl:=h3;obtain ⟨a1,a2,a3⟩:=XK h1 e1;obtain ⟨b1,b2,b3⟩:=XK h2 e2;have hq:=condS h;clear h;obtain ⟨hc,h⟩:=hq;obtain ⟨hc1,hc⟩:=cond3 hc;obtain ⟨hc2,hc3⟩:=cond3 hc;simp only [Option.some.injEq] at h; subst h;simp only [YC,a2,b2];exact ⟨(Zdj P t).2.2.2.2.2.2 (Zpm hc1),trivial,⟨a1,b1,trivial,fun h=>absurd rfl h,by rw [a2,b2]; exact Zpr hc2,by rw [b2]; exact Zpr hc3,Zpl _⟩,hK _ rfl⟩
  ·cases h
 ·cases h
theorem Zmt {t:TypeId} {x:EV} {x':VV} {v:EV} (hx:RV σ x x') (h:lenE P t x=some v) (hK:∀ z,RV σ v z→K (.ret z) H):vcLen P t x' H K:=by
 unfold lenE at h;split at h
 ·obtain ⟨ys,rfl,_⟩:=hx;split at h
  ·rename_i e; simp only [Option.some.injEq] at h; subst h; exact ⟨by rw [e]; simp,hK _ rfl⟩
  ·cases h
 ·obtain ⟨p,_,_,rfl⟩:=hx;split at h
  ·rename_i e; simp only [Option.some.injEq] at h; subst h; exact ⟨by rw [e]; simp,hK _ rfl⟩
  ·cases h
 ·obtain ⟨p,_,rfl⟩:=hx;split at h
  ·rename_i e; simp only [Option.some.injEq] at h; subst h; exact ⟨by rw [e]; simp,hK _ rfl⟩
  ·cases h
 ·obtain rfl:=hx;split at h
  ·rename_i e; simp only [Option.some.injEq] at h; subst h; exact ⟨by rw [e]; simp,hK _ rfl⟩
  ·cases h
 ·obtain rfl:=hx;have hq:=condS h;clear h;obtain ⟨hc,h⟩:=hq;simp only [Option.some.injEq] at h; subst h;exact ⟨(Zdj P t).2.2.2.2.2.2 (Zpm hc),hK _ rfl⟩
 ·cases h
theorem ZgC {x:EV} {x':VV} {i:Nat} {v:EV} (hx:RV σ x x') (h:ZhV x i=some v) (hK:∀ z,RV σ v z→K (.ret z) H):ZP x' i H K:=by
 unfold ZhV at h;split at h
 ·rename_i cs;obtain ⟨ys,rfl,hl⟩:=hx;have hd:=hl.drop i;split at h
  ·rename_i c cs' hc;simp only [Option.some.injEq] at h; subst h;rw [hc] at hd;obtain ⟨y,ys',e,hy,_⟩:=hd
   have:ys[i]?=some y:=by
    have:=List.getElem?_drop (xs:=ys) (i:=i) (j:=0)
    rw [e] at this;simpa using this.symm
   simp only [ZP,this];exact hK _ hy
  ·cases h
 ·cases h
theorem ZbU {ok:Bool} {v:EV} {x:VV} {b:Bool} (h:RV σ v x):RV σ (okE ok v b) (okV ok x b):=by
 cases ok with
 | false=>exact h
 | true=>exact ⟨_,rfl,x,_,rfl,h,_,[],rfl,rfl,rfl⟩
theorem Ziu {x:EV} {x':VV} {t:TypeId} {ok:Bool} {v:EV} (hx:RV σ x x') (h:Zj2 P x t ok=some v) (hK:∀ z,RV σ v z→K (.ret z) H):Xs P x' t ok H K:=by
 unfold Zj2 at h;have hq:=condS h;clear h;obtain ⟨hc,h⟩:=hq;refine ⟨hc,?_⟩;split at h
 ·rename_i u y;obtain ⟨z,rfl,hz⟩:=hx;dsimp only;cases hb:Zpj u t with
  | true =>
    simp only [hb,cond_true,Option.some.injEq] at h; subst h;rw [if_pos (Zpm hb)];exact hK _ (ZbU hz)
  | false =>
    rw [if_neg (fun e=>by rw [e,Nat.beq_refl] at hb; cases hb)];simp only [hb,cond_false] at h;have hq:=condS h;clear h;obtain ⟨h1,h⟩:=hq;refine ⟨h1,?_⟩;split at h
    ·rename_i z' hz';simp only [Option.some.injEq] at h; subst h;simp only [hz'];exact hK _ (ZbU rfl)
    ·cases h
 ·obtain rfl:=hx;dsimp only;have hq:=condS h;clear h;obtain ⟨h1,h⟩:=hq;refine ⟨h1,?_⟩;split at h
  ·rename_i z' hz';simp only [Option.some.injEq] at h; subst h;simp only [hz'];exact hK _ (ZbU rfl)
  ·cases h
 ·cases h
theorem ZjD {t:TypeId} {x i:EV} {x' i':VV} {v:EV} (hx:RV σ x x') (hi:RV σ i i') (h:Zm9 P t x i=some v) (hK:∀ z,RV σ v z→K (.ret z) H):Zbs P t x' i' H K:=by
 unfold Zm9 at h;split at h
 ·obtain rfl:=hx;obtain rfl:=hi;have hq:=condS h;clear h;obtain ⟨hc,h⟩:=hq;obtain ⟨hc1,hc2⟩:=cond3 hc;split at h
  ·rename_i b hb;simp only [Option.some.injEq] at h; subst h;refine ⟨(Zdj P t).2.2.2.2.2.2 (Zpm hc1),of_decide_eq_true hc2,?_⟩;simp only [hb];exact hK _ rfl
  ·cases h
 ·cases h
end
def maxE (a b:EV):Option EV :=
 match a,b with
 | .lit (.int k a),.lit (.int _ b)=>some (.lit (.int k (cond (decide (a<b)) b a)))
 | _,_=>none
def minE (a b:EV):Option EV :=
 match a,b with
 | .lit (.int k a),.lit (.int _ b)=>some (.lit (.int k (cond (decide (b<a)) b a)))
 | _,_=>none
def two? (l:List Operand):Option (Operand × Operand):=match l with | [a,b]=>some (a,b) | _=>none
def pureE (P:Program) (ev:Operand→EV) (get:Nat→Option EB) (op:Op):Option EV :=
 match op with
 | .move x=>some (ev x)
 | .assign x=>some (ev x)
 | .pick c a b=>(match ev c with | .lit (.bool t)=>some (cond t (ev a) (ev b)) | _=>none)
 | .build t ps=>Zm7 P t (ps.toList.map fun p=>(p.1,ev p.2))
 | .buildSlice t len ps=>ZcM P t len (ps.toList.map fun p=>(p.1,ev p.2))
 | .load t a=>loadE P get t (ev a)
 | .nilCheck x=>nilE (ev x)
 | .binOp op t x y _=>binE P op t x y (ev x) (ev y)
 | .unOp op _ x=>unE op (ev x)
 | .convert s d x=>convE P s d (ev x)
 | .makeInterface t x=>cond (WW P t) (some (.iface t (ev x))) none
 | .makeFunc (.func f) first cap=>some (.func f (first.toList.map ev) (cap.toList.map ev))
 | .slice t x lo hi mx=>Zm8 P t (ev x) (lo.map ev) (hi.map ev) (mx.map ev)
 | .fieldAddr s x f=>Zes P s (ev x) f
 | .field s x f=>Zm6 P s (ev x) f
 | .indexAddr t x i=>Zet P t (ev x) (ev i)
 | .index t x i=>Zm9 P t (ev x) (ev i)
 | .typeAssert x _ t ok=>Zj2 P (ev x) t ok
 | .extract x i=>ZhV (ev x) i
 | .call { callee:=.builtin .len,args,argTypes }=>(match argTypes.toList,args.toList with | [t],[x]=>lenE P t (ev x) | _,_=>none)
 | .call { callee:=.builtin .max,args,.. }=>(match args.toList with | [x,y]=>maxE (ev x) (ev y) | _=>none)
 | .call { callee:=.builtin .min,args,.. }=>(match args.toList with | [x,y]=>minE (ev x) (ev y) | _=>none)
 | _=>none
theorem ZcN {cx:Cx} {A:AF} {σ:Sg} {H:AH} {K:VE→AH→Prop} {ev:Operand→EV} {get:Nat→Option EB} {op:Op} {v:EV} (hev:∀ o,RV σ (ev o) (A.eval o)) (hg:∀ k b,get k=some b→RBl cx.P σ k b H)
 (h:pureE cx.P ev get op=some v) (hK:∀ z,RV σ v z→K (.ret z) H):vcOp cx op A H K:=by
 unfold pureE at h;split at h
 ·simp only [Option.some.injEq] at h; subst h; exact hK _ (hev _)
 ·simp only [Option.some.injEq] at h; subst h; exact hK _ (hev _)
 ·rename_i c a b;split at h
  ·rename_i t ht;have hc:=hev c;rw [ht] at hc;have hc':A.eval c=.lit (.bool t):=hc;simp only [Option.some.injEq] at h; subst h;simp only [vcOp,hc'];cases t
   ·exact hK _ (hev b)
   ·exact hK _ (hev a)
  ·cases h
 ·exact ZjB (RVP.map hev _) h hK
 ·exact Zex (RVP.map hev _) h hK
 ·exact ZkR hg (hev _) h hK
 ·exact Zms (hev _) h hK
 ·exact Zmr (hev _) (hev _) h hK
 ·exact ZoF (hev _) h hK
 ·exact ZkQ (hev _) h hK
 ·have hq:=condS h;clear h;obtain ⟨h1,h⟩:=hq;simp only [Option.some.injEq] at h; subst h;exact ⟨h1,hK _ ⟨_,rfl,hev _⟩⟩
 ·simp only [Option.some.injEq] at h; subst h;exact hK _ ⟨_,_,rfl,RVL.map hev _,RVL.map hev _⟩
 ·exact ZjC (hev _) (RVO.map hev _) (RVO.map hev _) (RVO.map hev _) h hK
 ·exact Zfz (hev _) h hK
 ·exact ZjA (hev _) h hK
 ·exact ZfA (hev _) (hev _) h hK
 ·exact ZjD (hev _) (hev _) h hK
 ·exact Ziu (hev _) h hK
 ·exact ZgC (hev _) h hK
 ·rename_i args ats;split at h
  ·rename_i t x h1 h2;show Yy cx.P .len ats.toList (args.toList.map A.eval) H K;rw [h1,h2];exact Zmt (hev x) h hK
  ·cases h
 ·rename_i args ats;split at h
  ·rename_i x y h2;show Yy cx.P .max ats.toList (args.toList.map A.eval) H K;rw [h2,ZoZ];have hx:=hev x;have hy:=hev y;unfold maxE at h;split at h
   ·rename_i k a k' b e1 e2;rw [e1] at hx;rw [e2] at hy;simp only [Option.some.injEq] at h; subst h;simp only [Zpp,Zpw,show A.eval x=_ from hx,show A.eval y=_ from hy,vcMax]
    have:(if b > a then b else a)=cond (decide (a<b)) b a:=by by_cases hab:a<b<;>simp [hab]
    rw [this];exact hK _ rfl
   ·cases h
  ·cases h
 ·rename_i args ats;split at h
  ·rename_i x y h2;show Yy cx.P .min ats.toList (args.toList.map A.eval) H K;rw [h2,ZlT];have hx:=hev x;have hy:=hev y;unfold minE at h;split at h
   ·rename_i k a k' b e1 e2;rw [e1] at hx;rw [e2] at hy;simp only [Option.some.injEq] at h; subst h;simp only [Zpp,Zpw,show A.eval x=_ from hx,show A.eval y=_ from hy,vcMin]
    have:(if b<a then b else a)=cond (decide (b<a)) b a:=by by_cases hab:b<a<;>simp [hab]
    rw [this];exact hK _ rfl
   ·cases h
  ·cases h
 ·cases h
end Go.PV
end
section
open List renaming replicate→ZpR
open Nat renaming beq→Zpj,ble→Zpq,eq_of_beq_eq_true→Zpm,le_of_ble_eq_true→Zpr
namespace Go.PV
open Go.Maps
structure HR (P:Program) (σ:Sg) (h:Tr EB) (H:AH):Prop where
 blk:∀ k b,h.get k=some b→RBl P σ k b H
 inj:∀ k k' b b' p p',h.get k=some b→h.get k'=some b'→b.isDead=false→b'.isDead=false→σ k=some p→σ k'=some p'→p.r=p'.r→k=k'
 dom:∀ k,h.get k=none→σ k=none
def sgS (σ:Sg) (k:Nat) (p:Pay):Sg:=fun i=>if i=k then some p else σ i
theorem Zhn {σ:Sg} {k:Nat} {p:Pay} (h:σ k=none):Ext σ (sgS σ k p):=fun i q hq=>by
 unfold sgS;split
 ·rename_i e; rw [e,h] at hq; cases hq
 ·exact hq
theorem Jn (σ:Sg) (k:Nat) (p:Pay):sgS σ k p k=some p:=by simp [sgS]
def newB (h:Tr EB) (k:Nat) (b:EB):Option (Tr EB):=match h.get k with | none=>Tr.set 40 h k b | some _=>none
section
variable {P:Program} {σ:Sg} {h h':Tr EB} {H:AH}
theorem Zdk {k:Nat} {b:EB} (hn:newB h k b=some h'):h.get k=none∧Tr.set 40 h k b=some h':=by
 unfold newB at hn;split at hn
 ·rename_i e; exact ⟨e,hn⟩
 ·cases hn
theorem HR.new (hr:HR P σ h H) {k:Nat} {b:EB} {B:Blk} {p:Pay} (hn:newB h k b=some h') (hH:H p.r=none) (hb:RB P (sgS σ k p) p b B):Ext σ (sgS σ k p)∧HR P (sgS σ k p) h' (H.set p.r B):=by
 obtain ⟨hk,hs⟩:=Zdk hn;have hg:=Tr.get_set _ _ _ _ _ hs;have hx:Ext σ (sgS σ k p):=Zhn (hr.dom k hk)
 have hlive:∀ i b',h.get i=some b'→b'.isDead=false→∃ q,σ i=some q∧q.r ≠ p.r:=fun i b' hi hd=>by
  rcases hr.blk i b' hi with h1 | ⟨q,B',h1,h2,h3⟩
  ·rw [hd] at h1; cases h1
  ·exact ⟨q,h1,fun e=>by rw [e,hH] at h2; cases h2⟩
 refine ⟨hx,⟨fun i c hi=>?_,fun i j c d q q' hi hj hc hd hq hq' e=>?_,fun i hi=>?_⟩⟩
 ·rw [hg] at hi;split at hi
  ·rename_i e; subst e; cases hi;exact .inr ⟨p,B,Jn _ _ _,by simp [AH.set],hb⟩
  ·rcases hr.blk i c hi with h1 | ⟨q,B',h1,h2,h3⟩
   ·exact .inl h1
   ·refine .inr ⟨q,B',hx _ _ h1,?_,h3.mono hx⟩;rw [AH.set_ne]
    ·exact h2
    ·intro e; rw [e,hH] at h2; cases h2
 ·rw [hg] at hi hj;by_cases e1:i=k
  ·by_cases e2:j=k
   ·rw [e1,e2]
   ·rw [if_neg e2] at hj;obtain ⟨q2,g1,g2⟩:=hlive j d hj hd;rw [hx _ _ g1] at hq';cases hq';subst e1;rw [Jn] at hq;cases hq;exact absurd e.symm g2
  ·rw [if_neg e1] at hi;obtain ⟨q1,f1,f2⟩:=hlive i c hi hc;rw [hx _ _ f1] at hq;cases hq;by_cases e2:j=k
   ·subst e2;rw [Jn] at hq';cases hq';exact absurd e f2
   ·rw [if_neg e2] at hj;obtain ⟨q2,g1,g2⟩:=hlive j d hj hd;rw [hx _ _ g1] at hq';cases hq';exact hr.inj i j c d _ _ hi hj hc hd f1 g1 e
 ·rw [hg] at hi;split at hi
  ·cases hi
  ·rename_i e;unfold sgS;rw [if_neg e];exact hr.dom i hi
theorem HR.upd (hr:HR P σ h H) {k:Nat} {b b0:EB} {B:Blk} {p:Pay} (hk:h.get k=some b0) (hd:b0.isDead=false) (hp:σ k=some p) (hs:Tr.set 40 h k b=some h') (hb:RB P σ p b B):HR P σ h' (H.set p.r B):=by
 have hg:=Tr.get_set _ _ _ _ _ hs;refine ⟨fun i c hi=>?_,fun i j c d q q' hi hj hc hd' hq hq' e=>?_,fun i hi=>?_⟩
 ·rw [hg] at hi;split at hi
  ·rename_i e; subst e; cases hi;exact .inr ⟨p,B,hp,by simp [AH.set],hb⟩
  ·rename_i ne;cases hc:c.isDead with
   | true=>exact .inl hc
   | false =>
     rcases hr.blk i c hi with h1 | ⟨q,B',h1,h2,h3⟩
     ·exact .inl h1
     ·refine .inr ⟨q,B',h1,?_,h3⟩;rw [AH.set_ne]
      ·exact h2
      ·intro e; exact ne (hr.inj i k c b0 q p hi hk hc hd h1 hp e)
 ·rw [hg] at hi hj;by_cases e1:i=k
  ·by_cases e2:j=k
   ·rw [e1,e2]
   ·rw [if_neg e2] at hj;subst e1;exact hr.inj i j b0 d q q' hk hj hd hd' hq hq' e
  ·rw [if_neg e1] at hi;by_cases e2:j=k
   ·subst e2;exact hr.inj i j c b0 q q' hi hk hc hd hq hq' e
   ·rw [if_neg e2] at hj;exact hr.inj i j c d q q' hi hj hc hd' hq hq' e
 ·rw [hg] at hi;split at hi
  ·cases hi
  ·exact hr.dom i hi
theorem HR.kill (hr:HR P σ h H) {k:Nat} {b0:EB} {p:Pay} (hk:h.get k=some b0) (hd:b0.isDead=false) (hp:σ k=some p) (hs:Tr.set 40 h k .dead=some h'):HR P σ h' (H.del p.r):=by
 have hg:=Tr.get_set _ _ _ _ _ hs;refine ⟨fun i c hi=>?_,fun i j c d q q' hi hj hc hd' hq hq' e=>?_,fun i hi=>?_⟩
 ·rw [hg] at hi;split at hi
  ·cases hi; exact .inl rfl
  ·rename_i ne;cases hc:c.isDead with
   | true=>exact .inl hc
   | false =>
     rcases hr.blk i c hi with h1 | ⟨q,B',h1,h2,h3⟩
     ·exact .inl h1
     ·refine .inr ⟨q,B',h1,?_,h3⟩;rw [AH.del_ne]
      ·exact h2
      ·intro e; exact ne (hr.inj i k c b0 q p hi hk hc hd h1 hp e)
 ·rw [hg] at hi hj;by_cases e1:i=k
  ·rw [if_pos e1] at hi; cases hi; cases hc
  ·rw [if_neg e1] at hi;by_cases e2:j=k
   ·rw [if_pos e2] at hj; cases hj; cases hd'
   ·rw [if_neg e2] at hj;exact hr.inj i j c d q q' hi hj hc hd' hq hq' e
 ·rw [hg] at hi;split at hi
  ·cases hi
  ·exact hr.dom i hi
end
abbrev HE:=EV × Tr EB
def Zna (P:Program) (nb:Nat) (e:TypeId) (h:Tr EB):Option HE :=
 match zeroT P e with
 | some zs=>(match newB h nb (.cells e (zs.map .lit)) with | some h'=>some (.ptr nb 0,h') | none=>none)
 | none=>none
def boxE (nb:Nat) (e:TypeId) (x:EV) (h:Tr EB):Option HE:=match newB h nb (.cells e x.cells) with | some h'=>some (.ptr nb 0,h') | none=>none
def Znb (P:Program) (t:TypeId) (a x:EV) (h:Tr EB):Option HE :=
 match a with
 | .ptr k o=>(match szT P t with
   | some n=>cond (cond (Zpj n x.cells.length) (x.cells.all EV.one) false) (match h.get k with
     | some (.cells e cs)=>cond (Zpq (o+x.cells.length) cs.length) (match Tr.set 40 h k (.cells e (setAt cs o x.cells)) with | some h'=>some (.lit undef,h') | none=>none) none
     | some (.grown e s cs)=>cond (Zpq (o+x.cells.length) cs.length) (match Tr.set 40 h k (.grown e s (setAt cs o x.cells)) with | some h'=>some (.lit undef,h') | none=>none) none
     | _=>none) none
   | none=>none)
 | _=>none
def ZhW (nb:Nat) (t:TypeId) (h:Tr EB):Option HE:=match newB h nb (.map t []) with | some h'=>some (.map nb,h') | none=>none
def Zeu (P:Program) (nb:Nat) (t:TypeId) (l c:EV) (h:Tr EB):Option HE :=
 match l,c with
 | .lit (.int _ l),.lit (.int _ c)=>(match elT P t with
   | some (e,k,b)=>(match zeroT P e with
     | some zs=>cond (cond (Zpj zs.length k) (cond (decide (0≤l)) (cond (decide (l≤c)) (cond (decide ((b:Int) * c≤281474976710656)) (decide (c≤9223372036854775807)) false) false) false) false)
        (match newB h nb (.cells e ((ZpR c.toNat zs).flatten.map .lit)) with | some h'=>some (.sl nb 0 l.toNat (some c.toNat) 0,h') | none=>none) none
     | none=>none)
   | none=>none)
 | _,_=>none
def litL:List EV→Option (List Value)
 | []=>some []
 | .lit v::l=>(match litL l with | some vs=>some (v::vs) | none=>none)
 | _=>none
def litE:EV→Option Value
 | .lit v=>some v
 | .agg cs=>(match litL cs with | some vs=>some (.agg vs.toArray) | none=>none)
 | _=>none
def Zho (P:Program) (t:TypeId) (k:Value):Bool:=match P.underlying t with | some (.map kt _)=>(keyOf P kt k).isSome | _=>false
def Zj3 (P:Program) (mt:TypeId→Option Value) (t:TypeId) (x key:EV) (ok:Bool) (h:Tr EB):Option EV :=
 match mt t,litE key with
 | some z,some kv=>cond (cond (Zfy kv) (Zho P t kv) false) (match x with
   | .lit (.map none)=>some (okE ok (.lit z) false)
   | .map q=>(match h.get q with
     | some (.map t' l)=>cond (Zpj t' t) (match lookM l kv with | some v=>some (okE ok v true) | none=>some (okE ok (.lit z) false)) none
     | _=>none)
   | _=>none) none
 | _,_=>none
def Zhp (P:Program) (mt:TypeId→Option Value) (t:TypeId) (x key y:EV) (h:Tr EB):Option HE :=
 match mt t,litE key with
 | some _,some kv=>cond (cond (Zfy kv) (Zho P t kv) false) (match x with
   | .map q=>(match h.get q with
     | some (.map t' l)=>cond (Zpj t' t) (match Tr.set 40 h q (.map t ((kv,y)::l)) with | some h'=>some (.lit undef,h') | none=>none) none
     | _=>none)
   | _=>none) none
 | _,_=>none
def srcE (h:Tr EB) (k:Nat):EV→Option (Nat × List EV)
 | .isl _ n cs=>cond (Zpq (n * k) cs.length) (some (n,cs.take (n * k))) none
 | .lit (.slice none 0 0)=>some (0,[])
 | .sl q o n _ _=>(match h.get q with
   | some (.cells _ cs)=>cond (Zpq (o+n * k) cs.length) (some (n,(cs.drop o).take (n * k))) none
   | some (.grown _ _ cs)=>cond (Zpq (o+n * k) cs.length) (some (n,(cs.drop o).take (n * k))) none
   | _=>none)
 | _=>none
def Zj4 (P:Program) (nb:Nat) (t:TypeId) (s x:EV) (h:Tr EB):Option HE :=
 match elT P t with
 | some (e,k,b)=>(match zeroT P e with
   | some zs=>cond (cond (Zpj zs.length k) (Zpq 1 k) false) (match srcE h k x with
     | some (m,news)=>cond (news.all EV.one) (match s with
       | .lit (.slice none 0 0)=>cond (Zpj m 0) (some (s,h)) (cond (cond (Zpq (m * b) 140737488355328) (Zpq m 9223372036854775807) false)
          (match newB h nb (.grown e k news) with | some h'=>some (.sl nb 0 m none 0,h') | none=>none) none)
       | .isl true n cs=>cond (Zpj cs.length (n * k)) (cond (cond (Zpq ((n+m) * b) 140737488355328) (Zpq (n+m) 9223372036854775807) false) (cond (Zpj m 0) (some (s,h))
          (match newB h nb (.grown e k (cs++news)) with | some h'=>some (.sl nb 0 (n+m) none 0,h') | none=>none)) none) none
       | .sl q o n (some c) d=>cond (cond (Zpj (c-d) n) (cond (Zpq ((n+m) * b) 140737488355328) (Zpq (n+m) 9223372036854775807) false) false) (match srcE h k s with
          | some (_,cs)=>cond (Zpj m 0) (some (s,h)) (match newB h nb (.grown e k (cs++news)) with | some h'=>some (.sl nb 0 (n+m) none 0,h') | none=>none)
          | none=>none) none
       | .sl q o n none d=>(match h.get q with
          | some (.grown e' k' cs)=>cond (cond (Zpj o 0) (cond (Zpj d 0) (cond (Zpj e' e) (cond (Zpj k' k) (cond (Zpj cs.length (n * k)) (cond (Zpq ((n+m) * b) 140737488355328) (cond (Zpq (n+m) 9223372036854775807) (Zpq 1 (n+m)) false) false) false) false) false) false) false)
             (match Tr.set 40 h q .dead with
              | some h1=>(match newB h1 nb (.grown e k (cs++news)) with | some h'=>some (.sl nb 0 (n+m) none 0,h') | none=>none)
              | none=>none) none
          | _=>none)
       | _=>none) none
     | none=>none) none
   | none=>none)
 | none=>none
section
variable {P:Program} {σ:Sg} {h h':Tr EB} {H:AH} {K:VE→AH→Prop}
def EK (P:Program) (σ:Sg) (v:EV) (h':Tr EB) (K:VE→AH→Prop):Prop:=∀ σ' H' x,Ext σ σ'→HR P σ' h' H'→RV σ' v x→K (.ret x) H'
theorem ZjE {nb:Nat} {e:TypeId} {v:EV} (hr:HR P σ h H) (he:Zna P nb e h=some (v,h')) (hK:EK P σ v h' K):Zbr P e H K:=by
 unfold Zna at he;split at he
 ·rename_i zs hz;split at he
  ·rename_i h1 hn;simp only [Option.some.injEq,Prod.mk.injEq] at he;obtain ⟨rfl,rfl⟩:=he;simp only [Zbr,hz];intro r hH;obtain ⟨g1,g2⟩:=hr.new (p:={ r:=r }) hn hH (B:=.cells e (zs.map .lit) 0) ⟨_,rfl,RVL.lits zs⟩;exact hK _ _ _ g1 g2 ⟨_,Jn _ _ _,rfl⟩
  ·cases he
 ·cases he
theorem Zmu {nb:Nat} {e:TypeId} {x v:EV} {x':VV} (hr:HR P σ h H) (hx:RV σ x x') (he:boxE nb e x h=some (v,h')) (hK:EK P σ v h' K):vcBox e x' H K:=by
 unfold boxE at he;split at he
 ·rename_i h1 hn;simp only [Option.some.injEq,Prod.mk.injEq] at he;obtain ⟨rfl,rfl⟩:=he;intro r hH;obtain ⟨g1,g2⟩:=hr.new (p:={ r:=r }) hn hH (B:=.cells e x'.cells 0) ⟨_,rfl,RVL.mono (Zhn (hr.dom _ (Zdk hn).1)) _ _ hx.cells⟩;exact hK _ _ _ g1 g2 ⟨_,Jn _ _ _,rfl⟩
 ·cases he
theorem ZjF {t:TypeId} {a x v:EV} {a' x':VV} (hr:HR P σ h H) (ha:RV σ a a') (hx:RV σ x x') (he:Znb P t a x h=some (v,h')) (hK:EK P σ v h' K):Jv P t a' x' H K:=by
 unfold Znb at he;split at he
 ·rename_i k o;obtain ⟨p,hp,rfl⟩:=ha;split at he
  ·rename_i n hsz;have hq:=condS he;clear he;obtain ⟨hc,he⟩:=hq;obtain ⟨hc1,hc2⟩:=cond3 hc;have e1:szT P t=some x'.cells.length:=by rw [hsz,Zpm hc1,hx.cells.length]
   have e2:x'.cells.all VV.one=true:=by rw [← hx.cells.ones]; exact hc2
   split at he
   ·rename_i e cs hk;have hq:=condS he;clear he;obtain ⟨hc3,he⟩:=hq;have hle:=Zpr hc3;split at he
    ·rename_i h1 hs;simp only [Option.some.injEq,Prod.mk.injEq] at he;obtain ⟨rfl,rfl⟩:=he;rcases hr.blk k _ hk with hd | ⟨q,B,g1,g2,g3⟩
     ·cases hd
     ·rw [hp] at g1; cases g1;obtain ⟨ys,rfl,hl⟩:=g3;simp only [Jv,ptrV,g2];refine ⟨e1,e2,by rw [hx.cells.length,hl.length]; exact hle,hK _ _ _ (Ext.refl σ) (hr.upd hk rfl hp hs ⟨_,rfl,hl.setAt o hx.cells⟩) rfl⟩
    ·cases he
   ·rename_i e s cs hk;have hq:=condS he;clear he;obtain ⟨hc3,he⟩:=hq;have hle:=Zpr hc3;split at he
    ·rename_i h1 hs;simp only [Option.some.injEq,Prod.mk.injEq] at he;obtain ⟨rfl,rfl⟩:=he;rcases hr.blk k _ hk with hd | ⟨q,B,g1,g2,g3⟩
     ·cases hd
     ·rw [hp] at g1; cases g1;obtain ⟨ys,sp,rfl,hl,h3,h4⟩:=g3;simp only [Jv,ptrV,g2];refine ⟨e1,e2,by rw [hx.cells.length,hl.length]; exact hle,hK _ _ _ (Ext.refl σ) (hr.upd hk rfl hp hs ⟨_,sp,rfl,hl.setAt o hx.cells,by rw [Zav]; exact h3,h4⟩) rfl⟩
    ·cases he
   ·cases he
  ·cases he
 ·cases he
theorem ZgD {nb:Nat} {t:TypeId} {v:EV} (hr:HR P σ h H) (he:ZhW nb t h=some (v,h')) (hK:EK P σ v h' K):ZaG P t H K:=by
 unfold ZhW at he;split at he
 ·rename_i h1 hn;simp only [Option.some.injEq,Prod.mk.injEq] at he;obtain ⟨rfl,rfl⟩:=he;intro r hH;obtain ⟨g1,g2⟩:=hr.new (p:={ r:=r }) hn hH (B:=.map (Wp P t) (fun _=>none)) ⟨_,rfl,fun k hk=>by simp [lookM]⟩;exact hK _ _ _ g1 g2 ⟨_,Jn _ _ _,rfl⟩
 ·cases he
theorem ZfB {nb:Nat} {t:TypeId} {l c v:EV} {l' c':VV} (hr:HR P σ h H) (hl:RV σ l l') (hc:RV σ c c') (he:Zeu P nb t l c h=some (v,h')) (hK:EK P σ v h' K):Zgn P t l' c' H K:=by
 unfold Zeu at he;split at he
 ·rename_i kl l kc c;obtain rfl:=hl;obtain rfl:=hc;split at he
  ·rename_i e k b hel;split at he
   ·rename_i zs hz;have hq:=condS he;clear he;obtain ⟨hc,he⟩:=hq;obtain ⟨hc1,hc⟩:=cond3 hc;obtain ⟨hc2,hc⟩:=cond3 hc;obtain ⟨hc3,hc⟩:=cond3 hc;obtain ⟨hc4,hc5⟩:=cond3 hc;split at he
    ·rename_i h1 hn;simp only [Option.some.injEq,Prod.mk.injEq] at he;obtain ⟨rfl,rfl⟩:=he;simp only [Zgn,hel,hz];have hlc:=of_decide_eq_true hc3;have hl0:=of_decide_eq_true hc2;refine ⟨Zpm hc1,hl0,hlc,of_decide_eq_true hc4,of_decide_eq_true hc5,fun r hH=>?_⟩;obtain ⟨g1,g2⟩:=hr.new (p:={ r:=r }) hn hH (B:=.cells e ((ZpR c.toNat zs).flatten.map .lit) 0) ⟨_,rfl,RVL.lits _⟩;exact hK _ _ _ g1 g2 ⟨_,Jn _ _ _,by simp; omega,rfl⟩
    ·cases he
   ·cases he
  ·cases he
 ·cases he
theorem Zjf:∀ {cs:List EV} {vs:List Value} {ys:List VV},litL cs=some vs→RVL σ cs ys→Yw (.agg ys)=some vs
 | [],vs,ys,h,hl=>by
   simp only [litL,Option.some.injEq] at h;subst h;simp only [RVL] at hl;subst hl;rfl
 | c::cs,vs,ys,h,hl=>by
   obtain ⟨y,ys',rfl,h1,h2⟩:=hl;cases c with
   | lit v =>
     obtain rfl:=h1;simp only [litL] at h;split at h
     ·rename_i us hu;simp only [Option.some.injEq] at h;subst h
      have:=Zjf hu h2
      simp only [Yw,List.mapM_cons] at this ⊢;simp [this]
     ·cases h
   | _=>simp [litL] at h
theorem Zjg {x:EV} {v:Value} {y:VV} (h:litE x=some v) (hx:RV σ x y):Zdo y=some v:=by
 cases x with
 | lit u=>obtain rfl:=hx; exact h
 | agg cs =>
   obtain ⟨ys,rfl,hl⟩:=hx;simp only [litE] at h;split at h
   ·rename_i vs hv;simp only [Option.some.injEq] at h;subst h;simp [Zdo,Zjf hv hl]
   ·cases h
 | _=>simp [litE] at h
theorem Zb5 {t:TypeId} {k:Value} (h:Zho P t k=true):Wp P t k:=by
 unfold Zho at h;split at h
 ·rename_i kt et hu;obtain ⟨l,hl⟩:=Option.isSome_iff_exists.1 h;exact ⟨kt,et,l,hu,hl⟩
 ·cases h
theorem Ziv {mt:TypeId→Option Value} (hmt:∀ t z,mt t=some z→MapT P t z) {t:TypeId} {x key v:EV} {x' key':VV} {ok:Bool} (hr:HR P σ h H) (hx:RV σ x x') (hk:RV σ key key') (he:Zj3 P mt t x key ok h=some v) (hK:∀ z,RV σ v z→K (.ret z) H) :
 Zaj P t x' key' ok H K:=by
 unfold Zj3 at he;split at he
 ·rename_i z kv hz hkv;have hq:=condS he;clear he;obtain ⟨hc,he⟩:=hq;obtain ⟨hc1,hc2⟩:=cond3 hc;refine ⟨z,hmt t z hz,kv,Zjg hkv hk,Zb5 hc2,?_⟩;split at he
  ·obtain rfl:=hx;simp only [Option.some.injEq] at he;subst he;exact hK _ (ZbU rfl)
  ·rename_i q;obtain ⟨p,hp,rfl⟩:=hx;split at he
   ·rename_i t' l hq;have hqq:=condS he;clear he;obtain ⟨hc3,he⟩:=hqq;obtain rfl:=Zpm hc3;rcases hr.blk q _ hq with hd | ⟨q',B,g1,g2,g3⟩
    ·cases hd
    ·rw [hp] at g1; cases g1;obtain ⟨m,rfl,hm⟩:=g3;dsimp only;rw [g2];dsimp only;refine ⟨fun k h=>h,?_⟩;have hmk:=hm kv hc1;split at he
     ·rename_i w hw;rw [hw] at hmk;obtain ⟨y,e1,hy⟩:=hmk;simp only [Option.some.injEq] at he;subst he;rw [e1];exact hK _ (ZbU hy)
     ·rename_i hw;rw [hw] at hmk;simp only [Option.some.injEq] at he;subst he;rw [show m kv=none from hmk];exact hK _ (ZbU rfl)
   ·cases he
  ·cases he
 ·cases he
theorem ZdZ {mt:TypeId→Option Value} (hmt:∀ t z,mt t=some z→MapT P t z) {t:TypeId} {x key y v:EV} {x' key' y':VV} (hr:HR P σ h H) (hx:RV σ x x') (hk:RV σ key key') (hy:RV σ y y') (he:Zhp P mt t x key y h=some (v,h')) (hK:EK P σ v h' K) :
 Zak P t x' key' y' H K:=by
 unfold Zhp at he;split at he
 ·rename_i z kv hz hkv;have hq:=condS he;clear he;obtain ⟨hc,he⟩:=hq;obtain ⟨hc1,hc2⟩:=cond3 hc;refine ⟨z,hmt t z hz,kv,Zjg hkv hk,Zb5 hc2,?_⟩;split at he
  ·rename_i q;obtain ⟨p,hp,rfl⟩:=hx;split at he
   ·rename_i t' l hq;have hqq:=condS he;clear he;obtain ⟨hc3,he⟩:=hqq;obtain rfl:=Zpm hc3;split at he
    ·rename_i h1 hs;simp only [Option.some.injEq,Prod.mk.injEq] at he;obtain ⟨rfl,rfl⟩:=he;rcases hr.blk q _ hq with hd | ⟨q',B,g1,g2,g3⟩
     ·cases hd
     ·rw [hp] at g1; cases g1;obtain ⟨m,rfl,hm⟩:=g3;dsimp only;rw [g2];dsimp only;refine ⟨fun k h=>h,Zb5 hc2,hK _ _ _ (Ext.refl σ) (hr.upd hq rfl hp hs ⟨_,rfl,fun k hk=>?_⟩) rfl⟩;simp only [lookM];cases hb:ZdX k kv with
      | true =>
        have:=(Zhm hk).1 hb
        subst this;simp only [cond_true];exact ⟨y',Zc1 _ _ _,hy⟩
      | false =>
        have:k ≠ kv:=fun e=>by rw [(Zhm hk).2 e] at hb; cases hb
        simp only [cond_false,Zdp _ _ this];exact hm k hk
    ·cases he
   ·cases he
  ·cases he
 ·cases he
end
end Go.PV
end
section
open Nat renaming le_of_ble_eq_true→Zpr,eq_of_beq_eq_true→Zpm,beq→Zpj,zero_add→Zpu
namespace Go.PV
section
variable {P:Program} {σ:Sg} {h h':Tr EB} {H H0:AH} {K:VE→AH→Prop}
theorem ZoH {k m:Nat} {x:EV} {x':VV} {news:List EV} (hr:HR P σ h H) (hx:RV σ x x') (he:srcE h k x=some (m,news)):∃ ys,srcV H k x'=some (m,ys)∧RVL σ news ys:=by
 unfold srcE at he;split at he
 ·rename_i ex n cs;obtain ⟨ys,rfl,hl⟩:=hx;have hq:=condS he;clear he;obtain ⟨hc,he⟩:=hq;simp only [Option.some.injEq,Prod.mk.injEq] at he;obtain ⟨rfl,rfl⟩:=he
  have:n * k≤ys.length:=by rw [hl.length]; exact Zpr hc
  exact ⟨ys.take (n * k),by simp [srcV,this],hl.take _⟩
 ·obtain rfl:=hx;simp only [Option.some.injEq,Prod.mk.injEq] at he;obtain ⟨rfl,rfl⟩:=he;exact ⟨[],rfl,rfl⟩
 ·rename_i q o n c d;obtain ⟨p,hp,hn,rfl⟩:=hx;split at he
  ·rename_i e cs hq;have hqq:=condS he;clear he;obtain ⟨hc,he⟩:=hqq;simp only [Option.some.injEq,Prod.mk.injEq] at he;obtain ⟨rfl,rfl⟩:=he;rcases hr.blk q _ hq with hd | ⟨q',B,g1,g2,g3⟩
   ·cases hd
   ·rw [hp] at g1; cases g1;obtain ⟨ys,rfl,hl⟩:=g3
    have:o+n * k≤ys.length:=by rw [hl.length]; exact Zpr hc
    exact ⟨(ys.drop o).take (n * k),by simp [srcV,g2,this],(hl.drop _).take _⟩
  ·rename_i e s cs hq;have hqq:=condS he;clear he;obtain ⟨hc,he⟩:=hqq;simp only [Option.some.injEq,Prod.mk.injEq] at he;obtain ⟨rfl,rfl⟩:=he;rcases hr.blk q _ hq with hd | ⟨q',B,g1,g2,g3⟩
   ·cases hd
   ·rw [hp] at g1; cases g1;obtain ⟨ys,sp,rfl,hl,_⟩:=g3
    have:o+n * k≤ys.length:=by rw [hl.length]; exact Zpr hc
    exact ⟨(ys.drop o).take (n * k),by simp [srcV,g2,this],(hl.drop _).take _⟩
  ·cases he
 ·cases he
theorem HR.own (hr:HR P σ h H0) {nb:Nat} {e:TypeId} {k N:Nat} {cs:List EV} {ys:List VV} {v':VV} {H':AH} (hn:newB h nb (.grown e k cs)=some h') (hl:RVL σ cs ys) (hN:N ≠ 0) (ho:OwnX H0 H' e k v' N ys) :
 ∃ σ',Ext σ σ'∧HR P σ' h' H'∧RV σ' (.sl nb 0 N none 0) v':=by
 rcases ho with ⟨_,h0,_⟩ | ⟨g,c,sp,rfl,h0,rfl,h1,h2,h3,h4⟩
 ·exact absurd h0 hN
 ·have hx:Ext σ (sgS σ nb { r:=g,c:=c }):=Zhn (hr.dom _ (Zdk hn).1);obtain ⟨g1,g2⟩:=hr.new (p:={ r:=g,c:=c }) hn h0 (B:=.cells e ys sp) ⟨ys,sp,rfl,RVL.mono hx _ _ hl,h2,h4⟩;exact ⟨_,g1,g2,_,Jn _ _ _,by simpa using h3,by simp⟩
theorem Ziw {nb:Nat} {t:TypeId} {s x v:EV} {s' x':VV} (hr:HR P σ h H) (hs:RV σ s s') (hx:RV σ x x') (he:Zj4 P nb t s x h=some (v,h')) (hK:EK P σ v h' K):Zam P t s' x' H K:=by
 unfold Zj4 at he;split at he
 ·rename_i e k b hel;split at he
  ·rename_i zs hz;have hq:=condS he;clear he;obtain ⟨hc,he⟩:=hq;obtain ⟨hc1,hc2⟩:=cond3 hc;have hzk:=Zpm hc1;have hk:0<k:=Zpr hc2;split at he
   ·rename_i m news hsrc;obtain ⟨ys,hys,hnl⟩:=ZoH hr hx hsrc;have hq:=condS he;clear he;obtain ⟨hone,he⟩:=hq;have hone':ys.all VV.one=true:=by rw [← hnl.ones]; exact hone
    split at he
    ·obtain rfl:=hs;cases hm:Zpj m 0 with
     | true =>
       have:=Zpm hm
       subst this;simp only [hm,cond_true,Option.some.injEq,Prod.mk.injEq] at he;obtain ⟨rfl,rfl⟩:=he;exact .inr (.inr ⟨e,k,b,zs,0,[],0,ys,hel,hz,hzk,hk,.inl ⟨rfl,rfl,rfl⟩,hys,hone',by omega,by omega,fun _=>hK _ _ _ (Ext.refl σ) hr rfl,fun h=>absurd rfl h⟩)
     | false =>
       have hm0:m ≠ 0:=fun e=>by rw [e] at hm; cases hm
       simp only [hm,cond_false] at he;have hq:=condS he;clear he;obtain ⟨hc,he⟩:=hq;obtain ⟨hc3,hc4⟩:=cond3 hc;split at he
       ·rename_i h1 hn;simp only [Option.some.injEq,Prod.mk.injEq] at he;obtain ⟨rfl,rfl⟩:=he;refine .inr (.inr ⟨e,k,b,zs,0,[],m,ys,hel,hz,hzk,hk,.inl ⟨rfl,rfl,rfl⟩,hys,hone',by rw [Zpu]; exact Zpr hc3,by rw [Zpu]; exact Zpr hc4,fun h=>absurd h hm0,fun _ v' H' ho=>?_⟩);rw [Zpu,List.nil_append] at ho;obtain ⟨σ',g1,g2,g3⟩:=hr.own hn hnl hm0 ho;exact hK _ _ _ g1 g2 g3
       ·cases he
    ·rename_i n cs;obtain ⟨zs',rfl,hcl⟩:=hs;have hq:=condS he;clear he;obtain ⟨hc5,he⟩:=hq;have hq:=condS he;clear he;obtain ⟨hc,he⟩:=hq;obtain ⟨hc3,hc4⟩:=cond3 hc;have hlen:zs'.length=n * k:=by rw [hcl.length]; exact Zpm hc5
     cases hm:Zpj m 0 with
     | true =>
       have:=Zpm hm
       subst this;simp only [hm,cond_true,Option.some.injEq,Prod.mk.injEq] at he;obtain ⟨rfl,rfl⟩:=he;exact .inr (.inl ⟨e,k,b,zs,n,zs',0,ys,hel,hz,hzk,hk,rfl,hlen,hys,hone',Zpr hc3,Zpr hc4,fun _=>hK _ _ _ (Ext.refl σ) hr ⟨_,rfl,hcl⟩,fun h=>absurd rfl h⟩)
     | false =>
       have hm0:m ≠ 0:=fun e=>by rw [e] at hm; cases hm
       simp only [hm,cond_false] at he;split at he
       ·rename_i h1 hn;simp only [Option.some.injEq,Prod.mk.injEq] at he;obtain ⟨rfl,rfl⟩:=he;refine .inr (.inl ⟨e,k,b,zs,n,zs',m,ys,hel,hz,hzk,hk,rfl,hlen,hys,hone',Zpr hc3,Zpr hc4,fun h=>absurd h hm0,fun _ v' H' ho=>?_⟩);obtain ⟨σ',g1,g2,g3⟩:=hr.own hn (hcl.append hnl) (by omega) ho;exact hK _ _ _ g1 g2 g3
       ·cases he
    ·rename_i q o n c d;have hs0:=hs;obtain ⟨p,hp,hnc,rfl⟩:=hs;have hq:=condS he;clear he;obtain ⟨hc,he⟩:=hq;obtain ⟨hc5,hc⟩:=cond3 hc;obtain ⟨hc3,hc4⟩:=cond3 hc;have hcn:c-d=n:=Zpm hc5;split at he
     ·rename_i n' cs hsr
      have hcap:∃ us,n'=n∧capN H k (.lit (.slice (some ⟨p.r,o,none⟩) n ((some c).getD p.c-d))) n us∧RVL σ cs us:=by
       simp only [srcE] at hsr;simp only [Option.getD_some,hcn];split at hsr
       ·rename_i e' cs' hbq;have hqq:=condS hsr;clear hsr;obtain ⟨hc6,hsr⟩:=hqq;simp only [Option.some.injEq,Prod.mk.injEq] at hsr;obtain ⟨rfl,rfl⟩:=hsr;rcases hr.blk q _ hbq with hd | ⟨q',B,g1,g2,g3⟩
        ·cases hd
        ·rw [hp] at g1; cases g1;obtain ⟨us,rfl,hl⟩:=g3;exact ⟨_,rfl,.inr ⟨_,_,_,_,_,rfl,g2,by rw [hl.length]; exact Zpr hc6,rfl⟩,(hl.drop _).take _⟩
       ·rename_i e' s' cs' hbq;have hqq:=condS hsr;clear hsr;obtain ⟨hc6,hsr⟩:=hqq;simp only [Option.some.injEq,Prod.mk.injEq] at hsr;obtain ⟨rfl,rfl⟩:=hsr;rcases hr.blk q _ hbq with hd | ⟨q',B,g1,g2,g3⟩
        ·cases hd
        ·rw [hp] at g1; cases g1;obtain ⟨us,sp,rfl,hl,_⟩:=g3;exact ⟨_,rfl,.inr ⟨_,_,_,_,_,rfl,g2,by rw [hl.length]; exact Zpr hc6,rfl⟩,(hl.drop _).take _⟩
       ·cases hsr
      obtain ⟨us,rfl,hcap,hul⟩:=hcap;cases hm:Zpj m 0 with
      | true =>
        have:=Zpm hm
        subst this;simp only [hm,cond_true,Option.some.injEq,Prod.mk.injEq] at he;obtain ⟨rfl,rfl⟩:=he;exact .inr (.inr ⟨e,k,b,zs,n',us,0,ys,hel,hz,hzk,hk,hcap,hys,hone',Zpr hc3,Zpr hc4,fun _=>hK _ _ _ (Ext.refl σ) hr hs0,fun h=>absurd rfl h⟩)
      | false =>
        have hm0:m ≠ 0:=fun e=>by rw [e] at hm; cases hm
        simp only [hm,cond_false] at he;split at he
        ·rename_i h1 hn;simp only [Option.some.injEq,Prod.mk.injEq] at he;obtain ⟨rfl,rfl⟩:=he;refine .inr (.inr ⟨e,k,b,zs,n',us,m,ys,hel,hz,hzk,hk,hcap,hys,hone',Zpr hc3,Zpr hc4,fun h=>absurd h hm0,fun _ v' H' ho=>?_⟩);obtain ⟨σ',g1,g2,g3⟩:=hr.own hn (hul.append hnl) (by omega) ho;exact hK _ _ _ g1 g2 g3
        ·cases he
     ·cases he
    ·rename_i q o n d;obtain ⟨p,hp,hnc,rfl⟩:=hs;split at he
     ·rename_i e' k' cs hbq;have hq:=condS he;clear he;obtain ⟨hc,he⟩:=hq;obtain ⟨ha1,hc⟩:=cond3 hc;obtain ⟨ha2,hc⟩:=cond3 hc;obtain ⟨ha3,hc⟩:=cond3 hc;obtain ⟨ha4,hc⟩:=cond3 hc;obtain ⟨ha5,hc⟩:=cond3 hc;obtain ⟨ha6,hc⟩:=cond3 hc;obtain ⟨ha7,ha8⟩:=cond3 hc;obtain rfl:=Zpm ha1;obtain rfl:=Zpm ha2;obtain rfl:=Zpm ha3;obtain rfl:=Zpm ha4;have hl5:=Zpm ha5;split at he
      ·rename_i h1 hs1;split at he
       ·rename_i h2 hn;simp only [Option.some.injEq,Prod.mk.injEq] at he;obtain ⟨rfl,rfl⟩:=he;rcases hr.blk q _ hbq with hd | ⟨q',B,g1,g2,g3⟩
        ·cases hd
        ·rw [hp] at g1; cases g1;obtain ⟨us,sp,rfl,hl,h3,h4⟩:=g3;have hkill:=hr.kill hbq rfl hp hs1
         have hset:H=(H.del p.r).set p.r (.cells e' us sp):=by
          funext i
          simp only [AH.set,AH.del];split
          ·rename_i e; rw [e,g2]
          ·rfl
         simp only [Option.getD_none,Nat.sub_zero] at hnc ⊢;refine .inl ⟨e',k',b,zs,H.del p.r,n,us,m,ys,hel,hz,hzk,hk,.inr ⟨p.r,p.c,sp,rfl,AH.del_same _ _,hset,by rw [hl.length,hl5],h3,hnc,h4⟩,hys,hone',Zpr ha6,Zpr ha7,fun v' H' ho=>?_⟩
         have:=Zpr ha8
         obtain ⟨σ',g1,g2,g3⟩:=hkill.own hn (hl.append hnl) (by omega) ho;exact hK _ _ _ g1 g2 g3
       ·cases he
      ·cases he
     ·cases he
    ·cases he
   ·cases he
  ·cases he
 ·cases he
end
end Go.PV
end
section
open Nat renaming beq→Zpj,eq_of_beq_eq_true→Zpm
namespace Go.PV
mutual
def EV.closedB:EV→Bool
 | .lit _=>true
 | .isl _ _ cs=>Xe cs
 | .iptr cs=>Xe cs
 | .agg cs=>Xe cs
 | .tuple cs=>Xe cs
 | .func _ a b=>cond (Xe a) (Xe b) false
 | .iface _ x=>x.closedB
 | _=>false
def Xe:List EV→Bool
 | []=>true
 | v::vs=>cond v.closedB (Xe vs) false
end
mutual
def EV.vv:EV→VV
 | .lit v=>.lit v
 | .isl ex n cs=>.slice ex n (vvL cs)
 | .iptr cs=>.iptr (vvL cs)
 | .agg cs=>.agg (vvL cs)
 | .tuple cs=>.tuple (vvL cs)
 | .func f a b=>.func (.func f) (vvL a) (vvL b)
 | .iface t x=>.iface t x.vv
 | _=>ZJ
def vvL:List EV→List VV
 | []=>[]
 | v::vs=>v.vv::vvL vs
end
mutual
theorem RV.vv {σ:Sg}:∀ (v:EV),v.closedB=true→RV σ v v.vv
 | .lit v,h=>rfl
 | .isl ex n cs,h=>⟨_,rfl,RVL.vv cs h⟩
 | .iptr cs,h=>⟨_,rfl,RVL.vv cs h⟩
 | .agg cs,h=>⟨_,rfl,RVL.vv cs h⟩
 | .tuple cs,h=>⟨_,rfl,RVL.vv cs h⟩
 | .func f a b,h=>by
   simp only [EV.closedB] at h;obtain ⟨h1,h2⟩:=cond3 h;exact ⟨_,_,rfl,RVL.vv a h1,RVL.vv b h2⟩
 | .iface t x,h=>⟨_,rfl,RV.vv x h⟩
 | .ptr _ _,h=>by cases h
 | .sl _ _ _ _ _,h=>by cases h
 | .es _ _ _ _ _,h=>by cases h
 | .map _,h=>by cases h
 | .yield _,h=>by cases h
theorem RVL.vv {σ:Sg}:∀ (vs:List EV),Xe vs=true→RVL σ vs (vvL vs)
 | [],h=>rfl
 | v::vs,h=>by
   simp only [Xe] at h;obtain ⟨h1,h2⟩:=cond3 h;exact ⟨_,_,rfl,RV.vv v h1,RVL.vv vs h2⟩
end
theorem RV.vv_eq {σ:Sg} {v:EV} {x:VV} (h:v.closedB=true) (hx:RV σ v x):x=v.vv:=RV.fn (Ext.refl σ) v x v.vv hx (RV.vv v h)
theorem RVL.vv_eq {σ:Sg} {v:List EV} {x:List VV} (h:Xe v=true) (hx:RVL σ v x):x=vvL v:=RVL.fn (Ext.refl σ) v x (vvL v) hx (RVL.vv v h)
mutual
def YQ:EV→Tr EB→Option (EV × Tr EB)
 | .sl k o n c d,h=>(match h.get k with
   | some (.cells _ cs)=>cond (cond (Zpj o 0) (Xe cs) false) (match Tr.set 40 h k .dead with | some h'=>some (.isl false n cs,h') | none=>none) none
   | some (.grown _ _ cs)=>cond (cond (Zpj o 0) (Xe cs) false) (match Tr.set 40 h k .dead with | some h'=>some (.isl false n cs,h') | none=>none) none
   | _=>none)
 | .agg cs,h=>(match Za7 cs h with | some (cs',h')=>some (.agg cs',h') | none=>none)
 | .tuple cs,h=>(match Za7 cs h with | some (cs',h')=>some (.tuple cs',h') | none=>none)
 | v,h=>cond v.closedB (some (v,h)) none
def Za7:List EV→Tr EB→Option (List EV × Tr EB)
 | [],h=>some ([],h)
 | v::vs,h=>(match YQ v h with
   | some (v',h')=>(match Za7 vs h' with | some (vs',h'')=>some (v'::vs',h'') | none=>none)
   | none=>none)
end
section
variable {P:Program} {σ:Sg}
theorem Zjh {h h':Tr EB} {H:AH} {k n:Nat} {c:Option Nat} {d:Nat} {x:VV} {cs:List EV} {b:EB} (hr:HR P σ h H) (hx:RV σ (.sl k 0 n c d) x) (hb:h.get k=some b) (hbc:(∃ e,b=.cells e cs)∨∃ e s,b=.grown e s cs) (hcl:Xe cs=true)
 (hs:Tr.set 40 h k .dead=some h'):∃ H',GhV H x H' (EV.vv (.isl false n cs))∧HR P σ h' H'∧Xe cs=true:=by
 obtain ⟨p,hp,hn,rfl⟩:=hx;have hlive:b.isDead=false:=by rcases hbc with ⟨e,rfl⟩ | ⟨e,s,rfl⟩<;>rfl
 rcases hr.blk k b hb with hd | ⟨q,B,g1,g2,g3⟩
 ·rw [hlive] at hd; cases hd
 ·rw [hp] at g1; cases g1
  have hB:∃ e ys sp,B=.cells e ys sp∧RVL σ cs ys:=by
   rcases hbc with ⟨e,rfl⟩ | ⟨e,s,rfl⟩
   ·obtain ⟨ys,rfl,hl⟩:=g3; exact ⟨_,ys,0,rfl,hl⟩
   ·obtain ⟨ys,sp,rfl,hl,_⟩:=g3; exact ⟨_,ys,sp,rfl,hl⟩
  obtain ⟨e,ys,sp,rfl,hl⟩:=hB;obtain rfl:=RVL.vv_eq hcl hl;exact ⟨_,GhV.slice g2 hn,hr.kill hb hlive hp hs,hcl⟩
theorem Xr {v v':EV} {h h':Tr EB} {H:AH} {x:VV} (he:cond v.closedB (some (v,h)) none=some (v',h')) (hr:HR P σ h H) (hx:RV σ v x):∃ H',GhV H x H' v'.vv∧HR P σ h' H'∧v'.closedB=true:=by
 obtain ⟨hc,he⟩:=condS he;simp only [Option.some.injEq,Prod.mk.injEq] at he;obtain ⟨rfl,rfl⟩:=he;obtain rfl:=RV.vv_eq hc hx;exact ⟨H,GhV.refl _ _,hr,hc⟩
mutual
theorem Zd0:∀ (v:EV) (h:Tr EB) (v':EV) (h':Tr EB),YQ v h=some (v',h')→∀ (H:AH) (x:VV),HR P σ h H→RV σ v x→∃ H',GhV H x H' v'.vv∧HR P σ h' H'∧v'.closedB=true
 | .sl k o n c d,h,v',h',he,H,x,hr,hx=>by
   simp only [YQ] at he;split at he
   ·rename_i e cs hb;have hq:=condS he;clear he;obtain ⟨hc,he⟩:=hq;obtain ⟨hc1,hc2⟩:=cond3 hc;obtain rfl:=Zpm hc1;split at he
    ·rename_i h1 hs;simp only [Option.some.injEq,Prod.mk.injEq] at he;obtain ⟨rfl,rfl⟩:=he;exact Zjh hr hx hb (.inl ⟨e,rfl⟩) hc2 hs
    ·cases he
   ·rename_i e s cs hb;have hq:=condS he;clear he;obtain ⟨hc,he⟩:=hq;obtain ⟨hc1,hc2⟩:=cond3 hc;obtain rfl:=Zpm hc1;split at he
    ·rename_i h1 hs;simp only [Option.some.injEq,Prod.mk.injEq] at he;obtain ⟨rfl,rfl⟩:=he;exact Zjh hr hx hb (.inr ⟨e,s,rfl⟩) hc2 hs
    ·cases he
   ·cases he
 | .agg cs,h,v',h',he,H,x,hr,hx=>by
   simp only [YQ] at he;split at he
   ·rename_i cs' h1 hl;simp only [Option.some.injEq,Prod.mk.injEq] at he;obtain ⟨rfl,rfl⟩:=he;obtain ⟨ys,rfl,hys⟩:=hx;obtain ⟨H',g1,g2,g3⟩:=Zbq cs h cs' h1 hl H ys hr hys;exact ⟨H',GhV.agg g1,g2,g3⟩
   ·cases he
 | .tuple cs,h,v',h',he,H,x,hr,hx=>by
   simp only [YQ] at he;split at he
   ·rename_i cs' h1 hl;simp only [Option.some.injEq,Prod.mk.injEq] at he;obtain ⟨rfl,rfl⟩:=he;obtain ⟨ys,rfl,hys⟩:=hx;obtain ⟨H',g1,g2,g3⟩:=Zbq cs h cs' h1 hl H ys hr hys;exact ⟨H',GhV.tuple g1,g2,g3⟩
   ·cases he
 | .lit v,h,v',h',he,H,x,hr,hx=>Xr (by simpa only [YQ] using he) hr hx
 | .isl ex n cs,h,v',h',he,H,x,hr,hx=>Xr (by simpa only [YQ] using he) hr hx
 | .iptr cs,h,v',h',he,H,x,hr,hx=>Xr (by simpa only [YQ] using he) hr hx
 | .func f a b,h,v',h',he,H,x,hr,hx=>Xr (by simpa only [YQ] using he) hr hx
 | .iface t y,h,v',h',he,H,x,hr,hx=>Xr (by simpa only [YQ] using he) hr hx
 | .ptr k o,h,v',h',he,H,x,hr,hx=>Xr (by simpa only [YQ] using he) hr hx
 | .es k o d lo s,h,v',h',he,H,x,hr,hx=>Xr (by simpa only [YQ] using he) hr hx
 | .map k,h,v',h',he,H,x,hr,hx=>Xr (by simpa only [YQ] using he) hr hx
 | .yield k,h,v',h',he,H,x,hr,hx=>Xr (by simpa only [YQ] using he) hr hx
theorem Zbq:∀ (v:List EV) (h:Tr EB) (v':List EV) (h':Tr EB),Za7 v h=some (v',h')→∀ (H:AH) (x:List VV),HR P σ h H→RVL σ v x→∃ H',GhL H x H' (vvL v')∧HR P σ h' H'∧Xe v'=true
 | [],h,v',h',he,H,x,hr,hx=>by
   simp only [Za7,Option.some.injEq,Prod.mk.injEq] at he;obtain ⟨rfl,rfl⟩:=he;simp only [RVL] at hx;subst hx;exact ⟨H,GhL.nil H,hr,rfl⟩
 | v::vs,h,v',h',he,H,x,hr,hx=>by
   simp only [Za7] at he;split at he
   ·rename_i u h1 hu;split at he
    ·rename_i us h2 hus;simp only [Option.some.injEq,Prod.mk.injEq] at he;obtain ⟨rfl,rfl⟩:=he;obtain ⟨y,ys,rfl,hy,hys⟩:=hx;obtain ⟨H1,g1,g2,g3⟩:=Zd0 v h u h1 hu H y hr hy;obtain ⟨H2,f1,f2,f3⟩:=Zbq vs h1 us h2 hus H1 ys g2 hys;exact ⟨H2,GhL.cons g1 f1,f2,by simp only [Xe,g3,f3,cond_true]⟩
    ·cases he
   ·cases he
end
theorem Jd {v v':EV} {h h':Tr EB} (he:cond v.closedB (some (v,h)) none=some (v',h')):v'.closedB=true:=by
 obtain ⟨hc,he⟩:=condS he;simp only [Option.some.injEq,Prod.mk.injEq] at he;obtain ⟨rfl,rfl⟩:=he;exact hc
mutual
theorem ZcF:∀ (v:EV) (h:Tr EB) (v':EV) (h':Tr EB),YQ v h=some (v',h')→v'.closedB=true
 | .sl k o n c d,h,v',h',he=>by
   simp only [YQ] at he;split at he
   ·have hq:=condS he;clear he;obtain ⟨hc,he⟩:=hq;split at he
    ·simp only [Option.some.injEq,Prod.mk.injEq] at he;obtain ⟨rfl,rfl⟩:=he;exact (cond3 hc).2
    ·cases he
   ·have hq:=condS he;clear he;obtain ⟨hc,he⟩:=hq;split at he
    ·simp only [Option.some.injEq,Prod.mk.injEq] at he;obtain ⟨rfl,rfl⟩:=he;exact (cond3 hc).2
    ·cases he
   ·cases he
 | .agg cs,h,v',h',he=>by
   simp only [YQ] at he;split at he
   ·rename_i cs' h1 hl;simp only [Option.some.injEq,Prod.mk.injEq] at he;obtain ⟨rfl,rfl⟩:=he;exact ZaD cs h cs' h1 hl
   ·cases he
 | .tuple cs,h,v',h',he=>by
   simp only [YQ] at he;split at he
   ·rename_i cs' h1 hl;simp only [Option.some.injEq,Prod.mk.injEq] at he;obtain ⟨rfl,rfl⟩:=he;exact ZaD cs h cs' h1 hl
   ·cases he
 | .lit v,h,v',h',he=>Jd (by simpa only [YQ] using he)
 | .isl ex n cs,h,v',h',he=>Jd (by simpa only [YQ] using he)
 | .iptr cs,h,v',h',he=>Jd (by simpa only [YQ] using he)
 | .func f a b,h,v',h',he=>Jd (by simpa only [YQ] using he)
 | .iface t y,h,v',h',he=>Jd (by simpa only [YQ] using he)
 | .ptr k o,h,v',h',he=>Jd (by simpa only [YQ] using he)
 | .es k o d lo s,h,v',h',he=>Jd (by simpa only [YQ] using he)
 | .map k,h,v',h',he=>Jd (by simpa only [YQ] using he)
 | .yield k,h,v',h',he=>Jd (by simpa only [YQ] using he)
theorem ZaD:∀ (v:List EV) (h:Tr EB) (v':List EV) (h':Tr EB),Za7 v h=some (v',h')→Xe v'=true
 | [],h,v',h',he=>by
   simp only [Za7,Option.some.injEq,Prod.mk.injEq] at he;obtain ⟨rfl,rfl⟩:=he;rfl
 | v::vs,h,v',h',he=>by
   simp only [Za7] at he;split at he
   ·rename_i u h1 hu;split at he
    ·rename_i us h2 hus;simp only [Option.some.injEq,Prod.mk.injEq] at he;obtain ⟨rfl,rfl⟩:=he;simp only [Xe,ZcF v h u h1 hu,ZaD vs h1 us h2 hus,cond_true]
    ·cases he
   ·cases he
end
end
end Go.PV
end
section
open Bool renaming and_eq_true→ZpM
open List renaming map_cons→Zpp,map_nil→Zpw,all_cons→ZpU
open Nat renaming beq→Zpj,eq_of_beq_eq_true→Zpm,ble→Zpq,le_of_ble_eq_true→Zpr
namespace Go.PV
structure Cfg where
 P:Program
 ft:FuncId→Option (Nat × List ResultVar × ACode)
 mt:TypeId→Option Value
 im:TypeId→String→Option FuncId
 mm:List (FuncId × List EV × EV)
structure CfgOk (C:Cfg):Prop where
 ft:∀ f N rs a,C.ft f=some (N,rs,a)→FnD C.P f N rs a∧ZL C.P f=true
 mt:∀ t z,C.mt t=some z→MapT C.P t z
 im:∀ t m g,C.im t m=some g→∀ z w,(method (C.P.types.size+Made.depth) t z m).run C.P w=.ok (g,z) w
 mixed:C.P.follows .mixedOrders=true
 mm:∀ g ys v,(g,ys,v)∈C.mm→ZL C.P g=true∧Xe ys=true∧v.closedB=true∧PureF C.P g (vvL ys) v.vv
abbrev HN:=EV × Tr EB × Nat
abbrev CallF:=EV→List EV→Tr EB→Nat→Option HN
def JK (C:Cfg) (call:CallF):Prop:=∀ f xs h nx v h' nx',call f xs h nx=some (v,h',nx')→∀ σ H f' xs' ro K,HR C.P σ h H→RV σ f f'→RVL σ xs xs'→EK C.P σ v h' K→XX C.P ro f' xs' H K
def w2 (x:Option HE) (nx:Nat):Option HN:=match x with | some (v,h)=>some (v,h,nx) | none=>none
theorem ZbA {x:Option HE} {nx nx':Nat} {v:EV} {h:Tr EB} (e:w2 x nx=some (v,h,nx')):x=some (v,h):=by
 unfold w2 at e;split at e
 ·simp only [Option.some.injEq,Prod.mk.injEq] at e;obtain ⟨rfl,rfl,_⟩:=e;rfl
 ·cases e
def effE (C:Cfg) (call:CallF) (nb:Nat) (ev:Operand→EV) (op:Op) (h:Tr EB) (nx:Nat):Option HN :=
 match op with
 | .alloc e=>w2 (Zna C.P nb e h) nx
 | .box e x=>w2 (boxE nb e (ev x) h) nx
 | .store t a v=>w2 (Znb C.P t (ev a) (ev v) h) nx
 | .makeMap t none=>w2 (ZhW nb t h) nx
 | .makeSlice t l c=>w2 (Zeu C.P nb t (ev l) (ev c) h) nx
 | .lookup t m k ok=>(match Zj3 C.P C.mt t (ev m) (ev k) ok h with | some v=>some (v,h,nx) | none=>none)
 | .mapUpdate t m k v=>w2 (Zhp C.P C.mt t (ev m) (ev k) (ev v) h) nx
 | .insert t m k v=>w2 (Zhp C.P C.mt t (ev m) (ev k) (ev v) h) nx
 | .call { callee:=.builtin .append,args,argTypes }=>(match argTypes.toList,args.toList with | [t,t'],[s,x]=>cond (Zpj t t') (w2 (Zj4 C.P nb t (ev s) (ev x) h) nx) none | _,_=>none)
 | .call { callee:=.value f,args,.. }=>call (ev f) (args.toList.map ev) h nx
 | .call { callee:=.invoke x m,args,.. }=>(match ev x with | .iface t y=>(match C.im t m with | some g=>call (.lit (.func (.func g) #[] #[])) (y::args.toList.map ev) h nx | none=>none) | _=>none)
 | _=>none
def opE (C:Cfg) (call:CallF) (nb:Nat) (ev:Operand→EV) (op:Op) (h:Tr EB) (nx:Nat):Option HN :=
 match pureE C.P ev h.get op with
 | some v=>some (v,h,nx)
 | none=>effE C call nb ev op h nx
section
variable {C:Cfg} {call:CallF} {cx:Cx} {A:AF} {σ:Sg} {h h':Tr EB} {H:AH} {K:VE→AH→Prop}
theorem ZoI (hC:CfgOk C) (hcall:JK C call) (hP:cx.P=C.P) {nb nx nx':Nat} {ev:Operand→EV} {op:Op} {v:EV} (hev:∀ o,RV σ (ev o) (A.eval o)) (hr:HR C.P σ h H) (he:opE C call nb ev op h nx=some (v,h',nx'))
 (hK:EK C.P σ v h' K):vcOp cx op A H K:=by
 obtain ⟨P',N,ro⟩:=cx;obtain rfl:P'=C.P:=hP;unfold opE at he;split at he
 ·rename_i w hw;simp only [Option.some.injEq,Prod.mk.injEq] at he;obtain ⟨rfl,rfl,_⟩:=he;exact ZcN (cx:=⟨C.P,N,ro⟩) hev (fun k b hb=>hr.blk k b hb) hw (fun z hz=>hK _ _ _ (Ext.refl σ) hr hz)
 ·rename_i hp0;clear hp0;unfold effE at he;split at he
  ·exact ZjE hr (ZbA he) hK
  ·exact Zmu hr (hev _) (ZbA he) hK
  ·exact ZjF hr (hev _) (hev _) (ZbA he) hK
  ·exact ZgD hr (ZbA he) hK
  ·exact ZfB hr (hev _) (hev _) (ZbA he) hK
  ·split at he
   ·rename_i w hw;simp only [Option.some.injEq,Prod.mk.injEq] at he;obtain ⟨rfl,rfl,_⟩:=he;exact Ziv hC.mt hr (hev _) (hev _) hw (fun z hz=>hK _ _ _ (Ext.refl σ) hr hz)
   ·cases he
  ·exact ZdZ hC.mt hr (hev _) (hev _) (hev _) (ZbA he) hK
  ·exact ZdZ hC.mt hr (hev _) (hev _) (hev _) (ZbA he) hK
  ·rename_i args ats;split at he
   ·rename_i t t' s x h1 h2;have hq:=condS he;clear he;obtain ⟨hc,he⟩:=hq;show Yy C.P .append ats.toList (args.toList.map A.eval) H K;rw [h1,h2];simp only [Zpp,Zpw];rw [ZhE,if_pos (Zpm hc)];exact Ziw hr (hev _) (hev _) (ZbA he) hK
   ·cases he
  ·exact hcall _ _ _ _ _ _ _ he σ H _ _ ro K hr (hev _) (RVL.map hev _) hK
  ·rename_i x m args ats;split at he
   ·rename_i t y hx;split at he
    ·rename_i g hg;have hxr:=hev x;rw [hx] at hxr;obtain ⟨y',hxe,hy⟩:=hxr;have hcl:=hcall _ _ _ _ _ _ _ he σ H (.lit (.func (.func g) #[] #[])) (y'::args.toList.map A.eval) ro K hr rfl ⟨y',_,rfl,hy,RVL.map hev _⟩ hK;rw [YX] at hcl;show Zfp C.P ro (A.eval x) m (args.toList.map A.eval) H K;refine ⟨g,y',hcl.1,hcl.2,fun S w u hu=>?_⟩;rw [hxe] at hu;obtain ⟨v,rfl,hv⟩:=hu;exact ⟨v,hv,t,v,rfl,hC.im t m g hg v w⟩
    ·cases he
   ·cases he
  ·cases he
end
inductive ED where
 | mark (k:Nat)
 | fn (f:FuncId) (args cap:List EV)
structure ES where
 t:Tr EV
 d:List ED
 h:Tr EB
 nx:Nat
def RD (σ:Sg):ED→Deferred→Prop
 | .mark k,d=>∃ p,σ k=some p∧d=WS p.r
 | .fn f args cap,d=>∃ asg cs:List Value,d={ target:=.fn (.func f) cs.toArray,args:=asg.toArray }∧RVL σ args (asg.map .lit)∧RVL σ cap (cs.map .lit)
def RDL (σ:Sg):List ED→List Deferred→Prop
 | [],ds=>ds=[]
 | e::es,ds=>∃ d ds',ds=d::ds'∧RD σ e d∧RDL σ es ds'
structure RA (P:Program) (σ:Sg) (s:ES) (A:AF) (H:AH):Prop where
 t:∀ i,RVo σ (s.t.get i) (A.t i)
 d:RDL σ s.d A.d
 h:HR P σ s.h H
theorem RD.mono {σ σ':Sg} (h:Ext σ σ') {e:ED} {d:Deferred} (hd:RD σ e d):RD σ' e d:=by
 cases e with
 | mark k=>obtain ⟨p,hp,e⟩:=hd; exact ⟨p,h _ _ hp,e⟩
 | fn f args cap=>obtain ⟨asg,cs,e,h1,h2⟩:=hd; exact ⟨asg,cs,e,RVL.mono h _ _ h1,RVL.mono h _ _ h2⟩
theorem RDL.mono {σ σ':Sg} (h:Ext σ σ'):∀ {es:List ED} {ds:List Deferred},RDL σ es ds→RDL σ' es ds
 | [],ds,hd=>hd
 | e::es,ds,⟨d,ds',e1,h1,h2⟩=>⟨d,ds',e1,h1.mono h,RDL.mono h h2⟩
def evO (t:Tr EV):Operand→EV
 | .tmp i=>(match t.get i with | some v=>v | none=>.lit undef)
 | .const v=>.lit v
 | .global g=>.lit (.pointer (some ⟨g,0,none⟩))
 | .func f=>.lit (.func (.func f) #[] #[])
theorem JP {σ:Sg} {t:Tr EV} {A:AF} (h:∀ i,RVo σ (t.get i) (A.t i)) (o:Operand):RV σ (evO t o) (A.eval o):=by
 cases o with
 | tmp i =>
   have:=h i
   simp only [evO,AF.eval];cases e:t.get i with
   | none=>rw [e] at this; exact this
   | some v=>rw [e] at this; exact this
 | const v=>rfl
 | global g=>rfl
 | func f=>rfl
def putE (s:ES) (dst:Option Tmp) (v:EV):Option ES :=
 match dst with
 | none=>some s
 | some d=>(match Tr.set 20 s.t d v with | some t'=>some { s with t:=t' } | none=>none)
theorem ZaR {P:Program} {σ:Sg} {s s':ES} {A:AF} {H:AH} {dst:Option Tmp} {v:EV} {x:VV} (hs:RA P σ s A H) (hx:RV σ v x) (he:putE s dst v=some s'):RA P σ s' (A.put dst x) H:=by
 cases dst with
 | none=>simp only [putE,Option.some.injEq] at he; subst he; exact hs
 | some d =>
   simp only [putE] at he;split at he
   ·rename_i t' ht;simp only [Option.some.injEq] at he;subst he;refine ⟨fun i=>?_,hs.d,hs.h⟩;simp only [AF.put,upd,Tr.get_set _ _ _ _ _ ht];split
    ·exact hx
    ·exact hs.t i
   ·cases he
def dOkB (N:Nat):Option Tmp→Bool
 | none=>true
 | some d=>Zpq (d+1) N
theorem ZbI {N:Nat} {d:Option Tmp} (h:dOkB N d=true):dOk N d:=by
 cases d with
 | none=>trivial
 | some d=>exact Zpr h
def Zgv:EV→Bool
 | .lit _=>true
 | .ptr _ _=>true
 | .sl _ _ _ _ _=>true
 | .es _ _ _ _ _=>true
 | .map _=>true
 | .yield _=>true
 | _=>false
theorem ZkS {σ:Sg} {v:EV} {x:VV} (h:Zgv v=true) (hx:RV σ v x):∃ u,x=.lit u:=by
 cases v with
 | lit u=>exact ⟨u,hx⟩
 | ptr k o=>obtain ⟨p,_,e⟩:=hx; exact ⟨_,e⟩
 | sl k o n c d=>obtain ⟨p,_,_,e⟩:=hx; exact ⟨_,e⟩
 | es k o d lo s=>obtain ⟨p,_,e⟩:=hx; exact ⟨_,e⟩
 | map k=>obtain ⟨p,_,e⟩:=hx; exact ⟨_,e⟩
 | yield k=>obtain ⟨p,_,e⟩:=hx; exact ⟨_,e⟩
 | _=>cases h
theorem Zae {σ:Sg}:∀ {vs:List EV} {xs:List VV},vs.all Zgv=true→RVL σ vs xs→∃ us:List Value,xs=us.map .lit∧Yw (.agg xs)=some us
 | [],xs,_,hl=>by simp only [RVL] at hl; subst hl; exact ⟨[],rfl,rfl⟩
 | v::vs,xs,h,⟨y,ys,e,h1,h2⟩=>by
   simp only [ZpU,ZpM] at h;obtain ⟨u,rfl⟩:=ZkS h.1 h1;obtain ⟨us,rfl,h3⟩:=Zae h.2 h2;subst e;refine ⟨u::us,rfl,?_⟩;simp only [Yw,List.mapM_cons] at h3 ⊢;simp [h3]
def deferE (f:EV) (args:List EV):Option ED :=
 match f with
 | .func g first cap=>cond (cond (first.all Zgv) (cond (cap.all Zgv) (args.all Zgv) false) false) (some (.fn g (first++args) cap)) none
 | .lit (.func (.func g) a b)=>cond (args.all Zgv) (some (.fn g (a.toList.map .lit++args) (b.toList.map .lit))) none
 | _=>none
def doE (C:Cfg) (call:CallF) (N rb:Nat) (out:Bool) (dst:Option Tmp) (op:Op) (s:ES):Option ES :=
 cond (dOkB N dst) (match op with
  | .defer c=>cond out (match c.callee with
    | .value f=>(match deferE (evO s.t f) (c.args.toList.map (evO s.t)) with | some e=>putE { s with d:=e::s.d } dst (.lit undef) | none=>none)
    | _=>none) none
  | op=>(match opE C call (match dst with | some d=>rb+d | none=>rb+N) (evO s.t) op s.h s.nx with
    | some (v,h',nx')=>putE { s with h:=h',nx:=nx' } dst v
    | none=>none)) none
def Zcp (C:Cfg) (op:Op) (ev:Operand→EV):Bool :=
 match op with
 | .call { callee:=.value f,.. }=>(match ev f with
   | .lit (.func (.func g) _ _)=>(C.ft g).isSome
   | .func g _ _=>(C.ft g).isSome
   | .lit (.tuple _)=>true
   | _=>false)
 | .call { callee:=.invoke x _,.. }=>(match ev x with | .lit (.tuple _)=>true | _=>false)
 | _=>true
def stepE (C:Cfg) (call:CallF) (N rb:Nat) (out un:Bool) (o:GOp) (s:ES):Option ES :=
 match o.g with
 | none=>doE C call N rb out o.dst o.op s
 | some (d,want)=>(match s.t.get d with
   | some (.lit (.bool b))=>cond (cond b want (!want)) (doE C call N rb out o.dst o.op s) (cond (cond (dOkB N o.dst) (Zcp C o.op (evO s.t)) false) (putE s o.dst (.lit undef)) none)
   | some (.lit (.tuple _))=>cond un (cond (cond (dOkB N o.dst) (Zcp C o.op (evO s.t)) false) (putE s o.dst (.lit undef)) none) none
   | none=>cond un (cond (cond (dOkB N o.dst) (Zcp C o.op (evO s.t)) false) (putE s o.dst (.lit undef)) none) none
   | _=>none)
def Zcz (C:Cfg) (call:CallF) (N rb:Nat) (out un:Bool):List GOp→ES→Option ES
 | [],s=>some s
 | o::l,s=>(match stepE C call N rb out un o s with | some s'=>Zcz C call N rb out un l s' | none=>none)
section
variable {C:Cfg} {call:CallF} {N rb:Nat} {out:Bool} {ro:Option Nat} {A:AF} {σ:Sg} {s s':ES} {H:AH} {k:AF→AH→Prop} {Q:APost}
theorem RA.with_h (hs:RA C.P σ s A H) {σ':Sg} (hx:Ext σ σ') {h':Tr EB} {H':AH} (hr:HR C.P σ' h' H') (nx':Nat):RA C.P σ' { s with h:=h',nx:=nx' } A H':=⟨fun i=>(hs.t i).mono hx,hs.d.mono hx,hr⟩
theorem Zdl (hC:CfgOk C) (hcall:JK C call) (hout:out=true→ro=none) {dst:Option Tmp} {op:Op} (hs:RA C.P σ s A H) (he:doE C call N rb out dst op s=some s')
 (hk:∀ σ' A' H',Ext σ σ'→RA C.P σ' s' A' H'→k A' H'):vcDo ⟨C.P,N,ro⟩ ⟨dst,op,none⟩ k Q A H:=by
 unfold doE at he;have hq:=condS he;clear he;obtain ⟨hd,he⟩:=hq;refine ⟨ZbI hd,?_⟩;split at he
 ·rename_i c;have hq:=condS he;clear he;obtain ⟨ho,he⟩:=hq;refine ⟨hout ho,?_⟩;split at he
  ·rename_i f hf;rw [hf];dsimp only;split at he
   ·rename_i e hde;have hev:=JP (σ:=σ) (t:=s.t) (A:=A) hs.t;have hfv:=hev f;have hargs:=RVL.map (σ:=σ) hev c.args.toList;unfold deferE at hde;split at hde
    ·rename_i g first cap hfe;rw [hfe] at hfv;obtain ⟨asg,bs,e1,h1,h2⟩:=hfv;have hq:=condS hde;clear hde;obtain ⟨hc,hde⟩:=hq;obtain ⟨hc1,hc⟩:=cond3 hc;obtain ⟨hc2,hc3⟩:=cond3 hc;obtain ⟨us1,rfl,q1⟩:=Zae hc1 h1;obtain ⟨us2,rfl,q2⟩:=Zae hc2 h2;obtain ⟨us3,e3,q3⟩:=Zae hc3 hargs;simp only [Option.some.injEq] at hde;subst hde;have hval:valOf (A.eval f)=some (.func (.func g) us1.toArray us2.toArray):=by rw [e1]; simp [valOf,q1,q2]
     rw [hval,q3];dsimp only
     have hs2:RA C.P σ { s with d:=.fn g (first++c.args.toList.map (evO s.t)) cap::s.d } { A with d:={ target:=.fn (.func g) us2.toArray,args:=us1.toArray++us3.toArray }::A.d } H :=
      ⟨hs.t,⟨_,_,rfl,⟨us1++us3,us2,by simp,by rw [List.map_append,← e3]; exact h1.append hargs,h2⟩,hs.d⟩,hs.h⟩
     exact hk σ _ _ (Ext.refl σ) (ZaR (x:=ZJ) (v:=.lit undef) hs2 rfl he)
    ·rename_i g a b hfe;rw [hfe] at hfv;have e1:A.eval f=.lit (.func (.func g) a b):=hfv;have hq:=condS hde;clear hde;obtain ⟨hc3,hde⟩:=hq;obtain ⟨us3,e3,q3⟩:=Zae hc3 hargs;simp only [Option.some.injEq] at hde;subst hde;rw [e1,q3];dsimp only [valOf]
     have hs2:RA C.P σ { s with d:=.fn g (a.toList.map .lit++c.args.toList.map (evO s.t)) (b.toList.map .lit)::s.d } { A with d:={ target:=.fn (.func g) b,args:=a++us3.toArray }::A.d } H :=
      ⟨hs.t,⟨_,_,rfl,⟨a.toList++us3,b.toList,by simp,by rw [List.map_append,← e3]; exact (RVL.lits _).append hargs,RVL.lits _⟩,hs.d⟩,hs.h⟩
     exact hk σ _ _ (Ext.refl σ) (ZaR (x:=ZJ) (v:=.lit undef) hs2 rfl he)
    ·cases hde
   ·cases he
  ·cases he
 ·rename_i op' hnd;split at he
  ·rename_i v h' nx' hop
   have:vcOp ⟨C.P,N,ro⟩ op A H (vcK k Q dst A):=ZoI hC hcall rfl (JP hs.t) hs.h hop fun σ' H' x hx hr hv=>hk σ' _ _ hx (ZaR (hs.with_h hx hr nx') hv he)
   cases op with
   | defer c=>exact absurd rfl (hnd c)
   | _=>exact this
  ·cases he
theorem ZeN (hC:CfgOk C) {op:Op} (hev:∀ o,RV σ (evO s.t o) (A.eval o)) (h:Zcp C op (evO s.t)=true):Yb C.P op A:=by
 unfold Zcp at h;unfold Yb;split at h
 ·rename_i f args ats;dsimp only;have hf:=hev f
  have hft:∀ g,(C.ft g).isSome=true→ZL C.P g=true:=fun g hg=>by
   obtain ⟨⟨N,rs,a⟩,e⟩:=Option.isSome_iff_exists.1 hg;exact (hC.ft g N rs a e).2
  split at h
  ·rename_i g a b e;rw [e] at hf;rw [show A.eval f=_ from hf];exact hft g h
  ·rename_i g a b e;rw [e] at hf;obtain ⟨asg,bs,e1,_⟩:=hf;rw [e1];exact hft g h
  ·rename_i vs e;rw [e] at hf;rw [show A.eval f=_ from hf];trivial
  ·cases h
 ·rename_i x m args ats;dsimp only;have hf:=hev x;split at h
  ·rename_i vs e;rw [e] at hf;rw [show A.eval x=_ from hf];trivial
  ·cases h
 ·rename_i n1 n2;split
  ·rename_i f args ats; exact absurd rfl (n1 f args ats)
  ·rename_i x m args ats; exact absurd rfl (n2 x m args ats)
  ·trivial
theorem Zcg (hC:CfgOk C) {dst:Option Tmp} {op:Op} (hs:RA C.P σ s A H) (he:cond (cond (dOkB N dst) (Zcp C op (evO s.t)) false) (putE s dst (.lit undef)) none=some s')
 (hk:∀ σ' A' H',Ext σ σ'→RA C.P σ' s' A' H'→k A' H'):dOk N dst∧Yb C.P op A∧k (A.put dst ZJ) H:=by
 obtain ⟨hc,he'⟩:=condS he;obtain ⟨hc1,hc2⟩:=cond3 hc;exact ⟨ZbI hc1,ZeN hC (JP hs.t) hc2,hk σ _ _ (Ext.refl σ) (ZaR (x:=ZJ) (v:=.lit undef) hs rfl he')⟩
theorem Zj5 {b want:Bool} (h:(cond b want (!want))=true):b=want:=by cases b<;>cases want<;>simp_all
theorem Zj6 {b want:Bool} (h:(cond b want (!want))=false):b ≠ want:=by cases b<;>cases want<;>simp_all
theorem ZjG (hC:CfgOk C) (hcall:JK C call) (hout:out=true→ro=none) {o:GOp} {un:Bool} (hs:RA C.P σ s A H) (he:stepE C call N rb out un o s=some s')
 (hk:∀ σ' A' H',Ext σ σ'→RA C.P σ' s' A' H'→k A' H'):vcG2 ⟨C.P,N,ro⟩ o k Q A H:=by
 obtain ⟨dst,op,g⟩:=o;unfold stepE at he;unfold vcG2;cases g with
 | none=>exact Zdl hC hcall hout hs he hk
 | some g =>
   obtain ⟨d,want⟩:=g;have ht:=hs.t d;dsimp only at he ⊢;split at he
   ·rename_i b e;rw [e] at ht;rw [show A.t d=.lit (.bool b) from ht];unfold Zip;dsimp only;cases hb:cond b want (!want) with
    | true =>
      simp only [hb,cond_true] at he;rw [if_pos (Zj5 hb)];exact Zdl hC hcall hout hs he hk
    | false =>
      simp only [hb,cond_false] at he;rw [if_neg (Zj6 hb)];exact Zcg hC hs he hk
   ·rename_i vs e;rw [e] at ht;rw [show A.t d=.lit (.tuple vs) from ht];exact Zcg hC hs (condS he).2 hk
   ·rename_i e;rw [e] at ht;rw [show A.t d=.lit (.tuple #[]) from ht];exact Zcg hC hs (condS he).2 hk
   ·cases he
theorem JG (hC:CfgOk C) (hcall:JK C call) (hout:out=true→ro=none) {o:GOp} (hs:RA C.P σ s A H) (he:stepE C call N rb out false o s=some s')
 (hk:∀ σ' A' H',Ext σ σ'→RA C.P σ' s' A' H'→k A' H'):vcG ⟨C.P,N,ro⟩ o k Q A H:=by
 obtain ⟨dst,op,g⟩:=o;unfold stepE at he;unfold vcG;cases g with
 | none=>exact Zdl hC hcall hout hs he hk
 | some g =>
   obtain ⟨d,want⟩:=g;have ht:=hs.t d;dsimp only at he ⊢;split at he
   ·rename_i b e;rw [e] at ht;rw [show A.t d=.lit (.bool b) from ht];dsimp only;cases hb:cond b want (!want) with
    | true =>
      simp only [hb,cond_true] at he;rw [if_pos (Zj5 hb)];exact Zdl hC hcall hout hs he hk
    | false =>
      simp only [hb,cond_false] at he;rw [if_neg (Zj6 hb)];exact Zcg hC hs he hk
   ·cases (condS he).1
   ·cases (condS he).1
   ·cases he
theorem Zd1 (hC:CfgOk C) (hcall:JK C call) (hout:out=true→ro=none) {un:Bool}:∀ (l:List GOp) (σ:Sg) (s s':ES) (A:AF) (H:AH),RA C.P σ s A H→Zcz C call N rb out un l s=some s' →
 (∀ σ' A' H',Ext σ σ'→RA C.P σ' s' A' H'→Q .normal A' H')→vcL2 ⟨C.P,N,ro⟩ l Q A H
 | [],σ,s,s',A,H,hs,he,hk=>by
   simp only [Zcz,Option.some.injEq] at he;subst he;exact hk σ A H (Ext.refl σ) hs
 | o::l,σ,s,s',A,H,hs,he,hk=>by
   simp only [Zcz] at he;split at he
   ·rename_i s1 h1;exact ZjG hC hcall hout hs h1 fun σ1 A1 H1 hx hs1=>Zd1 hC hcall hout l σ1 s1 s' A1 H1 hs1 he fun σ' A' H' hx'=>hk σ' A' H' (hx.trans hx')
   ·cases he
theorem Zd2 (hC:CfgOk C) (hcall:JK C call) (hout:out=true→ro=none):∀ (l:List GOp) (σ:Sg) (s s':ES) (A:AF) (H:AH),RA C.P σ s A H→Zcz C call N rb out false l s=some s' →
 (∀ σ' A' H',Ext σ σ'→RA C.P σ' s' A' H'→Q .normal A' H')→vcL ⟨C.P,N,ro⟩ l Q A H
 | [],σ,s,s',A,H,hs,he,hk=>by
   simp only [Zcz,Option.some.injEq] at he;subst he;exact hk σ A H (Ext.refl σ) hs
 | o::l,σ,s,s',A,H,hs,he,hk=>by
   simp only [Zcz] at he;split at he
   ·rename_i s1 h1;exact JG hC hcall hout hs h1 fun σ1 A1 H1 hx hs1=>Zd2 hC hcall hout l σ1 s1 s' A1 H1 hs1 he fun σ' A' H' hx'=>hk σ' A' H' (hx.trans hx')
   ·cases he
end
end Go.PV
end
section
open Nat renaming beq→Zpj,eq_of_beq_eq_true→Zpm
namespace Go.PV
def beqV:Value→Value→Bool
 | .bool a,.bool b=>cond a b (!b)
 | .int k a,.int k' b=>cond (decide (k=k')) (decide (a=b)) false
 | .string a,.string b=>beqU a.data.toList b.data.toList
 | .pointer none,.pointer none=>true
 | .slice none 0 0,.slice none 0 0=>true
 | .map none,.map none=>true
 | .nilFunc,.nilFunc=>true
 | .nilIface,.nilIface=>true
 | .func (.func f) a b,.func (.func g) c d=>cond (Zpj f g) (match a.toList,b.toList,c.toList,d.toList with | [],[],[],[]=>true | _,_,_,_=>false) false
 | .tuple a,.tuple b=>(match a.toList,b.toList with | [],[]=>true | _,_=>false)
 | .agg a,.agg b=>cond (Zit a.toList) (beqKL a.toList b.toList) false
 | _,_=>false
theorem Zhq {a b:Value} (h:beqV a b=true):a=b:=by
 unfold beqV at h;split at h
 ·rename_i p q; cases p<;>cases q<;>simp_all
 ·obtain ⟨h1,h2⟩:=cond3 h;rw [of_decide_eq_true h1,of_decide_eq_true h2]
 ·rename_i s s'
  have:=(Zfk _ _).1 h
  cases s; cases s';simp only [Value.string.injEq,ByteArray.mk.injEq];exact Array.toList_inj.1 this
 ·rfl
 ·rfl
 ·rfl
 ·rfl
 ·rfl
 ·obtain ⟨h1,h2⟩:=cond3 h;split at h2
  ·rename_i e1 e2 e3 e4;rw [Zpm h1,Array.toList_inj.1 (e1.trans e3.symm),Array.toList_inj.1 (e2.trans e4.symm)]
  ·cases h2
 ·split at h
  ·rename_i e1 e2;rw [Array.toList_inj.1 (e1.trans e2.symm)]
  ·cases h
 ·obtain ⟨h1,h2⟩:=cond3 h;rw [Array.toList_inj.1 ((ZfX h1).1 h2)]
 ·cases h
def beqON:Option Nat→Option Nat→Bool
 | none,none=>true
 | some a,some b=>Zpj a b
 | _,_=>false
theorem ZkT {a b:Option Nat} (h:beqON a b=true):a=b:=by
 cases a<;>cases b<;>simp only [beqON] at h<;>first | rfl | cases h | (rw [Zpm h])
mutual
def beqEV:EV→EV→Bool
 | .lit v,.lit u=>beqV v u
 | .ptr k o,.ptr k' o'=>cond (Zpj k k') (Zpj o o') false
 | .sl k o n c d,.sl k' o' n' c' d'=>cond (Zpj k k') (cond (Zpj o o') (cond (Zpj n n') (cond (beqON c c') (Zpj d d') false) false) false) false
 | .es k o d lo s,.es k' o' d' lo' s'=>cond (Zpj k k') (cond (Zpj o o') (cond (Zpj d d') (cond (Zpj lo lo') (Zpj s s') false) false) false) false
 | .map k,.map k'=>Zpj k k'
 | .isl ex n cs,.isl ex' n' cs'=>cond (cond ex ex' (!ex')) (cond (Zpj n n') (beqEL cs cs') false) false
 | .iptr cs,.iptr cs'=>beqEL cs cs'
 | .agg cs,.agg cs'=>beqEL cs cs'
 | .tuple cs,.tuple cs'=>beqEL cs cs'
 | .func f a b,.func f' a' b'=>cond (Zpj f f') (cond (beqEL a a') (beqEL b b') false) false
 | .yield k,.yield k'=>Zpj k k'
 | .iface t v,.iface t' v'=>cond (Zpj t t') (beqEV v v') false
 | _,_=>false
def beqEL:List EV→List EV→Bool
 | [],[]=>true
 | a::asg,b::bs=>cond (beqEV a b) (beqEL asg bs) false
 | _,_=>false
end
mutual
theorem Zaf:∀ (a b:EV),beqEV a b=true→a=b
 | .lit v,b,h=>by cases b<;>simp only [beqEV] at h<;>first | (rw [Zhq h]) | cases h
 | .ptr k o,b,h=>by
   cases b<;>simp only [beqEV] at h<;>try (cases h; done)
   obtain ⟨h1,h2⟩:=cond3 h;rw [Zpm h1,Zpm h2]
 | .sl k o n c d,b,h=>by
   cases b<;>simp only [beqEV] at h<;>try (cases h; done)
   obtain ⟨h1,h⟩:=cond3 h;obtain ⟨h2,h⟩:=cond3 h;obtain ⟨h3,h⟩:=cond3 h;obtain ⟨h4,h5⟩:=cond3 h;rw [Zpm h1,Zpm h2,Zpm h3,ZkT h4,Zpm h5]
 | .es k o d lo s,b,h=>by
   cases b<;>simp only [beqEV] at h<;>try (cases h; done)
   obtain ⟨h1,h⟩:=cond3 h;obtain ⟨h2,h⟩:=cond3 h;obtain ⟨h3,h⟩:=cond3 h;obtain ⟨h4,h5⟩:=cond3 h;rw [Zpm h1,Zpm h2,Zpm h3,Zpm h4,Zpm h5]
 | .map k,b,h=>by
   cases b<;>simp only [beqEV] at h<;>try (cases h; done)
   rw [Zpm h]
 | .isl ex n cs,b,h=>by
   cases b<;>simp only [beqEV] at h<;>try (cases h; done)
   rename_i ex' n' cs';obtain ⟨h1,h⟩:=cond3 h;obtain ⟨h2,h3⟩:=cond3 h
   have:ex=ex':=by cases ex<;>cases ex'<;>simp_all
   rw [this,Zpm h2,Xo _ _ h3]
 | .iptr cs,b,h=>by
   cases b<;>simp only [beqEV] at h<;>try (cases h; done)
   rw [Xo _ _ h]
 | .agg cs,b,h=>by
   cases b<;>simp only [beqEV] at h<;>try (cases h; done)
   rw [Xo _ _ h]
 | .tuple cs,b,h=>by
   cases b<;>simp only [beqEV] at h<;>try (cases h; done)
   rw [Xo _ _ h]
 | .func f x y,b,h=>by
   cases b<;>simp only [beqEV] at h<;>try (cases h; done)
   obtain ⟨h1,h⟩:=cond3 h;obtain ⟨h2,h3⟩:=cond3 h;rw [Zpm h1,Xo _ _ h2,Xo _ _ h3]
 | .yield k,b,h=>by
   cases b<;>simp only [beqEV] at h<;>try (cases h; done)
   rw [Zpm h]
 | .iface t v,b,h=>by
   cases b<;>simp only [beqEV] at h<;>try (cases h; done)
   obtain ⟨h1,h2⟩:=cond3 h;rw [Zpm h1,Zaf _ _ h2]
theorem Xo:∀ (a b:List EV),beqEL a b=true→a=b
 | [],b,h=>by cases b<;>simp only [beqEL] at h<;>first | rfl | cases h
 | a::asg,b,h=>by
   cases b<;>simp only [beqEL] at h<;>try (cases h; done)
   obtain ⟨h1,h2⟩:=cond3 h;rw [Zaf _ _ h1,Xo _ _ h2]
end
def beqML:List (Value × EV)→List (Value × EV)→Bool
 | [],[]=>true
 | a::asg,b::bs=>cond (beqV a.1 b.1) (cond (beqEV a.2 b.2) (beqML asg bs) false) false
 | _,_=>false
theorem Zgb:∀ (a b:List (Value × EV)),beqML a b=true→a=b
 | [],b,h=>by cases b<;>simp only [beqML] at h<;>first | rfl | cases h
 | a::asg,b,h=>by
   cases b<;>simp only [beqML] at h<;>try (cases h; done)
   rename_i b bs;obtain ⟨h1,h⟩:=cond3 h;obtain ⟨h2,h3⟩:=cond3 h
   have:=Zhq h1
   have:=Zaf _ _ h2
   obtain ⟨a1,a2⟩:=a;obtain ⟨b1,b2⟩:=b
   simp_all [Zgb _ _ h3]
def beqEB:EB→EB→Bool
 | .cells e cs,.cells e' cs'=>cond (Zpj e e') (beqEL cs cs') false
 | .grown e s cs,.grown e' s' cs'=>cond (Zpj e e') (cond (Zpj s s') (beqEL cs cs') false) false
 | .map t l,.map t' l'=>cond (Zpj t t') (beqML l l') false
 | .deferred,.deferred=>true
 | .dead,.dead=>true
 | _,_=>false
theorem ZcO {a b:EB} (h:beqEB a b=true):a=b:=by
 unfold beqEB at h;split at h
 ·obtain ⟨h1,h2⟩:=cond3 h;rw [Zpm h1,Xo _ _ h2]
 ·obtain ⟨h1,h⟩:=cond3 h;obtain ⟨h2,h3⟩:=cond3 h;rw [Zpm h1,Zpm h2,Xo _ _ h3]
 ·obtain ⟨h1,h2⟩:=cond3 h;rw [Zpm h1,Zgb _ _ h2]
 ·rfl
 ·rfl
 ·cases h
def beqO {α:Type} (f:α→α→Bool):Option α→Option α→Bool
 | none,none=>true
 | some a,some b=>f a b
 | _,_=>false
theorem Zmv {α:Type} {f:α→α→Bool} (hf:∀ a b,f a b=true→a=b) {a b:Option α} (h:beqO f a b=true):a=b:=by
 cases a<;>cases b<;>simp only [beqO] at h<;>first | rfl | cases h | (rw [hf _ _ h])
def beqTr {α:Type} (f:α→α→Bool):Tr α→Tr α→Bool
 | .lf,.lf=>true
 | .nd v l r,.nd v' l' r'=>cond (beqO f v v') (cond (beqTr f l l') (beqTr f r r') false) false
 | _,_=>false
theorem Zbh {α:Type} {f:α→α→Bool} (hf:∀ a b,f a b=true→a=b):∀ (a b:Tr α),beqTr f a b=true→a=b
 | .lf,b,h=>by cases b<;>simp only [beqTr] at h<;>first | rfl | cases h
 | .nd v l r,b,h=>by
   cases b<;>simp only [beqTr] at h<;>try (cases h; done)
   obtain ⟨h1,h⟩:=cond3 h;obtain ⟨h2,h3⟩:=cond3 h;rw [Zmv hf h1,Zbh hf _ _ h2,Zbh hf _ _ h3]
def beqED:List ED→List ED→Bool
 | [],[]=>true
 | .mark k::l,.mark k'::l'=>cond (Zpj k k') (beqED l l') false
 | .fn f a c::l,.fn f' a' c'::l'=>cond (Zpj f f') (cond (beqEL a a') (cond (beqEL c c') (beqED l l') false) false) false
 | _,_=>false
theorem ZcP:∀ (a b:List ED),beqED a b=true→a=b
 | [],b,h=>by cases b<;>simp only [beqED] at h<;>first | rfl | cases h
 | .mark k::l,b,h=>by
   cases b with
   | nil=>simp only [beqED] at h; cases h
   | cons b bs =>
     cases b<;>simp only [beqED] at h<;>try (cases h; done)
     obtain ⟨h1,h2⟩:=cond3 h;rw [Zpm h1,ZcP _ _ h2]
 | .fn f a c::l,b,h=>by
   cases b with
   | nil=>simp only [beqED] at h; cases h
   | cons b bs =>
     cases b<;>simp only [beqED] at h<;>try (cases h; done)
     obtain ⟨h1,h⟩:=cond3 h;obtain ⟨h2,h⟩:=cond3 h;obtain ⟨h3,h4⟩:=cond3 h;rw [Zpm h1,Xo _ _ h2,Xo _ _ h3,ZcP _ _ h4]
def beqES (a b:ES):Bool:=cond (Zpj a.nx b.nx) (cond (beqED a.d b.d) (cond (beqTr beqEV a.t b.t) (beqTr beqEB a.h b.h) false) false) false
theorem ZkU {a b:ES} (h:beqES a b=true):a=b:=by
 unfold beqES at h;obtain ⟨h1,h⟩:=cond3 h;obtain ⟨h2,h⟩:=cond3 h;obtain ⟨h3,h4⟩:=cond3 h;cases a; cases b;simp only [ES.mk.injEq];exact ⟨Zbh Zaf _ _ h3,ZcP _ _ h2,Zbh (fun _ _=>ZcO) _ _ h4,Zpm h1⟩
abbrev RdL:=List (Nat × Nat × EB)
abbrev HsL:=List (List Nat × Tr EB)
def Zhr:EB→Bool
 | .cells _ _=>true
 | .grown _ _ _=>true
 | _=>false
def tkOp (C:Cfg) (t:Tr EV) (h0:Tr EB) (i:Nat) (op:Op):Option (EV × RdL) :=
 match op with
 | .load ty a=>(match evO t a with
   | .ptr k o=>(match h0.get k with
     | some b=>cond (Zhr b) (match pureE C.P (evO t) (fun j=>cond (Zpj j k) (some b) none) (.load ty a) with | some v=>some (v,[(i,k,b)]) | none=>none) none
     | none=>none)
   | _=>(match pureE C.P (evO t) (fun _=>none) (.load ty a) with | some v=>some (v,[]) | none=>none))
 | op=>(match pureE C.P (evO t) (fun _=>none) op with | some v=>some (v,[]) | none=>none)
def tkE (C:Cfg) (N i:Nat) (o:GOp) (t:Tr EV) (h0:Tr EB):Option (EV × RdL) :=
 cond (dOkB N o.dst) (match o.g with
  | none=>tkOp C t h0 i o.op
  | some (d,want)=>(match t.get d with
    | some (.lit (.bool b))=>cond (cond b want (!want)) (tkOp C t h0 i o.op) (cond (Zcp C o.op (evO t)) (some (.lit undef,[])) none)
    | _=>none)) none
def planE (C:Cfg) (call:CallF) (N rb:Nat) (out:Bool) (h0:Tr EB):GPlan→ES→Option (ES × RdL × HsL)
 | .fin,s=>some (s,[],[])
 | .tk i o p,s=>(match tkE C N i o s.t h0 with
   | some (v,rd)=>(match putE s o.dst v with
     | some s1=>(match planE C call N rb out h0 p s1 with | some (s',rd',hs)=>some (s',rd++rd',hs) | none=>none)
     | none=>none)
   | none=>none)
 | .one nd o p,s=>(match stepE C call N rb out false o s with
   | some s1=>(match planE C call N rb out h0 p s1 with | some (s',rd,hs)=>some (s',rd,(nd,s1.h)::hs) | none=>none)
   | none=>none)
 | .cut o p,s=>(match stepE C call N rb out false o s with
   | some s1=>planE C call N rb out h0 p s1
   | none=>none)
 | .two nd o p nd' o' p',s=>(match stepE C call N rb out false o s with
   | some s1=>(match planE C call N rb out h0 p s1 with
     | some (s',rd,hs)=>(match stepE C call N rb out false o' s with
       | some s2=>(match planE C call N rb out h0 p' s2 with
         | some (s'',rd',hs')=>cond (beqES s' s'') (some (s',rd++rd',((nd,s1.h)::hs)++((nd',s2.h)::hs'))) none
         | none=>none)
       | none=>none)
     | none=>none)
   | none=>none)
def memN:List Nat→Nat→Bool
 | [],_=>false
 | a::l,x=>cond (Zpj a x) true (memN l x)
theorem memN_of {l:List Nat} {x:Nat} (h:x∈l):memN l x=true:=by
 induction l with
 | nil=>cases h
 | cons a l ih =>
   simp only [memN];rcases List.mem_cons.1 h with rfl | h
   ·rw [Nat.beq_refl]; rfl
   ·rw [ih h]; cases Zpj a x<;>rfl
def keptB (nd:List Nat) (rd:RdL) (h:Tr EB):Bool:=rd.all fun p=>cond (memN nd p.1) (match h.get p.2.1 with | some b=>beqEB b p.2.2 | none=>false) true
def kept0 (rd:RdL) (h:Tr EB):Bool:=rd.all fun p=>match h.get p.2.1 with | some b=>beqEB b p.2.2 | none=>false
def dregE (C:Cfg) (call:CallF) (N:Nat) (out:Bool) (p:GPlan) (tail:List GOp) (s:ES):Option ES :=
 match planE C call N s.nx out s.h p { s with nx:=s.nx+N+1 } with
 | some (s1,rd,hs)=>cond (cond (kept0 rd s.h) (hs.all fun q=>keptB q.1 rd q.2) false) (Zcz C call N s.nx out false tail s1) none
 | none=>none
def RdOk (P:Program) (σ:Sg) (Hi:Nat→AH) (rd:RdL):Prop:=∀ i k b,(i,k,b)∈rd→∃ p B,σ k=some p∧Hi i p.r=some B∧RB P σ p b B
section
variable {C:Cfg} {call:CallF} {N rb:Nat} {out:Bool} {ro:Option Nat} {Q:APost}
theorem Zmw {cx:Cx} (hP:cx.P=C.P) {σ0 σ:Sg} (hx:Ext σ0 σ) {t:Tr EV} {h0:Tr EB} {i:Nat} {op:Op} {A:AF} {Hi:Nat→AH} {v:EV} {rd:RdL} {K:VE→AH→Prop} (ht:∀ i,RVo σ (t.get i) (A.t i)) (he:tkOp C t h0 i op=some (v,rd))
 (hrd:RdOk C.P σ0 Hi rd) (hK:∀ z,RV σ v z→K (.ret z) (Hi i)):vcOp cx op A (Hi i) K:=by
 have hev:=JP (σ:=σ) (t:=t) (A:=A) ht
 have key:∀ op',(match pureE C.P (evO t) (fun _=>none) op' with | some v=>some (v,([]:RdL)) | none=>none)=some (v,rd)→vcOp cx op' A (Hi i) K:=by
  intro op' h;split at h
  ·rename_i w hw;simp only [Option.some.injEq,Prod.mk.injEq] at h;obtain ⟨rfl,rfl⟩:=h;rw [← hP] at hw;exact ZcN (H:=Hi i) hev (fun k b hb=>by cases hb) hw hK
  ·cases h
 unfold tkOp at he;split at he
 ·rename_i ty a;split at he
  ·rename_i k o hk;split at he
   ·rename_i b hb;have hq:=condS he;clear he;obtain ⟨hc,he⟩:=hq;split at he
    ·rename_i w hw;simp only [Option.some.injEq,Prod.mk.injEq] at he;obtain ⟨rfl,rfl⟩:=he;rw [← hP] at hw;refine ZcN (H:=Hi i) hev (fun j c hj=>?_) hw hK;cases hjk:Zpj j k with
     | false=>simp [hjk] at hj
     | true =>
       simp only [hjk,cond_true,Option.some.injEq] at hj;subst hj;rw [Zpm hjk];obtain ⟨p,B,g1,g2,g3⟩:=hrd i k b (List.mem_singleton.2 rfl);rw [hP];exact .inr ⟨p,B,hx _ _ g1,g2,g3.mono hx⟩
    ·cases he
   ·cases he
  ·exact key _ he
 ·exact key _ he
theorem ZoJ (hC:CfgOk C) {σ0 σ:Sg} (hx:Ext σ0 σ) {s s1:ES} {h0:Tr EB} {i:Nat} {o:GOp} {A:AF} {H:AH} {Hi:Nat→AH} {v:EV} {rd:RdL} {k:AF→AH→Prop} (hs:RA C.P σ s A H) (he:tkE C N i o s.t h0=some (v,rd)) (hp:putE s o.dst v=some s1)
 (hrd:RdOk C.P σ0 Hi rd) (hk:∀ A' H',RA C.P σ s1 A' H→k A' H'):vcG ⟨C.P,N,ro⟩ o k Q A (Hi i):=by
 obtain ⟨dst,op,g⟩:=o;unfold tkE at he;have hq:=condS he;clear he;obtain ⟨hd,he⟩:=hq
 have hdo:tkOp C s.t h0 i op=some (v,rd)→vcDo ⟨C.P,N,ro⟩ ⟨dst,op,g⟩ k Q A (Hi i):=by
  intro h;refine ⟨ZbI hd,?_⟩
  have:vcOp ⟨C.P,N,ro⟩ op A (Hi i) (vcK k Q dst A):=Zmw (cx:=⟨C.P,N,ro⟩) rfl hx hs.t h hrd fun z hz=>hk _ _ (ZaR hs hz hp)
  cases op with
  | defer c=>simp only [vcOp] at this
  | _=>exact this
 unfold vcG;dsimp only at he ⊢;split at he
 ·exact hdo he
 ·rename_i d want;have ht:=hs.t d;dsimp only;split at he
  ·rename_i b e;rw [e] at ht;rw [show A.t d=.lit (.bool b) from ht];dsimp only;cases hb:cond b want (!want) with
   | true =>
     simp only [hb,cond_true] at he;rw [if_pos (Zj5 hb)];exact hdo he
   | false =>
     simp only [hb,cond_false] at he;rw [if_neg (Zj6 hb)];have hq:=condS he;clear he;obtain ⟨hc,he⟩:=hq;simp only [Option.some.injEq,Prod.mk.injEq] at he;obtain ⟨rfl,rfl⟩:=he;exact ⟨ZbI hd,ZeN hC (JP hs.t) hc,hk _ _ (ZaR (x:=ZJ) (v:=.lit undef) hs rfl hp)⟩
  ·cases he
theorem Jt (hC:CfgOk C) (hcall:JK C call) (hout:out=true→ro=none) {σ0:Sg} {h0:Tr EB} {Hi:Nat→AH} {K:AF→AH→Prop}:∀ (p:GPlan) (s s':ES) (rd:RdL) (hs:HsL),planE C call N rb out h0 p s=some (s',rd,hs) →
 ∀ (σ:Sg) (A:AF) (H:AH),Ext σ0 σ→RA C.P σ s A H→RdOk C.P σ0 Hi rd→(∀ q∈hs,∀ σ' H',Ext σ0 σ'→HR C.P σ' q.2 H'→∀ k∈q.1,SubH (Hi k) H')→(∀ σ' A' H',Ext σ0 σ'→RA C.P σ' s' A' H'→K A' H')→vcPl2 ⟨C.P,N,ro⟩ Hi p K Q A H
 | .fin,s,s',rd,hs,he,σ,A,H,hx,hr,hrd,hhs,hK=>by
   simp only [planE,Option.some.injEq,Prod.mk.injEq] at he;obtain ⟨rfl,_,_⟩:=he;exact hK σ A H hx hr
 | .tk i o p,s,s',rd,hs,he,σ,A,H,hx,hr,hrd,hhs,hK=>by
   simp only [planE] at he;split at he
   ·rename_i v rd0 htk;split at he
    ·rename_i s1 hput;split at he
     ·rename_i s2 rd1 hs1 hpl;simp only [Option.some.injEq,Prod.mk.injEq] at he;obtain ⟨rfl,rfl,rfl⟩:=he;refine ZoJ hC hx hr htk hput (fun i k b hm=>hrd i k b (List.mem_append.2 (.inl hm))) fun A' H' hr'=>?_
      exact Jt hC hcall hout p s1 s2 rd1 hs1 hpl σ A' H hx hr' (fun i k b hm=>hrd i k b (List.mem_append.2 (.inr hm))) hhs hK
     ·cases he
    ·cases he
   ·cases he
 | .one nd o p,s,s',rd,hs,he,σ,A,H,hx,hr,hrd,hhs,hK=>by
   simp only [planE] at he;split at he
   ·rename_i s1 hst;split at he
    ·rename_i s2 rd1 hs1 hpl;simp only [Option.some.injEq,Prod.mk.injEq] at he;obtain ⟨rfl,rfl,rfl⟩:=he;refine JG hC hcall hout hr hst fun σ1 A1 H1 hx1 hr1=>⟨fun k hk _=>hhs (nd,s1.h) (by simp) σ1 H1 (hx.trans hx1) hr1.h k hk,?_⟩
     exact Jt hC hcall hout p s1 s2 rd1 hs1 hpl σ1 A1 H1 (hx.trans hx1) hr1 hrd (fun h hm=>hhs h (by simp [hm])) hK
    ·cases he
   ·cases he
 | .cut o p,s,s',rd,hs,he,σ,A,H,hx,hr,hrd,hhs,hK=>by
   simp only [planE] at he;split at he
   ·rename_i s1 hst;refine JG hC hcall hout hr hst fun σ1 A1 H1 hx1 hr1=>?_
    exact Jt hC hcall hout p s1 s' rd hs he σ1 A1 H1 (hx.trans hx1) hr1 hrd hhs hK
   ·cases he
 | .two nd o p nd' o' p',s,s',rd,hs,he,σ,A,H,hx,hr,hrd,hhs,hK=>by
   simp only [planE] at he;split at he
   ·rename_i s1 hst;split at he
    ·rename_i s2 rd1 hs1 hpl;split at he
     ·rename_i s3 hst';split at he
      ·rename_i s4 rd2 hs2 hpl';have hq:=condS he;clear he;obtain ⟨hc,he⟩:=hq;have heq:=ZkU hc;subst heq;simp only [Option.some.injEq,Prod.mk.injEq] at he;obtain ⟨rfl,rfl,rfl⟩:=he;refine ⟨?_,?_⟩
       ·refine JG hC hcall hout hr hst fun σ1 A1 H1 hx1 hr1=>⟨fun k hk _=>hhs (nd,s1.h) (by simp) σ1 H1 (hx.trans hx1) hr1.h k hk,?_⟩
        exact Jt hC hcall hout p s1 s2 rd1 hs1 hpl σ1 A1 H1 (hx.trans hx1) hr1 (fun i k b hm=>hrd i k b (List.mem_append.2 (.inl hm))) (fun h hm=>hhs h (by simp [hm])) hK
       ·refine JG hC hcall hout hr hst' fun σ1 A1 H1 hx1 hr1=>⟨fun k hk _=>hhs (nd',s3.h) (by simp) σ1 H1 (hx.trans hx1) hr1.h k hk,?_⟩
        exact Jt hC hcall hout p' s3 s2 rd2 hs2 hpl' σ1 A1 H1 (hx.trans hx1) hr1 (fun i k b hm=>hrd i k b (List.mem_append.2 (.inr hm))) (fun h hm=>hhs h (by simp [hm])) hK
      ·cases he
     ·cases he
    ·cases he
   ·cases he
theorem Zmx {rd:RdL} {h:Tr EB} (hk:kept0 rd h=true) {i k:Nat} {b:EB} (hm:(i,k,b)∈rd):h.get k=some b:=by
 unfold kept0 at hk;rw [List.all_eq_true] at hk
 have:=hk (i,k,b) hm
 dsimp only at this;split at this
 ·rename_i b' e; rw [e,ZcO this]
 ·cases this
theorem Zmy {nd:List Nat} {rd:RdL} {h:Tr EB} (hk:keptB nd rd h=true) {i k:Nat} {b:EB} (hm:(i,k,b)∈rd) (hi:i∈nd):h.get k=some b:=by
 unfold keptB at hk;rw [List.all_eq_true] at hk
 have:=hk (i,k,b) hm
 dsimp only at this;rw [memN_of hi] at this;simp only [cond_true] at this;split at this
 ·rename_i b' e; rw [e,ZcO this]
 ·cases this
theorem condC {α:Type} {c:Bool} {x y v:α} (h:cond c x y=v):(c=true∧x=v)∨(c=false∧y=v):=by cases c<;>simp_all
theorem Ju (hC:CfgOk C) {h0:Tr EB}:∀ (p:GPlan) (s s':ES) (rd:RdL) (hs:HsL),planE C call N rb out h0 p s=some (s',rd,hs)→∀ i k b,(i,k,b)∈rd→Zhr b=true
 | .fin,s,s',rd,hs,he=>by
   simp only [planE,Option.some.injEq,Prod.mk.injEq] at he;obtain ⟨_,rfl,_⟩:=he;intro i k b hm; cases hm
 | .tk i0 o p,s,s',rd,hs,he=>by
   simp only [planE] at he;split at he
   ·rename_i v rd0 htk;split at he
    ·rename_i s1 hput;split at he
     ·rename_i s2 rd1 hs1 hpl;simp only [Option.some.injEq,Prod.mk.injEq] at he;obtain ⟨rfl,rfl,rfl⟩:=he;intro i k b hm;rcases List.mem_append.1 hm with hm | hm
      ·have key:∀ op v rd,tkOp C s.t h0 i0 op=some (v,rd)→(i,k,b)∈rd→Zhr b=true:=by
        intro op v rd he hm;unfold tkOp at he;split at he
        ·split at he
         ·split at he
          ·have hq:=condS he;clear he;obtain ⟨hc,he⟩:=hq;split at he
           ·simp only [Option.some.injEq,Prod.mk.injEq] at he;obtain ⟨_,rfl⟩:=he;simp only [List.mem_singleton,Prod.mk.injEq] at hm;obtain ⟨_,_,rfl⟩:=hm;exact hc
           ·cases he
          ·cases he
         ·split at he
          ·simp only [Option.some.injEq,Prod.mk.injEq] at he;obtain ⟨_,rfl⟩:=he;cases hm
          ·cases he
        ·split at he
         ·simp only [Option.some.injEq,Prod.mk.injEq] at he;obtain ⟨_,rfl⟩:=he;cases hm
         ·cases he
       unfold tkE at htk;have hq:=condS htk;clear htk;obtain ⟨_,htk⟩:=hq;split at htk
       ·exact key _ _ _ htk hm
       ·split at htk
        ·rcases condC htk with ⟨_,htk1⟩ | ⟨_,htk1⟩
         ·exact key _ _ _ htk1 hm
         ·have htk2:=(condS htk1).2;simp only [Option.some.injEq,Prod.mk.injEq] at htk2;obtain ⟨_,rfl⟩:=htk2;cases hm
        ·cases htk
      ·exact Ju hC p s1 s2 rd1 hs1 hpl i k b hm
     ·cases he
    ·cases he
   ·cases he
 | .one nd o p,s,s',rd,hs,he=>by
   simp only [planE] at he;split at he
   ·rename_i s1 hst;split at he
    ·rename_i s2 rd1 hs1 hpl;simp only [Option.some.injEq,Prod.mk.injEq] at he;obtain ⟨rfl,rfl,rfl⟩:=he;exact Ju hC p s1 s2 rd1 hs1 hpl
    ·cases he
   ·cases he
 | .cut o p,s,s',rd,hs,he=>by
   simp only [planE] at he;split at he
   ·rename_i s1 hst;exact Ju hC p s1 s' rd hs he
   ·cases he
 | .two nd o p nd' o' p',s,s',rd,hs,he=>by
   simp only [planE] at he;split at he
   ·rename_i s1 hst;split at he
    ·rename_i s2 rd1 hs1 hpl;split at he
     ·rename_i s3 hst';split at he
      ·rename_i s4 rd2 hs2 hpl';have hq:=condS he;clear he;obtain ⟨hc,he⟩:=hq;simp only [Option.some.injEq,Prod.mk.injEq] at he;obtain ⟨rfl,rfl,rfl⟩:=he;intro i k b hm;rcases List.mem_append.1 hm with hm | hm
       ·exact Ju hC p s1 s2 rd1 hs1 hpl i k b hm
       ·exact Ju hC p' s3 s4 rd2 hs2 hpl' i k b hm
      ·cases he
     ·cases he
    ·cases he
   ·cases he
theorem ZeO {b:EB} (h:Zhr b=true):b.isDead=false:=by cases b<;>first | rfl | cases h
open Classical in
theorem ZkV (hC:CfgOk C) (hcall:JK C call) (hout:out=true→ro=none) (hQ:panQ Q) {p:GPlan} {tail:List GOp} {s s':ES} {σ:Sg} {A:AF} {H:AH} (hr:RA C.P σ s A H) (he:dregE C call N out p tail s=some s')
 (hk:∀ σ' A' H',Ext σ σ'→RA C.P σ' s' A' H'→Q .normal A' H'):ACx ⟨C.P,N,ro⟩ (.dreg p tail) Q A H:=by
 unfold dregE at he;split at he
 ·rename_i s1 rd hs hpl;have hq:=condS he;clear he;obtain ⟨hc,he⟩:=hq;obtain ⟨hc0,hc⟩:=cond3 hc;rw [List.all_eq_true] at hc;have hcells:=Ju hC p _ _ _ _ hpl
  have h0:∀ i k b,(i,k,b)∈rd→∃ q B,σ k=some q∧H q.r=some B∧RB C.P σ q b B:=fun i k b hm=>by
   rcases hr.h.blk k b (Zmx hc0 hm) with hd | h
   ·rw [ZeO (hcells i k b hm)] at hd; cases hd
   ·exact h
  let Hi:Nat→AH:=fun i r=>if ∃ k b q,(i,k,b)∈rd∧σ k=some q∧q.r=r then H r else none
  have hsub:∀ i,SubH (Hi i) H:=fun i r B hB=>by
   simp only [Hi] at hB;split at hB
   ·exact hB
   ·cases hB
  refine ZfM (cx:=⟨C.P,N,ro⟩) hC.mixed hQ Hi hsub ?_;refine Jt hC hcall hout p _ _ _ _ hpl σ A H (Ext.refl σ) ⟨hr.t,hr.d,hr.h⟩ (fun i k b hm=>?_) (fun q hm σ' H' hx hr' i hi=>?_) (fun σ1 A1 H1 hx hr1=>?_)
  ·obtain ⟨q,B,g1,g2,g3⟩:=h0 i k b hm;refine ⟨q,B,g1,?_,g3⟩;simp only [Hi];rw [if_pos ⟨k,b,q,hm,g1,rfl⟩];exact g2
  ·intro r B hB;simp only [Hi] at hB;split at hB
   ·rename_i hex;obtain ⟨k,b,q,hm',g1,rfl⟩:=hex;obtain ⟨q',B',f1,f2,f3⟩:=h0 i k b hm';rw [g1] at f1; cases f1;obtain rfl:B'=B:=by rw [f2] at hB; exact Option.some.inj hB
    rcases hr'.blk k b (Zmy (hc _ hm) hm' hi) with hd | ⟨q2,B2,e1,e2,e3⟩
    ·rw [ZeO (hcells i k b hm')] at hd; cases hd
    ·rw [hx _ _ g1] at e1; cases e1;have hcb:=hcells i k b hm'
     have:B'=B2:=RB.fn hx (by
      cases b with
      | cells e cs=>exact .inl ⟨e,cs,rfl⟩
      | grown e s cs=>exact .inr ⟨e,s,cs,rfl⟩
      | _=>cases hcb) f3 e3
     rw [this];exact e2
   ·cases hB
  ·exact Zd2 hC hcall hout tail σ1 s1 s' A1 H1 hr1 he fun σ' A' H' hx'=>hk σ' A' H' (hx.trans hx')
 ·cases he
end
end Go.PV
end
section
open Nat renaming beq→Zpj,eq_of_beq_eq_true→Zpm
namespace Go.PV
inductive Ex where
 | nrm
 | ext (id:Nat)
 | ret
def loopE (body:ES→Option (Ex × ES)):Nat→ES→Option (Ex × ES)
 | 0,_=>none
 | n+1,s=>match body s with
   | some (.nrm,s1)=>loopE body n s1
   | some (.ret,s1)=>some (.ret,s1)
   | some (.ext i,s1)=>some (.ext i,s1)
   | none=>none
def Znc (C:Cfg):EV→Bool
 | .func g _ _=>(C.ft g).isSome
 | .lit (.func (.func g) _ _)=>(C.ft g).isSome
 | _=>false
def beqNL:List Nat→List Nat→Bool
 | [],[]=>true
 | a::asg,b::bs=>cond (Zpj a b) (beqNL asg bs) false
 | _,_=>false
theorem Zgc:∀ (a b:List Nat),beqNL a b=true→a=b
 | [],b,h=>by cases b<;>simp only [beqNL] at h<;>first | rfl | cases h
 | a::asg,b,h=>by
   cases b<;>simp only [beqNL] at h<;>try (cases h; done)
   obtain ⟨h1,h2⟩:=cond3 h;rw [Zpm h1,Zgc _ _ h2]
def sameL (N N':Nat) (ps ps':Array Tmp) (r r':Nat):Bool:=cond (Zpj N' N) (cond (Zpj r' r) (beqNL ps'.toList ps.toList) false) false
theorem ZcQ {N N':Nat} {ps ps':Array Tmp} {r r':Nat} (h:sameL N N' ps ps' r r'=true):N'=N∧ps'=ps∧r'=r:=by
 unfold sameL at h;obtain ⟨h1,h⟩:=cond3 h;obtain ⟨h2,h3⟩:=cond3 h;exact ⟨Zpm h1,Array.toList_inj.1 (Zgc _ _ h3),Zpm h2⟩
def Znd (C:Cfg) (call:CallF) (N:Nat) (out:Bool) (f:Operand) (ps:Array Tmp) (asg bd:ACode) (s:ES):Option (Ex × ES) :=
 cond (cond out (Znc C (evO s.t f)) false) (match newB s.h s.nx .deferred with
  | some h1=>(match newB h1 (s.nx+1) (.loop .ready none N s.t ps asg bd s.nx) with
    | some h2=>(match call (evO s.t f) [.yield (s.nx+1)] h2 (s.nx+2) with
      | some (_,h3,nx3)=>(match h3.get (s.nx+1) with
        | some (.loop st j N' _ ps' _ _ r')=>(match cond (sameL N N' ps ps' s.nx r') st .busy with
          | .busy=>none
          | _=>(match Tr.set 40 h3 (s.nx+1) .dead with
            | some h4=>some (match j with | none=>.nrm | some none=>.ret | some (some id)=>.ext id,{ s with h:=h4,nx:=nx3,d:=.mark s.nx::s.d })
            | none=>none))
        | _=>none)
      | none=>none)
    | none=>none)
  | none=>none) none
def codeE (C:Cfg) (call:CallF) (lim N:Nat) (out:Bool):ACode→ES→Option (Ex × ES)
 | .skip,s=>some (.nrm,s)
 | .reg l,s=>(match Zcz C call N s.nx out true l { s with nx:=s.nx+N+1 } with | some s'=>some (.nrm,s') | none=>none)
 | .dreg p tail,s=>(match dregE C call N out p tail s with | some s'=>some (.nrm,s') | none=>none)
 | .seq a b,s=>(match codeE C call lim N out a s with
   | some (.nrm,s1)=>codeE C call lim N out b s1
   | some (.ret,s1)=>some (.ret,s1)
   | some (.ext i,s1)=>some (.ext i,s1)
   | none=>none)
 | .seqL a b,s=>(match codeE C call lim N out a s with
   | some (.nrm,s1)=>codeE C call lim N out b s1
   | some (.ret,s1)=>some (.ret,s1)
   | some (.ext i,s1)=>some (.ext i,s1)
   | none=>none)
 | .cond c a b,s=>(match evO s.t c with
   | .lit (.bool t)=>cond t (codeE C call lim N out a s) (codeE C call lim N out b s)
   | _=>none)
 | .block id a,s=>(match codeE C call lim N out a s with
   | some (.nrm,s1)=>some (.nrm,s1)
   | some (.ret,s1)=>some (.ret,s1)
   | some (.ext i,s1)=>cond (Zpj i id) (some (.nrm,s1)) (some (.ext i,s1))
   | none=>none)
 | .loop a,s=>loopE (codeE C call lim N out a) lim s
 | .exit id,s=>some (.ext id,s)
 | .ret,s=>some (.ret,s)
 | .scope a,s=>codeE C call lim N out a s
 | .rfunc f ps asg bd,s=>Znd C call N out f ps asg bd s
 | .bad,_=>none
def toQ (K:Ex→AF→AH→Prop):APost
 | .normal=>K .nrm
 | .exit id=>K (.ext id)
 | .ret=>K .ret
 | _=>fun _ _=>False
theorem Zfn (K:Ex→AF→AH→Prop):Zbi (toQ K):=fun _ _ _ h=>h
theorem toQ_pan (K:Ex→AF→AH→Prop):panQ (toQ K):=fun _ _ _ _ _ h=>h.elim
def onN (K:Ex→AF→AH→Prop) (k:AF→AH→Prop):Ex→AF→AH→Prop
 | .nrm=>k
 | e=>K e
theorem ZhX (K:Ex→AF→AH→Prop) (k:AF→AH→Prop):toQ (onN K k)=thenA k (toQ K):=by
 funext e
 cases e<;>rfl
section
variable {cx:Cx} {Q Q':APost} {A:AF} {H:AH}
theorem ZhY {a:ACode} (h:ACx cx a Q A H) (hQ:∀ e A H,Q e A H→Q' e A H):ACx cx a Q' A H:=fun c hc=>(h c hc).mono hQ
theorem ZoK {a b:ACode} {K:AF→AH→Prop} (hK:∀ A H,K A H→ACx cx b Q A H) (h:ACx cx a (thenA K Q) A H):ACx cx (.seqL a b) Q A H:=by
 intro c hc;cases c with
 | seq x y =>
   simp only [ZS] at hc;split at hc
   ·injection hc with h1 h2
    refine Zj7 ((h x h1).mono ?_);intro e A' H' hq;cases e with
    | normal=>exact hK A' H' hq y h2
    | _=>exact hq
   ·cases hc
 | region id ops draw =>
   simp only [ZS] at hc;split at hc
   ·unfold YY at hc;dsimp only at hc;split at hc
    ·split at hc<;>cases hc
    ·cases hc
   ·split at hc<;>cases hc
 | _=>simp only [ZS] at hc; cases hc
theorem ZoL {o:Operand} {a b:ACode} {t:Bool} (ho:A.eval o=.lit (.bool t)) (h:ACx cx (if t then a else b) Q A H):ACx cx (.cond o a b) Q A H:=by
 intro c hc;cases c with
 | cond o' x y =>
   simp only [ZS,ACode.cond.injEq] at hc;obtain ⟨rfl,h1,h2⟩:=hc;refine Znf ho ?_;cases t
   ·exact h y h2
   ·exact h x h1
 | region id ops draw =>
   simp only [ZS] at hc;split at hc
   ·unfold YY at hc;dsimp only at hc;split at hc
    ·split at hc<;>cases hc
    ·cases hc
   ·split at hc<;>cases hc
 | seq x y=>simp only [ZS] at hc; split at hc<;>cases hc
 | _=>simp only [ZS] at hc; cases hc
theorem Zmz {id:Nat} {a:ACode} (h:ACx cx a (Xf id Q) A H):ACx cx (.block id a) Q A H:=by
 intro c hc;cases c with
 | block i x =>
   simp only [ZS,ACode.block.injEq] at hc;obtain ⟨rfl,h1⟩:=hc;exact Zhv (h x h1)
 | region id ops draw =>
   simp only [ZS] at hc;split at hc
   ·unfold YY at hc;dsimp only at hc;split at hc
    ·split at hc<;>cases hc
    ·cases hc
   ·split at hc<;>cases hc
 | seq x y=>simp only [ZS] at hc; split at hc<;>cases hc
 | _=>simp only [ZS] at hc; cases hc
theorem ZmA (hQ:Zbi Q) {a:ACode} (h:ACx cx a Q A H):ACx cx (.scope a) Q A H:=by
 intro c hc;cases c with
 | scope x =>
   simp only [ZS,ACode.scope.injEq] at hc;exact Zk3 hQ (h x hc)
 | region id ops draw =>
   simp only [ZS] at hc;split at hc
   ·unfold YY at hc;dsimp only at hc;split at hc
    ·split at hc<;>cases hc
    ·cases hc
   ·split at hc<;>cases hc
 | seq x y=>simp only [ZS] at hc; split at hc<;>cases hc
 | _=>simp only [ZS] at hc; cases hc
end
section
variable {C:Cfg} {call:CallF} {lim N:Nat} {out:Bool} {ro:Option Nat}
theorem ZkW {a:ACode} (ha:∀ (s s':ES) (e:Ex),codeE C call lim N out a s=some (e,s')→∀ (σ:Sg) (A:AF) (H:AH) (K:Ex→AF→AH→Prop),RA C.P σ s A H→(∀ σ' A' H',Ext σ σ'→RA C.P σ' s' A' H'→K e A' H')→ACx ⟨C.P,N,ro⟩ a (toQ K) A H)
 {n:Nat} {s s':ES} {e:Ex} (he:loopE (codeE C call lim N out a) n s=some (e,s')) {σ:Sg} {A:AF} {H:AH} {K:Ex→AF→AH→Prop} (hs:RA C.P σ s A H) (hK:∀ σ' A' H',Ext σ σ'→RA C.P σ' s' A' H'→K e A' H'):ACx ⟨C.P,N,ro⟩ (.loop a) (toQ K) A H:=by
 let J:AF→AH→Nat→Prop:=fun A H n=>∃ σ1 s1,Ext σ σ1∧RA C.P σ1 s1 A H∧loopE (codeE C call lim N out a) n s1=some (e,s')
 refine Zoe (fun A H=>∃ n,J A H n) (fun A H=>leastOf (J A H)) ⟨n,σ,s,Ext.refl σ,hs,he⟩ ?_;intro A H hJ;obtain ⟨⟨σ1,s1,hx1,hs1,he1⟩,hmin⟩:=leastOf_spec hJ;rw [← ZhX];generalize hm:leastOf (J A H)=m at he1 hmin;cases m with
 | zero=>simp [loopE] at he1
 | succ m =>
   simp only [loopE] at he1;split at he1
   ·rename_i s2 hb;refine ha _ _ _ hb σ1 A H _ hs1 fun σ2 A2 H2 hx2 hs2=>?_
    have hJ2:J A2 H2 m:=⟨σ2,s2,hx1.trans hx2,hs2,he1⟩
    refine ⟨⟨m,hJ2⟩,?_⟩
    have:=(leastOf_spec (p:=J A2 H2) ⟨m,hJ2⟩).2 m hJ2
    omega
   ·rename_i s2 hb;simp only [Option.some.injEq,Prod.mk.injEq] at he1;obtain ⟨rfl,rfl⟩:=he1;exact ha _ _ _ hb σ1 A H _ hs1 fun σ2 A2 H2 hx2 hs2=>hK σ2 A2 H2 (hx1.trans hx2) hs2
   ·rename_i i s2 hb;simp only [Option.some.injEq,Prod.mk.injEq] at he1;obtain ⟨rfl,rfl⟩:=he1;exact ha _ _ _ hb σ1 A H _ hs1 fun σ2 A2 H2 hx2 hs2=>hK σ2 A2 H2 (hx1.trans hx2) hs2
   ·cases he1
theorem ZkX (hC:CfgOk C) {σ:Sg} {f:EV} {x:VV} (h:Znc C f=true) (hx:RV σ f x):∃ g first cap,FunV x g first cap∧ZL C.P g=true:=by
 have hft:∀ g,(C.ft g).isSome=true→ZL C.P g=true:=fun g hg=>by
  obtain ⟨⟨N,rs,a⟩,e⟩:=Option.isSome_iff_exists.1 hg;exact (hC.ft g N rs a e).2
 unfold Znc at h;split at h
 ·obtain ⟨asg,bs,rfl,_⟩:=hx; exact ⟨_,_,_,.inl rfl,hft _ h⟩
 ·obtain rfl:=hx; exact ⟨_,_,_,.inr ⟨_,_,rfl,rfl,rfl⟩,hft _ h⟩
 ·cases h
theorem ZmB {P:Program} {x:VV} {g:FuncId} {first cap xs:List VV} {H:AH} {K:VE→AH→Prop} (hf:FunV x g first cap) (h:XX P ro x xs H K):ZL P g=true∧ZU P g (first++xs++cap) H K:=by
 rcases hf with rfl | ⟨a,b,rfl,rfl,rfl⟩
 ·exact h
 ·exact h
theorem ZjH (hC:CfgOk C) (hcall:JK C call) (hout:out=true→ro=none) {f:Operand} {ps:Array Tmp} {asg bd:ACode} {s s':ES} {e:Ex} (he:Znd C call N out f ps asg bd s=some (e,s')) {σ:Sg} {A:AF} {H:AH} {K:Ex→AF→AH→Prop}
 (hs:RA C.P σ s A H) (hK:∀ σ' A' H',Ext σ σ'→RA C.P σ' s' A' H'→K e A' H'):ACx ⟨C.P,N,ro⟩ (.rfunc f ps asg bd) (toQ K) A H:=by
 unfold Znd at he;have hq:=condS he;clear he;obtain ⟨hc,he⟩:=hq;obtain ⟨ho,hf⟩:=cond3 hc;have hfr:=JP (σ:=σ) (A:=A) hs.t f;obtain ⟨g,first,cap,hF,hen⟩:=ZkX hC hf hfr;split at he
 ·rename_i h1 hn1;split at he
  ·rename_i h2 hn2;split at he
   ·rename_i v3 h3 nx3 hcl;split at he
    ·rename_i st j N' t' ps' as' bd' r' hg3;split at he
     ·cases he
     ·rename_i st' hst;split at he
      ·rename_i h4 hset;simp only [Option.some.injEq,Prod.mk.injEq] at he;obtain ⟨rfl,rfl⟩:=he
       have setup:∀ r l fn ca cb,ZS C.P ca=asg→ZS C.P cb=bd→H r=none→H l=none→l ≠ r→(C.P.funcs[fn]?).isSome=true →
        ∃ σ2,Ext σ σ2∧HR C.P σ2 h2 ((H.set r (.obj (.deferred (some [])))).set l (.loop .ready none fn N A.t ps ca cb r))∧σ2 (s.nx+1)=some { r:=l,fn,ca,cb,t:=A.t }∧σ2 s.nx=some { r:=r }:=by
        intro r l fn ca cb hca hcb hr hl hlr hfn;obtain ⟨x1,r1⟩:=hs.h.new (p:={ r:=r }) hn1 hr (B:=.obj (.deferred (some []))) rfl;have hl1:(H.set r (.obj (.deferred (some [])))) l=none:=by rw [AH.set_ne _ _ hlr]; exact hl
        have hne:sgS σ s.nx { r:=r } (s.nx+1)=none:=r1.dom _ (Zdk hn2).1;have x2:=Zhn (p:={ r:=l,fn,ca,cb,t:=A.t }) hne;have hsn:sgS (sgS σ s.nx { r:=r }) (s.nx+1) { r:=l,fn,ca,cb,t:=A.t } s.nx=some { r:=r }:=x2 _ _ (Jn _ _ _)
        obtain ⟨x2',r2⟩:=r1.new (p:={ r:=l,fn,ca,cb,t:=A.t }) hn2 hl1 (B:=.loop .ready none fn N A.t ps ca cb r)
         ⟨none,{ r:=r },rfl,hsn,fun _=>rfl,hca,hcb,hfn,fun i=>((hs.t i).mono x1).mono x2⟩
        exact ⟨_,x1.trans x2,r2,Jn _ _ _,hsn⟩
       have hsame:sameL N N' ps ps' s.nx r'=true:=by
        cases hb:sameL N N' ps ps' s.nx r' with
        | true=>rfl
        | false=>rw [hb] at hst; exact absurd rfl hst
       rw [hsame] at hst;obtain ⟨rfl,rfl,rfl⟩:=ZcQ hsame;refine ZbE (cx:=⟨C.P,N',ro⟩) (hout ho) hF hen fun r l fn ca cb hca hcb hr hl hlr hfn=>?_
       obtain ⟨σ2,x2,r2,hp2,hq2⟩:=setup r l fn ca cb hca hcb hr hl hlr hfn;refine (ZmB (ro:=ro) hF (hcall _ _ _ _ _ _ _ hcl σ2 _ (A.eval f) [.lit (.func (.yield l) #[] #[])] ro _ r2 (RV.mono x2 _ _ hfr) ⟨_,[],rfl,⟨_,hp2,rfl⟩,rfl⟩ fun σ3 H3 x x3 r3 _=>?_)).2;rcases r3.blk _ _ hg3 with hd | ⟨q,B,e1,e2,e3⟩
       ·cases hd
       ·rw [x3 _ _ hp2] at e1; cases e1;obtain ⟨pe,q2,rfl,f1,f2,f3,f4,f5,f6⟩:=e3;rw [x3 _ _ hq2] at f1; cases f1;refine ⟨st,pe,e2,hst,?_⟩
        have hra:RA C.P σ3 { s with h:=h4,nx:=nx3,d:=.mark s.nx::s.d } { A with d:=WS r::A.d } (H3.del l) :=
         ⟨fun i=>((hs.t i).mono x2).mono x3,⟨_,_,rfl,⟨_,x3 _ _ hq2,rfl⟩,(hs.d.mono x2).mono x3⟩,r3.kill (p:={ r:=l,fn,ca,cb,t:=A.t }) hg3 rfl (x3 _ _ hp2) hset⟩
        have:=hK σ3 _ _ (x2.trans x3) hra
        rw [f2 hst];cases j with
        | none=>exact this
        | some j =>
          cases j with
          | none=>exact this
          | some id=>exact this
      ·cases he
    ·cases he
   ·cases he
  ·cases he
 ·cases he
theorem Yq (hC:CfgOk C) (hcall:JK C call) (hout:out=true→ro=none):∀ (a:ACode) (s s':ES) (e:Ex),codeE C call lim N out a s=some (e,s')→∀ (σ:Sg) (A:AF) (H:AH) (K:Ex→AF→AH→Prop),RA C.P σ s A H →
 (∀ σ' A' H',Ext σ σ'→RA C.P σ' s' A' H'→K e A' H')→ACx ⟨C.P,N,ro⟩ a (toQ K) A H
 | .skip,s,s',e,he,σ,A,H,K,hs,hK=>by
   simp only [codeE,Option.some.injEq,Prod.mk.injEq] at he;obtain ⟨rfl,rfl⟩:=he;exact Zds (Zfn K) (hK σ A H (Ext.refl σ) hs)
 | .reg l,s,s',e,he,σ,A,H,K,hs,hK=>by
   simp only [codeE] at he;split at he
   ·rename_i s1 h1;simp only [Option.some.injEq,Prod.mk.injEq] at he;obtain ⟨rfl,rfl⟩:=he;exact acx_reg2 (Zd1 hC hcall hout l σ { s with nx:=s.nx+N+1 } _ A H ⟨hs.t,hs.d,hs.h⟩ h1 hK)
   ·cases he
 | .dreg p tail,s,s',e,he,σ,A,H,K,hs,hK=>by
   simp only [codeE] at he;split at he
   ·rename_i s1 h1;simp only [Option.some.injEq,Prod.mk.injEq] at he;obtain ⟨rfl,rfl⟩:=he;exact ZkV hC hcall hout (toQ_pan K) hs h1 hK
   ·cases he
 | .seq a b,s,s',e,he,σ,A,H,K,hs,hK=>by
   simp only [codeE] at he;refine acx_seqA (K:=fun A H=>ACx ⟨C.P,N,ro⟩ b (toQ K) A H) (fun A H h=>h) ?_;rw [← ZhX];split at he
   ·rename_i s1 h1;exact Yq hC hcall hout a s s1 .nrm h1 σ A H _ hs fun σ1 A1 H1 hx hs1=>Yq hC hcall hout b s1 s' e he σ1 A1 H1 K hs1 fun σ' A' H' hx'=>hK σ' A' H' (hx.trans hx')
   ·rename_i s1 h1;simp only [Option.some.injEq,Prod.mk.injEq] at he;obtain ⟨rfl,rfl⟩:=he;exact Yq hC hcall hout a s s1 .ret h1 σ A H _ hs hK
   ·rename_i i s1 h1;simp only [Option.some.injEq,Prod.mk.injEq] at he;obtain ⟨rfl,rfl⟩:=he;exact Yq hC hcall hout a s s1 (.ext i) h1 σ A H _ hs hK
   ·cases he
 | .seqL a b,s,s',e,he,σ,A,H,K,hs,hK=>by
   simp only [codeE] at he;refine ZoK (K:=fun A H=>ACx ⟨C.P,N,ro⟩ b (toQ K) A H) (fun A H h=>h) ?_;rw [← ZhX];split at he
   ·rename_i s1 h1;exact Yq hC hcall hout a s s1 .nrm h1 σ A H _ hs fun σ1 A1 H1 hx hs1=>Yq hC hcall hout b s1 s' e he σ1 A1 H1 K hs1 fun σ' A' H' hx'=>hK σ' A' H' (hx.trans hx')
   ·rename_i s1 h1;simp only [Option.some.injEq,Prod.mk.injEq] at he;obtain ⟨rfl,rfl⟩:=he;exact Yq hC hcall hout a s s1 .ret h1 σ A H _ hs hK
   ·rename_i i s1 h1;simp only [Option.some.injEq,Prod.mk.injEq] at he;obtain ⟨rfl,rfl⟩:=he;exact Yq hC hcall hout a s s1 (.ext i) h1 σ A H _ hs hK
   ·cases he
 | .cond c a b,s,s',e,he,σ,A,H,K,hs,hK=>by
   simp only [codeE] at he;split at he
   ·rename_i t ht;have hc:=JP (σ:=σ) (A:=A) hs.t c;rw [ht] at hc;refine ZoL (t:=t) hc ?_;cases t with
    | true=>exact Yq hC hcall hout a s s' e he σ A H K hs hK
    | false=>exact Yq hC hcall hout b s s' e he σ A H K hs hK
   ·cases he
 | .block id a,s,s',e,he,σ,A,H,K,hs,hK=>by
   simp only [codeE] at he;refine Zmz ?_
   have hin:Xf id (toQ K)=toQ (fun e=>match e with | .ext i=>if i=id then K .nrm else K (.ext i) | e=>K e):=by
    funext e
    cases e with
    | exit i=>simp only [Xf,toQ]
    | _=>rfl
   rw [hin];split at he
   ·rename_i s1 h1;simp only [Option.some.injEq,Prod.mk.injEq] at he;obtain ⟨rfl,rfl⟩:=he;exact Yq hC hcall hout a s s1 .nrm h1 σ A H _ hs hK
   ·rename_i s1 h1;simp only [Option.some.injEq,Prod.mk.injEq] at he;obtain ⟨rfl,rfl⟩:=he;exact Yq hC hcall hout a s s1 .ret h1 σ A H _ hs hK
   ·rename_i i s1 h1;refine Yq hC hcall hout a s s1 (.ext i) h1 σ A H _ hs ?_;cases hb:Zpj i id with
    | true =>
      simp only [hb,cond_true,Option.some.injEq,Prod.mk.injEq] at he;obtain ⟨rfl,rfl⟩:=he;dsimp only;rw [if_pos (Zpm hb)];exact hK
    | false =>
      simp only [hb,cond_false,Option.some.injEq,Prod.mk.injEq] at he;obtain ⟨rfl,rfl⟩:=he;dsimp only;rw [if_neg (fun e=>by rw [e,Nat.beq_refl] at hb; cases hb)];exact hK
   ·cases he
 | .loop a,s,s',e,he,σ,A,H,K,hs,hK=>by
   simp only [codeE] at he;exact ZkW (fun s s' e h=>Yq hC hcall hout a s s' e h) he hs hK
 | .exit id,s,s',e,he,σ,A,H,K,hs,hK=>by
   simp only [codeE,Option.some.injEq,Prod.mk.injEq] at he;obtain ⟨rfl,rfl⟩:=he;exact Zds (Zfn K) (hK σ A H (Ext.refl σ) hs)
 | .ret,s,s',e,he,σ,A,H,K,hs,hK=>by
   simp only [codeE,Option.some.injEq,Prod.mk.injEq] at he;obtain ⟨rfl,rfl⟩:=he;exact Zds (Zfn K) (hK σ A H (Ext.refl σ) hs)
 | .scope a,s,s',e,he,σ,A,H,K,hs,hK=>by
   simp only [codeE] at he;exact ZmA (Zfn K) (Yq hC hcall hout a s s' e he σ A H K hs hK)
 | .rfunc f ps asg bd,s,s',e,he,σ,A,H,K,hs,hK=>by
   simp only [codeE] at he;exact ZjH hC hcall hout he hs hK
 | .bad,s,s',e,he,σ,A,H,K,hs,hK=>by
   simp only [codeE] at he;cases he
end
end Go.PV
end
