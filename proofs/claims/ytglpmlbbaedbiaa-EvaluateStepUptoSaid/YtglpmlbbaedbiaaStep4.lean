/- Part 4 of 11 of what the proof of Step needs. -/
import Derived.Test.YtglpmlbbaedbiaaStep2
import Derived.OrdersIn
import Derived.RangeFuncLeaves
import Derived.RangeFuncRecord
import Derived.RecoverIn
import Derived.Laws.BitsLemmas
import Derived.Laws.Strings
import Derived.Test.YtglpmlbbaedbiaaStep3
set_option linter.unusedVariables false
set_option linter.unusedSimpArgs false
set_option linter.defProp false
section
namespace Go.PV
section
variable {cx:Cx} {Q:APost} {A:AF} {H:AH} {K:AF→AH→Prop} {P:Program}
theorem Wj:vc cx .skip Q A H=Q .normal A H:=by simp [vc]
theorem Xx (l:List GOp):vc cx (.reg l) Q A H=vcL cx l Q A H:=by simp [vc]
theorem Xy (a b:ACode):vc cx (.seq a b) Q A H=vc cx a (thenA (vc cx b Q) Q) A H:=by simp [vc]
theorem Zbm (a b:ACode):vc cx (.seqL a b) Q A H=vc cx a (thenA (ACx cx b Q) Q) A H:=by simp [vc]
def condL (x:VV) (cx:Cx) (a b:ACode) (Q:APost) (A:AF) (H:AH):Prop:=match x with | .lit (.bool t)=>(if t=true then vc cx a Q A H else vc cx b Q A H) | _=>False
theorem Xm (c:Operand) (a b:ACode):vc cx (.cond c a b) Q A H=condL (A.eval c) cx a b Q A H:=by simp only [vc]; rfl
theorem Yp {t:Bool} {a b:ACode} (h:t=true→vc cx a Q A H) (k:t=false→vc cx b Q A H):condL (.lit (.bool t)) cx a b Q A H:=by cases t; exact k rfl; exact h rfl
theorem Yf {c:Prop} {dc:Decidable c} {a b:ACode} (h:c→vc cx a Q A H) (k:¬ c→vc cx b Q A H):condL (.lit (.bool (decide c))) cx a b Q A H:=by
 by_cases hc:c
 ·rw [decide_eq_true hc]; exact h hc
 ·rw [decide_eq_false hc]; exact k hc
theorem Xc (a b:ACode):condL (.lit (.bool true)) cx a b Q A H=vc cx a Q A H:=rfl
theorem XI (a b:ACode):condL (.lit (.bool false)) cx a b Q A H=vc cx b Q A H:=rfl
theorem YS (id:Nat) (a:ACode):vc cx (.block id a) Q A H=vc cx a (Xf id Q) A H:=by simp [vc]
theorem Zkg (id:Nat):vc cx (.exit id) Q A H=Q (.exit id) A H:=by simp [vc]
theorem ZaU:vc cx .ret Q A H=Q .ret A H:=by simp [vc]
theorem Zno (a:ACode):vc cx (.scope a) Q A H=vc cx a Q A H:=by simp [vc]
theorem Zin (a:ACode):vc cx (.loop a) Q A H=ACx cx (.loop a) Q A H:=by simp [vc]
theorem WO (l:GPlan) (t:List GOp):vc cx (.dreg l t) Q A H=ACx cx (.dreg l t) Q A H:=by simp [vc]
theorem ZgP (f:Operand) (ps:Array Tmp) (a b:ACode):vc cx (.rfunc f ps a b) Q A H=ACx cx (.rfunc f ps a b) Q A H:=by simp [vc]
theorem XA:vcL cx [] Q A H=Q .normal A H:=rfl
theorem Yo (d:Option Tmp) (op:Op) (l:List GOp):vcL cx (⟨d,op,none⟩::l) Q A H=vcDo cx ⟨d,op,none⟩ (vcL cx l Q) Q A H:=rfl
def Zbn (x:VV) (want:Bool) (cx:Cx) (d:Option Tmp) (op:Op) (l:List GOp) (Q:APost) (A:AF) (H:AH):Prop :=
 match x with
 | .lit (.bool t)=>(if t=want then vcDo cx ⟨d,op,none⟩ (vcL cx l Q) Q A H else (dOk cx.N d∧Yb cx.P op A∧vcL cx l Q (A.put d ZJ) H))
 | .lit (.tuple _)=>dOk cx.N d∧Yb cx.P op A∧vcL cx l Q (A.put d ZJ) H
 | _=>False
theorem ZaV (d:Option Tmp) (op:Op) (g:Tmp) (want:Bool) (l:List GOp):vcL cx (⟨d,op,some (g,want)⟩::l) Q A H=Zbn (A.t g) want cx d op l Q A H:=by
 unfold Zbn;simp only [vcL,vcG];cases h:A.t g with
 | lit v=>cases v<;>rfl
 | _=>rfl
section
variable {d:Option Tmp} {op:Op} {l:List GOp}
theorem Zdx {t:Bool} (h:t=true→vcDo cx ⟨d,op,none⟩ (vcL cx l Q) Q A H) (k:t=false→dOk cx.N d∧Yb cx.P op A∧vcL cx l Q (A.put d ZJ) H):Zbn (.lit (.bool t)) true cx d op l Q A H:=by cases t; exact k rfl; exact h rfl
theorem Zdy {t:Bool} (h:t=false→vcDo cx ⟨d,op,none⟩ (vcL cx l Q) Q A H) (k:t=true→dOk cx.N d∧Yb cx.P op A∧vcL cx l Q (A.put d ZJ) H):Zbn (.lit (.bool t)) false cx d op l Q A H:=by cases t; exact h rfl; exact k rfl
theorem JD {c:Prop} {dc:Decidable c} (h:c→vcDo cx ⟨d,op,none⟩ (vcL cx l Q) Q A H) (k:¬ c→dOk cx.N d∧Yb cx.P op A∧vcL cx l Q (A.put d ZJ) H):Zbn (.lit (.bool (decide c))) true cx d op l Q A H:=by
 by_cases hc:c
 ·rw [decide_eq_true hc]; exact h hc
 ·rw [decide_eq_false hc]; exact k hc
theorem Xu {c:Prop} {dc:Decidable c} (h:¬ c→vcDo cx ⟨d,op,none⟩ (vcL cx l Q) Q A H) (k:c→dOk cx.N d∧Yb cx.P op A∧vcL cx l Q (A.put d ZJ) H):Zbn (.lit (.bool (decide c))) false cx d op l Q A H:=by
 by_cases hc:c
 ·rw [decide_eq_true hc]; exact k hc
 ·rw [decide_eq_false hc]; exact h hc
theorem ZaK:Zbn (.lit (.bool true)) true cx d op l Q A H=vcDo cx ⟨d,op,none⟩ (vcL cx l Q) Q A H:=rfl
theorem ZfJ:Zbn (.lit (.bool true)) false cx d op l Q A H=(dOk cx.N d∧Yb cx.P op A∧vcL cx l Q (A.put d ZJ) H):=rfl
theorem ZbB:Zbn (.lit (.bool false)) true cx d op l Q A H=(dOk cx.N d∧Yb cx.P op A∧vcL cx l Q (A.put d ZJ) H):=rfl
theorem ZcS (vs:Array Value) (want:Bool):Zbn (.lit (.tuple vs)) want cx d op l Q A H=(dOk cx.N d∧Yb cx.P op A∧vcL cx l Q (A.put d ZJ) H):=rfl
theorem ZbC:Zbn (.lit (.bool false)) false cx d op l Q A H=vcDo cx ⟨d,op,none⟩ (vcL cx l Q) Q A H:=rfl
end
theorem Ys:thenA K Q .normal A H=K A H:=rfl
theorem ZgQ (id:Nat):thenA K Q (.exit id) A H=Q (.exit id) A H:=rfl
theorem WK:thenA K Q .ret A H=Q .ret A H:=rfl
theorem ZgR (ch:List PanicEntry):thenA K Q (.panic ch) A H=Q (.panic ch) A H:=rfl
theorem Zb9 (id:Nat):Xf id Q .normal A H=Q .normal A H:=rfl
theorem ZoY (id i:Nat):Xf id Q (.exit i) A H=(if i=id then Q .normal A H else Q (.exit i) A H):=by simp only [Xf]; split<;>rfl
theorem Zgm (id:Nat):Xf id Q .ret A H=Q .ret A H:=rfl
theorem s_inP (id:Nat) (ch:List PanicEntry):Xf id Q (.panic ch) A H=Q (.panic ch) A H:=rfl
variable {next:AF→AH→Prop}
theorem YJ (d:Option Tmp) (x:VV):vcK next Q d A (.ret x) H=next (A.put d x) H:=rfl
theorem ZmO (d:Option Tmp) (ch:List PanicEntry):vcK next Q d A (.pan ch) H=Q (.panic ch) A H:=rfl
theorem YG (d:Nat) (x:VV) (t:Nat→VV) (ds:List Deferred):AF.put ⟨t,ds⟩ (some d) x=⟨upd t d x,ds⟩:=rfl
theorem WP (x:VV):AF.put A none x=A:=rfl
theorem YH (N d:Nat):dOk N (some d)=(d<N):=rfl
theorem WQ (N:Nat):dOk N none=True:=rfl
theorem YI (t:Nat→VV) (ds:List Deferred) (i:Nat):AF.eval ⟨t,ds⟩ (.tmp i)=t i:=rfl
theorem YT (v:Value):A.eval (.const v)=.lit v:=rfl
theorem Wk (f:Nat):A.eval (.func f)=.lit (.func (.func f) #[] #[]):=rfl
theorem ZI (t:Nat→VV) (i j:Nat) (x:VV):upd t i x j=if j=i then x else t j:=rfl
variable {d:Option Tmp}
theorem YV (x:Operand):vcDo cx ⟨d,.move x,none⟩ next Q A H=(dOk cx.N d∧next (A.put d (A.eval x)) H):=rfl
theorem YB (x:Operand):vcDo cx ⟨d,.assign x,none⟩ next Q A H=(dOk cx.N d∧next (A.put d (A.eval x)) H):=rfl
def pickA (c a b:VV):VV:=match c with | .lit (.bool t)=>if t then a else b | _=>ZJ
def ZjO (c:VV):Prop:=match c with | .lit (.bool t)=>True | _=>False
theorem JL (t:Bool):ZjO (.lit (.bool t))=True:=rfl
theorem ZaW (t:Bool) (a b:VV):pickA (.lit (.bool t)) a b=if t=true then a else b:=rfl
theorem Zct (c a b:Operand):vcDo cx ⟨d,.pick c a b,none⟩ next Q A H=(dOk cx.N d∧ZjO (A.eval c)∧next (A.put d (pickA (A.eval c) (A.eval a) (A.eval b))) H):=by
 simp only [vcDo,vcOp,ZjO,pickA];cases h:A.eval c with
 | lit v=>cases v<;>simp [vcK]
 | _=>simp
theorem YR (t:TypeId) (a:Operand):vcDo cx ⟨d,.load t a,none⟩ next Q A H=(dOk cx.N d∧XL cx.P t (A.eval a) H (vcK next Q d A)):=rfl
theorem Wu (t:TypeId) (a v:Operand):vcDo cx ⟨d,.store t a v,none⟩ next Q A H=(dOk cx.N d∧Jv cx.P t (A.eval a) (A.eval v) H (vcK next Q d A)):=rfl
theorem Wy (x:Operand):vcDo cx ⟨d,.nilCheck x,none⟩ next Q A H=(dOk cx.N d∧vcNil (A.eval x) H (vcK next Q d A)):=rfl
theorem Wc (op:BinOp) (t t':TypeId) (x y:Operand):vcDo cx ⟨d,.binOp op t x y t',none⟩ next Q A H=(dOk cx.N d∧vcBin cx.P op t x y (A.eval x) (A.eval y) H (vcK next Q d A)):=rfl
theorem s_un (op:UnOp) (t:TypeId) (x:Operand):vcDo cx ⟨d,.unOp op t x,none⟩ next Q A H=(dOk cx.N d∧vcUn op (A.eval x) H (vcK next Q d A)):=rfl
theorem Zod (s t:TypeId) (x:Operand):vcDo cx ⟨d,.convert s t x,none⟩ next Q A H=(dOk cx.N d∧Zaq cx.P s t (A.eval x) H (vcK next Q d A)):=rfl
theorem ZiL (t:TypeId) (x:Operand):vcDo cx ⟨d,.makeInterface t x,none⟩ next Q A H=(dOk cx.N d∧YN cx.P t (A.eval x) H (vcK next Q d A)):=rfl
theorem XQ (e:TypeId):vcDo cx ⟨d,.alloc e,none⟩ next Q A H=(dOk cx.N d∧Zbr cx.P e H (vcK next Q d A)):=rfl
theorem Zax (e:TypeId) (x:Operand):vcDo cx ⟨d,.box e x,none⟩ next Q A H=(dOk cx.N d∧vcBox e (A.eval x) H (vcK next Q d A)):=rfl
theorem Zdz (t:TypeId) (ps:Array (Nat × Operand)):vcDo cx ⟨d,.build t ps,none⟩ next Q A H=(dOk cx.N d∧ZQ cx.P t (ps.toList.map fun p=>(p.1,A.eval p.2)) H (vcK next Q d A)):=rfl
theorem ZbX (t:TypeId) (n:Nat) (ps:Array (Nat × Operand)):vcDo cx ⟨d,.buildSlice t n ps,none⟩ next Q A H=(dOk cx.N d∧ZN cx.P t n (ps.toList.map fun p=>(p.1,A.eval p.2)) H (vcK next Q d A)):=rfl
theorem Wz (fn:Fn) (first cap:Array Operand):vcDo cx ⟨d,.makeFunc fn first cap,none⟩ next Q A H=(dOk cx.N d∧next (A.put d (.func fn (first.toList.map A.eval) (cap.toList.map A.eval))) H):=rfl
theorem ZiM (t:TypeId):vcDo cx ⟨d,.makeMap t none,none⟩ next Q A H=(dOk cx.N d∧ZaG cx.P t H (vcK next Q d A)):=rfl
theorem ZjP (t:TypeId) (x:Operand) (lo hi mx:Option Operand):vcDo cx ⟨d,.slice t x lo hi mx,none⟩ next Q A H=(dOk cx.N d∧YC cx.P t (A.eval x) (lo.map A.eval) (hi.map A.eval) (mx.map A.eval) H (vcK next Q d A)):=rfl
theorem Yj (s:TypeId) (x:Operand) (f:Nat):vcDo cx ⟨d,.fieldAddr s x f,none⟩ next Q A H=(dOk cx.N d∧Yt cx.P s (A.eval x) f H (vcK next Q d A)):=rfl
theorem Xv (t:TypeId) (x i:Operand):vcDo cx ⟨d,.indexAddr t x i,none⟩ next Q A H=(dOk cx.N d∧Yl cx.P t (A.eval x) (A.eval i) H (vcK next Q d A)):=rfl
theorem WG (t:TypeId) (m k:Operand) (ok:Bool):vcDo cx ⟨d,.lookup t m k ok,none⟩ next Q A H=(dOk cx.N d∧Zaj cx.P t (A.eval m) (A.eval k) ok H (vcK next Q d A)):=rfl
theorem ZcH (t:TypeId) (m k v:Operand):vcDo cx ⟨d,.mapUpdate t m k v,none⟩ next Q A H=(dOk cx.N d∧Zak cx.P t (A.eval m) (A.eval k) (A.eval v) H (vcK next Q d A)):=rfl
theorem ZbY (x:Operand) (s t:TypeId) (ok:Bool):vcDo cx ⟨d,.typeAssert x s t ok,none⟩ next Q A H=(dOk cx.N d∧Xs cx.P (A.eval x) t ok H (vcK next Q d A)):=rfl
theorem Wo (x:Operand) (i:Nat):vcDo cx ⟨d,.extract x i,none⟩ next Q A H=(dOk cx.N d∧ZP (A.eval x) i H (vcK next Q d A)):=rfl
theorem Jy (b:Builtin) (args:Array Operand) (ts:Array TypeId):vcDo cx ⟨d,.call { callee:=.builtin b,args:=args,argTypes:=ts },none⟩ next Q A H=(dOk cx.N d∧Yy cx.P b ts.toList (args.toList.map A.eval) H (vcK next Q d A)):=rfl
theorem Xk (f:Operand) (args:Array Operand) (ts:Array TypeId):vcDo cx ⟨d,.call { callee:=.value f,args:=args,argTypes:=ts },none⟩ next Q A H=(dOk cx.N d∧XX cx.P cx.ro (A.eval f) (args.toList.map A.eval) H (vcK next Q d A)):=rfl
theorem s_callI (x:Operand) (m:String) (args:Array Operand) (ts:Array TypeId):vcDo cx ⟨d,.call { callee:=.invoke x m,args:=args,argTypes:=ts },none⟩ next Q A H=(dOk cx.N d∧Zfp cx.P cx.ro (A.eval x) m (args.toList.map A.eval) H (vcK next Q d A)):=rfl
theorem Znp (x:Operand):vcDo cx ⟨d,.panic x,none⟩ next Q A H=(dOk cx.N d∧(match valOf (A.eval x) with | some (.iface t v)=>Q (.panic [{ v:=.iface t v,recovered:=false }]) A H | _=>False)):=rfl
theorem Znq (c:Call):vcDo cx ⟨d,.defer c,none⟩ next Q A H=(dOk cx.N d∧ZgG cx c d A H next):=rfl
variable {KK:VE→AH→Prop}
theorem YX (ro:Option Nat) (g:FuncId) (xs:List VV):XX P ro (.lit (.func (.func g) #[] #[])) xs H KK=(ZL P g=true∧ZU P g xs H KK):=by simp [XX]
theorem ZjQ (ro:Option Nat) (g:FuncId) (first cap:List VV) (xs:List VV):XX P ro (.func (.func g) first cap) xs H KK=(ZL P g=true∧ZU P g (first++xs++cap) H KK):=rfl
theorem Zd7 (t:TypeId) (x:VV):Yy P .len [t] [x] H KK=vcLen P t x H KK:=rfl
def Zam (P:Program) (t:TypeId) (s x:VV) (H:AH) (KK:VE→AH→Prop):Prop:=Zhx P t s x H KK∨ZfC P t s x H KK∨ZfD P t s x H KK
theorem ZhE (t t':TypeId) (s x:VV):Yy P .append [t,t'] [s,x] H KK=(if t=t' then Zam P t s x H KK else ZfE P t t' s x H KK):=rfl
theorem s_cap (t:TypeId) (x:VV):Yy P .cap [t] [x] H KK=vcCap P t x H KK:=rfl
theorem s_capL (t:TypeId) (a:Option Addr) (n c:Nat):vcCap P t (.lit (.slice a n c)) H KK=(elT P t ≠ none∧KK (.ret (intV c)) H):=rfl
theorem s_clear (t:TypeId) (x:VV):Yy P .clear [t] [x] H KK=Zdq P t x H KK:=rfl
theorem ZoZ (ts:List TypeId) (xs:List VV):Yy P .max ts xs H KK=vcMax xs H KK:=by
 match ts,xs with
 | [],_=>rfl
 | [_],[]=>rfl
 | [_],[_]=>rfl
 | [_],_::_::_=>rfl
 | [_,_],[]=>rfl
 | [_,_],[_]=>rfl
 | [_,_],[_,_]=>rfl
 | [_,_],_::_::_::_=>rfl
 | _::_::_::_,_=>rfl
theorem ZlT (ts:List TypeId) (xs:List VV):Yy P .min ts xs H KK=vcMin xs H KK:=by
 match ts,xs with
 | [],_=>rfl
 | [_],[]=>rfl
 | [_],[_]=>rfl
 | [_],_::_::_=>rfl
 | [_,_],[]=>rfl
 | [_,_],[_]=>rfl
 | [_,_],[_,_]=>rfl
 | [_,_],_::_::_::_=>rfl
 | _::_::_::_,_=>rfl
theorem JM (b:Bool):vcUn .not (.lit (.bool b)) H KK=KK (.ret (.lit (.bool (!b)))) H:=rfl
theorem XW (t:TypeId) (x y:Operand) (k:IntKind) (a b:Int):vcBin P .lss t x y (.lit (.int k a)) (.lit (.int k b)) H KK=KK (.ret (.lit (.bool (decide (a<b))))) H:=by simp [vcBin,binV]
theorem ZfK (t:TypeId) (x y:Operand) (k:IntKind) (a b:Int):vcBin P .leq t x y (.lit (.int k a)) (.lit (.int k b)) H KK=KK (.ret (.lit (.bool (decide (a≤b))))) H:=by simp [vcBin,binV]
theorem WH (t:TypeId) (x y:Operand) (k:IntKind) (a b:Int):vcBin P .gtr t x y (.lit (.int k a)) (.lit (.int k b)) H KK=KK (.ret (.lit (.bool (decide (b<a))))) H:=by simp [vcBin,binV]
theorem ZiN (t:TypeId) (x y:Operand) (k:IntKind) (a b:Int):vcBin P .geq t x y (.lit (.int k a)) (.lit (.int k b)) H KK=KK (.ret (.lit (.bool (decide (b≤a))))) H:=by simp [vcBin,binV]
theorem YK (t:TypeId) (x y:Operand) (k:IntKind) (a b:Int):vcBin P .eql t x y (.lit (.int k a)) (.lit (.int k b)) H KK=KK (.ret (.lit (.bool (decide (a=b))))) H:=by
 simp only [vcBin,binV,if_true];rw [show (a == b)=decide (a=b) from by rw [Bool.eq_iff_iff]; simp]
theorem Zab (t:TypeId) (x y:Operand) (k:IntKind) (a b:Int):vcBin P .neq t x y (.lit (.int k a)) (.lit (.int k b)) H KK=KK (.ret (.lit (.bool (!decide (a=b))))) H:=by
 simp only [vcBin,binV,if_true];rw [show (a != b)=!decide (a=b) from by rw [Bool.eq_iff_iff]; simp]
theorem ZaL (t:TypeId) (x y:Operand) (k:IntKind) (a b:Int):vcBin P .add t x y (.lit (.int k a)) (.lit (.int k b)) H KK=KK (.ret (.lit (.int k (k.wrap (a+b))))) H:=by simp [vcBin,binV]
theorem ZiO (t:TypeId) (x y:Operand) (k:IntKind) (a b:Int):vcBin P .sub t x y (.lit (.int k a)) (.lit (.int k b)) H KK=KK (.ret (.lit (.int k (k.wrap (a-b))))) H:=by simp [vcBin,binV]
end
def goable:ACode→Bool
 | .loop _=>false
 | .dreg _ _=>false
 | .rfunc _ _ _ _=>false
 | _=>true
theorem Ya {cx:Cx} {Q:APost} {A:AF} {H:AH} {a:ACode} (_:goable a=true) (hQ:Zbi Q) (h:vc cx a Q A H):ACx cx a Q A H:=Zds hQ h
section
variable {P:Program} {K:VE→AH→Prop} {H H':AH} {t:Nat→VV}
theorem YD {rs:List ResultVar} {A:AF} (hd:A.d=[]) {x:VV} (hx:resV P rs A H=some x) (h:K (.ret x) H):YP P rs K .ret A H:=⟨hd,x,H,x,hx,.refl _ _,h⟩
theorem ZM {i:Nat} (h:K (.ret (t i)) H):YP P [.tmp i] K .ret ⟨t,[]⟩ H:=⟨rfl,_,H,_,rfl,.refl _ _,h⟩
def PureF (P:Program) (f:FuncId) (xs:List VV) (x:VV):Prop:=∀ H,ZU P f xs H (fun e H'=>e=.ret x∧H'=H)
theorem PureF.use {f:FuncId} {xs:List VV} {x:VV} (h:PureF P f xs x) (k:K (.ret x) H):ZU P f xs H K:=(h H).mono fun _ _ hq=>by rw [hq.1,hq.2]; exact k
theorem PureF.forget {f:FuncId} {xs:List VV} {x:VV} (h:∀ H,ZU P f xs H (fun e H'=>e=.ret x∧SubH H H')):PureF P f xs x:=fun H S w args hs hx =>
 (h H S w args hs hx).mono fun e w' hq=>by
   cases e with
   | returned v =>
     obtain ⟨S',H',y,h1,h2,h3,h4,h5⟩:=hq;exact ⟨S',H,y,h1.trans (h2.sub h5).2,(h2.sub h5).1,h3,h4,rfl⟩
   | panicked ch=>obtain ⟨S',H',h1,h2,h4,h5⟩:=hq; cases h4
   | outgrown=>exact hq
end
end Go.PV
end
section
namespace Go.PV
section
variable {cx:Cx} {A A':AF} {H:AH} {K:VE→AH→Prop}
theorem ZaX {l:List Operand} (h:∀ x∈l,A'.eval x=A.eval x):l.map A'.eval=l.map A.eval:=List.map_congr_left h
theorem ZeB {l:List (Nat × Operand)} (h:∀ x∈l.map (·.2),A'.eval x=A.eval x):(l.map fun p=>(p.1,A'.eval p.2))=l.map fun p=>(p.1,A.eval p.2) :=
 List.map_congr_left fun p hp=>by rw [h p.2 (List.mem_map.2 ⟨p,hp,rfl⟩)]
theorem Zd8 {o:Option Operand} (h:∀ x∈o.toArray,A'.eval x=A.eval x):o.map A'.eval=o.map A.eval:=by
 cases o with
 | none=>rfl
 | some x=>simp at h; simp [h]
theorem Zd9 {op:Op} (h:∀ x∈op.operands,A'.eval x=A.eval x):vcOp cx op A' H K=vcOp cx op A H K:=by
 cases op with
 | build t ps =>
   simp only [Op.operands,List.mem_toArray] at h;simp only [vcOp,ZeB h]
 | buildSlice t n ps =>
   simp only [Op.operands,List.mem_toArray] at h;simp only [vcOp,ZeB h]
 | makeFunc fn first cap =>
   simp only [Op.operands,Array.mem_append] at h;simp only [vcOp,ZaX (A:=A) (A':=A') (l:=first.toList) (fun x hx=>h x (.inl (by simpa using hx))),ZaX (A:=A) (A':=A') (l:=cap.toList) (fun x hx=>h x (.inr (by simpa using hx)))]
 | slice t x lo hi mx =>
   simp only [Op.operands,Array.mem_append] at h;simp only [vcOp,h x (.inl (.inl (.inl (by simp)))),Zd8 (A:=A) (A':=A') (fun y hy=>h y (.inl (.inl (.inr hy)))),Zd8 (A:=A) (A':=A') (fun y hy=>h y (.inl (.inr hy))),Zd8 (A:=A) (A':=A') (fun y hy=>h y (.inr hy))]
 | makeMap t r=>cases r<;>simp only [vcOp]
 | call c =>
   obtain ⟨callee,args,ats⟩:=c;cases callee with
   | builtin b =>
     simp only [Op.operands,Call.operands] at h;simp only [vcOp,ZaX (A:=A) (A':=A') (l:=args.toList) (fun x hx=>h x (by simp; simpa using hx))]
   | value f =>
     simp only [Op.operands,Call.operands] at h;simp only [vcOp,ZaX (A:=A) (A':=A') (l:=args.toList) (fun x hx=>h x (by simp; exact .inr (by simpa using hx))),h f (by simp)]
   | invoke x m =>
     simp only [Op.operands,Call.operands] at h;simp only [vcOp,ZaX (A:=A) (A':=A') (l:=args.toList) (fun x hx=>h x (by simp; exact .inr (by simpa using hx))),h x (by simp)]
 | _ =>
   simp only [Op.operands] at h
   first
    | (simp only [vcOp]; done)
    | (simp only [vcOp]; rw [h _ (by simp)]; done)
    | (simp only [vcOp]; rw [h _ (by simp),h _ (by simp)]; done)
    | (simp only [vcOp]; rw [h _ (by simp),h _ (by simp),h _ (by simp)]; done)
    | (simp only [vcOp]; simp_all; done)
end
section
variable {cx:Cx} {A:AF} {Hh:AH} {K:VE→AH→Prop}
def Tk (cx:Cx) (op:Op) (A:AF) (Hh:AH) (x:VV):Prop:=∀ H K,SubH Hh H→K (.ret x) H→vcOp cx op A H K
theorem ZiP {P:Program} {t:TypeId} {x y:VV} (hs:scalT P t=true) (h:eqOk P t x y):∃ p q,x=.lit (.bool p)∧y=.lit (.bool q):=by
 unfold eqOk at h;unfold scalT at hs;split at h
 ·exact ⟨_,_,rfl,rfl⟩
 all_goals first | exact h.elim | (obtain ⟨e,h⟩:=h; rw [h] at hs; cases hs) | (obtain ⟨k,e,h⟩:=h; rw [h] at hs; cases hs) | (obtain ⟨a,b,c,h⟩:=h; rw [h] at hs; cases hs)
theorem ZhF {op:Op} (ht:Zic cx.P op=true) (h:vcOp cx op A Hh K):∃ x,Tk cx op A Hh x∧K (.ret x) Hh:=by
 cases op with
 | move x=>exact ⟨_,fun _ _ _ k=>k,h⟩
 | assign x=>exact ⟨_,fun _ _ _ k=>k,h⟩
 | makeFunc fn a b=>exact ⟨_,fun _ _ _ k=>k,h⟩
 | pick c a b =>
   simp only [vcOp] at h;split at h
   ·rename_i t hc;exact ⟨_,fun H K _ k=>by simp only [vcOp,hc]; exact k,h⟩
   ·exact h.elim
 | load t a =>
   simp only [vcOp,XL] at h;split at h
   ·rename_i n ag cs hl ha;split at h
    ·rename_i x hx;exact ⟨x,fun H K _ k=>by simp only [vcOp,XL,hl,ha,hx]; exact k,h⟩
    ·exact h.elim
   ·rename_i n ag r o hl ha;split at h
    ·rename_i e cs sp hb;split at h
     ·rename_i x hx;exact ⟨x,fun H K hsub k=>by simp only [vcOp,XL,hl,ha,hsub _ _ hb,hx]; exact k,h⟩
     ·exact h.elim
    ·exact h.elim
   ·exact h.elim
 | nilCheck x =>
   simp only [vcOp,vcNil] at h;split at h
   all_goals first | exact h.elim | (rename_i e; exact ⟨_,fun H K _ k=>by simp only [vcOp,vcNil,e]; exact k,h⟩)
 | unOp op t x =>
   simp only [vcOp,vcUn] at h;split at h
   ·rename_i v hv;split at h
    ·rename_i r hr;exact ⟨_,fun H K _ k=>by simp only [vcOp,vcUn,hv,hr]; exact k,h⟩
    ·exact h.elim
   ·exact h.elim
 | convert s d x =>
   simp only [vcOp,Zaq] at h;split at h
   ·rename_i k n e;obtain ⟨k',s',h1,h2,h3⟩:=h;exact ⟨_,fun H K _ k=>by simp only [vcOp,Zaq,e]; exact ⟨k',s',h1,h2,k⟩,h3⟩
   ·rename_i b e;obtain ⟨s',h1,h3⟩:=h;split at h3
    ·rename_i h2; exact ⟨_,fun H K _ k=>by simp only [vcOp,Zaq,e,h2]; exact ⟨s',h1,k⟩,h3⟩
    ·rename_i el h2; exact ⟨_,fun H K _ k=>by simp only [vcOp,Zaq,e,h2]; exact ⟨s',h1,h3.1,k⟩,h3.2⟩
    ·exact h3.elim
   ·exact h.elim
 | makeInterface t x=>exact ⟨_,fun H K _ k=>⟨h.1,k⟩,h.2⟩
 | fieldAddr s x f =>
   simp only [vcOp,Yt] at h;split at h
   all_goals first | exact h.elim | (rename_i e1 e2; exact ⟨_,fun H K _ k=>by simp only [vcOp,Yt,e1,e2]; exact ⟨h.1,k⟩,h.2⟩)
 | field s x f =>
   simp only [vcOp,Zai] at h;split at h
   all_goals first | exact h.elim | (rename_i e1 e2; split at h<;>first | exact h.elim | (rename_i y hy; exact ⟨y,fun H K _ k=>by simp only [vcOp,Zai,e1,e2,hy]; exact k,h⟩))
 | indexAddr t x i =>
   simp only [vcOp,Yl] at h;split at h
   ·rename_i e1 e2 e3; exact ⟨_,fun H K _ k=>by simp only [vcOp,Yl,e1,e2,e3]; exact ⟨h.1,k⟩,h.2⟩
   ·rename_i e1 e2 e3; exact ⟨_,fun H K _ k=>by simp only [vcOp,Yl,e1,e2,e3]; exact ⟨h.1,k⟩,h.2⟩
   ·rename_i e1 e2 e3;split at h
    ·rename_i e4; exact ⟨_,fun H K _ k=>by simp only [vcOp,Yl,e1,e2,e3,e4]; exact ⟨h.1,k⟩,h.2⟩
    ·exact h.elim
   ·rename_i e1 e2 e3;split at h
    ·rename_i e4; exact ⟨_,fun H K _ k=>by simp only [vcOp,Yl,e1,e2,e3,e4]; exact ⟨h.1,k⟩,h.2⟩
    ·exact h.elim
   ·exact h.elim
 | extract x i =>
   simp only [vcOp,ZP] at h;split at h
   all_goals first | exact h.elim | (rename_i e1; split at h<;>first | exact h.elim | (rename_i e2; exact ⟨_,fun H K _ k=>by simp only [vcOp,ZP,e1,e2]; exact k,h⟩))
 | build t ps =>
   simp only [vcOp,ZQ] at h;split at h
   all_goals first | exact h.elim | (rename_i e1; split at h<;>first | exact h.elim | (rename_i e2; exact ⟨_,fun H K _ k=>by simp only [vcOp,ZQ,e1,e2]; exact k,h⟩))
 | buildSlice t n ps =>
   simp only [vcOp,ZN] at h;split at h
   ·rename_i e1;split at h
    ·rename_i e2;obtain ⟨h1,h⟩:=h;split at h
     ·rename_i e3; exact ⟨_,fun H K _ k=>by simp only [vcOp,ZN,e1,e2,e3]; exact ⟨h1,k⟩,h⟩
     ·exact h.elim
    ·exact h.elim
   ·exact h.elim
 | index t x i =>
   simp only [vcOp,Zbs] at h;split at h
   ·rename_i e1 e2;obtain ⟨h1,h2,h⟩:=h;split at h
    ·rename_i e3; exact ⟨_,fun H K _ k=>by simp only [vcOp,Zbs,e1,e2,e3]; exact ⟨h1,h2,k⟩,h⟩
    ·exact h.elim
   ·exact h.elim
 | slice t x lo hi mx =>
   simp only [vcOp,YC] at h;split at h
   ·rename_i e1; split at h
    ·rename_i e2; exact ⟨_,fun H K _ k=>by simp only [vcOp,YC,e1,e2]; exact ⟨h.1,k⟩,h.2⟩
    ·exact h.elim
   ·rename_i e1; split at h
    ·rename_i e2; exact ⟨_,fun H K _ k=>by simp only [vcOp,YC,e1,e2]; exact ⟨h.1,k⟩,h.2⟩
    ·exact h.elim
   ·rename_i e1; split at h
    ·rename_i e2; exact ⟨_,fun H K _ k=>by simp only [vcOp,YC,e1,e2]; exact ⟨h.1,k⟩,h.2⟩
    ·exact h.elim
   ·rename_i e1; exact ⟨_,fun H K _ k=>by simp only [vcOp,YC,e1]; exact ⟨h.1,h.2.1,h.2.2.1,k⟩,h.2.2.2⟩
   ·rename_i e1; split at h
    ·rename_i e2; exact ⟨_,fun H K _ k=>by simp only [vcOp,YC,e1,e2]; exact ⟨h.1,k⟩,h.2⟩
    ·exact h.elim
   ·exact h.elim
 | binOp op t x y t' =>
   have ht:op=.eql∨op=.neq→scalT cx.P t=true:=by rintro (rfl | rfl)<;>simpa [Zic] using ht
   generalize hA:A.eval x=X at *
   generalize hB:A.eval y=Y at *
   have key:∀ Z:VV,(∀ H K,K (.ret Z) H→vcBin cx.P op t x y (A.eval x) (A.eval y) H K)→Tk cx (.binOp op t x y t') A Hh Z:=fun Z hz H K _ k=>hz H K k
   simp only [vcOp,hA,hB] at h;rw [hA,hB] at key;unfold vcBin at h key;split at h
   ·split at h
    ·rename_i r hr; exact ⟨_,key _ (fun H K k=>by simp only [hr]; exact k),h⟩
    ·exact h.elim
   ·split at h
    ·rename_i r hr; exact ⟨_,key _ (fun H K k=>by simp only [hr]; exact k),h⟩
    ·exact h.elim
   ·rename_i n1 n2;split at h
    ·split at h
     ·rename_i xs ys h1 h2;obtain ⟨b,hb,hk⟩:=h;exact ⟨_,key _ (fun H K k=>by simp only [h1,h2]; exact ⟨b,hb,k⟩),hk⟩
     ·rename_i nn;have hsc:scalT cx.P t=true:=ht (.inl rfl);obtain ⟨p,q,rfl,rfl⟩:=ZiP hsc h.1;exact ⟨boolV (p == q),key _ (fun H K k=>⟨h.1,h.2.1,fun b hb=>by cases hb; exact k⟩),h.2.2 _ rfl⟩
    ·split at h
     ·rename_i xs ys h1 h2;obtain ⟨b,hb,hk⟩:=h;exact ⟨_,key _ (fun H K k=>by simp only [h1,h2]; exact ⟨b,hb,k⟩),hk⟩
     ·rename_i nn;have hsc:scalT cx.P t=true:=ht (.inr rfl);obtain ⟨p,q,rfl,rfl⟩:=ZiP hsc h.1;exact ⟨boolV (!(p == q)),key _ (fun H K k=>⟨h.1,h.2.1,fun b hb=>by cases hb; exact k⟩),h.2.2 _ rfl⟩
    ·exact h.elim
 | call c =>
   obtain ⟨callee,args,ats⟩:=c;cases callee with
   | builtin b =>
     cases b with
     | len =>
       have key:∀ Z:VV,(∀ H K,K (.ret Z) H→Yy cx.P .len ats.toList (args.toList.map A.eval) H K)→Tk cx (.call { callee:=.builtin .len,args:=args,argTypes:=ats }) A Hh Z:=fun Z hz H K _ k=>hz H K k
       have h:Yy cx.P .len ats.toList (args.toList.map A.eval) Hh K:=h;generalize ats.toList=ts at *
       generalize args.toList.map A.eval=xs at *
       unfold Yy at h;split at h
       all_goals first | exact h.elim | (rename_i e; cases e; done) | skip
       ·rename_i t x _;unfold vcLen at h;split at h
        ·exact ⟨_,key _ fun H K k=>⟨h.1,k⟩,h.2⟩
        ·exact ⟨_,key _ fun H K k=>⟨h.1,k⟩,h.2⟩
        ·exact ⟨_,key _ fun H K k=>⟨h.1,k⟩,h.2⟩
        ·exact h.elim
     | max =>
       have key:∀ Z:VV,(∀ H K,K (.ret Z) H→vcMax (args.toList.map A.eval) H K)→Tk cx (.call { callee:=.builtin .max,args:=args,argTypes:=ats }) A Hh Z:=fun Z hz H K _ k=>by
        show Yy cx.P .max ats.toList (args.toList.map A.eval) H K;rw [ZoZ];exact hz H K k
       have h:Yy cx.P .max ats.toList (args.toList.map A.eval) Hh K:=h;rw [ZoZ] at h;generalize args.toList.map A.eval=xs at *
       unfold vcMax at h;split at h
       ·exact ⟨_,key _ fun H K k=>k,h⟩
       ·exact h.elim
     | min =>
       have key:∀ Z:VV,(∀ H K,K (.ret Z) H→vcMin (args.toList.map A.eval) H K)→Tk cx (.call { callee:=.builtin .min,args:=args,argTypes:=ats }) A Hh Z:=fun Z hz H K _ k=>by
        show Yy cx.P .min ats.toList (args.toList.map A.eval) H K;rw [ZlT];exact hz H K k
       have h:Yy cx.P .min ats.toList (args.toList.map A.eval) Hh K:=h;rw [ZlT] at h;generalize args.toList.map A.eval=xs at *
       unfold vcMin at h;split at h
       ·exact ⟨_,key _ fun H K k=>k,h⟩
       ·exact h.elim
     | _=>cases ht
   | _=>cases ht
 | _=>cases ht
end
end Go.PV
end
section
namespace Go.PV
section
variable {cx:Cx} {A:AF} {H:AH} {K K':VE→AH→Prop}
theorem ACall.mono {P:Program} {ro:Option Nat} {f:VV} {xs:List VV} (hk:∀ e H,K e H→K' e H) (h:ACall P ro f xs H K):ACall P ro f xs H K':=by
 intro S w fv args hs hf hx
 have:=h S w fv args hs hf hx
 unfold ZeZ at *
 refine ⟨this.1,?_⟩;replace this:=this.2;split
 ·rename_i g asg w' hr;simp only [hr] at this;exact CallsIn.mono this fun _ _ hq=>hq.mono hk
 ·rename_i l g ts asg body w' hr;simp only [hr] at this;exact RoundIn.mono this fun _ _ hq=>hq.mono hk
 ·rename_i n1 n2
  revert this
  split
  ·rename_i e; exact absurd e (n1 _ _ _)
  ·rename_i e; exact absurd e (n2 _ _ _ _ _ _)
  ·exact fun h=>h
theorem ZkG {P:Program} {ro:Option Nat} {f:VV} {xs:List VV} (hk:∀ e H,K e H→K' e H) (h:XX P ro f xs H K):XX P ro f xs H K':=by
 unfold XX at *
 split
 ·exact ⟨h.1,h.2.mono hk⟩
 ·exact ⟨h.1,h.2.mono hk⟩
 ·rename_i n1 n2
  revert h
  split
  ·rename_i e; exact absurd rfl (n1 _ _ _)
  ·rename_i e; exact absurd rfl (n2 _ _ _)
  ·exact fun h=>h.mono hk
theorem ZlU {P:Program} {op:BinOp} {t:TypeId} {ox oy:Operand} {x y:VV} (hk:∀ e H,K e H→K' e H) (h:vcBin P op t ox oy x y H K):vcBin P op t ox oy x y H K':=by
 unfold vcBin at *
 split at h
 ·split at h
  ·exact hk _ _ h
  ·exact h
 ·split at h
  ·exact hk _ _ h
  ·exact h
 ·split at h
  ·split at h
   ·obtain ⟨b,hb,h⟩:=h; exact ⟨b,hb,hk _ _ h⟩
   ·exact ⟨h.1,h.2.1,fun b hb=>hk _ _ (h.2.2 b hb)⟩
  ·split at h
   ·obtain ⟨b,hb,h⟩:=h; exact ⟨b,hb,hk _ _ h⟩
   ·exact ⟨h.1,h.2.1,fun b hb=>hk _ _ (h.2.2 b hb)⟩
  ·exact h
theorem Zio {P:Program} {x:VV} {t:TypeId} {ok:Bool} (hk:∀ e H,K e H→K' e H) (h:Xs P x t ok H K):Xs P x t ok H K':=by
 unfold Xs at *
 refine ⟨h.1,?_⟩;have h:=h.2;split at h
 ·split at h
  ·rename_i e; rw [if_pos e]; exact hk _ _ h
  ·rename_i e; rw [if_neg e];refine ⟨h.1,?_⟩;have h:=h.2;split at h
   ·exact hk _ _ h
   ·exact h
 ·split at h
  ·rename_i e; rw [if_pos e]; exact hk _ _ h
  ·rename_i e; rw [if_neg e];refine ⟨h.1,?_⟩;have h:=h.2;split at h
   ·exact hk _ _ h
   ·exact h
 ·refine ⟨h.1,?_⟩;have h:=h.2;split at h
  ·exact hk _ _ h
  ·exact h
 ·exact h
theorem ZfL {op:Op} (hk:∀ e H,K e H→K' e H) (h:vcOp cx op A H K):vcOp cx op A H K':=by
 by_cases ht:Zic cx.P op=true
 ·obtain ⟨x,h1,h2⟩:=ZhF ht h;exact h1 H K' (SubH.refl H) (hk _ _ h2)
 ·cases op with
  | store t a v =>
    simp only [vcOp,Jv] at *
    split at h
    ·split at h
     ·exact ⟨h.1,h.2.1,h.2.2.1,hk _ _ h.2.2.2⟩
     ·exact h
    ·exact h
  | binOp op t x y t'=>exact ZlU hk h
  | alloc e =>
    simp only [vcOp,Zbr] at *
    split at h
    ·exact fun r hr=>hk _ _ (h r hr)
    ·exact h
  | box e x=>exact fun r hr=>hk _ _ (h r hr)
  | buildSlice t n ps =>
    simp only [vcOp,ZN] at *
    split at h
    ·split at h
     ·refine ⟨h.1,?_⟩;have h:=h.2;split at h
      ·exact hk _ _ h
      ·exact h
     ·exact h
    ·exact h
  | makeSlice t l c =>
    simp only [vcOp,Zgn] at *
    split at h
    ·split at h
     ·exact ⟨h.1,h.2.1,h.2.2.1,h.2.2.2.1,h.2.2.2.2.1,fun r hr=>hk _ _ (h.2.2.2.2.2 r hr)⟩
     ·exact h
    ·exact h
  | typeAssert x s t ok=>exact Zio hk h
  | makeMap t r =>
    cases r with
    | none=>exact fun r hr=>hk _ _ (h r hr)
    | some r=>exact h
  | lookup t m k ok =>
    simp only [vcOp,Zaj] at *
    obtain ⟨z,h1,kv,h2,h3,h⟩:=h;refine ⟨z,h1,kv,h2,h3,?_⟩;split at h
    ·exact hk _ _ h
    ·split at h
     ·refine ⟨h.1,?_⟩;have h:=h.2;split at h
      ·exact hk _ _ h
      ·exact hk _ _ h
     ·exact h
    ·exact h
  | mapUpdate t m k v =>
    simp only [vcOp,Zak] at *
    obtain ⟨z,h1,kv,h2,h3,h⟩:=h;refine ⟨z,h1,kv,h2,h3,?_⟩;split at h
    ·split at h
     ·exact ⟨h.1,h.2.1,hk _ _ h.2.2⟩
     ·exact h
    ·exact h
  | insert t m k v =>
    simp only [vcOp,Zak] at *
    obtain ⟨z,h1,kv,h2,h3,h⟩:=h;refine ⟨z,h1,kv,h2,h3,?_⟩;split at h
    ·split at h
     ·exact ⟨h.1,h.2.1,hk _ _ h.2.2⟩
     ·exact h
    ·exact h
  | panic x =>
    simp only [vcOp] at *
    split at h
    ·exact hk _ _ h
    ·exact h
  | call c =>
    obtain ⟨callee,args,ats⟩:=c;cases callee with
    | builtin b =>
      simp only [vcOp] at *
      unfold Yy at *
      split at h
      ·unfold vcLen at *
       split at h
       ·exact ⟨h.1,hk _ _ h.2⟩
       ·exact ⟨h.1,hk _ _ h.2⟩
       ·exact ⟨h.1,hk _ _ h.2⟩
       ·exact h
      ·split at h
       ·rename_i ett;rw [if_pos ett];rcases h with h | h | h
        ·obtain ⟨e,k,b,zs,H0,n,cs,m,news,h1,h2,h3,h4,h5,h6,h7,h8,h9,h10⟩:=h;exact .inl ⟨e,k,b,zs,H0,n,cs,m,news,h1,h2,h3,h4,h5,h6,h7,h8,h9,fun v' H' ho=>hk _ _ (h10 v' H' ho)⟩
        ·obtain ⟨e,k,b,zs,n,cs,m,news,h1,h2,h3,h4,h5,h6,h7,h8,h9,h10,h11,h12⟩:=h;exact .inr (.inl ⟨e,k,b,zs,n,cs,m,news,h1,h2,h3,h4,h5,h6,h7,h8,h9,h10,fun hm=>hk _ _ (h11 hm),fun hm v' H' ho=>hk _ _ (h12 hm v' H' ho)⟩)
        ·obtain ⟨e,k,b,zs,n,cs,m,news,h1,h2,h3,h4,h5,h6,h7,h8,h9,h10,h11⟩:=h;exact .inr (.inr ⟨e,k,b,zs,n,cs,m,news,h1,h2,h3,h4,h5,h6,h7,h8,h9,fun hm=>hk _ _ (h10 hm),fun hm v' H' ho=>hk _ _ (h11 hm v' H' ho)⟩)
       ·rename_i ett;rw [if_neg ett];obtain ⟨e,k,b,zs,kn,kq,n,h1,h2,h3,h4,h5,h6,h7,h8,h9,h10,h11⟩:=h;exact ⟨e,k,b,zs,kn,kq,n,h1,h2,h3,h4,h5,h6,h7,h8,h9,h10,fun g c a1 a2 a3=>hk _ _ (h11 g c a1 a2 a3)⟩
      ·unfold vcCap at *
       split at h
       ·exact ⟨h.1,hk _ _ h.2⟩
       ·exact h
      ·simp only [Zgo] at *
       split at h
       ·split at h
        ·exact ⟨h.1,h.2.1,hk _ _ h.2.2⟩
        ·exact h
       ·exact h
      ·unfold Zdq at *
       split at h
       ·split at h
        ·rename_i h0; rw [if_pos h0]; exact hk _ _ h
        ·rename_i h0; rw [if_neg h0];split at h
         ·exact ⟨h.1,h.2.1,h.2.2.1,hk _ _ h.2.2.2⟩
         ·exact h
       ·exact hk _ _ h
       ·exact ⟨h.1,hk _ _ h.2⟩
       ·exact h
      ·unfold vcMax at *
       split at h
       ·exact hk _ _ h
       ·exact h
      ·unfold vcMin at *
       split at h
       ·exact hk _ _ h
       ·exact h
      ·exact h
    | value f=>exact ZkG hk h
    | invoke x m =>
      obtain ⟨g,y,h1,h2,h3⟩:=h;exact ⟨g,y,h1,h2.mono hk,h3⟩
  | _=>first | exact absurd rfl ht | exact h
end
end Go.PV
end
section
open List renaming mem_cons_of_mem→Zqe
open Nat renaming lt_or_ge→ZpJ,le_refl→Zpl
open Option renaming map_eq_some_iff→Zp9,bind_some→ZpH
namespace Go.PV
section
variable {cx:Cx} {ops:Array Oper} {Q:APost} {Hh:AH} {Hi:Nat→AH} {stop:List Nat} {full:Array Bool} {cut:Option Nat} {K:AF→AH→Prop}
def WB (ops:Array Oper) (listed:Array Bool):Prop:=∀ i o,listed.getD i false=true→ops[i]?=some o→∀ e∈o.after,Region.binds .any e=true→listed.getD e.on false=true
theorem Zf1 {listed:Array Bool} {i j:Nat} (h:listed.getD j false=true):(listed.setIfInBounds i true).getD j false=true:=by
 simp only [Array.getD_eq_getD_getElem?,Array.getElem?_setIfInBounds] at *
 split
 ·split
  ·rfl
  ·rename_i h1 h2; subst h1; rw [Array.getElem?_eq_none (by omega)] at h; cases h
 ·exact h
theorem ZbZ {listed:Array Bool} {i j:Nat} (h:(listed.setIfInBounds i true).getD j false=true):j=i∨listed.getD j false=true:=by
 by_cases e:j=i
 ·exact .inl e
 ·right;simp only [Array.getD_eq_getD_getElem?,Array.getElem?_setIfInBounds,if_neg (Ne.symm e)] at *
  exact h
theorem WB.none (n:Nat):WB ops (Array.replicate n false):=fun i o h=>by
 simp only [Array.getD_eq_getD_getElem?,Array.getElem?_replicate] at h;split at h<;>cases h
theorem WB.set {listed:Array Bool} {i:Nat} (h:WB ops listed) (hi:i∈Region.ready .any ops listed):WB ops (listed.setIfInBounds i true):=by
 intro j o hj ho e he hb;refine Zf1 ?_;rcases ZbZ hj with rfl | hj
 ·obtain ⟨_,o',ho',hall⟩:=mem_ready.1 hi;rw [ho] at ho'; cases ho';exact hall e he hb
 ·exact h j o hj ho e he hb
theorem Zdb {k j:Nat} (h:j∈preds ops k):∃ o e,ops[k]?=some o∧e∈o.after∧Region.binds .any e=true∧e.on=j:=by
 unfold preds at h;split at h
 ·rename_i o ho;obtain ⟨e,he,h2⟩:=List.mem_filterMap.1 h;split at h2
  ·rename_i hb;cases h2;exact ⟨o,e,ho,by simpa using he,hb,rfl⟩
  ·cases h2
 ·cases h
theorem ZaY {listed:Array Bool} (hc:WB ops listed):∀ (n:Nat) (rem work:List Nat),(∀ k∈work,listed.getD k false=true)→∀ x∈rem,x ∉ clo ops n rem work→listed.getD x false=true
 | 0,rem,work,_,x,hx,hn=>absurd hx hn
 | _+1,rem,[],_,x,hx,hn=>absurd hx hn
 | n+1,rem,k::work,hw,x,hx,hn=>by
   simp only [clo] at hn;split at hn
   ·by_cases e:x=k
    ·rw [e]; exact hw k (List.mem_cons_self ..)
    ·refine ZaY hc n _ _ ?_ x (List.mem_filter.2 ⟨hx,by simpa using e⟩) hn;intro j hj;rcases List.mem_append.1 hj with hj | hj
     ·obtain ⟨o,e,ho,he,hb,rfl⟩:=Zdb hj;exact hc k o (hw k (List.mem_cons_self ..)) ho e he hb
     ·exact hw j (Zqe _ hj)
   ·exact ZaY hc n _ _ (fun j hj=>hw j (Zqe _ hj)) x hx hn
def gone (cut:Option Nat) (listed:Array Bool):Prop:=∃ j,cut=some j∧listed.getD j false=true
theorem gone.set {cut:Option Nat} {listed:Array Bool} (i:Nat) (h:gone cut listed):gone cut (listed.setIfInBounds i true):=by
 obtain ⟨j,h1,h2⟩:=h;exact ⟨j,h1,Zf1 h2⟩
def AOp (cx:Cx) (ops:Array Oper) (Q:APost) (i:Nat) (next:AF→AH→Prop) (A:AF) (H:AH):Prop :=
 match ops[i]? with
 | none=>False
 | some o=>vcG cx (gopOf ops o) next Q A H
def AAny (cx:Cx) (ops:Array Oper) (Q:APost) (Hi:Nat→AH) (stop:List Nat) (full:Array Bool) (cut:Option Nat) (K:AF→AH→Prop):Nat→Array Bool→AF→AH→Prop
 | 0,listed,A,H=>rdy ops stop listed=[]∧listed=full∧K A H
 | n+1,listed,A,H=>(rdy ops stop listed=[]→listed=full∧K A H) ∧
     ∀ i∈rdy ops stop listed,AOp cx ops Q i (fun A' H'=>(gone cut (listed.setIfInBounds i true)∨∀ k∈Zcr ops i,SubH (Hi k) H→SubH (Hi k) H')∧AAny cx ops Q Hi stop full cut K n (listed.setIfInBounds i true) A' H') A H
theorem aop_wp {i:Nat} {next:AF→AH→Prop} {A:AF} {H:AH} {S S0:Nat→Prop} {H0:AH} {w w0:World} {a:Act} (hg:ops.all (gOk ops)=true) (h:AOp cx ops Q i next A H) (k:Step S0 H0 w0 S H w) (hs:Sim S H w) (hf:RvF cx.N S w A a)
 {nx:Act→World→Prop} (h1:∀ S' H' A' a' w',Step S0 H0 w0 S' H' w'→Sim S' H' w'→RvF cx.N S' w' A' a'→next A' H'→nx a' w') :
 wpOpIn (Xp cx.P cx.ro) 0 cx.P ops (LQ cx Q S0 H0 w0) i nx a w:=by
 unfold AOp at h;unfold wpOpIn;split at h
 ·exact h.elim
 ·rename_i o ho;simp only [ho]
  have hgo:gOk ops o=true:=by
   have hi:i<ops.size:=by
    rcases ZpJ i ops.size with h | h
    ·exact h
    ·rw [Array.getElem?_eq_none h] at ho; cases ho
   rw [Array.getElem?_eq_getElem hi] at ho;cases ho;exact Array.all_eq_true.1 hg i hi
  exact Zc2 hgo h k hs hf nx h1
theorem Yv {listed:Array Bool} {i:Nat} (h:i∈rdy ops stop listed):i∈Region.ready .any ops listed∧i ∉ stop:=by
 simp only [rdy,List.mem_filter,Bool.not_eq_true',List.contains_eq_mem,decide_eq_false_iff_not] at h;exact h
theorem Zea (hg:ops.all (gOk ops)=true) (ht:ZmF ops stop=true) {S0:Nat→Prop} {H0:AH} {w0:World} {m:Nat}
 (hK:∀ A H S w a,K A H→Step S0 H0 w0 S H w→Sim S H w→RvF cx.N S w A a→∀ fuel,m≤fuel→wpAnyIn (Xp cx.P cx.ro) 0 cx.P .any ops (LQ cx Q S0 H0 w0) fuel full a w) :
 ∀ (n:Nat) (listed:Array Bool) (A:AF) (H:AH) (S:Nat→Prop) (w:World) (a:Act),WB ops listed→AAny cx ops Q Hi stop full cut K n listed A H→Step S0 H0 w0 S H w→Sim S H w→RvF cx.N S w A a →
   wpAnyIn (Xp cx.P cx.ro) 0 cx.P .any ops (LQ cx Q S0 H0 w0) (n+m) listed a w
 | 0,listed,A,H,S,w,a,hc,h,k,hs,hf=>by
   obtain ⟨h1,rfl,h3⟩:=h;exact hK A H S w a h3 k hs hf _ (by omega)
 | n+1,listed,A,H,S,w,a,hc,h,k,hs,hf=>by
   by_cases hr:rdy ops stop listed=[]
   ·obtain ⟨rfl,h3⟩:=h.1 hr;exact hK A H S w a h3 k hs hf _ (by omega)
   ·obtain ⟨i0,hi0⟩:=List.exists_mem_of_ne_nil _ hr;have hi0':=Yv hi0;rw [show n+1+m=(n+m)+1 from by omega];refine ⟨fun e=>(by rw [e] at hi0'; cases hi0'.1),fun i hi=>?_⟩
    have hns:i ∉ stop:=by
     intro his;have hall:=List.all_eq_true.1 ht i his;obtain ⟨hun0,o0,ho0,_⟩:=mem_ready.1 hi0'.1
     have hk0:i0<ops.size:=by
      rcases ZpJ i0 ops.size with h | h
      ·exact h
      ·rw [Array.getElem?_eq_none h] at ho0; cases ho0
     obtain ⟨hun,o,ho,hafter⟩:=mem_ready.1 hi;by_cases hin:i0∈clo ops (ops.size * 20+20) (List.range ops.size) (preds ops i)
     ·have h2:=List.all_eq_true.1 hall i0 hin;exact hi0'.2 (by simpa using h2)
     ·have h5:=ZaY hc _ _ _ (fun j hj=>by
       obtain ⟨o',e,ho',he,hb,rfl⟩:=Zdb hj;rw [ho] at ho'; cases ho';exact hafter e he hb) i0 (List.mem_range.2 hk0) hin
      rcases ZpJ i0 listed.size with h' | h'
      ·simp [h'] at hun0 h5; rw [hun0] at h5; cases h5
      ·simp [Array.getElem?_eq_none h'] at h5
    have hir:i∈rdy ops stop listed:=by
     simp only [rdy,List.mem_filter,Bool.not_eq_true',List.contains_eq_mem,decide_eq_false_iff_not];exact ⟨hi,hns⟩
    exact aop_wp hg (h.2 i hir) k hs hf fun S' H' A' a' w' g1 g2 g3 g4=>Zea hg ht hK n _ A' H' S' w' a' (hc.set hi) g4.2 g1 g2 g3
theorem ZcI (hg:ops.all (gOk ops)=true) {S0:Nat→Prop} {H0:AH} {w0:World}:∀ (n:Nat) (listed:Array Bool) (q:List Nat) (A:AF) (H:AH) (S:Nat→Prop) (w:World) (a:Act),planS ops n listed=some q →
 vcL cx (q.filterMap (gAt ops)) Q A H→Step S0 H0 w0 S H w→Sim S H w→RvF cx.N S w A a→∀ fuel,n≤fuel→wpAnyIn (Xp cx.P cx.ro) 0 cx.P .any ops (LQ cx Q S0 H0 w0) fuel listed a w
 | 0,listed,q,A,H,S,w,a,hp,h,k,hs,hf,fuel,_=>by
   simp only [planS] at hp;split at hp
   ·rename_i hr;cases hp;exact wpAnyIn_done (by simpa using hr) ⟨by simp,S,H,A,k,hs,hf,h⟩ fuel
   ·cases hp
 | n+1,listed,q,A,H,S,w,a,hp,h,k,hs,hf,fuel,hle=>by
   simp only [planS] at hp;split at hp
   ·rename_i i hr;simp only [Zp9] at hp;obtain ⟨p,hp,rfl⟩:=hp;obtain ⟨fuel,rfl⟩:∃ f,fuel=f+1:=⟨fuel-1,by omega⟩
    have hm:i∈Region.ready .any ops listed:=by rw [hr]; simp
    obtain ⟨_,o,ho,_⟩:=mem_ready.1 hm;have hga:gAt ops i=some (gopOf ops o):=by simp [gAt,ho]
    rw [List.filterMap_cons,hga] at h;refine wpAnyIn_all hr (by simp) fun j hj=>?_
    obtain rfl:j=i:=by simpa using hj
    refine aop_wp (cx:=cx) (Q:=Q) (A:=A) (H:=H) (next:=vcL cx (p.filterMap (gAt ops)) Q) hg ?_ k hs hf fun S' H' A' a' w' g1 g2 g3 g4=>ZcI hg n _ p A' H' S' w' a' hp g4 g1 g2 g3 fuel (by omega)
    simp only [AOp,ho];exact h
   ·cases hp
end
section
variable {S:Nat→Prop} {H:AH} {w:World} {N:Nat} {A:AF} {a:Act}
theorem Sim.drawn (h:Sim S H w) (d:Nat):Sim S H { w with drawn:=d }:=⟨fun r b hb=>RvB.mono (S:=S) (w:=w) (S':=S) (w':={ w with drawn:=d }) (fun _ h=>⟨h,rfl⟩) rfl (h.blk r b hb),h.dis,h.lt⟩
theorem Step.drawn (S:Nat→Prop) (H:AH) (w:World) (d:Nat):Step S H w S H { w with drawn:=d }:=⟨rfl,rfl,rfl,Zpl _,fun _ h=>h,fun _ _ _=>rfl,fun _ h=>.inl h,fun _ h=>.inl h⟩
end
section
variable {cx:Cx} {ops:Array Oper} {Q:APost} {Hh:AH} {Hi:Nat→AH} {stop:List Nat} {full:Array Bool} {cut:Option Nat} {K:AF→AH→Prop}
def TkG (cx:Cx) (o:GOp) (A:AF) (Hh:AH) (x:VV):Prop :=
 dOk cx.N o.dst∧(∀ c,o.op ≠ .defer c) ∧
 match o.g with
 | none=>Tk cx o.op A Hh x
 | some (d,want)=>(∃ b,A.t d=.lit (.bool b)∧if b=want then Tk cx o.op A Hh x else (Yb cx.P o.op A∧x=ZJ))∨∃ vs,A.t d=.lit (.tuple vs)∧Yb cx.P o.op A∧x=ZJ
theorem Zan {o:GOp} {A:AF} {H:AH} {next:AF→AH→Prop} (hn:∀ c,o.op ≠ .defer c):vcDo cx o next Q A H=(dOk cx.N o.dst∧vcOp cx o.op A H (vcK next Q o.dst A)):=by
 unfold vcDo;cases h:o.op<;>first | rfl | exact absurd h (hn _)
theorem TkG.use {o:GOp} {A:AF} {H:AH} {x:VV} {next:AF→AH→Prop} (h:TkG cx o A Hh x) (hs:SubH Hh H) (k:next (A.put o.dst x) H):vcG cx o next Q A H:=by
 obtain ⟨h1,h2,h3⟩:=h;unfold vcG;split
 ·rename_i e;simp only [e] at h3;rw [Zan h2];exact ⟨h1,h3 H _ hs k⟩
 ·rename_i d want e;simp only [e] at h3;rcases h3 with ⟨b,hb,h3⟩ | ⟨vs,hb,h3,rfl⟩
  ·simp only [hb];split at h3
   ·rename_i hbw;rw [if_pos hbw,Zan h2];exact ⟨h1,h3 H _ hs k⟩
   ·rename_i hbw;rw [if_neg hbw];obtain ⟨h3,rfl⟩:=h3;exact ⟨h1,h3,k⟩
  ·simp only [hb];exact ⟨h1,h3,k⟩
theorem Znr {op:Op} {A:AF} {x:VV} (hp:Zgp op=true) (h:Tk cx op A Hh x) (H:AH):Tk cx op A H x:=by
 have h1:=h Hh (fun e _=>e=.ret x) (SubH.refl _) rfl;intro H' K _ k;cases op with
 | move y=>simp only [vcOp] at h1 ⊢; cases h1; exact k
 | assign y=>simp only [vcOp] at h1 ⊢; cases h1; exact k
 | nilCheck y =>
   simp only [vcOp,vcNil] at h1 ⊢;split at h1
   all_goals first | (cases h1; exact k) | exact h1.elim | (rename_i e; rw [e]; cases h1; exact k)
 | fieldAddr s y f =>
   simp only [vcOp,Yt] at h1 ⊢;split at h1
   all_goals first | (obtain ⟨h0,h1⟩:=h1; cases h1; exact ⟨h0,k⟩) | exact h1.elim | (rename_i e1 e2; rw [e1,e2]; obtain ⟨h0,h1⟩:=h1; cases h1; exact ⟨h0,k⟩)
 | _=>cases hp
theorem TkG.pure {o:GOp} {A:AF} {x:VV} (hp:Zgp o.op=true) (h:TkG cx o A Hh x) (H:AH):TkG cx o A H x:=by
 obtain ⟨h1,h2,h3⟩:=h;refine ⟨h1,h2,?_⟩;split
 ·rename_i e;simp only [e] at h3;exact Znr hp h3 H
 ·rename_i d want e;simp only [e] at h3;rcases h3 with ⟨b,hb,h3⟩ | h3
  ·refine .inl ⟨b,hb,?_⟩;split
   ·rename_i hbw; rw [if_pos hbw] at h3; exact Znr hp h3 H
   ·rename_i hbw; rw [if_neg hbw] at h3; exact h3
  ·exact .inr h3
theorem TkG.of {o:GOp} {A:AF} {next:AF→AH→Prop} (ht:Zic cx.P o.op=true) (h:vcG cx o next (fun _ _ _=>False) A Hh):∃ x,TkG cx o A Hh x∧next (A.put o.dst x) Hh:=by
 have hn:∀ c,o.op ≠ .defer c:=fun c e=>by rw [e] at ht; cases ht
 unfold vcG at h;split at h
 ·rename_i e;rw [Zan hn] at h;obtain ⟨x,h1,h2⟩:=ZhF ht h.2;exact ⟨x,⟨h.1,hn,by simp only [e]; exact h1⟩,h2⟩
 ·rename_i d want e;split at h
  ·rename_i b hb;split at h
   ·rename_i hbw;rw [Zan hn] at h;obtain ⟨x,h1,h2⟩:=ZhF ht h.2;exact ⟨x,⟨h.1,hn,by simp only [e]; exact .inl ⟨b,hb,by rw [if_pos hbw]; exact h1⟩⟩,h2⟩
   ·rename_i hbw;exact ⟨ZJ,⟨h.1,hn,by simp only [e]; exact .inl ⟨b,hb,by rw [if_neg hbw]; exact ⟨h.2.1,trivial⟩⟩⟩,h.2.2⟩
  ·rename_i vs hb;exact ⟨ZJ,⟨h.1,hn,by simp only [e]; exact .inr ⟨vs,hb,h.2.1,trivial⟩⟩,h.2.2⟩
  ·exact h.elim
def AF.same (ts:List Tmp) (A A':AF):Prop:=∀ d∈ts,A'.t d=A.t d
theorem Jc {o:Oper} {A A':AF} (h:AF.same (o.looksAt ops) A A'):∀ x∈o.op.operands,A'.eval x=A.eval x:=by
 intro x hx;cases x with
 | tmp d=>exact h d (List.mem_append_left _ (List.mem_filterMap.2 ⟨.tmp d,by simpa using hx,rfl⟩))
 | _=>rfl
theorem Zca {o:Oper} {A A':AF} (h:AF.same (o.looksAt ops) A A') {d:Tmp} {want:Bool} (he:(gopOf ops o).g=some (d,want)):A'.t d=A.t d:=by
 refine h d (List.mem_append_right _ ?_);simp only [gopOf] at he;cases hg:o.guard with
 | none=>simp [hg] at he
 | some p =>
   obtain ⟨j,w'⟩:=p;simp only [hg,ZpH,Zp9,Prod.mk.injEq] at he;obtain ⟨d',hj,rfl,rfl⟩:=he;simp [hj]
theorem WR {P:Program} {op:Op} {A A':AF} (h:∀ x∈op.operands,A'.eval x=A.eval x):Yb P op A'=Yb P op A:=by
 cases op with
 | call c =>
   obtain ⟨callee,args,ats⟩:=c;cases callee with
   | builtin b=>rfl
   | value f=>simp only [Yb,h f (by simp [Op.operands,Call.operands])]
   | invoke x m=>simp only [Yb,h x (by simp [Op.operands,Call.operands])]
 | _=>rfl
theorem TkG.same {o:Oper} {A A':AF} {x:VV} (hs:AF.same (o.looksAt ops) A A') (h:TkG cx (gopOf ops o) A Hh x):TkG cx (gopOf ops o) A' Hh x:=by
 obtain ⟨h1,h2,h3⟩:=h;refine ⟨h1,h2,?_⟩
 have htk:∀ x,Tk cx o.op A Hh x→Tk cx o.op A' Hh x:=fun x hx H K hsub k=>by
  rw [Zd9 (Jc hs)];exact hx H K hsub k
 split
 ·rename_i e;simp only [e] at h3;exact htk _ h3
 ·rename_i d want e;simp only [e] at h3;rcases h3 with ⟨b,hb,h3⟩ | ⟨vs,hb,h3⟩
  ·refine .inl ⟨b,by rw [Zca hs e]; exact hb,?_⟩;split at h3
   ·rename_i hbw; rw [if_pos hbw]; exact htk _ h3
   ·rename_i hbw; rw [if_neg hbw]; exact ⟨by have:=h3.1; rwa [show (gopOf ops o).op=o.op from rfl,← WR (Jc hs)] at this,h3.2⟩
  ·exact .inr ⟨vs,by rw [Zca hs e]; exact hb,by have:=h3.1; rwa [show (gopOf ops o).op=o.op from rfl,← WR (Jc hs)] at this,h3.2⟩
theorem put_t_ne {A:AF} {dst:Option Tmp} {x:VV} {d:Tmp} (h:∀ e,dst=some e→e ≠ d):(A.put dst x).t d=A.t d:=by
 cases dst with
 | none=>rfl
 | some e=>exact upd_ne _ _ (Ne.symm (h e rfl))
theorem ZbN {A:AF} {dst:Option Tmp} {x:VV} {ts:List Tmp} (h:∀ e,dst=some e→e ∉ ts):AF.same ts A (A.put dst x):=fun d hd=>put_t_ne fun e he hed=>h e he (hed ▸ hd)
theorem ZbO {A:AF} {d e:Option Tmp} {x y:VV} (h:∀ i,d=some i→e ≠ some i):(A.put d x).put e y=(A.put e y).put d x:=by
 cases d with
 | none=>rfl
 | some i =>
   cases e with
   | none=>rfl
   | some j =>
     have hij:i ≠ j:=fun he=>h i rfl (by rw [he])
     simp only [AF.put]
     congr 1
     funext k
     simp only [upd];by_cases h1:k=i<;>by_cases h2:k=j<;>simp_all
def panQ (Q:APost):Prop:=∀ c A A' H,A'.d=A.d→Q (.panic c) A H→Q (.panic c) A' H
theorem put_d {A:AF} {d:Option Tmp} {x:VV}:(A.put d x).d=A.d:=by cases d<;>rfl
theorem vcG_put {oi oj:Oper} {x:VV} {A:AF} {H:AH} {next:AF→AH→Prop} (hQ:panQ Q) (hap:oi.apart ops oj=true) (hnd:∀ c,oj.op ≠ .defer c) (h:vcG cx (gopOf ops oj) next Q (A.put oi.dst x) H) :
 vcG cx (gopOf ops oj) (fun A' H'=>(∃ u,A'=A.put oj.dst u)∧next (A'.put oi.dst x) H') Q A H:=by
 obtain ⟨h1,h2,h3⟩:=Oper.apart_spec hap;have hsame:AF.same (oj.looksAt ops) A (A.put oi.dst x):=ZbN h1
 have hdo:vcDo cx (gopOf ops oj) next Q (A.put oi.dst x) H→vcDo cx (gopOf ops oj) (fun A' H'=>(∃ u,A'=A.put oj.dst u)∧next (A'.put oi.dst x) H') Q A H:=by
  rw [Zan (o:=gopOf ops oj) hnd,Zan (o:=gopOf ops oj) hnd];rintro ⟨g1,g2⟩;refine ⟨g1,?_⟩
  change vcOp cx oj.op _ _ _ at g2
  rw [Zd9 (Jc hsame)] at g2;refine ZfL ?_ g2;intro e H' hk;cases e with
  | ret u =>
    refine ⟨⟨u,rfl⟩,?_⟩;have hk:next ((A.put oi.dst x).put oj.dst u) H':=hk;rw [ZbO h2] at hk;exact hk
  | pan ch=>exact hQ ch _ _ H' put_d.symm hk
 unfold vcG at *
 split
 ·rename_i e;simp only [e] at h;exact hdo h
 ·rename_i d want e;simp only [e] at h;rw [Zca hsame e] at h;split
  ·rename_i b hb;simp only [hb] at h;split at h
   ·rename_i hbw; rw [if_pos hbw]; exact hdo h
   ·rename_i hbw; rw [if_neg hbw];refine ⟨h.1,by have:=h.2.1; rwa [show (gopOf ops oj).op=oj.op from rfl,WR (Jc hsame)] at this,⟨ZJ,rfl⟩,?_⟩;have hk:=h.2.2
    change next ((A.put oi.dst x).put oj.dst ZJ) H at hk
    rw [ZbO h2] at hk;exact hk
  ·rename_i vs hb;simp only [hb] at h;refine ⟨h.1,by have:=h.2.1; rwa [show (gopOf ops oj).op=oj.op from rfl,WR (Jc hsame)] at this,⟨ZJ,rfl⟩,?_⟩;have hk:=h.2.2
   change next ((A.put oi.dst x).put oj.dst ZJ) H at hk
   rw [ZbO h2] at hk;exact hk
  ·rename_i hb hb2
   revert h
   split
   ·rename_i b hb'; exact absurd hb' (hb b)
   ·rename_i vs hb'; exact absurd hb' (hb2 vs)
   ·exact fun h=>h
theorem WZ {o:GOp} {A:AF} {H:AH} {next next':AF→AH→Prop} (hnd:∀ c,o.op ≠ .defer c) (hk:∀ A H,next A H→next' A H) (h:vcG cx o next Q A H):vcG cx o next' Q A H:=by
 have hdo:vcDo cx o next Q A H→vcDo cx o next' Q A H:=by
  rw [Zan hnd,Zan hnd];rintro ⟨g1,g2⟩;refine ⟨g1,ZfL ?_ g2⟩;intro e H' hq;cases e with
  | ret u=>exact hk _ _ hq
  | pan ch=>exact hq
 unfold vcG at *
 split
 ·rename_i e;simp only [e] at h;exact hdo h
 ·rename_i d want e;simp only [e] at h;split
  ·rename_i b hb;simp only [hb] at h;split at h
   ·rename_i hbw; rw [if_pos hbw]; exact hdo h
   ·rename_i hbw; rw [if_neg hbw]; exact ⟨h.1,h.2.1,hk _ _ h.2.2⟩
  ·rename_i vs hb;simp only [hb] at h;exact ⟨h.1,h.2.1,hk _ _ h.2.2⟩
  ·rename_i hb hb2
   revert h
   split
   ·rename_i b hb'; exact absurd hb' (hb b)
   ·rename_i vs hb'; exact absurd hb' (hb2 vs)
   ·exact fun h=>h
end
end Go.PV
end
section
open Bool renaming and_eq_true→ZpM
open List renaming length_cons→Zpx
open Nat renaming lt_or_ge→ZpJ
open Option renaming map_eq_some_iff→Zp9
namespace Go.PV
section
variable {cx:Cx} {ops:Array Oper} {Q:APost} {Hh:AH} {Hi:Nat→AH} {stop:List Nat} {full:Array Bool} {cut:Option Nat} {K:AF→AH→Prop}
theorem Ze3 {listed:Array Bool} {i j:Nat} (h:j∈rdy ops stop listed) (hne:j ≠ i):j∈rdy ops stop (listed.setIfInBounds i true):=by
 have h':=Yv h;simp only [rdy,List.mem_filter,Bool.not_eq_true',List.contains_eq_mem,decide_eq_false_iff_not];exact ⟨ready_mono h'.1 hne,h'.2⟩
theorem Zcj {listed:Array Bool} {i j:Nat} (hcl:WB ops listed) (hj:j∈Region.ready .any ops listed) (hi:i<ops.size) (hun:listed.getD i true=false):i∈Zcr ops j:=by
 obtain ⟨_,oj,hoj,hall⟩:=mem_ready.1 hj;by_cases hin:i∈Zcr ops j
 ·exact hin
 ·exfalso
  have h5:=ZaY hcl _ _ _ (fun k hk=>by
   obtain ⟨o',e,ho',he,hb,rfl⟩:=Zdb hk;rw [hoj] at ho'; cases ho';exact hall e he hb) i (List.mem_range.2 hi) hin
  rcases ZpJ i listed.size with h' | h'
  ·simp [h'] at hun h5; rw [hun] at h5; cases h5
  ·simp [Array.getElem?_eq_none h'] at h5
theorem Zle {listed:Array Bool} {i j:Nat} (hcl:WB ops listed) (hj:j∈Region.ready .any ops listed) (hi:i∈Region.ready .any ops listed):i∈Zcr ops j:=by
 obtain ⟨hun,oi,hoi,_⟩:=mem_ready.1 hi
 have hlt:i<ops.size:=by
  rcases ZpJ i ops.size with h | h
  ·exact h
  ·rw [Array.getElem?_eq_none h] at hoi; cases hoi
 exact Zcj hcl hj hlt hun
theorem ZgS {i:Nat} {oi:Oper} {x:VV} (hci:cut ≠ some i) (hcut:∀ j,cut=some j→Zgp oi.op=true∨∀ listed,WB ops listed→listed.getD j false=true→listed.getD i false=true) (hnd:∀ (j:Nat) (o:Oper) c,ops[j]?=some o→o.op ≠ .defer c) (hQ:panQ Q) (hi:ops[i]?=some oi) :
 ∀ (n:Nat) (listed:Array Bool) (A:AF) (H:AH),WB ops listed →
   (∀ j oj,ops[j]?=some oj→j ≠ i→listed.getD j true=false→(∀ e∈oj.after,Region.binds .any e=true→e.on ≠ i)→oi.apart ops oj=true) →
   i∈rdy ops stop listed→TkG cx (gopOf ops oi) A (Hi i) x→(gone cut listed∨SubH (Hi i) H)→AAny cx ops Q Hi stop full cut K n (listed.setIfInBounds i true) (A.put oi.dst x) H→AAny cx ops Q Hi stop full cut K (n+1) listed A H
 | n,listed,A,H,hcl,hfree,hr,ht,hsub,hh=>by
   refine ⟨fun e=>(by rw [e] at hr; cases hr),fun j hj=>?_⟩;by_cases hji:j=i
   ·subst hji;simp only [AOp,hi];rcases hsub with hg | hsub
    ·have hg':=hg.set j;obtain ⟨c,hc,hl⟩:=hg;rcases hcut c hc with hp | hp
     ·exact (ht.pure hp H).use (SubH.refl _) ⟨.inl hg',hh⟩
     ·exfalso
      have h1:=hp listed hcl hl;have h0:=(mem_ready.1 (Yv hr).1).1;rcases ZpJ j listed.size with h' | h'
      ·simp [h'] at h0 h1; rw [h0] at h1; cases h1
      ·simp [Array.getElem?_eq_none h'] at h1
    ·exact ht.use hsub ⟨.inr fun _ _ h=>h,hh⟩
   ·have hj':=Ze3 (i:=i) hj hji;cases n with
    | zero=>rw [hh.1] at hj'; cases hj'
    | succ n =>
      have h1:=hh.2 j hj';obtain ⟨hjun,oj,hoj,hall⟩:=mem_ready.1 (Yv hj).1
      have hnot:∀ e∈oj.after,Region.binds .any e=true→e.on ≠ i:=fun e he hb heq=>by
       have h1:=hall e he hb;have h0:=(mem_ready.1 (Yv hr).1).1;rw [heq] at h1;rcases ZpJ i listed.size with h' | h'
       ·simp [h'] at h0 h1; rw [h0] at h1; cases h1
       ·simp [Array.getElem?_eq_none h'] at h1
      have hap:=hfree j oj hoj hji hjun hnot;simp only [AOp,hoj] at h1 ⊢;refine WZ (o:=gopOf ops oj) (fun c=>hnd j oj c hoj) ?_ (vcG_put (oi:=oi) hQ hap (fun c=>hnd j oj c hoj) h1);rintro A' H' ⟨⟨u,rfl⟩,g1,g2⟩
      have g1:gone cut (listed.setIfInBounds j true)∨∀ k∈Zcr ops j,SubH (Hi k) H→SubH (Hi k) H':=by
       rcases g1 with ⟨c,hc,hl⟩ | g1
       ·left;rw [Array.setIfInBounds_comm _ _ (Ne.symm hji)] at hl;rcases ZbZ hl with rfl | hl
        ·exact absurd hc hci
        ·exact ⟨c,hc,hl⟩
       ·exact .inr g1
      have g3:gone cut (listed.setIfInBounds j true)∨SubH (Hi i) H':=by
       rcases g1 with g1 | g1
       ·exact .inl g1
       ·rcases hsub with hg | hsub
        ·exact .inl (hg.set j)
        ·exact .inr (g1 i (Zle hcl (Yv hj).1 (Yv hr).1) hsub)
      refine ⟨g1,ZgS hci hcut hnd hQ hi n _ _ H' (hcl.set (Yv hj).1) ?_ (Ze3 hr (Ne.symm hji)) (ht.same (ZbN (Oper.apart_spec hap).2.2)) g3 ?_⟩
      ·intro k ok hk hki hun hno;refine hfree k ok hk hki ?_ hno;by_cases hjk:j=k
       ·subst hjk; exact hjun
       ·rw [getD_set_ne true hjk] at hun; exact hun
      ·rw [Array.setIfInBounds_comm _ _ hji];exact g2
def vcPl (cx:Cx) (Hh:AH):GPlan→(AF→AH→Prop)→APost→AF→AH→Prop
 | .fin,K,_=>K
 | .tk _ o p,K,Q=>fun A H=>vcG cx o (fun A' _=>vcPl cx Hh p K Q A' H) (fun _ _ _=>False) A Hh
 | .one _ o p,K,Q=>vcG cx o (fun A' H'=>SubH Hh H'∧vcPl cx Hh p K Q A' H') Q
 | .cut o p,K,Q=>vcG cx o (fun A' H'=>vcPl cx Hh p K Q A' H') Q
 | .two _ o p _ o' p',K,Q=>fun A H=>vcG cx o (fun A' H'=>SubH Hh H'∧vcPl cx Hh p K Q A' H') Q A H∧vcG cx o' (fun A' H'=>SubH Hh H'∧vcPl cx Hh p' K Q A' H') Q A H
def vcPl2 (cx:Cx) (Hi:Nat→AH):GPlan→(AF→AH→Prop)→APost→AF→AH→Prop
 | .fin,K,_=>K
 | .tk i o p,K,Q=>fun A H=>vcG cx o (fun A' _=>vcPl2 cx Hi p K Q A' H) (fun _ _ _=>False) A (Hi i)
 | .one nd o p,K,Q=>fun A H=>vcG cx o (fun A' H'=>(∀ k∈nd,SubH (Hi k) H→SubH (Hi k) H')∧vcPl2 cx Hi p K Q A' H') Q A H
 | .cut o p,K,Q=>vcG cx o (fun A' H'=>vcPl2 cx Hi p K Q A' H') Q
 | .two nd o p nd' o' p',K,Q=>fun A H=>vcG cx o (fun A' H'=>(∀ k∈nd,SubH (Hi k) H→SubH (Hi k) H')∧vcPl2 cx Hi p K Q A' H') Q A H∧vcG cx o' (fun A' H'=>(∀ k∈nd',SubH (Hi k) H→SubH (Hi k) H')∧vcPl2 cx Hi p' K Q A' H') Q A H
theorem ZbD {cx:Cx} {Q:APost} {o:GOp} {A:AF} {H:AH} {next next':AF→AH→Prop} (hk:∀ A H,next A H→next' A H) (h:vcG cx o next Q A H):vcG cx o next' Q A H:=by
 by_cases hnd:∀ c,o.op ≠ .defer c
 ·exact WZ hnd hk h
 ·have hex:∃ c,o.op=.defer c:=by
   rcases Classical.em (∃ c,o.op=.defer c) with h | h
   ·exact h
   ·exact absurd (fun c hc=>h ⟨c,hc⟩) hnd
  obtain ⟨c,hc⟩:=hex;obtain ⟨dst,op,g⟩:=o;dsimp only at hc;subst hc
  have hdo:vcDo cx ⟨dst,.defer c,g⟩ next Q A H→vcDo cx ⟨dst,.defer c,g⟩ next' Q A H:=by
   rintro ⟨h1,h2,h3⟩;refine ⟨h1,h2,?_⟩;split
   ·rename_i f hf;rw [hf] at h3;dsimp only at h3;split
    ·rename_i e1 e2;rw [e1,e2] at h3;exact hk _ _ h3
    ·rename_i hn;split at h3
     ·rename_i e1 e2; exact absurd e2 (hn _ _ _ _ e1)
     ·exact h3
   ·rename_i hn;split at h3
    ·rename_i f hf; exact absurd hf (hn f)
    ·exact h3
  unfold vcG at *
  dsimp only at *
  split at h
  ·exact hdo h
  ·split at h
   ·split at h
    ·rename_i e2; rw [if_pos e2]; exact hdo h
    ·rename_i e2; rw [if_neg e2]; exact ⟨h.1,h.2.1,hk _ _ h.2.2⟩
   ·exact ⟨h.1,h.2.1,hk _ _ h.2.2⟩
   ·exact h.elim
theorem Zba {cx:Cx} {Hh:AH} {K:AF→AH→Prop} {Q:APost}:∀ (p:GPlan) (A:AF) (H:AH),vcPl cx Hh p K Q A H→vcPl2 cx (fun _=>Hh) p K Q A H
 | .fin,A,H,h=>h
 | .tk i o p,A,H,h=>ZbD (fun A' _ h=>Zba p A' H h) h
 | .one nd o p,A,H,h=>ZbD (next:=fun A' H'=>SubH Hh H'∧vcPl cx Hh p K Q A' H') (fun A' H' h=>⟨fun _ _ _=>h.1,Zba p A' H' h.2⟩) h
 | .cut o p,A,H,h=>ZbD (next:=fun A' H'=>vcPl cx Hh p K Q A' H') (fun A' H' h=>Zba p A' H' h) h
 | .two nd o p nd' o' p',A,H,h=>⟨ZbD (next:=fun A' H'=>SubH Hh H'∧vcPl cx Hh p K Q A' H') (fun A' H' h=>⟨fun _ _ _=>h.1,Zba p A' H' h.2⟩) h.1,ZbD (next:=fun A' H'=>SubH Hh H'∧vcPl cx Hh p' K Q A' H') (fun A' H' h=>⟨fun _ _ _=>h.1,Zba p' A' H' h.2⟩) h.2⟩
theorem Zao {i:Nat} {o:GOp} (h:gAt ops i=some o):∃ oi,ops[i]?=some oi∧o=gopOf ops oi:=by
 simp only [gAt,Zp9] at h;obtain ⟨oi,h1,rfl⟩:=h;exact ⟨oi,h1,rfl⟩
def cutOk (ops:Array Oper) (stop:List Nat) (cut:Option Nat):Prop:=∀ i oi,ops[i]?=some oi→i ∉ stop→cut ≠ some i→∀ j,cut=some j→Zgp oi.op=true∨∀ listed,WB ops listed→listed.getD j false=true→listed.getD i false=true
theorem Zlf (ops:Array Oper) (tail:List Nat):cutOk ops tail (cutOf ops tail):=by
 intro i oi hi hs hne j hj;unfold cutOf at hj;split at hj
 ·split at hj
  ·rename_i j' _ hall;cases hj
   have hlt:i<ops.size:=by
    rcases ZpJ i ops.size with h | h
    ·exact h
    ·rw [Array.getElem?_eq_none h] at hi; cases hi
   by_cases hin:i∈clo ops (ops.size * 20+20) (List.range ops.size) (preds ops j)
   ·have h2:=List.all_eq_true.1 hall i hin;simp only [hi,Bool.or_eq_true,beq_iff_eq,List.contains_eq_mem,decide_eq_true_eq] at h2;rcases h2 with (h2 | h2) | h2
    ·subst h2
     exfalso
     apply hne
     unfold cutOf
     simp_all
    ·exact absurd h2 hs
    ·exact .inl h2
   ·right;intro listed hcl hl;by_cases hjo:∃ oj,ops[j]?=some oj
    ·obtain ⟨oj,hoj⟩:=hjo
     exact ZaY hcl _ _ _ (fun k hk=>by
      obtain ⟨o',e,ho',he,hb,rfl⟩:=Zdb hk;exact hcl j o' hl ho' e he hb) i (List.mem_range.2 hlt) hin
    ·exfalso
     have:preds ops j=[]:=by
      unfold preds;split
      ·rename_i o ho; exact absurd ⟨o,ho⟩ hjo
      ·rfl
     rw [this] at hin
     apply hin
     cases h:ops.size * 20+20 with
     | zero=>omega
     | succ m=>simp only [clo]; exact List.mem_range.2 hlt
  ·cases hj
 ·cases hj
theorem rdy_lt {i:Nat} {oi:Oper} (hi:ops[i]?=some oi):i<ops.size:=by
 rcases ZpJ i ops.size with h | h
 ·exact h
 ·rw [Array.getElem?_eq_none h] at hi; cases hi
theorem Wd {listed:Array Bool} {i k:Nat} (h:(listed.setIfInBounds i true).getD k true=false):listed.getD k true=false:=by
 simp only [Array.getD_eq_getD_getElem?] at h ⊢;rw [Array.getElem?_setIfInBounds] at h;split at h
 ·split at h
  ·cases h
  ·cases h
 ·exact h
theorem Jq (hcut:cutOk ops stop cut) (hnd:∀ (j:Nat) (o:Oper) c,ops[j]?=some o→o.op ≠ .defer c) (hQ:panQ Q):∀ (n:Nat) (listed:Array Bool) (g:GPlan) (A:AF) (H:AH),planT cx.P ops stop full cut n listed=some g→WB ops listed→vcPl2 cx Hi g K Q A H→(gone cut listed∨∀ k,k<ops.size→listed.getD k true=false→SubH (Hi k) H) →
 AAny cx ops Q Hi stop full cut K n listed A H
 | 0,listed,g,A,H,hp,hcl,h,hsub=>by
   simp only [planT] at hp;split at hp
   ·rename_i e;cases hp;simp only [ZpM,beq_iff_eq,List.isEmpty_iff] at e;exact ⟨e.2,e.1,h⟩
   ·cases hp
 | n+1,listed,g,A,H,hp,hcl,h,hsub=>by
   simp only [planT] at hp;split at hp
   ·rename_i e;cases hp;simp only [ZpM,beq_iff_eq,List.isEmpty_iff] at e;exact ⟨fun _=>⟨e.1,h⟩,fun i hi=>by rw [e.2] at hi; cases hi⟩
   ·split at hp
    ·rename_i i hfind;have hir:=List.mem_of_find?_eq_some hfind;have hik0:=List.find?_some hfind;simp only [ZpM,bne_iff_ne,ne_eq] at hik0;obtain ⟨hik,hci⟩:=hik0;split at hp
     ·rename_i o p ho hp';cases hp;obtain ⟨oi,hi,rfl⟩:=Zao ho;simp only [isTk,hi,ZpM] at hik;obtain ⟨x,h1,h2⟩:=TkG.of (o:=gopOf ops oi) hik.1 h;exact ZgS hci (hcut i oi hi (Yv hir).2 hci) hnd hQ hi n listed A H hcl (Region.free_spec hi hik.2) hir h1 (hsub.imp id fun h=>h i (rdy_lt hi) (mem_ready.1 (Yv hir).1).1) (Jq hcut hnd hQ n _ p _ H hp' (hcl.set (Yv hir).1) h2 (hsub.imp (fun h=>h.set i) (fun h k hk hu=>h k hk (Wd hu))))
     ·cases hp
    ·split at hp
     ·rename_i i hrd;split at hp
      ·rename_i o p ho hp';cases hp;obtain ⟨oi,hi,rfl⟩:=Zao ho;refine ⟨fun e=>(by rw [hrd] at e; cases e),fun j hj=>?_⟩;have hjr:=hj;rw [hrd] at hj;obtain rfl:j=i:=by simpa using hj
       simp only [AOp,hi];split at h
       ·rename_i hcj
        have hg:gone cut (listed.setIfInBounds j true):=by
         refine ⟨j,by simpa using hcj,?_⟩;have h0:=(mem_ready.1 (Yv hjr).1).1;rcases ZpJ j listed.size with h' | h'
         ·simp [Array.getD_eq_getD_getElem?,h']
         ·simp [Array.getElem?_eq_none h'] at h0
        exact WZ (o:=gopOf ops oi) (fun c=>hnd j oi c hi) (fun A' H' hk=>⟨.inl hg,Jq hcut hnd hQ n _ p A' H' hp' (hcl.set (Yv hjr).1) hk (.inl hg)⟩) h
       ·exact WZ (o:=gopOf ops oi) (fun c=>hnd j oi c hi) (fun A' H' hk=>⟨.inr hk.1,Jq hcut hnd hQ n _ p A' H' hp' (hcl.set (Yv hjr).1) hk.2 (hsub.imp (fun h=>h.set j) fun h k hks hu=>hk.1 k (Zcj hcl (Yv hjr).1 hks (Wd hu)) (h k hks (Wd hu)))⟩) h
      ·cases hp
     ·rename_i i j hrd;split at hp
      ·rename_i o p o' p' ho hp' ho' hp'';cases hp;obtain ⟨oi,hi,rfl⟩:=Zao ho;obtain ⟨oj,hj,rfl⟩:=Zao ho';refine ⟨fun e=>(by rw [hrd] at e; cases e),fun k hk=>?_⟩;have hkr:=hk;rw [hrd] at hk;have hk:k=i∨k=j:=by simpa using hk
       rcases hk with rfl | rfl
       ·simp only [AOp,hi];exact WZ (o:=gopOf ops oi) (fun c=>hnd k oi c hi) (fun A' H' hk=>⟨.inr hk.1,Jq hcut hnd hQ n _ p A' H' hp' (hcl.set (Yv hkr).1) hk.2 (hsub.imp (fun h=>h.set k) fun h q hqs hu=>hk.1 q (Zcj hcl (Yv hkr).1 hqs (Wd hu)) (h q hqs (Wd hu)))⟩) h.1
       ·simp only [AOp,hj];exact WZ (o:=gopOf ops oj) (fun c=>hnd k oj c hj) (fun A' H' hk=>⟨.inr hk.1,Jq hcut hnd hQ n _ p' A' H' hp'' (hcl.set (Yv hkr).1) hk.2 (hsub.imp (fun h=>h.set k) fun h q hqs hu=>hk.1 q (Zcj hcl (Yv hkr).1 hqs (Wd hu)) (h q hqs (Wd hu)))⟩) h.2
      ·cases hp
     ·cases hp
theorem ZfM {p:GPlan} {tail:List GOp} {A:AF} {H:AH} (hm:cx.P.follows .mixedOrders=true) (hQ:panQ Q) (Hi:Nat→AH) (hsub:∀ k,SubH (Hi k) H) (h:vcPl2 cx Hi p (vcL cx tail Q) Q A H):ACx cx (.dreg p tail) Q A H:=by
 intro c hc;cases c with
 | region id ops draw =>
   unfold ZS at hc;split at hc
   ·rename_i hd;subst hd;unfold YY at hc;dsimp only at hc;split at hc
    ·rename_i hcond;simp only [ZpM] at hcond;obtain ⟨⟨⟨hg,_⟩,hnd⟩,htail⟩:=hcond;split at hc
     ·rename_i p' q hp hq;cases hc
      have hnd':∀ (j:Nat) (o:Oper) c,ops[j]?=some o→o.op ≠ .defer c:=fun j o c hj hd=>by
       have hjs:j<ops.size:=by
        rcases ZpJ j ops.size with h | h
        ·exact h
        ·rw [Array.getElem?_eq_none h] at hj; cases hj
       rw [Array.getElem?_eq_getElem hjs] at hj;cases hj
       have:=Array.all_eq_true.1 hnd j hjs
       rw [hd] at this;cases this
      have hany:=Jq (cx:=cx) (K:=vcL cx (q.filterMap (gAt ops)) Q) (Zlf ops _) hnd' hQ _ _ p A H hp (WB.none _) h (.inr fun k _ _=>hsub k);intro S w a hs hf;refine wpIn_region_any hm ?_;have hs':=hs.drawn (w.drawn+1);have hk:=Step.drawn S H w (w.drawn+1);have hf':=hf.step hs hk
      have:=Zea (cx:=cx) (Q:=Q) (Hi:=Hi) (m:=(Zid ops ops.size).length) (S0:=S) (H0:=H) (w0:=w) hg htail
       (fun A H S w a hk h1 h2 h3 fuel hfu=>ZcI hg _ _ q A H S w a hq hk h1 h2 h3 fuel hfu) _ _ A H S _ a (WB.none _) hany hk hs' hf'
      have hlen:(Zid ops ops.size).length≤ops.size:=by
       have hg:∀ n listed,(Zcq ops n listed).length≤n:=by
        intro n
        induction n with
        | zero=>simp [Zcq]
        | succ n ih =>
          intro listed;simp only [Zcq];split
          ·simp
          ·have:=ih (listed.setIfInBounds ‹_› true)
           simp only [Zpx]; omega
       have ht:∀ (order:List Nat) n,(Zdr ops order n).length≤order.length:=by
        intro order n
        induction n with
        | zero=>simp [Zdr]
        | succ n ih =>
          simp only [Zdr];split
          ·split
           ·simp
           ·exact ih
          ·simp
       exact Nat.le_trans (ht _ _) (hg _ _)
      rwa [Nat.sub_add_cancel hlen] at this
     ·cases hc
    ·cases hc
   ·split at hc<;>cases hc
 | seq x y=>simp only [ZS] at hc; split at hc<;>cases hc
 | _=>simp [ZS] at hc
theorem ZR {p:GPlan} {tail:List GOp} {A:AF} {H:AH} (hm:cx.P.follows .mixedOrders=true) (hQ:panQ Q) (Hh:AH) (hsub:SubH Hh H) (h:vcPl cx Hh p (vcL cx tail Q) Q A H):ACx cx (.dreg p tail) Q A H :=
 ZfM hm hQ (fun _=>Hh) (fun _=>hsub) (Zba p A H h)
end
section
variable {cx:Cx} {Q:APost} {A:AF} {H Hh:AH} {K:AF→AH→Prop}
theorem Wv:vcPl cx Hh .fin K Q A H=K A H:=rfl
def plK (cx:Cx) (Hh:AH) (p:GPlan) (K:AF→AH→Prop) (Q:APost) (H:AH):AF→AH→Prop:=fun A' _=>vcPl cx Hh p K Q A' H
def oneK (cx:Cx) (Hh:AH) (p:GPlan) (K:AF→AH→Prop) (Q:APost):AF→AH→Prop:=fun A' H'=>SubH Hh H'∧vcPl cx Hh p K Q A' H'
def cutK (cx:Cx) (Hh:AH) (p:GPlan) (K:AF→AH→Prop) (Q:APost):AF→AH→Prop:=fun A' H'=>vcPl cx Hh p K Q A' H'
theorem ZmP (p:GPlan) (A':AF) (H':AH):cutK cx Hh p K Q A' H'=vcPl cx Hh p K Q A' H':=rfl
def noQ:APost:=fun _ _ _=>False
theorem Zay (p:GPlan) (A':AF) (H':AH):plK cx Hh p K Q H A' H'=vcPl cx Hh p K Q A' H:=rfl
theorem Zcu (p:GPlan) (A':AF) (H':AH):oneK cx Hh p K Q A' H'=(SubH Hh H'∧vcPl cx Hh p K Q A' H'):=rfl
def ZaM (x:VV) (want:Bool) (cx:Cx) (d:Option Tmp) (op:Op) (Q:APost) (A:AF) (H H':AH) (k:AF→AH→Prop):Prop :=
 match x with
 | .lit (.bool t)=>(if t=want then vcDo cx ⟨d,op,none⟩ k Q A H else (dOk cx.N d∧Yb cx.P op A∧k (A.put d ZJ) H'))
 | .lit (.tuple _)=>dOk cx.N d∧Yb cx.P op A∧k (A.put d ZJ) H'
 | _=>False
theorem XR (i:Nat) (d:Option Tmp) (op:Op) (p:GPlan):vcPl cx Hh (.tk i ⟨d,op,none⟩ p) K Q A H=vcDo cx ⟨d,op,none⟩ (plK cx Hh p K Q H) noQ A Hh:=rfl
theorem s_vcG (d:Option Tmp) (op:Op) (g:Tmp) (want:Bool) (next:AF→AH→Prop):vcG cx ⟨d,op,some (g,want)⟩ next Q A H=ZaM (A.t g) want cx d op Q A H H next:=by
 unfold ZaM;simp only [vcG];cases h:A.t g with
 | lit v=>cases v<;>rfl
 | _=>rfl
theorem Zns (i:Nat) (d:Option Tmp) (op:Op) (g:Tmp) (want:Bool) (p:GPlan):vcPl cx Hh (.tk i ⟨d,op,some (g,want)⟩ p) K Q A H=ZaM (A.t g) want cx d op noQ A Hh H (plK cx Hh p K Q H):=by
 simp only [vcPl];rw [s_vcG];unfold ZaM;cases h:A.t g with
 | lit v=>cases v<;>rfl
 | _=>rfl
theorem Jl (nd:List Nat) (d:Option Tmp) (op:Op) (p:GPlan):vcPl cx Hh (.one nd ⟨d,op,none⟩ p) K Q A H=vcDo cx ⟨d,op,none⟩ (oneK cx Hh p K Q) Q A H:=rfl
theorem s_plCutN (d:Option Tmp) (op:Op) (p:GPlan):vcPl cx Hh (.cut ⟨d,op,none⟩ p) K Q A H=vcDo cx ⟨d,op,none⟩ (cutK cx Hh p K Q) Q A H:=rfl
theorem Zlg (d:Option Tmp) (op:Op) (g:Tmp) (want:Bool) (p:GPlan):vcPl cx Hh (.cut ⟨d,op,some (g,want)⟩ p) K Q A H=ZaM (A.t g) want cx d op Q A H H (cutK cx Hh p K Q):=by
 simp only [vcPl];rw [s_vcG];rfl
theorem ZhG (nd:List Nat) (d:Option Tmp) (op:Op) (g:Tmp) (want:Bool) (p:GPlan):vcPl cx Hh (.one nd ⟨d,op,some (g,want)⟩ p) K Q A H=ZaM (A.t g) want cx d op Q A H H (oneK cx Hh p K Q):=by
 simp only [vcPl];rw [s_vcG];rfl
theorem Znt (nd nd':List Nat) (o o':GOp) (p p':GPlan):vcPl cx Hh (.two nd o p nd' o' p') K Q A H=(vcPl cx Hh (.one nd o p) K Q A H∧vcPl cx Hh (.one nd' o' p') K Q A H):=rfl
section
variable {d:Option Tmp} {op:Op} {H':AH} {k:AF→AH→Prop}
theorem Zgz {c:Prop} {dc:Decidable c} (h:c→vcDo cx ⟨d,op,none⟩ k Q A H) (g:¬ c→dOk cx.N d∧Yb cx.P op A∧k (A.put d ZJ) H'):ZaM (.lit (.bool (decide c))) true cx d op Q A H H' k:=by
 by_cases hc:c
 ·rw [decide_eq_true hc]; exact h hc
 ·rw [decide_eq_false hc]; exact g hc
theorem ZgA {c:Prop} {dc:Decidable c} (h:¬ c→vcDo cx ⟨d,op,none⟩ k Q A H) (g:c→dOk cx.N d∧Yb cx.P op A∧k (A.put d ZJ) H'):ZaM (.lit (.bool (decide c))) false cx d op Q A H H' k:=by
 by_cases hc:c
 ·rw [decide_eq_true hc]; exact g hc
 ·rw [decide_eq_false hc]; exact h hc
theorem ZgT:ZaM (.lit (.bool true)) true cx d op Q A H H' k=vcDo cx ⟨d,op,none⟩ k Q A H:=rfl
theorem ZlV:ZaM (.lit (.bool true)) false cx d op Q A H H' k=(dOk cx.N d∧Yb cx.P op A∧k (A.put d ZJ) H'):=rfl
theorem ZgU:ZaM (.lit (.bool false)) true cx d op Q A H H' k=(dOk cx.N d∧Yb cx.P op A∧k (A.put d ZJ) H'):=rfl
theorem ZlW:ZaM (.lit (.bool false)) false cx d op Q A H H' k=vcDo cx ⟨d,op,none⟩ k Q A H:=rfl
end
end
end Go.PV
end
section
open List renaming eq_nil_of_length_eq_zero→ZpY
namespace Go.PV
def ZlX (P:Program) (l:Nat) (R:Ending→World→Prop):Exit→Act→World→Prop
 | .normal,_,w=>∃ v w',(Instr.endRound l none).run P w=.ok v w'∧R (.returned v) w'
 | .ret,_,w=>∃ v w',(Instr.endRound l (some .ret)).run P w=.ok v w'∧R (.returned v) w'
 | .exit id,_,w=>∃ v w',(Instr.endRound l (some (.exit id))).run P w=.ok v w'∧R (.returned v) w'
 | .panic ch,a,w=>a.defers=[]∧R (.panicked ch) w
 | _,_,_=>False
theorem ZkH {F:Fence} {n:Nat} {P:Program} {l:Nat} {f:FuncId} {tmps:Array Value} {assign body:Code} {w:World} {R:Ending→World→Prop} (hF:F.fn f) {fn:Func} (hfn:P.funcs[f]?=some fn)
 (h:assign.wpIn (F.inRound l) n P (Exit.then (fun a₁ w₁=>∃ w₂,(Instr.beginRound l).run P w₁=.ok () w₂∧body.wpIn (F.inRound l) n P (ZlX P l R) a₁ w₂) (fun _ _ _=>False))
   { tmps:=tmps,defers:=[] } w) :
 RoundIn F n P l f tmps assign body w R:=by
 refine ⟨hF,fun c cs hr=>?_⟩
 let b:Frame:={ (default:Frame) with fn:=f,kind:=.normal,roundOf:=some l }
 have hb0:Frame.round l f tmps assign body .normal=b.atR { tmps:=tmps,defers:=[] } [.code assign,.beginRound,.code body]:=by
  simp [Frame.round,Frame.atR,b]
 have hr':(F.inRound l).room ((c::cs).length+1+n):=hr;have hF':(F.inRound l).fn b.fn:=hF;obtain ⟨e,a₁,w₁,hq,harr⟩:=h b [.beginRound,.code body] (c::cs) rfl hF' hr';rw [← hb0] at harr;cases e with
 | normal =>
   obtain ⟨w₂,hbr,hbody⟩:=hq
   have s1:StepsIn (Machine.fenced P (F.inRound l)) P (lone (b.atR a₁ [.beginRound,.code body]) (c::cs) w₁) (lone (b.atR a₁ [.code body]) (c::cs) w₂) :=
    .one (fenced_calm (fr:=b.atR a₁ [.beginRound,.code body]) hF' hr' rfl) (stepR_beginRound rfl hbr)
   obtain ⟨e₂,a₂,w₃,hq₂,harr₂⟩:=hbody b [] (c::cs) rfl hF' hr';cases e₂ with
   | normal =>
     obtain ⟨v,w₄,hend,hR⟩:=hq₂;exact ⟨.returned v,w₄,hR,(StepsIn.trans harr s1).trans (StepsIn.trans harr₂ (.one (fenced_calm (fr:=b.atR a₂ []) hF' hr' rfl) (stepR_round_end rfl rfl hend)))⟩
   | ret =>
     obtain ⟨v,w₄,hend,hR⟩:=hq₂;obtain ⟨k₁,hs⟩:=harr₂.2 rfl;exact ⟨.returned v,w₄,hR,(StepsIn.trans harr s1).trans (StepsIn.trans hs (.one (fenced_calm (fr:=b.atR a₂ (.code .ret::k₁)) hF' hr' rfl) (stepR_round_ret rfl rfl hend)))⟩
   | exit id =>
     obtain ⟨v,w₄,hend,hR⟩:=hq₂;obtain ⟨k₁,hk,hs⟩:=harr₂.2 rfl rfl;exact ⟨.returned v,w₄,hR,(StepsIn.trans harr s1).trans (StepsIn.trans hs (.one (fenced_calm (fr:=b.atR a₂ (.code (.exit id)::k₁)) hF' hr' rfl) (stepR_round_exit rfl rfl hk hend)))⟩
   | goto t=>exact hq₂.elim
   | panic chain =>
     obtain ⟨hd,hR⟩:=hq₂;obtain ⟨todo,hs⟩:=harr₂;have hleave:Frame.leaving P { b.atR a₂ todo with mode:=.panicking chain } w₃ (.panicked chain):=⟨rfl,hd,fn,hfn⟩
     have hl:(lone { b.atR a₂ todo with mode:=.panicking chain } (c::cs) w₃).fenced P (F.inRound l):=fenced_leaving hF' hr' hleave;exact ⟨.panicked chain,w₃,hR,(StepsIn.trans harr s1).trans (StepsIn.trans hs (.one hl (step_leave_panicked hleave)))⟩
   | outgrown=>exact hq₂.elim
 | exit id=>exact hq.elim
 | goto t=>exact hq.elim
 | ret=>exact hq.elim
 | panic chain=>exact hq.elim
 | outgrown=>exact hq.elim
def Zat:List Tmp→List VV→(Nat→VV)→(Nat→VV)
 | p::ps,x::xs,t=>Zat ps xs (upd t p x)
 | _,_,t=>t
theorem Zf2 {S:Nat→Prop} {w:World} {N:Nat}:∀ {ps:List Tmp} {xs:List VV} {us:List Value} {t:Nat→VV} {ts:Array Value},RvL S w xs us→xs.length=ps.length→(∀ p∈ps,p<N)→ts.size=N→RvT S w t ts →
 RvT S w (Zat ps xs t) ((ps.zip us).foldl (fun t (p,v)=>t.setIfInBounds p v) ts)∧((ps.zip us).foldl (fun (t:Array Value) (p,v)=>t.setIfInBounds p v) ts).size=N
 | [],xs,us,t,ts,hx,hl,hp,hn,ht=>by
   have:xs=[]:=ZpY (by simpa using hl)
   subst this;simp [RvL] at hx; subst hx;exact ⟨ht,hn⟩
 | p::ps,[],us,t,ts,hx,hl,hp,hn,ht=>by simp at hl
 | p::ps,x::xs,us,t,ts,hx,hl,hp,hn,ht=>by
   obtain ⟨u,us',rfl,h1,h2⟩:=hx;simp only [List.zip_cons_cons,List.foldl_cons,Zat];exact Zf2 h2 (by simpa using hl) (fun q hq=>hp q (by simp [hq])) (by simpa using hn) (RvT.put ht (by rw [hn]; exact hp p (by simp)) h1)
def ZmQ (l:Nat) (fn:FuncId) (N:Nat) (t:Nat→VV) (ps:Array Tmp) (asg bd:Code) (ds:Nat) (K:VE→AH→Prop):APost
 | .normal=>fun _ H=>(∃ pe,H l=some (.loop .busy pe fn N t ps asg bd ds))∧K (.ret (boolV true)) (H.set l (.loop .ready none fn N t ps asg bd ds))
 | .ret=>fun _ H=>(∃ pe,H l=some (.loop .busy pe fn N t ps asg bd ds))∧K (.ret (boolV false)) (H.set l (.loop .done (some .ret) fn N t ps asg bd ds))
 | .exit id=>fun _ H=>(∃ pe,H l=some (.loop .busy pe fn N t ps asg bd ds))∧K (.ret (boolV false)) (H.set l (.loop .done (some (.exit id)) fn N t ps asg bd ds))
 | .panic ch=>fun A H=>A.d=[]∧K (.pan ch) H
 | _=>fun _ _=>False
theorem Zad {P:Program} {ro:Option Nat} {l:Nat} {xs:List VV} {H:AH} {K:VE→AH→Prop} {pe:Option Code} {fn:FuncId} {N:Nat} {t:Nat→VV} {ps:Array Tmp} {asg bd:Code} {ds:Nat}
 (hl:H l=some (.loop .ready pe fn N t ps asg bd ds)) (hlen:xs.length=ps.size) (hps:∀ p∈ps.toList,p<N) (hfn:(P.funcs[fn]?).isSome=true)
 (h:AC ⟨P,N,some l⟩ asg (thenA (fun A1 H1=>(∃ pe,H1 l=some (.loop .ready pe fn N t ps asg bd ds))∧∀ pe,AC ⟨P,N,some l⟩ bd (ZmQ l fn N t ps asg bd ds K) A1 (H1.set l (.loop .busy pe fn N t ps asg bd ds))) (fun _ _ _=>False)) ⟨Zat ps.toList xs t,[]⟩ H) :
 ACall P ro (.lit (.func (.yield l) #[] #[])) xs H K:=by
 intro S w f args hs hf hx;obtain rfl:f=.func (.yield l) #[] #[]:=hf;obtain ⟨fn',hfn'⟩:=Option.isSome_iff_exists.1 hfn;obtain ⟨ts,ht1,ht2,ht3⟩:=hs.blk l _ hl;have hargs:args.size=ps.size:=by rw [← hlen]; simpa using hx.length
 refine ⟨fun d w' hd f' hle=>?_,?_⟩
 ·simp only [Deferred.ofValue,Sem.run_pure,Result.ok.injEq] at hd;obtain ⟨rfl,rfl⟩:=hd;simp [Target.leads] at hle
 have hy:=run_yield (P:=P) (args:=args) ht1 hargs
 have hr:(do let d ← Deferred.ofValue (.func (.yield l) #[] #[]) args; invoke d.target d.args:Sem Next).run P w=(Instr.yield l args).run P w:=by
  simp only [Deferred.ofValue,invoke,Sem.run_bind,Sem.run_pure,Result.andThen_ok,Array.empty_append]
 rw [hr,hy];dsimp only;refine ZkH (show (P.funcs[fn]?).isSome=true from hfn) hfn' ?_
 have hz:(ps.zip args).foldl (fun (t:Array Value) (p,v)=>t.setIfInBounds p v) ts=(ps.toList.zip args.toList).foldl (fun t (p,v)=>t.setIfInBounds p v) ts:=by
  rw [← Array.foldl_toList,Array.toList_zip]
 obtain ⟨g1,g2⟩:=Zf2 (N:=N) (S:=S) (w:=w) hx (by simpa using hlen) hps ht2 ht3;rw [← hz] at g1 g2;refine wpIn_mono (h S w { tmps:=(ps.zip args).foldl (fun (t:Array Value) (p,v)=>t.setIfInBounds p v) ts,defers:=[] } hs ⟨g2,rfl,g1⟩) ?_;rintro e a1 w1 ⟨h0,S1,H1,A1,k1,k2,k3,k4⟩;cases e with
 | normal =>
   obtain ⟨⟨pe1,hl1⟩,hbody⟩:=k4;obtain ⟨ts1,q1,q2,q3⟩:=k2.blk l _ hl1;refine ⟨_,run_beginRound q1 rfl,?_⟩
   have hw:=k2.write (c:=.loop .busy pe1 fn N t ps asg bd ds) (o:=.loop { state:=.busy,pending:=pe1,fn,tmps:=ts1,params:=ps,assign:=asg,body:=bd,defers:=ds }) hl1
    ⟨ts1,by rw [Array.getElem?_setIfInBounds_self_of_lt (k2.lt_of hl1)],q2,fun i=>RvT.step q3 k2 (k2.write (c:=.obj (.loop { state:=.busy,pending:=pe1,fn,tmps:=ts1,params:=ps,assign:=asg,body:=bd,defers:=ds })) hl1 (by simp [RvB,k2.lt_of hl1])).2 i⟩
   refine wpIn_mono (hbody pe1 S1 _ a1 hw.1 (k3.step k2 hw.2)) ?_;rintro e a2 w2 ⟨h0',S2,H2,A2,m1,m2,m3,m4⟩
   have fin:∀ (jump:Option Code),(∃ pe,H2 l=some (.loop .busy pe fn N t ps asg bd ds))→K (.ret (boolV jump.isNone)) (H2.set l (.loop (if jump.isNone then .ready else .done) jump fn N t ps asg bd ds)) →
    ∃ v w',(Instr.endRound l jump).run P w2=.ok v w'∧RQ K S H w (.returned v) w':=by
    rintro jump ⟨pe2,hl2⟩ hk;obtain ⟨ts2,r1,r2,r3⟩:=m2.blk l _ hl2
    have hw2:=m2.write (c:=.loop (if jump.isNone then .ready else .done) jump fn N t ps asg bd ds) (o:=.loop { state:=if jump.isNone then .ready else .done,pending:=jump,fn,tmps:=ts2,params:=ps,assign:=asg,body:=bd,defers:=ds }) hl2
     ⟨ts2,by rw [Array.getElem?_setIfInBounds_self_of_lt (m2.lt_of hl2)],r2,fun i=>RvT.step r3 m2 (m2.write (c:=.obj (.loop { state:=if jump.isNone then .ready else .done,pending:=jump,fn,tmps:=ts2,params:=ps,assign:=asg,body:=bd,defers:=ds })) hl2 (by simp [RvB,m2.lt_of hl2])).2 i⟩
    exact ⟨_,_,run_endRound jump r1,S2,_,boolV jump.isNone,((k1.trans hw.2).trans m1).trans hw2.2,hw2.1,rfl,hk⟩
   cases e with
   | normal=>exact fin none m4.1 m4.2
   | ret=>exact fin (some .ret) m4.1 m4.2
   | exit id=>exact fin (some (.exit id)) m4.1 m4.2
   | panic ch=>exact ⟨m3.2.1.trans m4.1,S2,H2,(k1.trans hw.2).trans m1,m2,m4.2⟩
   | goto t=>exact m4.elim
   | outgrown=>exact absurd rfl h0'
 | _=>first | exact k4.elim | exact absurd rfl h0
end Go.PV
end
section
namespace Go.PV
def FunV (x:VV) (g:FuncId) (first cap:List VV):Prop :=
 x=.func (.func g) first cap∨∃ a b:Array Value,x=.lit (.func (.func g) a b)∧first=a.toList.map .lit∧cap=b.toList.map .lit
theorem FunV.real {x:VV} {g:FuncId} {first cap:List VV} (h:FunV x g first cap) {S:Nat→Prop} {w:World} {u:Value} (hx:Rv S w x u):∃ a b,u=.func (.func g) a b∧RvL S w first a.toList∧RvL S w cap b.toList:=by
 rcases h with rfl | ⟨a,b,rfl,rfl,rfl⟩
 ·obtain ⟨a,b,rfl,h1,h2⟩:=hx;exact ⟨a,b,rfl,h1,h2⟩
 ·obtain rfl:=hx;exact ⟨a,b,rfl,RvL.lits _,RvL.lits _⟩
def WS (r:Nat):Deferred:={ target:=.collected r,args:=#[] }
def rfPost (Q:APost) (A:AF) (r l:Nat) (fn:FuncId) (N:Nat) (ps:Array Tmp) (asg bd:Code):VE→AH→Prop
 | .ret _,H=>∃ st jump,H l=some (.loop st jump fn N A.t ps asg bd r)∧st ≠ .busy ∧
    (match jump with
     | none=>Q .normal { A with d:=WS r::A.d } (H.del l)
     | some .ret=>Q .ret { A with d:=WS r::A.d } (H.del l)
     | some (.exit id)=>Q (.exit id) { A with d:=WS r::A.d } (H.del l)
     | _=>False)
 | .pan ch,H=>Q (.panic ch) { A with d:=WS r::A.d } H
theorem ZbE {cx:Cx} {Q:APost} {A:AF} {H:AH} {g:Operand} {ps:Array Tmp} {asg bd:ACode} (hro:cx.ro=none) {gf:FuncId} {first cap:List VV} (hg:FunV (A.eval g) gf first cap) (he:ZL cx.P gf=true)
 (h:∀ r l fn ca cb,ZS cx.P ca=asg→ZS cx.P cb=bd→H r=none→H l=none→l ≠ r→(cx.P.funcs[fn]?).isSome=true →
   ZU cx.P gf (first++[.lit (.func (.yield l) #[] #[])]++cap) ((H.set r (.obj (.deferred (some [])))).set l (.loop .ready none fn cx.N A.t ps ca cb r)) (rfPost Q A r l fn cx.N ps ca cb)) :
 ACx cx (.rfunc g ps asg bd) Q A H:=by
 intro c hc;cases c with
 | rangeFunc g' ps' ca cb =>
   simp only [ZS,ACode.rfunc.injEq] at hc;obtain ⟨rfl,rfl,hca,hcb⟩:=hc;intro S w a hs hf;refine wpIn_rangeFunc ?_;intro fn hfn;have hroF:(Xp cx.P cx.ro).round=none:=hro;rw [hroF];obtain ⟨x,y,hu,hx1,hx2⟩:=hg.real (hf.eval g');have p1:=hs.push (o:=.deferred (some [])) (b:=.obj (.deferred (some []))) (by simp [RvB])
   have p2:=p1.1.push (o:=.loop { state:=.ready,pending:=none,fn,tmps:=a.tmps,params:=ps',assign:=ca,body:=cb,defers:=w.heap.size })
    (b:=.loop .ready none fn cx.N A.t ps' ca cb w.heap.size) ⟨a.tmps,Array.getElem?_push_size,hf.1,by
      have q:=p1.1.push (o:=.loop { state:=.ready,pending:=none,fn,tmps:=a.tmps,params:=ps',assign:=ca,body:=cb,defers:=w.heap.size }) (b:=.obj (.loop { state:=.ready,pending:=none,fn,tmps:=a.tmps,params:=ps',assign:=ca,body:=cb,defers:=w.heap.size })) Array.getElem?_push_size;exact (hf.2.2.step hs p1.2.1).step p1.1 q.2.1⟩
   have hsz:(w.heap.push (.deferred (some []))).size=w.heap.size+1:=by simp
   have hn0:H w.heap.size=none:=p1.2.2
   have hn1:H (w.heap.size+1)=none:=by
    have:=p2.2.2
    simp only [hsz] at this
    rwa [AH.set_ne _ _ (by omega)] at this
   have hk:=p1.2.1.trans p2.2.1;have hc1:=h w.heap.size (w.heap.size+1) fn ca cb hca hcb hn0 hn1 (by omega) hfn;have hsim:=p2.1;simp only [hsz] at hsim hk;refine ⟨w.heap.size+1,[WS w.heap.size],_,{ target:=.fn (.func gf) y,args:=x++#[.func (.yield (w.heap.size+1)) #[] #[]] },((w.alloc (.deferred (some []))).alloc (.loop { state:=.ready,pending:=none,fn,tmps:=a.tmps,params:=ps',assign:=ca,body:=cb,defers:=w.heap.size })),gf,(x++#[.func (.yield (w.heap.size+1)) #[] #[]])++y,((w.alloc (.deferred (some []))).alloc (.loop { state:=.ready,pending:=none,fn,tmps:=a.tmps,params:=ps',assign:=ca,body:=cb,defers:=w.heap.size })),run_enterLoop_outer _ _ _ _ _,?_,?_,?_,fun h=>(by cases h),?_⟩
   ·have hmap:(#[Operand.const (Value.func (Fn.yield (w.heap.size+1)) #[] #[])].map a.eval)=#[Value.func (Fn.yield (w.heap.size+1)) #[] #[]]:=by simp [Act.eval]
    simp only [resolve,hu,Deferred.ofValue,Sem.run_pure,hmap]
   ·intro f' hf';simp only [Target.leads,Option.some.injEq] at hf';rw [← hf']; exact XP he
   ·simp only [invoke,JE he]
   ·have hargs:RvL S ((w.alloc (.deferred (some []))).alloc (.loop { state:=.ready,pending:=none,fn,tmps:=a.tmps,params:=ps',assign:=ca,body:=cb,defers:=w.heap.size })) (first++[VV.lit (.func (.yield (w.heap.size+1)) #[] #[])]++cap) ((x++#[Value.func (.yield (w.heap.size+1)) #[] #[]])++y).toList:=by
     have e:((x++#[Value.func (.yield (w.heap.size+1)) #[] #[]])++y).toList=x.toList++[Value.func (.yield (w.heap.size+1)) #[] #[]]++y.toList:=by simp
     rw [e];exact ((hx1.step hs hk).append (RvL.lits [Value.func (Fn.yield (w.heap.size+1)) #[] #[]])).append (hx2.step hs hk)
    have hcall:=hc1 S ((w.alloc (.deferred (some []))).alloc (.loop { state:=.ready,pending:=none,fn,tmps:=a.tmps,params:=ps',assign:=ca,body:=cb,defers:=w.heap.size })) _ hsim hargs;refine ⟨XP he,fun cs hr=>?_⟩;obtain ⟨e,w3,fr,hR,rest⟩:=(JC (ro:=cx.ro)).2 hcall |>.2 cs hr
    refine ⟨e,w3,fr,?_,rest⟩;have hf':RvF cx.N S w { A with d:=WS w.heap.size::A.d } { a with defers:=[WS w.heap.size]++a.defers }:=⟨hf.1,by simp [hf.2.1],hf.2.2⟩
    cases e with
    | returned v =>
      obtain ⟨S',H',x',k1,k2,k3,st,jump,k4,k5,k6⟩:=hR;obtain ⟨ts,q1,q2,q3⟩:=k2.blk _ _ k4
      have hwr:=k2.write (c:=.obj (.loop { state:=.exhausted,pending:=jump,fn,tmps:=ts,params:=ps',assign:=ca,body:=cb,defers:=w.heap.size })) (o:=.loop { state:=.exhausted,pending:=jump,fn,tmps:=ts,params:=ps',assign:=ca,body:=cb,defers:=w.heap.size }) k4
       (by simp [RvB,k2.lt_of k4])
      have hdel:=hwr.1.del (w.heap.size+1);have hall:=((hk.trans k1).trans hwr.2).trans hdel.2
      have hdd:(H'.set (w.heap.size+1) (.obj (.loop { state:=.exhausted,pending:=jump,fn,tmps:=ts,params:=ps',assign:=ca,body:=cb,defers:=w.heap.size }))).del (w.heap.size+1)=H'.del (w.heap.size+1):=by
       funext i; simp only [AH.del,AH.set]; split<;>rfl
      rw [hdd] at hdel hall;refine ⟨jump,_,run_endLoop q1 k5,?_⟩;have hfr:=hf'.step hs hall;cases jump with
      | none=>exact ⟨by simp,_,_,_,hall,hdel.1,hfr,k6⟩
      | some c =>
        cases c with
        | ret=>exact wpIn_ret ⟨by simp,_,_,_,hall,hdel.1,hfr,k6⟩
        | exit id=>exact wpIn_exit ⟨by simp,_,_,_,hall,hdel.1,hfr,k6⟩
        | _=>exact k6.elim
    | panicked ch =>
      obtain ⟨S',H',k1,k2,k4⟩:=hR;exact ⟨by simp,_,_,_,hk.trans k1,k2,hf'.step hs (hk.trans k1),k4⟩
    | outgrown=>exact hR.elim
 | region id ops draw =>
   exfalso
   unfold ZS YY at hc;split at hc
   ·dsimp only at hc;split at hc
    ·split at hc<;>cases hc
    ·cases hc
   ·split at hc<;>cases hc
 | seq x y=>simp only [ZS] at hc; split at hc<;>cases hc
 | _=>simp [ZS] at hc
end Go.PV
end
section
open List renaming getD_eq_getElem?_getD→Zqj,getElem?_eq_none→Zqd,eq_nil_of_length_eq_zero→ZpY,getElem?_cons_zero→Zqa,mem_cons_of_mem→Zqe,getElem?_cons_succ→Zqb
open Nat renaming lt_or_ge→ZpJ
open Option renaming bind_some→ZpH
namespace Go.PV
def DQ (K:VE→FrameMode→AH→Prop) (S:Nat→Prop) (H:AH) (w:World):Ending→FrameMode→World→Prop
 | .returned v,u,w'=>∃ S' H' x,Step S H w S' H' w'∧Sim S' H' w'∧Rv S' w' x v∧K (.ret x) u H'
 | .panicked ch,u,w'=>∃ S' H',Step S H w S' H' w'∧Sim S' H' w'∧K (.pan ch) u H'
 | .outgrown,_,_=>False
def ZaN (P:Program) (f:FuncId) (xs:List VV) (u:FrameMode) (H:AH) (K:VE→FrameMode→AH→Prop):Prop :=
 ∀ S w (args:Array Value),Sim S H w→RvL S w xs args.toList→CallsDIn (Xp P none) 0 P f args u w (DQ K S H w)
def XM (P:Program) (rs:List ResultVar) (K:VE→AH→Prop) (t:Nat→VV):List Deferred→FrameMode→AH→Prop
 | [],.returning,H=>∃ x H' x',resV P rs ⟨t,[]⟩ H=some x∧GhV H x H' x'∧K (.ret x') H'
 | [],.panicking ch,H=>∃ H',SubH H' H∧K (.pan ch) H'
 | [],.run,_=>False
 | ⟨.collected r,_⟩::ds,u,H=>u ≠ .run∧H r=some (.obj (.deferred (some [])))∧XM P rs K t ds u (H.del r)
 | ⟨.fn (.func f) cap,args⟩::ds,u,H=>u ≠ .run∧ZL P f=true∧∃ xs H0,GhL H ((args++cap).toList.map .lit) H0 xs∧ZaN P f xs u H0 fun
     | .ret _,u',H'=>XM P rs K t ds (settle u') H'
     | .pan ch,u',H'=>XM P rs K t ds (raised u' ch) H'
 | _::_,_,_=>False
def ZbP (P:Program) (rs:List ResultVar) (K:VE→AH→Prop):APost
 | .normal=>fun A H=>XM P rs K A.t A.d .returning H
 | .ret=>fun A H=>XM P rs K A.t A.d .returning H
 | .panic ch=>fun A H=>XM P rs K A.t A.d (.panicking ch) H
 | _=>fun _ _=>False
theorem WT {P:Program} {fn:Func} {K:VE→AH→Prop} {t:Nat→VV} {tmps:Array Value} {S0:Nat→Prop} {H0:AH} {w0:World}:∀ (ds:List Deferred) (u:FrameMode) (S:Nat→Prop) (H:AH) (w:World),XM P fn.results.toList K t ds u H→Step S0 H0 w0 S H w→Sim S H w→RvT S w t tmps →
 LeavesInM (Xp P none) 0 P fn tmps (RQ K S0 H0 w0) ds u w
 | [],.returning,S,H,w,h,k,hs,ht=>by
   obtain ⟨x,H',x',g1,g2,g3⟩:=h;obtain ⟨v,q1,q2⟩:=Zb8 (N:=tmps.size) (a:={ tmps:=tmps,defers:=[] }) hs ⟨rfl,rfl,ht⟩ g1;obtain ⟨S',p1,p2,p3⟩:=g2 S w v hs q2;exact ⟨v,q1,S',H',x',k.trans p1,p2,p3,g3⟩
 | [],.panicking ch,S,H,w,h,k,hs,ht=>by
   obtain ⟨H',g2,g3⟩:=h;exact ⟨S,H',k.trans (hs.sub g2).2,(hs.sub g2).1,g3⟩
 | [],.run,S,H,w,h,k,hs,ht=>h.elim
 | ⟨.collected r,asg⟩::ds,u,S,H,w,h,k,hs,ht=>by
   simp only [XM] at h;obtain ⟨hu,hr,h⟩:=h;refine ⟨hu,.inl ⟨r,_,rfl,run_takeDeferred (hs.blk r _ hr),?_⟩⟩;have hwr:=hs.write (c:=.obj (.deferred none)) (o:=.deferred none) hr (by simp [RvB,hs.lt_of hr]);have hdel:=hwr.1.del r;have hall:=hwr.2.trans hdel.2;have hdd:(H.set r (.obj (.deferred none))).del r=H.del r:=by funext i; simp only [AH.del,AH.set]; split<;>rfl
   rw [hdd] at hdel hall;exact WT ds u S _ _ h (k.trans hall) hdel.1 (ht.step hs hall)
 | ⟨.fn (.func f) cap,asg⟩::ds,u,S,H,w,h,k,hs,ht=>by
   simp only [XM] at h;obtain ⟨hu,he,xs,H1,gh,h⟩:=h;obtain ⟨S1,a1,a2,a3⟩:=gh S w (asg++cap).toList hs (RvL.lits _);refine ⟨hu,.inr ⟨fun h=>(by cases h),.func f,cap,f,asg++cap,rfl,JE he _ _,fun g hg=>?_,?_⟩⟩
   ·simp only [Target.leads,Option.some.injEq] at hg;rw [← hg]; exact XP he
   ·refine CallsDIn.mono (h S1 w (asg++cap) a2 a3) ?_;intro e u' w' hq;cases e with
    | returned v =>
      obtain ⟨S',H',x,g1,g2,g3,g4⟩:=hq;exact WT ds (settle u') S' H' w' g4 ((k.trans a1).trans g1) g2 (ht.step hs (a1.trans g1))
    | panicked ch =>
      obtain ⟨S',H',g1,g2,g4⟩:=hq;exact WT ds (raised u' ch) S' H' w' g4 ((k.trans a1).trans g1) g2 (ht.step hs (a1.trans g1))
    | outgrown=>exact hq.elim
 | ⟨.nil,_⟩::ds,u,S,H,w,h,k,hs,ht=>h.elim
 | ⟨.builtin _ _ _ _,_⟩::ds,u,S,H,w,h,k,hs,ht=>h.elim
 | ⟨.coroexit _,_⟩::ds,u,S,H,w,h,k,hs,ht=>h.elim
 | ⟨.fn (.method _) _,_⟩::ds,u,S,H,w,h,k,hs,ht=>h.elim
 | ⟨.fn (.methodOf _ _) _,_⟩::ds,u,S,H,w,h,k,hs,ht=>h.elim
 | ⟨.fn (.via _ _ _ _) _,_⟩::ds,u,S,H,w,h,k,hs,ht=>h.elim
 | ⟨.fn (.yield _) _,_⟩::ds,u,S,H,w,h,k,hs,ht=>h.elim
theorem Zkh {N:Nat} {S:Nat→Prop} {w:World} {xs:List VV} {args:Array Value} (hx:RvL S w xs args.toList) (hN:xs.length≤N) :
 RvF N S w ⟨fun i=>xs.getD i ZJ,[]⟩ { tmps:=args++Array.replicate (N-args.size) undef,defers:=[] }:=by
 have hl:args.size=xs.length:=by simpa using hx.length
 refine ⟨by simp; omega,rfl,fun i=>?_⟩
 have:=RvL.get i hx
 by_cases hi:i<args.size
 ·have e:(args++Array.replicate (N-args.size) undef).getD i undef=args.toList.getD i undef:=by
   simp only [Array.getD_eq_getD_getElem?,Zqj];rw [Array.getElem?_append_left hi];simp
  rw [e]; exact this
 ·have e:(args++Array.replicate (N-args.size) undef).getD i undef=undef:=by
   simp only [Array.getD_eq_getD_getElem?];rw [Array.getElem?_append_right (by omega),Array.getElem?_replicate]
   split<;>rfl
  have e2:xs.getD i ZJ=ZJ:=by
   rw [Zqj,Zqd (by omega)];rfl
  show Rv S w (xs.getD i ZJ) _;rw [e,e2];rfl
theorem ZcD {P:Program} {f N:Nat} {rs:List ResultVar} {a:ACode} (hd:FnD P f N rs a) {xs:List VV} {H:AH} {K:VE→AH→Prop} (hN:xs.length≤N)
 (h:ACx ⟨P,N,none⟩ a (ZbP P rs K) ⟨fun i=>xs.getD i ZJ,[]⟩ H):ZU P f xs H K:=by
 obtain ⟨fn,c,hf,hb,rfl,rfl,rfl⟩:=hd;intro S w args hs hx;refine callsIn_of_wp_marks hf hb (show (P.funcs[f]?).isSome=true by rw [hf]; rfl) ?_ rfl;have hw:=h c rfl S w _ hs (Zkh hx hN);refine wpIn_mono hw ?_;rintro e a' w' ⟨h0,S',H',A',h1,h2,h3,h4⟩;cases e with
 | normal=>show LeavesInM _ _ _ _ _ _ a'.defers _ _; rw [h3.2.1]; exact WT A'.d .returning S' H' w' h4 h1 h2 h3.2.2
 | ret=>show LeavesInM _ _ _ _ _ _ a'.defers _ _; rw [h3.2.1]; exact WT A'.d .returning S' H' w' h4 h1 h2 h3.2.2
 | panic ch=>show LeavesInM _ _ _ _ _ _ a'.defers _ _; rw [h3.2.1]; exact WT A'.d (.panicking ch) S' H' w' h4 h1 h2 h3.2.2
 | exit id=>exact h4.elim
 | goto l=>exact h4.elim
 | outgrown=>exact absurd rfl h0
theorem Jf {P:Program} {f N:Nat} {rs:List ResultVar} {a:ACode} (hd:FnD P f N rs a) {xs:List VV} {H:AH} {K:VE→AH→Prop} (hN:xs.length≤N)
 (h:vc ⟨P,N,none⟩ a (ZbP P rs K) ⟨fun i=>xs.getD i ZJ,[]⟩ H):ZU P f xs H K :=
 ZcD hd hN (Zds (fun _ _ _ h=>h) h)
def Ze4 (P:Program) (rs:List ResultVar) (u:FrameMode) (K:VE→FrameMode→AH→Prop):APost:=YP P rs (fun e H=>K e u H)
theorem Zki {P:Program} {fn:Func} {N:Nat} {u:FrameMode} {K:VE→FrameMode→AH→Prop} {S0 S:Nat→Prop} {H0 H:AH} {w0 w:World} {A:AF} {a:Act} (k:Step S0 H0 w0 S H w) (hs:Sim S H w) (hf:RvF N S w A a) (hd:A.d=[])
 (h:∃ x H' x',resV P fn.results.toList A H=some x∧GhV H x H' x'∧K (.ret x') u H'):a.defers=[]∧∃ v,(results fn a.tmps).run P w=.ok v w∧DQ K S0 H0 w0 (.returned v) u w:=by
 obtain ⟨x,H'',x',g1,g2,g3⟩:=h;obtain ⟨v,q1,q2⟩:=Zb8 hs hf g1;obtain ⟨S'',p1,p2,p3⟩:=g2 S w v hs q2;exact ⟨hf.2.1.trans hd,v,q1,S'',H'',x',k.trans p1,p2,p3,g3⟩
theorem ZdA {P:Program} {f N:Nat} {rs:List ResultVar} {a:ACode} (hd:FnD P f N rs a) {xs:List VV} {u:FrameMode} {H:AH} {K:VE→FrameMode→AH→Prop} (hN:xs.length≤N)
 (h:ACx ⟨P,N,none⟩ a (Ze4 P rs u K) ⟨fun i=>xs.getD i ZJ,[]⟩ H):ZaN P f xs u H K:=by
 obtain ⟨fn,c,hf,hb,rfl,rfl,rfl⟩:=hd;intro S w args hs hx;refine CallsDIn.mono (callsDIn_of_wp (R:=fun e w'=>DQ K S H w e u w') hf hb (show (P.funcs[f]?).isSome=true by rw [hf]; rfl) ?_ rfl) ?_
 ·have hw:=h c rfl S w _ hs (Zkh hx hN);refine wpIn_mono hw ?_;rintro e a' w' ⟨h0,S',H',A',h1,h2,h3,h4⟩;cases e with
  | normal=>exact Zki h1 h2 h3 h4.1 h4.2
  | ret=>exact Zki h1 h2 h3 h4.1 h4.2
  | panic ch =>
    obtain ⟨g1,H'',g2,g3⟩:=h4;exact ⟨h3.2.1.trans g1,S',H'',h1.trans (h2.sub g2).2,(h2.sub g2).1,g3⟩
  | exit id=>exact h4.elim
  | goto l=>exact h4.elim
  | outgrown=>exact absurd rfl h0
 ·rintro e u' w' ⟨rfl,hq⟩;exact hq
theorem Zjp {P:Program} {f N:Nat} {rs:List ResultVar} {a:ACode} (hd:FnD P f N rs a) {xs:List VV} {u:FrameMode} {H:AH} {K:VE→FrameMode→AH→Prop} (hN:xs.length≤N)
 (h:vc ⟨P,N,none⟩ a (Ze4 P rs u K) ⟨fun i=>xs.getD i ZJ,[]⟩ H):ZaN P f xs u H K :=
 ZdA hd hN (Zds (fun _ _ _ h=>h) h)
def Zck:FrameMode→Value × FrameMode
 | .panicking ({ v,recovered:=false,goexit:=false }::older)=>(v,.panicking ({ v,recovered:=true }::older))
 | u=>(.nilIface,u)
def isMv (o:GOp):Bool:=match o.op,o.g with | .move _,none=>true | .assign _,none=>true | _,_=>false
def mvV (A:AF) (o:GOp):AF:=match o.op with | .move x=>A.put o.dst (A.eval x) | .assign x=>A.put o.dst (A.eval x) | _=>A
def mvs:List GOp→AF→AF
 | [],A=>A
 | o::l,A=>mvs l (mvV A o)
theorem Zf3 {ops:Array Oper} {o:Oper} (hg:gOk ops o=true) (hn:(gopOf ops o).g=none) (ts:Array Value):Region.wanted o (yielded ops ts)=true:=by
 unfold gOk at hg;unfold gopOf at hn;cases hgd':o.guard with
 | none=>simp [Region.wanted,hgd']
 | some p =>
   simp only [hgd'] at hg hn;obtain ⟨e,he⟩:=Option.isSome_iff_exists.1 hg;rw [ZpH,he] at hn;cases hn
theorem Znu {P:Program} {ops:Array Oper} {N:Nat} {S:Nat→Prop} {F:Fence} {Q:Exit→Act→List Frame→World→Prop} {cs:List Frame} {w:World}:∀ (is:List Nat) (l:List GOp) (A:AF) (a:Act),
 (∀ j:Nat,l[j]?=(is[j]?).bind fun i:Nat=>(ops[i]?).map (gopOf ops))→is.length=l.length→(∀ o∈l,isMv o=true∧dOk N o.dst)→(∀ (i:Nat) (o:Oper),ops[i]?=some o→gOk ops o=true)→RvF N S w A a →
 (∀ a',RvF N S w (mvs l A) a'→Q .normal a' cs w)→wpOpsSIn F 0 P ops Q is a cs w
 | [],l,A,a,hl,hlen,hm,hg,hf,hQ=>by
   have:l=[]:=ZpY (by simpa using hlen.symm)
   subst this;exact hQ a hf
 | i::is,[],A,a,hl,hlen,hm,hg,hf,hQ=>by simp at hlen
 | i::is,g::l,A,a,hl,hlen,hm,hg,hf,hQ=>by
   have h0:=hl 0;simp only [Zqa,ZpH] at h0;obtain ⟨o,ho,hgo⟩:=Option.map_eq_some_iff.1 h0.symm;obtain ⟨hmv,hd⟩:=hm g (List.mem_cons_self ..)
   have next:∀ v x,(mvV A g=A.put g.dst x)→Rv S w x v→wpOpsSIn F 0 P ops Q is (a.put o.dst v) cs w:=by
    intro v x hx hv;refine Znu is l (mvV A g) _ (fun j=>by have:=hl (j+1); simpa using this) (by simpa using hlen) (fun o' ho'=>hm o' (Zqe _ ho')) hg ?_ (fun a' h=>hQ a' h);rw [hx];have hdst:g.dst=o.dst:=by rw [← hgo]; rfl
    rw [hdst];refine hf.put (fun e he=>?_) hv;rw [hdst,he] at hd;exact hd
   have hop:g.op=o.op:=by rw [← hgo]; rfl
   have hgn:(gopOf ops o).g=none:=by
    rw [hgo];unfold isMv at hmv;split at hmv<;>first | assumption | cases hmv
   simp only [wpOpsSIn,ho,Zf3 (hg i o ho) hgn,if_true];unfold isMv at hmv;split at hmv
   ·rename_i x e1 e2;have e1':o.op=.move x:=by rw [← hop,e1]
    refine ⟨fun f hf'=>by simp [Oper.about,e1'] at hf',?_⟩
    have:(execOp a.eval o).run P w=.ok (.value (a.eval x)) w:=by simp [execOp,e1']
    rw [this];exact next _ _ (by simp [mvV,e1]) (hf.eval x)
   ·rename_i x e1 e2;have e1':o.op=.assign x:=by rw [← hop,e1]
    refine ⟨fun f hf'=>by simp [Oper.about,e1'] at hf',?_⟩
    have:(execOp a.eval o).run P w=.ok (.value (a.eval x)) w:=by simp [execOp,e1']
    rw [this];exact next _ _ (by simp [mvV,e1]) (hf.eval x)
   ·cases hmv
theorem Zah {P:Program} {f N:Nat} {rs:List ResultVar} {a:ACode} {d:Nat} {ts:Array TypeId} {l:List GOp} (hd:FnD P f N rs (.seq (.reg (⟨some d,.call { callee:=.builtin .recover,args:=#[],argTypes:=ts },none⟩::l)) a)) (hmv:∀ o∈l,isMv o=true∧dOk N o.dst)
 {xs:List VV} {u:FrameMode} {H:AH} {K:VE→FrameMode→AH→Prop} (hN:xs.length≤N) (hdN:d<N)
 (h:ACx ⟨P,N,none⟩ a (Ze4 P rs (Zck u).2 K) (mvs l ⟨upd (fun i=>xs.getD i ZJ) d (.lit (Zck u).1),[]⟩) H):ZaN P f xs u H K:=by
 obtain ⟨fn,c,hf,hb,rfl,rfl,hc⟩:=hd;intro S w args hs hx;refine callsDIn_of_wpSIn hf hb (show (P.funcs[f]?).isSome=true by rw [hf]; rfl) ?_;intro c₀ cs hu;cases c with
 | seq c1 c2 =>
   simp only [ZS] at hc;split at hc
   ·cases hc
   ·simp only [ACode.seq.injEq] at hc;obtain ⟨hc1,hc2⟩:=hc;refine wpSIn_seq ?_;cases c1 with
    | region id ops draw =>
      unfold ZS YY at hc1;split at hc1
      ·dsimp only at hc1;split at hc1
       ·split at hc1<;>cases hc1
       ·cases hc1
      ·rename_i hdr;split at hc1
       ·rename_i hgok;simp only [ACode.reg.injEq] at hc1;have hdr':draw=false:=by simpa using hdr
        subst hdr'
        have hgo:∀ i o,ops[i]?=some o→gOk ops o=true:=fun i o ho=>by
         have hi:i<ops.size:=by
          rcases ZpJ i ops.size with h | h
          ·exact h
          ·rw [Array.getElem?_eq_none h] at ho; cases ho
         rw [Array.getElem?_eq_getElem hi] at ho;cases ho;exact Array.all_eq_true.1 hgok i hi
        have hmapj:∀ j:Nat,((ops[j]?).map (gopOf ops))=((⟨some d,.call { callee:=.builtin .recover,args:=#[],argTypes:=ts },none⟩:GOp)::l)[j]?:=fun j=>by
         rw [← hc1,List.getElem?_map,Array.getElem?_toList]
        have hlen:ops.size=l.length+1:=by
         have:=congrArg List.length hc1
         simpa using this
        obtain ⟨o,ho0,hgo0⟩:=Option.map_eq_some_iff.1 (hmapj 0);have hdst:o.dst=some d:=congrArg GOp.dst hgo0;have hop:o.op=.call { callee:=.builtin .recover,args:=#[],argTypes:=ts }:=congrArg GOp.op hgo0;have hgd:(gopOf ops o).g=none:=congrArg GOp.g hgo0;refine wpSIn_region ?_;have hw:=Zf3 (hgo 0 o ho0) hgd
        have hex:∀ (ρ:Operand→Value) (w:World),(execOp ρ o).run P w=.ok .recover w:=by
         intro ρ w;simp [execOp,hop,resolve,invoke,builtin]
        have hab:∀ (ρ:Operand→Value) (w:World) f',o.about P w ρ=some f'→(Xp P none).fn f':=by
         intro ρ w f' he;simp [Oper.about,hop,resolve,Target.leads] at he
        rw [hlen,List.range_succ_eq_map];simp only [wpOpsSIn,ho0,hw,if_true,hex];refine ⟨hab _ _,?_⟩
        have key:∀ (v:Value) (u':FrameMode),Zck u=(v,u')→wpOpsSIn (Xp P none) 0 P ops (Exit.thenS (c2.wpSIn (Xp P none) 0 P (bodyPostS P fn c₀ cs (DQ K S H w))) (bodyPostS P fn c₀ cs (DQ K S H w))) ((List.range l.length).map Nat.succ)
         (({ tmps:=args++Array.replicate (fn.ntmps-args.size) undef,defers:=[] }:Act).put o.dst v) ({ c₀ with mode:=u' }::cs) w:=by
         intro v u' hrm;rw [hrm] at h;have hf0:=Zkh (N:=fn.ntmps) hx hN
         have hf1:RvF fn.ntmps S w (AF.put ⟨fun i=>xs.getD i ZJ,[]⟩ o.dst (.lit v)) (Act.put { tmps:=args++Array.replicate (fn.ntmps-args.size) undef,defers:=[] } o.dst v) :=
          hf0.put (fun e he=>by rw [hdst] at he; cases he; exact hdN) rfl
         refine Znu _ l _ _ (fun j=>?_) (by simp) hmv hgo hf1 fun a2 hf2=>?_
         ·have:=hmapj (j+1)
          rw [Zqb] at this;rw [← this,List.getElem?_map];by_cases hj:j<l.length
          ·rw [List.getElem?_range hj]; rfl
          ·rw [Zqd (by simpa using hj),Array.getElem?_eq_none (by omega)]; rfl
         ·rw [hdst] at hf2;refine wpSIn_of_wpIn rfl ?_;have hw:=h c2 hc2 S w _ hs hf2;refine wpIn_mono hw ?_;rintro e a' w' ⟨h0,S',H',A',h1,h2,h3,h4⟩;cases e with
          | normal =>
            obtain ⟨g1,v',g2,g3⟩:=Zki h1 h2 h3 h4.1 h4.2;exact ⟨g1,u',rfl,v',g2,g3⟩
          | ret =>
            obtain ⟨g1,v',g2,g3⟩:=Zki h1 h2 h3 h4.1 h4.2;exact ⟨g1,u',rfl,v',g2,g3⟩
          | panic ch =>
            obtain ⟨g1,H'',g2,g3⟩:=h4;exact ⟨h3.2.1.trans g1,u',rfl,S',H'',h1.trans (h2.sub g2).2,(h2.sub g2).1,g3⟩
          | exit id=>exact h4.elim
          | goto l=>exact h4.elim
          | outgrown=>exact absurd rfl h0
        by_cases hp:∃ v older,u=.panicking ({ v,recovered:=false,goexit:=false }::older)
        ·obtain ⟨v,older,hp⟩:=hp
         have hrd:recoverD (c₀::cs)=some (v,{ c₀ with mode:=.panicking ({ v,recovered:=true }::older) }::cs):=by
          simp only [recoverD,hu,hp]
         simp only [hrd];exact key v _ (by rw [hp]; rfl)
        ·have hrm:Zck u=(.nilIface,u):=by
          unfold Zck;split
          ·rename_i v older; exact absurd ⟨v,older,rfl⟩ hp
          ·rfl
         have hrd:recoverD (c₀::cs)=none:=by
          simp only [recoverD,hu];split
          ·rename_i v older; exact absurd ⟨v,older,rfl⟩ hp
          ·rfl
         have hc0:({ c₀ with mode:=u }:Frame)=c₀:=by subst hu; rfl
         simp only [hrd]
         have:=key .nilIface u hrm
         rw [hc0] at this;exact this
       ·cases hc1
    | seq x y=>simp only [ZS] at hc1; split at hc1<;>cases hc1
    | _=>simp [ZS] at hc1
 | region id ops draw =>
   exfalso
   unfold ZS YY at hc;split at hc
   ·dsimp only at hc;split at hc
    ·split at hc<;>cases hc
    ·cases hc
   ·split at hc<;>cases hc
 | _=>simp [ZS] at hc
end Go.PV
end
section
namespace Go.PV
open Go
theorem ZdB {P:Program} {f N:Nat} {rs:List ResultVar} {a:ACode} (hd:FnD P f N rs a) {xs:List VV} {H:AH} {K:VE→AH→Prop} (hN:xs.length≤N)
 (h:ACx ⟨P,N,none⟩ a (YP P rs K) ⟨fun i=>xs.getD i ZJ,[]⟩ H):ZU P f xs H K:=by
 obtain ⟨fn,c,hf,hb,rfl,rfl,rfl⟩:=hd;intro S w args hs hx;refine callsIn_of_wp hf hb (show (P.funcs[f]?).isSome=true by rw [hf]; rfl) ?_ rfl;have hw:=h c rfl S w _ hs (Zkh hx hN);refine wpIn_mono hw ?_;rintro e a' w' ⟨h0,S',H',A',h1,h2,h3,h4⟩
 have fin:A'.d=[]→(∃ x H'' x',resV P fn.results.toList A' H'=some x∧GhV H' x H'' x'∧K (.ret x') H'')→a'.defers=[]∧∃ v,(results fn a'.tmps).run P w'=.ok v w'∧RQ K S H w (.returned v) w':=by
  rintro hd ⟨x,H'',x',g1,g2,g3⟩;obtain ⟨u,q1,q2⟩:=Zb8 h2 h3 g1;obtain ⟨S'',p1,p2,p3⟩:=g2 S' w' u h2 q2;exact ⟨h3.2.1.trans hd,u,q1,S'',H'',x',h1.trans p1,p2,p3,g3⟩
 cases e with
 | normal=>exact fin h4.1 h4.2
 | ret=>exact fin h4.1 h4.2
 | panic ch =>
   obtain ⟨g1,H'',g2,g3⟩:=h4;exact ⟨h3.2.1.trans g1,S',H'',h1.trans (h2.sub g2).2,(h2.sub g2).1,g3⟩
 | exit id=>exact h4.elim
 | goto l=>exact h4.elim
 | outgrown=>exact absurd rfl h0
theorem ZeC {P:Program} {ops:Array Oper} {a b:ACode}:YY P ops ≠ .seq a b:=by
 unfold YY;dsimp only;split
 ·split
  ·intro h; cases h
  ·intro h; cases h
 ·intro h; cases h
theorem acx_seqK {cx:Cx} {a b:ACode} {Q:APost} {K:AF→AH→Prop} {A:AF} {H:AH} (hQ:Zbi Q) (hK:∀ A H,K A H→ACx cx b Q A H) (h:vc cx a (thenA K Q) A H):ACx cx (.seq a b) Q A H:=by
 intro c hc;cases c with
 | seq x y =>
   simp only [ZS] at hc;split at hc
   ·cases hc
   ·injection hc with h1 h2
    subst h1;refine Zj7 ((Jk x (thenA K Q) A H (fun l A H=>hQ l A H) h).mono ?_);intro e A' H' hq;cases e with
    | normal=>exact hK A' H' hq y h2
    | _=>exact hq
 | region id ops draw =>
   simp only [ZS] at hc;split at hc
   ·exact absurd hc ZeC
   ·split at hc<;>cases hc
 | _=>simp only [ZS] at hc; cases hc
def seqs:List ACode→ACode→ACode
 | [],b=>b
 | a::l,b=>.seq a (seqs l b)
def vcs (cx:Cx) (K:AF→AH→Prop) (Q:APost):List ACode→AF→AH→Prop
 | []=>K
 | a::l=>vc cx a (thenA (vcs cx K Q l) Q)
theorem ZcT {cx:Cx} {b:ACode} {Q:APost} {K:AF→AH→Prop} (hQ:Zbi Q) (hK:∀ A H,K A H→ACx cx b Q A H):∀ (l:List ACode) (A:AF) (H:AH),vcs cx K Q l A H→ACx cx (seqs l b) Q A H
 | [],A,H,h=>hK A H h
 | a::l,A,H,h=>acx_seqK hQ (fun A H h=>ZcT hQ hK l A H h) h
structure Hold (p:Prop):Prop where
 out:p
end Go.PV
end
section
open List renaming length_append→Zpy,length_cons→Zpx,drop_eq_nil_of_le→ZpC,getElem_mem→Zpk
namespace Go.PV
theorem ZO {n:Int} (h : -9223372036854775808≤n) (h':n≤9223372036854775807):IntKind.i64.wrap n=n:=by rw [IntKind.wrap_i64]; omega
theorem ZeV (k:IntKind) (n:Int):VV.cells (.lit (.int k n))=[.lit (.int k n)]:=rfl
theorem JH (k:IntKind) (n:Int):VV.one (.lit (.int k n))=true:=rfl
theorem cl_bool (b:Bool):VV.cells (.lit (.bool b))=[.lit (.bool b)]:=rfl
theorem Znv (b:Bool):VV.one (.lit (.bool b))=true:=rfl
theorem cl_str (b:ByteArray):VV.cells (.lit (.string b))=[.lit (.string b)]:=rfl
theorem JS (b:ByteArray):VV.one (.lit (.string b))=true:=rfl
theorem Zkj (a:Option Addr):VV.cells (.lit (.pointer a))=[.lit (.pointer a)]:=rfl
theorem cl_sl (a:Option Addr) (n c:Nat):VV.cells (.lit (.slice a n c))=[.lit (.slice a n c)]:=rfl
theorem ZlY (a:Option Addr) (n c:Nat):VV.one (.lit (.slice a n c))=true:=rfl
theorem cl_map (a:Option Nat):VV.cells (.lit (.map a))=[.lit (.map a)]:=rfl
theorem Zkk (a:Option Nat):VV.one (.lit (.map a))=true:=rfl
theorem cl_ni  : VV.cells (.lit .nilIface)=[.lit .nilIface]:=rfl
theorem Xw (cs:List VV):VV.cells (.agg cs)=cs:=rfl
theorem Ze5 (ex:Bool) (n:Nat) (cs:List VV):VV.cells (.slice ex n cs)=[.slice ex n cs]:=rfl
theorem Znw (cs:List VV):VV.cells (.iptr cs)=[.iptr cs]:=rfl
theorem Znx (f:Fn) (a b:List VV):VV.cells (.func f a b)=[.func f a b]:=rfl
theorem JN (ex:Bool) (n:Nat) (cs:List VV):VV.one (.slice ex n cs)=true:=rfl
theorem on_iptr (cs:List VV):VV.one (.iptr cs)=true:=rfl
theorem Zny (f:Fn) (a b:List VV):VV.one (.func f a b)=true:=rfl
theorem We (n:Nat) (x:VV) (cs:List VV):ldV n false (x::cs)=some x:=rfl
theorem Zkl (x0 x1:VV) (cs:List VV):ldV 2 true (x0::x1::cs)=some (.agg [x0,x1]):=by simp [ldV]
theorem XY (x0 x1 x2:VV) (cs:List VV):ldV 3 true (x0::x1::x2::cs)=some (.agg [x0,x1,x2]):=by simp [ldV]
theorem ZmR (x0 x1 x2 x3:VV) (cs:List VV):ldV 4 true (x0::x1::x2::x3::cs)=some (.agg [x0,x1,x2,x3]):=by simp [ldV]
abbrev iV (n:Int):VV:=.lit (.int .i64 n)
def encC {α:Type} (enc:α→List VV) (l:List α):List VV:=(l.map enc).flatten
abbrev encS {α:Type} (enc:α→List VV) (l:List α):VV:=.slice false l.length (encC enc l)
section
variable {α:Type} {enc:α→List VV} {k:Nat}
theorem Ze6:encC enc []=[]:=rfl
theorem Yh (x:α) (l:List α):encC enc (x::l)=enc x++encC enc l:=rfl
theorem Yu (l m:List α):encC enc (l++m)=encC enc l++encC enc m:=by simp [encC]
theorem XU (hk:∀ x,(enc x).length=k) (l:List α):(encC enc l).length=l.length * k:=by
 induction l with
 | nil=>simp [encC]
 | cons x l ih=>rw [Yh,Zpy,ih,hk,Zpx,Nat.succ_mul]; omega
theorem Zac (hk:∀ x,(enc x).length=k) {l:List α} {i:Nat} (hi:i<l.length):(encC enc l).drop (i * k)=enc l[i]++encC enc (l.drop (i+1)):=by
 induction l generalizing i with
 | nil=>simp at hi
 | cons x l ih =>
   cases i with
   | zero=>simp [Yh]
   | succ i =>
     rw [Yh,List.drop_append];have h1:(enc x).drop ((i+1) * k)=[]:=ZpC (by rw [hk]; rw [Nat.succ_mul]; omega);have h2:(i+1) * k-(enc x).length=i * k:=by rw [hk,Nat.succ_mul]; omega
     rw [h1,h2,List.nil_append,ih (by simpa using hi)];rfl
theorem ZaZ {enc:α→VV} {l:List α} {i:Nat} (hi:i<l.length):(encC (fun x=>[enc x]) l).drop i=enc l[i]::encC (fun x=>[enc x]) (l.drop (i+1)):=by
 have:=Zac (enc:=fun x=>[enc x]) (k:=1) (fun _=>rfl) hi
 simpa using this
end
def FnAt (P:Program) (f:VV) (xs:List VV) (y:VV) (H:AH):Prop:=∀ K:VE→AH→Prop,K (.ret y) H→XX P none f xs H K
theorem FnAt.lit {P:Program} {g:FuncId} {xs:List VV} {y:VV} {H:AH} (he:ZL P g=true) (h:PureF P g xs y):FnAt P (.lit (.func (.func g) #[] #[])) xs y H:=fun K hk=>by
 rw [YX]; exact ⟨he,h.use hk⟩
theorem FnAt.cap {P:Program} {g:FuncId} {first cap xs:List VV} {y:VV} {H:AH} (he:ZL P g=true) (h:∀ K:VE→AH→Prop,K (.ret y) H→ZU P g (first++xs++cap) H K):FnAt P (.func (.func g) first cap) xs y H:=fun K hk=>⟨he,h K hk⟩
def idxF {α:Type} (p:α→Bool) (l:List α):Int:=match l.findIdx? p with | some i=>i | none => -1
theorem JT {α:Type} {p:α→Bool} {l:List α} {i:Nat} (hi:i<l.length) (hp:p l[i]=true) (hj:∀ j (h:j<i),p l[j]=false):idxF p l=i:=by
 have:l.findIdx? p=some i:=by
  rw [List.findIdx?_eq_some_iff_getElem];exact ⟨hi,hp,fun j h=>by rw [hj j h]; simp⟩
 simp [idxF,this]
theorem ZaO {α:Type} {p:α→Bool} {l:List α} (hj:∀ j (h:j<l.length),p l[j]=false):idxF p l = -1:=by
 have:l.findIdx? p=none:=by
  rw [List.findIdx?_eq_none_iff];intro x hx;obtain ⟨i,hi,rfl⟩:=List.getElem_of_mem hx;exact hj i hi
 simp [idxF,this]
theorem ZhH {α:Type} {p:α→Bool} {l:List α}:decide (0≤idxF p l)=l.any p:=by
 unfold idxF;cases h:l.findIdx? p with
 | none =>
   rw [List.findIdx?_eq_none_iff] at h
   have:l.any p=false:=by simpa using h
   rw [this]; rfl
 | some i =>
   rw [List.findIdx?_eq_some_iff_getElem] at h;obtain ⟨hi,hp,_⟩:=h
   have:l.any p=true:=by simp only [List.any_eq_true]; exact ⟨_,Zpk hi,hp⟩
   rw [this]; simp
end Go.PV
end
section
open Bool renaming false_eq_true→ZpT,and_self→Zp3
open Int renaming toNat_natCast→ZpW
open List renaming replicate→ZpR
open Nat renaming succ_ne_self→Zpv,zero_add→Zpu,add_zero→ZpO,le_refl→Zpl
open Option renaming bind_some→ZpH,map_some→Zps
namespace Go.PV
theorem AH.get (H:AH) (r i:Nat) (b:Blk):(H.set r b) i=if i=r then some b else H i:=rfl
theorem AH.set_none {H:AH} {r i:Nat} {b:Blk}:(H.set r b) i=none↔(¬ i=r∧¬ r=i)∧H i=none:=by
 rw [AH.get];by_cases h:i=r
 ·simp [h]
 ·simp [h,Ne.symm h]
theorem AH.ne_of {H:AH} {r i:Nat} {b:Blk} (h:H i=some b) (hr:H r=none):¬ i=r∧¬ r=i:=⟨fun e=>(by rw [e,hr] at h; cases h),fun e=>(by rw [← e,hr] at h; cases h)⟩
theorem SubH.trans {H1 H2 H3:AH} (h:SubH H1 H2) (k:SubH H2 H3):SubH H1 H3:=fun r b hb=>k r b (h r b hb)
theorem SubH.new {H:AH} {r:Nat} {b:Blk} (hr:H r=none):SubH H (H.set r b):=(SubH.refl H).of_set hr
theorem SubH.none {H1 H2:AH} (h:SubH H1 H2) {r:Nat} (hr:H2 r=none):H1 r=none:=by
 cases e:H1 r with
 | none=>rfl
 | some b=>rw [h r b e] at hr; cases hr
theorem SubH.set {H1 H2:AH} (h:SubH H1 H2) (r:Nat) (b:Blk):SubH (H1.set r b) (H2.set r b):=fun i c hc=>by
 rw [AH.get] at hc ⊢;split at hc
 ·rename_i e; rw [if_pos e]; exact hc
 ·rename_i e; rw [if_neg e]; exact h i c hc
theorem AH.comm {H:AH} {r i:Nat} (b c:Blk) (h:¬ i=r):(H.set r b).set i c=(H.set i c).set r b:=AH.set_comm H b c h
def ZdC (H:AH) (p:Nat→Prop):Prop:=∀ r,H r=none→p r
@[congr] theorem allNew_congr {H H':AH} {p:Nat→Prop} (h:H=H'):ZdC H p=ZdC H' p:=by rw [h]
theorem ZH {H:AH} {p:Nat→Prop} (h:∀ r,H r=none→p r):ZdC H p:=h
def Zkm (z:Option (List Value)) (e:TypeId) (H:AH) (K:VE→AH→Prop):Prop :=
 match z with
 | some zs=>ZdC H fun r=>K (.ret (ptrV r 0)) (H.set r (.cells e (zs.map .lit) 0))
 | none=>False
theorem XS (P:Program) (e:TypeId) (H:AH) (K:VE→AH→Prop):Zbr P e H K=Zkm (zeroT P e) e H K:=rfl
theorem Xt (zs:List Value) (e:TypeId) (H:AH) (K:VE→AH→Prop):Zkm (some zs) e H K=ZdC H fun r=>K (.ret (ptrV r 0)) (H.set r (.cells e (zs.map .lit) 0)):=rfl
theorem Zaz (e:TypeId) (x:VV) (H:AH) (K:VE→AH→Prop):vcBox e x H K=ZdC H fun r=>K (.ret (ptrV r 0)) (H.set r (.cells e x.cells 0)):=rfl
def makeB (z:Option (List Value)) (e k b:Nat) (l c:Int) (H:AH) (K:VE→AH→Prop):Prop :=
 match z with
 | some zs=>zs.length=k∧0≤l∧l≤c∧(b:Int) * c≤281474976710656∧c≤9223372036854775807 ∧
    ZdC H fun r=>K (.ret (.lit (.slice (some ⟨r,0,none⟩) l.toNat c.toNat))) (H.set r (.cells e ((ZpR c.toNat zs).flatten.map .lit) 0))
 | none=>False
def makeA (P:Program) (t:Option (TypeId × Nat × Nat)) (l c:VV) (H:AH) (K:VE→AH→Prop):Prop :=
 match t,l,c with
 | some (e,k,b),.lit (.int _ l),.lit (.int _ c)=>makeB (zeroT P e) e k b l c H K
 | _,_,_=>False
section
variable (P:Program) (t:TypeId) (H:AH) (K:VE→AH→Prop)
def ldB (x:Option VV) (H:AH) (K:VE→AH→Prop):Prop:=match x with | some x=>K (.ret x) H | none=>False
def ldA (x:Option (Nat × Bool)) (b:Option Blk) (o:Nat) (H:AH) (K:VE→AH→Prop):Prop :=
 match x,b with
 | some (n,ag),some (.cells _ cs _)=>ldB (ldV n ag (cs.drop o)) H K
 | _,_=>False
def ldC (x:Option (Nat × Bool)) (cs:List VV) (H:AH) (K:VE→AH→Prop):Prop :=
 match x with
 | some (n,ag)=>ldB (ldV n ag cs) H K
 | none=>False
theorem Zbc (cs:List VV):XL P t (.iptr cs) H K=ldC (ldT P t) cs H K:=by
 unfold XL ldC; cases ldT P t<;>rfl
theorem Wf (r o:Nat):XL P t (.lit (.pointer (some ⟨r,o,none⟩))) H K=ldA (ldT P t) (H r) o H K:=by
 unfold XL ldA;cases ldT P t with
 | none=>rfl
 | some p =>
   cases hr:H r with
   | none=>simp only [hr]
   | some b=>cases b<;>simp only [hr]<;>rfl
theorem Wg (n:Nat) (ag:Bool) (e:TypeId) (cs:List VV) (sp o:Nat):ldA (some (n,ag)) (some (.cells e cs sp)) o H K=ldB (ldV n ag (cs.drop o)) H K:=rfl
theorem Zbd (n:Nat) (ag:Bool) (cs:List VV):ldC (some (n,ag)) cs H K=ldB (ldV n ag cs) H K:=rfl
theorem XF (x:VV):ldB (some x) H K=K (.ret x) H:=rfl
def faA (x:Option (Nat × Nat × Bool)) (y:Nat→VV) (H:AH) (K:VE→AH→Prop):Prop:=match x with | some (off,n,_)=>n ≠ 0∧K (.ret (y off)) H | none=>False
theorem ZgV (f:Nat) (cs:List VV):Yt P t (.iptr cs) f H K=faA (flT P t f) (fun off=>.iptr (cs.drop off)) H K:=by
 unfold Yt faA; cases flT P t f<;>rfl
theorem Jo (f r o:Nat):Yt P t (.lit (.pointer (some ⟨r,o,none⟩))) f H K=faA (flT P t f) (fun off=>.lit (.pointer (some ⟨r,o+off,none⟩))) H K:=by
 unfold Yt faA; cases flT P t f<;>rfl
theorem Jj (off n:Nat) (ag:Bool) (y:Nat→VV):faA (some (off,n,ag)) y H K=(n ≠ 0∧K (.ret (y off)) H):=rfl
def stA (z:Option Nat) (b:Option Blk) (r o:Nat) (xs:List VV) (H:AH) (K:VE→AH→Prop):Prop :=
 match b with
 | some (.cells e cs sp)=>z=some xs.length∧xs.all VV.one=true∧o+xs.length≤cs.length∧K (.ret ZJ) (H.set r (.cells e (setAt cs o xs) sp))
 | _=>False
theorem Zbe (r o:Nat) (x:VV):Jv P t (.lit (.pointer (some ⟨r,o,none⟩))) x H K=stA (szT P t) (H r) r o x.cells H K:=by
 unfold Jv stA;cases hr:H r with
 | none=>simp only [hr]
 | some b=>cases b<;>simp only [hr]
theorem Zbf (z:Option Nat) (e:TypeId) (cs:List VV) (sp r o:Nat) (xs:List VV):stA z (some (.cells e cs sp)) r o xs H K=(z=some xs.length∧xs.all VV.one=true∧o+xs.length≤cs.length∧K (.ret ZJ) (H.set r (.cells e (setAt cs o xs) sp))):=rfl
def ixA (x:Option (TypeId × Nat × Nat)) (a:VV) (j:Int) (H:AH) (K:VE→AH→Prop):Prop :=
 match x,a with
 | some (_,k,_),.slice _ n cs=>(0≤j∧j<(n:Int))∧K (.ret (.iptr (cs.drop (j.toNat * k)))) H
 | some (_,k,_),.lit (.slice (some ⟨r,o,none⟩) n _)=>(0≤j∧j<(n:Int))∧K (.ret (.lit (.pointer (some ⟨r,o+j.toNat * k,none⟩)))) H
 | _,_=>False
theorem Zeb (ex:Bool) (n:Nat) (cs:List VV) (q:IntKind) (j:Int):Yl P t (.slice ex n cs) (.lit (.int q j)) H K=ixA (elT P t) (.slice ex n cs) j H K:=by
 unfold Yl ixA; cases elT P t<;>rfl
theorem n_ixL (r o n c:Nat) (q:IntKind) (j:Int):Yl P t (.lit (.slice (some ⟨r,o,none⟩) n c)) (.lit (.int q j)) H K=ixA (elT P t) (.lit (.slice (some ⟨r,o,none⟩) n c)) j H K:=by
 unfold Yl ixA; cases elT P t<;>rfl
theorem Zbo (e k b:Nat) (ex:Bool) (n:Nat) (cs:List VV) (j:Int):ixA (some (e,k,b)) (.slice ex n cs) j H K=((0≤j∧j<(n:Int))∧K (.ret (.iptr (cs.drop (j.toNat * k)))) H):=rfl
theorem n_ixA2 (e k b:Nat) (r o n c:Nat) (j:Int):ixA (some (e,k,b)) (.lit (.slice (some ⟨r,o,none⟩) n c)) j H K=((0≤j∧j<(n:Int))∧K (.ret (.lit (.pointer (some ⟨r,o+j.toNat * k,none⟩)))) H):=rfl
theorem ZbQ (ex:Bool) (n:Nat) (cs:List VV):vcLen P t (.slice ex n cs) H K=(elT P t ≠ none∧K (.ret (intV n)) H):=rfl
theorem n_lenL (a:Option Addr) (n c:Nat):vcLen P t (.lit (.slice a n c)) H K=(elT P t ≠ none∧K (.ret (intV n)) H):=rfl
theorem n_lenT (s:ByteArray):vcLen P t (.lit (.string s)) H K=(P.underlying t=some .string∧K (.ret (intV s.size)) H):=rfl
end
section
variable {P:Program} {t:TypeId} {H:AH} {K:VE→AH→Prop} {a a' x x':VV}
@[congr] theorem ldB_congr {x x':Option VV} (h:x=x'):ldB x H K=ldB x' H K:=by rw [h]
@[congr] theorem ldA_congr {x x':Option (Nat × Bool)} {b b':Option Blk} {o o':Nat} (h:x=x') (h2:b=b') (h3:o=o'):ldA x b o H K=ldA x' b' o' H K:=by rw [h,h2,h3]
@[congr] theorem ldC_congr {x x':Option (Nat × Bool)} {cs cs':List VV} (h:x=x') (h2:cs=cs'):ldC x cs H K=ldC x' cs' H K:=by rw [h,h2]
@[congr] theorem faA_congr {x x':Option (Nat × Nat × Bool)} {y:Nat→VV} (h:x=x'):faA x y H K=faA x' y H K:=by rw [h]
@[congr] theorem stA_congr {z z':Option Nat} {b b':Option Blk} {r r' o o':Nat} {xs xs':List VV} (h:z=z') (h2:b=b') (h3:r=r') (h4:o=o') (h5:xs=xs'):stA z b r o xs H K=stA z' b' r' o' xs' H K:=by rw [h,h2,h3,h4,h5]
@[congr] theorem ixA_congr {x x':Option (TypeId × Nat × Nat)} {j j':Int} (h:x=x') (h2:a=a') (h3:j=j'):ixA x a j H K=ixA x' a' j' H K:=by rw [h,h2,h3]
@[congr] theorem vcLoad_congr (h:a=a'):XL P t a H K=XL P t a' H K:=by rw [h]
@[congr] theorem vcStore_congr (h:a=a') (h2:x=x'):Jv P t a x H K=Jv P t a' x' H K:=by rw [h,h2]
@[congr] theorem vcNil_congr (h:a=a'):vcNil a H K=vcNil a' H K:=by rw [h]
@[congr] theorem ZmC {f:Nat} (h:a=a'):Yt P t a f H K=Yt P t a' f H K:=by rw [h]
@[congr] theorem vcField_congr {f:Nat} (h:a=a'):Zai P t a f H K=Zai P t a' f H K:=by rw [h]
@[congr] theorem ZmD (h:a=a') (h2:x=x'):Yl P t a x H K=Yl P t a' x' H K:=by rw [h,h2]
@[congr] theorem vcBin_congr {op:BinOp} {ox oy:Operand} (h:a=a') (h2:x=x'):vcBin P op t ox oy a x H K=vcBin P op t ox oy a' x' H K:=by rw [h,h2]
@[congr] theorem vcUn_congr {op:UnOp} (h:a=a'):vcUn op a H K=vcUn op a' H K:=by rw [h]
@[congr] theorem vcLen_congr (h:a=a'):vcLen P t a H K=vcLen P t a' H K:=by rw [h]
@[congr] theorem Zo0 {i:Nat} (h:a=a'):ZP a i H K=ZP a' i H K:=by rw [h]
@[congr] theorem vcIface_congr (h:a=a'):YN P t a H K=YN P t a' H K:=by rw [h]
@[congr] theorem AppendA_congr (h:a=a') (h2:x=x'):Zam P t a x H K=Zam P t a' x' H K:=by rw [h,h2]
@[congr] theorem vcCopy_congr (h:a=a') (h2:x=x'):Zgo P t a x H K=Zgo P t a' x' H K:=by rw [h,h2]
@[congr] theorem vcCall_congr {ro:Option Nat} {xs xs':List VV} (h:a=a') (h2:xs=xs'):XX P ro a xs H K=XX P ro a' xs' H K:=by rw [h,h2]
@[congr] theorem Zo1 {b:Builtin} {ts:List TypeId} {xs xs':List VV} (h2:xs=xs'):Yy P b ts xs H K=Yy P b ts xs' H K:=by rw [h2]
@[congr] theorem VCalls_congr {f:FuncId} {xs xs':List VV} (h2:xs=xs'):ZU P f xs H K=ZU P f xs' H K:=by rw [h2]
@[congr] theorem vcBuild_congr {ps ps':List (Nat × VV)} (h2:ps=ps'):ZQ P t ps H K=ZQ P t ps' H K:=by rw [h2]
@[congr] theorem ZlG {n:Nat} {ps ps':List (Nat × VV)} (h2:ps=ps'):ZN P t n ps H K=ZN P t n ps' H K:=by rw [h2]
@[congr] theorem allocA_congr {z z':Option (List Value)} {e:TypeId} (h:z=z'):Zkm z e H K=Zkm z' e H K:=by rw [h]
@[congr] theorem makeA_congr {z z':Option (TypeId × Nat × Nat)} (h:z=z') (h2:a=a') (h3:x=x'):makeA P z a x H K=makeA P z' a' x' H K:=by rw [h,h2,h3]
@[congr] theorem makeB_congr {z z':Option (List Value)} {e k b:Nat} {l c l' c':Int} (h:z=z') (h2:l=l') (h3:c=c'):makeB z e k b l c H K=makeB z' e k b l' c' H K:=by rw [h,h2,h3]
@[congr] theorem vcBox_congr {e:TypeId} (h:a=a'):vcBox e a H K=vcBox e a' H K:=by rw [h]
end
section
variable {P:Program} {H H0:AH} {K:VE→AH→Prop}
def PtR (H:AH) (a:VV) (cs:List VV):Prop:=a=.iptr cs∨∃ r o e bs sp,a=ptrV r o∧H r=some (.cells e bs sp)∧bs.drop o=cs
def SlR (H:AH) (v:VV) (n:Nat) (cs:List VV):Prop:=(∃ ex,v=.slice ex n cs)∨(v=.lit (.slice none 0 0)∧n=0∧cs=[])∨∃ r o c e bs sp,v=.lit (.slice (some ⟨r,o,none⟩) n c)∧H r=some (.cells e bs sp)∧bs.drop o=cs
theorem PtR.mono {H H':AH} {a:VV} {cs:List VV} (h:PtR H a cs) (hs:SubH H H'):PtR H' a cs:=by
 rcases h with rfl | ⟨r,o,e,bs,sp,rfl,hr,hd⟩
 ·exact .inl rfl
 ·exact .inr ⟨r,o,e,bs,sp,rfl,hs _ _ hr,hd⟩
theorem SlR.mono {H H':AH} {v:VV} {n:Nat} {cs:List VV} (h:SlR H v n cs) (hs:SubH H H'):SlR H' v n cs:=by
 rcases h with h | h | ⟨r,o,c,e,bs,sp,rfl,hr,hd⟩
 ·exact .inl h
 ·exact .inr (.inl h)
 ·exact .inr (.inr ⟨r,o,c,e,bs,sp,rfl,hs _ _ hr,hd⟩)
theorem SlR.len {t:TypeId} {v:VV} {n:Nat} {cs:List VV} (h:SlR H v n cs) (ht:elT P t ≠ none) (k:K (.ret (intV n)) H):vcLen P t v H K:=by
 rcases h with ⟨ex,rfl⟩ | ⟨rfl,rfl,rfl⟩ | ⟨r,o,c,e,bs,sp,rfl,hr,hd⟩
 ·exact ⟨ht,k⟩
 ·exact ⟨ht,k⟩
 ·exact ⟨ht,k⟩
theorem SlR.index {t e:TypeId} {k b:Nat} {v:VV} {n:Nat} {cs:List VV} (h:SlR H v n cs) (ht:elT P t=some (e,k,b)) {q:IntKind} {j:Int} (h0:0≤j) (h1:j<(n:Int))
 (hk:∀ a,PtR H a (cs.drop (j.toNat * k))→K (.ret a) H):Yl P t v (.lit (.int q j)) H K:=by
 rcases h with ⟨ex,rfl⟩ | ⟨rfl,rfl,rfl⟩ | ⟨r,o,c,e',bs,sp,rfl,hr,hd⟩
 ·simp only [Yl,ht]; exact ⟨⟨h0,h1⟩,hk _ (.inl rfl)⟩
 ·omega
 ·simp only [Yl,ht]; exact ⟨⟨h0,h1⟩,hk _ (.inr ⟨r,_,e',bs,sp,rfl,hr,by rw [← hd,List.drop_drop]⟩)⟩
theorem PtR.field {s:TypeId} {f off n:Nat} {ag:Bool} {a:VV} {cs:List VV} (h:PtR H a cs) (hf:flT P s f=some (off,n,ag)) (hn:n ≠ 0) (hk:∀ a',PtR H a' (cs.drop off)→K (.ret a') H):Yt P s a f H K:=by
 rcases h with rfl | ⟨r,o,e,bs,sp,rfl,hr,hd⟩
 ·simp only [Yt,hf]; exact ⟨hn,hk _ (.inl rfl)⟩
 ·simp only [Yt,hf,ptrV]; exact ⟨hn,hk _ (.inr ⟨r,_,e,bs,sp,rfl,hr,by rw [← hd,List.drop_drop]⟩)⟩
theorem PtR.load {t:TypeId} {n:Nat} {ag:Bool} {a:VV} {cs:List VV} {x:VV} (h:PtR H a cs) (ht:ldT P t=some (n,ag)) (hx:ldV n ag cs=some x) (k:K (.ret x) H):XL P t a H K:=by
 rcases h with rfl | ⟨r,o,e,bs,sp,rfl,hr,hd⟩
 ·simp only [XL,ht,hx]; exact k
 ·simp only [XL,ht,ptrV,hr,hd,hx]; exact k
def ReadF (P:Program) (f:FuncId) (xs:List VV) (x:VV) (H:AH):Prop:=ZU P f xs H (fun e H'=>e=.ret x∧SubH H H')
theorem ReadF.use {f:FuncId} {xs:List VV} {x:VV} (h:ReadF P f xs x H) (k:K (.ret x) H):ZU P f xs H K:=fun S w args hs hx =>
 (h S w args hs hx).mono fun e w' hq=>by
   cases e with
   | returned v =>
     obtain ⟨S',H',y,h1,h2,h3,h4,h5⟩:=hq;cases h4;exact ⟨S',H,_,h1.trans (h2.sub h5).2,(h2.sub h5).1,h3,k⟩
   | panicked ch=>obtain ⟨S',H',h1,h2,h4,h5⟩:=hq; cases h4
   | outgrown=>exact hq
def Wl (P:Program) (f:FuncId) (xs:List VV) (x:VV) (H:AH):Prop:=ZU P f xs H (fun e H'=>∃ y,e=.ret y∧GhV H' y H x)
theorem Wl.use {f:FuncId} {xs:List VV} {x:VV} (h:Wl P f xs x H) (k:K (.ret x) H):ZU P f xs H K:=fun S w args hs hx =>
 (h S w args hs hx).mono fun e w' hq=>by
   cases e with
   | returned v =>
     obtain ⟨S',H',y,h1,h2,h3,z,h4,h5⟩:=hq;cases h4;obtain ⟨S'',g1,g2,g3⟩:=h5 S' w' v h2 h3;exact ⟨S'',H,x,h1.trans g1,g2,g3,k⟩
   | panicked ch=>obtain ⟨S',H',h1,h2,z,h4,h5⟩:=hq; cases h4
   | outgrown=>exact hq
theorem Wl.pure {f:FuncId} {xs:List VV} {x:VV} (h:∀ H,Wl P f xs x H):PureF P f xs x:=fun H=>(h H).use ⟨rfl,rfl⟩
theorem GhV.nil (H:AH):GhV H (.lit (.slice none 0 0)) H (.slice false 0 []):=GhV.own (e:=0) (k:=0) (OwnX.nil H 0 0)
theorem GhV.back {H1 H2 H3:AH} {e:TypeId} {k n:Nat} {v:VV} {cs:List VV} (h:OwnX H1 H2 e k v n cs) (hs:SubH H3 H1):GhV H2 v H3 (.slice false n cs):=(GhV.own h).trans (GhV.forget hs _)
theorem Zkn {t e:TypeId} {ox:Operand} {ex:Bool} {n:Nat} {cs:List VV} (hu:P.underlying t=some (.slice e)) (h:∀ b,(0<n→b=false)→K (.ret (boolV b)) H) :
 vcBin P .eql t ox (.const (.slice none 0 0)) (.slice ex n cs) (.lit (.slice none 0 0)) H K:=by
 unfold vcBin;simp only [Yw];exact ⟨⟨e,hu⟩,.inr (.inl rfl),fun b hb=>h b hb⟩
theorem Za0 {t e:TypeId} {k b:Nat} {zs:List Value} {s x:VV} {n m:Nat} {cs news:List VV} (hel:elT P t=some (e,k,b)) (hz:zeroT P e=some zs) (hzk:zs.length=k) (hk:0<k) (ho:OwnX H0 H e k s n cs) (hs:srcV H k x=some (m,news))
 (hone:news.all VV.one=true) (hb:(n+m) * b≤140737488355328) (h63:n+m≤9223372036854775807) (hK:∀ v' H',OwnX H0 H' e k v' (n+m) (cs++news)→K (.ret v') H'):Zam P t s x H K :=
 .inl ⟨e,k,b,zs,H0,n,cs,m,news,hel,hz,hzk,hk,ho,hs,hone,hb,h63,hK⟩
theorem Ww {t e:TypeId} {k b:Nat} {zs:List Value} {x:VV} {n m:Nat} {cs news:List VV} (hel:elT P t=some (e,k,b)) (hz:zeroT P e=some zs) (hzk:zs.length=k) (hk:0<k) (hcl:cs.length=n * k) (hs:srcV H k x=some (m,news))
 (hone:news.all VV.one=true) (hb:(n+m) * b≤140737488355328) (h63:n+m≤9223372036854775807) (h0:m=0→K (.ret (.slice true n cs)) H) (hK:m ≠ 0→∀ v' H',OwnX H H' e k v' (n+m) (cs++news)→K (.ret v') H'):Zam P t (.slice true n cs) x H K :=
 .inr (.inl ⟨e,k,b,zs,n,cs,m,news,hel,hz,hzk,hk,rfl,hcl,hs,hone,hb,h63,h0,hK⟩)
theorem OwnX.alloc {e:TypeId} {k n r:Nat} {v:VV} {cs:List VV} (h:OwnX H0 H e k v n cs) (hr:H r=none) (b:Blk):OwnX (H0.set r b) (H.set r b) e k v n cs:=by
 rcases h with ⟨rfl,rfl,rfl,rfl⟩ | ⟨g,c,sp,rfl,h0,rfl,h1,h2,h3,h4⟩
 ·exact .inl ⟨rfl,rfl,rfl,rfl⟩
 ·rw [AH.set_none] at hr;refine .inr ⟨g,c,sp,rfl,?_,AH.comm _ _ hr.1.1,h1,h2,h3,h4⟩;rw [AH.get,if_neg hr.1.2]; exact h0
theorem OwnX.sub {e:TypeId} {k n:Nat} {v:VV} {cs:List VV} (h:OwnX H0 H e k v n cs):SubH H0 H:=by
 rcases h with ⟨rfl,rfl,rfl,rfl⟩ | ⟨g,c,sp,rfl,h0,rfl,h1,h2,h3,h4⟩
 ·exact SubH.refl _
 ·exact SubH.new h0
theorem OwnX.read {e:TypeId} {k n:Nat} {v:VV} {cs:List VV} (h:OwnX H0 H e k v n cs):SlR H v n cs:=by
 rcases h with ⟨rfl,rfl,rfl,rfl⟩ | ⟨g,c,sp,rfl,h0,rfl,h1,h2,h3,h4⟩
 ·exact .inr (.inl ⟨rfl,rfl,rfl⟩)
 ·exact .inr (.inr ⟨g,0,c,e,cs,sp,rfl,AH.set_same _ _ _,by simp⟩)
theorem OwnX.shrink {H1:AH} {e:TypeId} {k n:Nat} {v:VV} {cs:List VV} (h:OwnX H0 H e k v n cs) (hs:SubH H1 H0):∃ H',OwnX H1 H' e k v n cs∧SubH H' H:=by
 rcases h with ⟨rfl,rfl,rfl,rfl⟩ | ⟨g,c,sp,rfl,h0,rfl,h1,h2,h3,h4⟩
 ·exact ⟨H1,.inl ⟨rfl,rfl,rfl,rfl⟩,hs⟩
 ·exact ⟨H1.set g (.cells e cs sp),.inr ⟨g,c,sp,rfl,hs.none h0,rfl,h1,h2,h3,h4⟩,hs.set _ _⟩
theorem SubH.del {H1 H2:AH} (h:SubH H1 H2) {g:Nat} (hg:H1 g=Option.none):SubH H1 (H2.del g):=fun r b hb=>by
 rw [AH.del_ne _ (fun e=>by rw [e,hg] at hb; cases hb)]; exact h r b hb
theorem GhV.row {H1:AH} {g e:Nat} {n c:Nat} {cs:List VV} {sp:Nat} {z:VV} (hg:H g=some (.cells e cs sp)) (hc:n≤c) (hs:SubH H1 H) (hn:H1 g=none):GhV H (.agg [.lit (.slice (some ⟨g,0,none⟩) n c),z]) H1 (.agg [.slice false n cs,z]) :=
 GhV.agg (GhL.cons (GhV.slice hg hc) (GhL.cons (GhV.forget (hs.del hn) z) (GhL.nil _)))
theorem ZcU {t:Nat→VV} {a:Nat} {ty e:TypeId} {n r o sp:Nat} {ag:Bool} {cs:List VV} {x:VV} (hl:ldT P ty=some (n,ag)) (ha:t a=.lit (.pointer (some ⟨r,o,none⟩))) (hr:H r=some (.cells e cs sp)) (hx:ldV n ag (cs.drop o)=some x) (h:K (.ret x) H):YP P [.cell a ty] K .ret ⟨t,[]⟩ H :=
 ⟨rfl,x,H,x,by simp only [resV,Xi,Xh,hl,ha,hr,hx,ZpH,Zps,tupV],.refl _ _,h⟩
end
def ZF:=And.intro @Wj (And.intro @Xx (And.intro @Xy (And.intro @Zbm (And.intro @Xm (And.intro @Xc (And.intro @XI (And.intro @YS (And.intro @Zkg (And.intro @ZaU (And.intro @Zin (And.intro @WO (And.intro @XA (And.intro @Yo (And.intro @ZaV (And.intro @ZaK (And.intro @ZfJ (And.intro @ZbB (And.intro @ZbC (And.intro @Ys (And.intro @ZgQ (And.intro @WK (And.intro @ZgR (And.intro @Zb9 (And.intro @ZoY (And.intro @Zgm (And.intro @s_inP (And.intro @YJ (And.intro @ZmO (And.intro @YG (And.intro @WP (And.intro @YH (And.intro @WQ (And.intro @YI (And.intro @YT (And.intro @Wk (And.intro @ZI (And.intro @YV (And.intro @YB (And.intro @JL (And.intro @ZaW (And.intro @Zct (And.intro @YR (And.intro @Wu (And.intro @Wy (And.intro @Wc (And.intro @s_un (And.intro @ZiL (And.intro @XQ (And.intro @Zax (And.intro @Zdz (And.intro @ZbX (And.intro @Wz (And.intro @ZjP (And.intro @Yj (And.intro @Xv (And.intro @ZbY (And.intro @Wo (And.intro @Jy (And.intro @Xk (And.intro @Znp (And.intro @YX (And.intro @ZjQ (And.intro @Zd7 (And.intro @ZhE (And.intro @ZoZ (And.intro @JM (And.intro @XW (And.intro @WH (And.intro @ZiN (And.intro @YK (And.intro @Zab (And.intro @ZaL (And.intro @ZiO (And.intro @Wv (And.intro @XR (And.intro @Zns (And.intro @Jl (And.intro @Znt (And.intro @XS (And.intro @Zaz (And.intro @Zay (And.intro @Zcu (And.intro @ZgT (@ZgU))))))))))))))))))))))))))))))))))))))))))))))))))))))))))))))))))))))))))))))))))))
def ZG:=And.intro @List.map_cons.{0,0} (And.intro @List.map_nil.{0,0} (And.intro @List.length_cons.{0} (And.intro @List.length_nil.{0} (And.intro @List.getD_cons_zero.{0} (And.intro @List.getD_cons_succ.{0} (And.intro @List.getD_nil.{0} (And.intro @List.cons_append.{0} (And.intro @List.nil_append.{0} (And.intro @List.append_nil.{0} (And.intro @ite_true.{1} (And.intro @ite_false.{1} (And.intro @ne_eq.{1} (And.intro @not_false_eq_true (And.intro @not_true_eq_false (And.intro @true_and (And.intro @and_true (And.intro @List.drop_succ_cons.{0} (And.intro @List.drop_zero.{0} (And.intro @ZpT (And.intro @Zpv (And.intro @decide_true (And.intro @decide_false (And.intro @Bool.not_true (And.intro @Bool.not_false (And.intro @Bool.false_and (And.intro @Int.natCast_nonneg (And.intro @ZpW (And.intro @Nat.mul_one (And.intro @AH.get (And.intro @AH.set_set (And.intro @List.all_cons.{0} (And.intro @List.all_nil.{0} (And.intro @Zp3 (And.intro @eq_self.{1} (And.intro @Zpu (And.intro @ZpO (And.intro @and_self (And.intro @List.getElem?_cons_zero.{0} (And.intro @List.getElem?_cons_succ.{0} (And.intro @We (And.intro @Zkl (And.intro @XY (And.intro @ZmR (And.intro @Int.ofNat_lt (And.intro @ZeV (And.intro @JH (And.intro @Znv (And.intro @cl_str (And.intro @JS (And.intro @Zkj (And.intro @cl_sl (And.intro @ZlY (And.intro @Zkk (And.intro @Xw (And.intro @JN (And.intro @on_iptr (And.intro @List.set_cons_zero.{0} (And.intro @List.set_cons_succ.{0} (And.intro @Xt (And.intro @Zpl (And.intro @Zbc (And.intro @Wf (And.intro @ZgV (And.intro @Jo (And.intro @Zeb (And.intro @n_ixL (And.intro @Zbo (And.intro @n_ixA2 (And.intro @ZbQ (And.intro @n_lenL (And.intro @Wg (And.intro @Zbd (And.intro @XF (And.intro @Jj (And.intro @Zbe (And.intro @Zbf (And.intro @List.replicate_succ.{0} (And.intro @List.replicate_zero.{0} (And.intro @List.flatten_cons.{0} (@List.flatten_nil.{0}))))))))))))))))))))))))))))))))))))))))))))))))))))))))))))))))))))))))))))))))
end Go.PV
end
section
open List renaming length_take→ZpX
namespace Go.PV
open Go
theorem GhL.append {H H' H'':AH}:∀ {xs xs' ys ys':List VV},xs.length=xs'.length→GhL H xs H' xs'→GhL H' ys H'' ys'→GhL H (xs++ys) H'' (xs'++ys'):=by
 intro xs xs' ys ys' hl h k S w us hs hx
 have split:∀ (xs:List VV) {S:Nat→Prop} {ys:List VV} {us:List Value},RvL S w (xs++ys) us→∃ u1 u2,us=u1++u2∧RvL S w xs u1∧RvL S w ys u2:=by
  intro xs
  induction xs with
  | nil=>intro S ys us h; exact ⟨[],us,rfl,rfl,h⟩
  | cons x xs ih =>
    intro S ys us h;obtain ⟨u,us',rfl,h1,h2⟩:=h;obtain ⟨u1,u2,rfl,h3,h4⟩:=ih h2;exact ⟨u::u1,u2,rfl,⟨u,u1,rfl,h1,h3⟩,h4⟩
 have join:∀ (xs:List VV) {S:Nat→Prop} {ys:List VV} {u1 u2:List Value},RvL S w xs u1→RvL S w ys u2→RvL S w (xs++ys) (u1++u2):=by
  intro xs
  induction xs with
  | nil=>intro S ys u1 u2 h k; obtain rfl:u1=[]:=h; exact k
  | cons x xs ih =>
    intro S ys u1 u2 h k;obtain ⟨u,us',rfl,h1,h2⟩:=h;exact ⟨u,us'++u2,rfl,h1,ih h2 k⟩
 obtain ⟨u1,u2,rfl,h1,h2⟩:=split xs hx;obtain ⟨S1,a1,a2,a3⟩:=h S w u1 hs h1;obtain ⟨S2,b1,b2,b3⟩:=k S1 w u2 a2 (h2.step hs a1);exact ⟨S2,a1.trans b1,b2,join xs' (a3.step a2 b1) b3⟩
theorem Ghost.cell {N:Nat} {A:AF} {H H':AH} {r:Nat} {e:TypeId} {cs cs':List VV} {sp:Nat} (hr:H r=some (.cells e cs sp)) (h:GhL (H.del r) cs H' cs'):Ghost N A H A (H'.set r (.cells e cs' sp)):=fun S w a hs hf=>by
 have hsub:SubH (H.del r) H:=fun i b hb=>by
  by_cases e:i=r
  ·subst e; rw [AH.del_same] at hb; cases hb
  ·rw [AH.del_ne _ e] at hb; exact hb
 obtain ⟨s1,s2⟩:=hs.sub hsub;obtain ⟨vs,v1,v2,v3⟩:=hs.blk r _ hr;obtain ⟨S',a1,a2,a3⟩:=h S w _ s1 v3
 have hlt:r<w.heap.size:=by
  refine Nat.lt_of_not_ge fun hn=>?_
  rw [Array.getElem?_eq_none hn] at v1; cases v1
 have hnS:¬ S' r:=fun hS=>by
  rcases a1.snew r hS with h1 | h1 | h1
  ·exact hs.dis r _ hr h1
  ·exact h1 (AH.del_same _ _)
  ·omega
 have l1:(vs.toList.take cs.length).length=cs.length:=by
  have e:vs.toList.length=vs.size:=Array.length_toList;rw [ZpX]; omega
 have hlen:cs'.length=cs.length:=by rw [← a3.length]; exact l1
 refine ⟨S',?_,⟨fun i b hb=>?_,fun i b hb=>?_,a2.lt⟩,?_⟩
 ·have k:=s2.trans a1;refine ⟨k.os,k.tape,k.output,k.size,k.sub,fun _ _ _=>rfl,fun i hi=>?_,fun i hi=>?_⟩
  ·by_cases e:i=r
   ·subst e; exact .inl (by rw [hr]; simp)
   ·rw [AH.get,if_neg e] at hi;exact k.own i hi
  ·exact k.snew i hi
 ·by_cases e:i=r
  ·subst e;rw [AH.set_same] at hb;cases hb;exact ⟨vs,v1,by rw [hlen]; exact v2,by rw [hlen]; exact a3⟩
  ·rw [AH.get,if_neg e] at hb;exact a2.blk i b hb
 ·by_cases e:i=r
  ·subst e; exact hnS
  ·rw [AH.get,if_neg e] at hb;exact a2.dis i b hb
 ·exact ⟨hf.1,hf.2.1,fun j=>((hf.2.2 j).step hs s2).step s1 a1⟩
theorem Zoe {cx:Cx} {Q:APost} {A:AF} {H:AH} {a:ACode} (I:AF→AH→Prop) (μ:AF→AH→Nat) (h0:I A H)
 (round:∀ A H,I A H→ACx cx a (thenA (fun A' H'=>I A' H'∧μ A' H'<μ A H) Q) A H):ACx cx (.loop a) Q A H:=by
 intro c hc;cases c with
 | loop c =>
   simp only [ZS,ACode.loop.injEq] at hc;exact Zng I μ h0 fun A H hI=>round A H hI c hc
 | region id ops draw =>
   exfalso
   unfold ZS YY at hc;split at hc
   ·dsimp only at hc;split at hc
    ·split at hc<;>cases hc
    ·cases hc
   ·split at hc<;>cases hc
 | seq x y=>simp only [ZS] at hc; split at hc<;>cases hc
 | _=>simp [ZS] at hc
end Go.PV
end
section
open List renaming take_of_length_le→ZpD,length_append→Zpy,set_cons_succ→Zp4,drop_eq_nil_of_le→ZpC,append_assoc→Zqc
open Nat renaming le_refl→Zpl,zero_add→Zpu,mul_le_mul_right→Zqg
namespace Go.PV
open Go
theorem ZiQ (a b:ByteArray):(a.toList == b.toList)=decide (a=b):=by
 have h:a.toList=b.toList↔a=b:=by
  rw [ByteArray.toList_eq,ByteArray.toList_eq]
  constructor
  ·intro h; cases a; cases b; simp only [ByteArray.mk.injEq]; exact Array.toList_inj.1 h
  ·rintro rfl; rfl
 rw [Bool.eq_iff_iff];simp [h]
theorem ZaP {P:Program} {H:AH} {KK:VE→AH→Prop} (t:TypeId) (x y:Operand) (a b:ByteArray):vcBin P .eql t x y (.lit (.string a)) (.lit (.string b)) H KK=KK (.ret (.lit (.bool (decide (a=b))))) H:=by
 simp only [vcBin,binV,ZiQ]
theorem XZ {P:Program} {H:AH} {KK:VE→AH→Prop} (t:TypeId) (x y:Operand) (a b:ByteArray):vcBin P .neq t x y (.lit (.string a)) (.lit (.string b)) H KK=KK (.ret (.lit (.bool (!decide (a=b))))) H:=by
 simp only [vcBin,binV,ZiQ]
def OwnF (P:Program) (f:FuncId) (xs:List VV) (H:AH) (e:TypeId) (k n:Nat) (cs:List VV):Prop:=ZU P f xs H (fun r H'=>∃ v Hb,r=.ret v∧SubH H Hb∧OwnX Hb H' e k v n cs)
theorem OwnF.use {P:Program} {f:FuncId} {xs:List VV} {H:AH} {e:TypeId} {k n:Nat} {cs:List VV} {K:VE→AH→Prop} (h:OwnF P f xs H e k n cs) (hK:∀ v H',OwnX H H' e k v n cs→K (.ret v) H'):ZU P f xs H K:=fun S w args hs hx =>
 (h S w args hs hx).mono fun e w' hq=>by
   cases e with
   | returned v =>
     obtain ⟨S',H',y,h1,h2,h3,z,Hb,h4,h5,h6⟩:=hq;cases h4;obtain ⟨H2,g1,g2⟩:=h6.shrink h5;exact ⟨S',H2,_,h1.trans (h2.sub g2).2,(h2.sub g2).1,h3,hK _ _ g1⟩
   | panicked ch=>obtain ⟨S',H',h1,h2,z,Hb,h4,_⟩:=hq; cases h4
   | outgrown=>exact hq
theorem OwnX.put {H0 H:AH} {e:TypeId} {k n r:Nat} {v:VV} {cs:List VV} {b0:Blk} (h:OwnX H0 H e k v n cs) (hr:H0 r=some b0) (b:Blk):OwnX (H0.set r b) (H.set r b) e k v n cs:=by
 rcases h with ⟨rfl,rfl,rfl,rfl⟩ | ⟨g,c,sp,rfl,h0,rfl,h1,h2,h3,h4⟩
 ·exact .inl ⟨rfl,rfl,rfl,rfl⟩
 ·have hg:¬ g=r:=fun e=>by subst e; rw [h0] at hr; cases hr
  refine .inr ⟨g,c,sp,rfl,?_,AH.comm _ _ (fun e=>hg e.symm),h1,h2,h3,h4⟩;rw [AH.get,if_neg hg]; exact h0
theorem OwnX.cells {H0 H:AH} {e:TypeId} {k n:Nat} {v:VV} {cs:List VV} (h:OwnX H0 H e k v n cs):v.cells=[v]∧VV.one v=true:=by
 rcases h with ⟨rfl,_⟩ | ⟨g,c,sp,rfl,_⟩<;>exact ⟨rfl,rfl⟩
theorem OwnX.form {H0 H1:AH} {e:TypeId} {k n:Nat} {v:VV} {cs:List VV} (h:OwnX H0 H1 e k v n cs):∃ a c,v=.lit (.slice a n c):=by
 rcases h with ⟨rfl,rfl,_⟩ | ⟨g,c,sp,rfl,_⟩
 ·exact ⟨none,0,rfl⟩
 ·exact ⟨_,c,rfl⟩
theorem XJ {P:Program} {H0 H:AH} {K:VE→AH→Prop} {t e:TypeId} {k b:Nat} {zs:List Value} {s:VV} {n:Nat} {cs xs:List VV} (hel:elT P t=some (e,k,b)) (hz:zeroT P e=some zs) (hzk:zs.length=k) (hk:0<k) (ho:OwnX H0 H e k s n cs) (hx:xs.length=k)
 (hone:xs.all VV.one=true) (hb:(n+1) * b≤140737488355328) (h63:n+1≤9223372036854775807) (hK:∀ v' H',OwnX H0 H' e k v' (n+1) (cs++xs)→K (.ret v') H'):Zam P t s (.slice true 1 xs) H K:=by
 refine Za0 hel hz hzk hk ho (m:=1) (news:=xs) ?_ hone hb h63 hK;simp only [srcV,Nat.one_mul,hx,Zpl,if_true];rw [ZpD (by omega)]
theorem ZeD {P:Program} {H:AH} {K:VE→AH→Prop} {t e:TypeId} {k b:Nat} {zs:List Value} {n:Nat} {cs xs:List VV} (hel:elT P t=some (e,k,b)) (hz:zeroT P e=some zs) (hzk:zs.length=k) (hk:0<k) (hcl:cs.length=n * k) (hx:xs.length=k)
 (hone:xs.all VV.one=true) (hb:(n+1) * b≤140737488355328) (h63:n+1≤9223372036854775807) (hK:∀ v' H',OwnX H H' e k v' (n+1) (cs++xs)→K (.ret v') H'):Zam P t (.slice true n cs) (.slice true 1 xs) H K:=by
 refine Ww hel hz hzk hk hcl (m:=1) (news:=xs) ?_ hone hb h63 (fun h=>by omega) (fun _=>hK);simp only [srcV,Nat.one_mul,hx,Zpl,if_true];rw [ZpD (by omega)]
structure InB (H0 H:AH) (r:Nat) (T:TypeId) (pre post:List VV) (e k n:Nat) (cs:List VV) (v:VV) (Hb:AH):Prop where
 own:OwnX Hb H e k v n cs
 blk:Hb r=some (.cells T (pre++v::post) 0)
 sub:SubH H0 Hb
 new:H0 r=none
section
variable {H0 H:AH} {r:Nat} {T:TypeId} {pre post:List VV} {e k n:Nat} {cs:List VV} {v:VV} {Hb:AH}
theorem InB.at (h:InB H0 H r T pre post e k n cs v Hb):H r=some (.cells T (pre++v::post) 0):=h.own.sub _ _ h.blk
theorem InB.sub' (h:InB H0 H r T pre post e k n cs v Hb):SubH H0 H:=h.sub.trans h.own.sub
theorem InB.start (hr:H r=some (.cells T (pre++.lit (.slice none 0 0)::post) 0)) (hs:SubH H0 H) (hn:H0 r=none):InB H0 H r T pre post e k 0 [] (.lit (.slice none 0 0)) H:=⟨OwnX.nil _ _ _,hr,hs,hn⟩
theorem InB.alloc (h:InB H0 H r T pre post e k n cs v Hb) {z:Nat} (hz:H z=none) (b:Blk):InB H0 (H.set z b) r T pre post e k n cs v (Hb.set z b):=by
 have hb:Hb z=none:=h.own.sub.none hz;refine ⟨h.own.alloc hz b,?_,h.sub.of_set (h.sub.none hb),h.new⟩;rw [AH.get,if_neg]
 ·exact h.blk
 ·rintro rfl; rw [h.blk] at hb; cases hb
theorem InB.next {v':VV} {H':AH} {n':Nat} {cs':List VV} (h:InB H0 H r T pre post e k n cs v Hb) (ho:OwnX Hb H' e k v' n' cs'):InB H0 (H'.set r (.cells T (pre++v'::post) 0)) r T pre post e k n' cs' v' (Hb.set r (.cells T (pre++v'::post) 0)) :=
 ⟨ho.put h.blk _,AH.set_same _ _ _,h.sub.of_set h.new,h.new⟩
theorem InB.back (h:InB H0 H r T pre post e k n cs v Hb):GhL H (pre++v::post) H0 (pre++.slice false n cs::post):=by
 refine GhL.append rfl (GhL.refl _ _) (GhL.cons ((GhV.own h.own).trans (GhV.forget h.sub _)) (GhL.refl _ _))
theorem InB.ret {r2:Nat} {b2:Blk} (h:InB (H0.set r2 b2) H r T pre post e k n cs v Hb) (n2:H0 r2=none) (b:Blk):GhL (H.set r2 b) (pre++v::post) H0 (pre++.slice false n cs::post):=by
 have hb:=h.sub _ _ (AH.set_same H0 r2 b2);have hs:SubH H0 (Hb.set r2 b):=((SubH.new n2).trans h.sub).of_set n2;exact GhL.append rfl (GhL.refl _ _) (GhL.cons ((GhV.own (h.own.put hb b)).trans (GhV.forget hs _)) (GhL.refl _ _))
theorem InB.cell2 {r2:Nat} {b2:Blk} (h:InB (H0.set r2 b2) H r T pre post e k n cs v Hb):H r2=some b2:=h.sub' _ _ (AH.set_same H0 r2 b2)
end
theorem AH.del_get (H:AH) (r i:Nat):H.del r i=if i=r then none else H i:=rfl
theorem OwnX.del {H0 H:AH} {e:TypeId} {k n r:Nat} {v:VV} {cs:List VV} {b:Blk} (h:OwnX H0 H e k v n cs) (hr:H0 r=some b):OwnX (H0.del r) (H.del r) e k v n cs:=by
 rcases h with ⟨rfl,rfl,rfl,rfl⟩ | ⟨g,c,sp,rfl,h0,rfl,h1,h2,h3,h4⟩
 ·exact .inl ⟨rfl,rfl,rfl,rfl⟩
 ·have hg:¬ g=r:=fun e=>by subst e; rw [h0] at hr; cases hr
  refine .inr ⟨g,c,sp,rfl,?_,?_,h1,h2,h3,h4⟩
  ·rw [AH.del_get,if_neg hg]; exact h0
  ·funext i
   simp only [AH.del_get,AH.get];by_cases e1:i=r
   ·subst e1;rw [if_pos rfl,if_neg (fun e=>hg e.symm),if_pos rfl]
   ·rw [if_neg e1,if_neg e1]
theorem InB.ghost {H0 H:AH} {r:Nat} {T:TypeId} {pre post:List VV} {e k n:Nat} {cs:List VV} {v:VV} {Hb:AH} (h:InB H0 H r T pre post e k n cs v Hb) (N:Nat) (A:AF) :
 Ghost N A H A (H0.set r (.cells T (pre++.slice false n cs::post) 0)):=by
 refine Ghost.cell h.at ?_;have hs:SubH H0 (Hb.del r):=h.sub.del h.new;exact GhL.append rfl (GhL.refl _ _) (GhL.cons ((GhV.own (h.own.del h.blk)).trans (GhV.forget hs _)) (GhL.refl _ _))
theorem OwnX.ghost {H0 H Hb:AH} {e:TypeId} {k n i:Nat} {cs:List VV} {t:Nat→VV} {d:List Deferred} (h:OwnX Hb H e k (t i) n cs) (hs:SubH H0 Hb) (N:Nat) :
 Ghost N ⟨t,d⟩ H ⟨upd t i (.slice false n cs),d⟩ H0:=Ghost.slot (A:=⟨t,d⟩) ((GhV.own h).trans (GhV.forget hs _))
theorem GhL.from {H H1:AH} {H':AH} {xs xs':List VV} (hs:SubH H1 H) (h:GhL H1 xs H' xs'):GhL H xs H' xs':=fun S w us hw hx=>by
 obtain ⟨s1,s2⟩:=hw.sub hs;obtain ⟨S',a1,a2,a3⟩:=h S w us s1 (hx.step hw s2);exact ⟨S',s2.trans a1,a2,a3⟩
theorem GhV.from {H H1:AH} {H':AH} {xs xs':VV} (hs:SubH H1 H) (h:GhV H1 xs H' xs'):GhV H xs H' xs':=fun S w us hw hx=>by
 obtain ⟨s1,s2⟩:=hw.sub hs;obtain ⟨S',a1,a2,a3⟩:=h S w us s1 (hx.step hw s2);exact ⟨S',s2.trans a1,a2,a3⟩
theorem Zof {P:Program} {f:FuncId} {xs:List VV} {x:VV} {H H1:AH} {K:VE→AH→Prop} (h:ZU P f xs H1 (fun e H'=>∃ y,e=.ret y∧GhV H' y H x)) (k:K (.ret x) H):ZU P f xs H1 K:=fun S w args hs hx =>
 (h S w args hs hx).mono fun e w' hq=>by
   cases e with
   | returned v =>
     obtain ⟨S',H',y,h1,h2,h3,z,h4,h5⟩:=hq;cases h4;obtain ⟨S'',g1,g2,g3⟩:=h5 S' w' v h2 h3;exact ⟨S'',H,x,h1.trans g1,g2,g3,k⟩
   | panicked ch=>obtain ⟨S',H',h1,h2,z,h4,h5⟩:=hq; cases h4
   | outgrown=>exact hq
theorem RvC.pre {S:Nat→Prop} {w:World}:∀ {xs ys:List VV} {r o:Nat},RvC S w (xs++ys) r o→RvC S w xs r o
 | [],_,_,_,_=>trivial
 | x::xs,ys,r,o,h=>⟨h.1,RvC.pre h.2⟩
theorem GhV.trunc (H:AH) (ex:Bool) (n:Nat) (xs ys:List VV):GhV H (.slice ex n (xs++ys)) H (.slice ex n xs):=fun S w u hs hx=>by
 obtain ⟨a,cap,rfl,h1,h2⟩:=hx;refine ⟨S,.refl _ _ _,hs,a,cap,rfl,h1,fun hn=>?_⟩;obtain ⟨r,o,e,hr,hc⟩:=h2 hn;exact ⟨r,o,e,hr,hc.pre⟩
theorem ZdD {cx:Cx} {c:Code} {a:ACode} {Q:APost} {A:AF} {H:AH} (h:ZS cx.P c=a) (k:ACx cx a Q A H):AC cx c Q A H:=k c h
theorem Zec {α:Type} {enc:α→List VV} {k:Nat} (hk:∀ x,(enc x).length=k):∀ {l:List α} {i:Nat} (x:α),i<l.length→setAt (encC enc l) (i * k) (enc x)=encC enc (l.set i x)
 | y::l,0,x,_=>by
   rw [ZbJ _ _ _ (by rw [Yh,Zpy,hk,hk]; omega)];rw [Nat.zero_mul,List.take_zero,List.nil_append,Zpu,Yh,List.drop_append,hk,← hk y,List.drop_length,Nat.sub_self];rfl
 | y::l,i+1,x,h=>by
   have h':i<l.length:=by simpa using h
   have ih:=Zec hk x h';have hl:=XU hk l
   have hle:i * k+(enc x).length≤(encC enc l).length:=by
    rw [hl,hk]
    have:(i+1) * k≤l.length * k:=Zqg k (by omega)
    rw [Nat.succ_mul] at this; exact this
   rw [ZbJ _ _ _ hle] at ih;have hy:=hk y;rw [ZbJ _ _ _ (by rw [Yh,Zpy,Nat.succ_mul]; omega)];rw [Zp4,Yh,Yh,← ih,Nat.succ_mul,Nat.add_comm (i * k) k,List.take_append,List.drop_append,hy];have e1:(enc y).take (k+i * k)=enc y:=ZpD (by rw [hk]; omega);have e2:k+i * k-k=i * k:=by omega
   have e3:(enc y).drop (k+i * k+(enc x).length)=[]:=ZpC (by rw [hk]; omega);have e4:k+i * k+(enc x).length-k=i * k+(enc x).length:=by omega
   rw [e1,e2,e3,e4];simp [Zqc]
theorem none_ne {H:AH} {r i:Nat} {b:Blk} (h:H i=some b) (hr:H r=none):¬ r=i:=fun e=>by rw [e,h] at hr; cases hr
end Go.PV
end
section
open List renaming cons_append→Zp6,length_cons→Zpx,map_cons→Zpp
open Nat renaming le_refl→Zpl
namespace Go.PV.Ytglpmlbbaedbiaa
open Go Go.Proofs
abbrev sV (s:ByteArray):VV:=.lit (.string s)
abbrev bV (b:Bool):VV:=.lit (.bool b)
inductive Ex where
 | mk (op:Int) (name:ByteArray) (kids:List Ex)
def Ex.op:Ex→Int | .mk o _ _=>o
def Ex.name:Ex→ByteArray | .mk _ n _=>n
def Ex.kids:Ex→List Ex | .mk _ _ k=>k
theorem Ex.eta (e:Ex):Ex.mk e.op e.name e.kids=e:=by cases e; rfl
mutual
def exE:Ex→List VV
 | .mk op n ks=>[iV op,sV n,.slice false ks.length (exsE ks)]
def exsE:List Ex→List VV
 | []=>[]
 | k::ks=>exE k++exsE ks
end
theorem Znz:∀ ks,exsE ks=encC exE ks
 | []=>rfl
 | k::ks=>by rw [exsE,Yh,Znz ks]
theorem WU (e:Ex):exE e=[iV e.op,sV e.name,encS exE e.kids]:=by
 cases e; rw [exE,Znz]; rfl
abbrev exV (e:Ex):VV:=.agg [iV e.op,sV e.name,encS exE e.kids]
abbrev exsV (l:List Ex):VV:=encS exE l
theorem Zbv (e:Ex):(exE e).length=3:=by rw [WU]; rfl
theorem WL {l:List Ex} {i:Nat} (hi:i<l.length):(encC exE l).drop (i * 3)=iV l[i].op::sV l[i].name::encS exE l[i].kids::encC exE (l.drop (i+1)):=by
 rw [Zac Zbv hi,WU]; rfl
mutual
def Ex.sz:Ex→Nat
 | .mk _ _ ks=>1+exsSz ks
def exsSz:List Ex→Nat
 | []=>0
 | k::ks=>k.sz+exsSz ks
end
mutual
def Ex.dp:Ex→Nat
 | .mk _ _ ks=>exsDp ks+1
def exsDp:List Ex→Nat
 | []=>0
 | k::ks=>max k.dp (exsDp ks)
end
theorem Ex.sz_eq (e:Ex):e.sz=1+exsSz e.kids:=by cases e; rfl
theorem Ex.dp_eq (e:Ex):e.dp=exsDp e.kids+1:=by cases e; rfl
theorem Ex.sz_pos (e:Ex):0<e.sz:=by rw [e.sz_eq]; omega
theorem ZeE:∀ (l m:List Ex),exsSz (l++m)=exsSz l+exsSz m
 | [],m=>by simp [exsSz]
 | k::l,m=>by rw [Zp6,exsSz,exsSz,ZeE l m]; omega
theorem YL:∀ (l:List Ex),l.length≤exsSz l
 | []=>by simp [exsSz]
 | k::l=>by have:=YL l; have:=k.sz_pos; rw [exsSz,Zpx]; omega
theorem ZX {e:Ex}:∀ {l:List Ex},e∈l→e.sz≤exsSz l
 | k::l,h=>by
   rw [exsSz];rcases List.mem_cons.1 h with rfl | h
   ·omega
   ·have:=ZX h; omega
mutual
theorem Ex.dp_le:∀ e:Ex,e.dp≤e.sz
 | .mk _ _ ks=>by have:=Zlh ks; rw [Ex.dp,Ex.sz]; omega
theorem Zlh:∀ l:List Ex,exsDp l≤exsSz l
 | []=>by simp [exsDp]
 | k::l=>by have:=Ex.dp_le k; have:=Zlh l; rw [exsDp,exsSz]; omega
end
theorem Ex.ind {p:Ex→Prop} (h:∀ e:Ex,(∀ k∈e.kids,p k)→p e) (e:Ex):p e:=by
 have:∀ n (e:Ex),e.sz≤n→p e:=by
  intro n
  induction n with
  | zero=>intro e he; have:=e.sz_pos; omega
  | succ n ih=>intro e he; exact h e fun k hk=>ih k (by have:=ZX hk; have:=e.sz_eq; omega)
 exact this e.sz e (Zpl _)
inductive Pa where
 | mk (con:Bool) (name:ByteArray) (kids:List Pa)
def Pa.con:Pa→Bool | .mk o _ _=>o
def Pa.name:Pa→ByteArray | .mk _ n _=>n
def Pa.kids:Pa→List Pa | .mk _ _ k=>k
theorem Pa.eta (e:Pa):Pa.mk e.con e.name e.kids=e:=by cases e; rfl
mutual
def paE:Pa→List VV
 | .mk c n ks=>[bV c,sV n,.slice false ks.length (pasE ks)]
def pasE:List Pa→List VV
 | []=>[]
 | k::ks=>paE k++pasE ks
end
theorem ZnA:∀ ks,pasE ks=encC paE ks
 | []=>rfl
 | k::ks=>by rw [pasE,Yh,ZnA ks]
theorem Zko (e:Pa):paE e=[bV e.con,sV e.name,encS paE e.kids]:=by
 cases e; rw [paE,ZnA]; rfl
abbrev paV (e:Pa):VV:=.agg [bV e.con,sV e.name,encS paE e.kids]
abbrev pasV (l:List Pa):VV:=encS paE l
theorem ZjR (e:Pa):(paE e).length=3:=by rw [Zko]; rfl
theorem WM {l:List Pa} {i:Nat} (hi:i<l.length):(encC paE l).drop (i * 3)=bV l[i].con::sV l[i].name::encS paE l[i].kids::encC paE (l.drop (i+1)):=by
 rw [Zac ZjR hi,Zko]; rfl
mutual
def Pa.sz:Pa→Nat
 | .mk _ _ ks=>1+pasSz ks
def pasSz:List Pa→Nat
 | []=>0
 | k::ks=>k.sz+pasSz ks
end
theorem Pa.sz_eq (e:Pa):e.sz=1+pasSz e.kids:=by cases e; rfl
theorem Pa.sz_pos (e:Pa):0<e.sz:=by rw [e.sz_eq]; omega
theorem ZeF:∀ (l m:List Pa),pasSz (l++m)=pasSz l+pasSz m
 | [],m=>by simp [pasSz]
 | k::l,m=>by rw [Zp6,pasSz,pasSz,ZeF l m]; omega
theorem XG:∀ (l:List Pa),l.length≤pasSz l
 | []=>by simp [pasSz]
 | k::l=>by have:=XG l; have:=k.sz_pos; rw [pasSz,Zpx]; omega
theorem Xd {e:Pa}:∀ {l:List Pa},e∈l→e.sz≤pasSz l
 | k::l,h=>by
   rw [pasSz];rcases List.mem_cons.1 h with rfl | h
   ·omega
   ·have:=Xd h; omega
theorem Pa.ind {p:Pa→Prop} (h:∀ e:Pa,(∀ k∈e.kids,p k)→p e) (e:Pa):p e:=by
 have:∀ n (e:Pa),e.sz≤n→p e:=by
  intro n
  induction n with
  | zero=>intro e he; have:=e.sz_pos; omega
  | succ n ih=>intro e he; exact h e fun k hk=>ih k (by have:=Xd hk; have:=e.sz_eq; omega)
 exact this e.sz e (Zpl _)
structure Cl where
 pats:List Pa
 body:Ex
abbrev clE (c:Cl):List VV:=[pasV c.pats,iV c.body.op,sV c.body.name,exsV c.body.kids]
abbrev clV (c:Cl):VV:=.agg (clE c)
abbrev clsV (l:List Cl):VV:=encS clE l
theorem ZdE {l:List Cl} {i:Nat} (hi:i<l.length):(encC clE l).drop (i * 4)=pasV l[i].pats::iV l[i].body.op::sV l[i].body.name::exsV l[i].body.kids::encC clE (l.drop (i+1)):=Zac (enc:=clE) (k:=4) (fun _=>rfl) hi
structure Fu where
 name:ByteArray
 arity:Int
 cls:List Cl
abbrev fuE (c:Fu):List VV:=[sV c.name,iV c.arity,clsV c.cls]
abbrev fuV (c:Fu):VV:=.agg (fuE c)
abbrev fusV (l:List Fu):VV:=encS fuE l
theorem Jg {l:List Fu} {i:Nat} (hi:i<l.length):(encC fuE l).drop (i * 3)=sV l[i].name::iV l[i].arity::clsV l[i].cls::encC fuE (l.drop (i+1)):=Zac (enc:=fuE) (k:=3) (fun _=>rfl) hi
structure Co where
 name:ByteArray
 arity:Int
abbrev coE (c:Co):List VV:=[sV c.name,iV c.arity]
abbrev cosV (l:List Co):VV:=encS coE l
theorem ZdF {l:List Co} {i:Nat} (hi:i<l.length):(encC coE l).drop (i * 2)=sV l[i].name::iV l[i].arity::encC coE (l.drop (i+1)):=Zac (enc:=coE) (k:=2) (fun _=>rfl) hi
structure Pr where
 cons:List Co
 funs:List Fu
abbrev prV (p:Pr):VV:=.agg [cosV p.cons,fusV p.funs]
def clSz (c:Cl):Nat:=1+pasSz c.pats+c.body.sz
def clsSz (l:List Cl):Nat:=(l.map clSz).sum
def fuSz (f:Fu):Nat:=1+clsSz f.cls
def fusSz (l:List Fu):Nat:=(l.map fuSz).sum
theorem Jz {α:Type} {f:α→Nat} {x:α}:∀ {l:List α},x∈l→f x≤(l.map f).sum
 | y::l,h=>by
   rw [Zpp,List.sum_cons];rcases List.mem_cons.1 h with rfl | h
   ·omega
   ·have:=Jz (f:=f) h; omega
theorem Zcl {α:Type} {f:α→Nat} (hf:∀ x,0<f x):∀ (l:List α),l.length≤(l.map f).sum
 | []=>by simp
 | y::l=>by have:=Zcl hf l; have:=hf y; rw [Zpp,List.sum_cons,Zpx]; omega
theorem Ze7 (c:Cl):0<clSz c:=by unfold clSz; omega
theorem Zli (c:Fu):0<fuSz c:=by unfold fuSz; omega
abbrev Bd:=ByteArray × Ex
abbrev bdE (b:Bd):List VV:=[sV b.1,iV b.2.op,sV b.2.name,exsV b.2.kids]
abbrev bdsV (l:List Bd):VV:=encS bdE l
theorem ZjS {l:List Bd} {i:Nat} (hi:i<l.length):(encC bdE l).drop (i * 4)=sV l[i].1::iV l[i].2.op::sV l[i].2.name::exsV l[i].2.kids::encC bdE (l.drop (i+1)):=Zac (enc:=bdE) (k:=4) (fun _=>rfl) hi
abbrev strE (s:ByteArray):List VV:=[sV s]
abbrev strsV (l:List ByteArray):VV:=encS strE l
theorem Ze8 {l:List ByteArray} {i:Nat} (hi:i<l.length):(encC strE l).drop i=sV l[i]::encC strE (l.drop (i+1)):=ZaZ (enc:=fun s:ByteArray=>sV s) hi
theorem YM {α:Type} {l:List α} {i:Nat} (h:i<l.length):l.take (i+1)=l.take i++[l[i]]:=List.take_succ_eq_append_getElem h
end Go.PV.Ytglpmlbbaedbiaa
end
