/- Part 3 of 11 of what the proof of Runs needs. -/
import Derived.Test.YtglpmlbbaedbiaaGreatRuns2
import Derived.Test.YtglpmlbbaedbiaaGreatProg
import Derived.KernelRfl
set_option linter.unusedVariables false
set_option linter.unusedSimpArgs false
set_option linter.defProp false
section
set_option maxRecDepth 100000
namespace Go.PV.YtglpmlbbaedbiaaGreat
open Go Go.Proofs
def Za (d s:Nat):GOp:=⟨some d,.move (.tmp s),none⟩
def Zb (d:Nat) (T:TypeId) (s:Nat):GOp:=⟨some d,.load T (.tmp s),none⟩
def Zc (d s:Nat):GOp:=⟨some d,.assign (.tmp s),none⟩
def Zd (d:Nat) (T:TypeId) (s f:Nat):GOp:=⟨some d,.fieldAddr T (.tmp s) f,none⟩
def Ze (d s:Nat) (T:TypeId):GOp:=⟨some d,.call { callee:=.builtin .len,args:=#[.tmp s],argTypes:=#[T] },none⟩
def Zf (d:Nat) (n:Int):GOp:=⟨some d,.assign (.const (.int .i64 n)),none⟩
def Zg (T:TypeId) (a b:Nat):GOp:=⟨none,.store T (.tmp a) (.tmp b),none⟩
def Zh (d s i:Nat):GOp:=⟨some d,.extract (.tmp s) i,none⟩
def Zi (d:Nat) (T:TypeId):GOp:=⟨some d,.alloc T,none⟩
def Zj (d:Nat) (T:TypeId) (s:Nat):GOp:=⟨some d,.box T (.tmp s),none⟩
def Zk (d:Nat) (T:TypeId) (s i:Nat):GOp:=⟨some d,.indexAddr T (.tmp s) (.tmp i),none⟩
def Zl (d a b:Nat) (T:TypeId):GOp:=⟨some d,.call { callee:=.builtin .append,args:=#[.tmp a,.tmp b],argTypes:=#[T,T] },none⟩
def Zm (d:Nat) (o:BinOp) (T:TypeId) (a:Nat) (n:Int):GOp:=⟨some d,.binOp o T (.tmp a) (.const (.int .i64 n)) T,none⟩
def Zn (d:Nat) (o:BinOp) (T:TypeId) (a b:Nat):GOp:=⟨some d,.binOp o T (.tmp a) (.tmp b) T,none⟩
def Zo (d f:Nat) (l:Array Operand) (T:Array TypeId):GOp:=⟨some d,.call { callee:=.value (.func f),args:=l,argTypes:=T },none⟩
def Zp (d:Nat) (x:Op) (g:Nat) (b:Bool):GOp:=⟨some d,x,some (g,b)⟩
def Zq (d:Nat) (x:Op):GOp:=⟨some d,x,none⟩
def Zr (s:Nat):Operand:=.tmp s
theorem mixed:Tryz.prog.follows .mixedOrders=true:=by kernel_rfl
theorem Yd:ldT Tryz.prog 28=some (3,true):=by kernel_rfl
theorem en_5:ZF Tryz.prog 5=true:=by kernel_rfl
theorem Xn:ldT Tryz.prog 25=some (2,true):=by kernel_rfl
theorem en_6:ZF Tryz.prog 6=true:=by kernel_rfl
theorem en_7:ZF Tryz.prog 7=true:=by kernel_rfl
theorem Zco:szT Tryz.prog 37=some 4:=by kernel_rfl
theorem Zcp:zeroT Tryz.prog 37=some [(.int .i64 0),(.string ⟨#[]⟩),(.slice none 0 0),(.int .i64 0)]:=by kernel_rfl
theorem en_8:ZF Tryz.prog 8=true:=by kernel_rfl
theorem Zmd:ZF Tryz.prog 10=true:=by kernel_rfl
theorem en_9:ZF Tryz.prog 9=true:=by kernel_rfl
theorem Zpo:ZF Tryz.prog 11=true:=by kernel_rfl
theorem ZaV:zeroT Tryz.prog 48=some [(.int .i64 0),(.string ⟨#[]⟩),(.slice none 0 0),(.int .i64 0)]:=by kernel_rfl
theorem ZbW:szT Tryz.prog 48=some 4:=by kernel_rfl
theorem en_12:ZF Tryz.prog 12=true:=by kernel_rfl
theorem en_13:ZF Tryz.prog 13=true:=by kernel_rfl
theorem ZlE:flT Tryz.prog 37 0=some (0,3,true):=by kernel_rfl
theorem YZ:ldT Tryz.prog 35=some (3,true):=by kernel_rfl
theorem ZlF:flT Tryz.prog 48 0=some (0,3,true):=by kernel_rfl
theorem en_14:ZF Tryz.prog 14=true:=by kernel_rfl
theorem flT_37_1:flT Tryz.prog 37 1=some (3,1,false):=by kernel_rfl
theorem ZQ:ldT Tryz.prog 3=some (1,false):=by kernel_rfl
theorem flT_48_1:flT Tryz.prog 48 1=some (3,1,false):=by kernel_rfl
theorem Zbh:szT Tryz.prog 35=some 3:=by kernel_rfl
theorem Wj:zeroT Tryz.prog 35=some [(.int .i64 0),(.string ⟨#[]⟩),(.slice none 0 0)]:=by kernel_rfl
theorem Yc:zeroT Tryz.prog 28=some [(.int .i64 0),(.string ⟨#[]⟩),(.slice none 0 0)]:=by kernel_rfl
theorem YE:szT Tryz.prog 28=some 3:=by kernel_rfl
theorem Zme:ZF Tryz.prog 19=true:=by kernel_rfl
theorem WR:flT Tryz.prog 25 0=some (0,1,false):=by kernel_rfl
theorem Za6:ldT Tryz.prog 22=some (1,false):=by kernel_rfl
theorem JJ:elT Tryz.prog 22=some (102,2,24):=by kernel_rfl
theorem Xp:flT Tryz.prog 25 1=some (1,1,false):=by kernel_rfl
theorem WS:ldT Tryz.prog 23=some (1,false):=by kernel_rfl
theorem Wp:elT Tryz.prog 23=some (67,3,48):=by kernel_rfl
theorem ZaB:ldT Tryz.prog 67=some (3,true):=by kernel_rfl
theorem ZaW:zeroT Tryz.prog 67=some [(.string ⟨#[]⟩),(.int .i64 0),(.slice none 0 0)]:=by kernel_rfl
theorem Zeo:szT Tryz.prog 67=some 3:=by kernel_rfl
theorem en_20:ZF Tryz.prog 20=true:=by kernel_rfl
theorem en_21:ZF Tryz.prog 21=true:=by kernel_rfl
theorem en_22:ZF Tryz.prog 22=true:=by kernel_rfl
theorem en_23:ZF Tryz.prog 23=true:=by kernel_rfl
theorem stT_74:stT Tryz.prog 74=some ([(.bool false),(.string ⟨#[]⟩),(.slice none 0 0)],[(0,1),(1,1),(2,1)]):=by kernel_rfl
theorem Jy:zeroT Tryz.prog 74=some [(.bool false),(.string ⟨#[]⟩),(.slice none 0 0)]:=by kernel_rfl
theorem Zep:szT Tryz.prog 74=some 3:=by kernel_rfl
theorem zeroT_44:zeroT Tryz.prog 44=some [(.slice none 0 0),(.slice none 0 0)]:=by kernel_rfl
theorem Zbi:elT Tryz.prog 42=some (81,3,48):=by kernel_rfl
theorem Zdx:zeroT Tryz.prog 81=some [(.string ⟨#[]⟩),(.int .i64 0),(.slice none 0 0)]:=by kernel_rfl
theorem stT_81:stT Tryz.prog 81=some ([(.string ⟨#[]⟩),(.int .i64 0),(.slice none 0 0)],[(0,1),(1,1),(2,1)]):=by kernel_rfl
theorem ZfC:elT Tryz.prog 79=some (78,4,72):=by kernel_rfl
theorem Zdy:zeroT Tryz.prog 78=some [(.slice none 0 0),(.int .i64 0),(.string ⟨#[]⟩),(.slice none 0 0)]:=by kernel_rfl
theorem stT_78:stT Tryz.prog 78=some ([(.slice none 0 0),(.int .i64 0),(.string ⟨#[]⟩),(.slice none 0 0)],[(0,1),(1,3)]):=by kernel_rfl
theorem Yx:elT Tryz.prog 33=some (35,3,48):=by kernel_rfl
theorem WK:elT Tryz.prog 72=some (74,3,48):=by kernel_rfl
theorem WB:ldT Tryz.prog 74=some (3,true):=by kernel_rfl
theorem Za7:elT Tryz.prog 41=some (76,2,24):=by kernel_rfl
theorem ZfQ:zeroT Tryz.prog 76=some [(.string ⟨#[]⟩),(.int .i64 0)]:=by kernel_rfl
theorem szT_44:szT Tryz.prog 44=some 2:=by kernel_rfl
theorem Za8:ldT Tryz.prog 44=some (2,true):=by kernel_rfl
theorem Ym:flT Tryz.prog 35 1=some (1,1,false):=by kernel_rfl
theorem ZW:ldT Tryz.prog 9=some (1,false):=by kernel_rfl
theorem Yk:flT Tryz.prog 35 2=some (2,1,false):=by kernel_rfl
theorem Xa:ldT Tryz.prog 33=some (1,false):=by kernel_rfl
theorem ZlG:zeroT Tryz.prog 38=some [(.int .i64 0)]:=by kernel_rfl
theorem en_24:ZF Tryz.prog 24=true:=by kernel_rfl
theorem JP:zeroT Tryz.prog 85=some [(.map none),(.map none)]:=by kernel_rfl
theorem ZbX:szT Tryz.prog 85=some 2:=by kernel_rfl
theorem JW:szT Tryz.prog 38=some 1:=by kernel_rfl
theorem YO:ldT Tryz.prog 38=some (1,false):=by kernel_rfl
theorem ZiS:stT Tryz.prog 37=some ([(.int .i64 0),(.string ⟨#[]⟩),(.slice none 0 0),(.int .i64 0)],[(0,3),(3,1)]):=by kernel_rfl
theorem en_25:ZF Tryz.prog 25=true:=by kernel_rfl
theorem Zg7:ldT Tryz.prog 85=some (2,true):=by kernel_rfl
theorem stT_93:stT Tryz.prog 93=some ([(.map none),(.map none),(.int .i64 0),(.int .i64 0),(.int .i64 0)],[(0,2),(2,1),(3,1),(4,1)]):=by kernel_rfl
theorem Zpp:ZF Tryz.prog 26=true:=by kernel_rfl
theorem stT_99:stT Tryz.prog 99=some ([(.int .i64 0)],[(0,1)]):=by kernel_rfl
theorem Zpq:ZF Tryz.prog 27=true:=by kernel_rfl
theorem Je:flT Tryz.prog 99 0=some (0,1,false):=by kernel_rfl
theorem Zeq:stT Tryz.prog 89=some ([(.int .i64 0)],[(0,1)]):=by kernel_rfl
theorem en_28:ZF Tryz.prog 28=true:=by kernel_rfl
theorem ZfR:flT Tryz.prog 93 2=some (3,1,false):=by kernel_rfl
theorem ldT_102:ldT Tryz.prog 102=some (2,true):=by kernel_rfl
theorem ZoD:zeroT Tryz.prog 102=some [(.string ⟨#[]⟩),(.int .i64 0)]:=by kernel_rfl
theorem szT_102:szT Tryz.prog 102=some 2:=by kernel_rfl
theorem Wk:flT Tryz.prog 44 0=some (0,1,false):=by kernel_rfl
theorem WT:ldT Tryz.prog 41=some (1,false):=by kernel_rfl
theorem szT_41:szT Tryz.prog 41=some 1:=by kernel_rfl
theorem en_29:ZF Tryz.prog 29=true:=by kernel_rfl
theorem Zcq:ldT Tryz.prog 42=some (1,false):=by kernel_rfl
theorem Jz:flT Tryz.prog 44 1=some (1,1,false):=by kernel_rfl
theorem szT_42:szT Tryz.prog 42=some 1:=by kernel_rfl
theorem ZO:flT Tryz.prog 28 0=some (0,1,false):=by kernel_rfl
theorem ZZ:flT Tryz.prog 28 1=some (1,1,false):=by kernel_rfl
theorem stT_35:stT Tryz.prog 35=some ([(.int .i64 0),(.string ⟨#[]⟩),(.slice none 0 0)],[(0,1),(1,1),(2,1)]):=by kernel_rfl
theorem ZR:flT Tryz.prog 28 2=some (2,1,false):=by kernel_rfl
theorem Ye:ldT Tryz.prog 26=some (1,false):=by kernel_rfl
theorem ZU:elT Tryz.prog 26=some (28,3,48):=by kernel_rfl
theorem szT_33:szT Tryz.prog 33=some 1:=by kernel_rfl
theorem Zpr:ZF Tryz.prog 30=true:=by kernel_rfl
theorem ZfD:stT Tryz.prog 48=some ([(.int .i64 0),(.string ⟨#[]⟩),(.slice none 0 0),(.int .i64 0)],[(0,3),(3,1)]):=by kernel_rfl
theorem stT_106:stT Tryz.prog 106=some ([(.slice none 0 0),(.slice none 0 0),(.int .i64 0),(.int .i64 0),(.int .i64 0),(.int .i64 0)],[(0,2),(2,1),(3,1),(4,1),(5,1)]):=by kernel_rfl
theorem en_31:ZF Tryz.prog 31=true:=by kernel_rfl
theorem Xl:zeroT Tryz.prog 106=some [(.slice none 0 0),(.slice none 0 0),(.int .i64 0),(.int .i64 0),(.int .i64 0),(.int .i64 0)]:=by kernel_rfl
theorem Yn:szT Tryz.prog 106=some 6:=by kernel_rfl
theorem Yj:flT Tryz.prog 106 4=some (5,1,false):=by kernel_rfl
theorem Zmf:ZF Tryz.prog 32=true:=by kernel_rfl
theorem Zps:ZF Tryz.prog 33=true:=by kernel_rfl
theorem ZdR:flT Tryz.prog 106 1=some (2,1,false):=by kernel_rfl
theorem en_34:ZF Tryz.prog 34=true:=by kernel_rfl
theorem en_35:ZF Tryz.prog 35=true:=by kernel_rfl
theorem Yg:flT Tryz.prog 35 0=some (0,1,false):=by kernel_rfl
theorem en_36:ZF Tryz.prog 36=true:=by kernel_rfl
theorem Zcr:stT Tryz.prog 28=some ([(.int .i64 0),(.string ⟨#[]⟩),(.slice none 0 0)],[(0,1),(1,1),(2,1)]):=by kernel_rfl
theorem Zmg:ZF Tryz.prog 42=true:=by kernel_rfl
theorem Jf:flT Tryz.prog 67 2=some (2,1,false):=by kernel_rfl
theorem Zbj:ldT Tryz.prog 65=some (1,false):=by kernel_rfl
theorem ZaC:elT Tryz.prog 65=some (124,4,72):=by kernel_rfl
theorem Zkn:ldT Tryz.prog 124=some (4,true):=by kernel_rfl
theorem Zjh:zeroT Tryz.prog 124=some [(.slice none 0 0),(.int .i64 0),(.string ⟨#[]⟩),(.slice none 0 0)]:=by kernel_rfl
theorem ZnK:szT Tryz.prog 124=some 4:=by kernel_rfl
theorem ZdS:flT Tryz.prog 124 1=some (1,3,true):=by kernel_rfl
theorem Jg:flT Tryz.prog 124 0=some (0,1,false):=by kernel_rfl
theorem Xk:ldT Tryz.prog 122=some (1,false):=by kernel_rfl
theorem YQ:elT Tryz.prog 122=some (126,3,48):=by kernel_rfl
theorem Zay:ldT Tryz.prog 126=some (3,true):=by kernel_rfl
theorem ZdT:zeroT Tryz.prog 126=some [(.bool false),(.string ⟨#[]⟩),(.slice none 0 0)]:=by kernel_rfl
theorem Zhu:szT Tryz.prog 126=some 3:=by kernel_rfl
theorem en_43:ZF Tryz.prog 43=true:=by kernel_rfl
theorem Zmh:ZF Tryz.prog 44=true:=by kernel_rfl
theorem ZkK:stT Tryz.prog 85=some ([(.map none),(.map none)],[(0,1),(1,1)]):=by kernel_rfl
theorem en_45:ZF Tryz.prog 45=true:=by kernel_rfl
theorem en_46:ZF Tryz.prog 46=true:=by kernel_rfl
theorem zeroV_89:zeroV Tryz.prog 89=some (.agg #[(.int .i64 0)]):=by kernel_rfl
theorem zeroT_89:zeroT Tryz.prog 89=some [(.int .i64 0)]:=by kernel_rfl
theorem szT_89:szT Tryz.prog 89=some 1:=by kernel_rfl
theorem flT_89_0:flT Tryz.prog 89 0=some (0,1,false):=by kernel_rfl
theorem en_47:ZF Tryz.prog 47=true:=by kernel_rfl
theorem Zer:ldT Tryz.prog 131=some (1,false):=by kernel_rfl
theorem Zpt:ZF Tryz.prog 48=true:=by kernel_rfl
theorem stT_136:stT Tryz.prog 136=some ([(.int .i64 0),(.string ⟨#[]⟩),(.slice none 0 0),(.pointer none)],[(0,3),(3,1)]):=by kernel_rfl
theorem ni_136:Jx Tryz.prog 136=true:=by kernel_rfl
theorem ZiT:ldT Tryz.prog 82=some (1,false):=by kernel_rfl
theorem Zdz:flT Tryz.prog 85 0=some (0,1,false):=by kernel_rfl
theorem ZlH:flT Tryz.prog 93 0=some (0,2,true):=by kernel_rfl
theorem ZfE:ldT Tryz.prog 91=some (1,false):=by kernel_rfl
theorem ZbL:flT Tryz.prog 81 1=some (1,1,false):=by kernel_rfl
theorem ZnL:stT Tryz.prog 139=some ([(.pointer none),(.slice none 0 0)],[(0,1),(1,1)]):=by kernel_rfl
theorem ni_139:Jx Tryz.prog 139=true:=by kernel_rfl
theorem en_49:ZF Tryz.prog 49=true:=by kernel_rfl
theorem stT_142:stT Tryz.prog 142=some ([(.string ⟨#[]⟩),(.slice none 0 0)],[(0,1),(1,1)]):=by kernel_rfl
theorem ni_142:Jx Tryz.prog 142=true:=by kernel_rfl
theorem YJ:elT Tryz.prog 132=some (95,1,16):=by kernel_rfl
theorem und_132:Tryz.prog.underlying 132=some (.slice 95):=by kernel_rfl
theorem Zbk:ldT Tryz.prog 95=some (1,false):=by kernel_rfl
theorem en_50:ZF Tryz.prog 50=true:=by kernel_rfl
theorem JD:zeroT Tryz.prog 142=some [(.string ⟨#[]⟩),(.slice none 0 0)]:=by kernel_rfl
theorem Zbv:szT Tryz.prog 142=some 2:=by kernel_rfl
theorem Zbw:szT Tryz.prog 3=some 1:=by kernel_rfl
theorem ZaK:flT Tryz.prog 142 1=some (1,1,false):=by kernel_rfl
theorem JK:ldT Tryz.prog 132=some (1,false):=by kernel_rfl
theorem Zpu:ZF Tryz.prog 51=true:=by kernel_rfl
theorem Zji:zeroV Tryz.prog 136=some (.agg #[(.int .i64 0),(.string ⟨#[]⟩),(.slice none 0 0),(.pointer none)]):=by kernel_rfl
theorem Zgr:zeroT Tryz.prog 136=some [(.int .i64 0),(.string ⟨#[]⟩),(.slice none 0 0),(.pointer none)]:=by kernel_rfl
theorem Zko:szT Tryz.prog 136=some 4:=by kernel_rfl
theorem Zjj:flT Tryz.prog 136 0=some (0,3,true):=by kernel_rfl
theorem Zjk:flT Tryz.prog 136 1=some (3,1,false):=by kernel_rfl
theorem en_52:ZF Tryz.prog 52=true:=by kernel_rfl
theorem ZoE:zeroV Tryz.prog 139=some (.agg #[(.pointer none),(.slice none 0 0)]):=by kernel_rfl
theorem ZdU:zeroT Tryz.prog 139=some [(.pointer none),(.slice none 0 0)]:=by kernel_rfl
theorem Zhv:szT Tryz.prog 139=some 2:=by kernel_rfl
theorem Zbl:flT Tryz.prog 139 1=some (1,1,false):=by kernel_rfl
theorem ZdV:flT Tryz.prog 142 0=some (0,1,false):=by kernel_rfl
theorem ZfS:flT Tryz.prog 67 0=some (0,1,false):=by kernel_rfl
theorem JQ:flT Tryz.prog 67 1=some (1,1,false):=by kernel_rfl
theorem ZkL:szT Tryz.prog 81=some 3:=by kernel_rfl
theorem Zm4:szT Tryz.prog 78=some 4:=by kernel_rfl
theorem en_53:ZF Tryz.prog 53=true:=by kernel_rfl
theorem ZaD:ldT Tryz.prog 72=some (1,false):=by kernel_rfl
theorem Zcs:flT Tryz.prog 78 0=some (0,1,false):=by kernel_rfl
theorem szT_72:szT Tryz.prog 72=some 1:=by kernel_rfl
theorem ZdA:flT Tryz.prog 81 2=some (2,1,false):=by kernel_rfl
theorem ZkM:ldT Tryz.prog 79=some (1,false):=by kernel_rfl
theorem Zm5:ldT Tryz.prog 78=some (4,true):=by kernel_rfl
theorem szT_79:szT Tryz.prog 79=some 1:=by kernel_rfl
theorem Zg8:ldT Tryz.prog 81=some (3,true):=by kernel_rfl
theorem Zpv:ZF Tryz.prog 54=true:=by kernel_rfl
theorem en_55:ZF Tryz.prog 55=true:=by kernel_rfl
theorem Yq:ldT Tryz.prog 106=some (6,true):=by kernel_rfl
theorem Zcc:ZF Tryz.prog 56=true:=by kernel_rfl
theorem Zbm:flT Tryz.prog 106 0=some (0,2,true):=by kernel_rfl
theorem en_57:ZF Tryz.prog 57=true:=by kernel_rfl
theorem en_58:ZF Tryz.prog 58=true:=by kernel_rfl
theorem en_59:ZF Tryz.prog 59=true:=by kernel_rfl
theorem en_60:ZF Tryz.prog 60=true:=by kernel_rfl
theorem en_72:ZF Tryz.prog 72=true:=by kernel_rfl
theorem JL:elT Tryz.prog 175=some (174,4,64):=by kernel_rfl
theorem Zaf:zeroT Tryz.prog 174=some [(.string ⟨#[]⟩),(.int .i64 0),(.string ⟨#[]⟩),(.slice none 0 0)]:=by kernel_rfl
theorem ZnM:stT Tryz.prog 174=some ([(.string ⟨#[]⟩),(.int .i64 0),(.string ⟨#[]⟩),(.slice none 0 0)],[(0,1),(1,3)]):=by kernel_rfl
theorem Xx:flT Tryz.prog 126 2=some (2,1,false):=by kernel_rfl
theorem en_76:ZF Tryz.prog 76=true:=by kernel_rfl
theorem Zig:flT Tryz.prog 81 0=some (0,1,false):=by kernel_rfl
theorem ZfT:ZF Tryz.prog 77=true:=by kernel_rfl
theorem Zbb:ZF Tryz.prog 78=true:=by kernel_rfl
theorem ZeZ:ZF Tryz.prog 79=true:=by kernel_rfl
theorem en_80:ZF Tryz.prog 80=true:=by kernel_rfl
theorem Zm6:ldT Tryz.prog 76=some (2,true):=by kernel_rfl
theorem szT_76:szT Tryz.prog 76=some 2:=by kernel_rfl
theorem ZfU:flT Tryz.prog 85 1=some (1,1,false):=by kernel_rfl
theorem ZkN:ldT Tryz.prog 83=some (1,false):=by kernel_rfl
theorem Zih:flT Tryz.prog 76 0=some (0,1,false):=by kernel_rfl
theorem Zct:flT Tryz.prog 76 1=some (1,1,false):=by kernel_rfl
theorem Zpw:ZF Tryz.prog 81=true:=by kernel_rfl
theorem Xy:elT Tryz.prog 181=some (9,1,16):=by kernel_rfl
theorem Jd:zeroT Tryz.prog 9=some [(.string ⟨#[]⟩)]:=by kernel_rfl
theorem ZaX:zeroT Tryz.prog 95=some [.nilIface]:=by kernel_rfl
theorem Zjl:flT Tryz.prog 185 0=some (0,1,false):=by kernel_rfl
theorem ZoF:flT Tryz.prog 185 1=some (1,1,false):=by kernel_rfl
theorem ZoG:flT Tryz.prog 185 2=some (2,1,false):=by kernel_rfl
theorem Zmi:ZF Tryz.prog 82=true:=by kernel_rfl
theorem Zmj:ZF Tryz.prog 83=true:=by kernel_rfl
theorem ZlI:flT Tryz.prog 78 1=some (1,3,true):=by kernel_rfl
theorem en_84:ZF Tryz.prog 84=true:=by kernel_rfl
theorem Zkp:stT Tryz.prog 185=some ([(.string ⟨#[]⟩),.nilIface,(.pointer none)],[(0,1),(1,1),(2,1)]):=by kernel_rfl
theorem Zhw:ldT Tryz.prog 137=some (1,false):=by kernel_rfl
theorem ZdW:flT Tryz.prog 139 0=some (0,1,false):=by kernel_rfl
theorem en_85:ZF Tryz.prog 85=true:=by kernel_rfl
theorem Wl:flT Tryz.prog 126 0=some (0,1,false):=by kernel_rfl
theorem Zat:ldT Tryz.prog 4=some (1,false):=by kernel_rfl
theorem Wz:flT Tryz.prog 126 1=some (1,1,false):=by kernel_rfl
theorem JR:flT Tryz.prog 74 2=some (2,1,false):=by kernel_rfl
theorem en_86:ZF Tryz.prog 86=true:=by kernel_rfl
theorem Zau:ZF Tryz.prog 87=true:=by kernel_rfl
theorem Zdb:ZF Tryz.prog 88=true:=by kernel_rfl
theorem ZfV:ZF Tryz.prog 89=true:=by kernel_rfl
theorem en_90:ZF Tryz.prog 90=true:=by kernel_rfl
theorem Zhx:ZF Tryz.prog 91=true:=by kernel_rfl
theorem ZaL:flT Tryz.prog 102 1=some (1,1,false):=by kernel_rfl
theorem ZkO:ZF Tryz.prog 92=true:=by kernel_rfl
theorem en_93:ZF Tryz.prog 93=true:=by kernel_rfl
theorem en_94:ZF Tryz.prog 94=true:=by kernel_rfl
theorem en_95:ZF Tryz.prog 95=true:=by kernel_rfl
theorem en_96:ZF Tryz.prog 96=true:=by kernel_rfl
theorem en_97:ZF Tryz.prog 97=true:=by kernel_rfl
theorem ZkP:ZF Tryz.prog 108=true:=by kernel_rfl
theorem en_109:ZF Tryz.prog 109=true:=by kernel_rfl
theorem en_110:ZF Tryz.prog 110=true:=by kernel_rfl
theorem en_113:ZF Tryz.prog 113=true:=by kernel_rfl
theorem en_112:ZF Tryz.prog 112=true:=by kernel_rfl
theorem en_115:ZF Tryz.prog 115=true:=by kernel_rfl
theorem en_114:ZF Tryz.prog 114=true:=by kernel_rfl
theorem en_116:ZF Tryz.prog 116=true:=by kernel_rfl
theorem en_117:ZF Tryz.prog 117=true:=by kernel_rfl
theorem Zm7:ZF Tryz.prog 118=true:=by kernel_rfl
theorem Zm8:ZF Tryz.prog 120=true:=by kernel_rfl
theorem Zm9:ZF Tryz.prog 119=true:=by kernel_rfl
theorem en_121:ZF Tryz.prog 121=true:=by kernel_rfl
theorem ZfF:ZF Tryz.prog 122=true:=by kernel_rfl
theorem Zii:flT Tryz.prog 93 1=some (2,1,false):=by kernel_rfl
theorem ZfW:flT Tryz.prog 93 3=some (4,1,false):=by kernel_rfl
theorem ZaY:flT Tryz.prog 74 0=some (0,1,false):=by kernel_rfl
theorem JA:flT Tryz.prog 74 1=some (1,1,false):=by kernel_rfl
theorem en_123:ZF Tryz.prog 123=true:=by kernel_rfl
theorem Zgs:flT Tryz.prog 102 0=some (0,1,false):=by kernel_rfl
theorem en_124:ZF Tryz.prog 124=true:=by kernel_rfl
theorem en_125:ZF Tryz.prog 125=true:=by kernel_rfl
theorem en_126:ZF Tryz.prog 126=true:=by kernel_rfl
theorem ZfG:ZF Tryz.prog 127=true:=by kernel_rfl
theorem en_128:ZF Tryz.prog 128=true:=by kernel_rfl
theorem en_129:ZF Tryz.prog 129=true:=by kernel_rfl
theorem en_130:ZF Tryz.prog 130=true:=by kernel_rfl
theorem Zgt:flT Tryz.prog 106 2=some (3,1,false):=by kernel_rfl
theorem Zce:flT Tryz.prog 106 3=some (4,1,false):=by kernel_rfl
theorem Zna:ZF Tryz.prog 131=true:=by kernel_rfl
theorem ZdX:flT Tryz.prog 174 0=some (0,1,false):=by kernel_rfl
theorem Zjm:flT Tryz.prog 174 1=some (1,3,true):=by kernel_rfl
theorem ldT_174:ldT Tryz.prog 174=some (4,true):=by kernel_rfl
theorem szT_26:szT Tryz.prog 26=some 1:=by kernel_rfl
theorem en_135:ZF Tryz.prog 135=true:=by kernel_rfl
theorem en_111:ZF Tryz.prog 111=true:=by kernel_rfl
theorem zeroT_3:zeroT Tryz.prog 3=some [(.int .i64 0)]:=by kernel_rfl
theorem ZkQ:ZF Tryz.prog 136=true:=by kernel_rfl
theorem Zgu:zeroT Tryz.prog 241=some [(.bool false),(.string ⟨#[]⟩),(.slice none 0 0),(.int .i64 0)]:=by kernel_rfl
theorem Zkq:szT Tryz.prog 241=some 4:=by kernel_rfl
theorem ZoH:flT Tryz.prog 241 1=some (3,1,false):=by kernel_rfl
theorem ZaM:flT Tryz.prog 241 0=some (0,3,true):=by kernel_rfl
theorem Zes:ZF Tryz.prog 137=true:=by kernel_rfl
theorem ZiU:ZF Tryz.prog 138=true:=by kernel_rfl
theorem ZoI:zeroT Tryz.prog 181=some [(.slice none 0 0)]:=by kernel_rfl
theorem ZnN:ldT Tryz.prog 181=some (1,false):=by kernel_rfl
theorem szT_181:szT Tryz.prog 181=some 1:=by kernel_rfl
theorem ZbY:ZF Tryz.prog 139=true:=by kernel_rfl
theorem ZfH:ZF Tryz.prog 140=true:=by kernel_rfl
theorem stT_243:stT Tryz.prog 243=some ([(.string ⟨#[]⟩),(.pointer none)],[(0,1),(1,1)]):=by kernel_rfl
theorem ZnO:elT Tryz.prog 213=some (5,1,1):=by kernel_rfl
theorem ldT_5:ldT Tryz.prog 5=some (1,false):=by kernel_rfl
theorem en_141:ZF Tryz.prog 141=true:=by kernel_rfl
theorem ZoJ:flT Tryz.prog 243 0=some (0,1,false):=by kernel_rfl
theorem ZoK:flT Tryz.prog 243 1=some (1,1,false):=by kernel_rfl
theorem ldT_220:ldT Tryz.prog 220=some (1,false):=by kernel_rfl
theorem Zjn:zeroT Tryz.prog 246=some [.nilFunc]:=by kernel_rfl
theorem ZiV:ZF Tryz.prog 142=true:=by kernel_rfl
theorem ZnP:szT Tryz.prog 246=some 1:=by kernel_rfl
theorem Zhy:ldT Tryz.prog 246=some (1,false):=by kernel_rfl
theorem ZnQ:ldT Tryz.prog 245=some (1,false):=by kernel_rfl
theorem ZnR:stT Tryz.prog 241=some ([(.bool false),(.string ⟨#[]⟩),(.slice none 0 0),(.int .i64 0)],[(0,3),(3,1)]):=by kernel_rfl
theorem Znb:ZF Tryz.prog 144=true:=by kernel_rfl
theorem ZiW:ZF Tryz.prog 143=true:=by kernel_rfl
theorem en_145:ZF Tryz.prog 145=true:=by kernel_rfl
def Zt:GOp:=Zo 57 8 #[Zr 53,Zr 55,Zr 56] #[44,35,3]
def Zs:GPlan:=.one [3,4,5,6,7,8,9,10,11] (Zo 55 10 #[Zr 54] #[28]) (.one [5,6,7,8,9,10,11] Zt (.tk 6 (Za 51 57) (.tk 7 (Zh 58 51 0) (.tk 8 (Zh 59 51 1) (.one [8,10,11] (Zg 37 13 58) .fin)))))
def c3:ACode:=(.seq
 (.reg [Zj 4 25 0,Zj 5 28 1,Zj 6 28 2,Zq 8 (.assign (.const (.bool false)))])
 (.seq
 (.reg [Zb 22 28 5,Zo 23 5 #[Zr 22] #[28],Za 21 23,Zh 24 21 0,Zh 25 21 1,Zc 9 24,Zc 10 25])
 (.seq
 (.reg [Zb 27 28 6,Zo 28 5 #[Zr 27] #[28],Za 26 28,Zh 29 26 0,Zh 30 26 1,Zc 11 29,Zc 12 30])
 (.seq
 (.seq
 (.reg [Zb 31 25 4,Zo 32 6 #[Zr 31,(.const (.int .i64 200))] #[25,3],Zq 33 (.unOp .not 4 (Zr 32)),Za 34 33,Zp 35 (.move (Zr 9)) 34 false,Zp 36 (.binOp .gtr 3 (Zr 35) (.const (.int .i64 150)) 3) 34 false,Zq 37 (.pick (Zr 34) (.const (.bool true)) (Zr 36)),Za 38 37,Zp 39 (.move (Zr 11)) 38 false,Zp 40 (.binOp .gtr 3 (Zr 39) (.const (.int .i64 150)) 3) 38 false,Zq 41 (.pick (Zr 38) (.const (.bool true)) (Zr 40)),Za 42 41,Zp 43 (.move (Zr 3)) 42 false,Zp 44 (.binOp .gtr 3 (Zr 43) (.const (.int .i64 80)) 3) 42 false,Zp 45 (.move (Zr 44)) 42 false,Zp 46 (.move (Zr 3)) 45 true,Zp 47 (.binOp .leq 3 (Zr 46) (.const (.int .i64 100000)) 3) 45 true,Zp 48 (.pick (Zr 45) (Zr 47) (.const (.bool false))) 42 false,Zq 49 (.pick (Zr 42) (.const (.bool true)) (Zr 48))])
 (.cond (Zr 49)
 (.seq
 (.reg [Zo 50 7 #[] #[],Zc 8 50]) .ret) .skip))
 (.seq
 (.dreg
 (.tk 0 (Zb 52 25 4)
 (.tk 2 (Zb 54 28 5)
 (.tk 4 (Za 56 3)
 (.two [1,2,3,4,5,6,7,8,9,10,11] (Zo 53 9 #[Zr 52] #[25])
 (.two [3,4,5,6,7,8,9,10,11] (Zo 55 10 #[Zr 54] #[28])
 (.two [5,6,7,8,9,10,11] Zt
 (.tk 6 (Za 51 57)
 (.tk 7 (Zh 58 51 0)
 (.tk 8 (Zh 59 51 1)
 (.one [0,1,2,3,4,5,6,7,8,9,10,11] (Zi 13 37)
 (.one [8,10,11] (Zg 37 13 58) .fin))))) [0,1,2,3,4,5,6,7,8,9,10,11] (Zi 13 37)
 (.one [5,6,7,8,9,10,11] Zt
 (.tk 6 (Za 51 57)
 (.tk 7 (Zh 58 51 0)
 (.tk 8 (Zh 59 51 1)
 (.one [8,10,11] (Zg 37 13 58) .fin)))))) [0,1,2,3,4,5,6,7,8,9,10,11] (Zi 13 37) Zs) [0,1,2,3,4,5,6,7,8,9,10,11] (Zi 13 37)
 (.one [1,2,3,4,5,6,7,8,9,10,11] (Zo 53 9 #[Zr 52] #[25]) Zs))))) [Zc 14 59])
 (.seq
 (.reg [Zb 61 25 4,Zb 62 28 5,Za 63 3,Zo 64 11 #[Zr 61,Zr 62,Zr 63] #[25,28,3],Za 60 64,Zh 65 60 0,Zh 66 60 1,Zi 15 48,Zg 48 15 65,Zc 16 66])
 (.seq
 (.dreg
 (.tk 0 (Zb 68 25 4)
 (.tk 2 (Zb 70 28 5)
 (.tk 4 (Zb 72 28 6)
 (.tk 6 (Za 74 3)
 (.one [1,2,3,4,5,6,7,8,9,10,11,12] (Zo 69 9 #[Zr 68] #[25])
 (.one [3,4,5,6,7,8,9,10,11,12] (Zo 71 10 #[Zr 70] #[28])
 (.one [5,6,7,8,9,10,11,12] (Zo 73 10 #[Zr 72] #[28])
 (.one [7,8,9,10,11,12] (Zo 75 12 #[Zr 69,Zr 71,Zr 73,Zr 74] #[44,35,35,3])
 (.tk 8 (Za 67 75)
 (.tk 9 (Zh 76 67 0)
 (.tk 10 (Zh 77 67 1)
 (.tk 11 (Zc 17 76) .fin)))))))))))) [Zc 18 77])
 (.seq
 (.reg [Zb 79 25 4,Zb 80 28 5,Zb 81 28 6,Za 82 3,Zo 83 13 #[Zr 79,Zr 80,Zr 81,Zr 82] #[25,28,28,3],Za 78 83,Zh 84 78 0,Zh 85 78 1,Zc 19 84,Zc 20 85])
 (.seq
 (.reg [Zd 86 37 13 0,Zb 87 35 86,Zd 88 48 15 0,Zb 89 28 88,Zo 90 14 #[Zr 87,Zr 89] #[35,28],Za 91 90,Zp 92 (.fieldAddr 37 (Zr 13) 1) 91 true,Zp 93 (.load 3 (Zr 92)) 91 true,Zp 94 (.fieldAddr 48 (Zr 15) 1) 91 true,Zp 95 (.load 3 (Zr 94)) 91 true,Zp 96 (.binOp .eql 3 (Zr 93) (Zr 95) 3) 91 true,Zq 97 (.pick (Zr 91) (Zr 96) (.const (.bool false))),Za 98 97,Zp 99 (.move (Zr 14)) 98 true,Zp 100 (.move (Zr 16)) 98 true,Zp 101 (.binOp .eql 38 (Zr 99) (Zr 100) 38) 98 true,Zq 102 (.pick (Zr 98) (Zr 101) (.const (.bool false))),Za 103 102,Zp 104 (.move (Zr 17)) 103 true,Zp 105 (.move (Zr 19)) 103 true,Zp 106 (.binOp .eql 4 (Zr 104) (Zr 105) 4) 103 true,Zq 107 (.pick (Zr 103) (Zr 106) (.const (.bool false))),Za 108 107,Zp 109 (.move (Zr 18)) 108 true,Zp 110 (.move (Zr 20)) 108 true,Zp 111 (.binOp .eql 38 (Zr 109) (Zr 110) 38) 108 true,Zq 112 (.pick (Zr 108) (Zr 111) (.const (.bool false))),Za 113 112,Zp 114 (.call { callee:=(.value (.func 7)),args:=#[],argTypes:=#[] }) 113 true,Zq 115 (.pick (Zr 113) (Zr 114) (.const (.bool false))),Zc 8 115]) .ret)))))))))
theorem fd3:FnD Tryz.prog 3 116 [(.tmp 8)] c3:=⟨⟨Tryz.f3,Tryz.f3.body.getD .skip,Tryz.func3,by kernel_rfl,by kernel_rfl,by kernel_rfl,by kernel_rfl⟩⟩
def c5:ACode:=(.seq
 (.reg [Zj 1 28 0,Zf 2 0,Zf 3 0])
 (.seq
 (.reg [Zb 4 28 1,Zo 5 19 #[Zr 4] #[28],Zh 6 5 0,Zh 7 5 1,Zc 2 6,Zc 3 7]) .ret))
theorem fd5:FnD Tryz.prog 5 8 [(.tmp 2),(.tmp 3)] c5:=⟨⟨Tryz.f5,Tryz.f5.body.getD .skip,Tryz.func5,by kernel_rfl,by kernel_rfl,by kernel_rfl,by kernel_rfl⟩⟩
def b6_1:ACode:=(.seq
 (.reg [Zn 15 .lss 3 14 13])
 (.seq
 (.cond (Zr 15) .skip (.exit 0))
 (.seq
 (.block 1
 (.seq
 (.reg [Zk 16 23 12 14,Zb 17 67 16,Zi 7 67,Zg 67 7 17])
 (.seq
 (.reg [Za 18 5,Zb 19 67 7,Zo 20 20 #[Zr 19] #[67],Zn 21 .add 3 18 20,Zc 5 21])
 (.seq
 (.reg [Za 22 5,Za 23 1,Zn 24 .gtr 3 22 23])
 (.cond (Zr 24)
 (.seq
 (.reg [Zq 4 (.assign (.const (.bool false)))]) .ret) .skip)))))
 (.reg [Zm 25 .add 3 14 1,Za 14 25]))))
def c6_1:ACode:=(.seq
 (.reg [Za 26 5,Za 27 1,Zn 28 .leq 3 26 27,Zc 4 28]) .ret)
def c6:ACode:=(.seq
 (.reg [Zj 2 25 0,Zq 4 (.assign (.const (.bool false)))])
 (.seq
 (.reg [Zd 8 25 2 0,Zb 9 22 8,Ze 10 9 22,Zc 5 10])
 (.seqL
 (.seq
 (.reg [Zd 11 25 2 1,Zb 12 23 11,Ze 13 12 23,Zq 14 (.move (.const (.int .i64 0)))])
 (.block 0 (.loop b6_1))) c6_1)))
theorem fd6:FnD Tryz.prog 6 29 [(.tmp 4)] c6:=⟨⟨Tryz.f6,Tryz.f6.body.getD .skip,Tryz.func6,by kernel_rfl,by kernel_rfl,by kernel_rfl,by kernel_rfl⟩⟩
def Zy:GOp:=Zo 48 8 #[Zr 38,Zr 47,(.const (.int .i64 10))] #[44,35,3]
def Zx:GPlan:=.one [0,9,10,11,12,13,14,15,16] (Zq 47 (.call { callee:=(.value (Zr 39)),args:=#[Zr 44,Zr 46],argTypes:=#[35,35] })) (.one [10,11,12,13,14,15,16] Zy (.tk 11 (Za 37 48) (.tk 12 (Zh 49 37 0) (.tk 13 (Zh 50 37 1) (.one [13,15,16] (Zg 37 6 49) .fin)))))
def Zw:GPlan:=.one [0,1,6,7,8,9,10,11,12,13,14,15,16] (Zq 44 (.call { callee:=(.value (Zr 40)),args:=#[(.const (.string { data:=#[83,117,99] })),Zr 43],argTypes:=#[9,33] })) (.one [0,1,8,9,10,11,12,13,14,15,16] (Zq 46 (.call { callee:=(.value (Zr 45)),args:=#[(.const (.string { data:=#[90,101,114,111] })),(.const (.slice none 0 0))],argTypes:=#[9,33] })) Zx)
def Zv:GPlan:=.one [0,1,2,3,4,5,8,9,10,11,12,13,14,20,21,22,23,24,25,26,27,28,29] (Zq 29 (.call { callee:=(.value (Zr 24)),args:=#[Zr 26,Zr 28],argTypes:=#[35,35] })) (.tk 21 (Zq 30 (.buildSlice 33 1 #[(0,(Zr 29))])) (.one [0,1,2,3,4,5,8,9,10,11,12,13,22,23,24,25,26,27,28,29] (Zq 31 (.call { callee:=(.value (Zr 23)),args:=#[(.const (.string { data:=#[83,117,99] })),Zr 30],argTypes:=#[9,33] })) (.tk 23 (Zq 32 (.build 78 #[(0,(Zr 22)),(1,(Zr 31))])) (.tk 24 (Zq 33 (.buildSlice 79 2 #[(0,(Zr 17)),(1,(Zr 32))])) (.tk 25 (Zq 34 (.build 81 #[(0,(.const (.string { data:=#[97,100,100] }))),(1,(.const (.int .i64 2))),(2,(Zr 33))])) (.tk 26 (Zq 35 (.buildSlice 42 1 #[(0,(Zr 34))])) (.tk 27 (Zq 36 (.build 44 #[(0,(Zr 11)),(1,(Zr 35))])) .fin)))))))
def Zu:GPlan:=.one [0,1,2,3,4,5,8,9,10,11,12,13,14,15,17,18,19,20,21,22,23,24,25,26,27,28,29] (Zq 26 (.call { callee:=(.value (Zr 25)),args:=#[(.const (.string { data:=#[120] }))],argTypes:=#[9] })) (.one [0,1,2,3,4,5,8,9,10,11,12,13,14,15,19,20,21,22,23,24,25,26,27,28,29] (Zq 28 (.call { callee:=(.value (Zr 27)),args:=#[(.const (.string { data:=#[121] }))],argTypes:=#[9] })) Zv)
def c7:ACode:=(.seq
 (.reg [Zq 0 (.assign (.const (.bool false)))])
 (.seq
 (.reg [Zq 1 (.assign (.func 21))])
 (.seq
 (.reg [Zq 2 (.assign (.func 22))])
 (.seq
 (.reg [Zq 3 (.assign (.func 23))])
 (.seq
 (.reg [Zq 8 (.build 74 #[(1,(.const (.string { data:=#[121] })))]),Zi 4 74,Zg 74 4 8])
 (.seq
 (.dreg
 (.tk 0 (Zq 9 (.build 76 #[(0,(.const (.string { data:=#[90,101,114,111] })))]))
 (.tk 1 (Zq 10 (.build 76 #[(0,(.const (.string { data:=#[83,117,99] }))),(1,(.const (.int .i64 1)))]))
 (.tk 2 (Zq 11 (.buildSlice 41 2 #[(0,(Zr 9)),(1,(Zr 10))]))
 (.tk 3 (Zq 12 (.build 74 #[(0,(.const (.bool true))),(1,(.const (.string { data:=#[90,101,114,111] })))]))
 (.tk 4 (Zb 13 74 4)
 (.tk 5 (Zq 14 (.buildSlice 72 2 #[(0,(Zr 12)),(1,(Zr 13))]))
 (.tk 6 (Za 15 1)
 (.tk 9 (Zq 18 (.build 74 #[(1,(.const (.string { data:=#[120] })))]))
 (.tk 10 (Zq 19 (.buildSlice 72 1 #[(0,(Zr 18))]))
 (.tk 11 (Zq 20 (.build 74 #[(0,(.const (.bool true))),(1,(.const (.string { data:=#[83,117,99] }))),(2,(Zr 19))]))
 (.tk 12 (Zb 21 74 4)
 (.tk 13 (Zq 22 (.buildSlice 72 2 #[(0,(Zr 20)),(1,(Zr 21))]))
 (.tk 14 (Za 23 2)
 (.tk 15 (Za 24 3)
 (.tk 16 (Za 25 1)
 (.tk 18 (Za 27 1)
 (.two [0,1,2,3,4,5,7,8,9,10,11,12,13,14,15,16,17,18,19,20,21,22,23,24,25,26,27,28,29] (Zq 16 (.call { callee:=(.value (Zr 15)),args:=#[(.const (.string { data:=#[121] }))],argTypes:=#[9] }))
 (.tk 8 (Zq 17 (.build 78 #[(0,(Zr 14)),(1,(Zr 16))]))
 (.two [0,1,2,3,4,5,8,9,10,11,12,13,14,15,17,18,19,20,21,22,23,24,25,26,27,28,29] (Zq 26 (.call { callee:=(.value (Zr 25)),args:=#[(.const (.string { data:=#[120] }))],argTypes:=#[9] }))
 (.two [0,1,2,3,4,5,8,9,10,11,12,13,14,15,19,20,21,22,23,24,25,26,27,28,29] (Zq 28 (.call { callee:=(.value (Zr 27)),args:=#[(.const (.string { data:=#[121] }))],argTypes:=#[9] }))
 (.two [0,1,2,3,4,5,8,9,10,11,12,13,14,20,21,22,23,24,25,26,27,28,29] (Zq 29 (.call { callee:=(.value (Zr 24)),args:=#[Zr 26,Zr 28],argTypes:=#[35,35] }))
 (.tk 21 (Zq 30 (.buildSlice 33 1 #[(0,(Zr 29))]))
 (.two [0,1,2,3,4,5,8,9,10,11,12,13,22,23,24,25,26,27,28,29] (Zq 31 (.call { callee:=(.value (Zr 23)),args:=#[(.const (.string { data:=#[83,117,99] })),Zr 30],argTypes:=#[9,33] }))
 (.tk 23 (Zq 32 (.build 78 #[(0,(Zr 22)),(1,(Zr 31))]))
 (.tk 24 (Zq 33 (.buildSlice 79 2 #[(0,(Zr 17)),(1,(Zr 32))]))
 (.tk 25 (Zq 34 (.build 81 #[(0,(.const (.string { data:=#[97,100,100] }))),(1,(.const (.int .i64 2))),(2,(Zr 33))]))
 (.tk 26 (Zq 35 (.buildSlice 42 1 #[(0,(Zr 34))]))
 (.tk 27 (Zq 36 (.build 44 #[(0,(Zr 11)),(1,(Zr 35))]))
 (.one [0,1,2,3,4,5,6,7,8,9,10,11,12,13,14,15,16,17,18,19,20,21,22,23,24,25,26,27,28,29] (Zi 5 44) .fin)))))) [0,1,2,3,4,5,6,7,8,9,10,11,12,13,14,15,16,17,18,19,20,21,22,23,24,25,26,27,28,29] (Zi 5 44)
 (.one [0,1,2,3,4,5,8,9,10,11,12,13,22,23,24,25,26,27,28,29] (Zq 31 (.call { callee:=(.value (Zr 23)),args:=#[(.const (.string { data:=#[83,117,99] })),Zr 30],argTypes:=#[9,33] }))
 (.tk 23 (Zq 32 (.build 78 #[(0,(Zr 22)),(1,(Zr 31))]))
 (.tk 24 (Zq 33 (.buildSlice 79 2 #[(0,(Zr 17)),(1,(Zr 32))]))
 (.tk 25 (Zq 34 (.build 81 #[(0,(.const (.string { data:=#[97,100,100] }))),(1,(.const (.int .i64 2))),(2,(Zr 33))]))
 (.tk 26 (Zq 35 (.buildSlice 42 1 #[(0,(Zr 34))]))
 (.tk 27 (Zq 36 (.build 44 #[(0,(Zr 11)),(1,(Zr 35))])) .fin)))))))) [0,1,2,3,4,5,6,7,8,9,10,11,12,13,14,15,16,17,18,19,20,21,22,23,24,25,26,27,28,29] (Zi 5 44) Zv) [0,1,2,3,4,5,6,7,8,9,10,11,12,13,14,15,16,17,18,19,20,21,22,23,24,25,26,27,28,29] (Zi 5 44)
 (.one [0,1,2,3,4,5,8,9,10,11,12,13,14,15,19,20,21,22,23,24,25,26,27,28,29] (Zq 28 (.call { callee:=(.value (Zr 27)),args:=#[(.const (.string { data:=#[121] }))],argTypes:=#[9] })) Zv)) [0,1,2,3,4,5,6,7,8,9,10,11,12,13,14,15,16,17,18,19,20,21,22,23,24,25,26,27,28,29] (Zi 5 44) Zu)) [0,1,2,3,4,5,6,7,8,9,10,11,12,13,14,15,16,17,18,19,20,21,22,23,24,25,26,27,28,29] (Zi 5 44)
 (.one [0,1,2,3,4,5,7,8,9,10,11,12,13,14,15,16,17,18,19,20,21,22,23,24,25,26,27,28,29] (Zq 16 (.call { callee:=(.value (Zr 15)),args:=#[(.const (.string { data:=#[121] }))],argTypes:=#[9] }))
 (.tk 8 (Zq 17 (.build 78 #[(0,(Zr 14)),(1,(Zr 16))])) Zu))))))))))))))))))) [Zg 44 5 36])
 (.seq
 (.dreg
 (.tk 0 (Zb 38 44 5)
 (.tk 1 (Za 39 3)
 (.tk 2 (Za 40 2)
 (.tk 3 (Za 41 2)
 (.tk 7 (Za 45 2)
 (.two [0,1,2,4,5,6,7,8,9,10,11,12,13,14,15,16] (Zq 42 (.call { callee:=(.value (Zr 41)),args:=#[(.const (.string { data:=#[90,101,114,111] })),(.const (.slice none 0 0))],argTypes:=#[9,33] }))
 (.tk 5 (Zq 43 (.buildSlice 33 1 #[(0,(Zr 42))]))
 (.two [0,1,6,7,8,9,10,11,12,13,14,15,16] (Zq 44 (.call { callee:=(.value (Zr 40)),args:=#[(.const (.string { data:=#[83,117,99] })),Zr 43],argTypes:=#[9,33] }))
 (.two [0,1,8,9,10,11,12,13,14,15,16] (Zq 46 (.call { callee:=(.value (Zr 45)),args:=#[(.const (.string { data:=#[90,101,114,111] })),(.const (.slice none 0 0))],argTypes:=#[9,33] }))
 (.two [0,9,10,11,12,13,14,15,16] (Zq 47 (.call { callee:=(.value (Zr 39)),args:=#[Zr 44,Zr 46],argTypes:=#[35,35] }))
 (.two [10,11,12,13,14,15,16] Zy
 (.tk 11 (Za 37 48)
 (.tk 12 (Zh 49 37 0)
 (.tk 13 (Zh 50 37 1)
 (.one [0,1,2,3,4,5,6,7,8,9,10,11,12,13,14,15,16] (Zi 6 37)
 (.one [13,15,16] (Zg 37 6 49) .fin))))) [0,1,2,3,4,5,6,7,8,9,10,11,12,13,14,15,16] (Zi 6 37)
 (.one [10,11,12,13,14,15,16] Zy
 (.tk 11 (Za 37 48)
 (.tk 12 (Zh 49 37 0)
 (.tk 13 (Zh 50 37 1)
 (.one [13,15,16] (Zg 37 6 49) .fin)))))) [0,1,2,3,4,5,6,7,8,9,10,11,12,13,14,15,16] (Zi 6 37) Zx) [0,1,2,3,4,5,6,7,8,9,10,11,12,13,14,15,16] (Zi 6 37)
 (.one [0,1,8,9,10,11,12,13,14,15,16] (Zq 46 (.call { callee:=(.value (Zr 45)),args:=#[(.const (.string { data:=#[90,101,114,111] })),(.const (.slice none 0 0))],argTypes:=#[9,33] })) Zx)) [0,1,2,3,4,5,6,7,8,9,10,11,12,13,14,15,16] (Zi 6 37) Zw)) [0,1,2,3,4,5,6,7,8,9,10,11,12,13,14,15,16] (Zi 6 37)
 (.one [0,1,2,4,5,6,7,8,9,10,11,12,13,14,15,16] (Zq 42 (.call { callee:=(.value (Zr 41)),args:=#[(.const (.string { data:=#[90,101,114,111] })),(.const (.slice none 0 0))],argTypes:=#[9,33] }))
 (.tk 5 (Zq 43 (.buildSlice 33 1 #[(0,(Zr 42))])) Zw)))))))) [Zc 7 50])
 (.seq
 (.reg [Za 51 7,Zm 52 .eql 38 51 0,Za 53 52,Zp 54 (.fieldAddr 37 (Zr 6) 1) 53 true,Zp 55 (.load 3 (Zr 54)) 53 true,Zp 56 (.binOp .eql 3 (Zr 55) (.const (.int .i64 2)) 3) 53 true,Zq 57 (.pick (Zr 53) (Zr 56) (.const (.bool false))),Za 58 57,Zp 59 (.fieldAddr 37 (Zr 6) 0) 58 true,Zp 60 (.fieldAddr 35 (Zr 59) 1) 58 true,Zp 61 (.load 9 (Zr 60)) 58 true,Zp 62 (.binOp .eql 9 (Zr 61) (.const (.string { data:=#[83,117,99] })) 9) 58 true,Zq 63 (.pick (Zr 58) (Zr 62) (.const (.bool false))),Za 64 63,Zp 65 (.fieldAddr 37 (Zr 6) 0) 64 true,Zp 66 (.fieldAddr 35 (Zr 65) 2) 64 true,Zp 67 (.load 33 (Zr 66)) 64 true,Zp 68 (.call { callee:=(.builtin .len),args:=#[Zr 67],argTypes:=#[33] }) 64 true,Zp 69 (.binOp .eql 3 (Zr 68) (.const (.int .i64 1)) 3) 64 true,Zq 70 (.pick (Zr 64) (Zr 69) (.const (.bool false))),Za 71 70,Zp 72 (.fieldAddr 37 (Zr 6) 0) 71 true,Zp 73 (.fieldAddr 35 (Zr 72) 2) 71 true,Zp 74 (.load 33 (Zr 73)) 71 true,Zp 75 (.indexAddr 33 (Zr 74) (.const (.int .i64 0))) 71 true,Zp 76 (.fieldAddr 35 (Zr 75) 1) 71 true,Zp 77 (.load 9 (Zr 76)) 71 true,Zp 78 (.binOp .eql 9 (Zr 77) (.const (.string { data:=#[90,101,114,111] })) 9) 71 true,Zq 79 (.pick (Zr 71) (Zr 78) (.const (.bool false))),Zc 0 79]) .ret))))))))
theorem fd7:FnD Tryz.prog 7 80 [(.tmp 0)] c7:=⟨⟨Tryz.f7,Tryz.f7.body.getD .skip,Tryz.func7,by kernel_rfl,by kernel_rfl,by kernel_rfl,by kernel_rfl⟩⟩
def c8:ACode:=(.seq
 (.reg [Zj 3 44 0,Zj 4 35 1,Zi 6 37,Zi 7 38])
 (.seq
 (.reg [Zb 13 44 3,Zb 14 35 4,Zo 15 24 #[Zr 13,Zr 14] #[44,35],Za 12 15,Zh 16 12 0,Zh 17 12 1,Zi 8 85,Zg 85 8 16,Zg 38 7 17])
 (.seq
 (.seq
 (.reg [Zb 18 38 7,Zm 19 .eql 38 18 0,Za 20 19,Zp 21 (.move (Zr 2)) 20 true,Zp 22 (.binOp .lss 3 (Zr 21) (.const (.int .i64 0)) 3) 20 true,Zp 23 (.move (Zr 22)) 20 true,Zp 24 (.move (Zr 2)) 23 false,Zp 25 (.binOp .gtr 3 (Zr 24) (.const (.int .i64 100000)) 3) 23 false,Zp 26 (.pick (Zr 23) (.const (.bool true)) (Zr 25)) 20 true,Zq 27 (.pick (Zr 20) (Zr 26) (.const (.bool false)))])
 (.cond (Zr 27)
 (.reg [⟨none,(.store 38 (Zr 7) (.const (.int .i64 4))),none⟩]) .skip))
 (.seq
 (.seq
 (.reg [Zb 28 38 7,Zm 29 .neq 38 28 0])
 (.cond (Zr 29)
 (.seq
 (.dreg
 (.tk 0 (Zq 30 (.build 37 #[]))
 (.tk 1 (Zb 31 38 7)
 (.one [1,2,3] (Zg 37 6 30) .fin))) [Zg 38 7 31]) .ret) .skip))
 (.seq
 (.reg [Zq 32 (.makeFunc (.func 25) #[] #[Zr 6,Zr 7]),⟨none,(.defer { callee:=(.value (Zr 32)),args:=#[],argTypes:=#[] }),none⟩])
 (.seq
 (.reg [Zb 33 85 8,Za 34 2,Zq 35 (.build 93 #[(0,(Zr 33)),(1,(Zr 34))]),Zj 36 93 35,Zc 9 36])
 (.seq
 (.reg [Za 37 9,Zb 38 35 4,Zo 39 26 #[Zr 37,Zr 38,(.const (.pointer none))] #[91,35,131],Zc 10 39])
 (.seq
 (.reg [Zq 40 (.build 99 #[(0,(.const (.int .i64 5000)))]),Zj 41 99 40,Zc 11 41])
 (.seq
 (.seq
 (.reg [Za 42 11,Za 43 10,Zo 44 27 #[Zr 42,Zr 43] #[97,95]])
 (.seq
 (.reg [Za 45 11,Zq 46 (.nilCheck (Zr 45)),Zd 47 99 46 0,Zb 48 3 47,Zm 49 .lss 3 48 0])
 (.cond (Zr 49)
 (.reg [Zq 50 (.build 89 #[(0,(.const (.int .i64 7)))]),Zq 51 (.makeInterface 89 (Zr 50)),⟨none,(.panic (Zr 51)),none⟩]) .skip)))
 (.seq
 (.dreg
 (.tk 0 (Za 52 10)
 (.tk 2 (Za 54 9)
 (.tk 3 (Zq 55 (.nilCheck (Zr 54)))
 (.tk 4 (Zd 56 93 55 2)
 (.tk 5 (Zb 57 3 56)
 (.one [1,2,3,4,5,6,7,8] (Zo 53 28 #[Zr 52] #[95]) .fin)))))) [Zq 58 (.build 37 #[(0,(Zr 53)),(1,(Zr 57))]),Zg 37 6 58,⟨none,(.store 38 (Zr 7) (.const (.int .i64 0))),none⟩]) .ret))))))))))
theorem fd8:FnD Tryz.prog 8 59 [(.cell 6 37),(.cell 7 38)] c8:=⟨⟨Tryz.f8,Tryz.f8.body.getD .skip,Tryz.func8,by kernel_rfl,by kernel_rfl,by kernel_rfl,by kernel_rfl⟩⟩
def b9_1:ACode:=(.seq
 (.reg [Zn 12 .lss 3 11 10])
 (.seq
 (.cond (Zr 12) .skip (.exit 0))
 (.seq
 (.block 1
 (.seq
 (.reg [Zk 13 22 9 11,Zb 14 102 13,Zi 5 102,Zg 102 5 14])
 (.reg [Zd 15 44 3 0,Zb 16 41 15,Zb 17 102 5,Zq 18 (.buildSlice 41 1 #[(0,(Zr 17))]),Zl 19 16 18 41,Zd 20 44 3 0,Zg 41 20 19])))
 (.reg [Zm 21 .add 3 11 1,Za 11 21]))))
def b9_2:ACode:=(.seq
 (.reg [Zn 26 .lss 3 25 24])
 (.seq
 (.cond (Zr 26) .skip (.exit 2))
 (.seq
 (.block 3
 (.seq
 (.reg [Zk 27 23 23 25,Zb 28 67 27,Zi 7 67,Zg 67 7 28])
 (.dreg
 (.tk 0 (Zd 29 44 3 1)
 (.tk 1 (Zb 30 42 29)
 (.tk 2 (Zb 31 67 7)
 (.one [0,1,3,4,5,6,7] (Zo 32 29 #[Zr 31] #[67])
 (.tk 4 (Zq 33 (.buildSlice 42 1 #[(0,(Zr 32))])) .fin))))) [Zl 34 30 33 42,Zd 35 44 3 1,Zg 42 35 34])))
 (.reg [Zm 36 .add 3 25 1,Za 25 36]))))
def c9_1:ACode:=(.seq
 (.reg [Zb 37 44 3,Zg 44 2 37]) .ret)
def c9_2:ACode:=(.seqL
 (.seq
 (.reg [Zd 22 25 1 1,Zb 23 23 22,Ze 24 23 23,Zq 25 (.move (.const (.int .i64 0)))])
 (.block 2 (.loop b9_2))) c9_1)
def c9:ACode:=(.seq
 (.reg [Zj 1 25 0,Zi 2 44])
 (.seq
 (.reg [Zi 3 44])
 (.seqL
 (.seq
 (.reg [Zd 8 25 1 0,Zb 9 22 8,Ze 10 9 22,Zq 11 (.move (.const (.int .i64 0)))])
 (.block 0 (.loop b9_1))) c9_2)))
theorem fd9:FnD Tryz.prog 9 38 [(.cell 2 44)] c9:=⟨⟨Tryz.f9,Tryz.f9.body.getD .skip,Tryz.func9,by kernel_rfl,by kernel_rfl,by kernel_rfl,by kernel_rfl⟩⟩
def b10_1:ACode:=(.seq
 (.reg [Zn 15 .lss 3 14 13])
 (.seq
 (.cond (Zr 15) .skip (.exit 0))
 (.seq
 (.block 1
 (.seq
 (.reg [Zk 16 26 12 14,Zb 17 28 16,Zi 5 28,Zg 28 5 17])
 (.dreg
 (.tk 0 (Zd 18 35 3 2)
 (.tk 1 (Zb 19 33 18)
 (.tk 2 (Zb 20 28 5)
 (.one [0,1,3,4,5,6,7] (Zo 21 10 #[Zr 20] #[28])
 (.tk 4 (Zq 22 (.buildSlice 33 1 #[(0,(Zr 21))])) .fin))))) [Zl 23 19 22 33,Zd 24 35 3 2,Zg 33 24 23])))
 (.reg [Zm 25 .add 3 14 1,Za 14 25]))))
def c10_1:ACode:=(.seq
 (.reg [Zb 26 35 3,Zg 35 2 26]) .ret)
def c10:ACode:=(.seq
 (.reg [Zj 1 28 0,Zi 2 35])
 (.seq
 (.reg [Zd 6 28 1 0,Zb 7 3 6,Zd 8 28 1 1,Zb 9 9 8,Zq 10 (.build 35 #[(0,(Zr 7)),(1,(Zr 9))]),Zi 3 35,Zg 35 3 10])
 (.seqL
 (.seq
 (.reg [Zd 11 28 1 2,Zb 12 26 11,Ze 13 12 26,Zq 14 (.move (.const (.int .i64 0)))])
 (.block 0 (.loop b10_1))) c10_1)))
theorem fd10:FnD Tryz.prog 10 27 [(.cell 2 35)] c10:=⟨⟨Tryz.f10,Tryz.f10.body.getD .skip,Tryz.func10,by kernel_rfl,by kernel_rfl,by kernel_rfl,by kernel_rfl⟩⟩
def c11:ACode:=(.seq
 (.reg [Zj 3 25 0,Zj 4 28 1,Zi 6 48,Zf 7 0])
 (.seq
 (.seq
 (.reg [Zb 11 25 3,Zb 12 28 4,Zo 13 30 #[Zr 11,Zr 12] #[25,28],Zc 8 13])
 (.seq
 (.reg [Za 14 8,Zm 15 .neq 38 14 0])
 (.cond (Zr 15)
 (.seq
 (.reg [Zq 16 (.build 48 #[]),Za 17 8,Zg 48 6 16,Zc 7 17]) .ret) .skip)))
 (.seq
 (.seq
 (.reg [Za 18 2,Zm 19 .lss 3 18 0,Za 20 19,Zp 21 (.move (Zr 2)) 20 false,Zp 22 (.binOp .gtr 3 (Zr 21) (.const (.int .i64 100000)) 3) 20 false,Zq 23 (.pick (Zr 20) (.const (.bool true)) (Zr 22))])
 (.cond (Zr 23)
 (.seq
 (.reg [Zq 24 (.build 48 #[]),Zg 48 6 24,Zf 7 4]) .ret) .skip))
 (.seq
 (.reg [Zb 26 25 3,Za 27 2,Zq 28 (.build 106 #[(0,(Zr 26)),(2,(Zr 27))]),Zb 29 28 4,Zo 30 31 #[Zr 28,Zr 29] #[106,28],Za 25 30,Zh 31 25 0,Zh 32 25 1,Zi 9 106,Zi 10 28,Zg 106 9 31,Zg 28 10 32])
 (.seq
 (.seq
 (.reg [Zd 33 106 9 4,Zb 34 38 33,Zm 35 .neq 38 34 0])
 (.cond (Zr 35)
 (.seq
 (.dreg
 (.tk 0 (Zq 36 (.build 48 #[]))
 (.tk 1 (Zd 37 106 9 4)
 (.tk 2 (Zb 38 38 37)
 (.one [1,2,3,4] (Zg 48 6 36) .fin)))) [Zc 7 38]) .ret) .skip))
 (.seq
 (.seq
 (.reg [Zb 39 28 10,Zo 40 32 #[Zr 39,(.const (.int .i64 5000))] #[28,3],Zm 41 .gtr 3 40 5000])
 (.cond (Zr 41)
 (.seq
 (.reg [Zq 42 (.build 48 #[]),Zg 48 6 42,Zf 7 7]) .ret) .skip))
 (.seq
 (.seq
 (.reg [Zb 43 28 10,Zo 44 33 #[Zr 43] #[28],Zq 45 (.unOp .not 4 (Zr 44))])
 (.cond (Zr 45)
 (.seq
 (.reg [Zq 46 (.build 48 #[]),Zg 48 6 46,Zf 7 423]) .ret) .skip))
 (.seq
 (.reg [Zb 47 28 10,Zd 48 106 9 1,Zb 49 3 48,Zq 50 (.build 48 #[(0,(Zr 47)),(1,(Zr 49))]),Zg 48 6 50,Zf 7 0]) .ret))))))))
theorem fd11:FnD Tryz.prog 11 51 [(.cell 6 48),(.tmp 7)] c11:=⟨⟨Tryz.f11,Tryz.f11.body.getD .skip,Tryz.func11,by kernel_rfl,by kernel_rfl,by kernel_rfl,by kernel_rfl⟩⟩
def c12:ACode:=(.seq
 (.reg [Zj 4 44 0,Zj 5 35 1,Zj 6 35 2,Zq 8 (.assign (.const (.bool false))),Zf 9 0])
 (.seq
 (.reg [Zb 14 44 4,Zb 15 35 5,Za 16 3,Zo 17 8 #[Zr 14,Zr 15,Zr 16] #[44,35,3],Za 13 17,Zh 18 13 0,Zh 19 13 1,Zi 10 37,Zg 37 10 18,Zc 11 19])
 (.seq
 (.seq
 (.reg [Za 20 11,Zm 21 .neq 38 20 0])
 (.cond (Zr 21)
 (.seq
 (.reg [Za 22 11,Zq 8 (.assign (.const (.bool false))),Zc 9 22]) .ret) .skip))
 (.seq
 (.reg [Zb 24 44 4,Zb 25 35 6,Za 26 3,Zo 27 8 #[Zr 24,Zr 25,Zr 26] #[44,35,3],Za 23 27,Zh 28 23 0,Zh 29 23 1,Zi 12 37,Zg 37 12 28,Zc 11 29])
 (.seq
 (.seq
 (.reg [Za 30 11,Zm 31 .neq 38 30 0])
 (.cond (Zr 31)
 (.seq
 (.reg [Za 32 11,Zq 8 (.assign (.const (.bool false))),Zc 9 32]) .ret) .skip))
 (.seq
 (.reg [Zd 33 37 10 0,Zb 34 35 33,Zd 35 37 12 0,Zb 36 35 35,Zo 37 34 #[Zr 34,Zr 36] #[35,35],Zc 8 37,Zf 9 0]) .ret))))))
theorem fd12:FnD Tryz.prog 12 38 [(.tmp 8),(.tmp 9)] c12:=⟨⟨Tryz.f12,Tryz.f12.body.getD .skip,Tryz.func12,by kernel_rfl,by kernel_rfl,by kernel_rfl,by kernel_rfl⟩⟩
def c13:ACode:=(.seq
 (.reg [Zj 4 25 0,Zj 5 28 1,Zj 6 28 2,Zq 8 (.assign (.const (.bool false))),Zf 9 0])
 (.seq
 (.reg [Zb 14 25 4,Zb 15 28 5,Za 16 3,Zo 17 11 #[Zr 14,Zr 15,Zr 16] #[25,28,3],Za 13 17,Zh 18 13 0,Zh 19 13 1,Zi 10 48,Zg 48 10 18,Zc 11 19])
 (.seq
 (.seq
 (.reg [Za 20 11,Zm 21 .neq 38 20 0])
 (.cond (Zr 21)
 (.seq
 (.reg [Za 22 11,Zq 8 (.assign (.const (.bool false))),Zc 9 22]) .ret) .skip))
 (.seq
 (.reg [Zb 24 25 4,Zb 25 28 6,Za 26 3,Zo 27 11 #[Zr 24,Zr 25,Zr 26] #[25,28,3],Za 23 27,Zh 28 23 0,Zh 29 23 1,Zi 12 48,Zg 48 12 28,Zc 11 29])
 (.seq
 (.seq
 (.reg [Za 30 11,Zm 31 .neq 38 30 0])
 (.cond (Zr 31)
 (.seq
 (.reg [Za 32 11,Zq 8 (.assign (.const (.bool false))),Zc 9 32]) .ret) .skip))
 (.seq
 (.reg [Zd 33 48 10 0,Zb 34 28 33,Zd 35 48 12 0,Zb 36 28 35,Zo 37 35 #[Zr 34,Zr 36] #[28,28],Zc 8 37,Zf 9 0]) .ret))))))
theorem fd13:FnD Tryz.prog 13 38 [(.tmp 8),(.tmp 9)] c13:=⟨⟨Tryz.f13,Tryz.f13.body.getD .skip,Tryz.func13,by kernel_rfl,by kernel_rfl,by kernel_rfl,by kernel_rfl⟩⟩
def c14:ACode:=(.seq
 (.reg [Zj 2 35 0,Zj 3 28 1,Zq 4 (.assign (.const (.bool false)))])
 (.seq
 (.reg [Zd 5 35 2 0,Zb 6 3 5,Zd 7 28 3 0,Zb 8 3 7,Zn 9 .eql 3 6 8,Za 10 9,Zp 11 (.fieldAddr 35 (Zr 2) 1) 10 true,Zp 12 (.load 9 (Zr 11)) 10 true,Zp 13 (.fieldAddr 28 (Zr 3) 1) 10 true,Zp 14 (.load 9 (Zr 13)) 10 true,Zp 15 (.binOp .eql 9 (Zr 12) (Zr 14) 9) 10 true,Zq 16 (.pick (Zr 10) (Zr 15) (.const (.bool false))),Za 17 16,Zp 18 (.fieldAddr 35 (Zr 2) 2) 17 true,Zp 19 (.load 33 (Zr 18)) 17 true,Zp 20 (.fieldAddr 28 (Zr 3) 2) 17 true,Zp 21 (.load 26 (Zr 20)) 17 true,Zp 22 (.call { callee:=(.value (.func 36)),args:=#[Zr 19,Zr 21,(.func 14)],argTypes:=#[33,26,54] }) 17 true,Zq 23 (.pick (Zr 17) (Zr 22) (.const (.bool false))),Zc 4 23]) .ret))
theorem fd14:FnD Tryz.prog 14 24 [(.tmp 4)] c14:=⟨⟨Tryz.f14,Tryz.f14.body.getD .skip,Tryz.func14,by kernel_rfl,by kernel_rfl,by kernel_rfl,by kernel_rfl⟩⟩
def b19_1:ACode:=(.seq
 (.seq
 (.reg [Za 9 6,Zd 10 28 1 2,Zb 11 26 10,Ze 12 11 26,Zn 13 .lss 3 9 12])
 (.cond (Zr 13) .skip (.exit 0)))
 (.seq
 (.block 1
 (.seq
 (.reg [Zd 17 28 1 2,Zb 18 26 17,Za 19 6,Zk 20 26 18 19,Zb 21 28 20,Zo 22 19 #[Zr 21] #[28],Za 16 22,Zh 23 16 0,Zh 24 16 1,Zc 7 23,Zc 8 24])
 (.seq
 (.reg [Za 25 4,Za 26 7,Zn 27 .add 3 25 26,Zc 4 27])
 (.reg [Za 28 5,Za 29 8,Zq 30 (.call { callee:=(.builtin .max),args:=#[Zr 28,Zr 29],argTypes:=#[3,3] }),Zc 5 30]))))
 (.reg [Za 14 6,Zm 15 .add 3 14 1,Zc 6 15])))
def c19_1:ACode:=(.seq
 (.reg [Za 31 4,Za 32 5,Zm 33 .add 3 32 1,Zc 2 31,Zc 3 33]) .ret)
def c19:ACode:=(.seq
 (.reg [Zj 1 28 0,Zf 2 0,Zf 3 0])
 (.seq
 (.reg [Zf 4 1,Zf 5 0])
 (.seqL
 (.seq
 (.reg [Zf 6 0])
 (.block 0 (.loop b19_1))) c19_1)))
theorem fd19:FnD Tryz.prog 19 34 [(.tmp 2),(.tmp 3)] c19:=⟨⟨Tryz.f19,Tryz.f19.body.getD .skip,Tryz.func19,by kernel_rfl,by kernel_rfl,by kernel_rfl,by kernel_rfl⟩⟩
def b20_1:ACode:=(.seq
 (.reg [Zn 31 .lss 3 30 29])
 (.seq
 (.cond (Zr 31) .skip (.exit 2))
 (.seq
 (.block 3
 (.seq
 (.reg [Zk 32 122 28 30,Zb 33 126 32,Zi 9 126,Zg 126 9 33])
 (.reg [Za 34 3,Zb 35 126 9,Zo 36 43 #[Zr 35] #[126],Zn 37 .add 3 34 36,Zc 3 37])))
 (.reg [Zm 38 .add 3 30 1,Za 30 38]))))
def c20_1:ACode:=(.reg [Zm 39 .add 3 13 1,Za 13 39])
def b20_2:ACode:=(.seq
 (.reg [Zn 14 .lss 3 13 12])
 (.seq
 (.cond (Zr 14) .skip (.exit 0))
 (.seqL
 (.block 1
 (.seq
 (.reg [Zk 15 65 11 13,Zb 16 124 15,Zi 5 124,Zg 124 5 16])
 (.seq
 (.reg [Zd 18 124 5 1,Zb 19 28 18,Zo 20 5 #[Zr 19] #[28],Za 17 20,Zh 21 17 0,Zh 22 17 1,Zc 6 21,Zc 7 22])
 (.seq
 (.reg [Za 23 3,Za 24 6,Zq 25 (.binOp .add 3 (.const (.int .i64 1)) (Zr 24) 3),Zn 26 .add 3 23 25,Zc 3 26])
 (.seq
 (.reg [Zd 27 124 5 0,Zb 28 122 27,Ze 29 28 122,Zq 30 (.move (.const (.int .i64 0)))])
 (.block 2 (.loop b20_1))))))) c20_1)))
def c20_2:ACode:=(.seq
 (.reg [Za 40 3,Zc 2 40]) .ret)
def c20:ACode:=(.seq
 (.reg [Zj 1 67 0,Zf 2 0])
 (.seq
 (.reg [Zf 3 1])
 (.seqL
 (.seq
 (.reg [Zd 10 67 1 2,Zb 11 65 10,Ze 12 11 65,Zq 13 (.move (.const (.int .i64 0)))])
 (.block 0 (.loop b20_2))) c20_2)))
theorem fd20:FnD Tryz.prog 20 41 [(.tmp 2)] c20:=⟨⟨Tryz.f20,Tryz.f20.body.getD .skip,Tryz.func20,by kernel_rfl,by kernel_rfl,by kernel_rfl,by kernel_rfl⟩⟩
def c21:ACode:=(.seq
 (.reg [Zi 2 35])
 (.seq
 (.reg [Za 3 0,Zq 4 (.build 35 #[(0,(.const (.int .i64 1))),(1,(Zr 3))]),Zg 35 2 4]) .ret))
theorem fd21:FnD Tryz.prog 21 5 [(.cell 2 35)] c21:=⟨⟨Tryz.f21,Tryz.f21.body.getD .skip,Tryz.func21,by kernel_rfl,by kernel_rfl,by kernel_rfl,by kernel_rfl⟩⟩
def c22:ACode:=(.seq
 (.reg [Zi 4 35])
 (.seq
 (.reg [Za 5 0,Za 6 1,Zq 7 (.build 35 #[(0,(.const (.int .i64 3))),(1,(Zr 5)),(2,(Zr 6))]),Zg 35 4 7]) .ret))
theorem fd22:FnD Tryz.prog 22 8 [(.cell 4 35)] c22:=⟨⟨Tryz.f22,Tryz.f22.body.getD .skip,Tryz.func22,by kernel_rfl,by kernel_rfl,by kernel_rfl,by kernel_rfl⟩⟩
def c23:ACode:=(.seq
 (.reg [Zj 2 35 0,Zj 3 35 1,Zi 4 35])
 (.seq
 (.reg [Zq 5 (.build 35 #[(0,(.const (.int .i64 2))),(1,(.const (.string { data:=#[97,100,100] })))]),Zb 6 35 2,Zb 7 35 3,Zq 8 (.buildSlice 33 3 #[(0,(Zr 5)),(1,(Zr 6)),(2,(Zr 7))]),Zq 9 (.build 35 #[(0,(.const (.int .i64 4))),(2,(Zr 8))]),Zg 35 4 9]) .ret))
theorem fd23:FnD Tryz.prog 23 10 [(.cell 4 35)] c23:=⟨⟨Tryz.f23,Tryz.f23.body.getD .skip,Tryz.func23,by kernel_rfl,by kernel_rfl,by kernel_rfl,by kernel_rfl⟩⟩
def c24:ACode:=(.seq
 (.reg [Zj 2 44 0,Zj 3 35 1,Zi 4 85,Zf 5 0])
 (.seq
 (.seq
 (.reg [Zb 10 44 2,Zo 11 44 #[Zr 10] #[44],Zc 6 11])
 (.seq
 (.reg [Za 12 6,Zm 13 .neq 38 12 0])
 (.cond (Zr 13)
 (.seq
 (.reg [Zq 14 (.build 85 #[]),Za 15 6,Zg 85 4 14,Zc 5 15]) .ret) .skip)))
 (.seq
 (.seq
 (.reg [Zb 17 35 3,Zo 18 42 #[Zr 17] #[35],Za 16 18,Zh 19 16 0,Zh 20 16 1,Zc 7 19,Zc 8 20])
 (.block 0
 (.seq
 (.reg [Za 22 7,Zm 23 .gtr 3 22 5000,Zc 21 23])
 (.cond (Zr 21)
 (.seq
 (.reg [Zq 24 (.build 85 #[]),Zg 85 4 24,Zf 5 7]) .ret)
 (.seq
 (.reg [Za 26 8,Zm 27 .gtr 3 26 200,Zc 25 27])
 (.cond (Zr 25)
 (.seq
 (.reg [Zq 28 (.build 85 #[]),Zg 85 4 28,Zf 5 6]) .ret) .skip))))))
 (.seq
 (.reg [Zb 29 44 2,Zo 30 45 #[Zr 29] #[44],Zi 9 85,Zg 85 9 30])
 (.seq
 (.dreg
 (.tk 0 (Zb 31 85 9)
 (.tk 1 (Zb 32 85 9)
 (.tk 2 (Zb 33 35 3)
 (.one [0,3,4,5] (Zo 34 46 #[Zr 32,Zr 33,(.const (.slice none 0 0))] #[85,35,181]) .fin)))) [Zg 85 4 31,Zc 5 34]) .ret)))))
theorem fd24:FnD Tryz.prog 24 35 [(.cell 4 85),(.tmp 5)] c24:=⟨⟨Tryz.f24,Tryz.f24.body.getD .skip,Tryz.func24,by kernel_rfl,by kernel_rfl,by kernel_rfl,by kernel_rfl⟩⟩
def c25:ACode:=(.seq
 (.reg [Zq 5 (.call { callee:=(.builtin .recover),args:=#[],argTypes:=#[] }),Zc 2 5])
 (.seq
 (.reg [Za 6 2,Zq 7 (.binOp .neq 20 (Zr 6) (.const .nilIface) 20)])
 (.cond (Zr 7)
 (.seq
 (.reg [Za 9 2,Zq 10 (.typeAssert (Zr 9) 20 89 true),Za 8 10,Zh 11 8 0,Zh 12 8 1,Zi 3 89,Zg 89 3 11,Zc 4 12])
 (.seq
 (.seq
 (.reg [Za 13 4,Zq 14 (.unOp .not 4 (Zr 13))])
 (.cond (Zr 14)
 (.reg [Za 15 2,⟨none,(.panic (Zr 15)),none⟩]) .skip))
 (.dreg
 (.tk 0 (Zq 16 (.build 37 #[]))
 (.tk 1 (Zd 17 89 3 0)
 (.tk 2 (Zb 18 38 17)
 (.one [1,2,3,4] (Zg 37 0 16) .fin)))) [Zg 38 1 18]))) .skip)))
theorem fd25:FnD Tryz.prog 25 19 [] c25:=⟨⟨Tryz.f25,Tryz.f25.body.getD .skip,Tryz.func25,by kernel_rfl,by kernel_rfl,by kernel_rfl,by kernel_rfl⟩⟩
def c26:ACode:=(.seq
 (.reg [Zj 3 91 0,Zj 4 35 1,Zj 5 131 2,Zq 6 (.assign (.const .nilIface))])
 (.seq
 (.reg [Zq 10 (.makeFunc (.func 47) #[] #[Zr 4,Zr 3,Zr 5]),Zc 7 10])
 (.seq
 (.seq
 (.reg [Zd 11 35 4 0,Zb 12 3 11])
 (.block 0
 (.seq
 (.reg [Zm 14 .eql 3 12 1,Zc 13 14])
 (.cond (Zr 13)
 (.seq
 (.reg [Zb 15 131 5,Zd 16 35 4 1,Zb 17 9 16,Zo 18 48 #[Zr 15,Zr 17] #[131,9],Zc 6 18]) .ret)
 (.seq
 (.reg [Zm 20 .eql 3 12 5,Zc 19 20])
 (.cond (Zr 19)
 (.seq
 (.reg [Zb 21 35 4,Zb 22 131 5,Zq 23 (.build 136 #[(0,(Zr 21)),(1,(Zr 22))]),Zq 24 (.makeInterface 136 (Zr 23)),Zc 6 24]) .ret)
 (.seq
 (.reg [Zm 26 .eql 3 12 2,Zc 25 26])
 (.cond (Zr 25)
 (.seq
 (.seq
 (.dreg
 (.tk 0 (Zb 27 91 3)
 (.tk 1 (Zq 28 (.nilCheck (Zr 27)))
 (.tk 2 (Zd 29 93 28 0)
 (.tk 3 (Zd 30 85 29 0)
 (.tk 4 (Zb 31 82 30)
 (.tk 5 (Zd 32 35 4 1)
 (.tk 6 (Zb 33 9 32) .fin))))))) [Zq 34 (.lookup 82 (Zr 31) (Zr 33) false),Zc 8 34])
 (.seq
 (.reg [Za 35 8,Zq 36 (.nilCheck (Zr 35)),Zd 37 81 36 1,Zb 38 3 37,Zm 39 .gtr 3 38 0])
 (.cond (Zr 39)
 (.seq
 (.reg [Za 40 8,Zq 41 (.build 139 #[(0,(Zr 40)),(1,(.const (.slice none 0 0)))]),Zq 42 (.makeInterface 139 (Zr 41)),Zc 6 42]) .ret) .skip)))
 (.seq
 (.dreg
 (.tk 0 (Zb 43 91 3)
 (.tk 1 (Zb 44 91 3)
 (.tk 2 (Zq 45 (.nilCheck (Zr 44)))
 (.tk 3 (Zd 46 93 45 0)
 (.tk 4 (Zd 47 85 46 0)
 (.tk 5 (Zb 48 82 47)
 (.tk 6 (Zd 49 35 4 1)
 (.tk 7 (Zb 50 9 49)
 (.one [0,8,9,10] (Zq 51 (.lookup 82 (Zr 48) (Zr 50) false)) .fin))))))))) [Zo 52 49 #[Zr 43,Zr 51,(.const (.slice none 0 0))] #[91,137,132],Zc 6 52]) .ret))
 (.seq
 (.reg [Zm 54 .eql 3 12 3,Zc 53 54])
 (.cond (Zr 53)
 (.seq
 (.dreg
 (.tk 0 (Zd 55 35 4 1)
 (.tk 1 (Zb 56 9 55)
 (.tk 2 (Za 57 7)
 (.one [0,1,3,4,5,6] (Zq 58 (.call { callee:=(.value (Zr 57)),args:=#[],argTypes:=#[] })) .fin)))) [Zq 59 (.build 142 #[(0,(Zr 56)),(1,(Zr 58))]),Zq 60 (.makeInterface 142 (Zr 59)),Zc 6 60]) .ret) .skip))))))))))
 (.seq
 (.reg [Za 61 7,Zq 62 (.call { callee:=(.value (Zr 61)),args:=#[],argTypes:=#[] }),Zc 9 62])
 (.seq
 (.dreg
 (.tk 0 (Zb 63 91 3)
 (.tk 1 (Za 64 9)
 (.tk 2 (Zq 65 (.indexAddr 132 (Zr 64) (.const (.int .i64 0))))
 (.tk 3 (Zb 66 95 65)
 (.tk 4 (Za 67 9)
 (.tk 5 (Zq 68 (.slice 132 (Zr 67) (some (.const (.int .i64 1))) none none)) .fin)))))) [Zo 69 50 #[Zr 63,Zr 66,Zr 68] #[91,95,132],Zc 6 69]) .ret)))))
theorem fd26:FnD Tryz.prog 26 70 [(.tmp 6)] c26:=⟨⟨Tryz.f26,Tryz.f26.body.getD .skip,Tryz.func26,by kernel_rfl,by kernel_rfl,by kernel_rfl,by kernel_rfl⟩⟩
def c27:ACode:=(.seq
 (.seq
 (.reg [Za 7 0,Zq 8 (.nilCheck (Zr 7)),Zd 9 99 8 0,Zb 10 3 9,Zm 11 .lss 3 10 0])
 (.cond (Zr 11) .ret .skip))
 (.seq
 (.reg [Za 12 1])
 (.block 0
 (.seq
 (.reg [Zq 13 (.typeAssert (Zr 12) 95 142 true),Zh 14 13 1,Zh 15 13 0])
 (.cond (Zr 14)
 (.seq
 (.reg [Zi 4 142,Zg 142 4 15])
 (.seq
 (.reg [Za 16 0,Zq 17 (.nilCheck (Zr 16)),Zd 18 99 17 0,Zb 19 3 18,Zm 20 .sub 3 19 1,Zq 21 (.nilCheck (Zr 16)),Zd 22 99 21 0,Zg 3 22 20])
 (.reg [Za 23 0,Zd 24 142 4 1,Zb 25 132 24,Zo 26 51 #[Zr 23,Zr 25] #[97,132]])))
 (.seq
 (.reg [Zq 27 (.typeAssert (Zr 12) 95 136 true),Zh 28 27 1,Zh 29 27 0])
 (.cond (Zr 28)
 (.seq
 (.reg [Zi 5 136,Zg 136 5 29])
 (.reg [Za 30 0,Zd 31 136 5 0,Zb 32 35 31,Zd 33 136 5 1,Zb 34 131 33,Zo 35 52 #[Zr 30,Zr 32,Zr 34] #[97,35,131]]))
 (.seq
 (.reg [Zq 36 (.typeAssert (Zr 12) 95 139 true),Zh 37 36 1,Zh 38 36 0])
 (.cond (Zr 37)
 (.seq
 (.reg [Zi 6 139,Zg 139 6 38])
 (.seq
 (.reg [Za 39 0,Zq 40 (.nilCheck (Zr 39)),Zd 41 99 40 0,Zb 42 3 41,Zm 43 .sub 3 42 1,Zq 44 (.nilCheck (Zr 39)),Zd 45 99 44 0,Zg 3 45 43])
 (.seq
 (.seq
 (.reg [Zd 46 139 6 1,Zb 47 132 46,Ze 48 47 132,Zm 49 .gtr 3 48 0])
 (.cond (Zr 49)
 (.reg [Za 50 0,Zq 51 (.nilCheck (Zr 50)),Zd 52 99 51 0,Zb 53 3 52,Zm 54 .sub 3 53 1,Zq 55 (.nilCheck (Zr 50)),Zd 56 99 55 0,Zg 3 56 54]) .skip))
 (.reg [Za 57 0,Zd 58 139 6 1,Zb 59 132 58,Zo 60 51 #[Zr 57,Zr 59] #[97,132]])))) .skip)))))))))
theorem fd27:FnD Tryz.prog 27 61 [] c27:=⟨⟨Tryz.f27,Tryz.f27.body.getD .skip,Tryz.func27,by kernel_rfl,by kernel_rfl,by kernel_rfl,by kernel_rfl⟩⟩
def b28_1:ACode:=(.seq
 (.reg [Zn 24 .lss 3 23 22])
 (.seq
 (.cond (Zr 24) .skip (.exit 0))
 (.seq
 (.block 1
 (.seq
 (.reg [Zk 25 132 21 23,Zb 26 95 25,Zc 7 26])
 (.dreg
 (.tk 0 (Zd 27 35 5 2)
 (.tk 1 (Zb 28 33 27)
 (.tk 2 (Za 29 7)
 (.one [0,1,3,4,5,6,7] (Zo 30 28 #[Zr 29] #[95])
 (.tk 4 (Zq 31 (.buildSlice 33 1 #[(0,(Zr 30))])) .fin))))) [Zl 32 28 31 33,Zd 33 35 5 2,Zg 33 33 32])))
 (.reg [Zm 34 .add 3 23 1,Za 23 34]))))
def c28_1:ACode:=(.seq
 (.reg [Zb 35 35 5,Zg 35 2 35]) .ret)
def c28:ACode:=(.seq
 (.reg [Zi 2 35])
 (.seq
 (.reg [Za 9 0,Zq 10 (.typeAssert (Zr 9) 95 142 true),Za 8 10,Zh 11 8 0,Zh 12 8 1,Zi 3 142,Zg 142 3 11,Zc 4 12])
 (.seq
 (.seq
 (.reg [Za 13 4,Zq 14 (.unOp .not 4 (Zr 13))])
 (.cond (Zr 14)
 (.reg [Zq 15 (.build 89 #[(0,(.const (.int .i64 423)))]),Zq 16 (.makeInterface 89 (Zr 15)),⟨none,(.panic (Zr 16)),none⟩]) .skip))
 (.seq
 (.reg [Zd 17 142 3 0,Zb 18 9 17,Zq 19 (.build 35 #[(0,(.const (.int .i64 3))),(1,(Zr 18))]),Zi 5 35,Zg 35 5 19])
 (.seqL
 (.seq
 (.reg [Zd 20 142 3 1,Zb 21 132 20,Ze 22 21 132,Zq 23 (.move (.const (.int .i64 0)))])
 (.block 0 (.loop b28_1))) c28_1)))))
theorem fd28:FnD Tryz.prog 28 36 [(.cell 2 35)] c28:=⟨⟨Tryz.f28,Tryz.f28.body.getD .skip,Tryz.func28,by kernel_rfl,by kernel_rfl,by kernel_rfl,by kernel_rfl⟩⟩
def b29_1:ACode:=(.seq
 (.reg [Zn 29 .lss 3 28 27])
 (.seq
 (.cond (Zr 29) .skip (.exit 2))
 (.seq
 (.block 3
 (.seq
 (.reg [Zk 30 122 26 28,Zb 31 126 30,Zi 8 126,Zg 126 8 31])
 (.dreg
 (.tk 0 (Zd 32 78 6 0)
 (.tk 1 (Zb 33 72 32)
 (.tk 2 (Zb 34 126 8)
 (.one [0,1,3,4,5,6,7] (Zo 35 53 #[Zr 34] #[126])
 (.tk 4 (Zq 36 (.buildSlice 72 1 #[(0,(Zr 35))])) .fin))))) [Zl 37 33 36 72,Zd 38 78 6 0,Zg 72 38 37])))
 (.reg [Zm 39 .add 3 28 1,Za 28 39]))))
def c29_1:ACode:=(.reg [Zd 40 81 3 2,Zb 41 79 40,Zb 42 78 6,Zq 43 (.buildSlice 79 1 #[(0,(Zr 42))]),Zl 44 41 43 79,Zd 45 81 3 2,Zg 79 45 44])
def c29_2:ACode:=(.reg [Zm 46 .add 3 17 1,Za 17 46])
def b29_2:ACode:=(.seq
 (.reg [Zn 18 .lss 3 17 16])
 (.seq
 (.cond (Zr 18) .skip (.exit 0))
 (.seqL
 (.block 1
 (.seq
 (.reg [Zk 19 65 15 17,Zb 20 124 19,Zi 5 124,Zg 124 5 20])
 (.seq
 (.reg [Zd 21 124 5 1,Zb 22 28 21,Zo 23 10 #[Zr 22] #[28],Zq 24 (.build 78 #[(1,(Zr 23))]),Zi 6 78,Zg 78 6 24])
 (.seqL
 (.seq
 (.reg [Zd 25 124 5 0,Zb 26 122 25,Ze 27 26 122,Zq 28 (.move (.const (.int .i64 0)))])
 (.block 2 (.loop b29_1))) c29_1)))) c29_2)))
def c29_3:ACode:=(.seq
 (.reg [Zb 47 81 3,Zg 81 2 47]) .ret)
def c29:ACode:=(.seq
 (.reg [Zj 1 67 0,Zi 2 81])
 (.seq
 (.reg [Zd 9 67 1 0,Zb 10 9 9,Zd 11 67 1 1,Zb 12 3 11,Zq 13 (.build 81 #[(0,(Zr 10)),(1,(Zr 12))]),Zi 3 81,Zg 81 3 13])
 (.seqL
 (.seq
 (.reg [Zd 14 67 1 2,Zb 15 65 14,Ze 16 15 65,Zq 17 (.move (.const (.int .i64 0)))])
 (.block 0 (.loop b29_2))) c29_3)))
theorem fd29:FnD Tryz.prog 29 48 [(.cell 2 81)] c29:=⟨⟨Tryz.f29,Tryz.f29.body.getD .skip,Tryz.func29,by kernel_rfl,by kernel_rfl,by kernel_rfl,by kernel_rfl⟩⟩
def c30:ACode:=(.seq
 (.reg [Zj 2 25 0,Zj 3 28 1,Zf 4 0])
 (.seq
 (.seq
 (.reg [Zb 8 25 2,Zo 9 54 #[Zr 8] #[25],Zc 5 9])
 (.seq
 (.reg [Za 10 5,Zm 11 .neq 38 10 0])
 (.cond (Zr 11)
 (.seq
 (.reg [Za 12 5,Zc 4 12]) .ret) .skip)))
 (.seq
 (.reg [Zb 14 28 3,Zo 15 19 #[Zr 14] #[28],Za 13 15,Zh 16 13 0,Zh 17 13 1,Zc 6 16,Zc 7 17])
 (.seq
 (.seq
 (.reg [Za 18 6,Zm 19 .gtr 3 18 5000])
 (.cond (Zr 19)
 (.seq
 (.reg [Zf 4 7]) .ret) .skip))
 (.seq
 (.seq
 (.reg [Za 20 7,Zm 21 .gtr 3 20 200])
 (.cond (Zr 21)
 (.seq
 (.reg [Zf 4 6]) .ret) .skip))
 (.seq
 (.reg [Zb 22 25 2,Zb 23 28 3,Zo 24 55 #[Zr 22,Zr 23,(.const (.slice none 0 0))] #[25,28,181],Zc 4 24]) .ret))))))
theorem fd30:FnD Tryz.prog 30 25 [(.tmp 4)] c30:=⟨⟨Tryz.f30,Tryz.f30.body.getD .skip,Tryz.func30,by kernel_rfl,by kernel_rfl,by kernel_rfl,by kernel_rfl⟩⟩
def c31:ACode:=(.seq
 (.reg [Zj 2 106 0,Zj 3 28 1,Zi 4 106,Zi 5 28])
 (.seq
 (.seq
 (.reg [Zd 9 106 2 4,Zb 10 38 9,Zm 11 .neq 38 10 0])
 (.cond (Zr 11)
 (.seq
 (.dreg
 (.tk 0 (Zb 12 106 2)
 (.tk 1 (Zb 13 28 3)
 (.one [1,2,3] (Zg 106 4 12) .fin))) [Zg 28 5 13]) .ret) .skip))
 (.seq
 (.seq
 (.reg [Zd 14 28 3 0,Zb 15 3 14])
 (.block 0
 (.seq
 (.reg [Zm 17 .eql 3 15 9,Zc 16 17])
 (.cond (Zr 16)
 (.seq
 (.dreg
 (.tk 0 (Zb 18 106 2)
 (.tk 1 (Zd 19 28 3 2)
 (.tk 2 (Zb 20 26 19)
 (.tk 3 (Zq 21 (.indexAddr 26 (Zr 20) (.const (.int .i64 0))))
 (.tk 4 (Zb 22 28 21)
 (.one [1,2,3,4,5,6] (Zg 106 4 18) .fin)))))) [Zg 28 5 22]) .ret)
 (.seq
 (.reg [Zm 24 .eql 3 15 5,Zc 23 24])
 (.cond (Zr 23)
 (.seq
 (.dreg
 (.tk 0 (Zb 25 106 2)
 (.tk 1 (Zb 26 28 3)
 (.one [1,2,3] (Zg 106 4 25) .fin))) [Zg 28 5 26]) .ret)
 (.seq
 (.reg [Zm 28 .eql 3 15 2,Zc 27 28])
 (.cond (Zr 27)
 (.seq
 (.seq
 (.dreg
 (.tk 0 (Zd 29 106 2 0)
 (.tk 1 (Zd 30 25 29 1)
 (.tk 2 (Zb 31 23 30)
 (.tk 3 (Zd 32 106 2 0)
 (.tk 4 (Zb 33 25 32)
 (.tk 5 (Zd 34 28 3 1)
 (.tk 6 (Zb 35 9 34)
 (.one [0,1,2,7,8,9,10,11] (Zo 36 56 #[Zr 33,Zr 35] #[25,9]) .fin)))))))) [Zk 37 23 31 36,Zd 38 67 37 1,Zb 39 3 38,Zm 40 .gtr 3 39 0])
 (.cond (Zr 40)
 (.seq
 (.dreg
 (.tk 0 (Zb 41 106 2)
 (.tk 1 (Zb 42 28 3)
 (.one [1,2,3] (Zg 106 4 41) .fin))) [Zg 28 5 42]) .ret) .skip))
 (.seq
 (.dreg
 (.tk 0 (Zb 43 106 2)
 (.tk 1 (Zd 44 106 2 0)
 (.tk 2 (Zd 45 25 44 1)
 (.tk 3 (Zb 46 23 45)
 (.tk 4 (Zd 47 106 2 0)
 (.tk 5 (Zb 48 25 47)
 (.tk 6 (Zd 49 28 3 1)
 (.tk 7 (Zb 50 9 49)
 (.one [0,1,2,3,8,9,10,11,12,13,14,15] (Zo 51 56 #[Zr 48,Zr 50] #[25,9])
 (.tk 9 (Zk 52 23 46 51)
 (.tk 10 (Zb 53 67 52)
 (.one [11,12,13,14,15] (Zo 54 57 #[Zr 43,Zr 53,(.const (.slice none 0 0))] #[106,67,26])
 (.tk 12 (Zh 55 54 0)
 (.tk 13 (Zh 56 54 1) .fin)))))))))))))) [Zg 106 4 55,Zg 28 5 56]) .ret))
 (.seq
 (.reg [Zm 58 .eql 3 15 3,Zc 57 58])
 (.cond (Zr 57)
 (.seq
 (.reg [Zb 60 106 2,Zd 61 28 3 2,Zb 62 26 61,Zo 63 58 #[Zr 60,Zr 62] #[106,26],Za 59 63,Zh 64 59 0,Zh 65 59 1,Zi 6 106,Zg 106 6 64,Zc 7 65])
 (.seq
 (.dreg
 (.tk 0 (Zb 66 106 6)
 (.tk 1 (Zd 67 28 3 0)
 (.tk 2 (Zb 68 3 67)
 (.tk 3 (Zd 69 28 3 1)
 (.tk 4 (Zb 70 9 69)
 (.tk 5 (Za 71 7)
 (.tk 6 (Zq 72 (.build 28 #[(0,(Zr 68)),(1,(Zr 70)),(2,(Zr 71))]))
 (.one [1,2,3,4,5,6,7,8] (Zg 106 4 66) .fin)))))))) [Zg 28 5 72]) .ret)) .skip))))))))))
 (.seq
 (.reg [Zb 74 106 2,Zd 75 28 3 2,Zb 76 26 75,Zo 77 58 #[Zr 74,Zr 76] #[106,26],Za 73 77,Zh 78 73 0,Zh 79 73 1,Zg 106 2 78,Zc 8 79])
 (.seq
 (.seq
 (.reg [Zd 80 106 2 4,Zb 81 38 80,Zm 82 .neq 38 81 0])
 (.cond (Zr 82)
 (.seq
 (.dreg
 (.tk 0 (Zb 83 106 2)
 (.tk 1 (Zb 84 28 3)
 (.one [1,2,3] (Zg 106 4 83) .fin))) [Zg 28 5 84]) .ret) .skip))
 (.seq
 (.dreg
 (.tk 0 (Zb 85 106 2)
 (.tk 1 (Za 86 8)
 (.tk 2 (Zq 87 (.indexAddr 26 (Zr 86) (.const (.int .i64 0))))
 (.tk 3 (Zb 88 28 87)
 (.tk 4 (Za 89 8)
 (.tk 5 (Zq 90 (.slice 26 (Zr 89) (some (.const (.int .i64 1))) none none))
 (.one [6,7,8,9,10] (Zo 91 59 #[Zr 85,Zr 88,Zr 90] #[106,28,26])
 (.tk 7 (Zh 92 91 0)
 (.tk 8 (Zh 93 91 1) .fin))))))))) [Zg 106 4 92,Zg 28 5 93]) .ret))))))
theorem fd31:FnD Tryz.prog 31 94 [(.cell 4 106),(.cell 5 28)] c31:=⟨⟨Tryz.f31,Tryz.f31.body.getD .skip,Tryz.func31,by kernel_rfl,by kernel_rfl,by kernel_rfl,by kernel_rfl⟩⟩
def b32_1:ACode:=(.seq
 (.seq
 (.reg [Za 16 6,Zd 17 28 2 2,Zb 18 26 17,Ze 19 18 26,Zn 20 .lss 3 16 19,Za 21 20,Zp 22 (.move (Zr 5)) 21 true,Zp 23 (.move (Zr 1)) 21 true,Zp 24 (.binOp .leq 3 (Zr 22) (Zr 23) 3) 21 true,Zq 25 (.pick (Zr 21) (Zr 24) (.const (.bool false)))])
 (.cond (Zr 25) .skip (.exit 0)))
 (.seq
 (.block 1
 (.reg [Za 28 5,Zd 29 28 2 2,Zb 30 26 29,Za 31 6,Zk 32 26 30 31,Zb 33 28 32,Za 34 1,Za 35 5,Zn 36 .sub 3 34 35,Zo 37 32 #[Zr 33,Zr 36] #[28,3],Zn 38 .add 3 28 37,Zc 5 38]))
 (.reg [Za 26 6,Zm 27 .add 3 26 1,Zc 6 27])))
def c32_1:ACode:=(.seq
 (.reg [Za 39 5,Zc 4 39]) .ret)
def c32:ACode:=(.seq
 (.reg [Zj 2 28 0,Zf 4 0])
 (.seq
 (.seq
 (.reg [Zd 7 28 2 0,Zb 8 3 7,Zm 9 .eql 3 8 9])
 (.cond (Zr 9)
 (.seq
 (.reg [Zd 10 28 2 2,Zb 11 26 10,Zq 12 (.indexAddr 26 (Zr 11) (.const (.int .i64 0))),Zb 13 28 12,Za 14 1,Zo 15 32 #[Zr 13,Zr 14] #[28,3],Zc 4 15]) .ret) .skip))
 (.seq
 (.reg [Zf 5 1])
 (.seqL
 (.seq
 (.reg [Zf 6 0])
 (.block 0 (.loop b32_1))) c32_1))))
theorem fd32:FnD Tryz.prog 32 40 [(.tmp 4)] c32:=⟨⟨Tryz.f32,Tryz.f32.body.getD .skip,Tryz.func32,by kernel_rfl,by kernel_rfl,by kernel_rfl,by kernel_rfl⟩⟩
def b33_1:ACode:=(.seq
 (.seq
 (.reg [Za 7 3,Zd 8 28 1 2,Zb 9 26 8,Ze 10 9 26,Zn 11 .lss 3 7 10])
 (.cond (Zr 11) .skip (.exit 0)))
 (.seq
 (.block 1
 (.seq
 (.reg [Zd 14 28 1 2,Zb 15 26 14,Za 16 3,Zk 17 26 15 16,Zb 18 28 17,Zo 19 33 #[Zr 18] #[28],Zq 20 (.unOp .not 4 (Zr 19))])
 (.cond (Zr 20)
 (.seq
 (.reg [Zq 2 (.assign (.const (.bool false)))]) .ret) .skip)))
 (.reg [Za 12 3,Zm 13 .add 3 12 1,Zc 3 13])))
def c33_1:ACode:=(.seq
 (.reg [Zq 2 (.assign (.const (.bool true)))]) .ret)
def c33:ACode:=(.seq
 (.reg [Zj 1 28 0,Zq 2 (.assign (.const (.bool false)))])
 (.seq
 (.seq
 (.reg [Zd 4 28 1 0,Zb 5 3 4,Zm 6 .neq 3 5 3])
 (.cond (Zr 6)
 (.seq
 (.reg [Zq 2 (.assign (.const (.bool false)))]) .ret) .skip))
 (.seqL
 (.seq
 (.reg [Zf 3 0])
 (.block 0 (.loop b33_1))) c33_1)))
theorem fd33:FnD Tryz.prog 33 21 [(.tmp 2)] c33:=⟨⟨Tryz.f33,Tryz.f33.body.getD .skip,Tryz.func33,by kernel_rfl,by kernel_rfl,by kernel_rfl,by kernel_rfl⟩⟩
def c34:ACode:=(.seq
 (.reg [Zj 2 35 0,Zj 3 35 1,Zq 4 (.assign (.const (.bool false)))])
 (.seq
 (.reg [Zd 5 35 2 0,Zb 6 3 5,Zd 7 35 3 0,Zb 8 3 7,Zn 9 .eql 3 6 8,Za 10 9,Zp 11 (.fieldAddr 35 (Zr 2) 1) 10 true,Zp 12 (.load 9 (Zr 11)) 10 true,Zp 13 (.fieldAddr 35 (Zr 3) 1) 10 true,Zp 14 (.load 9 (Zr 13)) 10 true,Zp 15 (.binOp .eql 9 (Zr 12) (Zr 14) 9) 10 true,Zq 16 (.pick (Zr 10) (Zr 15) (.const (.bool false))),Za 17 16,Zp 18 (.fieldAddr 35 (Zr 2) 2) 17 true,Zp 19 (.load 33 (Zr 18)) 17 true,Zp 20 (.fieldAddr 35 (Zr 3) 2) 17 true,Zp 21 (.load 33 (Zr 20)) 17 true,Zp 22 (.call { callee:=(.value (.func 60)),args:=#[Zr 19,Zr 21,(.func 34)],argTypes:=#[33,33,111] }) 17 true,Zq 23 (.pick (Zr 17) (Zr 22) (.const (.bool false))),Zc 4 23]) .ret))
theorem fd34:FnD Tryz.prog 34 24 [(.tmp 4)] c34:=⟨⟨Tryz.f34,Tryz.f34.body.getD .skip,Tryz.func34,by kernel_rfl,by kernel_rfl,by kernel_rfl,by kernel_rfl⟩⟩
def b35_1:ACode:=(.seq
 (.seq
 (.reg [Za 27 5,Zd 28 28 2 2,Zb 29 26 28,Ze 30 29 26,Zn 31 .lss 3 27 30])
 (.cond (Zr 31) .skip (.exit 0)))
 (.seq
 (.block 1
 (.seq
 (.dreg
 (.tk 0 (Zd 34 28 2 2)
 (.tk 1 (Zb 35 26 34)
 (.tk 2 (Za 36 5)
 (.tk 3 (Zk 37 26 35 36)
 (.tk 4 (Zb 38 28 37)
 (.tk 5 (Zd 39 28 3 2)
 (.tk 6 (Zb 40 26 39)
 (.tk 7 (Za 41 5)
 (.tk 8 (Zk 42 26 40 41)
 (.tk 9 (Zb 43 28 42) .fin)))))))))) [Zo 44 35 #[Zr 38,Zr 43] #[28,28],Zq 45 (.unOp .not 4 (Zr 44))])
 (.cond (Zr 45)
 (.seq
 (.reg [Zq 4 (.assign (.const (.bool false)))]) .ret) .skip)))
 (.reg [Za 32 5,Zm 33 .add 3 32 1,Zc 5 33])))
def c35_1:ACode:=(.seq
 (.reg [Zq 4 (.assign (.const (.bool true)))]) .ret)
def c35:ACode:=(.seq
 (.reg [Zj 2 28 0,Zj 3 28 1,Zq 4 (.assign (.const (.bool false)))])
 (.seq
 (.seq
 (.reg [Zd 6 28 2 0,Zb 7 3 6,Zd 8 28 3 0,Zb 9 3 8,Zn 10 .neq 3 7 9,Za 11 10,Zp 12 (.fieldAddr 28 (Zr 2) 1) 11 false,Zp 13 (.load 9 (Zr 12)) 11 false,Zp 14 (.fieldAddr 28 (Zr 3) 1) 11 false,Zp 15 (.load 9 (Zr 14)) 11 false,Zp 16 (.binOp .neq 9 (Zr 13) (Zr 15) 9) 11 false,Zq 17 (.pick (Zr 11) (.const (.bool true)) (Zr 16)),Za 18 17,Zp 19 (.fieldAddr 28 (Zr 2) 2) 18 false,Zp 20 (.load 26 (Zr 19)) 18 false,Zp 21 (.call { callee:=(.builtin .len),args:=#[Zr 20],argTypes:=#[26] }) 18 false,Zp 22 (.fieldAddr 28 (Zr 3) 2) 18 false,Zp 23 (.load 26 (Zr 22)) 18 false,Zp 24 (.call { callee:=(.builtin .len),args:=#[Zr 23],argTypes:=#[26] }) 18 false,Zp 25 (.binOp .neq 3 (Zr 21) (Zr 24) 3) 18 false,Zq 26 (.pick (Zr 18) (.const (.bool true)) (Zr 25))])
 (.cond (Zr 26)
 (.seq
 (.reg [Zq 4 (.assign (.const (.bool false)))]) .ret) .skip))
 (.seqL
 (.seq
 (.reg [Zf 5 0])
 (.block 0 (.loop b35_1))) c35_1)))
theorem fd35:FnD Tryz.prog 35 46 [(.tmp 4)] c35:=⟨⟨Tryz.f35,Tryz.f35.body.getD .skip,Tryz.func35,by kernel_rfl,by kernel_rfl,by kernel_rfl,by kernel_rfl⟩⟩
def b36_1:ACode:=(.seq
 (.reg [Zn 18 .lss 3 17 16])
 (.seq
 (.cond (Zr 18) .skip (.exit 0))
 (.seq
 (.block 1
 (.seq
 (.reg [Za 19 17,Zk 20 33 15 17,Zb 21 35 20,Zi 8 35,Zc 7 19,Zg 35 8 21])
 (.seq
 (.reg [Za 22 1,Za 23 7,Zk 24 26 22 23,Zb 25 28 24,Zi 9 28,Zg 28 9 25])
 (.seq
 (.reg [Za 26 2,Zb 27 35 8,Zb 28 28 9,Zq 29 (.call { callee:=(.value (Zr 26)),args:=#[Zr 27,Zr 28],argTypes:=#[35,28] }),Zq 30 (.unOp .not 4 (Zr 29))])
 (.cond (Zr 30)
 (.seq
 (.reg [Zq 6 (.assign (.const (.bool false)))]) .ret) .skip)))))
 (.reg [Zm 31 .add 3 17 1,Za 17 31]))))
def c36_1:ACode:=(.seq
 (.reg [Zq 6 (.assign (.const (.bool true)))]) .ret)
def c36:ACode:=(.seq
 (.reg [Zq 6 (.assign (.const (.bool false)))])
 (.seq
 (.seq
 (.reg [Za 10 0,Ze 11 10 33,Za 12 1,Ze 13 12 26,Zn 14 .neq 3 11 13])
 (.cond (Zr 14)
 (.seq
 (.reg [Zq 6 (.assign (.const (.bool false)))]) .ret) .skip))
 (.seqL
 (.seq
 (.reg [Za 15 0,Ze 16 15 33,Zq 17 (.move (.const (.int .i64 0)))])
 (.block 0 (.loop b36_1))) c36_1)))
theorem fd36:FnD Tryz.prog 36 32 [(.tmp 6)] c36:=⟨⟨Tryz.f36,Tryz.f36.body.getD .skip,Tryz.func36,by kernel_rfl,by kernel_rfl,by kernel_rfl,by kernel_rfl⟩⟩
def b42_1:ACode:=(.seq
 (.reg [Zn 12 .lss 3 11 10])
 (.seq
 (.cond (Zr 12) .skip (.exit 0))
 (.seq
 (.block 1
 (.seq
 (.reg [Zk 13 33 9 11,Zb 14 35 13,Zi 5 35,Zg 35 5 14])
 (.seq
 (.reg [Zb 16 35 5,Zo 17 42 #[Zr 16] #[35],Za 15 17,Zh 18 15 0,Zh 19 15 1,Zc 6 18,Zc 7 19])
 (.seq
 (.reg [Za 20 2,Za 21 6,Zn 22 .add 3 20 21,Zc 2 22])
 (.reg [Za 23 3,Za 24 7,Zq 25 (.call { callee:=(.builtin .max),args:=#[Zr 23,Zr 24],argTypes:=#[3,3] }),Zc 3 25])))))
 (.reg [Zm 26 .add 3 11 1,Za 11 26]))))
def c42_1:ACode:=(.seq
 (.reg [Za 27 2,Zm 28 .add 3 27 1,Za 29 3,Zm 30 .add 3 29 1,Zc 2 28,Zc 3 30]) .ret)
def c42:ACode:=(.seq
 (.reg [Zj 1 35 0,Zf 2 0,Zf 3 0])
 (.seqL
 (.seq
 (.reg [Zd 8 35 1 2,Zb 9 33 8,Ze 10 9 33,Zq 11 (.move (.const (.int .i64 0)))])
 (.block 0 (.loop b42_1))) c42_1))
theorem fd42:FnD Tryz.prog 42 31 [(.tmp 2),(.tmp 3)] c42:=⟨⟨Tryz.f42,Tryz.f42.body.getD .skip,Tryz.func42,by kernel_rfl,by kernel_rfl,by kernel_rfl,by kernel_rfl⟩⟩
def b43_1:ACode:=(.seq
 (.reg [Zn 10 .lss 3 9 8])
 (.seq
 (.cond (Zr 10) .skip (.exit 0))
 (.seq
 (.block 1
 (.seq
 (.reg [Zk 11 122 7 9,Zb 12 126 11,Zi 5 126,Zg 126 5 12])
 (.reg [Za 13 3,Zb 14 126 5,Zo 15 43 #[Zr 14] #[126],Zn 16 .add 3 13 15,Zc 3 16])))
 (.reg [Zm 17 .add 3 9 1,Za 9 17]))))
def c43_1:ACode:=(.seq
 (.reg [Za 18 3,Zc 2 18]) .ret)
def c43:ACode:=(.seq
 (.reg [Zj 1 126 0,Zf 2 0])
 (.seq
 (.reg [Zf 3 1])
 (.seqL
 (.seq
 (.reg [Zd 6 126 1 2,Zb 7 122 6,Ze 8 7 122,Zq 9 (.move (.const (.int .i64 0)))])
 (.block 0 (.loop b43_1))) c43_1)))
theorem fd43:FnD Tryz.prog 43 19 [(.tmp 2)] c43:=⟨⟨Tryz.f43,Tryz.f43.body.getD .skip,Tryz.func43,by kernel_rfl,by kernel_rfl,by kernel_rfl,by kernel_rfl⟩⟩
def b44_1:ACode:=(.seq
 (.reg [Zn 25 .lss 3 24 23])
 (.seq
 (.cond (Zr 25) .skip (.exit 0))
 (.seq
 (.block 1
 (.seq
 (.reg [Za 26 24,Zk 27 42 22 24,Zb 28 81 27,Zi 5 81,Zc 4 26,Zg 81 5 28])
 (.block 2
 (.seq
 (.reg [Zd 30 81 5 0,Zb 31 9 30,Zo 32 77 #[Zr 31] #[9],Zq 33 (.unOp .not 4 (Zr 32)),Zc 29 33])
 (.cond (Zr 29)
 (.seq
 (.reg [Zf 2 411]) .ret)
 (.seq
 (.dreg
 (.tk 0 (Zd 35 44 1 0)
 (.tk 1 (Zb 36 41 35)
 (.tk 2 (Zd 37 81 5 0)
 (.tk 3 (Zb 38 9 37)
 (.one [4,5,6,7,8,9,10,11,12,13,14,15,16] (Zo 39 78 #[Zr 36,Zr 38] #[41,9])
 (.tk 5 (Zm 40 .geq 3 39 0)
 (.tk 6 (Za 41 40)
 (.tk 7 (Zp 42 (.fieldAddr 44 (Zr 1) 1) 41 false)
 (.tk 8 (Zp 43 (.load 42 (Zr 42)) 41 false)
 (.tk 9 (Zp 44 (.move (Zr 4)) 41 false)
 (.tk 10 (Zp 45 (.slice 42 (Zr 43) none (some (Zr 44)) none) 41 false)
 (.tk 11 (Zp 46 (.fieldAddr 81 (Zr 5) 0) 41 false)
 (.tk 12 (Zp 47 (.load 9 (Zr 46)) 41 false) .fin))))))))))))) [Zp 48 (.call { callee:=(.value (.func 79)),args:=#[Zr 45,Zr 47],argTypes:=#[42,9] }) 41 false,Zp 49 (.binOp .geq 3 (Zr 48) (.const (.int .i64 0)) 3) 41 false,Zq 50 (.pick (Zr 41) (.const (.bool true)) (Zr 49)),Zc 34 50])
 (.cond (Zr 34)
 (.seq
 (.reg [Zf 2 10]) .ret)
 (.seq
 (.reg [Zd 52 81 5 1,Zb 53 3 52,Zm 54 .lss 3 53 0,Za 55 54,Zp 56 (.fieldAddr 81 (Zr 5) 1) 55 false,Zp 57 (.load 3 (Zr 56)) 55 false,Zp 58 (.binOp .gtr 3 (Zr 57) (.const (.int .i64 10)) 3) 55 false,Zq 59 (.pick (Zr 55) (.const (.bool true)) (Zr 58)),Zc 51 59])
 (.cond (Zr 51)
 (.seq
 (.reg [Zf 2 4]) .ret)
 (.seq
 (.reg [Zd 61 81 5 2,Zb 62 79 61,Ze 63 62 79,Zm 64 .lss 3 63 1,Za 65 64,Zp 66 (.fieldAddr 81 (Zr 5) 2) 65 false,Zp 67 (.load 79 (Zr 66)) 65 false,Zp 68 (.call { callee:=(.builtin .len),args:=#[Zr 67],argTypes:=#[79] }) 65 false,Zp 69 (.binOp .gtr 3 (Zr 68) (.const (.int .i64 100)) 3) 65 false,Zq 70 (.pick (Zr 65) (.const (.bool true)) (Zr 69)),Zc 60 70])
 (.cond (Zr 60)
 (.seq
 (.reg [Zf 2 5]) .ret) .skip)))))))))))
 (.reg [Zm 71 .add 3 24 1,Za 24 71]))))
def b44_2:ACode:=(.seq
 (.reg [Zn 83 .lss 3 82 81])
 (.seq
 (.cond (Zr 83) .skip (.exit 5))
 (.seq
 (.block 6
 (.seq
 (.reg [Zk 84 79 80 82,Zb 85 78 84,Zi 9 78,Zg 78 9 85])
 (.seq
 (.reg [Zb 86 44 1,Zb 87 81 7,Zb 88 78 9,Zo 89 80 #[Zr 86,Zr 87,Zr 88] #[44,81,78],Zc 10 89])
 (.seq
 (.reg [Za 90 10,Zm 91 .neq 38 90 0])
 (.cond (Zr 91)
 (.seq
 (.reg [Za 92 10,Zc 2 92]) .ret) .skip)))))
 (.reg [Zm 93 .add 3 82 1,Za 82 93]))))
def c44_1:ACode:=(.reg [Zm 94 .add 3 75 1,Za 75 94])
def b44_3:ACode:=(.seq
 (.reg [Zn 76 .lss 3 75 74])
 (.seq
 (.cond (Zr 76) .skip (.exit 3))
 (.seqL
 (.block 4
 (.seq
 (.reg [Zk 77 42 73 75,Zb 78 81 77,Zi 7 81,Zg 81 7 78])
 (.seq
 (.reg [Zd 79 81 7 2,Zb 80 79 79,Ze 81 80 79,Zq 82 (.move (.const (.int .i64 0)))])
 (.block 5 (.loop b44_2))))) c44_1)))
def c44_2:ACode:=(.seq
 (.reg [Zf 2 0]) .ret)
def c44_3:ACode:=(.seqL
 (.seq
 (.reg [Zd 72 44 1 1,Zb 73 42 72,Ze 74 73 42,Zq 75 (.move (.const (.int .i64 0)))])
 (.block 3 (.loop b44_3))) c44_2)
def c44:ACode:=(.seq
 (.reg [Zj 1 44 0,Zf 2 0])
 (.seq
 (.seq
 (.reg [Zd 11 44 1 1,Zb 12 42 11,Ze 13 12 42,Zm 14 .gtr 3 13 100])
 (.cond (Zr 14)
 (.seq
 (.reg [Zf 2 5]) .ret) .skip))
 (.seq
 (.seq
 (.reg [Zd 15 44 1 0,Zb 16 41 15,Zo 17 76 #[Zr 16] #[41],Zc 3 17])
 (.seq
 (.reg [Za 18 3,Zm 19 .neq 38 18 0])
 (.cond (Zr 19)
 (.seq
 (.reg [Za 20 3,Zc 2 20]) .ret) .skip)))
 (.seqL
 (.seq
 (.reg [Zd 21 44 1 1,Zb 22 42 21,Ze 23 22 42,Zq 24 (.move (.const (.int .i64 0)))])
 (.block 0 (.loop b44_1))) c44_3))))
theorem fd44:FnD Tryz.prog 44 95 [(.tmp 2)] c44:=⟨⟨Tryz.f44,Tryz.f44.body.getD .skip,Tryz.func44,by kernel_rfl,by kernel_rfl,by kernel_rfl,by kernel_rfl⟩⟩
def b45_1:ACode:=(.seq
 (.reg [Zn 14 .lss 3 13 12])
 (.seq
 (.cond (Zr 14) .skip (.exit 0))
 (.seq
 (.block 1
 (.seq
 (.reg [Za 15 13,Zc 4 15])
 (.dreg
 (.tk 0 (Zd 16 85 3 0)
 (.tk 1 (Zb 17 82 16)
 (.tk 2 (Zd 18 44 1 1)
 (.tk 3 (Zb 19 42 18)
 (.tk 4 (Za 20 4)
 (.tk 5 (Zk 21 42 19 20)
 (.tk 6 (Zd 22 81 21 0)
 (.tk 7 (Zb 23 9 22)
 (.tk 8 (Zd 24 44 1 1)
 (.tk 9 (Zb 25 42 24)
 (.tk 10 (Za 26 4)
 (.tk 11 (Zk 27 42 25 26) .fin)))))))))))) [⟨none,(.mapUpdate 82 (Zr 17) (Zr 23) (Zr 27)),none⟩])))
 (.reg [Zm 28 .add 3 13 1,Za 13 28]))))
def b45_2:ACode:=(.seq
 (.reg [Zn 33 .lss 3 32 31])
 (.seq
 (.cond (Zr 33) .skip (.exit 2))
 (.seq
 (.block 3
 (.seq
 (.reg [Zk 34 41 30 32,Zb 35 76 34,Zi 6 76,Zg 76 6 35])
 (.reg [Zd 36 85 3 1,Zb 37 83 36,Zd 38 76 6 0,Zb 39 9 38,Zd 40 76 6 1,Zb 41 3 40,⟨none,(.mapUpdate 83 (Zr 37) (Zr 39) (Zr 41)),none⟩])))
 (.reg [Zm 42 .add 3 32 1,Za 32 42]))))
def c45_1:ACode:=(.seq
 (.reg [Zb 43 85 3,Zg 85 2 43]) .ret)
def c45_2:ACode:=(.seqL
 (.seq
 (.reg [Zd 29 44 1 0,Zb 30 41 29,Ze 31 30 41,Zq 32 (.move (.const (.int .i64 0)))])
 (.block 2 (.loop b45_2))) c45_1)
def c45:ACode:=(.seq
 (.reg [Zj 1 44 0,Zi 2 85])
 (.seq
 (.reg [Zq 7 (.makeMap 82 none),Zq 8 (.makeMap 83 none),Zq 9 (.build 85 #[(0,(Zr 7)),(1,(Zr 8))]),Zi 3 85,Zg 85 3 9])
 (.seqL
 (.seq
 (.reg [Zd 10 44 1 1,Zb 11 42 10,Ze 12 11 42,Zq 13 (.move (.const (.int .i64 0)))])
 (.block 0 (.loop b45_1))) c45_2)))
theorem fd45:FnD Tryz.prog 45 44 [(.cell 2 85)] c45:=⟨⟨Tryz.f45,Tryz.f45.body.getD .skip,Tryz.func45,by kernel_rfl,by kernel_rfl,by kernel_rfl,by kernel_rfl⟩⟩
def b46_1:ACode:=(.seq
 (.reg [Zn 98 .lss 3 97 96])
 (.seq
 (.cond (Zr 98) .skip (.exit 2))
 (.seq
 (.block 3
 (.seq
 (.reg [Zk 99 33 95 97,Zb 100 35 99,Zi 12 35,Zg 35 12 100])
 (.seq
 (.reg [Zb 101 85 3,Zb 102 35 12,Za 103 2,Zo 104 46 #[Zr 101,Zr 102,Zr 103] #[85,35,181],Zc 13 104])
 (.seq
 (.reg [Za 105 13,Zm 106 .neq 38 105 0])
 (.cond (Zr 106)
 (.seq
 (.reg [Za 107 13,Zc 6 107]) .ret) .skip)))))
 (.reg [Zm 108 .add 3 97 1,Za 97 108]))))
def c46_1:ACode:=(.seq
 (.reg [Zf 6 0]) .ret)
def c46:ACode:=(.seq
 (.reg [Zj 3 85 0,Zj 4 35 1,Zf 6 0])
 (.seq
 (.dreg
 (.tk 0 (Zd 14 35 4 2)
 (.tk 1 (Zb 15 33 14)
 (.tk 2 (Ze 16 15 33)
 (.tk 3 (Zd 17 35 4 1)
 (.tk 4 (Zb 18 9 17)
 (.tk 5 (Zq 19 (.binOp .neq 9 (Zr 18) (.const (.string { data:=#[] })) 9))
 (.tk 6 (Zc 7 16) .fin))))))) [Zc 8 19])
 (.seq
 (.seq
 (.reg [Zd 20 35 4 0,Zb 21 3 20])
 (.block 0
 (.seq
 (.seq
 (.reg [Zm 23 .eql 3 21 1,Zc 22 23])
 (.cond (Zr 22) .skip
 (.reg [Zm 24 .eql 3 21 2,Zc 22 24])))
 (.cond (Zr 22)
 (.seq
 (.reg [Za 25 7,Zm 26 .gtr 3 25 0,Za 27 26,Zp 28 (.move (Zr 8)) 27 false,Zp 29 (.unOp .not 4 (Zr 28)) 27 false,Zq 30 (.pick (Zr 27) (.const (.bool true)) (Zr 29))])
 (.cond (Zr 30)
 (.seq
 (.reg [Zf 6 2]) .ret) .skip))
 (.seq
 (.reg [Zm 32 .eql 3 21 5,Zc 31 32])
 (.cond (Zr 31)
 (.seq
 (.reg [Za 33 7,Zm 34 .neq 3 33 1,Za 35 34,Zp 36 (.move (Zr 8)) 35 false,Zp 37 (.unOp .not 4 (Zr 36)) 35 false,Zq 38 (.pick (Zr 35) (.const (.bool true)) (Zr 37))])
 (.cond (Zr 38)
 (.seq
 (.reg [Zf 6 2]) .ret) .skip))
 (.seq
 (.reg [Zm 40 .eql 3 21 4,Zc 39 40])
 (.cond (Zr 39)
 (.seq
 (.reg [Za 41 7,Zm 42 .lss 3 41 2,Za 43 42,Zp 44 (.move (Zr 8)) 43 false,Zq 45 (.pick (Zr 43) (.const (.bool true)) (Zr 44))])
 (.cond (Zr 45)
 (.seq
 (.reg [Zf 6 2]) .ret) .skip))
 (.seq
 (.reg [Zm 47 .eql 3 21 3,Zc 46 47])
 (.cond (Zr 46)
 (.seq
 (.reg [Za 48 8,Zq 49 (.unOp .not 4 (Zr 48))])
 (.cond (Zr 49)
 (.seq
 (.reg [Zf 6 2]) .ret) .skip))
 (.seq
 (.reg [Zf 6 2]) .ret)))))))))))
 (.seq
 (.seq
 (.reg [Zd 50 35 4 0,Zb 51 3 50])
 (.block 1
 (.seq
 (.reg [Zm 53 .eql 3 51 2,Zc 52 53])
 (.cond (Zr 52)
 (.seq
 (.reg [Zd 54 85 3 0,Zb 55 82 54,Zd 56 35 4 1,Zb 57 9 56,Zq 58 (.lookup 82 (Zr 55) (Zr 57) false),Zq 59 (.binOp .eql 137 (Zr 58) (.const (.pointer none)) 137)])
 (.cond (Zr 59)
 (.seq
 (.reg [Zf 6 9]) .ret) .skip))
 (.seq
 (.reg [Zm 61 .eql 3 51 3,Zc 60 61])
 (.cond (Zr 60)
 (.seq
 (.reg [Zd 63 85 3 1,Zb 64 83 63,Zd 65 35 4 1,Zb 66 9 65,Zq 67 (.lookup 83 (Zr 64) (Zr 66) true),Za 62 67,Zh 68 62 0,Zh 69 62 1,Zc 9 68,Zc 10 69])
 (.seq
 (.seq
 (.reg [Za 70 10,Zq 71 (.unOp .not 4 (Zr 70))])
 (.cond (Zr 71)
 (.seq
 (.reg [Zf 6 9]) .ret) .skip))
 (.seq
 (.reg [Za 72 7,Za 73 9,Zn 74 .neq 3 72 73])
 (.cond (Zr 74)
 (.seq
 (.reg [Zf 6 5]) .ret) .skip))))
 (.seq
 (.reg [Zm 76 .eql 3 51 1,Zc 75 76])
 (.cond (Zr 75)
 (.seq
 (.reg [Za 77 2,Zd 78 35 4 1,Zb 79 9 78,Zo 80 81 #[Zr 77,Zr 79] #[181,9],Zq 81 (.unOp .not 4 (Zr 80))])
 (.cond (Zr 81)
 (.seq
 (.reg [Zf 6 422]) .ret) .skip))
 (.seq
 (.reg [Zm 83 .eql 3 51 5,Zc 82 83])
 (.cond (Zr 82)
 (.dreg
 (.tk 0 (Za 84 2)
 (.tk 1 (Za 85 2)
 (.tk 2 (Ze 86 85 181)
 (.tk 3 (Za 87 2)
 (.tk 4 (Ze 88 87 181)
 (.tk 5 (Zq 89 (.slice 181 (Zr 84) none (some (Zr 86)) (some (Zr 88))))
 (.tk 6 (Zd 90 35 4 1)
 (.tk 7 (Zb 91 9 90)
 (.tk 8 (Zq 92 (.buildSlice 181 1 #[(0,(Zr 91))])) .fin))))))))) [Zl 93 89 92 181,Zc 2 93]) .skip))))))))))
 (.seqL
 (.seq
 (.reg [Zd 94 35 4 2,Zb 95 33 94,Ze 96 95 33,Zq 97 (.move (.const (.int .i64 0)))])
 (.block 2 (.loop b46_1))) c46_1)))))
theorem fd46:FnD Tryz.prog 46 109 [(.tmp 6)] c46:=⟨⟨Tryz.f46,Tryz.f46.body.getD .skip,Tryz.func46,by kernel_rfl,by kernel_rfl,by kernel_rfl,by kernel_rfl⟩⟩
def b47_1:ACode:=(.seq
 (.reg [Zn 11 .lss 3 10 9])
 (.seq
 (.cond (Zr 11) .skip (.exit 0))
 (.seq
 (.block 1
 (.seq
 (.reg [Zk 12 33 8 10,Zb 13 35 12,Zi 6 35,Zg 35 6 13])
 (.reg [Za 14 4,Zb 15 91 1,Zb 16 35 6,Zb 17 131 2,Zo 18 26 #[Zr 15,Zr 16,Zr 17] #[91,35,131],Zq 19 (.buildSlice 132 1 #[(0,(Zr 18))]),Zl 20 14 19 132,Zc 4 20])))
 (.reg [Zm 21 .add 3 10 1,Za 10 21]))))
def c47_1:ACode:=(.seq
 (.reg [Za 22 4,Zc 3 22]) .ret)
def c47:ACode:=(.seq
 (.reg [Zq 3 (.assign (.const (.slice none 0 0)))])
 (.seq
 (.reg [Zq 4 (.assign (.const (.slice none 0 0)))])
 (.seqL
 (.seq
 (.reg [Zd 7 35 0 2,Zb 8 33 7,Ze 9 8 33,Zq 10 (.move (.const (.int .i64 0)))])
 (.block 0 (.loop b47_1))) c47_1)))
theorem fd47:FnD Tryz.prog 47 23 [(.tmp 3)] c47:=⟨⟨Tryz.f47,Tryz.f47.body.getD .skip,Tryz.func47,by kernel_rfl,by kernel_rfl,by kernel_rfl,by kernel_rfl⟩⟩
def b48_1:ACode:=(.seq
 (.seq
 (.reg [Za 5 0,Zq 6 (.binOp .neq 131 (Zr 5) (.const (.pointer none)) 131)])
 (.cond (Zr 6) .skip (.exit 0)))
 (.seq
 (.block 1
 (.seq
 (.reg [Za 11 0,Zq 12 (.nilCheck (Zr 11)),Zd 13 185 12 0,Zb 14 9 13,Za 15 1,Zn 16 .eql 9 14 15])
 (.cond (Zr 16)
 (.seq
 (.reg [Za 17 0,Zq 18 (.nilCheck (Zr 17)),Zd 19 185 18 1,Zb 20 95 19,Zc 4 20]) .ret) .skip)))
 (.reg [Za 7 0,Zq 8 (.nilCheck (Zr 7)),Zd 9 185 8 2,Zb 10 131 9,Zc 0 10])))
def c48_1:ACode:=(.seq
 (.reg [Zq 4 (.assign (.const .nilIface))]) .ret)
def c48:ACode:=(.seq
 (.reg [Zq 4 (.assign (.const .nilIface))])
 (.seqL
 (.block 0 (.loop b48_1)) c48_1))
theorem fd48:FnD Tryz.prog 48 21 [(.tmp 4)] c48:=⟨⟨Tryz.f48,Tryz.f48.body.getD .skip,Tryz.func48,by kernel_rfl,by kernel_rfl,by kernel_rfl,by kernel_rfl⟩⟩
def b49_1:ACode:=(.seq
 (.reg [Zn 30 .lss 3 29 28])
 (.seq
 (.cond (Zr 30) .skip (.exit 2))
 (.seq
 (.block 3
 (.seq
 (.reg [Za 31 29,Zk 32 72 27 29,Zb 33 74 32,Zi 11 74,Zc 10 31,Zg 74 11 33])
 (.seq
 (.dreg
 (.tk 0 (Zb 35 74 11)
 (.tk 1 (Za 36 2)
 (.tk 2 (Za 37 10)
 (.tk 3 (Zk 38 132 36 37)
 (.tk 4 (Zb 39 95 38)
 (.tk 5 (Za 40 9)
 (.one [6,7,8,9,10,11] (Zo 41 83 #[Zr 35,Zr 39,Zr 40] #[74,95,131])
 (.tk 7 (Za 34 41)
 (.tk 8 (Zh 42 34 0)
 (.tk 9 (Zh 43 34 1)
 (.tk 10 (Zc 12 42) .fin))))))))))) [Zc 13 43])
 (.seq
 (.seq
 (.reg [Za 44 13,Zq 45 (.unOp .not 4 (Zr 44))])
 (.cond (Zr 45) (.exit 1) .skip))
 (.reg [Za 46 12,Zc 9 46])))))
 (.reg [Zm 47 .add 3 29 1,Za 29 47]))))
def c49_1:ACode:=(.seq
 (.reg [Za 48 0,Zd 49 78 8 1,Zb 50 35 49,Za 51 9,Zo 52 84 #[Zr 48,Zr 50,Zr 51] #[91,35,131],Zc 6 52]) .ret)
def c49_2:ACode:=(.reg [Zm 53 .add 3 22 1,Za 22 53])
def b49_2:ACode:=(.seq
 (.reg [Zn 23 .lss 3 22 21])
 (.seq
 (.cond (Zr 23) .skip (.exit 0))
 (.seqL
 (.block 1
 (.seq
 (.reg [Zk 24 79 20 22,Zb 25 78 24,Zi 8 78,Zg 78 8 25])
 (.seq
 (.reg [Zq 9 (.assign (.const (.pointer none)))])
 (.seqL
 (.seq
 (.reg [Zd 26 78 8 0,Zb 27 72 26,Ze 28 27 72,Zq 29 (.move (.const (.int .i64 0)))])
 (.block 2 (.loop b49_1))) c49_1)))) c49_2)))
def c49_3:ACode:=(.reg [Zq 54 (.build 89 #[(0,(.const (.int .i64 420)))]),Zq 55 (.makeInterface 89 (Zr 54)),⟨none,(.panic (Zr 55)),none⟩])
def c49:ACode:=(.seq
 (.reg [Zq 6 (.assign (.const .nilIface))]) (.scope
 (.seq
 (.reg [Za 14 0,Za 15 2,Zo 16 82 #[Zr 14,Zr 15] #[91,132]])
 (.seq .skip
 (.seqL
 (.seq
 (.reg [Za 17 1,Zq 18 (.nilCheck (Zr 17)),Zd 19 81 18 2,Zb 20 79 19,Ze 21 20 79,Zq 22 (.move (.const (.int .i64 0)))])
 (.block 0 (.loop b49_2))) c49_3)))))
theorem fd49:FnD Tryz.prog 49 56 [(.tmp 6)] c49:=⟨⟨Tryz.f49,Tryz.f49.body.getD .skip,Tryz.func49,by kernel_rfl,by kernel_rfl,by kernel_rfl,by kernel_rfl⟩⟩
def b50_1:ACode:=(.seq
 (.seq
 (.reg [Za 12 2,Ze 13 12 132,Zm 14 .gtr 3 13 0])
 (.cond (Zr 14) .skip (.exit 0)))
 (.block 1
 (.seq
 (.reg [Za 15 1])
 (.block 2
 (.seq
 (.reg [Zq 18 (.typeAssert (Zr 15) 95 136 true),Zh 19 18 1,Zh 20 18 0])
 (.cond (Zr 19)
 (.seq
 (.reg [Zi 7 136,Zg 136 7 20])
 (.seq
 (.reg [Za 21 0,Za 22 2,Zq 23 (.indexAddr 132 (Zr 22) (.const (.int .i64 0))),Zb 24 95 23,Zq 25 (.buildSlice 132 1 #[(0,(Zr 24))]),Zo 26 82 #[Zr 21,Zr 25] #[91,132]])
 (.seq
 (.dreg
 (.tk 0 (Za 27 0)
 (.tk 1 (Zd 28 136 7 0)
 (.tk 2 (Zd 29 35 28 2)
 (.tk 3 (Zb 30 33 29)
 (.tk 4 (Zq 31 (.indexAddr 33 (Zr 30) (.const (.int .i64 0))))
 (.tk 5 (Zb 32 35 31)
 (.tk 6 (Zd 33 136 7 0)
 (.tk 7 (Zd 34 35 33 1)
 (.tk 8 (Zb 35 9 34)
 (.tk 9 (Za 36 2)
 (.tk 10 (Zq 37 (.indexAddr 132 (Zr 36) (.const (.int .i64 0))))
 (.tk 11 (Zb 38 95 37)
 (.tk 12 (Zd 39 136 7 1)
 (.tk 13 (Zb 40 131 39)
 (.tk 14 (Zq 41 (.build 185 #[(0,(Zr 35)),(1,(Zr 38)),(2,(Zr 40))]))
 (.one [0,1,2,3,4,5,15,16,17] (Zj 42 185 41) .fin)))))))))))))))) [Zo 43 84 #[Zr 27,Zr 32,Zr 42] #[91,35,131],Zc 1 43])
 (.reg [Za 44 2,Zq 45 (.slice 132 (Zr 44) (some (.const (.int .i64 1))) none none),Zc 2 45]))))
 (.seq
 (.reg [Zq 46 (.typeAssert (Zr 15) 95 139 true),Zh 47 46 1,Zh 48 46 0])
 (.cond (Zr 47)
 (.seq
 (.reg [Zi 8 139,Zg 139 8 48])
 (.seq
 (.dreg
 (.tk 0 (Zd 49 139 8 0)
 (.tk 1 (Zb 50 137 49)
 (.tk 2 (Zq 51 (.nilCheck (Zr 50)))
 (.tk 3 (Zd 52 81 51 1)
 (.tk 4 (Zb 53 3 52)
 (.tk 5 (Zd 54 139 8 1)
 (.tk 6 (Zb 55 132 54)
 (.tk 7 (Ze 56 55 132) .fin)))))))) [Zn 57 .sub 3 53 56,Zc 9 57])
 (.seq
 (.dreg
 (.tk 0 (Zd 58 139 8 1)
 (.tk 1 (Zb 59 132 58)
 (.tk 3 (Za 61 2)
 (.tk 4 (Za 62 9)
 (.tk 5 (Za 63 2)
 (.tk 6 (Ze 64 63 132)
 (.tk 7 (Zq 65 (.call { callee:=(.builtin .min),args:=#[Zr 62,Zr 64],argTypes:=#[3,3] }))
 (.tk 8 (Zq 66 (.slice 132 (Zr 61) none (some (Zr 65)) none))
 (.one [2,3,4,5,6,7,8,9,10] (Zo 60 85 #[Zr 59] #[132]) .fin))))))))) [Zl 67 60 66 132,Zc 10 67])
 (.seq
 (.seq
 (.reg [Za 68 2,Ze 69 68 132,Za 70 9,Zn 71 .lss 3 69 70])
 (.cond (Zr 71)
 (.seq
 (.reg [Zd 72 139 8 0,Zb 73 137 72,Za 74 10,Zq 75 (.build 139 #[(0,(Zr 73)),(1,(Zr 74))]),Zq 76 (.makeInterface 139 (Zr 75)),Zc 6 76]) .ret) .skip))
 (.seq
 (.reg [Za 77 0,Zd 78 139 8 0,Zb 79 137 78,Za 80 10,Zo 81 49 #[Zr 77,Zr 79,Zr 80] #[91,137,132],Zc 1 81])
 (.reg [Za 82 2,Za 83 9,Zq 84 (.slice 132 (Zr 82) (some (Zr 83)) none none),Zc 2 84]))))))
 (.seq
 (.reg [Zc 11 15])
 (.reg [Zq 16 (.build 89 #[(0,(.const (.int .i64 421)))]),Zq 17 (.makeInterface 89 (Zr 16)),⟨none,(.panic (Zr 17)),none⟩]))))))))))
def c50_1:ACode:=(.seq
 (.reg [Za 85 1,Zc 6 85]) .ret)
def c50:ACode:=(.seq
 (.reg [Zq 6 (.assign (.const .nilIface))])
 (.seqL
 (.block 0 (.loop b50_1)) c50_1))
theorem fd50:FnD Tryz.prog 50 86 [(.tmp 6)] c50:=⟨⟨Tryz.f50,Tryz.f50.body.getD .skip,Tryz.func50,by kernel_rfl,by kernel_rfl,by kernel_rfl,by kernel_rfl⟩⟩
def b51_1:ACode:=(.seq
 (.reg [Zn 9 .lss 3 8 7])
 (.seq
 (.cond (Zr 9) .skip (.exit 0))
 (.seq
 (.block 1
 (.seq
 (.reg [Zk 10 132 6 8,Zb 11 95 10,Zc 5 11])
 (.reg [Za 12 0,Za 13 5,Zo 14 27 #[Zr 12,Zr 13] #[97,95]])))
 (.reg [Zm 15 .add 3 8 1,Za 8 15]))))
def c51:ACode:=(.seq
 (.reg [Za 6 1,Ze 7 6 132,Zq 8 (.move (.const (.int .i64 0)))])
 (.block 0 (.loop b51_1)))
theorem fd51:FnD Tryz.prog 51 16 [] c51:=⟨⟨Tryz.f51,Tryz.f51.body.getD .skip,Tryz.func51,by kernel_rfl,by kernel_rfl,by kernel_rfl,by kernel_rfl⟩⟩
def b52_1:ACode:=(.seq
 (.reg [Zn 45 .lss 3 44 43])
 (.seq
 (.cond (Zr 45) .skip (.exit 0))
 (.seq
 (.block 1
 (.seq
 (.reg [Zk 46 33 42 44,Zb 47 35 46,Zi 8 35,Zg 35 8 47])
 (.reg [Za 48 0,Zb 49 35 8,Za 50 2,Zo 51 52 #[Zr 48,Zr 49,Zr 50] #[97,35,131]])))
 (.reg [Zm 52 .add 3 44 1,Za 44 52]))))
def c52:ACode:=(.seq
 (.reg [Zj 4 35 1])
 (.seq
 (.seq
 (.reg [Za 9 0,Zq 10 (.nilCheck (Zr 9)),Zd 11 99 10 0,Zb 12 3 11,Zm 13 .lss 3 12 0])
 (.cond (Zr 13) .ret .skip))
 (.seq
 (.seq
 (.reg [Zd 14 35 4 0,Zb 15 3 14,Zm 16 .eql 3 15 1])
 (.cond (Zr 16)
 (.seq
 (.reg [Za 17 2,Zd 18 35 4 1,Zb 19 9 18,Zo 20 48 #[Zr 17,Zr 19] #[131,9],Zc 6 20])
 (.seq
 (.reg [Za 21 6,Zq 22 (.binOp .neq 95 (Zr 21) (.const .nilIface) 95)])
 (.cond (Zr 22)
 (.seq
 (.reg [Za 23 0,Za 24 6,Zo 25 27 #[Zr 23,Zr 24] #[97,95]]) .ret) .skip))) .skip))
 (.seq
 (.reg [Za 26 0,Zq 27 (.nilCheck (Zr 26)),Zd 28 99 27 0,Zb 29 3 28,Zm 30 .sub 3 29 1,Zq 31 (.nilCheck (Zr 26)),Zd 32 99 31 0,Zg 3 32 30])
 (.seq
 (.seq
 (.reg [Zd 33 35 4 0,Zb 34 3 33,Zm 35 .eql 3 34 5])
 (.cond (Zr 35)
 (.reg [Zd 36 35 4 1,Zb 37 9 36,Za 38 2,Zq 39 (.build 185 #[(0,(Zr 37)),(1,(.const .nilIface)),(2,(Zr 38))]),Zj 40 185 39,Zc 2 40]) .skip))
 (.seq
 (.reg [Zd 41 35 4 2,Zb 42 33 41,Ze 43 42 33,Zq 44 (.move (.const (.int .i64 0)))])
 (.block 0 (.loop b52_1))))))))
theorem fd52:FnD Tryz.prog 52 53 [] c52:=⟨⟨Tryz.f52,Tryz.f52.body.getD .skip,Tryz.func52,by kernel_rfl,by kernel_rfl,by kernel_rfl,by kernel_rfl⟩⟩
def b53_1:ACode:=(.seq
 (.reg [Zn 15 .lss 3 14 13])
 (.seq
 (.cond (Zr 15) .skip (.exit 0))
 (.seq
 (.block 1
 (.seq
 (.reg [Zk 16 122 12 14,Zb 17 126 16,Zi 5 126,Zg 126 5 17])
 (.dreg
 (.tk 0 (Zd 18 74 3 2)
 (.tk 1 (Zb 19 72 18)
 (.tk 2 (Zb 20 126 5)
 (.one [0,1,3,4,5,6,7] (Zo 21 53 #[Zr 20] #[126])
 (.tk 4 (Zq 22 (.buildSlice 72 1 #[(0,(Zr 21))])) .fin))))) [Zl 23 19 22 72,Zd 24 74 3 2,Zg 72 24 23])))
 (.reg [Zm 25 .add 3 14 1,Za 14 25]))))
def c53_1:ACode:=(.seq
 (.reg [Zb 26 74 3,Zg 74 2 26]) .ret)
def c53:ACode:=(.seq
 (.reg [Zj 1 126 0,Zi 2 74])
 (.seq
 (.reg [Zd 6 126 1 0,Zb 7 4 6,Zd 8 126 1 1,Zb 9 9 8,Zq 10 (.build 74 #[(0,(Zr 7)),(1,(Zr 9))]),Zi 3 74,Zg 74 3 10])
 (.seqL
 (.seq
 (.reg [Zd 11 126 1 2,Zb 12 122 11,Ze 13 12 122,Zq 14 (.move (.const (.int .i64 0)))])
 (.block 0 (.loop b53_1))) c53_1)))
theorem fd53:FnD Tryz.prog 53 27 [(.cell 2 74)] c53:=⟨⟨Tryz.f53,Tryz.f53.body.getD .skip,Tryz.func53,by kernel_rfl,by kernel_rfl,by kernel_rfl,by kernel_rfl⟩⟩
def b54_1:ACode:=(.seq
 (.seq
 (.reg [Za 19 4,Zd 20 25 1 1,Zb 21 23 20,Ze 22 21 23,Zn 23 .lss 3 19 22])
 (.cond (Zr 23) .skip (.exit 0)))
 (.seq
 (.block 1
 (.seq
 (.reg [Zd 26 25 1 1,Zb 27 23 26,Za 28 4,Zk 29 23 27 28,Zb 30 67 29,Zi 5 67,Zg 67 5 30])
 (.block 2
 (.seq
 (.reg [Zd 32 67 5 0,Zb 33 9 32,Zo 34 87 #[Zr 33] #[9],Zq 35 (.unOp .not 4 (Zr 34)),Zc 31 35])
 (.cond (Zr 31)
 (.seq
 (.reg [Zf 2 411]) .ret)
 (.seq
 (.dreg
 (.tk 0 (Zd 37 25 1 0)
 (.tk 1 (Zb 38 22 37)
 (.tk 2 (Zd 39 67 5 0)
 (.tk 3 (Zb 40 9 39)
 (.one [4,5,6,7,8,9,10,11,12,13,14,15,16] (Zo 41 88 #[Zr 38,Zr 40] #[22,9])
 (.tk 5 (Zm 42 .geq 3 41 0)
 (.tk 6 (Za 43 42)
 (.tk 7 (Zp 44 (.fieldAddr 25 (Zr 1) 1) 43 false)
 (.tk 8 (Zp 45 (.load 23 (Zr 44)) 43 false)
 (.tk 9 (Zp 46 (.move (Zr 4)) 43 false)
 (.tk 10 (Zp 47 (.slice 23 (Zr 45) none (some (Zr 46)) none) 43 false)
 (.tk 11 (Zp 48 (.fieldAddr 67 (Zr 5) 0) 43 false)
 (.tk 12 (Zp 49 (.load 9 (Zr 48)) 43 false) .fin))))))))))))) [Zp 50 (.call { callee:=(.value (.func 89)),args:=#[Zr 47,Zr 49],argTypes:=#[23,9] }) 43 false,Zp 51 (.binOp .geq 3 (Zr 50) (.const (.int .i64 0)) 3) 43 false,Zq 52 (.pick (Zr 43) (.const (.bool true)) (Zr 51)),Zc 36 52])
 (.cond (Zr 36)
 (.seq
 (.reg [Zf 2 10]) .ret)
 (.seq
 (.reg [Zd 54 67 5 1,Zb 55 3 54,Zm 56 .lss 3 55 0,Za 57 56,Zp 58 (.fieldAddr 67 (Zr 5) 1) 57 false,Zp 59 (.load 3 (Zr 58)) 57 false,Zp 60 (.binOp .gtr 3 (Zr 59) (.const (.int .i64 10)) 3) 57 false,Zq 61 (.pick (Zr 57) (.const (.bool true)) (Zr 60)),Zc 53 61])
 (.cond (Zr 53)
 (.seq
 (.reg [Zf 2 4]) .ret)
 (.seq
 (.reg [Zd 63 67 5 2,Zb 64 65 63,Ze 65 64 65,Zm 66 .lss 3 65 1,Za 67 66,Zp 68 (.fieldAddr 67 (Zr 5) 2) 67 false,Zp 69 (.load 65 (Zr 68)) 67 false,Zp 70 (.call { callee:=(.builtin .len),args:=#[Zr 69],argTypes:=#[65] }) 67 false,Zp 71 (.binOp .gtr 3 (Zr 70) (.const (.int .i64 100)) 3) 67 false,Zq 72 (.pick (Zr 67) (.const (.bool true)) (Zr 71)),Zc 62 72])
 (.cond (Zr 62)
 (.seq
 (.reg [Zf 2 5]) .ret) .skip)))))))))))
 (.reg [Za 24 4,Zm 25 .add 3 24 1,Zc 4 25])))
def b54_2:ACode:=(.seq
 (.seq
 (.reg [Za 80 7,Zd 81 25 1 1,Zb 82 23 81,Za 83 6,Zk 84 23 82 83,Zd 85 67 84 2,Zb 86 65 85,Ze 87 86 65,Zn 88 .lss 3 80 87])
 (.cond (Zr 88) .skip (.exit 5)))
 (.seq
 (.block 6
 (.seq
 (.dreg
 (.tk 0 (Zb 91 25 1)
 (.tk 1 (Zd 92 25 1 1)
 (.tk 2 (Zb 93 23 92)
 (.tk 3 (Za 94 6)
 (.tk 4 (Zk 95 23 93 94)
 (.tk 5 (Zb 96 67 95)
 (.tk 6 (Zd 97 25 1 1)
 (.tk 7 (Zb 98 23 97)
 (.tk 8 (Za 99 6)
 (.tk 9 (Zk 100 23 98 99)
 (.tk 10 (Zd 101 67 100 2)
 (.tk 11 (Zb 102 65 101)
 (.tk 12 (Za 103 7)
 (.tk 13 (Zk 104 65 102 103)
 (.tk 14 (Zb 105 124 104) .fin))))))))))))))) [Zo 106 90 #[Zr 91,Zr 96,Zr 105] #[25,67,124],Zc 8 106])
 (.seq
 (.reg [Za 107 8,Zm 108 .neq 38 107 0])
 (.cond (Zr 108)
 (.seq
 (.reg [Za 109 8,Zc 2 109]) .ret) .skip))))
 (.reg [Za 89 7,Zm 90 .add 3 89 1,Zc 7 90])))
def c54_1:ACode:=(.reg [Za 78 6,Zm 79 .add 3 78 1,Zc 6 79])
def b54_3:ACode:=(.seq
 (.seq
 (.reg [Za 73 6,Zd 74 25 1 1,Zb 75 23 74,Ze 76 75 23,Zn 77 .lss 3 73 76])
 (.cond (Zr 77) .skip (.exit 3)))
 (.seqL
 (.block 4
 (.seq
 (.reg [Zf 7 0])
 (.block 5 (.loop b54_2)))) c54_1))
def c54_2:ACode:=(.seq
 (.reg [Zf 2 0]) .ret)
def c54_3:ACode:=(.seqL
 (.seq
 (.reg [Zf 6 0])
 (.block 3 (.loop b54_3))) c54_2)
def c54:ACode:=(.seq
 (.reg [Zj 1 25 0,Zf 2 0])
 (.seq
 (.seq
 (.reg [Zd 9 25 1 1,Zb 10 23 9,Ze 11 10 23,Zm 12 .gtr 3 11 100])
 (.cond (Zr 12)
 (.seq
 (.reg [Zf 2 5]) .ret) .skip))
 (.seq
 (.seq
 (.reg [Zd 13 25 1 0,Zb 14 22 13,Zo 15 86 #[Zr 14] #[22],Zc 3 15])
 (.seq
 (.reg [Za 16 3,Zm 17 .neq 38 16 0])
 (.cond (Zr 17)
 (.seq
 (.reg [Za 18 3,Zc 2 18]) .ret) .skip)))
 (.seqL
 (.seq
 (.reg [Zf 4 0])
 (.block 0 (.loop b54_1))) c54_3))))
theorem fd54:FnD Tryz.prog 54 110 [(.tmp 2)] c54:=⟨⟨Tryz.f54,Tryz.f54.body.getD .skip,Tryz.func54,by kernel_rfl,by kernel_rfl,by kernel_rfl,by kernel_rfl⟩⟩
def b55_1:ACode:=(.seq
 (.seq
 (.reg [Za 119 7,Zd 120 28 4 2,Zb 121 26 120,Ze 122 121 26,Zn 123 .lss 3 119 122])
 (.cond (Zr 123) .skip (.exit 1)))
 (.seq
 (.block 2
 (.seq
 (.dreg
 (.tk 0 (Zb 126 25 3)
 (.tk 1 (Zd 127 28 4 2)
 (.tk 2 (Zb 128 26 127)
 (.tk 3 (Za 129 7)
 (.tk 4 (Zk 130 26 128 129)
 (.tk 5 (Zb 131 28 130)
 (.tk 6 (Za 132 2) .fin))))))) [Zo 133 55 #[Zr 126,Zr 131,Zr 132] #[25,28,181],Zc 8 133])
 (.seq
 (.reg [Za 134 8,Zm 135 .neq 38 134 0])
 (.cond (Zr 135)
 (.seq
 (.reg [Za 136 8,Zc 6 136]) .ret) .skip))))
 (.reg [Za 124 7,Zm 125 .add 3 124 1,Zc 7 125])))
def c55_1:ACode:=(.seq
 (.reg [Zf 6 0]) .ret)
def c55:ACode:=(.seq
 (.reg [Zj 3 25 0,Zj 4 28 1,Zf 6 0])
 (.seq
 (.block 0
 (.seq
 (.reg [Zd 10 28 4 0,Zb 11 3 10,Zm 12 .lss 3 11 1,Za 13 12,Zp 14 (.fieldAddr 28 (Zr 4) 0) 13 false,Zp 15 (.load 3 (Zr 14)) 13 false,Zp 16 (.binOp .gtr 3 (Zr 15) (.const (.int .i64 5)) 3) 13 false,Zq 17 (.pick (Zr 13) (.const (.bool true)) (Zr 16)),Zc 9 17])
 (.cond (Zr 9)
 (.seq
 (.reg [Zf 6 2]) .ret)
 (.seq
 (.seq
 (.reg [Zd 19 28 4 0,Zb 20 3 19,Zm 21 .eql 3 20 1,Za 22 21,Zp 23 (.fieldAddr 28 (Zr 4) 0) 22 false,Zp 24 (.load 3 (Zr 23)) 22 false,Zp 25 (.binOp .eql 3 (Zr 24) (.const (.int .i64 2)) 3) 22 false,Zq 26 (.pick (Zr 22) (.const (.bool true)) (Zr 25)),Za 27 26,Zp 28 (.fieldAddr 28 (Zr 4) 2) 27 true,Zp 29 (.load 26 (Zr 28)) 27 true,Zp 30 (.call { callee:=(.builtin .len),args:=#[Zr 29],argTypes:=#[26] }) 27 true,Zp 31 (.binOp .gtr 3 (Zr 30) (.const (.int .i64 0)) 3) 27 true,Zq 32 (.pick (Zr 27) (Zr 31) (.const (.bool false))),Zc 18 32])
 (.cond (Zr 18) .skip
 (.seq
 (.reg [Zd 33 28 4 0,Zb 34 3 33,Zm 35 .eql 3 34 5,Za 36 35,Zp 37 (.fieldAddr 28 (Zr 4) 2) 36 true,Zp 38 (.load 26 (Zr 37)) 36 true,Zp 39 (.call { callee:=(.builtin .len),args:=#[Zr 38],argTypes:=#[26] }) 36 true,Zp 40 (.binOp .neq 3 (Zr 39) (.const (.int .i64 1)) 3) 36 true,Zq 41 (.pick (Zr 36) (Zr 40) (.const (.bool false))),Zc 18 41])
 (.cond (Zr 18) .skip
 (.seq
 (.reg [Zd 42 28 4 0,Zb 43 3 42,Zm 44 .eql 3 43 4,Za 45 44,Zp 46 (.fieldAddr 28 (Zr 4) 2) 45 true,Zp 47 (.load 26 (Zr 46)) 45 true,Zp 48 (.call { callee:=(.builtin .len),args:=#[Zr 47],argTypes:=#[26] }) 45 true,Zp 49 (.binOp .lss 3 (Zr 48) (.const (.int .i64 2)) 3) 45 true,Zq 50 (.pick (Zr 45) (Zr 49) (.const (.bool false))),Zc 18 50])
 (.cond (Zr 18) .skip
 (.reg [Zd 51 28 4 0,Zb 52 3 51,Zm 53 .eql 3 52 4,Zd 54 28 4 1,Zb 55 9 54,Zq 56 (.binOp .eql 9 (Zr 55) (.const (.string { data:=#[] })) 9),Zn 57 .neq 4 53 56,Zc 18 57])))))))
 (.cond (Zr 18)
 (.seq
 (.reg [Zf 6 2]) .ret)
 (.seq
 (.seq
 (.reg [Zd 59 28 4 0,Zb 60 3 59,Zm 61 .eql 3 60 2,Za 62 61,Zp 63 (.load 25 (Zr 3)) 62 true,Zp 64 (.fieldAddr 28 (Zr 4) 1) 62 true,Zp 65 (.load 9 (Zr 64)) 62 true,Zp 66 (.call { callee:=(.value (.func 56)),args:=#[Zr 63,Zr 65],argTypes:=#[25,9] }) 62 true,Zp 67 (.binOp .lss 3 (Zr 66) (.const (.int .i64 0)) 3) 62 true,Zq 68 (.pick (Zr 62) (Zr 67) (.const (.bool false))),Zc 58 68])
 (.cond (Zr 58) .skip
 (.reg [Zd 69 28 4 0,Zb 70 3 69,Zm 71 .eql 3 70 3,Za 72 71,Zp 73 (.load 25 (Zr 3)) 72 true,Zp 74 (.fieldAddr 28 (Zr 4) 1) 72 true,Zp 75 (.load 9 (Zr 74)) 72 true,Zp 76 (.call { callee:=(.value (.func 91)),args:=#[Zr 73,Zr 75],argTypes:=#[25,9] }) 72 true,Zp 77 (.binOp .lss 3 (Zr 76) (.const (.int .i64 0)) 3) 72 true,Zq 78 (.pick (Zr 72) (Zr 77) (.const (.bool false))),Zc 58 78])))
 (.cond (Zr 58)
 (.seq
 (.reg [Zf 6 9]) .ret)
 (.seq
 (.dreg
 (.tk 0 (Zd 80 28 4 0)
 (.tk 1 (Zb 81 3 80)
 (.tk 2 (Zm 82 .eql 3 81 3)
 (.tk 3 (Za 83 82)
 (.tk 4 (Zp 84 (.fieldAddr 28 (Zr 4) 2) 83 true)
 (.tk 5 (Zp 85 (.load 26 (Zr 84)) 83 true)
 (.tk 6 (Zp 86 (.call { callee:=(.builtin .len),args:=#[Zr 85],argTypes:=#[26] }) 83 true)
 (.tk 7 (Zp 87 (.fieldAddr 25 (Zr 3) 0) 83 true)
 (.tk 8 (Zp 88 (.load 22 (Zr 87)) 83 true)
 (.tk 9 (Zp 89 (.load 25 (Zr 3)) 83 true)
 (.tk 10 (Zp 90 (.fieldAddr 28 (Zr 4) 1) 83 true)
 (.tk 11 (Zp 91 (.load 9 (Zr 90)) 83 true)
 (.one [4,5,6,7,8,12,13,14,15,16,17,18] (Zp 92 (.call { callee:=(.value (.func 91)),args:=#[Zr 89,Zr 91],argTypes:=#[25,9] }) 83 true)
 (.tk 13 (Zp 93 (.indexAddr 22 (Zr 88) (Zr 92)) 83 true)
 (.tk 14 (Zp 94 (.fieldAddr 102 (Zr 93) 1) 83 true)
 (.tk 15 (Zp 95 (.load 3 (Zr 94)) 83 true) .fin)))))))))))))))) [Zp 96 (.binOp .neq 3 (Zr 86) (Zr 95) 3) 83 true,Zq 97 (.pick (Zr 83) (Zr 96) (.const (.bool false))),Zc 79 97])
 (.cond (Zr 79)
 (.seq
 (.reg [Zf 6 5]) .ret)
 (.seq
 (.reg [Zd 99 28 4 0,Zb 100 3 99,Zm 101 .eql 3 100 1,Za 102 101,Zp 103 (.move (Zr 2)) 102 true,Zp 104 (.fieldAddr 28 (Zr 4) 1) 102 true,Zp 105 (.load 9 (Zr 104)) 102 true,Zp 106 (.call { callee:=(.value (.func 92)),args:=#[Zr 103,Zr 105],argTypes:=#[181,9] }) 102 true,Zp 107 (.unOp .not 4 (Zr 106)) 102 true,Zq 108 (.pick (Zr 102) (Zr 107) (.const (.bool false))),Zc 98 108])
 (.cond (Zr 98)
 (.seq
 (.reg [Zf 6 422]) .ret) .skip)))))))))))
 (.seq
 (.seq
 (.reg [Zd 109 28 4 0,Zb 110 3 109,Zm 111 .eql 3 110 5])
 (.cond (Zr 111)
 (.dreg
 (.tk 0 (Zq 112 (.buildSlice 181 0 #[]))
 (.tk 1 (Za 113 2)
 (.tk 3 (Zd 115 28 4 1)
 (.tk 4 (Zb 116 9 115)
 (.tk 5 (Zq 117 (.buildSlice 181 1 #[(0,(Zr 116))]))
 (.one [2,3,4,5,6,7] (Zl 114 112 113 181) .fin)))))) [Zl 118 114 117 181,Zc 2 118]) .skip))
 (.seqL
 (.seq
 (.reg [Zf 7 0])
 (.block 1 (.loop b55_1))) c55_1))))
theorem fd55:FnD Tryz.prog 55 137 [(.tmp 6)] c55:=⟨⟨Tryz.f55,Tryz.f55.body.getD .skip,Tryz.func55,by kernel_rfl,by kernel_rfl,by kernel_rfl,by kernel_rfl⟩⟩
def b56_1:ACode:=(.seq
 (.seq
 (.reg [Za 6 5,Zd 7 25 2 1,Zb 8 23 7,Ze 9 8 23,Zn 10 .lss 3 6 9])
 (.cond (Zr 10) .skip (.exit 0)))
 (.seq
 (.block 1
 (.seq
 (.reg [Zd 13 25 2 1,Zb 14 23 13,Za 15 5,Zk 16 23 14 15,Zd 17 67 16 0,Zb 18 9 17,Za 19 1,Zn 20 .eql 9 18 19])
 (.cond (Zr 20)
 (.seq
 (.reg [Za 21 5,Zc 4 21]) .ret) .skip)))
 (.reg [Za 11 5,Zm 12 .add 3 11 1,Zc 5 12])))
def c56_1:ACode:=(.seq
 (.reg [Zq 4 (.assign (.const (.int .i64 (-1))))]) .ret)
def c56:ACode:=(.seq
 (.reg [Zj 2 25 0,Zf 4 0])
 (.seqL
 (.seq
 (.reg [Zf 5 0])
 (.block 0 (.loop b56_1))) c56_1))
theorem fd56:FnD Tryz.prog 56 22 [(.tmp 4)] c56:=⟨⟨Tryz.f56,Tryz.f56.body.getD .skip,Tryz.func56,by kernel_rfl,by kernel_rfl,by kernel_rfl,by kernel_rfl⟩⟩
def c57:ACode:=(.seq
 (.reg [Zj 3 106 0,Zj 4 67 1,Zi 6 106,Zi 7 28])
 (.seq
 (.reg [Zb 10 106 3,Za 11 2,Zo 12 93 #[Zr 10,Zr 11] #[106,26],Zg 106 3 12])
 (.seq
 (.seq
 (.reg [Zd 13 106 3 4,Zb 14 38 13,Zm 15 .neq 38 14 0])
 (.cond (Zr 15)
 (.seq
 (.reg [Zb 16 106 3,Zq 17 (.build 28 #[]),Zg 106 6 16,Zg 28 7 17]) .ret) .skip))
 (.seq
 (.reg [Zb 19 67 4,Za 20 2,Zo 21 94 #[Zr 19,Zr 20] #[67,26],Za 18 21,Zh 22 18 0,Zh 23 18 1,Zc 8 22,Zc 9 23])
 (.seq
 (.seq
 (.reg [Za 24 8,Zm 25 .lss 3 24 0])
 (.cond (Zr 25)
 (.seq
 (.reg [Zb 26 106 3,Zo 27 95 #[Zr 26,(.const (.int .i64 420))] #[106,38],Zh 28 27 0,Zh 29 27 1,Zg 106 6 28,Zg 28 7 29]) .ret) .skip))
 (.seq
 (.dreg
 (.tk 0 (Zb 30 106 3)
 (.tk 1 (Zd 31 67 4 2)
 (.tk 2 (Zb 32 65 31)
 (.tk 3 (Za 33 8)
 (.tk 4 (Zk 34 65 32 33)
 (.tk 5 (Zd 35 124 34 1)
 (.tk 6 (Zb 36 28 35)
 (.tk 7 (Za 37 9)
 (.one [0,8,9,10,11,12,13] (Zo 38 97 #[Zr 36,Zr 37,(.const (.bool true))] #[28,175,4])
 (.one [9,10,11,12,13] (Zo 39 96 #[Zr 30,Zr 38] #[106,28])
 (.tk 10 (Zh 40 39 0)
 (.tk 11 (Zh 41 39 1) .fin)))))))))))) [Zg 106 6 40,Zg 28 7 41]) .ret))))))
theorem fd57:FnD Tryz.prog 57 42 [(.cell 6 106),(.cell 7 28)] c57:=⟨⟨Tryz.f57,Tryz.f57.body.getD .skip,Tryz.func57,by kernel_rfl,by kernel_rfl,by kernel_rfl,by kernel_rfl⟩⟩
def b58_1:ACode:=(.seq
 (.seq
 (.reg [Za 10 7,Za 11 1,Ze 12 11 26,Zn 13 .lss 3 10 12,Za 14 13,Zp 15 (.fieldAddr 106 (Zr 2) 4) 14 true,Zp 16 (.load 38 (Zr 15)) 14 true,Zp 17 (.binOp .eql 38 (Zr 16) (.const (.int .i64 0)) 38) 14 true,Zq 18 (.pick (Zr 14) (Zr 17) (.const (.bool false)))])
 (.cond (Zr 18) .skip (.exit 0)))
 (.seq
 (.block 1
 (.seq
 (.reg [Zi 8 28])
 (.seq
 (.dreg
 (.tk 0 (Zb 22 106 2)
 (.tk 1 (Za 23 1)
 (.tk 2 (Za 24 7)
 (.tk 3 (Zk 25 26 23 24)
 (.tk 4 (Zb 26 28 25)
 (.one [5,6,7,8,9,10] (Zo 27 31 #[Zr 22,Zr 26] #[106,28])
 (.tk 6 (Za 21 27)
 (.tk 7 (Zh 28 21 0)
 (.tk 8 (Zh 29 21 1)
 (.one [8,9,10] (Zg 106 2 28) .fin)))))))))) [Zg 28 8 29])
 (.reg [Za 30 6,Zb 31 28 8,Zq 32 (.buildSlice 26 1 #[(0,(Zr 31))]),Zl 33 30 32 26,Zc 6 33]))))
 (.reg [Za 19 7,Zm 20 .add 3 19 1,Zc 7 20])))
def Zpx:ACode:=(.seq
 (.reg [Zb 34 106 2,Za 35 6,Zg 106 4 34,Zc 5 35]) .ret)
def c58:ACode:=(.seq
 (.reg [Zj 2 106 0,Zi 4 106,Zq 5 (.assign (.const (.slice none 0 0)))])
 (.seq
 (.reg [Zq 9 (.buildSlice 26 0 #[]),Zc 6 9])
 (.seqL
 (.seq
 (.reg [Zf 7 0])
 (.block 0 (.loop b58_1))) Zpx)))
theorem fd58:FnD Tryz.prog 58 36 [(.cell 4 106),(.tmp 5)] c58:=⟨⟨Tryz.f58,Tryz.f58.body.getD .skip,Tryz.func58,by kernel_rfl,by kernel_rfl,by kernel_rfl,by kernel_rfl⟩⟩
def b59_1:ACode:=(.seq
 (.seq
 (.reg [Zd 14 106 3 4,Zb 15 38 14,Zm 16 .eql 38 15 0,Za 17 16,Zp 18 (.move (Zr 2)) 17 true,Zp 19 (.call { callee:=(.builtin .len),args:=#[Zr 18],argTypes:=#[26] }) 17 true,Zp 20 (.binOp .gtr 3 (Zr 19) (.const (.int .i64 0)) 3) 17 true,Zq 21 (.pick (Zr 17) (Zr 20) (.const (.bool false)))])
 (.cond (Zr 21) .skip (.exit 0)))
 (.block 1
 (.seq
 (.reg [Zd 22 28 4 0,Zb 23 3 22])
 (.block 2
 (.seq
 (.reg [Zm 86 .eql 3 23 5,Zc 85 86])
 (.cond (Zr 85)
 (.seq
 (.dreg
 (.tk 0 (Zb 87 106 3)
 (.tk 1 (Za 88 2)
 (.tk 2 (Zq 89 (.slice 26 (Zr 88) none (some (.const (.int .i64 1))) none)) .fin))) [Zo 90 93 #[Zr 87,Zr 89] #[106,26],Zg 106 3 90])
 (.seq
 (.seq
 (.reg [Zd 91 106 3 4,Zb 92 38 91,Zm 93 .neq 38 92 0])
 (.cond (Zr 93)
 (.seq
 (.dreg
 (.tk 0 (Zb 94 106 3)
 (.tk 1 (Zb 95 28 4)
 (.one [1,2,3] (Zg 106 6 94) .fin))) [Zg 28 7 95]) .ret) .skip))
 (.seq
 (.dreg
 (.tk 0 (Zb 97 106 3)
 (.tk 1 (Zd 98 28 4 2)
 (.tk 2 (Zb 99 26 98)
 (.tk 3 (Zq 100 (.indexAddr 26 (Zr 99) (.const (.int .i64 0))))
 (.tk 4 (Zb 101 28 100)
 (.tk 5 (Zd 102 28 4 1)
 (.tk 6 (Zb 103 9 102)
 (.tk 7 (Za 104 2)
 (.tk 8 (Zq 105 (.indexAddr 26 (Zr 104) (.const (.int .i64 0))))
 (.tk 9 (Zb 106 28 105)
 (.tk 10 (Zq 107 (.build 174 #[(0,(Zr 103)),(1,(Zr 106))]))
 (.tk 11 (Zq 108 (.buildSlice 175 1 #[(0,(Zr 107))]))
 (.one [0,12,13,14,15,16,17,18] (Zo 109 97 #[Zr 101,Zr 108,(.const (.bool true))] #[28,175,4])
 (.one [13,14,15,16,17,18] (Zo 110 96 #[Zr 97,Zr 109] #[106,28])
 (.tk 14 (Za 96 110)
 (.tk 15 (Zh 111 96 0)
 (.tk 16 (Zh 112 96 1)
 (.one [16,17,18] (Zg 106 3 111) .fin)))))))))))))))))) [Zg 28 4 112])
 (.reg [Za 113 2,Zq 114 (.slice 26 (Zr 113) (some (.const (.int .i64 1))) none none),Zc 2 114]))))
 (.seq
 (.reg [Zm 116 .eql 3 23 3,Zc 115 116])
 (.cond (Zr 115)
 (.seq
 (.reg [Zb 117 106 3,Zo 118 95 #[Zr 117,(.const (.int .i64 421))] #[106,38],Zh 119 118 0,Zh 120 118 1,Zg 106 6 119,Zg 28 7 120]) .ret)
 (.seq
 (.reg [Zq 24 (.buildSlice 26 0 #[]),Zc 8 24])
 (.seq
 (.reg [Zd 25 28 4 1,Zb 26 9 25,Zc 9 26])
 (.seq
 (.seq
 (.reg [Zd 27 28 4 0,Zb 28 3 27,Zm 29 .eql 3 28 4])
 (.cond (Zr 29)
 (.seq
 (.reg [Zb 30 28 4,Zo 31 72 #[Zr 30] #[28],Zg 28 4 31])
 (.seq
 (.reg [Zd 32 28 4 2,Zb 33 26 32,Zq 34 (.slice 26 (Zr 33) (some (.const (.int .i64 1))) none none),Zc 8 34])
 (.reg [Zd 35 28 4 2,Zb 36 26 35,Zq 37 (.indexAddr 26 (Zr 36) (.const (.int .i64 0))),Zd 38 28 37 1,Zb 39 9 38,Zc 9 39]))) .skip))
 (.seq
 (.dreg
 (.tk 0 (Zd 40 106 3 0)
 (.tk 1 (Zd 41 25 40 1)
 (.tk 2 (Zb 42 23 41)
 (.tk 3 (Zd 43 106 3 0)
 (.tk 4 (Zb 44 25 43)
 (.tk 5 (Za 45 9)
 (.two [0,1,2,6,7,8,9,10] (Zo 46 56 #[Zr 44,Zr 45] #[25,9])
 (.tk 7 (Zk 47 23 42 46)
 (.tk 8 (Zb 48 67 47)
 (.one [0,1,2,3,4,5,6,7,8,9,10] (Zi 10 67) .fin))) [0,1,2,3,4,5,6,7,8,9,10] (Zi 10 67)
 (.one [0,1,2,6,7,8,9,10] (Zo 46 56 #[Zr 44,Zr 45] #[25,9])
 (.tk 7 (Zk 47 23 42 46)
 (.tk 8 (Zb 48 67 47) .fin)))))))))) [Zg 67 10 48])
 (.seq
 (.reg [Zd 49 67 10 1,Zb 50 3 49,Za 51 8,Ze 52 51 26,Zn 53 .sub 3 50 52,Zc 11 53])
 (.seq
 (.seq
 (.reg [Za 54 2,Ze 55 54 26,Za 56 11,Zn 57 .lss 3 55 56])
 (.cond (Zr 57)
 (.seq
 (.reg [Za 58 9,Zq 59 (.build 28 #[(0,(.const (.int .i64 2))),(1,(Zr 58))]),Zq 60 (.buildSlice 26 1 #[(0,(Zr 59))]),Za 61 8,Zl 62 60 61 26,Zc 12 62])
 (.seq
 (.dreg
 (.tk 0 (Zb 63 106 3)
 (.tk 1 (Za 64 12)
 (.tk 2 (Za 65 2)
 (.one [0,3,4,5,6] (Zl 66 64 65 26)
 (.tk 4 (Zq 67 (.build 28 #[(0,(.const (.int .i64 4))),(2,(Zr 66))]))
 (.one [4,5,6] (Zg 106 6 63) .fin)))))) [Zg 28 7 67]) .ret)) .skip))
 (.seq
 (.dreg
 (.tk 0 (Zq 68 (.buildSlice 26 0 #[]))
 (.tk 1 (Za 69 8)
 (.tk 3 (Za 71 2)
 (.tk 4 (Za 72 11)
 (.tk 5 (Zq 73 (.slice 26 (Zr 71) none (some (Zr 72)) none))
 (.one [2,3,4,5,6,7] (Zl 70 68 69 26) .fin)))))) [Zl 74 70 73 26,Zc 13 74])
 (.seq
 (.reg [Za 75 2,Za 76 11,Zq 77 (.slice 26 (Zr 75) (some (Zr 76)) none none),Zc 2 77])
 (.reg [Zb 79 106 3,Zb 80 67 10,Za 81 13,Zo 82 57 #[Zr 79,Zr 80,Zr 81] #[106,67,26],Za 78 82,Zh 83 78 0,Zh 84 78 1,Zg 106 3 83,Zg 28 4 84])))))))))))))))))
def Zpy:ACode:=(.seq
 (.dreg
 (.tk 0 (Zb 121 106 3)
 (.tk 1 (Zb 122 28 4)
 (.one [1,2,3] (Zg 106 6 121) .fin))) [Zg 28 7 122]) .ret)
def c59:ACode:=(.seq
 (.reg [Zj 3 106 0,Zj 4 28 1,Zi 6 106,Zi 7 28])
 (.seqL
 (.block 0 (.loop b59_1)) Zpy))
theorem fd59:FnD Tryz.prog 59 123 [(.cell 6 106),(.cell 7 28)] c59:=⟨⟨Tryz.f59,Tryz.f59.body.getD .skip,Tryz.func59,by kernel_rfl,by kernel_rfl,by kernel_rfl,by kernel_rfl⟩⟩
def b60_1:ACode:=(.seq
 (.reg [Zn 18 .lss 3 17 16])
 (.seq
 (.cond (Zr 18) .skip (.exit 0))
 (.seq
 (.block 1
 (.seq
 (.reg [Za 19 17,Zk 20 33 15 17,Zb 21 35 20,Zi 8 35,Zc 7 19,Zg 35 8 21])
 (.seq
 (.reg [Za 22 1,Za 23 7,Zk 24 33 22 23,Zb 25 35 24,Zi 9 35,Zg 35 9 25])
 (.seq
 (.reg [Za 26 2,Zb 27 35 8,Zb 28 35 9,Zq 29 (.call { callee:=(.value (Zr 26)),args:=#[Zr 27,Zr 28],argTypes:=#[35,35] }),Zq 30 (.unOp .not 4 (Zr 29))])
 (.cond (Zr 30)
 (.seq
 (.reg [Zq 6 (.assign (.const (.bool false)))]) .ret) .skip)))))
 (.reg [Zm 31 .add 3 17 1,Za 17 31]))))
def c60_1:ACode:=(.seq
 (.reg [Zq 6 (.assign (.const (.bool true)))]) .ret)
def c60:ACode:=(.seq
 (.reg [Zq 6 (.assign (.const (.bool false)))])
 (.seq
 (.seq
 (.reg [Za 10 0,Ze 11 10 33,Za 12 1,Ze 13 12 33,Zn 14 .neq 3 11 13])
 (.cond (Zr 14)
 (.seq
 (.reg [Zq 6 (.assign (.const (.bool false)))]) .ret) .skip))
 (.seqL
 (.seq
 (.reg [Za 15 0,Ze 16 15 33,Zq 17 (.move (.const (.int .i64 0)))])
 (.block 0 (.loop b60_1))) c60_1)))
theorem fd60:FnD Tryz.prog 60 32 [(.tmp 6)] c60:=⟨⟨Tryz.f60,Tryz.f60.body.getD .skip,Tryz.func60,by kernel_rfl,by kernel_rfl,by kernel_rfl,by kernel_rfl⟩⟩
def b72_1:ACode:=(.seq
 (.seq
 (.reg [Zd 4 28 1 0,Zb 5 3 4,Zm 6 .eql 3 5 4,Za 7 6,Zp 8 (.fieldAddr 28 (Zr 1) 2) 7 true,Zp 9 (.load 26 (Zr 8)) 7 true,Zp 10 (.indexAddr 26 (Zr 9) (.const (.int .i64 0))) 7 true,Zp 11 (.fieldAddr 28 (Zr 10) 0) 7 true,Zp 12 (.load 3 (Zr 11)) 7 true,Zp 13 (.binOp .eql 3 (Zr 12) (.const (.int .i64 4)) 3) 7 true,Zq 14 (.pick (Zr 7) (Zr 13) (.const (.bool false)))])
 (.cond (Zr 14) .skip (.exit 0)))
 (.block 1
 (.seq
 (.reg [Zq 15 (.buildSlice 26 0 #[]),Zd 16 28 1 2,Zb 17 26 16,Zq 18 (.indexAddr 26 (Zr 17) (.const (.int .i64 0))),Zd 19 28 18 2,Zb 20 26 19,Zl 21 15 20 26,Zc 3 21])
 (.reg [Za 22 3,Zd 23 28 1 2,Zb 24 26 23,Zq 25 (.slice 26 (Zr 24) (some (.const (.int .i64 1))) none none),Zl 26 22 25 26,Zq 27 (.build 28 #[(0,(.const (.int .i64 4))),(2,(Zr 26))]),Zg 28 1 27]))))
def c72_1:ACode:=(.seq
 (.reg [Zb 28 28 1,Zg 28 2 28]) .ret)
def c72:ACode:=(.seq
 (.reg [Zj 1 28 0,Zi 2 28])
 (.seqL
 (.block 0 (.loop b72_1)) c72_1))
theorem fd72:FnD Tryz.prog 72 29 [(.cell 2 28)] c72:=⟨⟨Tryz.f72,Tryz.f72.body.getD .skip,Tryz.func72,by kernel_rfl,by kernel_rfl,by kernel_rfl,by kernel_rfl⟩⟩
def b76_1:ACode:=(.seq
 (.reg [Zn 11 .lss 3 10 9])
 (.seq
 (.cond (Zr 11) .skip (.exit 0))
 (.seq
 (.block 1
 (.seq
 (.reg [Za 12 10,Zk 13 41 8 10,Zb 14 76 13,Zi 4 76,Zc 3 12,Zg 76 4 14])
 (.block 2
 (.seq
 (.reg [Zd 16 76 4 0,Zb 17 9 16,Zo 18 77 #[Zr 17] #[9],Zq 19 (.unOp .not 4 (Zr 18)),Zc 15 19])
 (.cond (Zr 15)
 (.seq
 (.reg [Zf 2 411]) .ret)
 (.seq
 (.reg [Zd 21 76 4 1,Zb 22 3 21,Zm 23 .lss 3 22 0,Za 24 23,Zp 25 (.fieldAddr 76 (Zr 4) 1) 24 false,Zp 26 (.load 3 (Zr 25)) 24 false,Zp 27 (.binOp .gtr 3 (Zr 26) (.const (.int .i64 10)) 3) 24 false,Zq 28 (.pick (Zr 24) (.const (.bool true)) (Zr 27)),Zc 20 28])
 (.cond (Zr 20)
 (.seq
 (.reg [Zf 2 4]) .ret)
 (.seq
 (.dreg
 (.tk 0 (Za 30 0)
 (.tk 1 (Za 31 3)
 (.tk 2 (Zq 32 (.slice 41 (Zr 30) none (some (Zr 31)) none))
 (.tk 3 (Zd 33 76 4 0)
 (.tk 4 (Zb 34 9 33) .fin))))) [Zo 35 78 #[Zr 32,Zr 34] #[41,9],Zm 36 .geq 3 35 0,Zc 29 36])
 (.cond (Zr 29)
 (.seq
 (.reg [Zf 2 10]) .ret) .skip)))))))))
 (.reg [Zm 37 .add 3 10 1,Za 10 37]))))
def c76_1:ACode:=(.seq
 (.reg [Zf 2 0]) .ret)
def c76:ACode:=(.seq
 (.reg [Zf 2 0])
 (.seq
 (.seq
 (.reg [Za 5 0,Ze 6 5 41,Zm 7 .gtr 3 6 100])
 (.cond (Zr 7)
 (.seq
 (.reg [Zf 2 5]) .ret) .skip))
 (.seqL
 (.seq
 (.reg [Za 8 0,Ze 9 8 41,Zq 10 (.move (.const (.int .i64 0)))])
 (.block 0 (.loop b76_1))) c76_1)))
theorem fd76:FnD Tryz.prog 76 38 [(.tmp 2)] c76:=⟨⟨Tryz.f76,Tryz.f76.body.getD .skip,Tryz.func76,by kernel_rfl,by kernel_rfl,by kernel_rfl,by kernel_rfl⟩⟩
def c77:ACode:=(.seq
 (.reg [Zq 2 (.assign (.const (.bool false)))])
 (.seq
 (.seq
 (.reg [Za 3 0,Zq 4 (.binOp .eql 9 (Zr 3) (.const (.string { data:=#[] })) 9),Za 5 4,Zp 6 (.move (Zr 0)) 5 false,Zp 7 (.call { callee:=(.builtin .len),args:=#[Zr 6],argTypes:=#[9] }) 5 false,Zp 8 (.binOp .gtr 3 (Zr 7) (.const (.int .i64 40)) 3) 5 false,Zq 9 (.pick (Zr 5) (.const (.bool true)) (Zr 8)),Za 10 9,Zp 11 (.move (Zr 0)) 10 false,Zp 12 (.index 9 (Zr 11) (.const (.int .i64 0))) 10 false,Zp 13 (.call { callee:=(.value (.func 108)),args:=#[Zr 12],argTypes:=#[5] }) 10 false,Zp 14 (.unOp .not 4 (Zr 13)) 10 false,Zp 15 (.move (Zr 14)) 10 false,Zp 16 (.move (Zr 0)) 15 true,Zp 17 (.index 9 (Zr 16) (.const (.int .i64 0))) 15 true,Zp 18 (.binOp .neq 5 (Zr 17) (.const (.int .u8 95)) 5) 15 true,Zp 19 (.pick (Zr 15) (Zr 18) (.const (.bool false))) 10 false,Zq 20 (.pick (Zr 10) (.const (.bool true)) (Zr 19))])
 (.cond (Zr 20)
 (.seq
 (.reg [Zq 2 (.assign (.const (.bool false)))]) .ret) .skip))
 (.seq
 (.reg [Za 21 0,Zq 22 (.convert 9 213 (Zr 21)),Zo 23 109 #[Zr 22,(.func 110)] #[213,211],Zq 24 (.unOp .not 4 (Zr 23)),Zc 2 24]) .ret)))
theorem fd77:FnD Tryz.prog 77 25 [(.tmp 2)] c77:=⟨⟨Tryz.f77,Tryz.f77.body.getD .skip,Tryz.func77,by kernel_rfl,by kernel_rfl,by kernel_rfl,by kernel_rfl⟩⟩
def c78:ACode:=(.seq
 (.reg [Zj 3 9 1,Zf 4 0])
 (.seq
 (.reg [Za 5 0,Zq 6 (.makeFunc (.func 113) #[] #[Zr 3]),Zo 7 112 #[Zr 5,Zr 6] #[41,215],Zc 4 7]) .ret))
theorem fd78:FnD Tryz.prog 78 8 [(.tmp 4)] c78:=⟨⟨Tryz.f78,Tryz.f78.body.getD .skip,Tryz.func78,by kernel_rfl,by kernel_rfl,by kernel_rfl,by kernel_rfl⟩⟩
def c79:ACode:=(.seq
 (.reg [Zj 3 9 1,Zf 4 0])
 (.seq
 (.reg [Za 5 0,Zq 6 (.makeFunc (.func 115) #[] #[Zr 3]),Zo 7 114 #[Zr 5,Zr 6] #[42,217],Zc 4 7]) .ret))
theorem fd79:FnD Tryz.prog 79 8 [(.tmp 4)] c79:=⟨⟨Tryz.f79,Tryz.f79.body.getD .skip,Tryz.func79,by kernel_rfl,by kernel_rfl,by kernel_rfl,by kernel_rfl⟩⟩
def b80_1:ACode:=(.seq
 (.reg [Zn 26 .lss 3 25 24])
 (.seq
 (.cond (Zr 26) .skip (.exit 0))
 (.seq
 (.block 1
 (.seq
 (.reg [Zk 27 72 23 25,Zb 28 74 27,Zi 8 74,Zg 74 8 28])
 (.seq
 (.reg [Zb 29 74 8,Zd 30 44 3 0,Zb 31 41 30,Zo 32 116 #[Zr 29,Zr 31] #[74,41],Zc 9 32])
 (.seq
 (.reg [Za 33 9,Zm 34 .neq 38 33 0])
 (.cond (Zr 34)
 (.seq
 (.reg [Za 35 9,Zc 6 35]) .ret) .skip)))))
 (.reg [Zm 36 .add 3 25 1,Za 25 36]))))
def b80_2:ACode:=(.seq
 (.reg [Zn 43 .lss 3 42 41])
 (.seq
 (.cond (Zr 43) .skip (.exit 2))
 (.seq
 (.block 3
 (.seq
 (.reg [Za 44 42,Zk 45 181 40 42,Zb 46 9 45,Zc 11 44,Zc 12 46])
 (.seq
 (.reg [Za 47 10,Za 48 11,Zq 49 (.slice 181 (Zr 47) none (some (Zr 48)) none),Za 50 12,Zo 51 81 #[Zr 49,Zr 50] #[181,9]])
 (.cond (Zr 51)
 (.seq
 (.reg [Zf 6 10]) .ret) .skip))))
 (.reg [Zm 52 .add 3 42 1,Za 42 52]))))
def c80_1:ACode:=(.seq
 (.seq
 (.reg [Zd 54 78 5 1,Zb 55 35 54,Zo 56 118 #[Zr 55] #[35],Za 53 56,Zh 57 53 0,Zh 58 53 1,Zc 13 57,Zc 14 58])
 (.block 4
 (.seq
 (.reg [Za 60 13,Zm 61 .gtr 3 60 1000,Zc 59 61])
 (.cond (Zr 59)
 (.seq
 (.reg [Zf 6 7]) .ret)
 (.seq
 (.reg [Za 63 14,Zm 64 .gtr 3 63 100,Zc 62 64])
 (.cond (Zr 62)
 (.seq
 (.reg [Zf 6 6]) .ret) .skip))))))
 (.seq
 (.reg [Zq 15 (.assign (.const (.pointer none)))])
 (.seq
 (.dreg
 (.tk 0 (Zb 65 44 3)
 (.tk 1 (Zd 66 78 5 1)
 (.tk 2 (Zb 67 35 66)
 (.tk 3 (Za 68 15)
 (.tk 4 (Za 69 10)
 (.one [0,1,2,5,6,7] (Zo 70 120 #[Zr 68,Zr 69] #[220,181]) .fin)))))) [Zo 71 119 #[Zr 65,Zr 67,Zr 70] #[44,35,220],Zc 6 71]) .ret)))
def c80_2:ACode:=(.seq
 (.reg [Zd 37 78 5 0,Zb 38 72 37,Zo 39 117 #[Zr 38] #[72],Zc 10 39])
 (.seqL
 (.seq
 (.reg [Za 40 10,Ze 41 40 181,Zq 42 (.move (.const (.int .i64 0)))])
 (.block 2 (.loop b80_2))) c80_1))
def c80:ACode:=(.seq
 (.reg [Zj 3 44 0,Zj 4 81 1,Zj 5 78 2,Zf 6 0])
 (.seq
 (.seq
 (.reg [Zd 16 78 5 0,Zb 17 72 16,Ze 18 17 72,Zd 19 81 4 1,Zb 20 3 19,Zn 21 .neq 3 18 20])
 (.cond (Zr 21)
 (.seq
 (.reg [Zf 6 5]) .ret) .skip))
 (.seqL
 (.seq
 (.reg [Zd 22 78 5 0,Zb 23 72 22,Ze 24 23 72,Zq 25 (.move (.const (.int .i64 0)))])
 (.block 0 (.loop b80_1))) c80_2)))
theorem fd80:FnD Tryz.prog 80 72 [(.tmp 6)] c80:=⟨⟨Tryz.f80,Tryz.f80.body.getD .skip,Tryz.func80,by kernel_rfl,by kernel_rfl,by kernel_rfl,by kernel_rfl⟩⟩
def c81:ACode:=(.seq
 (.reg [Zq 4 (.assign (.const (.bool false)))])
 (.seq
 (.reg [Za 5 0,Za 6 1,Zo 7 121 #[Zr 5,Zr 6] #[181,9],Zm 8 .geq 3 7 0,Zc 4 8]) .ret))
theorem fd81:FnD Tryz.prog 81 9 [(.tmp 4)] c81:=⟨⟨Tryz.f81,Tryz.f81.body.getD .skip,Tryz.func81,by kernel_rfl,by kernel_rfl,by kernel_rfl,by kernel_rfl⟩⟩
def c82:ACode:=(.seq
 (.block 0
 (.seq
 (.reg [Za 5 1,Zo 6 122 #[Zr 5] #[132],Zm 7 .gtr 3 6 5000,Zc 4 7])
 (.cond (Zr 4)
 (.reg [Zq 8 (.build 89 #[(0,(.const (.int .i64 7)))]),Zq 9 (.makeInterface 89 (Zr 8)),⟨none,(.panic (Zr 9)),none⟩])
 (.seq
 (.dreg
 (.tk 0 (Za 11 0)
 (.tk 1 (Zq 12 (.nilCheck (Zr 11)))
 (.tk 2 (Zd 13 93 12 2)
 (.tk 3 (Zb 14 3 13)
 (.tk 4 (Za 15 0)
 (.tk 5 (Zq 16 (.nilCheck (Zr 15)))
 (.tk 6 (Zd 17 93 16 1)
 (.tk 7 (Zb 18 3 17) .fin)))))))) [Zn 19 .eql 3 14 18,Zc 10 19])
 (.cond (Zr 10)
 (.reg [Zq 20 (.build 89 #[(0,(.const (.int .i64 8)))]),Zq 21 (.makeInterface 89 (Zr 20)),⟨none,(.panic (Zr 21)),none⟩]) .skip)))))
 (.seq
 (.reg [Za 22 0,Zq 23 (.nilCheck (Zr 22)),Zd 24 93 23 2,Zb 25 3 24,Zm 26 .add 3 25 1,Zq 27 (.nilCheck (Zr 22)),Zd 28 93 27 2,Zg 3 28 26])
 (.seq
 (.reg [Za 29 0,Zq 30 (.nilCheck (Zr 29)),Zd 31 93 30 3,Zb 32 3 31,Zm 33 .geq 3 32 2000])
 (.cond (Zr 33)
 (.reg [Zq 34 (.build 89 #[(0,(.const (.int .i64 6)))]),Zq 35 (.makeInterface 89 (Zr 34)),⟨none,(.panic (Zr 35)),none⟩]) .skip))))
theorem fd82:FnD Tryz.prog 82 36 [] c82:=⟨⟨Tryz.f82,Tryz.f82.body.getD .skip,Tryz.func82,by kernel_rfl,by kernel_rfl,by kernel_rfl,by kernel_rfl⟩⟩
def b83_1:ACode:=(.seq
 (.reg [Zn 49 .lss 3 48 47])
 (.seq
 (.cond (Zr 49) .skip (.exit 0))
 (.seq
 (.block 1
 (.seq
 (.reg [Za 50 48,Zk 51 72 46 48,Zb 52 74 51,Zi 11 74,Zc 10 50,Zg 74 11 52])
 (.seq
 (.dreg
 (.tk 0 (Zb 54 74 11)
 (.tk 1 (Zd 55 142 8 1)
 (.tk 2 (Zb 56 132 55)
 (.tk 3 (Za 57 10)
 (.tk 4 (Zk 58 132 56 57)
 (.tk 5 (Zb 59 95 58)
 (.tk 6 (Za 60 2)
 (.one [7,8,9,10,11,12] (Zo 61 83 #[Zr 54,Zr 59,Zr 60] #[74,95,131])
 (.tk 8 (Za 53 61)
 (.tk 9 (Zh 62 53 0)
 (.tk 10 (Zh 63 53 1)
 (.tk 11 (Zc 2 62) .fin)))))))))))) [Zc 9 63])
 (.seq
 (.reg [Za 64 9,Zq 65 (.unOp .not 4 (Zr 64))])
 (.cond (Zr 65)
 (.seq
 (.reg [Za 66 2,Zc 6 66,Zq 7 (.assign (.const (.bool false)))]) .ret) .skip)))))
 (.reg [Zm 67 .add 3 48 1,Za 48 67]))))
def c83_1:ACode:=(.seq
 (.reg [Za 68 2,Zc 6 68,Zq 7 (.assign (.const (.bool true)))]) .ret)
def c83:ACode:=(.seq
 (.reg [Zj 3 74 0,Zq 6 (.assign (.const (.pointer none))),Zq 7 (.assign (.const (.bool false)))])
 (.seq
 (.seq
 (.reg [Zd 12 74 3 0,Zb 13 4 12,Zq 14 (.unOp .not 4 (Zr 13))])
 (.cond (Zr 14)
 (.seq
 (.reg [Zd 15 74 3 1,Zb 16 9 15,Za 17 1,Za 18 2,Zq 19 (.build 185 #[(0,(Zr 16)),(1,(Zr 17)),(2,(Zr 18))]),Zj 20 185 19,Zc 6 20,Zq 7 (.assign (.const (.bool true)))]) .ret) .skip))
 (.seq
 (.reg [Za 22 1,Zq 23 (.typeAssert (Zr 22) 95 142 true),Za 21 23,Zh 24 21 0,Zh 25 21 1,Zi 8 142,Zg 142 8 24,Zc 9 25])
 (.seq
 (.seq
 (.reg [Za 26 9,Zq 27 (.unOp .not 4 (Zr 26)),Za 28 27,Zp 29 (.fieldAddr 142 (Zr 8) 0) 28 false,Zp 30 (.load 9 (Zr 29)) 28 false,Zp 31 (.fieldAddr 74 (Zr 3) 1) 28 false,Zp 32 (.load 9 (Zr 31)) 28 false,Zp 33 (.binOp .neq 9 (Zr 30) (Zr 32) 9) 28 false,Zq 34 (.pick (Zr 28) (.const (.bool true)) (Zr 33)),Za 35 34,Zp 36 (.fieldAddr 142 (Zr 8) 1) 35 false,Zp 37 (.load 132 (Zr 36)) 35 false,Zp 38 (.call { callee:=(.builtin .len),args:=#[Zr 37],argTypes:=#[132] }) 35 false,Zp 39 (.fieldAddr 74 (Zr 3) 2) 35 false,Zp 40 (.load 72 (Zr 39)) 35 false,Zp 41 (.call { callee:=(.builtin .len),args:=#[Zr 40],argTypes:=#[72] }) 35 false,Zp 42 (.binOp .neq 3 (Zr 38) (Zr 41) 3) 35 false,Zq 43 (.pick (Zr 35) (.const (.bool true)) (Zr 42))])
 (.cond (Zr 43)
 (.seq
 (.reg [Za 44 2,Zc 6 44,Zq 7 (.assign (.const (.bool false)))]) .ret) .skip))
 (.seqL
 (.seq
 (.reg [Zd 45 74 3 2,Zb 46 72 45,Ze 47 46 72,Zq 48 (.move (.const (.int .i64 0)))])
 (.block 0 (.loop b83_1))) c83_1)))))
theorem fd83:FnD Tryz.prog 83 69 [(.tmp 6),(.tmp 7)] c83:=⟨⟨Tryz.f83,Tryz.f83.body.getD .skip,Tryz.func83,by kernel_rfl,by kernel_rfl,by kernel_rfl,by kernel_rfl⟩⟩
def c84:ACode:=(.seq
 (.reg [Zj 3 91 0,Zj 4 35 1,Zq 6 (.assign (.const .nilIface))])
 (.seq
 (.reg [Zb 7 91 3,Zq 8 (.nilCheck (Zr 7)),Zd 9 93 8 3,Zb 10 3 9,Zm 11 .add 3 10 1,Zq 12 (.nilCheck (Zr 7)),Zd 13 93 12 3,Zg 3 13 11])
 (.seq
 (.reg [Zq 14 (.makeFunc (.func 123) #[] #[Zr 3]),⟨none,(.defer { callee:=(.value (Zr 14)),args:=#[],argTypes:=#[] }),none⟩])
 (.seq
 (.reg [Zb 15 91 3,Zb 16 35 4,Za 17 2,Zo 18 26 #[Zr 15,Zr 16,Zr 17] #[91,35,131],Zc 6 18]) .ret))))
theorem fd84:FnD Tryz.prog 84 19 [(.tmp 6)] c84:=⟨⟨Tryz.f84,Tryz.f84.body.getD .skip,Tryz.func84,by kernel_rfl,by kernel_rfl,by kernel_rfl,by kernel_rfl⟩⟩
def c85:ACode:=(.seq
 (.reg [Zq 2 (.assign (.const (.slice none 0 0)))])
 (.seq
 (.seq
 (.reg [Za 3 0,Zq 4 (.binOp .eql 132 (Zr 3) (.const (.slice none 0 0)) 132)])
 (.cond (Zr 4)
 (.seq
 (.reg [Zq 2 (.assign (.const (.slice none 0 0)))]) .ret) .skip))
 (.seq
 (.reg [Zq 5 (.buildSlice 132 0 #[]),Za 6 0,Zl 7 5 6 132,Zc 2 7]) .ret)))
theorem fd85:FnD Tryz.prog 85 8 [(.tmp 2)] c85:=⟨⟨Tryz.f85,Tryz.f85.body.getD .skip,Tryz.func85,by kernel_rfl,by kernel_rfl,by kernel_rfl,by kernel_rfl⟩⟩
def b86_1:ACode:=(.seq
 (.seq
 (.reg [Za 7 3,Za 8 0,Ze 9 8 22,Zn 10 .lss 3 7 9])
 (.cond (Zr 10) .skip (.exit 0)))
 (.seq
 (.block 1
 (.block 2
 (.seq
 (.reg [Za 14 0,Za 15 3,Zk 16 22 14 15,Zd 17 102 16 0,Zb 18 9 17,Zo 19 87 #[Zr 18] #[9],Zq 20 (.unOp .not 4 (Zr 19)),Zc 13 20])
 (.cond (Zr 13)
 (.seq
 (.reg [Zf 2 411]) .ret)
 (.seq
 (.reg [Za 22 0,Za 23 3,Zk 24 22 22 23,Zd 25 102 24 1,Zb 26 3 25,Zm 27 .lss 3 26 0,Za 28 27,Zp 29 (.move (Zr 0)) 28 false,Zp 30 (.move (Zr 3)) 28 false,Zp 31 (.indexAddr 22 (Zr 29) (Zr 30)) 28 false,Zp 32 (.fieldAddr 102 (Zr 31) 1) 28 false,Zp 33 (.load 3 (Zr 32)) 28 false,Zp 34 (.binOp .gtr 3 (Zr 33) (.const (.int .i64 10)) 3) 28 false,Zq 35 (.pick (Zr 28) (.const (.bool true)) (Zr 34)),Zc 21 35])
 (.cond (Zr 21)
 (.seq
 (.reg [Zf 2 4]) .ret)
 (.seq
 (.dreg
 (.tk 0 (Za 37 0)
 (.tk 1 (Za 38 3)
 (.tk 2 (Zq 39 (.slice 22 (Zr 37) none (some (Zr 38)) none))
 (.tk 3 (Za 40 0)
 (.tk 4 (Za 41 3)
 (.tk 5 (Zk 42 22 40 41)
 (.tk 6 (Zd 43 102 42 0)
 (.tk 7 (Zb 44 9 43) .fin)))))))) [Zo 45 88 #[Zr 39,Zr 44] #[22,9],Zm 46 .geq 3 45 0,Zc 36 46])
 (.cond (Zr 36)
 (.seq
 (.reg [Zf 2 10]) .ret) .skip))))))))
 (.reg [Za 11 3,Zm 12 .add 3 11 1,Zc 3 12])))
def c86_1:ACode:=(.seq
 (.reg [Zf 2 0]) .ret)
def c86:ACode:=(.seq
 (.reg [Zf 2 0])
 (.seq
 (.seq
 (.reg [Za 4 0,Ze 5 4 22,Zm 6 .gtr 3 5 100])
 (.cond (Zr 6)
 (.seq
 (.reg [Zf 2 5]) .ret) .skip))
 (.seqL
 (.seq
 (.reg [Zf 3 0])
 (.block 0 (.loop b86_1))) c86_1)))
theorem fd86:FnD Tryz.prog 86 47 [(.tmp 2)] c86:=⟨⟨Tryz.f86,Tryz.f86.body.getD .skip,Tryz.func86,by kernel_rfl,by kernel_rfl,by kernel_rfl,by kernel_rfl⟩⟩
def b87_1:ACode:=(.seq
 (.seq
 (.reg [Za 15 3,Za 16 0,Ze 17 16 9,Zn 18 .lss 3 15 17])
 (.cond (Zr 18) .skip (.exit 0)))
 (.seq
 (.block 1
 (.seq
 (.reg [Za 21 0,Za 22 3,Zq 23 (.index 9 (Zr 21) (Zr 22)),Zc 4 23])
 (.seq
 (.reg [Za 24 4,Zq 25 (.binOp .geq 5 (Zr 24) (.const (.int .u8 97)) 5),Za 26 25,Zp 27 (.move (Zr 4)) 26 true,Zp 28 (.binOp .leq 5 (Zr 27) (.const (.int .u8 122)) 5) 26 true,Zq 29 (.pick (Zr 26) (Zr 28) (.const (.bool false))),Za 30 29,Zp 31 (.move (Zr 4)) 30 false,Zp 32 (.binOp .geq 5 (Zr 31) (.const (.int .u8 65)) 5) 30 false,Zp 33 (.move (Zr 32)) 30 false,Zp 34 (.move (Zr 4)) 33 true,Zp 35 (.binOp .leq 5 (Zr 34) (.const (.int .u8 90)) 5) 33 true,Zp 36 (.pick (Zr 33) (Zr 35) (.const (.bool false))) 30 false,Zq 37 (.pick (Zr 30) (.const (.bool true)) (Zr 36)),Za 38 37,Zp 39 (.move (Zr 4)) 38 false,Zp 40 (.binOp .eql 5 (Zr 39) (.const (.int .u8 95)) 5) 38 false,Zq 41 (.pick (Zr 38) (.const (.bool true)) (Zr 40)),Zc 5 41])
 (.seq
 (.reg [Za 42 4,Zq 43 (.binOp .geq 5 (Zr 42) (.const (.int .u8 48)) 5),Za 44 43,Zp 45 (.move (Zr 4)) 44 true,Zp 46 (.binOp .leq 5 (Zr 45) (.const (.int .u8 57)) 5) 44 true,Zq 47 (.pick (Zr 44) (Zr 46) (.const (.bool false))),Za 48 47,Zp 49 (.move (Zr 4)) 48 false,Zp 50 (.binOp .eql 5 (Zr 49) (.const (.int .u8 39)) 5) 48 false,Zq 51 (.pick (Zr 48) (.const (.bool true)) (Zr 50)),Za 52 51,Zp 53 (.move (Zr 4)) 52 false,Zp 54 (.binOp .eql 5 (Zr 53) (.const (.int .u8 46)) 5) 52 false,Zq 55 (.pick (Zr 52) (.const (.bool true)) (Zr 54)),Zc 6 55])
 (.seq
 (.reg [Za 56 5,Zq 57 (.unOp .not 4 (Zr 56)),Za 58 57,Zp 59 (.move (Zr 3)) 58 true,Zp 60 (.binOp .eql 3 (Zr 59) (.const (.int .i64 0)) 3) 58 true,Zp 61 (.move (Zr 60)) 58 true,Zp 62 (.move (Zr 6)) 61 false,Zp 63 (.unOp .not 4 (Zr 62)) 61 false,Zp 64 (.pick (Zr 61) (.const (.bool true)) (Zr 63)) 58 true,Zq 65 (.pick (Zr 58) (Zr 64) (.const (.bool false)))])
 (.cond (Zr 65)
 (.seq
 (.reg [Zq 2 (.assign (.const (.bool false)))]) .ret) .skip))))))
 (.reg [Za 19 3,Zm 20 .add 3 19 1,Zc 3 20])))
def c87_1:ACode:=(.seq
 (.reg [Zq 2 (.assign (.const (.bool true)))]) .ret)
def c87:ACode:=(.seq
 (.reg [Zq 2 (.assign (.const (.bool false)))])
 (.seq
 (.seq
 (.reg [Za 7 0,Ze 8 7 9,Zm 9 .lss 3 8 1,Za 10 9,Zp 11 (.move (Zr 0)) 10 false,Zp 12 (.call { callee:=(.builtin .len),args:=#[Zr 11],argTypes:=#[9] }) 10 false,Zp 13 (.binOp .gtr 3 (Zr 12) (.const (.int .i64 40)) 3) 10 false,Zq 14 (.pick (Zr 10) (.const (.bool true)) (Zr 13))])
 (.cond (Zr 14)
 (.seq
 (.reg [Zq 2 (.assign (.const (.bool false)))]) .ret) .skip))
 (.seqL
 (.seq
 (.reg [Zf 3 0])
 (.block 0 (.loop b87_1))) c87_1)))
theorem fd87:FnD Tryz.prog 87 66 [(.tmp 2)] c87:=⟨⟨Tryz.f87,Tryz.f87.body.getD .skip,Tryz.func87,by kernel_rfl,by kernel_rfl,by kernel_rfl,by kernel_rfl⟩⟩
def b88_1:ACode:=(.seq
 (.seq
 (.reg [Za 6 5,Za 7 0,Ze 8 7 22,Zn 9 .lss 3 6 8])
 (.cond (Zr 9) .skip (.exit 0)))
 (.seq
 (.block 1
 (.seq
 (.reg [Za 12 0,Za 13 5,Zk 14 22 12 13,Zd 15 102 14 0,Zb 16 9 15,Za 17 1,Zn 18 .eql 9 16 17])
 (.cond (Zr 18)
 (.seq
 (.reg [Za 19 5,Zc 4 19]) .ret) .skip)))
 (.reg [Za 10 5,Zm 11 .add 3 10 1,Zc 5 11])))
def c88_1:ACode:=(.seq
 (.reg [Zq 4 (.assign (.const (.int .i64 (-1))))]) .ret)
def c88:ACode:=(.seq
 (.reg [Zf 4 0])
 (.seqL
 (.seq
 (.reg [Zf 5 0])
 (.block 0 (.loop b88_1))) c88_1))
theorem fd88:FnD Tryz.prog 88 20 [(.tmp 4)] c88:=⟨⟨Tryz.f88,Tryz.f88.body.getD .skip,Tryz.func88,by kernel_rfl,by kernel_rfl,by kernel_rfl,by kernel_rfl⟩⟩
def b89_1:ACode:=(.seq
 (.seq
 (.reg [Za 6 5,Za 7 0,Ze 8 7 23,Zn 9 .lss 3 6 8])
 (.cond (Zr 9) .skip (.exit 0)))
 (.seq
 (.block 1
 (.seq
 (.reg [Za 12 0,Za 13 5,Zk 14 23 12 13,Zd 15 67 14 0,Zb 16 9 15,Za 17 1,Zn 18 .eql 9 16 17])
 (.cond (Zr 18)
 (.seq
 (.reg [Za 19 5,Zc 4 19]) .ret) .skip)))
 (.reg [Za 10 5,Zm 11 .add 3 10 1,Zc 5 11])))
def c89_1:ACode:=(.seq
 (.reg [Zq 4 (.assign (.const (.int .i64 (-1))))]) .ret)
def c89:ACode:=(.seq
 (.reg [Zf 4 0])
 (.seqL
 (.seq
 (.reg [Zf 5 0])
 (.block 0 (.loop b89_1))) c89_1))
theorem fd89:FnD Tryz.prog 89 20 [(.tmp 4)] c89:=⟨⟨Tryz.f89,Tryz.f89.body.getD .skip,Tryz.func89,by kernel_rfl,by kernel_rfl,by kernel_rfl,by kernel_rfl⟩⟩
def b90_1:ACode:=(.seq
 (.seq
 (.reg [Za 22 8,Zd 23 124 5 0,Zb 24 122 23,Ze 25 24 122,Zn 26 .lss 3 22 25])
 (.cond (Zr 26) .skip (.exit 0)))
 (.seq
 (.block 1
 (.seq
 (.reg [Zd 30 124 5 0,Zb 31 122 30,Za 32 8,Zk 33 122 31 32,Zb 34 126 33,Zo 35 124 #[Zr 34] #[126],Za 29 35,Zh 36 29 0,Zh 37 29 1,Zc 9 36,Zc 10 37])
 (.seq
 (.seq
 (.reg [Za 38 9,Zm 39 .gtr 3 38 100])
 (.cond (Zr 39)
 (.seq
 (.reg [Zf 6 7]) .ret) .skip))
 (.seq
 (.seq
 (.reg [Za 40 10,Zm 41 .gtr 3 40 50])
 (.cond (Zr 41)
 (.seq
 (.reg [Zf 6 6]) .ret) .skip))
 (.seq
 (.seq
 (.dreg
 (.tk 0 (Zd 42 25 3 0)
 (.tk 1 (Zb 43 22 42)
 (.tk 2 (Zd 44 124 5 0)
 (.tk 3 (Zb 45 122 44)
 (.tk 4 (Za 46 8)
 (.tk 5 (Zk 47 122 45 46)
 (.tk 6 (Zb 48 126 47) .fin))))))) [Zo 49 125 #[Zr 43,Zr 48] #[22,126],Zc 11 49])
 (.seq
 (.reg [Za 50 11,Zm 51 .neq 38 50 0])
 (.cond (Zr 51)
 (.seq
 (.reg [Za 52 11,Zc 6 52]) .ret) .skip)))
 (.reg [Zd 53 124 5 0,Zb 54 122 53,Za 55 8,Zk 56 122 54 55,Zb 57 126 56,Za 58 7,Zo 59 126 #[Zr 57,Zr 58] #[126,181],Zc 7 59]))))))
 (.reg [Za 27 8,Zm 28 .add 3 27 1,Zc 8 28])))
def b90_2:ACode:=(.seq
 (.seq
 (.reg [Za 60 12,Za 61 7,Ze 62 61 181,Zn 63 .lss 3 60 62])
 (.cond (Zr 63) .skip (.exit 2)))
 (.seq
 (.block 3
 (.seq
 (.dreg
 (.tk 0 (Za 66 7)
 (.tk 1 (Za 67 12)
 (.tk 2 (Zq 68 (.slice 181 (Zr 66) none (some (Zr 67)) none))
 (.tk 3 (Za 69 7)
 (.tk 4 (Za 70 12)
 (.tk 5 (Zk 71 181 69 70)
 (.tk 6 (Zb 72 9 71) .fin))))))) [Zo 73 127 #[Zr 68,Zr 72] #[181,9]])
 (.cond (Zr 73)
 (.seq
 (.reg [Zf 6 10]) .ret) .skip)))
 (.reg [Za 64 12,Zm 65 .add 3 64 1,Zc 12 65])))
def c90_1:ACode:=(.seq
 (.reg [Zd 75 124 5 1,Zb 76 28 75,Zo 77 128 #[Zr 76] #[28],Za 74 77,Zh 78 74 0,Zh 79 74 1,Zc 13 78,Zc 14 79])
 (.seq
 (.seq
 (.reg [Za 80 13,Zm 81 .gtr 3 80 1000])
 (.cond (Zr 81)
 (.seq
 (.reg [Zf 6 7]) .ret) .skip))
 (.seq
 (.seq
 (.reg [Za 82 14,Zm 83 .gtr 3 82 100])
 (.cond (Zr 83)
 (.seq
 (.reg [Zf 6 6]) .ret) .skip))
 (.seq
 (.reg [Zb 84 25 3,Zd 85 124 5 1,Zb 86 28 85,Za 87 7,Zo 88 129 #[Zr 84,Zr 86,Zr 87] #[25,28,181],Zc 6 88]) .ret))))
def c90_2:ACode:=(.seqL
 (.seq
 (.reg [Zf 12 0])
 (.block 2 (.loop b90_2))) c90_1)
def c90:ACode:=(.seq
 (.reg [Zj 3 25 0,Zj 4 67 1,Zj 5 124 2,Zf 6 0])
 (.seq
 (.seq
 (.reg [Zd 15 124 5 0,Zb 16 122 15,Ze 17 16 122,Zd 18 67 4 1,Zb 19 3 18,Zn 20 .neq 3 17 19])
 (.cond (Zr 20)
 (.seq
 (.reg [Zf 6 5]) .ret) .skip))
 (.seq
 (.reg [Zq 21 (.buildSlice 181 0 #[]),Zc 7 21])
 (.seqL
 (.seq
 (.reg [Zf 8 0])
 (.block 0 (.loop b90_1))) c90_2))))
theorem fd90:FnD Tryz.prog 90 89 [(.tmp 6)] c90:=⟨⟨Tryz.f90,Tryz.f90.body.getD .skip,Tryz.func90,by kernel_rfl,by kernel_rfl,by kernel_rfl,by kernel_rfl⟩⟩
def b91_1:ACode:=(.seq
 (.seq
 (.reg [Za 6 5,Zd 7 25 2 0,Zb 8 22 7,Ze 9 8 22,Zn 10 .lss 3 6 9])
 (.cond (Zr 10) .skip (.exit 0)))
 (.seq
 (.block 1
 (.seq
 (.reg [Zd 13 25 2 0,Zb 14 22 13,Za 15 5,Zk 16 22 14 15,Zd 17 102 16 0,Zb 18 9 17,Za 19 1,Zn 20 .eql 9 18 19])
 (.cond (Zr 20)
 (.seq
 (.reg [Za 21 5,Zc 4 21]) .ret) .skip)))
 (.reg [Za 11 5,Zm 12 .add 3 11 1,Zc 5 12])))
def c91_1:ACode:=(.seq
 (.reg [Zq 4 (.assign (.const (.int .i64 (-1))))]) .ret)
def c91:ACode:=(.seq
 (.reg [Zj 2 25 0,Zf 4 0])
 (.seqL
 (.seq
 (.reg [Zf 5 0])
 (.block 0 (.loop b91_1))) c91_1))
theorem fd91:FnD Tryz.prog 91 22 [(.tmp 4)] c91:=⟨⟨Tryz.f91,Tryz.f91.body.getD .skip,Tryz.func91,by kernel_rfl,by kernel_rfl,by kernel_rfl,by kernel_rfl⟩⟩
def b92_1:ACode:=(.seq
 (.seq
 (.reg [Za 6 5,Za 7 0,Ze 8 7 181,Zn 9 .lss 3 6 8])
 (.cond (Zr 9) .skip (.exit 0)))
 (.seq
 (.block 1
 (.seq
 (.reg [Za 12 0,Za 13 5,Zk 14 181 12 13,Zb 15 9 14,Za 16 1,Zn 17 .eql 9 15 16])
 (.cond (Zr 17)
 (.seq
 (.reg [Zq 4 (.assign (.const (.bool true)))]) .ret) .skip)))
 (.reg [Za 10 5,Zm 11 .add 3 10 1,Zc 5 11])))
def c92_1:ACode:=(.seq
 (.reg [Zq 4 (.assign (.const (.bool false)))]) .ret)
def c92:ACode:=(.seq
 (.reg [Zq 4 (.assign (.const (.bool false)))])
 (.seqL
 (.seq
 (.reg [Zf 5 0])
 (.block 0 (.loop b92_1))) c92_1))
theorem fd92:FnD Tryz.prog 92 18 [(.tmp 4)] c92:=⟨⟨Tryz.f92,Tryz.f92.body.getD .skip,Tryz.func92,by kernel_rfl,by kernel_rfl,by kernel_rfl,by kernel_rfl⟩⟩
def b93_1:ACode:=(.seq
 (.seq
 (.reg [Za 7 6,Za 8 1,Ze 9 8 26,Zn 10 .lss 3 7 9])
 (.cond (Zr 10) .skip (.exit 0)))
 (.seq
 (.block 1
 (.reg [Za 13 5,Za 14 1,Za 15 6,Zk 16 26 14 15,Zb 17 28 16,Zo 18 130 #[Zr 17] #[28],Zn 19 .add 3 13 18,Zc 5 19]))
 (.reg [Za 11 6,Zm 12 .add 3 11 1,Zc 6 12])))
def c93_1:ACode:=(.seq
 (.block 2
 (.seq
 (.reg [Zd 21 106 2 4,Zb 22 38 21,Zm 23 .neq 38 22 0,Zc 20 23])
 (.cond (Zr 20)
 (.seq
 (.reg [Zb 24 106 2,Zg 106 4 24]) .ret)
 (.seq
 (.reg [Za 26 5,Zm 27 .gtr 3 26 5000,Zc 25 27])
 (.cond (Zr 25)
 (.seq
 (.reg [Zd 28 106 2 4,⟨none,(.store 38 (Zr 28) (.const (.int .i64 7))),none⟩])
 (.seq
 (.reg [Zb 29 106 2,Zg 106 4 29]) .ret))
 (.seq
 (.reg [Zd 31 106 2 1,Zb 32 3 31,Zd 33 106 2 2,Zb 34 3 33,Zn 35 .eql 3 32 34,Zc 30 35])
 (.cond (Zr 30)
 (.seq
 (.reg [Zd 36 106 2 4,⟨none,(.store 38 (Zr 36) (.const (.int .i64 8))),none⟩])
 (.seq
 (.reg [Zb 37 106 2,Zg 106 4 37]) .ret)) .skip)))))))
 (.seq
 (.reg [Zd 38 106 2 1,Zb 39 3 38,Zm 40 .add 3 39 1,Zd 41 106 2 1,Zg 3 41 40])
 (.seq
 (.seq
 (.reg [Zd 42 106 2 3,Zb 43 3 42,Zm 44 .geq 3 43 2000])
 (.cond (Zr 44)
 (.reg [Zd 45 106 2 4,⟨none,(.store 38 (Zr 45) (.const (.int .i64 6))),none⟩]) .skip))
 (.seq
 (.reg [Zb 46 106 2,Zg 106 4 46]) .ret))))
def c93:ACode:=(.seq
 (.reg [Zj 2 106 0,Zi 4 106])
 (.seq
 (.reg [Zf 5 0])
 (.seqL
 (.seq
 (.reg [Zf 6 0])
 (.block 0 (.loop b93_1))) c93_1)))
theorem fd93:FnD Tryz.prog 93 47 [(.cell 4 106)] c93:=⟨⟨Tryz.f93,Tryz.f93.body.getD .skip,Tryz.func93,by kernel_rfl,by kernel_rfl,by kernel_rfl,by kernel_rfl⟩⟩
def b94_1:ACode:=(.seq
 (.seq
 (.reg [Za 18 9,Zd 19 67 2 2,Zb 20 65 19,Za 21 6,Zk 22 65 20 21,Zd 23 124 22 0,Zb 24 122 23,Ze 25 24 122,Zn 26 .lss 3 18 25,Za 27 26,Zp 28 (.move (Zr 8)) 27 true,Zq 29 (.pick (Zr 27) (Zr 28) (.const (.bool false)))])
 (.cond (Zr 29) .skip (.exit 2)))
 (.seq
 (.block 3
 (.dreg
 (.tk 0 (Zd 33 67 2 2)
 (.tk 1 (Zb 34 65 33)
 (.tk 2 (Za 35 6)
 (.tk 3 (Zk 36 65 34 35)
 (.tk 4 (Zd 37 124 36 0)
 (.tk 5 (Zb 38 122 37)
 (.tk 6 (Za 39 9)
 (.tk 7 (Zk 40 122 38 39)
 (.tk 8 (Zb 41 126 40)
 (.tk 9 (Za 42 1)
 (.tk 10 (Za 43 9)
 (.tk 11 (Zk 44 26 42 43)
 (.tk 12 (Zb 45 28 44)
 (.tk 13 (Za 46 7)
 (.one [14,15,16,17,18,19] (Zo 47 131 #[Zr 41,Zr 45,Zr 46] #[126,28,175])
 (.tk 15 (Za 32 47)
 (.tk 16 (Zh 48 32 0)
 (.tk 17 (Zh 49 32 1)
 (.tk 18 (Zc 7 48) .fin))))))))))))))))))) [Zc 8 49]))
 (.reg [Za 30 9,Zm 31 .add 3 30 1,Zc 9 31])))
def Zpz:ACode:=(.seq
 (.reg [Za 50 8])
 (.cond (Zr 50)
 (.seq
 (.reg [Za 51 6,Za 52 7,Zc 4 51,Zc 5 52]) .ret) .skip))
def c94_2:ACode:=(.reg [Za 15 6,Zm 16 .add 3 15 1,Zc 6 16])
def b94_2:ACode:=(.seq
 (.seq
 (.reg [Za 10 6,Zd 11 67 2 2,Zb 12 65 11,Ze 13 12 65,Zn 14 .lss 3 10 13])
 (.cond (Zr 14) .skip (.exit 0)))
 (.seqL
 (.block 1
 (.seq
 (.reg [Zq 17 (.buildSlice 175 0 #[]),Zc 7 17])
 (.seq
 (.reg [Zq 8 (.assign (.const (.bool true)))])
 (.seqL
 (.seq
 (.reg [Zf 9 0])
 (.block 2 (.loop b94_1))) Zpz)))) c94_2))
def c94_3:ACode:=(.seq
 (.reg [Zq 4 (.assign (.const (.int .i64 (-1)))),Zq 5 (.assign (.const (.slice none 0 0)))]) .ret)
def c94:ACode:=(.seq
 (.reg [Zj 2 67 0,Zf 4 0,Zq 5 (.assign (.const (.slice none 0 0)))])
 (.seqL
 (.seq
 (.reg [Zf 6 0])
 (.block 0 (.loop b94_2))) c94_3))
theorem fd94:FnD Tryz.prog 94 53 [(.tmp 4),(.tmp 5)] c94:=⟨⟨Tryz.f94,Tryz.f94.body.getD .skip,Tryz.func94,by kernel_rfl,by kernel_rfl,by kernel_rfl,by kernel_rfl⟩⟩
def c95:ACode:=(.seq
 (.reg [Zj 2 106 0,Zi 4 106,Zi 5 28])
 (.seq
 (.seq
 (.reg [Zd 6 106 2 4,Zb 7 38 6,Zm 8 .eql 38 7 0])
 (.cond (Zr 8)
 (.reg [Za 9 1,Zd 10 106 2 4,Zg 38 10 9]) .skip))
 (.seq
 (.reg [Zb 11 106 2,Zq 12 (.build 28 #[]),Zg 106 4 11,Zg 28 5 12]) .ret)))
theorem fd95:FnD Tryz.prog 95 13 [(.cell 4 106),(.cell 5 28)] c95:=⟨⟨Tryz.f95,Tryz.f95.body.getD .skip,Tryz.func95,by kernel_rfl,by kernel_rfl,by kernel_rfl,by kernel_rfl⟩⟩
def c96:ACode:=(.seq
 (.reg [Zj 2 106 0,Zj 3 28 1,Zi 4 106,Zi 5 28])
 (.seq
 (.reg [Zd 7 106 2 3,Zb 8 3 7,Zm 9 .add 3 8 1,Zd 10 106 2 3,Zg 3 10 9])
 (.seq
 (.reg [Zb 12 106 2,Zb 13 28 3,Zo 14 31 #[Zr 12,Zr 13] #[106,28],Za 11 14,Zh 15 11 0,Zh 16 11 1,Zi 6 28,Zg 106 2 15,Zg 28 6 16])
 (.seq
 (.reg [Zd 17 106 2 3,Zb 18 3 17,Zm 19 .sub 3 18 1,Zd 20 106 2 3,Zg 3 20 19])
 (.seq
 (.dreg
 (.tk 0 (Zb 21 106 2)
 (.tk 1 (Zb 22 28 6)
 (.one [1,2,3] (Zg 106 4 21) .fin))) [Zg 28 5 22]) .ret)))))
theorem fd96:FnD Tryz.prog 96 23 [(.cell 4 106),(.cell 5 28)] c96:=⟨⟨Tryz.f96,Tryz.f96.body.getD .skip,Tryz.func96,by kernel_rfl,by kernel_rfl,by kernel_rfl,by kernel_rfl⟩⟩
def b97_1:ACode:=(.seq
 (.seq
 (.reg [Za 25 7,Zm 26 .geq 3 25 0])
 (.cond (Zr 26) .skip (.exit 0)))
 (.seq
 (.block 1
 (.seq
 (.seq
 (.dreg
 (.tk 0 (Za 29 1)
 (.tk 1 (Za 30 7)
 (.tk 2 (Zk 31 175 29 30)
 (.tk 3 (Zd 32 174 31 0)
 (.tk 4 (Zb 33 9 32)
 (.tk 5 (Zd 34 28 3 1)
 (.tk 6 (Zb 35 9 34) .fin))))))) [Zn 36 .eql 9 33 35,Za 37 36,Zp 38 (.move (Zr 2)) 37 true,Zq 39 (.pick (Zr 37) (Zr 38) (.const (.bool false)))])
 (.cond (Zr 39)
 (.seq
 (.reg [Za 40 1,Za 41 7,Zk 42 175 40 41,Zd 43 174 42 1,Zb 44 28 43,Zq 45 (.buildSlice 26 1 #[(0,(Zr 44))]),Zq 46 (.build 28 #[(0,(.const (.int .i64 9))),(2,(Zr 45))]),Zg 28 6 46]) .ret) .skip))
 (.seq
 (.dreg
 (.tk 0 (Za 47 1)
 (.tk 1 (Za 48 7)
 (.tk 2 (Zk 49 175 47 48)
 (.tk 3 (Zd 50 174 49 0)
 (.tk 4 (Zb 51 9 50)
 (.tk 5 (Zd 52 28 3 1)
 (.tk 6 (Zb 53 9 52) .fin))))))) [Zn 54 .eql 9 51 53])
 (.cond (Zr 54)
 (.seq
 (.reg [Za 55 1,Za 56 7,Zk 57 175 55 56,Zd 58 174 57 1,Zb 59 28 58,Zg 28 6 59]) .ret) .skip))))
 (.reg [Za 27 7,Zm 28 .sub 3 27 1,Zc 7 28])))
def b97_2:ACode:=(.seq
 (.seq
 (.reg [Za 64 9,Za 65 1,Ze 66 65 175,Zn 67 .lss 3 64 66])
 (.cond (Zr 67) .skip (.exit 2)))
 (.seq
 (.block 3
 (.seq
 (.dreg
 (.tk 0 (Za 70 1)
 (.tk 1 (Za 71 9)
 (.tk 2 (Zk 72 175 70 71)
 (.tk 3 (Zd 73 174 72 0)
 (.tk 4 (Zb 74 9 73)
 (.tk 5 (Zd 75 28 3 1)
 (.tk 6 (Zb 76 9 75) .fin))))))) [Zn 77 .neq 9 74 76])
 (.cond (Zr 77)
 (.reg [Za 78 8,Za 79 1,Za 80 9,Zk 81 175 79 80,Zb 82 174 81,Zq 83 (.buildSlice 175 1 #[(0,(Zr 82))]),Zl 84 78 83 175,Zc 8 84]) .skip)))
 (.reg [Za 68 9,Zm 69 .add 3 68 1,Zc 9 69])))
def c97_1:ACode:=(.reg [Za 85 8,Zc 1 85])
def b97_3:ACode:=(.seq
 (.seq
 (.reg [Za 91 11,Zd 92 28 3 2,Zb 93 26 92,Ze 94 93 26,Zn 95 .lss 3 91 94])
 (.cond (Zr 95) .skip (.exit 4)))
 (.seq
 (.block 5
 (.dreg
 (.tk 0 (Zd 98 28 10 2)
 (.tk 1 (Zb 99 26 98)
 (.tk 2 (Zd 100 28 3 2)
 (.tk 3 (Zb 101 26 100)
 (.tk 4 (Za 102 11)
 (.tk 5 (Zk 103 26 101 102)
 (.tk 6 (Zb 104 28 103)
 (.tk 7 (Za 105 1)
 (.tk 8 (Za 106 2)
 (.one [0,1,9,10,11,12,13] (Zo 107 97 #[Zr 104,Zr 105,Zr 106] #[28,175,4])
 (.tk 10 (Zq 108 (.buildSlice 26 1 #[(0,(Zr 107))])) .fin))))))))))) [Zl 109 99 108 26,Zd 110 28 10 2,Zg 26 110 109]))
 (.reg [Za 96 11,Zm 97 .add 3 96 1,Zc 11 97])))
def c97_2:ACode:=(.seq
 (.reg [Zb 111 28 10,Zg 28 6 111]) .ret)
def c97_3:ACode:=(.seq
 (.reg [Zd 86 28 3 0,Zb 87 3 86,Zd 88 28 3 1,Zb 89 9 88,Zq 90 (.build 28 #[(0,(Zr 87)),(1,(Zr 89))]),Zi 10 28,Zg 28 10 90])
 (.seqL
 (.seq
 (.reg [Zf 11 0])
 (.block 4 (.loop b97_3))) c97_2))
def ZpA:ACode:=(.seqL
 (.seq
 (.reg [Zd 60 28 3 0,Zb 61 3 60,Zm 62 .eql 3 61 5])
 (.cond (Zr 62)
 (.seq
 (.reg [Zq 63 (.buildSlice 175 0 #[]),Zc 8 63])
 (.seqL
 (.seq
 (.reg [Zf 9 0])
 (.block 2 (.loop b97_2))) c97_1)) .skip)) c97_3)
def c97:ACode:=(.seq
 (.reg [Zj 3 28 0,Zi 6 28])
 (.seq
 (.seq
 (.reg [Za 12 2,Za 13 12,Zp 14 (.fieldAddr 28 (Zr 3) 0) 13 true,Zp 15 (.load 3 (Zr 14)) 13 true,Zp 16 (.binOp .eql 3 (Zr 15) (.const (.int .i64 9)) 3) 13 true,Zq 17 (.pick (Zr 13) (Zr 16) (.const (.bool false)))])
 (.cond (Zr 17)
 (.seq
 (.reg [Zb 18 28 3,Zg 28 6 18]) .ret) .skip))
 (.seqL
 (.seq
 (.reg [Zd 19 28 3 0,Zb 20 3 19,Zm 21 .eql 3 20 1])
 (.cond (Zr 21)
 (.seq
 (.reg [Za 22 1,Ze 23 22 175,Zm 24 .sub 3 23 1,Zc 7 24])
 (.block 0 (.loop b97_1))) .skip)) ZpA)))
theorem fd97:FnD Tryz.prog 97 112 [(.cell 6 28)] c97:=⟨⟨Tryz.f97,Tryz.f97.body.getD .skip,Tryz.func97,by kernel_rfl,by kernel_rfl,by kernel_rfl,by kernel_rfl⟩⟩
def c108:ACode:=(.seq
 (.reg [Zq 2 (.assign (.const (.bool false)))])
 (.seq
 (.reg [Za 3 0,Zq 4 (.binOp .geq 5 (Zr 3) (.const (.int .u8 97)) 5),Za 5 4,Zp 6 (.move (Zr 0)) 5 true,Zp 7 (.binOp .leq 5 (Zr 6) (.const (.int .u8 122)) 5) 5 true,Zq 8 (.pick (Zr 5) (Zr 7) (.const (.bool false))),Za 9 8,Zp 10 (.move (Zr 0)) 9 false,Zp 11 (.binOp .geq 5 (Zr 10) (.const (.int .u8 65)) 5) 9 false,Zp 12 (.move (Zr 11)) 9 false,Zp 13 (.move (Zr 0)) 12 true,Zp 14 (.binOp .leq 5 (Zr 13) (.const (.int .u8 90)) 5) 12 true,Zp 15 (.pick (Zr 12) (Zr 14) (.const (.bool false))) 9 false,Zq 16 (.pick (Zr 9) (.const (.bool true)) (Zr 15)),Zc 2 16]) .ret))
theorem fd108:FnD Tryz.prog 108 17 [(.tmp 2)] c108:=⟨⟨Tryz.f108,Tryz.f108.body.getD .skip,Tryz.func108,by kernel_rfl,by kernel_rfl,by kernel_rfl,by kernel_rfl⟩⟩
def c109:ACode:=(.seq
 (.reg [Zq 4 (.assign (.const (.bool false)))])
 (.seq
 (.reg [Za 5 0,Za 6 1,Zo 7 135 #[Zr 5,Zr 6] #[213,211],Zm 8 .geq 3 7 0,Zc 4 8]) .ret))
theorem fd109:FnD Tryz.prog 109 9 [(.tmp 4)] c109:=⟨⟨Tryz.f109,Tryz.f109.body.getD .skip,Tryz.func109,by kernel_rfl,by kernel_rfl,by kernel_rfl,by kernel_rfl⟩⟩
def c110:ACode:=(.seq
 (.reg [Zq 2 (.assign (.const (.bool false)))])
 (.seq
 (.reg [Za 3 0,Zo 4 108 #[Zr 3] #[5],Zq 5 (.unOp .not 4 (Zr 4)),Za 6 5,Zp 7 (.move (Zr 0)) 6 true,Zp 8 (.call { callee:=(.value (.func 111)),args:=#[Zr 7],argTypes:=#[5] }) 6 true,Zp 9 (.unOp .not 4 (Zr 8)) 6 true,Zq 10 (.pick (Zr 6) (Zr 9) (.const (.bool false))),Za 11 10,Zp 12 (.move (Zr 0)) 11 true,Zp 13 (.binOp .neq 5 (Zr 12) (.const (.int .u8 95)) 5) 11 true,Zq 14 (.pick (Zr 11) (Zr 13) (.const (.bool false))),Za 15 14,Zp 16 (.move (Zr 0)) 15 true,Zp 17 (.binOp .neq 5 (Zr 16) (.const (.int .u8 39)) 5) 15 true,Zq 18 (.pick (Zr 15) (Zr 17) (.const (.bool false))),Za 19 18,Zp 20 (.move (Zr 0)) 19 true,Zp 21 (.binOp .neq 5 (Zr 20) (.const (.int .u8 46)) 5) 19 true,Zq 22 (.pick (Zr 19) (Zr 21) (.const (.bool false))),Zc 2 22]) .ret))
theorem fd110:FnD Tryz.prog 110 23 [(.tmp 2)] c110:=⟨⟨Tryz.f110,Tryz.f110.body.getD .skip,Tryz.func110,by kernel_rfl,by kernel_rfl,by kernel_rfl,by kernel_rfl⟩⟩
def c111:ACode:=(.seq
 (.reg [Zq 2 (.assign (.const (.bool false)))])
 (.seq
 (.reg [Za 3 0,Zq 4 (.binOp .geq 5 (Zr 3) (.const (.int .u8 48)) 5),Za 5 4,Zp 6 (.move (Zr 0)) 5 true,Zp 7 (.binOp .leq 5 (Zr 6) (.const (.int .u8 57)) 5) 5 true,Zq 8 (.pick (Zr 5) (Zr 7) (.const (.bool false))),Zc 2 8]) .ret))
theorem fd111:FnD Tryz.prog 111 9 [(.tmp 2)] c111:=⟨⟨Tryz.f111,Tryz.f111.body.getD .skip,Tryz.func111,by kernel_rfl,by kernel_rfl,by kernel_rfl,by kernel_rfl⟩⟩
def b112_1:ACode:=(.seq
 (.reg [Zn 9 .lss 3 8 7])
 (.seq
 (.cond (Zr 9) .skip (.exit 0))
 (.seq
 (.block 1
 (.seq
 (.reg [Za 10 8,Zc 5 10])
 (.seq
 (.reg [Za 11 1,Za 12 0,Za 13 5,Zk 14 41 12 13,Zb 15 76 14,Zq 16 (.call { callee:=(.value (Zr 11)),args:=#[Zr 15],argTypes:=#[76] })])
 (.cond (Zr 16)
 (.seq
 (.reg [Za 17 5,Zc 4 17]) .ret) .skip))))
 (.reg [Zm 18 .add 3 8 1,Za 8 18]))))
def c112_1:ACode:=(.seq
 (.reg [Zq 4 (.assign (.const (.int .i64 (-1))))]) .ret)
def c112:ACode:=(.seq
 (.reg [Zf 4 0])
 (.seqL
 (.seq
 (.reg [Za 6 0,Ze 7 6 41,Zq 8 (.move (.const (.int .i64 0)))])
 (.block 0 (.loop b112_1))) c112_1))
theorem fd112:FnD Tryz.prog 112 19 [(.tmp 4)] c112:=⟨⟨Tryz.f112,Tryz.f112.body.getD .skip,Tryz.func112,by kernel_rfl,by kernel_rfl,by kernel_rfl,by kernel_rfl⟩⟩
def c113:ACode:=(.seq
 (.reg [Zj 2 76 0,Zq 3 (.assign (.const (.bool false)))])
 (.seq
 (.reg [Zd 4 76 2 0,Zb 5 9 4,Zb 6 9 1,Zn 7 .eql 9 5 6,Zc 3 7]) .ret))
theorem fd113:FnD Tryz.prog 113 8 [(.tmp 3)] c113:=⟨⟨Tryz.f113,Tryz.f113.body.getD .skip,Tryz.func113,by kernel_rfl,by kernel_rfl,by kernel_rfl,by kernel_rfl⟩⟩
def b114_1:ACode:=(.seq
 (.reg [Zn 9 .lss 3 8 7])
 (.seq
 (.cond (Zr 9) .skip (.exit 0))
 (.seq
 (.block 1
 (.seq
 (.reg [Za 10 8,Zc 5 10])
 (.seq
 (.reg [Za 11 1,Za 12 0,Za 13 5,Zk 14 42 12 13,Zb 15 81 14,Zq 16 (.call { callee:=(.value (Zr 11)),args:=#[Zr 15],argTypes:=#[81] })])
 (.cond (Zr 16)
 (.seq
 (.reg [Za 17 5,Zc 4 17]) .ret) .skip))))
 (.reg [Zm 18 .add 3 8 1,Za 8 18]))))
def c114_1:ACode:=(.seq
 (.reg [Zq 4 (.assign (.const (.int .i64 (-1))))]) .ret)
def c114:ACode:=(.seq
 (.reg [Zf 4 0])
 (.seqL
 (.seq
 (.reg [Za 6 0,Ze 7 6 42,Zq 8 (.move (.const (.int .i64 0)))])
 (.block 0 (.loop b114_1))) c114_1))
theorem fd114:FnD Tryz.prog 114 19 [(.tmp 4)] c114:=⟨⟨Tryz.f114,Tryz.f114.body.getD .skip,Tryz.func114,by kernel_rfl,by kernel_rfl,by kernel_rfl,by kernel_rfl⟩⟩
def c115:ACode:=(.seq
 (.reg [Zj 2 81 0,Zq 3 (.assign (.const (.bool false)))])
 (.seq
 (.reg [Zd 4 81 2 0,Zb 5 9 4,Zb 6 9 1,Zn 7 .eql 9 5 6,Zc 3 7]) .ret))
theorem fd115:FnD Tryz.prog 115 8 [(.tmp 3)] c115:=⟨⟨Tryz.f115,Tryz.f115.body.getD .skip,Tryz.func115,by kernel_rfl,by kernel_rfl,by kernel_rfl,by kernel_rfl⟩⟩
def Znc:ACode:=(.seq
 (.reg [⟨none,(.store 38 (Zr 4) (.const (.int .i64 0))),none⟩]) .ret)
def ZkR:ACode:=(.seq
 (.block 2
 (.seq
 (.reg [Zb 21 3 5,Zm 22 .gtr 3 21 100,Zc 20 22])
 (.cond (Zr 20)
 (.seq
 (.reg [⟨none,(.store 38 (Zr 4) (.const (.int .i64 7))),none⟩]) .ret)
 (.seq
 (.reg [Zb 24 3 6,Zm 25 .gtr 3 24 50,Zc 23 25])
 (.cond (Zr 23)
 (.seq
 (.reg [⟨none,(.store 38 (Zr 4) (.const (.int .i64 6))),none⟩]) .ret) .skip)))))
 (.seqL
 (.seq
 (.reg [Zb 26 74 2,Zo 27 136 #[Zr 26] #[74]])
 (.block 3 (.rfunc (Zr 27) #[28]
 (.reg [Zi 8 241,Zg 241 8 28])
 (.block 4
 (.seq
 (.reg [Zb 29 41 3,Zd 30 241 8 0,Zd 31 74 30 1,Zb 32 9 31,Zo 33 78 #[Zr 29,Zr 32] #[41,9],Zc 9 33])
 (.block 5
 (.seq
 (.reg [Zd 35 241 8 0,Zd 36 74 35 1,Zb 37 9 36,Zo 38 77 #[Zr 37] #[9],Zq 39 (.unOp .not 4 (Zr 38)),Za 40 39,Zp 41 (.fieldAddr 241 (Zr 8) 0) 40 false,Zp 42 (.load 74 (Zr 41)) 40 false,Zp 43 (.call { callee:=(.value (.func 137)),args:=#[Zr 42],argTypes:=#[74] }) 40 false,Zp 44 (.move (Zr 43)) 40 false,Zp 45 (.fieldAddr 241 (Zr 8) 0) 44 true,Zp 46 (.fieldAddr 74 (Zr 45) 2) 44 true,Zp 47 (.load 72 (Zr 46)) 44 true,Zp 48 (.call { callee:=(.builtin .len),args:=#[Zr 47],argTypes:=#[72] }) 44 true,Zp 49 (.binOp .gtr 3 (Zr 48) (.const (.int .i64 0)) 3) 44 true,Zp 50 (.pick (Zr 44) (Zr 49) (.const (.bool false))) 40 false,Zq 51 (.pick (Zr 40) (.const (.bool true)) (Zr 50)),Zc 34 51])
 (.cond (Zr 34)
 (.seq
 (.reg [⟨none,(.store 38 (Zr 4) (.const (.int .i64 411))),none⟩]) .ret)
 (.seq
 (.reg [Zd 53 241 8 0,Zb 54 74 53,Zo 55 138 #[Zr 54] #[74],Za 56 55,Zp 57 (.move (Zr 9)) 56 true,Zp 58 (.binOp .lss 3 (Zr 57) (.const (.int .i64 0)) 3) 56 true,Zq 59 (.pick (Zr 56) (Zr 58) (.const (.bool false))),Zc 52 59])
 (.cond (Zr 52)
 (.seq
 (.reg [⟨none,(.store 38 (Zr 4) (.const (.int .i64 9))),none⟩]) .ret)
 (.seq
 (.dreg
 (.tk 0 (Zd 61 241 8 0)
 (.tk 1 (Zb 62 74 61)
 (.one [2,3,4,5,6,7,8,9,10,11,12,13,14,15] (Zo 63 138 #[Zr 62] #[74])
 (.tk 3 (Za 64 63)
 (.tk 4 (Zp 65 (.fieldAddr 241 (Zr 8) 0) 64 true)
 (.tk 5 (Zp 66 (.fieldAddr 74 (Zr 65) 2) 64 true)
 (.tk 6 (Zp 67 (.load 72 (Zr 66)) 64 true)
 (.tk 7 (Zp 68 (.call { callee:=(.builtin .len),args:=#[Zr 67],argTypes:=#[72] }) 64 true)
 (.tk 8 (Zp 69 (.load 41 (Zr 3)) 64 true)
 (.tk 9 (Zp 70 (.move (Zr 9)) 64 true)
 (.tk 10 (Zp 71 (.indexAddr 41 (Zr 69) (Zr 70)) 64 true)
 (.tk 11 (Zp 72 (.fieldAddr 76 (Zr 71) 1) 64 true)
 (.tk 12 (Zp 73 (.load 3 (Zr 72)) 64 true) .fin))))))))))))) [Zp 74 (.binOp .neq 3 (Zr 68) (Zr 73) 3) 64 true,Zq 75 (.pick (Zr 64) (Zr 74) (.const (.bool false))),Zc 60 75])
 (.cond (Zr 60)
 (.seq
 (.reg [⟨none,(.store 38 (Zr 4) (.const (.int .i64 5))),none⟩]) .ret) .skip)))))))))))) Znc))
def c116:ACode:=(.seq
 (.reg [Zj 2 74 0,Zj 3 41 1,Zi 4 38])
 (.seq
 (.reg [Zi 5 3,Zi 6 3,⟨none,(.store 3 (Zr 5) (.const (.int .i64 0))),none⟩,⟨none,(.store 3 (Zr 6) (.const (.int .i64 0))),none⟩])
 (.seqL
 (.seq
 (.reg [Zb 10 74 2,Zo 11 136 #[Zr 10] #[74]])
 (.block 0 (.rfunc (Zr 11) #[12]
 (.reg [Zi 7 241,Zg 241 7 12])
 (.block 1
 (.dreg
 (.tk 0 (Zb 13 3 5)
 (.tk 1 (Zm 14 .add 3 13 1)
 (.tk 2 (Zb 15 3 6)
 (.tk 3 (Zd 16 241 7 1)
 (.tk 4 (Zb 17 3 16)
 (.tk 5 (Zm 18 .add 3 17 1)
 (.tk 6 (Zq 19 (.call { callee:=(.builtin .max),args:=#[Zr 15,Zr 18],argTypes:=#[3,3] }))
 (.one [2,3,4,5,6,7,8] (Zg 3 5 14) .fin)))))))) [Zg 3 6 19]))))) ZkR)))
theorem fd116:FnD Tryz.prog 116 76 [(.cell 4 38)] c116:=⟨⟨Tryz.f116,Tryz.f116.body.getD .skip,Tryz.func116,by kernel_rfl,by kernel_rfl,by kernel_rfl,by kernel_rfl⟩⟩
def Znd:ACode:=(.reg [Zm 25 .add 3 9 1,Za 9 25])
def b117_1:ACode:=(.seq
 (.reg [Zn 10 .lss 3 9 8])
 (.seq
 (.cond (Zr 10) .skip (.exit 0))
 (.seqL
 (.block 1
 (.seq
 (.reg [Zk 11 72 7 9,Zb 12 74 11,Zi 5 74,Zg 74 5 12])
 (.seq
 (.reg [Zb 13 74 5,Zo 14 136 #[Zr 13] #[74]])
 (.block 2 (.rfunc (Zr 14) #[15]
 (.reg [Zi 6 241,Zg 241 6 15])
 (.block 3
 (.seq
 (.reg [Zd 16 241 6 0,Zb 17 74 16,Zo 18 137 #[Zr 17] #[74]])
 (.cond (Zr 18)
 (.reg [Zb 19 181 3,Zd 20 241 6 0,Zd 21 74 20 1,Zb 22 9 21,Zq 23 (.buildSlice 181 1 #[(0,(Zr 22))]),Zl 24 19 23 181,Zg 181 3 24]) .skip)))))))) Znd)))
def c117_2:ACode:=(.seq
 (.reg [Zb 26 181 3,Zc 2 26]) .ret)
def c117:ACode:=(.seq
 (.reg [Zq 2 (.assign (.const (.slice none 0 0)))])
 (.seq
 (.reg [Zi 3 181])
 (.seqL
 (.seq
 (.reg [Za 7 0,Ze 8 7 72,Zq 9 (.move (.const (.int .i64 0)))])
 (.block 0 (.loop b117_1))) c117_2)))
theorem fd117:FnD Tryz.prog 117 27 [(.tmp 2)] c117:=⟨⟨Tryz.f117,Tryz.f117.body.getD .skip,Tryz.func117,by kernel_rfl,by kernel_rfl,by kernel_rfl,by kernel_rfl⟩⟩
def b118_1:ACode:=(.seq
 (.reg [Zn 12 .lss 3 11 10])
 (.seq
 (.cond (Zr 12) .skip (.exit 0))
 (.seq
 (.block 1
 (.seq
 (.reg [Zk 13 33 9 11,Zb 14 35 13,Zi 5 35,Zg 35 5 14])
 (.seq
 (.reg [Zb 16 35 5,Zo 17 118 #[Zr 16] #[35],Za 15 17,Zh 18 15 0,Zh 19 15 1,Zc 6 18,Zc 7 19])
 (.reg [Za 20 2,Za 21 6,Zn 22 .add 3 20 21,Za 23 3,Za 24 7,Zq 25 (.call { callee:=(.builtin .max),args:=#[Zr 23,Zr 24],argTypes:=#[3,3] }),Zc 2 22,Zc 3 25]))))
 (.reg [Zm 26 .add 3 11 1,Za 11 26]))))
def c118_1:ACode:=(.seq
 (.reg [Za 27 2,Za 28 3,Zm 29 .add 3 28 1,Zc 2 27,Zc 3 29]) .ret)
def c118:ACode:=(.seq
 (.reg [Zj 1 35 0,Zf 2 0,Zf 3 0])
 (.seq
 (.reg [Zf 2 1])
 (.seqL
 (.seq
 (.reg [Zd 8 35 1 2,Zb 9 33 8,Ze 10 9 33,Zq 11 (.move (.const (.int .i64 0)))])
 (.block 0 (.loop b118_1))) c118_1)))
theorem fd118:FnD Tryz.prog 118 30 [(.tmp 2),(.tmp 3)] c118:=⟨⟨Tryz.f118,Tryz.f118.body.getD .skip,Tryz.func118,by kernel_rfl,by kernel_rfl,by kernel_rfl,by kernel_rfl⟩⟩
def Zne:ACode:=(.seq
 (.reg [Zn 77 .lss 3 76 75])
 (.seq
 (.cond (Zr 77) .skip (.exit 1))
 (.seq
 (.block 2
 (.seq
 (.reg [Zk 78 33 74 76,Zb 79 35 78,Zi 9 35,Zg 35 9 79])
 (.seq
 (.reg [Zb 80 44 3,Zb 81 35 9,Za 82 2,Zo 83 119 #[Zr 80,Zr 81,Zr 82] #[44,35,220],Zc 10 83])
 (.seq
 (.reg [Za 84 10,Zm 85 .neq 38 84 0])
 (.cond (Zr 85)
 (.seq
 (.reg [Za 86 10,Zc 6 86]) .ret) .skip)))))
 (.reg [Zm 87 .add 3 76 1,Za 76 87]))))
def Znf:ACode:=(.seq
 (.reg [Zf 6 0]) .ret)
def c119:ACode:=(.seq
 (.reg [Zj 3 44 0,Zj 4 35 1,Zf 6 0])
 (.seq
 (.seq
 (.reg [Zb 11 35 4,Zo 12 139 #[Zr 11] #[35]])
 (.cond (Zr 12)
 (.seq
 (.reg [Zf 6 411]) .ret) .skip))
 (.seq
 (.reg [Zd 13 44 3 0,Zb 14 41 13,Zd 15 35 4 1,Zb 16 9 15,Zo 17 78 #[Zr 14,Zr 16] #[41,9],Zc 7 17])
 (.seq
 (.block 0
 (.seq
 (.seq
 (.reg [Zd 19 35 4 0,Zb 20 3 19,Zm 21 .eql 3 20 2,Za 22 21,Zp 23 (.fieldAddr 44 (Zr 3) 1) 22 true,Zp 24 (.load 42 (Zr 23)) 22 true,Zp 25 (.fieldAddr 35 (Zr 4) 1) 22 true,Zp 26 (.load 9 (Zr 25)) 22 true,Zp 27 (.call { callee:=(.value (.func 79)),args:=#[Zr 24,Zr 26],argTypes:=#[42,9] }) 22 true,Zp 28 (.binOp .lss 3 (Zr 27) (.const (.int .i64 0)) 3) 22 true,Zq 29 (.pick (Zr 22) (Zr 28) (.const (.bool false))),Zc 18 29])
 (.cond (Zr 18) .skip
 (.reg [Zd 30 35 4 0,Zb 31 3 30,Zm 32 .eql 3 31 3,Za 33 32,Zp 34 (.move (Zr 7)) 33 true,Zp 35 (.binOp .lss 3 (Zr 34) (.const (.int .i64 0)) 3) 33 true,Zq 36 (.pick (Zr 33) (Zr 35) (.const (.bool false))),Zc 18 36])))
 (.cond (Zr 18)
 (.seq
 (.reg [Zf 6 9]) .ret)
 (.seq
 (.dreg
 (.tk 0 (Zd 38 35 4 0)
 (.tk 1 (Zb 39 3 38)
 (.tk 2 (Zm 40 .eql 3 39 3)
 (.tk 3 (Za 41 40)
 (.tk 4 (Zp 42 (.fieldAddr 35 (Zr 4) 2) 41 true)
 (.tk 5 (Zp 43 (.load 33 (Zr 42)) 41 true)
 (.tk 6 (Zp 44 (.call { callee:=(.builtin .len),args:=#[Zr 43],argTypes:=#[33] }) 41 true)
 (.tk 7 (Zp 45 (.fieldAddr 44 (Zr 3) 0) 41 true)
 (.tk 8 (Zp 46 (.load 41 (Zr 45)) 41 true)
 (.tk 9 (Zp 47 (.move (Zr 7)) 41 true)
 (.tk 10 (Zp 48 (.indexAddr 41 (Zr 46) (Zr 47)) 41 true)
 (.tk 11 (Zp 49 (.fieldAddr 76 (Zr 48) 1) 41 true)
 (.tk 12 (Zp 50 (.load 3 (Zr 49)) 41 true) .fin))))))))))))) [Zp 51 (.binOp .neq 3 (Zr 44) (Zr 50) 3) 41 true,Zq 52 (.pick (Zr 41) (Zr 51) (.const (.bool false))),Zc 37 52])
 (.cond (Zr 37)
 (.seq
 (.reg [Zf 6 5]) .ret)
 (.seq
 (.reg [Zd 54 35 4 0,Zb 55 3 54,Zm 56 .eql 3 55 1,Za 57 56,Zp 58 (.move (Zr 2)) 57 true,Zp 59 (.fieldAddr 35 (Zr 4) 1) 57 true,Zp 60 (.load 9 (Zr 59)) 57 true,Zp 61 (.call { callee:=(.value (.func 140)),args:=#[Zr 58,Zr 60],argTypes:=#[220,9] }) 57 true,Zp 62 (.unOp .not 4 (Zr 61)) 57 true,Zq 63 (.pick (Zr 57) (Zr 62) (.const (.bool false))),Zc 53 63])
 (.cond (Zr 53)
 (.seq
 (.reg [Zf 6 411]) .ret)
 (.seq
 (.reg [Zd 65 35 4 0,Zb 66 3 65,Zm 67 .eql 3 66 5,Zc 64 67])
 (.cond (Zr 64)
 (.reg [Za 68 2,Zd 69 35 4 1,Zb 70 9 69,Zq 71 (.buildSlice 181 1 #[(0,(Zr 70))]),Zo 72 120 #[Zr 68,Zr 71] #[220,181],Zc 2 72]) .skip)))))))))
 (.seqL
 (.seq
 (.reg [Zd 73 35 4 2,Zb 74 33 73,Ze 75 74 33,Zq 76 (.move (.const (.int .i64 0)))])
 (.block 1 (.loop Zne))) Znf)))))
theorem fd119:FnD Tryz.prog 119 88 [(.tmp 6)] c119:=⟨⟨Tryz.f119,Tryz.f119.body.getD .skip,Tryz.func119,by kernel_rfl,by kernel_rfl,by kernel_rfl,by kernel_rfl⟩⟩
def b120_1:ACode:=(.seq
 (.reg [Zn 10 .lss 3 9 8])
 (.seq
 (.cond (Zr 10) .skip (.exit 0))
 (.seq
 (.block 1
 (.seq
 (.reg [Zk 11 181 7 9,Zb 12 9 11,Zc 6 12])
 (.reg [Za 13 6,Za 14 0,Zq 15 (.build 243 #[(0,(Zr 13)),(1,(Zr 14))]),Zj 16 243 15,Zc 0 16])))
 (.reg [Zm 17 .add 3 9 1,Za 9 17]))))
def c120_1:ACode:=(.seq
 (.reg [Za 18 0,Zc 4 18]) .ret)
def c120:ACode:=(.seq
 (.reg [Zq 4 (.assign (.const (.pointer none)))])
 (.seqL
 (.seq
 (.reg [Za 7 1,Ze 8 7 181,Zq 9 (.move (.const (.int .i64 0)))])
 (.block 0 (.loop b120_1))) c120_1))
theorem fd120:FnD Tryz.prog 120 19 [(.tmp 4)] c120:=⟨⟨Tryz.f120,Tryz.f120.body.getD .skip,Tryz.func120,by kernel_rfl,by kernel_rfl,by kernel_rfl,by kernel_rfl⟩⟩
def b121_1:ACode:=(.seq
 (.reg [Zn 9 .lss 3 8 7])
 (.seq
 (.cond (Zr 9) .skip (.exit 0))
 (.seq
 (.block 1
 (.seq
 (.reg [Za 10 8,Zc 5 10])
 (.seq
 (.reg [Za 11 1,Za 12 0,Za 13 5,Zk 14 181 12 13,Zb 15 9 14,Zn 16 .eql 9 11 15])
 (.cond (Zr 16)
 (.seq
 (.reg [Za 17 5,Zc 4 17]) .ret) .skip))))
 (.reg [Zm 18 .add 3 8 1,Za 8 18]))))
def c121_1:ACode:=(.seq
 (.reg [Zq 4 (.assign (.const (.int .i64 (-1))))]) .ret)
def c121:ACode:=(.seq
 (.reg [Zf 4 0])
 (.seqL
 (.seq
 (.reg [Za 6 0,Ze 7 6 181,Zq 8 (.move (.const (.int .i64 0)))])
 (.block 0 (.loop b121_1))) c121_1))
theorem fd121:FnD Tryz.prog 121 19 [(.tmp 4)] c121:=⟨⟨Tryz.f121,Tryz.f121.body.getD .skip,Tryz.func121,by kernel_rfl,by kernel_rfl,by kernel_rfl,by kernel_rfl⟩⟩
def b122_1:ACode:=(.seq
 (.reg [Zn 9 .lss 3 8 7])
 (.seq
 (.cond (Zr 9) .skip (.exit 0))
 (.seq
 (.block 1
 (.seq
 (.reg [Zk 10 132 6 8,Zb 11 95 10,Zc 5 11])
 (.reg [Za 12 3,Za 13 5,Zq 14 (.call { callee:=(.invoke (Zr 13) "triforium/evaluate.nodes"),args:=#[],argTypes:=#[] }),Zn 15 .add 3 12 14,Zc 3 15])))
 (.reg [Zm 16 .add 3 8 1,Za 8 16]))))
def c122_1:ACode:=(.seq
 (.reg [Za 17 3,Zc 2 17]) .ret)
def c122:ACode:=(.seq
 (.reg [Zf 2 0])
 (.seq
 (.reg [Zf 3 0])
 (.seqL
 (.seq
 (.reg [Za 6 0,Ze 7 6 132,Zq 8 (.move (.const (.int .i64 0)))])
 (.block 0 (.loop b122_1))) c122_1)))
theorem fd122:FnD Tryz.prog 122 18 [(.tmp 2)] c122:=⟨⟨Tryz.f122,Tryz.f122.body.getD .skip,Tryz.func122,by kernel_rfl,by kernel_rfl,by kernel_rfl,by kernel_rfl⟩⟩
def c123:ACode:=(.reg [Zb 1 91 0,Zq 2 (.nilCheck (Zr 1)),Zd 3 93 2 3,Zb 4 3 3,Zm 5 .sub 3 4 1,Zq 6 (.nilCheck (Zr 1)),Zd 7 93 6 3,Zg 3 7 5])
theorem fd123:FnD Tryz.prog 123 8 [] c123:=⟨⟨Tryz.f123,Tryz.f123.body.getD .skip,Tryz.func123,by kernel_rfl,by kernel_rfl,by kernel_rfl,by kernel_rfl⟩⟩
def b124_1:ACode:=(.seq
 (.seq
 (.reg [Za 9 6,Zd 10 126 1 2,Zb 11 122 10,Ze 12 11 122,Zn 13 .lss 3 9 12])
 (.cond (Zr 13) .skip (.exit 0)))
 (.seq
 (.block 1
 (.seq
 (.reg [Zd 17 126 1 2,Zb 18 122 17,Za 19 6,Zk 20 122 18 19,Zb 21 126 20,Zo 22 124 #[Zr 21] #[126],Za 16 22,Zh 23 16 0,Zh 24 16 1,Zc 7 23,Zc 8 24])
 (.seq
 (.reg [Za 25 4,Za 26 7,Zn 27 .add 3 25 26,Zc 4 27])
 (.reg [Za 28 5,Za 29 8,Zq 30 (.call { callee:=(.builtin .max),args:=#[Zr 28,Zr 29],argTypes:=#[3,3] }),Zc 5 30]))))
 (.reg [Za 14 6,Zm 15 .add 3 14 1,Zc 6 15])))
def c124_1:ACode:=(.seq
 (.reg [Za 31 4,Za 32 5,Zm 33 .add 3 32 1,Zc 2 31,Zc 3 33]) .ret)
def c124:ACode:=(.seq
 (.reg [Zj 1 126 0,Zf 2 0,Zf 3 0])
 (.seq
 (.reg [Zf 4 1,Zf 5 0])
 (.seqL
 (.seq
 (.reg [Zf 6 0])
 (.block 0 (.loop b124_1))) c124_1)))
theorem fd124:FnD Tryz.prog 124 34 [(.tmp 2),(.tmp 3)] c124:=⟨⟨Tryz.f124,Tryz.f124.body.getD .skip,Tryz.func124,by kernel_rfl,by kernel_rfl,by kernel_rfl,by kernel_rfl⟩⟩
def Zng:ACode:=(.seq
 (.seq
 (.reg [Za 40 6,Zd 41 126 3 2,Zb 42 122 41,Ze 43 42 122,Zn 44 .lss 3 40 43])
 (.cond (Zr 44) .skip (.exit 0)))
 (.seq
 (.block 1
 (.seq
 (.reg [Za 47 0,Zd 48 126 3 2,Zb 49 122 48,Za 50 6,Zk 51 122 49 50,Zb 52 126 51,Zo 53 125 #[Zr 47,Zr 52] #[22,126],Zc 7 53])
 (.seq
 (.reg [Za 54 7,Zm 55 .neq 38 54 0])
 (.cond (Zr 55)
 (.seq
 (.reg [Za 56 7,Zc 4 56]) .ret) .skip))))
 (.reg [Za 45 6,Zm 46 .add 3 45 1,Zc 6 46])))
def Znh:ACode:=(.seq
 (.reg [Zf 4 0]) .ret)
def c125:ACode:=(.seq
 (.reg [Zj 3 126 1,Zf 4 0])
 (.seq
 (.seq
 (.reg [Zd 8 126 3 1,Zb 9 9 8,Zo 10 87 #[Zr 9] #[9],Zq 11 (.unOp .not 4 (Zr 10)),Za 12 11,Zp 13 (.fieldAddr 126 (Zr 3) 0) 12 false,Zp 14 (.load 4 (Zr 13)) 12 false,Zp 15 (.unOp .not 4 (Zr 14)) 12 false,Zp 16 (.move (Zr 15)) 12 false,Zp 17 (.fieldAddr 126 (Zr 3) 2) 16 true,Zp 18 (.load 122 (Zr 17)) 16 true,Zp 19 (.call { callee:=(.builtin .len),args:=#[Zr 18],argTypes:=#[122] }) 16 true,Zp 20 (.binOp .gtr 3 (Zr 19) (.const (.int .i64 0)) 3) 16 true,Zp 21 (.pick (Zr 16) (Zr 20) (.const (.bool false))) 12 false,Zq 22 (.pick (Zr 12) (.const (.bool true)) (Zr 21))])
 (.cond (Zr 22)
 (.seq
 (.reg [Zf 4 411]) .ret) .skip))
 (.seq
 (.seq
 (.reg [Zd 23 126 3 0,Zb 24 4 23])
 (.cond (Zr 24)
 (.seq
 (.reg [Za 25 0,Zd 26 126 3 1,Zb 27 9 26,Zo 28 88 #[Zr 25,Zr 27] #[22,9],Zc 5 28])
 (.seq
 (.seq
 (.reg [Za 29 5,Zm 30 .lss 3 29 0])
 (.cond (Zr 30)
 (.seq
 (.reg [Zf 4 9]) .ret) .skip))
 (.seq
 (.dreg
 (.tk 0 (Zd 31 126 3 2)
 (.tk 1 (Zb 32 122 31)
 (.tk 2 (Ze 33 32 122)
 (.tk 3 (Za 34 0)
 (.tk 4 (Za 35 5)
 (.tk 5 (Zk 36 22 34 35)
 (.tk 6 (Zd 37 102 36 1)
 (.tk 7 (Zb 38 3 37) .fin)))))))) [Zn 39 .neq 3 33 38])
 (.cond (Zr 39)
 (.seq
 (.reg [Zf 4 5]) .ret) .skip)))) .skip))
 (.seqL
 (.seq
 (.reg [Zf 6 0])
 (.block 0 (.loop Zng))) Znh))))
theorem fd125:FnD Tryz.prog 125 57 [(.tmp 4)] c125:=⟨⟨Tryz.f125,Tryz.f125.body.getD .skip,Tryz.func125,by kernel_rfl,by kernel_rfl,by kernel_rfl,by kernel_rfl⟩⟩
def b126_1:ACode:=(.seq
 (.seq
 (.reg [Za 14 5,Zd 15 126 2 2,Zb 16 122 15,Ze 17 16 122,Zn 18 .lss 3 14 17])
 (.cond (Zr 18) .skip (.exit 0)))
 (.seq
 (.block 1
 (.reg [Zd 21 126 2 2,Zb 22 122 21,Za 23 5,Zk 24 122 22 23,Zb 25 126 24,Za 26 1,Zo 27 126 #[Zr 25,Zr 26] #[126,181],Zc 1 27]))
 (.reg [Za 19 5,Zm 20 .add 3 19 1,Zc 5 20])))
def c126_1:ACode:=(.seq
 (.reg [Za 28 1,Zc 4 28]) .ret)
def c126:ACode:=(.seq
 (.reg [Zj 2 126 0,Zq 4 (.assign (.const (.slice none 0 0)))])
 (.seq
 (.seq
 (.reg [Zd 6 126 2 0,Zb 7 4 6,Zq 8 (.unOp .not 4 (Zr 7))])
 (.cond (Zr 8)
 (.seq
 (.reg [Za 9 1,Zd 10 126 2 1,Zb 11 9 10,Zq 12 (.buildSlice 181 1 #[(0,(Zr 11))]),Zl 13 9 12 181,Zc 4 13]) .ret) .skip))
 (.seqL
 (.seq
 (.reg [Zf 5 0])
 (.block 0 (.loop b126_1))) c126_1)))
theorem fd126:FnD Tryz.prog 126 29 [(.tmp 4)] c126:=⟨⟨Tryz.f126,Tryz.f126.body.getD .skip,Tryz.func126,by kernel_rfl,by kernel_rfl,by kernel_rfl,by kernel_rfl⟩⟩
def b127_1:ACode:=(.seq
 (.seq
 (.reg [Za 6 5,Za 7 0,Ze 8 7 181,Zn 9 .lss 3 6 8])
 (.cond (Zr 9) .skip (.exit 0)))
 (.seq
 (.block 1
 (.seq
 (.reg [Za 12 0,Za 13 5,Zk 14 181 12 13,Zb 15 9 14,Za 16 1,Zn 17 .eql 9 15 16])
 (.cond (Zr 17)
 (.seq
 (.reg [Zq 4 (.assign (.const (.bool true)))]) .ret) .skip)))
 (.reg [Za 10 5,Zm 11 .add 3 10 1,Zc 5 11])))
def c127_1:ACode:=(.seq
 (.reg [Zq 4 (.assign (.const (.bool false)))]) .ret)
def c127:ACode:=(.seq
 (.reg [Zq 4 (.assign (.const (.bool false)))])
 (.seqL
 (.seq
 (.reg [Zf 5 0])
 (.block 0 (.loop b127_1))) c127_1))
theorem fd127:FnD Tryz.prog 127 18 [(.tmp 4)] c127:=⟨⟨Tryz.f127,Tryz.f127.body.getD .skip,Tryz.func127,by kernel_rfl,by kernel_rfl,by kernel_rfl,by kernel_rfl⟩⟩
def b128_1:ACode:=(.seq
 (.seq
 (.reg [Za 9 6,Zd 10 28 1 2,Zb 11 26 10,Ze 12 11 26,Zn 13 .lss 3 9 12])
 (.cond (Zr 13) .skip (.exit 0)))
 (.seq
 (.block 1
 (.seq
 (.reg [Zd 17 28 1 2,Zb 18 26 17,Za 19 6,Zk 20 26 18 19,Zb 21 28 20,Zo 22 128 #[Zr 21] #[28],Za 16 22,Zh 23 16 0,Zh 24 16 1,Zc 7 23,Zc 8 24])
 (.seq
 (.reg [Za 25 4,Za 26 7,Zn 27 .add 3 25 26,Zc 4 27])
 (.reg [Za 28 5,Za 29 8,Zq 30 (.call { callee:=(.builtin .max),args:=#[Zr 28,Zr 29],argTypes:=#[3,3] }),Zc 5 30]))))
 (.reg [Za 14 6,Zm 15 .add 3 14 1,Zc 6 15])))
def c128_1:ACode:=(.seq
 (.reg [Za 31 4,Za 32 5,Zm 33 .add 3 32 1,Zc 2 31,Zc 3 33]) .ret)
def c128:ACode:=(.seq
 (.reg [Zj 1 28 0,Zf 2 0,Zf 3 0])
 (.seq
 (.reg [Zf 4 1,Zf 5 0])
 (.seqL
 (.seq
 (.reg [Zf 6 0])
 (.block 0 (.loop b128_1))) c128_1)))
theorem fd128:FnD Tryz.prog 128 34 [(.tmp 2),(.tmp 3)] c128:=⟨⟨Tryz.f128,Tryz.f128.body.getD .skip,Tryz.func128,by kernel_rfl,by kernel_rfl,by kernel_rfl,by kernel_rfl⟩⟩
def Zni:ACode:=(.seq
 (.seq
 (.reg [Za 124 9,Za 125 7,Zn 126 .lss 3 124 125])
 (.cond (Zr 126) .skip (.exit 1)))
 (.seq
 (.block 2
 (.seq
 (.dreg
 (.tk 0 (Zb 129 25 3)
 (.tk 1 (Zd 130 28 4 2)
 (.tk 2 (Zb 131 26 130)
 (.tk 3 (Za 132 9)
 (.tk 4 (Zk 133 26 131 132)
 (.tk 5 (Zb 134 28 133)
 (.tk 6 (Za 135 2) .fin))))))) [Zo 136 129 #[Zr 129,Zr 134,Zr 135] #[25,28,181],Zc 10 136])
 (.seq
 (.reg [Za 137 10,Zm 138 .neq 38 137 0])
 (.cond (Zr 138)
 (.seq
 (.reg [Za 139 10,Zc 6 139]) .ret) .skip))))
 (.reg [Za 127 9,Zm 128 .add 3 127 1,Zc 9 128])))
def Znj:ACode:=(.seq
 (.reg [Zf 6 0]) .ret)
def c129:ACode:=(.seq
 (.reg [Zj 3 25 0,Zj 4 28 1,Zf 6 0])
 (.seq
 (.reg [Zd 11 28 4 2,Zb 12 26 11,Ze 13 12 26,Zc 7 13])
 (.seq
 (.block 0
 (.seq
 (.seq
 (.reg [Zd 15 28 4 0,Zb 16 3 15,Zm 17 .lss 3 16 1,Za 18 17,Zp 19 (.fieldAddr 28 (Zr 4) 0) 18 false,Zp 20 (.load 3 (Zr 19)) 18 false,Zp 21 (.binOp .gtr 3 (Zr 20) (.const (.int .i64 5)) 3) 18 false,Zq 22 (.pick (Zr 18) (.const (.bool true)) (Zr 21)),Zc 14 22])
 (.cond (Zr 14) .skip
 (.seq
 (.reg [Zd 23 28 4 0,Zb 24 3 23,Zm 25 .leq 3 24 2,Za 26 25,Zp 27 (.move (Zr 7)) 26 true,Zp 28 (.binOp .gtr 3 (Zr 27) (.const (.int .i64 0)) 3) 26 true,Zq 29 (.pick (Zr 26) (Zr 28) (.const (.bool false))),Zc 14 29])
 (.cond (Zr 14) .skip
 (.seq
 (.reg [Zd 30 28 4 0,Zb 31 3 30,Zm 32 .eql 3 31 5,Za 33 32,Zp 34 (.move (Zr 7)) 33 true,Zp 35 (.binOp .neq 3 (Zr 34) (.const (.int .i64 1)) 3) 33 true,Zq 36 (.pick (Zr 33) (Zr 35) (.const (.bool false))),Zc 14 36])
 (.cond (Zr 14) .skip
 (.seq
 (.reg [Zd 37 28 4 0,Zb 38 3 37,Zm 39 .eql 3 38 4,Za 40 39,Zp 41 (.move (Zr 7)) 40 true,Zp 42 (.binOp .lss 3 (Zr 41) (.const (.int .i64 2)) 3) 40 true,Zq 43 (.pick (Zr 40) (Zr 42) (.const (.bool false))),Zc 14 43])
 (.cond (Zr 14) .skip
 (.seq
 (.reg [Zd 44 28 4 0,Zb 45 3 44,Zm 46 .eql 3 45 4,Za 47 46,Zp 48 (.fieldAddr 28 (Zr 4) 1) 47 true,Zp 49 (.load 9 (Zr 48)) 47 true,Zp 50 (.binOp .neq 9 (Zr 49) (.const (.string { data:=#[] })) 9) 47 true,Zq 51 (.pick (Zr 47) (Zr 50) (.const (.bool false))),Zc 14 51])
 (.cond (Zr 14) .skip
 (.reg [Zd 52 28 4 0,Zb 53 3 52,Zm 54 .neq 3 53 4,Za 55 54,Zp 56 (.fieldAddr 28 (Zr 4) 1) 55 true,Zp 57 (.load 9 (Zr 56)) 55 true,Zp 58 (.call { callee:=(.value (.func 87)),args:=#[Zr 57],argTypes:=#[9] }) 55 true,Zp 59 (.unOp .not 4 (Zr 58)) 55 true,Zq 60 (.pick (Zr 55) (Zr 59) (.const (.bool false))),Zc 14 60])))))))))))
 (.cond (Zr 14)
 (.seq
 (.reg [Zf 6 411]) .ret)
 (.seq
 (.seq
 (.reg [Zd 62 28 4 0,Zb 63 3 62,Zm 64 .eql 3 63 2,Za 65 64,Zp 66 (.fieldAddr 25 (Zr 3) 1) 65 true,Zp 67 (.load 23 (Zr 66)) 65 true,Zp 68 (.fieldAddr 28 (Zr 4) 1) 65 true,Zp 69 (.load 9 (Zr 68)) 65 true,Zp 70 (.call { callee:=(.value (.func 89)),args:=#[Zr 67,Zr 69],argTypes:=#[23,9] }) 65 true,Zp 71 (.binOp .lss 3 (Zr 70) (.const (.int .i64 0)) 3) 65 true,Zq 72 (.pick (Zr 65) (Zr 71) (.const (.bool false))),Zc 61 72])
 (.cond (Zr 61) .skip
 (.reg [Zd 73 28 4 0,Zb 74 3 73,Zm 75 .eql 3 74 3,Za 76 75,Zp 77 (.fieldAddr 25 (Zr 3) 0) 76 true,Zp 78 (.load 22 (Zr 77)) 76 true,Zp 79 (.fieldAddr 28 (Zr 4) 1) 76 true,Zp 80 (.load 9 (Zr 79)) 76 true,Zp 81 (.call { callee:=(.value (.func 88)),args:=#[Zr 78,Zr 80],argTypes:=#[22,9] }) 76 true,Zp 82 (.binOp .lss 3 (Zr 81) (.const (.int .i64 0)) 3) 76 true,Zq 83 (.pick (Zr 76) (Zr 82) (.const (.bool false))),Zc 61 83])))
 (.cond (Zr 61)
 (.seq
 (.reg [Zf 6 9]) .ret)
 (.seq
 (.dreg
 (.tk 0 (Zd 85 28 4 0)
 (.tk 1 (Zb 86 3 85)
 (.tk 2 (Zm 87 .eql 3 86 3)
 (.tk 3 (Za 88 87)
 (.tk 4 (Zp 89 (.move (Zr 7)) 88 true)
 (.tk 5 (Zp 90 (.fieldAddr 25 (Zr 3) 0) 88 true)
 (.tk 6 (Zp 91 (.load 22 (Zr 90)) 88 true)
 (.tk 7 (Zp 92 (.fieldAddr 25 (Zr 3) 0) 88 true)
 (.tk 8 (Zp 93 (.load 22 (Zr 92)) 88 true)
 (.tk 9 (Zp 94 (.fieldAddr 28 (Zr 4) 1) 88 true)
 (.tk 10 (Zp 95 (.load 9 (Zr 94)) 88 true)
 (.one [4,5,6,11,12,13,14,15,16,17] (Zp 96 (.call { callee:=(.value (.func 88)),args:=#[Zr 93,Zr 95],argTypes:=#[22,9] }) 88 true)
 (.tk 12 (Zp 97 (.indexAddr 22 (Zr 91) (Zr 96)) 88 true)
 (.tk 13 (Zp 98 (.fieldAddr 102 (Zr 97) 1) 88 true) (.cut (Zp 99 (.load 3 (Zr 98)) 88 true) .fin))))))))))))))) [Zp 100 (.binOp .neq 3 (Zr 89) (Zr 99) 3) 88 true,Zq 101 (.pick (Zr 88) (Zr 100) (.const (.bool false))),Zc 84 101])
 (.cond (Zr 84)
 (.seq
 (.reg [Zf 6 5]) .ret)
 (.seq
 (.reg [Zd 103 28 4 0,Zb 104 3 103,Zm 105 .eql 3 104 1,Za 106 105,Zp 107 (.move (Zr 2)) 106 true,Zp 108 (.fieldAddr 28 (Zr 4) 1) 106 true,Zp 109 (.load 9 (Zr 108)) 106 true,Zp 110 (.call { callee:=(.value (.func 127)),args:=#[Zr 107,Zr 109],argTypes:=#[181,9] }) 106 true,Zp 111 (.unOp .not 4 (Zr 110)) 106 true,Zq 112 (.pick (Zr 106) (Zr 111) (.const (.bool false))),Zc 102 112])
 (.cond (Zr 102)
 (.seq
 (.reg [Zf 6 411]) .ret) .skip)))))))))
 (.seq
 (.seq
 (.reg [Zd 113 28 4 0,Zb 114 3 113,Zm 115 .eql 3 114 5])
 (.cond (Zr 115)
 (.seq
 (.reg [Zq 116 (.buildSlice 181 0 #[]),Za 117 2,Zl 118 116 117 181,Zc 8 118])
 (.reg [Za 119 8,Zd 120 28 4 1,Zb 121 9 120,Zq 122 (.buildSlice 181 1 #[(0,(Zr 121))]),Zl 123 119 122 181,Zc 2 123])) .skip))
 (.seqL
 (.seq
 (.reg [Zf 9 0])
 (.block 1 (.loop Zni))) Znj)))))
theorem fd129:FnD Tryz.prog 129 140 [(.tmp 6)] c129:=⟨⟨Tryz.f129,Tryz.f129.body.getD .skip,Tryz.func129,by kernel_rfl,by kernel_rfl,by kernel_rfl,by kernel_rfl⟩⟩
def b130_1:ACode:=(.seq
 (.seq
 (.reg [Za 8 4,Zd 9 28 1 2,Zb 10 26 9,Ze 11 10 26,Zn 12 .lss 3 8 11])
 (.cond (Zr 12) .skip (.exit 0)))
 (.seq
 (.block 1
 (.reg [Za 15 3,Zd 16 28 1 2,Zb 17 26 16,Za 18 4,Zk 19 26 17 18,Zb 20 28 19,Zo 21 130 #[Zr 20] #[28],Zn 22 .add 3 15 21,Zc 3 22]))
 (.reg [Za 13 4,Zm 14 .add 3 13 1,Zc 4 14])))
def c130_1:ACode:=(.seq
 (.reg [Za 23 3,Zc 2 23]) .ret)
def c130:ACode:=(.seq
 (.reg [Zj 1 28 0,Zf 2 0])
 (.seq
 (.seq
 (.reg [Zd 5 28 1 0,Zb 6 3 5,Zm 7 .eql 3 6 5])
 (.cond (Zr 7)
 (.seq
 (.reg [Zf 2 1]) .ret) .skip))
 (.seq
 (.reg [Zf 3 1])
 (.seqL
 (.seq
 (.reg [Zf 4 0])
 (.block 0 (.loop b130_1))) c130_1))))
theorem fd130:FnD Tryz.prog 130 24 [(.tmp 2)] c130:=⟨⟨Tryz.f130,Tryz.f130.body.getD .skip,Tryz.func130,by kernel_rfl,by kernel_rfl,by kernel_rfl,by kernel_rfl⟩⟩
def b131_1:ACode:=(.seq
 (.seq
 (.reg [Za 43 8,Zd 44 126 3 2,Zb 45 122 44,Ze 46 45 122,Zn 47 .lss 3 43 46])
 (.cond (Zr 47) .skip (.exit 0)))
 (.seq
 (.block 1
 (.seq
 (.dreg
 (.tk 0 (Zd 51 126 3 2)
 (.tk 1 (Zb 52 122 51)
 (.tk 2 (Za 53 8)
 (.tk 3 (Zk 54 122 52 53)
 (.tk 4 (Zb 55 126 54)
 (.tk 5 (Zd 56 28 4 2)
 (.tk 6 (Zb 57 26 56)
 (.tk 7 (Za 58 8)
 (.tk 8 (Zk 59 26 57 58)
 (.tk 9 (Zb 60 28 59)
 (.tk 10 (Za 61 2)
 (.one [11,12,13,14,15,16] (Zo 62 131 #[Zr 55,Zr 60,Zr 61] #[126,28,175])
 (.tk 12 (Za 50 62)
 (.tk 13 (Zh 63 50 0)
 (.tk 14 (Zh 64 50 1)
 (.tk 15 (Zc 9 63) .fin)))))))))))))))) [Zc 10 64])
 (.seq
 (.seq
 (.reg [Za 65 10,Zq 66 (.unOp .not 4 (Zr 65))])
 (.cond (Zr 66)
 (.seq
 (.reg [Za 67 2,Zc 6 67,Zq 7 (.assign (.const (.bool false)))]) .ret) .skip))
 (.reg [Za 68 9,Zc 2 68]))))
 (.reg [Za 48 8,Zm 49 .add 3 48 1,Zc 8 49])))
def c131_1:ACode:=(.seq
 (.reg [Za 69 2,Zc 6 69,Zq 7 (.assign (.const (.bool true)))]) .ret)
def c131:ACode:=(.seq
 (.reg [Zj 3 126 0,Zj 4 28 1,Zq 6 (.assign (.const (.slice none 0 0))),Zq 7 (.assign (.const (.bool false)))])
 (.seq
 (.seq
 (.reg [Zd 11 126 3 0,Zb 12 4 11,Zq 13 (.unOp .not 4 (Zr 12))])
 (.cond (Zr 13)
 (.seq
 (.dreg
 (.tk 0 (Zq 14 (.buildSlice 175 0 #[]))
 (.tk 1 (Za 15 2)
 (.tk 3 (Zd 17 126 3 1)
 (.tk 4 (Zb 18 9 17)
 (.tk 5 (Zb 19 28 4)
 (.tk 6 (Zq 20 (.build 174 #[(0,(Zr 18)),(1,(Zr 19))]))
 (.tk 7 (Zq 21 (.buildSlice 175 1 #[(0,(Zr 20))]))
 (.one [2,3,4,5,6,7,8,9,10] (Zl 16 14 15 175) .fin)))))))) [Zl 22 16 21 175,Zc 6 22,Zq 7 (.assign (.const (.bool true)))]) .ret) .skip))
 (.seq
 (.seq
 (.reg [Zd 23 28 4 0,Zb 24 3 23,Zm 25 .neq 3 24 3,Za 26 25,Zp 27 (.fieldAddr 28 (Zr 4) 1) 26 false,Zp 28 (.load 9 (Zr 27)) 26 false,Zp 29 (.fieldAddr 126 (Zr 3) 1) 26 false,Zp 30 (.load 9 (Zr 29)) 26 false,Zp 31 (.binOp .neq 9 (Zr 28) (Zr 30) 9) 26 false,Zq 32 (.pick (Zr 26) (.const (.bool true)) (Zr 31)),Za 33 32,Zp 34 (.fieldAddr 28 (Zr 4) 2) 33 false,Zp 35 (.load 26 (Zr 34)) 33 false,Zp 36 (.call { callee:=(.builtin .len),args:=#[Zr 35],argTypes:=#[26] }) 33 false,Zp 37 (.fieldAddr 126 (Zr 3) 2) 33 false,Zp 38 (.load 122 (Zr 37)) 33 false,Zp 39 (.call { callee:=(.builtin .len),args:=#[Zr 38],argTypes:=#[122] }) 33 false,Zp 40 (.binOp .neq 3 (Zr 36) (Zr 39) 3) 33 false,Zq 41 (.pick (Zr 33) (.const (.bool true)) (Zr 40))])
 (.cond (Zr 41)
 (.seq
 (.reg [Za 42 2,Zc 6 42,Zq 7 (.assign (.const (.bool false)))]) .ret) .skip))
 (.seqL
 (.seq
 (.reg [Zf 8 0])
 (.block 0 (.loop b131_1))) c131_1))))
theorem fd131:FnD Tryz.prog 131 70 [(.tmp 6),(.tmp 7)] c131:=⟨⟨Tryz.f131,Tryz.f131.body.getD .skip,Tryz.func131,by kernel_rfl,by kernel_rfl,by kernel_rfl,by kernel_rfl⟩⟩
def b135_1:ACode:=(.seq
 (.reg [Zn 9 .lss 3 8 7])
 (.seq
 (.cond (Zr 9) .skip (.exit 0))
 (.seq
 (.block 1
 (.seq
 (.reg [Za 10 8,Zc 5 10])
 (.seq
 (.reg [Za 11 1,Za 12 0,Za 13 5,Zk 14 213 12 13,Zb 15 5 14,Zq 16 (.call { callee:=(.value (Zr 11)),args:=#[Zr 15],argTypes:=#[5] })])
 (.cond (Zr 16)
 (.seq
 (.reg [Za 17 5,Zc 4 17]) .ret) .skip))))
 (.reg [Zm 18 .add 3 8 1,Za 8 18]))))
def c135_1:ACode:=(.seq
 (.reg [Zq 4 (.assign (.const (.int .i64 (-1))))]) .ret)
def c135:ACode:=(.seq
 (.reg [Zf 4 0])
 (.seqL
 (.seq
 (.reg [Za 6 0,Ze 7 6 213,Zq 8 (.move (.const (.int .i64 0)))])
 (.block 0 (.loop b135_1))) c135_1))
theorem fd135:FnD Tryz.prog 135 19 [(.tmp 4)] c135:=⟨⟨Tryz.f135,Tryz.f135.body.getD .skip,Tryz.func135,by kernel_rfl,by kernel_rfl,by kernel_rfl,by kernel_rfl⟩⟩
def c136:ACode:=(.seq
 (.reg [Zj 1 74 0,Zq 2 (.assign (.const .nilFunc))])
 (.seq
 (.reg [Zq 3 (.makeFunc (.func 141) #[] #[Zr 1]),Zc 2 3]) .ret))
theorem fd136:FnD Tryz.prog 136 4 [(.tmp 2)] c136:=⟨⟨Tryz.f136,Tryz.f136.body.getD .skip,Tryz.func136,by kernel_rfl,by kernel_rfl,by kernel_rfl,by kernel_rfl⟩⟩
def c137:ACode:=(.seq
 (.reg [Zj 1 74 0,Zq 2 (.assign (.const (.bool false)))])
 (.seq
 (.reg [Zd 3 74 1 0,Zb 4 4 3,Zq 5 (.unOp .not 4 (Zr 4)),Zc 2 5]) .ret))
theorem fd137:FnD Tryz.prog 137 6 [(.tmp 2)] c137:=⟨⟨Tryz.f137,Tryz.f137.body.getD .skip,Tryz.func137,by kernel_rfl,by kernel_rfl,by kernel_rfl,by kernel_rfl⟩⟩
def c138:ACode:=(.seq
 (.reg [Zj 1 74 0,Zq 2 (.assign (.const (.bool false)))])
 (.seq
 (.reg [Zd 3 74 1 0,Zb 4 4 3,Zc 2 4]) .ret))
theorem fd138:FnD Tryz.prog 138 5 [(.tmp 2)] c138:=⟨⟨Tryz.f138,Tryz.f138.body.getD .skip,Tryz.func138,by kernel_rfl,by kernel_rfl,by kernel_rfl,by kernel_rfl⟩⟩
def c139:ACode:=(.seq
 (.reg [Zj 1 35 0,Zq 2 (.assign (.const (.bool false)))])
 (.seq
 (.reg [Zd 4 35 1 2,Zb 5 33 4,Ze 6 5 33,Zc 3 6])
 (.seq
 (.seq
 (.reg [Zd 7 35 1 0,Zb 8 3 7])
 (.block 0
 (.seq
 (.seq
 (.reg [Zm 10 .eql 3 8 1,Zc 9 10])
 (.cond (Zr 9) .skip
 (.reg [Zm 11 .eql 3 8 2,Zc 9 11])))
 (.cond (Zr 9)
 (.seq
 (.reg [Za 12 3,Zm 13 .gtr 3 12 0,Za 14 13,Zp 15 (.fieldAddr 35 (Zr 1) 1) 14 false,Zp 16 (.load 9 (Zr 15)) 14 false,Zp 17 (.call { callee:=(.value (.func 77)),args:=#[Zr 16],argTypes:=#[9] }) 14 false,Zp 18 (.unOp .not 4 (Zr 17)) 14 false,Zq 19 (.pick (Zr 14) (.const (.bool true)) (Zr 18)),Zc 2 19]) .ret)
 (.seq
 (.reg [Zm 21 .eql 3 8 3,Zc 20 21])
 (.cond (Zr 20)
 (.seq
 (.reg [Zd 22 35 1 1,Zb 23 9 22,Zo 24 77 #[Zr 23] #[9],Zq 25 (.unOp .not 4 (Zr 24)),Zc 2 25]) .ret)
 (.seq
 (.reg [Zm 27 .eql 3 8 4,Zc 26 27])
 (.cond (Zr 26)
 (.seq
 (.reg [Za 28 3,Zm 29 .lss 3 28 2,Za 30 29,Zp 31 (.fieldAddr 35 (Zr 1) 1) 30 false,Zp 32 (.load 9 (Zr 31)) 30 false,Zp 33 (.binOp .neq 9 (Zr 32) (.const (.string { data:=#[] })) 9) 30 false,Zq 34 (.pick (Zr 30) (.const (.bool true)) (Zr 33)),Zc 2 34]) .ret)
 (.seq
 (.reg [Zm 36 .eql 3 8 5,Zc 35 36])
 (.cond (Zr 35)
 (.seq
 (.reg [Za 37 3,Zm 38 .neq 3 37 1,Za 39 38,Zp 40 (.fieldAddr 35 (Zr 1) 1) 39 false,Zp 41 (.load 9 (Zr 40)) 39 false,Zp 42 (.call { callee:=(.value (.func 77)),args:=#[Zr 41],argTypes:=#[9] }) 39 false,Zp 43 (.unOp .not 4 (Zr 42)) 39 false,Zq 44 (.pick (Zr 39) (.const (.bool true)) (Zr 43)),Zc 2 44]) .ret) .skip))))))))))
 (.seq
 (.reg [Zq 2 (.assign (.const (.bool true)))]) .ret))))
theorem fd139:FnD Tryz.prog 139 45 [(.tmp 2)] c139:=⟨⟨Tryz.f139,Tryz.f139.body.getD .skip,Tryz.func139,by kernel_rfl,by kernel_rfl,by kernel_rfl,by kernel_rfl⟩⟩
def b140_1:ACode:=(.seq
 (.seq
 (.reg [Za 5 0,Zq 6 (.binOp .neq 220 (Zr 5) (.const (.pointer none)) 220)])
 (.cond (Zr 6) .skip (.exit 0)))
 (.seq
 (.block 1
 (.seq
 (.reg [Za 11 0,Zq 12 (.nilCheck (Zr 11)),Zd 13 243 12 0,Zb 14 9 13,Za 15 1,Zn 16 .eql 9 14 15])
 (.cond (Zr 16)
 (.seq
 (.reg [Zq 4 (.assign (.const (.bool true)))]) .ret) .skip)))
 (.reg [Za 7 0,Zq 8 (.nilCheck (Zr 7)),Zd 9 243 8 1,Zb 10 220 9,Zc 0 10])))
def c140_1:ACode:=(.seq
 (.reg [Zq 4 (.assign (.const (.bool false)))]) .ret)
def c140:ACode:=(.seq
 (.reg [Zq 4 (.assign (.const (.bool false)))])
 (.seqL
 (.block 0 (.loop b140_1)) c140_1))
theorem fd140:FnD Tryz.prog 140 17 [(.tmp 4)] c140:=⟨⟨Tryz.f140,Tryz.f140.body.getD .skip,Tryz.func140,by kernel_rfl,by kernel_rfl,by kernel_rfl,by kernel_rfl⟩⟩
def c141:ACode:=(.seq
 (.reg [Zj 2 245 0])
 (.seq
 (.reg [Zi 3 246])
 (.seq
 (.reg [Zq 4 (.makeFunc (.func 142) #[] #[Zr 2,Zr 3]),Zg 246 3 4])
 (.reg [Zb 5 246 3,Zb 6 74 1,Zq 7 (.call { callee:=(.value (Zr 5)),args:=#[Zr 6,(.const (.int .i64 0))],argTypes:=#[74,3] })]))))
theorem fd141:FnD Tryz.prog 141 8 [] c141:=⟨⟨Tryz.f141,Tryz.f141.body.getD .skip,Tryz.func141,by kernel_rfl,by kernel_rfl,by kernel_rfl,by kernel_rfl⟩⟩
def c142:ACode:=(.seq
 (.reg [Zj 4 74 0,Zj 5 3 1,Zq 6 (.assign (.const (.bool false)))])
 (.seq
 (.reg [Zb 7 245 2,Zb 8 74 4,Zb 9 3 5,Zq 10 (.build 241 #[(0,(Zr 8)),(1,(Zr 9))]),Zq 11 (.call { callee:=(.value (Zr 7)),args:=#[Zr 10],argTypes:=#[241] }),Za 12 11,Zp 13 (.fieldAddr 74 (Zr 4) 2) 12 true,Zp 14 (.load 72 (Zr 13)) 12 true,Zp 15 (.makeFunc (.func 144) #[] #[Zr 3,Zr 5]) 12 true,Zp 16 (.call { callee:=(.value (.func 143)),args:=#[Zr 14,Zr 15],argTypes:=#[72,248] }) 12 true,Zp 17 (.unOp .not 4 (Zr 16)) 12 true,Zq 18 (.pick (Zr 12) (Zr 17) (.const (.bool false))),Zc 6 18]) .ret))
theorem fd142:FnD Tryz.prog 142 19 [(.tmp 6)] c142:=⟨⟨Tryz.f142,Tryz.f142.body.getD .skip,Tryz.func142,by kernel_rfl,by kernel_rfl,by kernel_rfl,by kernel_rfl⟩⟩
def c143:ACode:=(.seq
 (.reg [Zq 4 (.assign (.const (.bool false)))])
 (.seq
 (.reg [Za 5 0,Za 6 1,Zo 7 145 #[Zr 5,Zr 6] #[72,248],Zm 8 .geq 3 7 0,Zc 4 8]) .ret))
theorem fd143:FnD Tryz.prog 143 9 [(.tmp 4)] c143:=⟨⟨Tryz.f143,Tryz.f143.body.getD .skip,Tryz.func143,by kernel_rfl,by kernel_rfl,by kernel_rfl,by kernel_rfl⟩⟩
def c144:ACode:=(.seq
 (.reg [Zj 3 74 0,Zq 4 (.assign (.const (.bool false)))])
 (.seq
 (.reg [Zb 5 246 1,Zb 6 74 3,Zb 7 3 2,Zm 8 .add 3 7 1,Zq 9 (.call { callee:=(.value (Zr 5)),args:=#[Zr 6,Zr 8],argTypes:=#[74,3] }),Zq 10 (.unOp .not 4 (Zr 9)),Zc 4 10]) .ret))
theorem fd144:FnD Tryz.prog 144 11 [(.tmp 4)] c144:=⟨⟨Tryz.f144,Tryz.f144.body.getD .skip,Tryz.func144,by kernel_rfl,by kernel_rfl,by kernel_rfl,by kernel_rfl⟩⟩
def b145_1:ACode:=(.seq
 (.reg [Zn 9 .lss 3 8 7])
 (.seq
 (.cond (Zr 9) .skip (.exit 0))
 (.seq
 (.block 1
 (.seq
 (.reg [Za 10 8,Zc 5 10])
 (.seq
 (.reg [Za 11 1,Za 12 0,Za 13 5,Zk 14 72 12 13,Zb 15 74 14,Zq 16 (.call { callee:=(.value (Zr 11)),args:=#[Zr 15],argTypes:=#[74] })])
 (.cond (Zr 16)
 (.seq
 (.reg [Za 17 5,Zc 4 17]) .ret) .skip))))
 (.reg [Zm 18 .add 3 8 1,Za 8 18]))))
def c145_1:ACode:=(.seq
 (.reg [Zq 4 (.assign (.const (.int .i64 (-1))))]) .ret)
def c145:ACode:=(.seq
 (.reg [Zf 4 0])
 (.seqL
 (.seq
 (.reg [Za 6 0,Ze 7 6 72,Zq 8 (.move (.const (.int .i64 0)))])
 (.block 0 (.loop b145_1))) c145_1))
theorem fd145:FnD Tryz.prog 145 19 [(.tmp 4)] c145:=⟨⟨Tryz.f145,Tryz.f145.body.getD .skip,Tryz.func145,by kernel_rfl,by kernel_rfl,by kernel_rfl,by kernel_rfl⟩⟩
def c162:ACode:=(.seq
 (.reg [Zj 1 136 0,Zf 2 0])
 (.seq
 (.reg [Zf 2 1]) .ret))
theorem fd162:FnD Tryz.prog 162 3 [(.tmp 2)] c162:=⟨⟨Tryz.f162,Tryz.f162.body.getD .skip,Tryz.func162,by kernel_rfl,by kernel_rfl,by kernel_rfl,by kernel_rfl⟩⟩
def c163:ACode:=(.seq
 (.reg [Zj 1 139 0,Zf 2 0])
 (.seq
 (.seq
 (.reg [Zd 3 139 1 1,Zb 4 132 3,Ze 5 4 132,Zm 6 .eql 3 5 0])
 (.cond (Zr 6)
 (.seq
 (.reg [Zf 2 1]) .ret) .skip))
 (.seq
 (.reg [Zd 7 139 1 1,Zb 8 132 7,Zo 9 122 #[Zr 8] #[132],Zq 10 (.binOp .add 3 (.const (.int .i64 2)) (Zr 9) 3),Zc 2 10]) .ret)))
theorem fd163:FnD Tryz.prog 163 11 [(.tmp 2)] c163:=⟨⟨Tryz.f163,Tryz.f163.body.getD .skip,Tryz.func163,by kernel_rfl,by kernel_rfl,by kernel_rfl,by kernel_rfl⟩⟩
def c164:ACode:=(.seq
 (.reg [Zj 1 142 0,Zf 2 0])
 (.seq
 (.reg [Zd 3 142 1 1,Zb 4 132 3,Zo 5 122 #[Zr 4] #[132],Zq 6 (.binOp .add 3 (.const (.int .i64 1)) (Zr 5) 3),Zc 2 6]) .ret))
theorem fd164:FnD Tryz.prog 164 7 [(.tmp 2)] c164:=⟨⟨Tryz.f164,Tryz.f164.body.getD .skip,Tryz.func164,by kernel_rfl,by kernel_rfl,by kernel_rfl,by kernel_rfl⟩⟩
end Go.PV.YtglpmlbbaedbiaaGreat
end
