/- Part 3 of 11 of what the proof of Steps needs. -/
import Derived.Test.YtglpmlbbaedbiaaGreatSteps2
import Derived.Test.YtglpmlbbaedbiaaGreatProg
import Derived.KernelRfl
set_option linter.unusedVariables false
set_option linter.unusedSimpArgs false
set_option linter.defProp false
section
set_option maxRecDepth 100000
namespace Go.PV.YtglpmlbbaedbiaaGreat
open Go Go.Proofs
def Za (d s:Nat):GOp:=⟨some d,.move (.tmp s),none⟩
def Zb (d:Nat) (T:TypeId) (s:Nat):GOp:=⟨some d,.load T (.tmp s),none⟩
def Zc (d s:Nat):GOp:=⟨some d,.assign (.tmp s),none⟩
def Zd (d:Nat) (T:TypeId) (s f:Nat):GOp:=⟨some d,.fieldAddr T (.tmp s) f,none⟩
def Ze (d s:Nat) (T:TypeId):GOp:=⟨some d,.call { callee:=.builtin .len,args:=#[.tmp s],argTypes:=#[T] },none⟩
def Zf (d:Nat) (n:Int):GOp:=⟨some d,.assign (.const (.int .i64 n)),none⟩
def Zg (T:TypeId) (a b:Nat):GOp:=⟨none,.store T (.tmp a) (.tmp b),none⟩
def Zh (d s i:Nat):GOp:=⟨some d,.extract (.tmp s) i,none⟩
def Zi (d:Nat) (T:TypeId):GOp:=⟨some d,.alloc T,none⟩
def Zj (d:Nat) (T:TypeId) (s:Nat):GOp:=⟨some d,.box T (.tmp s),none⟩
def Zk (d:Nat) (T:TypeId) (s i:Nat):GOp:=⟨some d,.indexAddr T (.tmp s) (.tmp i),none⟩
def Zl (d a b:Nat) (T:TypeId):GOp:=⟨some d,.call { callee:=.builtin .append,args:=#[.tmp a,.tmp b],argTypes:=#[T,T] },none⟩
def Zm (d:Nat) (o:BinOp) (T:TypeId) (a:Nat) (n:Int):GOp:=⟨some d,.binOp o T (.tmp a) (.const (.int .i64 n)) T,none⟩
def Zn (d:Nat) (o:BinOp) (T:TypeId) (a b:Nat):GOp:=⟨some d,.binOp o T (.tmp a) (.tmp b) T,none⟩
def Zo (d f:Nat) (l:Array Operand) (T:Array TypeId):GOp:=⟨some d,.call { callee:=.value (.func f),args:=l,argTypes:=T },none⟩
def Zp (d:Nat) (x:Op) (g:Nat) (b:Bool):GOp:=⟨some d,x,some (g,b)⟩
def Zq (d:Nat) (x:Op):GOp:=⟨some d,x,none⟩
def Zr (s:Nat):Operand:=.tmp s
theorem mixed:Tryz.prog.follows .mixedOrders=true:=by kernel_rfl
theorem Yp:ldT Tryz.prog 28=some (3,true):=by kernel_rfl
theorem en_5:ZO Tryz.prog 5=true:=by kernel_rfl
theorem YI:ldT Tryz.prog 25=some (2,true):=by kernel_rfl
theorem en_6:ZO Tryz.prog 6=true:=by kernel_rfl
theorem en_7:ZO Tryz.prog 7=true:=by kernel_rfl
theorem en_8:ZO Tryz.prog 8=true:=by kernel_rfl
theorem ZkV:ZO Tryz.prog 10=true:=by kernel_rfl
theorem en_9:ZO Tryz.prog 9=true:=by kernel_rfl
theorem Yt:ldT Tryz.prog 35=some (3,true):=by kernel_rfl
theorem en_14:ZO Tryz.prog 14=true:=by kernel_rfl
theorem Yc:ldT Tryz.prog 3=some (1,false):=by kernel_rfl
theorem YD:szT Tryz.prog 35=some 3:=by kernel_rfl
theorem Ys:zeroT Tryz.prog 35=some [(.int .i64 0),(.string ⟨#[]⟩),(.slice none 0 0)]:=by kernel_rfl
theorem en_15:ZO Tryz.prog 15=true:=by kernel_rfl
theorem en_16:ZO Tryz.prog 16=true:=by kernel_rfl
theorem Yi:zeroT Tryz.prog 28=some [(.int .i64 0),(.string ⟨#[]⟩),(.slice none 0 0)]:=by kernel_rfl
theorem YJ:szT Tryz.prog 28=some 3:=by kernel_rfl
theorem en_17:ZO Tryz.prog 17=true:=by kernel_rfl
theorem en_18:ZO Tryz.prog 18=true:=by kernel_rfl
theorem ZhR:ZO Tryz.prog 19=true:=by kernel_rfl
theorem Wr:flT Tryz.prog 25 0=some (0,1,false):=by kernel_rfl
theorem Zav:ldT Tryz.prog 22=some (1,false):=by kernel_rfl
theorem Ja:elT Tryz.prog 22=some (102,2,24):=by kernel_rfl
theorem Xj:flT Tryz.prog 25 1=some (1,1,false):=by kernel_rfl
theorem Wz:ldT Tryz.prog 23=some (1,false):=by kernel_rfl
theorem Wd:elT Tryz.prog 23=some (67,3,48):=by kernel_rfl
theorem ZbC:ldT Tryz.prog 67=some (3,true):=by kernel_rfl
theorem ZbD:zeroT Tryz.prog 67=some [(.string ⟨#[]⟩),(.int .i64 0),(.slice none 0 0)]:=by kernel_rfl
theorem Zf0:szT Tryz.prog 67=some 3:=by kernel_rfl
theorem en_20:ZO Tryz.prog 20=true:=by kernel_rfl
theorem en_21:ZO Tryz.prog 21=true:=by kernel_rfl
theorem en_22:ZO Tryz.prog 22=true:=by kernel_rfl
theorem en_23:ZO Tryz.prog 23=true:=by kernel_rfl
theorem stT_74:stT Tryz.prog 74=some ([(.bool false),(.string ⟨#[]⟩),(.slice none 0 0)],[(0,1),(1,1),(2,1)]):=by kernel_rfl
theorem Zaj:zeroT Tryz.prog 74=some [(.bool false),(.string ⟨#[]⟩),(.slice none 0 0)]:=by kernel_rfl
theorem ZhA:szT Tryz.prog 74=some 3:=by kernel_rfl
theorem zeroT_44:zeroT Tryz.prog 44=some [(.slice none 0 0),(.slice none 0 0)]:=by kernel_rfl
theorem ZaK:elT Tryz.prog 42=some (81,3,48):=by kernel_rfl
theorem ZcJ:zeroT Tryz.prog 81=some [(.string ⟨#[]⟩),(.int .i64 0),(.slice none 0 0)]:=by kernel_rfl
theorem stT_81:stT Tryz.prog 81=some ([(.string ⟨#[]⟩),(.int .i64 0),(.slice none 0 0)],[(0,1),(1,1),(2,1)]):=by kernel_rfl
theorem Zch:elT Tryz.prog 79=some (78,4,72):=by kernel_rfl
theorem ZbE:zeroT Tryz.prog 78=some [(.slice none 0 0),(.int .i64 0),(.string ⟨#[]⟩),(.slice none 0 0)]:=by kernel_rfl
theorem stT_78:stT Tryz.prog 78=some ([(.slice none 0 0),(.int .i64 0),(.string ⟨#[]⟩),(.slice none 0 0)],[(0,1),(1,3)]):=by kernel_rfl
theorem Yn:elT Tryz.prog 33=some (35,3,48):=by kernel_rfl
theorem XU:elT Tryz.prog 72=some (74,3,48):=by kernel_rfl
theorem Wn:ldT Tryz.prog 74=some (3,true):=by kernel_rfl
theorem Zaw:elT Tryz.prog 41=some (76,2,24):=by kernel_rfl
theorem ZeK:zeroT Tryz.prog 76=some [(.string ⟨#[]⟩),(.int .i64 0)]:=by kernel_rfl
theorem szT_44:szT Tryz.prog 44=some 2:=by kernel_rfl
theorem Zbc:ldT Tryz.prog 44=some (2,true):=by kernel_rfl
theorem Yw:flT Tryz.prog 35 1=some (1,1,false):=by kernel_rfl
theorem Ye:ldT Tryz.prog 9=some (1,false):=by kernel_rfl
theorem Yj:flT Tryz.prog 35 2=some (2,1,false):=by kernel_rfl
theorem Yz:ldT Tryz.prog 33=some (1,false):=by kernel_rfl
theorem und_33:Tryz.prog.underlying 33=some (.slice 35):=by kernel_rfl
theorem zeroT_38:zeroT Tryz.prog 38=some [(.int .i64 0)]:=by kernel_rfl
theorem en_24:ZO Tryz.prog 24=true:=by kernel_rfl
theorem Wj:zeroT Tryz.prog 85=some [(.map none),(.map none)]:=by kernel_rfl
theorem JG:szT Tryz.prog 85=some 2:=by kernel_rfl
theorem Zf1:szT Tryz.prog 38=some 1:=by kernel_rfl
theorem ldT_38:ldT Tryz.prog 38=some (1,false):=by kernel_rfl
theorem en_25:ZO Tryz.prog 25=true:=by kernel_rfl
theorem WR:ldT Tryz.prog 85=some (2,true):=by kernel_rfl
theorem en_26:ZO Tryz.prog 26=true:=by kernel_rfl
theorem en_27:ZO Tryz.prog 27=true:=by kernel_rfl
theorem en_28:ZO Tryz.prog 28=true:=by kernel_rfl
theorem ldT_102:ldT Tryz.prog 102=some (2,true):=by kernel_rfl
theorem Zm2:zeroT Tryz.prog 102=some [(.string ⟨#[]⟩),(.int .i64 0)]:=by kernel_rfl
theorem szT_102:szT Tryz.prog 102=some 2:=by kernel_rfl
theorem XG:flT Tryz.prog 44 0=some (0,1,false):=by kernel_rfl
theorem Ws:ldT Tryz.prog 41=some (1,false):=by kernel_rfl
theorem szT_41:szT Tryz.prog 41=some 1:=by kernel_rfl
theorem en_29:ZO Tryz.prog 29=true:=by kernel_rfl
theorem ZbF:ldT Tryz.prog 42=some (1,false):=by kernel_rfl
theorem WU:flT Tryz.prog 44 1=some (1,1,false):=by kernel_rfl
theorem szT_42:szT Tryz.prog 42=some 1:=by kernel_rfl
theorem ZZ:flT Tryz.prog 28 0=some (0,1,false):=by kernel_rfl
theorem Yq:flT Tryz.prog 28 1=some (1,1,false):=by kernel_rfl
theorem WJ:stT Tryz.prog 35=some ([(.int .i64 0),(.string ⟨#[]⟩),(.slice none 0 0)],[(0,1),(1,1),(2,1)]):=by kernel_rfl
theorem Yb:flT Tryz.prog 28 2=some (2,1,false):=by kernel_rfl
theorem Yv:ldT Tryz.prog 26=some (1,false):=by kernel_rfl
theorem Yf:elT Tryz.prog 26=some (28,3,48):=by kernel_rfl
theorem szT_33:szT Tryz.prog 33=some 1:=by kernel_rfl
theorem Zgf:ZO Tryz.prog 30=true:=by kernel_rfl
theorem Yg:flT Tryz.prog 35 0=some (0,1,false):=by kernel_rfl
theorem en_36:ZO Tryz.prog 36=true:=by kernel_rfl
theorem Zci:ZO Tryz.prog 37=true:=by kernel_rfl
theorem ZnK:ZO Tryz.prog 38=true:=by kernel_rfl
theorem Zjn:ZO Tryz.prog 39=true:=by kernel_rfl
theorem Wt:stT Tryz.prog 28=some ([(.int .i64 0),(.string ⟨#[]⟩),(.slice none 0 0)],[(0,1),(1,1),(2,1)]):=by kernel_rfl
theorem Zba:ZO Tryz.prog 40=true:=by kernel_rfl
theorem ZhS:ZO Tryz.prog 41=true:=by kernel_rfl
theorem ZhT:ZO Tryz.prog 42=true:=by kernel_rfl
theorem Xz:flT Tryz.prog 67 2=some (2,1,false):=by kernel_rfl
theorem Jb:ldT Tryz.prog 65=some (1,false):=by kernel_rfl
theorem WK:elT Tryz.prog 65=some (124,4,72):=by kernel_rfl
theorem Zi5:ldT Tryz.prog 124=some (4,true):=by kernel_rfl
theorem Zh1:zeroT Tryz.prog 124=some [(.slice none 0 0),(.int .i64 0),(.string ⟨#[]⟩),(.slice none 0 0)]:=by kernel_rfl
theorem Zmi:szT Tryz.prog 124=some 4:=by kernel_rfl
theorem ZcU:flT Tryz.prog 124 1=some (1,3,true):=by kernel_rfl
theorem XD:flT Tryz.prog 124 0=some (0,1,false):=by kernel_rfl
theorem YS:ldT Tryz.prog 122=some (1,false):=by kernel_rfl
theorem YG:elT Tryz.prog 122=some (126,3,48):=by kernel_rfl
theorem Jc:ldT Tryz.prog 126=some (3,true):=by kernel_rfl
theorem ZcV:zeroT Tryz.prog 126=some [(.bool false),(.string ⟨#[]⟩),(.slice none 0 0)]:=by kernel_rfl
theorem Zgg:szT Tryz.prog 126=some 3:=by kernel_rfl
theorem en_43:ZO Tryz.prog 43=true:=by kernel_rfl
theorem ZkW:ZO Tryz.prog 44=true:=by kernel_rfl
theorem Zjo:stT Tryz.prog 85=some ([(.map none),(.map none)],[(0,1),(1,1)]):=by kernel_rfl
theorem en_45:ZO Tryz.prog 45=true:=by kernel_rfl
theorem en_46:ZO Tryz.prog 46=true:=by kernel_rfl
theorem en_47:ZO Tryz.prog 47=true:=by kernel_rfl
theorem en_48:ZO Tryz.prog 48=true:=by kernel_rfl
theorem ZeA:ldT Tryz.prog 82=some (1,false):=by kernel_rfl
theorem Za6:flT Tryz.prog 85 0=some (0,1,false):=by kernel_rfl
theorem JK:flT Tryz.prog 81 1=some (1,1,false):=by kernel_rfl
theorem en_49:ZO Tryz.prog 49=true:=by kernel_rfl
theorem en_50:ZO Tryz.prog 50=true:=by kernel_rfl
theorem szT_3:szT Tryz.prog 3=some 1:=by kernel_rfl
theorem en_51:ZO Tryz.prog 51=true:=by kernel_rfl
theorem en_52:ZO Tryz.prog 52=true:=by kernel_rfl
theorem ZeL:flT Tryz.prog 67 0=some (0,1,false):=by kernel_rfl
theorem WG:flT Tryz.prog 67 1=some (1,1,false):=by kernel_rfl
theorem Zjp:szT Tryz.prog 81=some 3:=by kernel_rfl
theorem Zjq:szT Tryz.prog 78=some 4:=by kernel_rfl
theorem en_53:ZO Tryz.prog 53=true:=by kernel_rfl
theorem WL:ldT Tryz.prog 72=some (1,false):=by kernel_rfl
theorem Za7:flT Tryz.prog 78 0=some (0,1,false):=by kernel_rfl
theorem szT_72:szT Tryz.prog 72=some 1:=by kernel_rfl
theorem ZbG:flT Tryz.prog 81 2=some (2,1,false):=by kernel_rfl
theorem ZhB:ldT Tryz.prog 79=some (1,false):=by kernel_rfl
theorem Zjr:ldT Tryz.prog 78=some (4,true):=by kernel_rfl
theorem szT_79:szT Tryz.prog 79=some 1:=by kernel_rfl
theorem Zdi:ldT Tryz.prog 81=some (3,true):=by kernel_rfl
theorem ZnL:ZO Tryz.prog 54=true:=by kernel_rfl
theorem en_55:ZO Tryz.prog 55=true:=by kernel_rfl
theorem Zbo:ZO Tryz.prog 56=true:=by kernel_rfl
theorem en_61:ZO Tryz.prog 61=true:=by kernel_rfl
theorem en_64:ZO Tryz.prog 64=true:=by kernel_rfl
theorem ZnM:ZO Tryz.prog 65=true:=by kernel_rfl
theorem en_66:ZO Tryz.prog 66=true:=by kernel_rfl
theorem en_68:ZO Tryz.prog 68=true:=by kernel_rfl
theorem ZkX:ZO Tryz.prog 67=true:=by kernel_rfl
theorem en_69:ZO Tryz.prog 69=true:=by kernel_rfl
theorem Jd:elT Tryz.prog 166=some (165,4,64):=by kernel_rfl
theorem WH:zeroT Tryz.prog 165=some [(.string ⟨#[]⟩),(.int .i64 0),(.string ⟨#[]⟩),(.slice none 0 0)]:=by kernel_rfl
theorem Zmj:stT Tryz.prog 165=some ([(.string ⟨#[]⟩),(.int .i64 0),(.string ⟨#[]⟩),(.slice none 0 0)],[(0,1),(1,3)]):=by kernel_rfl
theorem en_70:ZO Tryz.prog 70=true:=by kernel_rfl
theorem en_71:ZO Tryz.prog 71=true:=by kernel_rfl
theorem en_72:ZO Tryz.prog 72=true:=by kernel_rfl
theorem en_73:ZO Tryz.prog 73=true:=by kernel_rfl
theorem en_75:ZO Tryz.prog 75=true:=by kernel_rfl
theorem Je:elT Tryz.prog 175=some (174,4,64):=by kernel_rfl
theorem Jv:zeroT Tryz.prog 174=some [(.string ⟨#[]⟩),(.int .i64 0),(.string ⟨#[]⟩),(.slice none 0 0)]:=by kernel_rfl
theorem Zmk:stT Tryz.prog 174=some ([(.string ⟨#[]⟩),(.int .i64 0),(.string ⟨#[]⟩),(.slice none 0 0)],[(0,1),(1,3)]):=by kernel_rfl
theorem en_74:ZO Tryz.prog 74=true:=by kernel_rfl
theorem Xa:flT Tryz.prog 126 2=some (2,1,false):=by kernel_rfl
theorem en_76:ZO Tryz.prog 76=true:=by kernel_rfl
theorem Zg2:flT Tryz.prog 81 0=some (0,1,false):=by kernel_rfl
theorem ZeM:ZO Tryz.prog 77=true:=by kernel_rfl
theorem ZaC:ZO Tryz.prog 78=true:=by kernel_rfl
theorem ZdR:ZO Tryz.prog 79=true:=by kernel_rfl
theorem en_80:ZO Tryz.prog 80=true:=by kernel_rfl
theorem ZlH:ldT Tryz.prog 76=some (2,true):=by kernel_rfl
theorem szT_76:szT Tryz.prog 76=some 2:=by kernel_rfl
theorem ZeN:flT Tryz.prog 85 1=some (1,1,false):=by kernel_rfl
theorem Zjs:ldT Tryz.prog 83=some (1,false):=by kernel_rfl
theorem Zg3:flT Tryz.prog 76 0=some (0,1,false):=by kernel_rfl
theorem ZbH:flT Tryz.prog 76 1=some (1,1,false):=by kernel_rfl
theorem ZnN:ZO Tryz.prog 81=true:=by kernel_rfl
theorem YH:elT Tryz.prog 181=some (9,1,16):=by kernel_rfl
theorem Xr:zeroT Tryz.prog 9=some [(.string ⟨#[]⟩)]:=by kernel_rfl
theorem en_82:ZO Tryz.prog 82=true:=by kernel_rfl
theorem en_83:ZO Tryz.prog 83=true:=by kernel_rfl
theorem Zkj:flT Tryz.prog 78 1=some (1,3,true):=by kernel_rfl
theorem en_84:ZO Tryz.prog 84=true:=by kernel_rfl
theorem en_85:ZO Tryz.prog 85=true:=by kernel_rfl
theorem Xx:flT Tryz.prog 126 0=some (0,1,false):=by kernel_rfl
theorem JQ:ldT Tryz.prog 4=some (1,false):=by kernel_rfl
theorem XJ:flT Tryz.prog 126 1=some (1,1,false):=by kernel_rfl
theorem Wk:flT Tryz.prog 74 2=some (2,1,false):=by kernel_rfl
theorem en_86:ZO Tryz.prog 86=true:=by kernel_rfl
theorem JL:ZO Tryz.prog 87=true:=by kernel_rfl
theorem Zcj:ZO Tryz.prog 88=true:=by kernel_rfl
theorem ZeO:ZO Tryz.prog 89=true:=by kernel_rfl
theorem en_90:ZO Tryz.prog 90=true:=by kernel_rfl
theorem Zgh:ZO Tryz.prog 91=true:=by kernel_rfl
theorem JX:flT Tryz.prog 102 1=some (1,1,false):=by kernel_rfl
theorem ZhU:ZO Tryz.prog 92=true:=by kernel_rfl
theorem en_94:ZO Tryz.prog 94=true:=by kernel_rfl
theorem en_97:ZO Tryz.prog 97=true:=by kernel_rfl
theorem en_63:ZO Tryz.prog 63=true:=by kernel_rfl
theorem en_62:ZO Tryz.prog 62=true:=by kernel_rfl
theorem Ze5:elT Tryz.prog 231=some (33,1,24):=by kernel_rfl
theorem zeroT_33:zeroT Tryz.prog 33=some [(.slice none 0 0)]:=by kernel_rfl
theorem en_98:ZO Tryz.prog 98=true:=by kernel_rfl
theorem en_99:ZO Tryz.prog 99=true:=by kernel_rfl
theorem Zml:szT Tryz.prog 165=some 4:=by kernel_rfl
theorem Zh2:flT Tryz.prog 165 0=some (0,1,false):=by kernel_rfl
theorem Zm3:flT Tryz.prog 165 1=some (1,3,true):=by kernel_rfl
theorem en_101:ZO Tryz.prog 101=true:=by kernel_rfl
theorem en_102:ZO Tryz.prog 102=true:=by kernel_rfl
theorem en_100:ZO Tryz.prog 100=true:=by kernel_rfl
theorem en_104:ZO Tryz.prog 104=true:=by kernel_rfl
theorem en_103:ZO Tryz.prog 103=true:=by kernel_rfl
theorem en_105:ZO Tryz.prog 105=true:=by kernel_rfl
theorem en_106:ZO Tryz.prog 106=true:=by kernel_rfl
theorem en_107:ZO Tryz.prog 107=true:=by kernel_rfl
theorem Zjt:ZO Tryz.prog 108=true:=by kernel_rfl
theorem en_109:ZO Tryz.prog 109=true:=by kernel_rfl
theorem en_110:ZO Tryz.prog 110=true:=by kernel_rfl
theorem en_113:ZO Tryz.prog 113=true:=by kernel_rfl
theorem en_112:ZO Tryz.prog 112=true:=by kernel_rfl
theorem en_115:ZO Tryz.prog 115=true:=by kernel_rfl
theorem en_114:ZO Tryz.prog 114=true:=by kernel_rfl
theorem en_116:ZO Tryz.prog 116=true:=by kernel_rfl
theorem en_117:ZO Tryz.prog 117=true:=by kernel_rfl
theorem ZlI:ZO Tryz.prog 118=true:=by kernel_rfl
theorem ZlJ:ZO Tryz.prog 120=true:=by kernel_rfl
theorem ZlK:ZO Tryz.prog 119=true:=by kernel_rfl
theorem en_121:ZO Tryz.prog 121=true:=by kernel_rfl
theorem en_122:ZO Tryz.prog 122=true:=by kernel_rfl
theorem ZcK:flT Tryz.prog 74 0=some (0,1,false):=by kernel_rfl
theorem Jl:flT Tryz.prog 74 1=some (1,1,false):=by kernel_rfl
theorem en_123:ZO Tryz.prog 123=true:=by kernel_rfl
theorem Zfl:flT Tryz.prog 102 0=some (0,1,false):=by kernel_rfl
theorem en_124:ZO Tryz.prog 124=true:=by kernel_rfl
theorem en_125:ZO Tryz.prog 125=true:=by kernel_rfl
theorem en_126:ZO Tryz.prog 126=true:=by kernel_rfl
theorem ZeB:ZO Tryz.prog 127=true:=by kernel_rfl
theorem en_128:ZO Tryz.prog 128=true:=by kernel_rfl
theorem en_129:ZO Tryz.prog 129=true:=by kernel_rfl
theorem ZlL:ZO Tryz.prog 131=true:=by kernel_rfl
theorem ZcW:flT Tryz.prog 174 0=some (0,1,false):=by kernel_rfl
theorem Zh3:flT Tryz.prog 174 1=some (1,3,true):=by kernel_rfl
theorem ldT_174:ldT Tryz.prog 174=some (4,true):=by kernel_rfl
theorem szT_26:szT Tryz.prog 26=some 1:=by kernel_rfl
theorem en_132:ZO Tryz.prog 132=true:=by kernel_rfl
theorem ZlM:ZO Tryz.prog 134=true:=by kernel_rfl
theorem Zmm:Tryz.prog.underlying 166=some (.slice 165):=by kernel_rfl
theorem Zi6:ldT Tryz.prog 165=some (4,true):=by kernel_rfl
theorem en_135:ZO Tryz.prog 135=true:=by kernel_rfl
theorem en_111:ZO Tryz.prog 111=true:=by kernel_rfl
theorem zeroT_3:zeroT Tryz.prog 3=some [(.int .i64 0)]:=by kernel_rfl
theorem Zju:ZO Tryz.prog 136=true:=by kernel_rfl
theorem Zfm:zeroT Tryz.prog 241=some [(.bool false),(.string ⟨#[]⟩),(.slice none 0 0),(.int .i64 0)]:=by kernel_rfl
theorem Zi7:szT Tryz.prog 241=some 4:=by kernel_rfl
theorem Zm4:flT Tryz.prog 241 1=some (3,1,false):=by kernel_rfl
theorem JY:flT Tryz.prog 241 0=some (0,3,true):=by kernel_rfl
theorem Zdj:ZO Tryz.prog 137=true:=by kernel_rfl
theorem ZhC:ZO Tryz.prog 138=true:=by kernel_rfl
theorem Zm5:zeroT Tryz.prog 181=some [(.slice none 0 0)]:=by kernel_rfl
theorem Zmn:ldT Tryz.prog 181=some (1,false):=by kernel_rfl
theorem szT_181:szT Tryz.prog 181=some 1:=by kernel_rfl
theorem Zbd:ZO Tryz.prog 139=true:=by kernel_rfl
theorem ZeC:ZO Tryz.prog 140=true:=by kernel_rfl
theorem stT_243:stT Tryz.prog 243=some ([(.string ⟨#[]⟩),(.pointer none)],[(0,1),(1,1)]):=by kernel_rfl
theorem Zmo:ldT Tryz.prog 166=some (1,false):=by kernel_rfl
theorem Zmp:elT Tryz.prog 213=some (5,1,1):=by kernel_rfl
theorem ldT_5:ldT Tryz.prog 5=some (1,false):=by kernel_rfl
theorem en_141:ZO Tryz.prog 141=true:=by kernel_rfl
theorem Zm6:flT Tryz.prog 243 0=some (0,1,false):=by kernel_rfl
theorem Zm7:flT Tryz.prog 243 1=some (1,1,false):=by kernel_rfl
theorem ldT_220:ldT Tryz.prog 220=some (1,false):=by kernel_rfl
theorem Zh4:zeroT Tryz.prog 246=some [.nilFunc]:=by kernel_rfl
theorem ZhD:ZO Tryz.prog 142=true:=by kernel_rfl
theorem Zmq:szT Tryz.prog 246=some 1:=by kernel_rfl
theorem Zgi:ldT Tryz.prog 246=some (1,false):=by kernel_rfl
theorem Zmr:ldT Tryz.prog 245=some (1,false):=by kernel_rfl
theorem Zms:stT Tryz.prog 241=some ([(.bool false),(.string ⟨#[]⟩),(.slice none 0 0),(.int .i64 0)],[(0,3),(3,1)]):=by kernel_rfl
theorem ZlN:ZO Tryz.prog 144=true:=by kernel_rfl
theorem ZhE:ZO Tryz.prog 143=true:=by kernel_rfl
theorem en_145:ZO Tryz.prog 145=true:=by kernel_rfl
def Zw:GOp:=Zo 64 17 #[Zr 60,Zr 62,Zr 63] #[44,35,3]
def Zv:GPlan:=.one [7,8,10,11,12] (Zg 35 9 48) (.tk 11 (Zc 10 49) .fin)
def Zu:GPlan:=.one [8,9,11,12,13] (Zg 35 15 65) (.tk 12 (Zc 16 66) .fin)
def Zt:GPlan:=.one [3,4,5,6,7,8,9,10,11,12] (Zo 46 10 #[Zr 45] #[28]) (.one [4,5,6,7,8,9,10,11,12] (Zo 47 15 #[Zr 44,Zr 46] #[44,35]) (.tk 5 (Za 42 47) (.tk 6 (Zh 48 42 0) (.tk 7 (Zh 49 42 1) (.tk 8 (Zh 50 42 2) Zv)))))
def Zs:GPlan:=.one [3,4,5,6,7,8,9,10,11,12,13] (Zo 62 10 #[Zr 61] #[28]) (.one [5,6,7,8,9,10,11,12,13] Zw (.tk 6 (Za 58 64) (.tk 7 (Zh 65 58 0) (.tk 8 (Zh 66 58 1) (.tk 9 (Zh 67 58 2) Zu)))))
def c4:ACode:=(.seq
 (.reg [Zj 3 25 0,Zj 4 28 1,Zq 6 (.assign (.const (.bool false)))])
 (.seq
 (.reg [Zb 22 28 4,Zo 23 5 #[Zr 22] #[28],Za 21 23,Zh 24 21 0,Zh 25 21 1,Zc 7 24,Zc 8 25])
 (.seq
 (.seq
 (.reg [Zb 26 25 3,Zo 27 6 #[Zr 26,(.const (.int .i64 200))] #[25,3],Zq 28 (.unOp .not 4 (Zr 27)),Za 29 28,Zp 30 (.move (Zr 7)) 29 false,Zp 31 (.binOp .gtr 3 (Zr 30) (.const (.int .i64 150)) 3) 29 false,Zq 32 (.pick (Zr 29) (.const (.bool true)) (Zr 31)),Za 33 32,Zp 34 (.move (Zr 2)) 33 false,Zp 35 (.binOp .gtr 3 (Zr 34) (.const (.int .i64 50)) 3) 33 false,Zp 36 (.move (Zr 35)) 33 false,Zp 37 (.move (Zr 2)) 36 true,Zp 38 (.binOp .leq 3 (Zr 37) (.const (.int .i64 2000)) 3) 36 true,Zp 39 (.pick (Zr 36) (Zr 38) (.const (.bool false))) 33 false,Zq 40 (.pick (Zr 33) (.const (.bool true)) (Zr 39))])
 (.cond (Zr 40)
 (.seq
 (.reg [Zo 41 7 #[] #[],Zc 6 41]) .ret) .skip))
 (.seq
 (.dreg
 (.tk 0 (Zb 43 25 3)
 (.tk 2 (Zb 45 28 4)
 (.two [1,2,3,4,5,6,7,8,9,10,11,12] (Zo 44 9 #[Zr 43] #[25])
 (.two [3,4,5,6,7,8,9,10,11,12] (Zo 46 10 #[Zr 45] #[28])
 (.two [4,5,6,7,8,9,10,11,12] (Zo 47 15 #[Zr 44,Zr 46] #[44,35])
 (.tk 5 (Za 42 47)
 (.tk 6 (Zh 48 42 0)
 (.tk 7 (Zh 49 42 1)
 (.tk 8 (Zh 50 42 2)
 (.one [0,1,2,3,4,5,6,7,8,9,10,11,12] (Zi 9 35) Zv))))) [0,1,2,3,4,5,6,7,8,9,10,11,12] (Zi 9 35)
 (.one [4,5,6,7,8,9,10,11,12] (Zo 47 15 #[Zr 44,Zr 46] #[44,35])
 (.tk 5 (Za 42 47)
 (.tk 6 (Zh 48 42 0)
 (.tk 7 (Zh 49 42 1)
 (.tk 8 (Zh 50 42 2) Zv)))))) [0,1,2,3,4,5,6,7,8,9,10,11,12] (Zi 9 35) Zt) [0,1,2,3,4,5,6,7,8,9,10,11,12] (Zi 9 35)
 (.one [1,2,3,4,5,6,7,8,9,10,11,12] (Zo 44 9 #[Zr 43] #[25]) Zt)))) [Zc 11 50])
 (.seq
 (.reg [Zb 52 25 3,Zb 53 28 4,Zo 54 16 #[Zr 52,Zr 53] #[25,28],Za 51 54,Zh 55 51 0,Zh 56 51 1,Zh 57 51 2,Zi 12 28,Zg 28 12 55,Zc 13 56,Zc 14 57])
 (.seq
 (.dreg
 (.tk 0 (Zb 59 25 3)
 (.tk 2 (Zb 61 28 4)
 (.tk 4 (Za 63 2)
 (.two [1,2,3,4,5,6,7,8,9,10,11,12,13] (Zo 60 9 #[Zr 59] #[25])
 (.two [3,4,5,6,7,8,9,10,11,12,13] (Zo 62 10 #[Zr 61] #[28])
 (.two [5,6,7,8,9,10,11,12,13] Zw
 (.tk 6 (Za 58 64)
 (.tk 7 (Zh 65 58 0)
 (.tk 8 (Zh 66 58 1)
 (.tk 9 (Zh 67 58 2)
 (.one [0,1,2,3,4,5,6,7,8,9,10,11,12,13] (Zi 15 35) Zu))))) [0,1,2,3,4,5,6,7,8,9,10,11,12,13] (Zi 15 35)
 (.one [5,6,7,8,9,10,11,12,13] Zw
 (.tk 6 (Za 58 64)
 (.tk 7 (Zh 65 58 0)
 (.tk 8 (Zh 66 58 1)
 (.tk 9 (Zh 67 58 2) Zu)))))) [0,1,2,3,4,5,6,7,8,9,10,11,12,13] (Zi 15 35) Zs) [0,1,2,3,4,5,6,7,8,9,10,11,12,13] (Zi 15 35)
 (.one [1,2,3,4,5,6,7,8,9,10,11,12,13] (Zo 60 9 #[Zr 59] #[25]) Zs))))) [Zc 17 67])
 (.seq
 (.reg [Zb 69 25 3,Zb 70 28 4,Za 71 2,Zo 72 18 #[Zr 69,Zr 70,Zr 71] #[25,28,3],Za 68 72,Zh 73 68 0,Zh 74 68 1,Zh 75 68 2,Zi 18 28,Zg 28 18 73,Zc 19 74,Zc 20 75])
 (.seq
 (.reg [Zb 76 35 9,Zb 77 28 12,Zo 78 14 #[Zr 76,Zr 77] #[35,28],Za 79 78,Zp 80 (.move (Zr 10)) 79 true,Zp 81 (.move (Zr 13)) 79 true,Zp 82 (.binOp .eql 4 (Zr 80) (Zr 81) 4) 79 true,Zq 83 (.pick (Zr 79) (Zr 82) (.const (.bool false))),Za 84 83,Zp 85 (.move (Zr 11)) 84 true,Zp 86 (.move (Zr 14)) 84 true,Zp 87 (.binOp .eql 38 (Zr 85) (Zr 86) 38) 84 true,Zq 88 (.pick (Zr 84) (Zr 87) (.const (.bool false))),Za 89 88,Zp 90 (.load 35 (Zr 15)) 89 true,Zp 91 (.load 28 (Zr 18)) 89 true,Zp 92 (.call { callee:=(.value (.func 14)),args:=#[Zr 90,Zr 91],argTypes:=#[35,28] }) 89 true,Zq 93 (.pick (Zr 89) (Zr 92) (.const (.bool false))),Za 94 93,Zp 95 (.move (Zr 16)) 94 true,Zp 96 (.move (Zr 19)) 94 true,Zp 97 (.binOp .eql 3 (Zr 95) (Zr 96) 3) 94 true,Zq 98 (.pick (Zr 94) (Zr 97) (.const (.bool false))),Za 99 98,Zp 100 (.move (Zr 17)) 99 true,Zp 101 (.move (Zr 20)) 99 true,Zp 102 (.binOp .eql 38 (Zr 100) (Zr 101) 38) 99 true,Zq 103 (.pick (Zr 99) (Zr 102) (.const (.bool false))),Za 104 103,Zp 105 (.call { callee:=(.value (.func 7)),args:=#[],argTypes:=#[] }) 104 true,Zq 106 (.pick (Zr 104) (Zr 105) (.const (.bool false))),Zc 6 106]) .ret))))))))
theorem fd4:FnD Tryz.prog 4 107 [(.tmp 6)] c4:=⟨⟨Tryz.f4,Tryz.f4.body.getD .skip,Tryz.func4,by kernel_rfl,by kernel_rfl,by kernel_rfl,by kernel_rfl⟩⟩
def c5:ACode:=(.seq
 (.reg [Zj 1 28 0,Zf 2 0,Zf 3 0])
 (.seq
 (.reg [Zb 4 28 1,Zo 5 19 #[Zr 4] #[28],Zh 6 5 0,Zh 7 5 1,Zc 2 6,Zc 3 7]) .ret))
theorem fd5:FnD Tryz.prog 5 8 [(.tmp 2),(.tmp 3)] c5:=⟨⟨Tryz.f5,Tryz.f5.body.getD .skip,Tryz.func5,by kernel_rfl,by kernel_rfl,by kernel_rfl,by kernel_rfl⟩⟩
def b6_1:ACode:=(.seq
 (.reg [Zn 15 .lss 3 14 13])
 (.seq
 (.cond (Zr 15) .skip (.exit 0))
 (.seq
 (.block 1
 (.seq
 (.reg [Zk 16 23 12 14,Zb 17 67 16,Zi 7 67,Zg 67 7 17])
 (.seq
 (.reg [Za 18 5,Zb 19 67 7,Zo 20 20 #[Zr 19] #[67],Zn 21 .add 3 18 20,Zc 5 21])
 (.seq
 (.reg [Za 22 5,Za 23 1,Zn 24 .gtr 3 22 23])
 (.cond (Zr 24)
 (.seq
 (.reg [Zq 4 (.assign (.const (.bool false)))]) .ret) .skip)))))
 (.reg [Zm 25 .add 3 14 1,Za 14 25]))))
def c6_1:ACode:=(.seq
 (.reg [Za 26 5,Za 27 1,Zn 28 .leq 3 26 27,Zc 4 28]) .ret)
def c6:ACode:=(.seq
 (.reg [Zj 2 25 0,Zq 4 (.assign (.const (.bool false)))])
 (.seq
 (.reg [Zd 8 25 2 0,Zb 9 22 8,Ze 10 9 22,Zc 5 10])
 (.seqL
 (.seq
 (.reg [Zd 11 25 2 1,Zb 12 23 11,Ze 13 12 23,Zq 14 (.move (.const (.int .i64 0)))])
 (.block 0 (.loop b6_1))) c6_1)))
theorem fd6:FnD Tryz.prog 6 29 [(.tmp 4)] c6:=⟨⟨Tryz.f6,Tryz.f6.body.getD .skip,Tryz.func6,by kernel_rfl,by kernel_rfl,by kernel_rfl,by kernel_rfl⟩⟩
def ZC:GOp:=Zo 48 8 #[Zr 38,Zr 47,(.const (.int .i64 10))] #[44,35,3]
def ZB:GPlan:=.one [0,9,10,11,12,13,14,15,16] (Zq 47 (.call { callee:=(.value (Zr 39)),args:=#[Zr 44,Zr 46],argTypes:=#[35,35] })) (.one [10,11,12,13,14,15,16] ZC (.tk 11 (Za 37 48) (.tk 12 (Zh 49 37 0) (.tk 13 (Zh 50 37 1) (.one [13,15,16] (Zg 37 6 49) .fin)))))
def ZA:GPlan:=.one [0,1,6,7,8,9,10,11,12,13,14,15,16] (Zq 44 (.call { callee:=(.value (Zr 40)),args:=#[(.const (.string { data:=#[83,117,99] })),Zr 43],argTypes:=#[9,33] })) (.one [0,1,8,9,10,11,12,13,14,15,16] (Zq 46 (.call { callee:=(.value (Zr 45)),args:=#[(.const (.string { data:=#[90,101,114,111] })),(.const (.slice none 0 0))],argTypes:=#[9,33] })) ZB)
def Zz:GPlan:=.one [0,1,2,3,4,5,8,9,10,11,12,13,14,20,21,22,23,24,25,26,27,28,29] (Zq 29 (.call { callee:=(.value (Zr 24)),args:=#[Zr 26,Zr 28],argTypes:=#[35,35] })) (.tk 21 (Zq 30 (.buildSlice 33 1 #[(0,(Zr 29))])) (.one [0,1,2,3,4,5,8,9,10,11,12,13,22,23,24,25,26,27,28,29] (Zq 31 (.call { callee:=(.value (Zr 23)),args:=#[(.const (.string { data:=#[83,117,99] })),Zr 30],argTypes:=#[9,33] })) (.tk 23 (Zq 32 (.build 78 #[(0,(Zr 22)),(1,(Zr 31))])) (.tk 24 (Zq 33 (.buildSlice 79 2 #[(0,(Zr 17)),(1,(Zr 32))])) (.tk 25 (Zq 34 (.build 81 #[(0,(.const (.string { data:=#[97,100,100] }))),(1,(.const (.int .i64 2))),(2,(Zr 33))])) (.tk 26 (Zq 35 (.buildSlice 42 1 #[(0,(Zr 34))])) (.tk 27 (Zq 36 (.build 44 #[(0,(Zr 11)),(1,(Zr 35))])) .fin)))))))
def Zy:GPlan:=.one [0,1,2,3,4,5,8,9,10,11,12,13,14,15,17,18,19,20,21,22,23,24,25,26,27,28,29] (Zq 26 (.call { callee:=(.value (Zr 25)),args:=#[(.const (.string { data:=#[120] }))],argTypes:=#[9] })) (.one [0,1,2,3,4,5,8,9,10,11,12,13,14,15,19,20,21,22,23,24,25,26,27,28,29] (Zq 28 (.call { callee:=(.value (Zr 27)),args:=#[(.const (.string { data:=#[121] }))],argTypes:=#[9] })) Zz)
def c7:ACode:=(.seq
 (.reg [Zq 0 (.assign (.const (.bool false)))])
 (.seq
 (.reg [Zq 1 (.assign (.func 21))])
 (.seq
 (.reg [Zq 2 (.assign (.func 22))])
 (.seq
 (.reg [Zq 3 (.assign (.func 23))])
 (.seq
 (.reg [Zq 8 (.build 74 #[(1,(.const (.string { data:=#[121] })))]),Zi 4 74,Zg 74 4 8])
 (.seq
 (.dreg
 (.tk 0 (Zq 9 (.build 76 #[(0,(.const (.string { data:=#[90,101,114,111] })))]))
 (.tk 1 (Zq 10 (.build 76 #[(0,(.const (.string { data:=#[83,117,99] }))),(1,(.const (.int .i64 1)))]))
 (.tk 2 (Zq 11 (.buildSlice 41 2 #[(0,(Zr 9)),(1,(Zr 10))]))
 (.tk 3 (Zq 12 (.build 74 #[(0,(.const (.bool true))),(1,(.const (.string { data:=#[90,101,114,111] })))]))
 (.tk 4 (Zb 13 74 4)
 (.tk 5 (Zq 14 (.buildSlice 72 2 #[(0,(Zr 12)),(1,(Zr 13))]))
 (.tk 6 (Za 15 1)
 (.tk 9 (Zq 18 (.build 74 #[(1,(.const (.string { data:=#[120] })))]))
 (.tk 10 (Zq 19 (.buildSlice 72 1 #[(0,(Zr 18))]))
 (.tk 11 (Zq 20 (.build 74 #[(0,(.const (.bool true))),(1,(.const (.string { data:=#[83,117,99] }))),(2,(Zr 19))]))
 (.tk 12 (Zb 21 74 4)
 (.tk 13 (Zq 22 (.buildSlice 72 2 #[(0,(Zr 20)),(1,(Zr 21))]))
 (.tk 14 (Za 23 2)
 (.tk 15 (Za 24 3)
 (.tk 16 (Za 25 1)
 (.tk 18 (Za 27 1)
 (.two [0,1,2,3,4,5,7,8,9,10,11,12,13,14,15,16,17,18,19,20,21,22,23,24,25,26,27,28,29] (Zq 16 (.call { callee:=(.value (Zr 15)),args:=#[(.const (.string { data:=#[121] }))],argTypes:=#[9] }))
 (.tk 8 (Zq 17 (.build 78 #[(0,(Zr 14)),(1,(Zr 16))]))
 (.two [0,1,2,3,4,5,8,9,10,11,12,13,14,15,17,18,19,20,21,22,23,24,25,26,27,28,29] (Zq 26 (.call { callee:=(.value (Zr 25)),args:=#[(.const (.string { data:=#[120] }))],argTypes:=#[9] }))
 (.two [0,1,2,3,4,5,8,9,10,11,12,13,14,15,19,20,21,22,23,24,25,26,27,28,29] (Zq 28 (.call { callee:=(.value (Zr 27)),args:=#[(.const (.string { data:=#[121] }))],argTypes:=#[9] }))
 (.two [0,1,2,3,4,5,8,9,10,11,12,13,14,20,21,22,23,24,25,26,27,28,29] (Zq 29 (.call { callee:=(.value (Zr 24)),args:=#[Zr 26,Zr 28],argTypes:=#[35,35] }))
 (.tk 21 (Zq 30 (.buildSlice 33 1 #[(0,(Zr 29))]))
 (.two [0,1,2,3,4,5,8,9,10,11,12,13,22,23,24,25,26,27,28,29] (Zq 31 (.call { callee:=(.value (Zr 23)),args:=#[(.const (.string { data:=#[83,117,99] })),Zr 30],argTypes:=#[9,33] }))
 (.tk 23 (Zq 32 (.build 78 #[(0,(Zr 22)),(1,(Zr 31))]))
 (.tk 24 (Zq 33 (.buildSlice 79 2 #[(0,(Zr 17)),(1,(Zr 32))]))
 (.tk 25 (Zq 34 (.build 81 #[(0,(.const (.string { data:=#[97,100,100] }))),(1,(.const (.int .i64 2))),(2,(Zr 33))]))
 (.tk 26 (Zq 35 (.buildSlice 42 1 #[(0,(Zr 34))]))
 (.tk 27 (Zq 36 (.build 44 #[(0,(Zr 11)),(1,(Zr 35))]))
 (.one [0,1,2,3,4,5,6,7,8,9,10,11,12,13,14,15,16,17,18,19,20,21,22,23,24,25,26,27,28,29] (Zi 5 44) .fin)))))) [0,1,2,3,4,5,6,7,8,9,10,11,12,13,14,15,16,17,18,19,20,21,22,23,24,25,26,27,28,29] (Zi 5 44)
 (.one [0,1,2,3,4,5,8,9,10,11,12,13,22,23,24,25,26,27,28,29] (Zq 31 (.call { callee:=(.value (Zr 23)),args:=#[(.const (.string { data:=#[83,117,99] })),Zr 30],argTypes:=#[9,33] }))
 (.tk 23 (Zq 32 (.build 78 #[(0,(Zr 22)),(1,(Zr 31))]))
 (.tk 24 (Zq 33 (.buildSlice 79 2 #[(0,(Zr 17)),(1,(Zr 32))]))
 (.tk 25 (Zq 34 (.build 81 #[(0,(.const (.string { data:=#[97,100,100] }))),(1,(.const (.int .i64 2))),(2,(Zr 33))]))
 (.tk 26 (Zq 35 (.buildSlice 42 1 #[(0,(Zr 34))]))
 (.tk 27 (Zq 36 (.build 44 #[(0,(Zr 11)),(1,(Zr 35))])) .fin)))))))) [0,1,2,3,4,5,6,7,8,9,10,11,12,13,14,15,16,17,18,19,20,21,22,23,24,25,26,27,28,29] (Zi 5 44) Zz) [0,1,2,3,4,5,6,7,8,9,10,11,12,13,14,15,16,17,18,19,20,21,22,23,24,25,26,27,28,29] (Zi 5 44)
 (.one [0,1,2,3,4,5,8,9,10,11,12,13,14,15,19,20,21,22,23,24,25,26,27,28,29] (Zq 28 (.call { callee:=(.value (Zr 27)),args:=#[(.const (.string { data:=#[121] }))],argTypes:=#[9] })) Zz)) [0,1,2,3,4,5,6,7,8,9,10,11,12,13,14,15,16,17,18,19,20,21,22,23,24,25,26,27,28,29] (Zi 5 44) Zy)) [0,1,2,3,4,5,6,7,8,9,10,11,12,13,14,15,16,17,18,19,20,21,22,23,24,25,26,27,28,29] (Zi 5 44)
 (.one [0,1,2,3,4,5,7,8,9,10,11,12,13,14,15,16,17,18,19,20,21,22,23,24,25,26,27,28,29] (Zq 16 (.call { callee:=(.value (Zr 15)),args:=#[(.const (.string { data:=#[121] }))],argTypes:=#[9] }))
 (.tk 8 (Zq 17 (.build 78 #[(0,(Zr 14)),(1,(Zr 16))])) Zy))))))))))))))))))) [Zg 44 5 36])
 (.seq
 (.dreg
 (.tk 0 (Zb 38 44 5)
 (.tk 1 (Za 39 3)
 (.tk 2 (Za 40 2)
 (.tk 3 (Za 41 2)
 (.tk 7 (Za 45 2)
 (.two [0,1,2,4,5,6,7,8,9,10,11,12,13,14,15,16] (Zq 42 (.call { callee:=(.value (Zr 41)),args:=#[(.const (.string { data:=#[90,101,114,111] })),(.const (.slice none 0 0))],argTypes:=#[9,33] }))
 (.tk 5 (Zq 43 (.buildSlice 33 1 #[(0,(Zr 42))]))
 (.two [0,1,6,7,8,9,10,11,12,13,14,15,16] (Zq 44 (.call { callee:=(.value (Zr 40)),args:=#[(.const (.string { data:=#[83,117,99] })),Zr 43],argTypes:=#[9,33] }))
 (.two [0,1,8,9,10,11,12,13,14,15,16] (Zq 46 (.call { callee:=(.value (Zr 45)),args:=#[(.const (.string { data:=#[90,101,114,111] })),(.const (.slice none 0 0))],argTypes:=#[9,33] }))
 (.two [0,9,10,11,12,13,14,15,16] (Zq 47 (.call { callee:=(.value (Zr 39)),args:=#[Zr 44,Zr 46],argTypes:=#[35,35] }))
 (.two [10,11,12,13,14,15,16] ZC
 (.tk 11 (Za 37 48)
 (.tk 12 (Zh 49 37 0)
 (.tk 13 (Zh 50 37 1)
 (.one [0,1,2,3,4,5,6,7,8,9,10,11,12,13,14,15,16] (Zi 6 37)
 (.one [13,15,16] (Zg 37 6 49) .fin))))) [0,1,2,3,4,5,6,7,8,9,10,11,12,13,14,15,16] (Zi 6 37)
 (.one [10,11,12,13,14,15,16] ZC
 (.tk 11 (Za 37 48)
 (.tk 12 (Zh 49 37 0)
 (.tk 13 (Zh 50 37 1)
 (.one [13,15,16] (Zg 37 6 49) .fin)))))) [0,1,2,3,4,5,6,7,8,9,10,11,12,13,14,15,16] (Zi 6 37) ZB) [0,1,2,3,4,5,6,7,8,9,10,11,12,13,14,15,16] (Zi 6 37)
 (.one [0,1,8,9,10,11,12,13,14,15,16] (Zq 46 (.call { callee:=(.value (Zr 45)),args:=#[(.const (.string { data:=#[90,101,114,111] })),(.const (.slice none 0 0))],argTypes:=#[9,33] })) ZB)) [0,1,2,3,4,5,6,7,8,9,10,11,12,13,14,15,16] (Zi 6 37) ZA)) [0,1,2,3,4,5,6,7,8,9,10,11,12,13,14,15,16] (Zi 6 37)
 (.one [0,1,2,4,5,6,7,8,9,10,11,12,13,14,15,16] (Zq 42 (.call { callee:=(.value (Zr 41)),args:=#[(.const (.string { data:=#[90,101,114,111] })),(.const (.slice none 0 0))],argTypes:=#[9,33] }))
 (.tk 5 (Zq 43 (.buildSlice 33 1 #[(0,(Zr 42))])) ZA)))))))) [Zc 7 50])
 (.seq
 (.reg [Za 51 7,Zm 52 .eql 38 51 0,Za 53 52,Zp 54 (.fieldAddr 37 (Zr 6) 1) 53 true,Zp 55 (.load 3 (Zr 54)) 53 true,Zp 56 (.binOp .eql 3 (Zr 55) (.const (.int .i64 2)) 3) 53 true,Zq 57 (.pick (Zr 53) (Zr 56) (.const (.bool false))),Za 58 57,Zp 59 (.fieldAddr 37 (Zr 6) 0) 58 true,Zp 60 (.fieldAddr 35 (Zr 59) 1) 58 true,Zp 61 (.load 9 (Zr 60)) 58 true,Zp 62 (.binOp .eql 9 (Zr 61) (.const (.string { data:=#[83,117,99] })) 9) 58 true,Zq 63 (.pick (Zr 58) (Zr 62) (.const (.bool false))),Za 64 63,Zp 65 (.fieldAddr 37 (Zr 6) 0) 64 true,Zp 66 (.fieldAddr 35 (Zr 65) 2) 64 true,Zp 67 (.load 33 (Zr 66)) 64 true,Zp 68 (.call { callee:=(.builtin .len),args:=#[Zr 67],argTypes:=#[33] }) 64 true,Zp 69 (.binOp .eql 3 (Zr 68) (.const (.int .i64 1)) 3) 64 true,Zq 70 (.pick (Zr 64) (Zr 69) (.const (.bool false))),Za 71 70,Zp 72 (.fieldAddr 37 (Zr 6) 0) 71 true,Zp 73 (.fieldAddr 35 (Zr 72) 2) 71 true,Zp 74 (.load 33 (Zr 73)) 71 true,Zp 75 (.indexAddr 33 (Zr 74) (.const (.int .i64 0))) 71 true,Zp 76 (.fieldAddr 35 (Zr 75) 1) 71 true,Zp 77 (.load 9 (Zr 76)) 71 true,Zp 78 (.binOp .eql 9 (Zr 77) (.const (.string { data:=#[90,101,114,111] })) 9) 71 true,Zq 79 (.pick (Zr 71) (Zr 78) (.const (.bool false))),Zc 0 79]) .ret))))))))
theorem fd7:FnD Tryz.prog 7 80 [(.tmp 0)] c7:=⟨⟨Tryz.f7,Tryz.f7.body.getD .skip,Tryz.func7,by kernel_rfl,by kernel_rfl,by kernel_rfl,by kernel_rfl⟩⟩
def c8:ACode:=(.seq
 (.reg [Zj 3 44 0,Zj 4 35 1,Zi 6 37,Zi 7 38])
 (.seq
 (.reg [Zb 13 44 3,Zb 14 35 4,Zo 15 24 #[Zr 13,Zr 14] #[44,35],Za 12 15,Zh 16 12 0,Zh 17 12 1,Zi 8 85,Zg 85 8 16,Zg 38 7 17])
 (.seq
 (.seq
 (.reg [Zb 18 38 7,Zm 19 .eql 38 18 0,Za 20 19,Zp 21 (.move (Zr 2)) 20 true,Zp 22 (.binOp .lss 3 (Zr 21) (.const (.int .i64 0)) 3) 20 true,Zp 23 (.move (Zr 22)) 20 true,Zp 24 (.move (Zr 2)) 23 false,Zp 25 (.binOp .gtr 3 (Zr 24) (.const (.int .i64 100000)) 3) 23 false,Zp 26 (.pick (Zr 23) (.const (.bool true)) (Zr 25)) 20 true,Zq 27 (.pick (Zr 20) (Zr 26) (.const (.bool false)))])
 (.cond (Zr 27)
 (.reg [⟨none,(.store 38 (Zr 7) (.const (.int .i64 4))),none⟩]) .skip))
 (.seq
 (.seq
 (.reg [Zb 28 38 7,Zm 29 .neq 38 28 0])
 (.cond (Zr 29)
 (.seq
 (.dreg
 (.tk 0 (Zq 30 (.build 37 #[]))
 (.tk 1 (Zb 31 38 7)
 (.one [1,2,3] (Zg 37 6 30) .fin))) [Zg 38 7 31]) .ret) .skip))
 (.seq
 (.reg [Zq 32 (.makeFunc (.func 25) #[] #[Zr 6,Zr 7]),⟨none,(.defer { callee:=(.value (Zr 32)),args:=#[],argTypes:=#[] }),none⟩])
 (.seq
 (.reg [Zb 33 85 8,Za 34 2,Zq 35 (.build 93 #[(0,(Zr 33)),(1,(Zr 34))]),Zj 36 93 35,Zc 9 36])
 (.seq
 (.reg [Za 37 9,Zb 38 35 4,Zo 39 26 #[Zr 37,Zr 38,(.const (.pointer none))] #[91,35,131],Zc 10 39])
 (.seq
 (.reg [Zq 40 (.build 99 #[(0,(.const (.int .i64 5000)))]),Zj 41 99 40,Zc 11 41])
 (.seq
 (.seq
 (.reg [Za 42 11,Za 43 10,Zo 44 27 #[Zr 42,Zr 43] #[97,95]])
 (.seq
 (.reg [Za 45 11,Zq 46 (.nilCheck (Zr 45)),Zd 47 99 46 0,Zb 48 3 47,Zm 49 .lss 3 48 0])
 (.cond (Zr 49)
 (.reg [Zq 50 (.build 89 #[(0,(.const (.int .i64 7)))]),Zq 51 (.makeInterface 89 (Zr 50)),⟨none,(.panic (Zr 51)),none⟩]) .skip)))
 (.seq
 (.dreg
 (.tk 0 (Za 52 10)
 (.tk 2 (Za 54 9)
 (.tk 3 (Zq 55 (.nilCheck (Zr 54)))
 (.tk 4 (Zd 56 93 55 2)
 (.tk 5 (Zb 57 3 56)
 (.one [1,2,3,4,5,6,7,8] (Zo 53 28 #[Zr 52] #[95]) .fin)))))) [Zq 58 (.build 37 #[(0,(Zr 53)),(1,(Zr 57))]),Zg 37 6 58,⟨none,(.store 38 (Zr 7) (.const (.int .i64 0))),none⟩]) .ret))))))))))
theorem fd8:FnD Tryz.prog 8 59 [(.cell 6 37),(.cell 7 38)] c8:=⟨⟨Tryz.f8,Tryz.f8.body.getD .skip,Tryz.func8,by kernel_rfl,by kernel_rfl,by kernel_rfl,by kernel_rfl⟩⟩
def b9_1:ACode:=(.seq
 (.reg [Zn 12 .lss 3 11 10])
 (.seq
 (.cond (Zr 12) .skip (.exit 0))
 (.seq
 (.block 1
 (.seq
 (.reg [Zk 13 22 9 11,Zb 14 102 13,Zi 5 102,Zg 102 5 14])
 (.reg [Zd 15 44 3 0,Zb 16 41 15,Zb 17 102 5,Zq 18 (.buildSlice 41 1 #[(0,(Zr 17))]),Zl 19 16 18 41,Zd 20 44 3 0,Zg 41 20 19])))
 (.reg [Zm 21 .add 3 11 1,Za 11 21]))))
def b9_2:ACode:=(.seq
 (.reg [Zn 26 .lss 3 25 24])
 (.seq
 (.cond (Zr 26) .skip (.exit 2))
 (.seq
 (.block 3
 (.seq
 (.reg [Zk 27 23 23 25,Zb 28 67 27,Zi 7 67,Zg 67 7 28])
 (.dreg
 (.tk 0 (Zd 29 44 3 1)
 (.tk 1 (Zb 30 42 29)
 (.tk 2 (Zb 31 67 7)
 (.one [0,1,3,4,5,6,7] (Zo 32 29 #[Zr 31] #[67])
 (.tk 4 (Zq 33 (.buildSlice 42 1 #[(0,(Zr 32))])) .fin))))) [Zl 34 30 33 42,Zd 35 44 3 1,Zg 42 35 34])))
 (.reg [Zm 36 .add 3 25 1,Za 25 36]))))
def c9_1:ACode:=(.seq
 (.reg [Zb 37 44 3,Zg 44 2 37]) .ret)
def c9_2:ACode:=(.seqL
 (.seq
 (.reg [Zd 22 25 1 1,Zb 23 23 22,Ze 24 23 23,Zq 25 (.move (.const (.int .i64 0)))])
 (.block 2 (.loop b9_2))) c9_1)
def c9:ACode:=(.seq
 (.reg [Zj 1 25 0,Zi 2 44])
 (.seq
 (.reg [Zi 3 44])
 (.seqL
 (.seq
 (.reg [Zd 8 25 1 0,Zb 9 22 8,Ze 10 9 22,Zq 11 (.move (.const (.int .i64 0)))])
 (.block 0 (.loop b9_1))) c9_2)))
theorem fd9:FnD Tryz.prog 9 38 [(.cell 2 44)] c9:=⟨⟨Tryz.f9,Tryz.f9.body.getD .skip,Tryz.func9,by kernel_rfl,by kernel_rfl,by kernel_rfl,by kernel_rfl⟩⟩
def b10_1:ACode:=(.seq
 (.reg [Zn 15 .lss 3 14 13])
 (.seq
 (.cond (Zr 15) .skip (.exit 0))
 (.seq
 (.block 1
 (.seq
 (.reg [Zk 16 26 12 14,Zb 17 28 16,Zi 5 28,Zg 28 5 17])
 (.dreg
 (.tk 0 (Zd 18 35 3 2)
 (.tk 1 (Zb 19 33 18)
 (.tk 2 (Zb 20 28 5)
 (.one [0,1,3,4,5,6,7] (Zo 21 10 #[Zr 20] #[28])
 (.tk 4 (Zq 22 (.buildSlice 33 1 #[(0,(Zr 21))])) .fin))))) [Zl 23 19 22 33,Zd 24 35 3 2,Zg 33 24 23])))
 (.reg [Zm 25 .add 3 14 1,Za 14 25]))))
def c10_1:ACode:=(.seq
 (.reg [Zb 26 35 3,Zg 35 2 26]) .ret)
def c10:ACode:=(.seq
 (.reg [Zj 1 28 0,Zi 2 35])
 (.seq
 (.reg [Zd 6 28 1 0,Zb 7 3 6,Zd 8 28 1 1,Zb 9 9 8,Zq 10 (.build 35 #[(0,(Zr 7)),(1,(Zr 9))]),Zi 3 35,Zg 35 3 10])
 (.seqL
 (.seq
 (.reg [Zd 11 28 1 2,Zb 12 26 11,Ze 13 12 26,Zq 14 (.move (.const (.int .i64 0)))])
 (.block 0 (.loop b10_1))) c10_1)))
theorem fd10:FnD Tryz.prog 10 27 [(.cell 2 35)] c10:=⟨⟨Tryz.f10,Tryz.f10.body.getD .skip,Tryz.func10,by kernel_rfl,by kernel_rfl,by kernel_rfl,by kernel_rfl⟩⟩
def c14:ACode:=(.seq
 (.reg [Zj 2 35 0,Zj 3 28 1,Zq 4 (.assign (.const (.bool false)))])
 (.seq
 (.reg [Zd 5 35 2 0,Zb 6 3 5,Zd 7 28 3 0,Zb 8 3 7,Zn 9 .eql 3 6 8,Za 10 9,Zp 11 (.fieldAddr 35 (Zr 2) 1) 10 true,Zp 12 (.load 9 (Zr 11)) 10 true,Zp 13 (.fieldAddr 28 (Zr 3) 1) 10 true,Zp 14 (.load 9 (Zr 13)) 10 true,Zp 15 (.binOp .eql 9 (Zr 12) (Zr 14) 9) 10 true,Zq 16 (.pick (Zr 10) (Zr 15) (.const (.bool false))),Za 17 16,Zp 18 (.fieldAddr 35 (Zr 2) 2) 17 true,Zp 19 (.load 33 (Zr 18)) 17 true,Zp 20 (.fieldAddr 28 (Zr 3) 2) 17 true,Zp 21 (.load 26 (Zr 20)) 17 true,Zp 22 (.call { callee:=(.value (.func 36)),args:=#[Zr 19,Zr 21,(.func 14)],argTypes:=#[33,26,54] }) 17 true,Zq 23 (.pick (Zr 17) (Zr 22) (.const (.bool false))),Zc 4 23]) .ret))
theorem fd14:FnD Tryz.prog 14 24 [(.tmp 4)] c14:=⟨⟨Tryz.f14,Tryz.f14.body.getD .skip,Tryz.func14,by kernel_rfl,by kernel_rfl,by kernel_rfl,by kernel_rfl⟩⟩
def c15:ACode:=(.seq
 (.reg [Zj 2 44 0,Zj 3 35 1,Zi 4 35,Zq 5 (.assign (.const (.bool false))),Zf 6 0])
 (.seq
 (.reg [Zb 11 44 2,Zb 12 35 3,Zo 13 24 #[Zr 11,Zr 12] #[44,35],Za 10 13,Zh 14 10 0,Zh 15 10 1,Zi 7 85,Zg 85 7 14,Zc 8 15])
 (.seq
 (.seq
 (.reg [Za 16 8,Zm 17 .neq 38 16 0])
 (.cond (Zr 17)
 (.seq
 (.reg [Zq 18 (.build 35 #[]),Za 19 8,Zg 35 4 18,Zq 5 (.assign (.const (.bool false))),Zc 6 19]) .ret) .skip))
 (.seq
 (.seq
 (.reg [Zb 20 85 7,Zb 21 35 3,Zo 22 37 #[Zr 20,Zr 21] #[85,35]])
 (.cond (Zr 22)
 (.seq
 (.reg [Zb 23 35 3,Zo 24 38 #[Zr 23] #[35],Zg 35 4 24,Zq 5 (.assign (.const (.bool false))),Zf 6 0]) .ret) .skip))
 (.seq
 (.reg [Zb 26 85 7,Zb 27 35 3,Zo 28 39 #[Zr 26,Zr 27] #[85,35],Za 25 28,Zh 29 25 0,Zh 30 25 1,Zi 9 35,Zg 35 9 29,Zc 8 30])
 (.seq
 (.seq
 (.reg [Za 31 8,Zm 32 .neq 38 31 0])
 (.cond (Zr 32)
 (.seq
 (.reg [Zq 33 (.build 35 #[]),Za 34 8,Zg 35 4 33,Zq 5 (.assign (.const (.bool false))),Zc 6 34]) .ret) .skip))
 (.seq
 (.reg [Zb 35 35 9,Zo 36 38 #[Zr 35] #[35],Zg 35 4 36,Zq 5 (.assign (.const (.bool true))),Zf 6 0]) .ret)))))))
theorem fd15:FnD Tryz.prog 15 37 [(.cell 4 35),(.tmp 5),(.tmp 6)] c15:=⟨⟨Tryz.f15,Tryz.f15.body.getD .skip,Tryz.func15,by kernel_rfl,by kernel_rfl,by kernel_rfl,by kernel_rfl⟩⟩
def c16:ACode:=(.seq
 (.reg [Zj 2 25 0,Zj 3 28 1,Zi 4 28,Zq 5 (.assign (.const (.bool false))),Zf 6 0])
 (.seq
 (.seq
 (.reg [Zb 10 25 2,Zb 11 28 3,Zo 12 30 #[Zr 10,Zr 11] #[25,28],Zc 7 12])
 (.seq
 (.reg [Za 13 7,Zm 14 .neq 38 13 0])
 (.cond (Zr 14)
 (.seq
 (.reg [Zq 15 (.build 28 #[]),Za 16 7,Zg 28 4 15,Zq 5 (.assign (.const (.bool false))),Zc 6 16]) .ret) .skip)))
 (.seq
 (.seq
 (.reg [Zb 17 25 2,Zb 18 28 3,Zo 19 40 #[Zr 17,Zr 18] #[25,28]])
 (.cond (Zr 19)
 (.seq
 (.reg [Zb 20 28 3,Zg 28 4 20,Zq 5 (.assign (.const (.bool false))),Zf 6 0]) .ret) .skip))
 (.seq
 (.reg [Zb 22 25 2,Zb 23 28 3,Zo 24 41 #[Zr 22,Zr 23] #[25,28],Za 21 24,Zh 25 21 0,Zh 26 21 1,Zi 8 28,Zg 28 8 25,Zc 9 26])
 (.seq
 (.seq
 (.reg [Za 27 9,Zm 28 .neq 38 27 0])
 (.cond (Zr 28)
 (.seq
 (.reg [Zq 29 (.build 28 #[]),Za 30 9,Zg 28 4 29,Zq 5 (.assign (.const (.bool false))),Zc 6 30]) .ret) .skip))
 (.seq
 (.reg [Zb 31 28 8,Zg 28 4 31,Zq 5 (.assign (.const (.bool true))),Zf 6 0]) .ret))))))
theorem fd16:FnD Tryz.prog 16 32 [(.cell 4 28),(.tmp 5),(.tmp 6)] c16:=⟨⟨Tryz.f16,Tryz.f16.body.getD .skip,Tryz.func16,by kernel_rfl,by kernel_rfl,by kernel_rfl,by kernel_rfl⟩⟩
def b17_1:ACode:=(.seq
 (.seq
 (.reg [Zb 34 85 9,Zb 35 35 4,Zo 36 37 #[Zr 34,Zr 35] #[85,35],Zq 37 (.unOp .not 4 (Zr 36))])
 (.cond (Zr 37) .skip (.exit 0)))
 (.seq
 (.block 1
 (.seq
 (.seq
 (.reg [Za 40 11,Za 41 2,Zn 42 .eql 3 40 41])
 (.cond (Zr 42)
 (.seq
 (.reg [Zq 43 (.build 35 #[]),Zg 35 6 43,Zf 7 0,Zf 8 8]) .ret) .skip))
 (.seq
 (.seq
 (.reg [Zb 45 85 9,Zb 46 35 4,Zo 47 39 #[Zr 45,Zr 46] #[85,35],Za 44 47,Zh 48 44 0,Zh 49 44 1,Zg 35 4 48,Zc 10 49])
 (.seq
 (.reg [Za 50 10,Zm 51 .neq 38 50 0])
 (.cond (Zr 51)
 (.seq
 (.reg [Zq 52 (.build 35 #[]),Za 53 10,Zg 35 6 52,Zf 7 0,Zc 8 53]) .ret) .skip)))
 (.seq
 (.reg [Zb 55 35 4,Zo 56 42 #[Zr 55] #[35],Za 54 56,Zh 57 54 0,Zh 58 54 1,Zc 12 57,Zc 13 58])
 (.seq
 (.reg [Za 59 12,Zm 60 .gtr 3 59 20000])
 (.cond (Zr 60)
 (.seq
 (.reg [Zq 61 (.build 35 #[]),Zg 35 6 61,Zf 7 0,Zf 8 7]) .ret) .skip))))))
 (.reg [Za 38 11,Zm 39 .add 3 38 1,Zc 11 39])))
def c17_1:ACode:=(.seq
 (.reg [Zb 62 35 4,Zo 63 38 #[Zr 62] #[35],Za 64 11,Zg 35 6 63,Zc 7 64,Zf 8 0]) .ret)
def c17:ACode:=(.seq
 (.reg [Zj 3 44 0,Zj 4 35 1,Zi 6 35,Zf 7 0,Zf 8 0])
 (.seq
 (.reg [Zb 15 44 3,Zb 16 35 4,Zo 17 24 #[Zr 15,Zr 16] #[44,35],Za 14 17,Zh 18 14 0,Zh 19 14 1,Zi 9 85,Zg 85 9 18,Zc 10 19])
 (.seq
 (.seq
 (.reg [Za 20 10,Zm 21 .eql 38 20 0,Za 22 21,Zp 23 (.move (Zr 2)) 22 true,Zp 24 (.binOp .lss 3 (Zr 23) (.const (.int .i64 0)) 3) 22 true,Zp 25 (.move (Zr 24)) 22 true,Zp 26 (.move (Zr 2)) 25 false,Zp 27 (.binOp .gtr 3 (Zr 26) (.const (.int .i64 2000)) 3) 25 false,Zp 28 (.pick (Zr 25) (.const (.bool true)) (Zr 27)) 22 true,Zq 29 (.pick (Zr 22) (Zr 28) (.const (.bool false)))])
 (.cond (Zr 29)
 (.reg [Zf 10 4]) .skip))
 (.seq
 (.seq
 (.reg [Za 30 10,Zm 31 .neq 38 30 0])
 (.cond (Zr 31)
 (.seq
 (.reg [Zq 32 (.build 35 #[]),Za 33 10,Zg 35 6 32,Zf 7 0,Zc 8 33]) .ret) .skip))
 (.seq
 (.reg [Zf 11 0])
 (.seqL
 (.block 0 (.loop b17_1)) c17_1))))))
theorem fd17:FnD Tryz.prog 17 65 [(.cell 6 35),(.tmp 7),(.tmp 8)] c17:=⟨⟨Tryz.f17,Tryz.f17.body.getD .skip,Tryz.func17,by kernel_rfl,by kernel_rfl,by kernel_rfl,by kernel_rfl⟩⟩
def b18_1:ACode:=(.seq
 (.block 1
 (.seq
 (.seq
 (.reg [Zb 31 25 3,Zb 32 28 4,Zo 33 40 #[Zr 31,Zr 32] #[25,28]])
 (.cond (Zr 33)
 (.seq
 (.reg [Zb 34 28 4,Za 35 10,Zg 28 6 34,Zc 7 35,Zf 8 0]) .ret) .skip))
 (.seq
 (.seq
 (.reg [Za 36 10,Za 37 2,Zn 38 .eql 3 36 37])
 (.cond (Zr 38)
 (.seq
 (.reg [Zq 39 (.build 28 #[]),Zg 28 6 39,Zf 7 0,Zf 8 8]) .ret) .skip))
 (.seq
 (.reg [Zb 41 25 3,Zb 42 28 4,Zo 43 41 #[Zr 41,Zr 42] #[25,28],Za 40 43,Zh 44 40 0,Zh 45 40 1,Zi 11 28,Zg 28 11 44,Zc 12 45])
 (.seq
 (.seq
 (.reg [Za 46 12,Zm 47 .neq 38 46 0])
 (.cond (Zr 47)
 (.seq
 (.reg [Zq 48 (.build 28 #[]),Za 49 12,Zg 28 6 48,Zf 7 0,Zc 8 49]) .ret) .skip))
 (.seq
 (.seq
 (.reg [Zb 51 28 11,Zo 52 19 #[Zr 51] #[28],Za 50 52,Zh 53 50 0,Zh 54 50 1,Zc 13 53,Zc 14 54])
 (.seq
 (.reg [Za 55 13,Zm 56 .gtr 3 55 20000])
 (.cond (Zr 56)
 (.seq
 (.reg [Zq 57 (.build 28 #[]),Zg 28 6 57,Zf 7 0,Zf 8 7]) .ret) .skip)))
 (.reg [Zb 58 28 11,Zg 28 4 58])))))))
 (.reg [Za 29 10,Zm 30 .add 3 29 1,Zc 10 30]))
def c18:ACode:=(.seq
 (.reg [Zj 3 25 0,Zj 4 28 1,Zi 6 28,Zf 7 0,Zf 8 0])
 (.seq
 (.seq
 (.reg [Zb 15 25 3,Zb 16 28 4,Zo 17 30 #[Zr 15,Zr 16] #[25,28],Zc 9 17])
 (.seq
 (.reg [Za 18 9,Zm 19 .neq 38 18 0])
 (.cond (Zr 19)
 (.seq
 (.reg [Zq 20 (.build 28 #[]),Za 21 9,Zg 28 6 20,Zf 7 0,Zc 8 21]) .ret) .skip)))
 (.seq
 (.seq
 (.reg [Za 22 2,Zm 23 .lss 3 22 0,Za 24 23,Zp 25 (.move (Zr 2)) 24 false,Zp 26 (.binOp .gtr 3 (Zr 25) (.const (.int .i64 2000)) 3) 24 false,Zq 27 (.pick (Zr 24) (.const (.bool true)) (Zr 26))])
 (.cond (Zr 27)
 (.seq
 (.reg [Zq 28 (.build 28 #[]),Zg 28 6 28,Zf 7 0,Zf 8 4]) .ret) .skip))
 (.seq
 (.reg [Zf 10 0])
 (.block 0 (.loop b18_1))))))
theorem fd18:FnD Tryz.prog 18 59 [(.cell 6 28),(.tmp 7),(.tmp 8)] c18:=⟨⟨Tryz.f18,Tryz.f18.body.getD .skip,Tryz.func18,by kernel_rfl,by kernel_rfl,by kernel_rfl,by kernel_rfl⟩⟩
def b19_1:ACode:=(.seq
 (.seq
 (.reg [Za 9 6,Zd 10 28 1 2,Zb 11 26 10,Ze 12 11 26,Zn 13 .lss 3 9 12])
 (.cond (Zr 13) .skip (.exit 0)))
 (.seq
 (.block 1
 (.seq
 (.reg [Zd 17 28 1 2,Zb 18 26 17,Za 19 6,Zk 20 26 18 19,Zb 21 28 20,Zo 22 19 #[Zr 21] #[28],Za 16 22,Zh 23 16 0,Zh 24 16 1,Zc 7 23,Zc 8 24])
 (.seq
 (.reg [Za 25 4,Za 26 7,Zn 27 .add 3 25 26,Zc 4 27])
 (.reg [Za 28 5,Za 29 8,Zq 30 (.call { callee:=(.builtin .max),args:=#[Zr 28,Zr 29],argTypes:=#[3,3] }),Zc 5 30]))))
 (.reg [Za 14 6,Zm 15 .add 3 14 1,Zc 6 15])))
def c19_1:ACode:=(.seq
 (.reg [Za 31 4,Za 32 5,Zm 33 .add 3 32 1,Zc 2 31,Zc 3 33]) .ret)
def c19:ACode:=(.seq
 (.reg [Zj 1 28 0,Zf 2 0,Zf 3 0])
 (.seq
 (.reg [Zf 4 1,Zf 5 0])
 (.seqL
 (.seq
 (.reg [Zf 6 0])
 (.block 0 (.loop b19_1))) c19_1)))
theorem fd19:FnD Tryz.prog 19 34 [(.tmp 2),(.tmp 3)] c19:=⟨⟨Tryz.f19,Tryz.f19.body.getD .skip,Tryz.func19,by kernel_rfl,by kernel_rfl,by kernel_rfl,by kernel_rfl⟩⟩
def b20_1:ACode:=(.seq
 (.reg [Zn 31 .lss 3 30 29])
 (.seq
 (.cond (Zr 31) .skip (.exit 2))
 (.seq
 (.block 3
 (.seq
 (.reg [Zk 32 122 28 30,Zb 33 126 32,Zi 9 126,Zg 126 9 33])
 (.reg [Za 34 3,Zb 35 126 9,Zo 36 43 #[Zr 35] #[126],Zn 37 .add 3 34 36,Zc 3 37])))
 (.reg [Zm 38 .add 3 30 1,Za 30 38]))))
def c20_1:ACode:=(.reg [Zm 39 .add 3 13 1,Za 13 39])
def b20_2:ACode:=(.seq
 (.reg [Zn 14 .lss 3 13 12])
 (.seq
 (.cond (Zr 14) .skip (.exit 0))
 (.seqL
 (.block 1
 (.seq
 (.reg [Zk 15 65 11 13,Zb 16 124 15,Zi 5 124,Zg 124 5 16])
 (.seq
 (.reg [Zd 18 124 5 1,Zb 19 28 18,Zo 20 5 #[Zr 19] #[28],Za 17 20,Zh 21 17 0,Zh 22 17 1,Zc 6 21,Zc 7 22])
 (.seq
 (.reg [Za 23 3,Za 24 6,Zq 25 (.binOp .add 3 (.const (.int .i64 1)) (Zr 24) 3),Zn 26 .add 3 23 25,Zc 3 26])
 (.seq
 (.reg [Zd 27 124 5 0,Zb 28 122 27,Ze 29 28 122,Zq 30 (.move (.const (.int .i64 0)))])
 (.block 2 (.loop b20_1))))))) c20_1)))
def c20_2:ACode:=(.seq
 (.reg [Za 40 3,Zc 2 40]) .ret)
def c20:ACode:=(.seq
 (.reg [Zj 1 67 0,Zf 2 0])
 (.seq
 (.reg [Zf 3 1])
 (.seqL
 (.seq
 (.reg [Zd 10 67 1 2,Zb 11 65 10,Ze 12 11 65,Zq 13 (.move (.const (.int .i64 0)))])
 (.block 0 (.loop b20_2))) c20_2)))
theorem fd20:FnD Tryz.prog 20 41 [(.tmp 2)] c20:=⟨⟨Tryz.f20,Tryz.f20.body.getD .skip,Tryz.func20,by kernel_rfl,by kernel_rfl,by kernel_rfl,by kernel_rfl⟩⟩
def c21:ACode:=(.seq
 (.reg [Zi 2 35])
 (.seq
 (.reg [Za 3 0,Zq 4 (.build 35 #[(0,(.const (.int .i64 1))),(1,(Zr 3))]),Zg 35 2 4]) .ret))
theorem fd21:FnD Tryz.prog 21 5 [(.cell 2 35)] c21:=⟨⟨Tryz.f21,Tryz.f21.body.getD .skip,Tryz.func21,by kernel_rfl,by kernel_rfl,by kernel_rfl,by kernel_rfl⟩⟩
def c22:ACode:=(.seq
 (.reg [Zi 4 35])
 (.seq
 (.reg [Za 5 0,Za 6 1,Zq 7 (.build 35 #[(0,(.const (.int .i64 3))),(1,(Zr 5)),(2,(Zr 6))]),Zg 35 4 7]) .ret))
theorem fd22:FnD Tryz.prog 22 8 [(.cell 4 35)] c22:=⟨⟨Tryz.f22,Tryz.f22.body.getD .skip,Tryz.func22,by kernel_rfl,by kernel_rfl,by kernel_rfl,by kernel_rfl⟩⟩
def c23:ACode:=(.seq
 (.reg [Zj 2 35 0,Zj 3 35 1,Zi 4 35])
 (.seq
 (.reg [Zq 5 (.build 35 #[(0,(.const (.int .i64 2))),(1,(.const (.string { data:=#[97,100,100] })))]),Zb 6 35 2,Zb 7 35 3,Zq 8 (.buildSlice 33 3 #[(0,(Zr 5)),(1,(Zr 6)),(2,(Zr 7))]),Zq 9 (.build 35 #[(0,(.const (.int .i64 4))),(2,(Zr 8))]),Zg 35 4 9]) .ret))
theorem fd23:FnD Tryz.prog 23 10 [(.cell 4 35)] c23:=⟨⟨Tryz.f23,Tryz.f23.body.getD .skip,Tryz.func23,by kernel_rfl,by kernel_rfl,by kernel_rfl,by kernel_rfl⟩⟩
def c24:ACode:=(.seq
 (.reg [Zj 2 44 0,Zj 3 35 1,Zi 4 85,Zf 5 0])
 (.seq
 (.seq
 (.reg [Zb 10 44 2,Zo 11 44 #[Zr 10] #[44],Zc 6 11])
 (.seq
 (.reg [Za 12 6,Zm 13 .neq 38 12 0])
 (.cond (Zr 13)
 (.seq
 (.reg [Zq 14 (.build 85 #[]),Za 15 6,Zg 85 4 14,Zc 5 15]) .ret) .skip)))
 (.seq
 (.seq
 (.reg [Zb 17 35 3,Zo 18 42 #[Zr 17] #[35],Za 16 18,Zh 19 16 0,Zh 20 16 1,Zc 7 19,Zc 8 20])
 (.block 0
 (.seq
 (.reg [Za 22 7,Zm 23 .gtr 3 22 5000,Zc 21 23])
 (.cond (Zr 21)
 (.seq
 (.reg [Zq 24 (.build 85 #[]),Zg 85 4 24,Zf 5 7]) .ret)
 (.seq
 (.reg [Za 26 8,Zm 27 .gtr 3 26 200,Zc 25 27])
 (.cond (Zr 25)
 (.seq
 (.reg [Zq 28 (.build 85 #[]),Zg 85 4 28,Zf 5 6]) .ret) .skip))))))
 (.seq
 (.reg [Zb 29 44 2,Zo 30 45 #[Zr 29] #[44],Zi 9 85,Zg 85 9 30])
 (.seq
 (.dreg
 (.tk 0 (Zb 31 85 9)
 (.tk 1 (Zb 32 85 9)
 (.tk 2 (Zb 33 35 3)
 (.one [0,3,4,5] (Zo 34 46 #[Zr 32,Zr 33,(.const (.slice none 0 0))] #[85,35,181]) .fin)))) [Zg 85 4 31,Zc 5 34]) .ret)))))
theorem fd24:FnD Tryz.prog 24 35 [(.cell 4 85),(.tmp 5)] c24:=⟨⟨Tryz.f24,Tryz.f24.body.getD .skip,Tryz.func24,by kernel_rfl,by kernel_rfl,by kernel_rfl,by kernel_rfl⟩⟩
def c25:ACode:=(.seq
 (.reg [Zq 5 (.call { callee:=(.builtin .recover),args:=#[],argTypes:=#[] }),Zc 2 5])
 (.seq
 (.reg [Za 6 2,Zq 7 (.binOp .neq 20 (Zr 6) (.const .nilIface) 20)])
 (.cond (Zr 7)
 (.seq
 (.reg [Za 9 2,Zq 10 (.typeAssert (Zr 9) 20 89 true),Za 8 10,Zh 11 8 0,Zh 12 8 1,Zi 3 89,Zg 89 3 11,Zc 4 12])
 (.seq
 (.seq
 (.reg [Za 13 4,Zq 14 (.unOp .not 4 (Zr 13))])
 (.cond (Zr 14)
 (.reg [Za 15 2,⟨none,(.panic (Zr 15)),none⟩]) .skip))
 (.dreg
 (.tk 0 (Zq 16 (.build 37 #[]))
 (.tk 1 (Zd 17 89 3 0)
 (.tk 2 (Zb 18 38 17)
 (.one [1,2,3,4] (Zg 37 0 16) .fin)))) [Zg 38 1 18]))) .skip)))
theorem fd25:FnD Tryz.prog 25 19 [] c25:=⟨⟨Tryz.f25,Tryz.f25.body.getD .skip,Tryz.func25,by kernel_rfl,by kernel_rfl,by kernel_rfl,by kernel_rfl⟩⟩
def c26:ACode:=(.seq
 (.reg [Zj 3 91 0,Zj 4 35 1,Zj 5 131 2,Zq 6 (.assign (.const .nilIface))])
 (.seq
 (.reg [Zq 10 (.makeFunc (.func 47) #[] #[Zr 4,Zr 3,Zr 5]),Zc 7 10])
 (.seq
 (.seq
 (.reg [Zd 11 35 4 0,Zb 12 3 11])
 (.block 0
 (.seq
 (.reg [Zm 14 .eql 3 12 1,Zc 13 14])
 (.cond (Zr 13)
 (.seq
 (.reg [Zb 15 131 5,Zd 16 35 4 1,Zb 17 9 16,Zo 18 48 #[Zr 15,Zr 17] #[131,9],Zc 6 18]) .ret)
 (.seq
 (.reg [Zm 20 .eql 3 12 5,Zc 19 20])
 (.cond (Zr 19)
 (.seq
 (.reg [Zb 21 35 4,Zb 22 131 5,Zq 23 (.build 136 #[(0,(Zr 21)),(1,(Zr 22))]),Zq 24 (.makeInterface 136 (Zr 23)),Zc 6 24]) .ret)
 (.seq
 (.reg [Zm 26 .eql 3 12 2,Zc 25 26])
 (.cond (Zr 25)
 (.seq
 (.seq
 (.dreg
 (.tk 0 (Zb 27 91 3)
 (.tk 1 (Zq 28 (.nilCheck (Zr 27)))
 (.tk 2 (Zd 29 93 28 0)
 (.tk 3 (Zd 30 85 29 0)
 (.tk 4 (Zb 31 82 30)
 (.tk 5 (Zd 32 35 4 1)
 (.tk 6 (Zb 33 9 32) .fin))))))) [Zq 34 (.lookup 82 (Zr 31) (Zr 33) false),Zc 8 34])
 (.seq
 (.reg [Za 35 8,Zq 36 (.nilCheck (Zr 35)),Zd 37 81 36 1,Zb 38 3 37,Zm 39 .gtr 3 38 0])
 (.cond (Zr 39)
 (.seq
 (.reg [Za 40 8,Zq 41 (.build 139 #[(0,(Zr 40)),(1,(.const (.slice none 0 0)))]),Zq 42 (.makeInterface 139 (Zr 41)),Zc 6 42]) .ret) .skip)))
 (.seq
 (.dreg
 (.tk 0 (Zb 43 91 3)
 (.tk 1 (Zb 44 91 3)
 (.tk 2 (Zq 45 (.nilCheck (Zr 44)))
 (.tk 3 (Zd 46 93 45 0)
 (.tk 4 (Zd 47 85 46 0)
 (.tk 5 (Zb 48 82 47)
 (.tk 6 (Zd 49 35 4 1)
 (.tk 7 (Zb 50 9 49)
 (.one [0,8,9,10] (Zq 51 (.lookup 82 (Zr 48) (Zr 50) false)) .fin))))))))) [Zo 52 49 #[Zr 43,Zr 51,(.const (.slice none 0 0))] #[91,137,132],Zc 6 52]) .ret))
 (.seq
 (.reg [Zm 54 .eql 3 12 3,Zc 53 54])
 (.cond (Zr 53)
 (.seq
 (.dreg
 (.tk 0 (Zd 55 35 4 1)
 (.tk 1 (Zb 56 9 55)
 (.tk 2 (Za 57 7)
 (.one [0,1,3,4,5,6] (Zq 58 (.call { callee:=(.value (Zr 57)),args:=#[],argTypes:=#[] })) .fin)))) [Zq 59 (.build 142 #[(0,(Zr 56)),(1,(Zr 58))]),Zq 60 (.makeInterface 142 (Zr 59)),Zc 6 60]) .ret) .skip))))))))))
 (.seq
 (.reg [Za 61 7,Zq 62 (.call { callee:=(.value (Zr 61)),args:=#[],argTypes:=#[] }),Zc 9 62])
 (.seq
 (.dreg
 (.tk 0 (Zb 63 91 3)
 (.tk 1 (Za 64 9)
 (.tk 2 (Zq 65 (.indexAddr 132 (Zr 64) (.const (.int .i64 0))))
 (.tk 3 (Zb 66 95 65)
 (.tk 4 (Za 67 9)
 (.tk 5 (Zq 68 (.slice 132 (Zr 67) (some (.const (.int .i64 1))) none none)) .fin)))))) [Zo 69 50 #[Zr 63,Zr 66,Zr 68] #[91,95,132],Zc 6 69]) .ret)))))
theorem fd26:FnD Tryz.prog 26 70 [(.tmp 6)] c26:=⟨⟨Tryz.f26,Tryz.f26.body.getD .skip,Tryz.func26,by kernel_rfl,by kernel_rfl,by kernel_rfl,by kernel_rfl⟩⟩
def c27:ACode:=(.seq
 (.seq
 (.reg [Za 7 0,Zq 8 (.nilCheck (Zr 7)),Zd 9 99 8 0,Zb 10 3 9,Zm 11 .lss 3 10 0])
 (.cond (Zr 11) .ret .skip))
 (.seq
 (.reg [Za 12 1])
 (.block 0
 (.seq
 (.reg [Zq 13 (.typeAssert (Zr 12) 95 142 true),Zh 14 13 1,Zh 15 13 0])
 (.cond (Zr 14)
 (.seq
 (.reg [Zi 4 142,Zg 142 4 15])
 (.seq
 (.reg [Za 16 0,Zq 17 (.nilCheck (Zr 16)),Zd 18 99 17 0,Zb 19 3 18,Zm 20 .sub 3 19 1,Zq 21 (.nilCheck (Zr 16)),Zd 22 99 21 0,Zg 3 22 20])
 (.reg [Za 23 0,Zd 24 142 4 1,Zb 25 132 24,Zo 26 51 #[Zr 23,Zr 25] #[97,132]])))
 (.seq
 (.reg [Zq 27 (.typeAssert (Zr 12) 95 136 true),Zh 28 27 1,Zh 29 27 0])
 (.cond (Zr 28)
 (.seq
 (.reg [Zi 5 136,Zg 136 5 29])
 (.reg [Za 30 0,Zd 31 136 5 0,Zb 32 35 31,Zd 33 136 5 1,Zb 34 131 33,Zo 35 52 #[Zr 30,Zr 32,Zr 34] #[97,35,131]]))
 (.seq
 (.reg [Zq 36 (.typeAssert (Zr 12) 95 139 true),Zh 37 36 1,Zh 38 36 0])
 (.cond (Zr 37)
 (.seq
 (.reg [Zi 6 139,Zg 139 6 38])
 (.seq
 (.reg [Za 39 0,Zq 40 (.nilCheck (Zr 39)),Zd 41 99 40 0,Zb 42 3 41,Zm 43 .sub 3 42 1,Zq 44 (.nilCheck (Zr 39)),Zd 45 99 44 0,Zg 3 45 43])
 (.seq
 (.seq
 (.reg [Zd 46 139 6 1,Zb 47 132 46,Ze 48 47 132,Zm 49 .gtr 3 48 0])
 (.cond (Zr 49)
 (.reg [Za 50 0,Zq 51 (.nilCheck (Zr 50)),Zd 52 99 51 0,Zb 53 3 52,Zm 54 .sub 3 53 1,Zq 55 (.nilCheck (Zr 50)),Zd 56 99 55 0,Zg 3 56 54]) .skip))
 (.reg [Za 57 0,Zd 58 139 6 1,Zb 59 132 58,Zo 60 51 #[Zr 57,Zr 59] #[97,132]])))) .skip)))))))))
theorem fd27:FnD Tryz.prog 27 61 [] c27:=⟨⟨Tryz.f27,Tryz.f27.body.getD .skip,Tryz.func27,by kernel_rfl,by kernel_rfl,by kernel_rfl,by kernel_rfl⟩⟩
def b28_1:ACode:=(.seq
 (.reg [Zn 24 .lss 3 23 22])
 (.seq
 (.cond (Zr 24) .skip (.exit 0))
 (.seq
 (.block 1
 (.seq
 (.reg [Zk 25 132 21 23,Zb 26 95 25,Zc 7 26])
 (.dreg
 (.tk 0 (Zd 27 35 5 2)
 (.tk 1 (Zb 28 33 27)
 (.tk 2 (Za 29 7)
 (.one [0,1,3,4,5,6,7] (Zo 30 28 #[Zr 29] #[95])
 (.tk 4 (Zq 31 (.buildSlice 33 1 #[(0,(Zr 30))])) .fin))))) [Zl 32 28 31 33,Zd 33 35 5 2,Zg 33 33 32])))
 (.reg [Zm 34 .add 3 23 1,Za 23 34]))))
def c28_1:ACode:=(.seq
 (.reg [Zb 35 35 5,Zg 35 2 35]) .ret)
def c28:ACode:=(.seq
 (.reg [Zi 2 35])
 (.seq
 (.reg [Za 9 0,Zq 10 (.typeAssert (Zr 9) 95 142 true),Za 8 10,Zh 11 8 0,Zh 12 8 1,Zi 3 142,Zg 142 3 11,Zc 4 12])
 (.seq
 (.seq
 (.reg [Za 13 4,Zq 14 (.unOp .not 4 (Zr 13))])
 (.cond (Zr 14)
 (.reg [Zq 15 (.build 89 #[(0,(.const (.int .i64 423)))]),Zq 16 (.makeInterface 89 (Zr 15)),⟨none,(.panic (Zr 16)),none⟩]) .skip))
 (.seq
 (.reg [Zd 17 142 3 0,Zb 18 9 17,Zq 19 (.build 35 #[(0,(.const (.int .i64 3))),(1,(Zr 18))]),Zi 5 35,Zg 35 5 19])
 (.seqL
 (.seq
 (.reg [Zd 20 142 3 1,Zb 21 132 20,Ze 22 21 132,Zq 23 (.move (.const (.int .i64 0)))])
 (.block 0 (.loop b28_1))) c28_1)))))
theorem fd28:FnD Tryz.prog 28 36 [(.cell 2 35)] c28:=⟨⟨Tryz.f28,Tryz.f28.body.getD .skip,Tryz.func28,by kernel_rfl,by kernel_rfl,by kernel_rfl,by kernel_rfl⟩⟩
def b29_1:ACode:=(.seq
 (.reg [Zn 29 .lss 3 28 27])
 (.seq
 (.cond (Zr 29) .skip (.exit 2))
 (.seq
 (.block 3
 (.seq
 (.reg [Zk 30 122 26 28,Zb 31 126 30,Zi 8 126,Zg 126 8 31])
 (.dreg
 (.tk 0 (Zd 32 78 6 0)
 (.tk 1 (Zb 33 72 32)
 (.tk 2 (Zb 34 126 8)
 (.one [0,1,3,4,5,6,7] (Zo 35 53 #[Zr 34] #[126])
 (.tk 4 (Zq 36 (.buildSlice 72 1 #[(0,(Zr 35))])) .fin))))) [Zl 37 33 36 72,Zd 38 78 6 0,Zg 72 38 37])))
 (.reg [Zm 39 .add 3 28 1,Za 28 39]))))
def c29_1:ACode:=(.reg [Zd 40 81 3 2,Zb 41 79 40,Zb 42 78 6,Zq 43 (.buildSlice 79 1 #[(0,(Zr 42))]),Zl 44 41 43 79,Zd 45 81 3 2,Zg 79 45 44])
def c29_2:ACode:=(.reg [Zm 46 .add 3 17 1,Za 17 46])
def b29_2:ACode:=(.seq
 (.reg [Zn 18 .lss 3 17 16])
 (.seq
 (.cond (Zr 18) .skip (.exit 0))
 (.seqL
 (.block 1
 (.seq
 (.reg [Zk 19 65 15 17,Zb 20 124 19,Zi 5 124,Zg 124 5 20])
 (.seq
 (.reg [Zd 21 124 5 1,Zb 22 28 21,Zo 23 10 #[Zr 22] #[28],Zq 24 (.build 78 #[(1,(Zr 23))]),Zi 6 78,Zg 78 6 24])
 (.seqL
 (.seq
 (.reg [Zd 25 124 5 0,Zb 26 122 25,Ze 27 26 122,Zq 28 (.move (.const (.int .i64 0)))])
 (.block 2 (.loop b29_1))) c29_1)))) c29_2)))
def c29_3:ACode:=(.seq
 (.reg [Zb 47 81 3,Zg 81 2 47]) .ret)
def c29:ACode:=(.seq
 (.reg [Zj 1 67 0,Zi 2 81])
 (.seq
 (.reg [Zd 9 67 1 0,Zb 10 9 9,Zd 11 67 1 1,Zb 12 3 11,Zq 13 (.build 81 #[(0,(Zr 10)),(1,(Zr 12))]),Zi 3 81,Zg 81 3 13])
 (.seqL
 (.seq
 (.reg [Zd 14 67 1 2,Zb 15 65 14,Ze 16 15 65,Zq 17 (.move (.const (.int .i64 0)))])
 (.block 0 (.loop b29_2))) c29_3)))
theorem fd29:FnD Tryz.prog 29 48 [(.cell 2 81)] c29:=⟨⟨Tryz.f29,Tryz.f29.body.getD .skip,Tryz.func29,by kernel_rfl,by kernel_rfl,by kernel_rfl,by kernel_rfl⟩⟩
def c30:ACode:=(.seq
 (.reg [Zj 2 25 0,Zj 3 28 1,Zf 4 0])
 (.seq
 (.seq
 (.reg [Zb 8 25 2,Zo 9 54 #[Zr 8] #[25],Zc 5 9])
 (.seq
 (.reg [Za 10 5,Zm 11 .neq 38 10 0])
 (.cond (Zr 11)
 (.seq
 (.reg [Za 12 5,Zc 4 12]) .ret) .skip)))
 (.seq
 (.reg [Zb 14 28 3,Zo 15 19 #[Zr 14] #[28],Za 13 15,Zh 16 13 0,Zh 17 13 1,Zc 6 16,Zc 7 17])
 (.seq
 (.seq
 (.reg [Za 18 6,Zm 19 .gtr 3 18 5000])
 (.cond (Zr 19)
 (.seq
 (.reg [Zf 4 7]) .ret) .skip))
 (.seq
 (.seq
 (.reg [Za 20 7,Zm 21 .gtr 3 20 200])
 (.cond (Zr 21)
 (.seq
 (.reg [Zf 4 6]) .ret) .skip))
 (.seq
 (.reg [Zb 22 25 2,Zb 23 28 3,Zo 24 55 #[Zr 22,Zr 23,(.const (.slice none 0 0))] #[25,28,181],Zc 4 24]) .ret))))))
theorem fd30:FnD Tryz.prog 30 25 [(.tmp 4)] c30:=⟨⟨Tryz.f30,Tryz.f30.body.getD .skip,Tryz.func30,by kernel_rfl,by kernel_rfl,by kernel_rfl,by kernel_rfl⟩⟩
def b36_1:ACode:=(.seq
 (.reg [Zn 18 .lss 3 17 16])
 (.seq
 (.cond (Zr 18) .skip (.exit 0))
 (.seq
 (.block 1
 (.seq
 (.reg [Za 19 17,Zk 20 33 15 17,Zb 21 35 20,Zi 8 35,Zc 7 19,Zg 35 8 21])
 (.seq
 (.reg [Za 22 1,Za 23 7,Zk 24 26 22 23,Zb 25 28 24,Zi 9 28,Zg 28 9 25])
 (.seq
 (.reg [Za 26 2,Zb 27 35 8,Zb 28 28 9,Zq 29 (.call { callee:=(.value (Zr 26)),args:=#[Zr 27,Zr 28],argTypes:=#[35,28] }),Zq 30 (.unOp .not 4 (Zr 29))])
 (.cond (Zr 30)
 (.seq
 (.reg [Zq 6 (.assign (.const (.bool false)))]) .ret) .skip)))))
 (.reg [Zm 31 .add 3 17 1,Za 17 31]))))
def c36_1:ACode:=(.seq
 (.reg [Zq 6 (.assign (.const (.bool true)))]) .ret)
def c36:ACode:=(.seq
 (.reg [Zq 6 (.assign (.const (.bool false)))])
 (.seq
 (.seq
 (.reg [Za 10 0,Ze 11 10 33,Za 12 1,Ze 13 12 26,Zn 14 .neq 3 11 13])
 (.cond (Zr 14)
 (.seq
 (.reg [Zq 6 (.assign (.const (.bool false)))]) .ret) .skip))
 (.seqL
 (.seq
 (.reg [Za 15 0,Ze 16 15 33,Zq 17 (.move (.const (.int .i64 0)))])
 (.block 0 (.loop b36_1))) c36_1)))
theorem fd36:FnD Tryz.prog 36 32 [(.tmp 6)] c36:=⟨⟨Tryz.f36,Tryz.f36.body.getD .skip,Tryz.func36,by kernel_rfl,by kernel_rfl,by kernel_rfl,by kernel_rfl⟩⟩
def c37:ACode:=(.seq
 (.reg [Zj 2 85 0,Zj 3 35 1,Zq 4 (.assign (.const (.bool false)))])
 (.seq
 (.reg [Zq 7 (.makeFunc (.func 61) #[] #[Zr 2]),Zc 5 7])
 (.seq
 (.seq
 (.reg [Zd 8 35 3 0,Zb 9 3 8])
 (.block 0
 (.seq
 (.reg [Zm 11 .eql 3 9 5,Zc 10 11])
 (.cond (Zr 10)
 (.seq
 (.reg [Zq 4 (.assign (.const (.bool true)))]) .ret)
 (.seq
 (.reg [Zm 13 .eql 3 9 2,Zc 12 13])
 (.cond (Zr 12)
 (.seq
 (.reg [Zd 14 85 2 0,Zb 15 82 14,Zd 16 35 3 1,Zb 17 9 16,Zq 18 (.lookup 82 (Zr 15) (Zr 17) false),Zq 19 (.nilCheck (Zr 18)),Zd 20 81 19 1,Zb 21 3 20,Zm 22 .gtr 3 21 0,Zc 4 22]) .ret)
 (.seq
 (.reg [Zm 24 .eql 3 9 3,Zc 23 24])
 (.cond (Zr 23)
 (.seq
 (.reg [Za 25 5,Zd 26 35 3 2,Zb 27 33 26,Zq 28 (.call { callee:=(.value (Zr 25)),args:=#[Zr 27],argTypes:=#[33] }),Zc 4 28]) .ret)
 (.seq
 (.reg [Zm 30 .eql 3 9 4,Zc 29 30])
 (.cond (Zr 29)
 (.seq
 (.reg [Zb 31 35 3,Zo 32 64 #[Zr 31] #[35],Zg 35 3 32])
 (.seq
 (.reg [Zd 33 35 3 2,Zb 34 33 33,Zq 35 (.indexAddr 33 (Zr 34) (.const (.int .i64 0))),Zb 36 35 35,Zi 6 35,Zg 35 6 36])
 (.seq
 (.dreg
 (.tk 0 (Zd 37 35 6 0)
 (.tk 1 (Zb 38 3 37)
 (.tk 2 (Zm 39 .eql 3 38 2)
 (.tk 3 (Za 40 39)
 (.tk 4 (Zp 41 (.fieldAddr 35 (Zr 3) 2) 40 true)
 (.tk 5 (Zp 42 (.load 33 (Zr 41)) 40 true)
 (.tk 6 (Zp 43 (.call { callee:=(.builtin .len),args:=#[Zr 42],argTypes:=#[33] }) 40 true)
 (.tk 7 (Zp 44 (.binOp .sub 3 (Zr 43) (.const (.int .i64 1)) 3) 40 true)
 (.tk 8 (Zp 45 (.fieldAddr 85 (Zr 2) 0) 40 true)
 (.tk 9 (Zp 46 (.load 82 (Zr 45)) 40 true)
 (.tk 10 (Zp 47 (.fieldAddr 35 (Zr 6) 1) 40 true)
 (.tk 11 (Zp 48 (.load 9 (Zr 47)) 40 true)
 (.one [4,5,6,7,12,13,14,15,16,17,18,19,20,21,22,23,24,25] (Zp 49 (.lookup 82 (Zr 46) (Zr 48) false) 40 true)
 (.tk 13 (Zp 50 (.nilCheck (Zr 49)) 40 true)
 (.tk 14 (Zp 51 (.fieldAddr 81 (Zr 50) 1) 40 true)
 (.tk 15 (Zp 52 (.load 3 (Zr 51)) 40 true)
 (.tk 16 (Zp 53 (.binOp .lss 3 (Zr 44) (Zr 52) 3) 40 true)
 (.tk 17 (Zq 54 (.pick (Zr 40) (Zr 53) (.const (.bool false))))
 (.tk 18 (Za 55 54)
 (.tk 19 (Zp 56 (.move (Zr 5)) 55 true)
 (.tk 20 (Zp 57 (.fieldAddr 35 (Zr 3) 2) 55 true)
 (.tk 21 (Zp 58 (.load 33 (Zr 57)) 55 true) (.cut (Zp 59 (.slice 33 (Zr 58) (some (.const (.int .i64 1))) none none) 55 true) .fin))))))))))))))))))))))) [Zp 60 (.call { callee:=(.value (Zr 56)),args:=#[Zr 59],argTypes:=#[33] }) 55 true,Zq 61 (.pick (Zr 55) (Zr 60) (.const (.bool false))),Zc 4 61]) .ret))) .skip))))))))))
 (.seq
 (.reg [Zq 4 (.assign (.const (.bool false)))]) .ret))))
theorem fd37:FnD Tryz.prog 37 62 [(.tmp 4)] c37:=⟨⟨Tryz.f37,Tryz.f37.body.getD .skip,Tryz.func37,by kernel_rfl,by kernel_rfl,by kernel_rfl,by kernel_rfl⟩⟩
def c38:ACode:=(.seq
 (.reg [Zj 1 35 0,Zi 2 35])
 (.seq
 (.reg [Zb 3 35 1,Zo 4 65 #[Zr 3,(.const (.slice none 0 0))] #[35,166],Zg 35 2 4]) .ret))
theorem fd38:FnD Tryz.prog 38 5 [(.cell 2 35)] c38:=⟨⟨Tryz.f38,Tryz.f38.body.getD .skip,Tryz.func38,by kernel_rfl,by kernel_rfl,by kernel_rfl,by kernel_rfl⟩⟩
def ZE:GOp:=Zo 124 66 #[Zr 117,Zr 123] #[81,33]
def ZD:GPlan:=.tk 15 (Zc 16 125) (.one [13,16,17] (Zg 35 17 126) .fin)
def c39:ACode:=(.seq
 (.reg [Zj 2 85 0,Zj 3 35 1,Zi 4 35,Zf 5 0])
 (.seq
 (.seq
 (.reg [Zd 19 35 3 0,Zb 20 3 19,Zm 21 .eql 3 20 2])
 (.cond (Zr 21)
 (.seq
 (.reg [Zd 23 85 2 0,Zb 24 82 23,Zd 25 35 3 1,Zb 26 9 25,Zq 27 (.lookup 82 (Zr 24) (Zr 26) false),Zq 28 (.nilCheck (Zr 27)),Zb 29 81 28,Zo 30 66 #[Zr 29,(.const (.slice none 0 0))] #[81,33],Za 22 30,Zh 31 22 0,Zh 32 22 1,Zh 33 22 2,Zi 7 35,Zc 6 31,Zg 35 7 32,Zc 8 33])
 (.seq
 (.reg [Zb 34 35 7,Za 35 8,Zg 35 4 34,Zc 5 35]) .ret)) .skip))
 (.seq
 (.seq
 (.dreg
 (.tk 0 (Zd 36 35 3 0)
 (.tk 1 (Zb 37 3 36)
 (.tk 2 (Zm 38 .eql 3 37 4)
 (.tk 3 (Za 39 38)
 (.tk 4 (Zp 40 (.load 85 (Zr 2)) 39 true)
 (.tk 5 (Zp 41 (.fieldAddr 35 (Zr 3) 2) 39 true)
 (.tk 6 (Zp 42 (.load 33 (Zr 41)) 39 true)
 (.tk 7 (Zp 43 (.indexAddr 33 (Zr 42) (.const (.int .i64 0))) 39 true)
 (.tk 8 (Zp 44 (.load 35 (Zr 43)) 39 true) .fin))))))))) [Zp 45 (.call { callee:=(.value (.func 37)),args:=#[Zr 40,Zr 44],argTypes:=#[85,35] }) 39 true,Zq 46 (.pick (Zr 39) (Zr 45) (.const (.bool false)))])
 (.cond (Zr 46)
 (.reg [Zb 47 35 3,Zo 48 64 #[Zr 47] #[35],Zg 35 3 48]) .skip))
 (.seq
 (.seq
 (.reg [Zd 49 35 3 2,Zb 50 33 49,Zq 51 (.makeFunc (.func 68) #[] #[Zr 2]),Zo 52 67 #[Zr 50,Zr 51] #[33,114],Zc 9 52])
 (.seq
 (.reg [Za 53 9,Zm 54 .geq 3 53 0])
 (.cond (Zr 54)
 (.seq
 (.dreg
 (.tk 0 (Zb 56 85 2)
 (.tk 1 (Zd 57 35 3 2)
 (.tk 2 (Zb 58 33 57)
 (.tk 3 (Za 59 9)
 (.tk 4 (Zk 60 33 58 59)
 (.tk 5 (Zb 61 35 60)
 (.two [6,7,8,9,10,11,12] (Zo 62 39 #[Zr 56,Zr 61] #[85,35])
 (.tk 7 (Za 55 62)
 (.tk 8 (Zh 63 55 0)
 (.tk 9 (Zh 64 55 1)
 (.one [0,1,2,3,4,5,6,7,8,9,10,11,12] (Zi 10 35)
 (.one [9,11,12] (Zg 35 10 63) .fin))))) [0,1,2,3,4,5,6,7,8,9,10,11,12] (Zi 10 35)
 (.one [6,7,8,9,10,11,12] (Zo 62 39 #[Zr 56,Zr 61] #[85,35])
 (.tk 7 (Za 55 62)
 (.tk 8 (Zh 63 55 0)
 (.tk 9 (Zh 64 55 1)
 (.one [9,11,12] (Zg 35 10 63) .fin)))))))))))) [Zc 11 64])
 (.seq
 (.dreg
 (.tk 0 (Zd 65 35 3 0)
 (.tk 1 (Zb 66 3 65)
 (.tk 2 (Zd 67 35 3 1)
 (.tk 3 (Zb 68 9 67)
 (.tk 4 (Zd 69 35 3 2)
 (.tk 5 (Zb 70 33 69)
 (.two [0,1,2,3,6,7,8,9] (Zo 71 69 #[Zr 70] #[33])
 (.tk 7 (Zq 72 (.build 35 #[(0,(Zr 66)),(1,(Zr 68)),(2,(Zr 71))]))
 (.one [0,1,2,3,4,5,6,7,8,9] (Zi 12 35) .fin)) [0,1,2,3,4,5,6,7,8,9] (Zi 12 35)
 (.one [0,1,2,3,6,7,8,9] (Zo 71 69 #[Zr 70] #[33])
 (.tk 7 (Zq 72 (.build 35 #[(0,(Zr 66)),(1,(Zr 68)),(2,(Zr 71))])) .fin))))))))) [Zg 35 12 72])
 (.seq
 (.reg [Zd 73 35 12 2,Zb 74 33 73,Za 75 9,Zb 76 35 10,Zk 77 33 74 75,Zg 35 77 76])
 (.seq
 (.reg [Zb 78 35 12,Za 79 11,Zg 35 4 78,Zc 5 79]) .ret)))) .skip)))
 (.seq
 (.dreg
 (.tk 0 (Zd 80 35 3 2)
 (.tk 1 (Zb 81 33 80)
 (.tk 2 (Zq 82 (.indexAddr 33 (Zr 81) (.const (.int .i64 0))))
 (.tk 3 (Zb 83 35 82)
 (.tk 4 (Zd 84 35 3 2)
 (.tk 5 (Zb 85 33 84)
 (.tk 6 (Zq 86 (.slice 33 (Zr 85) (some (.const (.int .i64 1))) none none))
 (.one [0,1,2,3,4,5,6,7,8,9] (Zi 13 35)
 (.one [4,5,6,8,9] (Zg 35 13 83) .fin))))))))) [Zc 14 86])
 (.seq
 (.seq
 (.reg [Zd 87 35 13 0,Zb 88 3 87])
 (.block 0
 (.seq
 (.reg [Zm 90 .eql 3 88 5,Zc 89 90])
 (.cond (Zr 89)
 (.seq
 (.dreg
 (.tk 0 (Zd 91 35 13 2)
 (.tk 1 (Zb 92 33 91)
 (.tk 2 (Zq 93 (.indexAddr 33 (Zr 92) (.const (.int .i64 0))))
 (.tk 3 (Zb 94 35 93)
 (.tk 4 (Zd 95 35 13 1)
 (.tk 5 (Zb 96 9 95)
 (.tk 6 (Za 97 14)
 (.tk 7 (Zq 98 (.indexAddr 33 (Zr 97) (.const (.int .i64 0))))
 (.tk 8 (Zb 99 35 98)
 (.tk 9 (Zq 100 (.build 165 #[(0,(Zr 96)),(1,(Zr 99))]))
 (.tk 10 (Zq 101 (.buildSlice 166 1 #[(0,(Zr 100))]))
 (.tk 12 (Za 103 14)
 (.tk 13 (Zq 104 (.slice 33 (Zr 103) (some (.const (.int .i64 1))) none none))
 (.one [11,12,13,14,15,16] (Zo 102 65 #[Zr 94,Zr 101] #[35,166]) .fin)))))))))))))) [Zo 105 70 #[Zr 102,Zr 104] #[35,33],Zg 35 4 105,Zf 5 0]) .ret)
 (.seq
 (.reg [Zm 107 .eql 3 88 3,Zc 106 107])
 (.cond (Zr 106)
 (.seq
 (.reg [Zb 108 35 3,Zg 35 4 108,Zf 5 421]) .ret) .skip))))))
 (.seq
 (.reg [Zd 109 85 2 0,Zb 110 82 109,Zd 111 35 13 1,Zb 112 9 111,Zq 113 (.lookup 82 (Zr 110) (Zr 112) false),Zc 15 113])
 (.seq
 (.dreg
 (.tk 0 (Za 115 15)
 (.tk 1 (Zq 116 (.nilCheck (Zr 115)))
 (.tk 2 (Zb 117 81 116)
 (.tk 3 (Za 118 14)
 (.tk 4 (Za 119 15)
 (.tk 5 (Zq 120 (.nilCheck (Zr 119)))
 (.tk 6 (Zd 121 81 120 1)
 (.tk 7 (Zb 122 3 121)
 (.tk 8 (Zq 123 (.slice 33 (Zr 118) none (some (Zr 122)) none))
 (.two [9,10,11,12,13,14,15,16,17] ZE
 (.tk 10 (Za 114 124)
 (.tk 11 (Zh 125 114 0)
 (.tk 12 (Zh 126 114 1)
 (.tk 13 (Zh 127 114 2)
 (.one [0,1,2,3,4,5,6,7,8,9,10,11,12,13,14,15,16,17] (Zi 17 35) ZD))))) [0,1,2,3,4,5,6,7,8,9,10,11,12,13,14,15,16,17] (Zi 17 35)
 (.one [9,10,11,12,13,14,15,16,17] ZE
 (.tk 10 (Za 114 124)
 (.tk 11 (Zh 125 114 0)
 (.tk 12 (Zh 126 114 1)
 (.tk 13 (Zh 127 114 2) ZD))))))))))))))) [Zc 18 127])
 (.seq
 (.dreg
 (.tk 0 (Zb 128 35 17)
 (.tk 1 (Za 129 14)
 (.tk 2 (Za 130 15)
 (.tk 3 (Zq 131 (.nilCheck (Zr 130)))
 (.tk 4 (Zd 132 81 131 1)
 (.tk 5 (Zb 133 3 132)
 (.tk 6 (Zq 134 (.slice 33 (Zr 129) (some (Zr 133)) none none))
 (.tk 8 (Za 136 18)
 (.one [7,8,9,10] (Zo 135 70 #[Zr 128,Zr 134] #[35,33]) (.cut (Zg 35 4 135) .fin)))))))))) [Zc 5 136]) .ret)))))))))
theorem fd39:FnD Tryz.prog 39 137 [(.cell 4 35),(.tmp 5)] c39:=⟨⟨Tryz.f39,Tryz.f39.body.getD .skip,Tryz.func39,by kernel_rfl,by kernel_rfl,by kernel_rfl,by kernel_rfl⟩⟩
def c40:ACode:=(.seq
 (.reg [Zj 2 25 0,Zj 3 28 1,Zq 4 (.assign (.const (.bool false)))])
 (.seq
 (.seq
 (.reg [Zd 6 28 3 0,Zb 7 3 6])
 (.block 0
 (.seq
 (.reg [Zm 9 .eql 3 7 5,Zc 8 9])
 (.cond (Zr 8)
 (.seq
 (.reg [Zq 4 (.assign (.const (.bool true)))]) .ret)
 (.seq
 (.reg [Zm 11 .eql 3 7 2,Zc 10 11])
 (.cond (Zr 10)
 (.seq
 (.dreg
 (.tk 0 (Zd 12 25 2 1)
 (.tk 1 (Zb 13 23 12)
 (.tk 2 (Zb 14 25 2)
 (.tk 3 (Zd 15 28 3 1)
 (.tk 4 (Zb 16 9 15)
 (.one [0,1,5,6,7,8,9,10] (Zo 17 56 #[Zr 14,Zr 16] #[25,9]) .fin)))))) [Zk 18 23 13 17,Zd 19 67 18 1,Zb 20 3 19,Zm 21 .gtr 3 20 0,Zc 4 21]) .ret)
 (.seq
 (.reg [Zm 23 .eql 3 7 3,Zc 22 23])
 (.cond (Zr 22)
 (.seq
 (.reg [Zb 24 25 2,Zd 25 28 3 2,Zb 26 26 25,Zo 27 71 #[Zr 24,Zr 26] #[25,26],Zc 4 27]) .ret)
 (.seq
 (.reg [Zm 29 .eql 3 7 4,Zc 28 29])
 (.cond (Zr 28)
 (.seq
 (.reg [Zb 30 28 3,Zo 31 72 #[Zr 30] #[28],Zg 28 3 31])
 (.seq
 (.reg [Zd 32 28 3 2,Zb 33 26 32,Zq 34 (.indexAddr 26 (Zr 33) (.const (.int .i64 0))),Zb 35 28 34,Zi 5 28,Zg 28 5 35])
 (.seq
 (.dreg
 (.tk 0 (Zd 36 28 5 0)
 (.tk 1 (Zb 37 3 36)
 (.tk 2 (Zm 38 .eql 3 37 2)
 (.tk 3 (Za 39 38)
 (.tk 4 (Zp 40 (.fieldAddr 28 (Zr 3) 2) 39 true)
 (.tk 5 (Zp 41 (.load 26 (Zr 40)) 39 true)
 (.tk 6 (Zp 42 (.call { callee:=(.builtin .len),args:=#[Zr 41],argTypes:=#[26] }) 39 true)
 (.tk 7 (Zp 43 (.binOp .sub 3 (Zr 42) (.const (.int .i64 1)) 3) 39 true)
 (.tk 8 (Zp 44 (.fieldAddr 25 (Zr 2) 1) 39 true)
 (.tk 9 (Zp 45 (.load 23 (Zr 44)) 39 true)
 (.tk 10 (Zp 46 (.load 25 (Zr 2)) 39 true)
 (.tk 11 (Zp 47 (.fieldAddr 28 (Zr 5) 1) 39 true)
 (.tk 12 (Zp 48 (.load 9 (Zr 47)) 39 true)
 (.one [4,5,6,7,8,9,13,14,15,16,17,18,19,20,21,22,23,24,25,26] (Zp 49 (.call { callee:=(.value (.func 56)),args:=#[Zr 46,Zr 48],argTypes:=#[25,9] }) 39 true)
 (.tk 14 (Zp 50 (.indexAddr 23 (Zr 45) (Zr 49)) 39 true)
 (.tk 15 (Zp 51 (.fieldAddr 67 (Zr 50) 1) 39 true)
 (.tk 16 (Zp 52 (.load 3 (Zr 51)) 39 true)
 (.tk 17 (Zp 53 (.binOp .lss 3 (Zr 43) (Zr 52) 3) 39 true)
 (.tk 18 (Zq 54 (.pick (Zr 39) (Zr 53) (.const (.bool false))))
 (.tk 19 (Za 55 54)
 (.tk 20 (Zp 56 (.load 25 (Zr 2)) 55 true)
 (.tk 21 (Zp 57 (.fieldAddr 28 (Zr 3) 2) 55 true)
 (.tk 22 (Zp 58 (.load 26 (Zr 57)) 55 true)
 (.tk 23 (Zp 59 (.slice 26 (Zr 58) (some (.const (.int .i64 1))) none none) 55 true) .fin)))))))))))))))))))))))) [Zp 60 (.call { callee:=(.value (.func 71)),args:=#[Zr 56,Zr 59],argTypes:=#[25,26] }) 55 true,Zq 61 (.pick (Zr 55) (Zr 60) (.const (.bool false))),Zc 4 61]) .ret))) .skip))))))))))
 (.seq
 (.reg [Zq 4 (.assign (.const (.bool false)))]) .ret)))
theorem fd40:FnD Tryz.prog 40 62 [(.tmp 4)] c40:=⟨⟨Tryz.f40,Tryz.f40.body.getD .skip,Tryz.func40,by kernel_rfl,by kernel_rfl,by kernel_rfl,by kernel_rfl⟩⟩
def b41_1:ACode:=(.seq
 (.seq
 (.reg [Za 50 9,Zd 51 28 3 2,Zb 52 26 51,Ze 53 52 26,Zn 54 .lss 3 50 53])
 (.cond (Zr 54) .skip (.exit 0)))
 (.seq
 (.block 1
 (.seq
 (.dreg
 (.tk 0 (Zb 57 25 2)
 (.tk 1 (Zd 58 28 3 2)
 (.tk 2 (Zb 59 26 58)
 (.tk 3 (Za 60 9)
 (.tk 4 (Zk 61 26 59 60)
 (.tk 5 (Zb 62 28 61) .fin)))))) [Zo 63 40 #[Zr 57,Zr 62] #[25,28],Zq 64 (.unOp .not 4 (Zr 63))])
 (.cond (Zr 64)
 (.seq
 (.dreg
 (.tk 0 (Zb 66 25 2)
 (.tk 1 (Zd 67 28 3 2)
 (.tk 2 (Zb 68 26 67)
 (.tk 3 (Za 69 9)
 (.tk 4 (Zk 70 26 68 69)
 (.tk 5 (Zb 71 28 70)
 (.two [6,7,8,9,10,11,12] (Zo 72 41 #[Zr 66,Zr 71] #[25,28])
 (.tk 7 (Za 65 72)
 (.tk 8 (Zh 73 65 0)
 (.tk 9 (Zh 74 65 1)
 (.one [0,1,2,3,4,5,6,7,8,9,10,11,12] (Zi 10 28)
 (.one [9,11,12] (Zg 28 10 73) .fin))))) [0,1,2,3,4,5,6,7,8,9,10,11,12] (Zi 10 28)
 (.one [6,7,8,9,10,11,12] (Zo 72 41 #[Zr 66,Zr 71] #[25,28])
 (.tk 7 (Za 65 72)
 (.tk 8 (Zh 73 65 0)
 (.tk 9 (Zh 74 65 1)
 (.one [9,11,12] (Zg 28 10 73) .fin)))))))))))) [Zc 11 74])
 (.seq
 (.seq
 (.reg [Za 75 11,Zm 76 .neq 38 75 0])
 (.cond (Zr 76)
 (.seq
 (.reg [Zb 77 28 3,Za 78 11,Zg 28 4 77,Zc 5 78]) .ret) .skip))
 (.seq
 (.dreg
 (.tk 0 (Zd 79 28 3 0)
 (.tk 1 (Zb 80 3 79)
 (.tk 2 (Zd 81 28 3 1)
 (.tk 3 (Zb 82 9 81)
 (.tk 4 (Zq 83 (.buildSlice 26 0 #[]))
 (.tk 5 (Zd 84 28 3 2)
 (.tk 6 (Zb 85 26 84)
 (.two [0,1,2,3,7,8,9,10] (Zl 86 83 85 26)
 (.tk 8 (Zq 87 (.build 28 #[(0,(Zr 80)),(1,(Zr 82)),(2,(Zr 86))]))
 (.one [0,1,2,3,4,5,6,7,8,9,10] (Zi 12 28) .fin)) [0,1,2,3,4,5,6,7,8,9,10] (Zi 12 28)
 (.one [0,1,2,3,7,8,9,10] (Zl 86 83 85 26)
 (.tk 8 (Zq 87 (.build 28 #[(0,(Zr 80)),(1,(Zr 82)),(2,(Zr 86))])) .fin)))))))))) [Zg 28 12 87])
 (.seq
 (.reg [Zd 88 28 12 2,Zb 89 26 88,Za 90 9,Zb 91 28 10,Zk 92 26 89 90,Zg 28 92 91])
 (.seq
 (.reg [Zb 93 28 12,Zg 28 4 93,Zf 5 0]) .ret))))) .skip)))
 (.reg [Za 55 9,Zm 56 .add 3 55 1,Zc 9 56])))
def ZG:GOp:=Zo 137 73 #[Zr 132,Zr 136] #[67,26]
def ZF:GPlan:=.tk 11 (Zc 16 138) (.one [9,12,13] (Zg 28 17 139) .fin)
def c41_1:ACode:=(.seq
 (.dreg
 (.tk 0 (Zd 94 28 3 2)
 (.tk 1 (Zb 95 26 94)
 (.tk 2 (Zq 96 (.indexAddr 26 (Zr 95) (.const (.int .i64 0))))
 (.tk 3 (Zb 97 28 96)
 (.tk 4 (Zd 98 28 3 2)
 (.tk 5 (Zb 99 26 98)
 (.tk 6 (Zq 100 (.slice 26 (Zr 99) (some (.const (.int .i64 1))) none none))
 (.one [0,1,2,3,4,5,6,7,8,9] (Zi 13 28)
 (.one [4,5,6,8,9] (Zg 28 13 97) .fin))))))))) [Zc 14 100])
 (.seq
 (.seq
 (.reg [Zd 101 28 13 0,Zb 102 3 101])
 (.block 2
 (.seq
 (.reg [Zm 104 .eql 3 102 5,Zc 103 104])
 (.cond (Zr 103)
 (.seq
 (.dreg
 (.tk 0 (Zd 105 28 13 2)
 (.tk 1 (Zb 106 26 105)
 (.tk 2 (Zq 107 (.indexAddr 26 (Zr 106) (.const (.int .i64 0))))
 (.tk 3 (Zb 108 28 107)
 (.tk 4 (Zd 109 28 13 1)
 (.tk 5 (Zb 110 9 109)
 (.tk 6 (Za 111 14)
 (.tk 7 (Zq 112 (.indexAddr 26 (Zr 111) (.const (.int .i64 0))))
 (.tk 8 (Zb 113 28 112)
 (.tk 9 (Zq 114 (.build 174 #[(0,(Zr 110)),(1,(Zr 113))]))
 (.tk 10 (Zq 115 (.buildSlice 175 1 #[(0,(Zr 114))]))
 (.tk 12 (Za 117 14)
 (.tk 13 (Zq 118 (.slice 26 (Zr 117) (some (.const (.int .i64 1))) none none))
 (.one [11,12,13,14,15,16] (Zo 116 75 #[Zr 108,Zr 115] #[28,175]) .fin)))))))))))))) [Zo 119 74 #[Zr 116,Zr 118] #[28,26],Zg 28 4 119,Zf 5 0]) .ret)
 (.seq
 (.reg [Zm 121 .eql 3 102 3,Zc 120 121])
 (.cond (Zr 120)
 (.seq
 (.reg [Zb 122 28 3,Zg 28 4 122,Zf 5 421]) .ret) .skip))))))
 (.seq
 (.dreg
 (.tk 0 (Zd 123 25 2 1)
 (.tk 1 (Zb 124 23 123)
 (.tk 2 (Zb 125 25 2)
 (.tk 3 (Zd 126 28 13 1)
 (.tk 4 (Zb 127 9 126)
 (.two [0,1,5,6,7,8,9] (Zo 128 56 #[Zr 125,Zr 127] #[25,9])
 (.tk 6 (Zk 129 23 124 128)
 (.tk 7 (Zb 130 67 129)
 (.one [0,1,2,3,4,5,6,7,8,9] (Zi 15 67) .fin))) [0,1,2,3,4,5,6,7,8,9] (Zi 15 67)
 (.one [0,1,5,6,7,8,9] (Zo 128 56 #[Zr 125,Zr 127] #[25,9])
 (.tk 6 (Zk 129 23 124 128)
 (.tk 7 (Zb 130 67 129) .fin))))))))) [Zg 67 15 130])
 (.seq
 (.dreg
 (.tk 0 (Zb 132 67 15)
 (.tk 1 (Za 133 14)
 (.tk 2 (Zd 134 67 15 1)
 (.tk 3 (Zb 135 3 134)
 (.tk 4 (Zq 136 (.slice 26 (Zr 133) none (some (Zr 135)) none))
 (.two [5,6,7,8,9,10,11,12,13] ZG
 (.tk 6 (Za 131 137)
 (.tk 7 (Zh 138 131 0)
 (.tk 8 (Zh 139 131 1)
 (.tk 9 (Zh 140 131 2)
 (.one [0,1,2,3,4,5,6,7,8,9,10,11,12,13] (Zi 17 28) ZF))))) [0,1,2,3,4,5,6,7,8,9,10,11,12,13] (Zi 17 28)
 (.one [5,6,7,8,9,10,11,12,13] ZG
 (.tk 6 (Za 131 137)
 (.tk 7 (Zh 138 131 0)
 (.tk 8 (Zh 139 131 1)
 (.tk 9 (Zh 140 131 2) ZF))))))))))) [Zc 18 140])
 (.seq
 (.seq
 (.reg [Za 141 18,Zm 142 .neq 38 141 0])
 (.cond (Zr 142)
 (.seq
 (.reg [Zb 143 28 3,Za 144 18,Zg 28 4 143,Zc 5 144]) .ret) .skip))
 (.seq
 (.dreg
 (.tk 0 (Zb 145 28 17)
 (.tk 1 (Za 146 14)
 (.tk 2 (Zd 147 67 15 1)
 (.tk 3 (Zb 148 3 147)
 (.tk 4 (Zq 149 (.slice 26 (Zr 146) (some (Zr 148)) none none)) .fin))))) [Zo 150 74 #[Zr 145,Zr 149] #[28,26],Zg 28 4 150,Zf 5 0]) .ret))))))
def ZH:GPlan:=.one [8,9,10,11,12,13,14,15,16] (Zo 31 73 #[Zr 30,(.const (.slice none 0 0))] #[67,26]) (.tk 9 (Za 22 31) (.tk 10 (Zh 32 22 0) (.tk 11 (Zh 33 22 1) (.tk 12 (Zh 34 22 2) (.tk 14 (Zc 6 32) (.one [12,15,16] (Zg 28 7 33) .fin))))))
def c41:ACode:=(.seq
 (.reg [Zj 2 25 0,Zj 3 28 1,Zi 4 28,Zf 5 0])
 (.seq
 (.seq
 (.reg [Zd 19 28 3 0,Zb 20 3 19,Zm 21 .eql 3 20 2])
 (.cond (Zr 21)
 (.seq
 (.dreg
 (.tk 0 (Zd 23 25 2 1)
 (.tk 1 (Zb 24 23 23)
 (.tk 2 (Zb 25 25 2)
 (.tk 3 (Zd 26 28 3 1)
 (.tk 4 (Zb 27 9 26)
 (.two [0,1,5,6,7,8,9,10,11,12,13,14,15,16] (Zo 28 56 #[Zr 25,Zr 27] #[25,9])
 (.tk 6 (Zk 29 23 24 28)
 (.tk 7 (Zb 30 67 29)
 (.two [8,9,10,11,12,13,14,15,16] (Zo 31 73 #[Zr 30,(.const (.slice none 0 0))] #[67,26])
 (.tk 9 (Za 22 31)
 (.tk 10 (Zh 32 22 0)
 (.tk 11 (Zh 33 22 1)
 (.tk 12 (Zh 34 22 2)
 (.one [0,1,2,3,4,5,6,7,8,9,10,11,12,13,14,15,16] (Zi 7 28)
 (.tk 14 (Zc 6 32)
 (.one [12,15,16] (Zg 28 7 33) .fin))))))) [0,1,2,3,4,5,6,7,8,9,10,11,12,13,14,15,16] (Zi 7 28) ZH))) [0,1,2,3,4,5,6,7,8,9,10,11,12,13,14,15,16] (Zi 7 28)
 (.one [0,1,5,6,7,8,9,10,11,12,13,14,15,16] (Zo 28 56 #[Zr 25,Zr 27] #[25,9])
 (.tk 6 (Zk 29 23 24 28)
 (.tk 7 (Zb 30 67 29) ZH))))))))) [Zc 8 34])
 (.seq
 (.reg [Zb 35 28 7,Za 36 8,Zg 28 4 35,Zc 5 36]) .ret)) .skip))
 (.seq
 (.seq
 (.dreg
 (.tk 0 (Zd 37 28 3 0)
 (.tk 1 (Zb 38 3 37)
 (.tk 2 (Zm 39 .eql 3 38 4)
 (.tk 3 (Za 40 39)
 (.tk 4 (Zp 41 (.load 25 (Zr 2)) 40 true)
 (.tk 5 (Zp 42 (.fieldAddr 28 (Zr 3) 2) 40 true)
 (.tk 6 (Zp 43 (.load 26 (Zr 42)) 40 true)
 (.tk 7 (Zp 44 (.indexAddr 26 (Zr 43) (.const (.int .i64 0))) 40 true)
 (.tk 8 (Zp 45 (.load 28 (Zr 44)) 40 true) .fin))))))))) [Zp 46 (.call { callee:=(.value (.func 40)),args:=#[Zr 41,Zr 45],argTypes:=#[25,28] }) 40 true,Zq 47 (.pick (Zr 40) (Zr 46) (.const (.bool false)))])
 (.cond (Zr 47)
 (.reg [Zb 48 28 3,Zo 49 72 #[Zr 48] #[28],Zg 28 3 49]) .skip))
 (.seqL
 (.seq
 (.reg [Zf 9 0])
 (.block 0 (.loop b41_1))) c41_1))))
theorem fd41:FnD Tryz.prog 41 151 [(.cell 4 28),(.tmp 5)] c41:=⟨⟨Tryz.f41,Tryz.f41.body.getD .skip,Tryz.func41,by kernel_rfl,by kernel_rfl,by kernel_rfl,by kernel_rfl⟩⟩
def b42_1:ACode:=(.seq
 (.reg [Zn 12 .lss 3 11 10])
 (.seq
 (.cond (Zr 12) .skip (.exit 0))
 (.seq
 (.block 1
 (.seq
 (.reg [Zk 13 33 9 11,Zb 14 35 13,Zi 5 35,Zg 35 5 14])
 (.seq
 (.reg [Zb 16 35 5,Zo 17 42 #[Zr 16] #[35],Za 15 17,Zh 18 15 0,Zh 19 15 1,Zc 6 18,Zc 7 19])
 (.seq
 (.reg [Za 20 2,Za 21 6,Zn 22 .add 3 20 21,Zc 2 22])
 (.reg [Za 23 3,Za 24 7,Zq 25 (.call { callee:=(.builtin .max),args:=#[Zr 23,Zr 24],argTypes:=#[3,3] }),Zc 3 25])))))
 (.reg [Zm 26 .add 3 11 1,Za 11 26]))))
def c42_1:ACode:=(.seq
 (.reg [Za 27 2,Zm 28 .add 3 27 1,Za 29 3,Zm 30 .add 3 29 1,Zc 2 28,Zc 3 30]) .ret)
def c42:ACode:=(.seq
 (.reg [Zj 1 35 0,Zf 2 0,Zf 3 0])
 (.seqL
 (.seq
 (.reg [Zd 8 35 1 2,Zb 9 33 8,Ze 10 9 33,Zq 11 (.move (.const (.int .i64 0)))])
 (.block 0 (.loop b42_1))) c42_1))
theorem fd42:FnD Tryz.prog 42 31 [(.tmp 2),(.tmp 3)] c42:=⟨⟨Tryz.f42,Tryz.f42.body.getD .skip,Tryz.func42,by kernel_rfl,by kernel_rfl,by kernel_rfl,by kernel_rfl⟩⟩
def b43_1:ACode:=(.seq
 (.reg [Zn 10 .lss 3 9 8])
 (.seq
 (.cond (Zr 10) .skip (.exit 0))
 (.seq
 (.block 1
 (.seq
 (.reg [Zk 11 122 7 9,Zb 12 126 11,Zi 5 126,Zg 126 5 12])
 (.reg [Za 13 3,Zb 14 126 5,Zo 15 43 #[Zr 14] #[126],Zn 16 .add 3 13 15,Zc 3 16])))
 (.reg [Zm 17 .add 3 9 1,Za 9 17]))))
def c43_1:ACode:=(.seq
 (.reg [Za 18 3,Zc 2 18]) .ret)
def c43:ACode:=(.seq
 (.reg [Zj 1 126 0,Zf 2 0])
 (.seq
 (.reg [Zf 3 1])
 (.seqL
 (.seq
 (.reg [Zd 6 126 1 2,Zb 7 122 6,Ze 8 7 122,Zq 9 (.move (.const (.int .i64 0)))])
 (.block 0 (.loop b43_1))) c43_1)))
theorem fd43:FnD Tryz.prog 43 19 [(.tmp 2)] c43:=⟨⟨Tryz.f43,Tryz.f43.body.getD .skip,Tryz.func43,by kernel_rfl,by kernel_rfl,by kernel_rfl,by kernel_rfl⟩⟩
def b44_1:ACode:=(.seq
 (.reg [Zn 25 .lss 3 24 23])
 (.seq
 (.cond (Zr 25) .skip (.exit 0))
 (.seq
 (.block 1
 (.seq
 (.reg [Za 26 24,Zk 27 42 22 24,Zb 28 81 27,Zi 5 81,Zc 4 26,Zg 81 5 28])
 (.block 2
 (.seq
 (.reg [Zd 30 81 5 0,Zb 31 9 30,Zo 32 77 #[Zr 31] #[9],Zq 33 (.unOp .not 4 (Zr 32)),Zc 29 33])
 (.cond (Zr 29)
 (.seq
 (.reg [Zf 2 411]) .ret)
 (.seq
 (.dreg
 (.tk 0 (Zd 35 44 1 0)
 (.tk 1 (Zb 36 41 35)
 (.tk 2 (Zd 37 81 5 0)
 (.tk 3 (Zb 38 9 37)
 (.one [4,5,6,7,8,9,10,11,12,13,14,15,16] (Zo 39 78 #[Zr 36,Zr 38] #[41,9])
 (.tk 5 (Zm 40 .geq 3 39 0)
 (.tk 6 (Za 41 40)
 (.tk 7 (Zp 42 (.fieldAddr 44 (Zr 1) 1) 41 false)
 (.tk 8 (Zp 43 (.load 42 (Zr 42)) 41 false)
 (.tk 9 (Zp 44 (.move (Zr 4)) 41 false)
 (.tk 10 (Zp 45 (.slice 42 (Zr 43) none (some (Zr 44)) none) 41 false)
 (.tk 11 (Zp 46 (.fieldAddr 81 (Zr 5) 0) 41 false)
 (.tk 12 (Zp 47 (.load 9 (Zr 46)) 41 false) .fin))))))))))))) [Zp 48 (.call { callee:=(.value (.func 79)),args:=#[Zr 45,Zr 47],argTypes:=#[42,9] }) 41 false,Zp 49 (.binOp .geq 3 (Zr 48) (.const (.int .i64 0)) 3) 41 false,Zq 50 (.pick (Zr 41) (.const (.bool true)) (Zr 49)),Zc 34 50])
 (.cond (Zr 34)
 (.seq
 (.reg [Zf 2 10]) .ret)
 (.seq
 (.reg [Zd 52 81 5 1,Zb 53 3 52,Zm 54 .lss 3 53 0,Za 55 54,Zp 56 (.fieldAddr 81 (Zr 5) 1) 55 false,Zp 57 (.load 3 (Zr 56)) 55 false,Zp 58 (.binOp .gtr 3 (Zr 57) (.const (.int .i64 10)) 3) 55 false,Zq 59 (.pick (Zr 55) (.const (.bool true)) (Zr 58)),Zc 51 59])
 (.cond (Zr 51)
 (.seq
 (.reg [Zf 2 4]) .ret)
 (.seq
 (.reg [Zd 61 81 5 2,Zb 62 79 61,Ze 63 62 79,Zm 64 .lss 3 63 1,Za 65 64,Zp 66 (.fieldAddr 81 (Zr 5) 2) 65 false,Zp 67 (.load 79 (Zr 66)) 65 false,Zp 68 (.call { callee:=(.builtin .len),args:=#[Zr 67],argTypes:=#[79] }) 65 false,Zp 69 (.binOp .gtr 3 (Zr 68) (.const (.int .i64 100)) 3) 65 false,Zq 70 (.pick (Zr 65) (.const (.bool true)) (Zr 69)),Zc 60 70])
 (.cond (Zr 60)
 (.seq
 (.reg [Zf 2 5]) .ret) .skip)))))))))))
 (.reg [Zm 71 .add 3 24 1,Za 24 71]))))
def b44_2:ACode:=(.seq
 (.reg [Zn 83 .lss 3 82 81])
 (.seq
 (.cond (Zr 83) .skip (.exit 5))
 (.seq
 (.block 6
 (.seq
 (.reg [Zk 84 79 80 82,Zb 85 78 84,Zi 9 78,Zg 78 9 85])
 (.seq
 (.reg [Zb 86 44 1,Zb 87 81 7,Zb 88 78 9,Zo 89 80 #[Zr 86,Zr 87,Zr 88] #[44,81,78],Zc 10 89])
 (.seq
 (.reg [Za 90 10,Zm 91 .neq 38 90 0])
 (.cond (Zr 91)
 (.seq
 (.reg [Za 92 10,Zc 2 92]) .ret) .skip)))))
 (.reg [Zm 93 .add 3 82 1,Za 82 93]))))
def c44_1:ACode:=(.reg [Zm 94 .add 3 75 1,Za 75 94])
def b44_3:ACode:=(.seq
 (.reg [Zn 76 .lss 3 75 74])
 (.seq
 (.cond (Zr 76) .skip (.exit 3))
 (.seqL
 (.block 4
 (.seq
 (.reg [Zk 77 42 73 75,Zb 78 81 77,Zi 7 81,Zg 81 7 78])
 (.seq
 (.reg [Zd 79 81 7 2,Zb 80 79 79,Ze 81 80 79,Zq 82 (.move (.const (.int .i64 0)))])
 (.block 5 (.loop b44_2))))) c44_1)))
def c44_2:ACode:=(.seq
 (.reg [Zf 2 0]) .ret)
def c44_3:ACode:=(.seqL
 (.seq
 (.reg [Zd 72 44 1 1,Zb 73 42 72,Ze 74 73 42,Zq 75 (.move (.const (.int .i64 0)))])
 (.block 3 (.loop b44_3))) c44_2)
def c44:ACode:=(.seq
 (.reg [Zj 1 44 0,Zf 2 0])
 (.seq
 (.seq
 (.reg [Zd 11 44 1 1,Zb 12 42 11,Ze 13 12 42,Zm 14 .gtr 3 13 100])
 (.cond (Zr 14)
 (.seq
 (.reg [Zf 2 5]) .ret) .skip))
 (.seq
 (.seq
 (.reg [Zd 15 44 1 0,Zb 16 41 15,Zo 17 76 #[Zr 16] #[41],Zc 3 17])
 (.seq
 (.reg [Za 18 3,Zm 19 .neq 38 18 0])
 (.cond (Zr 19)
 (.seq
 (.reg [Za 20 3,Zc 2 20]) .ret) .skip)))
 (.seqL
 (.seq
 (.reg [Zd 21 44 1 1,Zb 22 42 21,Ze 23 22 42,Zq 24 (.move (.const (.int .i64 0)))])
 (.block 0 (.loop b44_1))) c44_3))))
theorem fd44:FnD Tryz.prog 44 95 [(.tmp 2)] c44:=⟨⟨Tryz.f44,Tryz.f44.body.getD .skip,Tryz.func44,by kernel_rfl,by kernel_rfl,by kernel_rfl,by kernel_rfl⟩⟩
def b45_1:ACode:=(.seq
 (.reg [Zn 14 .lss 3 13 12])
 (.seq
 (.cond (Zr 14) .skip (.exit 0))
 (.seq
 (.block 1
 (.seq
 (.reg [Za 15 13,Zc 4 15])
 (.dreg
 (.tk 0 (Zd 16 85 3 0)
 (.tk 1 (Zb 17 82 16)
 (.tk 2 (Zd 18 44 1 1)
 (.tk 3 (Zb 19 42 18)
 (.tk 4 (Za 20 4)
 (.tk 5 (Zk 21 42 19 20)
 (.tk 6 (Zd 22 81 21 0)
 (.tk 7 (Zb 23 9 22)
 (.tk 8 (Zd 24 44 1 1)
 (.tk 9 (Zb 25 42 24)
 (.tk 10 (Za 26 4)
 (.tk 11 (Zk 27 42 25 26) .fin)))))))))))) [⟨none,(.mapUpdate 82 (Zr 17) (Zr 23) (Zr 27)),none⟩])))
 (.reg [Zm 28 .add 3 13 1,Za 13 28]))))
def b45_2:ACode:=(.seq
 (.reg [Zn 33 .lss 3 32 31])
 (.seq
 (.cond (Zr 33) .skip (.exit 2))
 (.seq
 (.block 3
 (.seq
 (.reg [Zk 34 41 30 32,Zb 35 76 34,Zi 6 76,Zg 76 6 35])
 (.reg [Zd 36 85 3 1,Zb 37 83 36,Zd 38 76 6 0,Zb 39 9 38,Zd 40 76 6 1,Zb 41 3 40,⟨none,(.mapUpdate 83 (Zr 37) (Zr 39) (Zr 41)),none⟩])))
 (.reg [Zm 42 .add 3 32 1,Za 32 42]))))
def c45_1:ACode:=(.seq
 (.reg [Zb 43 85 3,Zg 85 2 43]) .ret)
def c45_2:ACode:=(.seqL
 (.seq
 (.reg [Zd 29 44 1 0,Zb 30 41 29,Ze 31 30 41,Zq 32 (.move (.const (.int .i64 0)))])
 (.block 2 (.loop b45_2))) c45_1)
def c45:ACode:=(.seq
 (.reg [Zj 1 44 0,Zi 2 85])
 (.seq
 (.reg [Zq 7 (.makeMap 82 none),Zq 8 (.makeMap 83 none),Zq 9 (.build 85 #[(0,(Zr 7)),(1,(Zr 8))]),Zi 3 85,Zg 85 3 9])
 (.seqL
 (.seq
 (.reg [Zd 10 44 1 1,Zb 11 42 10,Ze 12 11 42,Zq 13 (.move (.const (.int .i64 0)))])
 (.block 0 (.loop b45_1))) c45_2)))
theorem fd45:FnD Tryz.prog 45 44 [(.cell 2 85)] c45:=⟨⟨Tryz.f45,Tryz.f45.body.getD .skip,Tryz.func45,by kernel_rfl,by kernel_rfl,by kernel_rfl,by kernel_rfl⟩⟩
def b46_1:ACode:=(.seq
 (.reg [Zn 98 .lss 3 97 96])
 (.seq
 (.cond (Zr 98) .skip (.exit 2))
 (.seq
 (.block 3
 (.seq
 (.reg [Zk 99 33 95 97,Zb 100 35 99,Zi 12 35,Zg 35 12 100])
 (.seq
 (.reg [Zb 101 85 3,Zb 102 35 12,Za 103 2,Zo 104 46 #[Zr 101,Zr 102,Zr 103] #[85,35,181],Zc 13 104])
 (.seq
 (.reg [Za 105 13,Zm 106 .neq 38 105 0])
 (.cond (Zr 106)
 (.seq
 (.reg [Za 107 13,Zc 6 107]) .ret) .skip)))))
 (.reg [Zm 108 .add 3 97 1,Za 97 108]))))
def c46_1:ACode:=(.seq
 (.reg [Zf 6 0]) .ret)
def c46:ACode:=(.seq
 (.reg [Zj 3 85 0,Zj 4 35 1,Zf 6 0])
 (.seq
 (.dreg
 (.tk 0 (Zd 14 35 4 2)
 (.tk 1 (Zb 15 33 14)
 (.tk 2 (Ze 16 15 33)
 (.tk 3 (Zd 17 35 4 1)
 (.tk 4 (Zb 18 9 17)
 (.tk 5 (Zq 19 (.binOp .neq 9 (Zr 18) (.const (.string { data:=#[] })) 9))
 (.tk 6 (Zc 7 16) .fin))))))) [Zc 8 19])
 (.seq
 (.seq
 (.reg [Zd 20 35 4 0,Zb 21 3 20])
 (.block 0
 (.seq
 (.seq
 (.reg [Zm 23 .eql 3 21 1,Zc 22 23])
 (.cond (Zr 22) .skip
 (.reg [Zm 24 .eql 3 21 2,Zc 22 24])))
 (.cond (Zr 22)
 (.seq
 (.reg [Za 25 7,Zm 26 .gtr 3 25 0,Za 27 26,Zp 28 (.move (Zr 8)) 27 false,Zp 29 (.unOp .not 4 (Zr 28)) 27 false,Zq 30 (.pick (Zr 27) (.const (.bool true)) (Zr 29))])
 (.cond (Zr 30)
 (.seq
 (.reg [Zf 6 2]) .ret) .skip))
 (.seq
 (.reg [Zm 32 .eql 3 21 5,Zc 31 32])
 (.cond (Zr 31)
 (.seq
 (.reg [Za 33 7,Zm 34 .neq 3 33 1,Za 35 34,Zp 36 (.move (Zr 8)) 35 false,Zp 37 (.unOp .not 4 (Zr 36)) 35 false,Zq 38 (.pick (Zr 35) (.const (.bool true)) (Zr 37))])
 (.cond (Zr 38)
 (.seq
 (.reg [Zf 6 2]) .ret) .skip))
 (.seq
 (.reg [Zm 40 .eql 3 21 4,Zc 39 40])
 (.cond (Zr 39)
 (.seq
 (.reg [Za 41 7,Zm 42 .lss 3 41 2,Za 43 42,Zp 44 (.move (Zr 8)) 43 false,Zq 45 (.pick (Zr 43) (.const (.bool true)) (Zr 44))])
 (.cond (Zr 45)
 (.seq
 (.reg [Zf 6 2]) .ret) .skip))
 (.seq
 (.reg [Zm 47 .eql 3 21 3,Zc 46 47])
 (.cond (Zr 46)
 (.seq
 (.reg [Za 48 8,Zq 49 (.unOp .not 4 (Zr 48))])
 (.cond (Zr 49)
 (.seq
 (.reg [Zf 6 2]) .ret) .skip))
 (.seq
 (.reg [Zf 6 2]) .ret)))))))))))
 (.seq
 (.seq
 (.reg [Zd 50 35 4 0,Zb 51 3 50])
 (.block 1
 (.seq
 (.reg [Zm 53 .eql 3 51 2,Zc 52 53])
 (.cond (Zr 52)
 (.seq
 (.reg [Zd 54 85 3 0,Zb 55 82 54,Zd 56 35 4 1,Zb 57 9 56,Zq 58 (.lookup 82 (Zr 55) (Zr 57) false),Zq 59 (.binOp .eql 137 (Zr 58) (.const (.pointer none)) 137)])
 (.cond (Zr 59)
 (.seq
 (.reg [Zf 6 9]) .ret) .skip))
 (.seq
 (.reg [Zm 61 .eql 3 51 3,Zc 60 61])
 (.cond (Zr 60)
 (.seq
 (.reg [Zd 63 85 3 1,Zb 64 83 63,Zd 65 35 4 1,Zb 66 9 65,Zq 67 (.lookup 83 (Zr 64) (Zr 66) true),Za 62 67,Zh 68 62 0,Zh 69 62 1,Zc 9 68,Zc 10 69])
 (.seq
 (.seq
 (.reg [Za 70 10,Zq 71 (.unOp .not 4 (Zr 70))])
 (.cond (Zr 71)
 (.seq
 (.reg [Zf 6 9]) .ret) .skip))
 (.seq
 (.reg [Za 72 7,Za 73 9,Zn 74 .neq 3 72 73])
 (.cond (Zr 74)
 (.seq
 (.reg [Zf 6 5]) .ret) .skip))))
 (.seq
 (.reg [Zm 76 .eql 3 51 1,Zc 75 76])
 (.cond (Zr 75)
 (.seq
 (.reg [Za 77 2,Zd 78 35 4 1,Zb 79 9 78,Zo 80 81 #[Zr 77,Zr 79] #[181,9],Zq 81 (.unOp .not 4 (Zr 80))])
 (.cond (Zr 81)
 (.seq
 (.reg [Zf 6 422]) .ret) .skip))
 (.seq
 (.reg [Zm 83 .eql 3 51 5,Zc 82 83])
 (.cond (Zr 82)
 (.dreg
 (.tk 0 (Za 84 2)
 (.tk 1 (Za 85 2)
 (.tk 2 (Ze 86 85 181)
 (.tk 3 (Za 87 2)
 (.tk 4 (Ze 88 87 181)
 (.tk 5 (Zq 89 (.slice 181 (Zr 84) none (some (Zr 86)) (some (Zr 88))))
 (.tk 6 (Zd 90 35 4 1)
 (.tk 7 (Zb 91 9 90)
 (.tk 8 (Zq 92 (.buildSlice 181 1 #[(0,(Zr 91))])) .fin))))))))) [Zl 93 89 92 181,Zc 2 93]) .skip))))))))))
 (.seqL
 (.seq
 (.reg [Zd 94 35 4 2,Zb 95 33 94,Ze 96 95 33,Zq 97 (.move (.const (.int .i64 0)))])
 (.block 2 (.loop b46_1))) c46_1)))))
theorem fd46:FnD Tryz.prog 46 109 [(.tmp 6)] c46:=⟨⟨Tryz.f46,Tryz.f46.body.getD .skip,Tryz.func46,by kernel_rfl,by kernel_rfl,by kernel_rfl,by kernel_rfl⟩⟩
def b47_1:ACode:=(.seq
 (.reg [Zn 11 .lss 3 10 9])
 (.seq
 (.cond (Zr 11) .skip (.exit 0))
 (.seq
 (.block 1
 (.seq
 (.reg [Zk 12 33 8 10,Zb 13 35 12,Zi 6 35,Zg 35 6 13])
 (.reg [Za 14 4,Zb 15 91 1,Zb 16 35 6,Zb 17 131 2,Zo 18 26 #[Zr 15,Zr 16,Zr 17] #[91,35,131],Zq 19 (.buildSlice 132 1 #[(0,(Zr 18))]),Zl 20 14 19 132,Zc 4 20])))
 (.reg [Zm 21 .add 3 10 1,Za 10 21]))))
def c47_1:ACode:=(.seq
 (.reg [Za 22 4,Zc 3 22]) .ret)
def c47:ACode:=(.seq
 (.reg [Zq 3 (.assign (.const (.slice none 0 0)))])
 (.seq
 (.reg [Zq 4 (.assign (.const (.slice none 0 0)))])
 (.seqL
 (.seq
 (.reg [Zd 7 35 0 2,Zb 8 33 7,Ze 9 8 33,Zq 10 (.move (.const (.int .i64 0)))])
 (.block 0 (.loop b47_1))) c47_1)))
theorem fd47:FnD Tryz.prog 47 23 [(.tmp 3)] c47:=⟨⟨Tryz.f47,Tryz.f47.body.getD .skip,Tryz.func47,by kernel_rfl,by kernel_rfl,by kernel_rfl,by kernel_rfl⟩⟩
def b48_1:ACode:=(.seq
 (.seq
 (.reg [Za 5 0,Zq 6 (.binOp .neq 131 (Zr 5) (.const (.pointer none)) 131)])
 (.cond (Zr 6) .skip (.exit 0)))
 (.seq
 (.block 1
 (.seq
 (.reg [Za 11 0,Zq 12 (.nilCheck (Zr 11)),Zd 13 185 12 0,Zb 14 9 13,Za 15 1,Zn 16 .eql 9 14 15])
 (.cond (Zr 16)
 (.seq
 (.reg [Za 17 0,Zq 18 (.nilCheck (Zr 17)),Zd 19 185 18 1,Zb 20 95 19,Zc 4 20]) .ret) .skip)))
 (.reg [Za 7 0,Zq 8 (.nilCheck (Zr 7)),Zd 9 185 8 2,Zb 10 131 9,Zc 0 10])))
def c48_1:ACode:=(.seq
 (.reg [Zq 4 (.assign (.const .nilIface))]) .ret)
def c48:ACode:=(.seq
 (.reg [Zq 4 (.assign (.const .nilIface))])
 (.seqL
 (.block 0 (.loop b48_1)) c48_1))
theorem fd48:FnD Tryz.prog 48 21 [(.tmp 4)] c48:=⟨⟨Tryz.f48,Tryz.f48.body.getD .skip,Tryz.func48,by kernel_rfl,by kernel_rfl,by kernel_rfl,by kernel_rfl⟩⟩
def b49_1:ACode:=(.seq
 (.reg [Zn 30 .lss 3 29 28])
 (.seq
 (.cond (Zr 30) .skip (.exit 2))
 (.seq
 (.block 3
 (.seq
 (.reg [Za 31 29,Zk 32 72 27 29,Zb 33 74 32,Zi 11 74,Zc 10 31,Zg 74 11 33])
 (.seq
 (.dreg
 (.tk 0 (Zb 35 74 11)
 (.tk 1 (Za 36 2)
 (.tk 2 (Za 37 10)
 (.tk 3 (Zk 38 132 36 37)
 (.tk 4 (Zb 39 95 38)
 (.tk 5 (Za 40 9)
 (.one [6,7,8,9,10,11] (Zo 41 83 #[Zr 35,Zr 39,Zr 40] #[74,95,131])
 (.tk 7 (Za 34 41)
 (.tk 8 (Zh 42 34 0)
 (.tk 9 (Zh 43 34 1)
 (.tk 10 (Zc 12 42) .fin))))))))))) [Zc 13 43])
 (.seq
 (.seq
 (.reg [Za 44 13,Zq 45 (.unOp .not 4 (Zr 44))])
 (.cond (Zr 45) (.exit 1) .skip))
 (.reg [Za 46 12,Zc 9 46])))))
 (.reg [Zm 47 .add 3 29 1,Za 29 47]))))
def c49_1:ACode:=(.seq
 (.reg [Za 48 0,Zd 49 78 8 1,Zb 50 35 49,Za 51 9,Zo 52 84 #[Zr 48,Zr 50,Zr 51] #[91,35,131],Zc 6 52]) .ret)
def c49_2:ACode:=(.reg [Zm 53 .add 3 22 1,Za 22 53])
def b49_2:ACode:=(.seq
 (.reg [Zn 23 .lss 3 22 21])
 (.seq
 (.cond (Zr 23) .skip (.exit 0))
 (.seqL
 (.block 1
 (.seq
 (.reg [Zk 24 79 20 22,Zb 25 78 24,Zi 8 78,Zg 78 8 25])
 (.seq
 (.reg [Zq 9 (.assign (.const (.pointer none)))])
 (.seqL
 (.seq
 (.reg [Zd 26 78 8 0,Zb 27 72 26,Ze 28 27 72,Zq 29 (.move (.const (.int .i64 0)))])
 (.block 2 (.loop b49_1))) c49_1)))) c49_2)))
def c49_3:ACode:=(.reg [Zq 54 (.build 89 #[(0,(.const (.int .i64 420)))]),Zq 55 (.makeInterface 89 (Zr 54)),⟨none,(.panic (Zr 55)),none⟩])
def c49:ACode:=(.seq
 (.reg [Zq 6 (.assign (.const .nilIface))]) (.scope
 (.seq
 (.reg [Za 14 0,Za 15 2,Zo 16 82 #[Zr 14,Zr 15] #[91,132]])
 (.seq .skip
 (.seqL
 (.seq
 (.reg [Za 17 1,Zq 18 (.nilCheck (Zr 17)),Zd 19 81 18 2,Zb 20 79 19,Ze 21 20 79,Zq 22 (.move (.const (.int .i64 0)))])
 (.block 0 (.loop b49_2))) c49_3)))))
theorem fd49:FnD Tryz.prog 49 56 [(.tmp 6)] c49:=⟨⟨Tryz.f49,Tryz.f49.body.getD .skip,Tryz.func49,by kernel_rfl,by kernel_rfl,by kernel_rfl,by kernel_rfl⟩⟩
def b50_1:ACode:=(.seq
 (.seq
 (.reg [Za 12 2,Ze 13 12 132,Zm 14 .gtr 3 13 0])
 (.cond (Zr 14) .skip (.exit 0)))
 (.block 1
 (.seq
 (.reg [Za 15 1])
 (.block 2
 (.seq
 (.reg [Zq 18 (.typeAssert (Zr 15) 95 136 true),Zh 19 18 1,Zh 20 18 0])
 (.cond (Zr 19)
 (.seq
 (.reg [Zi 7 136,Zg 136 7 20])
 (.seq
 (.reg [Za 21 0,Za 22 2,Zq 23 (.indexAddr 132 (Zr 22) (.const (.int .i64 0))),Zb 24 95 23,Zq 25 (.buildSlice 132 1 #[(0,(Zr 24))]),Zo 26 82 #[Zr 21,Zr 25] #[91,132]])
 (.seq
 (.dreg
 (.tk 0 (Za 27 0)
 (.tk 1 (Zd 28 136 7 0)
 (.tk 2 (Zd 29 35 28 2)
 (.tk 3 (Zb 30 33 29)
 (.tk 4 (Zq 31 (.indexAddr 33 (Zr 30) (.const (.int .i64 0))))
 (.tk 5 (Zb 32 35 31)
 (.tk 6 (Zd 33 136 7 0)
 (.tk 7 (Zd 34 35 33 1)
 (.tk 8 (Zb 35 9 34)
 (.tk 9 (Za 36 2)
 (.tk 10 (Zq 37 (.indexAddr 132 (Zr 36) (.const (.int .i64 0))))
 (.tk 11 (Zb 38 95 37)
 (.tk 12 (Zd 39 136 7 1)
 (.tk 13 (Zb 40 131 39)
 (.tk 14 (Zq 41 (.build 185 #[(0,(Zr 35)),(1,(Zr 38)),(2,(Zr 40))]))
 (.one [0,1,2,3,4,5,15,16,17] (Zj 42 185 41) .fin)))))))))))))))) [Zo 43 84 #[Zr 27,Zr 32,Zr 42] #[91,35,131],Zc 1 43])
 (.reg [Za 44 2,Zq 45 (.slice 132 (Zr 44) (some (.const (.int .i64 1))) none none),Zc 2 45]))))
 (.seq
 (.reg [Zq 46 (.typeAssert (Zr 15) 95 139 true),Zh 47 46 1,Zh 48 46 0])
 (.cond (Zr 47)
 (.seq
 (.reg [Zi 8 139,Zg 139 8 48])
 (.seq
 (.dreg
 (.tk 0 (Zd 49 139 8 0)
 (.tk 1 (Zb 50 137 49)
 (.tk 2 (Zq 51 (.nilCheck (Zr 50)))
 (.tk 3 (Zd 52 81 51 1)
 (.tk 4 (Zb 53 3 52)
 (.tk 5 (Zd 54 139 8 1)
 (.tk 6 (Zb 55 132 54)
 (.tk 7 (Ze 56 55 132) .fin)))))))) [Zn 57 .sub 3 53 56,Zc 9 57])
 (.seq
 (.dreg
 (.tk 0 (Zd 58 139 8 1)
 (.tk 1 (Zb 59 132 58)
 (.tk 3 (Za 61 2)
 (.tk 4 (Za 62 9)
 (.tk 5 (Za 63 2)
 (.tk 6 (Ze 64 63 132)
 (.tk 7 (Zq 65 (.call { callee:=(.builtin .min),args:=#[Zr 62,Zr 64],argTypes:=#[3,3] }))
 (.tk 8 (Zq 66 (.slice 132 (Zr 61) none (some (Zr 65)) none))
 (.one [2,3,4,5,6,7,8,9,10] (Zo 60 85 #[Zr 59] #[132]) .fin))))))))) [Zl 67 60 66 132,Zc 10 67])
 (.seq
 (.seq
 (.reg [Za 68 2,Ze 69 68 132,Za 70 9,Zn 71 .lss 3 69 70])
 (.cond (Zr 71)
 (.seq
 (.reg [Zd 72 139 8 0,Zb 73 137 72,Za 74 10,Zq 75 (.build 139 #[(0,(Zr 73)),(1,(Zr 74))]),Zq 76 (.makeInterface 139 (Zr 75)),Zc 6 76]) .ret) .skip))
 (.seq
 (.reg [Za 77 0,Zd 78 139 8 0,Zb 79 137 78,Za 80 10,Zo 81 49 #[Zr 77,Zr 79,Zr 80] #[91,137,132],Zc 1 81])
 (.reg [Za 82 2,Za 83 9,Zq 84 (.slice 132 (Zr 82) (some (Zr 83)) none none),Zc 2 84]))))))
 (.seq
 (.reg [Zc 11 15])
 (.reg [Zq 16 (.build 89 #[(0,(.const (.int .i64 421)))]),Zq 17 (.makeInterface 89 (Zr 16)),⟨none,(.panic (Zr 17)),none⟩]))))))))))
def c50_1:ACode:=(.seq
 (.reg [Za 85 1,Zc 6 85]) .ret)
def c50:ACode:=(.seq
 (.reg [Zq 6 (.assign (.const .nilIface))])
 (.seqL
 (.block 0 (.loop b50_1)) c50_1))
theorem fd50:FnD Tryz.prog 50 86 [(.tmp 6)] c50:=⟨⟨Tryz.f50,Tryz.f50.body.getD .skip,Tryz.func50,by kernel_rfl,by kernel_rfl,by kernel_rfl,by kernel_rfl⟩⟩
def b51_1:ACode:=(.seq
 (.reg [Zn 9 .lss 3 8 7])
 (.seq
 (.cond (Zr 9) .skip (.exit 0))
 (.seq
 (.block 1
 (.seq
 (.reg [Zk 10 132 6 8,Zb 11 95 10,Zc 5 11])
 (.reg [Za 12 0,Za 13 5,Zo 14 27 #[Zr 12,Zr 13] #[97,95]])))
 (.reg [Zm 15 .add 3 8 1,Za 8 15]))))
def c51:ACode:=(.seq
 (.reg [Za 6 1,Ze 7 6 132,Zq 8 (.move (.const (.int .i64 0)))])
 (.block 0 (.loop b51_1)))
theorem fd51:FnD Tryz.prog 51 16 [] c51:=⟨⟨Tryz.f51,Tryz.f51.body.getD .skip,Tryz.func51,by kernel_rfl,by kernel_rfl,by kernel_rfl,by kernel_rfl⟩⟩
def b52_1:ACode:=(.seq
 (.reg [Zn 45 .lss 3 44 43])
 (.seq
 (.cond (Zr 45) .skip (.exit 0))
 (.seq
 (.block 1
 (.seq
 (.reg [Zk 46 33 42 44,Zb 47 35 46,Zi 8 35,Zg 35 8 47])
 (.reg [Za 48 0,Zb 49 35 8,Za 50 2,Zo 51 52 #[Zr 48,Zr 49,Zr 50] #[97,35,131]])))
 (.reg [Zm 52 .add 3 44 1,Za 44 52]))))
def c52:ACode:=(.seq
 (.reg [Zj 4 35 1])
 (.seq
 (.seq
 (.reg [Za 9 0,Zq 10 (.nilCheck (Zr 9)),Zd 11 99 10 0,Zb 12 3 11,Zm 13 .lss 3 12 0])
 (.cond (Zr 13) .ret .skip))
 (.seq
 (.seq
 (.reg [Zd 14 35 4 0,Zb 15 3 14,Zm 16 .eql 3 15 1])
 (.cond (Zr 16)
 (.seq
 (.reg [Za 17 2,Zd 18 35 4 1,Zb 19 9 18,Zo 20 48 #[Zr 17,Zr 19] #[131,9],Zc 6 20])
 (.seq
 (.reg [Za 21 6,Zq 22 (.binOp .neq 95 (Zr 21) (.const .nilIface) 95)])
 (.cond (Zr 22)
 (.seq
 (.reg [Za 23 0,Za 24 6,Zo 25 27 #[Zr 23,Zr 24] #[97,95]]) .ret) .skip))) .skip))
 (.seq
 (.reg [Za 26 0,Zq 27 (.nilCheck (Zr 26)),Zd 28 99 27 0,Zb 29 3 28,Zm 30 .sub 3 29 1,Zq 31 (.nilCheck (Zr 26)),Zd 32 99 31 0,Zg 3 32 30])
 (.seq
 (.seq
 (.reg [Zd 33 35 4 0,Zb 34 3 33,Zm 35 .eql 3 34 5])
 (.cond (Zr 35)
 (.reg [Zd 36 35 4 1,Zb 37 9 36,Za 38 2,Zq 39 (.build 185 #[(0,(Zr 37)),(1,(.const .nilIface)),(2,(Zr 38))]),Zj 40 185 39,Zc 2 40]) .skip))
 (.seq
 (.reg [Zd 41 35 4 2,Zb 42 33 41,Ze 43 42 33,Zq 44 (.move (.const (.int .i64 0)))])
 (.block 0 (.loop b52_1))))))))
theorem fd52:FnD Tryz.prog 52 53 [] c52:=⟨⟨Tryz.f52,Tryz.f52.body.getD .skip,Tryz.func52,by kernel_rfl,by kernel_rfl,by kernel_rfl,by kernel_rfl⟩⟩
def b53_1:ACode:=(.seq
 (.reg [Zn 15 .lss 3 14 13])
 (.seq
 (.cond (Zr 15) .skip (.exit 0))
 (.seq
 (.block 1
 (.seq
 (.reg [Zk 16 122 12 14,Zb 17 126 16,Zi 5 126,Zg 126 5 17])
 (.dreg
 (.tk 0 (Zd 18 74 3 2)
 (.tk 1 (Zb 19 72 18)
 (.tk 2 (Zb 20 126 5)
 (.one [0,1,3,4,5,6,7] (Zo 21 53 #[Zr 20] #[126])
 (.tk 4 (Zq 22 (.buildSlice 72 1 #[(0,(Zr 21))])) .fin))))) [Zl 23 19 22 72,Zd 24 74 3 2,Zg 72 24 23])))
 (.reg [Zm 25 .add 3 14 1,Za 14 25]))))
def c53_1:ACode:=(.seq
 (.reg [Zb 26 74 3,Zg 74 2 26]) .ret)
def c53:ACode:=(.seq
 (.reg [Zj 1 126 0,Zi 2 74])
 (.seq
 (.reg [Zd 6 126 1 0,Zb 7 4 6,Zd 8 126 1 1,Zb 9 9 8,Zq 10 (.build 74 #[(0,(Zr 7)),(1,(Zr 9))]),Zi 3 74,Zg 74 3 10])
 (.seqL
 (.seq
 (.reg [Zd 11 126 1 2,Zb 12 122 11,Ze 13 12 122,Zq 14 (.move (.const (.int .i64 0)))])
 (.block 0 (.loop b53_1))) c53_1)))
theorem fd53:FnD Tryz.prog 53 27 [(.cell 2 74)] c53:=⟨⟨Tryz.f53,Tryz.f53.body.getD .skip,Tryz.func53,by kernel_rfl,by kernel_rfl,by kernel_rfl,by kernel_rfl⟩⟩
def b54_1:ACode:=(.seq
 (.seq
 (.reg [Za 19 4,Zd 20 25 1 1,Zb 21 23 20,Ze 22 21 23,Zn 23 .lss 3 19 22])
 (.cond (Zr 23) .skip (.exit 0)))
 (.seq
 (.block 1
 (.seq
 (.reg [Zd 26 25 1 1,Zb 27 23 26,Za 28 4,Zk 29 23 27 28,Zb 30 67 29,Zi 5 67,Zg 67 5 30])
 (.block 2
 (.seq
 (.reg [Zd 32 67 5 0,Zb 33 9 32,Zo 34 87 #[Zr 33] #[9],Zq 35 (.unOp .not 4 (Zr 34)),Zc 31 35])
 (.cond (Zr 31)
 (.seq
 (.reg [Zf 2 411]) .ret)
 (.seq
 (.dreg
 (.tk 0 (Zd 37 25 1 0)
 (.tk 1 (Zb 38 22 37)
 (.tk 2 (Zd 39 67 5 0)
 (.tk 3 (Zb 40 9 39)
 (.one [4,5,6,7,8,9,10,11,12,13,14,15,16] (Zo 41 88 #[Zr 38,Zr 40] #[22,9])
 (.tk 5 (Zm 42 .geq 3 41 0)
 (.tk 6 (Za 43 42)
 (.tk 7 (Zp 44 (.fieldAddr 25 (Zr 1) 1) 43 false)
 (.tk 8 (Zp 45 (.load 23 (Zr 44)) 43 false)
 (.tk 9 (Zp 46 (.move (Zr 4)) 43 false)
 (.tk 10 (Zp 47 (.slice 23 (Zr 45) none (some (Zr 46)) none) 43 false)
 (.tk 11 (Zp 48 (.fieldAddr 67 (Zr 5) 0) 43 false)
 (.tk 12 (Zp 49 (.load 9 (Zr 48)) 43 false) .fin))))))))))))) [Zp 50 (.call { callee:=(.value (.func 89)),args:=#[Zr 47,Zr 49],argTypes:=#[23,9] }) 43 false,Zp 51 (.binOp .geq 3 (Zr 50) (.const (.int .i64 0)) 3) 43 false,Zq 52 (.pick (Zr 43) (.const (.bool true)) (Zr 51)),Zc 36 52])
 (.cond (Zr 36)
 (.seq
 (.reg [Zf 2 10]) .ret)
 (.seq
 (.reg [Zd 54 67 5 1,Zb 55 3 54,Zm 56 .lss 3 55 0,Za 57 56,Zp 58 (.fieldAddr 67 (Zr 5) 1) 57 false,Zp 59 (.load 3 (Zr 58)) 57 false,Zp 60 (.binOp .gtr 3 (Zr 59) (.const (.int .i64 10)) 3) 57 false,Zq 61 (.pick (Zr 57) (.const (.bool true)) (Zr 60)),Zc 53 61])
 (.cond (Zr 53)
 (.seq
 (.reg [Zf 2 4]) .ret)
 (.seq
 (.reg [Zd 63 67 5 2,Zb 64 65 63,Ze 65 64 65,Zm 66 .lss 3 65 1,Za 67 66,Zp 68 (.fieldAddr 67 (Zr 5) 2) 67 false,Zp 69 (.load 65 (Zr 68)) 67 false,Zp 70 (.call { callee:=(.builtin .len),args:=#[Zr 69],argTypes:=#[65] }) 67 false,Zp 71 (.binOp .gtr 3 (Zr 70) (.const (.int .i64 100)) 3) 67 false,Zq 72 (.pick (Zr 67) (.const (.bool true)) (Zr 71)),Zc 62 72])
 (.cond (Zr 62)
 (.seq
 (.reg [Zf 2 5]) .ret) .skip)))))))))))
 (.reg [Za 24 4,Zm 25 .add 3 24 1,Zc 4 25])))
def b54_2:ACode:=(.seq
 (.seq
 (.reg [Za 80 7,Zd 81 25 1 1,Zb 82 23 81,Za 83 6,Zk 84 23 82 83,Zd 85 67 84 2,Zb 86 65 85,Ze 87 86 65,Zn 88 .lss 3 80 87])
 (.cond (Zr 88) .skip (.exit 5)))
 (.seq
 (.block 6
 (.seq
 (.dreg
 (.tk 0 (Zb 91 25 1)
 (.tk 1 (Zd 92 25 1 1)
 (.tk 2 (Zb 93 23 92)
 (.tk 3 (Za 94 6)
 (.tk 4 (Zk 95 23 93 94)
 (.tk 5 (Zb 96 67 95)
 (.tk 6 (Zd 97 25 1 1)
 (.tk 7 (Zb 98 23 97)
 (.tk 8 (Za 99 6)
 (.tk 9 (Zk 100 23 98 99)
 (.tk 10 (Zd 101 67 100 2)
 (.tk 11 (Zb 102 65 101)
 (.tk 12 (Za 103 7)
 (.tk 13 (Zk 104 65 102 103)
 (.tk 14 (Zb 105 124 104) .fin))))))))))))))) [Zo 106 90 #[Zr 91,Zr 96,Zr 105] #[25,67,124],Zc 8 106])
 (.seq
 (.reg [Za 107 8,Zm 108 .neq 38 107 0])
 (.cond (Zr 108)
 (.seq
 (.reg [Za 109 8,Zc 2 109]) .ret) .skip))))
 (.reg [Za 89 7,Zm 90 .add 3 89 1,Zc 7 90])))
def c54_1:ACode:=(.reg [Za 78 6,Zm 79 .add 3 78 1,Zc 6 79])
def b54_3:ACode:=(.seq
 (.seq
 (.reg [Za 73 6,Zd 74 25 1 1,Zb 75 23 74,Ze 76 75 23,Zn 77 .lss 3 73 76])
 (.cond (Zr 77) .skip (.exit 3)))
 (.seqL
 (.block 4
 (.seq
 (.reg [Zf 7 0])
 (.block 5 (.loop b54_2)))) c54_1))
def c54_2:ACode:=(.seq
 (.reg [Zf 2 0]) .ret)
def c54_3:ACode:=(.seqL
 (.seq
 (.reg [Zf 6 0])
 (.block 3 (.loop b54_3))) c54_2)
def c54:ACode:=(.seq
 (.reg [Zj 1 25 0,Zf 2 0])
 (.seq
 (.seq
 (.reg [Zd 9 25 1 1,Zb 10 23 9,Ze 11 10 23,Zm 12 .gtr 3 11 100])
 (.cond (Zr 12)
 (.seq
 (.reg [Zf 2 5]) .ret) .skip))
 (.seq
 (.seq
 (.reg [Zd 13 25 1 0,Zb 14 22 13,Zo 15 86 #[Zr 14] #[22],Zc 3 15])
 (.seq
 (.reg [Za 16 3,Zm 17 .neq 38 16 0])
 (.cond (Zr 17)
 (.seq
 (.reg [Za 18 3,Zc 2 18]) .ret) .skip)))
 (.seqL
 (.seq
 (.reg [Zf 4 0])
 (.block 0 (.loop b54_1))) c54_3))))
theorem fd54:FnD Tryz.prog 54 110 [(.tmp 2)] c54:=⟨⟨Tryz.f54,Tryz.f54.body.getD .skip,Tryz.func54,by kernel_rfl,by kernel_rfl,by kernel_rfl,by kernel_rfl⟩⟩
def b55_1:ACode:=(.seq
 (.seq
 (.reg [Za 119 7,Zd 120 28 4 2,Zb 121 26 120,Ze 122 121 26,Zn 123 .lss 3 119 122])
 (.cond (Zr 123) .skip (.exit 1)))
 (.seq
 (.block 2
 (.seq
 (.dreg
 (.tk 0 (Zb 126 25 3)
 (.tk 1 (Zd 127 28 4 2)
 (.tk 2 (Zb 128 26 127)
 (.tk 3 (Za 129 7)
 (.tk 4 (Zk 130 26 128 129)
 (.tk 5 (Zb 131 28 130)
 (.tk 6 (Za 132 2) .fin))))))) [Zo 133 55 #[Zr 126,Zr 131,Zr 132] #[25,28,181],Zc 8 133])
 (.seq
 (.reg [Za 134 8,Zm 135 .neq 38 134 0])
 (.cond (Zr 135)
 (.seq
 (.reg [Za 136 8,Zc 6 136]) .ret) .skip))))
 (.reg [Za 124 7,Zm 125 .add 3 124 1,Zc 7 125])))
def c55_1:ACode:=(.seq
 (.reg [Zf 6 0]) .ret)
def c55:ACode:=(.seq
 (.reg [Zj 3 25 0,Zj 4 28 1,Zf 6 0])
 (.seq
 (.block 0
 (.seq
 (.reg [Zd 10 28 4 0,Zb 11 3 10,Zm 12 .lss 3 11 1,Za 13 12,Zp 14 (.fieldAddr 28 (Zr 4) 0) 13 false,Zp 15 (.load 3 (Zr 14)) 13 false,Zp 16 (.binOp .gtr 3 (Zr 15) (.const (.int .i64 5)) 3) 13 false,Zq 17 (.pick (Zr 13) (.const (.bool true)) (Zr 16)),Zc 9 17])
 (.cond (Zr 9)
 (.seq
 (.reg [Zf 6 2]) .ret)
 (.seq
 (.seq
 (.reg [Zd 19 28 4 0,Zb 20 3 19,Zm 21 .eql 3 20 1,Za 22 21,Zp 23 (.fieldAddr 28 (Zr 4) 0) 22 false,Zp 24 (.load 3 (Zr 23)) 22 false,Zp 25 (.binOp .eql 3 (Zr 24) (.const (.int .i64 2)) 3) 22 false,Zq 26 (.pick (Zr 22) (.const (.bool true)) (Zr 25)),Za 27 26,Zp 28 (.fieldAddr 28 (Zr 4) 2) 27 true,Zp 29 (.load 26 (Zr 28)) 27 true,Zp 30 (.call { callee:=(.builtin .len),args:=#[Zr 29],argTypes:=#[26] }) 27 true,Zp 31 (.binOp .gtr 3 (Zr 30) (.const (.int .i64 0)) 3) 27 true,Zq 32 (.pick (Zr 27) (Zr 31) (.const (.bool false))),Zc 18 32])
 (.cond (Zr 18) .skip
 (.seq
 (.reg [Zd 33 28 4 0,Zb 34 3 33,Zm 35 .eql 3 34 5,Za 36 35,Zp 37 (.fieldAddr 28 (Zr 4) 2) 36 true,Zp 38 (.load 26 (Zr 37)) 36 true,Zp 39 (.call { callee:=(.builtin .len),args:=#[Zr 38],argTypes:=#[26] }) 36 true,Zp 40 (.binOp .neq 3 (Zr 39) (.const (.int .i64 1)) 3) 36 true,Zq 41 (.pick (Zr 36) (Zr 40) (.const (.bool false))),Zc 18 41])
 (.cond (Zr 18) .skip
 (.seq
 (.reg [Zd 42 28 4 0,Zb 43 3 42,Zm 44 .eql 3 43 4,Za 45 44,Zp 46 (.fieldAddr 28 (Zr 4) 2) 45 true,Zp 47 (.load 26 (Zr 46)) 45 true,Zp 48 (.call { callee:=(.builtin .len),args:=#[Zr 47],argTypes:=#[26] }) 45 true,Zp 49 (.binOp .lss 3 (Zr 48) (.const (.int .i64 2)) 3) 45 true,Zq 50 (.pick (Zr 45) (Zr 49) (.const (.bool false))),Zc 18 50])
 (.cond (Zr 18) .skip
 (.reg [Zd 51 28 4 0,Zb 52 3 51,Zm 53 .eql 3 52 4,Zd 54 28 4 1,Zb 55 9 54,Zq 56 (.binOp .eql 9 (Zr 55) (.const (.string { data:=#[] })) 9),Zn 57 .neq 4 53 56,Zc 18 57])))))))
 (.cond (Zr 18)
 (.seq
 (.reg [Zf 6 2]) .ret)
 (.seq
 (.seq
 (.reg [Zd 59 28 4 0,Zb 60 3 59,Zm 61 .eql 3 60 2,Za 62 61,Zp 63 (.load 25 (Zr 3)) 62 true,Zp 64 (.fieldAddr 28 (Zr 4) 1) 62 true,Zp 65 (.load 9 (Zr 64)) 62 true,Zp 66 (.call { callee:=(.value (.func 56)),args:=#[Zr 63,Zr 65],argTypes:=#[25,9] }) 62 true,Zp 67 (.binOp .lss 3 (Zr 66) (.const (.int .i64 0)) 3) 62 true,Zq 68 (.pick (Zr 62) (Zr 67) (.const (.bool false))),Zc 58 68])
 (.cond (Zr 58) .skip
 (.reg [Zd 69 28 4 0,Zb 70 3 69,Zm 71 .eql 3 70 3,Za 72 71,Zp 73 (.load 25 (Zr 3)) 72 true,Zp 74 (.fieldAddr 28 (Zr 4) 1) 72 true,Zp 75 (.load 9 (Zr 74)) 72 true,Zp 76 (.call { callee:=(.value (.func 91)),args:=#[Zr 73,Zr 75],argTypes:=#[25,9] }) 72 true,Zp 77 (.binOp .lss 3 (Zr 76) (.const (.int .i64 0)) 3) 72 true,Zq 78 (.pick (Zr 72) (Zr 77) (.const (.bool false))),Zc 58 78])))
 (.cond (Zr 58)
 (.seq
 (.reg [Zf 6 9]) .ret)
 (.seq
 (.dreg
 (.tk 0 (Zd 80 28 4 0)
 (.tk 1 (Zb 81 3 80)
 (.tk 2 (Zm 82 .eql 3 81 3)
 (.tk 3 (Za 83 82)
 (.tk 4 (Zp 84 (.fieldAddr 28 (Zr 4) 2) 83 true)
 (.tk 5 (Zp 85 (.load 26 (Zr 84)) 83 true)
 (.tk 6 (Zp 86 (.call { callee:=(.builtin .len),args:=#[Zr 85],argTypes:=#[26] }) 83 true)
 (.tk 7 (Zp 87 (.fieldAddr 25 (Zr 3) 0) 83 true)
 (.tk 8 (Zp 88 (.load 22 (Zr 87)) 83 true)
 (.tk 9 (Zp 89 (.load 25 (Zr 3)) 83 true)
 (.tk 10 (Zp 90 (.fieldAddr 28 (Zr 4) 1) 83 true)
 (.tk 11 (Zp 91 (.load 9 (Zr 90)) 83 true)
 (.one [4,5,6,7,8,12,13,14,15,16,17,18] (Zp 92 (.call { callee:=(.value (.func 91)),args:=#[Zr 89,Zr 91],argTypes:=#[25,9] }) 83 true)
 (.tk 13 (Zp 93 (.indexAddr 22 (Zr 88) (Zr 92)) 83 true)
 (.tk 14 (Zp 94 (.fieldAddr 102 (Zr 93) 1) 83 true)
 (.tk 15 (Zp 95 (.load 3 (Zr 94)) 83 true) .fin)))))))))))))))) [Zp 96 (.binOp .neq 3 (Zr 86) (Zr 95) 3) 83 true,Zq 97 (.pick (Zr 83) (Zr 96) (.const (.bool false))),Zc 79 97])
 (.cond (Zr 79)
 (.seq
 (.reg [Zf 6 5]) .ret)
 (.seq
 (.reg [Zd 99 28 4 0,Zb 100 3 99,Zm 101 .eql 3 100 1,Za 102 101,Zp 103 (.move (Zr 2)) 102 true,Zp 104 (.fieldAddr 28 (Zr 4) 1) 102 true,Zp 105 (.load 9 (Zr 104)) 102 true,Zp 106 (.call { callee:=(.value (.func 92)),args:=#[Zr 103,Zr 105],argTypes:=#[181,9] }) 102 true,Zp 107 (.unOp .not 4 (Zr 106)) 102 true,Zq 108 (.pick (Zr 102) (Zr 107) (.const (.bool false))),Zc 98 108])
 (.cond (Zr 98)
 (.seq
 (.reg [Zf 6 422]) .ret) .skip)))))))))))
 (.seq
 (.seq
 (.reg [Zd 109 28 4 0,Zb 110 3 109,Zm 111 .eql 3 110 5])
 (.cond (Zr 111)
 (.dreg
 (.tk 0 (Zq 112 (.buildSlice 181 0 #[]))
 (.tk 1 (Za 113 2)
 (.tk 3 (Zd 115 28 4 1)
 (.tk 4 (Zb 116 9 115)
 (.tk 5 (Zq 117 (.buildSlice 181 1 #[(0,(Zr 116))]))
 (.one [2,3,4,5,6,7] (Zl 114 112 113 181) .fin)))))) [Zl 118 114 117 181,Zc 2 118]) .skip))
 (.seqL
 (.seq
 (.reg [Zf 7 0])
 (.block 1 (.loop b55_1))) c55_1))))
theorem fd55:FnD Tryz.prog 55 137 [(.tmp 6)] c55:=⟨⟨Tryz.f55,Tryz.f55.body.getD .skip,Tryz.func55,by kernel_rfl,by kernel_rfl,by kernel_rfl,by kernel_rfl⟩⟩
def b56_1:ACode:=(.seq
 (.seq
 (.reg [Za 6 5,Zd 7 25 2 1,Zb 8 23 7,Ze 9 8 23,Zn 10 .lss 3 6 9])
 (.cond (Zr 10) .skip (.exit 0)))
 (.seq
 (.block 1
 (.seq
 (.reg [Zd 13 25 2 1,Zb 14 23 13,Za 15 5,Zk 16 23 14 15,Zd 17 67 16 0,Zb 18 9 17,Za 19 1,Zn 20 .eql 9 18 19])
 (.cond (Zr 20)
 (.seq
 (.reg [Za 21 5,Zc 4 21]) .ret) .skip)))
 (.reg [Za 11 5,Zm 12 .add 3 11 1,Zc 5 12])))
def c56_1:ACode:=(.seq
 (.reg [Zq 4 (.assign (.const (.int .i64 (-1))))]) .ret)
def c56:ACode:=(.seq
 (.reg [Zj 2 25 0,Zf 4 0])
 (.seqL
 (.seq
 (.reg [Zf 5 0])
 (.block 0 (.loop b56_1))) c56_1))
theorem fd56:FnD Tryz.prog 56 22 [(.tmp 4)] c56:=⟨⟨Tryz.f56,Tryz.f56.body.getD .skip,Tryz.func56,by kernel_rfl,by kernel_rfl,by kernel_rfl,by kernel_rfl⟩⟩
def c61:ACode:=(.seq
 (.reg [Zq 3 (.assign (.const (.bool false)))])
 (.seq
 (.reg [Za 4 0,Zq 5 (.makeFunc (.func 63) #[] #[Zr 1]),Zo 6 62 #[Zr 4,Zr 5] #[33,114],Zq 7 (.unOp .not 4 (Zr 6)),Zc 3 7]) .ret))
theorem fd61:FnD Tryz.prog 61 8 [(.tmp 3)] c61:=⟨⟨Tryz.f61,Tryz.f61.body.getD .skip,Tryz.func61,by kernel_rfl,by kernel_rfl,by kernel_rfl,by kernel_rfl⟩⟩
def c62:ACode:=(.seq
 (.reg [Zq 4 (.assign (.const (.bool false)))])
 (.seq
 (.reg [Za 5 0,Za 6 1,Zo 7 67 #[Zr 5,Zr 6] #[33,114],Zm 8 .geq 3 7 0,Zc 4 8]) .ret))
theorem fd62:FnD Tryz.prog 62 9 [(.tmp 4)] c62:=⟨⟨Tryz.f62,Tryz.f62.body.getD .skip,Tryz.func62,by kernel_rfl,by kernel_rfl,by kernel_rfl,by kernel_rfl⟩⟩
def c63:ACode:=(.seq
 (.reg [Zj 2 35 0,Zq 3 (.assign (.const (.bool false)))])
 (.seq
 (.reg [Zb 4 85 1,Zb 5 35 2,Zo 6 37 #[Zr 4,Zr 5] #[85,35],Zq 7 (.unOp .not 4 (Zr 6)),Zc 3 7]) .ret))
theorem fd63:FnD Tryz.prog 63 8 [(.tmp 3)] c63:=⟨⟨Tryz.f63,Tryz.f63.body.getD .skip,Tryz.func63,by kernel_rfl,by kernel_rfl,by kernel_rfl,by kernel_rfl⟩⟩
def b64_1:ACode:=(.seq
 (.seq
 (.reg [Zd 3 35 1 0,Zb 4 3 3,Zm 5 .eql 3 4 4,Za 6 5,Zp 7 (.fieldAddr 35 (Zr 1) 2) 6 true,Zp 8 (.load 33 (Zr 7)) 6 true,Zp 9 (.indexAddr 33 (Zr 8) (.const (.int .i64 0))) 6 true,Zp 10 (.fieldAddr 35 (Zr 9) 0) 6 true,Zp 11 (.load 3 (Zr 10)) 6 true,Zp 12 (.binOp .eql 3 (Zr 11) (.const (.int .i64 4)) 3) 6 true,Zq 13 (.pick (Zr 6) (Zr 12) (.const (.bool false)))])
 (.cond (Zr 13) .skip (.exit 0)))
 (.block 1
 (.dreg
 (.tk 0 (Zd 14 35 1 2)
 (.tk 1 (Zb 15 33 14)
 (.tk 2 (Zq 16 (.indexAddr 33 (Zr 15) (.const (.int .i64 0))))
 (.tk 3 (Zd 17 35 16 2)
 (.tk 4 (Zb 18 33 17)
 (.tk 5 (Zd 19 35 1 2)
 (.tk 6 (Zb 20 33 19)
 (.tk 7 (Zq 21 (.slice 33 (Zr 20) (some (.const (.int .i64 1))) none none)) .fin)))))))) [Zq 22 (.buildSlice 231 2 #[(0,(Zr 18)),(1,(Zr 21))]),Zo 23 98 #[Zr 22] #[231],Zq 24 (.build 35 #[(0,(.const (.int .i64 4))),(2,(Zr 23))]),Zg 35 1 24])))
def c64_1:ACode:=(.seq
 (.reg [Zb 25 35 1,Zg 35 2 25]) .ret)
def c64:ACode:=(.seq
 (.reg [Zj 1 35 0,Zi 2 35])
 (.seqL
 (.block 0 (.loop b64_1)) c64_1))
theorem fd64:FnD Tryz.prog 64 26 [(.cell 2 35)] c64:=⟨⟨Tryz.f64,Tryz.f64.body.getD .skip,Tryz.func64,by kernel_rfl,by kernel_rfl,by kernel_rfl,by kernel_rfl⟩⟩
def b65_1:ACode:=(.seq
 (.reg [Zn 40 .lss 3 39 38])
 (.seq
 (.cond (Zr 40) .skip (.exit 3))
 (.seq
 (.block 4
 (.seq
 (.reg [Zk 41 33 37 39,Zb 42 35 41,Zi 9 35,Zg 35 9 42])
 (.dreg
 (.tk 0 (Zd 43 35 7 2)
 (.tk 1 (Zb 44 33 43)
 (.tk 2 (Zb 45 35 9)
 (.tk 3 (Za 46 1)
 (.one [0,1,4,5,6,7,8] (Zo 47 65 #[Zr 45,Zr 46] #[35,166])
 (.tk 5 (Zq 48 (.buildSlice 33 1 #[(0,(Zr 47))])) .fin)))))) [Zl 49 44 48 33,Zd 50 35 7 2,Zg 33 50 49])))
 (.reg [Zm 51 .add 3 39 1,Za 39 51]))))
def c65_1:ACode:=(.seq
 (.reg [Zb 52 35 7,Zg 35 4 52]) .ret)
def c65_2:ACode:=(.seq
 (.reg [Zd 31 35 2 0,Zb 32 3 31,Zd 33 35 2 1,Zb 34 9 33,Zq 35 (.build 35 #[(0,(Zr 32)),(1,(Zr 34))]),Zi 7 35,Zg 35 7 35])
 (.seqL
 (.seq
 (.reg [Zd 36 35 2 2,Zb 37 33 36,Ze 38 37 33,Zq 39 (.move (.const (.int .i64 0)))])
 (.block 3 (.loop b65_1))) c65_1))
def c65:ACode:=(.seq
 (.reg [Zj 2 35 0,Zi 4 35])
 (.seqL
 (.seq
 (.reg [Zd 10 35 2 0,Zb 11 3 10])
 (.block 0
 (.seq
 (.reg [Zm 13 .eql 3 11 1,Zc 12 13])
 (.cond (Zr 12)
 (.seq
 (.reg [Za 14 1,Zo 15 99 #[Zr 14] #[166]])
 (.block 1 (.rfunc (Zr 15) #[16,17]
 (.reg [Zi 6 165,Zg 165 6 17])
 (.block 2
 (.seq
 (.reg [Zd 18 165 6 0,Zb 19 9 18,Zd 20 35 2 1,Zb 21 9 20,Zn 22 .eql 9 19 21])
 (.cond (Zr 22)
 (.seq
 (.reg [Zd 23 165 6 1,Zb 24 35 23,Zg 35 4 24]) .ret) .skip))))))
 (.seq
 (.reg [Zm 26 .eql 3 11 5,Zc 25 26])
 (.cond (Zr 25)
 (.reg [Za 27 1,Zo 28 101 #[Zr 27] #[166],Zq 29 (.makeFunc (.func 102) #[] #[Zr 2]),Zo 30 100 #[Zr 28,Zr 29] #[166,205],Zc 1 30]) .skip)))))) c65_2))
theorem fd65:FnD Tryz.prog 65 53 [(.cell 4 35)] c65:=⟨⟨Tryz.f65,Tryz.f65.body.getD .skip,Tryz.func65,by kernel_rfl,by kernel_rfl,by kernel_rfl,by kernel_rfl⟩⟩
def b66_1:ACode:=(.seq
 (.reg [Zn 24 .lss 3 23 22])
 (.seq
 (.cond (Zr 24) .skip (.exit 0))
 (.seq
 (.block 1
 (.seq
 (.reg [Zk 25 79 21 23,Zb 26 78 25,Zi 8 78,Zg 78 8 26])
 (.seq
 (.seq
 (.reg [Zd 27 78 8 0,Zb 28 72 27,Ze 29 28 72,Zd 30 81 2 1,Zb 31 3 30,Zn 32 .neq 3 29 31])
 (.cond (Zr 32)
 (.seq
 (.reg [Zq 33 (.build 35 #[]),Zf 4 0,Zg 35 5 33,Zf 6 5]) .ret) .skip))
 (.seq
 (.reg [Zd 34 78 8 0,Zb 35 72 34,Zo 36 104 #[Zr 35] #[72],Zo 37 103 #[Zr 36] #[181]])
 (.cond (Zr 37)
 (.seq
 (.reg [Zq 38 (.build 35 #[]),Zf 4 0,Zg 35 5 38,Zf 6 10]) .ret) .skip)))))
 (.reg [Zm 39 .add 3 23 1,Za 23 39]))))
def b66_2:ACode:=(.seq
 (.seq
 (.reg [Za 48 13,Za 49 1,Ze 50 49 33,Zn 51 .lss 3 48 50,Za 52 51,Zp 53 (.move (Zr 12)) 52 true,Zq 54 (.pick (Zr 52) (Zr 53) (.const (.bool false)))])
 (.cond (Zr 54) .skip (.exit 4)))
 (.seq
 (.block 5
 (.dreg
 (.tk 0 (Zd 58 78 10 0)
 (.tk 1 (Zb 59 72 58)
 (.tk 2 (Za 60 13)
 (.tk 3 (Zk 61 72 59 60)
 (.tk 4 (Zb 62 74 61)
 (.tk 5 (Za 63 1)
 (.tk 6 (Za 64 13)
 (.tk 7 (Zk 65 33 63 64)
 (.tk 8 (Zb 66 35 65)
 (.tk 9 (Za 67 11)
 (.one [10,11,12,13,14,15] (Zo 68 105 #[Zr 62,Zr 66,Zr 67] #[74,35,166])
 (.tk 11 (Za 57 68)
 (.tk 12 (Zh 69 57 0)
 (.tk 13 (Zh 70 57 1)
 (.tk 14 (Zc 11 69) .fin))))))))))))))) [Zc 12 70]))
 (.reg [Za 55 13,Zm 56 .add 3 55 1,Zc 13 56])))
def ZnO:ACode:=(.seq
 (.reg [Za 71 12])
 (.cond (Zr 71)
 (.seq
 (.reg [Za 72 9,Zd 73 78 10 1,Zb 74 35 73,Za 75 11,Zo 76 65 #[Zr 74,Zr 75] #[35,166],Zc 4 72,Zg 35 5 76,Zf 6 0]) .ret) .skip))
def c66_2:ACode:=(.reg [Zm 77 .add 3 43 1,Za 43 77])
def b66_3:ACode:=(.seq
 (.reg [Zn 44 .lss 3 43 42])
 (.seq
 (.cond (Zr 44) .skip (.exit 2))
 (.seqL
 (.block 3
 (.seq
 (.reg [Za 45 43,Zk 46 79 41 43,Zb 47 78 46,Zi 10 78,Zc 9 45,Zg 78 10 47])
 (.seq
 (.reg [Zq 11 (.assign (.const (.slice none 0 0)))])
 (.seq
 (.reg [Zq 12 (.assign (.const (.bool true)))])
 (.seqL
 (.seq
 (.reg [Zf 13 0])
 (.block 4 (.loop b66_2))) ZnO))))) c66_2)))
def c66_3:ACode:=(.seq
 (.reg [Zq 78 (.build 35 #[]),Zf 4 0,Zg 35 5 78,Zf 6 420]) .ret)
def c66_4:ACode:=(.seqL
 (.seq
 (.reg [Zd 40 81 2 2,Zb 41 79 40,Ze 42 41 79,Zq 43 (.move (.const (.int .i64 0)))])
 (.block 2 (.loop b66_3))) c66_3)
def c66:ACode:=(.seq
 (.reg [Zj 2 81 0,Zf 4 0,Zi 5 35,Zf 6 0])
 (.seq
 (.seq
 (.reg [Za 14 1,Ze 15 14 33,Zd 16 81 2 1,Zb 17 3 16,Zn 18 .neq 3 15 17])
 (.cond (Zr 18)
 (.seq
 (.reg [Zq 19 (.build 35 #[]),Zf 4 0,Zg 35 5 19,Zf 6 5]) .ret) .skip))
 (.seqL
 (.seq
 (.reg [Zd 20 81 2 2,Zb 21 79 20,Ze 22 21 79,Zq 23 (.move (.const (.int .i64 0)))])
 (.block 0 (.loop b66_1))) c66_4)))
theorem fd66:FnD Tryz.prog 66 79 [(.tmp 4),(.cell 5 35),(.tmp 6)] c66:=⟨⟨Tryz.f66,Tryz.f66.body.getD .skip,Tryz.func66,by kernel_rfl,by kernel_rfl,by kernel_rfl,by kernel_rfl⟩⟩
def b67_1:ACode:=(.seq
 (.reg [Zn 9 .lss 3 8 7])
 (.seq
 (.cond (Zr 9) .skip (.exit 0))
 (.seq
 (.block 1
 (.seq
 (.reg [Za 10 8,Zc 5 10])
 (.seq
 (.reg [Za 11 1,Za 12 0,Za 13 5,Zk 14 33 12 13,Zb 15 35 14,Zq 16 (.call { callee:=(.value (Zr 11)),args:=#[Zr 15],argTypes:=#[35] })])
 (.cond (Zr 16)
 (.seq
 (.reg [Za 17 5,Zc 4 17]) .ret) .skip))))
 (.reg [Zm 18 .add 3 8 1,Za 8 18]))))
def c67_1:ACode:=(.seq
 (.reg [Zq 4 (.assign (.const (.int .i64 (-1))))]) .ret)
def c67:ACode:=(.seq
 (.reg [Zf 4 0])
 (.seqL
 (.seq
 (.reg [Za 6 0,Ze 7 6 33,Zq 8 (.move (.const (.int .i64 0)))])
 (.block 0 (.loop b67_1))) c67_1))
theorem fd67:FnD Tryz.prog 67 19 [(.tmp 4)] c67:=⟨⟨Tryz.f67,Tryz.f67.body.getD .skip,Tryz.func67,by kernel_rfl,by kernel_rfl,by kernel_rfl,by kernel_rfl⟩⟩
def c68:ACode:=(.seq
 (.reg [Zj 2 35 0,Zq 3 (.assign (.const (.bool false)))])
 (.seq
 (.reg [Zb 4 85 1,Zb 5 35 2,Zo 6 37 #[Zr 4,Zr 5] #[85,35],Zq 7 (.unOp .not 4 (Zr 6)),Zc 3 7]) .ret))
theorem fd68:FnD Tryz.prog 68 8 [(.tmp 3)] c68:=⟨⟨Tryz.f68,Tryz.f68.body.getD .skip,Tryz.func68,by kernel_rfl,by kernel_rfl,by kernel_rfl,by kernel_rfl⟩⟩
def c69:ACode:=(.seq
 (.reg [Zq 2 (.assign (.const (.slice none 0 0)))])
 (.seq
 (.seq
 (.reg [Za 3 0,Zq 4 (.binOp .eql 33 (Zr 3) (.const (.slice none 0 0)) 33)])
 (.cond (Zr 4)
 (.seq
 (.reg [Zq 2 (.assign (.const (.slice none 0 0)))]) .ret) .skip))
 (.seq
 (.reg [Zq 5 (.buildSlice 33 0 #[]),Za 6 0,Zl 7 5 6 33,Zc 2 7]) .ret)))
theorem fd69:FnD Tryz.prog 69 8 [(.tmp 2)] c69:=⟨⟨Tryz.f69,Tryz.f69.body.getD .skip,Tryz.func69,by kernel_rfl,by kernel_rfl,by kernel_rfl,by kernel_rfl⟩⟩
def c70:ACode:=(.seq
 (.reg [Zj 2 35 0,Zi 4 35])
 (.seq
 (.seq
 (.reg [Za 5 1,Ze 6 5 33,Zm 7 .eql 3 6 0])
 (.cond (Zr 7)
 (.seq
 (.reg [Zb 8 35 2,Zg 35 4 8]) .ret) .skip))
 (.seq
 (.reg [Zb 9 35 2,Zq 10 (.buildSlice 33 1 #[(0,(Zr 9))]),Za 11 1,Zl 12 10 11 33,Zq 13 (.build 35 #[(0,(.const (.int .i64 4))),(2,(Zr 12))]),Zg 35 4 13]) .ret)))
theorem fd70:FnD Tryz.prog 70 14 [(.cell 4 35)] c70:=⟨⟨Tryz.f70,Tryz.f70.body.getD .skip,Tryz.func70,by kernel_rfl,by kernel_rfl,by kernel_rfl,by kernel_rfl⟩⟩
def b71_1:ACode:=(.seq
 (.seq
 (.reg [Za 6 5,Za 7 1,Ze 8 7 26,Zn 9 .lss 3 6 8])
 (.cond (Zr 9) .skip (.exit 0)))
 (.seq
 (.block 1
 (.seq
 (.dreg
 (.tk 0 (Zb 12 25 2)
 (.tk 1 (Za 13 1)
 (.tk 2 (Za 14 5)
 (.tk 3 (Zk 15 26 13 14)
 (.tk 4 (Zb 16 28 15) .fin))))) [Zo 17 40 #[Zr 12,Zr 16] #[25,28],Zq 18 (.unOp .not 4 (Zr 17))])
 (.cond (Zr 18)
 (.seq
 (.reg [Zq 4 (.assign (.const (.bool false)))]) .ret) .skip)))
 (.reg [Za 10 5,Zm 11 .add 3 10 1,Zc 5 11])))
def c71_1:ACode:=(.seq
 (.reg [Zq 4 (.assign (.const (.bool true)))]) .ret)
def c71:ACode:=(.seq
 (.reg [Zj 2 25 0,Zq 4 (.assign (.const (.bool false)))])
 (.seqL
 (.seq
 (.reg [Zf 5 0])
 (.block 0 (.loop b71_1))) c71_1))
theorem fd71:FnD Tryz.prog 71 19 [(.tmp 4)] c71:=⟨⟨Tryz.f71,Tryz.f71.body.getD .skip,Tryz.func71,by kernel_rfl,by kernel_rfl,by kernel_rfl,by kernel_rfl⟩⟩
def b72_1:ACode:=(.seq
 (.seq
 (.reg [Zd 4 28 1 0,Zb 5 3 4,Zm 6 .eql 3 5 4,Za 7 6,Zp 8 (.fieldAddr 28 (Zr 1) 2) 7 true,Zp 9 (.load 26 (Zr 8)) 7 true,Zp 10 (.indexAddr 26 (Zr 9) (.const (.int .i64 0))) 7 true,Zp 11 (.fieldAddr 28 (Zr 10) 0) 7 true,Zp 12 (.load 3 (Zr 11)) 7 true,Zp 13 (.binOp .eql 3 (Zr 12) (.const (.int .i64 4)) 3) 7 true,Zq 14 (.pick (Zr 7) (Zr 13) (.const (.bool false)))])
 (.cond (Zr 14) .skip (.exit 0)))
 (.block 1
 (.seq
 (.reg [Zq 15 (.buildSlice 26 0 #[]),Zd 16 28 1 2,Zb 17 26 16,Zq 18 (.indexAddr 26 (Zr 17) (.const (.int .i64 0))),Zd 19 28 18 2,Zb 20 26 19,Zl 21 15 20 26,Zc 3 21])
 (.reg [Za 22 3,Zd 23 28 1 2,Zb 24 26 23,Zq 25 (.slice 26 (Zr 24) (some (.const (.int .i64 1))) none none),Zl 26 22 25 26,Zq 27 (.build 28 #[(0,(.const (.int .i64 4))),(2,(Zr 26))]),Zg 28 1 27]))))
def c72_1:ACode:=(.seq
 (.reg [Zb 28 28 1,Zg 28 2 28]) .ret)
def c72:ACode:=(.seq
 (.reg [Zj 1 28 0,Zi 2 28])
 (.seqL
 (.block 0 (.loop b72_1)) c72_1))
theorem fd72:FnD Tryz.prog 72 29 [(.cell 2 28)] c72:=⟨⟨Tryz.f72,Tryz.f72.body.getD .skip,Tryz.func72,by kernel_rfl,by kernel_rfl,by kernel_rfl,by kernel_rfl⟩⟩
def b73_1:ACode:=(.seq
 (.seq
 (.reg [Za 37 9,Zd 38 67 2 2,Zb 39 65 38,Za 40 7,Zk 41 65 39 40,Zd 42 124 41 0,Zb 43 122 42,Ze 44 43 122,Zn 45 .lss 3 37 44])
 (.cond (Zr 45) .skip (.exit 2)))
 (.seq
 (.block 3
 (.reg [Za 48 8,Zd 49 67 2 2,Zb 50 65 49,Za 51 7,Zk 52 65 50 51,Zd 53 124 52 0,Zb 54 122 53,Za 55 9,Zk 56 122 54 55,Zb 57 126 56,Zo 58 106 #[Zr 57] #[126],Zl 59 48 58 181,Zc 8 59]))
 (.reg [Za 46 9,Zm 47 .add 3 46 1,Zc 9 47])))
def c73_1:ACode:=(.seq
 (.reg [Za 60 8,Zo 61 107 #[Zr 60] #[181]])
 (.cond (Zr 61)
 (.seq
 (.reg [Zq 62 (.build 28 #[]),Zf 4 0,Zg 28 5 62,Zf 6 10]) .ret) .skip))
def c73_2:ACode:=(.reg [Za 23 7,Zm 24 .add 3 23 1,Zc 7 24])
def b73_2:ACode:=(.seq
 (.seq
 (.reg [Za 18 7,Zd 19 67 2 2,Zb 20 65 19,Ze 21 20 65,Zn 22 .lss 3 18 21])
 (.cond (Zr 22) .skip (.exit 0)))
 (.seqL
 (.block 1
 (.seq
 (.seq
 (.dreg
 (.tk 0 (Zd 25 67 2 2)
 (.tk 1 (Zb 26 65 25)
 (.tk 2 (Za 27 7)
 (.tk 3 (Zk 28 65 26 27)
 (.tk 4 (Zd 29 124 28 0)
 (.tk 5 (Zb 30 122 29)
 (.tk 6 (Ze 31 30 122)
 (.tk 7 (Zd 32 67 2 1)
 (.tk 8 (Zb 33 3 32) .fin))))))))) [Zn 34 .neq 3 31 33])
 (.cond (Zr 34)
 (.seq
 (.reg [Zq 35 (.build 28 #[]),Zf 4 0,Zg 28 5 35,Zf 6 5]) .ret) .skip))
 (.seq
 (.reg [Zq 36 (.buildSlice 181 0 #[]),Zc 8 36])
 (.seqL
 (.seq
 (.reg [Zf 9 0])
 (.block 2 (.loop b73_1))) c73_1)))) c73_2))
def c73_3:ACode:=(.seq
 (.reg [Zb 64 67 2,Za 65 1,Zo 66 94 #[Zr 64,Zr 65] #[67,26],Za 63 66,Zh 67 63 0,Zh 68 63 1,Zc 10 67,Zc 11 68])
 (.seq
 (.seq
 (.reg [Za 69 10,Zm 70 .lss 3 69 0])
 (.cond (Zr 70)
 (.seq
 (.reg [Zq 71 (.build 28 #[]),Zf 4 0,Zg 28 5 71,Zf 6 420]) .ret) .skip))
 (.seq
 (.reg [Za 72 10,Zd 73 67 2 2,Zb 74 65 73,Za 75 10,Zk 76 65 74 75,Zd 77 124 76 1,Zb 78 28 77,Za 79 11,Zo 80 75 #[Zr 78,Zr 79] #[28,175],Zc 4 72,Zg 28 5 80,Zf 6 0]) .ret)))
def c73:ACode:=(.seq
 (.reg [Zj 2 67 0,Zf 4 0,Zi 5 28,Zf 6 0])
 (.seq
 (.seq
 (.reg [Za 12 1,Ze 13 12 26,Zd 14 67 2 1,Zb 15 3 14,Zn 16 .neq 3 13 15])
 (.cond (Zr 16)
 (.seq
 (.reg [Zq 17 (.build 28 #[]),Zf 4 0,Zg 28 5 17,Zf 6 5]) .ret) .skip))
 (.seqL
 (.seq
 (.reg [Zf 7 0])
 (.block 0 (.loop b73_2))) c73_3)))
theorem fd73:FnD Tryz.prog 73 81 [(.tmp 4),(.cell 5 28),(.tmp 6)] c73:=⟨⟨Tryz.f73,Tryz.f73.body.getD .skip,Tryz.func73,by kernel_rfl,by kernel_rfl,by kernel_rfl,by kernel_rfl⟩⟩
def c74:ACode:=(.seq
 (.reg [Zj 2 28 0,Zi 4 28])
 (.seq
 (.seq
 (.reg [Za 5 1,Ze 6 5 26,Zm 7 .eql 3 6 0])
 (.cond (Zr 7)
 (.seq
 (.reg [Zb 8 28 2,Zg 28 4 8]) .ret) .skip))
 (.seq
 (.reg [Zb 9 28 2,Zq 10 (.buildSlice 26 1 #[(0,(Zr 9))]),Za 11 1,Zl 12 10 11 26,Zq 13 (.build 28 #[(0,(.const (.int .i64 4))),(2,(Zr 12))]),Zg 28 4 13]) .ret)))
theorem fd74:FnD Tryz.prog 74 14 [(.cell 4 28)] c74:=⟨⟨Tryz.f74,Tryz.f74.body.getD .skip,Tryz.func74,by kernel_rfl,by kernel_rfl,by kernel_rfl,by kernel_rfl⟩⟩
def c75:ACode:=(.seq
 (.reg [Zj 2 28 0,Zi 4 28])
 (.seq
 (.reg [Zb 5 28 2,Za 6 1,Zo 7 97 #[Zr 5,Zr 6,(.const (.bool false))] #[28,175,4],Zg 28 4 7]) .ret))
theorem fd75:FnD Tryz.prog 75 8 [(.cell 4 28)] c75:=⟨⟨Tryz.f75,Tryz.f75.body.getD .skip,Tryz.func75,by kernel_rfl,by kernel_rfl,by kernel_rfl,by kernel_rfl⟩⟩
def b76_1:ACode:=(.seq
 (.reg [Zn 11 .lss 3 10 9])
 (.seq
 (.cond (Zr 11) .skip (.exit 0))
 (.seq
 (.block 1
 (.seq
 (.reg [Za 12 10,Zk 13 41 8 10,Zb 14 76 13,Zi 4 76,Zc 3 12,Zg 76 4 14])
 (.block 2
 (.seq
 (.reg [Zd 16 76 4 0,Zb 17 9 16,Zo 18 77 #[Zr 17] #[9],Zq 19 (.unOp .not 4 (Zr 18)),Zc 15 19])
 (.cond (Zr 15)
 (.seq
 (.reg [Zf 2 411]) .ret)
 (.seq
 (.reg [Zd 21 76 4 1,Zb 22 3 21,Zm 23 .lss 3 22 0,Za 24 23,Zp 25 (.fieldAddr 76 (Zr 4) 1) 24 false,Zp 26 (.load 3 (Zr 25)) 24 false,Zp 27 (.binOp .gtr 3 (Zr 26) (.const (.int .i64 10)) 3) 24 false,Zq 28 (.pick (Zr 24) (.const (.bool true)) (Zr 27)),Zc 20 28])
 (.cond (Zr 20)
 (.seq
 (.reg [Zf 2 4]) .ret)
 (.seq
 (.dreg
 (.tk 0 (Za 30 0)
 (.tk 1 (Za 31 3)
 (.tk 2 (Zq 32 (.slice 41 (Zr 30) none (some (Zr 31)) none))
 (.tk 3 (Zd 33 76 4 0)
 (.tk 4 (Zb 34 9 33) .fin))))) [Zo 35 78 #[Zr 32,Zr 34] #[41,9],Zm 36 .geq 3 35 0,Zc 29 36])
 (.cond (Zr 29)
 (.seq
 (.reg [Zf 2 10]) .ret) .skip)))))))))
 (.reg [Zm 37 .add 3 10 1,Za 10 37]))))
def c76_1:ACode:=(.seq
 (.reg [Zf 2 0]) .ret)
def c76:ACode:=(.seq
 (.reg [Zf 2 0])
 (.seq
 (.seq
 (.reg [Za 5 0,Ze 6 5 41,Zm 7 .gtr 3 6 100])
 (.cond (Zr 7)
 (.seq
 (.reg [Zf 2 5]) .ret) .skip))
 (.seqL
 (.seq
 (.reg [Za 8 0,Ze 9 8 41,Zq 10 (.move (.const (.int .i64 0)))])
 (.block 0 (.loop b76_1))) c76_1)))
theorem fd76:FnD Tryz.prog 76 38 [(.tmp 2)] c76:=⟨⟨Tryz.f76,Tryz.f76.body.getD .skip,Tryz.func76,by kernel_rfl,by kernel_rfl,by kernel_rfl,by kernel_rfl⟩⟩
def c77:ACode:=(.seq
 (.reg [Zq 2 (.assign (.const (.bool false)))])
 (.seq
 (.seq
 (.reg [Za 3 0,Zq 4 (.binOp .eql 9 (Zr 3) (.const (.string { data:=#[] })) 9),Za 5 4,Zp 6 (.move (Zr 0)) 5 false,Zp 7 (.call { callee:=(.builtin .len),args:=#[Zr 6],argTypes:=#[9] }) 5 false,Zp 8 (.binOp .gtr 3 (Zr 7) (.const (.int .i64 40)) 3) 5 false,Zq 9 (.pick (Zr 5) (.const (.bool true)) (Zr 8)),Za 10 9,Zp 11 (.move (Zr 0)) 10 false,Zp 12 (.index 9 (Zr 11) (.const (.int .i64 0))) 10 false,Zp 13 (.call { callee:=(.value (.func 108)),args:=#[Zr 12],argTypes:=#[5] }) 10 false,Zp 14 (.unOp .not 4 (Zr 13)) 10 false,Zp 15 (.move (Zr 14)) 10 false,Zp 16 (.move (Zr 0)) 15 true,Zp 17 (.index 9 (Zr 16) (.const (.int .i64 0))) 15 true,Zp 18 (.binOp .neq 5 (Zr 17) (.const (.int .u8 95)) 5) 15 true,Zp 19 (.pick (Zr 15) (Zr 18) (.const (.bool false))) 10 false,Zq 20 (.pick (Zr 10) (.const (.bool true)) (Zr 19))])
 (.cond (Zr 20)
 (.seq
 (.reg [Zq 2 (.assign (.const (.bool false)))]) .ret) .skip))
 (.seq
 (.reg [Za 21 0,Zq 22 (.convert 9 213 (Zr 21)),Zo 23 109 #[Zr 22,(.func 110)] #[213,211],Zq 24 (.unOp .not 4 (Zr 23)),Zc 2 24]) .ret)))
theorem fd77:FnD Tryz.prog 77 25 [(.tmp 2)] c77:=⟨⟨Tryz.f77,Tryz.f77.body.getD .skip,Tryz.func77,by kernel_rfl,by kernel_rfl,by kernel_rfl,by kernel_rfl⟩⟩
def c78:ACode:=(.seq
 (.reg [Zj 3 9 1,Zf 4 0])
 (.seq
 (.reg [Za 5 0,Zq 6 (.makeFunc (.func 113) #[] #[Zr 3]),Zo 7 112 #[Zr 5,Zr 6] #[41,215],Zc 4 7]) .ret))
theorem fd78:FnD Tryz.prog 78 8 [(.tmp 4)] c78:=⟨⟨Tryz.f78,Tryz.f78.body.getD .skip,Tryz.func78,by kernel_rfl,by kernel_rfl,by kernel_rfl,by kernel_rfl⟩⟩
def c79:ACode:=(.seq
 (.reg [Zj 3 9 1,Zf 4 0])
 (.seq
 (.reg [Za 5 0,Zq 6 (.makeFunc (.func 115) #[] #[Zr 3]),Zo 7 114 #[Zr 5,Zr 6] #[42,217],Zc 4 7]) .ret))
theorem fd79:FnD Tryz.prog 79 8 [(.tmp 4)] c79:=⟨⟨Tryz.f79,Tryz.f79.body.getD .skip,Tryz.func79,by kernel_rfl,by kernel_rfl,by kernel_rfl,by kernel_rfl⟩⟩
def b80_1:ACode:=(.seq
 (.reg [Zn 26 .lss 3 25 24])
 (.seq
 (.cond (Zr 26) .skip (.exit 0))
 (.seq
 (.block 1
 (.seq
 (.reg [Zk 27 72 23 25,Zb 28 74 27,Zi 8 74,Zg 74 8 28])
 (.seq
 (.reg [Zb 29 74 8,Zd 30 44 3 0,Zb 31 41 30,Zo 32 116 #[Zr 29,Zr 31] #[74,41],Zc 9 32])
 (.seq
 (.reg [Za 33 9,Zm 34 .neq 38 33 0])
 (.cond (Zr 34)
 (.seq
 (.reg [Za 35 9,Zc 6 35]) .ret) .skip)))))
 (.reg [Zm 36 .add 3 25 1,Za 25 36]))))
def b80_2:ACode:=(.seq
 (.reg [Zn 43 .lss 3 42 41])
 (.seq
 (.cond (Zr 43) .skip (.exit 2))
 (.seq
 (.block 3
 (.seq
 (.reg [Za 44 42,Zk 45 181 40 42,Zb 46 9 45,Zc 11 44,Zc 12 46])
 (.seq
 (.reg [Za 47 10,Za 48 11,Zq 49 (.slice 181 (Zr 47) none (some (Zr 48)) none),Za 50 12,Zo 51 81 #[Zr 49,Zr 50] #[181,9]])
 (.cond (Zr 51)
 (.seq
 (.reg [Zf 6 10]) .ret) .skip))))
 (.reg [Zm 52 .add 3 42 1,Za 42 52]))))
def c80_1:ACode:=(.seq
 (.seq
 (.reg [Zd 54 78 5 1,Zb 55 35 54,Zo 56 118 #[Zr 55] #[35],Za 53 56,Zh 57 53 0,Zh 58 53 1,Zc 13 57,Zc 14 58])
 (.block 4
 (.seq
 (.reg [Za 60 13,Zm 61 .gtr 3 60 1000,Zc 59 61])
 (.cond (Zr 59)
 (.seq
 (.reg [Zf 6 7]) .ret)
 (.seq
 (.reg [Za 63 14,Zm 64 .gtr 3 63 100,Zc 62 64])
 (.cond (Zr 62)
 (.seq
 (.reg [Zf 6 6]) .ret) .skip))))))
 (.seq
 (.reg [Zq 15 (.assign (.const (.pointer none)))])
 (.seq
 (.dreg
 (.tk 0 (Zb 65 44 3)
 (.tk 1 (Zd 66 78 5 1)
 (.tk 2 (Zb 67 35 66)
 (.tk 3 (Za 68 15)
 (.tk 4 (Za 69 10)
 (.one [0,1,2,5,6,7] (Zo 70 120 #[Zr 68,Zr 69] #[220,181]) .fin)))))) [Zo 71 119 #[Zr 65,Zr 67,Zr 70] #[44,35,220],Zc 6 71]) .ret)))
def c80_2:ACode:=(.seq
 (.reg [Zd 37 78 5 0,Zb 38 72 37,Zo 39 117 #[Zr 38] #[72],Zc 10 39])
 (.seqL
 (.seq
 (.reg [Za 40 10,Ze 41 40 181,Zq 42 (.move (.const (.int .i64 0)))])
 (.block 2 (.loop b80_2))) c80_1))
def c80:ACode:=(.seq
 (.reg [Zj 3 44 0,Zj 4 81 1,Zj 5 78 2,Zf 6 0])
 (.seq
 (.seq
 (.reg [Zd 16 78 5 0,Zb 17 72 16,Ze 18 17 72,Zd 19 81 4 1,Zb 20 3 19,Zn 21 .neq 3 18 20])
 (.cond (Zr 21)
 (.seq
 (.reg [Zf 6 5]) .ret) .skip))
 (.seqL
 (.seq
 (.reg [Zd 22 78 5 0,Zb 23 72 22,Ze 24 23 72,Zq 25 (.move (.const (.int .i64 0)))])
 (.block 0 (.loop b80_1))) c80_2)))
theorem fd80:FnD Tryz.prog 80 72 [(.tmp 6)] c80:=⟨⟨Tryz.f80,Tryz.f80.body.getD .skip,Tryz.func80,by kernel_rfl,by kernel_rfl,by kernel_rfl,by kernel_rfl⟩⟩
def c81:ACode:=(.seq
 (.reg [Zq 4 (.assign (.const (.bool false)))])
 (.seq
 (.reg [Za 5 0,Za 6 1,Zo 7 121 #[Zr 5,Zr 6] #[181,9],Zm 8 .geq 3 7 0,Zc 4 8]) .ret))
theorem fd81:FnD Tryz.prog 81 9 [(.tmp 4)] c81:=⟨⟨Tryz.f81,Tryz.f81.body.getD .skip,Tryz.func81,by kernel_rfl,by kernel_rfl,by kernel_rfl,by kernel_rfl⟩⟩
def c82:ACode:=(.seq
 (.block 0
 (.seq
 (.reg [Za 5 1,Zo 6 122 #[Zr 5] #[132],Zm 7 .gtr 3 6 5000,Zc 4 7])
 (.cond (Zr 4)
 (.reg [Zq 8 (.build 89 #[(0,(.const (.int .i64 7)))]),Zq 9 (.makeInterface 89 (Zr 8)),⟨none,(.panic (Zr 9)),none⟩])
 (.seq
 (.dreg
 (.tk 0 (Za 11 0)
 (.tk 1 (Zq 12 (.nilCheck (Zr 11)))
 (.tk 2 (Zd 13 93 12 2)
 (.tk 3 (Zb 14 3 13)
 (.tk 4 (Za 15 0)
 (.tk 5 (Zq 16 (.nilCheck (Zr 15)))
 (.tk 6 (Zd 17 93 16 1)
 (.tk 7 (Zb 18 3 17) .fin)))))))) [Zn 19 .eql 3 14 18,Zc 10 19])
 (.cond (Zr 10)
 (.reg [Zq 20 (.build 89 #[(0,(.const (.int .i64 8)))]),Zq 21 (.makeInterface 89 (Zr 20)),⟨none,(.panic (Zr 21)),none⟩]) .skip)))))
 (.seq
 (.reg [Za 22 0,Zq 23 (.nilCheck (Zr 22)),Zd 24 93 23 2,Zb 25 3 24,Zm 26 .add 3 25 1,Zq 27 (.nilCheck (Zr 22)),Zd 28 93 27 2,Zg 3 28 26])
 (.seq
 (.reg [Za 29 0,Zq 30 (.nilCheck (Zr 29)),Zd 31 93 30 3,Zb 32 3 31,Zm 33 .geq 3 32 2000])
 (.cond (Zr 33)
 (.reg [Zq 34 (.build 89 #[(0,(.const (.int .i64 6)))]),Zq 35 (.makeInterface 89 (Zr 34)),⟨none,(.panic (Zr 35)),none⟩]) .skip))))
theorem fd82:FnD Tryz.prog 82 36 [] c82:=⟨⟨Tryz.f82,Tryz.f82.body.getD .skip,Tryz.func82,by kernel_rfl,by kernel_rfl,by kernel_rfl,by kernel_rfl⟩⟩
def b83_1:ACode:=(.seq
 (.reg [Zn 49 .lss 3 48 47])
 (.seq
 (.cond (Zr 49) .skip (.exit 0))
 (.seq
 (.block 1
 (.seq
 (.reg [Za 50 48,Zk 51 72 46 48,Zb 52 74 51,Zi 11 74,Zc 10 50,Zg 74 11 52])
 (.seq
 (.dreg
 (.tk 0 (Zb 54 74 11)
 (.tk 1 (Zd 55 142 8 1)
 (.tk 2 (Zb 56 132 55)
 (.tk 3 (Za 57 10)
 (.tk 4 (Zk 58 132 56 57)
 (.tk 5 (Zb 59 95 58)
 (.tk 6 (Za 60 2)
 (.one [7,8,9,10,11,12] (Zo 61 83 #[Zr 54,Zr 59,Zr 60] #[74,95,131])
 (.tk 8 (Za 53 61)
 (.tk 9 (Zh 62 53 0)
 (.tk 10 (Zh 63 53 1)
 (.tk 11 (Zc 2 62) .fin)))))))))))) [Zc 9 63])
 (.seq
 (.reg [Za 64 9,Zq 65 (.unOp .not 4 (Zr 64))])
 (.cond (Zr 65)
 (.seq
 (.reg [Za 66 2,Zc 6 66,Zq 7 (.assign (.const (.bool false)))]) .ret) .skip)))))
 (.reg [Zm 67 .add 3 48 1,Za 48 67]))))
def c83_1:ACode:=(.seq
 (.reg [Za 68 2,Zc 6 68,Zq 7 (.assign (.const (.bool true)))]) .ret)
def c83:ACode:=(.seq
 (.reg [Zj 3 74 0,Zq 6 (.assign (.const (.pointer none))),Zq 7 (.assign (.const (.bool false)))])
 (.seq
 (.seq
 (.reg [Zd 12 74 3 0,Zb 13 4 12,Zq 14 (.unOp .not 4 (Zr 13))])
 (.cond (Zr 14)
 (.seq
 (.reg [Zd 15 74 3 1,Zb 16 9 15,Za 17 1,Za 18 2,Zq 19 (.build 185 #[(0,(Zr 16)),(1,(Zr 17)),(2,(Zr 18))]),Zj 20 185 19,Zc 6 20,Zq 7 (.assign (.const (.bool true)))]) .ret) .skip))
 (.seq
 (.reg [Za 22 1,Zq 23 (.typeAssert (Zr 22) 95 142 true),Za 21 23,Zh 24 21 0,Zh 25 21 1,Zi 8 142,Zg 142 8 24,Zc 9 25])
 (.seq
 (.seq
 (.reg [Za 26 9,Zq 27 (.unOp .not 4 (Zr 26)),Za 28 27,Zp 29 (.fieldAddr 142 (Zr 8) 0) 28 false,Zp 30 (.load 9 (Zr 29)) 28 false,Zp 31 (.fieldAddr 74 (Zr 3) 1) 28 false,Zp 32 (.load 9 (Zr 31)) 28 false,Zp 33 (.binOp .neq 9 (Zr 30) (Zr 32) 9) 28 false,Zq 34 (.pick (Zr 28) (.const (.bool true)) (Zr 33)),Za 35 34,Zp 36 (.fieldAddr 142 (Zr 8) 1) 35 false,Zp 37 (.load 132 (Zr 36)) 35 false,Zp 38 (.call { callee:=(.builtin .len),args:=#[Zr 37],argTypes:=#[132] }) 35 false,Zp 39 (.fieldAddr 74 (Zr 3) 2) 35 false,Zp 40 (.load 72 (Zr 39)) 35 false,Zp 41 (.call { callee:=(.builtin .len),args:=#[Zr 40],argTypes:=#[72] }) 35 false,Zp 42 (.binOp .neq 3 (Zr 38) (Zr 41) 3) 35 false,Zq 43 (.pick (Zr 35) (.const (.bool true)) (Zr 42))])
 (.cond (Zr 43)
 (.seq
 (.reg [Za 44 2,Zc 6 44,Zq 7 (.assign (.const (.bool false)))]) .ret) .skip))
 (.seqL
 (.seq
 (.reg [Zd 45 74 3 2,Zb 46 72 45,Ze 47 46 72,Zq 48 (.move (.const (.int .i64 0)))])
 (.block 0 (.loop b83_1))) c83_1)))))
theorem fd83:FnD Tryz.prog 83 69 [(.tmp 6),(.tmp 7)] c83:=⟨⟨Tryz.f83,Tryz.f83.body.getD .skip,Tryz.func83,by kernel_rfl,by kernel_rfl,by kernel_rfl,by kernel_rfl⟩⟩
def c84:ACode:=(.seq
 (.reg [Zj 3 91 0,Zj 4 35 1,Zq 6 (.assign (.const .nilIface))])
 (.seq
 (.reg [Zb 7 91 3,Zq 8 (.nilCheck (Zr 7)),Zd 9 93 8 3,Zb 10 3 9,Zm 11 .add 3 10 1,Zq 12 (.nilCheck (Zr 7)),Zd 13 93 12 3,Zg 3 13 11])
 (.seq
 (.reg [Zq 14 (.makeFunc (.func 123) #[] #[Zr 3]),⟨none,(.defer { callee:=(.value (Zr 14)),args:=#[],argTypes:=#[] }),none⟩])
 (.seq
 (.reg [Zb 15 91 3,Zb 16 35 4,Za 17 2,Zo 18 26 #[Zr 15,Zr 16,Zr 17] #[91,35,131],Zc 6 18]) .ret))))
theorem fd84:FnD Tryz.prog 84 19 [(.tmp 6)] c84:=⟨⟨Tryz.f84,Tryz.f84.body.getD .skip,Tryz.func84,by kernel_rfl,by kernel_rfl,by kernel_rfl,by kernel_rfl⟩⟩
def c85:ACode:=(.seq
 (.reg [Zq 2 (.assign (.const (.slice none 0 0)))])
 (.seq
 (.seq
 (.reg [Za 3 0,Zq 4 (.binOp .eql 132 (Zr 3) (.const (.slice none 0 0)) 132)])
 (.cond (Zr 4)
 (.seq
 (.reg [Zq 2 (.assign (.const (.slice none 0 0)))]) .ret) .skip))
 (.seq
 (.reg [Zq 5 (.buildSlice 132 0 #[]),Za 6 0,Zl 7 5 6 132,Zc 2 7]) .ret)))
theorem fd85:FnD Tryz.prog 85 8 [(.tmp 2)] c85:=⟨⟨Tryz.f85,Tryz.f85.body.getD .skip,Tryz.func85,by kernel_rfl,by kernel_rfl,by kernel_rfl,by kernel_rfl⟩⟩
def b86_1:ACode:=(.seq
 (.seq
 (.reg [Za 7 3,Za 8 0,Ze 9 8 22,Zn 10 .lss 3 7 9])
 (.cond (Zr 10) .skip (.exit 0)))
 (.seq
 (.block 1
 (.block 2
 (.seq
 (.reg [Za 14 0,Za 15 3,Zk 16 22 14 15,Zd 17 102 16 0,Zb 18 9 17,Zo 19 87 #[Zr 18] #[9],Zq 20 (.unOp .not 4 (Zr 19)),Zc 13 20])
 (.cond (Zr 13)
 (.seq
 (.reg [Zf 2 411]) .ret)
 (.seq
 (.reg [Za 22 0,Za 23 3,Zk 24 22 22 23,Zd 25 102 24 1,Zb 26 3 25,Zm 27 .lss 3 26 0,Za 28 27,Zp 29 (.move (Zr 0)) 28 false,Zp 30 (.move (Zr 3)) 28 false,Zp 31 (.indexAddr 22 (Zr 29) (Zr 30)) 28 false,Zp 32 (.fieldAddr 102 (Zr 31) 1) 28 false,Zp 33 (.load 3 (Zr 32)) 28 false,Zp 34 (.binOp .gtr 3 (Zr 33) (.const (.int .i64 10)) 3) 28 false,Zq 35 (.pick (Zr 28) (.const (.bool true)) (Zr 34)),Zc 21 35])
 (.cond (Zr 21)
 (.seq
 (.reg [Zf 2 4]) .ret)
 (.seq
 (.dreg
 (.tk 0 (Za 37 0)
 (.tk 1 (Za 38 3)
 (.tk 2 (Zq 39 (.slice 22 (Zr 37) none (some (Zr 38)) none))
 (.tk 3 (Za 40 0)
 (.tk 4 (Za 41 3)
 (.tk 5 (Zk 42 22 40 41)
 (.tk 6 (Zd 43 102 42 0)
 (.tk 7 (Zb 44 9 43) .fin)))))))) [Zo 45 88 #[Zr 39,Zr 44] #[22,9],Zm 46 .geq 3 45 0,Zc 36 46])
 (.cond (Zr 36)
 (.seq
 (.reg [Zf 2 10]) .ret) .skip))))))))
 (.reg [Za 11 3,Zm 12 .add 3 11 1,Zc 3 12])))
def c86_1:ACode:=(.seq
 (.reg [Zf 2 0]) .ret)
def c86:ACode:=(.seq
 (.reg [Zf 2 0])
 (.seq
 (.seq
 (.reg [Za 4 0,Ze 5 4 22,Zm 6 .gtr 3 5 100])
 (.cond (Zr 6)
 (.seq
 (.reg [Zf 2 5]) .ret) .skip))
 (.seqL
 (.seq
 (.reg [Zf 3 0])
 (.block 0 (.loop b86_1))) c86_1)))
theorem fd86:FnD Tryz.prog 86 47 [(.tmp 2)] c86:=⟨⟨Tryz.f86,Tryz.f86.body.getD .skip,Tryz.func86,by kernel_rfl,by kernel_rfl,by kernel_rfl,by kernel_rfl⟩⟩
def b87_1:ACode:=(.seq
 (.seq
 (.reg [Za 15 3,Za 16 0,Ze 17 16 9,Zn 18 .lss 3 15 17])
 (.cond (Zr 18) .skip (.exit 0)))
 (.seq
 (.block 1
 (.seq
 (.reg [Za 21 0,Za 22 3,Zq 23 (.index 9 (Zr 21) (Zr 22)),Zc 4 23])
 (.seq
 (.reg [Za 24 4,Zq 25 (.binOp .geq 5 (Zr 24) (.const (.int .u8 97)) 5),Za 26 25,Zp 27 (.move (Zr 4)) 26 true,Zp 28 (.binOp .leq 5 (Zr 27) (.const (.int .u8 122)) 5) 26 true,Zq 29 (.pick (Zr 26) (Zr 28) (.const (.bool false))),Za 30 29,Zp 31 (.move (Zr 4)) 30 false,Zp 32 (.binOp .geq 5 (Zr 31) (.const (.int .u8 65)) 5) 30 false,Zp 33 (.move (Zr 32)) 30 false,Zp 34 (.move (Zr 4)) 33 true,Zp 35 (.binOp .leq 5 (Zr 34) (.const (.int .u8 90)) 5) 33 true,Zp 36 (.pick (Zr 33) (Zr 35) (.const (.bool false))) 30 false,Zq 37 (.pick (Zr 30) (.const (.bool true)) (Zr 36)),Za 38 37,Zp 39 (.move (Zr 4)) 38 false,Zp 40 (.binOp .eql 5 (Zr 39) (.const (.int .u8 95)) 5) 38 false,Zq 41 (.pick (Zr 38) (.const (.bool true)) (Zr 40)),Zc 5 41])
 (.seq
 (.reg [Za 42 4,Zq 43 (.binOp .geq 5 (Zr 42) (.const (.int .u8 48)) 5),Za 44 43,Zp 45 (.move (Zr 4)) 44 true,Zp 46 (.binOp .leq 5 (Zr 45) (.const (.int .u8 57)) 5) 44 true,Zq 47 (.pick (Zr 44) (Zr 46) (.const (.bool false))),Za 48 47,Zp 49 (.move (Zr 4)) 48 false,Zp 50 (.binOp .eql 5 (Zr 49) (.const (.int .u8 39)) 5) 48 false,Zq 51 (.pick (Zr 48) (.const (.bool true)) (Zr 50)),Za 52 51,Zp 53 (.move (Zr 4)) 52 false,Zp 54 (.binOp .eql 5 (Zr 53) (.const (.int .u8 46)) 5) 52 false,Zq 55 (.pick (Zr 52) (.const (.bool true)) (Zr 54)),Zc 6 55])
 (.seq
 (.reg [Za 56 5,Zq 57 (.unOp .not 4 (Zr 56)),Za 58 57,Zp 59 (.move (Zr 3)) 58 true,Zp 60 (.binOp .eql 3 (Zr 59) (.const (.int .i64 0)) 3) 58 true,Zp 61 (.move (Zr 60)) 58 true,Zp 62 (.move (Zr 6)) 61 false,Zp 63 (.unOp .not 4 (Zr 62)) 61 false,Zp 64 (.pick (Zr 61) (.const (.bool true)) (Zr 63)) 58 true,Zq 65 (.pick (Zr 58) (Zr 64) (.const (.bool false)))])
 (.cond (Zr 65)
 (.seq
 (.reg [Zq 2 (.assign (.const (.bool false)))]) .ret) .skip))))))
 (.reg [Za 19 3,Zm 20 .add 3 19 1,Zc 3 20])))
def c87_1:ACode:=(.seq
 (.reg [Zq 2 (.assign (.const (.bool true)))]) .ret)
def c87:ACode:=(.seq
 (.reg [Zq 2 (.assign (.const (.bool false)))])
 (.seq
 (.seq
 (.reg [Za 7 0,Ze 8 7 9,Zm 9 .lss 3 8 1,Za 10 9,Zp 11 (.move (Zr 0)) 10 false,Zp 12 (.call { callee:=(.builtin .len),args:=#[Zr 11],argTypes:=#[9] }) 10 false,Zp 13 (.binOp .gtr 3 (Zr 12) (.const (.int .i64 40)) 3) 10 false,Zq 14 (.pick (Zr 10) (.const (.bool true)) (Zr 13))])
 (.cond (Zr 14)
 (.seq
 (.reg [Zq 2 (.assign (.const (.bool false)))]) .ret) .skip))
 (.seqL
 (.seq
 (.reg [Zf 3 0])
 (.block 0 (.loop b87_1))) c87_1)))
theorem fd87:FnD Tryz.prog 87 66 [(.tmp 2)] c87:=⟨⟨Tryz.f87,Tryz.f87.body.getD .skip,Tryz.func87,by kernel_rfl,by kernel_rfl,by kernel_rfl,by kernel_rfl⟩⟩
def b88_1:ACode:=(.seq
 (.seq
 (.reg [Za 6 5,Za 7 0,Ze 8 7 22,Zn 9 .lss 3 6 8])
 (.cond (Zr 9) .skip (.exit 0)))
 (.seq
 (.block 1
 (.seq
 (.reg [Za 12 0,Za 13 5,Zk 14 22 12 13,Zd 15 102 14 0,Zb 16 9 15,Za 17 1,Zn 18 .eql 9 16 17])
 (.cond (Zr 18)
 (.seq
 (.reg [Za 19 5,Zc 4 19]) .ret) .skip)))
 (.reg [Za 10 5,Zm 11 .add 3 10 1,Zc 5 11])))
def c88_1:ACode:=(.seq
 (.reg [Zq 4 (.assign (.const (.int .i64 (-1))))]) .ret)
def c88:ACode:=(.seq
 (.reg [Zf 4 0])
 (.seqL
 (.seq
 (.reg [Zf 5 0])
 (.block 0 (.loop b88_1))) c88_1))
theorem fd88:FnD Tryz.prog 88 20 [(.tmp 4)] c88:=⟨⟨Tryz.f88,Tryz.f88.body.getD .skip,Tryz.func88,by kernel_rfl,by kernel_rfl,by kernel_rfl,by kernel_rfl⟩⟩
def b89_1:ACode:=(.seq
 (.seq
 (.reg [Za 6 5,Za 7 0,Ze 8 7 23,Zn 9 .lss 3 6 8])
 (.cond (Zr 9) .skip (.exit 0)))
 (.seq
 (.block 1
 (.seq
 (.reg [Za 12 0,Za 13 5,Zk 14 23 12 13,Zd 15 67 14 0,Zb 16 9 15,Za 17 1,Zn 18 .eql 9 16 17])
 (.cond (Zr 18)
 (.seq
 (.reg [Za 19 5,Zc 4 19]) .ret) .skip)))
 (.reg [Za 10 5,Zm 11 .add 3 10 1,Zc 5 11])))
def c89_1:ACode:=(.seq
 (.reg [Zq 4 (.assign (.const (.int .i64 (-1))))]) .ret)
def c89:ACode:=(.seq
 (.reg [Zf 4 0])
 (.seqL
 (.seq
 (.reg [Zf 5 0])
 (.block 0 (.loop b89_1))) c89_1))
theorem fd89:FnD Tryz.prog 89 20 [(.tmp 4)] c89:=⟨⟨Tryz.f89,Tryz.f89.body.getD .skip,Tryz.func89,by kernel_rfl,by kernel_rfl,by kernel_rfl,by kernel_rfl⟩⟩
def b90_1:ACode:=(.seq
 (.seq
 (.reg [Za 22 8,Zd 23 124 5 0,Zb 24 122 23,Ze 25 24 122,Zn 26 .lss 3 22 25])
 (.cond (Zr 26) .skip (.exit 0)))
 (.seq
 (.block 1
 (.seq
 (.reg [Zd 30 124 5 0,Zb 31 122 30,Za 32 8,Zk 33 122 31 32,Zb 34 126 33,Zo 35 124 #[Zr 34] #[126],Za 29 35,Zh 36 29 0,Zh 37 29 1,Zc 9 36,Zc 10 37])
 (.seq
 (.seq
 (.reg [Za 38 9,Zm 39 .gtr 3 38 100])
 (.cond (Zr 39)
 (.seq
 (.reg [Zf 6 7]) .ret) .skip))
 (.seq
 (.seq
 (.reg [Za 40 10,Zm 41 .gtr 3 40 50])
 (.cond (Zr 41)
 (.seq
 (.reg [Zf 6 6]) .ret) .skip))
 (.seq
 (.seq
 (.dreg
 (.tk 0 (Zd 42 25 3 0)
 (.tk 1 (Zb 43 22 42)
 (.tk 2 (Zd 44 124 5 0)
 (.tk 3 (Zb 45 122 44)
 (.tk 4 (Za 46 8)
 (.tk 5 (Zk 47 122 45 46)
 (.tk 6 (Zb 48 126 47) .fin))))))) [Zo 49 125 #[Zr 43,Zr 48] #[22,126],Zc 11 49])
 (.seq
 (.reg [Za 50 11,Zm 51 .neq 38 50 0])
 (.cond (Zr 51)
 (.seq
 (.reg [Za 52 11,Zc 6 52]) .ret) .skip)))
 (.reg [Zd 53 124 5 0,Zb 54 122 53,Za 55 8,Zk 56 122 54 55,Zb 57 126 56,Za 58 7,Zo 59 126 #[Zr 57,Zr 58] #[126,181],Zc 7 59]))))))
 (.reg [Za 27 8,Zm 28 .add 3 27 1,Zc 8 28])))
def b90_2:ACode:=(.seq
 (.seq
 (.reg [Za 60 12,Za 61 7,Ze 62 61 181,Zn 63 .lss 3 60 62])
 (.cond (Zr 63) .skip (.exit 2)))
 (.seq
 (.block 3
 (.seq
 (.dreg
 (.tk 0 (Za 66 7)
 (.tk 1 (Za 67 12)
 (.tk 2 (Zq 68 (.slice 181 (Zr 66) none (some (Zr 67)) none))
 (.tk 3 (Za 69 7)
 (.tk 4 (Za 70 12)
 (.tk 5 (Zk 71 181 69 70)
 (.tk 6 (Zb 72 9 71) .fin))))))) [Zo 73 127 #[Zr 68,Zr 72] #[181,9]])
 (.cond (Zr 73)
 (.seq
 (.reg [Zf 6 10]) .ret) .skip)))
 (.reg [Za 64 12,Zm 65 .add 3 64 1,Zc 12 65])))
def c90_1:ACode:=(.seq
 (.reg [Zd 75 124 5 1,Zb 76 28 75,Zo 77 128 #[Zr 76] #[28],Za 74 77,Zh 78 74 0,Zh 79 74 1,Zc 13 78,Zc 14 79])
 (.seq
 (.seq
 (.reg [Za 80 13,Zm 81 .gtr 3 80 1000])
 (.cond (Zr 81)
 (.seq
 (.reg [Zf 6 7]) .ret) .skip))
 (.seq
 (.seq
 (.reg [Za 82 14,Zm 83 .gtr 3 82 100])
 (.cond (Zr 83)
 (.seq
 (.reg [Zf 6 6]) .ret) .skip))
 (.seq
 (.reg [Zb 84 25 3,Zd 85 124 5 1,Zb 86 28 85,Za 87 7,Zo 88 129 #[Zr 84,Zr 86,Zr 87] #[25,28,181],Zc 6 88]) .ret))))
def c90_2:ACode:=(.seqL
 (.seq
 (.reg [Zf 12 0])
 (.block 2 (.loop b90_2))) c90_1)
def c90:ACode:=(.seq
 (.reg [Zj 3 25 0,Zj 4 67 1,Zj 5 124 2,Zf 6 0])
 (.seq
 (.seq
 (.reg [Zd 15 124 5 0,Zb 16 122 15,Ze 17 16 122,Zd 18 67 4 1,Zb 19 3 18,Zn 20 .neq 3 17 19])
 (.cond (Zr 20)
 (.seq
 (.reg [Zf 6 5]) .ret) .skip))
 (.seq
 (.reg [Zq 21 (.buildSlice 181 0 #[]),Zc 7 21])
 (.seqL
 (.seq
 (.reg [Zf 8 0])
 (.block 0 (.loop b90_1))) c90_2))))
theorem fd90:FnD Tryz.prog 90 89 [(.tmp 6)] c90:=⟨⟨Tryz.f90,Tryz.f90.body.getD .skip,Tryz.func90,by kernel_rfl,by kernel_rfl,by kernel_rfl,by kernel_rfl⟩⟩
def b91_1:ACode:=(.seq
 (.seq
 (.reg [Za 6 5,Zd 7 25 2 0,Zb 8 22 7,Ze 9 8 22,Zn 10 .lss 3 6 9])
 (.cond (Zr 10) .skip (.exit 0)))
 (.seq
 (.block 1
 (.seq
 (.reg [Zd 13 25 2 0,Zb 14 22 13,Za 15 5,Zk 16 22 14 15,Zd 17 102 16 0,Zb 18 9 17,Za 19 1,Zn 20 .eql 9 18 19])
 (.cond (Zr 20)
 (.seq
 (.reg [Za 21 5,Zc 4 21]) .ret) .skip)))
 (.reg [Za 11 5,Zm 12 .add 3 11 1,Zc 5 12])))
def c91_1:ACode:=(.seq
 (.reg [Zq 4 (.assign (.const (.int .i64 (-1))))]) .ret)
def c91:ACode:=(.seq
 (.reg [Zj 2 25 0,Zf 4 0])
 (.seqL
 (.seq
 (.reg [Zf 5 0])
 (.block 0 (.loop b91_1))) c91_1))
theorem fd91:FnD Tryz.prog 91 22 [(.tmp 4)] c91:=⟨⟨Tryz.f91,Tryz.f91.body.getD .skip,Tryz.func91,by kernel_rfl,by kernel_rfl,by kernel_rfl,by kernel_rfl⟩⟩
def b92_1:ACode:=(.seq
 (.seq
 (.reg [Za 6 5,Za 7 0,Ze 8 7 181,Zn 9 .lss 3 6 8])
 (.cond (Zr 9) .skip (.exit 0)))
 (.seq
 (.block 1
 (.seq
 (.reg [Za 12 0,Za 13 5,Zk 14 181 12 13,Zb 15 9 14,Za 16 1,Zn 17 .eql 9 15 16])
 (.cond (Zr 17)
 (.seq
 (.reg [Zq 4 (.assign (.const (.bool true)))]) .ret) .skip)))
 (.reg [Za 10 5,Zm 11 .add 3 10 1,Zc 5 11])))
def c92_1:ACode:=(.seq
 (.reg [Zq 4 (.assign (.const (.bool false)))]) .ret)
def c92:ACode:=(.seq
 (.reg [Zq 4 (.assign (.const (.bool false)))])
 (.seqL
 (.seq
 (.reg [Zf 5 0])
 (.block 0 (.loop b92_1))) c92_1))
theorem fd92:FnD Tryz.prog 92 18 [(.tmp 4)] c92:=⟨⟨Tryz.f92,Tryz.f92.body.getD .skip,Tryz.func92,by kernel_rfl,by kernel_rfl,by kernel_rfl,by kernel_rfl⟩⟩
def b94_1:ACode:=(.seq
 (.seq
 (.reg [Za 18 9,Zd 19 67 2 2,Zb 20 65 19,Za 21 6,Zk 22 65 20 21,Zd 23 124 22 0,Zb 24 122 23,Ze 25 24 122,Zn 26 .lss 3 18 25,Za 27 26,Zp 28 (.move (Zr 8)) 27 true,Zq 29 (.pick (Zr 27) (Zr 28) (.const (.bool false)))])
 (.cond (Zr 29) .skip (.exit 2)))
 (.seq
 (.block 3
 (.dreg
 (.tk 0 (Zd 33 67 2 2)
 (.tk 1 (Zb 34 65 33)
 (.tk 2 (Za 35 6)
 (.tk 3 (Zk 36 65 34 35)
 (.tk 4 (Zd 37 124 36 0)
 (.tk 5 (Zb 38 122 37)
 (.tk 6 (Za 39 9)
 (.tk 7 (Zk 40 122 38 39)
 (.tk 8 (Zb 41 126 40)
 (.tk 9 (Za 42 1)
 (.tk 10 (Za 43 9)
 (.tk 11 (Zk 44 26 42 43)
 (.tk 12 (Zb 45 28 44)
 (.tk 13 (Za 46 7)
 (.one [14,15,16,17,18,19] (Zo 47 131 #[Zr 41,Zr 45,Zr 46] #[126,28,175])
 (.tk 15 (Za 32 47)
 (.tk 16 (Zh 48 32 0)
 (.tk 17 (Zh 49 32 1)
 (.tk 18 (Zc 7 48) .fin))))))))))))))))))) [Zc 8 49]))
 (.reg [Za 30 9,Zm 31 .add 3 30 1,Zc 9 31])))
def ZnP:ACode:=(.seq
 (.reg [Za 50 8])
 (.cond (Zr 50)
 (.seq
 (.reg [Za 51 6,Za 52 7,Zc 4 51,Zc 5 52]) .ret) .skip))
def c94_2:ACode:=(.reg [Za 15 6,Zm 16 .add 3 15 1,Zc 6 16])
def b94_2:ACode:=(.seq
 (.seq
 (.reg [Za 10 6,Zd 11 67 2 2,Zb 12 65 11,Ze 13 12 65,Zn 14 .lss 3 10 13])
 (.cond (Zr 14) .skip (.exit 0)))
 (.seqL
 (.block 1
 (.seq
 (.reg [Zq 17 (.buildSlice 175 0 #[]),Zc 7 17])
 (.seq
 (.reg [Zq 8 (.assign (.const (.bool true)))])
 (.seqL
 (.seq
 (.reg [Zf 9 0])
 (.block 2 (.loop b94_1))) ZnP)))) c94_2))
def c94_3:ACode:=(.seq
 (.reg [Zq 4 (.assign (.const (.int .i64 (-1)))),Zq 5 (.assign (.const (.slice none 0 0)))]) .ret)
def c94:ACode:=(.seq
 (.reg [Zj 2 67 0,Zf 4 0,Zq 5 (.assign (.const (.slice none 0 0)))])
 (.seqL
 (.seq
 (.reg [Zf 6 0])
 (.block 0 (.loop b94_2))) c94_3))
theorem fd94:FnD Tryz.prog 94 53 [(.tmp 4),(.tmp 5)] c94:=⟨⟨Tryz.f94,Tryz.f94.body.getD .skip,Tryz.func94,by kernel_rfl,by kernel_rfl,by kernel_rfl,by kernel_rfl⟩⟩
def b97_1:ACode:=(.seq
 (.seq
 (.reg [Za 25 7,Zm 26 .geq 3 25 0])
 (.cond (Zr 26) .skip (.exit 0)))
 (.seq
 (.block 1
 (.seq
 (.seq
 (.dreg
 (.tk 0 (Za 29 1)
 (.tk 1 (Za 30 7)
 (.tk 2 (Zk 31 175 29 30)
 (.tk 3 (Zd 32 174 31 0)
 (.tk 4 (Zb 33 9 32)
 (.tk 5 (Zd 34 28 3 1)
 (.tk 6 (Zb 35 9 34) .fin))))))) [Zn 36 .eql 9 33 35,Za 37 36,Zp 38 (.move (Zr 2)) 37 true,Zq 39 (.pick (Zr 37) (Zr 38) (.const (.bool false)))])
 (.cond (Zr 39)
 (.seq
 (.reg [Za 40 1,Za 41 7,Zk 42 175 40 41,Zd 43 174 42 1,Zb 44 28 43,Zq 45 (.buildSlice 26 1 #[(0,(Zr 44))]),Zq 46 (.build 28 #[(0,(.const (.int .i64 9))),(2,(Zr 45))]),Zg 28 6 46]) .ret) .skip))
 (.seq
 (.dreg
 (.tk 0 (Za 47 1)
 (.tk 1 (Za 48 7)
 (.tk 2 (Zk 49 175 47 48)
 (.tk 3 (Zd 50 174 49 0)
 (.tk 4 (Zb 51 9 50)
 (.tk 5 (Zd 52 28 3 1)
 (.tk 6 (Zb 53 9 52) .fin))))))) [Zn 54 .eql 9 51 53])
 (.cond (Zr 54)
 (.seq
 (.reg [Za 55 1,Za 56 7,Zk 57 175 55 56,Zd 58 174 57 1,Zb 59 28 58,Zg 28 6 59]) .ret) .skip))))
 (.reg [Za 27 7,Zm 28 .sub 3 27 1,Zc 7 28])))
def b97_2:ACode:=(.seq
 (.seq
 (.reg [Za 64 9,Za 65 1,Ze 66 65 175,Zn 67 .lss 3 64 66])
 (.cond (Zr 67) .skip (.exit 2)))
 (.seq
 (.block 3
 (.seq
 (.dreg
 (.tk 0 (Za 70 1)
 (.tk 1 (Za 71 9)
 (.tk 2 (Zk 72 175 70 71)
 (.tk 3 (Zd 73 174 72 0)
 (.tk 4 (Zb 74 9 73)
 (.tk 5 (Zd 75 28 3 1)
 (.tk 6 (Zb 76 9 75) .fin))))))) [Zn 77 .neq 9 74 76])
 (.cond (Zr 77)
 (.reg [Za 78 8,Za 79 1,Za 80 9,Zk 81 175 79 80,Zb 82 174 81,Zq 83 (.buildSlice 175 1 #[(0,(Zr 82))]),Zl 84 78 83 175,Zc 8 84]) .skip)))
 (.reg [Za 68 9,Zm 69 .add 3 68 1,Zc 9 69])))
def c97_1:ACode:=(.reg [Za 85 8,Zc 1 85])
def b97_3:ACode:=(.seq
 (.seq
 (.reg [Za 91 11,Zd 92 28 3 2,Zb 93 26 92,Ze 94 93 26,Zn 95 .lss 3 91 94])
 (.cond (Zr 95) .skip (.exit 4)))
 (.seq
 (.block 5
 (.dreg
 (.tk 0 (Zd 98 28 10 2)
 (.tk 1 (Zb 99 26 98)
 (.tk 2 (Zd 100 28 3 2)
 (.tk 3 (Zb 101 26 100)
 (.tk 4 (Za 102 11)
 (.tk 5 (Zk 103 26 101 102)
 (.tk 6 (Zb 104 28 103)
 (.tk 7 (Za 105 1)
 (.tk 8 (Za 106 2)
 (.one [0,1,9,10,11,12,13] (Zo 107 97 #[Zr 104,Zr 105,Zr 106] #[28,175,4])
 (.tk 10 (Zq 108 (.buildSlice 26 1 #[(0,(Zr 107))])) .fin))))))))))) [Zl 109 99 108 26,Zd 110 28 10 2,Zg 26 110 109]))
 (.reg [Za 96 11,Zm 97 .add 3 96 1,Zc 11 97])))
def c97_2:ACode:=(.seq
 (.reg [Zb 111 28 10,Zg 28 6 111]) .ret)
def c97_3:ACode:=(.seq
 (.reg [Zd 86 28 3 0,Zb 87 3 86,Zd 88 28 3 1,Zb 89 9 88,Zq 90 (.build 28 #[(0,(Zr 87)),(1,(Zr 89))]),Zi 10 28,Zg 28 10 90])
 (.seqL
 (.seq
 (.reg [Zf 11 0])
 (.block 4 (.loop b97_3))) c97_2))
def ZnQ:ACode:=(.seqL
 (.seq
 (.reg [Zd 60 28 3 0,Zb 61 3 60,Zm 62 .eql 3 61 5])
 (.cond (Zr 62)
 (.seq
 (.reg [Zq 63 (.buildSlice 175 0 #[]),Zc 8 63])
 (.seqL
 (.seq
 (.reg [Zf 9 0])
 (.block 2 (.loop b97_2))) c97_1)) .skip)) c97_3)
def c97:ACode:=(.seq
 (.reg [Zj 3 28 0,Zi 6 28])
 (.seq
 (.seq
 (.reg [Za 12 2,Za 13 12,Zp 14 (.fieldAddr 28 (Zr 3) 0) 13 true,Zp 15 (.load 3 (Zr 14)) 13 true,Zp 16 (.binOp .eql 3 (Zr 15) (.const (.int .i64 9)) 3) 13 true,Zq 17 (.pick (Zr 13) (Zr 16) (.const (.bool false)))])
 (.cond (Zr 17)
 (.seq
 (.reg [Zb 18 28 3,Zg 28 6 18]) .ret) .skip))
 (.seqL
 (.seq
 (.reg [Zd 19 28 3 0,Zb 20 3 19,Zm 21 .eql 3 20 1])
 (.cond (Zr 21)
 (.seq
 (.reg [Za 22 1,Ze 23 22 175,Zm 24 .sub 3 23 1,Zc 7 24])
 (.block 0 (.loop b97_1))) .skip)) ZnQ)))
theorem fd97:FnD Tryz.prog 97 112 [(.cell 6 28)] c97:=⟨⟨Tryz.f97,Tryz.f97.body.getD .skip,Tryz.func97,by kernel_rfl,by kernel_rfl,by kernel_rfl,by kernel_rfl⟩⟩
def b98_1:ACode:=(.seq
 (.reg [Zn 12 .lss 3 11 10])
 (.seq
 (.cond (Zr 12) .skip (.exit 0))
 (.seq
 (.block 1
 (.seq
 (.reg [Zk 13 231 9 11,Zb 14 33 13,Zc 5 14])
 (.seq
 (.reg [Za 15 3,Za 16 5,Ze 17 16 33,Zn 18 .add 3 15 17,Zc 3 18])
 (.seq
 (.reg [Za 19 3,Zm 20 .lss 3 19 0])
 (.cond (Zr 20)
 (.reg [Zq 21 (.makeInterface 9 (.const (.string { data:=#[108,101,110,32,111,117,116,32,111,102,32,114,97,110,103,101] }))),⟨none,(.panic (Zr 21)),none⟩]) .skip)))))
 (.reg [Zm 22 .add 3 11 1,Za 11 22]))))
def b98_2:ACode:=(.seq
 (.reg [Zn 28 .lss 3 27 26])
 (.seq
 (.cond (Zr 28) .skip (.exit 2))
 (.seq
 (.block 3
 (.seq
 (.reg [Zk 29 231 25 27,Zb 30 33 29,Zc 8 30])
 (.reg [Za 31 6,Za 32 8,Zl 33 31 32 33,Zc 6 33])))
 (.reg [Zm 34 .add 3 27 1,Za 27 34]))))
def c98_1:ACode:=(.seq
 (.reg [Za 35 6,Zc 2 35]) .ret)
def c98_2:ACode:=(.seq
 (.reg [Za 23 3,Zo 24 132 #[(.const (.slice none 0 0)),Zr 23] #[33,3],Zc 6 24])
 (.seqL
 (.seq
 (.reg [Za 25 0,Ze 26 25 231,Zq 27 (.move (.const (.int .i64 0)))])
 (.block 2 (.loop b98_2))) c98_1))
def c98:ACode:=(.seq
 (.reg [Zq 2 (.assign (.const (.slice none 0 0)))])
 (.seq
 (.reg [Zf 3 0])
 (.seqL
 (.seq
 (.reg [Za 9 0,Ze 10 9 231,Zq 11 (.move (.const (.int .i64 0)))])
 (.block 0 (.loop b98_1))) c98_2)))
theorem fd98:FnD Tryz.prog 98 36 [(.tmp 2)] c98:=⟨⟨Tryz.f98,Tryz.f98.body.getD .skip,Tryz.func98,by kernel_rfl,by kernel_rfl,by kernel_rfl,by kernel_rfl⟩⟩
def c99:ACode:=(.seq
 (.reg [Zj 1 166 0,Zq 2 (.assign (.const .nilFunc))])
 (.seq
 (.reg [Zq 3 (.makeFunc (.func 133) #[] #[Zr 1]),Zc 2 3]) .ret))
theorem fd99:FnD Tryz.prog 99 4 [(.tmp 2)] c99:=⟨⟨Tryz.f99,Tryz.f99.body.getD .skip,Tryz.func99,by kernel_rfl,by kernel_rfl,by kernel_rfl,by kernel_rfl⟩⟩
def b100_1:ACode:=(.seq
 (.seq
 (.reg [Za 16 6,Za 17 0,Ze 18 17 166,Zn 19 .lss 3 16 18])
 (.cond (Zr 19) .skip (.exit 0)))
 (.seq
 (.block 1
 (.seq
 (.reg [Za 22 0,Za 23 6,Zk 24 166 22 23,Zb 25 165 24,Zi 7 165,Zg 165 7 25])
 (.seq
 (.reg [Za 26 1,Zb 27 165 7,Zq 28 (.call { callee:=(.value (Zr 26)),args:=#[Zr 27],argTypes:=#[165] }),Zq 29 (.unOp .not 4 (Zr 28))])
 (.cond (Zr 29)
 (.seq
 (.reg [Za 30 0,Za 31 5,Zb 32 165 7,Zk 33 166 30 31,Zg 165 33 32])
 (.reg [Za 34 5,Zm 35 .add 3 34 1,Zc 5 35])) .skip))))
 (.reg [Za 20 6,Zm 21 .add 3 20 1,Zc 6 21])))
def c100_1:ACode:=(.seq
 (.reg [Za 36 0,Za 37 5,Zq 38 (.slice 166 (Zr 36) (some (Zr 37)) none none),⟨none,(.call { callee:=(.builtin .clear),args:=#[Zr 38],argTypes:=#[166] }),none⟩])
 (.seq
 (.reg [Za 39 0,Za 40 5,Zq 41 (.slice 166 (Zr 39) none (some (Zr 40)) none),Zc 4 41]) .ret))
def c100:ACode:=(.seq
 (.reg [Zq 4 (.assign (.const (.slice none 0 0)))])
 (.seq
 (.reg [Za 8 0,Za 9 1,Zo 10 134 #[Zr 8,Zr 9] #[166,205],Zc 5 10])
 (.seq
 (.seq
 (.reg [Za 11 5,Zq 12 (.binOp .eql 3 (Zr 11) (.const (.int .i64 (-1))) 3)])
 (.cond (Zr 12)
 (.seq
 (.reg [Za 13 0,Zc 4 13]) .ret) .skip))
 (.seqL
 (.seq
 (.reg [Za 14 5,Zm 15 .add 3 14 1,Zc 6 15])
 (.block 0 (.loop b100_1))) c100_1))))
theorem fd100:FnD Tryz.prog 100 42 [(.tmp 4)] c100:=⟨⟨Tryz.f100,Tryz.f100.body.getD .skip,Tryz.func100,by kernel_rfl,by kernel_rfl,by kernel_rfl,by kernel_rfl⟩⟩
def c101:ACode:=(.seq
 (.reg [Zq 2 (.assign (.const (.slice none 0 0)))])
 (.seq
 (.seq
 (.reg [Za 3 0,Zq 4 (.binOp .eql 166 (Zr 3) (.const (.slice none 0 0)) 166)])
 (.cond (Zr 4)
 (.seq
 (.reg [Zq 2 (.assign (.const (.slice none 0 0)))]) .ret) .skip))
 (.seq
 (.reg [Zq 5 (.buildSlice 166 0 #[]),Za 6 0,Zl 7 5 6 166,Zc 2 7]) .ret)))
theorem fd101:FnD Tryz.prog 101 8 [(.tmp 2)] c101:=⟨⟨Tryz.f101,Tryz.f101.body.getD .skip,Tryz.func101,by kernel_rfl,by kernel_rfl,by kernel_rfl,by kernel_rfl⟩⟩
def c102:ACode:=(.seq
 (.reg [Zj 2 165 0,Zq 3 (.assign (.const (.bool false)))])
 (.seq
 (.reg [Zd 4 165 2 0,Zb 5 9 4,Zd 6 35 1 1,Zb 7 9 6,Zn 8 .eql 9 5 7,Zc 3 8]) .ret))
theorem fd102:FnD Tryz.prog 102 9 [(.tmp 3)] c102:=⟨⟨Tryz.f102,Tryz.f102.body.getD .skip,Tryz.func102,by kernel_rfl,by kernel_rfl,by kernel_rfl,by kernel_rfl⟩⟩
def b103_1:ACode:=(.seq
 (.reg [Zn 10 .lss 3 9 8])
 (.seq
 (.cond (Zr 10) .skip (.exit 0))
 (.seq
 (.block 1
 (.seq
 (.reg [Zk 11 181 7 9,Zb 12 9 11,Zc 5 12])
 (.seq
 (.seq
 (.reg [Za 13 3,Za 14 5,Zq 15 (.lookup 235 (Zr 13) (Zr 14) false)])
 (.cond (Zr 15)
 (.seq
 (.reg [Zq 2 (.assign (.const (.bool true)))]) .ret) .skip))
 (.reg [Za 16 3,Za 17 5,⟨none,(.mapUpdate 235 (Zr 16) (Zr 17) (.const (.bool true))),none⟩]))))
 (.reg [Zm 18 .add 3 9 1,Za 9 18]))))
def c103_1:ACode:=(.seq
 (.reg [Zq 2 (.assign (.const (.bool false)))]) .ret)
def c103:ACode:=(.seq
 (.reg [Zq 2 (.assign (.const (.bool false)))])
 (.seq
 (.reg [Zq 6 (.makeMap 235 none),Zc 3 6])
 (.seqL
 (.seq
 (.reg [Za 7 0,Ze 8 7 181,Zq 9 (.move (.const (.int .i64 0)))])
 (.block 0 (.loop b103_1))) c103_1)))
theorem fd103:FnD Tryz.prog 103 19 [(.tmp 2)] c103:=⟨⟨Tryz.f103,Tryz.f103.body.getD .skip,Tryz.func103,by kernel_rfl,by kernel_rfl,by kernel_rfl,by kernel_rfl⟩⟩
def b104_1:ACode:=(.seq
 (.reg [Zn 9 .lss 3 8 7])
 (.seq
 (.cond (Zr 9) .skip (.exit 0))
 (.seq
 (.block 1
 (.seq
 (.reg [Zk 10 72 6 8,Zb 11 74 10,Zi 5 74,Zg 74 5 11])
 (.seq
 (.reg [Zd 12 74 5 0,Zb 13 4 12])
 (.cond (Zr 13)
 (.reg [Za 14 3,Zd 15 74 5 2,Zb 16 72 15,Zo 17 104 #[Zr 16] #[72],Zl 18 14 17 181,Zc 3 18])
 (.reg [Za 19 3,Zd 20 74 5 1,Zb 21 9 20,Zq 22 (.buildSlice 181 1 #[(0,(Zr 21))]),Zl 23 19 22 181,Zc 3 23])))))
 (.reg [Zm 24 .add 3 8 1,Za 8 24]))))
def c104_1:ACode:=(.seq
 (.reg [Za 25 3,Zc 2 25]) .ret)
def c104:ACode:=(.seq
 (.reg [Zq 2 (.assign (.const (.slice none 0 0)))])
 (.seq
 (.reg [Zq 3 (.assign (.const (.slice none 0 0)))])
 (.seqL
 (.seq
 (.reg [Za 6 0,Ze 7 6 72,Zq 8 (.move (.const (.int .i64 0)))])
 (.block 0 (.loop b104_1))) c104_1)))
theorem fd104:FnD Tryz.prog 104 26 [(.tmp 2)] c104:=⟨⟨Tryz.f104,Tryz.f104.body.getD .skip,Tryz.func104,by kernel_rfl,by kernel_rfl,by kernel_rfl,by kernel_rfl⟩⟩
def Zjv:ACode:=(.seq
 (.seq
 (.reg [Za 45 9,Zd 46 74 3 2,Zb 47 72 46,Ze 48 47 72,Zn 49 .lss 3 45 48,Za 50 49,Zp 51 (.move (Zr 8)) 50 true,Zq 52 (.pick (Zr 50) (Zr 51) (.const (.bool false)))])
 (.cond (Zr 52) .skip (.exit 0)))
 (.seq
 (.block 1
 (.dreg
 (.tk 0 (Zd 56 74 3 2)
 (.tk 1 (Zb 57 72 56)
 (.tk 2 (Za 58 9)
 (.tk 3 (Zk 59 72 57 58)
 (.tk 4 (Zb 60 74 59)
 (.tk 5 (Zd 61 35 4 2)
 (.tk 6 (Zb 62 33 61)
 (.tk 7 (Za 63 9)
 (.tk 8 (Zk 64 33 62 63)
 (.tk 9 (Zb 65 35 64)
 (.tk 10 (Za 66 2)
 (.one [11,12,13,14,15,16] (Zo 67 105 #[Zr 60,Zr 65,Zr 66] #[74,35,166])
 (.tk 12 (Za 55 67)
 (.tk 13 (Zh 68 55 0)
 (.tk 14 (Zh 69 55 1)
 (.tk 15 (Zc 2 68) .fin)))))))))))))))) [Zc 8 69]))
 (.reg [Za 53 9,Zm 54 .add 3 53 1,Zc 9 54])))
def ZhF:ACode:=(.seq
 (.reg [Za 70 2,Za 71 8,Zc 6 70,Zc 7 71]) .ret)
def c105:ACode:=(.seq
 (.reg [Zj 3 74 0,Zj 4 35 1,Zq 6 (.assign (.const (.slice none 0 0))),Zq 7 (.assign (.const (.bool false)))])
 (.seq
 (.seq
 (.reg [Zd 10 74 3 0,Zb 11 4 10,Zq 12 (.unOp .not 4 (Zr 11))])
 (.cond (Zr 12)
 (.seq
 (.dreg
 (.tk 0 (Za 13 2)
 (.tk 1 (Za 14 2)
 (.tk 2 (Ze 15 14 166)
 (.tk 3 (Za 16 2)
 (.tk 4 (Ze 17 16 166)
 (.tk 5 (Zq 18 (.slice 166 (Zr 13) none (some (Zr 15)) (some (Zr 17))))
 (.tk 6 (Zd 19 74 3 1)
 (.tk 7 (Zb 20 9 19)
 (.tk 8 (Zb 21 35 4)
 (.one [0,1,2,3,4,5,6,7,9,10,11,12,13,14] (Zo 22 38 #[Zr 21] #[35])
 (.tk 10 (Zq 23 (.build 165 #[(0,(Zr 20)),(1,(Zr 22))]))
 (.tk 11 (Zq 24 (.buildSlice 166 1 #[(0,(Zr 23))])) .fin)))))))))))) [Zl 25 18 24 166,Zc 6 25,Zq 7 (.assign (.const (.bool true)))]) .ret) .skip))
 (.seq
 (.reg [Zd 26 35 4 0,Zb 27 3 26,Zm 28 .eql 3 27 3,Za 29 28,Zp 30 (.fieldAddr 35 (Zr 4) 1) 29 true,Zp 31 (.load 9 (Zr 30)) 29 true,Zp 32 (.fieldAddr 74 (Zr 3) 1) 29 true,Zp 33 (.load 9 (Zr 32)) 29 true,Zp 34 (.binOp .eql 9 (Zr 31) (Zr 33) 9) 29 true,Zq 35 (.pick (Zr 29) (Zr 34) (.const (.bool false))),Za 36 35,Zp 37 (.fieldAddr 35 (Zr 4) 2) 36 true,Zp 38 (.load 33 (Zr 37)) 36 true,Zp 39 (.call { callee:=(.builtin .len),args:=#[Zr 38],argTypes:=#[33] }) 36 true,Zp 40 (.fieldAddr 74 (Zr 3) 2) 36 true,Zp 41 (.load 72 (Zr 40)) 36 true,Zp 42 (.call { callee:=(.builtin .len),args:=#[Zr 41],argTypes:=#[72] }) 36 true,Zp 43 (.binOp .eql 3 (Zr 39) (Zr 42) 3) 36 true,Zq 44 (.pick (Zr 36) (Zr 43) (.const (.bool false))),Zc 8 44])
 (.seqL
 (.seq
 (.reg [Zf 9 0])
 (.block 0 (.loop Zjv))) ZhF))))
theorem fd105:FnD Tryz.prog 105 72 [(.tmp 6),(.tmp 7)] c105:=⟨⟨Tryz.f105,Tryz.f105.body.getD .skip,Tryz.func105,by kernel_rfl,by kernel_rfl,by kernel_rfl,by kernel_rfl⟩⟩
def b106_1:ACode:=(.seq
 (.seq
 (.reg [Za 12 4,Zd 13 126 1 2,Zb 14 122 13,Ze 15 14 122,Zn 16 .lss 3 12 15])
 (.cond (Zr 16) .skip (.exit 0)))
 (.seq
 (.block 1
 (.reg [Za 19 3,Zd 20 126 1 2,Zb 21 122 20,Za 22 4,Zk 23 122 21 22,Zb 24 126 23,Zo 25 106 #[Zr 24] #[126],Zl 26 19 25 181,Zc 3 26]))
 (.reg [Za 17 4,Zm 18 .add 3 17 1,Zc 4 18])))
def c106_1:ACode:=(.seq
 (.reg [Za 27 3,Zc 2 27]) .ret)
def c106:ACode:=(.seq
 (.reg [Zj 1 126 0,Zq 2 (.assign (.const (.slice none 0 0)))])
 (.seq
 (.seq
 (.reg [Zd 5 126 1 0,Zb 6 4 5,Zq 7 (.unOp .not 4 (Zr 6))])
 (.cond (Zr 7)
 (.seq
 (.reg [Zd 8 126 1 1,Zb 9 9 8,Zq 10 (.buildSlice 181 1 #[(0,(Zr 9))]),Zc 2 10]) .ret) .skip))
 (.seq
 (.reg [Zq 11 (.buildSlice 181 0 #[]),Zc 3 11])
 (.seqL
 (.seq
 (.reg [Zf 4 0])
 (.block 0 (.loop b106_1))) c106_1))))
theorem fd106:FnD Tryz.prog 106 28 [(.tmp 2)] c106:=⟨⟨Tryz.f106,Tryz.f106.body.getD .skip,Tryz.func106,by kernel_rfl,by kernel_rfl,by kernel_rfl,by kernel_rfl⟩⟩
def b107_1:ACode:=(.seq
 (.seq
 (.reg [Za 4 3,Za 5 0,Ze 6 5 181,Zn 7 .lss 3 4 6])
 (.cond (Zr 7) .skip (.exit 0)))
 (.seq
 (.block 1
 (.seq
 (.dreg
 (.tk 0 (Za 10 0)
 (.tk 1 (Za 11 3)
 (.tk 2 (Zq 12 (.slice 181 (Zr 10) none (some (Zr 11)) none))
 (.tk 3 (Za 13 0)
 (.tk 4 (Za 14 3)
 (.tk 5 (Zk 15 181 13 14)
 (.tk 6 (Zb 16 9 15) .fin))))))) [Zo 17 92 #[Zr 12,Zr 16] #[181,9]])
 (.cond (Zr 17)
 (.seq
 (.reg [Zq 2 (.assign (.const (.bool true)))]) .ret) .skip)))
 (.reg [Za 8 3,Zm 9 .add 3 8 1,Zc 3 9])))
def c107_1:ACode:=(.seq
 (.reg [Zq 2 (.assign (.const (.bool false)))]) .ret)
def c107:ACode:=(.seq
 (.reg [Zq 2 (.assign (.const (.bool false)))])
 (.seqL
 (.seq
 (.reg [Zf 3 0])
 (.block 0 (.loop b107_1))) c107_1))
theorem fd107:FnD Tryz.prog 107 18 [(.tmp 2)] c107:=⟨⟨Tryz.f107,Tryz.f107.body.getD .skip,Tryz.func107,by kernel_rfl,by kernel_rfl,by kernel_rfl,by kernel_rfl⟩⟩
def c108:ACode:=(.seq
 (.reg [Zq 2 (.assign (.const (.bool false)))])
 (.seq
 (.reg [Za 3 0,Zq 4 (.binOp .geq 5 (Zr 3) (.const (.int .u8 97)) 5),Za 5 4,Zp 6 (.move (Zr 0)) 5 true,Zp 7 (.binOp .leq 5 (Zr 6) (.const (.int .u8 122)) 5) 5 true,Zq 8 (.pick (Zr 5) (Zr 7) (.const (.bool false))),Za 9 8,Zp 10 (.move (Zr 0)) 9 false,Zp 11 (.binOp .geq 5 (Zr 10) (.const (.int .u8 65)) 5) 9 false,Zp 12 (.move (Zr 11)) 9 false,Zp 13 (.move (Zr 0)) 12 true,Zp 14 (.binOp .leq 5 (Zr 13) (.const (.int .u8 90)) 5) 12 true,Zp 15 (.pick (Zr 12) (Zr 14) (.const (.bool false))) 9 false,Zq 16 (.pick (Zr 9) (.const (.bool true)) (Zr 15)),Zc 2 16]) .ret))
theorem fd108:FnD Tryz.prog 108 17 [(.tmp 2)] c108:=⟨⟨Tryz.f108,Tryz.f108.body.getD .skip,Tryz.func108,by kernel_rfl,by kernel_rfl,by kernel_rfl,by kernel_rfl⟩⟩
def c109:ACode:=(.seq
 (.reg [Zq 4 (.assign (.const (.bool false)))])
 (.seq
 (.reg [Za 5 0,Za 6 1,Zo 7 135 #[Zr 5,Zr 6] #[213,211],Zm 8 .geq 3 7 0,Zc 4 8]) .ret))
theorem fd109:FnD Tryz.prog 109 9 [(.tmp 4)] c109:=⟨⟨Tryz.f109,Tryz.f109.body.getD .skip,Tryz.func109,by kernel_rfl,by kernel_rfl,by kernel_rfl,by kernel_rfl⟩⟩
def c110:ACode:=(.seq
 (.reg [Zq 2 (.assign (.const (.bool false)))])
 (.seq
 (.reg [Za 3 0,Zo 4 108 #[Zr 3] #[5],Zq 5 (.unOp .not 4 (Zr 4)),Za 6 5,Zp 7 (.move (Zr 0)) 6 true,Zp 8 (.call { callee:=(.value (.func 111)),args:=#[Zr 7],argTypes:=#[5] }) 6 true,Zp 9 (.unOp .not 4 (Zr 8)) 6 true,Zq 10 (.pick (Zr 6) (Zr 9) (.const (.bool false))),Za 11 10,Zp 12 (.move (Zr 0)) 11 true,Zp 13 (.binOp .neq 5 (Zr 12) (.const (.int .u8 95)) 5) 11 true,Zq 14 (.pick (Zr 11) (Zr 13) (.const (.bool false))),Za 15 14,Zp 16 (.move (Zr 0)) 15 true,Zp 17 (.binOp .neq 5 (Zr 16) (.const (.int .u8 39)) 5) 15 true,Zq 18 (.pick (Zr 15) (Zr 17) (.const (.bool false))),Za 19 18,Zp 20 (.move (Zr 0)) 19 true,Zp 21 (.binOp .neq 5 (Zr 20) (.const (.int .u8 46)) 5) 19 true,Zq 22 (.pick (Zr 19) (Zr 21) (.const (.bool false))),Zc 2 22]) .ret))
theorem fd110:FnD Tryz.prog 110 23 [(.tmp 2)] c110:=⟨⟨Tryz.f110,Tryz.f110.body.getD .skip,Tryz.func110,by kernel_rfl,by kernel_rfl,by kernel_rfl,by kernel_rfl⟩⟩
def c111:ACode:=(.seq
 (.reg [Zq 2 (.assign (.const (.bool false)))])
 (.seq
 (.reg [Za 3 0,Zq 4 (.binOp .geq 5 (Zr 3) (.const (.int .u8 48)) 5),Za 5 4,Zp 6 (.move (Zr 0)) 5 true,Zp 7 (.binOp .leq 5 (Zr 6) (.const (.int .u8 57)) 5) 5 true,Zq 8 (.pick (Zr 5) (Zr 7) (.const (.bool false))),Zc 2 8]) .ret))
theorem fd111:FnD Tryz.prog 111 9 [(.tmp 2)] c111:=⟨⟨Tryz.f111,Tryz.f111.body.getD .skip,Tryz.func111,by kernel_rfl,by kernel_rfl,by kernel_rfl,by kernel_rfl⟩⟩
def b112_1:ACode:=(.seq
 (.reg [Zn 9 .lss 3 8 7])
 (.seq
 (.cond (Zr 9) .skip (.exit 0))
 (.seq
 (.block 1
 (.seq
 (.reg [Za 10 8,Zc 5 10])
 (.seq
 (.reg [Za 11 1,Za 12 0,Za 13 5,Zk 14 41 12 13,Zb 15 76 14,Zq 16 (.call { callee:=(.value (Zr 11)),args:=#[Zr 15],argTypes:=#[76] })])
 (.cond (Zr 16)
 (.seq
 (.reg [Za 17 5,Zc 4 17]) .ret) .skip))))
 (.reg [Zm 18 .add 3 8 1,Za 8 18]))))
def c112_1:ACode:=(.seq
 (.reg [Zq 4 (.assign (.const (.int .i64 (-1))))]) .ret)
def c112:ACode:=(.seq
 (.reg [Zf 4 0])
 (.seqL
 (.seq
 (.reg [Za 6 0,Ze 7 6 41,Zq 8 (.move (.const (.int .i64 0)))])
 (.block 0 (.loop b112_1))) c112_1))
theorem fd112:FnD Tryz.prog 112 19 [(.tmp 4)] c112:=⟨⟨Tryz.f112,Tryz.f112.body.getD .skip,Tryz.func112,by kernel_rfl,by kernel_rfl,by kernel_rfl,by kernel_rfl⟩⟩
def c113:ACode:=(.seq
 (.reg [Zj 2 76 0,Zq 3 (.assign (.const (.bool false)))])
 (.seq
 (.reg [Zd 4 76 2 0,Zb 5 9 4,Zb 6 9 1,Zn 7 .eql 9 5 6,Zc 3 7]) .ret))
theorem fd113:FnD Tryz.prog 113 8 [(.tmp 3)] c113:=⟨⟨Tryz.f113,Tryz.f113.body.getD .skip,Tryz.func113,by kernel_rfl,by kernel_rfl,by kernel_rfl,by kernel_rfl⟩⟩
def b114_1:ACode:=(.seq
 (.reg [Zn 9 .lss 3 8 7])
 (.seq
 (.cond (Zr 9) .skip (.exit 0))
 (.seq
 (.block 1
 (.seq
 (.reg [Za 10 8,Zc 5 10])
 (.seq
 (.reg [Za 11 1,Za 12 0,Za 13 5,Zk 14 42 12 13,Zb 15 81 14,Zq 16 (.call { callee:=(.value (Zr 11)),args:=#[Zr 15],argTypes:=#[81] })])
 (.cond (Zr 16)
 (.seq
 (.reg [Za 17 5,Zc 4 17]) .ret) .skip))))
 (.reg [Zm 18 .add 3 8 1,Za 8 18]))))
def c114_1:ACode:=(.seq
 (.reg [Zq 4 (.assign (.const (.int .i64 (-1))))]) .ret)
def c114:ACode:=(.seq
 (.reg [Zf 4 0])
 (.seqL
 (.seq
 (.reg [Za 6 0,Ze 7 6 42,Zq 8 (.move (.const (.int .i64 0)))])
 (.block 0 (.loop b114_1))) c114_1))
theorem fd114:FnD Tryz.prog 114 19 [(.tmp 4)] c114:=⟨⟨Tryz.f114,Tryz.f114.body.getD .skip,Tryz.func114,by kernel_rfl,by kernel_rfl,by kernel_rfl,by kernel_rfl⟩⟩
def c115:ACode:=(.seq
 (.reg [Zj 2 81 0,Zq 3 (.assign (.const (.bool false)))])
 (.seq
 (.reg [Zd 4 81 2 0,Zb 5 9 4,Zb 6 9 1,Zn 7 .eql 9 5 6,Zc 3 7]) .ret))
theorem fd115:FnD Tryz.prog 115 8 [(.tmp 3)] c115:=⟨⟨Tryz.f115,Tryz.f115.body.getD .skip,Tryz.func115,by kernel_rfl,by kernel_rfl,by kernel_rfl,by kernel_rfl⟩⟩
def ZlO:ACode:=(.seq
 (.reg [⟨none,(.store 38 (Zr 4) (.const (.int .i64 0))),none⟩]) .ret)
def Zjw:ACode:=(.seq
 (.block 2
 (.seq
 (.reg [Zb 21 3 5,Zm 22 .gtr 3 21 100,Zc 20 22])
 (.cond (Zr 20)
 (.seq
 (.reg [⟨none,(.store 38 (Zr 4) (.const (.int .i64 7))),none⟩]) .ret)
 (.seq
 (.reg [Zb 24 3 6,Zm 25 .gtr 3 24 50,Zc 23 25])
 (.cond (Zr 23)
 (.seq
 (.reg [⟨none,(.store 38 (Zr 4) (.const (.int .i64 6))),none⟩]) .ret) .skip)))))
 (.seqL
 (.seq
 (.reg [Zb 26 74 2,Zo 27 136 #[Zr 26] #[74]])
 (.block 3 (.rfunc (Zr 27) #[28]
 (.reg [Zi 8 241,Zg 241 8 28])
 (.block 4
 (.seq
 (.reg [Zb 29 41 3,Zd 30 241 8 0,Zd 31 74 30 1,Zb 32 9 31,Zo 33 78 #[Zr 29,Zr 32] #[41,9],Zc 9 33])
 (.block 5
 (.seq
 (.reg [Zd 35 241 8 0,Zd 36 74 35 1,Zb 37 9 36,Zo 38 77 #[Zr 37] #[9],Zq 39 (.unOp .not 4 (Zr 38)),Za 40 39,Zp 41 (.fieldAddr 241 (Zr 8) 0) 40 false,Zp 42 (.load 74 (Zr 41)) 40 false,Zp 43 (.call { callee:=(.value (.func 137)),args:=#[Zr 42],argTypes:=#[74] }) 40 false,Zp 44 (.move (Zr 43)) 40 false,Zp 45 (.fieldAddr 241 (Zr 8) 0) 44 true,Zp 46 (.fieldAddr 74 (Zr 45) 2) 44 true,Zp 47 (.load 72 (Zr 46)) 44 true,Zp 48 (.call { callee:=(.builtin .len),args:=#[Zr 47],argTypes:=#[72] }) 44 true,Zp 49 (.binOp .gtr 3 (Zr 48) (.const (.int .i64 0)) 3) 44 true,Zp 50 (.pick (Zr 44) (Zr 49) (.const (.bool false))) 40 false,Zq 51 (.pick (Zr 40) (.const (.bool true)) (Zr 50)),Zc 34 51])
 (.cond (Zr 34)
 (.seq
 (.reg [⟨none,(.store 38 (Zr 4) (.const (.int .i64 411))),none⟩]) .ret)
 (.seq
 (.reg [Zd 53 241 8 0,Zb 54 74 53,Zo 55 138 #[Zr 54] #[74],Za 56 55,Zp 57 (.move (Zr 9)) 56 true,Zp 58 (.binOp .lss 3 (Zr 57) (.const (.int .i64 0)) 3) 56 true,Zq 59 (.pick (Zr 56) (Zr 58) (.const (.bool false))),Zc 52 59])
 (.cond (Zr 52)
 (.seq
 (.reg [⟨none,(.store 38 (Zr 4) (.const (.int .i64 9))),none⟩]) .ret)
 (.seq
 (.dreg
 (.tk 0 (Zd 61 241 8 0)
 (.tk 1 (Zb 62 74 61)
 (.one [2,3,4,5,6,7,8,9,10,11,12,13,14,15] (Zo 63 138 #[Zr 62] #[74])
 (.tk 3 (Za 64 63)
 (.tk 4 (Zp 65 (.fieldAddr 241 (Zr 8) 0) 64 true)
 (.tk 5 (Zp 66 (.fieldAddr 74 (Zr 65) 2) 64 true)
 (.tk 6 (Zp 67 (.load 72 (Zr 66)) 64 true)
 (.tk 7 (Zp 68 (.call { callee:=(.builtin .len),args:=#[Zr 67],argTypes:=#[72] }) 64 true)
 (.tk 8 (Zp 69 (.load 41 (Zr 3)) 64 true)
 (.tk 9 (Zp 70 (.move (Zr 9)) 64 true)
 (.tk 10 (Zp 71 (.indexAddr 41 (Zr 69) (Zr 70)) 64 true)
 (.tk 11 (Zp 72 (.fieldAddr 76 (Zr 71) 1) 64 true)
 (.tk 12 (Zp 73 (.load 3 (Zr 72)) 64 true) .fin))))))))))))) [Zp 74 (.binOp .neq 3 (Zr 68) (Zr 73) 3) 64 true,Zq 75 (.pick (Zr 64) (Zr 74) (.const (.bool false))),Zc 60 75])
 (.cond (Zr 60)
 (.seq
 (.reg [⟨none,(.store 38 (Zr 4) (.const (.int .i64 5))),none⟩]) .ret) .skip)))))))))))) ZlO))
def c116:ACode:=(.seq
 (.reg [Zj 2 74 0,Zj 3 41 1,Zi 4 38])
 (.seq
 (.reg [Zi 5 3,Zi 6 3,⟨none,(.store 3 (Zr 5) (.const (.int .i64 0))),none⟩,⟨none,(.store 3 (Zr 6) (.const (.int .i64 0))),none⟩])
 (.seqL
 (.seq
 (.reg [Zb 10 74 2,Zo 11 136 #[Zr 10] #[74]])
 (.block 0 (.rfunc (Zr 11) #[12]
 (.reg [Zi 7 241,Zg 241 7 12])
 (.block 1
 (.dreg
 (.tk 0 (Zb 13 3 5)
 (.tk 1 (Zm 14 .add 3 13 1)
 (.tk 2 (Zb 15 3 6)
 (.tk 3 (Zd 16 241 7 1)
 (.tk 4 (Zb 17 3 16)
 (.tk 5 (Zm 18 .add 3 17 1)
 (.tk 6 (Zq 19 (.call { callee:=(.builtin .max),args:=#[Zr 15,Zr 18],argTypes:=#[3,3] }))
 (.one [2,3,4,5,6,7,8] (Zg 3 5 14) .fin)))))))) [Zg 3 6 19]))))) Zjw)))
theorem fd116:FnD Tryz.prog 116 76 [(.cell 4 38)] c116:=⟨⟨Tryz.f116,Tryz.f116.body.getD .skip,Tryz.func116,by kernel_rfl,by kernel_rfl,by kernel_rfl,by kernel_rfl⟩⟩
def ZlP:ACode:=(.reg [Zm 25 .add 3 9 1,Za 9 25])
def b117_1:ACode:=(.seq
 (.reg [Zn 10 .lss 3 9 8])
 (.seq
 (.cond (Zr 10) .skip (.exit 0))
 (.seqL
 (.block 1
 (.seq
 (.reg [Zk 11 72 7 9,Zb 12 74 11,Zi 5 74,Zg 74 5 12])
 (.seq
 (.reg [Zb 13 74 5,Zo 14 136 #[Zr 13] #[74]])
 (.block 2 (.rfunc (Zr 14) #[15]
 (.reg [Zi 6 241,Zg 241 6 15])
 (.block 3
 (.seq
 (.reg [Zd 16 241 6 0,Zb 17 74 16,Zo 18 137 #[Zr 17] #[74]])
 (.cond (Zr 18)
 (.reg [Zb 19 181 3,Zd 20 241 6 0,Zd 21 74 20 1,Zb 22 9 21,Zq 23 (.buildSlice 181 1 #[(0,(Zr 22))]),Zl 24 19 23 181,Zg 181 3 24]) .skip)))))))) ZlP)))
def c117_2:ACode:=(.seq
 (.reg [Zb 26 181 3,Zc 2 26]) .ret)
def c117:ACode:=(.seq
 (.reg [Zq 2 (.assign (.const (.slice none 0 0)))])
 (.seq
 (.reg [Zi 3 181])
 (.seqL
 (.seq
 (.reg [Za 7 0,Ze 8 7 72,Zq 9 (.move (.const (.int .i64 0)))])
 (.block 0 (.loop b117_1))) c117_2)))
theorem fd117:FnD Tryz.prog 117 27 [(.tmp 2)] c117:=⟨⟨Tryz.f117,Tryz.f117.body.getD .skip,Tryz.func117,by kernel_rfl,by kernel_rfl,by kernel_rfl,by kernel_rfl⟩⟩
def b118_1:ACode:=(.seq
 (.reg [Zn 12 .lss 3 11 10])
 (.seq
 (.cond (Zr 12) .skip (.exit 0))
 (.seq
 (.block 1
 (.seq
 (.reg [Zk 13 33 9 11,Zb 14 35 13,Zi 5 35,Zg 35 5 14])
 (.seq
 (.reg [Zb 16 35 5,Zo 17 118 #[Zr 16] #[35],Za 15 17,Zh 18 15 0,Zh 19 15 1,Zc 6 18,Zc 7 19])
 (.reg [Za 20 2,Za 21 6,Zn 22 .add 3 20 21,Za 23 3,Za 24 7,Zq 25 (.call { callee:=(.builtin .max),args:=#[Zr 23,Zr 24],argTypes:=#[3,3] }),Zc 2 22,Zc 3 25]))))
 (.reg [Zm 26 .add 3 11 1,Za 11 26]))))
def c118_1:ACode:=(.seq
 (.reg [Za 27 2,Za 28 3,Zm 29 .add 3 28 1,Zc 2 27,Zc 3 29]) .ret)
def c118:ACode:=(.seq
 (.reg [Zj 1 35 0,Zf 2 0,Zf 3 0])
 (.seq
 (.reg [Zf 2 1])
 (.seqL
 (.seq
 (.reg [Zd 8 35 1 2,Zb 9 33 8,Ze 10 9 33,Zq 11 (.move (.const (.int .i64 0)))])
 (.block 0 (.loop b118_1))) c118_1)))
theorem fd118:FnD Tryz.prog 118 30 [(.tmp 2),(.tmp 3)] c118:=⟨⟨Tryz.f118,Tryz.f118.body.getD .skip,Tryz.func118,by kernel_rfl,by kernel_rfl,by kernel_rfl,by kernel_rfl⟩⟩
def ZlQ:ACode:=(.seq
 (.reg [Zn 77 .lss 3 76 75])
 (.seq
 (.cond (Zr 77) .skip (.exit 1))
 (.seq
 (.block 2
 (.seq
 (.reg [Zk 78 33 74 76,Zb 79 35 78,Zi 9 35,Zg 35 9 79])
 (.seq
 (.reg [Zb 80 44 3,Zb 81 35 9,Za 82 2,Zo 83 119 #[Zr 80,Zr 81,Zr 82] #[44,35,220],Zc 10 83])
 (.seq
 (.reg [Za 84 10,Zm 85 .neq 38 84 0])
 (.cond (Zr 85)
 (.seq
 (.reg [Za 86 10,Zc 6 86]) .ret) .skip)))))
 (.reg [Zm 87 .add 3 76 1,Za 76 87]))))
def ZlR:ACode:=(.seq
 (.reg [Zf 6 0]) .ret)
def c119:ACode:=(.seq
 (.reg [Zj 3 44 0,Zj 4 35 1,Zf 6 0])
 (.seq
 (.seq
 (.reg [Zb 11 35 4,Zo 12 139 #[Zr 11] #[35]])
 (.cond (Zr 12)
 (.seq
 (.reg [Zf 6 411]) .ret) .skip))
 (.seq
 (.reg [Zd 13 44 3 0,Zb 14 41 13,Zd 15 35 4 1,Zb 16 9 15,Zo 17 78 #[Zr 14,Zr 16] #[41,9],Zc 7 17])
 (.seq
 (.block 0
 (.seq
 (.seq
 (.reg [Zd 19 35 4 0,Zb 20 3 19,Zm 21 .eql 3 20 2,Za 22 21,Zp 23 (.fieldAddr 44 (Zr 3) 1) 22 true,Zp 24 (.load 42 (Zr 23)) 22 true,Zp 25 (.fieldAddr 35 (Zr 4) 1) 22 true,Zp 26 (.load 9 (Zr 25)) 22 true,Zp 27 (.call { callee:=(.value (.func 79)),args:=#[Zr 24,Zr 26],argTypes:=#[42,9] }) 22 true,Zp 28 (.binOp .lss 3 (Zr 27) (.const (.int .i64 0)) 3) 22 true,Zq 29 (.pick (Zr 22) (Zr 28) (.const (.bool false))),Zc 18 29])
 (.cond (Zr 18) .skip
 (.reg [Zd 30 35 4 0,Zb 31 3 30,Zm 32 .eql 3 31 3,Za 33 32,Zp 34 (.move (Zr 7)) 33 true,Zp 35 (.binOp .lss 3 (Zr 34) (.const (.int .i64 0)) 3) 33 true,Zq 36 (.pick (Zr 33) (Zr 35) (.const (.bool false))),Zc 18 36])))
 (.cond (Zr 18)
 (.seq
 (.reg [Zf 6 9]) .ret)
 (.seq
 (.dreg
 (.tk 0 (Zd 38 35 4 0)
 (.tk 1 (Zb 39 3 38)
 (.tk 2 (Zm 40 .eql 3 39 3)
 (.tk 3 (Za 41 40)
 (.tk 4 (Zp 42 (.fieldAddr 35 (Zr 4) 2) 41 true)
 (.tk 5 (Zp 43 (.load 33 (Zr 42)) 41 true)
 (.tk 6 (Zp 44 (.call { callee:=(.builtin .len),args:=#[Zr 43],argTypes:=#[33] }) 41 true)
 (.tk 7 (Zp 45 (.fieldAddr 44 (Zr 3) 0) 41 true)
 (.tk 8 (Zp 46 (.load 41 (Zr 45)) 41 true)
 (.tk 9 (Zp 47 (.move (Zr 7)) 41 true)
 (.tk 10 (Zp 48 (.indexAddr 41 (Zr 46) (Zr 47)) 41 true)
 (.tk 11 (Zp 49 (.fieldAddr 76 (Zr 48) 1) 41 true)
 (.tk 12 (Zp 50 (.load 3 (Zr 49)) 41 true) .fin))))))))))))) [Zp 51 (.binOp .neq 3 (Zr 44) (Zr 50) 3) 41 true,Zq 52 (.pick (Zr 41) (Zr 51) (.const (.bool false))),Zc 37 52])
 (.cond (Zr 37)
 (.seq
 (.reg [Zf 6 5]) .ret)
 (.seq
 (.reg [Zd 54 35 4 0,Zb 55 3 54,Zm 56 .eql 3 55 1,Za 57 56,Zp 58 (.move (Zr 2)) 57 true,Zp 59 (.fieldAddr 35 (Zr 4) 1) 57 true,Zp 60 (.load 9 (Zr 59)) 57 true,Zp 61 (.call { callee:=(.value (.func 140)),args:=#[Zr 58,Zr 60],argTypes:=#[220,9] }) 57 true,Zp 62 (.unOp .not 4 (Zr 61)) 57 true,Zq 63 (.pick (Zr 57) (Zr 62) (.const (.bool false))),Zc 53 63])
 (.cond (Zr 53)
 (.seq
 (.reg [Zf 6 411]) .ret)
 (.seq
 (.reg [Zd 65 35 4 0,Zb 66 3 65,Zm 67 .eql 3 66 5,Zc 64 67])
 (.cond (Zr 64)
 (.reg [Za 68 2,Zd 69 35 4 1,Zb 70 9 69,Zq 71 (.buildSlice 181 1 #[(0,(Zr 70))]),Zo 72 120 #[Zr 68,Zr 71] #[220,181],Zc 2 72]) .skip)))))))))
 (.seqL
 (.seq
 (.reg [Zd 73 35 4 2,Zb 74 33 73,Ze 75 74 33,Zq 76 (.move (.const (.int .i64 0)))])
 (.block 1 (.loop ZlQ))) ZlR)))))
theorem fd119:FnD Tryz.prog 119 88 [(.tmp 6)] c119:=⟨⟨Tryz.f119,Tryz.f119.body.getD .skip,Tryz.func119,by kernel_rfl,by kernel_rfl,by kernel_rfl,by kernel_rfl⟩⟩
def b120_1:ACode:=(.seq
 (.reg [Zn 10 .lss 3 9 8])
 (.seq
 (.cond (Zr 10) .skip (.exit 0))
 (.seq
 (.block 1
 (.seq
 (.reg [Zk 11 181 7 9,Zb 12 9 11,Zc 6 12])
 (.reg [Za 13 6,Za 14 0,Zq 15 (.build 243 #[(0,(Zr 13)),(1,(Zr 14))]),Zj 16 243 15,Zc 0 16])))
 (.reg [Zm 17 .add 3 9 1,Za 9 17]))))
def c120_1:ACode:=(.seq
 (.reg [Za 18 0,Zc 4 18]) .ret)
def c120:ACode:=(.seq
 (.reg [Zq 4 (.assign (.const (.pointer none)))])
 (.seqL
 (.seq
 (.reg [Za 7 1,Ze 8 7 181,Zq 9 (.move (.const (.int .i64 0)))])
 (.block 0 (.loop b120_1))) c120_1))
theorem fd120:FnD Tryz.prog 120 19 [(.tmp 4)] c120:=⟨⟨Tryz.f120,Tryz.f120.body.getD .skip,Tryz.func120,by kernel_rfl,by kernel_rfl,by kernel_rfl,by kernel_rfl⟩⟩
def b121_1:ACode:=(.seq
 (.reg [Zn 9 .lss 3 8 7])
 (.seq
 (.cond (Zr 9) .skip (.exit 0))
 (.seq
 (.block 1
 (.seq
 (.reg [Za 10 8,Zc 5 10])
 (.seq
 (.reg [Za 11 1,Za 12 0,Za 13 5,Zk 14 181 12 13,Zb 15 9 14,Zn 16 .eql 9 11 15])
 (.cond (Zr 16)
 (.seq
 (.reg [Za 17 5,Zc 4 17]) .ret) .skip))))
 (.reg [Zm 18 .add 3 8 1,Za 8 18]))))
def c121_1:ACode:=(.seq
 (.reg [Zq 4 (.assign (.const (.int .i64 (-1))))]) .ret)
def c121:ACode:=(.seq
 (.reg [Zf 4 0])
 (.seqL
 (.seq
 (.reg [Za 6 0,Ze 7 6 181,Zq 8 (.move (.const (.int .i64 0)))])
 (.block 0 (.loop b121_1))) c121_1))
theorem fd121:FnD Tryz.prog 121 19 [(.tmp 4)] c121:=⟨⟨Tryz.f121,Tryz.f121.body.getD .skip,Tryz.func121,by kernel_rfl,by kernel_rfl,by kernel_rfl,by kernel_rfl⟩⟩
def b122_1:ACode:=(.seq
 (.reg [Zn 9 .lss 3 8 7])
 (.seq
 (.cond (Zr 9) .skip (.exit 0))
 (.seq
 (.block 1
 (.seq
 (.reg [Zk 10 132 6 8,Zb 11 95 10,Zc 5 11])
 (.reg [Za 12 3,Za 13 5,Zq 14 (.call { callee:=(.invoke (Zr 13) "triforium/evaluate.nodes"),args:=#[],argTypes:=#[] }),Zn 15 .add 3 12 14,Zc 3 15])))
 (.reg [Zm 16 .add 3 8 1,Za 8 16]))))
def c122_1:ACode:=(.seq
 (.reg [Za 17 3,Zc 2 17]) .ret)
def c122:ACode:=(.seq
 (.reg [Zf 2 0])
 (.seq
 (.reg [Zf 3 0])
 (.seqL
 (.seq
 (.reg [Za 6 0,Ze 7 6 132,Zq 8 (.move (.const (.int .i64 0)))])
 (.block 0 (.loop b122_1))) c122_1)))
theorem fd122:FnD Tryz.prog 122 18 [(.tmp 2)] c122:=⟨⟨Tryz.f122,Tryz.f122.body.getD .skip,Tryz.func122,by kernel_rfl,by kernel_rfl,by kernel_rfl,by kernel_rfl⟩⟩
def c123:ACode:=(.reg [Zb 1 91 0,Zq 2 (.nilCheck (Zr 1)),Zd 3 93 2 3,Zb 4 3 3,Zm 5 .sub 3 4 1,Zq 6 (.nilCheck (Zr 1)),Zd 7 93 6 3,Zg 3 7 5])
theorem fd123:FnD Tryz.prog 123 8 [] c123:=⟨⟨Tryz.f123,Tryz.f123.body.getD .skip,Tryz.func123,by kernel_rfl,by kernel_rfl,by kernel_rfl,by kernel_rfl⟩⟩
def b124_1:ACode:=(.seq
 (.seq
 (.reg [Za 9 6,Zd 10 126 1 2,Zb 11 122 10,Ze 12 11 122,Zn 13 .lss 3 9 12])
 (.cond (Zr 13) .skip (.exit 0)))
 (.seq
 (.block 1
 (.seq
 (.reg [Zd 17 126 1 2,Zb 18 122 17,Za 19 6,Zk 20 122 18 19,Zb 21 126 20,Zo 22 124 #[Zr 21] #[126],Za 16 22,Zh 23 16 0,Zh 24 16 1,Zc 7 23,Zc 8 24])
 (.seq
 (.reg [Za 25 4,Za 26 7,Zn 27 .add 3 25 26,Zc 4 27])
 (.reg [Za 28 5,Za 29 8,Zq 30 (.call { callee:=(.builtin .max),args:=#[Zr 28,Zr 29],argTypes:=#[3,3] }),Zc 5 30]))))
 (.reg [Za 14 6,Zm 15 .add 3 14 1,Zc 6 15])))
def c124_1:ACode:=(.seq
 (.reg [Za 31 4,Za 32 5,Zm 33 .add 3 32 1,Zc 2 31,Zc 3 33]) .ret)
def c124:ACode:=(.seq
 (.reg [Zj 1 126 0,Zf 2 0,Zf 3 0])
 (.seq
 (.reg [Zf 4 1,Zf 5 0])
 (.seqL
 (.seq
 (.reg [Zf 6 0])
 (.block 0 (.loop b124_1))) c124_1)))
theorem fd124:FnD Tryz.prog 124 34 [(.tmp 2),(.tmp 3)] c124:=⟨⟨Tryz.f124,Tryz.f124.body.getD .skip,Tryz.func124,by kernel_rfl,by kernel_rfl,by kernel_rfl,by kernel_rfl⟩⟩
def ZlS:ACode:=(.seq
 (.seq
 (.reg [Za 40 6,Zd 41 126 3 2,Zb 42 122 41,Ze 43 42 122,Zn 44 .lss 3 40 43])
 (.cond (Zr 44) .skip (.exit 0)))
 (.seq
 (.block 1
 (.seq
 (.reg [Za 47 0,Zd 48 126 3 2,Zb 49 122 48,Za 50 6,Zk 51 122 49 50,Zb 52 126 51,Zo 53 125 #[Zr 47,Zr 52] #[22,126],Zc 7 53])
 (.seq
 (.reg [Za 54 7,Zm 55 .neq 38 54 0])
 (.cond (Zr 55)
 (.seq
 (.reg [Za 56 7,Zc 4 56]) .ret) .skip))))
 (.reg [Za 45 6,Zm 46 .add 3 45 1,Zc 6 46])))
def ZlT:ACode:=(.seq
 (.reg [Zf 4 0]) .ret)
def c125:ACode:=(.seq
 (.reg [Zj 3 126 1,Zf 4 0])
 (.seq
 (.seq
 (.reg [Zd 8 126 3 1,Zb 9 9 8,Zo 10 87 #[Zr 9] #[9],Zq 11 (.unOp .not 4 (Zr 10)),Za 12 11,Zp 13 (.fieldAddr 126 (Zr 3) 0) 12 false,Zp 14 (.load 4 (Zr 13)) 12 false,Zp 15 (.unOp .not 4 (Zr 14)) 12 false,Zp 16 (.move (Zr 15)) 12 false,Zp 17 (.fieldAddr 126 (Zr 3) 2) 16 true,Zp 18 (.load 122 (Zr 17)) 16 true,Zp 19 (.call { callee:=(.builtin .len),args:=#[Zr 18],argTypes:=#[122] }) 16 true,Zp 20 (.binOp .gtr 3 (Zr 19) (.const (.int .i64 0)) 3) 16 true,Zp 21 (.pick (Zr 16) (Zr 20) (.const (.bool false))) 12 false,Zq 22 (.pick (Zr 12) (.const (.bool true)) (Zr 21))])
 (.cond (Zr 22)
 (.seq
 (.reg [Zf 4 411]) .ret) .skip))
 (.seq
 (.seq
 (.reg [Zd 23 126 3 0,Zb 24 4 23])
 (.cond (Zr 24)
 (.seq
 (.reg [Za 25 0,Zd 26 126 3 1,Zb 27 9 26,Zo 28 88 #[Zr 25,Zr 27] #[22,9],Zc 5 28])
 (.seq
 (.seq
 (.reg [Za 29 5,Zm 30 .lss 3 29 0])
 (.cond (Zr 30)
 (.seq
 (.reg [Zf 4 9]) .ret) .skip))
 (.seq
 (.dreg
 (.tk 0 (Zd 31 126 3 2)
 (.tk 1 (Zb 32 122 31)
 (.tk 2 (Ze 33 32 122)
 (.tk 3 (Za 34 0)
 (.tk 4 (Za 35 5)
 (.tk 5 (Zk 36 22 34 35)
 (.tk 6 (Zd 37 102 36 1)
 (.tk 7 (Zb 38 3 37) .fin)))))))) [Zn 39 .neq 3 33 38])
 (.cond (Zr 39)
 (.seq
 (.reg [Zf 4 5]) .ret) .skip)))) .skip))
 (.seqL
 (.seq
 (.reg [Zf 6 0])
 (.block 0 (.loop ZlS))) ZlT))))
theorem fd125:FnD Tryz.prog 125 57 [(.tmp 4)] c125:=⟨⟨Tryz.f125,Tryz.f125.body.getD .skip,Tryz.func125,by kernel_rfl,by kernel_rfl,by kernel_rfl,by kernel_rfl⟩⟩
def b126_1:ACode:=(.seq
 (.seq
 (.reg [Za 14 5,Zd 15 126 2 2,Zb 16 122 15,Ze 17 16 122,Zn 18 .lss 3 14 17])
 (.cond (Zr 18) .skip (.exit 0)))
 (.seq
 (.block 1
 (.reg [Zd 21 126 2 2,Zb 22 122 21,Za 23 5,Zk 24 122 22 23,Zb 25 126 24,Za 26 1,Zo 27 126 #[Zr 25,Zr 26] #[126,181],Zc 1 27]))
 (.reg [Za 19 5,Zm 20 .add 3 19 1,Zc 5 20])))
def c126_1:ACode:=(.seq
 (.reg [Za 28 1,Zc 4 28]) .ret)
def c126:ACode:=(.seq
 (.reg [Zj 2 126 0,Zq 4 (.assign (.const (.slice none 0 0)))])
 (.seq
 (.seq
 (.reg [Zd 6 126 2 0,Zb 7 4 6,Zq 8 (.unOp .not 4 (Zr 7))])
 (.cond (Zr 8)
 (.seq
 (.reg [Za 9 1,Zd 10 126 2 1,Zb 11 9 10,Zq 12 (.buildSlice 181 1 #[(0,(Zr 11))]),Zl 13 9 12 181,Zc 4 13]) .ret) .skip))
 (.seqL
 (.seq
 (.reg [Zf 5 0])
 (.block 0 (.loop b126_1))) c126_1)))
theorem fd126:FnD Tryz.prog 126 29 [(.tmp 4)] c126:=⟨⟨Tryz.f126,Tryz.f126.body.getD .skip,Tryz.func126,by kernel_rfl,by kernel_rfl,by kernel_rfl,by kernel_rfl⟩⟩
def b127_1:ACode:=(.seq
 (.seq
 (.reg [Za 6 5,Za 7 0,Ze 8 7 181,Zn 9 .lss 3 6 8])
 (.cond (Zr 9) .skip (.exit 0)))
 (.seq
 (.block 1
 (.seq
 (.reg [Za 12 0,Za 13 5,Zk 14 181 12 13,Zb 15 9 14,Za 16 1,Zn 17 .eql 9 15 16])
 (.cond (Zr 17)
 (.seq
 (.reg [Zq 4 (.assign (.const (.bool true)))]) .ret) .skip)))
 (.reg [Za 10 5,Zm 11 .add 3 10 1,Zc 5 11])))
def c127_1:ACode:=(.seq
 (.reg [Zq 4 (.assign (.const (.bool false)))]) .ret)
def c127:ACode:=(.seq
 (.reg [Zq 4 (.assign (.const (.bool false)))])
 (.seqL
 (.seq
 (.reg [Zf 5 0])
 (.block 0 (.loop b127_1))) c127_1))
theorem fd127:FnD Tryz.prog 127 18 [(.tmp 4)] c127:=⟨⟨Tryz.f127,Tryz.f127.body.getD .skip,Tryz.func127,by kernel_rfl,by kernel_rfl,by kernel_rfl,by kernel_rfl⟩⟩
def b128_1:ACode:=(.seq
 (.seq
 (.reg [Za 9 6,Zd 10 28 1 2,Zb 11 26 10,Ze 12 11 26,Zn 13 .lss 3 9 12])
 (.cond (Zr 13) .skip (.exit 0)))
 (.seq
 (.block 1
 (.seq
 (.reg [Zd 17 28 1 2,Zb 18 26 17,Za 19 6,Zk 20 26 18 19,Zb 21 28 20,Zo 22 128 #[Zr 21] #[28],Za 16 22,Zh 23 16 0,Zh 24 16 1,Zc 7 23,Zc 8 24])
 (.seq
 (.reg [Za 25 4,Za 26 7,Zn 27 .add 3 25 26,Zc 4 27])
 (.reg [Za 28 5,Za 29 8,Zq 30 (.call { callee:=(.builtin .max),args:=#[Zr 28,Zr 29],argTypes:=#[3,3] }),Zc 5 30]))))
 (.reg [Za 14 6,Zm 15 .add 3 14 1,Zc 6 15])))
def c128_1:ACode:=(.seq
 (.reg [Za 31 4,Za 32 5,Zm 33 .add 3 32 1,Zc 2 31,Zc 3 33]) .ret)
def c128:ACode:=(.seq
 (.reg [Zj 1 28 0,Zf 2 0,Zf 3 0])
 (.seq
 (.reg [Zf 4 1,Zf 5 0])
 (.seqL
 (.seq
 (.reg [Zf 6 0])
 (.block 0 (.loop b128_1))) c128_1)))
theorem fd128:FnD Tryz.prog 128 34 [(.tmp 2),(.tmp 3)] c128:=⟨⟨Tryz.f128,Tryz.f128.body.getD .skip,Tryz.func128,by kernel_rfl,by kernel_rfl,by kernel_rfl,by kernel_rfl⟩⟩
def ZlU:ACode:=(.seq
 (.seq
 (.reg [Za 124 9,Za 125 7,Zn 126 .lss 3 124 125])
 (.cond (Zr 126) .skip (.exit 1)))
 (.seq
 (.block 2
 (.seq
 (.dreg
 (.tk 0 (Zb 129 25 3)
 (.tk 1 (Zd 130 28 4 2)
 (.tk 2 (Zb 131 26 130)
 (.tk 3 (Za 132 9)
 (.tk 4 (Zk 133 26 131 132)
 (.tk 5 (Zb 134 28 133)
 (.tk 6 (Za 135 2) .fin))))))) [Zo 136 129 #[Zr 129,Zr 134,Zr 135] #[25,28,181],Zc 10 136])
 (.seq
 (.reg [Za 137 10,Zm 138 .neq 38 137 0])
 (.cond (Zr 138)
 (.seq
 (.reg [Za 139 10,Zc 6 139]) .ret) .skip))))
 (.reg [Za 127 9,Zm 128 .add 3 127 1,Zc 9 128])))
def ZlV:ACode:=(.seq
 (.reg [Zf 6 0]) .ret)
def c129:ACode:=(.seq
 (.reg [Zj 3 25 0,Zj 4 28 1,Zf 6 0])
 (.seq
 (.reg [Zd 11 28 4 2,Zb 12 26 11,Ze 13 12 26,Zc 7 13])
 (.seq
 (.block 0
 (.seq
 (.seq
 (.reg [Zd 15 28 4 0,Zb 16 3 15,Zm 17 .lss 3 16 1,Za 18 17,Zp 19 (.fieldAddr 28 (Zr 4) 0) 18 false,Zp 20 (.load 3 (Zr 19)) 18 false,Zp 21 (.binOp .gtr 3 (Zr 20) (.const (.int .i64 5)) 3) 18 false,Zq 22 (.pick (Zr 18) (.const (.bool true)) (Zr 21)),Zc 14 22])
 (.cond (Zr 14) .skip
 (.seq
 (.reg [Zd 23 28 4 0,Zb 24 3 23,Zm 25 .leq 3 24 2,Za 26 25,Zp 27 (.move (Zr 7)) 26 true,Zp 28 (.binOp .gtr 3 (Zr 27) (.const (.int .i64 0)) 3) 26 true,Zq 29 (.pick (Zr 26) (Zr 28) (.const (.bool false))),Zc 14 29])
 (.cond (Zr 14) .skip
 (.seq
 (.reg [Zd 30 28 4 0,Zb 31 3 30,Zm 32 .eql 3 31 5,Za 33 32,Zp 34 (.move (Zr 7)) 33 true,Zp 35 (.binOp .neq 3 (Zr 34) (.const (.int .i64 1)) 3) 33 true,Zq 36 (.pick (Zr 33) (Zr 35) (.const (.bool false))),Zc 14 36])
 (.cond (Zr 14) .skip
 (.seq
 (.reg [Zd 37 28 4 0,Zb 38 3 37,Zm 39 .eql 3 38 4,Za 40 39,Zp 41 (.move (Zr 7)) 40 true,Zp 42 (.binOp .lss 3 (Zr 41) (.const (.int .i64 2)) 3) 40 true,Zq 43 (.pick (Zr 40) (Zr 42) (.const (.bool false))),Zc 14 43])
 (.cond (Zr 14) .skip
 (.seq
 (.reg [Zd 44 28 4 0,Zb 45 3 44,Zm 46 .eql 3 45 4,Za 47 46,Zp 48 (.fieldAddr 28 (Zr 4) 1) 47 true,Zp 49 (.load 9 (Zr 48)) 47 true,Zp 50 (.binOp .neq 9 (Zr 49) (.const (.string { data:=#[] })) 9) 47 true,Zq 51 (.pick (Zr 47) (Zr 50) (.const (.bool false))),Zc 14 51])
 (.cond (Zr 14) .skip
 (.reg [Zd 52 28 4 0,Zb 53 3 52,Zm 54 .neq 3 53 4,Za 55 54,Zp 56 (.fieldAddr 28 (Zr 4) 1) 55 true,Zp 57 (.load 9 (Zr 56)) 55 true,Zp 58 (.call { callee:=(.value (.func 87)),args:=#[Zr 57],argTypes:=#[9] }) 55 true,Zp 59 (.unOp .not 4 (Zr 58)) 55 true,Zq 60 (.pick (Zr 55) (Zr 59) (.const (.bool false))),Zc 14 60])))))))))))
 (.cond (Zr 14)
 (.seq
 (.reg [Zf 6 411]) .ret)
 (.seq
 (.seq
 (.reg [Zd 62 28 4 0,Zb 63 3 62,Zm 64 .eql 3 63 2,Za 65 64,Zp 66 (.fieldAddr 25 (Zr 3) 1) 65 true,Zp 67 (.load 23 (Zr 66)) 65 true,Zp 68 (.fieldAddr 28 (Zr 4) 1) 65 true,Zp 69 (.load 9 (Zr 68)) 65 true,Zp 70 (.call { callee:=(.value (.func 89)),args:=#[Zr 67,Zr 69],argTypes:=#[23,9] }) 65 true,Zp 71 (.binOp .lss 3 (Zr 70) (.const (.int .i64 0)) 3) 65 true,Zq 72 (.pick (Zr 65) (Zr 71) (.const (.bool false))),Zc 61 72])
 (.cond (Zr 61) .skip
 (.reg [Zd 73 28 4 0,Zb 74 3 73,Zm 75 .eql 3 74 3,Za 76 75,Zp 77 (.fieldAddr 25 (Zr 3) 0) 76 true,Zp 78 (.load 22 (Zr 77)) 76 true,Zp 79 (.fieldAddr 28 (Zr 4) 1) 76 true,Zp 80 (.load 9 (Zr 79)) 76 true,Zp 81 (.call { callee:=(.value (.func 88)),args:=#[Zr 78,Zr 80],argTypes:=#[22,9] }) 76 true,Zp 82 (.binOp .lss 3 (Zr 81) (.const (.int .i64 0)) 3) 76 true,Zq 83 (.pick (Zr 76) (Zr 82) (.const (.bool false))),Zc 61 83])))
 (.cond (Zr 61)
 (.seq
 (.reg [Zf 6 9]) .ret)
 (.seq
 (.dreg
 (.tk 0 (Zd 85 28 4 0)
 (.tk 1 (Zb 86 3 85)
 (.tk 2 (Zm 87 .eql 3 86 3)
 (.tk 3 (Za 88 87)
 (.tk 4 (Zp 89 (.move (Zr 7)) 88 true)
 (.tk 5 (Zp 90 (.fieldAddr 25 (Zr 3) 0) 88 true)
 (.tk 6 (Zp 91 (.load 22 (Zr 90)) 88 true)
 (.tk 7 (Zp 92 (.fieldAddr 25 (Zr 3) 0) 88 true)
 (.tk 8 (Zp 93 (.load 22 (Zr 92)) 88 true)
 (.tk 9 (Zp 94 (.fieldAddr 28 (Zr 4) 1) 88 true)
 (.tk 10 (Zp 95 (.load 9 (Zr 94)) 88 true)
 (.one [4,5,6,11,12,13,14,15,16,17] (Zp 96 (.call { callee:=(.value (.func 88)),args:=#[Zr 93,Zr 95],argTypes:=#[22,9] }) 88 true)
 (.tk 12 (Zp 97 (.indexAddr 22 (Zr 91) (Zr 96)) 88 true)
 (.tk 13 (Zp 98 (.fieldAddr 102 (Zr 97) 1) 88 true) (.cut (Zp 99 (.load 3 (Zr 98)) 88 true) .fin))))))))))))))) [Zp 100 (.binOp .neq 3 (Zr 89) (Zr 99) 3) 88 true,Zq 101 (.pick (Zr 88) (Zr 100) (.const (.bool false))),Zc 84 101])
 (.cond (Zr 84)
 (.seq
 (.reg [Zf 6 5]) .ret)
 (.seq
 (.reg [Zd 103 28 4 0,Zb 104 3 103,Zm 105 .eql 3 104 1,Za 106 105,Zp 107 (.move (Zr 2)) 106 true,Zp 108 (.fieldAddr 28 (Zr 4) 1) 106 true,Zp 109 (.load 9 (Zr 108)) 106 true,Zp 110 (.call { callee:=(.value (.func 127)),args:=#[Zr 107,Zr 109],argTypes:=#[181,9] }) 106 true,Zp 111 (.unOp .not 4 (Zr 110)) 106 true,Zq 112 (.pick (Zr 106) (Zr 111) (.const (.bool false))),Zc 102 112])
 (.cond (Zr 102)
 (.seq
 (.reg [Zf 6 411]) .ret) .skip)))))))))
 (.seq
 (.seq
 (.reg [Zd 113 28 4 0,Zb 114 3 113,Zm 115 .eql 3 114 5])
 (.cond (Zr 115)
 (.seq
 (.reg [Zq 116 (.buildSlice 181 0 #[]),Za 117 2,Zl 118 116 117 181,Zc 8 118])
 (.reg [Za 119 8,Zd 120 28 4 1,Zb 121 9 120,Zq 122 (.buildSlice 181 1 #[(0,(Zr 121))]),Zl 123 119 122 181,Zc 2 123])) .skip))
 (.seqL
 (.seq
 (.reg [Zf 9 0])
 (.block 1 (.loop ZlU))) ZlV)))))
theorem fd129:FnD Tryz.prog 129 140 [(.tmp 6)] c129:=⟨⟨Tryz.f129,Tryz.f129.body.getD .skip,Tryz.func129,by kernel_rfl,by kernel_rfl,by kernel_rfl,by kernel_rfl⟩⟩
def b131_1:ACode:=(.seq
 (.seq
 (.reg [Za 43 8,Zd 44 126 3 2,Zb 45 122 44,Ze 46 45 122,Zn 47 .lss 3 43 46])
 (.cond (Zr 47) .skip (.exit 0)))
 (.seq
 (.block 1
 (.seq
 (.dreg
 (.tk 0 (Zd 51 126 3 2)
 (.tk 1 (Zb 52 122 51)
 (.tk 2 (Za 53 8)
 (.tk 3 (Zk 54 122 52 53)
 (.tk 4 (Zb 55 126 54)
 (.tk 5 (Zd 56 28 4 2)
 (.tk 6 (Zb 57 26 56)
 (.tk 7 (Za 58 8)
 (.tk 8 (Zk 59 26 57 58)
 (.tk 9 (Zb 60 28 59)
 (.tk 10 (Za 61 2)
 (.one [11,12,13,14,15,16] (Zo 62 131 #[Zr 55,Zr 60,Zr 61] #[126,28,175])
 (.tk 12 (Za 50 62)
 (.tk 13 (Zh 63 50 0)
 (.tk 14 (Zh 64 50 1)
 (.tk 15 (Zc 9 63) .fin)))))))))))))))) [Zc 10 64])
 (.seq
 (.seq
 (.reg [Za 65 10,Zq 66 (.unOp .not 4 (Zr 65))])
 (.cond (Zr 66)
 (.seq
 (.reg [Za 67 2,Zc 6 67,Zq 7 (.assign (.const (.bool false)))]) .ret) .skip))
 (.reg [Za 68 9,Zc 2 68]))))
 (.reg [Za 48 8,Zm 49 .add 3 48 1,Zc 8 49])))
def c131_1:ACode:=(.seq
 (.reg [Za 69 2,Zc 6 69,Zq 7 (.assign (.const (.bool true)))]) .ret)
def c131:ACode:=(.seq
 (.reg [Zj 3 126 0,Zj 4 28 1,Zq 6 (.assign (.const (.slice none 0 0))),Zq 7 (.assign (.const (.bool false)))])
 (.seq
 (.seq
 (.reg [Zd 11 126 3 0,Zb 12 4 11,Zq 13 (.unOp .not 4 (Zr 12))])
 (.cond (Zr 13)
 (.seq
 (.dreg
 (.tk 0 (Zq 14 (.buildSlice 175 0 #[]))
 (.tk 1 (Za 15 2)
 (.tk 3 (Zd 17 126 3 1)
 (.tk 4 (Zb 18 9 17)
 (.tk 5 (Zb 19 28 4)
 (.tk 6 (Zq 20 (.build 174 #[(0,(Zr 18)),(1,(Zr 19))]))
 (.tk 7 (Zq 21 (.buildSlice 175 1 #[(0,(Zr 20))]))
 (.one [2,3,4,5,6,7,8,9,10] (Zl 16 14 15 175) .fin)))))))) [Zl 22 16 21 175,Zc 6 22,Zq 7 (.assign (.const (.bool true)))]) .ret) .skip))
 (.seq
 (.seq
 (.reg [Zd 23 28 4 0,Zb 24 3 23,Zm 25 .neq 3 24 3,Za 26 25,Zp 27 (.fieldAddr 28 (Zr 4) 1) 26 false,Zp 28 (.load 9 (Zr 27)) 26 false,Zp 29 (.fieldAddr 126 (Zr 3) 1) 26 false,Zp 30 (.load 9 (Zr 29)) 26 false,Zp 31 (.binOp .neq 9 (Zr 28) (Zr 30) 9) 26 false,Zq 32 (.pick (Zr 26) (.const (.bool true)) (Zr 31)),Za 33 32,Zp 34 (.fieldAddr 28 (Zr 4) 2) 33 false,Zp 35 (.load 26 (Zr 34)) 33 false,Zp 36 (.call { callee:=(.builtin .len),args:=#[Zr 35],argTypes:=#[26] }) 33 false,Zp 37 (.fieldAddr 126 (Zr 3) 2) 33 false,Zp 38 (.load 122 (Zr 37)) 33 false,Zp 39 (.call { callee:=(.builtin .len),args:=#[Zr 38],argTypes:=#[122] }) 33 false,Zp 40 (.binOp .neq 3 (Zr 36) (Zr 39) 3) 33 false,Zq 41 (.pick (Zr 33) (.const (.bool true)) (Zr 40))])
 (.cond (Zr 41)
 (.seq
 (.reg [Za 42 2,Zc 6 42,Zq 7 (.assign (.const (.bool false)))]) .ret) .skip))
 (.seqL
 (.seq
 (.reg [Zf 8 0])
 (.block 0 (.loop b131_1))) c131_1))))
theorem fd131:FnD Tryz.prog 131 70 [(.tmp 6),(.tmp 7)] c131:=⟨⟨Tryz.f131,Tryz.f131.body.getD .skip,Tryz.func131,by kernel_rfl,by kernel_rfl,by kernel_rfl,by kernel_rfl⟩⟩
def c132:ACode:=(.seq
 (.reg [Zq 4 (.assign (.const (.slice none 0 0)))])
 (.seq
 (.seq
 (.reg [Za 5 1,Zm 6 .lss 3 5 0])
 (.cond (Zr 6)
 (.reg [Zq 7 (.makeInterface 9 (.const (.string { data:=#[99,97,110,110,111,116,32,98,101,32,110,101,103,97,116,105,118,101] }))),⟨none,(.panic (Zr 7)),none⟩]) .skip))
 (.seq
 (.seq
 (.reg [Za 8 1,Za 9 0,Zq 10 (.call { callee:=(.builtin .cap),args:=#[Zr 9],argTypes:=#[33] }),Za 11 0,Ze 12 11 33,Zn 13 .sub 3 10 12,Zn 14 .sub 3 8 13,Zc 1 14])
 (.seq
 (.reg [Za 15 1,Zm 16 .gtr 3 15 0])
 (.cond (Zr 16)
 (.reg [Za 17 0,Za 18 0,Zq 19 (.call { callee:=(.builtin .cap),args:=#[Zr 18],argTypes:=#[33] }),Zq 20 (.slice 33 (Zr 17) none (some (Zr 19)) none),Za 21 1,Zq 22 (.call { callee:=(.builtin .append),args:=#[Zr 20,Zr 21],argTypes:=#[33,3] }),Za 23 0,Ze 24 23 33,Zq 25 (.slice 33 (Zr 22) none (some (Zr 24)) none),Zc 0 25]) .skip)))
 (.seq
 (.reg [Za 26 0,Zc 4 26]) .ret))))
theorem fd132:FnD Tryz.prog 132 27 [(.tmp 4)] c132:=⟨⟨Tryz.f132,Tryz.f132.body.getD .skip,Tryz.func132,by kernel_rfl,by kernel_rfl,by kernel_rfl,by kernel_rfl⟩⟩
def b133_1:ACode:=(.seq
 (.seq
 (.reg [Za 7 3,Zm 8 .geq 3 7 0])
 (.cond (Zr 8) .skip (.exit 0)))
 (.seq
 (.block 1
 (.seq
 (.reg [Za 11 0,Za 12 3,Zb 13 166 1,Za 14 3,Zk 15 166 13 14,Zb 16 165 15,Zq 17 (.call { callee:=(.value (Zr 11)),args:=#[Zr 12,Zr 16],argTypes:=#[3,165] }),Zq 18 (.unOp .not 4 (Zr 17))])
 (.cond (Zr 18) .ret .skip)))
 (.reg [Za 9 3,Zm 10 .sub 3 9 1,Zc 3 10])))
def c133:ACode:=(.seq
 (.reg [Zb 4 166 1,Ze 5 4 166,Zm 6 .sub 3 5 1,Zc 3 6])
 (.block 0 (.loop b133_1)))
theorem fd133:FnD Tryz.prog 133 19 [] c133:=⟨⟨Tryz.f133,Tryz.f133.body.getD .skip,Tryz.func133,by kernel_rfl,by kernel_rfl,by kernel_rfl,by kernel_rfl⟩⟩
def b134_1:ACode:=(.seq
 (.reg [Zn 9 .lss 3 8 7])
 (.seq
 (.cond (Zr 9) .skip (.exit 0))
 (.seq
 (.block 1
 (.seq
 (.reg [Za 10 8,Zc 5 10])
 (.seq
 (.reg [Za 11 1,Za 12 0,Za 13 5,Zk 14 166 12 13,Zb 15 165 14,Zq 16 (.call { callee:=(.value (Zr 11)),args:=#[Zr 15],argTypes:=#[165] })])
 (.cond (Zr 16)
 (.seq
 (.reg [Za 17 5,Zc 4 17]) .ret) .skip))))
 (.reg [Zm 18 .add 3 8 1,Za 8 18]))))
def c134_1:ACode:=(.seq
 (.reg [Zq 4 (.assign (.const (.int .i64 (-1))))]) .ret)
def c134:ACode:=(.seq
 (.reg [Zf 4 0])
 (.seqL
 (.seq
 (.reg [Za 6 0,Ze 7 6 166,Zq 8 (.move (.const (.int .i64 0)))])
 (.block 0 (.loop b134_1))) c134_1))
theorem fd134:FnD Tryz.prog 134 19 [(.tmp 4)] c134:=⟨⟨Tryz.f134,Tryz.f134.body.getD .skip,Tryz.func134,by kernel_rfl,by kernel_rfl,by kernel_rfl,by kernel_rfl⟩⟩
def b135_1:ACode:=(.seq
 (.reg [Zn 9 .lss 3 8 7])
 (.seq
 (.cond (Zr 9) .skip (.exit 0))
 (.seq
 (.block 1
 (.seq
 (.reg [Za 10 8,Zc 5 10])
 (.seq
 (.reg [Za 11 1,Za 12 0,Za 13 5,Zk 14 213 12 13,Zb 15 5 14,Zq 16 (.call { callee:=(.value (Zr 11)),args:=#[Zr 15],argTypes:=#[5] })])
 (.cond (Zr 16)
 (.seq
 (.reg [Za 17 5,Zc 4 17]) .ret) .skip))))
 (.reg [Zm 18 .add 3 8 1,Za 8 18]))))
def c135_1:ACode:=(.seq
 (.reg [Zq 4 (.assign (.const (.int .i64 (-1))))]) .ret)
def c135:ACode:=(.seq
 (.reg [Zf 4 0])
 (.seqL
 (.seq
 (.reg [Za 6 0,Ze 7 6 213,Zq 8 (.move (.const (.int .i64 0)))])
 (.block 0 (.loop b135_1))) c135_1))
theorem fd135:FnD Tryz.prog 135 19 [(.tmp 4)] c135:=⟨⟨Tryz.f135,Tryz.f135.body.getD .skip,Tryz.func135,by kernel_rfl,by kernel_rfl,by kernel_rfl,by kernel_rfl⟩⟩
def c136:ACode:=(.seq
 (.reg [Zj 1 74 0,Zq 2 (.assign (.const .nilFunc))])
 (.seq
 (.reg [Zq 3 (.makeFunc (.func 141) #[] #[Zr 1]),Zc 2 3]) .ret))
theorem fd136:FnD Tryz.prog 136 4 [(.tmp 2)] c136:=⟨⟨Tryz.f136,Tryz.f136.body.getD .skip,Tryz.func136,by kernel_rfl,by kernel_rfl,by kernel_rfl,by kernel_rfl⟩⟩
def c137:ACode:=(.seq
 (.reg [Zj 1 74 0,Zq 2 (.assign (.const (.bool false)))])
 (.seq
 (.reg [Zd 3 74 1 0,Zb 4 4 3,Zq 5 (.unOp .not 4 (Zr 4)),Zc 2 5]) .ret))
theorem fd137:FnD Tryz.prog 137 6 [(.tmp 2)] c137:=⟨⟨Tryz.f137,Tryz.f137.body.getD .skip,Tryz.func137,by kernel_rfl,by kernel_rfl,by kernel_rfl,by kernel_rfl⟩⟩
def c138:ACode:=(.seq
 (.reg [Zj 1 74 0,Zq 2 (.assign (.const (.bool false)))])
 (.seq
 (.reg [Zd 3 74 1 0,Zb 4 4 3,Zc 2 4]) .ret))
theorem fd138:FnD Tryz.prog 138 5 [(.tmp 2)] c138:=⟨⟨Tryz.f138,Tryz.f138.body.getD .skip,Tryz.func138,by kernel_rfl,by kernel_rfl,by kernel_rfl,by kernel_rfl⟩⟩
def c139:ACode:=(.seq
 (.reg [Zj 1 35 0,Zq 2 (.assign (.const (.bool false)))])
 (.seq
 (.reg [Zd 4 35 1 2,Zb 5 33 4,Ze 6 5 33,Zc 3 6])
 (.seq
 (.seq
 (.reg [Zd 7 35 1 0,Zb 8 3 7])
 (.block 0
 (.seq
 (.seq
 (.reg [Zm 10 .eql 3 8 1,Zc 9 10])
 (.cond (Zr 9) .skip
 (.reg [Zm 11 .eql 3 8 2,Zc 9 11])))
 (.cond (Zr 9)
 (.seq
 (.reg [Za 12 3,Zm 13 .gtr 3 12 0,Za 14 13,Zp 15 (.fieldAddr 35 (Zr 1) 1) 14 false,Zp 16 (.load 9 (Zr 15)) 14 false,Zp 17 (.call { callee:=(.value (.func 77)),args:=#[Zr 16],argTypes:=#[9] }) 14 false,Zp 18 (.unOp .not 4 (Zr 17)) 14 false,Zq 19 (.pick (Zr 14) (.const (.bool true)) (Zr 18)),Zc 2 19]) .ret)
 (.seq
 (.reg [Zm 21 .eql 3 8 3,Zc 20 21])
 (.cond (Zr 20)
 (.seq
 (.reg [Zd 22 35 1 1,Zb 23 9 22,Zo 24 77 #[Zr 23] #[9],Zq 25 (.unOp .not 4 (Zr 24)),Zc 2 25]) .ret)
 (.seq
 (.reg [Zm 27 .eql 3 8 4,Zc 26 27])
 (.cond (Zr 26)
 (.seq
 (.reg [Za 28 3,Zm 29 .lss 3 28 2,Za 30 29,Zp 31 (.fieldAddr 35 (Zr 1) 1) 30 false,Zp 32 (.load 9 (Zr 31)) 30 false,Zp 33 (.binOp .neq 9 (Zr 32) (.const (.string { data:=#[] })) 9) 30 false,Zq 34 (.pick (Zr 30) (.const (.bool true)) (Zr 33)),Zc 2 34]) .ret)
 (.seq
 (.reg [Zm 36 .eql 3 8 5,Zc 35 36])
 (.cond (Zr 35)
 (.seq
 (.reg [Za 37 3,Zm 38 .neq 3 37 1,Za 39 38,Zp 40 (.fieldAddr 35 (Zr 1) 1) 39 false,Zp 41 (.load 9 (Zr 40)) 39 false,Zp 42 (.call { callee:=(.value (.func 77)),args:=#[Zr 41],argTypes:=#[9] }) 39 false,Zp 43 (.unOp .not 4 (Zr 42)) 39 false,Zq 44 (.pick (Zr 39) (.const (.bool true)) (Zr 43)),Zc 2 44]) .ret) .skip))))))))))
 (.seq
 (.reg [Zq 2 (.assign (.const (.bool true)))]) .ret))))
theorem fd139:FnD Tryz.prog 139 45 [(.tmp 2)] c139:=⟨⟨Tryz.f139,Tryz.f139.body.getD .skip,Tryz.func139,by kernel_rfl,by kernel_rfl,by kernel_rfl,by kernel_rfl⟩⟩
def b140_1:ACode:=(.seq
 (.seq
 (.reg [Za 5 0,Zq 6 (.binOp .neq 220 (Zr 5) (.const (.pointer none)) 220)])
 (.cond (Zr 6) .skip (.exit 0)))
 (.seq
 (.block 1
 (.seq
 (.reg [Za 11 0,Zq 12 (.nilCheck (Zr 11)),Zd 13 243 12 0,Zb 14 9 13,Za 15 1,Zn 16 .eql 9 14 15])
 (.cond (Zr 16)
 (.seq
 (.reg [Zq 4 (.assign (.const (.bool true)))]) .ret) .skip)))
 (.reg [Za 7 0,Zq 8 (.nilCheck (Zr 7)),Zd 9 243 8 1,Zb 10 220 9,Zc 0 10])))
def c140_1:ACode:=(.seq
 (.reg [Zq 4 (.assign (.const (.bool false)))]) .ret)
def c140:ACode:=(.seq
 (.reg [Zq 4 (.assign (.const (.bool false)))])
 (.seqL
 (.block 0 (.loop b140_1)) c140_1))
theorem fd140:FnD Tryz.prog 140 17 [(.tmp 4)] c140:=⟨⟨Tryz.f140,Tryz.f140.body.getD .skip,Tryz.func140,by kernel_rfl,by kernel_rfl,by kernel_rfl,by kernel_rfl⟩⟩
def c141:ACode:=(.seq
 (.reg [Zj 2 245 0])
 (.seq
 (.reg [Zi 3 246])
 (.seq
 (.reg [Zq 4 (.makeFunc (.func 142) #[] #[Zr 2,Zr 3]),Zg 246 3 4])
 (.reg [Zb 5 246 3,Zb 6 74 1,Zq 7 (.call { callee:=(.value (Zr 5)),args:=#[Zr 6,(.const (.int .i64 0))],argTypes:=#[74,3] })]))))
theorem fd141:FnD Tryz.prog 141 8 [] c141:=⟨⟨Tryz.f141,Tryz.f141.body.getD .skip,Tryz.func141,by kernel_rfl,by kernel_rfl,by kernel_rfl,by kernel_rfl⟩⟩
def c142:ACode:=(.seq
 (.reg [Zj 4 74 0,Zj 5 3 1,Zq 6 (.assign (.const (.bool false)))])
 (.seq
 (.reg [Zb 7 245 2,Zb 8 74 4,Zb 9 3 5,Zq 10 (.build 241 #[(0,(Zr 8)),(1,(Zr 9))]),Zq 11 (.call { callee:=(.value (Zr 7)),args:=#[Zr 10],argTypes:=#[241] }),Za 12 11,Zp 13 (.fieldAddr 74 (Zr 4) 2) 12 true,Zp 14 (.load 72 (Zr 13)) 12 true,Zp 15 (.makeFunc (.func 144) #[] #[Zr 3,Zr 5]) 12 true,Zp 16 (.call { callee:=(.value (.func 143)),args:=#[Zr 14,Zr 15],argTypes:=#[72,248] }) 12 true,Zp 17 (.unOp .not 4 (Zr 16)) 12 true,Zq 18 (.pick (Zr 12) (Zr 17) (.const (.bool false))),Zc 6 18]) .ret))
theorem fd142:FnD Tryz.prog 142 19 [(.tmp 6)] c142:=⟨⟨Tryz.f142,Tryz.f142.body.getD .skip,Tryz.func142,by kernel_rfl,by kernel_rfl,by kernel_rfl,by kernel_rfl⟩⟩
def c143:ACode:=(.seq
 (.reg [Zq 4 (.assign (.const (.bool false)))])
 (.seq
 (.reg [Za 5 0,Za 6 1,Zo 7 145 #[Zr 5,Zr 6] #[72,248],Zm 8 .geq 3 7 0,Zc 4 8]) .ret))
theorem fd143:FnD Tryz.prog 143 9 [(.tmp 4)] c143:=⟨⟨Tryz.f143,Tryz.f143.body.getD .skip,Tryz.func143,by kernel_rfl,by kernel_rfl,by kernel_rfl,by kernel_rfl⟩⟩
def c144:ACode:=(.seq
 (.reg [Zj 3 74 0,Zq 4 (.assign (.const (.bool false)))])
 (.seq
 (.reg [Zb 5 246 1,Zb 6 74 3,Zb 7 3 2,Zm 8 .add 3 7 1,Zq 9 (.call { callee:=(.value (Zr 5)),args:=#[Zr 6,Zr 8],argTypes:=#[74,3] }),Zq 10 (.unOp .not 4 (Zr 9)),Zc 4 10]) .ret))
theorem fd144:FnD Tryz.prog 144 11 [(.tmp 4)] c144:=⟨⟨Tryz.f144,Tryz.f144.body.getD .skip,Tryz.func144,by kernel_rfl,by kernel_rfl,by kernel_rfl,by kernel_rfl⟩⟩
def b145_1:ACode:=(.seq
 (.reg [Zn 9 .lss 3 8 7])
 (.seq
 (.cond (Zr 9) .skip (.exit 0))
 (.seq
 (.block 1
 (.seq
 (.reg [Za 10 8,Zc 5 10])
 (.seq
 (.reg [Za 11 1,Za 12 0,Za 13 5,Zk 14 72 12 13,Zb 15 74 14,Zq 16 (.call { callee:=(.value (Zr 11)),args:=#[Zr 15],argTypes:=#[74] })])
 (.cond (Zr 16)
 (.seq
 (.reg [Za 17 5,Zc 4 17]) .ret) .skip))))
 (.reg [Zm 18 .add 3 8 1,Za 8 18]))))
def c145_1:ACode:=(.seq
 (.reg [Zq 4 (.assign (.const (.int .i64 (-1))))]) .ret)
def c145:ACode:=(.seq
 (.reg [Zf 4 0])
 (.seqL
 (.seq
 (.reg [Za 6 0,Ze 7 6 72,Zq 8 (.move (.const (.int .i64 0)))])
 (.block 0 (.loop b145_1))) c145_1))
theorem fd145:FnD Tryz.prog 145 19 [(.tmp 4)] c145:=⟨⟨Tryz.f145,Tryz.f145.body.getD .skip,Tryz.func145,by kernel_rfl,by kernel_rfl,by kernel_rfl,by kernel_rfl⟩⟩
def c162:ACode:=(.seq
 (.reg [Zj 1 136 0,Zf 2 0])
 (.seq
 (.reg [Zf 2 1]) .ret))
theorem fd162:FnD Tryz.prog 162 3 [(.tmp 2)] c162:=⟨⟨Tryz.f162,Tryz.f162.body.getD .skip,Tryz.func162,by kernel_rfl,by kernel_rfl,by kernel_rfl,by kernel_rfl⟩⟩
def c163:ACode:=(.seq
 (.reg [Zj 1 139 0,Zf 2 0])
 (.seq
 (.seq
 (.reg [Zd 3 139 1 1,Zb 4 132 3,Ze 5 4 132,Zm 6 .eql 3 5 0])
 (.cond (Zr 6)
 (.seq
 (.reg [Zf 2 1]) .ret) .skip))
 (.seq
 (.reg [Zd 7 139 1 1,Zb 8 132 7,Zo 9 122 #[Zr 8] #[132],Zq 10 (.binOp .add 3 (.const (.int .i64 2)) (Zr 9) 3),Zc 2 10]) .ret)))
theorem fd163:FnD Tryz.prog 163 11 [(.tmp 2)] c163:=⟨⟨Tryz.f163,Tryz.f163.body.getD .skip,Tryz.func163,by kernel_rfl,by kernel_rfl,by kernel_rfl,by kernel_rfl⟩⟩
def c164:ACode:=(.seq
 (.reg [Zj 1 142 0,Zf 2 0])
 (.seq
 (.reg [Zd 3 142 1 1,Zb 4 132 3,Zo 5 122 #[Zr 4] #[132],Zq 6 (.binOp .add 3 (.const (.int .i64 1)) (Zr 5) 3),Zc 2 6]) .ret))
theorem fd164:FnD Tryz.prog 164 7 [(.tmp 2)] c164:=⟨⟨Tryz.f164,Tryz.f164.body.getD .skip,Tryz.func164,by kernel_rfl,by kernel_rfl,by kernel_rfl,by kernel_rfl⟩⟩
end Go.PV.YtglpmlbbaedbiaaGreat
end
