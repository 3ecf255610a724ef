/- Part 3 of 11 of what the proof of Step needs. -/
import Derived.Test.YtglpmlbbaedbiaaStep2
import Derived.Test.YtglpmlbbaedbiaaProg
import Derived.KernelRfl
set_option linter.unusedVariables false
set_option linter.unusedSimpArgs false
set_option linter.defProp false
section
set_option maxRecDepth 100000
namespace Go.PV.Ytglpmlbbaedbiaa
open Go Go.Proofs
def Za (d s:Nat):GOp:=⟨some d,.move (.tmp s),none⟩
def Zb (d:Nat) (T:TypeId) (s:Nat):GOp:=⟨some d,.load T (.tmp s),none⟩
def Zc (d s:Nat):GOp:=⟨some d,.assign (.tmp s),none⟩
def Zd (d:Nat) (T:TypeId) (s f:Nat):GOp:=⟨some d,.fieldAddr T (.tmp s) f,none⟩
def Ze (d s:Nat) (T:TypeId):GOp:=⟨some d,.call { callee:=.builtin .len,args:=#[.tmp s],argTypes:=#[T] },none⟩
def Zf (d:Nat) (n:Int):GOp:=⟨some d,.assign (.const (.int .i64 n)),none⟩
def Zg (T:TypeId) (a b:Nat):GOp:=⟨none,.store T (.tmp a) (.tmp b),none⟩
def Zh (d s i:Nat):GOp:=⟨some d,.extract (.tmp s) i,none⟩
def Zi (d:Nat) (T:TypeId):GOp:=⟨some d,.alloc T,none⟩
def Zj (d:Nat) (T:TypeId) (s:Nat):GOp:=⟨some d,.box T (.tmp s),none⟩
def Zk (d:Nat) (T:TypeId) (s i:Nat):GOp:=⟨some d,.indexAddr T (.tmp s) (.tmp i),none⟩
def Zl (d a b:Nat) (T:TypeId):GOp:=⟨some d,.call { callee:=.builtin .append,args:=#[.tmp a,.tmp b],argTypes:=#[T,T] },none⟩
def Zm (d:Nat) (o:BinOp) (T:TypeId) (a:Nat) (n:Int):GOp:=⟨some d,.binOp o T (.tmp a) (.const (.int .i64 n)) T,none⟩
def Zn (d:Nat) (o:BinOp) (T:TypeId) (a b:Nat):GOp:=⟨some d,.binOp o T (.tmp a) (.tmp b) T,none⟩
def Zo (d f:Nat) (l:Array Operand) (T:Array TypeId):GOp:=⟨some d,.call { callee:=.value (.func f),args:=l,argTypes:=T },none⟩
def Zp (d:Nat) (x:Op) (g:Nat) (b:Bool):GOp:=⟨some d,x,some (g,b)⟩
def Zq (d:Nat) (x:Op):GOp:=⟨some d,x,none⟩
def Zr (s:Nat):Operand:=.tmp s
theorem mixed:Try.prog.follows .mixedOrders=true:=by kernel_rfl
theorem ZmG:ldT Try.prog 24=some (3,true):=by kernel_rfl
theorem en_7:ZL Try.prog 7=true:=by kernel_rfl
theorem ZmH:elT Try.prog 25=some (28,3,48):=by kernel_rfl
theorem ZbK:ldT Try.prog 28=some (3,true):=by kernel_rfl
theorem zeroT_28:zeroT Try.prog 28=some [(.int .i64 0),(.string ⟨#[]⟩),(.slice none 0 0)]:=by kernel_rfl
theorem szT_28:szT Try.prog 28=some 3:=by kernel_rfl
theorem en_8:ZL Try.prog 8=true:=by kernel_rfl
theorem en_9:ZL Try.prog 9=true:=by kernel_rfl
theorem en_11:ZL Try.prog 11=true:=by kernel_rfl
theorem en_10:ZL Try.prog 10=true:=by kernel_rfl
theorem Yc:zeroT Try.prog 34=some [(.int .i64 0),(.string ⟨#[]⟩),(.slice none 0 0)]:=by kernel_rfl
theorem YE:szT Try.prog 34=some 3:=by kernel_rfl
theorem Zk4:flT Try.prog 24 2=some (2,1,false):=by kernel_rfl
theorem ldT_22:ldT Try.prog 22=some (1,false):=by kernel_rfl
theorem Zka:elT Try.prog 22=some (46,4,72):=by kernel_rfl
theorem Zhz:zeroT Try.prog 24=some [(.string ⟨#[]⟩),(.int .i64 0),(.slice none 0 0)]:=by kernel_rfl
theorem Zk5:zeroT Try.prog 46=some [(.slice none 0 0),(.int .i64 0),(.string ⟨#[]⟩),(.slice none 0 0)]:=by kernel_rfl
theorem Yg:ldT Try.prog 3=some (1,false):=by kernel_rfl
theorem flT_24_1:flT Try.prog 24 1=some (1,1,false):=by kernel_rfl
theorem Ym:ldT Try.prog 9=some (1,false):=by kernel_rfl
theorem flT_24_0:flT Try.prog 24 0=some (0,1,false):=by kernel_rfl
theorem ZmI:szT Try.prog 24=some 3:=by kernel_rfl
theorem Ye:ldT Try.prog 34=some (3,true):=by kernel_rfl
theorem en_14:ZL Try.prog 14=true:=by kernel_rfl
theorem en_15:ZL Try.prog 15=true:=by kernel_rfl
theorem Zkb:ldT Try.prog 50=some (3,true):=by kernel_rfl
theorem ZlM:ZL Try.prog 18=true:=by kernel_rfl
theorem en_17:ZL Try.prog 17=true:=by kernel_rfl
theorem Zif:ldT Try.prog 71=some (2,true):=by kernel_rfl
theorem en_24:ZL Try.prog 24=true:=by kernel_rfl
theorem ZeR:szT Try.prog 74=some 4:=by kernel_rfl
theorem ZhA:zeroT Try.prog 74=some [(.int .i64 0),(.string ⟨#[]⟩),(.slice none 0 0),(.int .i64 0)]:=by kernel_rfl
theorem en_25:ZL Try.prog 25=true:=by kernel_rfl
theorem en_26:ZL Try.prog 26=true:=by kernel_rfl
theorem en_27:ZL Try.prog 27=true:=by kernel_rfl
theorem Zk6:flT Try.prog 74 1=some (3,1,false):=by kernel_rfl
theorem flT_74_0:flT Try.prog 74 0=some (0,3,true):=by kernel_rfl
theorem ldT_46:ldT Try.prog 46=some (4,true):=by kernel_rfl
theorem szT_46:szT Try.prog 46=some 4:=by kernel_rfl
theorem Zk7:flT Try.prog 46 1=some (1,3,true):=by kernel_rfl
theorem Zk8:flT Try.prog 46 0=some (0,1,false):=by kernel_rfl
theorem Zkc:ldT Try.prog 44=some (1,false):=by kernel_rfl
theorem Zdt:elT Try.prog 44=some (50,3,48):=by kernel_rfl
theorem Ze0:zeroT Try.prog 50=some [(.bool false),(.string ⟨#[]⟩),(.slice none 0 0)]:=by kernel_rfl
theorem Zkd:szT Try.prog 50=some 3:=by kernel_rfl
theorem en_29:ZL Try.prog 29=true:=by kernel_rfl
theorem en_30:ZL Try.prog 30=true:=by kernel_rfl
theorem en_31:ZL Try.prog 31=true:=by kernel_rfl
theorem en_32:ZL Try.prog 32=true:=by kernel_rfl
theorem stT_57:stT Try.prog 57=some ([(.bool false),(.string ⟨#[]⟩),(.slice none 0 0)],[(0,1),(1,1),(2,1)]):=by kernel_rfl
theorem WE:zeroT Try.prog 57=some [(.bool false),(.string ⟨#[]⟩),(.slice none 0 0)]:=by kernel_rfl
theorem Zcs:szT Try.prog 57=some 3:=by kernel_rfl
theorem zeroT_80:zeroT Try.prog 80=some [(.slice none 0 0),(.slice none 0 0)]:=by kernel_rfl
theorem ZaH:elT Try.prog 78=some (40,3,48):=by kernel_rfl
theorem ZcR:zeroT Try.prog 40=some [(.string ⟨#[]⟩),(.int .i64 0),(.slice none 0 0)]:=by kernel_rfl
theorem stT_40:stT Try.prog 40=some ([(.string ⟨#[]⟩),(.int .i64 0),(.slice none 0 0)],[(0,1),(1,1),(2,1)]):=by kernel_rfl
theorem Zbj:elT Try.prog 38=some (93,4,72):=by kernel_rfl
theorem Za8:zeroT Try.prog 93=some [(.slice none 0 0),(.int .i64 0),(.string ⟨#[]⟩),(.slice none 0 0)]:=by kernel_rfl
theorem stT_93:stT Try.prog 93=some ([(.slice none 0 0),(.int .i64 0),(.string ⟨#[]⟩),(.slice none 0 0)],[(0,1),(1,3)]):=by kernel_rfl
theorem ZZ:elT Try.prog 32=some (34,3,48):=by kernel_rfl
theorem Xl:elT Try.prog 55=some (57,3,48):=by kernel_rfl
theorem XB:ldT Try.prog 57=some (3,true):=by kernel_rfl
theorem Zar:elT Try.prog 77=some (91,2,24):=by kernel_rfl
theorem Ze1:zeroT Try.prog 91=some [(.string ⟨#[]⟩),(.int .i64 0)]:=by kernel_rfl
theorem szT_80:szT Try.prog 80=some 2:=by kernel_rfl
theorem Zbk:ldT Try.prog 80=some (2,true):=by kernel_rfl
theorem Yd:flT Try.prog 34 1=some (1,1,false):=by kernel_rfl
theorem ZW:flT Try.prog 34 2=some (2,1,false):=by kernel_rfl
theorem Yk:ldT Try.prog 32=some (1,false):=by kernel_rfl
theorem und_32:Try.prog.underlying 32=some (.slice 34):=by kernel_rfl
theorem Wq:flT Try.prog 40 1=some (1,1,false):=by kernel_rfl
theorem JR:stT Try.prog 34=some ([(.int .i64 0),(.string ⟨#[]⟩),(.slice none 0 0)],[(0,1),(1,1),(2,1)]):=by kernel_rfl
theorem Za9:flT Try.prog 40 2=some (2,1,false):=by kernel_rfl
theorem Zgq:ldT Try.prog 38=some (1,false):=by kernel_rfl
theorem Zig:ldT Try.prog 93=some (4,true):=by kernel_rfl
theorem Zih:szT Try.prog 93=some 4:=by kernel_rfl
theorem Zal:flT Try.prog 93 0=some (0,1,false):=by kernel_rfl
theorem Wi:ldT Try.prog 55=some (1,false):=by kernel_rfl
theorem en_34:ZL Try.prog 34=true:=by kernel_rfl
theorem en_33:ZL Try.prog 33=true:=by kernel_rfl
theorem en_35:ZL Try.prog 35=true:=by kernel_rfl
theorem ZhB:flT Try.prog 93 1=some (1,3,true):=by kernel_rfl
theorem ZoO:ZL Try.prog 36=true:=by kernel_rfl
theorem Zke:szT Try.prog 40=some 3:=by kernel_rfl
theorem szT_55:szT Try.prog 55=some 1:=by kernel_rfl
theorem szT_38:szT Try.prog 38=some 1:=by kernel_rfl
theorem Zdu:ldT Try.prog 40=some (3,true):=by kernel_rfl
theorem ZT:flT Try.prog 34 0=some (0,1,false):=by kernel_rfl
theorem en_37:ZL Try.prog 37=true:=by kernel_rfl
theorem Zk9:flT Try.prog 50 2=some (2,1,false):=by kernel_rfl
theorem Zas:elT Try.prog 96=some (102,4,64):=by kernel_rfl
theorem und_96:Try.prog.underlying 96=some (.slice 102):=by kernel_rfl
theorem ZjK:ldT Try.prog 102=some (4,true):=by kernel_rfl
theorem WF:zeroT Try.prog 102=some [(.string ⟨#[]⟩),(.int .i64 0),(.string ⟨#[]⟩),(.slice none 0 0)]:=by kernel_rfl
theorem Znh:szT Try.prog 102=some 4:=by kernel_rfl
theorem Jp:elT Try.prog 52=some (9,1,16):=by kernel_rfl
theorem Zbt:zeroT Try.prog 9=some [(.string ⟨#[]⟩)]:=by kernel_rfl
theorem Zn2:flT Try.prog 102 1=some (1,3,true):=by kernel_rfl
theorem ZiE:flT Try.prog 102 0=some (0,1,false):=by kernel_rfl
theorem flT_50_0:flT Try.prog 50 0=some (0,1,false):=by kernel_rfl
theorem Zc3:ldT Try.prog 4=some (1,false):=by kernel_rfl
theorem flT_50_1:flT Try.prog 50 1=some (1,1,false):=by kernel_rfl
theorem XD:flT Try.prog 57 2=some (2,1,false):=by kernel_rfl
theorem flT_28_0:flT Try.prog 28 0=some (0,1,false):=by kernel_rfl
theorem flT_28_1:flT Try.prog 28 1=some (1,1,false):=by kernel_rfl
theorem Zla:flT Try.prog 28 2=some (2,1,false):=by kernel_rfl
theorem ldT_25:ldT Try.prog 25=some (1,false):=by kernel_rfl
theorem ZmJ:szT Try.prog 32=some 1:=by kernel_rfl
theorem Zlb:flT Try.prog 71 0=some (0,1,false):=by kernel_rfl
theorem ldT_68:ldT Try.prog 68=some (1,false):=by kernel_rfl
theorem ZmK:elT Try.prog 68=some (132,2,24):=by kernel_rfl
theorem Zlc:flT Try.prog 71 1=some (1,1,false):=by kernel_rfl
theorem ldT_69:ldT Try.prog 69=some (1,false):=by kernel_rfl
theorem Zii:elT Try.prog 69=some (24,3,48):=by kernel_rfl
theorem Zld:zeroT Try.prog 35=some [(.int .i64 0)]:=by kernel_rfl
theorem en_43:ZL Try.prog 43=true:=by kernel_rfl
theorem Xz:zeroT Try.prog 115=some [(.map none),(.map none)]:=by kernel_rfl
theorem WD:szT Try.prog 115=some 2:=by kernel_rfl
theorem ZaI:szT Try.prog 35=some 1:=by kernel_rfl
theorem ZeS:ldT Try.prog 35=some (1,false):=by kernel_rfl
theorem Zij:stT Try.prog 74=some ([(.int .i64 0),(.string ⟨#[]⟩),(.slice none 0 0),(.int .i64 0)],[(0,3),(3,1)]):=by kernel_rfl
theorem en_44:ZL Try.prog 44=true:=by kernel_rfl
theorem WJ:ldT Try.prog 115=some (2,true):=by kernel_rfl
theorem stT_123:stT Try.prog 123=some ([(.map none),(.map none),(.int .i64 0),(.int .i64 0),(.int .i64 0)],[(0,2),(2,1),(3,1),(4,1)]):=by kernel_rfl
theorem ZoP:ZL Try.prog 45=true:=by kernel_rfl
theorem stT_129:stT Try.prog 129=some ([(.int .i64 0)],[(0,1)]):=by kernel_rfl
theorem ZoQ:ZL Try.prog 46=true:=by kernel_rfl
theorem XV:flT Try.prog 129 0=some (0,1,false):=by kernel_rfl
theorem Zbu:stT Try.prog 119=some ([(.int .i64 0)],[(0,1)]):=by kernel_rfl
theorem en_47:ZL Try.prog 47=true:=by kernel_rfl
theorem Zc4:flT Try.prog 123 2=some (3,1,false):=by kernel_rfl
theorem ldT_132:ldT Try.prog 132=some (2,true):=by kernel_rfl
theorem Zn3:zeroT Try.prog 132=some [(.string ⟨#[]⟩),(.int .i64 0)]:=by kernel_rfl
theorem szT_132:szT Try.prog 132=some 2:=by kernel_rfl
theorem XE:flT Try.prog 80 0=some (0,1,false):=by kernel_rfl
theorem Wr:ldT Try.prog 77=some (1,false):=by kernel_rfl
theorem szT_77:szT Try.prog 77=some 1:=by kernel_rfl
theorem ZbL:ldT Try.prog 78=some (1,false):=by kernel_rfl
theorem WX:flT Try.prog 80 1=some (1,1,false):=by kernel_rfl
theorem szT_78:szT Try.prog 78=some 1:=by kernel_rfl
theorem ZgJ:ZL Try.prog 48=true:=by kernel_rfl
theorem en_49:ZL Try.prog 49=true:=by kernel_rfl
theorem en_50:ZL Try.prog 50=true:=by kernel_rfl
theorem ZlN:ZL Try.prog 51=true:=by kernel_rfl
theorem WY:flT Try.prog 57 0=some (0,1,false):=by kernel_rfl
theorem Wb:flT Try.prog 57 1=some (1,1,false):=by kernel_rfl
theorem Zni:stT Try.prog 102=some ([(.string ⟨#[]⟩),(.int .i64 0),(.string ⟨#[]⟩),(.slice none 0 0)],[(0,1),(1,3)]):=by kernel_rfl
theorem en_52:ZL Try.prog 52=true:=by kernel_rfl
theorem en_54:ZL Try.prog 54=true:=by kernel_rfl
theorem en_55:ZL Try.prog 55=true:=by kernel_rfl
theorem en_53:ZL Try.prog 53=true:=by kernel_rfl
theorem ZlO:ZL Try.prog 58=true:=by kernel_rfl
theorem ZgK:stT Try.prog 115=some ([(.map none),(.map none)],[(0,1),(1,1)]):=by kernel_rfl
theorem en_59:ZL Try.prog 59=true:=by kernel_rfl
theorem en_60:ZL Try.prog 60=true:=by kernel_rfl
theorem Zn4:zeroV Try.prog 119=some (.agg #[(.int .i64 0)]):=by kernel_rfl
theorem Zn5:zeroT Try.prog 119=some [(.int .i64 0)]:=by kernel_rfl
theorem szT_119:szT Try.prog 119=some 1:=by kernel_rfl
theorem Zn6:flT Try.prog 119 0=some (0,1,false):=by kernel_rfl
theorem en_61:ZL Try.prog 61=true:=by kernel_rfl
theorem Zdv:ldT Try.prog 150=some (1,false):=by kernel_rfl
theorem ZoR:ZL Try.prog 62=true:=by kernel_rfl
theorem stT_155:stT Try.prog 155=some ([(.int .i64 0),(.string ⟨#[]⟩),(.slice none 0 0),(.pointer none)],[(0,3),(3,1)]):=by kernel_rfl
theorem ni_155:WW Try.prog 155=true:=by kernel_rfl
theorem ZaS:ldT Try.prog 112=some (1,false):=by kernel_rfl
theorem Ja:flT Try.prog 115 0=some (0,1,false):=by kernel_rfl
theorem ZiF:flT Try.prog 123 0=some (0,2,true):=by kernel_rfl
theorem Zci:ldT Try.prog 121=some (1,false):=by kernel_rfl
theorem Znj:stT Try.prog 158=some ([(.pointer none),(.slice none 0 0)],[(0,1),(1,1)]):=by kernel_rfl
theorem ni_158:WW Try.prog 158=true:=by kernel_rfl
theorem en_63:ZL Try.prog 63=true:=by kernel_rfl
theorem stT_161:stT Try.prog 161=some ([(.string ⟨#[]⟩),(.slice none 0 0)],[(0,1),(1,1)]):=by kernel_rfl
theorem ni_161:WW Try.prog 161=true:=by kernel_rfl
theorem YA:elT Try.prog 151=some (125,1,16):=by kernel_rfl
theorem und_151:Try.prog.underlying 151=some (.slice 125):=by kernel_rfl
theorem Jw:ldT Try.prog 125=some (1,false):=by kernel_rfl
theorem en_64:ZL Try.prog 64=true:=by kernel_rfl
theorem Jb:zeroT Try.prog 161=some [(.string ⟨#[]⟩),(.slice none 0 0)]:=by kernel_rfl
theorem ZaT:szT Try.prog 161=some 2:=by kernel_rfl
theorem Zc5:szT Try.prog 3=some 1:=by kernel_rfl
theorem JZ:flT Try.prog 161 1=some (1,1,false):=by kernel_rfl
theorem Je:ldT Try.prog 151=some (1,false):=by kernel_rfl
theorem ZoS:ZL Try.prog 65=true:=by kernel_rfl
theorem ZiG:zeroV Try.prog 155=some (.agg #[(.int .i64 0),(.string ⟨#[]⟩),(.slice none 0 0),(.pointer none)]):=by kernel_rfl
theorem ZfG:zeroT Try.prog 155=some [(.int .i64 0),(.string ⟨#[]⟩),(.slice none 0 0),(.pointer none)]:=by kernel_rfl
theorem ZjL:szT Try.prog 155=some 4:=by kernel_rfl
theorem ZiH:flT Try.prog 155 0=some (0,3,true):=by kernel_rfl
theorem ZiI:flT Try.prog 155 1=some (3,1,false):=by kernel_rfl
theorem en_66:ZL Try.prog 66=true:=by kernel_rfl
theorem Zn7:zeroV Try.prog 158=some (.agg #[(.pointer none),(.slice none 0 0)]):=by kernel_rfl
theorem Zc6:zeroT Try.prog 158=some [(.pointer none),(.slice none 0 0)]:=by kernel_rfl
theorem ZgL:szT Try.prog 158=some 2:=by kernel_rfl
theorem ZaJ:flT Try.prog 158 1=some (1,1,false):=by kernel_rfl
theorem Zc7:flT Try.prog 161 0=some (0,1,false):=by kernel_rfl
theorem en_67:ZL Try.prog 67=true:=by kernel_rfl
theorem en_70:ZL Try.prog 70=true:=by kernel_rfl
theorem en_72:ZL Try.prog 72=true:=by kernel_rfl
theorem ZlP:ZL Try.prog 71=true:=by kernel_rfl
theorem en_73:ZL Try.prog 73=true:=by kernel_rfl
theorem en_74:ZL Try.prog 74=true:=by kernel_rfl
theorem en_76:ZL Try.prog 76=true:=by kernel_rfl
theorem en_77:ZL Try.prog 77=true:=by kernel_rfl
theorem ZhC:flT Try.prog 40 0=some (0,1,false):=by kernel_rfl
theorem Ze2:ZL Try.prog 78=true:=by kernel_rfl
theorem Zaw:ZL Try.prog 79=true:=by kernel_rfl
theorem Zd6:ZL Try.prog 80=true:=by kernel_rfl
theorem en_81:ZL Try.prog 81=true:=by kernel_rfl
theorem ZmL:ldT Try.prog 91=some (2,true):=by kernel_rfl
theorem szT_91:szT Try.prog 91=some 2:=by kernel_rfl
theorem Zc8:flT Try.prog 115 1=some (1,1,false):=by kernel_rfl
theorem ZgM:ldT Try.prog 113=some (1,false):=by kernel_rfl
theorem ZhD:flT Try.prog 91 0=some (0,1,false):=by kernel_rfl
theorem ZbM:flT Try.prog 91 1=some (1,1,false):=by kernel_rfl
theorem ZoT:ZL Try.prog 82=true:=by kernel_rfl
theorem Jx:zeroT Try.prog 125=some [.nilIface]:=by kernel_rfl
theorem ZiJ:flT Try.prog 180 0=some (0,1,false):=by kernel_rfl
theorem Zn8:flT Try.prog 180 1=some (1,1,false):=by kernel_rfl
theorem Zn9:flT Try.prog 180 2=some (2,1,false):=by kernel_rfl
theorem ZlQ:ZL Try.prog 83=true:=by kernel_rfl
theorem ZlR:ZL Try.prog 84=true:=by kernel_rfl
theorem en_85:ZL Try.prog 85=true:=by kernel_rfl
theorem ZjM:stT Try.prog 180=some ([(.string ⟨#[]⟩),.nilIface,(.pointer none)],[(0,1),(1,1),(2,1)]):=by kernel_rfl
theorem ZgN:ldT Try.prog 156=some (1,false):=by kernel_rfl
theorem Zc9:flT Try.prog 158 0=some (0,1,false):=by kernel_rfl
theorem en_86:ZL Try.prog 86=true:=by kernel_rfl
theorem en_69:ZL Try.prog 69=true:=by kernel_rfl
theorem en_68:ZL Try.prog 68=true:=by kernel_rfl
theorem Zfq:elT Try.prog 200=some (32,1,24):=by kernel_rfl
theorem zeroT_32:zeroT Try.prog 32=some [(.slice none 0 0)]:=by kernel_rfl
theorem en_87:ZL Try.prog 87=true:=by kernel_rfl
theorem ldT_96:ldT Try.prog 96=some (1,false):=by kernel_rfl
theorem ZoU:ZL Try.prog 88=true:=by kernel_rfl
theorem en_89:ZL Try.prog 89=true:=by kernel_rfl
theorem en_90:ZL Try.prog 90=true:=by kernel_rfl
theorem en_93:ZL Try.prog 93=true:=by kernel_rfl
theorem en_92:ZL Try.prog 92=true:=by kernel_rfl
theorem en_95:ZL Try.prog 95=true:=by kernel_rfl
theorem en_94:ZL Try.prog 94=true:=by kernel_rfl
theorem en_96:ZL Try.prog 96=true:=by kernel_rfl
theorem en_97:ZL Try.prog 97=true:=by kernel_rfl
theorem en_98:ZL Try.prog 98=true:=by kernel_rfl
theorem ZmM:ZL Try.prog 100=true:=by kernel_rfl
theorem en_99:ZL Try.prog 99=true:=by kernel_rfl
theorem en_101:ZL Try.prog 101=true:=by kernel_rfl
theorem ZeT:ZL Try.prog 102=true:=by kernel_rfl
theorem ZfH:flT Try.prog 123 1=some (2,1,false):=by kernel_rfl
theorem Zda:flT Try.prog 123 3=some (4,1,false):=by kernel_rfl
theorem en_103:ZL Try.prog 103=true:=by kernel_rfl
theorem en_104:ZL Try.prog 104=true:=by kernel_rfl
theorem en_105:ZL Try.prog 105=true:=by kernel_rfl
theorem en_91:ZL Try.prog 91=true:=by kernel_rfl
theorem zeroT_3:zeroT Try.prog 3=some [(.int .i64 0)]:=by kernel_rfl
theorem Zkf:ZL Try.prog 106=true:=by kernel_rfl
theorem ZfI:zeroT Try.prog 207=some [(.bool false),(.string ⟨#[]⟩),(.slice none 0 0),(.int .i64 0)]:=by kernel_rfl
theorem ZjN:szT Try.prog 207=some 4:=by kernel_rfl
theorem Zoa:flT Try.prog 207 1=some (3,1,false):=by kernel_rfl
theorem Zaa:flT Try.prog 207 0=some (0,3,true):=by kernel_rfl
theorem Zdw:ZL Try.prog 107=true:=by kernel_rfl
theorem Zik:ZL Try.prog 108=true:=by kernel_rfl
theorem zeroT_52:zeroT Try.prog 52=some [(.slice none 0 0)]:=by kernel_rfl
theorem ldT_52:ldT Try.prog 52=some (1,false):=by kernel_rfl
theorem szT_52:szT Try.prog 52=some 1:=by kernel_rfl
theorem Zbl:ZL Try.prog 109=true:=by kernel_rfl
theorem ZeU:ZL Try.prog 110=true:=by kernel_rfl
theorem stT_209:stT Try.prog 209=some ([(.string ⟨#[]⟩),(.pointer none)],[(0,1),(1,1)]):=by kernel_rfl
theorem Znk:elT Try.prog 188=some (5,1,1):=by kernel_rfl
theorem ldT_5:ldT Try.prog 5=some (1,false):=by kernel_rfl
theorem en_111:ZL Try.prog 111=true:=by kernel_rfl
theorem Zob:flT Try.prog 209 0=some (0,1,false):=by kernel_rfl
theorem Zoc:flT Try.prog 209 1=some (1,1,false):=by kernel_rfl
theorem ldT_195:ldT Try.prog 195=some (1,false):=by kernel_rfl
theorem ZiK:zeroT Try.prog 212=some [.nilFunc]:=by kernel_rfl
theorem Zil:ZL Try.prog 112=true:=by kernel_rfl
theorem Znl:szT Try.prog 212=some 1:=by kernel_rfl
theorem ZgO:ldT Try.prog 212=some (1,false):=by kernel_rfl
theorem Znm:ldT Try.prog 211=some (1,false):=by kernel_rfl
theorem Znn:stT Try.prog 207=some ([(.bool false),(.string ⟨#[]⟩),(.slice none 0 0),(.int .i64 0)],[(0,3),(3,1)]):=by kernel_rfl
theorem ZmN:ZL Try.prog 114=true:=by kernel_rfl
theorem Zim:ZL Try.prog 113=true:=by kernel_rfl
theorem en_115:ZL Try.prog 115=true:=by kernel_rfl
def Zw:GPlan:=.one [7,8,10,11,12] (Zg 34 9 43) (.tk 11 (Zc 10 44) .fin)
def Zv:GOp:=Zo 31 25 #[Zr 28,Zr 30,(.const (.int .i64 80))] #[80,34,3]
def Zu:GPlan:=.one [3,4,5,6,7,8,9] (Zo 66 25 #[Zr 64,Zr 65,(.const (.int .i64 80))] #[80,34,3]) (.tk 4 (Za 62 66) (.tk 5 (Zh 67 62 0) (.tk 6 (Zh 68 62 1) (.one [6,8,9] (Zg 74 12 67) .fin))))
def Zt:GPlan:=.one [3,4,5,6,7,8,9,10] (Zo 30 18 #[Zr 29] #[28]) (.one [4,5,6,7,8,9,10] Zv (.tk 5 (Za 26 31) (.tk 6 (Zh 32 26 0) (.tk 7 (Zh 33 26 1) (.one [7,9,10] (Zg 74 7 32) .fin)))))
def Zs:GPlan:=.one [3,4,5,6,7,8,9,10,11,12] (Zo 41 18 #[Zr 40] #[28]) (.one [4,5,6,7,8,9,10,11,12] (Zo 42 27 #[Zr 39,Zr 41] #[80,34]) (.tk 5 (Za 37 42) (.tk 6 (Zh 43 37 0) (.tk 7 (Zh 44 37 1) (.tk 8 (Zh 45 37 2) Zw)))))
def c5:ACode:=(.seq
 (.reg [Zj 2 71 0,Zj 3 28 1,Zq 4 (.assign (.const (.bool false)))])
 (.seq
 (.reg [Zb 14 28 3,Zo 15 8 #[Zr 14] #[28],Za 13 15,Zh 16 13 0,Zh 17 13 1,Zc 5 16,Zc 6 17])
 (.seq
 (.seq
 (.reg [Zb 18 71 2,Zo 19 24 #[Zr 18,(.const (.int .i64 200))] #[71,3],Zq 20 (.unOp .not 4 (Zr 19)),Za 21 20,Zp 22 (.move (Zr 5)) 21 false,Zp 23 (.binOp .gtr 3 (Zr 22) (.const (.int .i64 150)) 3) 21 false,Zq 24 (.pick (Zr 21) (.const (.bool true)) (Zr 23))])
 (.cond (Zr 24)
 (.seq
 (.reg [Zo 25 9 #[] #[],Zc 4 25]) .ret) .skip))
 (.seq
 (.dreg
 (.tk 0 (Zb 27 71 2)
 (.tk 2 (Zb 29 28 3)
 (.two [1,2,3,4,5,6,7,8,9,10] (Zo 28 26 #[Zr 27] #[71])
 (.two [3,4,5,6,7,8,9,10] (Zo 30 18 #[Zr 29] #[28])
 (.two [4,5,6,7,8,9,10] Zv
 (.tk 5 (Za 26 31)
 (.tk 6 (Zh 32 26 0)
 (.tk 7 (Zh 33 26 1)
 (.one [0,1,2,3,4,5,6,7,8,9,10] (Zi 7 74)
 (.one [7,9,10] (Zg 74 7 32) .fin))))) [0,1,2,3,4,5,6,7,8,9,10] (Zi 7 74)
 (.one [4,5,6,7,8,9,10] Zv
 (.tk 5 (Za 26 31)
 (.tk 6 (Zh 32 26 0)
 (.tk 7 (Zh 33 26 1)
 (.one [7,9,10] (Zg 74 7 32) .fin)))))) [0,1,2,3,4,5,6,7,8,9,10] (Zi 7 74) Zt) [0,1,2,3,4,5,6,7,8,9,10] (Zi 7 74)
 (.one [1,2,3,4,5,6,7,8,9,10] (Zo 28 26 #[Zr 27] #[71]) Zt)))) [Zc 8 33])
 (.seq
 (.seq
 (.reg [Za 34 8,Zm 35 .neq 35 34 0])
 (.cond (Zr 35)
 (.seq
 (.reg [Zo 36 9 #[] #[],Zc 4 36]) .ret) .skip))
 (.seq
 (.dreg
 (.tk 0 (Zb 38 71 2)
 (.tk 2 (Zb 40 28 3)
 (.two [1,2,3,4,5,6,7,8,9,10,11,12] (Zo 39 26 #[Zr 38] #[71])
 (.two [3,4,5,6,7,8,9,10,11,12] (Zo 41 18 #[Zr 40] #[28])
 (.two [4,5,6,7,8,9,10,11,12] (Zo 42 27 #[Zr 39,Zr 41] #[80,34])
 (.tk 5 (Za 37 42)
 (.tk 6 (Zh 43 37 0)
 (.tk 7 (Zh 44 37 1)
 (.tk 8 (Zh 45 37 2)
 (.one [0,1,2,3,4,5,6,7,8,9,10,11,12] (Zi 9 34) Zw))))) [0,1,2,3,4,5,6,7,8,9,10,11,12] (Zi 9 34)
 (.one [4,5,6,7,8,9,10,11,12] (Zo 42 27 #[Zr 39,Zr 41] #[80,34])
 (.tk 5 (Za 37 42)
 (.tk 6 (Zh 43 37 0)
 (.tk 7 (Zh 44 37 1)
 (.tk 8 (Zh 45 37 2) Zw)))))) [0,1,2,3,4,5,6,7,8,9,10,11,12] (Zi 9 34) Zs) [0,1,2,3,4,5,6,7,8,9,10,11,12] (Zi 9 34)
 (.one [1,2,3,4,5,6,7,8,9,10,11,12] (Zo 39 26 #[Zr 38] #[71]) Zs)))) [Zc 11 45])
 (.seq
 (.seq
 (.reg [Za 46 11,Zm 47 .neq 35 46 0])
 (.cond (Zr 47)
 (.seq
 (.reg [Zq 4 (.assign (.const (.bool false)))]) .ret) .skip))
 (.seq
 (.seq
 (.reg [Za 48 10,Zq 49 (.unOp .not 4 (Zr 48))])
 (.cond (Zr 49)
 (.seq
 (.dreg
 (.tk 0 (Zd 50 74 7 1)
 (.tk 1 (Zb 51 3 50)
 (.tk 2 (Zm 52 .eql 3 51 0)
 (.tk 3 (Za 53 52)
 (.tk 4 (Zp 54 (.load 34 (Zr 9)) 53 true)
 (.tk 5 (Zp 55 (.load 28 (Zr 3)) 53 true)
 (.one [4,6,7,8,9,10,11,12] (Zp 56 (.call { callee:=(.value (.func 18)),args:=#[Zr 55],argTypes:=#[28] }) 53 true) .fin))))))) [Zp 57 (.call { callee:=(.value (.func 14)),args:=#[Zr 54,Zr 56],argTypes:=#[34,34] }) 53 true,Zq 58 (.pick (Zr 53) (Zr 57) (.const (.bool false))),Za 59 58,Zp 60 (.call { callee:=(.value (.func 9)),args:=#[],argTypes:=#[] }) 59 true,Zq 61 (.pick (Zr 59) (Zr 60) (.const (.bool false))),Zc 4 61]) .ret) .skip))
 (.seq
 (.dreg
 (.tk 0 (Zb 63 71 2)
 (.tk 2 (Zb 65 34 9)
 (.two [1,2,3,4,5,6,7,8,9] (Zo 64 26 #[Zr 63] #[71])
 (.two [3,4,5,6,7,8,9] (Zo 66 25 #[Zr 64,Zr 65,(.const (.int .i64 80))] #[80,34,3])
 (.tk 4 (Za 62 66)
 (.tk 5 (Zh 67 62 0)
 (.tk 6 (Zh 68 62 1)
 (.one [0,1,2,3,4,5,6,7,8,9] (Zi 12 74)
 (.one [6,8,9] (Zg 74 12 67) .fin))))) [0,1,2,3,4,5,6,7,8,9] (Zi 12 74) Zu) [0,1,2,3,4,5,6,7,8,9] (Zi 12 74)
 (.one [1,2,3,4,5,6,7,8,9] (Zo 64 26 #[Zr 63] #[71]) Zu)))) [Zc 8 68])
 (.seq
 (.seq
 (.reg [Za 69 8,Zm 70 .eql 35 69 7,Za 71 70,Zp 72 (.move (Zr 8)) 71 false,Zp 73 (.binOp .eql 35 (Zr 72) (.const (.int .i64 6)) 35) 71 false,Zq 74 (.pick (Zr 71) (.const (.bool true)) (Zr 73))])
 (.cond (Zr 74)
 (.seq
 (.reg [Zo 75 9 #[] #[],Zc 4 75]) .ret) .skip))
 (.seq
 (.reg [Za 76 8,Zm 77 .eql 35 76 0,Za 78 77,Zp 79 (.fieldAddr 74 (Zr 12) 0) 78 true,Zp 80 (.load 34 (Zr 79)) 78 true,Zp 81 (.fieldAddr 74 (Zr 7) 0) 78 true,Zp 82 (.load 34 (Zr 81)) 78 true,Zp 83 (.call { callee:=(.value (.func 14)),args:=#[Zr 80,Zr 82],argTypes:=#[34,34] }) 78 true,Zq 84 (.pick (Zr 78) (Zr 83) (.const (.bool false))),Za 85 84,Zp 86 (.fieldAddr 74 (Zr 12) 1) 85 true,Zp 87 (.load 3 (Zr 86)) 85 true,Zp 88 (.fieldAddr 74 (Zr 7) 1) 85 true,Zp 89 (.load 3 (Zr 88)) 85 true,Zp 90 (.binOp .sub 3 (Zr 89) (.const (.int .i64 1)) 3) 85 true,Zp 91 (.binOp .eql 3 (Zr 87) (Zr 90) 3) 85 true,Zq 92 (.pick (Zr 85) (Zr 91) (.const (.bool false))),Za 93 92,Zp 94 (.call { callee:=(.value (.func 9)),args:=#[],argTypes:=#[] }) 93 true,Zq 95 (.pick (Zr 93) (Zr 94) (.const (.bool false))),Zc 4 95]) .ret)))))))))))
theorem fd5:FnD Try.prog 5 96 [(.tmp 4)] c5:=⟨⟨Try.f5,Try.f5.body.getD .skip,Try.func5,by kernel_rfl,by kernel_rfl,by kernel_rfl,by kernel_rfl⟩⟩
def b7_1:ACode:=(.seq
 (.reg [Zn 31 .lss 3 30 29])
 (.seq
 (.cond (Zr 31) .skip (.exit 2))
 (.seq
 (.block 3
 (.seq
 (.reg [Zk 32 44 28 30,Zb 33 50 32,Zi 9 50,Zg 50 9 33])
 (.reg [Za 34 3,Zb 35 50 9,Zo 36 15 #[Zr 35] #[50],Zn 37 .add 3 34 36,Zc 3 37])))
 (.reg [Zm 38 .add 3 30 1,Za 30 38]))))
def c7_1:ACode:=(.reg [Zm 39 .add 3 13 1,Za 13 39])
def b7_2:ACode:=(.seq
 (.reg [Zn 14 .lss 3 13 12])
 (.seq
 (.cond (Zr 14) .skip (.exit 0))
 (.seqL
 (.block 1
 (.seq
 (.reg [Zk 15 22 11 13,Zb 16 46 15,Zi 5 46,Zg 46 5 16])
 (.seq
 (.reg [Zd 18 46 5 1,Zb 19 28 18,Zo 20 8 #[Zr 19] #[28],Za 17 20,Zh 21 17 0,Zh 22 17 1,Zc 6 21,Zc 7 22])
 (.seq
 (.reg [Za 23 3,Za 24 6,Zq 25 (.binOp .add 3 (.const (.int .i64 1)) (Zr 24) 3),Zn 26 .add 3 23 25,Zc 3 26])
 (.seq
 (.reg [Zd 27 46 5 0,Zb 28 44 27,Ze 29 28 44,Zq 30 (.move (.const (.int .i64 0)))])
 (.block 2 (.loop b7_1))))))) c7_1)))
def c7_2:ACode:=(.seq
 (.reg [Za 40 3,Zc 2 40]) .ret)
def c7:ACode:=(.seq
 (.reg [Zj 1 24 0,Zf 2 0])
 (.seq
 (.reg [Zf 3 1])
 (.seqL
 (.seq
 (.reg [Zd 10 24 1 2,Zb 11 22 10,Ze 12 11 22,Zq 13 (.move (.const (.int .i64 0)))])
 (.block 0 (.loop b7_2))) c7_2)))
theorem fd7:FnD Try.prog 7 41 [(.tmp 2)] c7:=⟨⟨Try.f7,Try.f7.body.getD .skip,Try.func7,by kernel_rfl,by kernel_rfl,by kernel_rfl,by kernel_rfl⟩⟩
def c8:ACode:=(.seq
 (.reg [Zj 1 28 0,Zf 2 0,Zf 3 0])
 (.seq
 (.reg [Zb 4 28 1,Zo 5 29 #[Zr 4] #[28],Zh 6 5 0,Zh 7 5 1,Zc 2 6,Zc 3 7]) .ret))
theorem fd8:FnD Try.prog 8 8 [(.tmp 2),(.tmp 3)] c8:=⟨⟨Try.f8,Try.f8.body.getD .skip,Try.func8,by kernel_rfl,by kernel_rfl,by kernel_rfl,by kernel_rfl⟩⟩
def ZC:GOp:=Zo 48 25 #[Zr 38,Zr 47,(.const (.int .i64 10))] #[80,34,3]
def ZB:GPlan:=.one [0,9,10,11,12,13,14,15,16] (Zq 47 (.call { callee:=(.value (Zr 39)),args:=#[Zr 44,Zr 46],argTypes:=#[34,34] })) (.one [10,11,12,13,14,15,16] ZC (.tk 11 (Za 37 48) (.tk 12 (Zh 49 37 0) (.tk 13 (Zh 50 37 1) (.one [13,15,16] (Zg 74 6 49) .fin)))))
def ZA:GPlan:=.one [0,1,6,7,8,9,10,11,12,13,14,15,16] (Zq 44 (.call { callee:=(.value (Zr 40)),args:=#[(.const (.string { data:=#[83,117,99] })),Zr 43],argTypes:=#[9,32] })) (.one [0,1,8,9,10,11,12,13,14,15,16] (Zq 46 (.call { callee:=(.value (Zr 45)),args:=#[(.const (.string { data:=#[90,101,114,111] })),(.const (.slice none 0 0))],argTypes:=#[9,32] })) ZB)
def Zz:GPlan:=.one [0,1,2,3,4,5,8,9,10,11,12,13,14,20,21,22,23,24,25,26,27,28,29] (Zq 29 (.call { callee:=(.value (Zr 24)),args:=#[Zr 26,Zr 28],argTypes:=#[34,34] })) (.tk 21 (Zq 30 (.buildSlice 32 1 #[(0,(Zr 29))])) (.one [0,1,2,3,4,5,8,9,10,11,12,13,22,23,24,25,26,27,28,29] (Zq 31 (.call { callee:=(.value (Zr 23)),args:=#[(.const (.string { data:=#[83,117,99] })),Zr 30],argTypes:=#[9,32] })) (.tk 23 (Zq 32 (.build 93 #[(0,(Zr 22)),(1,(Zr 31))])) (.tk 24 (Zq 33 (.buildSlice 38 2 #[(0,(Zr 17)),(1,(Zr 32))])) (.tk 25 (Zq 34 (.build 40 #[(0,(.const (.string { data:=#[97,100,100] }))),(1,(.const (.int .i64 2))),(2,(Zr 33))])) (.tk 26 (Zq 35 (.buildSlice 78 1 #[(0,(Zr 34))])) (.tk 27 (Zq 36 (.build 80 #[(0,(Zr 11)),(1,(Zr 35))])) .fin)))))))
def Zy:GPlan:=.one [0,1,2,3,4,5,8,9,10,11,12,13,14,15,17,18,19,20,21,22,23,24,25,26,27,28,29] (Zq 26 (.call { callee:=(.value (Zr 25)),args:=#[(.const (.string { data:=#[120] }))],argTypes:=#[9] })) (.one [0,1,2,3,4,5,8,9,10,11,12,13,14,15,19,20,21,22,23,24,25,26,27,28,29] (Zq 28 (.call { callee:=(.value (Zr 27)),args:=#[(.const (.string { data:=#[121] }))],argTypes:=#[9] })) Zz)
def c9:ACode:=(.seq
 (.reg [Zq 0 (.assign (.const (.bool false)))])
 (.seq
 (.reg [Zq 1 (.assign (.func 30))])
 (.seq
 (.reg [Zq 2 (.assign (.func 31))])
 (.seq
 (.reg [Zq 3 (.assign (.func 32))])
 (.seq
 (.reg [Zq 8 (.build 57 #[(1,(.const (.string { data:=#[121] })))]),Zi 4 57,Zg 57 4 8])
 (.seq
 (.dreg
 (.tk 0 (Zq 9 (.build 91 #[(0,(.const (.string { data:=#[90,101,114,111] })))]))
 (.tk 1 (Zq 10 (.build 91 #[(0,(.const (.string { data:=#[83,117,99] }))),(1,(.const (.int .i64 1)))]))
 (.tk 2 (Zq 11 (.buildSlice 77 2 #[(0,(Zr 9)),(1,(Zr 10))]))
 (.tk 3 (Zq 12 (.build 57 #[(0,(.const (.bool true))),(1,(.const (.string { data:=#[90,101,114,111] })))]))
 (.tk 4 (Zb 13 57 4)
 (.tk 5 (Zq 14 (.buildSlice 55 2 #[(0,(Zr 12)),(1,(Zr 13))]))
 (.tk 6 (Za 15 1)
 (.tk 9 (Zq 18 (.build 57 #[(1,(.const (.string { data:=#[120] })))]))
 (.tk 10 (Zq 19 (.buildSlice 55 1 #[(0,(Zr 18))]))
 (.tk 11 (Zq 20 (.build 57 #[(0,(.const (.bool true))),(1,(.const (.string { data:=#[83,117,99] }))),(2,(Zr 19))]))
 (.tk 12 (Zb 21 57 4)
 (.tk 13 (Zq 22 (.buildSlice 55 2 #[(0,(Zr 20)),(1,(Zr 21))]))
 (.tk 14 (Za 23 2)
 (.tk 15 (Za 24 3)
 (.tk 16 (Za 25 1)
 (.tk 18 (Za 27 1)
 (.two [0,1,2,3,4,5,7,8,9,10,11,12,13,14,15,16,17,18,19,20,21,22,23,24,25,26,27,28,29] (Zq 16 (.call { callee:=(.value (Zr 15)),args:=#[(.const (.string { data:=#[121] }))],argTypes:=#[9] }))
 (.tk 8 (Zq 17 (.build 93 #[(0,(Zr 14)),(1,(Zr 16))]))
 (.two [0,1,2,3,4,5,8,9,10,11,12,13,14,15,17,18,19,20,21,22,23,24,25,26,27,28,29] (Zq 26 (.call { callee:=(.value (Zr 25)),args:=#[(.const (.string { data:=#[120] }))],argTypes:=#[9] }))
 (.two [0,1,2,3,4,5,8,9,10,11,12,13,14,15,19,20,21,22,23,24,25,26,27,28,29] (Zq 28 (.call { callee:=(.value (Zr 27)),args:=#[(.const (.string { data:=#[121] }))],argTypes:=#[9] }))
 (.two [0,1,2,3,4,5,8,9,10,11,12,13,14,20,21,22,23,24,25,26,27,28,29] (Zq 29 (.call { callee:=(.value (Zr 24)),args:=#[Zr 26,Zr 28],argTypes:=#[34,34] }))
 (.tk 21 (Zq 30 (.buildSlice 32 1 #[(0,(Zr 29))]))
 (.two [0,1,2,3,4,5,8,9,10,11,12,13,22,23,24,25,26,27,28,29] (Zq 31 (.call { callee:=(.value (Zr 23)),args:=#[(.const (.string { data:=#[83,117,99] })),Zr 30],argTypes:=#[9,32] }))
 (.tk 23 (Zq 32 (.build 93 #[(0,(Zr 22)),(1,(Zr 31))]))
 (.tk 24 (Zq 33 (.buildSlice 38 2 #[(0,(Zr 17)),(1,(Zr 32))]))
 (.tk 25 (Zq 34 (.build 40 #[(0,(.const (.string { data:=#[97,100,100] }))),(1,(.const (.int .i64 2))),(2,(Zr 33))]))
 (.tk 26 (Zq 35 (.buildSlice 78 1 #[(0,(Zr 34))]))
 (.tk 27 (Zq 36 (.build 80 #[(0,(Zr 11)),(1,(Zr 35))]))
 (.one [0,1,2,3,4,5,6,7,8,9,10,11,12,13,14,15,16,17,18,19,20,21,22,23,24,25,26,27,28,29] (Zi 5 80) .fin)))))) [0,1,2,3,4,5,6,7,8,9,10,11,12,13,14,15,16,17,18,19,20,21,22,23,24,25,26,27,28,29] (Zi 5 80)
 (.one [0,1,2,3,4,5,8,9,10,11,12,13,22,23,24,25,26,27,28,29] (Zq 31 (.call { callee:=(.value (Zr 23)),args:=#[(.const (.string { data:=#[83,117,99] })),Zr 30],argTypes:=#[9,32] }))
 (.tk 23 (Zq 32 (.build 93 #[(0,(Zr 22)),(1,(Zr 31))]))
 (.tk 24 (Zq 33 (.buildSlice 38 2 #[(0,(Zr 17)),(1,(Zr 32))]))
 (.tk 25 (Zq 34 (.build 40 #[(0,(.const (.string { data:=#[97,100,100] }))),(1,(.const (.int .i64 2))),(2,(Zr 33))]))
 (.tk 26 (Zq 35 (.buildSlice 78 1 #[(0,(Zr 34))]))
 (.tk 27 (Zq 36 (.build 80 #[(0,(Zr 11)),(1,(Zr 35))])) .fin)))))))) [0,1,2,3,4,5,6,7,8,9,10,11,12,13,14,15,16,17,18,19,20,21,22,23,24,25,26,27,28,29] (Zi 5 80) Zz) [0,1,2,3,4,5,6,7,8,9,10,11,12,13,14,15,16,17,18,19,20,21,22,23,24,25,26,27,28,29] (Zi 5 80)
 (.one [0,1,2,3,4,5,8,9,10,11,12,13,14,15,19,20,21,22,23,24,25,26,27,28,29] (Zq 28 (.call { callee:=(.value (Zr 27)),args:=#[(.const (.string { data:=#[121] }))],argTypes:=#[9] })) Zz)) [0,1,2,3,4,5,6,7,8,9,10,11,12,13,14,15,16,17,18,19,20,21,22,23,24,25,26,27,28,29] (Zi 5 80) Zy)) [0,1,2,3,4,5,6,7,8,9,10,11,12,13,14,15,16,17,18,19,20,21,22,23,24,25,26,27,28,29] (Zi 5 80)
 (.one [0,1,2,3,4,5,7,8,9,10,11,12,13,14,15,16,17,18,19,20,21,22,23,24,25,26,27,28,29] (Zq 16 (.call { callee:=(.value (Zr 15)),args:=#[(.const (.string { data:=#[121] }))],argTypes:=#[9] }))
 (.tk 8 (Zq 17 (.build 93 #[(0,(Zr 14)),(1,(Zr 16))])) Zy))))))))))))))))))) [Zg 80 5 36])
 (.seq
 (.dreg
 (.tk 0 (Zb 38 80 5)
 (.tk 1 (Za 39 3)
 (.tk 2 (Za 40 2)
 (.tk 3 (Za 41 2)
 (.tk 7 (Za 45 2)
 (.two [0,1,2,4,5,6,7,8,9,10,11,12,13,14,15,16] (Zq 42 (.call { callee:=(.value (Zr 41)),args:=#[(.const (.string { data:=#[90,101,114,111] })),(.const (.slice none 0 0))],argTypes:=#[9,32] }))
 (.tk 5 (Zq 43 (.buildSlice 32 1 #[(0,(Zr 42))]))
 (.two [0,1,6,7,8,9,10,11,12,13,14,15,16] (Zq 44 (.call { callee:=(.value (Zr 40)),args:=#[(.const (.string { data:=#[83,117,99] })),Zr 43],argTypes:=#[9,32] }))
 (.two [0,1,8,9,10,11,12,13,14,15,16] (Zq 46 (.call { callee:=(.value (Zr 45)),args:=#[(.const (.string { data:=#[90,101,114,111] })),(.const (.slice none 0 0))],argTypes:=#[9,32] }))
 (.two [0,9,10,11,12,13,14,15,16] (Zq 47 (.call { callee:=(.value (Zr 39)),args:=#[Zr 44,Zr 46],argTypes:=#[34,34] }))
 (.two [10,11,12,13,14,15,16] ZC
 (.tk 11 (Za 37 48)
 (.tk 12 (Zh 49 37 0)
 (.tk 13 (Zh 50 37 1)
 (.one [0,1,2,3,4,5,6,7,8,9,10,11,12,13,14,15,16] (Zi 6 74)
 (.one [13,15,16] (Zg 74 6 49) .fin))))) [0,1,2,3,4,5,6,7,8,9,10,11,12,13,14,15,16] (Zi 6 74)
 (.one [10,11,12,13,14,15,16] ZC
 (.tk 11 (Za 37 48)
 (.tk 12 (Zh 49 37 0)
 (.tk 13 (Zh 50 37 1)
 (.one [13,15,16] (Zg 74 6 49) .fin)))))) [0,1,2,3,4,5,6,7,8,9,10,11,12,13,14,15,16] (Zi 6 74) ZB) [0,1,2,3,4,5,6,7,8,9,10,11,12,13,14,15,16] (Zi 6 74)
 (.one [0,1,8,9,10,11,12,13,14,15,16] (Zq 46 (.call { callee:=(.value (Zr 45)),args:=#[(.const (.string { data:=#[90,101,114,111] })),(.const (.slice none 0 0))],argTypes:=#[9,32] })) ZB)) [0,1,2,3,4,5,6,7,8,9,10,11,12,13,14,15,16] (Zi 6 74) ZA)) [0,1,2,3,4,5,6,7,8,9,10,11,12,13,14,15,16] (Zi 6 74)
 (.one [0,1,2,4,5,6,7,8,9,10,11,12,13,14,15,16] (Zq 42 (.call { callee:=(.value (Zr 41)),args:=#[(.const (.string { data:=#[90,101,114,111] })),(.const (.slice none 0 0))],argTypes:=#[9,32] }))
 (.tk 5 (Zq 43 (.buildSlice 32 1 #[(0,(Zr 42))])) ZA)))))))) [Zc 7 50])
 (.seq
 (.reg [Za 51 7,Zm 52 .eql 35 51 0,Za 53 52,Zp 54 (.fieldAddr 74 (Zr 6) 1) 53 true,Zp 55 (.load 3 (Zr 54)) 53 true,Zp 56 (.binOp .eql 3 (Zr 55) (.const (.int .i64 2)) 3) 53 true,Zq 57 (.pick (Zr 53) (Zr 56) (.const (.bool false))),Za 58 57,Zp 59 (.fieldAddr 74 (Zr 6) 0) 58 true,Zp 60 (.fieldAddr 34 (Zr 59) 1) 58 true,Zp 61 (.load 9 (Zr 60)) 58 true,Zp 62 (.binOp .eql 9 (Zr 61) (.const (.string { data:=#[83,117,99] })) 9) 58 true,Zq 63 (.pick (Zr 58) (Zr 62) (.const (.bool false))),Za 64 63,Zp 65 (.fieldAddr 74 (Zr 6) 0) 64 true,Zp 66 (.fieldAddr 34 (Zr 65) 2) 64 true,Zp 67 (.load 32 (Zr 66)) 64 true,Zp 68 (.call { callee:=(.builtin .len),args:=#[Zr 67],argTypes:=#[32] }) 64 true,Zp 69 (.binOp .eql 3 (Zr 68) (.const (.int .i64 1)) 3) 64 true,Zq 70 (.pick (Zr 64) (Zr 69) (.const (.bool false))),Za 71 70,Zp 72 (.fieldAddr 74 (Zr 6) 0) 71 true,Zp 73 (.fieldAddr 34 (Zr 72) 2) 71 true,Zp 74 (.load 32 (Zr 73)) 71 true,Zp 75 (.indexAddr 32 (Zr 74) (.const (.int .i64 0))) 71 true,Zp 76 (.fieldAddr 34 (Zr 75) 1) 71 true,Zp 77 (.load 9 (Zr 76)) 71 true,Zp 78 (.binOp .eql 9 (Zr 77) (.const (.string { data:=#[90,101,114,111] })) 9) 71 true,Zq 79 (.pick (Zr 71) (Zr 78) (.const (.bool false))),Zc 0 79]) .ret))))))))
theorem fd9:FnD Try.prog 9 80 [(.tmp 0)] c9:=⟨⟨Try.f9,Try.f9.body.getD .skip,Try.func9,by kernel_rfl,by kernel_rfl,by kernel_rfl,by kernel_rfl⟩⟩
def b10_1:ACode:=(.seq
 (.reg [Zn 24 .lss 3 23 22])
 (.seq
 (.cond (Zr 24) .skip (.exit 0))
 (.seq
 (.block 1
 (.seq
 (.reg [Zk 25 38 21 23,Zb 26 93 25,Zi 8 93,Zg 93 8 26])
 (.seq
 (.seq
 (.reg [Zd 27 93 8 0,Zb 28 55 27,Ze 29 28 55,Zd 30 40 2 1,Zb 31 3 30,Zn 32 .neq 3 29 31])
 (.cond (Zr 32)
 (.seq
 (.reg [Zq 33 (.build 34 #[]),Zf 4 0,Zg 34 5 33,Zf 6 5]) .ret) .skip))
 (.seq
 (.reg [Zd 34 93 8 0,Zb 35 55 34,Zo 36 34 #[Zr 35] #[55],Zo 37 33 #[Zr 36] #[52]])
 (.cond (Zr 37)
 (.seq
 (.reg [Zq 38 (.build 34 #[]),Zf 4 0,Zg 34 5 38,Zf 6 10]) .ret) .skip)))))
 (.reg [Zm 39 .add 3 23 1,Za 23 39]))))
def b10_2:ACode:=(.seq
 (.seq
 (.reg [Za 48 13,Za 49 1,Ze 50 49 32,Zn 51 .lss 3 48 50,Za 52 51,Zp 53 (.move (Zr 12)) 52 true,Zq 54 (.pick (Zr 52) (Zr 53) (.const (.bool false)))])
 (.cond (Zr 54) .skip (.exit 4)))
 (.seq
 (.block 5
 (.dreg
 (.tk 0 (Zd 58 93 10 0)
 (.tk 1 (Zb 59 55 58)
 (.tk 2 (Za 60 13)
 (.tk 3 (Zk 61 55 59 60)
 (.tk 4 (Zb 62 57 61)
 (.tk 5 (Za 63 1)
 (.tk 6 (Za 64 13)
 (.tk 7 (Zk 65 32 63 64)
 (.tk 8 (Zb 66 34 65)
 (.tk 9 (Za 67 11)
 (.one [10,11,12,13,14,15] (Zo 68 35 #[Zr 62,Zr 66,Zr 67] #[57,34,96])
 (.tk 11 (Za 57 68)
 (.tk 12 (Zh 69 57 0)
 (.tk 13 (Zh 70 57 1)
 (.tk 14 (Zc 11 69) .fin))))))))))))))) [Zc 12 70]))
 (.reg [Za 55 13,Zm 56 .add 3 55 1,Zc 13 56])))
def ZoV:ACode:=(.seq
 (.reg [Za 71 12])
 (.cond (Zr 71)
 (.seq
 (.reg [Za 72 9,Zd 73 93 10 1,Zb 74 34 73,Za 75 11,Zo 76 36 #[Zr 74,Zr 75] #[34,96],Zc 4 72,Zg 34 5 76,Zf 6 0]) .ret) .skip))
def c10_2:ACode:=(.reg [Zm 77 .add 3 43 1,Za 43 77])
def b10_3:ACode:=(.seq
 (.reg [Zn 44 .lss 3 43 42])
 (.seq
 (.cond (Zr 44) .skip (.exit 2))
 (.seqL
 (.block 3
 (.seq
 (.reg [Za 45 43,Zk 46 38 41 43,Zb 47 93 46,Zi 10 93,Zc 9 45,Zg 93 10 47])
 (.seq
 (.reg [Zq 11 (.assign (.const (.slice none 0 0)))])
 (.seq
 (.reg [Zq 12 (.assign (.const (.bool true)))])
 (.seqL
 (.seq
 (.reg [Zf 13 0])
 (.block 4 (.loop b10_2))) ZoV))))) c10_2)))
def c10_3:ACode:=(.seq
 (.reg [Zq 78 (.build 34 #[]),Zf 4 0,Zg 34 5 78,Zf 6 420]) .ret)
def c10_4:ACode:=(.seqL
 (.seq
 (.reg [Zd 40 40 2 2,Zb 41 38 40,Ze 42 41 38,Zq 43 (.move (.const (.int .i64 0)))])
 (.block 2 (.loop b10_3))) c10_3)
def c10:ACode:=(.seq
 (.reg [Zj 2 40 0,Zf 4 0,Zi 5 34,Zf 6 0])
 (.seq
 (.seq
 (.reg [Za 14 1,Ze 15 14 32,Zd 16 40 2 1,Zb 17 3 16,Zn 18 .neq 3 15 17])
 (.cond (Zr 18)
 (.seq
 (.reg [Zq 19 (.build 34 #[]),Zf 4 0,Zg 34 5 19,Zf 6 5]) .ret) .skip))
 (.seqL
 (.seq
 (.reg [Zd 20 40 2 2,Zb 21 38 20,Ze 22 21 38,Zq 23 (.move (.const (.int .i64 0)))])
 (.block 0 (.loop b10_1))) c10_4)))
theorem fd10:FnD Try.prog 10 79 [(.tmp 4),(.cell 5 34),(.tmp 6)] c10:=⟨⟨Try.f10,Try.f10.body.getD .skip,Try.func10,by kernel_rfl,by kernel_rfl,by kernel_rfl,by kernel_rfl⟩⟩
def b11_1:ACode:=(.seq
 (.reg [Zn 29 .lss 3 28 27])
 (.seq
 (.cond (Zr 29) .skip (.exit 2))
 (.seq
 (.block 3
 (.seq
 (.reg [Zk 30 44 26 28,Zb 31 50 30,Zi 8 50,Zg 50 8 31])
 (.dreg
 (.tk 0 (Zd 32 93 6 0)
 (.tk 1 (Zb 33 55 32)
 (.tk 2 (Zb 34 50 8)
 (.one [0,1,3,4,5,6,7] (Zo 35 17 #[Zr 34] #[50])
 (.tk 4 (Zq 36 (.buildSlice 55 1 #[(0,(Zr 35))])) .fin))))) [Zl 37 33 36 55,Zd 38 93 6 0,Zg 55 38 37])))
 (.reg [Zm 39 .add 3 28 1,Za 28 39]))))
def c11_1:ACode:=(.reg [Zd 40 40 3 2,Zb 41 38 40,Zb 42 93 6,Zq 43 (.buildSlice 38 1 #[(0,(Zr 42))]),Zl 44 41 43 38,Zd 45 40 3 2,Zg 38 45 44])
def c11_2:ACode:=(.reg [Zm 46 .add 3 17 1,Za 17 46])
def b11_2:ACode:=(.seq
 (.reg [Zn 18 .lss 3 17 16])
 (.seq
 (.cond (Zr 18) .skip (.exit 0))
 (.seqL
 (.block 1
 (.seq
 (.reg [Zk 19 22 15 17,Zb 20 46 19,Zi 5 46,Zg 46 5 20])
 (.seq
 (.reg [Zd 21 46 5 1,Zb 22 28 21,Zo 23 18 #[Zr 22] #[28],Zq 24 (.build 93 #[(1,(Zr 23))]),Zi 6 93,Zg 93 6 24])
 (.seqL
 (.seq
 (.reg [Zd 25 46 5 0,Zb 26 44 25,Ze 27 26 44,Zq 28 (.move (.const (.int .i64 0)))])
 (.block 2 (.loop b11_1))) c11_1)))) c11_2)))
def c11_3:ACode:=(.seq
 (.reg [Zb 47 40 3,Zg 40 2 47]) .ret)
def c11:ACode:=(.seq
 (.reg [Zj 1 24 0,Zi 2 40])
 (.seq
 (.reg [Zd 9 24 1 0,Zb 10 9 9,Zd 11 24 1 1,Zb 12 3 11,Zq 13 (.build 40 #[(0,(Zr 10)),(1,(Zr 12))]),Zi 3 40,Zg 40 3 13])
 (.seqL
 (.seq
 (.reg [Zd 14 24 1 2,Zb 15 22 14,Ze 16 15 22,Zq 17 (.move (.const (.int .i64 0)))])
 (.block 0 (.loop b11_2))) c11_3)))
theorem fd11:FnD Try.prog 11 48 [(.cell 2 40)] c11:=⟨⟨Try.f11,Try.f11.body.getD .skip,Try.func11,by kernel_rfl,by kernel_rfl,by kernel_rfl,by kernel_rfl⟩⟩
def c14:ACode:=(.seq
 (.reg [Zj 2 34 0,Zj 3 34 1,Zq 4 (.assign (.const (.bool false)))])
 (.seq
 (.reg [Zd 5 34 2 0,Zb 6 3 5,Zd 7 34 3 0,Zb 8 3 7,Zn 9 .eql 3 6 8,Za 10 9,Zp 11 (.fieldAddr 34 (Zr 2) 1) 10 true,Zp 12 (.load 9 (Zr 11)) 10 true,Zp 13 (.fieldAddr 34 (Zr 3) 1) 10 true,Zp 14 (.load 9 (Zr 13)) 10 true,Zp 15 (.binOp .eql 9 (Zr 12) (Zr 14) 9) 10 true,Zq 16 (.pick (Zr 10) (Zr 15) (.const (.bool false))),Za 17 16,Zp 18 (.fieldAddr 34 (Zr 2) 2) 17 true,Zp 19 (.load 32 (Zr 18)) 17 true,Zp 20 (.fieldAddr 34 (Zr 3) 2) 17 true,Zp 21 (.load 32 (Zr 20)) 17 true,Zp 22 (.call { callee:=(.value (.func 37)),args:=#[Zr 19,Zr 21,(.func 14)],argTypes:=#[32,32,47] }) 17 true,Zq 23 (.pick (Zr 17) (Zr 22) (.const (.bool false))),Zc 4 23]) .ret))
theorem fd14:FnD Try.prog 14 24 [(.tmp 4)] c14:=⟨⟨Try.f14,Try.f14.body.getD .skip,Try.func14,by kernel_rfl,by kernel_rfl,by kernel_rfl,by kernel_rfl⟩⟩
def b15_1:ACode:=(.seq
 (.reg [Zn 10 .lss 3 9 8])
 (.seq
 (.cond (Zr 10) .skip (.exit 0))
 (.seq
 (.block 1
 (.seq
 (.reg [Zk 11 44 7 9,Zb 12 50 11,Zi 5 50,Zg 50 5 12])
 (.reg [Za 13 3,Zb 14 50 5,Zo 15 15 #[Zr 14] #[50],Zn 16 .add 3 13 15,Zc 3 16])))
 (.reg [Zm 17 .add 3 9 1,Za 9 17]))))
def c15_1:ACode:=(.seq
 (.reg [Za 18 3,Zc 2 18]) .ret)
def c15:ACode:=(.seq
 (.reg [Zj 1 50 0,Zf 2 0])
 (.seq
 (.reg [Zf 3 1])
 (.seqL
 (.seq
 (.reg [Zd 6 50 1 2,Zb 7 44 6,Ze 8 7 44,Zq 9 (.move (.const (.int .i64 0)))])
 (.block 0 (.loop b15_1))) c15_1)))
theorem fd15:FnD Try.prog 15 19 [(.tmp 2)] c15:=⟨⟨Try.f15,Try.f15.body.getD .skip,Try.func15,by kernel_rfl,by kernel_rfl,by kernel_rfl,by kernel_rfl⟩⟩
def b17_1:ACode:=(.seq
 (.reg [Zn 15 .lss 3 14 13])
 (.seq
 (.cond (Zr 15) .skip (.exit 0))
 (.seq
 (.block 1
 (.seq
 (.reg [Zk 16 44 12 14,Zb 17 50 16,Zi 5 50,Zg 50 5 17])
 (.dreg
 (.tk 0 (Zd 18 57 3 2)
 (.tk 1 (Zb 19 55 18)
 (.tk 2 (Zb 20 50 5)
 (.one [0,1,3,4,5,6,7] (Zo 21 17 #[Zr 20] #[50])
 (.tk 4 (Zq 22 (.buildSlice 55 1 #[(0,(Zr 21))])) .fin))))) [Zl 23 19 22 55,Zd 24 57 3 2,Zg 55 24 23])))
 (.reg [Zm 25 .add 3 14 1,Za 14 25]))))
def c17_1:ACode:=(.seq
 (.reg [Zb 26 57 3,Zg 57 2 26]) .ret)
def c17:ACode:=(.seq
 (.reg [Zj 1 50 0,Zi 2 57])
 (.seq
 (.reg [Zd 6 50 1 0,Zb 7 4 6,Zd 8 50 1 1,Zb 9 9 8,Zq 10 (.build 57 #[(0,(Zr 7)),(1,(Zr 9))]),Zi 3 57,Zg 57 3 10])
 (.seqL
 (.seq
 (.reg [Zd 11 50 1 2,Zb 12 44 11,Ze 13 12 44,Zq 14 (.move (.const (.int .i64 0)))])
 (.block 0 (.loop b17_1))) c17_1)))
theorem fd17:FnD Try.prog 17 27 [(.cell 2 57)] c17:=⟨⟨Try.f17,Try.f17.body.getD .skip,Try.func17,by kernel_rfl,by kernel_rfl,by kernel_rfl,by kernel_rfl⟩⟩
def b18_1:ACode:=(.seq
 (.reg [Zn 15 .lss 3 14 13])
 (.seq
 (.cond (Zr 15) .skip (.exit 0))
 (.seq
 (.block 1
 (.seq
 (.reg [Zk 16 25 12 14,Zb 17 28 16,Zi 5 28,Zg 28 5 17])
 (.dreg
 (.tk 0 (Zd 18 34 3 2)
 (.tk 1 (Zb 19 32 18)
 (.tk 2 (Zb 20 28 5)
 (.one [0,1,3,4,5,6,7] (Zo 21 18 #[Zr 20] #[28])
 (.tk 4 (Zq 22 (.buildSlice 32 1 #[(0,(Zr 21))])) .fin))))) [Zl 23 19 22 32,Zd 24 34 3 2,Zg 32 24 23])))
 (.reg [Zm 25 .add 3 14 1,Za 14 25]))))
def c18_1:ACode:=(.seq
 (.reg [Zb 26 34 3,Zg 34 2 26]) .ret)
def c18:ACode:=(.seq
 (.reg [Zj 1 28 0,Zi 2 34])
 (.seq
 (.reg [Zd 6 28 1 0,Zb 7 3 6,Zd 8 28 1 1,Zb 9 9 8,Zq 10 (.build 34 #[(0,(Zr 7)),(1,(Zr 9))]),Zi 3 34,Zg 34 3 10])
 (.seqL
 (.seq
 (.reg [Zd 11 28 1 2,Zb 12 25 11,Ze 13 12 25,Zq 14 (.move (.const (.int .i64 0)))])
 (.block 0 (.loop b18_1))) c18_1)))
theorem fd18:FnD Try.prog 18 27 [(.cell 2 34)] c18:=⟨⟨Try.f18,Try.f18.body.getD .skip,Try.func18,by kernel_rfl,by kernel_rfl,by kernel_rfl,by kernel_rfl⟩⟩
def b24_1:ACode:=(.seq
 (.reg [Zn 15 .lss 3 14 13])
 (.seq
 (.cond (Zr 15) .skip (.exit 0))
 (.seq
 (.block 1
 (.seq
 (.reg [Zk 16 69 12 14,Zb 17 24 16,Zi 7 24,Zg 24 7 17])
 (.seq
 (.reg [Za 18 5,Zb 19 24 7,Zo 20 7 #[Zr 19] #[24],Zn 21 .add 3 18 20,Zc 5 21])
 (.seq
 (.reg [Za 22 5,Za 23 1,Zn 24 .gtr 3 22 23])
 (.cond (Zr 24)
 (.seq
 (.reg [Zq 4 (.assign (.const (.bool false)))]) .ret) .skip)))))
 (.reg [Zm 25 .add 3 14 1,Za 14 25]))))
def c24_1:ACode:=(.seq
 (.reg [Za 26 5,Za 27 1,Zn 28 .leq 3 26 27,Zc 4 28]) .ret)
def c24:ACode:=(.seq
 (.reg [Zj 2 71 0,Zq 4 (.assign (.const (.bool false)))])
 (.seq
 (.reg [Zd 8 71 2 0,Zb 9 68 8,Ze 10 9 68,Zc 5 10])
 (.seqL
 (.seq
 (.reg [Zd 11 71 2 1,Zb 12 69 11,Ze 13 12 69,Zq 14 (.move (.const (.int .i64 0)))])
 (.block 0 (.loop b24_1))) c24_1)))
theorem fd24:FnD Try.prog 24 29 [(.tmp 4)] c24:=⟨⟨Try.f24,Try.f24.body.getD .skip,Try.func24,by kernel_rfl,by kernel_rfl,by kernel_rfl,by kernel_rfl⟩⟩
def c25:ACode:=(.seq
 (.reg [Zj 3 80 0,Zj 4 34 1,Zi 6 74,Zi 7 35])
 (.seq
 (.reg [Zb 13 80 3,Zb 14 34 4,Zo 15 43 #[Zr 13,Zr 14] #[80,34],Za 12 15,Zh 16 12 0,Zh 17 12 1,Zi 8 115,Zg 115 8 16,Zg 35 7 17])
 (.seq
 (.seq
 (.reg [Zb 18 35 7,Zm 19 .eql 35 18 0,Za 20 19,Zp 21 (.move (Zr 2)) 20 true,Zp 22 (.binOp .lss 3 (Zr 21) (.const (.int .i64 0)) 3) 20 true,Zp 23 (.move (Zr 22)) 20 true,Zp 24 (.move (Zr 2)) 23 false,Zp 25 (.binOp .gtr 3 (Zr 24) (.const (.int .i64 100000)) 3) 23 false,Zp 26 (.pick (Zr 23) (.const (.bool true)) (Zr 25)) 20 true,Zq 27 (.pick (Zr 20) (Zr 26) (.const (.bool false)))])
 (.cond (Zr 27)
 (.reg [⟨none,(.store 35 (Zr 7) (.const (.int .i64 4))),none⟩]) .skip))
 (.seq
 (.seq
 (.reg [Zb 28 35 7,Zm 29 .neq 35 28 0])
 (.cond (Zr 29)
 (.seq
 (.dreg
 (.tk 0 (Zq 30 (.build 74 #[]))
 (.tk 1 (Zb 31 35 7)
 (.one [1,2,3] (Zg 74 6 30) .fin))) [Zg 35 7 31]) .ret) .skip))
 (.seq
 (.reg [Zq 32 (.makeFunc (.func 44) #[] #[Zr 6,Zr 7]),⟨none,(.defer { callee:=(.value (Zr 32)),args:=#[],argTypes:=#[] }),none⟩])
 (.seq
 (.reg [Zb 33 115 8,Za 34 2,Zq 35 (.build 123 #[(0,(Zr 33)),(1,(Zr 34))]),Zj 36 123 35,Zc 9 36])
 (.seq
 (.reg [Za 37 9,Zb 38 34 4,Zo 39 45 #[Zr 37,Zr 38,(.const (.pointer none))] #[121,34,150],Zc 10 39])
 (.seq
 (.reg [Zq 40 (.build 129 #[(0,(.const (.int .i64 5000)))]),Zj 41 129 40,Zc 11 41])
 (.seq
 (.seq
 (.reg [Za 42 11,Za 43 10,Zo 44 46 #[Zr 42,Zr 43] #[127,125]])
 (.seq
 (.reg [Za 45 11,Zq 46 (.nilCheck (Zr 45)),Zd 47 129 46 0,Zb 48 3 47,Zm 49 .lss 3 48 0])
 (.cond (Zr 49)
 (.reg [Zq 50 (.build 119 #[(0,(.const (.int .i64 7)))]),Zq 51 (.makeInterface 119 (Zr 50)),⟨none,(.panic (Zr 51)),none⟩]) .skip)))
 (.seq
 (.dreg
 (.tk 0 (Za 52 10)
 (.tk 2 (Za 54 9)
 (.tk 3 (Zq 55 (.nilCheck (Zr 54)))
 (.tk 4 (Zd 56 123 55 2)
 (.tk 5 (Zb 57 3 56)
 (.one [1,2,3,4,5,6,7,8] (Zo 53 47 #[Zr 52] #[125]) .fin)))))) [Zq 58 (.build 74 #[(0,(Zr 53)),(1,(Zr 57))]),Zg 74 6 58,⟨none,(.store 35 (Zr 7) (.const (.int .i64 0))),none⟩]) .ret))))))))))
theorem fd25:FnD Try.prog 25 59 [(.cell 6 74),(.cell 7 35)] c25:=⟨⟨Try.f25,Try.f25.body.getD .skip,Try.func25,by kernel_rfl,by kernel_rfl,by kernel_rfl,by kernel_rfl⟩⟩
def b26_1:ACode:=(.seq
 (.reg [Zn 12 .lss 3 11 10])
 (.seq
 (.cond (Zr 12) .skip (.exit 0))
 (.seq
 (.block 1
 (.seq
 (.reg [Zk 13 68 9 11,Zb 14 132 13,Zi 5 132,Zg 132 5 14])
 (.reg [Zd 15 80 3 0,Zb 16 77 15,Zb 17 132 5,Zq 18 (.buildSlice 77 1 #[(0,(Zr 17))]),Zl 19 16 18 77,Zd 20 80 3 0,Zg 77 20 19])))
 (.reg [Zm 21 .add 3 11 1,Za 11 21]))))
def b26_2:ACode:=(.seq
 (.reg [Zn 26 .lss 3 25 24])
 (.seq
 (.cond (Zr 26) .skip (.exit 2))
 (.seq
 (.block 3
 (.seq
 (.reg [Zk 27 69 23 25,Zb 28 24 27,Zi 7 24,Zg 24 7 28])
 (.dreg
 (.tk 0 (Zd 29 80 3 1)
 (.tk 1 (Zb 30 78 29)
 (.tk 2 (Zb 31 24 7)
 (.one [0,1,3,4,5,6,7] (Zo 32 11 #[Zr 31] #[24])
 (.tk 4 (Zq 33 (.buildSlice 78 1 #[(0,(Zr 32))])) .fin))))) [Zl 34 30 33 78,Zd 35 80 3 1,Zg 78 35 34])))
 (.reg [Zm 36 .add 3 25 1,Za 25 36]))))
def c26_1:ACode:=(.seq
 (.reg [Zb 37 80 3,Zg 80 2 37]) .ret)
def c26_2:ACode:=(.seqL
 (.seq
 (.reg [Zd 22 71 1 1,Zb 23 69 22,Ze 24 23 69,Zq 25 (.move (.const (.int .i64 0)))])
 (.block 2 (.loop b26_2))) c26_1)
def c26:ACode:=(.seq
 (.reg [Zj 1 71 0,Zi 2 80])
 (.seq
 (.reg [Zi 3 80])
 (.seqL
 (.seq
 (.reg [Zd 8 71 1 0,Zb 9 68 8,Ze 10 9 68,Zq 11 (.move (.const (.int .i64 0)))])
 (.block 0 (.loop b26_1))) c26_2)))
theorem fd26:FnD Try.prog 26 38 [(.cell 2 80)] c26:=⟨⟨Try.f26,Try.f26.body.getD .skip,Try.func26,by kernel_rfl,by kernel_rfl,by kernel_rfl,by kernel_rfl⟩⟩
def c27:ACode:=(.seq
 (.reg [Zj 2 80 0,Zj 3 34 1,Zi 4 34,Zq 5 (.assign (.const (.bool false))),Zf 6 0])
 (.seq
 (.reg [Zb 11 80 2,Zb 12 34 3,Zo 13 43 #[Zr 11,Zr 12] #[80,34],Za 10 13,Zh 14 10 0,Zh 15 10 1,Zi 7 115,Zg 115 7 14,Zc 8 15])
 (.seq
 (.seq
 (.reg [Za 16 8,Zm 17 .neq 35 16 0])
 (.cond (Zr 17)
 (.seq
 (.reg [Zq 18 (.build 34 #[]),Za 19 8,Zg 34 4 18,Zq 5 (.assign (.const (.bool false))),Zc 6 19]) .ret) .skip))
 (.seq
 (.seq
 (.reg [Zb 20 115 7,Zb 21 34 3,Zo 22 48 #[Zr 20,Zr 21] #[115,34]])
 (.cond (Zr 22)
 (.seq
 (.reg [Zb 23 34 3,Zo 24 49 #[Zr 23] #[34],Zg 34 4 24,Zq 5 (.assign (.const (.bool false))),Zf 6 0]) .ret) .skip))
 (.seq
 (.reg [Zb 26 115 7,Zb 27 34 3,Zo 28 50 #[Zr 26,Zr 27] #[115,34],Za 25 28,Zh 29 25 0,Zh 30 25 1,Zi 9 34,Zg 34 9 29,Zc 8 30])
 (.seq
 (.seq
 (.reg [Za 31 8,Zm 32 .neq 35 31 0])
 (.cond (Zr 32)
 (.seq
 (.reg [Zq 33 (.build 34 #[]),Za 34 8,Zg 34 4 33,Zq 5 (.assign (.const (.bool false))),Zc 6 34]) .ret) .skip))
 (.seq
 (.reg [Zb 35 34 9,Zo 36 49 #[Zr 35] #[34],Zg 34 4 36,Zq 5 (.assign (.const (.bool true))),Zf 6 0]) .ret)))))))
theorem fd27:FnD Try.prog 27 37 [(.cell 4 34),(.tmp 5),(.tmp 6)] c27:=⟨⟨Try.f27,Try.f27.body.getD .skip,Try.func27,by kernel_rfl,by kernel_rfl,by kernel_rfl,by kernel_rfl⟩⟩
def b29_1:ACode:=(.seq
 (.seq
 (.reg [Za 9 6,Zd 10 28 1 2,Zb 11 25 10,Ze 12 11 25,Zn 13 .lss 3 9 12])
 (.cond (Zr 13) .skip (.exit 0)))
 (.seq
 (.block 1
 (.seq
 (.reg [Zd 17 28 1 2,Zb 18 25 17,Za 19 6,Zk 20 25 18 19,Zb 21 28 20,Zo 22 29 #[Zr 21] #[28],Za 16 22,Zh 23 16 0,Zh 24 16 1,Zc 7 23,Zc 8 24])
 (.seq
 (.reg [Za 25 4,Za 26 7,Zn 27 .add 3 25 26,Zc 4 27])
 (.reg [Za 28 5,Za 29 8,Zq 30 (.call { callee:=(.builtin .max),args:=#[Zr 28,Zr 29],argTypes:=#[3,3] }),Zc 5 30]))))
 (.reg [Za 14 6,Zm 15 .add 3 14 1,Zc 6 15])))
def c29_1:ACode:=(.seq
 (.reg [Za 31 4,Za 32 5,Zm 33 .add 3 32 1,Zc 2 31,Zc 3 33]) .ret)
def c29:ACode:=(.seq
 (.reg [Zj 1 28 0,Zf 2 0,Zf 3 0])
 (.seq
 (.reg [Zf 4 1,Zf 5 0])
 (.seqL
 (.seq
 (.reg [Zf 6 0])
 (.block 0 (.loop b29_1))) c29_1)))
theorem fd29:FnD Try.prog 29 34 [(.tmp 2),(.tmp 3)] c29:=⟨⟨Try.f29,Try.f29.body.getD .skip,Try.func29,by kernel_rfl,by kernel_rfl,by kernel_rfl,by kernel_rfl⟩⟩
def c30:ACode:=(.seq
 (.reg [Zi 2 34])
 (.seq
 (.reg [Za 3 0,Zq 4 (.build 34 #[(0,(.const (.int .i64 1))),(1,(Zr 3))]),Zg 34 2 4]) .ret))
theorem fd30:FnD Try.prog 30 5 [(.cell 2 34)] c30:=⟨⟨Try.f30,Try.f30.body.getD .skip,Try.func30,by kernel_rfl,by kernel_rfl,by kernel_rfl,by kernel_rfl⟩⟩
def c31:ACode:=(.seq
 (.reg [Zi 4 34])
 (.seq
 (.reg [Za 5 0,Za 6 1,Zq 7 (.build 34 #[(0,(.const (.int .i64 3))),(1,(Zr 5)),(2,(Zr 6))]),Zg 34 4 7]) .ret))
theorem fd31:FnD Try.prog 31 8 [(.cell 4 34)] c31:=⟨⟨Try.f31,Try.f31.body.getD .skip,Try.func31,by kernel_rfl,by kernel_rfl,by kernel_rfl,by kernel_rfl⟩⟩
def c32:ACode:=(.seq
 (.reg [Zj 2 34 0,Zj 3 34 1,Zi 4 34])
 (.seq
 (.reg [Zq 5 (.build 34 #[(0,(.const (.int .i64 2))),(1,(.const (.string { data:=#[97,100,100] })))]),Zb 6 34 2,Zb 7 34 3,Zq 8 (.buildSlice 32 3 #[(0,(Zr 5)),(1,(Zr 6)),(2,(Zr 7))]),Zq 9 (.build 34 #[(0,(.const (.int .i64 4))),(2,(Zr 8))]),Zg 34 4 9]) .ret))
theorem fd32:FnD Try.prog 32 10 [(.cell 4 34)] c32:=⟨⟨Try.f32,Try.f32.body.getD .skip,Try.func32,by kernel_rfl,by kernel_rfl,by kernel_rfl,by kernel_rfl⟩⟩
def b33_1:ACode:=(.seq
 (.reg [Zn 10 .lss 3 9 8])
 (.seq
 (.cond (Zr 10) .skip (.exit 0))
 (.seq
 (.block 1
 (.seq
 (.reg [Zk 11 52 7 9,Zb 12 9 11,Zc 5 12])
 (.seq
 (.seq
 (.reg [Za 13 3,Za 14 5,Zq 15 (.lookup 138 (Zr 13) (Zr 14) false)])
 (.cond (Zr 15)
 (.seq
 (.reg [Zq 2 (.assign (.const (.bool true)))]) .ret) .skip))
 (.reg [Za 16 3,Za 17 5,⟨none,(.mapUpdate 138 (Zr 16) (Zr 17) (.const (.bool true))),none⟩]))))
 (.reg [Zm 18 .add 3 9 1,Za 9 18]))))
def c33_1:ACode:=(.seq
 (.reg [Zq 2 (.assign (.const (.bool false)))]) .ret)
def c33:ACode:=(.seq
 (.reg [Zq 2 (.assign (.const (.bool false)))])
 (.seq
 (.reg [Zq 6 (.makeMap 138 none),Zc 3 6])
 (.seqL
 (.seq
 (.reg [Za 7 0,Ze 8 7 52,Zq 9 (.move (.const (.int .i64 0)))])
 (.block 0 (.loop b33_1))) c33_1)))
theorem fd33:FnD Try.prog 33 19 [(.tmp 2)] c33:=⟨⟨Try.f33,Try.f33.body.getD .skip,Try.func33,by kernel_rfl,by kernel_rfl,by kernel_rfl,by kernel_rfl⟩⟩
def b34_1:ACode:=(.seq
 (.reg [Zn 9 .lss 3 8 7])
 (.seq
 (.cond (Zr 9) .skip (.exit 0))
 (.seq
 (.block 1
 (.seq
 (.reg [Zk 10 55 6 8,Zb 11 57 10,Zi 5 57,Zg 57 5 11])
 (.seq
 (.reg [Zd 12 57 5 0,Zb 13 4 12])
 (.cond (Zr 13)
 (.reg [Za 14 3,Zd 15 57 5 2,Zb 16 55 15,Zo 17 34 #[Zr 16] #[55],Zl 18 14 17 52,Zc 3 18])
 (.reg [Za 19 3,Zd 20 57 5 1,Zb 21 9 20,Zq 22 (.buildSlice 52 1 #[(0,(Zr 21))]),Zl 23 19 22 52,Zc 3 23])))))
 (.reg [Zm 24 .add 3 8 1,Za 8 24]))))
def c34_1:ACode:=(.seq
 (.reg [Za 25 3,Zc 2 25]) .ret)
def c34:ACode:=(.seq
 (.reg [Zq 2 (.assign (.const (.slice none 0 0)))])
 (.seq
 (.reg [Zq 3 (.assign (.const (.slice none 0 0)))])
 (.seqL
 (.seq
 (.reg [Za 6 0,Ze 7 6 55,Zq 8 (.move (.const (.int .i64 0)))])
 (.block 0 (.loop b34_1))) c34_1)))
theorem fd34:FnD Try.prog 34 26 [(.tmp 2)] c34:=⟨⟨Try.f34,Try.f34.body.getD .skip,Try.func34,by kernel_rfl,by kernel_rfl,by kernel_rfl,by kernel_rfl⟩⟩
def ZoW:ACode:=(.seq
 (.seq
 (.reg [Za 45 9,Zd 46 57 3 2,Zb 47 55 46,Ze 48 47 55,Zn 49 .lss 3 45 48,Za 50 49,Zp 51 (.move (Zr 8)) 50 true,Zq 52 (.pick (Zr 50) (Zr 51) (.const (.bool false)))])
 (.cond (Zr 52) .skip (.exit 0)))
 (.seq
 (.block 1
 (.dreg
 (.tk 0 (Zd 56 57 3 2)
 (.tk 1 (Zb 57 55 56)
 (.tk 2 (Za 58 9)
 (.tk 3 (Zk 59 55 57 58)
 (.tk 4 (Zb 60 57 59)
 (.tk 5 (Zd 61 34 4 2)
 (.tk 6 (Zb 62 32 61)
 (.tk 7 (Za 63 9)
 (.tk 8 (Zk 64 32 62 63)
 (.tk 9 (Zb 65 34 64)
 (.tk 10 (Za 66 2)
 (.one [11,12,13,14,15,16] (Zo 67 35 #[Zr 60,Zr 65,Zr 66] #[57,34,96])
 (.tk 12 (Za 55 67)
 (.tk 13 (Zh 68 55 0)
 (.tk 14 (Zh 69 55 1)
 (.tk 15 (Zc 2 68) .fin)))))))))))))))) [Zc 8 69]))
 (.reg [Za 53 9,Zm 54 .add 3 53 1,Zc 9 54])))
def ZlS:ACode:=(.seq
 (.reg [Za 70 2,Za 71 8,Zc 6 70,Zc 7 71]) .ret)
def c35:ACode:=(.seq
 (.reg [Zj 3 57 0,Zj 4 34 1,Zq 6 (.assign (.const (.slice none 0 0))),Zq 7 (.assign (.const (.bool false)))])
 (.seq
 (.seq
 (.reg [Zd 10 57 3 0,Zb 11 4 10,Zq 12 (.unOp .not 4 (Zr 11))])
 (.cond (Zr 12)
 (.seq
 (.dreg
 (.tk 0 (Za 13 2)
 (.tk 1 (Za 14 2)
 (.tk 2 (Ze 15 14 96)
 (.tk 3 (Za 16 2)
 (.tk 4 (Ze 17 16 96)
 (.tk 5 (Zq 18 (.slice 96 (Zr 13) none (some (Zr 15)) (some (Zr 17))))
 (.tk 6 (Zd 19 57 3 1)
 (.tk 7 (Zb 20 9 19)
 (.tk 8 (Zb 21 34 4)
 (.one [0,1,2,3,4,5,6,7,9,10,11,12,13,14] (Zo 22 49 #[Zr 21] #[34])
 (.tk 10 (Zq 23 (.build 102 #[(0,(Zr 20)),(1,(Zr 22))]))
 (.tk 11 (Zq 24 (.buildSlice 96 1 #[(0,(Zr 23))])) .fin)))))))))))) [Zl 25 18 24 96,Zc 6 25,Zq 7 (.assign (.const (.bool true)))]) .ret) .skip))
 (.seq
 (.reg [Zd 26 34 4 0,Zb 27 3 26,Zm 28 .eql 3 27 3,Za 29 28,Zp 30 (.fieldAddr 34 (Zr 4) 1) 29 true,Zp 31 (.load 9 (Zr 30)) 29 true,Zp 32 (.fieldAddr 57 (Zr 3) 1) 29 true,Zp 33 (.load 9 (Zr 32)) 29 true,Zp 34 (.binOp .eql 9 (Zr 31) (Zr 33) 9) 29 true,Zq 35 (.pick (Zr 29) (Zr 34) (.const (.bool false))),Za 36 35,Zp 37 (.fieldAddr 34 (Zr 4) 2) 36 true,Zp 38 (.load 32 (Zr 37)) 36 true,Zp 39 (.call { callee:=(.builtin .len),args:=#[Zr 38],argTypes:=#[32] }) 36 true,Zp 40 (.fieldAddr 57 (Zr 3) 2) 36 true,Zp 41 (.load 55 (Zr 40)) 36 true,Zp 42 (.call { callee:=(.builtin .len),args:=#[Zr 41],argTypes:=#[55] }) 36 true,Zp 43 (.binOp .eql 3 (Zr 39) (Zr 42) 3) 36 true,Zq 44 (.pick (Zr 36) (Zr 43) (.const (.bool false))),Zc 8 44])
 (.seqL
 (.seq
 (.reg [Zf 9 0])
 (.block 0 (.loop ZoW))) ZlS))))
theorem fd35:FnD Try.prog 35 72 [(.tmp 6),(.tmp 7)] c35:=⟨⟨Try.f35,Try.f35.body.getD .skip,Try.func35,by kernel_rfl,by kernel_rfl,by kernel_rfl,by kernel_rfl⟩⟩
def b36_1:ACode:=(.seq
 (.reg [Zn 40 .lss 3 39 38])
 (.seq
 (.cond (Zr 40) .skip (.exit 3))
 (.seq
 (.block 4
 (.seq
 (.reg [Zk 41 32 37 39,Zb 42 34 41,Zi 9 34,Zg 34 9 42])
 (.dreg
 (.tk 0 (Zd 43 34 7 2)
 (.tk 1 (Zb 44 32 43)
 (.tk 2 (Zb 45 34 9)
 (.tk 3 (Za 46 1)
 (.one [0,1,4,5,6,7,8] (Zo 47 36 #[Zr 45,Zr 46] #[34,96])
 (.tk 5 (Zq 48 (.buildSlice 32 1 #[(0,(Zr 47))])) .fin)))))) [Zl 49 44 48 32,Zd 50 34 7 2,Zg 32 50 49])))
 (.reg [Zm 51 .add 3 39 1,Za 39 51]))))
def c36_1:ACode:=(.seq
 (.reg [Zb 52 34 7,Zg 34 4 52]) .ret)
def c36_2:ACode:=(.seq
 (.reg [Zd 31 34 2 0,Zb 32 3 31,Zd 33 34 2 1,Zb 34 9 33,Zq 35 (.build 34 #[(0,(Zr 32)),(1,(Zr 34))]),Zi 7 34,Zg 34 7 35])
 (.seqL
 (.seq
 (.reg [Zd 36 34 2 2,Zb 37 32 36,Ze 38 37 32,Zq 39 (.move (.const (.int .i64 0)))])
 (.block 3 (.loop b36_1))) c36_1))
def c36:ACode:=(.seq
 (.reg [Zj 2 34 0,Zi 4 34])
 (.seqL
 (.seq
 (.reg [Zd 10 34 2 0,Zb 11 3 10])
 (.block 0
 (.seq
 (.reg [Zm 13 .eql 3 11 1,Zc 12 13])
 (.cond (Zr 12)
 (.seq
 (.reg [Za 14 1,Zo 15 52 #[Zr 14] #[96]])
 (.block 1 (.rfunc (Zr 15) #[16,17]
 (.reg [Zi 6 102,Zg 102 6 17])
 (.block 2
 (.seq
 (.reg [Zd 18 102 6 0,Zb 19 9 18,Zd 20 34 2 1,Zb 21 9 20,Zn 22 .eql 9 19 21])
 (.cond (Zr 22)
 (.seq
 (.reg [Zd 23 102 6 1,Zb 24 34 23,Zg 34 4 24]) .ret) .skip))))))
 (.seq
 (.reg [Zm 26 .eql 3 11 5,Zc 25 26])
 (.cond (Zr 25)
 (.reg [Za 27 1,Zo 28 54 #[Zr 27] #[96],Zq 29 (.makeFunc (.func 55) #[] #[Zr 2]),Zo 30 53 #[Zr 28,Zr 29] #[96,144],Zc 1 30]) .skip)))))) c36_2))
theorem fd36:FnD Try.prog 36 53 [(.cell 4 34)] c36:=⟨⟨Try.f36,Try.f36.body.getD .skip,Try.func36,by kernel_rfl,by kernel_rfl,by kernel_rfl,by kernel_rfl⟩⟩
def b37_1:ACode:=(.seq
 (.reg [Zn 18 .lss 3 17 16])
 (.seq
 (.cond (Zr 18) .skip (.exit 0))
 (.seq
 (.block 1
 (.seq
 (.reg [Za 19 17,Zk 20 32 15 17,Zb 21 34 20,Zi 8 34,Zc 7 19,Zg 34 8 21])
 (.seq
 (.reg [Za 22 1,Za 23 7,Zk 24 32 22 23,Zb 25 34 24,Zi 9 34,Zg 34 9 25])
 (.seq
 (.reg [Za 26 2,Zb 27 34 8,Zb 28 34 9,Zq 29 (.call { callee:=(.value (Zr 26)),args:=#[Zr 27,Zr 28],argTypes:=#[34,34] }),Zq 30 (.unOp .not 4 (Zr 29))])
 (.cond (Zr 30)
 (.seq
 (.reg [Zq 6 (.assign (.const (.bool false)))]) .ret) .skip)))))
 (.reg [Zm 31 .add 3 17 1,Za 17 31]))))
def c37_1:ACode:=(.seq
 (.reg [Zq 6 (.assign (.const (.bool true)))]) .ret)
def c37:ACode:=(.seq
 (.reg [Zq 6 (.assign (.const (.bool false)))])
 (.seq
 (.seq
 (.reg [Za 10 0,Ze 11 10 32,Za 12 1,Ze 13 12 32,Zn 14 .neq 3 11 13])
 (.cond (Zr 14)
 (.seq
 (.reg [Zq 6 (.assign (.const (.bool false)))]) .ret) .skip))
 (.seqL
 (.seq
 (.reg [Za 15 0,Ze 16 15 32,Zq 17 (.move (.const (.int .i64 0)))])
 (.block 0 (.loop b37_1))) c37_1)))
theorem fd37:FnD Try.prog 37 32 [(.tmp 6)] c37:=⟨⟨Try.f37,Try.f37.body.getD .skip,Try.func37,by kernel_rfl,by kernel_rfl,by kernel_rfl,by kernel_rfl⟩⟩
def c43:ACode:=(.seq
 (.reg [Zj 2 80 0,Zj 3 34 1,Zi 4 115,Zf 5 0])
 (.seq
 (.seq
 (.reg [Zb 10 80 2,Zo 11 58 #[Zr 10] #[80],Zc 6 11])
 (.seq
 (.reg [Za 12 6,Zm 13 .neq 35 12 0])
 (.cond (Zr 13)
 (.seq
 (.reg [Zq 14 (.build 115 #[]),Za 15 6,Zg 115 4 14,Zc 5 15]) .ret) .skip)))
 (.seq
 (.seq
 (.reg [Zb 17 34 3,Zo 18 51 #[Zr 17] #[34],Za 16 18,Zh 19 16 0,Zh 20 16 1,Zc 7 19,Zc 8 20])
 (.block 0
 (.seq
 (.reg [Za 22 7,Zm 23 .gtr 3 22 5000,Zc 21 23])
 (.cond (Zr 21)
 (.seq
 (.reg [Zq 24 (.build 115 #[]),Zg 115 4 24,Zf 5 7]) .ret)
 (.seq
 (.reg [Za 26 8,Zm 27 .gtr 3 26 200,Zc 25 27])
 (.cond (Zr 25)
 (.seq
 (.reg [Zq 28 (.build 115 #[]),Zg 115 4 28,Zf 5 6]) .ret) .skip))))))
 (.seq
 (.reg [Zb 29 80 2,Zo 30 59 #[Zr 29] #[80],Zi 9 115,Zg 115 9 30])
 (.seq
 (.dreg
 (.tk 0 (Zb 31 115 9)
 (.tk 1 (Zb 32 115 9)
 (.tk 2 (Zb 33 34 3)
 (.one [0,3,4,5] (Zo 34 60 #[Zr 32,Zr 33,(.const (.slice none 0 0))] #[115,34,52]) .fin)))) [Zg 115 4 31,Zc 5 34]) .ret)))))
theorem fd43:FnD Try.prog 43 35 [(.cell 4 115),(.tmp 5)] c43:=⟨⟨Try.f43,Try.f43.body.getD .skip,Try.func43,by kernel_rfl,by kernel_rfl,by kernel_rfl,by kernel_rfl⟩⟩
def c44:ACode:=(.seq
 (.reg [Zq 5 (.call { callee:=(.builtin .recover),args:=#[],argTypes:=#[] }),Zc 2 5])
 (.seq
 (.reg [Za 6 2,Zq 7 (.binOp .neq 20 (Zr 6) (.const .nilIface) 20)])
 (.cond (Zr 7)
 (.seq
 (.reg [Za 9 2,Zq 10 (.typeAssert (Zr 9) 20 119 true),Za 8 10,Zh 11 8 0,Zh 12 8 1,Zi 3 119,Zg 119 3 11,Zc 4 12])
 (.seq
 (.seq
 (.reg [Za 13 4,Zq 14 (.unOp .not 4 (Zr 13))])
 (.cond (Zr 14)
 (.reg [Za 15 2,⟨none,(.panic (Zr 15)),none⟩]) .skip))
 (.dreg
 (.tk 0 (Zq 16 (.build 74 #[]))
 (.tk 1 (Zd 17 119 3 0)
 (.tk 2 (Zb 18 35 17)
 (.one [1,2,3,4] (Zg 74 0 16) .fin)))) [Zg 35 1 18]))) .skip)))
theorem fd44:FnD Try.prog 44 19 [] c44:=⟨⟨Try.f44,Try.f44.body.getD .skip,Try.func44,by kernel_rfl,by kernel_rfl,by kernel_rfl,by kernel_rfl⟩⟩
def c45:ACode:=(.seq
 (.reg [Zj 3 121 0,Zj 4 34 1,Zj 5 150 2,Zq 6 (.assign (.const .nilIface))])
 (.seq
 (.reg [Zq 10 (.makeFunc (.func 61) #[] #[Zr 4,Zr 3,Zr 5]),Zc 7 10])
 (.seq
 (.seq
 (.reg [Zd 11 34 4 0,Zb 12 3 11])
 (.block 0
 (.seq
 (.reg [Zm 14 .eql 3 12 1,Zc 13 14])
 (.cond (Zr 13)
 (.seq
 (.reg [Zb 15 150 5,Zd 16 34 4 1,Zb 17 9 16,Zo 18 62 #[Zr 15,Zr 17] #[150,9],Zc 6 18]) .ret)
 (.seq
 (.reg [Zm 20 .eql 3 12 5,Zc 19 20])
 (.cond (Zr 19)
 (.seq
 (.reg [Zb 21 34 4,Zb 22 150 5,Zq 23 (.build 155 #[(0,(Zr 21)),(1,(Zr 22))]),Zq 24 (.makeInterface 155 (Zr 23)),Zc 6 24]) .ret)
 (.seq
 (.reg [Zm 26 .eql 3 12 2,Zc 25 26])
 (.cond (Zr 25)
 (.seq
 (.seq
 (.dreg
 (.tk 0 (Zb 27 121 3)
 (.tk 1 (Zq 28 (.nilCheck (Zr 27)))
 (.tk 2 (Zd 29 123 28 0)
 (.tk 3 (Zd 30 115 29 0)
 (.tk 4 (Zb 31 112 30)
 (.tk 5 (Zd 32 34 4 1)
 (.tk 6 (Zb 33 9 32) .fin))))))) [Zq 34 (.lookup 112 (Zr 31) (Zr 33) false),Zc 8 34])
 (.seq
 (.reg [Za 35 8,Zq 36 (.nilCheck (Zr 35)),Zd 37 40 36 1,Zb 38 3 37,Zm 39 .gtr 3 38 0])
 (.cond (Zr 39)
 (.seq
 (.reg [Za 40 8,Zq 41 (.build 158 #[(0,(Zr 40)),(1,(.const (.slice none 0 0)))]),Zq 42 (.makeInterface 158 (Zr 41)),Zc 6 42]) .ret) .skip)))
 (.seq
 (.dreg
 (.tk 0 (Zb 43 121 3)
 (.tk 1 (Zb 44 121 3)
 (.tk 2 (Zq 45 (.nilCheck (Zr 44)))
 (.tk 3 (Zd 46 123 45 0)
 (.tk 4 (Zd 47 115 46 0)
 (.tk 5 (Zb 48 112 47)
 (.tk 6 (Zd 49 34 4 1)
 (.tk 7 (Zb 50 9 49)
 (.one [0,8,9,10] (Zq 51 (.lookup 112 (Zr 48) (Zr 50) false)) .fin))))))))) [Zo 52 63 #[Zr 43,Zr 51,(.const (.slice none 0 0))] #[121,156,151],Zc 6 52]) .ret))
 (.seq
 (.reg [Zm 54 .eql 3 12 3,Zc 53 54])
 (.cond (Zr 53)
 (.seq
 (.dreg
 (.tk 0 (Zd 55 34 4 1)
 (.tk 1 (Zb 56 9 55)
 (.tk 2 (Za 57 7)
 (.one [0,1,3,4,5,6] (Zq 58 (.call { callee:=(.value (Zr 57)),args:=#[],argTypes:=#[] })) .fin)))) [Zq 59 (.build 161 #[(0,(Zr 56)),(1,(Zr 58))]),Zq 60 (.makeInterface 161 (Zr 59)),Zc 6 60]) .ret) .skip))))))))))
 (.seq
 (.reg [Za 61 7,Zq 62 (.call { callee:=(.value (Zr 61)),args:=#[],argTypes:=#[] }),Zc 9 62])
 (.seq
 (.dreg
 (.tk 0 (Zb 63 121 3)
 (.tk 1 (Za 64 9)
 (.tk 2 (Zq 65 (.indexAddr 151 (Zr 64) (.const (.int .i64 0))))
 (.tk 3 (Zb 66 125 65)
 (.tk 4 (Za 67 9)
 (.tk 5 (Zq 68 (.slice 151 (Zr 67) (some (.const (.int .i64 1))) none none)) .fin)))))) [Zo 69 64 #[Zr 63,Zr 66,Zr 68] #[121,125,151],Zc 6 69]) .ret)))))
theorem fd45:FnD Try.prog 45 70 [(.tmp 6)] c45:=⟨⟨Try.f45,Try.f45.body.getD .skip,Try.func45,by kernel_rfl,by kernel_rfl,by kernel_rfl,by kernel_rfl⟩⟩
def c46:ACode:=(.seq
 (.seq
 (.reg [Za 7 0,Zq 8 (.nilCheck (Zr 7)),Zd 9 129 8 0,Zb 10 3 9,Zm 11 .lss 3 10 0])
 (.cond (Zr 11) .ret .skip))
 (.seq
 (.reg [Za 12 1])
 (.block 0
 (.seq
 (.reg [Zq 13 (.typeAssert (Zr 12) 125 161 true),Zh 14 13 1,Zh 15 13 0])
 (.cond (Zr 14)
 (.seq
 (.reg [Zi 4 161,Zg 161 4 15])
 (.seq
 (.reg [Za 16 0,Zq 17 (.nilCheck (Zr 16)),Zd 18 129 17 0,Zb 19 3 18,Zm 20 .sub 3 19 1,Zq 21 (.nilCheck (Zr 16)),Zd 22 129 21 0,Zg 3 22 20])
 (.reg [Za 23 0,Zd 24 161 4 1,Zb 25 151 24,Zo 26 65 #[Zr 23,Zr 25] #[127,151]])))
 (.seq
 (.reg [Zq 27 (.typeAssert (Zr 12) 125 155 true),Zh 28 27 1,Zh 29 27 0])
 (.cond (Zr 28)
 (.seq
 (.reg [Zi 5 155,Zg 155 5 29])
 (.reg [Za 30 0,Zd 31 155 5 0,Zb 32 34 31,Zd 33 155 5 1,Zb 34 150 33,Zo 35 66 #[Zr 30,Zr 32,Zr 34] #[127,34,150]]))
 (.seq
 (.reg [Zq 36 (.typeAssert (Zr 12) 125 158 true),Zh 37 36 1,Zh 38 36 0])
 (.cond (Zr 37)
 (.seq
 (.reg [Zi 6 158,Zg 158 6 38])
 (.seq
 (.reg [Za 39 0,Zq 40 (.nilCheck (Zr 39)),Zd 41 129 40 0,Zb 42 3 41,Zm 43 .sub 3 42 1,Zq 44 (.nilCheck (Zr 39)),Zd 45 129 44 0,Zg 3 45 43])
 (.seq
 (.seq
 (.reg [Zd 46 158 6 1,Zb 47 151 46,Ze 48 47 151,Zm 49 .gtr 3 48 0])
 (.cond (Zr 49)
 (.reg [Za 50 0,Zq 51 (.nilCheck (Zr 50)),Zd 52 129 51 0,Zb 53 3 52,Zm 54 .sub 3 53 1,Zq 55 (.nilCheck (Zr 50)),Zd 56 129 55 0,Zg 3 56 54]) .skip))
 (.reg [Za 57 0,Zd 58 158 6 1,Zb 59 151 58,Zo 60 65 #[Zr 57,Zr 59] #[127,151]])))) .skip)))))))))
theorem fd46:FnD Try.prog 46 61 [] c46:=⟨⟨Try.f46,Try.f46.body.getD .skip,Try.func46,by kernel_rfl,by kernel_rfl,by kernel_rfl,by kernel_rfl⟩⟩
def b47_1:ACode:=(.seq
 (.reg [Zn 24 .lss 3 23 22])
 (.seq
 (.cond (Zr 24) .skip (.exit 0))
 (.seq
 (.block 1
 (.seq
 (.reg [Zk 25 151 21 23,Zb 26 125 25,Zc 7 26])
 (.dreg
 (.tk 0 (Zd 27 34 5 2)
 (.tk 1 (Zb 28 32 27)
 (.tk 2 (Za 29 7)
 (.one [0,1,3,4,5,6,7] (Zo 30 47 #[Zr 29] #[125])
 (.tk 4 (Zq 31 (.buildSlice 32 1 #[(0,(Zr 30))])) .fin))))) [Zl 32 28 31 32,Zd 33 34 5 2,Zg 32 33 32])))
 (.reg [Zm 34 .add 3 23 1,Za 23 34]))))
def c47_1:ACode:=(.seq
 (.reg [Zb 35 34 5,Zg 34 2 35]) .ret)
def c47:ACode:=(.seq
 (.reg [Zi 2 34])
 (.seq
 (.reg [Za 9 0,Zq 10 (.typeAssert (Zr 9) 125 161 true),Za 8 10,Zh 11 8 0,Zh 12 8 1,Zi 3 161,Zg 161 3 11,Zc 4 12])
 (.seq
 (.seq
 (.reg [Za 13 4,Zq 14 (.unOp .not 4 (Zr 13))])
 (.cond (Zr 14)
 (.reg [Zq 15 (.build 119 #[(0,(.const (.int .i64 423)))]),Zq 16 (.makeInterface 119 (Zr 15)),⟨none,(.panic (Zr 16)),none⟩]) .skip))
 (.seq
 (.reg [Zd 17 161 3 0,Zb 18 9 17,Zq 19 (.build 34 #[(0,(.const (.int .i64 3))),(1,(Zr 18))]),Zi 5 34,Zg 34 5 19])
 (.seqL
 (.seq
 (.reg [Zd 20 161 3 1,Zb 21 151 20,Ze 22 21 151,Zq 23 (.move (.const (.int .i64 0)))])
 (.block 0 (.loop b47_1))) c47_1)))))
theorem fd47:FnD Try.prog 47 36 [(.cell 2 34)] c47:=⟨⟨Try.f47,Try.f47.body.getD .skip,Try.func47,by kernel_rfl,by kernel_rfl,by kernel_rfl,by kernel_rfl⟩⟩
def c48:ACode:=(.seq
 (.reg [Zj 2 115 0,Zj 3 34 1,Zq 4 (.assign (.const (.bool false)))])
 (.seq
 (.reg [Zq 7 (.makeFunc (.func 67) #[] #[Zr 2]),Zc 5 7])
 (.seq
 (.seq
 (.reg [Zd 8 34 3 0,Zb 9 3 8])
 (.block 0
 (.seq
 (.reg [Zm 11 .eql 3 9 5,Zc 10 11])
 (.cond (Zr 10)
 (.seq
 (.reg [Zq 4 (.assign (.const (.bool true)))]) .ret)
 (.seq
 (.reg [Zm 13 .eql 3 9 2,Zc 12 13])
 (.cond (Zr 12)
 (.seq
 (.reg [Zd 14 115 2 0,Zb 15 112 14,Zd 16 34 3 1,Zb 17 9 16,Zq 18 (.lookup 112 (Zr 15) (Zr 17) false),Zq 19 (.nilCheck (Zr 18)),Zd 20 40 19 1,Zb 21 3 20,Zm 22 .gtr 3 21 0,Zc 4 22]) .ret)
 (.seq
 (.reg [Zm 24 .eql 3 9 3,Zc 23 24])
 (.cond (Zr 23)
 (.seq
 (.reg [Za 25 5,Zd 26 34 3 2,Zb 27 32 26,Zq 28 (.call { callee:=(.value (Zr 25)),args:=#[Zr 27],argTypes:=#[32] }),Zc 4 28]) .ret)
 (.seq
 (.reg [Zm 30 .eql 3 9 4,Zc 29 30])
 (.cond (Zr 29)
 (.seq
 (.reg [Zb 31 34 3,Zo 32 70 #[Zr 31] #[34],Zg 34 3 32])
 (.seq
 (.reg [Zd 33 34 3 2,Zb 34 32 33,Zq 35 (.indexAddr 32 (Zr 34) (.const (.int .i64 0))),Zb 36 34 35,Zi 6 34,Zg 34 6 36])
 (.seq
 (.dreg
 (.tk 0 (Zd 37 34 6 0)
 (.tk 1 (Zb 38 3 37)
 (.tk 2 (Zm 39 .eql 3 38 2)
 (.tk 3 (Za 40 39)
 (.tk 4 (Zp 41 (.fieldAddr 34 (Zr 3) 2) 40 true)
 (.tk 5 (Zp 42 (.load 32 (Zr 41)) 40 true)
 (.tk 6 (Zp 43 (.call { callee:=(.builtin .len),args:=#[Zr 42],argTypes:=#[32] }) 40 true)
 (.tk 7 (Zp 44 (.binOp .sub 3 (Zr 43) (.const (.int .i64 1)) 3) 40 true)
 (.tk 8 (Zp 45 (.fieldAddr 115 (Zr 2) 0) 40 true)
 (.tk 9 (Zp 46 (.load 112 (Zr 45)) 40 true)
 (.tk 10 (Zp 47 (.fieldAddr 34 (Zr 6) 1) 40 true)
 (.tk 11 (Zp 48 (.load 9 (Zr 47)) 40 true)
 (.one [4,5,6,7,12,13,14,15,16,17,18,19,20,21,22,23,24,25] (Zp 49 (.lookup 112 (Zr 46) (Zr 48) false) 40 true)
 (.tk 13 (Zp 50 (.nilCheck (Zr 49)) 40 true)
 (.tk 14 (Zp 51 (.fieldAddr 40 (Zr 50) 1) 40 true)
 (.tk 15 (Zp 52 (.load 3 (Zr 51)) 40 true)
 (.tk 16 (Zp 53 (.binOp .lss 3 (Zr 44) (Zr 52) 3) 40 true)
 (.tk 17 (Zq 54 (.pick (Zr 40) (Zr 53) (.const (.bool false))))
 (.tk 18 (Za 55 54)
 (.tk 19 (Zp 56 (.move (Zr 5)) 55 true)
 (.tk 20 (Zp 57 (.fieldAddr 34 (Zr 3) 2) 55 true)
 (.tk 21 (Zp 58 (.load 32 (Zr 57)) 55 true) (.cut (Zp 59 (.slice 32 (Zr 58) (some (.const (.int .i64 1))) none none) 55 true) .fin))))))))))))))))))))))) [Zp 60 (.call { callee:=(.value (Zr 56)),args:=#[Zr 59],argTypes:=#[32] }) 55 true,Zq 61 (.pick (Zr 55) (Zr 60) (.const (.bool false))),Zc 4 61]) .ret))) .skip))))))))))
 (.seq
 (.reg [Zq 4 (.assign (.const (.bool false)))]) .ret))))
theorem fd48:FnD Try.prog 48 62 [(.tmp 4)] c48:=⟨⟨Try.f48,Try.f48.body.getD .skip,Try.func48,by kernel_rfl,by kernel_rfl,by kernel_rfl,by kernel_rfl⟩⟩
def c49:ACode:=(.seq
 (.reg [Zj 1 34 0,Zi 2 34])
 (.seq
 (.reg [Zb 3 34 1,Zo 4 36 #[Zr 3,(.const (.slice none 0 0))] #[34,96],Zg 34 2 4]) .ret))
theorem fd49:FnD Try.prog 49 5 [(.cell 2 34)] c49:=⟨⟨Try.f49,Try.f49.body.getD .skip,Try.func49,by kernel_rfl,by kernel_rfl,by kernel_rfl,by kernel_rfl⟩⟩
def ZE:GOp:=Zo 124 10 #[Zr 117,Zr 123] #[40,32]
def ZD:GPlan:=.tk 15 (Zc 16 125) (.one [13,16,17] (Zg 34 17 126) .fin)
def c50:ACode:=(.seq
 (.reg [Zj 2 115 0,Zj 3 34 1,Zi 4 34,Zf 5 0])
 (.seq
 (.seq
 (.reg [Zd 19 34 3 0,Zb 20 3 19,Zm 21 .eql 3 20 2])
 (.cond (Zr 21)
 (.seq
 (.reg [Zd 23 115 2 0,Zb 24 112 23,Zd 25 34 3 1,Zb 26 9 25,Zq 27 (.lookup 112 (Zr 24) (Zr 26) false),Zq 28 (.nilCheck (Zr 27)),Zb 29 40 28,Zo 30 10 #[Zr 29,(.const (.slice none 0 0))] #[40,32],Za 22 30,Zh 31 22 0,Zh 32 22 1,Zh 33 22 2,Zi 7 34,Zc 6 31,Zg 34 7 32,Zc 8 33])
 (.seq
 (.reg [Zb 34 34 7,Za 35 8,Zg 34 4 34,Zc 5 35]) .ret)) .skip))
 (.seq
 (.seq
 (.dreg
 (.tk 0 (Zd 36 34 3 0)
 (.tk 1 (Zb 37 3 36)
 (.tk 2 (Zm 38 .eql 3 37 4)
 (.tk 3 (Za 39 38)
 (.tk 4 (Zp 40 (.load 115 (Zr 2)) 39 true)
 (.tk 5 (Zp 41 (.fieldAddr 34 (Zr 3) 2) 39 true)
 (.tk 6 (Zp 42 (.load 32 (Zr 41)) 39 true)
 (.tk 7 (Zp 43 (.indexAddr 32 (Zr 42) (.const (.int .i64 0))) 39 true)
 (.tk 8 (Zp 44 (.load 34 (Zr 43)) 39 true) .fin))))))))) [Zp 45 (.call { callee:=(.value (.func 48)),args:=#[Zr 40,Zr 44],argTypes:=#[115,34] }) 39 true,Zq 46 (.pick (Zr 39) (Zr 45) (.const (.bool false)))])
 (.cond (Zr 46)
 (.reg [Zb 47 34 3,Zo 48 70 #[Zr 47] #[34],Zg 34 3 48]) .skip))
 (.seq
 (.seq
 (.reg [Zd 49 34 3 2,Zb 50 32 49,Zq 51 (.makeFunc (.func 72) #[] #[Zr 2]),Zo 52 71 #[Zr 50,Zr 51] #[32,133],Zc 9 52])
 (.seq
 (.reg [Za 53 9,Zm 54 .geq 3 53 0])
 (.cond (Zr 54)
 (.seq
 (.dreg
 (.tk 0 (Zb 56 115 2)
 (.tk 1 (Zd 57 34 3 2)
 (.tk 2 (Zb 58 32 57)
 (.tk 3 (Za 59 9)
 (.tk 4 (Zk 60 32 58 59)
 (.tk 5 (Zb 61 34 60)
 (.two [6,7,8,9,10,11,12] (Zo 62 50 #[Zr 56,Zr 61] #[115,34])
 (.tk 7 (Za 55 62)
 (.tk 8 (Zh 63 55 0)
 (.tk 9 (Zh 64 55 1)
 (.one [0,1,2,3,4,5,6,7,8,9,10,11,12] (Zi 10 34)
 (.one [9,11,12] (Zg 34 10 63) .fin))))) [0,1,2,3,4,5,6,7,8,9,10,11,12] (Zi 10 34)
 (.one [6,7,8,9,10,11,12] (Zo 62 50 #[Zr 56,Zr 61] #[115,34])
 (.tk 7 (Za 55 62)
 (.tk 8 (Zh 63 55 0)
 (.tk 9 (Zh 64 55 1)
 (.one [9,11,12] (Zg 34 10 63) .fin)))))))))))) [Zc 11 64])
 (.seq
 (.dreg
 (.tk 0 (Zd 65 34 3 0)
 (.tk 1 (Zb 66 3 65)
 (.tk 2 (Zd 67 34 3 1)
 (.tk 3 (Zb 68 9 67)
 (.tk 4 (Zd 69 34 3 2)
 (.tk 5 (Zb 70 32 69)
 (.two [0,1,2,3,6,7,8,9] (Zo 71 73 #[Zr 70] #[32])
 (.tk 7 (Zq 72 (.build 34 #[(0,(Zr 66)),(1,(Zr 68)),(2,(Zr 71))]))
 (.one [0,1,2,3,4,5,6,7,8,9] (Zi 12 34) .fin)) [0,1,2,3,4,5,6,7,8,9] (Zi 12 34)
 (.one [0,1,2,3,6,7,8,9] (Zo 71 73 #[Zr 70] #[32])
 (.tk 7 (Zq 72 (.build 34 #[(0,(Zr 66)),(1,(Zr 68)),(2,(Zr 71))])) .fin))))))))) [Zg 34 12 72])
 (.seq
 (.reg [Zd 73 34 12 2,Zb 74 32 73,Za 75 9,Zb 76 34 10,Zk 77 32 74 75,Zg 34 77 76])
 (.seq
 (.reg [Zb 78 34 12,Za 79 11,Zg 34 4 78,Zc 5 79]) .ret)))) .skip)))
 (.seq
 (.dreg
 (.tk 0 (Zd 80 34 3 2)
 (.tk 1 (Zb 81 32 80)
 (.tk 2 (Zq 82 (.indexAddr 32 (Zr 81) (.const (.int .i64 0))))
 (.tk 3 (Zb 83 34 82)
 (.tk 4 (Zd 84 34 3 2)
 (.tk 5 (Zb 85 32 84)
 (.tk 6 (Zq 86 (.slice 32 (Zr 85) (some (.const (.int .i64 1))) none none))
 (.one [0,1,2,3,4,5,6,7,8,9] (Zi 13 34)
 (.one [4,5,6,8,9] (Zg 34 13 83) .fin))))))))) [Zc 14 86])
 (.seq
 (.seq
 (.reg [Zd 87 34 13 0,Zb 88 3 87])
 (.block 0
 (.seq
 (.reg [Zm 90 .eql 3 88 5,Zc 89 90])
 (.cond (Zr 89)
 (.seq
 (.dreg
 (.tk 0 (Zd 91 34 13 2)
 (.tk 1 (Zb 92 32 91)
 (.tk 2 (Zq 93 (.indexAddr 32 (Zr 92) (.const (.int .i64 0))))
 (.tk 3 (Zb 94 34 93)
 (.tk 4 (Zd 95 34 13 1)
 (.tk 5 (Zb 96 9 95)
 (.tk 6 (Za 97 14)
 (.tk 7 (Zq 98 (.indexAddr 32 (Zr 97) (.const (.int .i64 0))))
 (.tk 8 (Zb 99 34 98)
 (.tk 9 (Zq 100 (.build 102 #[(0,(Zr 96)),(1,(Zr 99))]))
 (.tk 10 (Zq 101 (.buildSlice 96 1 #[(0,(Zr 100))]))
 (.tk 12 (Za 103 14)
 (.tk 13 (Zq 104 (.slice 32 (Zr 103) (some (.const (.int .i64 1))) none none))
 (.one [11,12,13,14,15,16] (Zo 102 36 #[Zr 94,Zr 101] #[34,96]) .fin)))))))))))))) [Zo 105 74 #[Zr 102,Zr 104] #[34,32],Zg 34 4 105,Zf 5 0]) .ret)
 (.seq
 (.reg [Zm 107 .eql 3 88 3,Zc 106 107])
 (.cond (Zr 106)
 (.seq
 (.reg [Zb 108 34 3,Zg 34 4 108,Zf 5 421]) .ret) .skip))))))
 (.seq
 (.reg [Zd 109 115 2 0,Zb 110 112 109,Zd 111 34 13 1,Zb 112 9 111,Zq 113 (.lookup 112 (Zr 110) (Zr 112) false),Zc 15 113])
 (.seq
 (.dreg
 (.tk 0 (Za 115 15)
 (.tk 1 (Zq 116 (.nilCheck (Zr 115)))
 (.tk 2 (Zb 117 40 116)
 (.tk 3 (Za 118 14)
 (.tk 4 (Za 119 15)
 (.tk 5 (Zq 120 (.nilCheck (Zr 119)))
 (.tk 6 (Zd 121 40 120 1)
 (.tk 7 (Zb 122 3 121)
 (.tk 8 (Zq 123 (.slice 32 (Zr 118) none (some (Zr 122)) none))
 (.two [9,10,11,12,13,14,15,16,17] ZE
 (.tk 10 (Za 114 124)
 (.tk 11 (Zh 125 114 0)
 (.tk 12 (Zh 126 114 1)
 (.tk 13 (Zh 127 114 2)
 (.one [0,1,2,3,4,5,6,7,8,9,10,11,12,13,14,15,16,17] (Zi 17 34) ZD))))) [0,1,2,3,4,5,6,7,8,9,10,11,12,13,14,15,16,17] (Zi 17 34)
 (.one [9,10,11,12,13,14,15,16,17] ZE
 (.tk 10 (Za 114 124)
 (.tk 11 (Zh 125 114 0)
 (.tk 12 (Zh 126 114 1)
 (.tk 13 (Zh 127 114 2) ZD))))))))))))))) [Zc 18 127])
 (.seq
 (.dreg
 (.tk 0 (Zb 128 34 17)
 (.tk 1 (Za 129 14)
 (.tk 2 (Za 130 15)
 (.tk 3 (Zq 131 (.nilCheck (Zr 130)))
 (.tk 4 (Zd 132 40 131 1)
 (.tk 5 (Zb 133 3 132)
 (.tk 6 (Zq 134 (.slice 32 (Zr 129) (some (Zr 133)) none none))
 (.tk 8 (Za 136 18)
 (.one [7,8,9,10] (Zo 135 74 #[Zr 128,Zr 134] #[34,32]) (.cut (Zg 34 4 135) .fin)))))))))) [Zc 5 136]) .ret)))))))))
theorem fd50:FnD Try.prog 50 137 [(.cell 4 34),(.tmp 5)] c50:=⟨⟨Try.f50,Try.f50.body.getD .skip,Try.func50,by kernel_rfl,by kernel_rfl,by kernel_rfl,by kernel_rfl⟩⟩
def b51_1:ACode:=(.seq
 (.reg [Zn 12 .lss 3 11 10])
 (.seq
 (.cond (Zr 12) .skip (.exit 0))
 (.seq
 (.block 1
 (.seq
 (.reg [Zk 13 32 9 11,Zb 14 34 13,Zi 5 34,Zg 34 5 14])
 (.seq
 (.reg [Zb 16 34 5,Zo 17 51 #[Zr 16] #[34],Za 15 17,Zh 18 15 0,Zh 19 15 1,Zc 6 18,Zc 7 19])
 (.seq
 (.reg [Za 20 2,Za 21 6,Zn 22 .add 3 20 21,Zc 2 22])
 (.reg [Za 23 3,Za 24 7,Zq 25 (.call { callee:=(.builtin .max),args:=#[Zr 23,Zr 24],argTypes:=#[3,3] }),Zc 3 25])))))
 (.reg [Zm 26 .add 3 11 1,Za 11 26]))))
def c51_1:ACode:=(.seq
 (.reg [Za 27 2,Zm 28 .add 3 27 1,Za 29 3,Zm 30 .add 3 29 1,Zc 2 28,Zc 3 30]) .ret)
def c51:ACode:=(.seq
 (.reg [Zj 1 34 0,Zf 2 0,Zf 3 0])
 (.seqL
 (.seq
 (.reg [Zd 8 34 1 2,Zb 9 32 8,Ze 10 9 32,Zq 11 (.move (.const (.int .i64 0)))])
 (.block 0 (.loop b51_1))) c51_1))
theorem fd51:FnD Try.prog 51 31 [(.tmp 2),(.tmp 3)] c51:=⟨⟨Try.f51,Try.f51.body.getD .skip,Try.func51,by kernel_rfl,by kernel_rfl,by kernel_rfl,by kernel_rfl⟩⟩
def c52:ACode:=(.seq
 (.reg [Zj 1 96 0,Zq 2 (.assign (.const .nilFunc))])
 (.seq
 (.reg [Zq 3 (.makeFunc (.func 75) #[] #[Zr 1]),Zc 2 3]) .ret))
theorem fd52:FnD Try.prog 52 4 [(.tmp 2)] c52:=⟨⟨Try.f52,Try.f52.body.getD .skip,Try.func52,by kernel_rfl,by kernel_rfl,by kernel_rfl,by kernel_rfl⟩⟩
def b53_1:ACode:=(.seq
 (.seq
 (.reg [Za 16 6,Za 17 0,Ze 18 17 96,Zn 19 .lss 3 16 18])
 (.cond (Zr 19) .skip (.exit 0)))
 (.seq
 (.block 1
 (.seq
 (.reg [Za 22 0,Za 23 6,Zk 24 96 22 23,Zb 25 102 24,Zi 7 102,Zg 102 7 25])
 (.seq
 (.reg [Za 26 1,Zb 27 102 7,Zq 28 (.call { callee:=(.value (Zr 26)),args:=#[Zr 27],argTypes:=#[102] }),Zq 29 (.unOp .not 4 (Zr 28))])
 (.cond (Zr 29)
 (.seq
 (.reg [Za 30 0,Za 31 5,Zb 32 102 7,Zk 33 96 30 31,Zg 102 33 32])
 (.reg [Za 34 5,Zm 35 .add 3 34 1,Zc 5 35])) .skip))))
 (.reg [Za 20 6,Zm 21 .add 3 20 1,Zc 6 21])))
def c53_1:ACode:=(.seq
 (.reg [Za 36 0,Za 37 5,Zq 38 (.slice 96 (Zr 36) (some (Zr 37)) none none),⟨none,(.call { callee:=(.builtin .clear),args:=#[Zr 38],argTypes:=#[96] }),none⟩])
 (.seq
 (.reg [Za 39 0,Za 40 5,Zq 41 (.slice 96 (Zr 39) none (some (Zr 40)) none),Zc 4 41]) .ret))
def c53:ACode:=(.seq
 (.reg [Zq 4 (.assign (.const (.slice none 0 0)))])
 (.seq
 (.reg [Za 8 0,Za 9 1,Zo 10 76 #[Zr 8,Zr 9] #[96,144],Zc 5 10])
 (.seq
 (.seq
 (.reg [Za 11 5,Zq 12 (.binOp .eql 3 (Zr 11) (.const (.int .i64 (-1))) 3)])
 (.cond (Zr 12)
 (.seq
 (.reg [Za 13 0,Zc 4 13]) .ret) .skip))
 (.seqL
 (.seq
 (.reg [Za 14 5,Zm 15 .add 3 14 1,Zc 6 15])
 (.block 0 (.loop b53_1))) c53_1))))
theorem fd53:FnD Try.prog 53 42 [(.tmp 4)] c53:=⟨⟨Try.f53,Try.f53.body.getD .skip,Try.func53,by kernel_rfl,by kernel_rfl,by kernel_rfl,by kernel_rfl⟩⟩
def c54:ACode:=(.seq
 (.reg [Zq 2 (.assign (.const (.slice none 0 0)))])
 (.seq
 (.seq
 (.reg [Za 3 0,Zq 4 (.binOp .eql 96 (Zr 3) (.const (.slice none 0 0)) 96)])
 (.cond (Zr 4)
 (.seq
 (.reg [Zq 2 (.assign (.const (.slice none 0 0)))]) .ret) .skip))
 (.seq
 (.reg [Zq 5 (.buildSlice 96 0 #[]),Za 6 0,Zl 7 5 6 96,Zc 2 7]) .ret)))
theorem fd54:FnD Try.prog 54 8 [(.tmp 2)] c54:=⟨⟨Try.f54,Try.f54.body.getD .skip,Try.func54,by kernel_rfl,by kernel_rfl,by kernel_rfl,by kernel_rfl⟩⟩
def c55:ACode:=(.seq
 (.reg [Zj 2 102 0,Zq 3 (.assign (.const (.bool false)))])
 (.seq
 (.reg [Zd 4 102 2 0,Zb 5 9 4,Zd 6 34 1 1,Zb 7 9 6,Zn 8 .eql 9 5 7,Zc 3 8]) .ret))
theorem fd55:FnD Try.prog 55 9 [(.tmp 3)] c55:=⟨⟨Try.f55,Try.f55.body.getD .skip,Try.func55,by kernel_rfl,by kernel_rfl,by kernel_rfl,by kernel_rfl⟩⟩
def b58_1:ACode:=(.seq
 (.reg [Zn 25 .lss 3 24 23])
 (.seq
 (.cond (Zr 25) .skip (.exit 0))
 (.seq
 (.block 1
 (.seq
 (.reg [Za 26 24,Zk 27 78 22 24,Zb 28 40 27,Zi 5 40,Zc 4 26,Zg 40 5 28])
 (.block 2
 (.seq
 (.reg [Zd 30 40 5 0,Zb 31 9 30,Zo 32 78 #[Zr 31] #[9],Zq 33 (.unOp .not 4 (Zr 32)),Zc 29 33])
 (.cond (Zr 29)
 (.seq
 (.reg [Zf 2 411]) .ret)
 (.seq
 (.dreg
 (.tk 0 (Zd 35 80 1 0)
 (.tk 1 (Zb 36 77 35)
 (.tk 2 (Zd 37 40 5 0)
 (.tk 3 (Zb 38 9 37)
 (.one [4,5,6,7,8,9,10,11,12,13,14,15,16] (Zo 39 79 #[Zr 36,Zr 38] #[77,9])
 (.tk 5 (Zm 40 .geq 3 39 0)
 (.tk 6 (Za 41 40)
 (.tk 7 (Zp 42 (.fieldAddr 80 (Zr 1) 1) 41 false)
 (.tk 8 (Zp 43 (.load 78 (Zr 42)) 41 false)
 (.tk 9 (Zp 44 (.move (Zr 4)) 41 false)
 (.tk 10 (Zp 45 (.slice 78 (Zr 43) none (some (Zr 44)) none) 41 false)
 (.tk 11 (Zp 46 (.fieldAddr 40 (Zr 5) 0) 41 false)
 (.tk 12 (Zp 47 (.load 9 (Zr 46)) 41 false) .fin))))))))))))) [Zp 48 (.call { callee:=(.value (.func 80)),args:=#[Zr 45,Zr 47],argTypes:=#[78,9] }) 41 false,Zp 49 (.binOp .geq 3 (Zr 48) (.const (.int .i64 0)) 3) 41 false,Zq 50 (.pick (Zr 41) (.const (.bool true)) (Zr 49)),Zc 34 50])
 (.cond (Zr 34)
 (.seq
 (.reg [Zf 2 10]) .ret)
 (.seq
 (.reg [Zd 52 40 5 1,Zb 53 3 52,Zm 54 .lss 3 53 0,Za 55 54,Zp 56 (.fieldAddr 40 (Zr 5) 1) 55 false,Zp 57 (.load 3 (Zr 56)) 55 false,Zp 58 (.binOp .gtr 3 (Zr 57) (.const (.int .i64 10)) 3) 55 false,Zq 59 (.pick (Zr 55) (.const (.bool true)) (Zr 58)),Zc 51 59])
 (.cond (Zr 51)
 (.seq
 (.reg [Zf 2 4]) .ret)
 (.seq
 (.reg [Zd 61 40 5 2,Zb 62 38 61,Ze 63 62 38,Zm 64 .lss 3 63 1,Za 65 64,Zp 66 (.fieldAddr 40 (Zr 5) 2) 65 false,Zp 67 (.load 38 (Zr 66)) 65 false,Zp 68 (.call { callee:=(.builtin .len),args:=#[Zr 67],argTypes:=#[38] }) 65 false,Zp 69 (.binOp .gtr 3 (Zr 68) (.const (.int .i64 100)) 3) 65 false,Zq 70 (.pick (Zr 65) (.const (.bool true)) (Zr 69)),Zc 60 70])
 (.cond (Zr 60)
 (.seq
 (.reg [Zf 2 5]) .ret) .skip)))))))))))
 (.reg [Zm 71 .add 3 24 1,Za 24 71]))))
def b58_2:ACode:=(.seq
 (.reg [Zn 83 .lss 3 82 81])
 (.seq
 (.cond (Zr 83) .skip (.exit 5))
 (.seq
 (.block 6
 (.seq
 (.reg [Zk 84 38 80 82,Zb 85 93 84,Zi 9 93,Zg 93 9 85])
 (.seq
 (.reg [Zb 86 80 1,Zb 87 40 7,Zb 88 93 9,Zo 89 81 #[Zr 86,Zr 87,Zr 88] #[80,40,93],Zc 10 89])
 (.seq
 (.reg [Za 90 10,Zm 91 .neq 35 90 0])
 (.cond (Zr 91)
 (.seq
 (.reg [Za 92 10,Zc 2 92]) .ret) .skip)))))
 (.reg [Zm 93 .add 3 82 1,Za 82 93]))))
def c58_1:ACode:=(.reg [Zm 94 .add 3 75 1,Za 75 94])
def b58_3:ACode:=(.seq
 (.reg [Zn 76 .lss 3 75 74])
 (.seq
 (.cond (Zr 76) .skip (.exit 3))
 (.seqL
 (.block 4
 (.seq
 (.reg [Zk 77 78 73 75,Zb 78 40 77,Zi 7 40,Zg 40 7 78])
 (.seq
 (.reg [Zd 79 40 7 2,Zb 80 38 79,Ze 81 80 38,Zq 82 (.move (.const (.int .i64 0)))])
 (.block 5 (.loop b58_2))))) c58_1)))
def c58_2:ACode:=(.seq
 (.reg [Zf 2 0]) .ret)
def c58_3:ACode:=(.seqL
 (.seq
 (.reg [Zd 72 80 1 1,Zb 73 78 72,Ze 74 73 78,Zq 75 (.move (.const (.int .i64 0)))])
 (.block 3 (.loop b58_3))) c58_2)
def c58:ACode:=(.seq
 (.reg [Zj 1 80 0,Zf 2 0])
 (.seq
 (.seq
 (.reg [Zd 11 80 1 1,Zb 12 78 11,Ze 13 12 78,Zm 14 .gtr 3 13 100])
 (.cond (Zr 14)
 (.seq
 (.reg [Zf 2 5]) .ret) .skip))
 (.seq
 (.seq
 (.reg [Zd 15 80 1 0,Zb 16 77 15,Zo 17 77 #[Zr 16] #[77],Zc 3 17])
 (.seq
 (.reg [Za 18 3,Zm 19 .neq 35 18 0])
 (.cond (Zr 19)
 (.seq
 (.reg [Za 20 3,Zc 2 20]) .ret) .skip)))
 (.seqL
 (.seq
 (.reg [Zd 21 80 1 1,Zb 22 78 21,Ze 23 22 78,Zq 24 (.move (.const (.int .i64 0)))])
 (.block 0 (.loop b58_1))) c58_3))))
theorem fd58:FnD Try.prog 58 95 [(.tmp 2)] c58:=⟨⟨Try.f58,Try.f58.body.getD .skip,Try.func58,by kernel_rfl,by kernel_rfl,by kernel_rfl,by kernel_rfl⟩⟩
def b59_1:ACode:=(.seq
 (.reg [Zn 14 .lss 3 13 12])
 (.seq
 (.cond (Zr 14) .skip (.exit 0))
 (.seq
 (.block 1
 (.seq
 (.reg [Za 15 13,Zc 4 15])
 (.dreg
 (.tk 0 (Zd 16 115 3 0)
 (.tk 1 (Zb 17 112 16)
 (.tk 2 (Zd 18 80 1 1)
 (.tk 3 (Zb 19 78 18)
 (.tk 4 (Za 20 4)
 (.tk 5 (Zk 21 78 19 20)
 (.tk 6 (Zd 22 40 21 0)
 (.tk 7 (Zb 23 9 22)
 (.tk 8 (Zd 24 80 1 1)
 (.tk 9 (Zb 25 78 24)
 (.tk 10 (Za 26 4)
 (.tk 11 (Zk 27 78 25 26) .fin)))))))))))) [⟨none,(.mapUpdate 112 (Zr 17) (Zr 23) (Zr 27)),none⟩])))
 (.reg [Zm 28 .add 3 13 1,Za 13 28]))))
def b59_2:ACode:=(.seq
 (.reg [Zn 33 .lss 3 32 31])
 (.seq
 (.cond (Zr 33) .skip (.exit 2))
 (.seq
 (.block 3
 (.seq
 (.reg [Zk 34 77 30 32,Zb 35 91 34,Zi 6 91,Zg 91 6 35])
 (.reg [Zd 36 115 3 1,Zb 37 113 36,Zd 38 91 6 0,Zb 39 9 38,Zd 40 91 6 1,Zb 41 3 40,⟨none,(.mapUpdate 113 (Zr 37) (Zr 39) (Zr 41)),none⟩])))
 (.reg [Zm 42 .add 3 32 1,Za 32 42]))))
def c59_1:ACode:=(.seq
 (.reg [Zb 43 115 3,Zg 115 2 43]) .ret)
def c59_2:ACode:=(.seqL
 (.seq
 (.reg [Zd 29 80 1 0,Zb 30 77 29,Ze 31 30 77,Zq 32 (.move (.const (.int .i64 0)))])
 (.block 2 (.loop b59_2))) c59_1)
def c59:ACode:=(.seq
 (.reg [Zj 1 80 0,Zi 2 115])
 (.seq
 (.reg [Zq 7 (.makeMap 112 none),Zq 8 (.makeMap 113 none),Zq 9 (.build 115 #[(0,(Zr 7)),(1,(Zr 8))]),Zi 3 115,Zg 115 3 9])
 (.seqL
 (.seq
 (.reg [Zd 10 80 1 1,Zb 11 78 10,Ze 12 11 78,Zq 13 (.move (.const (.int .i64 0)))])
 (.block 0 (.loop b59_1))) c59_2)))
theorem fd59:FnD Try.prog 59 44 [(.cell 2 115)] c59:=⟨⟨Try.f59,Try.f59.body.getD .skip,Try.func59,by kernel_rfl,by kernel_rfl,by kernel_rfl,by kernel_rfl⟩⟩
def b60_1:ACode:=(.seq
 (.reg [Zn 98 .lss 3 97 96])
 (.seq
 (.cond (Zr 98) .skip (.exit 2))
 (.seq
 (.block 3
 (.seq
 (.reg [Zk 99 32 95 97,Zb 100 34 99,Zi 12 34,Zg 34 12 100])
 (.seq
 (.reg [Zb 101 115 3,Zb 102 34 12,Za 103 2,Zo 104 60 #[Zr 101,Zr 102,Zr 103] #[115,34,52],Zc 13 104])
 (.seq
 (.reg [Za 105 13,Zm 106 .neq 35 105 0])
 (.cond (Zr 106)
 (.seq
 (.reg [Za 107 13,Zc 6 107]) .ret) .skip)))))
 (.reg [Zm 108 .add 3 97 1,Za 97 108]))))
def c60_1:ACode:=(.seq
 (.reg [Zf 6 0]) .ret)
def c60:ACode:=(.seq
 (.reg [Zj 3 115 0,Zj 4 34 1,Zf 6 0])
 (.seq
 (.dreg
 (.tk 0 (Zd 14 34 4 2)
 (.tk 1 (Zb 15 32 14)
 (.tk 2 (Ze 16 15 32)
 (.tk 3 (Zd 17 34 4 1)
 (.tk 4 (Zb 18 9 17)
 (.tk 5 (Zq 19 (.binOp .neq 9 (Zr 18) (.const (.string { data:=#[] })) 9))
 (.tk 6 (Zc 7 16) .fin))))))) [Zc 8 19])
 (.seq
 (.seq
 (.reg [Zd 20 34 4 0,Zb 21 3 20])
 (.block 0
 (.seq
 (.seq
 (.reg [Zm 23 .eql 3 21 1,Zc 22 23])
 (.cond (Zr 22) .skip
 (.reg [Zm 24 .eql 3 21 2,Zc 22 24])))
 (.cond (Zr 22)
 (.seq
 (.reg [Za 25 7,Zm 26 .gtr 3 25 0,Za 27 26,Zp 28 (.move (Zr 8)) 27 false,Zp 29 (.unOp .not 4 (Zr 28)) 27 false,Zq 30 (.pick (Zr 27) (.const (.bool true)) (Zr 29))])
 (.cond (Zr 30)
 (.seq
 (.reg [Zf 6 2]) .ret) .skip))
 (.seq
 (.reg [Zm 32 .eql 3 21 5,Zc 31 32])
 (.cond (Zr 31)
 (.seq
 (.reg [Za 33 7,Zm 34 .neq 3 33 1,Za 35 34,Zp 36 (.move (Zr 8)) 35 false,Zp 37 (.unOp .not 4 (Zr 36)) 35 false,Zq 38 (.pick (Zr 35) (.const (.bool true)) (Zr 37))])
 (.cond (Zr 38)
 (.seq
 (.reg [Zf 6 2]) .ret) .skip))
 (.seq
 (.reg [Zm 40 .eql 3 21 4,Zc 39 40])
 (.cond (Zr 39)
 (.seq
 (.reg [Za 41 7,Zm 42 .lss 3 41 2,Za 43 42,Zp 44 (.move (Zr 8)) 43 false,Zq 45 (.pick (Zr 43) (.const (.bool true)) (Zr 44))])
 (.cond (Zr 45)
 (.seq
 (.reg [Zf 6 2]) .ret) .skip))
 (.seq
 (.reg [Zm 47 .eql 3 21 3,Zc 46 47])
 (.cond (Zr 46)
 (.seq
 (.reg [Za 48 8,Zq 49 (.unOp .not 4 (Zr 48))])
 (.cond (Zr 49)
 (.seq
 (.reg [Zf 6 2]) .ret) .skip))
 (.seq
 (.reg [Zf 6 2]) .ret)))))))))))
 (.seq
 (.seq
 (.reg [Zd 50 34 4 0,Zb 51 3 50])
 (.block 1
 (.seq
 (.reg [Zm 53 .eql 3 51 2,Zc 52 53])
 (.cond (Zr 52)
 (.seq
 (.reg [Zd 54 115 3 0,Zb 55 112 54,Zd 56 34 4 1,Zb 57 9 56,Zq 58 (.lookup 112 (Zr 55) (Zr 57) false),Zq 59 (.binOp .eql 156 (Zr 58) (.const (.pointer none)) 156)])
 (.cond (Zr 59)
 (.seq
 (.reg [Zf 6 9]) .ret) .skip))
 (.seq
 (.reg [Zm 61 .eql 3 51 3,Zc 60 61])
 (.cond (Zr 60)
 (.seq
 (.reg [Zd 63 115 3 1,Zb 64 113 63,Zd 65 34 4 1,Zb 66 9 65,Zq 67 (.lookup 113 (Zr 64) (Zr 66) true),Za 62 67,Zh 68 62 0,Zh 69 62 1,Zc 9 68,Zc 10 69])
 (.seq
 (.seq
 (.reg [Za 70 10,Zq 71 (.unOp .not 4 (Zr 70))])
 (.cond (Zr 71)
 (.seq
 (.reg [Zf 6 9]) .ret) .skip))
 (.seq
 (.reg [Za 72 7,Za 73 9,Zn 74 .neq 3 72 73])
 (.cond (Zr 74)
 (.seq
 (.reg [Zf 6 5]) .ret) .skip))))
 (.seq
 (.reg [Zm 76 .eql 3 51 1,Zc 75 76])
 (.cond (Zr 75)
 (.seq
 (.reg [Za 77 2,Zd 78 34 4 1,Zb 79 9 78,Zo 80 82 #[Zr 77,Zr 79] #[52,9],Zq 81 (.unOp .not 4 (Zr 80))])
 (.cond (Zr 81)
 (.seq
 (.reg [Zf 6 422]) .ret) .skip))
 (.seq
 (.reg [Zm 83 .eql 3 51 5,Zc 82 83])
 (.cond (Zr 82)
 (.dreg
 (.tk 0 (Za 84 2)
 (.tk 1 (Za 85 2)
 (.tk 2 (Ze 86 85 52)
 (.tk 3 (Za 87 2)
 (.tk 4 (Ze 88 87 52)
 (.tk 5 (Zq 89 (.slice 52 (Zr 84) none (some (Zr 86)) (some (Zr 88))))
 (.tk 6 (Zd 90 34 4 1)
 (.tk 7 (Zb 91 9 90)
 (.tk 8 (Zq 92 (.buildSlice 52 1 #[(0,(Zr 91))])) .fin))))))))) [Zl 93 89 92 52,Zc 2 93]) .skip))))))))))
 (.seqL
 (.seq
 (.reg [Zd 94 34 4 2,Zb 95 32 94,Ze 96 95 32,Zq 97 (.move (.const (.int .i64 0)))])
 (.block 2 (.loop b60_1))) c60_1)))))
theorem fd60:FnD Try.prog 60 109 [(.tmp 6)] c60:=⟨⟨Try.f60,Try.f60.body.getD .skip,Try.func60,by kernel_rfl,by kernel_rfl,by kernel_rfl,by kernel_rfl⟩⟩
def b61_1:ACode:=(.seq
 (.reg [Zn 11 .lss 3 10 9])
 (.seq
 (.cond (Zr 11) .skip (.exit 0))
 (.seq
 (.block 1
 (.seq
 (.reg [Zk 12 32 8 10,Zb 13 34 12,Zi 6 34,Zg 34 6 13])
 (.reg [Za 14 4,Zb 15 121 1,Zb 16 34 6,Zb 17 150 2,Zo 18 45 #[Zr 15,Zr 16,Zr 17] #[121,34,150],Zq 19 (.buildSlice 151 1 #[(0,(Zr 18))]),Zl 20 14 19 151,Zc 4 20])))
 (.reg [Zm 21 .add 3 10 1,Za 10 21]))))
def c61_1:ACode:=(.seq
 (.reg [Za 22 4,Zc 3 22]) .ret)
def c61:ACode:=(.seq
 (.reg [Zq 3 (.assign (.const (.slice none 0 0)))])
 (.seq
 (.reg [Zq 4 (.assign (.const (.slice none 0 0)))])
 (.seqL
 (.seq
 (.reg [Zd 7 34 0 2,Zb 8 32 7,Ze 9 8 32,Zq 10 (.move (.const (.int .i64 0)))])
 (.block 0 (.loop b61_1))) c61_1)))
theorem fd61:FnD Try.prog 61 23 [(.tmp 3)] c61:=⟨⟨Try.f61,Try.f61.body.getD .skip,Try.func61,by kernel_rfl,by kernel_rfl,by kernel_rfl,by kernel_rfl⟩⟩
def b62_1:ACode:=(.seq
 (.seq
 (.reg [Za 5 0,Zq 6 (.binOp .neq 150 (Zr 5) (.const (.pointer none)) 150)])
 (.cond (Zr 6) .skip (.exit 0)))
 (.seq
 (.block 1
 (.seq
 (.reg [Za 11 0,Zq 12 (.nilCheck (Zr 11)),Zd 13 180 12 0,Zb 14 9 13,Za 15 1,Zn 16 .eql 9 14 15])
 (.cond (Zr 16)
 (.seq
 (.reg [Za 17 0,Zq 18 (.nilCheck (Zr 17)),Zd 19 180 18 1,Zb 20 125 19,Zc 4 20]) .ret) .skip)))
 (.reg [Za 7 0,Zq 8 (.nilCheck (Zr 7)),Zd 9 180 8 2,Zb 10 150 9,Zc 0 10])))
def c62_1:ACode:=(.seq
 (.reg [Zq 4 (.assign (.const .nilIface))]) .ret)
def c62:ACode:=(.seq
 (.reg [Zq 4 (.assign (.const .nilIface))])
 (.seqL
 (.block 0 (.loop b62_1)) c62_1))
theorem fd62:FnD Try.prog 62 21 [(.tmp 4)] c62:=⟨⟨Try.f62,Try.f62.body.getD .skip,Try.func62,by kernel_rfl,by kernel_rfl,by kernel_rfl,by kernel_rfl⟩⟩
def b63_1:ACode:=(.seq
 (.reg [Zn 30 .lss 3 29 28])
 (.seq
 (.cond (Zr 30) .skip (.exit 2))
 (.seq
 (.block 3
 (.seq
 (.reg [Za 31 29,Zk 32 55 27 29,Zb 33 57 32,Zi 11 57,Zc 10 31,Zg 57 11 33])
 (.seq
 (.dreg
 (.tk 0 (Zb 35 57 11)
 (.tk 1 (Za 36 2)
 (.tk 2 (Za 37 10)
 (.tk 3 (Zk 38 151 36 37)
 (.tk 4 (Zb 39 125 38)
 (.tk 5 (Za 40 9)
 (.one [6,7,8,9,10,11] (Zo 41 84 #[Zr 35,Zr 39,Zr 40] #[57,125,150])
 (.tk 7 (Za 34 41)
 (.tk 8 (Zh 42 34 0)
 (.tk 9 (Zh 43 34 1)
 (.tk 10 (Zc 12 42) .fin))))))))))) [Zc 13 43])
 (.seq
 (.seq
 (.reg [Za 44 13,Zq 45 (.unOp .not 4 (Zr 44))])
 (.cond (Zr 45) (.exit 1) .skip))
 (.reg [Za 46 12,Zc 9 46])))))
 (.reg [Zm 47 .add 3 29 1,Za 29 47]))))
def c63_1:ACode:=(.seq
 (.reg [Za 48 0,Zd 49 93 8 1,Zb 50 34 49,Za 51 9,Zo 52 85 #[Zr 48,Zr 50,Zr 51] #[121,34,150],Zc 6 52]) .ret)
def c63_2:ACode:=(.reg [Zm 53 .add 3 22 1,Za 22 53])
def b63_2:ACode:=(.seq
 (.reg [Zn 23 .lss 3 22 21])
 (.seq
 (.cond (Zr 23) .skip (.exit 0))
 (.seqL
 (.block 1
 (.seq
 (.reg [Zk 24 38 20 22,Zb 25 93 24,Zi 8 93,Zg 93 8 25])
 (.seq
 (.reg [Zq 9 (.assign (.const (.pointer none)))])
 (.seqL
 (.seq
 (.reg [Zd 26 93 8 0,Zb 27 55 26,Ze 28 27 55,Zq 29 (.move (.const (.int .i64 0)))])
 (.block 2 (.loop b63_1))) c63_1)))) c63_2)))
def c63_3:ACode:=(.reg [Zq 54 (.build 119 #[(0,(.const (.int .i64 420)))]),Zq 55 (.makeInterface 119 (Zr 54)),⟨none,(.panic (Zr 55)),none⟩])
def c63:ACode:=(.seq
 (.reg [Zq 6 (.assign (.const .nilIface))]) (.scope
 (.seq
 (.reg [Za 14 0,Za 15 2,Zo 16 83 #[Zr 14,Zr 15] #[121,151]])
 (.seq .skip
 (.seqL
 (.seq
 (.reg [Za 17 1,Zq 18 (.nilCheck (Zr 17)),Zd 19 40 18 2,Zb 20 38 19,Ze 21 20 38,Zq 22 (.move (.const (.int .i64 0)))])
 (.block 0 (.loop b63_2))) c63_3)))))
theorem fd63:FnD Try.prog 63 56 [(.tmp 6)] c63:=⟨⟨Try.f63,Try.f63.body.getD .skip,Try.func63,by kernel_rfl,by kernel_rfl,by kernel_rfl,by kernel_rfl⟩⟩
def b64_1:ACode:=(.seq
 (.seq
 (.reg [Za 12 2,Ze 13 12 151,Zm 14 .gtr 3 13 0])
 (.cond (Zr 14) .skip (.exit 0)))
 (.block 1
 (.seq
 (.reg [Za 15 1])
 (.block 2
 (.seq
 (.reg [Zq 18 (.typeAssert (Zr 15) 125 155 true),Zh 19 18 1,Zh 20 18 0])
 (.cond (Zr 19)
 (.seq
 (.reg [Zi 7 155,Zg 155 7 20])
 (.seq
 (.reg [Za 21 0,Za 22 2,Zq 23 (.indexAddr 151 (Zr 22) (.const (.int .i64 0))),Zb 24 125 23,Zq 25 (.buildSlice 151 1 #[(0,(Zr 24))]),Zo 26 83 #[Zr 21,Zr 25] #[121,151]])
 (.seq
 (.dreg
 (.tk 0 (Za 27 0)
 (.tk 1 (Zd 28 155 7 0)
 (.tk 2 (Zd 29 34 28 2)
 (.tk 3 (Zb 30 32 29)
 (.tk 4 (Zq 31 (.indexAddr 32 (Zr 30) (.const (.int .i64 0))))
 (.tk 5 (Zb 32 34 31)
 (.tk 6 (Zd 33 155 7 0)
 (.tk 7 (Zd 34 34 33 1)
 (.tk 8 (Zb 35 9 34)
 (.tk 9 (Za 36 2)
 (.tk 10 (Zq 37 (.indexAddr 151 (Zr 36) (.const (.int .i64 0))))
 (.tk 11 (Zb 38 125 37)
 (.tk 12 (Zd 39 155 7 1)
 (.tk 13 (Zb 40 150 39)
 (.tk 14 (Zq 41 (.build 180 #[(0,(Zr 35)),(1,(Zr 38)),(2,(Zr 40))]))
 (.one [0,1,2,3,4,5,15,16,17] (Zj 42 180 41) .fin)))))))))))))))) [Zo 43 85 #[Zr 27,Zr 32,Zr 42] #[121,34,150],Zc 1 43])
 (.reg [Za 44 2,Zq 45 (.slice 151 (Zr 44) (some (.const (.int .i64 1))) none none),Zc 2 45]))))
 (.seq
 (.reg [Zq 46 (.typeAssert (Zr 15) 125 158 true),Zh 47 46 1,Zh 48 46 0])
 (.cond (Zr 47)
 (.seq
 (.reg [Zi 8 158,Zg 158 8 48])
 (.seq
 (.dreg
 (.tk 0 (Zd 49 158 8 0)
 (.tk 1 (Zb 50 156 49)
 (.tk 2 (Zq 51 (.nilCheck (Zr 50)))
 (.tk 3 (Zd 52 40 51 1)
 (.tk 4 (Zb 53 3 52)
 (.tk 5 (Zd 54 158 8 1)
 (.tk 6 (Zb 55 151 54)
 (.tk 7 (Ze 56 55 151) .fin)))))))) [Zn 57 .sub 3 53 56,Zc 9 57])
 (.seq
 (.dreg
 (.tk 0 (Zd 58 158 8 1)
 (.tk 1 (Zb 59 151 58)
 (.tk 3 (Za 61 2)
 (.tk 4 (Za 62 9)
 (.tk 5 (Za 63 2)
 (.tk 6 (Ze 64 63 151)
 (.tk 7 (Zq 65 (.call { callee:=(.builtin .min),args:=#[Zr 62,Zr 64],argTypes:=#[3,3] }))
 (.tk 8 (Zq 66 (.slice 151 (Zr 61) none (some (Zr 65)) none))
 (.one [2,3,4,5,6,7,8,9,10] (Zo 60 86 #[Zr 59] #[151]) .fin))))))))) [Zl 67 60 66 151,Zc 10 67])
 (.seq
 (.seq
 (.reg [Za 68 2,Ze 69 68 151,Za 70 9,Zn 71 .lss 3 69 70])
 (.cond (Zr 71)
 (.seq
 (.reg [Zd 72 158 8 0,Zb 73 156 72,Za 74 10,Zq 75 (.build 158 #[(0,(Zr 73)),(1,(Zr 74))]),Zq 76 (.makeInterface 158 (Zr 75)),Zc 6 76]) .ret) .skip))
 (.seq
 (.reg [Za 77 0,Zd 78 158 8 0,Zb 79 156 78,Za 80 10,Zo 81 63 #[Zr 77,Zr 79,Zr 80] #[121,156,151],Zc 1 81])
 (.reg [Za 82 2,Za 83 9,Zq 84 (.slice 151 (Zr 82) (some (Zr 83)) none none),Zc 2 84]))))))
 (.seq
 (.reg [Zc 11 15])
 (.reg [Zq 16 (.build 119 #[(0,(.const (.int .i64 421)))]),Zq 17 (.makeInterface 119 (Zr 16)),⟨none,(.panic (Zr 17)),none⟩]))))))))))
def c64_1:ACode:=(.seq
 (.reg [Za 85 1,Zc 6 85]) .ret)
def c64:ACode:=(.seq
 (.reg [Zq 6 (.assign (.const .nilIface))])
 (.seqL
 (.block 0 (.loop b64_1)) c64_1))
theorem fd64:FnD Try.prog 64 86 [(.tmp 6)] c64:=⟨⟨Try.f64,Try.f64.body.getD .skip,Try.func64,by kernel_rfl,by kernel_rfl,by kernel_rfl,by kernel_rfl⟩⟩
def b65_1:ACode:=(.seq
 (.reg [Zn 9 .lss 3 8 7])
 (.seq
 (.cond (Zr 9) .skip (.exit 0))
 (.seq
 (.block 1
 (.seq
 (.reg [Zk 10 151 6 8,Zb 11 125 10,Zc 5 11])
 (.reg [Za 12 0,Za 13 5,Zo 14 46 #[Zr 12,Zr 13] #[127,125]])))
 (.reg [Zm 15 .add 3 8 1,Za 8 15]))))
def c65:ACode:=(.seq
 (.reg [Za 6 1,Ze 7 6 151,Zq 8 (.move (.const (.int .i64 0)))])
 (.block 0 (.loop b65_1)))
theorem fd65:FnD Try.prog 65 16 [] c65:=⟨⟨Try.f65,Try.f65.body.getD .skip,Try.func65,by kernel_rfl,by kernel_rfl,by kernel_rfl,by kernel_rfl⟩⟩
def b66_1:ACode:=(.seq
 (.reg [Zn 45 .lss 3 44 43])
 (.seq
 (.cond (Zr 45) .skip (.exit 0))
 (.seq
 (.block 1
 (.seq
 (.reg [Zk 46 32 42 44,Zb 47 34 46,Zi 8 34,Zg 34 8 47])
 (.reg [Za 48 0,Zb 49 34 8,Za 50 2,Zo 51 66 #[Zr 48,Zr 49,Zr 50] #[127,34,150]])))
 (.reg [Zm 52 .add 3 44 1,Za 44 52]))))
def c66:ACode:=(.seq
 (.reg [Zj 4 34 1])
 (.seq
 (.seq
 (.reg [Za 9 0,Zq 10 (.nilCheck (Zr 9)),Zd 11 129 10 0,Zb 12 3 11,Zm 13 .lss 3 12 0])
 (.cond (Zr 13) .ret .skip))
 (.seq
 (.seq
 (.reg [Zd 14 34 4 0,Zb 15 3 14,Zm 16 .eql 3 15 1])
 (.cond (Zr 16)
 (.seq
 (.reg [Za 17 2,Zd 18 34 4 1,Zb 19 9 18,Zo 20 62 #[Zr 17,Zr 19] #[150,9],Zc 6 20])
 (.seq
 (.reg [Za 21 6,Zq 22 (.binOp .neq 125 (Zr 21) (.const .nilIface) 125)])
 (.cond (Zr 22)
 (.seq
 (.reg [Za 23 0,Za 24 6,Zo 25 46 #[Zr 23,Zr 24] #[127,125]]) .ret) .skip))) .skip))
 (.seq
 (.reg [Za 26 0,Zq 27 (.nilCheck (Zr 26)),Zd 28 129 27 0,Zb 29 3 28,Zm 30 .sub 3 29 1,Zq 31 (.nilCheck (Zr 26)),Zd 32 129 31 0,Zg 3 32 30])
 (.seq
 (.seq
 (.reg [Zd 33 34 4 0,Zb 34 3 33,Zm 35 .eql 3 34 5])
 (.cond (Zr 35)
 (.reg [Zd 36 34 4 1,Zb 37 9 36,Za 38 2,Zq 39 (.build 180 #[(0,(Zr 37)),(1,(.const .nilIface)),(2,(Zr 38))]),Zj 40 180 39,Zc 2 40]) .skip))
 (.seq
 (.reg [Zd 41 34 4 2,Zb 42 32 41,Ze 43 42 32,Zq 44 (.move (.const (.int .i64 0)))])
 (.block 0 (.loop b66_1))))))))
theorem fd66:FnD Try.prog 66 53 [] c66:=⟨⟨Try.f66,Try.f66.body.getD .skip,Try.func66,by kernel_rfl,by kernel_rfl,by kernel_rfl,by kernel_rfl⟩⟩
def c67:ACode:=(.seq
 (.reg [Zq 3 (.assign (.const (.bool false)))])
 (.seq
 (.reg [Za 4 0,Zq 5 (.makeFunc (.func 69) #[] #[Zr 1]),Zo 6 68 #[Zr 4,Zr 5] #[32,133],Zq 7 (.unOp .not 4 (Zr 6)),Zc 3 7]) .ret))
theorem fd67:FnD Try.prog 67 8 [(.tmp 3)] c67:=⟨⟨Try.f67,Try.f67.body.getD .skip,Try.func67,by kernel_rfl,by kernel_rfl,by kernel_rfl,by kernel_rfl⟩⟩
def c68:ACode:=(.seq
 (.reg [Zq 4 (.assign (.const (.bool false)))])
 (.seq
 (.reg [Za 5 0,Za 6 1,Zo 7 71 #[Zr 5,Zr 6] #[32,133],Zm 8 .geq 3 7 0,Zc 4 8]) .ret))
theorem fd68:FnD Try.prog 68 9 [(.tmp 4)] c68:=⟨⟨Try.f68,Try.f68.body.getD .skip,Try.func68,by kernel_rfl,by kernel_rfl,by kernel_rfl,by kernel_rfl⟩⟩
def c69:ACode:=(.seq
 (.reg [Zj 2 34 0,Zq 3 (.assign (.const (.bool false)))])
 (.seq
 (.reg [Zb 4 115 1,Zb 5 34 2,Zo 6 48 #[Zr 4,Zr 5] #[115,34],Zq 7 (.unOp .not 4 (Zr 6)),Zc 3 7]) .ret))
theorem fd69:FnD Try.prog 69 8 [(.tmp 3)] c69:=⟨⟨Try.f69,Try.f69.body.getD .skip,Try.func69,by kernel_rfl,by kernel_rfl,by kernel_rfl,by kernel_rfl⟩⟩
def b70_1:ACode:=(.seq
 (.seq
 (.reg [Zd 3 34 1 0,Zb 4 3 3,Zm 5 .eql 3 4 4,Za 6 5,Zp 7 (.fieldAddr 34 (Zr 1) 2) 6 true,Zp 8 (.load 32 (Zr 7)) 6 true,Zp 9 (.indexAddr 32 (Zr 8) (.const (.int .i64 0))) 6 true,Zp 10 (.fieldAddr 34 (Zr 9) 0) 6 true,Zp 11 (.load 3 (Zr 10)) 6 true,Zp 12 (.binOp .eql 3 (Zr 11) (.const (.int .i64 4)) 3) 6 true,Zq 13 (.pick (Zr 6) (Zr 12) (.const (.bool false)))])
 (.cond (Zr 13) .skip (.exit 0)))
 (.block 1
 (.dreg
 (.tk 0 (Zd 14 34 1 2)
 (.tk 1 (Zb 15 32 14)
 (.tk 2 (Zq 16 (.indexAddr 32 (Zr 15) (.const (.int .i64 0))))
 (.tk 3 (Zd 17 34 16 2)
 (.tk 4 (Zb 18 32 17)
 (.tk 5 (Zd 19 34 1 2)
 (.tk 6 (Zb 20 32 19)
 (.tk 7 (Zq 21 (.slice 32 (Zr 20) (some (.const (.int .i64 1))) none none)) .fin)))))))) [Zq 22 (.buildSlice 200 2 #[(0,(Zr 18)),(1,(Zr 21))]),Zo 23 87 #[Zr 22] #[200],Zq 24 (.build 34 #[(0,(.const (.int .i64 4))),(2,(Zr 23))]),Zg 34 1 24])))
def c70_1:ACode:=(.seq
 (.reg [Zb 25 34 1,Zg 34 2 25]) .ret)
def c70:ACode:=(.seq
 (.reg [Zj 1 34 0,Zi 2 34])
 (.seqL
 (.block 0 (.loop b70_1)) c70_1))
theorem fd70:FnD Try.prog 70 26 [(.cell 2 34)] c70:=⟨⟨Try.f70,Try.f70.body.getD .skip,Try.func70,by kernel_rfl,by kernel_rfl,by kernel_rfl,by kernel_rfl⟩⟩
def b71_1:ACode:=(.seq
 (.reg [Zn 9 .lss 3 8 7])
 (.seq
 (.cond (Zr 9) .skip (.exit 0))
 (.seq
 (.block 1
 (.seq
 (.reg [Za 10 8,Zc 5 10])
 (.seq
 (.reg [Za 11 1,Za 12 0,Za 13 5,Zk 14 32 12 13,Zb 15 34 14,Zq 16 (.call { callee:=(.value (Zr 11)),args:=#[Zr 15],argTypes:=#[34] })])
 (.cond (Zr 16)
 (.seq
 (.reg [Za 17 5,Zc 4 17]) .ret) .skip))))
 (.reg [Zm 18 .add 3 8 1,Za 8 18]))))
def c71_1:ACode:=(.seq
 (.reg [Zq 4 (.assign (.const (.int .i64 (-1))))]) .ret)
def c71:ACode:=(.seq
 (.reg [Zf 4 0])
 (.seqL
 (.seq
 (.reg [Za 6 0,Ze 7 6 32,Zq 8 (.move (.const (.int .i64 0)))])
 (.block 0 (.loop b71_1))) c71_1))
theorem fd71:FnD Try.prog 71 19 [(.tmp 4)] c71:=⟨⟨Try.f71,Try.f71.body.getD .skip,Try.func71,by kernel_rfl,by kernel_rfl,by kernel_rfl,by kernel_rfl⟩⟩
def c72:ACode:=(.seq
 (.reg [Zj 2 34 0,Zq 3 (.assign (.const (.bool false)))])
 (.seq
 (.reg [Zb 4 115 1,Zb 5 34 2,Zo 6 48 #[Zr 4,Zr 5] #[115,34],Zq 7 (.unOp .not 4 (Zr 6)),Zc 3 7]) .ret))
theorem fd72:FnD Try.prog 72 8 [(.tmp 3)] c72:=⟨⟨Try.f72,Try.f72.body.getD .skip,Try.func72,by kernel_rfl,by kernel_rfl,by kernel_rfl,by kernel_rfl⟩⟩
def c73:ACode:=(.seq
 (.reg [Zq 2 (.assign (.const (.slice none 0 0)))])
 (.seq
 (.seq
 (.reg [Za 3 0,Zq 4 (.binOp .eql 32 (Zr 3) (.const (.slice none 0 0)) 32)])
 (.cond (Zr 4)
 (.seq
 (.reg [Zq 2 (.assign (.const (.slice none 0 0)))]) .ret) .skip))
 (.seq
 (.reg [Zq 5 (.buildSlice 32 0 #[]),Za 6 0,Zl 7 5 6 32,Zc 2 7]) .ret)))
theorem fd73:FnD Try.prog 73 8 [(.tmp 2)] c73:=⟨⟨Try.f73,Try.f73.body.getD .skip,Try.func73,by kernel_rfl,by kernel_rfl,by kernel_rfl,by kernel_rfl⟩⟩
def c74:ACode:=(.seq
 (.reg [Zj 2 34 0,Zi 4 34])
 (.seq
 (.seq
 (.reg [Za 5 1,Ze 6 5 32,Zm 7 .eql 3 6 0])
 (.cond (Zr 7)
 (.seq
 (.reg [Zb 8 34 2,Zg 34 4 8]) .ret) .skip))
 (.seq
 (.reg [Zb 9 34 2,Zq 10 (.buildSlice 32 1 #[(0,(Zr 9))]),Za 11 1,Zl 12 10 11 32,Zq 13 (.build 34 #[(0,(.const (.int .i64 4))),(2,(Zr 12))]),Zg 34 4 13]) .ret)))
theorem fd74:FnD Try.prog 74 14 [(.cell 4 34)] c74:=⟨⟨Try.f74,Try.f74.body.getD .skip,Try.func74,by kernel_rfl,by kernel_rfl,by kernel_rfl,by kernel_rfl⟩⟩
def b75_1:ACode:=(.seq
 (.seq
 (.reg [Za 7 3,Zm 8 .geq 3 7 0])
 (.cond (Zr 8) .skip (.exit 0)))
 (.seq
 (.block 1
 (.seq
 (.reg [Za 11 0,Za 12 3,Zb 13 96 1,Za 14 3,Zk 15 96 13 14,Zb 16 102 15,Zq 17 (.call { callee:=(.value (Zr 11)),args:=#[Zr 12,Zr 16],argTypes:=#[3,102] }),Zq 18 (.unOp .not 4 (Zr 17))])
 (.cond (Zr 18) .ret .skip)))
 (.reg [Za 9 3,Zm 10 .sub 3 9 1,Zc 3 10])))
def c75:ACode:=(.seq
 (.reg [Zb 4 96 1,Ze 5 4 96,Zm 6 .sub 3 5 1,Zc 3 6])
 (.block 0 (.loop b75_1)))
theorem fd75:FnD Try.prog 75 19 [] c75:=⟨⟨Try.f75,Try.f75.body.getD .skip,Try.func75,by kernel_rfl,by kernel_rfl,by kernel_rfl,by kernel_rfl⟩⟩
def b76_1:ACode:=(.seq
 (.reg [Zn 9 .lss 3 8 7])
 (.seq
 (.cond (Zr 9) .skip (.exit 0))
 (.seq
 (.block 1
 (.seq
 (.reg [Za 10 8,Zc 5 10])
 (.seq
 (.reg [Za 11 1,Za 12 0,Za 13 5,Zk 14 96 12 13,Zb 15 102 14,Zq 16 (.call { callee:=(.value (Zr 11)),args:=#[Zr 15],argTypes:=#[102] })])
 (.cond (Zr 16)
 (.seq
 (.reg [Za 17 5,Zc 4 17]) .ret) .skip))))
 (.reg [Zm 18 .add 3 8 1,Za 8 18]))))
def c76_1:ACode:=(.seq
 (.reg [Zq 4 (.assign (.const (.int .i64 (-1))))]) .ret)
def c76:ACode:=(.seq
 (.reg [Zf 4 0])
 (.seqL
 (.seq
 (.reg [Za 6 0,Ze 7 6 96,Zq 8 (.move (.const (.int .i64 0)))])
 (.block 0 (.loop b76_1))) c76_1))
theorem fd76:FnD Try.prog 76 19 [(.tmp 4)] c76:=⟨⟨Try.f76,Try.f76.body.getD .skip,Try.func76,by kernel_rfl,by kernel_rfl,by kernel_rfl,by kernel_rfl⟩⟩
def b77_1:ACode:=(.seq
 (.reg [Zn 11 .lss 3 10 9])
 (.seq
 (.cond (Zr 11) .skip (.exit 0))
 (.seq
 (.block 1
 (.seq
 (.reg [Za 12 10,Zk 13 77 8 10,Zb 14 91 13,Zi 4 91,Zc 3 12,Zg 91 4 14])
 (.block 2
 (.seq
 (.reg [Zd 16 91 4 0,Zb 17 9 16,Zo 18 78 #[Zr 17] #[9],Zq 19 (.unOp .not 4 (Zr 18)),Zc 15 19])
 (.cond (Zr 15)
 (.seq
 (.reg [Zf 2 411]) .ret)
 (.seq
 (.reg [Zd 21 91 4 1,Zb 22 3 21,Zm 23 .lss 3 22 0,Za 24 23,Zp 25 (.fieldAddr 91 (Zr 4) 1) 24 false,Zp 26 (.load 3 (Zr 25)) 24 false,Zp 27 (.binOp .gtr 3 (Zr 26) (.const (.int .i64 10)) 3) 24 false,Zq 28 (.pick (Zr 24) (.const (.bool true)) (Zr 27)),Zc 20 28])
 (.cond (Zr 20)
 (.seq
 (.reg [Zf 2 4]) .ret)
 (.seq
 (.dreg
 (.tk 0 (Za 30 0)
 (.tk 1 (Za 31 3)
 (.tk 2 (Zq 32 (.slice 77 (Zr 30) none (some (Zr 31)) none))
 (.tk 3 (Zd 33 91 4 0)
 (.tk 4 (Zb 34 9 33) .fin))))) [Zo 35 79 #[Zr 32,Zr 34] #[77,9],Zm 36 .geq 3 35 0,Zc 29 36])
 (.cond (Zr 29)
 (.seq
 (.reg [Zf 2 10]) .ret) .skip)))))))))
 (.reg [Zm 37 .add 3 10 1,Za 10 37]))))
def c77_1:ACode:=(.seq
 (.reg [Zf 2 0]) .ret)
def c77:ACode:=(.seq
 (.reg [Zf 2 0])
 (.seq
 (.seq
 (.reg [Za 5 0,Ze 6 5 77,Zm 7 .gtr 3 6 100])
 (.cond (Zr 7)
 (.seq
 (.reg [Zf 2 5]) .ret) .skip))
 (.seqL
 (.seq
 (.reg [Za 8 0,Ze 9 8 77,Zq 10 (.move (.const (.int .i64 0)))])
 (.block 0 (.loop b77_1))) c77_1)))
theorem fd77:FnD Try.prog 77 38 [(.tmp 2)] c77:=⟨⟨Try.f77,Try.f77.body.getD .skip,Try.func77,by kernel_rfl,by kernel_rfl,by kernel_rfl,by kernel_rfl⟩⟩
def c78:ACode:=(.seq
 (.reg [Zq 2 (.assign (.const (.bool false)))])
 (.seq
 (.seq
 (.reg [Za 3 0,Zq 4 (.binOp .eql 9 (Zr 3) (.const (.string { data:=#[] })) 9),Za 5 4,Zp 6 (.move (Zr 0)) 5 false,Zp 7 (.call { callee:=(.builtin .len),args:=#[Zr 6],argTypes:=#[9] }) 5 false,Zp 8 (.binOp .gtr 3 (Zr 7) (.const (.int .i64 40)) 3) 5 false,Zq 9 (.pick (Zr 5) (.const (.bool true)) (Zr 8)),Za 10 9,Zp 11 (.move (Zr 0)) 10 false,Zp 12 (.index 9 (Zr 11) (.const (.int .i64 0))) 10 false,Zp 13 (.call { callee:=(.value (.func 88)),args:=#[Zr 12],argTypes:=#[5] }) 10 false,Zp 14 (.unOp .not 4 (Zr 13)) 10 false,Zp 15 (.move (Zr 14)) 10 false,Zp 16 (.move (Zr 0)) 15 true,Zp 17 (.index 9 (Zr 16) (.const (.int .i64 0))) 15 true,Zp 18 (.binOp .neq 5 (Zr 17) (.const (.int .u8 95)) 5) 15 true,Zp 19 (.pick (Zr 15) (Zr 18) (.const (.bool false))) 10 false,Zq 20 (.pick (Zr 10) (.const (.bool true)) (Zr 19))])
 (.cond (Zr 20)
 (.seq
 (.reg [Zq 2 (.assign (.const (.bool false)))]) .ret) .skip))
 (.seq
 (.reg [Za 21 0,Zq 22 (.convert 9 188 (Zr 21)),Zo 23 89 #[Zr 22,(.func 90)] #[188,186],Zq 24 (.unOp .not 4 (Zr 23)),Zc 2 24]) .ret)))
theorem fd78:FnD Try.prog 78 25 [(.tmp 2)] c78:=⟨⟨Try.f78,Try.f78.body.getD .skip,Try.func78,by kernel_rfl,by kernel_rfl,by kernel_rfl,by kernel_rfl⟩⟩
def c79:ACode:=(.seq
 (.reg [Zj 3 9 1,Zf 4 0])
 (.seq
 (.reg [Za 5 0,Zq 6 (.makeFunc (.func 93) #[] #[Zr 3]),Zo 7 92 #[Zr 5,Zr 6] #[77,190],Zc 4 7]) .ret))
theorem fd79:FnD Try.prog 79 8 [(.tmp 4)] c79:=⟨⟨Try.f79,Try.f79.body.getD .skip,Try.func79,by kernel_rfl,by kernel_rfl,by kernel_rfl,by kernel_rfl⟩⟩
def c80:ACode:=(.seq
 (.reg [Zj 3 9 1,Zf 4 0])
 (.seq
 (.reg [Za 5 0,Zq 6 (.makeFunc (.func 95) #[] #[Zr 3]),Zo 7 94 #[Zr 5,Zr 6] #[78,192],Zc 4 7]) .ret))
theorem fd80:FnD Try.prog 80 8 [(.tmp 4)] c80:=⟨⟨Try.f80,Try.f80.body.getD .skip,Try.func80,by kernel_rfl,by kernel_rfl,by kernel_rfl,by kernel_rfl⟩⟩
def b81_1:ACode:=(.seq
 (.reg [Zn 26 .lss 3 25 24])
 (.seq
 (.cond (Zr 26) .skip (.exit 0))
 (.seq
 (.block 1
 (.seq
 (.reg [Zk 27 55 23 25,Zb 28 57 27,Zi 8 57,Zg 57 8 28])
 (.seq
 (.reg [Zb 29 57 8,Zd 30 80 3 0,Zb 31 77 30,Zo 32 96 #[Zr 29,Zr 31] #[57,77],Zc 9 32])
 (.seq
 (.reg [Za 33 9,Zm 34 .neq 35 33 0])
 (.cond (Zr 34)
 (.seq
 (.reg [Za 35 9,Zc 6 35]) .ret) .skip)))))
 (.reg [Zm 36 .add 3 25 1,Za 25 36]))))
def b81_2:ACode:=(.seq
 (.reg [Zn 43 .lss 3 42 41])
 (.seq
 (.cond (Zr 43) .skip (.exit 2))
 (.seq
 (.block 3
 (.seq
 (.reg [Za 44 42,Zk 45 52 40 42,Zb 46 9 45,Zc 11 44,Zc 12 46])
 (.seq
 (.reg [Za 47 10,Za 48 11,Zq 49 (.slice 52 (Zr 47) none (some (Zr 48)) none),Za 50 12,Zo 51 82 #[Zr 49,Zr 50] #[52,9]])
 (.cond (Zr 51)
 (.seq
 (.reg [Zf 6 10]) .ret) .skip))))
 (.reg [Zm 52 .add 3 42 1,Za 42 52]))))
def c81_1:ACode:=(.seq
 (.seq
 (.reg [Zd 54 93 5 1,Zb 55 34 54,Zo 56 98 #[Zr 55] #[34],Za 53 56,Zh 57 53 0,Zh 58 53 1,Zc 13 57,Zc 14 58])
 (.block 4
 (.seq
 (.reg [Za 60 13,Zm 61 .gtr 3 60 1000,Zc 59 61])
 (.cond (Zr 59)
 (.seq
 (.reg [Zf 6 7]) .ret)
 (.seq
 (.reg [Za 63 14,Zm 64 .gtr 3 63 100,Zc 62 64])
 (.cond (Zr 62)
 (.seq
 (.reg [Zf 6 6]) .ret) .skip))))))
 (.seq
 (.reg [Zq 15 (.assign (.const (.pointer none)))])
 (.seq
 (.dreg
 (.tk 0 (Zb 65 80 3)
 (.tk 1 (Zd 66 93 5 1)
 (.tk 2 (Zb 67 34 66)
 (.tk 3 (Za 68 15)
 (.tk 4 (Za 69 10)
 (.one [0,1,2,5,6,7] (Zo 70 100 #[Zr 68,Zr 69] #[195,52]) .fin)))))) [Zo 71 99 #[Zr 65,Zr 67,Zr 70] #[80,34,195],Zc 6 71]) .ret)))
def c81_2:ACode:=(.seq
 (.reg [Zd 37 93 5 0,Zb 38 55 37,Zo 39 97 #[Zr 38] #[55],Zc 10 39])
 (.seqL
 (.seq
 (.reg [Za 40 10,Ze 41 40 52,Zq 42 (.move (.const (.int .i64 0)))])
 (.block 2 (.loop b81_2))) c81_1))
def c81:ACode:=(.seq
 (.reg [Zj 3 80 0,Zj 4 40 1,Zj 5 93 2,Zf 6 0])
 (.seq
 (.seq
 (.reg [Zd 16 93 5 0,Zb 17 55 16,Ze 18 17 55,Zd 19 40 4 1,Zb 20 3 19,Zn 21 .neq 3 18 20])
 (.cond (Zr 21)
 (.seq
 (.reg [Zf 6 5]) .ret) .skip))
 (.seqL
 (.seq
 (.reg [Zd 22 93 5 0,Zb 23 55 22,Ze 24 23 55,Zq 25 (.move (.const (.int .i64 0)))])
 (.block 0 (.loop b81_1))) c81_2)))
theorem fd81:FnD Try.prog 81 72 [(.tmp 6)] c81:=⟨⟨Try.f81,Try.f81.body.getD .skip,Try.func81,by kernel_rfl,by kernel_rfl,by kernel_rfl,by kernel_rfl⟩⟩
def c82:ACode:=(.seq
 (.reg [Zq 4 (.assign (.const (.bool false)))])
 (.seq
 (.reg [Za 5 0,Za 6 1,Zo 7 101 #[Zr 5,Zr 6] #[52,9],Zm 8 .geq 3 7 0,Zc 4 8]) .ret))
theorem fd82:FnD Try.prog 82 9 [(.tmp 4)] c82:=⟨⟨Try.f82,Try.f82.body.getD .skip,Try.func82,by kernel_rfl,by kernel_rfl,by kernel_rfl,by kernel_rfl⟩⟩
def c83:ACode:=(.seq
 (.block 0
 (.seq
 (.reg [Za 5 1,Zo 6 102 #[Zr 5] #[151],Zm 7 .gtr 3 6 5000,Zc 4 7])
 (.cond (Zr 4)
 (.reg [Zq 8 (.build 119 #[(0,(.const (.int .i64 7)))]),Zq 9 (.makeInterface 119 (Zr 8)),⟨none,(.panic (Zr 9)),none⟩])
 (.seq
 (.dreg
 (.tk 0 (Za 11 0)
 (.tk 1 (Zq 12 (.nilCheck (Zr 11)))
 (.tk 2 (Zd 13 123 12 2)
 (.tk 3 (Zb 14 3 13)
 (.tk 4 (Za 15 0)
 (.tk 5 (Zq 16 (.nilCheck (Zr 15)))
 (.tk 6 (Zd 17 123 16 1)
 (.tk 7 (Zb 18 3 17) .fin)))))))) [Zn 19 .eql 3 14 18,Zc 10 19])
 (.cond (Zr 10)
 (.reg [Zq 20 (.build 119 #[(0,(.const (.int .i64 8)))]),Zq 21 (.makeInterface 119 (Zr 20)),⟨none,(.panic (Zr 21)),none⟩]) .skip)))))
 (.seq
 (.reg [Za 22 0,Zq 23 (.nilCheck (Zr 22)),Zd 24 123 23 2,Zb 25 3 24,Zm 26 .add 3 25 1,Zq 27 (.nilCheck (Zr 22)),Zd 28 123 27 2,Zg 3 28 26])
 (.seq
 (.reg [Za 29 0,Zq 30 (.nilCheck (Zr 29)),Zd 31 123 30 3,Zb 32 3 31,Zm 33 .geq 3 32 2000])
 (.cond (Zr 33)
 (.reg [Zq 34 (.build 119 #[(0,(.const (.int .i64 6)))]),Zq 35 (.makeInterface 119 (Zr 34)),⟨none,(.panic (Zr 35)),none⟩]) .skip))))
theorem fd83:FnD Try.prog 83 36 [] c83:=⟨⟨Try.f83,Try.f83.body.getD .skip,Try.func83,by kernel_rfl,by kernel_rfl,by kernel_rfl,by kernel_rfl⟩⟩
def b84_1:ACode:=(.seq
 (.reg [Zn 49 .lss 3 48 47])
 (.seq
 (.cond (Zr 49) .skip (.exit 0))
 (.seq
 (.block 1
 (.seq
 (.reg [Za 50 48,Zk 51 55 46 48,Zb 52 57 51,Zi 11 57,Zc 10 50,Zg 57 11 52])
 (.seq
 (.dreg
 (.tk 0 (Zb 54 57 11)
 (.tk 1 (Zd 55 161 8 1)
 (.tk 2 (Zb 56 151 55)
 (.tk 3 (Za 57 10)
 (.tk 4 (Zk 58 151 56 57)
 (.tk 5 (Zb 59 125 58)
 (.tk 6 (Za 60 2)
 (.one [7,8,9,10,11,12] (Zo 61 84 #[Zr 54,Zr 59,Zr 60] #[57,125,150])
 (.tk 8 (Za 53 61)
 (.tk 9 (Zh 62 53 0)
 (.tk 10 (Zh 63 53 1)
 (.tk 11 (Zc 2 62) .fin)))))))))))) [Zc 9 63])
 (.seq
 (.reg [Za 64 9,Zq 65 (.unOp .not 4 (Zr 64))])
 (.cond (Zr 65)
 (.seq
 (.reg [Za 66 2,Zc 6 66,Zq 7 (.assign (.const (.bool false)))]) .ret) .skip)))))
 (.reg [Zm 67 .add 3 48 1,Za 48 67]))))
def c84_1:ACode:=(.seq
 (.reg [Za 68 2,Zc 6 68,Zq 7 (.assign (.const (.bool true)))]) .ret)
def c84:ACode:=(.seq
 (.reg [Zj 3 57 0,Zq 6 (.assign (.const (.pointer none))),Zq 7 (.assign (.const (.bool false)))])
 (.seq
 (.seq
 (.reg [Zd 12 57 3 0,Zb 13 4 12,Zq 14 (.unOp .not 4 (Zr 13))])
 (.cond (Zr 14)
 (.seq
 (.reg [Zd 15 57 3 1,Zb 16 9 15,Za 17 1,Za 18 2,Zq 19 (.build 180 #[(0,(Zr 16)),(1,(Zr 17)),(2,(Zr 18))]),Zj 20 180 19,Zc 6 20,Zq 7 (.assign (.const (.bool true)))]) .ret) .skip))
 (.seq
 (.reg [Za 22 1,Zq 23 (.typeAssert (Zr 22) 125 161 true),Za 21 23,Zh 24 21 0,Zh 25 21 1,Zi 8 161,Zg 161 8 24,Zc 9 25])
 (.seq
 (.seq
 (.reg [Za 26 9,Zq 27 (.unOp .not 4 (Zr 26)),Za 28 27,Zp 29 (.fieldAddr 161 (Zr 8) 0) 28 false,Zp 30 (.load 9 (Zr 29)) 28 false,Zp 31 (.fieldAddr 57 (Zr 3) 1) 28 false,Zp 32 (.load 9 (Zr 31)) 28 false,Zp 33 (.binOp .neq 9 (Zr 30) (Zr 32) 9) 28 false,Zq 34 (.pick (Zr 28) (.const (.bool true)) (Zr 33)),Za 35 34,Zp 36 (.fieldAddr 161 (Zr 8) 1) 35 false,Zp 37 (.load 151 (Zr 36)) 35 false,Zp 38 (.call { callee:=(.builtin .len),args:=#[Zr 37],argTypes:=#[151] }) 35 false,Zp 39 (.fieldAddr 57 (Zr 3) 2) 35 false,Zp 40 (.load 55 (Zr 39)) 35 false,Zp 41 (.call { callee:=(.builtin .len),args:=#[Zr 40],argTypes:=#[55] }) 35 false,Zp 42 (.binOp .neq 3 (Zr 38) (Zr 41) 3) 35 false,Zq 43 (.pick (Zr 35) (.const (.bool true)) (Zr 42))])
 (.cond (Zr 43)
 (.seq
 (.reg [Za 44 2,Zc 6 44,Zq 7 (.assign (.const (.bool false)))]) .ret) .skip))
 (.seqL
 (.seq
 (.reg [Zd 45 57 3 2,Zb 46 55 45,Ze 47 46 55,Zq 48 (.move (.const (.int .i64 0)))])
 (.block 0 (.loop b84_1))) c84_1)))))
theorem fd84:FnD Try.prog 84 69 [(.tmp 6),(.tmp 7)] c84:=⟨⟨Try.f84,Try.f84.body.getD .skip,Try.func84,by kernel_rfl,by kernel_rfl,by kernel_rfl,by kernel_rfl⟩⟩
def c85:ACode:=(.seq
 (.reg [Zj 3 121 0,Zj 4 34 1,Zq 6 (.assign (.const .nilIface))])
 (.seq
 (.reg [Zb 7 121 3,Zq 8 (.nilCheck (Zr 7)),Zd 9 123 8 3,Zb 10 3 9,Zm 11 .add 3 10 1,Zq 12 (.nilCheck (Zr 7)),Zd 13 123 12 3,Zg 3 13 11])
 (.seq
 (.reg [Zq 14 (.makeFunc (.func 103) #[] #[Zr 3]),⟨none,(.defer { callee:=(.value (Zr 14)),args:=#[],argTypes:=#[] }),none⟩])
 (.seq
 (.reg [Zb 15 121 3,Zb 16 34 4,Za 17 2,Zo 18 45 #[Zr 15,Zr 16,Zr 17] #[121,34,150],Zc 6 18]) .ret))))
theorem fd85:FnD Try.prog 85 19 [(.tmp 6)] c85:=⟨⟨Try.f85,Try.f85.body.getD .skip,Try.func85,by kernel_rfl,by kernel_rfl,by kernel_rfl,by kernel_rfl⟩⟩
def c86:ACode:=(.seq
 (.reg [Zq 2 (.assign (.const (.slice none 0 0)))])
 (.seq
 (.seq
 (.reg [Za 3 0,Zq 4 (.binOp .eql 151 (Zr 3) (.const (.slice none 0 0)) 151)])
 (.cond (Zr 4)
 (.seq
 (.reg [Zq 2 (.assign (.const (.slice none 0 0)))]) .ret) .skip))
 (.seq
 (.reg [Zq 5 (.buildSlice 151 0 #[]),Za 6 0,Zl 7 5 6 151,Zc 2 7]) .ret)))
theorem fd86:FnD Try.prog 86 8 [(.tmp 2)] c86:=⟨⟨Try.f86,Try.f86.body.getD .skip,Try.func86,by kernel_rfl,by kernel_rfl,by kernel_rfl,by kernel_rfl⟩⟩
def b87_1:ACode:=(.seq
 (.reg [Zn 12 .lss 3 11 10])
 (.seq
 (.cond (Zr 12) .skip (.exit 0))
 (.seq
 (.block 1
 (.seq
 (.reg [Zk 13 200 9 11,Zb 14 32 13,Zc 5 14])
 (.seq
 (.reg [Za 15 3,Za 16 5,Ze 17 16 32,Zn 18 .add 3 15 17,Zc 3 18])
 (.seq
 (.reg [Za 19 3,Zm 20 .lss 3 19 0])
 (.cond (Zr 20)
 (.reg [Zq 21 (.makeInterface 9 (.const (.string { data:=#[108,101,110,32,111,117,116,32,111,102,32,114,97,110,103,101] }))),⟨none,(.panic (Zr 21)),none⟩]) .skip)))))
 (.reg [Zm 22 .add 3 11 1,Za 11 22]))))
def b87_2:ACode:=(.seq
 (.reg [Zn 28 .lss 3 27 26])
 (.seq
 (.cond (Zr 28) .skip (.exit 2))
 (.seq
 (.block 3
 (.seq
 (.reg [Zk 29 200 25 27,Zb 30 32 29,Zc 8 30])
 (.reg [Za 31 6,Za 32 8,Zl 33 31 32 32,Zc 6 33])))
 (.reg [Zm 34 .add 3 27 1,Za 27 34]))))
def c87_1:ACode:=(.seq
 (.reg [Za 35 6,Zc 2 35]) .ret)
def c87_2:ACode:=(.seq
 (.reg [Za 23 3,Zo 24 104 #[(.const (.slice none 0 0)),Zr 23] #[32,3],Zc 6 24])
 (.seqL
 (.seq
 (.reg [Za 25 0,Ze 26 25 200,Zq 27 (.move (.const (.int .i64 0)))])
 (.block 2 (.loop b87_2))) c87_1))
def c87:ACode:=(.seq
 (.reg [Zq 2 (.assign (.const (.slice none 0 0)))])
 (.seq
 (.reg [Zf 3 0])
 (.seqL
 (.seq
 (.reg [Za 9 0,Ze 10 9 200,Zq 11 (.move (.const (.int .i64 0)))])
 (.block 0 (.loop b87_1))) c87_2)))
theorem fd87:FnD Try.prog 87 36 [(.tmp 2)] c87:=⟨⟨Try.f87,Try.f87.body.getD .skip,Try.func87,by kernel_rfl,by kernel_rfl,by kernel_rfl,by kernel_rfl⟩⟩
def c88:ACode:=(.seq
 (.reg [Zq 2 (.assign (.const (.bool false)))])
 (.seq
 (.reg [Za 3 0,Zq 4 (.binOp .geq 5 (Zr 3) (.const (.int .u8 97)) 5),Za 5 4,Zp 6 (.move (Zr 0)) 5 true,Zp 7 (.binOp .leq 5 (Zr 6) (.const (.int .u8 122)) 5) 5 true,Zq 8 (.pick (Zr 5) (Zr 7) (.const (.bool false))),Za 9 8,Zp 10 (.move (Zr 0)) 9 false,Zp 11 (.binOp .geq 5 (Zr 10) (.const (.int .u8 65)) 5) 9 false,Zp 12 (.move (Zr 11)) 9 false,Zp 13 (.move (Zr 0)) 12 true,Zp 14 (.binOp .leq 5 (Zr 13) (.const (.int .u8 90)) 5) 12 true,Zp 15 (.pick (Zr 12) (Zr 14) (.const (.bool false))) 9 false,Zq 16 (.pick (Zr 9) (.const (.bool true)) (Zr 15)),Zc 2 16]) .ret))
theorem fd88:FnD Try.prog 88 17 [(.tmp 2)] c88:=⟨⟨Try.f88,Try.f88.body.getD .skip,Try.func88,by kernel_rfl,by kernel_rfl,by kernel_rfl,by kernel_rfl⟩⟩
def c89:ACode:=(.seq
 (.reg [Zq 4 (.assign (.const (.bool false)))])
 (.seq
 (.reg [Za 5 0,Za 6 1,Zo 7 105 #[Zr 5,Zr 6] #[188,186],Zm 8 .geq 3 7 0,Zc 4 8]) .ret))
theorem fd89:FnD Try.prog 89 9 [(.tmp 4)] c89:=⟨⟨Try.f89,Try.f89.body.getD .skip,Try.func89,by kernel_rfl,by kernel_rfl,by kernel_rfl,by kernel_rfl⟩⟩
def c90:ACode:=(.seq
 (.reg [Zq 2 (.assign (.const (.bool false)))])
 (.seq
 (.reg [Za 3 0,Zo 4 88 #[Zr 3] #[5],Zq 5 (.unOp .not 4 (Zr 4)),Za 6 5,Zp 7 (.move (Zr 0)) 6 true,Zp 8 (.call { callee:=(.value (.func 91)),args:=#[Zr 7],argTypes:=#[5] }) 6 true,Zp 9 (.unOp .not 4 (Zr 8)) 6 true,Zq 10 (.pick (Zr 6) (Zr 9) (.const (.bool false))),Za 11 10,Zp 12 (.move (Zr 0)) 11 true,Zp 13 (.binOp .neq 5 (Zr 12) (.const (.int .u8 95)) 5) 11 true,Zq 14 (.pick (Zr 11) (Zr 13) (.const (.bool false))),Za 15 14,Zp 16 (.move (Zr 0)) 15 true,Zp 17 (.binOp .neq 5 (Zr 16) (.const (.int .u8 39)) 5) 15 true,Zq 18 (.pick (Zr 15) (Zr 17) (.const (.bool false))),Za 19 18,Zp 20 (.move (Zr 0)) 19 true,Zp 21 (.binOp .neq 5 (Zr 20) (.const (.int .u8 46)) 5) 19 true,Zq 22 (.pick (Zr 19) (Zr 21) (.const (.bool false))),Zc 2 22]) .ret))
theorem fd90:FnD Try.prog 90 23 [(.tmp 2)] c90:=⟨⟨Try.f90,Try.f90.body.getD .skip,Try.func90,by kernel_rfl,by kernel_rfl,by kernel_rfl,by kernel_rfl⟩⟩
def c91:ACode:=(.seq
 (.reg [Zq 2 (.assign (.const (.bool false)))])
 (.seq
 (.reg [Za 3 0,Zq 4 (.binOp .geq 5 (Zr 3) (.const (.int .u8 48)) 5),Za 5 4,Zp 6 (.move (Zr 0)) 5 true,Zp 7 (.binOp .leq 5 (Zr 6) (.const (.int .u8 57)) 5) 5 true,Zq 8 (.pick (Zr 5) (Zr 7) (.const (.bool false))),Zc 2 8]) .ret))
theorem fd91:FnD Try.prog 91 9 [(.tmp 2)] c91:=⟨⟨Try.f91,Try.f91.body.getD .skip,Try.func91,by kernel_rfl,by kernel_rfl,by kernel_rfl,by kernel_rfl⟩⟩
def b92_1:ACode:=(.seq
 (.reg [Zn 9 .lss 3 8 7])
 (.seq
 (.cond (Zr 9) .skip (.exit 0))
 (.seq
 (.block 1
 (.seq
 (.reg [Za 10 8,Zc 5 10])
 (.seq
 (.reg [Za 11 1,Za 12 0,Za 13 5,Zk 14 77 12 13,Zb 15 91 14,Zq 16 (.call { callee:=(.value (Zr 11)),args:=#[Zr 15],argTypes:=#[91] })])
 (.cond (Zr 16)
 (.seq
 (.reg [Za 17 5,Zc 4 17]) .ret) .skip))))
 (.reg [Zm 18 .add 3 8 1,Za 8 18]))))
def c92_1:ACode:=(.seq
 (.reg [Zq 4 (.assign (.const (.int .i64 (-1))))]) .ret)
def c92:ACode:=(.seq
 (.reg [Zf 4 0])
 (.seqL
 (.seq
 (.reg [Za 6 0,Ze 7 6 77,Zq 8 (.move (.const (.int .i64 0)))])
 (.block 0 (.loop b92_1))) c92_1))
theorem fd92:FnD Try.prog 92 19 [(.tmp 4)] c92:=⟨⟨Try.f92,Try.f92.body.getD .skip,Try.func92,by kernel_rfl,by kernel_rfl,by kernel_rfl,by kernel_rfl⟩⟩
def c93:ACode:=(.seq
 (.reg [Zj 2 91 0,Zq 3 (.assign (.const (.bool false)))])
 (.seq
 (.reg [Zd 4 91 2 0,Zb 5 9 4,Zb 6 9 1,Zn 7 .eql 9 5 6,Zc 3 7]) .ret))
theorem fd93:FnD Try.prog 93 8 [(.tmp 3)] c93:=⟨⟨Try.f93,Try.f93.body.getD .skip,Try.func93,by kernel_rfl,by kernel_rfl,by kernel_rfl,by kernel_rfl⟩⟩
def b94_1:ACode:=(.seq
 (.reg [Zn 9 .lss 3 8 7])
 (.seq
 (.cond (Zr 9) .skip (.exit 0))
 (.seq
 (.block 1
 (.seq
 (.reg [Za 10 8,Zc 5 10])
 (.seq
 (.reg [Za 11 1,Za 12 0,Za 13 5,Zk 14 78 12 13,Zb 15 40 14,Zq 16 (.call { callee:=(.value (Zr 11)),args:=#[Zr 15],argTypes:=#[40] })])
 (.cond (Zr 16)
 (.seq
 (.reg [Za 17 5,Zc 4 17]) .ret) .skip))))
 (.reg [Zm 18 .add 3 8 1,Za 8 18]))))
def c94_1:ACode:=(.seq
 (.reg [Zq 4 (.assign (.const (.int .i64 (-1))))]) .ret)
def c94:ACode:=(.seq
 (.reg [Zf 4 0])
 (.seqL
 (.seq
 (.reg [Za 6 0,Ze 7 6 78,Zq 8 (.move (.const (.int .i64 0)))])
 (.block 0 (.loop b94_1))) c94_1))
theorem fd94:FnD Try.prog 94 19 [(.tmp 4)] c94:=⟨⟨Try.f94,Try.f94.body.getD .skip,Try.func94,by kernel_rfl,by kernel_rfl,by kernel_rfl,by kernel_rfl⟩⟩
def c95:ACode:=(.seq
 (.reg [Zj 2 40 0,Zq 3 (.assign (.const (.bool false)))])
 (.seq
 (.reg [Zd 4 40 2 0,Zb 5 9 4,Zb 6 9 1,Zn 7 .eql 9 5 6,Zc 3 7]) .ret))
theorem fd95:FnD Try.prog 95 8 [(.tmp 3)] c95:=⟨⟨Try.f95,Try.f95.body.getD .skip,Try.func95,by kernel_rfl,by kernel_rfl,by kernel_rfl,by kernel_rfl⟩⟩
def c96_1:ACode:=(.seq
 (.reg [⟨none,(.store 35 (Zr 4) (.const (.int .i64 0))),none⟩]) .ret)
def ZoX:ACode:=(.seq
 (.block 2
 (.seq
 (.reg [Zb 21 3 5,Zm 22 .gtr 3 21 100,Zc 20 22])
 (.cond (Zr 20)
 (.seq
 (.reg [⟨none,(.store 35 (Zr 4) (.const (.int .i64 7))),none⟩]) .ret)
 (.seq
 (.reg [Zb 24 3 6,Zm 25 .gtr 3 24 50,Zc 23 25])
 (.cond (Zr 23)
 (.seq
 (.reg [⟨none,(.store 35 (Zr 4) (.const (.int .i64 6))),none⟩]) .ret) .skip)))))
 (.seqL
 (.seq
 (.reg [Zb 26 57 2,Zo 27 106 #[Zr 26] #[57]])
 (.block 3 (.rfunc (Zr 27) #[28]
 (.reg [Zi 8 207,Zg 207 8 28])
 (.block 4
 (.seq
 (.reg [Zb 29 77 3,Zd 30 207 8 0,Zd 31 57 30 1,Zb 32 9 31,Zo 33 79 #[Zr 29,Zr 32] #[77,9],Zc 9 33])
 (.block 5
 (.seq
 (.reg [Zd 35 207 8 0,Zd 36 57 35 1,Zb 37 9 36,Zo 38 78 #[Zr 37] #[9],Zq 39 (.unOp .not 4 (Zr 38)),Za 40 39,Zp 41 (.fieldAddr 207 (Zr 8) 0) 40 false,Zp 42 (.load 57 (Zr 41)) 40 false,Zp 43 (.call { callee:=(.value (.func 107)),args:=#[Zr 42],argTypes:=#[57] }) 40 false,Zp 44 (.move (Zr 43)) 40 false,Zp 45 (.fieldAddr 207 (Zr 8) 0) 44 true,Zp 46 (.fieldAddr 57 (Zr 45) 2) 44 true,Zp 47 (.load 55 (Zr 46)) 44 true,Zp 48 (.call { callee:=(.builtin .len),args:=#[Zr 47],argTypes:=#[55] }) 44 true,Zp 49 (.binOp .gtr 3 (Zr 48) (.const (.int .i64 0)) 3) 44 true,Zp 50 (.pick (Zr 44) (Zr 49) (.const (.bool false))) 40 false,Zq 51 (.pick (Zr 40) (.const (.bool true)) (Zr 50)),Zc 34 51])
 (.cond (Zr 34)
 (.seq
 (.reg [⟨none,(.store 35 (Zr 4) (.const (.int .i64 411))),none⟩]) .ret)
 (.seq
 (.reg [Zd 53 207 8 0,Zb 54 57 53,Zo 55 108 #[Zr 54] #[57],Za 56 55,Zp 57 (.move (Zr 9)) 56 true,Zp 58 (.binOp .lss 3 (Zr 57) (.const (.int .i64 0)) 3) 56 true,Zq 59 (.pick (Zr 56) (Zr 58) (.const (.bool false))),Zc 52 59])
 (.cond (Zr 52)
 (.seq
 (.reg [⟨none,(.store 35 (Zr 4) (.const (.int .i64 9))),none⟩]) .ret)
 (.seq
 (.dreg
 (.tk 0 (Zd 61 207 8 0)
 (.tk 1 (Zb 62 57 61)
 (.one [2,3,4,5,6,7,8,9,10,11,12,13,14,15] (Zo 63 108 #[Zr 62] #[57])
 (.tk 3 (Za 64 63)
 (.tk 4 (Zp 65 (.fieldAddr 207 (Zr 8) 0) 64 true)
 (.tk 5 (Zp 66 (.fieldAddr 57 (Zr 65) 2) 64 true)
 (.tk 6 (Zp 67 (.load 55 (Zr 66)) 64 true)
 (.tk 7 (Zp 68 (.call { callee:=(.builtin .len),args:=#[Zr 67],argTypes:=#[55] }) 64 true)
 (.tk 8 (Zp 69 (.load 77 (Zr 3)) 64 true)
 (.tk 9 (Zp 70 (.move (Zr 9)) 64 true)
 (.tk 10 (Zp 71 (.indexAddr 77 (Zr 69) (Zr 70)) 64 true)
 (.tk 11 (Zp 72 (.fieldAddr 91 (Zr 71) 1) 64 true)
 (.tk 12 (Zp 73 (.load 3 (Zr 72)) 64 true) .fin))))))))))))) [Zp 74 (.binOp .neq 3 (Zr 68) (Zr 73) 3) 64 true,Zq 75 (.pick (Zr 64) (Zr 74) (.const (.bool false))),Zc 60 75])
 (.cond (Zr 60)
 (.seq
 (.reg [⟨none,(.store 35 (Zr 4) (.const (.int .i64 5))),none⟩]) .ret) .skip)))))))))))) c96_1))
def c96:ACode:=(.seq
 (.reg [Zj 2 57 0,Zj 3 77 1,Zi 4 35])
 (.seq
 (.reg [Zi 5 3,Zi 6 3,⟨none,(.store 3 (Zr 5) (.const (.int .i64 0))),none⟩,⟨none,(.store 3 (Zr 6) (.const (.int .i64 0))),none⟩])
 (.seqL
 (.seq
 (.reg [Zb 10 57 2,Zo 11 106 #[Zr 10] #[57]])
 (.block 0 (.rfunc (Zr 11) #[12]
 (.reg [Zi 7 207,Zg 207 7 12])
 (.block 1
 (.dreg
 (.tk 0 (Zb 13 3 5)
 (.tk 1 (Zm 14 .add 3 13 1)
 (.tk 2 (Zb 15 3 6)
 (.tk 3 (Zd 16 207 7 1)
 (.tk 4 (Zb 17 3 16)
 (.tk 5 (Zm 18 .add 3 17 1)
 (.tk 6 (Zq 19 (.call { callee:=(.builtin .max),args:=#[Zr 15,Zr 18],argTypes:=#[3,3] }))
 (.one [2,3,4,5,6,7,8] (Zg 3 5 14) .fin)))))))) [Zg 3 6 19]))))) ZoX)))
theorem fd96:FnD Try.prog 96 76 [(.cell 4 35)] c96:=⟨⟨Try.f96,Try.f96.body.getD .skip,Try.func96,by kernel_rfl,by kernel_rfl,by kernel_rfl,by kernel_rfl⟩⟩
def c97_1:ACode:=(.reg [Zm 25 .add 3 9 1,Za 9 25])
def b97_1:ACode:=(.seq
 (.reg [Zn 10 .lss 3 9 8])
 (.seq
 (.cond (Zr 10) .skip (.exit 0))
 (.seqL
 (.block 1
 (.seq
 (.reg [Zk 11 55 7 9,Zb 12 57 11,Zi 5 57,Zg 57 5 12])
 (.seq
 (.reg [Zb 13 57 5,Zo 14 106 #[Zr 13] #[57]])
 (.block 2 (.rfunc (Zr 14) #[15]
 (.reg [Zi 6 207,Zg 207 6 15])
 (.block 3
 (.seq
 (.reg [Zd 16 207 6 0,Zb 17 57 16,Zo 18 107 #[Zr 17] #[57]])
 (.cond (Zr 18)
 (.reg [Zb 19 52 3,Zd 20 207 6 0,Zd 21 57 20 1,Zb 22 9 21,Zq 23 (.buildSlice 52 1 #[(0,(Zr 22))]),Zl 24 19 23 52,Zg 52 3 24]) .skip)))))))) c97_1)))
def c97_2:ACode:=(.seq
 (.reg [Zb 26 52 3,Zc 2 26]) .ret)
def c97:ACode:=(.seq
 (.reg [Zq 2 (.assign (.const (.slice none 0 0)))])
 (.seq
 (.reg [Zi 3 52])
 (.seqL
 (.seq
 (.reg [Za 7 0,Ze 8 7 55,Zq 9 (.move (.const (.int .i64 0)))])
 (.block 0 (.loop b97_1))) c97_2)))
theorem fd97:FnD Try.prog 97 27 [(.tmp 2)] c97:=⟨⟨Try.f97,Try.f97.body.getD .skip,Try.func97,by kernel_rfl,by kernel_rfl,by kernel_rfl,by kernel_rfl⟩⟩
def b98_1:ACode:=(.seq
 (.reg [Zn 12 .lss 3 11 10])
 (.seq
 (.cond (Zr 12) .skip (.exit 0))
 (.seq
 (.block 1
 (.seq
 (.reg [Zk 13 32 9 11,Zb 14 34 13,Zi 5 34,Zg 34 5 14])
 (.seq
 (.reg [Zb 16 34 5,Zo 17 98 #[Zr 16] #[34],Za 15 17,Zh 18 15 0,Zh 19 15 1,Zc 6 18,Zc 7 19])
 (.reg [Za 20 2,Za 21 6,Zn 22 .add 3 20 21,Za 23 3,Za 24 7,Zq 25 (.call { callee:=(.builtin .max),args:=#[Zr 23,Zr 24],argTypes:=#[3,3] }),Zc 2 22,Zc 3 25]))))
 (.reg [Zm 26 .add 3 11 1,Za 11 26]))))
def c98_1:ACode:=(.seq
 (.reg [Za 27 2,Za 28 3,Zm 29 .add 3 28 1,Zc 2 27,Zc 3 29]) .ret)
def c98:ACode:=(.seq
 (.reg [Zj 1 34 0,Zf 2 0,Zf 3 0])
 (.seq
 (.reg [Zf 2 1])
 (.seqL
 (.seq
 (.reg [Zd 8 34 1 2,Zb 9 32 8,Ze 10 9 32,Zq 11 (.move (.const (.int .i64 0)))])
 (.block 0 (.loop b98_1))) c98_1)))
theorem fd98:FnD Try.prog 98 30 [(.tmp 2),(.tmp 3)] c98:=⟨⟨Try.f98,Try.f98.body.getD .skip,Try.func98,by kernel_rfl,by kernel_rfl,by kernel_rfl,by kernel_rfl⟩⟩
def b99_1:ACode:=(.seq
 (.reg [Zn 77 .lss 3 76 75])
 (.seq
 (.cond (Zr 77) .skip (.exit 1))
 (.seq
 (.block 2
 (.seq
 (.reg [Zk 78 32 74 76,Zb 79 34 78,Zi 9 34,Zg 34 9 79])
 (.seq
 (.reg [Zb 80 80 3,Zb 81 34 9,Za 82 2,Zo 83 99 #[Zr 80,Zr 81,Zr 82] #[80,34,195],Zc 10 83])
 (.seq
 (.reg [Za 84 10,Zm 85 .neq 35 84 0])
 (.cond (Zr 85)
 (.seq
 (.reg [Za 86 10,Zc 6 86]) .ret) .skip)))))
 (.reg [Zm 87 .add 3 76 1,Za 76 87]))))
def c99_1:ACode:=(.seq
 (.reg [Zf 6 0]) .ret)
def c99:ACode:=(.seq
 (.reg [Zj 3 80 0,Zj 4 34 1,Zf 6 0])
 (.seq
 (.seq
 (.reg [Zb 11 34 4,Zo 12 109 #[Zr 11] #[34]])
 (.cond (Zr 12)
 (.seq
 (.reg [Zf 6 411]) .ret) .skip))
 (.seq
 (.reg [Zd 13 80 3 0,Zb 14 77 13,Zd 15 34 4 1,Zb 16 9 15,Zo 17 79 #[Zr 14,Zr 16] #[77,9],Zc 7 17])
 (.seq
 (.block 0
 (.seq
 (.seq
 (.reg [Zd 19 34 4 0,Zb 20 3 19,Zm 21 .eql 3 20 2,Za 22 21,Zp 23 (.fieldAddr 80 (Zr 3) 1) 22 true,Zp 24 (.load 78 (Zr 23)) 22 true,Zp 25 (.fieldAddr 34 (Zr 4) 1) 22 true,Zp 26 (.load 9 (Zr 25)) 22 true,Zp 27 (.call { callee:=(.value (.func 80)),args:=#[Zr 24,Zr 26],argTypes:=#[78,9] }) 22 true,Zp 28 (.binOp .lss 3 (Zr 27) (.const (.int .i64 0)) 3) 22 true,Zq 29 (.pick (Zr 22) (Zr 28) (.const (.bool false))),Zc 18 29])
 (.cond (Zr 18) .skip
 (.reg [Zd 30 34 4 0,Zb 31 3 30,Zm 32 .eql 3 31 3,Za 33 32,Zp 34 (.move (Zr 7)) 33 true,Zp 35 (.binOp .lss 3 (Zr 34) (.const (.int .i64 0)) 3) 33 true,Zq 36 (.pick (Zr 33) (Zr 35) (.const (.bool false))),Zc 18 36])))
 (.cond (Zr 18)
 (.seq
 (.reg [Zf 6 9]) .ret)
 (.seq
 (.dreg
 (.tk 0 (Zd 38 34 4 0)
 (.tk 1 (Zb 39 3 38)
 (.tk 2 (Zm 40 .eql 3 39 3)
 (.tk 3 (Za 41 40)
 (.tk 4 (Zp 42 (.fieldAddr 34 (Zr 4) 2) 41 true)
 (.tk 5 (Zp 43 (.load 32 (Zr 42)) 41 true)
 (.tk 6 (Zp 44 (.call { callee:=(.builtin .len),args:=#[Zr 43],argTypes:=#[32] }) 41 true)
 (.tk 7 (Zp 45 (.fieldAddr 80 (Zr 3) 0) 41 true)
 (.tk 8 (Zp 46 (.load 77 (Zr 45)) 41 true)
 (.tk 9 (Zp 47 (.move (Zr 7)) 41 true)
 (.tk 10 (Zp 48 (.indexAddr 77 (Zr 46) (Zr 47)) 41 true)
 (.tk 11 (Zp 49 (.fieldAddr 91 (Zr 48) 1) 41 true)
 (.tk 12 (Zp 50 (.load 3 (Zr 49)) 41 true) .fin))))))))))))) [Zp 51 (.binOp .neq 3 (Zr 44) (Zr 50) 3) 41 true,Zq 52 (.pick (Zr 41) (Zr 51) (.const (.bool false))),Zc 37 52])
 (.cond (Zr 37)
 (.seq
 (.reg [Zf 6 5]) .ret)
 (.seq
 (.reg [Zd 54 34 4 0,Zb 55 3 54,Zm 56 .eql 3 55 1,Za 57 56,Zp 58 (.move (Zr 2)) 57 true,Zp 59 (.fieldAddr 34 (Zr 4) 1) 57 true,Zp 60 (.load 9 (Zr 59)) 57 true,Zp 61 (.call { callee:=(.value (.func 110)),args:=#[Zr 58,Zr 60],argTypes:=#[195,9] }) 57 true,Zp 62 (.unOp .not 4 (Zr 61)) 57 true,Zq 63 (.pick (Zr 57) (Zr 62) (.const (.bool false))),Zc 53 63])
 (.cond (Zr 53)
 (.seq
 (.reg [Zf 6 411]) .ret)
 (.seq
 (.reg [Zd 65 34 4 0,Zb 66 3 65,Zm 67 .eql 3 66 5,Zc 64 67])
 (.cond (Zr 64)
 (.reg [Za 68 2,Zd 69 34 4 1,Zb 70 9 69,Zq 71 (.buildSlice 52 1 #[(0,(Zr 70))]),Zo 72 100 #[Zr 68,Zr 71] #[195,52],Zc 2 72]) .skip)))))))))
 (.seqL
 (.seq
 (.reg [Zd 73 34 4 2,Zb 74 32 73,Ze 75 74 32,Zq 76 (.move (.const (.int .i64 0)))])
 (.block 1 (.loop b99_1))) c99_1)))))
theorem fd99:FnD Try.prog 99 88 [(.tmp 6)] c99:=⟨⟨Try.f99,Try.f99.body.getD .skip,Try.func99,by kernel_rfl,by kernel_rfl,by kernel_rfl,by kernel_rfl⟩⟩
def b100_1:ACode:=(.seq
 (.reg [Zn 10 .lss 3 9 8])
 (.seq
 (.cond (Zr 10) .skip (.exit 0))
 (.seq
 (.block 1
 (.seq
 (.reg [Zk 11 52 7 9,Zb 12 9 11,Zc 6 12])
 (.reg [Za 13 6,Za 14 0,Zq 15 (.build 209 #[(0,(Zr 13)),(1,(Zr 14))]),Zj 16 209 15,Zc 0 16])))
 (.reg [Zm 17 .add 3 9 1,Za 9 17]))))
def c100_1:ACode:=(.seq
 (.reg [Za 18 0,Zc 4 18]) .ret)
def c100:ACode:=(.seq
 (.reg [Zq 4 (.assign (.const (.pointer none)))])
 (.seqL
 (.seq
 (.reg [Za 7 1,Ze 8 7 52,Zq 9 (.move (.const (.int .i64 0)))])
 (.block 0 (.loop b100_1))) c100_1))
theorem fd100:FnD Try.prog 100 19 [(.tmp 4)] c100:=⟨⟨Try.f100,Try.f100.body.getD .skip,Try.func100,by kernel_rfl,by kernel_rfl,by kernel_rfl,by kernel_rfl⟩⟩
def b101_1:ACode:=(.seq
 (.reg [Zn 9 .lss 3 8 7])
 (.seq
 (.cond (Zr 9) .skip (.exit 0))
 (.seq
 (.block 1
 (.seq
 (.reg [Za 10 8,Zc 5 10])
 (.seq
 (.reg [Za 11 1,Za 12 0,Za 13 5,Zk 14 52 12 13,Zb 15 9 14,Zn 16 .eql 9 11 15])
 (.cond (Zr 16)
 (.seq
 (.reg [Za 17 5,Zc 4 17]) .ret) .skip))))
 (.reg [Zm 18 .add 3 8 1,Za 8 18]))))
def c101_1:ACode:=(.seq
 (.reg [Zq 4 (.assign (.const (.int .i64 (-1))))]) .ret)
def c101:ACode:=(.seq
 (.reg [Zf 4 0])
 (.seqL
 (.seq
 (.reg [Za 6 0,Ze 7 6 52,Zq 8 (.move (.const (.int .i64 0)))])
 (.block 0 (.loop b101_1))) c101_1))
theorem fd101:FnD Try.prog 101 19 [(.tmp 4)] c101:=⟨⟨Try.f101,Try.f101.body.getD .skip,Try.func101,by kernel_rfl,by kernel_rfl,by kernel_rfl,by kernel_rfl⟩⟩
def b102_1:ACode:=(.seq
 (.reg [Zn 9 .lss 3 8 7])
 (.seq
 (.cond (Zr 9) .skip (.exit 0))
 (.seq
 (.block 1
 (.seq
 (.reg [Zk 10 151 6 8,Zb 11 125 10,Zc 5 11])
 (.reg [Za 12 3,Za 13 5,Zq 14 (.call { callee:=(.invoke (Zr 13) "triforium/evaluate.nodes"),args:=#[],argTypes:=#[] }),Zn 15 .add 3 12 14,Zc 3 15])))
 (.reg [Zm 16 .add 3 8 1,Za 8 16]))))
def c102_1:ACode:=(.seq
 (.reg [Za 17 3,Zc 2 17]) .ret)
def c102:ACode:=(.seq
 (.reg [Zf 2 0])
 (.seq
 (.reg [Zf 3 0])
 (.seqL
 (.seq
 (.reg [Za 6 0,Ze 7 6 151,Zq 8 (.move (.const (.int .i64 0)))])
 (.block 0 (.loop b102_1))) c102_1)))
theorem fd102:FnD Try.prog 102 18 [(.tmp 2)] c102:=⟨⟨Try.f102,Try.f102.body.getD .skip,Try.func102,by kernel_rfl,by kernel_rfl,by kernel_rfl,by kernel_rfl⟩⟩
def c103:ACode:=(.reg [Zb 1 121 0,Zq 2 (.nilCheck (Zr 1)),Zd 3 123 2 3,Zb 4 3 3,Zm 5 .sub 3 4 1,Zq 6 (.nilCheck (Zr 1)),Zd 7 123 6 3,Zg 3 7 5])
theorem fd103:FnD Try.prog 103 8 [] c103:=⟨⟨Try.f103,Try.f103.body.getD .skip,Try.func103,by kernel_rfl,by kernel_rfl,by kernel_rfl,by kernel_rfl⟩⟩
def c104:ACode:=(.seq
 (.reg [Zq 4 (.assign (.const (.slice none 0 0)))])
 (.seq
 (.seq
 (.reg [Za 5 1,Zm 6 .lss 3 5 0])
 (.cond (Zr 6)
 (.reg [Zq 7 (.makeInterface 9 (.const (.string { data:=#[99,97,110,110,111,116,32,98,101,32,110,101,103,97,116,105,118,101] }))),⟨none,(.panic (Zr 7)),none⟩]) .skip))
 (.seq
 (.seq
 (.reg [Za 8 1,Za 9 0,Zq 10 (.call { callee:=(.builtin .cap),args:=#[Zr 9],argTypes:=#[32] }),Za 11 0,Ze 12 11 32,Zn 13 .sub 3 10 12,Zn 14 .sub 3 8 13,Zc 1 14])
 (.seq
 (.reg [Za 15 1,Zm 16 .gtr 3 15 0])
 (.cond (Zr 16)
 (.reg [Za 17 0,Za 18 0,Zq 19 (.call { callee:=(.builtin .cap),args:=#[Zr 18],argTypes:=#[32] }),Zq 20 (.slice 32 (Zr 17) none (some (Zr 19)) none),Za 21 1,Zq 22 (.call { callee:=(.builtin .append),args:=#[Zr 20,Zr 21],argTypes:=#[32,3] }),Za 23 0,Ze 24 23 32,Zq 25 (.slice 32 (Zr 22) none (some (Zr 24)) none),Zc 0 25]) .skip)))
 (.seq
 (.reg [Za 26 0,Zc 4 26]) .ret))))
theorem fd104:FnD Try.prog 104 27 [(.tmp 4)] c104:=⟨⟨Try.f104,Try.f104.body.getD .skip,Try.func104,by kernel_rfl,by kernel_rfl,by kernel_rfl,by kernel_rfl⟩⟩
def b105_1:ACode:=(.seq
 (.reg [Zn 9 .lss 3 8 7])
 (.seq
 (.cond (Zr 9) .skip (.exit 0))
 (.seq
 (.block 1
 (.seq
 (.reg [Za 10 8,Zc 5 10])
 (.seq
 (.reg [Za 11 1,Za 12 0,Za 13 5,Zk 14 188 12 13,Zb 15 5 14,Zq 16 (.call { callee:=(.value (Zr 11)),args:=#[Zr 15],argTypes:=#[5] })])
 (.cond (Zr 16)
 (.seq
 (.reg [Za 17 5,Zc 4 17]) .ret) .skip))))
 (.reg [Zm 18 .add 3 8 1,Za 8 18]))))
def c105_1:ACode:=(.seq
 (.reg [Zq 4 (.assign (.const (.int .i64 (-1))))]) .ret)
def c105:ACode:=(.seq
 (.reg [Zf 4 0])
 (.seqL
 (.seq
 (.reg [Za 6 0,Ze 7 6 188,Zq 8 (.move (.const (.int .i64 0)))])
 (.block 0 (.loop b105_1))) c105_1))
theorem fd105:FnD Try.prog 105 19 [(.tmp 4)] c105:=⟨⟨Try.f105,Try.f105.body.getD .skip,Try.func105,by kernel_rfl,by kernel_rfl,by kernel_rfl,by kernel_rfl⟩⟩
def c106:ACode:=(.seq
 (.reg [Zj 1 57 0,Zq 2 (.assign (.const .nilFunc))])
 (.seq
 (.reg [Zq 3 (.makeFunc (.func 111) #[] #[Zr 1]),Zc 2 3]) .ret))
theorem fd106:FnD Try.prog 106 4 [(.tmp 2)] c106:=⟨⟨Try.f106,Try.f106.body.getD .skip,Try.func106,by kernel_rfl,by kernel_rfl,by kernel_rfl,by kernel_rfl⟩⟩
def c107:ACode:=(.seq
 (.reg [Zj 1 57 0,Zq 2 (.assign (.const (.bool false)))])
 (.seq
 (.reg [Zd 3 57 1 0,Zb 4 4 3,Zq 5 (.unOp .not 4 (Zr 4)),Zc 2 5]) .ret))
theorem fd107:FnD Try.prog 107 6 [(.tmp 2)] c107:=⟨⟨Try.f107,Try.f107.body.getD .skip,Try.func107,by kernel_rfl,by kernel_rfl,by kernel_rfl,by kernel_rfl⟩⟩
def c108:ACode:=(.seq
 (.reg [Zj 1 57 0,Zq 2 (.assign (.const (.bool false)))])
 (.seq
 (.reg [Zd 3 57 1 0,Zb 4 4 3,Zc 2 4]) .ret))
theorem fd108:FnD Try.prog 108 5 [(.tmp 2)] c108:=⟨⟨Try.f108,Try.f108.body.getD .skip,Try.func108,by kernel_rfl,by kernel_rfl,by kernel_rfl,by kernel_rfl⟩⟩
def c109:ACode:=(.seq
 (.reg [Zj 1 34 0,Zq 2 (.assign (.const (.bool false)))])
 (.seq
 (.reg [Zd 4 34 1 2,Zb 5 32 4,Ze 6 5 32,Zc 3 6])
 (.seq
 (.seq
 (.reg [Zd 7 34 1 0,Zb 8 3 7])
 (.block 0
 (.seq
 (.seq
 (.reg [Zm 10 .eql 3 8 1,Zc 9 10])
 (.cond (Zr 9) .skip
 (.reg [Zm 11 .eql 3 8 2,Zc 9 11])))
 (.cond (Zr 9)
 (.seq
 (.reg [Za 12 3,Zm 13 .gtr 3 12 0,Za 14 13,Zp 15 (.fieldAddr 34 (Zr 1) 1) 14 false,Zp 16 (.load 9 (Zr 15)) 14 false,Zp 17 (.call { callee:=(.value (.func 78)),args:=#[Zr 16],argTypes:=#[9] }) 14 false,Zp 18 (.unOp .not 4 (Zr 17)) 14 false,Zq 19 (.pick (Zr 14) (.const (.bool true)) (Zr 18)),Zc 2 19]) .ret)
 (.seq
 (.reg [Zm 21 .eql 3 8 3,Zc 20 21])
 (.cond (Zr 20)
 (.seq
 (.reg [Zd 22 34 1 1,Zb 23 9 22,Zo 24 78 #[Zr 23] #[9],Zq 25 (.unOp .not 4 (Zr 24)),Zc 2 25]) .ret)
 (.seq
 (.reg [Zm 27 .eql 3 8 4,Zc 26 27])
 (.cond (Zr 26)
 (.seq
 (.reg [Za 28 3,Zm 29 .lss 3 28 2,Za 30 29,Zp 31 (.fieldAddr 34 (Zr 1) 1) 30 false,Zp 32 (.load 9 (Zr 31)) 30 false,Zp 33 (.binOp .neq 9 (Zr 32) (.const (.string { data:=#[] })) 9) 30 false,Zq 34 (.pick (Zr 30) (.const (.bool true)) (Zr 33)),Zc 2 34]) .ret)
 (.seq
 (.reg [Zm 36 .eql 3 8 5,Zc 35 36])
 (.cond (Zr 35)
 (.seq
 (.reg [Za 37 3,Zm 38 .neq 3 37 1,Za 39 38,Zp 40 (.fieldAddr 34 (Zr 1) 1) 39 false,Zp 41 (.load 9 (Zr 40)) 39 false,Zp 42 (.call { callee:=(.value (.func 78)),args:=#[Zr 41],argTypes:=#[9] }) 39 false,Zp 43 (.unOp .not 4 (Zr 42)) 39 false,Zq 44 (.pick (Zr 39) (.const (.bool true)) (Zr 43)),Zc 2 44]) .ret) .skip))))))))))
 (.seq
 (.reg [Zq 2 (.assign (.const (.bool true)))]) .ret))))
theorem fd109:FnD Try.prog 109 45 [(.tmp 2)] c109:=⟨⟨Try.f109,Try.f109.body.getD .skip,Try.func109,by kernel_rfl,by kernel_rfl,by kernel_rfl,by kernel_rfl⟩⟩
def b110_1:ACode:=(.seq
 (.seq
 (.reg [Za 5 0,Zq 6 (.binOp .neq 195 (Zr 5) (.const (.pointer none)) 195)])
 (.cond (Zr 6) .skip (.exit 0)))
 (.seq
 (.block 1
 (.seq
 (.reg [Za 11 0,Zq 12 (.nilCheck (Zr 11)),Zd 13 209 12 0,Zb 14 9 13,Za 15 1,Zn 16 .eql 9 14 15])
 (.cond (Zr 16)
 (.seq
 (.reg [Zq 4 (.assign (.const (.bool true)))]) .ret) .skip)))
 (.reg [Za 7 0,Zq 8 (.nilCheck (Zr 7)),Zd 9 209 8 1,Zb 10 195 9,Zc 0 10])))
def c110_1:ACode:=(.seq
 (.reg [Zq 4 (.assign (.const (.bool false)))]) .ret)
def c110:ACode:=(.seq
 (.reg [Zq 4 (.assign (.const (.bool false)))])
 (.seqL
 (.block 0 (.loop b110_1)) c110_1))
theorem fd110:FnD Try.prog 110 17 [(.tmp 4)] c110:=⟨⟨Try.f110,Try.f110.body.getD .skip,Try.func110,by kernel_rfl,by kernel_rfl,by kernel_rfl,by kernel_rfl⟩⟩
def c111:ACode:=(.seq
 (.reg [Zj 2 211 0])
 (.seq
 (.reg [Zi 3 212])
 (.seq
 (.reg [Zq 4 (.makeFunc (.func 112) #[] #[Zr 2,Zr 3]),Zg 212 3 4])
 (.reg [Zb 5 212 3,Zb 6 57 1,Zq 7 (.call { callee:=(.value (Zr 5)),args:=#[Zr 6,(.const (.int .i64 0))],argTypes:=#[57,3] })]))))
theorem fd111:FnD Try.prog 111 8 [] c111:=⟨⟨Try.f111,Try.f111.body.getD .skip,Try.func111,by kernel_rfl,by kernel_rfl,by kernel_rfl,by kernel_rfl⟩⟩
def c112:ACode:=(.seq
 (.reg [Zj 4 57 0,Zj 5 3 1,Zq 6 (.assign (.const (.bool false)))])
 (.seq
 (.reg [Zb 7 211 2,Zb 8 57 4,Zb 9 3 5,Zq 10 (.build 207 #[(0,(Zr 8)),(1,(Zr 9))]),Zq 11 (.call { callee:=(.value (Zr 7)),args:=#[Zr 10],argTypes:=#[207] }),Za 12 11,Zp 13 (.fieldAddr 57 (Zr 4) 2) 12 true,Zp 14 (.load 55 (Zr 13)) 12 true,Zp 15 (.makeFunc (.func 114) #[] #[Zr 3,Zr 5]) 12 true,Zp 16 (.call { callee:=(.value (.func 113)),args:=#[Zr 14,Zr 15],argTypes:=#[55,214] }) 12 true,Zp 17 (.unOp .not 4 (Zr 16)) 12 true,Zq 18 (.pick (Zr 12) (Zr 17) (.const (.bool false))),Zc 6 18]) .ret))
theorem fd112:FnD Try.prog 112 19 [(.tmp 6)] c112:=⟨⟨Try.f112,Try.f112.body.getD .skip,Try.func112,by kernel_rfl,by kernel_rfl,by kernel_rfl,by kernel_rfl⟩⟩
def c113:ACode:=(.seq
 (.reg [Zq 4 (.assign (.const (.bool false)))])
 (.seq
 (.reg [Za 5 0,Za 6 1,Zo 7 115 #[Zr 5,Zr 6] #[55,214],Zm 8 .geq 3 7 0,Zc 4 8]) .ret))
theorem fd113:FnD Try.prog 113 9 [(.tmp 4)] c113:=⟨⟨Try.f113,Try.f113.body.getD .skip,Try.func113,by kernel_rfl,by kernel_rfl,by kernel_rfl,by kernel_rfl⟩⟩
def c114:ACode:=(.seq
 (.reg [Zj 3 57 0,Zq 4 (.assign (.const (.bool false)))])
 (.seq
 (.reg [Zb 5 212 1,Zb 6 57 3,Zb 7 3 2,Zm 8 .add 3 7 1,Zq 9 (.call { callee:=(.value (Zr 5)),args:=#[Zr 6,Zr 8],argTypes:=#[57,3] }),Zq 10 (.unOp .not 4 (Zr 9)),Zc 4 10]) .ret))
theorem fd114:FnD Try.prog 114 11 [(.tmp 4)] c114:=⟨⟨Try.f114,Try.f114.body.getD .skip,Try.func114,by kernel_rfl,by kernel_rfl,by kernel_rfl,by kernel_rfl⟩⟩
def b115_1:ACode:=(.seq
 (.reg [Zn 9 .lss 3 8 7])
 (.seq
 (.cond (Zr 9) .skip (.exit 0))
 (.seq
 (.block 1
 (.seq
 (.reg [Za 10 8,Zc 5 10])
 (.seq
 (.reg [Za 11 1,Za 12 0,Za 13 5,Zk 14 55 12 13,Zb 15 57 14,Zq 16 (.call { callee:=(.value (Zr 11)),args:=#[Zr 15],argTypes:=#[57] })])
 (.cond (Zr 16)
 (.seq
 (.reg [Za 17 5,Zc 4 17]) .ret) .skip))))
 (.reg [Zm 18 .add 3 8 1,Za 8 18]))))
def c115_1:ACode:=(.seq
 (.reg [Zq 4 (.assign (.const (.int .i64 (-1))))]) .ret)
def c115:ACode:=(.seq
 (.reg [Zf 4 0])
 (.seqL
 (.seq
 (.reg [Za 6 0,Ze 7 6 55,Zq 8 (.move (.const (.int .i64 0)))])
 (.block 0 (.loop b115_1))) c115_1))
theorem fd115:FnD Try.prog 115 19 [(.tmp 4)] c115:=⟨⟨Try.f115,Try.f115.body.getD .skip,Try.func115,by kernel_rfl,by kernel_rfl,by kernel_rfl,by kernel_rfl⟩⟩
def c132:ACode:=(.seq
 (.reg [Zj 1 155 0,Zf 2 0])
 (.seq
 (.reg [Zf 2 1]) .ret))
theorem fd132:FnD Try.prog 132 3 [(.tmp 2)] c132:=⟨⟨Try.f132,Try.f132.body.getD .skip,Try.func132,by kernel_rfl,by kernel_rfl,by kernel_rfl,by kernel_rfl⟩⟩
def c133:ACode:=(.seq
 (.reg [Zj 1 158 0,Zf 2 0])
 (.seq
 (.seq
 (.reg [Zd 3 158 1 1,Zb 4 151 3,Ze 5 4 151,Zm 6 .eql 3 5 0])
 (.cond (Zr 6)
 (.seq
 (.reg [Zf 2 1]) .ret) .skip))
 (.seq
 (.reg [Zd 7 158 1 1,Zb 8 151 7,Zo 9 102 #[Zr 8] #[151],Zq 10 (.binOp .add 3 (.const (.int .i64 2)) (Zr 9) 3),Zc 2 10]) .ret)))
theorem fd133:FnD Try.prog 133 11 [(.tmp 2)] c133:=⟨⟨Try.f133,Try.f133.body.getD .skip,Try.func133,by kernel_rfl,by kernel_rfl,by kernel_rfl,by kernel_rfl⟩⟩
def c134:ACode:=(.seq
 (.reg [Zj 1 161 0,Zf 2 0])
 (.seq
 (.reg [Zd 3 161 1 1,Zb 4 151 3,Zo 5 102 #[Zr 4] #[151],Zq 6 (.binOp .add 3 (.const (.int .i64 1)) (Zr 5) 3),Zc 2 6]) .ret))
theorem fd134:FnD Try.prog 134 7 [(.tmp 2)] c134:=⟨⟨Try.f134,Try.f134.body.getD .skip,Try.func134,by kernel_rfl,by kernel_rfl,by kernel_rfl,by kernel_rfl⟩⟩
end Go.PV.Ytglpmlbbaedbiaa
end
