/- Part 3 of 10 of what the proof of Prio needs. -/
import Derived.Test.YtfkkmdelpddojaaPrio2
import Derived.Test.YtfkkmdelpddojaaProg
import Derived.KernelRfl
import Derived.OrdersIn
set_option linter.unusedVariables false
set_option linter.unusedSimpArgs false
set_option linter.defProp false
section
set_option maxRecDepth 100000
namespace Go.PV.Ytfkkmdelpddojaa
open Go Go.Proofs
def Za (d s:Nat):GOp:=⟨some d,.move (.tmp s),none⟩
def Zb (d:Nat) (T:TypeId) (s:Nat):GOp:=⟨some d,.load T (.tmp s),none⟩
def Zc (d s:Nat):GOp:=⟨some d,.assign (.tmp s),none⟩
def Zd (d:Nat) (T:TypeId) (s f:Nat):GOp:=⟨some d,.fieldAddr T (.tmp s) f,none⟩
def Ze (d s:Nat) (T:TypeId):GOp:=⟨some d,.call { callee:=.builtin .len,args:=#[.tmp s],argTypes:=#[T] },none⟩
def Zf (d:Nat) (n:Int):GOp:=⟨some d,.assign (.const (.int .i64 n)),none⟩
def Zg (T:TypeId) (a b:Nat):GOp:=⟨none,.store T (.tmp a) (.tmp b),none⟩
def Zh (d s i:Nat):GOp:=⟨some d,.extract (.tmp s) i,none⟩
def Zi (d:Nat) (T:TypeId):GOp:=⟨some d,.alloc T,none⟩
def Zj (d:Nat) (T:TypeId) (s:Nat):GOp:=⟨some d,.box T (.tmp s),none⟩
def Zk (d:Nat) (T:TypeId) (s i:Nat):GOp:=⟨some d,.indexAddr T (.tmp s) (.tmp i),none⟩
def Zl (d a b:Nat) (T:TypeId):GOp:=⟨some d,.call { callee:=.builtin .append,args:=#[.tmp a,.tmp b],argTypes:=#[T,T] },none⟩
def Zm (d:Nat) (o:BinOp) (T:TypeId) (a:Nat) (n:Int):GOp:=⟨some d,.binOp o T (.tmp a) (.const (.int .i64 n)) T,none⟩
def Zn (d:Nat) (o:BinOp) (T:TypeId) (a b:Nat):GOp:=⟨some d,.binOp o T (.tmp a) (.tmp b) T,none⟩
def Zo (d f:Nat) (l:Array Operand) (T:Array TypeId):GOp:=⟨some d,.call { callee:=.value (.func f),args:=l,argTypes:=T },none⟩
def Zp (d:Nat) (x:Op) (g:Nat) (b:Bool):GOp:=⟨some d,x,some (g,b)⟩
def Zq (d:Nat) (x:Op):GOp:=⟨some d,x,none⟩
def Zr (s:Nat):Operand:=.tmp s
theorem mixed:Try.prog.follows .mixedOrders=true:=by kernel_rfl
theorem en_8:Zz Try.prog 8=true:=by kernel_rfl
theorem en_9:Zz Try.prog 9=true:=by kernel_rfl
theorem ZgH:Zz Try.prog 11=true:=by kernel_rfl
theorem ZgI:Zz Try.prog 12=true:=by kernel_rfl
theorem Zfc:Zz Try.prog 10=true:=by kernel_rfl
theorem Zdt:Zz Try.prog 16=true:=by kernel_rfl
theorem Jp:elT Try.prog 115=some (22,1,24):=by kernel_rfl
theorem JU:zeroT Try.prog 22=some [(.slice none 0 0)]:=by kernel_rfl
theorem Zdu:Zz Try.prog 20=true:=by kernel_rfl
theorem ZgJ:Try.prog.underlying 5=some (.int .u8):=by kernel_rfl
theorem ZgK:Try.prog.underlying 3=some (.int .i64):=by kernel_rfl
theorem Xt:elT Try.prog 26=some (44,3,40):=by kernel_rfl
theorem und_26:Try.prog.underlying 26=some (.slice 44):=by kernel_rfl
theorem Zh8:Zz Try.prog 21=true:=by kernel_rfl
theorem Xb:elT Try.prog 30=some (62,4,64):=by kernel_rfl
theorem Je:ldT Try.prog 62=some (4,true):=by kernel_rfl
theorem JV:zeroT Try.prog 62=some [(.string ⟨#[]⟩),(.int .i64 0),(.string ⟨#[]⟩),(.slice none 0 0)]:=by kernel_rfl
theorem Zgp:szT Try.prog 62=some 4:=by kernel_rfl
theorem Xh:flT Try.prog 62 3=some (3,1,false):=by kernel_rfl
theorem Wi:ldT Try.prog 60=some (1,false):=by kernel_rfl
theorem Xu:elT Try.prog 60=some (64,3,32):=by kernel_rfl
theorem JD:ldT Try.prog 64=some (3,true):=by kernel_rfl
theorem Xp:zeroT Try.prog 64=some [(.int .i64 0),(.string ⟨#[]⟩),(.int .i64 0)]:=by kernel_rfl
theorem WU:szT Try.prog 64=some 3:=by kernel_rfl
theorem Zdv:zeroT Try.prog 66=some [(.string ⟨#[]⟩),(.string ⟨#[]⟩)]:=by kernel_rfl
theorem Wb:ldT Try.prog 9=some (1,false):=by kernel_rfl
theorem XQ:flT Try.prog 64 1=some (1,1,false):=by kernel_rfl
theorem stT_66:stT Try.prog 66=some ([(.string ⟨#[]⟩),(.string ⟨#[]⟩)],[(0,1),(1,1)]):=by kernel_rfl
theorem szT_66:szT Try.prog 66=some 2:=by kernel_rfl
theorem Xd:flT Try.prog 64 0=some (0,1,false):=by kernel_rfl
theorem Yd:ldT Try.prog 3=some (1,false):=by kernel_rfl
theorem Zam:elT Try.prog 32=some (66,2,32):=by kernel_rfl
theorem Zgq:ldT Try.prog 66=some (2,true):=by kernel_rfl
theorem Zdm:ldT Try.prog 44=some (3,true):=by kernel_rfl
theorem XE:zeroT Try.prog 44=some [(.int .i64 0),(.int .i64 0),(.slice none 0 0)]:=by kernel_rfl
theorem ZbD:szT Try.prog 44=some 3:=by kernel_rfl
theorem flT_44_0:flT Try.prog 44 0=some (0,1,false):=by kernel_rfl
theorem WH:flT Try.prog 62 0=some (0,1,false):=by kernel_rfl
theorem WW:flT Try.prog 62 1=some (1,1,false):=by kernel_rfl
theorem ZlW:Zz Try.prog 30=true:=by kernel_rfl
theorem Zab:elT Try.prog 22=some (52,4,64):=by kernel_rfl
theorem Zh9:ldT Try.prog 52=some (4,true):=by kernel_rfl
theorem Za9:zeroT Try.prog 52=some [(.string ⟨#[]⟩),(.int .i64 0),(.string ⟨#[]⟩),(.slice none 0 0)]:=by kernel_rfl
theorem Zia:szT Try.prog 52=some 4:=by kernel_rfl
theorem Zdw:flT Try.prog 52 3=some (3,1,false):=by kernel_rfl
theorem Zib:ldT Try.prog 50=some (1,false):=by kernel_rfl
theorem Zdn:elT Try.prog 50=some (88,3,32):=by kernel_rfl
theorem en_38:Zz Try.prog 38=true:=by kernel_rfl
theorem en_39:Zz Try.prog 39=true:=by kernel_rfl
theorem Zkd:elT Try.prog 23=some (100,2,32):=by kernel_rfl
theorem en_40:Zz Try.prog 40=true:=by kernel_rfl
theorem en_41:Zz Try.prog 41=true:=by kernel_rfl
theorem ZiS:flT Try.prog 44 2=some (2,1,false):=by kernel_rfl
theorem ZaH:ldT Try.prog 26=some (1,false):=by kernel_rfl
theorem ZlX:Zz Try.prog 42=true:=by kernel_rfl
theorem en_43:Zz Try.prog 43=true:=by kernel_rfl
theorem zeroT_26:zeroT Try.prog 26=some [(.slice none 0 0)]:=by kernel_rfl
theorem ZaI:stT Try.prog 99=some ([(.int .i64 0),(.int .i64 0)],[(0,1),(1,1)]):=by kernel_rfl
theorem en_44:Zz Try.prog 44=true:=by kernel_rfl
theorem szT_26:szT Try.prog 26=some 1:=by kernel_rfl
theorem flT_52_0:flT Try.prog 52 0=some (0,1,false):=by kernel_rfl
theorem flT_52_1:flT Try.prog 52 1=some (1,1,false):=by kernel_rfl
theorem flT_52_2:flT Try.prog 52 2=some (2,1,false):=by kernel_rfl
theorem stT_62:stT Try.prog 62=some ([(.string ⟨#[]⟩),(.int .i64 0),(.string ⟨#[]⟩),(.slice none 0 0)],[(0,1),(1,1),(2,1),(3,1)]):=by kernel_rfl
theorem ldT_88:ldT Try.prog 88=some (3,true):=by kernel_rfl
theorem zeroT_88:zeroT Try.prog 88=some [(.int .i64 0),(.string ⟨#[]⟩),(.int .i64 0)]:=by kernel_rfl
theorem szT_88:szT Try.prog 88=some 3:=by kernel_rfl
theorem ZeV:szT Try.prog 60=some 1:=by kernel_rfl
theorem ldT_100:ldT Try.prog 100=some (2,true):=by kernel_rfl
theorem Zlh:zeroT Try.prog 100=some [(.string ⟨#[]⟩),(.string ⟨#[]⟩)]:=by kernel_rfl
theorem szT_100:szT Try.prog 100=some 2:=by kernel_rfl
theorem Xz:ldT Try.prog 30=some (1,false):=by kernel_rfl
theorem Zjw:Zz Try.prog 49=true:=by kernel_rfl
theorem Zjx:Zz Try.prog 48=true:=by kernel_rfl
theorem en_52:Zz Try.prog 52=true:=by kernel_rfl
theorem en_53:Zz Try.prog 53=true:=by kernel_rfl
theorem ZiT:flT Try.prog 88 0=some (0,1,false):=by kernel_rfl
theorem flT_44_1:flT Try.prog 44 1=some (1,1,false):=by kernel_rfl
theorem ldT_22:ldT Try.prog 22=some (1,false):=by kernel_rfl
theorem en_57:Zz Try.prog 57=true:=by kernel_rfl
theorem Jq:flT Try.prog 127 2=some (2,1,false):=by kernel_rfl
theorem ZaN:ldT Try.prog 123=some (1,false):=by kernel_rfl
theorem ZaO:elT Try.prog 123=some (122,3,40):=by kernel_rfl
theorem WI:flT Try.prog 122 0=some (0,1,false):=by kernel_rfl
theorem Zau:ldT Try.prog 118=some (1,false):=by kernel_rfl
theorem XL:elT Try.prog 118=some (129,3,24):=by kernel_rfl
theorem Wo:ldT Try.prog 129=some (3,true):=by kernel_rfl
theorem Wr:zeroT Try.prog 129=some [(.int .i64 0),(.int .i64 0),(.int .i64 0)]:=by kernel_rfl
theorem Zbz:szT Try.prog 129=some 3:=by kernel_rfl
theorem ZgL:Zz Try.prog 59=true:=by kernel_rfl
theorem Wv:zeroT Try.prog 3=some [(.int .i64 0)]:=by kernel_rfl
theorem Zfd:szT Try.prog 3=some 1:=by kernel_rfl
theorem ldT_32:ldT Try.prog 32=some (1,false):=by kernel_rfl
theorem en_65:Zz Try.prog 65=true:=by kernel_rfl
theorem Zke:stT Try.prog 44=some ([(.int .i64 0),(.int .i64 0),(.slice none 0 0)],[(0,1),(1,1),(2,1)]):=by kernel_rfl
theorem en_74:Zz Try.prog 74=true:=by kernel_rfl
theorem Zkf:stT Try.prog 64=some ([(.int .i64 0),(.string ⟨#[]⟩),(.int .i64 0)],[(0,1),(1,1),(2,1)]):=by kernel_rfl
theorem JS:Zz Try.prog 75=true:=by kernel_rfl
theorem stT_127:stT Try.prog 127=some ([(.slice none 0 0),(.slice none 0 0),(.slice none 0 0),(.map none),(.map none)],[(0,1),(1,1),(2,1),(3,1),(4,1)]):=by kernel_rfl
theorem zeroT_93:zeroT Try.prog 93=some [(.pointer none)]:=by kernel_rfl
theorem szT_93:szT Try.prog 93=some 1:=by kernel_rfl
theorem Zli:zeroT Try.prog 148=some [(.map none)]:=by kernel_rfl
theorem szT_148:szT Try.prog 148=some 1:=by kernel_rfl
theorem en_76:Zz Try.prog 76=true:=by kernel_rfl
theorem YA:elT Try.prog 108=some (3,1,8):=by kernel_rfl
theorem ZkC:ldT Try.prog 148=some (1,false):=by kernel_rfl
theorem Zlj:zeroT Try.prog 122=some [(.slice none 0 0),(.map none),(.map none)]:=by kernel_rfl
theorem YT:ldT Try.prog 93=some (1,false):=by kernel_rfl
theorem szT_123:szT Try.prog 123=some 1:=by kernel_rfl
theorem szT_119:szT Try.prog 119=some 1:=by kernel_rfl
theorem Zd6:flT Try.prog 122 1=some (1,1,false):=by kernel_rfl
theorem Zd7:flT Try.prog 122 2=some (2,1,false):=by kernel_rfl
theorem szT_120:szT Try.prog 120=some 1:=by kernel_rfl
theorem en_77:Zz Try.prog 77=true:=by kernel_rfl
theorem en_79:Zz Try.prog 79=true:=by kernel_rfl
theorem ZkD:ldT Try.prog 120=some (1,false):=by kernel_rfl
theorem XZ:flT Try.prog 64 2=some (2,1,false):=by kernel_rfl
theorem Zjy:Zz Try.prog 80=true:=by kernel_rfl
theorem Jr:flT Try.prog 129 0=some (0,1,false):=by kernel_rfl
theorem Zan:flT Try.prog 129 1=some (1,1,false):=by kernel_rfl
theorem Zcd:flT Try.prog 129 2=some (2,1,false):=by kernel_rfl
theorem ZhE:stT Try.prog 129=some ([(.int .i64 0),(.int .i64 0),(.int .i64 0)],[(0,1),(1,1),(2,1)]):=by kernel_rfl
theorem en_78:Zz Try.prog 78=true:=by kernel_rfl
theorem Zd8:flT Try.prog 127 3=some (3,1,false):=by kernel_rfl
theorem ZhF:ldT Try.prog 124=some (1,false):=by kernel_rfl
theorem en_81:Zz Try.prog 81=true:=by kernel_rfl
theorem en_91:Zz Try.prog 91=true:=by kernel_rfl
theorem ZbE:ldT Try.prog 99=some (2,true):=by kernel_rfl
theorem ZcS:Zz Try.prog 51=true:=by kernel_rfl
theorem en_92:Zz Try.prog 92=true:=by kernel_rfl
theorem en_54:Zz Try.prog 54=true:=by kernel_rfl
theorem ZaA:flT Try.prog 62 2=some (2,1,false):=by kernel_rfl
theorem ZcT:Zz Try.prog 93=true:=by kernel_rfl
theorem en_94:Zz Try.prog 94=true:=by kernel_rfl
theorem YU:flT Try.prog 127 0=some (0,1,false):=by kernel_rfl
theorem en_97:Zz Try.prog 97=true:=by kernel_rfl
theorem ZfQ:flT Try.prog 66 0=some (0,1,false):=by kernel_rfl
theorem ZgT:zeroT Try.prog 108=some [(.slice none 0 0)]:=by kernel_rfl
theorem Zfe:elT Try.prog 179=some (4,1,1):=by kernel_rfl
theorem ZkE:zeroT Try.prog 4=some [(.bool false)]:=by kernel_rfl
theorem ZlY:ldT Try.prog 4=some (1,false):=by kernel_rfl
theorem en_99:Zz Try.prog 99=true:=by kernel_rfl
theorem Zff:szT Try.prog 4=some 1:=by kernel_rfl
theorem JW:ldT Try.prog 108=some (1,false):=by kernel_rfl
theorem ZhG:szT Try.prog 108=some 1:=by kernel_rfl
theorem ZkF:ldT Try.prog 119=some (1,false):=by kernel_rfl
theorem szT_118:szT Try.prog 118=some 1:=by kernel_rfl
theorem zeroT_99:zeroT Try.prog 99=some [(.int .i64 0),(.int .i64 0)]:=by kernel_rfl
theorem szT_99:szT Try.prog 99=some 2:=by kernel_rfl
theorem flT_66_1:flT Try.prog 66 1=some (1,1,false):=by kernel_rfl
theorem en_101:Zz Try.prog 101=true:=by kernel_rfl
theorem Zjz:Zz Try.prog 83=true:=by kernel_rfl
theorem ZjA:Zz Try.prog 84=true:=by kernel_rfl
theorem ZeW:ldT Try.prog 75=some (1,false):=by kernel_rfl
theorem ZlZ:Zz Try.prog 85=true:=by kernel_rfl
theorem en_86:Zz Try.prog 86=true:=by kernel_rfl
theorem en_87:Zz Try.prog 87=true:=by kernel_rfl
theorem en_102:Zz Try.prog 102=true:=by kernel_rfl
theorem en_103:Zz Try.prog 103=true:=by kernel_rfl
theorem XH:flT Try.prog 99 1=some (1,1,false):=by kernel_rfl
theorem Wl:flT Try.prog 99 0=some (0,1,false):=by kernel_rfl
theorem ZbA:stT Try.prog 185=some ([(.int .i64 0),(.int .i64 0),(.int .i64 0),(.int .i64 0)],[(0,1),(1,1),(2,2)]):=by kernel_rfl
theorem ZbF:Zz Try.prog 104=true:=by kernel_rfl
theorem en_105:Zz Try.prog 105=true:=by kernel_rfl
theorem en_107:Zz Try.prog 107=true:=by kernel_rfl
theorem en_106:Zz Try.prog 106=true:=by kernel_rfl
theorem Zlk:zeroT Try.prog 188=some [(.map none)]:=by kernel_rfl
theorem szT_188:szT Try.prog 188=some 1:=by kernel_rfl
theorem Zll:zeroT Try.prog 110=some [.nilFunc]:=by kernel_rfl
theorem Zkg:Zz Try.prog 108=true:=by kernel_rfl
theorem szT_110:szT Try.prog 110=some 1:=by kernel_rfl
theorem ZhH:ldT Try.prog 110=some (1,false):=by kernel_rfl
theorem en_110:Zz Try.prog 110=true:=by kernel_rfl
theorem en_95:Zz Try.prog 95=true:=by kernel_rfl
theorem en_120:Zz Try.prog 120=true:=by kernel_rfl
theorem en_121:Zz Try.prog 121=true:=by kernel_rfl
theorem en_100:Zz Try.prog 100=true:=by kernel_rfl
theorem en_122:Zz Try.prog 122=true:=by kernel_rfl
theorem Zkh:Zz Try.prog 128=true:=by kernel_rfl
theorem ZkG:ldT Try.prog 185=some (4,true):=by kernel_rfl
theorem ZkH:ldT Try.prog 125=some (1,false):=by kernel_rfl
theorem ZgU:flT Try.prog 127 4=some (4,1,false):=by kernel_rfl
theorem en_131:Zz Try.prog 131=true:=by kernel_rfl
theorem en_133:Zz Try.prog 133=true:=by kernel_rfl
theorem en_134:Zz Try.prog 134=true:=by kernel_rfl
theorem en_132:Zz Try.prog 132=true:=by kernel_rfl
theorem ZdO:ldT Try.prog 188=some (1,false):=by kernel_rfl
theorem en_144:Zz Try.prog 144=true:=by kernel_rfl
theorem Zb5:zeroT Try.prog 60=some [(.slice none 0 0)]:=by kernel_rfl
theorem JM:flT Try.prog 185 1=some (1,1,false):=by kernel_rfl
theorem JN:flT Try.prog 185 0=some (0,1,false):=by kernel_rfl
theorem WY:flT Try.prog 185 2=some (2,2,true):=by kernel_rfl
theorem ZgV:flT Try.prog 127 1=some (1,1,false):=by kernel_rfl
theorem en_145:Zz Try.prog 145=true:=by kernel_rfl
theorem ldT_187:ldT Try.prog 187=some (1,false):=by kernel_rfl
def c4:ACode:=(.seq
 (.reg [Zq 12 (.assign (.const (.bool false)))])
 (.seq
 (.seq
 (.reg [Za 20 0,Za 21 5,Zo 22 8 #[Zr 20,Zr 21,(.const (.int .i64 6))] #[22,23,3],Zq 23 (.unOp .not 4 (Zr 22)),Za 24 23,Zp 25 (.move (Zr 1)) 24 false,Zp 26 (.call { callee:=(.value (.func 8)),args:=#[Zr 25,(.const (.slice none 0 0)),(.const (.int .i64 0))],argTypes:=#[22,23,3] }) 24 false,Zp 27 (.unOp .not 4 (Zr 26)) 24 false,Zq 28 (.pick (Zr 24) (.const (.bool true)) (Zr 27)),Za 29 28,Zp 30 (.move (Zr 0)) 29 false,Zp 31 (.move (Zr 1)) 29 false,Zp 32 (.buildSlice 115 2 #[(0,(Zr 30)),(1,(Zr 31))]) 29 false,Zp 33 (.call { callee:=(.value (.func 20)),args:=#[Zr 32],argTypes:=#[115] }) 29 false,Zp 34 (.move (Zr 5)) 29 false,Zp 35 (.call { callee:=(.value (.func 8)),args:=#[Zr 33,Zr 34,(.const (.int .i64 6))],argTypes:=#[22,23,3] }) 29 false,Zp 36 (.unOp .not 4 (Zr 35)) 29 false,Zq 37 (.pick (Zr 29) (.const (.bool true)) (Zr 36))])
 (.cond (Zr 37)
 (.seq
 (.reg [Zo 38 9 #[] #[],Zc 12 38]) .ret) .skip))
 (.seq
 (.reg [Za 39 3,Zq 40 (.convert 5 3 (Zr 39)),Za 41 4,Zq 42 (.convert 5 3 (Zr 41)),Zq 43 (.call { callee:=(.builtin .min),args:=#[Zr 40,Zr 42],argTypes:=#[3,3] }),Za 44 3,Zq 45 (.convert 5 3 (Zr 44)),Za 46 4,Zq 47 (.convert 5 3 (Zr 46)),Zq 48 (.call { callee:=(.builtin .max),args:=#[Zr 45,Zr 47],argTypes:=#[3,3] }),Zc 13 43,Zc 14 48])
 (.seq
 (.reg [Za 50 0,Zo 51 11 #[Zr 50] #[22],Za 52 2,Za 53 14,Za 54 5,Zo 55 12 #[Zr 54] #[23],Zo 56 10 #[Zr 51,Zr 52,Zr 53,Zr 55,(.const (.int .i64 1000))] #[30,9,3,32,3],Za 49 56,Zh 57 49 0,Zh 58 49 1,Zc 15 57,Zc 16 58])
 (.seq
 (.seq
 (.reg [Za 59 16,Zm 60 .neq 27 59 0])
 (.cond (Zr 60)
 (.seq
 (.reg [Za 61 15,Ze 62 61 26,Zm 63 .eql 3 62 0,Za 64 63,Zp 65 (.call { callee:=(.value (.func 9)),args:=#[],argTypes:=#[] }) 64 true,Zq 66 (.pick (Zr 64) (Zr 65) (.const (.bool false))),Zc 12 66]) .ret) .skip))
 (.seq
 (.reg [Za 68 0,Zo 69 11 #[Zr 68] #[22],Za 70 2,Za 71 13,Za 72 5,Zo 73 12 #[Zr 72] #[23],Zo 74 10 #[Zr 69,Zr 70,Zr 71,Zr 73,(.const (.int .i64 1000))] #[30,9,3,32,3],Za 67 74,Zh 75 67 0,Zh 76 67 1,Zc 17 75,Zc 16 76])
 (.seq
 (.seq
 (.reg [Za 77 16,Zm 78 .neq 27 77 0,Za 79 78,Zp 80 (.move (Zr 17)) 79 false,Zp 81 (.call { callee:=(.builtin .len),args:=#[Zr 80],argTypes:=#[26] }) 79 false,Zp 82 (.binOp .lss 3 (Zr 81) (.const (.int .i64 1000)) 3) 79 false,Zp 83 (.move (Zr 82)) 79 false,Zp 84 (.move (Zr 15)) 83 true,Zp 85 (.move (Zr 17)) 83 true,Zp 86 (.call { callee:=(.value (.func 21)),args:=#[Zr 84,Zr 85],argTypes:=#[26,26] }) 83 true,Zp 87 (.unOp .not 4 (Zr 86)) 83 true,Zp 88 (.pick (Zr 83) (Zr 87) (.const (.bool false))) 79 false,Zq 89 (.pick (Zr 79) (.const (.bool true)) (Zr 88))])
 (.cond (Zr 89)
 (.seq
 (.reg [Zq 12 (.assign (.const (.bool false)))]) .ret) .skip))
 (.seq
 (.reg [Za 90 0,Za 91 1,Zq 92 (.buildSlice 115 2 #[(0,(Zr 90)),(1,(Zr 91))]),Zo 93 20 #[Zr 92] #[115],Zo 94 11 #[Zr 93] #[22],Zc 18 94])
 (.seq
 (.seq
 (.reg [Za 95 18,Zo 96 16 #[Zr 95] #[30],Zm 97 .neq 27 96 0])
 (.cond (Zr 97)
 (.seq
 (.reg [Zo 98 9 #[] #[],Zc 12 98]) .ret) .skip))
 (.seq
 (.reg [Za 100 18,Za 101 2,Za 102 14,Za 103 5,Zo 104 12 #[Zr 103] #[23],Zo 105 10 #[Zr 100,Zr 101,Zr 102,Zr 104,(.const (.int .i64 1000))] #[30,9,3,32,3],Za 99 105,Zh 106 99 0,Zh 107 99 1,Zc 19 106,Zc 16 107])
 (.seq
 (.reg [Za 108 16,Zm 109 .eql 27 108 0,Za 110 109,Zp 111 (.move (Zr 19)) 110 true,Zp 112 (.call { callee:=(.builtin .len),args:=#[Zr 111],argTypes:=#[26] }) 110 true,Zp 113 (.binOp .geq 3 (Zr 112) (.const (.int .i64 1000)) 3) 110 true,Zp 114 (.move (Zr 113)) 110 true,Zp 115 (.move (Zr 15)) 114 false,Zp 116 (.move (Zr 19)) 114 false,Zp 117 (.call { callee:=(.value (.func 21)),args:=#[Zr 115,Zr 116],argTypes:=#[26,26] }) 114 false,Zp 118 (.pick (Zr 114) (.const (.bool true)) (Zr 117)) 110 true,Zq 119 (.pick (Zr 110) (Zr 118) (.const (.bool false))),Za 120 119,Zp 121 (.call { callee:=(.value (.func 9)),args:=#[],argTypes:=#[] }) 120 true,Zq 122 (.pick (Zr 120) (Zr 121) (.const (.bool false))),Zc 12 122]) .ret)))))))))))
theorem fd4:FnD Try.prog 4 123 [(.tmp 12)] c4:=⟨⟨Try.f4,Try.f4.body.getD .skip,Try.func4,by kernel_rfl,by kernel_rfl,by kernel_rfl,by kernel_rfl⟩⟩
def b8_1:ACode:=(.seq
 (.reg [Zn 15 .lss 3 14 13])
 (.seq
 (.cond (Zr 15) .skip (.exit 0))
 (.seq
 (.block 1
 (.seq
 (.reg [Zk 16 22 12 14,Zb 17 52 16,Zi 11 52,Zg 52 11 17])
 (.seq
 (.reg [Za 18 7,Zd 19 52 11 3,Zb 20 50 19,Ze 21 20 50,Zn 22 .add 3 18 21,Zc 7 22])
 (.seq
 (.reg [Zd 23 52 11 3,Zb 24 50 23,Zo 25 38 #[Zr 24,(.func 39)] #[50,89],Zq 26 (.unOp .not 4 (Zr 25))])
 (.cond (Zr 26)
 (.seq
 (.reg [Zd 27 52 11 3,Zb 28 50 27,Ze 29 28 50,Zm 30 .eql 3 29 1])
 (.cond (Zr 30)
 (.reg [Za 31 8,Zm 32 .add 3 31 1,Zc 8 32])
 (.reg [Za 33 9,Zm 34 .add 3 33 1,Zc 9 34]))) .skip)))))
 (.reg [Zm 35 .add 3 14 1,Za 14 35]))))
def c8_1:ACode:=(.seq
 (.seq
 (.reg [Za 36 0,Ze 37 36 22,Zm 38 .leq 3 37 8,Za 39 38,Zp 40 (.move (Zr 8)) 39 true,Zp 41 (.binOp .gtr 3 (Zr 40) (.const (.int .i64 2)) 3) 39 true,Zp 42 (.move (Zr 41)) 39 true,Zp 43 (.move (Zr 9)) 42 false,Zp 44 (.binOp .gtr 3 (Zr 43) (.const (.int .i64 2)) 3) 42 false,Zp 45 (.pick (Zr 42) (.const (.bool true)) (Zr 44)) 39 true,Zq 46 (.pick (Zr 39) (Zr 45) (.const (.bool false)))])
 (.cond (Zr 46)
 (.seq
 (.reg [Zq 6 (.assign (.const (.bool false)))]) .ret) .skip))
 (.seq
 (.reg [Za 47 0,Ze 48 47 22,Zm 49 .leq 3 48 8,Za 50 49,Zp 51 (.move (Zr 7)) 50 true,Zp 52 (.binOp .leq 3 (Zr 51) (.const (.int .i64 24)) 3) 50 true,Zq 53 (.pick (Zr 50) (Zr 52) (.const (.bool false))),Za 54 53,Zp 55 (.move (Zr 0)) 54 false,Zp 56 (.call { callee:=(.builtin .len),args:=#[Zr 55],argTypes:=#[22] }) 54 false,Zp 57 (.binOp .gtr 3 (Zr 56) (.const (.int .i64 500)) 3) 54 false,Zq 58 (.pick (Zr 54) (.const (.bool true)) (Zr 57)),Za 59 58,Zp 60 (.move (Zr 0)) 59 true,Zp 61 (.call { callee:=(.builtin .len),args:=#[Zr 60],argTypes:=#[22] }) 59 true,Zp 62 (.binOp .leq 3 (Zr 61) (.const (.int .i64 510)) 3) 59 true,Zq 63 (.pick (Zr 59) (Zr 62) (.const (.bool false))),Za 64 63,Zp 65 (.move (Zr 7)) 64 true,Zp 66 (.binOp .leq 3 (Zr 65) (.const (.int .i64 600)) 3) 64 true,Zq 67 (.pick (Zr 64) (Zr 66) (.const (.bool false))),Za 68 67,Zp 69 (.move (Zr 1)) 68 true,Zp 70 (.call { callee:=(.builtin .len),args:=#[Zr 69],argTypes:=#[23] }) 68 true,Zp 71 (.move (Zr 2)) 68 true,Zp 72 (.binOp .leq 3 (Zr 70) (Zr 71) 3) 68 true,Zp 73 (.move (Zr 72)) 68 true,Zp 74 (.move (Zr 1)) 73 false,Zp 75 (.call { callee:=(.builtin .len),args:=#[Zr 74],argTypes:=#[23] }) 73 false,Zp 76 (.binOp .gtr 3 (Zr 75) (.const (.int .i64 200)) 3) 73 false,Zp 77 (.move (Zr 76)) 73 false,Zp 78 (.move (Zr 1)) 77 true,Zp 79 (.call { callee:=(.builtin .len),args:=#[Zr 78],argTypes:=#[23] }) 77 true,Zp 80 (.binOp .leq 3 (Zr 79) (.const (.int .i64 210)) 3) 77 true,Zp 81 (.pick (Zr 77) (Zr 80) (.const (.bool false))) 73 false,Zp 82 (.pick (Zr 73) (.const (.bool true)) (Zr 81)) 68 true,Zq 83 (.pick (Zr 68) (Zr 82) (.const (.bool false))),Zc 6 83]) .ret))
def c8:ACode:=(.seq
 (.reg [Zq 6 (.assign (.const (.bool false)))])
 (.seq
 (.reg [Zf 7 0,Zf 8 0,Zf 9 0])
 (.seqL
 (.seq
 (.reg [Za 12 0,Ze 13 12 22,Zq 14 (.move (.const (.int .i64 0)))])
 (.block 0 (.loop b8_1))) c8_1)))
theorem fd8:FnD Try.prog 8 84 [(.tmp 6)] c8:=⟨⟨Try.f8,Try.f8.body.getD .skip,Try.func8,by kernel_rfl,by kernel_rfl,by kernel_rfl,by kernel_rfl⟩⟩
def c9:ACode:=(.seq
 (.reg [Zq 0 (.assign (.const (.bool false)))])
 (.seq
 (.reg [Zq 1 (.assign (.func 40))])
 (.seq
 (.reg [Za 7 1,Zq 8 (.call { callee:=(.value (Zr 7)),args:=#[(.const (.string { data:=#[49] }))],argTypes:=#[9] }),Zq 9 (.build 66 #[(1,(.const (.string { data:=#[43] })))]),Za 10 1,Zq 11 (.call { callee:=(.value (Zr 10)),args:=#[(.const (.string { data:=#[50] }))],argTypes:=#[9] }),Zq 12 (.build 66 #[(1,(.const (.string { data:=#[43] })))]),Za 13 1,Zq 14 (.call { callee:=(.value (Zr 13)),args:=#[(.const (.string { data:=#[51] }))],argTypes:=#[9] }),Zq 15 (.buildSlice 32 5 #[(0,(Zr 8)),(1,(Zr 9)),(2,(Zr 11)),(3,(Zr 12)),(4,(Zr 14))]),Zc 2 15])
 (.seq
 (.reg [Zo 17 41 #[(.const (.int .i64 61))] #[3],Za 18 2,Zq 19 (.call { callee:=(.value (.func 10)),args:=#[Zr 17,(.const (.string { data:=#[69] })),(.const (.int .i64 0)),Zr 18,(.const (.int .i64 10))],argTypes:=#[30,9,3,32,3] }),Za 16 19,Zh 20 16 0,Zh 21 16 1,Zc 3 20,Zc 4 21])
 (.seq
 (.reg [Zo 23 41 #[(.const (.int .i64 60))] #[3],Za 24 2,Zq 25 (.call { callee:=(.value (.func 10)),args:=#[Zr 23,(.const (.string { data:=#[69] })),(.const (.int .i64 0)),Zr 24,(.const (.int .i64 10))],argTypes:=#[30,9,3,32,3] }),Za 22 25,Zh 26 22 0,Zh 27 22 1,Zc 5 26,Zc 6 27])
 (.seq
 (.reg [Za 28 4,Zm 29 .eql 27 28 0,Za 30 29,Zp 31 (.move (Zr 6)) 30 true,Zp 32 (.binOp .eql 27 (Zr 31) (.const (.int .i64 0)) 27) 30 true,Zq 33 (.pick (Zr 30) (Zr 32) (.const (.bool false))),Za 34 33,Zp 35 (.move (Zr 3)) 34 true,Zp 36 (.call { callee:=(.builtin .len),args:=#[Zr 35],argTypes:=#[26] }) 34 true,Zp 37 (.binOp .eql 3 (Zr 36) (.const (.int .i64 1)) 3) 34 true,Zq 38 (.pick (Zr 34) (Zr 37) (.const (.bool false))),Za 39 38,Zp 40 (.move (Zr 5)) 39 true,Zp 41 (.call { callee:=(.builtin .len),args:=#[Zr 40],argTypes:=#[26] }) 39 true,Zp 42 (.binOp .eql 3 (Zr 41) (.const (.int .i64 2)) 3) 39 true,Zq 43 (.pick (Zr 39) (Zr 42) (.const (.bool false))),Za 44 43,Zp 45 (.move (Zr 5)) 44 true,Zp 46 (.indexAddr 26 (Zr 45) (.const (.int .i64 0))) 44 true,Zp 47 (.fieldAddr 44 (Zr 46) 2) 44 true,Zp 48 (.load 26 (Zr 47)) 44 true,Zp 49 (.call { callee:=(.builtin .len),args:=#[Zr 48],argTypes:=#[26] }) 44 true,Zp 50 (.binOp .eql 3 (Zr 49) (.const (.int .i64 2)) 3) 44 true,Zq 51 (.pick (Zr 44) (Zr 50) (.const (.bool false))),Za 52 51,Zp 53 (.move (Zr 5)) 52 true,Zp 54 (.indexAddr 26 (Zr 53) (.const (.int .i64 0))) 52 true,Zp 55 (.fieldAddr 44 (Zr 54) 2) 52 true,Zp 56 (.load 26 (Zr 55)) 52 true,Zp 57 (.indexAddr 26 (Zr 56) (.const (.int .i64 0))) 52 true,Zp 58 (.fieldAddr 44 (Zr 57) 2) 52 true,Zp 59 (.load 26 (Zr 58)) 52 true,Zp 60 (.call { callee:=(.builtin .len),args:=#[Zr 59],argTypes:=#[26] }) 52 true,Zp 61 (.binOp .eql 3 (Zr 60) (.const (.int .i64 1)) 3) 52 true,Zq 62 (.pick (Zr 52) (Zr 61) (.const (.bool false))),Za 63 62,Zp 64 (.move (Zr 3)) 63 true,Zp 65 (.indexAddr 26 (Zr 64) (.const (.int .i64 0))) 63 true,Zp 66 (.fieldAddr 44 (Zr 65) 2) 63 true,Zp 67 (.load 26 (Zr 66)) 63 true,Zp 68 (.call { callee:=(.builtin .len),args:=#[Zr 67],argTypes:=#[26] }) 63 true,Zp 69 (.binOp .eql 3 (Zr 68) (.const (.int .i64 2)) 3) 63 true,Zq 70 (.pick (Zr 63) (Zr 69) (.const (.bool false))),Za 71 70,Zp 72 (.move (Zr 3)) 71 true,Zp 73 (.indexAddr 26 (Zr 72) (.const (.int .i64 0))) 71 true,Zp 74 (.fieldAddr 44 (Zr 73) 2) 71 true,Zp 75 (.load 26 (Zr 74)) 71 true,Zp 76 (.indexAddr 26 (Zr 75) (.const (.int .i64 1))) 71 true,Zp 77 (.fieldAddr 44 (Zr 76) 2) 71 true,Zp 78 (.load 26 (Zr 77)) 71 true,Zp 79 (.call { callee:=(.builtin .len),args:=#[Zr 78],argTypes:=#[26] }) 71 true,Zp 80 (.binOp .eql 3 (Zr 79) (.const (.int .i64 1)) 3) 71 true,Zq 81 (.pick (Zr 71) (Zr 80) (.const (.bool false))),Zc 0 81]) .ret))))))
theorem fd9:FnD Try.prog 9 82 [(.tmp 0)] c9:=⟨⟨Try.f9,Try.f9.body.getD .skip,Try.func9,by kernel_rfl,by kernel_rfl,by kernel_rfl,by kernel_rfl⟩⟩
def ZjB:ACode:=(.seq
 (.seq
 (.reg [Zb 52 26 14,Ze 53 52 26,Zm 54 .eql 3 53 0])
 (.cond (Zr 54)
 (.seq
 (.reg [Zq 10 (.assign (.const (.slice none 0 0))),Zf 11 171]) .ret) .skip))
 (.seq
 (.reg [Zb 55 26 14,Zc 10 55,Zf 11 0]) .ret))
def c10:ACode:=(.seq
 (.reg [Zj 9 3 4,Zq 10 (.assign (.const (.slice none 0 0))),Zf 11 0])
 (.seq
 (.seq
 (.reg [Za 16 0,Za 17 2,Za 18 3,Zo 19 42 #[Zr 16,Zr 17,Zr 18] #[30,3,32],Zc 12 19])
 (.seq
 (.reg [Za 20 12,Zm 21 .neq 27 20 0])
 (.cond (Zr 21)
 (.seq
 (.reg [Za 22 12,Zq 10 (.assign (.const (.slice none 0 0))),Zc 11 22]) .ret) .skip)))
 (.seq
 (.seq
 (.reg [Zb 23 3 9,Zm 24 .lss 3 23 1,Za 25 24,Zp 26 (.load 3 (Zr 9)) 25 false,Zp 27 (.binOp .gtr 3 (Zr 26) (.const (.int .i64 1000)) 3) 25 false,Zq 28 (.pick (Zr 25) (.const (.bool true)) (Zr 27))])
 (.cond (Zr 28)
 (.seq
 (.reg [Zq 10 (.assign (.const (.slice none 0 0))),Zf 11 4]) .ret) .skip))
 (.seq
 (.reg [Za 29 0,Za 30 1,Za 31 2,Za 32 3,Zo 33 43 #[Zr 29,Zr 30,Zr 31,Zr 32] #[30,9,3,32],Zc 13 33])
 (.seq
 (.reg [Zi 14 26])
 (.seqL
 (.seq
 (.reg [Za 34 13,Za 35 1,Za 36 2,Za 37 3,Ze 38 37 32,Zq 39 (.build 99 #[(0,(.const (.int .i64 0))),(1,(Zr 38))]),Zo 40 44 #[Zr 34,Zr 35,Zr 36,Zr 39,(.const (.slice none 0 0))] #[93,9,3,99,108]])
 (.block 0 (.rfunc (Zr 40) #[41]
 (.reg [Zi 15 44,Zg 44 15 41])
 (.block 1
 (.seq
 (.dreg
 (.tk 0 (Zb 42 26 14)
 (.tk 1 (Zb 43 44 15)
 (.tk 2 (Ze 44 42 26)
 (.tk 3 (Zq 45 (.buildSlice 26 1 #[(0,(.const (.agg #[(.int .i64 0),(.int .i64 0),(.slice none 0 0)])))]))
 (.one [4,5,6,7] (Zl 46 42 45 26)
 (.tk 5 (Zk 47 26 46 44)
 (.two [6,7] (Zg 44 47 43)
 (.one [5,6,7] (Zg 26 14 46) .fin) [5,6,7] (Zg 26 14 46)
 (.one [6,7] (Zg 44 47 43) .fin)))))))) [])
 (.seq
 (.reg [Zb 48 26 14,Ze 49 48 26,Zb 50 3 9,Zn 51 .eql 3 49 50])
 (.cond (Zr 51) (.exit 0) .skip))))))) ZjB))))))
theorem fd10:FnD Try.prog 10 56 [(.tmp 10),(.tmp 11)] c10:=⟨⟨Try.f10,Try.f10.body.getD .skip,Try.func10,by kernel_rfl,by kernel_rfl,by kernel_rfl,by kernel_rfl⟩⟩
def b11_1:ACode:=(.seq
 (.reg [Zn 26 .lss 3 25 24])
 (.seq
 (.cond (Zr 26) .skip (.exit 2))
 (.seq
 (.block 3
 (.seq
 (.reg [Zk 27 50 23 25,Zb 28 88 27,Zi 8 88,Zg 88 8 28])
 (.reg [Zd 29 62 6 3,Zb 30 60 29,Zb 31 88 8,Zq 32 (.buildSlice 60 1 #[(0,(Zr 31))]),Zl 33 30 32 60,Zd 34 62 6 3,Zg 60 34 33])))
 (.reg [Zm 35 .add 3 25 1,Za 25 35]))))
def c11_1:ACode:=(.reg [Za 36 3,Zb 37 62 6,Zq 38 (.buildSlice 30 1 #[(0,(Zr 37))]),Zl 39 36 38 30,Zc 3 39])
def c11_2:ACode:=(.reg [Zm 40 .add 3 11 1,Za 11 40])
def b11_2:ACode:=(.seq
 (.reg [Zn 12 .lss 3 11 10])
 (.seq
 (.cond (Zr 12) .skip (.exit 0))
 (.seqL
 (.block 1
 (.seq
 (.reg [Zk 13 22 9 11,Zb 14 52 13,Zi 5 52,Zg 52 5 14])
 (.seq
 (.reg [Zd 15 52 5 0,Zb 16 9 15,Zd 17 52 5 1,Zb 18 3 17,Zd 19 52 5 2,Zb 20 9 19,Zq 21 (.build 62 #[(0,(Zr 16)),(1,(Zr 18)),(2,(Zr 20))]),Zi 6 62,Zg 62 6 21])
 (.seqL
 (.seq
 (.reg [Zd 22 52 5 3,Zb 23 50 22,Ze 24 23 50,Zq 25 (.move (.const (.int .i64 0)))])
 (.block 2 (.loop b11_1))) c11_1)))) c11_2)))
def c11_3:ACode:=(.seq
 (.reg [Za 41 3,Zc 2 41]) .ret)
def c11:ACode:=(.seq
 (.reg [Zq 2 (.assign (.const (.slice none 0 0)))])
 (.seq
 (.reg [Zq 3 (.assign (.const (.slice none 0 0)))])
 (.seqL
 (.seq
 (.reg [Za 9 0,Ze 10 9 22,Zq 11 (.move (.const (.int .i64 0)))])
 (.block 0 (.loop b11_2))) c11_3)))
theorem fd11:FnD Try.prog 11 42 [(.tmp 2)] c11:=⟨⟨Try.f11,Try.f11.body.getD .skip,Try.func11,by kernel_rfl,by kernel_rfl,by kernel_rfl,by kernel_rfl⟩⟩
def b12_1:ACode:=(.seq
 (.reg [Zn 9 .lss 3 8 7])
 (.seq
 (.cond (Zr 9) .skip (.exit 0))
 (.seq
 (.block 1
 (.seq
 (.reg [Zk 10 23 6 8,Zb 11 100 10,Zi 5 100,Zg 100 5 11])
 (.reg [Za 12 3,Zb 13 100 5,Zq 14 (.buildSlice 32 1 #[(0,(Zr 13))]),Zl 15 12 14 32,Zc 3 15])))
 (.reg [Zm 16 .add 3 8 1,Za 8 16]))))
def c12_1:ACode:=(.seq
 (.reg [Za 17 3,Zc 2 17]) .ret)
def c12:ACode:=(.seq
 (.reg [Zq 2 (.assign (.const (.slice none 0 0)))])
 (.seq
 (.reg [Zq 3 (.assign (.const (.slice none 0 0)))])
 (.seqL
 (.seq
 (.reg [Za 6 0,Ze 7 6 23,Zq 8 (.move (.const (.int .i64 0)))])
 (.block 0 (.loop b12_1))) c12_1)))
theorem fd12:FnD Try.prog 12 18 [(.tmp 2)] c12:=⟨⟨Try.f12,Try.f12.body.getD .skip,Try.func12,by kernel_rfl,by kernel_rfl,by kernel_rfl,by kernel_rfl⟩⟩
def c16:ACode:=(.seq
 (.reg [Zf 2 0])
 (.seq
 (.seq
 (.reg [Za 3 0,Ze 4 3 30,Zm 5 .gtr 3 4 500,Za 6 5,Zp 7 (.move (Zr 0)) 6 false,Zp 8 (.call { callee:=(.value (.func 52)),args:=#[Zr 7,(.func 53)],argTypes:=#[30,113] }) 6 false,Zq 9 (.pick (Zr 6) (.const (.bool true)) (Zr 8))])
 (.cond (Zr 9)
 (.seq
 (.reg [Zf 2 170]) .ret) .skip))
 (.seq
 (.reg [Zf 2 0]) .ret)))
theorem fd16:FnD Try.prog 16 10 [(.tmp 2)] c16:=⟨⟨Try.f16,Try.f16.body.getD .skip,Try.func16,by kernel_rfl,by kernel_rfl,by kernel_rfl,by kernel_rfl⟩⟩
def b20_1:ACode:=(.seq
 (.reg [Zn 12 .lss 3 11 10])
 (.seq
 (.cond (Zr 12) .skip (.exit 0))
 (.seq
 (.block 1
 (.seq
 (.reg [Zk 13 115 9 11,Zb 14 22 13,Zc 5 14])
 (.seq
 (.reg [Za 15 3,Za 16 5,Ze 17 16 22,Zn 18 .add 3 15 17,Zc 3 18])
 (.seq
 (.reg [Za 19 3,Zm 20 .lss 3 19 0])
 (.cond (Zr 20)
 (.reg [Zq 21 (.makeInterface 9 (.const (.string { data:=#[108,101,110,32,111,117,116,32,111,102,32,114,97,110,103,101] }))),⟨none,(.panic (Zr 21)),none⟩]) .skip)))))
 (.reg [Zm 22 .add 3 11 1,Za 11 22]))))
def b20_2:ACode:=(.seq
 (.reg [Zn 28 .lss 3 27 26])
 (.seq
 (.cond (Zr 28) .skip (.exit 2))
 (.seq
 (.block 3
 (.seq
 (.reg [Zk 29 115 25 27,Zb 30 22 29,Zc 8 30])
 (.reg [Za 31 6,Za 32 8,Zl 33 31 32 22,Zc 6 33])))
 (.reg [Zm 34 .add 3 27 1,Za 27 34]))))
def c20_1:ACode:=(.seq
 (.reg [Za 35 6,Zc 2 35]) .ret)
def c20_2:ACode:=(.seq
 (.reg [Za 23 3,Zo 24 57 #[(.const (.slice none 0 0)),Zr 23] #[22,3],Zc 6 24])
 (.seqL
 (.seq
 (.reg [Za 25 0,Ze 26 25 115,Zq 27 (.move (.const (.int .i64 0)))])
 (.block 2 (.loop b20_2))) c20_1))
def c20:ACode:=(.seq
 (.reg [Zq 2 (.assign (.const (.slice none 0 0)))])
 (.seq
 (.reg [Zf 3 0])
 (.seqL
 (.seq
 (.reg [Za 9 0,Ze 10 9 115,Zq 11 (.move (.const (.int .i64 0)))])
 (.block 0 (.loop b20_1))) c20_2)))
theorem fd20:FnD Try.prog 20 36 [(.tmp 2)] c20:=⟨⟨Try.f20,Try.f20.body.getD .skip,Try.func20,by kernel_rfl,by kernel_rfl,by kernel_rfl,by kernel_rfl⟩⟩
def b21_1:ACode:=(.seq
 (.reg [Zn 10 .lss 3 9 8])
 (.seq
 (.cond (Zr 10) .skip (.exit 0))
 (.seq
 (.block 1
 (.seq
 (.reg [Zk 11 26 7 9,Zb 12 44 11,Zi 6 44,Zg 44 6 12])
 (.seq
 (.dreg
 (.tk 0 (Za 13 0)
 (.tk 1 (Ze 14 13 26)
 (.tk 2 (Zm 15 .gtr 3 14 0)
 (.tk 3 (Za 16 15)
 (.tk 4 (Zp 17 (.move (Zr 0)) 16 true)
 (.tk 5 (Zp 18 (.indexAddr 26 (Zr 17) (.const (.int .i64 0))) 16 true)
 (.tk 6 (Zp 19 (.load 44 (Zr 18)) 16 true)
 (.tk 7 (Zp 20 (.load 44 (Zr 6)) 16 true) .fin)))))))) [Zp 21 (.call { callee:=(.value (.func 30)),args:=#[Zr 19,Zr 20],argTypes:=#[44,44] }) 16 true,Zq 22 (.pick (Zr 16) (Zr 21) (.const (.bool false)))])
 (.cond (Zr 22)
 (.reg [Za 23 0,Zq 24 (.slice 26 (Zr 23) (some (.const (.int .i64 1))) none none),Zc 0 24]) .skip))))
 (.reg [Zm 25 .add 3 9 1,Za 9 25]))))
def c21_1:ACode:=(.seq
 (.reg [Za 26 0,Ze 27 26 26,Zm 28 .eql 3 27 0,Zc 4 28]) .ret)
def c21:ACode:=(.seq
 (.reg [Zq 4 (.assign (.const (.bool false)))])
 (.seqL
 (.seq
 (.reg [Za 7 1,Ze 8 7 26,Zq 9 (.move (.const (.int .i64 0)))])
 (.block 0 (.loop b21_1))) c21_1))
theorem fd21:FnD Try.prog 21 29 [(.tmp 4)] c21:=⟨⟨Try.f21,Try.f21.body.getD .skip,Try.func21,by kernel_rfl,by kernel_rfl,by kernel_rfl,by kernel_rfl⟩⟩
def c30:ACode:=(.seq
 (.reg [Zj 2 44 0,Zj 3 44 1,Zq 4 (.assign (.const (.bool false)))])
 (.seq
 (.reg [Zd 5 44 2 0,Zb 6 3 5,Zd 7 44 3 0,Zb 8 3 7,Zn 9 .eql 3 6 8,Za 10 9,Zp 11 (.fieldAddr 44 (Zr 2) 1) 10 true,Zp 12 (.load 3 (Zr 11)) 10 true,Zp 13 (.fieldAddr 44 (Zr 3) 1) 10 true,Zp 14 (.load 3 (Zr 13)) 10 true,Zp 15 (.binOp .eql 3 (Zr 12) (Zr 14) 3) 10 true,Zq 16 (.pick (Zr 10) (Zr 15) (.const (.bool false))),Za 17 16,Zp 18 (.fieldAddr 44 (Zr 2) 2) 17 true,Zp 19 (.load 26 (Zr 18)) 17 true,Zp 20 (.fieldAddr 44 (Zr 3) 2) 17 true,Zp 21 (.load 26 (Zr 20)) 17 true,Zp 22 (.call { callee:=(.value (.func 65)),args:=#[Zr 19,Zr 21,(.func 30)],argTypes:=#[26,26,74] }) 17 true,Zq 23 (.pick (Zr 17) (Zr 22) (.const (.bool false))),Zc 4 23]) .ret))
theorem fd30:FnD Try.prog 30 24 [(.tmp 4)] c30:=⟨⟨Try.f30,Try.f30.body.getD .skip,Try.func30,by kernel_rfl,by kernel_rfl,by kernel_rfl,by kernel_rfl⟩⟩
def c38:ACode:=(.seq
 (.reg [Zq 4 (.assign (.const (.bool false)))])
 (.seq
 (.reg [Za 5 0,Za 6 1,Zo 7 74 #[Zr 5,Zr 6] #[50,89],Zm 8 .geq 3 7 0,Zc 4 8]) .ret))
theorem fd38:FnD Try.prog 38 9 [(.tmp 4)] c38:=⟨⟨Try.f38,Try.f38.body.getD .skip,Try.func38,by kernel_rfl,by kernel_rfl,by kernel_rfl,by kernel_rfl⟩⟩
def c39:ACode:=(.seq
 (.reg [Zj 1 88 0,Zq 2 (.assign (.const (.bool false)))])
 (.seq
 (.reg [Zd 3 88 1 0,Zb 4 3 3,Zm 5 .neq 3 4 3,Zc 2 5]) .ret))
theorem fd39:FnD Try.prog 39 6 [(.tmp 2)] c39:=⟨⟨Try.f39,Try.f39.body.getD .skip,Try.func39,by kernel_rfl,by kernel_rfl,by kernel_rfl,by kernel_rfl⟩⟩
def c40:ACode:=(.seq
 (.reg [Zi 2 66])
 (.seq
 (.reg [Za 3 0,Zq 4 (.build 66 #[(0,(.const (.string { data:=#[78,85,77] }))),(1,(Zr 3))]),Zg 66 2 4]) .ret))
theorem fd40:FnD Try.prog 40 5 [(.cell 2 66)] c40:=⟨⟨Try.f40,Try.f40.body.getD .skip,Try.func40,by kernel_rfl,by kernel_rfl,by kernel_rfl,by kernel_rfl⟩⟩
def c41:ACode:=(.seq
 (.reg [Zq 2 (.assign (.const (.slice none 0 0)))])
 (.seq
 (.reg [Zq 3 (.build 64 #[(0,(.const (.int .i64 3))),(1,(.const (.string { data:=#[69] }))),(2,(.const (.int .i64 60)))]),Zq 4 (.build 64 #[(0,(.const (.int .i64 1))),(1,(.const (.string { data:=#[43] })))]),Za 5 0,Zq 6 (.build 64 #[(0,(.const (.int .i64 3))),(1,(.const (.string { data:=#[69] }))),(2,(Zr 5))]),Zq 7 (.buildSlice 60 3 #[(0,(Zr 3)),(1,(Zr 4)),(2,(Zr 6))]),Zq 8 (.build 62 #[(0,(.const (.string { data:=#[69] }))),(1,(.const (.int .i64 60))),(2,(.const (.string { data:=#[112,108,117,115] }))),(3,(Zr 7))]),Zq 9 (.build 64 #[(0,(.const (.int .i64 2))),(1,(.const (.string { data:=#[78,85,77] })))]),Zq 10 (.buildSlice 60 1 #[(0,(Zr 9))]),Zq 11 (.build 62 #[(0,(.const (.string { data:=#[69] }))),(1,(.const (.int .i64 1000))),(3,(Zr 10))]),Zq 12 (.buildSlice 30 2 #[(0,(Zr 8)),(1,(Zr 11))]),Zc 2 12]) .ret))
theorem fd41:FnD Try.prog 41 13 [(.tmp 2)] c41:=⟨⟨Try.f41,Try.f41.body.getD .skip,Try.func41,by kernel_rfl,by kernel_rfl,by kernel_rfl,by kernel_rfl⟩⟩
def c42:ACode:=(.seq
 (.reg [Zf 6 0])
 (.seq
 (.block 0
 (.seq
 (.reg [Za 8 0,Zo 9 16 #[Zr 8] #[30],Zm 10 .neq 27 9 0,Zc 7 10])
 (.cond (Zr 7)
 (.seq
 (.reg [Zf 6 170]) .ret)
 (.seq
 (.reg [Za 12 1,Zo 13 75 #[Zr 12] #[3],Zq 14 (.unOp .not 4 (Zr 13)),Zc 11 14])
 (.cond (Zr 11)
 (.seq
 (.reg [Zf 6 4]) .ret)
 (.seq
 (.reg [Za 16 2,Ze 17 16 32,Zm 18 .gtr 3 17 200,Zc 15 18])
 (.cond (Zr 15)
 (.seq
 (.reg [Zf 6 5]) .ret) .skip)))))))
 (.seq
 (.reg [Zf 6 0]) .ret)))
theorem fd42:FnD Try.prog 42 19 [(.tmp 6)] c42:=⟨⟨Try.f42,Try.f42.body.getD .skip,Try.func42,by kernel_rfl,by kernel_rfl,by kernel_rfl,by kernel_rfl⟩⟩
def b43_1:ACode:=(.seq
 (.reg [Zn 34 .lss 3 33 32])
 (.seq
 (.cond (Zr 34) .skip (.exit 0))
 (.seq
 (.block 1
 (.seq
 (.reg [Zk 35 108 31 33,Zb 36 3 35,Zc 12 36])
 (.dreg
 (.tk 0 (Zb 37 148 10)
 (.tk 1 (Zb 38 30 4)
 (.tk 2 (Za 39 12)
 (.tk 3 (Zk 40 30 38 39)
 (.tk 4 (Zd 41 62 40 0)
 (.tk 5 (Zb 42 9 41)
 (.tk 6 (Zb 43 148 10)
 (.tk 7 (Zb 44 30 4)
 (.tk 8 (Za 45 12)
 (.tk 9 (Zk 46 30 44 45)
 (.tk 10 (Zd 47 62 46 0)
 (.tk 11 (Zb 48 9 47)
 (.tk 13 (Za 50 12)
 (.tk 14 (Zq 51 (.buildSlice 108 1 #[(0,(Zr 50))]))
 (.one [0,1,2,3,4,5,12,13,14,15,16] (Zq 49 (.lookup 148 (Zr 43) (Zr 48) false))
 (.one [0,1,2,3,4,5,15,16] (Zl 52 49 51 108) .fin)))))))))))))))) [⟨none,(.mapUpdate 148 (Zr 37) (Zr 42) (Zr 52)),none⟩])))
 (.reg [Zm 53 .add 3 33 1,Za 33 53]))))
def Zs:GPlan:=.one [9,11,14,15,16,17] (Zg 119 82 79) .fin
def b43_2:ACode:=(.seq
 (.reg [Zn 67 .lss 3 66 65])
 (.seq
 (.cond (Zr 67) .skip (.exit 2))
 (.seq
 (.block 3
 (.seq
 (.reg [Za 68 66,Zc 13 68])
 (.dreg
 (.tk 0 (Zb 69 93 9)
 (.tk 1 (Zq 70 (.nilCheck (Zr 69)))
 (.tk 2 (Zd 71 127 70 2)
 (.tk 3 (Zb 72 123 71)
 (.tk 4 (Za 73 13)
 (.tk 5 (Zb 74 93 9)
 (.tk 6 (Zq 75 (.nilCheck (Zr 74)))
 (.tk 7 (Zd 76 127 75 2)
 (.tk 8 (Zb 77 123 76)
 (.tk 9 (Za 78 13)
 (.two [0,1,2,3,4,5,6,7,8,9,10,11,12,13,14,15,16,17] (Zq 79 (.makeMap 119 none))
 (.tk 12 (Zk 81 123 72 73)
 (.tk 13 (Zd 82 122 81 1)
 (.two [0,1,2,3,4,5,6,7,8,9,10,11,12,13,14,15,16,17] (Zq 80 (.makeMap 120 none)) Zs [9,11,14,15,16,17] (Zg 119 82 79)
 (.one [0,1,2,3,4,5,6,7,8,9,10,11,12,13,14,15,16,17] (Zq 80 (.makeMap 120 none)) .fin)))) [0,1,2,3,4,5,6,7,8,9,10,11,12,13,14,15,16,17] (Zq 80 (.makeMap 120 none))
 (.one [0,1,2,3,4,5,6,7,8,9,10,11,12,13,14,15,16,17] (Zq 79 (.makeMap 119 none))
 (.tk 12 (Zk 81 123 72 73)
 (.tk 13 (Zd 82 122 81 1) Zs)))))))))))))) [Zk 83 123 77 78,Zd 84 122 83 2,Zg 120 84 80])))
 (.reg [Zm 85 .add 3 66 1,Za 66 85]))))
def b43_3:ACode:=(.seq
 (.seq
 (.reg [Za 111 17,Za 112 16,Zq 113 (.nilCheck (Zr 112)),Zd 114 122 113 0,Zb 115 118 114,Ze 116 115 118,Zn 117 .lss 3 111 116])
 (.cond (Zr 117) .skip (.exit 6)))
 (.seq
 (.block 7
 (.seq
 (.reg [Za 120 16,Zq 121 (.nilCheck (Zr 120)),Zd 122 122 121 0,Zb 123 118 122,Za 124 17,Zk 125 118 123 124,Zb 126 129 125,Zi 18 129,Zg 129 18 126])
 (.seq
 (.reg [Zb 128 93 9,Zb 129 129 18,Zo 130 59 #[Zr 128,Zr 129] #[93,129],Za 127 130,Zh 131 127 0,Zh 132 127 1,Zi 19 64,Zg 64 19 131,Zc 20 132])
 (.block 8
 (.seq
 (.reg [Za 134 20,Zq 135 (.unOp .not 4 (Zr 134)),Zc 133 135])
 (.cond (Zr 133)
 (.reg [Zb 136 93 9,Zb 137 129 18,Za 138 15,Zo 139 79 #[Zr 136,Zr 137,Zr 138] #[93,129,3]])
 (.seq
 (.reg [Zd 141 64 19 0,Zb 142 3 141,Zm 143 .eql 3 142 3,Zc 140 143])
 (.cond (Zr 140)
 (.seq
 (.dreg
 (.tk 0 (Za 144 16)
 (.tk 1 (Zq 145 (.nilCheck (Zr 144)))
 (.tk 2 (Zd 146 122 145 2)
 (.tk 3 (Zb 147 120 146)
 (.tk 4 (Zd 148 64 19 1)
 (.tk 5 (Zb 149 9 148)
 (.tk 6 (Za 150 16)
 (.tk 7 (Zq 151 (.nilCheck (Zr 150)))
 (.tk 8 (Zd 152 122 151 2)
 (.tk 9 (Zb 153 120 152)
 (.tk 10 (Zd 154 64 19 1)
 (.tk 11 (Zb 155 9 154)
 (.tk 13 (Zb 157 129 18)
 (.tk 14 (Zq 158 (.buildSlice 118 1 #[(0,(Zr 157))]))
 (.one [0,1,2,3,4,5,12,13,14,15,16] (Zq 156 (.lookup 120 (Zr 153) (Zr 155) false))
 (.one [0,1,2,3,4,5,15,16] (Zl 159 156 158 118) .fin)))))))))))))))) [⟨none,(.mapUpdate 120 (Zr 147) (Zr 149) (Zr 159)),none⟩])
 (.reg [Za 160 14,Za 161 15,Zd 162 64 19 1,Zb 163 9 162,Zd 164 64 19 2,Zb 165 3 164,Zq 166 (.call { callee:=(.value (Zr 160)),args:=#[Zr 161,Zr 163,Zr 165],argTypes:=#[3,9,3] })]))
 (.seq
 (.dreg
 (.tk 0 (Za 168 15)
 (.tk 1 (Za 169 3)
 (.tk 2 (Ze 170 169 32)
 (.tk 3 (Zn 171 .lss 3 168 170)
 (.tk 4 (Za 172 171)
 (.tk 5 (Zp 173 (.load 64 (Zr 19)) 172 true)
 (.tk 6 (Zp 174 (.move (Zr 3)) 172 true)
 (.tk 7 (Zp 175 (.move (Zr 15)) 172 true)
 (.tk 8 (Zp 176 (.indexAddr 32 (Zr 174) (Zr 175)) 172 true)
 (.tk 9 (Zp 177 (.load 66 (Zr 176)) 172 true) .fin)))))))))) [Zp 178 (.call { callee:=(.value (.func 80)),args:=#[Zr 173,Zr 177],argTypes:=#[64,66] }) 172 true,Zq 179 (.pick (Zr 172) (Zr 178) (.const (.bool false))),Zc 167 179])
 (.cond (Zr 167)
 (.reg [Zb 180 93 9,Za 181 15,Zm 182 .add 3 181 1,Zd 183 129 18 0,Zb 184 3 183,Zd 185 129 18 1,Zb 186 3 185,Zm 187 .add 3 186 1,Zd 188 129 18 2,Zb 189 3 188,Zq 190 (.build 129 #[(0,(Zr 184)),(1,(Zr 187)),(2,(Zr 189))]),Zo 191 78 #[Zr 180,Zr 182,Zr 190] #[93,3,129]]) .skip))))))))))
 (.reg [Za 118 17,Zm 119 .add 3 118 1,Zc 17 119])))
def c43_1:ACode:=(.reg [Zm 192 .add 3 96 1,Za 96 192])
def b43_4:ACode:=(.seq
 (.reg [Zn 97 .lss 3 96 95])
 (.seq
 (.cond (Zr 97) .skip (.exit 4))
 (.seqL
 (.block 5
 (.seq
 (.reg [Za 98 96,Zc 15 98])
 (.seq
 (.reg [Zb 99 93 9,Zq 100 (.nilCheck (Zr 99)),Zd 101 127 100 2,Zb 102 123 101,Za 103 15,Zk 104 123 102 103,Zc 16 104])
 (.seq
 (.seq
 (.reg [Za 105 16,Zq 106 (.nilCheck (Zr 105)),Zd 107 122 106 0,Zb 108 118 107,Ze 109 108 118,Zm 110 .eql 3 109 0])
 (.cond (Zr 110) (.exit 4) .skip))
 (.seq
 (.reg [Zf 17 0])
 (.block 6 (.loop b43_3))))))) c43_1)))
def b43_5:ACode:=(.seq
 (.reg [Zq 198 (.next (Zr 197) false),Zh 199 198 0])
 (.seq
 (.cond (Zr 199) .skip (.exit 9))
 (.block 10
 (.seq
 (.reg [Zq 200 (.entry (Zr 197)),Zh 201 200 1,Zc 22 201])
 (.reg [Za 202 22,Zo 203 81 #[Zr 202] #[108]])))))
def c43_2:ACode:=(.seq
 (.reg [Zb 204 93 9,Zc 8 204]) .ret)
def Zl0:ACode:=(.seqL
 (.seq
 (.reg [Zb 193 93 9,Zq 194 (.nilCheck (Zr 193)),Zd 195 127 194 3,Zb 196 124 195,Zq 197 (.range 124 (Zr 196))])
 (.block 9 (.loop b43_5))) c43_2)
def Zl1:ACode:=(.seq
 (.reg [Zq 86 (.makeFunc (.func 77) #[] #[Zr 10,Zr 4,Zr 9]),Zc 14 86])
 (.seq
 (.reg [Za 87 14,Za 88 1,Za 89 2,Zq 90 (.call { callee:=(.value (Zr 87)),args:=#[(.const (.int .i64 0)),Zr 88,Zr 89],argTypes:=#[3,9,3] })])
 (.seq .skip
 (.seqL
 (.seq
 (.reg [Zb 91 93 9,Zq 92 (.nilCheck (Zr 91)),Zd 93 127 92 2,Zb 94 123 93,Ze 95 94 123,Zq 96 (.move (.const (.int .i64 0)))])
 (.block 4 (.loop b43_4))) Zl0))))
def Zl2:ACode:=(.seq
 (.dreg
 (.tk 0 (Zb 54 93 9)
 (.tk 1 (Za 55 3)
 (.tk 2 (Ze 56 55 32)
 (.tk 3 (Zm 57 .add 3 56 1)
 (.one [0,4,5,6,7] (Zq 58 (.makeSlice 123 (Zr 57) (Zr 57))) .fin))))) [Zq 59 (.nilCheck (Zr 54)),Zd 60 127 59 2,Zg 123 60 58])
 (.seqL
 (.seq
 (.reg [Zb 61 93 9,Zq 62 (.nilCheck (Zr 61)),Zd 63 127 62 2,Zb 64 123 63,Ze 65 64 123,Zq 66 (.move (.const (.int .i64 0)))])
 (.block 2 (.loop b43_2))) Zl1))
def c43:ACode:=(.seq
 (.reg [Zj 4 30 0,Zq 8 (.assign (.const (.pointer none)))]) (.scope
 (.seq
 (.reg [Zb 23 30 4,Za 24 3,Zq 25 (.makeMap 124 none),Zq 26 (.makeMap 125 none),Zq 27 (.build 127 #[(0,(Zr 23)),(1,(Zr 24)),(3,(Zr 25)),(4,(Zr 26))]),Zj 28 127 27,Zi 9 93,Zg 93 9 28])
 (.seq
 (.reg [Zq 29 (.makeMap 148 none),Zi 10 148,Zg 148 10 29])
 (.seqL
 (.seq
 (.reg [Zb 30 30 4,Zo 31 76 #[Zr 30] #[30],Ze 32 31 108,Zq 33 (.move (.const (.int .i64 0)))])
 (.block 0 (.loop b43_1))) Zl2)))))
theorem fd43:FnD Try.prog 43 205 [(.tmp 8)] c43:=⟨⟨Try.f43,Try.f43.body.getD .skip,Try.func43,by kernel_rfl,by kernel_rfl,by kernel_rfl,by kernel_rfl⟩⟩
def c44:ACode:=(.seq
 (.reg [Zj 5 93 0,Zj 6 9 1,Zj 7 3 2,Zj 8 99 3,Zj 9 108 4,Zq 10 (.assign (.const .nilFunc))])
 (.seq
 (.reg [Zq 11 (.makeFunc (.func 82) #[] #[Zr 5,Zr 8,Zr 6,Zr 7,Zr 9]),Zc 10 11]) .ret))
theorem fd44:FnD Try.prog 44 12 [(.tmp 10)] c44:=⟨⟨Try.f44,Try.f44.body.getD .skip,Try.func44,by kernel_rfl,by kernel_rfl,by kernel_rfl,by kernel_rfl⟩⟩
def c48:ACode:=(.seq
 (.reg [Zq 4 (.assign (.const (.bool false)))])
 (.seq
 (.reg [Za 5 0,Za 6 1,Zo 7 91 #[Zr 5,Zr 6] #[108,111],Zm 8 .geq 3 7 0,Zc 4 8]) .ret))
theorem fd48:FnD Try.prog 48 9 [(.tmp 4)] c48:=⟨⟨Try.f48,Try.f48.body.getD .skip,Try.func48,by kernel_rfl,by kernel_rfl,by kernel_rfl,by kernel_rfl⟩⟩
def c49:ACode:=(.seq
 (.reg [Zj 3 99 1,Zq 4 (.assign (.const (.slice none 0 0)))])
 (.seq
 (.dreg
 (.tk 0 (Za 5 0)
 (.tk 1 (Zq 6 (.nilCheck (Zr 5)))
 (.tk 2 (Zd 7 127 6 3)
 (.tk 3 (Zb 8 124 7)
 (.tk 4 (Zb 9 99 3) .fin))))) [Zq 10 (.lookup 124 (Zr 8) (Zr 9) false),Zc 4 10]) .ret))
theorem fd49:FnD Try.prog 49 11 [(.tmp 4)] c49:=⟨⟨Try.f49,Try.f49.body.getD .skip,Try.func49,by kernel_rfl,by kernel_rfl,by kernel_rfl,by kernel_rfl⟩⟩
def c51:ACode:=(.seq
 (.reg [Zj 3 62 0,Zq 6 (.assign (.const (.bool false)))])
 (.seq
 (.reg [Zd 7 62 3 0,Zb 8 9 7,Za 9 1,Zn 10 .eql 9 8 9,Za 11 10,Zp 12 (.fieldAddr 62 (Zr 3) 1) 11 true,Zp 13 (.load 3 (Zr 12)) 11 true,Zp 14 (.move (Zr 2)) 11 true,Zp 15 (.binOp .geq 3 (Zr 13) (Zr 14) 3) 11 true,Zq 16 (.pick (Zr 11) (Zr 15) (.const (.bool false))),Zc 6 16]) .ret))
theorem fd51:FnD Try.prog 51 17 [(.tmp 6)] c51:=⟨⟨Try.f51,Try.f51.body.getD .skip,Try.func51,by kernel_rfl,by kernel_rfl,by kernel_rfl,by kernel_rfl⟩⟩
def c52:ACode:=(.seq
 (.reg [Zq 4 (.assign (.const (.bool false)))])
 (.seq
 (.reg [Za 5 0,Za 6 1,Zo 7 92 #[Zr 5,Zr 6] #[30,113],Zm 8 .geq 3 7 0,Zc 4 8]) .ret))
theorem fd52:FnD Try.prog 52 9 [(.tmp 4)] c52:=⟨⟨Try.f52,Try.f52.body.getD .skip,Try.func52,by kernel_rfl,by kernel_rfl,by kernel_rfl,by kernel_rfl⟩⟩
def c53:ACode:=(.seq
 (.reg [Zj 1 62 0,Zq 2 (.assign (.const (.bool false)))])
 (.seq
 (.reg [Zb 3 62 1,Zo 4 54 #[Zr 3] #[62],Zq 5 (.unOp .not 4 (Zr 4)),Zc 2 5]) .ret))
theorem fd53:FnD Try.prog 53 6 [(.tmp 2)] c53:=⟨⟨Try.f53,Try.f53.body.getD .skip,Try.func53,by kernel_rfl,by kernel_rfl,by kernel_rfl,by kernel_rfl⟩⟩
def c54:ACode:=(.seq
 (.reg [Zj 1 62 0,Zq 2 (.assign (.const (.bool false)))])
 (.seq
 (.reg [Zd 3 62 1 0,Zb 4 9 3,Zq 5 (.binOp .neq 9 (Zr 4) (.const (.string { data:=#[] })) 9),Za 6 5,Zp 7 (.fieldAddr 62 (Zr 1) 0) 6 true,Zp 8 (.load 9 (Zr 7)) 6 true,Zp 9 (.call { callee:=(.builtin .len),args:=#[Zr 8],argTypes:=#[9] }) 6 true,Zp 10 (.binOp .leq 3 (Zr 9) (.const (.int .i64 100)) 3) 6 true,Zq 11 (.pick (Zr 6) (Zr 10) (.const (.bool false))),Za 12 11,Zp 13 (.fieldAddr 62 (Zr 1) 2) 12 true,Zp 14 (.load 9 (Zr 13)) 12 true,Zp 15 (.call { callee:=(.builtin .len),args:=#[Zr 14],argTypes:=#[9] }) 12 true,Zp 16 (.binOp .leq 3 (Zr 15) (.const (.int .i64 100)) 3) 12 true,Zq 17 (.pick (Zr 12) (Zr 16) (.const (.bool false))),Za 18 17,Zp 19 (.fieldAddr 62 (Zr 1) 1) 18 true,Zp 20 (.load 3 (Zr 19)) 18 true,Zp 21 (.call { callee:=(.value (.func 75)),args:=#[Zr 20],argTypes:=#[3] }) 18 true,Zq 22 (.pick (Zr 18) (Zr 21) (.const (.bool false))),Za 23 22,Zp 24 (.fieldAddr 62 (Zr 1) 3) 23 true,Zp 25 (.load 60 (Zr 24)) 23 true,Zp 26 (.call { callee:=(.builtin .len),args:=#[Zr 25],argTypes:=#[60] }) 23 true,Zp 27 (.binOp .geq 3 (Zr 26) (.const (.int .i64 1)) 3) 23 true,Zq 28 (.pick (Zr 23) (Zr 27) (.const (.bool false))),Za 29 28,Zp 30 (.fieldAddr 62 (Zr 1) 3) 29 true,Zp 31 (.load 60 (Zr 30)) 29 true,Zp 32 (.call { callee:=(.builtin .len),args:=#[Zr 31],argTypes:=#[60] }) 29 true,Zp 33 (.binOp .leq 3 (Zr 32) (.const (.int .i64 30)) 3) 29 true,Zq 34 (.pick (Zr 29) (Zr 33) (.const (.bool false))),Za 35 34,Zp 36 (.fieldAddr 62 (Zr 1) 3) 35 true,Zp 37 (.load 60 (Zr 36)) 35 true,Zp 38 (.call { callee:=(.value (.func 93)),args:=#[Zr 37,(.func 94)],argTypes:=#[60,173] }) 35 true,Zp 39 (.unOp .not 4 (Zr 38)) 35 true,Zq 40 (.pick (Zr 35) (Zr 39) (.const (.bool false))),Zc 2 40]) .ret))
theorem fd54:FnD Try.prog 54 41 [(.tmp 2)] c54:=⟨⟨Try.f54,Try.f54.body.getD .skip,Try.func54,by kernel_rfl,by kernel_rfl,by kernel_rfl,by kernel_rfl⟩⟩
def c57:ACode:=(.seq
 (.reg [Zq 4 (.assign (.const (.slice none 0 0)))])
 (.seq
 (.seq
 (.reg [Za 5 1,Zm 6 .lss 3 5 0])
 (.cond (Zr 6)
 (.reg [Zq 7 (.makeInterface 9 (.const (.string { data:=#[99,97,110,110,111,116,32,98,101,32,110,101,103,97,116,105,118,101] }))),⟨none,(.panic (Zr 7)),none⟩]) .skip))
 (.seq
 (.seq
 (.reg [Za 8 1,Za 9 0,Zq 10 (.call { callee:=(.builtin .cap),args:=#[Zr 9],argTypes:=#[22] }),Za 11 0,Ze 12 11 22,Zn 13 .sub 3 10 12,Zn 14 .sub 3 8 13,Zc 1 14])
 (.seq
 (.reg [Za 15 1,Zm 16 .gtr 3 15 0])
 (.cond (Zr 16)
 (.reg [Za 17 0,Za 18 0,Zq 19 (.call { callee:=(.builtin .cap),args:=#[Zr 18],argTypes:=#[22] }),Zq 20 (.slice 22 (Zr 17) none (some (Zr 19)) none),Za 21 1,Zq 22 (.call { callee:=(.builtin .append),args:=#[Zr 20,Zr 21],argTypes:=#[22,3] }),Za 23 0,Ze 24 23 22,Zq 25 (.slice 22 (Zr 22) none (some (Zr 24)) none),Zc 0 25]) .skip)))
 (.seq
 (.reg [Za 26 0,Zc 4 26]) .ret))))
theorem fd57:FnD Try.prog 57 27 [(.tmp 4)] c57:=⟨⟨Try.f57,Try.f57.body.getD .skip,Try.func57,by kernel_rfl,by kernel_rfl,by kernel_rfl,by kernel_rfl⟩⟩
def c59:ACode:=(.seq
 (.reg [Zj 3 129 1,Zi 4 64,Zq 5 (.assign (.const (.bool false)))])
 (.seq
 (.dreg
 (.tk 0 (Za 7 0)
 (.tk 1 (Zq 8 (.nilCheck (Zr 7)))
 (.tk 2 (Zd 9 127 8 0)
 (.tk 3 (Zb 10 30 9)
 (.tk 4 (Zd 11 129 3 0)
 (.tk 5 (Zb 12 3 11) .fin)))))) [Zk 13 30 10 12,Zd 14 62 13 3,Zb 15 60 14,Zc 6 15])
 (.seq
 (.seq
 (.reg [Zd 16 129 3 1,Zb 17 3 16,Za 18 6,Ze 19 18 60,Zn 20 .eql 3 17 19])
 (.cond (Zr 20)
 (.seq
 (.reg [Zq 21 (.build 64 #[]),Zg 64 4 21,Zq 5 (.assign (.const (.bool false)))]) .ret) .skip))
 (.seq
 (.reg [Za 22 6,Zd 23 129 3 1,Zb 24 3 23,Zk 25 60 22 24,Zb 26 64 25,Zg 64 4 26,Zq 5 (.assign (.const (.bool true)))]) .ret))))
theorem fd59:FnD Try.prog 59 27 [(.cell 4 64),(.tmp 5)] c59:=⟨⟨Try.f59,Try.f59.body.getD .skip,Try.func59,by kernel_rfl,by kernel_rfl,by kernel_rfl,by kernel_rfl⟩⟩
def b65_1:ACode:=(.seq
 (.reg [Zn 18 .lss 3 17 16])
 (.seq
 (.cond (Zr 18) .skip (.exit 0))
 (.seq
 (.block 1
 (.seq
 (.reg [Za 19 17,Zk 20 26 15 17,Zb 21 44 20,Zi 8 44,Zc 7 19,Zg 44 8 21])
 (.seq
 (.reg [Za 22 1,Za 23 7,Zk 24 26 22 23,Zb 25 44 24,Zi 9 44,Zg 44 9 25])
 (.seq
 (.reg [Za 26 2,Zb 27 44 8,Zb 28 44 9,Zq 29 (.call { callee:=(.value (Zr 26)),args:=#[Zr 27,Zr 28],argTypes:=#[44,44] }),Zq 30 (.unOp .not 4 (Zr 29))])
 (.cond (Zr 30)
 (.seq
 (.reg [Zq 6 (.assign (.const (.bool false)))]) .ret) .skip)))))
 (.reg [Zm 31 .add 3 17 1,Za 17 31]))))
def c65_1:ACode:=(.seq
 (.reg [Zq 6 (.assign (.const (.bool true)))]) .ret)
def c65:ACode:=(.seq
 (.reg [Zq 6 (.assign (.const (.bool false)))])
 (.seq
 (.seq
 (.reg [Za 10 0,Ze 11 10 26,Za 12 1,Ze 13 12 26,Zn 14 .neq 3 11 13])
 (.cond (Zr 14)
 (.seq
 (.reg [Zq 6 (.assign (.const (.bool false)))]) .ret) .skip))
 (.seqL
 (.seq
 (.reg [Za 15 0,Ze 16 15 26,Zq 17 (.move (.const (.int .i64 0)))])
 (.block 0 (.loop b65_1))) c65_1)))
theorem fd65:FnD Try.prog 65 32 [(.tmp 6)] c65:=⟨⟨Try.f65,Try.f65.body.getD .skip,Try.func65,by kernel_rfl,by kernel_rfl,by kernel_rfl,by kernel_rfl⟩⟩
def b74_1:ACode:=(.seq
 (.reg [Zn 9 .lss 3 8 7])
 (.seq
 (.cond (Zr 9) .skip (.exit 0))
 (.seq
 (.block 1
 (.seq
 (.reg [Za 10 8,Zc 5 10])
 (.seq
 (.reg [Za 11 1,Za 12 0,Za 13 5,Zk 14 50 12 13,Zb 15 88 14,Zq 16 (.call { callee:=(.value (Zr 11)),args:=#[Zr 15],argTypes:=#[88] })])
 (.cond (Zr 16)
 (.seq
 (.reg [Za 17 5,Zc 4 17]) .ret) .skip))))
 (.reg [Zm 18 .add 3 8 1,Za 8 18]))))
def c74_1:ACode:=(.seq
 (.reg [Zq 4 (.assign (.const (.int .i64 (-1))))]) .ret)
def c74:ACode:=(.seq
 (.reg [Zf 4 0])
 (.seqL
 (.seq
 (.reg [Za 6 0,Ze 7 6 50,Zq 8 (.move (.const (.int .i64 0)))])
 (.block 0 (.loop b74_1))) c74_1))
theorem fd74:FnD Try.prog 74 19 [(.tmp 4)] c74:=⟨⟨Try.f74,Try.f74.body.getD .skip,Try.func74,by kernel_rfl,by kernel_rfl,by kernel_rfl,by kernel_rfl⟩⟩
def c75:ACode:=(.seq
 (.reg [Zq 2 (.assign (.const (.bool false)))])
 (.seq
 (.reg [Za 3 0,Zm 4 .geq 3 3 0,Za 5 4,Zp 6 (.move (Zr 0)) 5 true,Zp 7 (.binOp .leq 3 (Zr 6) (.const (.int .i64 1000)) 3) 5 true,Zq 8 (.pick (Zr 5) (Zr 7) (.const (.bool false))),Zc 2 8]) .ret))
theorem fd75:FnD Try.prog 75 9 [(.tmp 2)] c75:=⟨⟨Try.f75,Try.f75.body.getD .skip,Try.func75,by kernel_rfl,by kernel_rfl,by kernel_rfl,by kernel_rfl⟩⟩
def b76_1:ACode:=(.seq
 (.reg [Zn 15 .lss 3 14 13])
 (.seq
 (.cond (Zr 15) .skip (.exit 2))
 (.seq
 (.block 3
 (.seq
 (.reg [Za 16 14,Zk 17 30 12 14,Zb 18 62 17,Zi 7 62,Zc 6 16,Zg 62 7 18])
 (.seq
 (.seq
 (.reg [Za 19 4,Za 20 6,Zk 21 179 19 20,Zb 22 4 21,Za 23 22,Zp 24 (.fieldAddr 62 (Zr 7) 3) 23 false,Zp 25 (.load 60 (Zr 24)) 23 false,Zp 26 (.makeFunc (.func 99) #[] #[Zr 3,Zr 1]) 23 false,Zp 27 (.call { callee:=(.value (.func 93)),args:=#[Zr 25,Zr 26],argTypes:=#[60,173] }) 23 false,Zq 28 (.pick (Zr 23) (.const (.bool true)) (Zr 27))])
 (.cond (Zr 28) (.exit 3) .skip))
 (.seq
 (.reg [Za 29 4,Za 30 6,Zk 31 179 29 30,⟨none,(.store 4 (Zr 31) (.const (.bool true))),none⟩,Zq 5 (.assign (.const (.bool true)))])
 (.reg [Zb 32 108 3,Za 33 6,Zq 34 (.buildSlice 108 1 #[(0,(Zr 33))]),Zl 35 32 34 108,Zg 108 3 35])))))
 (.reg [Zm 36 .add 3 14 1,Za 14 36]))))
def b76_2:ACode:=(.seq
 (.seq
 (.reg [Za 11 5])
 (.cond (Zr 11) .skip (.exit 0)))
 (.block 1
 (.seq
 (.reg [Zq 5 (.assign (.const (.bool false)))])
 (.seq
 (.reg [Zb 12 30 1,Ze 13 12 30,Zq 14 (.move (.const (.int .i64 0)))])
 (.block 2 (.loop b76_1))))))
def c76_1:ACode:=(.seq
 (.reg [Zb 37 108 3,Zo 38 81 #[Zr 37] #[108]])
 (.seq
 (.reg [Zb 39 108 3,Zc 2 39]) .ret))
def c76:ACode:=(.seq
 (.reg [Zj 1 30 0,Zq 2 (.assign (.const (.slice none 0 0)))])
 (.seq
 (.reg [Zi 3 108])
 (.seq
 (.reg [Zb 8 30 1,Ze 9 8 30,Zq 10 (.makeSlice 179 (Zr 9) (Zr 9)),Zc 4 10])
 (.seqL
 (.seq
 (.reg [Zq 5 (.assign (.const (.bool true)))])
 (.block 0 (.loop b76_2))) c76_1))))
theorem fd76:FnD Try.prog 76 40 [(.tmp 2)] c76:=⟨⟨Try.f76,Try.f76.body.getD .skip,Try.func76,by kernel_rfl,by kernel_rfl,by kernel_rfl,by kernel_rfl⟩⟩
def b77_1:ACode:=(.seq
 (.reg [Zn 16 .lss 3 15 14])
 (.seq
 (.cond (Zr 16) .skip (.exit 0))
 (.seq
 (.block 1
 (.seq
 (.reg [Zk 17 108 13 15,Zb 18 3 17,Zc 10 18])
 (.seq
 (.reg [Zb 19 30 4,Za 20 10,Zk 21 30 19 20,Zd 22 62 21 1,Zb 23 3 22,Za 24 2,Zn 25 .geq 3 23 24])
 (.cond (Zr 25)
 (.reg [Zb 26 93 5,Za 27 0,Za 28 10,Za 29 0,Zq 30 (.build 129 #[(0,(Zr 28)),(1,(.const (.int .i64 0))),(2,(Zr 29))]),Zo 31 78 #[Zr 26,Zr 27,Zr 30] #[93,3,129]]) .skip))))
 (.reg [Zm 32 .add 3 15 1,Za 15 32]))))
def c77:ACode:=(.seq
 (.reg [Zb 11 148 3,Za 12 1,Zq 13 (.lookup 148 (Zr 11) (Zr 12) false),Ze 14 13 108,Zq 15 (.move (.const (.int .i64 0)))])
 (.block 0 (.loop b77_1)))
theorem fd77:FnD Try.prog 77 33 [] c77:=⟨⟨Try.f77,Try.f77.body.getD .skip,Try.func77,by kernel_rfl,by kernel_rfl,by kernel_rfl,by kernel_rfl⟩⟩
def c78:ACode:=(.seq
 (.reg [Zj 5 129 2])
 (.seq
 (.reg [Za 7 0,Zq 8 (.nilCheck (Zr 7)),Zd 9 127 8 2,Zb 10 123 9,Za 11 1,Zk 12 123 10 11,Zc 6 12])
 (.seq
 (.dreg
 (.tk 0 (Za 13 6)
 (.tk 1 (Zq 14 (.nilCheck (Zr 13)))
 (.tk 2 (Zd 15 122 14 1)
 (.tk 3 (Zb 16 119 15)
 (.tk 4 (Zb 17 129 5) .fin))))) [Zq 18 (.lookup 119 (Zr 16) (Zr 17) false),Zq 19 (.unOp .not 4 (Zr 18))])
 (.cond (Zr 19)
 (.seq
 (.dreg
 (.tk 0 (Za 20 6)
 (.tk 1 (Zq 21 (.nilCheck (Zr 20)))
 (.tk 2 (Zd 22 122 21 1)
 (.tk 3 (Zb 23 119 22)
 (.tk 4 (Zb 24 129 5) .fin))))) [⟨none,(.mapUpdate 119 (Zr 23) (Zr 24) (.const (.bool true))),none⟩])
 (.dreg
 (.tk 0 (Za 25 6)
 (.tk 1 (Za 26 6)
 (.tk 2 (Zq 27 (.nilCheck (Zr 26)))
 (.tk 3 (Zd 28 122 27 0)
 (.tk 4 (Zb 29 118 28)
 (.tk 5 (Zb 30 129 5)
 (.tk 6 (Zq 31 (.buildSlice 118 1 #[(0,(Zr 30))])) (.cut (Zl 32 29 31 118) .fin)))))))) [Zq 33 (.nilCheck (Zr 25)),Zd 34 122 33 0,Zg 118 34 32])) .skip))))
theorem fd78:FnD Try.prog 78 35 [] c78:=⟨⟨Try.f78,Try.f78.body.getD .skip,Try.func78,by kernel_rfl,by kernel_rfl,by kernel_rfl,by kernel_rfl⟩⟩
def b79_1:ACode:=(.seq
 (.reg [Zn 50 .lss 3 49 48])
 (.seq
 (.cond (Zr 50) .skip (.exit 0))
 (.seq
 (.block 1
 (.seq
 (.reg [Zk 51 118 47 49,Zb 52 129 51,Zi 9 129,Zg 129 9 52])
 (.seq
 (.reg [Za 54 0,Zb 55 129 9,Zo 56 59 #[Zr 54,Zr 55] #[93,129],Za 53 56,Zh 57 53 0,Zh 58 53 1,Zi 10 64,Zg 64 10 57,Zc 11 58])
 (.seq
 (.reg [Zd 59 62 6 1,Zb 60 3 59,Zd 61 64 10 2,Zb 62 3 61,Zn 63 .geq 3 60 62])
 (.cond (Zr 63)
 (.reg [Za 64 0,Za 65 2,Zd 66 129 9 0,Zb 67 3 66,Zd 68 129 9 1,Zb 69 3 68,Zm 70 .add 3 69 1,Zd 71 129 9 2,Zb 72 3 71,Zq 73 (.build 129 #[(0,(Zr 67)),(1,(Zr 70)),(2,(Zr 72))]),Zo 74 78 #[Zr 64,Zr 65,Zr 73] #[93,3,129]]) .skip)))))
 (.reg [Zm 75 .add 3 49 1,Za 49 75]))))
def c79:ACode:=(.seq
 (.reg [Zj 4 129 1])
 (.seq
 (.dreg
 (.tk 0 (Za 12 0)
 (.tk 1 (Zq 13 (.nilCheck (Zr 12)))
 (.tk 2 (Zd 14 127 13 0)
 (.tk 3 (Zb 15 30 14)
 (.tk 4 (Zd 16 129 4 0)
 (.tk 5 (Zb 17 3 16)
 (.tk 6 (Zk 18 30 15 17)
 (.tk 7 (Zb 19 62 18)
 (.one [0,1,2,3,4,5,6,7,8,9] (Zi 6 62) .fin))))))))) [Zg 62 6 19])
 (.seq
 (.reg [Zd 20 129 4 2,Zb 21 3 20,Za 22 2,Zq 23 (.build 99 #[(0,(Zr 21)),(1,(Zr 22))]),Zi 7 99,Zg 99 7 23])
 (.seq
 (.dreg
 (.tk 0 (Za 24 0)
 (.tk 1 (Zq 25 (.nilCheck (Zr 24)))
 (.tk 2 (Zd 26 127 25 3)
 (.tk 3 (Zb 27 124 26)
 (.tk 4 (Zb 28 99 7)
 (.tk 5 (Zd 30 129 4 0)
 (.tk 6 (Zb 31 3 30)
 (.tk 7 (Zq 32 (.buildSlice 108 1 #[(0,(Zr 31))]))
 (.one [8,9,10,11,12] (Zq 33 (.mapEntry 124 (Zr 27) (Zr 28)))
 (.tk 9 (Zh 29 33 0)
 (.tk 11 (Zh 35 33 1)
 (.one [10,11,12] (Zl 34 29 32 108) .fin)))))))))))) [⟨none,(.entryStore 124 (Zr 27) (Zr 35) (Zr 34)),none⟩])
 (.seq
 (.dreg
 (.tk 0 (Za 36 0)
 (.tk 1 (Zq 37 (.nilCheck (Zr 36)))
 (.tk 2 (Zd 38 127 37 2)
 (.tk 3 (Zb 39 123 38)
 (.tk 4 (Zd 40 129 4 2)
 (.tk 5 (Zb 41 3 40)
 (.tk 6 (Zk 42 123 39 41)
 (.tk 7 (Zd 43 122 42 2)
 (.tk 8 (Zb 44 120 43)
 (.tk 9 (Zd 45 62 6 0)
 (.tk 10 (Zb 46 9 45)
 (.tk 13 (Zq 49 (.move (.const (.int .i64 0))))
 (.one [11,12,13] (Zq 47 (.lookup 120 (Zr 44) (Zr 46) false))
 (.tk 12 (Ze 48 47 118) .fin)))))))))))))) [])
 (.block 0 (.loop b79_1)))))))
theorem fd79:FnD Try.prog 79 76 [] c79:=⟨⟨Try.f79,Try.f79.body.getD .skip,Try.func79,by kernel_rfl,by kernel_rfl,by kernel_rfl,by kernel_rfl⟩⟩
def c80:ACode:=(.seq
 (.reg [Zj 2 64 0,Zj 3 66 1,Zq 4 (.assign (.const (.bool false)))])
 (.seq
 (.seq
 (.reg [Zd 5 64 2 0,Zb 6 3 5,Zm 7 .eql 3 6 1])
 (.cond (Zr 7)
 (.seq
 (.reg [Zd 8 66 3 0,Zb 9 9 8,Zq 10 (.binOp .eql 9 (Zr 9) (.const (.string { data:=#[] })) 9),Za 11 10,Zp 12 (.fieldAddr 66 (Zr 3) 1) 11 true,Zp 13 (.load 9 (Zr 12)) 11 true,Zp 14 (.fieldAddr 64 (Zr 2) 1) 11 true,Zp 15 (.load 9 (Zr 14)) 11 true,Zp 16 (.binOp .eql 9 (Zr 13) (Zr 15) 9) 11 true,Zq 17 (.pick (Zr 11) (Zr 16) (.const (.bool false))),Zc 4 17]) .ret) .skip))
 (.seq
 (.reg [Zd 18 66 3 0,Zb 19 9 18,Zd 20 64 2 1,Zb 21 9 20,Zn 22 .eql 9 19 21,Zc 4 22]) .ret)))
theorem fd80:FnD Try.prog 80 23 [(.tmp 4)] c80:=⟨⟨Try.f80,Try.f80.body.getD .skip,Try.func80,by kernel_rfl,by kernel_rfl,by kernel_rfl,by kernel_rfl⟩⟩
def c81:ACode:=(.seq
 (.reg [Za 3 0,Ze 4 3 108,Zc 2 4])
 (.reg [Za 5 0,Za 6 2,Za 7 2,Zq 8 (.convert 3 176 (Zr 7)),Zo 9 97 #[Zr 8] #[176],Zo 10 101 #[Zr 5,(.const (.int .i64 0)),Zr 6,Zr 9] #[108,3,3,3]]))
theorem fd81:FnD Try.prog 81 11 [] c81:=⟨⟨Try.f81,Try.f81.body.getD .skip,Try.func81,by kernel_rfl,by kernel_rfl,by kernel_rfl,by kernel_rfl⟩⟩
def Zl3:ACode:=(.reg [Zm 86 .add 3 16 1,Za 16 86])
def Zl4:ACode:=(.seq
 (.reg [Zn 17 .lss 3 16 15])
 (.seq
 (.cond (Zr 17) .skip (.exit 0))
 (.seqL
 (.block 1
 (.seq
 (.reg [Zk 18 108 14 16,Zb 19 3 18,Zi 8 3,Zg 3 8 19])
 (.seq
 (.seq
 (.dreg
 (.tk 0 (Zb 20 93 1)
 (.tk 1 (Zq 21 (.nilCheck (Zr 20)))
 (.tk 2 (Zd 22 127 21 0)
 (.tk 3 (Zb 23 30 22)
 (.tk 4 (Zb 24 3 8)
 (.tk 5 (Zk 25 30 23 24)
 (.tk 6 (Zb 26 62 25)
 (.tk 7 (Zb 27 9 3)
 (.tk 8 (Zb 28 3 4)
 (.one [9,10,11,12,13,14,15] (Zo 29 51 #[Zr 26,Zr 27,Zr 28] #[62,9,3])
 (.tk 10 (Zq 30 (.unOp .not 4 (Zr 29)))
 (.tk 11 (Za 31 30)
 (.tk 12 (Zp 32 (.load 108 (Zr 5)) 31 false)
 (.tk 13 (Zp 33 (.load 3 (Zr 8)) 31 false) .fin)))))))))))))) [Zp 34 (.call { callee:=(.value (.func 83)),args:=#[Zr 32,Zr 33],argTypes:=#[108,3] }) 31 false,Zq 35 (.pick (Zr 31) (.const (.bool true)) (Zr 34))])
 (.cond (Zr 35) (.exit 1) .skip))
 (.seq
 (.seq
 (.reg [Zb 36 93 1,Zb 37 3 8,Zo 38 84 #[Zr 36,Zr 37] #[93,3],Zq 39 (.unOp .not 4 (Zr 38))])
 (.cond (Zr 39)
 (.seq
 (.seq
 (.reg [Zb 40 93 1,Zb 41 3 8,Zb 42 99 2,Zb 43 75 6,Zo 44 85 #[Zr 40,Zr 41,(.const (.int .i64 0)),Zr 42,(.const (.slice none 0 0)),Zr 43] #[93,3,3,99,26,75],Zq 45 (.unOp .not 4 (Zr 44))])
 (.cond (Zr 45) .ret .skip)) (.exit 1)) .skip))
 (.seq
 (.dreg
 (.tk 0 (Zb 46 93 1)
 (.tk 1 (Zq 47 (.nilCheck (Zr 46)))
 (.tk 2 (Zd 48 127 47 0)
 (.tk 3 (Zb 49 30 48)
 (.tk 4 (Zb 50 3 8)
 (.tk 5 (Zk 51 30 49 50)
 (.tk 6 (Zd 52 62 51 3)
 (.tk 7 (Zb 53 60 52)
 (.tk 8 (Zq 54 (.indexAddr 60 (Zr 53) (.const (.int .i64 0))))
 (.tk 9 (Zb 55 64 54)
 (.one [0,1,2,3,4,5,6,7,8,9,10,11] (Zi 9 64) .fin))))))))))) [Zg 64 9 55])
 (.seq
 (.dreg
 (.tk 0 (Zb 56 108 5)
 (.tk 2 (Zb 58 3 8)
 (.tk 3 (Zq 59 (.buildSlice 108 1 #[(0,(Zr 58))]))
 (.one [1,2,3,4,5] (Zo 57 86 #[Zr 56] #[108]) .fin)))) [Zl 60 57 59 108,Zc 10 60])
 (.seq
 (.seq
 (.reg [Zb 61 93 1,Zd 62 64 9 1,Zb 63 9 62,Zd 64 64 9 2,Zb 65 3 64,Zb 66 99 2,Za 67 10,Zo 68 87 #[Zr 61,Zr 63,Zr 65,Zr 66,Zr 67] #[93,9,3,99,108],Zq 69 (.unOp .not 4 (Zr 68))])
 (.cond (Zr 69) (.exit 1) .skip))
 (.seq
 (.reg [Zb 70 93 1,Zd 71 64 9 1,Zb 72 9 71,Zd 73 64 9 2,Zb 74 3 73,Zb 75 99 2,Za 76 10,Zo 77 44 #[Zr 70,Zr 72,Zr 74,Zr 75,Zr 76] #[93,9,3,99,108]])
 (.block 2 (.rfunc (Zr 77) #[78]
 (.reg [Zi 11 44,Zg 44 11 78])
 (.block 3
 (.seq
 (.reg [Zb 79 75 6,Zb 80 3 8,Zb 81 44 11,Zq 82 (.buildSlice 26 1 #[(0,(Zr 81))]),Zq 83 (.build 44 #[(0,(Zr 80)),(2,(Zr 82))]),Zq 84 (.call { callee:=(.value (Zr 79)),args:=#[Zr 83],argTypes:=#[44] }),Zq 85 (.unOp .not 4 (Zr 84))])
 (.cond (Zr 85) .ret .skip))))))))))))) Zl3)))
def c82:ACode:=(.seq
 (.reg [Zj 6 75 0])
 (.seq
 (.reg [Zb 12 93 1,Zb 13 99 2,Zo 14 49 #[Zr 12,Zr 13] #[93,99],Ze 15 14 108,Zq 16 (.move (.const (.int .i64 0)))])
 (.block 0 (.loop Zl4))))
theorem fd82:FnD Try.prog 82 87 [] c82:=⟨⟨Try.f82,Try.f82.body.getD .skip,Try.func82,by kernel_rfl,by kernel_rfl,by kernel_rfl,by kernel_rfl⟩⟩
def c83:ACode:=(.seq
 (.reg [Zq 4 (.assign (.const (.bool false)))])
 (.seq
 (.reg [Za 5 0,Za 6 1,Zo 7 102 #[Zr 5,Zr 6] #[108,3],Zm 8 .geq 3 7 0,Zc 4 8]) .ret))
theorem fd83:FnD Try.prog 83 9 [(.tmp 4)] c83:=⟨⟨Try.f83,Try.f83.body.getD .skip,Try.func83,by kernel_rfl,by kernel_rfl,by kernel_rfl,by kernel_rfl⟩⟩
def c84:ACode:=(.seq
 (.reg [Zq 4 (.assign (.const (.bool false)))])
 (.seq
 (.reg [Za 6 0,Zq 7 (.nilCheck (Zr 6)),Zd 8 127 7 0,Zb 9 30 8,Za 10 1,Zk 11 30 9 10,Zd 12 62 11 3,Zb 13 60 12,Zc 5 13])
 (.seq
 (.reg [Za 14 5,Ze 15 14 60,Zm 16 .eql 3 15 1,Za 17 16,Zp 18 (.move (Zr 5)) 17 true,Zp 19 (.indexAddr 60 (Zr 18) (.const (.int .i64 0))) 17 true,Zp 20 (.fieldAddr 64 (Zr 19) 0) 17 true,Zp 21 (.load 3 (Zr 20)) 17 true,Zp 22 (.binOp .eql 3 (Zr 21) (.const (.int .i64 3)) 3) 17 true,Zq 23 (.pick (Zr 17) (Zr 22) (.const (.bool false))),Zc 4 23]) .ret)))
theorem fd84:FnD Try.prog 84 24 [(.tmp 4)] c84:=⟨⟨Try.f84,Try.f84.body.getD .skip,Try.func84,by kernel_rfl,by kernel_rfl,by kernel_rfl,by kernel_rfl⟩⟩
def Zl5:ACode:=(.seq
 (.seq
 (.reg [Zb 102 3 15])
 (.reg [Zi 15 3,Zg 3 15 102]))
 (.reg [Zb 62 3 15,Zm 63 .add 3 62 1,Zg 3 15 63]))
def b85_1:ACode:=(.seq
 (.seq
 (.reg [Zb 58 3 15,Zd 59 99 9 1,Zb 60 3 59,Zn 61 .leq 3 58 60])
 (.cond (Zr 61) .skip (.exit 1)))
 (.seqL
 (.block 2
 (.seq
 (.seq
 (.reg [Zb 64 93 6,Zb 65 3 7,Zb 66 3 8,Zm 67 .add 3 66 1,Zb 68 3 15,Zd 69 99 9 1,Zb 70 3 69,Zq 71 (.build 99 #[(0,(Zr 68)),(1,(Zr 70))]),Zq 72 (.build 185 #[(0,(Zr 65)),(1,(Zr 67)),(2,(Zr 71))]),Zo 73 104 #[Zr 64,Zr 72] #[93,185],Zq 74 (.unOp .not 4 (Zr 73))])
 (.cond (Zr 74) (.exit 2) .skip))
 (.seq
 (.reg [Zb 75 93 6,Zd 76 64 14 1,Zb 77 9 76,Zd 78 64 14 2,Zb 79 3 78,Zd 80 99 9 0,Zb 81 3 80,Zb 82 3 15,Zq 83 (.build 99 #[(0,(Zr 81)),(1,(Zr 82))]),Zo 84 44 #[Zr 75,Zr 77,Zr 79,Zr 83,(.const (.slice none 0 0))] #[93,9,3,99,108]])
 (.block 3 (.rfunc (Zr 84) #[85]
 (.reg [Zi 16 44,Zg 44 16 85])
 (.block 4
 (.seq
 (.dreg
 (.tk 0 (Zb 86 93 6)
 (.tk 1 (Zb 87 3 7)
 (.tk 2 (Zb 88 3 8)
 (.tk 3 (Zm 89 .add 3 88 1)
 (.tk 4 (Zb 90 3 15)
 (.tk 5 (Zd 91 99 9 1)
 (.tk 6 (Zb 92 3 91)
 (.tk 7 (Zq 93 (.build 99 #[(0,(Zr 90)),(1,(Zr 92))]))
 (.tk 8 (Zb 94 26 10)
 (.tk 10 (Zb 96 44 16)
 (.tk 11 (Zq 97 (.buildSlice 26 1 #[(0,(Zr 96))]))
 (.tk 13 (Zb 99 75 11)
 (.one [0,1,2,3,4,5,6,7,9,10,11,12,13,14,15] (Zo 95 105 #[Zr 94] #[26])
 (.one [0,1,2,3,4,5,6,7,12,13,14,15] (Zl 98 95 97 26) .fin)))))))))))))) [Zo 100 85 #[Zr 86,Zr 87,Zr 89,Zr 93,Zr 98,Zr 99] #[93,3,3,99,26,75],Zq 101 (.unOp .not 4 (Zr 100))])
 (.cond (Zr 101)
 (.seq
 (.reg [⟨none,(.store 4 (Zr 12) (.const (.bool false))),none⟩]) .ret) .skip)))))))) Zl5))
def c85_2:ACode:=(.seq
 (.reg [⟨none,(.store 4 (Zr 12) (.const (.bool true))),none⟩]) .ret)
def c85:ACode:=(.seq
 (.reg [Zj 6 93 0,Zj 7 3 1,Zj 8 3 2,Zj 9 99 3,Zj 10 26 4,Zj 11 75 5,Zi 12 4])
 (.seq
 (.dreg
 (.tk 0 (Zb 17 93 6)
 (.tk 1 (Zq 18 (.nilCheck (Zr 17)))
 (.tk 2 (Zd 19 127 18 0)
 (.tk 3 (Zb 20 30 19)
 (.tk 4 (Zb 21 3 7) .fin))))) [Zk 22 30 20 21,Zd 23 62 22 3,Zb 24 60 23,Zc 13 24])
 (.seq
 (.seq
 (.reg [Zb 25 3 8,Za 26 13,Ze 27 26 60,Zn 28 .eql 3 25 27])
 (.cond (Zr 28)
 (.seq
 (.dreg
 (.tk 0 (Zd 29 99 9 0)
 (.tk 1 (Zb 30 3 29)
 (.tk 2 (Zd 31 99 9 1)
 (.tk 3 (Zb 32 3 31)
 (.tk 4 (Zn 33 .neq 3 30 32)
 (.tk 5 (Za 34 33)
 (.tk 6 (Zp 35 (.load 75 (Zr 11)) 34 false)
 (.tk 7 (Zp 36 (.load 3 (Zr 7)) 34 false)
 (.tk 8 (Zp 37 (.load 26 (Zr 10)) 34 false)
 (.one [6,7,9,10,11,12,13] (Zp 38 (.call { callee:=(.value (.func 103)),args:=#[Zr 37],argTypes:=#[26] }) 34 false)
 (.tk 10 (Zp 39 (.build 44 #[(0,(Zr 36)),(2,(Zr 38))]) 34 false) .fin))))))))))) [Zp 40 (.call { callee:=(.value (Zr 35)),args:=#[Zr 39],argTypes:=#[44] }) 34 false,Zq 41 (.pick (Zr 34) (.const (.bool true)) (Zr 40)),Zg 4 12 41]) .ret) .skip))
 (.seq
 (.seq
 (.reg [Zb 42 93 6,Zb 43 3 7,Zb 44 3 8,Zb 45 99 9,Zq 46 (.build 185 #[(0,(Zr 43)),(1,(Zr 44)),(2,(Zr 45))]),Zo 47 104 #[Zr 42,Zr 46] #[93,185],Zq 48 (.unOp .not 4 (Zr 47))])
 (.cond (Zr 48)
 (.seq
 (.reg [⟨none,(.store 4 (Zr 12) (.const (.bool true))),none⟩]) .ret) .skip))
 (.seqL
 (.seq
 (.reg [Za 49 13,Zb 50 3 8,Zk 51 60 49 50,Zb 52 64 51,Zi 14 64,Zg 64 14 52])
 (.seq
 (.reg [Zd 53 64 14 0,Zb 54 3 53])
 (.block 0
 (.seq
 (.reg [Zm 104 .eql 3 54 1,Zc 103 104])
 (.cond (Zr 103)
 (.seq
 (.reg [Zb 105 93 6,Zb 106 3 7,Zb 107 3 8,Zm 108 .add 3 107 1,Zd 109 99 9 0,Zb 110 3 109,Zm 111 .add 3 110 1,Zd 112 99 9 1,Zb 113 3 112,Zq 114 (.build 99 #[(0,(Zr 111)),(1,(Zr 113))]),Zb 115 26 10,Zb 116 75 11,Zo 117 85 #[Zr 105,Zr 106,Zr 108,Zr 114,Zr 115,Zr 116] #[93,3,3,99,26,75],Zg 4 12 117]) .ret)
 (.seq
 (.reg [Zm 119 .eql 3 54 2,Zc 118 119])
 (.cond (Zr 118)
 (.seq
 (.dreg
 (.tk 0 (Zb 120 93 6)
 (.tk 1 (Zb 121 3 7)
 (.tk 2 (Zb 122 3 8)
 (.tk 3 (Zm 123 .add 3 122 1)
 (.tk 4 (Zd 124 99 9 0)
 (.tk 5 (Zb 125 3 124)
 (.tk 6 (Zm 126 .add 3 125 1)
 (.tk 7 (Zd 127 99 9 1)
 (.tk 8 (Zb 128 3 127)
 (.tk 9 (Zq 129 (.build 99 #[(0,(Zr 126)),(1,(Zr 128))]))
 (.tk 10 (Zb 130 26 10)
 (.tk 12 (Zd 132 99 9 0)
 (.tk 13 (Zb 133 3 132)
 (.tk 14 (Zq 134 (.build 44 #[(0,(.const (.int .i64 (-1)))),(1,(Zr 133))]))
 (.tk 15 (Zq 135 (.buildSlice 26 1 #[(0,(Zr 134))]))
 (.tk 17 (Zb 137 75 11)
 (.one [0,1,2,3,4,5,6,7,8,9,11,12,13,14,15,16,17,18,19] (Zo 131 105 #[Zr 130] #[26])
 (.one [0,1,2,3,4,5,6,7,8,9,16,17,18,19] (Zl 136 131 135 26) .fin)))))))))))))))))) [Zo 138 85 #[Zr 120,Zr 121,Zr 123,Zr 129,Zr 136,Zr 137] #[93,3,3,99,26,75],Zg 4 12 138]) .ret)
 (.seq
 (.reg [Zd 55 99 9 0,Zb 56 3 55,Zm 57 .add 3 56 1,Zi 15 3,Zg 3 15 57])
 (.block 1 (.loop b85_1)))))))))) c85_2)))))
theorem fd85:FnD Try.prog 85 139 [(.cell 12 4)] c85:=⟨⟨Try.f85,Try.f85.body.getD .skip,Try.func85,by kernel_rfl,by kernel_rfl,by kernel_rfl,by kernel_rfl⟩⟩
def c86:ACode:=(.seq
 (.reg [Zq 2 (.assign (.const (.slice none 0 0)))])
 (.seq
 (.reg [Za 3 0,Za 4 0,Ze 5 4 108,Za 6 0,Ze 7 6 108,Zq 8 (.slice 108 (Zr 3) none (some (Zr 5)) (some (Zr 7))),Zc 2 8]) .ret))
theorem fd86:FnD Try.prog 86 9 [(.tmp 2)] c86:=⟨⟨Try.f86,Try.f86.body.getD .skip,Try.func86,by kernel_rfl,by kernel_rfl,by kernel_rfl,by kernel_rfl⟩⟩
def c87:ACode:=(.seq
 (.reg [Zj 5 93 0,Zj 8 99 3,Zj 9 108 4,Zq 10 (.assign (.const (.bool false)))])
 (.seq
 (.reg [Zb 14 93 5,Zb 15 99 8,Zo 16 49 #[Zr 14,Zr 15] #[93,99],Zq 17 (.makeFunc (.func 107) #[] #[Zr 9]),Zo 18 106 #[Zr 16,Zr 17] #[108,187],Zi 11 108,Zg 108 11 18])
 (.seq
 (.reg [Zq 19 (.makeMap 188 none),Zi 12 188,Zg 188 12 19])
 (.seq
 (.reg [Zi 13 110])
 (.seq
 (.reg [Zq 20 (.makeFunc (.func 108) #[] #[Zr 11,Zr 12,Zr 5,Zr 13]),Zg 110 13 20])
 (.seq
 (.reg [Zb 21 110 13,Za 22 1,Za 23 2,Zq 24 (.call { callee:=(.value (Zr 21)),args:=#[Zr 22,Zr 23],argTypes:=#[9,3] }),Zc 10 24]) .ret))))))
theorem fd87:FnD Try.prog 87 25 [(.tmp 10)] c87:=⟨⟨Try.f87,Try.f87.body.getD .skip,Try.func87,by kernel_rfl,by kernel_rfl,by kernel_rfl,by kernel_rfl⟩⟩
def b91_1:ACode:=(.seq
 (.reg [Zn 9 .lss 3 8 7])
 (.seq
 (.cond (Zr 9) .skip (.exit 0))
 (.seq
 (.block 1
 (.seq
 (.reg [Za 10 8,Zc 5 10])
 (.seq
 (.reg [Za 11 1,Za 12 0,Za 13 5,Zk 14 108 12 13,Zb 15 3 14,Zq 16 (.call { callee:=(.value (Zr 11)),args:=#[Zr 15],argTypes:=#[3] })])
 (.cond (Zr 16)
 (.seq
 (.reg [Za 17 5,Zc 4 17]) .ret) .skip))))
 (.reg [Zm 18 .add 3 8 1,Za 8 18]))))
def c91_1:ACode:=(.seq
 (.reg [Zq 4 (.assign (.const (.int .i64 (-1))))]) .ret)
def c91:ACode:=(.seq
 (.reg [Zf 4 0])
 (.seqL
 (.seq
 (.reg [Za 6 0,Ze 7 6 108,Zq 8 (.move (.const (.int .i64 0)))])
 (.block 0 (.loop b91_1))) c91_1))
theorem fd91:FnD Try.prog 91 19 [(.tmp 4)] c91:=⟨⟨Try.f91,Try.f91.body.getD .skip,Try.func91,by kernel_rfl,by kernel_rfl,by kernel_rfl,by kernel_rfl⟩⟩
def b92_1:ACode:=(.seq
 (.reg [Zn 9 .lss 3 8 7])
 (.seq
 (.cond (Zr 9) .skip (.exit 0))
 (.seq
 (.block 1
 (.seq
 (.reg [Za 10 8,Zc 5 10])
 (.seq
 (.reg [Za 11 1,Za 12 0,Za 13 5,Zk 14 30 12 13,Zb 15 62 14,Zq 16 (.call { callee:=(.value (Zr 11)),args:=#[Zr 15],argTypes:=#[62] })])
 (.cond (Zr 16)
 (.seq
 (.reg [Za 17 5,Zc 4 17]) .ret) .skip))))
 (.reg [Zm 18 .add 3 8 1,Za 8 18]))))
def c92_1:ACode:=(.seq
 (.reg [Zq 4 (.assign (.const (.int .i64 (-1))))]) .ret)
def c92:ACode:=(.seq
 (.reg [Zf 4 0])
 (.seqL
 (.seq
 (.reg [Za 6 0,Ze 7 6 30,Zq 8 (.move (.const (.int .i64 0)))])
 (.block 0 (.loop b92_1))) c92_1))
theorem fd92:FnD Try.prog 92 19 [(.tmp 4)] c92:=⟨⟨Try.f92,Try.f92.body.getD .skip,Try.func92,by kernel_rfl,by kernel_rfl,by kernel_rfl,by kernel_rfl⟩⟩
def c93:ACode:=(.seq
 (.reg [Zq 4 (.assign (.const (.bool false)))])
 (.seq
 (.reg [Za 5 0,Za 6 1,Zo 7 110 #[Zr 5,Zr 6] #[60,173],Zm 8 .geq 3 7 0,Zc 4 8]) .ret))
theorem fd93:FnD Try.prog 93 9 [(.tmp 4)] c93:=⟨⟨Try.f93,Try.f93.body.getD .skip,Try.func93,by kernel_rfl,by kernel_rfl,by kernel_rfl,by kernel_rfl⟩⟩
def c94:ACode:=(.seq
 (.reg [Zj 1 64 0,Zq 2 (.assign (.const (.bool false)))])
 (.seq
 (.reg [Zb 3 64 1,Zo 4 95 #[Zr 3] #[64],Zq 5 (.unOp .not 4 (Zr 4)),Zc 2 5]) .ret))
theorem fd94:FnD Try.prog 94 6 [(.tmp 2)] c94:=⟨⟨Try.f94,Try.f94.body.getD .skip,Try.func94,by kernel_rfl,by kernel_rfl,by kernel_rfl,by kernel_rfl⟩⟩
def c95:ACode:=(.seq
 (.reg [Zj 1 64 0,Zq 2 (.assign (.const (.bool false)))])
 (.seq
 (.reg [Zd 3 64 1 0,Zb 4 3 3,Zm 5 .geq 3 4 1,Za 6 5,Zp 7 (.fieldAddr 64 (Zr 1) 0) 6 true,Zp 8 (.load 3 (Zr 7)) 6 true,Zp 9 (.binOp .leq 3 (Zr 8) (.const (.int .i64 3)) 3) 6 true,Zq 10 (.pick (Zr 6) (Zr 9) (.const (.bool false))),Za 11 10,Zp 12 (.fieldAddr 64 (Zr 1) 1) 11 true,Zp 13 (.load 9 (Zr 12)) 11 true,Zp 14 (.binOp .neq 9 (Zr 13) (.const (.string { data:=#[] })) 9) 11 true,Zq 15 (.pick (Zr 11) (Zr 14) (.const (.bool false))),Za 16 15,Zp 17 (.fieldAddr 64 (Zr 1) 1) 16 true,Zp 18 (.load 9 (Zr 17)) 16 true,Zp 19 (.call { callee:=(.builtin .len),args:=#[Zr 18],argTypes:=#[9] }) 16 true,Zp 20 (.binOp .leq 3 (Zr 19) (.const (.int .i64 100)) 3) 16 true,Zq 21 (.pick (Zr 16) (Zr 20) (.const (.bool false))),Za 22 21,Zp 23 (.fieldAddr 64 (Zr 1) 2) 22 true,Zp 24 (.load 3 (Zr 23)) 22 true,Zp 25 (.call { callee:=(.value (.func 75)),args:=#[Zr 24],argTypes:=#[3] }) 22 true,Zq 26 (.pick (Zr 22) (Zr 25) (.const (.bool false))),Za 27 26,Zp 28 (.fieldAddr 64 (Zr 1) 0) 27 true,Zp 29 (.load 3 (Zr 28)) 27 true,Zp 30 (.binOp .eql 3 (Zr 29) (.const (.int .i64 3)) 3) 27 true,Zp 31 (.move (Zr 30)) 27 true,Zp 32 (.fieldAddr 64 (Zr 1) 2) 31 false,Zp 33 (.load 3 (Zr 32)) 31 false,Zp 34 (.binOp .eql 3 (Zr 33) (.const (.int .i64 0)) 3) 31 false,Zp 35 (.pick (Zr 31) (.const (.bool true)) (Zr 34)) 27 true,Zq 36 (.pick (Zr 27) (Zr 35) (.const (.bool false))),Zc 2 36]) .ret))
theorem fd95:FnD Try.prog 95 37 [(.tmp 2)] c95:=⟨⟨Try.f95,Try.f95.body.getD .skip,Try.func95,by kernel_rfl,by kernel_rfl,by kernel_rfl,by kernel_rfl⟩⟩
def c97:ACode:=(.seq
 (.reg [Zf 2 0])
 (.seq
 (.cond (.const (.bool false))
 (.seq
 (.reg [Za 3 0,Zq 4 (.convert 176 201 (Zr 3)),Zo 5 120 #[Zr 4] #[201],Zc 2 5]) .ret) .skip)
 (.seq
 (.reg [Za 6 0,Zo 7 121 #[Zr 6] #[203],Zc 2 7]) .ret)))
theorem fd97:FnD Try.prog 97 8 [(.tmp 2)] c97:=⟨⟨Try.f97,Try.f97.body.getD .skip,Try.func97,by kernel_rfl,by kernel_rfl,by kernel_rfl,by kernel_rfl⟩⟩
def c99:ACode:=(.seq
 (.reg [Zj 3 64 0,Zq 4 (.assign (.const (.bool false)))])
 (.seq
 (.reg [Zd 5 64 3 0,Zb 6 3 5,Zm 7 .eql 3 6 3,Za 8 7,Zp 9 (.load 108 (Zr 1)) 8 true,Zp 10 (.makeFunc (.func 100) #[] #[Zr 2,Zr 3]) 8 true,Zp 11 (.call { callee:=(.value (.func 48)),args:=#[Zr 9,Zr 10],argTypes:=#[108,111] }) 8 true,Zp 12 (.unOp .not 4 (Zr 11)) 8 true,Zq 13 (.pick (Zr 8) (Zr 12) (.const (.bool false))),Zc 4 13]) .ret))
theorem fd99:FnD Try.prog 99 14 [(.tmp 4)] c99:=⟨⟨Try.f99,Try.f99.body.getD .skip,Try.func99,by kernel_rfl,by kernel_rfl,by kernel_rfl,by kernel_rfl⟩⟩
def c100:ACode:=(.seq
 (.reg [Zq 4 (.assign (.const (.bool false)))])
 (.seq
 (.dreg
 (.tk 0 (Zb 5 30 1)
 (.tk 1 (Za 6 0)
 (.tk 2 (Zk 7 30 5 6)
 (.tk 3 (Zb 8 62 7)
 (.tk 4 (Zd 9 64 2 1)
 (.tk 5 (Zb 10 9 9)
 (.tk 6 (Zd 11 64 2 2)
 (.tk 7 (Zb 12 3 11) .fin)))))))) [Zo 13 51 #[Zr 8,Zr 10,Zr 12] #[62,9,3],Zc 4 13]) .ret))
theorem fd100:FnD Try.prog 100 14 [(.tmp 4)] c100:=⟨⟨Try.f100,Try.f100.body.getD .skip,Try.func100,by kernel_rfl,by kernel_rfl,by kernel_rfl,by kernel_rfl⟩⟩
def b101_1:ACode:=(.block 1
 (.seq
 (.reg [Za 19 2,Za 20 1,Zn 21 .sub 3 19 20,Zc 10 21])
 (.seq
 (.seq
 (.reg [Za 22 10,Zm 23 .leq 3 22 12])
 (.cond (Zr 23)
 (.seq
 (.reg [Za 24 0,Za 25 1,Za 26 2,Zo 27 122 #[Zr 24,Zr 25,Zr 26] #[108,3,3]]) .ret) .skip))
 (.seq
 (.seq
 (.reg [Za 28 3,Zm 29 .eql 3 28 0])
 (.cond (Zr 29)
 (.seq
 (.reg [Za 30 0,Za 31 1,Za 32 2,Zo 33 123 #[Zr 30,Zr 31,Zr 32] #[108,3,3]]) .ret) .skip))
 (.seq
 (.seq
 (.reg [Za 34 8,Zq 35 (.unOp .not 4 (Zr 34))])
 (.cond (Zr 35)
 (.seq
 (.reg [Za 36 0,Za 37 1,Za 38 2,Zo 39 124 #[Zr 36,Zr 37,Zr 38] #[108,3,3]])
 (.reg [Za 40 3,Zm 41 .sub 3 40 1,Zc 3 41])) .skip))
 (.seq
 (.reg [Za 43 0,Za 44 1,Za 45 2,Zo 46 125 #[Zr 43,Zr 44,Zr 45] #[108,3,3],Za 42 46,Zh 47 42 0,Zh 48 42 1,Zc 11 47,Zc 12 48])
 (.seq
 (.seq
 (.reg [Za 49 12,Zm 50 .eql 192 49 2])
 (.cond (Zr 50)
 (.seq
 (.reg [Za 51 0,Za 52 1,Za 53 2,Zo 54 126 #[Zr 51,Zr 52,Zr 53] #[108,3,3]])
 (.seq
 (.reg [Za 55 2,Zm 56 .sub 3 55 1,Za 57 11,Za 58 1,Zn 59 .sub 3 57 58,Zn 60 .sub 3 56 59,Zc 11 60])
 (.reg [Zf 12 1]))) .skip))
 (.seq
 (.seq
 (.reg [Za 61 8,Za 62 61,Zp 63 (.move (Zr 9)) 62 true,Zq 64 (.pick (Zr 62) (Zr 63) (.const (.bool false))),Za 65 64,Zp 66 (.move (Zr 12)) 65 true,Zp 67 (.binOp .eql 192 (Zr 66) (.const (.int .i64 1)) 192) 65 true,Zq 68 (.pick (Zr 65) (Zr 67) (.const (.bool false)))])
 (.cond (Zr 68)
 (.seq
 (.reg [Za 69 0,Za 70 1,Za 71 2,Zo 72 127 #[Zr 69,Zr 70,Zr 71] #[108,3,3]])
 (.cond (Zr 72) .ret .skip)) .skip))
 (.seq
 (.seq
 (.dreg
 (.tk 0 (Za 73 1)
 (.tk 1 (Zm 74 .gtr 3 73 0)
 (.tk 2 (Za 75 74)
 (.tk 3 (Zp 76 (.move (Zr 0)) 75 true)
 (.tk 4 (Zp 77 (.move (Zr 1)) 75 true)
 (.tk 5 (Zp 78 (.binOp .sub 3 (Zr 77) (.const (.int .i64 1)) 3) 75 true)
 (.tk 6 (Zp 79 (.indexAddr 108 (Zr 76) (Zr 78)) 75 true)
 (.tk 7 (Zp 80 (.load 3 (Zr 79)) 75 true)
 (.tk 8 (Zp 81 (.move (Zr 0)) 75 true)
 (.tk 9 (Zp 82 (.move (Zr 11)) 75 true)
 (.tk 10 (Zp 83 (.indexAddr 108 (Zr 81) (Zr 82)) 75 true)
 (.tk 11 (Zp 84 (.load 3 (Zr 83)) 75 true) .fin)))))))))))) [Zp 85 (.call { callee:=(.value (.func 128)),args:=#[Zr 80,Zr 84],argTypes:=#[3,3] }) 75 true,Zp 86 (.unOp .not 4 (Zr 85)) 75 true,Zq 87 (.pick (Zr 75) (Zr 86) (.const (.bool false)))])
 (.cond (Zr 87)
 (.seq
 (.reg [Za 88 0,Za 89 1,Za 90 2,Za 91 11,Zo 92 129 #[Zr 88,Zr 89,Zr 90,Zr 91] #[108,3,3,3],Zc 13 92])
 (.seq
 (.reg [Za 93 13,Zc 1 93]) (.exit 1))) .skip))
 (.seq
 (.reg [Za 95 0,Za 96 1,Za 97 2,Za 98 11,Zo 99 130 #[Zr 95,Zr 96,Zr 97,Zr 98] #[108,3,3,3],Za 94 99,Zh 100 94 0,Zh 101 94 1,Zc 14 100,Zc 15 101])
 (.seq
 (.reg [Za 102 15,Zc 9 102])
 (.seq
 (.reg [Za 103 14,Za 104 1,Zn 105 .sub 3 103 104,Za 106 2,Za 107 14,Zn 108 .sub 3 106 107,Zc 16 105,Zc 17 108])
 (.seq
 (.reg [Za 109 10,Zm 110 .quo 3 109 8,Zc 18 110])
 (.seq
 (.reg [Za 111 16,Za 112 17,Zn 113 .lss 3 111 112])
 (.cond (Zr 113)
 (.seq
 (.reg [Za 114 16,Za 115 18,Zn 116 .geq 3 114 115,Zc 8 116])
 (.seq
 (.reg [Za 117 0,Za 118 1,Za 119 14,Za 120 3,Zo 121 101 #[Zr 117,Zr 118,Zr 119,Zr 120] #[108,3,3,3]])
 (.reg [Za 122 14,Zm 123 .add 3 122 1,Zc 1 123])))
 (.seq
 (.reg [Za 124 17,Za 125 18,Zn 126 .geq 3 124 125,Zc 8 126])
 (.seq
 (.reg [Za 127 0,Za 128 14,Zm 129 .add 3 128 1,Za 130 2,Za 131 3,Zo 132 101 #[Zr 127,Zr 129,Zr 130,Zr 131] #[108,3,3,3]])
 (.reg [Za 133 14,Zc 2 133]))))))))))))))))))
def c101:ACode:=(.seq
 (.reg [Zq 8 (.assign (.const (.bool true)))])
 (.seq
 (.reg [Zq 9 (.assign (.const (.bool true)))])
 (.block 0 (.loop b101_1))))
theorem fd101:FnD Try.prog 101 134 [] c101:=⟨⟨Try.f101,Try.f101.body.getD .skip,Try.func101,by kernel_rfl,by kernel_rfl,by kernel_rfl,by kernel_rfl⟩⟩
def b102_1:ACode:=(.seq
 (.reg [Zn 9 .lss 3 8 7])
 (.seq
 (.cond (Zr 9) .skip (.exit 0))
 (.seq
 (.block 1
 (.seq
 (.reg [Za 10 8,Zc 5 10])
 (.seq
 (.reg [Za 11 1,Za 12 0,Za 13 5,Zk 14 108 12 13,Zb 15 3 14,Zn 16 .eql 3 11 15])
 (.cond (Zr 16)
 (.seq
 (.reg [Za 17 5,Zc 4 17]) .ret) .skip))))
 (.reg [Zm 18 .add 3 8 1,Za 8 18]))))
def c102_1:ACode:=(.seq
 (.reg [Zq 4 (.assign (.const (.int .i64 (-1))))]) .ret)
def c102:ACode:=(.seq
 (.reg [Zf 4 0])
 (.seqL
 (.seq
 (.reg [Za 6 0,Ze 7 6 108,Zq 8 (.move (.const (.int .i64 0)))])
 (.block 0 (.loop b102_1))) c102_1))
theorem fd102:FnD Try.prog 102 19 [(.tmp 4)] c102:=⟨⟨Try.f102,Try.f102.body.getD .skip,Try.func102,by kernel_rfl,by kernel_rfl,by kernel_rfl,by kernel_rfl⟩⟩
def c103:ACode:=(.seq
 (.reg [Zq 2 (.assign (.const (.slice none 0 0)))])
 (.seq
 (.seq
 (.reg [Za 3 0,Zq 4 (.binOp .eql 26 (Zr 3) (.const (.slice none 0 0)) 26)])
 (.cond (Zr 4)
 (.seq
 (.reg [Zq 2 (.assign (.const (.slice none 0 0)))]) .ret) .skip))
 (.seq
 (.reg [Zq 5 (.buildSlice 26 0 #[]),Za 6 0,Zl 7 5 6 26,Zc 2 7]) .ret)))
theorem fd103:FnD Try.prog 103 8 [(.tmp 2)] c103:=⟨⟨Try.f103,Try.f103.body.getD .skip,Try.func103,by kernel_rfl,by kernel_rfl,by kernel_rfl,by kernel_rfl⟩⟩
def c104:ACode:=(.seq
 (.reg [Zj 3 185 1,Zq 4 (.assign (.const (.bool false)))])
 (.seq
 (.seq
 (.dreg
 (.tk 0 (Za 9 0)
 (.tk 1 (Zq 10 (.nilCheck (Zr 9)))
 (.tk 2 (Zd 11 127 10 4)
 (.tk 3 (Zb 12 125 11)
 (.tk 4 (Zb 13 185 3)
 (.one [5,6,7,8,9,10] (Zq 14 (.lookup 125 (Zr 12) (Zr 13) true))
 (.tk 6 (Za 8 14)
 (.tk 7 (Zh 15 8 0)
 (.tk 8 (Zh 16 8 1)
 (.tk 9 (Zc 5 15) .fin)))))))))) [Zc 6 16])
 (.seq
 (.reg [Za 17 6])
 (.cond (Zr 17)
 (.seq
 (.reg [Za 18 5,Zc 4 18]) .ret) .skip)))
 (.seq
 (.reg [Za 19 0,Zb 20 185 3,Zo 21 131 #[Zr 19,Zr 20] #[93,185],Zc 7 21])
 (.seq
 (.dreg
 (.tk 0 (Za 22 0)
 (.tk 1 (Zq 23 (.nilCheck (Zr 22)))
 (.tk 2 (Zd 24 127 23 4)
 (.tk 3 (Zb 25 125 24)
 (.tk 4 (Zb 26 185 3)
 (.tk 5 (Za 27 7) .fin)))))) [⟨none,(.mapUpdate 125 (Zr 25) (Zr 26) (Zr 27)),none⟩])
 (.seq
 (.reg [Za 28 7,Zc 4 28]) .ret)))))
theorem fd104:FnD Try.prog 104 29 [(.tmp 4)] c104:=⟨⟨Try.f104,Try.f104.body.getD .skip,Try.func104,by kernel_rfl,by kernel_rfl,by kernel_rfl,by kernel_rfl⟩⟩
def c105:ACode:=(.seq
 (.reg [Zq 2 (.assign (.const (.slice none 0 0)))])
 (.seq
 (.reg [Za 3 0,Za 4 0,Ze 5 4 26,Za 6 0,Ze 7 6 26,Zq 8 (.slice 26 (Zr 3) none (some (Zr 5)) (some (Zr 7))),Zc 2 8]) .ret))
theorem fd105:FnD Try.prog 105 9 [(.tmp 2)] c105:=⟨⟨Try.f105,Try.f105.body.getD .skip,Try.func105,by kernel_rfl,by kernel_rfl,by kernel_rfl,by kernel_rfl⟩⟩
def b106_1:ACode:=(.block 1
 (.seq
 (.reg [Zb 6 108 2,Zo 7 133 #[Zr 6] #[108],Zq 8 (.makeFunc (.func 134) #[] #[Zr 3,Zr 2]),Zo 9 132 #[Zr 7,Zr 8] #[108,111],Zc 5 9])
 (.seq
 (.seq
 (.reg [Za 10 5,Ze 11 10 108,Zb 12 108 2,Ze 13 12 108,Zn 14 .eql 3 11 13])
 (.cond (Zr 14)
 (.seq
 (.reg [Za 15 5,Zc 4 15]) .ret) .skip))
 (.reg [Za 16 5,Zg 108 2 16]))))
def c106:ACode:=(.seq
 (.reg [Zj 2 108 0,Zj 3 187 1,Zq 4 (.assign (.const (.slice none 0 0)))])
 (.block 0 (.loop b106_1)))
theorem fd106:FnD Try.prog 106 17 [(.tmp 4)] c106:=⟨⟨Try.f106,Try.f106.body.getD .skip,Try.func106,by kernel_rfl,by kernel_rfl,by kernel_rfl,by kernel_rfl⟩⟩
def c107:ACode:=(.seq
 (.reg [Zq 5 (.assign (.const (.bool false)))])
 (.seq
 (.reg [Zb 6 108 2,Za 7 0,Zo 8 83 #[Zr 6,Zr 7] #[108,3],Zq 9 (.unOp .not 4 (Zr 8)),Zc 5 9]) .ret))
theorem fd107:FnD Try.prog 107 10 [(.tmp 5)] c107:=⟨⟨Try.f107,Try.f107.body.getD .skip,Try.func107,by kernel_rfl,by kernel_rfl,by kernel_rfl,by kernel_rfl⟩⟩
def b108_1:ACode:=(.seq
 (.reg [Zn 14 .lss 3 13 12])
 (.seq
 (.cond (Zr 14) .skip (.exit 0))
 (.seq
 (.block 1
 (.seq
 (.reg [Zk 15 108 11 13,Zb 16 3 15,Zc 10 16])
 (.seq
 (.seq
 (.reg [Zb 17 188 3,Za 18 10,Zq 19 (.lookup 188 (Zr 17) (Zr 18) false),Za 20 19,Zp 21 (.load 93 (Zr 4)) 20 false,Zp 22 (.nilCheck (Zr 21)) 20 false,Zp 23 (.fieldAddr 127 (Zr 22) 0) 20 false,Zp 24 (.load 30 (Zr 23)) 20 false,Zp 25 (.move (Zr 10)) 20 false,Zp 26 (.indexAddr 30 (Zr 24) (Zr 25)) 20 false,Zp 27 (.load 62 (Zr 26)) 20 false,Zp 28 (.move (Zr 0)) 20 false,Zp 29 (.move (Zr 1)) 20 false,Zp 30 (.call { callee:=(.value (.func 51)),args:=#[Zr 27,Zr 28,Zr 29],argTypes:=#[62,9,3] }) 20 false,Zp 31 (.unOp .not 4 (Zr 30)) 20 false,Zq 32 (.pick (Zr 20) (.const (.bool true)) (Zr 31))])
 (.cond (Zr 32) (.exit 1) .skip))
 (.seq
 (.reg [Zb 33 188 3,Za 34 10,⟨none,(.mapUpdate 188 (Zr 33) (Zr 34) (.const (.bool true))),none⟩])
 (.seq
 (.dreg
 (.tk 0 (Zb 35 93 4)
 (.tk 1 (Za 36 10)
 (.one [2,3,4,5,6,7,8,9,10,11,12,13,14,15,16,17,18,19,20,21,22,23,24,25,26,27,28,29] (Zo 37 84 #[Zr 35,Zr 36] #[93,3])
 (.tk 3 (Zq 38 (.unOp .not 4 (Zr 37)))
 (.tk 4 (Za 39 38)
 (.tk 5 (Zp 40 (.load 110 (Zr 5)) 39 false)
 (.tk 6 (Zp 41 (.load 93 (Zr 4)) 39 false)
 (.tk 7 (Zp 42 (.nilCheck (Zr 41)) 39 false)
 (.tk 8 (Zp 43 (.fieldAddr 127 (Zr 42) 0) 39 false)
 (.tk 9 (Zp 44 (.load 30 (Zr 43)) 39 false)
 (.tk 10 (Zp 45 (.move (Zr 10)) 39 false)
 (.tk 11 (Zp 46 (.indexAddr 30 (Zr 44) (Zr 45)) 39 false)
 (.tk 12 (Zp 47 (.fieldAddr 62 (Zr 46) 3) 39 false)
 (.tk 13 (Zp 48 (.load 60 (Zr 47)) 39 false)
 (.tk 14 (Zp 49 (.indexAddr 60 (Zr 48) (.const (.int .i64 0))) 39 false)
 (.tk 15 (Zp 50 (.fieldAddr 64 (Zr 49) 1) 39 false)
 (.tk 16 (Zp 51 (.load 9 (Zr 50)) 39 false)
 (.tk 17 (Zp 52 (.load 93 (Zr 4)) 39 false)
 (.tk 18 (Zp 53 (.nilCheck (Zr 52)) 39 false)
 (.tk 19 (Zp 54 (.fieldAddr 127 (Zr 53) 0) 39 false)
 (.tk 20 (Zp 55 (.load 30 (Zr 54)) 39 false)
 (.tk 21 (Zp 56 (.move (Zr 10)) 39 false)
 (.tk 22 (Zp 57 (.indexAddr 30 (Zr 55) (Zr 56)) 39 false)
 (.tk 23 (Zp 58 (.fieldAddr 62 (Zr 57) 3) 39 false)
 (.tk 24 (Zp 59 (.load 60 (Zr 58)) 39 false)
 (.tk 25 (Zp 60 (.indexAddr 60 (Zr 59) (.const (.int .i64 0))) 39 false)
 (.tk 26 (Zp 61 (.fieldAddr 64 (Zr 60) 2) 39 false)
 (.tk 27 (Zp 62 (.load 3 (Zr 61)) 39 false) .fin)))))))))))))))))))))))))))) [Zp 63 (.call { callee:=(.value (Zr 40)),args:=#[Zr 51,Zr 62],argTypes:=#[9,3] }) 39 false,Zq 64 (.pick (Zr 39) (.const (.bool true)) (Zr 63))])
 (.cond (Zr 64)
 (.seq
 (.reg [Zq 8 (.assign (.const (.bool true)))]) .ret) .skip))))))
 (.reg [Zm 65 .add 3 13 1,Za 13 65]))))
def c108_1:ACode:=(.seq
 (.reg [Zq 8 (.assign (.const (.bool false)))]) .ret)
def c108:ACode:=(.seq
 (.reg [Zq 8 (.assign (.const (.bool false)))])
 (.seqL
 (.seq
 (.reg [Zb 11 108 2,Ze 12 11 108,Zq 13 (.move (.const (.int .i64 0)))])
 (.block 0 (.loop b108_1))) c108_1))
theorem fd108:FnD Try.prog 108 66 [(.tmp 8)] c108:=⟨⟨Try.f108,Try.f108.body.getD .skip,Try.func108,by kernel_rfl,by kernel_rfl,by kernel_rfl,by kernel_rfl⟩⟩
def b110_1:ACode:=(.seq
 (.reg [Zn 9 .lss 3 8 7])
 (.seq
 (.cond (Zr 9) .skip (.exit 0))
 (.seq
 (.block 1
 (.seq
 (.reg [Za 10 8,Zc 5 10])
 (.seq
 (.reg [Za 11 1,Za 12 0,Za 13 5,Zk 14 60 12 13,Zb 15 64 14,Zq 16 (.call { callee:=(.value (Zr 11)),args:=#[Zr 15],argTypes:=#[64] })])
 (.cond (Zr 16)
 (.seq
 (.reg [Za 17 5,Zc 4 17]) .ret) .skip))))
 (.reg [Zm 18 .add 3 8 1,Za 8 18]))))
def c110_1:ACode:=(.seq
 (.reg [Zq 4 (.assign (.const (.int .i64 (-1))))]) .ret)
def c110:ACode:=(.seq
 (.reg [Zf 4 0])
 (.seqL
 (.seq
 (.reg [Za 6 0,Ze 7 6 60,Zq 8 (.move (.const (.int .i64 0)))])
 (.block 0 (.loop b110_1))) c110_1))
theorem fd110:FnD Try.prog 110 19 [(.tmp 4)] c110:=⟨⟨Try.f110,Try.f110.body.getD .skip,Try.func110,by kernel_rfl,by kernel_rfl,by kernel_rfl,by kernel_rfl⟩⟩
def c120:ACode:=(.seq
 (.reg [Zf 2 0])
 (.seq
 (.seq
 (.reg [Za 3 0,Zq 4 (.binOp .geq 201 (Zr 3) (.const (.int .u32 65536)) 201)])
 (.cond (Zr 4)
 (.seq
 (.reg [Za 5 0,Zq 6 (.binOp .shr 201 (Zr 5) (.const (.int .u64 16)) 176),Zc 0 6])
 (.reg [Zf 2 16])) .skip))
 (.seq
 (.seq
 (.reg [Za 7 0,Zq 8 (.binOp .geq 201 (Zr 7) (.const (.int .u32 256)) 201)])
 (.cond (Zr 8)
 (.seq
 (.reg [Za 9 0,Zq 10 (.binOp .shr 201 (Zr 9) (.const (.int .u64 8)) 176),Zc 0 10])
 (.reg [Za 11 2,Zm 12 .add 3 11 8,Zc 2 12])) .skip))
 (.seq
 (.reg [Za 13 2,Za 14 0,Zq 15 (.convert 201 5 (Zr 14)),⟨some 16,(.index 9 (.const (.string { data:=(List.toArray (List.append (List.append [0,1,2,2,3,3,3,3,4,4,4,4,4,4,4,4,5,5,5,5,5,5,5,5,5,5,5,5,5,5,5,5,6,6,6,6,6,6,6,6,6,6,6,6,6,6,6,6,6,6,6,6,6,6,6,6,6,6,6,6,6,6,6,6] [7,7,7,7,7,7,7,7,7,7,7,7,7,7,7,7,7,7,7,7,7,7,7,7,7,7,7,7,7,7,7,7,7,7,7,7,7,7,7,7,7,7,7,7,7,7,7,7,7,7,7,7,7,7,7,7,7,7,7,7,7,7,7,7]) (List.append [8,8,8,8,8,8,8,8,8,8,8,8,8,8,8,8,8,8,8,8,8,8,8,8,8,8,8,8,8,8,8,8,8,8,8,8,8,8,8,8,8,8,8,8,8,8,8,8,8,8,8,8,8,8,8,8,8,8,8,8,8,8,8,8] [8,8,8,8,8,8,8,8,8,8,8,8,8,8,8,8,8,8,8,8,8,8,8,8,8,8,8,8,8,8,8,8,8,8,8,8,8,8,8,8,8,8,8,8,8,8,8,8,8,8,8,8,8,8,8,8,8,8,8,8,8,8,8,8]))) })) (Zr 15)),none⟩,Zq 17 (.convert 5 3 (Zr 16)),Zn 18 .add 3 13 17,Zc 2 18]) .ret))))
theorem fd120:FnD Try.prog 120 19 [(.tmp 2)] c120:=⟨⟨Try.f120,Try.f120.body.getD .skip,Try.func120,by kernel_rfl,by kernel_rfl,by kernel_rfl,by kernel_rfl⟩⟩
def c121:ACode:=(.seq
 (.reg [Zf 2 0])
 (.seq
 (.seq
 (.reg [Za 3 0,Zq 4 (.binOp .geq 203 (Zr 3) (.const (.int .u64 4294967296)) 203)])
 (.cond (Zr 4)
 (.seq
 (.reg [Za 5 0,Zq 6 (.binOp .shr 203 (Zr 5) (.const (.int .u64 32)) 176),Zc 0 6])
 (.reg [Zf 2 32])) .skip))
 (.seq
 (.seq
 (.reg [Za 7 0,Zq 8 (.binOp .geq 203 (Zr 7) (.const (.int .u64 65536)) 203)])
 (.cond (Zr 8)
 (.seq
 (.reg [Za 9 0,Zq 10 (.binOp .shr 203 (Zr 9) (.const (.int .u64 16)) 176),Zc 0 10])
 (.reg [Za 11 2,Zm 12 .add 3 11 16,Zc 2 12])) .skip))
 (.seq
 (.seq
 (.reg [Za 13 0,Zq 14 (.binOp .geq 203 (Zr 13) (.const (.int .u64 256)) 203)])
 (.cond (Zr 14)
 (.seq
 (.reg [Za 15 0,Zq 16 (.binOp .shr 203 (Zr 15) (.const (.int .u64 8)) 176),Zc 0 16])
 (.reg [Za 17 2,Zm 18 .add 3 17 8,Zc 2 18])) .skip))
 (.seq
 (.reg [Za 19 2,Za 20 0,Zq 21 (.convert 203 5 (Zr 20)),⟨some 22,(.index 9 (.const (.string { data:=(List.toArray (List.append (List.append [0,1,2,2,3,3,3,3,4,4,4,4,4,4,4,4,5,5,5,5,5,5,5,5,5,5,5,5,5,5,5,5,6,6,6,6,6,6,6,6,6,6,6,6,6,6,6,6,6,6,6,6,6,6,6,6,6,6,6,6,6,6,6,6] [7,7,7,7,7,7,7,7,7,7,7,7,7,7,7,7,7,7,7,7,7,7,7,7,7,7,7,7,7,7,7,7,7,7,7,7,7,7,7,7,7,7,7,7,7,7,7,7,7,7,7,7,7,7,7,7,7,7,7,7,7,7,7,7]) (List.append [8,8,8,8,8,8,8,8,8,8,8,8,8,8,8,8,8,8,8,8,8,8,8,8,8,8,8,8,8,8,8,8,8,8,8,8,8,8,8,8,8,8,8,8,8,8,8,8,8,8,8,8,8,8,8,8,8,8,8,8,8,8,8,8] [8,8,8,8,8,8,8,8,8,8,8,8,8,8,8,8,8,8,8,8,8,8,8,8,8,8,8,8,8,8,8,8,8,8,8,8,8,8,8,8,8,8,8,8,8,8,8,8,8,8,8,8,8,8,8,8,8,8,8,8,8,8,8,8]))) })) (Zr 21)),none⟩,Zq 23 (.convert 5 3 (Zr 22)),Zn 24 .add 3 19 23,Zc 2 24]) .ret)))))
theorem fd121:FnD Try.prog 121 25 [(.tmp 2)] c121:=⟨⟨Try.f121,Try.f121.body.getD .skip,Try.func121,by kernel_rfl,by kernel_rfl,by kernel_rfl,by kernel_rfl⟩⟩
def b122_1:ACode:=(.seq
 (.seq
 (.dreg
 (.tk 0 (Za 16 7)
 (.tk 1 (Za 17 1)
 (.tk 2 (Zn 18 .gtr 3 16 17)
 (.tk 3 (Za 19 18)
 (.tk 4 (Zp 20 (.move (Zr 0)) 19 true)
 (.tk 5 (Zp 21 (.move (Zr 7)) 19 true)
 (.tk 6 (Zp 22 (.indexAddr 108 (Zr 20) (Zr 21)) 19 true)
 (.tk 7 (Zp 23 (.load 3 (Zr 22)) 19 true)
 (.tk 8 (Zp 24 (.move (Zr 0)) 19 true)
 (.tk 9 (Zp 25 (.move (Zr 7)) 19 true)
 (.tk 10 (Zp 26 (.binOp .sub 3 (Zr 25) (.const (.int .i64 1)) 3) 19 true)
 (.tk 11 (Zp 27 (.indexAddr 108 (Zr 24) (Zr 26)) 19 true)
 (.tk 12 (Zp 28 (.load 3 (Zr 27)) 19 true) .fin))))))))))))) [Zp 29 (.call { callee:=(.value (.func 128)),args:=#[Zr 23,Zr 28],argTypes:=#[3,3] }) 19 true,Zq 30 (.pick (Zr 19) (Zr 29) (.const (.bool false)))])
 (.cond (Zr 30) .skip (.exit 2)))
 (.seq
 (.block 3
 (.dreg
 (.tk 0 (Za 33 0)
 (.tk 1 (Za 34 7)
 (.tk 2 (Za 35 0)
 (.tk 3 (Za 36 7)
 (.tk 4 (Zm 37 .sub 3 36 1)
 (.tk 5 (Za 38 0)
 (.tk 6 (Za 39 7)
 (.tk 7 (Zm 40 .sub 3 39 1)
 (.tk 8 (Zk 41 108 38 40)
 (.tk 9 (Zb 42 3 41)
 (.tk 10 (Za 43 0)
 (.tk 11 (Za 44 7)
 (.tk 12 (Zk 45 108 43 44)
 (.tk 13 (Zb 46 3 45)
 (.tk 14 (Zk 47 108 33 34)
 (.one [2,3,4,15,16,17] (Zg 3 47 42) .fin)))))))))))))))) [Zk 48 108 35 37,Zg 3 48 46]))
 (.reg [Za 31 7,Zm 32 .sub 3 31 1,Zc 7 32])))
def Zki:ACode:=(.reg [Za 13 6,Zm 14 .add 3 13 1,Zc 6 14])
def Zkj:ACode:=(.seq
 (.seq
 (.reg [Za 10 6,Za 11 2,Zn 12 .lss 3 10 11])
 (.cond (Zr 12) .skip (.exit 0)))
 (.seqL
 (.block 1
 (.seq
 (.reg [Za 15 6,Zc 7 15])
 (.block 2 (.loop b122_1)))) Zki))
def c122:ACode:=(.seq
 (.reg [Za 8 1,Zm 9 .add 3 8 1,Zc 6 9])
 (.block 0 (.loop Zkj)))
theorem fd122:FnD Try.prog 122 49 [] c122:=⟨⟨Try.f122,Try.f122.body.getD .skip,Try.func122,by kernel_rfl,by kernel_rfl,by kernel_rfl,by kernel_rfl⟩⟩
def c128:ACode:=(.seq
 (.reg [Zq 4 (.assign (.const (.bool false)))])
 (.seq
 (.reg [Za 5 0,Zo 6 144 #[Zr 5] #[3],Za 7 6,Zp 8 (.move (Zr 1)) 7 true,Zp 9 (.call { callee:=(.value (.func 144)),args:=#[Zr 8],argTypes:=#[3] }) 7 true,Zp 10 (.unOp .not 4 (Zr 9)) 7 true,Zq 11 (.pick (Zr 7) (Zr 10) (.const (.bool false))),Za 12 11,Zp 13 (.move (Zr 0)) 12 false,Zp 14 (.move (Zr 1)) 12 false,Zp 15 (.binOp .lss 3 (Zr 13) (Zr 14) 3) 12 false,Zq 16 (.pick (Zr 12) (.const (.bool true)) (Zr 15)),Zc 4 16]) .ret))
theorem fd128:FnD Try.prog 128 17 [(.tmp 4)] c128:=⟨⟨Try.f128,Try.f128.body.getD .skip,Try.func128,by kernel_rfl,by kernel_rfl,by kernel_rfl,by kernel_rfl⟩⟩
def b131_1:ACode:=(.seq
 (.seq
 (.reg [Za 77 7,Zd 78 185 3 2,Zd 79 99 78 1,Zb 80 3 79,Zn 81 .leq 3 77 80])
 (.cond (Zr 81) .skip (.exit 0)))
 (.seq
 (.block 1
 (.seq
 (.reg [Zb 84 93 2,Zd 85 185 3 2,Zd 86 99 85 0,Zb 87 3 86,Za 88 7,Zq 89 (.build 99 #[(0,(Zr 87)),(1,(Zr 88))]),Zo 90 49 #[Zr 84,Zr 89] #[93,99],Zq 91 (.makeFunc (.func 145) #[] #[Zr 2,Zr 5]),Zo 92 48 #[Zr 90,Zr 91] #[108,111],Zc 8 92])
 (.seq
 (.reg [Za 93 8,Za 94 93,Zp 95 (.load 93 (Zr 2)) 94 true,Zp 96 (.fieldAddr 185 (Zr 3) 0) 94 true,Zp 97 (.load 3 (Zr 96)) 94 true,Zp 98 (.fieldAddr 185 (Zr 3) 1) 94 true,Zp 99 (.load 3 (Zr 98)) 94 true,Zp 100 (.binOp .add 3 (Zr 99) (.const (.int .i64 1)) 3) 94 true,Zp 101 (.move (Zr 7)) 94 true,Zp 102 (.fieldAddr 185 (Zr 3) 2) 94 true,Zp 103 (.fieldAddr 99 (Zr 102) 1) 94 true,Zp 104 (.load 3 (Zr 103)) 94 true,Zp 105 (.build 99 #[(0,(Zr 101)),(1,(Zr 104))]) 94 true,Zp 106 (.build 185 #[(0,(Zr 97)),(1,(Zr 100)),(2,(Zr 105))]) 94 true,Zp 107 (.call { callee:=(.value (.func 104)),args:=#[Zr 95,Zr 106],argTypes:=#[93,185] }) 94 true,Zq 108 (.pick (Zr 94) (Zr 107) (.const (.bool false)))])
 (.cond (Zr 108)
 (.seq
 (.reg [Zq 4 (.assign (.const (.bool true)))]) .ret) .skip))))
 (.reg [Za 82 7,Zm 83 .add 3 82 1,Zc 7 83])))
def c131_1:ACode:=(.seq
 (.reg [Zq 4 (.assign (.const (.bool false)))]) .ret)
def c131:ACode:=(.seq
 (.reg [Zj 2 93 0,Zj 3 185 1,Zq 4 (.assign (.const (.bool false)))])
 (.seq
 (.dreg
 (.tk 0 (Zb 9 93 2)
 (.tk 1 (Zq 10 (.nilCheck (Zr 9)))
 (.tk 2 (Zd 11 127 10 0)
 (.tk 3 (Zb 12 30 11)
 (.tk 4 (Zd 13 185 3 0)
 (.tk 5 (Zb 14 3 13)
 (.tk 6 (Zk 15 30 12 14)
 (.tk 7 (Zd 16 62 15 3)
 (.tk 8 (Zb 17 60 16)
 (.tk 9 (Zd 18 185 3 1)
 (.tk 10 (Zb 19 3 18)
 (.tk 11 (Zq 20 (.slice 60 (Zr 17) (some (Zr 19)) none none))
 (.one [0,1,2,3,4,5,6,7,8,9,10,11,12,13] (Zi 5 60) .fin))))))))))))) [Zg 60 5 20])
 (.seq
 (.seq
 (.reg [Zb 21 60 5,Ze 22 21 60,Zm 23 .eql 3 22 0])
 (.cond (Zr 23)
 (.seq
 (.reg [Zd 24 185 3 2,Zd 25 99 24 0,Zb 26 3 25,Zd 27 185 3 2,Zd 28 99 27 1,Zb 29 3 28,Zn 30 .eql 3 26 29,Zc 4 30]) .ret) .skip))
 (.seq
 (.seq
 (.reg [Zd 31 185 3 2,Zd 32 99 31 0,Zb 33 3 32,Zd 34 185 3 2,Zd 35 99 34 1,Zb 36 3 35,Zn 37 .geq 3 33 36])
 (.cond (Zr 37)
 (.seq
 (.reg [Zq 4 (.assign (.const (.bool false)))]) .ret) .skip))
 (.seq
 (.seq
 (.reg [Zb 38 60 5,Zq 39 (.indexAddr 60 (Zr 38) (.const (.int .i64 0))),Zb 40 64 39,Zi 6 64,Zg 64 6 40])
 (.seq
 (.reg [Zd 41 64 6 0,Zb 42 3 41,Zm 43 .neq 3 42 3])
 (.cond (Zr 43)
 (.seq
 (.dreg
 (.tk 0 (Zb 44 64 6)
 (.tk 1 (Zb 45 93 2)
 (.tk 2 (Zq 46 (.nilCheck (Zr 45)))
 (.tk 3 (Zd 47 127 46 1)
 (.tk 4 (Zb 48 32 47)
 (.tk 5 (Zd 49 185 3 2)
 (.tk 6 (Zd 50 99 49 0)
 (.tk 7 (Zb 51 3 50)
 (.tk 8 (Zk 52 32 48 51)
 (.tk 9 (Zb 53 66 52)
 (.one [10,11,12,13,14,15,16,17,18,19,20,21,22,23,24,25,26,27,28,29] (Zo 54 80 #[Zr 44,Zr 53] #[64,66])
 (.tk 11 (Za 55 54)
 (.tk 12 (Zp 56 (.load 93 (Zr 2)) 55 true)
 (.tk 13 (Zp 57 (.fieldAddr 185 (Zr 3) 0) 55 true)
 (.tk 14 (Zp 58 (.load 3 (Zr 57)) 55 true)
 (.tk 15 (Zp 59 (.fieldAddr 185 (Zr 3) 1) 55 true)
 (.tk 16 (Zp 60 (.load 3 (Zr 59)) 55 true)
 (.tk 17 (Zp 61 (.binOp .add 3 (Zr 60) (.const (.int .i64 1)) 3) 55 true)
 (.tk 18 (Zp 62 (.fieldAddr 185 (Zr 3) 2) 55 true)
 (.tk 19 (Zp 63 (.fieldAddr 99 (Zr 62) 0) 55 true)
 (.tk 20 (Zp 64 (.load 3 (Zr 63)) 55 true)
 (.tk 21 (Zp 65 (.binOp .add 3 (Zr 64) (.const (.int .i64 1)) 3) 55 true)
 (.tk 22 (Zp 66 (.fieldAddr 185 (Zr 3) 2) 55 true)
 (.tk 23 (Zp 67 (.fieldAddr 99 (Zr 66) 1) 55 true)
 (.tk 24 (Zp 68 (.load 3 (Zr 67)) 55 true)
 (.tk 25 (Zp 69 (.build 99 #[(0,(Zr 65)),(1,(Zr 68))]) 55 true)
 (.tk 26 (Zp 70 (.build 185 #[(0,(Zr 58)),(1,(Zr 61)),(2,(Zr 69))]) 55 true) .fin))))))))))))))))))))))))))) [Zp 71 (.call { callee:=(.value (.func 104)),args:=#[Zr 56,Zr 70],argTypes:=#[93,185] }) 55 true,Zq 72 (.pick (Zr 55) (Zr 71) (.const (.bool false))),Zc 4 72]) .ret) .skip)))
 (.seqL
 (.seq
 (.reg [Zd 73 185 3 2,Zd 74 99 73 0,Zb 75 3 74,Zm 76 .add 3 75 1,Zc 7 76])
 (.block 0 (.loop b131_1))) c131_1))))))
theorem fd131:FnD Try.prog 131 109 [(.tmp 4)] c131:=⟨⟨Try.f131,Try.f131.body.getD .skip,Try.func131,by kernel_rfl,by kernel_rfl,by kernel_rfl,by kernel_rfl⟩⟩
def b132_1:ACode:=(.seq
 (.seq
 (.reg [Za 16 6,Za 17 0,Ze 18 17 108,Zn 19 .lss 3 16 18])
 (.cond (Zr 19) .skip (.exit 0)))
 (.seq
 (.block 1
 (.seq
 (.reg [Za 22 0,Za 23 6,Zk 24 108 22 23,Zb 25 3 24,Zc 7 25])
 (.seq
 (.reg [Za 26 1,Za 27 7,Zq 28 (.call { callee:=(.value (Zr 26)),args:=#[Zr 27],argTypes:=#[3] }),Zq 29 (.unOp .not 4 (Zr 28))])
 (.cond (Zr 29)
 (.seq
 (.reg [Za 30 0,Za 31 5,Za 32 7,Zk 33 108 30 31,Zg 3 33 32])
 (.reg [Za 34 5,Zm 35 .add 3 34 1,Zc 5 35])) .skip))))
 (.reg [Za 20 6,Zm 21 .add 3 20 1,Zc 6 21])))
def c132_1:ACode:=(.seq
 (.reg [Za 36 0,Za 37 5,Zq 38 (.slice 108 (Zr 36) (some (Zr 37)) none none),⟨none,(.call { callee:=(.builtin .clear),args:=#[Zr 38],argTypes:=#[108] }),none⟩])
 (.seq
 (.reg [Za 39 0,Za 40 5,Zq 41 (.slice 108 (Zr 39) none (some (Zr 40)) none),Zc 4 41]) .ret))
def c132:ACode:=(.seq
 (.reg [Zq 4 (.assign (.const (.slice none 0 0)))])
 (.seq
 (.reg [Za 8 0,Za 9 1,Zo 10 91 #[Zr 8,Zr 9] #[108,111],Zc 5 10])
 (.seq
 (.seq
 (.reg [Za 11 5,Zq 12 (.binOp .eql 3 (Zr 11) (.const (.int .i64 (-1))) 3)])
 (.cond (Zr 12)
 (.seq
 (.reg [Za 13 0,Zc 4 13]) .ret) .skip))
 (.seqL
 (.seq
 (.reg [Za 14 5,Zm 15 .add 3 14 1,Zc 6 15])
 (.block 0 (.loop b132_1))) c132_1))))
theorem fd132:FnD Try.prog 132 42 [(.tmp 4)] c132:=⟨⟨Try.f132,Try.f132.body.getD .skip,Try.func132,by kernel_rfl,by kernel_rfl,by kernel_rfl,by kernel_rfl⟩⟩
def c133:ACode:=(.seq
 (.reg [Zq 2 (.assign (.const (.slice none 0 0)))])
 (.seq
 (.seq
 (.reg [Za 3 0,Zq 4 (.binOp .eql 108 (Zr 3) (.const (.slice none 0 0)) 108)])
 (.cond (Zr 4)
 (.seq
 (.reg [Zq 2 (.assign (.const (.slice none 0 0)))]) .ret) .skip))
 (.seq
 (.reg [Zq 5 (.buildSlice 108 0 #[]),Za 6 0,Zl 7 5 6 108,Zc 2 7]) .ret)))
theorem fd133:FnD Try.prog 133 8 [(.tmp 2)] c133:=⟨⟨Try.f133,Try.f133.body.getD .skip,Try.func133,by kernel_rfl,by kernel_rfl,by kernel_rfl,by kernel_rfl⟩⟩
def c134:ACode:=(.seq
 (.reg [Zq 4 (.assign (.const (.bool false)))])
 (.seq
 (.reg [Zb 5 187 1,Za 6 0,Zb 7 108 2,Zq 8 (.call { callee:=(.value (Zr 5)),args:=#[Zr 6,Zr 7],argTypes:=#[3,108] }),Zq 9 (.unOp .not 4 (Zr 8)),Zc 4 9]) .ret))
theorem fd134:FnD Try.prog 134 10 [(.tmp 4)] c134:=⟨⟨Try.f134,Try.f134.body.getD .skip,Try.func134,by kernel_rfl,by kernel_rfl,by kernel_rfl,by kernel_rfl⟩⟩
def c144:ACode:=(.seq
 (.reg [Zq 2 (.assign (.const (.bool false)))])
 (.seq
 (.reg [Za 3 0,Za 4 0,Zn 5 .neq 3 3 4,Zc 2 5]) .ret))
theorem fd144:FnD Try.prog 144 6 [(.tmp 2)] c144:=⟨⟨Try.f144,Try.f144.body.getD .skip,Try.func144,by kernel_rfl,by kernel_rfl,by kernel_rfl,by kernel_rfl⟩⟩
def c145:ACode:=(.seq
 (.reg [Zq 4 (.assign (.const (.bool false)))])
 (.seq
 (.dreg
 (.tk 0 (Zb 5 93 1)
 (.tk 1 (Zq 6 (.nilCheck (Zr 5)))
 (.tk 2 (Zd 7 127 6 0)
 (.tk 3 (Zb 8 30 7)
 (.tk 4 (Za 9 0)
 (.tk 5 (Zk 10 30 8 9)
 (.tk 6 (Zb 11 62 10)
 (.tk 7 (Zb 12 60 2)
 (.tk 8 (Zq 13 (.indexAddr 60 (Zr 12) (.const (.int .i64 0))))
 (.tk 9 (Zd 14 64 13 1)
 (.tk 10 (Zb 15 9 14)
 (.tk 11 (Zb 16 60 2)
 (.tk 12 (Zq 17 (.indexAddr 60 (Zr 16) (.const (.int .i64 0))))
 (.tk 13 (Zd 18 64 17 2)
 (.tk 14 (Zb 19 3 18) .fin))))))))))))))) [Zo 20 51 #[Zr 11,Zr 15,Zr 19] #[62,9,3],Zc 4 20]) .ret))
theorem fd145:FnD Try.prog 145 21 [(.tmp 4)] c145:=⟨⟨Try.f145,Try.f145.body.getD .skip,Try.func145,by kernel_rfl,by kernel_rfl,by kernel_rfl,by kernel_rfl⟩⟩
end Go.PV.Ytfkkmdelpddojaa
end
section
namespace Go.PV
section
variable {cx:Cx} {Q:APost} {A:AF} {H:AH} {K:AF→AH→Prop} {P:Program}
theorem Yt:vc cx .skip Q A H=Q .normal A H:=by simp [vc]
theorem Ya (l:List GOp):vc cx (.reg l) Q A H=vcL cx l Q A H:=by simp [vc]
theorem Ye (a b:ACode):vc cx (.seq a b) Q A H=vc cx a (thenA (vc cx b Q) Q) A H:=by simp [vc]
theorem JE (a b:ACode):vc cx (.seqL a b) Q A H=vc cx a (thenA (ACx cx b Q) Q) A H:=by simp [vc]
def condL (x:VV) (cx:Cx) (a b:ACode) (Q:APost) (A:AF) (H:AH):Prop:=match x with | .lit (.bool t)=>(if t=true then vc cx a Q A H else vc cx b Q A H) | _=>False
theorem ZZ (c:Operand) (a b:ACode):vc cx (.cond c a b) Q A H=condL (A.eval c) cx a b Q A H:=by simp only [vc]; rfl
theorem WN {t:Bool} {a b:ACode} (h:t=true→vc cx a Q A H) (k:t=false→vc cx b Q A H):condL (.lit (.bool t)) cx a b Q A H:=by cases t; exact k rfl; exact h rfl
theorem Jw {c:Prop} {dc:Decidable c} {a b:ACode} (h:c→vc cx a Q A H) (k:¬ c→vc cx b Q A H):condL (.lit (.bool (decide c))) cx a b Q A H:=by
 by_cases hc:c
 ·rw [decide_eq_true hc]; exact h hc
 ·rw [decide_eq_false hc]; exact k hc
theorem Yb (a b:ACode):condL (.lit (.bool true)) cx a b Q A H=vc cx a Q A H:=rfl
theorem Yv (a b:ACode):condL (.lit (.bool false)) cx a b Q A H=vc cx b Q A H:=rfl
theorem Ys (id:Nat) (a:ACode):vc cx (.block id a) Q A H=vc cx a (XO id Q) A H:=by simp [vc]
theorem ZaJ (id:Nat):vc cx (.exit id) Q A H=Q (.exit id) A H:=by simp [vc]
theorem Xe:vc cx .ret Q A H=Q .ret A H:=by simp [vc]
theorem s_scope (a:ACode):vc cx (.scope a) Q A H=vc cx a Q A H:=by simp [vc]
theorem Zcv (a:ACode):vc cx (.loop a) Q A H=ACx cx (.loop a) Q A H:=by simp [vc]
theorem XF (l:GPlan) (t:List GOp):vc cx (.dreg l t) Q A H=ACx cx (.dreg l t) Q A H:=by simp [vc]
theorem ZhI (f:Operand) (ps:Array Tmp) (a b:ACode):vc cx (.rfunc f ps a b) Q A H=ACx cx (.rfunc f ps a b) Q A H:=by simp [vc]
theorem ZY:vcL cx [] Q A H=Q .normal A H:=rfl
theorem ZF (d:Option Tmp) (op:Op) (l:List GOp):vcL cx (⟨d,op,none⟩::l) Q A H=vcDo cx ⟨d,op,none⟩ (vcL cx l Q) Q A H:=rfl
def Zba (x:VV) (want:Bool) (cx:Cx) (d:Option Tmp) (op:Op) (l:List GOp) (Q:APost) (A:AF) (H:AH):Prop :=
 match x with
 | .lit (.bool t)=>(if t=want then vcDo cx ⟨d,op,none⟩ (vcL cx l Q) Q A H else (dOk cx.N d∧Yc cx.P op A∧vcL cx l Q (A.put d Zx) H))
 | .lit (.tuple _)=>dOk cx.N d∧Yc cx.P op A∧vcL cx l Q (A.put d Zx) H
 | _=>False
theorem Yk (d:Option Tmp) (op:Op) (g:Tmp) (want:Bool) (l:List GOp):vcL cx (⟨d,op,some (g,want)⟩::l) Q A H=Zba (A.t g) want cx d op l Q A H:=by
 unfold Zba;simp only [vcL,vcG];cases h:A.t g with
 | lit v=>cases v<;>rfl
 | _=>rfl
section
variable {d:Option Tmp} {op:Op} {l:List GOp}
theorem Zcw {t:Bool} (h:t=true→vcDo cx ⟨d,op,none⟩ (vcL cx l Q) Q A H) (k:t=false→dOk cx.N d∧Yc cx.P op A∧vcL cx l Q (A.put d Zx) H):Zba (.lit (.bool t)) true cx d op l Q A H:=by cases t; exact k rfl; exact h rfl
theorem XU {c:Prop} {dc:Decidable c} (h:c→vcDo cx ⟨d,op,none⟩ (vcL cx l Q) Q A H) (k:¬ c→dOk cx.N d∧Yc cx.P op A∧vcL cx l Q (A.put d Zx) H):Zba (.lit (.bool (decide c))) true cx d op l Q A H:=by
 by_cases hc:c
 ·rw [decide_eq_true hc]; exact h hc
 ·rw [decide_eq_false hc]; exact k hc
theorem ZbN {c:Prop} {dc:Decidable c} (h:¬ c→vcDo cx ⟨d,op,none⟩ (vcL cx l Q) Q A H) (k:c→dOk cx.N d∧Yc cx.P op A∧vcL cx l Q (A.put d Zx) H):Zba (.lit (.bool (decide c))) false cx d op l Q A H:=by
 by_cases hc:c
 ·rw [decide_eq_true hc]; exact k hc
 ·rw [decide_eq_false hc]; exact h hc
theorem Yx:Zba (.lit (.bool true)) true cx d op l Q A H=vcDo cx ⟨d,op,none⟩ (vcL cx l Q) Q A H:=rfl
theorem WJ:Zba (.lit (.bool true)) false cx d op l Q A H=(dOk cx.N d∧Yc cx.P op A∧vcL cx l Q (A.put d Zx) H):=rfl
theorem YZ:Zba (.lit (.bool false)) true cx d op l Q A H=(dOk cx.N d∧Yc cx.P op A∧vcL cx l Q (A.put d Zx) H):=rfl
theorem ZaB (vs:Array Value) (want:Bool):Zba (.lit (.tuple vs)) want cx d op l Q A H=(dOk cx.N d∧Yc cx.P op A∧vcL cx l Q (A.put d Zx) H):=rfl
theorem YN:Zba (.lit (.bool false)) false cx d op l Q A H=vcDo cx ⟨d,op,none⟩ (vcL cx l Q) Q A H:=rfl
end
theorem ZD:thenA K Q .normal A H=K A H:=rfl
theorem JB (id:Nat):thenA K Q (.exit id) A H=Q (.exit id) A H:=rfl
theorem Xs:thenA K Q .ret A H=Q .ret A H:=rfl
theorem Jg (id:Nat):XO id Q .normal A H=Q .normal A H:=rfl
theorem ZcU (id i:Nat):XO id Q (.exit i) A H=(if i=id then Q .normal A H else Q (.exit i) A H):=by simp only [XO]; split<;>rfl
theorem ZcV (id:Nat):XO id Q .ret A H=Q .ret A H:=rfl
variable {next:AF→AH→Prop}
theorem ZG (d:Option Tmp) (x:VV):vcK next Q d A (.ret x) H=next (A.put d x) H:=rfl
theorem ZH (d:Nat) (x:VV) (t:Nat→VV) (ds:List Deferred):AF.put ⟨t,ds⟩ (some d) x=⟨upd t d x,ds⟩:=rfl
theorem YX (x:VV):AF.put A none x=A:=rfl
theorem ZJ (N d:Nat):dOk N (some d)=(d<N):=rfl
theorem YY (N:Nat):dOk N none=True:=rfl
theorem ZI (t:Nat→VV) (ds:List Deferred) (i:Nat):AF.eval ⟨t,ds⟩ (.tmp i)=t i:=rfl
theorem ZP (v:Value):A.eval (.const v)=.lit v:=rfl
theorem ZU (f:Nat):A.eval (.func f)=.lit (.func (.func f) #[] #[]):=rfl
theorem Zv (t:Nat→VV) (i j:Nat) (x:VV):upd t i x j=if j=i then x else t j:=rfl
variable {d:Option Tmp}
theorem ZR (x:Operand):vcDo cx ⟨d,.move x,none⟩ next Q A H=(dOk cx.N d∧next (A.put d (A.eval x)) H):=rfl
theorem ZE (x:Operand):vcDo cx ⟨d,.assign x,none⟩ next Q A H=(dOk cx.N d∧next (A.put d (A.eval x)) H):=rfl
def pickA (c a b:VV):VV:=match c with | .lit (.bool t)=>if t then a else b | _=>Zx
def ZhJ (c:VV):Prop:=match c with | .lit (.bool t)=>True | _=>False
theorem ZV (t:Bool):ZhJ (.lit (.bool t))=True:=rfl
theorem Ym (t:Bool) (a b:VV):pickA (.lit (.bool t)) a b=if t=true then a else b:=rfl
theorem YE (c a b:Operand):vcDo cx ⟨d,.pick c a b,none⟩ next Q A H=(dOk cx.N d∧ZhJ (A.eval c)∧next (A.put d (pickA (A.eval c) (A.eval a) (A.eval b))) H):=by
 simp only [vcDo,vcOp,ZhJ,pickA];cases h:A.eval c with
 | lit v=>cases v<;>simp [vcK]
 | _=>simp
theorem ZS (t:TypeId) (a:Operand):vcDo cx ⟨d,.load t a,none⟩ next Q A H=(dOk cx.N d∧Wa cx.P t (A.eval a) H (vcK next Q d A)):=rfl
theorem YR (t:TypeId) (a v:Operand):vcDo cx ⟨d,.store t a v,none⟩ next Q A H=(dOk cx.N d∧Jo cx.P t (A.eval a) (A.eval v) H (vcK next Q d A)):=rfl
theorem Yh (x:Operand):vcDo cx ⟨d,.nilCheck x,none⟩ next Q A H=(dOk cx.N d∧vcNil (A.eval x) H (vcK next Q d A)):=rfl
theorem Yy (op:BinOp) (t t':TypeId) (x y:Operand):vcDo cx ⟨d,.binOp op t x y t',none⟩ next Q A H=(dOk cx.N d∧vcBin cx.P op t x y (A.eval x) (A.eval y) H (vcK next Q d A)):=rfl
theorem s_un (op:UnOp) (t:TypeId) (x:Operand):vcDo cx ⟨d,.unOp op t x,none⟩ next Q A H=(dOk cx.N d∧vcUn op (A.eval x) H (vcK next Q d A)):=rfl
theorem Js (s t:TypeId) (x:Operand):vcDo cx ⟨d,.convert s t x,none⟩ next Q A H=(dOk cx.N d∧Zai cx.P s t (A.eval x) H (vcK next Q d A)):=rfl
theorem Xn (e:TypeId):vcDo cx ⟨d,.alloc e,none⟩ next Q A H=(dOk cx.N d∧ZaM cx.P e H (vcK next Q d A)):=rfl
theorem Wx (e:TypeId) (x:Operand):vcDo cx ⟨d,.box e x,none⟩ next Q A H=(dOk cx.N d∧vcBox e (A.eval x) H (vcK next Q d A)):=rfl
theorem Wp (t:TypeId) (ps:Array (Nat × Operand)):vcDo cx ⟨d,.build t ps,none⟩ next Q A H=(dOk cx.N d∧ZT cx.P t (ps.toList.map fun p=>(p.1,A.eval p.2)) H (vcK next Q d A)):=rfl
theorem YC (t:TypeId) (n:Nat) (ps:Array (Nat × Operand)):vcDo cx ⟨d,.buildSlice t n ps,none⟩ next Q A H=(dOk cx.N d∧ZB cx.P t n (ps.toList.map fun p=>(p.1,A.eval p.2)) H (vcK next Q d A)):=rfl
theorem Wm (fn:Fn) (first cap:Array Operand):vcDo cx ⟨d,.makeFunc fn first cap,none⟩ next Q A H=(dOk cx.N d∧next (A.put d (.func fn (first.toList.map A.eval) (cap.toList.map A.eval))) H):=rfl
theorem Zd9 (t:TypeId):vcDo cx ⟨d,.makeMap t none,none⟩ next Q A H=(dOk cx.N d∧ZaW cx.P t H (vcK next Q d A)):=rfl
theorem Zeu (t:TypeId) (l c:Operand):vcDo cx ⟨d,.makeSlice t l c,none⟩ next Q A H=(dOk cx.N d∧Zcq cx.P t (A.eval l) (A.eval c) H (vcK next Q d A)):=rfl
theorem Zcx (t:TypeId) (x:Operand) (lo hi mx:Option Operand):vcDo cx ⟨d,.slice t x lo hi mx,none⟩ next Q A H=(dOk cx.N d∧Xx cx.P t (A.eval x) (lo.map A.eval) (hi.map A.eval) (mx.map A.eval) H (vcK next Q d A)):=rfl
theorem ZA (s:TypeId) (x:Operand) (f:Nat):vcDo cx ⟨d,.fieldAddr s x f,none⟩ next Q A H=(dOk cx.N d∧YF cx.P s (A.eval x) f H (vcK next Q d A)):=rfl
theorem ZN (t:TypeId) (x i:Operand):vcDo cx ⟨d,.indexAddr t x i,none⟩ next Q A H=(dOk cx.N d∧Yu cx.P t (A.eval x) (A.eval i) H (vcK next Q d A)):=rfl
theorem s_range (t:TypeId) (x:Operand):vcDo cx ⟨d,.range t x,none⟩ next Q A H=(dOk cx.N d∧Zbx cx.P t (A.eval x) H (vcK next Q d A)):=rfl
theorem s_next (x:Operand):vcDo cx ⟨d,.next x false,none⟩ next Q A H=(dOk cx.N d∧ZaG (A.eval x) H (vcK next Q d A)):=rfl
theorem ZjC (t:TypeId) (m k:Operand):vcDo cx ⟨d,.mapEntry t m k,none⟩ next Q A H=(dOk cx.N d∧JC cx.P t (A.eval m) (A.eval k) H (vcK next Q d A)):=rfl
theorem Zhq (t:TypeId) (m s v:Operand):vcDo cx ⟨d,.entryStore t m s v,none⟩ next Q A H=(dOk cx.N d∧XD (A.eval m) (A.eval s) (A.eval v) H (vcK next Q d A)):=rfl
theorem s_entry (x:Operand):vcDo cx ⟨d,.entry x,none⟩ next Q A H=(dOk cx.N d∧Zat (A.eval x) H (vcK next Q d A)):=rfl
theorem Wn (t:TypeId) (m k:Operand) (ok:Bool):vcDo cx ⟨d,.lookup t m k ok,none⟩ next Q A H=(dOk cx.N d∧XP cx.P t (A.eval m) (A.eval k) ok H (vcK next Q d A)):=rfl
theorem WO (t:TypeId) (m k v:Operand):vcDo cx ⟨d,.mapUpdate t m k v,none⟩ next Q A H=(dOk cx.N d∧XY cx.P t (A.eval m) (A.eval k) (A.eval v) H (vcK next Q d A)):=rfl
theorem Xj (x:Operand) (i:Nat):vcDo cx ⟨d,.extract x i,none⟩ next Q A H=(dOk cx.N d∧Yw (A.eval x) i H (vcK next Q d A)):=rfl
theorem ZX (b:Builtin) (args:Array Operand) (ts:Array TypeId):vcDo cx ⟨d,.call { callee:=.builtin b,args:=args,argTypes:=ts },none⟩ next Q A H=(dOk cx.N d∧YM cx.P b ts.toList (args.toList.map A.eval) H (vcK next Q d A)):=rfl
theorem ZK (f:Operand) (args:Array Operand) (ts:Array TypeId):vcDo cx ⟨d,.call { callee:=.value f,args:=args,argTypes:=ts },none⟩ next Q A H=(dOk cx.N d∧WS cx.P cx.ro (A.eval f) (args.toList.map A.eval) H (vcK next Q d A)):=rfl
variable {KK:VE→AH→Prop}
theorem ZL (ro:Option Nat) (g:FuncId) (xs:List VV):WS P ro (.lit (.func (.func g) #[] #[])) xs H KK=(Zz P g=true∧ZO P g xs H KK):=by simp [WS]
theorem Zcy (ro:Option Nat) (g:FuncId) (first cap:List VV) (xs:List VV):WS P ro (.func (.func g) first cap) xs H KK=(Zz P g=true∧ZO P g (first++xs++cap) H KK):=rfl
theorem Xk (t:TypeId) (x:VV):YM P .len [t] [x] H KK=vcLen P t x H KK:=rfl
def Jf (P:Program) (t:TypeId) (s x:VV) (H:AH) (KK:VE→AH→Prop):Prop:=ZfO P t s x H KK∨Zd2 P t s x H KK∨Zd3 P t s x H KK
theorem WX (t t':TypeId) (s x:VV):YM P .append [t,t'] [s,x] H KK=(if t=t' then Jf P t s x H KK else Zd4 P t t' s x H KK):=rfl
theorem s_cap (t:TypeId) (x:VV):YM P .cap [t] [x] H KK=vcCap P t x H KK:=rfl
theorem s_capL (t:TypeId) (a:Option Addr) (n c:Nat):vcCap P t (.lit (.slice a n c)) H KK=(elT P t ≠ none∧KK (.ret (intV c)) H):=rfl
theorem s_clear (t:TypeId) (x:VV):YM P .clear [t] [x] H KK=Zct P t x H KK:=rfl
theorem Zdx (ts:List TypeId) (xs:List VV):YM P .max ts xs H KK=vcMax xs H KK:=by
 match ts,xs with
 | [],_=>rfl
 | [_],[]=>rfl
 | [_],[_]=>rfl
 | [_],_::_::_=>rfl
 | [_,_],[]=>rfl
 | [_,_],[_]=>rfl
 | [_,_],[_,_]=>rfl
 | [_,_],_::_::_::_=>rfl
 | _::_::_::_,_=>rfl
theorem Zdy (ts:List TypeId) (xs:List VV):YM P .min ts xs H KK=vcMin xs H KK:=by
 match ts,xs with
 | [],_=>rfl
 | [_],[]=>rfl
 | [_],[_]=>rfl
 | [_],_::_::_=>rfl
 | [_,_],[]=>rfl
 | [_,_],[_]=>rfl
 | [_,_],[_,_]=>rfl
 | [_,_],_::_::_::_=>rfl
 | _::_::_::_,_=>rfl
theorem Yj (b:Bool):vcUn .not (.lit (.bool b)) H KK=KK (.ret (.lit (.bool (!b)))) H:=rfl
theorem Yl (t:TypeId) (x y:Operand) (k:IntKind) (a b:Int):vcBin P .lss t x y (.lit (.int k a)) (.lit (.int k b)) H KK=KK (.ret (.lit (.bool (decide (a<b))))) H:=by simp [vcBin,binV]
theorem YV (t:TypeId) (x y:Operand) (k:IntKind) (a b:Int):vcBin P .leq t x y (.lit (.int k a)) (.lit (.int k b)) H KK=KK (.ret (.lit (.bool (decide (a≤b))))) H:=by simp [vcBin,binV]
theorem ZaX (t:TypeId) (x y:Operand) (k:IntKind) (a b:Int):vcBin P .gtr t x y (.lit (.int k a)) (.lit (.int k b)) H KK=KK (.ret (.lit (.bool (decide (b<a))))) H:=by simp [vcBin,binV]
theorem YW (t:TypeId) (x y:Operand) (k:IntKind) (a b:Int):vcBin P .geq t x y (.lit (.int k a)) (.lit (.int k b)) H KK=KK (.ret (.lit (.bool (decide (b≤a))))) H:=by simp [vcBin,binV]
theorem Yr (t:TypeId) (x y:Operand) (k:IntKind) (a b:Int):vcBin P .eql t x y (.lit (.int k a)) (.lit (.int k b)) H KK=KK (.ret (.lit (.bool (decide (a=b))))) H:=by
 simp only [vcBin,binV,if_true];rw [show (a == b)=decide (a=b) from by rw [Bool.eq_iff_iff]; simp]
theorem XJ (t:TypeId) (x y:Operand) (k:IntKind) (a b:Int):vcBin P .neq t x y (.lit (.int k a)) (.lit (.int k b)) H KK=KK (.ret (.lit (.bool (!decide (a=b))))) H:=by
 simp only [vcBin,binV,if_true];rw [show (a != b)=!decide (a=b) from by rw [Bool.eq_iff_iff]; simp]
theorem Yz (t:TypeId) (x y:Operand) (k:IntKind) (a b:Int):vcBin P .add t x y (.lit (.int k a)) (.lit (.int k b)) H KK=KK (.ret (.lit (.int k (k.wrap (a+b))))) H:=by simp [vcBin,binV]
theorem Zea (t:TypeId) (x y:Operand) (k:IntKind) (a b:Int):vcBin P .sub t x y (.lit (.int k a)) (.lit (.int k b)) H KK=KK (.ret (.lit (.int k (k.wrap (a-b))))) H:=by simp [vcBin,binV]
end
def goable:ACode→Bool
 | .loop _=>false
 | .dreg _ _=>false
 | .rfunc _ _ _ _=>false
 | _=>true
theorem YL {cx:Cx} {Q:APost} {A:AF} {H:AH} {a:ACode} (_:goable a=true) (hQ:Zaa Q) (h:vc cx a Q A H):ACx cx a Q A H:=Zh6 hQ h
section
variable {P:Program} {K:VE→AH→Prop} {H H':AH} {t:Nat→VV}
theorem Ziv {rs:List ResultVar} {A:AF} (hd:A.d=[]) {x:VV} (hx:resV P rs A H=some x) (h:K (.ret x) H):Jd P rs K .ret A H:=⟨hd,x,H,x,hx,.refl _ _,h⟩
theorem ZC {i:Nat} (h:K (.ret (t i)) H):Jd P [.tmp i] K .ret ⟨t,[]⟩ H:=⟨rfl,_,H,_,rfl,.refl _ _,h⟩
def PureF (P:Program) (f:FuncId) (xs:List VV) (x:VV):Prop:=∀ H,ZO P f xs H (fun e H'=>e=.ret x∧H'=H)
theorem PureF.use {f:FuncId} {xs:List VV} {x:VV} (h:PureF P f xs x) (k:K (.ret x) H):ZO P f xs H K:=(h H).mono fun _ _ hq=>by rw [hq.1,hq.2]; exact k
theorem PureF.forget {f:FuncId} {xs:List VV} {x:VV} (h:∀ H,ZO P f xs H (fun e H'=>e=.ret x∧SubH H H')):PureF P f xs x:=fun H S w args hs hx =>
 (h H S w args hs hx).mono fun e w' hq=>by
   cases e with
   | returned v =>
     obtain ⟨S',H',y,h1,h2,h3,h4,h5⟩:=hq;exact ⟨S',H,y,h1.trans (h2.sub h5).2,(h2.sub h5).1,h3,h4,rfl⟩
   | panicked ch=>obtain ⟨S',H',h1,h2,h4,h5⟩:=hq; cases h4
   | outgrown=>exact hq
end
end Go.PV
end
section
namespace Go.PV
section
variable {cx:Cx} {A A':AF} {H:AH} {K:VE→AH→Prop}
theorem Zav {l:List Operand} (h:∀ x∈l,A'.eval x=A.eval x):l.map A'.eval=l.map A.eval:=List.map_congr_left h
theorem Zde {l:List (Nat × Operand)} (h:∀ x∈l.map (·.2),A'.eval x=A.eval x):(l.map fun p=>(p.1,A'.eval p.2))=l.map fun p=>(p.1,A.eval p.2) :=
 List.map_congr_left fun p hp=>by rw [h p.2 (List.mem_map.2 ⟨p,hp,rfl⟩)]
theorem ZcW {o:Option Operand} (h:∀ x∈o.toArray,A'.eval x=A.eval x):o.map A'.eval=o.map A.eval:=by
 cases o with
 | none=>rfl
 | some x=>simp at h; simp [h]
theorem Zfg {op:Op} (h:∀ x∈op.operands,A'.eval x=A.eval x):vcOp cx op A' H K=vcOp cx op A H K:=by
 cases op with
 | build t ps =>
   simp only [Op.operands,List.mem_toArray] at h;simp only [vcOp,Zde h]
 | buildSlice t n ps =>
   simp only [Op.operands,List.mem_toArray] at h;simp only [vcOp,Zde h]
 | makeFunc fn first cap =>
   simp only [Op.operands,Array.mem_append] at h;simp only [vcOp,Zav (A:=A) (A':=A') (l:=first.toList) (fun x hx=>h x (.inl (by simpa using hx))),Zav (A:=A) (A':=A') (l:=cap.toList) (fun x hx=>h x (.inr (by simpa using hx)))]
 | slice t x lo hi mx =>
   simp only [Op.operands,Array.mem_append] at h;simp only [vcOp,h x (.inl (.inl (.inl (by simp)))),ZcW (A:=A) (A':=A') (fun y hy=>h y (.inl (.inl (.inr hy)))),ZcW (A:=A) (A':=A') (fun y hy=>h y (.inl (.inr hy))),ZcW (A:=A) (A':=A') (fun y hy=>h y (.inr hy))]
 | makeMap t r=>cases r<;>simp only [vcOp]
 | next x b =>
   cases b with
   | false=>show ZaG _ _ _=ZaG _ _ _; rw [h x (by simp [Op.operands])]
   | true=>rfl
 | call c =>
   obtain ⟨callee,args,ats⟩:=c;cases callee with
   | builtin b =>
     simp only [Op.operands,Call.operands] at h;simp only [vcOp,Zav (A:=A) (A':=A') (l:=args.toList) (fun x hx=>h x (by simp; simpa using hx))]
   | value f =>
     simp only [Op.operands,Call.operands] at h;simp only [vcOp,Zav (A:=A) (A':=A') (l:=args.toList) (fun x hx=>h x (by simp; exact .inr (by simpa using hx))),h f (by simp)]
   | invoke x m =>
     simp only [Op.operands,Call.operands] at h;simp only [vcOp,Zav (A:=A) (A':=A') (l:=args.toList) (fun x hx=>h x (by simp; exact .inr (by simpa using hx))),h x (by simp)]
 | _ =>
   simp only [Op.operands] at h
   first
    | (simp only [vcOp]; done)
    | (simp only [vcOp]; rw [h _ (by simp)]; done)
    | (simp only [vcOp]; rw [h _ (by simp),h _ (by simp)]; done)
    | (simp only [vcOp]; rw [h _ (by simp),h _ (by simp),h _ (by simp)]; done)
    | (simp only [vcOp]; simp_all; done)
end
section
variable {cx:Cx} {A:AF} {Hh:AH} {K:VE→AH→Prop}
def Tk (cx:Cx) (op:Op) (A:AF) (Hh:AH) (x:VV):Prop:=∀ H K,SubH Hh H→K (.ret x) H→vcOp cx op A H K
theorem ZgW {P:Program} {t:TypeId} {x y:VV} (hs:scalT P t=true) (h:eqOk P t x y):∃ p q,x=.lit (.bool p)∧y=.lit (.bool q):=by
 unfold eqOk at h;unfold scalT at hs;split at h
 ·exact ⟨_,_,rfl,rfl⟩
 all_goals first | exact h.elim | (obtain ⟨e,h⟩:=h; rw [h] at hs; cases hs) | (obtain ⟨k,e,h⟩:=h; rw [h] at hs; cases hs) | (obtain ⟨a,b,c,h⟩:=h; rw [h] at hs; cases hs)
theorem ZfR {op:Op} (ht:Zgl cx.P op=true) (h:vcOp cx op A Hh K):∃ x,Tk cx op A Hh x∧K (.ret x) Hh:=by
 cases op with
 | move x=>exact ⟨_,fun _ _ _ k=>k,h⟩
 | assign x=>exact ⟨_,fun _ _ _ k=>k,h⟩
 | makeFunc fn a b=>exact ⟨_,fun _ _ _ k=>k,h⟩
 | pick c a b =>
   simp only [vcOp] at h;split at h
   ·rename_i t hc;exact ⟨_,fun H K _ k=>by simp only [vcOp,hc]; exact k,h⟩
   ·exact h.elim
 | load t a =>
   simp only [vcOp,Wa] at h;split at h
   ·rename_i n ag cs hl ha;split at h
    ·rename_i x hx;exact ⟨x,fun H K _ k=>by simp only [vcOp,Wa,hl,ha,hx]; exact k,h⟩
    ·exact h.elim
   ·rename_i n ag r o hl ha;split at h
    ·rename_i e cs sp hb;split at h
     ·rename_i x hx;exact ⟨x,fun H K hsub k=>by simp only [vcOp,Wa,hl,ha,hsub _ _ hb,hx]; exact k,h⟩
     ·exact h.elim
    ·exact h.elim
   ·exact h.elim
 | nilCheck x =>
   simp only [vcOp,vcNil] at h;split at h
   all_goals first | exact h.elim | (rename_i e; exact ⟨_,fun H K _ k=>by simp only [vcOp,vcNil,e]; exact k,h⟩)
 | unOp op t x =>
   simp only [vcOp,vcUn] at h;split at h
   ·rename_i v hv;split at h
    ·rename_i r hr;exact ⟨_,fun H K _ k=>by simp only [vcOp,vcUn,hv,hr]; exact k,h⟩
    ·exact h.elim
   ·exact h.elim
 | convert s d x =>
   simp only [vcOp,Zai] at h;split at h
   ·rename_i k n e;obtain ⟨k',s',h1,h2,h3⟩:=h;exact ⟨_,fun H K _ k=>by simp only [vcOp,Zai,e]; exact ⟨k',s',h1,h2,k⟩,h3⟩
   ·rename_i b e;obtain ⟨s',h1,h3⟩:=h;split at h3
    ·rename_i h2; exact ⟨_,fun H K _ k=>by simp only [vcOp,Zai,e,h2]; exact ⟨s',h1,k⟩,h3⟩
    ·rename_i el h2; exact ⟨_,fun H K _ k=>by simp only [vcOp,Zai,e,h2]; exact ⟨s',h1,h3.1,k⟩,h3.2⟩
    ·exact h3.elim
   ·exact h.elim
 | makeInterface t x=>exact ⟨_,fun H K _ k=>⟨h.1,k⟩,h.2⟩
 | fieldAddr s x f =>
   simp only [vcOp,YF] at h;split at h
   all_goals first | exact h.elim | (rename_i e1 e2; exact ⟨_,fun H K _ k=>by simp only [vcOp,YF,e1,e2]; exact ⟨h.1,k⟩,h.2⟩)
 | field s x f =>
   simp only [vcOp,JT] at h;split at h
   all_goals first | exact h.elim | (rename_i e1 e2; split at h<;>first | exact h.elim | (rename_i y hy; exact ⟨y,fun H K _ k=>by simp only [vcOp,JT,e1,e2,hy]; exact k,h⟩))
 | indexAddr t x i =>
   simp only [vcOp,Yu] at h;split at h
   ·rename_i e1 e2 e3; exact ⟨_,fun H K _ k=>by simp only [vcOp,Yu,e1,e2,e3]; exact ⟨h.1,k⟩,h.2⟩
   ·rename_i e1 e2 e3; exact ⟨_,fun H K _ k=>by simp only [vcOp,Yu,e1,e2,e3]; exact ⟨h.1,k⟩,h.2⟩
   ·rename_i e1 e2 e3;split at h
    ·rename_i e4; exact ⟨_,fun H K _ k=>by simp only [vcOp,Yu,e1,e2,e3,e4]; exact ⟨h.1,k⟩,h.2⟩
    ·exact h.elim
   ·rename_i e1 e2 e3;split at h
    ·rename_i e4; exact ⟨_,fun H K _ k=>by simp only [vcOp,Yu,e1,e2,e3,e4]; exact ⟨h.1,k⟩,h.2⟩
    ·exact h.elim
   ·exact h.elim
 | extract x i =>
   simp only [vcOp,Yw] at h;split at h
   all_goals first | exact h.elim | (rename_i e1; split at h<;>first | exact h.elim | (rename_i e2; exact ⟨_,fun H K _ k=>by simp only [vcOp,Yw,e1,e2]; exact k,h⟩))
 | build t ps =>
   simp only [vcOp,ZT] at h;split at h
   all_goals first | exact h.elim | (rename_i e1; split at h<;>first | exact h.elim | (rename_i e2; exact ⟨_,fun H K _ k=>by simp only [vcOp,ZT,e1,e2]; exact k,h⟩))
 | buildSlice t n ps =>
   simp only [vcOp,ZB] at h;split at h
   ·rename_i e1;split at h
    ·rename_i e2;obtain ⟨h1,h⟩:=h;split at h
     ·rename_i e3; exact ⟨_,fun H K _ k=>by simp only [vcOp,ZB,e1,e2,e3]; exact ⟨h1,k⟩,h⟩
     ·exact h.elim
    ·exact h.elim
   ·exact h.elim
 | index t x i =>
   simp only [vcOp,Zcr] at h;split at h
   ·rename_i e1 e2;obtain ⟨h1,h2,h⟩:=h;split at h
    ·rename_i e3; exact ⟨_,fun H K _ k=>by simp only [vcOp,Zcr,e1,e2,e3]; exact ⟨h1,h2,k⟩,h⟩
    ·exact h.elim
   ·exact h.elim
 | slice t x lo hi mx =>
   simp only [vcOp,Xx] at h;split at h
   ·rename_i e1; split at h
    ·rename_i e2; exact ⟨_,fun H K _ k=>by simp only [vcOp,Xx,e1,e2]; exact ⟨h.1,k⟩,h.2⟩
    ·exact h.elim
   ·rename_i e1; split at h
    ·rename_i e2; exact ⟨_,fun H K _ k=>by simp only [vcOp,Xx,e1,e2]; exact ⟨h.1,k⟩,h.2⟩
    ·exact h.elim
   ·rename_i e1; split at h
    ·rename_i e2; exact ⟨_,fun H K _ k=>by simp only [vcOp,Xx,e1,e2]; exact ⟨h.1,k⟩,h.2⟩
    ·exact h.elim
   ·rename_i e1; exact ⟨_,fun H K _ k=>by simp only [vcOp,Xx,e1]; exact ⟨h.1,h.2.1,h.2.2.1,k⟩,h.2.2.2⟩
   ·rename_i e1; split at h
    ·rename_i e2; exact ⟨_,fun H K _ k=>by simp only [vcOp,Xx,e1,e2]; exact ⟨h.1,k⟩,h.2⟩
    ·exact h.elim
   ·exact h.elim
 | binOp op t x y t' =>
   have ht:op=.eql∨op=.neq→scalT cx.P t=true:=by rintro (rfl | rfl)<;>simpa [Zgl] using ht
   generalize hA:A.eval x=X at *
   generalize hB:A.eval y=Y at *
   have key:∀ Z:VV,(∀ H K,K (.ret Z) H→vcBin cx.P op t x y (A.eval x) (A.eval y) H K)→Tk cx (.binOp op t x y t') A Hh Z:=fun Z hz H K _ k=>hz H K k
   simp only [vcOp,hA,hB] at h;rw [hA,hB] at key;unfold vcBin at h key;split at h
   ·split at h
    ·rename_i r hr; exact ⟨_,key _ (fun H K k=>by simp only [hr]; exact k),h⟩
    ·exact h.elim
   ·split at h
    ·rename_i r hr; exact ⟨_,key _ (fun H K k=>by simp only [hr]; exact k),h⟩
    ·exact h.elim
   ·rename_i n1 n2;split at h
    ·split at h
     ·rename_i xs ys h1 h2;obtain ⟨b,hb,hk⟩:=h;exact ⟨_,key _ (fun H K k=>by simp only [h1,h2]; exact ⟨b,hb,k⟩),hk⟩
     ·rename_i nn;have hsc:scalT cx.P t=true:=ht (.inl rfl);obtain ⟨p,q,rfl,rfl⟩:=ZgW hsc h.1;exact ⟨boolV (p == q),key _ (fun H K k=>⟨h.1,h.2.1,fun b hb=>by cases hb; exact k⟩),h.2.2 _ rfl⟩
    ·split at h
     ·rename_i xs ys h1 h2;obtain ⟨b,hb,hk⟩:=h;exact ⟨_,key _ (fun H K k=>by simp only [h1,h2]; exact ⟨b,hb,k⟩),hk⟩
     ·rename_i nn;have hsc:scalT cx.P t=true:=ht (.inr rfl);obtain ⟨p,q,rfl,rfl⟩:=ZgW hsc h.1;exact ⟨boolV (!(p == q)),key _ (fun H K k=>⟨h.1,h.2.1,fun b hb=>by cases hb; exact k⟩),h.2.2 _ rfl⟩
    ·exact h.elim
 | call c =>
   obtain ⟨callee,args,ats⟩:=c;cases callee with
   | builtin b =>
     cases b with
     | len =>
       have key:∀ Z:VV,(∀ H K,K (.ret Z) H→YM cx.P .len ats.toList (args.toList.map A.eval) H K)→Tk cx (.call { callee:=.builtin .len,args:=args,argTypes:=ats }) A Hh Z:=fun Z hz H K _ k=>hz H K k
       have h:YM cx.P .len ats.toList (args.toList.map A.eval) Hh K:=h;generalize ats.toList=ts at *
       generalize args.toList.map A.eval=xs at *
       unfold YM at h;split at h
       all_goals first | exact h.elim | (rename_i e; cases e; done) | skip
       ·rename_i t x _;unfold vcLen at h;split at h
        ·exact ⟨_,key _ fun H K k=>⟨h.1,k⟩,h.2⟩
        ·exact ⟨_,key _ fun H K k=>⟨h.1,k⟩,h.2⟩
        ·exact ⟨_,key _ fun H K k=>⟨h.1,k⟩,h.2⟩
        ·exact h.elim
     | max =>
       have key:∀ Z:VV,(∀ H K,K (.ret Z) H→vcMax (args.toList.map A.eval) H K)→Tk cx (.call { callee:=.builtin .max,args:=args,argTypes:=ats }) A Hh Z:=fun Z hz H K _ k=>by
        show YM cx.P .max ats.toList (args.toList.map A.eval) H K;rw [Zdx];exact hz H K k
       have h:YM cx.P .max ats.toList (args.toList.map A.eval) Hh K:=h;rw [Zdx] at h;generalize args.toList.map A.eval=xs at *
       unfold vcMax at h;split at h
       ·exact ⟨_,key _ fun H K k=>k,h⟩
       ·exact h.elim
     | min =>
       have key:∀ Z:VV,(∀ H K,K (.ret Z) H→vcMin (args.toList.map A.eval) H K)→Tk cx (.call { callee:=.builtin .min,args:=args,argTypes:=ats }) A Hh Z:=fun Z hz H K _ k=>by
        show YM cx.P .min ats.toList (args.toList.map A.eval) H K;rw [Zdy];exact hz H K k
       have h:YM cx.P .min ats.toList (args.toList.map A.eval) Hh K:=h;rw [Zdy] at h;generalize args.toList.map A.eval=xs at *
       unfold vcMin at h;split at h
       ·exact ⟨_,key _ fun H K k=>k,h⟩
       ·exact h.elim
     | _=>cases ht
   | _=>cases ht
 | _=>cases ht
end
end Go.PV
end
section
namespace Go.PV
section
variable {cx:Cx} {A:AF} {H:AH} {K K':VE→AH→Prop}
theorem ACall.mono {P:Program} {ro:Option Nat} {f:VV} {xs:List VV} (hk:∀ e H,K e H→K' e H) (h:ACall P ro f xs H K):ACall P ro f xs H K':=by
 intro S w fv args hs hf hx
 have:=h S w fv args hs hf hx
 unfold Zb4 at *
 refine ⟨this.1,?_⟩;replace this:=this.2;split
 ·rename_i g asg w' hr;simp only [hr] at this;exact CallsIn.mono this fun _ _ hq=>hq.mono hk
 ·rename_i l g ts asg body w' hr;simp only [hr] at this;exact RoundIn.mono this fun _ _ hq=>hq.mono hk
 ·rename_i n1 n2
  revert this
  split
  ·rename_i e; exact absurd e (n1 _ _ _)
  ·rename_i e; exact absurd e (n2 _ _ _ _ _ _)
  ·exact fun h=>h
theorem Ziw {P:Program} {ro:Option Nat} {f:VV} {xs:List VV} (hk:∀ e H,K e H→K' e H) (h:WS P ro f xs H K):WS P ro f xs H K':=by
 unfold WS at *
 split
 ·exact ⟨h.1,h.2.mono hk⟩
 ·exact ⟨h.1,h.2.mono hk⟩
 ·rename_i n1 n2
  revert h
  split
  ·rename_i e; exact absurd rfl (n1 _ _ _)
  ·rename_i e; exact absurd rfl (n2 _ _ _)
  ·exact fun h=>h.mono hk
theorem ZjD {P:Program} {op:BinOp} {t:TypeId} {ox oy:Operand} {x y:VV} (hk:∀ e H,K e H→K' e H) (h:vcBin P op t ox oy x y H K):vcBin P op t ox oy x y H K':=by
 unfold vcBin at *
 split at h
 ·split at h
  ·exact hk _ _ h
  ·exact h
 ·split at h
  ·exact hk _ _ h
  ·exact h
 ·split at h
  ·split at h
   ·obtain ⟨b,hb,h⟩:=h; exact ⟨b,hb,hk _ _ h⟩
   ·exact ⟨h.1,h.2.1,fun b hb=>hk _ _ (h.2.2 b hb)⟩
  ·split at h
   ·obtain ⟨b,hb,h⟩:=h; exact ⟨b,hb,hk _ _ h⟩
   ·exact ⟨h.1,h.2.1,fun b hb=>hk _ _ (h.2.2 b hb)⟩
  ·exact h
theorem Zgr {P:Program} {x:VV} {t:TypeId} {ok:Bool} (hk:∀ e H,K e H→K' e H) (h:Za7 P x t ok H K):Za7 P x t ok H K':=by
 unfold Za7 at *
 refine ⟨h.1,?_⟩;have h:=h.2;split at h
 ·split at h
  ·rename_i e; rw [if_pos e]; exact hk _ _ h
  ·rename_i e; rw [if_neg e];refine ⟨h.1,?_⟩;have h:=h.2;split at h
   ·exact hk _ _ h
   ·exact h
 ·split at h
  ·rename_i e; rw [if_pos e]; exact hk _ _ h
  ·rename_i e; rw [if_neg e];refine ⟨h.1,?_⟩;have h:=h.2;split at h
   ·exact hk _ _ h
   ·exact h
 ·refine ⟨h.1,?_⟩;have h:=h.2;split at h
  ·exact hk _ _ h
  ·exact h
 ·exact h
theorem ZgX {op:Op} (hk:∀ e H,K e H→K' e H) (h:vcOp cx op A H K):vcOp cx op A H K':=by
 by_cases ht:Zgl cx.P op=true
 ·obtain ⟨x,h1,h2⟩:=ZfR ht h;exact h1 H K' (SubH.refl H) (hk _ _ h2)
 ·cases op with
  | store t a v =>
    simp only [vcOp,Jo] at *
    split at h
    ·split at h
     ·exact ⟨h.1,h.2.1,h.2.2.1,hk _ _ h.2.2.2⟩
     ·exact h
    ·exact h
  | binOp op t x y t'=>exact ZjD hk h
  | alloc e =>
    simp only [vcOp,ZaM] at *
    split at h
    ·exact fun r hr=>hk _ _ (h r hr)
    ·exact h
  | box e x=>exact fun r hr=>hk _ _ (h r hr)
  | buildSlice t n ps =>
    simp only [vcOp,ZB] at *
    split at h
    ·split at h
     ·refine ⟨h.1,?_⟩;have h:=h.2;split at h
      ·exact hk _ _ h
      ·exact h
     ·exact h
    ·exact h
  | makeSlice t l c =>
    simp only [vcOp,Zcq] at *
    split at h
    ·split at h
     ·exact ⟨h.1,h.2.1,h.2.2.1,h.2.2.2.1,h.2.2.2.2.1,fun r hr=>hk _ _ (h.2.2.2.2.2 r hr)⟩
     ·exact h
    ·exact h
  | typeAssert x s t ok=>exact Zgr hk h
  | makeMap t r =>
    cases r with
    | none=>exact fun r hr=>hk _ _ (h r hr)
    | some r=>exact h
  | lookup t m k ok =>
    simp only [vcOp,XP] at *
    obtain ⟨z,h1,kv,h2,h3,h⟩:=h;refine ⟨z,h1,kv,h2,h3,?_⟩;split at h
    ·exact hk _ _ h
    ·split at h
     ·refine ⟨h.1,?_⟩;have h:=h.2;split at h
      ·exact hk _ _ h
      ·exact hk _ _ h
     ·exact h
    ·exact h
  | mapUpdate t m k v =>
    simp only [vcOp,XY] at *
    obtain ⟨z,h1,kv,h2,h3,h⟩:=h;refine ⟨z,h1,kv,h2,h3,?_⟩;split at h
    ·split at h
     ·exact ⟨h.1,h.2.1,hk _ _ h.2.2⟩
     ·exact h
    ·exact h
  | insert t m k v =>
    simp only [vcOp,XY] at *
    obtain ⟨z,h1,kv,h2,h3,h⟩:=h;refine ⟨z,h1,kv,h2,h3,?_⟩;split at h
    ·split at h
     ·exact ⟨h.1,h.2.1,hk _ _ h.2.2⟩
     ·exact h
    ·exact h
  | range t x=>exact Zhn h hk
  | next x b =>
    cases b with
    | false=>exact Zit h hk
    | true=>exact h
  | entry x=>exact Zho h hk
  | mapEntry t m k=>exact ZeO h hk
  | entryStore t m s v=>exact Zc8 h hk
  | panic x =>
    simp only [vcOp] at *
    split at h
    ·exact hk _ _ h
    ·exact h
  | call c =>
    obtain ⟨callee,args,ats⟩:=c;cases callee with
    | builtin b =>
      simp only [vcOp] at *
      unfold YM at *
      split at h
      ·unfold vcLen at *
       split at h
       ·exact ⟨h.1,hk _ _ h.2⟩
       ·exact ⟨h.1,hk _ _ h.2⟩
       ·exact ⟨h.1,hk _ _ h.2⟩
       ·exact h
      ·split at h
       ·rename_i ett;rw [if_pos ett];rcases h with h | h | h
        ·obtain ⟨e,k,b,zs,H0,n,cs,m,news,h1,h2,h3,h4,h5,h6,h7,h8,h9,h10⟩:=h;exact .inl ⟨e,k,b,zs,H0,n,cs,m,news,h1,h2,h3,h4,h5,h6,h7,h8,h9,fun v' H' ho=>hk _ _ (h10 v' H' ho)⟩
        ·obtain ⟨e,k,b,zs,n,cs,m,news,h1,h2,h3,h4,h5,h6,h7,h8,h9,h10,h11,h12⟩:=h;exact .inr (.inl ⟨e,k,b,zs,n,cs,m,news,h1,h2,h3,h4,h5,h6,h7,h8,h9,h10,fun hm=>hk _ _ (h11 hm),fun hm v' H' ho=>hk _ _ (h12 hm v' H' ho)⟩)
        ·obtain ⟨e,k,b,zs,n,cs,m,news,h1,h2,h3,h4,h5,h6,h7,h8,h9,h10,h11⟩:=h;exact .inr (.inr ⟨e,k,b,zs,n,cs,m,news,h1,h2,h3,h4,h5,h6,h7,h8,h9,fun hm=>hk _ _ (h10 hm),fun hm v' H' ho=>hk _ _ (h11 hm v' H' ho)⟩)
       ·rename_i ett;rw [if_neg ett];obtain ⟨e,k,b,zs,kn,kq,n,h1,h2,h3,h4,h5,h6,h7,h8,h9,h10,h11⟩:=h;exact ⟨e,k,b,zs,kn,kq,n,h1,h2,h3,h4,h5,h6,h7,h8,h9,h10,fun g c a1 a2 a3=>hk _ _ (h11 g c a1 a2 a3)⟩
      ·unfold vcCap at *
       split at h
       ·exact ⟨h.1,hk _ _ h.2⟩
       ·exact h
      ·simp only [ZeT] at *
       split at h
       ·split at h
        ·exact ⟨h.1,h.2.1,hk _ _ h.2.2⟩
        ·exact h
       ·exact h
      ·unfold Zct at *
       split at h
       ·split at h
        ·rename_i h0; rw [if_pos h0]; exact hk _ _ h
        ·rename_i h0; rw [if_neg h0];split at h
         ·exact ⟨h.1,h.2.1,h.2.2.1,hk _ _ h.2.2.2⟩
         ·exact h
       ·exact hk _ _ h
       ·exact ⟨h.1,hk _ _ h.2⟩
       ·exact h
      ·unfold vcMax at *
       split at h
       ·exact hk _ _ h
       ·exact h
      ·unfold vcMin at *
       split at h
       ·exact hk _ _ h
       ·exact h
      ·exact h
    | value f=>exact Ziw hk h
    | invoke x m =>
      obtain ⟨g,y,h1,h2,h3⟩:=h;exact ⟨g,y,h1,h2.mono hk,h3⟩
  | _=>first | exact absurd rfl ht | exact h
end
end Go.PV
end
section
open List renaming mem_cons_self→ZmR,mem_cons_of_mem→ZmN,range→Zmm
open Nat renaming lt_or_ge→ZmI,le_refl→Zmc
open Option renaming map_eq_some_iff→Znc
namespace Go.PV
section
variable {cx:Cx} {ops:Array Oper} {Q:APost} {Hh:AH} {Hi:Nat→AH} {stop:List Nat} {full:Array Bool} {cut:Option Nat} {K:AF→AH→Prop}
def Jy (ops:Array Oper) (listed:Array Bool):Prop:=∀ i o,listed.getD i false=true→ops[i]?=some o→∀ e∈o.after,Region.binds .any e=true→listed.getD e.on false=true
theorem Zev {listed:Array Bool} {i j:Nat} (h:listed.getD j false=true):(listed.setIfInBounds i true).getD j false=true:=by
 simp only [Array.getD_eq_getD_getElem?,Array.getElem?_setIfInBounds] at *
 split
 ·split
  ·rfl
  ·rename_i h1 h2; subst h1; rw [Array.getElem?_eq_none (by omega)] at h; cases h
 ·exact h
theorem Zdf {listed:Array Bool} {i j:Nat} (h:(listed.setIfInBounds i true).getD j false=true):j=i∨listed.getD j false=true:=by
 by_cases e:j=i
 ·exact .inl e
 ·right;simp only [Array.getD_eq_getD_getElem?,Array.getElem?_setIfInBounds,if_neg (Ne.symm e)] at *
  exact h
theorem Jy.none (n:Nat):Jy ops (Array.replicate n false):=fun i o h=>by
 simp only [Array.getD_eq_getD_getElem?,Array.getElem?_replicate] at h;split at h<;>cases h
theorem Jy.set {listed:Array Bool} {i:Nat} (h:Jy ops listed) (hi:i∈Region.ready .any ops listed):Jy ops (listed.setIfInBounds i true):=by
 intro j o hj ho e he hb;refine Zev ?_;rcases Zdf hj with rfl | hj
 ·obtain ⟨_,o',ho',hall⟩:=mem_ready.1 hi;rw [ho] at ho'; cases ho';exact hall e he hb
 ·exact h j o hj ho e he hb
theorem Zce {k j:Nat} (h:j∈preds ops k):∃ o e,ops[k]?=some o∧e∈o.after∧Region.binds .any e=true∧e.on=j:=by
 unfold preds at h;split at h
 ·rename_i o ho;obtain ⟨e,he,h2⟩:=List.mem_filterMap.1 h;split at h2
  ·rename_i hb;cases h2;exact ⟨o,e,ho,by simpa using he,hb,rfl⟩
  ·cases h2
 ·cases h
theorem Zaw {listed:Array Bool} (hc:Jy ops listed):∀ (n:Nat) (rem work:List Nat),(∀ k∈work,listed.getD k false=true)→∀ x∈rem,x ∉ clo ops n rem work→listed.getD x false=true
 | 0,rem,work,_,x,hx,hn=>absurd hx hn
 | _+1,rem,[],_,x,hx,hn=>absurd hx hn
 | n+1,rem,k::work,hw,x,hx,hn=>by
   simp only [clo] at hn;split at hn
   ·by_cases e:x=k
    ·rw [e]; exact hw k (ZmR ..)
    ·refine Zaw hc n _ _ ?_ x (List.mem_filter.2 ⟨hx,by simpa using e⟩) hn;intro j hj;rcases List.mem_append.1 hj with hj | hj
     ·obtain ⟨o,e,ho,he,hb,rfl⟩:=Zce hj;exact hc k o (hw k (ZmR ..)) ho e he hb
     ·exact hw j (ZmN _ hj)
   ·exact Zaw hc n _ _ (fun j hj=>hw j (ZmN _ hj)) x hx hn
def gone (cut:Option Nat) (listed:Array Bool):Prop:=∃ j,cut=some j∧listed.getD j false=true
theorem gone.set {cut:Option Nat} {listed:Array Bool} (i:Nat) (h:gone cut listed):gone cut (listed.setIfInBounds i true):=by
 obtain ⟨j,h1,h2⟩:=h;exact ⟨j,h1,Zev h2⟩
def AOp (cx:Cx) (ops:Array Oper) (Q:APost) (i:Nat) (next:AF→AH→Prop) (A:AF) (H:AH):Prop :=
 match ops[i]? with
 | none=>False
 | some o=>vcG cx (gopOf ops o) next Q A H
def AAny (cx:Cx) (ops:Array Oper) (Q:APost) (Hi:Nat→AH) (stop:List Nat) (full:Array Bool) (cut:Option Nat) (K:AF→AH→Prop):Nat→Array Bool→AF→AH→Prop
 | 0,listed,A,H=>rdy ops stop listed=[]∧listed=full∧K A H
 | n+1,listed,A,H=>(rdy ops stop listed=[]→listed=full∧K A H) ∧
     ∀ i∈rdy ops stop listed,AOp cx ops Q i (fun A' H'=>(gone cut (listed.setIfInBounds i true)∨∀ k∈Zcu ops i,SubH (Hi k) H→SubH (Hi k) H')∧AAny cx ops Q Hi stop full cut K n (listed.setIfInBounds i true) A' H') A H
theorem aop_wp {i:Nat} {next:AF→AH→Prop} {A:AF} {H:AH} {S S0:Nat→Prop} {H0:AH} {w w0:World} {a:Act} (hg:ops.all (gOk ops)=true) (h:AOp cx ops Q i next A H) (k:Step S0 H0 w0 S H w) (hs:Sim S H w) (hf:RvF cx.N S w A a)
 {nx:Act→World→Prop} (h1:∀ S' H' A' a' w',Step S0 H0 w0 S' H' w'→Sim S' H' w'→RvF cx.N S' w' A' a'→next A' H'→nx a' w') :
 wpOpIn (Xy cx.P cx.ro) 0 cx.P ops (LQ cx Q S0 H0 w0) i nx a w:=by
 unfold AOp at h;unfold wpOpIn;split at h
 ·exact h.elim
 ·rename_i o ho;simp only [ho]
  have hgo:gOk ops o=true:=by
   have hi:i<ops.size:=by
    rcases ZmI i ops.size with h | h
    ·exact h
    ·rw [Array.getElem?_eq_none h] at ho; cases ho
   rw [Array.getElem?_eq_getElem hi] at ho;cases ho;exact Array.all_eq_true.1 hg i hi
  exact Zcc hgo h k hs hf nx h1
theorem XW {listed:Array Bool} {i:Nat} (h:i∈rdy ops stop listed):i∈Region.ready .any ops listed∧i ∉ stop:=by
 simp only [rdy,List.mem_filter,Bool.not_eq_true',List.contains_eq_mem,decide_eq_false_iff_not] at h;exact h
theorem Zfh (hg:ops.all (gOk ops)=true) (ht:Zkb ops stop=true) {S0:Nat→Prop} {H0:AH} {w0:World} {m:Nat}
 (hK:∀ A H S w a,K A H→Step S0 H0 w0 S H w→Sim S H w→RvF cx.N S w A a→∀ fuel,m≤fuel→wpAnyIn (Xy cx.P cx.ro) 0 cx.P .any ops (LQ cx Q S0 H0 w0) fuel full a w) :
 ∀ (n:Nat) (listed:Array Bool) (A:AF) (H:AH) (S:Nat→Prop) (w:World) (a:Act),Jy ops listed→AAny cx ops Q Hi stop full cut K n listed A H→Step S0 H0 w0 S H w→Sim S H w→RvF cx.N S w A a →
   wpAnyIn (Xy cx.P cx.ro) 0 cx.P .any ops (LQ cx Q S0 H0 w0) (n+m) listed a w
 | 0,listed,A,H,S,w,a,hc,h,k,hs,hf=>by
   obtain ⟨h1,rfl,h3⟩:=h;exact hK A H S w a h3 k hs hf _ (by omega)
 | n+1,listed,A,H,S,w,a,hc,h,k,hs,hf=>by
   by_cases hr:rdy ops stop listed=[]
   ·obtain ⟨rfl,h3⟩:=h.1 hr;exact hK A H S w a h3 k hs hf _ (by omega)
   ·obtain ⟨i0,hi0⟩:=List.exists_mem_of_ne_nil _ hr;have hi0':=XW hi0;rw [show n+1+m=(n+m)+1 from by omega];refine ⟨fun e=>(by rw [e] at hi0'; cases hi0'.1),fun i hi=>?_⟩
    have hns:i ∉ stop:=by
     intro his;have hall:=List.all_eq_true.1 ht i his;obtain ⟨hun0,o0,ho0,_⟩:=mem_ready.1 hi0'.1
     have hk0:i0<ops.size:=by
      rcases ZmI i0 ops.size with h | h
      ·exact h
      ·rw [Array.getElem?_eq_none h] at ho0; cases ho0
     obtain ⟨hun,o,ho,hafter⟩:=mem_ready.1 hi;by_cases hin:i0∈clo ops (ops.size * 20+20) (Zmm ops.size) (preds ops i)
     ·have h2:=List.all_eq_true.1 hall i0 hin;exact hi0'.2 (by simpa using h2)
     ·have h5:=Zaw hc _ _ _ (fun j hj=>by
       obtain ⟨o',e,ho',he,hb,rfl⟩:=Zce hj;rw [ho] at ho'; cases ho';exact hafter e he hb) i0 (List.mem_range.2 hk0) hin
      rcases ZmI i0 listed.size with h' | h'
      ·simp [h'] at hun0 h5; rw [hun0] at h5; cases h5
      ·simp [Array.getElem?_eq_none h'] at h5
    have hir:i∈rdy ops stop listed:=by
     simp only [rdy,List.mem_filter,Bool.not_eq_true',List.contains_eq_mem,decide_eq_false_iff_not];exact ⟨hi,hns⟩
    exact aop_wp hg (h.2 i hir) k hs hf fun S' H' A' a' w' g1 g2 g3 g4=>Zfh hg ht hK n _ A' H' S' w' a' (hc.set hi) g4.2 g1 g2 g3
theorem Zew (hg:ops.all (gOk ops)=true) {S0:Nat→Prop} {H0:AH} {w0:World}:∀ (n:Nat) (listed:Array Bool) (q:List Nat) (A:AF) (H:AH) (S:Nat→Prop) (w:World) (a:Act),planS ops n listed=some q →
 vcL cx (q.filterMap (gAt ops)) Q A H→Step S0 H0 w0 S H w→Sim S H w→RvF cx.N S w A a→∀ fuel,n≤fuel→wpAnyIn (Xy cx.P cx.ro) 0 cx.P .any ops (LQ cx Q S0 H0 w0) fuel listed a w
 | 0,listed,q,A,H,S,w,a,hp,h,k,hs,hf,fuel,_=>by
   simp only [planS] at hp;split at hp
   ·rename_i hr;cases hp;exact wpAnyIn_done (by simpa using hr) ⟨by simp,S,H,A,k,hs,hf,h⟩ fuel
   ·cases hp
 | n+1,listed,q,A,H,S,w,a,hp,h,k,hs,hf,fuel,hle=>by
   simp only [planS] at hp;split at hp
   ·rename_i i hr;simp only [Znc] at hp;obtain ⟨p,hp,rfl⟩:=hp;obtain ⟨fuel,rfl⟩:∃ f,fuel=f+1:=⟨fuel-1,by omega⟩
    have hm:i∈Region.ready .any ops listed:=by rw [hr]; simp
    obtain ⟨_,o,ho,_⟩:=mem_ready.1 hm;have hga:gAt ops i=some (gopOf ops o):=by simp [gAt,ho]
    rw [List.filterMap_cons,hga] at h;refine wpAnyIn_all hr (by simp) fun j hj=>?_
    obtain rfl:j=i:=by simpa using hj
    refine aop_wp (cx:=cx) (Q:=Q) (A:=A) (H:=H) (next:=vcL cx (p.filterMap (gAt ops)) Q) hg ?_ k hs hf fun S' H' A' a' w' g1 g2 g3 g4=>Zew hg n _ p A' H' S' w' a' hp g4 g1 g2 g3 fuel (by omega)
    simp only [AOp,ho];exact h
   ·cases hp
end
section
variable {S:Nat→Prop} {H:AH} {w:World} {N:Nat} {A:AF} {a:Act}
theorem Sim.drawn (h:Sim S H w) (d:Nat):Sim S H { w with drawn:=d }:=⟨fun r b hb=>RvB.mono (S:=S) (w:=w) (S':=S) (w':={ w with drawn:=d }) (fun _ h=>⟨h,rfl⟩) rfl (h.blk r b hb),h.dis,h.lt⟩
theorem Step.drawn (S:Nat→Prop) (H:AH) (w:World) (d:Nat):Step S H w S H { w with drawn:=d }:=⟨rfl,rfl,rfl,Zmc _,fun _ h=>h,fun _ _ _=>rfl,fun _ h=>.inl h,fun _ h=>.inl h⟩
end
section
variable {cx:Cx} {ops:Array Oper} {Q:APost} {Hh:AH} {Hi:Nat→AH} {stop:List Nat} {full:Array Bool} {cut:Option Nat} {K:AF→AH→Prop}
def TkG (cx:Cx) (o:GOp) (A:AF) (Hh:AH) (x:VV):Prop :=
 dOk cx.N o.dst∧(∀ c,o.op ≠ .defer c) ∧
 match o.g with
 | none=>Tk cx o.op A Hh x
 | some (d,want)=>(∃ b,A.t d=.lit (.bool b)∧if b=want then Tk cx o.op A Hh x else (Yc cx.P o.op A∧x=Zx))∨∃ vs,A.t d=.lit (.tuple vs)∧Yc cx.P o.op A∧x=Zx
theorem ZaP {o:GOp} {A:AF} {H:AH} {next:AF→AH→Prop} (hn:∀ c,o.op ≠ .defer c):vcDo cx o next Q A H=(dOk cx.N o.dst∧vcOp cx o.op A H (vcK next Q o.dst A)):=by
 unfold vcDo;cases h:o.op<;>first | rfl | exact absurd h (hn _)
theorem TkG.use {o:GOp} {A:AF} {H:AH} {x:VV} {next:AF→AH→Prop} (h:TkG cx o A Hh x) (hs:SubH Hh H) (k:next (A.put o.dst x) H):vcG cx o next Q A H:=by
 obtain ⟨h1,h2,h3⟩:=h;unfold vcG;split
 ·rename_i e;simp only [e] at h3;rw [ZaP h2];exact ⟨h1,h3 H _ hs k⟩
 ·rename_i d want e;simp only [e] at h3;rcases h3 with ⟨b,hb,h3⟩ | ⟨vs,hb,h3,rfl⟩
  ·simp only [hb];split at h3
   ·rename_i hbw;rw [if_pos hbw,ZaP h2];exact ⟨h1,h3 H _ hs k⟩
   ·rename_i hbw;rw [if_neg hbw];obtain ⟨h3,rfl⟩:=h3;exact ⟨h1,h3,k⟩
  ·simp only [hb];exact ⟨h1,h3,k⟩
theorem ZkI {op:Op} {A:AF} {x:VV} (hp:Zgn op=true) (h:Tk cx op A Hh x) (H:AH):Tk cx op A H x:=by
 have h1:=h Hh (fun e _=>e=.ret x) (SubH.refl _) rfl;intro H' K _ k;cases op with
 | move y=>simp only [vcOp] at h1 ⊢; cases h1; exact k
 | assign y=>simp only [vcOp] at h1 ⊢; cases h1; exact k
 | nilCheck y =>
   simp only [vcOp,vcNil] at h1 ⊢;split at h1
   all_goals first | (cases h1; exact k) | exact h1.elim | (rename_i e; rw [e]; cases h1; exact k)
 | fieldAddr s y f =>
   simp only [vcOp,YF] at h1 ⊢;split at h1
   all_goals first | (obtain ⟨h0,h1⟩:=h1; cases h1; exact ⟨h0,k⟩) | exact h1.elim | (rename_i e1 e2; rw [e1,e2]; obtain ⟨h0,h1⟩:=h1; cases h1; exact ⟨h0,k⟩)
 | _=>cases hp
theorem TkG.pure {o:GOp} {A:AF} {x:VV} (hp:Zgn o.op=true) (h:TkG cx o A Hh x) (H:AH):TkG cx o A H x:=by
 obtain ⟨h1,h2,h3⟩:=h;refine ⟨h1,h2,?_⟩;split
 ·rename_i e;simp only [e] at h3;exact ZkI hp h3 H
 ·rename_i d want e;simp only [e] at h3;rcases h3 with ⟨b,hb,h3⟩ | h3
  ·refine .inl ⟨b,hb,?_⟩;split
   ·rename_i hbw; rw [if_pos hbw] at h3; exact ZkI hp h3 H
   ·rename_i hbw; rw [if_neg hbw] at h3; exact h3
  ·exact .inr h3
theorem TkG.of {o:GOp} {A:AF} {next:AF→AH→Prop} (ht:Zgl cx.P o.op=true) (h:vcG cx o next (fun _ _ _=>False) A Hh):∃ x,TkG cx o A Hh x∧next (A.put o.dst x) Hh:=by
 have hn:∀ c,o.op ≠ .defer c:=fun c e=>by rw [e] at ht; cases ht
 unfold vcG at h;split at h
 ·rename_i e;rw [ZaP hn] at h;obtain ⟨x,h1,h2⟩:=ZfR ht h.2;exact ⟨x,⟨h.1,hn,by simp only [e]; exact h1⟩,h2⟩
 ·rename_i d want e;split at h
  ·rename_i b hb;split at h
   ·rename_i hbw;rw [ZaP hn] at h;obtain ⟨x,h1,h2⟩:=ZfR ht h.2;exact ⟨x,⟨h.1,hn,by simp only [e]; exact .inl ⟨b,hb,by rw [if_pos hbw]; exact h1⟩⟩,h2⟩
   ·rename_i hbw;exact ⟨Zx,⟨h.1,hn,by simp only [e]; exact .inl ⟨b,hb,by rw [if_neg hbw]; exact ⟨h.2.1,trivial⟩⟩⟩,h.2.2⟩
  ·rename_i vs hb;exact ⟨Zx,⟨h.1,hn,by simp only [e]; exact .inr ⟨vs,hb,h.2.1,trivial⟩⟩,h.2.2⟩
  ·exact h.elim
def AF.same (ts:List Tmp) (A A':AF):Prop:=∀ d∈ts,A'.t d=A.t d
theorem Zao {o:Oper} {A A':AF} (h:AF.same (o.looksAt ops) A A'):∀ x∈o.op.operands,A'.eval x=A.eval x:=by
 intro x hx;cases x with
 | tmp d=>exact h d (List.mem_append_left _ (List.mem_filterMap.2 ⟨.tmp d,by simpa using hx,rfl⟩))
 | _=>rfl
theorem ZcX {o:Oper} {A A':AF} (h:AF.same (o.looksAt ops) A A') {d:Tmp} {want:Bool} (he:(gopOf ops o).g=some (d,want)):A'.t d=A.t d:=by
 refine h d (List.mem_append_right _ ?_);simp only [gopOf] at he;cases hg:o.guard with
 | none=>simp [hg] at he
 | some p =>
   obtain ⟨j,w'⟩:=p;simp only [hg,Option.bind_some,Znc,Prod.mk.injEq] at he;obtain ⟨d',hj,rfl,rfl⟩:=he;simp [hj]
theorem Zad {P:Program} {op:Op} {A A':AF} (h:∀ x∈op.operands,A'.eval x=A.eval x):Yc P op A'=Yc P op A:=by
 cases op with
 | call c =>
   obtain ⟨callee,args,ats⟩:=c;cases callee with
   | builtin b=>rfl
   | value f=>simp only [Yc,h f (by simp [Op.operands,Call.operands])]
   | invoke x m=>simp only [Yc,h x (by simp [Op.operands,Call.operands])]
 | _=>rfl
theorem TkG.same {o:Oper} {A A':AF} {x:VV} (hs:AF.same (o.looksAt ops) A A') (h:TkG cx (gopOf ops o) A Hh x):TkG cx (gopOf ops o) A' Hh x:=by
 obtain ⟨h1,h2,h3⟩:=h;refine ⟨h1,h2,?_⟩
 have htk:∀ x,Tk cx o.op A Hh x→Tk cx o.op A' Hh x:=fun x hx H K hsub k=>by
  rw [Zfg (Zao hs)];exact hx H K hsub k
 split
 ·rename_i e;simp only [e] at h3;exact htk _ h3
 ·rename_i d want e;simp only [e] at h3;rcases h3 with ⟨b,hb,h3⟩ | ⟨vs,hb,h3⟩
  ·refine .inl ⟨b,by rw [ZcX hs e]; exact hb,?_⟩;split at h3
   ·rename_i hbw; rw [if_pos hbw]; exact htk _ h3
   ·rename_i hbw; rw [if_neg hbw]; exact ⟨by have:=h3.1; rwa [show (gopOf ops o).op=o.op from rfl,← Zad (Zao hs)] at this,h3.2⟩
  ·exact .inr ⟨vs,by rw [ZcX hs e]; exact hb,by have:=h3.1; rwa [show (gopOf ops o).op=o.op from rfl,← Zad (Zao hs)] at this,h3.2⟩
theorem put_t_ne {A:AF} {dst:Option Tmp} {x:VV} {d:Tmp} (h:∀ e,dst=some e→e ≠ d):(A.put dst x).t d=A.t d:=by
 cases dst with
 | none=>rfl
 | some e=>exact upd_ne _ _ (Ne.symm (h e rfl))
theorem put_same {A:AF} {dst:Option Tmp} {x:VV} {ts:List Tmp} (h:∀ e,dst=some e→e ∉ ts):AF.same ts A (A.put dst x):=fun d hd=>put_t_ne fun e he hed=>h e he (hed ▸ hd)
theorem ZfS {A:AF} {d e:Option Tmp} {x y:VV} (h:∀ i,d=some i→e ≠ some i):(A.put d x).put e y=(A.put e y).put d x:=by
 cases d with
 | none=>rfl
 | some i =>
   cases e with
   | none=>rfl
   | some j =>
     have hij:i ≠ j:=fun he=>h i rfl (by rw [he])
     simp only [AF.put]
     congr 1
     funext k
     simp only [upd];by_cases h1:k=i<;>by_cases h2:k=j<;>simp_all
def panQ (Q:APost):Prop:=∀ c A A' H,A'.d=A.d→Q (.panic c) A H→Q (.panic c) A' H
theorem put_d {A:AF} {d:Option Tmp} {x:VV}:(A.put d x).d=A.d:=by cases d<;>rfl
theorem vcG_put {oi oj:Oper} {x:VV} {A:AF} {H:AH} {next:AF→AH→Prop} (hQ:panQ Q) (hap:oi.apart ops oj=true) (hnd:∀ c,oj.op ≠ .defer c) (h:vcG cx (gopOf ops oj) next Q (A.put oi.dst x) H) :
 vcG cx (gopOf ops oj) (fun A' H'=>(∃ u,A'=A.put oj.dst u)∧next (A'.put oi.dst x) H') Q A H:=by
 obtain ⟨h1,h2,h3⟩:=Oper.apart_spec hap;have hsame:AF.same (oj.looksAt ops) A (A.put oi.dst x):=put_same h1
 have hdo:vcDo cx (gopOf ops oj) next Q (A.put oi.dst x) H→vcDo cx (gopOf ops oj) (fun A' H'=>(∃ u,A'=A.put oj.dst u)∧next (A'.put oi.dst x) H') Q A H:=by
  rw [ZaP (o:=gopOf ops oj) hnd,ZaP (o:=gopOf ops oj) hnd];rintro ⟨g1,g2⟩;refine ⟨g1,?_⟩
  change vcOp cx oj.op _ _ _ at g2
  rw [Zfg (Zao hsame)] at g2;refine ZgX ?_ g2;intro e H' hk;cases e with
  | ret u =>
    refine ⟨⟨u,rfl⟩,?_⟩;have hk:next ((A.put oi.dst x).put oj.dst u) H':=hk;rw [ZfS h2] at hk;exact hk
  | pan ch=>exact hQ ch _ _ H' put_d.symm hk
 unfold vcG at *
 split
 ·rename_i e;simp only [e] at h;exact hdo h
 ·rename_i d want e;simp only [e] at h;rw [ZcX hsame e] at h;split
  ·rename_i b hb;simp only [hb] at h;split at h
   ·rename_i hbw; rw [if_pos hbw]; exact hdo h
   ·rename_i hbw; rw [if_neg hbw];refine ⟨h.1,by have:=h.2.1; rwa [show (gopOf ops oj).op=oj.op from rfl,Zad (Zao hsame)] at this,⟨Zx,rfl⟩,?_⟩;have hk:=h.2.2
    change next ((A.put oi.dst x).put oj.dst Zx) H at hk
    rw [ZfS h2] at hk;exact hk
  ·rename_i vs hb;simp only [hb] at h;refine ⟨h.1,by have:=h.2.1; rwa [show (gopOf ops oj).op=oj.op from rfl,Zad (Zao hsame)] at this,⟨Zx,rfl⟩,?_⟩;have hk:=h.2.2
   change next ((A.put oi.dst x).put oj.dst Zx) H at hk
   rw [ZfS h2] at hk;exact hk
  ·rename_i hb hb2
   revert h
   split
   ·rename_i b hb'; exact absurd hb' (hb b)
   ·rename_i vs hb'; exact absurd hb' (hb2 vs)
   ·exact fun h=>h
theorem Zbb {o:GOp} {A:AF} {H:AH} {next next':AF→AH→Prop} (hnd:∀ c,o.op ≠ .defer c) (hk:∀ A H,next A H→next' A H) (h:vcG cx o next Q A H):vcG cx o next' Q A H:=by
 have hdo:vcDo cx o next Q A H→vcDo cx o next' Q A H:=by
  rw [ZaP hnd,ZaP hnd];rintro ⟨g1,g2⟩;refine ⟨g1,ZgX ?_ g2⟩;intro e H' hq;cases e with
  | ret u=>exact hk _ _ hq
  | pan ch=>exact hq
 unfold vcG at *
 split
 ·rename_i e;simp only [e] at h;exact hdo h
 ·rename_i d want e;simp only [e] at h;split
  ·rename_i b hb;simp only [hb] at h;split at h
   ·rename_i hbw; rw [if_pos hbw]; exact hdo h
   ·rename_i hbw; rw [if_neg hbw]; exact ⟨h.1,h.2.1,hk _ _ h.2.2⟩
  ·rename_i vs hb;simp only [hb] at h;exact ⟨h.1,h.2.1,hk _ _ h.2.2⟩
  ·rename_i hb hb2
   revert h
   split
   ·rename_i b hb'; exact absurd hb' (hb b)
   ·rename_i vs hb'; exact absurd hb' (hb2 vs)
   ·exact fun h=>h
end
end Go.PV
end
