/- Lemmas for CheckTurns; each states its own conditions. -/
import Derived.Test.YtaekaifihehgdaaGreatDoorProg
import Derived.Test.YtaekaifihehgdaaGreatDoorC
set_option maxRecDepth 100000
set_option maxHeartbeats 0
set_option linter.unusedSimpArgs false
set_option linter.unusedVariables false
namespace Go.Proofs.YtaekaifihehgdaaGreatDoor
open Go.Am Tryz
def ext:FuncId->Option (List AV->Option AV):=vE [(178,iW)]
def Hm:List UInt8->Bool
 |42::47::_=>true
 |_=>false
def js:List UInt8->Int
 |[]=>-1
 |c::s=>if Hm (c::s)=true then 0 else if js s<0 then-1 else js s+1
def R5:List AV->Option AV
 |[.str s,.str [42,47]]=>if s.length<=65536 then some (.int .i64 (js s))else none
 |_=>none
def wU(c:UInt8):Option Nat:=
 if 48<=c.toNat/\c.toNat<=57 then some (c.toNat-48)else if 97<=c.toNat/\c.toNat<=102 then some (c.toNat-87)else if 65<=c.toNat/\c.toNat<=70 then some (c.toNat-55)else none
def wT:Nat->List UInt8->Option Nat
 |acc,[]=>some acc
 |acc,c::s=>match wU c with
  |some v=>if 9223372036854775808<=acc*16+v then none else wT (acc*16+v) s
  |none=>none
def zo:List AV->ah->Option (Out×ah)
 |[.str s,.int .i64 10,.int .i64 64],h=>if s.length<=65536 then match Lib.atoiAll s with
  | .ok v=>some (.ret (.iO [.int .i64 v,.nilIface]),h)
  |_=>none
  else none
 |_,_=>none
def D1:List AV->Option AV
 |[.str s,.int .i64 n]=>if 0<=n/\n<=100000/\s.length<=1000 then some (.str (List.replicate n.toNat s).flatten)else none
 |_=>none
noncomputable def SJ:List (FuncId×(List AV->ah->Option (Out×ah))):=[(107,dP R2),(145,dP Fq),(126,dP CJ),(109,dP R5),(147,zo),(164,dP CK),(166,dP zk),(165,nP 289),(148,wC),(90,dP D1)]
noncomputable def QR:FuncId->Option (List AV->ah->Option (Out×ah)):=vE ((4,rB)::SJ)
noncomputable def env:Env:=vD Tryz.prog ext QR
theorem me(t:TypeId):env.nv t=Tryz.prog.underlying t:=by unfold env;rfl
attribute[simp] me
abbrev Ty(t:TypeId)(a b:Nat)(c:Bool)(z:List AV):Prop:=env.siz t=some a/\env.byt t=some b/\env.isAgg t=some c/\env.zer t=some z
theorem kr {p:Prop}(h:p:=by kernel_rfl):p:=h
theorem tI{t:TypeId}{a b:Nat}{c:Bool}{z:eu}(p:env.siz t=some a:=by kernel_rfl)(q:env.byt t=some b:=by kernel_rfl)(r:env.isAgg t=some c:=by kernel_rfl)(s:env.zer t=some z:=by kernel_rfl):Ty t a b c z:=⟨p,q,r,s⟩
@[simp]theorem ty2:Ty 2 1 7 false [.int .i64 0]:=tI
@[simp]theorem ty4:Ty 4 1 0 false [.bool false]:=tI
@[simp]theorem ty9:Ty 9 1 15 false [.str []]:=tI
@[simp]theorem ty26:Ty 26 2 15 true [.int .i64 0,.int .i64 0]:=tI
@[simp]theorem ty36:Ty 36 2 15 true [.int .i64 0,.int .i64 0]:=tI
@[simp]theorem ty58:Ty 58 5 47 true [.int .i64 0,.str [],.int .i64 0,.int .i64 0,.int .i64 0]:=tI
@[simp]theorem ty61:Ty 61 2 39 true [.str [],.slice none 0]:=tI
@[simp]theorem ty64:Ty 64 3 39 true [.str [],.str [],.bool false]:=tI
@[simp]theorem ty65:Ty 65 1 7 false [.ptr none]:=tI
@[simp]theorem ty67:Ty 67 5 87 true [.str [],.str [],.slice none 0,.ptr none,.slice none 0]:=tI
@[simp]theorem ty78:Ty 78 1 7 false [.ptr none]:=tI
@[simp]theorem ty80:Ty 80 1 7 false [.ptr none]:=tI
@[simp]theorem ty125:Ty 125 1 7 false [.ptr none]:=tI
@[simp]theorem ty131:Ty 131 1 7 false [.ptr none]:=tI
@[simp]theorem ty136:Ty 136 2 39 true [.str [],.slice none 0]:=tI
@[simp]theorem ty138:Ty 138 2 31 true [.str [],.str []]:=tI
@[simp]theorem ty140:Ty 140 2 31 true [.str [],.str []]:=tI
@[simp]theorem ty158:Ty 158 5 55 true [.int .i64 0,.int .i64 0,.bool false,.str [],.str []]:=tI
@[simp]theorem ty165:Ty 165 3 39 true [.str [],.str [],.int .i64 0]:=tI
@[simp]theorem ty168:Ty 168 1 7 false [.ptr none]:=tI
@[simp]theorem ty179:Ty 179 1 7 false [.ptr none]:=tI
@[simp]theorem ty197:Ty 197 1 7 false [.ptr none]:=tI
@[simp]theorem ty230:Ty 230 3 39 true [.str [],.str [],.int .i64 0]:=tI
@[simp]theorem tyz:Ty 3 1 7 false [.int .i64 0]/\Ty 5 1 0 false [.int .u8 0]/\Ty 24 1 7 false [.ptr none]/\Ty 29 1 23 false [.slice none 0]/\Ty 30 1 23 false [.slice none 0]/\Ty 31 1 23 false [.slice none 0]/\Ty 32 1 23 false [.slice none 0]/\Ty 34 6 111 true [.slice none 0,.slice none 0,.slice none 0,.slice none 0,.int .i64 0,.int .i64 0]/\Ty 38 1 7 false [.ptr none]/\Ty 39 1 7 false [.int .i64 0]/\Ty 42 1 7 false [.ptr none]/\Ty 46 1 23 false [.slice none 0]/\Ty 47 1 23 false [.slice none 0]/\Ty 49 4 79 true [.str [],.str [],.slice none 0,.slice none 0]/\Ty 51 1 23 false [.slice none 0]/\Ty 56 5 55 true [.slice none 0,.int .i64 0,.bool false,.ptr none,.int .i64 0]/\Ty 74 1 23 false [.slice none 0]/\Ty 75 1 23 false [.slice none 0]/\Ty 77 4 63 true [.ptr none,.slice none 0,.slice none 0,.int .i64 0]/\Ty 79 1 23 false [.slice none 0]/\Ty 82 6 111 true [.str [],.str [],.slice none 0,.slice none 0,.slice none 0,.ptr none]/\Ty 89 1 23 false [.slice none 0]/\Ty 91 7 103 true [.str [],.str [],.str [],.int .i64 0,.slice none 0,.str [],.int .i64 0]/\Ty 92 1 23 false [.slice none 0]/\Ty 95 1 7 false [.ptr none]/\Ty 96 1 7 false [.ptr none]/\Ty 98 7 71 true [.slice none 0,.int .i64 0,.int .i64 0,.int .i64 0,.int .i64 0,.int .i64 0,.ptr none]/\Ty 103 1 7 false [.map none]/\Ty 104 1 7 false [.map none]/\Ty 105 1 7 false [.ptr none]/\Ty 106 1 7 false [.map none]/\Ty 108 11 103 true [.ptr none,.ptr none,.map none,.map none,.map none,.ptr none,.map none,.slice none 0,.int .i64 0,.int .i64 0,.ptr none]/\Ty 110 3 23 true [.int .i64 0,.int .i64 0,.int .i64 0]/\Ty 122 1 23 false [.slice none 0]/\Ty 124 2 31 true [.slice none 0,.int .i64 0]/\Ty 129 1 23 false [.slice none 0]/\Ty 130 1 23 false [.slice none 0]/\Ty 133 8 111 true [.int .i64 0,.int .i64 0,.int .i64 0,.str [],.str [],.slice none 0,.slice none 0,.ptr none]/\Ty 134 1 23 false [.slice none 0]/\Ty 152 5 47 true [.int .i64 0,.str [],.int .i64 0,.int .i64 0,.int .i64 0]/\Ty 180 1 23 false [.slice none 0]/\Ty 182 9 103 true [.int .i64 0,.int .i64 0,.int .i64 0,.str [],.str [],.ptr none,.ptr none,.slice none 0,.int .i64 0]/\Ty 184 1 7 false [.map none]/\Ty 186 2 15 true [.map none,.map none]/\Ty 187 1 23 false [.slice none 0]/\Ty 189 3 39 true [.slice none 0,.int .i64 0,.int .i64 0]/\Ty 196 6 47 true [.str [],.str [],.int .i64 0,.bool false,.bool false,.bool false]/\Ty 198 1 23 false [.slice none 0]/\Ty 200 5 55 true [.int .i64 0,.ptr none,.ptr none,.ptr none,.slice none 0]/\Ty 203 1 23 false [.slice none 0]/\Ty 205 8 87 true [.int .i64 0,.str [],.int .i64 0,.int .i64 0,.int .i64 0,.bool false,.ptr none,.slice none 0]/\Ty 224 1 23 false [.slice none 0]/\Ty 226 9 111 true [.int .i64 0,.int .i64 0,.int .i64 0,.str [],.str [],.int .i64 0,.str [],.slice none 0,.int .i64 0]/\Ty 232 5 55 true [.str [],.str [],.int .i64 0,.bool false,.int .i64 0]/\Ty 281 10 239 true [.slice none 0,.slice none 0,.slice none 0,.slice none 0,.slice none 0,.slice none 0,.slice none 0,.slice none 0,.slice none 0,.slice none 0]:=⟨tI,tI,tI,tI,tI,tI,tI,tI,tI,tI,tI,tI,tI,tI,tI,tI,tI,tI,tI,tI,tI,tI,tI,tI,tI,tI,tI,tI,tI,tI,tI,tI,tI,tI,tI,tI,tI,tI,tI,tI,tI,tI,tI,tI,tI,tI,tI,tI,tI,tI,tI,tI,tI,tI,tI⟩
abbrev Fs(n:FuncId)(f:Func):Prop:=env.fn n=some f/\f.body.isSome=true
theorem fs{n:FuncId}{f:Func}(p:env.fn n=some f:=by kernel_rfl)(q:f.body.isSome=true:=by exact rfl):Fs n f:=⟨p,q⟩
@[simp]theorem fn5:Fs 5 f5:=fs
@[simp]theorem fn6:Fs 6 f6:=fs
@[simp]theorem fn7:Fs 7 f7:=fs
@[simp]theorem fn8:Fs 8 f8:=fs
@[simp]theorem fn12:Fs 12 f12:=fs
@[simp]theorem fn13:Fs 13 f13:=fs
@[simp]theorem fn14:Fs 14 f14:=fs
@[simp]theorem fn15:Fs 15 f15:=fs
@[simp]theorem fn16:Fs 16 f16:=fs
@[simp]theorem fn17:Fs 17 f17:=fs
@[simp]theorem fn18:Fs 18 f18:=fs
@[simp]theorem fn19:Fs 19 f19:=fs
@[simp]theorem fn21:Fs 21 f21:=fs
@[simp]theorem fn22:Fs 22 f22:=fs
@[simp]theorem fn23:Fs 23 f23:=fs
@[simp]theorem fn24:Fs 24 f24:=fs
@[simp]theorem fn25:Fs 25 f25:=fs
@[simp]theorem fn26:Fs 26 f26:=fs
@[simp]theorem fn27:Fs 27 f27:=fs
@[simp]theorem fn28:Fs 28 f28:=fs
@[simp]theorem fn29:Fs 29 f29:=fs
@[simp]theorem fn30:Fs 30 f30:=fs
@[simp]theorem fn31:Fs 31 f31:=fs
@[simp]theorem fn32:Fs 32 f32:=fs
@[simp]theorem fn33:Fs 33 f33:=fs
@[simp]theorem fn34:Fs 34 f34:=fs
@[simp]theorem fn35:Fs 35 f35:=fs
@[simp]theorem fn36:Fs 36 f36:=fs
@[simp]theorem fn37:Fs 37 f37:=fs
@[simp]theorem fn38:Fs 38 f38:=fs
@[simp]theorem fn39:Fs 39 f39:=fs
@[simp]theorem fn40:Fs 40 f40:=fs
@[simp]theorem fn41:Fs 41 f41:=fs
@[simp]theorem fn42:Fs 42 f42:=fs
@[simp]theorem fn43:Fs 43 f43:=fs
@[simp]theorem fn44:Fs 44 f44:=fs
@[simp]theorem fn45:Fs 45 f45:=fs
@[simp]theorem fn46:Fs 46 f46:=fs
@[simp]theorem fn47:Fs 47 f47:=fs
@[simp]theorem fn48:Fs 48 f48:=fs
@[simp]theorem fn49:Fs 49 f49:=fs
@[simp]theorem fn50:Fs 50 f50:=fs
@[simp]theorem fn51:Fs 51 f51:=fs
@[simp]theorem fn52:Fs 52 f52:=fs
@[simp]theorem fn53:Fs 53 f53:=fs
@[simp]theorem fn54:Fs 54 f54:=fs
@[simp]theorem fn55:Fs 55 f55:=fs
@[simp]theorem fn56:Fs 56 f56:=fs
@[simp]theorem fn57:Fs 57 f57:=fs
@[simp]theorem fn58:Fs 58 f58:=fs
@[simp]theorem fn59:Fs 59 f59:=fs
@[simp]theorem fn60:Fs 60 f60:=fs
@[simp]theorem fn61:Fs 61 f61:=fs
@[simp]theorem fn62:Fs 62 f62:=fs
@[simp]theorem fn63:Fs 63 f63:=fs
@[simp]theorem fn64:Fs 64 f64:=fs
@[simp]theorem fn65:Fs 65 f65:=fs
@[simp]theorem fn66:Fs 66 f66:=fs
@[simp]theorem fn67:Fs 67 f67:=fs
@[simp]theorem fn68:Fs 68 f68:=fs
@[simp]theorem fn69:Fs 69 f69:=fs
@[simp]theorem fn70:Fs 70 f70:=fs
@[simp]theorem fn71:Fs 71 f71:=fs
@[simp]theorem fn72:Fs 72 f72:=fs
@[simp]theorem fn73:Fs 73 f73:=fs
@[simp]theorem fn74:Fs 74 f74:=fs
@[simp]theorem fn75:Fs 75 f75:=fs
@[simp]theorem fn76:Fs 76 f76:=fs
@[simp]theorem fn77:Fs 77 f77:=fs
@[simp]theorem fn78:Fs 78 f78:=fs
@[simp]theorem fn79:Fs 79 f79:=fs
@[simp]theorem fn80:Fs 80 f80:=fs
@[simp]theorem fn81:Fs 81 f81:=fs
@[simp]theorem fn82:Fs 82 f82:=fs
@[simp]theorem fn83:Fs 83 f83:=fs
@[simp]theorem fn84:Fs 84 f84:=fs
@[simp]theorem fn85:Fs 85 f85:=fs
@[simp]theorem fn86:Fs 86 f86:=fs
@[simp]theorem fn88:Fs 88 f88:=fs
@[simp]theorem fn89:Fs 89 f89:=fs
@[simp]theorem fn91:Fs 91 f91:=fs
@[simp]theorem fn92:Fs 92 f92:=fs
@[simp]theorem fn93:Fs 93 f93:=fs
@[simp]theorem fn94:Fs 94 f94:=fs
@[simp]theorem fn95:Fs 95 f95:=fs
@[simp]theorem fn96:Fs 96 f96:=fs
@[simp]theorem fn97:Fs 97 f97:=fs
@[simp]theorem fn98:Fs 98 f98:=fs
@[simp]theorem fn99:Fs 99 f99:=fs
@[simp]theorem fn100:Fs 100 f100:=fs
@[simp]theorem fn101:Fs 101 f101:=fs
@[simp]theorem fn102:Fs 102 f102:=fs
@[simp]theorem fn103:Fs 103 f103:=fs
@[simp]theorem fn104:Fs 104 f104:=fs
@[simp]theorem fn105:Fs 105 f105:=fs
@[simp]theorem fn106:Fs 106 f106:=fs
@[simp]theorem fn108:Fs 108 f108:=fs
@[simp]theorem fn110:Fs 110 f110:=fs
@[simp]theorem fn111:Fs 111 f111:=fs
@[simp]theorem fn112:Fs 112 f112:=fs
@[simp]theorem fn113:Fs 113 f113:=fs
@[simp]theorem fn114:Fs 114 f114:=fs
@[simp]theorem fn115:Fs 115 f115:=fs
@[simp]theorem fn116:Fs 116 f116:=fs
@[simp]theorem fn122:Fs 122 f122:=fs
@[simp]theorem fn123:Fs 123 f123:=fs
@[simp]theorem fn124:Fs 124 f124:=fs
@[simp]theorem fn125:Fs 125 f125:=fs
@[simp]theorem fn127:Fs 127 f127:=fs
@[simp]theorem fn128:Fs 128 f128:=fs
@[simp]theorem fn129:Fs 129 f129:=fs
@[simp]theorem fn130:Fs 130 f130:=fs
@[simp]theorem fn131:Fs 131 f131:=fs
@[simp]theorem fn132:Fs 132 f132:=fs
@[simp]theorem fn133:Fs 133 f133:=fs
@[simp]theorem fn134:Fs 134 f134:=fs
@[simp]theorem fn135:Fs 135 f135:=fs
@[simp]theorem fn136:Fs 136 f136:=fs
@[simp]theorem fn137:Fs 137 f137:=fs
@[simp]theorem fn138:Fs 138 f138:=fs
@[simp]theorem fn139:Fs 139 f139:=fs
@[simp]theorem fn140:Fs 140 f140:=fs
@[simp]theorem fn142:Fs 142 f142:=fs
@[simp]theorem fn144:Fs 144 f144:=fs
@[simp]theorem fn146:Fs 146 f146:=fs
@[simp]theorem fn153:Fs 153 f153:=fs
@[simp]theorem fn154:Fs 154 f154:=fs
@[simp]theorem fn155:Fs 155 f155:=fs
@[simp]theorem fn163:Fs 163 f163:=fs
@[simp]theorem fnz:Fs 90 f90/\Fs 107 f107/\Fs 109 f109/\Fs 126 f126/\Fs 145 f145/\Fs 147 f147/\Fs 148 f148/\Fs 164 f164/\Fs 165 f165/\Fs 166 f166:=⟨fs,fs,fs,fs,fs,fs,fs,fs,fs,fs⟩
@[simp]theorem fn167:Fs 167 f167:=fs
@[simp]theorem fn168:Fs 168 f168:=fs
@[simp]theorem fn169:Fs 169 f169:=fs
@[simp]theorem fn170:Fs 170 f170:=fs
@[simp]theorem fn171:Fs 171 f171:=fs
@[simp]theorem fn172:Fs 172 f172:=fs
@[simp]theorem fn173:Fs 173 f173:=fs
@[simp]theorem fn174:Fs 174 f174:=fs
@[simp]theorem fn175:Fs 175 f175:=fs
@[simp]theorem fn176:Fs 176 f176:=fs
@[simp]theorem fn177:Fs 177 f177:=fs
@[simp]theorem fn182:Fs 182 f182:=fs
@[simp]theorem fn184:Fs 184 f184:=fs
@[simp]theorem fn190:Fs 190 f190:=fs
@[simp]theorem fn195:Fs 195 f195:=fs
@[simp]theorem fn198:Fs 198 f198:=fs
@[simp]theorem fn199:Fs 199 f199:=fs
@[simp]theorem fn200:Fs 200 f200:=fs
@[simp]theorem fn201:Fs 201 f201:=fs
@[simp]theorem fn203:Fs 203 f203:=fs
@[simp]theorem fn213:Fs 213 f213:=fs
theorem wb{n:FuncId}{f:Func}{c:Code}{a:eu}{h:ah}{Q:Out->ah->Prop}(s:Fs n f)(b:f.body=some c)(hw:ct env c (atEnd env f Q) {rg:=qm a 0 .nil,n:=f.ntmps,h:=h,ds:=[],bX:=false})(e:env.ed n=none:=by unfold env;rfl)(g:a.length<=f.ntmps:=by exact et rfl):ba env n a h Q:=ba.body e s.1 b g hw
theorem wd{n:FuncId}{f:Func}{c:Code}{a:eu}{h:ah}{Q:Out->ah->Prop}(s:Fs n f)(b:f.body=some c)(hw:ct env c (yl env f Q) {rg:=qm a 0 .nil,n:=f.ntmps,h:=h,ds:=[],bX:=false})(e:env.ed n=none:=by unfold env;rfl)(g:a.length<=f.ntmps:=by exact et rfl):ba env n a h Q:=ba.SE e s.1 b g hw
theorem pr107:env.ed 107=some (dP R2):=by unfold env;rfl
theorem pr145:env.ed 145=some (dP Fq):=by unfold env;rfl
theorem pr126:env.ed 126=some (dP CJ):=by unfold env;rfl
theorem pr109:env.ed 109=some (dP R5):=by unfold env;rfl
theorem pr147:env.ed 147=some (zo):=by unfold env;rfl
theorem pr164:env.ed 164=some (dP CK):=by unfold env;rfl
theorem pr166:env.ed 166=some (dP zk):=by unfold env;rfl
theorem pr165:env.ed 165=some (nP 289):=by unfold env;rfl
theorem pr148:env.ed 148=some (wC):=by unfold env;rfl
theorem pr90:env.ed 90=some (dP D1):=by unfold env;rfl
theorem Dd{l:List Oper}{Q:bT->St->Prop}{rg:T AV}{n id:Nat}{h:ah}{ds:List nh}{bX:Bool}(a:uR env l.toArray (gX l.toArray) h.nx n ds bX Q l.zipIdx rg (h.bump l.length) [] [])(b:oI env l.toArray=false:=by kernel_rfl)(e:iD l.toArray=true:=by kernel_rfl):ct env (.region id l.toArray true) Q ⟨rg,n,h,ds,bX⟩:=Pt b e a
theorem dd{A:Prop}(a:A:=by repeat (first|exact JG _ _|exact Bu _ _ _|exact JH _ _ _ _ _|refine R3 (by decide+kernel) ?_|refine Ll (by decide+kernel) ?_|refine R4 (by decide+kernel) ?_|refine JF (by simp[*];done) ?_|refine Pu (by simp[*];done) ?_)):A:=a
theorem di{A B:Prop}(b:B)(a:A:=by repeat (first|exact JG _ _|exact Bu _ _ _|exact JH _ _ _ _ _|refine R3 (by decide+kernel) ?_|refine Ll (by decide+kernel) ?_|refine R4 (by decide+kernel) ?_|refine JF (by simp[*];done) ?_|refine Pu (by simp[*];done) ?_)):A/\B:=⟨a,b⟩
theorem wr{a:Int}(h0:-9223372036854775808<=a)(b:a<=9223372036854775807):IntKind.wrap .i64 a=a:=by
 rw[IntKind.wrap_i64];omega
theorem wq{a b:Int}(h0:-9223372036854775808<=a:=by first|omega)(e:a<=9223372036854775807:=by first|omega)(f:a=b:=by first|omega):IntKind.wrap .i64 a=b:=(wr h0 e).trans f
theorem U8(i:Nat)(h:(i:Int)+1<=9223372036854775807:=by first|omega):IntKind.wrap .i64 ((i:Int)+1)=((i+1:Nat):Int):=wq
def eT(c:Int):Bool:=(decide (97<=c)&&decide (c<=122))||((decide (65<=c)&&decide (c<=90))||c==95)
def fy(c:Int):Bool:=decide (48<=c)&&decide (c<=57)
def je(c:Int):Bool:=eT c||fy c
theorem Fw(c:Int)(h:ah):ba env 111 [.int .u8 c] h (λout h'=>out= .ret (.bool (eT c))/\h'=h):=by
 refine wb fn111 rfl ?_;by_cases a:97<=c<;>by_cases b:c<=122<;>by_cases e:65<=c<;>by_cases g:c<=90<;>simp[f111,eT,a,b,e,g]
theorem NY(c:Int)(h:ah):ba env 182 [.int .u8 c] h (λout h'=>out= .ret (.bool (fy c))/\h'=h):=by
 refine wb fn182 rfl ?_;by_cases a:48<=c<;>by_cases b:c<=57<;>simp[f182,fy,a,b]
theorem Lm(c:Int)(h:ah):ba env 144 [.int .u8 c] h (λout h'=>out= .ret (.bool (je c))/\h'=h):=by
 refine wb fn144 rfl ?_;simp[f144];refine(Fw c h).m1 λe a=>?_;subst a;cases b:eT c with
 |true=>simp[je,b]
 |false=>
  simp;refine(NY c e).m1 λi a=>?_;subst a;cases g:fy c<;>simp[je,b,g]
def cM(s:List UInt8):Nat:=(s.takeWhile λc=>je c.toNat).length
theorem xF{s:bu}{i:Nat}(hi:i<=cM s):(i=cM s/\(i=s.length\/∃c,s[i]?=some c/\je c.toNat=false))\/(i<cM s/\∃c,s[i]?=some c/\je c.toNat=true):=by
 induction s generalizing i with
 |nil=>
  have:i=0:=by simpa[cM]using hi
  subst this;exact .inl ⟨rfl,.inl rfl⟩
 |cons c s e=>
  cases a:je c.toNat with
  |false=>
   have h0:cM (c::s)=0:=(by simp[cM,a]);have:i=0:=om;subst this;exact .inl ⟨h0.symm,.inr ⟨c,rfl,a⟩⟩
  |true=>
   have h0:cM (c::s)=cM s+1:=(by simp[cM,a]);cases i with
   |zero=>exact .inr ⟨om,c,rfl,a⟩
   |succ i=>
    rcases e (i:=i) om with⟨f,b⟩|⟨f,b⟩
    ·exact .inl ⟨om,U7 b⟩
    ·exact .inr ⟨om,U7 b⟩
theorem QH(s:bu)(h:ah)(v:s.length<=281474976710656):ba env 110 [.str s] h (λout h'=>out= .ret (.I (cM s))/\h'=h):=by
 refine wb fn110 rfl ?_;simp[f110];refine bz (λk x=>∃i,i<=cM s/\k=cM s-i/\x.n=17/\x.h=h/\x.ds=[]/\x.bX=false/\x.rg.get 0=some (.str s)/\x.rg.get 3=some (.I i)) (cM s) ⟨0,sp⟩ ?_
 rintro k ⟨rg,n,e,ds,bX⟩ ⟨i,hi,rfl,m,o,p,hr,r0,r3⟩
 dsimp only at m o p hr r0 r3;subst m o p hr;have w:cM s<=s.length:=by
  unfold cM;exact(List.takeWhile_prefix _).length_le
 rcases xF hi with⟨rfl,b|⟨c,b,e⟩⟩|⟨h0,c,b,e⟩
 ·simp[r0,r3,b]
 ·obtain⟨g,a⟩:=aV.1 b;simp[r0,r3,g];refine(Lm _ _).m1 λt j=>?_;subst j;simp[a,e,r3]
 ·obtain⟨g,a⟩:=aV.1 b;have u:IntKind.wrap .i64 ((i:Int)+1)=((i+1:Nat):Int):=by
   rw[wr om om];simp
  simp[r0,r3,g];refine(Lm _ _).m1 λt j=>?_;subst j;simp[a,e,r0,r3,u];exact⟨_,om,i+1,h0,rfl,sp⟩
structure aJ(h h':ah):Prop where
 nx:h.nx<=h'.nx
 old:∀i,i<h.nx->h'.get i=h.get i
 fresh:(∀i,h.nx<=i->h.get i=Option.none)->∀i,h'.nx<=i->h'.get i=Option.none
theorem aJ.refl(h:ah):aJ h h:=⟨ao _,λ_ _=>rfl,λa=>a⟩
theorem aJ.trans{a b c:ah}(h:aJ a b)(h':aJ b c):aJ a c:=
 ⟨bh h.nx h'.nx,λi hi=>(h'.old i (aq hi h.nx)).trans (h.old i hi),λe=>h'.fresh (h.fresh e)⟩
theorem aJ.bump{h g:ah}(k:Nat)(a:aJ h g):aJ h (g.bump k):=
 ⟨bh a.nx (pJ _ _),a.old,λb i hi=>a.fresh b i (bh (pJ _ _) hi)⟩
theorem aJ.alloc{h g:ah}(o:dK)(a:aJ h g):aJ h (g.alloc o).2:=
 ⟨bh a.nx (cp _),λi hi=>by rw[ah.cO,ay (by have:=a.nx;omega)];exact a.old i hi,
  λb i hi=>by
   rw[ah.uq]at hi;rw[ah.cO,ay om];exact a.fresh b i om⟩
theorem aJ.set{h g:ah}{i:Nat}(o:dK)(f:h.nx<=i)(m:i<g.nx)(b:aJ h g):aJ h (g.set i o):=
 ⟨b.nx,λj a=>by rw[ah.aM,ay om];exact b.old j a,
  λe j a=>by
   rw[ah.pj]at a;rw[ah.aM,ay om];exact b.fresh e j a⟩
attribute[simp] rR x8 Cy nC ah.uq ah.pj
def eR:Int->Int->List UInt8->Int×Int
 |l,c,[]=>(l,c)
 |l,c,b::s=>if b=10 then eR (l+1) 1 s else eR l (c+1) s
theorem Ln(s:bu)(l c:Int)(h:ah)(O:s.length<=65536)(D:0<=l/\l<=100000000)(F:0<=c/\c<=100000000):
 ba env 49 [.agg [.I l,.I c],.str s] h (λout h'=>out= .ret (.agg [.I (eR l c s).1,.I (eR l c s).2])/\aJ h h'):=by
 have g0:¬roomy<s.length:=by unfold roomy;omega
 refine wb fn49 rfl ?_;simp[f49,g0];refine bz (λk x=>∃i a b,i<=s.length/\k=s.length-i/\0<=a/\a<=l+i/\0<=b/\b<=c+i+1/\eR a b (s.drop i)=eR l c s/\x.n=26/\x.ds=[]/\x.bX=false/\x.rg.get 2=some (.P h.nx)/\x.rg.get 4=some (.P (h.nx+1))/\
  x.rg.get 8=some (.S (h.nx+2) s.length)/\x.rg.get 9=some (.I s.length)/\x.rg.get 10=some (.I i)/\x.h.get h.nx=some (.C [.I a,.I b])/\x.h.get (h.nx+1)=some (.C [.I 0,.I 0])/\
  x.h.get (h.nx+2)=some (.cells false 1 (s.map λb=> .int .u8 b.toNat))/\aJ h x.h/\h.nx+3<=x.h.nx) s.length ?_ ?_
 ·refine⟨0,l,c,om,rfl,D.1,om,F.1,om,rfl,rfl,rfl,rfl,sp,sp,sp,sp,sp,by simp<;>omega,by simp<;>omega,by simp<;>omega,?_,sp⟩;exact((aJ.refl h).alloc _).alloc _|>.alloc _
 rintro k ⟨rg,n,H,ds,bX⟩ ⟨i,a,b,hi,rfl,P,I,Q,J,o,y,A,hr,t,r4,r8,u,m,c0,c1,c2,k1,nx⟩
 dsimp only at y A hr t r4 r8 u m c0 c1 c2 k1 nx;subst y A hr;by_cases j:i<s.length
 ·obtain⟨x,K⟩:∃x,s[i]?=some x:=⟨s[i],aj j⟩
  obtain⟨R,p⟩:=aV.1 K;have v:s.drop i=x::s.drop (i+1):=by rw[bs j,p]
  rw[v,eR]at o;have B:IntKind.wrap .i64 ((i:Int)+1)=((i+1:Nat):Int):=by
   rw[wr om om];simp
  have C:IntKind.wrap .i64 (b+1)=b+1:=wr om om;have N:IntKind.wrap .i64 (a+1)=a+1:=wr om om;by_cases g:x=10
  ·rw[aY g]at o;simp[t,r4,r8,u,m,j,c0,c1,c2,p,g,B,C,N];exact⟨_,om,i+1,j,rfl,a+1,om,om,1,om,om,o,rfl,⟨rfl,rfl⟩,(k1.set _ (ao _) om).set _ (ao _) IN,nx⟩
  ·rw[ay g]at o;have g1:((x.toNat:Int)==10)=false:=by
    rw[az];intro e;apply g;apply cY;have:(10:UInt8).toNat=10:=rfl;omega
   simp[t,r4,r8,u,m,j,c0,c1,c2,p,g1,B,C];exact⟨_,om,i+1,j,rfl,a,om,om,b+1,om,om,o,rfl,⟨rfl,rfl⟩,k1.set _ (ao _) om,nx⟩
 ·have w:i=s.length:=by omega
  subst w;simp only[dV,eR]at o;simp[t,r4,u,m,c0,c1,<-o];exact k1.set _ om om
def keys:List (List UInt8):=[[99,104,97,114],[105,110,116],[108,111,110,103],[118,111,105,100],[115,116,114,117,99,116],[112,117,98,108,105,99],[105,102],[101,108,115,101],[119,104,105,108,101],[98,114,101,97,107],[99,111,110,116,105,110,117,101],[114,101,116,117,114,110],[115,105,122,101,111,102],[105,110],[111,117,116]]
theorem NZ(s:bu)(h:ah):ba env 112 [.str s] h (λout h'=>out= .ret (.bool (keys.contains s))/\h'=h):=by
 refine wb fn112 rfl ?_;by_cases a:s∈keys
 ·simp only[keys,ak,bm,cT]at a;rcases a with rfl|rfl|rfl|rfl|rfl|rfl|rfl|rfl|rfl|rfl|rfl|rfl|rfl|rfl|rfl<;>simp[f112,keys]
 ·have m:keys.contains s=false:=by simpa using a
  simp only[keys,ak,bm,cT,iS]at a;obtain⟨h0,o,p,t,u,v,w,y,A,B,b,e,g,i,j⟩:=a;rw[m];simp[f112,az.2 h0,az.2 o,az.2 p,az.2 t,az.2 u,az.2 v,az.2 w,az.2 y,az.2 A,az.2 B,az.2 b,az.2 e,az.2 g,az.2 i,az.2 j]
def lM:List (List UInt8):=[[45,62],[61,61],[33,61],[60,61],[62,61],[60,60],[62,62],[38,38],[124,124]]
def xG:List UInt8:=[40,41,123,125,91,93,59,44,46,61,60,62,43,45,42,47,37,38,124,94,126,33]
def gK(s:List UInt8):Int:=if 2<=s.length/\s.take 2∈lM then 2 else match s with
 |[]=>0
 |c::_=>if 0<=Lib.indexByte xG c then 1 else 0
theorem By{s:bu}{c:UInt8}{h:ah}:dP R2 [.str s,.int .u8 c.toNat] h=some (.ret (.I (Lib.indexByte s c)),h):=by simp[dP,R2]
theorem QI(s:bu)(h:ah)(j:s≠[])(A:s.length<=65536):ba env 114 [.str s] h (λout h'=>out= .ret (.I (gK s))/\h'=h):=by
 refine wb fn114 rfl ?_;obtain⟨c,r,rfl⟩:∃c r,s=c::r:=by cases s with|nil=>exact(j rfl).elim|cons c r=>exact⟨c,r,rfl⟩
 cases r with
 |nil=>
  simp[f114];refine ba.ed pr107 By ?_;by_cases h0:0<=Lib.indexByte xG c
  ·have a:0<=Lib.indexByte [40,41,123,125,91,93,59,44,46,61,60,62,43,45,42,47,37,38,124,94,126,33] c:=h0;simp[a,gK,h0]
  ·have a:¬0<=Lib.indexByte [40,41,123,125,91,93,59,44,46,61,60,62,43,45,42,47,37,38,124,94,126,33] c:=h0;simp[a,gK,h0]
 |cons c2 r=>
  have b:(2:Int)<=(r.length:Int)+1+1:=by omega
  by_cases g:[c,c2]∈lM
  ·simp only[lM,ak,bm,cT,da,qE]at g;rcases g with⟨rfl,rfl⟩|⟨rfl,rfl⟩|⟨rfl,rfl⟩|⟨rfl,rfl⟩|⟨rfl,rfl⟩|⟨rfl,rfl⟩|⟨rfl,rfl⟩|⟨rfl,rfl⟩|⟨rfl,rfl⟩<;>simp[f114,gK,lM,b]
  ·have hm:¬(2<=(c::c2::r).length/\(c::c2::r).take 2∈lM):=λe=>g (U7 e.2);simp only[lM,ak,bm,cT,iS]at g;obtain⟨h0,m,o,p,t,u,v,w,y⟩:=g;simp[f114,b,az.2 h0,az.2 m,az.2 o,az.2 p,az.2 t,az.2 u,az.2 v,az.2 w,az.2 y];refine ba.ed pr107 By ?_;by_cases h0:0<=Lib.indexByte xG c
   ·have a:0<=Lib.indexByte [40,41,123,125,91,93,59,44,46,61,60,62,43,45,42,47,37,38,124,94,126,33] c:=h0;simp[a,gK,h0];intro i;exact(hm ⟨sp,U7 i⟩).elim
   ·have a:¬0<=Lib.indexByte [40,41,123,125,91,93,59,44,46,61,60,62,43,45,42,47,37,38,124,94,126,33] c:=h0;simp[a,gK,h0];intro i;exact(hm ⟨sp,U7 i⟩).elim
theorem Ae(s p:bu)(h:ah)(i:s.length<=65536)(j:p.length<=65536):ba env 108 [.str s,.str p] h (λout h'=>out= .ret (.bool (Lib.hasPrefix s p))/\h'=h):=by
 refine wb fn108 rfl ?_;simp[f108];refine wb fn142 rfl ?_;have e:Lib.hasPrefix s p=(decide (p.length<=s.length)&&(s.take p.length==p)):=by
  unfold Lib.hasPrefix;rw[Bool.eq_iff_iff,dO];simp only[cf,tc,ju];constructor
  ·rintro⟨t,rfl⟩;simp
  ·rintro⟨b,g⟩
   have:=List.take_append_drop p.length s;rw[g]at this;exact⟨_,this⟩
 rw[e];by_cases b:p.length<=s.length
 ·have a:(p.length:Int)<=(s.length:Int):=by omega
  simp[f142,b,a]
 ·have a:¬(p.length:Int)<=(s.length:Int):=by omega
  simp[f142,b,a]
def fQ(s:List UInt8):Int×Bool:=match s with
 |[]=>(0,true)
 |c::_=>if 0<=Lib.indexByte [32,9,13,10] c then(1,true)
  else if Lib.hasPrefix s [47,47]=true then(if 0<=Lib.indexByte s 10 then(Lib.indexByte s 10,true)else(s.length,true))
  else if Lib.hasPrefix s [47,42]=true then(js (s.drop 2)+4,decide (0<=js (s.drop 2)))
  else(0,true)
theorem QJ{s:bu}{h:ah}(a:s.length<=65536):dP R5 [.str s,.str [42,47]] h=some (.ret (.I (js s)),h):=by
 simp only[dP,R5,aY a]
theorem zm:∀s,-1<=js s/\js s<=s.length
 |[]=>by decide
 |c::s=>by
  have:=zm s;simp only[js,ai];split
  ·omega
  ·split<;>omega
theorem N1(s:bu)(h:ah)(j:s≠[])(b:s.length<=65536):ba env 85 [.str s] h (λout h'=>out= .ret (.iO [.I (fQ s).1,.bool (fQ s).2])/\h'=h):=by
 refine wb fn85 rfl ?_;obtain⟨c,r,rfl⟩:∃c r,s=c::r:=by cases s with|nil=>exact(j rfl).elim|cons c r=>exact⟨c,r,rfl⟩
 simp[f85];refine ba.ed pr107 By ?_;by_cases a:0<=Lib.indexByte [32,9,13,10] c
 ·simp[a,fQ]
 ·simp[a];refine(Ae (c::r) [47,47] h b sp).m1 λm e=>?_;subst e;cases g:Lib.hasPrefix (c::r) [47,47]with
  |true=>
   simp;refine ba.ed pr107 (By (c:=10)) ?_;by_cases o:0<=Lib.indexByte (c::r) 10<;>simp[o,fQ,a,g]
  |false=>
   simp;refine(Ae (c::r) [47,42] m b sp).m1 λu e=>?_;subst e;cases i:Lib.hasPrefix (c::r) [47,42]with
   |true=>
    obtain⟨t,ht⟩:=dO.1 (show List.isPrefixOf [47,42] (c::r)=true from i);simp only[aI,aX,da]at ht;obtain⟨rfl,rfl⟩:=ht;have v:=zm t;simp only[ai]at b;have p:IntKind.wrap .i64 (js t+4)=js t+4:=wr om om;have g2:(2:Int)<=(t.length:Int)+1+1:=om;simp[g2];refine ba.ed pr109 (QJ om) ?_;simp[p,fQ,a,g,i]
   |false=>simp[fQ,a,g,i]
section
attribute[local simp] Conv.intToInt
theorem N2(c:UInt8)(h:ah)(a:(97<=c.toNat/\c.toNat<=102)\/(65<=c.toNat/\c.toNat<=70)):ba env 203 [.int .u8 c.toNat] h (λout h'=>out= .ret (.int .u8 ((if c.toNat<97 then c.toNat+32 else c.toNat:Nat):Int))/\h'=h):=by
 refine wb fn203 rfl ?_;have key:∀n:Nat,(97<=n/\n<=102)\/(65<=n/\n<=70)->cm (Go.binOp .or 5 (.int .u8 (n:Int)) (.int .u8 32))=some (.int .u8 ((if n<97 then n+32 else n:Nat):Int)):=by
  intro n b;have:n=97\/n=98\/n=99\/n=100\/n=101\/n=102\/n=65\/n=66\/n=67\/n=68\/n=69\/n=70:=by omega
  rcases this with h|h|h|h|h|h|h|h|h|h|h|h<;>subst h<;>rfl
 simp[f203,key c.toNat a]
theorem Lo{k:IntKind}{t:TypeId}{a b:Int}:cm (Go.binOp .add t (.int k a) (.int k b))=some (.int k (IntKind.wrap k (a+b))):=by simp[Go.binOp,Op.intArith,cm,iF,pure]
theorem Hl{k:IntKind}{t:TypeId}{a b:Int}:cm (Go.binOp .sub t (.int k a) (.int k b))=some (.int k (IntKind.wrap k (a-b))):=by simp[Go.binOp,Op.intArith,cm,iF,pure]
theorem Lr{k:IntKind}{t:TypeId}{a b:Int}:cm (Go.binOp .mul t (.int k a) (.int k b))=some (.int k (IntKind.wrap k (a*b))):=by simp[Go.binOp,Op.intArith,cm,iF,pure]
theorem Ls(s:bu)(v:Nat)(h:ah)(hs:s≠[])(hl:s.length<=65536)(hv:wT 0 s=some v):ba env 184 [.str s,.I 16,.I 63] h (λout h'=>out= .ret (.iO [.int .u64 v,.nilIface])/\aJ h h'):=by
 refine wb fn184 rfl ?_;have g0:¬roomy<s.length:=by unfold roomy;omega
 have e0:(s==[])=false:=by cases s with
  |nil=>exact absurd rfl hs
  |cons a b=>rfl
 have sh:∀t,cm (Go.binOp .shl t (.int .u64 1) (.int .u64 63))=some (.int .u64 9223372036854775808):=λ_=>rfl;have V:∀u:Int,cm (pure (Value.int .u64 u))=some (.int .u64 u):=λu=>by simp[cm,iF,pure]
 have D:∀u:Int,cm (pure (Value.int .u8 u))=some (.int .u8 u):=λu=>by simp[cm,iF,pure]
 have W:IntKind.wrap .u64 63=63:=rfl;simp[f184,g0,e0,V,W,sh,Hl];have I:∀a:Int,0<=a->a<18446744073709551616->IntKind.wrap .u64 a=a:=λa h0 h1=>by rw[IntKind.wrap_u64];omega
 obtain⟨J,U⟩:∃J:Nat->St->Prop,J=(λm x=>∃(i a:Nat),i<=s.length/\m=s.length-i/\wT a (s.drop i)=some v/\a<9223372036854775808/\x.n=172/\x.ds=[]/\x.bX=false/\aJ h x.h/\x.h.get h.nx=some (.cells false 1 (s.map λb=> .int .u8 b.toNat))/\
  x.rg.get 1=some (.I 16)/\x.rg.get 8=some (.bool false)/\x.rg.get 10=some (.int .u64 1152921504606846976)/\x.rg.get 11=some (.int .u64 9223372036854775807)/\x.rg.get 12=some (.bool false)/\x.rg.get 13=some (.int .u64 a)/\x.rg.get 99=some (.S h.nx s.length)/\x.rg.get 100=some (.I s.length)/\x.rg.get 101=some (.I i)):=⟨_,rfl⟩
 refine bz J s.length ?_ ?_
 ·rw[U];refine⟨0,0,bJ _,rfl,hv,om,rfl,rfl,rfl,(aJ.refl h).alloc _,sp,sp,sp,sp,by simp[I],sp,sp,sp,sp,sp⟩
 intro m x e;rw[U]at e;obtain⟨rg,n,H,ds,bX⟩:=x;obtain⟨i,a,hi,rfl,g,ha,e1,e2,e3,k,gb,K,r8,j,o,p,w,rl,rn,N⟩:=e;dsimp only at e1 e2 e3 k gb K r8 j o p w rl rn N;subst e1 e2 e3;by_cases y:i<s.length
 ·have A:(i:Int)<(s.length:Int):=by omega
  have wi:=U8 i
  have fa:(s.map λb=>AV.int .u8 b.toNat)[i]?=some (.int .u8 s[i].toNat):=by simp[y]
  rw[bs y]at g;generalize s[i]=c at*;generalize (s.map λb=>AV.int .u8 b.toNat)=F at*;simp only[wT]at g;cases e:wU c with
  |none=>rw[e]at g;cases g
  |some d=>
   rw[e]at g;simp only at g;split at g
   ·cases g
   ·rename_i Au;have O:((c.toNat:Int)==95)=false:=by
     unfold wU at e;rw[az];split at e
     ·omega
     ·split at e
      ·omega
      ·split at e
       ·omega
       ·cases e
    have c1:¬(1152921504606846976:Int)<=(a:Int):=om;have c2:¬((a:Int)*16+d<(a:Int)*16):=om;have c3:¬((9223372036854775807:Int)<(a:Int)*16+d):=om;have w1:IntKind.wrap .u64 ((a:Int)*16)=(a:Int)*16:=I _ om om;have w2:IntKind.wrap .u64 ((a:Int)*16+d)=(a:Int)*16+d:=I _ om om;have P:IntKind.wrap .u64 16=16:=rfl;have B:IntKind.wrap .u8 16=16:=rfl;have A5:d<16:=by
     unfold wU at e;split at e
     ·injection e with e;omega
     ·split at e
      ·injection e with e;omega
      ·split at e
       ·injection e with e;omega
       ·cases e
    have R:¬(16:Int)<=(d:Int):=om;by_cases Z:48<=c.toNat/\c.toNat<=57
    ·have hd:d=c.toNat-48:=by
      unfold wU at e;rw[aY Z]at e;injection e with e;exact e.symm
     have a1:(48:Int)<=(c.toNat:Int):=om;have a2:(c.toNat:Int)<=57:=om;have wd:IntKind.wrap .u8 ((c.toNat:Int)-48)=(d:Int):=(by rw[IntKind.wrap_u8];omega);have C:IntKind.wrap .u64 (d:Int)=(d:Int):=I _ om om;simp[K,j,o,w,rl,rn,N,A,gb,fa,O,a1,a2,wd,C,V,P,B,R,c1,w1,w2,c2,c3,wi,Lo,Hl,Lr,D];refine⟨s.length-(i+1),om,?_⟩;rw[U];exact⟨i+1,a*16+d,y,rfl,g,om,rfl,rfl,rfl,k,gb,by simp[K],by simp[r8],by simp[j],by simp[o],by simp[p],sp,by simp[rl],by simp[rn],sp⟩
    ·have S:(97<=c.toNat/\c.toNat<=102)\/(65<=c.toNat/\c.toNat<=70):=by
      unfold wU at e;rw[ay Z]at e;split at e
      ·exact .inl (by assumption)
      ·split at e
       ·exact .inr (by assumption)
       ·cases e
     have hd:d+87=(if c.toNat<97 then c.toNat+32 else c.toNat):=by
      unfold wU at e;rw[ay Z]at e;split at e
      ·injection e with e;rw[ay om];omega
      ·split at e
       ·injection e with e;rw[aY om];omega
       ·cases e
     have low:∀(H:ah)(Q:Out->ah->Prop),Q (.ret (.int .u8 ((d+87:Nat):Int))) H->ba env 203 [.int .u8 c.toNat] H Q:=λH Q q=>(N2 c H S).mono λout h' hq=>by
      obtain⟨rfl,rfl⟩:=hq;rw[<-hd];exact q
     have b1:(97:Int)<=(d:Int)+87:=by
      have:10<=d:=by rcases S with h|h<;>(split at hd<;>omega)
      omega
     have b2:(d:Int)+87<=122:=om;have wd:IntKind.wrap .u8 ((d:Int)+87-97)=(d:Int)-10:=(by rw[IntKind.wrap_u8];omega);have A1:IntKind.wrap .u8 (d:Int)=(d:Int):=(by rw[IntKind.wrap_u8];omega);have C:IntKind.wrap .u64 (d:Int)=(d:Int):=I _ om om;by_cases A2:(48:Int)<=(c.toNat:Int)
     ·have A3:¬(c.toNat:Int)<=57:=om;simp[rl,rn,N,A,gb,fa,O,A2,A3];refine low _ _ ?_;simp[b1];refine low _ _ ?_;simp[b2];refine low _ _ ?_;simp[K,j,o,w,N,wd,A1,C,V,P,B,R,c1,w1,w2,c2,c3,wi,Lo,Hl,Lr,D];refine⟨s.length-(i+1),om,?_⟩;rw[U];exact⟨i+1,a*16+d,y,rfl,g,om,rfl,rfl,rfl,k,gb,by simp[K],by simp[r8],by simp[j],by simp[o],by simp[p],sp,by simp[rl],by simp[rn],sp⟩
     ·omega
 ·have A4:i=s.length:=by omega
  subst A4;rw[dV]at g;simp only[wT,bj]at g;subst g;simp[p,w,rn,N];exact k
theorem TY(s:bu)(v:Nat)(h:ah)(a:s≠[])(b:s.length<=65536)(e:wT 0 s=some v):ba env 146 [.str s,.I 16,.I 63] h (λout h'=>out= .ret (.iO [.int .u64 v,.nilIface])/\aJ h h'):=by
 refine wb fn146 rfl ?_;simp[f146];refine(Ls s v h a b e).m1 λg k2=>?_;simp;exact k2
end
attribute[simp] Conv.intToInt
theorem CM{l cs:bu}(h:∀b∈l,cs.contains b=true):Lib.trimS l cs=[]:=by
 have e:∀(m:bu),(∀b∈m,cs.contains b=true)->m.dropWhile (λb=>cs.contains b)=[]:=by
  intro m;induction m with
  |nil=>intro _;rfl
  |cons c m f=>
   intro hm;rw[List.dropWhile_cons,aY (hm c sp)];exact f λb a=>hm b (by simp[a])
 unfold Lib.trimS Lib.trimLeftS Lib.trimRightS;rw[e l.reverse (λb a=>h b (List.mem_reverse.1 a))];rfl
def Lu:List UInt8:=[48,49,50,51,52,53,54,55,56,57,97,98,99,100,101,102,65,66,67,68,69,70]
def yn:List UInt8:=[48,49,50,51,52,53,54,55,56,57]
theorem Lv(c:UInt8)(h:(wU c).isSome=true):Lu.contains c=true:=by
 have key:∀n:Fin 256,(wU (UInt8.ofNat n.1)).isSome=true->Lu.contains (UInt8.ofNat n.1)=true:=dc
 have:=key ⟨c.toNat,c.toNat_lt⟩;simp only[UInt8.ofNat_toNat]at this;exact this h
theorem sK{u:Int}:cm (pure (Value.int .i64 u))=some (.I u):=by simp[cm,iF,pure]
theorem yo:∀(s:bu)(acc v:Nat),wT acc s=some v->(∀b∈s,Lu.contains b=true)/\(acc<9223372036854775808->v<9223372036854775808)
 |[],acc,v,h=>by
  simp only[wT]at h;injection h with h;subst h;exact⟨(λb a=>by cases a),id⟩
 |c::s,acc,v,h=>by
  simp only[wT]at h;cases e:wU c with
  |none=>rw[e]at h;cases h
  |some x=>
   rw[e]at h;simp only at h;split at h
   ·cases h
   ·obtain⟨f,g⟩:=yo s _ v h;refine⟨λb a=>?_,λ_=>g om⟩;rcases ak.1 a with rfl|a
    ·exact Lv _ (by rw[e];rfl)
    ·exact f b a
def uw(s:List UInt8):Option Int:=
 if Lib.hasPrefix s [48,120]=true then
  if s.drop 2=[]\/16<(s.drop 2).length then none else(wT 0 (s.drop 2)).map λ(v:Nat)=>(v:Int)
 else if(∀b∈s,yn.contains b=true)/\(s.length<=1\/s.head?≠some 48)then match Lib.atoiAll s with
  | .ok v=>some v
  |_=>none
 else none
theorem Lw{s:bu}{h:ah}{v:Int}(a:s.length<=65536)(b:Lib.atoiAll s= .ok v):zo [.str s,.I 10,.I 64] h=some (.ret (.iO [.I v,.nilIface]),h):=by
 simp only[zo,aY a,b]
theorem vJ{s p:bu}{h:ah}(a:s.length<=9223372036854775807)(b:p.length<4294967281)(e:Pq p=true):dP CJ [.str s,.str p] h=some (.ret (.str (Lib.trimS s p)),h):=by
 simp only[dP,CJ,aY (And.intro a (And.intro b e))]
theorem yp{s p:bu}{h:ah}:dP Fq [.str s,.str p] h=some (.ret (.iO [.str (Lib.trimPrefix s p),.bool (Lib.hasPrefix s p)]),h):=rfl
theorem Lx(s:bu)(h:ah)(v:Int)(y:s≠[])(t:s.length<=65536)(a:uw s=some v):ba env 113 [.str s] h (λout h'=>out= .ret (.iO [.I v,.bool true])/\aJ h h'):=by
 refine wb fn113 rfl ?_;unfold uw at a;cases i:Lib.hasPrefix s [48,120]with
 |true=>
  simp only[i,kh]at a;split at a
  ·cases a
  ·rename_i w;simp only[iS,Nat.not_lt]at w;cases m:wT 0 (s.drop 2)with
   |none=>rw[m]at a;cases a
   |some u=>
    rw[m]at a;simp only[Option.map,bj]at a;subst a;have b:Lib.trimPrefix s [48,120]=s.drop 2:=(by unfold Lib.trimPrefix;rw[aY i];rfl);obtain⟨m1,m2⟩:=yo _ _ _ m;have hu:=m2 dc;have g1:(((s.drop 2).length:Nat):Int)<=16:=om;have ht:Lib.trimS (s.drop 2) [48,49,50,51,52,53,54,55,56,57,97,98,99,100,101,102,65,66,67,68,69,70]=[]:=CM m1;have A:IntKind.wrap .i64 (u:Int)=u:=wr om om;simp[f113];refine ba.ed pr145 yp ?_;rw[b,i];simp;refine(TY _ _ _ w.1 IN m).m1 λF k2=>?_;generalize s.drop 2=x at*;simp[g1,A,sK];refine ba.ed pr126 (vJ (s:=x) (p:=Lu) om dc dc) ?_;simp[Lu,ht];exact k2
 |false=>
  simp only[i,dN,eY]at a;split at a
  ·rename_i B;obtain⟨d1,d2⟩:=B;have ht:Lib.trimS s [48,49,50,51,52,53,54,55,56,57]=[]:=CM d1;cases o:Lib.atoiAll s with
   |ok u=>
    rw[o]at a;simp only[bj]at a;subst a;have b:Lib.trimPrefix s [48,120]=s:=(by unfold Lib.trimPrefix;rw[i];rfl);simp[f113];refine ba.ed pr145 yp ?_;rw[b,i];by_cases C:s.length<=1
    ·have g:¬(1:Int)<(s.length:Int):=om;simp[g];refine ba.ed pr126 (vJ om dc dc) ?_;simp[ht];refine ba.ed pr147 (Lw t o) ?_;simp;refine Dd ?_;simp;exact(aJ.refl _).bump _
    ·have g:(1:Int)<(s.length:Int):=om;obtain⟨c,r,rfl⟩:∃c r,s=c::r:=(by cases s with|nil=>exact(y rfl).elim|cons c r=>exact⟨c,r,rfl⟩);have D:c≠48:=λe=>by
      rcases d2 with d2|d2
      ·exact C d2
      ·rw[e]at d2;exact d2 rfl
     have g2:((c.toNat:Int)==48)=false:=by
      rw[az];intro e;apply D;apply cY;have:(48:UInt8).toNat=48:=rfl;omega
     have j:(1:Int)<(r.length:Int)+1:=(U7 g);simp[j,g2];refine ba.ed pr126 (vJ om dc dc) ?_;simp[ht];refine ba.ed pr147 (Lw t o) ?_;simp;refine Dd ?_;simp;exact(aJ.refl _).bump _
   |_=>rw[o]at a;cases a
  ·cases a
structure Wd where
 kind:Int
 text:List UInt8
 n:Int
 deriving DecidableEq
def jG(s:List UInt8):Option Wd:=match s with
 |[]=>none
 |c::_=>if eT c.toNat=true then(if cM s<=40 then some ⟨if keys.contains (s.take (cM s))=true then 3 else 1,s.take (cM s),0⟩else none)
  else if 0<cM s then(uw (s.take (cM s))).map (λv=>⟨2,s.take (cM s),v⟩)
  else if 0<gK s then some ⟨4,s.take (gK s).toNat,0⟩else none
theorem aJ.Ly{h g:ah}{i:Nat}(o:dK)(a:aJ h g)(b:h.nx<=i)(e:i<g.nx):aJ h (g.set i o):=aJ.set o b e a
theorem kT{h h':ah}(k:aJ h h':=by repeat (first|exact aJ.refl _|assumption|apply aJ.alloc|apply aJ.bump|(refine aJ.Ly _ ?_ (by first|omega|(simp;done)|(simp;omega)) (by first|omega|(simp;done)|(simp;omega))))):aJ h h':=k
theorem N3{s:bu}{n:Nat}(h:0<n)(a:s≠[]):s.take n≠[]:=by
 intro e;rcases List.take_eq_nil_iff.1 e with e|e
 ·omega
 ·exact a e
theorem Bz(s:bu):cM s<=s.length:=(List.takeWhile_prefix _).length_le
theorem vK(s:bu):0<=gK s/\gK s<=s.length:=by
 unfold gK;split
 ·omega
 ·cases s with
  |nil=>simp
  |cons c s=>simp only[ai];split<;>omega
theorem QK(s:bu)(h:ah)(w:Wd)(B:s.length<=65536)(hw:jG s=some w):ba env 86 [.str s] h (λout h'=>out= .ret (.iO [.agg [.I w.kind,.str w.text,.I w.n,.I 0,.I 0],.bool true])/\aJ h h'):=by
 refine wb fn86 rfl ?_;obtain⟨c,r,rfl⟩:∃c r,s=c::r:=by cases s with|nil=>cases hw|cons c r=>exact⟨c,r,rfl⟩
 have I:=Bz (c::r);have t:(c::r)≠[]:=sp
 have C:(c::r)[0]?=some c:=rfl;have i:((cM (c::r):Nat):Int).toNat=cM (c::r):=om
 simp only[jG]at hw;generalize J:c::r=S at*;have b:((cM S:Nat):Int)<=(S.length:Int):=om
 simp[f86];refine(QH S _ om).m1 λK e=>?_;subst e;simp[C];refine(Fw _ _).m1 λN e=>?_;subst e;cases g:eT c.toNat with
 |true=>
  simp only[g,kh]at hw;split at hw
  ·rename_i D;simp only[bj]at hw;subst hw;have a:((cM S:Nat):Int)<=40:=om;simp[b,i];refine(NZ _ _).m1 λu e=>?_;subst e;cases y:keys.contains (S.take (cM S))with
   |true=>
    simp[a,dQ.1 y];exact kT
   |false=>
    have j:¬S.take (cM S)∈keys:=(U7 y);simp[a,j];exact kT
  ·cases hw
 |false=>
  simp only[g,dN,eY]at hw;by_cases h0:0<cM S
  ·rw[aY h0]at hw;cases m:uw (S.take (cM S))with
   |none=>rw[m]at hw;cases hw
   |some v=>
    rw[m]at hw;simp only[Option.map,bj]at hw;subst hw;simp[h0,b,i];refine(Lx _ _ v (N3 h0 t) (by rw[bR];omega) m).m1 λu o=>?_;have F:=o.nx;have A:=o.old h.nx sp;have kk:=((aJ.refl h).alloc _).trans o;simp at A F;simp[b,i,A];exact kT
  ·rw[ay h0]at hw;split at hw
   ·rename_i hm;simp only[bj]at hw;subst hw;have p:=vK S;simp[h0];refine(QI S _ t B).m1 λu e=>?_;subst e;simp[hm,p];exact kT
   ·cases hw
structure aR(X:List Nat)(h h':ah):Prop where
 nx:h.nx<=h'.nx
 old:∀i,i<h.nx->i∉X->h'.get i=h.get i
 fresh:(∀i,h.nx<=i->h.get i=Option.none)->∀i,h'.nx<=i->h'.get i=Option.none
theorem aR.refl(X:cB)(h:ah):aR X h h:=⟨ao _,λ_ _ _=>rfl,λa=>a⟩
theorem aJ.x{h h':ah}(k:aJ h h')(X:cB):aR X h h':=⟨k.nx,λi hi _=>k.old i hi,k.fresh⟩
theorem aR.trans{X:cB}{a b c:ah}(h:aR X a b)(h':aR X b c):aR X a c:=
 ⟨bh h.nx h'.nx,λi hi e=>(h'.old i (aq hi h.nx) e).trans (h.old i hi e),λf=>h'.fresh (h.fresh f)⟩
theorem aR.bump{X:cB}{h g:ah}(k:Nat)(a:aR X h g):aR X h (g.bump k):=
 ⟨bh a.nx (pJ _ _),a.old,λb i hi=>a.fresh b i (bh (pJ _ _) hi)⟩
theorem aR.alloc{X:cB}{h g:ah}(o:dK)(a:aR X h g):aR X h (g.alloc o).2:=
 ⟨bh a.nx (cp _),λi hi b=>by rw[ah.cO,ay (by have:=a.nx;omega)];exact a.old i hi b,
  λe i hi=>by
   rw[ah.uq]at hi;rw[ah.cO,ay om];exact a.fresh e i om⟩
theorem aR.set{X:cB}{h g:ah}{i:Nat}(o:dK)(e:aR X h g)(a:i∈X\/h.nx<=i)(p:i<g.nx):aR X h (g.set i o):=
 ⟨e.nx,λj b f=>by
  rw[ah.aM,ay (by rintro rfl;rcases a with a|a<;>first|exact f a|omega)];exact e.old j b f,
  λm j b=>by
   rw[ah.pj]at b;rw[ah.aM,ay om];exact e.fresh m j b⟩
theorem aR.mono{X Y:cB}{h h':ah}(k:aR X h h')(a:∀i,i∈X->i<h.nx->i∈Y):aR Y h h':=
 ⟨k.nx,λi hi b=>k.old i hi λe=>b (a i e hi),k.fresh⟩
theorem aR.aH{h h':ah}(k:aR [] h h'):aJ h h':=⟨k.nx,λi hi=>k.old i hi sp,k.fresh⟩
theorem kX{X:cB}{h h':ah}(k:aR X h h':=by repeat (first|exact aR.refl _ _|assumption|apply aR.alloc|apply aR.bump|(refine aR.set _ ?_ (by first|(left;simp;done)|(right;first|omega|(simp;done)|(simp;omega))) (by first|omega|(simp;done)|(simp;omega))))):aR X h h':=k
theorem Lz(n:Nat)(s:bu)(l c:Int)(p q:Nat)(h:ah)(i:h.get p=some (.C [.I l,.I c]))(j:h.get q=some (.C [.str s]))(a:p≠q)(o:p<h.nx)(t:q<h.nx)
 (A:s.length<=65536) (u:0<=l/\l<=100000000) (v:0<=c/\c<=100000000) (w:n<=s.length):
 ba env 84 [.I n,.P p,.P q] h (λout h'=>out= .ret (.iO [])/\aR [p,q] h h'/\
  h'.get p=some (.C [.I (eR l c (s.take n)).1,.I (eR l c (s.take n)).2])/\h'.get q=some (.C [.str (s.drop n)])):=by
 refine wb fn84 rfl ?_;have b:(n:Int)<=(s.length:Int):=om
 simp[f84];refine Dd ?_;simp[i,j,b];refine(Ln _ _ _ _ (by rw[bR];omega) u v).mono λout B e=>?_;obtain⟨rfl,k2⟩:=e;have m:=k2.old p IN;have g:=k2.old q IN;have y:=k2.nx;simp[i,j]at m g y;simp;refine⟨dd,?_⟩;simp[m,g,a.symm]
 repeat refine di ?_
 simp[w,g,a,a.symm,fp];have kk:=(((aJ.refl h).bump 6).trans k2).x [p,q];exact kX
structure Wo where
 kind:Int
 text:List UInt8
 n:Int
 l:Int
 c:Int
 deriving DecidableEq
def Wo.cells(w:Wo):List AV:=[.I w.kind,.str w.text,.I w.n,.I w.l,.I w.c]
inductive gZ:Int->Int->List UInt8->List Wo->Prop where
 |nil (l c:Int):gZ l c [] []
 |blank {l c:Int} {s:List UInt8} {n:Nat} {ws:List Wo} (hs:s≠[]) (hb:fQ s=((n:Int),true)) (h0:0<n) (hn:n<=s.length) (hr:gZ (eR l c (s.take n)).1 (eR l c (s.take n)).2 (s.drop n) ws):gZ l c s ws
 |word {l c:Int} {s:List UInt8} {w:Wd} {ws:List Wo} (hs:s≠[]) (hb:fQ s=(0,true)) (hw:jG s=some w)
  (hr:gZ (eR l c w.text).1 (eR l c w.text).2 (s.drop w.text.length) ws):gZ l c s (⟨w.kind,w.text,w.n,l,c⟩::ws)
theorem gZ.done{l c:Int}{ws:List Wo}(h:gZ l c [] ws):ws=[]:=by
 cases h with
 |nil=>rfl
 |blank a=>exact(a rfl).elim
 |word a=>exact(a rfl).elim
theorem BA{s:bu}{w:Wd}(h:jG s=some w):w.text=s.take w.text.length/\w.text.length<=s.length/\0<w.text.length:=by
 have key:∀n:Nat,0<n->n<=s.length->s.take n=s.take (s.take n).length/\(s.take n).length<=s.length/\0<(s.take n).length:=by
  intro n h0 a;rw[bR,qR a];exact⟨rfl,a,h0⟩
 have a:=Bz s;have hm:=vK s;have f:∀c r,s=c::r->eT c.toNat=true->0<cM s:=by
  rintro c r rfl b
  simp[cM,je,b]
 unfold jG at h;split at h
 ·cases h
 ·rename_i c r;split at h
  ·rename_i b;split at h
   ·injection h with h;subst h;exact key _ (f c r rfl b) a
   ·cases h
  ·split at h
   ·rename_i h0;cases e:uw ((c::r).take (cM (c::r)))with
    |none=>rw[e]at h;cases h
    |some v=>rw[e]at h;simp only[Option.map,bj]at h;subst h;exact key _ h0 a
   ·split at h
    ·rename_i h0;injection h with h;subst h;exact key _ om om
    ·cases h
theorem rX:∀(s:bu)(l c:Int),0<=l->0<=c->0<=(eR l c s).1/\(eR l c s).1<=l+s.length/\0<=(eR l c s).2/\(eR l c s).2<=c+s.length+1
 |[],l,c,a,e=>by simp only[eR,aW];omega
 |b::s,l,c,a,e=>by
  unfold eR;split
  ·have:=rX s (l+1) 1 om om;simp only[ai];omega
  ·have:=rX s l (c+1) om om;simp only[ai];omega
def bP(h:ah):Prop:=∀i,h.nx<=i->h.get i=Option.none
def pN(A:Option Nat)(n:Nat):AV:=match A with
 |none=> .Z
 |some a=> .S a n
structure Pv(v:Nat)(A:Option Nat)(ws:List Wo)(h:ah):Prop where
 var:h.get v=some (.C [pN A ws.length])
 none:A=Option.none->ws=[]
 arr:∀a,A=some a->h.get a=some (.D 5 (ws.flatMap Wo.cells))/\a<h.nx
def SG(l v:Nat)(O:dK):Prop:=∀(A:Option Nat)(ws:List Wo)(w:Wo)(h:ah),h.get l=some O->Pv v A ws h->ws.length<=65536->(∀a,A=some a->a≠l/\a≠v)->l<h.nx->v<h.nx->bP h->
 pM env l [.agg w.cells,.bool false] h (λx h'=>x= .bool true/\h'.get l=some O/\∃b,Pv v b (ws++[w]) h'/\(b=A\/∃a,b=some a/\h.nx<=a)/\aR ([l,v]++A.toList) h h')
theorem aR.trans'{X Y:cB}{a b c:ah}(h:aR X a b)(h':aR Y b c)(g:∀i,i∈Y->i<a.nx->i∈X):aR X a c:=
 ⟨bh h.nx h'.nx,λi hi f=>(h'.old i (aq hi h.nx) λe=>f (g i e hi)).trans (h.old i hi f),λj=>h'.fresh (h.fresh j)⟩
structure SH(l v:Nat)(O:dK)(ws:List Wo)(s:List UInt8)(h:ah)(A:Option Nat)(bQ dR:List Wo)(rest:List UInt8)(lc cc:Int)(st:St):Prop where
 app:bQ++dR=ws
 lex:gZ lc cc rest dR
 len:bQ.length+rest.length<=s.length
 l0:0<=lc
 l1:lc+rest.length<=s.length+1
 c0:0<=cc
 c1:cc+2*rest.length<=2*s.length+1
 n:st.n=59
 ds:st.ds=[]
 bX:st.bX=false
 r0:st.rg.get 0=some (.Cx l)
 r3:st.rg.get 3=some (.P (h.nx+2))
 r4:st.rg.get 4=some (.P (h.nx+3))
 r5:st.rg.get 5=some (.func 84 [.P (h.nx+2),.P (h.nx+3)])
 gl:st.h.get l=some O
 Af:Pv v A bQ st.h
 lo:∀a,A=some a->h.nx+6<=a
 p3:st.h.get (h.nx+2)=some (.C [.I lc,.I cc])
 p4:st.h.get (h.nx+3)=some (.C [.str rest])
 aH:aR [l,v] h st.h
 nx:h.nx+6<=st.h.nx
theorem N4(l v:Nat)(O:dK)(tk:SG l v O)(b:Nat)(s:bu)(ws:List Wo)(h:ah)(hO:∃pd n rg aa bb,O= .loop .ready pd n rg #[9,10] aa bb)(hl:h.get l=some O)(hv:Pv v none [] h)(hb:h.get b=some (.C [.str s]))(hf:bP h)(C3:l<h.nx)(C4:v<h.nx)(C5:b<h.nx)
 (C6:b≠l) (C7:b≠v) (C8:l≠v) (hs:s.length<=65536) (hx:gZ 1 1 s ws):
 ba env 83 [.Cx l,.P b] h (λout h'=>out= .ret (.iO [])/\h'.get l=some O/\∃A,Pv v A ws h'/\(∀a,A=some a->h.nx<=a)/\aR [l,v] h h'):=by
 refine wb fn83 rfl ?_;simp[f83];refine Dd ?_;simp[hb];have f2:=hf (h.nx+2) om;have f3:=hf (h.nx+3) om;have b2:b≠h.nx+2:=om
 have b3:b≠h.nx+3:=om
 simp[f2,f3]
 repeat refine di ?_
 have l2:l≠h.nx+2:=om
 have l3:l≠h.nx+3:=om
 have v2:v≠h.nx+2:=om
 have v3:v≠h.nx+3:=om
 refine bz (λk x=>∃A bQ dR rest lc cc,k=rest.length/\SH l v O ws s h A bQ dR rest lc cc x) s.length ?_ ?_
 ·refine⟨none,[],ws,s,1,1,rfl,⟨rfl,hx,sp,om,om,om,om,rfl,rfl,rfl,sp,sp,sp,sp,?_,?_,sp,sp,sp,?_,sp⟩⟩
  ·simp[hl,l2,l3]
  ·exact⟨by simp[v2,v3,hv.var],λ_=>rfl,sp⟩
  ·exact kX
 rintro k ⟨rg,n,H,ds,bX⟩ ⟨A,bQ,dR,rest,lc,cc,rfl,I⟩
 obtain⟨i1,i2,i3,i4,i5,i6,i7,N,P,hr,r0,r3,r4,r5,gl,Af,lo,p3,p4,B,nx⟩:=I;dsimp only at N P hr r0 r3 r4 r5 gl Af lo p3 p4 B nx;subst N P hr;by_cases o:rest=[]
 ·subst o;have e:=i2.done;subst e;simp at i1;subst i1;simp[r4,p4];exact⟨gl,A,Af,λa e=>by have:=lo a e;omega,B⟩
 ·have D:(rest==[])=false:=az.2 o;simp[r4,p4,D];refine bz (λk x=>∃dR g lc cc,k=g.length/\g≠[]/\g.length<=rest.length/\SH l v O ws s h A bQ dR g lc cc x) rest.length ?_ ?_
  ·exact⟨dR,rest,lc,cc,rfl,o,ao _,⟨i1,i2,i3,i4,i5,i6,i7,rfl,rfl,rfl,by simp[r0],by simp[r3],by simp[r4],by simp[r5],gl,Af,lo,p3,p4,B,nx⟩⟩
  clear r0 r3 r4 r5 gl Af lo p3 p4 B nx i1 i2 i3 i4 i5 i6 i7 rg dR lc cc H D
  rintro k ⟨rg,n,H,ds,bX⟩ ⟨dR,g,lc,cc,rfl,t,hle,I⟩
  obtain⟨i1,i2,i3,i4,i5,i6,i7,N,P,hr,r0,r3,r4,r5,gl,Af,lo,p3,p4,B,nx⟩:=I;dsimp only at N P hr r0 r3 r4 r5 gl Af lo p3 p4 B nx;subst N P hr;have D:(g==[])=false:=az.2 t;simp[r4,p4];refine(N1 g H t om).m1 λh2 F=>?_;subst F;cases i2 with
  |nil=>exact(t rfl).elim
  |@blank _ _ _ n _ A3 Q h0 R m=>
   have A5:((n:Int)==0)=false:=(by rw[az];omega);simp[Q,A5,r5];have S:=rX (g.take n) lc cc i4 i6;rw[bR,qR R]at S;refine(Lz n g lc cc _ _ h2 p3 p4 om om om om ⟨i4,om⟩ ⟨i6,om⟩ R).mono λout p F=>?_;obtain⟨rfl,k3,q3,K⟩:=F;have n3:=k3.nx;have g3:p.get l=some O:=(by rw[k3.old l om IN,gl]);have j:Pv v A bQ p:=⟨by rw[k3.old v om IN];exact Af.var,Af.none,λa e=>by
    have:=lo a e;have y:=Af.arr a e;exact⟨by rw[k3.old a y.2 IN];exact y.1,om⟩⟩
   have C:aR [l,v] h p:=B.trans' k3 (by intro i hi U;simp at hi;omega);have zp:(g.drop n).length=g.length-n:=bK;by_cases J:g.drop n=[]
   ·rw[J]at m K;have e:=m.done;subst e;simp at i1;subst i1;simp[r4,K];exact⟨g3,A,j,λa e=>by have:=lo a e;omega,C⟩
   ·have Au:(g.drop n==[])=false:=az.2 J;simp[r4,K,Au];refine⟨_,?_,dR,_,rfl,J,?_,_,_,⟨i1,m,?_,?_,?_,?_,?_,rfl,rfl,rfl,by simp[r0],by simp[r3],by simp[r4],by simp[r5],g3,j,lo,q3,K,C,by dsimp only;omega⟩⟩<;>omega
  |word A3 C1 hw m=>
   rename_i w dR;obtain⟨t1,t2,t3⟩:=BA hw;simp[C1,r4,p4];refine(QK g h2 w om hw).m1 λp k3=>?_;have n3:=k3.nx;have q3:=(k3.old _ om).trans p3;have K:=(k3.old _ om).trans p4;have d3:h.nx+2≠p.nx:=om;have d4:h.nx+3≠p.nx:=om;simp[r3,r0,q3,d3];have V:p.get l=some O:=(by rw[k3.old l om,gl]);have ln:l≠p.nx:=om;obtain⟨pd,nn,C9,aa,bb,W⟩:=hO;simp[V,ln,W];have vn:v≠p.nx:=om;have j:Pv v A bQ p:=⟨by rw[k3.old v om];exact Af.var,Af.none,λa e=>by
    have y:=Af.arr a e;exact⟨by rw[k3.old a y.2];exact y.1,om⟩⟩
   refine(tk A bQ ⟨w.kind,w.text,w.n,lc,cc⟩ _ (by simp[V,ln]) ⟨by simp[vn,j.var],j.none,λa e=>?_⟩ om (λa e=>by have:=lo a e;omega) IN IN ?_).mono λx h4 F=>?_
   ·have y:=j.arr a e;have na:a≠p.nx:=om;refine⟨by simp[na,y.1],IN⟩
   ·have f1:bP h2:=B.fresh hf;have f3:=k3.fresh f1;exact(show aJ p _ from kT).fresh f3
   obtain⟨rfl,g4,A4,u,C2,C⟩:=F;have n4:=C.nx;simp at n4;have u3:=C.old (h.nx+2) IN (by intro e;simp at e;rcases e with e|e|e<;>first|omega|(have:=lo _ e;have:=(Af.arr _ e).2;omega));have u4:=C.old (h.nx+3) IN (by intro e;simp at e;rcases e with e|e|e<;>first|omega|(have:=lo _ e;have:=(Af.arr _ e).2;omega));have u5:=C.old p.nx sp (by intro e;simp at e;rcases e with e|e|e<;>first|omega|(have:=lo _ e;have:=(Af.arr _ e).2;omega));simp[d3,d4,q3,K]at u3 u4 u5;simp[u5,r5];have S:=rX w.text lc cc i4 i6;refine(Lz w.text.length g lc cc _ _ h4 u3 u4 om om om om ⟨i4,om⟩ ⟨i6,om⟩ t2).mono λout h5 F=>?_;obtain⟨rfl,Z,y3,y4⟩:=F;rw[<-t1]at y3;have n5:=Z.nx;have g5:h5.get l=some O:=(by rw[Z.old l om IN,g4]);have A1:∀a,A4=some a->h.nx+6<=a:=by
    intro a e;rcases C2 with rfl|⟨a',e',h6⟩
    ·exact lo a e
    ·rw[e']at e;injection e with e;subst e;simp at h6;omega
   have A2:Pv v A4 (bQ++[⟨w.kind,w.text,w.n,lc,cc⟩]) h5:=⟨by rw[Z.old v om IN];exact u.var,u.none,λa e=>by
    have y:=u.arr a e;have:=A1 a e;exact⟨by rw[Z.old a y.2 IN];exact y.1,om⟩⟩
   have k6:aR [l,v] h h5:=by
    have ka:aR [l,v] h p:=B.trans' (k3.x []) sp;have kb:aR [l,v] h h4:=aR.trans' (X:=[l,v]) kX C (by
     intro i hi U;simp at hi⊢;rcases hi with hi|hi|hi
     ·exact .inl hi
     ·exact .inr hi
     ·have:=lo _ hi;omega)
    exact kb.trans' Z (by intro i hi U;simp at hi;omega)
   have zp:(g.drop w.text.length).length=g.length-w.text.length:=bK;simp;refine⟨_,?_,A4,bQ++[⟨w.kind,w.text,w.n,lc,cc⟩],dR,_,rfl,_,_,⟨by rw[aU];exact i1,m,?_,?_,?_,?_,?_,rfl,rfl,rfl,by simp[r0],by simp[r3],by simp[r4],by simp[r5],?_,A2,A1,y3,y4,k6,by dsimp only;omega⟩⟩
   case refine_7=>rw[<-W];exact g5
   all_goals (try simp only[aO,ue])<;>omega
section
attribute[simp] aK NA
attribute[local simp] fq
theorem LA(ws:List Wo):(ws.flatMap Wo.cells).length=5*ws.length:=by
 induction ws with
 |nil=>rfl
 |cons w ws a=>simp only[dy,aO,a,ai];simp[Wo.cells];omega
theorem R6(ws:List Wo):(ws.flatMap Wo.cells).all AV.scalar=true:=by
 rw[cL];intro x a;obtain⟨w,_,hw⟩:=lP.1 a;simp[Wo.cells]at hw;rcases hw with rfl|rfl|rfl|rfl|rfl<;>rfl
theorem QM(s:bu)(h:ah):ba env 61 [.str s] h (λout h'=>out= .ret (.func 83 [.P h.nx])/\h'=(h.alloc (.C [.str s])).2):=by
 refine wb fn61 rfl ?_;simp[f61]
theorem QN(s:bu)(ws:List Wo)(h:ah)(Q:s.length<=65536)(R:bP h)(S:gZ 1 1 s ws):
 ba env 48 [.str s] h (λout h'=>∃A,out= .ret (.iO [pN A ws.length,.agg [.I 0,.I 0],.bool false])/\(A=none->ws=[])/\(∀a,A=some a->h.nx<=a/\a<h'.nx/\h'.get a=some (.D 5 (ws.flatMap Wo.cells)))/\aJ h h'):=by
 refine wd fn48 rfl ?_;simp[f48];refine(QM s _).m1 λK v=>?_;subst v;simp;refine Lh (g:=83) (lQ:=[AV.P (h.nx+3)]) sp rfl ?_;generalize o:dK.loop .ready none _ _ _ _ _=O;refine(N4 (h.nx+5) h.nx O ?tk (h.nx+3) s ws _ ?lo ?gl ⟨?_,λ_=>rfl,sp⟩ ?_ ?_ ?_ ?_ ?_ ?_ ?_ ?_ Q S).mono λout y v=>?_
 case gl=>simp
 case lo=>exact⟨_,_,_,_,_,o.symm⟩
 case tk=>
  intro A bQ w H gl Af hle U V W Z;refine pM.mk (by rw[gl,<-o]) ⟨rfl,sp⟩ ?_;have j:=Af.var;have nl:H.nx≠h.nx+5:=by omega
  have N:H.nx≠h.nx:=by omega
  have p:H.nx+1≠h.nx+5:=by omega
  have t:H.nx+1≠h.nx:=by omega
  have u:H.nx+2≠h.nx+5:=by omega
  have m:H.nx+2≠h.nx:=by omega
  cases A with
  |none=>
   have e:=Af.none rfl;subst e;simp[pN]at j;simp[Wo.cells,gl,<-o,nl,nl.symm,N.symm,j,roomy,t.symm,m.symm];simp[endRound,p.symm,u.symm];refine⟨some (H.nx+2),⟨?_,sp,?_⟩,.inr ⟨_,rfl,om⟩,?_⟩
   ·simp[pN]<;>omega
   ·intro a e;injection e with e;subst e;simp[Wo.cells,m]<;>omega
   ·exact kX
  |some a=>
   obtain⟨ga,la⟩:=Af.arr a rfl;obtain⟨al,av⟩:=U a rfl;have an:a≠H.nx:=om;have B:a≠H.nx+1:=om;simp[pN]at j;have wl:=LA bQ;generalize hF:bQ.flatMap Wo.cells=F at*;have r1:¬roomy<(bQ.length+1)*48:=(by unfold roomy;omega);have r2:¬(bQ.length+1)*5<=5*bQ.length:=om;have r3:bQ.length*5<=5*bQ.length:=om;simp[Wo.cells,gl,<-o,nl,nl.symm,N.symm,j,ga,t.symm,m.symm,al,an,B,av.symm,wl,r1,r2,r3];simp[endRound,p.symm,u.symm,al.symm];have tk:F.take (bQ.length*5)=F:=cn om;refine⟨some (H.nx+2),⟨?_,sp,?_⟩,.inr ⟨_,rfl,om⟩,?_⟩
   ·simp[pN]<;>omega
   ·intro b e;injection e with e;subst e;simp[Wo.cells,m,tk,hF]<;>omega
   ·exact kX
 ·simp[pN]
 ·simp
 ·intro i hi;simp at hi;have C:=R i om;have d0:i≠h.nx:=by omega
  have d1:i≠h.nx+1:=by omega
  have d2:i≠h.nx+2:=by omega
  have d3:i≠h.nx+3:=by omega
  have d4:i≠h.nx+4:=by omega
  have d5:i≠h.nx+5:=by omega
  simp[C,d0,d1,d2,d3,d4,d5]
 ·simp
 ·simp<;>omega
 ·simp<;>omega
 ·simp
 ·simp
 ·simp
 obtain⟨rfl,g2,A,Af,P,k2⟩:=v;have D:=k2.old (h.nx+1) sp sp;have I:=k2.old (h.nx+2) sp sp;have J:=k2.old (h.nx+4) sp sp;have n2:=k2.nx;simp at D I J n2;have j:=Af.var;have kk:aJ h y:=(aR.trans' (X:=[]) kX k2 (by intro i hi A1;simp at hi;omega)).aH;have ar:∀a,A=some a->h.nx+6<=a/\a<y.nx/\y.get a=some (.D 5 (ws.flatMap Wo.cells)):=λa e=>by
  have K:=P a e;simp at K;exact⟨om,(Af.arr a e).2,(Af.arr a e).1⟩
 have gn:=Af.none;clear Af P;cases A with
 |none=>
  simp[pN]at j;simp[tO,g2,<-o,j,D,I,J];refine⟨none,rfl,λ_=>gn rfl,sp,?_⟩;exact kT
 |some a=>
  simp[pN]at j;simp[tO,g2,<-o,j,D,I,J];obtain⟨a1,a2,a3⟩:=ar a rfl;have d0:a≠h.nx:=by omega
  have d1:a≠h.nx+1:=by omega
  have d2:a≠h.nx+2:=by omega
  have d4:a≠h.nx+4:=by omega
  have d5:a≠h.nx+5:=by omega
  refine⟨some a,rfl,sp,?_,?_⟩
  ·intro b e;injection e with e;subst e;simp[d0,d1,d2,d4,d5,a2,a3];omega
  ·exact kT
end
section
abbrev dh:=List Wo
attribute[local simp] fq
theorem N5(s:bu)(ws:dh)(h:ah)(j:s.length<=65536)(m:bP h)(o:gZ 1 1 s ws):
 ba env 35 [.str s] h (λout h'=>∃A,out= .ret (.iO [pN A ws.length,.agg [.I 0,.I 0],.I 0])/\(A=none->ws=[])/\(∀a,A=some a->h.nx<=a/\a<h'.nx/\h'.get a=some (.D 5 (ws.flatMap Wo.cells)))/\aJ h h'):=by
 refine wb fn35 rfl ?_;have g1:¬(65536:Int)<s.length:=om
 simp[f35,g1];have b:bP (h.alloc (.C [.I 0,.I 0])).2:=((aJ.refl h).alloc _).fresh m;refine(QN s ws _ j b o).mono λout g p=>?_;obtain⟨A,rfl,t,u,k⟩:=p;have i:=k.old h.nx sp;have v:=k.nx;simp at i v;have ne:h.nx≠g.nx:=om
 simp[i,ne];refine⟨A,rfl,t,?_,?_⟩
 ·intro a e;obtain⟨a1,a2,a3⟩:=u a e;simp at a1;have d1:a≠h.nx:=by omega
  have d2:a≠g.nx:=by omega
  simp[a3,d1,d2];omega
 ·have kk:aJ h g:=((aJ.refl h).alloc _).trans k;exact kT
theorem SI(s:bu)(h:ah)(b:s.length<=65536):ba env 36 [.str s] h (λout h'=>out= .ret (.agg [.I (eR 1 1 s).1,.I (eR 1 1 s).2])/\aJ h h'):=by
 refine wb fn36 rfl ?_;simp[f36];refine(Ln s 1 1 _ b om om).m1 λe k=>?_;have a:=k.old h.nx sp;have g:=k.nx;simp at a g;simp[a];have kk:aJ h e:=((aJ.refl h).alloc _).trans k;exact kT
end
end Go.Proofs.YtaekaifihehgdaaGreatDoor
