/- Lemmas for CheckPlaces; each states its own conditions. -/
import Derived.Test.YtgebeldoibkkpaaGreatDoorProg
import Derived.Test.YtgebeldoibkkpaaGreatDoorC
set_option maxRecDepth 100000
set_option maxHeartbeats 0
set_option linter.unusedVariables false
set_option linter.unusedSimpArgs false
set_option linter.unusedSectionVars false
namespace Go.Proofs.YtgebeldoibkkpaaGreatDoor
open Go.Am Tryz
def ext:FuncId->Option (List AV->Option AV):=zQ [(170,jC)]
def LM:List UInt8->Bool
 |42::47::_=>true
 |_=>false
def j3:List UInt8->Int
 |[]=>-1
 |c::s=>if LM (c::s)=true then 0 else if j3 s<0 then-1 else j3 s+1
def ceF:List AV->Option AV
 |[.str s,.str [42,47]]=>if s.length<=65536 then some (.int .i64 (j3 s))else none
 |_=>none
def yd(c:UInt8):Option Nat:=
 if 48<=c.toNat/\c.toNat<=57 then some (c.toNat-48)else if 97<=c.toNat/\c.toNat<=102 then some (c.toNat-87)else if 65<=c.toNat/\c.toNat<=70 then some (c.toNat-55)else none
def yS:Nat->List UInt8->Option Nat
 |acc,[]=>some acc
 |acc,c::s=>match yd c with
  |some v=>if 9223372036854775808<=acc*16+v then none else yS (acc*16+v) s
  |none=>none
def AZ:List AV->ah->Option (Out×ah)
 |[.str s,.int .i64 10,.int .i64 64],h=>if s.length<=65536 then match Lib.atoiAll s with
  | .ok v=>some (.ret (.iX [.int .i64 v,.nilIface]),h)
  |_=>none
  else none
 |_,_=>none
def GY:List AV->Option AV
 |[.str s,.int .i64 n]=>if 0<=n/\n<=100000/\s.length<=1000 then some (.str (List.replicate n.toNat s).flatten)else none
 |_=>none
noncomputable def prL:List (FuncId×(List AV->ah->Option (Out×ah))):=[(98,eJ ibF),(136,eJ Jk),(117,eJ Fl),(100,eJ ceF),(138,AZ),(155,eJ Fo),(157,eJ AX),(156,o0 286),(139,xT),(80,eJ GY)]
noncomputable def aat:FuncId->Option (List AV->ah->Option (Out×ah)):=zQ ((4,w8)::prL)
noncomputable def env:Env:=yu Tryz.prog ext aat
theorem nQ(t:TypeId):env.kQ t=Tryz.prog.underlying t:=by unfold env;rfl
attribute [simp] nQ
abbrev Ty(t:TypeId)(a b:Nat)(c:Bool)(z:List AV):Prop:=env.siz t=some a/\env.byt t=some b/\env.isAgg t=some c/\env.zer t=some z
theorem kr {p:Prop}(h:p:=by kernel_rfl):p:=h
theorem tI{t:TypeId}{a b:Nat}{c:Bool}{z:List AV}(p:env.siz t=some a:=by kernel_rfl)(q:env.byt t=some b:=by kernel_rfl)(r:env.isAgg t=some c:=by kernel_rfl)(s:env.zer t=some z:=by kernel_rfl):Ty t a b c z:=⟨p,q,r,s⟩
@[simp] theorem ty2:Ty 2 1 7 false [.int .i64 0]:=tI
@[simp] theorem ty3:Ty 3 1 7 false [.int .i64 0]:=tI
@[simp] theorem ty4:Ty 4 1 0 false [.bool false]:=tI
@[simp] theorem ty5:Ty 5 1 0 false [.int .u8 0]:=tI
@[simp] theorem ty9:Ty 9 1 15 false [.str []]:=tI
@[simp] theorem ty20:Ty 20 1 15 false [.nilIface]:=tI
@[simp] theorem ty24:Ty 24 1 7 false [.ptr none]:=tI
@[simp] theorem ty26:Ty 26 2 15 true [.int .i64 0,.int .i64 0]:=tI
@[simp] theorem ty27:Ty 27 1 7 false [.int .i64 0]:=tI
@[simp] theorem ty30:Ty 30 1 7 false [.ptr none]:=tI
@[simp] theorem ty36:Ty 36 1 23 false [.slice none 0]:=tI
@[simp] theorem ty38:Ty 38 1 23 false [.slice none 0]:=tI
@[simp] theorem ty39:Ty 39 1 23 false [.slice none 0]:=tI
@[simp] theorem ty41:Ty 41 4 79 true [.str [],.str [],.slice none 0,.slice none 0]:=tI
@[simp] theorem ty43:Ty 43 1 23 false [.slice none 0]:=tI
@[simp] theorem ty46:Ty 46 1 7 false [.ptr none]:=tI
@[simp] theorem ty49:Ty 49 1 23 false [.slice none 0]:=tI
@[simp] theorem ty50:Ty 50 1 23 false [.slice none 0]:=tI
@[simp] theorem ty51:Ty 51 1 23 false [.slice none 0]:=tI
@[simp] theorem ty52:Ty 52 1 23 false [.slice none 0]:=tI
@[simp] theorem ty54:Ty 54 6 111 true [.slice none 0,.slice none 0,.slice none 0,.slice none 0,.int .i64 0,.int .i64 0]:=tI
@[simp] theorem ty55:Ty 55 1 23 false [.slice none 0]:=tI
@[simp] theorem ty58:Ty 58 1 7 false [.ptr none]:=tI
@[simp] theorem ty60:Ty 60 1 7 false [.ptr none]:=tI
@[simp] theorem ty62:Ty 62 7 71 true [.slice none 0,.int .i64 0,.int .i64 0,.int .i64 0,.int .i64 0,.int .i64 0,.ptr none]:=tI
@[simp] theorem ty64:Ty 64 3 23 true [.int .i64 0,.int .i64 0,.int .i64 0]:=tI
@[simp] theorem ty67:Ty 67 1 23 false [.slice none 0]:=tI
@[simp] theorem ty68:Ty 68 1 23 false [.slice none 0]:=tI
@[simp] theorem ty70:Ty 70 4 63 true [.ptr none,.slice none 0,.slice none 0,.int .i64 0]:=tI
@[simp] theorem ty71:Ty 71 1 7 false [.map none]:=tI
@[simp] theorem ty72:Ty 72 1 7 false [.map none]:=tI
@[simp] theorem ty73:Ty 73 1 7 false [.ptr none]:=tI
@[simp] theorem ty74:Ty 74 1 7 false [.ptr none]:=tI
@[simp] theorem ty75:Ty 75 1 7 false [.map none]:=tI
@[simp] theorem ty76:Ty 76 1 23 false [.slice none 0]:=tI
@[simp] theorem ty78:Ty 78 11 103 true [.ptr none,.ptr none,.map none,.map none,.map none,.ptr none,.map none,.slice none 0,.int .i64 0,.int .i64 0,.ptr none]:=tI
@[simp] theorem ty80:Ty 80 3 23 true [.int .i64 0,.int .i64 0,.int .i64 0]:=tI
@[simp] theorem ty83:Ty 83 1 7 false [.ptr none]:=tI
@[simp] theorem ty85:Ty 85 6 111 true [.str [],.str [],.slice none 0,.slice none 0,.slice none 0,.ptr none]:=tI
@[simp] theorem ty88:Ty 88 5 47 true [.int .i64 0,.str [],.int .i64 0,.int .i64 0,.int .i64 0]:=tI
@[simp] theorem ty94:Ty 94 5 55 true [.slice none 0,.int .i64 0,.bool false,.ptr none,.int .i64 0]:=tI
@[simp] theorem ty98:Ty 98 1 23 false [.slice none 0]:=tI
@[simp] theorem ty100:Ty 100 2 31 true [.slice none 0,.int .i64 0]:=tI
@[simp] theorem ty101:Ty 101 1 7 false [.ptr none]:=tI
@[simp] theorem ty103:Ty 103 1 23 false [.slice none 0]:=tI
@[simp] theorem ty104:Ty 104 1 23 false [.slice none 0]:=tI
@[simp] theorem ty105:Ty 105 1 23 false [.slice none 0]:=tI
@[simp] theorem ty106:Ty 106 1 23 false [.slice none 0]:=tI
@[simp] theorem ty107:Ty 107 1 7 false [.ptr none]:=tI
@[simp] theorem ty109:Ty 109 8 111 true [.int .i64 0,.int .i64 0,.int .i64 0,.str [],.str [],.slice none 0,.slice none 0,.ptr none]:=tI
@[simp] theorem ty110:Ty 110 1 23 false [.slice none 0]:=tI
@[simp] theorem ty112:Ty 112 2 39 true [.str [],.slice none 0]:=tI
@[simp] theorem ty114:Ty 114 2 31 true [.str [],.str []]:=tI
@[simp] theorem ty116:Ty 116 2 31 true [.str [],.str []]:=tI
@[simp] theorem ty123:Ty 123 1 7 false [.int .u64 0]:=tI
@[simp] theorem ty125:Ty 125 1 7 false [.int .u64 0]:=tI
@[simp] theorem ty128:Ty 128 2 39 true [.str [],.slice none 0]:=tI
@[simp] theorem ty130:Ty 130 3 39 true [.str [],.str [],.bool false]:=tI
@[simp] theorem ty133:Ty 133 2 15 true [.int .i64 0,.int .i64 0]:=tI
@[simp] theorem ty134:Ty 134 1 7 false [.ptr none]:=tI
@[simp] theorem ty136:Ty 136 5 87 true [.str [],.str [],.slice none 0,.ptr none,.slice none 0]:=tI
@[simp] theorem ty141:Ty 141 5 47 true [.int .i64 0,.str [],.int .i64 0,.int .i64 0,.int .i64 0]:=tI
@[simp] theorem ty142:Ty 142 1 23 false [.slice none 0]:=tI
@[simp] theorem ty147:Ty 147 5 55 true [.int .i64 0,.int .i64 0,.bool false,.str [],.str []]:=tI
@[simp] theorem ty154:Ty 154 3 39 true [.str [],.str [],.int .i64 0]:=tI
@[simp] theorem ty157:Ty 157 1 7 false [.ptr none]:=tI
@[simp] theorem ty171:Ty 171 1 7 false [.ptr none]:=tI
@[simp] theorem ty172:Ty 172 1 23 false [.slice none 0]:=tI
@[simp] theorem ty174:Ty 174 9 103 true [.int .i64 0,.int .i64 0,.int .i64 0,.str [],.str [],.ptr none,.ptr none,.slice none 0,.int .i64 0]:=tI
@[simp] theorem ty176:Ty 176 1 7 false [.map none]:=tI
@[simp] theorem ty178:Ty 178 2 15 true [.map none,.map none]:=tI
@[simp] theorem ty179:Ty 179 1 23 false [.slice none 0]:=tI
@[simp] theorem ty181:Ty 181 3 39 true [.slice none 0,.int .i64 0,.int .i64 0]:=tI
@[simp] theorem ty188:Ty 188 6 47 true [.str [],.str [],.int .i64 0,.bool false,.bool false,.bool false]:=tI
@[simp] theorem ty189:Ty 189 1 7 false [.ptr none]:=tI
@[simp] theorem ty190:Ty 190 1 23 false [.slice none 0]:=tI
@[simp] theorem ty192:Ty 192 5 55 true [.int .i64 0,.ptr none,.ptr none,.ptr none,.slice none 0]:=tI
@[simp] theorem ty195:Ty 195 1 23 false [.slice none 0]:=tI
@[simp] theorem ty197:Ty 197 8 87 true [.int .i64 0,.str [],.int .i64 0,.int .i64 0,.int .i64 0,.bool false,.ptr none,.slice none 0]:=tI
@[simp] theorem ty199:Ty 199 1 23 false [.slice none 0]:=tI
@[simp] theorem ty201:Ty 201 7 103 true [.str [],.str [],.str [],.int .i64 0,.slice none 0,.str [],.int .i64 0]:=tI
@[simp] theorem ty214:Ty 214 1 15 false [.nilIface]:=tI
@[simp] theorem ty220:Ty 220 1 23 false [.slice none 0]:=tI
@[simp] theorem ty222:Ty 222 9 111 true [.int .i64 0,.int .i64 0,.int .i64 0,.str [],.str [],.int .i64 0,.str [],.slice none 0,.int .i64 0]:=tI
@[simp] theorem ty226:Ty 226 3 39 true [.str [],.str [],.int .i64 0]:=tI
@[simp] theorem ty228:Ty 228 5 55 true [.str [],.str [],.int .i64 0,.bool false,.int .i64 0]:=tI
@[simp] theorem ty277:Ty 277 10 239 true [.slice none 0,.slice none 0,.slice none 0,.slice none 0,.slice none 0,.slice none 0,.slice none 0,.slice none 0,.slice none 0,.slice none 0]:=tI
@[simp] theorem ty282:Ty 282 1 23 false [.slice none 0]:=tI
@[simp] theorem ty284:Ty 284 1 7 false [.int .i64 0]:=tI
abbrev Fs(n:FuncId)(f:Func):Prop:=env.fn n=some f/\f.body.isSome=true
theorem fs{n:FuncId}{f:Func}(p:env.fn n=some f:=by kernel_rfl)(q:f.body.isSome=true:=by exact rfl):Fs n f:=⟨p,q⟩
@[simp] theorem fn3:Fs 3 f3:=fs
@[simp] theorem fn4:Fs 4 f4:=fs
@[simp] theorem fn5:Fs 5 f5:=fs
@[simp] theorem fn6:Fs 6 f6:=fs
@[simp] theorem fn7:Fs 7 f7:=fs
@[simp] theorem fn8:Fs 8 f8:=fs
@[simp] theorem fn9:Fs 9 f9:=fs
@[simp] theorem fn10:Fs 10 f10:=fs
@[simp] theorem fn11:Fs 11 f11:=fs
@[simp] theorem fn12:Fs 12 f12:=fs
@[simp] theorem fn13:Fs 13 f13:=fs
@[simp] theorem fn14:Fs 14 f14:=fs
@[simp] theorem fn15:Fs 15 f15:=fs
@[simp] theorem fn16:Fs 16 f16:=fs
@[simp] theorem fn17:Fs 17 f17:=fs
@[simp] theorem fn18:Fs 18 f18:=fs
@[simp] theorem fn19:Fs 19 f19:=fs
@[simp] theorem fn20:Fs 20 f20:=fs
@[simp] theorem fn21:Fs 21 f21:=fs
@[simp] theorem fn22:Fs 22 f22:=fs
@[simp] theorem fn23:Fs 23 f23:=fs
@[simp] theorem fn24:Fs 24 f24:=fs
@[simp] theorem fn25:Fs 25 f25:=fs
@[simp] theorem fn26:Fs 26 f26:=fs
@[simp] theorem fn27:Fs 27 f27:=fs
@[simp] theorem fn28:Fs 28 f28:=fs
@[simp] theorem fn29:Fs 29 f29:=fs
@[simp] theorem fn30:Fs 30 f30:=fs
@[simp] theorem fn31:Fs 31 f31:=fs
@[simp] theorem fn32:Fs 32 f32:=fs
@[simp] theorem fn33:Fs 33 f33:=fs
@[simp] theorem fn34:Fs 34 f34:=fs
@[simp] theorem fn35:Fs 35 f35:=fs
@[simp] theorem fn36:Fs 36 f36:=fs
@[simp] theorem fn37:Fs 37 f37:=fs
@[simp] theorem fn38:Fs 38 f38:=fs
@[simp] theorem fn39:Fs 39 f39:=fs
@[simp] theorem fn40:Fs 40 f40:=fs
@[simp] theorem fn41:Fs 41 f41:=fs
@[simp] theorem fn42:Fs 42 f42:=fs
@[simp] theorem fn43:Fs 43 f43:=fs
@[simp] theorem fn44:Fs 44 f44:=fs
@[simp] theorem fn45:Fs 45 f45:=fs
@[simp] theorem fn46:Fs 46 f46:=fs
@[simp] theorem fn47:Fs 47 f47:=fs
@[simp] theorem fn48:Fs 48 f48:=fs
@[simp] theorem fn49:Fs 49 f49:=fs
@[simp] theorem fn50:Fs 50 f50:=fs
@[simp] theorem fn51:Fs 51 f51:=fs
@[simp] theorem fn52:Fs 52 f52:=fs
@[simp] theorem fn53:Fs 53 f53:=fs
@[simp] theorem fn54:Fs 54 f54:=fs
@[simp] theorem fn55:Fs 55 f55:=fs
@[simp] theorem fn56:Fs 56 f56:=fs
@[simp] theorem fn57:Fs 57 f57:=fs
@[simp] theorem fn58:Fs 58 f58:=fs
@[simp] theorem fn59:Fs 59 f59:=fs
@[simp] theorem fn60:Fs 60 f60:=fs
@[simp] theorem fn61:Fs 61 f61:=fs
@[simp] theorem fn62:Fs 62 f62:=fs
@[simp] theorem fn63:Fs 63 f63:=fs
@[simp] theorem fn64:Fs 64 f64:=fs
@[simp] theorem fn65:Fs 65 f65:=fs
@[simp] theorem fn66:Fs 66 f66:=fs
@[simp] theorem fn67:Fs 67 f67:=fs
@[simp] theorem fn68:Fs 68 f68:=fs
@[simp] theorem fn69:Fs 69 f69:=fs
@[simp] theorem fn70:Fs 70 f70:=fs
@[simp] theorem fn71:Fs 71 f71:=fs
@[simp] theorem fn72:Fs 72 f72:=fs
@[simp] theorem fn73:Fs 73 f73:=fs
@[simp] theorem fn74:Fs 74 f74:=fs
@[simp] theorem fn75:Fs 75 f75:=fs
@[simp] theorem fn76:Fs 76 f76:=fs
@[simp] theorem fn77:Fs 77 f77:=fs
@[simp] theorem fn78:Fs 78 f78:=fs
@[simp] theorem fn79:Fs 79 f79:=fs
@[simp] theorem fn80:Fs 80 f80:=fs
@[simp] theorem fn81:Fs 81 f81:=fs
@[simp] theorem fn82:Fs 82 f82:=fs
@[simp] theorem fn83:Fs 83 f83:=fs
@[simp] theorem fn84:Fs 84 f84:=fs
@[simp] theorem fn85:Fs 85 f85:=fs
@[simp] theorem fn86:Fs 86 f86:=fs
@[simp] theorem fn87:Fs 87 f87:=fs
@[simp] theorem fn88:Fs 88 f88:=fs
@[simp] theorem fn89:Fs 89 f89:=fs
@[simp] theorem fn90:Fs 90 f90:=fs
@[simp] theorem fn91:Fs 91 f91:=fs
@[simp] theorem fn92:Fs 92 f92:=fs
@[simp] theorem fn93:Fs 93 f93:=fs
@[simp] theorem fn94:Fs 94 f94:=fs
@[simp] theorem fn95:Fs 95 f95:=fs
@[simp] theorem fn96:Fs 96 f96:=fs
@[simp] theorem fn97:Fs 97 f97:=fs
@[simp] theorem fn98:Fs 98 f98:=fs
@[simp] theorem fn99:Fs 99 f99:=fs
@[simp] theorem fn100:Fs 100 f100:=fs
@[simp] theorem fn101:Fs 101 f101:=fs
@[simp] theorem fn102:Fs 102 f102:=fs
@[simp] theorem fn103:Fs 103 f103:=fs
@[simp] theorem fn104:Fs 104 f104:=fs
@[simp] theorem fn105:Fs 105 f105:=fs
@[simp] theorem fn106:Fs 106 f106:=fs
@[simp] theorem fn107:Fs 107 f107:=fs
@[simp] theorem fn113:Fs 113 f113:=fs
@[simp] theorem fn114:Fs 114 f114:=fs
@[simp] theorem fn115:Fs 115 f115:=fs
@[simp] theorem fn116:Fs 116 f116:=fs
@[simp] theorem fn117:Fs 117 f117:=fs
@[simp] theorem fn118:Fs 118 f118:=fs
@[simp] theorem fn119:Fs 119 f119:=fs
@[simp] theorem fn120:Fs 120 f120:=fs
@[simp] theorem fn121:Fs 121 f121:=fs
@[simp] theorem fn122:Fs 122 f122:=fs
@[simp] theorem fn123:Fs 123 f123:=fs
@[simp] theorem fn124:Fs 124 f124:=fs
@[simp] theorem fn125:Fs 125 f125:=fs
@[simp] theorem fn126:Fs 126 f126:=fs
@[simp] theorem fn127:Fs 127 f127:=fs
@[simp] theorem fn128:Fs 128 f128:=fs
@[simp] theorem fn129:Fs 129 f129:=fs
@[simp] theorem fn130:Fs 130 f130:=fs
@[simp] theorem fn131:Fs 131 f131:=fs
@[simp] theorem fn133:Fs 133 f133:=fs
@[simp] theorem fn135:Fs 135 f135:=fs
@[simp] theorem fn136:Fs 136 f136:=fs
@[simp] theorem fn137:Fs 137 f137:=fs
@[simp] theorem fn138:Fs 138 f138:=fs
@[simp] theorem fn139:Fs 139 f139:=fs
@[simp] theorem fn144:Fs 144 f144:=fs
@[simp] theorem fn145:Fs 145 f145:=fs
@[simp] theorem fn146:Fs 146 f146:=fs
@[simp] theorem fn154:Fs 154 f154:=fs
@[simp] theorem fn155:Fs 155 f155:=fs
@[simp] theorem fn156:Fs 156 f156:=fs
@[simp] theorem fn157:Fs 157 f157:=fs
@[simp] theorem fn158:Fs 158 f158:=fs
@[simp] theorem fn159:Fs 159 f159:=fs
@[simp] theorem fn160:Fs 160 f160:=fs
@[simp] theorem fn161:Fs 161 f161:=fs
@[simp] theorem fn162:Fs 162 f162:=fs
@[simp] theorem fn163:Fs 163 f163:=fs
@[simp] theorem fn164:Fs 164 f164:=fs
@[simp] theorem fn165:Fs 165 f165:=fs
@[simp] theorem fn166:Fs 166 f166:=fs
@[simp] theorem fn167:Fs 167 f167:=fs
@[simp] theorem fn168:Fs 168 f168:=fs
@[simp] theorem fn169:Fs 169 f169:=fs
@[simp] theorem fn174:Fs 174 f174:=fs
@[simp] theorem fn176:Fs 176 f176:=fs
@[simp] theorem fn178:Fs 178 f178:=fs
@[simp] theorem fn182:Fs 182 f182:=fs
@[simp] theorem fn187:Fs 187 f187:=fs
@[simp] theorem fn190:Fs 190 f190:=fs
@[simp] theorem fn191:Fs 191 f191:=fs
@[simp] theorem fn192:Fs 192 f192:=fs
@[simp] theorem fn193:Fs 193 f193:=fs
@[simp] theorem fn194:Fs 194 f194:=fs
@[simp] theorem fn196:Fs 196 f196:=fs
@[simp] theorem fn206:Fs 206 f206:=fs
@[simp] theorem fn210:Fs 210 f210:=fs
theorem wb{n:FuncId}{f:Func}{c:Code}{a:List AV}{h:ah}{Q:Out->ah->Prop}(s:Fs n f)(hb:f.body=some c)(hw:bR env c (atEnd env f Q) {rg:=oI a 0 .nil,n:=f.ntmps,h:=h,ds:=[],bI:=false})(hp:env.fw n=none:=by unfold env;rfl)(hl:a.length<=f.ntmps:=by exact iJ rfl):aV env n a h Q:=aV.body hp s.1 hb hl hw
theorem wd{n:FuncId}{f:Func}{c:Code}{a:List AV}{h:ah}{Q:Out->ah->Prop}(s:Fs n f)(hb:f.body=some c)(hw:bR env c (zV env f Q) {rg:=oI a 0 .nil,n:=f.ntmps,h:=h,ds:=[],bI:=false})(hp:env.fw n=none:=by unfold env;rfl)(hl:a.length<=f.ntmps:=by exact iJ rfl):aV env n a h Q:=aV.ad3 hp s.1 hb hl hw
theorem pr98:env.fw 98=some (eJ ibF):=by unfold env;rfl
theorem pr136:env.fw 136=some (eJ Jk):=by unfold env;rfl
theorem pr117:env.fw 117=some (eJ Fl):=by unfold env;rfl
theorem pr100:env.fw 100=some (eJ ceF):=by unfold env;rfl
theorem pr138:env.fw 138=some (AZ):=by unfold env;rfl
theorem pr155:env.fw 155=some (eJ Fo):=by unfold env;rfl
theorem pr157:env.fw 157=some (eJ AX):=by unfold env;rfl
theorem pr156:env.fw 156=some (o0 286):=by unfold env;rfl
theorem pr139:env.fw 139=some (xT):=by unfold env;rfl
theorem pr80:env.fw 80=some (eJ GY):=by unfold env;rfl
theorem pr4:env.fw 4=some (w8):=by unfold env;rfl
theorem Dd{l:List Oper}{Q:bt->St->Prop}{rg:T AV}{n id:Nat}{h:ah}{ds:List fJ}{bI:Bool}(hk:vR env l.toArray (gK l.toArray) h.next n ds bI Q l.zipIdx rg (h.bump l.length) [] [])(hp:qj env l.toArray=false:=by kernel_rfl)(hd:gL l.toArray=true:=by kernel_rfl):bR env (.region id l.toArray true) Q ⟨rg,n,h,ds,bI⟩:=ad0 hp hd hk
theorem dd{A:Prop}(a:A:=by repeat (first|exact OZ _ _|exact Ds _ _ _|exact O0 _ _ _ _ _|refine DSc (by decide+kernel) ?_|refine RQ (by decide+kernel) ?_|refine DRc (by decide+kernel) ?_|refine OY (by simp[*];done) ?_|refine Yg (by simp[*];done) ?_)):A:=a
theorem di{A B:Prop}(b:B)(a:A:=by repeat (first|exact OZ _ _|exact Ds _ _ _|exact O0 _ _ _ _ _|refine DSc (by decide+kernel) ?_|refine RQ (by decide+kernel) ?_|refine DRc (by decide+kernel) ?_|refine OY (by simp[*];done) ?_|refine Yg (by simp[*];done) ?_)):A/\B:=⟨a,b⟩
theorem wr{a:Int}(h0:-9223372036854775808<=a)(h1:a<=9223372036854775807):IntKind.wrap .i64 a=a:=by
 rw[IntKind.wrap_i64];omega
def iU(c:Int):Bool:=(decide (97<=c)&&decide (c<=122))||((decide (65<=c)&&decide (c<=90))||c==95)
def gk(c:Int):Bool:=decide (48<=c)&&decide (c<=57)
def lY(c:Int):Bool:=iU c||gk c
theorem Jp(c:Int)(h:ah):aV env 102 [.int .u8 c] h (fun out h'=>out= .ret (.bool (iU c))/\h'=h):=by
 refine wb fn102 rfl ?_;by_cases h1:97<=c<;>by_cases h2:c<=122<;>by_cases h3:65<=c<;>by_cases h4:c<=90<;>simp[f102,iU,h1,h2,h3,h4]
theorem VB(c:Int)(h:ah):aV env 174 [.int .u8 c] h (fun out h'=>out= .ret (.bool (gk c))/\h'=h):=by
 refine wb fn174 rfl ?_;by_cases h1:48<=c<;>by_cases h2:c<=57<;>simp[f174,gk,h1,h2]
theorem RR(c:Int)(h:ah):aV env 135 [.int .u8 c] h (fun out h'=>out= .ret (.bool (lY c))/\h'=h):=by
 refine wb fn135 rfl ?_;simp[f135];refine(Jp c h).mono fun out h2 hq=>?_;obtain⟨rfl,rfl⟩:=hq;cases hs:iU c with
 |true=>simp[lY,hs]
 |false=>
  simp;refine(VB c h2).mono fun out h3 hq=>?_;obtain⟨rfl,rfl⟩:=hq;cases hd:gk c<;>simp[lY,hs,hd]
def eG(s:List UInt8):Nat:=(s.takeWhile fun c=>lY c.toNat).length
theorem yR{s:List UInt8}{i:Nat}(hi:i<=eG s):(i=eG s/\(i=s.length\/∃c,s[i]?=some c/\lY c.toNat=false))\/(i<eG s/\∃c,s[i]?=some c/\lY c.toNat=true):=by
 induction s generalizing i with
 |nil=>
  have:i=0:=by simpa[eG]using hi
  subst this;exact .inl ⟨rfl,.inl rfl⟩
 |cons c s ih=>
  cases hg:lY c.toNat with
  |false=>
   have h0:eG (c::s)=0:=(by simp[eG,hg]);have:i=0:=om;subst this;exact .inl ⟨h0.symm,.inr ⟨c,rfl,hg⟩⟩
  |true=>
   have h0:eG (c::s)=eG s+1:=(by simp[eG,hg]);cases i with
   |zero=>exact .inr ⟨om,c,rfl,hg⟩
   |succ i=>
    rcases ih (i:=i) om with⟨h1,h2⟩|⟨h1,h2⟩
    ·exact .inl ⟨om,by simpa using h2⟩
    ·exact .inr ⟨om,by simpa using h2⟩
theorem aaj(s:List UInt8)(h:ah)(hs:s.length<=281474976710656):aV env 101 [.str s] h (fun out h'=>out= .ret (.I (eG s))/\h'=h):=by
 refine wb fn101 rfl ?_;simp[f101];refine bW (fun k x=>∃i,i<=eG s/\k=eG s-i/\x.n=17/\x.h=h/\x.ds=[]/\x.bI=false/\x.rg.get 0=some (.str s)/\x.rg.get 3=some (.I i)) (eG s) ⟨0,sp⟩ ?_
 rintro k ⟨rg,n,h2,ds,bI⟩ ⟨i,hi,rfl,hn,hh,hd,hr,r0,r3⟩
 dsimp only at hn hh hd hr r0 r3;subst hn hh hd hr;have hl:eG s<=s.length:=by
  unfold eG;exact(List.takeWhile_prefix _).length_le
 rcases yR hi with⟨rfl,h1|⟨c,h1,h2⟩⟩|⟨h0,c,h1,h2⟩
 ·simp[r0,r3,h1]
 ·obtain⟨h3,zB⟩:=aU.1 h1;simp[r0,r3,h3,h1];refine(RR _ _).mono fun out h4 hq=>?_;obtain⟨rfl,rfl⟩:=hq;simp[zB,h2,r0,r3]
 ·obtain⟨h3,zB⟩:=aU.1 h1;have w1:IntKind.wrap .i64 ((i:Int)+1)=((i+1:Nat):Int):=by
   rw[wr om om];simp
  simp[r0,r3,h3,h1];refine(RR _ _).mono fun out h4 hq=>?_;obtain⟨rfl,rfl⟩:=hq;simp[zB,h2,r0,r3,w1];exact⟨_,om,i+1,h0,rfl,sp⟩
structure aS(h h':ah):Prop where
 next:h.next<=h'.next
 old:∀i,i<h.next->h'.get i=h.get i
 fresh:(∀i,h.next<=i->h.get i=Option.none)->∀i,h'.next<=i->h'.get i=Option.none
theorem aS.refl(h:ah):aS h h:=⟨ao _,fun _ _=>rfl,fun hf=>hf⟩
theorem aS.trans{a b c:ah}(h:aS a b)(h':aS b c):aS a c:=
 ⟨bk h.next h'.next,fun i hi=>(h'.old i (aw hi h.next)).trans (h.old i hi),fun hf=>h'.fresh (h.fresh hf)⟩
theorem aS.bump{h g:ah}(k:Nat)(hk:aS h g):aS h (g.bump k):=
 ⟨bk hk.next (qS _ _),hk.old,fun hf i hi=>hk.fresh hf i (bk (qS _ _) hi)⟩
theorem aS.alloc{h g:ah}(o:ej)(hk:aS h g):aS h (g.alloc o).2:=
 ⟨bk hk.next (cR _),fun i hi=>by rw[ah.dz,az (by have:=hk.next;omega)];exact hk.old i hi,
  fun hf i hi=>by
   rw[ah.vm]at hi;rw[ah.dz,az om];exact hk.fresh hf i om⟩
theorem aS.set{h g:ah}{i:Nat}(o:ej)(h1:h.next<=i)(h2:i<g.next)(hk:aS h g):aS h (g.set i o):=
 ⟨hk.next,fun j hj=>by rw[ah.aM,az om];exact hk.old j hj,
  fun hf j hj=>by
   rw[ah.qJ]at hj;rw[ah.aM,az om];exact hk.fresh hf j hj⟩
attribute [simp] rJ vJ Bs bL ah.vm ah.qJ
def dy:Int->Int->List UInt8->Int×Int
 |l,c,[]=>(l,c)
 |l,c,b::s=>if b=10 then dy (l+1) 1 s else dy l (c+1) s
theorem ad5(s:List UInt8)(i:Nat)(c:UInt8)(h:s[i]?=some c):(s.map fun b=>AV.int .u8 b.toNat)[i]?=some (.int .u8 c.toNat):=by
 rw[bQ,h];rfl
theorem RT(s:List UInt8)(l c:Int)(h:ah)(hs:s.length<=65536)(hl:0<=l/\l<=100000000)(hc:0<=c/\c<=100000000):
 aV env 29 [.agg [.I l,.I c],.str s] h (fun out h'=>out= .ret (.agg [.I (dy l c s).1,.I (dy l c s).2])/\aS h h'):=by
 have g0:¬roomy<s.length:=by unfold roomy;omega
 refine wb fn29 rfl ?_;simp[f29,g0];refine bW (fun k x=>∃i a b,i<=s.length/\k=s.length-i/\0<=a/\a<=l+i/\0<=b/\b<=c+i+1/\dy a b (s.drop i)=dy l c s/\x.n=26/\x.ds=[]/\x.bI=false/\x.rg.get 2=some (.P h.next)/\x.rg.get 4=some (.P (h.next+1))/\
  x.rg.get 8=some (.S (h.next+2) s.length)/\x.rg.get 9=some (.I s.length)/\x.rg.get 10=some (.I i)/\x.h.get h.next=some (.C [.I a,.I b])/\x.h.get (h.next+1)=some (.C [.I 0,.I 0])/\
  x.h.get (h.next+2)=some (.cells false 1 (s.map fun b=> .int .u8 b.toNat))/\aS h x.h/\h.next+3<=x.h.next) s.length ?_ ?_
 ·refine⟨0,l,c,om,rfl,hl.1,om,hc.1,om,rfl,rfl,rfl,rfl,sp,sp,sp,sp,sp,by simp<;>omega,by simp<;>omega,by simp<;>omega,?_,sp⟩;exact((aS.refl h).alloc _).alloc _|>.alloc _
 rintro k ⟨rg,n,H,ds,bI⟩ ⟨i,a,b,hi,rfl,ha,ha2,hb,jJ,hf,hn,hd,hr,r2,r4,r8,r9,qp,c0,c1,c2,k1,nx⟩
 dsimp only at hn hd hr r2 r4 r8 r9 qp c0 c1 c2 k1 nx;subst hn hd hr;by_cases cX:i<s.length
 ·obtain⟨x,hx⟩:∃x,s[i]?=some x:=⟨s[i],aj cX⟩
  obtain⟨h3,zB⟩:=aU.1 hx;have qV:s.drop i=x::s.drop (i+1):=by rw[ca cX,zB]
  rw[qV,dy]at hf;have w1:IntKind.wrap .i64 ((i:Int)+1)=((i+1:Nat):Int):=by
   rw[wr om om];simp
  have w2:IntKind.wrap .i64 (b+1)=b+1:=wr om om;have w3:IntKind.wrap .i64 (a+1)=a+1:=wr om om;by_cases Jq:x=10
  ·rw[aW Jq]at hf;simp[r2,r4,r8,r9,qp,cX,c0,c1,c2,zB,Jq,w1,w2,w3];exact⟨_,om,i+1,cX,rfl,a+1,om,om,1,om,om,hf,rfl,⟨rfl,rfl⟩,(k1.set _ (ao _) om).set _ (ao _) (by simp;omega),nx⟩
  ·rw[az Jq]at hf;have g1:((x.toNat:Int)==10)=false:=by
    rw[aH];intro e;apply Jq;apply eh;have:(10:UInt8).toNat=10:=rfl;omega
   simp[r2,r4,r8,r9,qp,cX,c0,c1,c2,zB,g1,w1,w2,w3];exact⟨_,om,i+1,cX,rfl,a,om,om,b+1,om,om,hf,rfl,⟨rfl,rfl⟩,k1.set _ (ao _) om,nx⟩
 ·have np:i=s.length:=by omega
  subst np;simp only[eQ,dy]at hf;simp[r2,r4,r8,r9,qp,c0,c1,c2,<-hf];exact k1.set _ om om
def keys:List (List UInt8):=[[99,104,97,114],[105,110,116],[108,111,110,103],[118,111,105,100],[115,116,114,117,99,116],[112,117,98,108,105,99],[105,102],[101,108,115,101],[119,104,105,108,101],[98,114,101,97,107],[99,111,110,116,105,110,117,101],[114,101,116,117,114,110],[115,105,122,101,111,102],[105,110],[111,117,116]]
theorem VC(s:List UInt8)(h:ah):aV env 103 [.str s] h (fun out h'=>out= .ret (.bool (keys.contains s))/\h'=h):=by
 refine wb fn103 rfl ?_;by_cases hk:s∈keys
 ·simp only[keys,aq,bd,cT]at hk;rcases hk with rfl|rfl|rfl|rfl|rfl|rfl|rfl|rfl|rfl|rfl|rfl|rfl|rfl|rfl|rfl<;>simp[f103,keys]
 ·have hc:keys.contains s=false:=by simpa using hk
  simp only[keys,aq,bd,cT,fO]at hk;obtain⟨h0,h1,h2,h3,h4,h5,h6,h7,h8,h9,xU,EE,wk,h13,h14⟩:=hk;rw[hc];simp[f103,aH.2 h0,aH.2 h1,aH.2 h2,aH.2 h3,aH.2 h4,aH.2 h5,aH.2 h6,aH.2 h7,aH.2 h8,aH.2 h9,aH.2 xU,aH.2 EE,aH.2 wk,aH.2 h13,aH.2 h14]
def qq:List (List UInt8):=[[45,62],[61,61],[33,61],[60,61],[62,61],[60,60],[62,62],[38,38],[124,124]]
def Jr:List UInt8:=[40,41,123,125,91,93,59,44,46,61,60,62,43,45,42,47,37,38,124,94,126,33]
def jc(s:List UInt8):Int:=if 2<=s.length/\s.take 2∈qq then 2 else match s with
 |[]=>0
 |c::_=>if 0<=Lib.indexByte Jr c then 1 else 0
theorem Dw{s:List UInt8}{c:UInt8}{h:ah}:eJ ibF [.str s,.int .u8 c.toNat] h=some (.ret (.I (Lib.indexByte s c)),h):=by simp[eJ,ibF]
theorem aak(c:UInt8)(s:List UInt8)(h:ah)(Q:Prop):True:=trivial
theorem aal(s:List UInt8)(h:ah)(hs:s≠[])(hl:s.length<=65536):aV env 105 [.str s] h (fun out h'=>out= .ret (.I (jc s))/\h'=h):=by
 refine wb fn105 rfl ?_;obtain⟨c,r,rfl⟩:∃c r,s=c::r:=by cases s with|nil=>exact(hs rfl).elim|cons c r=>exact⟨c,r,rfl⟩
 cases r with
 |nil=>
  simp[f105];refine aV.fw pr98 Dw ?_;by_cases h0:0<=Lib.indexByte Jr c
  ·have Fp:0<=Lib.indexByte [40,41,123,125,91,93,59,44,46,61,60,62,43,45,42,47,37,38,124,94,126,33] c:=h0;simp[Fp,jc,h0]
  ·have Fp:¬0<=Lib.indexByte [40,41,123,125,91,93,59,44,46,61,60,62,43,45,42,47,37,38,124,94,126,33] c:=h0;simp[Fp,jc,h0]
 |cons c2 r=>
  have nJ:(2:Int)<=(r.length:Int)+1+1:=by omega
  by_cases hk:[c,c2]∈qq
  ·simp only[qq,aq,bd,cT,xJ,jg]at hk;rcases hk with⟨rfl,rfl⟩|⟨rfl,rfl⟩|⟨rfl,rfl⟩|⟨rfl,rfl⟩|⟨rfl,rfl⟩|⟨rfl,rfl⟩|⟨rfl,rfl⟩|⟨rfl,rfl⟩|⟨rfl,rfl⟩<;>simp[f105,jc,qq,nJ]
  ·have hm:¬(2<=(c::c2::r).length/\(c::c2::r).take 2∈qq):=fun e=>hk (by simpa using e.2);simp only[qq,aq,bd,cT,fO]at hk;obtain⟨h0,h1,h2,h3,h4,h5,h6,h7,h8⟩:=hk;simp[f105,nJ,aH.2 h0,aH.2 h1,aH.2 h2,aH.2 h3,aH.2 h4,aH.2 h5,aH.2 h6,aH.2 h7,aH.2 h8];refine aV.fw pr98 Dw ?_;by_cases h0:0<=Lib.indexByte Jr c
   ·have Fp:0<=Lib.indexByte [40,41,123,125,91,93,59,44,46,61,60,62,43,45,42,47,37,38,124,94,126,33] c:=h0;simp[Fp,jc,h0,hm];intro hx;exact(hm ⟨sp,by simpa using hx⟩).elim
   ·have Fp:¬0<=Lib.indexByte [40,41,123,125,91,93,59,44,46,61,60,62,43,45,42,47,37,38,124,94,126,33] c:=h0;simp[Fp,jc,h0,hm];intro hx;exact(hm ⟨sp,by simpa using hx⟩).elim
theorem BK(s p:List UInt8)(h:ah)(hl:s.length<=65536)(hp:p.length<=65536):aV env 99 [.str s,.str p] h (fun out h'=>out= .ret (.bool (Lib.hasPrefix s p))/\h'=h):=by
 refine wb fn99 rfl ?_;simp[f99];refine wb fn133 rfl ?_;have e:Lib.hasPrefix s p=(decide (p.length<=s.length)&&(s.take p.length==p)):=by
  unfold Lib.hasPrefix;rw[oT,jh];simp only[eM,decide_eq_true_eq,qC];constructor
  ·rintro⟨t,rfl⟩;simp
  ·rintro⟨h1,h2⟩
   have:=List.take_append_drop p.length s;rw[h2]at this;exact⟨_,this⟩
 rw[e];by_cases h1:p.length<=s.length
 ·have zB:(p.length:Int)<=(s.length:Int):=by omega
  simp[f133,h1,zB]
 ·have zB:¬(p.length:Int)<=(s.length:Int):=by omega
  simp[f133,h1,zB]
def jD(s:List UInt8):Int×Bool:=match s with
 |[]=>(0,true)
 |c::_=>if 0<=Lib.indexByte [32,9,13,10] c then(1,true)
  else if Lib.hasPrefix s [47,47]=true then(if 0<=Lib.indexByte s 10 then(Lib.indexByte s 10,true)else(s.length,true))
  else if Lib.hasPrefix s [47,42]=true then(j3 (s.drop 2)+4,decide (0<=j3 (s.drop 2)))
  else(0,true)
theorem aam{s:List UInt8}{h:ah}(hl:s.length<=65536):eJ ceF [.str s,.str [42,47]] h=some (.ret (.I (j3 s)),h):=by
 simp only[eJ,ceF,aW hl]
theorem AY:∀s,-1<=j3 s/\j3 s<=s.length
 |[]=>by decide
 |c::s=>by
  have:=AY s;simp only[j3,ai];split
  ·omega
  ·split<;>omega
theorem VD(s:List UInt8)(h:ah)(hs:s≠[])(hl:s.length<=65536):aV env 75 [.str s] h (fun out h'=>out= .ret (.iX [.I (jD s).1,.bool (jD s).2])/\h'=h):=by
 refine wb fn75 rfl ?_;obtain⟨c,r,rfl⟩:∃c r,s=c::r:=by cases s with|nil=>exact(hs rfl).elim|cons c r=>exact⟨c,r,rfl⟩
 simp[f75];refine aV.fw pr98 Dw ?_;by_cases h1:0<=Lib.indexByte [32,9,13,10] c
 ·simp[h1,jD]
 ·simp[h1];refine(BK (c::r) [47,47] h hl sp).mono fun out h2 hq=>?_;obtain⟨rfl,rfl⟩:=hq;cases h3:Lib.hasPrefix (c::r) [47,47]with
  |true=>
   simp;refine aV.fw pr98 (Dw (c:=10)) ?_;by_cases h4:0<=Lib.indexByte (c::r) 10<;>simp[h4,jD,h1,h3]
  |false=>
   simp;refine(BK (c::r) [47,42] h2 hl sp).mono fun out h5 hq=>?_;obtain⟨rfl,rfl⟩:=hq;cases h6:Lib.hasPrefix (c::r) [47,42]with
   |true=>
    obtain⟨t,ht⟩:=jh.1 (show List.isPrefixOf [47,42] (c::r)=true from h6);simp only[bZ,cd,xJ]at ht;obtain⟨rfl,rfl⟩:=ht;have hb:=AY t;simp only[ai]at hl;have w1:IntKind.wrap .i64 (j3 t+4)=j3 t+4:=wr om om;have g2:(2:Int)<=(t.length:Int)+1+1:=om;simp[g2];refine aV.fw pr100 (aam om) ?_;simp[w1,jD,h1,h3,h6]
   |false=>simp[jD,h1,h3,h6]
section
attribute [local simp] Conv.intToInt
theorem VE(c:UInt8)(h:ah)(hc:(97<=c.toNat/\c.toNat<=102)\/(65<=c.toNat/\c.toNat<=70)):aV env 196 [.int .u8 c.toNat] h (fun out h'=>out= .ret (.int .u8 ((if c.toNat<97 then c.toNat+32 else c.toNat:Nat):Int))/\h'=h):=by
 refine wb fn196 rfl ?_;have key:∀n:Nat,(97<=n/\n<=102)\/(65<=n/\n<=70)->cn (Go.binOp .or 5 (.int .u8 (n:Int)) (.int .u8 32))=some (.int .u8 ((if n<97 then n+32 else n:Nat):Int)):=by
  intro n hn;have:n=97\/n=98\/n=99\/n=100\/n=101\/n=102\/n=65\/n=66\/n=67\/n=68\/n=69\/n=70:=by omega
  rcases this with h|h|h|h|h|h|h|h|h|h|h|h<;>subst h<;>rfl
 simp[f196,key c.toNat hc]
theorem RU{k:IntKind}{t:TypeId}{a b:Int}:cn (Go.binOp .add t (.int k a) (.int k b))=some (.int k (IntKind.wrap k (a+b))):=by simp[Go.binOp,Op.intArith,cn,iM,pure,Sem.pure]
theorem LJ{k:IntKind}{t:TypeId}{a b:Int}:cn (Go.binOp .sub t (.int k a) (.int k b))=some (.int k (IntKind.wrap k (a-b))):=by simp[Go.binOp,Op.intArith,cn,iM,pure,Sem.pure]
theorem RV{k:IntKind}{t:TypeId}{a b:Int}:cn (Go.binOp .mul t (.int k a) (.int k b))=some (.int k (IntKind.wrap k (a*b))):=by simp[Go.binOp,Op.intArith,cn,iM,pure,Sem.pure]
theorem RW(s:List UInt8)(v:Nat)(h:ah)(hs:s≠[])(hl:s.length<=65536)(hv:yS 0 s=some v):aV env 176 [.str s,.I 16,.I 63] h (fun out h'=>out= .ret (.iX [.int .u64 v,.nilIface])/\aS h h'):=by
 refine wb fn176 rfl ?_;have g0:¬roomy<s.length:=by unfold roomy;omega
 have e0:(s==[])=false:=by cases s with
  |nil=>exact absurd rfl hs
  |cons a b=>rfl
 have sh:∀t,cn (Go.binOp .shl t (.int .u64 1) (.int .u64 63))=some (.int .u64 9223372036854775808):=fun _=>rfl;have cv:∀u:Int,cn (pure (Value.int .u64 u))=some (.int .u64 u):=fun u=>by simp[cn,iM,pure,Sem.pure]
 have cv8:∀u:Int,cn (pure (Value.int .u8 u))=some (.int .u8 u):=fun u=>by simp[cn,iM,pure,Sem.pure]
 have w63:IntKind.wrap .u64 63=63:=rfl;simp[f176,g0,e0,cv,w63,sh,LJ];have wu:∀a:Int,0<=a->a<18446744073709551616->IntKind.wrap .u64 a=a:=fun a h0 h1=>by rw[IntKind.wrap_u64];omega
 obtain⟨J,hJ⟩:∃J:Nat->St->Prop,J=(fun m x=>∃(i a:Nat),i<=s.length/\m=s.length-i/\yS a (s.drop i)=some v/\a<9223372036854775808/\x.n=172/\x.ds=[]/\x.bI=false/\aS h x.h/\x.h.get h.next=some (.cells false 1 (s.map fun b=> .int .u8 b.toNat))/\
  x.rg.get 1=some (.I 16)/\x.rg.get 8=some (.bool false)/\x.rg.get 10=some (.int .u64 1152921504606846976)/\x.rg.get 11=some (.int .u64 9223372036854775807)/\x.rg.get 12=some (.bool false)/\x.rg.get 13=some (.int .u64 a)/\x.rg.get 99=some (.S h.next s.length)/\x.rg.get 100=some (.I s.length)/\x.rg.get 101=some (.I i)):=⟨_,rfl⟩
 refine bW J s.length ?_ ?_
 ·rw[hJ];refine⟨0,0,bX _,rfl,hv,om,rfl,rfl,rfl,(aS.refl h).alloc _,sp,sp,sp,sp,by simp[wu],sp,sp,sp,sp,sp⟩
 intro m x hx;rw[hJ]at hx;obtain⟨rg,n,H,ds,bI⟩:=x;obtain⟨i,a,hi,rfl,hf,ha,e1,e2,e3,k,gb,r1,r8,qp,jq,RX,NL,rl,rn,ri⟩:=hx;dsimp only at e1 e2 e3 k gb r1 r8 qp jq RX NL rl rn ri;subst e1 e2 e3;by_cases cX:i<s.length
 ·have fW:(i:Int)<(s.length:Int):=by omega
  have wi:IntKind.wrap .i64 ((i:Int)+1)=((i+1:Nat):Int):=by rw[wr om om];omega
  have fa:(s.map fun b=>AV.int .u8 b.toNat)[i]?=some (.int .u8 s[i].toNat):=by simp[cX]
  rw[ca cX]at hf;generalize s[i]=c at*;generalize (s.map fun b=>AV.int .u8 b.toNat)=F at*;simp only[yS]at hf;cases hx:yd c with
  |none=>rw[hx]at hf;cases hf
  |some d=>
   rw[hx]at hf;simp only at hf;split at hf
   ·cases hf
   ·rename_i NN;have n95:((c.toNat:Int)==95)=false:=by
     unfold yd at hx;rw[aH];split at hx
     ·omega
     ·split at hx
      ·omega
      ·split at hx
       ·omega
       ·cases hx
    have c1:¬(1152921504606846976:Int)<=(a:Int):=om;have c2:¬((a:Int)*16+d<(a:Int)*16):=om;have c3:¬((9223372036854775807:Int)<(a:Int)*16+d):=om;have w1:IntKind.wrap .u64 ((a:Int)*16)=(a:Int)*16:=wu _ om om;have w2:IntKind.wrap .u64 ((a:Int)*16+d)=(a:Int)*16+d:=wu _ om om;have w16:IntKind.wrap .u64 16=16:=rfl;have ad6:IntKind.wrap .u8 16=16:=rfl;have aha:d<16:=by
     unfold yd at hx;split at hx
     ·injection hx with hx;omega
     ·split at hx
      ·injection hx with hx;omega
      ·split at hx
       ·injection hx with hx;omega
       ·cases hx
    have hdI:¬(16:Int)<=(d:Int):=om;by_cases h9:48<=c.toNat/\c.toNat<=57
    ·have hd:d=c.toNat-48:=by
      unfold yd at hx;rw[aW h9]at hx;injection hx with hx;exact hx.symm
     have a1:(48:Int)<=(c.toNat:Int):=om;have a2:(c.toNat:Int)<=57:=om;have wd:IntKind.wrap .u8 ((c.toNat:Int)-48)=(d:Int):=(by rw[IntKind.wrap_u8];omega);have wd2:IntKind.wrap .u64 (d:Int)=(d:Int):=wu _ om om;simp[r1,r8,qp,jq,RX,NL,rl,rn,ri,cX,fW,gb,fa,n95,a1,a2,h9.1,h9.2,wd,wd2,cv,w16,ad6,hdI,c1,w1,w2,c2,c3,wi,RU,LJ,RV,cv8];refine⟨s.length-(i+1),om,?_⟩;rw[hJ];exact⟨i+1,a*16+d,cX,rfl,hf,om,rfl,rfl,rfl,k,gb,by simp[r1],by simp[r8],by simp[qp],by simp[jq],by simp[RX],sp,by simp[rl],by simp[rn],sp⟩
    ·have hal:(97<=c.toNat/\c.toNat<=102)\/(65<=c.toNat/\c.toNat<=70):=by
      unfold yd at hx;rw[az h9]at hx;split at hx
      ·exact .inl (by assumption)
      ·split at hx
       ·exact .inr (by assumption)
       ·cases hx
     have hd:d+87=(if c.toNat<97 then c.toNat+32 else c.toNat):=by
      unfold yd at hx;rw[az h9]at hx;split at hx
      ·injection hx with hx;rw[az om];omega
      ·split at hx
       ·injection hx with hx;rw[aW om];omega
       ·cases hx
     have low:∀(H:ah)(Q:Out->ah->Prop),Q (.ret (.int .u8 ((d+87:Nat):Int))) H->aV env 196 [.int .u8 c.toNat] H Q:=fun H Q q=>(VE c H hal).mono fun out h' hq=>by
      obtain⟨rfl,rfl⟩:=hq;rw[<-hd];exact q
     have b1:(97:Int)<=(d:Int)+87:=by
      have:10<=d:=by rcases hal with h|h<;>(split at hd<;>omega)
      omega
     have b2:(d:Int)+87<=122:=om;have wd:IntKind.wrap .u8 ((d:Int)+87-97)=(d:Int)-10:=(by rw[IntKind.wrap_u8];omega);have wd1:IntKind.wrap .u8 (d:Int)=(d:Int):=(by rw[IntKind.wrap_u8];omega);have wd2:IntKind.wrap .u64 (d:Int)=(d:Int):=wu _ om om;by_cases e48:(48:Int)<=(c.toNat:Int)
     ·have e57:¬(c.toNat:Int)<=57:=om;simp[r1,r8,qp,jq,RX,NL,rl,rn,ri,cX,fW,gb,fa,n95,e48,e57];refine low _ _ ?_;simp[b1,b2];refine low _ _ ?_;simp[b1,b2];refine low _ _ ?_;simp[r1,r8,qp,jq,RX,NL,rl,rn,ri,wd,wd1,wd2,cv,w16,ad6,hdI,c1,w1,w2,c2,c3,wi,RU,LJ,RV,cv8];refine⟨s.length-(i+1),om,?_⟩;rw[hJ];exact⟨i+1,a*16+d,cX,rfl,hf,om,rfl,rfl,rfl,k,gb,by simp[r1],by simp[r8],by simp[qp],by simp[jq],by simp[RX],sp,by simp[rl],by simp[rn],sp⟩
     ·omega
 ·have np:i=s.length:=by omega
  subst np;rw[eQ]at hf;simp only[yS,bw]at hf;subst hf;simp[r1,r8,qp,jq,RX,NL,rl,rn,ri];exact k
theorem afp(s:List UInt8)(v:Nat)(h:ah)(hs:s≠[])(hl:s.length<=65536)(hv:yS 0 s=some v):aV env 137 [.str s,.I 16,.I 63] h (fun out h'=>out= .ret (.iX [.int .u64 v,.nilIface])/\aS h h'):=by
 refine wb fn137 rfl ?_;simp[f137];refine(RW s v h hs hl hv).mono fun out h2 hq=>?_;obtain⟨rfl,k2⟩:=hq;simp;exact k2
end
attribute [simp] Conv.intToInt
theorem Fq{l cs:List UInt8}(h:∀b∈l,cs.contains b=true):Lib.trimS l cs=[]:=by
 have h1:∀(m:List UInt8),(∀b∈m,cs.contains b=true)->m.dropWhile (fun b=>cs.contains b)=[]:=by
  intro m;induction m with
  |nil=>intro _;rfl
  |cons c m ih=>
   intro hm;rw[List.dropWhile_cons,aW (hm c sp)];exact ih fun b hb=>hm b (by simp[hb])
 unfold Lib.trimS Lib.trimLeftS Lib.trimRightS;rw[h1 l.reverse (fun b hb=>h b (List.mem_reverse.1 hb))];rfl
def O2:List UInt8:=[48,49,50,51,52,53,54,55,56,57,97,98,99,100,101,102,65,66,67,68,69,70]
def VF:List UInt8:=[48,49,50,51,52,53,54,55,56,57]
theorem Js(c:UInt8)(h:(yd c).isSome=true):O2.contains c=true:=by
 have key:∀n:Fin 256,(yd (UInt8.ofNat n.1)).isSome=true->O2.contains (UInt8.ofNat n.1)=true:=dc
 have:=key ⟨c.toNat,c.toNat_lt⟩;simp only[UInt8.ofNat_toNat]at this;exact this h
theorem uh{u:Int}:cn (pure (Value.int .i64 u))=some (.I u):=by simp[cn,iM,pure,Sem.pure]
theorem Dx:∀(s:List UInt8)(acc v:Nat),yS acc s=some v->(∀b∈s,O2.contains b=true)/\(acc<9223372036854775808->v<9223372036854775808)
 |[],acc,v,h=>by
  simp only[yS]at h;injection h with h;subst h;exact⟨(fun b hb=>by cases hb),id⟩
 |c::s,acc,v,h=>by
  simp only[yS]at h;cases hc:yd c with
  |none=>rw[hc]at h;cases h
  |some x=>
   rw[hc]at h;simp only at h;split at h
   ·cases h
   ·obtain⟨h1,h2⟩:=Dx s _ v h;refine⟨fun b hb=>?_,fun _=>h2 om⟩;rcases aq.1 hb with rfl|hb
    ·exact Js _ (by rw[hc];rfl)
    ·exact h1 b hb
def yT(s:List UInt8):Option Int:=
 if Lib.hasPrefix s [48,120]=true then
  if s.drop 2=[]\/16<(s.drop 2).length then none else(yS 0 (s.drop 2)).map fun(v:Nat)=>(v:Int)
 else if(∀b∈s,VF.contains b=true)/\(s.length<=1\/s.head?≠some 48)then match Lib.atoiAll s with
  | .ok v=>some v
  |_=>none
 else none
theorem RY{s:List UInt8}{h:ah}{v:Int}(hl:s.length<=65536)(hv:Lib.atoiAll s= .ok v):AZ [.str s,.I 10,.I 64] h=some (.ret (.iX [.I v,.nilIface]),h):=by
 simp only[AZ,aW hl,hv]
theorem xc{s p:List UInt8}{h:ah}(hl:s.length<=9223372036854775807)(hp:p.length<4294967281)(ha:X9 p=true):eJ Fl [.str s,.str p] h=some (.ret (.str (Lib.trimS s p)),h):=by
 simp only[eJ,Fl,aW (And.intro hl (And.intro hp ha))]
theorem zX{s p:List UInt8}{h:ah}:eJ Jk [.str s,.str p] h=some (.ret (.iX [.str (Lib.trimPrefix s p),.bool (Lib.hasPrefix s p)]),h):=rfl
theorem RZ(s:List UInt8)(h:ah)(v:Int)(hs:s≠[])(hl:s.length<=65536)(hv:yT s=some v):aV env 104 [.str s] h (fun out h'=>out= .ret (.iX [.I v,.bool true])/\aS h h'):=by
 refine wb fn104 rfl ?_;unfold yT at hv;cases hx:Lib.hasPrefix s [48,120]with
 |true=>
  simp only[hx,lM]at hv;split at hv
  ·cases hv
  ·rename_i hn;simp only[fO,Nat.not_lt]at hn;cases hh:yS 0 (s.drop 2)with
   |none=>rw[hh]at hv;cases hv
   |some u=>
    rw[hh]at hv;simp only[Option.map,bw]at hv;subst hv;have HX:Lib.trimPrefix s [48,120]=s.drop 2:=(by unfold Lib.trimPrefix;rw[aW hx];rfl);obtain⟨m1,m2⟩:=Dx _ _ _ hh;have hu:=m2 dc;have g1:(((s.drop 2).length:Nat):Int)<=16:=om;have ht:Lib.trimS (s.drop 2) [48,49,50,51,52,53,54,55,56,57,97,98,99,100,101,102,65,66,67,68,69,70]=[]:=Fq m1;have wu:IntKind.wrap .i64 (u:Int)=u:=wr om om;simp[f104];refine aV.fw pr136 zX ?_;rw[HX,hx];simp;refine(afp _ _ _ hn.1 (by simp;omega) hh).mono fun out h2 hq=>?_;obtain⟨rfl,k2⟩:=hq;generalize s.drop 2=x at*;simp[g1,wu,uh];refine aV.fw pr117 (xc (s:=x) (p:=O2) om dc dc) ?_;simp[O2,ht];exact k2
 |false=>
  simp only[hx,gR,iW]at hv;split at hv
  ·rename_i hd;obtain⟨d1,d2⟩:=hd;have ht:Lib.trimS s [48,49,50,51,52,53,54,55,56,57]=[]:=Fq d1;cases ha:Lib.atoiAll s with
   |ok u=>
    rw[ha]at hv;simp only[bw]at hv;subst hv;have HX:Lib.trimPrefix s [48,120]=s:=(by unfold Lib.trimPrefix;rw[hx];rfl);simp[f104];refine aV.fw pr136 zX ?_;rw[HX,hx];by_cases h1:s.length<=1
    ·have zB:¬(1:Int)<(s.length:Int):=om;simp[zB];refine aV.fw pr117 (xc om dc dc) ?_;simp[ht];refine aV.fw pr138 (RY hl ha) ?_;simp;refine Dd ?_;simp;exact(aS.refl _).bump _
    ·have zB:(1:Int)<(s.length:Int):=om;obtain⟨c,r,rfl⟩:∃c r,s=c::r:=(by cases s with|nil=>exact(hs rfl).elim|cons c r=>exact⟨c,r,rfl⟩);have hc:c≠48:=fun e=>by
      rcases d2 with d2|d2
      ·exact h1 d2
      ·rw[e]at d2;exact d2 rfl
     have g2:((c.toNat:Int)==48)=false:=by
      rw[aH];intro e;apply hc;apply eh;have:(48:UInt8).toNat=48:=rfl;omega
     have afq:(1:Int)<(r.length:Int)+1:=(by simpa using zB);simp[afq,g2];refine aV.fw pr117 (xc om dc dc) ?_;simp[ht];refine aV.fw pr138 (RY hl ha) ?_;simp;refine Dd ?_;simp;exact(aS.refl _).bump _
   |_=>rw[ha]at hv;cases hv
  ·cases hv
structure Wd where
 kind:Int
 text:List UInt8
 n:Int
 deriving DecidableEq
def pc(s:List UInt8):Option Wd:=match s with
 |[]=>none
 |c::_=>if iU c.toNat=true then(if eG s<=40 then some ⟨if keys.contains (s.take (eG s))=true then 3 else 1,s.take (eG s),0⟩else none)
  else if 0<eG s then(yT (s.take (eG s))).map (fun v=>⟨2,s.take (eG s),v⟩)
  else if 0<jc s then some ⟨4,s.take (jc s).toNat,0⟩else none
theorem aS.VG{h g:ah}{i:Nat}(o:ej)(hk:aS h g)(h1:h.next<=i)(h2:i<g.next):aS h (g.set i o):=aS.set o h1 h2 hk
theorem kT{h h':ah}(k:aS h h':=by repeat (first|exact aS.refl _|assumption|apply aS.alloc|apply aS.bump|(refine aS.VG _ ?_ (by first|omega|(simp;done)|(simp;omega)) (by first|omega|(simp;done)|(simp;omega))))):aS h h':=k
theorem VH{s:List UInt8}{n:Nat}(h:0<n)(hs:s≠[]):s.take n≠[]:=by
 intro e;rcases List.take_eq_nil_iff.1 e with e|e
 ·omega
 ·exact hs e
theorem Dy(s:List UInt8):eG s<=s.length:=(List.takeWhile_prefix _).length_le
theorem xd(s:List UInt8):0<=jc s/\jc s<=s.length:=by
 unfold jc;split
 ·omega
 ·cases s with
  |nil=>simp
  |cons c s=>simp only[ai];split<;>omega
theorem aan(s:List UInt8)(h:ah)(w:Wd)(hl:s.length<=65536)(hw:pc s=some w):aV env 76 [.str s] h (fun out h'=>out= .ret (.iX [.agg [.I w.kind,.str w.text,.I w.n,.I 0,.I 0],.bool true])/\aS h h'):=by
 refine wb fn76 rfl ?_;obtain⟨c,r,rfl⟩:∃c r,s=c::r:=by cases s with|nil=>cases hw|cons c r=>exact⟨c,r,rfl⟩
 have hn:=Dy (c::r);have B5:0<=eG (c::r):=bX _;have hs:(c::r)≠[]:=sp
 have hc:(c::r)[0]?=some c:=rfl;have tn:((eG (c::r):Nat):Int).toNat=eG (c::r):=om
 simp only[pc]at hw;generalize hS:c::r=S at*;have cov:((eG S:Nat):Int)<=(S.length:Int):=om
 simp[f76];refine(aaj S _ om).mono fun out h2 hq=>?_;obtain⟨rfl,rfl⟩:=hq;simp[hc];refine(Jp _ _).mono fun out h3 hq=>?_;obtain⟨rfl,rfl⟩:=hq;cases fI:iU c.toNat with
 |true=>
  simp only[fI,lM]at hw;split at hw
  ·rename_i h40;simp only[bw]at hw;subst hw;have O3:((eG S:Nat):Int)<=40:=om;simp[cov,tn];refine(VC _ _).mono fun out h4 hq=>?_;obtain⟨rfl,rfl⟩:=hq;cases hk:keys.contains (S.take (eG S))with
   |true=>
    simp[O3,lN.1 hk];exact kT
   |false=>
    have Ec:¬S.take (eG S)∈keys:=(by simpa using hk);simp[O3,Ec];exact kT
  ·cases hw
 |false=>
  simp only[fI,gR,iW]at hw;by_cases h0:0<eG S
  ·have Fp:(0:Int)<((eG S:Nat):Int):=om;rw[aW h0]at hw;cases hv:yT (S.take (eG S))with
   |none=>rw[hv]at hw;cases hw
   |some v=>
    rw[hv]at hw;simp only[Option.map,bw]at hw;subst hw;simp[Fp,h0,hn,cov,tn];refine(RZ _ _ v (VH h0 hs) (by rw[cI];omega) hv).mono fun out h4 hq=>?_;obtain⟨rfl,k4⟩:=hq;have n4:=k4.next;have o4:=k4.old h.next sp;have kk:=((aS.refl h).alloc _).trans k4;simp at o4 n4;simp[Fp,h0,hn,cov,tn,o4];exact kT
  ·rw[az h0]at hw;have Fp:¬(0:Int)<((eG S:Nat):Int):=om;split at hw
   ·rename_i hm;simp only[bw]at hw;subst hw;have QV:=xd S;simp[Fp,h0];refine(aal S _ hs hl).mono fun out h4 hq=>?_;obtain⟨rfl,rfl⟩:=hq;simp[hm,QV];exact kT
   ·cases hw
structure aQ(X:List Nat)(h h':ah):Prop where
 next:h.next<=h'.next
 old:∀i,i<h.next->i∉X->h'.get i=h.get i
 fresh:(∀i,h.next<=i->h.get i=Option.none)->∀i,h'.next<=i->h'.get i=Option.none
theorem aQ.refl(X:List Nat)(h:ah):aQ X h h:=⟨ao _,fun _ _ _=>rfl,fun hf=>hf⟩
theorem aS.x{h h':ah}(k:aS h h')(X:List Nat):aQ X h h':=⟨k.next,fun i hi _=>k.old i hi,k.fresh⟩
theorem aQ.trans{X:List Nat}{a b c:ah}(h:aQ X a b)(h':aQ X b c):aQ X a c:=
 ⟨bk h.next h'.next,fun i hi hx=>(h'.old i (aw hi h.next) hx).trans (h.old i hi hx),fun hf=>h'.fresh (h.fresh hf)⟩
theorem aQ.bump{X:List Nat}{h g:ah}(k:Nat)(hk:aQ X h g):aQ X h (g.bump k):=
 ⟨bk hk.next (qS _ _),hk.old,fun hf i hi=>hk.fresh hf i (bk (qS _ _) hi)⟩
theorem aQ.alloc{X:List Nat}{h g:ah}(o:ej)(hk:aQ X h g):aQ X h (g.alloc o).2:=
 ⟨bk hk.next (cR _),fun i hi hx=>by rw[ah.dz,az (by have:=hk.next;omega)];exact hk.old i hi hx,
  fun hf i hi=>by
   rw[ah.vm]at hi;rw[ah.dz,az om];exact hk.fresh hf i om⟩
theorem aQ.set{X:List Nat}{h g:ah}{i:Nat}(o:ej)(hk:aQ X h g)(h1:i∈X\/h.next<=i)(h2:i<g.next):aQ X h (g.set i o):=
 ⟨hk.next,fun j hj hx=>by
  rw[ah.aM,az (by rintro rfl;rcases h1 with h1|h1<;>first|exact hx h1|omega)];exact hk.old j hj hx,
  fun hf j hj=>by
   rw[ah.qJ]at hj;rw[ah.aM,az om];exact hk.fresh hf j hj⟩
theorem aQ.mono{X Y:List Nat}{h h':ah}(k:aQ X h h')(hs:∀i,i∈X->i<h.next->i∈Y):aQ Y h h':=
 ⟨k.next,fun i hi hy=>k.old i hi fun hx=>hy (hs i hx hi),k.fresh⟩
theorem aQ.aJ{h h':ah}(k:aQ [] h h'):aS h h':=⟨k.next,fun i hi=>k.old i hi sp,k.fresh⟩
theorem kX{X:List Nat}{h h':ah}(k:aQ X h h':=by repeat (first|exact aQ.refl _ _|assumption|apply aQ.alloc|apply aQ.bump|(refine aQ.set _ ?_ (by first|(left;simp;done)|(right;first|omega|(simp;done)|(simp;omega))) (by first|omega|(simp;done)|(simp;omega))))):aQ X h h':=k
theorem R0(n:Nat)(s:List UInt8)(l c:Int)(p q:Nat)(h:ah)(hp:h.get p=some (.C [.I l,.I c]))(hq:h.get q=some (.C [.str s]))(hpq:p≠q)(hpn:p<h.next)(hqn:q<h.next)
 (hs:s.length<=65536) (hl:0<=l/\l<=100000000) (hc:0<=c/\c<=100000000) (hn:n<=s.length):
 aV env 74 [.I n,.P p,.P q] h (fun out h'=>out= .ret (.iX [])/\aQ [p,q] h h'/\
  h'.get p=some (.C [.I (dy l c (s.take n)).1,.I (dy l c (s.take n)).2])/\h'.get q=some (.C [.str (s.drop n)])):=by
 refine wb fn74 rfl ?_;have rM:(n:Int)<=(s.length:Int):=om
 simp[f74];refine Dd ?_;simp[hp,hq,hn,rM];refine(RT _ _ _ _ (by rw[cI];omega) hl hc).mono fun out h2 hq2=>?_;obtain⟨rfl,k2⟩:=hq2;have o1:=k2.old p (by simp;omega);have o2:=k2.old q (by simp;omega);have n2:=k2.next;simp[hp,hq]at o1 o2 n2;simp;refine⟨dd,?_⟩;simp[o1,o2,hp,hq,hpq,hpq.symm]
 repeat refine di ?_
 simp[hn,o1,o2,hp,hq,hpq,hpq.symm,fL];have kk:=(((aS.refl h).bump 6).trans k2).x [p,q];exact kX
structure Wo where
 kind:Int
 text:List UInt8
 n:Int
 l:Int
 c:Int
 deriving DecidableEq
def Wo.cells(w:Wo):List AV:=[.I w.kind,.str w.text,.I w.n,.I w.l,.I w.c]
inductive jM:Int->Int->List UInt8->List Wo->Prop where
 |nil (l c:Int):jM l c [] []
 |blank {l c:Int} {s:List UInt8} {n:Nat} {ws:List Wo} (hs:s≠[]) (hb:jD s=((n:Int),true)) (h0:0<n) (hn:n<=s.length) (hr:jM (dy l c (s.take n)).1 (dy l c (s.take n)).2 (s.drop n) ws):jM l c s ws
 |word {l c:Int} {s:List UInt8} {w:Wd} {ws:List Wo} (hs:s≠[]) (hb:jD s=(0,true)) (hw:pc s=some w)
  (hr:jM (dy l c w.text).1 (dy l c w.text).2 (s.drop w.text.length) ws):jM l c s (⟨w.kind,w.text,w.n,l,c⟩::ws)
theorem jM.done{l c:Int}{ws:List Wo}(h:jM l c [] ws):ws=[]:=by
 cases h with
 |nil=>rfl
 |blank hs=>exact(hs rfl).elim
 |word hs=>exact(hs rfl).elim
theorem yU{s:List UInt8}{w:Wd}(h:pc s=some w):w.text=s.take w.text.length/\w.text.length<=s.length/\0<w.text.length:=by
 have key:∀n:Nat,0<n->n<=s.length->s.take n=s.take (s.take n).length/\(s.take n).length<=s.length/\0<(s.take n).length:=by
  intro n h0 hn;rw[cI,j4 hn];exact⟨rfl,hn,h0⟩
 have hn:=Dy s;have hm:=xd s;have h1:∀c r,s=c::r->iU c.toNat=true->0<eG s:=by
  rintro c r rfl hc
  simp[eG,lY,hc]
 unfold pc at h;split at h
 ·cases h
 ·rename_i c r;split at h
  ·rename_i hc;split at h
   ·injection h with h;subst h;exact key _ (h1 c r rfl hc) hn
   ·cases h
  ·split at h
   ·rename_i h0;cases hv:yT ((c::r).take (eG (c::r)))with
    |none=>rw[hv]at h;cases h
    |some v=>rw[hv]at h;simp only[Option.map,bw]at h;subst h;exact key _ h0 hn
   ·split at h
    ·rename_i h0;injection h with h;subst h;exact key _ om om
    ·cases h
theorem tW:∀(s:List UInt8)(l c:Int),0<=l->0<=c->0<=(dy l c s).1/\(dy l c s).1<=l+s.length/\0<=(dy l c s).2/\(dy l c s).2<=c+s.length+1
 |[],l,c,hl,hc=>by simp only[dy,bz];omega
 |b::s,l,c,hl,hc=>by
  unfold dy;split
  ·have:=tW s (l+1) 1 om om;simp only[ai];omega
  ·have:=tW s l (c+1) om om;simp only[ai];omega
def cM(h:ah):Prop:=∀i,h.next<=i->h.get i=Option.none
def rk(A:Option Nat)(n:Nat):AV:=match A with
 |none=> .Z
 |some a=> .S a n
structure Yh(v:Nat)(A:Option Nat)(ws:List Wo)(h:ah):Prop where
 var:h.get v=some (.C [rk A ws.length])
 none:A=Option.none->ws=[]
 arr:∀a,A=some a->h.get a=some (.cells true 5 (ws.flatMap Wo.cells))/\a<h.next
def ad7(l v:Nat)(O:ej):Prop:=∀(A:Option Nat)(ws:List Wo)(w:Wo)(h:ah),h.get l=some O->Yh v A ws h->ws.length<=65536->(∀a,A=some a->a≠l/\a≠v)->l<h.next->v<h.next->cM h->
 rh env l [.agg w.cells,.bool false] h (fun x h'=>x= .bool true/\h'.get l=some O/\∃A',Yh v A' (ws++[w]) h'/\(A'=A\/∃a,A'=some a/\h.next<=a)/\aQ ([l,v]++A.toList) h h')
theorem aQ.trans'{X Y:List Nat}{a b c:ah}(h:aQ X a b)(h':aQ Y b c)(hy:∀i,i∈Y->i<a.next->i∈X):aQ X a c:=
 ⟨bk h.next h'.next,fun i hi hx=>(h'.old i (aw hi h.next) fun e=>hx (hy i e hi)).trans (h.old i hi hx),fun hf=>h'.fresh (h.fresh hf)⟩
structure ad8(l v:Nat)(O:ej)(ws:List Wo)(s:List UInt8)(h:ah)(A:Option Nat)(cq eK:List Wo)(rest:List UInt8)(lc cc:Int)(st:St):Prop where
 app:cq++eK=ws
 lex:jM lc cc rest eK
 len:cq.length+rest.length<=s.length
 l0:0<=lc
 l1:lc+rest.length<=s.length+1
 c0:0<=cc
 c1:cc+2*rest.length<=2*s.length+1
 n:st.n=59
 ds:st.ds=[]
 bI:st.bI=false
 r0:st.rg.get 0=some (.CG l)
 r3:st.rg.get 3=some (.P (h.next+2))
 r4:st.rg.get 4=some (.P (h.next+3))
 r5:st.rg.get 5=some (.func 74 [.P (h.next+2),.P (h.next+3)])
 gl:st.h.get l=some O
 BL:Yh v A cq st.h
 lo:∀a,A=some a->h.next+6<=a
 p3:st.h.get (h.next+2)=some (.C [.I lc,.I cc])
 p4:st.h.get (h.next+3)=some (.C [.str rest])
 aJ:aQ [l,v] h st.h
 next:h.next+6<=st.h.next
theorem VI(l v:Nat)(O:ej)(tk:ad7 l v O)(b:Nat)(s:List UInt8)(ws:List Wo)(h:ah)(hO:∃pd n rg aa bb,O= .loop .ready pd n rg #[9,10] aa bb)(hl:h.get l=some O)(hv:Yh v none [] h)(hb:h.get b=some (.C [.str s]))(hf:cM h)(hln:l<h.next)(hvn:v<h.next)(XC:b<h.next)
 (HQ:b≠l) (hbv:b≠v) (hlv:l≠v) (hs:s.length<=65536) (hx:jM 1 1 s ws):
 aV env 73 [.CG l,.P b] h (fun out h'=>out= .ret (.iX [])/\h'.get l=some O/\∃A,Yh v A ws h'/\(∀a,A=some a->h.next<=a)/\aQ [l,v] h h'):=by
 refine wb fn73 rfl ?_;simp[f73];refine Dd ?_;simp[hb];have f2:=hf (h.next+2) om;have f3:=hf (h.next+3) om;have b2:b≠h.next+2:=om
 have b3:b≠h.next+3:=om
 simp[f2,f3,hb,b2,b3]
 repeat refine di ?_
 have l2:l≠h.next+2:=om
 have l3:l≠h.next+3:=om
 have v2:v≠h.next+2:=om
 have v3:v≠h.next+3:=om
 refine bW (fun k x=>∃A cq eK rest lc cc,k=rest.length/\ad8 l v O ws s h A cq eK rest lc cc x) s.length ?_ ?_
 ·refine⟨none,[],ws,s,1,1,rfl,⟨rfl,hx,sp,om,om,om,om,rfl,rfl,rfl,sp,sp,sp,sp,?_,?_,sp,sp,sp,?_,sp⟩⟩
  ·simp[hl,l2,l3]
  ·exact⟨by simp[v2,v3,hv.var],fun _=>rfl,sp⟩
  ·exact kX
 rintro k ⟨rg,n,H,ds,bI⟩ ⟨A,cq,eK,rest,lc,cc,rfl,I⟩
 obtain⟨i1,i2,i3,i4,i5,i6,i7,hn,hd,hr,r0,r3,r4,r5,gl,BL,lo,p3,p4,kp,nx⟩:=I;dsimp only at hn hd hr r0 r3 r4 r5 gl BL lo p3 p4 kp nx;subst hn hd hr;by_cases tU:rest=[]
 ·subst tU;have e:=i2.done;subst e;simp at i1;subst i1;simp[r4,p4];exact⟨gl,A,BL,fun a e=>by have:=lo a e;omega,kp⟩
 ·have ZN:(rest==[])=false:=aH.2 tU;simp[r4,p4,ZN,tU];refine bW (fun k x=>∃eK qL lc cc,k=qL.length/\qL≠[]/\qL.length<=rest.length/\ad8 l v O ws s h A cq eK qL lc cc x) rest.length ?_ ?_
  ·exact⟨eK,rest,lc,cc,rfl,tU,ao _,⟨i1,i2,i3,i4,i5,i6,i7,rfl,rfl,rfl,by simp[r0],by simp[r3],by simp[r4],by simp[r5],gl,BL,lo,p3,p4,kp,nx⟩⟩
  clear r0 r3 r4 r5 gl BL lo p3 p4 kp nx i1 i2 i3 i4 i5 i6 i7 rg eK lc cc H ZN
  rintro k ⟨rg,n,H,ds,bI⟩ ⟨eK,qL,lc,cc,rfl,aao,hle,I⟩
  obtain⟨i1,i2,i3,i4,i5,i6,i7,hn,hd,hr,r0,r3,r4,r5,gl,BL,lo,p3,p4,kp,nx⟩:=I;dsimp only at hn hd hr r0 r3 r4 r5 gl BL lo p3 p4 kp nx;subst hn hd hr;have ZN:(qL==[])=false:=aH.2 aao;simp[r4,p4];refine(VD qL H aao om).mono fun out h2 hq=>?_;obtain⟨rfl,rfl⟩:=hq;cases i2 with
  |nil=>exact(aao rfl).elim
  |@blank _ _ _ n _ XK afr h0 By LK=>
   have B5:((n:Int)==0)=false:=(by rw[aH];omega);simp[afr,B5,r5];have E9:=tW (qL.take n) lc cc i4 i6;rw[cI,j4 By]at E9;refine(R0 n qL lc cc _ _ h2 p3 p4 om om om om ⟨i4,om⟩ ⟨i6,om⟩ By).mono fun out h3 hq=>?_;obtain⟨rfl,k3,q3,q4⟩:=hq;have n3:=k3.next;have g3:h3.get l=some O:=(by rw[k3.old l om (by simp;omega),gl]);have O4:Yh v A cq h3:=⟨by rw[k3.old v om (by simp;omega)];exact BL.var,BL.none,fun a e=>by
    have:=lo a e;have hg:=BL.arr a e;exact⟨by rw[k3.old a hg.2 (by simp;omega)];exact hg.1,om⟩⟩
   have k4:aQ [l,v] h h3:=kp.trans' k3 (by intro i hi cX;simp at hi;omega);have Jt:(qL.drop n).length=qL.length-n:=bU;by_cases hd0:qL.drop n=[]
   ·rw[hd0]at LK q4;have e:=LK.done;subst e;simp at i1;subst i1;simp[r4,q4];exact⟨g3,A,O4,fun a e=>by have:=lo a e;omega,k4⟩
   ·have HY:(qL.drop n==[])=false:=aH.2 hd0;simp[r4,q4,HY];refine⟨_,?_,eK,_,rfl,hd0,?_,_,_,⟨i1,LK,?_,?_,?_,?_,?_,rfl,rfl,rfl,by simp[r0],by simp[r3],by simp[r4],by simp[r5],g3,O4,lo,q3,q4,k4,by dsimp only;omega⟩⟩<;>omega
  |word XK yG hw LK=>
   rename_i w eK;obtain⟨t1,t2,t3⟩:=yU hw;simp[yG,r4,p4];refine(aan qL h2 w om hw).mono fun out h3 hq=>?_;obtain⟨rfl,k3⟩:=hq;have n3:=k3.next;have q3:=(k3.old _ om).trans p3;have q4:=(k3.old _ om).trans p4;have d3:h.next+2≠h3.next:=om;have d4:h.next+3≠h3.next:=om;simp[r3,r4,r0,q3,q4,d3,d4];have gl3:h3.get l=some O:=(by rw[k3.old l om,gl]);have ln:l≠h3.next:=om;obtain⟨pd,nn,rgO,aa,bb,hOe⟩:=hO;simp[gl3,ln,hOe];have vn:v≠h3.next:=om;have O4:Yh v A cq h3:=⟨by rw[k3.old v om];exact BL.var,BL.none,fun a e=>by
    have hg:=BL.arr a e;exact⟨by rw[k3.old a hg.2];exact hg.1,om⟩⟩
   refine(tk A cq ⟨w.kind,w.text,w.n,lc,cc⟩ _ (by simp[gl3,ln]) ⟨by simp[vn,O4.var],O4.none,fun a e=>?_⟩ om (fun a e=>by have:=lo a e;omega) (by simp;omega) (by simp;omega) ?_).mono fun x h4 hq=>?_
   ·have hg:=O4.arr a e;have na:a≠h3.next:=om;refine⟨by simp[na,hg.1],by simp;omega⟩
   ·have f1:cM h2:=kp.fresh hf;have f3:=k3.fresh f1;exact(show aS h3 _ from kT).fresh f3
   obtain⟨rfl,g4,A4,aap,ha4,k4⟩:=hq;have n4:=k4.next;simp at n4;have u3:=k4.old (h.next+2) (by simp;omega) (by intro e;simp at e;rcases e with e|e|e<;>first|omega|(have:=lo _ e;have:=(BL.arr _ e).2;omega));have u4:=k4.old (h.next+3) (by simp;omega) (by intro e;simp at e;rcases e with e|e|e<;>first|omega|(have:=lo _ e;have:=(BL.arr _ e).2;omega));have u5:=k4.old h3.next sp (by intro e;simp at e;rcases e with e|e|e<;>first|omega|(have:=lo _ e;have:=(BL.arr _ e).2;omega));simp[d3,d4,q3,q4]at u3 u4 u5;simp[u3,u4,u5,r5];have E9:=tW w.text lc cc i4 i6;refine(R0 w.text.length qL lc cc _ _ h4 u3 u4 om om om om ⟨i4,om⟩ ⟨i6,om⟩ t2).mono fun out h5 hq=>?_;obtain⟨rfl,k5,y3,y4⟩:=hq;rw[<-t1]at y3;have n5:=k5.next;have g5:h5.get l=some O:=(by rw[k5.old l om (by simp;omega),g4]);have hA4:∀a,A4=some a->h.next+6<=a:=by
    intro a e;rcases ha4 with rfl|⟨a',e',h6⟩
    ·exact lo a e
    ·rw[e']at e;injection e with e;subst e;simp at h6;omega
   have afs:Yh v A4 (cq++[⟨w.kind,w.text,w.n,lc,cc⟩]) h5:=⟨by rw[k5.old v om (by simp;omega)];exact aap.var,aap.none,fun a e=>by
    have hg:=aap.arr a e;have:=hA4 a e;exact⟨by rw[k5.old a hg.2 (by simp;omega)];exact hg.1,om⟩⟩
   have k6:aQ [l,v] h h5:=by
    have ka:aQ [l,v] h h3:=kp.trans' (k3.x []) sp;have kb:aQ [l,v] h h4:=aQ.trans' (X:=[l,v]) kX k4 (by
     intro i hi cX;simp at hi⊢;rcases hi with hi|hi|hi
     ·exact .inl hi
     ·exact .inr hi
     ·have:=lo _ hi;omega)
    exact kb.trans' k5 (by intro i hi cX;simp at hi;omega)
   have Jt:(qL.drop w.text.length).length=qL.length-w.text.length:=bU;simp;refine⟨_,?_,A4,cq++[⟨w.kind,w.text,w.n,lc,cc⟩],eK,_,rfl,_,_,⟨by rw[cj];exact i1,LK,?_,?_,?_,?_,?_,rfl,rfl,rfl,by simp[r0],by simp[r3],by simp[r4],by simp[r5],?_,afs,hA4,y3,y4,k6,by dsimp only;omega⟩⟩
   case refine_7=>rw[<-hOe];exact g5
   all_goals (try simp only[bO,List.length_singleton])<;>omega
section
attribute [simp] aO OA
attribute [local simp] aI
theorem Um(h:ah)(o:ej):(h.alloc o).2.get h.next=some o:=by rw[ah.dz,aW rfl]
theorem R1(ws:List Wo):(ws.flatMap Wo.cells).length=5*ws.length:=by
 induction ws with
 |nil=>rfl
 |cons w ws ih=>simp only[ux,bO,ih,ai];simp[Wo.cells];omega
theorem O5(ws:List Wo):(ws.flatMap Wo.cells).all AV.scalar=true:=by
 rw[dw];intro x hx;obtain⟨w,_,hw⟩:=List.mem_flatMap.1 hx;simp[Wo.cells]at hw;rcases hw with rfl|rfl|rfl|rfl|rfl<;>rfl
theorem aaq(s:List UInt8)(h:ah):aV env 46 [.str s] h (fun out h'=>out= .ret (.func 73 [.P h.next])/\h'=(h.alloc (.C [.str s])).2):=by
 refine wb fn46 rfl ?_;simp[f46]
theorem aar(s:List UInt8)(ws:List Wo)(h:ah)(hs:s.length<=65536)(hf:cM h)(hx:jM 1 1 s ws):
 aV env 28 [.str s] h (fun out h'=>∃A,out= .ret (.iX [rk A ws.length,.agg [.I 0,.I 0],.bool false])/\(A=none->ws=[])/\(∀a,A=some a->h.next<=a/\a<h'.next/\h'.get a=some (.cells true 5 (ws.flatMap Wo.cells)))/\aS h h'):=by
 refine wd fn28 rfl ?_;simp[f28];refine(aaq s _).mono fun out h1 hq=>?_;obtain⟨rfl,rfl⟩:=hq;simp;refine RO (g:=73) (ko:=[AV.P (h.next+3)]) sp rfl ?_;generalize hO:ej.loop .ready none _ _ _ _ _=O;refine(VI (h.next+5) h.next O ?tk (h.next+3) s ws _ ?lo ?gl ⟨?_,fun _=>rfl,sp⟩ ?_ ?_ ?_ ?_ ?_ ?_ ?_ ?_ hs hx).mono fun out h2 hq=>?_
 case gl=>simp
 case lo=>exact⟨_,_,_,_,_,hO.symm⟩
 case tk=>
  intro A cq w H gl BL hle hA hln hvn hfr;refine rh.mk (by rw[gl,<-hO]) ⟨rfl,sp⟩ ?_;have fr1:=hfr H.next (ao _);have fr2:=hfr (H.next+1) om;have gv:=BL.var;have nl:H.next≠h.next+5:=by omega
  have nv:H.next≠h.next:=by omega
  have Kq:H.next+1≠h.next+5:=by omega
  have Kr:H.next+1≠h.next:=by omega
  have Ks:H.next+2≠h.next+5:=by omega
  have Kt:H.next+2≠h.next:=by omega
  cases A with
  |none=>
   have e:=BL.none rfl;subst e;simp[rk]at gv;simp[Wo.cells,gl,<-hO,nl,nv,nl.symm,nv.symm,gv,roomy,Kq,Kr,Kq.symm,Kr.symm,Ks,Kt,Ks.symm,Kt.symm];simp[endRound,gl,<-hO,nl,nv,nl.symm,nv.symm,gv,Kq,Kr,Kq.symm,Kr.symm,Ks,Kt,Ks.symm,Kt.symm];refine⟨some (H.next+2),⟨?_,sp,?_⟩,.inr ⟨_,rfl,om⟩,?_⟩
   ·simp[rk,nl,nv,nl.symm,nv.symm,gv,Kq,Kr,Kq.symm,Kr.symm,Ks,Kt,Ks.symm,Kt.symm]<;>omega
   ·intro a e;injection e with e;subst e;simp[Wo.cells,nl,nv,nl.symm,nv.symm,gv,Kq,Kr,Kq.symm,Kr.symm,Ks,Kt,Ks.symm,Kt.symm]<;>omega
   ·exact kX
  |some a=>
   obtain⟨ga,la⟩:=BL.arr a rfl;obtain⟨al,av⟩:=hA a rfl;have an:a≠H.next:=om;have an1:a≠H.next+1:=om;have an2:a≠H.next+2:=om;simp[rk]at gv;have wl:=R1 cq;have wsc:=O5 cq;generalize hF:cq.flatMap Wo.cells=F at*;have r1:¬roomy<(cq.length+1)*48:=(by unfold roomy;omega);have r2:¬(cq.length+1)*5<=5*cq.length:=om;have r3:cq.length*5<=5*cq.length:=om;simp[Wo.cells,gl,<-hO,nl,nv,nl.symm,nv.symm,gv,ga,Kq,Kr,Kq.symm,Kr.symm,Ks,Kt,Ks.symm,Kt.symm,al,av,an,an1,an2,al.symm,av.symm,an.symm,an1.symm,an2.symm,wl,r1,r2,r3];simp[endRound,gl,<-hO,nl,nv,nl.symm,nv.symm,gv,ga,Kq,Kr,Kq.symm,Kr.symm,Ks,Kt,Ks.symm,Kt.symm,al,av,an,an1,an2,al.symm,av.symm,an.symm,an1.symm,an2.symm,wl,r1,r2,r3];have tk:F.take (cq.length*5)=F:=eX om;refine⟨some (H.next+2),⟨?_,sp,?_⟩,.inr ⟨_,rfl,om⟩,?_⟩
   ·simp[rk,nl,nv,nl.symm,nv.symm,gv,Kq,Kr,Kq.symm,Kr.symm,Ks,Kt,Ks.symm,Kt.symm]<;>omega
   ·intro b e;injection e with e;subst e;simp[Wo.cells,nl,nv,nl.symm,nv.symm,gv,Kq,Kr,Kq.symm,Kr.symm,Ks,Kt,Ks.symm,Kt.symm,tk,hF]<;>omega
   ·exact kX
 ·simp[rk]
 ·simp
 ·intro i hi;simp at hi;have Eb:=hf i om;have d0:i≠h.next:=by omega
  have d1:i≠h.next+1:=by omega
  have d2:i≠h.next+2:=by omega
  have d3:i≠h.next+3:=by omega
  have d4:i≠h.next+4:=by omega
  have d5:i≠h.next+5:=by omega
  simp[Eb,d0,d1,d2,d3,d4,d5]
 ·simp
 ·simp<;>omega
 ·simp<;>omega
 ·simp
 ·simp
 ·simp
 obtain⟨rfl,g2,A,BL,ha,k2⟩:=hq;have q1:=k2.old (h.next+1) sp sp;have q2:=k2.old (h.next+2) sp sp;have q4:=k2.old (h.next+4) sp sp;have n2:=k2.next;simp at q1 q2 q4 n2;have gv:=BL.var;have kk:aS h h2:=(aQ.trans' (X:=[]) kX k2 (by intro i hi cX;simp at hi;omega)).aJ;have ar:∀a,A=some a->h.next+6<=a/\a<h2.next/\h2.get a=some (.cells true 5 (ws.flatMap Wo.cells)):=fun a e=>by
  have h1:=ha a e;simp at h1;exact⟨om,(BL.arr a e).2,(BL.arr a e).1⟩
 have gn:=BL.none;clear BL ha;cases A with
 |none=>
  simp[rk]at gv;simp[uQ,g2,<-hO,gv,q1,q2,q4];refine⟨none,rfl,fun _=>gn rfl,sp,?_⟩;exact kT
 |some a=>
  simp[rk]at gv;simp[uQ,g2,<-hO,gv,q1,q2,q4];obtain⟨a1,a2,a3⟩:=ar a rfl;have d0:a≠h.next:=by omega
  have d1:a≠h.next+1:=by omega
  have d2:a≠h.next+2:=by omega
  have d4:a≠h.next+4:=by omega
  have d5:a≠h.next+5:=by omega
  refine⟨some a,rfl,sp,?_,?_⟩
  ·intro b e;injection e with e;subst e;simp[d0,d1,d2,d4,d5,a2,a3];omega
  ·exact kT
end
section
attribute [local simp] aI
theorem VJ(s:List UInt8)(ws:List Wo)(h:ah)(hs:s.length<=65536)(hf:cM h)(hx:jM 1 1 s ws):
 aV env 14 [.str s] h (fun out h'=>∃A,out= .ret (.iX [rk A ws.length,.agg [.I 0,.I 0],.I 0])/\(A=none->ws=[])/\(∀a,A=some a->h.next<=a/\a<h'.next/\h'.get a=some (.cells true 5 (ws.flatMap Wo.cells)))/\aS h h'):=by
 refine wb fn14 rfl ?_;have g1:¬(65536:Int)<s.length:=om
 simp[f14,g1];have hf2:cM (h.alloc (.C [.I 0,.I 0])).2:=((aS.refl h).alloc _).fresh hf;refine(aar s ws _ hs hf2 hx).mono fun out h2 hq=>?_;obtain⟨A,rfl,hn,ha,k⟩:=hq;have o1:=k.old h.next sp;have n1:=k.next;simp at o1 n1;have ne:h.next≠h2.next:=om
 simp[o1,ne,ne.symm];refine⟨A,rfl,hn,?_,?_⟩
 ·intro a e;obtain⟨a1,a2,a3⟩:=ha a e;simp at a1;have d1:a≠h.next:=by omega
  have d2:a≠h2.next:=by omega
  simp[a3,d1,d2];omega
 ·have kk:aS h h2:=((aS.refl h).alloc _).trans k;exact kT
theorem ad9(s:List UInt8)(h:ah)(hs:s.length<=65536):aV env 15 [.str s] h (fun out h'=>out= .ret (.agg [.I (dy 1 1 s).1,.I (dy 1 1 s).2])/\aS h h'):=by
 refine wb fn15 rfl ?_;simp[f15];refine(RT s 1 1 _ hs om om).mono fun out h2 hq=>?_;obtain⟨rfl,k⟩:=hq;have o1:=k.old h.next sp;have n1:=k.next;simp at o1 n1;simp[o1];have kk:aS h h2:=((aS.refl h).alloc _).trans k;exact kT
end
end Go.Proofs.YtgebeldoibkkpaaGreatDoor
