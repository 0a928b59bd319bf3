/- Proves CheckTurns: a program with its functions turned round is one just if it was. No condition. -/
import Derived.Shelf.Small.Utf8
import Derived.Shelf.Small.Wraps
import Derived.Shelf.Strconv.ErrVarAll
import Derived.Shelf.Strconv.ErrVarParseInt
import Derived.Shelf.Strings.BuilderCap
import Derived.Shelf.Strings.Repeat
import Derived.Shelf.Strings.Shaped
import Derived.Shelf.Unicode.DecodeSlow
import Derived.Shelf.Strings.SlTrimAscii
import Derived.Test.YtaekaifihehgdaaGreatDoorChecked
import Derived.Lib.ParseIntBTie
import Derived.Barred
import Derived.Test.YtaekaifihehgdaaGreatDoorTie
import Derived.Test.YtaekaifihehgdaaGreatDoorCards
import Derived.WalkKit
import Derived.ProofKit
import Derived.OpenShut
import Derived.LaidMore
import Derived.ChangeMaps5
import Derived.Lay
import Derived.SevenTiedAt
import Derived.ReadAgain
import Derived.Stop.LaidErr
import Derived.Shelf.Vars
import Derived.Test.YtaekaifihehgdaaGreatDoorS
set_option maxRecDepth 100000
set_option maxHeartbeats 0
set_option linter.unusedSectionVars false
set_option linter.unusedSimpArgs false
set_option linter.unusedVariables false
namespace Go.Proofs
open Go.Shelf
section
theorem lz{p:Prop}(h:p:=by repeat' (first|kernel_rfl|(intro;kernel_rfl)|constructor)):p:=h
def Tryz.Fx:Go.Shelf.Ren:=⟨λ|162=>166|232=>157|227=>158|234=>160|236=>162|228=>191|271=>194|151=>193|120=>216|197=>192|152=>215|260=>214|137=>107|119=>225|224=>180|225=>179|217=>141|266=>178|n=>n,λ|9=>9|4=>4|3=>3|5=>5|117=>261|116=>260|0=>0|124=>264|21=>21|105=>282|46=>115|119=>306|139=>309|138=>308|n=>n,λ|3=>4|4=>5|n=>n⟩
theorem Tryz.lays162:Go.Proofs.Lays.n162 Tryz.prog Tryz.Fx:=lz
open Go.RowKit in
theorem Tryz.p2(s:ByteArray)(c:UInt8)(hc:c.toNat<128)(w:World)(hs:s.size<=9223372036854775807):
 Calls Tryz.prog 166 #[.string s,.string ⟨#[c]⟩] w λe w'=>e= .returned (.string ⟨(Lib.trimRightB s.data.toList c).toArray⟩)/\w'=w:=Any.strings_TrimRight_one Tryz.lays162 s c hc w hs
def Tryz.Fy:Go.Shelf.Ren:=⟨λ|160=>126|232=>157|231=>156|227=>158|234=>160|233=>159|236=>162|235=>161|228=>191|271=>194|151=>193|197=>192|120=>216|152=>215|260=>214|137=>107|119=>225|224=>180|225=>179|217=>141|266=>178|n=>n,λ|9=>9|4=>4|3=>3|5=>5|117=>261|116=>260|0=>0|124=>264|21=>21|105=>282|46=>115|119=>306|139=>309|138=>308|n=>n,λ|3=>4|4=>5|n=>n⟩
theorem Tryz.lays160:Go.Proofs.Lays.n160 Tryz.prog Tryz.Fy:=lz
def Tryz.Fz:Go.Shelf.Ren:=⟨λ|137=>107|217=>141|266=>178|n=>n,λ|9=>9|5=>5|3=>3|n=>n,λ|n=>n⟩
theorem Tryz.lays137:Go.Proofs.Lays.n137 Tryz.prog Tryz.Fz:=lz
open Go.RowKit in
theorem Tryz.p4(s:ByteArray)(c:Int)(w:World):
 Calls Tryz.prog 107 #[.string s,.int .u8 c] w λe w'=>e= .returned (.int .i64 (Lib.indexByte s.data.toList c.toNat.toUInt8))/\w'=w:=Any.strings_IndexByte Tryz.lays137 s c w
def Tryz.FA:Go.Shelf.Ren:=⟨λ|103=>145|210=>183|206=>142|n=>n,λ|9=>9|4=>4|24=>244|3=>3|n=>n,λ|n=>n⟩
theorem Tryz.lays103:Go.Proofs.Lays.n103 Tryz.prog Tryz.FA:=lz
open Go.RowKit in
theorem Tryz.p6(s p:ByteArray)(w:World):
 Calls Tryz.prog 145 #[.string s,.string p] w λe w'=>e= .returned (.tuple #[.string ⟨(Lib.trimPrefix s.data.toList p.data.toList).toArray⟩,.bool (Lib.hasPrefix s.data.toList p.data.toList)])/\w'=w:=Any.strings_CutPrefix Tryz.lays103 s p w
def Tryz.FB:Go.Shelf.Ren:=⟨λ|104=>164|211=>196|207=>198|n=>n,λ|9=>9|4=>4|24=>244|3=>3|n=>n,λ|n=>n⟩
theorem Tryz.lays104:Go.Proofs.Lays.n104 Tryz.prog Tryz.FB:=lz
open Go.RowKit in
theorem Tryz.p5(s p:ByteArray)(w:World)(hs:s.size<=9223372036854775807):
 Calls Tryz.prog 164 #[.string s,.string p] w λe w'=>e= .returned (.tuple #[.string ⟨(Lib.trimSuffix s.data.toList p.data.toList).toArray⟩,.bool (Lib.hasSuffix s.data.toList p.data.toList)])/\w'=w:=Any.strings_CutSuffix Tryz.lays104 s p w hs
def Tryz.DW:Go.Shelf.Ren:=⟨λ|173=>148|246=>187|283=>209|284=>210|285=>211|286=>212|129=>221|317=>220|318=>222|319=>223|320=>224|337=>227|338=>228|n=>n,λ|2=>2|3=>3|9=>9|4=>4|171=>293|0=>0|53=>113|37=>153|5=>5|173=>296|212=>303|51=>251|20=>20|213=>304|46=>115|232=>315|233=>316|n=>n,λ|17=>3|18=>6|19=>7|n=>n⟩
theorem Tryz.laysM173:Go.Proofs.LaysM.n173 Tryz.prog Tryz.DW:=lz
open Go.RowKit Go.Sort Go.Lib in
theorem Tryz.p3(n:Int)(h0:-9223372036854775808<=n)(h1:n<=9223372036854775807)(w:World)(TZ:Lib.TabIs Tryz.prog w "internal/strconv.uint64pow10" .u64 Lib.pow10Tab):
 Calls Tryz.prog 148 #[.int .i64 n,.int .i64 10] w λe w'=>e= .returned (.string ⟨(Lib.itoa n).toArray⟩)/\∃k os,w'=grow (w.drewN k) os:=Any.strconv_FormatInt_10 Tryz.laysM173 n h0 h1 w TZ
def Tryz.DX:Go.Shelf.Ren:=⟨λ|172=>165|244=>197|245=>185|247=>186|279=>205|280=>206|281=>207|282=>208|287=>184|316=>217|171=>219|205=>218|321=>203|322=>204|243=>226|246=>187|283=>209|284=>210|285=>211|286=>212|129=>221|317=>220|318=>222|319=>223|320=>224|337=>227|338=>228|n=>n,λ|9=>9|3=>3|75=>218|76=>219|4=>4|5=>5|167=>287|37=>153|0=>0|85=>248|2=>2|168=>289|53=>113|175=>246|46=>115|210=>300|127=>256|145=>313|143=>311|21=>21|171=>293|173=>296|212=>303|51=>251|20=>20|213=>304|232=>315|233=>316|80=>86|n=>n,λ|15=>1|16=>2|17=>3|18=>6|19=>7|n=>n⟩
theorem Tryz.BB:Go.Proofs.LaysC.n172 Tryz.prog Tryz.DX:=lz
open Go.RowKit in
theorem Tryz.p8(s:ByteArray)(QO:s.size<=9223372036854775806)(v:Int)(h:Lib.atoiAll s.data.toList= .ok v)(w:World):
 Calls Tryz.prog 165 #[.string s] w λe w'=>e= .returned (.tuple #[.int .i64 v,.nilIface])/\(w'=w\/∃t,w'=Lib.bytesWorld w 5 t):=Any.strconv_Atoi_ok Tryz.BB s QO v h w
open Go.RowKit in
theorem Tryz.p7(s:ByteArray)(QP:s.size<=281474976710656)(h:Lib.atoiAll s.data.toList= .range)(ev:Value)(w:World)(hv:w.cell? ⟨2,0,none⟩=some ev)(T3:ev= .nilIface\/∃te pe,ev= .iface te pe):
 Calls Tryz.prog 165 #[.string s] w λe w'=>∃N,e= .returned (.tuple #[.int .i64 (Lib.atoiSat s.data.toList),.iface 289 (.pointer (some ⟨N,0,none⟩))])/\w.heap.size<=N/\w'.heap[N]?=some (.cells #[.string ⟨#[65,116,111,105]⟩,.string s,ev] 300 (0,0))/\Below w.heap.size w w':=Any.strconv_Atoi_range Tryz.BB s QP h ev w hv T3
def Tryz.DY:Go.Shelf.Ren:=⟨λ|174=>147|247=>186|245=>185|287=>184|279=>205|280=>206|281=>207|282=>208|321=>203|322=>204|316=>217|171=>219|205=>218|243=>226|246=>187|283=>209|284=>210|285=>211|286=>212|129=>221|317=>220|318=>222|319=>223|320=>224|337=>227|338=>228|n=>n,λ|9=>9|3=>3|2=>2|75=>218|85=>248|4=>4|167=>287|5=>5|53=>113|175=>246|46=>115|168=>289|37=>153|0=>0|210=>300|21=>21|127=>256|145=>313|143=>311|171=>293|173=>296|212=>303|51=>251|20=>20|213=>304|232=>315|233=>316|80=>86|n=>n,λ|15=>1|16=>2|17=>3|18=>6|19=>7|n=>n⟩
theorem Tryz.LB:Go.Proofs.LaysC.n174 Tryz.prog Tryz.DY:=lz
open Go.RowKit in
theorem Tryz.p1(s:ByteArray)(QO:s.size<=9223372036854775806)(v:Int)(h:Lib.parseIntB 64 s.data.toList= .ok v)(w:World):
 Calls Tryz.prog 147 #[.string s,.int .i64 10,.int .i64 64] w λe w'=>e= .returned (.tuple #[.int .i64 v,.nilIface])/\(w'=w\/∃t,w'=Lib.bytesWorld w 5 t):=Any.strconv_ParseInt_10_at64_ok Tryz.LB s QO v h w
def Tryz.FC:Go.Shelf.Ren:=⟨λ|143=>109|219=>143|217=>141|225=>179|224=>180|267=>181|266=>178|314=>202|n=>n,λ|9=>9|3=>3|4=>4|5=>5|46=>115|146=>252|51=>251|n=>n,λ|1=>0|n=>n⟩
theorem Tryz.lays143:Go.Proofs.Lays.n143 Tryz.prog Tryz.FC:=lz
open Go.RowKit Go.Lib in
theorem Tryz.strings_Index(s sub:ByteArray)(m:Int)(w:World)(hs:s.size<4294967281)(hm:w.cell? ⟨0,0,none⟩=some (.int .i64 m)):
 Calls Tryz.prog 109 #[.string s,.string sub] w λe w'=>e= .returned (.int .i64 (Lib.index s.data.toList sub.data.toList))/\w'=w:=Any.strings_Index Tryz.lays143 s sub m w hs hm
def Tryz.Ag:Go.Shelf.Ren:=⟨λ|105=>90|212=>117|99=>108|165=>118|166=>119|170=>120|169=>121|263=>149|264=>150|206=>142|240=>151|241=>152|276=>188|277=>189|n=>n,λ|9=>9|3=>3|4=>4|20=>20|0=>0|46=>115|109=>212|5=>5|72=>216|76=>219|51=>251|146=>252|53=>113|148=>254|70=>214|37=>153|75=>218|127=>256|164=>278|80=>86|n=>n,λ|n=>n⟩
theorem Tryz.lays105:Go.Proofs.Lays.n105 Tryz.prog Tryz.Ag:=lz
theorem Tryz.yq:Builder.Extra Tryz.prog Tryz.Ag:=by repeat' (first|kernel_rfl|(intro;kernel_rfl)|decide|constructor)
open Go.RowKit Go.Lib in
theorem Tryz.strings_Repeat(s:ByteArray)(c:Nat)(w:World)(hc:c<=9223372036854775807)(hlen:s.size*c<=140737488355328):
 Calls Tryz.prog 90 #[.string s,.int .i64 c] w λe w'=>e= .returned (.string ⟨(Lib.repeatL s.data.toList c).toArray⟩)/\Below w.heap.size w w':=Any.strings_Repeat Tryz.lays105 Tryz.yq s c w hc hlen
open Go.RowKit Go.Lib in
theorem Tryz.DZ(s cs:ByteArray)(w:World)(hs:s.size<=9223372036854775807)(UY:cs.size<4294967281)(ha:∀(j:Nat)(b:UInt8),cs.data.toList[j]?=some b->b.toNat<128):
 Calls Tryz.prog 126 #[.string s,.string cs] w λe w'=>e= .returned (.string ⟨(Lib.trimS s.data.toList cs.data.toList).toArray⟩)/\Below w.heap.size w w':=
 Any.strings_Trim_laid Tryz.lays160 (by kernel_rfl) s cs w hs UY ha
open Go.RowKit Go.Lib in
theorem Tryz.yr(s:ByteArray)(QP:s.size<=281474976710656)(h:Am.Ld (Lib.atoiAll s.data.toList)=true)(ev:Value)(w:World)(hv:w.cell? ⟨1,0,none⟩=some ev)(T3:ev= .nilIface\/∃te pe,ev= .iface te pe):
 Calls Tryz.prog 165 #[.string s] w λe w'=>∃N,e= .returned (.tuple #[.int .i64 (0),.iface 289 (.pointer (some ⟨N,0,none⟩))])/\w.heap.size<=N/\w'.heap[N]?=some (.cells #[.string ⟨#[65,116,111,105]⟩,.string s,ev] 300 (0,0))/\Below w.heap.size w w':=by
 cases hx:Lib.atoiAll s.data.toList with
 |ok v=>rw[hx]at h;cases h
 |range=>rw[hx]at h;cases h
 |_=>exact Any.strconv_Atoi_syntax Tryz.BB s QP hx ev w hv T3
end
end Go.Proofs
namespace Go.Proofs.YtaekaifihehgdaaGreatDoor
open Go.Am
noncomputable def S4:Env:=vD Tryz.prog ext (vE SJ)
theorem JZ:isTrue ((iR S4 400).call 4 [] vF)=true:=by decide+kernel
section
theorem Hv:∀k f,ext k=some f->Ir Tryz.prog k f:=by
 intro k f h;have:=zj h;simp only[ak,bm,cT,dz]at this;obtain⟨rfl,rfl⟩:=this;exact vb Tryz.func178 kr kr kr kr
theorem OH:S4.Ok:=Br _ _ _ kr Hv
theorem zE:env.Ok:=Br _ _ _ kr Hv
abbrev U2(w:World):Prop:=Lib.TabIs Tryz.prog w "internal/strconv.uint64pow10" .u64 Lib.pow10Tab
theorem L4(s:bu):[42,47].isPrefixOf s=Hm s:=by
 unfold Hm;split
 ·simp[List.isPrefixOf]
 ·rename_i f;cases s with
  |nil=>rfl
  |cons a r=>
   cases r with
   |nil=>simp[List.isPrefixOf]
   |cons b r=>
    by_cases h:a=42
    ·by_cases g:b=47
     ·subst h g;exact absurd rfl (f r)
     ·have:¬47=b:=λe=>g e.symm;simp[List.isPrefixOf,this]
    ·have:¬42=a:=λe=>h e.symm;simp[List.isPrefixOf,this]
theorem F9:∀s:bu,Lib.index s [42,47]=js s
 |[]=>rfl
 |c::s=>by
  have a:=F9 s;have:=zm s;simp only[Lib.index,js,L4,a];split
  ·rfl
  ·by_cases e:js s= -1
   ·simp[e]
   ·have e2:(js s== -1)=false:=(U7 e);have e3:¬js s<0:=om;simp[e2,e3]
theorem L5(s:bu):∀n:Nat,Lib.repeatL s n=(List.replicate n s).flatten
 |0=>rfl
 |n+1=>by rw[Lib.repeatL,L5 s n,List.replicate_succ];rfl
section
variable[gJ]
theorem Rk{ι:cq}{a:bu}{n:Int}{bO:Array Value}(h:bp ι [.str a,.int .i64 n] bO.toList):bO= #[.string ⟨a.toArray⟩,.int .i64 n]:=by
 obtain⟨y,g,e1,e,hr⟩:=h.inv;obtain⟨z,i,e2,f,b⟩:=hr.inv;have:=b.rU;subst this;cases e;cases f;apply iJ;simpa[e2]using e1
theorem OI{ι:cq}{a:bu}{n m:Int}{bO:Array Value}(h:bp ι [.str a,.int .i64 n,.int .i64 m] bO.toList):bO= #[.string ⟨a.toArray⟩,.int .i64 n,.int .i64 m]:=by
 obtain⟨y,j,e1,f,hr⟩:=h.inv;obtain⟨z,o,e2,g,b⟩:=hr.inv;obtain⟨u,us,e3,i,e⟩:=b.inv;have:=e.rU;subst this;cases f;cases g;cases i;apply iJ;simpa[e2,e3]using e1
theorem Rl{P:Program}{k:FuncId}{m:Int}(g:∀(s sub:ByteArray)(m:Int)(w:World),s.size<4294967281->w.cell? ⟨0,0,none⟩=some (.int .i64 m)->Calls P k #[.string s,.string sub] w λe w'=>e= .returned (.int .i64 (Lib.index s.data.toList sub.data.toList))/\w'=w)(hm:gJ.w.cell? ⟨0,0,none⟩=some (.int .i64 m))
 {args:eu} {h:ah} {out:Out} {h':ah} {ι:cq} {w:World} {bO:Array Value} (b:dP R5 args h=some (out,h')) (f:dt ι h w) (i:bp ι args bO.toList):CallsIn Fence.wide 0 P k bO w λe w'=>∃cW,Ext ι h w cW h' w'/\j5 cW out e:=by
 unfold dP at b;split at b
 ·rename_i v a;simp only[bj,dz]at b;obtain⟨rfl,rfl⟩:=b;unfold R5 at a;split at a
  ·rename_i s;split at a
   ·rename_i p;injection a with a;subst a;rw[Go.Am.Ac i];refine j3 f ((g _ _ m w (by simp[ByteArray.size];omega) (kS hm f)).mono λe w' ⟨j,o⟩=>⟨?_,o▸lW.refl w⟩);subst j;simp only[F9];exact bG.int _ _
   ·cases a
  ·cases a
 ·cases b
theorem OJ{P:Program}{k:FuncId}(f:∀(s:ByteArray)(c:Nat)(w:World),c<=9223372036854775807->s.size*c<=140737488355328->Calls P k #[.string s,.int .i64 c] w λe w'=>e= .returned (.string ⟨(Lib.repeatL s.data.toList c).toArray⟩)/\RowKit.Below w.heap.size w w')
 {ι:cq} {args:eu} {v:AV} {bO:Array Value} (w:World) (a:D1 args=some v) (g:bp ι args bO.toList):Calls P k bO w λe w'=>(∃y,e= .returned y/\bG ι v y)/\lW w w':=by
 unfold D1 at a;split at a
 ·rename_i s n;split at a
  ·rename_i b;obtain⟨h0,p,h⟩:=b;injection a with a;subst a;rw[Rk g];obtain⟨m,rfl⟩:=Int.eq_ofNat_of_zero_le h0;have hm:m<=100000:=om;have i:s.length*m<=1000*100000:=sY h hm;refine(f ⟨s.toArray⟩ m w om (by simp only[ByteArray.size,List.size_toArray];omega)).mono λe w' ⟨j,o⟩=>⟨⟨_,j,?_⟩,lW.Fp o⟩
   simp only[L5,Int.toNat_natCast];exact bG.str _
  ·cases a
 ·cases a
theorem J0{P:Program}{k:FuncId}{f:TypeId}(g:∀(s:ByteArray),s.size<=9223372036854775806->∀(v:Int),Lib.parseIntB 64 s.data.toList= .ok v->∀w:World,Calls P k #[.string s,.int .i64 10,.int .i64 64] w λe w'=>e= .returned (.tuple #[.int .i64 v,.nilIface])/\(w'=w\/∃t,w'=Lib.bytesWorld w f t))
 {args:eu} {h:ah} {out:Out} {h':ah} {ι:cq} {w:World} {bO:Array Value} (a:zo args h=some (out,h')) (i:dt ι h w) (j:bp ι args bO.toList):CallsIn Fence.wide 0 P k bO w λe w'=>∃cW,Ext ι h w cW h' w'/\j5 cW out e:=by
 unfold zo at a;split at a
 ·rename_i s;split at a
  ·rename_i p;split at a
   ·rename_i v b;simp only[bj,dz]at a;obtain⟨rfl,rfl⟩:=a;rw[OI j];refine j3 i ((g ⟨s.toArray⟩ (by simp[ByteArray.size];omega) v (by rw[Lib.parseIntB_64];simpa using b) w).mono λe w' ⟨m,o⟩=>⟨?_,?_⟩)
    ·subst m;exact bG.Dx (bp.cons (.int _ _) (bp.cons .nilIface (bp.nil _)))
    ·rcases o with rfl|⟨t,rfl⟩
     ·exact lW.refl _
     ·exact uP _ _ _
   ·cases a
  ·cases a
 ·cases a
end
structure Cp(W:World):Prop where
 e1:∃ev,W.cell? ⟨1,0,none⟩=some ev/\(ev= .nilIface\/∃te pe,ev= .iface te pe)
 e2:∃ev,W.cell? ⟨2,0,none⟩=some ev/\(ev= .nilIface\/∃te pe,ev= .iface te pe)
 Cm:U2 W
 mx:∃m,W.cell? ⟨0,0,none⟩=some (.int .i64 m)
theorem L6(W:World)(j:Cp W){k f}(t:vE SJ k=some f){args h out h'}{ι:cq}{w bO}(a:f args h=some (out,h'))(g:@dt ⟨W⟩ ι h w)(b:bp ι args bO.toList):CallsIn Fence.wide 0 Tryz.prog k bO w λe w'=>∃cW,@Ext ⟨W⟩ ι h w cW h' w'/\j5 cW out e:=by
 letI:gJ:=⟨W⟩
 obtain⟨m,hm⟩:=j.mx;have:=zj t;simp only[SJ,ak,bm,cT,dz]at this;rcases this with⟨rfl,rfl⟩|⟨rfl,rfl⟩|⟨rfl,rfl⟩|⟨rfl,rfl⟩|⟨rfl,rfl⟩|⟨rfl,rfl⟩|⟨rfl,rfl⟩|⟨rfl,rfl⟩|⟨rfl,rfl⟩|⟨rfl,rfl⟩
 ·exact oK (λw a b=>Qw Tryz.p4 w a b) a g b
 ·exact oK (λw a b=>Lb Tryz.p6 w a b) a g b
 ·exact oK (λw a b=>La Tryz.DZ w a b) a g b
 ·exact Rl Tryz.strings_Index hm a g b
 ·exact J0 (λs i v h w=>Tryz.p1 s i v h w) a g b
 ·exact oK (λw a b=>Lc (λs p w i=>Tryz.p5 s p w i) w a b) a g b
 ·exact oK (λw a b=>JD Tryz.p2 w a b) a g b
 ·exact Ft (λs i v h w=>Tryz.p8 s i v h w) (λs i h ev w o he=>Tryz.yr s i h ev w o he) (λs i h ev w o he=>Tryz.p7 s i h ev w o he) j.e1 j.e2 a g b
 ·exact Hi j.Cm Tryz.p3 a g b
 ·exact oK (λw a b=>OJ (λs c w u y=>Tryz.strings_Repeat s c w u y) w a b) a g b
theorem qO(W:World)(g:Cp W):@ug ⟨W⟩ env:=by
 letI:gJ:=⟨W⟩
 intro k f m args h out h' ι w bO i b j;have V:Cp w:=⟨g.e1.imp λ_ p=>⟨kS p.1 b,p.2⟩,g.e2.imp λ_ p=>⟨kS p.1 b,p.2⟩,xE g.Cm b,g.mx.imp λ_ p=>kS p b⟩
 have a:(bif Nat.beq k 4 then some rB else vE SJ k)=some f:=m;cases e:Nat.beq k 4 with
 |true=>
  rw[e]at a;injection a with a;subst a;have:=uc e;subst this;exact Fo (Fi OH JZ w (by intro k f m _ _ _ _ _ _ _ i b j;exact L6 w V m i b j)) i b j
 |false=>
  rw[e]at a;exact L6 W g a i b j
end
section
theorem Ie{P:Program}{f:FuncId}{args:Array Value}{w:World}{R R':Ending->World->Prop}(h:Calls P f args w R)(h':Calls P f args w R')(hr:∀e w',R e w'->∃v,e= .returned v)(g:∀e w',R' e w'->∃v,e= .returned v)(hi:P.inits.idxOf? f=none):∃v w',R (.returned v) w'/\R' (.returned v) w':=by
 have go:∀{R:Ending->World->Prop},Calls P f args w R->(∀e w',R e w'->∃v,e= .returned v)->∃n v w',runN P n (lone (Frame.enter P f args .normal) [] w)= .ended (.done v) w'/\R (.returned v) w':=λ{R} h hr=>
  Calls.done (R:=λv w'=>R (.returned v) w') (h.mono λe w' q=>by obtain⟨v,rfl⟩:=hr e w' q;exact q) hi
 obtain⟨n,v,p,e1,i⟩:=go h hr;obtain⟨m,t,u,e2,j⟩:=go h' g;have a:=runN_ended e1 m;have b:=runN_ended e2 n;rw[Nat.add_comm,a]at b;injection b with ho hw;injection ho with o;subst o hw;exact⟨_,_,i,j⟩
theorem Jq{ι:cq}{v:AV}{e:Ending}(h:j5 ι (.ret v) e):∃y,e= .returned y/\bG ι v y:=by
 cases e with
 |returned y=>exact⟨y,rfl,h⟩
 |_=>exact h.elim
section
variable[gJ]
theorem A6{E:Env}(f:E.Ok)(g:ug E){k:FuncId}{args:eu}{h:ah}{out:Out}{h':ah}{ι:cq}{w:World}{bO:Array Value}(a:uZ E k args h=some (out,h'))(i:dt ι h w)(j:bp ι args bO.toList):
 CallsIn Fence.wide 0 E.P k bO w λe w'=>∃cW,Ext ι h w cW h' w'/\j5 cW out e:=by
 unfold uZ at a;split at a
 ·rename_i m;injection a with a;obtain⟨n,b⟩:=m.choose_spec;rw[a]at b;exact callsIn_wide.2 (tL f g b i j)
 ·cases a
theorem Qj{ι:cq}{h:ah}{w:World}{g:Nat}{rw:Bool}{es:Nat}{cs:eu}{n:Int}{y:Value}(rel:dt ι h w)(j:bG ι (.ptr (some (g,0))) y)(m:h.get g=some (.cells rw es cs))(p:cs[5]?=some (.int .i64 n)):∃b a c e i,y= .pointer (some ⟨b,a,none⟩)/\w.heap[b]?=some (.cells c e i)/\c[a+5]?=some (.int .i64 n):=by
 cases j with
 |@ptr _ _ L t=>
  obtain⟨o,f,u⟩:=rel.obj g L t;rw[m]at f;injection f with f;subst f;obtain⟨_,_,_,c,e,i,v,_,A⟩:=u;obtain⟨y,B,hr⟩:=A 5 _ p;cases hr;exact⟨L.b,L.base+0,c,e,i,rfl,v,B⟩
end
theorem Cp.at{W w:World}{ι:cq}{h:ah}(a:Cp W)(b:@dt ⟨W⟩ ι h w):Cp w:=by
 letI:gJ:=⟨W⟩
 exact⟨a.e1.imp λ_ p=>⟨kS p.1 b,p.2⟩,a.e2.imp λ_ p=>⟨kS p.1 b,p.2⟩,xE a.Cm b,a.mx.imp λ_ p=>kS p b⟩
theorem R0(W:World)(Z:Cp W){args:eu}{h:ah}{out:Out}{h':ah}{ι:cq}{w:World}{bO:Array Value}(f:Sb args h=some (out,h'))(D:@dt ⟨W⟩ ι h w)(F:bp ι args bO.toList):
 CallsIn Fence.wide 0 Tryz.prog 6 bO w λe w'=>∃cW,@Ext ⟨W⟩ ι h w cW h' w'/\j5 cW out e:=by
 have V:=Z.at D
 letI:gJ:=⟨W⟩
 have hp:@ug ⟨W⟩ env:=qO W Z;unfold Sb at f;split at f
 ·rename_i s;split at f
  ·rename_i j;injection f with f;by_cases C:∃r,uZ env 6 [.str s] h=some r/\Gd s h r
   ·rw[dif_pos C]at f;obtain⟨e1,_⟩:=C.choose_spec;rw[f]at e1;exact A6 zE hp e1 D F
   ·exfalso;obtain⟨n1,o1,h1,I,pv,l,c,bad,rfl,K,ok⟩:=Ga j.1 j.2.2 j.2.1;obtain⟨n0,o0,h0,r0,A3,l0,c0,A1,rfl,K0,J⟩:=Ga j.1 (h:=vF) (λi _=>rfl) j.2.1;have C1:=tL zE hp I D F;have ea:=Go.Am.CI F;have C0:=@tL ⟨w⟩ env zE (qO w V) _ _ _ _ _ _ _ _ bO r0 (@xD ⟨w⟩) (by rw[ea];exact bp.cons (.str _) (bp.nil _));obtain⟨v,w',⟨A4,x1,y1⟩,⟨A5,x0,y0⟩⟩:=Ie C1 C0 (λe w' ⟨_,_,q⟩=>(Jq q).imp λ_ p=>p.1) (λe w' ⟨_,_,q⟩=>(Jq q).imp λ_ p=>p.1) kr;obtain⟨cs,rfl,z1⟩:=bG.AG y1;obtain⟨Au,e',z0⟩:=bG.AG y0;cases e';obtain⟨a,a1,a2⟩:=z1.get (i:=2) rfl;obtain⟨a',m,N⟩:=z0.get (i:=2) rfl;rw[a1]at m;cases m;cases a2;cases N;by_cases O:bad=0
    ·subst O;obtain⟨g,ws,cD,dp,l1,l2,l4,nd,x,pl,rfl,gg,hl,hi⟩:=ok rfl;obtain⟨g0,PY,A2,P,l10,C2,C3,C4,C5,Q,rfl,t,R,S⟩:=J rfl;obtain⟨p,p1,p2⟩:=z1.get (i:=0) rfl;obtain⟨p',u,U⟩:=z0.get (i:=0) rfl;rw[p1]at u;cases u;obtain⟨b,a,cc,e,fz,q1,q2,q3⟩:=Qj x1.rel p2 gg rfl;obtain⟨b',a',C6,e',C7,y,A,B⟩:=@Qj ⟨w⟩ _ _ _ _ _ _ _ _ _ (@Ext.rel ⟨w⟩ _ _ _ _ _ _ x0) U t rfl;rw[q1]at y;cases y;rw[q2]at A;cases A;rw[q3]at B;simp at B;have e:dp=P:=om;subst e;exact C ⟨_,yW I,.inl ⟨dp,⟨_,_,yW r0,_,_,_,_,_,_,_,_,_,_,rfl,K0,Q,t,R,S⟩,_,_,_,_,_,_,_,_,_,_,rfl,K,pl,gg,hl,hi⟩⟩
    ·refine C ⟨_,yW I,.inr ⟨λ⟨d,o,hh,e,q⟩=>?_,_,_,_,_,rfl,O,K⟩⟩;obtain⟨_,_,_,_,_,_,_,_,_,_,rfl,_⟩:=q;rw[yW r0]at e;simp at e;exact O e.1.2.2
  ·cases f
 ·cases f
theorem Pk:qD.Ok:=Br _ _ _ kr Hv
theorem Ig(W:World)(a:Cp W):@ug ⟨W⟩ qD:=by
 letI:gJ:=⟨W⟩
 intro k f i args h out h' ι w bO b e g;have:=zj (show vE _ k=some f from i);simp only[ak,bm,cT,dz]at this;rcases this with⟨rfl,rfl⟩|⟨rfl,rfl⟩|⟨rfl,rfl⟩|⟨rfl,rfl⟩|⟨rfl,rfl⟩
 ·exact qO W a (k:=4) (f:=rB) (by unfold env;rfl) b e g
 ·exact A6 zE (qO W a) b e g
 ·exact R0 W a b e g
 ·exact A6 zE (qO W a) b e g
 ·exact A6 zE (qO W a) b e g
end
end Go.Proofs.YtaekaifihehgdaaGreatDoor
namespace Go.Proofs.YtaekaifihehgdaaGreatDoor
section
namespace Ih
open Go.ChangeShapes Go.WideShapes Go.ChangeAt Go.RowKit Go.ChangeMaps
theorem B8{P:Program}{n nm:String}{d:DataW Unit}{r:List (String×DataW Unit)}{W:World}{g:Nat}{m:TypeId}{ms:Array (String×TypeId)}
 (h:laidMet P ((n,.iface nm d)::r) W) (o:P.globalNamed n=some g) (ht:(P.globals[g]?).map (·.type)=some m) (hi:P.underlying m=some (.interface ms)):∃u v,W.cell? ⟨g,0,Option.none⟩=some (.iface u v):=by
 obtain⟨ps,⟨g0,t0,b,f0,p,t,a,e,f,i,_,w⟩,_,j⟩:=h;obtain rfl:=Option.some.inj (o.symm.trans a);obtain rfl:=Option.some.inj (ht.symm.trans e);obtain⟨l0⟩:=b;obtain⟨f1,u,v,he,_,_⟩:=iface_of_trod hi i;have he:l0=[.iface u v]:=he;subst he;exact⟨u,v,World.var?_cell a f 0⟩
theorem g1:Tryz.prog.globalNamed "strconv.ErrRange" =some 2:=by kernel_rfl
theorem g2:Tryz.prog.globalNamed "strconv.ErrSyntax" =some 1:=by kernel_rfl
theorem t1:(Tryz.prog.globals[2]?).map (·.type)=some 218:=by kernel_rfl
theorem t2:(Tryz.prog.globals[1]?).map (·.type)=some 218:=by kernel_rfl
theorem Pn{W:World}(a:laidMetH Tryz.prog Rows.checkTurnsRow.laid W)(f:W.ShapedOpen Tryz.prog):Cp W:=by
 rw[MakeChecks.laidMetH_plain _ _ _ (by kernel_rfl)]at a;have b:=a.tail.tail.tail.tail;obtain⟨u,v,h⟩:=B8 b g1 t1 Tryz.underlying218;obtain⟨i,j,m⟩:=B8 b.tail g2 t2 Tryz.underlying218;exact⟨⟨_,m,.inr ⟨i,j,rfl⟩⟩,⟨_,h,.inr ⟨u,v,rfl⟩⟩,Lib.tabIs_of_head (by kernel_rfl) (by kernel_rfl) (g:=3) (t:=303) (e:=113) Tryz.underlying303 Tryz.underlying113 (by kernel_rfl) (by kernel_rfl) a.tail.tail,
  Go.Proofs.cell_of_shapedOpen_int (zero:= #[.int .i64 0]) (t:=3) f (of_decide_eq_true (by kernel_rfl)) (by kernel_rfl) rfl (by kernel_rfl) (by kernel_rfl) Tryz.underlying3⟩
theorem walk{W:World}(b:Cp W)(s:ByteArray):Calls Tryz.prog 3 #[.string s] W λe a=>e= .returned (.bool true)/\Am.lW W a:=by
 letI:Am.gJ:=⟨W⟩
 have hw:=Pj s.data.toList Am.vF (λi _=>rfl);have f:Am.bp Am.xp [.str s.data.toList] (#[Value.string s]:Array Value).toList:=Am.bp.cons (by simpa using Am.bG.str (ι:=Am.xp) s.data.toList) (Am.bp.nil _);refine(Am.ba.calls (bO:= #[.string s]) Pk (Ig W b) hw Am.xD f).mono λe a ⟨out,h',cW,ho,g,hr⟩=>?_;subst ho;refine⟨?_,g.Sk⟩;cases e with
 |returned y=>
  have hr:Am.bG cW (.bool true) y:=hr;cases hr;rfl
 |_=>exact hr.elim
theorem own:ownKnob Tryz.prog.godebug=Option.none:=by kernel_rfl
set_option maxRecDepth 100000 in
theorem lifted(os:Os)(started:os.Started)(H:Type)(enc:TypeId×Value->H):
 ReturnsInHanded {} Tryz.checked os 3 .any (λw args=>(Rows.checkTurnsSpec.pre enc Tryz.prog Tryz.f3 Rows.checkTurnsRow.domain false w args/\laidMetH Tryz.prog Rows.checkTurnsRow.laid w)/\sizedMet enc Tryz.prog Tryz.f3 (OpenSpec.ofChange Rows.checkTurnsSpec) false w args)
  (Rows.checkTurnsSpec.post enc Tryz.prog Tryz.f3 false true false false):=by
 refine returnsInHanded_of_calls (C:=Tryz.checked) own started (by kernel_rfl)
  (ChangeSpec.witness_shaped (enc:=enc) (C:=Tryz.checked) (os:=os) (X:=λw _=>laidMetH Tryz.prog Rows.checkTurnsRow.laid w) false (World.laidAll Tryz.prog os Rows.checkTurnsRow.laid) #[.string ⟨#[]⟩] 8 (World.laidAll_os _ _ _)
   (World.shaped_of_ZipB (by kernel_rfl) (by kernel_rfl)) (by kernel_rfl) (by kernel_rfl) (by kernel_rfl)
   (by rw[MakeChecks.laidMetH_plain _ _ _ (by kernel_rfl)];exact laidMet_laidAll _ (by kernel_rfl) (by kernel_rfl))) ?_
 intro w tape i _ t _ u g _;obtain⟨_,_,_,v,j,_,_,_,_,m⟩:=u;obtain rfl:v=Tryz.f3:=Option.some.inj (j.symm.trans Tryz.func3);obtain⟨⟨⟨ds,gs,before,hw,P⟩,I⟩,Q⟩:=g;have D:=DataW.Whole.of_heap (w':=w.forCall tape i) (by rfl) hw;have J:laidMetH Tryz.prog Rows.checkTurnsRow.laid (w.forCall tape i):=I.of_heap (by rfl);have y:=Pn J t;generalize w.forCall tape i=W at*;have b:=D;obtain⟨p,q,A,K,rfl,_,_⟩:=D;have F:DataW.TrodAll enc Tryz.prog W 0 (λ_=>true) true Tryz.f3.params.toList i.args.toList ds p:=A;rw[Tryz.params3]at F;obtain⟨v0,d0,a,rfl,h0⟩:=trodAll_one F;obtain⟨rfl,rfl⟩:=trodVars_none K;have B:i.args[0]?=some v0:=by
  rw[<-Array.getElem?_toList,a];rfl
 obtain⟨s,rfl,rfl,rfl,N⟩:=open_string Tryz.underlying9 (m 0 9 _ (by rw[Tryz.params3];rfl) B) h0;have o:i.args= #[.string s]:=by simpa using a
 rw[o];refine(walk y s).mono λe R ⟨he,O⟩=>?_;subst he;simp only[List.append_nil]at b;rw[o]at b;exact ChangeSpec.post_blind ⟨_,_,_,[],_,[],b,trodAll_mk1 (shut_bool Tryz.underlying4 _),trodAll_mk1 (shut_string Tryz.underlying9 N),rfl,O.kept _,λh=>by cases h⟩
theorem over:Rows.checkTurnsRow.holds Tryz.pinned (OpenSpec.ofChange Rows.checkTurnsSpec):=
 OpenClaim.holds_of_wide 3 Tryz.f3 rfl rfl rfl rfl rfl rfl rfl ⟨rfl,rfl,rfl,rfl,rfl⟩ rfl rfl rfl rfl rfl (by kernel_rfl) Tryz.func3 (by kernel_rfl)
  (of_decide_eq_true (by kernel_rfl)) (by unfold Func.isWrapper;first|(rw[if_pos (by decide+kernel)];kernel_rfl)|(rw[if_neg (by decide+kernel)];exact⟨rfl,rfl⟩))
  (λos started H enc _=>lifted os started H enc)
end Ih
theorem checkTurns_card:Rows.CheckTurnsCardSaid:=
 Claim7.holds_tied_plain_at .later [] [.data,.data,.data,.data,.sentinel,.sentinel,.pinned] true Rows.checkTurnsCard.stood.harness true
  Go.Proofs.YtaekaifihehgdaaGreatDoor.Ih.over (λ_ h=>by cases h) (by kernel_rfl) (λ_ h=>by cases h) checkTurns_row_tie rfl ⟨rfl,rfl⟩ (by kernel_rfl) rfl
  (λf fn e b=>by
   obtain rfl:f=3:=Option.some.inj ((show Tryz.prog.funcNamed "plumbob/plumboblaw7.CheckTurns" =some 3 by kernel_rfl).symm.trans e)|>.symm;obtain rfl:fn=Tryz.f3:=(Option.some.inj (Tryz.func3.symm.trans b)).symm;exact⟨by kernel_rfl,λj t ht=>by
    rw[Tryz.params3]at ht;have hm:t∈[9]:=(by simpa using Array.mem_of_getElem? ht);have a:([9].all λu=>!Tryz.prog.wantsStandIn u)=true:=(by kernel_rfl);exact(show Tryz.prog.wantsStandIn t=false by simpa using List.all_eq_true.1 a t hm)⟩)
  (by kernel_rfl)
#print axioms checkTurns_card
end
end Go.Proofs.YtaekaifihehgdaaGreatDoor
