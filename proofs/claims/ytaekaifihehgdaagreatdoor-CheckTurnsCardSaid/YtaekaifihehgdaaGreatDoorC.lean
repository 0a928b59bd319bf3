/- Lemmas for CheckTurns; each states its own conditions. -/
import Derived.Lib.LaidTab
import Derived.Shelf.Strconv.Itoa4
import Derived.Lib.SlTrimSet
import Derived.Lib.AtoiAll
import Derived.Lib.ConvBytes
import Derived.Shelf.Strings.Trim
import Derived.Below
import Derived.KernelRfl
import Derived.Test.YtaekaifihehgdaaGreatDoorB
set_option maxRecDepth 100000
set_option maxHeartbeats 0
set_option linter.unusedSectionVars false
set_option linter.unusedSimpArgs false
set_option linter.unusedVariables false
namespace Go.Am
section
variable{E:Env}
def ba(E:Env)(k:FuncId)(args:List AV)(h:ah)(Q:Out->ah->Prop):Prop:=∃n out h',(iR E n).call k args h=some (out,h')/\Q out h'
def pM(E:Env)(l:Nat)(args:List AV)(h:ah)(Q:AV->ah->Prop):Prop:=∃n v h',(iR E n).round l args h=some (v,h')/\Q v h'
theorem ba.mono{k:FuncId}{args:eu}{h:ah}{Q Q':Out->ah->Prop}(hw:ba E k args h Q)(a:∀out h',Q out h'->Q' out h'):ba E k args h Q':=by
 obtain⟨n,out,h',b,e⟩:=hw;exact⟨n,out,h',b,a _ _ e⟩
theorem ba.m1{k:FuncId}{args:List AV}{h:ah}{Q:Out->ah->Prop}{v:Out}{P:ah->Prop}(hw:ba E k args h λout h'=>out=v/\P h')(a:∀h',P h'->Q v h'):ba E k args h Q:=hw.mono λ_ h' q=>q.1▸a h' q.2
def TN(d:Option Tmp)(st:St)(K:Option AV->St->Prop)(out:Out)(h':ah):Prop:=
 match out with
 | .ret v=>K none {st with rg:=fO st.rg d v,h:=h'}
 | .jz v=>K (some v) {st with h:=h'}
def CH(E:Env)(d:Option Tmp)(st:St)(K:Option AV->St->Prop):iB×ah->Prop
 |(.val v,h)=>K none {st with rg:=fO st.rg d v,h:=h}
 |(.skip,h)=>K none {st with rg:=fO st.rg d rp,h:=h}
 |(.enter f args,h)=>ba E f args h (TN d st K)
 |(.yield l args,h)=>pM E l args h λv h'=>K none {st with rg:=fO st.rg d v,h:=h'}
 |(.defer f args,h)=>st.bX=false/\K none {st with rg:=fO st.rg d rp,h:=h,ds:= .call f args::st.ds}
 |(.recover,_)=>False
 |(.panic v,h)=>K (some v) {st with h:=h}
theorem Ab{d:Option Tmp}{st:St}{K:Option AV->St->Prop}{x:iB×ah}(h:CH E d st K x):∃n p cd,qw (iR E n).call (iR E n).round d st x=some (p,cd)/\K p cd:=by
 obtain⟨o,e⟩:=x;cases o with
 |val v=>exact⟨0,none,_,rfl,h⟩
 |skip=>exact⟨0,none,_,rfl,h⟩
 |enter f args=>
  obtain⟨n,out,h',a,b⟩:=h;cases out with
  |ret v=>exact⟨n,none,_,by simp only[qw,a],b⟩
  |jz v=>exact⟨n,some v,_,by simp only[qw,a],b⟩
 |yield l args=>
  obtain⟨n,v,h',a,b⟩:=h;exact⟨n,none,_,by simp only[qw,a],b⟩
 |defer f args=>
  refine⟨0,none,_,?_,h.2⟩;simp only[qw];rw[ay (by rw[h.1];simp)]
 |recover=>exact h.elim
 |panic v=>exact⟨0,some v,_,rfl,h⟩
def wpOps(E:Env)(ops:Array Oper):List Oper->(bT->St->Prop)->St->Prop
 |[],Q,st=>Q .kj st
 |o::rest,Q,st=>match fY ops st.n st.rg o with
  |none=>False
  |some false=>wpOps E ops rest Q {st with rg:=fO st.rg o.dst rp}
  |some true=>match eQ E st.rg st.h o with
   |none=>False
   |some r=>CH E o.dst st (λp cd=>match p with
    |none=>wpOps E ops rest Q cd
    |some v=>Q (.jz v) cd) r
theorem vI{ops:Array Oper}{Q:bT->St->Prop}:∀{l:List Oper}{st:St},wpOps E ops l Q st->∃n e cd,zd E (iR E n).call (iR E n).round ops l st=some (e,cd)/\Q e cd
 |[],st,h=>⟨0,_,_,rfl,h⟩
 |o::l,st,h=>by
  simp only[wpOps]at h;split at h
  ·exact h.elim
  ·rename_i hw;obtain⟨n,e,cd,f,g⟩:=vI h;exact⟨n,e,cd,by simp only[zd,hw];exact f,g⟩
  ·rename_i hw;split at h
   ·exact h.elim
   ·rename_i r ho;obtain⟨n,p,i,f,g⟩:=Ab h;cases p with
    |none=>
     obtain⟨m,e,cd,j,t⟩:=vI g;refine⟨max n m,e,cd,?_,t⟩;have a:=qI (dX (fT n m)).1 (dX (fT n m)).2 f;have b:=wB (dX (fu n m)).1 (dX (fu n m)).2 j;simp only[zd,hw,ho,a];exact b
    |some v=>exact⟨n,_,_,by simp only[zd,hw,ho,f],g⟩
def mo(E:Env)(ops:Array Oper)(a:Nat->Nat)(base:Nat):List (Oper×Nat)->(bT->St->Prop)->St->List pq->List Rd->Prop
 |[],Q,st,_,_=>Q .kj st
 |(o,i)::rest,Q,st,sn,rd=>match fY ops st.n st.rg o with
  |none=>False
  |some false=>mo E ops a base rest Q {st with rg:=fO st.rg o.dst rp} sn rd
  |some true=>match gV E o,eQ E st.rg st.h o with
   |_,none=>False
   | .pure,some (.val v,_)=>mo E ops a base rest Q {st with rg:=fO st.rg o.dst v} sn rd
   | .read,some (.val v,_)=>sn.all (λs=>(a i).testBit s.idx||jE E s.h st.rg o v)=true/\
    mo E ops a base rest Q {st with rg:=fO st.rg o.dst v} sn ({idx:=i,o:=o,rg:=st.rg,v:=v}::rd)
   | .alloc,some (.val v,b)=>match b.get st.h.nx,st.h.get (base+i),yh (base+i) v with
    |some obj,none,some e=>mo E ops a base rest Q {st with rg:=fO st.rg o.dst e,h:=st.h.set (base+i) obj} sn rd
    |_,_,_=>False
   | .pK,some r=>sn.all (λs=>(a i).testBit s.idx)=true/\CH E o.dst st (λp cd=>match p with
    |none=>rd.all (λr=>(a i).testBit r.idx||jE E cd.h r.rg r.o r.v)=true/\mo E ops a base rest Q cd ({idx:=i,h:=st.h}::sn) rd
    |some v=>rest.all (λx=>(a x.2).testBit i)=true/\Q (.jz v) {cd with rg:=ops.foldl (λr o=>match o.dst with|some d=>r.del d|none=>r) st.rg}) r
   |_,some _=>False
theorem kR{ops:Array Oper}{t:Nat->Nat}{base:Nat}{Q:bT->St->Prop}:∀{l:List (Oper×Nat)}{st:St}{sn:List pq}{rd:List Rd},mo E ops t base l Q st sn rd->
 ∃n e cd,lV E (iR E n).call (iR E n).round ops t base l st sn rd=some (e,cd)/\Q e cd
 |[],st,sn,rd,h=>⟨0,_,_,rfl,h⟩
 |(o,i)::l,st,sn,rd,h=>by
  simp only[mo]at h;split at h
  ·exact h.elim
  ·rename_i hw;obtain⟨n,e,cd,g,f⟩:=kR h;exact⟨n,e,cd,by simp only[lV,hw];exact g,f⟩
  ·rename_i hw;split at h
   ·exact h.elim
   ·rename_i j ho;obtain⟨n,e,cd,g,f⟩:=kR h;exact⟨n,e,cd,by simp only[lV,hw,j,ho];exact g,f⟩
   ·rename_i j ho;obtain⟨n,e,cd,g,f⟩:=kR h.2;exact⟨n,e,cd,by simp only[lV,hw,j,ho];rw[aY h.1];exact g,f⟩
   ·rename_i j ho;split at h
    ·rename_i g1 g2 g3;obtain⟨n,e,cd,g,f⟩:=kR h;exact⟨n,e,cd,by simp only[lV,hw,j,ho,g1,g2,g3];exact g,f⟩
    ·exact h.elim
   ·rename_i j ho;obtain⟨n,p,u,g,f⟩:=Ab h.2;cases p with
    |none=>
     obtain⟨m,e,cd,w,y⟩:=kR f.2;refine⟨max n m,e,cd,?_,y⟩;have a:=qI (dX (fT n m)).1 (dX (fT n m)).2 g;have b:=ml (dX (fu n m)).1 (dX (fu n m)).2 w;simp only[lV,hw,j,ho];rw[aY h.1,a];simp only;rw[aY f.1];exact b
    |some v=>
     refine⟨n,_,_,?_,f.2⟩;simp only[lV,hw,j,ho];rw[aY h.1,g];simp only;rw[aY f.1];rfl
   ·exact h.elim
def rV(id:Nat)(Q:bT->St->Prop)(x:bT)(st:St):Prop:=
 match x with
 | .exit a=>if a=id then Q .kj st else Q (.exit a) st
 |x=>Q x st
def kv(K:St->Prop)(Q:bT->St->Prop)(x:bT)(st:St):Prop:=
 match x with
 | .kj=>K st
 |x=>Q x st
def K9(E:Env)(ops:Array Oper)(Q:bT->St->Prop)(st:St):Prop:=
 iD ops=true/\mo E ops (gX ops) st.h.nx ops.toList.zipIdx Q {st with h:={st.h with nx:=st.h.nx+ops.size}} [] []
def ct(E:Env):Code->(bT->St->Prop)->St->Prop
 | .skip,Q,st=>Q .kj st
 | .region _ ops false,Q,st=>wpOps E ops ops.toList Q st
 | .region _ ops true,Q,st=>K9 E (tM E ops) Q st
 | .seq a b,Q,st=>ct E a (kv (ct E b Q) Q) st
 | .cond c a b,Q,st=>∃x,lK st.rg c=some (.bool x)/\(x=true->ct E a Q st)/\(x=false->ct E b Q st)
 | .block id b,Q,st=>ct E b (rV id Q) st
 | .loop b,Q,st=>∃(I:Nat->St->Prop)(k:Nat),I k st/\∀k st,I k st->ct E b (kv (λcd=>∃j,j<k/\I j cd) Q) st
 | .exit id,Q,st=>Q (.exit id) st
 | .ret,Q,st=>Q .ret st
 | .label _,Q,st=>Q .kj st
 | .scope b,Q,st=>ct E b Q st
 |c,Q,st=>∃n x cd,dM E (iR E n).call (iR E n).round n c st=some (x,cd)/\Q x cd
noncomputable abbrev j8(E:Env)(n:Nat)(c:Code)(st:St):Option (bT×St):=dM E (iR E n).call (iR E n).round n c st
theorem kz{n m:Nat}(h:n<=m){c:Code}{st:St}{r:bT×St}(hr:j8 E n c st=some r):j8 E m c st=some r:=
 kp (dX h).1 (dX h).2 h hr
theorem DT{b:Code}{Q:bT->St->Prop}{I:Nat->St->Prop}(o:∀{Q:bT->St->Prop}{st:St},ct E b Q st->∃n x cd,j8 E n b st=some (x,cd)/\Q x cd)
 (p:∀k st,I k st->ct E b (kv (λcd=>∃j,j<k/\I j cd) Q) st):∀(k:Nat)(st:St),I k st->∃n m x cd,qk (j8 E n b) m st=some (x,cd)/\Q x cd:=by
 intro k;induction k using Nat.strongRecOn with
 |ind k t=>
  intro st h;obtain⟨n,x,f,a,e⟩:=o (p k st h);cases x with
  |kj=>
   obtain⟨j,u,g⟩:=e;obtain⟨i,m,x,cd,w,y⟩:=t j u f g;refine⟨max n i,m+1,x,cd,?_,y⟩;simp only[qk];rw[kz (fT n i) a];exact ur (λ_ _ hr=>kz (fu n i) hr) (ao _) w
  |exit id=>exact⟨n,1,_,_,by simp only[qk];rw[a],e⟩
  |ret=>exact⟨n,1,_,_,by simp only[qk];rw[a],e⟩
  |jz v=>exact⟨n,1,_,_,by simp only[qk];rw[a],e⟩
theorem jR:∀{c:Code}{Q:bT->St->Prop}{st:St},ct E c Q st->∃n x cd,j8 E n c st=some (x,cd)/\Q x cd:=by
 intro c;induction c with
 |skip=>intro Q st h;exact⟨0,_,_,rfl,h⟩
 |region id ops d=>
  intro Q st h;cases d with
  |false=>
   obtain⟨n,e,cd,f,g⟩:=vI h;exact⟨n,e,cd,f,g⟩
  |true=>
   obtain⟨n,e,cd,f,g⟩:=kR h.2;exact⟨n,e,cd,by simp only[j8,dM,AK];rw[aY h.1];exact f,g⟩
 |seq a b i j=>
  intro Q st h;obtain⟨n,x,t,f,g⟩:=i h;cases x with
  |kj=>
   obtain⟨m,x,cd,y,A⟩:=j g;refine⟨max n m,x,cd,?_,A⟩;have a:=kz (fT n m) f;have b:=kz (fu n m) y;simp only[j8,dM]at a b⊢;rw[a];exact b
  |exit id=>exact⟨n,_,_,by simp only[j8,dM]at f⊢;rw[f],g⟩
  |ret=>exact⟨n,_,_,by simp only[j8,dM]at f⊢;rw[f],g⟩
  |jz v=>exact⟨n,_,_,by simp only[j8,dM]at f⊢;rw[f],g⟩
 |cond o a b i j=>
  intro Q st h;obtain⟨x,w,ht,B⟩:=h;cases x with
  |true=>
   obtain⟨n,x,cd,f,g⟩:=i (ht rfl);exact⟨n,x,cd,by simp only[j8,dM,w];exact f,g⟩
  |false=>
   obtain⟨n,x,cd,f,g⟩:=j (B rfl);exact⟨n,x,cd,by simp only[j8,dM,w];exact f,g⟩
 |block id b p=>
  intro Q st h;obtain⟨n,x,t,f,g⟩:=p h;cases x with
  |exit u=>
   simp only[rV]at g;by_cases e:u=id
   ·rw[aY e]at g;exact⟨n,_,_,by simp only[j8,dM]at f⊢;rw[f];simp only;rw[aY e],g⟩
   ·rw[ay e]at g;exact⟨n,_,_,by simp only[j8,dM]at f⊢;rw[f];simp only;rw[ay e],g⟩
  |kj=>exact⟨n,_,_,by simp only[j8,dM]at f⊢;rw[f],g⟩
  |ret=>exact⟨n,_,_,by simp only[j8,dM]at f⊢;rw[f],g⟩
  |jz v=>exact⟨n,_,_,by simp only[j8,dM]at f⊢;rw[f],g⟩
 |loop b p=>
  intro Q st h;obtain⟨I,k,C,D⟩:=h;obtain⟨n,m,x,cd,f,g⟩:=DT p D k st C;refine⟨max n m,x,cd,?_,g⟩;simp only[j8,dM];exact ur (λ_ _ hr=>kz (fT n m) hr) (fu n m) f
 |exit id=>intro Q st h;exact⟨0,_,_,rfl,h⟩
 |ret=>intro Q st h;exact⟨0,_,_,rfl,h⟩
 |label l=>intro Q st h;exact⟨0,_,_,rfl,h⟩
 |scope b p=>
  intro Q st h;obtain⟨n,x,cd,f,g⟩:=p h;exact⟨n,x,cd,f,g⟩
 |_=>intro Q st h;exact h
def atEnd(E:Env)(fn:Func)(Q:Out->ah->Prop)(x:bT)(st:St):Prop:=
 match x with
 | .kj| .ret=>st.ds=[]/\∃vs,fp E st.rg st.h fn.results.toList=some vs/\Q (.ret (oneOf vs)) st.h
 | .jz v=>st.ds=[]/\Q (.jz v) st.h
 |_=>False
theorem ba.body{k:FuncId}{fn:Func}{c:Code}{args:eu}{h:ah}{Q:Out->ah->Prop}(j:E.ed k=none)(m:E.fn k=some fn)(o:fn.body=some c)(p:args.length<=fn.ntmps)
 (hw:ct E c (atEnd E fn Q) {rg:=qm args 0 .nil,n:=fn.ntmps,h:=h,ds:=[],bX:=false}):ba E k args h Q:=by
 obtain⟨n,x,st,i,e⟩:=jR hw;have key:∀out h',jr E (nL E (iR E n).call (iR E n).round n) fn st.rg st.ds (match x with| .jz v=>some v|_=>none) st.h=some (out,h')->(x= .kj\/x= .ret\/∃v,x= .jz v)->Q out h'->ba E k args h Q:=by
  intro out h' f t a;refine⟨n+1,out,h',?_,a⟩;simp only[iR,yg,xz,Env.told,j,m,o];rw[aY p];simp only[j8]at i;rw[i];rcases t with rfl|rfl|⟨v,rfl⟩<;>exact f
 cases x with
 |kj=>
  obtain⟨b,vs,g,a⟩:=e;exact key _ _ (by rw[b];simp only[jr,g]) (.inl rfl) a
 |ret=>
  obtain⟨b,vs,g,a⟩:=e;exact key _ _ (by rw[b];simp only[jr,g]) (.inr (.inl rfl)) a
 |jz v=>
  obtain⟨b,a⟩:=e;exact key _ _ (by rw[b];simp only[jr]) (.inr (.inr ⟨v,rfl⟩)) a
 |exit id=>exact e.elim
theorem ba.ed{k:FuncId}{f:eu->ah->Option (Out×ah)}{args:eu}{h:ah}{Q:Out->ah->Prop}{out:Out}{h':ah}(a:E.ed k=some f)(b:f args h=some (out,h'))(e:Q out h'):ba E k args h Q:=
 ⟨1,out,h',by simp only[iR,yg,Env.told,a,b],e⟩
theorem ba.calls [gJ](b:E.Ok)(a:ug E){k:FuncId}{args:eu}{h:ah}{Q:Out->ah->Prop}(hw:ba E k args h Q){ι:cq}{w:World}{bO:Array Value}(f:dt ι h w)(g:bp ι args bO.toList):
 Calls E.P k bO w λe w'=>∃out h' cW,Q out h'/\Ext ι h w cW h' w'/\j5 cW out e:=by
 obtain⟨n,out,h',i,j⟩:=hw;exact(tL b a i f g).mono λe w' ⟨cW,he,ho⟩=>⟨out,h',cW,j,he,ho⟩
end
section
theorem DU(w:World)(k:Nat)(os:Array Obj):lW w (Sort.grow (w.drewN k) os):=by
 refine⟨by simp[Sort.grow,World.drewN],λb a=>?_,rfl,rfl,rfl⟩;show(w.heap++os)[b]?=w.heap[b]?;rw[xU a]
variable[gJ]
theorem j3{P:Program}{k:FuncId}{bO:Array Value}{ι:cq}{h:ah}{w:World}{out:Out}(b:dt ι h w)
 (f:Calls P k bO w λe w'=>j5 ι out e/\lW w w'):CallsIn Fence.wide 0 P k bO w λe w'=>∃cW,Ext ι h w cW h w'/\j5 cW out e:=
 callsIn_wide.2 (f.mono λe w' ⟨g,a⟩=>⟨ι,(Ext.refl b).wz a.size a.old a.os a.tape a.output,g⟩)
theorem xE{P:Program}{name:String}{k:IntKind}{i:List Int}(a:Lib.TabIs P gJ.w name k i){ι:cq}{h:ah}{w:World}(j:dt ι h w):Lib.TabIs P w name k i:=by
 unfold Lib.TabIs World.var? at a⊢;rw[Option.bind_eq_some_iff]at a⊢;obtain⟨g,m,b⟩:=a;refine⟨g,m,?_⟩;have e:g<gJ.w.heap.size:=by
  rcases dJ g gJ.w.heap.size with f|f
  ·exact f
  ·rw[mu f]at b;cases b
 rw[j.base.old g e];exact b
noncomputable section
def oJ:Nat->Nat->List UInt8
 |0,_=>[]
 |f+1,n=>bif Nat.blt n 10 then[UInt8.ofNat (48+n)]else oJ f (n/10)++[UInt8.ofNat (48+n%10)]
def wC:List AV->ah->Option (Out×ah)
 |[.int .i64 (.ofNat n),.int .i64 (.ofNat b)],h=>bif Nat.beq b 10&&Nat.blt n 9223372036854775808 then some (.ret (.str (oJ 20 n)),h)else none
 |_,_=>none
end
theorem DV:∀(f n:Nat),n<10^(f+1)->oJ (f+1) n=Lib.decDigits n
 |0,n,h=>by
  have h':n<10:=by simpa using h
  have a:Nat.blt n 10=true:=by rw[uL];exact h'
  simp only[oJ,a,cond_true];rw[Lib.decDigits,dif_pos h']
 |f+1,n,h=>by
  by_cases h':n<10
  ·have a:Nat.blt n 10=true:=(by rw[uL];exact h');rw[Lib.decDigits,dif_pos h'];show(bif Nat.blt n 10 then _ else _)=_;rw[a];rfl
  ·have a:Nat.blt n 10=false:=(by rw[dx,Ne,uL];exact h');rw[Lib.decDigits,dif_neg h'];show(bif Nat.blt n 10 then _ else _)=_;rw[a,xW,DV f (n/10) (by rw[Nat.pow_succ]at h;omega)]
theorem Hi{P:Program}{k:FuncId}(j:Lib.TabIs P gJ.w "internal/strconv.uint64pow10" .u64 Lib.pow10Tab)
 (m:∀(n:Int),-9223372036854775808<=n->n<=9223372036854775807->∀w:World,Lib.TabIs P w "internal/strconv.uint64pow10" .u64 Lib.pow10Tab->
  Calls P k #[.int .i64 n,.int .i64 10] w λe w'=>e= .returned (.string ⟨(Lib.itoa n).toArray⟩)/\∃k os,w'=Sort.grow (w.drewN k) os)
 {args:eu} {h:ah} {out:Out} {h':ah} {ι:cq} {w:World} {bO:Array Value} (f:wC args h=some (out,h')) (i:dt ι h w) (o:bp ι args bO.toList):
 CallsIn Fence.wide 0 P k bO w λe w'=>∃cW,Ext ι h w cW h' w'/\j5 cW out e:=by
 unfold wC at f;split at f
 ·rename_i n b;cases a:Nat.beq b 10&&Nat.blt n 9223372036854775808 with
  |false=>rw[a]at f;cases f
  |true=>
   rw[a]at f;simp only[cond_true,bj,dz]at f;obtain⟨rfl,rfl⟩:=f;rw[cf,uL]at a;have p:b=10:=uc a.1;subst p;obtain⟨y,A,e1,t,hr⟩:=o.inv;obtain⟨z,B,e2,u,g⟩:=hr.inv;have:=g.rU;subst this;cases t;cases u;have e:bO= #[.int .i64 (.ofNat n),.int .i64 10]:=(by apply iJ;simpa[e2]using e1);rw[e];refine j3 i ((m (.ofNat n) (by simp<;>omega) (by simp<;>omega) w (xE j i)).mono λe w' ⟨he,k,os,hw⟩=>⟨?_,hw▸DU w k os⟩);subst he;have v:oJ 20 n=Lib.itoa (.ofNat n):=by
    rw[DV 19 n (by
     have:(9223372036854775808:Nat)<10^(19+1):=dc;omega)]
    simp[Lib.itoa]
   rw[v];exact bG.str _
 ·cases f
def rB:List AV->ah->Option (Out×ah)
 |[],h=>some (.ret (.bool true),h)
 |_,_=>none
theorem Fo{P:Program}{k:FuncId}{args:eu}{h:ah}{out:Out}{h':ah}{ι:cq}{w:World}{bO:Array Value}
 (b:Calls P k #[] w λe w'=>e= .returned (.bool true)/\lW w w') (a:rB args h=some (out,h')) (f:dt ι h w) (g:bp ι args bO.toList):
 CallsIn Fence.wide 0 P k bO w λe w'=>∃cW,Ext ι h w cW h' w'/\j5 cW out e:=by
 unfold rB at a;split at a
 ·simp only[bj,dz]at a;obtain⟨rfl,rfl⟩:=a;have:=g.rU;have e:bO= #[]:=by apply iJ;simpa using this
  rw[e];refine j3 f (b.mono λe w' ⟨i,j⟩=>⟨?_,j⟩);subst i;exact bG.bool true
 ·cases a
end
section
theorem lW.Fp{w w':World}(h:RowKit.Below w.heap.size w w'):lW w w':=⟨h.size,h.block,h.os,h.tape,h.output⟩
variable[gJ]
def dP(f:List AV->Option AV):List AV->ah->Option (Out×ah):=λargs h=>
 match f args with
 |some v=>some (.ret v,h)
 |none=>none
theorem oK{P:Program}{k:FuncId}{f:eu->Option AV}
 (g:∀{ι:cq}{args:eu}{v:AV}{bO:Array Value}(w:World),f args=some v->bp ι args bO.toList->Calls P k bO w λe w'=>(∃y,e= .returned y/\bG ι v y)/\lW w w')
 {args:eu} {h:ah} {out:Out} {h':ah} {ι:cq} {w:World} {bO:Array Value} (a:dP f args h=some (out,h')) (i:dt ι h w) (j:bp ι args bO.toList):
 CallsIn Fence.wide 0 P k bO w λe w'=>∃cW,Ext ι h w cW h' w'/\j5 cW out e:=by
 unfold dP at a;split at a
 ·rename_i v b;simp only[bj,dz]at a;obtain⟨rfl,rfl⟩:=a;refine j3 i ((g w b j).mono λe w' ⟨⟨y,m,o⟩,p⟩=>⟨?_,p⟩);subst m;exact o
 ·cases a
theorem Ac{ι:cq}{a b:bu}{bO:Array Value}(h:bp ι [.str a,.str b] bO.toList):bO= #[.string ⟨a.toArray⟩,.string ⟨b.toArray⟩]:=by
 obtain⟨y,i,e1,f,hr⟩:=h.inv;obtain⟨z,j,e2,g,e⟩:=hr.inv;have:=e.rU;subst this;cases f;cases g;apply iJ;simpa[e2]using e1
theorem CI{ι:cq}{a:bu}{bO:Array Value}(h:bp ι [.str a] bO.toList):bO= #[.string ⟨a.toArray⟩]:=by
 obtain⟨y,e,e1,b,hr⟩:=h.inv;have:=hr.rU;subst this;cases b;apply iJ;simpa using e1
theorem Qv{ι:cq}{a:bu}{c:Int}{bO:Array Value}(h:bp ι [.str a,.int .u8 c] bO.toList):bO= #[.string ⟨a.toArray⟩,.int .u8 c]:=by
 obtain⟨y,g,e1,e,hr⟩:=h.inv;obtain⟨z,i,e2,f,b⟩:=hr.inv;have:=b.rU;subst this;cases e;cases f;apply iJ;simpa[e2]using e1
def R2:List AV->Option AV
 |[.str s,.int .u8 c]=>some (.int .i64 (Lib.indexByte s c.toNat.toUInt8))
 |_=>none
theorem Qw{P:Program}{k:FuncId}(b:∀(s:ByteArray)(c:Int)(w:World),Calls P k #[.string s,.int .u8 c] w λe w'=>e= .returned (.int .i64 (Lib.indexByte s.data.toList c.toNat.toUInt8))/\w'=w)
 {ι:cq} {args:eu} {v:AV} {bO:Array Value} (w:World) (a:R2 args=some v) (f:bp ι args bO.toList):Calls P k bO w λe w'=>(∃y,e= .returned y/\bG ι v y)/\lW w w':=by
 unfold R2 at a;split at a
 ·simp only[bj]at a;subst a;rw[Qv f];exact(b _ _ w).mono λe w' ⟨g,h⟩=>⟨⟨_,g,by simpa using bG.int _ _⟩,h▸lW.refl w⟩
 ·cases a
def Pq(cs:List UInt8):Bool:=cs.all λb=>decide (b.toNat<128)
def CJ:List AV->Option AV
 |[.str s,.str cs]=>if s.length<=9223372036854775807/\cs.length<4294967281/\Pq cs=true then some (.str (Lib.trimS s cs))else none
 |_=>none
theorem La{P:Program}{k:FuncId}(g:∀(s cs:ByteArray)(w:World),s.size<=9223372036854775807->cs.size<4294967281->(∀(j:Nat)(b:UInt8),cs.data.toList[j]?=some b->b.toNat<128)->
 Calls P k #[.string s,.string cs] w λe w'=>e= .returned (.string ⟨(Lib.trimS s.data.toList cs.data.toList).toArray⟩)/\RowKit.Below w.heap.size w w')
 {ι:cq} {args:eu} {v:AV} {bO:Array Value} (w:World) (a:CJ args=some v) (h:bp ι args bO.toList):Calls P k bO w λe w'=>(∃y,e= .returned y/\bG ι v y)/\lW w w':=by
 unfold CJ at a;split at a
 ·rename_i s cs;split at a
  ·rename_i f;simp only[bj]at a;subst a;rw[Ac h];refine(g _ _ w (by simpa[ByteArray.size]using f.1) (by simpa[ByteArray.size]using f.2.1) (λj b i=>?_)).mono λe w' ⟨m,o⟩=>⟨⟨_,m,by simpa using bG.str _⟩,.Fp o⟩
   have:=cL.1 f.2.2 b (bg (U7 i));simpa using this
  ·cases a
 ·cases a
def zk:List AV->Option AV
 |[.str s,.str [c]]=>if s.length<=9223372036854775807/\c.toNat<128 then some (.str (Lib.trimRightB s c))else none
 |_=>none
theorem JD{P:Program}{k:FuncId}(f:∀(s:ByteArray)(c:UInt8),c.toNat<128->∀w:World,s.size<=9223372036854775807->
 Calls P k #[.string s,.string ⟨#[c]⟩] w λe w'=>e= .returned (.string ⟨(Lib.trimRightB s.data.toList c).toArray⟩)/\w'=w)
 {ι:cq} {args:eu} {v:AV} {bO:Array Value} (w:World) (a:zk args=some v) (g:bp ι args bO.toList):Calls P k bO w λe w'=>(∃y,e= .returned y/\bG ι v y)/\lW w w':=by
 unfold zk at a;split at a
 ·rename_i s c;split at a
  ·rename_i b;simp only[bj]at a;subst a;rw[Ac g];exact(f _ c b.2 w (by simpa[ByteArray.size]using b.1)).mono λe w' ⟨h,i⟩=>⟨⟨_,h,by simpa using bG.str _⟩,i▸lW.refl w⟩
  ·cases a
 ·cases a
def Fq:List AV->Option AV
 |[.str s,.str p]=>some (.iO [.str (Lib.trimPrefix s p),.bool (Lib.hasPrefix s p)])
 |_=>none
theorem Lb{P:Program}{k:FuncId}(b:∀(s p:ByteArray)(w:World),Calls P k #[.string s,.string p] w λe w'=>
 e= .returned (.tuple #[.string ⟨(Lib.trimPrefix s.data.toList p.data.toList).toArray⟩,.bool (Lib.hasPrefix s.data.toList p.data.toList)])/\w'=w)
 {ι:cq} {args:eu} {v:AV} {bO:Array Value} (w:World) (a:Fq args=some v) (f:bp ι args bO.toList):Calls P k bO w λe w'=>(∃y,e= .returned y/\bG ι v y)/\lW w w':=by
 unfold Fq at a;split at a
 ·simp only[bj]at a;subst a;rw[Ac f];exact(b _ _ w).mono λe w' ⟨g,h⟩=>⟨⟨_,g,by simpa using bG.Dx (bp.cons (.str _) (bp.cons (.bool _) (bp.nil _)))⟩,h▸lW.refl w⟩
 ·cases a
def CK:List AV->Option AV
 |[.str s,.str p]=>if s.length<=9223372036854775807 then some (.iO [.str (Lib.trimSuffix s p),.bool (Lib.hasSuffix s p)])else none
 |_=>none
theorem Lc{P:Program}{k:FuncId}(f:∀(s p:ByteArray)(w:World),s.size<=9223372036854775807->Calls P k #[.string s,.string p] w λe w'=>
 e= .returned (.tuple #[.string ⟨(Lib.trimSuffix s.data.toList p.data.toList).toArray⟩,.bool (Lib.hasSuffix s.data.toList p.data.toList)])/\w'=w)
 {ι:cq} {args:eu} {v:AV} {bO:Array Value} (w:World) (a:CK args=some v) (g:bp ι args bO.toList):Calls P k bO w λe w'=>(∃y,e= .returned y/\bG ι v y)/\lW w w':=by
 unfold CK at a;split at a
 ·split at a
  ·rename_i b;simp only[bj]at a;subst a;rw[Ac g];exact(f _ _ w (by simpa[ByteArray.size]using b)).mono λe w' ⟨h,i⟩=>⟨⟨_,h,by simpa using bG.Dx (bp.cons (.str _) (bp.cons (.bool _) (bp.nil _)))⟩,i▸lW.refl w⟩
  ·cases a
 ·cases a
def Ld:Lib.NumEnd Int->Bool
 | .ok _| .range=>false
 |_=>true
noncomputable def nP(T:TypeId):List AV->ah->Option (Out×ah)
 |[.str s],h=>if s.length<=281474976710656 then match Lib.atoiAll s with
  | .ok v=>some (.ret (.iO [.int .i64 v,.nilIface]),h)
  | .range=>some (.ret (.iO [.int .i64 (Lib.atoiSat s),.iface T (.ptr (some (h.nx,0)))]),(h.alloc .dead).2)
  |_=>some (.ret (.iO [.int .i64 0,.iface T (.ptr (some (h.nx,0)))]),(h.alloc .dead).2)
  else none
 |_,_=>none
theorem kS{g:Nat}{v:Value}(a:gJ.w.cell? ⟨g,0,none⟩=some v){ι:cq}{h:ah}{w:World}(f:dt ι h w):w.cell? ⟨g,0,none⟩=some v:=by
 unfold World.cell? at a⊢;have b:g<gJ.w.heap.size:=by
  rcases dJ g gJ.w.heap.size with e|e
  ·exact e
  ·simp only[mu e]at a;cases a
 have:=f.base.old g b;simp only[this];exact a
theorem uP(w:World)(e:TypeId)(s:ByteArray):lW w (Lib.bytesWorld w e s):=by
 unfold Lib.bytesWorld World.freeze;rw[ay dc];refine⟨sp,λb a=>?_,rfl,rfl,rfl⟩;simp only[gL];rw[ay om];exact heap_alloc_old w.drew _ a
theorem Is{ι:cq}{h:ah}{w w':World}(b:dt ι h w)(a:RowKit.Below w.heap.size w w'){N:Nat}(e:w.heap.size<=N)(f:N<w'.heap.size):
 Ext ι h w (ι.add h.nx ⟨N,0,0,0,false⟩) (h.alloc .dead).2 w':=
 b.grow a.size a.block a.os a.tape a.output .dead ⟨N,0,0,0,false⟩ e f trivial
theorem Ft{P:Program}{k:FuncId}{T:TypeId}{g1 g2:Nat}{Q t112:TypeId}{nm:ByteArray}
 (B:∀(s:ByteArray),s.size<=9223372036854775806->∀(v:Int),Lib.atoiAll s.data.toList= .ok v->∀w:World,Calls P k #[.string s] w λe w'=>e= .returned (.tuple #[.int .i64 v,.nilIface])/\(w'=w\/∃t,w'=Lib.bytesWorld w Q t))
 (C:∀(s:ByteArray),s.size<=281474976710656->Ld (Lib.atoiAll s.data.toList)=true->∀(ev:Value)(w:World),w.cell? ⟨g1,0,none⟩=some ev->(ev= .nilIface\/∃g i,ev= .iface g i)->
  Calls P k #[.string s] w λe w'=>∃N,e= .returned (.tuple #[.int .i64 0,.iface T (.pointer (some ⟨N,0,none⟩))])/\w.heap.size<=N/\w'.heap[N]?=some (.cells #[.string nm,.string s,ev] t112 (0,0))/\RowKit.Below w.heap.size w w')
 (D:∀(s:ByteArray),s.size<=281474976710656->Lib.atoiAll s.data.toList= .range->∀(ev:Value)(w:World),w.cell? ⟨g2,0,none⟩=some ev->(ev= .nilIface\/∃g i,ev= .iface g i)->
  Calls P k #[.string s] w λe w'=>∃N,e= .returned (.tuple #[.int .i64 (Lib.atoiSat s.data.toList),.iface T (.pointer (some ⟨N,0,none⟩))])/\w.heap.size<=N/\w'.heap[N]?=some (.cells #[.string nm,.string s,ev] t112 (0,0))/\RowKit.Below w.heap.size w w')
 (F:∃ev,gJ.w.cell? ⟨g1,0,none⟩=some ev/\(ev= .nilIface\/∃g i,ev= .iface g i)) (I:∃ev,gJ.w.cell? ⟨g2,0,none⟩=some ev/\(ev= .nilIface\/∃g i,ev= .iface g i))
 {args:eu} {h:ah} {out:Out} {h':ah} {ι:cq} {w:World} {bO:Array Value} (a:nP T args h=some (out,h')) (o:dt ι h w) (R:bp ι args bO.toList):
 CallsIn Fence.wide 0 P k bO w λe w'=>∃cW,Ext ι h w cW h' w'/\j5 cW out e:=by
 unfold nP at a;split at a
 ·rename_i s;split at a
  ·rename_i hlen;rw[CI R];have j:(⟨s.toArray⟩:ByteArray).size=s.length:=(by simp[ByteArray.size]);split at a
   ·rename_i v b;simp only[bj,dz]at a;obtain⟨rfl,rfl⟩:=a;refine j3 o ((B ⟨s.toArray⟩ (by rw[j];omega) v (U7 b) w).mono λe w' ⟨p,u⟩=>⟨?_,?_⟩)
    ·subst p;exact bG.Dx (bp.cons (.int _ _) (bp.cons .nilIface (bp.nil _)))
    ·rcases u with rfl|⟨t,rfl⟩
     ·exact lW.refl _
     ·exact uP _ _ _
   ·rename_i b;simp only[bj,dz]at a;obtain⟨rfl,rfl⟩:=a;obtain⟨ev,m,f⟩:=I;refine callsIn_wide.2 ((D ⟨s.toArray⟩ (by rw[j];omega) (U7 b) ev w (kS m o) f).mono λe w' ⟨N,p,u,J,K⟩=>?_);refine⟨_,Is o K u (bI.1 J).1,?_⟩;subst p;exact bG.Dx (bp.cons (by simpa using bG.int _ _) (bp.cons (.iface _ (.ptr (L:=⟨N,0,0,0,false⟩) (cq.add_same _ _ _))) (bp.nil _)))
   ·rename_i y A;have b:Ld (Lib.atoiAll s)=true:=by
     cases O:Lib.atoiAll s with
     |ok v=>exact(y v O).elim
     |range=>exact(A O).elim
     |_=>rfl
    simp only[bj,dz]at a;obtain⟨rfl,rfl⟩:=a;obtain⟨ev,m,f⟩:=F;refine callsIn_wide.2 ((C ⟨s.toArray⟩ (by rw[j];omega) (U7 b) ev w (kS m o) f).mono λe w' ⟨N,p,u,J,K⟩=>?_);refine⟨_,Is o K u (bI.1 J).1,?_⟩;subst p;exact bG.Dx (bp.cons (.int _ _) (bp.cons (.iface _ (.ptr (L:=⟨N,0,0,0,false⟩) (cq.add_same _ _ _))) (bp.nil _)))
  ·cases a
 ·cases a
end
section
variable{E:Env}
def ah.bump(h:ah)(k:Nat):ah:={h with nx:=h.nx+k}
theorem ah.Le(h:ah)(k i:Nat):(h.bump k).get i=h.get i:=rfl
theorem ah.jF(h:ah)(k:Nat):(h.bump k).nx=h.nx+k:=rfl
theorem NI{id:Nat}{ops:Array Oper}{Q:bT->St->Prop}{rg:T AV}{n:Nat}{h:ah}{ds:List nh}{bX:Bool}(e:oI E ops=false)(f:iD ops=true)
 (g:mo E ops (gX ops) h.nx ops.toList.zipIdx Q ⟨rg,n,h.bump ops.size,ds,bX⟩ [] []):ct E (.region id ops true) Q ⟨rg,n,h,ds,bX⟩:=by
 have:tM E ops=ops:=by unfold tM;rw[e];rfl
 show K9 E (tM E ops) Q _;rw[this];exact⟨f,g⟩
theorem Lf{id:Nat}{l:List Oper}{e:List (Oper×Nat)}{Q:bT->St->Prop}{rg:T AV}{n:Nat}{h:ah}{ds:List nh}{bX:Bool}(f:l.zipIdx=e)(g:oI E l.toArray=false)(m:iD l.toArray=true)
 (p:mo E l.toArray (gX l.toArray) h.nx e Q ⟨rg,n,h.bump l.length,ds,bX⟩ [] []):ct E (.region id l.toArray true) Q ⟨rg,n,h,ds,bX⟩:=by
 subst f;exact NI g m p
theorem bz{b:Code}{Q:bT->St->Prop}{st:St}(I:Nat->St->Prop)(k:Nat)(h0:I k st)(e:∀k st,I k st->ct E b (kv (λcd=>∃j,j<k/\I j cd) Q) st):ct E (.loop b) Q st:=⟨I,k,h0,e⟩
section
variable{ops:Array Oper}{o:Oper}{rest:List Oper}{Q:bT->St->Prop}{rg:T AV}{n:Nat}{h h':ah}{ds:List nh}{bX:Bool}{v:AV}{t:Tmp}
variable{ow:Nat->Nat}{base:Nat}{i:Nat}{UB:List (Oper×Nat)}{sn:List pq}{rd:List Rd}
end
section
variable{t:TypeId}{k:IntKind}{a b:Int}
theorem NJ:cm (Go.binOp .eql t (.int k a) (.int k b))=some (.bool (a==b)):=by simp[Go.binOp,Op.intCmp,cm,iF,pure]
theorem NK:cm (Go.binOp .neq t (.int k a) (.int k b))=some (.bool (a !=b)):=by simp[Go.binOp,Op.intCmp,cm,iF,pure]
theorem NL:cm (Go.binOp .lss t (.int k a) (.int k b))=some (.bool (decide (a<b))):=by simp[Go.binOp,Op.intCmp,cm,iF,pure]
theorem NN:cm (Go.binOp .leq t (.int k a) (.int k b))=some (.bool (decide (a<=b))):=by simp[Go.binOp,Op.intCmp,cm,iF,pure]
theorem NO:cm (Go.binOp .gtr t (.int k a) (.int k b))=some (.bool (decide (b<a))):=by simp[Go.binOp,Op.intCmp,cm,iF,pure]
theorem NP:cm (Go.binOp .geq t (.int k a) (.int k b))=some (.bool (decide (b<=a))):=by simp[Go.binOp,Op.intCmp,cm,iF,pure]
theorem NQ:cm (Go.binOp .add t (.int .i64 a) (.int .i64 b))=some (.int .i64 (IntKind.wrap .i64 (a+b))):=by simp[Go.binOp,Op.intArith,cm,iF,pure]
theorem NR:cm (Go.binOp .sub t (.int .i64 a) (.int .i64 b))=some (.int .i64 (IntKind.wrap .i64 (a-b))):=by simp[Go.binOp,Op.intArith,cm,iF,pure]
theorem NS:cm (Go.binOp .mul t (.int .i64 a) (.int .i64 b))=some (.int .i64 (IntKind.wrap .i64 (a*b))):=by simp[Go.binOp,Op.intArith,cm,iF,pure]
theorem Qx{b:Bool}:cm (Op.unary .not (.bool b))=some (.bool (!b)):=by simp[Op.unary,cm,iF,pure]
end
theorem Bt{d:Option Tmp}{st:St}{K g:Option AV->St->Prop}(e:∀p cd,K p cd->g p cd){x:iB×ah}(h:CH E d st K x):CH E d st g x:=by
 obtain⟨o,y⟩:=x;cases o with
 |val v=>exact e _ _ h
 |skip=>exact e _ _ h
 |enter f args=>exact ba.mono h λout h' m=>by cases out<;>exact e _ _ m
 |yield l args=>
  obtain⟨n,v,h',u,w⟩:=h;exact⟨n,v,h',u,e _ _ w⟩
 |defer f args=>exact⟨h.1,e _ _ h.2⟩
 |recover=>exact h
 |panic v=>exact e _ _ h
theorem uv{ops:Array Oper}{Q Q':bT->St->Prop}(e:∀x cd,Q x cd->Q' x cd):∀{l:List Oper}{st:St},wpOps E ops l Q st->wpOps E ops l Q' st
 |[],st,h=>e _ _ h
 |o::l,st,h=>by
  simp only[wpOps]at h⊢;split at h
  ·exact h.elim
  ·exact uv e h
  ·split at h
   ·exact h.elim
   ·refine Bt (λp cd f=>?_) h;cases p with
    |none=>exact uv e f
    |some v=>exact e _ _ f
theorem mQ{ops:Array Oper}{ow:Nat->Nat}{base:Nat}{Q Q':bT->St->Prop}(e:∀x cd,Q x cd->Q' x cd):∀{l:List (Oper×Nat)}{st:St}{sn:List pq}{rd:List Rd},
 mo E ops ow base l Q st sn rd->mo E ops ow base l Q' st sn rd
 |[],st,sn,rd,h=>e _ _ h
 |(o,i)::l,st,sn,rd,h=>by
  simp only[mo]at h⊢;split at h
  ·exact h.elim
  ·exact mQ e h
  ·split at h
   ·exact h.elim
   ·exact mQ e h
   ·exact⟨h.1,mQ e h.2⟩
   ·split at h
    ·exact mQ e h
    ·exact h.elim
   ·refine⟨h.1,Bt (λp cd f=>?_) h.2⟩;cases p with
    |none=>exact⟨f.1,mQ e f.2⟩
    |some v=>exact⟨f.1,e _ _ f.2⟩
   ·exact h.elim
theorem rW:∀{c:Code}{Q Q':bT->St->Prop}{st:St},(∀x cd,Q x cd->Q' x cd)->ct E c Q st->ct E c Q' st:=by
 intro c;induction c with
 |skip=>intro Q Q' st f h;exact f _ _ h
 |region id ops d=>
  intro Q Q' st f h;cases d with
  |false=>exact uv f h
  |true=>exact⟨h.1,mQ f h.2⟩
 |seq a b m p=>
  intro Q Q' st f h;refine m (λx cd g=>?_) h;cases x with
  |kj=>exact p f g
  |exit id=>exact f _ _ g
  |ret=>exact f _ _ g
  |jz v=>exact f _ _ g
 |cond o a b m p=>
  intro Q Q' st f h;obtain⟨x,g,ht,w⟩:=h;exact⟨x,g,λe=>m f (ht e),λe=>p f (w e)⟩
 |block id b u=>
  intro Q Q' st f h;refine u (λx cd g=>?_) h;cases x with
  |exit y=>
   simp only[rV]at g⊢;split
   ·rename_i e;rw[aY e]at g;exact f _ _ g
   ·rename_i e;rw[ay e]at g;exact f _ _ g
  |kj=>exact f _ _ g
  |ret=>exact f _ _ g
  |jz v=>exact f _ _ g
 |loop b u=>
  intro Q Q' st f h;obtain⟨I,k,A,B⟩:=h;refine⟨I,k,A,λk st hi=>u (λx cd g=>?_) (B k st hi)⟩;cases x with
  |kj=>exact g
  |exit id=>exact f _ _ g
  |ret=>exact f _ _ g
  |jz v=>exact f _ _ g
 |exit id=>intro Q Q' st f h;exact f _ _ h
 |ret=>intro Q Q' st f h;exact f _ _ h
 |label l=>intro Q Q' st f h;exact f _ _ h
 |scope b u=>intro Q Q' st f h;exact u f h
 |_=>
  intro Q Q' st f h;obtain⟨n,x,cd,C,D⟩:=h;exact⟨n,x,cd,C,f _ _ D⟩
section
variable{ops:Array Oper}{o:Oper}{rg:T AV}{n:Nat}{j:Nat}{want b:Bool}{d:Tmp}
end
end
section
variable{E:Env}
def uQ(E:Env)(ops:Array Oper)(rest:List Oper)(Q:bT->St->Prop)(d:Option Tmp)(rg:T AV)(n:Nat)(ds:List nh)(bX:Bool):Out->ah->Prop
 | .ret v,h=>wpOps E ops rest Q ⟨fO rg d v,n,h,ds,bX⟩
 | .jz v,h=>Q (.jz v) ⟨rg,n,h,ds,bX⟩
def Qy(E:Env)(ops:Array Oper)(rest:List Oper)(Q:bT->St->Prop)(d:Option Tmp)(rg:T AV)(n:Nat)(h0:ah)(ds:List nh)(bX:Bool):iB×ah->Prop
 |(.val v,h)=>wpOps E ops rest Q ⟨fO rg d v,n,h,ds,bX⟩
 |(.skip,h)=>wpOps E ops rest Q ⟨fO rg d rp,n,h,ds,bX⟩
 |(.enter f args,h)=>ba E f args h (uQ E ops rest Q d rg n ds bX)
 |(.panic v,h)=>Q (.jz v) ⟨rg,n,h,ds,bX⟩
 |r=>CH E d ⟨rg,n,h0,ds,bX⟩ (λp cd=>match p with
  |none=>wpOps E ops rest Q cd
  |some v=>Q (.jz v) cd) r
section
variable{ops:Array Oper}{l rest:List Oper}{o:Oper}{Q:bT->St->Prop}{K:St->Prop}{rg:T AV}{n id TO:Nat}{h h0:ah}{ds:List nh}{bX:Bool}{a b:Code}{c:Operand}{st:St}{d:Option Tmp}{v:AV}{f:FuncId}{args:eu}{t:Tmp}
theorem TP:ct E (.seq a b) Q st=ct E a (kv (ct E b Q) Q) st:=rfl
theorem Hj:ct E (.block id b) Q st=ct E b (rV id Q) st:=rfl
theorem Qz:ct E (.scope b) Q st=ct E b Q st:=rfl
theorem NT:ct E (.region id l.toArray false) Q st=wpOps E l.toArray l Q st:=rfl
theorem TQ:ct E .ret Q st=Q .ret st:=rfl
theorem Sl:ct E (.exit id) Q st=Q (.exit id) st:=rfl
theorem Sn:ct E .skip Q st=Q .kj st:=rfl
theorem So:ct E (.cond c a b) Q ⟨rg,n,h,ds,bX⟩=(match lK rg c with
 |some (.bool true)=>ct E a Q ⟨rg,n,h,ds,bX⟩
 |some (.bool false)=>ct E b Q ⟨rg,n,h,ds,bX⟩
 |_=>False):=by
 apply propext;constructor
 ·rintro⟨x,g,ht,j⟩
  have g:lK rg c=some (.bool x):=g;rw[g];cases x with
  |true=>exact ht rfl
  |false=>exact j rfl
 ·intro hm;split at hm
  ·rename_i g;exact⟨true,g,λ_=>hm,λe=>by cases e⟩
  ·rename_i g;exact⟨false,g,(λe=>by cases e),λ_=>hm⟩
  ·exact hm.elim
theorem TR:wpOps E ops [] Q st=Q .kj st:=rfl
theorem Sp:wpOps E ops (o::rest) Q ⟨rg,n,h,ds,bX⟩=(match fY ops n rg o with
 |some true=>(match eQ E rg h o with
  |some r=>Qy E ops rest Q o.dst rg n h ds bX r
  |none=>False)
 |some false=>wpOps E ops rest Q ⟨fO rg o.dst rp,n,h,ds,bX⟩
 |none=>False):=by
 simp only[wpOps];cases hw:fY ops n rg o with
 |none=>rfl
 |some b=>
  cases b with
  |false=>rfl
  |true=>
   dsimp only;cases ho:eQ E rg h o with
   |none=>rfl
   |some r=>
    dsimp only;obtain⟨x,h2⟩:=r;apply propext;cases x with
    |enter f args=>exact⟨λe=>e.mono λout j g=>by cases out<;>exact g,λe=>e.mono λout j g=>by cases out<;>exact g⟩
    |_=>exact Iff.rfl
theorem Sq:Qy E ops rest Q d rg n h0 ds bX (.val v,h)=wpOps E ops rest Q ⟨fO rg d v,n,h,ds,bX⟩:=rfl
theorem QA:Qy E ops rest Q d rg n h0 ds bX (.skip,h)=wpOps E ops rest Q ⟨fO rg d rp,n,h,ds,bX⟩:=rfl
theorem NU:Qy E ops rest Q d rg n h0 ds bX (.enter f args,h)=ba E f args h (uQ E ops rest Q d rg n ds bX):=rfl
theorem NV:Qy E ops rest Q d rg n h0 ds bX (.panic v,h)=Q (.jz v) ⟨rg,n,h,ds,bX⟩:=rfl
theorem Sr:uQ E ops rest Q d rg n ds bX (.ret v) h=wpOps E ops rest Q ⟨fO rg d v,n,h,ds,bX⟩:=rfl
theorem Ss:uQ E ops rest Q d rg n ds bX (.jz v) h=Q (.jz v) ⟨rg,n,h,ds,bX⟩:=rfl
theorem Su:kv K Q .kj st=K st:=rfl
theorem QB:kv K Q .ret st=Q .ret st:=rfl
theorem QC:kv K Q (.exit id) st=Q (.exit id) st:=rfl
theorem QD:kv K Q (.jz v) st=Q (.jz v) st:=rfl
theorem Sv:rV id Q .kj st=Q .kj st:=rfl
theorem Sw:rV id Q .ret st=Q .ret st:=rfl
theorem Sx:rV id Q (.jz v) st=Q (.jz v) st:=rfl
theorem Sy:rV id Q (.exit TO) st=if TO=id then Q .kj st else Q (.exit TO) st:=rfl
theorem Sz:fO rg (some t) v=rg.set v t:=rfl
theorem SA:fO rg none v=rg:=rfl
theorem Lg{fn:Func}{Q:Out->ah->Prop}:atEnd E fn Q .ret ⟨rg,n,h,ds,bX⟩=(ds=[]/\match fp E rg h fn.results.toList with
 |some vs=>Q (.ret (oneOf vs)) h
 |none=>False):=by
 apply propext;constructor
 ·rintro⟨e,vs,h2,g⟩
  have h2:fp E rg h fn.results.toList=some vs:=h2;rw[h2];exact⟨e,g⟩
 ·rintro⟨e,h2⟩
  split at h2
  ·rename_i vs j;exact⟨e,vs,j,h2⟩
  ·exact h2.elim
theorem SB{fn:Func}{Q:Out->ah->Prop}:atEnd E fn Q (.jz v) ⟨rg,n,h,ds,bX⟩=(ds=[]/\Q (.jz v) h):=rfl
end
def DS(ow:Nat->Nat)(i:Nat)(sn:List pq):Prop:=sn.all (λs=>(ow i).testBit s.idx)=true
def DE(E:Env)(ow:Nat->Nat)(i:Nat)(rd:List Rd)(h:ah):Prop:=rd.all (λr=>(ow i).testBit r.idx||jE E h r.rg r.o r.v)=true
def DR(E:Env)(ow:Nat->Nat)(i:Nat)(o:Oper)(rg:T AV)(v:AV)(sn:List pq):Prop:=sn.all (λs=>(ow i).testBit s.idx||jE E s.h rg o v)=true
theorem UC(ow:Nat->Nat)(i:Nat):DS ow i []=True:=by simp[DS]
theorem UD(E:Env)(ow:Nat->Nat)(i:Nat)(h:ah):DE E ow i [] h=True:=by simp[DE]
theorem UE(E:Env)(ow:Nat->Nat)(i:Nat)(o:Oper)(rg:T AV)(v:AV):DR E ow i o rg v []=True:=by simp[DR]
def Iu(E:Env)(ow:Nat->Nat)(i:Nat)(rest:List (Oper×Nat))(Q:bT->St->Prop)(K:T AV->ah->List pq->List Rd->Prop)(sn:List pq)(rd:List Rd)(d:Option Tmp)(rg:T AV)(n:Nat)(h0:ah)(ds:List nh)(bX:Bool):Out->ah->Prop
 | .ret v,h=>DE E ow i rd h/\K (fO rg d v) h ({idx:=i,h:=h0}::sn) rd
 | .jz v,h=>rest.all (λx=>(ow x.2).testBit i)=true/\∀cC,Q (.jz v) ⟨cC,n,h,ds,bX⟩
def Ps(E:Env)(ow:Nat->Nat)(base i:Nat)(rest:List (Oper×Nat))(Q:bT->St->Prop)(K:T AV->ah->List pq->List Rd->Prop)(sn:List pq)(rd:List Rd)(o:Oper)(rg:T AV)(n:Nat)(h:ah)(ds:List nh)(bX:Bool):UA->iB×ah->Prop
 | .pure,(.val v,_)=>K (fO rg o.dst v) h sn rd
 | .read,(.val v,_)=>DR E ow i o rg v sn/\K (fO rg o.dst v) h sn ({idx:=i,o:=o,rg:=rg,v:=v}::rd)
 | .alloc,(.val v,h2)=>match h2.get h.nx,h.get (base+i),yh (base+i) v with
  |some obj,none,some e=>K (fO rg o.dst e) (h.set (base+i) obj) sn rd
  |_,_,_=>False
 | .pK,(.skip,h')=>DS ow i sn/\DE E ow i rd h'/\K (fO rg o.dst rp) h' ({idx:=i,h:=h}::sn) rd
 | .pK,(.val v,h')=>DS ow i sn/\DE E ow i rd h'/\K (fO rg o.dst v) h' ({idx:=i,h:=h}::sn) rd
 | .pK,(.enter f args,h')=>DS ow i sn/\ba E f args h' (Iu E ow i rest Q K sn rd o.dst rg n h ds bX)
 |_,_=>False
def uR(E:Env)(ops:Array Oper)(ow:Nat->Nat)(base n:Nat)(ds:List nh)(bX:Bool)(Q:bT->St->Prop):List (Oper×Nat)->T AV->ah->List pq->List Rd->Prop
 |[],rg,h,_,_=>Q .kj ⟨rg,n,h,ds,bX⟩
 |(o,i)::rest,rg,h,sn,rd=>match fY ops n rg o with
  |some true=>(match eQ E rg h o with
   |some r=>Ps E ow base i rest Q (uR E ops ow base n ds bX Q rest) sn rd o rg n h ds bX (gV E o) r
   |none=>False)
  |some false=>uR E ops ow base n ds bX Q rest (fO rg o.dst rp) h sn rd
  |none=>False
theorem jh{ops:Array Oper}{ow:Nat->Nat}{base n:Nat}{ds:List nh}{bX:Bool}{Q:bT->St->Prop}:∀{l:List (Oper×Nat)}{rg:T AV}{h:ah}{sn:List pq}{rd:List Rd},uR E ops ow base n ds bX Q l rg h sn rd->mo E ops ow base l Q ⟨rg,n,h,ds,bX⟩ sn rd
 |[],rg,h,sn,rd,e=>e
 |(o,i)::rest,rg,h,sn,rd,e=>by
  simp only[uR]at e;simp only[mo];cases hw:fY ops n rg o with
  |none=>rw[hw]at e;exact e
  |some b=>
   rw[hw]at e;cases b with
   |false=>exact jh e
   |true=>
    dsimp only at e⊢;cases ho:eQ E rg h o with
    |none=>rw[ho]at e;exact e.elim
    |some r=>
     rw[ho]at e;obtain⟨x,m⟩:=r;cases g:gV E o with
     |pure=>
      rw[g]at e;cases x with
      |val v=>exact jh e
      |_=>exact e.elim
     |read=>
      rw[g]at e;cases x with
      |val v=>exact⟨e.1,jh e.2⟩
      |_=>exact e.elim
     |alloc=>
      rw[g]at e;cases x with
      |val v=>
       have e:(match m.get h.nx,h.get (base+i),yh (base+i) v with
        |some obj,none,some p=>uR E ops ow base n ds bX Q rest (fO rg o.dst p) (h.set (base+i) obj) sn rd
        |_,_,_=>False):=e
       dsimp only;split at e
       ·rename_i g1 g2 g3
        try rw[g1,g2,g3]
        exact jh e
       ·exact e.elim
      |_=>exact e.elim
     |pK=>
      rw[g]at e;cases x with
      |val v=>exact⟨e.1,e.2.1,jh e.2.2⟩
      |skip=>exact⟨e.1,e.2.1,jh e.2.2⟩
      |enter f args=>
       refine⟨e.1,e.2.mono λout u j=>?_⟩;cases out with
       |ret v=>exact⟨j.1,jh j.2⟩
       |jz v=>exact⟨j.1,j.2 _⟩
      |_=>exact e.elim
theorem Pt{l:List Oper}{Q:bT->St->Prop}{rg:T AV}{n id:Nat}{h:ah}{ds:List nh}{bX:Bool}(e:oI E l.toArray=false)(g:iD l.toArray=true)
 (j:uR E l.toArray (gX l.toArray) h.nx n ds bX Q l.zipIdx rg (h.bump l.length) [] []):ct E (.region id l.toArray true) Q ⟨rg,n,h,ds,bX⟩:=Lf rfl e g (jh j)
section
variable{ops:Array Oper}{rest:List (Oper×Nat)}{o:Oper}{Q:bT->St->Prop}{K:T AV->ah->List pq->List Rd->Prop}{rg:T AV}{n i base:Nat}{h h0 h2:ah}{ds:List nh}{bX:Bool}{ow:Nat->Nat}{sn:List pq}{rd:List Rd}{v:AV}{f:FuncId}{args:eu}{d:Option Tmp}
theorem TT:uR E ops ow base n ds bX Q [] rg h sn rd=Q .kj ⟨rg,n,h,ds,bX⟩:=rfl
theorem SC:uR E ops ow base n ds bX Q ((o,i)::rest) rg h sn rd=(match fY ops n rg o with
 |some true=>(match eQ E rg h o with
  |some r=>Ps E ow base i rest Q (uR E ops ow base n ds bX Q rest) sn rd o rg n h ds bX (gV E o) r
  |none=>False)
 |some false=>uR E ops ow base n ds bX Q rest (fO rg o.dst rp) h sn rd
 |none=>False):=rfl
theorem UL:Ps E ow base i rest Q K sn rd o rg n h ds bX .pure (.val v,h2)=K (fO rg o.dst v) h sn rd:=rfl
theorem UM:Ps E ow base i rest Q K sn rd o rg n h ds bX .read (.val v,h2)=(DR E ow i o rg v sn/\K (fO rg o.dst v) h sn ({idx:=i,o:=o,rg:=rg,v:=v}::rd)):=rfl
theorem UN:Ps E ow base i rest Q K sn rd o rg n h ds bX .alloc (.val v,h2)=(match h2.get h.nx,h.get (base+i),yh (base+i) v with
 |some obj,none,some e=>K (fO rg o.dst e) (h.set (base+i) obj) sn rd
 |_,_,_=>False):=rfl
theorem UO:Ps E ow base i rest Q K sn rd o rg n h ds bX .pK (.skip,h2)=(DS ow i sn/\DE E ow i rd h2/\K (fO rg o.dst rp) h2 ({idx:=i,h:=h}::sn) rd):=rfl
theorem UP:Ps E ow base i rest Q K sn rd o rg n h ds bX .pK (.val v,h2)=(DS ow i sn/\DE E ow i rd h2/\K (fO rg o.dst v) h2 ({idx:=i,h:=h}::sn) rd):=rfl
theorem UQ:Ps E ow base i rest Q K sn rd o rg n h ds bX .pK (.enter f args,h2)=(DS ow i sn/\ba E f args h2 (Iu E ow i rest Q K sn rd o.dst rg n h ds bX)):=rfl
theorem UR:Iu E ow i rest Q K sn rd d rg n h0 ds bX (.ret v) h=(DE E ow i rd h/\K (fO rg d v) h ({idx:=i,h:=h0}::sn) rd):=rfl
theorem US:Iu E ow i rest Q K sn rd d rg n h0 ds bX (.jz v) h=(rest.all (λx=>(ow x.2).testBit i)=true/\∀cC,Q (.jz v) ⟨cC,n,h,ds,bX⟩):=rfl
end
theorem JE(h:ah)(r:Nat):h.gM (some r)=(match h.get r with|some (.map es)=>some es|_=>none):=rfl
attribute[simp] TP Hj Qz NT TQ Sl Sn So TR Sp Sq QA NU NV Sr Ss Su QB QC QD Sv Sw Sx Sy Sz SA Lg SB TT SC UL UM UN UO UP UQ UR US UC UD UE JE
attribute[simp] NJ NK NL NN NO NP NQ NR NS Qx TK ah.Le ah.jF eQ ET EU yY Jr Bb my Cz Bc ti yZ EV qV Be qW Bf wm qZ tw ko Bg vu za zU Du lK qU oS Nz iF xd T.aM T.get_nil AV.cells AV.scalar ah.cO ah.aM ah.loadCells ah.xc ah.storeCells ES th Ba fY uN gV yh fp AL oneOf qm kO A9 ER nC rR x8 Cy
end
section
variable{E:Env}
theorem pM.mono{l:Nat}{args:eu}{h:ah}{Q Q':AV->ah->Prop}(hw:pM E l args h Q)(a:∀v h',Q v h'->Q' v h'):pM E l args h Q':=by
 obtain⟨n,v,h',b,e⟩:=hw;exact⟨n,v,h',b,a _ _ e⟩
theorem NW{ops:Array Oper}{rest:List Oper}{Q:bT->St->Prop}{rg:T AV}{n:Nat}{h h0:ah}{ds:List nh}{bX:Bool}{d:Option Tmp}{l:Nat}{args:eu}:
 Qy E ops rest Q d rg n h0 ds bX (.yield l args,h)=pM E l args h (λv h'=>wpOps E ops rest Q ⟨fO rg d v,n,h',ds,bX⟩):=rfl
theorem QE{l:Nat}{Q:bT->St->Prop}{st:St}:ct E (.label l) Q st=Q .kj st:=rfl
theorem NX{ops:Array Oper}{rest:List Oper}{Q:bT->St->Prop}{rg:T AV}{n:Nat}{h h0:ah}{ds:List nh}{bX:Bool}{d:Option Tmp}{f:FuncId}{args:eu}:
 Qy E ops rest Q d rg n h0 ds bX (.defer f args,h)=(bX=false/\wpOps E ops rest Q ⟨fO rg d rp,n,h,.call f args::ds,bX⟩):=rfl
def tO(Q:bT->St->Prop)(r l:Nat)(a:T AV)(i:Nat)(ds:List nh):Out->ah->Prop
 | .ret _,g=>match g.get l with
  |some (.loop .busy _ _ _ _ _ _)=>False
  |some (.loop _ e n rg ps aa b)=>match e with
   |none=>Q .kj ⟨a,i,g.set l (.loop .exhausted none n rg ps aa b),.mark r::ds,false⟩
   |some .ret=>Q .ret ⟨a,i,g.set l (.loop .exhausted (some .ret) n rg ps aa b),.mark r::ds,false⟩
   |some (.exit id)=>Q (.exit id) ⟨a,i,g.set l (.loop .exhausted (some (.exit id)) n rg ps aa b),.mark r::ds,false⟩
   |_=>False
  |_=>False
 | .jz _,_=>False
theorem Lh{f:Operand}{ps:Array Tmp}{aa b:Code}{Q:bT->St->Prop}{rg:T AV}{n:Nat}{h:ah}{ds:List nh}{g:FuncId}{lQ:eu}
 (y:lK rg f=some (.func g lQ)) (A:AJ E g=true)
 (hw:ba E g (.Cx (h.nx+1)::lQ) (((h.alloc .qT).2).alloc (.loop .ready none n rg ps aa b)).2 (tO Q h.nx (h.nx+1) rg n ds)):
 ct E (.rangeFunc f ps aa b) Q ⟨rg,n,h,ds,false⟩:=by
 obtain⟨m,out,B,C,i⟩:=hw;cases out with
 |jz v=>exact i.elim
 |ret v=>
  simp only[tO]at i;have e:(h.alloc .qT).2.nx=h.nx+1:=rfl
  split at i
  ·exact i.elim
  ·rename_i st j D cC u w F o I;have key:∀x:bT,(match(j:Option Code)with|none=>some bT.kj|some .ret=>some .ret|some (.exit id)=>some (.exit id)|_=>none)=some x->
    ∃m t cd,dM E (iR E m).call (iR E m).round m (.rangeFunc f ps aa b) ⟨rg,n,h,ds,false⟩=some (t,cd)/\t=x/\cd=⟨rg,n,B.set (h.nx+1) (.loop .exhausted j D cC u w F),.mark h.nx::ds,false⟩:=by
    intro x a;refine⟨m,x,_,?_,rfl,rfl⟩;simp only[dM,y,A,Bool.not_true,Bool.or_self,dN,eY,e];rw[C];simp only;rw[I];cases st with
    |busy=>exact(o rfl).elim
    |_=>
     split at a
     ·injection a with a;subst a;rfl
     ·injection a with a;subst a;rfl
     ·injection a with a;subst a;rfl
     ·cases a
   split at i
   ·obtain⟨m,t,cd,a1,rfl,rfl⟩:=key .kj rfl;exact⟨m,_,_,a1,i⟩
   ·obtain⟨m,t,cd,a1,rfl,rfl⟩:=key .ret rfl;exact⟨m,_,_,a1,i⟩
   ·obtain⟨m,t,cd,a1,rfl,rfl⟩:=key (.exit _) rfl;exact⟨m,_,_,a1,i⟩
   ·exact i.elim
  ·exact i.elim
def endRound(l:Nat)(Q:AV->ah->Prop)(e:bT)(st:St):Prop:=
 st.ds=[]/\match st.h.get l with
  |some (.loop _ _ n rg ps aa b)=>match e with
   | .kj=>Q (.bool true) (st.h.set l (.loop .ready none n rg ps aa b))
   | .ret=>Q (.bool false) (st.h.set l (.loop .done (some .ret) n rg ps aa b))
   | .exit id=>Q (.bool false) (st.h.set l (.loop .done (some (.exit id)) n rg ps aa b))
   | .jz _=>False
  |_=>False
theorem pM.mk{l:Nat}{args:eu}{h:ah}{Q:AV->ah->Prop}{pd:Option Code}{n:Nat}{rg:T AV}{ps:Array Tmp}{aa b:Code}
 (C:h.get l=some (.loop .ready pd n rg ps aa b)) (D:(ps.size=args.length/\ps.all (λp=>p<n)))
 (hw:ct E aa (λx g=>x= .kj/\match g.h.get l with
  |some (.loop .ready R1 A cC o t B)=>ct E b (endRound l Q) ⟨g.rg,g.n,g.h.set l (.loop .busy R1 A cC o t B),g.ds,g.bX⟩
  |_=>False) ⟨(ps.toList.zip args).foldl (λr x=>r.set x.2 x.1) rg,n,h,[],true⟩):pM E l args h Q:=by
 obtain⟨m,x,g,F,rfl,u⟩:=jR hw;split at u
 ·rename_i R1 A cC o t B w;obtain⟨m2,e,i,I,J,j⟩:=jR u;have a:=kz (fT m m2) F;have c:=kz (fu m m2) I;split at j
  ·rename_i g2 g3 g4 g5 g6 g7 g8 y;have key:∀v cd,(match e with
    | .kj=>some (AV.bool true,i.h.set l (.loop .ready none g4 g5 g6 g7 g8))
    | .ret=>some (.bool false,i.h.set l (.loop .done (some .ret) g4 g5 g6 g7 g8))
    | .exit id=>some (.bool false,i.h.set l (.loop .done (some (.exit id)) g4 g5 g6 g7 g8))
    | .jz _=>none)=some (v,cd)->Q v cd->pM E l args h Q:=by
    intro v cd he K;refine⟨max m m2+1,v,cd,?_,K⟩;simp only[iR,xy,C];rw[aY D];simp only[j8]at a c;rw[a];simp only;rw[w];simp only;rw[c];simp only;rw[J,y];exact he
   cases e with
   |kj=>exact key _ _ rfl j
   |ret=>exact key _ _ rfl j
   |exit id=>exact key _ _ rfl j
   |jz v=>exact j.elim
  ·exact j.elim
 ·exact u.elim
def jS(E:Env)(k:FuncId)(args:List AV)(h:ah)(p:Option AV)(Q:Option AV->ah->Prop):Prop:=
 ∃n v h' a,nL E (iR E n).call (iR E n).round n k args h p=some (.ret v,h',a)/\Q a h'
def ji(E:Env)(fn:Func)(rg:T AV)(Q:Out->ah->Prop):List nh->Option AV->ah->Prop
 |[],none,h=>match fp E rg h fn.results.toList with
  |some vs=>Q (.ret (oneOf vs)) h
  |none=>False
 |[],some v,h=>Q (.jz v) h
 | .mark r::ds,p,h=>match h.get r with
  |some .qT=>ji E fn rg Q ds p (h.set r .dead)
  |_=>False
 | .call f args::ds,p,h=>jS E f args h p (ji E fn rg Q ds)
theorem sJ{fn:Func}{rg:T AV}{Q:Out->ah->Prop}:∀{ds:List nh}{p:Option AV}{h:ah},ji E fn rg Q ds p h->∃n out h',jr E (nL E (iR E n).call (iR E n).round n) fn rg ds p h=some (out,h')/\Q out h'
 |[],none,h,hw=>by
  simp only[ji]at hw;split at hw
  ·rename_i vs i;exact⟨0,_,_,by simp only[jr,i],hw⟩
  ·exact hw.elim
 |[],some v,h,hw=>⟨0,_,_,rfl,hw⟩
 | .mark r::ds,p,h,hw=>by
  simp only[ji]at hw;split at hw
  ·rename_i j;obtain⟨n,out,h',g,e⟩:=sJ hw;exact⟨n,out,h',by simp only[jr,j];exact g,e⟩
  ·exact hw.elim
 | .call f args::ds,p,h,hw=>by
  obtain⟨n,v,g,u,o,hw⟩:=hw;obtain⟨m,out,h',e,t⟩:=sJ hw;refine⟨max n m,out,h',?_,t⟩;have l:=fT n m;have r:=fu n m;have a:=mO (dX (E:=E) l).1 (dX (E:=E) l).2 l _ _ _ _ _ o;have b:=ku (mO (dX (E:=E) r).1 (dX (E:=E) r).2 r) e;simp only[jr,a];exact b
def yl(E:Env)(fn:Func)(Q:Out->ah->Prop)(x:bT)(st:St):Prop:=
 match x with
 | .kj| .ret=>ji E fn st.rg Q st.ds none st.h
 | .jz v=>ji E fn st.rg Q st.ds (some v) st.h
 |_=>False
theorem ba.SE{k:FuncId}{fn:Func}{c:Code}{args:eu}{h:ah}{Q:Out->ah->Prop}(g:E.ed k=none)(i:E.fn k=some fn)(j:fn.body=some c)(o:args.length<=fn.ntmps)
 (hw:ct E c (yl E fn Q) {rg:=qm args 0 .nil,n:=fn.ntmps,h:=h,ds:=[],bX:=false}):ba E k args h Q:=by
 obtain⟨n,x,st,t,e⟩:=jR hw;have key:∀p,(x= .kj/\p=none\/x= .ret/\p=none\/∃v,x= .jz v/\p=some v)->ji E fn st.rg Q st.ds p st.h->ba E k args h Q:=by
  intro p u w;obtain⟨m,out,h',y,A⟩:=sJ w;refine⟨max n m+1,out,h',?_,A⟩;have l:=fT n m;have r:=fu n m;have a:=kz l t;have b:=ku (mO (dX (E:=E) r).1 (dX (E:=E) r).2 r) y;simp only[iR,yg,xz,Env.told,g,i,j];rw[aY o];simp only[j8]at a;rw[a];rcases u with⟨rfl,rfl⟩|⟨rfl,rfl⟩|⟨v,rfl,rfl⟩<;>exact b
 cases x with
 |kj=>exact key none (.inl ⟨rfl,rfl⟩) e
 |ret=>exact key none (.inr (.inl ⟨rfl,rfl⟩)) e
 |jz v=>exact key (some v) (.inr (.inr ⟨v,rfl,rfl⟩)) e
 |exit id=>exact e.elim
def WS(E:Env)(c:Code)(st:St)(p:Option AV)(Q:bT->St->Option AV->Prop):Prop:=
 ∃n x cd a,jD E (iR E n).call (iR E n).round n c st p=some (x,cd,a)/\Q x cd a
theorem WS.seq{a b:Code}{st:St}{p:Option AV}{Q:bT->St->Option AV->Prop}(h:WS E a st p λx cd g=>match x with
 | .kj=>WS E b cd g Q
 |x=>Q x cd g):WS E (.seq a b) st p Q:=by
 obtain⟨n,x,o,B,i,j⟩:=h;cases x with
 |kj=>
  obtain⟨m,x,e,t,u,w⟩:=j;refine⟨max n m,x,e,t,?_,w⟩;have l:=fT n m;have r:=fu n m;have y:=uu (dX (E:=E) l).1 (dX (E:=E) l).2 l i;have A:=uu (dX (E:=E) r).1 (dX (E:=E) r).2 r u;simp only[jD,y];exact A
 |_=>exact⟨n,_,_,_,by simp only[jD,i],j⟩
theorem WS.QF{id:Nat}{ops:Array Oper}{st:St}{p:Option AV}{Q:bT->St->Option AV->Prop}(hi:ops.any isRec=true)(h:match Av E ops ops.toList st p with
 |some (x,cd,a)=>Q x cd a
 |none=>False):WS E (.region id ops false) st p Q:=by
 split at h
 ·rename_i x cd a ho;exact⟨0,x,cd,a,by simp only[jD];rw[aY hi];exact ho,h⟩
 ·exact h.elim
theorem WS.region{id:Nat}{ops:Array Oper}{st:St}{p:Option AV}{Q:bT->St->Option AV->Prop}(hi:ops.any isRec=false)(h:ct E (.region id ops false) (λx cd=>Q x cd p) st):WS E (.region id ops false) st p Q:=by
 obtain⟨n,x,cd,a,b⟩:=jR h;refine⟨n,x,cd,p,?_,b⟩;simp only[jD];rw[ay (by rw[hi];simp)];simp only[j8]at a;rw[a]
theorem WS.cond{c:Operand}{a b:Code}{st:St}{p:Option AV}{Q:bT->St->Option AV->Prop}(h:match lK st.rg c with
 |some (.bool true)=>WS E a st p Q
 |some (.bool false)=>WS E b st p Q
 |_=>False):WS E (.cond c a b) st p Q:=by
 split at h
 ·rename_i e;obtain⟨n,x,cd,g,i,j⟩:=h;exact⟨n,x,cd,g,by simp only[jD,e];exact i,j⟩
 ·rename_i e;obtain⟨n,x,cd,g,i,j⟩:=h;exact⟨n,x,cd,g,by simp only[jD,e];exact i,j⟩
 ·exact h.elim
def QG:Code->Bool
 | .seq _ _| .region _ _ _| .cond _ _ _=>false
 |_=>true
theorem WS.plain{c:Code}{st:St}{p:Option AV}{Q:bT->St->Option AV->Prop}(a:QG c=true)(h:ct E c (λx cd=>Q x cd p) st):WS E c st p Q:=by
 obtain⟨n,x,cd,b,e⟩:=jR h;refine⟨n,x,cd,p,?_,e⟩;simp only[j8]at b;cases c with
 |seq=>cases a
 |region=>cases a
 |cond=>cases a
 |_=>simp only[jD];rw[b]
theorem WS.draw{id:Nat}{ops:Array Oper}{st:St}{p:Option AV}{Q:bT->St->Option AV->Prop}(h:ct E (.region id ops true) (λx cd=>Q x cd p) st):WS E (.region id ops true) st p Q:=by
 obtain⟨n,x,cd,a,b⟩:=jR h;refine⟨n,x,cd,p,?_,b⟩;simp only[j8]at a;simp only[jD];rw[a]
theorem jS.mk{k:FuncId}{fn:Func}{c:Code}{args:eu}{h:ah}{p:Option AV}{Q:Option AV->ah->Prop}(m:E.fn k=some fn)(o:fn.body=some c)(t:args.length<=fn.ntmps)
 (hw:WS E c {rg:=qm args 0 .nil,n:=fn.ntmps,h:=h,ds:=[],bX:=false} p (λx st e=>match x with
  | .kj| .ret=>st.ds=[]/\(fp E st.rg st.h fn.results.toList).isSome=true/\Q e st.h
  |_=>False)):jS E k args h p Q:=by
 obtain⟨n,x,st,e,u,g⟩:=hw;cases x with
 |kj=>
  obtain⟨a,b,i⟩:=g;obtain⟨vs,j⟩:=Option.isSome_iff_exists.1 b;refine⟨n,oneOf vs,st.h,e,?_,i⟩;simp only[nL,m,o];rw[aY t,u];simp only;rw[a,j]
 |ret=>
  obtain⟨a,b,i⟩:=g;obtain⟨vs,j⟩:=Option.isSome_iff_exists.1 b;refine⟨n,oneOf vs,st.h,e,?_,i⟩;simp only[nL,m,o];rw[aY t,u];simp only;rw[a,j]
 |_=>exact g.elim
section
variable{fn:Func}{Q:Out->ah->Prop}{rg:T AV}{n:Nat}{h:ah}{ds:List nh}{bX:Bool}{v:AV}{r:Nat}{p:Option AV}{f:FuncId}{args:eu}
theorem TU:yl E fn Q .ret ⟨rg,n,h,ds,bX⟩=ji E fn rg Q ds none h:=rfl
theorem TV:yl E fn Q .kj ⟨rg,n,h,ds,bX⟩=ji E fn rg Q ds none h:=rfl
theorem TW:yl E fn Q (.jz v) ⟨rg,n,h,ds,bX⟩=ji E fn rg Q ds (some v) h:=rfl
theorem UT:ji E fn rg Q [] none h=(match fp E rg h fn.results.toList with
 |some vs=>Q (.ret (oneOf vs)) h
 |none=>False):=rfl
theorem UU:ji E fn rg Q [] (some v) h=Q (.jz v) h:=rfl
theorem UW:ji E fn rg Q (.mark r::ds) p h=(match h.get r with
 |some .qT=>ji E fn rg Q ds p (h.set r .dead)
 |_=>False):=rfl
theorem UX:ji E fn rg Q (.call f args::ds) p h=jS E f args h p (ji E fn rg Q ds):=rfl
theorem SF{fn:Func}{Q:Out->ah->Prop}:atEnd E fn Q .kj ⟨rg,n,h,ds,bX⟩=(ds=[]/\match fp E rg h fn.results.toList with
 |some vs=>Q (.ret (oneOf vs)) h
 |none=>False):=Lg
end
theorem Iv{a:Nat->Nat}{i:Nat}{r:Rd}{rd:List Rd}{h:ah}:DE E a i (r::rd) h=(((a i).testBit r.idx=true\/jE E h r.rg r.o r.v=true)/\DE E a i rd h):=by
 unfold DE;rw[List.all_cons,cf,qQ]
theorem Iw{a:Nat->Nat}{i:Nat}{o:Oper}{rg:T AV}{v:AV}{s:pq}{sn:List pq}:DR E a i o rg v (s::sn)=(((a i).testBit s.idx=true\/jE E s.h rg o v=true)/\DR E a i o rg v sn):=by
 unfold DR;rw[List.all_cons,cf,qQ]
theorem Fv{h a:ah}{rg:T AV}{o:Oper}{v:AV}(e:eQ E rg h o=some (.val v,a)):jE E h rg o v=true:=by
 simp only[jE,e,AV.beq_iff]
theorem ym{h:ah}{rg:T AV}{o:Oper}{v:AV}(e:match eQ E rg h o with
 |some (.val a,_)=>a=v
 |_=>False):jE E h rg o v=true:=by
 split at e
 ·rename_i b;subst e;exact Fv b
 ·exact e.elim
theorem R3{a:Nat->Nat}{i j:Nat}{h:ah}{sn:List pq}(b:(a i).testBit j=true)(e:DS a i sn):DS a i (⟨j,h⟩::sn):=by
 unfold DS at*;rw[List.all_cons,cf];exact⟨b,e⟩
theorem Ll{a:Nat->Nat}{i j:Nat}{o:Oper}{rg:T AV}{v:AV}{rd:List Rd}{h:ah}(b:(a i).testBit j=true)(e:DE E a i rd h):DE E a i (⟨j,o,rg,v⟩::rd) h:=by
 rw[Iv];exact⟨.inl b,e⟩
theorem JF{a:Nat->Nat}{i j:Nat}{o:Oper}{rg:T AV}{v:AV}{rd:List Rd}{h:ah}(e:match eQ E rg h o with
 |some (.val b,_)=>b=v
 |_=>False) (g:DE E a i rd h):DE E a i (⟨j,o,rg,v⟩::rd) h:=by
 rw[Iv];exact⟨.inr (ym e),g⟩
theorem R4{a:Nat->Nat}{i j:Nat}{o:Oper}{rg:T AV}{v:AV}{h:ah}{sn:List pq}(b:(a i).testBit j=true)(e:DR E a i o rg v sn):DR E a i o rg v (⟨j,h⟩::sn):=by
 rw[Iw];exact⟨.inl b,e⟩
theorem Pu{a:Nat->Nat}{i j:Nat}{o:Oper}{rg:T AV}{v:AV}{h:ah}{sn:List pq}(e:match eQ E rg h o with
 |some (.val b,_)=>b=v
 |_=>False) (g:DR E a i o rg v sn):DR E a i o rg v (⟨j,h⟩::sn):=by
 rw[Iw];exact⟨.inr (ym e),g⟩
theorem JG(a:Nat->Nat)(i:Nat):DS a i []:=by rw[UC];trivial
theorem Bu(a:Nat->Nat)(i:Nat)(h:ah):DE E a i [] h:=by rw[UD];trivial
theorem JH(a:Nat->Nat)(i:Nat)(o:Oper)(rg:T AV)(v:AV):DR E a i o rg v []:=by rw[UE];trivial
attribute[simp] QE NW NX TU TV TW UT UU UW UX SF zb tj
end
end Go.Am
