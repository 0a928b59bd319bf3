/- Lemmas for CheckTurns; each states its own conditions. -/
import Derived.TacticsIn
import Derived.Scope
import Derived.RangeFuncLeaves
import Derived.Lib.Bytealg
import GoSem.ClaimChange
import Derived.Test.YtaekaifihehgdaaGreatDoorA
set_option maxRecDepth 100000
set_option maxHeartbeats 0
set_option linter.unusedSectionVars false
set_option linter.unusedSimpArgs false
set_option linter.unusedVariables false
namespace Go.Am
section
variable[gJ]
variable{E:Env}
def jP(ρ:Option Nat):Fence:={Fence.wide with round:=ρ}
theorem yd{ρ:Option Nat}{n:Nat}{P:Program}{f:FuncId}{args:Array Value}{w:World}{R:Ending->World->Prop}:CallsIn (jP ρ) n P f args w R=CallsIn Fence.wide n P f args w R:=rfl
theorem Cc{ρ:Option Nat}{n:Nat}{P:Program}{l:Nat}{f:FuncId}{tmps:Array Value}{ae b:Code}{w:World}{R:Ending->World->Prop}:RoundIn (jP ρ) n P l f tmps ae b w R=RoundIn Fence.wide n P l f tmps ae b w R:=rfl
def NF(ι:cq)(d:nh)(d':Deferred):Prop:=
 match d with
 | .call f args=>∃cap a:Array Value,d'={target:= .fn (.func f) cap,args:=a}/\bp ι args (a.toList++cap.toList)
 | .mark r=>∃L,ι r=some L/\d'={target:= .collected L.b,args:= #[]}
def tJ(ι:cq):List nh->List Deferred->Prop
 |[],[]=>True
 |d::ds,d'::a=>NF ι d d'/\tJ ι ds a
 |_,_=>False
theorem NF.mono{ι cW:cq}(hle:ι.le cW){d:nh}{d':Deferred}(h:NF ι d d'):NF cW d d':=by
 cases d with
 |call f args=>obtain⟨cap,a,b,e⟩:=h;exact⟨cap,a,b,e.mono hle⟩
 |mark r=>obtain⟨L,b,e⟩:=h;exact⟨L,hle r L b,e⟩
theorem tJ.mono{ι cW:cq}(hle:ι.le cW):∀{ds:List nh}{a:List Deferred},tJ ι ds a->tJ cW ds a
 |[],[],_=>trivial
 |d::ds,d'::a,h=>⟨h.1.mono hle,tJ.mono hle h.2⟩
 |[],_::_,h=>h.elim
 |_::_,[],h=>h.elim
structure qj(ι:cq)(st:St)(a:Act)(w:World)(ρ:Option Nat):Prop where
 uf:cj ι st.rg a.tmps
 n:a.tmps.size=st.n
 heap:dt ι st.h w
 ds:tJ ι st.ds a.defers
 bX:st.bX=ρ.isSome
def G8(ι:cq)(v:AV)(chain:List PanicEntry):Prop:=∃y,chain=[{v:=y,recovered:=false}]/\bG ι v y
def j5(ι:cq):Out->Ending->Prop
 | .ret v,.returned y=>bG ι v y
 | .jz v,.panicked chain=>G8 ι v chain
 |_,_=>False
def Im(ι:cq):bT->Exit->Prop
 | .kj,.normal=>True
 | .ret,.ret=>True
 | .exit i,.exit j=>i=j
 | .jz v,.panic chain=>G8 ι v chain
 |_,_=>False
structure oE(E:Env)(call:fW)(round:eg):Prop where
 call:∀{k:FuncId}{args:List AV}{h:ah}{out:Out}{h':ah}{ι:cq}{w:World}{bO:Array Value},call k args h=some (out,h')->dt ι h w->bp ι args bO.toList->
  CallsIn Fence.wide 0 E.P k bO w λe w'=>∃cW,Ext ι h w cW h' w'/\j5 cW out e
 round:∀{l:Nat}{args:List AV}{h:ah}{v:AV}{h':ah}{ι:cq}{w:World}{L:Loc}{st:LoopState}{pd:Option Code}{n:Nat}{rg:T AV}{ps:Array Tmp}{ae b:Code}{tm:Array Value}{df:Nat}{fn:FuncId}{vs:List Value},
  round l args h=some (v,h')->dt ι h w->ι l=some L->h.get l=some (.loop st pd n rg ps ae b)->
  w.heap[L.b]?=some (.loop {state:=st,pending:=pd,fn:=fn,tmps:=tm,params:=ps,assign:=ae,body:=b,defers:=df})->cj ι rg tm->bp ι args vs->vs.length=ps.size->
  RoundIn Fence.wide 0 E.P L.b fn ((ps.zip vs.toArray).foldl (λt x=>t.setIfInBounds x.1 x.2) tm) ae b w λe w'=>∃cW y,e= .returned y/\Ext ι h w cW h' w'/\bG cW v y
theorem cj.put{ι:cq}{rg:T AV}{a:Act}{d:Option Tmp}{v:AV}{y:Value}(f:cj ι rg a.tmps)(g:uN a.tmps.size d=true)(j:bG ι v y):cj ι (fO rg d v) (a.put d y).tmps:=by
 cases d with
 |none=>exact f
 |some d=>
  simp[uN]at g;intro i x b;simp only[fO,T.aM]at b;simp only[Act.put];split at b
  ·rename_i e;subst e;cases b;exact⟨y,by simp[g],j⟩
  ·rename_i e;obtain⟨z,m,hr⟩:=f i x b;exact⟨z,by rw[dH (λh=>e h.symm)];exact m,hr⟩
theorem lU(a:Act)(d:Option Tmp)(y:Value):(a.put d y).tmps.size=a.tmps.size:=by
 cases d<;>simp[Act.put]
theorem iU(a:Act)(d:Option Tmp)(y:Value):(a.put d y).defers=a.defers:=by
 cases d<;>simp[Act.put]
theorem zc(ι:cq):bG ι rp undef:=bG.undef ι
theorem kP{ι:cq}{ops:Array Oper}{n:Nat}{rg:T AV}{o:Oper}{b:Bool}{a:Act}(h:fY ops n rg o=some b)(m:cj ι rg a.tmps):
 Region.wanted o (yielded ops a.tmps)=b/\uN n o.dst=true:=by
 unfold fY at h;split at h
 ·rename_i t;refine⟨?_,t⟩;unfold Region.wanted;split at h
  ·rename_i f;simp at h;subst h;simp[f]
  ·rename_i j want f;simp only[f];split at h
   ·rename_i e;simp at h;subst h;simp[yielded,e]
   ·rename_i d e;split at h
    ·rename_i p g;simp at h;subst h;obtain⟨y,i,hr⟩:=m d _ g;have:=hr.lR;subst this;have:yielded ops a.tmps j=some p:=(by simp[yielded,e,i]);rw[this];cases p<;>cases want<;>rfl
    ·rename_i g;simp at h;subst h;obtain⟨y,i,hr⟩:=m d _ g;obtain⟨cs,rfl,_⟩:=hr.AG;have:yielded ops a.tmps j=none:=(by simp[yielded,e,i]);rw[this];rfl
    ·simp at h
 ·simp at h
theorem AI(V:E.Ok){call:fW}{round:eg}(hm:oE E call round){ι:cq}{st cd:St}{a:Act}{w:World}{ρ:Option Nat}{rg:T AV}{o:Oper}{r:iB×ah}{x:Option AV}
 (W:cj ι rg a.tmps) (A:dt ι st.h w) (C:tJ ι st.ds a.defers) (D:st.bX=ρ.isSome) (t:eQ E rg st.h o=some r) (g:qw call round o.dst st r=some (x,cd))
 {K:Act->World->Prop} {Q:Exit->Act->World->Prop}
 (F:x=none->∀cW v y I w',Ext ι st.h w cW cd.h w'->bG cW v y->cd.rg=fO st.rg o.dst v->cd.n=st.n->cd.bX=st.bX->tJ cW cd.ds I->K (({a with defers:=I}:Act).put o.dst y) w')
 (S:∀v,x=some v->∀cW chain w',Ext ι st.h w cW cd.h w'->G8 cW v chain->cd.rg=st.rg->cd.n=st.n->cd.bX=st.bX->cd.ds=st.ds->Q (.panic chain) a w'):
 o.wpIn (jP ρ) 0 E.P a w K Q:=by
 obtain⟨r,h1⟩:=r;refine⟨λ_ _=>trivial,?_⟩;have i:=wx V W A t;have J:(o.semAt (jP ρ).round a.eval).run E.P w=(execOp a.eval o).run E.P w:=by
  show(o.semAt ρ a.eval).run E.P w=_;cases ρ with
  |none=>rfl
  |some l=>
   rw[Oper.semAt_some l a.eval o];intro c ho;simp only[eQ,zb,ho]at t;split at t
   ·split at t
    ·simp at t;obtain⟨rfl,rfl⟩:=t;simp[qw,D]at g
    ·simp at t
   ·simp at t
 rw[J];revert i;generalize (execOp a.eval o).run E.P w=res;intro i;cases res with
 |ok nx w'=>
  cases nx with
  |value y=>
   obtain⟨v,cW,rfl,N,j⟩:=i;simp[qw]at g;obtain⟨rfl,rfl⟩:=g;rw[Oper.uponIn_value];exact F rfl cW v y a.defers w' j N rfl rfl rfl (C.mono (j.le A))
  |skip=>
   obtain⟨cW,rfl,j⟩:=i;simp[qw]at g;obtain⟨rfl,rfl⟩:=g;rw[Oper.uponIn_skip];exact F rfl cW rp undef a.defers w' j (zc _) rfl rfl rfl (C.mono (j.le A))
  |enter f args=>
   obtain⟨ae,rfl,m,rfl,rfl⟩:=i;simp only[qw]at g;rw[Oper.uponIn_enter];refine⟨λh=>by simp[jP,Fence.wide]at h,?_⟩;rw[yd];split at g
   ·rename_i v U O;simp at g;obtain⟨rfl,rfl⟩:=g;refine(hm.call O A m).mono λe u he=>?_;obtain⟨cW,j,p⟩:=he;cases e with
    |returned y=>exact F rfl cW v y a.defers u j p rfl rfl rfl (C.mono (j.le A))
    |panicked chain=>exact p.elim
    |outgrown=>exact p.elim
   ·rename_i v U O;simp at g;obtain⟨rfl,rfl⟩:=g;refine(hm.call O A m).mono λe u he=>?_;obtain⟨cW,j,p⟩:=he;cases e with
    |returned y=>exact p.elim
    |panicked chain=>exact S v rfl cW chain u j p rfl rfl rfl rfl
    |outgrown=>exact p.elim
   ·simp at g
  |round l f tmps ae b=>
   obtain⟨id,args,L,Z,pd,n,A1,ps,tm,df,vs,rfl,hL,hl,hb,R,m,rfl,hlen,rfl,rfl,rfl⟩:=i;simp only[qw]at g;rw[Oper.uponIn_round];refine⟨λh=>by simp[jP,Fence.wide]at h,?_⟩;rw[Cc];split at g
   ·rename_i v U O;simp at g;obtain⟨rfl,rfl⟩:=g;refine(hm.round O A hL hl hb R m hlen).mono λe u he=>?_;obtain⟨cW,y,rfl,j,N⟩:=he;exact F rfl cW v y a.defers u j N rfl rfl rfl (C.mono (j.le A))
   ·simp at g
  |defer d=>
   obtain⟨f,ae,cap,B,rfl,rfl,m,rfl,rfl⟩:=i;simp only[qw]at g;split at g
   ·simp at g
   ·simp at g;obtain⟨rfl,rfl⟩:=g;rw[Oper.uponIn_defer];exact F rfl ι rp undef _ w' (Ext.refl A) (zc _) rfl rfl rfl ⟨⟨cap,B,rfl,m⟩,C⟩
  |recover=>
   obtain⟨rfl,_⟩:=i;simp[qw]at g
  |_=>exact i.elim
 |halt hx w'=>
  cases hx with
  |panic v=>
   obtain⟨x',rfl,N,rfl,rfl⟩:=i;simp[qw]at g;obtain⟨rfl,rfl⟩:=g;rw[Oper.uponIn_panic];exact S x' rfl ι _ w' (Ext.refl A) ⟨v,rfl,N⟩ rfl rfl rfl rfl
  |_=>exact i.elim
def dS(ι:cq)(st:St)(w:World)(ρ:Option Nat)(x:bT)(cd:St)(Q:Exit->Act->World->Prop):Prop:=
 ∀e cW a w',Ext ι st.h w cW cd.h w'->qj cW cd a w' ρ->Im cW x e->Q e a w'
theorem xw(C:E.Ok){call:fW}{round:eg}(hm:oE E call round){ops:Array Oper}{ρ:Option Nat}{x:bT}{cd:St}{Q:Exit->Act->World->Prop}:
 ∀{l:List Oper}{st:St}{ι:cq}{a:Act}{w:World},zd E call round ops l st=some (x,cd)->qj ι st a w ρ->dS ι st w ρ x cd Q->wpListIn (jP ρ) 0 E.P ops Q l a w
 |[],st,ι,a,w,hr,b,p=>by
  simp[zd]at hr;obtain⟨rfl,rfl⟩:=hr;exact p .normal ι a w (Ext.refl b.heap) b trivial
 |o::l,st,ι,a,w,hr,b,p=>by
  simp only[zd]at hr;simp only[wpListIn];split at hr
  ·simp at hr
  ·rename_i hw;obtain⟨hw,t⟩:=kP hw b.uf;rw[<-b.n]at t;rw[hw,ay sp];exact⟨λ_ _=>trivial,xw C hm hr ⟨b.uf.put t (zc _),by rw[lU];exact b.n,b.heap,by rw[iU];exact b.ds,b.bX⟩ p⟩
  ·rename_i hw;obtain⟨hw,t⟩:=kP hw b.uf;rw[<-b.n]at t;rw[hw,aY rfl];split at hr
   ·simp at hr
   ·rename_i r u;split at hr
    ·simp at hr
    ·rename_i D g;refine AI C hm b.uf b.heap b.ds b.bX u g (λ_ cW v y F w' f A i I j m=>?_) (λv A=>by cases A);refine xw C hm hr ⟨?_,?_,f.rel,?_,?_⟩ ?_
     ·rw[i];exact cj.put (a:={a with defers:=F}) (b.uf.mono (f.le b.heap)) t A
     ·rw[lU,I];exact b.n
     ·rw[iU];exact m
     ·rw[j];exact b.bX
     ·exact λe J a2 K he N O=>p e J a2 K (f.trans he) N O
    ·rename_i v D g;simp at hr;obtain⟨rfl,rfl⟩:=hr;refine AI C hm b.uf b.heap b.ds b.bX u g (λh=>by cases h) (λR A cW chain w' f B i I j m=>?_);cases A;refine p _ cW a w' f ⟨?_,?_,f.rel,?_,?_⟩ B
     ·rw[i];exact b.uf.mono (f.le b.heap)
     ·rw[I];exact b.n
     ·rw[m];exact b.ds.mono (f.le b.heap)
     ·rw[j];exact b.bX
end
section
variable{E:Env}
theorem uh{rg cC:T AV}:∀{xs:List Operand},(∀x∈xs,lK rg x=lK cC x)->qU rg xs=qU cC xs
 |[],_=>rfl
 |x::xs,h=>by simp only[qU];rw[h x sp,uh λy a=>h y (by simp[a])]
theorem sF{rg cC:T AV}:∀{xs:List (Nat×Operand)},(∀x∈xs,lK rg x.2=lK cC x.2)->oS rg xs=oS cC xs
 |[],_=>rfl
 |(i,x)::xs,h=>by simp only[oS];rw[h (i,x) sp,sF λy a=>h y (by simp[a])]
theorem Cg{rg cC:T AV}{len cap:Nat}{lo hi:Option Operand}(a:∀x,lo=some x->lK rg x=lK cC x)(b:∀x,hi=some x->lK rg x=lK cC x):kO rg len cap lo hi=kO cC len cap lo hi:=by
 cases lo with
 |none=>cases hi with
  |none=>rfl
  |some x=>simp only[kO,b x rfl]
 |some y=>cases hi with
  |none=>simp only[kO,a y rfl]
  |some x=>simp only[kO,a y rfl,b x rfl]
theorem Jy{rg cC:T AV}{h:ah}{o:Oper}(e:∀x∈o.op.operands.toList,lK rg x=lK cC x):eQ E rg h o=eQ E cC h o:=by
 cases ho:o.op<;>simp only[ho,Op.operands]at e
 case call c=>
  simp only[eQ,zU,ho];have g:qU rg c.args.toList=qU cC c.args.toList:=uh λx hm=>e x (by simp only[Call.operands,Array.toList_append,aP];exact .inr hm);rw[g];cases i:c.callee with
  |value f=>
   have j:lK rg f=lK cC f:=e f (by simp[Call.operands,i]);cases qU cC c.args.toList with
   |none=>rfl
   |some args=>simp only[j]
  |_=>rfl
 case defer c=>
  simp only[eQ,zb,ho];have g:qU rg c.args.toList=qU cC c.args.toList:=uh λx hm=>e x (by simp only[Call.operands,Array.toList_append,aP];exact .inr hm);rw[g];cases i:c.callee with
  |value f=>
   have j:lK rg f=lK cC f:=e f (by simp[Call.operands,i]);cases qU cC c.args.toList with
   |none=>rfl
   |some args=>simp only[j]
  |_=>cases qU cC c.args.toList<;>rfl
 case build t ps=>
  simp only[eQ,Bb,ho];rw[sF (cC:=cC) λx hm=>e x.2 (by simp;exact⟨x.1,U7 hm⟩)]
 case buildSlice t n ps=>
  simp only[eQ,my,ho];rw[sF (cC:=cC) λx hm=>e x.2 (by simp;exact⟨x.1,U7 hm⟩)]
 case makeFunc f first lQ=>
  cases f<;>simp only[eQ,tj,ho];rw[uh (cC:=cC) λx hm=>e x (by simp;right;simpa using hm)]
 case slice t x lo hi mx=>
  cases mx with
  |some m=>simp only[eQ,ho]
  |none=>
   have h0:lK rg x=lK cC x:=e x sp;have u:∀a b,kO rg a b lo hi=kO cC a b lo hi:=λa b=>Cg (λy p=>e y (by simp[p])) (λy p=>e y (by simp[p]));simp only[eQ,za,ho,h0,u]
 case makeMap t r=>cases r<;>simp only[eQ,tw,ho]
 all_goals
  simp at e
  try simp only[eQ,ET,EU,yY,Jr,Cz,Bc,ti,yZ,EV,nC,ko,mf,qV,Be,qW,Bf,wm,qZ,oY,vu,Bg,ho,e]
def ah.le(h h':ah):Prop:=∀i x,h.get i=some x->h'.get i=some x
theorem ah.le_refl(h:ah):h.le h:=λ_ _ a=>a
theorem ah.le_trans{h e f:ah}(a:h.le e)(b:e.le f):h.le f:=λi x g=>b i x (a i x g)
theorem ah.le.loadCells{h h':ah}(hle:h.le h'){i off n:Nat}{cs:eu}(a:h.loadCells i off n=some cs):h'.loadCells i off n=some cs:=by
 unfold ah.loadCells at a⊢;split at a
 ·rename_i b;rw[hle i _ b];exact a
 ·simp at a
theorem ah.le.xc{h h':ah}(hle:h.le h'){i off:Nat}{v:AV}(a:h.xc i off=some v):h'.xc i off=some v:=by
 unfold ah.xc at a⊢;split at a
 ·rename_i b;rw[hle i _ b];exact a
 ·simp at a
theorem ah.le.uM{h h':ah}(hle:h.le h'){p q:Nat×Nat}{b:Bool}(a:Am.uM h p q=some b):Am.uM h' p q=some b:=by
 unfold Am.uM at a⊢;split at a
 ·rename_i e f;rw[hle _ _ e,hle _ _ f];exact a
 ·simp at a
theorem ah.le.ER{h h':ah}(hle:h.le h'){t:TypeId}{c:Bool}{x y:AV}{b:Bool}(f:Am.ER E h t c x y=some b):Am.ER E h' t c x y=some b:=by
 cases x<;>cases y<;>try exact f
 case slice.slice a n b m=>cases b<;>exact f
 case map.map a b=>cases b<;>exact f
 case ptr.ptr p q=>
  simp only[Am.ER]at f⊢;cases hu:E.nv t with
  |none=>simp[hu]at f
  |some d=>
   cases d<;>simp only[hu]at f⊢<;>try exact f
   cases p<;>cases q<;>try exact f
   rename_i e p q;cases g:E.siz e with
   |none=>simp[g]at f
   |some n=>
    cases n with
    |zero=>simp[g]at f
    |succ n=>simp only[g]at f⊢;exact hle.uM f
theorem ah.le.ES{h h':ah}(hle:h.le h'){op:BinOp}{t:TypeId}{c:Bool}{x y v:AV}(a:Am.ES E h op t c x y=some v):Am.ES E h' op t c x y=some v:=by
 revert a;unfold Am.ES;split
 ·exact id
 ·exact id
 ·rename_i g i;intro a;have key:∀f:Bool->AV,(Am.ER E h t c x y).map f=some v->(Am.ER E h' t c x y).map f=some v:=λf e=>by
   cases he:Am.ER E h t c x y with
   |none=>simp[he]at e
   |some b=>rw[hle.ER he];rw[he]at e;exact e
  cases op<;>first|exact key _ a|exact a
theorem ah.le.mw{h h':ah}(hle:h.le h'){x y:AV}{b:Bool}(a:Am.mw h x y=some b):Am.mw h' x y=some b:=by
 unfold Am.mw at a⊢;split<;>first|exact a|exact hle.uM a|simp at a
theorem ah.le.eD{h h':ah}(hle:h.le h'){k:AV}:∀{es:List (AV×AV)}{n:Nat}{r:Option (Nat×AV)},Am.eD h k es n=some r->Am.eD h' k es n=some r
 |[],n,r,a=>a
 |e::es,n,r,a=>by
  simp only[Am.eD]at a⊢;cases f:Am.mw h k e.1 with
  |none=>simp[f]at a
  |some b=>
   rw[hle.mw f];rw[f]at a;cases b with
   |true=>exact a
   |false=>exact hle.eD a
theorem ah.le.gM{h h':ah}(hle:h.le h'){m:Option Nat}{es:List (AV×AV)}(a:h.gM m=some es):h'.gM m=some es:=by
 cases m with
 |none=>exact a
 |some r=>
  simp only[ah.gM]at a⊢;split at a
  ·rename_i b;rw[hle _ _ b];exact a
  ·simp at a
theorem ah.le.Du{h h':ah}(hle:h.le h'){t:TypeId}{x z:AV}(a:Am.Du E h t x=some z):Am.Du E h' t x=some z:=by
 unfold Am.Du at a⊢;split at a
 ·simp_all
 ·simp_all
 ·simp_all
 ·simp_all
 ·rename_i e f r hu;split at a
  ·rename_i b
   try rw[hu]
   simp only[hle _ _ b];exact a
  ·simp at a
 ·simp at a
theorem KR{rg:T AV}{h h':ah}{o:Oper}{v:AV}(i:gV E o= .pure)(a:eQ E rg h o=some (.val v,h')):∀j,eQ E rg j o=some (.val v,j):=by
 intro j;cases ho:o.op<;>simp only[gV,ho]at i<;>first|contradiction|skip
 case call c=>
  cases e:c.callee with
  |value f=>rw[e]at i;simp at i
  |invoke r m=>rw[e]at i;simp at i
  |builtin b=>
   rw[e]at i;simp only[eQ,zU,ho,e]at a⊢;cases g:qU rg c.args.toList with
   |none=>simp[g]at a
   |some args=>
    simp only[g]at a⊢;cases b<;>first|(simp at i;done)|skip
    all_goals
     split at a
     all_goals first|contradiction|(simp at a;done)|(simp only[bj,dz,iB.val.injEq]at a⊢;exact⟨a.1,trivial⟩)
 case convert s d x=>
  simp only[eQ,nC,ho]at a⊢
  repeat' split at a
  all_goals first|(simp at a;done)|(simp at a;obtain⟨rfl,rfl⟩:=a;simp_all)
 all_goals
  simp only[eQ,ET,EU,yY,Jr,Bb,my,Cz,Bc,ti,yZ,EV,nC,ko,tj,tw,mf,za,qV,Be,qW,Bf,wm,qZ,oY,vu,zU,zb,Bg,ho]at a⊢
  repeat' split at a
  all_goals first|(simp at a;done)|(simp at a;obtain⟨rfl,rfl⟩:=a;simp_all)
theorem E7{rg:T AV}{h h' I:ah}{o:Oper}{v:AV}(C:gV E o= .read)(g:eQ E rg h o=some (.val v,h'))(hle:h.le I):eQ E rg I o=some (.val v,I)/\h'=h:=by
 cases ho:o.op<;>simp only[gV,ho]at C<;>first|contradiction|skip
 case call c=>
  cases j:c.callee with
  |value f=>rw[j]at C;simp at C
  |invoke r m=>rw[j]at C;simp at C
  |builtin b=>
   rw[j]at C;simp only[eQ,zU,ho,j]at g⊢;cases w:qU rg c.args.toList with
   |none=>simp[w]at g
   |some args=>
    simp only[w]at g⊢;cases b<;>first|(simp at C;done)|skip
    match args,g with
    |[],g=>simp at g
    |_::_::_,g=>simp at g
    |[x],g=>
     simp only at g⊢;split at g
     ·rename_i t ht;split at g
      ·rename_i J A;simp at g;obtain⟨rfl,rfl⟩:=g;simp only[hle.Du A];exact⟨trivial,trivial⟩
      ·simp at g
     ·simp at g
 case convert s d x=>split at C<;>simp at C
 case binOp op t x y u=>
  simp only[eQ,yZ,ho]at g⊢;split at g
  ·rename_i a b Z F;split at g
   ·rename_i J A;simp at g;obtain⟨rfl,rfl⟩:=g;simp only[hle.ES A];exact⟨trivial,trivial⟩
   ·simp at g
  ·simp at g
 case load t x=>
  simp only[eQ,Cz,ho]at g⊢;split at g
  ·rename_i i off D;split at g
   ·rename_i n V K;split at g
    ·rename_i cs N;simp at g;obtain⟨rfl,rfl⟩:=g;simp only[hle.loadCells N];exact⟨trivial,trivial⟩
    ·simp at g
   ·rename_i n V K;split at g
    ·rename_i J N;simp at g;obtain⟨rfl,rfl⟩:=g;simp only[hle.xc N];exact⟨trivial,trivial⟩
    ·simp at g
   ·simp at g
  ·simp at g
 case lookup t x ix ok=>
  simp only[eQ,wm,ho]at g⊢;split at g
  ·rename_i kt vt m k hu D W
   try simp only[hu,D,W]
   split at g
   ·rename_i O;rw[aY O];split at g
    ·rename_i es P;simp only[hle.gM P];cases Q:eD h k es 0 with
     |none=>simp[Q]at g
     |some q=>
      simp only[hle.eD Q];rw[Q]at g;cases q with
      |some p=>simp at g⊢;exact⟨g.1,g.2.symm⟩
      |none=>
       try simp only at g
       split at g
       ·rename_i R;simp at R
       ·rename_i z ag V K R;split at g
        ·rename_i J A
         try simp only[K,R,A]
         simp at g⊢;exact⟨g.1,g.2.symm⟩
        ·simp at g
       ·simp at g
    ·simp at g
   ·simp at g
  ·simp at g
 case slice t x lo hi mx=>
  cases mx with
  |some m=>simp[eQ,ho]at g
  |none=>
   simp only[eQ,za,ho]at g⊢;split at g
   ·rename_i s hu D;split at g
    ·rename_i l r F;simp at g;obtain⟨rfl,rfl⟩:=g;simp only;exact⟨trivial,trivial⟩
    ·simp at g
   ·rename_i e a len hu D;split at g
    ·rename_i s l r S F
     try simp only[hu,D,S,F]
     cases a with
     |none=>simp at g⊢;exact⟨g.1,g.2.symm⟩
     |some p=>
      obtain⟨i,off⟩:=p;simp only at g⊢;split at g
      ·rename_i rw es cs U;simp only[hle _ _ U];split at g
       ·rename_i B;rw[aY B];simp at g⊢;exact⟨g.1,g.2.symm⟩
       ·simp at g
      ·simp at g
    ·simp at g
   ·rename_i n e i off hu D;split at g
    ·rename_i s l r rw es cs S F U;simp only[S,F,hle _ _ U];split at g
     ·rename_i B;rw[aY B];simp at g⊢;exact⟨g.1,g.2.symm⟩
     ·simp at g
    ·simp at g
   ·simp at g
end
section
variable[gJ]
variable{E:Env}{ι:cq}{h h':ah}{w:World}{rg:T AV}{a:Act}{o:Oper}{r:iB}
def kQ(ι:cq)(h:ah)(w:World)(r:iB)(f:ah)(res:Result Next):Prop:=
 ∃v obj y w' L,r= .val v/\f=(h.alloc obj).2/\obj.gone=false/\res= .ok (.value y) w'/\w.heap.size<=w'.heap.size/\(∀b,b<w.heap.size->w'.heap[b]?=w.heap[b]?)/\w'.os=w.os/\w'.tape=w.tape/\w'.output=w.output/\
  w.heap.size<=L.b/\∀n,ι n=none->vw (ι.add n L) obj L w'/\∀e,yh n v=some e->bG (ι.add n L) e y
theorem cq.KU{n:Nat}{L:Loc}(b:ι n=none):ι.le (ι.add n L):=λi f hi=>by
 rw[cq.bV];exact hi;intro e;subst e;rw[b]at hi;cases hi
theorem kQ.cells{w0:World}(g:w0.heap=w.heap)(j:w0.os=w.os)(ht:w0.tape=w.tape)(f:w0.output=w.output){es:Nat}{cs:eu}{c:Array Value}{e:TypeId}{v:AV}{y:Value}{res:Result Next}
 (hr:res= .ok (.value y) (w0.alloc (.cells c e))) (p:∀(i:Nat)(x:AV),cs[i]?=some x->∃y:Value,c[i]?=some y/\bG ι x y) (t:cs.length<=c.size)
 (u:∀(cW:cq) n,cW n=some ⟨w.heap.size,0,c.size,es,true⟩->∀m,yh n v=some m->bG cW m y):kQ ι h w (.val v) (h.alloc (.cells true es cs)).2 res:=by
 refine⟨v,_,y,w0.alloc (.cells c e),⟨w.heap.size,0,c.size,es,true⟩,rfl,rfl,rfl,hr,?_,λb A=>?_,j,ht,f,ao _,λn B=>⟨⟨rfl,rfl,U7 t,c,e,(0,0),?_,λ_=>⟨rfl,rfl⟩,λi x C=>?_⟩,u _ n (cq.add_same _ _ _)⟩⟩
 ·simp[g]
 ·rw[heap_alloc_old _ _ _ (by rw[g];exact A),g]
 ·show(w0.alloc (.cells c e)).heap[w.heap.size]?=_;rw[<-g];exact heap_alloc_new w0 _
 ·obtain⟨y,D,hr⟩:=p i x C;exact⟨y,U7 D,hr.mono (cq.KU B)⟩
theorem E8{i:Nat}{L:Loc}(g:L.base=0):∀(cW:cq) n,cW n=some L->∀f,yh n (.ptr (some (i,0)))=some f->bG cW f (.pointer (some ⟨L.b,0,none⟩)):=by
 intro cW n j f e;simp[yh]at e;subst e;have:=bG.ptr (off:=0) j;simpa[g]using this
theorem xA{i len cap:Nat}{L:Loc}(g:L.base=0)(j:len<=cap)(ht:L.rw=true->0<L.es->cap*L.es=L.top):∀(cW:cq) n,cW n=some L->∀f,yh n (.slice (some (i,0)) len)=some f->bG cW f (.slice (some ⟨L.b,0,none⟩) len cap):=by
 intro cW n m f e;simp[yh]at e;subst e;have:=bG.slice (off:=0) m j (by simpa[g]using ht);simpa[g]using this
theorem KV(i:E.Ok){t:TypeId}(ho:o.op= .alloc t)(b:eQ E rg h o=some (r,h')):
 kQ ι h w r h' ((execOp a.eval o).run E.P w):=by
 simp only[eQ,yY,ho]at b;split at b
 ·rename_i cs j;simp at b;obtain⟨rfl,rfl⟩:=b;obtain⟨z,f,g,_,_⟩:=nD i j w;obtain⟨m,p⟩:=mz (jf ι g);exact .cells (w0:=w) (e:=t) rfl rfl rfl rfl (by simp[execOp,ho,Instr.alloc,f,newVar,newRow]) m p (E8 rfl)
 ·simp at b
theorem Qo(m:E.Ok)(f:cj ι rg a.tmps){t:TypeId}{x:Operand}(ho:o.op= .box t x)(b:eQ E rg h o=some (r,h')):
 kQ ι h w r h' ((execOp a.eval o).run E.P w):=by
 simp only[eQ,Jr,ho]at b;split at b
 ·rename_i v g;split at b
  ·simp at b;obtain⟨rfl,rfl⟩:=b;obtain⟨i,j⟩:=mz (bM f g).cells;exact .cells (w0:=w) (e:=t) rfl rfl rfl rfl (by simp[execOp,ho,Instr.box,newVar,newRow]) i j (E8 rfl)
  ·simp at b
 ·simp at b
theorem Ha{t:TypeId}{x:Option Operand}(ho:o.op= .makeMap t x)(e:eQ E rg h o=some (r,h')):
 kQ ι h w r h' ((execOp a.eval o).run E.P w):=by
 cases x with
 |none=>
  simp only[eQ,tw,ho]at e;simp at e;obtain⟨rfl,rfl⟩:=e;refine⟨_,_,.map (some w.heap.size),w.alloc (.map #[] 0),⟨w.heap.size,0,0,0,true⟩,rfl,rfl,rfl,by simp[execOp,ho,Instr.makeMap],?_,λb g=>heap_alloc_old _ _ _ g,rfl,rfl,rfl,ao _,λn i=>⟨⟨#[],0,heap_alloc_new w _,rfl,sp⟩,λj f=>?_⟩⟩
  ·simp
  ·simp[yh]at f;subst f;exact .map (L:=⟨w.heap.size,0,0,0,true⟩) (cq.add_same _ _ _)
 |some x=>simp[eQ,ho]at e
theorem Ch(m:E.Ok)(Q:cj ι rg a.tmps){t:TypeId}{len:Nat}{parts:Array (Nat×Operand)}(ho:o.op= .buildSlice t len parts)(b:eQ E rg h o=some (r,h')):
 kQ ι h w r h' ((execOp a.eval o).run E.P w):=by
 simp only[eQ,my,ho]at b;split at b
 ·rename_i e ps hu u;split at b
  ·rename_i s z R S;split at b
   ·rename_i U;obtain⟨hlen,V,v⟩:=U;split at b
    ·rename_i cs W;simp at b;obtain⟨rfl,rfl⟩:=b;obtain⟨N,A,B,_,_⟩:=nD m S w;obtain⟨Z,h2⟩:=py Q u;have g:=jf ι B;have j:=lY (len:=len) g v;obtain⟨O,f,C⟩:=ru (ι:=ι) (qs:=parts.toList.map λ(p:Nat×Operand)=>(p.1,a.eval p.2)) h2 (U7 Z) j W;obtain⟨D,F⟩:=mz C;have I:O.size=len*(s+1):=by
      rw[zg _ _ f];simp
     have hle:len*(s+1)<=16777216:=by
      have:len*(s+1)<=1000*1001:=sY hlen om;omega
     refine .cells (w0:=w) (e:=e) (y:= .slice (some ⟨w.heap.size,0,none⟩) len len) rfl rfl rfl rfl ?_ D F ?_
     ·have hn:¬(16777216<len*(s+1)):=om;simp only[execOp,ho,Instr.buildSlice,Sem.run_bind,cg m hu,Result.andThen_ok,ew m R];by_cases h0:len*(s+1)=0
      ·have J:len=0:=by
        rcases Nat.mul_eq_zero.1 h0 with h|h<;>omega
       subst J;have e1:(Array.range (0*(s+1))).map (λi=>N.cells[i%N.cells.size]!)= #[]:=sp;rw[e1]at f;have K:Instr.fill (λi=>some (i*(s+1),s+1)) #[] (parts.toList.map λ(p:Nat×Operand)=>(p.1,a.eval p.2))=some O:=f;have e2:Array.map (λ_:Nat=>(default:Value)) (Array.range 0)= #[]:=(by apply iJ;simp[xT]);simp[K,newRow,e2]
      ·simp[hn,h0,A,f,newRow]
     ·exact xA rfl (ao _) (λ_ _=>by simp[I])
    ·simp at b
   ·simp at b
  ·simp at b
 ·simp at b
theorem DH(C:E.Ok)(U:cj ι rg a.tmps){t:TypeId}{x y:Operand}(ho:o.op= .makeSlice t x y)(g:eQ E rg h o=some (r,h')):
 kQ ι h w r h' ((execOp a.eval o).run E.P w):=by
 simp only[eQ,mf,ho]at g;split at g
 ·rename_i e n n' hu hx hy;split at g
  ·rename_i s b z hs hb hz;split at g
   ·rename_i hc;obtain⟨rfl,h0,j,F⟩:=hc;simp at g;obtain⟨rfl,rfl⟩:=g;obtain⟨V,I,J,_,_⟩:=nD C hz w;obtain⟨i,hi,K⟩:=C.byt e b hb;obtain⟨i',p,N⟩:=C.siz e _ hs;rw[hi]at p;cases p;have m:=jf ι J;have u:=lY (len:=n.toNat) m F;obtain⟨O,Q⟩:=mz u;have R:=(bM U hx).iG;have S:=(bM U hy).iG;have D:n.toNat<=roomy:=bh (Nat.le_mul_of_pos_right _ om) j;have hr:roomy=1073741824:=rfl;have hw:IntKind.i64.wrap n=n:=by
     have W:n=(n.toNat:Int):=om;rw[IntKind.wrap_i64];omega
    have A1:(i.bytes:Int)*n<=1073741824:=by
     have W:i.bytes*n.toNat<=(b+1)*n.toNat:=iw _ K;rw[Nat.mul_comm (b+1)]at W;have h2:i.bytes*n.toNat<=1073741824:=om;have h3:(n.toNat:Int)=n:=om;have Z:((i.bytes*n.toNat:Nat):Int)<=((1073741824:Nat):Int):=Int.ofNat_le.2 h2;rw[Int.natCast_mul,h3]at Z;exact Z
    refine .cells (w0:=w) (e:=e) (y:= .slice (some ⟨w.heap.size,0,none⟩) n.toNat n.toNat) (c:=(Array.range (n.toNat*(s+1))).map (λi=>V.cells[i%V.cells.size]!)) rfl rfl rfl rfl ?_ O Q ?_
    ·have v:¬(n<0):=om;have A:¬(281474976710656<(i.bytes:Int)*n):=om;simp only[execOp,ho,R,S,Instr.makeSlice,Sem.run_bind,cg C hu,Result.andThen_ok,asInt,asIntOf,Sem.run_pure,typeInfo,run_program,hi,hw];by_cases B:n.toNat*(s+1)=0
     ·have hn:n.toNat=0:=by
       rcases Nat.mul_eq_zero.1 B with h|h<;>omega
      have e2:∀f:Nat->Value,Array.map f (Array.range 0)= #[]:=λf=>by apply iJ;simp[xT]
      simp[v,A,sizeOf,typeInfo,hi,hn,newRow,e2]
     ·simp[v,A,sizeOf,typeInfo,hi,N,B,I,newRow]
    ·exact xA rfl (ao _) (λ_ _=>sp)
   ·simp at g
  ·simp at g
 ·simp at g
theorem Hb(A:E.Ok)(Q:cj ι rg a.tmps){s d:TypeId}{x:Operand}(ho:o.op= .convert s d x)(t:gV E o= .alloc)(f:eQ E rg h o=some (r,h')):
 kQ ι h w r h' ((execOp a.eval o).run E.P w):=by
 simp only[eQ,nC,ho]at f;split at f
 ·rename_i R k q n B u p;simp[gV,ho,u]at t
 ·rename_i l B u p;simp[gV,ho,u]at t
 ·rename_i e l B u p;split at f
  ·rename_i he;split at f
   ·simp at f
   ·simp at f;obtain⟨rfl,rfl⟩:=f;have C:=(bM Q p).lX;have D:({data:=l.toArray}:ByteArray).size=l.length:=(by simp[ByteArray.size]);obtain⟨cap,j,m⟩:∃cap,l.length<=cap/\(choose (.appendCap ({data:=l.toArray}:ByteArray).size 0 e)).run E.P w= .ok cap w.drew:=
     ⟨grownCap w ({data:=l.toArray}:ByteArray).size 0 e,by have:=grownCap_ge w ({data:=l.toArray}:ByteArray).size 0 e;omega,by simp[Question.forced,grownCap]⟩
    obtain⟨c,F⟩:∃c:Array Value,c=(l.toArray.map λb=>Value.int .u8 b.toNat)++Array.replicate (cap-l.length) (.int .u8 0):=⟨_,rfl⟩
    have I:c.size=cap:=(by rw[F];simp;omega);have g:(w.drew.alloc (.cells c e)).heap[w.heap.size]?=some (.cells c e):=heap_alloc_new w.drew _;have J:(w.drew.alloc (.cells c e)).shape? w.heap.size=some (e,c.size):=(by simp only[World.shape?,g]);have v:(execOp a.eval o).run E.P w= .ok (.value (.slice (some ⟨w.heap.size,0,none⟩) l.length cap)) ((w.drew.alloc (.cells c e)).freeze ⟨w.heap.size,c.size,none⟩ 1):=by
     have hm:(markStringish ⟨w.heap.size,0,none⟩).run E.P (w.drew.alloc (.cells c e))= .ok () ((w.drew.alloc (.cells c e)).freeze ⟨w.heap.size,c.size,none⟩ 1):=by
      simp only[markStringish,Sem.run_bind,run_shape,J,Result.andThen_ok,run_freeze]
     have O:(newRow e c).run E.P w.drew= .ok ⟨w.heap.size,0,none⟩ (w.drew.alloc (.cells c e)):=rfl;have K:(Conv.stringToBytes e ⟨l.toArray⟩).run E.P w= .ok (.slice (some ⟨w.heap.size,0,none⟩) l.length cap) ((w.drew.alloc (.cells c e)).freeze ⟨w.heap.size,c.size,none⟩ 1):=by
      simp only[Conv.stringToBytes,Sem.run_bind,m,Result.andThen_ok];rw[D,<-F];simp only[O,Result.andThen_ok,hm,Sem.run_pure]
     simp[execOp,ho,C,convert,cg A B,cg A u,cg A he,K]
    have N:((w.drew.alloc (.cells c e)).freeze ⟨w.heap.size,c.size,none⟩ 1).heap[w.heap.size]?=some (.cells c e (c.size,c.size+1)):=by
     simp only[World.freeze];rw[ay om];simp only[gL];rw[aY trivial,g];rfl
    have hold:∀b,b<w.heap.size->((w.drew.alloc (.cells c e)).freeze ⟨w.heap.size,c.size,none⟩ 1).heap[b]?=w.heap[b]?:=by
     intro b y;have:w.heap.size≠b:=om;simp[World.freeze,gL,this];exact heap_alloc_old w.drew _ b y
    refine⟨_,_,_,_,⟨w.heap.size,0,c.size,1,false⟩,rfl,rfl,rfl,v,by simp only[World.freeze];rw[ay om];simp only[Array.size_modify];exact Nat.le_of_lt (bI.1 g).1,hold,by rfl,by rfl,by rfl,ao _,
     λn O=>⟨⟨rfl,rfl,by simp[I,j],c,e,_,N,sp,?_⟩,xA rfl j sp _ n (cq.add_same _ _ _)⟩⟩
    intro i x p;simp at p;obtain⟨b,y,rfl⟩:=p;have hi:i<l.length:=(aV.1 y).1;refine⟨.int .u8 b.toNat,?_,.int _ _⟩;obtain⟨_,rfl⟩:=aV.1 y;rw[F];simp[hi,Array.getElem?_append]
  ·simp at f
 ·simp at f
theorem Qp(f:E.Ok)(i:cj ι rg a.tmps)(g:gV E o= .alloc)(b:eQ E rg h o=some (r,h')):kQ ι h w r h' ((execOp a.eval o).run E.P w):=by
 cases ho:o.op with
 |alloc e=>exact KV f ho b
 |box e x=>exact Qo f i ho b
 |buildSlice t n ps=>exact Ch f i ho b
 |makeMap t x=>exact Ha ho b
 |makeSlice t l c=>exact DH f i ho b
 |convert s d x=>exact Hb f i ho g b
 |call c=>
  simp only[gV,ho]at g;split at g<;>simp at g
 |_=>simp[gV,ho]at g
theorem Ci(j:E.Ok)(p:cj ι rg a.tmps)(t:dt ι h w){s d:TypeId}{x:Operand}(ho:o.op= .convert s d x)(u:gV E o≠ .alloc)(b:eQ E rg h o=some (r,h')):
 iQ ι h w r h' ((execOp a.eval o).run E.P w):=by
 simp only[eQ,nC,ho]at b;split at b
 ·rename_i C k q n m g i;split at b
  ·rename_i v A;simp at b;obtain⟨rfl,rfl⟩:=b;obtain⟨y,B,hr⟩:=rh A ι E.P w;refine .pure t (y:=y) ?_ hr;have f:=(bM p i).iG;simp[execOp,ho,f,convert,cg j m,cg j g,B]
  ·simp at b
 ·rename_i l m g i;simp at b;obtain⟨rfl,rfl⟩:=b;have f:=(bM p i).lX;refine .pure t (y:=a.eval x) ?_ (bM p i);simp[execOp,ho,f,convert,cg j m,cg j g]
 ·rename_i e l m g i;simp[gV,ho,g]at u
 ·simp at b
theorem He(D:E.Ok)(C:cj ι rg a.tmps)(j:dt ι h w){c:Call}(ho:o.op= .call c)(p:gV E o= .pure\/gV E o= .read)(e:eQ E rg h o=some (r,h')):
 iQ ι h w r h' ((execOp a.eval o).run E.P w):=by
 cases i:c.callee with
 |value f=>simp[gV,ho,i]at p
 |invoke x m=>simp[gV,ho,i]at p
 |builtin b=>
  simp only[eQ,zU,ho,i]at e;cases g:qU rg c.args.toList with
  |none=>simp[g]at e
  |some args=>
   simp only[g]at e;cases b<;>first|(simp[gV,ho,i]at p;done)|skip
   case len=>
    match args,e,g with
    |[],e,_=>simp at e
    |_::_::_,e,_=>simp at e
    |[x],e,g=>
     simp only at e;obtain⟨u,hu,A⟩:=E0 C g;split at e
     ·rename_i t ht;split at e
      ·rename_i v F;simp at e;obtain⟨rfl,rfl⟩:=e;obtain⟨y,I,hr⟩:=CE D j (ty:=o.type) A ht F;exact .pure j (by rw[nF ho i _ λ_=>by rw[hu];rfl,I];rfl) hr
      ·simp at e
     ·simp at e
   case max=>
    split at e
    all_goals first|contradiction|(simp at e;done)|skip
    obtain⟨u,v,B,J,A⟩:=Bk C g;simp at e;obtain⟨rfl,rfl⟩:=e;have K:=J.iG;have N:=A.iG;subst K N;exact .pure j (by rw[nF ho i _ λ_=>by rw[B];rfl];simp[Builtin.max_,Builtin.max2]) (.int _ _)
theorem Jz(j:E.Ok)(e:cj ι rg a.tmps)(g:dt ι h w)(p:gV E o= .pure\/gV E o= .read)(b:eQ E rg h o=some (r,h')):
 iQ ι h w r h' ((execOp a.eval o).run E.P w):=by
 cases ho:o.op with
 |move x=>exact AH e g (.inl ho) b
 |assign x=>exact AH e g (.inr ho) b
 |pick c x y=>exact Ij e g ho b
 |build t ps=>exact E1 j e g ho b
 |load t x=>exact Il j e g ho b
 |nilCheck x=>exact zY e g ho b
 |binOp op t x y u=>exact E2 j e g ho b
 |unOp op t x=>exact Ii e g ho b
 |convert s d x=>exact Ci j e g ho (by rcases p with h|h<;>rw[h]<;>simp) b
 |makeInterface t x=>exact tz j e g ho b
 |makeFunc f x c=>exact zV e g ho b
 |slice t x l u m=>exact EW j e g ho b
 |fieldAddr s x f=>exact x9 j e g ho b
 |field s x f=>exact EX j e g ho b
 |indexAddr t x i=>exact ya j e g ho b
 |index t x i=>exact EY j e g ho b
 |lookup t x i ok=>exact CD j e g ho b
 |typeAssert x t u ok=>exact xh j e g ho b
 |extract t i=>exact Bh e g ho b
 |call c=>exact He j e g ho p b
 |_=>simp[gV,ho]at p
end
section
variable[gJ]
variable{E:Env}
theorem yi(acc:cB)(m:Nat):∀(es:List Edge)(s:Nat),(es.foldl (λs e=>if Region.binds .any e then s|||2^e.on|||acc.getD e.on 0 else s) s).testBit m=true->
 s.testBit m=true\/∃e∈es,Region.binds .any e=true/\(e.on=m\/(acc.getD e.on 0).testBit m=true)
 |[],s,h=> .inl h
 |e::es,s,h=>by
  simp only[jt]at h;rcases yi acc m es _ h with a|⟨e',f,b,g⟩
  ·split at a
   ·rename_i b;simp only[Nat.testBit_or,qQ,Nat.testBit_two_pow,tc]at a;rcases a with(a|a)|a
    ·exact .inl a
    ·exact .inr ⟨e,sp,b,.inl a⟩
    ·exact .inr ⟨e,sp,b,.inr a⟩
   ·exact .inl a
  ·exact .inr ⟨e',by simp[f],b,g⟩
theorem Hf{acc:cB}{o:Oper}{m:Nat}(h:(zf acc o).testBit m=true):∃e∈o.after.toList,Region.binds .any e=true/\(e.on=m\/(acc.getD e.on 0).testBit m=true):=by
 rcases yi acc m _ _ h with a|a
 ·simp at a
 ·exact a
theorem ui(o:Oper)(r:List Oper)(acc:cB):uO (o::r) acc=uO r (acc++[zf acc o]):=by
 simp only[uO];split<;>rename_i h<;>rw[h]
theorem uj:∀(l:List Oper)(acc:cB)(i:Nat),i<acc.length->(uO l acc)[i]?=acc[i]?
 |[],acc,i,_=>rfl
 |o::r,acc,i,hi=>by
  rw[ui,uj r _ i IN,cS hi]
theorem CG:∀(l:List Oper)(acc:cB)(i:Nat)(o:Oper),l[i]?=some o->∃a,(∀j,j<acc.length+i->a[j]?=(uO l acc)[j]?)/\a.length=acc.length+i/\(uO l acc)[acc.length+i]?=some (zf a o)
 |[],acc,i,o,h=>by simp at h
 |o::r,acc,0,b,h=>by
  simp at h;subst h;refine⟨acc,λj g=>?_,sp,?_⟩
  ·rw[uj _ _ _ om]
  ·rw[ui,uj _ _ _ sp];simp
 |o::r,acc,i+1,b,h=>by
  obtain⟨a,e,m,f⟩:=CG r (acc++[zf acc o]) i b (U7 h);rw[ui];simp at e m f;refine⟨a,λj g=>e j om,om,?_⟩;rw[<-f];congr 1;omega
def Down(ops:Array Oper)(S:Nat->Prop):Prop:=∀(i:Nat)(o:Oper),ops[i]?=some o->S i->∀e∈o.after.toList,Region.binds .any e=true->S e.on
def nJ(ops:Array Oper)(S:Nat->Prop)(i:Nat):Prop:=∀(o:Oper),ops[i]?=some o->∀e∈o.after.toList,Region.binds .any e=true->S e.on
theorem JA{ops:Array Oper}{i:Nat}{o:Oper}(ho:ops[i]?=some o):∃a,(∀j,j<i->a.getD j 0=gX ops j)/\a.length=i/\gX ops i=zf a o:=by
 obtain⟨a,b,e,f⟩:=CG ops.toList [] i o (U7 ho);simp at b e f;refine⟨a,λj g=>?_,e,?_⟩
 ·simp only[gX,xV];rw[b j g]
 ·simp only[gX,xV];rw[f];rfl
theorem vy{ops:Array Oper}(a:iD ops=true){i:Nat}{o:Oper}(ho:ops[i]?=some o){e:Edge}(he:e∈o.after.toList)(b:Region.binds .any e=true):e.on<i:=by
 unfold iD at a;have:=(cL.1 a) (o,i) (by rw[wk];simpa using ho)
 simp only[cf]at this;have:=(cL.1 this.1) e he;simpa[b]using this
theorem yj{ops:Array Oper}(a:iD ops=true){i j:Nat}{o b:Oper}(ho:ops[i]?=some o)(e:ops[j]?=some b)(f:j<i):Oper.apart ops b o=true\/(gX ops i).testBit j=true:=by
 unfold iD at a;have:=(cL.1 a) (o,i) (by rw[wk];simpa using ho)
 simp only[cf]at this;have:=(cL.1 this.2) (b,j) (by
  rw[wk];simp only[ja,f,kh];simpa using e)
 simpa using this
theorem KW{ops:Array Oper}(j:iD ops=true){S:Nat->Prop}(y:Down ops S):∀(i:Nat){m:Nat},nJ ops S i->(gX ops i).testBit m=true->S m:=by
 intro i;induction i using Nat.strongRecOn with
 |_ i p=>
  intro m A g;cases ho:ops[i]? with
  |none=>
   have:gX ops i=0:=by
    have hlen:(uO ops.toList []).length=ops.size:=by
     have gen:∀(l:List Oper)(acc:cB),(uO l acc).length=acc.length+l.length:=by
      intro l;induction l with
      |nil=>intro acc;simp[uO]
      |cons o r p=>intro acc;rw[ui,p];simp;omega
     rw[gen];simp
    have:ops.size<=i:=(U7 ho);simp only[gX,xV];rw[ej om];rfl
   rw[this]at g;simp at g
  |some o=>
   obtain⟨w,B,F,C⟩:=JA ho;rw[C]at g;obtain⟨e,he,a,h⟩:=Hf g;have b:=vy j ho he a;have f:=A o ho e he a;rcases h with rfl|h
   ·exact f
   ·rw[B _ b]at h;exact p e.on b (λD t e' u v=>y e.on D t f e' u v) h
theorem Qq{ops:Array Oper}(a:iD ops=true){S:Nat->Prop}(f:Down ops S){i m:Nat}(hi:S i)(g:(gX ops i).testBit m=true):S m:=
 KW a f i (λo ho e he b=>f i o ho hi e he b) g
inductive DK where
 |skip
 |pure (v:AV)
 |read (v:AV)
 |alloc (v:AV) (obj:dK)
 |pK
def Sh(E:Env)(call:fW)(round:eg)(ops:Array Oper)(base:Nat)(o:Oper)(i:Nat)(st:St)(k:DK)(cd:St):Prop:=
 match k with
 | .skip=>fY ops st.n st.rg o=some false/\cd={st with rg:=fO st.rg o.dst rp}
 | .pure v=>fY ops st.n st.rg o=some true/\gV E o= .pure/\(∀h,eQ E st.rg h o=some (.val v,h))/\cd={st with rg:=fO st.rg o.dst v}
 | .read v=>fY ops st.n st.rg o=some true/\gV E o= .read/\(∀h,st.h.le h->eQ E st.rg h o=some (.val v,h))/\cd={st with rg:=fO st.rg o.dst v}
 | .alloc v obj=>fY ops st.n st.rg o=some true/\gV E o= .alloc/\(∃v0 a,eQ E st.rg st.h o=some (.val v0,a)/\a.get st.h.nx=some obj/\yh (base+i) v0=some v)/\
  st.h.get (base+i)=none/\cd={st with rg:=fO st.rg o.dst v,h:=st.h.set (base+i) obj}
 | .pK=>fY ops st.n st.rg o=some true/\∃r,eQ E st.rg st.h o=some r/\qw call round o.dst st r=some (none,cd)
def AM(E:Env)(ops:Array Oper)(h:ah)(rg:T AV)(i:Nat)(v:AV):Prop:=∀o,ops[i]?=some o->∀h',h.le h'->eQ E rg h' o=some (.val v,h')
structure Trace(E:Env)(call:fW)(round:eg)(ops:Array Oper)(base:Nat)(σ:Nat->St)(κ:Nat->DK)(lo hi:Nat):Prop where
 Qm:∀i,lo<=i->i<hi->∃o,ops[i]?=some o/\Sh E call round ops base o i (σ i) (κ i) (σ (i+1))
 rb:∀e i v,lo<=e->e<i->i<hi->κ e= .pK->κ i= .read v->(gX ops i).testBit e=true\/AM E ops (σ e).h (σ i).rg i v
 ra:∀i e v,lo<=i->i<e->e<hi->κ i= .read v->κ e= .pK->(gX ops e).testBit i=true\/AM E ops (σ (e+1)).h (σ i).rg i v
 ee:∀e f,lo<=e->e<f->f<hi->κ e= .pK->κ f= .pK->(gX ops f).testBit e=true
structure DJ(E:Env)(ops:Array Oper)(σ:Nat->St)(κ:Nat->DK)(sn:List pq)(rd:List Rd)(lo hi:Nat):Prop where
 sr:∀s∈sn,∀i v,lo<=i->i<hi->κ i= .read v->(gX ops i).testBit s.idx=true\/AM E ops s.h (σ i).rg i v
 se:∀s∈sn,∀i,lo<=i->i<hi->κ i= .pK->(gX ops i).testBit s.idx=true
 re:∀r∈rd,∀i,lo<=i->i<hi->κ i= .pK->(gX ops i).testBit r.idx=true\/∀h',(σ (i+1)).h.le h'->eQ E r.rg h' r.o=some (.val r.v,h')
def ze(E:Env)(call:fW)(round:eg)(ops:Array Oper)(a:Nat->St)(f:Nat->DK)(sn:List pq)(lo m:Nat)(x:bT)(cd:St):Prop:=
 (x= .kj/\m=ops.size/\cd=a m)\/
 (∃v o r b,x= .jz v/\ops[m]?=some o/\fY ops (a m).n (a m).rg o=some true/\eQ E (a m).rg (a m).h o=some r/\qw call round o.dst (a m) r=some (some v,b)/\
  cd={b with rg:=ops.foldl (λr o=>match o.dst with|some d=>r.del d|none=>r) (a m).rg}/\(∀s∈sn,(gX ops m).testBit s.idx=true)/\(∀e,lo<=e->e<m->f e= .pK->(gX ops m).testBit e=true)/\
  (∀j,m<j->j<ops.size->(gX ops j).testBit m=true))
theorem xk{h:ah}{rg:T AV}{o:Oper}{v:AV}(e:gV E o= .read)(a:jE E h rg o v=true):∀h',h.le h'->eQ E rg h' o=some (.val v,h'):=by
 unfold jE at a;split at a
 ·rename_i f g b;have:=(AV.beq_iff _ _).1 a;subst this;exact λh' hle=>(E7 e b hle).1
 ·simp at a
end
section
variable[gJ]
variable{E:Env}
theorem xB{call:fW}{round:eg}{ops:Array Oper}{base k m:Nat}{o:Oper}{st C:St}{K:DK}{p:Nat->St}{u:Nat->DK}{sn A:List pq}{rd D:List Rd}{x:bT}{cd:St}
 (hm:k+1<=m) (O:p (k+1)=C) (Z:Trace E call round ops base p u (k+1) m) (N:DJ E ops p u A D (k+1) m) (P:ze E call round ops p u A (k+1) m x cd)
 (ho:ops[k]?=some o) (Q:Sh E call round ops base o k st K C) (F:∀s∈sn,s∈A) (A1:∀r∈rd,r∈D)
 (w:K= .pK->(⟨k,st.h⟩:pq)∈A) (I:∀v,K= .read v->(⟨k,o,st.rg,v⟩:Rd)∈D)
 (R:∀v,K= .read v->∀s∈sn,(gX ops k).testBit s.idx=true\/AM E ops s.h st.rg k v) (S:K= .pK->∀s∈sn,(gX ops k).testBit s.idx=true)
 (U:K= .pK->∀r∈rd,(gX ops k).testBit r.idx=true\/∀h',C.h.le h'->eQ E r.rg h' r.o=some (.val r.v,h')):
 ∃y B m,y k=st/\k<=m/\Trace E call round ops base y B k m/\DJ E ops y B sn rd k m/\ze E call round ops y B sn k m x cd:=by
 let y:Nat->St:=λi=>if i<=k then st else p i
 let B:Nat->DK:=λi=>if i=k then K else u i
 have V:y k=st:=by simp[y]
 have s1:∀i,k<i->y i=p i:=λi hi=>by simp only[y];rw[ay om]
 have k0:B k=K:=by simp[B]
 have k1:∀i,k<i->B i=u i:=λi hi=>by simp only[B];rw[ay om]
 refine⟨y,B,m,V,om,⟨?_,?_,?_,?_⟩,⟨?_,?_,?_⟩,?_⟩
 ·intro i a g;rcases bZ a with rfl|a
  ·exact⟨o,ho,by rw[V,k0,s1 _ om,O];exact Q⟩
  ·rw[s1 i a,k1 i a,s1 (i+1) om];exact Z.Qm i a g
 ·intro e i v a g b j t;rw[s1 i om];rw[k1 i om]at t;rcases bZ a with rfl|a
  ·rw[k0]at j;rw[V];exact N.sr _ (w j) i v g b t
  ·rw[k1 e a]at j;rw[s1 e a];exact Z.rb e i v a g b j t
 ·intro i e v a g b j t;rw[s1 (e+1) om];rw[k1 e om]at t;rcases bZ a with rfl|a
  ·rw[k0]at j;rw[V];rcases N.re _ (I v j) e g b t with h|h
   ·exact .inl h
   ·refine .inr λo' W h' hle=>?_;rw[ho]at W;cases W;exact h h' hle
  ·rw[k1 i a]at j;rw[s1 i a];exact Z.ra i e v a g b j t
 ·intro e f a g b j t;rw[k1 f om]at t;rcases bZ a with rfl|a
  ·rw[k0]at j;exact N.se _ (w j) f g b t
  ·rw[k1 e a]at j;exact Z.ee e f a g b j t
 ·intro s J i v a g b;rcases bZ a with rfl|a
  ·rw[k0]at b;rw[V];exact R v b s J
  ·rw[k1 i a]at b;rw[s1 i a];exact N.sr s (F s J) i v a g b
 ·intro s J i a g b;rcases bZ a with rfl|a
  ·rw[k0]at b;exact S b s J
  ·rw[k1 i a]at b;exact N.se s (F s J) i a g b
 ·intro r hr i a g b;rcases bZ a with rfl|a
  ·rw[k0]at b;rw[s1 _ om,O];exact U b r hr
  ·rw[k1 i a]at b;rw[s1 _ om];exact N.re r (A1 r hr) i a g b
 ·rcases P with⟨a,g,b⟩|⟨v,o',r,A2,a,g,b,j,t,h6,h7,h8,h9⟩
  ·exact .inl ⟨a,g,by rw[s1 m om];exact b⟩
  ·refine .inr ⟨v,o',r,A2,a,g,by rw[s1 m om];exact b,by rw[s1 m om];exact j,by rw[s1 m om];exact t,by rw[s1 m om];exact h6,λs J=>h7 s (F s J),λe g1 g2 g3=>?_,h9⟩;rcases bZ g1 with rfl|g1
   ·rw[k0]at g3;exact h7 _ (w g3)
   ·rw[k1 e g1]at g3;exact h8 e g1 g2 g3
theorem rT{call:fW}{round:eg}{ops:Array Oper}{base:Nat}{x:bT}{cd:St}:∀(l:List (Oper×Nat))(k:Nat)(st:St)(sn:List pq)(rd:List Rd),
 (∀j,l[j]?=(ops[k+j]?).map λo=>(o,k+j))->k+l.length=ops.size->(∀r∈rd,gV E r.o= .read)->lV E call round ops (gX ops) base l st sn rd=some (x,cd)->
 ∃w D m,w k=st/\k<=m/\Trace E call round ops base w D k m/\DJ E ops w D sn rd k m/\ze E call round ops w D sn k m x cd
 |[],k,st,sn,rd,Z,hn,g,hr=>by
  simp[lV]at hr;obtain⟨rfl,rfl⟩:=hr;refine⟨λ_=>st,λ_=> .pK,k,rfl,ao _,⟨?_,?_,?_,?_⟩,⟨?_,?_,?_⟩,.inl ⟨rfl,U7 hn,rfl⟩⟩<;>intros<;>omega
 |(o,i)::l,k,st,sn,rd,Z,hn,g,hr=>by
  have h0:=Z 0;simp only[cw,mr]at h0;obtain⟨o',ho,he⟩:=Option.map_eq_some_iff.1 h0.symm;simp only[dz]at he;obtain⟨rfl,rfl⟩:=he;have y:∀j,l[j]?=(ops[k+1+j]?).map λo=>(o,k+1+j):=λj=>by
   have:=Z (j+1);simpa[fq,Nat.add_comm 1 j]using this
  have F:k+1+l.length=ops.size:=by simp at hn;omega
  have quiet:∀{f:St}{K:DK},Sh E call round ops base o' k st K f->K≠ .pK->(∀v,K≠ .read v)->lV E call round ops (gX ops) base l f sn rd=some (x,cd)->
   ∃w D m,w k=st/\k<=m/\Trace E call round ops base w D k m/\DJ E ops w D sn rd k m/\ze E call round ops w D sn k m x cd:=by
   intro f K I W B hr;obtain⟨O,P,m,p,hm,Q,R,a⟩:=rT l (k+1) f sn rd y F g hr;exact xB hm p Q R a ho I (λs h=>h) (λr h=>h) (λh=>absurd h W) (λv h=>absurd h (B v)) (λv h=>absurd h (B v)) (λh=>absurd h W) (λh=>absurd h W)
  simp only[lV]at hr;split at hr
  ·simp at hr
  ·rename_i hw;exact quiet (K:= .skip) ⟨hw,rfl⟩ sp sp hr
  ·rename_i hw;split at hr
   ·simp at hr
   ·rename_i v B u b;exact quiet (K:= .pure v) ⟨hw,u,λh=>KR u b h,rfl⟩ sp sp hr
   ·rename_i v B u b;split at hr
    ·rename_i A;obtain⟨O,P,m,p,hm,Q,R,a⟩:=rT l (k+1) _ sn _ y F (λr hr=>by
      rcases ak.1 hr with rfl|hr
      ·exact u
      ·exact g r hr) hr
     refine xB (K:= .read v) hm p Q R a ho ⟨hw,u,λh hle=>(E7 u b hle).1,rfl⟩ (λs h=>h) (λr h=>by simp[h]) (λh=>by cases h) (λv' h=>by cases h;simp) (λv' h s I=>?_) (λh=>by cases h) (λh=>by cases h);cases h;have:=(cL.1 A) s I;simp only[qQ]at this;rcases this with h|h
     ·exact .inl h
     ·refine .inr λA4 C=>?_;rw[ho]at C;cases C;exact xk u h
    ·simp at hr
   ·rename_i v B u b;split at hr
    ·rename_i obj v' S J A1;exact quiet (K:= .alloc v' obj) ⟨hw,u,⟨v,B,b,S,A1⟩,J,rfl⟩ sp sp hr
    ·simp at hr
   ·rename_i r u b;split at hr
    ·rename_i A;split at hr
     ·simp at hr
     ·rename_i f t;split at hr
      ·rename_i U;obtain⟨O,P,m,p,hm,Q,R,a⟩:=rT l (k+1) _ _ rd y F g hr;refine xB (K:= .pK) hm p Q R a ho ⟨hw,r,b,t⟩ (λs h=>by simp[h]) (λr h=>h) (λ_=>sp) (λv h=>by cases h) (λv h=>by cases h) (λ_ s I=>(cL.1 A) s I) (λ_ q hq=>?_);have:=(cL.1 U) q hq;simp only[qQ]at this;rcases this with h|h
       ·exact .inl h
       ·right;have A2:gV E q.o= .read:=g q hq;exact xk A2 h
      ·simp at hr
     ·rename_i v f t;split at hr
      ·rename_i N;simp at hr;obtain⟨rfl,rfl⟩:=hr;refine⟨λ_=>st,λ_=> .skip,k,rfl,ao _,⟨?_,?_,?_,?_⟩,⟨?_,?_,?_⟩,.inr ⟨v,o',r,f,rfl,ho,hw,b,t,rfl,λs I=>(cL.1 A) s I,?_,?_⟩⟩<;>try (intros;omega)
       intro j W B;obtain⟨o2,A3⟩:∃o2,ops[j]?=some o2:=⟨ops[j],by simp[B]⟩
       have V:(o2,j)∈l:=by
        have:=y (j-(k+1));have e:k+1+(j-(k+1))=j:=om;rw[e,A3]at this;exact bg this
       exact(cL.1 N) _ V
      ·simp at hr
    ·simp at hr
   ·simp at hr
end
section
variable[gJ]
variable{E:Env}
def hX(ι:cq)(base n c:Nat):cq:=λi=>if base+c<=i/\i<base+n then none else ι i
theorem uk{ι:cq}{base n c a:Nat}(h:c<=a):(hX ι base n c).le (hX ι base n a):=λi L hi=>by
 unfold hX at hi⊢;split at hi
 ·cases hi
 ·rename_i b;rw[ay om];exact hi
theorem Ju(ι:cq)(base n:Nat):hX ι base n n=ι:=by
 funext i;unfold hX;rw[ay om]
theorem jX{ι:cq}{base n c:Nat}:(hX ι base n c).le ι:=λi L hi=>by
 unfold hX at hi;split at hi
 ·cases hi
 ·exact hi
theorem dt.tK{f a:cq}{H G:ah}{w:World}(g:dt f H w)(R:Nat->Prop)(hle:∀i,¬R i->a i=f i)(p:∀i,R i->f i=none/\i<H.nx)(y:∀i,¬R i->G.get i=H.get i)(t:G.nx=H.nx)
 (C:∀i L,R i->a i=some L->∃obj,G.get i=some obj/\obj.gone=false/\vw a obj L w/\L.b<w.heap.size/\∀k L',k≠i->a k=some L'->L'.b≠L.b) (P:∀i L,R i->a i=some L->gJ.w.heap.size<=L.b):dt a G w:=by
 classical
 have le:f.le a:=λi L hi=>by
  by_cases h:R i
  ·rw[(p i h).1]at hi;cases hi
  ·rw[hle i h];exact hi
 refine⟨?_,?_,?_,?_,?_,⟨g.base.size,g.base.old,g.base.os,λi L o hi ho u=>by
  by_cases h:R i
  ·exact P i L h hi
  ·rw[hle i h]at hi;rw[y i h]at ho;exact g.base.own i L o hi ho u⟩⟩
 ·intro i L hi;by_cases h:R i
  ·obtain⟨obj,F,O,Q,_⟩:=C i L h hi;exact⟨obj,F,Q⟩
  ·rw[hle i h]at hi;obtain⟨o,F,O⟩:=g.obj i L hi;exact⟨o,by rw[y i h];exact F,O.mono le⟩
 ·intro i j I J S U v hi D A B u K;by_cases h:R i
  ·obtain⟨obj,_,_,_,_,N⟩:=C i I h hi;exact λe=>N j J (λe=>v e.symm) D e.symm
  ·by_cases h':R j
   ·obtain⟨obj,_,_,_,_,N⟩:=C j J h' D;exact N i I v hi
   ·rw[hle i h]at hi;rw[hle j h']at D;rw[y i h]at A;rw[y j h']at B;exact g.Js i j I J S U v hi D A B u K
 ·intro i L hi;by_cases h:R i
  ·rw[t];exact(p i h).2
  ·rw[hle i h]at hi;rw[t];exact g.lt i L hi
 ·intro i hi;rw[t]at hi;have:¬R i:=λh=>by have:=(p i h).2;omega
  rw[y i this];exact g.fresh i hi
 ·intro i L hi;by_cases h:R i
  ·obtain⟨obj,_,_,_,V,_⟩:=C i L h hi;exact V
  ·rw[hle i h]at hi;exact g.Kz i L hi
theorem Ext.tK{iC j a:cq}{jN H G:ah}{jO w:World}(g:Ext iC jN jO j H w)(R:Nat->Prop)(hle:∀i,¬R i->a i=j i)(t:∀i,R i->j i=none/\i<H.nx)(u:∀i,¬R i->G.get i=H.get i)(p:G.nx=H.nx)
 (B:∀i L,R i->a i=some L->∃obj,G.get i=some obj/\obj.gone=false/\vw a obj L w/\L.b<w.heap.size/\∀k L',k≠i->a k=some L'->L'.b≠L.b)
 (e:∀i,R i->jN.nx<=i) (f:∀i L,R i->a i=some L->jO.heap.size<=L.b) (v:gJ.w.heap.size<=jO.heap.size):Ext iC jN jO a G w:=by
 classical
 refine⟨g.rel.tK R hle t u p B (λi L hi C=>bh v (f i L hi C)),λi hi=>?_,λi hi y=>?_,by rw[p];exact g.nx,g.size,λb D y=>?_,g.os,g.tape,g.output,λi L hi=>?_⟩
 ·have:¬R i:=λh=>by have:=e i h;omega
  rw[hle i this];exact g.aH i hi
 ·have:¬R i:=λh=>by have:=e i h;omega
  rw[u i this];exact g.same i hi y
 ·obtain⟨F,I⟩:=g.frame b D y;refine⟨F,?_⟩
  rintro⟨i,L,o,hi,ho,hw,A⟩
  by_cases h:R i
  ·have:=f i L h hi;omega
  ·rw[hle i h]at hi;rw[u i h]at ho;exact I ⟨i,L,o,hi,ho,hw,A⟩
 ·by_cases h:R i
  ·exact .inr (.inl (f i L h hi))
  ·rw[hle i h]at hi;exact g.new i L hi
theorem dt.wz{κ:cq}{H:ah}{w w':World}(a:dt κ H w)(f:w.heap.size<=w'.heap.size)(hold:∀b,b<w.heap.size->w'.heap[b]?=w.heap[b]?)(e:w'.os=w.os):dt κ H w':=
 ⟨λi L hi=>let ⟨o,h,j⟩:=a.obj i L hi;⟨o,h,j.block (hold _ (a.Kz i L hi))⟩,a.Js,a.lt,a.fresh,λi L hi=>aq (a.Kz i L hi) f,
  ⟨bh a.base.size f,λb g=>(hold b (aq g a.base.size)).trans (a.base.old b g),e.trans a.base.os,a.base.own⟩⟩
theorem Ext.wz{iC κ:cq}{jN H:ah}{jO w w':World}(a:Ext iC jN jO κ H w)(g:w.heap.size<=w'.heap.size)(hold:∀b,b<w.heap.size->w'.heap[b]?=w.heap[b]?)(e:w'.os=w.os)(ht:w'.tape=w.tape)(ho:w'.output=w.output):Ext iC jN jO κ H w':=
 ⟨a.rel.wz g hold e,a.aH,a.same,a.nx,bh a.size g,λb f h=>⟨(hold b (aq f a.size)).trans (a.frame b f h).1,(a.frame b f h).2⟩,e.trans a.os,ht.trans a.tape,ho.trans a.output,a.new⟩
theorem JB{call:fW}{round:eg}{d:Option Tmp}{st cd:St}{r:iB×ah}(h:qw call round d st r=some (none,cd)):(∃v,cd.rg=fO st.rg d v)/\cd.n=st.n/\cd.bX=st.bX:=by
 unfold qw at h;split at h
 ·simp at h;subst h;exact⟨⟨_,rfl⟩,rfl,rfl⟩
 ·simp at h;subst h;exact⟨⟨_,rfl⟩,rfl,rfl⟩
 ·split at h
  ·simp at h;subst h;exact⟨⟨_,rfl⟩,rfl,rfl⟩
  ·simp at h
  ·simp at h
 ·split at h
  ·simp at h;subst h;exact⟨⟨_,rfl⟩,rfl,rfl⟩
  ·simp at h
 ·split at h
  ·simp at h
  ·simp at h;subst h;exact⟨⟨_,rfl⟩,rfl,rfl⟩
 ·simp at h
 ·simp at h
theorem E9{call:fW}{round:eg}{ops:Array Oper}{base i:Nat}{o:Oper}{st cd:St}{k:DK}(h:Sh E call round ops base o i st k cd):(∃v,cd.rg=fO st.rg o.dst v)/\cd.n=st.n/\cd.bX=st.bX:=by
 cases k with
 |skip=>obtain⟨_,rfl⟩:=h;exact⟨⟨_,rfl⟩,rfl,rfl⟩
 |pure v=>obtain⟨_,_,_,rfl⟩:=h;exact⟨⟨_,rfl⟩,rfl,rfl⟩
 |read v=>obtain⟨_,_,_,rfl⟩:=h;exact⟨⟨_,rfl⟩,rfl,rfl⟩
 |alloc v obj=>obtain⟨_,_,_,_,rfl⟩:=h;exact⟨⟨_,rfl⟩,rfl,rfl⟩
 |pK=>obtain⟨_,r,_,h⟩:=h;exact JB h
theorem KY{call:fW}{round:eg}{ops:Array Oper}{base i:Nat}{o:Oper}{st cd:St}{k:DK}(h:Sh E call round ops base o i st k cd)(b:k≠ .pK):
 cd.ds=st.ds/\cd.h.nx=st.h.nx/\(∀j,j≠base+i->cd.h.get j=st.h.get j)/\(∀v obj,k= .alloc v obj->cd.h.get (base+i)=some obj/\st.h.get (base+i)=none)/\((∀v obj,k≠ .alloc v obj)->cd.h=st.h):=by
 cases k with
 |skip=>obtain⟨_,rfl⟩:=h;exact⟨rfl,rfl,λ_ _=>rfl,(λv obj h=>by cases h),λ_=>rfl⟩
 |pure v=>obtain⟨_,_,_,rfl⟩:=h;exact⟨rfl,rfl,λ_ _=>rfl,(λv obj h=>by cases h),λ_=>rfl⟩
 |read v=>obtain⟨_,_,_,rfl⟩:=h;exact⟨rfl,rfl,λ_ _=>rfl,(λv obj h=>by cases h),λ_=>rfl⟩
 |alloc v obj=>
  obtain⟨_,_,_,e,rfl⟩:=h;refine⟨rfl,rfl,λj f=>by simp[ah.aM,f],λg a h=>?_,λh=>absurd rfl (h v obj)⟩;cases h;exact⟨by simp[ah.aM],e⟩
 |pK=>exact absurd rfl b
section
variable{call:fW}{round:eg}{ops:Array Oper}{base:Nat}{σ:Nat->St}{κ:Nat->DK}{m:Nat}
theorem Trace.aH(a:Trace E call round ops base σ κ 0 m):∀i,i<=m->(σ i).n=(σ 0).n/\(σ i).bX=(σ 0).bX
 |0,_=>⟨rfl,rfl⟩
 |i+1,h=>by
  obtain⟨o,_,b⟩:=a.Qm i (bJ _) om;obtain⟨_,e,f⟩:=E9 b;obtain⟨g,j⟩:=a.aH i om;exact⟨e.trans g,f.trans j⟩
def vx(ops:Array Oper)(j:Nat)(t:Tmp):Prop:=∃o,ops[j]?=some o/\o.dst=some t
theorem Trace.quiet(b:Trace E call round ops base σ κ 0 m){t:Tmp}{lo:Nat}:∀hi,lo<=hi->hi<=m->(∀j,lo<=j->j<hi->¬vx ops j t)->(σ hi).rg.get t=(σ lo).rg.get t
 |0,h,_,_=>by
  have:lo=0:=by omega
  rw[this]
 |hi+1,h,hm,hw=>by
  rcases bZ h with e|f
  ·rw[e]
  ·obtain⟨o,ho,g⟩:=b.Qm hi (bJ _) om;obtain⟨⟨v,i⟩,_⟩:=E9 g;rw[i];have a:o.dst≠some t:=λe=>hw hi om om ⟨o,ho,e⟩;have:=b.quiet hi om om (λj p w=>hw j p om);rw[<-this];cases u:o.dst with
   |none=>rfl
   |some d=>
    simp only[fO,T.aM];rw[ay (λe=>a (by rw[u,e]))]
theorem Trace.Sf(t:Trace E call round ops base σ κ 0 m){lo:Nat}:∀hi,lo<=hi->hi<=m->(∀j,lo<=j->j<hi->κ j≠ .pK)->
 (σ hi).ds=(σ lo).ds/\(σ hi).h.nx=(σ lo).h.nx/\(∀i,(∀j,lo<=j->j<hi->i≠base+j)->(σ hi).h.get i=(σ lo).h.get i)/\(∀j v obj,lo<=j->j<hi->κ j= .alloc v obj->(σ hi).h.get (base+j)=some obj)/\(σ lo).h.le (σ hi).h
 |0,h,_,_=>by
  have:lo=0:=by omega
  subst this;exact⟨rfl,rfl,λ_ _=>rfl,λj _ _ _ h=>om,ah.le_refl _⟩
 |hi+1,h,hm,hw=>by
  rcases bZ h with e|u
  ·rw[<-e];exact⟨rfl,rfl,λ_ _=>rfl,λj _ _ _ h=>om,ah.le_refl _⟩
  ·obtain⟨o,ho,w⟩:=t.Qm hi (bJ _) om;obtain⟨g1,g2,g3,g4,g5⟩:=KY w (hw hi om om);obtain⟨f1,f2,f3,f4,f5⟩:=t.Sf hi om om (λj a g=>hw j a om);refine⟨g1.trans f1,g2.trans f2,λi b=>(g3 i (b hi om om)).trans (f3 i λj a g=>b j a om),λj v obj a g f=>?_,ah.le_trans f5 λi x p=>?_⟩
   ·rcases bZ (Nat.le_of_lt_succ g)with e|y
    ·subst e;exact(g4 v obj f).1
    ·rw[g3 _ om];exact f4 j v obj a y f
   ·by_cases e:i=base+hi
    ·cases f:κ hi with
     |alloc v obj=>have:=(g4 v obj f).2;rw[<-e,p]at this;cases this
     |_=>rw[g5 (by simp[f])];exact p
    ·rw[g3 i e];exact p
theorem Io(κ:Nat->DK)(lo m:Nat)(h:lo<=m):∃e,lo<=e/\e<=m/\(∀j,lo<=j->j<e->κ j≠ .pK)/\(e<m->κ e= .pK):=by
 classical
 induction p:m-lo generalizing lo with
 |zero=>exact⟨lo,ao _,h,λj b a=>om,λh=>om⟩
 |succ d g=>
  by_cases f:κ lo= .pK
  ·exact⟨lo,ao _,h,λj b a=>om,λ_=>f⟩
  ·obtain⟨e,b,a,i,o⟩:=g (lo+1) om om;refine⟨e,om,a,λj g1 g2=>?_,o⟩;rcases bZ g1 with rfl|g1
   ·exact f
   ·exact i j g1 g2
theorem NH(κ:Nat->DK)(lo e:Nat):(∀j,lo<=j->j<e->κ j≠ .pK)\/∃f,lo<=f/\f<e/\κ f= .pK/\∀j,f<j->j<e->κ j≠ .pK:=by
 classical
 induction e with
 |zero=>exact .inl λj _ h=>by omega
 |succ e g=>
  by_cases a:κ e= .pK/\lo<=e
  ·exact .inr ⟨e,a.2,om,a.1,λj b i=>om⟩
  ·rcases g with h|⟨f,b,i,o,p⟩
   ·refine .inl λj g1 g2 g3=>?_;rcases bZ (Nat.le_of_lt_succ g2)with rfl|g2
    ·exact a ⟨g3,g1⟩
    ·exact h j g1 g2 g3
   ·refine .inr ⟨f,b,om,o,λj g1 g2 g3=>?_⟩;rcases bZ (Nat.le_of_lt_succ g2)with rfl|g2
    ·exact a ⟨g3,om⟩
    ·exact p j g1 g2 g3
theorem conflict(b:iD ops=true){j k:Nat}{t:Tmp}{o:Oper}(hw:vx ops j t)(ho:ops[k]?=some o)(ht:t∈o.looksAt ops\/o.dst=some t)(p:j≠k):
 (j<k->(gX ops k).testBit j=true)/\(k<j->(gX ops j).testBit k=true):=by
 obtain⟨u,e,f⟩:=hw;refine⟨λh=>?_,λh=>?_⟩
 ·rcases yj b ho e h with a|a
  ·obtain⟨g,i,_⟩:=Oper.apart_spec a;rcases ht with ht|ht
   ·exact absurd ht (g t f)
   ·exact absurd ht (i t f)
  ·exact a
 ·rcases yj b e ho h with a|a
  ·obtain⟨_,i,g⟩:=Oper.apart_spec a;rcases ht with ht|ht
   ·exact absurd ht (g t f)
   ·exact absurd f (i t ht)
  ·exact a
end
end
section
variable[gJ]
variable{E:Env}
noncomputable def xn(rg:T AV):List Tmp->T AV
 |[]=> .nil
 |t::b=>match rg.get t with
  |some v=>(xn rg b).set v t
  |none=>xn rg b
theorem tN(rg:T AV)(t:Tmp):∀b:List Tmp,(xn rg b).get t=if t∈b then rg.get t else none
 |[]=>by simp[xn,T.get]
 |u::b=>by
  simp only[xn];split
  ·rename_i v f;rw[T.aM,tN rg t b];by_cases e:t=u
   ·subst e;simp[f]
   ·simp[e]
  ·rename_i f;rw[tN rg t b];by_cases e:t=u
   ·subst e;simp[f]
   ·simp[e]
theorem wy{ops:Array Oper}{rg:T AV}{h:ah}{o:Oper}:eQ E (xn rg (o.looksAt ops)) h o=eQ E rg h o:=by
 refine Jy λx b=>?_;cases x with
 |tmp t=>
  simp only[lK,tN];rw[aY];exact eJ _ (List.mem_filterMap.2 ⟨.tmp t,b,rfl⟩)
 |_=>rfl
theorem xi{ops:Array Oper}{n:Nat}{rg:T AV}{o:Oper}:fY ops n (xn rg (o.looksAt ops)) o=fY ops n rg o:=by
 unfold fY;cases f:o.guard with
 |none=>rfl
 |some q=>
  obtain⟨j,want⟩:=q;simp only;cases g:(ops[j]?).bind (·.dst)with
  |none=>rfl
  |some d=>
   have b:d∈o.looksAt ops:=by
    unfold Oper.looksAt;simp[f,g]
   simp only[tN,b,kh]
structure Inv(call:fW)(round:eg)(ops:Array Oper)(base:Nat)(σ:Nat->St)(κ:Nat->DK)(m:Nat)(jN:ah)(iC:cq)(jO:World)(S:Nat->Prop)(a:Act)(w:World)(e:Nat)(ι:cq):Prop where
 b0:gJ.w.heap.size<=jO.heap.size
 em:e<=m
 e1:∀f,f<e->κ f= .pK->S f
 e2:∀f,e<=f->f<m->κ f= .pK->¬S f
 e3:e<m->κ e= .pK
 sm:∀j,S j->j<m
 down:Down ops S
 rel:Ext iC jN jO (hX ι base ops.size e) (σ e).h w
 nx:base+ops.size<=(σ e).h.nx
 early:∀j v obj,S j->e<=j->κ j= .alloc v obj->∃L,ι (base+j)=some L/\obj.gone=false/\vw ((hX ι base ops.size j).add (base+j) L) obj L w/\jO.heap.size<=L.b/\L.b<w.heap.size/\∀i L',i≠base+j->ι i=some L'->L'.b≠L.b
 out:∀j,j<ops.size->ι (base+j)≠none->S j/\∃v obj,κ j= .alloc v obj
 late:∀j v obj,j<e->κ j= .alloc v obj->¬S j->(σ e).h.get (base+j)=some obj
 Po:∀j,e<=j->j<ops.size->(σ e).h.get (base+j)=none
 uf:∀t i,i<=m->(∀j,j<i->vx ops j t->S j)->(∀j,i<=j->vx ops j t->¬S j)->∀x,(σ i).rg.get t=some x->∃y,a.tmps[t]?=some y/\bG (hX ι base ops.size (max i e)) x y
 sz:a.tmps.size=(σ 0).n
 ds:tJ (hX ι base ops.size e) (σ e).ds a.defers
section
variable{call:fW}{round:eg}{ops:Array Oper}{base:Nat}{σ:Nat->St}{κ:Nat->DK}{m:Nat}{jN:ah}{iC:cq}{jO:World}{S:Nat->Prop}{a:Act}{w:World}{e:Nat}{ι:cq}
theorem Inv.ready(f:Inv call round ops base σ κ m jN iC jO S a w e ι)(b:iD ops=true){k q:Nat}(g:nJ ops S k)(h:(gX ops k).testBit q=true):S q:=KW b f.down k g h
theorem Inv.past(f:Inv call round ops base σ κ m jN iC jO S a w e ι)(b:iD ops=true){k q:Nat}(g:S k)(h:(gX ops k).testBit q=true):S q:=Qq b f.down g h
theorem Inv.Ql(i:Inv call round ops base σ κ m jN iC jO S a w e ι)(b:iD ops=true){k:Nat}{o:Oper}(v:nJ ops S k)(f:¬S k)(p:k<=m)(ho:ops[k]?=some o):
 cj (hX ι base ops.size (max k e)) (xn (σ k).rg (o.looksAt ops)) a.tmps:=by
 intro t x h;rw[tN]at h;split at h
 ·rename_i ht;refine i.uf t k p (λj g hw=>?_) (λj g hw u=>?_) x h
  ·exact i.ready b v ((conflict b hw ho (.inl ht) om).1 g)
  ·rcases bZ g with rfl|g
   ·exact f u
   ·exact f (i.past b u ((conflict b hw ho (.inl ht) om).2 g))
 ·cases h
theorem Inv.DL(J:Inv call round ops base σ κ m jN iC jO S a w e ι)(Q:Trace E call round ops base σ κ 0 m)(f:iD ops=true){k:Nat}{o:Oper}(Z:nJ ops S k)(B:¬S k)(R:k<m)(ho:ops[k]?=some o)
 {cW:cq} {e':Nat} (hle:∀c,(hX ι base ops.size (max c e)).le (hX cW base ops.size (max c e'))) (p:∀c K,c<=K->(hX cW base ops.size (max c e')).le (hX cW base ops.size (max K e'))) {v:AV} {y:Value} (U:bG (hX cW base ops.size (max (k+1) e')) v y) (C:(σ (k+1)).rg=fO (σ k).rg o.dst v)
 (D:uN a.tmps.size o.dst=true) {ds:List Deferred}:
 ∀t i,i<=m->(∀j,j<i->vx ops j t->(j=k\/S j))->(∀j,i<=j->vx ops j t->¬(j=k\/S j))->∀x,(σ i).rg.get t=some x->∃z,(({a with defers:=ds}:Act).put o.dst y).tmps[t]?=some z/\bG (hX cW base ops.size (max i e')) x z:=by
 intro t i hi N O x A;by_cases ht:o.dst=some t
 ·have F:vx ops k t:=⟨o,ho,ht⟩
  have V:k<i:=by
   rcases dJ k i with h|h
   ·exact h
   ·exact absurd (.inl rfl) (O k h F)
  have W:=Q.quiet (t:=t) (lo:=k+1) i om hi (λj g1 g2 hw=>by
   have:=N j g2 hw;rcases this with rfl|I
   ·omega
   ·exact B (J.past f I ((conflict f hw ho (.inr ht) om).2 om)))
  rw[W,C,ht]at A;simp only[fO,T.aM,kh,bj]at A;subst A;rw[ht]at D;simp[uN]at D;refine⟨y,?_,U.mono (p _ _ om)⟩;rw[ht];simp[Act.put,D]
 ·obtain⟨z,P,hr⟩:=J.uf t i hi (λj g hw=>by
   rcases N j g hw with rfl|h
   ·obtain⟨o',u,b⟩:=hw;rw[ho]at u;cases u;exact absurd b ht
   ·exact h) (λj g hw I=>O j g hw (.inr I)) x A
  refine⟨z,?_,hr.mono (hle i)⟩;cases b:o.dst with
  |none=>exact P
  |some d=>
   simp only[Act.put];rw[dH (λe=>ht (by rw[b,e]))];exact P
theorem zh(f:Down ops S){k:Nat}(g:nJ ops S k):Down ops (λj=>j=k\/S j):=λi o ho hi e he b=>by
 rcases hi with rfl|hi
 ·exact .inr (g o ho e he b)
 ·exact .inr (f i o ho hi e he b)
theorem Inv.put(b:Inv call round ops base σ κ m jN iC jO S a w e ι)(N:Trace E call round ops base σ κ 0 m)(u:iD ops=true){k:Nat}{o:Oper}(J:nJ ops S k)(A:¬S k)(p:k<m)(ho:ops[k]?=some o)
 (B:κ k≠ .pK) (C:∀v obj,κ k≠ .alloc v obj) {v:AV} {y:Value} (O:bG (hX ι base ops.size (max k e)) v y) (D:(σ (k+1)).rg=fO (σ k).rg o.dst v) (P:uN a.tmps.size o.dst=true):
 Inv call round ops base σ κ m jN iC jO (λj=>j=k\/S j) (a.put o.dst y) w e ι where
 b0:=b.b0
 em:=b.em
 e1 f Q g:= .inr (b.e1 f Q g)
 e2 f F I K t:=by
  rcases t with rfl|t
  ·exact B K
  ·exact b.e2 f F I K t
 e3:=b.e3
 sm j i:=by rcases i with rfl|i;exact p;exact b.sm j i
 down:=zh b.down J
 rel:=b.rel
 nx:=b.nx
 early j v obj i he g:=by
  rcases i with rfl|i
  ·exact absurd g (C v obj)
  ·exact b.early j v obj i he g
 out j i h:=let ⟨F,I⟩:=b.out j i h;⟨.inr F,I⟩
 late j v obj i g t:=b.late j v obj i g λh=>t (.inr h)
 Po:=b.Po
 uf:=b.DL N u J A p ho (λc=>λ_ _ h=>h) (λc R h=>uk om) (O.mono (uk om)) D P (ds:=a.defers)
 sz:=by rw[lU];exact b.sz
 ds:=by rw[iU];exact b.ds
end
end
section
variable[gJ]
variable{E:Env}
theorem mM{ι cW:cq}{base n c b:Nat}(hle:ι.le cW)(h:c<=b):(hX ι base n c).le (hX cW base n b):=λi L hi=>by
 unfold hX at hi⊢;split at hi
 ·cases hi
 ·rename_i f;rw[ay om];exact hle i L hi
open Classical in
noncomputable def nO(κ:Nat->DK)(S:Nat->Prop)(base:Nat):List Nat->ah->ah
 |[],h=>h
 |j::b,h=>match κ j with
  | .alloc _ obj=>if S j then(nO κ S base b h).set (base+j) obj else nO κ S base b h
  |_=>nO κ S base b h
theorem qz(κ:Nat->DK)(S:Nat->Prop)(base:Nat)(h:ah):∀b,(nO κ S base b h).nx=h.nx
 |[]=>rfl
 |j::b=>by
  simp only[nO];split
  ·split
   ·exact qz κ S base h b
   ·exact qz κ S base h b
  ·exact qz κ S base h b
theorem Bo(κ:Nat->DK)(S:Nat->Prop)(base:Nat)(h:ah){j:Nat}{v:AV}{obj:dK}(o:κ j= .alloc v obj)(p:S j):∀b,j∈b->(nO κ S base b h).get (base+j)=some obj
 |[],f=>by cases f
 |q::b,f=>by
  simp only[nO];by_cases e:q=j
  ·subst e;simp only[o,aY p];simp[ah.aM]
  ·have g:j∈b:=(by rcases ak.1 f with h|h;exact absurd h.symm e;exact h);have i:=Bo κ S base h o p b g;split
   ·split
    ·rw[ah.aM,ay om];exact i
    ·exact i
   ·exact i
theorem vB(κ:Nat->DK)(S:Nat->Prop)(base:Nat)(h:ah){i:Nat}:∀b,(∀j∈b,i=base+j->¬(S j/\∃v obj,κ j= .alloc v obj))->(nO κ S base b h).get i=h.get i
 |[],_=>rfl
 |q::b,o=>by
  simp only[nO];have f:=vB κ S base h b (λj g=>o j (by simp[g]));split
  ·rename_i v obj p;split
   ·rename_i t;rw[ah.aM,ay (λe=>o q sp e ⟨t,v,obj,p⟩)];exact f
   ·exact f
  ·exact f
section
variable{call:fW}{round:eg}{ops:Array Oper}{base:Nat}{σ:Nat->St}{κ:Nat->DK}{m:Nat}{jN:ah}{iC:cq}{jO:World}{S:Nat->Prop}{a:Act}{w:World}{e:Nat}{ι:cq}
theorem Inv.Kz(f:Inv call round ops base σ κ m jN iC jO S a w e ι){i:Nat}{L:Loc}(hi:ι i=some L):L.b<w.heap.size:=by
 by_cases h:base+e<=i/\i<base+ops.size
 ·obtain⟨j,rfl⟩:∃j,i=base+j:=⟨i-base,om⟩
  obtain⟨o,v,obj,p⟩:=f.out j om (by rw[hi];simp);obtain⟨L',g,_,_,_,t,_⟩:=f.early j v obj o om p;rw[hi]at g;cases g;exact t
 ·exact f.rel.rel.Kz i L (by unfold hX;rw[ay h];exact hi)
theorem Inv.Qr(g:Inv call round ops base σ κ m jN iC jO S a w e ι){c:Nat}(P:e<=c)(F:c<=ops.size):
 ∃G:ah,dt (hX ι base ops.size c) G w/\(σ e).h.le G/\(c=e->G=(σ e).h):=by
 refine⟨nO κ S base (List.range' e (c-e)) (σ e).h,g.rel.rel.tK (λi=>base+e<=i/\i<base+c) ?_ ?_ ?_ ?_ ?_ ?_,?_,?_⟩
 ·intro i hi;unfold hX;by_cases o:base+c<=i/\i<base+ops.size
  ·rw[aY o,aY om]
  ·rw[ay o,ay om]
 ·intro i hi;refine⟨?_,by have:=g.nx;omega⟩;unfold hX;rw[aY om]
 ·intro i hi;refine vB _ _ _ _ _ λj y e'=>?_;simp at y;exact absurd ⟨om,om⟩ hi
 ·exact qz _ _ _ _ _
 ·intro i L hi p;obtain⟨j,rfl⟩:∃j,i=base+j:=⟨i-base,om⟩
  have b:=jX _ _ p;obtain⟨t,v,obj,u⟩:=g.out j om (by rw[b];simp);obtain⟨L',o,I,J,D,K,N⟩:=g.early j v obj t om u;rw[b]at o;cases o;refine⟨obj,Bo _ _ _ _ u t _ IN,I,J.mono λi O f=>?_,K,λk L' A B=>N k L' A (jX _ _ B)⟩;by_cases e1:i=base+j
  ·subst e1;rw[cq.add_same]at f;cases f;exact p
  ·rw[cq.bV _ _ e1]at f;exact uk om i O f
 ·intro i L hi p;obtain⟨j,rfl⟩:∃j,i=base+j:=⟨i-base,om⟩
  have b:=jX _ _ p;obtain⟨t,v,obj,u⟩:=g.out j om (by rw[b];simp);obtain⟨L',o,_,_,D,_,_⟩:=g.early j v obj t om u;rw[b]at o;cases o;exact bh g.b0 D
 ·intro i x C;rw[vB _ _ _ _ _ λj y e'=>?_]
  ·exact C
  ·simp at y;subst e';rw[g.Po j om om]at C;cases C
 ·intro h;subst h;simp[nO]
theorem Inv.still(hE:E.Ok)(i:Inv call round ops base σ κ m jN iC jO S a w e ι)(u:Trace E call round ops base σ κ 0 m)(p:iD ops=true)(A2:m<=ops.size){k:Nat}{o:Oper}(hk:nJ ops S k)(A:¬S k)(t:k<m)(ho:ops[k]?=some o)
 {v:AV} (g:κ k= .pure v\/κ k= .read v):∃y,(execOp a.eval o).run E.P w= .ok (.value y) w/\bG (hX ι base ops.size (max k e)) v y:=by
 have A3:=i.em;obtain⟨o',B,N⟩:=u.Qm k (bJ _) t;rw[ho]at B;cases B;obtain⟨G,hG,hle,heq⟩:=i.Qr (c:=max k e) om om;have C:=i.Ql p hk A om ho;have D:eQ E (σ k).rg G o=some (.val v,G)/\(gV E o= .pure\/gV E o= .read):=by
  rcases g with g|g
  ·rw[g]at N;obtain⟨_,Q,R,_⟩:=N;exact⟨R G,.inl Q⟩
  ·have b:=g;rw[g]at N;obtain⟨_,Q,R,_⟩:=N;refine⟨?_,.inr Q⟩;rcases Nat.lt_trichotomy k e with A4|F|U
   ·have V:=heq om;subst V;rcases NH κ k e with W|⟨f,h2,h3,O,h5⟩
    ·exact R _ (u.Sf (lo:=k) e om i.em W).2.2.2.2
    ·have Z:k<f:=by
      rcases bZ h2 with rfl|h;rw[b]at O;cases O;exact h
     rcases u.ra k f v (bJ _) Z om b O with hb|hr
     ·exact absurd (i.past p (i.e1 f h3 O) hb) A
     ·exact hr o ho _ (u.Sf (lo:=f+1) e om i.em (λj g1 g2=>h5 j om g2)).2.2.2.2
   ·subst F;rw[i.e3 t]at b;cases b
   ·have he:κ e= .pK:=i.e3 om;rcases u.rb e k v (bJ _) U t he b with hb|hr
    ·exact absurd (i.ready p hk hb) (i.e2 e (ao _) om he)
    ·exact hr o ho G hle
 have I:eQ E (xn (σ k).rg (o.looksAt ops)) G o=some (.val v,G):=by rw[wy];exact D.1
 obtain⟨v',y,A1,_,J,K⟩:=Jz hE C hG D.2 I;cases A1;exact⟨y,J,K⟩
theorem Inv.alloc(hE:E.Ok)(g:Inv call round ops base σ κ m jN iC jO S a w e ι)(hT:Trace E call round ops base σ κ 0 m)(Z:iD ops=true)(F4:m<=ops.size)(F5:jN.nx<=base){k:Nat}{o:Oper}(hk:nJ ops S k)(K:¬S k)(N:k<m)(ho:ops[k]?=some o)
 {v:AV} {obj:dK} (t:κ k= .alloc v obj) (hd:uN a.tmps.size o.dst=true):
 ∃y w' cW,(execOp a.eval o).run E.P w= .ok (.value y) w'/\Inv call round ops base σ κ m jN iC jO (λj=>j=k\/S j) (a.put o.dst y) w' e cW:=by
 have F6:=g.em;obtain⟨o',A1,hs⟩:=hT.Qm k (bJ _) N;rw[ho]at A1;cases A1;have F7:=hs;rw[t]at hs;obtain⟨_,hc,⟨v0,W,C5,F,C6⟩,_,C7⟩:=hs;have A2:=g.Ql Z hk K om ho;have A3:eQ E (xn (σ k).rg (o.looksAt ops)) (σ k).h o=some (.val v0,W):=by rw[wy];exact C5
 obtain⟨FF,D,y,w',L,C8,C9,u,A4,CL,hold,F0,ht,A5,hL,Au⟩:=Qp (w:=w) hE A2 hc A3;cases C8;have:D=obj:=by
  rw[C9]at F;simp[ah.cO]at F;exact F
 subst this;have A:ι (base+k)=none:=by
  cases hx:ι (base+k)with
  |none=>rfl
  |some L0=>exact absurd (g.out k om (by rw[hx];simp)).1 K
 have F1:hX ι base ops.size (max k e) (base+k)=none:=by
  unfold hX;split
  ·rfl
  ·exact A
 obtain⟨hO,hV⟩:=Au _ F1;have hV:=hV v C6;have R:L.b<w'.heap.size:=hO.lt u;have p:ι.le (ι.add (base+k) L):=cq.KU A;have I:∀i L',ι i=some L'->L'.b≠L.b:=λi L' hi=>by have:=g.Kz hi;omega
 have C1:jO.heap.size<=L.b:=bh g.rel.size hL;have U:∀c,max k e<=c->k<c->((hX ι base ops.size (max k e)).add (base+k) L).le (hX (ι.add (base+k) L) base ops.size c):=λc h1 W i Li hi=>by
  by_cases e1:i=base+k
  ·subst e1;rw[cq.add_same]at hi;cases hi;unfold hX;rw[ay om,cq.add_same]
  ·rw[cq.bV _ _ e1]at hi;exact mM p h1 i Li hi
 have FO:k≠e:=λh=>by subst h;rw[g.e3 N]at t;cases t
 refine⟨y,w',ι.add (base+k) L,A4,?_⟩;refine
  {b0:=g.b0,em:=g.em,e1:=λf hf B=> .inr (g.e1 f hf B),e2:=?_,e3:=g.e3,sm:=?_,down:=zh g.down hk,rel:=?_,nx:=g.nx,early:=?_,out:=?_,late:=λj v obj O B hS=>g.late j v obj O B λh=>hS (.inr h),Po:=g.Po,uf:=?_,
   sz:=by rw[lU];exact g.sz,ds:=?_}
 ·intro f h1 W h3 hS;rcases hS with rfl|hS
  ·rw[t]at h3;cases h3
  ·exact g.e2 f h1 W h3 hS
 ·intro j O;rcases O with rfl|O;exact N;exact g.sm j O
 ·have J:=g.rel.wz CL hold F0 ht A5;rcases dJ k e with C2|FP
  ·have C3:max k e=e:=om;refine J.tK (λi=>i=base+k) ?_ ?_ (λ_ _=>rfl) rfl ?_ ?_ ?_ g.b0
   ·intro i hi;unfold hX;rw[cq.bV _ _ hi]
   ·rintro i rfl
    refine⟨?_,by have:=g.nx;omega⟩;unfold hX;rw[ay om];exact A
   ·rintro i L1 rfl V
    have:L1=L:=by
     have:=jX _ _ V;rw[cq.add_same]at this;exact(Option.some.inj this).symm
    subst this;refine⟨D,g.late k v D C2 t K,u,hO.mono (U e om C2),R,λq L' hq F2=>?_⟩;have:=jX _ _ F2;rw[cq.bV _ _ hq]at this;exact I q L' this
   ·rintro i rfl;omega
   ·rintro i L1 rfl V
    have:=jX _ _ V;rw[cq.add_same]at this;cases this;exact C1
  ·have:hX (ι.add (base+k) L) base ops.size e=hX ι base ops.size e:=by
    funext i;unfold hX;split
    ·rfl
    ·rw[cq.bV];omega
   rw[this];exact J
 ·intro j v1 C4 O he B;by_cases Q:j=k
  ·subst Q;rw[t]at B;cases B;have C3:max j e=j:=om;refine⟨L,cq.add_same _ _ _,u,hO.mono λi Li hi=>?_,C1,R,λi L' hi C=>?_⟩
   ·by_cases e1:i=base+j
    ·subst e1;rw[cq.add_same]at hi⊢;exact hi
    ·rw[cq.bV _ _ e1]at hi⊢;exact mM p om i Li hi
   ·rw[cq.bV _ _ hi]at C;exact I i L' C
  ·have F3:S j:=(by rcases O with h|h;exact absurd h Q;exact h);obtain⟨L1,g1,g2,g3,g4,g5,g6⟩:=g.early j v1 C4 F3 he B;refine⟨L1,by rw[cq.bV _ _ om];exact g1,g2,(g3.mono λi Li hi=>?_).block (hold _ g5),g4,om,λi L' hi C=>?_⟩
   ·by_cases e1:i=base+j
    ·subst e1;rw[cq.add_same]at hi⊢;exact hi
    ·rw[cq.bV _ _ e1]at hi⊢;exact mM p (ao _) i Li hi
   ·by_cases e1:i=base+k
    ·subst e1;rw[cq.add_same]at C;cases C;omega
    ·rw[cq.bV _ _ e1]at C;exact g6 i L' hi C
 ·intro j O h;by_cases Q:j=k
  ·subst Q;exact⟨.inl rfl,v,D,t⟩
  ·rw[cq.bV _ _ om]at h;obtain⟨h1,W⟩:=g.out j O h;exact⟨.inr h1,W⟩
 ·refine g.DL hT Z hk K N ho (λc=>mM p (ao _)) (λc c' h=>uk om) (hV.mono (U _ om om)) ?_ hd (ds:=a.defers);rw[C7]
 ·rw[iU];exact g.ds.mono (mM p (ao _))
end
end
section
variable[gJ]
variable{E:Env}
section
variable{call:fW}{round:eg}{ops:Array Oper}{base:Nat}{σ:Nat->St}{κ:Nat->DK}{m:Nat}{jN:ah}{iC:cq}{jO:World}{S:Nat->Prop}{a:Act}{w:World}{e:Nat}{ι:cq}
theorem Inv.due(f:Inv call round ops base σ κ m jN iC jO S a w e ι)(o:Trace E call round ops base σ κ 0 m)(g:iD ops=true){k:Nat}(p:nJ ops S k)(i:¬S k)(j:k<m)(b:κ k= .pK):k=e:=by
 rcases Nat.lt_trichotomy k e with h|h|h
 ·exact absurd (f.e1 k h b) i
 ·exact h
 ·have he:=f.e3 om;exact absurd (f.ready g p (o.ee e k (bJ _) h j he b)) (f.e2 e (ao _) om he)
theorem Inv.pK(u:Inv call round ops base σ κ m jN iC jO S a w e ι)(hT:Trace E call round ops base σ κ 0 m)(C8:iD ops=true)(FF:m<=ops.size)(FO:jN.nx<=base){o:Oper}(hk:nJ ops S e)(P:e<m)(ho:ops[e]?=some o)
 (hd:uN a.tmps.size o.dst=true) {I:cq} {v:AV} {y:Value} {Q:List Deferred} {w':World} (p:Ext (hX ι base ops.size e) (σ e).h w I (σ (e+1)).h w') (hv:bG I v y) (C9:(σ (e+1)).rg=fO (σ e).rg o.dst v) (A3:tJ I (σ (e+1)).ds Q):
 ∃e' cW,Inv call round ops base σ κ m jN iC jO (λj=>j=e\/S j) (({a with defers:=Q}:Act).put o.dst y) w' e' cW:=by
 classical
 have A4:κ e= .pK:=u.e3 P;have A5:¬S e:=u.e2 e (ao _) P A4;obtain⟨e',CL,Au,C1,F0⟩:=Io κ (e+1) m om;have FP:=u.nx;have F7:=p.nx;let cW:cq:=λi=>if base+e<=i/\i<base+ops.size then ι i else I i
 have t:∀i,base+e<=i->i<base+ops.size->cW i=ι i:=λi C J=>by simp only[cW];rw[aY ⟨C,J⟩]
 have D:∀i,¬(base+e<=i/\i<base+ops.size)->cW i=I i:=λi h=>by simp only[cW];rw[ay h]
 have K:∀i,¬(base+e<=i/\i<base+ops.size)->hX ι base ops.size e i=ι i:=λi h=>by unfold hX;rw[ay h]
 have C2:ι (base+e)=none:=by
  cases hx:ι (base+e)with
  |none=>rfl
  |some L0=>exact absurd (u.out e om (by rw[hx];simp)).1 A5
 have F1:ι.le cW:=λi L hi=>by
  by_cases h:base+e<=i/\i<base+ops.size
  ·rw[t i h.1 h.2];exact hi
  ·rw[D i h];have C:hX ι base ops.size e i=some L:=(by rw[K i h];exact hi);rw[p.aH i (u.rel.rel.lt i L C)];exact C
 have F2:I=hX cW base ops.size (e+1):=by
  funext i;by_cases h:base+e<=i/\i<base+ops.size
  ·have C:I i=none:=by
    rw[p.aH i om];unfold hX;rw[aY h]
   rw[C];unfold hX;split
   ·rfl
   ·have:i=base+e:=om;subst this;rw[t _ h.1 h.2,C2]
  ·unfold hX;rw[ay om,D i h]
 have W:∀(j:Nat)(L:Loc),e<=j->j<ops.size->(∀i L',i≠base+j->ι i=some L'->L'.b≠L.b)->¬Fa (hX ι base ops.size e) (σ e).h L.b:=λj L C J Z=>by
  rintro⟨i,L',o',hi,_,_,hb⟩
  have R:i≠base+j:=λe1=>by subst e1;unfold hX at hi;rw[aY om]at hi;cases hi
  exact Z i L' R (jX _ _ hi) hb
 have F3:∀(j:Nat)(L:Loc),e<=j->j<ops.size->L.b<w.heap.size->(∀i L',i≠base+j->ι i=some L'->L'.b≠L.b)->∀i L',i≠base+j->cW i=some L'->L'.b≠L.b:=λj L C J hb Z i L' R hi=>by
  by_cases h:base+e<=i/\i<base+ops.size
  ·rw[t i h.1 h.2]at hi;exact Z i L' R hi
  ·rw[D i h]at hi;rcases p.new i L' hi with g|g|g
   ·exact Z i L' R (jX _ _ g)
   ·omega
   ·intro e1;rw[e1]at g;exact W j L C J Z g
 have ub:∀(j:Nat)(L:Loc),e<=j->j<ops.size->L.b<w.heap.size->(∀i L',i≠base+j->ι i=some L'->L'.b≠L.b)->w'.heap[L.b]?=w.heap[L.b]?:=λj L C J hb Z=>(p.frame L.b hb (W j L C J Z)).1;obtain⟨F4,F5,A1,C3,FQ⟩:=hT.Sf (lo:=e+1) e' CL Au C1;have C4:∀c,(hX ι base ops.size (max c e)).le (hX cW base ops.size (max c e')):=λc=>mM F1 om;refine⟨e',cW,
  {b0:=u.b0,em:=Au,e1:=?_,e2:=?_,e3:=F0,sm:=?_,down:=zh u.down hk,rel:=?_,nx:=om,early:=?_,out:=?_,late:=?_,Po:=?_,uf:=?_,sz:=by rw[lU];exact u.sz,ds:=?_}⟩
 ·intro f hf C5;rcases Nat.lt_trichotomy f e with h|h|h
  ·exact .inr (u.e1 f h C5)
  ·exact .inl h
  ·exact absurd C5 (C1 f om hf)
 ·intro f C J h3 U;rcases U with rfl|U
  ·omega
  ·exact u.e2 f om J h3 U
 ·intro j V;rcases V with rfl|V;exact P;exact u.sm j V
 ·have C6:=u.rel.trans p;rw[F2]at C6;refine C6.tK (λi=>base+(e+1)<=i/\i<base+e') ?_ ?_ ?_ F5 ?_ ?_ ?_ u.b0
  ·intro i hi;unfold hX;by_cases C:base+e'<=i/\i<base+ops.size
   ·rw[aY C,aY om]
   ·rw[ay C,ay om]
  ·intro i hi;refine⟨?_,om⟩;unfold hX;rw[aY om]
  ·intro i hi;exact A1 i λj C J e1=>hi om
  ·intro i L hi hL;obtain⟨j,rfl⟩:∃j,i=base+j:=⟨i-base,om⟩
   have A:=jX _ _ hL;have F:ι (base+j)=some L:=(by rw[t _ om om]at A;exact A);obtain⟨U,v1,obj,B⟩:=u.out j om (by rw[F];simp);obtain⟨L1,g1,g2,g3,g4,g5,g6⟩:=u.early j v1 obj U om B;rw[F]at g1;cases g1;refine⟨obj,C3 j v1 obj om om B,g2,(g3.mono λq Lq N=>?_).block (ub j L om om g5 g6),by have:=p.size;omega,λq L' N F6=>F3 j L om om g5 g6 q L' N (jX _ _ F6)⟩;by_cases e1:q=base+j
   ·subst e1;rw[cq.add_same]at N;cases N;exact hL
   ·rw[cq.bV _ _ e1]at N;exact mM F1 om q Lq N
  ·intro i hi;omega
  ·intro i L hi hL;obtain⟨j,rfl⟩:∃j,i=base+j:=⟨i-base,om⟩
   have A:=jX _ _ hL;have F:ι (base+j)=some L:=(by rw[t _ om om]at A;exact A);obtain⟨U,v1,obj,B⟩:=u.out j om (by rw[F];simp);obtain⟨L1,g1,g2,g3,g4,g5,g6⟩:=u.early j v1 obj U om B;rw[F]at g1;cases g1;exact g4
 ·intro j v1 obj V he B;have O:S j:=by
   rcases V with rfl|h
   ·omega
   ·exact h
  have C7:j<ops.size:=by have:=u.sm j O;omega
  obtain⟨L,g1,g2,g3,g4,g5,g6⟩:=u.early j v1 obj O om B;refine⟨L,by rw[t _ om om];exact g1,g2,(g3.mono λq Lq N=>?_).block (ub j L om C7 g5 g6),g4,by have:=p.size;omega,F3 j L om C7 g5 g6⟩;by_cases e1:q=base+j
  ·subst e1;rw[cq.add_same]at N⊢;exact N
  ·rw[cq.bV _ _ e1]at N⊢;exact mM F1 (ao _) q Lq N
 ·intro j V h;have h':ι (base+j)≠none:=by
   by_cases FW:e<=j
   ·rw[t _ om om]at h;exact h
   ·rw[D _ om,p.aH _ om,K _ om]at h;exact h
  obtain⟨C,J⟩:=u.out j V h';exact⟨.inr C,J⟩
 ·intro j v1 obj V B U;rcases Nat.lt_trichotomy j e with h|h|h
  ·have O:¬S j:=λh=>U (.inr h);have A2:ι (base+j)=none:=by
    cases hx:ι (base+j)with
    |none=>rfl
    |some L0=>exact absurd (u.out j om (by rw[hx];simp)).1 O
   rw[A1 _ (λq C J=>om),p.same _ om (by unfold hX;split;rfl;exact A2)];exact u.late j v1 obj h B O
  ·subst h;rw[A4]at B;cases B
  ·exact C3 j v1 obj om V B
 ·intro j C J;rw[A1 _ (λq g1 g2=>om),p.same _ om (by unfold hX;rw[aY om])];exact u.Po j om J
 ·refine u.DL hT C8 hk A5 P ho C4 (λc c' h=>uk om) (v:=v) (y:=y) ?_ C9 hd (ds:=Q);rw[F2]at hv;exact hv.mono (uk om)
 ·rw[iU];show tJ _ (σ e').ds Q;rw[F4];rw[F2]at A3;exact A3.mono (uk om)
end
end
end Go.Am
namespace Go.Am
variable[gJ]
variable{E:Env}
namespace T
variable{α:Type}
theorem Se(v:Option α)(l r:T α)(m:Nat):(node v l r).del (m+1)=if m%2=0 then node v (l.del (m/2)) r else node v l (r.del (m/2)):=by
 simp only[del];by_cases h:m%2=0
 ·rw[aY h,h];rfl
 ·rw[ay h];have:Nat.beq (m%2) 0=false:=by
   cases a:Nat.beq (m%2) 0 with
   |false=>rfl
   |true=>exact absurd (uc a) h
  rw[this];rfl
theorem NG:∀(t:T α)(n k:Nat),(t.del n).get k=if k=n then none else t.get k:=by
 intro t;induction t with
 |nil=>intro n k;simp[del,get_nil]
 |node v l r a b=>
  intro n k;cases n with
  |zero=>cases k<;>simp[del,qG,mI]
  |succ m=>
   rw[Se];cases k with
   |zero=>split<;>simp[qG]
   |succ k=>
    split<;>rw[mI,mI]<;>split<;>(try simp only[a,b])
    ·have:(k/2=m/2)↔(k+1=m+1):=om;simp only[this]
    ·rw[ay om]
    ·rw[ay om]
    ·have:(k/2=m/2)↔(k+1=m+1):=om;simp only[this]
end T
theorem KM{t:Tmp}{x:AV}:∀(l:List Oper)(r:T AV),(l.foldl (λr o=>match o.dst with|some d=>r.del d|none=>r) r).get t=some x->r.get t=some x/\∀o∈l,o.dst≠some t
 |[],r,h=>⟨h,sp⟩
 |o::l,r,h=>by
  simp only[jt]at h;obtain⟨a,j⟩:=KM l _ h;cases f:o.dst with
  |none=>
   rw[f]at a;exact⟨a,λg b=>by rcases ak.1 b with rfl|h;rw[f];simp;exact j g h⟩
  |some d=>
   rw[f]at a;simp only[T.NG]at a;split at a
   ·cases a
   ·rename_i i;exact⟨a,λg b=>by rcases ak.1 b with rfl|h;rw[f];simp;exact λe=>i e.symm;exact j g h⟩
theorem Bl{o:Oper}(a:gV E o≠ .pK):∀c,o.op≠ .defer c:=λc ho=>a (by simp[gV,ho])
section
variable{call:fW}{round:eg}{ops:Array Oper}{base:Nat}{σ:Nat->St}{κ:Nat->DK}{m:Nat}{jN:ah}{iC:cq}{jO:World}{x:bT}{cd:St}{ρ:Option Nat}{Q:Exit->Act->World->Prop}
theorem Jt(hE:E.Ok)(hm:oE E call round)(u:iD ops=true)(I:Trace E call round ops base σ κ 0 m)(A1:ze E call round ops σ κ [] 0 m x cd)(Z:m<=ops.size)(C2:jN.nx<=base)(J:(σ 0).bX=ρ.isSome)
 (hP:∀e cW a' w',Ext iC jN jO cW cd.h w'->qj cW cd a' w' ρ->Im cW x e->Q e a' w')
 {S:Nat->Prop} {a:Act} {w:World} {e:Nat} {ι:cq} (g:Inv call round ops base σ κ m jN iC jO S a w e ι) {i:Nat} (C3:i<ops.size) (N:nJ ops S i) (C:¬S i) {K:Act->World->Prop}
 (hK:∀a' w' e' cW,Inv call round ops base σ κ m jN iC jO (λj=>j=i\/S j) a' w' e' cW->K a' w'):wpOpIn (jP ρ) 0 E.P ops Q i K a w:=by
 have C7:=g.em;obtain⟨o,ho⟩:∃o,ops[i]?=some o:=⟨ops[i],by simp[C3]⟩
 have p:i<=m:=by
  rcases A1 with⟨_,h,_⟩|⟨_,_,_,_,_,_,_,_,_,_,_,_,h⟩
  ·omega
  ·rcases dJ m i with h1|h1
   ·have:=g.sm m (g.ready u N (h i h1 C3));omega
   ·exact h1
 have A:=g.Ql u N C p ho;unfold wpOpIn;simp only[ho];rcases bZ p with rfl|p
 ·
   rcases A1 with⟨_,h,_⟩|⟨v,o',r,A3,rfl,F,hw,A4,O,rfl,_,C8,C9⟩
   ·omega
   rw[ho]at F;cases F;have CL:e=i:=by
    rcases bZ C7 with h|h
    ·exact h
    ·have he:=g.e3 h;exact absurd (g.ready u N (C8 e (bJ _) h he)) (g.e2 e (ao _) h he)
   subst CL;rw[Nat.max_self]at A;rw[<-xi]at hw;obtain⟨hw,V⟩:=kP hw A;rw[hw,aY rfl];obtain⟨hn,hr⟩:=I.aH e (ao _);refine AI hE hm (ρ:=ρ) A g.rel.rel g.ds (by rw[hr];exact J) (by rw[wy];exact A4) O (λh=>by cases h) (λv' hv A5 chain w' B C4 C5 F0 F1 Au=>?_);cases hv;refine hP _ A5 a w' (g.rel.trans B) ⟨?_,?_,B.rel,?_,?_⟩ C4
   ·intro t z hz;have F2:(ops.toList.foldl (λr o=>match o.dst with|some d=>r.del d|none=>r) (σ e).rg).get t=some z:=by
     rw[Array.foldl_toList];exact hz
    obtain⟨h1,h2⟩:=KM _ _ F2;have C6:∀j,¬vx ops j t:=λj ⟨o',F,F3⟩=>h2 o' (by
     have:=Array.mem_of_getElem? F;exact Array.mem_toList_iff.2 this) F3
    obtain⟨y,hy,A2⟩:=g.uf t e (ao _) (λj _ hw=>absurd hw (C6 j)) (λj _ hw=>absurd hw (C6 j)) z h1;rw[Nat.max_self]at A2;exact⟨y,hy,A2.mono (B.le g.rel.rel)⟩
   ·show a.tmps.size=A3.n;rw[F0,hn];exact g.sz
   ·show tJ A5 A3.ds a.defers;rw[Au];exact g.ds.mono (B.le g.rel.rel)
   ·show A3.bX=_;rw[F1,hr];exact J
 ·obtain⟨o',F,W⟩:=I.Qm i (bJ _) p;rw[ho]at F;cases F;obtain⟨hn,hr⟩:=I.aH i om;have R:∀b,fY ops (σ i).n (σ i).rg o=some b->Region.wanted o (yielded ops a.tmps)=b/\uN a.tmps.size o.dst=true:=λb h=>by
   rw[<-xi]at h;obtain⟨h1,h2⟩:=kP h A;exact⟨h1,by rw[g.sz,<-hn];exact h2⟩
  cases f:κ i with
  |skip=>
   rw[f]at W;obtain⟨hw,U⟩:=W;obtain⟨hw,V⟩:=R _ hw;rw[hw,ay sp];exact⟨λ_ _=>trivial,hK _ _ _ _ (g.put I u N C p ho (by simp[f]) (by simp[f]) (zc _) (by rw[U]) V)⟩
  |pure v=>
   rw[f]at W;obtain⟨hw,hc,_,U⟩:=W;obtain⟨hw,V⟩:=R _ hw;rw[hw,aY rfl];obtain⟨y,D,hv⟩:=g.still hE I u Z N C p ho (.inl f);refine⟨λ_ _=>trivial,?_⟩;rw[Oper.semAt_eq _ _ _ (Bl (E:=E) (by rw[hc];simp)),D,Oper.uponIn_value];exact hK _ _ _ _ (g.put I u N C p ho (by simp[f]) (by simp[f]) hv (by rw[U]) V)
  |read v=>
   rw[f]at W;obtain⟨hw,hc,_,U⟩:=W;obtain⟨hw,V⟩:=R _ hw;rw[hw,aY rfl];obtain⟨y,D,hv⟩:=g.still hE I u Z N C p ho (.inr f);refine⟨λ_ _=>trivial,?_⟩;rw[Oper.semAt_eq _ _ _ (Bl (E:=E) (by rw[hc];simp)),D,Oper.uponIn_value];exact hK _ _ _ _ (g.put I u N C p ho (by simp[f]) (by simp[f]) hv (by rw[U]) V)
  |alloc v obj=>
   rw[f]at W;obtain⟨hw,hc,_⟩:=W;obtain⟨hw,V⟩:=R _ hw;rw[hw,aY rfl];obtain⟨y,w',cW,D,C1⟩:=g.alloc hE I u Z C2 N C p ho f V;refine⟨λ_ _=>trivial,?_⟩;rw[Oper.semAt_eq _ _ _ (Bl (E:=E) (by rw[hc];simp)),D,Oper.uponIn_value];exact hK _ _ _ _ C1
  |pK=>
   have F4:=g.due I u N C p f;subst F4;rw[f]at W;obtain⟨hw,r,A4,O⟩:=W;obtain⟨hw,V⟩:=R _ hw;rw[hw,aY rfl];rw[Nat.max_self]at A;refine AI hE hm (ρ:=ρ) A g.rel.rel g.ds (by rw[hr];exact J) (by rw[wy];exact A4) O (λ_ A5 v y F5 w' B hv C5 _ _ Au=>?_) (λv hv=>by cases hv);obtain⟨e',cW,C1⟩:=g.pK I u Z C2 N p ho V B hv C5 Au;exact hK _ _ _ _ C1
theorem KN(hE:E.Ok)(hm:oE E call round)(F:iD ops=true)(hT:Trace E call round ops base σ κ 0 m)(C:ze E call round ops σ κ [] 0 m x cd)(R:m<=ops.size)(Au:jN.nx<=base)(D:(σ 0).bX=ρ.isSome)
 (hP:∀e cW a' w',Ext iC jN jO cW cd.h w'->qj cW cd a' w' ρ->Im cW x e->Q e a' w'):
 ∀(fuel:Nat)(listed:Array Bool)(a:Act)(w:World)(e:Nat)(ι:cq)(S:Nat->Prop),listed.size=ops.size->(∀j,S j↔j<ops.size/\listed.getD j false=true)->(∃l:cB,l.length=fuel/\∀j,j<ops.size->¬S j->j∈l)->
  Inv call round ops base σ κ m jN iC jO S a w e ι->wpAnyIn (jP ρ) 0 E.P .any ops Q fuel listed a w:=by
 have fin:∀(a:Act)(w:World)(e:Nat)(ι:cq)(S:Nat->Prop),(∀j,j<ops.size->S j)->Inv call round ops base σ κ m jN iC jO S a w e ι->Q .normal a w:=by
  intro a w e ι S b g;have I:m=ops.size:=by
   rcases bZ R with h|h
   ·exact h
   ·have:=g.sm m (b m h);omega
  have C1:e=m:=by
   rcases bZ g.em with h|h
   ·exact h
   ·exact absurd (b e om) (g.e2 e (ao _) h (g.e3 h))
  rcases C with⟨rfl,_,rfl⟩|⟨_,_,_,_,_,ho,_⟩
  ·have u:=g.rel;have U:=g.ds;rw[C1,I,Ju]at u U;obtain⟨hn,hr⟩:=hT.aH m (ao _);rw[I]at hn hr;rw[I]at hP;refine hP .normal ι a w u ⟨?_,?_,u.rel,U,by rw[hr];exact D⟩ trivial
   ·intro t z hz;obtain⟨y,hy,hv⟩:=g.uf t ops.size om (λj p _=>b j p) (λj p hw=>by obtain⟨o,ho,_⟩:=hw;have:=(bI.1 ho).1;omega) z hz;exact⟨y,hy,hv.mono jX⟩
   ·rw[hn];exact g.sz
  ·have:=(bI.1 ho).1;omega
 have getD_eq:∀(listed:Array Bool)(j:Nat),listed.size=ops.size->j<ops.size->listed.getD j true=listed.getD j false:=λlisted j J h2=>by
  simp[Array.getD,J,h2]
 have least:∀(listed:Array Bool)(S:Nat->Prop),listed.size=ops.size->(∀j,S j↔j<ops.size/\listed.getD j false=true)->Region.ready .any ops listed=[]->∀j,j<ops.size->S j:=by
  intro listed S f A hr j;induction j using Nat.strongRecOn with
  |_ j ih=>
   intro p;refine(A j).2 ⟨p,?_⟩;cases K:listed.getD j false with
   |true=>rfl
   |false=>
    exfalso;obtain⟨o,ho⟩:∃o,ops[j]?=some o:=⟨ops[j],by simp[p]⟩
    have:j∈Region.ready .any ops listed:=mem_ready.2 ⟨by rw[getD_eq listed j f p];exact K,o,ho,λe he hb=>by
     have V:=vy F ho (Array.mem_toList_iff.2 he) hb;exact((A e.on).1 (ih e.on V om)).2⟩
    rw[hr]at this;cases this
 intro fuel;induction fuel with
 |zero=>
  intro listed a w e ι S f A K g;obtain⟨l,N,K⟩:=K;have N:l=[]:=cI N;subst N;have b:∀j,j<ops.size->S j:=λj p=>pL λh=>by have:=K j p h;cases this
  refine⟨?_,fin a w e ι S b g⟩;refine uK.2 λj p=>?_;obtain⟨J,o,ho,_⟩:=mem_ready.1 p;have W:=(bI.1 ho).1;rw[getD_eq listed j f W]at J;have:=((A j).1 (b j W)).2;rw[J]at this;cases this
 |succ fuel ih=>
  intro listed a w e ι S f A K g;refine⟨λhr=>fin a w e ι S (least listed S f A hr) g,λi hi=>?_⟩;obtain⟨J,o,ho,O⟩:=mem_ready.1 hi;have B:=(bI.1 ho).1;rw[getD_eq listed i f B]at J;have Z:¬S i:=λh=>by have:=((A i).1 h).2;rw[J]at this;cases this
  refine Jt hE hm F hT C R Au D hP g B (λo' A1 e' A2 A3=>?_) Z (λa' w' e' cW C2=>?_)
  ·rw[ho]at A1;cases A1;have V:=vy F ho A2 A3;exact(A e'.on).2 ⟨om,O e' (Array.mem_toList_iff.1 A2) A3⟩
  ·refine ih (listed.setIfInBounds i true) a' w' e' cW _ (U7 f) (λj=>?_) ?_ C2
   ·by_cases v:j=i
    ·subst v;simp[Array.getD,f,B]
    ·have:(listed.setIfInBounds i true).getD j false=listed.getD j false:=by
      have:=dH (xs:=listed) (i:=i) (j:=j) (a:=true) (λh=>v h.symm);simp only[w8,this]
     rw[this,<-A j];exact⟨λh=>by rcases h with h|h;exact absurd h v;exact h,λh=> .inr h⟩
   ·obtain⟨l,C3,A4⟩:=K;refine⟨l.erase i,by rw[List.length_erase_of_mem (A4 i B Z),C3];rfl,λj p A5=>?_⟩;have v:j≠i:=λh=>A5 (.inl h);exact(List.mem_erase_of_ne v).2 (A4 j p λh=>A5 (.inr h))
end
theorem Jv(hE:E.Ok){call:fW}{round:eg}(hm:oE E call round){ops:Array Oper}{ρ:Option Nat}{x:bT}{st cd:St}{ι:cq}{a:Act}{w:World}{Q:Exit->Act->World->Prop}
 (W:iD ops=true)
 (hr:lV E call round ops (gX ops) st.h.nx ops.toList.zipIdx {st with h:={st.h with nx:=st.h.nx+ops.size}} [] []=some (x,cd)) (g:qj ι st a w ρ) (hP:dS ι st w ρ x cd Q):
 wpAnyIn (jP ρ) 0 E.P .any ops Q ops.size (Array.replicate ops.size false) a {w with drawn:=w.drawn+1}:=by
 obtain⟨σ,κ,m,p,_,Z,_,C⟩:=rT ops.toList.zipIdx 0 _ [] [] (λj=>by simp[List.getElem?_zipIdx]) sp sp hr;have A1:m<=ops.size:=by
  rcases C with⟨_,h,_⟩|⟨_,_,_,_,_,ho,_⟩
  ·omega
  ·have:=(bI.1 ho).1;omega
 have A:∀i,st.h.nx<=i->ι i=none:=λi hi=>by
  cases hx:ι i with
  |none=>rfl
  |some L=>have:=g.heap.lt i L hx;omega
 have B:∀c,hX ι st.h.nx ops.size c=ι:=λc=>by
  funext i;unfold hX;split
  ·rename_i h;exact(A i om).symm
  ·rfl
 obtain⟨e,A2,K,N,A3⟩:=Io κ 0 m (bJ _);obtain⟨A4,A5,O,Au,C3⟩:=Z.Sf (lo:=0) e A2 K N;have R:(σ 0).h={st.h with nx:=st.h.nx+ops.size}:=by rw[p]
 have u:∀i,(σ 0).h.get i=st.h.get i:=λi=>by rw[R];rfl
 have C4:(σ 0).h.nx=st.h.nx+ops.size:=by rw[R]
 refine(KN hE hm W Z C A1 (jN:=st.h) (iC:=ι) (jO:=w) (ao _) (by rw[p];exact g.bX) hP ops.size (Array.replicate ops.size false) a _ e ι (λ_=>False) sp
  (λj=>⟨λh=>h.elim,λh=>by have:=h.2;simp[Array.getD]at this⟩) ⟨List.range ops.size,sp,λj D _=>U7 D⟩ ?_)
 have I:Ext ι st.h w ι (σ 0).h {w with drawn:=w.drawn+1}:=
  ⟨⟨λi L hi=>by
   obtain⟨o,F,J⟩:=g.heap.obj i L hi;exact⟨o,by rw[u];exact F,J.block rfl⟩,
   λi j Li Lj oi oj C1 hi D S U=>g.heap.Js i j Li Lj oi oj C1 hi D (by rw[u]at S;exact S) (by rw[u]at U;exact U),
   λi L hi=>by have:=g.heap.lt i L hi;omega,
   λi hi=>by rw[u];exact g.heap.fresh i om,
   g.heap.Kz,⟨g.heap.base.size,g.heap.base.old,g.heap.base.os,λi L o hi ho C2=>g.heap.base.own i L o hi (by rw[u]at ho;exact ho) C2⟩⟩,λ_ _=>rfl,λi _ _=>u i,om,ao _,
   λb _ hn=>⟨rfl,λ⟨i,L,o,hi,ho,F,J⟩=>hn ⟨i,L,o,hi,by rw[u]at ho;exact ho,F,J⟩⟩,rfl,rfl,rfl,λi L hi=> .inl hi⟩
 refine
  {b0:=g.heap.base.size,em:=K,e1:=λf hf hk=>absurd hk (N f (bJ _) hf),e2:=λf F J h3 h=>h.elim,e3:=A3,sm:=λj h=>h.elim,down:=λi o ho h=>h.elim,rel:=?_,nx:=om,early:=λj v obj h=>h.elim,
   out:=λj D h=>absurd (A _ om) h,late:=λj v obj D hk _=>Au j v obj (bJ _) D hk,Po:=λj F J=>?_,uf:=?_,sz:=by rw[p];exact g.n,ds:=?_}
 ·rw[B];refine I.tK (λi=>st.h.nx<=i/\i<st.h.nx+e) (λ_ _=>rfl) (λi hi=>⟨A i hi.1,om⟩) (λi hi=>O i λj F J e1=>hi om) A5 (λi L hi V=>?_) (λi hi=>hi.1) (λi L hi V=>?_) g.heap.base.size
  ·rw[A i hi.1]at V;cases V
  ·rw[A i hi.1]at V;cases V
 ·rw[O _ (λq g1 g2=>om),u];exact g.heap.fresh _ om
 ·intro t i hi F J z hz;rw[Z.quiet (t:=t) (lo:=0) i (bJ _) hi (λj _ D hw=>F j D hw),p]at hz;obtain⟨y,hy,hv⟩:=g.uf t z hz;exact⟨y,hy,by rw[B];exact hv⟩
 ·rw[B,A4,p];exact g.ds
end Go.Am
namespace Go.Am
section
theorem qH:∀{p:cB}{i:Nat},i∈p->p[dG p i]?=some i
 |x::r,i,h=>by
  simp only[dG];by_cases e:x=i
  ·simp[e]
  ·rw[ay e];have:i∈r:=(by rcases ak.1 h with h|h;exact absurd h.symm e;exact h);simpa using qH this
theorem yk:∀{p:cB}(_:p.Nodup){k i:Nat},p[k]?=some i->dG p i=k
 |x::r,a,0,i,h=>by simp at h;subst h;simp[dG]
 |x::r,a,k+1,i,h=>by
  simp at h;have hm:=bg h;have b:x≠i:=λe=>by subst e;exact(fh.1 a).1 hm
  simp only[dG,ay b];rw[yk (fh.1 a).2 h]
theorem zi:∀{p:cB}{i:Nat},i∉p->dG p i=p.length
 |[],i,h=>rfl
 |x::r,i,h=>by
  have a:x≠i:=λe=>h (by simp[e]);simp only[dG,ay a];rw[zi λhm=>h (by simp[hm])];rfl
theorem Bp:∀{p:cB},Iq p=true->p.Nodup
 |[],_=>by simp
 |x::r,h=>by
  simp[Iq]at h;exact fh.2 ⟨h.1,Bp h.2⟩
section
variable{ops:Array Oper}{p:cB}
theorem rv(h:mi ops p=true):p.length=ops.size/\p.Nodup/\∀i∈p,i<ops.size:=by
 simp[mi]at h;exact⟨h.1.1.1,Bp h.1.1.2,h.1.2⟩
theorem vC(h:mi ops p=true){i:Nat}(hi:i<ops.size):i∈p:=by
 simp[mi]at h;exact h.2 i hi
theorem z8(h:mi ops p=true)(k:Nat):(jg ops p)[k]?=(p[k]?).bind λi=>(ops[i]?).map (cz p):=by
 obtain⟨g,j,e⟩:=rv h;have gen:∀(l:cB)(k:Nat),(∀i∈l,i<ops.size)->(l.filterMap λi=>(ops[i]?).map (cz p))[k]?=(l[k]?).bind λi=>(ops[i]?).map (cz p):=by
  intro l;induction l with
  |nil=>intro k _;simp
  |cons x r f=>
   intro k a;have b:x<ops.size:=a x sp;simp only[List.filterMap_cons,j6 b,np];cases k with
   |zero=>simp[j6 b]
   |succ k=>simpa using f k λi hi=>a i (by simp[hi])
 simpa[jg]using gen p k e
theorem uo(h:mi ops p=true):(jg ops p).size=ops.size:=by
 obtain⟨b,j,e⟩:=rv h;have gen:∀(l:cB),(∀i∈l,i<ops.size)->(l.filterMap λi=>(ops[i]?).map (cz p)).length=l.length:=by
  intro l;induction l with
  |nil=>intro _;simp
  |cons x r f=>
   intro a;have g:x<ops.size:=a x sp;simp only[List.filterMap_cons,j6 g,np,ai,f λi hi=>a i (by simp[hi])]
 simp[jg,gen p e,b]
theorem xC(h:mi ops p=true){i:Nat}(hi:i<ops.size):(jg ops p)[dG p i]?=(ops[i]?).map (cz p):=by
 rw[z8 h,qH (vC h hi)];rfl
theorem Aa(h:mi ops p=true){i:Nat}(hi:¬i<ops.size):(jg ops p)[dG p i]?=none:=by
 obtain⟨a,e,b⟩:=rv h;rw[zi λhm=>hi (b i hm)];rw[mu];rw[uo h,a];exact ao _
theorem DM(h:mi ops p=true)(tm:Array Value)(i:Nat):yielded (jg ops p) tm (dG p i)=yielded ops tm i:=by
 unfold yielded;by_cases hi:i<ops.size
 ·rw[xC h hi];cases ops[i]?<;>rfl
 ·rw[Aa h hi,mu om]
variable{F:Fence}{n:Nat}{P:Program}{Q:Exit->Act->World->Prop}
theorem Fb(h:mi ops p=true){i:Nat}{K m:Act->World->Prop}(e:∀a w,K a w->m a w){a:Act}{w:World}(hw:wpOpIn F n P (jg ops p) Q (dG p i) K a w):wpOpIn F n P ops Q i m a w:=by
 by_cases hi:i<ops.size
 ·unfold wpOpIn at hw⊢;rw[xC h hi]at hw;rw[j6 hi]at hw⊢;simp only[np]at hw⊢;have e1:Region.wanted (cz p ops[i]) (yielded (jg ops p) a.tmps)=Region.wanted ops[i] (yielded ops a.tmps):=by
   unfold Region.wanted cz;cases t:ops[i].guard with
   |none=>simp
   |some g=>obtain⟨j,b⟩:=g;simp[DM h]
  rw[e1]at hw;split at hw
  ·rename_i f;rw[aY f];exact Oper.wpIn_mono (o:=ops[i]) e hw
  ·rename_i f;rw[ay f];exact⟨hw.1,e _ _ hw.2⟩
 ·unfold wpOpIn at hw⊢;rw[Aa h hi]at hw;rw[mu om];exact e _ _ hw
theorem AN{l:Array Bool}{i:Nat}(h:i<l.size):l.getD i true=l.getD i false:=by simp[Array.getD,h]
theorem Fc{l:Array Bool}{i:Nat}(h:¬i<l.size)(d:Bool):l.getD i d=d:=by simp[Array.getD,h]
theorem Bq(h:mi ops p=true){l l':Array Bool}(w:l.size=ops.size)(b:l'.size=ops.size)(v:∀i,i<ops.size->l'.getD (dG p i) false=l.getD i false){i:Nat}:
 i∈Region.ready .any ops l->dG p i∈Region.ready .any (jg ops p) l':=by
 obtain⟨A,B,C⟩:=rv h;have f:∀{j},j<ops.size->dG p j<ops.size:=λ{j} g=>by
  have:=qH (vC h g);have:=(aV.1 this).1;omega
 intro hi;obtain⟨g1,o,ho,g2⟩:=mem_ready.1 hi;have a:=(bI.1 ho).1;refine mem_ready.2 ⟨?_,cz p o,by rw[xC h a,ho];rfl,?_⟩
 ·rw[AN (by rw[b];exact f a),v i a,<-AN (by rw[w];exact a)];exact g1
 ·intro e he y;simp only[cz,Array.mem_map]at he;obtain⟨m,t,rfl⟩:=he;have u:Region.binds .any m=true:=y;have:=g2 m t u;by_cases g:m.on<ops.size
  ·rw[v _ g];exact this
  ·rw[Fc om]at this;cases this
theorem DN(h:mi ops p=true):∀(fuel:Nat){l l':Array Bool}{a:Act}{w:World},l.size=ops.size->l'.size=ops.size->(∀i,i<ops.size->l'.getD (dG p i) false=l.getD i false)->
 wpAnyIn F n P .any (jg ops p) Q fuel l' a w->wpAnyIn F n P .any ops Q fuel l a w:=by
 obtain⟨I,K,J⟩:=rv h;have y:∀{j},j<ops.size->dG p j<ops.size:=λ{j} u=>by
  have:=qH (vC h u);have:=(aV.1 this).1;omega
 have back:∀{l l':Array Bool},l.size=ops.size->l'.size=ops.size->(∀i,i<ops.size->l'.getD (dG p i) false=l.getD i false)->Region.ready .any ops l=[]->Region.ready .any (jg ops p) l'=[]:=by
  intro l l' m b t hr;refine uK.2 λk A=>?_;obtain⟨g1,R,g,g2⟩:=mem_ready.1 A;have v:k<ops.size:=by have:=(bI.1 g).1;rw[uo h]at this;exact this
  obtain⟨i,hi⟩:∃i,p[k]?=some i:=⟨p[k]' om,by simp[I,v]⟩
  have f:i<ops.size:=J i (bg hi);have B:dG p i=k:=yk K hi;have:i∈Region.ready .any ops l:=by
   rw[z8 h,hi]at g;simp only[Option.bind_some,j6 f,np,bj]at g;refine mem_ready.2 ⟨?_,ops[i],by simp[f],λe he N=>?_⟩
   ·rw[AN (by rw[m];exact f),<-t i f,B,<-AN (by rw[b];exact v)];exact g1
   ·have this:l'.getD (dG p e.on) false=true:=g2 {e with on:=dG p e.on} (by rw[<-g];simp only[cz,Array.mem_map];exact⟨e,he,rfl⟩) N;by_cases u:e.on<ops.size
    ·rw[t _ u]at this;exact this
    ·have C:¬dG p e.on<l'.size:=(by rw[b,zi λhm=>u (J _ hm),I];omega);rw[Fc C]at this;cases this
  rw[hr]at this;cases this
 intro fuel;induction fuel with
 |zero=>
  intro l l' a w m b t hw;simp only[wpAnyIn]at hw⊢;refine⟨?_,hw.2⟩;refine uK.2 λi hi=>?_;have:=Bq h m b t hi;rw[hw.1]at this;cases this
 |succ fuel O=>
  intro l l' a w m b t hw;simp only[wpAnyIn]at hw⊢;refine⟨λhr=>hw.1 (back m b t hr),λi hi=>?_⟩;have f:i<ops.size:=by obtain⟨_,o,ho,_⟩:=mem_ready.1 hi;exact(bI.1 ho).1
  refine Fb h (λS w' A=>O (U7 m) (U7 b) (λj u=>?_) A) (hw.2 _ (Bq h m b t hi));by_cases e:j=i
  ·subst e;simp[Array.getD,m,b,f,y f]
  ·have D:dG p j≠dG p i:=λe'=>by
    have a1:=qH (vC h u);have a2:=qH (vC h f);rw[e',a2]at a1;cases a1;exact e rfl
   have:=t j u;simp only[w8]at this⊢;rw[dH (λe'=>D e'.symm),dH (λe'=>e e'.symm)];exact this
end
variable{E:Env}
theorem Fe(ops:Array Oper):tM E ops=ops\/∃p,mi ops p=true/\tM E ops=jg ops p:=by
 unfold tM;cases oI E ops with
 |false=>exact .inl rfl
 |true=>
  cases h:mi ops (KQ E ops ops.size ops.toList.zipIdx [])with
  |false=>exact .inl rfl
  |true=>exact .inr ⟨_,h,rfl⟩
theorem Ce{F:Fence}{n:Nat}{P:Program}{Q:Exit->Act->World->Prop}{ops:Array Oper}{a:Act}{w:World}
 (hw:wpAnyIn F n P .any (tM E ops) Q (tM E ops).size (Array.replicate (tM E ops).size false) a w):wpAnyIn F n P .any ops Q ops.size (Array.replicate ops.size false) a w:=by
 rcases Fe (E:=E) ops with h|⟨p,b,h⟩
 ·rw[h]at hw;exact hw
 ·rw[h,uo b]at hw;refine DN b ops.size sp sp (λi hi=>?_) hw;have:∀j,(Array.replicate ops.size false).getD j false=false:=λj=>by
   by_cases e:j<ops.size<;>simp[Array.getD,e]
  rw[this,this]
end
section
variable[gJ]
variable{E:Env}
theorem dS.KO{ι cW:cq}{st a cd:St}{w w':World}{ρ:Option Nat}{x:bT}{Q:Exit->Act->World->Prop}(h:dS ι st w ρ x cd Q)(he:Ext ι st.h w cW a.h w'):dS cW a w' ρ x cd Q:=
 λe b a2 g f i j=>h e b a2 g (he.trans f) i j
theorem exists_least{p:Nat->Prop}(h:∃k,p k):∃k,p k/\∀j,p j->k<=j:=by
 obtain⟨k,f⟩:=h;induction k using Nat.strongRecOn with
 |_ k g=>
  by_cases e:∃j,j<k/\p j
  ·obtain⟨j,b,a⟩:=e;exact g j b a
  ·exact⟨k,f,λj a=>by
    rcases dJ j k with h|h
    ·exact absurd ⟨j,h,a⟩ e
    ·exact h⟩
open Classical in
noncomputable def leastOf(p:Nat->Prop):Nat:=if h:∃k,p k then Classical.choose (exists_least h)else 0
theorem leastOf_spec{p:Nat->Prop}(h:∃k,p k):p (leastOf p)/\∀j,p j->leastOf p<=j:=by
 unfold leastOf;rw[dif_pos h];exact Classical.choose_spec (exists_least h)
theorem E3{call:fW}{round:eg}{fuel:Nat}{ρ:Option Nat}{c:Code}(S:E.Ok)
 (C:∀{st:St}{x:bT}{cd:St}{ι:cq}{a:Act}{w:World}{Q:Exit->Act->World->Prop},dM E call round fuel c st=some (x,cd)->qj ι st a w ρ->dS ι st w ρ x cd Q->c.wpIn (jP ρ) 0 E.P Q a w)
 {n:Nat} {st:St} {x:bT} {cd:St} {ι:cq} {a:Act} {w:World} {Q:Exit->Act->World->Prop} (hr:qk (dM E call round fuel c) n st=some (x,cd)) (J:qj ι st a w ρ) (N:dS ι st w ρ x cd Q):
 (Code.loop c).wpIn (jP ρ) 0 E.P Q a w:=by
 let In:Nat->Act->World->Prop:=λk a1 o=>∃j u,qk (dM E call round fuel c) k j=some (x,cd)/\qj u j a1 o ρ/\Ext ι st.h w u j.h o;let D:Act->World->Nat:=λa1 o=>leastOf λk=>In k a1 o;refine wpIn_loop (λa1 o=>∃k,In k a1 o) D ⟨n,st,ι,hr,J,Ext.refl J.heap⟩ λa1 o O=>?_;obtain⟨⟨j,u,b,p,B⟩,-⟩:=leastOf_spec O;change qk (dM E call round fuel c) (D a1 o) j=_ at b;cases K:D a1 o with
 |zero=>rw[K]at b;simp[qk]at b
 |succ k=>
  rw[K]at b;simp only[qk]at b;split at b
  ·rename_i F R;refine C R p λe f a2 t g i m=>?_;cases e with
   |normal=>
    have y:In k a2 t:=⟨F,f,b,i,B.trans g⟩
    refine⟨⟨k,y⟩,?_⟩;show leastOf (λk=>In k a2 t)<_;exact Nat.lt_succ_of_le ((leastOf_spec ⟨k,y⟩).2 k y)
   |_=>exact m.elim
  ·rename_i I;have A:=N.KO B;cases x with
   |kj=>exact(I _ b).elim
   |exit id=>exact C b p λe f a2 t g i m=>by cases e<;>first|exact A _ f a2 t g i m|exact m.elim
   |ret=>exact C b p λe f a2 t g i m=>by cases e<;>first|exact A _ f a2 t g i m|exact m.elim
   |jz v=>exact C b p λe f a2 t g i m=>by cases e<;>first|exact A _ f a2 t g i m|exact m.elim
theorem DC(b:E.Ok){k:FuncId}(h:AJ E k=true):∃fn,E.P.funcs[k]?=some fn/\(fn.name== "runtime.NumGoroutine")=false/\fn.body.isNone=false:=by
 unfold AJ at h;split at h
 ·rename_i fn a;obtain⟨e,f⟩:=b.fn k fn a;exact⟨fn,e,f,by cases g:fn.body<;>simp_all⟩
 ·simp at h
theorem mJ{P:Program}{b:Frame}{a:Act}{k:List Item}{cs:List Frame}{w:World}{c:Code}:step P (lone (b.atR a (.code (.scope c)::k)) cs w)= .next (lone (b.atR a (.code c:: .inScope c::k)) cs w):=
 step_lone_go (by simp[stepG,stepG.exec,Frame.atR])
theorem Cd{P:Program}{b:Frame}{a:Act}{k:List Item}{cs:List Frame}{w:World}{c:Code}:step P (lone (b.atR a (.inScope c::k)) cs w)= .next (lone (b.atR a k) cs w):=
 step_lone_go (by simp[stepG,stepG.exec,Frame.atR])
theorem wS{F:Fence}{n:Nat}{P:Program}{Q:Exit->Act->World->Prop}{a:Act}{w:World}{c:Code}(h:c.wpIn F n P (Exit.noGoto Q) a w):(Code.scope c).wpIn F n P Q a w:=by
 intro b k cs m o hr;have h0:(lone (b.atR a (.code (.scope c)::k)) cs w).fenced P F:=fenced_calm o hr rfl;obtain⟨e,g,i,j,f⟩:=h b (.inScope c::k) cs m o hr;cases e with
 |normal=>exact⟨.normal,g,i,j,.head h0 mJ (StepsIn.trans f (.one (fenced_calm o hr rfl) Cd))⟩
 |exit id=>
  have u:exitTo id (.inScope c::k)=exitTo id k:=by simp[exitTo]
  exact⟨.exit id,g,i,j,λv p=> .head h0 mJ (f.1 v (by rw[u];exact p)),
   λt p=>let ⟨k₁,y,A⟩:=f.2 t (by rw[u];exact p);⟨k₁,y,.head h0 mJ A⟩⟩
 |goto l=>exact j.elim
 |ret=>exact⟨_,g,i,j,.of_steps (.one h0 mJ) f⟩
 |panic ch=>exact⟨_,g,i,j,.of_steps (.one h0 mJ) f⟩
 |outgrown=>exact⟨_,g,i,j,.of_steps (.one h0 mJ) f⟩
theorem mK(hE:E.Ok){call:fW}{round:eg}(hm:oE E call round){fuel:Nat}{ρ:Option Nat}:
 ∀{c:Code}{st:St}{x:bT}{cd:St}{ι:cq}{a:Act}{w:World}{Q:Exit->Act->World->Prop},dM E call round fuel c st=some (x,cd)->qj ι st a w ρ->dS ι st w ρ x cd Q->c.wpIn (jP ρ) 0 E.P Q a w:=by
 intro c;induction c with
 |skip=>
  intro st x cd ι a w Q hr m p;simp[dM]at hr;obtain⟨rfl,rfl⟩:=hr;exact wpIn_skip (p _ ι a w (Ext.refl m.heap) m trivial)
 |ret=>
  intro st x cd ι a w Q hr m p;simp[dM]at hr;obtain⟨rfl,rfl⟩:=hr;exact wpIn_ret (p _ ι a w (Ext.refl m.heap) m trivial)
 |exit id=>
  intro st x cd ι a w Q hr m p;simp[dM]at hr;obtain⟨rfl,rfl⟩:=hr;exact wpIn_exit (p _ ι a w (Ext.refl m.heap) m rfl)
 |region id ops d=>
  intro st x cd ι a w Q hr m p;cases d with
  |false=>
   simp only[dM]at hr;exact wpIn_region_list (xw hE hm hr m p)
  |true=>
   simp only[dM,AK]at hr;split at hr
   ·rename_i G4;exact wpIn_region_any hE.mixed (Ce (Jv hE hm G4 hr m p))
   ·simp at hr
 |seq c1 c2 K Z=>
  intro st x cd ι a w Q hr m p;simp only[dM]at hr;refine wpIn_seq ?_;split at hr
  ·rename_i G5 hc;refine K hc m λe t a1 C he N D=>?_;cases e with
   |normal=>exact Z hr N (p.KO he)
   |_=>exact D.elim
  ·rename_i O;refine K hr m λe t a1 C he N D=>?_;cases x with
   |kj=>exact(O _ hr).elim
   |_=>cases e<;>first|exact p _ t a1 C he N D|exact D.elim
 |cond o c1 c2 K Z=>
  intro st x cd ι a w Q hr m p;simp only[dM]at hr;split at hr
  ·rename_i hc;exact wpIn_cond (bM m.uf hc).lR (K hr m p)
  ·rename_i hc;exact wpIn_cond (bM m.uf hc).lR (Z hr m p)
  ·simp at hr
 |block id c ih=>
  intro st x cd ι a w Q hr m p;simp only[dM]at hr;refine wpIn_block ?_;split at hr
  ·rename_i C3 G5 hc;split at hr
   ·rename_i hid;simp at hr;obtain⟨rfl,rfl⟩:=hr;refine ih hc m λe t a1 C he N D=>?_;cases e with
    |exit j=>
     have:C3=j:=D;subst this;simp only[Exit.inBlock,hid,kh];exact p _ t a1 C he N trivial
    |_=>exact D.elim
   ·rename_i hid;simp at hr;obtain⟨rfl,rfl⟩:=hr;refine ih hc m λe t a1 C he N D=>?_;cases e with
    |exit j=>
     have:C3=j:=D;subst this;simp only[Exit.inBlock,hid,eY];exact p _ t a1 C he N rfl
    |_=>exact D.elim
  ·rename_i O;refine ih hr m λe t a1 C he N D=>?_;cases x with
   |exit C3=>exact(O _ _ hr).elim
   |_=>cases e<;>first|exact p _ t a1 C he N D|exact D.elim
 |loop c ih=>
  intro st x cd ι a w Q hr m p;simp only[dM]at hr;exact E3 hE ih hr m p
 |label l=>
  intro st x cd ι a w Q hr m p;simp[dM]at hr;obtain⟨rfl,rfl⟩:=hr;exact wpIn_label (p _ ι a w (Ext.refl m.heap) m trivial)
 |scope c ih=>
  intro st x cd ι a w Q hr m p;simp only[dM]at hr;refine wS (ih hr m λe t a1 C he N D=>?_);cases e with
  |goto l=>cases x<;>exact D.elim
  |_=>exact p _ t a1 C he N D
 |rangeFunc f ps ae b K Z=>
  intro st x cd ι a w Q hr m p;simp only[dM]at hr;split at hr
  ·rename_i g lQ hf;split at hr
   ·simp at hr
   ·rename_i R;simp at R;obtain⟨F3,C4⟩:=R;have GL:ρ=none:=by
     cases ρ with
     |none=>rfl
     |some l=>have:=m.bX;rw[F3]at this;cases this
    subst GL;split at hr
    ·rename_i v h2 C5;split at hr
     ·simp at hr
     ·rename_i C6 u n rg A1 as' b' Gq F4;refine wpIn_rangeFunc λA3 _=>?_;obtain⟨fn,H2,C7,H3⟩:=DC hE C4;obtain⟨cs,H4,H5⟩:∃cs,a.eval f= .func (.func g) #[] cs/\bp ι lQ cs.toList:=by
       have A4:=bM m.uf hf;cases h1:a.eval f<;>rw[h1]at A4<;>cases A4;exact⟨_,rfl,‹_›,‹_›⟩
      let U:Loc:={b:=w.heap.size,base:=0,top:=0,es:=0,rw:=true}
      let w0:World:=w.alloc (.deferred (some []));have A2:Ext ι st.h w (ι.add st.h.nx U) (st.h.alloc .qT).2 w0:=
       m.heap.alloc (w0:=w) rfl rfl rfl rfl _ _ U rfl (heap_alloc_new w _)
      let J:Loc:={b:=w0.heap.size,base:=0,top:=0,es:=0,rw:=true}
      let F5:Loop:={state:= .ready,pending:=none,fn:=A3,tmps:=a.tmps,params:=ps,assign:=ae,body:=b,defers:=w.heap.size}
      let C:World:=w0.alloc (.loop F5);let h0:=(st.h.alloc .qT).2;have C8:cj (ι.add st.h.nx U) st.rg a.tmps:=m.uf.mono (A2.le m.heap);have F6:(ι.add st.h.nx U).le ((ι.add st.h.nx U).add h0.nx J):=λi Li hi=>by
       rw[cq.bV];exact hi;have:=A2.rel.lt i Li hi;exact Nat.ne_of_lt this
      have F7:Ext (ι.add st.h.nx U) h0 w0 ((ι.add st.h.nx U).add h0.nx J) (h0.alloc (.loop .ready none st.n st.rg ps ae b)).2 C:=
       A2.rel.alloc (w0:=w0) rfl rfl rfl rfl _ _ J rfl ⟨a.tmps,w.heap.size,A3,heap_alloc_new w0 _,C8.mono F6,m.n⟩
      have A5:=A2.trans F7;refine⟨w0.heap.size,[{target:= .collected w.heap.size,args:= #[]}],C,{target:= .fn (.func g) cs,args:= #[.func (.yield w0.heap.size) #[] #[]]},C,g,
       #[.func (.yield w0.heap.size) #[] #[]]++cs,C,?_,?_,λ_ _=>trivial,?_,λh=>by simp[jP,Fence.wide]at h,?_⟩
      ·simp only[Instr.enterLoop,Sem.run_bind,Sem.run_pure,run_newObj,Result.andThen_ok,jP];rfl
      ·show(resolve a.eval (rangeCall f w0.heap.size) 0).run E.P C=_;simp only[resolve,Deferred.ofValue,H4];simp[Act.eval]
      ·simp only[invoke,callFunc,Sem.run_bind,run_program,Result.andThen_ok,H2,C7,H3];simp
      ·rw[yd];have C9:bp ((ι.add st.h.nx U).add h0.nx J) (.Cx h0.nx::lQ) (#[Value.func (.yield w0.heap.size) #[] #[]]++cs).toList:=by
        simp only[Array.toList_append,aI,aX];exact bp.cons (.Cx (L:=J) (cq.add_same _ _ _)) (H5.mono (A5.le m.heap))
       refine(hm.call C5 F7.rel C9).mono λe V he=>?_;obtain⟨A,B,Au⟩:=he;cases e with
       |panicked chain=>exact Au.elim
       |outgrown=>exact Au.elim
       |returned y=>
        have F:=A5.trans B;have C1:h0.nx<(h0.alloc (.loop .ready none st.n st.rg ps ae b)).2.nx:=Nat.lt_succ_self _
        have FF:A h0.nx=some J:=(by rw[B.aH _ C1,cq.add_same]);have C2:st.h.nx<h0.nx:=Nat.lt_succ_self _;have H6:A st.h.nx=some U:=by
         rw[B.aH _ (Nat.lt_trans C2 C1),cq.bV _ _ (Nat.ne_of_lt C2),cq.add_same]
        obtain⟨ob,FO,hO⟩:=B.rel.obj _ _ FF;rw[F4]at FO;cases FO;obtain⟨tm,df,CL,F0,F1,FP⟩:=hO;have H7:(Instr.getLoop J.b).run E.P V= .ok {state:=C6,pending:=u,fn:=CL,tmps:=tm,params:=A1,assign:=as',body:=b',defers:=df} V:=by
         simp[Instr.getLoop,getObj,Sem.run,F0,Sem.bind,Bind.bind,Pure.pure]
        have FQ:(C6==LoopState.busy)=false:=by
         cases C6 with
         |busy=>exact(Gq rfl).elim
         |_=>rfl
        let W:World:={V with heap:=V.heap.setIfInBounds J.b (.loop {state:= .exhausted,pending:=u,fn:=CL,tmps:=tm,params:=A1,assign:=as',body:=b',defers:=df})}
        have FW:J.b<V.heap.size:=(bI.1 F0).1;have G2:(Instr.endLoop J.b).run E.P V= .ok u W:=by
         simp only[Instr.endLoop,Sem.run_bind,H7,Result.andThen_ok,FQ];have G3:∀o',(setObj J.b o').run E.P V= .ok () {V with heap:=V.heap.setIfInBounds J.b o'}:=λo'=>by simp[setObj,Sem.run,F0]
         simp only[dN,eY,Sem.run_bind,Sem.run_pure,Result.andThen_ok,G3];rfl
        have S:Ext A h2 V A (h2.set h0.nx (.loop .exhausted u n rg A1 as' b')) W:=by
         refine B.rel.Dz FF F4 rfl ⟨tm,df,CL,?_,F1,FP⟩ (by simp[W]) (λbb O=>?_) rfl rfl rfl
         ·simp[W,FW]
         ·simp only[W];rw[dH (λe=>O e.symm)]
        have I:=F.trans S;let a':Act:={a with defers:=[{target:= .collected w.heap.size,args:= #[]}]++a.defers}
        have F2:qj A {st with h:=h2.set h0.nx (.loop .exhausted u n rg A1 as' b'),ds:= .mark st.h.nx::st.ds} a' W none:=
         ⟨m.uf.mono (F.le m.heap),m.n,S.rel,⟨⟨U,H6,rfl⟩,m.ds.mono (F.le m.heap)⟩,m.bX⟩
        refine⟨u,W,G2,?_⟩;split at hr
        ·rename_i _;simp at hr;obtain⟨rfl,rfl⟩:=hr;exact p .normal A a' W I F2 trivial
        ·simp at hr;obtain⟨rfl,rfl⟩:=hr;exact wpIn_ret (p .ret A a' W I F2 trivial)
        ·rename_i id;simp at hr;obtain⟨rfl,rfl⟩:=hr;exact wpIn_exit (p (.exit id) A a' W I F2 rfl)
        ·simp at hr
     ·simp at hr
    ·simp at hr
  ·simp at hr
 |_=>intro st x cd ι a w Q hr m p;simp[dM]at hr
end
section
variable[gJ]
variable{E:Env}
theorem CF:∀(l:eu)(i:Nat)(t:T AV)(j:Nat),(qm l i t).get j=if i<=j/\j<i+l.length then l[j-i]? else t.get j
 |[],i,t,j=>by simp only[qm,aW];rw[ay om]
 |v::r,i,t,j=>by
  simp only[qm];rw[CF r (i+1) (t.set v i) j,T.aM];by_cases a:j=i
  ·subst a;rw[ay om,aY rfl,aY ⟨ao _,sp⟩];simp
  ·by_cases b:i+1<=j/\j<i+1+r.length
   ·rw[aY b,aY ⟨om,IN⟩];have:j-i=(j-(i+1))+1:=om;rw[this];simp
   ·rw[ay b,ay a,ay IN]
theorem E4{ι:cq}{args:eu}{bO:Array Value}(h:bp ι args bO.toList)(n:Nat):cj ι (qm args 0 .nil) (bO++Array.replicate (n-bO.size) undef):=by
 intro j x a;rw[CF]at a;split at a
 ·obtain⟨y,e,hr⟩:=h.get a;refine⟨y,?_,hr⟩;have b:=(aV.1 e).1;rw[xU (U7 b)];simpa using e
 ·simp[T.get]at a
def xx(tm:Array Value):ResultVar->Sem Value
 | .tmp t=>pure (tm.getD t undef)
 | .cell a t=>do loadVar t (<-asAddr (tm.getD a undef))
theorem Cf(m:E.Ok){ι:cq}{rg:T AV}{tm:Array Value}{h:ah}{w:World}{v:AV}(o:cj ι rg tm)(D:dt ι h w):∀(F:ResultVar),AL E rg h F=some v->
 ∃y,(xx tm F).run E.P w= .ok y w/\bG ι v y
 | .tmp t,b=>by
  obtain⟨y,j,hr⟩:=o t v b;exact⟨y,by simp[xx,j],hr⟩
 | .cell a t,b=>by
  simp only[AL]at b;split at b
  ·rename_i i off n p f I;obtain⟨y,j,hr⟩:=o a _ p;obtain⟨L,u,rfl⟩:=hr.j7;simp at b;obtain⟨cs,A,rfl⟩:=b;obtain⟨K,B,e,g⟩:=mc D u A;have J:=run_loadCells_list (P:=E.P) w _ B g;have C:B.length=n:=(by rw[<-e.1];exact K);rw[C]at J;exact⟨.agg B.toArray,by simp[xx,j,asAddr,loadVar,qF m f,ew m I,J],.G7 (U7 e)⟩
  ·rename_i i off n p f I;obtain⟨y,j,hr⟩:=o a _ p;obtain⟨L,u,rfl⟩:=hr.j7;obtain⟨z,N,hr⟩:=zZ D u b;exact⟨z,by simp[xx,j,asAddr,loadVar,qF m f,N],hr⟩
  ·simp at b
theorem vz(i:E.Ok){ι:cq}{rg:T AV}{tm:Array Value}{h:ah}{w:World}(j:cj ι rg tm)(m:dt ι h w):∀(rs:List ResultVar)(vs:eu),fp E rg h rs=some vs->
 ∃b,(rs.mapM (xx tm)).run E.P w= .ok b w/\bp ι vs b
 |[],vs,h=>by simp[fp]at h;subst h;exact⟨[],sp,bp.nil _⟩
 |o::rs,vs,a=>by
  simp only[fp]at a;split at a
  ·rename_i v e p t;simp at a;subst a;obtain⟨y,u,hr⟩:=Cf i j m o p;obtain⟨b,f,g⟩:=vz i j m rs e t;refine⟨y::b,?_,bp.cons hr g⟩;rw[List.mapM_cons,Sem.run_bind,u,Result.andThen_ok,Sem.run_bind,f,Result.andThen_ok,Sem.run_pure]
  ·simp at a
theorem xj(j:E.Ok){ι:cq}{rg:T AV}{tm:Array Value}{h:ah}{w:World}{fn:Func}{vs:eu}(m:cj ι rg tm)(o:dt ι h w)(p:fp E rg h fn.results.toList=some vs):
 ∃y,(results fn tm).run E.P w= .ok y w/\bG ι (oneOf vs) y:=by
 obtain⟨e,g,b⟩:=vz j m o _ _ p;have f:(results fn tm).run E.P w= .ok (if h:e.toArray.size=1 then e.toArray[0]else .tuple e.toArray) w:=by
  have u:results fn tm=(fn.results.mapM (xx tm)>>=λvs=>pure (if h:vs.size=1 then vs[0]else .tuple vs)):=by
   unfold results;have:(λi:ResultVar=>(match i with| .tmp t=>pure (tm.getD t undef)| .cell a t=>do loadVar t (<-asAddr (tm.getD a undef)):Sem Value))=xx tm:=by
    funext i;cases i<;>rfl
   rw[<-this];rfl
  rw[u,Array.mapM_eq_mapM_toList,Sem.run_bind,Sem.run_map,g];rfl
 refine⟨_,f,?_⟩
 match vs,e,b with
 |[],[],_=>exact .Dx (bp.nil _)
 |[v],[y],b=>exact b.2 0 _ _ rfl rfl
 |v::v2::vs,y::A::e,b=>
  rw[dif_neg sp];exact .Dx (U7 b)
 |[],_::_,b=>simp[bp]at b
 |_::_,[],b=>simp[bp]at b
 |[_],_::_::_,b=>simp[bp]at b
 |_::_::_,[_],b=>simp[bp]at b
theorem Ip{ι:cq}:∀(ps:List Tmp)(args:eu)(vs:List Value)(rg:T AV)(tm:Array Value),cj ι rg tm->bp ι args vs->vs.length=ps.length->(∀p∈ps,p<tm.size)->
 cj ι ((ps.zip args).foldl (λr x=>r.set x.2 x.1) rg) ((ps.zip vs).foldl (λt x=>t.setIfInBounds x.1 x.2) tm)/\((ps.zip vs).foldl (λt x=>t.setIfInBounds x.1 x.2) tm).size=tm.size
 |[],_,_,rg,tm,f,_,_,_=>⟨U7 f,sp⟩
 |p::ps,[],vs,rg,tm,f,e,g,_=>by have:=e.1;simp at this;simp[<-this]at g
 |p::ps,x::args,[],rg,tm,f,e,g,_=>by simp at g
 |p::ps,x::args,y::vs,rg,tm,f,e,g,h=>by
  simp only[List.zip_cons_cons,jt];have j:bG ι x y:=e.2 0 _ _ rfl rfl;have m:bp ι args vs:=⟨by have:=e.1;simpa using this,λi a b o h=>e.2 (i+1) a b (U7 o) (U7 h)⟩
  have u:p<tm.size:=h p sp;have:=Ip ps args vs (rg.set x p) (tm.setIfInBounds p y) (cj.put (a:={tmps:=tm,defers:=[]}) (d:=some p) f (by simpa[uN]using u) j) m (U7 g)
   (λq v=>by simpa using h q (by simp[v]))
  exact⟨this.1,by rw[this.2];simp⟩
theorem z7{P:Program}{w:World}{l:Nat}{r:Loop}(a:w.heap[l]?=some (.loop r)):(Instr.getLoop l).run P w= .ok r w:=by
 simp[Instr.getLoop,getObj,Sem.run,a,Sem.bind,Bind.bind,Pure.pure]
theorem Bm{P:Program}{w:World}{l:Nat}{r:Loop}(b:w.heap[l]?=some (.loop r))(a:Obj):(setObj l a).run P w= .ok () {w with heap:=w.heap.setIfInBounds l a}:=by
 simp only[setObj,Sem.run,b]
theorem dt.ye{ι:cq}{h:ah}{w:World}(i:dt ι h w){l:Nat}{L:Loc}{st cd:LoopState}{pd R1:Option Code}{n:Nat}{rg:T AV}{ps:Array Tmp}{ae b:Code}{tm:Array Value}{a:Nat}{fn:FuncId}
 (hi:ι l=some L) (j:h.get l=some (.loop st pd n rg ps ae b)) (m:w.heap[L.b]?=some (.loop {state:=st,pending:=pd,fn:=fn,tmps:=tm,params:=ps,assign:=ae,body:=b,defers:=a})) (o:cj ι rg tm) (p:tm.size=n):
 Ext ι h w ι (h.set l (.loop cd R1 n rg ps ae b)) {w with heap:=w.heap.setIfInBounds L.b (.loop {state:=cd,pending:=R1,fn:=fn,tmps:=tm,params:=ps,assign:=ae,body:=b,defers:=a})}:=by
 have f:L.b<w.heap.size:=(bI.1 m).1;refine i.Dz hi j rfl ⟨tm,a,fn,by simp[f],o,p⟩ sp (λt g=>?_) rfl rfl rfl;show(w.heap.setIfInBounds L.b _)[t]?=_;rw[dH (λe=>g e.symm)]
theorem DD(hE:E.Ok){call:fW}{round:eg}(hm:oE E call round){fuel:Nat}
 {l:Nat} {args:eu} {h:ah} {v:AV} {h':ah} {ι:cq} {w:World} {L:Loc} {st:LoopState} {pd:Option Code} {n:Nat} {rg:T AV} {ps:Array Tmp} {ae b:Code} {tm:Array Value} {df:Nat} {fn:FuncId} {vs:List Value}
 (hr:xy E call round fuel l args h=some (v,h')) (hH:dt ι h w) (hi:ι l=some L) (hl:h.get l=some (.loop st pd n rg ps ae b))
 (hb:w.heap[L.b]?=some (.loop {state:=st,pending:=pd,fn:=fn,tmps:=tm,params:=ps,assign:=ae,body:=b,defers:=df})) (hR:cj ι rg tm) (hv:bp ι args vs) (hlen:vs.length=ps.size):
 RoundIn Fence.wide 0 E.P L.b fn ((ps.zip vs.toArray).foldl (λt x=>t.setIfInBounds x.1 x.2) tm) ae b w λe w'=>∃cW y,e= .returned y/\Ext ι h w cW h' w'/\bG cW v y:=by
 have N:tm.size=n:=by
  obtain⟨o,ho,hO⟩:=hH.obj l L hi;rw[hl]at ho;cases ho;obtain⟨F6,F7,FF,V,_,Au⟩:=hO;rw[hb]at V;cases V;exact Au
 unfold xy at hr;simp only[hl]at hr;cases st with
 |ready=>
  simp only at hr;split at hr
  ·rename_i hc;obtain⟨FO,C1⟩:=hc;have g:=Ip ps.toList args vs rg tm hR hv (U7 hlen) (λp hp=>by
    rw[N];have:=(Array.all_eq_true.1 C1)
    obtain⟨i,hi,rfl⟩:=gh hp;have:=this i (U7 hi);simpa using this)
   have C2:(ps.zip vs.toArray).foldl (λt x=>t.setIfInBounds x.1 x.2) tm=(ps.toList.zip vs).foldl (λt x=>t.setIfInBounds x.1 x.2) tm:=by
    rw[<-Array.foldl_toList,Array.toList_zip]
   rw[C2];split at hr
   ·rename_i FP O;split at hr
    ·rename_i W n1 FQ C3 C4 b1 Z;split at hr
     ·rename_i x FW Q;refine roundIn_of_wpIn (F:=Fence.wide) trivial ?_;show ae.wpIn (jP (some L.b)) 0 E.P _ _ w;refine mK hE hm O (ι:=ι) ⟨g.1,by rw[g.2];exact N,hH,trivial,rfl⟩ λe A1 a1 w1 A2 f C5=>?_;cases e with
      |normal=>
       have B:A1 l=some L:=(by rw[A2.aH l (hH.lt l L hi)];exact hi);obtain⟨o1,A3,C6⟩:=f.heap.obj l L B;rw[Z]at A3;cases A3;obtain⟨C7,C8,fn1,R,C9,CL⟩:=C6;have a:=f.heap.ye (cd:= .busy) (R1:=W) B Z R C9 CL;refine⟨{w1 with heap:=w1.heap.setIfInBounds L.b (.loop {state:= .busy,pending:=W,fn:=fn1,tmps:=C7,params:=C3,assign:=C4,body:=b1,defers:=C8})},?_,?_⟩
       ·simp only[Instr.beginRound,Sem.run_bind,z7 R,Result.andThen_ok,Bm R];rfl
       ·show b.wpIn (jP (some L.b)) 0 E.P _ _ _;refine mK hE hm Q (ι:=A1) ⟨f.uf,f.n,a.rel,f.ds,f.bX⟩ λe2 C a2 w2 A4 D I=>?_;have J:C l=some L:=(by rw[A4.aH l (a.rel.lt l L B)];exact B);have m:=(A2.trans a).trans A4;split at hr
        ·rename_i G2 G3 n3 G4 F0 F1 b3 G5 K;obtain⟨o2,A5,F2⟩:=D.heap.obj l L J;rw[K]at A5;cases A5;obtain⟨F3,F4,fn2,u,S,U⟩:=F2;have A:∀j:Option Code,(Instr.endRound L.b j).run E.P w2= .ok (.bool j.isNone) {w2 with heap:=w2.heap.setIfInBounds L.b (.loop {state:=if j.isNone then .ready else .done,pending:=j,fn:=fn2,tmps:=F3,params:=F0,assign:=F1,body:=b3,defers:=F4})}:=λj=>by
          simp only[Instr.endRound,Sem.run_bind,z7 u,Result.andThen_ok,Bm u,Sem.run_pure]
         split at hr
         ·cases e2<;>first|exact I.elim|skip
          simp at hr;obtain⟨rfl,rfl⟩:=hr;exact⟨_,_,A none,C,_,rfl,m.trans (D.heap.ye J K u S U),.bool _⟩
         ·cases e2<;>first|exact I.elim|skip
          simp at hr;obtain⟨rfl,rfl⟩:=hr;exact⟨_,_,A (some .ret),C,_,rfl,m.trans (D.heap.ye J K u S U),.bool _⟩
         ·rename_i id;cases e2<;>first|exact I.elim|skip
          rename_i F5;have:id=F5:=I;subst this;simp at hr;obtain⟨rfl,rfl⟩:=hr;exact⟨_,_,A (some (.exit id)),C,_,rfl,m.trans (D.heap.ye J K u S U),.bool _⟩
         ·simp at hr
        ·simp at hr
      |_=>exact C5.elim
     ·simp at hr
    ·simp at hr
   ·simp at hr
  ·simp at hr
 |_=>simp at hr
end
section
variable[gJ]
variable{E:Env}
def jQ(ι:cq)(p:Option AV)(u:FrameMode):Prop:=
 match p with
 |some v=>∃y,u= .panicking [{v:=y,recovered:=false}]/\bG ι v y
 |none=>u= .returning\/∃y,u= .panicking [{v:=y,recovered:=true}]
def yf(ι:cq)(p:Option AV)(u:FrameMode):Prop:=
 match p with
 |some v=>∃y,u= .panicking [{v:=y,recovered:=false}]/\bG ι v y
 |none=>u= .returning
theorem yf.mg{ι:cq}{p:Option AV}{u:FrameMode}(h:yf ι p u):jQ ι p u:=by
 cases p with
 |none=>exact .inl h
 |some v=>exact h
theorem jQ.settle{ι:cq}{p:Option AV}{u:FrameMode}(h:jQ ι p u):yf ι p (settle u):=by
 cases p with
 |none=>
  rcases h with rfl|⟨y,rfl⟩
  ·rfl
  ·rfl
 |some v=>obtain⟨y,rfl,a⟩:=h;exact⟨y,rfl,a⟩
theorem jQ.mono{ι cW:cq}(hle:ι.le cW){p:Option AV}{u:FrameMode}(h:jQ ι p u):jQ cW p u:=by
 cases p with
 |none=>exact h
 |some v=>obtain⟨y,a,b⟩:=h;exact⟨y,a,b.mono hle⟩
theorem jQ.run{ι:cq}{p:Option AV}{u:FrameMode}(h:jQ ι p u):u≠ .run:=by
 cases p with
 |none=>rcases h with rfl|⟨y,rfl⟩<;>simp
 |some v=>obtain⟨y,rfl,_⟩:=h;simp
def gY(ι:cq)(st:St)(w:World)(u0:Frame)(cs:List Frame)(x:bT)(cd:St)(f:Option AV)(Q:Exit->Act->List Frame->World->Prop):Prop:=
 ∀e cW a b w',Ext ι st.h w cW cd.h w'->qj cW cd a w' none->jQ cW f b->Im cW x e->Q e a ({u0 with mode:=b}::cs) w'
theorem oF(F:E.Ok){ops:Array Oper}{u0:Frame}{cs:List Frame}{x:bT}{cd:St}{W:Option AV}{Q:Exit->Act->List Frame->World->Prop}:
 ∀{l:List Oper}{k:Nat}{st:St}{p:Option AV}{ι:cq}{a:Act}{w:World}{u:FrameMode},(∀j,l[j]?=ops[k+j]?)->Av E ops l st p=some (x,cd,W)->qj ι st a w none->jQ ι p u->
  gY ι st w u0 cs x cd W Q->wpOpsSIn Fence.wide 0 E.P ops Q (List.range' k l.length) a ({u0 with mode:=u}::cs) w
 |[],k,st,p,ι,a,w,u,O,hr,i,I,K=>by
  simp[Av]at hr;obtain⟨rfl,rfl,rfl⟩:=hr;exact K .normal ι a u w (Ext.refl i.heap) i I trivial
 |o::l,k,st,p,ι,a,w,u,O,hr,i,I,K=>by
  have h0:ops[k]?=some o:=by simpa using(O 0).symm
  have t:∀j,l[j]?=ops[k+1+j]?:=λj=>by have:=O (j+1);simpa[fq,Nat.add_comm 1 j]using this
  simp only[ai,List.range'_succ,wpOpsSIn,h0];refine⟨λ_ _=>trivial,?_⟩;simp only[Av]at hr;split at hr
  ·simp at hr
  ·rename_i hw;obtain⟨hw,J⟩:=kP hw i.uf;rw[<-i.n]at J;rw[hw,ay sp];exact oF F t hr ⟨i.uf.put J (zc _),by rw[lU];exact i.n,i.heap,by rw[iU];exact i.ds,i.bX⟩ I K
  ·rename_i hw;obtain⟨hw,J⟩:=kP hw i.uf;rw[<-i.n]at J;rw[hw,aY rfl];split at hr
   ·rename_i v Z A;have g:=wx F i.uf i.heap A;revert g;generalize (execOp a.eval o).run E.P w=res;intro g;cases res with
    |halt D w'=>
     cases D with
     |panic v=>obtain⟨x',h,_⟩:=g;cases h
     |_=>exact g.elim
    |ok nx w'=>
     cases nx with
     |value y=>
      obtain⟨v',cW,B,R,m⟩:=g;cases B;refine oF F (ι:=cW) t hr ⟨(i.uf.mono (m.le i.heap)).put J R,by rw[lU];exact i.n,m.rel,by rw[iU];exact i.ds.mono (m.le i.heap),i.bX⟩ (I.mono (m.le i.heap)) ?_;exact λe N a2 S U he V hm D=>K e N a2 S U (m.trans he) V hm D
     |skip=>obtain⟨cW,h,_⟩:=g;cases h
     |enter f args=>obtain⟨ae,h,_⟩:=g;cases h
     |round l f tmps ae b=>obtain⟨_,_,_,_,_,_,_,_,_,_,_,h,_⟩:=g;cases h
     |defer d=>obtain⟨_,_,_,_,h,_⟩:=g;cases h
     |recover=>obtain⟨h,_⟩:=g;cases h
     |_=>exact g.elim
   ·rename_i Z A;have g:=wx F i.uf i.heap A;revert g;generalize (execOp a.eval o).run E.P w=res;intro g;cases res with
    |halt D w'=>
     cases D with
     |panic v=>obtain⟨x',h,_⟩:=g;cases h
     |_=>exact g.elim
    |ok nx w'=>
     cases nx with
     |value y=>obtain⟨v',cW,B,_⟩:=g;cases B
     |skip=>
      obtain⟨cW,_,m⟩:=g;refine oF F (ι:=cW) t hr ⟨(i.uf.mono (m.le i.heap)).put J (zc _),by rw[lU];exact i.n,m.rel,by rw[iU];exact i.ds.mono (m.le i.heap),i.bX⟩ (I.mono (m.le i.heap)) ?_;exact λe N a2 S U he V hm D=>K e N a2 S U (m.trans he) V hm D
     |enter f args=>obtain⟨ae,h,_⟩:=g;cases h
     |round l f tmps ae b=>obtain⟨_,_,_,_,_,_,_,_,_,_,_,h,_⟩:=g;cases h
     |defer d=>obtain⟨_,_,_,_,h,_⟩:=g;cases h
     |recover=>obtain⟨h,_⟩:=g;cases h
     |_=>exact g.elim
   ·rename_i Z A;have g:=wx F i.uf i.heap A;revert g;generalize (execOp a.eval o).run E.P w=res;intro g;cases res with
    |halt D w'=>
     cases D with
     |panic v=>obtain⟨x',h,_⟩:=g;cases h
     |_=>exact g.elim
    |ok nx w'=>
     cases nx with
     |value y=>obtain⟨v',cW,B,_⟩:=g;cases B
     |skip=>obtain⟨cW,h,_⟩:=g;cases h
     |enter f args=>obtain⟨ae,h,_⟩:=g;cases h
     |round l f tmps ae b=>obtain⟨_,_,_,_,_,_,_,_,_,_,_,h,_⟩:=g;cases h
     |defer d=>obtain⟨_,_,_,_,h,_⟩:=g;cases h
     |recover=>
      obtain⟨_,rfl,rfl⟩:=g;cases p with
      |none=>
       have C:recoverD ({u0 with mode:=u}::cs)=none:=by
        rcases I with rfl|⟨y,rfl⟩<;>rfl
       simp only[C];exact oF F t hr ⟨i.uf.put J .nilIface,by rw[lU];exact i.n,i.heap,by rw[iU];exact i.ds,i.bX⟩ I K
      |some v=>
       obtain⟨y,rfl,R⟩:=I;have C:recoverD ({u0 with mode:= .panicking [{v:=y,recovered:=false}]}::cs)=some (y,{u0 with mode:= .panicking [{v:=y,recovered:=true}]}::cs):=rfl;simp only[C];exact oF F t hr ⟨i.uf.put J R,by rw[lU];exact i.n,i.heap,by rw[iU];exact i.ds,i.bX⟩ (.inr ⟨y,rfl⟩) K
     |_=>exact g.elim
   ·simp at hr
theorem vA(f:E.Ok){call:fW}{round:eg}(hm:oE E call round){fuel:Nat}{c:Code}{st:St}{x:bT}{cd:St}{p:Option AV}{ι:cq}{a:Act}{w:World}{u:FrameMode}{u0:Frame}{cs:List Frame}{Q:Exit->Act->List Frame->World->Prop}
 (hr:dM E call round fuel c st=some (x,cd)) (b:qj ι st a w none) (g:jQ ι p u) (h:gY ι st w u0 cs x cd p Q):c.wpSIn Fence.wide 0 E.P Q a ({u0 with mode:=u}::cs) w:=by
 refine wpSIn_of_wpIn rfl ?_;show c.wpIn (jP none) 0 E.P _ a w;exact mK f hm hr b λe cW i w' he j m=>h e cW i u w' he j (g.mono (he.le b.heap)) m
theorem E5(B:E.Ok){call:fW}{round:eg}(hm:oE E call round){fuel:Nat}{u0:Frame}{cs:List Frame}:
 ∀{c:Code}{st:St}{x:bT}{cd:St}{p v:Option AV}{ι:cq}{a:Act}{w:World}{u:FrameMode}{Q:Exit->Act->List Frame->World->Prop},jD E call round fuel c st p=some (x,cd,v)->qj ι st a w none->jQ ι p u->
  gY ι st w u0 cs x cd v Q->c.wpSIn Fence.wide 0 E.P Q a ({u0 with mode:=u}::cs) w:=by
 intro c;induction c with
 |seq c1 c2 i m=>
  intro st x cd p v ι a w u Q hr b f g;simp only[jD]at hr;refine wpSIn_seq ?_;split at hr
  ·rename_i U Z h;refine i h b f λe y a1 R S he D t C=>?_;cases e with
   |normal=>exact m hr D t λe F a2 V W I J K N=>g e F a2 V W (he.trans I) J K N
   |_=>exact C.elim
  ·rename_i O;refine i hr b f λe y a1 R S he D t C=>?_;cases x with
   |kj=>exact(O _ _ hr).elim
   |_=>cases e<;>first|exact g _ y a1 R S he D t C|exact C.elim
 |cond o c1 c2 i m=>
  intro st x cd p v ι a w u Q hr b f g;simp only[jD]at hr;split at hr
  ·rename_i h;exact wpSIn_cond (bM b.uf h).lR (i hr b f g)
  ·rename_i h;exact wpSIn_cond (bM b.uf h).lR (m hr b f g)
  ·simp at hr
 |region id ops d=>
  intro st x cd p v ι a w u Q hr b f g;cases d with
  |false=>
   simp only[jD]at hr;split at hr
   ·refine wpSIn_region ?_;have:=oF B (ops:=ops) (k:=0) (u0:=u0) (cs:=cs) (λj=>sp) hr b f g;rw[List.range_eq_range'];simpa using this
   ·split at hr
    ·rename_i e A h;simp at hr;obtain⟨rfl,rfl,rfl⟩:=hr;exact vA B hm h b f g
    ·simp at hr
  |true=>
   simp only[jD]at hr;split at hr
   ·rename_i e A h;simp at hr;obtain⟨rfl,rfl,rfl⟩:=hr;exact vA B hm h b f g
   ·simp at hr
 |_=>
  intro st x cd p v ι a w u Q hr b f g;simp only[jD]at hr;split at hr
  ·rename_i e A h;simp at hr;obtain⟨rfl,rfl,rfl⟩:=hr;exact vA B hm h b f g
  ·simp at hr
theorem DF(A:E.Ok){call:fW}{round:eg}(hm:oE E call round){fuel:Nat}{k:FuncId}{args:eu}{h:ah}{p t:Option AV}{out:Out}{h':ah}{ι:cq}{w:World}{bO:Array Value}{u:FrameMode}
 (hr:nL E call round fuel k args h p=some (out,h',t)) (N:dt ι h w) (I:bp ι args bO.toList) (O:jQ ι p u):
 ∃v,out= .ret v/\CallsDIn Fence.wide 0 E.P k bO u w λe B w'=>∃cW y,e= .returned y/\Ext ι h w cW h' w'/\jQ cW t B:=by
 unfold nL at hr;split at hr
 ·simp at hr
 ·rename_i fn C;split at hr
  ·simp at hr
  ·rename_i c f;obtain⟨Q,_⟩:=A.fn k fn C;split at hr
   ·rename_i hlen;have R:bO.size=args.length:=(by have:=I.1;simp at this;exact this.symm);have D:qj ι {rg:=qm args 0 .nil,n:=fn.ntmps,h:=h,ds:=[],bX:=false} {tmps:=bO++Array.replicate (fn.ntmps-bO.size) undef,defers:=[]} w none:=
     ⟨E4 I _,IN,N,trivial,rfl⟩
    have fin:∀{x:bT}{st:St}{vs:eu},jD E call round fuel c {rg:=qm args 0 .nil,n:=fn.ntmps,h:=h,ds:=[],bX:=false} p=some (x,st,t)->(x= .kj\/x= .ret)->st.ds=[]->fp E st.rg st.h fn.results.toList=some vs->
     CallsDIn Fence.wide 0 E.P k bO u w λe B w'=>∃cW y,e= .returned y/\Ext ι h w cW st.h w'/\jQ cW t B:=by
     intro x st vs g S a b;refine callsDIn_of_wpSIn Q f trivial λu0 cs hu=>?_;have:u0={u0 with mode:=u}:=(by subst hu;rfl);rw[this];refine E5 A hm g D O λe i a1 J W he F j m=>?_;have o:a1.defers=[]:=by
      have:=F.ds;rw[a]at this;cases U:a1.defers with
      |nil=>rfl
      |cons d ds=>rw[U]at this;exact this.elim
     obtain⟨y,K,_⟩:=xj A F.uf F.heap b;rcases S with rfl|rfl
     ·cases e with
      |normal=>exact⟨o,J,rfl,y,K,i,y,rfl,he,j⟩
      |_=>exact m.elim
     ·cases e with
      |ret=>exact⟨o,J,rfl,y,K,i,y,rfl,he,j⟩
      |_=>exact m.elim
    split at hr
    ·rename_i st V g;split at hr
     ·rename_i vs a b;simp at hr;obtain⟨rfl,rfl,rfl⟩:=hr;exact⟨_,rfl,fin g (.inl rfl) a b⟩
     ·simp at hr
    ·rename_i st V g;split at hr
     ·rename_i vs a b;simp at hr;obtain⟨rfl,rfl,rfl⟩:=hr;exact⟨_,rfl,fin g (.inr rfl) a b⟩
     ·simp at hr
    ·simp at hr
   ·simp at hr
theorem KP{P:Program}{w:World}{r:Nat}(a:w.heap[r]?=some (.deferred (some []))):(Instr.takeDeferred r).run P w= .ok [] {w with heap:=w.heap.setIfInBounds r (.deferred none)}:=by
 have b:(getObj r).run P w= .ok (.deferred (some [])) w:=by simp[getObj,Sem.run,a]
 have e:(setObj r (.deferred none)).run P w= .ok () {w with heap:=w.heap.setIfInBounds r (.deferred none)}:=by simp only[setObj,Sem.run,a]
 simp only[Instr.takeDeferred,Sem.run_bind,b,Result.andThen_ok,e,Sem.run_pure]
theorem nM(J:E.Ok){call:fW}{round:eg}(hm:oE E call round){fuel:Nat}{fn:Func}{rg:T AV}{tm:Array Value}{out:Out}{h':ah}{iC:cq}{jN:ah}{jO:World}:
 ∀{ds:List nh}{p:Option AV}{h:ah}{ι:cq}{w:World}{g:List Deferred}{u:FrameMode},jr E (nL E call round fuel) fn rg ds p h=some (out,h')->Ext iC jN jO ι h w->cj ι rg tm->tJ ι ds g->yf ι p u->
  LeavesInM Fence.wide 0 E.P fn tm (λe w'=>∃cW,Ext iC jN jO cW h' w'/\j5 cW out e) g u w
 |[],p,h,ι,w,g,u,hr,a,K,m,A=>by
  cases g with
  |cons d ds=>exact m.elim
  |nil=>
   cases p with
   |none=>
    have:u= .returning:=A;subst this;simp only[jr]at hr;split at hr
    ·rename_i vs Q;simp at hr;obtain⟨rfl,rfl⟩:=hr;obtain⟨y,hy,N⟩:=xj J K a.rel Q;exact⟨y,hy,ι,a,N⟩
    ·simp at hr
   |some v=>
    obtain⟨y,rfl,hv⟩:=A;simp[jr]at hr;obtain⟨rfl,rfl⟩:=hr;exact⟨ι,a,y,rfl,hv⟩
 | .mark r::ds,p,h,ι,w,g,u,hr,a,K,m,A=>by
  cases g with
  |nil=>exact m.elim
  |cons d g=>
   obtain⟨⟨L,W,rfl⟩,m⟩:=m;simp only[jr]at hr;split at hr
   ·rename_i Z;obtain⟨o,ho,hO⟩:=a.rel.obj r L W;rw[Z]at ho;cases ho;have hb:w.heap[L.b]?=some (.deferred (some [])):=hO;have B:Ext ι h w ι (h.set r .dead) {w with heap:=w.heap.setIfInBounds L.b (.deferred none)}:=by
     refine a.rel.Dz W Z rfl trivial sp (λbb R=>?_) rfl rfl rfl;show(w.heap.setIfInBounds L.b _)[bb]?=_;rw[dH (λe=>R e.symm)]
    exact⟨A.mg.run,.inl ⟨L.b,_,rfl,KP hb,nM J hm hr (a.trans B) K m A⟩⟩
   ·simp at hr
 | .call f args::ds,p,h,ι,w,g,u,hr,a,K,m,A=>by
  cases g with
  |nil=>exact m.elim
  |cons d g=>
   obtain⟨⟨cap,i,rfl,C⟩,m⟩:=m;simp only[jr]at hr;split at hr
   ·rename_i v h2 p2 j;obtain⟨v',A1,D⟩:=DF J hm (bO:=i++cap) j a.rel (U7 C) A.mg;have hinv:(invoke (.fn (.func f) cap) i).run E.P w= .ok (.enter f (i++cap)) w:=by
     unfold nL at j;split at j
     ·simp at j
     ·rename_i O S;split at j
      ·simp at j
      ·rename_i c F;obtain⟨hf,I⟩:=J.fn f O S;have U:O.body.isNone=false:=(by rw[F];rfl);simp only[invoke,callFunc,Sem.run_bind,run_program,Result.andThen_ok,hf,I,U];simp
    refine⟨A.mg.run,.inr ⟨λh=>by simp[Fence.wide]at h,.func f,cap,f,i++cap,rfl,hinv,λ_ _=>trivial,?_⟩⟩;refine D.mono λe u' w' he=>?_;obtain⟨cW,y,rfl,t,V⟩:=he;have hle:=t.le a.rel;exact nM J hm hr (a.trans t) (K.mono hle) (m.mono hle) V.settle
   ·simp at hr
def ug(E:Env):Prop:=∀{k:FuncId}{f:List AV->ah->Option (Out×ah)},E.ed k=some f->∀{args:List AV}{h:ah}{out:Out}{h':ah}{ι:cq}{w:World}{bO:Array Value},f args h=some (out,h')->dt ι h w->bp ι args bO.toList->
 CallsIn Fence.wide 0 E.P k bO w λe w'=>∃cW,Ext ι h w cW h' w'/\j5 cW out e
theorem E6(b:E.Ok)(D:ug E){m:Jw}(hm:oE E m.call m.round){fuel:Nat}{k:FuncId}{args:eu}{h:ah}{out:Out}{h':ah}{ι:cq}{w:World}{bO:Array Value}
 (hr:yg E m fuel k args h=some (out,h')) (B:dt ι h w) (t:bp ι args bO.toList):CallsIn Fence.wide 0 E.P k bO w λe w'=>∃cW,Ext ι h w cW h' w'/\j5 cW out e:=by
 unfold yg at hr;split at hr
 ·rename_i r ht;simp at hr;subst hr;unfold Env.told at ht;split at ht
  ·rename_i f u;exact D u ht B t
  ·cases ht
 ·unfold xz at hr;split at hr
  ·simp at hr
  ·rename_i fn A;split at hr
   ·simp at hr
   ·rename_i c g;obtain⟨u,_⟩:=b.fn k fn A;split at hr
    ·rename_i hlen;have F:bO.size=args.length:=(by have:=t.1;simp at this;exact this.symm);have i:qj ι {rg:=qm args 0 .nil,n:=fn.ntmps,h:=h,ds:=[],bX:=false} {tmps:=bO++Array.replicate (fn.ntmps-bO.size) undef,defers:=[]} w none:=
      ⟨E4 t _,IN,B,trivial,rfl⟩
     refine callsIn_of_wp_marks u g trivial ?_;show c.wpIn (jP none) 0 E.P _ _ w;split at hr
     ·rename_i st o;refine mK b hm o i λe p a1 C he a j=>?_;cases e with
      |normal=>exact nM b hm hr he a.uf a.ds rfl
      |_=>exact j.elim
     ·rename_i st o;refine mK b hm o i λe p a1 C he a j=>?_;cases e with
      |ret=>exact nM b hm hr he a.uf a.ds rfl
      |_=>exact j.elim
     ·rename_i v st o;refine mK b hm o i λe p a1 C he a j=>?_;cases e with
      |panic chain=>
       obtain⟨y,rfl,I⟩:=j;exact nM b hm hr he a.uf a.ds ⟨y,rfl,I⟩
      |_=>exact j.elim
     ·simp at hr
    ·simp at hr
theorem DG(a:E.Ok)(b:ug E):∀n,oE E (iR E n).call (iR E n).round
 |0=>⟨λh=>by simp[iR]at h,λh=>by simp[iR]at h⟩
 |n+1=>⟨λhr e f=>E6 a b (DG a b n) hr e f,λhr e hi g i j f hlen=>DD a (DG a b n) hr e hi g i j f hlen⟩
theorem tL(a:E.Ok)(b:ug E){n:Nat}{k:FuncId}{args:eu}{h:ah}{out:Out}{h':ah}{ι:cq}{w:World}{bO:Array Value}
 (hr:(iR E n).call k args h=some (out,h')) (f:dt ι h w) (g:bp ι args bO.toList):Calls E.P k bO w λe w'=>∃cW,Ext ι h w cW h' w'/\j5 cW out e:=
 callsIn_wide.1 ((DG a b n).call hr f g)
end
section
noncomputable section
def Ff(P:Program):List Field->Option (List (Nat×Nat))
 |[]=>some []
 |f::fs=>if f.name== "_" then none else
  match(match P.underlying f.type with
   |some .bool=>some 0
   |some .string=>some 1
   |some (.int _)=>some 2
   |_=>none),Ff P fs with
  |some k,some r=>some ((f.offset,k)::r)
  |_,_=>none
theorem Fg(P:Program):∀(fs:List Field)(l:List (Nat×Nat)),Ff P fs=some l->DP P fs l
 |[],l,h=>by simp[Ff]at h;subst h;trivial
 |f::fs,l,h=>by
  simp only[Ff]at h;split at h
  ·simp at h
  ·rename_i b;split at h
   ·rename_i k r a hr;simp at h;subst h;refine⟨U7 b,rfl,?_,Fg P fs r hr⟩;split at a
    ·rename_i hu;simp at a;subst a;exact .inl ⟨rfl,hu⟩
    ·rename_i hu;simp at a;subst a;exact .inr (.inl ⟨rfl,hu⟩)
    ·rename_i q hu;simp at a;subst a;exact .inr (.inr ⟨rfl,q,hu⟩)
    ·simp at a
   ·simp at h
def Hg(P:Program)(t:TypeId)(z:Value):Bool:=
 match P.underlying t with
 |some (.struct _)|some (.array _ _)=>match z with
  | .agg _=>true
  |_=>false
 |some _=>z.oneCell'
 |none=>true
def vD(P:Program)(ext:FuncId->Option (List AV->Option AV))(ed:FuncId->Option (List AV->ah->Option (Out×ah))):Env where
 P:=P
 fn k:=match P.funcs[k]? with
  |some f=>if f.name== "runtime.NumGoroutine" then none else some f
  |none=>none
 nv t:=P.underlying t
 siz t:=match P.info? t with
  |some i=>some i.size
  |none=>none
 byt t:=match P.info? t with
  |some i=>some (i.bytes-1)
  |none=>none
 zer t:=match P.info? t with
  |some i=>match i.zero with
   |some z=>if Hg P t z then xd z.cells.toList else none
   |none=>none
  |none=>none
 flat t:=match P.underlying t with
  |some (.struct fs)=>if P.stoodInHeld t||P.eqGuardType P.depth t then none else Ff P fs.toList
  |_=>none
 ext:=ext
 ed:=ed
theorem Br(P:Program)(ext:FuncId->Option (eu->Option AV))(ed:FuncId->Option (eu->ah->Option (Out×ah)))(hm:P.follows .mixedOrders=true)(g:∀k f,ext k=some f->Ir P k f):(vD P ext ed).Ok where
 ext:=g
 fn k f h:=by
  simp only[vD]at h;split at h
  ·rename_i p j;split at h
   ·simp at h
   ·rename_i m;simp at h;subst h;exact⟨j,U7 m⟩
  ·simp at h
 nv t d h:=h
 siz t n h:=by
  simp only[vD]at h;split at h
  ·rename_i i hi;simp at h;subst h;exact⟨i,hi,rfl⟩
  ·simp at h
 byt t n h:=by
  simp only[vD]at h;split at h
  ·rename_i i hi;simp at h;subst h;exact⟨i,hi,om⟩
  ·simp at h
 zer t l h:=by
  simp only[vD]at h;split at h
  ·rename_i i hi;split at h
   ·rename_i z o;split at h
    ·rename_i b;refine⟨i,z,hi,o,h,λa=>?_,λa=>?_⟩
     ·simp only[Env.isAgg,vD]at a;unfold Hg at b;cases hu:P.underlying t with
      |none=>rw[hu]at a;simp at a
      |some d=>
       rw[hu]at a b;cases d<;>simp at a<;>(cases z<;>simp at b;exact⟨_,rfl⟩)
     ·simp only[Env.isAgg,vD]at a;unfold Hg at b;cases hu:P.underlying t with
      |none=>rw[hu]at a;simp at a
      |some d=>
       rw[hu]at a b;cases d<;>simp at a<;>simpa using b
    ·simp at h
   ·simp at h
  ·simp at h
 flat t At h:=by
  simp only[vD]at h;split at h
  ·rename_i fs hu;split at h
   ·simp at h
   ·rename_i e;simp at e;exact⟨fs,hu,e.1,e.2,Fg P _ _ h⟩
  ·simp at h
 mixed:=hm
def isTrue:Option (Out×ah)->Bool
 |some (.ret (.bool true),_)=>true
 |_=>false
theorem Fh{r:Option (Out×ah)}(h:isTrue r=true):∃h',r=some (.ret (.bool true),h'):=by
 unfold isTrue at h;split at h
 ·exact⟨_,rfl⟩
 ·cases h
end
end
section
noncomputable section
def JC(c:UInt8):List UInt8->Nat->Int
 |[],_=>-1
 |b::l,i=>if b==c then i else JC c l (i+1)
theorem DQ(c:UInt8):∀(l:bu)(i:Nat),JC c l i=if Lib.indexByte l c= -1 then-1 else Lib.indexByte l c+i
 |[],i=>by simp[JC,Lib.indexByte]
 |b::l,i=>by
  have f:=Lib.indexByte_ge l c;simp only[JC,Lib.indexByte];by_cases e:(b==c)=true
  ·simp[e]
  ·simp only[e,dN,eY];rw[DQ c l (i+1)];by_cases a:Lib.indexByte l c= -1
   ·simp[a]
   ·have g:(Lib.indexByte l c== -1)=false:=(U7 a);simp only[a,g,eY,dN];rw[ay om];push_cast;omega
def iW:List AV->Option AV
 |[.str s,.int .u8 c]=>some (.int .i64 (JC c.toNat.toUInt8 s 0))
 |_=>none
theorem vb{P:Program}{k:FuncId}{fn:Func}(b:P.funcs[k]?=some fn)(e:(fn.name== "runtime.NumGoroutine")=false)(f:fn.body.isNone=true)(g:Extern.findNext fn=none)
 (he:Extern.find fn=some Extern.BytealgIndexByte.indexByte):Ir P k iW:=by
 refine⟨fn,_,b,e,U7 f,g,he,?_⟩;intro ι args v bO w h i;unfold iW at h;split at h
 ·rename_i s c;simp at h;subst h;obtain⟨y,o,e1,j,hr⟩:=i.inv;obtain⟨z,p,e2,m,a⟩:=hr.inv;have:=a.rU;subst this;cases j;cases m;have:bO= #[.string ⟨s.toArray⟩,.int .u8 c]:=by apply iJ;simpa[e2]using e1
  rw[this];refine⟨_,Lib.run_indexByteString _ _ _,?_⟩;rw[DQ];have:(if Lib.indexByte s c.toNat.toUInt8= -1 then(-1:Int)else Lib.indexByte s c.toNat.toUInt8+((0:Nat):Int))=Lib.indexByte s c.toNat.toUInt8:=by
   split<;>simp_all
  rw[this];simpa using bG.int _ _
 ·simp at h
def vE{α:Type}:List (Nat×α)->Nat->Option α
 |[],_=>none
 |(k,a)::r,n=>bif Nat.beq n k then some a else vE r n
theorem zj{α:Type}{l:List (Nat×α)}{n:Nat}{a:α}(h:vE l n=some a):(n,a)∈l:=by
 induction l with
 |nil=>simp[vE]at h
 |cons x r f=>
  obtain⟨k,b⟩:=x;simp only[vE]at h;cases e:Nat.beq n k with
  |true=>
   rw[e]at h;simp at h;subst h;rw[uc e];simp
  |false=>
   rw[e]at h;simp at h;exact au _ (f h)
end
end
section
structure lW(w w':World):Prop where
 size:w.heap.size<=w'.heap.size
 old:∀b,b<w.heap.size->w'.heap[b]?=w.heap[b]?
 os:w'.os=w.os
 tape:w'.tape=w.tape
 output:w'.output=w.output
theorem lW.refl(w:World):lW w w:=⟨ao _,λ_ _=>rfl,rfl,rfl,rfl⟩
theorem lW.trans{a b c:World}(h:lW a b)(h':lW b c):lW a c:=
 ⟨bh h.size h'.size,λi hi=>(h'.old i (aq hi h.size)).trans (h.old i hi),h'.os.trans h.os,h'.tape.trans h.tape,h'.output.trans h.output⟩
theorem lW.kept{w w':World}(h:lW w w')(may:MemPlace->Prop):w.keptBut w' may:=by
 refine⟨h.os,h.output,λi hi=>?_⟩;rw[h.old i hi];split
 ·rename_i b a;rw[b]at a;cases a;exact⟨rfl,rfl,rfl,λ_ _=>rfl⟩
 ·rename_i b a;rw[b]at a;cases a;exact .inr ⟨rfl,rfl⟩
 ·rfl
variable[gJ]
def xp:cq:=λ_=>none
def vF:ah:=⟨0,.nil⟩
theorem xD:dt xp vF gJ.w:=
 ⟨λi L h=>by simp[xp]at h,λi j a b e f _ h=>by simp[xp]at h,λi L h=>by simp[xp]at h,λi _=>by simp[vF,ah.get,T.get],λi L h=>by simp[xp]at h,⟨ao _,λ_ _=>rfl,rfl,λi L o h=>by simp[xp]at h⟩⟩
theorem Ext.Sk{h:ah}{w:World}{cW:cq}{h':ah}{w':World}(e:Ext xp h w cW h' w'):lW w w':=
 ⟨e.size,λb a=>(e.frame b a (by rintro⟨k,L,o,f,_⟩;simp[xp]at f)).1,e.os,e.tape,e.output⟩
omit [gJ] in
theorem Fi{E:Env}(f:E.Ok){n:Nat}{k:FuncId}(hr:isTrue ((iR E n).call k [] vF)=true)(w:World)(g:@ug ⟨w⟩ E):
 Calls E.P k #[] w λe w'=>e= .returned (.bool true)/\lW w w':=by
 letI:gJ:=⟨w⟩
 obtain⟨h',hr⟩:=Fh hr;refine(tL f g hr xD (bp.nil _)).mono λe w'=>?_
 rintro⟨cW,b,a⟩
 refine⟨?_,b.Sk⟩;cases e with
 |returned y=>
  have h:bG cW (.bool true) y:=a;cases h;rfl
 |panicked c=>exact a.elim
 |_=>exact a.elim
end
section
variable{E:Env}
def fW.le(c b:fW):Prop:=∀k a h r,c k a h=some r->b k a h=some r
def eg.le(c b:eg):Prop:=∀k a h r,c k a h=some r->b k a h=some r
section
variable{call rz:fW}{round mj:eg}
theorem qI(b:call.le rz)(hr:round.le mj){d:Option Tmp}{st:St}{x:iB×ah}{r:Option AV×St}(h:qw call round d st x=some r):qw rz mj d st x=some r:=by
 obtain⟨o,e⟩:=x;cases o with
 |enter f args=>
  simp only[qw]at h⊢;split at h
  ·rename_i a;rw[b _ _ _ _ a];exact h
  ·rename_i a;rw[b _ _ _ _ a];exact h
  ·cases h
 |yield l args=>
  simp only[qw]at h⊢;split at h
  ·rename_i a;rw[hr _ _ _ _ a];exact h
  ·cases h
 |_=>exact h
theorem wB(a:call.le rz)(hr:round.le mj){ops:Array Oper}:∀{l:List Oper}{st:St}{r:bT×St},zd E call round ops l st=some r->zd E rz mj ops l st=some r
 |[],st,r,h=>h
 |o::l,st,r,h=>by
  simp only[zd]at h⊢;split at h
  ·cases h
  ·exact wB a hr h
  ·split at h
   ·cases h
   ·split at h
    ·cases h
    ·rename_i b;rw[qI a hr b];exact wB a hr h
    ·rename_i b;rw[qI a hr b];exact h
theorem ml(a:call.le rz)(hr:round.le mj){ops:Array Oper}{b:Nat->Nat}{base:Nat}:∀{l:List (Oper×Nat)}{st:St}{sn:List pq}{rd:List Rd}{r:bT×St},
 lV E call round ops b base l st sn rd=some r->lV E rz mj ops b base l st sn rd=some r
 |[],st,sn,rd,r,h=>h
 |(o,i)::l,st,sn,rd,r,h=>by
  simp only[lV]at h⊢;split at h
  ·cases h
  ·exact ml a hr h
  ·split at h
   ·cases h
   ·exact ml a hr h
   ·split at h
    ·rename_i e;rw[aY e];exact ml a hr h
    ·cases h
   ·split at h
    ·exact ml a hr h
    ·cases h
   ·split at h
    ·rename_i e;rw[aY e];split at h
     ·cases h
     ·rename_i f;rw[qI a hr f];simp only at h⊢;split at h
      ·rename_i g;rw[aY g];exact ml a hr h
      ·cases h
     ·rename_i f;rw[qI a hr f];exact h
    ·cases h
   ·cases h
theorem ur{f e:St->Option (bT×St)}(a:∀st r,f st=some r->e st=some r):∀{n m:Nat}(_:n<=m){st:St}{r:bT×St},qk f n st=some r->qk e m st=some r
 |0,m,_,st,r,h=>by simp[qk]at h
 |n+1,0,g,st,r,h=>by omega
 |n+1,m+1,g,st,r,h=>by
  simp only[qk]at h⊢;split at h
  ·rename_i b;rw[a _ _ b];exact ur a om h
  ·rename_i b;rw[a _ _ h];split
   ·rename_i i;cases i;exact(b _ h).elim
   ·rfl
theorem kp(p:call.le rz)(hr:round.le mj){n m:Nat}(u:n<=m):∀{c:Code}{st:St}{r:bT×St},dM E call round n c st=some r->dM E rz mj m c st=some r:=by
 intro c;induction c with
 |region id ops d=>
  intro st r h;cases d with
  |false=>exact wB p hr h
  |true=>
   simp only[dM,AK]at h⊢;split at h
   ·rename_i v;rw[aY v];exact ml p hr h
   ·cases h
 |seq a b e g=>
  intro st r h;simp only[dM]at h⊢;split at h
  ·rename_i i;rw[e i];exact g h
  ·rename_i i;rw[e h];split
   ·rename_i t;cases t;exact(i _ h).elim
   ·rfl
 |cond o a b e g=>
  intro st r h;simp only[dM]at h⊢;split at h
  ·exact e h
  ·exact g h
  ·cases h
 |block id b j=>
  intro st r h;simp only[dM]at h⊢;split at h
  ·rename_i i;rw[j i];exact h
  ·rename_i i;rw[j h];split
   ·rename_i t;cases t;exact(i _ _ h).elim
   ·rfl
 |loop b j=>
  intro st r h;simp only[dM]at h⊢;exact ur (λst r h=>j h) u h
 |scope b j=>intro st r h;exact j (st:=st) h
 |rangeFunc f ps ae b e g=>
  intro st r h;simp only[dM]at h⊢;split at h
  ·split at h
   ·cases h
   ·rename_i w;rw[ay w];split at h
    ·rename_i i;rw[p _ _ _ _ i];exact h
    ·cases h
  ·cases h
 |_=>intro st r h;exact h
theorem Fj(b:call.le rz)(hr:round.le mj){n m:Nat}(e:n<=m):(xy E call round n).le (xy E rz mj m):=by
 intro l args i r h;simp only[xy]at h⊢;split at h
 ·split at h
  ·rename_i a;rw[aY a];split at h
   ·rename_i f;rw[kp b hr e f];simp only at h⊢;split at h
    ·split at h
     ·rename_i g;rw[kp b hr e g];exact h
     ·cases h
    ·cases h
   ·cases h
  ·cases h
 ·cases h
theorem uu(j:call.le rz)(hr:round.le mj){n m:Nat}(t:n<=m):∀{c:Code}{st:St}{p:Option AV}{r:bT×St×Option AV},jD E call round n c st p=some r->jD E rz mj m c st p=some r:=by
 intro c;have plain:∀{c:Code}{st:St}{p:Option AV}{r:bT×St×Option AV},(match dM E call round n c st with|some (e,cd)=>some (e,cd,p)|none=>none)=some r->(match dM E rz mj m c st with|some (e,cd)=>some (e,cd,p)|none=>none)=some r:=by
  intro c st p r h;split at h
  ·rename_i g;rw[kp j hr t g];exact h
  ·cases h
 induction c with
 |seq a b f i=>
  intro st p r h;simp only[jD]at h⊢;split at h
  ·rename_i g;rw[f g];exact i h
  ·rename_i g;rw[f h];split
   ·rename_i u;cases u;exact(g _ _ h).elim
   ·rfl
 |region id ops d=>
  intro st p r h;cases d with
  |false=>
   simp only[jD]at h⊢;split at h
   ·rename_i hi;rw[aY hi];exact h
   ·rename_i hi;rw[ay hi];exact plain h
  |true=>exact plain h
 |cond o a b f i=>
  intro st p r h;simp only[jD]at h⊢;split at h
  ·exact f h
  ·exact i h
  ·cases h
 |_=>
  intro st p r h;simp only[jD]at h⊢;split at h
  ·rename_i g;rw[kp j hr t g];exact h
  ·cases h
def Bn.le(c b:Bn):Prop:=∀k a h p r,c k a h p=some r->b k a h p=some r
theorem mO(b:call.le rz)(hr:round.le mj){n m:Nat}(e:n<=m):(nL E call round n).le (nL E rz mj m):=by
 intro k args g p r h;simp only[nL]at h⊢;split at h
 ·cases h
 ·split at h
  ·cases h
  ·split at h
   ·rename_i f;rw[aY f];split at h
    ·rename_i a;rw[uu b hr e a];exact h
    ·rename_i a;rw[uu b hr e a];exact h
    ·cases h
   ·cases h
theorem ku{d d':Bn}(a:d.le d'){fn:Func}{rg:T AV}:∀{ds:List nh}{p:Option AV}{h:ah}{r:Out×ah},jr E d fn rg ds p h=some r->jr E d' fn rg ds p h=some r
 |[],none,b,r,h=>h
 |[],some v,b,r,h=>h
 | .mark x::ds,p,b,r,h=>by
  simp only[jr]at h⊢;split at h
  ·exact ku a h
  ·cases h
 | .call f args::ds,p,b,r,h=>by
  simp only[jr]at h⊢;split at h
  ·rename_i e;rw[a _ _ _ _ _ e];exact ku a h
  ·cases h
end
theorem Fk{a b:Jw}(e:a.call.le b.call)(hr:a.round.le b.round){n m:Nat}(f:n<=m):(xz E a n).le (xz E b m):=by
 intro k args j r h;simp only[xz]at h⊢;split at h
 ·cases h
 ·split at h
  ·cases h
  ·split at h
   ·rename_i i;rw[aY i];split at h
    ·rename_i g;rw[kp e hr f g];exact ku (mO e hr f) h
    ·rename_i g;rw[kp e hr f g];exact ku (mO e hr f) h
    ·rename_i g;rw[kp e hr f g];exact ku (mO e hr f) h
    ·cases h
   ·cases h
theorem Hh{a b:Jw}(e:a.call.le b.call)(hr:a.round.le b.round){n m:Nat}(f:n<=m):(yg E a n).le (yg E b m):=by
 intro k args g r h;simp only[yg]at h⊢;split at h
 ·exact h
 ·exact Fk e hr f _ _ _ _ h
theorem qJ:∀n,((iR E n).call.le (iR E (n+1)).call)/\((iR E n).round.le (iR E (n+1)).round)
 |0=>⟨λ_ _ _ _ h=>by simp[iR]at h,λ_ _ _ _ h=>by simp[iR]at h⟩
 |n+1=>⟨Hh (qJ n).1 (qJ n).2 (cp n),Fj (qJ n).1 (qJ n).2 (cp n)⟩
theorem dX{n m:Nat}(h:n<=m):((iR E n).call.le (iR E m).call)/\((iR E n).round.le (iR E m).round):=by
 induction m with
 |zero=>
  have:n=0:=by omega
  subst this;exact⟨λ_ _ _ _ h=>h,λ_ _ _ _ h=>h⟩
 |succ m b=>
  by_cases e:n=m+1
  ·subst e;exact⟨λ_ _ _ _ h=>h,λ_ _ _ _ h=>h⟩
  ·have:=b om;exact⟨λk a h r hr=>(qJ m).1 _ _ _ _ (this.1 _ _ _ _ hr),λk a h r hr=>(qJ m).2 _ _ _ _ (this.2 _ _ _ _ hr)⟩
end
end Go.Am
