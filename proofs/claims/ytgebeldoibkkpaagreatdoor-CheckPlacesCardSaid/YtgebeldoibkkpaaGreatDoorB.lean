/- Lemmas for CheckPlaces; each states its own conditions. -/
import Derived.Laws.Externs
import Derived.TacticsIn
import Derived.Scope
import Derived.RangeFuncLeaves
import Derived.Test.YtgebeldoibkkpaaGreatDoorA
set_option maxRecDepth 100000
set_option maxHeartbeats 0
set_option linter.unusedVariables false
set_option linter.unusedSimpArgs false
set_option linter.unusedSectionVars false
namespace Go.Am
section
variable [iY]
variable{E:Env}{ι:cS}{h h':ah}{w:World}{rg:T AV}{a:Act}{o:Oper}{r:dZ}
theorem Lc(hE:E.Ok)(hH:dV ι h w){t ty:TypeId}{ats:Array TypeId}{d x z:AV}{u v:Value}(hd:bS ι d u)(hx:bS ι x v)(h0:ats[0]?=some t)
 (ha:MO E h t d x=some (z,h')):
 ∃y w' dS,(Builtin.copy_ ats ty #[u,v]).run E.P w= .ok y w'/\bS dS z y/\Ext ι h w dS h' w':=by
 unfold MO at ha;split at ha
 ·rename_i e hu;have HR:=cG hE hu w;split at ha
  ·rename_i es i off dl j abR sl ng;have qU:=eI hE ng w;simp only at ha;split at ha
   ·rename_i cs hl;simp at ha;obtain⟨fI,rfl⟩:=ha;have B6:∃a' cap ys,v= .slice (some a') sl cap/\bF ι cs ys/\(Builtin.firstCells es (Nat.min sl dl) v).run E.P w= .ok ys.toArray w:=by
     rcases hx.rV with⟨L,cap,hL,jv,ht,rfl⟩|⟨L,ad,hL,ht,rfl,rfl⟩
     ·obtain⟨hn,ys,gz,zH⟩:=jO hH hL hl;exact⟨_,_,ys,rfl,gz,run_firstCells_some w es _ _ sl cap ys (by rw[<-gz.1];exact hn) zH⟩
     ·have h00:Nat.min 0 dl=0:=j4 (bX _);obtain⟨hn,ys,gz,zH⟩:=jO hH hL hl;rw[h00]at hn⊢;have:ys=[]:=cw (by rw[<-gz.1,hn];simp);subst this;exact⟨_,_,[],rfl,gz,run_firstCells_some w es 0 _ 0 0 [] sp sp⟩
    obtain⟨a',ah4,ys,rfl,gz,Zs⟩:=B6;rcases hd.rV with⟨L,cap,hL,jv,ht,rfl⟩|⟨L,ad,hL,ht,rfl,rfl⟩
    ·obtain⟨w',mI,eD⟩:=mJ hH hL fI gz E.P;exact⟨_,w',ι,by simp[Builtin.copy_,h0,HR,Builtin.lenOf,qU,Zs,mI];rfl,.int _ _,eD⟩
    ·have h00:Nat.min sl 0=0:=Nat.min_eq_right (bX _);rw[h00]at hl Zs⊢;have zn:cs=[]:=by
      unfold ah.loadCells at hl;split at hl
      ·split at hl<;>simp at hl;exact hl
      ·simp at hl
     subst zn;have:ys=[]:=cw gz.1.symm;subst this;obtain⟨w',mI,eD⟩:=mJ hH hL fI gz E.P;have:(storeCells ⟨L.b,L.base+off,none⟩ []).run E.P w= .ok () w:=rfl;rw[this]at mI;cases mI;exact⟨_,w,ι,by simp[Builtin.copy_,h0,HR,Builtin.lenOf,qU,h00,Zs,storeCells];rfl,.int _ _,eD⟩
   ·simp at ha
  ·rename_i es p n ng;have qU:=eI hE ng w;simp at ha;obtain⟨rfl,rfl⟩:=ha;obtain⟨-,rfl⟩:=hd.qE;refine⟨.int .i64 0,w,ι,?_,.int _ _,Ext.refl hH⟩;have QE:∀k,Nat.min k 0=0:=fun k=>Nat.min_eq_right (bX _);cases hx<;>simp[Builtin.copy_,h0,HR,Builtin.lenOf,qU,QE,Builtin.firstCells,loadCells,loadCellsFrom,goInt]
  ·rename_i es p dl ng;have qU:=eI hE ng w;simp at ha;obtain⟨rfl,rfl⟩:=ha;obtain⟨-,rfl⟩:=hx.qE;refine⟨.int .i64 0,w,ι,?_,.int _ _,Ext.refl hH⟩;have QE:∀k,Nat.min 0 k=0:=fun k=>j4 (bX _);cases hd<;>simp[Builtin.copy_,h0,HR,Builtin.lenOf,qU,QE,Builtin.firstCells,storeCells,goInt]
  ·simp at ha
 ·simp at ha
theorem E6(hE:E.Ok)(hH:dV ι h w){t ty:TypeId}{ats:Array TypeId}{x z:AV}{v:Value}(hx:bS ι x v)(h0:ats[0]?=some t)(ha:Eo E h t x=some z):
 ∃y,(Builtin.len_ ats ty #[v]).run E.P w= .ok y w/\bS ι z y:=by
 unfold Eo at ha;split at ha
 ·rename_i s hu;simp at ha;subst ha;rw[hx.nO];have ng:(⟨s.toArray⟩:ByteArray).size=s.length:=by simp[ByteArray.size]
  exact⟨.int .i64 s.length,by simp[Builtin.len_,h0,cG hE hu,goInt,ng],.int _ _⟩
 ·rename_i n e hu;simp at ha;subst ha;exact⟨.int .i64 n,by simp[Builtin.len_,h0,cG hE hu,goInt],.int _ _⟩
 ·rename_i e p n hu;simp at ha;subst ha;refine⟨.int .i64 n,?_,.int _ _⟩;cases hx<;>simp[Builtin.len_,h0,cG hE hu,goInt]
 ·rename_i kt vt hu;simp at ha;subst ha;cases hx;exact⟨.int .i64 0,by simp[Builtin.len_,h0,cG hE hu,goInt],.int _ _⟩
 ·rename_i kt vt m hu;split at ha
  ·rename_i iG hm;simp at ha;subst ha;cases hx with
   |map hL=>
    obtain⟨o,ho,hO⟩:=hH.obj _ _ hL;rw[hm]at ho;cases ho;obtain⟨es,ck,hb,ng,_⟩:=hO;refine⟨_,?_,.int _ _⟩;simp[Builtin.len_,h0,cG hE hu,sK hb,goInt,ng]
  ·simp at ha
 ·simp at ha
theorem yl(hE:E.Ok)(hR:cK ι rg a.tmps)(hH:dV ι h w){xt t:TypeId}{x:Operand}{ok:Bool}(ho:o.op= .typeAssert x xt t ok)(aX:eF E rg h o=some (r,h')):
 jn ι h w r h' ((execOp a.eval o).run E.P w):=by
 simp only[eF,dK,dM,cx,fY,cy,ba,dN,cz,bG,cu,dO,bL,aT,bH,bN,bh,cA,bj,cB,bm,cC,bT,bp,bc,bM,dQ,cD,cF,cJ,dU,ho]at aX;split at aX
 ·simp at aX
 ·rename_i d u v aeD hd hx;have Ue:=bV hR hx;obtain⟨v',x9,hv⟩:∃v',a.eval x= .iface u v'/\bS ι v v':=by
   cases h1:a.eval x<;>rw[h1]at Ue<;>cases Ue;exact⟨_,rfl,‹_›⟩
  have hni:∀ms,d≠ .interface ms:=fun ms e=>aeD ms e;have sL:(execOp a.eval o).run E.P w=((Instr.typeAssert (.iface u v') xt t ok).run E.P w).andThen fun v w'=> .ok (.value v) w':=by
   simp only[execOp,ho,x9,Sem.run_bind,Sem.run_pure]
  have Gp:(Instr.typeAssert (.iface u v') xt t ok).run E.P w=(if u=t then(pure (if ok then .tuple #[v',.bool true]else v'):Sem Value)
   else if ok then(do pure (.tuple #[<-zeroValue t,.bool false]))else runtimePanic (.typeAssertion (some xt) (some u) t "")).run E.P w:=by
   simp only[Instr.typeAssert,Sem.run_bind,cG hE hd,Result.andThen_ok]
  rw[sL,Gp];split at aX
  ·rename_i hut;simp at aX;obtain⟨rfl,rfl⟩:=aX;rw[aW hut];cases ok
   ·exact .pure hH sp hv
   ·exact .pure hH sp (hv.Gh true)
  ·rename_i hut;rw[az hut];split at aX
   ·rename_i gJ;split at aX
    ·rename_i z ag hz K9;split at aX
     ·rename_i q hq;simp at aX;obtain⟨rfl,rfl⟩:=aX;obtain⟨y,hy,hr⟩:=Bu hE hz K9 hq ι w;rw[aW gJ];exact .pure hH (by simp only[Sem.run_bind,hy,Result.andThen_ok,Sem.run_pure]) (hr.Gh false)
     ·simp at aX
    ·simp at aX
   ·simp at aX
 ·simp at aX
theorem QF(hR:cK ι rg a.tmps)(hH:dV ι h w){x:Operand}(ho:o.op= .panic x)(aX:eF E rg h o=some (r,h')):
 ku ι h w r h' ((execOp a.eval o).run E.P w):=by
 simp only[eF,dK,dM,cx,fY,cy,ba,dN,cz,bG,cu,dO,bL,aT,bH,bN,bh,cA,bj,cB,bm,cC,bT,bp,bc,bM,dQ,cD,cF,cJ,dU,ho]at aX;split at aX
 ·rename_i t v hx;simp at aX;obtain⟨rfl,rfl⟩:=aX;have Ue:=bV hR hx;obtain⟨v',x9,hv⟩:∃v',a.eval x= .iface t v'/\bS ι v v':=by
   cases h1:a.eval x<;>rw[h1]at Ue<;>cases Ue;exact⟨_,rfl,‹_›⟩
  have:(execOp a.eval o).run E.P w= .halt (.panic (.iface t v')) w:=by
   simp[execOp,ho,x9,Instr.panic,goPanic,Sem.run]
  rw[this];exact⟨_,rfl,.iface _ hv,rfl,rfl⟩
 ·simp at aX
theorem QG(hR:cK ι rg a.tmps)(hH:dV ι h w){c:Call}(ho:o.op= .defer c)(aX:eF E rg h o=some (r,h')):
 ku ι h w r h' ((execOp a.eval o).run E.P w):=by
 simp only[eF,dK,dM,cx,fY,cy,ba,dN,cz,bG,cu,dO,bL,aT,bH,bN,bh,cA,bj,cB,bm,cC,bT,bp,bc,bM,dQ,cD,cF,cJ,dU,ho]at aX;split at aX
 ·rename_i args f iy hf;split at aX
  ·rename_i k ko hk;simp at aX;obtain⟨rfl,rfl⟩:=aX;have hr:=bV hR hk;obtain⟨cs,Uh,zn⟩:∃cs,a.eval f= .func (.func k) #[] cs/\bF ι ko cs.toList:=by
    cases h1:a.eval f<;>rw[h1]at hr<;>cases hr;exact⟨_,rfl,‹_›,‹_›⟩
   have:(execOp a.eval o).run E.P w= .ok (.defer {target:= .fn (.func k) cs,args:=c.args.map a.eval}) w:=by
    simp[execOp,ho,resolve,hf,Deferred.ofValue,Uh]
   rw[this];exact⟨_,_,_,_,rfl,rfl,by simpa using(uF hR iy).append zn,rfl,rfl⟩
  ·simp at aX
 ·simp at aX
theorem uK(hR:cK ι rg a.tmps){c:Call}{x y:AV}(iy:oP rg c.args.toList=some [x,y]):∃u v,c.args.map a.eval= #[u,v]/\bS ι x u/\bS ι y v:=by
 have h:=uF hR iy;obtain⟨hl,hi⟩:=h
 match hm:c.args.toList.map a.eval with
 |[u,v]=>
  rw[hm]at hi;exact⟨u,v,by apply jf;simpa using hm,hi 0 _ _ rfl rfl,hi 1 _ _ rfl rfl⟩
 |[]=>rw[hm]at hl;simp at hl
 |[_]=>rw[hm]at hl;simp at hl
 |_::_::_::_=>rw[hm]at hl;simp at hl
theorem Iw(hR:cK ι rg a.tmps){c:Call}{x:AV}(iy:oP rg c.args.toList=some [x]):∃u,c.args.map a.eval= #[u]/\bS ι x u:=by
 have h:=uF hR iy;obtain⟨hl,hi⟩:=h
 match hm:c.args.toList.map a.eval with
 |[u]=>
  rw[hm]at hi;exact⟨u,by apply jf;simpa using hm,hi 0 _ _ rfl rfl⟩
 |[]=>rw[hm]at hl;simp at hl
 |_::_::_=>rw[hm]at hl;simp at hl
theorem jQ{c:Call}{b:Builtin}(ho:o.op= .call c)(hc:c.callee= .builtin b)(s:Sem Value)
 (hb:∀consts,builtin b c.argTypes o.type consts (c.args.map a.eval)=(do pure (.value (<-s)):Sem Next)):
 (execOp a.eval o).run E.P w=(s.run E.P w).andThen fun v w'=> .ok (.value v) w':=by
 simp only[execOp,ho,resolve,hc,Sem.run_bind,Sem.run_pure,Result.andThen_ok,invoke,hb]
theorem UY(hE:E.Ok)(hR:cK ι rg a.tmps)(hH:dV ι h w){c:Call}(ho:o.op= .call c)(aX:eF E rg h o=some (r,h')):
 ku ι h w r h' ((execOp a.eval o).run E.P w):=by
 simp only[eF,dK,dM,cx,fY,cy,ba,dN,cz,bG,cu,dO,bL,aT,bH,bN,bh,cA,bj,cB,bm,cC,bT,bp,bc,bM,dQ,cD,cF,cJ,dU,ho]at aX;split at aX
 ·simp at aX
 ·rename_i args iy;have Et:=uF hR iy;split at aX
  ·rename_i f oQ;split at aX
   ·rename_i k ko hf;split at aX
    ·rename_i fn B7;split at aX
     ·rename_i ym;simp at aX;obtain⟨rfl,rfl⟩:=aX;have hr:=bV hR hf;obtain⟨cs,Uh,zn⟩:∃cs,a.eval f= .func (.func k) #[] cs/\bF ι ko cs.toList:=by
       cases h1:a.eval f<;>rw[h1]at hr<;>cases hr;exact⟨_,rfl,‹_›,‹_›⟩
      obtain⟨Gr,CT⟩:=hE.fn k fn B7;have XC:fn.body.isNone=false:=(by cases h1:fn.body<;>simp_all);have:(execOp a.eval o).run E.P w= .ok (.enter k (c.args.map a.eval++cs)) w:=by
       simp only[execOp,ho,resolve,oQ,Deferred.ofValue,Uh,invoke,callFunc,Sem.run_bind,Sem.run_pure,Result.andThen_ok,run_program,Gr,CT,XC];simp
      rw[this];exact⟨_,rfl,by simpa using Et.append zn,rfl,rfl⟩
     ·split at aX
      ·rename_i xf eD;split at aX
       ·rename_i v hv;simp at aX;obtain⟨rfl,rfl⟩:=aX;have hr:=bV hR hf;obtain⟨cs,Uh,zn⟩:∃cs,a.eval f= .func (.func k) #[] cs/\bF ι ko cs.toList:=by
         cases h1:a.eval f<;>rw[h1]at hr<;>cases hr;exact⟨_,rfl,‹_›,‹_›⟩
        obtain⟨Bz,e,Gr,CT,hb,wa,hfd,he⟩:=hE.ext k _ eD;obtain⟨y,hy,hyr⟩:=he (cp:=c.args.map a.eval++cs) (w:=w) hv (by simpa using Et.append zn);have ub:Bz.body.isNone=true:=(by rw[hb];rfl);have hcf:=run_callFunc_extern Gr CT ub wa hfd (c.args.map a.eval++cs) w;have:(execOp a.eval o).run E.P w= .ok (.value y) w:=by
         simp only[execOp,ho,resolve,oQ,Deferred.ofValue,Uh,invoke,Sem.run_bind,Sem.run_pure,Result.andThen_ok];rw[Array.empty_append,hcf,hy];rfl
        exact .pure hH this hyr
       ·simp at aX
      ·simp at aX
    ·simp at aX
   ·rename_i l hf;split at aX
    ·rename_i st pd n AD ps ae b hl;split at aX
     ·rename_i hlen;simp at aX;obtain⟨rfl,rfl⟩:=aX;have hr:=bV hR hf;obtain⟨L,Uh,hL⟩:∃L,a.eval f= .func (.yield L.b) #[] #[]/\ι l=some L:=by
       cases h1:a.eval f<;>rw[h1]at hr<;>cases hr;exact⟨_,rfl,‹_›⟩
      obtain⟨ob,Km,hO⟩:=hH.obj l L hL;rw[hl]at Km;cases Km;obtain⟨tm,df,fn,XE,zJ,ah5⟩:=hO;have ng:(c.args.map a.eval).size=ps.size:=by
       have:=Et.1;simp at this⊢;omega
      have:(execOp a.eval o).run E.P w= .ok (.round L.b fn ((ps.zip (c.args.map a.eval)).foldl (fun t x=>t.setIfInBounds x.1 x.2) tm) ae b) w:=by
       have ah6:¬((c.args.map a.eval).size≠ps.size):=(by simp only[ng];simp);simp only[execOp,ho,resolve,oQ,Deferred.ofValue,Uh,invoke,Sem.run_bind,Sem.run_pure,Result.andThen_ok,Instr.yield];have XI:(Instr.getLoop L.b).run E.P w= .ok {state:=st,pending:=pd,fn:=fn,tmps:=tm,params:=ps,assign:=ae,body:=b,defers:=df} w:=by
        simp[Instr.getLoop,getObj,Sem.run,XE,Sem.bind,Bind.bind,Pure.pure,Sem.pure]
       simp only[XI,Result.andThen_ok];simp[ng]
      have hm:c.args.map a.eval=(List.map a.eval c.args.toList).toArray:=(by apply jf;simp);rw[this];exact⟨_,_,_,_,_,_,_,_,_,_,_,rfl,hL,hl,XE,zJ,Et,rfl,by have:=Et.1;simp at this⊢;omega,by rw[hm],rfl,rfl⟩
     ·simp at aX
    ·simp at aX
   ·simp at aX
  ·simp at aX
  ·rename_i b oQ;split at aX
   ·
     rename_i x;obtain⟨u,hu,hx⟩:=Iw hR iy;split at aX
     ·rename_i t ht;split at aX
      ·rename_i v hv;simp at aX;obtain⟨rfl,rfl⟩:=aX;obtain⟨y,hy,hr⟩:=E6 hE hH (ty:=o.type) hx ht hv;exact .pure hH (by rw[jQ ho oQ _ fun _=>by rw[hu];rfl,hy];rfl) hr
      ·simp at aX
     ·simp at aX
   ·
     rename_i s x;obtain⟨u,v,QH,hs,hx⟩:=uK hR iy;split at aX
     ·rename_i t tx ht B8;have fin:∀(hk:(∃e',E.P.underlying tx=some (.slice e'))\/E.P.underlying tx=some .string),(match aO E h t s x with
       |some (v,h')=>some (.val v,h')
       |none=>none)=some (r,h')->ku ι h w r h' ((execOp a.eval o).run E.P w):=fun hk aX=>by
       split at aX
       ·rename_i z h2 hz;simp at aX;obtain⟨rfl,rfl⟩:=aX;obtain⟨y,w',dS,hy,hr,eD⟩:=Gk hE hH (ty:=o.type) hs hx hk hz;have CU:Builtin.append_ c.argTypes o.type #[u,v]=Builtin.append_ #[t,tx] o.type #[u,v]:=by
         simp only[Builtin.append_,ht,B8];rfl
        exact .val (by rw[jQ ho oQ _ fun _=>by rw[QH];rfl,CU,hy];rfl) hr eD
       ·simp at aX
      split at aX
      ·rename_i e he;exact fin (.inl ⟨e,hE.kQ _ _ he⟩) aX
      ·rename_i he;exact fin (.inr (hE.kQ _ _ he)) aX
      ·simp at aX
     ·simp at aX
   ·
     rename_i d x;obtain⟨u,v,QH,hs,hx⟩:=uK hR iy;split at aX
     ·rename_i t ht;split at aX
      ·rename_i z h2 hz;simp at aX;obtain⟨rfl,rfl⟩:=aX;obtain⟨y,w',dS,hy,hr,eD⟩:=Lc hE hH (ty:=o.type) hs hx ht hz;exact .val (by rw[jQ ho oQ _ fun _=>by rw[QH];rfl,hy];rfl) hr eD
      ·simp at aX
     ·simp at aX
   ·rename_i k p k' q;obtain⟨u,v,QH,hs,hx⟩:=uK hR iy;simp at aX;obtain⟨rfl,rfl⟩:=aX;have h1:=hs.il;have h2:=hx.il;subst h1 h2;exact .pure hH (by rw[jQ ho oQ _ fun _=>by rw[QH];rfl];simp[Builtin.max_,Builtin.max2]) (.int _ _)
   ·rename_i k p k' q;obtain⟨u,v,QH,hs,hx⟩:=uK hR iy;simp at aX;obtain⟨rfl,rfl⟩:=aX;have h1:=hs.il;have h2:=hx.il;subst h1 h2;exact .pure hH (by rw[jQ ho oQ _ fun _=>by rw[QH];rfl];simp[Builtin.min_,Builtin.min2]) (.int _ _)
   ·simp at aX;obtain⟨rfl,rfl⟩:=aX;have:(execOp a.eval o).run E.P w= .ok .recover w:=by
     simp[execOp,ho,resolve,oQ,invoke,builtin]
    rw[this];exact⟨rfl,rfl,rfl⟩
   ·simp at aX
theorem QI(hE:E.Ok)(hR:cK ι rg a.tmps)(hH:dV ι h w){t:TypeId}{x:Operand}(ho:o.op= .range t x)(aX:eF E rg h o=some (r,h')):
 ku ι h w r h' ((execOp a.eval o).run E.P w):=by
 simp only[eF,dK,dM,cx,fY,cy,ba,dN,cz,bG,cu,dO,bL,aT,bH,bN,bh,cA,bj,cB,bm,cC,bT,bp,bc,bM,dQ,cD,cF,cJ,dU,ho]at aX;split at aX
 ·rename_i k v m ht hx;split at aX
  ·rename_i hg;simp at aX;obtain⟨rfl,rfl⟩:=aX;obtain⟨L,pJ,hL⟩:∃L,a.eval x= .map (some L.b)/\ι m=some L:=by
    have hr:=bV hR hx;cases h1:a.eval x<;>rw[h1]at hr<;>cases hr;exact⟨_,rfl,‹_›⟩
   obtain⟨ob,Km,hO⟩:=hH.obj m L hL;rw[hg]at Km;cases Km;obtain⟨es,ck,hb,ng,_⟩:=hO;have yJ:(getObj L.b).run E.P w= .ok (.map es ck) w:=(by simp[getObj,Sem.run,hb]);refine .val (y:= .pointer (some ⟨w.heap.size,0,none⟩)) (w':=w.alloc (.mapIter (some L.b) ck #[] ck)) (dS:=ι.add h.next ⟨w.heap.size,0,0,0,true⟩) ?_ (.ptr (L:=⟨w.heap.size,0,0,0,true⟩) (cS.add_same _ _ _)) ?_
   ·simp[execOp,ho,pJ,Instr.range,cG hE ht,yJ]
   ·have hle:ι.le (ι.add h.next ⟨w.heap.size,0,0,0,true⟩):=fun i Li hi=>by
     rw[cS.cm];exact hi;have:=hH.lt i Li hi;omega
    exact hH.alloc rfl rfl rfl rfl _ _ _ rfl ⟨L,ck,ck,rfl,hle _ _ hL,heap_alloc_new w _⟩
  ·simp at aX
 ·simp at aX
theorem UZ(hR:cK ι rg a.tmps)(hH:dV ι h w){x:Operand}{b:Bool}(ho:o.op= .next x b)(aX:eF E rg h o=some (r,h')):
 ku ι h w r h' ((execOp a.eval o).run E.P w):=by
 cases b with
 |true=>simp[eF,dK,dM,cx,fY,cy,ba,dN,cz,bG,cu,dO,bL,aT,bH,bN,bh,cA,bj,cB,bm,cC,bT,bp,bc,bM,dQ,cD,cF,cJ,dU,ho]at aX
 |false=>
  simp only[eF,dK,dM,cx,fY,cy,ba,dN,cz,bG,cu,dO,bL,aT,bH,bN,bh,cA,bj,cB,bm,cC,bT,bp,bc,bM,dQ,cD,cF,cJ,dU,ho]at aX;split at aX
  ·rename_i i hx;split at aX
   ·rename_i m hg;split at aX
    ·rename_i hg2;simp at aX;obtain⟨rfl,rfl⟩:=aX;obtain⟨L,hL,pJ⟩:=(bV hR hx).kR;obtain⟨ob,Km,hO⟩:=hH.obj i L hL;rw[hg]at Km;cases Km;obtain⟨Lm,since,last,h0,hm,hb⟩:=hO;obtain⟨om,hom,hOm⟩:=hH.obj m Lm hm;rw[hg2]at hom;cases hom;obtain⟨es,ck,hbm,ng,_⟩:=hOm;have wC:es= #[]:=(by apply Array.eq_empty_of_size_eq_zero;simpa using ng);subst wC;have yJ:(getObj L.b).run E.P w= .ok (.mapIter (some Lm.b) since #[] last) w:=(by simp[getObj,Sem.run,hb]);have hgm:(getObj Lm.b).run E.P w= .ok (.map #[] ck) w:=(by simp[getObj,Sem.run,hbm]);refine .pure hH (y:= .tuple #[.bool false]) ?_ (.Er (bF.cons (.bool false) (bF.nil _)));rw[h0]at pJ;simp[execOp,ho,pJ,Instr.next,yJ,hgm,Question.forced]
    ·simp at aX
   ·simp at aX
  ·simp at aX
theorem xM(hE:E.Ok)(hR:cK ι rg a.tmps)(hH:dV ι h w)(aX:eF E rg h o=some (r,h')):
 ku ι h w r h' ((execOp a.eval o).run E.P w):=by
 cases ho:o.op with
 |move x=>exact(Cp hR hH (.inl ho) aX).post hH
 |assign x=>exact(Cp hR hH (.inr ho) aX).post hH
 |pick c x y=>exact(MZ hR hH ho aX).post hH
 |alloc e=>exact QJ hE hH ho aX
 |box e x=>exact Zt hE hR hH ho aX
 |build t ps=>exact(Ix hE hR hH ho aX).post hH
 |buildSlice t n ps=>exact Eu hE hR hH ho aX
 |load t x=>exact(M0 hE hR hH ho aX).post hH
 |store t x y=>exact QK hE hR hH ho aX
 |nilCheck x=>exact(BA hR hH ho aX).post hH
 |binOp op t x y u=>exact(Iy hE hR hH ho aX).post hH
 |unOp op t x=>exact(MP hR hH ho aX).post hH
 |convert s d x=>exact KY hE hR hH ho aX
 |makeInterface t x=>exact(uE hE hR hH ho aX).post hH
 |makeFunc f x c=>exact(Bt hR hH ho aX).post hH
 |makeMap t x=>exact KW hH ho aX
 |makeSlice t l c=>exact Gc hE hR hH ho aX
 |slice t x l u m=>exact(Im hE hR hH ho aX).post hH
 |fieldAddr s x f=>exact(zC hE hR hH ho aX).post hH
 |field s x f=>exact(Ip hE hR hH ho aX).post hH
 |indexAddr t x i=>exact(zD hE hR hH ho aX).post hH
 |index t x i=>exact(Iq hE hR hH ho aX).post hH
 |lookup t x i ok=>exact(E5 hE hR hH ho aX).post hH
 |mapUpdate t m k x=>exact Gi hE hR hH ho aX
 |typeAssert x t u ok=>exact(yl hE hR hH ho aX).post hH
 |extract t i=>exact(CO hR hH ho aX).post hH
 |call c=>exact UY hE hR hH ho aX
 |defer c=>exact QG hR hH ho aX
 |panic x=>exact QF hR hH ho aX
 |range t x=>exact QI hE hR hH ho aX
 |next x b=>exact UZ hR hH ho aX
 |_=>simp[eF,dK,dM,cx,fY,cy,ba,dN,cz,bG,cu,dO,bL,aT,bH,bN,bh,cA,bj,cB,bm,cC,bT,bp,bc,bM,dQ,cD,cF,cJ,dU,ho]at aX
end
section
variable [iY]
variable{E:Env}
def kS(ρ:Option Nat):Fence:={Fence.wide with round:=ρ}
theorem zK{ρ:Option Nat}{n:Nat}{P:Program}{f:FuncId}{args:Array Value}{w:World}{R:Ending->World->Prop}:CallsIn (kS ρ) n P f args w R=CallsIn Fence.wide n P f args w R:=rfl
theorem Ev{ρ:Option Nat}{n:Nat}{P:Program}{l:Nat}{f:FuncId}{tmps:Array Value}{ae b:Code}{w:World}{R:Ending->World->Prop}:RoundIn (kS ρ) n P l f tmps ae b w R=RoundIn Fence.wide n P l f tmps ae b w R:=rfl
def U0(ι:cS)(d:fJ)(d':Deferred):Prop:=
 match d with
 | .call f args=>∃cap tR:Array Value,d'={target:= .fn (.func f) cap,args:=tR}/\bF ι args (tR.toList++cap.toList)
 | .mark r=>∃L,ι r=some L/\d'={target:= .collected L.b,args:= #[]}
def uL(ι:cS):List fJ->List Deferred->Prop
 |[],[]=>True
 |d::ds,d'::Iz=>U0 ι d d'/\uL ι ds Iz
 |_,_=>False
theorem U0.mono{ι dS:cS}(hle:ι.le dS){d:fJ}{d':Deferred}(h:U0 ι d d'):U0 dS d d':=by
 cases d with
 |call f args=>obtain⟨cap,tR,h1,h2⟩:=h;exact⟨cap,tR,h1,h2.mono hle⟩
 |mark r=>obtain⟨L,h1,h2⟩:=h;exact⟨L,hle r L h1,h2⟩
theorem uL.mono{ι dS:cS}(hle:ι.le dS):∀{ds:List fJ}{Iz:List Deferred},uL ι ds Iz->uL dS ds Iz
 |[],[],_=>trivial
 |d::ds,d'::Iz,h=>⟨h.1.mono hle,uL.mono hle h.2⟩
 |[],_::_,h=>h.elim
 |_::_,[],h=>h.elim
structure rE(ι:cS)(st:St)(a:Act)(w:World)(ρ:Option Nat):Prop where
 uY:cK ι st.rg a.tmps
 n:a.tmps.size=st.n
 heap:dV ι st.h w
 ds:uL ι st.ds a.defers
 bI:st.bI=ρ.isSome
def Ld(ι:cS)(v:AV)(chain:List PanicEntry):Prop:=∃y,chain=[{v:=y,recovered:=false}]/\bS ι v y
def nU(ι:cS):Out->Ending->Prop
 | .ret v,.returned y=>bS ι v y
 | .iS v,.panicked chain=>Ld ι v chain
 |_,_=>False
def Na(ι:cS):bt->Exit->Prop
 | .jL,.normal=>True
 | .ret,.ret=>True
 | .exit i,.exit j=>i=j
 | .iS v,.panic chain=>Ld ι v chain
 |_,_=>False
structure qh(E:Env)(call:dR)(round:cO):Prop where
 call:∀{k:FuncId}{args:List AV}{h:ah}{out:Out}{h':ah}{ι:cS}{w:World}{cp:Array Value},call k args h=some (out,h')->dV ι h w->bF ι args cp.toList->
  CallsIn Fence.wide 0 E.P k cp w fun e w'=>∃dS,Ext ι h w dS h' w'/\nU dS out e
 round:∀{l:Nat}{args:List AV}{h:ah}{v:AV}{h':ah}{ι:cS}{w:World}{L:Loc}{st:LoopState}{pd:Option Code}{n:Nat}{rg:T AV}{ps:Array Tmp}{ae b:Code}{tm:Array Value}{df:Nat}{fn:FuncId}{vs:List Value},
  round l args h=some (v,h')->dV ι h w->ι l=some L->h.get l=some (.loop st pd n rg ps ae b)->
  w.heap[L.b]?=some (.loop {state:=st,pending:=pd,fn:=fn,tmps:=tm,params:=ps,assign:=ae,body:=b,defers:=df})->cK ι rg tm->bF ι args vs->vs.length=ps.size->
  RoundIn Fence.wide 0 E.P L.b fn ((ps.zip vs.toArray).foldl (fun t x=>t.setIfInBounds x.1 x.2) tm) ae b w fun e w'=>∃dS y,e= .returned y/\Ext ι h w dS h' w'/\bS dS v y
theorem cK.put{ι:cS}{rg:T AV}{a:Act}{d:Option Tmp}{v:AV}{y:Value}(hR:cK ι rg a.tmps)(hd:oC a.tmps.size d=true)(hv:bS ι v y):cK ι (eH rg d v) (a.put d y).tmps:=by
 cases d with
 |none=>exact hR
 |some d=>
  simp[oC]at hd;intro i x hx;simp only[eH,T.aM]at hx;simp only[Act.put];split at hx
  ·rename_i e;subst e;cases hx;exact⟨y,by simp[hd],hv⟩
  ·rename_i e;obtain⟨z,hz,hr⟩:=hR i x hx;exact⟨z,by rw[et (fun h=>e h.symm)];exact hz,hr⟩
theorem nF(a:Act)(d:Option Tmp)(y:Value):(a.put d y).tmps.size=a.tmps.size:=by
 cases d<;>simp[Act.put]
theorem jt(a:Act)(d:Option Tmp)(y:Value):(a.put d y).defers=a.defers:=by
 cases d<;>simp[Act.put]
theorem AK(ι:cS):bS ι mc undef:=bS.undef ι
theorem mK{ι:cS}{ops:Array Oper}{n:Nat}{rg:T AV}{o:Oper}{b:Bool}{a:Act}(h:cf ops n rg o=some b)(hR:cK ι rg a.tmps):
 Region.wanted o (yielded ops a.tmps)=b/\oC n o.dst=true:=by
 unfold cf at h;split at h
 ·rename_i hd;refine⟨?_,hd⟩;unfold Region.wanted;split at h
  ·rename_i hg;simp at h;subst h;simp[hg]
  ·rename_i j want hg;simp only[hg];split at h
   ·rename_i hj;simp at h;subst h;simp[yielded,hj]
   ·rename_i d hj;split at h
    ·rename_i b' hb;simp at h;subst h;obtain⟨y,hy,hr⟩:=hR d _ hb;have:=hr.nD;subst this;have:yielded ops a.tmps j=some b':=(by simp[yielded,hj,hy]);rw[this];cases b'<;>cases want<;>rfl
    ·rename_i hb;simp at h;subst h;obtain⟨y,hy,hr⟩:=hR d _ hb;obtain⟨cs,rfl,_⟩:=hr.MQ;have:yielded ops a.tmps j=none:=(by simp[yielded,hj,hy]);rw[this];rfl
    ·simp at h
 ·simp at h
theorem Cq(hE:E.Ok){call:dR}{round:cO}(hm:qh E call round){ι:cS}{st cg:St}{a:Act}{w:World}{ρ:Option Nat}{rg:T AV}{o:Oper}{r:dZ×ah}{x:Option AV}
 (hR:cK ι rg a.tmps) (hH:dV ι st.h w) (hD:uL ι st.ds a.defers) (Ew:st.bI=ρ.isSome) (aX:eF E rg st.h o=some r) (jA:nV call round o.dst st r=some (x,cg))
 {K:Act->World->Prop} {Q:Exit->Act->World->Prop}
 (hK:x=none->∀dS v y Iz w',Ext ι st.h w dS cg.h w'->bS dS v y->cg.rg=eH st.rg o.dst v->cg.n=st.n->cg.bI=st.bI->uL dS cg.ds Iz->K (({a with defers:=Iz}:Act).put o.dst y) w')
 (hQ:∀v,x=some v->∀dS chain w',Ext ι st.h w dS cg.h w'->Ld dS v chain->cg.rg=st.rg->cg.n=st.n->cg.bI=st.bI->cg.ds=st.ds->Q (.panic chain) a w'):
 o.wpIn (kS ρ) 0 E.P a w K Q:=by
 obtain⟨r,h1⟩:=r;refine⟨fun _ _=>trivial,?_⟩;have fU:=xM hE hR hH aX;have aeE:(o.semAt (kS ρ).round a.eval).run E.P w=(execOp a.eval o).run E.P w:=by
  show(o.semAt ρ a.eval).run E.P w=_;cases ρ with
  |none=>rfl
  |some l=>
   rw[Oper.semAt_some l a.eval o];intro c ho;simp only[eF,dK,dM,cx,fY,cy,ba,dN,cz,bG,cu,dO,bL,aT,bH,bN,bh,cA,bj,cB,bm,cC,bT,bp,bc,bM,dQ,cD,cF,cJ,dU,ho]at aX;split at aX
   ·split at aX
    ·simp at aX;obtain⟨rfl,rfl⟩:=aX;simp[nV,Ew]at jA
    ·simp at aX
   ·simp at aX
 rw[aeE];revert fU;generalize (execOp a.eval o).run E.P w=res;intro fU;cases res with
 |ok nx w'=>
  cases nx with
  |value y=>
   obtain⟨v,dS,rfl,hv,eD⟩:=fU;simp[nV]at jA;obtain⟨rfl,rfl⟩:=jA;rw[Oper.uponIn_value];exact hK rfl dS v y a.defers w' eD hv rfl rfl rfl (hD.mono (eD.le hH))
  |skip=>
   obtain⟨dS,rfl,eD⟩:=fU;simp[nV]at jA;obtain⟨rfl,rfl⟩:=jA;rw[Oper.uponIn_skip];exact hK rfl dS mc undef a.defers w' eD (AK _) rfl rfl rfl (hD.mono (eD.le hH))
  |enter f args=>
   obtain⟨ae,rfl,iy,rfl,rfl⟩:=fU;simp only[nV]at jA;rw[Oper.uponIn_enter];refine⟨fun h=>by simp[kS,Fence.wide]at h,?_⟩;rw[zK];split at jA
   ·rename_i v h2 hc;simp at jA;obtain⟨rfl,rfl⟩:=jA;refine(hm.call hc hH iy).mono fun e Zu he=>?_;obtain⟨dS,eD,tz⟩:=he;cases e with
    |returned y=>exact hK rfl dS v y a.defers Zu eD tz rfl rfl rfl (hD.mono (eD.le hH))
    |panicked chain=>exact tz.elim
    |outgrown=>exact tz.elim
   ·rename_i v h2 hc;simp at jA;obtain⟨rfl,rfl⟩:=jA;refine(hm.call hc hH iy).mono fun e Zu he=>?_;obtain⟨dS,eD,tz⟩:=he;cases e with
    |returned y=>exact tz.elim
    |panicked chain=>exact hQ v rfl dS chain Zu eD tz rfl rfl rfl rfl
    |outgrown=>exact tz.elim
   ·simp at jA
  |round l f tmps ae b=>
   obtain⟨id,args,L,sts,pd,n,AD,ps,tm,df,vs,rfl,hL,hl,hb,zJ,iy,rfl,hlen,rfl,rfl,rfl⟩:=fU;simp only[nV]at jA;rw[Oper.uponIn_round];refine⟨fun h=>by simp[kS,Fence.wide]at h,?_⟩;rw[Ev];split at jA
   ·rename_i v h2 hc;simp at jA;obtain⟨rfl,rfl⟩:=jA;refine(hm.round hc hH hL hl hb zJ iy hlen).mono fun e Zu he=>?_;obtain⟨dS,y,rfl,eD,hv⟩:=he;exact hK rfl dS v y a.defers Zu eD hv rfl rfl rfl (hD.mono (eD.le hH))
   ·simp at jA
  |defer d=>
   obtain⟨f,ae,cap,tR,rfl,rfl,iy,rfl,rfl⟩:=fU;simp only[nV]at jA;split at jA
   ·simp at jA
   ·simp at jA;obtain⟨rfl,rfl⟩:=jA;rw[Oper.uponIn_defer];exact hK rfl ι mc undef _ w' (Ext.refl hH) (AK _) rfl rfl rfl ⟨⟨cap,tR,rfl,iy⟩,hD⟩
  |recover=>
   obtain⟨rfl,_⟩:=fU;simp[nV]at jA
  |_=>exact fU.elim
 |halt hx w'=>
  cases hx with
  |panic v=>
   obtain⟨x',rfl,hv,rfl,rfl⟩:=fU;simp[nV]at jA;obtain⟨rfl,rfl⟩:=jA;rw[Oper.uponIn_panic];exact hQ x' rfl ι _ w' (Ext.refl hH) ⟨v,rfl,hv⟩ rfl rfl rfl rfl
  |_=>exact fU.elim
def eL(ι:cS)(st:St)(w:World)(ρ:Option Nat)(x:bt)(cg:St)(Q:Exit->Act->World->Prop):Prop:=
 ∀e dS a' w',Ext ι st.h w dS cg.h w'->rE dS cg a' w' ρ->Na dS x e->Q e a' w'
theorem yK(hE:E.Ok){call:dR}{round:cO}(hm:qh E call round){ops:Array Oper}{ρ:Option Nat}{x:bt}{cg:St}{Q:Exit->Act->World->Prop}:
 ∀{l:List Oper}{st:St}{ι:cS}{a:Act}{w:World},wM E call round ops l st=some (x,cg)->rE ι st a w ρ->eL ι st w ρ x cg Q->wpListIn (kS ρ) 0 E.P ops Q l a w
 |[],st,ι,a,w,hr,hS,hP=>by
  simp[wM]at hr;obtain⟨rfl,rfl⟩:=hr;exact hP .normal ι a w (Ext.refl hS.heap) hS trivial
 |o::l,st,ι,a,w,hr,hS,hP=>by
  simp only[wM]at hr;simp only[wpListIn];split at hr
  ·simp at hr
  ·rename_i hw;obtain⟨hw,hd⟩:=mK hw hS.uY;rw[<-hS.n]at hd;rw[hw,az sp];exact⟨fun _ _=>trivial,yK hE hm hr ⟨hS.uY.put hd (AK _),by rw[nF];exact hS.n,hS.heap,by rw[jt];exact hS.ds,hS.bI⟩ hP⟩
  ·rename_i hw;obtain⟨hw,hd⟩:=mK hw hS.uY;rw[<-hS.n]at hd;rw[hw,aW rfl];split at hr
   ·simp at hr
   ·rename_i r aX;split at hr
    ·simp at hr
    ·rename_i rL jA;refine Cq hE hm hS.uY hS.heap hS.ds hS.bI aX jA (fun _ dS v y Iz w' eD hv Nb hn Le E7=>?_) (fun v hv=>by cases hv);refine yK hE hm hr ⟨?_,?_,eD.rel,?_,?_⟩ ?_
     ·rw[Nb];exact cK.put (a:={a with defers:=Iz}) (hS.uY.mono (eD.le hS.heap)) hd hv
     ·rw[nF,hn];exact hS.n
     ·rw[jt];exact E7
     ·rw[Le];exact hS.bI
     ·exact fun e Ed a2 w2 he hs hx=>hP e Ed a2 w2 (eD.trans he) hs hx
    ·rename_i v rL jA;simp at hr;obtain⟨rfl,rfl⟩:=hr;refine Cq hE hm hS.uY hS.heap hS.ds hS.bI aX jA (fun h=>by cases h) (fun v' hv dS chain w' eD Zv Nb hn Le E7=>?_);cases hv;refine hP _ dS a w' eD ⟨?_,?_,eD.rel,?_,?_⟩ Zv
     ·rw[Nb];exact hS.uY.mono (eD.le hS.heap)
     ·rw[hn];exact hS.n
     ·rw[E7];exact hS.ds.mono (eD.le hS.heap)
     ·rw[Le];exact hS.bI
end
section
variable{E:Env}
theorem ve{rg da:T AV}:∀{xs:List Operand},(∀x∈xs,ic rg x=ic da x)->oP rg xs=oP da xs
 |[],_=>rfl
 |x::xs,h=>by simp only[oP];rw[h x sp,ve fun y hy=>h y (by simp[hy])]
theorem ue{rg da:T AV}:∀{xs:List (Nat×Operand)},(∀x∈xs,ic rg x.2=ic da x.2)->nM rg xs=nM da xs
 |[],_=>rfl
 |(i,x)::xs,h=>by simp only[nM];rw[h (i,x) sp,ue fun y hy=>h y (by simp[hy])]
theorem EB{rg da:T AV}{len cap:Nat}{lo hi:Option Operand}(h1:∀x,lo=some x->ic rg x=ic da x)(h2:∀x,hi=some x->ic rg x=ic da x):kh rg len cap lo hi=kh da len cap lo hi:=by
 cases lo with
 |none=>cases hi with
  |none=>rfl
  |some x=>simp only[kh,h2 x rfl]
 |some y=>cases hi with
  |none=>simp only[kh,h1 y rfl]
  |some x=>simp only[kh,h1 y rfl,h2 x rfl]
theorem OJ{rg da:T AV}{h:ah}{o:Oper}(hx:∀x∈o.op.operands.toList,ic rg x=ic da x):eF E rg h o=eF E da h o:=by
 cases ho:o.op<;>simp only[ho,Op.operands]at hx
 case call c=>
  simp only[eF,dK,dM,cx,fY,cy,ba,dN,cz,bG,cu,dO,bL,aT,bH,bN,bh,cA,bj,cB,bm,cC,bT,bp,bc,bM,dQ,cD,cF,cJ,dU,ho];have h1:oP rg c.args.toList=oP da c.args.toList:=ve fun x hm=>hx x (by simp only[Call.operands,Array.toList_append,aP];exact .inr hm);rw[h1];cases hc:c.callee with
  |value f=>
   have h2:ic rg f=ic da f:=hx f (by simp[Call.operands,hc]);cases oP da c.args.toList with
   |none=>rfl
   |some args=>simp only[h2]
  |_=>rfl
 case defer c=>
  simp only[eF,dK,dM,cx,fY,cy,ba,dN,cz,bG,cu,dO,bL,aT,bH,bN,bh,cA,bj,cB,bm,cC,bT,bp,bc,bM,dQ,cD,cF,cJ,dU,ho];have h1:oP rg c.args.toList=oP da c.args.toList:=ve fun x hm=>hx x (by simp only[Call.operands,Array.toList_append,aP];exact .inr hm);rw[h1];cases hc:c.callee with
  |value f=>
   have h2:ic rg f=ic da f:=hx f (by simp[Call.operands,hc]);cases oP da c.args.toList with
   |none=>rfl
   |some args=>simp only[h2]
  |_=>cases oP da c.args.toList<;>rfl
 case next x b=>
  cases b with
  |true=>simp only[eF,dK,dM,cx,fY,cy,ba,dN,cz,bG,cu,dO,bL,aT,bH,bN,bh,cA,bj,cB,bm,cC,bT,bp,bc,bM,dQ,cD,cF,cJ,dU,ho]
  |false=>
   simp only[eF,dK,dM,cx,fY,cy,ba,dN,cz,bG,cu,dO,bL,aT,bH,bN,bh,cA,bj,cB,bm,cC,bT,bp,bc,bM,dQ,cD,cF,cJ,dU,ho];rw[hx x sp]
 case build t ps=>
  simp only[eF,dK,dM,cx,fY,cy,ba,dN,cz,bG,cu,dO,bL,aT,bH,bN,bh,cA,bj,cB,bm,cC,bT,bp,bc,bM,dQ,cD,cF,cJ,dU,ho];rw[ue (da:=da) fun x hm=>hx x.2 (by simp;exact⟨x.1,by simpa using hm⟩)]
 case buildSlice t n ps=>
  simp only[eF,dK,dM,cx,fY,cy,ba,dN,cz,bG,cu,dO,bL,aT,bH,bN,bh,cA,bj,cB,bm,cC,bT,bp,bc,bM,dQ,cD,cF,cJ,dU,ho];rw[ue (da:=da) fun x hm=>hx x.2 (by simp;exact⟨x.1,by simpa using hm⟩)]
 case makeFunc f first ko=>
  cases f<;>simp only[eF,dK,dM,cx,fY,cy,ba,dN,cz,bG,cu,dO,bL,aT,bH,bN,bh,cA,bj,cB,bm,cC,bT,bp,bc,bM,dQ,cD,cF,cJ,dU,ho];rw[ve (da:=da) fun x hm=>hx x (by simp;right;simpa using hm)]
 case slice t x lo hi mx=>
  cases mx with
  |some m=>simp only[eF,dK,dM,cx,fY,cy,ba,dN,cz,bG,cu,dO,bL,aT,bH,bN,bh,cA,bj,cB,bm,cC,bT,bp,bc,bM,dQ,cD,cF,cJ,dU,ho]
  |none=>
   have h0:ic rg x=ic da x:=hx x sp;have hb:∀a b,kh rg a b lo hi=kh da a b lo hi:=fun a b=>EB (fun y hy=>hx y (by simp[hy])) (fun y hy=>hx y (by simp[hy]));simp only[eF,dK,dM,cx,fY,cy,ba,dN,cz,bG,cu,dO,bL,aT,bH,bN,bh,cA,bj,cB,bm,cC,bT,bp,bc,bM,dQ,cD,cF,cJ,dU,ho,h0,hb]
 case makeMap t r=>cases r<;>simp only[eF,dK,dM,cx,fY,cy,ba,dN,cz,bG,cu,dO,bL,aT,bH,bN,bh,cA,bj,cB,bm,cC,bT,bp,bc,bM,dQ,cD,cF,cJ,dU,ho]
 all_goals
  simp at hx
  try simp only[eF,dK,dM,cx,fY,cy,ba,dN,cz,bG,cu,dO,bL,aT,bH,bN,bh,cA,bj,cB,bm,cC,bT,bp,bc,bM,dQ,cD,cF,cJ,dU,ho,hx]
def ah.le(h h':ah):Prop:=∀i x,h.get i=some x->h'.get i=some x
theorem ah.le_refl(h:ah):h.le h:=fun _ _ hx=>hx
theorem ah.le_trans{h h1 h2:ah}(a:h.le h1)(b:h1.le h2):h.le h2:=fun i x hx=>b i x (a i x hx)
theorem ah.le.loadCells{h h':ah}(hle:h.le h'){i off n:Nat}{cs:List AV}(hl:h.loadCells i off n=some cs):h'.loadCells i off n=some cs:=by
 unfold ah.loadCells at hl⊢;split at hl
 ·rename_i hg;rw[hle i _ hg];exact hl
 ·simp at hl
theorem ah.le.tP{h h':ah}(hle:h.le h'){i off:Nat}{v:AV}(hl:h.tP i off=some v):h'.tP i off=some v:=by
 unfold ah.tP at hl⊢;split at hl
 ·rename_i hg;rw[hle i _ hg];exact hl
 ·simp at hl
theorem ah.le.vI{h h':ah}(hle:h.le h'){p q:Nat×Nat}{b:Bool}(hl:Am.vI h p q=some b):Am.vI h' p q=some b:=by
 unfold Am.vI at hl⊢;split at hl
 ·rename_i h1 h2;rw[hle _ _ h1,hle _ _ h2];exact hl
 ·simp at hl
theorem ah.le.E2{h h':ah}(hle:h.le h'){t:TypeId}{c:Bool}{x y:AV}{b:Bool}(hl:Am.E2 E h t c x y=some b):Am.E2 E h' t c x y=some b:=by
 cases x<;>cases y<;>try exact hl
 case slice.slice a n b m=>cases b<;>exact hl
 case map.map a b=>cases b<;>exact hl
 case ptr.ptr p q=>
  simp only[Am.E2]at hl⊢;cases hu:E.kQ t with
  |none=>simp[hu]at hl
  |some d=>
   cases d<;>simp only[hu]at hl⊢<;>try exact hl
   cases p<;>cases q<;>try exact hl
   rename_i e p q;cases hs:E.siz e with
   |none=>simp[hs]at hl
   |some n=>
    cases n with
    |zero=>simp[hs]at hl
    |succ n=>simp only[hs]at hl⊢;exact hle.vI hl
theorem ah.le.AI{h h':ah}(hle:h.le h'){op:BinOp}{t:TypeId}{c:Bool}{x y v:AV}(hl:Am.AI E h op t c x y=some v):Am.AI E h' op t c x y=some v:=by
 revert hl;unfold Am.AI;split
 ·exact id
 ·exact id
 ·rename_i h1 h2;intro hl;have key:∀f:Bool->AV,(Am.E2 E h t c x y).map f=some v->(Am.E2 E h' t c x y).map f=some v:=fun f hf=>by
   cases he:Am.E2 E h t c x y with
   |none=>simp[he]at hf
   |some b=>rw[hle.E2 he];rw[he]at hf;exact hf
  cases op<;>first|exact key _ hl|exact hl
theorem ah.le.oA{h h':ah}(hle:h.le h'){x y:AV}{b:Bool}(hl:Am.oA h x y=some b):Am.oA h' x y=some b:=by
 unfold Am.oA at hl⊢;split<;>first|exact hl|exact hle.vI hl|simp at hl
theorem ah.le.fq{h h':ah}(hle:h.le h'){k:AV}:∀{es:List (AV×AV)}{n:Nat}{r:Option (Nat×AV)},Am.fq h k es n=some r->Am.fq h' k es n=some r
 |[],n,r,hl=>hl
 |e::es,n,r,hl=>by
  simp only[Am.fq]at hl⊢;cases hk:Am.oA h k e.1 with
  |none=>simp[hk]at hl
  |some b=>
   rw[hle.oA hk];rw[hk]at hl;cases b with
   |true=>exact hl
   |false=>exact hle.fq hl
theorem ah.le.iG{h h':ah}(hle:h.le h'){m:Option Nat}{es:List (AV×AV)}(hl:h.iG m=some es):h'.iG m=some es:=by
 cases m with
 |none=>exact hl
 |some r=>
  simp only[ah.iG]at hl⊢;split at hl
  ·rename_i hg;rw[hle _ _ hg];exact hl
  ·simp at hl
theorem ah.le.Eo{h h':ah}(hle:h.le h'){t:TypeId}{x z:AV}(hl:Am.Eo E h t x=some z):Am.Eo E h' t x=some z:=by
 unfold Am.Eo at hl⊢;split at hl
 ·simp_all
 ·simp_all
 ·simp_all
 ·simp_all
 ·rename_i kt vt r hu;split at hl
  ·rename_i hg
   try rw[hu]
   simp only[hle _ _ hg];exact hl
  ·simp at hl
 ·simp at hl
theorem QY{rg:T AV}{h h':ah}{o:Oper}{v:AV}(hc:fK E o= .pure)(aX:eF E rg h o=some (.val v,h')):∀h2,eF E rg h2 o=some (.val v,h2):=by
 intro h2;cases ho:o.op<;>simp only[fK,ho]at hc<;>first|contradiction|skip
 case call c=>
  cases oQ:c.callee with
  |value f=>rw[oQ]at hc;simp at hc
  |invoke r m=>rw[oQ]at hc;simp at hc
  |builtin b=>
   rw[oQ]at hc;simp only[eF,dK,dM,cx,fY,cy,ba,dN,cz,bG,cu,dO,bL,aT,bH,bN,bh,cA,bj,cB,bm,cC,bT,bp,bc,bM,dQ,cD,cF,cJ,dU,ho,oQ]at aX⊢;cases iy:oP rg c.args.toList with
   |none=>simp[iy]at aX
   |some args=>
    simp only[iy]at aX⊢;cases b<;>first|(simp at hc;done)|skip
    all_goals
     split at aX
     all_goals first|contradiction|(simp at aX;done)|(simp only[bw,gh,dZ.val.injEq]at aX⊢;exact⟨aX.1,trivial⟩)
 case convert s d x=>
  simp only[eF,dK,dM,cx,fY,cy,ba,dN,cz,bG,cu,dO,bL,aT,bH,bN,bh,cA,bj,cB,bm,cC,bT,bp,bc,bM,dQ,cD,cF,cJ,dU,ho]at aX⊢
  repeat' split at aX
  all_goals first|(simp at aX;done)|(simp at aX;obtain⟨rfl,rfl⟩:=aX;simp_all)
 all_goals
  simp only[eF,dK,dM,cx,fY,cy,ba,dN,cz,bG,cu,dO,bL,aT,bH,bN,bh,cA,bj,cB,bm,cC,bT,bp,bc,bM,dQ,cD,cF,cJ,dU,ho]at aX⊢
  repeat' split at aX
  all_goals first|(simp at aX;done)|(simp at aX;obtain⟨rfl,rfl⟩:=aX;simp_all)
theorem II{rg:T AV}{h h' h2:ah}{o:Oper}{v:AV}(hc:fK E o= .read)(aX:eF E rg h o=some (.val v,h'))(hle:h.le h2):eF E rg h2 o=some (.val v,h2)/\h'=h:=by
 cases ho:o.op<;>simp only[fK,ho]at hc<;>first|contradiction|skip
 case call c=>
  cases oQ:c.callee with
  |value f=>rw[oQ]at hc;simp at hc
  |invoke r m=>rw[oQ]at hc;simp at hc
  |builtin b=>
   rw[oQ]at hc;simp only[eF,dK,dM,cx,fY,cy,ba,dN,cz,bG,cu,dO,bL,aT,bH,bN,bh,cA,bj,cB,bm,cC,bT,bp,bc,bM,dQ,cD,cF,cJ,dU,ho,oQ]at aX⊢;cases iy:oP rg c.args.toList with
   |none=>simp[iy]at aX
   |some args=>
    simp only[iy]at aX⊢;cases b<;>first|(simp at hc;done)|skip
    match args,aX with
    |[],aX=>simp at aX
    |_::_::_,aX=>simp at aX
    |[x],aX=>
     simp only at aX⊢;split at aX
     ·rename_i t ht;split at aX
      ·rename_i v' tB;simp at aX;obtain⟨rfl,rfl⟩:=aX;simp only[ht,hle.Eo tB];exact⟨trivial,trivial⟩
      ·simp at aX
     ·simp at aX
 case convert s d x=>split at hc<;>simp at hc
 case binOp op t x y u=>
  simp only[eF,dK,dM,cx,fY,cy,ba,dN,cz,bG,cu,dO,bL,aT,bH,bN,bh,cA,bj,cB,bm,cC,bT,bp,bc,bM,dQ,cD,cF,cJ,dU,ho]at aX⊢;split at aX
  ·rename_i a b ha hb;split at aX
   ·rename_i v' tB;simp at aX;obtain⟨rfl,rfl⟩:=aX;simp only[ha,hb,hle.AI tB];exact⟨trivial,trivial⟩
   ·simp at aX
  ·simp at aX
 case load t x=>
  simp only[eF,dK,dM,cx,fY,cy,ba,dN,cz,bG,cu,dO,bL,aT,bH,bN,bh,cA,bj,cB,bm,cC,bT,bp,bc,bM,dQ,cD,cF,cJ,dU,ho]at aX⊢;split at aX
  ·rename_i i off hx;split at aX
   ·rename_i n h1 h3;split at aX
    ·rename_i cs hl;simp at aX;obtain⟨rfl,rfl⟩:=aX;simp only[hx,h1,h3,hle.loadCells hl];exact⟨trivial,trivial⟩
    ·simp at aX
   ·rename_i n h1 h3;split at aX
    ·rename_i v' hl;simp at aX;obtain⟨rfl,rfl⟩:=aX;simp only[hx,h1,h3,hle.tP hl];exact⟨trivial,trivial⟩
    ·simp at aX
   ·simp at aX
  ·simp at aX
 case lookup t x ix ok=>
  simp only[eF,dK,dM,cx,fY,cy,ba,dN,cz,bG,cu,dO,bL,aT,bH,bN,bh,cA,bj,cB,bm,cC,bT,bp,bc,bM,dQ,cD,cF,cJ,dU,ho]at aX⊢;split at aX
  ·rename_i kt vt m k hu hx hk
   try simp only[hu,hx,hk]
   split at aX
   ·rename_i Ir;rw[aW Ir];split at aX
    ·rename_i es wC;simp only[hle.iG wC];cases hf:fq h k es 0 with
     |none=>simp[hf]at aX
     |some q=>
      simp only[hle.fq hf];rw[hf]at aX;cases q with
      |some p=>simp at aX⊢;exact⟨aX.1,aX.2.symm⟩
      |none=>
       try simp only at aX
       split at aX
       ·rename_i h4;simp at h4
       ·rename_i z ag h1 h3 h4;split at aX
        ·rename_i v' tB
         try simp only[h3,h4,tB]
         simp at aX⊢;exact⟨aX.1,aX.2.symm⟩
        ·simp at aX
       ·simp at aX
    ·simp at aX
   ·simp at aX
  ·simp at aX
 case slice t x lo hi mx=>
  cases mx with
  |some m=>simp[eF,dK,dM,cx,fY,cy,ba,dN,cz,bG,cu,dO,bL,aT,bH,bN,bh,cA,bj,cB,bm,cC,bT,bp,bc,bM,dQ,cD,cF,cJ,dU,ho]at aX
  |none=>
   simp only[eF,dK,dM,cx,fY,cy,ba,dN,cz,bG,cu,dO,bL,aT,bH,bN,bh,cA,bj,cB,bm,cC,bT,bp,bc,bM,dQ,cD,cF,cJ,dU,ho]at aX⊢;split at aX
   ·rename_i s hu hx;split at aX
    ·rename_i l r hb;simp at aX;obtain⟨rfl,rfl⟩:=aX;simp only[hu,hx,hb];exact⟨trivial,trivial⟩
    ·simp at aX
   ·rename_i e a len hu hx;split at aX
    ·rename_i s l r hs hb
     try simp only[hu,hx,hs,hb]
     cases a with
     |none=>simp at aX⊢;exact⟨aX.1,aX.2.symm⟩
     |some p=>
      obtain⟨i,off⟩:=p;simp only at aX⊢;split at aX
      ·rename_i rw es cs hg;simp only[hle _ _ hg];split at aX
       ·rename_i ZH;rw[aW ZH];simp at aX⊢;exact⟨aX.1,aX.2.symm⟩
       ·simp at aX
      ·simp at aX
    ·simp at aX
   ·rename_i n e i off hu hx;split at aX
    ·rename_i s l r rw es cs hs hb hg;simp only[hu,hx,hs,hb,hle _ _ hg];split at aX
     ·rename_i ZH;rw[aW ZH];simp at aX⊢;exact⟨aX.1,aX.2.symm⟩
     ·simp at aX
    ·simp at aX
   ·simp at aX
end
section
variable [iY]
variable{E:Env}{ι:cS}{h h':ah}{w:World}{rg:T AV}{a:Act}{o:Oper}{r:dZ}
def mO(ι:cS)(h:ah)(w:World)(r:dZ)(h2:ah)(res:Result Next):Prop:=
 ∃v obj y w' L,r= .val v/\h2=(h.alloc obj).2/\obj.gone=false/\res= .ok (.value y) w'/\w.heap.size<=w'.heap.size/\(∀b,b<w.heap.size->w'.heap[b]?=w.heap[b]?)/\w'.os=w.os/\w'.tape=w.tape/\w'.output=w.output/\
  w.heap.size<=L.b/\∀n,ι n=none->wJ (ι.add n L) obj L w'/\∀v',wg n v=some v'->bS (ι.add n L) v' y
theorem cS.QZ{n:Nat}{L:Loc}(hn:ι n=none):ι.le (ι.add n L):=fun i Li hi=>by
 rw[cS.cm];exact hi;intro e;subst e;rw[hn]at hi;cases hi
theorem mO.cells{w0:World}(hh:w0.heap=w.heap)(Es:w0.os=w.os)(ht:w0.tape=w.tape)(tz:w0.output=w.output){es:Nat}{cs:List AV}{c:Array Value}{e:TypeId}{v:AV}{y:Value}{res:Result Next}
 (hr:res= .ok (.value y) (w0.alloc (.cells c e))) (hc:∀(i:Nat)(x:AV),cs[i]?=some x->∃y:Value,c[i]?=some y/\bS ι x y) (hl:cs.length<=c.size)
 (hv:∀(dS:cS) n,dS n=some ⟨w.heap.size,0,c.size,es,true⟩->∀v',wg n v=some v'->bS dS v' y):mO ι h w (.val v) (h.alloc (.cells true es cs)).2 res:=by
 refine⟨v,_,y,w0.alloc (.cells c e),⟨w.heap.size,0,c.size,es,true⟩,rfl,rfl,rfl,hr,?_,fun b hb=>?_,Es,ht,tz,ao _,fun n hn=>⟨⟨rfl,rfl,by simpa using hl,c,e,(0,0),?_,fun _=>⟨rfl,rfl⟩,fun i x hx=>?_⟩,hv _ n (cS.add_same _ _ _)⟩⟩
 ·simp[World.alloc_eq,hh]
 ·rw[heap_alloc_old _ _ _ (by rw[hh];exact hb),hh]
 ·show(w0.alloc (.cells c e)).heap[w.heap.size]?=_;rw[<-hh];exact heap_alloc_new w0 _
 ·obtain⟨y,hy,hr⟩:=hc i x hx;exact⟨y,by simpa using hy,hr.mono (cS.QZ hn)⟩
theorem IJ{i:Nat}{L:Loc}(hb:L.base=0):∀(dS:cS) n,dS n=some L->∀v',wg n (.ptr (some (i,0)))=some v'->bS dS v' (.pointer (some ⟨L.b,0,none⟩)):=by
 intro dS n hn v' tB;simp[wg]at tB;subst tB;have:=bS.ptr (off:=0) hn;simpa[hb]using this
theorem yM{i len cap:Nat}{L:Loc}(hb:L.base=0)(hc:len<=cap)(ht:L.rw=true->0<L.es->cap*L.es=L.top):∀(dS:cS) n,dS n=some L->∀v',wg n (.slice (some (i,0)) len)=some v'->bS dS v' (.slice (some ⟨L.b,0,none⟩) len cap):=by
 intro dS n hn v' tB;simp[wg]at tB;subst tB;have:=bS.slice (off:=0) hn hc (by simpa[hb]using ht);simpa[hb]using this
theorem Q0(hE:E.Ok){t:TypeId}(ho:o.op= .alloc t)(aX:eF E rg h o=some (r,h')):
 mO ι h w r h' ((execOp a.eval o).run E.P w):=by
 simp only[eF,dK,dM,cx,fY,cy,ba,dN,cz,bG,cu,dO,bL,aT,bH,bN,bh,cA,bj,cB,bm,cC,bT,bp,bc,bM,dQ,cD,cF,cJ,dU,ho]at aX;split at aX
 ·rename_i cs hz;simp at aX;obtain⟨rfl,rfl⟩:=aX;obtain⟨z,Il,wB,_,_⟩:=oV hE hz w;obtain⟨hc,hl⟩:=oB (jN ι wB);exact .cells (w0:=w) (e:=t) rfl rfl rfl rfl (by simp[execOp,ho,Instr.alloc,Il,newVar,newRow]) hc hl (IJ rfl)
 ·simp at aX
theorem ZI(hE:E.Ok)(hR:cK ι rg a.tmps){t:TypeId}{x:Operand}(ho:o.op= .box t x)(aX:eF E rg h o=some (r,h')):
 mO ι h w r h' ((execOp a.eval o).run E.P w):=by
 simp only[eF,dK,dM,cx,fY,cy,ba,dN,cz,bG,cu,dO,bL,aT,bH,bN,bh,cA,bj,cB,bm,cC,bT,bp,bc,bM,dQ,cD,cF,cJ,dU,ho]at aX;split at aX
 ·rename_i v hv;split at aX
  ·simp at aX;obtain⟨rfl,rfl⟩:=aX;obtain⟨hc,hl⟩:=oB (bV hR hv).cells;exact .cells (w0:=w) (e:=t) rfl rfl rfl rfl (by simp[execOp,ho,Instr.box,newVar,newRow]) hc hl (IJ rfl)
  ·simp at aX
 ·simp at aX
theorem Lr{t:TypeId}{x:Option Operand}(ho:o.op= .makeMap t x)(aX:eF E rg h o=some (r,h')):
 mO ι h w r h' ((execOp a.eval o).run E.P w):=by
 cases x with
 |none=>
  simp only[eF,dK,dM,cx,fY,cy,ba,dN,cz,bG,cu,dO,bL,aT,bH,bN,bh,cA,bj,cB,bm,cC,bT,bp,bc,bM,dQ,cD,cF,cJ,dU,ho]at aX;simp at aX;obtain⟨rfl,rfl⟩:=aX;refine⟨_,_,.map (some w.heap.size),w.alloc (.map #[] 0),⟨w.heap.size,0,0,0,true⟩,rfl,rfl,rfl,by simp[execOp,ho,Instr.makeMap],?_,fun b hb=>heap_alloc_old _ _ _ hb,rfl,rfl,rfl,ao _,fun n hn=>⟨⟨#[],0,heap_alloc_new w _,rfl,sp⟩,fun v' tB=>?_⟩⟩
  ·simp[World.alloc_eq]
  ·simp[wg]at tB;subst tB;exact .map (L:=⟨w.heap.size,0,0,0,true⟩) (cS.add_same _ _ _)
 |some x=>simp[eF,dK,dM,cx,fY,cy,ba,dN,cz,bG,cu,dO,bL,aT,bH,bN,bh,cA,bj,cB,bm,cC,bT,bp,bc,bM,dQ,cD,cF,cJ,dU,ho]at aX
theorem EC(hE:E.Ok)(hR:cK ι rg a.tmps){t:TypeId}{len:Nat}{parts:Array (Nat×Operand)}(ho:o.op= .buildSlice t len parts)(aX:eF E rg h o=some (r,h')):
 mO ι h w r h' ((execOp a.eval o).run E.P w):=by
 simp only[eF,dK,dM,cx,fY,cy,ba,dN,cz,bG,cu,dO,bL,aT,bH,bN,bh,cA,bj,cB,bm,cC,bT,bp,bc,bM,dQ,cD,cF,cJ,dU,ho]at aX;split at aX
 ·rename_i e ps hu Ef;split at aX
  ·rename_i s z hs hz;split at aX
   ·rename_i hc;obtain⟨hlen,Gv,wB⟩:=hc;split at aX
    ·rename_i cs hf;simp at aX;obtain⟨rfl,rfl⟩:=aX;obtain⟨zv,Il,UN,_,_⟩:=oV hE hz w;obtain⟨h1,h2⟩:=qK hR Ef;have CM:=jN ι UN;have KZ:=nP (len:=len) CM wB;obtain⟨c',Gz,tB⟩:=sM (ι:=ι) (qs:=parts.toList.map fun(p:Nat×Operand)=>(p.1,a.eval p.2)) h2 (by simpa using h1) KZ hf;obtain⟨OB,zo⟩:=oB tB;have zn:c'.size=len*(s+1):=by
      rw[AO _ _ Gz];simp
     have hle:len*(s+1)<=16777216:=by
      have:len*(s+1)<=1000*1001:=uw hlen om;omega
     refine .cells (w0:=w) (e:=e) (y:= .slice (some ⟨w.heap.size,0,none⟩) len len) rfl rfl rfl rfl ?_ OB zo ?_
     ·have hn:¬(16777216<len*(s+1)):=om;simp only[execOp,ho,Instr.buildSlice,Sem.run_bind,cG hE hu,Result.andThen_ok,eI hE hs];by_cases h0:len*(s+1)=0
      ·have Ee:len=0:=by
        rcases Nat.mul_eq_zero.1 h0 with h|h<;>omega
       subst Ee;have e1:(Array.range (0*(s+1))).map (fun i=>zv.cells[i%zv.cells.size]!)= #[]:=sp;rw[e1]at Gz;have zp:Instr.fill (fun i=>some (i*(s+1),s+1)) #[] (parts.toList.map fun(p:Nat×Operand)=>(p.1,a.eval p.2))=some c':=Gz;have e2:Array.map (fun _:Nat=>(default:Value)) (Array.range 0)= #[]:=(by apply jf;simp[zk]);simp[zp,newRow,e2]
      ·simp[hn,h0,Il,Gz,newRow]
     ·exact yM rfl (ao _) (fun _ _=>by simp[zn])
    ·simp at aX
   ·simp at aX
  ·simp at aX
 ·simp at aX
theorem GB(hE:E.Ok)(hR:cK ι rg a.tmps){t:TypeId}{x y:Operand}(ho:o.op= .makeSlice t x y)(aX:eF E rg h o=some (r,h')):
 mO ι h w r h' ((execOp a.eval o).run E.P w):=by
 simp only[eF,dK,dM,cx,fY,cy,ba,dN,cz,bG,cu,dO,bL,aT,bH,bN,bh,cA,bj,cB,bm,cC,bT,bp,bc,bM,dQ,cD,cF,cJ,dU,ho]at aX;split at aX
 ·rename_i e n n' hu hx hy;split at aX
  ·rename_i s b z hs hb hz;split at aX
   ·rename_i hc;obtain⟨rfl,h0,vK,wB⟩:=hc;simp at aX;obtain⟨rfl,rfl⟩:=aX;obtain⟨zv,Il,UN,_,_⟩:=oV hE hz w;obtain⟨i,hi,hib⟩:=hE.byt e b hb;obtain⟨i',Eb,UO⟩:=hE.siz e _ hs;rw[hi]at Eb;cases Eb;have CM:=jN ι UN;have KZ:=nP (len:=n.toNat) CM wB;obtain⟨OB,zo⟩:=oB KZ;have pJ:=(bV hR hx).il;have hy':=(bV hR hy).il;have Zo:n.toNat<=roomy:=bk (Nat.le_mul_of_pos_right _ om) vK;have hr:roomy=1073741824:=rfl;have hw:IntKind.i64.wrap n=n:=by
     have h1:n=(n.toNat:Int):=om;rw[IntKind.wrap_i64];omega
    have XC:(i.bytes:Int)*n<=1073741824:=by
     have h1:i.bytes*n.toNat<=(b+1)*n.toNat:=iV _ hib;rw[Nat.mul_comm (b+1)]at h1;have h2:i.bytes*n.toNat<=1073741824:=om;have h3:(n.toNat:Int)=n:=om;have h4:((i.bytes*n.toNat:Nat):Int)<=((1073741824:Nat):Int):=Int.ofNat_le.2 h2;rw[Int.natCast_mul,h3]at h4;exact h4
    have ng:((Array.range (n.toNat*(s+1))).map (fun i=>zv.cells[i%zv.cells.size]!)).size=n.toNat*(s+1):=sp;refine .cells (w0:=w) (e:=e) (y:= .slice (some ⟨w.heap.size,0,none⟩) n.toNat n.toNat) (c:=(Array.range (n.toNat*(s+1))).map (fun i=>zv.cells[i%zv.cells.size]!)) rfl rfl rfl rfl ?_ OB zo ?_
    ·have Kl:¬(n<0):=om;have zp:¬(281474976710656<(i.bytes:Int)*n):=om;simp only[execOp,ho,pJ,hy',Instr.makeSlice,Sem.run_bind,cG hE hu,Result.andThen_ok,asInt,asIntOf,Sem.run_pure,typeInfo,run_program,hi,hw];by_cases B5:n.toNat*(s+1)=0
     ·have hn:n.toNat=0:=by
       rcases Nat.mul_eq_zero.1 B5 with h|h<;>omega
      have e2:∀f:Nat->Value,Array.map f (Array.range 0)= #[]:=fun f=>by apply jf;simp[zk]
      simp[Kl,zp,sizeOf,typeInfo,hi,hn,newRow,e2]
     ·simp[Kl,zp,sizeOf,typeInfo,hi,UO,B5,Il,newRow]
    ·exact yM rfl (ao _) (fun _ _=>sp)
   ·simp at aX
  ·simp at aX
 ·simp at aX
theorem Ls(hE:E.Ok)(hR:cK ι rg a.tmps){s d:TypeId}{x:Operand}(ho:o.op= .convert s d x)(hc0:fK E o= .alloc)(aX:eF E rg h o=some (r,h')):
 mO ι h w r h' ((execOp a.eval o).run E.P w):=by
 simp only[eF,dK,dM,cx,fY,cy,ba,dN,cz,bG,cu,dO,bL,aT,bH,bN,bh,cA,bj,cB,bm,cC,bT,bp,bc,bM,dQ,cD,cF,cJ,dU,ho]at aX;split at aX
 ·rename_i sd k q n hs hd hx;simp[fK,ho,hd]at hc0
 ·rename_i l hs hd hx;simp[fK,ho,hd]at hc0
 ·rename_i e l hs hd hx;split at aX
  ·rename_i he;split at aX
   ·simp at aX
   ·simp at aX;obtain⟨rfl,rfl⟩:=aX;have pJ:=(bV hR hx).nO;have ng:({data:=l.toArray}:ByteArray).size=l.length:=(by simp[ByteArray.size]);obtain⟨cap,jv,Qx⟩:∃cap,l.length<=cap/\(choose (.appendCap ({data:=l.toArray}:ByteArray).size 0 e)).run E.P w= .ok cap w.drew:=
     ⟨grownCap w ({data:=l.toArray}:ByteArray).size 0 e,by have:=grownCap_ge w ({data:=l.toArray}:ByteArray).size 0 e;omega,by simp[Question.forced,grownCap]⟩
    obtain⟨c,hc⟩:∃c:Array Value,c=(l.toArray.map fun b=>Value.int .u8 b.toNat)++Array.replicate (cap-l.length) (.int .u8 0):=⟨_,rfl⟩
    have zn:c.size=cap:=(by rw[hc];simp;omega);have CK:(w.drew.alloc (.cells c e)).heap[w.heap.size]?=some (.cells c e):=heap_alloc_new w.drew _;have XB:(w.drew.alloc (.cells c e)).shape? w.heap.size=some (e,c.size):=(by simp only[World.shape?,CK]);have mI:(execOp a.eval o).run E.P w= .ok (.value (.slice (some ⟨w.heap.size,0,none⟩) l.length cap)) ((w.drew.alloc (.cells c e)).freeze ⟨w.heap.size,c.size,none⟩ 1):=by
     have aey:({w.drew with heap:=w.drew.heap.push (.cells c e)}:World).shape? w.heap.size=some (e,c.size):=XB;have hm:(markStringish ⟨w.heap.size,0,none⟩).run E.P (w.drew.alloc (.cells c e))= .ok () ((w.drew.alloc (.cells c e)).freeze ⟨w.heap.size,c.size,none⟩ 1):=by
      simp only[markStringish,Sem.run_bind,run_shape,XB,Result.andThen_ok,run_freeze]
     have hn:(newRow e c).run E.P w.drew= .ok ⟨w.heap.size,0,none⟩ (w.drew.alloc (.cells c e)):=rfl;have uG:(Conv.stringToBytes e ⟨l.toArray⟩).run E.P w= .ok (.slice (some ⟨w.heap.size,0,none⟩) l.length cap) ((w.drew.alloc (.cells c e)).freeze ⟨w.heap.size,c.size,none⟩ 1):=by
      simp only[Conv.stringToBytes,Sem.run_bind,Qx,Result.andThen_ok];rw[ng,<-hc];simp only[hn,Result.andThen_ok,hm,Sem.run_pure]
     simp[execOp,ho,pJ,convert,cG hE hs,cG hE hd,cG hE he,uG]
    have yG:((w.drew.alloc (.cells c e)).freeze ⟨w.heap.size,c.size,none⟩ 1).heap[w.heap.size]?=some (.cells c e (c.size,c.size+1)):=by
     simp only[World.freeze];rw[az om];simp only[iI];rw[aW trivial,CK];rfl
    have hold:∀b,b<w.heap.size->((w.drew.alloc (.cells c e)).freeze ⟨w.heap.size,c.size,none⟩ 1).heap[b]?=w.heap[b]?:=by
     intro b hb;have:w.heap.size≠b:=om;simp[World.freeze,iI,this];exact heap_alloc_old w.drew _ b hb
    refine⟨_,_,_,_,⟨w.heap.size,0,c.size,1,false⟩,rfl,rfl,rfl,mI,by simp only[World.freeze];rw[az om];simp only[Array.size_modify];exact Nat.le_of_lt (bP.1 CK).1,hold,by rfl,by rfl,by rfl,ao _,
     fun n hn=>⟨⟨rfl,rfl,by simp[zn,jv],c,e,_,yG,sp,?_⟩,yM rfl jv sp _ n (cS.add_same _ _ _)⟩⟩
    intro i x hx;simp at hx;obtain⟨b,hb,rfl⟩:=hx;have hi:i<l.length:=(aU.1 hb).1;refine⟨.int .u8 b.toNat,?_,.int _ _⟩;obtain⟨_,rfl⟩:=aU.1 hb;rw[hc];simp[hi,Array.getElem?_append]
  ·simp at aX
 ·simp at aX
theorem ZJ(hE:E.Ok)(hR:cK ι rg a.tmps)(hc:fK E o= .alloc)(aX:eF E rg h o=some (r,h')):mO ι h w r h' ((execOp a.eval o).run E.P w):=by
 cases ho:o.op with
 |alloc e=>exact Q0 hE ho aX
 |box e x=>exact ZI hE hR ho aX
 |buildSlice t n ps=>exact EC hE hR ho aX
 |makeMap t x=>exact Lr ho aX
 |makeSlice t l c=>exact GB hE hR ho aX
 |convert s d x=>exact Ls hE hR ho hc aX
 |call c=>
  simp only[fK,ho]at hc;split at hc<;>simp at hc
 |_=>simp[fK,ho]at hc
theorem ED(hE:E.Ok)(hR:cK ι rg a.tmps)(hH:dV ι h w){s d:TypeId}{x:Operand}(ho:o.op= .convert s d x)(hc:fK E o≠ .alloc)(aX:eF E rg h o=some (r,h')):
 jn ι h w r h' ((execOp a.eval o).run E.P w):=by
 simp only[eF,dK,dM,cx,fY,cy,ba,dN,cz,bG,cu,dO,bL,aT,bH,bN,bh,cA,bj,cB,bm,cC,bT,bp,bc,bM,dQ,cD,cF,cJ,dU,ho]at aX;split at aX
 ·rename_i sd k q n hs hd hx;split at aX
  ·rename_i v hv;simp at aX;obtain⟨rfl,rfl⟩:=aX;obtain⟨y,hy,hr⟩:=sJ hv ι E.P w;refine .pure hH (y:=y) ?_ hr;have pJ:=(bV hR hx).il;simp[execOp,ho,pJ,convert,cG hE hs,cG hE hd,hy]
  ·simp at aX
 ·rename_i l hs hd hx;simp at aX;obtain⟨rfl,rfl⟩:=aX;have pJ:=(bV hR hx).nO;refine .pure hH (y:=a.eval x) ?_ (bV hR hx);simp[execOp,ho,pJ,convert,cG hE hs,cG hE hd]
 ·rename_i e l hs hd hx;simp[fK,ho,hd]at hc
 ·simp at aX
theorem Lu(hE:E.Ok)(hR:cK ι rg a.tmps)(hH:dV ι h w){c:Call}(ho:o.op= .call c)(hc:fK E o= .pure\/fK E o= .read)(aX:eF E rg h o=some (r,h')):
 jn ι h w r h' ((execOp a.eval o).run E.P w):=by
 cases oQ:c.callee with
 |value f=>simp[fK,ho,oQ]at hc
 |invoke x m=>simp[fK,ho,oQ]at hc
 |builtin b=>
  simp only[eF,dK,dM,cx,fY,cy,ba,dN,cz,bG,cu,dO,bL,aT,bH,bN,bh,cA,bj,cB,bm,cC,bT,bp,bc,bM,dQ,cD,cF,cJ,dU,ho,oQ]at aX;cases iy:oP rg c.args.toList with
  |none=>simp[iy]at aX
  |some args=>
   simp only[iy]at aX;cases b<;>first|(simp[fK,ho,oQ]at hc;done)|skip
   case len=>
    match args,aX,iy with
    |[],aX,_=>simp at aX
    |_::_::_,aX,_=>simp at aX
    |[x],aX,iy=>
     simp only at aX;obtain⟨u,hu,hx⟩:=Iw hR iy;split at aX
     ·rename_i t ht;split at aX
      ·rename_i v hv;simp at aX;obtain⟨rfl,rfl⟩:=aX;obtain⟨y,hy,hr⟩:=E6 hE hH (ty:=o.type) hx ht hv;exact .pure hH (by rw[jQ ho oQ _ fun _=>by rw[hu];rfl,hy];rfl) hr
      ·simp at aX
     ·simp at aX
   case max=>
    split at aX
    all_goals first|contradiction|(simp at aX;done)|skip
    obtain⟨u,v,QH,hs,hx⟩:=uK hR iy;simp at aX;obtain⟨rfl,rfl⟩:=aX;have h1:=hs.il;have h2:=hx.il;subst h1 h2;exact .pure hH (by rw[jQ ho oQ _ fun _=>by rw[QH];rfl];simp[Builtin.max_,Builtin.max2]) (.int _ _)
   case min=>
    split at aX
    all_goals first|contradiction|(simp at aX;done)|skip
    obtain⟨u,v,QH,hs,hx⟩:=uK hR iy;simp at aX;obtain⟨rfl,rfl⟩:=aX;have h1:=hs.il;have h2:=hx.il;subst h1 h2;exact .pure hH (by rw[jQ ho oQ _ fun _=>by rw[QH];rfl];simp[Builtin.min_,Builtin.min2]) (.int _ _)
theorem OK(hE:E.Ok)(hR:cK ι rg a.tmps)(hH:dV ι h w)(hc:fK E o= .pure\/fK E o= .read)(aX:eF E rg h o=some (r,h')):
 jn ι h w r h' ((execOp a.eval o).run E.P w):=by
 cases ho:o.op with
 |move x=>exact Cp hR hH (.inl ho) aX
 |assign x=>exact Cp hR hH (.inr ho) aX
 |pick c x y=>exact MZ hR hH ho aX
 |build t ps=>exact Ix hE hR hH ho aX
 |load t x=>exact M0 hE hR hH ho aX
 |nilCheck x=>exact BA hR hH ho aX
 |binOp op t x y u=>exact Iy hE hR hH ho aX
 |unOp op t x=>exact MP hR hH ho aX
 |convert s d x=>exact ED hE hR hH ho (by rcases hc with h|h<;>rw[h]<;>simp) aX
 |makeInterface t x=>exact uE hE hR hH ho aX
 |makeFunc f x c=>exact Bt hR hH ho aX
 |slice t x l u m=>exact Im hE hR hH ho aX
 |fieldAddr s x f=>exact zC hE hR hH ho aX
 |field s x f=>exact Ip hE hR hH ho aX
 |indexAddr t x i=>exact zD hE hR hH ho aX
 |index t x i=>exact Iq hE hR hH ho aX
 |lookup t x i ok=>exact E5 hE hR hH ho aX
 |typeAssert x t u ok=>exact yl hE hR hH ho aX
 |extract t i=>exact CO hR hH ho aX
 |call c=>exact Lu hE hR hH ho hc aX
 |_=>simp[fK,ho]at hc
end
section
variable [iY]
variable{E:Env}
theorem zN(acc:List Nat)(m:Nat):∀(es:List Edge)(s:Nat),(es.foldl (fun s e=>if Region.binds .any e then s|||2^e.on|||acc.getD e.on 0 else s) s).testBit m=true->
 s.testBit m=true\/∃e∈es,Region.binds .any e=true/\(e.on=m\/(acc.getD e.on 0).testBit m=true)
 |[],s,h=> .inl h
 |e::es,s,h=>by
  simp only[j5]at h;rcases zN acc m es _ h with h1|⟨e',XL,hb,h2⟩
  ·split at h1
   ·rename_i hb;simp only[Nat.testBit_or,oS,x8,decide_eq_true_eq]at h1;rcases h1 with(h1|h1)|h1
    ·exact .inl h1
    ·exact .inr ⟨e,sp,hb,.inl h1⟩
    ·exact .inr ⟨e,sp,hb,.inr h1⟩
   ·exact .inl h1
  ·exact .inr ⟨e',by simp[XL],hb,h2⟩
theorem Lv{acc:List Nat}{o:Oper}{m:Nat}(h:(AN acc o).testBit m=true):∃e∈o.after.toList,Region.binds .any e=true/\(e.on=m\/(acc.getD e.on 0).testBit m=true):=by
 rcases zN acc m _ _ h with h1|h1
 ·simp at h1
 ·exact h1
theorem vf(o:Oper)(r:List Oper)(acc:List Nat):uN (o::r) acc=uN r (acc++[AN acc o]):=by
 simp only[uN];split<;>rename_i h<;>rw[h]
theorem vg:∀(l:List Oper)(acc:List Nat)(i:Nat),i<acc.length->(uN l acc)[i]?=acc[i]?
 |[],acc,i,_=>rfl
 |o::r,acc,i,hi=>by
  rw[vf,vg r _ i (by simp;omega),iz hi]
theorem Fb:∀(l:List Oper)(acc:List Nat)(i:Nat)(o:Oper),l[i]?=some o->∃Cc,(∀j,j<acc.length+i->Cc[j]?=(uN l acc)[j]?)/\Cc.length=acc.length+i/\(uN l acc)[acc.length+i]?=some (AN Cc o)
 |[],acc,i,o,h=>by simp at h
 |o::r,acc,0,o',h=>by
  simp at h;subst h;refine⟨acc,fun j hj=>?_,sp,?_⟩
  ·rw[vg _ _ _ om]
  ·rw[vf,vg _ _ _ sp];simp
 |o::r,acc,i+1,o',h=>by
  obtain⟨Cc,h1,h2,h3⟩:=Fb r (acc++[AN acc o]) i o' (by simpa using h);rw[vf];simp at h1 h2 h3;refine⟨Cc,fun j hj=>h1 j om,om,?_⟩;rw[<-h3];congr 1;omega
def Down(ops:Array Oper)(S:Nat->Prop):Prop:=∀(i:Nat)(o:Oper),ops[i]?=some o->S i->∀e∈o.after.toList,Region.binds .any e=true->S e.on
def oW(ops:Array Oper)(S:Nat->Prop)(i:Nat):Prop:=∀(o:Oper),ops[i]?=some o->∀e∈o.after.toList,Region.binds .any e=true->S e.on
theorem OM{ops:Array Oper}{i:Nat}{o:Oper}(ho:ops[i]?=some o):∃Cc,(∀j,j<i->Cc.getD j 0=gK ops j)/\Cc.length=i/\gK ops i=AN Cc o:=by
 obtain⟨Cc,h1,h2,h3⟩:=Fb ops.toList [] i o (by simpa using ho);simp at h1 h2 h3;refine⟨Cc,fun j hj=>?_,h2,?_⟩
 ·simp only[gK,qB];rw[h1 j hj]
 ·simp only[gK,qB];rw[h3];rfl
theorem wO{ops:Array Oper}(gJ:gL ops=true){i:Nat}{o:Oper}(ho:ops[i]?=some o){e:Edge}(he:e∈o.after.toList)(hb:Region.binds .any e=true):e.on<i:=by
 unfold gL at gJ;have:=(dw.1 gJ) (o,i) (by rw[j6];simpa using ho)
 simp only[eM]at this;have:=(dw.1 this.1) e he;simpa[hb]using this
theorem zO{ops:Array Oper}(gJ:gL ops=true){i j:Nat}{o o':Oper}(ho:ops[i]?=some o)(vL:ops[j]?=some o')(Iv:j<i):Oper.apart ops o' o=true\/(gK ops i).testBit j=true:=by
 unfold gL at gJ;have:=(dw.1 gJ) (o,i) (by rw[j6];simpa using ho)
 simp only[eM]at this;have:=(dw.1 this.2) (o',j) (by
  rw[j6];simp only[gO,Iv,lM];simpa using vL)
 simpa using this
theorem Q1{ops:Array Oper}(gJ:gL ops=true){S:Nat->Prop}(hS:Down ops S):∀(i:Nat){m:Nat},oW ops S i->(gK ops i).testBit m=true->S m:=by
 intro i;induction i using Nat.strongRecOn with
 |_ i ih=>
  intro m hE hb;cases ho:ops[i]? with
  |none=>
   have:gK ops i=0:=by
    have hlen:(uN ops.toList []).length=ops.size:=by
     have gen:∀(l:List Oper)(acc:List Nat),(uN l acc).length=acc.length+l.length:=by
      intro l;induction l with
      |nil=>intro acc;simp[uN]
      |cons o r ih=>intro acc;rw[vf,ih];simp;omega
     rw[gen];simp
    have:ops.size<=i:=(by simpa using ho);simp only[gK,qB];rw[fu om];rfl
   rw[this]at hb;simp at hb
  |some o=>
   obtain⟨Cc,h1,h2,h3⟩:=OM ho;rw[h3]at hb;obtain⟨e,he,hbd,h4⟩:=Lv hb;have cX:=wO gJ ho he hbd;have hSe:=hE o ho e he hbd;rcases h4 with rfl|h4
   ·exact hSe
   ·rw[h1 _ cX]at h4;exact ih e.on cX (fun o' vL e' XL ub=>hS e.on o' vL hSe e' XL ub) h4
theorem ZK{ops:Array Oper}(gJ:gL ops=true){S:Nat->Prop}(hS:Down ops S){i m:Nat}(hi:S i)(hb:(gK ops i).testBit m=true):S m:=
 Q1 gJ hS i (fun o ho e he hbd=>hS i o ho hi e he hbd) hb
inductive DK where
 |skip
 |pure (v:AV)
 |read (v:AV)
 |alloc (v:AV) (obj:ej)
 |pK
def Stp(E:Env)(call:dR)(round:cO)(ops:Array Oper)(base:Nat)(o:Oper)(i:Nat)(st:St)(k:DK)(cg:St):Prop:=
 match k with
 | .skip=>cf ops st.n st.rg o=some false/\cg={st with rg:=eH st.rg o.dst mc}
 | .pure v=>cf ops st.n st.rg o=some true/\fK E o= .pure/\(∀h,eF E st.rg h o=some (.val v,h))/\cg={st with rg:=eH st.rg o.dst v}
 | .read v=>cf ops st.n st.rg o=some true/\fK E o= .read/\(∀h,st.h.le h->eF E st.rg h o=some (.val v,h))/\cg={st with rg:=eH st.rg o.dst v}
 | .alloc v obj=>cf ops st.n st.rg o=some true/\fK E o= .alloc/\(∃v0 h2,eF E st.rg st.h o=some (.val v0,h2)/\h2.get st.h.next=some obj/\wg (base+i) v0=some v)/\
  st.h.get (base+i)=none/\cg={st with rg:=eH st.rg o.dst v,h:=st.h.set (base+i) obj}
 | .pK=>cf ops st.n st.rg o=some true/\∃r,eF E st.rg st.h o=some r/\nV call round o.dst st r=some (none,cg)
def Cs(E:Env)(ops:Array Oper)(h:ah)(rg:T AV)(i:Nat)(v:AV):Prop:=∀o,ops[i]?=some o->∀h',h.le h'->eF E rg h' o=some (.val v,h')
structure Trace(E:Env)(call:dR)(round:cO)(ops:Array Oper)(base:Nat)(σ:Nat->St)(κ:Nat->DK)(lo hi:Nat):Prop where
 Zx:∀i,lo<=i->i<hi->∃o,ops[i]?=some o/\Stp E call round ops base o i (σ i) (κ i) (σ (i+1))
 rb:∀e i v,lo<=e->e<i->i<hi->κ e= .pK->κ i= .read v->(gK ops i).testBit e=true\/Cs E ops (σ e).h (σ i).rg i v
 ra:∀i e v,lo<=i->i<e->e<hi->κ i= .read v->κ e= .pK->(gK ops e).testBit i=true\/Cs E ops (σ (e+1)).h (σ i).rg i v
 ee:∀e f,lo<=e->e<f->f<hi->κ e= .pK->κ f= .pK->(gK ops f).testBit e=true
structure GC(E:Env)(ops:Array Oper)(σ:Nat->St)(κ:Nat->DK)(sn:List jB)(rd:List Rd)(lo hi:Nat):Prop where
 sr:∀s∈sn,∀i v,lo<=i->i<hi->κ i= .read v->(gK ops i).testBit s.idx=true\/Cs E ops s.h (σ i).rg i v
 se:∀s∈sn,∀i,lo<=i->i<hi->κ i= .pK->(gK ops i).testBit s.idx=true
 re:∀r∈rd,∀i,lo<=i->i<hi->κ i= .pK->(gK ops i).testBit r.idx=true\/∀h',(σ (i+1)).h.le h'->eF E r.rg h' r.o=some (.val r.v,h')
def AL(E:Env)(call:dR)(round:cO)(ops:Array Oper)(σ:Nat->St)(κ:Nat->DK)(sn:List jB)(lo m:Nat)(x:bt)(cg:St):Prop:=
 (x= .jL/\m=ops.size/\cg=σ m)\/
 (∃v o r yn,x= .iS v/\ops[m]?=some o/\cf ops (σ m).n (σ m).rg o=some true/\eF E (σ m).rg (σ m).h o=some r/\nV call round o.dst (σ m) r=some (some v,yn)/\
  cg={yn with rg:=ops.foldl (fun r o=>match o.dst with|some d=>r.del d|none=>r) (σ m).rg}/\(∀s∈sn,(gK ops m).testBit s.idx=true)/\(∀e,lo<=e->e<m->κ e= .pK->(gK ops m).testBit e=true)/\
  (∀j,m<j->j<ops.size->(gK ops j).testBit m=true))
theorem yq{h:ah}{rg:T AV}{o:Oper}{v:AV}(hc:fK E o= .read)(hs:gD E h rg o v=true):∀h',h.le h'->eF E rg h' o=some (.val v,h'):=by
 unfold gD at hs;split at hs
 ·rename_i v' h2 aX;have:=(AV.beq_iff _ _).1 hs;subst this;exact fun h' hle=>(II hc aX hle).1
 ·simp at hs
end
section
variable [iY]
variable{E:Env}
theorem yN{call:dR}{round:cO}{ops:Array Oper}{base k m:Nat}{o:Oper}{st rL:St}{K:DK}{U4:Nat->St}{XU:Nat->DK}{sn sn1:List jB}{rd rd1:List Rd}{x:bt}{cg:St}
 (hm:k+1<=m) (XV:U4 (k+1)=rL) (hT:Trace E call round ops base U4 XU (k+1) m) (hB:GC E ops U4 XU sn1 rd1 (k+1) m) (yb:AL E call round ops U4 XU sn1 (k+1) m x cg)
 (ho:ops[k]?=some o) (aeK:Stp E call round ops base o k st K rL) (hsn:∀s∈sn,s∈sn1) (Le:∀r∈rd,r∈rd1)
 (ZL:K= .pK->(⟨k,st.h⟩:jB)∈sn1) (ac4:∀v,K= .read v->(⟨k,o,st.rg,v⟩:Rd)∈rd1)
 (aeL:∀v,K= .read v->∀s∈sn,(gK ops k).testBit s.idx=true\/Cs E ops s.h st.rg k v) (aeM:K= .pK->∀s∈sn,(gK ops k).testBit s.idx=true)
 (ZM:K= .pK->∀r∈rd,(gK ops k).testBit r.idx=true\/∀h',rL.h.le h'->eF E r.rg h' r.o=some (.val r.v,h')):
 ∃σ κ m,σ k=st/\k<=m/\Trace E call round ops base σ κ k m/\GC E ops σ κ sn rd k m/\AL E call round ops σ κ sn k m x cg:=by
 let σ:Nat->St:=fun i=>if i<=k then st else U4 i
 let κ:Nat->DK:=fun i=>if i=k then K else XU i
 have s0:σ k=st:=by simp[σ]
 have s1:∀i,k<i->σ i=U4 i:=fun i hi=>by simp only[σ];rw[az om]
 have k0:κ k=K:=by simp[κ]
 have k1:∀i,k<i->κ i=XU i:=fun i hi=>by simp only[κ];rw[az om]
 refine⟨σ,κ,m,s0,om,⟨?_,?_,?_,?_⟩,⟨?_,?_,?_⟩,?_⟩
 ·intro i h1 h2;rcases ct h1 with rfl|h1
  ·exact⟨o,ho,by rw[s0,k0,s1 _ om,XV];exact aeK⟩
  ·rw[s1 i h1,k1 i h1,s1 (i+1) om];exact hT.Zx i h1 h2
 ·intro e i v h1 h2 h3 h4 h5;rw[s1 i om];rw[k1 i om]at h5;rcases ct h1 with rfl|h1
  ·rw[k0]at h4;rw[s0];exact hB.sr _ (ZL h4) i v h2 h3 h5
  ·rw[k1 e h1]at h4;rw[s1 e h1];exact hT.rb e i v h1 h2 h3 h4 h5
 ·intro i e v h1 h2 h3 h4 h5;rw[s1 (e+1) om];rw[k1 e om]at h5;rcases ct h1 with rfl|h1
  ·rw[k0]at h4;rw[s0];rcases hB.re _ (ac4 v h4) e h2 h3 h5 with h|h
   ·exact .inl h
   ·refine .inr fun o' vL h' hle=>?_;rw[ho]at vL;cases vL;exact h h' hle
  ·rw[k1 i h1]at h4;rw[s1 i h1];exact hT.ra i e v h1 h2 h3 h4 h5
 ·intro e f h1 h2 h3 h4 h5;rw[k1 f om]at h5;rcases ct h1 with rfl|h1
  ·rw[k0]at h4;exact hB.se _ (ZL h4) f h2 h3 h5
  ·rw[k1 e h1]at h4;exact hT.ee e f h1 h2 h3 h4 h5
 ·intro s hs i v h1 h2 h3;rcases ct h1 with rfl|h1
  ·rw[k0]at h3;rw[s0];exact aeL v h3 s hs
  ·rw[k1 i h1]at h3;rw[s1 i h1];exact hB.sr s (hsn s hs) i v h1 h2 h3
 ·intro s hs i h1 h2 h3;rcases ct h1 with rfl|h1
  ·rw[k0]at h3;exact aeM h3 s hs
  ·rw[k1 i h1]at h3;exact hB.se s (hsn s hs) i h1 h2 h3
 ·intro r hr i h1 h2 h3;rcases ct h1 with rfl|h1
  ·rw[k0]at h3;rw[s1 _ om,XV];exact ZM h3 r hr
  ·rw[k1 i h1]at h3;rw[s1 _ om];exact hB.re r (Le r hr) i h1 h2 h3
 ·rcases yb with⟨h1,h2,h3⟩|⟨v,o',r,yn,h1,h2,h3,h4,h5,h6,h7,h8,h9⟩
  ·exact .inl ⟨h1,h2,by rw[s1 m om];exact h3⟩
  ·refine .inr ⟨v,o',r,yn,h1,h2,by rw[s1 m om];exact h3,by rw[s1 m om];exact h4,by rw[s1 m om];exact h5,by rw[s1 m om];exact h6,fun s hs=>h7 s (hsn s hs),fun e g1 g2 g3=>?_,h9⟩;rcases ct g1 with rfl|g1
   ·rw[k0]at g3;exact h7 _ (ZL g3)
   ·rw[k1 e g1]at g3;exact h8 e g1 g2 g3
theorem tS{call:dR}{round:cO}{ops:Array Oper}{base:Nat}{x:bt}{cg:St}:∀(l:List (Oper×Nat))(k:Nat)(st:St)(sn:List jB)(rd:List Rd),
 (∀j,l[j]?=(ops[k+j]?).map fun o=>(o,k+j))->k+l.length=ops.size->(∀r∈rd,fK E r.o= .read)->lW E call round ops (gK ops) base l st sn rd=some (x,cg)->
 ∃σ κ m,σ k=st/\k<=m/\Trace E call round ops base σ κ k m/\GC E ops σ κ sn rd k m/\AL E call round ops σ κ sn k m x cg
 |[],k,st,sn,rd,hl,hn,Le,hr=>by
  simp[lW]at hr;obtain⟨rfl,rfl⟩:=hr;refine⟨fun _=>st,fun _=> .pK,k,rfl,ao _,⟨?_,?_,?_,?_⟩,⟨?_,?_,?_⟩,.inl ⟨rfl,by simpa using hn,rfl⟩⟩<;>intros<;>omega
 |(o,i)::l,k,st,sn,rd,hl,hn,Le,hr=>by
  have h0:=hl 0;simp only[ed,qR]at h0;obtain⟨o',ho,he⟩:=Option.map_eq_some_iff.1 h0.symm;simp only[gh]at he;obtain⟨rfl,rfl⟩:=he;have Lh:∀j,l[j]?=(ops[k+1+j]?).map fun o=>(o,k+1+j):=fun j=>by
   have:=hl (j+1);simpa[aI,Nat.add_comm 1 j]using this
  have rM:k+1+l.length=ops.size:=by simp at hn;omega
  have quiet:∀{rL:St}{K:DK},Stp E call round ops base o' k st K rL->K≠ .pK->(∀v,K≠ .read v)->lW E call round ops (gK ops) base l rL sn rd=some (x,cg)->
   ∃σ κ m,σ k=st/\k<=m/\Trace E call round ops base σ κ k m/\GC E ops σ κ sn rd k m/\AL E call round ops σ κ sn k m x cg:=by
   intro rL K hs h1 h2 hr;obtain⟨U4,XU,m,XV,hm,hT,hB,yb⟩:=tS l (k+1) rL sn rd Lh rM Le hr;exact yN hm XV hT hB yb ho hs (fun s h=>h) (fun r h=>h) (fun h=>absurd h h1) (fun v h=>absurd h (h2 v)) (fun v h=>absurd h (h2 v)) (fun h=>absurd h h1) (fun h=>absurd h h1)
  simp only[lW]at hr;split at hr
  ·simp at hr
  ·rename_i hw;exact quiet (K:= .skip) ⟨hw,rfl⟩ sp sp hr
  ·rename_i hw;split at hr
   ·simp at hr
   ·rename_i v h2 hc aX;exact quiet (K:= .pure v) ⟨hw,hc,fun h=>QY hc aX h,rfl⟩ sp sp hr
   ·rename_i v h2 hc aX;split at hr
    ·rename_i Gg;obtain⟨U4,XU,m,XV,hm,hT,hB,yb⟩:=tS l (k+1) _ sn _ Lh rM (fun r hr=>by
      rcases aq.1 hr with rfl|hr
      ·exact hc
      ·exact Le r hr) hr
     refine yN (K:= .read v) hm XV hT hB yb ho ⟨hw,hc,fun h hle=>(II hc aX hle).1,rfl⟩ (fun s h=>h) (fun r h=>by simp[h]) (fun h=>by cases h) (fun v' h=>by cases h;simp) (fun v' h s hs=>?_) (fun h=>by cases h) (fun h=>by cases h);cases h;have:=(dw.1 Gg) s hs;simp only[oS]at this;rcases this with h|h
     ·exact .inl h
     ·refine .inr fun o'' ac5=>?_;rw[ho]at ac5;cases ac5;exact yq hc h
    ·simp at hr
   ·rename_i v h2 hc aX;split at hr
    ·rename_i obj v' Q3 C0 ZN;exact quiet (K:= .alloc v' obj) ⟨hw,hc,⟨v,h2,aX,Q3,ZN⟩,C0,rfl⟩ sp sp hr
    ·simp at hr
   ·rename_i r hc aX;split at hr
    ·rename_i Gg;split at hr
     ·simp at hr
     ·rename_i rL jA;split at hr
      ·rename_i ZM;obtain⟨U4,XU,m,XV,hm,hT,hB,yb⟩:=tS l (k+1) _ _ rd Lh rM Le hr;refine yN (K:= .pK) hm XV hT hB yb ho ⟨hw,r,aX,jA⟩ (fun s h=>by simp[h]) (fun r h=>h) (fun _=>sp) (fun v h=>by cases h) (fun v h=>by cases h) (fun _ s hs=>(dw.1 Gg) s hs) (fun _ q hq=>?_);have:=(dw.1 ZM) q hq;simp only[oS]at this;rcases this with h|h
       ·exact .inl h
       ·right;have hcq:fK E q.o= .read:=Le q hq;exact yq hcq h
      ·simp at hr
     ·rename_i v rL jA;split at hr
      ·rename_i tU;simp at hr;obtain⟨rfl,rfl⟩:=hr;refine⟨fun _=>st,fun _=> .skip,k,rfl,ao _,⟨?_,?_,?_,?_⟩,⟨?_,?_,?_⟩,.inr ⟨v,o',r,rL,rfl,ho,hw,aX,jA,rfl,fun s hs=>(dw.1 Gg) s hs,?_,?_⟩⟩<;>try (intros;omega)
       intro j h1 h2;obtain⟨o2,B9⟩:∃o2,ops[j]?=some o2:=⟨ops[j],by simp[h2]⟩
       have AP:(o2,j)∈l:=by
        have:=Lh (j-(k+1));have e:k+1+(j-(k+1))=j:=om;rw[e,B9]at this;exact bg this
       exact(dw.1 tU) _ AP
      ·simp at hr
    ·simp at hr
   ·simp at hr
end
section
variable [iY]
variable{E:Env}
def iQ(ι:cS)(base n c:Nat):cS:=fun i=>if base+c<=i/\i<base+n then none else ι i
theorem vi{ι:cS}{base n c c':Nat}(h:c<=c'):(iQ ι base n c).le (iQ ι base n c'):=fun i L hi=>by
 unfold iQ at hi⊢;split at hi
 ·cases hi
 ·rename_i hc;rw[az om];exact hi
theorem OG(ι:cS)(base n:Nat):iQ ι base n n=ι:=by
 funext i;unfold iQ;rw[az om]
theorem lO{ι:cS}{base n c:Nat}:(iQ ι base n c).le ι:=fun i L hi=>by
 unfold iQ at hi;split at hi
 ·cases hi
 ·exact hi
theorem dV.uM{XW Nk:cS}{H G:ah}{w:World}(hH:dV XW H w)(R:Nat->Prop)(hle:∀i,¬R i->Nk i=XW i)(hR0:∀i,R i->XW i=none/\i<H.next)(hG:∀i,¬R i->G.get i=H.get i)(wa:G.next=H.next)
 (hR:∀i L,R i->Nk i=some L->∃obj,G.get i=some obj/\obj.gone=false/\wJ Nk obj L w/\L.b<w.heap.size/\∀k L',k≠i->Nk k=some L'->L'.b≠L.b) (hB:∀i L,R i->Nk i=some L->iY.w.heap.size<=L.b):dV Nk G w:=by
 classical
 have le:XW.le Nk:=fun i L hi=>by
  by_cases h:R i
  ·rw[(hR0 i h).1]at hi;cases hi
  ·rw[hle i h];exact hi
 refine⟨?_,?_,?_,?_,?_,⟨hH.base.size,hH.base.old,hH.base.os,fun i L o hi ho Bx=>by
  by_cases h:R i
  ·exact hB i L h hi
  ·rw[hle i h]at hi;rw[hG i h]at ho;exact hH.base.own i L o hi ho Bx⟩⟩
 ·intro i L hi;by_cases h:R i
  ·obtain⟨obj,h1,h2,h3,_⟩:=hR i L h hi;exact⟨obj,h1,h3⟩
  ·rw[hle i h]at hi;obtain⟨o,h1,h2⟩:=hH.obj i L hi;exact⟨o,by rw[hG i h];exact h1,h2.mono le⟩
 ·intro i j Li Lj oi oj Iv hi hj Lf AJ Bx Kn;by_cases h:R i
  ·obtain⟨obj,_,_,_,_,hD⟩:=hR i Li h hi;exact fun e=>hD j Lj (fun e=>Iv e.symm) hj e.symm
  ·by_cases h':R j
   ·obtain⟨obj,_,_,_,_,hD⟩:=hR j Lj h' hj;exact hD i Li Iv hi
   ·rw[hle i h]at hi;rw[hle j h']at hj;rw[hG i h]at Lf;rw[hG j h']at AJ;exact hH.MV i j Li Lj oi oj Iv hi hj Lf AJ Bx Kn
 ·intro i L hi;by_cases h:R i
  ·rw[wa];exact(hR0 i h).2
  ·rw[hle i h]at hi;rw[wa];exact hH.lt i L hi
 ·intro i hi;rw[wa]at hi;have:¬R i:=fun h=>by have:=(hR0 i h).2;omega
  rw[hG i this];exact hH.fresh i hi
 ·intro i L hi;by_cases h:R i
  ·obtain⟨obj,_,_,_,hb,_⟩:=hR i L h hi;exact hb
  ·rw[hle i h]at hi;exact hH.MU i L hi
theorem Ext.uM{iZ XW Nk:cS}{kO H G:ah}{kP w:World}(hE:Ext iZ kO kP XW H w)(R:Nat->Prop)(hle:∀i,¬R i->Nk i=XW i)(hR0:∀i,R i->XW i=none/\i<H.next)(hG:∀i,¬R i->G.get i=H.get i)(wa:G.next=H.next)
 (hR:∀i L,R i->Nk i=some L->∃obj,G.get i=some obj/\obj.gone=false/\wJ Nk obj L w/\L.b<w.heap.size/\∀k L',k≠i->Nk k=some L'->L'.b≠L.b)
 (zI:∀i,R i->kO.next<=i) (CK:∀i L,R i->Nk i=some L->kP.heap.size<=L.b) (yG:iY.w.heap.size<=kP.heap.size):Ext iZ kO kP Nk G w:=by
 classical
 refine⟨hE.rel.uM R hle hR0 hG wa hR (fun i L hi hL=>bk yG (CK i L hi hL)),fun i hi=>?_,fun i hi hn=>?_,by rw[wa];exact hE.next,hE.size,fun b hb hn=>?_,hE.os,hE.tape,hE.output,fun i L hi=>?_⟩
 ·have:¬R i:=fun h=>by have:=zI i h;omega
  rw[hle i this];exact hE.aJ i hi
 ·have:¬R i:=fun h=>by have:=zI i h;omega
  rw[hG i this];exact hE.same i hi hn
 ·obtain⟨h1,h2⟩:=hE.frame b hb hn;refine⟨h1,?_⟩
  rintro⟨i,L,o,hi,ho,hw,Fc⟩
  by_cases h:R i
  ·have:=CK i L h hi;omega
  ·rw[hle i h]at hi;rw[hG i h]at ho;exact h2 ⟨i,L,o,hi,ho,hw,Fc⟩
 ·by_cases h:R i
  ·exact .inr (.inl (CK i L h hi))
  ·rw[hle i h]at hi;exact hE.new i L hi
theorem dV.xP{κ:cS}{H:ah}{w w':World}(hH:dV κ H w)(hs:w.heap.size<=w'.heap.size)(hold:∀b,b<w.heap.size->w'.heap[b]?=w.heap[b]?)(Es:w'.os=w.os):dV κ H w':=
 ⟨fun i L hi=>let ⟨o,h1,h2⟩:=hH.obj i L hi;⟨o,h1,h2.block (hold _ (hH.MU i L hi))⟩,hH.MV,hH.lt,hH.fresh,fun i L hi=>aw (hH.MU i L hi) hs,
  ⟨bk hH.base.size hs,fun b hb=>(hold b (aw hb hH.base.size)).trans (hH.base.old b hb),Es.trans hH.base.os,hH.base.own⟩⟩
theorem Ext.xP{iZ κ:cS}{kO H:ah}{kP w w':World}(hE:Ext iZ kO kP κ H w)(hs:w.heap.size<=w'.heap.size)(hold:∀b,b<w.heap.size->w'.heap[b]?=w.heap[b]?)(Es:w'.os=w.os)(ht:w'.tape=w.tape)(ho:w'.output=w.output):Ext iZ kO kP κ H w':=
 ⟨hE.rel.xP hs hold Es,hE.aJ,hE.same,hE.next,bk hE.size hs,fun b hb hn=>⟨(hold b (aw hb hE.size)).trans (hE.frame b hb hn).1,(hE.frame b hb hn).2⟩,Es.trans hE.os,ht.trans hE.tape,ho.trans hE.output,hE.new⟩
theorem ON{call:dR}{round:cO}{d:Option Tmp}{st cg:St}{r:dZ×ah}(h:nV call round d st r=some (none,cg)):(∃v,cg.rg=eH st.rg d v)/\cg.n=st.n/\cg.bI=st.bI:=by
 unfold nV at h;split at h
 ·simp at h;subst h;exact⟨⟨_,rfl⟩,rfl,rfl⟩
 ·simp at h;subst h;exact⟨⟨_,rfl⟩,rfl,rfl⟩
 ·split at h
  ·simp at h;subst h;exact⟨⟨_,rfl⟩,rfl,rfl⟩
  ·simp at h
  ·simp at h
 ·split at h
  ·simp at h;subst h;exact⟨⟨_,rfl⟩,rfl,rfl⟩
  ·simp at h
 ·split at h
  ·simp at h
  ·simp at h;subst h;exact⟨⟨_,rfl⟩,rfl,rfl⟩
 ·simp at h
 ·simp at h
theorem IK{call:dR}{round:cO}{ops:Array Oper}{base i:Nat}{o:Oper}{st cg:St}{k:DK}(h:Stp E call round ops base o i st k cg):(∃v,cg.rg=eH st.rg o.dst v)/\cg.n=st.n/\cg.bI=st.bI:=by
 cases k with
 |skip=>obtain⟨_,rfl⟩:=h;exact⟨⟨_,rfl⟩,rfl,rfl⟩
 |pure v=>obtain⟨_,_,_,rfl⟩:=h;exact⟨⟨_,rfl⟩,rfl,rfl⟩
 |read v=>obtain⟨_,_,_,rfl⟩:=h;exact⟨⟨_,rfl⟩,rfl,rfl⟩
 |alloc v obj=>obtain⟨_,_,_,_,rfl⟩:=h;exact⟨⟨_,rfl⟩,rfl,rfl⟩
 |pK=>obtain⟨_,r,_,h⟩:=h;exact ON h
theorem Q4{call:dR}{round:cO}{ops:Array Oper}{base i:Nat}{o:Oper}{st cg:St}{k:DK}(h:Stp E call round ops base o i st k cg)(hk:k≠ .pK):
 cg.ds=st.ds/\cg.h.next=st.h.next/\(∀j,j≠base+i->cg.h.get j=st.h.get j)/\(∀v obj,k= .alloc v obj->cg.h.get (base+i)=some obj/\st.h.get (base+i)=none)/\((∀v obj,k≠ .alloc v obj)->cg.h=st.h):=by
 cases k with
 |skip=>obtain⟨_,rfl⟩:=h;exact⟨rfl,rfl,fun _ _=>rfl,(fun v obj h=>by cases h),fun _=>rfl⟩
 |pure v=>obtain⟨_,_,_,rfl⟩:=h;exact⟨rfl,rfl,fun _ _=>rfl,(fun v obj h=>by cases h),fun _=>rfl⟩
 |read v=>obtain⟨_,_,_,rfl⟩:=h;exact⟨rfl,rfl,fun _ _=>rfl,(fun v obj h=>by cases h),fun _=>rfl⟩
 |alloc v obj=>
  obtain⟨_,_,_,hn,rfl⟩:=h;refine⟨rfl,rfl,fun j hj=>by simp[ah.aM,hj],fun v' Q5 h=>?_,fun h=>absurd rfl (h v obj)⟩;cases h;exact⟨by simp[ah.aM],hn⟩
 |pK=>exact absurd rfl hk
section
variable{call:dR}{round:cO}{ops:Array Oper}{base:Nat}{σ:Nat->St}{κ:Nat->DK}{m:Nat}
theorem Trace.aJ(hT:Trace E call round ops base σ κ 0 m):∀i,i<=m->(σ i).n=(σ 0).n/\(σ i).bI=(σ 0).bI
 |0,_=>⟨rfl,rfl⟩
 |i+1,h=>by
  obtain⟨o,_,hs⟩:=hT.Zx i (bX _) om;obtain⟨_,h1,h2⟩:=IK hs;obtain⟨h3,h4⟩:=hT.aJ i om;exact⟨h1.trans h3,h2.trans h4⟩
def wN(ops:Array Oper)(j:Nat)(t:Tmp):Prop:=∃o,ops[j]?=some o/\o.dst=some t
theorem Trace.quiet(hT:Trace E call round ops base σ κ 0 m){t:Tmp}{lo:Nat}:∀hi,lo<=hi->hi<=m->(∀j,lo<=j->j<hi->¬wN ops j t)->(σ hi).rg.get t=(σ lo).rg.get t
 |0,h,_,_=>by
  have:lo=0:=by omega
  rw[this]
 |hi+1,h,hm,hw=>by
  rcases ct h with e|cX
  ·rw[e]
  ·obtain⟨o,ho,hs⟩:=hT.Zx hi (bX _) om;obtain⟨⟨v,hv⟩,_⟩:=IK hs;rw[hv];have jX:o.dst≠some t:=fun e=>hw hi om om ⟨o,ho,e⟩;have:=hT.quiet hi om om (fun j h1 h2=>hw j h1 om);rw[<-this];cases hd:o.dst with
   |none=>rfl
   |some d=>
    simp only[eH,T.aM];rw[az (fun e=>jX (by rw[hd,e]))]
theorem Trace.seg(hT:Trace E call round ops base σ κ 0 m){lo:Nat}:∀hi,lo<=hi->hi<=m->(∀j,lo<=j->j<hi->κ j≠ .pK)->
 (σ hi).ds=(σ lo).ds/\(σ hi).h.next=(σ lo).h.next/\(∀i,(∀j,lo<=j->j<hi->i≠base+j)->(σ hi).h.get i=(σ lo).h.get i)/\(∀j v obj,lo<=j->j<hi->κ j= .alloc v obj->(σ hi).h.get (base+j)=some obj)/\(σ lo).h.le (σ hi).h
 |0,h,_,_=>by
  have:lo=0:=by omega
  subst this;exact⟨rfl,rfl,fun _ _=>rfl,fun j _ _ _ h=>om,ah.le_refl _⟩
 |hi+1,h,hm,hw=>by
  rcases ct h with e|cX
  ·rw[<-e];exact⟨rfl,rfl,fun _ _=>rfl,fun j _ _ _ h=>om,ah.le_refl _⟩
  ·obtain⟨o,ho,hs⟩:=hT.Zx hi (bX _) om;obtain⟨g1,g2,g3,g4,g5⟩:=Q4 hs (hw hi om om);obtain⟨f1,f2,f3,f4,f5⟩:=hT.seg hi om om (fun j h1 h2=>hw j h1 om);refine⟨g1.trans f1,g2.trans f2,fun i Eb=>(g3 i (Eb hi om om)).trans (f3 i fun j h1 h2=>Eb j h1 om),fun j v obj h1 h2 hk=>?_,ah.le_trans f5 fun i x hx=>?_⟩
   ·rcases ct (Nat.le_of_lt_succ h2)with e|h3
    ·subst e;exact(g4 v obj hk).1
    ·rw[g3 _ om];exact f4 j v obj h1 h3 hk
   ·by_cases e:i=base+hi
    ·cases hk:κ hi with
     |alloc v obj=>have:=(g4 v obj hk).2;rw[<-e,hx]at this;cases this
     |_=>rw[g5 (by simp[hk])];exact hx
    ·rw[g3 i e];exact hx
theorem Nd(κ:Nat->DK)(lo m:Nat)(h:lo<=m):∃e,lo<=e/\e<=m/\(∀j,lo<=j->j<e->κ j≠ .pK)/\(e<m->κ e= .pK):=by
 classical
 induction hd:m-lo generalizing lo with
 |zero=>exact⟨lo,ao _,h,fun j h1 h2=>om,fun h=>om⟩
 |succ d ih=>
  by_cases hk:κ lo= .pK
  ·exact⟨lo,ao _,h,fun j h1 h2=>om,fun _=>hk⟩
  ·obtain⟨e,h1,h2,h3,h4⟩:=ih (lo+1) om om;refine⟨e,om,h2,fun j g1 g2=>?_,h4⟩;rcases ct g1 with rfl|g1
   ·exact hk
   ·exact h3 j g1 g2
theorem U5(κ:Nat->DK)(lo e:Nat):(∀j,lo<=j->j<e->κ j≠ .pK)\/∃f,lo<=f/\f<e/\κ f= .pK/\∀j,f<j->j<e->κ j≠ .pK:=by
 classical
 induction e with
 |zero=>exact .inl fun j _ h=>by omega
 |succ e ih=>
  by_cases hk:κ e= .pK/\lo<=e
  ·exact .inr ⟨e,hk.2,om,hk.1,fun j h1 h2=>om⟩
  ·rcases ih with h|⟨f,h1,h2,h3,h4⟩
   ·refine .inl fun j g1 g2 g3=>?_;rcases ct (Nat.le_of_lt_succ g2)with rfl|g2
    ·exact hk ⟨g3,g1⟩
    ·exact h j g1 g2 g3
   ·refine .inr ⟨f,h1,om,h3,fun j g1 g2 g3=>?_⟩;rcases ct (Nat.le_of_lt_succ g2)with rfl|g2
    ·exact hk ⟨g3,om⟩
    ·exact h4 j g1 g2 g3
theorem conflict(gJ:gL ops=true){j k:Nat}{t:Tmp}{o:Oper}(hw:wN ops j t)(ho:ops[k]?=some o)(ht:t∈o.looksAt ops\/o.dst=some t)(hjk:j≠k):
 (j<k->(gK ops k).testBit j=true)/\(k<j->(gK ops j).testBit k=true):=by
 obtain⟨o',vL,hd⟩:=hw;refine⟨fun h=>?_,fun h=>?_⟩
 ·rcases zO gJ ho vL h with h1|h1
  ·obtain⟨h2,h3,_⟩:=Oper.apart_spec h1;rcases ht with ht|ht
   ·exact absurd ht (h2 t hd)
   ·exact absurd ht (h3 t hd)
  ·exact h1
 ·rcases zO gJ vL ho h with h1|h1
  ·obtain⟨_,h3,h2⟩:=Oper.apart_spec h1;rcases ht with ht|ht
   ·exact absurd ht (h2 t hd)
   ·exact absurd hd (h3 t ht)
  ·exact h1
end
end
section
variable [iY]
variable{E:Env}
noncomputable def yr(rg:T AV):List Tmp->T AV
 |[]=> .nil
 |t::ts=>match rg.get t with
  |some v=>(yr rg ts).set v t
  |none=>yr rg ts
theorem uO(rg:T AV)(t:Tmp):∀ts:List Tmp,(yr rg ts).get t=if t∈ts then rg.get t else none
 |[]=>by simp[yr,T.get]
 |u::ts=>by
  simp only[yr];split
  ·rename_i v hv;rw[T.aM,uO rg t ts];by_cases e:t=u
   ·subst e;simp[hv]
   ·simp[e]
  ·rename_i hv;rw[uO rg t ts];by_cases e:t=u
   ·subst e;simp[hv]
   ·simp[e]
theorem xN{ops:Array Oper}{rg:T AV}{h:ah}{o:Oper}:eF E (yr rg (o.looksAt ops)) h o=eF E rg h o:=by
 refine OJ fun x hx=>?_;cases x with
 |tmp t=>
  simp only[ic,uO];rw[aW];exact gS _ (List.mem_filterMap.2 ⟨.tmp t,hx,rfl⟩)
 |_=>rfl
theorem yo{ops:Array Oper}{n:Nat}{rg:T AV}{o:Oper}:cf ops n (yr rg (o.looksAt ops)) o=cf ops n rg o:=by
 unfold cf;cases hg:o.guard with
 |none=>rfl
 |some q=>
  obtain⟨j,want⟩:=q;simp only;cases hd:(ops[j]?).bind (·.dst)with
  |none=>rfl
  |some d=>
   have AP:d∈o.looksAt ops:=by
    unfold Oper.looksAt;simp[hg,hd]
   simp only[uO,AP,lM]
structure Inv(call:dR)(round:cO)(ops:Array Oper)(base:Nat)(σ:Nat->St)(κ:Nat->DK)(m:Nat)(kO:ah)(iZ:cS)(kP:World)(S:Nat->Prop)(a:Act)(w:World)(e:Nat)(ι:cS):Prop where
 b0:iY.w.heap.size<=kP.heap.size
 em:e<=m
 e1:∀f,f<e->κ f= .pK->S f
 e2:∀f,e<=f->f<m->κ f= .pK->¬S f
 e3:e<m->κ e= .pK
 sm:∀j,S j->j<m
 down:Down ops S
 rel:Ext iZ kO kP (iQ ι base ops.size e) (σ e).h w
 nx:base+ops.size<=(σ e).h.next
 early:∀j v obj,S j->e<=j->κ j= .alloc v obj->∃L,ι (base+j)=some L/\obj.gone=false/\wJ ((iQ ι base ops.size j).add (base+j) L) obj L w/\kP.heap.size<=L.b/\L.b<w.heap.size/\∀i L',i≠base+j->ι i=some L'->L'.b≠L.b
 out:∀j,j<ops.size->ι (base+j)≠none->S j/\∃v obj,κ j= .alloc v obj
 late:∀j v obj,j<e->κ j= .alloc v obj->¬S j->(σ e).h.get (base+j)=some obj
 XP:∀j,e<=j->j<ops.size->(σ e).h.get (base+j)=none
 uY:∀t i,i<=m->(∀j,j<i->wN ops j t->S j)->(∀j,i<=j->wN ops j t->¬S j)->∀x,(σ i).rg.get t=some x->∃y,a.tmps[t]?=some y/\bS (iQ ι base ops.size (max i e)) x y
 sz:a.tmps.size=(σ 0).n
 ds:uL (iQ ι base ops.size e) (σ e).ds a.defers
section
variable{call:dR}{round:cO}{ops:Array Oper}{base:Nat}{σ:Nat->St}{κ:Nat->DK}{m:Nat}{kO:ah}{iZ:cS}{kP:World}{S:Nat->Prop}{a:Act}{w:World}{e:Nat}{ι:cS}
theorem Inv.ready(hI:Inv call round ops base σ κ m kO iZ kP S a w e ι)(gJ:gL ops=true){k q:Nat}(hk:oW ops S k)(hb:(gK ops k).testBit q=true):S q:=Q1 gJ hI.down k hk hb
theorem Inv.past(hI:Inv call round ops base σ κ m kO iZ kP S a w e ι)(gJ:gL ops=true){k q:Nat}(hk:S k)(hb:(gK ops k).testBit q=true):S q:=ZK gJ hI.down hk hb
theorem Inv.Zw(hI:Inv call round ops base σ κ m kO iZ kP S a w e ι)(gJ:gL ops=true){k:Nat}{o:Oper}(hk:oW ops S k)(AE:¬S k)(Eg:k<=m)(ho:ops[k]?=some o):
 cK (iQ ι base ops.size (max k e)) (yr (σ k).rg (o.looksAt ops)) a.tmps:=by
 intro t x hx;rw[uO]at hx;split at hx
 ·rename_i ht;refine hI.uY t k Eg (fun j hj hw=>?_) (fun j hj hw hS=>?_) x hx
  ·exact hI.ready gJ hk ((conflict gJ hw ho (.inl ht) om).1 hj)
  ·rcases ct hj with rfl|hj
   ·exact AE hS
   ·exact AE (hI.past gJ hS ((conflict gJ hw ho (.inl ht) om).2 hj))
 ·cases hx
theorem Inv.GD(hI:Inv call round ops base σ κ m kO iZ kP S a w e ι)(hT:Trace E call round ops base σ κ 0 m)(gJ:gL ops=true){k:Nat}{o:Oper}(hk:oW ops S k)(AE:¬S k)(Eg:k<m)(ho:ops[k]?=some o)
 {dS:cS} {e':Nat} (hle:∀c,(iQ ι base ops.size (max c e)).le (iQ dS base ops.size (max c e'))) (Q6:∀c c',c<=c'->(iQ dS base ops.size (max c e')).le (iQ dS base ops.size (max c' e'))) {v:AV} {y:Value} (hv:bS (iQ dS base ops.size (max (k+1) e')) v y) (Nb:(σ (k+1)).rg=eH (σ k).rg o.dst v)
 (hd:oC a.tmps.size o.dst=true) {ds:List Deferred}:
 ∀t i,i<=m->(∀j,j<i->wN ops j t->(j=k\/S j))->(∀j,i<=j->wN ops j t->¬(j=k\/S j))->∀x,(σ i).rg.get t=some x->∃z,(({a with defers:=ds}:Act).put o.dst y).tmps[t]?=some z/\bS (iQ dS base ops.size (max i e')) x z:=by
 intro t i hi h1 h2 x hx;by_cases ht:o.dst=some t
 ·have Qz:wN ops k t:=⟨o,ho,ht⟩
  have hki:k<i:=by
   rcases eW k i with h|h
   ·exact h
   ·exact absurd (.inl rfl) (h2 k h Qz)
  have hq:=hT.quiet (t:=t) (lo:=k+1) i om hi (fun j g1 g2 hw=>by
   have:=h1 j g2 hw;rcases this with rfl|hS
   ·omega
   ·exact AE (hI.past gJ hS ((conflict gJ hw ho (.inr ht) om).2 om)))
  rw[hq,Nb,ht]at hx;simp only[eH,T.aM,lM,bw]at hx;subst hx;rw[ht]at hd;simp[oC]at hd;refine⟨y,?_,hv.mono (Q6 _ _ om)⟩;rw[ht];simp[Act.put,hd]
 ·obtain⟨z,hz,hr⟩:=hI.uY t i hi (fun j g hw=>by
   rcases h1 j g hw with rfl|h
   ·obtain⟨o',vL,U2⟩:=hw;rw[ho]at vL;cases vL;exact absurd U2 ht
   ·exact h) (fun j g hw hS=>h2 j g hw (.inr hS)) x hx
  refine⟨z,?_,hr.mono (hle i)⟩;cases U2:o.dst with
  |none=>exact hz
  |some d=>
   simp only[Act.put];rw[et (fun e=>ht (by rw[U2,e]))];exact hz
theorem AQ(hS:Down ops S){k:Nat}(hk:oW ops S k):Down ops (fun j=>j=k\/S j):=fun i o ho hi e he hb=>by
 rcases hi with rfl|hi
 ·exact .inr (hk o ho e he hb)
 ·exact .inr (hS i o ho hi e he hb)
theorem Inv.put(hI:Inv call round ops base σ κ m kO iZ kP S a w e ι)(hT:Trace E call round ops base σ κ 0 m)(gJ:gL ops=true){k:Nat}{o:Oper}(hk:oW ops S k)(AE:¬S k)(Eg:k<m)(ho:ops[k]?=some o)
 (jX:κ k≠ .pK) (hna:∀v obj,κ k≠ .alloc v obj) {v:AV} {y:Value} (hv:bS (iQ ι base ops.size (max k e)) v y) (Nb:(σ (k+1)).rg=eH (σ k).rg o.dst v) (hd:oC a.tmps.size o.dst=true):
 Inv call round ops base σ κ m kO iZ kP (fun j=>j=k\/S j) (a.put o.dst y) w e ι where
 b0:=hI.b0
 em:=hI.em
 e1 f hf Ec:= .inr (hI.e1 f hf Ec)
 e2 f h1 h2 h3 hS:=by
  rcases hS with rfl|hS
  ·exact jX h3
  ·exact hI.e2 f h1 h2 h3 hS
 e3:=hI.e3
 sm j hj:=by rcases hj with rfl|hj;exact Eg;exact hI.sm j hj
 down:=AQ hI.down hk
 rel:=hI.rel
 nx:=hI.nx
 early j v obj hj he Ec:=by
  rcases hj with rfl|hj
  ·exact absurd Ec (hna v obj)
  ·exact hI.early j v obj hj he Ec
 out j hj h:=let ⟨h1,h2⟩:=hI.out j hj h;⟨.inr h1,h2⟩
 late j v obj hj Ec hS:=hI.late j v obj hj Ec fun h=>hS (.inr h)
 XP:=hI.XP
 uY:=hI.GD hT gJ hk AE Eg ho (fun c=>fun _ _ h=>h) (fun c c' h=>vi om) (hv.mono (vi om)) Nb hd (ds:=a.defers)
 sz:=by rw[nF];exact hI.sz
 ds:=by rw[jt];exact hI.ds
end
end
section
variable [iY]
variable{E:Env}
theorem oJ{ι dS:cS}{base n c c':Nat}(hle:ι.le dS)(h:c<=c'):(iQ ι base n c).le (iQ dS base n c'):=fun i L hi=>by
 unfold iQ at hi⊢;split at hi
 ·cases hi
 ·rename_i hc;rw[az om];exact hle i L hi
open Classical in
noncomputable def oZ(κ:Nat->DK)(S:Nat->Prop)(base:Nat):List Nat->ah->ah
 |[],h=>h
 |j::js,h=>match κ j with
  | .alloc _ obj=>if S j then(oZ κ S base js h).set (base+j) obj else oZ κ S base js h
  |_=>oZ κ S base js h
theorem rN(κ:Nat->DK)(S:Nat->Prop)(base:Nat)(h:ah):∀js,(oZ κ S base js h).next=h.next
 |[]=>rfl
 |j::js=>by
  simp only[oZ];split
  ·split
   ·exact rN κ S base h js
   ·exact rN κ S base h js
  ·exact rN κ S base h js
theorem Da(κ:Nat->DK)(S:Nat->Prop)(base:Nat)(h:ah){j:Nat}{v:AV}{obj:ej}(hk:κ j= .alloc v obj)(hS:S j):∀js,j∈js->(oZ κ S base js h).get (base+j)=some obj
 |[],hj=>by cases hj
 |q::js,hj=>by
  simp only[oZ];by_cases e:q=j
  ·subst e;simp only[hk,aW hS];simp[ah.aM]
  ·have Qb:j∈js:=(by rcases aq.1 hj with h|h;exact absurd h.symm e;exact h);have ih:=Da κ S base h hk hS js Qb;split
   ·split
    ·rw[ah.aM,az om];exact ih
    ·exact ih
   ·exact ih
theorem wU(κ:Nat->DK)(S:Nat->Prop)(base:Nat)(h:ah){i:Nat}:∀js,(∀j∈js,i=base+j->¬(S j/\∃v obj,κ j= .alloc v obj))->(oZ κ S base js h).get i=h.get i
 |[],_=>rfl
 |q::js,hj=>by
  simp only[oZ];have ih:=wU κ S base h js (fun j Qb=>hj j (by simp[Qb]));split
  ·rename_i v obj hk;split
   ·rename_i hS;rw[ah.aM,az (fun e=>hj q sp e ⟨hS,v,obj,hk⟩)];exact ih
   ·exact ih
  ·exact ih
section
variable{call:dR}{round:cO}{ops:Array Oper}{base:Nat}{σ:Nat->St}{κ:Nat->DK}{m:Nat}{kO:ah}{iZ:cS}{kP:World}{S:Nat->Prop}{a:Act}{w:World}{e:Nat}{ι:cS}
theorem Inv.MU(hI:Inv call round ops base σ κ m kO iZ kP S a w e ι){i:Nat}{L:Loc}(hi:ι i=some L):L.b<w.heap.size:=by
 by_cases h:base+e<=i/\i<base+ops.size
 ·obtain⟨j,rfl⟩:∃j,i=base+j:=⟨i-base,om⟩
  obtain⟨hS,v,obj,hk⟩:=hI.out j om (by rw[hi];simp);obtain⟨L',h1,_,_,_,h2,_⟩:=hI.early j v obj hS om hk;rw[hi]at h1;cases h1;exact h2
 ·exact hI.rel.rel.MU i L (by unfold iQ;rw[az h];exact hi)
theorem Inv.ZO(hI:Inv call round ops base σ κ m kO iZ kP S a w e ι){c:Nat}(hc:e<=c)(hcn:c<=ops.size):
 ∃G:ah,dV (iQ ι base ops.size c) G w/\(σ e).h.le G/\(c=e->G=(σ e).h):=by
 refine⟨oZ κ S base (List.range' e (c-e)) (σ e).h,hI.rel.rel.uM (fun i=>base+e<=i/\i<base+c) ?_ ?_ ?_ ?_ ?_ ?_,?_,?_⟩
 ·intro i hi;unfold iQ;by_cases h1:base+c<=i/\i<base+ops.size
  ·rw[aW h1,aW om]
  ·rw[az h1,az om]
 ·intro i hi;refine⟨?_,by have:=hI.nx;omega⟩;unfold iQ;rw[aW om]
 ·intro i hi;refine wU _ _ _ _ _ fun j hj e'=>?_;simp at hj;exact absurd ⟨om,om⟩ hi
 ·exact rN _ _ _ _ _
 ·intro i L hi hL;obtain⟨j,rfl⟩:∃j,i=base+j:=⟨i-base,om⟩
  have Db:=lO _ _ hL;obtain⟨hS,v,obj,hk⟩:=hI.out j om (by rw[Db];simp);obtain⟨L',h1,h2,h3,h4,h5,h6⟩:=hI.early j v obj hS om hk;rw[Db]at h1;cases h1;refine⟨obj,Da _ _ _ _ hk hS _ (by simp;omega),h2,h3.mono fun i Li Eb=>?_,h5,fun k L' Ec MS=>h6 k L' Ec (lO _ _ MS)⟩;by_cases e1:i=base+j
  ·subst e1;rw[cS.add_same]at Eb;cases Eb;exact hL
  ·rw[cS.cm _ _ e1]at Eb;exact vi om i Li Eb
 ·intro i L hi hL;obtain⟨j,rfl⟩:∃j,i=base+j:=⟨i-base,om⟩
  have Db:=lO _ _ hL;obtain⟨hS,v,obj,hk⟩:=hI.out j om (by rw[Db];simp);obtain⟨L',h1,_,_,h4,_,_⟩:=hI.early j v obj hS om hk;rw[Db]at h1;cases h1;exact bk hI.b0 h4
 ·intro i x hx;rw[wU _ _ _ _ _ fun j hj e'=>?_]
  ·exact hx
  ·simp at hj;subst e';rw[hI.XP j om om]at hx;cases hx
 ·intro h;subst h;simp[oZ]
theorem Inv.still(hE:E.Ok)(hI:Inv call round ops base σ κ m kO iZ kP S a w e ι)(hT:Trace E call round ops base σ κ 0 m)(gJ:gL ops=true)(Nc:m<=ops.size){k:Nat}{o:Oper}(hk:oW ops S k)(AE:¬S k)(Eg:k<m)(ho:ops[k]?=some o)
 {v:AV} (uC:κ k= .pure v\/κ k= .read v):∃y,(execOp a.eval o).run E.P w= .ok (.value y) w/\bS (iQ ι base ops.size (max k e)) v y:=by
 have hem:=hI.em;obtain⟨o',vL,hs⟩:=hT.Zx k (bX _) Eg;rw[ho]at vL;cases vL;obtain⟨G,hG,hle,heq⟩:=hI.ZO (c:=max k e) om om;have zJ:=hI.Zw gJ hk AE om ho;have aX:eF E (σ k).rg G o=some (.val v,G)/\(fK E o= .pure\/fK E o= .read):=by
  rcases uC with uC|uC
  ·rw[uC]at hs;obtain⟨_,hc,h1,_⟩:=hs;exact⟨h1 G,.inl hc⟩
  ·have Q7:=uC;rw[uC]at hs;obtain⟨_,hc,h1,_⟩:=hs;refine⟨?_,.inr hc⟩;rcases Nat.lt_trichotomy k e with cX|aeN|hgt
   ·have hGe:=heq om;subst hGe;rcases U5 κ k e with tf|⟨f,h2,h3,h4,h5⟩
    ·exact h1 _ (hT.seg (lo:=k) e om hI.em tf).2.2.2.2
    ·have hkf:k<f:=by
      rcases ct h2 with rfl|h;rw[Q7]at h4;cases h4;exact h
     rcases hT.ra k f v (bX _) hkf om Q7 h4 with hb|hr
     ·exact absurd (hI.past gJ (hI.e1 f h3 h4) hb) AE
     ·exact hr o ho _ (hT.seg (lo:=f+1) e om hI.em (fun j g1 g2=>h5 j om g2)).2.2.2.2
   ·subst aeN;rw[hI.e3 Eg]at Q7;cases Q7
   ·have he:κ e= .pK:=hI.e3 om;rcases hT.rb e k v (bX _) hgt Eg he Q7 with hb|hr
    ·exact absurd (hI.ready gJ hk hb) (hI.e2 e (ao _) om he)
    ·exact hr o ho G hle
 have ZP:eF E (yr (σ k).rg (o.looksAt ops)) G o=some (.val v,G):=by rw[xN];exact aX.1
 obtain⟨v',y,tB,_,mI,gz⟩:=OK hE zJ hG aX.2 ZP;cases tB;exact⟨y,mI,gz⟩
theorem Inv.alloc(hE:E.Ok)(hI:Inv call round ops base σ κ m kO iZ kP S a w e ι)(hT:Trace E call round ops base σ κ 0 m)(gJ:gL ops=true)(Nc:m<=ops.size)(yG:kO.next<=base){k:Nat}{o:Oper}(hk:oW ops S k)(AE:¬S k)(Eg:k<m)(ho:ops[k]?=some o)
 {v:AV} {obj:ej} (uC:κ k= .alloc v obj) (hd:oC a.tmps.size o.dst=true):
 ∃y w' dS,(execOp a.eval o).run E.P w= .ok (.value y) w'/\Inv call round ops base σ κ m kO iZ kP (fun j=>j=k\/S j) (a.put o.dst y) w' e dS:=by
 have hem:=hI.em;obtain⟨o',vL,hs⟩:=hT.Zx k (bX _) Eg;rw[ho]at vL;cases vL;have XK:=hs;rw[uC]at hs;obtain⟨_,hc,⟨v0,h2,aX,Q3,ZN⟩,_,fI⟩:=hs;have zJ:=hI.Zw gJ hk AE om ho;have ZP:eF E (yr (σ k).rg (o.looksAt ops)) (σ k).h o=some (.val v0,h2):=by rw[xN];exact aX
 obtain⟨v0',Q5,y,w',L,hv0,Q8,Q9,mI,ng,hold,Es,ht,tz,hL,uJ⟩:=ZJ (w:=w) hE zJ hc ZP;cases hv0;have:Q5=obj:=by
  rw[Q8]at Q3;simp[ah.dz]at Q3;exact Q3
 subst this;have C0:ι (base+k)=none:=by
  cases hx:ι (base+k)with
  |none=>rfl
  |some L0=>exact absurd (hI.out k om (by rw[hx];simp)).1 AE
 have hcn:iQ ι base ops.size (max k e) (base+k)=none:=by
  unfold iQ;split
  ·rfl
  ·exact C0
 obtain⟨hO,hV⟩:=uJ _ hcn;have hV:=hV v ZN;have ac6:L.b<w'.heap.size:=hO.lt Q9;have IL:ι.le (ι.add (base+k) L):=cS.QZ C0;have XX:∀i L',ι i=some L'->L'.b≠L.b:=fun i L' hi=>by have:=hI.MU hi;omega
 have hw0:kP.heap.size<=L.b:=bk hI.rel.size hL;have ac7:∀c,max k e<=c->k<c->((iQ ι base ops.size (max k e)).add (base+k) L).le (iQ (ι.add (base+k) L) base ops.size c):=fun c h1 h2 i Li hi=>by
  by_cases e1:i=base+k
  ·subst e1;rw[cS.add_same]at hi;cases hi;unfold iQ;rw[az om,cS.add_same]
  ·rw[cS.cm _ _ e1]at hi;exact oJ IL h1 i Li hi
 have hke:k≠e:=fun h=>by subst h;rw[hI.e3 Eg]at uC;cases uC
 refine⟨y,w',ι.add (base+k) L,mI,?_⟩;refine
  {b0:=hI.b0,em:=hI.em,e1:=fun f hf Ec=> .inr (hI.e1 f hf Ec),e2:=?_,e3:=hI.e3,sm:=?_,down:=AQ hI.down hk,rel:=?_,nx:=hI.nx,early:=?_,out:=?_,late:=fun j v obj hj Ec hS=>hI.late j v obj hj Ec fun h=>hS (.inr h),XP:=hI.XP,uY:=?_,
   sz:=by rw[nF];exact hI.sz,ds:=?_}
 ·intro f h1 h2 h3 hS;rcases hS with rfl|hS
  ·rw[uC]at h3;cases h3
  ·exact hI.e2 f h1 h2 h3 hS
 ·intro j hj;rcases hj with rfl|hj;exact Eg;exact hI.sm j hj
 ·have XY:=hI.rel.xP ng hold Es ht tz;rcases eW k e with cX|XG
  ·have Ra:max k e=e:=om;refine XY.uM (fun i=>i=base+k) ?_ ?_ (fun _ _=>rfl) rfl ?_ ?_ ?_ hI.b0
   ·intro i hi;unfold iQ;rw[cS.cm _ _ hi]
   ·rintro i rfl
    refine⟨?_,by have:=hI.nx;omega⟩;unfold iQ;rw[az om];exact C0
   ·rintro i L1 rfl hL1
    have:L1=L:=by
     have:=lO _ _ hL1;rw[cS.add_same]at this;exact(Option.some.inj this).symm
    subst this;refine⟨Q5,hI.late k v Q5 cX uC AE,Q9,hO.mono (ac7 e om cX),ac6,fun q L' hq hq'=>?_⟩;have:=lO _ _ hq';rw[cS.cm _ _ hq]at this;exact XX q L' this
   ·rintro i rfl;omega
   ·rintro i L1 rfl hL1
    have:=lO _ _ hL1;rw[cS.add_same]at this;cases this;exact hw0
  ·have:iQ (ι.add (base+k) L) base ops.size e=iQ ι base ops.size e:=by
    funext i;unfold iQ;split
    ·rfl
    ·rw[cS.cm];omega
   rw[this];exact XY
 ·intro j v1 aeO hj he Ec;by_cases hjk:j=k
  ·subst hjk;rw[uC]at Ec;cases Ec;have Ra:max j e=j:=om;refine⟨L,cS.add_same _ _ _,Q9,hO.mono fun i Li hi=>?_,hw0,ac6,fun i L' hi MS=>?_⟩
   ·by_cases e1:i=base+j
    ·subst e1;rw[cS.add_same]at hi⊢;exact hi
    ·rw[cS.cm _ _ e1]at hi⊢;exact oJ IL om i Li hi
   ·rw[cS.cm _ _ hi]at MS;exact XX i L' MS
  ·have ZQ:S j:=(by rcases hj with h|h;exact absurd h hjk;exact h);obtain⟨L1,g1,g2,g3,g4,g5,g6⟩:=hI.early j v1 aeO ZQ he Ec;refine⟨L1,by rw[cS.cm _ _ om];exact g1,g2,(g3.mono fun i Li hi=>?_).block (hold _ g5),g4,om,fun i L' hi MS=>?_⟩
   ·by_cases e1:i=base+j
    ·subst e1;rw[cS.add_same]at hi⊢;exact hi
    ·rw[cS.cm _ _ e1]at hi⊢;exact oJ IL (ao _) i Li hi
   ·by_cases e1:i=base+k
    ·subst e1;rw[cS.add_same]at MS;cases MS;omega
    ·rw[cS.cm _ _ e1]at MS;exact g6 i L' hi MS
 ·intro j hj h;by_cases hjk:j=k
  ·subst hjk;exact⟨.inl rfl,v,Q5,uC⟩
  ·rw[cS.cm _ _ om]at h;obtain⟨h1,h2⟩:=hI.out j hj h;exact⟨.inr h1,h2⟩
 ·refine hI.GD hT gJ hk AE Eg ho (fun c=>oJ IL (ao _)) (fun c c' h=>vi om) (hV.mono (ac7 _ om om)) ?_ hd (ds:=a.defers);rw[fI]
 ·rw[jt];exact hI.ds.mono (oJ IL (ao _))
end
end
section
variable [iY]
variable{E:Env}
section
variable{call:dR}{round:cO}{ops:Array Oper}{base:Nat}{σ:Nat->St}{κ:Nat->DK}{m:Nat}{kO:ah}{iZ:cS}{kP:World}{S:Nat->Prop}{a:Act}{w:World}{e:Nat}{ι:cS}
theorem Inv.due(hI:Inv call round ops base σ κ m kO iZ kP S a w e ι)(hT:Trace E call round ops base σ κ 0 m)(gJ:gL ops=true){k:Nat}(hk:oW ops S k)(AE:¬S k)(Eg:k<m)(uC:κ k= .pK):k=e:=by
 rcases Nat.lt_trichotomy k e with h|h|h
 ·exact absurd (hI.e1 k h uC) AE
 ·exact h
 ·have he:=hI.e3 om;exact absurd (hI.ready gJ hk (hT.ee e k (bX _) h Eg he uC)) (hI.e2 e (ao _) om he)
theorem Inv.pK(hI:Inv call round ops base σ κ m kO iZ kP S a w e ι)(hT:Trace E call round ops base σ κ 0 m)(gJ:gL ops=true)(Nc:m<=ops.size)(yG:kO.next<=base){o:Oper}(hk:oW ops S e)(Eg:e<m)(ho:ops[e]?=some o)
 (hd:oC a.tmps.size o.dst=true) {vM:cS} {v:AV} {y:Value} {Iz:List Deferred} {w':World} (eD:Ext (iQ ι base ops.size e) (σ e).h w vM (σ (e+1)).h w') (hv:bS vM v y) (Nb:(σ (e+1)).rg=eH (σ e).rg o.dst v) (E7:uL vM (σ (e+1)).ds Iz):
 ∃e' dS,Inv call round ops base σ κ m kO iZ kP (fun j=>j=e\/S j) (({a with defers:=Iz}:Act).put o.dst y) w' e' dS:=by
 classical
 have uC:κ e= .pK:=hI.e3 Eg;have AE:¬S e:=hI.e2 e (ao _) Eg uC;obtain⟨e',Qe,AM,he3,he4⟩:=Nd κ (e+1) m om;have wa:=hI.nx;have ah7:=eD.next;let dS:cS:=fun i=>if base+e<=i/\i<base+ops.size then ι i else vM i
 have Dc:∀i,base+e<=i->i<base+ops.size->dS i=ι i:=fun i h1 h2=>by simp only[dS];rw[aW ⟨h1,h2⟩]
 have Nl:∀i,¬(base+e<=i/\i<base+ops.size)->dS i=vM i:=fun i h=>by simp only[dS];rw[az h]
 have XZ:∀i,¬(base+e<=i/\i<base+ops.size)->iQ ι base ops.size e i=ι i:=fun i h=>by unfold iQ;rw[az h]
 have aeP:ι (base+e)=none:=by
  cases hx:ι (base+e)with
  |none=>rfl
  |some L0=>exact absurd (hI.out e om (by rw[hx];simp)).1 AE
 have F1:ι.le dS:=fun i L hi=>by
  by_cases h:base+e<=i/\i<base+ops.size
  ·rw[Dc i h.1 h.2];exact hi
  ·rw[Nl i h];have h1:iQ ι base ops.size e i=some L:=(by rw[XZ i h];exact hi);rw[eD.aJ i (hI.rel.rel.lt i L h1)];exact h1
 have F2:vM=iQ dS base ops.size (e+1):=by
  funext i;by_cases h:base+e<=i/\i<base+ops.size
  ·have h1:vM i=none:=by
    rw[eD.aJ i om];unfold iQ;rw[aW h]
   rw[h1];unfold iQ;split
   ·rfl
   ·have:i=base+e:=om;subst this;rw[Dc _ h.1 h.2,aeP]
  ·unfold iQ;rw[az om,Nl i h]
 have ac8:∀(j:Nat)(L:Loc),e<=j->j<ops.size->(∀i L',i≠base+j->ι i=some L'->L'.b≠L.b)->¬IP (iQ ι base ops.size e) (σ e).h L.b:=fun j L h1 h2 hD=>by
  rintro⟨i,L',o',hi,_,_,hb⟩
  have Iv:i≠base+j:=fun e1=>by subst e1;unfold iQ at hi;rw[aW om]at hi;cases hi
  exact hD i L' Iv (lO _ _ hi) hb
 have F3:∀(j:Nat)(L:Loc),e<=j->j<ops.size->L.b<w.heap.size->(∀i L',i≠base+j->ι i=some L'->L'.b≠L.b)->∀i L',i≠base+j->dS i=some L'->L'.b≠L.b:=fun j L h1 h2 hb hD i L' Iv hi=>by
  by_cases h:base+e<=i/\i<base+ops.size
  ·rw[Dc i h.1 h.2]at hi;exact hD i L' Iv hi
  ·rw[Nl i h]at hi;rcases eD.new i L' hi with g|g|g
   ·exact hD i L' Iv (lO _ _ g)
   ·omega
   ·intro e1;rw[e1]at g;exact ac8 j L h1 h2 hD g
 have AF:∀(j:Nat)(L:Loc),e<=j->j<ops.size->L.b<w.heap.size->(∀i L',i≠base+j->ι i=some L'->L'.b≠L.b)->w'.heap[L.b]?=w.heap[L.b]?:=fun j L h1 h2 hb hD=>(eD.frame L.b hb (ac8 j L h1 h2 hD)).1;obtain⟨sg1,sg2,XM,sg4,sg5⟩:=hT.seg (lo:=e+1) e' Qe AM he3;have aeQ:∀c,(iQ ι base ops.size (max c e)).le (iQ dS base ops.size (max c e')):=fun c=>oJ F1 om;refine⟨e',dS,
  {b0:=hI.b0,em:=AM,e1:=?_,e2:=?_,e3:=he4,sm:=?_,down:=AQ hI.down hk,rel:=?_,nx:=om,early:=?_,out:=?_,late:=?_,XP:=?_,uY:=?_,sz:=by rw[nF];exact hI.sz,ds:=?_}⟩
 ·intro f hf hff;rcases Nat.lt_trichotomy f e with h|h|h
  ·exact .inr (hI.e1 f h hff)
  ·exact .inl h
  ·exact absurd hff (he3 f om hf)
 ·intro f h1 h2 h3 hS;rcases hS with rfl|hS
  ·omega
  ·exact hI.e2 f om h2 h3 hS
 ·intro j hj;rcases hj with rfl|hj;exact Eg;exact hI.sm j hj
 ·have hE1:=hI.rel.trans eD;rw[F2]at hE1;refine hE1.uM (fun i=>base+(e+1)<=i/\i<base+e') ?_ ?_ ?_ sg2 ?_ ?_ ?_ hI.b0
  ·intro i hi;unfold iQ;by_cases h1:base+e'<=i/\i<base+ops.size
   ·rw[aW h1,aW om]
   ·rw[az h1,az om]
  ·intro i hi;refine⟨?_,om⟩;unfold iQ;rw[aW om]
  ·intro i hi;exact XM i fun j h1 h2 e1=>hi om
  ·intro i L hi hL;obtain⟨j,rfl⟩:∃j,i=base+j:=⟨i-base,om⟩
   have IQ:=lO _ _ hL;have Db:ι (base+j)=some L:=(by rw[Dc _ om om]at IQ;exact IQ);obtain⟨hS,v1,obj,Gj⟩:=hI.out j om (by rw[Db];simp);obtain⟨L1,g1,g2,g3,g4,g5,g6⟩:=hI.early j v1 obj hS om Gj;rw[Db]at g1;cases g1;refine⟨obj,sg4 j v1 obj om om Gj,g2,(g3.mono fun q Lq hq=>?_).block (AF j L om om g5 g6),by have:=eD.size;omega,fun q L' hq hq'=>F3 j L om om g5 g6 q L' hq (lO _ _ hq')⟩;by_cases e1:q=base+j
   ·subst e1;rw[cS.add_same]at hq;cases hq;exact hL
   ·rw[cS.cm _ _ e1]at hq;exact oJ F1 om q Lq hq
  ·intro i hi;omega
  ·intro i L hi hL;obtain⟨j,rfl⟩:∃j,i=base+j:=⟨i-base,om⟩
   have IQ:=lO _ _ hL;have Db:ι (base+j)=some L:=(by rw[Dc _ om om]at IQ;exact IQ);obtain⟨hS,v1,obj,Gj⟩:=hI.out j om (by rw[Db];simp);obtain⟨L1,g1,g2,g3,g4,g5,g6⟩:=hI.early j v1 obj hS om Gj;rw[Db]at g1;cases g1;exact g4
 ·intro j v1 obj hj he Gj;have ZQ:S j:=by
   rcases hj with rfl|h
   ·omega
   ·exact h
  have Zz:j<ops.size:=by have:=hI.sm j ZQ;omega
  obtain⟨L,g1,g2,g3,g4,g5,g6⟩:=hI.early j v1 obj ZQ om Gj;refine⟨L,by rw[Dc _ om om];exact g1,g2,(g3.mono fun q Lq hq=>?_).block (AF j L om Zz g5 g6),g4,by have:=eD.size;omega,F3 j L om Zz g5 g6⟩;by_cases e1:q=base+j
  ·subst e1;rw[cS.add_same]at hq⊢;exact hq
  ·rw[cS.cm _ _ e1]at hq⊢;exact oJ F1 (ao _) q Lq hq
 ·intro j hj h;have h':ι (base+j)≠none:=by
   by_cases hje:e<=j
   ·rw[Dc _ om om]at h;exact h
   ·rw[Nl _ om,eD.aJ _ om,XZ _ om]at h;exact h
  obtain⟨h1,h2⟩:=hI.out j hj h';exact⟨.inr h1,h2⟩
 ·intro j v1 obj hj Gj hS;rcases Nat.lt_trichotomy j e with h|h|h
  ·have ZQ:¬S j:=fun h=>hS (.inr h);have C0:ι (base+j)=none:=by
    cases hx:ι (base+j)with
    |none=>rfl
    |some L0=>exact absurd (hI.out j om (by rw[hx];simp)).1 ZQ
   rw[XM _ (fun q h1 h2=>om),eD.same _ om (by unfold iQ;split;rfl;exact C0)];exact hI.late j v1 obj h Gj ZQ
  ·subst h;rw[uC]at Gj;cases Gj
  ·exact sg4 j v1 obj om hj Gj
 ·intro j h1 h2;rw[XM _ (fun q g1 g2=>om),eD.same _ om (by unfold iQ;rw[aW om])];exact hI.XP j om h2
 ·refine hI.GD hT gJ hk AE Eg ho aeQ (fun c c' h=>vi om) (v:=v) (y:=y) ?_ Nb hd (ds:=Iz);rw[F2]at hv;exact hv.mono (vi om)
 ·rw[jt];show uL _ (σ e').ds Iz;rw[sg1];rw[F2]at E7;exact E7.mono (vi om)
end
end
end Go.Am
namespace Go.Am
variable [iY]
variable{E:Env}
namespace T
variable{α:Type}
theorem abU(v:Option α)(l r:T α)(m:Nat):(node v l r).del (m+1)=if m%2=0 then node v (l.del (m/2)) r else node v l (r.del (m/2)):=by
 simp only[del];by_cases h:m%2=0
 ·rw[aW h,h];rfl
 ·rw[az h];have:Nat.beq (m%2) 0=false:=by
   cases hb:Nat.beq (m%2) 0 with
   |false=>rfl
   |true=>exact absurd (jz hb) h
  rw[this];rfl
theorem U1:∀(t:T α)(n k:Nat),(t.del n).get k=if k=n then none else t.get k:=by
 intro t;induction t with
 |nil=>intro n k;simp[del,get_nil]
 |node v l r ihl ihr=>
  intro n k;cases n with
  |zero=>cases k<;>simp[del,rX,oD]
  |succ m=>
   rw[abU];cases k with
   |zero=>split<;>simp[rX]
   |succ k=>
    split<;>rw[oD,oD]<;>split<;>(try simp only[ihl,ihr])
    ·have:(k/2=m/2)↔(k+1=m+1):=om;simp only[this]
    ·rw[az om]
    ·rw[az om]
    ·have:(k/2=m/2)↔(k+1=m+1):=om;simp only[this]
end T
theorem QL{t:Tmp}{x:AV}:∀(l:List Oper)(r:T AV),(l.foldl (fun r o=>match o.dst with|some d=>r.del d|none=>r) r).get t=some x->r.get t=some x/\∀o∈l,o.dst≠some t
 |[],r,h=>⟨h,sp⟩
 |o::l,r,h=>by
  simp only[j5]at h;obtain⟨h1,h2⟩:=QL l _ h;cases hd:o.dst with
  |none=>
   rw[hd]at h1;exact⟨h1,fun o' vL=>by rcases aq.1 vL with rfl|h;rw[hd];simp;exact h2 o' h⟩
  |some d=>
   rw[hd]at h1;simp only[T.U1]at h1;split at h1
   ·cases h1
   ·rename_i jX;exact⟨h1,fun o' vL=>by rcases aq.1 vL with rfl|h;rw[hd];simp;exact fun e=>jX e.symm;exact h2 o' h⟩
theorem CW{o:Oper}(hc:fK E o≠ .pK):∀c,o.op≠ .defer c:=fun c ho=>hc (by simp[fK,ho])
section
variable{call:dR}{round:cO}{ops:Array Oper}{base:Nat}{σ:Nat->St}{κ:Nat->DK}{m:Nat}{kO:ah}{iZ:cS}{kP:World}{x:bt}{cg:St}{ρ:Option Nat}{Q:Exit->Act->World->Prop}
theorem OE(hE:E.Ok)(hm:qh E call round)(gJ:gL ops=true)(hT:Trace E call round ops base σ κ 0 m)(yb:AL E call round ops σ κ [] 0 m x cg)(Nc:m<=ops.size)(yG:kO.next<=base)(Ew:(σ 0).bI=ρ.isSome)
 (hP:∀e dS a' w',Ext iZ kO kP dS cg.h w'->rE dS cg a' w' ρ->Na dS x e->Q e a' w')
 {S:Nat->Prop} {a:Act} {w:World} {e:Nat} {ι:cS} (hI:Inv call round ops base σ κ m kO iZ kP S a w e ι) {i:Nat} (tA:i<ops.size) (hk:oW ops S i) (AE:¬S i) {K:Act->World->Prop}
 (hK:∀a' w' e' dS,Inv call round ops base σ κ m kO iZ kP (fun j=>j=i\/S j) a' w' e' dS->K a' w'):wpOpIn (kS ρ) 0 E.P ops Q i K a w:=by
 have hem:=hI.em;obtain⟨o,ho⟩:∃o,ops[i]?=some o:=⟨ops[i],by simp[tA]⟩
 have Qd:i<=m:=by
  rcases yb with⟨_,h,_⟩|⟨_,_,_,_,_,_,_,_,_,_,_,_,h⟩
  ·omega
  ·rcases eW m i with h1|h1
   ·have:=hI.sm m (hI.ready gJ hk (h i h1 tA));omega
   ·exact h1
 have zJ:=hI.Zw gJ hk AE Qd ho;unfold wpOpIn;simp only[ho];rcases ct Qd with rfl|Qd
 ·
   rcases yb with⟨_,h,_⟩|⟨v,o',r,yn,rfl,vL,hw,aX,jA,rfl,_,hee,XJ⟩
   ·omega
   rw[ho]at vL;cases vL;have hei:e=i:=by
    rcases ct hem with h|h
    ·exact h
    ·have he:=hI.e3 h;exact absurd (hI.ready gJ hk (hee e (bX _) h he)) (hI.e2 e (ao _) h he)
   subst hei;rw[Nat.max_self]at zJ;rw[<-yo]at hw;obtain⟨hw,hd⟩:=mK hw zJ;rw[hw,aW rfl];obtain⟨hn,hr⟩:=hT.aJ e (ao _);refine Cq hE hm (ρ:=ρ) zJ hI.rel.rel hI.ds (by rw[hr];exact Ew) (by rw[xN];exact aX) jA (fun h=>by cases h) (fun v' hv vM chain w' eD Zv Nb OF Le E7=>?_);cases hv;refine hP _ vM a w' (hI.rel.trans eD) ⟨?_,?_,eD.rel,?_,?_⟩ Zv
   ·intro t z hz;have Gs:(ops.toList.foldl (fun r o=>match o.dst with|some d=>r.del d|none=>r) (σ e).rg).get t=some z:=by
     rw[Array.foldl_toList];exact hz
    obtain⟨h1,h2⟩:=QL _ _ Gs;have hnw:∀j,¬wN ops j t:=fun j ⟨o',vL,U2⟩=>h2 o' (by
     have:=Array.mem_of_getElem? vL;exact Array.mem_toList_iff.2 this) U2
    obtain⟨y,hy,gz⟩:=hI.uY t e (ao _) (fun j _ hw=>absurd hw (hnw j)) (fun j _ hw=>absurd hw (hnw j)) z h1;rw[Nat.max_self]at gz;exact⟨y,hy,gz.mono (eD.le hI.rel.rel)⟩
   ·show a.tmps.size=yn.n;rw[OF,hn];exact hI.sz
   ·show uL vM yn.ds a.defers;rw[E7];exact hI.ds.mono (eD.le hI.rel.rel)
   ·show yn.bI=_;rw[Le,hr];exact Ew
 ·obtain⟨o',vL,hs⟩:=hT.Zx i (bX _) Qd;rw[ho]at vL;cases vL;obtain⟨hn,hr⟩:=hT.aJ i om;have XK:=hs;have wnt:∀b,cf ops (σ i).n (σ i).rg o=some b->Region.wanted o (yielded ops a.tmps)=b/\oC a.tmps.size o.dst=true:=fun b h=>by
   rw[<-yo]at h;obtain⟨h1,h2⟩:=mK h zJ;exact⟨h1,by rw[hI.sz,<-hn];exact h2⟩
  cases uC:κ i with
  |skip=>
   rw[uC]at hs;obtain⟨hw,fI⟩:=hs;obtain⟨hw,hd⟩:=wnt _ hw;rw[hw,az sp];exact⟨fun _ _=>trivial,hK _ _ _ _ (hI.put hT gJ hk AE Qd ho (by simp[uC]) (by simp[uC]) (AK _) (by rw[fI]) hd)⟩
  |pure v=>
   rw[uC]at hs;obtain⟨hw,hc,_,fI⟩:=hs;obtain⟨hw,hd⟩:=wnt _ hw;rw[hw,aW rfl];obtain⟨y,mI,hv⟩:=hI.still hE hT gJ Nc hk AE Qd ho (.inl uC);refine⟨fun _ _=>trivial,?_⟩;rw[Oper.semAt_eq _ _ _ (CW (E:=E) (by rw[hc];simp)),mI,Oper.uponIn_value];exact hK _ _ _ _ (hI.put hT gJ hk AE Qd ho (by simp[uC]) (by simp[uC]) hv (by rw[fI]) hd)
  |read v=>
   rw[uC]at hs;obtain⟨hw,hc,_,fI⟩:=hs;obtain⟨hw,hd⟩:=wnt _ hw;rw[hw,aW rfl];obtain⟨y,mI,hv⟩:=hI.still hE hT gJ Nc hk AE Qd ho (.inr uC);refine⟨fun _ _=>trivial,?_⟩;rw[Oper.semAt_eq _ _ _ (CW (E:=E) (by rw[hc];simp)),mI,Oper.uponIn_value];exact hK _ _ _ _ (hI.put hT gJ hk AE Qd ho (by simp[uC]) (by simp[uC]) hv (by rw[fI]) hd)
  |alloc v obj=>
   rw[uC]at hs;obtain⟨hw,hc,_⟩:=hs;obtain⟨hw,hd⟩:=wnt _ hw;rw[hw,aW rfl];obtain⟨y,w',dS,mI,Zy⟩:=hI.alloc hE hT gJ Nc yG hk AE Qd ho uC hd;refine⟨fun _ _=>trivial,?_⟩;rw[Oper.semAt_eq _ _ _ (CW (E:=E) (by rw[hc];simp)),mI,Oper.uponIn_value];exact hK _ _ _ _ Zy
  |pK=>
   have UP:=hI.due hT gJ hk AE Qd uC;subst UP;rw[uC]at hs;obtain⟨hw,r,aX,jA⟩:=hs;obtain⟨hw,hd⟩:=wnt _ hw;rw[hw,aW rfl];rw[Nat.max_self]at zJ;refine Cq hE hm (ρ:=ρ) zJ hI.rel.rel hI.ds (by rw[hr];exact Ew) (by rw[xN];exact aX) jA (fun _ vM v y Iz w' eD hv Nb _ _ E7=>?_) (fun v hv=>by cases hv);obtain⟨e',dS,Zy⟩:=hI.pK hT gJ Nc yG hk Qd ho hd eD hv Nb E7;exact hK _ _ _ _ Zy
theorem QM(hE:E.Ok)(hm:qh E call round)(gJ:gL ops=true)(hT:Trace E call round ops base σ κ 0 m)(yb:AL E call round ops σ κ [] 0 m x cg)(Nc:m<=ops.size)(yG:kO.next<=base)(Ew:(σ 0).bI=ρ.isSome)
 (hP:∀e dS a' w',Ext iZ kO kP dS cg.h w'->rE dS cg a' w' ρ->Na dS x e->Q e a' w'):
 ∀(fuel:Nat)(listed:Array Bool)(a:Act)(w:World)(e:Nat)(ι:cS)(S:Nat->Prop),listed.size=ops.size->(∀j,S j↔j<ops.size/\listed.getD j false=true)->(∃l:List Nat,l.length=fuel/\∀j,j<ops.size->¬S j->j∈l)->
  Inv call round ops base σ κ m kO iZ kP S a w e ι->wpAnyIn (kS ρ) 0 E.P .any ops Q fuel listed a w:=by
 have fin:∀(a:Act)(w:World)(e:Nat)(ι:cS)(S:Nat->Prop),(∀j,j<ops.size->S j)->Inv call round ops base σ κ m kO iZ kP S a w e ι->Q .normal a w:=by
  intro a w e ι S uJ hI;have hmN:m=ops.size:=by
   rcases ct Nc with h|h
   ·exact h
   ·have:=hI.sm m (uJ m h);omega
  have hem:e=m:=by
   rcases ct hI.em with h|h
   ·exact h
   ·exact absurd (uJ e om) (hI.e2 e (ao _) h (hI.e3 h))
  rcases yb with⟨rfl,_,rfl⟩|⟨_,_,_,_,_,ho,_⟩
  ·have gz:=hI.rel;have E7:=hI.ds;rw[hem,hmN,OG]at gz E7;obtain⟨hn,hr⟩:=hT.aJ m (ao _);rw[hmN]at hn hr;rw[hmN]at hP;refine hP .normal ι a w gz ⟨?_,?_,gz.rel,E7,by rw[hr];exact Ew⟩ trivial
   ·intro t z hz;obtain⟨y,hy,hv⟩:=hI.uY t ops.size om (fun j hj _=>uJ j hj) (fun j hj hw=>by obtain⟨o,ho,_⟩:=hw;have:=(bP.1 ho).1;omega) z hz;exact⟨y,hy,hv.mono lO⟩
   ·rw[hn];exact hI.sz
  ·have:=(bP.1 ho).1;omega
 have getD_eq:∀(listed:Array Bool)(j:Nat),listed.size=ops.size->j<ops.size->listed.getD j true=listed.getD j false:=fun listed j h1 h2=>by
  simp[Array.getD,h1,h2]
 have least:∀(listed:Array Bool)(S:Nat->Prop),listed.size=ops.size->(∀j,S j↔j<ops.size/\listed.getD j false=true)->Region.ready .any ops listed=[]->∀j,j<ops.size->S j:=by
  intro listed S ng hS hr j;induction j using Nat.strongRecOn with
  |_ j ih=>
   intro hj;refine(hS j).2 ⟨hj,?_⟩;cases hl:listed.getD j false with
   |true=>rfl
   |false=>
    exfalso;obtain⟨o,ho⟩:∃o,ops[j]?=some o:=⟨ops[j],by simp[hj]⟩
    have:j∈Region.ready .any ops listed:=mem_ready.2 ⟨by rw[getD_eq listed j ng hj];exact hl,o,ho,fun e he hb=>by
     have cX:=wO gJ ho (Array.mem_toList_iff.2 he) hb;exact((hS e.on).1 (ih e.on cX om)).2⟩
    rw[hr]at this;cases this
 intro fuel;induction fuel with
 |zero=>
  intro listed a w e ι S ng hS hl hI;obtain⟨l,Ee,hl⟩:=hl;have Ee:l=[]:=cw Ee;subst Ee;have uJ:∀j,j<ops.size->S j:=fun j hj=>Classical.byContradiction fun h=>by have:=hl j hj h;cases this
  refine⟨?_,fin a w e ι S uJ hI⟩;refine vF.2 fun j hj=>?_;obtain⟨h1,o,ho,_⟩:=mem_ready.1 hj;have Zz:=(bP.1 ho).1;rw[getD_eq listed j ng Zz]at h1;have:=((hS j).1 (uJ j Zz)).2;rw[h1]at this;cases this
 |succ fuel ih=>
  intro listed a w e ι S ng hS hl hI;refine⟨fun hr=>fin a w e ι S (least listed S ng hS hr) hI,fun i hi=>?_⟩;obtain⟨h1,o,ho,abV⟩:=mem_ready.1 hi;have tA:=(bP.1 ho).1;rw[getD_eq listed i ng tA]at h1;have hiS:¬S i:=fun h=>by have:=((hS i).1 h).2;rw[h1]at this;cases this
  refine OE hE hm gJ hT yb Nc yG Ew hP hI tA (fun o' vL e' XL ub=>?_) hiS (fun a' w' e' dS Zy=>?_)
  ·rw[ho]at vL;cases vL;have cX:=wO gJ ho XL ub;exact(hS e'.on).2 ⟨om,abV e' (Array.mem_toList_iff.1 XL) ub⟩
  ·refine ih (listed.setIfInBounds i true) a' w' e' dS _ (by simpa using ng) (fun j=>?_) ?_ Zy
   ·by_cases hji:j=i
    ·subst hji;simp[Array.getD,ng,tA]
    ·have:(listed.setIfInBounds i true).getD j false=listed.getD j false:=by
      have:=et (xs:=listed) (i:=i) (j:=j) (a:=true) (fun h=>hji h.symm);simp only[yj,this]
     rw[this,<-hS j];exact⟨fun h=>by rcases h with h|h;exact absurd h hji;exact h,fun h=> .inr h⟩
   ·obtain⟨l,uc,nJ⟩:=hl;refine⟨l.erase i,by rw[List.length_erase_of_mem (nJ i tA hiS),uc];rfl,fun j hj hjS=>?_⟩;have hji:j≠i:=fun h=>hjS (.inl h);exact(List.mem_erase_of_ne hji).2 (nJ j hj fun h=>hjS (.inr h))
end
theorem OH(hE:E.Ok){call:dR}{round:cO}(hm:qh E call round){ops:Array Oper}{ρ:Option Nat}{x:bt}{st cg:St}{ι:cS}{a:Act}{w:World}{Q:Exit->Act->World->Prop}
 (gJ:gL ops=true)
 (hr:lW E call round ops (gK ops) st.h.next ops.toList.zipIdx {st with h:={st.h with next:=st.h.next+ops.size}} [] []=some (x,cg)) (hS:rE ι st a w ρ) (hP:eL ι st w ρ x cg Q):
 wpAnyIn (kS ρ) 0 E.P .any ops Q ops.size (Array.replicate ops.size false) a {w with drawn:=w.drawn+1}:=by
 obtain⟨σ,κ,m,QN,_,hT,_,yb⟩:=tS ops.toList.zipIdx 0 _ [] [] (fun j=>by simp[List.getElem?_zipIdx]) sp sp hr;have Nc:m<=ops.size:=by
  rcases yb with⟨_,h,_⟩|⟨_,_,_,_,_,ho,_⟩
  ·omega
  ·have:=(bP.1 ho).1;omega
 have tf:∀i,st.h.next<=i->ι i=none:=fun i hi=>by
  cases hx:ι i with
  |none=>rfl
  |some L=>have:=hS.heap.lt i L hx;omega
 have ZA:∀c,iQ ι st.h.next ops.size c=ι:=fun c=>by
  funext i;unfold iQ;split
  ·rename_i h;exact(tf i om).symm
  ·rfl
 obtain⟨e,Qe,AM,he3,he4⟩:=Nd κ 0 m (bX _);obtain⟨sg1,sg2,XM,sg4,sg5⟩:=hT.seg (lo:=0) e Qe AM he3;have h0h:(σ 0).h={st.h with next:=st.h.next+ops.size}:=by rw[QN]
 have XN:∀i,(σ 0).h.get i=st.h.get i:=fun i=>by rw[h0h];rfl
 have h0n:(σ 0).h.next=st.h.next+ops.size:=by rw[h0h]
 refine(QM hE hm gJ hT yb Nc (kO:=st.h) (iZ:=ι) (kP:=w) (ao _) (by rw[QN];exact hS.bI) hP ops.size (Array.replicate ops.size false) a _ e ι (fun _=>False) sp
  (fun j=>⟨fun h=>h.elim,fun h=>by have:=h.2;simp[Array.getD]at this⟩) ⟨List.range ops.size,sp,fun j hj _=>by simpa using hj⟩ ?_)
 have abW:Ext ι st.h w ι (σ 0).h {w with drawn:=w.drawn+1}:=
  ⟨⟨fun i L hi=>by
   obtain⟨o,h1,h2⟩:=hS.heap.obj i L hi;exact⟨o,by rw[XN];exact h1,h2.block rfl⟩,
   fun i j Li Lj oi oj Iv hi hj Lf AJ=>hS.heap.MV i j Li Lj oi oj Iv hi hj (by rw[XN]at Lf;exact Lf) (by rw[XN]at AJ;exact AJ),
   fun i L hi=>by have:=hS.heap.lt i L hi;omega,
   fun i hi=>by rw[XN];exact hS.heap.fresh i om,
   hS.heap.MU,⟨hS.heap.base.size,hS.heap.base.old,hS.heap.base.os,fun i L o hi ho Bx=>hS.heap.base.own i L o hi (by rw[XN]at ho;exact ho) Bx⟩⟩,fun _ _=>rfl,fun i _ _=>XN i,om,ao _,
   fun b _ hn=>⟨rfl,fun⟨i,L,o,hi,ho,h1,h2⟩=>hn ⟨i,L,o,hi,by rw[XN]at ho;exact ho,h1,h2⟩⟩,rfl,rfl,rfl,fun i L hi=> .inl hi⟩
 refine
  {b0:=hS.heap.base.size,em:=AM,e1:=fun f hf hk=>absurd hk (he3 f (bX _) hf),e2:=fun f h1 h2 h3 h=>h.elim,e3:=he4,sm:=fun j h=>h.elim,down:=fun i o ho h=>h.elim,rel:=?_,nx:=om,early:=fun j v obj h=>h.elim,
   out:=fun j hj h=>absurd (tf _ om) h,late:=fun j v obj hj hk _=>sg4 j v obj (bX _) hj hk,XP:=fun j h1 h2=>?_,uY:=?_,sz:=by rw[QN];exact hS.n,ds:=?_}
 ·rw[ZA];refine abW.uM (fun i=>st.h.next<=i/\i<st.h.next+e) (fun _ _=>rfl) (fun i hi=>⟨tf i hi.1,om⟩) (fun i hi=>XM i fun j h1 h2 e1=>hi om) sg2 (fun i L hi hL=>?_) (fun i hi=>hi.1) (fun i L hi hL=>?_) hS.heap.base.size
  ·rw[tf i hi.1]at hL;cases hL
  ·rw[tf i hi.1]at hL;cases hL
 ·rw[XM _ (fun q g1 g2=>om),XN];exact hS.heap.fresh _ om
 ·intro t i hi h1 h2 z hz;rw[hT.quiet (t:=t) (lo:=0) i (bX _) hi (fun j _ hj hw=>h1 j hj hw),QN]at hz;obtain⟨y,hy,hv⟩:=hS.uY t z hz;exact⟨y,hy,by rw[ZA];exact hv⟩
 ·rw[ZA,sg1,QN];exact hS.ds
end Go.Am
namespace Go.Am
section
theorem Rb:∀(p:List Nat)(i:Nat),fh p i<=p.length
 |[],_=>by simp[fh]
 |x::r,i=>by
  simp only[fh];split
  ·simp
  ·have:=Rb r i;simp;omega
theorem rY:∀{p:List Nat}{i:Nat},i∈p->p[fh p i]?=some i
 |x::r,i,h=>by
  simp only[fh];by_cases e:x=i
  ·simp[e]
  ·rw[az e];have:i∈r:=(by rcases aq.1 h with h|h;exact absurd h.symm e;exact h);simpa using rY this
theorem zP:∀{p:List Nat}(_:p.Nodup){k i:Nat},p[k]?=some i->fh p i=k
 |x::r,hn,0,i,h=>by simp at h;subst h;simp[fh]
 |x::r,hn,k+1,i,h=>by
  simp at h;have hm:=bg h;have jX:x≠i:=fun e=>by subst e;exact(iO.1 hn).1 hm
  simp only[fh,az jX];rw[zP (iO.1 hn).2 h]
theorem AR:∀{p:List Nat}{i:Nat},i∉p->fh p i=p.length
 |[],i,h=>rfl
 |x::r,i,h=>by
  have jX:x≠i:=fun e=>h (by simp[e]);simp only[fh,az jX];rw[AR fun hm=>h (by simp[hm])];rfl
theorem De:∀{p:List Nat},Nj p=true->p.Nodup
 |[],_=>by simp
 |x::r,h=>by
  simp[Nj]at h;exact iO.2 ⟨h.1,De h.2⟩
section
variable{ops:Array Oper}{p:List Nat}
theorem sN(h:nZ ops p=true):p.length=ops.size/\p.Nodup/\∀i∈p,i<ops.size:=by
 simp[nZ]at h;exact⟨h.1.1.1,De h.1.1.2,h.1.2⟩
theorem wV(h:nZ ops p=true){i:Nat}(hi:i<ops.size):i∈p:=by
 simp[nZ]at h;exact h.2 i hi
theorem BD(h:nZ ops p=true)(k:Nat):(jS ops p)[k]?=(p[k]?).bind fun i=>(ops[i]?).map (ew p):=by
 obtain⟨h1,h2,h3⟩:=sN h;have gen:∀(l:List Nat)(k:Nat),(∀i∈l,i<ops.size)->(l.filterMap fun i=>(ops[i]?).map (ew p))[k]?=(l[k]?).bind fun i=>(ops[i]?).map (ew p):=by
  intro l;induction l with
  |nil=>intro k _;simp
  |cons x r ih=>
   intro k hl;have hx:x<ops.size:=hl x sp;simp only[List.filterMap_cons,lV hx,xI];cases k with
   |zero=>simp[lV hx]
   |succ k=>simpa using ih k fun i hi=>hl i (by simp[hi])
 simpa[jS]using gen p k h3
theorem vj(h:nZ ops p=true):(jS ops p).size=ops.size:=by
 obtain⟨h1,h2,h3⟩:=sN h;have gen:∀(l:List Nat),(∀i∈l,i<ops.size)->(l.filterMap fun i=>(ops[i]?).map (ew p)).length=l.length:=by
  intro l;induction l with
  |nil=>intro _;simp
  |cons x r ih=>
   intro hl;have hx:x<ops.size:=hl x sp;simp only[List.filterMap_cons,lV hx,xI,ai,ih fun i hi=>hl i (by simp[hi])]
 simp[jS,gen p h3,h1]
theorem yO(h:nZ ops p=true){i:Nat}(hi:i<ops.size):(jS ops p)[fh p i]?=(ops[i]?).map (ew p):=by
 rw[BD h,rY (wV h hi)];rfl
theorem BE(h:nZ ops p=true){i:Nat}(hi:¬i<ops.size):(jS ops p)[fh p i]?=none:=by
 obtain⟨h1,h2,h3⟩:=sN h;rw[AR fun hm=>hi (h3 i hm)];rw[oy];rw[vj h,h1];exact ao _
theorem GF(h:nZ ops p=true)(tm:Array Value)(i:Nat):yielded (jS ops p) tm (fh p i)=yielded ops tm i:=by
 unfold yielded;by_cases hi:i<ops.size
 ·rw[yO h hi];cases ops[i]?<;>rfl
 ·rw[BE h hi,oy om]
variable{F:Fence}{n:Nat}{P:Program}{Q:Exit->Act->World->Prop}
theorem IS(h:nZ ops p=true){i:Nat}{K K':Act->World->Prop}(hK:∀a w,K a w->K' a w){a:Act}{w:World}(hw:wpOpIn F n P (jS ops p) Q (fh p i) K a w):wpOpIn F n P ops Q i K' a w:=by
 by_cases hi:i<ops.size
 ·unfold wpOpIn at hw⊢;rw[yO h hi]at hw;rw[lV hi]at hw⊢;simp only[xI]at hw⊢;have e1:Region.wanted (ew p ops[i]) (yielded (jS ops p) a.tmps)=Region.wanted ops[i] (yielded ops a.tmps):=by
   unfold Region.wanted ew;cases hg:ops[i].guard with
   |none=>simp
   |some g=>obtain⟨j,b⟩:=g;simp[GF h]
  rw[e1]at hw;split at hw
  ·rename_i hc;rw[aW hc];exact Oper.wpIn_mono (o:=ops[i]) hK hw
  ·rename_i hc;rw[az hc];exact⟨hw.1,hK _ _ hw.2⟩
 ·unfold wpOpIn at hw⊢;rw[BE h hi]at hw;rw[oy om];exact hK _ _ hw
theorem aem{l:Array Bool}{i:Nat}(h:i<l.size)(d:Bool):l.getD i d=l[i]:=by simp[Array.getD,h]
theorem Ct{l:Array Bool}{i:Nat}(h:i<l.size):l.getD i true=l.getD i false:=by simp[Array.getD,h]
theorem IT{l:Array Bool}{i:Nat}(h:¬i<l.size)(d:Bool):l.getD i d=d:=by simp[Array.getD,h]
theorem Df(h:nZ ops p=true){l l':Array Bool}(hs:l.size=ops.size)(qU:l'.size=ops.size)(hl:∀i,i<ops.size->l'.getD (fh p i) false=l.getD i false){i:Nat}:
 i∈Region.ready .any ops l->fh p i∈Region.ready .any (jS ops p) l':=by
 obtain⟨h1,h2,h3⟩:=sN h;have cX:∀{j},j<ops.size->fh p j<ops.size:=fun{j} hj=>by
  have:=rY (wV h hj);have:=(aU.1 this).1;omega
 intro hi;obtain⟨g1,o,ho,g2⟩:=mem_ready.1 hi;have tA:=(bP.1 ho).1;refine mem_ready.2 ⟨?_,ew p o,by rw[yO h tA,ho];rfl,?_⟩
 ·rw[Ct (by rw[qU];exact cX tA),hl i tA,<-Ct (by rw[hs];exact tA)];exact g1
 ·intro e he hb;simp only[ew,Array.mem_map]at he;obtain⟨e0,Qf,rfl⟩:=he;have yG:Region.binds .any e0=true:=hb;have:=g2 e0 Qf yG;by_cases hj:e0.on<ops.size
  ·rw[hl _ hj];exact this
  ·rw[IT om]at this;cases this
theorem GG(h:nZ ops p=true):∀(fuel:Nat){l l':Array Bool}{a:Act}{w:World},l.size=ops.size->l'.size=ops.size->(∀i,i<ops.size->l'.getD (fh p i) false=l.getD i false)->
 wpAnyIn F n P .any (jS ops p) Q fuel l' a w->wpAnyIn F n P .any ops Q fuel l a w:=by
 obtain⟨h1,h2,h3⟩:=sN h;have cX:∀{j},j<ops.size->fh p j<ops.size:=fun{j} hj=>by
  have:=rY (wV h hj);have:=(aU.1 this).1;omega
 have back:∀{l l':Array Bool},l.size=ops.size->l'.size=ops.size->(∀i,i<ops.size->l'.getD (fh p i) false=l.getD i false)->Region.ready .any ops l=[]->Region.ready .any (jS ops p) l'=[]:=by
  intro l l' hs qU hl hr;refine vF.2 fun k hk=>?_;obtain⟨g1,o',vL,g2⟩:=mem_ready.1 hk;have Nn:k<ops.size:=by have:=(bP.1 vL).1;rw[vj h]at this;exact this
  obtain⟨i,hi⟩:∃i,p[k]?=some i:=⟨p[k]' om,by simp[h1,Nn]⟩
  have tA:i<ops.size:=h3 i (bg hi);have hki:fh p i=k:=zP h2 hi;have:i∈Region.ready .any ops l:=by
   rw[BD h,hi]at vL;simp only[Option.bind_some,lV tA,xI,bw]at vL;refine mem_ready.2 ⟨?_,ops[i],by simp[tA],fun e he hb=>?_⟩
   ·rw[Ct (by rw[hs];exact tA),<-hl i tA,hki,<-Ct (by rw[qU];exact Nn)];exact g1
   ·have this:l'.getD (fh p e.on) false=true:=g2 {e with on:=fh p e.on} (by rw[<-vL];simp only[ew,Array.mem_map];exact⟨e,he,rfl⟩) hb;by_cases hj:e.on<ops.size
    ·rw[hl _ hj]at this;exact this
    ·have tf:¬fh p e.on<l'.size:=(by rw[qU,AR fun hm=>hj (h3 _ hm),h1];omega);rw[IT tf]at this;cases this
  rw[hr]at this;cases this
 intro fuel;induction fuel with
 |zero=>
  intro l l' a w hs qU hl hw;simp only[wpAnyIn]at hw⊢;refine⟨?_,hw.2⟩;refine vF.2 fun i hi=>?_;have:=Df h hs qU hl hi;rw[hw.1]at this;cases this
 |succ fuel ih=>
  intro l l' a w hs qU hl hw;simp only[wpAnyIn]at hw⊢;refine⟨fun hr=>hw.1 (back hs qU hl hr),fun i hi=>?_⟩;have tA:i<ops.size:=by obtain⟨_,o,ho,_⟩:=mem_ready.1 hi;exact(bP.1 ho).1
  refine IS h (fun a' w' hk=>ih (by simpa using hs) (by simpa using qU) (fun j hj=>?_) hk) (hw.2 _ (Df h hs qU hl hi));by_cases e:j=i
  ·subst e;simp[Array.getD,hs,qU,tA,cX tA]
  ·have jX:fh p j≠fh p i:=fun e'=>by
    have a1:=rY (wV h hj);have a2:=rY (wV h tA);rw[e',a2]at a1;cases a1;exact e rfl
   have:=hl j hj;simp only[yj]at this⊢;rw[et (fun e'=>jX e'.symm),et (fun e'=>e e'.symm)];exact this
end
variable{E:Env}
theorem IU(ops:Array Oper):tT E ops=ops\/∃p,nZ ops p=true/\tT E ops=jS ops p:=by
 unfold tT;cases qj E ops with
 |false=>exact .inl rfl
 |true=>
  cases h:nZ ops (QX E ops ops.size ops.toList.zipIdx [])with
  |false=>exact .inl rfl
  |true=>exact .inr ⟨_,h,rfl⟩
theorem Ez{F:Fence}{n:Nat}{P:Program}{Q:Exit->Act->World->Prop}{ops:Array Oper}{a:Act}{w:World}
 (hw:wpAnyIn F n P .any (tT E ops) Q (tT E ops).size (Array.replicate (tT E ops).size false) a w):wpAnyIn F n P .any ops Q ops.size (Array.replicate ops.size false) a w:=by
 rcases IU (E:=E) ops with h|⟨p,hp,h⟩
 ·rw[h]at hw;exact hw
 ·rw[h,vj hp]at hw;refine GG hp ops.size sp sp (fun i hi=>?_) hw;have:∀j,(Array.replicate ops.size false).getD j false=false:=fun j=>by
   by_cases hj:j<ops.size<;>simp[Array.getD,hj]
  rw[this,this]
end
section
variable [iY]
variable{E:Env}
theorem eL.QO{ι dS:cS}{st rL cg:St}{w w':World}{ρ:Option Nat}{x:bt}{Q:Exit->Act->World->Prop}(h:eL ι st w ρ x cg Q)(he:Ext ι st.h w dS rL.h w'):eL dS rL w' ρ x cg Q:=
 fun e Ed a2 w2 AM hs hx=>h e Ed a2 w2 (he.trans AM) hs hx
theorem exists_least{p:Nat->Prop}(h:∃k,p k):∃k,p k/\∀j,p j->k<=j:=by
 obtain⟨k,hk⟩:=h;induction k using Nat.strongRecOn with
 |_ k ih=>
  by_cases hj:∃j,j<k/\p j
  ·obtain⟨j,cX,hpj⟩:=hj;exact ih j cX hpj
  ·exact⟨k,hk,fun j hpj=>by
    rcases eW j k with h|h
    ·exact absurd ⟨j,h,hpj⟩ hj
    ·exact h⟩
open Classical in
noncomputable def leastOf(p:Nat->Prop):Nat:=if h:∃k,p k then Classical.choose (exists_least h)else 0
theorem leastOf_spec{p:Nat->Prop}(h:∃k,p k):p (leastOf p)/\∀j,p j->leastOf p<=j:=by
 unfold leastOf;rw[dif_pos h];exact Classical.choose_spec (exists_least h)
theorem IA{call:dR}{round:cO}{fuel:Nat}{ρ:Option Nat}{c:Code}(hE:E.Ok)
 (ih:∀{st:St}{x:bt}{cg:St}{ι:cS}{a:Act}{w:World}{Q:Exit->Act->World->Prop},dX E call round fuel c st=some (x,cg)->rE ι st a w ρ->eL ι st w ρ x cg Q->c.wpIn (kS ρ) 0 E.P Q a w)
 {n:Nat} {st:St} {x:bt} {cg:St} {ι:cS} {a:Act} {w:World} {Q:Exit->Act->World->Prop} (hr:pR (dX E call round fuel c) n st=some (x,cg)) (hS:rE ι st a w ρ) (hP:eL ι st w ρ x cg Q):
 (Code.loop c).wpIn (kS ρ) 0 E.P Q a w:=by
 let In:Nat->Act->World->Prop:=fun k a1 w1=>∃rL vM,pR (dX E call round fuel c) k rL=some (x,cg)/\rE vM rL a1 w1 ρ/\Ext ι st.h w vM rL.h w1;let μ:Act->World->Nat:=fun a1 w1=>leastOf fun k=>In k a1 w1;refine wpIn_loop (fun a1 w1=>∃k,In k a1 w1) μ ⟨n,st,ι,hr,hS,Ext.refl hS.heap⟩ fun a1 w1 hI=>?_;obtain⟨⟨rL,vM,Ko,hS1,Qe⟩,-⟩:=leastOf_spec hI;change pR (dX E call round fuel c) (μ a1 w1) rL=_ at Ko;cases hk:μ a1 w1 with
 |zero=>rw[hk]at Ko;simp[pR]at Ko
 |succ k=>
  rw[hk]at Ko;simp only[pR]at Ko;split at Ko
  ·rename_i yn hc;refine ih hc hS1 fun e Ed a2 w2 AM uZ hx=>?_;cases e with
   |normal=>
    have tA:In k a2 w2:=⟨yn,Ed,Ko,uZ,Qe.trans AM⟩
    refine⟨⟨k,tA⟩,?_⟩;show leastOf (fun k=>In k a2 w2)<_;exact Nat.lt_succ_of_le ((leastOf_spec ⟨k,tA⟩).2 k tA)
   |_=>exact hx.elim
  ·rename_i jX;have hP1:=hP.QO Qe;cases x with
   |jL=>exact(jX _ Ko).elim
   |exit id=>exact ih Ko hS1 fun e Ed a2 w2 AM uZ hx=>by cases e<;>first|exact hP1 _ Ed a2 w2 AM uZ hx|exact hx.elim
   |ret=>exact ih Ko hS1 fun e Ed a2 w2 AM uZ hx=>by cases e<;>first|exact hP1 _ Ed a2 w2 AM uZ hx|exact hx.elim
   |iS v=>exact ih Ko hS1 fun e Ed a2 w2 AM uZ hx=>by cases e<;>first|exact hP1 _ Ed a2 w2 AM uZ hx|exact hx.elim
theorem Gt(hE:E.Ok){k:FuncId}(h:u0 E k=true):∃fn,E.P.funcs[k]?=some fn/\(fn.name== "runtime.NumGoroutine")=false/\fn.body.isNone=false:=by
 unfold u0 at h;split at h
 ·rename_i fn B7;obtain⟨h1,h2⟩:=hE.fn k fn B7;exact⟨fn,h1,h2,by cases h3:fn.body<;>simp_all⟩
 ·simp at h
theorem oE{P:Program}{b:Frame}{a:Act}{k:List Item}{cs:List Frame}{w:World}{c:Code}:step P (lone (b.atR a (.code (.scope c)::k)) cs w)= .next (lone (b.atR a (.code c:: .inScope c::k)) cs w):=
 step_lone_go (by simp[stepG,stepG.exec,Frame.atR])
theorem Ey{P:Program}{b:Frame}{a:Act}{k:List Item}{cs:List Frame}{w:World}{c:Code}:step P (lone (b.atR a (.inScope c::k)) cs w)= .next (lone (b.atR a k) cs w):=
 step_lone_go (by simp[stepG,stepG.exec,Frame.atR])
theorem yc{F:Fence}{n:Nat}{P:Program}{Q:Exit->Act->World->Prop}{a:Act}{w:World}{c:Code}(h:c.wpIn F n P (Exit.noGoto Q) a w):(Code.scope c).wpIn F n P Q a w:=by
 intro b k cs hro hb hr;have h0:(lone (b.atR a (.code (.scope c)::k)) cs w).fenced P F:=fenced_calm hb hr rfl;obtain⟨e,QP,IC,hq,CU⟩:=h b (.inScope c::k) cs hro hb hr;cases e with
 |normal=>exact⟨.normal,QP,IC,hq,.head h0 oE (StepsIn.trans CU (.one (fenced_calm hb hr rfl) Ey))⟩
 |exit id=>
  have hx:exitTo id (.inScope c::k)=exitTo id k:=by simp[exitTo]
  exact⟨.exit id,QP,IC,hq,fun k' hk=> .head h0 oE (CU.1 k' (by rw[hx];exact hk)),
   fun ZB hk=>let ⟨k₁,h1,h2⟩:=CU.2 ZB (by rw[hx];exact hk);⟨k₁,h1,.head h0 oE h2⟩⟩
 |goto l=>exact hq.elim
 |ret=>exact⟨_,QP,IC,hq,.of_steps (.one h0 oE) CU⟩
 |panic ch=>exact⟨_,QP,IC,hq,.of_steps (.one h0 oE) CU⟩
 |outgrown=>exact⟨_,QP,IC,hq,.of_steps (.one h0 oE) CU⟩
theorem oF(hE:E.Ok){call:dR}{round:cO}(hm:qh E call round){fuel:Nat}{ρ:Option Nat}:
 ∀{c:Code}{st:St}{x:bt}{cg:St}{ι:cS}{a:Act}{w:World}{Q:Exit->Act->World->Prop},dX E call round fuel c st=some (x,cg)->rE ι st a w ρ->eL ι st w ρ x cg Q->c.wpIn (kS ρ) 0 E.P Q a w:=by
 intro c;induction c with
 |skip=>
  intro st x cg ι a w Q hr hS hP;simp[dX]at hr;obtain⟨rfl,rfl⟩:=hr;exact wpIn_skip (hP _ ι a w (Ext.refl hS.heap) hS trivial)
 |ret=>
  intro st x cg ι a w Q hr hS hP;simp[dX]at hr;obtain⟨rfl,rfl⟩:=hr;exact wpIn_ret (hP _ ι a w (Ext.refl hS.heap) hS trivial)
 |exit id=>
  intro st x cg ι a w Q hr hS hP;simp[dX]at hr;obtain⟨rfl,rfl⟩:=hr;exact wpIn_exit (hP _ ι a w (Ext.refl hS.heap) hS rfl)
 |region id ops d=>
  intro st x cg ι a w Q hr hS hP;cases d with
  |false=>
   simp only[dX]at hr;exact wpIn_region_list (yK hE hm hr hS hP)
  |true=>
   simp only[dX,xO]at hr;split at hr
   ·rename_i gJ;exact wpIn_region_any hE.mixed (Ez (OH hE hm gJ hr hS hP))
   ·simp at hr
 |seq c1 c2 Ui jR=>
  intro st x cg ι a w Q hr hS hP;simp only[dX]at hr;refine wpIn_seq ?_;split at hr
  ·rename_i rL hc;refine Ui hc hS fun e vM a1 w1 he hs hx=>?_;cases e with
   |normal=>exact jR hr hs (hP.QO he)
   |_=>exact hx.elim
  ·rename_i jX;refine Ui hr hS fun e vM a1 w1 he hs hx=>?_;cases x with
   |jL=>exact(jX _ hr).elim
   |_=>cases e<;>first|exact hP _ vM a1 w1 he hs hx|exact hx.elim
 |cond o c1 c2 Ui jR=>
  intro st x cg ι a w Q hr hS hP;simp only[dX]at hr;split at hr
  ·rename_i hc;exact wpIn_cond (bV hS.uY hc).nD (Ui hr hS hP)
  ·rename_i hc;exact wpIn_cond (bV hS.uY hc).nD (jR hr hS hP)
  ·simp at hr
 |block id c ih=>
  intro st x cg ι a w Q hr hS hP;simp only[dX]at hr;refine wpIn_block ?_;split at hr
  ·rename_i wE rL hc;split at hr
   ·rename_i hid;simp at hr;obtain⟨rfl,rfl⟩:=hr;refine ih hc hS fun e vM a1 w1 he hs hx=>?_;cases e with
    |exit j=>
     have:wE=j:=hx;subst this;simp only[Exit.inBlock,hid,lM];exact hP _ vM a1 w1 he hs trivial
    |_=>exact hx.elim
   ·rename_i hid;simp at hr;obtain⟨rfl,rfl⟩:=hr;refine ih hc hS fun e vM a1 w1 he hs hx=>?_;cases e with
    |exit j=>
     have:wE=j:=hx;subst this;simp only[Exit.inBlock,hid,iW];exact hP _ vM a1 w1 he hs rfl
    |_=>exact hx.elim
  ·rename_i jX;refine ih hr hS fun e vM a1 w1 he hs hx=>?_;cases x with
   |exit wE=>exact(jX _ _ hr).elim
   |_=>cases e<;>first|exact hP _ vM a1 w1 he hs hx|exact hx.elim
 |loop c ih=>
  intro st x cg ι a w Q hr hS hP;simp only[dX]at hr;exact IA hE ih hr hS hP
 |label l=>
  intro st x cg ι a w Q hr hS hP;simp[dX]at hr;obtain⟨rfl,rfl⟩:=hr;exact wpIn_label (hP _ ι a w (Ext.refl hS.heap) hS trivial)
 |scope c ih=>
  intro st x cg ι a w Q hr hS hP;simp only[dX]at hr;refine yc (ih hr hS fun e vM a1 w1 he hs hx=>?_);cases e with
  |goto l=>cases x<;>exact hx.elim
  |_=>exact hP _ vM a1 w1 he hs hx
 |rangeFunc f ps ae b Ui jR=>
  intro st x cg ι a w Q hr hS hP;simp only[dX]at hr;split at hr
  ·rename_i g ko hf;split at hr
   ·simp at hr
   ·rename_i CN;simp at CN;obtain⟨Ew,ym⟩:=CN;have hρ:ρ=none:=by
     cases ρ with
     |none=>rfl
     |some l=>have:=hS.bI;rw[Ew]at this;cases this
    subst hρ;split at hr
    ·rename_i v h2 QR;split at hr
     ·simp at hr
     ·rename_i stt vb n rg Kp as' b' ZC nJ;refine wpIn_rangeFunc fun abX _=>?_;obtain⟨fn,B7,CT,XC⟩:=Gt hE ym;obtain⟨cs,Uh,zn⟩:∃cs,a.eval f= .func (.func g) #[] cs/\bF ι ko cs.toList:=by
       have gz:=bV hS.uY hf;cases h1:a.eval f<;>rw[h1]at gz<;>cases gz;exact⟨_,rfl,‹_›,‹_›⟩
      let L0:Loc:={b:=w.heap.size,base:=0,top:=0,es:=0,rw:=true}
      let w0:World:=w.alloc (.deferred (some []));have Qf:Ext ι st.h w (ι.add st.h.next L0) (st.h.alloc .sI).2 w0:=
       hS.heap.alloc (w0:=w) rfl rfl rfl rfl _ _ L0 rfl (heap_alloc_new w _)
      let L1:Loc:={b:=w0.heap.size,base:=0,top:=0,es:=0,rw:=true}
      let aeF:Loop:={state:= .ready,pending:=none,fn:=abX,tmps:=a.tmps,params:=ps,assign:=ae,body:=b,defers:=w.heap.size}
      let w1:World:=w0.alloc (.loop aeF);let h0:=(st.h.alloc .sI).2;have abY:cK (ι.add st.h.next L0) st.rg a.tmps:=hS.uY.mono (Qf.le hS.heap);have aeG:(ι.add st.h.next L0).le ((ι.add st.h.next L0).add h0.next L1):=fun i Li hi=>by
       rw[cS.cm];exact hi;have:=Qf.rel.lt i Li hi;exact Nat.ne_of_lt this
      have Qe:Ext (ι.add st.h.next L0) h0 w0 ((ι.add st.h.next L0).add h0.next L1) (h0.alloc (.loop .ready none st.n st.rg ps ae b)).2 w1:=
       Qf.rel.alloc (w0:=w0) rfl rfl rfl rfl _ _ L1 rfl ⟨a.tmps,w.heap.size,abX,heap_alloc_new w0 _,abY.mono aeG,hS.n⟩
      have abZ:=Qf.trans Qe;refine⟨w0.heap.size,[{target:= .collected w.heap.size,args:= #[]}],w1,{target:= .fn (.func g) cs,args:= #[.func (.yield w0.heap.size) #[] #[]]},w1,g,
       #[.func (.yield w0.heap.size) #[] #[]]++cs,w1,?_,?_,fun _ _=>trivial,?_,fun h=>by simp[kS,Fence.wide]at h,?_⟩
      ·simp only[Instr.enterLoop,Sem.run_bind,Sem.run_pure,run_newObj,Result.andThen_ok,kS];rfl
      ·show(resolve a.eval (rangeCall f w0.heap.size) 0).run E.P w1=_;simp only[resolve,rangeCall,Deferred.ofValue,Uh];simp[Act.eval]
      ·simp only[invoke,callFunc,Sem.run_bind,run_program,Result.andThen_ok,B7,CT,XC];simp
      ·rw[zK];have iy:bF ((ι.add st.h.next L0).add h0.next L1) (.CG h0.next::ko) (#[Value.func (.yield w0.heap.size) #[] #[]]++cs).toList:=by
        simp only[Array.toList_append,bZ,cd];exact bF.cons (.CG (L:=L1) (cS.add_same _ _ _)) (zn.mono (abZ.le hS.heap))
       refine(hm.call QR Qe.rel iy).mono fun e w3 he=>?_;obtain⟨XQ,eD,tz⟩:=he;cases e with
       |panicked chain=>exact tz.elim
       |outgrown=>exact tz.elim
       |returned y=>
        have QS:=abZ.trans eD;have ID:h0.next<(h0.alloc (.loop .ready none st.n st.rg ps ae b)).2.next:=Nat.lt_succ_self _
        have hi3:XQ h0.next=some L1:=(by rw[eD.aJ _ ID,cS.add_same]);have ac0:st.h.next<h0.next:=Nat.lt_succ_self _;have hi0:XQ st.h.next=some L0:=by
         rw[eD.aJ _ (Nat.lt_trans ac0 ID),cS.cm _ _ (Nat.ne_of_lt ac0),cS.add_same]
        obtain⟨ob,Km,hO⟩:=eD.rel.obj _ _ hi3;rw[nJ]at Km;cases Km;obtain⟨tm,df,Bz,hb3,ac1,aeH⟩:=hO;have XI:(Instr.getLoop L1.b).run E.P w3= .ok {state:=stt,pending:=vb,fn:=Bz,tmps:=tm,params:=Kp,assign:=as',body:=b',defers:=df} w3:=by
         simp[Instr.getLoop,getObj,Sem.run,hb3,Sem.bind,Bind.bind,Pure.pure,Sem.pure]
        have aeI:(stt==LoopState.busy)=false:=by
         cases stt with
         |busy=>exact(ZC rfl).elim
         |_=>rfl
        let w4:World:={w3 with heap:=w3.heap.setIfInBounds L1.b (.loop {state:= .exhausted,pending:=vb,fn:=Bz,tmps:=tm,params:=Kp,assign:=as',body:=b',defers:=df})}
        have aeJ:L1.b<w3.heap.size:=(bP.1 hb3).1;have QT:(Instr.endLoop L1.b).run E.P w3= .ok vb w4:=by
         simp only[Instr.endLoop,Sem.run_bind,XI,Result.andThen_ok,aeI];have UQ:∀o',(setObj L1.b o').run E.P w3= .ok () {w3 with heap:=w3.heap.setIfInBounds L1.b o'}:=fun o'=>by simp[setObj,Sem.run,hb3]
         simp only[gR,iW,Sem.run_bind,Sem.run_pure,Result.andThen_ok,UQ];rfl
        have wH:Ext XQ h2 w3 XQ (h2.set h0.next (.loop .exhausted vb n rg Kp as' b')) w4:=by
         refine eD.rel.OD hi3 nJ rfl ⟨tm,df,Bz,?_,ac1,aeH⟩ (by simp[w4]) (fun bb jX=>?_) rfl rfl rfl
         ·simp[w4,aeJ]
         ·simp only[w4];rw[et (fun e=>jX e.symm)]
        have QU:=QS.trans wH;let a':Act:={a with defers:=[{target:= .collected w.heap.size,args:= #[]}]++a.defers}
        have Nf:rE XQ {st with h:=h2.set h0.next (.loop .exhausted vb n rg Kp as' b'),ds:= .mark st.h.next::st.ds} a' w4 none:=
         ⟨hS.uY.mono (QS.le hS.heap),hS.n,wH.rel,⟨⟨L0,hi0,rfl⟩,hS.ds.mono (QS.le hS.heap)⟩,hS.bI⟩
        refine⟨vb,w4,QT,?_⟩;split at hr
        ·rename_i _;simp at hr;obtain⟨rfl,rfl⟩:=hr;exact hP .normal XQ a' w4 QU Nf trivial
        ·simp at hr;obtain⟨rfl,rfl⟩:=hr;exact wpIn_ret (hP .ret XQ a' w4 QU Nf trivial)
        ·rename_i id;simp at hr;obtain⟨rfl,rfl⟩:=hr;exact wpIn_exit (hP (.exit id) XQ a' w4 QU Nf rfl)
        ·simp at hr
     ·simp at hr
    ·simp at hr
  ·simp at hr
 |_=>intro st x cg ι a w Q hr hS hP;simp[dX]at hr
end
section
variable [iY]
variable{E:Env}
theorem E8:∀(l:List AV)(i:Nat)(t:T AV)(j:Nat),(oI l i t).get j=if i<=j/\j<i+l.length then l[j-i]? else t.get j
 |[],i,t,j=>by simp only[oI,bz];rw[az om]
 |v::r,i,t,j=>by
  simp only[oI];rw[E8 r (i+1) (t.set v i) j,T.aM];by_cases h1:j=i
  ·subst h1;rw[az om,aW rfl,aW ⟨ao _,sp⟩];simp
  ·by_cases h2:i+1<=j/\j<i+1+r.length
   ·rw[aW h2,aW ⟨om,by simp;omega⟩];have:j-i=(j-(i+1))+1:=om;rw[this];simp
   ·rw[az h2,az h1,az (by simp;omega)]
theorem IE{ι:cS}{args:List AV}{cp:Array Value}(h:bF ι args cp.toList)(n:Nat):cK ι (oI args 0 .nil) (cp++Array.replicate (n-cp.size) undef):=by
 intro j x hx;rw[E8]at hx;split at hx
 ·obtain⟨y,hy,hr⟩:=h.get hx;refine⟨y,?_,hr⟩;have cX:=(aU.1 hy).1;rw[zm (by simpa using cX)];simpa using hy
 ·simp[T.get]at hx
def yL(tm:Array Value):ResultVar->Sem Value
 | .tmp t=>pure (tm.getD t undef)
 | .cell a t=>do loadVar t (<-asAddr (tm.getD a undef))
theorem EA(hE:E.Ok){ι:cS}{rg:T AV}{tm:Array Value}{h:ah}{w:World}{v:AV}(hR:cK ι rg tm)(hH:dV ι h w):∀(rv:ResultVar),Cr E rg h rv=some v->
 ∃y,(yL tm rv).run E.P w= .ok y w/\bS ι v y
 | .tmp t,hv=>by
  obtain⟨y,hy,hr⟩:=hR t v hv;exact⟨y,by simp[yL,hy],hr⟩
 | .cell a t,hv=>by
  simp only[Cr]at hv;split at hv
  ·rename_i i off n hp K9 hs;obtain⟨y,hy,hr⟩:=hR a _ hp;obtain⟨L,hL,rfl⟩:=hr.kR;simp at hv;obtain⟨cs,zn,rfl⟩:=hv;obtain⟨hn,ys,gz,zH⟩:=jO hH hL zn;have hl:=run_loadCells_list (P:=E.P) w _ ys zH;have XF:ys.length=n:=(by rw[<-gz.1];exact hn);rw[XF]at hl;exact⟨.agg ys.toArray,by simp[yL,hy,asAddr,loadVar,rW hE K9,eI hE hs,hl],.La (by simpa using gz)⟩
  ·rename_i i off n hp K9 hs;obtain⟨y,hy,hr⟩:=hR a _ hp;obtain⟨L,hL,rfl⟩:=hr.kR;obtain⟨z,hz,hr⟩:=BB hH hL hv;exact⟨z,by simp[yL,hy,asAddr,loadVar,rW hE K9,hz],hr⟩
  ·simp at hv
theorem wP(hE:E.Ok){ι:cS}{rg:T AV}{tm:Array Value}{h:ah}{w:World}(hR:cK ι rg tm)(hH:dV ι h w):∀(rs:List ResultVar)(vs:List AV),fL E rg h rs=some vs->
 ∃ys,(rs.mapM (yL tm)).run E.P w= .ok ys w/\bF ι vs ys
 |[],vs,h=>by simp[fL]at h;subst h;exact⟨[],sp,bF.nil _⟩
 |rv::rs,vs,hv=>by
  simp only[fL]at hv;split at hv
  ·rename_i v vs' h1 h2;simp at hv;subst hv;obtain⟨y,hy,hr⟩:=EA hE hR hH rv h1;obtain⟨ys,hys,Et⟩:=wP hE hR hH rs vs' h2;refine⟨y::ys,?_,bF.cons hr Et⟩;rw[List.mapM_cons,Sem.run_bind,hy,Result.andThen_ok,Sem.run_bind,hys,Result.andThen_ok,Sem.run_pure]
  ·simp at hv
theorem yp(hE:E.Ok){ι:cS}{rg:T AV}{tm:Array Value}{h:ah}{w:World}{fn:Func}{vs:List AV}(hR:cK ι rg tm)(hH:dV ι h w)(hv:fL E rg h fn.results.toList=some vs):
 ∃y,(results fn tm).run E.P w= .ok y w/\bS ι (oneOf vs) y:=by
 obtain⟨ys,hys,Et⟩:=wP hE hR hH _ _ hv;have mI:(results fn tm).run E.P w= .ok (if h:ys.toArray.size=1 then ys.toArray[0]else .tuple ys.toArray) w:=by
  have h1:results fn tm=(fn.results.mapM (yL tm)>>=fun vs=>pure (if h:vs.size=1 then vs[0]else .tuple vs)):=by
   unfold results;have:(fun rv:ResultVar=>(match rv with| .tmp t=>pure (tm.getD t undef)| .cell a t=>do loadVar t (<-asAddr (tm.getD a undef)):Sem Value))=yL tm:=by
    funext rv;cases rv<;>rfl
   rw[<-this];rfl
  rw[h1,Array.mapM_eq_mapM_toList,Sem.run_bind,Sem.run_map,hys];rfl
 refine⟨_,mI,?_⟩
 match vs,ys,Et with
 |[],[],_=>exact .Er (bF.nil _)
 |[v],[y],Et=>exact Et.2 0 _ _ rfl rfl
 |v::v2::vs,y::y2::ys,Et=>
  rw[dif_neg sp];exact .Er (by simpa using Et)
 |[],_::_,Et=>simp[bF]at Et
 |_::_,[],Et=>simp[bF]at Et
 |[_],_::_::_,Et=>simp[bF]at Et
 |_::_::_,[_],Et=>simp[bF]at Et
theorem Ng{ι:cS}:∀(ps:List Tmp)(args:List AV)(vs:List Value)(rg:T AV)(tm:Array Value),cK ι rg tm->bF ι args vs->vs.length=ps.length->(∀p∈ps,p<tm.size)->
 cK ι ((ps.zip args).foldl (fun r x=>r.set x.2 x.1) rg) ((ps.zip vs).foldl (fun t x=>t.setIfInBounds x.1 x.2) tm)/\((ps.zip vs).foldl (fun t x=>t.setIfInBounds x.1 x.2) tm).size=tm.size
 |[],_,_,rg,tm,hR,_,_,_=>⟨by simpa using hR,sp⟩
 |p::ps,[],vs,rg,tm,hR,hv,hl,_=>by have:=hv.1;simp at this;simp[<-this]at hl
 |p::ps,x::args,[],rg,tm,hR,hv,hl,_=>by simp at hl
 |p::ps,x::args,y::vs,rg,tm,hR,hv,hl,hb=>by
  simp only[List.zip_cons_cons,j5];have hxy:bS ι x y:=hv.2 0 _ _ rfl rfl;have Nh:bF ι args vs:=⟨by have:=hv.1;simpa using this,fun i a b ha hb=>hv.2 (i+1) a b (by simpa using ha) (by simpa using hb)⟩
  have hp:p<tm.size:=hb p sp;have:=Ng ps args vs (rg.set x p) (tm.setIfInBounds p y) (cK.put (a:={tmps:=tm,defers:=[]}) (d:=some p) hR (by simpa[oC]using hp) hxy) Nh (by simpa using hl)
   (fun q hq=>by simpa using hb q (by simp[hq]))
  exact⟨this.1,by rw[this.2];simp⟩
theorem BC{P:Program}{w:World}{l:Nat}{r:Loop}(hb:w.heap[l]?=some (.loop r)):(Instr.getLoop l).run P w= .ok r w:=by
 simp[Instr.getLoop,getObj,Sem.run,hb,Sem.bind,Bind.bind,Pure.pure,Sem.pure]
theorem CX{P:Program}{w:World}{l:Nat}{r:Loop}(hb:w.heap[l]?=some (.loop r))(o':Obj):(setObj l o').run P w= .ok () {w with heap:=w.heap.setIfInBounds l o'}:=by
 simp only[setObj,Sem.run,hb]
theorem dV.zL{ι:cS}{h:ah}{w:World}(hH:dV ι h w){l:Nat}{L:Loc}{st cg:LoopState}{pd pd':Option Code}{n:Nat}{rg:T AV}{ps:Array Tmp}{ae b:Code}{tm:Array Value}{df:Nat}{fn:FuncId}
 (hi:ι l=some L) (hl:h.get l=some (.loop st pd n rg ps ae b)) (hb:w.heap[L.b]?=some (.loop {state:=st,pending:=pd,fn:=fn,tmps:=tm,params:=ps,assign:=ae,body:=b,defers:=df})) (hR:cK ι rg tm) (hn:tm.size=n):
 Ext ι h w ι (h.set l (.loop cg pd' n rg ps ae b)) {w with heap:=w.heap.setIfInBounds L.b (.loop {state:=cg,pending:=pd',fn:=fn,tmps:=tm,params:=ps,assign:=ae,body:=b,defers:=df})}:=by
 have cX:L.b<w.heap.size:=(bP.1 hb).1;refine hH.OD hi hl rfl ⟨tm,df,fn,by simp[cX],hR,hn⟩ sp (fun bb jX=>?_) rfl rfl rfl;show(w.heap.setIfInBounds L.b _)[bb]?=_;rw[et (fun e=>jX e.symm)]
theorem Gu(hE:E.Ok){call:dR}{round:cO}(hm:qh E call round){fuel:Nat}
 {l:Nat} {args:List AV} {h:ah} {v:AV} {h':ah} {ι:cS} {w:World} {L:Loc} {st:LoopState} {pd:Option Code} {n:Nat} {rg:T AV} {ps:Array Tmp} {ae b:Code} {tm:Array Value} {df:Nat} {fn:FuncId} {vs:List Value}
 (hr:vc E call round fuel l args h=some (v,h')) (hH:dV ι h w) (hi:ι l=some L) (hl:h.get l=some (.loop st pd n rg ps ae b))
 (hb:w.heap[L.b]?=some (.loop {state:=st,pending:=pd,fn:=fn,tmps:=tm,params:=ps,assign:=ae,body:=b,defers:=df})) (hR:cK ι rg tm) (hv:bF ι args vs) (hlen:vs.length=ps.size):
 RoundIn Fence.wide 0 E.P L.b fn ((ps.zip vs.toArray).foldl (fun t x=>t.setIfInBounds x.1 x.2) tm) ae b w fun e w'=>∃dS y,e= .returned y/\Ext ι h w dS h' w'/\bS dS v y:=by
 have ac2:tm.size=n:=by
  obtain⟨o,ho,hO⟩:=hH.obj l L hi;rw[hl]at ho;cases ho;obtain⟨tm',df',Bz,ub,_,rM⟩:=hO;rw[hb]at ub;cases ub;exact rM
 unfold vc at hr;simp only[hl]at hr;cases st with
 |ready=>
  simp only at hr;split at hr
  ·rename_i hc;obtain⟨Kl,zp⟩:=hc;have XR:=Ng ps.toList args vs rg tm hR hv (by simpa using hlen) (fun p hp=>by
    rw[ac2];have:=(Array.all_eq_true.1 zp)
    obtain⟨i,hi,rfl⟩:=kg hp;have:=this i (by simpa using hi);simpa using this)
   have htm:(ps.zip vs.toArray).foldl (fun t x=>t.setIfInBounds x.1 x.2) tm=(ps.toList.zip vs).foldl (fun t x=>t.setIfInBounds x.1 x.2) tm:=by
    rw[<-Array.foldl_toList,Array.toList_zip]
   rw[htm];split at hr
   ·rename_i rL ac3;split at hr
    ·rename_i pd1 n1 rg1 ps1 as1 b1 uc;split at hr
     ·rename_i x yn ym;refine roundIn_of_wpIn (F:=Fence.wide) trivial ?_;show ae.wpIn (kS (some L.b)) 0 E.P _ _ w;refine oF hE hm ac3 (ι:=ι) ⟨XR.1,by rw[XR.2];exact ac2,hH,trivial,rfl⟩ fun e vM a1 w1 Qe Gv Qa=>?_;cases e with
      |normal=>
       have hi1:vM l=some L:=(by rw[Qe.aJ l (hH.lt l L hi)];exact hi);obtain⟨o1,Ge,hO1⟩:=Gv.heap.obj l L hi1;rw[uc]at Ge;cases Ge;obtain⟨tm1,df1,fn1,E9,hR1,Lg⟩:=hO1;have wH:=Gv.heap.zL (cg:= .busy) (pd':=pd1) hi1 uc E9 hR1 Lg;refine⟨{w1 with heap:=w1.heap.setIfInBounds L.b (.loop {state:= .busy,pending:=pd1,fn:=fn1,tmps:=tm1,params:=ps1,assign:=as1,body:=b1,defers:=df1})},?_,?_⟩
       ·simp only[Instr.beginRound,Sem.run_bind,BC E9,Result.andThen_ok,CX E9];rfl
       ·show b.wpIn (kS (some L.b)) 0 E.P _ _ _;refine oF hE hm ym (ι:=vM) ⟨Gv.uY,Gv.n,wH.rel,Gv.ds,Gv.bI⟩ fun e2 Ed a2 w2 AM uZ uG=>?_;have UT:Ed l=some L:=(by rw[AM.aJ l (wH.rel.lt l L hi1)];exact hi1);have uJ:=(Qe.trans wH).trans AM;split at hr
        ·rename_i st3 pd3 n3 rg3 ps3 as3 b3 E7 nJ;obtain⟨o2,B9,hO2⟩:=uZ.heap.obj l L UT;rw[nJ]at B9;cases B9;obtain⟨tm2,df2,fn2,jJ,hR2,Ca⟩:=hO2;have QT:∀j:Option Code,(Instr.endRound L.b j).run E.P w2= .ok (.bool j.isNone) {w2 with heap:=w2.heap.setIfInBounds L.b (.loop {state:=if j.isNone then .ready else .done,pending:=j,fn:=fn2,tmps:=tm2,params:=ps3,assign:=as3,body:=b3,defers:=df2})}:=fun j=>by
          simp only[Instr.endRound,Sem.run_bind,BC jJ,Result.andThen_ok,CX jJ,Sem.run_pure]
         split at hr
         ·cases e2<;>first|exact uG.elim|skip
          simp at hr;obtain⟨rfl,rfl⟩:=hr;exact⟨_,_,QT none,Ed,_,rfl,uJ.trans (uZ.heap.zL UT nJ jJ hR2 Ca),.bool _⟩
         ·cases e2<;>first|exact uG.elim|skip
          simp at hr;obtain⟨rfl,rfl⟩:=hr;exact⟨_,_,QT (some .ret),Ed,_,rfl,uJ.trans (uZ.heap.zL UT nJ jJ hR2 Ca),.bool _⟩
         ·rename_i id;cases e2<;>first|exact uG.elim|skip
          rename_i wE;have:id=wE:=uG;subst this;simp at hr;obtain⟨rfl,rfl⟩:=hr;exact⟨_,_,QT (some (.exit id)),Ed,_,rfl,uJ.trans (uZ.heap.zL UT nJ jJ hR2 Ca),.bool _⟩
         ·simp at hr
        ·simp at hr
      |_=>exact Qa.elim
     ·simp at hr
    ·simp at hr
   ·simp at hr
  ·simp at hr
 |_=>simp at hr
end
end Go.Am
