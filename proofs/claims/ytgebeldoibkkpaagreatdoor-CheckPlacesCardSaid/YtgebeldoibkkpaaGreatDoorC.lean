/- Lemmas for CheckPlaces; each states its own conditions. -/
import Derived.Lib.Bytealg
import GoSem.ClaimChange
import Derived.Lib.LaidTab
import Derived.Shelf.Strconv.Itoa4
import Derived.Lib.SlTrimSet
import Derived.Lib.AtoiAll
import Derived.Lib.ConvBytes
import Derived.Shelf.Strings.Trim
import Derived.Below
import Derived.KernelRfl
import Derived.Test.YtgebeldoibkkpaaGreatDoorB
set_option maxRecDepth 100000
set_option maxHeartbeats 0
set_option linter.unusedVariables false
set_option linter.unusedSimpArgs false
set_option linter.unusedSectionVars false
namespace Go.Am
section
variable [iY]
variable{E:Env}
def kW(ι:cS)(p:Option AV)(u:FrameMode):Prop:=
 match p with
 |some v=>∃y,u= .panicking [{v:=y,recovered:=false}]/\bS ι v y
 |none=>u= .returning\/∃y,u= .panicking [{v:=y,recovered:=true}]
def zM(ι:cS)(p:Option AV)(u:FrameMode):Prop:=
 match p with
 |some v=>∃y,u= .panicking [{v:=y,recovered:=false}]/\bS ι v y
 |none=>u= .returning
theorem zM.nW{ι:cS}{p:Option AV}{u:FrameMode}(h:zM ι p u):kW ι p u:=by
 cases p with
 |none=>exact .inl h
 |some v=>exact h
theorem kW.settle{ι:cS}{p:Option AV}{u:FrameMode}(h:kW ι p u):zM ι p (settle u):=by
 cases p with
 |none=>
  rcases h with rfl|⟨y,rfl⟩
  ·rfl
  ·rfl
 |some v=>obtain⟨y,rfl,hv⟩:=h;exact⟨y,rfl,hv⟩
theorem kW.mono{ι dS:cS}(hle:ι.le dS){p:Option AV}{u:FrameMode}(h:kW ι p u):kW dS p u:=by
 cases p with
 |none=>exact h
 |some v=>obtain⟨y,h1,hv⟩:=h;exact⟨y,h1,hv.mono hle⟩
theorem kW.run{ι:cS}{p:Option AV}{u:FrameMode}(h:kW ι p u):u≠ .run:=by
 cases p with
 |none=>rcases h with rfl|⟨y,rfl⟩<;>simp
 |some v=>obtain⟨y,rfl,_⟩:=h;simp
def iN(ι:cS)(st:St)(w:World)(wc:Frame)(cs:List Frame)(x:bt)(cg:St)(p':Option AV)(Q:Exit->Act->List Frame->World->Prop):Prop:=
 ∀e dS a' u' w',Ext ι st.h w dS cg.h w'->rE dS cg a' w' none->kW dS p' u'->Na dS x e->Q e a' ({wc with mode:=u'}::cs) w'
theorem qi(hE:E.Ok){ops:Array Oper}{wc:Frame}{cs:List Frame}{x:bt}{cg:St}{p':Option AV}{Q:Exit->Act->List Frame->World->Prop}:
 ∀{l:List Oper}{k:Nat}{st:St}{p:Option AV}{ι:cS}{a:Act}{w:World}{u:FrameMode},(∀j,l[j]?=ops[k+j]?)->Cb E ops l st p=some (x,cg,p')->rE ι st a w none->kW ι p u->
  iN ι st w wc cs x cg p' Q->wpOpsSIn Fence.wide 0 E.P ops Q (List.range' k l.length) a ({wc with mode:=u}::cs) w
 |[],k,st,p,ι,a,w,u,hl,hr,hS,hM,hP=>by
  simp[Cb]at hr;obtain⟨rfl,rfl,rfl⟩:=hr;exact hP .normal ι a u w (Ext.refl hS.heap) hS hM trivial
 |o::l,k,st,p,ι,a,w,u,hl,hr,hS,hM,hP=>by
  have h0:ops[k]?=some o:=by simpa using(hl 0).symm
  have Lh:∀j,l[j]?=ops[k+1+j]?:=fun j=>by have:=hl (j+1);simpa[aI,Nat.add_comm 1 j]using this
  simp only[ai,List.range'_succ,wpOpsSIn,h0];refine⟨fun _ _=>trivial,?_⟩;simp only[Cb]at hr;split at hr
  ·simp at hr
  ·rename_i hw;obtain⟨hw,hd⟩:=mK hw hS.uY;rw[<-hS.n]at hd;rw[hw,az sp];exact qi hE Lh hr ⟨hS.uY.put hd (AK _),by rw[nF];exact hS.n,hS.heap,by rw[jt];exact hS.ds,hS.bI⟩ hM hP
  ·rename_i hw;obtain⟨hw,hd⟩:=mK hw hS.uY;rw[<-hS.n]at hd;rw[hw,aW rfl];split at hr
   ·rename_i v h2 aX;have fU:=xM hE hS.uY hS.heap aX;revert fU;generalize (execOp a.eval o).run E.P w=res;intro fU;cases res with
    |halt hx w'=>
     cases hx with
     |panic v=>obtain⟨x',pJ,_⟩:=fU;cases pJ
     |_=>exact fU.elim
    |ok nx w'=>
     cases nx with
     |value y=>
      obtain⟨v',dS,tB,hv,eD⟩:=fU;cases tB;refine qi hE (ι:=dS) Lh hr ⟨(hS.uY.mono (eD.le hS.heap)).put hd hv,by rw[nF];exact hS.n,eD.rel,by rw[jt];exact hS.ds.mono (eD.le hS.heap),hS.bI⟩ (hM.mono (eD.le hS.heap)) ?_;exact fun e Ed a2 u2 w2 he hs hm hx=>hP e Ed a2 u2 w2 (eD.trans he) hs hm hx
     |skip=>obtain⟨dS,pJ,_⟩:=fU;cases pJ
     |enter f args=>obtain⟨ae,pJ,_⟩:=fU;cases pJ
     |round l f tmps ae b=>obtain⟨_,_,_,_,_,_,_,_,_,_,_,pJ,_⟩:=fU;cases pJ
     |defer d=>obtain⟨_,_,_,_,pJ,_⟩:=fU;cases pJ
     |recover=>obtain⟨pJ,_⟩:=fU;cases pJ
     |_=>exact fU.elim
   ·rename_i h2 aX;have fU:=xM hE hS.uY hS.heap aX;revert fU;generalize (execOp a.eval o).run E.P w=res;intro fU;cases res with
    |halt hx w'=>
     cases hx with
     |panic v=>obtain⟨x',pJ,_⟩:=fU;cases pJ
     |_=>exact fU.elim
    |ok nx w'=>
     cases nx with
     |value y=>obtain⟨v',dS,tB,_⟩:=fU;cases tB
     |skip=>
      obtain⟨dS,_,eD⟩:=fU;refine qi hE (ι:=dS) Lh hr ⟨(hS.uY.mono (eD.le hS.heap)).put hd (AK _),by rw[nF];exact hS.n,eD.rel,by rw[jt];exact hS.ds.mono (eD.le hS.heap),hS.bI⟩ (hM.mono (eD.le hS.heap)) ?_;exact fun e Ed a2 u2 w2 he hs hm hx=>hP e Ed a2 u2 w2 (eD.trans he) hs hm hx
     |enter f args=>obtain⟨ae,pJ,_⟩:=fU;cases pJ
     |round l f tmps ae b=>obtain⟨_,_,_,_,_,_,_,_,_,_,_,pJ,_⟩:=fU;cases pJ
     |defer d=>obtain⟨_,_,_,_,pJ,_⟩:=fU;cases pJ
     |recover=>obtain⟨pJ,_⟩:=fU;cases pJ
     |_=>exact fU.elim
   ·rename_i h2 aX;have fU:=xM hE hS.uY hS.heap aX;revert fU;generalize (execOp a.eval o).run E.P w=res;intro fU;cases res with
    |halt hx w'=>
     cases hx with
     |panic v=>obtain⟨x',pJ,_⟩:=fU;cases pJ
     |_=>exact fU.elim
    |ok nx w'=>
     cases nx with
     |value y=>obtain⟨v',dS,tB,_⟩:=fU;cases tB
     |skip=>obtain⟨dS,pJ,_⟩:=fU;cases pJ
     |enter f args=>obtain⟨ae,pJ,_⟩:=fU;cases pJ
     |round l f tmps ae b=>obtain⟨_,_,_,_,_,_,_,_,_,_,_,pJ,_⟩:=fU;cases pJ
     |defer d=>obtain⟨_,_,_,_,pJ,_⟩:=fU;cases pJ
     |recover=>
      obtain⟨_,rfl,rfl⟩:=fU;cases p with
      |none=>
       have ZD:recoverD ({wc with mode:=u}::cs)=none:=by
        rcases hM with rfl|⟨y,rfl⟩<;>rfl
       simp only[ZD];exact qi hE Lh hr ⟨hS.uY.put hd .nilIface,by rw[nF];exact hS.n,hS.heap,by rw[jt];exact hS.ds,hS.bI⟩ hM hP
      |some v=>
       obtain⟨y,rfl,hv⟩:=hM;have ZD:recoverD ({wc with mode:= .panicking [{v:=y,recovered:=false}]}::cs)=some (y,{wc with mode:= .panicking [{v:=y,recovered:=true}]}::cs):=rfl;simp only[ZD];exact qi hE Lh hr ⟨hS.uY.put hd hv,by rw[nF];exact hS.n,hS.heap,by rw[jt];exact hS.ds,hS.bI⟩ (.inr ⟨y,rfl⟩) hP
     |_=>exact fU.elim
   ·simp at hr
theorem wQ(hE:E.Ok){call:dR}{round:cO}(hm:qh E call round){fuel:Nat}{c:Code}{st:St}{x:bt}{cg:St}{p:Option AV}{ι:cS}{a:Act}{w:World}{u:FrameMode}{wc:Frame}{cs:List Frame}{Q:Exit->Act->List Frame->World->Prop}
 (hr:dX E call round fuel c st=some (x,cg)) (hS:rE ι st a w none) (hM:kW ι p u) (hP:iN ι st w wc cs x cg p Q):c.wpSIn Fence.wide 0 E.P Q a ({wc with mode:=u}::cs) w:=by
 refine wpSIn_of_wpIn rfl ?_;show c.wpIn (kS none) 0 E.P _ a w;exact oF hE hm hr hS fun e dS a' w' he hs hx=>hP e dS a' u w' he hs (hM.mono (he.le hS.heap)) hx
theorem IF(hE:E.Ok){call:dR}{round:cO}(hm:qh E call round){fuel:Nat}{wc:Frame}{cs:List Frame}:
 ∀{c:Code}{st:St}{x:bt}{cg:St}{p p':Option AV}{ι:cS}{a:Act}{w:World}{u:FrameMode}{Q:Exit->Act->List Frame->World->Prop},ky E call round fuel c st p=some (x,cg,p')->rE ι st a w none->kW ι p u->
  iN ι st w wc cs x cg p' Q->c.wpSIn Fence.wide 0 E.P Q a ({wc with mode:=u}::cs) w:=by
 intro c;induction c with
 |seq c1 c2 Ui jR=>
  intro st x cg p p' ι a w u Q hr hS hM hP;simp only[ky]at hr;refine wpSIn_seq ?_;split at hr
  ·rename_i rL p1 hc;refine Ui hc hS hM fun e vM a1 u1 w1 he hs HS hx=>?_;cases e with
   |normal=>exact jR hr hs HS fun e Ed a2 u2 w2 AM uZ QV uG=>hP e Ed a2 u2 w2 (he.trans AM) uZ QV uG
   |_=>exact hx.elim
  ·rename_i jX;refine Ui hr hS hM fun e vM a1 u1 w1 he hs HS hx=>?_;cases x with
   |jL=>exact(jX _ _ hr).elim
   |_=>cases e<;>first|exact hP _ vM a1 u1 w1 he hs HS hx|exact hx.elim
 |cond o c1 c2 Ui jR=>
  intro st x cg p p' ι a w u Q hr hS hM hP;simp only[ky]at hr;split at hr
  ·rename_i hc;exact wpSIn_cond (bV hS.uY hc).nD (Ui hr hS hM hP)
  ·rename_i hc;exact wpSIn_cond (bV hS.uY hc).nD (jR hr hS hM hP)
  ·simp at hr
 |region id ops d=>
  intro st x cg p p' ι a w u Q hr hS hM hP;cases d with
  |false=>
   simp only[ky]at hr;split at hr
   ·refine wpSIn_region ?_;have:=qi hE (ops:=ops) (k:=0) (wc:=wc) (cs:=cs) (fun j=>sp) hr hS hM hP;rw[List.range_eq_range'];simpa using this
   ·split at hr
    ·rename_i e yn hc;simp at hr;obtain⟨rfl,rfl,rfl⟩:=hr;exact wQ hE hm hc hS hM hP
    ·simp at hr
  |true=>
   simp only[ky]at hr;split at hr
   ·rename_i e yn hc;simp at hr;obtain⟨rfl,rfl,rfl⟩:=hr;exact wQ hE hm hc hS hM hP
   ·simp at hr
 |_=>
  intro st x cg p p' ι a w u Q hr hS hM hP;simp only[ky]at hr;split at hr
  ·rename_i e yn hc;simp at hr;obtain⟨rfl,rfl,rfl⟩:=hr;exact wQ hE hm hc hS hM hP
  ·simp at hr
theorem Gw(hE:E.Ok){call:dR}{round:cO}(hm:qh E call round){fuel:Nat}{k:FuncId}{args:List AV}{h:ah}{p p':Option AV}{out:Out}{h':ah}{ι:cS}{w:World}{cp:Array Value}{u:FrameMode}
 (hr:mg E call round fuel k args h p=some (out,h',p')) (hH:dV ι h w) (hv:bF ι args cp.toList) (hM:kW ι p u):
 ∃v,out= .ret v/\CallsDIn Fence.wide 0 E.P k cp u w fun e u' w'=>∃dS y,e= .returned y/\Ext ι h w dS h' w'/\kW dS p' u':=by
 unfold mg at hr;split at hr
 ·simp at hr
 ·rename_i fn B7;split at hr
  ·simp at hr
  ·rename_i c ym;obtain⟨hf,_⟩:=hE.fn k fn B7;split at hr
   ·rename_i hlen;have ng:cp.size=args.length:=(by have:=hv.1;simp at this;exact this.symm);have Ni:rE ι {rg:=oI args 0 .nil,n:=fn.ntmps,h:=h,ds:=[],bI:=false} {tmps:=cp++Array.replicate (fn.ntmps-cp.size) undef,defers:=[]} w none:=
     ⟨IE hv _,by simp;omega,hH,trivial,rfl⟩
    have fin:∀{x:bt}{st:St}{vs:List AV},ky E call round fuel c {rg:=oI args 0 .nil,n:=fn.ntmps,h:=h,ds:=[],bI:=false} p=some (x,st,p')->(x= .jL\/x= .ret)->st.ds=[]->fL E st.rg st.h fn.results.toList=some vs->
     CallsDIn Fence.wide 0 E.P k cp u w fun e u' w'=>∃dS y,e= .returned y/\Ext ι h w dS st.h w'/\kW dS p' u':=by
     intro x st vs hc hx E7 Nh;refine callsDIn_of_wpSIn hf ym trivial fun wc cs hu=>?_;have:wc={wc with mode:=u}:=(by subst hu;rfl);rw[this];refine IF hE hm hc Ni hM fun e vM a1 u1 w1 he hs HS Qa=>?_;have U3:a1.defers=[]:=by
      have:=hs.ds;rw[E7]at this;cases h1:a1.defers with
      |nil=>rfl
      |cons d ds=>rw[h1]at this;exact this.elim
     obtain⟨y,hy,_⟩:=yp hE hs.uY hs.heap Nh;rcases hx with rfl|rfl
     ·cases e with
      |normal=>exact⟨U3,u1,rfl,y,hy,vM,y,rfl,he,HS⟩
      |_=>exact Qa.elim
     ·cases e with
      |ret=>exact⟨U3,u1,rfl,y,hy,vM,y,rfl,he,HS⟩
      |_=>exact Qa.elim
    split at hr
    ·rename_i st p1 hc;split at hr
     ·rename_i vs E7 Nh;simp at hr;obtain⟨rfl,rfl,rfl⟩:=hr;exact⟨_,rfl,fin hc (.inl rfl) E7 Nh⟩
     ·simp at hr
    ·rename_i st p1 hc;split at hr
     ·rename_i vs E7 Nh;simp at hr;obtain⟨rfl,rfl,rfl⟩:=hr;exact⟨_,rfl,fin hc (.inr rfl) E7 Nh⟩
     ·simp at hr
    ·simp at hr
   ·simp at hr
theorem QW{P:Program}{w:World}{r:Nat}(hb:w.heap[r]?=some (.deferred (some []))):(Instr.takeDeferred r).run P w= .ok [] {w with heap:=w.heap.setIfInBounds r (.deferred none)}:=by
 have hg:(getObj r).run P w= .ok (.deferred (some [])) w:=by simp[getObj,Sem.run,hb]
 have hs:(setObj r (.deferred none)).run P w= .ok () {w with heap:=w.heap.setIfInBounds r (.deferred none)}:=by simp only[setObj,Sem.run,hb]
 simp only[Instr.takeDeferred,Sem.run_bind,hg,Result.andThen_ok,hs,Sem.run_pure]
theorem oY(hE:E.Ok){call:dR}{round:cO}(hm:qh E call round){fuel:Nat}{fn:Func}{rg:T AV}{tm:Array Value}{out:Out}{h':ah}{iZ:cS}{kO:ah}{kP:World}:
 ∀{ds:List fJ}{p:Option AV}{h:ah}{ι:cS}{w:World}{Uj:List Deferred}{u:FrameMode},jo E (mg E call round fuel) fn rg ds p h=some (out,h')->Ext iZ kO kP ι h w->cK ι rg tm->uL ι ds Uj->zM ι p u->
  LeavesInM Fence.wide 0 E.P fn tm (fun e w'=>∃dS,Ext iZ kO kP dS h' w'/\nU dS out e) Uj u w
 |[],p,h,ι,w,Uj,u,hr,eD,hR,hD,hM=>by
  cases Uj with
  |cons d ds=>exact hD.elim
  |nil=>
   cases p with
   |none=>
    have:u= .returning:=hM;subst this;simp only[jo]at hr;split at hr
    ·rename_i vs Nh;simp at hr;obtain⟨rfl,rfl⟩:=hr;obtain⟨y,hy,gz⟩:=yp hE hR eD.rel Nh;exact⟨y,hy,ι,eD,gz⟩
    ·simp at hr
   |some v=>
    obtain⟨y,rfl,hv⟩:=hM;simp[jo]at hr;obtain⟨rfl,rfl⟩:=hr;exact⟨ι,eD,y,rfl,hv⟩
 | .mark r::ds,p,h,ι,w,Uj,u,hr,eD,hR,hD,hM=>by
  cases Uj with
  |nil=>exact hD.elim
  |cons d Uj=>
   obtain⟨⟨L,hL,rfl⟩,hD⟩:=hD;simp only[jo]at hr;split at hr
   ·rename_i hg;obtain⟨o,ho,hO⟩:=eD.rel.obj r L hL;rw[hg]at ho;cases ho;have hb:w.heap[L.b]?=some (.deferred (some [])):=hO;have wH:Ext ι h w ι (h.set r .dead) {w with heap:=w.heap.setIfInBounds L.b (.deferred none)}:=by
     refine eD.rel.OD hL hg rfl trivial sp (fun bb jX=>?_) rfl rfl rfl;show(w.heap.setIfInBounds L.b _)[bb]?=_;rw[et (fun e=>jX e.symm)]
    exact⟨hM.nW.run,.inl ⟨L.b,_,rfl,QW hb,oY hE hm hr (eD.trans wH) hR hD hM⟩⟩
   ·simp at hr
 | .call f args::ds,p,h,ι,w,Uj,u,hr,eD,hR,hD,hM=>by
  cases Uj with
  |nil=>exact hD.elim
  |cons d Uj=>
   obtain⟨⟨cap,tR,rfl,iy⟩,hD⟩:=hD;simp only[jo]at hr;split at hr
   ·rename_i v h2 p2 U3;obtain⟨v',tB,QR⟩:=Gw hE hm (cp:=tR++cap) U3 eD.rel (by simpa using iy) hM.nW;have hinv:(invoke (.fn (.func f) cap) tR).run E.P w= .ok (.enter f (tR++cap)) w:=by
     unfold mg at U3;split at U3
     ·simp at U3
     ·rename_i Bz B7;split at U3
      ·simp at U3
      ·rename_i c ym;obtain⟨hf,CT⟩:=hE.fn f Bz B7;have XC:Bz.body.isNone=false:=(by rw[ym];rfl);simp only[invoke,callFunc,Sem.run_bind,run_program,Result.andThen_ok,hf,CT,XC];simp
    refine⟨hM.nW.run,.inr ⟨fun h=>by simp[Fence.wide]at h,.func f,cap,f,tR++cap,rfl,hinv,fun _ _=>trivial,?_⟩⟩;refine QR.mono fun e u' w' he=>?_;obtain⟨dS,y,rfl,XS,hM'⟩:=he;have hle:=XS.le eD.rel;exact oY hE hm hr (eD.trans XS) (hR.mono hle) (hD.mono hle) hM'.settle
   ·simp at hr
def wR(E:Env):Prop:=∀{k:FuncId}{f:List AV->ah->Option (Out×ah)},E.fw k=some f->∀{args:List AV}{h:ah}{out:Out}{h':ah}{ι:cS}{w:World}{cp:Array Value},f args h=some (out,h')->dV ι h w->bF ι args cp.toList->
 CallsIn Fence.wide 0 E.P k cp w fun e w'=>∃dS,Ext ι h w dS h' w'/\nU dS out e
theorem IG(hE:E.Ok)(hp:wR E){m:Gx}(hm:qh E m.call m.round){fuel:Nat}{k:FuncId}{args:List AV}{h:ah}{out:Out}{h':ah}{ι:cS}{w:World}{cp:Array Value}
 (hr:wS E m fuel k args h=some (out,h')) (hH:dV ι h w) (hv:bF ι args cp.toList):CallsIn Fence.wide 0 E.P k cp w fun e w'=>∃dS,Ext ι h w dS h' w'/\nU dS out e:=by
 unfold wS at hr;split at hr
 ·rename_i r ht;simp at hr;subst hr;unfold Env.told at ht;split at ht
  ·rename_i f hf;exact hp hf ht hH hv
  ·cases ht
 ·unfold wT at hr;split at hr
  ·simp at hr
  ·rename_i fn B7;split at hr
   ·simp at hr
   ·rename_i c ym;obtain⟨hf,_⟩:=hE.fn k fn B7;split at hr
    ·rename_i hlen;have ng:cp.size=args.length:=(by have:=hv.1;simp at this;exact this.symm);have Ni:rE ι {rg:=oI args 0 .nil,n:=fn.ntmps,h:=h,ds:=[],bI:=false} {tmps:=cp++Array.replicate (fn.ntmps-cp.size) undef,defers:=[]} w none:=
      ⟨IE hv _,by simp;omega,hH,trivial,rfl⟩
     refine callsIn_of_wp_marks hf ym trivial ?_;show c.wpIn (kS none) 0 E.P _ _ w;split at hr
     ·rename_i st hc;refine oF hE hm hc Ni fun e vM a1 w1 he hs hx=>?_;cases e with
      |normal=>exact oY hE hm hr he hs.uY hs.ds rfl
      |_=>exact hx.elim
     ·rename_i st hc;refine oF hE hm hc Ni fun e vM a1 w1 he hs hx=>?_;cases e with
      |ret=>exact oY hE hm hr he hs.uY hs.ds rfl
      |_=>exact hx.elim
     ·rename_i v st hc;refine oF hE hm hc Ni fun e vM a1 w1 he hs hx=>?_;cases e with
      |panic chain=>
       obtain⟨y,rfl,hy⟩:=hx;exact oY hE hm hr he hs.uY hs.ds ⟨y,rfl,hy⟩
      |_=>exact hx.elim
     ·simp at hr
    ·simp at hr
theorem Gy(hE:E.Ok)(hp:wR E):∀n,qh E (jx E n).call (jx E n).round
 |0=>⟨fun h=>by simp[jx]at h,fun h=>by simp[jx]at h⟩
 |n+1=>⟨fun hr hH hv=>IG hE hp (Gy hE hp n) hr hH hv,fun hr hH hi hl hb hR hv hlen=>Gu hE (Gy hE hp n) hr hH hi hl hb hR hv hlen⟩
theorem Fa(hE:E.Ok)(hp:wR E){n:Nat}{k:FuncId}{args:List AV}{h:ah}{out:Out}{h':ah}{ι:cS}{w:World}{cp:Array Value}
 (hr:(jx E n).call k args h=some (out,h')) (hH:dV ι h w) (hv:bF ι args cp.toList):Calls E.P k cp w fun e w'=>∃dS,Ext ι h w dS h' w'/\nU dS out e:=
 callsIn_wide.1 ((Gy hE hp n).call hr hH hv)
end
section
noncomputable section
def IV(P:Program):List Field->Option (List (Nat×Nat))
 |[]=>some []
 |f::fs=>if f.name== "_" then none else
  match(match P.underlying f.type with
   |some .bool=>some 0
   |some .string=>some 1
   |some (.int _)=>some 2
   |_=>none),IV P fs with
  |some k,some r=>some ((f.offset,k)::r)
  |_,_=>none
theorem IW(P:Program):∀(fs:List Field)(l:List (Nat×Nat)),IV P fs=some l->GI P fs l
 |[],l,h=>by simp[IV]at h;subst h;trivial
 |f::fs,l,h=>by
  simp only[IV]at h;split at h
  ·simp at h
  ·rename_i hn;split at h
   ·rename_i k r hk hr;simp at h;subst h;refine⟨by simpa using hn,rfl,?_,IW P fs r hr⟩;split at hk
    ·rename_i hu;simp at hk;subst hk;exact .inl ⟨rfl,hu⟩
    ·rename_i hu;simp at hk;subst hk;exact .inr (.inl ⟨rfl,hu⟩)
    ·rename_i q hu;simp at hk;subst hk;exact .inr (.inr ⟨rfl,q,hu⟩)
    ·simp at hk
   ·simp at h
def Lw(P:Program)(t:TypeId)(z:Value):Bool:=
 match P.underlying t with
 |some (.struct _)|some (.array _ _)=>match z with
  | .agg _=>true
  |_=>false
 |some _=>z.oneCell'
 |none=>true
def yu(P:Program)(ext:FuncId->Option (List AV->Option AV))(fw:FuncId->Option (List AV->ah->Option (Out×ah))):Env where
 P:=P
 fn k:=match P.funcs[k]? with
  |some f=>if f.name== "runtime.NumGoroutine" then none else some f
  |none=>none
 kQ t:=P.underlying t
 siz t:=match P.info? t with
  |some i=>some i.size
  |none=>none
 byt t:=match P.info? t with
  |some i=>some (i.bytes-1)
  |none=>none
 zer t:=match P.info? t with
  |some i=>match i.zero with
   |some z=>if Lw P t z then yk z.cells.toList else none
   |none=>none
  |none=>none
 flat t:=match P.underlying t with
  |some (.struct fs)=>if P.stoodInHeld t||P.eqGuardType P.depth t then none else IV P fs.toList
  |_=>none
 ext:=ext
 fw:=fw
theorem IX(P:Program)(ext:FuncId->Option (List AV->Option AV))(fw:FuncId->Option (List AV->ah->Option (Out×ah)))(hm:P.follows .mixedOrders=true)(hx:∀k f,ext k=some f->No P k f):(yu P ext fw).Ok where
 ext:=hx
 fn k f h:=by
  simp only[yu]at h;split at h
  ·rename_i f' hf;split at h
   ·simp at h
   ·rename_i hn;simp at h;subst h;exact⟨hf,by simpa using hn⟩
  ·simp at h
 kQ t d h:=h
 siz t n h:=by
  simp only[yu]at h;split at h
  ·rename_i i hi;simp at h;subst h;exact⟨i,hi,rfl⟩
  ·simp at h
 byt t n h:=by
  simp only[yu]at h;split at h
  ·rename_i i hi;simp at h;subst h;exact⟨i,hi,om⟩
  ·simp at h
 zer t l h:=by
  simp only[yu]at h;split at h
  ·rename_i i hi;split at h
   ·rename_i z hz;split at h
    ·rename_i hk;refine⟨i,z,hi,hz,h,fun ha=>?_,fun ha=>?_⟩
     ·simp only[Env.isAgg,yu]at ha;unfold Lw at hk;cases hu:P.underlying t with
      |none=>rw[hu]at ha;simp at ha
      |some d=>
       rw[hu]at ha hk;cases d<;>simp at ha<;>(cases z<;>simp at hk;exact⟨_,rfl⟩)
     ·simp only[Env.isAgg,yu]at ha;unfold Lw at hk;cases hu:P.underlying t with
      |none=>rw[hu]at ha;simp at ha
      |some d=>
       rw[hu]at ha hk;cases d<;>simp at ha<;>simpa using hk
    ·simp at h
   ·simp at h
  ·simp at h
 flat t B4 h:=by
  simp only[yu]at h;split at h
  ·rename_i fs hu;split at h
   ·simp at h
   ·rename_i hc;simp at hc;exact⟨fs,hu,hc.1,hc.2,IW P _ _ h⟩
  ·simp at h
 mixed:=hm
def isTrue:Option (Out×ah)->Bool
 |some (.ret (.bool true),_)=>true
 |_=>false
theorem IY{r:Option (Out×ah)}(h:isTrue r=true):∃h',r=some (.ret (.bool true),h'):=by
 unfold isTrue at h;split at h
 ·exact⟨_,rfl⟩
 ·cases h
end
end
section
noncomputable section
def OO(c:UInt8):List UInt8->Nat->Int
 |[],_=>-1
 |b::l,i=>if b==c then i else OO c l (i+1)
theorem GJ(c:UInt8):∀(l:List UInt8)(i:Nat),OO c l i=if Lib.indexByte l c= -1 then-1 else Lib.indexByte l c+i
 |[],i=>by simp[OO,Lib.indexByte]
 |b::l,i=>by
  have XG:=Lib.indexByte_ge l c;simp only[OO,Lib.indexByte];by_cases hb:(b==c)=true
  ·simp[hb]
  ·simp only[hb,gR,iW];rw[GJ c l (i+1)];by_cases h1:Lib.indexByte l c= -1
   ·simp[h1]
   ·have h2:(Lib.indexByte l c== -1)=false:=(by simpa using h1);simp only[h1,h2,iW,gR];rw[az om];push_cast;omega
def jC:List AV->Option AV
 |[.str s,.int .u8 c]=>some (.int .i64 (OO c.toNat.toUInt8 s 0))
 |_=>none
theorem wh{P:Program}{k:FuncId}{fn:Func}(hf:P.funcs[k]?=some fn)(hn:(fn.name== "runtime.NumGoroutine")=false)(hb:fn.body.isNone=true)(hx:Extern.findNext fn=none)
 (he:Extern.find fn=some Extern.BytealgIndexByte.indexByte):No P k jC:=by
 refine⟨fn,_,hf,hn,by simpa using hb,hx,he,?_⟩;intro ι args v cp w h hv;unfold jC at h;split at h
 ·rename_i s c;simp at h;subst h;obtain⟨y,ys,e1,h1,hr⟩:=hv.inv;obtain⟨z,zs,e2,h2,HT⟩:=hr.inv;have:=HT.tV;subst this;cases h1;cases h2;have:cp= #[.string ⟨s.toArray⟩,.int .u8 c]:=by apply jf;simpa[e2]using e1
  rw[this];refine⟨_,Lib.run_indexByteString _ _ _,?_⟩;rw[GJ];have:(if Lib.indexByte s c.toNat.toUInt8= -1 then(-1:Int)else Lib.indexByte s c.toNat.toUInt8+((0:Nat):Int))=Lib.indexByte s c.toNat.toUInt8:=by
   split<;>simp_all
  rw[this];simpa using bS.int _ _
 ·simp at h
def zQ{α:Type}:List (Nat×α)->Nat->Option α
 |[],_=>none
 |(k,a)::r,n=>bif Nat.beq n k then some a else zQ r n
theorem Fe{α:Type}{l:List (Nat×α)}{n:Nat}{a:α}(h:zQ l n=some a):(n,a)∈l:=by
 induction l with
 |nil=>simp[zQ]at h
 |cons x r ih=>
  obtain⟨k,b⟩:=x;simp only[zQ]at h;cases hk:Nat.beq n k with
  |true=>
   rw[hk]at h;simp at h;subst h;rw[jz hk];simp
  |false=>
   rw[hk]at h;simp at h;exact ay _ (ih h)
end
end
section
structure nk(w w':World):Prop where
 size:w.heap.size<=w'.heap.size
 old:∀b,b<w.heap.size->w'.heap[b]?=w.heap[b]?
 os:w'.os=w.os
 tape:w'.tape=w.tape
 output:w'.output=w.output
theorem nk.refl(w:World):nk w w:=⟨ao _,fun _ _=>rfl,rfl,rfl,rfl⟩
theorem nk.trans{a b c:World}(h:nk a b)(h':nk b c):nk a c:=
 ⟨bk h.size h'.size,fun i hi=>(h'.old i (aw hi h.size)).trans (h.old i hi),h'.os.trans h.os,h'.tape.trans h.tape,h'.output.trans h.output⟩
theorem nk.kept{w w':World}(h:nk w w')(may:MemPlace->Prop):w.keptBut w' may:=by
 refine⟨h.os,h.output,fun i hi=>?_⟩;rw[h.old i hi];split
 ·rename_i h1 h2;rw[h1]at h2;cases h2;exact⟨rfl,rfl,rfl,fun _ _=>rfl⟩
 ·rename_i h1 h2;rw[h1]at h2;cases h2;exact .inr ⟨rfl,rfl⟩
 ·rfl
variable [iY]
def yv:cS:=fun _=>none
def AS:ah:=⟨0,.nil⟩
theorem Dg:dV yv AS iY.w:=
 ⟨fun i L h=>by simp[yv]at h,fun i j Li Lj oi oj _ h=>by simp[yv]at h,fun i L h=>by simp[yv]at h,fun i _=>by simp[AS,ah.get,T.get],fun i L h=>by simp[yv]at h,⟨ao _,fun _ _=>rfl,rfl,fun i L o h=>by simp[yv]at h⟩⟩
theorem Ext.acf{h:ah}{w:World}{dS:cS}{h':ah}{w':World}(e:Ext yv h w dS h' w'):nk w w':=
 ⟨e.size,fun b hb=>(e.frame b hb (by rintro⟨k,L,o,hk,_⟩;simp[yv]at hk)).1,e.os,e.tape,e.output⟩
def abH(E:Env):Prop:=∀W:World,@wR ⟨W⟩ E
omit [iY] in
theorem BF{E:Env}(hE:E.Ok){n:Nat}{k:FuncId}(hr:isTrue ((jx E n).call k [] AS)=true)(w:World)(hp:@wR ⟨w⟩ E):
 Calls E.P k #[] w fun e w'=>e= .returned (.bool true)/\nk w w':=by
 letI:iY:=⟨w⟩
 obtain⟨h',hr⟩:=IY hr;refine(Fa hE hp hr Dg (bF.nil _)).mono fun e w'=>?_
 rintro⟨dS,eD,tz⟩
 refine⟨?_,eD.acf⟩;cases e with
 |returned y=>
  have hy:bS dS (.bool true) y:=tz;cases hy;rfl
 |panicked c=>exact tz.elim
 |_=>exact tz.elim
end
section
variable{E:Env}
def dR.le(c c':dR):Prop:=∀k a h r,c k a h=some r->c' k a h=some r
def cO.le(c c':cO):Prop:=∀k a h r,c k a h=some r->c' k a h=some r
section
variable{call sO:dR}{round od:cO}
theorem rZ(hc:call.le sO)(hr:round.le od){d:Option Tmp}{st:St}{x:dZ×ah}{r:Option AV×St}(h:nV call round d st x=some r):nV sO od d st x=some r:=by
 obtain⟨o,hp⟩:=x;cases o with
 |enter f args=>
  simp only[nV]at h⊢;split at h
  ·rename_i h1;rw[hc _ _ _ _ h1];exact h
  ·rename_i h1;rw[hc _ _ _ _ h1];exact h
  ·cases h
 |yield l args=>
  simp only[nV]at h⊢;split at h
  ·rename_i h1;rw[hr _ _ _ _ h1];exact h
  ·cases h
 |_=>exact h
theorem xR(hc:call.le sO)(hr:round.le od){ops:Array Oper}:∀{l:List Oper}{st:St}{r:bt×St},wM E call round ops l st=some r->wM E sO od ops l st=some r
 |[],st,r,h=>h
 |o::l,st,r,h=>by
  simp only[wM]at h⊢;split at h
  ·cases h
  ·exact xR hc hr h
  ·split at h
   ·cases h
   ·split at h
    ·cases h
    ·rename_i h1;rw[rZ hc hr h1];exact xR hc hr h
    ·rename_i h1;rw[rZ hc hr h1];exact h
theorem oe(hc:call.le sO)(hr:round.le od){ops:Array Oper}{eg:Nat->Nat}{base:Nat}:∀{l:List (Oper×Nat)}{st:St}{sn:List jB}{rd:List Rd}{r:bt×St},
 lW E call round ops eg base l st sn rd=some r->lW E sO od ops eg base l st sn rd=some r
 |[],st,sn,rd,r,h=>h
 |(o,i)::l,st,sn,rd,r,h=>by
  simp only[lW]at h⊢;split at h
  ·cases h
  ·exact oe hc hr h
  ·split at h
   ·cases h
   ·exact oe hc hr h
   ·split at h
    ·rename_i hs;rw[aW hs];exact oe hc hr h
    ·cases h
   ·split at h
    ·exact oe hc hr h
    ·cases h
   ·split at h
    ·rename_i hs;rw[aW hs];split at h
     ·cases h
     ·rename_i h1;rw[rZ hc hr h1];simp only at h⊢;split at h
      ·rename_i uZ;rw[aW uZ];exact oe hc hr h
      ·cases h
     ·rename_i h1;rw[rZ hc hr h1];exact h
    ·cases h
   ·cases h
theorem vq{f f':St->Option (bt×St)}(hf:∀st r,f st=some r->f' st=some r):∀{n m:Nat}(_:n<=m){st:St}{r:bt×St},pR f n st=some r->pR f' m st=some r
 |0,m,_,st,r,h=>by simp[pR]at h
 |n+1,0,hn,st,r,h=>by omega
 |n+1,m+1,hn,st,r,h=>by
  simp only[pR]at h⊢;split at h
  ·rename_i h1;rw[hf _ _ h1];exact vq hf om h
  ·rename_i h1;rw[hf _ _ h];split
   ·rename_i h2;cases h2;exact(h1 _ h).elim
   ·rfl
theorem mi(hc:call.le sO)(hr:round.le od){n m:Nat}(hn:n<=m):∀{c:Code}{st:St}{r:bt×St},dX E call round n c st=some r->dX E sO od m c st=some r:=by
 intro c;induction c with
 |region id ops d=>
  intro st r h;cases d with
  |false=>exact xR hc hr h
  |true=>
   simp only[dX,xO]at h⊢;split at h
   ·rename_i hd;rw[aW hd];exact oe hc hr h
   ·cases h
 |seq a b Eh Ff=>
  intro st r h;simp only[dX]at h⊢;split at h
  ·rename_i h1;rw[Eh h1];exact Ff h
  ·rename_i h1;rw[Eh h];split
   ·rename_i h2;cases h2;exact(h1 _ h).elim
   ·rfl
 |cond o a b Eh Ff=>
  intro st r h;simp only[dX]at h⊢;split at h
  ·exact Eh h
  ·exact Ff h
  ·cases h
 |block id b ih=>
  intro st r h;simp only[dX]at h⊢;split at h
  ·rename_i h1;rw[ih h1];exact h
  ·rename_i h1;rw[ih h];split
   ·rename_i h2;cases h2;exact(h1 _ _ h).elim
   ·rfl
 |loop b ih=>
  intro st r h;simp only[dX]at h⊢;exact vq (fun st r h=>ih h) hn h
 |scope b ih=>intro st r h;exact ih (st:=st) h
 |rangeFunc f ps ae b Eh Ff=>
  intro st r h;simp only[dX]at h⊢;split at h
  ·split at h
   ·cases h
   ·rename_i hb;rw[az hb];split at h
    ·rename_i h1;rw[hc _ _ _ _ h1];exact h
    ·cases h
  ·cases h
 |_=>intro st r h;exact h
theorem IZ(hc:call.le sO)(hr:round.le od){n m:Nat}(hn:n<=m):(vc E call round n).le (vc E sO od m):=by
 intro l args hp r h;simp only[vc]at h⊢;split at h
 ·split at h
  ·rename_i Qg;rw[aW Qg];split at h
   ·rename_i h1;rw[mi hc hr hn h1];simp only at h⊢;split at h
    ·split at h
     ·rename_i h2;rw[mi hc hr hn h2];exact h
     ·cases h
    ·cases h
   ·cases h
  ·cases h
 ·cases h
theorem vu(hc:call.le sO)(hr:round.le od){n m:Nat}(hn:n<=m):∀{c:Code}{st:St}{p:Option AV}{r:bt×St×Option AV},ky E call round n c st p=some r->ky E sO od m c st p=some r:=by
 intro c;have plain:∀{c:Code}{st:St}{p:Option AV}{r:bt×St×Option AV},(match dX E call round n c st with|some (e,cg)=>some (e,cg,p)|none=>none)=some r->(match dX E sO od m c st with|some (e,cg)=>some (e,cg,p)|none=>none)=some r:=by
  intro c st p r h;split at h
  ·rename_i h1;rw[mi hc hr hn h1];exact h
  ·cases h
 induction c with
 |seq a b Eh Ff=>
  intro st p r h;simp only[ky]at h⊢;split at h
  ·rename_i h1;rw[Eh h1];exact Ff h
  ·rename_i h1;rw[Eh h];split
   ·rename_i h2;cases h2;exact(h1 _ _ h).elim
   ·rfl
 |region id ops d=>
  intro st p r h;cases d with
  |false=>
   simp only[ky]at h⊢;split at h
   ·rename_i hi;rw[aW hi];exact h
   ·rename_i hi;rw[az hi];exact plain h
  |true=>exact plain h
 |cond o a b Eh Ff=>
  intro st p r h;simp only[ky]at h⊢;split at h
  ·exact Eh h
  ·exact Ff h
  ·cases h
 |_=>
  intro st p r h;simp only[ky]at h⊢;split at h
  ·rename_i h1;rw[mi hc hr hn h1];exact h
  ·cases h
def CZ.le(c c':CZ):Prop:=∀k a h p r,c k a h p=some r->c' k a h p=some r
theorem oK(hc:call.le sO)(hr:round.le od){n m:Nat}(hn:n<=m):(mg E call round n).le (mg E sO od m):=by
 intro k args hp p r h;simp only[mg]at h⊢;split at h
 ·cases h
 ·split at h
  ·cases h
  ·split at h
   ·rename_i hl;rw[aW hl];split at h
    ·rename_i h1;rw[vu hc hr hn h1];exact h
    ·rename_i h1;rw[vu hc hr hn h1];exact h
    ·cases h
   ·cases h
theorem mj{d d':CZ}(hd:d.le d'){fn:Func}{rg:T AV}:∀{ds:List fJ}{p:Option AV}{h:ah}{r:Out×ah},jo E d fn rg ds p h=some r->jo E d' fn rg ds p h=some r
 |[],none,hp,r,h=>h
 |[],some v,hp,r,h=>h
 | .mark x::ds,p,hp,r,h=>by
  simp only[jo]at h⊢;split at h
  ·exact mj hd h
  ·cases h
 | .call f args::ds,p,hp,r,h=>by
  simp only[jo]at h⊢;split at h
  ·rename_i h1;rw[hd _ _ _ _ _ h1];exact mj hd h
  ·cases h
end
theorem I7{a b:Gx}(hc:a.call.le b.call)(hr:a.round.le b.round){n m:Nat}(hn:n<=m):(wT E a n).le (wT E b m):=by
 intro k args hp r h;simp only[wT]at h⊢;split at h
 ·cases h
 ·split at h
  ·cases h
  ·split at h
   ·rename_i hl;rw[aW hl];split at h
    ·rename_i h1;rw[mi hc hr hn h1];exact mj (oK hc hr hn) h
    ·rename_i h1;rw[mi hc hr hn h1];exact mj (oK hc hr hn) h
    ·rename_i h1;rw[mi hc hr hn h1];exact mj (oK hc hr hn) h
    ·cases h
   ·cases h
theorem Lx{a b:Gx}(hc:a.call.le b.call)(hr:a.round.le b.round){n m:Nat}(hn:n<=m):(wS E a n).le (wS E b m):=by
 intro k args hp r h;simp only[wS]at h⊢;split at h
 ·exact h
 ·exact I7 hc hr hn _ _ _ _ h
theorem sk:∀n,((jx E n).call.le (jx E (n+1)).call)/\((jx E n).round.le (jx E (n+1)).round)
 |0=>⟨fun _ _ _ _ h=>by simp[jx]at h,fun _ _ _ _ h=>by simp[jx]at h⟩
 |n+1=>⟨Lx (sk n).1 (sk n).2 (cR n),IZ (sk n).1 (sk n).2 (cR n)⟩
theorem fP{n m:Nat}(h:n<=m):((jx E n).call.le (jx E m).call)/\((jx E n).round.le (jx E m).round):=by
 induction m with
 |zero=>
  have:n=0:=by omega
  subst this;exact⟨fun _ _ _ _ h=>h,fun _ _ _ _ h=>h⟩
 |succ m ih=>
  by_cases e:n=m+1
  ·subst e;exact⟨fun _ _ _ _ h=>h,fun _ _ _ _ h=>h⟩
  ·have:=ih om;exact⟨fun k a h r hr=>(sk m).1 _ _ _ _ (this.1 _ _ _ _ hr),fun k a h r hr=>(sk m).2 _ _ _ _ (this.2 _ _ _ _ hr)⟩
end
section
variable{E:Env}
def aV(E:Env)(k:FuncId)(args:List AV)(h:ah)(Q:Out->ah->Prop):Prop:=∃n out h',(jx E n).call k args h=some (out,h')/\Q out h'
def rh(E:Env)(l:Nat)(args:List AV)(h:ah)(Q:AV->ah->Prop):Prop:=∃n v h',(jx E n).round l args h=some (v,h')/\Q v h'
theorem aV.mono{k:FuncId}{args:List AV}{h:ah}{Q Q':Out->ah->Prop}(hw:aV E k args h Q)(hq:∀out h',Q out h'->Q' out h'):aV E k args h Q':=by
 obtain⟨n,out,h',h1,h2⟩:=hw;exact⟨n,out,h',h1,hq _ _ h2⟩
def acg(d:Option Tmp)(st:St)(K:Option AV->St->Prop)(out:Out)(h':ah):Prop:=
 match out with
 | .ret v=>K none {st with rg:=eH st.rg d v,h:=h'}
 | .iS v=>K (some v) {st with h:=h'}
def Dh(E:Env)(d:Option Tmp)(st:St)(K:Option AV->St->Prop):dZ×ah->Prop
 |(.val v,h)=>K none {st with rg:=eH st.rg d v,h:=h}
 |(.skip,h)=>K none {st with rg:=eH st.rg d mc,h:=h}
 |(.enter f args,h)=>aV E f args h (acg d st K)
 |(.yield l args,h)=>rh E l args h fun v h'=>K none {st with rg:=eH st.rg d v,h:=h'}
 |(.defer f args,h)=>st.bI=false/\K none {st with rg:=eH st.rg d mc,h:=h,ds:= .call f args::st.ds}
 |(.recover,_)=>False
 |(.panic v,h)=>K (some v) {st with h:=h}
theorem BG{d:Option Tmp}{st:St}{K:Option AV->St->Prop}{x:dZ×ah}(h:Dh E d st K x):∃n p cg,nV (jx E n).call (jx E n).round d st x=some (p,cg)/\K p cg:=by
 obtain⟨o,hp⟩:=x;cases o with
 |val v=>exact⟨0,none,_,rfl,h⟩
 |skip=>exact⟨0,none,_,rfl,h⟩
 |enter f args=>
  obtain⟨n,out,h',h1,h2⟩:=h;cases out with
  |ret v=>exact⟨n,none,_,by simp only[nV,h1],h2⟩
  |iS v=>exact⟨n,some v,_,by simp only[nV,h1],h2⟩
 |yield l args=>
  obtain⟨n,v,h',h1,h2⟩:=h;exact⟨n,none,_,by simp only[nV,h1],h2⟩
 |defer f args=>
  refine⟨0,none,_,?_,h.2⟩;simp only[nV];rw[az (by rw[h.1];simp)]
 |recover=>exact h.elim
 |panic v=>exact⟨0,some v,_,rfl,h⟩
def wpOps(E:Env)(ops:Array Oper):List Oper->(bt->St->Prop)->St->Prop
 |[],Q,st=>Q .jL st
 |o::rest,Q,st=>match cf ops st.n st.rg o with
  |none=>False
  |some false=>wpOps E ops rest Q {st with rg:=eH st.rg o.dst mc}
  |some true=>match eF E st.rg st.h o with
   |none=>False
   |some r=>Dh E o.dst st (fun p cg=>match p with
    |none=>wpOps E ops rest Q cg
    |some v=>Q (.iS v) cg) r
theorem wW{ops:Array Oper}{Q:bt->St->Prop}:∀{l:List Oper}{st:St},wpOps E ops l Q st->∃n e cg,wM E (jx E n).call (jx E n).round ops l st=some (e,cg)/\Q e cg
 |[],st,h=>⟨0,_,_,rfl,h⟩
 |o::l,st,h=>by
  simp only[wpOps]at h;split at h
  ·exact h.elim
  ·rename_i hw;obtain⟨n,e,cg,h1,h2⟩:=wW h;exact⟨n,e,cg,by simp only[wM,hw];exact h1,h2⟩
  ·rename_i hw;split at h
   ·exact h.elim
   ·rename_i r ho;obtain⟨n,p,rL,h1,h2⟩:=BG h;cases p with
    |none=>
     obtain⟨m,e,cg,h3,h4⟩:=wW h2;refine⟨max n m,e,cg,?_,h4⟩;have a:=rZ (fP (iP n m)).1 (fP (iP n m)).2 h1;have b:=xR (fP (im n m)).1 (fP (im n m)).2 h3;simp only[wM,hw,ho,a];exact b
    |some v=>exact⟨n,_,_,by simp only[wM,hw,ho,h1],h2⟩
def dY(E:Env)(ops:Array Oper)(eg:Nat->Nat)(base:Nat):List (Oper×Nat)->(bt->St->Prop)->St->List jB->List Rd->Prop
 |[],Q,st,_,_=>Q .jL st
 |(o,i)::rest,Q,st,sn,rd=>match cf ops st.n st.rg o with
  |none=>False
  |some false=>dY E ops eg base rest Q {st with rg:=eH st.rg o.dst mc} sn rd
  |some true=>match fK E o,eF E st.rg st.h o with
   |_,none=>False
   | .pure,some (.val v,_)=>dY E ops eg base rest Q {st with rg:=eH st.rg o.dst v} sn rd
   | .read,some (.val v,_)=>sn.all (fun s=>(eg i).testBit s.idx||gD E s.h st.rg o v)=true/\
    dY E ops eg base rest Q {st with rg:=eH st.rg o.dst v} sn ({idx:=i,o:=o,rg:=st.rg,v:=v}::rd)
   | .alloc,some (.val v,h2)=>match h2.get st.h.next,st.h.get (base+i),wg (base+i) v with
    |some obj,none,some v'=>dY E ops eg base rest Q {st with rg:=eH st.rg o.dst v',h:=st.h.set (base+i) obj} sn rd
    |_,_,_=>False
   | .pK,some r=>sn.all (fun s=>(eg i).testBit s.idx)=true/\Dh E o.dst st (fun p cg=>match p with
    |none=>rd.all (fun r=>(eg i).testBit r.idx||gD E cg.h r.rg r.o r.v)=true/\dY E ops eg base rest Q cg ({idx:=i,h:=st.h}::sn) rd
    |some v=>rest.all (fun x=>(eg x.2).testBit i)=true/\Q (.iS v) {cg with rg:=ops.foldl (fun r o=>match o.dst with|some d=>r.del d|none=>r) st.rg}) r
   |_,some _=>False
theorem mQ{ops:Array Oper}{eg:Nat->Nat}{base:Nat}{Q:bt->St->Prop}:∀{l:List (Oper×Nat)}{st:St}{sn:List jB}{rd:List Rd},dY E ops eg base l Q st sn rd->
 ∃n e cg,lW E (jx E n).call (jx E n).round ops eg base l st sn rd=some (e,cg)/\Q e cg
 |[],st,sn,rd,h=>⟨0,_,_,rfl,h⟩
 |(o,i)::l,st,sn,rd,h=>by
  simp only[dY]at h;split at h
  ·exact h.elim
  ·rename_i hw;obtain⟨n,e,cg,h1,h2⟩:=mQ h;exact⟨n,e,cg,by simp only[lW,hw];exact h1,h2⟩
  ·rename_i hw;split at h
   ·exact h.elim
   ·rename_i hc ho;obtain⟨n,e,cg,h1,h2⟩:=mQ h;exact⟨n,e,cg,by simp only[lW,hw,hc,ho];exact h1,h2⟩
   ·rename_i hc ho;obtain⟨n,e,cg,h1,h2⟩:=mQ h.2;exact⟨n,e,cg,by simp only[lW,hw,hc,ho];rw[aW h.1];exact h1,h2⟩
   ·rename_i hc ho;split at h
    ·rename_i g1 g2 g3;obtain⟨n,e,cg,h1,h2⟩:=mQ h;exact⟨n,e,cg,by simp only[lW,hw,hc,ho,g1,g2,g3];exact h1,h2⟩
    ·exact h.elim
   ·rename_i hc ho;obtain⟨n,p,rL,h1,h2⟩:=BG h.2;cases p with
    |none=>
     obtain⟨m,e,cg,h3,h4⟩:=mQ h2.2;refine⟨max n m,e,cg,?_,h4⟩;have a:=rZ (fP (iP n m)).1 (fP (iP n m)).2 h1;have b:=oe (fP (im n m)).1 (fP (im n m)).2 h3;simp only[lW,hw,hc,ho];rw[aW h.1,a];simp only;rw[aW h2.1];exact b
    |some v=>
     refine⟨n,_,_,?_,h2.2⟩;simp only[lW,hw,hc,ho];rw[aW h.1,h1];simp only;rw[aW h2.1];rfl
   ·exact h.elim
def ki(id:Nat)(Q:bt->St->Prop)(x:bt)(st:St):Prop:=
 match x with
 | .exit wE=>if wE=id then Q .jL st else Q (.exit wE) st
 |x=>Q x st
def je(K:St->Prop)(Q:bt->St->Prop)(x:bt)(st:St):Prop:=
 match x with
 | .jL=>K st
 |x=>Q x st
def Rg(E:Env)(ops:Array Oper)(Q:bt->St->Prop)(st:St):Prop:=
 gL ops=true/\dY E ops (gK ops) st.h.next ops.toList.zipIdx Q {st with h:={st.h with next:=st.h.next+ops.size}} [] []
def bR(E:Env):Code->(bt->St->Prop)->St->Prop
 | .skip,Q,st=>Q .jL st
 | .region _ ops false,Q,st=>wpOps E ops ops.toList Q st
 | .region _ ops true,Q,st=>Rg E (tT E ops) Q st
 | .seq a b,Q,st=>bR E a (je (bR E b Q) Q) st
 | .cond c a b,Q,st=>∃x,ic st.rg c=some (.bool x)/\(x=true->bR E a Q st)/\(x=false->bR E b Q st)
 | .block id b,Q,st=>bR E b (ki id Q) st
 | .loop b,Q,st=>∃(I:Nat->St->Prop)(k:Nat),I k st/\∀k st,I k st->bR E b (je (fun cg=>∃j,j<k/\I j cg) Q) st
 | .exit id,Q,st=>Q (.exit id) st
 | .ret,Q,st=>Q .ret st
 | .label _,Q,st=>Q .jL st
 | .scope b,Q,st=>bR E b Q st
 |c,Q,st=>∃n x cg,dX E (jx E n).call (jx E n).round n c st=some (x,cg)/\Q x cg
noncomputable abbrev lX(E:Env)(n:Nat)(c:Code)(st:St):Option (bt×St):=dX E (jx E n).call (jx E n).round n c st
theorem mo{n m:Nat}(h:n<=m){c:Code}{st:St}{r:bt×St}(hr:lX E n c st=some r):lX E m c st=some r:=
 mi (fP h).1 (fP h).2 h hr
theorem GK{b:Code}{Q:bt->St->Prop}{I:Nat->St->Prop}(hb:∀{Q:bt->St->Prop}{st:St},bR E b Q st->∃n x cg,lX E n b st=some (x,cg)/\Q x cg)
 (hI:∀k st,I k st->bR E b (je (fun cg=>∃j,j<k/\I j cg) Q) st):∀(k:Nat)(st:St),I k st->∃n m x cg,pR (lX E n b) m st=some (x,cg)/\Q x cg:=by
 intro k;induction k using Nat.strongRecOn with
 |ind k ih=>
  intro st h;obtain⟨n,x,rL,h1,h2⟩:=hb (hI k st h);cases x with
  |jL=>
   obtain⟨j,hj,Zy⟩:=h2;obtain⟨n',m,x,cg,h3,h4⟩:=ih j hj rL Zy;refine⟨max n n',m+1,x,cg,?_,h4⟩;simp only[pR];rw[mo (iP n n') h1];exact vq (fun _ _ hr=>mo (im n n') hr) (ao _) h3
  |exit id=>exact⟨n,1,_,_,by simp only[pR];rw[h1],h2⟩
  |ret=>exact⟨n,1,_,_,by simp only[pR];rw[h1],h2⟩
  |iS v=>exact⟨n,1,_,_,by simp only[pR];rw[h1],h2⟩
theorem kZ:∀{c:Code}{Q:bt->St->Prop}{st:St},bR E c Q st->∃n x cg,lX E n c st=some (x,cg)/\Q x cg:=by
 intro c;induction c with
 |skip=>intro Q st h;exact⟨0,_,_,rfl,h⟩
 |region id ops d=>
  intro Q st h;cases d with
  |false=>
   obtain⟨n,e,cg,h1,h2⟩:=wW h;exact⟨n,e,cg,h1,h2⟩
  |true=>
   obtain⟨n,e,cg,h1,h2⟩:=mQ h.2;exact⟨n,e,cg,by simp only[lX,dX,xO];rw[aW h.1];exact h1,h2⟩
 |seq a b Eh Ff=>
  intro Q st h;obtain⟨n,x,rL,h1,h2⟩:=Eh h;cases x with
  |jL=>
   obtain⟨m,x,cg,h3,h4⟩:=Ff h2;refine⟨max n m,x,cg,?_,h4⟩;have a:=mo (iP n m) h1;have b:=mo (im n m) h3;simp only[lX,dX]at a b⊢;rw[a];exact b
  |exit id=>exact⟨n,_,_,by simp only[lX,dX]at h1⊢;rw[h1],h2⟩
  |ret=>exact⟨n,_,_,by simp only[lX,dX]at h1⊢;rw[h1],h2⟩
  |iS v=>exact⟨n,_,_,by simp only[lX,dX]at h1⊢;rw[h1],h2⟩
 |cond o a b Eh Ff=>
  intro Q st h;obtain⟨x,hx,ht,hf⟩:=h;cases x with
  |true=>
   obtain⟨n,x,cg,h1,h2⟩:=Eh (ht rfl);exact⟨n,x,cg,by simp only[lX,dX,hx];exact h1,h2⟩
  |false=>
   obtain⟨n,x,cg,h1,h2⟩:=Ff (hf rfl);exact⟨n,x,cg,by simp only[lX,dX,hx];exact h1,h2⟩
 |block id b ih=>
  intro Q st h;obtain⟨n,x,rL,h1,h2⟩:=ih h;cases x with
  |exit wE=>
   simp only[ki]at h2;by_cases e:wE=id
   ·rw[aW e]at h2;exact⟨n,_,_,by simp only[lX,dX]at h1⊢;rw[h1];simp only;rw[aW e],h2⟩
   ·rw[az e]at h2;exact⟨n,_,_,by simp only[lX,dX]at h1⊢;rw[h1];simp only;rw[az e],h2⟩
  |jL=>exact⟨n,_,_,by simp only[lX,dX]at h1⊢;rw[h1],h2⟩
  |ret=>exact⟨n,_,_,by simp only[lX,dX]at h1⊢;rw[h1],h2⟩
  |iS v=>exact⟨n,_,_,by simp only[lX,dX]at h1⊢;rw[h1],h2⟩
 |loop b ih=>
  intro Q st h;obtain⟨I,k,hk,hI⟩:=h;obtain⟨n,m,x,cg,h1,h2⟩:=GK ih hI k st hk;refine⟨max n m,x,cg,?_,h2⟩;simp only[lX,dX];exact vq (fun _ _ hr=>mo (iP n m) hr) (im n m) h1
 |exit id=>intro Q st h;exact⟨0,_,_,rfl,h⟩
 |ret=>intro Q st h;exact⟨0,_,_,rfl,h⟩
 |label l=>intro Q st h;exact⟨0,_,_,rfl,h⟩
 |scope b ih=>
  intro Q st h;obtain⟨n,x,cg,h1,h2⟩:=ih h;exact⟨n,x,cg,h1,h2⟩
 |_=>intro Q st h;exact h
def atEnd(E:Env)(fn:Func)(Q:Out->ah->Prop)(x:bt)(st:St):Prop:=
 match x with
 | .jL| .ret=>st.ds=[]/\∃vs,fL E st.rg st.h fn.results.toList=some vs/\Q (.ret (oneOf vs)) st.h
 | .iS v=>st.ds=[]/\Q (.iS v) st.h
 |_=>False
theorem aV.body{k:FuncId}{fn:Func}{c:Code}{args:List AV}{h:ah}{Q:Out->ah->Prop}(hp:E.fw k=none)(hf:E.fn k=some fn)(hb:fn.body=some c)(hl:args.length<=fn.ntmps)
 (hw:bR E c (atEnd E fn Q) {rg:=oI args 0 .nil,n:=fn.ntmps,h:=h,ds:=[],bI:=false}):aV E k args h Q:=by
 obtain⟨n,x,st,h1,h2⟩:=kZ hw;have key:∀out h',jo E (mg E (jx E n).call (jx E n).round n) fn st.rg st.ds (match x with| .iS v=>some v|_=>none) st.h=some (out,h')->(x= .jL\/x= .ret\/∃v,x= .iS v)->Q out h'->aV E k args h Q:=by
  intro out h' hlv hx hq;refine⟨n+1,out,h',?_,hq⟩;simp only[jx,wS,wT,Env.told,hp,hf,hb];rw[aW hl];simp only[lX]at h1;rw[h1];rcases hx with rfl|rfl|⟨v,rfl⟩<;>exact hlv
 cases x with
 |jL=>
  obtain⟨hd,vs,hv,hq⟩:=h2;exact key _ _ (by rw[hd];simp only[jo,hv]) (.inl rfl) hq
 |ret=>
  obtain⟨hd,vs,hv,hq⟩:=h2;exact key _ _ (by rw[hd];simp only[jo,hv]) (.inr (.inl rfl)) hq
 |iS v=>
  obtain⟨hd,hq⟩:=h2;exact key _ _ (by rw[hd];simp only[jo]) (.inr (.inr ⟨v,rfl⟩)) hq
 |exit id=>exact h2.elim
theorem aV.fw{k:FuncId}{f:List AV->ah->Option (Out×ah)}{args:List AV}{h:ah}{Q:Out->ah->Prop}{out:Out}{h':ah}(hp:E.fw k=some f)(hf:f args h=some (out,h'))(hq:Q out h'):aV E k args h Q:=
 ⟨1,out,h',by simp only[jx,wS,Env.told,hp,hf],hq⟩
theorem aV.calls [iY](hE:E.Ok)(KU:wR E){k:FuncId}{args:List AV}{h:ah}{Q:Out->ah->Prop}(hw:aV E k args h Q){ι:cS}{w:World}{cp:Array Value}(hH:dV ι h w)(hv:bF ι args cp.toList):
 Calls E.P k cp w fun e w'=>∃out h' dS,Q out h'/\Ext ι h w dS h' w'/\nU dS out e:=by
 obtain⟨n,out,h',h1,h2⟩:=hw;exact(Fa hE KU h1 hH hv).mono fun e w' ⟨dS,he,ho⟩=>⟨out,h',dS,h2,he,ho⟩
end
section
theorem GR(w:World)(k:Nat)(os:Array Obj):nk w (Sort.grow (w.drewN k) os):=by
 refine⟨by simp[Sort.grow,World.drewN],fun b hb=>?_,rfl,rfl,rfl⟩;show(w.heap++os)[b]?=w.heap[b]?;rw[zm hb]
variable [iY]
theorem lU{P:Program}{k:FuncId}{cp:Array Value}{ι:cS}{h:ah}{w:World}{out:Out}(hH:dV ι h w)
 (hc:Calls P k cp w fun e w'=>nU ι out e/\nk w w'):CallsIn Fence.wide 0 P k cp w fun e w'=>∃dS,Ext ι h w dS h w'/\nU dS out e:=
 callsIn_wide.2 (hc.mono fun e w' ⟨h1,h2⟩=>⟨ι,(Ext.refl hH).xP h2.size h2.old h2.os h2.tape h2.output,h1⟩)
theorem Dq{P:Program}{name:String}{k:IntKind}{zs:List Int}(hT:Lib.TabIs P iY.w name k zs){ι:cS}{h:ah}{w:World}(hH:dV ι h w):Lib.TabIs P w name k zs:=by
 unfold Lib.TabIs World.var? at hT⊢;rw[Option.bind_eq_some_iff]at hT⊢;obtain⟨g,hg,hv⟩:=hT;refine⟨g,hg,?_⟩;have cX:g<iY.w.heap.size:=by
  rcases eW g iY.w.heap.size with h1|h1
  ·exact h1
  ·rw[oy h1]at hv;cases hv
 rw[hH.base.old g cX];exact hv
noncomputable section
def rP:Nat->Nat->List UInt8
 |0,_=>[]
 |f+1,n=>bif Nat.blt n 10 then[UInt8.ofNat (48+n)]else rP f (n/10)++[UInt8.ofNat (48+n%10)]
def xT:List AV->ah->Option (Out×ah)
 |[.int .i64 (.ofNat n),.int .i64 (.ofNat b)],h=>bif Nat.beq b 10&&Nat.blt n 9223372036854775808 then some (.ret (.str (rP 20 n)),h)else none
 |_,_=>none
end
theorem NA:∀(f n:Nat),n<10^(f+1)->rP (f+1) n=Lib.decDigits n
 |0,n,h=>by
  have h':n<10:=by simpa using h
  have hb:Nat.blt n 10=true:=by rw[mz];exact h'
  simp only[rP,hb,yE];rw[Lib.decDigits,dif_pos h']
 |f+1,n,h=>by
  by_cases h':n<10
  ·have hb:Nat.blt n 10=true:=(by rw[mz];exact h');rw[Lib.decDigits,dif_pos h'];show(bif Nat.blt n 10 then _ else _)=_;rw[hb];rfl
  ·have hb:Nat.blt n 10=false:=(by rw[j0,Ne,mz];exact h');rw[Lib.decDigits,dif_neg h'];show(bif Nat.blt n 10 then _ else _)=_;rw[hb,cond_false,NA f (n/10) (by rw[Nat.pow_succ]at h;omega)]
theorem LF{P:Program}{k:FuncId}(hT:Lib.TabIs P iY.w "internal/strconv.uint64pow10" .u64 Lib.pow10Tab)
 (hc:∀(n:Int),-9223372036854775808<=n->n<=9223372036854775807->∀w:World,Lib.TabIs P w "internal/strconv.uint64pow10" .u64 Lib.pow10Tab->
  Calls P k #[.int .i64 n,.int .i64 10] w fun e w'=>e= .returned (.string ⟨(Lib.itoa n).toArray⟩)/\∃k os,w'=Sort.grow (w.drewN k) os)
 {args:List AV} {h:ah} {out:Out} {h':ah} {ι:cS} {w:World} {cp:Array Value} (hf:xT args h=some (out,h')) (hH:dV ι h w) (hv:bF ι args cp.toList):
 CallsIn Fence.wide 0 P k cp w fun e w'=>∃dS,Ext ι h w dS h' w'/\nU dS out e:=by
 unfold xT at hf;split at hf
 ·rename_i n b;cases Kl:Nat.beq b 10&&Nat.blt n 9223372036854775808 with
  |false=>rw[Kl]at hf;cases hf
  |true=>
   rw[Kl]at hf;simp only[yE,bw,gh]at hf;obtain⟨rfl,rfl⟩:=hf;rw[eM,mz]at Kl;have hb:b=10:=jz Kl.1;subst hb;obtain⟨y,ys,e1,h1,hr⟩:=hv.inv;obtain⟨z,zs,e2,h2,HT⟩:=hr.inv;have:=HT.tV;subst this;cases h1;cases h2;have e:cp= #[.int .i64 (.ofNat n),.int .i64 10]:=(by apply jf;simpa[e2]using e1);rw[e];refine lU hH ((hc (.ofNat n) (by simp<;>omega) (by simp<;>omega) w (Dq hT hH)).mono fun e w' ⟨he,k,os,hw⟩=>⟨?_,hw▸GR w k os⟩);subst he;have hd:rP 20 n=Lib.itoa (.ofNat n):=by
    rw[NA 19 n (by
     have:(9223372036854775808:Nat)<10^(19+1):=dc;omega)]
    simp[Lib.itoa]
   rw[hd];exact bS.str _
 ·cases hf
def w8:List AV->ah->Option (Out×ah)
 |[],h=>some (.ret (.bool true),h)
 |_,_=>none
theorem Jh{P:Program}{k:FuncId}{args:List AV}{h:ah}{out:Out}{h':ah}{ι:cS}{w:World}{cp:Array Value}
 (hc:Calls P k #[] w fun e w'=>e= .returned (.bool true)/\nk w w') (hf:w8 args h=some (out,h')) (hH:dV ι h w) (hv:bF ι args cp.toList):
 CallsIn Fence.wide 0 P k cp w fun e w'=>∃dS,Ext ι h w dS h' w'/\nU dS out e:=by
 unfold w8 at hf;split at hf
 ·simp only[bw,gh]at hf;obtain⟨rfl,rfl⟩:=hf;have:=hv.tV;have e:cp= #[]:=by apply jf;simpa using this
  rw[e];refine lU hH (hc.mono fun e w' ⟨h1,h2⟩=>⟨?_,h2⟩);subst h1;exact bS.bool true
 ·cases hf
end
section
theorem nk.Ji{w w':World}(h:RowKit.Below w.heap.size w w'):nk w w':=⟨h.size,h.block,h.os,h.tape,h.output⟩
variable [iY]
def eJ(f:List AV->Option AV):List AV->ah->Option (Out×ah):=fun args h=>
 match f args with
 |some v=>some (.ret v,h)
 |none=>none
theorem qm{P:Program}{k:FuncId}{f:List AV->Option AV}
 (hc:∀{ι:cS}{args:List AV}{v:AV}{cp:Array Value}(w:World),f args=some v->bF ι args cp.toList->Calls P k cp w fun e w'=>(∃y,e= .returned y/\bS ι v y)/\nk w w')
 {args:List AV} {h:ah} {out:Out} {h':ah} {ι:cS} {w:World} {cp:Array Value} (hf:eJ f args h=some (out,h')) (hH:dV ι h w) (hv:bF ι args cp.toList):
 CallsIn Fence.wide 0 P k cp w fun e w'=>∃dS,Ext ι h w dS h' w'/\nU dS out e:=by
 unfold eJ at hf;split at hf
 ·rename_i v MR;simp only[bw,gh]at hf;obtain⟨rfl,rfl⟩:=hf;refine lU hH ((hc w MR hv).mono fun e w' ⟨⟨y,h1,h2⟩,h3⟩=>⟨?_,h3⟩);subst h1;exact h2
 ·cases hf
theorem BI{ι:cS}{a b:List UInt8}{cp:Array Value}(h:bF ι [.str a,.str b] cp.toList):cp= #[.string ⟨a.toArray⟩,.string ⟨b.toArray⟩]:=by
 obtain⟨y,ys,e1,h1,hr⟩:=h.inv;obtain⟨z,zs,e2,h2,HT⟩:=hr.inv;have:=HT.tV;subst this;cases h1;cases h2;apply jf;simpa[e2]using e1
theorem Jj{ι:cS}{a:List UInt8}{cp:Array Value}(h:bF ι [.str a] cp.toList):cp= #[.string ⟨a.toArray⟩]:=by
 obtain⟨y,ys,e1,h1,hr⟩:=h.inv;have:=hr.tV;subst this;cases h1;apply jf;simpa using e1
theorem Z8{ι:cS}{a:List UInt8}{c:Int}{cp:Array Value}(h:bF ι [.str a,.int .u8 c] cp.toList):cp= #[.string ⟨a.toArray⟩,.int .u8 c]:=by
 obtain⟨y,ys,e1,h1,hr⟩:=h.inv;obtain⟨z,zs,e2,h2,HT⟩:=hr.inv;have:=HT.tV;subst this;cases h1;cases h2;apply jf;simpa[e2]using e1
def ibF:List AV->Option AV
 |[.str s,.int .u8 c]=>some (.int .i64 (Lib.indexByte s c.toNat.toUInt8))
 |_=>none
theorem Z9{P:Program}{k:FuncId}(hc:∀(s:ByteArray)(c:Int)(w:World),Calls P k #[.string s,.int .u8 c] w fun e w'=>e= .returned (.int .i64 (Lib.indexByte s.data.toList c.toNat.toUInt8))/\w'=w)
 {ι:cS} {args:List AV} {v:AV} {cp:Array Value} (w:World) (hf:ibF args=some v) (hv:bF ι args cp.toList):Calls P k cp w fun e w'=>(∃y,e= .returned y/\bS ι v y)/\nk w w':=by
 unfold ibF at hf;split at hf
 ·simp only[bw]at hf;subst hf;rw[Z8 hv];exact(hc _ _ w).mono fun e w' ⟨h1,h2⟩=>⟨⟨_,h1,by simpa using bS.int _ _⟩,h2▸nk.refl w⟩
 ·cases hf
def X9(cs:List UInt8):Bool:=cs.all fun b=>decide (b.toNat<128)
def Fl:List AV->Option AV
 |[.str s,.str cs]=>if s.length<=9223372036854775807/\cs.length<4294967281/\X9 cs=true then some (.str (Lib.trimS s cs))else none
 |_=>none
theorem RB{P:Program}{k:FuncId}(hc:∀(s cs:ByteArray)(w:World),s.size<=9223372036854775807->cs.size<4294967281->(∀(j:Nat)(b:UInt8),cs.data.toList[j]?=some b->b.toNat<128)->
 Calls P k #[.string s,.string cs] w fun e w'=>e= .returned (.string ⟨(Lib.trimS s.data.toList cs.data.toList).toArray⟩)/\RowKit.Below w.heap.size w w')
 {ι:cS} {args:List AV} {v:AV} {cp:Array Value} (w:World) (hf:Fl args=some v) (hv:bF ι args cp.toList):Calls P k cp w fun e w'=>(∃y,e= .returned y/\bS ι v y)/\nk w w':=by
 unfold Fl at hf;split at hf
 ·rename_i s cs;split at hf
  ·rename_i Qg;simp only[bw]at hf;subst hf;rw[BI hv];refine(hc _ _ w (by simpa[ByteArray.size]using Qg.1) (by simpa[ByteArray.size]using Qg.2.1) (fun j b hb=>?_)).mono fun e w' ⟨h1,h2⟩=>⟨⟨_,h1,by simpa using bS.str _⟩,.Ji h2⟩
   have:=dw.1 Qg.2.2 b (bg (by simpa using hb));simpa using this
  ·cases hf
 ·cases hf
def AX:List AV->Option AV
 |[.str s,.str [c]]=>if s.length<=9223372036854775807/\c.toNat<128 then some (.str (Lib.trimRightB s c))else none
 |_=>none
theorem OV{P:Program}{k:FuncId}(hc:∀(s:ByteArray)(c:UInt8),c.toNat<128->∀w:World,s.size<=9223372036854775807->
 Calls P k #[.string s,.string ⟨#[c]⟩] w fun e w'=>e= .returned (.string ⟨(Lib.trimRightB s.data.toList c).toArray⟩)/\w'=w)
 {ι:cS} {args:List AV} {v:AV} {cp:Array Value} (w:World) (hf:AX args=some v) (hv:bF ι args cp.toList):Calls P k cp w fun e w'=>(∃y,e= .returned y/\bS ι v y)/\nk w w':=by
 unfold AX at hf;split at hf
 ·rename_i s c;split at hf
  ·rename_i Qg;simp only[bw]at hf;subst hf;rw[BI hv];exact(hc _ c Qg.2 w (by simpa[ByteArray.size]using Qg.1)).mono fun e w' ⟨h1,h2⟩=>⟨⟨_,h1,by simpa using bS.str _⟩,h2▸nk.refl w⟩
  ·cases hf
 ·cases hf
def Jk:List AV->Option AV
 |[.str s,.str p]=>some (.iX [.str (Lib.trimPrefix s p),.bool (Lib.hasPrefix s p)])
 |_=>none
theorem RC{P:Program}{k:FuncId}(hc:∀(s p:ByteArray)(w:World),Calls P k #[.string s,.string p] w fun e w'=>
 e= .returned (.tuple #[.string ⟨(Lib.trimPrefix s.data.toList p.data.toList).toArray⟩,.bool (Lib.hasPrefix s.data.toList p.data.toList)])/\w'=w)
 {ι:cS} {args:List AV} {v:AV} {cp:Array Value} (w:World) (hf:Jk args=some v) (hv:bF ι args cp.toList):Calls P k cp w fun e w'=>(∃y,e= .returned y/\bS ι v y)/\nk w w':=by
 unfold Jk at hf;split at hf
 ·simp only[bw]at hf;subst hf;rw[BI hv];exact(hc _ _ w).mono fun e w' ⟨h1,h2⟩=>⟨⟨_,h1,by simpa using bS.Er (bF.cons (.str _) (bF.cons (.bool _) (bF.nil _)))⟩,h2▸nk.refl w⟩
 ·cases hf
def Fo:List AV->Option AV
 |[.str s,.str p]=>if s.length<=9223372036854775807 then some (.iX [.str (Lib.trimSuffix s p),.bool (Lib.hasSuffix s p)])else none
 |_=>none
theorem RD{P:Program}{k:FuncId}(hc:∀(s p:ByteArray)(w:World),s.size<=9223372036854775807->Calls P k #[.string s,.string p] w fun e w'=>
 e= .returned (.tuple #[.string ⟨(Lib.trimSuffix s.data.toList p.data.toList).toArray⟩,.bool (Lib.hasSuffix s.data.toList p.data.toList)])/\w'=w)
 {ι:cS} {args:List AV} {v:AV} {cp:Array Value} (w:World) (hf:Fo args=some v) (hv:bF ι args cp.toList):Calls P k cp w fun e w'=>(∃y,e= .returned y/\bS ι v y)/\nk w w':=by
 unfold Fo at hf;split at hf
 ·split at hf
  ·rename_i Qg;simp only[bw]at hf;subst hf;rw[BI hv];exact(hc _ _ w (by simpa[ByteArray.size]using Qg)).mono fun e w' ⟨h1,h2⟩=>⟨⟨_,h1,by simpa using bS.Er (bF.cons (.str _) (bF.cons (.bool _) (bF.nil _)))⟩,h2▸nk.refl w⟩
  ·cases hf
 ·cases hf
def RE:Lib.NumEnd Int->Bool
 | .ok _| .range=>false
 |_=>true
noncomputable def o0(T:TypeId):List AV->ah->Option (Out×ah)
 |[.str s],h=>if s.length<=281474976710656 then match Lib.atoiAll s with
  | .ok v=>some (.ret (.iX [.int .i64 v,.nilIface]),h)
  | .range=>some (.ret (.iX [.int .i64 (Lib.atoiSat s),.iface T (.ptr (some (h.next,0)))]),(h.alloc .dead).2)
  |_=>some (.ret (.iX [.int .i64 0,.iface T (.ptr (some (h.next,0)))]),(h.alloc .dead).2)
  else none
 |_,_=>none
theorem sq{g:Nat}{v:Value}(hc:iY.w.cell? ⟨g,0,none⟩=some v){ι:cS}{h:ah}{w:World}(hH:dV ι h w):w.cell? ⟨g,0,none⟩=some v:=by
 unfold World.cell? at hc⊢;have cX:g<iY.w.heap.size:=by
  rcases eW g iY.w.heap.size with h1|h1
  ·exact h1
  ·simp only[oy h1]at hc;cases hc
 have:=hH.base.old g cX;simp only[this];exact hc
theorem vO(w:World)(e:TypeId)(s:ByteArray):nk w (Lib.bytesWorld w e s):=by
 unfold Lib.bytesWorld World.freeze;rw[az dc];refine⟨by simp[World.alloc_eq],fun b hb=>?_,rfl,rfl,rfl⟩;simp only[iI];rw[az om];exact heap_alloc_old w.drew _ hb
theorem NB{ι:cS}{h:ah}{w w':World}(hH:dV ι h w)(hB:RowKit.Below w.heap.size w w'){N:Nat}(h1:w.heap.size<=N)(h2:N<w'.heap.size):
 Ext ι h w (ι.add h.next ⟨N,0,0,0,false⟩) (h.alloc .dead).2 w':=
 hH.grow hB.size hB.block hB.os hB.tape hB.output .dead ⟨N,0,0,0,false⟩ h1 h2 trivial
theorem Jl{P:Program}{k:FuncId}{T:TypeId}{g1 g2:Nat}{e5 t112:TypeId}{nm:ByteArray}
 (gJ:∀(s:ByteArray),s.size<=9223372036854775806->∀(v:Int),Lib.atoiAll s.data.toList= .ok v->∀w:World,Calls P k #[.string s] w fun e w'=>e= .returned (.tuple #[.int .i64 v,.nilIface])/\(w'=w\/∃t,w'=Lib.bytesWorld w e5 t))
 (Jm:∀(s:ByteArray),s.size<=281474976710656->RE (Lib.atoiAll s.data.toList)=true->∀(ev:Value)(w:World),w.cell? ⟨g1,0,none⟩=some ev->(ev= .nilIface\/∃te pe,ev= .iface te pe)->
  Calls P k #[.string s] w fun e w'=>∃N,e= .returned (.tuple #[.int .i64 0,.iface T (.pointer (some ⟨N,0,none⟩))])/\w.heap.size<=N/\w'.heap[N]?=some (.cells #[.string nm,.string s,ev] t112 (0,0))/\RowKit.Below w.heap.size w w')
 (Nb:∀(s:ByteArray),s.size<=281474976710656->Lib.atoiAll s.data.toList= .range->∀(ev:Value)(w:World),w.cell? ⟨g2,0,none⟩=some ev->(ev= .nilIface\/∃te pe,ev= .iface te pe)->
  Calls P k #[.string s] w fun e w'=>∃N,e= .returned (.tuple #[.int .i64 (Lib.atoiSat s.data.toList),.iface T (.pointer (some ⟨N,0,none⟩))])/\w.heap.size<=N/\w'.heap[N]?=some (.cells #[.string nm,.string s,ev] t112 (0,0))/\RowKit.Below w.heap.size w w')
 (E9:∃ev,iY.w.cell? ⟨g1,0,none⟩=some ev/\(ev= .nilIface\/∃te pe,ev= .iface te pe)) (jJ:∃ev,iY.w.cell? ⟨g2,0,none⟩=some ev/\(ev= .nilIface\/∃te pe,ev= .iface te pe))
 {args:List AV} {h:ah} {out:Out} {h':ah} {ι:cS} {w:World} {cp:Array Value} (hf:o0 T args h=some (out,h')) (hH:dV ι h w) (hv:bF ι args cp.toList):
 CallsIn Fence.wide 0 P k cp w fun e w'=>∃dS,Ext ι h w dS h' w'/\nU dS out e:=by
 unfold o0 at hf;split at hf
 ·rename_i s;split at hf
  ·rename_i hlen;rw[Jj hv];have ng:(⟨s.toArray⟩:ByteArray).size=s.length:=(by simp[ByteArray.size]);split at hf
   ·rename_i v rQ;simp only[bw,gh]at hf;obtain⟨rfl,rfl⟩:=hf;refine lU hH ((gJ ⟨s.toArray⟩ (by rw[ng];omega) v (by simpa using rQ) w).mono fun e w' ⟨h1,h2⟩=>⟨?_,?_⟩)
    ·subst h1;exact bS.Er (bF.cons (.int _ _) (bF.cons .nilIface (bF.nil _)))
    ·rcases h2 with rfl|⟨t,rfl⟩
     ·exact nk.refl _
     ·exact vO _ _ _
   ·rename_i rQ;simp only[bw,gh]at hf;obtain⟨rfl,rfl⟩:=hf;obtain⟨ev,NC,aa0⟩:=jJ;refine callsIn_wide.2 ((Nb ⟨s.toArray⟩ (by rw[ng];omega) (by simpa using rQ) ev w (sq NC hH) aa0).mono fun e w' ⟨N,h1,h2,h3,h4⟩=>?_);refine⟨_,NB hH h4 h2 (bP.1 h3).1,?_⟩;subst h1;exact bS.Er (bF.cons (by simpa using bS.int _ _) (bF.cons (.iface _ (.ptr (L:=⟨N,0,0,0,false⟩) (cS.add_same _ _ _))) (bF.nil _)))
   ·rename_i afa aa1;have rQ:RE (Lib.atoiAll s)=true:=by
     cases hx:Lib.atoiAll s with
     |ok v=>exact(afa v hx).elim
     |range=>exact(aa1 hx).elim
     |_=>rfl
    simp only[bw,gh]at hf;obtain⟨rfl,rfl⟩:=hf;obtain⟨ev,NC,aa0⟩:=E9;refine callsIn_wide.2 ((Jm ⟨s.toArray⟩ (by rw[ng];omega) (by simpa using rQ) ev w (sq NC hH) aa0).mono fun e w' ⟨N,h1,h2,h3,h4⟩=>?_);refine⟨_,NB hH h4 h2 (bP.1 h3).1,?_⟩;subst h1;exact bS.Er (bF.cons (.int _ _) (bF.cons (.iface _ (.ptr (L:=⟨N,0,0,0,false⟩) (cS.add_same _ _ _))) (bF.nil _)))
  ·cases hf
 ·cases hf
end
section
variable{E:Env}
def RF(E:Env)(ops:Array Oper)(o:Oper)(rest:List Oper)(Q:bt->St->Prop)(rg:T AV)(n:Nat)(h:ah)(ds:List fJ)(bI:Bool):Prop:=
 ∃r,eF E rg h o=some r/\Dh E o.dst ⟨rg,n,h,ds,bI⟩ (fun p cg=>match p with
  |none=>wpOps E ops rest Q cg
  |some v=>Q (.iS v) cg) r
theorem uP{ops:Array Oper}{o:Oper}{rest:List Oper}{Q:bt->St->Prop}{rg:T AV}{n:Nat}{h:ah}{ds:List fJ}{bI:Bool}
 (hw:cf ops n rg o=some true) (hk:RF E ops o rest Q rg n h ds bI):wpOps E ops (o::rest) Q ⟨rg,n,h,ds,bI⟩:=by
 obtain⟨r,h1,h2⟩:=hk;simp only[wpOps,hw];rw[h1];exact h2
theorem yQ{ops:Array Oper}{o:Oper}{rest:List Oper}{Q:bt->St->Prop}{rg:T AV}{n:Nat}{h:ah}{ds:List fJ}{bI:Bool}
 (hw:cf ops n rg o=some false) (hk:wpOps E ops rest Q ⟨eH rg o.dst mc,n,h,ds,bI⟩):wpOps E ops (o::rest) Q ⟨rg,n,h,ds,bI⟩:=by
 simp only[wpOps,hw];exact hk
theorem OW{ops:Array Oper}{o:Oper}{rest:List Oper}{Q:bt->St->Prop}{rg:T AV}{n:Nat}{h h':ah}{ds:List fJ}{bI:Bool}{v:AV}
 (hw:cf ops n rg o=some true) (ho:eF E rg h o=some (.val v,h')) (hk:wpOps E ops rest Q ⟨eH rg o.dst v,n,h',ds,bI⟩):wpOps E ops (o::rest) Q ⟨rg,n,h,ds,bI⟩:=
 uP hw ⟨_,ho,hk⟩
theorem Jn{ops:Array Oper}{o:Oper}{rest:List Oper}{Q:bt->St->Prop}{rg:T AV}{n:Nat}{h h':ah}{ds:List fJ}{bI:Bool}
 (hw:cf ops n rg o=some true) (ho:eF E rg h o=some (.skip,h')) (hk:wpOps E ops rest Q ⟨eH rg o.dst mc,n,h',ds,bI⟩):wpOps E ops (o::rest) Q ⟨rg,n,h,ds,bI⟩:=
 uP hw ⟨_,ho,hk⟩
theorem LG{ops:Array Oper}{o:Oper}{rest:List Oper}{Q:bt->St->Prop}{rg:T AV}{n:Nat}{h h':ah}{ds:List fJ}{bI:Bool}{f:FuncId}{args:List AV}
 (hw:cf ops n rg o=some true) (ho:eF E rg h o=some (.enter f args,h'))
 (hk:aV E f args h' fun out h2=>match out with
  | .ret v=>wpOps E ops rest Q ⟨eH rg o.dst v,n,h2,ds,bI⟩
  | .iS v=>Q (.iS v) ⟨rg,n,h2,ds,bI⟩):wpOps E ops (o::rest) Q ⟨rg,n,h,ds,bI⟩:=
 uP hw ⟨_,ho,hk.mono fun out h2 hq=>by cases out<;>exact hq⟩
theorem Ya{ops:Array Oper}{o:Oper}{rest:List Oper}{Q:bt->St->Prop}{rg:T AV}{n:Nat}{h:ah}{ds:List fJ}{bI:Bool}{b:Bool}
 (hw:cf ops n rg o=some b) (ht:b=true->RF E ops o rest Q rg n h ds bI) (hf:b=false->wpOps E ops rest Q ⟨eH rg o.dst mc,n,h,ds,bI⟩):wpOps E ops (o::rest) Q ⟨rg,n,h,ds,bI⟩:=by
 cases b with
 |true=>exact uP hw (ht rfl)
 |false=>exact yQ hw (hf rfl)
theorem abI{ops:Array Oper}{o:Oper}{rest:List Oper}{Q:bt->St->Prop}{rg:T AV}{n:Nat}{h h':ah}{ds:List fJ}{bI:Bool}{v:AV}
 (ho:eF E rg h o=some (.val v,h')) (hk:wpOps E ops rest Q ⟨eH rg o.dst v,n,h',ds,bI⟩):RF E ops o rest Q rg n h ds bI:=⟨_,ho,hk⟩
theorem afb{ops:Array Oper}{Q:bt->St->Prop}{st:St}(h:Q .jL st):wpOps E ops [] Q st:=h
theorem aen{K:St->Prop}{Q:bt->St->Prop}{st:St}(h:K st):je K Q .jL st:=h
theorem acv{K:St->Prop}{Q:bt->St->Prop}{st:St}(h:Q .ret st):je K Q .ret st:=h
theorem acw{K:St->Prop}{Q:bt->St->Prop}{st:St}{id:Nat}(h:Q (.exit id) st):je K Q (.exit id) st:=h
theorem acx{K:St->Prop}{Q:bt->St->Prop}{st:St}{v:AV}(h:Q (.iS v) st):je K Q (.iS v) st:=h
theorem abJ{id:Nat}{Q:bt->St->Prop}{st:St}(h:Q .jL st):ki id Q .jL st:=h
theorem abK{id:Nat}{Q:bt->St->Prop}{st:St}(h:Q .ret st):ki id Q .ret st:=h
theorem abL{id:Nat}{Q:bt->St->Prop}{st:St}{v:AV}(h:Q (.iS v) st):ki id Q (.iS v) st:=h
theorem abM{id:Nat}{Q:bt->St->Prop}{st:St}(h:Q .jL st):ki id Q (.exit id) st:=by simp only[ki,lM];exact h
theorem aa2{id wE:Nat}{Q:bt->St->Prop}{st:St}(jX:Nat.beq wE id=false)(h:Q (.exit wE) st):ki id Q (.exit wE) st:=by
 have:¬wE=id:=fun e=>by subst e;simp at jX
 simp only[ki,az this];exact h
theorem afc{Q:bt->St->Prop}{st:St}(h:Q .ret st):bR E .ret Q st:=h
theorem aeo{id:Nat}{Q:bt->St->Prop}{st:St}(h:Q (.exit id) st):bR E (.exit id) Q st:=h
theorem aep{Q:bt->St->Prop}{st:St}(h:Q .jL st):bR E .skip Q st:=h
def ah.bump(h:ah)(k:Nat):ah:={h with next:=h.next+k}
theorem ah.RG(h:ah)(k i:Nat):(h.bump k).get i=h.get i:=rfl
theorem ah.kz(h:ah)(k:Nat):(h.bump k).next=h.next+k:=rfl
theorem Vi{id:Nat}{ops:Array Oper}{Q:bt->St->Prop}{rg:T AV}{n:Nat}{h:ah}{ds:List fJ}{bI:Bool}(hp:qj E ops=false)(hd:gL ops=true)
 (hk:dY E ops (gK ops) h.next ops.toList.zipIdx Q ⟨rg,n,h.bump ops.size,ds,bI⟩ [] []):bR E (.region id ops true) Q ⟨rg,n,h,ds,bI⟩:=by
 have:tT E ops=ops:=by unfold tT;rw[hp];rfl
 show Rg E (tT E ops) Q _;rw[this];exact⟨hd,hk⟩
theorem afd{ops:Array Oper}{eg:Nat->Nat}{base:Nat}{Q:bt->St->Prop}{st:St}{sn:List jB}{rd:List Rd}(h:Q .jL st):dY E ops eg base [] Q st sn rd:=h
theorem NF{ops:Array Oper}{eg:Nat->Nat}{base:Nat}{o:Oper}{i:Nat}{rest:List (Oper×Nat)}{Q:bt->St->Prop}{rg:T AV}{n:Nat}{h:ah}{ds:List fJ}{bI:Bool}{sn:List jB}{rd:List Rd}
 (hw:cf ops n rg o=some false) (hk:dY E ops eg base rest Q ⟨eH rg o.dst mc,n,h,ds,bI⟩ sn rd):dY E ops eg base ((o,i)::rest) Q ⟨rg,n,h,ds,bI⟩ sn rd:=by
 simp only[dY,hw];exact hk
theorem Vj{ops:Array Oper}{eg:Nat->Nat}{base:Nat}{o:Oper}{i:Nat}{rest:List (Oper×Nat)}{Q:bt->St->Prop}{rg:T AV}{n:Nat}{h h':ah}{ds:List fJ}{bI:Bool}{sn:List jB}{rd:List Rd}{v:AV}
 (hw:cf ops n rg o=some true) (hc:fK E o= .pure) (ho:eF E rg h o=some (.val v,h')) (hk:dY E ops eg base rest Q ⟨eH rg o.dst v,n,h,ds,bI⟩ sn rd):dY E ops eg base ((o,i)::rest) Q ⟨rg,n,h,ds,bI⟩ sn rd:=by
 simp only[dY,hw,hc];rw[ho];exact hk
theorem Vk{ops:Array Oper}{eg:Nat->Nat}{base:Nat}{o:Oper}{i:Nat}{rest:List (Oper×Nat)}{Q:bt->St->Prop}{rg:T AV}{n:Nat}{h h':ah}{ds:List fJ}{bI:Bool}{rd:List Rd}{v:AV}
 (hw:cf ops n rg o=some true) (hc:fK E o= .read) (ho:eF E rg h o=some (.val v,h')) (hk:dY E ops eg base rest Q ⟨eH rg o.dst v,n,h,ds,bI⟩ [] ({idx:=i,o:=o,rg:=rg,v:=v}::rd)):
 dY E ops eg base ((o,i)::rest) Q ⟨rg,n,h,ds,bI⟩ [] rd:=by
 simp only[dY,hw,hc];rw[ho];exact⟨rfl,hk⟩
theorem RH{ops:Array Oper}{eg:Nat->Nat}{base:Nat}{o:Oper}{i:Nat}{rest:List (Oper×Nat)}{Q:bt->St->Prop}{rg:T AV}{n:Nat}{h h':ah}{ds:List fJ}{bI:Bool}{sn:List jB}{rd:List Rd}{v v':AV}{ob:ej}
 (hw:cf ops n rg o=some true) (hc:fK E o= .alloc) (ho:eF E rg h o=some (.val v,h')) (h1:h'.get h.next=some ob) (h2:h.get (base+i)=none) (h3:wg (base+i) v=some v')
 (hk:dY E ops eg base rest Q ⟨eH rg o.dst v',n,h.set (base+i) ob,ds,bI⟩ sn rd):dY E ops eg base ((o,i)::rest) Q ⟨rg,n,h,ds,bI⟩ sn rd:=by
 simp only[dY,hw,hc];rw[ho];simp only[h1,h2,h3];exact hk
theorem RJ{ops:Array Oper}{eg:Nat->Nat}{base:Nat}{o:Oper}{i:Nat}{rest:List (Oper×Nat)}{Q:bt->St->Prop}{rg:T AV}{n:Nat}{h h':ah}{ds:List fJ}{bI:Bool}{sn:List jB}{rd:List Rd}
 (hw:cf ops n rg o=some true) (hc:fK E o= .pK) (ho:eF E rg h o=some (.skip,h')) (h1:sn.all (fun s=>(eg i).testBit s.idx)=true) (h2:rd.all (fun r=>(eg i).testBit r.idx||gD E h' r.rg r.o r.v)=true)
 (hk:dY E ops eg base rest Q ⟨eH rg o.dst mc,n,h',ds,bI⟩ ({idx:=i,h:=h}::sn) rd):dY E ops eg base ((o,i)::rest) Q ⟨rg,n,h,ds,bI⟩ sn rd:=by
 simp only[dY,hw,hc];rw[ho];exact⟨h1,h2,hk⟩
theorem acy{ops:Array Oper}{eg:Nat->Nat}{base:Nat}{o:Oper}{i:Nat}{rest:List (Oper×Nat)}{Q:bt->St->Prop}{rg:T AV}{n:Nat}{h:ah}{ds:List fJ}{bI:Bool}{sn:List jB}{rd:List Rd}{b:Bool}
 (hw:cf ops n rg o=some b) (ht:b=true->cf ops n rg o=some true->dY E ops eg base ((o,i)::rest) Q ⟨rg,n,h,ds,bI⟩ sn rd) (hf:b=false->dY E ops eg base rest Q ⟨eH rg o.dst mc,n,h,ds,bI⟩ sn rd):
 dY E ops eg base ((o,i)::rest) Q ⟨rg,n,h,ds,bI⟩ sn rd:=by
 cases b with
 |true=>exact ht rfl hw
 |false=>exact NF hw (hf rfl)
theorem afe{a b:Code}{Q:bt->St->Prop}{st:St}(h:bR E a (je (bR E b Q) Q) st):bR E (.seq a b) Q st:=h
theorem abN{id:Nat}{ops:Array Oper}{Q:bt->St->Prop}{st:St}(h:wpOps E ops ops.toList Q st):bR E (.region id ops false) Q st:=h
theorem acz{id:Nat}{b:Code}{Q:bt->St->Prop}{st:St}(h:bR E b (ki id Q) st):bR E (.block id b) Q st:=h
theorem aeq{c:Operand}{a b:Code}{Q:bt->St->Prop}{rg:T AV}{n:Nat}{h:ah}{ds:List fJ}{bI:Bool}{x:Bool}(hc:ic rg c=some (.bool x))
 (ht:x=true->bR E a Q ⟨rg,n,h,ds,bI⟩) (hf:x=false->bR E b Q ⟨rg,n,h,ds,bI⟩):bR E (.cond c a b) Q ⟨rg,n,h,ds,bI⟩:=⟨x,hc,ht,hf⟩
theorem acA{c:Operand}{a b:Code}{Q:bt->St->Prop}{rg:T AV}{n:Nat}{h:ah}{ds:List fJ}{bI:Bool}(hc:ic rg c=some (.bool true))
 (ht:bR E a Q ⟨rg,n,h,ds,bI⟩):bR E (.cond c a b) Q ⟨rg,n,h,ds,bI⟩:=⟨true,hc,fun _=>ht,(fun e=>by cases e)⟩
theorem acB{c:Operand}{a b:Code}{Q:bt->St->Prop}{rg:T AV}{n:Nat}{h:ah}{ds:List fJ}{bI:Bool}(hc:ic rg c=some (.bool false))
 (hf:bR E b Q ⟨rg,n,h,ds,bI⟩):bR E (.cond c a b) Q ⟨rg,n,h,ds,bI⟩:=⟨false,hc,(fun e=>by cases e),fun _=>hf⟩
theorem aa3{id:Nat}{l:List Oper}{Q:bt->St->Prop}{st:St}(h:wpOps E l.toArray l Q st):bR E (.region id l.toArray false) Q st:=h
theorem RL{id:Nat}{l:List Oper}{zl:List (Oper×Nat)}{Q:bt->St->Prop}{rg:T AV}{n:Nat}{h:ah}{ds:List fJ}{bI:Bool}(hz:l.zipIdx=zl)(hp:qj E l.toArray=false)(hd:gL l.toArray=true)
 (hk:dY E l.toArray (gK l.toArray) h.next zl Q ⟨rg,n,h.bump l.length,ds,bI⟩ [] []):bR E (.region id l.toArray true) Q ⟨rg,n,h,ds,bI⟩:=by
 subst hz;exact Vi hp hd hk
theorem acC{b:Code}{Q:bt->St->Prop}{st:St}(h:bR E b Q st):bR E (.scope b) Q st:=h
theorem bW{b:Code}{Q:bt->St->Prop}{st:St}(I:Nat->St->Prop)(k:Nat)(h0:I k st)(hs:∀k st,I k st->bR E b (je (fun cg=>∃j,j<k/\I j cg) Q) st):bR E (.loop b) Q st:=⟨I,k,h0,hs⟩
section
variable{ops:Array Oper}{o:Oper}{rest:List Oper}{Q:bt->St->Prop}{rg:T AV}{n:Nat}{h h':ah}{ds:List fJ}{bI:Bool}{v:AV}{t:Tmp}
theorem Yb(hw:cf ops n rg o=some false)(hd:o.dst=some t)(hk:wpOps E ops rest Q ⟨rg.set mc t,n,h,ds,bI⟩):wpOps E ops (o::rest) Q ⟨rg,n,h,ds,bI⟩:=
 yQ hw (by rw[hd];exact hk)
theorem Yc(hw:cf ops n rg o=some false)(hd:o.dst=none)(hk:wpOps E ops rest Q ⟨rg,n,h,ds,bI⟩):wpOps E ops (o::rest) Q ⟨rg,n,h,ds,bI⟩:=
 yQ hw (by rw[hd];exact hk)
theorem aa4(hw:cf ops n rg o=some true)(hd:o.dst=some t)(ho:eF E rg h o=some (.val v,h'))(hk:wpOps E ops rest Q ⟨rg.set v t,n,h',ds,bI⟩):wpOps E ops (o::rest) Q ⟨rg,n,h,ds,bI⟩:=
 OW hw ho (by rw[hd];exact hk)
theorem Vl(hw:cf ops n rg o=some true)(hd:o.dst=none)(ho:eF E rg h o=some (.skip,h'))(hk:wpOps E ops rest Q ⟨rg,n,h',ds,bI⟩):wpOps E ops (o::rest) Q ⟨rg,n,h,ds,bI⟩:=
 Jn hw ho (by rw[hd];exact hk)
theorem Yd{f:FuncId}{args:List AV}(hw:cf ops n rg o=some true)(hd:o.dst=some t)(ho:eF E rg h o=some (.enter f args,h'))
 (hk:aV E f args h' fun out h2=>match out with
  | .ret v=>wpOps E ops rest Q ⟨rg.set v t,n,h2,ds,bI⟩
  | .iS v=>Q (.iS v) ⟨rg,n,h2,ds,bI⟩):wpOps E ops (o::rest) Q ⟨rg,n,h,ds,bI⟩:=
 LG hw ho (hk.mono fun out h2 hq=>by rw[hd];exact hq)
variable{eg:Nat->Nat}{base:Nat}{i:Nat}{sP:List (Oper×Nat)}{sn:List jB}{rd:List Rd}
theorem acD(hw:cf ops n rg o=some false)(hd:o.dst=some t)(hk:dY E ops eg base sP Q ⟨rg.set mc t,n,h,ds,bI⟩ sn rd):dY E ops eg base ((o,i)::sP) Q ⟨rg,n,h,ds,bI⟩ sn rd:=
 NF hw (by rw[hd];exact hk)
theorem acE(hw:cf ops n rg o=some true)(hd:o.dst=some t)(hc:fK E o= .pure)(ho:eF E rg h o=some (.val v,h'))(hk:dY E ops eg base sP Q ⟨rg.set v t,n,h,ds,bI⟩ sn rd):dY E ops eg base ((o,i)::sP) Q ⟨rg,n,h,ds,bI⟩ sn rd:=
 Vj hw hc ho (by rw[hd];exact hk)
theorem acF(hw:cf ops n rg o=some true)(hd:o.dst=some t)(hc:fK E o= .read)(ho:eF E rg h o=some (.val v,h'))(hk:dY E ops eg base sP Q ⟨rg.set v t,n,h,ds,bI⟩ [] ({idx:=i,o:=o,rg:=rg,v:=v}::rd)):
 dY E ops eg base ((o,i)::sP) Q ⟨rg,n,h,ds,bI⟩ [] rd:=
 Vk hw hc ho (by rw[hd];exact hk)
theorem abO{v':AV}{ob:ej}(hw:cf ops n rg o=some true)(hd:o.dst=some t)(hc:fK E o= .alloc)(ho:eF E rg h o=some (.val v,h'))(h1:h'.get h.next=some ob)(h2:h.get (base+i)=none)(h3:wg (base+i) v=some v')
 (hk:dY E ops eg base sP Q ⟨rg.set v' t,n,h.set (base+i) ob,ds,bI⟩ sn rd):dY E ops eg base ((o,i)::sP) Q ⟨rg,n,h,ds,bI⟩ sn rd:=
 RH hw hc ho h1 h2 h3 (by rw[hd];exact hk)
theorem abP(hw:cf ops n rg o=some true)(hd:o.dst=none)(hc:fK E o= .pK)(ho:eF E rg h o=some (.skip,h'))(h1:sn.all (fun s=>(eg i).testBit s.idx)=true)(h2:rd.all (fun r=>(eg i).testBit r.idx||gD E h' r.rg r.o r.v)=true)
 (hk:dY E ops eg base sP Q ⟨rg,n,h',ds,bI⟩ ({idx:=i,h:=h}::sn) rd):dY E ops eg base ((o,i)::sP) Q ⟨rg,n,h,ds,bI⟩ sn rd:=
 RJ hw hc ho h1 h2 (by rw[hd];exact hk)
theorem acG{f:FuncId}{args:List AV}(hw:cf ops n rg o=some true)(hd:o.dst=some t)(hc:fK E o= .pK)(ho:eF E rg h o=some (.enter f args,h'))(h1:sn.all (fun s=>(eg i).testBit s.idx)=true)
 (hk:aV E f args h' fun out h2=>match out with
  | .ret v=>rd.all (fun r=>(eg i).testBit r.idx||gD E h2 r.rg r.o r.v)=true/\dY E ops eg base sP Q ⟨rg.set v t,n,h2,ds,bI⟩ ({idx:=i,h:=h}::sn) rd
  | .iS _=>False):dY E ops eg base ((o,i)::sP) Q ⟨rg,n,h,ds,bI⟩ sn rd:=by
 simp only[dY,hw,hc];rw[ho];refine⟨h1,hk.mono fun out h2 hq=>?_⟩;cases out with
 |ret v=>simp only[acg,hd];exact hq
 |iS v=>exact hq.elim
end
section
variable{t:TypeId}{k:IntKind}{a b:Int}
theorem Vm:cn (Go.binOp .eql t (.int k a) (.int k b))=some (.bool (a==b)):=by simp[Go.binOp,Op.intCmp,cn,iM,pure,Sem.pure]
theorem Vn:cn (Go.binOp .neq t (.int k a) (.int k b))=some (.bool (a !=b)):=by simp[Go.binOp,Op.intCmp,cn,iM,pure,Sem.pure]
theorem Vo:cn (Go.binOp .lss t (.int k a) (.int k b))=some (.bool (decide (a<b))):=by simp[Go.binOp,Op.intCmp,cn,iM,pure,Sem.pure]
theorem Vp:cn (Go.binOp .leq t (.int k a) (.int k b))=some (.bool (decide (a<=b))):=by simp[Go.binOp,Op.intCmp,cn,iM,pure,Sem.pure]
theorem Vq:cn (Go.binOp .gtr t (.int k a) (.int k b))=some (.bool (decide (b<a))):=by simp[Go.binOp,Op.intCmp,cn,iM,pure,Sem.pure]
theorem Vs:cn (Go.binOp .geq t (.int k a) (.int k b))=some (.bool (decide (b<=a))):=by simp[Go.binOp,Op.intCmp,cn,iM,pure,Sem.pure]
theorem Vt:cn (Go.binOp .add t (.int .i64 a) (.int .i64 b))=some (.int .i64 (IntKind.wrap .i64 (a+b))):=by simp[Go.binOp,Op.intArith,cn,iM,pure,Sem.pure]
theorem Vu:cn (Go.binOp .sub t (.int .i64 a) (.int .i64 b))=some (.int .i64 (IntKind.wrap .i64 (a-b))):=by simp[Go.binOp,Op.intArith,cn,iM,pure,Sem.pure]
theorem Vv:cn (Go.binOp .mul t (.int .i64 a) (.int .i64 b))=some (.int .i64 (IntKind.wrap .i64 (a*b))):=by simp[Go.binOp,Op.intArith,cn,iM,pure,Sem.pure]
theorem aer(hb:b≠0):cn (Go.binOp .quo t (.int .i64 a) (.int .i64 b))=some (.int .i64 (IntKind.wrap .i64 (a.tdiv b))):=by simp[Go.binOp,Op.intDiv,hb,cn,iM,pure,Sem.pure]
theorem aes(hb:b≠0):cn (Go.binOp .rem t (.int .i64 a) (.int .i64 b))=some (.int .i64 (a.tmod b)):=by simp[Go.binOp,Op.intDiv,hb,cn,iM,pure,Sem.pure]
theorem aa5{b:Bool}:cn (Op.unary .not (.bool b))=some (.bool (!b)):=by simp[Op.unary,cn,iM,pure,Sem.pure]
end
theorem Dr{d:Option Tmp}{st:St}{K K':Option AV->St->Prop}(hK:∀p cg,K p cg->K' p cg){x:dZ×ah}(h:Dh E d st K x):Dh E d st K' x:=by
 obtain⟨o,hp⟩:=x;cases o with
 |val v=>exact hK _ _ h
 |skip=>exact hK _ _ h
 |enter f args=>exact aV.mono h fun out h' hq=>by cases out<;>exact hK _ _ hq
 |yield l args=>
  obtain⟨n,v,h',h1,h2⟩:=h;exact⟨n,v,h',h1,hK _ _ h2⟩
 |defer f args=>exact⟨h.1,hK _ _ h.2⟩
 |recover=>exact h
 |panic v=>exact hK _ _ h
theorem vw{ops:Array Oper}{Q Q':bt->St->Prop}(hQ:∀x cg,Q x cg->Q' x cg):∀{l:List Oper}{st:St},wpOps E ops l Q st->wpOps E ops l Q' st
 |[],st,h=>hQ _ _ h
 |o::l,st,h=>by
  simp only[wpOps]at h⊢;split at h
  ·exact h.elim
  ·exact vw hQ h
  ·split at h
   ·exact h.elim
   ·refine Dr (fun p cg hp=>?_) h;cases p with
    |none=>exact vw hQ hp
    |some v=>exact hQ _ _ hp
theorem oL{ops:Array Oper}{eg:Nat->Nat}{base:Nat}{Q Q':bt->St->Prop}(hQ:∀x cg,Q x cg->Q' x cg):∀{l:List (Oper×Nat)}{st:St}{sn:List jB}{rd:List Rd},
 dY E ops eg base l Q st sn rd->dY E ops eg base l Q' st sn rd
 |[],st,sn,rd,h=>hQ _ _ h
 |(o,i)::l,st,sn,rd,h=>by
  simp only[dY]at h⊢;split at h
  ·exact h.elim
  ·exact oL hQ h
  ·split at h
   ·exact h.elim
   ·exact oL hQ h
   ·exact⟨h.1,oL hQ h.2⟩
   ·split at h
    ·exact oL hQ h
    ·exact h.elim
   ·refine⟨h.1,Dr (fun p cg hp=>?_) h.2⟩;cases p with
    |none=>exact⟨hp.1,oL hQ hp.2⟩
    |some v=>exact⟨hp.1,hQ _ _ hp.2⟩
   ·exact h.elim
theorem mq:∀{c:Code}{Q Q':bt->St->Prop}{st:St},(∀x cg,Q x cg->Q' x cg)->bR E c Q st->bR E c Q' st:=by
 intro c;induction c with
 |skip=>intro Q Q' st hQ h;exact hQ _ _ h
 |region id ops d=>
  intro Q Q' st hQ h;cases d with
  |false=>exact vw hQ h
  |true=>exact⟨h.1,oL hQ h.2⟩
 |seq a b Eh Ff=>
  intro Q Q' st hQ h;refine Eh (fun x cg hx=>?_) h;cases x with
  |jL=>exact Ff hQ hx
  |exit id=>exact hQ _ _ hx
  |ret=>exact hQ _ _ hx
  |iS v=>exact hQ _ _ hx
 |cond o a b Eh Ff=>
  intro Q Q' st hQ h;obtain⟨x,hx,ht,hf⟩:=h;exact⟨x,hx,fun e=>Eh hQ (ht e),fun e=>Ff hQ (hf e)⟩
 |block id b ih=>
  intro Q Q' st hQ h;refine ih (fun x cg hx=>?_) h;cases x with
  |exit wE=>
   simp only[ki]at hx⊢;split
   ·rename_i e;rw[aW e]at hx;exact hQ _ _ hx
   ·rename_i e;rw[az e]at hx;exact hQ _ _ hx
  |jL=>exact hQ _ _ hx
  |ret=>exact hQ _ _ hx
  |iS v=>exact hQ _ _ hx
 |loop b ih=>
  intro Q Q' st hQ h;obtain⟨I,k,hk,hI⟩:=h;refine⟨I,k,hk,fun k st hi=>ih (fun x cg hx=>?_) (hI k st hi)⟩;cases x with
  |jL=>exact hx
  |exit id=>exact hQ _ _ hx
  |ret=>exact hQ _ _ hx
  |iS v=>exact hQ _ _ hx
 |exit id=>intro Q Q' st hQ h;exact hQ _ _ h
 |ret=>intro Q Q' st hQ h;exact hQ _ _ h
 |label l=>intro Q Q' st hQ h;exact hQ _ _ h
 |scope b ih=>intro Q Q' st hQ h;exact ih hQ h
 |_=>
  intro Q Q' st hQ h;obtain⟨n,x,cg,h1,h2⟩:=h;exact⟨n,x,cg,h1,hQ _ _ h2⟩
theorem aet{c:Code}{K:St->Prop}{Q:bt->St->Prop}{st:St}(R:St->Prop)(h1:bR E c (je R Q) st)(h2:∀cg,R cg->K cg):bR E c (je K Q) st:=
 mq (fun x cg hx=>by
  cases x with
  |jL=>exact h2 _ hx
  |exit id=>exact hx
  |ret=>exact hx
  |iS v=>exact hx) h1
theorem aff{c:Code}{Q:bt->St->Prop}{st:St}(R:bt->St->Prop)(h1:bR E c R st)(h2:∀x cg,R x cg->Q x cg):bR E c Q st:=mq h2 h1
section
variable{ops:Array Oper}{o:Oper}{rg:T AV}{n:Nat}{j:Nat}{want b:Bool}{d:Tmp}
theorem aeu(hd:oC n o.dst=true)(hg:o.guard=none):cf ops n rg o=some true:=by
 simp only[cf,hd,hg,lM]
theorem NG(hd:oC n o.dst=true)(hg:o.guard=some (j,want))(hj:(ops[j]?).bind (·.dst)=some d)(hr:rg.get d=some (.bool b)):cf ops n rg o=some (b==want):=by
 simp only[cf,hd,hg,hj,hr,lM]
theorem acH(hd:oC n o.dst=true)(hg:o.guard=some (j,want))(hj:(ops[j]?).bind (·.dst)=some d)(hr:rg.get d=some (.bool want)):cf ops n rg o=some true:=by
 rw[NG hd hg hj hr];simp
theorem acI(hd:oC n o.dst=true)(hg:o.guard=some (j,want))(hj:(ops[j]?).bind (·.dst)=some d)(hr:rg.get d=some (.bool (!want))):cf ops n rg o=some false:=by
 rw[NG hd hg hj hr];cases want<;>rfl
theorem aev(hd:oC n o.dst=true)(hg:o.guard=some (j,want))(hj:(ops[j]?).bind (·.dst)=some d)(hr:rg.get d=some (.iX [])):cf ops n rg o=some false:=by
 simp only[cf,hd,hg,hj,hr,lM]
end
theorem aew{a b:Bool}(h:b=true):(a||b)=true:=by rw[h,Bool.or_true]
theorem aex{h:ah}{rg:T AV}{o:Oper}{v:AV}{x:ah}(ho:eF E rg h o=some (.val v,x)):gD E h rg o v=true:=by
 simp only[gD];rw[ho];exact(AV.beq_iff _ _).2 rfl
theorem aa6{ops l:_}{Q:bt->St->Prop}{rg:T AV}{n:Nat}{h:ah}{ds:List fJ}{bI:Bool}(K:ah->Prop)(hK:K h)(hk:∀H,K H->wpOps E ops l Q ⟨rg,n,H,ds,bI⟩):wpOps E ops l Q ⟨rg,n,h,ds,bI⟩:=hk h hK
theorem Ye{c:Code}{Q:bt->St->Prop}{rg:T AV}{n:Nat}{h:ah}{ds:List fJ}{bI:Bool}(K:ah->Prop)(hK:K h)(hk:∀H,K H->bR E c Q ⟨rg,n,H,ds,bI⟩):bR E c Q ⟨rg,n,h,ds,bI⟩:=hk h hK
theorem aa7{f:FuncId}{args:List AV}{Q:Out->ah->Prop}{h:ah}(K:ah->Prop)(hK:K h)(hk:∀H,K H->aV E f args H Q):aV E f args h Q:=hk h hK
theorem acJ{b:Code}{Q:bt->St->Prop}{st:St}(h:bR E b (je (fun _=>False) Q) st):bR E (.loop b) Q st:=
 ⟨fun k x=>k=0/\x=st,0,⟨rfl,rfl⟩,fun k x hx=>by
  obtain⟨rfl,rfl⟩:=hx;refine mq (fun e cg he=>?_) h;cases e with
  |jL=>exact he.elim
  |exit id=>exact he
  |ret=>exact he
  |iS v=>exact he⟩
theorem aa9{ops:Array Oper}{o:Oper}{rest:List Oper}{Q:bt->St->Prop}{rg:T AV}{n:Nat}{h h':ah}{ds:List fJ}{bI:Bool}{v:AV}(hw:cf ops n rg o=some true)(ho:eF E rg h o=some (.panic v,h'))(hk:Q (.iS v) ⟨rg,n,h',ds,bI⟩):
 wpOps E ops (o::rest) Q ⟨rg,n,h,ds,bI⟩:=
 uP hw ⟨_,ho,hk⟩
theorem acK{ops:Array Oper}{eg:Nat->Nat}{base:Nat}{o:Oper}{i:Nat}{sP:List (Oper×Nat)}{Q:bt->St->Prop}{rg:T AV}{n:Nat}{h h':ah}{ds:List fJ}{bI:Bool}{sn:List jB}{rd:List Rd}{f:FuncId}{args:List AV}
 (hw:cf ops n rg o=some true) (hc:fK E o= .pK) (ho:eF E rg h o=some (.enter f args,h')) (h1:sn.all (fun s=>(eg i).testBit s.idx)=true) (hr:sP.all (fun x=>(eg x.2).testBit i)=true)
 (hk:aV E f args h' fun out h2=>∃v,out= .iS v/\∀da,Q (.iS v) ⟨da,n,h2,ds,bI⟩):dY E ops eg base ((o,i)::sP) Q ⟨rg,n,h,ds,bI⟩ sn rd:=by
 simp only[dY,hw,hc];rw[ho];refine⟨h1,hk.mono fun out h2 hq=>?_⟩;obtain⟨v,rfl,hq⟩:=hq;exact⟨hr,hq _⟩
end
section
variable{E:Env}
def vQ(E:Env)(ops:Array Oper)(rest:List Oper)(Q:bt->St->Prop)(d:Option Tmp)(rg:T AV)(n:Nat)(ds:List fJ)(bI:Bool):Out->ah->Prop
 | .ret v,h=>wpOps E ops rest Q ⟨eH rg d v,n,h,ds,bI⟩
 | .iS v,h=>Q (.iS v) ⟨rg,n,h,ds,bI⟩
def wpR(E:Env)(ops:Array Oper)(rest:List Oper)(Q:bt->St->Prop)(d:Option Tmp)(rg:T AV)(n:Nat)(h0:ah)(ds:List fJ)(bI:Bool):dZ×ah->Prop
 |(.val v,h)=>wpOps E ops rest Q ⟨eH rg d v,n,h,ds,bI⟩
 |(.skip,h)=>wpOps E ops rest Q ⟨eH rg d mc,n,h,ds,bI⟩
 |(.enter f args,h)=>aV E f args h (vQ E ops rest Q d rg n ds bI)
 |(.panic v,h)=>Q (.iS v) ⟨rg,n,h,ds,bI⟩
 |r=>Dh E d ⟨rg,n,h0,ds,bI⟩ (fun p cg=>match p with
  |none=>wpOps E ops rest Q cg
  |some v=>Q (.iS v) cg) r
section
variable{ops:Array Oper}{l rest:List Oper}{o:Oper}{Q:bt->St->Prop}{K:St->Prop}{rg:T AV}{n id wE:Nat}{h h0:ah}{ds:List fJ}{bI:Bool}{a b:Code}{c:Operand}{st:St}{d:Option Tmp}{v:AV}{f:FuncId}{args:List AV}{t:Tmp}
theorem afg:bR E (.seq a b) Q st=bR E a (je (bR E b Q) Q) st:=rfl
theorem LH:bR E (.block id b) Q st=bR E b (ki id Q) st:=rfl
theorem aaa:bR E (.scope b) Q st=bR E b Q st:=rfl
theorem Vw:bR E (.region id l.toArray false) Q st=wpOps E l.toArray l Q st:=rfl
theorem afh:bR E .ret Q st=Q .ret st:=rfl
theorem acL:bR E (.exit id) Q st=Q (.exit id) st:=rfl
theorem acM:bR E .skip Q st=Q .jL st:=rfl
theorem acN:bR E (.cond c a b) Q ⟨rg,n,h,ds,bI⟩=(match ic rg c with
 |some (.bool true)=>bR E a Q ⟨rg,n,h,ds,bI⟩
 |some (.bool false)=>bR E b Q ⟨rg,n,h,ds,bI⟩
 |_=>False):=by
 apply propext;constructor
 ·rintro⟨x,hx,ht,hf⟩
  have hx:ic rg c=some (.bool x):=hx;rw[hx];cases x with
  |true=>exact ht rfl
  |false=>exact hf rfl
 ·intro hm;split at hm
  ·rename_i hx;exact⟨true,hx,fun _=>hm,fun e=>by cases e⟩
  ·rename_i hx;exact⟨false,hx,(fun e=>by cases e),fun _=>hm⟩
  ·exact hm.elim
theorem afi:wpOps E ops [] Q st=Q .jL st:=rfl
theorem acO:wpOps E ops (o::rest) Q ⟨rg,n,h,ds,bI⟩=(match cf ops n rg o with
 |some true=>(match eF E rg h o with
  |some r=>wpR E ops rest Q o.dst rg n h ds bI r
  |none=>False)
 |some false=>wpOps E ops rest Q ⟨eH rg o.dst mc,n,h,ds,bI⟩
 |none=>False):=by
 simp only[wpOps];cases hw:cf ops n rg o with
 |none=>rfl
 |some b=>
  cases b with
  |false=>rfl
  |true=>
   dsimp only;cases ho:eF E rg h o with
   |none=>rfl
   |some r=>
    dsimp only;obtain⟨x,h2⟩:=r;apply propext;cases x with
    |enter f args=>exact⟨fun hk=>hk.mono fun out h3 hq=>by cases out<;>exact hq,fun hk=>hk.mono fun out h3 hq=>by cases out<;>exact hq⟩
    |_=>exact Iff.rfl
theorem acP:wpR E ops rest Q d rg n h0 ds bI (.val v,h)=wpOps E ops rest Q ⟨eH rg d v,n,h,ds,bI⟩:=rfl
theorem aac:wpR E ops rest Q d rg n h0 ds bI (.skip,h)=wpOps E ops rest Q ⟨eH rg d mc,n,h,ds,bI⟩:=rfl
theorem Vx:wpR E ops rest Q d rg n h0 ds bI (.enter f args,h)=aV E f args h (vQ E ops rest Q d rg n ds bI):=rfl
theorem Vy:wpR E ops rest Q d rg n h0 ds bI (.panic v,h)=Q (.iS v) ⟨rg,n,h,ds,bI⟩:=rfl
theorem acQ:vQ E ops rest Q d rg n ds bI (.ret v) h=wpOps E ops rest Q ⟨eH rg d v,n,h,ds,bI⟩:=rfl
theorem acR:vQ E ops rest Q d rg n ds bI (.iS v) h=Q (.iS v) ⟨rg,n,h,ds,bI⟩:=rfl
theorem acS:je K Q .jL st=K st:=rfl
theorem aad:je K Q .ret st=Q .ret st:=rfl
theorem aae:je K Q (.exit id) st=Q (.exit id) st:=rfl
theorem aaf:je K Q (.iS v) st=Q (.iS v) st:=rfl
theorem acT:ki id Q .jL st=Q .jL st:=rfl
theorem acU:ki id Q .ret st=Q .ret st:=rfl
theorem acV:ki id Q (.iS v) st=Q (.iS v) st:=rfl
theorem acW:ki id Q (.exit wE) st=if wE=id then Q .jL st else Q (.exit wE) st:=rfl
theorem acX:eH rg (some t) v=rg.set v t:=rfl
theorem acY:eH rg none v=rg:=rfl
theorem RM{fn:Func}{Q:Out->ah->Prop}:atEnd E fn Q .ret ⟨rg,n,h,ds,bI⟩=(ds=[]/\match fL E rg h fn.results.toList with
 |some vs=>Q (.ret (oneOf vs)) h
 |none=>False):=by
 apply propext;constructor
 ·rintro⟨h1,vs,h2,h3⟩
  have h2:fL E rg h fn.results.toList=some vs:=h2;rw[h2];exact⟨h1,h3⟩
 ·rintro⟨h1,h2⟩
  split at h2
  ·rename_i vs hv;exact⟨h1,vs,hv,h2⟩
  ·exact h2.elim
theorem acZ{fn:Func}{Q:Out->ah->Prop}:atEnd E fn Q (.iS v) ⟨rg,n,h,ds,bI⟩=(ds=[]/\Q (.iS v) h):=rfl
end
def DS(eg:Nat->Nat)(i:Nat)(sn:List jB):Prop:=sn.all (fun s=>(eg i).testBit s.idx)=true
def DE(E:Env)(eg:Nat->Nat)(i:Nat)(rd:List Rd)(h:ah):Prop:=rd.all (fun r=>(eg i).testBit r.idx||gD E h r.rg r.o r.v)=true
def DR(E:Env)(eg:Nat->Nat)(i:Nat)(o:Oper)(rg:T AV)(v:AV)(sn:List jB):Prop:=sn.all (fun s=>(eg i).testBit s.idx||gD E s.h rg o v)=true
theorem DS0(eg:Nat->Nat)(i:Nat):DS eg i []=True:=by simp[DS]
theorem DE0(E:Env)(eg:Nat->Nat)(i:Nat)(h:ah):DE E eg i [] h=True:=by simp[DE]
theorem DR0(E:Env)(eg:Nat->Nat)(i:Nat)(o:Oper)(rg:T AV)(v:AV):DR E eg i o rg v []=True:=by simp[DR]
def NH(E:Env)(eg:Nat->Nat)(i:Nat)(rest:List (Oper×Nat))(Q:bt->St->Prop)(K:T AV->ah->List jB->List Rd->Prop)(sn:List jB)(rd:List Rd)(d:Option Tmp)(rg:T AV)(n:Nat)(h0:ah)(ds:List fJ)(bI:Bool):Out->ah->Prop
 | .ret v,h=>DE E eg i rd h/\K (eH rg d v) h ({idx:=i,h:=h0}::sn) rd
 | .iS v,h=>rest.all (fun x=>(eg x.2).testBit i)=true/\∀da,Q (.iS v) ⟨da,n,h,ds,bI⟩
def Yf(E:Env)(eg:Nat->Nat)(base i:Nat)(rest:List (Oper×Nat))(Q:bt->St->Prop)(K:T AV->ah->List jB->List Rd->Prop)(sn:List jB)(rd:List Rd)(o:Oper)(rg:T AV)(n:Nat)(h:ah)(ds:List fJ)(bI:Bool):Cls->dZ×ah->Prop
 | .pure,(.val v,_)=>K (eH rg o.dst v) h sn rd
 | .read,(.val v,_)=>DR E eg i o rg v sn/\K (eH rg o.dst v) h sn ({idx:=i,o:=o,rg:=rg,v:=v}::rd)
 | .alloc,(.val v,h2)=>match h2.get h.next,h.get (base+i),wg (base+i) v with
  |some obj,none,some v'=>K (eH rg o.dst v') (h.set (base+i) obj) sn rd
  |_,_,_=>False
 | .pK,(.skip,h')=>DS eg i sn/\DE E eg i rd h'/\K (eH rg o.dst mc) h' ({idx:=i,h:=h}::sn) rd
 | .pK,(.val v,h')=>DS eg i sn/\DE E eg i rd h'/\K (eH rg o.dst v) h' ({idx:=i,h:=h}::sn) rd
 | .pK,(.enter f args,h')=>DS eg i sn/\aV E f args h' (NH E eg i rest Q K sn rd o.dst rg n h ds bI)
 |_,_=>False
def vR(E:Env)(ops:Array Oper)(eg:Nat->Nat)(base n:Nat)(ds:List fJ)(bI:Bool)(Q:bt->St->Prop):List (Oper×Nat)->T AV->ah->List jB->List Rd->Prop
 |[],rg,h,_,_=>Q .jL ⟨rg,n,h,ds,bI⟩
 |(o,i)::rest,rg,h,sn,rd=>match cf ops n rg o with
  |some true=>(match eF E rg h o with
   |some r=>Yf E eg base i rest Q (vR E ops eg base n ds bI Q rest) sn rd o rg n h ds bI (fK E o) r
   |none=>False)
  |some false=>vR E ops eg base n ds bI Q rest (eH rg o.dst mc) h sn rd
  |none=>False
theorem jT{ops:Array Oper}{eg:Nat->Nat}{base n:Nat}{ds:List fJ}{bI:Bool}{Q:bt->St->Prop}:∀{l:List (Oper×Nat)}{rg:T AV}{h:ah}{sn:List jB}{rd:List Rd},vR E ops eg base n ds bI Q l rg h sn rd->dY E ops eg base l Q ⟨rg,n,h,ds,bI⟩ sn rd
 |[],rg,h,sn,rd,hk=>hk
 |(o,i)::rest,rg,h,sn,rd,hk=>by
  simp only[vR]at hk;simp only[dY];cases hw:cf ops n rg o with
  |none=>rw[hw]at hk;exact hk
  |some b=>
   rw[hw]at hk;cases b with
   |false=>exact jT hk
   |true=>
    dsimp only at hk⊢;cases ho:eF E rg h o with
    |none=>rw[ho]at hk;exact hk.elim
    |some r=>
     rw[ho]at hk;obtain⟨x,h3⟩:=r;cases hc:fK E o with
     |pure=>
      rw[hc]at hk;cases x with
      |val v=>exact jT hk
      |_=>exact hk.elim
     |read=>
      rw[hc]at hk;cases x with
      |val v=>exact⟨hk.1,jT hk.2⟩
      |_=>exact hk.elim
     |alloc=>
      rw[hc]at hk;cases x with
      |val v=>
       have hk:(match h3.get h.next,h.get (base+i),wg (base+i) v with
        |some obj,none,some v'=>vR E ops eg base n ds bI Q rest (eH rg o.dst v') (h.set (base+i) obj) sn rd
        |_,_,_=>False):=hk
       dsimp only;split at hk
       ·rename_i g1 g2 g3
        try rw[g1,g2,g3]
        exact jT hk
       ·exact hk.elim
      |_=>exact hk.elim
     |pK=>
      rw[hc]at hk;cases x with
      |val v=>exact⟨hk.1,hk.2.1,jT hk.2.2⟩
      |skip=>exact⟨hk.1,hk.2.1,jT hk.2.2⟩
      |enter f args=>
       refine⟨hk.1,hk.2.mono fun out h4 hq=>?_⟩;cases out with
       |ret v=>exact⟨hq.1,jT hq.2⟩
       |iS v=>exact⟨hq.1,hq.2 _⟩
      |_=>exact hk.elim
theorem ad0{l:List Oper}{Q:bt->St->Prop}{rg:T AV}{n id:Nat}{h:ah}{ds:List fJ}{bI:Bool}(hp:qj E l.toArray=false)(hd:gL l.toArray=true)
 (hk:vR E l.toArray (gK l.toArray) h.next n ds bI Q l.zipIdx rg (h.bump l.length) [] []):bR E (.region id l.toArray true) Q ⟨rg,n,h,ds,bI⟩:=RL rfl hp hd (jT hk)
section
variable{ops:Array Oper}{rest:List (Oper×Nat)}{o:Oper}{Q:bt->St->Prop}{K:T AV->ah->List jB->List Rd->Prop}{rg:T AV}{n i base:Nat}{h h0 h2:ah}{ds:List fJ}{bI:Bool}{eg:Nat->Nat}{sn:List jB}{rd:List Rd}{v:AV}{f:FuncId}{args:List AV}{d:Option Tmp}
theorem afj:vR E ops eg base n ds bI Q [] rg h sn rd=Q .jL ⟨rg,n,h,ds,bI⟩:=rfl
theorem ad1:vR E ops eg base n ds bI Q ((o,i)::rest) rg h sn rd=(match cf ops n rg o with
 |some true=>(match eF E rg h o with
  |some r=>Yf E eg base i rest Q (vR E ops eg base n ds bI Q rest) sn rd o rg n h ds bI (fK E o) r
  |none=>False)
 |some false=>vR E ops eg base n ds bI Q rest (eH rg o.dst mc) h sn rd
 |none=>False):=rfl
theorem VDp:Yf E eg base i rest Q K sn rd o rg n h ds bI .pure (.val v,h2)=K (eH rg o.dst v) h sn rd:=rfl
theorem VDr:Yf E eg base i rest Q K sn rd o rg n h ds bI .read (.val v,h2)=(DR E eg i o rg v sn/\K (eH rg o.dst v) h sn ({idx:=i,o:=o,rg:=rg,v:=v}::rd)):=rfl
theorem VDa:Yf E eg base i rest Q K sn rd o rg n h ds bI .alloc (.val v,h2)=(match h2.get h.next,h.get (base+i),wg (base+i) v with
 |some obj,none,some v'=>K (eH rg o.dst v') (h.set (base+i) obj) sn rd
 |_,_,_=>False):=rfl
theorem VDs:Yf E eg base i rest Q K sn rd o rg n h ds bI .pK (.skip,h2)=(DS eg i sn/\DE E eg i rd h2/\K (eH rg o.dst mc) h2 ({idx:=i,h:=h}::sn) rd):=rfl
theorem VDv:Yf E eg base i rest Q K sn rd o rg n h ds bI .pK (.val v,h2)=(DS eg i sn/\DE E eg i rd h2/\K (eH rg o.dst v) h2 ({idx:=i,h:=h}::sn) rd):=rfl
theorem VDe:Yf E eg base i rest Q K sn rd o rg n h ds bI .pK (.enter f args,h2)=(DS eg i sn/\aV E f args h2 (NH E eg i rest Q K sn rd o.dst rg n h ds bI)):=rfl
theorem VKr:NH E eg i rest Q K sn rd d rg n h0 ds bI (.ret v) h=(DE E eg i rd h/\K (eH rg d v) h ({idx:=i,h:=h0}::sn) rd):=rfl
theorem VKp:NH E eg i rest Q K sn rd d rg n h0 ds bI (.iS v) h=(rest.all (fun x=>(eg x.2).testBit i)=true/\∀da,Q (.iS v) ⟨da,n,h,ds,bI⟩):=rfl
end
theorem OX(h:ah)(r:Nat):h.iG (some r)=(match h.get r with|some (.map es)=>some es|_=>none):=rfl
attribute [simp] afg LH aaa Vw afh acL acM acN afi acO acP aac Vx Vy acQ acR acS aad aae aaf acT acU acV acW acX acY RM acZ afj ad1 VDp VDr VDa VDs VDv VDe VKr VKp DS0 DE0 DR0 OX
attribute [simp] Vm Vn Vo Vp Vq Vs Vt Vu Vv aa5 unA ah.RG ah.kz eF dK dM cx fY cy ba dN cz bG cu dO bj cB bm cC bT bp bN aT cF bM cA dQ Eo ic oP nM UM iM yk T.aM T.get_nil AV.cells AV.scalar ah.dz ah.aM ah.loadCells ah.tP ah.storeCells AI jP zA cf oC fK wg fL Cr oneOf oI kh CJ E2 bL rJ vJ Bs
end
section
variable{E:Env}
theorem rh.mono{l:Nat}{args:List AV}{h:ah}{Q Q':AV->ah->Prop}(hw:rh E l args h Q)(hq:∀v h',Q v h'->Q' v h'):rh E l args h Q':=by
 obtain⟨n,v,h',h1,h2⟩:=hw;exact⟨n,v,h',h1,hq _ _ h2⟩
theorem Vz{ops:Array Oper}{rest:List Oper}{Q:bt->St->Prop}{rg:T AV}{n:Nat}{h h0:ah}{ds:List fJ}{bI:Bool}{d:Option Tmp}{l:Nat}{args:List AV}:
 wpR E ops rest Q d rg n h0 ds bI (.yield l args,h)=rh E l args h (fun v h'=>wpOps E ops rest Q ⟨eH rg d v,n,h',ds,bI⟩):=rfl
theorem aag{l:Nat}{Q:bt->St->Prop}{st:St}:bR E (.label l) Q st=Q .jL st:=rfl
theorem VA{ops:Array Oper}{rest:List Oper}{Q:bt->St->Prop}{rg:T AV}{n:Nat}{h h0:ah}{ds:List fJ}{bI:Bool}{d:Option Tmp}{f:FuncId}{args:List AV}:
 wpR E ops rest Q d rg n h0 ds bI (.defer f args,h)=(bI=false/\wpOps E ops rest Q ⟨eH rg d mc,n,h,.call f args::ds,bI⟩):=rfl
def uQ(Q:bt->St->Prop)(r l:Nat)(AD:T AV)(n0:Nat)(ds:List fJ):Out->ah->Prop
 | .ret _,h2=>match h2.get l with
  |some (.loop .busy _ _ _ _ _ _)=>False
  |some (.loop _ vb n rg ps aa b)=>match vb with
   |none=>Q .jL ⟨AD,n0,h2.set l (.loop .exhausted none n rg ps aa b),.mark r::ds,false⟩
   |some .ret=>Q .ret ⟨AD,n0,h2.set l (.loop .exhausted (some .ret) n rg ps aa b),.mark r::ds,false⟩
   |some (.exit id)=>Q (.exit id) ⟨AD,n0,h2.set l (.loop .exhausted (some (.exit id)) n rg ps aa b),.mark r::ds,false⟩
   |_=>False
  |_=>False
 | .iS _,_=>False
theorem RO{f:Operand}{ps:Array Tmp}{aa b:Code}{Q:bt->St->Prop}{rg:T AV}{n:Nat}{h:ah}{ds:List fJ}{g:FuncId}{ko:List AV}
 (hf:ic rg f=some (.func g ko)) (hb:u0 E g=true)
 (hw:aV E g (.CG (h.next+1)::ko) (((h.alloc .sI).2).alloc (.loop .ready none n rg ps aa b)).2 (uQ Q h.next (h.next+1) rg n ds)):
 bR E (.rangeFunc f ps aa b) Q ⟨rg,n,h,ds,false⟩:=by
 obtain⟨m,out,h2,h1,h3⟩:=hw;cases out with
 |iS v=>exact h3.elim
 |ret v=>
  simp only[uQ]at h3;have e:(h.alloc .sI).2.next=h.next+1:=rfl
  split at h3
  ·exact h3.elim
  ·rename_i st vb n' da Kp aa' b' ad2 hg;have key:∀x:bt,(match(vb:Option Code)with|none=>some bt.jL|some .ret=>some .ret|some (.exit id)=>some (.exit id)|_=>none)=some x->
    ∃m x' cg,dX E (jx E m).call (jx E m).round m (.rangeFunc f ps aa b) ⟨rg,n,h,ds,false⟩=some (x',cg)/\x'=x/\cg=⟨rg,n,h2.set (h.next+1) (.loop .exhausted vb n' da Kp aa' b'),.mark h.next::ds,false⟩:=by
    intro x hx;refine⟨m,x,_,?_,rfl,rfl⟩;simp only[dX,hf,hb,Bool.not_true,Bool.or_self,gR,iW,e];rw[h1];simp only;rw[hg];cases st with
    |busy=>exact(ad2 rfl).elim
    |_=>
     split at hx
     ·injection hx with hx;subst hx;rfl
     ·injection hx with hx;subst hx;rfl
     ·injection hx with hx;subst hx;rfl
     ·cases hx
   split at h3
   ·obtain⟨m,x',cg,a1,rfl,rfl⟩:=key .jL rfl;exact⟨m,_,_,a1,h3⟩
   ·obtain⟨m,x',cg,a1,rfl,rfl⟩:=key .ret rfl;exact⟨m,_,_,a1,h3⟩
   ·obtain⟨m,x',cg,a1,rfl,rfl⟩:=key (.exit _) rfl;exact⟨m,_,_,a1,h3⟩
   ·exact h3.elim
  ·exact h3.elim
def endRound(l:Nat)(Q:AV->ah->Prop)(e:bt)(st:St):Prop:=
 st.ds=[]/\match st.h.get l with
  |some (.loop _ _ n rg ps aa b)=>match e with
   | .jL=>Q (.bool true) (st.h.set l (.loop .ready none n rg ps aa b))
   | .ret=>Q (.bool false) (st.h.set l (.loop .done (some .ret) n rg ps aa b))
   | .exit id=>Q (.bool false) (st.h.set l (.loop .done (some (.exit id)) n rg ps aa b))
   | .iS _=>False
  |_=>False
theorem rh.mk{l:Nat}{args:List AV}{h:ah}{Q:AV->ah->Prop}{pd:Option Code}{n:Nat}{rg:T AV}{ps:Array Tmp}{aa b:Code}
 (hg:h.get l=some (.loop .ready pd n rg ps aa b)) (hp:(ps.size=args.length/\ps.all (fun p=>p<n)))
 (hw:bR E aa (fun x rL=>x= .jL/\match rL.h.get l with
  |some (.loop .ready pd' n' da Kp aa' b')=>bR E b (endRound l Q) ⟨rL.rg,rL.n,rL.h.set l (.loop .busy pd' n' da Kp aa' b'),rL.ds,rL.bI⟩
  |_=>False) ⟨(ps.toList.zip args).foldl (fun r x=>r.set x.2 x.1) rg,n,h,[],true⟩):rh E l args h Q:=by
 obtain⟨m,x,rL,h1,rfl,h2⟩:=kZ hw;split at h2
 ·rename_i pd' n' da Kp aa' b' hg1;obtain⟨m2,e,yn,h3,h4,h5⟩:=kZ h2;have a:=mo (iP m m2) h1;have c:=mo (im m m2) h3;split at h5
  ·rename_i g2 g3 g4 g5 g6 g7 g8 hg2;have key:∀v cg,(match e with
    | .jL=>some (AV.bool true,yn.h.set l (.loop .ready none g4 g5 g6 g7 g8))
    | .ret=>some (.bool false,yn.h.set l (.loop .done (some .ret) g4 g5 g6 g7 g8))
    | .exit id=>some (.bool false,yn.h.set l (.loop .done (some (.exit id)) g4 g5 g6 g7 g8))
    | .iS _=>none)=some (v,cg)->Q v cg->rh E l args h Q:=by
    intro v cg he hq;refine⟨max m m2+1,v,cg,?_,hq⟩;simp only[jx,vc,hg];rw[aW hp];simp only[lX]at a c;rw[a];simp only;rw[hg1];simp only;rw[c];simp only;rw[h4,hg2];exact he
   cases e with
   |jL=>exact key _ _ rfl h5
   |ret=>exact key _ _ rfl h5
   |exit id=>exact key _ _ rfl h5
   |iS v=>exact h5.elim
  ·exact h5.elim
 ·exact h2.elim
def lz(E:Env)(k:FuncId)(args:List AV)(h:ah)(p:Option AV)(Q:Option AV->ah->Prop):Prop:=
 ∃n v h' p',mg E (jx E n).call (jx E n).round n k args h p=some (.ret v,h',p')/\Q p' h'
def jU(E:Env)(fn:Func)(rg:T AV)(Q:Out->ah->Prop):List fJ->Option AV->ah->Prop
 |[],none,h=>match fL E rg h fn.results.toList with
  |some vs=>Q (.ret (oneOf vs)) h
  |none=>False
 |[],some v,h=>Q (.iS v) h
 | .mark r::ds,p,h=>match h.get r with
  |some .sI=>jU E fn rg Q ds p (h.set r .dead)
  |_=>False
 | .call f args::ds,p,h=>lz E f args h p (jU E fn rg Q ds)
theorem ug{fn:Func}{rg:T AV}{Q:Out->ah->Prop}:∀{ds:List fJ}{p:Option AV}{h:ah},jU E fn rg Q ds p h->∃n out h',jo E (mg E (jx E n).call (jx E n).round n) fn rg ds p h=some (out,h')/\Q out h'
 |[],none,h,hw=>by
  simp only[jU]at hw;split at hw
  ·rename_i vs hv;exact⟨0,_,_,by simp only[jo,hv],hw⟩
  ·exact hw.elim
 |[],some v,h,hw=>⟨0,_,_,rfl,hw⟩
 | .mark r::ds,p,h,hw=>by
  simp only[jU]at hw;split at hw
  ·rename_i hg;obtain⟨n,out,h',h1,h2⟩:=ug hw;exact⟨n,out,h',by simp only[jo,hg];exact h1,h2⟩
  ·exact hw.elim
 | .call f args::ds,p,h,hw=>by
  obtain⟨n,v,h1,p1,hd,hw⟩:=hw;obtain⟨m,out,h',h2,hq⟩:=ug hw;refine⟨max n m,out,h',?_,hq⟩;have l:=iP n m;have r:=im n m;have a:=oK (fP (E:=E) l).1 (fP (E:=E) l).2 l _ _ _ _ _ hd;have b:=mj (oK (fP (E:=E) r).1 (fP (E:=E) r).2 r) h2;simp only[jo,a];exact b
def zV(E:Env)(fn:Func)(Q:Out->ah->Prop)(x:bt)(st:St):Prop:=
 match x with
 | .jL| .ret=>jU E fn st.rg Q st.ds none st.h
 | .iS v=>jU E fn st.rg Q st.ds (some v) st.h
 |_=>False
theorem aV.ad3{k:FuncId}{fn:Func}{c:Code}{args:List AV}{h:ah}{Q:Out->ah->Prop}(hp:E.fw k=none)(hf:E.fn k=some fn)(hb:fn.body=some c)(hl:args.length<=fn.ntmps)
 (hw:bR E c (zV E fn Q) {rg:=oI args 0 .nil,n:=fn.ntmps,h:=h,ds:=[],bI:=false}):aV E k args h Q:=by
 obtain⟨n,x,st,h1,h2⟩:=kZ hw;have key:∀p,(x= .jL/\p=none\/x= .ret/\p=none\/∃v,x= .iS v/\p=some v)->jU E fn st.rg Q st.ds p st.h->aV E k args h Q:=by
  intro p hx hq;obtain⟨m,out,h',h3,h4⟩:=ug hq;refine⟨max n m+1,out,h',?_,h4⟩;have l:=iP n m;have r:=im n m;have a:=mo l h1;have b:=mj (oK (fP (E:=E) r).1 (fP (E:=E) r).2 r) h3;simp only[jx,wS,wT,Env.told,hp,hf,hb];rw[aW hl];simp only[lX]at a;rw[a];rcases hx with⟨rfl,rfl⟩|⟨rfl,rfl⟩|⟨v,rfl,rfl⟩<;>exact b
 cases x with
 |jL=>exact key none (.inl ⟨rfl,rfl⟩) h2
 |ret=>exact key none (.inr (.inl ⟨rfl,rfl⟩)) h2
 |iS v=>exact key (some v) (.inr (.inr ⟨v,rfl,rfl⟩)) h2
 |exit id=>exact h2.elim
def WS(E:Env)(c:Code)(st:St)(p:Option AV)(Q:bt->St->Option AV->Prop):Prop:=
 ∃n x cg p',ky E (jx E n).call (jx E n).round n c st p=some (x,cg,p')/\Q x cg p'
theorem WS.seq{a b:Code}{st:St}{p:Option AV}{Q:bt->St->Option AV->Prop}(h:WS E a st p fun x cg p'=>match x with
 | .jL=>WS E b cg p' Q
 |x=>Q x cg p'):WS E (.seq a b) st p Q:=by
 obtain⟨n,x,rL,p1,h1,h2⟩:=h;cases x with
 |jL=>
  obtain⟨m,x,yn,p2,h3,h4⟩:=h2;refine⟨max n m,x,yn,p2,?_,h4⟩;have l:=iP n m;have r:=im n m;have a':=vu (fP (E:=E) l).1 (fP (E:=E) l).2 l h1;have b':=vu (fP (E:=E) r).1 (fP (E:=E) r).2 r h3;simp only[ky,a'];exact b'
 |_=>exact⟨n,_,_,_,by simp only[ky,h1],h2⟩
theorem WS.aah{id:Nat}{ops:Array Oper}{st:St}{p:Option AV}{Q:bt->St->Option AV->Prop}(hi:ops.any isRec=true)(h:match Cb E ops ops.toList st p with
 |some (x,cg,p')=>Q x cg p'
 |none=>False):WS E (.region id ops false) st p Q:=by
 split at h
 ·rename_i x cg p' ho;exact⟨0,x,cg,p',by simp only[ky];rw[aW hi];exact ho,h⟩
 ·exact h.elim
theorem WS.region{id:Nat}{ops:Array Oper}{st:St}{p:Option AV}{Q:bt->St->Option AV->Prop}(hi:ops.any isRec=false)(h:bR E (.region id ops false) (fun x cg=>Q x cg p) st):WS E (.region id ops false) st p Q:=by
 obtain⟨n,x,cg,h1,h2⟩:=kZ h;refine⟨n,x,cg,p,?_,h2⟩;simp only[ky];rw[az (by rw[hi];simp)];simp only[lX]at h1;rw[h1]
theorem WS.cond{c:Operand}{a b:Code}{st:St}{p:Option AV}{Q:bt->St->Option AV->Prop}(h:match ic st.rg c with
 |some (.bool true)=>WS E a st p Q
 |some (.bool false)=>WS E b st p Q
 |_=>False):WS E (.cond c a b) st p Q:=by
 split at h
 ·rename_i hx;obtain⟨n,x,cg,p',h1,h2⟩:=h;exact⟨n,x,cg,p',by simp only[ky,hx];exact h1,h2⟩
 ·rename_i hx;obtain⟨n,x,cg,p',h1,h2⟩:=h;exact⟨n,x,cg,p',by simp only[ky,hx];exact h1,h2⟩
 ·exact h.elim
def aai:Code->Bool
 | .seq _ _| .region _ _ _| .cond _ _ _=>false
 |_=>true
theorem WS.plain{c:Code}{st:St}{p:Option AV}{Q:bt->St->Option AV->Prop}(hc:aai c=true)(h:bR E c (fun x cg=>Q x cg p) st):WS E c st p Q:=by
 obtain⟨n,x,cg,h1,h2⟩:=kZ h;refine⟨n,x,cg,p,?_,h2⟩;simp only[lX]at h1;cases c with
 |seq=>cases hc
 |region=>cases hc
 |cond=>cases hc
 |_=>simp only[ky];rw[h1]
theorem WS.draw{id:Nat}{ops:Array Oper}{st:St}{p:Option AV}{Q:bt->St->Option AV->Prop}(h:bR E (.region id ops true) (fun x cg=>Q x cg p) st):WS E (.region id ops true) st p Q:=by
 obtain⟨n,x,cg,h1,h2⟩:=kZ h;refine⟨n,x,cg,p,?_,h2⟩;simp only[lX]at h1;simp only[ky];rw[h1]
theorem lz.mk{k:FuncId}{fn:Func}{c:Code}{args:List AV}{h:ah}{p:Option AV}{Q:Option AV->ah->Prop}(hf:E.fn k=some fn)(hb:fn.body=some c)(hl:args.length<=fn.ntmps)
 (hw:WS E c {rg:=oI args 0 .nil,n:=fn.ntmps,h:=h,ds:=[],bI:=false} p (fun x st p'=>match x with
  | .jL| .ret=>st.ds=[]/\(fL E st.rg st.h fn.results.toList).isSome=true/\Q p' st.h
  |_=>False)):lz E k args h p Q:=by
 obtain⟨n,x,st,p',h1,h2⟩:=hw;cases x with
 |jL=>
  obtain⟨a,b,c'⟩:=h2;obtain⟨vs,hv⟩:=Option.isSome_iff_exists.1 b;refine⟨n,oneOf vs,st.h,p',?_,c'⟩;simp only[mg,hf,hb];rw[aW hl,h1];simp only;rw[a,hv]
 |ret=>
  obtain⟨a,b,c'⟩:=h2;obtain⟨vs,hv⟩:=Option.isSome_iff_exists.1 b;refine⟨n,oneOf vs,st.h,p',?_,c'⟩;simp only[mg,hf,hb];rw[aW hl,h1];simp only;rw[a,hv]
 |_=>exact h2.elim
section
variable{fn:Func}{Q:Out->ah->Prop}{rg:T AV}{n:Nat}{h:ah}{ds:List fJ}{bI:Bool}{v:AV}{r:Nat}{p:Option AV}{f:FuncId}{args:List AV}
theorem afk:zV E fn Q .ret ⟨rg,n,h,ds,bI⟩=jU E fn rg Q ds none h:=rfl
theorem afl:zV E fn Q .jL ⟨rg,n,h,ds,bI⟩=jU E fn rg Q ds none h:=rfl
theorem afm:zV E fn Q (.iS v) ⟨rg,n,h,ds,bI⟩=jU E fn rg Q ds (some v) h:=rfl
theorem LvN:jU E fn rg Q [] none h=(match fL E rg h fn.results.toList with
 |some vs=>Q (.ret (oneOf vs)) h
 |none=>False):=rfl
theorem LvP:jU E fn rg Q [] (some v) h=Q (.iS v) h:=rfl
theorem LvM:jU E fn rg Q (.mark r::ds) p h=(match h.get r with
 |some .sI=>jU E fn rg Q ds p (h.set r .dead)
 |_=>False):=rfl
theorem LvC:jU E fn rg Q (.call f args::ds) p h=lz E f args h p (jU E fn rg Q ds):=rfl
theorem ad4{fn:Func}{Q:Out->ah->Prop}:atEnd E fn Q .jL ⟨rg,n,h,ds,bI⟩=(ds=[]/\match fL E rg h fn.results.toList with
 |some vs=>Q (.ret (oneOf vs)) h
 |none=>False):=RM
end
theorem agS{eg:Nat->Nat}{i:Nat}{sn:List jB}{L:List Nat}(hL:sn.map (·.idx)=L)(h:(L.all fun j=>(eg i).testBit j)=true):DS eg i sn:=by
 subst hL;unfold DS;rw[List.all_map]at h;exact h
theorem agT{eg:Nat->Nat}{i:Nat}{rd:List Rd}{h:ah}{L:List Nat}(hL:rd.map (·.idx)=L)(hk:(L.all fun j=>(eg i).testBit j)=true):DE E eg i rd h:=by
 subst hL;unfold DE;rw[List.all_map]at hk;rw[dw]at hk⊢;intro x hx;rw[oS];exact .inl (hk x hx)
theorem agU{eg:Nat->Nat}{i:Nat}{o:Oper}{rg:T AV}{v:AV}{sn:List jB}{L:List Nat}(hL:sn.map (·.idx)=L)(hk:(L.all fun j=>(eg i).testBit j)=true):DR E eg i o rg v sn:=by
 subst hL;unfold DR;rw[List.all_map]at hk;rw[dw]at hk⊢;intro x hx;rw[oS];exact .inl (hk x hx)
theorem NI{eg:Nat->Nat}{i:Nat}{r:Rd}{rd:List Rd}{h:ah}:DE E eg i (r::rd) h=(((eg i).testBit r.idx=true\/gD E h r.rg r.o r.v=true)/\DE E eg i rd h):=by
 unfold DE;rw[List.all_cons,eM,oS]
theorem NJ{eg:Nat->Nat}{i:Nat}{o:Oper}{rg:T AV}{v:AV}{s:jB}{sn:List jB}:DR E eg i o rg v (s::sn)=(((eg i).testBit s.idx=true\/gD E s.h rg o v=true)/\DR E eg i o rg v sn):=by
 unfold DR;rw[List.all_cons,eM,oS]
theorem Jo{h h2:ah}{rg:T AV}{o:Oper}{v:AV}(e:eF E rg h o=some (.val v,h2)):gD E h rg o v=true:=by
 simp only[gD,e,AV.beq_iff]
theorem zW{h:ah}{rg:T AV}{o:Oper}{v:AV}(e:match eF E rg h o with
 |some (.val v',_)=>v'=v
 |_=>False):gD E h rg o v=true:=by
 split at e
 ·rename_i hk;subst e;exact Jo hk
 ·exact e.elim
theorem DSc{eg:Nat->Nat}{i j:Nat}{h:ah}{sn:List jB}(hb:(eg i).testBit j=true)(hk:DS eg i sn):DS eg i (⟨j,h⟩::sn):=by
 unfold DS at*;rw[List.all_cons,eM];exact⟨hb,hk⟩
theorem RQ{eg:Nat->Nat}{i j:Nat}{o:Oper}{rg:T AV}{v:AV}{rd:List Rd}{h:ah}(hb:(eg i).testBit j=true)(hk:DE E eg i rd h):DE E eg i (⟨j,o,rg,v⟩::rd) h:=by
 rw[NI];exact⟨.inl hb,hk⟩
theorem OY{eg:Nat->Nat}{i j:Nat}{o:Oper}{rg:T AV}{v:AV}{rd:List Rd}{h:ah}(e:match eF E rg h o with
 |some (.val v',_)=>v'=v
 |_=>False) (hk:DE E eg i rd h):DE E eg i (⟨j,o,rg,v⟩::rd) h:=by
 rw[NI];exact⟨.inr (zW e),hk⟩
theorem DRc{eg:Nat->Nat}{i j:Nat}{o:Oper}{rg:T AV}{v:AV}{h:ah}{sn:List jB}(hb:(eg i).testBit j=true)(hk:DR E eg i o rg v sn):DR E eg i o rg v (⟨j,h⟩::sn):=by
 rw[NJ];exact⟨.inl hb,hk⟩
theorem Yg{eg:Nat->Nat}{i j:Nat}{o:Oper}{rg:T AV}{v:AV}{h:ah}{sn:List jB}(e:match eF E rg h o with
 |some (.val v',_)=>v'=v
 |_=>False) (hk:DR E eg i o rg v sn):DR E eg i o rg v (⟨j,h⟩::sn):=by
 rw[NJ];exact⟨.inr (zW e),hk⟩
theorem OZ(eg:Nat->Nat)(i:Nat):DS eg i []:=by rw[DS0];trivial
theorem Ds(eg:Nat->Nat)(i:Nat)(h:ah):DE E eg i [] h:=by rw[DE0];trivial
theorem O0(eg:Nat->Nat)(i:Nat)(o:Oper)(rg:T AV)(v:AV):DR E eg i o rg v []:=by rw[DR0];trivial
attribute [simp] aag Vz VA afk afl afm LvN LvP LvM LvC ad4 cD bH
end
end Go.Am
