/- Lemmas for CheckPlaces; each states its own conditions. -/
import Derived.Test.YtgebeldoibkkpaaGreatDoorJ
set_option maxRecDepth 100000
set_option maxHeartbeats 0
set_option linter.unusedVariables false
set_option linter.unusedSimpArgs false
set_option linter.unusedSectionVars false
namespace Go.Proofs.YtgebeldoibkkpaaGreatDoor
open Go.Am Tryz
section
attribute [local simp] aI
theorem Xh{b:Nat}{w:Wo}{rs dh:List Wo}{t:Sm}(h:G .yi b (w::rs) dh (.s t))(hk:ja w [123]):G .AF b (w::rs) dh (.s t):=by
 have hs:du (w::rs) [123]=true:=by rw[hk.du];decide
 have ne:∀x:List UInt8,ja w x->x=[123]:=fun x hx=>hx.t.symm.trans hk.t;cases h with
 |L8 hs hb=>exact hb.mono (cR _)
 |L9 hc=>have:=ne _ hc;simp at this
 |YB hi=>have:=ne _ hi;simp at this
 |JK hi=>have:=ne _ hi;simp at this
 |xq hi=>have:=ne _ hi;simp at this
 |Ma hi=>have:=ne _ hi;simp at this
 |DV hi=>have:=ne _ hi;simp at this
 |DW hi=>have:=ne _ hi;simp at this
 |DX hi=>have:=ne _ hi;simp at this
 |Mb hi=>have:=ne _ hi;simp at this
 |Mc Cj=>simp[JW,anyS,hs]at Cj
 |JL Cj=>simp[JW,anyS,hs]at Cj
def Tw(I I':RI):Prop:=I'.r=I.r/\I'.g=I.g/\I'.b=I.b/\I'.W=I.W
structure LL(I:RI)(h2:ah)(tI:Nat)(oc:List AV)(fv:AV)(m:Nat)(cs:List AV)(H:ah):Prop where
 get:H.get tI=some (.C oc)
 lo:h2.next<=tI
 lt:tI<H.next
 kx:aQ I.X h2 H
 rl:I.r<h2.next
 gl:I.g<h2.next
 bl:I.b<h2.next
 arr:dW [tI,I.r,I.g,I.b] H fv 3 m cs
 len:cs.length=m*3
 z:∀z,z∈aK fv->h2.next<=z
section
variable{I:RI}{s:RS}{h2 H H':ah}{tI m:Nat}{oc cs:List AV}{fv:AV}
theorem LL.nr(l:LL I h2 tI oc fv m cs H):tI≠I.r/\tI≠I.g/\tI≠I.b:=by have:=l.lo;have:=l.rl;have:=l.gl;have:=l.bl;omega
theorem LL.call(l:LL I h2 tI oc fv m cs H)(fr:cM H)(kx:aQ I.X H H'):LL I h2 tI oc fv m cs H':=
 ⟨(
  kx.old tI l.lt (by simp[RI.X,l.nr.1,l.nr.2.1])).trans l.get,l.lo,aw l.lt kx.next,l.kx.trans kx,l.rl,l.gl,l.bl,l.arr.kx fr kx (fun y hy=>by
  simp only[RI.X,aq,bd,cT]at hy⊢;rcases hy with h|h
  ·exact .inr (.inl h)
  ·exact .inr (.inr (.inl h))),l.len,l.z⟩
theorem LL.aJ(l:LL I h2 tI oc fv m cs H)(fr:cM H)(k:aS H H'):LL I h2 tI oc fv m cs H':=l.call fr (k.x _)
theorem LL.put(l:LL I h2 tI oc fv m cs H)(p:RP I s H)(oc':List AV):∃H',H.set tI (.C oc')=H'/\LL I h2 tI oc' fv m cs H'/\RP I s H':=by
 have nr:=l.nr;exact⟨_,rfl,⟨by rw[ah.aM,aW rfl],l.lo,l.lt,aQ.set _ l.kx (.inr l.lo) l.lt,l.rl,l.gl,l.bl,l.arr.move (Move.on _ sp),l.len,l.z⟩,p.put _ nr.1 nr.2.1 nr.2.2 l.lt⟩
theorem LL.set(l:LL I h2 tI oc fv m cs H){i:Nat}(o:ej)(hi:h2.next<=i)(h1:i≠tI)(hz:i∉aK fv)(hl:i<H.next):LL I h2 tI oc fv m cs (H.set i o):=
 ⟨by rw[ah.aM,az (iw h1)];exact l.get,l.lo,l.lt,aQ.set _ l.kx (.inr hi) hl,l.rl,l.gl,l.bl,l.arr.re (fun z ob Gs ho=>⟨by rw[ah.aM,az (fun e:z=i=>hz (e▸Gs))];exact ho,(l.arr.ni Gs).1⟩),l.len,l.z⟩
theorem LL.push(l:LL I h2 tI oc fv m cs H)(p:RP I s H)(hm:m<=300)(eC:List AV)(Em:eC.length=3)(xL:eC.all AV.scalar=true):
 ∃H7,aO env (H.alloc (.cells true 3 eC)).2 50 fv (.S H.next 1)=some (.S (H.next+1) (m+1),H7)/\H7.get tI=some (.C oc)/\H7.next=H.next+2/\
  ∀oc',LL I h2 tI oc' (.S (H.next+1) (m+1)) (m+1) (cs++eC) (H7.set tI (.C oc'))/\RP I s (H7.set tI (.C oc')):=by
 have K:=(aS.refl H).alloc (.cells true 3 eC);have l2:=l.aJ p.fr K;have p2:=p.aJ K;have lt:=l.lt;have lo:=l.lo;have nr:=l.nr;obtain⟨H7,ha,nx,g7,k7⟩:=nR (es:=2) (st:=50) (e:=130) rfl ty130.1 ty130.2.1 dc ty130.2.2.2 rfl l2.arr l.len hm H.next eC Em xL sp p2.fr;have Ca:(H.alloc (.cells true 3 eC)).2.next=H.next+1:=rfl
 rw[Ca]at ha nx g7;have ni:∀z,z∈aK fv->z≠tI/\z≠I.r/\z≠I.g/\z≠I.b:=fun z hz=>by
  have:=(l.arr.ni hz).1;simp only[aq,bd,cT,fO]at this;exact this
 have p7:=p2.off k7 (fun hz=>(ni _ hz).2.1 rfl) (fun hz=>(ni _ hz).2.2.1 rfl) (fun hz=>(ni _ hz).2.2.2 rfl);have gI:H7.get tI=some (.C oc):=by rw[k7.old tI (by rw[Ca];omega) (fun hz=>(ni _ hz).1 rfl)];exact l2.get
 have BW:aQ I.X h2 H7:=l2.kx.trans' k7 (fun z hz cX=>by have:=l.z z hz;omega);refine⟨H7,ha,gI,om,fun oc'=>⟨⟨by rw[ah.aM,aW rfl],l.lo,by simp only[ah.set];omega,aQ.set _ BW (.inr l.lo) om,l.rl,l.gl,l.bl,.inr ⟨H.next+1,rfl,?_,by rw[ah.aM,az om];exact g7⟩,by simp[l.len,Em];omega,?_⟩,p7.put _ nr.1 nr.2.1 nr.2.2 om⟩⟩
 ·have:=l.rl;have:=l.gl;have:=l.bl;simp;omega
 ·intro z hz;simp only[aK,aR]at hz;omega
end
theorem Fz{E:Env}{P:T AV->ah->Prop}{n:Nat}{f:FuncId}{args:List AV}{G:Prop}(ops:Array Oper)(rest:List Oper)(QQ:bt->St->Prop)(d:Option Tmp)(hm:(∀da h',P da h'->aV E f args h' (vQ E ops rest QQ d da n [] false))->G)(ht:∀da h',P da h'->aV E f args h' (vQ E ops rest QQ d da n [] false)):G:=hm ht
def Y1(ws dh:List Wo)(l:List Pm):Prop:=(∃c,ws=c::dh/\ja c [41]/\l=[])\/∃c eK,ws=c::eK/\ja c [44]/\xu eK dh l
structure ae3(I:RI)(s5:RS)(Xi:List Wo)(ps:List Pm):Prop where
 nil:ps=[]->I.W.drop s5.k=Xi
 cons:ps≠[]->du Xi [41]=false/\∀dh l,Y1 (I.W.drop s5.k) dh l->xu Xi dh (ps++l)
theorem ae4{I:RI}{s:RS}{h:ah}{Q:Out->ah->Prop}(p:RP I s h)(hQ:∀b s' h',RP I s' h'->kc s s'->s'.dp=s.dp->(s'.bad=false->SQ (I.W.drop s.k) (I.W.drop s'.k) b)->aQ I.X h h'->Q (.ret (.bool b)) h'):
 aV env 40 [.P I.r,.str [112,117,98,108,105,99]] h Q:=by
 refine iL p (fun hs h2 p2 k2=>?_) fun hs h2 p2 k2=>?_
 ·obtain⟨hb,w,rs,hw,hk,hd⟩:=fV hs;exact hQ true _ _ p2 (kc.of (cR _) rfl (ao _) id) rfl (fun _=>by simp only[hd];rw[hw];exact .yes hk) k2
 ·exact hQ false _ _ p2 (kc.refl _) rfl (fun hb=> .no (iK hs hb)) (k2.x _)
theorem GA.mono{I:RI}{lo n n' fn:Nat}{h:ah}(g:GA I lo n fn h)(hn:n<=n'):GA I lo n' fn h:=by
 obtain⟨⟨m1,c1,b1,r1,u1⟩,⟨m2,c2,b2,r2,u2⟩,⟨c3,b3,r3,u3⟩,⟨m4,c4,b4,r4,u4⟩,l1,l2,l3⟩:=g;exact⟨⟨m1,c1,b1,r1,om⟩,⟨m2,c2,b2,r2,om⟩,⟨c3,b3,r3,om⟩,⟨m4,c4,b4,r4,om⟩,l1,l2,l3⟩
theorem abo{I:RI}{s:RS}{lo n fn:Nat}{h:ah}{Q:Out->ah->Prop}(p:RP I s h)(ga:GA I lo n fn h)(hn:n<=290)(Xg:lo<=h.next)(hd:s.dep=0)(yG:s.bad=false)
 (hQ:∀I' s' Bz h',RP I' s' h'->GA I' lo (n+2) Bz h'->Tw I I'->(∀i,i<lo->h'.get i=h.get i)->h.next<=h'.next->s.k<=s'.k->(s'.bad=false->s.k+2<=s'.k/\s'.dep=0/\s.dp<=s'.dp/\∃it,Bz=fn+it.fc/\∀b,s'.dp<=b->Item b (I.W.drop s.k) (I.W.drop s'.k) it)->Q (.ret (.iX [])) h'):
 aV env 26 [.P I.r] h Q:=by
 refine wb fn26 rfl ?_;have wl:=p.Bj.len;have rl:=p.rl;have gl:=p.gl;have bl:=p.bl;simp[f26];refine FV p fun t s1 h1 p1 a1 d1 l1 f1 k1=>?_;have g1:=ga.call p.fr k1;have ahA:=bk Xg k1.next;have abp:∀i,i<lo->h1.get i=h.get i:=fun i hi=>k1.old i om (by simp[RI.X];have:=ga.lor;have:=ga.log;omega);have nx1:=k1.next;apply Fz (E:=env) (n:=243) (f:=41) (args:=[.P I.r]) (P:=fun da h'=>da.get 0=some (.P I.r)/\da.get 2=some (.str t)/\RP I s1 h'/\aS h1 h')
 case hm=>
  intro Qo;obtain⟨Lt,hLt⟩:∃x,x=t.length-1:=⟨_,rfl⟩
  by_cases hA:7<t.length
  ·have hAI:(7:Int)<(t.length:Int):=om;have hA7:7<=t.length:=om;have Xj:(7:Int)<=(t.length:Int):=om;have wL:IntKind.wrap .i64 ((t.length:Int)-1)=(Lt:Int):=(by rw[wr om om];omega);have hlL:Lt<t.length:=om;obtain⟨x,hx⟩:∃x,t[Lt]?=some x:=⟨_,aj hlL⟩
   have uG:t[Lt]=x:=(by rw[aj hlL]at hx;injection hx);cases hB:(t.take 7==[115,116,114,117,99,116,32])with
   |true=>
    cases hC:((x.toNat:Int) !=42)with
    |true=>
     simp[hA,hAI,hA7,Xj,hB,wL,hlL,hx,uG,hC];refine iL p1 (fun hs h2 p2 k2=>?_) fun hs h2 p2 k2=>?_
     ·obtain⟨E9,o,rs1,hw1,Ge,HY⟩:=fV hs;have uc:=fT hw1;have hT:=f1 E9;have XJ:t.getLast?≠some 42:=by
       rw[List.getLast?_eq_getElem?,<-hLt,hx];intro e;injection e with e;rw[e]at hC;simp at hC
      obtain⟨w,nw,e1,e2,e3,e4⟩:=hT.st hA (by simpa using hB) XJ;simp[hA7,Xj];have hK0:aS h2 ((h2.alloc (.C [.str [],.Z])).2.set h2.next (.C [.str (t.drop 7),.Z])):=kT;have p3:=p2.aJ hK0;have ga3:=(g1.call p1.fr k2).call p2.fr (hK0.x _);have l3:LL I h2 h2.next [.str (t.drop 7),.Z] (.Z) 0 [] ((h2.alloc (.C [.str [],.Z])).2.set h2.next (.C [.str (t.drop 7),.Z])):=
       ⟨sp,ao _,sp,hK0.x _,p2.rl,p2.gl,p2.bl,.inl ⟨rfl,rfl,rfl⟩,rfl,by simp[aK]⟩
      generalize ((h2.alloc (.C [.str [],.Z])).2.set h2.next (.C [.str (t.drop 7),.Z]))=h3 at*;obtain⟨tI,hTI⟩:∃x,x=h2.next:=⟨_,rfl⟩
      rw[<-hTI]at l3;clear hK0;obtain⟨J,hJ⟩:∃J:Nat->St->Prop,J=(fun m x=>∃s5 fv mm cs fs,m=s5.ms I.W.length/\x.n=243/\x.ds=[]/\x.bI=false/\RP I s5 x.h/\LL I h2 tI [.str (t.drop 7),fv] fv mm cs x.h/\kc ⟨s1.k+1,s1.bad,s1.dep,s1.dp⟩ s5/\(s5.bad=false->mm<=s5.k/\∀dh l,Fields (I.W.drop s5.k) dh l->Fields rs1 dh (fs++l))/\
       x.rg.get 0=some (.P I.r)/\x.rg.get 3=some (.P tI)):=⟨_,rfl⟩
      refine bW J (RS.ms ⟨s1.k+1,s1.bad,s1.dep,s1.dp⟩ I.W.length) ?_ ?_
      ·rw[hJ];exact⟨⟨s1.k+1,s1.bad,s1.dep,s1.dp⟩,.Z,0,[],[],rfl,rfl,rfl,rfl,p3,l3,kc.refl _,fun _=>⟨bX _,fun dh l hF=>by simp only[HY]at hF;exact hF⟩,sp,by simp[hTI]⟩
      intro m st rC;have fI:=rC;rw[hJ]at fI;obtain⟨rg,n',H,ds,bI⟩:=st;obtain⟨s5,fv,mm,cs,fs,rfl,x1,x2,x3,p5,l5,a5,F5,r0,r3⟩:=fI;dsimp only at x1 x2 x3 p5 l5 r0 r3;subst x1 x2 x3;have o5:=p5.obj;have kl5:=p5.kl;apply Fz (E:=env) (n:=243) (f:=43) (args:=[.P I.r,.str [59]]) (P:=fun da h'=>da.get 0=some (.P I.r)/\da.get 3=some (.P tI)/\∃s6,RP I s6 h'/\LL I h2 tI [.str (t.drop 7),fv] fv mm cs h'/\kc ⟨s1.k+1,s1.bad,s1.dep,s1.dp⟩ s6/\(s6.bad=false->Fields rs1 (I.W.drop s6.k) fs))
      case hm=>
       intro out;cases wq:s5.bad with
       |true=>
        simp[r0,o5,wq];refine out _ _ ?_;exact⟨by simp[r0],by simp[r3],s5,p5,l5,a5,fun hz=>by rw[wq]at hz;cases hz⟩
       |false=>
        obtain⟨UF,hF⟩:=F5 wq;simp[r0,o5,wq];refine iL p5 (fun Tu h6 p6 k6=>?_) fun Tu h6 p6 k6=>?_
        ·obtain⟨_,c,rs5,hw5,hc5,hd5⟩:=fV Tu;simp[r0];refine out _ _ ?_;exact⟨by simp[r0],by simp[r3],_,p6,l5.call p5.fr k6,a5.trans (kc.of (cR _) rfl (ao _) id),fun _=>by
          have:=hF rs5 [] (by rw[hw5];exact .done hc5);rw[gZ]at this;simp only;rw[hd5];exact this⟩
        ·have l6:=l5.aJ p5.fr k6;have Qs:=iK Tu wq;simp[r0];refine FV p6 fun ty s7 h7 p7 a7 d7 ln7 f7 k7=>?_;have l7:=l6.call p6.fr k7;have MA:=l7.kx.next;have ltI:=l7.lt;have hdz:h7.next∉aK fv:=fun hz=>by
          obtain⟨_,ob,ho⟩:=l7.arr.ni hz;have:=au p7.fr ho;omega
         have K8:aS h7 ((h7.alloc (.C [.str [],.str [],.bool false])).2.set h7.next (.C [.str ty,.str [],.bool false])):=kT;have p8:=p7.aJ K8;have l8:=l7.aJ p7.fr K8;have gd8:((h7.alloc (.C [.str [],.str [],.bool false])).2.set h7.next (.C [.str ty,.str [],.bool false])).get h7.next=some (.C [.str ty,.str [],.bool false]):=sp;have ld8:h7.next<((h7.alloc (.C [.str [],.str [],.bool false])).2.set h7.next (.C [.str ty,.str [],.bool false])).next:=by simp
         simp[r0];generalize ((h7.alloc (.C [.str [],.str [],.bool false])).2.set h7.next (.C [.str ty,.str [],.bool false]))=h8 at*;have Bm:h7.next≠I.r/\h7.next≠I.g/\h7.next≠I.b/\h7.next≠tI:=(by have:=l7.rl;have:=l7.gl;have:=l7.bl;omega);generalize h7.next=dI at*;refine xC p8 fun nm s9 h9 p9 a9 k9' d9 ln9 f9 k9=>?_;have gd9:=(k9.old dI ld8 (by simp[RI.X,Bm.1,Bm.2.1])).trans gd8;have l9:=l8.call p8.fr k9;have Xk:=aw ld8 k9.next;simp[r0,gd9];have pA:=p9.put (.C [.str ty,.str nm,.bool false]) Bm.1 Bm.2.1 Bm.2.2.1 Xk;have lA:=l9.set (.C [.str ty,.str nm,.bool false]) MA Bm.2.2.2 hdz Xk;refine CD ty om pA fun ty2 sB hB pB aB dB lnB fB kB=>?_;have gdB:=kB.old dI (by simp only[ah.set];exact Xk) (by simp[RI.X,Bm.1,Bm.2.1]);simp at gdB;have lB:=lA.call pA.fr kB;have ldB:dI<hB.next:=aw (by simp only[ah.set];exact Xk) kB.next;simp[r0,gdB];have pC:=pB.put (.C [.str ty2,.str nm,.bool false]) Bm.1 Bm.2.1 Bm.2.2.1 ldB;have lC:=lB.set (.C [.str ty2,.str nm,.bool false]) MA Bm.2.2.2 hdz ldB;refine iB pC fun sD hD pD aD UH dD fD kD=>?_;have gdD:=kD.old dI (by simp only[ah.set];exact ldB) (by simp[RI.X,Bm.1,Bm.2.1]);simp at gdD;have lD:=lC.call pC.fr kD;have gT:=lD.get;simp[-aO,r0,r3,gT,gdD];obtain⟨H7,j8,gI7,tX,Tx⟩:=lD.push pD (by have:=p5.Bj.len;omega) [.str ty2,.str nm,.bool false] rfl rfl;rw[j8];obtain⟨lE,pE⟩:=Tx [.str (t.drop 7),.S (hD.next+1) (mm+1)];simp[-aO,r0,r3,gI7];rw[hJ];have A:=a7.trans (a9.trans (aB.trans aD));refine⟨sD.ms I.W.length,FW A wq (fun hz=>?_) pD.kl,sD,_,_,_,fs++[⟨ty2,nm⟩],rfl,rfl,rfl,rfl,pE,lE,a5.trans A,fun hz=>?_,by simp[r0],by simp[r3]⟩
         ·obtain⟨c1,r1,y1,y2,y3,y4⟩:=fD hz;have:=A.k;have:=aD.k;have:=aB.k;have:=a9.k;have:=a7.k;omega
         ·obtain⟨c1,r1,y1,y2,y3,y4⟩:=fD hz;have hAr:=fB (aD.bad hz);obtain⟨n1,r2,z1,z2,z3,z4,z5⟩:=f9 (aB.bad (aD.bad hz));have Y3:=f7 (a9.bad (aB.bad (aD.bad hz)));have u1:=a7.k;have u2:=aB.k;refine⟨om,fun dh l hFl=>?_⟩;rw[cj];refine hF dh _ ?_;rw[z1,<-z4]at Y3;rw[y1,<-y3]at hAr;subst z3;exact .field Qs Y3 z2 hAr y2 hFl
      case ht=>
       intro rg h5 hP;obtain⟨r0,r3,s6,p6,l6,a6,F6⟩:=hP;refine iB p6 fun s7 h7 p7 a7 k7' d7 f7 k7=>?_;have l7:=l6.call p6.fr k7;have gT:=l7.get;have ga7:GA I lo n fn h7:=(((g1.call p1.fr k2).call p2.fr l7.kx))
       have abq:∀i,i<lo->h7.get i=h.get i:=fun i hi=>by
        have hr:=ga.lor;have hg:=ga.log;have ni:i∉I.X:=(by simp[RI.X];omega);have n2:=k2.next;rw[l7.kx.old i om ni,k2.old i om ni];exact abp i hi
       have MA:lo<=h7.next:=(by have:=l7.kx.next;have:=k2.next;omega);have tX:h.next<=h7.next:=(by have:=l7.kx.next;have:=k2.next;omega);obtain⟨ab,Wq⟩:∃ab,fv= .slice ab mm:=by
        rcases l7.arr with⟨u1,u2,u3⟩|⟨bb,u1,_,_⟩
        ·exact⟨none,by rw[u3,u1]⟩
        ·exact⟨some (bb,0),u1⟩
       subst Wq;simp[r0,r3];refine Dd ?_;have oX:=p7.obj;obtain⟨nd,pg⟩:=p7.prog;have fj:=p7.fr (h7.next+12) om;have Y4:=p7.rg;simp[-aO,r0,r3,oX,pg,gT,fj];refine dm ?_;have KB:aS h7 (h7.bump 17):=kT;obtain⟨m1,H8,Oa,LV,gr8,gg8,sT,um8,p8,N1⟩:=(ga7.call p7.fr (KB.x _)).ago (p7.aJ KB) (by simp;omega) (nd:=nd) pg (j:=h7.next+12) fj sp om [.str (t.drop 7),.slice ab mm] rfl rfl om;have Tz:H8.get I.g=some (.C [I.l1,I.l2,I.l3,I.l4,.I nd,.I s7.dp]):=gg8.trans pg;have TA:=gr8.trans oX;simp[-aO]at Oa LV p8 N1;simp[-aO,Oa,Tz,TA,Y4,Y4.symm];refine dl ?_;refine Dd ?_;have wm0:IntKind.wrap .i64 (m1:Int)=(m1:Int):=(by rw[wr om om]);have wm1:IntKind.wrap .i64 ((m1:Int)+1-1)=(m1:Int):=(by rw[wr om om];omega);have o9:=p8.obj;have J8:(H8.set I.g (.C [.S (h7.next+17) (m1+1),I.l2,I.l3,I.l4,.I nd,.I s7.dp])).get I.g=some (.C [.S (h7.next+17) (m1+1),I.l2,I.l3,I.l4,.I nd,.I s7.dp]):=sp;obtain⟨H9,TB⟩:∃x,x=H8.set I.g (.C [.S (h7.next+17) (m1+1),I.l2,I.l3,I.l4,.I nd,.I s7.dp]):=⟨_,rfl⟩
       have nx9:H9.next=h7.next+18:=(by rw[TB];simp only[ah.set];omega);rw[<-TB]at p8 N1 o9 J8⊢;have Y6:=p8.fr (H9.next+21) om;simp only at o9 J8;simp[-aO,r0,o9,J8,Y6,wm0,wm1];refine dm ?_;have KC:aS H9 (H9.bump 26):=kT;obtain⟨m4,HA,Y7,nxA,grA,ggA,TC,umA,pA,Y8⟩:=(N1.call p8.fr (KC.x _)).abn (p8.aJ KC) (by simp;omega) (nd:=nd) J8 (j:=H9.next+21) Y6 sp om [.I 0,.I m1] rfl rfl om;have J9:=ggA.trans (show(H9.bump 26).get I.g=_ from J8);have Ka:=grA.trans (show(H9.bump 26).get I.r=_ from o9);simp[-aO]at Y7 nxA pA Y8 J9 Ka;simp[-aO,Y7,J9,Ka];refine dl ?_;have TD:∀i,i<lo->(HA.set I.g (.C [.S (h7.next+17) (m1+1),I.l2,I.l3,.S (H9.next+26) (m4+1),.I nd,.I s7.dp])).get i=h.get i:=fun i hi=>by
        have hg:=ga.log;rw[ah.aM,az om,TC i hi];show H9.get i=_;rw[TB,ah.aM,az om,sT i hi];exact abq i hi
       refine hQ _ s7 fn _ pA Y8 ⟨rfl,rfl,rfl,rfl⟩ TD (by simp only[ah.set];omega) (by have:=a1.k;have:=a6.k;have:=a7.k;simp only at*;omega) (fun hz=>?_);obtain⟨c2,r2,y1,y2,y3,y4⟩:=f7 hz;have hF6:=F6 (a7.bad hz);have v1:=a6.dep (a7.bad hz);have v2:=a1.dep E9;have v3:=a7.dep hz;have v4:=a1.dp;have v5:=a6.dp;have v6:=a7.dp;have v7:=a6.k;have v8:=a1.k;simp only at v1 v5 v7;have v9:=hT.kj;simp only[bU]at v9;refine⟨om,om,om,.struct w.at nw.text fs,rfl,fun b _=>?_⟩;rw[y1,<-y3]at hF6;rw[e1];rw[hw1];exact .struct e2 e3 Ge hF6 y2
     ·simp;exact Qo _ _ ⟨sp,sp,p2,k2⟩
    |false=>
     simp[hA,hAI,hA7,Xj,hB,wL,hlL,hx,uG,hC];exact Qo _ _ ⟨sp,sp,p1,aS.refl _⟩
   |false=>
    simp[hA,hAI,hA7,Xj,hB,wL,hlL,hx,uG];exact Qo _ _ ⟨sp,sp,p1,aS.refl _⟩
  ·have hAI:¬(7:Int)<(t.length:Int):=om;simp[hA,hAI];exact Qo _ _ ⟨sp,sp,p1,aS.refl _⟩
 case ht=>
  intro rg h2 hP;obtain⟨r0,r2,p2,k2⟩:=hP;have g2:=g1.call p1.fr (k2.x _);refine xC p2 fun nm s3 h3 p3 a3 k3' d3 l3 f3 k3=>?_;have g3:=g2.call p2.fr k3;simp[r0];refine iL p3 (fun hs h4 p4 k4=>?_) fun hs h4 p4 k4=>?_
  ·simp[r0,r2];obtain⟨hb3,oo,Xi,hw3,ho3,hd3⟩:=fV hs;have EI:=fT hw3;have g4:=g3.call p3.fr k4;have KF:aS h4 ((h4.alloc (.C [.str [],.str [],.Z,.N,.Z])).2.set h4.next (.C [.str t,.str nm,.Z,.N,.Z])):=kT;have pF:=p4.aJ KF;have lF:LL I h4 h4.next [.str t,.str nm,.Z,.N,.Z] (.Z) 0 [] ((h4.alloc (.C [.str [],.str [],.Z,.N,.Z])).2.set h4.next (.C [.str t,.str nm,.Z,.N,.Z])):=
    ⟨sp,ao _,sp,KF.x _,p4.rl,p4.gl,p4.bl,.inl ⟨rfl,rfl,rfl⟩,rfl,by simp[aK]⟩
   obtain⟨hF,hhF⟩:∃x,x=((h4.alloc (.C [.str [],.str [],.Z,.N,.Z])).2.set h4.next (.C [.str t,.str nm,.Z,.N,.Z])):=⟨_,rfl⟩
   rw[<-hhF]at KF pF lF⊢;clear hhF;obtain⟨tI,hTI⟩:∃x,x=h4.next:=⟨_,rfl⟩
   rw[<-hTI]at lF;obtain⟨J,hJ⟩:∃J:Nat->St->Prop,J=(fun m x=>∃s5 fv mm cs ps,m=s5.ms I.W.length/\x.n=243/\x.ds=[]/\x.bI=false/\RP I s5 x.h/\LL I h4 tI [.str t,.str nm,fv,.N,.Z] fv mm cs x.h/\kc ⟨s3.k+1,s3.bad,s3.dep,s3.dp⟩ s5/\(s5.bad=false->mm<=s5.k/\mm=ps.length/\ae3 I s5 Xi ps)/\
    x.rg.get 0=some (.P I.r)/\x.rg.get 7=some (.P tI)):=⟨_,rfl⟩
   refine bW J (RS.ms ⟨s3.k+1,s3.bad,s3.dep,s3.dp⟩ I.W.length) ?_ ?_
   ·rw[hJ];exact⟨⟨s3.k+1,s3.bad,s3.dep,s3.dp⟩,.Z,0,[],[],rfl,rfl,rfl,rfl,pF,lF,kc.refl _,fun _=>⟨bX _,rfl,⟨fun _=>hd3,fun h=>(h rfl).elim⟩⟩,by simp[r0],by simp[hTI]⟩
   clear lF pF KF r0 r2 rg;intro m st rC;have fI:=rC;rw[hJ]at fI;obtain⟨rg,n',H,ds,bI⟩:=st;obtain⟨s5,fv,mm,cs,ps,rfl,x1,x2,x3,p5,l5,a5,F5,r0,r7⟩:=fI;dsimp only at x1 x2 x3 p5 l5 r0 r7;subst x1 x2 x3;have o5:=p5.obj;have kl5:=p5.kl;obtain⟨ab,Wq⟩:∃ab,fv= .slice ab mm:=by
    rcases l5.arr with⟨u1,u2,u3⟩|⟨bb,u1,_,_⟩
    ·exact⟨none,by rw[u3,u1]⟩
    ·exact⟨some (bb,0),u1⟩
   apply Fz (E:=env) (n:=243) (f:=44) (args:=[.P I.r,.str [123]]) (P:=fun da h'=>da.get 0=some (.P I.r)/\da.get 7=some (.P tI)/\∃s6,RP I s6 h'/\LL I h4 tI [.str t,.str nm,fv,.N,.Z] fv mm cs h'/\kc ⟨s3.k+1,s3.bad,s3.dep,s3.dp⟩ s6/\(s6.bad=false->(ps=[]/\∃c,Xi=c::I.W.drop s6.k/\ja c [41])\/(du Xi [41]=false/\xu Xi (I.W.drop s6.k) ps)))
   case hm=>
    intro out;cases wq:s5.bad with
    |true=>
     simp[r0,o5,wq];refine out _ _ ?_;exact⟨by simp[r0],by simp[r7],s5,p5,l5,a5,fun hz=>by rw[wq]at hz;cases hz⟩
    |false=>
     obtain⟨UF,PY,hF⟩:=F5 wq;simp[r0,o5,wq];refine iL p5 (fun Tu h6 p6 k6=>?_) fun Tu h6 p6 k6=>?_
     ·obtain⟨_,c,rs5,hw5,hc5,hd5⟩:=fV Tu;simp[r0];refine out _ _ ?_;refine⟨by simp[r0],by simp[r7],_,p6,l5.call p5.fr k6,a5.trans (kc.of (cR _) rfl (ao _) id),fun _=>?_⟩;simp only[hd5];cases ps with
      |nil=>
       have:=hF.nil rfl;rw[hw5]at this;exact .inl ⟨rfl,c,this.symm,hc5⟩
      |cons p1' Kp=>
       obtain⟨v1,v2⟩:=hF.cons sp;have:=v2 rs5 [] (.inl ⟨c,hw5,hc5,rfl⟩);rw[gZ]at this;exact .inr ⟨v1,this⟩
     ·have l6:=l5.aJ p5.fr k6;have Qs:=iK Tu wq;have gT6:=l6.get;apply Fz (E:=env) (n:=243) (f:=40) (args:=[.P I.r,.str [112,117,98,108,105,99]]) (P:=fun da h'=>da.get 0=some (.P I.r)/\da.get 7=some (.P tI)/\∃s9,RP I s9 h'/\LL I h4 tI [.str t,.str nm,fv,.N,.Z] fv mm cs h'/\kc s5 s9/\(s9.bad=false->(ps=[]/\I.W.drop s9.k=Xi)\/(ps≠[]/\∃c,I.W.drop s5.k=c::I.W.drop s9.k/\ja c [44])))
      case hm=>
       intro go;rcases Nat.eq_zero_or_pos mm with Xl|Xl
       ·have Ef:ps=[]:=cw om;rw[Wq,Xl]at gT6;simp[r0,r7,gT6];refine go _ _ ?_;exact⟨by simp[r0],by simp[r7],s5,p6,l6,kc.refl _,fun _=> .inl ⟨Ef,hF.nil Ef⟩⟩
       ·have Ef:ps≠[]:=(by intro e;rw[e]at PY;simp at PY;omega);have agr:(0:Int)<(mm:Int):=om;rw[Wq]at gT6;simp[r0,r7,gT6,Xl,agr];refine iB p6 fun s9 h9 p9 a9 k9' d9 f9 k9=>?_;simp[r0];refine go _ _ ?_;exact⟨by simp[r0],by simp[r7],s9,p9,l6.call p6.fr k9,a9,fun hz=>by
         obtain⟨c3,rs4,v1,v2,v3,v4⟩:=f9 hz;exact .inr ⟨Ef,c3,by rw[v1,v3],v2⟩⟩
      case ht=>
       clear gT6 l6 p6 k6 rC;intro rg2 h6 hP;obtain⟨r0,r7,s6,p6,l6,a6,F6⟩:=hP;refine ae4 p6 fun pb s7 h7 p7 a7 d7 f7 k7=>?_;have l7:=l6.call p6.fr k7;have MA:=l7.kx.next;have ltI:=l7.lt;have hdz:h7.next∉aK fv:=fun hz=>by
        obtain⟨_,ob,ho⟩:=l7.arr.ni hz;have:=au p7.fr ho;omega
       have K8:aS h7 ((h7.alloc (.C [.str [],.str [],.bool false])).2.set h7.next (.C [.str [],.str [],.bool pb])):=kT;have p8:=p7.aJ K8;have l8:=l7.aJ p7.fr K8;have gd8:((h7.alloc (.C [.str [],.str [],.bool false])).2.set h7.next (.C [.str [],.str [],.bool pb])).get h7.next=some (.C [.str [],.str [],.bool pb]):=sp;have ld8:h7.next<((h7.alloc (.C [.str [],.str [],.bool false])).2.set h7.next (.C [.str [],.str [],.bool pb])).next:=by simp
       simp[r0];obtain⟨h8,hh8⟩:∃x,x=((h7.alloc (.C [.str [],.str [],.bool false])).2.set h7.next (.C [.str [],.str [],.bool pb])):=⟨_,rfl⟩
       rw[<-hh8]at K8 p8 l8 gd8 ld8⊢;clear hh8;have Bm:h7.next≠I.r/\h7.next≠I.g/\h7.next≠I.b/\h7.next≠tI:=(by have:=l7.rl;have:=l7.gl;have:=l7.bl;omega);generalize h7.next=dI at*;refine FV p8 fun ty s9 h9 p9 a9 d9 ln9 f9 k9=>?_;have gd9:=(k9.old dI ld8 (by simp[RI.X,Bm.1,Bm.2.1])).trans gd8;have l9:=l8.call p8.fr k9;have Xk:=aw ld8 k9.next;simp[r0,gd9];have pA:=p9.put (.C [.str ty,.str [],.bool pb]) Bm.1 Bm.2.1 Bm.2.2.1 Xk;have lA:=l9.set (.C [.str ty,.str [],.bool pb]) MA Bm.2.2.2 hdz Xk;refine xC pA fun pn sD hD pD aD UH dD lnD fD kD=>?_;have gdD:=kD.old dI (by simp only[ah.set];exact Xk) (by simp[RI.X,Bm.1,Bm.2.1]);simp at gdD;have lD:=lA.call pA.fr kD;have ldD:dI<hD.next:=aw (by simp only[ah.set];exact Xk) kD.next;simp[r0,gdD];have pE:=pD.put (.C [.str ty,.str pn,.bool pb]) Bm.1 Bm.2.1 Bm.2.2.1 ldD;have lE:=lD.set (.C [.str ty,.str pn,.bool pb]) MA Bm.2.2.2 hdz ldD;have gT:=lE.get;have gdE:(hD.set dI (.C [.str ty,.str pn,.bool pb])).get dI=some (.C [.str ty,.str pn,.bool pb]):=sp;have nxE:(hD.set dI (.C [.str ty,.str pn,.bool pb])).next=hD.next:=rfl
       obtain⟨hE,hhE⟩:∃x,x=hD.set dI (.C [.str ty,.str pn,.bool pb]):=⟨_,rfl⟩
       rw[<-hhE]at pE lE gT gdE nxE⊢;clear hhE;simp[-aO,r0,r7,gT,gdE];obtain⟨H7,j8,gI7,tX,Tx⟩:=lE.push pE (by have:=p5.Bj.len;omega) [.str ty,.str pn,.bool pb] rfl rfl;rw[j8];obtain⟨lG,pG⟩:=Tx [.str t,.str nm,.S (hE.next+1) (mm+1),.N,.Z];simp[-aO,r0,r7,gI7];rw[hJ];have A:=a6.trans (a7.trans (a9.trans aD));have w7:=a7.k;have w9:=a9.k;have wD:=aD.k;have w6:=a6.k;refine⟨sD.ms I.W.length,FW A wq (fun hz=>?_) pD.kl,sD,_,_,_,ps++[⟨Pk (I.W.drop s9.k),pb,ty,pn⟩],rfl,rfl,rfl,rfl,pG,lG,a5.trans A,fun hz=>?_,by simp[r0],by simp[r7]⟩
       ·obtain⟨n1,r2,z1,z2,z3,z4,z5⟩:=fD hz;omega
       ·obtain⟨n1,r2',z1,z2,z3,z4,z5⟩:=fD hz;have Y3:=f9 (aD.bad hz);have hPb:=f7 (a9.bad (aD.bad hz));have hcm:=F6 (a7.bad (a9.bad (aD.bad hz)));refine⟨om,by simp[PY],⟨fun h=>by simp at h,fun _=>?_⟩⟩;have one:∀dh l,Y1 (I.W.drop sD.k) dh l->xu (I.W.drop s6.k) dh (⟨Pk (I.W.drop s9.k),pb,ty,pn⟩::l):=fun dh l hT=>by
         rw[Aw z1];rw[z1,<-z4]at Y3;subst z3;rcases hT with⟨c,e1,hc,rfl⟩|⟨c,eK,e1,hc,hr⟩
         ·rw[e1]at Y3;exact .one hPb Y3 z2 hc
         ·rw[e1]at Y3;exact .more hPb Y3 z2 hc hr
        rcases hcm with⟨w1,w2⟩|⟨w1,cc,w2,w3⟩
        ·have B5:=hF.nil w1;rw[B5]at Qs;refine⟨Qs,fun dh l hT=>?_⟩;have:=one dh l hT;rw[w2]at this;rw[w1];exact this
        ·obtain⟨y1,y2⟩:=hF.cons w1;refine⟨y1,fun dh l hT=>?_⟩;have:=y2 dh _ (.inr ⟨cc,_,w2,w3,one dh l hT⟩);rw[cj];exact this
   case ht=>
    clear rC;intro rg5 h5 hP;obtain⟨r0,r7,s6,p6,l6,a6,F6⟩:=hP;have yY:=k2.next;have Uo:=k3.next;have nx4:=k4.next;have ae5:∀H',aQ I.X h4 H'->∀i,i<lo->H'.get i=h.get i:=fun H' kk i hi=>by
     have hr:=ga.lor;have hg:=ga.log;have ni:i∉I.X:=(by simp[RI.X];omega);rw[kk.old i om ni,k4.old i om ni,k3.old i om ni,k2.old i om];exact abp i hi
    refine Av p6 fun h7 p7 k7=>?_;have l7:=l6.aJ p6.fr k7;have o7:=p7.obj;have a6k:=a6.k;have a3k:=a3.k;have a1k:=a1.k;simp only at a6k;cases hs6:pH I s6 [123]with
    |false=>
     simp[r0,o7];obtain⟨nd7,pg7⟩:=p7.prog;have kx8:aQ I.X h7 (h7.set I.r (.cells (true) 0 [.S I.b I.W.length,.I s6.k,.bool true,.P I.g,.I s6.dep])):=aQ.set _ (aQ.refl _ _) (.inl (by simp[RI.X])) p7.rl;have p8:=p7.AG (s':={s6 with bad:=true}) kx8 sp ⟨nd7,by rw[ah.aM,az p7.rg.symm];exact pg7⟩ p7.kl p7.dd p7.d2;have l8:=l7.call p7.fr kx8;exact hQ I {s6 with bad:=true} fn _ p8 ((g4.call p4.fr l8.kx).mono (by(omega))) ⟨rfl,rfl,rfl,rfl⟩ (ae5 _ l8.kx) (by have:=l8.kx.next;omega) (by simp only;omega) sp
    |true=>
     obtain⟨zt,wb,rb,hwb,hkb,hdb⟩:=fV hs6;have a6d:=a6.dep zt;have TE:=a6.bad zt;simp only at TE a6d;have a3d:=a3.dep TE;have a1d:=a1.dep (a3.bad TE);simp[r0,r7];have xo7:XO I [I.r,I.g] h7:=⟨sp,sp,fun y hy=>by
      simp only[aq,bd,cT]at hy;rcases hy with h|h
      ·rw[h];exact p7.rl
      ·rw[h];exact p7.gl⟩
     refine(ae2 (I.W.length-s6.k)).st I s6 h7 [I.r,I.g] _ rfl p7 xo7 om fun vY tb s8 h8 p8 a8 l8' f8 k8=>?_;have l8:=l7.call p7.fr k8;have gT8:=l8.get;simp[r0,r7,gT8];obtain⟨h9,e9,l9,p9⟩:=l8.put p8 [.str t,.str nm,fv,.P vY,.Z];rw[e9];have gT:=l9.get;subst Wq;have ga9:=g4.call p4.fr l9.kx;have ahB:lo<=h9.next:=(by have:=l9.kx.next;omega);have ahC:h.next<=h9.next:=(by have:=l9.kx.next;omega);have ags:=ae5 h9 l9.kx;refine Dd ?_;have oX:=p9.obj;obtain⟨nd,pg⟩:=p9.prog;have fj:=p9.fr (h9.next+12) om;have Y4:=p9.rg;simp[-aO,r0,r7,oX,pg,gT,fj];refine dm ?_;have KB:aS h9 (h9.bump 17):=kT;obtain⟨m1,H8,Oa,LV,gr8,gg8,sT,em8,um8,p8,N1⟩:=(ga9.call p9.fr (KB.x _)).agq (p9.aJ KB) (by simp;omega) (nd:=nd) pg (j:=h9.next+12) fj sp om [.str t,.str nm,.slice ab mm,.P vY,.Z] rfl rfl om;subst em8;have Tz:H8.get I.g=some (.C [I.l1,I.l2,I.l3,I.l4,.I nd,.I s8.dp]):=gg8.trans pg;have TA:=gr8.trans oX;simp[-aO]at Oa LV p8 N1;simp[-aO,Oa,Tz,TA,Y4,Y4.symm];refine dl ?_;refine Dd ?_;have wm0:IntKind.wrap .i64 (m1:Int)=(m1:Int):=(by rw[wr om om]);have wm1:IntKind.wrap .i64 ((m1:Int)+1-1)=(m1:Int):=(by rw[wr om om];omega);have o9:=p8.obj;have J8:(H8.set I.g (.C [I.l1,I.l2,.S (h9.next+17) (m1+1),I.l4,.I nd,.I s8.dp])).get I.g=some (.C [I.l1,I.l2,.S (h9.next+17) (m1+1),I.l4,.I nd,.I s8.dp]):=sp;obtain⟨H9,TB⟩:∃x,x=H8.set I.g (.C [I.l1,I.l2,.S (h9.next+17) (m1+1),I.l4,.I nd,.I s8.dp]):=⟨_,rfl⟩
     have nx9:H9.next=h9.next+18:=(by rw[TB];simp only[ah.set];omega);rw[<-TB]at p8 N1 o9 J8⊢;have Y6:=p8.fr (H9.next+21) om;simp only at o9 J8;simp[-aO,r0,o9,J8,Y6,wm0,wm1];refine dm ?_;have KC:aS H9 (H9.bump 26):=kT;obtain⟨m4,HA,Y7,nxA,grA,ggA,TC,umA,pA,Y8⟩:=(N1.call p8.fr (KC.x _)).abn (p8.aJ KC) (by simp;omega) (nd:=nd) J8 (j:=H9.next+21) Y6 sp om [.I 2,.I m1] rfl rfl om;have J9:=ggA.trans (show(H9.bump 26).get I.g=_ from J8);have Ka:=grA.trans (show(H9.bump 26).get I.r=_ from o9);simp[-aO]at Y7 nxA pA Y8 J9 Ka;simp[-aO,Y7,J9,Ka];refine dl ?_;have TD:∀i,i<lo->(HA.set I.g (.C [I.l1,I.l2,.S (h9.next+17) (m1+1),.S (H9.next+26) (m4+1),.I nd,.I s8.dp])).get i=h.get i:=fun i hi=>by
      have hg:=ga.log;rw[ah.aM,az om,TC i hi];show H9.get i=_;rw[TB,ah.aM,az om,sT i hi];exact ags i hi
     refine hQ _ s8 (m1+1) _ pA Y8 ⟨rfl,rfl,rfl,rfl⟩ TD (by simp only[ah.set];omega) (by have:=a8.k;omega) (fun hz=>?_);obtain⟨q1,q2,q3⟩:=f8 hz;have v4:=a8.dep hz;have v5:=a1.dp;have v6:=a3.dp;have v7:=a6.dp;have v8:=a8.dp;have v10:=a8.k;obtain⟨nw,rs,z1,z2,z3,z4,z5⟩:=f3 TE;have hT:=f1 (a3.bad TE);have v9:=hT.kj;simp only[bU]at v9;simp only at v7;refine⟨om,om,om,.func nw.at t nw.text ps tb,rfl,fun b jJ=>?_⟩;have hB:=q2 b om;rw[hwb]at hB;have hB':=Xh hB hkb;rw[<-hwb]at hB';rw[z1,<-z4,hw3]at hT;rcases F6 zt with⟨w1,c,w2,w3⟩|⟨w1,w2⟩
     ·rw[w1];rw[w2]at hT;exact .func0 hT z2 ho3 w3 hB'
     ·exact .func hT z2 ho3 w1 w2 hB'
  ·have g4:=g3.call p3.fr (k4.x _);simp[r0,r2];refine CD t om p4 fun ty s5 h5 p5 a5 d5 l5 f5 k5=>?_;have g5:=g4.call p4.fr k5;have K6:aS h5 ((h5.alloc (.C [.str [],.str [],.bool false])).2.set h5.next (.C [.str ty,.str nm,.bool false])):=kT;have gd6:((h5.alloc (.C [.str [],.str [],.bool false])).2.set h5.next (.C [.str ty,.str nm,.bool false])).get h5.next=some (.C [.str ty,.str nm,.bool false]):=sp;have ld6:h5.next<((h5.alloc (.C [.str [],.str [],.bool false])).2.set h5.next (.C [.str ty,.str nm,.bool false])).next:=by simp
   simp[r0,r2];obtain⟨h6,YK⟩:∃x,x=((h5.alloc (.C [.str [],.str [],.bool false])).2.set h5.next (.C [.str ty,.str nm,.bool false])):=⟨_,rfl⟩
   rw[<-YK]at K6 gd6 ld6⊢;clear YK;have p6:=p5.aJ K6;have g6:=g5.call p5.fr (K6.x _);refine iB p6 fun s7 h7 p7 a7 k7' d7 f7 k7=>?_;have ga7:=g6.call p6.fr k7;have nX:h5.next∉I.X:=(by have:=p5.rl;have:=p5.gl;simp[RI.X];omega);have gT:=(k7.old h5.next ld6 nX).trans gd6;have u1:=k2.next;have u2:=k3.next;have u3:=k4.next;have u4:=k5.next;have u5:=K6.next;have u6:=k7.next;have abq:∀i,i<lo->h7.get i=h.get i:=fun i hi=>by
    have hr:=ga.lor;have hg:=ga.log;have ni:i∉I.X:=(by simp[RI.X];omega);rw[k7.old i om ni,K6.old i om,k5.old i om ni,k4.old i om,k3.old i om ni,k2.old i om];exact abp i hi
   have MA:lo<=h7.next:=om;simp[r0];refine Dd ?_;have oX:=p7.obj;obtain⟨nd,pg⟩:=p7.prog;have fj:=p7.fr (h7.next+12) om;have Y4:=p7.rg;simp[-aO,r0,oX,pg,gT,fj];refine dm ?_;have KB:aS h7 (h7.bump 17):=kT;obtain⟨m1,H8,Oa,LV,gr8,gg8,sT,um8,p8,N1⟩:=(ga7.call p7.fr (KB.x _)).agp (p7.aJ KB) (by simp;omega) (nd:=nd) pg (j:=h7.next+12) fj sp om [.str ty,.str nm,.bool false] rfl rfl om;have Tz:H8.get I.g=some (.C [I.l1,I.l2,I.l3,I.l4,.I nd,.I s7.dp]):=gg8.trans pg;have TA:=gr8.trans oX;simp[-aO]at Oa LV p8 N1;simp[-aO,Oa,Tz,TA,Y4,Y4.symm];refine dl ?_;refine Dd ?_;have wm0:IntKind.wrap .i64 (m1:Int)=(m1:Int):=(by rw[wr om om]);have wm1:IntKind.wrap .i64 ((m1:Int)+1-1)=(m1:Int):=(by rw[wr om om];omega);have o9:=p8.obj;have J8:(H8.set I.g (.C [I.l1,.S (h7.next+17) (m1+1),I.l3,I.l4,.I nd,.I s7.dp])).get I.g=some (.C [I.l1,.S (h7.next+17) (m1+1),I.l3,I.l4,.I nd,.I s7.dp]):=sp;obtain⟨H9,TB⟩:∃x,x=H8.set I.g (.C [I.l1,.S (h7.next+17) (m1+1),I.l3,I.l4,.I nd,.I s7.dp]):=⟨_,rfl⟩
   have nx9:H9.next=h7.next+18:=(by rw[TB];simp only[ah.set];omega);rw[<-TB]at p8 N1 o9 J8⊢;have Y6:=p8.fr (H9.next+21) om;simp only at o9 J8;simp[-aO,r0,o9,J8,Y6,wm0,wm1];refine dm ?_;have KC:aS H9 (H9.bump 26):=kT;obtain⟨m4,HA,Y7,nxA,grA,ggA,TC,umA,pA,Y8⟩:=(N1.call p8.fr (KC.x _)).abn (p8.aJ KC) (by simp;omega) (nd:=nd) J8 (j:=H9.next+21) Y6 sp om [.I 1,.I m1] rfl rfl om;have J9:=ggA.trans (show(H9.bump 26).get I.g=_ from J8);have Ka:=grA.trans (show(H9.bump 26).get I.r=_ from o9);simp[-aO]at Y7 nxA pA Y8 J9 Ka;simp[-aO,Y7,J9,Ka];refine dl ?_;have TD:∀i,i<lo->(HA.set I.g (.C [I.l1,.S (h7.next+17) (m1+1),I.l3,.S (H9.next+26) (m4+1),.I nd,.I s7.dp])).get i=h.get i:=fun i hi=>by
    have hg:=ga.log;rw[ah.aM,az om,TC i hi];show H9.get i=_;rw[TB,ah.aM,az om,sT i hi];exact abq i hi
   refine hQ _ s7 fn _ pA Y8 ⟨rfl,rfl,rfl,rfl⟩ TD (by simp only[ah.set];omega) (by have:=a1.k;have:=a3.k;have:=a5.k;have:=a7.k;simp only at*;omega) (fun hz=>?_);obtain⟨c2,r2',y1,y2,y3,y4⟩:=f7 hz;have hz5:=a7.bad hz;have Hz:=a5.bad hz5;have hz1:=a3.bad Hz;obtain⟨nw,rs,z1,z2,z3,z4,z5⟩:=f3 Hz;have hT:=f1 hz1;have hAr:=f5 hz5;have v1:=a1.dep hz1;have v2:=a3.dep Hz;have v3:=a5.dep hz5;have v4:=a7.dep hz;have v5:=a1.dp;have v6:=a3.dp;have v7:=a5.dp;have v8:=a7.dp;have v10:=a5.k;have v9:=hT.kj;simp only[bU]at v9;refine⟨om,om,om,.global nw.at ty nw.text,rfl,fun b _=>?_⟩;rw[z1,<-z4]at hT;have hs3:=iK hs Hz;rw[y1,<-y3]at hAr;exact .global hT z2 hs3 hAr y2
end
section
attribute [local simp] aI
theorem jM.uniq{l c:Int}{s:List UInt8}{ws dh:List Wo}(h:jM l c s ws)(h':jM l c s dh):ws=dh:=by
 induction h generalizing dh with
 |nil=>exact h'.done.symm
 |blank hs hb h0 hn hr ih=>
  cases h' with
  |nil=>exact(hs rfl).elim
  |blank qU ub Fp rM ZB=>
   rw[hb]at ub;simp only[gh,jg]at ub;have e:=Int.ofNat.inj ub;subst e;exact ih ZB
  |word qU ub HV ZB=>
   rw[hb]at ub;simp only[gh,jg]at ub;omega
 |word hs hb hw hr ih=>
  cases h' with
  |nil=>exact(hs rfl).elim
  |blank qU ub Fp rM ZB=>
   rw[hb]at ub;simp only[gh,jg]at ub;omega
  |word qU ub HV ZB=>
   rw[hw]at HV;injection HV with HV;subst HV;rw[ih ZB]
theorem ae6{s:List UInt8}{h:ah}{Q:Out->ah->Prop}(hs:s.length<=65536)(hQ:∀l c h',aS h h'->Q (.ret (.agg [.I l,.I c])) h'):aV env 27 [.str s] h Q:=by
 refine wb fn27 rfl ?_;simp[f27];refine bW (fun m x=>∃(i:Nat)(l c:Int),i<=s.length/\m=s.length-i/\x.n=25/\x.ds=[]/\x.bI=false/\aS h x.h/\h.next+1<x.h.next/\x.h.get h.next=some (.C [.I 0,.I 0])/\x.h.get (h.next+1)=some (.C [.I l,.I c])/\
  x.rg.get 0=some (.str s)/\x.rg.get 2=some (.P h.next)/\x.rg.get 3=some (.P (h.next+1))/\x.rg.get 4=some (.I i)) s.length ?_ ?_
 ·exact⟨0,1,1,om,rfl,rfl,rfl,rfl,kT,sp,sp,sp,sp,sp,sp,sp⟩
 rintro m ⟨rg,n',H,ds,bI⟩ ⟨i,l,c,hi,rfl,e1,e2,e3,k1,n1,g2,g3,r0,r2,r3,r4⟩
 dsimp only at e1 e2 e3 k1 n1 g2 g3 r0 r2 r3 r4;subst e1 e2 e3;by_cases cX:i<s.length
 ·have wi:IntKind.wrap .i64 ((i:Int)+1)=((i+1:Nat):Int):=by rw[wr om om];omega
  have fW:(i:Int)<(s.length:Int):=by omega
  obtain⟨x,hx⟩:∃x,s[i]?=some x:=⟨_,aj cX⟩
  have uG:s[i]=x:=by rw[aj cX]at hx;injection hx
  cases hc:((x.toNat:Int)==10)with
  |true=>
   simp[r0,r2,r3,r4,cX,fW,g3,hx,uG,hc,wi];refine⟨s.length-(i+1),om,i+1,om,rfl,kT,om,?_,om⟩;exact g2
  |false=>
   simp[r0,r2,r3,r4,cX,fW,g3,hx,uG,hc,wi];refine⟨s.length-(i+1),om,i+1,om,rfl,kT,om,?_,om⟩;exact g2
 ·have fW:¬(i:Int)<(s.length:Int):=by omega
  simp[r0,r2,r3,r4,cX,fW,g2,g3];exact hQ l c _ kT
end
section
theorem dq{F A H:Prop}(f:F)(b:H)(a:F->H->A:=by intro hf;(repeat (apply dj; · (repeat (first|exact OZ _ _|exact Ds _ _ _|exact O0 _ _ _ _ _|refine DSc (by decide+kernel) ?_|refine RQ (by decide+kernel) ?_|refine DRc (by decide+kernel) ?_|refine OY (by simp[hf];done) ?_|refine Yg (by simp[hf];done) ?_))));exact fun h=>h):A:=a f b
attribute [local simp] aI
def agt(s:List UInt8)(h:ah)(out:Out)(h':ah):Prop:=
 ∃pv l c bad,out= .ret (.iX [pv,.agg [.I l,.I c],.I bad])/\aS h h'/\
  (bad=0->∃g ws ez dp l1 l2 l4 nd x,pv= .P g/\h'.get g=some (.C [l1,l2,.slice x (J0 ez),l4,.I nd,.I (dp:Nat)])/\jM 1 1 s ws/\∀b,dp<=b->qf b ws ez)
theorem MC{b:Nat}{ws cq:List Wo}{ez:List It}(h:∀l,qf b cq l->qf b ws (ez++l)){it:It}{eK:List Wo}(hi:Item b cq eK it):∀l,qf b eK l->qf b ws ((ez++[it])++l):=fun l hl=>by
 rw[cj];exact h _ (.item hi hl)
theorem Xm(a b:List It):J0 (a++b)=J0 a+J0 b:=by
 induction a with
 |nil=>simp[J0]
 |cons x a ih=>simp[J0,ih]<;>omega
theorem TF{s:List UInt8}{h:ah}(hs:s.length<=65536)(fr:cM h)(hlen:∀ws,jM 1 1 s ws->ws.length<=250):aV env 13 [.str s] h (agt s h):=by
 refine wb fn13 rfl ?_;simp[f13];have K0:=(aS.refl h).alloc (.C [.I 0,.I 0]);refine(Ou s _ (K0.fresh fr)).mono fun out h2 hq=>?_;obtain⟨sv,l,c,bad,rfl,K2,gJ⟩:=hq;have KK:=K0.trans K2;have n2:=K2.next;have g0:h2.get h.next=some (.C [.I 0,.I 0]):=(K2.old h.next sp).trans sp;simp at n2;have jX:h.next≠h2.next:=om
 simp;by_cases yG:bad=0
 ·subst yG;obtain⟨ws,b,hx,rfl,ar,lb1,lb2⟩:=gJ rfl;have hw:=hlen ws hx;have Bj:=hx.Bj hs hw;simp;have K3:aS h2 (((((h2.alloc (.C [.I 0,.I 0])).2.set h2.next (.C [.I l,.I c])).alloc (.C [.Z,.Z,.Z,.Z,.I 0,.I 0])).2.alloc (.C [.S b ws.length,.I 0,.bool false,.P (h2.next+1),.I 0])).2):=kT;have Us:(((((h2.alloc (.C [.I 0,.I 0])).2.set h2.next (.C [.I l,.I c])).alloc (.C [.Z,.Z,.Z,.Z,.I 0,.I 0])).2.alloc (.C [.S b ws.length,.I 0,.bool false,.P (h2.next+1),.I 0])).2).get (h2.next+2)=some (.C [.S b ws.length,.I 0,.bool false,.P (h2.next+1),.I 0]):=by simp
  have gg3:(((((h2.alloc (.C [.I 0,.I 0])).2.set h2.next (.C [.I l,.I c])).alloc (.C [.Z,.Z,.Z,.Z,.I 0,.I 0])).2.alloc (.C [.S b ws.length,.I 0,.bool false,.P (h2.next+1),.I 0])).2).get (h2.next+1)=some (.C [.Z,.Z,.Z,.Z,.I 0,.I 0]):=by simp
  have n3:(((((h2.alloc (.C [.I 0,.I 0])).2.set h2.next (.C [.I l,.I c])).alloc (.C [.Z,.Z,.Z,.Z,.I 0,.I 0])).2.alloc (.C [.S b ws.length,.I 0,.bool false,.P (h2.next+1),.I 0])).2).next=h2.next+3:=by simp
  obtain⟨h3,Hq⟩:∃x,x=(((((h2.alloc (.C [.I 0,.I 0])).2.set h2.next (.C [.I l,.I c])).alloc (.C [.Z,.Z,.Z,.Z,.I 0,.I 0])).2.alloc (.C [.S b ws.length,.I 0,.bool false,.P (h2.next+1),.I 0])).2):=⟨_,rfl⟩
  rw[<-Hq]at K3 Us gg3 n3⊢;clear Hq;have gp3:=(K3.old h.next om).trans g0;have KH:=KK.trans K3;obtain⟨I0,hI0⟩:∃x:RI,x=⟨h2.next+2,h2.next+1,b,ws,.Z,.Z,.Z,.Z⟩:=⟨_,rfl⟩
  have i1:I0.r=h2.next+2:=by rw[hI0]
  have i2:I0.g=h2.next+1:=by rw[hI0]
  have i3:I0.b=b:=by rw[hI0]
  have i4:I0.W=ws:=by rw[hI0]
  have p0:RP I0 ⟨0,false,0,0⟩ h3:=by
   rw[hI0];exact⟨Us,⟨0,gg3⟩,(K3.old b lb2).trans ar,sp,by simp only;omega,by simp only;omega,by simp only;omega,by simp only;omega,by simp only;omega,KH.fresh fr,bX _,ao _,sp,Bj⟩
  have ga0:GA I0 (h2.next+1) 0 0 h3:=by
   rw[hI0];exact⟨⟨0,[],.inl ⟨rfl,rfl,rfl⟩,rfl,ao _⟩,⟨0,[],.inl ⟨rfl,rfl,rfl⟩,rfl,ao _⟩,⟨[],.inl ⟨rfl,rfl,rfl⟩,rfl,ao _⟩,⟨0,[],.inl ⟨rfl,rfl,rfl⟩,rfl,ao _⟩,by simp[aK],by simp only;omega,by simp only;omega⟩
  obtain⟨J,hJ⟩:∃J:Nat->St->Prop,J=(fun m x=>∃I s5 n fn ez,m=s5.ms ws.length/\x.n=77/\x.ds=[]/\x.bI=false/\RP I s5 x.h/\GA I (h2.next+1) n fn x.h/\Tw I0 I/\(∀i,i<h2.next+1->x.h.get i=h3.get i)/\h3.next<=x.h.next/\
   (s5.bad=false->s5.dep=0/\n<=s5.k/\fn=J0 ez/\∀b,s5.dp<=b->∀l,qf b (ws.drop s5.k) l->qf b ws (ez++l))/\
   x.rg.get 0=some (.str s)/\x.rg.get 3=some (.P h.next)/\x.rg.get 5=some (.S b ws.length)/\x.rg.get 8=some (.P I.r)):=⟨_,rfl⟩
  refine bW J (RS.ms ⟨0,false,0,0⟩ ws.length) ?_ ?_
  ·rw[hJ];exact⟨I0,⟨0,false,0,0⟩,0,0,[],rfl,rfl,rfl,rfl,p0,ga0,⟨rfl,rfl,rfl,rfl⟩,fun _ _=>rfl,ao _,fun _=>⟨rfl,ao _,rfl,fun b _ l hl=>hl⟩,sp,sp,sp,by simp[i1]⟩
  clear p0 ga0;intro m st rC;have fI:=rC;rw[hJ]at fI;obtain⟨rg,n',H,ds,bI⟩:=st;obtain⟨I,s5,n,fn,ez,rfl,x1,x2,x3,p5,ga5,sm,Xn,nx5,F5,r0,r3,r5,r8⟩:=fI;clear rC;dsimp only at x1 x2 x3 p5 ga5 Xn nx5 r0 r3 r5 r8;subst x1 x2 x3;obtain⟨s1,s2,s3,s4⟩:=sm;have o5:=p5.obj;have kl5:=p5.kl;have fr5:=p5.fr;obtain⟨nd,pg5⟩:=p5.prog;rw[s3,i3,s4,i4]at o5;have ir:I.r=h2.next+2:=s1.trans i1;have ig:I.g=h2.next+1:=s2.trans i2;have irg:=p5.rg;have agu:I.g≠h.next:=by omega
  have ahD:I.r≠h.next:=by omega
  rw[s4,i4]at kl5;have gpH:=(Xn h.next om).trans gp3;have KHH:aS h H:=⟨by have:=KH.next;omega,fun i hi=>by rw[Xn i (by have:=KK.next;omega)];exact KH.old i hi,fun _=>fr5⟩
  have Ag:=p5.arr;rw[s3,i3,s4,i4]at Ag;simp;refine Dd ?_;cases wq:s5.bad with
  |true=>
   by_cases cX:s5.k<ws.length
   ·obtain⟨w,rs,hw5⟩:∃w rs,ws.drop s5.k=w::rs:=⟨_,_,ca cX⟩
    obtain⟨c0,c1,c2,d0,d3,l5,l3⟩:=xB hw5;simp[r0,r3,r5,r8,o5,wq,cX];refine Dd ?_;simp[r0,r3,r5,r8,o5,pg5,wq,cX,Ag,d3,l3,gpH];refine dm ?_;exact⟨_,_,_,4,rfl,kT,sp⟩
   ·simp[r0,r3,r5,r8,o5,wq,cX];refine Dd ?_;simp[r0,r3,r5,r8,o5,pg5,wq,cX];refine ae6 hs fun l2 c2 h6 k6=>?_;have gp6:=(k6.old h.next (by have:=KHH.next;have:=KH.next;simp;omega)).trans gpH;have or6:=(k6.old I.r (by have:=p5.rl;simp;omega)).trans (show((H.bump 17).bump 9).get I.r=_ from o5);have og6:=(k6.old I.g (by have:=p5.gl;simp;omega)).trans (show((H.bump 17).bump 9).get I.g=_ from pg5);simp[gp6,or6,og6,r3];refine dq (And.intro o5 (And.intro pg5 (And.intro gp6 (And.intro or6 (And.intro og6 r3))))) ?_;have agv:aS h h6:=(show aS h ((H.bump 17).bump 9)from kT).trans k6;have agw:h.next<h6.next:=by have:=k6.next;have:=KHH.next;have e:((H.bump 17).bump 9).next=H.next+17+9:=rfl;omega
    exact⟨_,_,_,4,rfl,aS.VG _ agv (ao _) agw,sp⟩
  |false=>
   obtain⟨F1,F2,F3,F4⟩:=F5 wq;by_cases cX:s5.k<ws.length
   ·simp[r0,r3,r5,r8,o5,wq,cX];have K1:=(aS.refl H).bump 17;have Xg:h2.next+1<=H.next:=om;refine abo (p5.aJ K1) (ga5.call fr5 (K1.x _)) om (by simp;omega) F1 wq fun I' s' Bz h' p' ga' sm' ya nx' kk' f'=>?_;obtain⟨t1,t2,t3,t4⟩:=sm';have kl':=p'.kl;rw[t4,s4,i4]at kl';have hns:s5.k<s'.k\/s'.bad=true:=by
     cases hz:s'.bad with
     |true=>exact .inr rfl
     |false=>have:=(f' hz).1;exact .inl om
    have hms:s'.ms ws.length<s5.ms ws.length:=by
     unfold RS.ms;rw[wq];cases hz:s'.bad with
     |true=>simp only[yE,cond_false];omega
     |false=>have:=(f' hz).1;simp only[cond_false];omega
    simp[r0,r3,r5,r8];rw[hJ];refine⟨s'.ms ws.length,hms,?_⟩;have sm2:Tw I0 I':=⟨t1.trans s1,t2.trans s2,t3.trans s3,t4.trans s4⟩
    have ae7:∀i,i<h2.next+1->h'.get i=h3.get i:=fun i hi=>(ya i hi).trans (Xn i hi);have yY:h3.next<=h'.next:=by have:(H.bump 17).next=H.next+17:=rfl;omega
    cases hz:s'.bad with
    |true=>
     exact⟨I',s',n+2,Bz,ez,rfl,rfl,rfl,rfl,p',ga',sm2,ae7,yY,by simp[hz],by simp[r0],by simp[r3],by simp[r5],by simp[r8,t1]⟩
    |false=>
     obtain⟨w1,w2,w3,it,w4,w5⟩:=f' hz;rw[s4,i4]at w5;exact⟨I',s',n+2,Bz,ez++[it],rfl,rfl,rfl,rfl,p',ga',sm2,ae7,yY,fun _=>⟨w2,om,by rw[Xm,w4,F3];simp[J0],fun b2 jJ=>MC (F4 b2 om) (w5 b2 jJ)⟩,by simp[r0],by simp[r3],by simp[r5],by simp[r8,t1]⟩
   ·simp[r0,r3,r5,r8,o5,wq,cX,pg5,gpH];obtain⟨c3,b3,_,_⟩:=ga5.a3;obtain⟨x,hx3⟩:∃x,I.l3= .slice x fn:=by
     rcases b3 with⟨u1,_,u3⟩|⟨bb,u1,_,_⟩
     ·exact⟨none,by rw[u3,u1]⟩
     ·exact⟨some (bb,0),u1⟩
    rw[hx3,F3]at pg5;refine⟨_,0,0,0,rfl,kT,fun _=>⟨I.g,ws,ez,s5.dp,I.l1,I.l2,I.l4,nd,x,rfl,?_,hx,fun b2 jJ=>?_⟩⟩
    ·rw[ah.aM,az agu];exact pg5
    ·have:=F4 b2 jJ [] (by rw[List.drop_eq_nil_of_le om];exact .done);rw[gZ]at this;exact this
 ·have Fc:(bad !=0)=true:=by simpa using yG
  simp[Fc];refine Dd ?_;simp[g0,jX,jX.symm];have y0:=jX.symm;refine dm ?_;exact⟨_,_,_,bad,rfl,kT,fun e=>absurd e yG⟩
end
section
attribute [local simp] aI
theorem PZ{s:List UInt8}{h:ah}(hs:¬s.length<=65536):aV env 12 [.str s] h (fun out h'=>∃sv l c bad,out= .ret (.iX [sv,.agg [.I l,.I c],.I bad])/\aS h h'/\bad≠0):=by
 refine wb fn12 rfl ?_;have rm:(0:Nat)<=roomy:=bX _;have qU:(65536:Int)<(s.length:Int):=om
 simp[f12,bh,rm,qU];exact⟨_,_,_,_,⟨rfl,⟨rfl,rfl⟩,rfl⟩,kT,dc⟩
def Few(s:List UInt8):Prop:=s.length<=65536/\∃ws ez,jM 1 1 s ws/\ws.length<=250/\qf 20 ws ez/\J0 ez<=8
theorem ab6(s:List UInt8)(h:ah)(fr:cM h):aV env 5 [.str s] h (fun out h'=>∃fb,out= .ret (.bool fb)/\aS h h'/\(fb=true->Few s)):=by
 refine wb fn5 rfl ?_;simp[f5];by_cases hs:s.length<=65536
 ·refine(Ou s _ fr).mono fun out h2 hq=>?_;obtain⟨sv,l,c,bad,rfl,K2,gJ⟩:=hq;have nK2:=K2.next;by_cases yG:bad=0
  ·subst yG;obtain⟨ws,b,hx,rfl,ar,lb1,lb2⟩:=gJ rfl;by_cases hw:ws.length<=250
   ·have hwI:¬(250:Int)<(ws.length:Int):=om;have UU:¬250<ws.length:=om;have K3:aS h2 ((h2.alloc (.C [.I 0,.I 0])).2.set h2.next (.C [.I l,.I c])):=kT;simp[hwI,UU];refine(TF hs ((K2.trans K3).fresh fr) (fun dh h'=>by rw[<-hx.uniq h'];exact hw)).mono fun out h4 hq=>?_;obtain⟨pv,l4,c4,ae8,rfl,K4,agx⟩:=hq;have KK:=(K2.trans K3).trans K4;have nKK:=KK.next;by_cases Qn:ae8=0
    ·subst Qn;obtain⟨g,eK,ez,dp,l1,l2,l4',nd,x,rfl,gg,uG,hI⟩:=agx rfl;have e:=hx.uniq uG;subst e;have Pb:g≠h4.next:=by
      intro e;rw[e,KK.fresh fr _ (ao _)]at gg;cases gg
     by_cases hd:dp<=20
     ·have hdI:(dp:Int)<=20:=om;by_cases hf:J0 ez<=8
      ·have hfI:(J0 ez:Int)<=8:=om;simp[Pb,Pb.symm,gg,hdI,hd,hfI,hf];exact⟨kT,hs,ws,ez,hx,hw,hI 20 hd,hf⟩
      ·have hfI:¬(J0 ez:Int)<=8:=om;simp[Pb,Pb.symm,gg,hdI,hd,hfI,hf];exact kT
     ·have hdI:¬(dp:Int)<=20:=om;simp[Pb,Pb.symm,gg,hdI,hd];exact kT
    ·have Fc:(ae8==0)=false:=(by simpa using Qn);simp[Fc];exact kT
   ·have hwI:(250:Int)<(ws.length:Int):=om;have UU:250<ws.length:=om;simp[hwI,UU];exact kT
  ·have Fc:(bad !=0)=true:=(by simpa using yG);simp[Fc];exact kT
 ·refine(PZ hs).mono fun out h2 hq=>?_;obtain⟨sv,l,c,bad,rfl,K2,yG⟩:=hq;have nK2:=K2.next;have Fc:(bad !=0)=true:=by simpa using yG
  simp[Fc];exact kT
end
end Go.Proofs.YtgebeldoibkkpaaGreatDoor
