/- Lemmas for CheckPlaces; each states its own conditions. -/
import Derived.Test.YtgebeldoibkkpaaGreatDoorI
set_option maxRecDepth 100000
set_option maxHeartbeats 0
set_option linter.unusedVariables false
set_option linter.unusedSimpArgs false
set_option linter.unusedSectionVars false
namespace Go.Proofs.YtgebeldoibkkpaaGreatDoor
open Go.Am Tryz
section
attribute [local simp] aI
def RS.ms(s:RS)(l:Nat):Nat:=2*(l-s.k)+cond s.bad 0 1
theorem FW{s s':RS}{l:Nat}(a:kc s s')(hb:s.bad=false)(hk:s'.bad=false->s.k<s'.k)(hl:s'.k<=l):s'.ms l<s.ms l:=by
 have:=a.k;unfold RS.ms;rw[hb];cases h:s'.bad with
 |true=>simp only[yE,cond_false];omega
 |false=>have:=hk h;simp only[cond_false];omega
def HH(b:Nat)(ws dh:List Wo)(l:List Ex):Prop:=(∃c,ws=c::dh/\ja c [41]/\l=[])\/∃c eK,ws=c::eK/\ja c [44]/\G .args b eK dh (.es l)
theorem HH.one{b:Nat}{ws cq dh:List Wo}{e:Ex}{l:List Ex}(he:G (.bin 0) b ws cq (.e e))(h:HH b cq dh l):G .args b ws dh (.es (e::l)):=by
 rcases h with⟨c,rfl,hc,rfl⟩|⟨c,eK,rfl,hc,hr⟩
 ·exact .yP he hc
 ·exact .L2 he hc hr
theorem D5(a b:List Ex):Qr (a++b)=Qr a++Qr b:=by simp[W6]
structure agm(I:RI)(s s5:RS)(ws0:List Wo)(qs:List (Nat×RN))(es:List Ex):Prop where
 dep:s5.dep=s.dep
 map:qs.map Prod.snd=Qr es
 nil:es=[]->I.W.drop s5.k=ws0
 cons:es≠[]->du ws0 [41]=false/\s.dep+1<=s5.dp/\∀b,s5.dp<=s.dep+1+b->∀dh l,HH b (I.W.drop s5.k) dh l->G .args b ws0 dh (.es (es++l))
theorem PX{n:Nat}(IH:∀n',n'<n->Mx n'):PS 210 [] .fw 0 0 1202 n:=by
 intro I s h X Q hn p xo hd hQ;refine wb fn210 rfl ?_;have wl:=p.Bj.len;have p0:=p;obtain⟨o,⟨nd,pg⟩,ar,rg,rb,gb,rl,gl,bl,fr,kl,dd,d2,ok⟩:=p;simp[f210];refine Dd ?_;have fail:∀h2,aS h h2->∀h3,h3=((h2.set I.r (.C [.S I.b I.W.length,.I s.k,.bool true,.P I.g,.I s.dep])).alloc (.C [.str [110,117,109],.str [],.str [],.I 0,.Z,.str [],.I 0])).2->∀id,Q (.ret (.P id)) h3:=by
  rintro h2 k2 h3 rfl id
  have kx:aQ I.X h2 (h2.set I.r (.C [.S I.b I.W.length,.I s.k,.bool true,.P I.g,.I s.dep])):=aQ.set _ (aQ.refl _ _) (.inl (by simp[RI.X])) (aw rl k2.next);have p2:=(p0.aJ k2).AG (s':={s with bad:=true}) kx sp ⟨nd,by rw[ah.aM,az rg.symm];exact(k2.old _ gl).trans pg⟩ kl dd d2;have k3:aS (h2.set I.r (.C [.S I.b I.W.length,.I s.k,.bool true,.P I.g,.I s.dep])) _:=(aS.refl _).alloc (.C [.str [110,117,109],.str [],.str [],.I 0,.Z,.str [],.I 0]);exact hQ id (.Cf (0,0)) _ _ (p2.aJ k3) (kc.of (ao _) rfl (ao _) sp) (by simp only;omega) sp ((k2.x _).trans (kx.trans (k3.x _)))
 cases hb:s.bad with
 |true=>
  simp[o,hb];exact fail (h.bump 16) kT _ rfl _
 |false=>
  cases hw:I.W.drop s.k with
  |nil=>
   have hl:=CC hw;have h1:(I.W.length:Int)<=(s.k:Int):=om;simp[o,hb,h1,hl];exact fail (h.bump 16) kT _ rfl _
  |cons w rs=>
   have hl:=fT hw;have qV:=mX hw;obtain⟨c0,c1,c2,d0,d3,l5,l3⟩:=xB hw;have h1:¬(I.W.length:Int)<=(s.k:Int):=om;have h2:¬I.W.length<=s.k:=om;simp[o,hb,h1,h2];refine Dd ?_;simp only[Wo.cells]at d0;have f26:=fr (h.next+26) om;simp[o,hb,hl,ar,d0,l5,f26];refine dm ?_;have KA:aS h ((((h.bump 16).bump 12).set (h.next+26) (.C [.I 0,.str [],.I 0,.I 0,.I 0])).set (h.next+26) (.C [.I w.kind,.str w.text,.I w.n,.I w.l,.I w.c])):=kT;have gA:((((h.bump 16).bump 12).set (h.next+26) (.C [.I 0,.str [],.I 0,.I 0,.I 0])).set (h.next+26) (.C [.I w.kind,.str w.text,.I w.n,.I w.l,.I w.c])).get (h.next+26)=some (.C [.I w.kind,.str w.text,.I w.n,.I w.l,.I w.c]):=sp;have nA:h.next+26<((((h.bump 16).bump 12).set (h.next+26) (.C [.I 0,.str [],.I 0,.I 0,.I 0])).set (h.next+26) (.C [.I w.kind,.str w.text,.I w.n,.I w.l,.I w.c])).next:=by simp
   generalize (((h.bump 16).bump 12).set (h.next+26) (.C [.I 0,.str [],.I 0,.I 0,.I 0])).set (h.next+26) (.C [.I w.kind,.str w.text,.I w.n,.I w.l,.I w.c])=hA at*;have pA:=p0.aJ KA;have xD:=pA.bl;have frA:=pA.fr;refine zh [110,117,109] (ok:=True) (X:=X) (h0:=hA) pA (aQ.refl _ _) (xo.le KA.next) fun iT h3 p3 k3 m3=>?_;have g3:=(k3.old (h.next+26) nA (by simp[RI.X];omega)).trans gA;have gT:=m3.get;simp only[ND.obj]at gT;generalize h.next+26=wI at*;have done:∀(e:Ex)(s':RS)(h':ah)(d:ND),RP I s' h'->kc s s'->NM I X hA iT (s'.bad=false) d h'->(s'.bad=false->s.k<s'.k/\(∀b,s'.dp<=s.dep+b->G .fw b (I.W.drop s.k) (I.W.drop s'.k) (.e e))/\d.op=e.rn.op/\d.nm=e.rn.nm/\d.ty=e.rn.ty/\d.n=e.rn.n/\d.qs.map Prod.snd=e.rn.ks)->Q (.ret (.P iT)) h':=fun e s' h' d p' a' m' f'=>
    hQ iT e s' h' p' a' (by have:=p'.dd;have:=a'.lo;omega) (fun hz=>by
     obtain⟨q1,q2,q3,q4,q5,q6,q7⟩:=f' hz;exact⟨q1,fun b jJ=>q2 b om,m'.done hz _ q3 q4 q5 q6 q7⟩) ((KA.x _).trans m'.kx)
   rw[hw]at done;have m3w:∀P:Prop,NM I X hA iT P ⟨[110,117,109],[],[],0,.Z,[]⟩ h3:=fun P=>m3.nW fun _=>trivial;cases Cj:(w.kind==2)with
   |true=>
    have uC:w.kind=2:=(by simpa using Cj);simp[g3,Cj];refine J5 p3 fun v s4 h4 p4 a4 tJ d4 hv f4 k4=>?_;have m4:=(m3w (s4.bad=false)).call p3.fr k4;have g4:=m4.get;simp only[ND.obj]at g4;simp[g4];obtain⟨h5,e5,m5,p5⟩:=m4.put p4 xD ⟨[110,117,109],[],[],v,.Z,[]⟩ rfl rfl;simp only[ND.obj]at e5;rw[e5];refine done (.num w.at v) s4 h5 _ p5 a4 m5 fun hz=>?_;obtain⟨w',rs',q1,q2,q3,q4,q5⟩:=f4 hz;rw[hw]at q1;cases q1;exact⟨om,fun b _=>by rw[q4,q3];exact .num uC,rfl,rfl,rfl,rfl,rfl⟩
   |false=>
   cases Bv:(w.kind==1)with
   |true=>
    have uC:w.kind=1:=(by simpa using Bv);simp[g3,Cj,Bv,gT];obtain⟨h4,e4,m4,p4⟩:=m3.put p3 xD ⟨[110,97,109,101],[],[],0,.Z,[]⟩ rfl rfl;simp only[ND.obj]at e4;rw[e4];refine xC p4 fun nm s5 h5 p5 a5 k5' d5 YR f5 k5=>?_;have m5:=m4.call p4.fr k5;have g5:=m5.get;simp only[ND.obj]at g5;simp[g5];obtain⟨h6,e6,m6,p6⟩:=m5.put p5 xD ⟨[110,97,109,101],nm,[],0,.Z,[]⟩ rfl rfl;simp only[ND.obj]at e6;rw[e6];refine iL p6 (fun hs h7 p7 k7=>?_) fun hs h7 p7 k7=>?_
    ·obtain⟨wq,c,KN,Sy,hc,NV⟩:=fV hs;obtain⟨w',rs',q1,q2,q3,q4,q5⟩:=f5 wq;have hlc:=fT Sy;rw[hw]at q1;cases q1;subst q3;have m7:=m6.call p6.fr k7;have g7:=m7.get;simp only[ND.obj]at g7;simp[g7];obtain⟨h8,e8,m8,p8⟩:=m7.put p7 xD ⟨[99,97,108,108],w.text,[],0,.Z,[]⟩ rfl rfl;simp only[ND.obj]at e8;rw[e8];have a8:kc s {s5 with k:=s5.k+1}:=a5.trans (kc.of (cR _) rfl (ao _) id);obtain⟨J,hJ⟩:∃J:Nat->St->Prop,J=(fun m x=>∃s5 av qs es,m=s5.ms I.W.length/\x.n=141/\x.ds=[]/\x.bI=false/\RP I s5 x.h/\NM I X hA iT (s5.bad=false) ⟨[99,97,108,108],w.text,[],0,av,qs⟩ x.h/\kc s s5/\(s5.bad=false->qs.length<=s5.k)/\s.k+1<s5.k/\(s5.bad=false->agm I s s5 KN qs es)/\
      x.rg.get 0=some (.P I.r)/\x.rg.get 4=some (.P iT)):=⟨_,rfl⟩
     refine bW J (RS.ms {s5 with k:=s5.k+1} I.W.length) ?_ ?_
     ·rw[hJ];exact⟨{s5 with k:=s5.k+1},.Z,[],[],rfl,rfl,rfl,rfl,p8,m8.nW (fun _=>trivial),a8,fun _=>sp,by simp only;omega,fun _=>⟨a5.dep wq,rfl,fun _=>NV,fun h=>(h rfl).elim⟩,sp,sp⟩
     clear e8 m8 p8 g7 m7 p7 k7 e6 m6 p6 g5 m5 p5 k5 e4 m4 p4 gT g3 m3 p3 k3 m3w;intro m st rC;have fI:=rC;rw[hJ]at fI;obtain⟨rg,n',H,ds,bI⟩:=st;obtain⟨s6,av,qs,es,rfl,e1,e2,e3,p6,m6,a6,Xd,hk6,f6,r0,r4⟩:=fI;dsimp only at e1 e2 e3 p6 m6 r0 r4;subst e1 e2 e3;have o6:=p6.obj;have kl6:=p6.kl;have g6:=m6.get;simp only[ND.obj]at g6;obtain⟨ab,rQ⟩:∃ab,av= .slice ab qs.length:=by
      rcases m6.arr with⟨h1,h2⟩|⟨b,h1,_,_⟩
      ·simp only at h1 h2;subst h1;exact⟨none,h2⟩
      ·exact⟨some (b,0),h1⟩
     cases zt:s6.bad with
     |true=>
      simp[r0,r4,o6,zt];exact done (.Cf (0,0)) s6 H _ p6 a6 m6 (fun hz=>by rw[zt]at hz;cases hz)
     |false=>
      have F6:=f6 zt;simp[r0,r4,o6,zt];refine iL p6 (fun hs h7 p7 k7=>?_) fun hs h7 p7 k7=>?_
      ·obtain⟨_,c2,rs3,hw3,zp,hd3⟩:=fV hs;have m7:=m6.call p6.fr k7;simp[r0,r4];refine done (.call w.at w.text es) {s6 with k:=s6.k+1} h7 _ p7 (a6.trans (kc.of (cR _) rfl (ao _) id)) m7 fun hz=>⟨by simp only;omega,fun b jJ=>?_,rfl,rfl,rfl,rfl,F6.map⟩
       simp only at jJ⊢;rw[hd3];rw[q4]at Sy;rw[Sy];cases wC:es with
       |nil=>
        have:=F6.nil wC;rw[hw3]at this;rw[<-this];exact .FD uC hc zp
       |cons e1 es1=>
        obtain⟨u1,u2,u3⟩:=F6.cons (by rw[wC];simp);obtain⟨b',rfl⟩:∃b',b=b'+1:=⟨b-1,om⟩
        have:=u3 b' om rs3 [] (.inl ⟨c2,hw3,zp,rfl⟩);rw[gZ,wC]at this;exact .call uC hc u1 this
      ·have m7:=m6.aJ p6.fr k7;have g7:=m7.get;simp only[ND.obj]at g7;have Qs:=iK hs zt;rcases Nat.eq_zero_or_pos qs.length with hq0|hq0
       ·have hqn:qs=[]:=cw hq0;rw[hq0]at rQ;simp[r0,r4,g7,rQ];have wC:es=[]:=by
         have:=F6.map;rw[hqn]at this;cases es with
         |nil=>rfl
         |cons e1 es1=>simp[Qr]at this
        have p9:=p7;have m9:=m7;have a9:=kc.refl s6;have d9:s6.dp=s6.dp:=rfl;have hcm:s6.bad=false->(es=[]/\I.W.drop s6.k=KN)\/(es≠[]/\∃c,I.W.drop s6.k=c::I.W.drop s6.k/\ja c [44]):=fun _=> .inl ⟨wC,F6.nil wC⟩;have g9:=m9.get;simp only[ND.obj]at g9;refine Dd ?_;simp[-aO,r0,r4,g9];refine dm ?_;have KB:=(aS.refl h7).bump 12;have mb:=m9.aJ p9.fr KB;have pb:=p9.aJ KB;have fj:=p9.fr (h7.next+7) om;have Cn:=m9.kx.next;have a9k:=a9.k;have a9l:=a9.lo;have a9p:=a9.xA;have a9d:=a9.dp;have kl9:=p9.kl;have a6p:=a6.xA;have a6k:=a6.k;have F6d:=F6.dep;have Bj:=p9.Bj.len;refine(IH (I.W.length-s6.k) om).ex I s6 _ _ _ rfl pb mb.pQ om fun id t sA hA2 pA2 aA lA fA kA=>?_;have mA:=mb.call pb.fr kA;have gA9:=mA.get;simp only[ND.obj]at gA9;have oj:=kA.old (h7.next+7) sp (by have:=p9.rl;have:=p9.gl;simp[RI.X];omega);have nA:=kA.next;have kAk:=aA.k;have klA:=pA2.kl;simp[fj]at oj nA;simp[-aO];refine dm ?_;simp[-aO,oj];obtain⟨H7,j8,qQ,tX,mC,pC⟩:=mA.push pA2 xD (tw:=sA.bad=false) (fun o=>a9.bad (aA.bad o)) (fun o=>(fA o).2.2) oj om om (by have:=Xd zt;simp only;omega);simp only[ND.obj]at j8 qQ mC pC;rw[j8];simp[-aO,r0,r4,qQ];refine dm ?_;rw[hJ];refine⟨sA.ms I.W.length,FW (a9.trans aA) zt (fun hz=>by have:=(fA hz).1;omega) klA,sA,_,_,es++[t],rfl,rfl,rfl,rfl,pC,mC,a6.trans (a9.trans aA),fun hz=>by have:=Xd zt;have:=(fA hz).1;simp;omega,om,fun hz=>?_,by simp[r0],by simp[r4]⟩;have Tr:=aA.bad hz;obtain⟨v1,v2,v3⟩:=fA hz;have dA:=aA.dep hz;have aAd:=aA.dp;have d9':=a9.dep Tr;refine⟨om,by simp[F6.map,D5,Qr],fun h=>by simp at h,fun _=>?_⟩;rcases hcm Tr with⟨w1,w2⟩|⟨w1,cc,w2,w3⟩
        ·have B5:=F6.nil w1;rw[B5]at Qs;refine⟨Qs,om,fun b jJ dh l hT=>?_⟩;have:=hT.one (v2 b om);rw[w2]at this;rw[w1];exact this
        ·obtain⟨x1,x2,x3⟩:=F6.cons w1;refine⟨x1,om,fun b jJ dh l hT=>?_⟩;have:=x3 b om dh (t::l) (.inr ⟨cc,_,w2,w3,hT.one (v2 b om)⟩);rw[cj];exact this
       ·have hq1:(0:Int)<(qs.length:Int):=om;simp[r0,r4,g7,rQ,hq1,show 0<qs.length from hq0];refine iB p7 fun s9 h9 p9 a9 k9' d9 f9 k9=>?_;simp[r0,r4];have wC:es≠[]:=by
         intro e;have:=wz List.length F6.map;rw[e]at this;simp[Qr]at this;rw[this]at hq0;simp at hq0
        have m9:=m7.call p7.fr k9;have hcm:s9.bad=false->(es=[]/\I.W.drop s9.k=KN)\/(es≠[]/\∃c,I.W.drop s6.k=c::I.W.drop s9.k/\ja c [44]):=fun hz=>by
         obtain⟨c3,rs4,v1,v2,v3,v4⟩:=f9 hz;exact .inr ⟨wC,c3,by rw[v1,v3],v2⟩
        have g9:=m9.get;simp only[ND.obj]at g9;refine Dd ?_;simp[-aO,r0,r4,g9];refine dm ?_;have KB:=(aS.refl h9).bump 12;have mb:=m9.aJ p9.fr KB;have pb:=p9.aJ KB;have fj:=p9.fr (h9.next+7) om;have Cn:=m9.kx.next;have a9k:=a9.k;have a9l:=a9.lo;have a9p:=a9.xA;have a9d:=a9.dp;have kl9:=p9.kl;have a6p:=a6.xA;have a6k:=a6.k;have F6d:=F6.dep;have Bj:=p9.Bj.len;refine(IH (I.W.length-s9.k) om).ex I s9 _ _ _ rfl pb mb.pQ om fun id t sA hA2 pA2 aA lA fA kA=>?_;have mA:=mb.call pb.fr kA;have gA9:=mA.get;simp only[ND.obj]at gA9;have oj:=kA.old (h9.next+7) sp (by have:=p9.rl;have:=p9.gl;simp[RI.X];omega);have nA:=kA.next;have kAk:=aA.k;have klA:=pA2.kl;simp[fj]at oj nA;simp[-aO];refine dm ?_;simp[-aO,oj];obtain⟨H7,j8,qQ,tX,mC,pC⟩:=mA.push pA2 xD (tw:=sA.bad=false) (fun o=>a9.bad (aA.bad o)) (fun o=>(fA o).2.2) oj om om (by have:=Xd zt;simp only;omega);simp only[ND.obj]at j8 qQ mC pC;rw[j8];simp[-aO,r0,r4,qQ];refine dm ?_;rw[hJ];refine⟨sA.ms I.W.length,FW (a9.trans aA) zt (fun hz=>by have:=(fA hz).1;omega) klA,sA,_,_,es++[t],rfl,rfl,rfl,rfl,pC,mC,a6.trans (a9.trans aA),fun hz=>by have:=Xd zt;have:=(fA hz).1;simp;omega,om,fun hz=>?_,by simp[r0],by simp[r4]⟩;have Tr:=aA.bad hz;obtain⟨v1,v2,v3⟩:=fA hz;have dA:=aA.dep hz;have aAd:=aA.dp;have d9':=a9.dep Tr;refine⟨om,by simp[F6.map,D5,Qr],fun h=>by simp at h,fun _=>?_⟩;rcases hcm Tr with⟨w1,w2⟩|⟨w1,cc,w2,w3⟩
        ·have B5:=F6.nil w1;rw[B5]at Qs;refine⟨Qs,om,fun b jJ dh l hT=>?_⟩;have:=hT.one (v2 b om);rw[w2]at this;rw[w1];exact this
        ·obtain⟨x1,x2,x3⟩:=F6.cons w1;refine⟨x1,om,fun b jJ dh l hT=>?_⟩;have:=x3 b om dh (t::l) (.inr ⟨cc,_,w2,w3,hT.one (v2 b om)⟩);rw[cj];exact this
    ·have m7:=m6.aJ p6.fr k7;simp;refine done (.var w.at nm) s5 h7 _ p7 a5 (m7.nW fun _=>trivial) fun hz=>?_;obtain⟨w',rs',q1,q2,q3,q4,q5⟩:=f5 hz;rw[hw]at q1;cases q1;have:=iK hs hz;rw[q4]at this;exact⟨om,fun b _=>by rw[q4,q3];exact .var uC this,rfl,rfl,rfl,rfl,rfl⟩
   |false=>
    have Lg:w.kind≠1:=(by simpa using Bv);have Ca:w.kind≠2:=(by simpa using Cj);simp[g3,Cj,Bv];refine iL p3 (fun hs h4 p4 k4=>?_) fun Gv h4 p4 k4=>?_
    ·obtain⟨_,w',rs',HV,hk,_⟩:=fV hs;rw[hw]at HV;cases HV;obtain⟨nd4,pg4⟩:=p4.prog;have o4:=p4.obj;simp[o4,pg4,rg,rg.symm];have KJ:aQ I.X h4 (h4.set I.g (.C [I.l1,I.l2,I.l3,I.l4,.I (IntKind.wrap .i64 (nd4-1)),.I s.dp])):=aQ.set _ (aQ.refl _ _) (.inl (by simp[RI.X])) p4.gl;have p5:=p4.AG (s':={s with k:=s.k+1}) KJ (by rw[ah.aM,az rg];exact o4) ⟨_,by rw[ah.aM,aW rfl]⟩ p4.kl p4.dd p4.d2;generalize h4.set I.g (.C [I.l1,I.l2,I.l3,I.l4,.I (IntKind.wrap .i64 (nd4-1)),.I s.dp])=h5 at*;have kX5:=(KA.x I.X).trans (k3.trans (k4.trans KJ));refine(IH (I.W.length-(s.k+1)) om).ex I {s with k:=s.k+1} h5 X _ rfl p5 (xo.le kX5.next) (by simp only;omega) fun id t s6 h6 p6 a6 l6 f6 k6=>?_;simp;refine iB p6 fun s7 h7 p7 a7 k7' d7 f7 k7=>?_;simp;have a6k:=a6.k;have a6l:=a6.lo;have a6p:=a6.xA;have a6d:=a6.dp;have a7k:=a7.k;have a7l:=a7.lo;have a7p:=a7.xA;simp only at a6k a6l a6p a6d l6;refine hQ id t s7 h7 p7 ⟨om,om,fun _=>hb,om,om,fun hz=>by have h1:=a7.dep hz;have h2:=a6.dep (a7.bad hz);simp only at h2;omega⟩ om (fun hz=>?_) (kX5.trans (k6.trans k7));obtain⟨c,KN,c1,c2,c3,c4⟩:=f7 hz;obtain⟨q1,q2,q3⟩:=f6 (a7.bad hz);refine⟨om,fun b jJ=>?_,q3.move (Move.rx p6.fr ((xo.le kX5.next).le k6.next) k7)⟩;obtain⟨b',rfl⟩:∃b',b=b'+1:=⟨b-1,om⟩
     have:=q2 b' (by simp only;omega);simp only at this;rw[qV,c1]at this;rw[c3,hw];exact .paren hk this c2
    ·have m4:=(m3w True).aJ p3.fr k4;simp;refine iL p4 (fun hs h5 p5 k5=>?_) fun uZ h5 p5 k5=>?_
     ·obtain⟨_,w',rs',HV,hk,_⟩:=fV hs;rw[hw]at HV;cases HV;have m5:=m4.call p4.fr k5;have g5:=m5.get;simp only[ND.obj]at g5;simp[g5];obtain⟨h6,e6,m6,p6⟩:=m5.put p5 xD ⟨[105,110],[],[],0,.Z,[]⟩ rfl rfl;simp only[ND.obj]at e6;rw[e6];refine iB p6 fun s7 h7 p7 a7 k7' d7 f7 k7=>?_;simp;refine iB p7 fun s8 h8 p8 a8 k8' d8 f8 k8=>?_;simp;have m8:=(m6.call p6.fr k7).call p7.fr k8;have A:=kc.trans (kc.of (s:=s) (s':={s with k:=s.k+1}) (cR _) rfl (ao _) id) (a7.trans a8);refine done (.Cf w.at) s8 h8 _ p8 A (m8.nW fun _=>trivial) fun hz=>?_;obtain⟨c,KN,c1,c2,c3,c4⟩:=f8 hz;obtain⟨c',rs3,c5,c6,c7,c8⟩:=f7 (a8.bad hz);simp only at c5 c8;rw[qV]at c5;rw[c7]at c1;refine⟨om,fun b _=>by rw[c5,c1,c3];exact .Cf hk c6 c2,rfl,rfl,rfl,rfl,rfl⟩
     ·have m5:=m4.aJ p4.fr k5;simp;refine iL p5 (fun hs h6 p6 k6=>?_) fun hs3 h6 p6 k6=>?_
      ·obtain⟨_,w',rs',HV,hk,_⟩:=fV hs;rw[hw]at HV;cases HV;have m6:=m5.call p5.fr k6;have g6:=m6.get;simp only[ND.obj]at g6;simp[g6];obtain⟨h7,e7,m7,p7⟩:=m6.put p6 xD ⟨[115,105,122,101,111,102],[],[],0,.Z,[]⟩ rfl rfl;simp only[ND.obj]at e7;rw[e7];refine iB p7 fun s8 h8 p8 a8 k8' d8 f8 k8=>?_;simp;refine FV p8 fun ty s9 h9 p9 a9 d9 l9 f9 k9=>?_;simp;refine CD ty om p9 fun ty2 sA hA2 pA2 aA dA lA fA kA=>?_;have m9:=((m7.call p7.fr k8).call p8.fr k9).call p9.fr kA;have g9:=m9.get;simp only[ND.obj]at g9;simp[g9];obtain⟨hB,eB,mB,pB⟩:=m9.put pA2 xD ⟨[115,105,122,101,111,102],[],ty2,0,.Z,[]⟩ rfl rfl;simp only[ND.obj]at eB;rw[eB];refine iB pB fun sC hC pC aC kC' dC fC kC=>?_;simp;have mC:=mB.call pB.fr kC;have A:=kc.trans (kc.of (s:=s) (s':={s with k:=s.k+1}) (cR _) rfl (ao _) id) (a8.trans (a9.trans (aA.trans aC)));refine done (.size w.at ty2) sC hC _ pC A (mC.nW fun _=>trivial) fun hz=>?_;obtain⟨c,KN,c1,c2,c3,c4⟩:=fC hz;have hA:=fA (aC.bad hz);have h9':=f9 (aA.bad (aC.bad hz));obtain⟨c',rs3,c5,c6,c7,c8⟩:=f8 (a9.bad (aA.bad (aC.bad hz)));have u1:=a9.k;have u2:=aA.k;simp only at c5 c8;rw[qV]at c5;rw[c7]at h9';rw[c1]at hA;refine⟨om,fun b _=>by rw[c5,c3];exact .size hk c6 h9' hA c2,rfl,rfl,rfl,rfl,rfl⟩
      ·have m6:=m5.aJ p5.fr k6;have o6:=p6.obj;obtain⟨nd6,pg6⟩:=p6.prog;simp[o6];have BW:aQ I.X h6 (h6.set I.r (.C [.S I.b I.W.length,.I s.k,.bool true,.P I.g,.I s.dep])):=aQ.set _ (aQ.refl _ _) (.inl (by simp[RI.X])) p6.rl;have p7:=p6.AG (s':={s with bad:=true}) BW sp ⟨nd6,by rw[ah.aM,az rg.symm];exact pg6⟩ kl dd d2;have m7:=m6.call p6.fr BW;exact done (.Cf (0,0)) {s with bad:=true} _ _ p7 (kc.of (ao _) rfl (ao _) sp) (m7.nW fun _=>trivial) sp
end
section
attribute [local simp] aI
theorem kc.up{s sA:RS}(A:kc ⟨s.k,s.bad,s.dep+1,max s.dp (s.dep+1)⟩ sA):kc s ⟨sA.k,sA.bad,sA.dep-1,sA.dp⟩/\s.dep+1<=sA.dp/\1<=sA.dep:=by
 obtain⟨h1,h2,h3,h4,h5,h6⟩:=A;simp only at h1 h2 h3 h4 h5 h6;exact⟨⟨h1,by simp only;omega,h3,by simp only;omega,by simp only;omega,fun hz=>by have:=h6 hz;simp only;omega⟩,om,om⟩
theorem Aw{W:List Wo}{k:Nat}{w:Wo}{rs:List Wo}(h:W.drop k=w::rs):Pk (W.drop k)=w.at:=by rw[h];rfl
theorem EW{n:Nat}(IH:∀n',n'<n->Mx n'):SSp 96 .dec 1 1200 n:=by
 intro I s h X Q hn p xo hd hQ;refine wb fn96 rfl ?_;have wl:=p.Bj.len;simp[f96];refine vE p om fun h1 p1 k1=>?_;simp;refine zh [100,101,99,108] (ok:=True) (X:=X) (h0:=h1) p1 (aQ.refl _ _) (xo.le k1.next) fun iT h2 p2 k2 m2=>?_;have xD:=p1.bl;simp;refine FV p2 fun ty s3 h3 p3 a3 d3 l3 f3 k3=>?_;have m3:=m2.call p2.fr k3;have g3:=m3.get;simp only[ND.obj]at g3;simp[g3];obtain⟨h4,e4,m4,p4⟩:=m3.put p3 xD ⟨[100,101,99,108],[],ty,0,.Z,[]⟩ rfl rfl;simp only[ND.obj]at e4;rw[e4];refine xC p4 fun nm s5 h5 p5 a5 k5' d5 l5 f5 k5=>?_;have m5:=m4.call p4.fr k5;have g5:=m5.get;simp only[ND.obj]at g5;simp[g5];obtain⟨h6,e6,m6,p6⟩:=m5.put p5 xD ⟨[100,101,99,108],nm,ty,0,.Z,[]⟩ rfl rfl;simp only[ND.obj]at e6;rw[e6];have A5:=a3.trans a5;obtain⟨_,u5,v5⟩:=A5.up;have w5:=A5.xA;have x5:=A5.lo;have y5:=A5.k;have z5:=A5.dp;simp only at w5 x5 y5 z5;refine Av p6 fun h7 p7 k7=>?_;have m7:=m6.aJ p6.fr k7;cases hs:pH I s5 [91]with
 |true=>
  have g7:=m7.get;simp only[ND.obj]at g7;simp[g7];refine CD ty om p7 fun ty2 s8 h8 p8 a8 d8 l8 f8 k8=>?_;have m8:=m7.call p7.fr k8;have g8:=m8.get;simp only[ND.obj]at g8;simp[g8];obtain⟨h9,e9,m9,p9⟩:=m8.put p8 xD ⟨[100,101,99,108],nm,ty2,0,.Z,[]⟩ rfl rfl;simp only[ND.obj]at e9;rw[e9];refine iB p9 fun sA hA pA aA kA' dA fA kA=>?_;have mA:=m9.call p9.fr kA;simp;have A:=A5.trans (a8.trans aA);obtain⟨Au,ud,dd1⟩:=A.up;refine EV pA (d:=sA.dep-1) om fun hB pB kB=>?_;simp;refine hQ iT (.decl (Pk (I.W.drop s3.k)) ty2 nm none) _ hB pB Au ud (fun hz=>?_) (k1.trans (mA.kx.trans kB));simp only at hz;obtain⟨c,KN,c1,c2,c3,c4⟩:=fA hz;have h8':=f8 (aA.bad hz);obtain⟨w,rs,n1,n2,n3,n4,n5⟩:=f5 (a8.bad (aA.bad hz));have Qt:=f3 (a5.bad (a8.bad (aA.bad hz)));have EI:=Qt.kj;obtain⟨_,q,rq,hq,hqk,_⟩:=fV hs;simp only[bU]at EI;have:=a8.k;refine⟨by simp only;omega,fun b jJ=>?_,(mA.done trivial (.mk [100,101,99,108] nm ty2 0 []) rfl rfl rfl rfl rfl).move (Move.rx pA.fr (xo.le (k1.trans mA.kx).next) kB)⟩;simp only;rw[Aw n1,c3,n3];rw[n1]at Qt;rw[<-n4]at Qt;rw[c1]at h8';exact .EM Qt n2 (by rw[hq,hqk.du];decide) h8' c2
 |false=>
  simp;refine iL p7 (fun uZ h8 p8 k8=>?_) fun uZ h8 p8 k8=>?_
  ·have m8:=(m7.call p7.fr k8).nW (tw:=s5.bad=false) (fun _=>trivial);obtain⟨wq,q,rs1,hw,hk,qV⟩:=fV uZ;have hlq:=fT hw;simp;have gP9:=m8.get;simp only[ND.obj]at gP9;refine Dd ?_;simp[-aO,gP9];refine dm ?_;have KB:=(aS.refl h8).bump 12;have mb:=m8.aJ p8.fr KB;have pb:=p8.aJ KB;have fj:=p8.fr (h8.next+7) om;have Cn:=m8.kx.next;refine(IH (I.W.length-(s5.k+1)) om).ex I ⟨s5.k+1,s5.bad,s5.dep,s5.dp⟩ _ _ _ rfl pb mb.pQ (by simp only;omega) fun id9 t9 s9 h9 pz9 a9 l9 f9 kz9=>?_;have mA:=mb.call pb.fr kz9;have gA:=mA.get;simp only[ND.obj]at gA;have oj:=kz9.old (h8.next+7) sp (by have:=p8.rl;have:=p8.gl;simp[RI.X];omega);have nA:=kz9.next;simp[fj]at oj nA;simp[-aO];refine dm ?_;simp[-aO,oj];obtain⟨H9,j8,qQ,tX,m9,p9⟩:=mA.push pz9 xD (tw:=s9.bad=false) (fun o=>a9.bad o) (fun o=>(f9 o).2.2) oj om om sp;simp only[ND.obj,bz,cd,ai,bZ,eY,Nat.reduceAdd]at j8 qQ m9 p9;rw[j8];simp[-aO,qQ];refine dm ?_;clear KB mb pb fj Cn mA gA oj nA j8 qQ tX kz9 pz9 gP9;refine iB p9 fun sA hA pA aA kA' dA fA kA=>?_;have mA:=m9.call p9.fr kA;simp;have A:=A5.trans (kc.trans (kc.of (s':=⟨s5.k+1,s5.bad,s5.dep,s5.dp⟩) (cR _) rfl (ao _) id) (a9.trans aA));obtain⟨Au,ud,dd1⟩:=A.up;refine EV pA (d:=sA.dep-1) om fun hB pB kB=>?_;simp;refine hQ iT (.decl (Pk (I.W.drop s3.k)) ty nm (some t9)) _ hB pB Au ud (fun hz=>?_) (k1.trans (mA.kx.trans kB));simp only at hz;obtain⟨c,KN,c1,c2,c3,c4⟩:=fA hz;obtain⟨q1,q2,q3⟩:=f9 (aA.bad hz);obtain⟨w,rs,n1,n2,n3,n4,n5⟩:=f5 wq;have Qt:=f3 (a5.bad wq);have EI:=Qt.kj;simp only[bU]at EI;have e1:=A5.dep wq;have ak:=aA.k;have aD:=aA.dp;simp only at e1 q1;refine⟨by simp only;omega,fun b jJ=>?_,(mA.done (aA.bad hz) (.mk [100,101,99,108] nm ty 0 [t9.rn]) rfl rfl rfl rfl rfl).move (Move.rx pA.fr (xo.le (k1.trans mA.kx).next) kB)⟩;simp only at jJ⊢;simp only at l9;obtain⟨b',rfl⟩:∃b',b=b'+1:=⟨b-1,om⟩
   have hE:=q2 b' (by simp only;omega);simp only at hE;rw[Aw n1,c3,n3];rw[n1,<-n4,hw]at Qt;rw[qV,c1]at hE;exact .Hm Qt n2 hk hE c2
  ·have m8:=m7.aJ p7.fr k8;simp;refine iB p8 fun sA hA pA aA kA' dA fA kA=>?_;have mA:=m8.call p8.fr kA;simp;have A:=A5.trans aA;obtain⟨Au,ud,dd1⟩:=A.up;refine EV pA (d:=sA.dep-1) om fun hB pB kB=>?_;simp;refine hQ iT (.decl (Pk (I.W.drop s3.k)) ty nm none) _ hB pB Au ud (fun hz=>?_) (k1.trans (mA.kx.trans kB));simp only at hz;obtain⟨c,KN,c1,c2,c3,c4⟩:=fA hz;have wq:=aA.bad hz;obtain⟨w,rs,n1,n2,n3,n4,n5⟩:=f5 wq;have Qt:=f3 (a5.bad wq);have EI:=Qt.kj;simp only[bU]at EI;refine⟨by simp only;omega,fun b jJ=>?_,(mA.done trivial (.mk [100,101,99,108] nm ty 0 []) rfl rfl rfl rfl rfl).move (Move.rx pA.fr (xo.le (k1.trans mA.kx).next) kB)⟩;simp only;have Lg:=iK hs wq;have Ca:=iK uZ wq;rw[Aw n1,c3,n3];rw[n1,<-n4]at Qt;exact .EM Qt n2 Ca (c1▸ .none Lg) c2
end
section
attribute [local simp] aI
def PLp(n:Nat):Prop:=
 ∀(I:RI)(s:RS)(h:ah)(X:List Nat)(Q:Out->ah->Prop),I.W.length-s.k=n->RP I s h->XO I X h->s.dep+4*n<=1201->
  (∀id t s' h',RP I s' h'->kc s s'->(s'.bad=false->s.k<s'.k/\(∀b,s'.dp<=s.dep+b->G .yi (b+1) (I.W.drop s.k) (I.W.drop s'.k) (.s t))/\tO X h' id t.rn)->aQ I.X h h'->Q (.ret (.P id)) h')->
  aV env 71 [.P I.r] h Q
theorem J7{n:Nat}(hp:PLp n):SSp 45 .yi 1 1200 n:=by
 intro I s h X Q hn p xo hd hQ;refine wb fn45 rfl ?_;simp[f45];refine vE p om fun h1 p1 k1=>?_;simp;refine hp I ⟨s.k,s.bad,s.dep+1,max s.dp (s.dep+1)⟩ h1 X _ hn p1 (xo.le k1.next) (by simp only;omega) fun id t s2 h2 p2 a2 f2 k2=>?_;obtain⟨Au,ud,dd1⟩:=a2.up;simp;refine EV p2 (d:=s2.dep-1) om fun h3 p3 k3=>?_;simp;refine hQ id t _ h3 p3 Au ud (fun hz=>?_) (k1.trans (k2.trans k3));obtain⟨q1,q2,q3⟩:=f2 hz;refine⟨q1,fun b jJ=>?_,q3.move (Move.rx p2.fr ((xo.le k1.next).le k2.next) k3)⟩;simp only at jJ;obtain⟨b',rfl⟩:∃b',b=b'+1:=⟨b-1,om⟩
 exact q2 b' (by simp only;omega)
structure agn(I:RI)(s s5:RS)(ws0:List Wo)(qs:List (Nat×RN))(ss:List Sm):Prop where
 dep:s5.dep=s.dep
 map:qs.map Prod.snd=UG ss
 cont:∀b,s5.dp<=s.dep+b->∀dh l,G .Uy b (I.W.drop s5.k) dh (.ss l)->G .Uy b ws0 dh (.ss (ss++l))
theorem D6(a b:List Sm):UG (a++b)=UG a++UG b:=by simp[W7]
theorem FX{I:RI}{s:RS}(hb:s.bad=false)(h1:pH I s [123]=false)(h2:pH I s [59]=false)(h3:pH I s [105,102]=false)(h4:pH I s [119,104,105,108,101]=false)(h5:pH I s [98,114,101,97,107]=false)(h6:pH I s [99,111,110,116,105,110,117,101]=false)(h7:pH I s [114,101,116,117,114,110]=false)(h8:pH I s [111,117,116]=false):JW (I.W.drop s.k)=false:=by
 simp only[JW,anyS,List.any_cons,List.any_nil,iK h1 hb,iK h2 hb,iK h3 hb,iK h4 hb,iK h5 hb,iK h6 hb,iK h7 hb,iK h8 hb];rfl
theorem Xe{n:Nat}(he:PS 97 [.I 0] (.bin 0) 1 1 1201 n)(IH:∀n',n'<n->Mx n'):PLp n:=by
 intro I s h X Q hn p xo hd hQ;refine wb fn71 rfl ?_;have wl:=p.Bj.len;have xD:=p.bl;have kl0:=p.kl;simp[f71];refine zh [101,120,112,114] (ok:=True) (X:=X) (h0:=h) p (aQ.refl _ _) xo fun iT h1 p1 k1 m1=>?_;have done:∀(e:Sm)(s':RS)(h':ah)(d:ND),RP I s' h'->kc s s'->NM I X h iT (s'.bad=false) d h'->(s'.bad=false->s.k<s'.k/\(∀b,s'.dp<=s.dep+b->G .yi (b+1) (I.W.drop s.k) (I.W.drop s'.k) (.s e))/\d.op=e.rn.op/\d.nm=e.rn.nm/\d.ty=e.rn.ty/\d.n=e.rn.n/\d.qs.map Prod.snd=e.rn.ks)->Q (.ret (.P iT)) h':=fun e s' h' d p' a' m' f'=>
  hQ iT e s' h' p' a' (fun hz=>by
   obtain⟨q1,q2,q3,q4,q5,q6,q7⟩:=f' hz;exact⟨q1,q2,m'.done hz _ q3 q4 q5 q6 q7⟩) m'.kx
 simp;refine iL p1 (fun hs h2 p2 k2=>?_) fun Gv h2 p2 k2=>?_
 ·obtain⟨hb,w,rs,hw,hk,qV⟩:=fV hs;have hlw:=fT hw;have m2:=m1.call p1.fr k2;have g4:=m2.get;simp only[ND.obj]at g4;simp[g4];obtain⟨h4,e4,m4,p4⟩:=m2.put p2 xD ⟨[98,108,111,99,107],[],[],0,.Z,[]⟩ rfl rfl;simp only[ND.obj]at e4;rw[e4];obtain⟨J,hJ⟩:∃J:Nat->St->Prop,J=(fun m x=>∃s5 av qs ss,m=s5.ms I.W.length/\x.n=232/\x.ds=[]/\x.bI=false/\RP I s5 x.h/\NM I X h iT (s5.bad=false) ⟨[98,108,111,99,107],[],[],0,av,qs⟩ x.h/\kc s s5/\(s5.bad=false->qs.length<=s5.k)/\s.k<s5.k/\(s5.bad=false->agn I s s5 rs qs ss)/\
   x.rg.get 0=some (.P I.r)/\x.rg.get 3=some (.P iT)):=⟨_,rfl⟩
  refine bW J (RS.ms ⟨s.k+1,s.bad,s.dep,s.dp⟩ I.W.length) ?_ ?_
  ·rw[hJ];exact⟨⟨s.k+1,s.bad,s.dep,s.dp⟩,.Z,[],[],rfl,rfl,rfl,rfl,p4,m4.nW (fun _=>trivial),kc.of (s:=s) (s':=⟨s.k+1,s.bad,s.dep,s.dp⟩) (cR _) rfl (ao _) id,fun _=>sp,sp,fun _=>⟨rfl,rfl,fun b _ dh l hG=>by simp only[qV]at hG;exact hG⟩,sp,sp⟩
  clear e4 m4 p4 g4 m2 p2 k2 m1 p1 k1;intro m st rC;have fI:=rC;rw[hJ]at fI;obtain⟨rg,n',H,ds,bI⟩:=st;obtain⟨s6,av,qs,ss,rfl,e1,e2,e3,p6,m6,a6,Xd,hk6,f6,r0,r3⟩:=fI;dsimp only at e1 e2 e3 p6 m6 r0 r3;subst e1 e2 e3;have o6:=p6.obj;have kl6:=p6.kl;cases zt:s6.bad with
  |true=>
   simp[r0,r3,o6,zt];exact done (.empty (0,0)) s6 H _ p6 a6 m6 (fun hz=>by rw[zt]at hz;cases hz)
  |false=>
   have F6:=f6 zt;have F6d:=F6.dep;have a6p:=a6.xA;simp[r0,r3,o6,zt];refine iL p6 (fun hs7 h7 p7 k7=>?_) fun hs7 h7 p7 k7=>?_
   ·obtain⟨_,c2,rs3,hw3,zp,hd3⟩:=fV hs7;have m7:=m6.call p6.fr k7;simp[r0,r3];refine done (.block w.at ss) {s6 with k:=s6.k+1} h7 _ p7 (a6.trans (kc.of (cR _) rfl (ao _) id)) m7 fun hz=>⟨by simp only;omega,fun b jJ=>?_,rfl,rfl,rfl,rfl,F6.map⟩
    simp only at jJ⊢;rw[hd3];have hG:=F6.cont b jJ rs3 [] (by rw[hw3];exact .Jt zp);rw[gZ]at hG;rw[hw];exact .L8 (by rw[hk.du];decide) (.AF hk hG)
   ·have m7:=m6.aJ p6.fr k7;have Qs:=iK hs7 zt;simp[r0,r3];refine HD 0 kl6 p7 fun h8 p8 k8=>?_;have m8:=m7.call p7.fr k8;simp only[qR,zt,uy,fi];cases Gp:lK (I.W.drop s6.k)with
    |true=>
     simp[r0,r3];have gPZ:=m8.get;simp only[ND.obj]at gPZ;refine Dd ?_;simp[-aO,r0,r3,gPZ];refine dm ?_;have KB:=(aS.refl h8).bump 12;have mb:=m8.aJ p8.fr KB;have pb:=p8.aJ KB;have fj:=p8.fr (h8.next+7) om;have Cn:=m8.kx.next;refine(IH (I.W.length-s6.k) om).de I s6 _ _ _ rfl pb mb.pQ om fun idZ tZ sZ hZ pzZ aZ lZ fZ Xf=>?_;have mA:=mb.call pb.fr Xf;have gA:=mA.get;simp only[ND.obj]at gA;have oj:=Xf.old (h8.next+7) sp (by have:=p8.rl;have:=p8.gl;simp[RI.X];omega);have nA:=Xf.next;simp[fj]at oj nA;simp[-aO];refine dm ?_;simp[-aO,oj];obtain⟨HZ,j8,qQ,tX,mZ,pZ⟩:=mA.push pzZ xD (tw:=sZ.bad=false) (fun o=>aZ.bad o) (fun o=>(fZ o).2.2) oj om om (by have:=Xd zt;simp only;omega);simp only[ND.obj,bz,cd,ai,bZ,eY,Nat.reduceAdd]at j8 qQ mZ pZ;rw[j8];simp[-aO,r0,r3,qQ];refine dm ?_;clear KB mb pb fj Cn mA gA oj nA j8 qQ tX Xf pzZ gPZ;have klZ:=pZ.kl;rw[hJ];refine⟨sZ.ms I.W.length,FW aZ zt (fun hz=>(fZ hz).1) klZ,sZ,_,_,ss++[tZ],rfl,rfl,rfl,rfl,pZ,mZ,a6.trans aZ,fun hz=>by have:=Xd zt;have:=(fZ hz).1;simp;omega,by have:=aZ.k;omega,fun hz=>?_,by simp[r0],by simp[r3]⟩;obtain⟨v1,v2,v3⟩:=fZ hz;have dA:=aZ.dep hz;have aAd:=aZ.dp;refine⟨om,by simp[F6.map,D6,UG],fun b jJ dh l hG=>?_⟩;have hx:=F6.cont b om dh (tZ::l) (.L6 Qs Gp (v2 b om) hG);rw[cj];exact hx
    |false=>
     simp[r0,r3];have gPZ:=m8.get;simp only[ND.obj]at gPZ;refine Dd ?_;simp[-aO,r0,r3,gPZ];refine dm ?_;have KB:=(aS.refl h8).bump 12;have mb:=m8.aJ p8.fr KB;have pb:=p8.aJ KB;have fj:=p8.fr (h8.next+7) om;have Cn:=m8.kx.next;refine(IH (I.W.length-s6.k) om).st I s6 _ _ _ rfl pb mb.pQ om fun idZ tZ sZ hZ pzZ aZ lZ fZ Xf=>?_;have mA:=mb.call pb.fr Xf;have gA:=mA.get;simp only[ND.obj]at gA;have oj:=Xf.old (h8.next+7) sp (by have:=p8.rl;have:=p8.gl;simp[RI.X];omega);have nA:=Xf.next;simp[fj]at oj nA;simp[-aO];refine dm ?_;simp[-aO,oj];obtain⟨HZ,j8,qQ,tX,mZ,pZ⟩:=mA.push pzZ xD (tw:=sZ.bad=false) (fun o=>aZ.bad o) (fun o=>(fZ o).2.2) oj om om (by have:=Xd zt;simp only;omega);simp only[ND.obj,bz,cd,ai,bZ,eY,Nat.reduceAdd]at j8 qQ mZ pZ;rw[j8];simp[-aO,r0,r3,qQ];refine dm ?_;clear KB mb pb fj Cn mA gA oj nA j8 qQ tX Xf pzZ gPZ;have klZ:=pZ.kl;rw[hJ];refine⟨sZ.ms I.W.length,FW aZ zt (fun hz=>(fZ hz).1) klZ,sZ,_,_,ss++[tZ],rfl,rfl,rfl,rfl,pZ,mZ,a6.trans aZ,fun hz=>by have:=Xd zt;have:=(fZ hz).1;simp;omega,by have:=aZ.k;omega,fun hz=>?_,by simp[r0],by simp[r3]⟩;obtain⟨v1,v2,v3⟩:=fZ hz;have dA:=aZ.dep hz;have aAd:=aZ.dp;refine⟨om,by simp[F6.map,D6,UG],fun b jJ dh l hG=>?_⟩;have hx:=F6.cont b om dh (tZ::l) (.L7 Qs Gp (v2 b om) hG);rw[cj];exact hx
 have m2:=m1.aJ p1.fr k2;simp;refine iL p2 (fun hs h3 p3 k3=>?_) fun uZ h3 p3 k3=>?_
 ·obtain⟨hb,w,rs,hw,hk,qV⟩:=fV hs;have hlw:=fT hw;have m3:=m2.call p2.fr k3;have g4:=m3.get;simp only[ND.obj]at g4;simp[g4];obtain⟨h4,e4,m4,p4⟩:=m3.put p3 xD ⟨[101,109,112,116,121],[],[],0,.Z,[]⟩ rfl rfl;simp only[ND.obj]at e4;rw[e4];exact done (.empty w.at) ⟨s.k+1,s.bad,s.dep,s.dp⟩ h4 _ p4 (kc.of (s:=s) (s':=⟨s.k+1,s.bad,s.dep,s.dp⟩) (cR _) rfl (ao _) id) (m4.nW fun _=>trivial) fun hz=>⟨by simp only;omega,fun b _=>by simp only;rw[hw,qV];exact .L9 hk,rfl,rfl,rfl,rfl,rfl⟩
 have m3:=m2.aJ p2.fr k3;simp;refine iL p3 (fun hs h4 p4 k4=>?_) fun hs3 h4 p4 k4=>?_
 ·obtain⟨hb,w,rs,hw,hk,qV⟩:=fV hs;have hlw:=fT hw;have m4:=m3.call p3.fr k4;have gA:=m4.get;simp only[ND.obj]at gA;simp[gA];obtain⟨hA,eA,mA,pA⟩:=m4.put p4 xD ⟨[105,102],[],[],0,.Z,[]⟩ rfl rfl;simp only[ND.obj]at eA;rw[eA];refine iB pA fun sB hB pB aB kB' dB fB kB=>?_;have mB:=mA.call pA.fr kB;simp;have aBk:=aB.k;have aBl:=aB.lo;have aBp:=aB.xA;have aBd:=aB.dp;have klB:=pB.kl;simp only at aBk aBl aBp aBd;have Mz:=mB.nW (tw:=sB.bad=false) (fun _=>trivial);have HI:=Mz.get;simp only[ND.obj]at HI;refine Dd ?_;simp[-aO,HI];refine dm ?_;have KB:=(aS.refl hB).bump 12;have mb:=Mz.aJ pB.fr KB;have pb:=pB.aJ KB;have fj:=pB.fr (hB.next+7) om;have Cn:=Mz.kx.next;refine(IH (I.W.length-sB.k) om).ex I sB _ _ _ rfl pb mb.pQ om fun idC tC sC hC Oq aC lC fC CE=>?_;have mA:=mb.call pb.fr CE;have gA:=mA.get;simp only[ND.obj]at gA;have oj:=CE.old (hB.next+7) sp (by have:=pB.rl;have:=pB.gl;simp[RI.X];omega);have nA:=CE.next;simp[fj]at oj nA;simp[-aO];refine dm ?_;simp[-aO,oj];obtain⟨HC,j8,qQ,tX,mC,pC⟩:=mA.push Oq xD (tw:=sC.bad=false) (fun o=>aC.bad o) (fun o=>(fC o).2.2) oj om om sp;simp only[ND.obj,bz,cd,ai,bZ,eY,Nat.reduceAdd]at j8 qQ mC pC;rw[j8];simp[-aO,qQ];refine dm ?_;clear KB mb pb fj Cn mA gA oj nA j8 qQ tX CE Oq HI;refine iB pC fun sD hD pD aD UH dD fD kD=>?_;have mD:=mC.call pC.fr kD;simp;have aCk:=aC.k;have aCp:=aC.xA;have aDk:=aD.k;have aDp:=aD.xA;have klD:=pD.kl;have mD':=mD.nW (tw:=sD.bad=false) (fun o=>aD.bad o);have Tt:=mD'.get;simp only[ND.obj]at Tt;refine Dd ?_;simp[-aO,Tt];refine dm ?_;have KB:=(aS.refl hD).bump 12;have mb:=mD'.aJ pD.fr KB;have pb:=pD.aJ KB;have fj:=pD.fr (hD.next+7) om;have Cn:=mD'.kx.next;refine(IH (I.W.length-sD.k) om).st I sD _ _ _ rfl pb mb.pQ om fun Oi tE sE hE YZ aE lE fE Ot=>?_;have mA:=mb.call pb.fr Ot;have gA:=mA.get;simp only[ND.obj]at gA;have oj:=Ot.old (hD.next+7) sp (by have:=pD.rl;have:=pD.gl;simp[RI.X];omega);have nA:=Ot.next;simp[fj]at oj nA;simp[-aO];refine dm ?_;simp[-aO,oj];obtain⟨HE,j8,qQ,tX,mE,pE⟩:=mA.push YZ xD (tw:=sE.bad=false) (fun o=>aE.bad o) (fun o=>(fE o).2.2) oj om om sp;simp only[ND.obj,bz,cd,ai,bZ,eY,Nat.reduceAdd]at j8 qQ mE pE;rw[j8];simp[-aO,qQ];refine dm ?_;clear KB mb pb fj Cn mA gA oj nA j8 qQ tX Ot YZ Tt;have aEk:=aE.k;have aEp:=aE.xA;refine iL pE (fun Y0 hF pF kF=>?_) fun Y0 hF pF kF=>?_
  ·obtain⟨hzE,we,re,xe,ke,de⟩:=fV Y0;have hle:=fT xe;have mF:=mE.call pE.fr kF;simp;have gPG:=mF.get;simp only[ND.obj]at gPG;refine Dd ?_;simp[-aO,gPG];refine dm ?_;have KB:=(aS.refl hF).bump 12;have mb:=mF.aJ pF.fr KB;have pb:=pF.aJ KB;have fj:=pF.fr (hF.next+7) om;have Cn:=mF.kx.next;refine(IH (I.W.length-(sE.k+1)) om).st I ⟨sE.k+1,sE.bad,sE.dep,sE.dp⟩ _ _ _ rfl pb mb.pQ (by simp only;omega) fun idG tG sG hG pzG aG lG fG kzG=>?_;have mA:=mb.call pb.fr kzG;have gA:=mA.get;simp only[ND.obj]at gA;have oj:=kzG.old (hF.next+7) sp (by have:=pF.rl;have:=pF.gl;simp[RI.X];omega);have nA:=kzG.next;simp[fj]at oj nA;simp[-aO];refine dm ?_;simp[-aO,oj];obtain⟨HG,j8,qQ,tX,mG,pG⟩:=mA.push pzG xD (tw:=sG.bad=false) (fun o=>aG.bad o) (fun o=>(fG o).2.2) oj om om sp;simp only[ND.obj,bz,cd,ai,bZ,eY,Nat.reduceAdd]at j8 qQ mG pG;rw[j8];simp[-aO,qQ];refine dm ?_;clear KB mb pb fj Cn mA gA oj nA j8 qQ tX kzG pzG gPG;have A:=kc.trans (kc.of (s:=s) (s':=⟨s.k+1,s.bad,s.dep,s.dp⟩) (cR _) rfl (ao _) id) (aB.trans (aC.trans (aD.trans (aE.trans (kc.trans (kc.of (s':=⟨sE.k+1,sE.bad,sE.dep,sE.dp⟩) (cR _) rfl (ao _) id) aG)))));refine done (.LO w.at tC tE tG) sG _ _ pG A mG fun hz=>?_;have At:=aE.bad hzE;have AH:=aD.bad At;obtain⟨v1,v2,v3⟩:=fG hz;obtain⟨u1,u2,u3⟩:=fE hzE;obtain⟨c2,r2,y1,y2,y3,y4⟩:=fD At;obtain⟨q1,q2,q3⟩:=fC AH;obtain⟨c3,r3,z1,z2,z3,z4⟩:=fB (aC.bad AH);simp only at z1 z4;have dB:=aB.dep (aC.bad AH);have dC:=aC.dep AH;have dD:=aD.dep At;have dE:=aE.dep hzE;have dpD:=aD.dp;have dpE:=aE.dp;have dpG:=aG.dp;simp only at dB v1 dpG;refine⟨om,fun b jJ=>?_,rfl,rfl,rfl,rfl,rfl⟩;have EX:=q2 b om;have Nf:=u2 b om;have hG':=v2 b (by simp only;omega);simp only at hG';rw[hw,<-qV,z1];rw[z3,y1,<-y3]at EX;rw[xe]at Nf;rw[de]at hG';exact .JK hk z2 EX y2 Nf ke hG'
  ·have mF:=mE.aJ pE.fr kF;simp;have A:=kc.trans (kc.of (s:=s) (s':=⟨s.k+1,s.bad,s.dep,s.dp⟩) (cR _) rfl (ao _) id) (aB.trans (aC.trans (aD.trans aE)));refine done (.ifs w.at tC tE) sE _ _ pF A mF fun hz=>?_;have At:=aE.bad hz;have AH:=aD.bad At;obtain⟨u1,u2,u3⟩:=fE hz;obtain⟨c2,r2,y1,y2,y3,y4⟩:=fD At;obtain⟨q1,q2,q3⟩:=fC AH;obtain⟨c3,r3,z1,z2,z3,z4⟩:=fB (aC.bad AH);simp only at z1 z4;have dB:=aB.dep (aC.bad AH);have dC:=aC.dep AH;have dD:=aD.dep At;have dpD:=aD.dp;have dpE:=aE.dp;simp only at dB;refine⟨om,fun b jJ=>?_,rfl,rfl,rfl,rfl,rfl⟩;have EX:=q2 b om;have Nf:=u2 b om;rw[hw,<-qV,z1];rw[z3,y1,<-y3]at EX;exact .YB hk z2 EX y2 Nf (iK Y0 hz)
 have m4:=m3.aJ p3.fr k4;simp;refine iL p4 (fun hs h5 p5 k5=>?_) fun hs4 h5 p5 k5=>?_
 ·obtain⟨hb,w,rs,hw,hk,qV⟩:=fV hs;have hlw:=fT hw;have m5:=m4.call p4.fr k5;have gA:=m5.get;simp only[ND.obj]at gA;simp[gA];obtain⟨hA,eA,mA,pA⟩:=m5.put p5 xD ⟨[119,104,105,108,101],[],[],0,.Z,[]⟩ rfl rfl;simp only[ND.obj]at eA;rw[eA];refine iB pA fun sB hB pB aB kB' dB fB kB=>?_;have mB:=mA.call pA.fr kB;simp;have aBk:=aB.k;have aBl:=aB.lo;have aBp:=aB.xA;have aBd:=aB.dp;have klB:=pB.kl;simp only at aBk aBl aBp aBd;have Mz:=mB.nW (tw:=sB.bad=false) (fun _=>trivial);have HI:=Mz.get;simp only[ND.obj]at HI;refine Dd ?_;simp[-aO,HI];refine dm ?_;have KB:=(aS.refl hB).bump 12;have mb:=Mz.aJ pB.fr KB;have pb:=pB.aJ KB;have fj:=pB.fr (hB.next+7) om;have Cn:=Mz.kx.next;refine(IH (I.W.length-sB.k) om).ex I sB _ _ _ rfl pb mb.pQ om fun idC tC sC hC Oq aC lC fC CE=>?_;have mA:=mb.call pb.fr CE;have gA:=mA.get;simp only[ND.obj]at gA;have oj:=CE.old (hB.next+7) sp (by have:=pB.rl;have:=pB.gl;simp[RI.X];omega);have nA:=CE.next;simp[fj]at oj nA;simp[-aO];refine dm ?_;simp[-aO,oj];obtain⟨HC,j8,qQ,tX,mC,pC⟩:=mA.push Oq xD (tw:=sC.bad=false) (fun o=>aC.bad o) (fun o=>(fC o).2.2) oj om om sp;simp only[ND.obj,bz,cd,ai,bZ,eY,Nat.reduceAdd]at j8 qQ mC pC;rw[j8];simp[-aO,qQ];refine dm ?_;clear KB mb pb fj Cn mA gA oj nA j8 qQ tX CE Oq HI;refine iB pC fun sD hD pD aD UH dD fD kD=>?_;have mD:=mC.call pC.fr kD;simp;have aCk:=aC.k;have aCp:=aC.xA;have aDk:=aD.k;have aDp:=aD.xA;have klD:=pD.kl;have mD':=mD.nW (tw:=sD.bad=false) (fun o=>aD.bad o);have Tt:=mD'.get;simp only[ND.obj]at Tt;refine Dd ?_;simp[-aO,Tt];refine dm ?_;have KB:=(aS.refl hD).bump 12;have mb:=mD'.aJ pD.fr KB;have pb:=pD.aJ KB;have fj:=pD.fr (hD.next+7) om;have Cn:=mD'.kx.next;refine(IH (I.W.length-sD.k) om).st I sD _ _ _ rfl pb mb.pQ om fun Oi tE sE hE YZ aE lE fE Ot=>?_;have mA:=mb.call pb.fr Ot;have gA:=mA.get;simp only[ND.obj]at gA;have oj:=Ot.old (hD.next+7) sp (by have:=pD.rl;have:=pD.gl;simp[RI.X];omega);have nA:=Ot.next;simp[fj]at oj nA;simp[-aO];refine dm ?_;simp[-aO,oj];obtain⟨HE,j8,qQ,tX,mE,pE⟩:=mA.push YZ xD (tw:=sE.bad=false) (fun o=>aE.bad o) (fun o=>(fE o).2.2) oj om om sp;simp only[ND.obj,bz,cd,ai,bZ,eY,Nat.reduceAdd]at j8 qQ mE pE;rw[j8];simp[-aO,qQ];refine dm ?_;clear KB mb pb fj Cn mA gA oj nA j8 qQ tX Ot YZ Tt;have A:=kc.trans (kc.of (s:=s) (s':=⟨s.k+1,s.bad,s.dep,s.dp⟩) (cR _) rfl (ao _) id) (aB.trans (aC.trans (aD.trans aE)));refine done (.LP w.at tC tE) sE _ _ pE A mE fun hz=>?_;have At:=aE.bad hz;have AH:=aD.bad At;obtain⟨u1,u2,u3⟩:=fE hz;obtain⟨c2,r2,y1,y2,y3,y4⟩:=fD At;obtain⟨q1,q2,q3⟩:=fC AH;obtain⟨c3,r3,z1,z2,z3,z4⟩:=fB (aC.bad AH);simp only at z1 z4;have dB:=aB.dep (aC.bad AH);have dC:=aC.dep AH;have dD:=aD.dep At;have dpD:=aD.dp;have dpE:=aE.dp;simp only at dB;refine⟨om,fun b jJ=>?_,rfl,rfl,rfl,rfl,rfl⟩;have EX:=q2 b om;have Nf:=u2 b om;rw[hw,<-qV,z1];rw[z3,y1,<-y3]at EX;exact .xq hk z2 EX y2 Nf
 have m5:=m4.aJ p4.fr k5;simp;refine Av p5 fun h6 p6 k6=>?_;have m6:=m5.aJ p5.fr k6;cases Tu:pH I s [98,114,101,97,107]with
 |true=>
  obtain⟨hb,w,rs,hw,hk,qV⟩:=fV Tu;have hl:=fT hw;obtain⟨c0,c1,c2,d0,d3,l5,l3⟩:=xB hw;have oq:=p6.obj;have arq:=p6.arr;have gP:=m6.get;simp only[ND.obj]at gP;have nr:=m6.nr;have nrb:iT≠I.b:=by have:=m6.lo;omega
  have w1:IntKind.wrap .i64 ((s.k:Int)+1)=((s.k+1:Nat):Int):=by rw[wr om om];omega
  simp;refine Dd ?_;simp[oq,hl,arq,c1,gP,hb,w1,nr.1,nr.1.symm];have y0:=nr.1;have y1:=nr.1.symm;refine dm ?_;have K1:=(aS.refl h6).bump 15;obtain⟨hA,eA,mA,pA⟩:=(m6.aJ p6.fr K1).put (p6.aJ K1) xD ⟨w.text,[],[],0,.Z,[]⟩ rfl rfl;obtain⟨pB,kB⟩:=pA.at (s.k+1) om
  have mB2:∀{o},aQ I.X hA o->NM I X h iT True ⟨w.text,[],[],0,.Z,[]⟩ o:=fun kk=>mA.call pA.fr kk;simp only[ND.obj]at eA;rw[hb]at pB kB;rw[eA];refine iB pB fun sD hD pD aD UH dD fD kD=>?_;have mD:=(mB2 kB).call pB.fr kD;simp;refine done (.NP w.at) sD hD _ pD (kc.trans (kc.of (s:=s) (s':=⟨s.k+1,false,s.dep,s.dp⟩) (cR _) rfl (ao _) (fun _=>hb)) aD) (mD.nW fun _=>trivial) fun hz=>?_;obtain⟨c2',r2,y1,y2,y3,y4⟩:=fD hz;simp only at y1 y4;refine⟨om,fun b jJ=>?_,hk.t,rfl,rfl,rfl,rfl⟩;rw[hw,<-qV,y1,y3];exact .Ma hk y2
 |false=>
 simp;refine Av p6 fun h7 p7 k7=>?_;have m7:=m6.aJ p6.fr k7;cases hs6:pH I s [99,111,110,116,105,110,117,101]with
 |true=>
  obtain⟨hb,w,rs,hw,hk,qV⟩:=fV hs6;have hl:=fT hw;obtain⟨c0,c1,c2,d0,d3,l5,l3⟩:=xB hw;have oq:=p7.obj;have arq:=p7.arr;have gP:=m7.get;simp only[ND.obj]at gP;have nr:=m7.nr;have nrb:iT≠I.b:=by have:=m7.lo;omega
  have w1:IntKind.wrap .i64 ((s.k:Int)+1)=((s.k+1:Nat):Int):=by rw[wr om om];omega
  simp;refine Dd ?_;simp[oq,hl,arq,c1,gP,hb,w1,nr.1,nr.1.symm];have y0:=nr.1;have y1:=nr.1.symm;refine dm ?_;have K1:=(aS.refl h7).bump 15;obtain⟨hA,eA,mA,pA⟩:=(m7.aJ p7.fr K1).put (p7.aJ K1) xD ⟨w.text,[],[],0,.Z,[]⟩ rfl rfl;obtain⟨pB,kB⟩:=pA.at (s.k+1) om
  have mB2:∀{o},aQ I.X hA o->NM I X h iT True ⟨w.text,[],[],0,.Z,[]⟩ o:=fun kk=>mA.call pA.fr kk;simp only[ND.obj]at eA;rw[hb]at pB kB;rw[eA];refine iB pB fun sD hD pD aD UH dD fD kD=>?_;have mD:=(mB2 kB).call pB.fr kD;simp;refine done (.cont w.at) sD hD _ pD (kc.trans (kc.of (s:=s) (s':=⟨s.k+1,false,s.dep,s.dp⟩) (cR _) rfl (ao _) (fun _=>hb)) aD) (mD.nW fun _=>trivial) fun hz=>?_;obtain⟨c2',r2,y1,y2,y3,y4⟩:=fD hz;simp only at y1 y4;refine⟨om,fun b jJ=>?_,hk.t,rfl,rfl,rfl,rfl⟩;rw[hw,<-qV,y1,y3];exact .DV hk y2
 |false=>
 simp;refine iL p7 (fun hs h8 p8 k8=>?_) fun hs7 h8 p8 k8=>?_
 ·obtain⟨hb,w,rs,hw,hk,qV⟩:=fV hs;have hlw:=fT hw;have m8:=m7.call p7.fr k8;have gA:=m8.get;simp only[ND.obj]at gA;simp[gA];obtain⟨hA,eA,mA,pA⟩:=m8.put p8 xD ⟨[114,101,116,117,114,110],[],[],0,.Z,[]⟩ rfl rfl;simp only[ND.obj]at eA;rw[eA];refine Av pA fun hB pB kB=>?_;have mB:=mA.aJ pA.fr kB;cases Y0:pH I ⟨s.k+1,s.bad,s.dep,s.dp⟩ [59]with
  |true=>
   simp;refine iB pB fun sD hD pD aD UH dD fD kD=>?_;have mD:=mB.call pB.fr kD;simp;have A:=kc.trans (kc.of (s:=s) (s':=⟨s.k+1,s.bad,s.dep,s.dp⟩) (cR _) rfl (ao _) id) aD;refine done (.ret w.at none) sD hD _ pD A (mD.nW fun _=>trivial) fun hz=>?_;obtain⟨c2,r2,y1,y2,y3,y4⟩:=fD hz;simp only at y1 y4;refine⟨om,fun b jJ=>?_,rfl,rfl,rfl,rfl,rfl⟩;rw[hw,<-qV,y1,y3];exact .DW hk y2
  |false=>
   have Mz:=mB.nW (tw:=s.bad=false) (fun _=>trivial);simp;have HI:=Mz.get;simp only[ND.obj]at HI;refine Dd ?_;simp[-aO,HI];refine dm ?_;have KB:=(aS.refl hB).bump 12;have mb:=Mz.aJ pB.fr KB;have pb:=pB.aJ KB;have fj:=pB.fr (hB.next+7) om;have Cn:=Mz.kx.next;refine(IH (I.W.length-(s.k+1)) om).ex I ⟨s.k+1,s.bad,s.dep,s.dp⟩ _ _ _ rfl pb mb.pQ (by simp only;omega) fun idC tC sC hC Oq aC lC fC CE=>?_;have mA:=mb.call pb.fr CE;have gA:=mA.get;simp only[ND.obj]at gA;have oj:=CE.old (hB.next+7) sp (by have:=pB.rl;have:=pB.gl;simp[RI.X];omega);have nA:=CE.next;simp[fj]at oj nA;simp[-aO];refine dm ?_;simp[-aO,oj];obtain⟨HC,j8,qQ,tX,mC,pC⟩:=mA.push Oq xD (tw:=sC.bad=false) (fun o=>aC.bad o) (fun o=>(fC o).2.2) oj om om sp;simp only[ND.obj,bz,cd,ai,bZ,eY,Nat.reduceAdd]at j8 qQ mC pC;rw[j8];simp[-aO,qQ];refine dm ?_;clear KB mb pb fj Cn mA gA oj nA j8 qQ tX CE Oq HI;refine iB pC fun sD hD pD aD UH dD fD kD=>?_;have mD:=mC.call pC.fr kD;simp;have A:=kc.trans (kc.of (s:=s) (s':=⟨s.k+1,s.bad,s.dep,s.dp⟩) (cR _) rfl (ao _) id) (aC.trans aD);refine done (.ret w.at (some tC)) sD hD _ pD A (mD.nW fun hz=>aD.bad hz) fun hz=>?_;have AH:=aD.bad hz;obtain⟨c2,r2,y1,y2,y3,y4⟩:=fD hz;obtain⟨q1,q2,q3⟩:=fC AH;have dpD:=aD.dp;simp only at q1;refine⟨om,fun b jJ=>?_,rfl,rfl,rfl,rfl,rfl⟩;have EX:=q2 b (by simp only;omega);have qU:=iK Y0 hb;simp only at EX qU;rw[hw];rw[qV,y1]at EX;rw[qV]at qU;rw[y3];exact .DX hk qU EX y2
 have m8:=m7.aJ p7.fr k8;simp;refine iL p8 (fun hs h9 p9 k9=>?_) fun hs8 h9 p9 k9=>?_
 ·obtain⟨hb,w,rs,hw,hk,qV⟩:=fV hs;have hlw:=fT hw;have m9:=m8.call p8.fr k9;have gA:=m9.get;simp only[ND.obj]at gA;simp[gA];obtain⟨hA,eA,mA,pA⟩:=m9.put p9 xD ⟨[111,117,116],[],[],0,.Z,[]⟩ rfl rfl;simp only[ND.obj]at eA;rw[eA];refine iB pA fun sB hB pB aB kB' dB fB kB=>?_;have mB:=mA.call pA.fr kB;simp;have aBk:=aB.k;have aBl:=aB.lo;have aBp:=aB.xA;have aBd:=aB.dp;have klB:=pB.kl;simp only at aBk aBl aBp aBd;have Mz:=mB.nW (tw:=sB.bad=false) (fun _=>trivial);have HI:=Mz.get;simp only[ND.obj]at HI;refine Dd ?_;simp[-aO,HI];refine dm ?_;have KB:=(aS.refl hB).bump 12;have mb:=Mz.aJ pB.fr KB;have pb:=pB.aJ KB;have fj:=pB.fr (hB.next+7) om;have Cn:=Mz.kx.next;refine(IH (I.W.length-sB.k) om).ex I sB _ _ _ rfl pb mb.pQ om fun idC tC sC hC Oq aC lC fC CE=>?_;have mA:=mb.call pb.fr CE;have gA:=mA.get;simp only[ND.obj]at gA;have oj:=CE.old (hB.next+7) sp (by have:=pB.rl;have:=pB.gl;simp[RI.X];omega);have nA:=CE.next;simp[fj]at oj nA;simp[-aO];refine dm ?_;simp[-aO,oj];obtain⟨HC,j8,qQ,tX,mC,pC⟩:=mA.push Oq xD (tw:=sC.bad=false) (fun o=>aC.bad o) (fun o=>(fC o).2.2) oj om om sp;simp only[ND.obj,bz,cd,ai,bZ,eY,Nat.reduceAdd]at j8 qQ mC pC;rw[j8];simp[-aO,qQ];refine dm ?_;clear KB mb pb fj Cn mA gA oj nA j8 qQ tX CE Oq HI;refine iB pC fun sD hD pD aD UH dD fD kD=>?_;have mD:=mC.call pC.fr kD;simp;refine iB pD fun sE hE pE aE kE' dE fE kE=>?_;have mE:=mD.call pD.fr kE;simp;have A:=kc.trans (kc.of (s:=s) (s':=⟨s.k+1,s.bad,s.dep,s.dp⟩) (cR _) rfl (ao _) id) (aB.trans (aC.trans (aD.trans aE)));refine done (.out w.at tC) sE hE _ pE A (mE.nW fun hz=>aD.bad (aE.bad hz)) fun hz=>?_;have At:=aE.bad hz;have AH:=aD.bad At;obtain⟨c1,r1,x1,x2,x3,x4⟩:=fE hz;obtain⟨c2,r2,y1,y2,y3,y4⟩:=fD At;obtain⟨q1,q2,q3⟩:=fC AH;obtain⟨c3,r3,z1,z2,z3,z4⟩:=fB (aC.bad AH);simp only at z1 z4;have dB:=aB.dep (aC.bad AH);have dpD:=aD.dp;have dpE:=aE.dp;simp only at dB;refine⟨om,fun b jJ=>?_,rfl,rfl,rfl,rfl,rfl⟩;have EX:=q2 b om;rw[hw,<-qV,z1];rw[z3,y1,<-y3,x1]at EX;rw[x3];exact .Mb hk z2 EX y2 x2
 have m9:=m8.aJ p8.fr k9;have m9':=m9.nW (tw:=s.bad=false) (fun _=>trivial);simp;have HI:=m9'.get;simp only[ND.obj]at HI;refine Dd ?_;simp[-aO,HI];refine dm ?_;have KB:=(aS.refl h9).bump 12;have mb:=m9'.aJ p9.fr KB;have pb:=p9.aJ KB;have fj:=p9.fr (h9.next+7) om;have Cn:=m9'.kx.next;refine he I s _ _ _ hn pb mb.pQ om fun idC tC sC hC Oq aC lC fC CE=>?_;have mA:=mb.call pb.fr CE;have gA:=mA.get;simp only[ND.obj]at gA;have oj:=CE.old (h9.next+7) sp (by have:=p9.rl;have:=p9.gl;simp[RI.X];omega);have nA:=CE.next;simp[fj]at oj nA;simp[-aO];refine dm ?_;simp[-aO,oj];obtain⟨HC,j8,qQ,tX,mC,pC⟩:=mA.push Oq xD (tw:=sC.bad=false) (fun o=>aC.bad o) (fun o=>(fC o).2.2) oj om om sp;simp only[ND.obj,bz,cd,ai,bZ,eY,Nat.reduceAdd]at j8 qQ mC pC;rw[j8];simp[-aO,qQ];refine dm ?_;clear KB mb pb fj Cn mA gA oj nA j8 qQ tX CE Oq HI;have aCk:=aC.k;have aCp:=aC.xA;refine iL pC (fun Y0 hF pF kF=>?_) fun Y0 hF pF kF=>?_
 ·obtain⟨AH,we,re,xe,ke,de⟩:=fV Y0;have hle:=fT xe;have mF:=mC.call pC.fr kF;have gF:=mF.get;simp only[ND.obj]at gF;simp[gF];obtain⟨hV,eV,mV,pV⟩:=mF.put pF xD ⟨[97,115,115,105,103,110],[],[],0,.S hC.next 1,[(idC,tC.rn)]⟩ rfl rfl;simp only[ND.obj]at eV;rw[eV];have Tt:=mV.get;simp only[ND.obj]at Tt;refine Dd ?_;simp[-aO,Tt];refine dm ?_;have KB:=(aS.refl hV).bump 12;have mb:=mV.aJ pV.fr KB;have pb:=pV.aJ KB;have fj:=pV.fr (hV.next+7) om;have Cn:=mV.kx.next;refine(IH (I.W.length-(sC.k+1)) om).ex I ⟨sC.k+1,sC.bad,sC.dep,sC.dp⟩ _ _ _ rfl pb mb.pQ (by simp only;omega) fun Oi tE sE hE YZ aE lE fE Ot=>?_;have mA:=mb.call pb.fr Ot;have gA:=mA.get;simp only[ND.obj]at gA;have oj:=Ot.old (hV.next+7) sp (by have:=pV.rl;have:=pV.gl;simp[RI.X];omega);have nA:=Ot.next;simp[fj]at oj nA;simp[-aO];refine dm ?_;simp[-aO,oj];obtain⟨HE,j8,qQ,tX,mE,pE⟩:=mA.push YZ xD (tw:=sE.bad=false) (fun o=>aE.bad o) (fun o=>(fE o).2.2) oj om om sp;simp only[ND.obj,bz,cd,ai,bZ,eY,Nat.reduceAdd]at j8 qQ mE pE;rw[j8];simp[-aO,qQ];refine dm ?_;clear KB mb pb fj Cn mA gA oj nA j8 qQ tX Ot YZ Tt;refine iB pE fun sD hD pD aD UH dD fD kD=>?_;have mD:=mE.call pE.fr kD;simp;have A:=aC.trans (kc.trans (kc.of (s':=⟨sC.k+1,sC.bad,sC.dep,sC.dp⟩) (cR _) rfl (ao _) id) (aE.trans aD));refine done (.assign (Pk (I.W.drop s.k)) tC tE) sD hD _ pD A (mD.nW fun hz=>aD.bad hz) fun hz=>?_;have hzE:=aD.bad hz;have hb:=aC.bad AH;obtain⟨c2,r2,y1,y2,y3,y4⟩:=fD hz;obtain⟨u1,u2,u3⟩:=fE hzE;obtain⟨q1,q2,q3⟩:=fC AH;have dC:=aC.dep AH;have dpD:=aD.dp;have dpE:=aE.dp;have aDk:=aD.k;simp only at u1 dpE;refine⟨om,fun b jJ=>?_,rfl,rfl,rfl,rfl,rfl⟩;have EX:=q2 b om;have Nf:=u2 b (by simp only;omega);simp only at Nf;rw[xe]at EX;rw[de,y1]at Nf;rw[y3];exact .JL (FX hb Gv uZ hs3 hs4 Tu hs6 hs7 hs8) EX ke Nf y2
 ·have mF:=mC.aJ pC.fr kF;simp;refine iB pF fun sD hD pD aD UH dD fD kD=>?_;have mD:=mF.call pF.fr kD;simp;refine done (.eval (Pk (I.W.drop s.k)) tC) sD hD _ pD (aC.trans aD) (mD.nW fun hz=>aD.bad hz) fun hz=>?_;have AH:=aD.bad hz;have hb:=aC.bad AH;obtain⟨c2,r2,y1,y2,y3,y4⟩:=fD hz;obtain⟨q1,q2,q3⟩:=fC AH;have dC:=aC.dep AH;have dpD:=aD.dp;refine⟨om,fun b jJ=>?_,rfl,rfl,rfl,rfl,rfl⟩;have EX:=q2 b om;rw[y1]at EX;rw[y3];exact .Mc (FX hb Gv uZ hs3 hs4 Tu hs6 hs7 hs8) EX y2
end
section
attribute [local simp] aI
theorem ae2(n:Nat):Mx n:=by
 induction n using Nat.strongRecOn with
 |ind n IH=>
  have pr:=PX IH;have pf:=PW pr IH;have un:=Xc pf IH;have ch:∀j l:Nat,l+j=10->PS 131 [.I l] (.bin l) 0 0 1202 n:=by
   intro j;induction j with
   |zero=>intro l hl;exact Oo om un (fun h=>om) IH
   |succ j ih=>intro l hl;exact Oo om un (fun _=>ih (l+1) om) IH
  have ex:=abl (ch 10 0 rfl);exact⟨ex,un,fun l hl=>ch (10-l) l om,J7 (Xe ex IH),EW IH⟩
end
section
attribute [local simp] aI
theorem yz.st{ws dh:List Wo}{t:List UInt8}(h:yz ws dh t)(h1:7<t.length)(h2:t.take 7=[115,116,114,117,99,116,32])(h3:t.getLast?≠some 42):∃w n,ws=w::n::dh/\ja w [115,116,114,117,99,116]/\n.kind=1/\t.drop 7=n.text:=by
 have sl:∀{a b:List Wo}{s:List UInt8},sW a b s->s≠[]->s.getLast?=some 42:=by
  intro a b s hs;induction hs with
  |done=>intro h;exact(h rfl).elim
  |@star w ws cq s hk hr ih=>
   intro _;cases s with
   |nil=>rfl
   |cons c s=>rw[List.getLast?_cons_cons];exact ih sp
 cases h with
 |@base w ws dh s hb hn hs=>
  exfalso;have:w.text∈EP:=by
   simp only[lK,anyS,qT]at hb;obtain⟨x,hx,hs⟩:=hb;simp only[du,eM,qC]at hs;rw[hs.1];exact hx
  simp only[EP,aq,bd,cT]at this;rcases this with e|e|e|e|e
  ·rw[e]at h2;simp at h2
  ·rw[e]at h2;simp at h2
  ·rw[e]at h2;simp at h2
  ·rw[e]at h2;simp at h2
  ·exact hn e
 |@struct w n ws dh s hk hn hs=>
  cases hs with
  |done _=>exact⟨w,n,rfl,hk,hn,sp⟩
  |@star w2 eK N4 s2 Cj HT=>
   exfalso;apply h3;have:=sl (.star Cj HT) sp;rw[List.getLast?_append,this];rfl
structure GA(I:RI)(lo n fn:Nat)(h:ah):Prop where
 a1:∃m cs,dW (I.r::I.g::I.b::(aK I.l2++aK I.l3++aK I.l4)) h I.l1 2 m cs/\cs.length=m*2/\m<=n
 a2:∃m cs,dW (I.r::I.g::I.b::(aK I.l1++aK I.l3++aK I.l4)) h I.l2 3 m cs/\cs.length=m*3/\m<=n
 a3:∃cs,dW (I.r::I.g::I.b::(aK I.l1++aK I.l2++aK I.l4)) h I.l3 5 fn cs/\cs.length=fn*5/\fn<=n
 a4:∃m cs,dW (I.r::I.g::I.b::(aK I.l1++aK I.l2++aK I.l3)) h I.l4 2 m cs/\cs.length=m*2/\m<=n
 lo1:∀z,z∈aK I.l1++aK I.l2++aK I.l3++aK I.l4->lo<=z
 lor:lo<=I.r
 log:lo<=I.g
theorem dW.kx{X Y:List Nat}{h h':ah}{av:AV}{es n:Nat}{cs:List AV}(a:dW X h av es n cs)(f:cM h)(k:aQ Y h h')(hY:∀y,y∈Y->y∈X):dW X h' av es n cs:=
 a.move (Move.of f k (fun z hz _=>hY z hz) fun _ hy=> .inl hy)
theorem GA.call{I:RI}{lo n fn:Nat}{h h':ah}(g:GA I lo n fn h)(f:cM h)(k:aQ I.X h h'):GA I lo n fn h':=by
 have hY:∀(Z:List Nat) y,y∈I.X->y∈I.r::I.g::I.b::Z:=fun Z y hy=>by
  simp only[RI.X,aq,bd,cT]at hy⊢;rcases hy with h1|h1
  ·exact .inl h1
  ·exact .inr (.inl h1)
 obtain⟨⟨m1,c1,b1,r1⟩,⟨m2,c2,b2,r2⟩,⟨c3,b3,r3⟩,⟨m4,c4,b4,r4⟩,l1,l2,l3⟩:=g;exact⟨⟨m1,c1,b1.kx f k (hY _),r1⟩,⟨m2,c2,b2.kx f k (hY _),r2⟩,⟨c3,b3.kx f k (hY _),r3⟩,⟨m4,c4,b4.kx f k (hY _),r4⟩,l1,l2,l3⟩
end
section
attribute [local simp] aI
theorem dW.re{X Y:List Nat}{h h':ah}{av:AV}{es n:Nat}{cs:List AV}(a:dW X h av es n cs)(hr:∀z o,z∈aK av->h.get z=some o->h'.get z=some o/\z∉Y):dW Y h' av es n cs:=by
 rcases a with a|⟨b,rfl,hb,g⟩
 ·exact .inl a
 ·obtain⟨h1,h2⟩:=hr b _ (by simp[aK]) g;exact .inr ⟨b,rfl,h2,h1⟩
theorem dW.ni{X:List Nat}{h:ah}{av:AV}{es n:Nat}{cs:List AV}(a:dW X h av es n cs){z:Nat}(hz:z∈aK av):z∉X/\∃o,h.get z=some o:=by
 rcases a with⟨_,_,rfl⟩|⟨b,rfl,hb,g⟩
 ·simp[aK]at hz
 ·simp only[aK,aR]at hz;subst hz;exact⟨hb,_,g⟩
section
variable{I:RI}{s:RS}{H:ah}{lo n fn:Nat}
theorem GA.ago(g:GA I lo n fn H)(p:RP I s H)(Xg:lo<=H.next){nd:Int}(pg:H.get I.g=some (.C [I.l1,I.l2,I.l3,I.l4,.I nd,.I s.dp])){j:Nat}(gj:H.get j=none)(hj:j<H.next)(Qc:lo<=j)(eC:List AV)(Em:eC.length=2)(xL:eC.all AV.scalar=true)(hn:n<=300):
 ∃m H7,aO env (H.set j (.cells true 2 eC)) 49 I.l1 (.S j 1)=some (.S H.next (m+1),H7)/\H7.next=H.next+1/\H7.get I.r=H.get I.r/\H7.get I.g=H.get I.g/\(∀i,i<lo->H7.get i=H.get i)/\m<=n/\
  RP (⟨I.r,I.g,I.b,I.W,.S H.next (m+1),I.l2,I.l3,I.l4⟩:RI) s (H7.set I.g (.C [.S H.next (m+1),I.l2,I.l3,I.l4,.I nd,.I s.dp]))/\GA (⟨I.r,I.g,I.b,I.W,.S H.next (m+1),I.l2,I.l3,I.l4⟩:RI) lo (n+1) fn (H7.set I.g (.C [.S H.next (m+1),I.l2,I.l3,I.l4,.I nd,.I s.dp])):=by
 have g0:=g;obtain⟨⟨m1,c1,b1,r1,u1⟩,⟨m2,c2,b2,r2,u2⟩,⟨c3,b3,r3,u3⟩,⟨m4,c4,b4,r4,u4⟩,l1,l2,l3⟩:=g;have p6:=p.new (.cells true 2 eC) gj hj;have vA:(H.set j (.cells true 2 eC)).next=H.next:=rfl
 have og:=b1.move (Move.new (.cells true 2 eC) gj);obtain⟨H7,ha,nx,g7,k7⟩:=nR (es:=1) (st:=49) (e:=128) rfl ty128.1 ty128.2.1 dc ty128.2.2.2 rfl og r1 om j eC Em xL sp p6.fr;rw[vA]at ha nx g7;have bi:∀z,z∈aK I.l1->z≠I.r/\z≠I.g/\z≠I.b:=fun z hz=>by
  have:=(b1.ni hz).1;simp only[aq,fO]at this;exact⟨this.1,this.2.1,this.2.2.1⟩
 have p7:=p6.off k7 (fun hz=>(bi _ hz).1 rfl) (fun hz=>(bi _ hz).2.1 rfl) (fun hz=>(bi _ hz).2.2 rfl);have ltA:∀z,z∈aK I.l1++aK I.l2++aK I.l3++aK I.l4->z<H.next:=fun z hz=>by
  simp only[aP]at hz;rcases hz with((hz|hz)|hz)|hz
  ·obtain⟨_,o,ho⟩:=b1.ni hz;exact au p.fr ho
  ·obtain⟨_,o,ho⟩:=b2.ni hz;exact au p.fr ho
  ·obtain⟨_,o,ho⟩:=b3.ni hz;exact au p.fr ho
  ·obtain⟨_,o,ho⟩:=b4.ni hz;exact au p.fr ho
 have old:∀z o,H.get z=some o->z∉aK I.l1->H7.get z=some o:=fun z o ho hz=>by
  have jX:z≠j:=fun e=>by rw[e,gj]at ho;cases ho
  rw[k7.old z (by rw[vA];exact au p.fr ho) hz,ah.aM,az jX];exact ho
 have rl:=p.rl;have gl:=p.gl;have bl:=p.bl;have Tv:=old _ _ p.obj (fun hz=>(bi _ hz).1 rfl);have hgg:=old _ _ pg (fun hz=>(bi _ hz).2.1 rfl);have Fc:=old _ _ p.arr (fun hz=>(bi _ hz).2.2 rfl);refine⟨m1,H7,ha,nx,Tv.trans p.obj.symm,hgg.trans pg.symm,fun i hi=>?_,u1,?_,?_⟩
 ·rw[k7.old i (by rw[vA];omega) (fun hz=>by have:=l1 i (by simp only[aP];exact .inl (.inl (.inl hz)));omega),ah.aM,az om]
 ·exact⟨by rw[ah.aM,az p.rg];exact Tv,⟨nd,by rw[ah.aM,aW rfl]⟩,by rw[ah.aM,az p.gb.symm];exact Fc,p.rg,p.rb,p.gb,by simp only[ah.set];omega,by simp only[ah.set];omega,by simp only[ah.set];omega,p7.fr.put _ om,p.kl,p.dd,p.d2,p.Bj⟩
 ·have nw:∀z,z∈I.r::I.g::I.b::(aK I.l1++aK I.l2++aK I.l3++aK I.l4)->z≠H.next:=fun z hz=>by
   simp only[aq]at hz;rcases hz with h1|h1|h1|h1
   ·omega
   ·omega
   ·omega
   ·have:=ltA z h1;omega
  have re:∀(k:AV)(Y:List Nat),(∀z o,z∈aK k->H.get z=some o->z∉aK I.l1/\z≠I.g/\z∉Y)->∀z o,z∈aK k->H.get z=some o->(H7.set I.g (.C [.S H.next (m1+1),I.l2,I.l3,I.l4,.I nd,.I s.dp])).get z=some o/\z∉Y:=fun k Y hk z o hz ho=>by
   obtain⟨w1,w2,w3⟩:=hk z o hz ho;exact⟨by rw[ah.aM,az w2];exact old z o ho w1,w3⟩
  have zi:∀z,(z∈aK I.l1\/z∈aK I.l2\/z∈aK I.l3\/z∈aK I.l4)->z∈aK I.l1++aK I.l2++aK I.l3++aK I.l4:=fun z hz=>by
   simp only[aP];rcases hz with h|h|h|h<;>simp[h]
  refine⟨?_,?_,?_,?_,?_,l2,l3⟩
  ·refine⟨m1+1,_,.inr ⟨H.next,rfl,fun hx=>?_,by rw[ah.aM,az om];exact g7⟩,by simp[r1,Em];omega,om⟩;refine nw H.next ?_ rfl;simp only[aq,aP]at hx⊢;rcases hx with h|h|h|h
   ·exact .inl h
   ·exact .inr (.inl h)
   ·exact .inr (.inr (.inl h))
   ·refine .inr (.inr (.inr ?_));rcases h with(h|h)|h<;>simp[h]
  ·refine⟨m2,c2,b2.re (re _ _ fun z o hz ho=>?_),r2,om⟩;have rM:=(b2.ni hz).1;have cX:=au p.fr ho;simp only[aq,aP,fO,aK,bd,cT]at rM⊢;simp only[rM,dT,rU,jg,qD]
   try omega
  ·refine⟨c3,b3.re (re _ _ fun z o hz ho=>?_),r3,om⟩;have rM:=(b3.ni hz).1;have cX:=au p.fr ho;simp only[aq,aP,fO,aK,bd,cT]at rM⊢;simp only[rM,dT,rU,jg,qD]
   try omega
  ·refine⟨m4,c4,b4.re (re _ _ fun z o hz ho=>?_),r4,om⟩;have rM:=(b4.ni hz).1;have cX:=au p.fr ho;simp only[aq,aP,fO,aK,bd,cT]at rM⊢;simp only[rM,dT,rU,jg,qD]
   try omega
  ·intro z hz;simp only[aP]at hz;rcases hz with((hz|hz)|hz)|hz
   ·simp only[aK,aR]at hz;omega
   ·exact l1 z (zi z (.inr (.inl hz)))
   ·exact l1 z (zi z (.inr (.inr (.inl hz))))
   ·exact l1 z (zi z (.inr (.inr (.inr hz))))
theorem GA.agp(g:GA I lo n fn H)(p:RP I s H)(Xg:lo<=H.next){nd:Int}(pg:H.get I.g=some (.C [I.l1,I.l2,I.l3,I.l4,.I nd,.I s.dp])){j:Nat}(gj:H.get j=none)(hj:j<H.next)(Qc:lo<=j)(eC:List AV)(Em:eC.length=3)(xL:eC.all AV.scalar=true)(hn:n<=300):
 ∃m H7,aO env (H.set j (.cells true 3 eC)) 50 I.l2 (.S j 1)=some (.S H.next (m+1),H7)/\H7.next=H.next+1/\H7.get I.r=H.get I.r/\H7.get I.g=H.get I.g/\(∀i,i<lo->H7.get i=H.get i)/\m<=n/\
  RP (⟨I.r,I.g,I.b,I.W,I.l1,.S H.next (m+1),I.l3,I.l4⟩:RI) s (H7.set I.g (.C [I.l1,.S H.next (m+1),I.l3,I.l4,.I nd,.I s.dp]))/\GA (⟨I.r,I.g,I.b,I.W,I.l1,.S H.next (m+1),I.l3,I.l4⟩:RI) lo (n+1) fn (H7.set I.g (.C [I.l1,.S H.next (m+1),I.l3,I.l4,.I nd,.I s.dp])):=by
 have g0:=g;obtain⟨⟨m1,c1,b1,r1,u1⟩,⟨m2,c2,b2,r2,u2⟩,⟨c3,b3,r3,u3⟩,⟨m4,c4,b4,r4,u4⟩,l1,l2,l3⟩:=g;have p6:=p.new (.cells true 3 eC) gj hj;have vA:(H.set j (.cells true 3 eC)).next=H.next:=rfl
 have og:=b2.move (Move.new (.cells true 3 eC) gj);obtain⟨H7,ha,nx,g7,k7⟩:=nR (es:=2) (st:=50) (e:=130) rfl ty130.1 ty130.2.1 dc ty130.2.2.2 rfl og r2 om j eC Em xL sp p6.fr;rw[vA]at ha nx g7;have bi:∀z,z∈aK I.l2->z≠I.r/\z≠I.g/\z≠I.b:=fun z hz=>by
  have:=(b2.ni hz).1;simp only[aq,fO]at this;exact⟨this.1,this.2.1,this.2.2.1⟩
 have p7:=p6.off k7 (fun hz=>(bi _ hz).1 rfl) (fun hz=>(bi _ hz).2.1 rfl) (fun hz=>(bi _ hz).2.2 rfl);have ltA:∀z,z∈aK I.l1++aK I.l2++aK I.l3++aK I.l4->z<H.next:=fun z hz=>by
  simp only[aP]at hz;rcases hz with((hz|hz)|hz)|hz
  ·obtain⟨_,o,ho⟩:=b1.ni hz;exact au p.fr ho
  ·obtain⟨_,o,ho⟩:=b2.ni hz;exact au p.fr ho
  ·obtain⟨_,o,ho⟩:=b3.ni hz;exact au p.fr ho
  ·obtain⟨_,o,ho⟩:=b4.ni hz;exact au p.fr ho
 have old:∀z o,H.get z=some o->z∉aK I.l2->H7.get z=some o:=fun z o ho hz=>by
  have jX:z≠j:=fun e=>by rw[e,gj]at ho;cases ho
  rw[k7.old z (by rw[vA];exact au p.fr ho) hz,ah.aM,az jX];exact ho
 have rl:=p.rl;have gl:=p.gl;have bl:=p.bl;have Tv:=old _ _ p.obj (fun hz=>(bi _ hz).1 rfl);have hgg:=old _ _ pg (fun hz=>(bi _ hz).2.1 rfl);have Fc:=old _ _ p.arr (fun hz=>(bi _ hz).2.2 rfl);refine⟨m2,H7,ha,nx,Tv.trans p.obj.symm,hgg.trans pg.symm,fun i hi=>?_,u2,?_,?_⟩
 ·rw[k7.old i (by rw[vA];omega) (fun hz=>by have:=l1 i (by simp only[aP];exact .inl (.inl (.inr hz)));omega),ah.aM,az om]
 ·exact⟨by rw[ah.aM,az p.rg];exact Tv,⟨nd,by rw[ah.aM,aW rfl]⟩,by rw[ah.aM,az p.gb.symm];exact Fc,p.rg,p.rb,p.gb,by simp only[ah.set];omega,by simp only[ah.set];omega,by simp only[ah.set];omega,p7.fr.put _ om,p.kl,p.dd,p.d2,p.Bj⟩
 ·have nw:∀z,z∈I.r::I.g::I.b::(aK I.l1++aK I.l2++aK I.l3++aK I.l4)->z≠H.next:=fun z hz=>by
   simp only[aq]at hz;rcases hz with h1|h1|h1|h1
   ·omega
   ·omega
   ·omega
   ·have:=ltA z h1;omega
  have re:∀(k:AV)(Y:List Nat),(∀z o,z∈aK k->H.get z=some o->z∉aK I.l2/\z≠I.g/\z∉Y)->∀z o,z∈aK k->H.get z=some o->(H7.set I.g (.C [I.l1,.S H.next (m2+1),I.l3,I.l4,.I nd,.I s.dp])).get z=some o/\z∉Y:=fun k Y hk z o hz ho=>by
   obtain⟨w1,w2,w3⟩:=hk z o hz ho;exact⟨by rw[ah.aM,az w2];exact old z o ho w1,w3⟩
  have zi:∀z,(z∈aK I.l1\/z∈aK I.l2\/z∈aK I.l3\/z∈aK I.l4)->z∈aK I.l1++aK I.l2++aK I.l3++aK I.l4:=fun z hz=>by
   simp only[aP];rcases hz with h|h|h|h<;>simp[h]
  refine⟨?_,?_,?_,?_,?_,l2,l3⟩
  ·refine⟨m1,c1,b1.re (re _ _ fun z o hz ho=>?_),r1,om⟩;have rM:=(b1.ni hz).1;have cX:=au p.fr ho;simp only[aq,aP,fO,aK,bd,cT]at rM⊢;simp only[rM,dT,rU,jg,qD]
   try omega
  ·refine⟨m2+1,_,.inr ⟨H.next,rfl,fun hx=>?_,by rw[ah.aM,az om];exact g7⟩,by simp[r2,Em];omega,om⟩;refine nw H.next ?_ rfl;simp only[aq,aP]at hx⊢;rcases hx with h|h|h|h
   ·exact .inl h
   ·exact .inr (.inl h)
   ·exact .inr (.inr (.inl h))
   ·refine .inr (.inr (.inr ?_));rcases h with(h|h)|h<;>simp[h]
  ·refine⟨c3,b3.re (re _ _ fun z o hz ho=>?_),r3,om⟩;have rM:=(b3.ni hz).1;have cX:=au p.fr ho;simp only[aq,aP,fO,aK,bd,cT]at rM⊢;simp only[rM,dT,rU,jg,qD]
   try omega
  ·refine⟨m4,c4,b4.re (re _ _ fun z o hz ho=>?_),r4,om⟩;have rM:=(b4.ni hz).1;have cX:=au p.fr ho;simp only[aq,aP,fO,aK,bd,cT]at rM⊢;simp only[rM,dT,rU,jg,qD]
   try omega
  ·intro z hz;simp only[aP]at hz;rcases hz with((hz|hz)|hz)|hz
   ·exact l1 z (zi z (.inl hz))
   ·simp only[aK,aR]at hz;omega
   ·exact l1 z (zi z (.inr (.inr (.inl hz))))
   ·exact l1 z (zi z (.inr (.inr (.inr hz))))
theorem GA.agq(g:GA I lo n fn H)(p:RP I s H)(Xg:lo<=H.next){nd:Int}(pg:H.get I.g=some (.C [I.l1,I.l2,I.l3,I.l4,.I nd,.I s.dp])){j:Nat}(gj:H.get j=none)(hj:j<H.next)(Qc:lo<=j)(eC:List AV)(Em:eC.length=5)(xL:eC.all AV.scalar=true)(hn:n<=300):
 ∃m H7,aO env (H.set j (.cells true 5 eC)) 51 I.l3 (.S j 1)=some (.S H.next (m+1),H7)/\H7.next=H.next+1/\H7.get I.r=H.get I.r/\H7.get I.g=H.get I.g/\(∀i,i<lo->H7.get i=H.get i)/\m=fn/\m<=n/\
  RP (⟨I.r,I.g,I.b,I.W,I.l1,I.l2,.S H.next (m+1),I.l4⟩:RI) s (H7.set I.g (.C [I.l1,I.l2,.S H.next (m+1),I.l4,.I nd,.I s.dp]))/\GA (⟨I.r,I.g,I.b,I.W,I.l1,I.l2,.S H.next (m+1),I.l4⟩:RI) lo (n+1) (fn+1) (H7.set I.g (.C [I.l1,I.l2,.S H.next (m+1),I.l4,.I nd,.I s.dp])):=by
 have g0:=g;obtain⟨⟨m1,c1,b1,r1,u1⟩,⟨m2,c2,b2,r2,u2⟩,⟨c3,b3,r3,u3⟩,⟨m4,c4,b4,r4,u4⟩,l1,l2,l3⟩:=g;have p6:=p.new (.cells true 5 eC) gj hj;have vA:(H.set j (.cells true 5 eC)).next=H.next:=rfl
 have og:=b3.move (Move.new (.cells true 5 eC) gj);obtain⟨H7,ha,nx,g7,k7⟩:=nR (es:=4) (st:=51) (e:=136) rfl ty136.1 ty136.2.1 dc ty136.2.2.2 rfl og r3 om j eC Em xL sp p6.fr;rw[vA]at ha nx g7;have bi:∀z,z∈aK I.l3->z≠I.r/\z≠I.g/\z≠I.b:=fun z hz=>by
  have:=(b3.ni hz).1;simp only[aq,fO]at this;exact⟨this.1,this.2.1,this.2.2.1⟩
 have p7:=p6.off k7 (fun hz=>(bi _ hz).1 rfl) (fun hz=>(bi _ hz).2.1 rfl) (fun hz=>(bi _ hz).2.2 rfl);have ltA:∀z,z∈aK I.l1++aK I.l2++aK I.l3++aK I.l4->z<H.next:=fun z hz=>by
  simp only[aP]at hz;rcases hz with((hz|hz)|hz)|hz
  ·obtain⟨_,o,ho⟩:=b1.ni hz;exact au p.fr ho
  ·obtain⟨_,o,ho⟩:=b2.ni hz;exact au p.fr ho
  ·obtain⟨_,o,ho⟩:=b3.ni hz;exact au p.fr ho
  ·obtain⟨_,o,ho⟩:=b4.ni hz;exact au p.fr ho
 have old:∀z o,H.get z=some o->z∉aK I.l3->H7.get z=some o:=fun z o ho hz=>by
  have jX:z≠j:=fun e=>by rw[e,gj]at ho;cases ho
  rw[k7.old z (by rw[vA];exact au p.fr ho) hz,ah.aM,az jX];exact ho
 have rl:=p.rl;have gl:=p.gl;have bl:=p.bl;have Tv:=old _ _ p.obj (fun hz=>(bi _ hz).1 rfl);have hgg:=old _ _ pg (fun hz=>(bi _ hz).2.1 rfl);have Fc:=old _ _ p.arr (fun hz=>(bi _ hz).2.2 rfl);refine⟨fn,H7,ha,nx,Tv.trans p.obj.symm,hgg.trans pg.symm,fun i hi=>?_,rfl,u3,?_,?_⟩
 ·rw[k7.old i (by rw[vA];omega) (fun hz=>by have:=l1 i (by simp only[aP];exact .inl (.inr hz));omega),ah.aM,az om]
 ·exact⟨by rw[ah.aM,az p.rg];exact Tv,⟨nd,by rw[ah.aM,aW rfl]⟩,by rw[ah.aM,az p.gb.symm];exact Fc,p.rg,p.rb,p.gb,by simp only[ah.set];omega,by simp only[ah.set];omega,by simp only[ah.set];omega,p7.fr.put _ om,p.kl,p.dd,p.d2,p.Bj⟩
 ·have nw:∀z,z∈I.r::I.g::I.b::(aK I.l1++aK I.l2++aK I.l3++aK I.l4)->z≠H.next:=fun z hz=>by
   simp only[aq]at hz;rcases hz with h1|h1|h1|h1
   ·omega
   ·omega
   ·omega
   ·have:=ltA z h1;omega
  have re:∀(k:AV)(Y:List Nat),(∀z o,z∈aK k->H.get z=some o->z∉aK I.l3/\z≠I.g/\z∉Y)->∀z o,z∈aK k->H.get z=some o->(H7.set I.g (.C [I.l1,I.l2,.S H.next (fn+1),I.l4,.I nd,.I s.dp])).get z=some o/\z∉Y:=fun k Y hk z o hz ho=>by
   obtain⟨w1,w2,w3⟩:=hk z o hz ho;exact⟨by rw[ah.aM,az w2];exact old z o ho w1,w3⟩
  have zi:∀z,(z∈aK I.l1\/z∈aK I.l2\/z∈aK I.l3\/z∈aK I.l4)->z∈aK I.l1++aK I.l2++aK I.l3++aK I.l4:=fun z hz=>by
   simp only[aP];rcases hz with h|h|h|h<;>simp[h]
  refine⟨?_,?_,?_,?_,?_,l2,l3⟩
  ·refine⟨m1,c1,b1.re (re _ _ fun z o hz ho=>?_),r1,om⟩;have rM:=(b1.ni hz).1;have cX:=au p.fr ho;simp only[aq,aP,fO,aK,bd,cT]at rM⊢;simp only[rM,dT,rU,jg,qD]
   try omega
  ·refine⟨m2,c2,b2.re (re _ _ fun z o hz ho=>?_),r2,om⟩;have rM:=(b2.ni hz).1;have cX:=au p.fr ho;simp only[aq,aP,fO,aK,bd,cT]at rM⊢;simp only[rM,dT,rU,jg,qD]
   try omega
  ·refine⟨_,.inr ⟨H.next,rfl,fun hx=>?_,by rw[ah.aM,az om];exact g7⟩,by simp[r3,Em];omega,om⟩;refine nw H.next ?_ rfl;simp only[aq,aP]at hx⊢;rcases hx with h|h|h|h
   ·exact .inl h
   ·exact .inr (.inl h)
   ·exact .inr (.inr (.inl h))
   ·refine .inr (.inr (.inr ?_));rcases h with(h|h)|h<;>simp[h]
  ·refine⟨m4,c4,b4.re (re _ _ fun z o hz ho=>?_),r4,om⟩;have rM:=(b4.ni hz).1;have cX:=au p.fr ho;simp only[aq,aP,fO,aK,bd,cT]at rM⊢;simp only[rM,dT,rU,jg,qD]
   try omega
  ·intro z hz;simp only[aP]at hz;rcases hz with((hz|hz)|hz)|hz
   ·exact l1 z (zi z (.inl hz))
   ·exact l1 z (zi z (.inr (.inl hz)))
   ·simp only[aK,aR]at hz;omega
   ·exact l1 z (zi z (.inr (.inr (.inr hz))))
theorem GA.abn(g:GA I lo n fn H)(p:RP I s H)(Xg:lo<=H.next){nd:Int}(pg:H.get I.g=some (.C [I.l1,I.l2,I.l3,I.l4,.I nd,.I s.dp])){j:Nat}(gj:H.get j=none)(hj:j<H.next)(Qc:lo<=j)(eC:List AV)(Em:eC.length=2)(xL:eC.all AV.scalar=true)(hn:n<=300):
 ∃m H7,aO env (H.set j (.cells true 2 eC)) 52 I.l4 (.S j 1)=some (.S H.next (m+1),H7)/\H7.next=H.next+1/\H7.get I.r=H.get I.r/\H7.get I.g=H.get I.g/\(∀i,i<lo->H7.get i=H.get i)/\m<=n/\
  RP (⟨I.r,I.g,I.b,I.W,I.l1,I.l2,I.l3,.S H.next (m+1)⟩:RI) s (H7.set I.g (.C [I.l1,I.l2,I.l3,.S H.next (m+1),.I nd,.I s.dp]))/\GA (⟨I.r,I.g,I.b,I.W,I.l1,I.l2,I.l3,.S H.next (m+1)⟩:RI) lo (n+1) fn (H7.set I.g (.C [I.l1,I.l2,I.l3,.S H.next (m+1),.I nd,.I s.dp])):=by
 have g0:=g;obtain⟨⟨m1,c1,b1,r1,u1⟩,⟨m2,c2,b2,r2,u2⟩,⟨c3,b3,r3,u3⟩,⟨m4,c4,b4,r4,u4⟩,l1,l2,l3⟩:=g;have p6:=p.new (.cells true 2 eC) gj hj;have vA:(H.set j (.cells true 2 eC)).next=H.next:=rfl
 have og:=b4.move (Move.new (.cells true 2 eC) gj);obtain⟨H7,ha,nx,g7,k7⟩:=nR (es:=1) (st:=52) (e:=133) rfl ty133.1 ty133.2.1 dc ty133.2.2.2 rfl og r4 om j eC Em xL sp p6.fr;rw[vA]at ha nx g7;have bi:∀z,z∈aK I.l4->z≠I.r/\z≠I.g/\z≠I.b:=fun z hz=>by
  have:=(b4.ni hz).1;simp only[aq,fO]at this;exact⟨this.1,this.2.1,this.2.2.1⟩
 have p7:=p6.off k7 (fun hz=>(bi _ hz).1 rfl) (fun hz=>(bi _ hz).2.1 rfl) (fun hz=>(bi _ hz).2.2 rfl);have ltA:∀z,z∈aK I.l1++aK I.l2++aK I.l3++aK I.l4->z<H.next:=fun z hz=>by
  simp only[aP]at hz;rcases hz with((hz|hz)|hz)|hz
  ·obtain⟨_,o,ho⟩:=b1.ni hz;exact au p.fr ho
  ·obtain⟨_,o,ho⟩:=b2.ni hz;exact au p.fr ho
  ·obtain⟨_,o,ho⟩:=b3.ni hz;exact au p.fr ho
  ·obtain⟨_,o,ho⟩:=b4.ni hz;exact au p.fr ho
 have old:∀z o,H.get z=some o->z∉aK I.l4->H7.get z=some o:=fun z o ho hz=>by
  have jX:z≠j:=fun e=>by rw[e,gj]at ho;cases ho
  rw[k7.old z (by rw[vA];exact au p.fr ho) hz,ah.aM,az jX];exact ho
 have rl:=p.rl;have gl:=p.gl;have bl:=p.bl;have Tv:=old _ _ p.obj (fun hz=>(bi _ hz).1 rfl);have hgg:=old _ _ pg (fun hz=>(bi _ hz).2.1 rfl);have Fc:=old _ _ p.arr (fun hz=>(bi _ hz).2.2 rfl);refine⟨m4,H7,ha,nx,Tv.trans p.obj.symm,hgg.trans pg.symm,fun i hi=>?_,u4,?_,?_⟩
 ·rw[k7.old i (by rw[vA];omega) (fun hz=>by have:=l1 i (by simp only[aP];exact .inr hz);omega),ah.aM,az om]
 ·exact⟨by rw[ah.aM,az p.rg];exact Tv,⟨nd,by rw[ah.aM,aW rfl]⟩,by rw[ah.aM,az p.gb.symm];exact Fc,p.rg,p.rb,p.gb,by simp only[ah.set];omega,by simp only[ah.set];omega,by simp only[ah.set];omega,p7.fr.put _ om,p.kl,p.dd,p.d2,p.Bj⟩
 ·have nw:∀z,z∈I.r::I.g::I.b::(aK I.l1++aK I.l2++aK I.l3++aK I.l4)->z≠H.next:=fun z hz=>by
   simp only[aq]at hz;rcases hz with h1|h1|h1|h1
   ·omega
   ·omega
   ·omega
   ·have:=ltA z h1;omega
  have re:∀(k:AV)(Y:List Nat),(∀z o,z∈aK k->H.get z=some o->z∉aK I.l4/\z≠I.g/\z∉Y)->∀z o,z∈aK k->H.get z=some o->(H7.set I.g (.C [I.l1,I.l2,I.l3,.S H.next (m4+1),.I nd,.I s.dp])).get z=some o/\z∉Y:=fun k Y hk z o hz ho=>by
   obtain⟨w1,w2,w3⟩:=hk z o hz ho;exact⟨by rw[ah.aM,az w2];exact old z o ho w1,w3⟩
  have zi:∀z,(z∈aK I.l1\/z∈aK I.l2\/z∈aK I.l3\/z∈aK I.l4)->z∈aK I.l1++aK I.l2++aK I.l3++aK I.l4:=fun z hz=>by
   simp only[aP];rcases hz with h|h|h|h<;>simp[h]
  refine⟨?_,?_,?_,?_,?_,l2,l3⟩
  ·refine⟨m1,c1,b1.re (re _ _ fun z o hz ho=>?_),r1,om⟩;have rM:=(b1.ni hz).1;have cX:=au p.fr ho;simp only[aq,aP,fO,aK,bd,cT]at rM⊢;simp only[rM,dT,rU,jg,qD]
   try omega
  ·refine⟨m2,c2,b2.re (re _ _ fun z o hz ho=>?_),r2,om⟩;have rM:=(b2.ni hz).1;have cX:=au p.fr ho;simp only[aq,aP,fO,aK,bd,cT]at rM⊢;simp only[rM,dT,rU,jg,qD]
   try omega
  ·refine⟨c3,b3.re (re _ _ fun z o hz ho=>?_),r3,om⟩;have rM:=(b3.ni hz).1;have cX:=au p.fr ho;simp only[aq,aP,fO,aK,bd,cT]at rM⊢;simp only[rM,dT,rU,jg,qD]
   try omega
  ·refine⟨m4+1,_,.inr ⟨H.next,rfl,fun hx=>?_,by rw[ah.aM,az om];exact g7⟩,by simp[r4,Em];omega,om⟩;refine nw H.next ?_ rfl;simp only[aq,aP]at hx⊢;rcases hx with h|h|h|h
   ·exact .inl h
   ·exact .inr (.inl h)
   ·exact .inr (.inr (.inl h))
   ·refine .inr (.inr (.inr ?_));rcases h with(h|h)|h<;>simp[h]
  ·intro z hz;simp only[aP]at hz;rcases hz with((hz|hz)|hz)|hz
   ·exact l1 z (zi z (.inl hz))
   ·exact l1 z (zi z (.inr (.inl hz)))
   ·exact l1 z (zi z (.inr (.inr (.inl hz))))
   ·simp only[aK,aR]at hz;omega
end
end
end Go.Proofs.YtgebeldoibkkpaaGreatDoor
