/- Lemmas for CheckTurns; each states its own conditions. -/
import Derived.Test.YtaekaifihehgdaaGreatDoorI
set_option maxRecDepth 100000
set_option maxHeartbeats 0
set_option linter.unusedSimpArgs false
set_option linter.unusedVariables false
namespace Go.Proofs.YtaekaifihehgdaaGreatDoor
open Go.Am Tryz
def RS.ms(s:RS)(l:Nat):Nat:=2*(l-s.k)+cond s.bad 0 1
theorem Dc{s s':RS}{l:Nat}(a:jA s s')(b:s.bad=false)(e:s'.bad=false->s.k<s'.k)(f:s'.k<=l):s'.ms l<s.ms l:=by
 have:=a.k;unfold RS.ms;rw[b];cases h:s'.bad with
 |true=>simp only[cond_true,xW];omega
 |false=>have:=e h;simp only[xW];omega
def Ep(b:Nat)(ws bH:List Wo)(l:List Ex):Prop:=(∃c,ws=c::bH/\eX c [41]/\l=[])\/∃c dR,ws=c::dR/\eX c [44]/\G .args b dR bH (.es l)
theorem Ep.one{b:Nat}{ws bQ bH:dh}{e:Ex}{l:List Ex}(he:G (.bin 0) b ws bQ (.e e))(h:Ep b bQ bH l):G .args b ws bH (.es (e::l)):=by
 rcases h with⟨c,rfl,a,rfl⟩|⟨c,dR,rfl,a,hr⟩
 ·exact .Ec he a
 ·exact .Co he a hr
theorem BS(a b:List Ex):Kt (a++b)=Kt a++Kt b:=by simp[Em]
structure Uj(I:RI)(s s5:RS)(PY:List Wo)(qs:List (Nat×RN))(es:List Ex):Prop where
 dep:s5.dep=s.dep
 map:qs.map Prod.snd=Kt es
 nil:es=[]->I.W.drop s5.k=PY
 cons:es≠[]->bF PY [41]=false/\s.dep+1<=s5.dp/\∀b,s5.dp<=s.dep+1+b->∀bH l,Ep b (I.W.drop s5.k) bH l->G .args b PY bH (.es (es++l))
theorem Ka{n:Nat}(IH:∀n',n'<n->HB n'):J7 177 [] .ed 0 0 1202 n:=by
 intro I s h X Q hn p xo hd hQ;refine wb fn177 rfl ?_;have wl:=p.AE.len;have p0:=p;obtain⟨o,⟨nd,pg⟩,ar,rg,rb,gb,rl,gl,bl,fr,kl,dd,d2,ok⟩:=p;simp[f177];refine Dd ?_;have fail:∀h2,aJ h h2->∀h3,h3=((h2.set I.r (.C [.S I.b I.W.length,.I s.k,.bool true,.P I.g,.I s.dep])).alloc (.C [.str [110,117,109],.str [],.str [],.I 0,.Z,.str [],.I 0])).2->∀id,Q (.ret (.P id)) h3:=by
  rintro h2 k2 h3 rfl id
  have kx:aR I.X h2 (h2.set I.r (.C [.S I.b I.W.length,.I s.k,.bool true,.P I.g,.I s.dep])):=aR.set _ (aR.refl _ _) (.inl (by simp[RI.X])) (aq rl k2.nx);have p2:=(p0.aH k2).yX (s':={s with bad:=true}) kx sp ⟨nd,by rw[ah.aM,ay rg.symm];exact(k2.old _ gl).trans pg⟩ kl dd d2;have k3:aJ (h2.set I.r (.C [.S I.b I.W.length,.I s.k,.bool true,.P I.g,.I s.dep])) _:=(aJ.refl _).alloc (.C [.str [110,117,109],.str [],.str [],.I 0,.Z,.str [],.I 0]);exact hQ id (.qp (0,0)) _ _ (p2.aH k3) (jA.of (ao _) rfl (ao _) sp) (by simp only;omega) sp ((k2.x _).trans (kx.trans (k3.x _)))
 cases hb:s.bad with
 |true=>
  simp[o,hb];exact fail (h.bump 16) kT _ rfl _
 |false=>
  cases hw:I.W.drop s.k with
  |nil=>
   have hl:=AT hw;have h1:(I.W.length:Int)<=(s.k:Int):=om;simp[o,hb,h1];exact fail (h.bump 16) kT _ rfl _
  |cons w rs=>
   have hl:=fJ hw;have C5:=lI hw;obtain⟨c0,c1,c2,d0,d3,l5,l3⟩:=vX hw;have h1:¬(I.W.length:Int)<=(s.k:Int):=om;have h2:¬I.W.length<=s.k:=om;simp[o,hb,h1];refine Dd ?_;simp only[Wo.cells]at d0;have f26:=fr (h.nx+26) om;simp[o,hb,hl,ar,d0,l5,f26];refine dm ?_;have KA:aJ h ((((h.bump 16).bump 12).set (h.nx+26) (.C [.I 0,.str [],.I 0,.I 0,.I 0])).set (h.nx+26) (.C [.I w.kind,.str w.text,.I w.n,.I w.l,.I w.c])):=kT;have gA:((((h.bump 16).bump 12).set (h.nx+26) (.C [.I 0,.str [],.I 0,.I 0,.I 0])).set (h.nx+26) (.C [.I w.kind,.str w.text,.I w.n,.I w.l,.I w.c])).get (h.nx+26)=some (.C [.I w.kind,.str w.text,.I w.n,.I w.l,.I w.c]):=sp;have nA:h.nx+26<((((h.bump 16).bump 12).set (h.nx+26) (.C [.I 0,.str [],.I 0,.I 0,.I 0])).set (h.nx+26) (.C [.I w.kind,.str w.text,.I w.n,.I w.l,.I w.c])).nx:=by simp
   generalize (((h.bump 16).bump 12).set (h.nx+26) (.C [.I 0,.str [],.I 0,.I 0,.I 0])).set (h.nx+26) (.C [.I w.kind,.str w.text,.I w.n,.I w.l,.I w.c])=hA at*;have pA:=p0.aH KA;have B:=pA.bl;refine xO [110,117,109] (ok:=True) (X:=X) (h0:=hA) pA (aR.refl _ _) (xo.le KA.nx) λiT h3 p3 k3 m3=>?_;have g3:=(k3.old (h.nx+26) nA (by simp[RI.X];omega)).trans gA;have gT:=m3.get;simp only[ND.obj]at gT;generalize h.nx+26=wI at*;have done:∀(e:Ex)(s':RS)(h':ah)(d:ND),RP I s' h'->jA s s'->NM I X hA iT (s'.bad=false) d h'->(s'.bad=false->s.k<s'.k/\(∀b,s'.dp<=s.dep+b->G .ed b (I.W.drop s.k) (I.W.drop s'.k) (.e e))/\d.op=e.rn.op/\d.nm=e.rn.nm/\d.ty=e.rn.ty/\d.n=e.rn.n/\d.qs.map Prod.snd=e.rn.ks)->Q (.ret (.P iT)) h':=λe s' h' d p' a' m' f'=>
    hQ iT e s' h' p' a' (by have:=p'.dd;have:=a'.lo;omega) (λa=>by
     obtain⟨q1,q2,q3,q4,q5,q6,q7⟩:=f' a;exact⟨q1,λb K=>q2 b om,m'.done a _ q3 q4 q5 q6 q7⟩) ((KA.x _).trans m'.kx)
   rw[hw]at done;have C6:∀P:Prop,NM I X hA iT P ⟨[110,117,109],[],[],0,.Z,[]⟩ h3:=λP=>m3.mg λ_=>trivial;cases A2:(w.kind==2)with
   |true=>
    have A3:w.kind=2:=(U7 A2);simp[g3,A2];refine Gg p3 λv s4 h4 p4 a4 I3 d4 hv f4 k4=>?_;have m4:=(C6 (s4.bad=false)).call p3.fr k4;have g4:=m4.get;simp only[ND.obj]at g4;simp[g4];obtain⟨h5,e5,m5,p5⟩:=m4.put p4 B ⟨[110,117,109],[],[],v,.Z,[]⟩ rfl rfl;simp only[ND.obj]at e5;rw[e5];refine done (.num w.at v) s4 h5 _ p5 a4 m5 λa=>?_;obtain⟨w',A4,q1,q2,q3,q4,q5⟩:=f4 a;rw[hw]at q1;cases q1;exact⟨om,λb _=>by rw[q4,q3];exact .num A3,rfl,rfl,rfl,rfl,rfl⟩
   |false=>
   cases C2:(w.kind==1)with
   |true=>
    have A3:w.kind=1:=(U7 C2);simp[g3,A2,C2,gT];obtain⟨h4,e4,m4,p4⟩:=m3.put p3 B ⟨[110,97,109,101],[],[],0,.Z,[]⟩ rfl rfl;simp only[ND.obj]at e4;rw[e4];refine vW p4 λnm s5 h5 p5 a5 I4 d5 I5 f5 k5=>?_;have m5:=m4.call p4.fr k5;have g5:=m5.get;simp only[ND.obj]at g5;simp[g5];obtain⟨h6,e6,m6,i⟩:=m5.put p5 B ⟨[110,97,109,101],nm,[],0,.Z,[]⟩ rfl rfl;simp only[ND.obj]at e6;rw[e6];refine gO i (λU h7 u V=>?_) λU h7 u V=>?_
    ·obtain⟨F7,c,Z,C7,hc,GL⟩:=eL U;obtain⟨w',A4,q1,q2,q3,q4,q5⟩:=f5 F7;have I6:=fJ C7;rw[hw]at q1;cases q1;subst q3;have m7:=m6.call i.fr V;have g7:=m7.get;simp only[ND.obj]at g7;simp[g7];obtain⟨h8,e8,m8,p8⟩:=m7.put u B ⟨[99,97,108,108],w.text,[],0,.Z,[]⟩ rfl rfl;simp only[ND.obj]at e8;rw[e8];have a8:jA s {s5 with k:=s5.k+1}:=a5.trans (jA.of (cp _) rfl (ao _) id);obtain⟨J,hJ⟩:∃J:Nat->St->Prop,J=(λm x=>∃s5 av qs es,m=s5.ms I.W.length/\x.n=141/\x.ds=[]/\x.bX=false/\RP I s5 x.h/\NM I X hA iT (s5.bad=false) ⟨[99,97,108,108],w.text,[],0,av,qs⟩ x.h/\jA s s5/\(s5.bad=false->qs.length<=s5.k)/\s.k+1<s5.k/\(s5.bad=false->Uj I s s5 Z qs es)/\
      x.rg.get 0=some (.P I.r)/\x.rg.get 4=some (.P iT)):=⟨_,rfl⟩
     refine bz J (RS.ms {s5 with k:=s5.k+1} I.W.length) ?_ ?_
     ·rw[hJ];exact⟨{s5 with k:=s5.k+1},.Z,[],[],rfl,rfl,rfl,rfl,p8,m8.mg (λ_=>trivial),a8,λ_=>sp,by simp only;omega,λ_=>⟨a5.dep F7,rfl,λ_=>GL,λh=>(h rfl).elim⟩,sp,sp⟩
     clear e8 m8 p8 g7 m7 u V e6 m6 i g5 m5 p5 k5 e4 m4 p4 gT g3 m3 p3 k3 C6;intro m st FF;have FO:=FF;rw[hJ]at FO;obtain⟨rg,n',H,ds,bX⟩:=st;obtain⟨N,av,qs,es,rfl,e1,e2,e3,i,m6,R,C3,IB,f6,r0,r4⟩:=FO;dsimp only at e1 e2 e3 i m6 r0 r4;subst e1 e2 e3;have o6:=i.obj;have Ia:=i.kl;have g6:=m6.get;simp only[ND.obj]at g6;obtain⟨ab,C8⟩:∃ab,av= .slice ab qs.length:=by
      rcases m6.arr with⟨h1,h2⟩|⟨b,h1,_,_⟩
      ·simp only at h1 h2;subst h1;exact⟨none,h2⟩
      ·exact⟨some (b,0),h1⟩
     cases j:N.bad with
     |true=>
      simp[r0,r4,o6,j];exact done (.qp (0,0)) N H _ i R m6 (λa=>by rw[j]at a;cases a)
     |false=>
      have S:=f6 j;simp[r0,o6,j];refine gO i (λU h7 u V=>?_) λU h7 u V=>?_
      ·obtain⟨_,c2,C9,FP,FQ,Gq⟩:=eL U;have m7:=m6.call i.fr V;simp[r4];refine done (.call w.at w.text es) {N with k:=N.k+1} h7 _ u (R.trans (jA.of (cp _) rfl (ao _) id)) m7 λa=>⟨by simp only;omega,λb K=>?_,rfl,rfl,rfl,rfl,S.map⟩
       simp only at K⊢;rw[Gq];rw[q4]at C7;rw[C7];cases D:es with
       |nil=>
        have:=S.nil D;rw[FP]at this;rw[<-this];exact .tT A3 hc FQ
       |cons e1 H2=>
        obtain⟨u1,u2,u3⟩:=S.cons (by rw[D];simp);obtain⟨b',rfl⟩:∃b',b=b'+1:=⟨b-1,om⟩
        have:=u3 b' om C9 [] (.inl ⟨c2,FP,FQ,rfl⟩);rw[fi,D]at this;exact .call A3 hc u1 this
      ·have m7:=m6.aH i.fr V;have g7:=m7.get;simp only[ND.obj]at g7;have C4:=gQ U j;rcases Nat.eq_zero_or_pos qs.length with A1|A1
       ·have H3:qs=[]:=cI A1;rw[A1]at C8;simp[r4,g7,C8];have D:es=[]:=by
         have:=S.map;rw[H3]at this;cases es with
         |nil=>rfl
         |cons e1 H2=>simp[Kt]at this
        have C:=u;have m9:=m7;have a9:=jA.refl N;have d9:N.dp=N.dp:=rfl;have CL:N.bad=false->(es=[]/\I.W.drop N.k=Z)\/(es≠[]/\∃c,I.W.drop N.k=c::I.W.drop N.k/\eX c [44]):=λ_=> .inl ⟨D,S.nil D⟩;have g9:=m9.get;simp only[ND.obj]at g9;refine Dd ?_;simp[-aK,r0,r4,g9];refine dm ?_;have KB:=(aJ.refl h7).bump 12;have mb:=m9.aH C.fr KB;have pb:=C.aH KB;have fj:=C.fr (h7.nx+7) om;have H4:=m9.kx.nx;have H5:=a9.lo;have H6:=a9.wM;have H8:=C.kl;have F0:=R.wM;have F1:=R.k;have H9:=S.dep;have AE:=C.AE.len;refine(IH (I.W.length-N.k) om).ex I N _ _ _ rfl pb mb.oz om λid t sA FW O y lA fA kA=>?_;have mA:=mb.call pb.fr kA;have F2:=mA.get;simp only[ND.obj]at F2;have oj:=kA.old (h7.nx+7) sp (by have:=C.rl;have:=C.gl;simp[RI.X];omega);have nA:=kA.nx;have HA:=y.k;have F3:=O.kl;simp[fj]at oj nA;simp[-aK];refine dm ?_;simp[-aK,oj];obtain⟨H7,A5,Au,HC,mC,pC⟩:=mA.push O B (rJ:=sA.bad=false) (λo=>a9.bad (y.bad o)) (λo=>(fA o).2.2) oj om om (by have:=C3 j;simp only;omega);simp only[ND.obj]at A5 Au mC pC;rw[A5];simp[-aK,Au];refine dm ?_;rw[hJ];refine⟨sA.ms I.W.length,Dc (a9.trans y) j (λa=>by have:=(fA a).1;omega) F3,sA,_,_,es++[t],rfl,rfl,rfl,rfl,pC,mC,R.trans (a9.trans y),λa=>by have:=C3 j;have:=(fA a).1;simp;omega,om,λa=>?_,by simp[r0],by simp[r4]⟩;have C1:=y.bad a;obtain⟨v1,v2,v3⟩:=fA a;have dA:=y.dep a;have HE:=y.dp;have HG:=a9.dep C1;refine⟨om,by simp[S.map,BS,Kt],λh=>by simp at h,λ_=>?_⟩;rcases CL C1 with⟨w1,w2⟩|⟨w1,cc,w2,w3⟩
        ·have F4:=S.nil w1;rw[F4]at C4;refine⟨C4,om,λb K bH l hT=>?_⟩;have:=hT.one (v2 b om);rw[w2]at this;rw[w1];exact this
        ·obtain⟨x1,x2,x3⟩:=S.cons w1;refine⟨x1,om,λb K bH l hT=>?_⟩;have:=x3 b om bH (t::l) (.inr ⟨cc,_,w2,w3,hT.one (v2 b om)⟩);rw[aU];exact this
       ·simp[r0,r4,g7,C8,show 0<qs.length from A1];refine gd u λs9 h9 C a9 Ik d9 f9 k9=>?_;simp;have D:es≠[]:=by
         intro e;have:=nt List.length S.map;rw[e]at this;simp[Kt]at this;rw[this]at A1;simp at A1
        have m9:=m7.call u.fr k9;have CL:s9.bad=false->(es=[]/\I.W.drop s9.k=Z)\/(es≠[]/\∃c,I.W.drop N.k=c::I.W.drop s9.k/\eX c [44]):=λa=>by
         obtain⟨c3,J2,v1,v2,v3,v4⟩:=f9 a;exact .inr ⟨D,c3,by rw[v1,v3],v2⟩
        have g9:=m9.get;simp only[ND.obj]at g9;refine Dd ?_;simp[-aK,r0,r4,g9];refine dm ?_;have KB:=(aJ.refl h9).bump 12;have mb:=m9.aH C.fr KB;have pb:=C.aH KB;have fj:=C.fr (h9.nx+7) om;have H4:=m9.kx.nx;have H5:=a9.lo;have H6:=a9.wM;have H8:=C.kl;have F0:=R.wM;have F1:=R.k;have H9:=S.dep;have AE:=C.AE.len;refine(IH (I.W.length-s9.k) om).ex I s9 _ _ _ rfl pb mb.oz om λid t sA FW O y lA fA kA=>?_;have mA:=mb.call pb.fr kA;have F2:=mA.get;simp only[ND.obj]at F2;have oj:=kA.old (h9.nx+7) sp (by have:=C.rl;have:=C.gl;simp[RI.X];omega);have nA:=kA.nx;have HA:=y.k;have F3:=O.kl;simp[fj]at oj nA;simp[-aK];refine dm ?_;simp[-aK,oj];obtain⟨H7,A5,Au,HC,mC,pC⟩:=mA.push O B (rJ:=sA.bad=false) (λo=>a9.bad (y.bad o)) (λo=>(fA o).2.2) oj om om (by have:=C3 j;simp only;omega);simp only[ND.obj]at A5 Au mC pC;rw[A5];simp[-aK,Au];refine dm ?_;rw[hJ];refine⟨sA.ms I.W.length,Dc (a9.trans y) j (λa=>by have:=(fA a).1;omega) F3,sA,_,_,es++[t],rfl,rfl,rfl,rfl,pC,mC,R.trans (a9.trans y),λa=>by have:=C3 j;have:=(fA a).1;simp;omega,om,λa=>?_,by simp[r0],by simp[r4]⟩;have C1:=y.bad a;obtain⟨v1,v2,v3⟩:=fA a;have dA:=y.dep a;have HE:=y.dp;have HG:=a9.dep C1;refine⟨om,by simp[S.map,BS,Kt],λh=>by simp at h,λ_=>?_⟩;rcases CL C1 with⟨w1,w2⟩|⟨w1,cc,w2,w3⟩
        ·have F4:=S.nil w1;rw[F4]at C4;refine⟨C4,om,λb K bH l hT=>?_⟩;have:=hT.one (v2 b om);rw[w2]at this;rw[w1];exact this
        ·obtain⟨x1,x2,x3⟩:=S.cons w1;refine⟨x1,om,λb K bH l hT=>?_⟩;have:=x3 b om bH (t::l) (.inr ⟨cc,_,w2,w3,hT.one (v2 b om)⟩);rw[aU];exact this
    ·have m7:=m6.aH i.fr V;simp;refine done (.var w.at nm) s5 h7 _ u a5 (m7.mg λ_=>trivial) λa=>?_;obtain⟨w',A4,q1,q2,q3,q4,q5⟩:=f5 a;rw[hw]at q1;cases q1;have:=gQ U a;rw[q4]at this;exact⟨om,λb _=>by rw[q4,q3];exact .var A3 this,rfl,rfl,rfl,rfl,rfl⟩
   |false=>
    have J3:w.kind≠1:=(U7 C2);have K0:w.kind≠2:=(U7 A2);simp[g3,A2,C2];refine gO p3 (λU h4 p4 k4=>?_) λK1 h4 p4 k4=>?_
    ·obtain⟨_,w',A4,F,hk,_⟩:=eL U;rw[hw]at F;cases F;obtain⟨G2,HP⟩:=p4.prog;have o4:=p4.obj;simp[o4,HP];have G3:aR I.X h4 (h4.set I.g (.C [I.l1,I.l2,I.l3,I.l4,.I (IntKind.wrap .i64 (G2-1)),.I s.dp])):=aR.set _ (aR.refl _ _) (.inl (by simp[RI.X])) p4.gl;have p5:=p4.yX (s':={s with k:=s.k+1}) G3 (by rw[ah.aM,ay rg];exact o4) ⟨_,by rw[ah.aM,aY rfl]⟩ p4.kl p4.dd p4.d2;generalize h4.set I.g (.C [I.l1,I.l2,I.l3,I.l4,.I (IntKind.wrap .i64 (G2-1)),.I s.dp])=h5 at*;have F5:=(KA.x I.X).trans (k3.trans (k4.trans G3));refine(IH (I.W.length-(s.k+1)) om).ex I {s with k:=s.k+1} h5 X _ rfl p5 (xo.le F5.nx) (by simp only;omega) λid t N h6 i R l6 f6 k6=>?_;simp;refine gd i λs7 h7 u a7 HU d7 f7 V=>?_;simp;have F1:=R.k;have HZ:=R.lo;have F0:=R.wM;have Hc:=R.dp;have K2:=a7.k;have K3:=a7.lo;have K4:=a7.wM;simp only at F1 HZ F0 Hc l6;refine hQ id t s7 h7 u ⟨om,om,λ_=>hb,om,om,λa=>by have h1:=a7.dep a;have h2:=R.dep (a7.bad a);simp only at h2;omega⟩ om (λa=>?_) (F5.trans (k6.trans V));obtain⟨c,Z,c1,c2,c3,c4⟩:=f7 a;obtain⟨q1,q2,q3⟩:=f6 (a7.bad a);refine⟨om,λb K=>?_,q3.move (Move.rx i.fr ((xo.le F5.nx).le k6.nx) V)⟩;obtain⟨b',rfl⟩:∃b',b=b'+1:=⟨b-1,om⟩
     have:=q2 b' (by simp only;omega);simp only at this;rw[C5,c1]at this;rw[c3,hw];exact .paren hk this c2
    ·have m4:=(C6 True).aH p3.fr k4;simp;refine gO p4 (λU h5 p5 k5=>?_) λK5 h5 p5 k5=>?_
     ·obtain⟨_,w',A4,F,hk,_⟩:=eL U;rw[hw]at F;cases F;have m5:=m4.call p4.fr k5;have g5:=m5.get;simp only[ND.obj]at g5;simp[g5];obtain⟨h6,e6,m6,i⟩:=m5.put p5 B ⟨[105,110],[],[],0,.Z,[]⟩ rfl rfl;simp only[ND.obj]at e6;rw[e6];refine gd i λs7 h7 u a7 HU d7 f7 V=>?_;simp;refine gd u λs8 h8 p8 a8 I0 d8 f8 k8=>?_;simp;have m8:=(m6.call i.fr V).call u.fr k8;have A:=jA.trans (jA.of (s:=s) (s':={s with k:=s.k+1}) (cp _) rfl (ao _) id) (a7.trans a8);refine done (.qp w.at) s8 h8 _ p8 A (m8.mg λ_=>trivial) λa=>?_;obtain⟨c,Z,c1,c2,c3,c4⟩:=f8 a;obtain⟨c',C9,c5,c6,c7,c8⟩:=f7 (a8.bad a);simp only at c5 c8;rw[C5]at c5;rw[c7]at c1;refine⟨om,λb _=>by rw[c5,c1,c3];exact .qp hk c6 c2,rfl,rfl,rfl,rfl,rfl⟩
     ·have m5:=m4.aH p4.fr k5;simp;refine gO p5 (λU h6 i k6=>?_) λK6 h6 i k6=>?_
      ·obtain⟨_,w',A4,F,hk,_⟩:=eL U;rw[hw]at F;cases F;have m6:=m5.call p5.fr k6;have g6:=m6.get;simp only[ND.obj]at g6;simp[g6];obtain⟨h7,e7,m7,u⟩:=m6.put i B ⟨[115,105,122,101,111,102],[],[],0,.Z,[]⟩ rfl rfl;simp only[ND.obj]at e7;rw[e7];refine gd u λs8 h8 p8 a8 I0 d8 f8 k8=>?_;simp;refine Db p8 λty s9 h9 C a9 d9 l9 f9 k9=>?_;simp;refine AS ty om C λty2 sA FW O y dA lA fA kA=>?_;have m9:=((m7.call u.fr k8).call p8.fr k9).call C.fr kA;have g9:=m9.get;simp only[ND.obj]at g9;simp[g9];obtain⟨hB,eB,mB,pB⟩:=m9.put O B ⟨[115,105,122,101,111,102],[],ty2,0,.Z,[]⟩ rfl rfl;simp only[ND.obj]at eB;rw[eB];refine gd pB λsC hC pC aC K7 dC fC kC=>?_;simp;have mC:=mB.call pB.fr kC;have A:=jA.trans (jA.of (s:=s) (s':={s with k:=s.k+1}) (cp _) rfl (ao _) id) (a8.trans (a9.trans (y.trans aC)));refine done (.size w.at ty2) sC hC _ pC A (mC.mg λ_=>trivial) λa=>?_;obtain⟨c,Z,c1,c2,c3,c4⟩:=fC a;have hA:=fA (aC.bad a);have G4:=f9 (y.bad (aC.bad a));obtain⟨c',C9,c5,c6,c7,c8⟩:=f8 (a9.bad (y.bad (aC.bad a)));have u1:=a9.k;have u2:=y.k;simp only at c5 c8;rw[C5]at c5;rw[c7]at G4;rw[c1]at hA;refine⟨om,λb _=>by rw[c5,c3];exact .size hk c6 G4 hA c2,rfl,rfl,rfl,rfl,rfl⟩
      ·have m6:=m5.aH p5.fr k6;have o6:=i.obj;obtain⟨I1,I2⟩:=i.prog;simp[o6];have G5:aR I.X h6 (h6.set I.r (.C [.S I.b I.W.length,.I s.k,.bool true,.P I.g,.I s.dep])):=aR.set _ (aR.refl _ _) (.inl (by simp[RI.X])) i.rl;have u:=i.yX (s':={s with bad:=true}) G5 sp ⟨I1,by rw[ah.aM,ay rg.symm];exact I2⟩ kl dd d2;have m7:=m6.call i.fr G5;exact done (.qp (0,0)) {s with bad:=true} _ _ u (jA.of (ao _) rfl (ao _) sp) (m7.mg λ_=>trivial) sp
theorem jA.up{s a:RS}(A:jA ⟨s.k,s.bad,s.dep+1,max s.dp (s.dep+1)⟩ a):jA s ⟨a.k,a.bad,a.dep-1,a.dp⟩/\s.dep+1<=a.dp/\1<=a.dep:=by
 obtain⟨b,g,e,h,i,f⟩:=A;simp only at b g e h i f;exact⟨⟨b,by simp only;omega,e,by simp only;omega,by simp only;omega,λj=>by have:=f j;simp only;omega⟩,om,om⟩
theorem yD{W:dh}{k:Nat}{w:Wo}{rs:dh}(h:W.drop k=w::rs):JR (W.drop k)=w.at:=by rw[h];rfl
theorem Ct{n:Nat}(IH:∀n',n'<n->HB n'):TE 59 .dec 1 1200 n:=by
 intro I s h X Q hn p xo hd hQ;refine wb fn59 rfl ?_;simp[f59];refine uJ p om λh1 p1 k1=>?_;simp;refine xO [100,101,99,108] (ok:=True) (X:=X) (h0:=h1) p1 (aR.refl _ _) (xo.le k1.nx) λiT h2 p2 k2 m2=>?_;have u:=p1.bl;simp;refine Db p2 λty s3 h3 p3 a3 d3 l3 f3 k3=>?_;have m3:=m2.call p2.fr k3;have g3:=m3.get;simp only[ND.obj]at g3;simp[g3];obtain⟨h4,e4,m4,p4⟩:=m3.put p3 u ⟨[100,101,99,108],[],ty,0,.Z,[]⟩ rfl rfl;simp only[ND.obj]at e4;rw[e4];refine vW p4 λnm s5 h5 p5 a5 C7 d5 l5 f5 k5=>?_;have m5:=m4.call p4.fr k5;have g5:=m5.get;simp only[ND.obj]at g5;simp[g5];obtain⟨h6,e6,m6,p6⟩:=m5.put p5 u ⟨[100,101,99,108],nm,ty,0,.Z,[]⟩ rfl rfl;simp only[ND.obj]at e6;rw[e6];have v:=a3.trans a5;obtain⟨_,u5,v5⟩:=v.up;have w5:=v.wM;have x5:=v.lo;have y5:=v.k;have z5:=v.dp;simp only at w5 x5 y5 z5;refine yE p6 λh7 R k7=>?_;have m7:=m6.aH p6.fr k7;cases hs:od I s5 [91]with
 |true=>
  have g7:=m7.get;simp only[ND.obj]at g7;simp[g7];refine AS ty om R λty2 s8 S t a8 d8 l8 f8 U=>?_;have m8:=m7.call R.fr U;have g8:=m8.get;simp only[ND.obj]at g8;simp[g8];obtain⟨h9,e9,m9,P⟩:=m8.put t u ⟨[100,101,99,108],nm,ty2,0,.Z,[]⟩ rfl rfl;simp only[ND.obj]at e9;rw[e9];refine gd P λV hA B j Z dA fA kA=>?_;have g:=m9.call P.fr kA;simp;have A:=v.trans (a8.trans j);obtain⟨Au,ud,A1⟩:=A.up;refine Cs B (d:=V.dep-1) om λhB pB C=>?_;simp;refine hQ iT (.decl (JR (I.W.drop s3.k)) ty2 nm none) _ hB pB Au ud (λi=>?_) (k1.trans (g.kx.trans C));simp only at i;obtain⟨c,A2,c1,c2,c3,c4⟩:=fA i;have A3:=f8 (j.bad i);obtain⟨w,rs,D,n2,n3,n4,n5⟩:=f5 (a8.bad (j.bad i));have a:=f3 (a5.bad (a8.bad (j.bad i)));have m:=a.jx;obtain⟨_,q,rq,hq,C1,_⟩:=eL hs;simp only[bK]at m;have:=a8.k;refine⟨by simp only;omega,λb F=>?_,(g.done trivial (.mk [100,101,99,108] nm ty2 0 []) rfl rfl rfl rfl rfl).move (Move.rx B.fr (xo.le (k1.trans g.kx).nx) C)⟩;simp only;rw[yD D,c3,n3];rw[D]at a;rw[<-n4]at a;rw[c1]at A3;exact .zu a n2 (by rw[hq,C1.bF];decide) A3 c2
 |false=>
  simp;refine gO R (λJ S t U=>?_) λJ S t U=>?_
  ·have m8:=(m7.call R.fr U).mg (rJ:=s5.bad=false) (λ_=>trivial);obtain⟨e,q,C8,hw,hk,C2⟩:=eL J;have C9:=fJ hw;simp;have K:=m8.get;simp only[ND.obj]at K;refine Dd ?_;simp[-aK,K];refine dm ?_;have KB:=(aJ.refl S).bump 12;have mb:=m8.aH t.fr KB;have pb:=t.aH KB;have fj:=t.fr (S.nx+7) om;have C3:=m8.kx.nx;refine(IH (I.W.length-(s5.k+1)) om).ex I ⟨s5.k+1,s5.bad,s5.dep,s5.dp⟩ _ _ _ rfl pb mb.oz (by simp only;omega) λCL t9 s9 h9 A4 a9 l9 f9 y=>?_;have g:=mb.call pb.fr y;have gA:=g.get;simp only[ND.obj]at gA;have oj:=y.old (S.nx+7) sp (by have:=t.rl;have:=t.gl;simp[RI.X];omega);have nA:=y.nx;simp[fj]at oj nA;simp[-aK];refine dm ?_;simp[-aK,oj];obtain⟨H9,N,O,C4,m9,P⟩:=g.push A4 u (rJ:=s9.bad=false) (λo=>a9.bad o) (λo=>(f9 o).2.2) oj om om sp;simp only[ND.obj,aW,aX,fL]at N O m9 P;rw[N];simp[-aK,O];refine dm ?_;clear KB mb pb fj C3 g gA oj nA N O C4 y A4 K;refine gd P λV hA B j Z dA fA kA=>?_;have g:=m9.call P.fr kA;simp;have A:=v.trans (jA.trans (jA.of (s':=⟨s5.k+1,s5.bad,s5.dep,s5.dp⟩) (cp _) rfl (ao _) id) (a9.trans j));obtain⟨Au,ud,A1⟩:=A.up;refine Cs B (d:=V.dep-1) om λhB pB C=>?_;simp;refine hQ iT (.decl (JR (I.W.drop s3.k)) ty nm (some t9)) _ hB pB Au ud (λi=>?_) (k1.trans (g.kx.trans C));simp only at i;obtain⟨c,A2,c1,c2,c3,c4⟩:=fA i;obtain⟨q1,q2,q3⟩:=f9 (j.bad i);obtain⟨w,rs,D,n2,n3,n4,n5⟩:=f5 e;have a:=f3 (a5.bad e);have m:=a.jx;simp only[bK]at m;have e1:=v.dep e;simp only at e1 q1;refine⟨by simp only;omega,λb F=>?_,(g.done (j.bad i) (.mk [100,101,99,108] nm ty 0 [t9.rn]) rfl rfl rfl rfl rfl).move (Move.rx B.fr (xo.le (k1.trans g.kx).nx) C)⟩;simp only at F⊢;simp only at l9;obtain⟨b',rfl⟩:∃b',b=b'+1:=⟨b-1,om⟩
   have hE:=q2 b' (by simp only;omega);simp only at hE;rw[yD D,c3,n3];rw[D,<-n4,hw]at a;rw[C2,c1]at hE;exact .AB a n2 hk hE c2
  ·have m8:=m7.aH R.fr U;simp;refine gd t λV hA B j Z dA fA kA=>?_;have g:=m8.call t.fr kA;simp;have A:=v.trans j;obtain⟨Au,ud,A1⟩:=A.up;refine Cs B (d:=V.dep-1) om λhB pB C=>?_;simp;refine hQ iT (.decl (JR (I.W.drop s3.k)) ty nm none) _ hB pB Au ud (λi=>?_) (k1.trans (g.kx.trans C));simp only at i;obtain⟨c,A2,c1,c2,c3,c4⟩:=fA i;have e:=j.bad i;obtain⟨w,rs,D,n2,n3,n4,n5⟩:=f5 e;have a:=f3 (a5.bad e);have m:=a.jx;simp only[bK]at m;refine⟨by simp only;omega,λb F=>?_,(g.done trivial (.mk [100,101,99,108] nm ty 0 []) rfl rfl rfl rfl rfl).move (Move.rx B.fr (xo.le (k1.trans g.kx).nx) C)⟩;simp only;have C5:=gQ hs e;have C6:=gQ J e;rw[yD D,c3,n3];rw[D,<-n4]at a;exact .zu a n2 C6 (c1▸ .none C5) c2
def UI(n:Nat):Prop:=
 ∀(I:RI)(s:RS)(h:ah)(X:List Nat)(Q:Out->ah->Prop),I.W.length-s.k=n->RP I s h->XO I X h->s.dep+4*n<=1201->
  (∀id t s' h',RP I s' h'->jA s s'->(s'.bad=false->s.k<s'.k/\(∀b,s'.dp<=s.dep+b->G .pW (b+1) (I.W.drop s.k) (I.W.drop s'.k) (.s t))/\eK X h' id t.rn)->aR I.X h h'->Q (.ret (.P id)) h')->
  ba env 46 [.P I.r] h Q
theorem Gi{n:Nat}(i:UI n):TE 32 .pW 1 1200 n:=by
 intro I s h X Q j p xo J m;refine wb fn32 rfl ?_;simp[f32];refine uJ p om λo u k1=>?_;simp;refine i I ⟨s.k,s.bad,s.dep+1,max s.dp (s.dep+1)⟩ o X _ j u (xo.le k1.nx) (by simp only;omega) λid t s2 K g a2 f2 k2=>?_;obtain⟨v,w,y⟩:=a2.up;simp;refine Cs g (d:=s2.dep-1) om λA p3 k3=>?_;simp;refine m id t _ A p3 v w (λB=>?_) (k1.trans (k2.trans k3));obtain⟨C,D,F⟩:=f2 B;refine⟨C,λb a=>?_,F.move (Move.rx g.fr ((xo.le k1.nx).le k2.nx) k3)⟩;simp only at a;obtain⟨e,rfl⟩:∃e,b=e+1:=⟨b-1,om⟩
 exact D e (by simp only;omega)
structure Uk(I:RI)(s s5:RS)(PY:List Wo)(qs:List (Nat×RN))(ss:List Sm):Prop where
 dep:s5.dep=s.dep
 map:qs.map Prod.snd=Nw ss
 cont:∀b,s5.dp<=s.dep+b->∀bH l,G .L8 b (I.W.drop s5.k) bH (.ss l)->G .L8 b PY bH (.ss (ss++l))
theorem BT(a b:List Sm):Nw (a++b)=Nw a++Nw b:=by simp[En]
theorem Dg{I:RI}{s:RS}(a:s.bad=false)(b:od I s [123]=false)(e:od I s [59]=false)(f:od I s [105,102]=false)(g:od I s [119,104,105,108,101]=false)(h:od I s [98,114,101,97,107]=false)(i:od I s [99,111,110,116,105,110,117,101]=false)(j:od I s [114,101,116,117,114,110]=false)(m:od I s [111,117,116]=false):Cr (I.W.drop s.k)=false:=by
 simp only[Cr,anyS,List.any_cons,List.any_nil,gQ b a,gQ e a,gQ f a,gQ g a,gQ h a,gQ i a,gQ j a,gQ m a];rfl
theorem O3{n:Nat}(he:J7 60 [.I 0] (.bin 0) 1 1 1201 n)(IH:∀n',n'<n->HB n'):UI n:=by
 intro I s h X Q hn p xo hd hQ;refine wb fn46 rfl ?_;have wl:=p.AE.len;have O:=p.bl;have K6:=p.kl;simp[f46];refine xO [101,120,112,114] (ok:=True) (X:=X) (h0:=h) p (aR.refl _ _) xo λiT h1 p1 k1 m1=>?_;have done:∀(e:Sm)(s':RS)(h':ah)(d:ND),RP I s' h'->jA s s'->NM I X h iT (s'.bad=false) d h'->(s'.bad=false->s.k<s'.k/\(∀b,s'.dp<=s.dep+b->G .pW (b+1) (I.W.drop s.k) (I.W.drop s'.k) (.s e))/\d.op=e.rn.op/\d.nm=e.rn.nm/\d.ty=e.rn.ty/\d.n=e.rn.n/\d.qs.map Prod.snd=e.rn.ks)->Q (.ret (.P iT)) h':=λe s' h' d p' a' m' f'=>
  hQ iT e s' h' p' a' (λj=>by
   obtain⟨q1,q2,q3,q4,q5,q6,q7⟩:=f' j;exact⟨q1,q2,m'.done j _ q3 q4 q5 q6 q7⟩) m'.kx
 simp;refine gO p1 (λhs h2 p2 k2=>?_) λH3 h2 p2 k2=>?_
 ·obtain⟨hb,w,rs,hw,hk,S⟩:=eL hs;have CL:=fJ hw;have m2:=m1.call p1.fr k2;have g4:=m2.get;simp only[ND.obj]at g4;simp[g4];obtain⟨h4,e4,m4,p4⟩:=m2.put p2 O ⟨[98,108,111,99,107],[],[],0,.Z,[]⟩ rfl rfl;simp only[ND.obj]at e4;rw[e4];obtain⟨J,hJ⟩:∃J:Nat->St->Prop,J=(λm x=>∃s5 av qs ss,m=s5.ms I.W.length/\x.n=232/\x.ds=[]/\x.bX=false/\RP I s5 x.h/\NM I X h iT (s5.bad=false) ⟨[98,108,111,99,107],[],[],0,av,qs⟩ x.h/\jA s s5/\(s5.bad=false->qs.length<=s5.k)/\s.k<s5.k/\(s5.bad=false->Uk I s s5 rs qs ss)/\
   x.rg.get 0=some (.P I.r)/\x.rg.get 3=some (.P iT)):=⟨_,rfl⟩
  refine bz J (RS.ms ⟨s.k+1,s.bad,s.dep,s.dp⟩ I.W.length) ?_ ?_
  ·rw[hJ];exact⟨⟨s.k+1,s.bad,s.dep,s.dp⟩,.Z,[],[],rfl,rfl,rfl,rfl,p4,m4.mg (λ_=>trivial),jA.of (s:=s) (s':=⟨s.k+1,s.bad,s.dep,s.dp⟩) (cp _) rfl (ao _) id,λ_=>sp,sp,λ_=>⟨rfl,rfl,λb _ bH l hG=>by simp only[S]at hG;exact hG⟩,sp,sp⟩
  clear e4 m4 p4 g4 m2 p2 k2 m1 p1 k1;intro m st H4;have H5:=H4;rw[hJ]at H5;obtain⟨rg,n',H,ds,bX⟩:=st;obtain⟨s6,av,qs,ss,rfl,e1,e2,e3,p6,m6,a6,FO,K7,f6,r0,r3⟩:=H5;dsimp only at e1 e2 e3 p6 m6 r0 r3;subst e1 e2 e3;have o6:=p6.obj;have I5:=p6.kl;cases Au:s6.bad with
  |true=>
   simp[r0,r3,o6,Au];exact done (.empty (0,0)) s6 H _ p6 a6 m6 (λj=>by rw[Au]at j;cases j)
  |false=>
   have F6:=f6 Au;have K8:=F6.dep;simp[r0,o6,Au];refine gO p6 (λC9 h7 p7 k7=>?_) λC9 h7 p7 k7=>?_
   ·obtain⟨_,c2,I6,IB,Ia,Ik⟩:=eL C9;have m7:=m6.call p6.fr k7;simp[r3];refine done (.block w.at ss) {s6 with k:=s6.k+1} h7 _ p7 (a6.trans (jA.of (cp _) rfl (ao _) id)) m7 λj=>⟨by simp only;omega,λb A2=>?_,rfl,rfl,rfl,rfl,F6.map⟩
    simp only at A2⊢;rw[Ik];have hG:=F6.cont b A2 I6 [] (by rw[IB];exact .zp Ia);rw[fi]at hG;rw[hw];exact .uD (by rw[hk.bF];decide) (.ub hk hG)
   ·have m7:=m6.aH p6.fr k7;have H6:=gQ C9 Au;simp[r0];refine Eo 0 I5 p7 λh8 p8 k8=>?_;have m8:=m7.call p7.fr k8;simp only[mr,Au,jU,dZ];cases H7:dF (I.W.drop s6.k)with
    |true=>
     simp;have C7:=m8.get;simp only[ND.obj]at C7;refine Dd ?_;simp[-aK,r0,r3,C7];refine dm ?_;have C:=(aJ.refl h8).bump 12;have D:=m8.aH p8.fr C;have pb:=p8.aH C;have Z:=p8.fr (h8.nx+7) om;have F:=m8.kx.nx;refine(IH (I.W.length-s6.k) om).de I s6 _ _ _ rfl pb D.oz om λJ2 tZ sZ hZ F0 aZ lZ fZ C3=>?_;have u:=D.call pb.fr C3;have B:=u.get;simp only[ND.obj]at B;have v:=C3.old (h8.nx+7) sp (by have:=p8.rl;have:=p8.gl;simp[RI.X];omega);have nA:=C3.nx;simp[Z]at v nA;simp[-aK];refine dm ?_;simp[-aK,v];obtain⟨HZ,a,g,K,mZ,pZ⟩:=u.push F0 O (rJ:=sZ.bad=false) (λo=>aZ.bad o) (λo=>(fZ o).2.2) v om om (by have:=FO Au;simp only;omega);simp only[ND.obj]at a g mZ pZ;rw[a];simp[-aK,g];refine dm ?_;clear C D pb Z F u B v nA a g K C3 F0 C7;have FQ:=pZ.kl;rw[hJ];refine⟨sZ.ms I.W.length,Dc aZ Au (λj=>(fZ j).1) FQ,sZ,_,_,ss++[tZ],rfl,rfl,rfl,rfl,pZ,mZ,a6.trans aZ,λj=>by have:=FO Au;have:=(fZ j).1;simp;omega,by have:=aZ.k;omega,λj=>?_,by simp[r0],by simp[r3]⟩;obtain⟨v1,v2,v3⟩:=fZ j;have dA:=aZ.dep j;have J3:=aZ.dp;refine⟨om,by simp[F6.map,BT,Nw],λb A2 bH l hG=>?_⟩;have hx:=F6.cont b om bH (tZ::l) (.Az H6 H7 (v2 b om) hG);rw[aU];exact hx
    |false=>
     simp;have C7:=m8.get;simp only[ND.obj]at C7;refine Dd ?_;simp[-aK,r0,r3,C7];refine dm ?_;have C:=(aJ.refl h8).bump 12;have D:=m8.aH p8.fr C;have pb:=p8.aH C;have Z:=p8.fr (h8.nx+7) om;have F:=m8.kx.nx;refine(IH (I.W.length-s6.k) om).st I s6 _ _ _ rfl pb D.oz om λJ2 tZ sZ hZ F0 aZ lZ fZ C3=>?_;have u:=D.call pb.fr C3;have B:=u.get;simp only[ND.obj]at B;have v:=C3.old (h8.nx+7) sp (by have:=p8.rl;have:=p8.gl;simp[RI.X];omega);have nA:=C3.nx;simp[Z]at v nA;simp[-aK];refine dm ?_;simp[-aK,v];obtain⟨HZ,a,g,K,mZ,pZ⟩:=u.push F0 O (rJ:=sZ.bad=false) (λo=>aZ.bad o) (λo=>(fZ o).2.2) v om om (by have:=FO Au;simp only;omega);simp only[ND.obj]at a g mZ pZ;rw[a];simp[-aK,g];refine dm ?_;clear C D pb Z F u B v nA a g K C3 F0 C7;have FQ:=pZ.kl;rw[hJ];refine⟨sZ.ms I.W.length,Dc aZ Au (λj=>(fZ j).1) FQ,sZ,_,_,ss++[tZ],rfl,rfl,rfl,rfl,pZ,mZ,a6.trans aZ,λj=>by have:=FO Au;have:=(fZ j).1;simp;omega,by have:=aZ.k;omega,λj=>?_,by simp[r0],by simp[r3]⟩;obtain⟨v1,v2,v3⟩:=fZ j;have dA:=aZ.dep j;have J3:=aZ.dp;refine⟨om,by simp[F6.map,BT,Nw],λb A2 bH l hG=>?_⟩;have hx:=F6.cont b om bH (tZ::l) (.AA H6 H7 (v2 b om) hG);rw[aU];exact hx
 have m2:=m1.aH p1.fr k2;simp;refine gO p2 (λhs h3 p3 k3=>?_) λH8 h3 p3 k3=>?_
 ·obtain⟨hb,w,rs,hw,hk,S⟩:=eL hs;have CL:=fJ hw;have m3:=m2.call p2.fr k3;have g4:=m3.get;simp only[ND.obj]at g4;simp[g4];obtain⟨h4,e4,m4,p4⟩:=m3.put p3 O ⟨[101,109,112,116,121],[],[],0,.Z,[]⟩ rfl rfl;simp only[ND.obj]at e4;rw[e4];exact done (.empty w.at) ⟨s.k+1,s.bad,s.dep,s.dp⟩ h4 _ p4 (jA.of (s:=s) (s':=⟨s.k+1,s.bad,s.dep,s.dp⟩) (cp _) rfl (ao _) id) (m4.mg λ_=>trivial) λj=>⟨by simp only;omega,λb _=>by simp only;rw[hw,S];exact .uE hk,rfl,rfl,rfl,rfl,rfl⟩
 have m3:=m2.aH p2.fr k3;simp;refine gO p3 (λhs h4 p4 k4=>?_) λH9 h4 p4 k4=>?_
 ·obtain⟨hb,w,rs,hw,hk,S⟩:=eL hs;have CL:=fJ hw;have m4:=m3.call p3.fr k4;have B:=m4.get;simp only[ND.obj]at B;simp[B];obtain⟨hA,eA,u,pA⟩:=m4.put p4 O ⟨[105,102],[],[],0,.Z,[]⟩ rfl rfl;simp only[ND.obj]at eA;rw[eA];refine gd pA λsB hB V aB HA dB fB kB=>?_;have mB:=u.call pA.fr kB;simp;have F1:=aB.k;have F2:=aB.lo;have F3:=aB.wM;have F4:=aB.dp;have HP:=V.kl;simp only at F1 F2 F3 F4;have A1:=mB.mg (rJ:=sB.bad=false) (λ_=>trivial);have P:=A1.get;simp only[ND.obj]at P;refine Dd ?_;simp[-aK,P];refine dm ?_;have C:=(aJ.refl hB).bump 12;have D:=A1.aH V.fr C;have pb:=V.aH C;have Z:=V.fr (hB.nx+7) om;have F:=A1.kx.nx;refine(IH (I.W.length-sB.k) om).ex I sB _ _ _ rfl pb D.oz om λF5 tC sC hC A3 U lC fC y=>?_;have u:=D.call pb.fr y;have B:=u.get;simp only[ND.obj]at B;have v:=y.old (hB.nx+7) sp (by have:=V.rl;have:=V.gl;simp[RI.X];omega);have nA:=y.nx;simp[Z]at v nA;simp[-aK];refine dm ?_;simp[-aK,v];obtain⟨HC,a,g,K,mC,pC⟩:=u.push A3 O (rJ:=sC.bad=false) (λo=>U.bad o) (λo=>(fC o).2.2) v om om sp;simp only[ND.obj,aW,aX,fL]at a g mC pC;rw[a];simp[-aK,g];refine dm ?_;clear C D pb Z F u B v nA a g K y A3 P;refine gd pC λsD hD pD R C4 dD fD kD=>?_;have mD:=mC.call pC.fr kD;simp;have HU:=U.k;have Hc:=U.wM;have I0:=R.k;have K0:=R.wM;have K2:=pD.kl;have C8:=mD.mg (rJ:=sD.bad=false) (λo=>R.bad o);have C1:=C8.get;simp only[ND.obj]at C1;refine Dd ?_;simp[-aK,C1];refine dm ?_;have C:=(aJ.refl hD).bump 12;have D:=C8.aH pD.fr C;have pb:=pD.aH C;have Z:=pD.fr (hD.nx+7) om;have F:=C8.kx.nx;refine(IH (I.W.length-sD.k) om).st I sD _ _ _ rfl pb D.oz om λI1 tE sE hE C5 aE lE fE A4=>?_;have u:=D.call pb.fr A4;have B:=u.get;simp only[ND.obj]at B;have v:=A4.old (hD.nx+7) sp (by have:=pD.rl;have:=pD.gl;simp[RI.X];omega);have nA:=A4.nx;simp[Z]at v nA;simp[-aK];refine dm ?_;simp[-aK,v];obtain⟨HE,a,g,K,mE,pE⟩:=u.push C5 O (rJ:=sE.bad=false) (λo=>aE.bad o) (λo=>(fE o).2.2) v om om sp;simp only[ND.obj,aW,aX,ai,aI,fL,Nat.reduceAdd]at a g mE pE;rw[a];simp[-aK,g];refine dm ?_;clear C D pb Z F u B v nA a g K A4 C5 C1;have KA:=aE.k;have KC:=aE.wM;refine gO pE (λC6 hF pF kF=>?_) λC6 hF pF kF=>?_
  ·obtain⟨F7,we,re,xe,ke,de⟩:=eL C6;have hle:=fJ xe;have mF:=mE.call pE.fr kF;simp;have FW:=mF.get;simp only[ND.obj]at FW;refine Dd ?_;simp[-aK,FW];refine dm ?_;have C:=(aJ.refl hF).bump 12;have D:=mF.aH pF.fr C;have pb:=pF.aH C;have Z:=pF.fr (hF.nx+7) om;have F:=mF.kx.nx;refine(IH (I.W.length-(sE.k+1)) om).st I ⟨sE.k+1,sE.bad,sE.dep,sE.dp⟩ _ _ _ rfl pb D.oz (by simp only;omega) λKF tG sG hG I2 aG lG fG FP=>?_;have u:=D.call pb.fr FP;have B:=u.get;simp only[ND.obj]at B;have v:=FP.old (hF.nx+7) sp (by have:=pF.rl;have:=pF.gl;simp[RI.X];omega);have nA:=FP.nx;simp[Z]at v nA;simp[-aK];refine dm ?_;simp[-aK,v];obtain⟨HG,a,g,K,mG,pG⟩:=u.push I2 O (rJ:=sG.bad=false) (λo=>aG.bad o) (λo=>(fG o).2.2) v om om sp;simp only[ND.obj,aW,aX,ai,aI,fL,Nat.reduceAdd]at a g mG pG;rw[a];simp[-aK,g];refine dm ?_;clear C D pb Z F u B v nA a g K FP I2 FW;have A:=jA.trans (jA.of (s:=s) (s':=⟨s.k+1,s.bad,s.dep,s.dp⟩) (cp _) rfl (ao _) id) (aB.trans (U.trans (R.trans (aE.trans (jA.trans (jA.of (s':=⟨sE.k+1,sE.bad,sE.dep,sE.dp⟩) (cp _) rfl (ao _) id) aG)))));refine done (.wD w.at tC tE tG) sG _ _ pG A mG λj=>?_;have A5:=aE.bad F7;have i:=R.bad A5;obtain⟨v1,v2,v3⟩:=fG j;obtain⟨u1,u2,u3⟩:=fE F7;obtain⟨c2,r2,y1,y2,y3,y4⟩:=fD A5;obtain⟨q1,q2,q3⟩:=fC i;obtain⟨c3,r3,z1,z2,z3,z4⟩:=fB (U.bad i);simp only at z1 z4;have dB:=aB.dep (U.bad i);have dC:=U.dep i;have dD:=R.dep A5;have dE:=aE.dep F7;have FF:=aE.dp;have K3:=aG.dp;simp only at dB v1 K3;refine⟨om,λb A2=>?_,rfl,rfl,rfl,rfl,rfl⟩;have N:=q2 b om;have C2:=u2 b om;have G2:=v2 b (by simp only;omega);simp only at G2;rw[hw,<-S,z1];rw[z3,y1,<-y3]at N;rw[xe]at C2;rw[de]at G2;exact .tU hk z2 N y2 C2 ke G2
  ·have mF:=mE.aH pE.fr kF;simp;have A:=jA.trans (jA.of (s:=s) (s':=⟨s.k+1,s.bad,s.dep,s.dp⟩) (cp _) rfl (ao _) id) (aB.trans (U.trans (R.trans aE)));refine done (.ifs w.at tC tE) sE _ _ pF A mF λj=>?_;have A5:=aE.bad j;have i:=R.bad A5;obtain⟨u1,u2,u3⟩:=fE j;obtain⟨c2,r2,y1,y2,y3,y4⟩:=fD A5;obtain⟨q1,q2,q3⟩:=fC i;obtain⟨c3,r3,z1,z2,z3,z4⟩:=fB (U.bad i);simp only at z1 z4;have dB:=aB.dep (U.bad i);have dC:=U.dep i;have dD:=R.dep A5;have FF:=aE.dp;simp only at dB;refine⟨om,λb A2=>?_,rfl,rfl,rfl,rfl,rfl⟩;have N:=q2 b om;have C2:=u2 b om;rw[hw,<-S,z1];rw[z3,y1,<-y3]at N;exact .CT hk z2 N y2 C2 (gQ C6 j)
 have m4:=m3.aH p3.fr k4;simp;refine gO p4 (λhs h5 p5 k5=>?_) λI3 h5 p5 k5=>?_
 ·obtain⟨hb,w,rs,hw,hk,S⟩:=eL hs;have CL:=fJ hw;have m5:=m4.call p4.fr k5;have B:=m5.get;simp only[ND.obj]at B;simp[B];obtain⟨hA,eA,u,pA⟩:=m5.put p5 O ⟨[119,104,105,108,101],[],[],0,.Z,[]⟩ rfl rfl;simp only[ND.obj]at eA;rw[eA];refine gd pA λsB hB V aB HA dB fB kB=>?_;have mB:=u.call pA.fr kB;simp;have F1:=aB.k;have F2:=aB.lo;have F3:=aB.wM;have F4:=aB.dp;have HP:=V.kl;simp only at F1 F2 F3 F4;have A1:=mB.mg (rJ:=sB.bad=false) (λ_=>trivial);have P:=A1.get;simp only[ND.obj]at P;refine Dd ?_;simp[-aK,P];refine dm ?_;have C:=(aJ.refl hB).bump 12;have D:=A1.aH V.fr C;have pb:=V.aH C;have Z:=V.fr (hB.nx+7) om;have F:=A1.kx.nx;refine(IH (I.W.length-sB.k) om).ex I sB _ _ _ rfl pb D.oz om λF5 tC sC hC A3 U lC fC y=>?_;have u:=D.call pb.fr y;have B:=u.get;simp only[ND.obj]at B;have v:=y.old (hB.nx+7) sp (by have:=V.rl;have:=V.gl;simp[RI.X];omega);have nA:=y.nx;simp[Z]at v nA;simp[-aK];refine dm ?_;simp[-aK,v];obtain⟨HC,a,g,K,mC,pC⟩:=u.push A3 O (rJ:=sC.bad=false) (λo=>U.bad o) (λo=>(fC o).2.2) v om om sp;simp only[ND.obj,aW,aX,fL]at a g mC pC;rw[a];simp[-aK,g];refine dm ?_;clear C D pb Z F u B v nA a g K y A3 P;refine gd pC λsD hD pD R C4 dD fD kD=>?_;have mD:=mC.call pC.fr kD;simp;have HU:=U.k;have Hc:=U.wM;have I0:=R.k;have K0:=R.wM;have K2:=pD.kl;have C8:=mD.mg (rJ:=sD.bad=false) (λo=>R.bad o);have C1:=C8.get;simp only[ND.obj]at C1;refine Dd ?_;simp[-aK,C1];refine dm ?_;have C:=(aJ.refl hD).bump 12;have D:=C8.aH pD.fr C;have pb:=pD.aH C;have Z:=pD.fr (hD.nx+7) om;have F:=C8.kx.nx;refine(IH (I.W.length-sD.k) om).st I sD _ _ _ rfl pb D.oz om λI1 tE sE hE C5 aE lE fE A4=>?_;have u:=D.call pb.fr A4;have B:=u.get;simp only[ND.obj]at B;have v:=A4.old (hD.nx+7) sp (by have:=pD.rl;have:=pD.gl;simp[RI.X];omega);have nA:=A4.nx;simp[Z]at v nA;simp[-aK];refine dm ?_;simp[-aK,v];obtain⟨HE,a,g,K,mE,pE⟩:=u.push C5 O (rJ:=sE.bad=false) (λo=>aE.bad o) (λo=>(fE o).2.2) v om om sp;simp only[ND.obj,aW,aX,ai,aI,fL,Nat.reduceAdd]at a g mE pE;rw[a];simp[-aK,g];refine dm ?_;clear C D pb Z F u B v nA a g K A4 C5 C1;have A:=jA.trans (jA.of (s:=s) (s':=⟨s.k+1,s.bad,s.dep,s.dp⟩) (cp _) rfl (ao _) id) (aB.trans (U.trans (R.trans aE)));refine done (.wE w.at tC tE) sE _ _ pE A mE λj=>?_;have A5:=aE.bad j;have i:=R.bad A5;obtain⟨u1,u2,u3⟩:=fE j;obtain⟨c2,r2,y1,y2,y3,y4⟩:=fD A5;obtain⟨q1,q2,q3⟩:=fC i;obtain⟨c3,r3,z1,z2,z3,z4⟩:=fB (U.bad i);simp only at z1 z4;have dB:=aB.dep (U.bad i);have dC:=U.dep i;have dD:=R.dep A5;have FF:=aE.dp;simp only at dB;refine⟨om,λb A2=>?_,rfl,rfl,rfl,rfl,rfl⟩;have N:=q2 b om;have C2:=u2 b om;rw[hw,<-S,z1];rw[z3,y1,<-y3]at N;exact .jJ hk z2 N y2 C2
 have m5:=m4.aH p4.fr k5;simp;refine yE p5 λh6 p6 k6=>?_;have m6:=m5.aH p5.fr k6;cases G3:od I s [98,114,101,97,107]with
 |true=>
  obtain⟨hb,w,rs,hw,hk,S⟩:=eL G3;have hl:=fJ hw;obtain⟨c0,c1,c2,d0,d3,l5,l3⟩:=vX hw;have oq:=p6.obj;have G4:=p6.arr;have gP:=m6.get;simp only[ND.obj]at gP;have nr:=m6.nr;have K4:iT≠I.b:=by have:=m6.lo;omega
  have w1:=U8 s.k
  simp;refine Dd ?_;simp[oq,hl,G4,c1,gP,hb,w1,nr.1.symm];have y1:=nr.1.symm;refine dm ?_;have K1:=(aJ.refl h6).bump 15;obtain⟨hA,eA,u,pA⟩:=(m6.aH p6.fr K1).put (p6.aH K1) O ⟨w.text,[],[],0,.Z,[]⟩ rfl rfl;obtain⟨V,kB⟩:=pA.at (s.k+1) om
  have G5:∀{o},aR I.X hA o->NM I X h iT True ⟨w.text,[],[],0,.Z,[]⟩ o:=λkk=>u.call pA.fr kk;simp only[ND.obj]at eA;rw[hb]at V kB;rw[eA];refine gd V λsD hD pD R C4 dD fD kD=>?_;have mD:=(G5 kB).call V.fr kD;simp;refine done (.xq w.at) sD hD _ pD (jA.trans (jA.of (s:=s) (s':=⟨s.k+1,false,s.dep,s.dp⟩) (cp _) rfl (ao _) (λ_=>hb)) R) (mD.mg λ_=>trivial) λj=>?_;obtain⟨K5,r2,y1,y2,y3,y4⟩:=fD j;simp only at y1 y4;refine⟨om,λb A2=>?_,hk.t,rfl,rfl,rfl,rfl⟩;rw[hw,<-S,y1,y3];exact .uF hk y2
 |false=>
 simp;refine yE p6 λh7 p7 k7=>?_;have m7:=m6.aH p6.fr k7;cases GL:od I s [99,111,110,116,105,110,117,101]with
 |true=>
  obtain⟨hb,w,rs,hw,hk,S⟩:=eL GL;have hl:=fJ hw;obtain⟨c0,c1,c2,d0,d3,l5,l3⟩:=vX hw;have oq:=p7.obj;have G4:=p7.arr;have gP:=m7.get;simp only[ND.obj]at gP;have nr:=m7.nr;have K4:iT≠I.b:=by have:=m7.lo;omega
  have w1:=U8 s.k
  simp;refine Dd ?_;simp[oq,hl,G4,c1,gP,hb,w1,nr.1.symm];have y1:=nr.1.symm;refine dm ?_;have K1:=(aJ.refl h7).bump 15;obtain⟨hA,eA,u,pA⟩:=(m7.aH p7.fr K1).put (p7.aH K1) O ⟨w.text,[],[],0,.Z,[]⟩ rfl rfl;obtain⟨V,kB⟩:=pA.at (s.k+1) om
  have G5:∀{o},aR I.X hA o->NM I X h iT True ⟨w.text,[],[],0,.Z,[]⟩ o:=λkk=>u.call pA.fr kk;simp only[ND.obj]at eA;rw[hb]at V kB;rw[eA];refine gd V λsD hD pD R C4 dD fD kD=>?_;have mD:=(G5 kB).call V.fr kD;simp;refine done (.cont w.at) sD hD _ pD (jA.trans (jA.of (s:=s) (s':=⟨s.k+1,false,s.dep,s.dp⟩) (cp _) rfl (ao _) (λ_=>hb)) R) (mD.mg λ_=>trivial) λj=>?_;obtain⟨K5,r2,y1,y2,y3,y4⟩:=fD j;simp only at y1 y4;refine⟨om,λb A2=>?_,hk.t,rfl,rfl,rfl,rfl⟩;rw[hw,<-S,y1,y3];exact .nW hk y2
 |false=>
 simp;refine gO p7 (λhs h8 p8 k8=>?_) λC9 h8 p8 k8=>?_
 ·obtain⟨hb,w,rs,hw,hk,S⟩:=eL hs;have CL:=fJ hw;have m8:=m7.call p7.fr k8;have B:=m8.get;simp only[ND.obj]at B;simp[B];obtain⟨hA,eA,u,pA⟩:=m8.put p8 O ⟨[114,101,116,117,114,110],[],[],0,.Z,[]⟩ rfl rfl;simp only[ND.obj]at eA;rw[eA];refine yE pA λhB V kB=>?_;have mB:=u.aH pA.fr kB;cases C6:od I ⟨s.k+1,s.bad,s.dep,s.dp⟩ [59]with
  |true=>
   simp;refine gd V λsD hD pD R C4 dD fD kD=>?_;have mD:=mB.call V.fr kD;simp;have A:=jA.trans (jA.of (s:=s) (s':=⟨s.k+1,s.bad,s.dep,s.dp⟩) (cp _) rfl (ao _) id) R;refine done (.ret w.at none) sD hD _ pD A (mD.mg λ_=>trivial) λj=>?_;obtain⟨c2,r2,y1,y2,y3,y4⟩:=fD j;simp only at y1 y4;refine⟨om,λb A2=>?_,rfl,rfl,rfl,rfl,rfl⟩;rw[hw,<-S,y1,y3];exact .nZ hk y2
  |false=>
   have A1:=mB.mg (rJ:=s.bad=false) (λ_=>trivial);simp;have P:=A1.get;simp only[ND.obj]at P;refine Dd ?_;simp[-aK,P];refine dm ?_;have C:=(aJ.refl hB).bump 12;have D:=A1.aH V.fr C;have pb:=V.aH C;have Z:=V.fr (hB.nx+7) om;have F:=A1.kx.nx;refine(IH (I.W.length-(s.k+1)) om).ex I ⟨s.k+1,s.bad,s.dep,s.dp⟩ _ _ _ rfl pb D.oz (by simp only;omega) λF5 tC sC hC A3 U lC fC y=>?_;have u:=D.call pb.fr y;have B:=u.get;simp only[ND.obj]at B;have v:=y.old (hB.nx+7) sp (by have:=V.rl;have:=V.gl;simp[RI.X];omega);have nA:=y.nx;simp[Z]at v nA;simp[-aK];refine dm ?_;simp[-aK,v];obtain⟨HC,a,g,K,mC,pC⟩:=u.push A3 O (rJ:=sC.bad=false) (λo=>U.bad o) (λo=>(fC o).2.2) v om om sp;simp only[ND.obj,aW,aX,fL]at a g mC pC;rw[a];simp[-aK,g];refine dm ?_;clear C D pb Z F u B v nA a g K y A3 P;refine gd pC λsD hD pD R C4 dD fD kD=>?_;have mD:=mC.call pC.fr kD;simp;have A:=jA.trans (jA.of (s:=s) (s':=⟨s.k+1,s.bad,s.dep,s.dp⟩) (cp _) rfl (ao _) id) (U.trans R);refine done (.ret w.at (some tC)) sD hD _ pD A (mD.mg λj=>R.bad j) λj=>?_;have i:=R.bad j;obtain⟨c2,r2,y1,y2,y3,y4⟩:=fD j;obtain⟨q1,q2,q3⟩:=fC i;simp only at q1;refine⟨om,λb A2=>?_,rfl,rfl,rfl,rfl,rfl⟩;have N:=q2 b (by simp only;omega);have Gq:=gQ C6 hb;simp only at N Gq;rw[hw];rw[S,y1]at N;rw[S]at Gq;rw[y3];exact .oa hk Gq N y2
 have m8:=m7.aH p7.fr k8;simp;refine gO p8 (λhs h9 p9 k9=>?_) λI4 h9 p9 k9=>?_
 ·obtain⟨hb,w,rs,hw,hk,S⟩:=eL hs;have CL:=fJ hw;have m9:=m8.call p8.fr k9;have B:=m9.get;simp only[ND.obj]at B;simp[B];obtain⟨hA,eA,u,pA⟩:=m9.put p9 O ⟨[111,117,116],[],[],0,.Z,[]⟩ rfl rfl;simp only[ND.obj]at eA;rw[eA];refine gd pA λsB hB V aB HA dB fB kB=>?_;have mB:=u.call pA.fr kB;simp;have F1:=aB.k;have F2:=aB.lo;have F3:=aB.wM;have F4:=aB.dp;have HP:=V.kl;simp only at F1 F2 F3 F4;have A1:=mB.mg (rJ:=sB.bad=false) (λ_=>trivial);have P:=A1.get;simp only[ND.obj]at P;refine Dd ?_;simp[-aK,P];refine dm ?_;have C:=(aJ.refl hB).bump 12;have D:=A1.aH V.fr C;have pb:=V.aH C;have Z:=V.fr (hB.nx+7) om;have F:=A1.kx.nx;refine(IH (I.W.length-sB.k) om).ex I sB _ _ _ rfl pb D.oz om λF5 tC sC hC A3 U lC fC y=>?_;have u:=D.call pb.fr y;have B:=u.get;simp only[ND.obj]at B;have v:=y.old (hB.nx+7) sp (by have:=V.rl;have:=V.gl;simp[RI.X];omega);have nA:=y.nx;simp[Z]at v nA;simp[-aK];refine dm ?_;simp[-aK,v];obtain⟨HC,a,g,K,mC,pC⟩:=u.push A3 O (rJ:=sC.bad=false) (λo=>U.bad o) (λo=>(fC o).2.2) v om om sp;simp only[ND.obj,aW,aX,fL]at a g mC pC;rw[a];simp[-aK,g];refine dm ?_;clear C D pb Z F u B v nA a g K y A3 P;refine gd pC λsD hD pD R C4 dD fD kD=>?_;have mD:=mC.call pC.fr kD;simp;refine gd pD λsE hE pE aE KH dE fE kE=>?_;have mE:=mD.call pD.fr kE;simp;have A:=jA.trans (jA.of (s:=s) (s':=⟨s.k+1,s.bad,s.dep,s.dp⟩) (cp _) rfl (ao _) id) (aB.trans (U.trans (R.trans aE)));refine done (.out w.at tC) sE hE _ pE A (mE.mg λj=>R.bad (aE.bad j)) λj=>?_;have A5:=aE.bad j;have i:=R.bad A5;obtain⟨c1,r1,x1,x2,x3,x4⟩:=fE j;obtain⟨c2,r2,y1,y2,y3,y4⟩:=fD A5;obtain⟨q1,q2,q3⟩:=fC i;obtain⟨c3,r3,z1,z2,z3,z4⟩:=fB (U.bad i);simp only at z1 z4;have dB:=aB.dep (U.bad i);have FF:=aE.dp;simp only at dB;refine⟨om,λb A2=>?_,rfl,rfl,rfl,rfl,rfl⟩;have N:=q2 b om;rw[hw,<-S,z1];rw[z3,y1,<-y3,x1]at N;rw[x3];exact .uG hk z2 N y2 x2
 have m9:=m8.aH p8.fr k9;have H2:=m9.mg (rJ:=s.bad=false) (λ_=>trivial);simp;have P:=H2.get;simp only[ND.obj]at P;refine Dd ?_;simp[-aK,P];refine dm ?_;have C:=(aJ.refl h9).bump 12;have D:=H2.aH p9.fr C;have pb:=p9.aH C;have Z:=p9.fr (h9.nx+7) om;have F:=H2.kx.nx;refine he I s _ _ _ hn pb D.oz om λF5 tC sC hC A3 U lC fC y=>?_;have u:=D.call pb.fr y;have B:=u.get;simp only[ND.obj]at B;have v:=y.old (h9.nx+7) sp (by have:=p9.rl;have:=p9.gl;simp[RI.X];omega);have nA:=y.nx;simp[Z]at v nA;simp[-aK];refine dm ?_;simp[-aK,v];obtain⟨HC,a,g,K,mC,pC⟩:=u.push A3 O (rJ:=sC.bad=false) (λo=>U.bad o) (λo=>(fC o).2.2) v om om sp;simp only[ND.obj,aW,aX,fL]at a g mC pC;rw[a];simp[-aK,g];refine dm ?_;clear C D pb Z F u B v nA a g K y A3 P;have HU:=U.k;have Hc:=U.wM;refine gO pC (λC6 hF pF kF=>?_) λC6 hF pF kF=>?_
 ·obtain⟨i,we,re,xe,ke,de⟩:=eL C6;have hle:=fJ xe;have mF:=mC.call pC.fr kF;have gF:=mF.get;simp only[ND.obj]at gF;simp[gF];obtain⟨hV,eV,mV,pV⟩:=mF.put pF O ⟨[97,115,115,105,103,110],[],[],0,.S hC.nx 1,[(F5,tC.rn)]⟩ rfl rfl;simp only[ND.obj]at eV;rw[eV];have C1:=mV.get;simp only[ND.obj]at C1;refine Dd ?_;simp[-aK,C1];refine dm ?_;have C:=(aJ.refl hV).bump 12;have D:=mV.aH pV.fr C;have pb:=pV.aH C;have Z:=pV.fr (hV.nx+7) om;have F:=mV.kx.nx;refine(IH (I.W.length-(sC.k+1)) om).ex I ⟨sC.k+1,sC.bad,sC.dep,sC.dp⟩ _ _ _ rfl pb D.oz (by simp only;omega) λI1 tE sE hE C5 aE lE fE A4=>?_;have u:=D.call pb.fr A4;have B:=u.get;simp only[ND.obj]at B;have v:=A4.old (hV.nx+7) sp (by have:=pV.rl;have:=pV.gl;simp[RI.X];omega);have nA:=A4.nx;simp[Z]at v nA;simp[-aK];refine dm ?_;simp[-aK,v];obtain⟨HE,a,g,K,mE,pE⟩:=u.push C5 O (rJ:=sE.bad=false) (λo=>aE.bad o) (λo=>(fE o).2.2) v om om sp;simp only[ND.obj,aW,aX,ai,aI,fL,Nat.reduceAdd]at a g mE pE;rw[a];simp[-aK,g];refine dm ?_;clear C D pb Z F u B v nA a g K A4 C5 C1;refine gd pE λsD hD pD R C4 dD fD kD=>?_;have mD:=mE.call pE.fr kD;simp;have A:=U.trans (jA.trans (jA.of (s':=⟨sC.k+1,sC.bad,sC.dep,sC.dp⟩) (cp _) rfl (ao _) id) (aE.trans R));refine done (.assign (JR (I.W.drop s.k)) tC tE) sD hD _ pD A (mD.mg λj=>R.bad j) λj=>?_;have F7:=R.bad j;have hb:=U.bad i;obtain⟨c2,r2,y1,y2,y3,y4⟩:=fD j;obtain⟨u1,u2,u3⟩:=fE F7;obtain⟨q1,q2,q3⟩:=fC i;have dC:=U.dep i;have FF:=aE.dp;have I0:=R.k;simp only at u1 FF;refine⟨om,λb A2=>?_,rfl,rfl,rfl,rfl,rfl⟩;have N:=q2 b om;have C2:=u2 b (by simp only;omega);simp only at C2;rw[xe]at N;rw[de,y1]at C2;rw[y3];exact .tV (Dg hb H3 H8 H9 I3 G3 GL C9 I4) N ke C2 y2
 ·have mF:=mC.aH pC.fr kF;simp;refine gd pF λsD hD pD R C4 dD fD kD=>?_;have mD:=mF.call pF.fr kD;simp;refine done (.eval (JR (I.W.drop s.k)) tC) sD hD _ pD (U.trans R) (mD.mg λj=>R.bad j) λj=>?_;have i:=R.bad j;have hb:=U.bad i;obtain⟨c2,r2,y1,y2,y3,y4⟩:=fD j;obtain⟨q1,q2,q3⟩:=fC i;have dC:=U.dep i;refine⟨om,λb A2=>?_,rfl,rfl,rfl,rfl,rfl⟩;have N:=q2 b om;rw[y1]at N;rw[y3];exact .uH (Dg hb H3 H8 H9 I3 G3 GL C9 I4) N y2
theorem S7(n:Nat):HB n:=by
 induction n using Nat.strongRecOn with
 |ind n a=>
  have pr:=Ka a;have e:=J9 pr a;have un:=O2 e a;have ch:∀j l:Nat,l+j=10->J7 82 [.I l] (.bin l) 0 0 1202 n:=by
   intro j;induction j with
   |zero=>intro l b;exact IY om un (λh=>om) a
   |succ j f=>intro l b;exact IY om un (λ_=>f (l+1) om) a
  have ex:=Rv (ch 10 0 rfl);exact⟨ex,un,λl b=>ch (10-l) l om,Gi (O3 ex a),Ct a⟩
section
theorem vj.st{ws bH:dh}{t:bu}(h:vj ws bH t)(B:7<t.length)(f:t.take 7=[115,116,114,117,99,116,32])(v:t.getLast?≠some 42):∃w n,ws=w::n::bH/\eX w [115,116,114,117,99,116]/\n.kind=1/\t.drop 7=n.text:=by
 have sl:∀{a b:dh}{s:bu},pH a b s->s≠[]->s.getLast?=some 42:=by
  intro a b s i;induction i with
  |done=>intro h;exact(h rfl).elim
  |@star w ws bQ s p hr y=>
   intro _;cases s with
   |nil=>rfl
   |cons c s=>rw[List.getLast?_cons_cons];exact y sp
 cases h with
 |@base w ws bH s u j i=>
  exfalso;have:w.text∈wJ:=by
   simp only[dF,anyS,fw]at u;obtain⟨x,A,i⟩:=u;simp only[bF,cf,ju]at i;rw[i.1];exact A
  simp only[wJ,ak,bm,cT]at this;rcases this with e|e|e|e|e
  ·rw[e]at f;simp at f
  ·rw[e]at f;simp at f
  ·rw[e]at f;simp at f
  ·rw[e]at f;simp at f
  ·exact j e
 |@struct w n ws bH s p j i=>
  cases i with
  |done _=>exact⟨w,n,rfl,p,j,sp⟩
  |@star C dR IK s2 m o=>
   exfalso;apply v;have:=sl (.star m o) sp;rw[List.getLast?_append,this];rfl
theorem Eg(a b:nj):xZ (a++b)=xZ a+xZ b:=by
 induction a with
 |nil=>simp[xZ]
 |cons x a e=>simp[xZ,e]<;>omega
abbrev LE:=AV×Nat×List AV
def oP(L:List LE):List Nat:=L.flatMap λe=>aT e.1
structure GA(r g b lo n:Nat)(L:List LE)(h:ah):Prop where
 el:∀e,e∈L->∃m,cu [] h e.1 e.2.1 m e.2.2/\e.2.2.length=m*e.2.1/\m<=n
 nd:(oP L).Nodup
 no:∀z,z∈oP L->lo<=z/\z≠r/\z≠g/\z≠b
 lor:lo<=r
 log:lo<=g
abbrev RI.L(I:RI)(c1 c2 c3 c4:List AV):List LE:=[(I.l1,2,c1),(I.l2,3,c2),(I.l3,5,c3),(I.l4,2,c4)]
def RI.ar(I:RI):List Nat:=I.r::I.g::I.b::oP (I.L [] [] [] [])
theorem cu.kx{X Y:cB}{h h':ah}{av:AV}{es n:Nat}{cs:eu}(a:cu X h av es n cs)(f:bP h)(k:aR Y h h')(e:∀y,y∈Y->y∈X):cu X h' av es n cs:=
 a.move (Move.of f k (λz i _=>e z i) λ_ j=> .inl j)
theorem cu.cast{X:cB}{h:ah}{av:AV}{es n n':Nat}{cs e:eu}(a:cu X h av es n cs)(f:n=n')(i:cs=e):cu X h av es n' e:=f▸i▸a
theorem cu.re{X Y:cB}{h h':ah}{av:AV}{es n:Nat}{cs:eu}(a:cu X h av es n cs)(hr:∀z o,z∈aT av->h.get z=some o->h'.get z=some o/\z∉Y):cu Y h' av es n cs:=by
 rcases a with a|⟨b,rfl,i,g⟩
 ·exact .inl a
 ·obtain⟨e,f⟩:=hr b _ (by simp[aT]) g;exact .inr ⟨b,rfl,f,e⟩
theorem cu.ni{X:cB}{h:ah}{av:AV}{es n:Nat}{cs:eu}(a:cu X h av es n cs){z:Nat}(e:z∈aT av):z∉X/\∃o,h.get z=some o:=by
 rcases a with⟨_,_,rfl⟩|⟨b,rfl,f,g⟩
 ·simp[aT]at e
 ·simp only[aT,aQ]at e;subst e;exact⟨f,_,g⟩
section
variable{r g b lo n n':Nat}{L:List LE}{h h':ah}
theorem GA.in(x:GA r g b lo n L h){z:Nat}(f:z∈oP L):∃o,h.get z=some o:=by
 obtain⟨e,he,f⟩:=lP.1 f;obtain⟨m,a,_⟩:=x.el e he;exact(a.ni f).2
theorem GA.call(x:GA r g b lo n L h)(f:bP h)(k:aR [r,g] h h'):GA r g b lo n L h':=
 ⟨λe he=>by
  obtain⟨m,a,u⟩:=x.el e he;refine⟨m,a.re λz o i ho=>⟨?_,sp⟩,u⟩;have:=x.no z (lP.2 ⟨e,he,i⟩);rw[k.old z (aw f ho) (by simp[this])];exact ho,x.nd,x.no,x.lor,x.log⟩
theorem GA.mono(x:GA r g b lo n L h)(f:n<=n'):GA r g b lo n' L h:=⟨λe he=>by
 obtain⟨m,a,u,v⟩:=x.el e he;exact⟨m,a,u,bh v f⟩,x.nd,x.no,x.lor,x.log⟩
end
theorem Move.add{X Y Z:cB}{h h':ah}(m:Move X Z h h'):Move (Y++X) (Y++Z) h h':=⟨λi o g hi=>by
 simp only[aP,iS]at hi⊢;exact⟨(m.aH i o g hi.2).1,hi.1,(m.aH i o g hi.2).2⟩⟩
def OK(f:Fd):List AV:=[.str f.ty,.str f.nm,.bool false]
def OM(q:Pm):List AV:=[.str q.ty,.str q.nm,.bool q.AR]
inductive Cq(X:List Nat)(h:ah):List It->List AV->List AV->List AV->Prop where
 |nil:Cq X h [] [] [] []
 |st {l:List It} {c1 c2 c3:List AV} {p:Pl} {nm:List UInt8} {fs:List Fd} {fv:AV} (s:Cq X h l c1 c2 c3) (a:cu X h fv 3 fs.length (fs.flatMap OK)):Cq X h (l++[.struct p nm fs]) (c1++[.str nm,fv]) c2 c3
 |gl {l:List It} {c1 c2 c3:List AV} {p:Pl} {ty nm:List UInt8} (s:Cq X h l c1 c2 c3):Cq X h (l++[.global p ty nm]) c1 (c2++[.str ty,.str nm,.bool false]) c3
 |fn {l:List It} {c1 c2 c3:List AV} {p:Pl} {ty nm:List UInt8} {ps:List Pm} {b:Sm} {pv:AV} {id:Nat} (s:Cq X h l c1 c2 c3) (a:cu X h pv 3 ps.length (ps.flatMap OM)) (e:eK X h id b.rn):Cq X h (l++[.func p ty nm ps b]) c1 c2 (c3++[.str ty,.str nm,pv,.P id,.Z])
theorem Cq.move{X Y:cB}{h h':ah}(m:Move X Y h h'){l:nj}{c1 c2 c3:eu}(s:Cq X h l c1 c2 c3):Cq Y h' l c1 c2 c3:=by
 induction s with
 |nil=>exact .nil
 |st _ a f=>exact .st f (a.move m)
 |gl _ f=>exact .gl f
 |fn _ a e f=>exact .fn f (a.move m) (e.move m)
theorem Cq.len{X:cB}{h:ah}{l:nj}{c1 c2 c3:eu}(s:Cq X h l c1 c2 c3):c3.length=xZ l*5:=by
 induction s with
 |nil=>rfl
 |st _ _ a=>simp[Eg,xZ,It.fc,a]
 |gl _ a=>simp[Eg,xZ,It.fc,a]
 |fn _ _ _ a=>simp[Eg,xZ,It.fc,a];omega
end
section
section
variable{I:RI}{s:RS}{H:ah}{lo n:Nat}
theorem RP.li(p:RP I s H)(nd:Int)(a1 a2 a3 a4:AV):RP ⟨I.r,I.g,I.b,I.W,a1,a2,a3,a4⟩ s (H.set I.g (.C [a1,a2,a3,a4,.I nd,.I s.dp])):=
 ⟨by rw[ah.aM,ay p.rg];exact p.obj,⟨nd,by rw[ah.aM,aY rfl]⟩,by rw[ah.aM,ay p.gb.symm];exact p.arr,p.rg,p.rb,p.gb,p.rl,p.gl,p.bl,p.fr.put _ p.gl,p.kl,p.dd,p.d2,p.AE⟩
theorem RP.app{A B:List LE}{av:AV}{es D:Nat}{cs z:eu}{st e:TypeId}(hu:env.nv st=some (.slice e))(hs:env.siz e=some (es+1))(hb:env.byt e=some D)(J:D<=100)(f:env.zer e=some z)(K:z.length=es+1)
 (p:RP I s H) (x:GA I.r I.g I.b lo n (A++(av,es+1,cs)::B) H) (A1:lo<=H.nx) {j:Nat} (N:H.get j=none) (hj:j<H.nx) (A2:lo<=j) (v:eu) (F:v.length=es+1) (O:v.all AV.scalar=true) (hn:n<=300):
 ∃m t,aK env (H.set j (.D (es+1) v)) st av (.S j 1)=some (.S H.nx (m+1),t)/\t.nx=H.nx+1/\t.get I.r=H.get I.r/\t.get I.g=H.get I.g/\(∀i,i<lo->t.get i=H.get i)/\m<=n/\RP I s t/\
  ∀o,GA I.r I.g I.b lo (n+1) (A++(.S H.nx (m+1),es+1,cs++v)::B) (t.set I.g o)/\Move (I.r::I.g::I.b::oP (A++(av,es+1,cs)::B)) (I.r::I.g::I.b::oP (A++(.S H.nx (m+1),es+1,cs++v)::B)) H (t.set I.g o):=by
 obtain⟨m,V,P,u1⟩:=x.el (av,es+1,cs) sp;dsimp only at V P;have W:=p.new (.D (es+1) v) N hj;have w:(H.set j (.D (es+1) v)).nx=H.nx:=rfl
 obtain⟨t,y,nx,g7,Q⟩:=oW hu hs hb J f K (V.move (Move.new (.D (es+1) v) N)) P om j v F O sp W.fr;rw[w]at y nx g7;have qp:∀z,z∈aT av->z∈oP (A++(av,es+1,cs)::B):=λz f=>lP.2 ⟨(av,es+1,cs),sp,f⟩;have bi:=λz f=>(x.no z (qp z f)).2;have p7:=W.off Q (λf=>(bi _ f).1 rfl) (λf=>(bi _ f).2.1 rfl) (λf=>(bi _ f).2.2 rfl);have old:∀z o,H.get z=some o->z∉aT av->t.get z=some o:=λz o ho f=>by
  have R:z≠j:=λe=>by rw[e,N]at ho;cases ho
  rw[Q.old z (by rw[w];exact aw p.fr ho) f,ah.aM,ay R];exact ho
 obtain⟨nd,Z⟩:=p.prog;have hN:=x.nd;simp only[oP,jB,dy,List.nodup_append]at hN;obtain⟨n1,⟨n2,n3,n4⟩,n5⟩:=hN;have lt:∀z,z∈oP A\/z∈oP B->z<H.nx:=λz f=>by
  obtain⟨o,ho⟩:=x.in (z:=z) (by simp only[oP,jB,dy,aP];exact f.elim .inl λh=> .inr (.inr h));exact aw p.fr ho
 have rl:=p.rl;have gl:=p.gl;have bl:=p.bl;refine⟨m,t,y,nx,(old _ _ p.obj λf=>(bi _ f).1 rfl).trans p.obj.symm,(old _ _ Z λf=>(bi _ f).2.1 rfl).trans Z.symm,λi hi=>?_,u1,p7,λo=>⟨⟨λe he=>?_,?_,λz f=>?_,x.lor,x.log⟩,⟨λz ob gz f=>?_⟩⟩⟩
 ·rw[Q.old i (by rw[w];omega) (λf=>by have:=(x.no i (qp i f)).1;omega),ah.aM,ay om]
 ·have u:e∈A\/e∈B->∃m,cu [] (t.set I.g o) e.1 e.2.1 m e.2.2/\e.2.2.length=m*e.2.1/\m<=n+1:=λhe=>by
   obtain⟨m2,a2,u2,v2⟩:=x.el e (by simp only[aP,ak];exact he.elim .inl λh=> .inr (.inr h));refine⟨m2,a2.re λz ob f ho=>⟨?_,sp⟩,u2,om⟩;have S:z∈oP (A++(av,es+1,cs)::B):=lP.2 ⟨e,by simp only[aP,ak];exact he.elim .inl λh=> .inr (.inr h),f⟩;rw[ah.aM,ay (x.no z S).2.2.1];refine old z ob ho λhv=>?_;rcases he with he|he
   ·exact n5 z (lP.2 ⟨e,he,f⟩) z (eJ _ hv) rfl
   ·exact n4 z hv z (lP.2 ⟨e,he,f⟩) rfl
  simp only[aP,ak]at he;rcases he with he|rfl|he
  ·exact u (.inl he)
  ·refine⟨m+1,.inr ⟨H.nx,rfl,sp,?_⟩,by simp only[aO,F,P];rw[Nat.succ_mul],om⟩;rw[ah.aM,ay om];exact g7
  ·exact u (.inr he)
 ·simp only[oP,jB,dy,List.nodup_append,aT];refine⟨n1,⟨sp,n3,λa y c C=>?_⟩,λa y c C=>?_⟩
  ·have:=lt c (.inr C);simp only[aQ]at y;omega
  ·rcases aP.1 C with C|C
   ·have:=lt a (.inl y);simp only[aQ]at C;omega
   ·exact n5 a y c (bw _ C)
 ·simp only[oP,jB,dy,aP,aT,aQ]at f;have u:z∈oP A\/z∈oP B->_:=λh=>x.no z (by simp only[oP,jB,dy,aP];exact h.elim .inl λh=> .inr (.inr h));rcases f with f|rfl|f
  ·exact u (.inl f)
  ·omega
  ·exact u (.inr f)
 ·have U:=aw p.fr gz;simp only[oP,jB,dy,ak,aP,iS]at f;obtain⟨z1,z2,z3,z4,z5,z6⟩:=f;refine⟨by rw[ah.aM,ay z2];exact old z ob gz z5,?_⟩;simp only[oP,jB,dy,ak,aP,iS,aT,bm,cT];exact⟨z1,z2,z3,z4,Nat.ne_of_lt U,z6⟩
end
end
end Go.Proofs.YtaekaifihehgdaaGreatDoor
