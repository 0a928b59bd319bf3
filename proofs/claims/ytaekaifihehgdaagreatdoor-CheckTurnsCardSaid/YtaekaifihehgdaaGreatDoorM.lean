/- Lemmas for CheckTurns; each states its own conditions. -/
import Derived.Test.YtaekaifihehgdaaGreatDoorL
set_option maxRecDepth 100000
set_option maxHeartbeats 0
set_option linter.unusedSimpArgs false
set_option linter.unusedVariables false
namespace Go.Proofs.YtaekaifihehgdaaGreatDoor
open Go.Am Tryz
section
section
variable{S:Sc}{B:CB}{X0:cB}{h0:ah}{X Y:cB}{V:CV}{d:Dn}{h h1:ah}{P:Pl->Prop}
theorem cJ.SM(c:cJ S B X0 h0 X V d h){k a:Nat}{v:Vr}(t:V.vs[k]?=some a)(A:d.vs[k]?=some v):
 cJ S B X0 h0 X V (d.take k) (h.set a (.C ({v with taken:=true}:Vr).cs))/\Mv B V X X h (h.set a (.C ({v with taken:=true}:Vr).cs)):=by
 obtain⟨mv,fr,xl,⟨ov,c1,c2⟩,⟨s,f1,f2⟩,nm,vl,vs,nd,va,sa,ne,own,ok⟩:=c;have u:=own.v a (bg t);have m:Mv B V X X h (h.set a (.C ({v with taken:=true}:Vr).cs)):=Mv.set u (λj l e=>l.v (by rw[e];exact bg t)) _;have ga:=vs k a v t A;have ms:∀i o,h.get i=some o->i≠a->(h.set a (.C ({v with taken:=true}:Vr).cs)).get i=some o:=λi o g hi=>by rw[ah.aM,ay hi];exact g
 refine⟨⟨mv.comp m.toMove,λj f=>?_,λx u=>xl x u,⟨ov,ms _ _ c1 λe=>?_,c2.move m.toMove⟩,⟨s,f1,ms _ _ f2 λe=>?_⟩,ms _ _ nm λe=>?_,by simp only[Dn.take,jb];exact vl,λj b w h1 p=>?_,nd,?_,?_,ne,own,ok.take k⟩,m⟩
 ·have:=xl _ u;rw[ah.aM,ay (by simp at f;omega)];exact fr j f
 ·rw[e,ga]at c1;simp[CB.ob,Vr.cs]at c1
 ·rw[e,ga]at f2;simp[Vr.cs]at f2
 ·rw[e,ga]at nm;simp at nm
 ·simp only[Dn.take,List.getElem?_modify]at p;by_cases f:k=j
  ·subst f;rw[t]at h1;injection h1 with h1;subst h1;rw[A]at p;simp at p;subst p;simp
  ·have y:b≠a:=λe=>by
    subst e;obtain⟨l1,e1⟩:=aV.1 h1;obtain⟨l2,e2⟩:=aV.1 t;exact f ((List.getElem_inj nd).1 (e2.trans e1.symm))
   simp[f]at p;exact ms _ _ (vs j b w h1 p) y
 ·rcases va with va|⟨b,e,C,g⟩
  ·exact .inl va
  ·refine .inr ⟨b,e,C,ms _ _ g λe=>?_⟩;rw[e,ga]at g;simp at g
 ·exact kI.set (d:=d) sa ga sp
theorem Q3{av:AV}{qs:List (Nat×Ex)}(ar:cQ X h av qs){i:Nat}{q:Nat×Ex}(a:qs[i]?=some q):∃b,av= .S b qs.length/\h.get b=some (.D 1 (qs.map λp=> .P p.1))/\(qs.map λp=>AV.P p.1)[i]?=some (.P q.1):=by
 rcases ar with⟨rfl,_⟩|⟨b,e,_,g⟩
 ·simp at a
 ·exact⟨b,e,g,by rw[bt,a];rfl⟩
theorem Oe(R:Stat S B X0 h0){p:Pl}{op:bu}{a:Ex}(IH:KE S B X0 h0 a)(hx:(Ex.un p op a).al P TL)(hn:a.nodes<=10000)(c:cJ S B X0 h0 X V d h){idx:Nat}(er:jl X0 h0 idx (.un p op a))(Q:Out->ah->Prop)(A:dS S B X0 h0 X V WT h Q (jv S (.un p op a) d)):
 ba env 133 [.P B.r,.P idx] h Q:=by
 refine wb fn133 rfl ?_;have C2:=er.move c.mv;obtain⟨C3,C,N,qs,A2,ha,A3⟩:=er.obj;obtain⟨⟨ia,xa⟩,rfl⟩:∃q,qs=[q]:=by
  cases qs with
  |nil=>cases ha
  |cons q r=>cases r with
   |nil=>exact⟨q,rfl⟩
   |cons=>cases ha
 simp only[bL,iL,Ex.args,da,qE]at ha;subst ha;have era:=A3 (ia,xa) sp;obtain⟨b,rfl,A4,_⟩:=Q3 A2 (i:=0) rfl;have bx:b∉X0:=by
  rcases A2 with⟨h,_⟩|⟨b',e,hb,_⟩
  ·cases h
  ·injection e with e;injection e with e;injection e with e;subst e;exact hb
 have g0:=(c.mv.aH _ _ C N).1;have gb:=(c.mv.aH _ _ A4 bx).1;simp[Ex.cA,Ex.kd,Ex.pos,Ex.CQ,Ex.uT,Ex.nI,Ex.uU]at g0 C gb A4;simp only[jv]at A;by_cases h1:op=[33]
 ·subst h1;rw[aY rfl]at A;simp[f133,g0,gb];refine xK R IH hx.2 hn c era _ (dS.bind A (Mv.refl _ _ _ _) (λp w q=>U7 q) λe d1 v w hr g c2 U m2=>?_);obtain⟨y,rfl,t2⟩:=U;have key:=c2.Kr t2 ⟨10,[105,110,116],0,0,0,false,none⟩ rfl;simp only[Hd.cs,vP]at key;simp;exact g _ _ key.1 ⟨_,rfl,key.2.1⟩ key.2.2
 rw[ay h1]at A;have b1:(op==[33])=false:=az.2 h1;by_cases w:op=[42]
 ·subst w;rw[aY rfl]at A;simp[f133,g0,gb];refine oV R IH hx.2 hn c era _ (dS.bind A (Mv.refl _ _ _ _) (λp w q=>U7 q) λe d1 v w hr g c2 U m2=>?_);obtain⟨y,rfl,t2⟩:=U;have ln:=Cn (uy R hx.2 c.ok hr).1 om;obtain⟨W,g2,O,_⟩:=t2.obj;simp only[Hd.cs]at g2;have u:=(c2.mv.aH _ _ C N).1;simp;refine Dd ?_;simp[u,g2];have Z:=(aJ.refl w).bump 15;refine tR R (c2.aH Z) _ ln p _ (dS.bind g (Mv.k c2.fr Z) (λp w q=>⟨dc,λ_=>U7 q⟩) λt d3 v h3 C4 Au c3 w3 m3=>?_);have w3:v= .iO [.str t.1,.I t.2]:=w3;subst w3;have m23:=(Mv.k c2.fr Z).comp m3;have t3:=t2.move m23.toMove;simp;refine dm ?_;have key:=c3.Kr t3 ⟨4,t.1,0,0,0,false,none⟩ rfl;simp only[Hd.cs,vP]at key;exact Au _ _ key.1 ⟨_,rfl,key.2.1⟩ key.2.2
 rw[ay w]at A;have b2:(op==[42])=false:=az.2 w;by_cases h3:op=[38]
 ·subst h3;rw[aY rfl]at A;simp[f133,g0,gb];refine IH X V d _ ia _ c era (dS.bind A (Mv.refl _ _ _ _) (λp w q=>U7 q) λe d1 v w hr g c2 U m2=>?_);obtain⟨y,rfl,t2⟩:=U;have tk:=(D8 R hx.2 c.ok hr).1;have ln:=Cn tk om;obtain⟨W,g2,O,_⟩:=t2.obj;have C1:=g2;simp only[Hd.cs]at g2;have u:=(c2.mv.aH _ _ C N).1;simp;refine eF [0,1,26,27,28,29,2,3,4,5,6,7,8,9,10,11,12,13,14,15,16,17,18,19,20,21,22,23,24,25,30] kr (by simp[cz,dG];rfl) kr ?_;simp[u];have Z:=(aJ.refl w).bump 31;have gB:(w.bump 31).get y=some (.C (e.d.cs V.vs W)):=C1;have le:e.d.ty.length<=4611686018427387903:=by have:e.d.ty.length<=90000:=ln;omega
  have dk:=(D8 R hx.2 c.ok hr).2;unfold QU T6 TX.place at g;refine(yw gB).m1 λh3 hq=>?_;subst hq;cases hA:zq e.d.kd with
  |false=>
   simp only[hA,gR]at g;simp;refine dm ?_;have D:=Z;refine fI p false _ _ _ (λh6 _ k6=>?_) (λh6 hh _=>by cases hh);have F:=D.trans k6;exact⟨dc,λ_=>by simpa using g _ (Move.k c2.fr F) (F.fresh c2.fr)⟩
  |true=>
   simp only[hA,dZ]at g;simp[g2];refine dm ?_;refine qL R (c2.aH Z) _ (show e.ty.length<=100000 from om) _ λh3 k3=>?_;have D:=Z.trans k3;have A5:=(D.old _ (aw c2.fr g2)).trans g2;have C5:=(D.old _ (aw c2.fr u)).trans u;cases hB:sN S e.d.ty with
   |true=>
    simp only[TX.ty,hB,tf]at g;simp;refine dm ?_;refine jc (c2.aH D) g (Mv.k c2.fr D) (λh4 q=>⟨dc,λ_=>U7 q⟩) λh5 hb m c5 k5=>?_;have I:=D.trans k5;have g5:=(I.old _ (aw c2.fr g2)).trans g2;have t5:=t2.move (Move.k c2.fr I);simp;refine dm ?_;cases J:(e.d.kd==2)with
    |false=>
     simp only[J]at m;have key:=c5.Kr t5 ⟨8,e.ty++[42],0,0,0,false,none⟩ rfl;simp only[Hd.cs,vP]at key;simp[g5,J,le];exact m _ _ key.1 ⟨_,rfl,key.2.1⟩ key.2.2
    |true=>
     obtain⟨j,hv,hj⟩:=tk.v (U7 J);simp only[J,hv]at m;have A1:=c5.vl;obtain⟨a,o⟩:∃a,V.vs[j]?=some a:=⟨_,aj (by rw[A1,dk.vl];exact hj)⟩
     obtain⟨vr,K⟩:∃v,d1.vs[j]?=some v:=⟨_,aj (by rw[dk.vl];exact hj)⟩
     have ga:=c5.vs j a vr o K;have vp:vP V.vs e.d.v=some (a,0):=(by rw[hv];simp[vP,o]);obtain⟨c6,m6⟩:=c5.SM o K;have na:y≠a:=λe=>O (e▸c5.own.v a (bg o));have key:=c6.Kr (t5.move m6.toMove) ⟨8,e.ty++[42],0,0,0,false,none⟩ rfl;simp only[Hd.cs,vP,Vr.cs]at key;simp only[Vr.cs]at ga;simp[g5,J,le,vp,ga,na];exact m _ _ key.1 ⟨_,rfl,key.2.1⟩ (m6.comp key.2.2)
   |false=>
    simp only[TX.ty,hB,kM]at g;simp[A5];refine dm ?_;refine(D5 _ _ _).m1 λh4 hq=>?_;subst hq;have ek:([115,116,114,117,99,116,32]:bu)=iN:=rfl;rw[ek];cases hC:Lib.hasPrefix e.d.ty iN with
    |false=>
     simp only[hC,gR]at g;simp;refine dm ?_;refine fI p false _ _ _ (λh6 _ k6=>?_) (λh6 hh _=>by cases hh);have F:=D.trans k6;exact⟨dc,λ_=>by simpa using g _ (Move.k c2.fr F) (F.fresh c2.fr)⟩
    |true=>
     simp only[hC,dZ]at g;simp[A5];refine dm ?_;refine(Ai _ _ _ (show e.ty.length<=9000000000 from om) sp).m1 λh4 hq=>?_;subst hq;simp;refine dm ?_;refine jc (c2.aH D) g (Mv.k c2.fr D) (λh4 q=>⟨dc,λ_=>U7 q⟩) λh5 hb m c5 k5=>?_;have I:=D.trans k5;have g5:=(I.old _ (aw c2.fr g2)).trans g2;have t5:=t2.move (Move.k c2.fr I);simp;refine dm ?_;cases J:(e.d.kd==2)with
     |false=>
      simp only[J]at m;have key:=c5.Kr t5 ⟨8,e.ty++[42],0,0,0,false,none⟩ rfl;simp only[Hd.cs,vP]at key;simp[g5,J,le];exact m _ _ key.1 ⟨_,rfl,key.2.1⟩ key.2.2
     |true=>
      obtain⟨j,hv,hj⟩:=tk.v (U7 J);simp only[J,hv]at m;have A1:=c5.vl;obtain⟨a,o⟩:∃a,V.vs[j]?=some a:=⟨_,aj (by rw[A1,dk.vl];exact hj)⟩
      obtain⟨vr,K⟩:∃v,d1.vs[j]?=some v:=⟨_,aj (by rw[dk.vl];exact hj)⟩
      have ga:=c5.vs j a vr o K;have vp:vP V.vs e.d.v=some (a,0):=(by rw[hv];simp[vP,o]);obtain⟨c6,m6⟩:=c5.SM o K;have na:y≠a:=λe=>O (e▸c5.own.v a (bg o));have key:=c6.Kr (t5.move m6.toMove) ⟨8,e.ty++[42],0,0,0,false,none⟩ rfl;simp only[Hd.cs,vP,Vr.cs]at key;simp only[Vr.cs]at ga;simp[g5,J,le,vp,ga,na];exact m _ _ key.1 ⟨_,rfl,key.2.1⟩ (m6.comp key.2.2)
 ·rw[ay h3]at A;have b3:(op==[38])=false:=az.2 h3;simp[f133,g0,gb,b1,b2,b3];refine zs R IH hx.2 hn c era _ (dS.bind A (Mv.refl _ _ _ _) (λp w q=>U7 q) λe d1 v w hr g c2 U m2=>?_);obtain⟨y,rfl,t2⟩:=U;obtain⟨W,g2,O,_⟩:=t2.obj;simp only[Hd.cs]at g2;simp[g2];refine(AP _ _ _).m1 λh3 hq=>?_;subst hq;have u:=(c2.mv.aH _ _ C N).1;by_cases h4:op=[45]
  ·subst h4;rw[aY rfl]at g;have key:=c2.Kr t2 ⟨9,(tQ e.ty [99,104,97,114]).1,1,0,0,false,none⟩ rfl;simp only[Hd.cs,vP]at key;simp[u];exact g _ _ key.1 ⟨_,rfl,key.2.1⟩ key.2.2
  ·rw[ay h4]at g;have b4:(op==[45])=false:=az.2 h4;have key:=c2.Kr t2 ⟨9,(tQ e.ty [99,104,97,114]).1,2,0,0,false,none⟩ rfl;simp only[Hd.cs,vP]at key;simp[u,b4];exact g _ _ key.1 ⟨_,rfl,key.2.1⟩ key.2.2
end
end
section
section
variable{S:Sc}{B:CB}{X0:cB}{h0:ah}{X Y:cB}{V:CV}{d:Dn}{h h1:ah}{P:Pl->Prop}
theorem FH(op:bu)(h:ah):ba env 170 [.str op] h (λout h'=>out= .ret (.I (B9 op))/\h'=h):=by
 refine wb fn170 rfl ?_;by_cases h0:op=[43]
 ·subst h0;simp[f170,B9]
 have b0:(op==[43])=false:=az.2 h0;by_cases h1:op=[45]
 ·subst h1;simp[f170,B9]
 have I:(op==[45])=false:=az.2 h1;by_cases j:op=[42]
 ·subst j;simp[f170,B9]
 have J:(op==[42])=false:=az.2 j;by_cases m:op=[47]
 ·subst m;simp[f170,B9]
 have K:(op==[47])=false:=az.2 m;by_cases o:op=[37]
 ·subst o;simp[f170,B9]
 have N:(op==[37])=false:=az.2 o;by_cases p:op=[38]
 ·subst p;simp[f170,B9]
 have O:(op==[38])=false:=az.2 p;by_cases t:op=[124]
 ·subst t;simp[f170,B9]
 have Q:(op==[124])=false:=az.2 t;by_cases u:op=[94]
 ·subst u;simp[f170,B9]
 have R:(op==[94])=false:=az.2 u;by_cases v:op=[60,60]
 ·subst v;simp[f170,B9]
 have U:(op==[60,60])=false:=az.2 v;by_cases w:op=[62,62]
 ·subst w;simp[f170,B9]
 have W:(op==[62,62])=false:=az.2 w;by_cases a:op=[61,61]
 ·subst a;simp[f170,B9]
 have y:(op==[61,61])=false:=az.2 a;by_cases b:op=[33,61]
 ·subst b;simp[f170,B9]
 have A:(op==[33,61])=false:=az.2 b;by_cases e:op=[60]
 ·subst e;simp[f170,B9]
 have C:(op==[60])=false:=az.2 e;by_cases g:op=[60,61]
 ·subst g;simp[f170,B9]
 have D:(op==[60,61])=false:=az.2 g;by_cases i:op=[62]
 ·subst i;simp[f170,B9]
 have F:(op==[62])=false:=az.2 i;simp[f170,B9,b0,h0,I,h1,J,j,K,m,N,o,O,p,Q,t,R,u,U,v,W,w,y,a,A,b,C,e,D,g,F,i]
theorem Of(op:bu):11<=B9 op/\B9 op<=26:=by
 unfold B9
 repeat (split; ·omega)
 omega
theorem Q4(op:Int)(h:ah)(h1:11<=op)(b:op<=26):ba env 171 [.I op] h (λout h'=>∃n,out= .ret (.iO [.I n,.bool (decide (21<=op)&&decide (op<=26))])/\h'=h):=by
 refine wb fn171 rfl ?_;have a:op=11\/op=12\/op=13\/op=14\/op=15\/op=16\/op=17\/op=18\/op=19\/op=20\/op=21\/op=22\/op=23\/op=24\/op=25\/op=26:=om
 rcases a with rfl|rfl|rfl|rfl|rfl|rfl|rfl|rfl|rfl|rfl|rfl|rfl|rfl|rfl|rfl|rfl<;>simp[f171]
theorem BJ(c:cJ S B X0 h0 Y V d h){j:ah}{o b p t:Nat}{a e:TX}{op sz:Int}{tu:Bool}{ty:bu}(own:LD B V X)(v:∀x∈X,x∈Y)(ho:o∈Y)(LI:o∉X)(lo:Loc B V o)(w:b∉Y)(f:j.get o=none)(g:j.nx<=o)(m:Mv B V X Y j h)
 (gb:h.get b=some (.D 1 [.P p,.P t])) (y:jd Y V.vs h p a) (tb:jd Y V.vs h t e) {Q:Out->ah->Prop} {A u:dK} (C:dS S B X0 h0 X V WT j Q (.ok (.mk ⟨12,ty,op,0,sz,tu,none⟩ [a,e]) d)):
 Q (.ret (.P o)) (((h.set o A).set o u).set o (.C [.I 12,.str ty,.I op,.I 0,.I sz,.bool tu,.N,.S b 2])):=by
 obtain⟨c6,m6⟩:=c.put ho lo A;obtain⟨c7,m7⟩:=c6.put ho lo u;obtain⟨F,m8⟩:=c7.put ho lo (.C [.I 12,.str ty,.I op,.I 0,.I sz,.bool tu,.N,.S b 2]);have i:=m6.comp (m7.comp m8);have key:=F.out own v LI (D:=⟨12,ty,op,0,sz,tu,none⟩) (av:= .S b 2) (qs:=[(p,a),(t,e)]) (by simp[Hd.cs,vP]) (.inr ⟨b,rfl,w,(i.aH _ _ gb w).1⟩) (by simpa using⟨y.move i,tb.move i⟩) sp;have I:Mv B V X Y j _:=((m.put ho f g A).put ho f g u).put ho f g (.C [.I 12,.str ty,.I op,.I 0,.I sz,.bool tu,.N,.S b 2]);exact C _ _ key.1 ⟨o,rfl,key.2⟩ (I.comp (Mv.less v))
theorem Q5(hS:Stat S B X0 h0)(c:cJ S B X0 h0 Y V d h){hb:ah}{idx o b ia ib:Nat}{x:Ex}{a e:TX}{op:Int}(er:jl X0 h0 idx x)(hs:∀x∈X,x∈Y)(m:Mv B V X Y hb h)(own:LD B V X)(J:hb.get o=none)(K:hb.nx<=o)(ho:o∈Y)(LI:o∉X)(lo:Loc B V o)(bY:b∉Y)
 (go:h.get o=some (.C [.I 11,.str [],.I op,.I 0,.I 0,.bool false,.N,.S b 2])) (gb:h.get b=some (.D 1 [.P ia,.P ib]))
 (ta:jd Y V.vs h ia a) (tb:jd Y V.vs h ib e) (la:a.ty.length<=90000) (lb:e.ty.length<=90000) (Q Q':Out->ah->Prop) (O:dS S B X0 h0 X V WT hb Q (BE S a e op x.pos d))
 (hp:∀p h2,Q (.jz (xX p)) h2->Q' (.jz (xX p)) h2) (hk:∀h2,Q (.ret (.P o)) h2->Q' (.ret (.iO [])) h2):
 ba env 172 [.P B.r,.P idx,.P o] h Q':=by
 refine wb fn172 rfl ?_;obtain⟨kd,p,F3,nm,n,ty,av,tl,gx,nx,_,F2,_⟩:=(er.move c.mv).ob;rw[<-F2]at O;obtain⟨F4,ga,F,_⟩:=ta.obj;obtain⟨F5,ge,R,_⟩:=tb.obj;simp only[Hd.cs]at ga ge;unfold BE at O;simp[f172];refine Dd ?_;simp[go,gb];refine dl ?_;have C8:=(aJ.refl h).bump 14;replace m:=m.comp (Mv.k c.fr C8);replace ta:=ta.move (Move.k c.fr C8);replace tb:=tb.move (Move.k c.fr C8);replace c:=c.aH C8;have put:=λob=>c.put ho lo ob;have y:op=11->(op==12)=false:=λe=>by subst e;rfl
 cases I:(op==11)with
 |true=>
  replace y:=y (U7 I);simp only[I,dZ,tf]at O;simp[ge];refine(vN _ _ (show e.ty.length<=9000000000 from om)).m1 λh3 hq=>?_;subst hq;cases C9:BC e.d.ty with
  |true=>
   simp only[C9]at O;simp[go];obtain⟨c1,m1⟩:=put (.C [.I 11,.str [],.I op,.I 0,.I 0,.bool true,.N,.S b 2]);have j:((h.bump 14).set o (.C [.I 11,.str [],.I op,.I 0,.I 0,.bool true,.N,.S b 2])).get o=some (.C [.I 11,.str [],.I op,.I 0,.I 0,.bool true,.N,.S b 2]):=sp;have M1:Mv B V X Y hb ((h.bump 14).set o (.C [.I 11,.str [],.I op,.I 0,.I 0,.bool true,.N,.S b 2])):=m.put ho J K _;generalize (h.bump 14).set o (.C [.I 11,.str [],.I op,.I 0,.I 0,.bool true,.N,.S b 2])=H at*;have A:=(m1.aH _ _ (show(h.bump 14).get _=_ from ge) R).1;have U:=(m1.aH _ _ (show(h.bump 14).get _=_ from ga) F).1;have u:=(m1.aH _ _ (show(h.bump 14).get _=_ from gx) nx).1;have C:=(m1.aH _ _ (show(h.bump 14).get _=_ from gb) bY).1;have W:=ta.move m1;have Z:=tb.move m1;refine eF [0,1,2,3,4,5,6,7,8,9,10,11,12,13,14,15,16,17,20,21,22,23,18,19,24] kr (by simp[cz,dG];rfl) kr ?_;simp[j,U,I,u];refine(jY _ _).m1 λh3 hq=>?_;subst hq;simp;refine dm ?_;have N:=(aJ.refl H).bump 25;refine nU (c1.aH N) O hs (M1.comp (Mv.k c1.fr N)) (λh4 q=>⟨dc,λ_=>by simpa using hp _ _ q⟩) λh4 CL A1 c4 k4 M4=>?_;have g:=N.trans k4;have A2:=(g.old _ (aw c1.fr j)).trans j;have D:=(g.old _ (aw c1.fr A)).trans A;have A3:=(g.old _ (aw c1.fr u)).trans u;have A4:=(g.old _ (aw c1.fr C)).trans C;have A5:=W.move (Move.k c1.fr g);have Au:=Z.move (Move.k c1.fr g);simp;refine dl ?_;refine Dd ?_;simp[D,A3];have w:=(aJ.refl h4).bump 17;refine tR hS (c4.aH w) _ lb p _ (dS.uS A1 hs (M4.comp (Mv.k c4.fr w)) (λp h2 q=>⟨dc,λ_=>by simpa using hp _ _ q⟩) λt d5 v h5 F0 C1 c5 w5 M5 m5=>?_);have w5:v= .iO [.str t.1,.I t.2]:=w5;subst w5;have i:=(Mv.k (B:=B) (V:=V) (X:=Y) c4.fr w).comp m5;have C2:=i.lk _ _ lo A2;have C3:=(i.aH _ _ A4 bY).1;have C4:=(i.aH _ _ D R).1;have C5:=A5.move i.toMove;have C6:=Au.move i.toMove;simp[C2];refine dl ?_;have C7:ib≠o:=λe=>R (e▸ho);simp[C4,C7];exact hk _ (BJ c5 own hs ho LI lo bY J K M5 C3 C5 C6 C1)
  |false=>
   simp only[C9]at O;simp[go];obtain⟨c1,m1⟩:=put (.C [.I 11,.str [],.I op,.I 0,.I 0,.bool false,.N,.S b 2]);have j:((h.bump 14).set o (.C [.I 11,.str [],.I op,.I 0,.I 0,.bool false,.N,.S b 2])).get o=some (.C [.I 11,.str [],.I op,.I 0,.I 0,.bool false,.N,.S b 2]):=sp;have M1:Mv B V X Y hb ((h.bump 14).set o (.C [.I 11,.str [],.I op,.I 0,.I 0,.bool false,.N,.S b 2])):=m.put ho J K _;generalize (h.bump 14).set o (.C [.I 11,.str [],.I op,.I 0,.I 0,.bool false,.N,.S b 2])=H at*;have A:=(m1.aH _ _ (show(h.bump 14).get _=_ from ga) F).1;have U:=(m1.aH _ _ (show(h.bump 14).get _=_ from ge) R).1;have u:=(m1.aH _ _ (show(h.bump 14).get _=_ from gx) nx).1;have C:=(m1.aH _ _ (show(h.bump 14).get _=_ from gb) bY).1;have W:=ta.move m1;have Z:=tb.move m1;refine eF [0,1,2,3,4,5,6,7,8,9,10,11,12,13,14,15,16,17,20,21,22,23,18,19,24] kr (by simp[cz,dG];rfl) kr ?_;simp[j,U,I,u];refine(jY _ _).m1 λh3 hq=>?_;subst hq;simp;refine dm ?_;have N:=(aJ.refl H).bump 25;refine nU (c1.aH N) O hs (M1.comp (Mv.k c1.fr N)) (λh4 q=>⟨dc,λ_=>by simpa using hp _ _ q⟩) λh4 CL A1 c4 k4 M4=>?_;have g:=N.trans k4;have A2:=(g.old _ (aw c1.fr j)).trans j;have D:=(g.old _ (aw c1.fr A)).trans A;have A3:=(g.old _ (aw c1.fr u)).trans u;have A4:=(g.old _ (aw c1.fr C)).trans C;have A5:=W.move (Move.k c1.fr g);have Au:=Z.move (Move.k c1.fr g);simp;refine dl ?_;refine Dd ?_;simp[D,A3];have w:=(aJ.refl h4).bump 17;refine tR hS (c4.aH w) _ la p _ (dS.uS A1 hs (M4.comp (Mv.k c4.fr w)) (λp h2 q=>⟨dc,λ_=>by simpa using hp _ _ q⟩) λt d5 v h5 F0 C1 c5 w5 M5 m5=>?_);have w5:v= .iO [.str t.1,.I t.2]:=w5;subst w5;have i:=(Mv.k (B:=B) (V:=V) (X:=Y) c4.fr w).comp m5;have C2:=i.lk _ _ lo A2;have C3:=(i.aH _ _ A4 bY).1;have C4:=(i.aH _ _ D F).1;have C5:=A5.move i.toMove;have C6:=Au.move i.toMove;simp[C2];refine dl ?_;have C7:ia≠o:=λe=>F (e▸ho);simp[C4,C7];exact hk _ (BJ c5 own hs ho LI lo bY J K M5 C3 C5 C6 C1)
 |false=>
  simp only[I,gR,kM]at O;clear y;simp[go];cases y:(op==12)with
  |true=>
   simp only[y,dZ]at O;obtain⟨c1,m1⟩:=put (.C [.I 11,.str [],.I op,.I 0,.I 0,.bool false,.N,.S b 2]);have j:((h.bump 14).set o (.C [.I 11,.str [],.I op,.I 0,.I 0,.bool false,.N,.S b 2])).get o=some (.C [.I 11,.str [],.I op,.I 0,.I 0,.bool false,.N,.S b 2]):=sp;have M1:Mv B V X Y hb ((h.bump 14).set o (.C [.I 11,.str [],.I op,.I 0,.I 0,.bool false,.N,.S b 2])):=m.put ho J K _;generalize (h.bump 14).set o (.C [.I 11,.str [],.I op,.I 0,.I 0,.bool false,.N,.S b 2])=H at*;have A:=(m1.aH _ _ (show(h.bump 14).get _=_ from ga) F).1;have U:=(m1.aH _ _ (show(h.bump 14).get _=_ from ge) R).1;have u:=(m1.aH _ _ (show(h.bump 14).get _=_ from gx) nx).1;have C:=(m1.aH _ _ (show(h.bump 14).get _=_ from gb) bY).1;have W:=ta.move m1;have Z:=tb.move m1;refine eF [0,1,2,3,4,5,6,7,8,9,10,11,12,13,14,15,16,17,20,21,22,23,18,19,24] kr (by simp[cz,dG];rfl) kr ?_;simp[j,U,I,y,u];refine(jY _ _).m1 λh3 hq=>?_;subst hq;simp;refine dm ?_;have N:=(aJ.refl H).bump 25;refine nU (c1.aH N) O hs (M1.comp (Mv.k c1.fr N)) (λh4 q=>⟨dc,λ_=>by simpa using hp _ _ q⟩) λh4 CL A1 c4 k4 M4=>?_;have g:=N.trans k4;have A2:=(g.old _ (aw c1.fr j)).trans j;have D:=(g.old _ (aw c1.fr A)).trans A;have A3:=(g.old _ (aw c1.fr u)).trans u;have A4:=(g.old _ (aw c1.fr C)).trans C;have A5:=W.move (Move.k c1.fr g);have Au:=Z.move (Move.k c1.fr g);simp;refine dl ?_;refine Dd ?_;simp[D,A3];have w:=(aJ.refl h4).bump 17;refine tR hS (c4.aH w) _ la p _ (dS.uS A1 hs (M4.comp (Mv.k c4.fr w)) (λp h2 q=>⟨dc,λ_=>by simpa using hp _ _ q⟩) λt d5 v h5 F0 C1 c5 w5 M5 m5=>?_);have w5:v= .iO [.str t.1,.I t.2]:=w5;subst w5;have i:=(Mv.k (B:=B) (V:=V) (X:=Y) c4.fr w).comp m5;have C2:=i.lk _ _ lo A2;have C3:=(i.aH _ _ A4 bY).1;have C4:=(i.aH _ _ D F).1;have C5:=A5.move i.toMove;have C6:=Au.move i.toMove;simp[C2];refine dl ?_;have C7:ia≠o:=λe=>F (e▸ho);simp[C4,C7];exact hk _ (BJ c5 own hs ho LI lo bY J K M5 C3 C5 C6 C1)
  |false=>
   simp only[y,gR]at O;obtain⟨c1,m1⟩:=put (.C [.I 11,.str [],.I op,.I 0,.I 0,.bool false,.N,.S b 2]);have j:((h.bump 14).set o (.C [.I 11,.str [],.I op,.I 0,.I 0,.bool false,.N,.S b 2])).get o=some (.C [.I 11,.str [],.I op,.I 0,.I 0,.bool false,.N,.S b 2]):=sp;generalize (h.bump 14).set o (.C [.I 11,.str [],.I op,.I 0,.I 0,.bool false,.N,.S b 2])=H at*;have u:=(m1.aH _ _ (show(h.bump 14).get _=_ from gx) nx).1;refine eF [0,1,2,3,4,5,6,7,8,9,10,11,12,13,14,15,16,17,20,21,22,23,18,19,24] kr (by simp[cz,dG];rfl) kr ?_;simp[j,I,y,u];refine dm ?_;have N:=(aJ.refl H).bump 25;refine fI p false _ _ _ (λh6 _ k6=>?_) (λh6 hh _=>by cases hh);have F1:=N.trans k6;exact⟨dc,λ_=>by simpa using hp _ _ (O _ (((m.toMove.comp m1).comp (Move.k c1.fr F1)).comp (Move.less hs)) (F1.fresh c1.fr))⟩
end
end
section
section
variable{S:Sc}{B:CB}{X0:cB}{h0:ah}{X Y:cB}{V:CV}{d:Dn}{h h1:ah}{P:Pl->Prop}
theorem ba.CR{E:Env}{ops:Array Oper}{rest:List Oper}{Q Q':bT->St->Prop}{d:Option Tmp}{rg:T AV}{n:Nat}{ds:List nh}{bX:Bool}{f:FuncId}{args:eu}{h:ah}(hw:ba E f args h (uQ E ops rest Q' d rg n ds bX))(a:∀x st,Q' x st->Q x st):ba E f args h (uQ E ops rest Q d rg n ds bX):=
 hw.mono λout h' b=>by
  cases out with
  |ret v=>exact uv a b
  |jz v=>exact a _ _ b
theorem Q6{E:Env}{P:T AV->Prop}{n:Nat}{h:ah}{G:Prop}(code:Code)(a:bT->St->Prop)(hm:(∀cC,P cC->ct E code a ⟨cC,n,h,[],false⟩)->G)(ht:∀cC,P cC->ct E code a ⟨cC,n,h,[],false⟩):G:=hm ht
theorem wF(c:cJ S B X0 h0 Y V d h){f:ah}{o b g i:Nat}{a e:TX}{op:Int}{ty:bu}(own:LD B V X)(t:∀x∈X,x∈Y)(ho:o∈Y)(LI:o∉X)(lo:Loc B V o)(u:b∉Y)(j:f.get o=none)(p:f.nx<=o)(m:Mv B V X Y f h)
 (gb:h.get b=some (.D 1 [.P g,.P i])) (v:jd Y V.vs h g a) (tb:jd Y V.vs h i e) {Q:Out->ah->Prop} (w:dS S B X0 h0 X V WT f Q (.ok (.mk ⟨11,ty,op,0,0,false,none⟩ [a,e]) d)):
 Q (.ret (.P o)) (h.set o (.C [.I 11,.str ty,.I op,.I 0,.I 0,.bool false,.N,.S b 2])):=by
 obtain⟨y,m8⟩:=c.put ho lo (.C [.I 11,.str ty,.I op,.I 0,.I 0,.bool false,.N,.S b 2]);have key:=y.out own t LI (D:=⟨11,ty,op,0,0,false,none⟩) (av:= .S b 2) (qs:=[(g,a),(i,e)]) (by simp[Hd.cs,vP]) (.inr ⟨b,rfl,u,(m8.aH _ _ gb u).1⟩) (by simpa using⟨v.move m8,tb.move m8⟩) sp;exact w _ _ key.1 ⟨o,rfl,key.2⟩ ((m.put ho j p _).comp (Mv.less t))
theorem Ac{h:ah}{X:cB}{id:Nat}{x a b:Ex}(o:jl X h id x)(p:x.args=[a,b]):∃av f i,h.get id=some (.C (x.cA (.S av 2) x.cR))/\id∉X/\av∉X/\h.get av=some (.D 1 [.P f,.P i])/\jl X h f a/\jl X h i b:=by
 obtain⟨t,g,nx,qs,ar,e,sub⟩:=o.obj;rw[p]at e
 match qs,e,ar,sub with
 |[j,m],e,ar,sub=>
  simp only[bL,iL,da,qE]at e;obtain⟨rfl,rfl⟩:=e;rcases ar with⟨h,_⟩|⟨b,rfl,u,gb⟩
  ·cases h
  ·exact⟨b,j.1,m.1,g,nx,u,gb,sub j sp,sub m sp⟩
theorem CI{h:ah}{X:cB}{id:Nat}{x a:Ex}(j:jl X h id x)(m:x.args=[a]):∃av f,h.get id=some (.C (x.cA (.S av 1) x.cR))/\id∉X/\av∉X/\h.get av=some (.D 1 [.P f])/\jl X h f a:=by
 obtain⟨o,g,nx,qs,ar,e,sub⟩:=j.obj;rw[m]at e
 match qs,e,ar,sub with
 |[i],e,ar,sub=>
  simp only[bL,iL,da,qE]at e;subst e;rcases ar with⟨h,_⟩|⟨b,rfl,p,gb⟩
  ·cases h
  ·exact⟨b,i.1,g,nx,p,gb,sub i sp⟩
theorem LO(hS:Stat S B X0 h0){p:Pl}{op:bu}{a b:Ex}(F2:KE S B X0 h0 a)(F3:KE S B X0 h0 b)(hx:(Ex.bin p op a b).al P TL)(hn:(Ex.bin p op a b).nodes<=10000)(c:cJ S B X0 h0 X V d h){idx:Nat}(er:jl X0 h0 idx (.bin p op a b))(Q:Out->ah->Prop)(hQ:dS S B X0 h0 X V WT h Q (jv S (.bin p op a b) d)):
 ba env 134 [.P B.r,.P idx] h Q:=by
 refine wb fn134 rfl ?_;simp only[Ex.nodes]at hn;obtain⟨HZ,C9,CL⟩:=hx;obtain⟨bb,ia,ib,N,U,bx,O,era,F0⟩:=Ac er rfl;have g0:=(c.mv.aH _ _ N U).1;have gb:=(c.mv.aH _ _ O bx).1;simp[Ex.cA,Ex.kd,Ex.pos,Ex.CQ,Ex.uT,Ex.nI,Ex.uU]at g0 N gb O;simp only[jv]at hQ;have nX:∀{h2:ah}{d2:Dn},cJ S B X0 h0 X V d2 h2->∀k,h2.nx<=k->k∉X:=λc k hk hx=>by have:=c.xl k hx;omega
 by_cases A3:op=[38,38]
 ·subst A3;rw[aY rfl]at hQ;simp[f134,g0];refine eF [0,1,2,3,4,5,6,8,9,10,11,12,13,14,7,15,16,17,18,19] kr (by simp[cz,dG];rfl) kr ?_;simp[g0,gb];have J:=(aJ.refl h).bump 20;refine xK hS F2 C9 om (c.aH J) era _ (dS.uS hQ (λ_ h=>h) (Mv.k c.fr J) (λp h2 q=>⟨dc,λ_=>U7 q⟩) λe d1 v h2 hr A4 c2 w2 M2 m2=>?_);obtain⟨u,rfl,t2⟩:=w2;have FP:=(c2.mv.aH _ _ N U).1;have FQ:=(c2.mv.aH _ _ O bx).1;simp;refine dm ?_;refine xK hS F3 CL om c2 F0 _ (dS.uS A4 (λ_ h=>h) M2 (λp h2 q=>⟨dc,λ_=>U7 q⟩) λe2 d3 v h3 F4 g c3 w3 M3 m3=>?_);obtain⟨m,rfl,t3⟩:=w3;have F5:=(c3.mv.aH _ _ N U).1;have FW:=(c3.mv.aH _ _ O bx).1;have t23:=t2.move m3.toMove;have F6:=m2.nx;have H6:=m3.nx;simp only[ah.jF]at F6;have A5:=m3.no (h.nx+16) om (Loc.fresh c (nX c _ om)) (m2.no (h.nx+16) sp (Loc.fresh c (nX c _ om)) (by simpa using c.fr (h.nx+16) om));have Au:=m3.no (h.nx+18) om (Loc.fresh c (nX c _ om)) (m2.no (h.nx+18) sp (Loc.fresh c (nX c _ om)) (by simpa using c.fr (h.nx+18) om));have nn:h.nx+20<=h3.nx:=by omega
  simp[A5,Au];refine dm ?_;have key:=c3.UF M3 c.fr c.xl (i:=h.nx+16) (j:=h.nx+18) A5 Au om om om om om (qs:=[(u,e),(m,e2)]) sp (by simpa using⟨t23,t3⟩) ⟨13,[105,110,116],0,0,0,false,none⟩ rfl;simp[Hd.cs,vP]at key;exact g _ _ key.1 ⟨_,rfl,key.2.1⟩ key.2.2
 rw[ay A3]at hQ;have G2:(op==[38,38])=false:=az.2 A3;by_cases C1:op=[124,124]
 ·subst C1;rw[aY rfl]at hQ;simp[f134,g0];refine eF [0,1,2,3,4,5,6,8,9,10,11,12,13,14,7,15,16,17,18,19] kr (by simp[cz,dG];rfl) kr ?_;simp[g0,gb];have J:=(aJ.refl h).bump 20;refine xK hS F2 C9 om (c.aH J) era _ (dS.uS hQ (λ_ h=>h) (Mv.k c.fr J) (λp h2 q=>⟨dc,λ_=>U7 q⟩) λe d1 v h2 hr A4 c2 w2 M2 m2=>?_);obtain⟨u,rfl,t2⟩:=w2;have FP:=(c2.mv.aH _ _ N U).1;have FQ:=(c2.mv.aH _ _ O bx).1;simp;refine dm ?_;refine xK hS F3 CL om c2 F0 _ (dS.uS A4 (λ_ h=>h) M2 (λp h2 q=>⟨dc,λ_=>U7 q⟩) λe2 d3 v h3 F4 g c3 w3 M3 m3=>?_);obtain⟨m,rfl,t3⟩:=w3;have F5:=(c3.mv.aH _ _ N U).1;have FW:=(c3.mv.aH _ _ O bx).1;have t23:=t2.move m3.toMove;have F6:=m2.nx;have H6:=m3.nx;simp only[ah.jF]at F6;have A5:=m3.no (h.nx+16) om (Loc.fresh c (nX c _ om)) (m2.no (h.nx+16) sp (Loc.fresh c (nX c _ om)) (by simpa using c.fr (h.nx+16) om));have Au:=m3.no (h.nx+18) om (Loc.fresh c (nX c _ om)) (m2.no (h.nx+18) sp (Loc.fresh c (nX c _ om)) (by simpa using c.fr (h.nx+18) om));have nn:h.nx+20<=h3.nx:=by omega
  simp[A5,Au];refine dm ?_;have key:=c3.UF M3 c.fr c.xl (i:=h.nx+16) (j:=h.nx+18) A5 Au om om om om om (qs:=[(u,e),(m,e2)]) sp (by simpa using⟨t23,t3⟩) ⟨14,[105,110,116],0,0,0,false,none⟩ rfl;simp[Hd.cs,vP]at key;exact g _ _ key.1 ⟨_,rfl,key.2.1⟩ key.2.2
 rw[ay C1]at hQ;have G3:(op==[124,124])=false:=az.2 C1;simp[f134,g0,G2,G3];refine eF [0,1,2,3,4,5,6,8,9,10,11,12,13,14,7,15,16,17] kr (by simp[cz,dG];rfl) kr ?_;simp[g0,gb];have J:=(aJ.refl h).bump 18;refine oV hS F2 C9 om (c.aH J) era _ (dS.uS hQ (λ_ h=>h) (Mv.k c.fr J) (λp h2 q=>⟨dc,λ_=>U7 q⟩) λe d1 v h2 hr A4 c2 w2 M2 m2=>?_);obtain⟨u,rfl,t2⟩:=w2;have FP:=(c2.mv.aH _ _ N U).1;have FQ:=(c2.mv.aH _ _ O bx).1;simp;refine dm ?_;refine oV hS F3 CL om c2 F0 _ (dS.uS A4 (λ_ h=>h) M2 (λp h2 q=>⟨dc,λ_=>U7 q⟩) λe2 d3 v h3 F4 g c3 w3 M3 m3=>?_);obtain⟨m,rfl,t3⟩:=w3;have F5:=(c3.mv.aH _ _ N U).1;have FW:=(c3.mv.aH _ _ O bx).1;have t23:=t2.move m3.toMove;have H7:=uy hS C9 c.ok hr;have H8:=uy hS CL c2.ok F4;have l1:=Cn H7.1 om;have l3:=Cn H8.1 om;simp;refine dm ?_;simp[F5];refine(FH _ _).m1 λw A=>?_;subst A;have G4:=Of op;generalize B9 op=on at*;obtain⟨Hc,C2,_⟩:=t23.obj;simp only[Hd.cs]at C2;have HG:=aw c3.fr C2;have F7:u≠w.nx/\u≠w.nx+1:=om
 obtain⟨F7,H9⟩:=F7;simp[C2,F7,H9];have K4:aJ w ((w.alloc (.D 1 [.P u,.P m])).2.alloc (.C [.I 11,.str [],.I on,.I 0,.I 0,.bool false,.N,.S w.nx 2])).2:=kT;have C3:((w.alloc (.D 1 [.P u,.P m])).2.alloc (.C [.I 11,.str [],.I on,.I 0,.I 0,.bool false,.N,.S w.nx 2])).2.get w.nx=some (.D 1 [.P u,.P m]):=sp
 have K:((w.alloc (.D 1 [.P u,.P m])).2.alloc (.C [.I 11,.str [],.I on,.I 0,.I 0,.bool false,.N,.S w.nx 2])).2.get (w.nx+1)=some (.C [.I 11,.str [],.I on,.I 0,.I 0,.bool false,.N,.S w.nx 2]):=sp
 obtain⟨R,lo,mY,oX⟩:=c3.more K4 (i:=w.nx+1) om sp;have MY:Mv B V X ((w.nx+1)::X) w _:=Mv.of mY c3.fr K4;have T1:=t23.move mY;have T2:=t3.move mY;have W:h.get (w.nx+1)=none:=c.fr _ (by have:=M3.nx;omega);have Z:h.nx<=w.nx+1:=by have:=M3.nx;omega
 have bY:w.nx∉(w.nx+1)::X:=by
  intro hx;rcases ak.1 hx with hx|hx
  ·omega
  ·have:=c3.xl _ hx;omega
 have M5:=M3.comp MY;have hs:∀x∈X,x∈(w.nx+1)::X:=λx hx=>au _ hx;have ho:w.nx+1∈(w.nx+1)::X:=bc ..;have D:=(R.mv.aH _ _ N U).1;have y:=(R.mv.aH _ _ O bx).1;have own:=c3.own;generalize ((w.alloc (.D 1 [.P u,.P m])).2.alloc (.C [.I 11,.str [],.I on,.I 0,.I 0,.bool false,.N,.S w.nx 2])).2=h5 at*;generalize w.nx+1=o at*;generalize w.nx=HA at*;clear mY MY K4 t23 t3 t2;obtain⟨I0,F,HP,_⟩:=T1.obj;obtain⟨I1,I,HU,_⟩:=T2.obj;simp only[Hd.cs]at F I;unfold Oa at g;dsimp only at g;have G5:=era.move R.mv;have HC:=F0.move R.mv;refine ba.CR (Q':=λx st=>x= .kj/\∃rg,st=⟨rg,225,h5,[],false⟩/\rg.get 0=some (.P B.r)/\rg.get 1=some (.P idx)/\rg.get 5=some (.P u)/\rg.get 6=some (.P m)/\rg.get 7=some (.P o)/\rg.get 8=some (.bool (tP e.d.ty&&tP e2.d.ty))) ?_ ?_
 ·refine(jY _ _).m1 λh6 A=>?_;subst A;cases hA:tP e.d.ty with
  |true=>
   simp[I];refine(jY _ _).m1 λh6 A=>?_;subst A;simp
  |false=>simp
 rintro x st ⟨rfl,rg,rfl,r0,C,r5,r6,r7,r8⟩
 simp[r7,K];refine(Q4 on _ G4.1 G4.2).mono λout h6 A=>?_;obtain⟨nf,rfl,rfl⟩:=A;simp only[TX.ty]at g;generalize I2:(tP e.d.ty&&tP e2.d.ty)=bo at*;cases GL:(decide (21<=on)&&decide (on<=26))with
 |true=>
  simp only[GL]at g;apply Q6 (n:=225) (h:=h6) (P:=λrg=>rg.get 0=some (.P B.r)/\rg.get 1=some (.P idx)/\rg.get 5=some (.P u)/\rg.get 6=some (.P m)/\rg.get 7=some (.P o)/\rg.get 8=some (.bool bo)/\rg.get 11=some (.bool (on==21||on==22)))
  case hm=>
   intro Gq;simp[r7,K];cases H2:(on==21)with
   |true=>
    simp;exact Gq _ ⟨by simp[r0],by simp[C],by simp[r5],by simp[r6],by simp[r7],by simp[r8],by simp[H2]⟩
   |false=>
    simp;exact Gq _ ⟨by simp[r0],by simp[C],by simp[r5],by simp[r6],by simp[r7],by simp[r8],by simp[H2]⟩
  case ht=>
   clear r0 C r5 r6 r7 r8
   rintro rg ⟨r0,C,r5,r6,r7,r8,t⟩
   generalize heq:(on==21||on==22)=eq at*;have J:=(aJ.refl h6).bump 42;refine rW (Q:=λx st=>x= .kj/\∃rg,st=⟨rg,225,h6.bump 42,[],false⟩/\rg.get 0=some (.P B.r)/\rg.get 1=some (.P idx)/\rg.get 5=some (.P u)/\rg.get 6=some (.P m)/\rg.get 7=some (.P o)/\rg.get 8=some (.bool bo)/\rg.get 11=some (.bool eq)/\rg.get 12=some (.bool (BC e.d.ty&&(e.d.ty==e2.d.ty||FE b)||BC e2.d.ty&&FE a))) ?_ (Dd ?_)
   ·clear r0 C r5 r6 r7 r8 t
    rintro x st ⟨rfl,rg,rfl,r0,C,r5,r6,r7,r8,t,HE⟩
    have CB:=R.aH J;have MB:=M5.comp (Mv.k R.fr J);have FF:=T1.move (Move.k R.fr J);have FO:=T2.move (Move.k R.fr J);have A1:(h6.bump 42).get o=_:=K;have A2:(h6.bump 42).get HA=_:=C3;generalize (BC e.d.ty&&(e.d.ty==e2.d.ty||FE b)||BC e2.d.ty&&FE a)=pt at*;cases bo with
    |true=>
     simp only[tf]at g;simp[r0,C,r8,D];refine nU CB g hs MB (λw q=>U7 q) λh7 H3 C4 c7 k7 M7=>?_;have C6:=(k7.old _ (aw CB.fr A1)).trans A1;have C7:=(k7.old _ (aw CB.fr A2)).trans A2;simp[C6,r7];exact wF c7 own hs ho oX lo bY W Z M7 C7 (FF.move (Move.k CB.fr k7)) (FO.move (Move.k CB.fr k7)) C4
    |false=>
     cases eq with
     |false=>
      simp only[gR,Bool.or_false]at g;simp[r0,C,r8,t,D];refine nU CB g hs MB (λw q=>U7 q) λh7 H3 C4 c7 k7 M7=>?_;have C6:=(k7.old _ (aw CB.fr A1)).trans A1;have C7:=(k7.old _ (aw CB.fr A2)).trans A2;simp[C6,r7];exact wF c7 own hs ho oX lo bY W Z M7 C7 (FF.move (Move.k CB.fr k7)) (FO.move (Move.k CB.fr k7)) C4
     |true=>
      simp only[dZ,kM]at g;simp[r0,C,r8,t,HE,D];refine nU CB g hs MB (λw q=>U7 q) λh7 H3 C4 c7 k7 M7=>?_;have C6:=(k7.old _ (aw CB.fr A1)).trans A1;have C7:=(k7.old _ (aw CB.fr A2)).trans A2;simp[C6,r7];exact wF c7 own hs ho oX lo bY W Z M7 C7 (FF.move (Move.k CB.fr k7)) (FO.move (Move.k CB.fr k7)) C4
   ·simp[r5,F];refine(vN _ _ (show e.ty.length<=9000000000 from om)).m1 λh7 A=>?_;subst A;cases hA:BC e.d.ty with
    |false=>
     simp[r6,I];refine dm ?_;refine(vN _ _ (show e2.ty.length<=9000000000 from om)).m1 λh7 A=>?_;subst A;cases hD:BC e2.d.ty with
     |false=>
      simp[r0,C,r5,r6,r7,r8,t];refine dm ?_
      repeat (first|exact Bu _ _ _|refine Ll (by decide+kernel) ?_|refine JF (by simp[r0,C,r5,r6,r7,r8,t,F,I,D,y];done) ?_)
     |true=>
      simp[C,D,y];refine dm ?_;refine(vO (G5.move (Move.k R.fr J))).m1 λh7 A=>?_;subst A;simp[r0,C,r5,r6,r7,r8,t];refine dm ?_
      repeat (first|exact Bu _ _ _|refine Ll (by decide+kernel) ?_|refine JF (by simp[r0,C,r5,r6,r7,r8,t,F,I,D,y];done) ?_)
    |true=>
     simp[C,r5,r6,F,I,D,y];refine dm ?_;cases hB:(e.d.ty==e2.d.ty)with
     |true=>
      simp[r0,C,r5,r6,r7,r8,t]
     |false=>
      simp;refine dm ?_;refine(vO (HC.move (Move.k R.fr J))).m1 λh7 A=>?_;subst A;cases hC:FE b with
      |true=>
       simp[r0,C,r5,r6,r7,r8,t];refine dm ?_
       repeat (first|exact Bu _ _ _|refine Ll (by decide+kernel) ?_|refine JF (by simp[r0,C,r5,r6,r7,r8,t,F,I,D,y];done) ?_)
      |false=>
       simp[r6,I];refine dm ?_;refine(vN _ _ (show e2.ty.length<=9000000000 from om)).m1 λh7 A=>?_;subst A;cases hD:BC e2.d.ty with
       |false=>
        simp[r0,C,r5,r6,r7,r8,t];refine dm ?_
        repeat (first|exact Bu _ _ _|refine Ll (by decide+kernel) ?_|refine JF (by simp[r0,C,r5,r6,r7,r8,t,F,I,D,y];done) ?_)
       |true=>
        simp[C,D,y];refine dm ?_;refine(vO (G5.move (Move.k R.fr J))).m1 λh7 A=>?_;subst A;simp[r0,C,r5,r6,r7,r8,t];refine dm ?_
        repeat (first|exact Bu _ _ _|refine Ll (by decide+kernel) ?_|refine JF (by simp[r0,C,r5,r6,r7,r8,t,F,I,D,y];done) ?_)
 |false=>
  simp only[GL]at g;cases bo with
  |false=>
   simp[r0,C,r7,r8];refine Q5 hS R er hs M5 own W Z ho oX lo bY K C3 T1 T2 l1 l3 Q _ g (λp h2 q=>U7 q) (λh2 q=>?_);simp[r7];exact q
  |true=>
   simp only at g;cases C8:(on==19)with
   |true=>
    have H4:on=19:=(U7 C8);rw[aY (.inl H4)]at g;simp[r5,r7,r8,K,F,C8];refine(AP _ _ _).m1 λh7 A=>?_;subst A;simp[r7,K];exact wF R own hs ho oX lo bY W Z M5 C3 T1 T2 g
   |false=>
    have H4:on≠19:=(U7 C8);cases F1:(on==20)with
    |true=>
     have H5:on=20:=(U7 F1);rw[aY (.inr H5)]at g;simp[r5,r7,r8,K,F,C8,F1];refine(AP _ _ _).m1 λh7 A=>?_;subst A;simp[r7,K];exact wF R own hs ho oX lo bY W Z M5 C3 T1 T2 g
    |false=>
     have H5:on≠20:=(U7 F1);rw[ay om]at g;simp[r7,r8,K,C8,F1];refine Dd ?_;simp[r7,r5,r6,F,I];have J:=(aJ.refl h6).bump 16;refine(AP _ _ _).m1 λh7 A=>?_;subst A;simp[K];refine dl ?_;simp[r7];exact wF (R.aH J) own hs ho oX lo bY W Z (M5.comp (Mv.k R.fr J)) C3 (T1.move (Move.k R.fr J)) (T2.move (Move.k R.fr J)) g
end
end
section
theorem CS{s:bu}{vs:List Vr}:∀(l:cB)(k:Nat)(v:Vr),vs[k]?=some v->xI s vs (l++[k])=if v.nm=s then some k else xI s vs l
 |[],k,v,h=>by simp[xI,h]
 |j::l,k,v,h=>by
  have:=CS (s:=s) l k v h;simp only[aI,xI,this];by_cases e:v.nm=s
  ·rw[aY e,aY e]
  ·rw[ay e,ay e]
theorem rD(s:bu):∀(l:List (bu))(i j:Nat),(oy s l i=none/\∀H,eD H (.str s) (eW l i) j=some none)\/∃n k,oy s l i=some n/\∀H,eD H (.str s) (eW l i) j=some (some (k,.I n))
 |[],i,j=> .inl ⟨rfl,λH=>rfl⟩
 |x::l,i,j=>by
  by_cases h:x=s
  ·subst h;exact .inr ⟨i,j,by simp[oy],λH=>by simp only[eW,eD,ic,beq_self_eq_true]⟩
  ·have b:(s==x)=false:=(by simpa using λe=>h e.symm);rcases rD s l (i+1) (j+1)with⟨h1,a⟩|⟨n,k,h1,a⟩
   ·exact .inl ⟨by simp only[oy,h,eY,h1],λH=>by simp only[eW,eD,ic,b];exact a H⟩
   ·exact .inr ⟨n,k,by simp only[oy,h,eY,h1],λH=>by simp only[eW,eD,ic,b];exact a H⟩
theorem FJ:∀(fs:List Gl)(i:Nat)(f:Gl),fs[i]?=some f->(vL fs)[i*3+1]?=some (.str f.ty)
 |[],i,f,h=>by simp at h
 |p::ps,0,f,h=>by
  simp only[cw,bj]at h;subst h;simp[vL]
 |p::ps,i+1,f,h=>by
  have:=FJ ps i f (U7 h);rw[show(i+1)*3+1=i*3+1+1+1+1 by omega];simpa[vL]using this
theorem Q7{h:ah}{l q q5:Nat}{O D:dK}{V:CV}{d:Dn}{nm:bu}(fr:bP h)(hO:∃pd n rg aa y,O= .loop .ready pd n rg #[15,16] aa y)(gl:h.get l=some O)(A:h.get q=some (.C [V.sa]))(g5:h.get q5=some (.C [.N]))(ql:q≠l)(A1:q5≠l)(C:q≠q5)(sa:kI h V d)(bl:∀b∈aT V.sa,b≠l/\b≠q5)(ok:d.Ok)(vl:V.vs.length=d.vs.length)
 (tk:∀(k a:Nat)(v:Vr)(i:Int)(H:ah),H.get l=some O->aR [l,q5] h H->H.get q5=some (.C [.N])->V.vs[k]?=some a->d.vs[k]?=some v->pM env l [.I i,.P a] H (λx p=>aR [l,q5] H p/\((v.nm=nm/\x= .bool false/\p.get l=some D/\p.get q5=some (.C [.P a]))\/(v.nm≠nm/\x= .bool true/\p.get l=some O/\p.get q5=some (.C [.N]))))):
 ba env 199 [.Cx l,.P q] h (λout h'=>out= .ret (.iO [])/\aR [l,q5] h h'/\((xI nm d.vs d.seen=none/\h'.get l=some O/\h'.get q5=some (.C [.N]))\/∃k a,xI nm d.vs d.seen=some k/\V.vs[k]?=some a/\h'.get l=some D/\h'.get q5=some (.C [.P a]))):=by
 refine wb fn199 rfl ?_;obtain⟨pd,n0,F,aa,y,rfl⟩:=hO;obtain⟨Z,g⟩:∃Z,V.sa= .slice Z d.seen.length:=by
  rcases sa with⟨e,e2⟩|⟨b,L,e,_⟩
  ·exact⟨none,by rw[e,e2];rfl⟩
  ·exact⟨_,e⟩
 have sl:d.seen.length<=1000:=by
  rcases sa with⟨_,e⟩|⟨b,L,_,_,_,h1,h2⟩
  ·rw[e];simp
  ·omega
 have w0:IntKind.wrap .i64 ((d.seen.length:Int)-1)=(d.seen.length:Int)-1:=wr om om;simp[f199,A,g,w0];refine bz (λm x=>∃i,i<=d.seen.length/\m=i/\xI nm d.vs (d.seen.take i)=xI nm d.vs d.seen/\x.n=19/\x.ds=[]/\x.bX=false/\aR [l,q5] h x.h/\x.h.get l=some (.loop .ready pd n0 F #[15,16] aa y)/\x.h.get q5=some (.C [.N])/\x.rg.get 0=some (.Cx l)/\x.rg.get 1=some (.P q)/\x.rg.get 3=some (.I ((i:Int)-1))) d.seen.length ?_ ?_
 ·exact⟨d.seen.length,ao _,rfl,by rw[cF],rfl,rfl,rfl,aR.refl _ _,gl,g5,sp,sp,sp⟩
 rintro m ⟨rg,n,H,ds,bX⟩ ⟨i,hi,rfl,o,e1,e2,e3,k,w,I,r0,J,r3⟩
 dsimp only at e1 e2 e3 k w I r0 J r3;subst e1 e2 e3;cases m with
 |zero=>
  simp[r3];refine⟨k,.inl ⟨?_,w,I⟩⟩;rw[<-o];simp[xI]
 |succ i=>
  obtain⟨b,L,e,gb,K,ll,lL⟩:=sa.resolve_left λe=>by rw[e.2]at hi;simp at hi
  rw[g]at e;injection e with e _;subst e;have t:=bl b (by rw[g];simp[aT]);have N:=(k.old b (aw fr gb) (by simp[t.1,t.2])).trans gb;have u:=(k.old q (aw fr A) (by simp[ql,C])).trans A;rw[g]at u;have j:i<d.seen.length:=by omega
  have Q:=ok.seen _ (bk j);obtain⟨a,R⟩:∃a,V.vs[d.seen[i]]?=some a:=⟨V.vs[d.seen[i]]' om,aj om⟩
  obtain⟨v,hv⟩:∃v,d.vs[d.seen[i]]?=some v:=⟨_,aj Q⟩
  have hL:L[i]?=some (.P a):=by
   have e1:(L.take d.seen.length)[i]?=L[i]?:=List.getElem?_take_of_lt j;rw[<-e1,K,bt,aj j];simp[vP,R]
  have c1:((i+1:Nat):Int)-1=(i:Int):=by omega
  have b1:(i:Int)<(d.seen.length:Int):=by omega
  have w1:IntKind.wrap .i64 ((i:Int)-1)=(i:Int)-1:=wr om om;rw[c1]at r3;simp[r0,J,r3,u,N,hL,b1,w];refine(tk _ a v _ H w k I R hv).mono λx H2 U=>?_;obtain⟨k2,U⟩:=U;rw[cy,aj j,show(some d.seen[i]).toList=[d.seen[i]]from rfl,CS _ _ _ hv]at o;rcases U with⟨W,rfl,g1,g2⟩|⟨W,rfl,g1,g2⟩
  ·rw[aY W]at o;simp;exact⟨k.trans k2,.inr ⟨_,o.symm,_,R,g1,g2⟩⟩
  ·rw[ay W]at o;simp[r3,w1];exact⟨i,om,i,om,rfl,o,k.trans k2,g1,g2,r0,J,rfl⟩
section
variable{S:Sc}{B:CB}{X0:cB}{h0:ah}{X Y:cB}{V:CV}{d:Dn}{h h1:ah}{P:Pl->Prop}
theorem Og(hS:Stat S B X0 h0){p:Pl}{nm:bu}(c:cJ S B X0 h0 X V d h){idx:Nat}(er:jl X0 h0 idx (.var p nm))(Q:Out->ah->Prop)(J:dS S B X0 h0 X V WT h Q (Ck S nm p d)):
 ba env 132 [.P B.r,.P idx] h Q:=by
 refine wd fn132 rfl ?_;obtain⟨av,N,A2,_⟩:=er.obj;have g0:=(c.mv.aH _ _ N A2).1;simp[Ex.cA,Ex.kd,Ex.pos,Ex.CQ,Ex.uT,Ex.nI,Ex.uU]at g0 N;obtain⟨ov,c1,_⟩:=c.c;have G4:=aw c.fr c1;have F1:=aw c.fr g0;have rn:B.r≠h.nx/\B.r≠h.nx+1:=om
 obtain⟨F2,F3⟩:=rn;obtain⟨A,A3⟩:∃A,V.sa= .slice A d.seen.length:=by
  rcases c.sa with⟨e,e2⟩|⟨b,L,e,_⟩
  ·exact⟨none,by rw[e,e2];rfl⟩
  ·exact⟨_,e⟩
 simp only[CB.ob,A3]at c1;simp[f132,c1,F2,F3];refine wb fn168 rfl ?_;simp[f168];refine Lh (g:=199) (lQ:=[AV.P (h.nx+2)]) sp rfl ?_;generalize A4:Code.region 3 _ _=aa;generalize A5:Code.block 1 _=u;generalize hO:dK.loop .ready none _ _ _ aa u=O;obtain⟨m,hO,Au,F4⟩:∃m,O= .loop .ready none 70 m #[15,16] aa u/\m.get 3=some (.P h.nx)/\m.get 5=some (.P (h.nx+1)):=⟨_,hO.symm,sp,sp⟩
 have K1:aJ h (((((h.alloc (.C [.P idx])).2.alloc (.C [.N])).2.alloc (.C [.slice A d.seen.length])).2.alloc .qT).2.alloc O).2:=kT;have G3:(((((h.alloc (.C [.P idx])).2.alloc (.C [.N])).2.alloc (.C [.slice A d.seen.length])).2.alloc .qT).2.alloc O).2.get h.nx=some (.C [.P idx]):=sp
 have G5:(((((h.alloc (.C [.P idx])).2.alloc (.C [.N])).2.alloc (.C [.slice A d.seen.length])).2.alloc .qT).2.alloc O).2.get (h.nx+1)=some (.C [.N]):=sp
 have Gq:(((((h.alloc (.C [.P idx])).2.alloc (.C [.N])).2.alloc (.C [.slice A d.seen.length])).2.alloc .qT).2.alloc O).2.get (h.nx+2)=some (.C [.slice A d.seen.length]):=sp
 have Gd:(((((h.alloc (.C [.P idx])).2.alloc (.C [.N])).2.alloc (.C [.slice A d.seen.length])).2.alloc .qT).2.alloc O).2.get (h.nx+3)=some .qT:=sp
 have GL:(((((h.alloc (.C [.P idx])).2.alloc (.C [.N])).2.alloc (.C [.slice A d.seen.length])).2.alloc .qT).2.alloc O).2.get (h.nx+4)=some O:=sp
 have H2:(((((h.alloc (.C [.P idx])).2.alloc (.C [.N])).2.alloc (.C [.slice A d.seen.length])).2.alloc .qT).2.alloc O).2.nx=h.nx+5:=sp
 simp only[ah.uq,fq,Nat.reduceAdd];generalize (((((h.alloc (.C [.P idx])).2.alloc (.C [.N])).2.alloc (.C [.slice A d.seen.length])).2.alloc .qT).2.alloc O).2=H1 at*;have C1:=c.aH K1;have xl:=c.xl;have own:=c.own;refine(Q7 (q5:=h.nx+1) (V:=V) (d:=d) (nm:=nm) (D:= .loop .done (some (.exit 0)) 70 m #[15,16] aa u) C1.fr ⟨_,_,_,_,_,hO⟩ GL (by rw[A3];exact Gq) G5 om om om C1.sa (λb hb=>by have:=xl b (own.sa b hb);omega) c.ok c.vl ?tk).mono λout w hq=>?_
 case tk=>
  intro k a v i H hl kx h5 y F5;rw[hO]at hl;refine pM.mk hl ⟨rfl,sp⟩ ?_;have alt:=xl a (own.v a (bg y));have ga:=(kx.old a om IN).trans (C1.vs k a v y F5);have g3:=(kx.old h.nx om sp).trans G3;have gx:=(kx.old idx om IN).trans ((K1.old idx F1).trans g0);simp only[Vr.cs]at ga;have R:h.nx+4<H.nx:=by have:=kx.nx;omega
  have G2:h.nx+1<H.nx:=by omega
  have na:a≠h.nx+4/\a≠h.nx+1/\idx≠h.nx+4/\idx≠h.nx+1:=by omega
  obtain⟨C2,H3,C5,H4⟩:=na;rw[<-A4];simp[hl];rw[<-A5];cases hn:(v.nm==nm)with
  |true=>
   simp[ga,g3,gx,h5,hn,Au,F4,C2,C5];simp[endRound];refine⟨kX,U7 hn,A4.symm⟩
  |false=>
   simp[ga,g3,gx,hn,Au,C2,C5];simp[endRound,h5];refine⟨kX,U7 hn,?_⟩;rw[A5];exact hO.symm
 obtain⟨rfl,kx,hq⟩:=hq;have C6:=(kx.old (h.nx+3) om sp).trans Gd;have F6:=(kx.old h.nx om sp).trans G3;have H5:=kx.nx;have K2:aJ h w:=⟨om,λi hi=>(kx.old i om IN).trans (K1.old i hi),λf=>kx.fresh (K1.fresh f)⟩
 unfold Ck at J;rcases hq with⟨t,C,F⟩|⟨k,a,t,y,C,F⟩
 ·rw[t]at J;rw[hO]at C;simp[tO,C,F];have K3:aJ h (w.set (h.nx+4) (.loop .exhausted none 70 m #[15,16] aa u)):=kT;have I:(w.set (h.nx+4) (.loop .exhausted none 70 m #[15,16] aa u)).get (h.nx+3)=some .qT:=by simp[C6]
  have C7:(w.set (h.nx+4) (.loop .exhausted none 70 m #[15,16] aa u)).get h.nx=some (.C [.P idx]):=by simp[F6]
  have F7:(w.set (h.nx+4) (.loop .exhausted none 70 m #[15,16] aa u)).nx=w.nx:=rfl
  generalize w.set (h.nx+4) (.loop .exhausted none 70 m #[15,16] aa u)=U at*;have C3:=c.aH K3;obtain⟨H6,c3,_⟩:=C3.c;have C8:=(C3.mv.aH _ _ N A2).1;simp only[CB.ob]at c3;have C9:=(C3.mv.aH _ _ hS.gm hS.mx.2.1).1;refine Dd ?_;rcases rD nm (S.gs.map Gl.nm) 0 0 with⟨f1,f2⟩|⟨n,j,f1,f2⟩
  ·rw[f1]at J;simp[c3,C7,C8,C9,f2];refine dl ?_;have KB:=K3.bump 14;refine fI p false _ _ _ (λW _ Z=>?_) (λW hh _=>by cases hh);have A1:=(Z.old (h.nx+3) IN).trans I;have n4:=Z.nx;simp at n4;simp[A1];have K:aJ h (W.set (h.nx+3) .dead):=by
    have:=KB.trans Z;exact kT
   exact J _ (Move.k c.fr K) (K.fresh c.fr)
  ·rw[f1]at J;obtain⟨n',CL,FF⟩:=yv f1;have CL:n=n':=om;subst CL;have R:n<S.gs.length:=by
    have:=(aV.1 FF).1;simpa using this
   simp[c3,C7,C8,C9,f2];refine dl ?_;have KB:=K3.bump 14;refine fI p true _ _ _ (λW hh _=>by cases hh) (λW _ Z=>?_);have K4:=KB.trans Z;have C4:=c.aH K4;have A1:=(Z.old (h.nx+3) IN).trans I;have n4:=Z.nx;simp at n4;obtain⟨H7,c4,_⟩:=C4.c;simp only[CB.ob]at c4;have F0:=(C4.mv.aH _ _ hS.o hS.ox).1;obtain⟨b,H8,eb,_,FO⟩:=(hS.ga.move C4.mv).resolve_left λe=>by omega
   rw[eb]at F0;have FP:(n:Int)<(S.gs.length:Int):=om;have fg:=FJ S.gs n S.gs[n] (aj R);simp[c4,F0,FO,FP,fg,A1];have nd:W.nx≠h.nx+3:=om;simp[nd.symm];have K:aJ h ((W.alloc (.C [.I 3,.str S.gs[n].ty,.I 0,.I n,.I 0,.bool false,.N,.Z])).2.set (h.nx+3) .dead):=kT;refine J _ _ (c.aH K) ⟨W.nx,rfl,.mk (av:= .Z) (qs:=[]) ?_ (λhx=>by have:=c.xl _ hx;omega) sp (.inl ⟨rfl,rfl⟩) rfl sp⟩ (Mv.k c.fr K);simp[Hd.cs,vP,QT,nd,aj R]
 ·rw[t]at J;obtain⟨v,hv,_,_⟩:=D4 t;simp[tO,C,F];have K3:aJ h (w.set (h.nx+4) (.loop .exhausted (some (.exit 0)) 70 m #[15,16] aa u)):=kT;have I:(w.set (h.nx+4) (.loop .exhausted (some (.exit 0)) 70 m #[15,16] aa u)).get (h.nx+3)=some .qT:=by simp[C6]
  have FQ:(w.set (h.nx+4) (.loop .exhausted (some (.exit 0)) 70 m #[15,16] aa u)).get (h.nx+1)=some (.C [.P a]):=by simp[F]
  have F7:(w.set (h.nx+4) (.loop .exhausted (some (.exit 0)) 70 m #[15,16] aa u)).nx=w.nx:=rfl
  generalize w.set (h.nx+4) (.loop .exhausted (some (.exit 0)) 70 m #[15,16] aa u)=U at*;have C3:=c.aH K3;have ga:=C3.vs k a v y hv;simp only[Vr.cs]at ga;refine Dd ?_;have f6:=C3.fr (U.nx+6) om;have nd:U.nx+6≠h.nx+3:=by omega
  have FW:h.nx≠U.nx+3:=by omega
  simp[FQ,ga,I,f6,FW];refine dl ?_;have K:aJ h (((U.bump 8).set (U.nx+6) (.C [.I 2,.str v.ty,.I 0,.I 0,.I 0,.bool false,.P a,.Z])).set (h.nx+3) .dead):=kT;refine J _ _ (c.aH K) ⟨U.nx+6,rfl,.mk (av:= .Z) (qs:=[]) ?_ (λhx=>by have:=c.xl _ hx;omega) (λj e=>by simp at e;subst e;exact(aV.1 y).1) (.inl ⟨rfl,rfl⟩) rfl sp⟩ (Mv.k c.fr K);simp[Hd.cs,vP,QS,hv,y,nd]
end
end
section
section
variable{S:Sc}{B:CB}{X0:cB}{h0:ah}{X Y:cB}{V:CV}{d:Dn}{h h1:ah}{P:Pl->Prop}
def Oh(e:TX)(ty:List UInt8):Int:=if(ty==[99,104,97,114]&&(e.ty==[105,110,116]||e.ty==[108,111,110,103]))=true then 3 else if(ty==[105,110,116]&&e.ty==[108,111,110,103])=true then 4 else 0
theorem JP{id:Nat}{e:TX}{vs:cB}(t:jd X vs h id e)(ty:bu)(Q:Out->ah->Prop)(i:∀b a,aJ h a->h.nx<=b->b+1<a.nx->a.get b=some (.D 1 [.P id])->a.get (b+1)=some (.C [.I 15,.str ty,.I (Oh e ty),.I 1,.I 0,.bool false,.N,.S b 1])->Q (.ret (.P (b+1))) a):
 ba env 131 [.P id,.str ty] h Q:=by
 refine wb fn131 rfl ?_;obtain⟨av,g,_⟩:=t.obj;simp only[Hd.cs]at g;unfold Oh at i;cases h1:(ty==[99,104,97,114])<;>cases a:(ty==[105,110,116])<;>cases j:(e.d.ty==[105,110,116])<;>cases m:(e.d.ty==[108,111,110,103])<;>simp[f131,g,h1,a,j,m]<;>(refine i _ _ kT (ao _) sp sp ?_;simp only[TX.ty,h1,a,j,m];simp)
theorem Q8(F:Stat S B X0 h0){p:Pl}{ty:bu}{a:Ex}(IH:KE S B X0 h0 a)(I:(Ex.cast p ty a).al P TL)(hn:a.nodes<=10000)(c:cJ S B X0 h0 X V d h){idx:Nat}(er:jl X0 h0 idx (.cast p ty a))(Q:Out->ah->Prop)(Z:dS S B X0 h0 X V WT h Q (jv S (.cast p ty a) d)):
 ba env 135 [.P B.r,.P idx] h Q:=by
 refine wb fn135 rfl ?_;obtain⟨x1,x2,x3⟩:=I;obtain⟨bb,ia,m,w,bx,y,era⟩:=CI er rfl;have g0:=(c.mv.aH _ _ m w).1;have gb:=(c.mv.aH _ _ y bx).1;have A1:ty.length<=70000:=x2;simp[Ex.cA,Ex.kd,Ex.pos,Ex.CQ,Ex.uT,Ex.nI,Ex.uU]at g0 m gb y;simp only[jv]at Z;simp[f135,g0,gb];refine oV F IH x3 hn c era _ (dS.uS Z (λ_ h=>h) (Mv.refl _ _ _ _) (λp h2 q=>U7 q) λe d1 v h2 hr i c2 w2 M2 m2=>?_);obtain⟨J,rfl,t2⟩:=w2;have ln:=Cn (uy F x3 c.ok hr).1 om;obtain⟨A2,g2,A3,_⟩:=t2.obj;simp only[Hd.cs]at g2;have j:=(c2.mv.aH _ _ m w).1;unfold LC at i;simp;refine eF [0,1,2,3,4,5,33,34,35,36,6,7,8,9,10,11,13,14,15,16,12,17,18,19,20,21,22,23,24,26,27,28,29,25,30,31,32,37] kr (by simp[cz,dG];rfl) kr ?_;simp[j];have KB:=(aJ.refl h2).bump 38;refine qL F (c2.aH KB) _ om _ λh3 k3=>?_;have o:=KB.trans k3;have g3:=(o.old _ (aw c2.fr g2)).trans g2;have A:=(o.old _ (aw c2.fr j)).trans j;cases hA:sN S ty with
 |false=>
  simp only[hA,gR]at i;simp;refine dm ?_;refine fI p false _ _ _ (λu _ C=>?_) (λu K _=>by cases K);have g:=o.trans C;exact⟨dc,λ_=>by simpa using i _ (M2.toMove.comp (Move.k c2.fr g)) (g.fresh c2.fr)⟩
 |true=>
  simp only[hA,dZ]at i;simp[g3,A];refine dm ?_;refine(jY _ _).m1 λh4 t=>?_;subst t;simp;refine dm ?_;refine(jY _ _).m1 λh5 t=>?_;subst t;cases D:(tP ty==tP e.d.ty)with
  |false=>
   simp only[TX.ty,D,gR]at i;simp[D];refine dm ?_;refine fI p false _ _ _ (λu _ C=>?_) (λu K _=>by cases K);have g:=o.trans C;exact⟨dc,λ_=>by simpa using i _ (M2.toMove.comp (Move.k c2.fr g)) (g.fresh c2.fr)⟩
  |true=>
   simp only[TX.ty,D,dZ]at i;simp[g3,A,D];refine dm ?_;refine(vN _ _ om).m1 λh4 t=>?_;subst t;simp;refine dm ?_;refine(vN _ _ (show e.ty.length<=9000000000 from om)).m1 λh5 t=>?_;subst t;simp;refine dm ?_;refine nU (c2.aH o) i (λ_ h=>h) (M2.comp (Mv.k c2.fr o)) (λh4 q=>⟨dc,λ_=>U7 q⟩) λu A4 N c6 C M6=>?_;have g:=o.trans C;have O:=(g.old _ (aw c2.fr j)).trans j;simp;refine dm ?_;simp[O];refine JP (t2.move (Move.k c2.fr g)) ty _ λb h7 k7 lb A5 R U=>?_;simp[U];have W:aJ u (h7.set (b+1) (.C [.I 15,.str ty,.I (Oh e ty),.I 0,.I 0,.bool false,.N,.S b 1])):=kT;have nX:∀k,u.nx<=k->k∉X:=λk hk I=>by have:=c6.xl k I;omega
   refine N _ _ (c6.aH W) ⟨b+1,rfl,.mk (av:= .S b 1) (qs:=[(J,e)]) (by simp[Hd.cs,vP,Oh,TX.ty]) (nX _ om) sp (.inr ⟨b,rfl,nX _ lb,by simp[R]⟩) rfl (by simpa using(t2.move (Move.k c2.fr g)).move (Move.k c6.fr W))⟩ (M6.comp (Mv.k c6.fr W))
end
end
section
theorem dn{F A H:Prop}(f:F)(b:H)(a:F->H->A:=by intro e;(repeat (apply dj; · (repeat (first|exact JG _ _|exact Bu _ _ _|exact JH _ _ _ _ _|refine R3 (by decide+kernel) ?_|refine Ll (by decide+kernel) ?_|refine R4 (by decide+kernel) ?_|refine JF (by simp[e];done) ?_|refine Pu (by simp[e];done) ?_))));exact λh=>h):A:=a f b
theorem Rs.bind_assoc{α β b:Type}(r:Rs α)(f:α->Dn->Rs β)(g:β->Dn->Rs b):(r.bind f).bind g=r.bind λa d=>(f a d).bind g:=by cases r<;>rfl
section
variable{S:Sc}{B:CB}{X0:cB}{h0:ah}{X Y:cB}{V:CV}{d:Dn}{h h1:ah}{P:Pl->Prop}
theorem cJ.push(c:cJ S B X0 h0 Y V d h){st e:TypeId}{u:Nat}{z:AV}(hu:env.nv st=some (.slice e))(Q:env.siz e=some 1)(D:env.byt e=some u)(F:u<=100)(I:env.zer e=some [z]){α:Type}{av:AV}{qs:List (Nat×α)}(arr:cQ [] h av qs)(R:qs.length<=300)(K:∀b∈aT av,b∈Y/\Loc B V b)
 {j:Nat} (N:h.get j=none) (U:j<h.nx) (id:Nat) (t:α):
 ∃a,aK env (h.set j (.D 1 [.P id])) st av (.S j 1)=some (.S h.nx (qs.length+1),a)/\a.nx=h.nx+1/\cQ [] a (.S h.nx (qs.length+1)) (qs++[(id,t)])/\cJ S B X0 h0 (h.nx::Y) V d a/\Move Y (h.nx::Y) h a/\
  (∀i o,i∉aT av->h.get i=some o->a.get i=some o)/\(∀i,i<h.nx->i≠j->i∉aT av->h.get i=none->a.get i=none)/\Loc B V h.nx:=by
 obtain⟨c1,m1⟩:=c.new N U (.D 1 [.P id]);have m:(h.set j (.D 1 [.P id])).nx=h.nx:=rfl
 have ne:∀i o,h.get i=some o->i≠j:=λi o g e=>by rw[e,N]at g;cases g
 have w:cQ [] (h.set j (.D 1 [.P id])) av qs:=by
  rcases arr with e|⟨b,e,D,g⟩
  ·exact .inl e
  ·exact .inr ⟨b,e,D,by rw[ah.aM,ay (ne _ _ g)];exact g⟩
 obtain⟨a,O,nx,g7,A⟩:=wG (st:=st) (e:=e) hu Q D F I w R j id t sp c1.fr;rw[m]at O nx g7;have old:∀i o,i∉aT av->h.get i=some o->a.get i=some o:=λi o hi g=>by
  rw[A.old i (by rw[m];exact aw c.fr g) hi,ah.aM,ay (ne _ _ g)];exact g
 have W:h.nx∉Y:=λp=>by have:=c.xl _ p;omega
 have m7:Move Y (h.nx::Y) (h.set j (.D 1 [.P id])) a:=Move.of c1.fr A (λz I _=>(K z I).1) λy J=>by
  rcases ak.1 J with rfl|J
  ·exact .inr (ao _)
  ·exact .inl J
 refine⟨a,O,nx,.inr ⟨h.nx,sp,sp,g7⟩,c1.step m7 (A.fresh c1.fr) (λx p=>?_) (c.own.sub λx p=>au _ p) (λi o g hi=>?_),m1.comp m7,old,λi hi Z C g=>?_,Loc.fresh c W⟩
 ·rcases ak.1 p with rfl|p
  ·omega
  ·have:=c.xl x p;omega
 ·have C:i∉aT av:=λC=>by
   have l:=(K i C).2;rcases hi with hi|hi|hi|hi|hi|hi
   ·exact l.r hi
   ·exact l.f hi
   ·exact l.n hi
   ·exact l.v hi
   ·exact l.va hi
   ·exact l.sa hi
  rw[A.old i (aw c1.fr g) C];exact g
 ·rw[A.old i (by rw[m];exact hi) C,ah.aM,ay Z];exact g
theorem yy{P:Pl->Prop}{T:bu->Prop}:∀{xs:List Ex}{x:Ex},Pw P T xs->x∈xs->x.al P T
 |[],_,_,h=>by cases h
 |y::b,x,⟨h1,a⟩,h=>by
  rcases ak.1 h with rfl|h
  ·exact h1
  ·exact yy a h
theorem uA:∀{xs:List Ex}{x:Ex},x∈xs->x.nodes<=nV xs
 |[],_,h=>by cases h
 |y::a,x,h=>by
  simp only[nV];rcases ak.1 h with rfl|h
  ·omega
  ·have:=uA h;omega
theorem cJ.sig(i:Stat S B X0 h0)(c:cJ S B X0 h0 X V d h){n:Nat}{s:Sg}(j:S.fs[n]?=some s):∃a p b v w,B.fo[n]?=some a/\h.get a=some (.C [.str s.nm,.str s.ty,p,b,v,w])/\jH X0 h0 p 1 s.ps.length (s.ps.map .str)/\jH X0 h0 b 1 s.pb.length (s.pb.map .bool):=by
 have o:=(aV.1 j).1;obtain⟨a,m⟩:∃a,B.fo[n]?=some a:=⟨B.fo[n]'(by rw[i.fl];exact o),aj _⟩
 by_cases e:n=B.n
 ·subst e;obtain⟨s',f1,f2⟩:=c.f;rw[j]at f1;injection f1 with f1;subst f1;have:=i.fn;rw[m]at this;injection this with this;subst this;exact⟨_,_,_,_,_,m,f2,i.fc s j⟩
 ·obtain⟨t,p,b,v,w,g,ar⟩:=i.fo n s a j m e;exact⟨a,p,b,v,w,m,(c.mv.aH _ _ g t).1,ar⟩
theorem Q9(hS:Stat S B X0 h0){p:Pl}{f:bu}{xs:List Ex}(IH:∀a∈xs,KE S B X0 h0 a)(t:(Ex.call p f xs).al P TL)(hn:(Ex.call p f xs).nodes<=10000)(hl:xs.length<=250)(c:cJ S B X0 h0 X V d h){idx:Nat}(er:jl X0 h0 idx (.call p f xs))(Q:Out->ah->Prop)(hQ:dS S B X0 h0 X V WT h Q (jv S (.call p f xs) d)):
 ba env 136 [.P B.r,.P idx] h Q:=by
 refine wb fn136 rfl ?_;obtain⟨HG,F7,HP,y,FF,C9,FO⟩:=er.obj;simp only[Ex.args]at C9;have g0:=(c.mv.aH _ _ F7 HP).1;simp[Ex.cA,Ex.kd,Ex.pos,Ex.CQ,Ex.uT,Ex.nI,Ex.uU]at g0 F7;have ql:y.length=xs.length:=by rw[<-C9];simp
 obtain⟨FP,rfl⟩:∃ab,HG= .slice ab xs.length:=by
  rcases FF with⟨e,rfl⟩|⟨b,rfl,_⟩
  ·exact⟨none,by rw[<-ql,e];rfl⟩
  ·exact⟨_,by rw[ql]⟩
 obtain⟨ov,c1,_⟩:=c.c;simp only[CB.ob]at c1;have gm:=(c.mv.aH _ _ hS.um hS.mx.2.2).1;simp only[jv]at hQ;simp[f136];refine Dd ?_;have KB:=(aJ.refl h).bump 14;rcases rD f (S.fs.map Sg.nm) 0 0 with⟨f1,f2⟩|⟨n,j,f1,f2⟩
 ·rw[f1]at hQ;simp[c1,g0,gm,f2];refine dl ?_;refine Dd ?_;simp[g0];refine dl ?_;have W:=KB.bump 14;refine fI p false _ _ _ (λh4 _ k4=>?_) (λh4 hh _=>by cases hh);have k5:=W.trans k4;exact⟨dc,λ_=>by simpa using hQ _ (Move.k c.fr k5) (k5.fresh c.fr)⟩
 ·rw[f1]at hQ;obtain⟨n',FQ,HU⟩:=yv f1;have FQ:n=n':=by omega
  subst FQ;have HZ:n<S.fs.length:=by
   have:=(aV.1 HU).1;simpa using this
  have A5:S.fs[n]?=some S.fs[n]:=aj HZ;generalize S.fs[n]=sg at A5;simp only[A5]at hQ;simp[c1,g0,gm,f2];refine dl ?_;refine Dd ?_;simp[g0];refine dl ?_;have W:=KB.bump 14;have FW:∀x∈X,x∈X:=λ_ h=>h;refine nU (c.aH W) hQ FW (Mv.k c.fr W) (λh4 q=>⟨dc,λ_=>U7 q⟩) λD Lk G2 c3 k3 M3=>?_;have K3:=W.trans k3;have g3:=(K3.old _ (aw c.fr g0)).trans g0;obtain⟨Lp,CL,_⟩:=c3.c;simp only[CB.ob]at CL;have F0:=(c3.mv.aH _ _ hS.o hS.ox).1;obtain⟨bf,Lq,ef,_,G3⟩:=(hS.fa.move c3.mv).resolve_left λe=>by omega
  rw[ef]at F0;obtain⟨fa,pv,Iz,vv,wv,Hc,I0,F1,I1⟩:=c3.sig hS A5;have I2:(B.fo.map λa=>AV.P a)[n]?=some (.P fa):=by rw[bt,Hc];rfl
  have I3:(n:Int)<(S.fs.length:Int):=by omega
  have I4:=hS.ok.fs.2 sg (bg A5);have I5:∃ab,pv= .slice ab sg.ps.length:=by
   rcases F1 with⟨e,_,rfl⟩|⟨b,I6,rfl,_,_⟩
   ·exact⟨none,by rw[e]⟩
   ·exact⟨some (b,0),rfl⟩
  obtain⟨F,rfl⟩:=I5;obtain⟨I,K,rfl⟩:∃ab n,Iz= .slice ab n:=by
   rcases I1 with⟨_,_,rfl⟩|⟨b,I6,rfl,_⟩<;>exact⟨_,_,rfl⟩
  simp;refine dm ?_;simp[CL,F0,G3,I2,I3,I0];have K4:aJ D ((D.alloc (.C [.str [],.str [],.Z,.Z])).2.set D.nx (.C [.str sg.nm,.str sg.ty,.slice F sg.ps.length,.slice I K])):=kT;have Au:((D.alloc (.C [.str [],.str [],.Z,.Z])).2.set D.nx (.C [.str sg.nm,.str sg.ty,.slice F sg.ps.length,.slice I K])).get D.nx=some (.C [.str sg.nm,.str sg.ty,.slice F sg.ps.length,.slice I K]):=by simp
  have nX:D.nx∉X:=λt=>by have:=c3.xl _ t;omega
  have nN:h.nx<=D.nx:=M3.nx;have nY:((D.alloc (.C [.str [],.str [],.Z,.Z])).2.set D.nx (.C [.str sg.nm,.str sg.ty,.slice F sg.ps.length,.slice I K])).nx=D.nx+1:=by simp
  generalize (D.alloc (.C [.str [],.str [],.Z,.Z])).2.set D.nx (.C [.str sg.nm,.str sg.ty,.slice F sg.ps.length,.slice I K])=h4 at*;have c4:=c3.aH K4;have M4:=M3.comp (Mv.k c3.fr K4);have g4:=(K4.old _ (aw c3.fr g3)).trans g3;generalize D.nx=N at*;refine Dd ?_;simp[Au,g4];refine dl ?_;have C1:=(aJ.refl h4).bump 15;have G4:(sg.ps.length==xs.length)=((sg.ps.length:Int)==(xs.length:Int)):=by
   rw[Bool.eq_iff_iff];simp only[ju];omega
  rw[G4]at G2;refine nU (c4.aH C1) G2 FW (M4.comp (Mv.k c4.fr C1)) (λh4 q=>⟨dc,λ_=>U7 q⟩) λZ IB Ia c5 k5 M5=>?_;have K5:=C1.trans k5;have g5:=(K5.old _ (aw c4.fr g4)).trans g4;have A1:=(K5.old _ (aw c4.fr Au)).trans Au;simp;refine dm ?_;have G5:idx≠Z.nx:=by have:=aw c5.fr g5;omega
  simp[A1,g5,G5];have K6:aJ Z (Z.alloc (.C [.I 16,.str sg.ty,.I 0,.I n,.I 0,.bool false,.N,.Z])).2:=kT;have Ik:(Z.alloc (.C [.I 16,.str sg.ty,.I 0,.I n,.I 0,.bool false,.N,.Z])).2.get Z.nx=some (.C [.I 16,.str sg.ty,.I 0,.I n,.I 0,.bool false,.N,.Z]):=by simp
  obtain⟨c6,lo,mY,oX⟩:=c5.more K6 (i:=Z.nx) om sp;have M6:=M5.comp (Mv.of mY c5.fr K6);have J2:=(K6.old _ (aw c5.fr A1)).trans A1;have qo:N≠Z.nx:=by have:=aw c5.fr A1;omega
  have oN:h.nx<=Z.nx:=M5.nx;have J3:h.get Z.nx=none:=c.fr _ oN;have own:=c5.own;generalize (Z.alloc (.C [.I 16,.str sg.ty,.I 0,.I n,.I 0,.bool false,.N,.Z])).2=h6 at*;generalize Z.nx=o at*;clear mY K6 K5 C1 A1 g5 c5 M5 Au g4 c4 M4 G5 k5 nY G4 F0 CL G3 g3 c3 M3 K3 k3;obtain⟨J,hJ⟩:∃J:Nat->St->Prop,J=(λm x=>∃i d' av qs Y,i<=xs.length/\m=xs.length-i/\x.n=99/\x.ds=[]/\x.bX=false/\cJ S B X0 h0 Y V d' x.h/\(∀x∈X,x∈Y)/\o∈Y/\N∉Y/\Mv B V X Y h x.h/\x.h.get o=some (.C [.I 16,.str sg.ty,.I 0,.I n,.I 0,.bool false,.N,av])/\cQ [] x.h av qs/\qs.length=i/\
   (∀b∈aT av,b∈Y/\Loc B V b/\h.nx<=b/\b≠o)/\(∀q∈qs,jd Y V.vs x.h q.1 q.2)/\dS S B X0 h0 X V WT h Q ((CN S (xs.drop i) (sg.ps.drop i) d').bind λl d=> .ok (.mk ⟨16,sg.ty,0,n,0,false,none⟩ (qs.map Prod.snd++l)) d)/\x.h.get N=some (.C [.str sg.nm,.str sg.ty,.slice F sg.ps.length,.slice I K])/\
   x.rg.get 0=some (.P B.r)/\x.rg.get 7=some (.P N)/\x.rg.get 8=some (.P o)/\x.rg.get 73=some (.slice FP xs.length)/\x.rg.get 74=some (.I xs.length)/\x.rg.get 75=some (.I i)):=⟨_,rfl⟩
  refine bz J xs.length ?_ ?_
  ·rw[hJ];exact⟨0,d,.Z,[],o::X,bJ _,rfl,rfl,rfl,rfl,c6,λx t=>au _ t,bc ..,(λt=>by rcases ak.1 t with t|t;exact qo t;exact nX t),M6,Ik,.inl ⟨rfl,rfl⟩,rfl,by simp[aT],sp,Ia,J2,sp,sp,sp,sp,sp,sp⟩
  intro m x t;rw[hJ]at t;obtain⟨rg,n',H,ds,bX⟩:=x;obtain⟨i,d',av,qs,Y,hi,rfl,e1,e2,e3,cH,hs,ho,qY,MH,O,C2,R,A,tH,U,A2,r0,r7,r8,F2,C3,C4⟩:=t;dsimp only at e1 e2 e3 cH MH O C2 tH A2 r0 r7 r8 F2 C3 C4;subst e1 e2 e3;by_cases u:i<xs.length
  ·have A3:i<y.length:=om;have GL:(i:Int)<(xs.length:Int):=om;have wi:=U8 i;obtain⟨b0,K0,K1,Gq⟩:∃b,FP=some (b,0)/\b∉X0/\h0.get b=some (.D 1 (y.map λp=> .P p.1)):=by
    rcases FF with⟨e,_⟩|⟨b,e,w,g⟩
    ·rw[e]at A3;simp at A3
    ·injection e with e _;exact⟨b,e,w,g⟩
   subst K0;have K2:=(cH.mv.aH _ _ Gq K1).1;have K7:(y.map λp=>AV.P p.1)[i]?=some (.P y[i].1):=(by rw[bt,aj A3];rfl);have K8:y[i].2=xs[i]:=by
    have:(y.map Prod.snd)[i]?=xs[i]?:=(by rw[C9]);rw[bt,aj A3,aj u]at this;simpa using this
   have era:=FO _ (bk A3);rw[K8]at era;have Lt:sg.ps.length=xs.length:=(by have:=ju.1 IB;omega);have F3:i<sg.ps.length:=om;have H2:(i:Int)<(sg.ps.length:Int):=om;obtain⟨pb,M1,ep,_,F4⟩:=(F1.move cH.mv).resolve_left λe=>by omega
   have KA:=yy t.2 (bk u);have MB:=uA (bk u);simp only[Ex.nodes]at hn;injection ep with ep _;subst ep;have KC:=I4.2.2 _ (bk F3);have H3:∃ab,av= .slice ab i:=by
    rcases C2 with⟨e,rfl⟩|⟨b,rfl,_⟩
    ·rw[e]at R;exact⟨none,by rw[<-R];rfl⟩
    ·exact⟨_,by rw[R]⟩
   obtain⟨F5,rfl⟩:=H3;rw[bs u,bs F3]at U;simp only[CN,Rs.bind_assoc,Rs.fP]at U;simp[-aK,F2,C3,C4,GL,K2,K7];refine Dd ?_;simp[-aK,r0,r7,r8,O,A2,F4,F3,H2];have KH:=(aJ.refl H).bump 18;refine D9 hS (IH _ (bk u)) KA om (cH.aH KH) era (by unfold dW at KC;omega) _ (dS.uS U hs (MH.comp (Mv.k cH.fr KH)) (λp h2 q=>⟨dc,λ_=>U7 q⟩) λe d5 v h7 ML KF c7 w7 M7 m7=>?_);obtain⟨H4,rfl,t7⟩:=w7;have C5:=(Mv.k (B:=B) (V:=V) (X:=Y) cH.fr KH).comp m7;have C6:=C5.lk _ _ lo O;have C7:=(C5.aH _ _ A2 qY).1;obtain⟨MN,Lj,C,_,H5⟩:=(F1.move c7.mv).resolve_left λe=>by omega
   injection C with C _;injection C with C;injection C with C _;subst C;have H6:H.nx+13∉Y:=λt=>by have:=cH.xl _ t;omega
   have H8:=m7.no (H.nx+13) sp (Loc.fresh cH H6) (by simpa using cH.fr (H.nx+13) om);have KK:=m7.nx;simp only[ah.jF]at KK;have H9:cQ [] h7 (.slice F5 i) qs:=by
    rcases C2 with e|⟨b,e,w,g⟩
    ·exact .inl e
    ·exact .inr ⟨b,e,w,C5.lk _ _ (A b (by rw[e];simp[aT])).2.1 g⟩
   have KL:∀q∈qs,jd Y V.vs h7 q.1 q.2:=λq hq=>(tH q hq).move C5.toMove;obtain⟨H7,HA,KT,C8,c8,F6,A4,KX,Kc⟩:=c7.push (st:=203) (e:=197) rfl ty197.1 ty197.2.1 dc ty197.2.2.2 H9 om (λb w=>⟨(A b w).1,(A b w).2.1⟩) H8 om H4 e;rw[R]at HA C8;have L0:o∉aT (.slice F5 i):=λw=>(A o w).2.2.2 rfl;have HC:=A4 _ _ L0 C6;simp[-aK];refine dn (And.intro C6 (And.intro C7 (And.intro H5 (And.intro O (And.intro A2 F4))))) ?_;simp[-aK,H8];rw[HA];simp[-aK,C4,HC,wi];refine dn (And.intro HC (And.intro C6 (And.intro C7 (And.intro H5 (And.intro O (And.intro A2 F4)))))) ?_;have lt7:=aw c7.fr C6;have MY:=aw c7.fr C7;have HE:∀j,j<h.nx->j∉aT (.slice F5 i):=λj hj w=>by have:=(A j w).2.2.1;omega
   have M8:Mv B V X (h7.nx::Y) h H7:=⟨M7.toMove.comp F6,λj o' l g=>A4 j o' (HE j (aw c.fr g)) (M7.lk j o' l g),λj lt l g=>KX j (by have:=M7.nx;omega) (by have:=MH.nx;omega) (HE j lt) (M7.no j lt l g),by rw[KT];have:=M7.nx;omega⟩
   have M9:=M8.put (au _ ho) J3 oN (.C [.I 16,.str sg.ty,.I 0,.I n,.I 0,.bool false,.N,.S h7.nx (i+1)]);obtain⟨c9,m9⟩:=c8.put (au _ ho) lo (.C [.I 16,.str sg.ty,.I 0,.I n,.I 0,.bool false,.N,.S h7.nx (i+1)]);have L1:=A4 N _ (λw=>qY (A N w).1) C7;refine⟨xs.length-(i+1),om,?_⟩;rw[hJ];refine⟨i+1,d5,.S h7.nx (i+1),qs++[(H4,e)],h7.nx::Y,u,rfl,rfl,rfl,rfl,c9,λx t=>au _ (hs x t),au _ ho,(λt=>by rcases ak.1 t with t|t;omega;exact qY t),M9,sp,?_,by simp[R],?_,?_,?_,by simp[qo,L1],by simp[r0],by simp[r7],by simp[r8],by simp[F2],by simp[C3],sp⟩
   ·rcases C8 with⟨e,_⟩|⟨b,e,w,g⟩
    ·simp at e
    ·injection e with e _;injection e with e;injection e with e _;subst e;exact .inr ⟨h7.nx,by simp[R],w,by rw[ah.aM,ay om];exact g⟩
   ·intro b w;have w:b∈[h7.nx]:=w;simp only[aQ]at w;subst w;exact⟨bc ..,Kc,M7.nx,om⟩
   ·intro q hq;rcases aP.1 hq with hq|hq
    ·exact(KL q hq).move (F6.comp m9)
    ·simp only[aQ]at hq;subst hq;exact t7.move (F6.comp m9)
   ·simpa only[fU,bL,iL,aU,aI,aX]using KF
  ·have Li:i=xs.length:=om;subst Li;rw[dV]at U;simp only[CN,Rs.fP,fi]at U;simp[r8,C3,C4];refine U _ _ (cH.less hs own) ⟨o,rfl,.mk (av:=av) (qs:=qs) (by simpa[Hd.cs,vP]using O) oX sp ?_ rfl λq hq=>(tH q hq).move (Move.less hs)⟩ (MH.comp (Mv.less hs));rcases C2 with e|⟨b,rfl,_,g⟩
   ·exact .inl e
   ·exact .inr ⟨b,rfl,λt=>by have:=c.xl _ t;have:=(A b (by simp[aT])).2.2.1;omega,g⟩
end
end
section
section
variable{S:Sc}{B:CB}{X0:cB}{h0:ah}{X Y:cB}{V:CV}{d:Dn}{h h1:ah}{P:Pl->Prop}
theorem xL:∀xs:List Ex,xs.length<=nV xs
 |[]=>by simp
 |x::xs=>by
  have:=xL xs;have:=x.pz;simp only[nV,ai];omega
theorem rY(D:Stat S B X0 h0):∀(k:Nat)(x:Ex),x.nodes<=k->k<=250->x.al P TL->KE S B X0 h0 x:=by
 intro k;induction k with
 |zero=>intro x N;rw[x.pz]at N;omega
 |succ k IH=>
  intro x N CL u X V d h idx Q c C m;have sub:∀a∈x.args,KE S B X0 h0 a:=λa J=>by
   have h1:=uA J;have o:=x.pz;refine IH a om om ?_;cases x<;>simp only[Ex.args,ak,bm,cT]at J<;>simp only[Ex.al]at u
   case un=>subst J;exact u.2
   case bin=>rcases J with rfl|rfl;exact u.2.1;exact u.2.2
   case cast=>subst J;exact u.2.2
   case call=>exact yy u.2 J
   case index=>rcases J with rfl|rfl;exact u.2.1;exact u.2.2
   case fN=>subst J;exact u.2
   case arrow=>subst J;exact u.2
  have nX:∀k,h.nx<=k->k∉X:=λk N u=>by have:=c.xl k u;omega
  refine wb fn100 rfl ?_;cases x with
  |num p n=>
   obtain⟨av,g,j,_⟩:=C.obj;have g0:=(c.mv.aH _ _ g j).1;simp[Ex.cA,Ex.kd,Ex.pos,Ex.CQ,Ex.uT,Ex.nI,Ex.uU]at g0;simp only[jv]at m;by_cases hn:2147483647<n
   ·rw[aY hn]at m;have key:=c.T7 ⟨1,[108,111,110,103],0,n,0,false,none⟩ sp;simp only[Hd.cs,vP]at key;simp[f100,g0,hn];exact m _ _ key.1 ⟨_,rfl,key.2.1⟩ key.2.2
   ·rw[ay hn]at m;have key:=c.T7 ⟨1,[105,110,116],0,n,0,false,none⟩ sp;simp only[Hd.cs,vP]at key;simp[f100,g0,hn];exact m _ _ key.1 ⟨_,rfl,key.2.1⟩ key.2.2
  |var p s=>
   obtain⟨av,g,j,_⟩:=C.obj;have g0:=(c.mv.aH _ _ g j).1;simp[Ex.cA,Ex.kd,Ex.pos,Ex.CQ,Ex.uT,Ex.nI,Ex.uU]at g0;simp only[jv]at m;simp[f100,g0];refine Og D c C _ (dS.tail m (λp o q=>U7 q) λv W _ m3 q=>?_);simp;exact q
  |un p op a=>
   obtain⟨av,g,j,_⟩:=C.obj;have g0:=(c.mv.aH _ _ g j).1;simp[Ex.cA,Ex.kd,Ex.pos,Ex.CQ,Ex.uT,Ex.nI,Ex.uU]at g0;simp only[Ex.nodes]at N;simp[f100,g0];refine Oe D (sub a (by simp[Ex.args])) u om c C _ (dS.tail m (λp o q=>U7 q) λv W _ m3 q=>?_);simp;exact q
  |bin p op a b=>
   obtain⟨av,g,j,_⟩:=C.obj;have g0:=(c.mv.aH _ _ g j).1;simp[Ex.cA,Ex.kd,Ex.pos,Ex.CQ,Ex.uT,Ex.nI,Ex.uU]at g0;simp[f100,g0];refine LO D (sub a (by simp[Ex.args])) (sub b (by simp[Ex.args])) u om c C _ (dS.tail m (λp o q=>U7 q) λv W _ m3 q=>?_);simp;exact q
  |cast p ty a=>
   obtain⟨av,g,j,_⟩:=C.obj;have g0:=(c.mv.aH _ _ g j).1;simp[Ex.cA,Ex.kd,Ex.pos,Ex.CQ,Ex.uT,Ex.nI,Ex.uU]at g0;simp only[Ex.nodes]at N;simp[f100,g0];refine Q8 D (sub a (by simp[Ex.args])) u om c C _ (dS.tail m (λp o q=>U7 q) λv W _ m3 q=>?_);simp;exact q
  |call p f xs=>
   obtain⟨av,g,j,_⟩:=C.obj;have g0:=(c.mv.aH _ _ g j).1;simp[Ex.cA,Ex.kd,Ex.pos,Ex.CQ,Ex.uT,Ex.nI,Ex.uU]at g0;have hl:xs.length<=nV xs:=xL xs;simp only[Ex.nodes]at N;simp[f100,g0];refine Q9 D (λa J=>sub a (by simpa[Ex.args]using J)) u (by simp only[Ex.nodes];omega) om c C _ (dS.tail m (λp o q=>U7 q) λv W _ m3 q=>?_);simp;exact q
  |qp p=>
   obtain⟨av,g,j,_⟩:=C.obj;have g0:=(c.mv.aH _ _ g j).1;simp[Ex.cA,Ex.kd,Ex.pos,Ex.CQ,Ex.uT,Ex.nI,Ex.uU]at g0;simp only[jv]at m;have key:=c.T7 ⟨17,[108,111,110,103],0,0,0,false,none⟩ sp;simp only[Hd.cs,vP]at key;simp[f100,g0];exact m _ _ key.1 ⟨_,rfl,key.2.1⟩ key.2.2
  |size p ty=>
   obtain⟨av,g,j,_⟩:=C.obj;have g0:=(c.mv.aH _ _ g j).1;simp[Ex.cA,Ex.kd,Ex.pos,Ex.CQ,Ex.uT,Ex.nI,Ex.uU]at g0 g;simp only[jv]at m;have F0:ty.length<=70000:=u.2;simp[f100,g0];refine Dd ?_;simp[g0];have I:=(aJ.refl h).bump 13;refine D6 D (c.aH I) _ om p _ (dS.uS m (λ_ h=>h) (Mv.k c.fr I) (λp o q=>⟨dc,λ_=>U7 q⟩) λn d2 v o hr w c2 O M2 m2=>?_);have O:v= .I n:=O;subst O;have A:=(c2.mv.aH _ _ g j).1;have A5:=m2.no (h.nx+11) sp (Loc.fresh c (nX _ om)) (by simpa using c.fr (h.nx+11) om);have R:=m2.nx;simp only[ah.jF]at R;simp[A5];refine dm ?_;obtain⟨c3,m3⟩:=c2.new A5 om (.C [.I 1,.str [105,110,116],.I 0,.I n,.I 0,.bool false,.N,.Z]);exact w _ _ c3 ⟨h.nx+11,rfl,.mk (av:= .Z) (qs:=[]) (by simp[Hd.cs,vP]) (nX _ om) sp (.inl ⟨rfl,rfl⟩) rfl sp⟩ (M2.fill c.fr om _)
  |index p a i=>
   obtain⟨x1,x2,x3⟩:=u;obtain⟨bb,ia,ib,g,j,bx,y,era,C2⟩:=Ac C rfl;have g0:=(c.mv.aH _ _ g j).1;have gb:=(c.mv.aH _ _ y bx).1;simp[Ex.cA,Ex.kd,Ex.pos,Ex.CQ,Ex.uT,Ex.nI,Ex.uU]at g0 g gb y;simp only[Ex.nodes]at N;simp only[jv]at m;simp[f100,g0,gb];refine oV D (sub a (by simp[Ex.args])) x2 om c era _ (dS.bind m (Mv.refl _ _ _ _) (λp o q=>U7 q) λe d2 v o hr w c2 O m2=>?_);obtain⟨Z,rfl,t2⟩:=O;have A:=(c2.mv.aH _ _ g j).1;have C3:=(c2.mv.aH _ _ y bx).1;have ln:=Cn (uy D x2 c.ok hr).1 om;simp[A,C3];refine zs D (sub i (by simp[Ex.args])) x3 om c2 C2 _ (dS.bind w (Mv.refl _ _ _ _) (λp o q=>U7 q) λe2 d3 v W F1 C4 c3 w3 m3=>?_);obtain⟨C9,rfl,t3⟩:=w3;have t23:=t2.move m3.toMove;obtain⟨F2,g3,C5,_⟩:=t23.obj;simp only[Hd.cs]at g3;have C6:=(c3.mv.aH _ _ g j).1;simp;refine Dd ?_;simp[C6,g3];have I:=(aJ.refl W).bump 15;refine tR D (c3.aH I) _ ln p _ (dS.bind C4 (Mv.k c3.fr I) (λp o q=>⟨dc,λ_=>U7 q⟩) λt d4 v h4 C7 K c4 w4 m4=>?_);have w4:v= .iO [.str t.1,.I t.2]:=w4;subst w4;have A1:=(Mv.k (B:=B) (V:=V) (X:=X) c3.fr I).comp m4;have g4:=(A1.aH _ _ g3 C5).1;have U:=(c4.mv.aH _ _ g j).1;simp;refine dm ?_;have key:=c4.UZ (t23.move A1.toMove) (t3.move A1.toMove) ⟨5,t.1,0,0,t.2,false,none⟩ rfl;simp only[Hd.cs,vP]at key
   try simp
   exact K _ _ key.1 ⟨_,rfl,key.2.1⟩ key.2.2
  |fN p nm a=>
   obtain⟨x1,x2⟩:=u;obtain⟨bb,ia,g,j,bx,y,era⟩:=CI C rfl;have g0:=(c.mv.aH _ _ g j).1;have gb:=(c.mv.aH _ _ y bx).1;simp[Ex.cA,Ex.kd,Ex.pos,Ex.CQ,Ex.uT,Ex.nI,Ex.uU]at g0 g gb y;simp only[Ex.nodes]at N;simp only[jv]at m;simp[f100,g0,gb];refine sub a (by simp[Ex.args]) X V d _ ia _ c era (dS.bind m (Mv.refl _ _ _ _) (λp o q=>U7 q) λe d2 v o hr w c2 O m2=>?_);obtain⟨Z,rfl,t2⟩:=O;obtain⟨Au,C1,R,_⟩:=t2.obj;have g2:=C1;simp only[Hd.cs]at g2;have A:=(c2.mv.aH _ _ g j).1;unfold JJ TX.place at w;simp;refine eF [0,1,3,4,5,6,2,7] kr (by simp[cz,dG];rfl) kr ?_;simp[A];have I:=(aJ.refl o).bump 8;refine(yw (show(o.bump 8).get Z=some (.C (e.d.cs V.vs Au))from C1)).m1 λW hq=>?_;subst hq;simp;refine dm ?_;refine jc (c2.aH I) w (Mv.k c2.fr I) (λh4 q=>⟨dc,λ_=>U7 q⟩) λh4 F3 K c4 k4=>?_;have A2:=I.trans k4;have g4:=(A2.old _ (aw c2.fr g2)).trans g2;have U:=(A2.old _ (aw c2.fr A)).trans A;have t4:=t2.move (Move.k c2.fr A2);simp;refine dl ?_;refine Dd ?_;simp[g4,U];have F:=(aJ.refl h4).bump 19;refine IF D (c4.aH F) _ nm p _ (dS.bind K (Mv.k c4.fr F) (λp o q=>⟨dc,λ_=>U7 q⟩) λt d5 v h5 C8 A3 c5 w5 m5=>?_);have w5:v= .iO [.str t.1,.I t.2]:=w5;subst w5;have A4:=(Mv.k (B:=B) (V:=V) (X:=X) c4.fr F).comp m5;simp;refine dm ?_;have key:=c5.Kr (t4.move A4.toMove) ⟨6,t.1,0,t.2,0,false,none⟩ rfl;simp only[Hd.cs,vP]at key
   try simp
   exact A3 _ _ key.1 ⟨_,rfl,key.2.1⟩ key.2.2
  |arrow p nm a=>
   obtain⟨x1,x2⟩:=u;obtain⟨bb,ia,g,j,bx,y,era⟩:=CI C rfl;have g0:=(c.mv.aH _ _ g j).1;have gb:=(c.mv.aH _ _ y bx).1;simp[Ex.cA,Ex.kd,Ex.pos,Ex.CQ,Ex.uT,Ex.nI,Ex.uU]at g0 g gb y;simp only[Ex.nodes]at N;simp only[jv]at m;simp[f100,g0,gb];refine oV D (sub a (by simp[Ex.args])) x2 om c era _ (dS.bind m (Mv.refl _ _ _ _) (λp o q=>U7 q) λe d2 v o hr w c2 O m2=>?_);obtain⟨Z,rfl,t2⟩:=O;have ln:=Cn (uy D x2 c.ok hr).1 om;obtain⟨Au,g2,R,_⟩:=t2.obj;simp only[Hd.cs]at g2;have A:=(c2.mv.aH _ _ g j).1;unfold JK at w;simp;refine Dd ?_;simp[A,g2];have I:=(aJ.refl o).bump 15;refine tR D (c2.aH I) _ ln p _ (dS.bind w (Mv.k c2.fr I) (λp o q=>⟨dc,λ_=>U7 q⟩) λt d4 v h4 C7 K c4 w4 m4=>?_);have w4:v= .iO [.str t.1,.I t.2]:=w4;subst w4;have m24:=(Mv.k (B:=B) (V:=V) (X:=X) c2.fr I).comp m4;have g4:=(m24.aH _ _ g2 R).1;have U:=(c4.mv.aH _ _ g j).1;have t4:=t2.move m24.toMove;simp;refine dl ?_;refine Dd ?_;simp[U];have F:=(aJ.refl h4).bump 16;refine IF D (c4.aH F) _ nm p _ (dS.bind K (Mv.k c4.fr F) (λp o q=>⟨dc,λ_=>U7 q⟩) λt5 d5 v h5 C8 A3 c5 w5 m5=>?_);have w5:v= .iO [.str t5.1,.I t5.2]:=w5;subst w5;have A4:=(Mv.k (B:=B) (V:=V) (X:=X) c4.fr F).comp m5;simp;refine dm ?_;have key:=c5.Kr (t4.move A4.toMove) ⟨7,t5.1,0,t5.2,0,false,none⟩ rfl;simp only[Hd.cs,vP]at key
   try simp
   exact A3 _ _ key.1 ⟨_,rfl,key.2.1⟩ key.2.2
end
end
end Go.Proofs.YtaekaifihehgdaaGreatDoor
