/- Lemmas for CheckPlaces; each states its own conditions. -/
import Derived.Test.YtgebeldoibkkpaaGreatDoorL
set_option maxRecDepth 100000
set_option maxHeartbeats 0
set_option linter.unusedVariables false
set_option linter.unusedSimpArgs false
set_option linter.unusedSectionVars false
namespace Go.Proofs.YtgebeldoibkkpaaGreatDoor
open Go.Am Tryz
section
attribute [local simp] aI
section
variable{S:Sc}{B:CB}{X0:List Nat}{h0:ah}{X Y:List Nat}{V:CV}{d:Dn}{h h1:ah}{P:Pl->Prop}
theorem dF.adg(c:dF S B X0 h0 X V d h){k a:Nat}{v:Vr}(ha:V.vs[k]?=some a)(hv:d.vs[k]?=some v):
 dF S B X0 h0 X V (d.take k) (h.set a (.C ({v with taken:=true}:Vr).cs))/\Mv B V X X h (h.set a (.C ({v with taken:=true}:Vr).cs)):=by
 obtain⟨mv,fr,xl,⟨ov,c1,c2⟩,⟨s,f1,f2⟩,nm,vl,vs,nd,va,sa,ne,own,ok⟩:=c;have hx:=own.v a (bg ha);have m:Mv B V X X h (h.set a (.C ({v with taken:=true}:Vr).cs)):=Mv.set hx (fun j l e=>l.v (by rw[e];exact bg ha)) _;have ga:=vs k a v ha hv;have ms:∀i o,h.get i=some o->i≠a->(h.set a (.C ({v with taken:=true}:Vr).cs)).get i=some o:=fun i o g hi=>by rw[ah.aM,az hi];exact g
 refine⟨⟨mv.comp m.toMove,fun j hj=>?_,fun x hx=>xl x hx,⟨ov,ms _ _ c1 fun e=>?_,c2.move m.toMove⟩,⟨s,f1,ms _ _ f2 fun e=>?_⟩,ms _ _ nm fun e=>?_,by simp only[Dn.take,jH];exact vl,fun j b w h1 h2=>?_,nd,?_,?_,ne,own,ok.take k⟩,m⟩
 ·have:=xl _ hx;rw[ah.aM,az (by simp at hj;omega)];exact fr j hj
 ·rw[e,ga]at c1;simp[CB.ob,Vr.cs]at c1
 ·rw[e,ga]at f2;simp[Vr.cs]at f2
 ·rw[e,ga]at nm;simp at nm
 ·simp only[Dn.take,List.getElem?_modify]at h2;by_cases hj:k=j
  ·subst hj;rw[ha]at h1;injection h1 with h1;subst h1;rw[hv]at h2;simp at h2;subst h2;simp
  ·have hab:b≠a:=fun e=>by
    subst e;obtain⟨l1,e1⟩:=aU.1 h1;obtain⟨l2,e2⟩:=aU.1 ha;exact hj ((List.getElem_inj nd).1 (e2.trans e1.symm))
   simp[hj]at h2;exact ms _ _ (vs j b w h1 h2) hab
 ·rcases va with va|⟨b,e,hb,g⟩
  ·exact .inl va
  ·refine .inr ⟨b,e,hb,ms _ _ g fun e=>?_⟩;rw[e,ga]at g;simp at g
 ·exact mu.set (d:=d) sa ga sp
theorem aaG{av:AV}{qs:List (Nat×Ex)}(ar:dP X h av qs){i:Nat}{q:Nat×Ex}(hq:qs[i]?=some q):∃b,av= .S b qs.length/\h.get b=some (.cells true 1 (qs.map fun p=> .P p.1))/\(qs.map fun p=>AV.P p.1)[i]?=some (.P q.1):=by
 rcases ar with⟨rfl,_⟩|⟨b,e,_,g⟩
 ·simp at hq
 ·exact⟨b,e,g,by rw[bQ,hq];rfl⟩
theorem VY(hS:Stat S B X0 h0){p:Pl}{op:List UInt8}{a:Ex}(IH:KE S B X0 h0 a)(hx:(Ex.un p op a).al P TL)(hn:a.nodes<=10000)(c:dF S B X0 h0 X V d h){idx:Nat}(er:jV X0 h0 idx (.un p op a))(Q:Out->ah->Prop)(hQ:eL S B X0 h0 X V WT h Q (jY S (.un p op a) d)):
 aV env 124 [.P B.r,.P idx] h Q:=by
 refine wb fn124 rfl ?_;have er1:=er.move c.mv;obtain⟨av0,fQ,gY,qs,Hg,ha,Ae⟩:=er.obj;obtain⟨⟨ia,xa⟩,rfl⟩:∃q,qs=[q]:=by
  cases qs with
  |nil=>cases ha
  |cons q r=>cases r with
   |nil=>exact⟨q,rfl⟩
   |cons=>cases ha
 simp only[cY,oz,Ex.args,xJ,jg]at ha;subst ha;have era:=Ae (ia,xa) sp;obtain⟨b,rfl,vz,_⟩:=aaG Hg (i:=0) rfl;have bx:b∉X0:=by
  rcases Hg with⟨h,_⟩|⟨b',e,hb,_⟩
  ·cases h
  ·injection e with e;injection e with e;injection e with e;subst e;exact hb
 have g0:=(c.mv.aJ _ _ fQ gY).1;have gb:=(c.mv.aJ _ _ vz bx).1;simp[Ex.dx,Ex.kd,Ex.pos,Ex.Fw,Ex.vV,Ex.nI,Ex.vW]at g0 fQ gb vz;simp only[jY]at hQ;by_cases h1:op=[33]
 ·subst h1;rw[aW rfl]at hQ;simp[f124,g0,gb];refine yZ hS IH hx.2 hn c era _ (eL.bind hQ (Mv.refl _ _ _ _) (fun p h2 q=>by simpa using q) fun e d1 v h2 hr jk c2 w2 m2=>?_);obtain⟨me,rfl,t2⟩:=w2;have key:=c2.Qj t2 ⟨10,[105,110,116],0,0,0,false,none⟩ rfl;simp only[Hd.cs,vP]at key;simp;exact jk _ _ key.1 ⟨_,rfl,key.2.1⟩ key.2.2
 rw[az h1]at hQ;have b1:(op==[33])=false:=aH.2 h1;by_cases h2:op=[42]
 ·subst h2;rw[aW rfl]at hQ;simp[f124,g0,gb];refine qG hS IH hx.2 hn c era _ (eL.bind hQ (Mv.refl _ _ _ _) (fun p h2 q=>by simpa using q) fun e d1 v h2 hr jk c2 w2 m2=>?_);obtain⟨me,rfl,t2⟩:=w2;have ln:=EH (vy hS hx.2 c.ok hr).1 om;obtain⟨Sk,g2,yY,_⟩:=t2.obj;simp only[Hd.cs]at g2;have tF:=(c2.mv.aJ _ _ fQ gY).1;simp;refine Dd ?_;simp[tF,g2];have KB:=(aS.refl h2).bump 15;refine uR hS (c2.aJ KB) _ ln p _ (eL.bind jk (Mv.k c2.fr KB) (fun p h2 q=>⟨dc,fun _=>by simpa using q⟩) fun t d3 v h3 Ql qW c3 w3 m3=>?_);have w3:v= .iX [.str t.1,.I t.2]:=w3;subst w3;have m23:=(Mv.k c2.fr KB).comp m3;have t3:=t2.move m23.toMove;have g3:=(m23.aJ _ _ g2 yY).1;have yX:=(c3.mv.aJ _ _ fQ gY).1;simp;refine dm ?_;have key:=c3.Qj t3 ⟨4,t.1,0,0,0,false,none⟩ rfl;simp only[Hd.cs,vP]at key;exact qW _ _ key.1 ⟨_,rfl,key.2.1⟩ key.2.2
 rw[az h2]at hQ;have b2:(op==[42])=false:=aH.2 h2;by_cases h3:op=[38]
 ·subst h3;rw[aW rfl]at hQ;simp[f124,g0,gb];refine IH X V d _ ia _ c era (eL.bind hQ (Mv.refl _ _ _ _) (fun p h2 q=>by simpa using q) fun e d1 v h2 hr jk c2 w2 m2=>?_);obtain⟨me,rfl,t2⟩:=w2;have tk:=(Hb hS hx.2 c.ok hr).1;have ln:=EH tk om;obtain⟨Sk,g2,yY,_⟩:=t2.obj;have Qm:=g2;simp only[Hd.cs]at g2;have tF:=(c2.mv.aJ _ _ fQ gY).1;simp;refine jr [0,1,26,27,28,29,2,3,4,5,6,7,8,9,10,11,12,13,14,15,16,17,18,19,20,21,22,23,24,25,30] kr (by simp[ew,fh];rfl) kr ?_;simp[tF];have KB:=(aS.refl h2).bump 31;have gB:(h2.bump 31).get me=some (.C (e.d.cs V.vs Sk)):=Qm;have le:e.d.ty.length<=4611686018427387903:=by have:e.d.ty.length<=90000:=ln;omega
  have dk:=(Hb hS hx.2 c.ok hr).2;unfold adF adB TX.place at jk;refine(Ac gB).mono fun out h3 hq=>?_;obtain⟨rfl,rfl⟩:=hq;cases hA:A0 e.d.kd with
  |false=>
   simp only[hA,gX]at jk;simp[tF];refine dm ?_;have KK:=KB;refine gy p false _ _ _ (fun h6 _ k6=>?_) (fun h6 hh _=>by cases hh);have Ej:=KK.trans k6;exact⟨dc,fun _=>by simpa using jk _ (Move.k c2.fr Ej) (Ej.fresh c2.fr)⟩
  |true=>
   simp only[hA,fi]at jk;simp[tF,g2];refine dm ?_;refine sw hS (c2.aJ KB) _ (show e.ty.length<=100000 from om) _ fun h3 k3=>?_;have KK:=KB.trans k3;have gKK:=(KK.old _ (au c2.fr g2)).trans g2;have gxK:=(KK.old _ (au c2.fr tF)).trans tF;cases hB:BN S e.d.ty with
   |true=>
    simp only[TX.ty,hB,uz]at jk;simp[gKK,gxK];refine dm ?_;refine jI (c2.aJ KK) jk (Mv.k c2.fr KK) (fun h4 q=>⟨dc,fun _=>by simpa using q⟩) fun h5 hb Cv c5 k5=>?_;have k25:=KK.trans k5;have g5:=(k25.old _ (au c2.fr g2)).trans g2;have zr:=(c5.mv.aJ _ _ fQ gY).1;have t5:=t2.move (Move.k c2.fr k25);simp;refine dm ?_;cases hk:(e.d.kd==2)with
    |false=>
     simp only[hk]at Cv;have key:=c5.Qj t5 ⟨8,e.ty++[42],0,0,0,false,none⟩ rfl;simp only[Hd.cs,vP]at key;simp[g5,hk,le];exact Cv _ _ key.1 ⟨_,rfl,key.2.1⟩ key.2.2
    |true=>
     obtain⟨j,hv,hj⟩:=tk.v (by simpa using hk);simp only[hk,hv]at Cv;have vl5:=c5.vl;obtain⟨a,Fx⟩:∃a,V.vs[j]?=some a:=⟨_,aj (by rw[vl5,dk.vl];exact hj)⟩
     obtain⟨vr,Uf⟩:∃v,d1.vs[j]?=some v:=⟨_,aj (by rw[dk.vl];exact hj)⟩
     have ga:=c5.vs j a vr Fx Uf;have vp:vP V.vs e.d.v=some (a,0):=(by rw[hv];simp[vP,Fx]);obtain⟨c6,m6⟩:=c5.adg Fx Uf;have na:me≠a:=fun e=>yY (e▸c5.own.v a (bg Fx));have key:=c6.Qj (t5.move m6.toMove) ⟨8,e.ty++[42],0,0,0,false,none⟩ rfl;simp only[Hd.cs,vP,Vr.cs]at key;simp only[Vr.cs]at ga;simp[g5,hk,le,vp,ga,na,na.symm];exact Cv _ _ key.1 ⟨_,rfl,key.2.1⟩ (m6.comp key.2.2)
   |false=>
    simp only[TX.ty,hB,oU]at jk;simp[gKK,gxK];refine dm ?_;refine(G8 _ _ _).mono fun out h4 hq=>?_;obtain⟨rfl,rfl⟩:=hq;have ek:([115,116,114,117,99,116,32]:List UInt8)=jE:=rfl;rw[ek];cases hC:Lib.hasPrefix e.d.ty jE with
    |false=>
     simp only[hC,gX]at jk;simp[gKK,gxK];refine dm ?_;refine gy p false _ _ _ (fun h6 _ k6=>?_) (fun h6 hh _=>by cases hh);have Ej:=KK.trans k6;exact⟨dc,fun _=>by simpa using jk _ (Move.k c2.fr Ej) (Ej.fresh c2.fr)⟩
    |true=>
     simp only[hC,fi]at jk;simp[gKK,gxK];refine dm ?_;refine(BP _ _ _ (show e.ty.length<=9000000000 from om) sp).mono fun out h4 hq=>?_;obtain⟨rfl,rfl⟩:=hq;simp[gKK,gxK];refine dm ?_;refine jI (c2.aJ KK) jk (Mv.k c2.fr KK) (fun h4 q=>⟨dc,fun _=>by simpa using q⟩) fun h5 hb Cv c5 k5=>?_;have k25:=KK.trans k5;have g5:=(k25.old _ (au c2.fr g2)).trans g2;have zr:=(c5.mv.aJ _ _ fQ gY).1;have t5:=t2.move (Move.k c2.fr k25);simp;refine dm ?_;cases hk:(e.d.kd==2)with
     |false=>
      simp only[hk]at Cv;have key:=c5.Qj t5 ⟨8,e.ty++[42],0,0,0,false,none⟩ rfl;simp only[Hd.cs,vP]at key;simp[g5,hk,le];exact Cv _ _ key.1 ⟨_,rfl,key.2.1⟩ key.2.2
     |true=>
      obtain⟨j,hv,hj⟩:=tk.v (by simpa using hk);simp only[hk,hv]at Cv;have vl5:=c5.vl;obtain⟨a,Fx⟩:∃a,V.vs[j]?=some a:=⟨_,aj (by rw[vl5,dk.vl];exact hj)⟩
      obtain⟨vr,Uf⟩:∃v,d1.vs[j]?=some v:=⟨_,aj (by rw[dk.vl];exact hj)⟩
      have ga:=c5.vs j a vr Fx Uf;have vp:vP V.vs e.d.v=some (a,0):=(by rw[hv];simp[vP,Fx]);obtain⟨c6,m6⟩:=c5.adg Fx Uf;have na:me≠a:=fun e=>yY (e▸c5.own.v a (bg Fx));have key:=c6.Qj (t5.move m6.toMove) ⟨8,e.ty++[42],0,0,0,false,none⟩ rfl;simp only[Hd.cs,vP,Vr.cs]at key;simp only[Vr.cs]at ga;simp[g5,hk,le,vp,ga,na,na.symm];exact Cv _ _ key.1 ⟨_,rfl,key.2.1⟩ (m6.comp key.2.2)
 ·rw[az h3]at hQ;have b3:(op==[38])=false:=aH.2 h3;simp[f124,g0,gb,b1,b2,b3];refine A6 hS IH hx.2 hn c era _ (eL.bind hQ (Mv.refl _ _ _ _) (fun p h2 q=>by simpa using q) fun e d1 v h2 hr jk c2 w2 m2=>?_);obtain⟨me,rfl,t2⟩:=w2;obtain⟨Sk,g2,yY,_⟩:=t2.obj;simp only[Hd.cs]at g2;simp[g2];refine(Cw _ _ _).mono fun out h3 hq=>?_;obtain⟨rfl,rfl⟩:=hq;have tF:=(c2.mv.aJ _ _ fQ gY).1;by_cases h4:op=[45]
  ·subst h4;rw[aW rfl]at jk;have key:=c2.Qj t2 ⟨9,(xg e.ty [99,104,97,114]).1,1,0,0,false,none⟩ rfl;simp only[Hd.cs,vP]at key;simp[tF];exact jk _ _ key.1 ⟨_,rfl,key.2.1⟩ key.2.2
  ·rw[az h4]at jk;have b4:(op==[45])=false:=aH.2 h4;have key:=c2.Qj t2 ⟨9,(xg e.ty [99,104,97,114]).1,2,0,0,false,none⟩ rfl;simp only[Hd.cs,vP]at key;simp[tF,b4];exact jk _ _ key.1 ⟨_,rfl,key.2.1⟩ key.2.2
end
end
section
attribute [local simp] aI
section
variable{S:Sc}{B:CB}{X0:List Nat}{h0:ah}{X Y:List Nat}{V:CV}{d:Dn}{h h1:ah}{P:Pl->Prop}
theorem JD(op:List UInt8)(h:ah):aV env 161 [.str op] h (fun out h'=>out= .ret (.I (Ei op))/\h'=h):=by
 refine wb fn161 rfl ?_;by_cases h0:op=[43]
 ·subst h0;simp[f161,Ei]
 have b0:(op==[43])=false:=aH.2 h0;by_cases h1:op=[45]
 ·subst h1;simp[f161,Ei]
 have b1:(op==[45])=false:=aH.2 h1;by_cases h2:op=[42]
 ·subst h2;simp[f161,Ei]
 have b2:(op==[42])=false:=aH.2 h2;by_cases h3:op=[47]
 ·subst h3;simp[f161,Ei]
 have b3:(op==[47])=false:=aH.2 h3;by_cases h4:op=[37]
 ·subst h4;simp[f161,Ei]
 have b4:(op==[37])=false:=aH.2 h4;by_cases h5:op=[38]
 ·subst h5;simp[f161,Ei]
 have b5:(op==[38])=false:=aH.2 h5;by_cases h6:op=[124]
 ·subst h6;simp[f161,Ei]
 have b6:(op==[124])=false:=aH.2 h6;by_cases h7:op=[94]
 ·subst h7;simp[f161,Ei]
 have b7:(op==[94])=false:=aH.2 h7;by_cases h8:op=[60,60]
 ·subst h8;simp[f161,Ei]
 have b8:(op==[60,60])=false:=aH.2 h8;by_cases h9:op=[62,62]
 ·subst h9;simp[f161,Ei]
 have b9:(op==[62,62])=false:=aH.2 h9;by_cases xU:op=[61,61]
 ·subst xU;simp[f161,Ei]
 have b10:(op==[61,61])=false:=aH.2 xU;by_cases EE:op=[33,61]
 ·subst EE;simp[f161,Ei]
 have b11:(op==[33,61])=false:=aH.2 EE;by_cases wk:op=[60]
 ·subst wk;simp[f161,Ei]
 have b12:(op==[60])=false:=aH.2 wk;by_cases h13:op=[60,61]
 ·subst h13;simp[f161,Ei]
 have b13:(op==[60,61])=false:=aH.2 h13;by_cases h14:op=[62]
 ·subst h14;simp[f161,Ei]
 have b14:(op==[62])=false:=aH.2 h14;simp[f161,Ei,b0,h0,b1,h1,b2,h2,b3,h3,b4,h4,b5,h5,b6,h6,b7,h7,b8,h8,b9,h9,b10,xU,b11,EE,b12,wk,b13,h13,b14,h14]
theorem VZ(op:List UInt8):11<=Ei op/\Ei op<=26:=by
 unfold Ei
 repeat (split; ·omega)
 omega
theorem aaH(op:Int)(h:ah)(h1:11<=op)(h2:op<=26):aV env 162 [.I op] h (fun out h'=>∃n,out= .ret (.iX [.I n,.bool (decide (21<=op)&&decide (op<=26))])/\h'=h):=by
 refine wb fn162 rfl ?_;have hc:op=11\/op=12\/op=13\/op=14\/op=15\/op=16\/op=17\/op=18\/op=19\/op=20\/op=21\/op=22\/op=23\/op=24\/op=25\/op=26:=om
 rcases hc with rfl|rfl|rfl|rfl|rfl|rfl|rfl|rfl|rfl|rfl|rfl|rfl|rfl|rfl|rfl|rfl<;>simp[f162]
theorem DH(c:dF S B X0 h0 Y V d h){hb:ah}{o b ia ib:Nat}{a e:TX}{op sz:Int}{tu:Bool}{ty:List UInt8}(own:R5 B V X)(hs:∀x∈X,x∈Y)(ho:o∈Y)(Se:o∉X)(lo:Loc B V o)(bY:b∉Y)(qO:hb.get o=none)(Fy:hb.next<=o)(m:Mv B V X Y hb h)
 (gb:h.get b=some (.cells true 1 [.P ia,.P ib])) (ta:jK Y V.vs h ia a) (tb:jK Y V.vs h ib e) {Q:Out->ah->Prop} {A A':ej} (hQ:eL S B X0 h0 X V WT hb Q (.ok (.mk ⟨12,ty,op,0,sz,tu,none⟩ [a,e]) d)):
 Q (.ret (.P o)) (((h.set o A).set o A').set o (.C [.I 12,.str ty,.I op,.I 0,.I sz,.bool tu,.N,.S b 2])):=by
 obtain⟨c6,m6⟩:=c.put ho lo A;obtain⟨c7,m7⟩:=c6.put ho lo A';obtain⟨c8,m8⟩:=c7.put ho lo (.C [.I 12,.str ty,.I op,.I 0,.I sz,.bool tu,.N,.S b 2]);have m68:=m6.comp (m7.comp m8);have key:=c8.out own hs Se (D:=⟨12,ty,op,0,sz,tu,none⟩) (av:= .S b 2) (qs:=[(ia,a),(ib,e)]) (by simp[Hd.cs,vP]) (.inr ⟨b,rfl,bY,(m68.aJ _ _ gb bY).1⟩) (by simpa using⟨ta.move m68,tb.move m68⟩) sp;have M8:Mv B V X Y hb _:=((m.put ho qO Fy A).put ho qO Fy A').put ho qO Fy (.C [.I 12,.str ty,.I op,.I 0,.I sz,.bool tu,.N,.S b 2]);exact hQ _ _ key.1 ⟨o,rfl,key.2⟩ (M8.comp (Mv.less hs))
theorem aaI(hS:Stat S B X0 h0)(c:dF S B X0 h0 Y V d h){hb:ah}{idx o b ia ib:Nat}{x:Ex}{a e:TX}{op:Int}(er:jV X0 h0 idx x)(hs:∀x∈X,x∈Y)(m:Mv B V X Y hb h)(own:R5 B V X)(qO:hb.get o=none)(Fy:hb.next<=o)(ho:o∈Y)(Se:o∉X)(lo:Loc B V o)(bY:b∉Y)
 (go:h.get o=some (.C [.I 11,.str [],.I op,.I 0,.I 0,.bool false,.N,.S b 2])) (gb:h.get b=some (.cells true 1 [.P ia,.P ib]))
 (ta:jK Y V.vs h ia a) (tb:jK Y V.vs h ib e) (la:a.ty.length<=90000) (lb:e.ty.length<=90000) (Q Q':Out->ah->Prop) (hQ:eL S B X0 h0 X V WT hb Q (Qh S a e op x.pos d))
 (hp:∀p h2,Q (.iS (zq p)) h2->Q' (.iS (zq p)) h2) (hk:∀h2,Q (.ret (.P o)) h2->Q' (.ret (.iX [])) h2):
 aV env 163 [.P B.r,.P idx,.P o] h Q':=by
 refine wb fn163 rfl ?_;obtain⟨kd,p,op',nm,n,ty,av,tl,gx,nx,_,hpp,_⟩:=(er.move c.mv).ob;rw[<-hpp]at hQ;obtain⟨ava,ga,nxa,_⟩:=ta.obj;obtain⟨avb,ge,nxb,_⟩:=tb.obj;simp only[Hd.cs]at ga ge;unfold Qh at hQ;simp[f163];refine Dd ?_;simp[go,gb];refine dl ?_;have KB0:=(aS.refl h).bump 14;replace m:=m.comp (Mv.k c.fr KB0);replace ta:=ta.move (Move.k c.fr KB0);replace tb:=tb.move (Move.k c.fr KB0);replace c:=c.aJ KB0;have put:=fun ob=>c.put ho lo ob;have wk:op=11->(op==12)=false:=fun e=>by subst e;rfl
 cases EE:(op==11)with
 |true=>
  replace wk:=wk (by simpa using EE);simp only[EE,fi,uz]at hQ;simp[ge,EE];refine(xj _ _ (show e.ty.length<=9000000000 from om)).mono fun out h3 hq=>?_;obtain⟨rfl,rfl⟩:=hq;cases htu:DB e.d.ty with
  |true=>
   simp only[htu]at hQ;simp[go,EE];obtain⟨c1,m1⟩:=put (.C [.I 11,.str [],.I op,.I 0,.I 0,.bool true,.N,.S b 2]);have tg:((h.bump 14).set o (.C [.I 11,.str [],.I op,.I 0,.I 0,.bool true,.N,.S b 2])).get o=some (.C [.I 11,.str [],.I op,.I 0,.I 0,.bool true,.N,.S b 2]):=sp;have M1:Mv B V X Y hb ((h.bump 14).set o (.C [.I 11,.str [],.I op,.I 0,.I 0,.bool true,.N,.S b 2])):=m.put ho qO Fy _;generalize (h.bump 14).set o (.C [.I 11,.str [],.I op,.I 0,.I 0,.bool true,.N,.S b 2])=H at*;have Ym:=(m1.aJ _ _ (show(h.bump 14).get _=_ from ge) nxb).1;have Sn:=(m1.aJ _ _ (show(h.bump 14).get _=_ from ga) nxa).1;have Af:=(m1.aJ _ _ (show(h.bump 14).get _=_ from gx) nx).1;have V0:=(m1.aJ _ _ (show(h.bump 14).get _=_ from gb) bY).1;have ta1:=ta.move m1;have tb1:=tb.move m1;refine jr [0,1,2,3,4,5,6,7,8,9,10,11,12,13,14,15,16,17,20,21,22,23,18,19,24] kr (by simp[ew,fh];rfl) kr ?_;simp[tg,Sn,EE,wk,Af];refine(lP _ _).mono fun out h3 hq=>?_;obtain⟨rfl,rfl⟩:=hq;simp;refine dm ?_;have KB:=(aS.refl H).bump 25;refine pq (c1.aJ KB) hQ hs (M1.comp (Mv.k c1.fr KB)) (fun h4 q=>⟨dc,fun _=>by simpa using hp _ _ q⟩) fun h4 Qn wm c4 k4 M4=>?_;have DJ:=KB.trans k4;have DL:=(DJ.old _ (au c1.fr tg)).trans tg;have gi4:=(DJ.old _ (au c1.fr Sn)).trans Sn;have JE:=(DJ.old _ (au c1.fr Ym)).trans Ym;have BQ:=(DJ.old _ (au c1.fr Af)).trans Af;have Yn:=(DJ.old _ (au c1.fr V0)).trans V0;have ta4:=ta1.move (Move.k c1.fr DJ);have tb4:=tb1.move (Move.k c1.fr DJ);simp;refine dl ?_;refine Dd ?_;simp[JE,BQ,DL];have So:=(aS.refl h4).bump 17;refine uR hS (c4.aJ So) _ lb p _ (eL.vU wm hs (M4.comp (Mv.k c4.fr So)) (fun p h2 q=>⟨dc,fun _=>by simpa using hp _ _ q⟩) fun t d5 v h5 LS Cv c5 w5 M5 m5=>?_);have w5:v= .iX [.str t.1,.I t.2]:=w5;subst w5;have Ch:=(Mv.k (B:=B) (V:=V) (X:=Y) c4.fr So).comp m5;have DM:=Ch.lk _ _ lo DL;have Sp:=(Ch.aJ _ _ Yn bY).1;have gp5:=(Ch.aJ _ _ JE nxb).1;have zr:=(Ch.aJ _ _ BQ nx).1;have ta5:=ta4.move Ch.toMove;have tb5:=tb4.move Ch.toMove;simp[DM];refine dl ?_;have npo:ib≠o:=fun e=>nxb (e▸ho);simp[gp5,npo];exact hk _ (DH c5 own hs ho Se lo bY qO Fy M5 Sp ta5 tb5 Cv)
  |false=>
   simp only[htu]at hQ;simp[go,EE];obtain⟨c1,m1⟩:=put (.C [.I 11,.str [],.I op,.I 0,.I 0,.bool false,.N,.S b 2]);have tg:((h.bump 14).set o (.C [.I 11,.str [],.I op,.I 0,.I 0,.bool false,.N,.S b 2])).get o=some (.C [.I 11,.str [],.I op,.I 0,.I 0,.bool false,.N,.S b 2]):=sp;have M1:Mv B V X Y hb ((h.bump 14).set o (.C [.I 11,.str [],.I op,.I 0,.I 0,.bool false,.N,.S b 2])):=m.put ho qO Fy _;generalize (h.bump 14).set o (.C [.I 11,.str [],.I op,.I 0,.I 0,.bool false,.N,.S b 2])=H at*;have Ym:=(m1.aJ _ _ (show(h.bump 14).get _=_ from ga) nxa).1;have Sn:=(m1.aJ _ _ (show(h.bump 14).get _=_ from ge) nxb).1;have Af:=(m1.aJ _ _ (show(h.bump 14).get _=_ from gx) nx).1;have V0:=(m1.aJ _ _ (show(h.bump 14).get _=_ from gb) bY).1;have ta1:=ta.move m1;have tb1:=tb.move m1;refine jr [0,1,2,3,4,5,6,7,8,9,10,11,12,13,14,15,16,17,20,21,22,23,18,19,24] kr (by simp[ew,fh];rfl) kr ?_;simp[tg,Sn,EE,wk,Af];refine(lP _ _).mono fun out h3 hq=>?_;obtain⟨rfl,rfl⟩:=hq;simp;refine dm ?_;have KB:=(aS.refl H).bump 25;refine pq (c1.aJ KB) hQ hs (M1.comp (Mv.k c1.fr KB)) (fun h4 q=>⟨dc,fun _=>by simpa using hp _ _ q⟩) fun h4 Qn wm c4 k4 M4=>?_;have DJ:=KB.trans k4;have DL:=(DJ.old _ (au c1.fr tg)).trans tg;have gi4:=(DJ.old _ (au c1.fr Sn)).trans Sn;have JE:=(DJ.old _ (au c1.fr Ym)).trans Ym;have BQ:=(DJ.old _ (au c1.fr Af)).trans Af;have Yn:=(DJ.old _ (au c1.fr V0)).trans V0;have ta4:=ta1.move (Move.k c1.fr DJ);have tb4:=tb1.move (Move.k c1.fr DJ);simp;refine dl ?_;refine Dd ?_;simp[JE,BQ,DL];have So:=(aS.refl h4).bump 17;refine uR hS (c4.aJ So) _ la p _ (eL.vU wm hs (M4.comp (Mv.k c4.fr So)) (fun p h2 q=>⟨dc,fun _=>by simpa using hp _ _ q⟩) fun t d5 v h5 LS Cv c5 w5 M5 m5=>?_);have w5:v= .iX [.str t.1,.I t.2]:=w5;subst w5;have Ch:=(Mv.k (B:=B) (V:=V) (X:=Y) c4.fr So).comp m5;have DM:=Ch.lk _ _ lo DL;have Sp:=(Ch.aJ _ _ Yn bY).1;have gp5:=(Ch.aJ _ _ JE nxa).1;have zr:=(Ch.aJ _ _ BQ nx).1;have ta5:=ta4.move Ch.toMove;have tb5:=tb4.move Ch.toMove;simp[DM];refine dl ?_;have npo:ia≠o:=fun e=>nxa (e▸ho);simp[gp5,npo];exact hk _ (DH c5 own hs ho Se lo bY qO Fy M5 Sp ta5 tb5 Cv)
 |false=>
  simp only[EE,gX,oU]at hQ;clear wk;simp[go,EE];cases wk:(op==12)with
  |true=>
   simp only[wk,fi]at hQ;obtain⟨c1,m1⟩:=put (.C [.I 11,.str [],.I op,.I 0,.I 0,.bool false,.N,.S b 2]);have tg:((h.bump 14).set o (.C [.I 11,.str [],.I op,.I 0,.I 0,.bool false,.N,.S b 2])).get o=some (.C [.I 11,.str [],.I op,.I 0,.I 0,.bool false,.N,.S b 2]):=sp;have M1:Mv B V X Y hb ((h.bump 14).set o (.C [.I 11,.str [],.I op,.I 0,.I 0,.bool false,.N,.S b 2])):=m.put ho qO Fy _;generalize (h.bump 14).set o (.C [.I 11,.str [],.I op,.I 0,.I 0,.bool false,.N,.S b 2])=H at*;have Ym:=(m1.aJ _ _ (show(h.bump 14).get _=_ from ga) nxa).1;have Sn:=(m1.aJ _ _ (show(h.bump 14).get _=_ from ge) nxb).1;have Af:=(m1.aJ _ _ (show(h.bump 14).get _=_ from gx) nx).1;have V0:=(m1.aJ _ _ (show(h.bump 14).get _=_ from gb) bY).1;have ta1:=ta.move m1;have tb1:=tb.move m1;refine jr [0,1,2,3,4,5,6,7,8,9,10,11,12,13,14,15,16,17,20,21,22,23,18,19,24] kr (by simp[ew,fh];rfl) kr ?_;simp[tg,Sn,EE,wk,Af];refine(lP _ _).mono fun out h3 hq=>?_;obtain⟨rfl,rfl⟩:=hq;simp;refine dm ?_;have KB:=(aS.refl H).bump 25;refine pq (c1.aJ KB) hQ hs (M1.comp (Mv.k c1.fr KB)) (fun h4 q=>⟨dc,fun _=>by simpa using hp _ _ q⟩) fun h4 Qn wm c4 k4 M4=>?_;have DJ:=KB.trans k4;have DL:=(DJ.old _ (au c1.fr tg)).trans tg;have gi4:=(DJ.old _ (au c1.fr Sn)).trans Sn;have JE:=(DJ.old _ (au c1.fr Ym)).trans Ym;have BQ:=(DJ.old _ (au c1.fr Af)).trans Af;have Yn:=(DJ.old _ (au c1.fr V0)).trans V0;have ta4:=ta1.move (Move.k c1.fr DJ);have tb4:=tb1.move (Move.k c1.fr DJ);simp;refine dl ?_;refine Dd ?_;simp[JE,BQ,DL];have So:=(aS.refl h4).bump 17;refine uR hS (c4.aJ So) _ la p _ (eL.vU wm hs (M4.comp (Mv.k c4.fr So)) (fun p h2 q=>⟨dc,fun _=>by simpa using hp _ _ q⟩) fun t d5 v h5 LS Cv c5 w5 M5 m5=>?_);have w5:v= .iX [.str t.1,.I t.2]:=w5;subst w5;have Ch:=(Mv.k (B:=B) (V:=V) (X:=Y) c4.fr So).comp m5;have DM:=Ch.lk _ _ lo DL;have Sp:=(Ch.aJ _ _ Yn bY).1;have gp5:=(Ch.aJ _ _ JE nxa).1;have zr:=(Ch.aJ _ _ BQ nx).1;have ta5:=ta4.move Ch.toMove;have tb5:=tb4.move Ch.toMove;simp[DM];refine dl ?_;have npo:ia≠o:=fun e=>nxa (e▸ho);simp[gp5,npo];exact hk _ (DH c5 own hs ho Se lo bY qO Fy M5 Sp ta5 tb5 Cv)
  |false=>
   simp only[wk,gX]at hQ;obtain⟨c1,m1⟩:=put (.C [.I 11,.str [],.I op,.I 0,.I 0,.bool false,.N,.S b 2]);have tg:((h.bump 14).set o (.C [.I 11,.str [],.I op,.I 0,.I 0,.bool false,.N,.S b 2])).get o=some (.C [.I 11,.str [],.I op,.I 0,.I 0,.bool false,.N,.S b 2]):=sp;generalize (h.bump 14).set o (.C [.I 11,.str [],.I op,.I 0,.I 0,.bool false,.N,.S b 2])=H at*;have Af:=(m1.aJ _ _ (show(h.bump 14).get _=_ from gx) nx).1;refine jr [0,1,2,3,4,5,6,7,8,9,10,11,12,13,14,15,16,17,20,21,22,23,18,19,24] kr (by simp[ew,fh];rfl) kr ?_;simp[tg,EE,wk,Af];refine dm ?_;have KB:=(aS.refl H).bump 25;refine gy p false _ _ _ (fun h6 _ k6=>?_) (fun h6 hh _=>by cases hh);have Ej:=KB.trans k6;exact⟨dc,fun _=>by simpa using hp _ _ (hQ _ (((m.toMove.comp m1).comp (Move.k c1.fr Ej)).comp (Move.less hs)) (Ej.fresh c1.fr))⟩
end
end
section
attribute [local simp] aI
section
variable{S:Sc}{B:CB}{X0:List Nat}{h0:ah}{X Y:List Nat}{V:CV}{d:Dn}{h h1:ah}{P:Pl->Prop}
theorem aV.Fz{E:Env}{ops:Array Oper}{rest:List Oper}{Q Q':bt->St->Prop}{d:Option Tmp}{rg:T AV}{n:Nat}{ds:List fJ}{bI:Bool}{f:FuncId}{args:List AV}{h:ah}(hw:aV E f args h (vQ E ops rest Q' d rg n ds bI))(hq:∀x st,Q' x st->Q x st):aV E f args h (vQ E ops rest Q d rg n ds bI):=
 hw.mono fun out h' hk=>by
  cases out with
  |ret v=>exact vw hq hk
  |iS v=>exact hq _ _ hk
theorem aaJ{E:Env}{P:T AV->Prop}{n:Nat}{h:ah}{G:Prop}(code:Code)(QQ:bt->St->Prop)(hm:(∀da,P da->bR E code QQ ⟨da,n,h,[],false⟩)->G)(ht:∀da,P da->bR E code QQ ⟨da,n,h,[],false⟩):G:=hm ht
theorem xV(c:dF S B X0 h0 Y V d h){hb:ah}{o b ia ib:Nat}{a e:TX}{op:Int}{ty:List UInt8}(own:R5 B V X)(hs:∀x∈X,x∈Y)(ho:o∈Y)(Se:o∉X)(lo:Loc B V o)(bY:b∉Y)(qO:hb.get o=none)(Fy:hb.next<=o)(m:Mv B V X Y hb h)
 (gb:h.get b=some (.cells true 1 [.P ia,.P ib])) (ta:jK Y V.vs h ia a) (tb:jK Y V.vs h ib e) {Q:Out->ah->Prop} (hQ:eL S B X0 h0 X V WT hb Q (.ok (.mk ⟨11,ty,op,0,0,false,none⟩ [a,e]) d)):
 Q (.ret (.P o)) (h.set o (.C [.I 11,.str ty,.I op,.I 0,.I 0,.bool false,.N,.S b 2])):=by
 obtain⟨c8,m8⟩:=c.put ho lo (.C [.I 11,.str ty,.I op,.I 0,.I 0,.bool false,.N,.S b 2]);have key:=c8.out own hs Se (D:=⟨11,ty,op,0,0,false,none⟩) (av:= .S b 2) (qs:=[(ia,a),(ib,e)]) (by simp[Hd.cs,vP]) (.inr ⟨b,rfl,bY,(m8.aJ _ _ gb bY).1⟩) (by simpa using⟨ta.move m8,tb.move m8⟩) sp;exact hQ _ _ key.1 ⟨o,rfl,key.2⟩ ((m.put ho qO Fy _).comp (Mv.less hs))
theorem BI{h:ah}{X:List Nat}{id:Nat}{x a b:Ex}(er:jV X h id x)(hx:x.args=[a,b]):∃av ia ib,h.get id=some (.C (x.dx (.S av 2) x.dJ))/\id∉X/\av∉X/\h.get av=some (.cells true 1 [.P ia,.P ib])/\jV X h ia a/\jV X h ib b:=by
 obtain⟨av0,g,nx,qs,ar,ha,sub⟩:=er.obj;rw[hx]at ha
 match qs,ha,ar,sub with
 |[q1,q2],ha,ar,sub=>
  simp only[cY,oz,xJ,jg]at ha;obtain⟨rfl,rfl⟩:=ha;rcases ar with⟨h,_⟩|⟨b,rfl,hb,gb⟩
  ·cases h
  ·exact⟨b,q1.1,q2.1,g,nx,hb,gb,sub q1 sp,sub q2 sp⟩
theorem Jj{h:ah}{X:List Nat}{id:Nat}{x a:Ex}(er:jV X h id x)(hx:x.args=[a]):∃av ia,h.get id=some (.C (x.dx (.S av 1) x.dJ))/\id∉X/\av∉X/\h.get av=some (.cells true 1 [.P ia])/\jV X h ia a:=by
 obtain⟨av0,g,nx,qs,ar,ha,sub⟩:=er.obj;rw[hx]at ha
 match qs,ha,ar,sub with
 |[q1],ha,ar,sub=>
  simp only[cY,oz,xJ,jg]at ha;subst ha;rcases ar with⟨h,_⟩|⟨b,rfl,hb,gb⟩
  ·cases h
  ·exact⟨b,q1.1,g,nx,hb,gb,sub q1 sp⟩
theorem Sq(hS:Stat S B X0 h0){p:Pl}{op:List UInt8}{a b:Ex}(IHa:KE S B X0 h0 a)(IHb:KE S B X0 h0 b)(hx:(Ex.bin p op a b).al P TL)(hn:(Ex.bin p op a b).nodes<=10000)(c:dF S B X0 h0 X V d h){idx:Nat}(er:jV X0 h0 idx (.bin p op a b))(Q:Out->ah->Prop)(hQ:eL S B X0 h0 X V WT h Q (jY S (.bin p op a b) d)):
 aV env 125 [.P B.r,.P idx] h Q:=by
 refine wb fn125 rfl ?_;simp only[Ex.nodes]at hn;obtain⟨xx1,xx2,xx3⟩:=hx;obtain⟨bb,ia,ib,fQ,gY,bx,vz,era,erb⟩:=BI er rfl;have g0:=(c.mv.aJ _ _ fQ gY).1;have gb:=(c.mv.aJ _ _ vz bx).1;simp[Ex.dx,Ex.kd,Ex.pos,Ex.Fw,Ex.vV,Ex.nI,Ex.vW]at g0 fQ gb vz;simp only[jY]at hQ;have nX:∀{h2:ah}{d2:Dn},dF S B X0 h0 X V d2 h2->∀k,h2.next<=k->k∉X:=fun c k hk hx=>by have:=c.xl k hx;omega
 by_cases aaK:op=[38,38]
 ·subst aaK;rw[aW rfl]at hQ;simp[f125,g0,gb];refine jr [0,1,2,3,4,5,6,8,9,10,11,12,13,14,7,15,16,17,18,19] kr (by simp[ew,fh];rfl) kr ?_;simp[g0,gb];have KB:=(aS.refl h).bump 20;refine yZ hS IHa xx2 om (c.aJ KB) era _ (eL.vU hQ (fun _ h=>h) (Mv.k c.fr KB) (fun p h2 q=>⟨dc,fun _=>by simpa using q⟩) fun e d1 v h2 hr jk c2 w2 M2 m2=>?_);obtain⟨me,rfl,t2⟩:=w2;have tF:=(c2.mv.aJ _ _ fQ gY).1;have Yo:=(c2.mv.aJ _ _ vz bx).1;simp;refine dm ?_;refine yZ hS IHb xx3 om c2 erb _ (eL.vU jk (fun _ h=>h) M2 (fun p h2 q=>⟨dc,fun _=>by simpa using q⟩) fun e2 d3 v h3 Ql qW c3 w3 M3 m3=>?_);obtain⟨A8,rfl,t3⟩:=w3;have yX:=(c3.mv.aJ _ _ fQ gY).1;have gb3:=(c3.mv.aJ _ _ vz bx).1;have t23:=t2.move m3.toMove;have yY:=m2.nx;have Uo:=m3.nx;simp only[ah.kz]at yY;have n16:=m3.no (h.next+16) om (Loc.fresh c (nX c _ om)) (m2.no (h.next+16) sp (Loc.fresh c (nX c _ om)) (by simpa using c.fr (h.next+16) om));have n18:=m3.no (h.next+18) om (Loc.fresh c (nX c _ om)) (m2.no (h.next+18) sp (Loc.fresh c (nX c _ om)) (by simpa using c.fr (h.next+18) om));have nn:h.next+20<=h3.next:=by omega
  simp[n16,n18];refine dm ?_;have key:=c3.mkD M3 c.fr c.xl (i:=h.next+16) (j:=h.next+18) n16 n18 om om om om om (qs:=[(me,e),(A8,e2)]) sp (by simpa using⟨t23,t3⟩) ⟨13,[105,110,116],0,0,0,false,none⟩ rfl;simp[Hd.cs,vP]at key;exact qW _ _ key.1 ⟨_,rfl,key.2.1⟩ key.2.2
 rw[az aaK]at hQ;have afy:(op==[38,38])=false:=aH.2 aaK;by_cases aaL:op=[124,124]
 ·subst aaL;rw[aW rfl]at hQ;simp[f125,g0,gb];refine jr [0,1,2,3,4,5,6,8,9,10,11,12,13,14,7,15,16,17,18,19] kr (by simp[ew,fh];rfl) kr ?_;simp[g0,gb];have KB:=(aS.refl h).bump 20;refine yZ hS IHa xx2 om (c.aJ KB) era _ (eL.vU hQ (fun _ h=>h) (Mv.k c.fr KB) (fun p h2 q=>⟨dc,fun _=>by simpa using q⟩) fun e d1 v h2 hr jk c2 w2 M2 m2=>?_);obtain⟨me,rfl,t2⟩:=w2;have tF:=(c2.mv.aJ _ _ fQ gY).1;have Yo:=(c2.mv.aJ _ _ vz bx).1;simp;refine dm ?_;refine yZ hS IHb xx3 om c2 erb _ (eL.vU jk (fun _ h=>h) M2 (fun p h2 q=>⟨dc,fun _=>by simpa using q⟩) fun e2 d3 v h3 Ql qW c3 w3 M3 m3=>?_);obtain⟨A8,rfl,t3⟩:=w3;have yX:=(c3.mv.aJ _ _ fQ gY).1;have gb3:=(c3.mv.aJ _ _ vz bx).1;have t23:=t2.move m3.toMove;have yY:=m2.nx;have Uo:=m3.nx;simp only[ah.kz]at yY;have n16:=m3.no (h.next+16) om (Loc.fresh c (nX c _ om)) (m2.no (h.next+16) sp (Loc.fresh c (nX c _ om)) (by simpa using c.fr (h.next+16) om));have n18:=m3.no (h.next+18) om (Loc.fresh c (nX c _ om)) (m2.no (h.next+18) sp (Loc.fresh c (nX c _ om)) (by simpa using c.fr (h.next+18) om));have nn:h.next+20<=h3.next:=by omega
  simp[n16,n18];refine dm ?_;have key:=c3.mkD M3 c.fr c.xl (i:=h.next+16) (j:=h.next+18) n16 n18 om om om om om (qs:=[(me,e),(A8,e2)]) sp (by simpa using⟨t23,t3⟩) ⟨14,[105,110,116],0,0,0,false,none⟩ rfl;simp[Hd.cs,vP]at key;exact qW _ _ key.1 ⟨_,rfl,key.2.1⟩ key.2.2
 rw[az aaL]at hQ;have afz:(op==[124,124])=false:=aH.2 aaL;simp[f125,g0,gb,afy,afz];refine jr [0,1,2,3,4,5,6,8,9,10,11,12,13,14,7,15,16,17] kr (by simp[ew,fh];rfl) kr ?_;simp[g0,gb];have KB:=(aS.refl h).bump 18;refine qG hS IHa xx2 om (c.aJ KB) era _ (eL.vU hQ (fun _ h=>h) (Mv.k c.fr KB) (fun p h2 q=>⟨dc,fun _=>by simpa using q⟩) fun e d1 v h2 hr jk c2 w2 M2 m2=>?_);obtain⟨me,rfl,t2⟩:=w2;have tF:=(c2.mv.aJ _ _ fQ gY).1;have Yo:=(c2.mv.aJ _ _ vz bx).1;simp;refine dm ?_;refine qG hS IHb xx3 om c2 erb _ (eL.vU jk (fun _ h=>h) M2 (fun p h2 q=>⟨dc,fun _=>by simpa using q⟩) fun e2 d3 v h3 Ql qW c3 w3 M3 m3=>?_);obtain⟨A8,rfl,t3⟩:=w3;have yX:=(c3.mv.aJ _ _ fQ gY).1;have gb3:=(c3.mv.aJ _ _ vz bx).1;have t23:=t2.move m3.toMove;have vk1:=vy hS xx2 c.ok hr;have vk3:=vy hS xx3 c2.ok Ql;have l1:=EH vk1.1 om;have l3:=EH vk3.1 om;simp;refine dm ?_;simp[yX];refine(JD _ _).mono fun out h4 hq=>?_;obtain⟨rfl,rfl⟩:=hq;have rng:=VZ op;generalize Ei op=on at*;obtain⟨avx,aaM,_⟩:=t23.obj;simp only[Hd.cs]at aaM;have ahb:=au c3.fr aaM;have ni1:me≠h4.next/\me≠h4.next+1:=om
 obtain⟨ni1,ni2⟩:=ni1;simp[aaM,ni1,ni2];have K4:aS h4 ((h4.alloc (.cells true 1 [.P me,.P A8])).2.alloc (.C [.I 11,.str [],.I on,.I 0,.I 0,.bool false,.N,.S h4.next 2])).2:=kT;have Sp:((h4.alloc (.cells true 1 [.P me,.P A8])).2.alloc (.C [.I 11,.str [],.I on,.I 0,.I 0,.bool false,.N,.S h4.next 2])).2.get h4.next=some (.cells true 1 [.P me,.P A8]):=sp
 have DM:((h4.alloc (.cells true 1 [.P me,.P A8])).2.alloc (.C [.I 11,.str [],.I on,.I 0,.I 0,.bool false,.N,.S h4.next 2])).2.get (h4.next+1)=some (.C [.I 11,.str [],.I on,.I 0,.I 0,.bool false,.N,.S h4.next 2]):=sp
 obtain⟨C5,lo,mY,oX⟩:=c3.more K4 (i:=h4.next+1) om sp;have MY:Mv B V X ((h4.next+1)::X) h4 _:=Mv.of mY c3.fr K4;have T1:=t23.move mY;have T2:=t3.move mY;have qO:h.get (h4.next+1)=none:=c.fr _ (by have:=M3.nx;omega);have Fy:h.next<=h4.next+1:=by have:=M3.nx;omega
 have bY:h4.next∉(h4.next+1)::X:=by
  intro hx;rcases aq.1 hx with hx|hx
  ·omega
  ·have:=c3.xl _ hx;omega
 have M5:=M3.comp MY;have hs:∀x∈X,x∈(h4.next+1)::X:=fun x hx=>ay _ hx;have ho:h4.next+1∈(h4.next+1)::X:=aY ..;have zr:=(C5.mv.aJ _ _ fQ gY).1;have wo:=(C5.mv.aJ _ _ vz bx).1;have own:=c3.own;generalize ((h4.alloc (.cells true 1 [.P me,.P A8])).2.alloc (.C [.I 11,.str [],.I on,.I 0,.I 0,.bool false,.N,.S h4.next 2])).2=h5 at*;generalize h4.next+1=o at*;generalize h4.next=bb' at*;clear mY MY K4 t23 t3 t2;obtain⟨av1,Cx,ahc,_⟩:=T1.obj;obtain⟨Sk,Ek,ahd,_⟩:=T2.obj;simp only[Hd.cs]at Cx Ek;unfold Yj at qW;dsimp only at qW;have ea5:=era.move C5.mv;have eb5:=erb.move C5.mv;refine aV.Fz (Q':=fun x st=>x= .jL/\∃rg,st=⟨rg,225,h5,[],false⟩/\rg.get 0=some (.P B.r)/\rg.get 1=some (.P idx)/\rg.get 5=some (.P me)/\rg.get 6=some (.P A8)/\rg.get 7=some (.P o)/\rg.get 8=some (.bool (vT e.d.ty&&vT e2.d.ty))) ?_ ?_
 ·refine(lP _ _).mono fun out h6 hq=>?_;obtain⟨rfl,rfl⟩:=hq;cases hA:vT e.d.ty with
  |true=>
   simp[Cx,Ek];refine(lP _ _).mono fun out h6 hq=>?_;obtain⟨rfl,rfl⟩:=hq;simp
  |false=>simp[Cx,Ek]
 rintro x st ⟨rfl,rg,rfl,r0,r1,r5,r6,r7,r8⟩
 simp[r7,DM];refine(aaH on _ rng.1 rng.2).mono fun out h6 hq=>?_;obtain⟨nf,rfl,rfl⟩:=hq;have tyE:∀{e:TX},e.ty=e.d.ty:=rfl;simp only[TX.ty]at qW;generalize hbo:(vT e.d.ty&&vT e2.d.ty)=bo at*;cases HW:(decide (21<=on)&&decide (on<=26))with
 |true=>
  simp only[HW]at qW;apply aaJ (n:=225) (h:=h6) (P:=fun rg=>rg.get 0=some (.P B.r)/\rg.get 1=some (.P idx)/\rg.get 5=some (.P me)/\rg.get 6=some (.P A8)/\rg.get 7=some (.P o)/\rg.get 8=some (.bool bo)/\rg.get 11=some (.bool (on==21||on==22)))
  case hm=>
   intro Qo;simp[r7,DM];cases Pa:(on==21)with
   |true=>
    simp[r7,DM];exact Qo _ ⟨by simp[r0],by simp[r1],by simp[r5],by simp[r6],by simp[r7],by simp[r8],by simp[Pa]⟩
   |false=>
    simp[r7,DM];exact Qo _ ⟨by simp[r0],by simp[r1],by simp[r5],by simp[r6],by simp[r7],by simp[r8],by simp[Pa]⟩
  case ht=>
   clear r0 r1 r5 r6 r7 r8
   rintro rg ⟨r0,r1,r5,r6,r7,r8,jq⟩
   generalize heq:(on==21||on==22)=eq at*;have KB:=(aS.refl h6).bump 42;refine mq (Q:=fun x st=>x= .jL/\∃rg,st=⟨rg,225,h6.bump 42,[],false⟩/\rg.get 0=some (.P B.r)/\rg.get 1=some (.P idx)/\rg.get 5=some (.P me)/\rg.get 6=some (.P A8)/\rg.get 7=some (.P o)/\rg.get 8=some (.bool bo)/\rg.get 11=some (.bool eq)/\rg.get 12=some (.bool (DB e.d.ty&&(e.d.ty==e2.d.ty||R3 b)||DB e2.d.ty&&R3 a))) ?_ (Dd ?_)
   ·clear r0 r1 r5 r6 r7 r8 jq
    rintro x st ⟨rfl,rg,rfl,r0,r1,r5,r6,r7,r8,jq,RX⟩
    have CB:=C5.aJ KB;have MB:=M5.comp (Mv.k C5.fr KB);have TB1:=T1.move (Move.k C5.fr KB);have TB2:=T2.move (Move.k C5.fr KB);have gob:(h6.bump 42).get o=_:=DM;have Yp:(h6.bump 42).get bb'=_:=Sp;generalize (DB e.d.ty&&(e.d.ty==e2.d.ty||R3 b)||DB e2.d.ty&&R3 a)=pt at*;cases bo with
    |true=>
     simp only[uz]at qW;simp[r0,r1,r7,r8,jq,RX,zr];refine pq CB qW hs MB (fun h4 q=>by simpa using q) fun h7 hb7 EG c7 k7 M7=>?_;have za:=(k7.old _ (au CB.fr gob)).trans gob;have O9:=(k7.old _ (au CB.fr Yp)).trans Yp;simp[za,r7];exact xV c7 own hs ho oX lo bY qO Fy M7 O9 (TB1.move (Move.k CB.fr k7)) (TB2.move (Move.k CB.fr k7)) EG
    |false=>
     cases eq with
     |false=>
      simp only[gX,Bool.or_false]at qW;simp[r0,r1,r7,r8,jq,RX,zr];refine pq CB qW hs MB (fun h4 q=>by simpa using q) fun h7 hb7 EG c7 k7 M7=>?_;have za:=(k7.old _ (au CB.fr gob)).trans gob;have O9:=(k7.old _ (au CB.fr Yp)).trans Yp;simp[za,r7];exact xV c7 own hs ho oX lo bY qO Fy M7 O9 (TB1.move (Move.k CB.fr k7)) (TB2.move (Move.k CB.fr k7)) EG
     |true=>
      simp only[fi,oU]at qW;simp[r0,r1,r7,r8,jq,RX,zr];refine pq CB qW hs MB (fun h4 q=>by simpa using q) fun h7 hb7 EG c7 k7 M7=>?_;have za:=(k7.old _ (au CB.fr gob)).trans gob;have O9:=(k7.old _ (au CB.fr Yp)).trans Yp;simp[za,r7];exact xV c7 own hs ho oX lo bY qO Fy M7 O9 (TB1.move (Move.k CB.fr k7)) (TB2.move (Move.k CB.fr k7)) EG
   ·have tk:True:=trivial;simp[r0,r1,r5,r6,r7,r8,jq,Cx,Ek,zr,wo];refine(xj _ _ (show e.ty.length<=9000000000 from om)).mono fun out h7 hq=>?_;obtain⟨rfl,rfl⟩:=hq;cases hA:DB e.d.ty with
    |false=>
     simp[r0,r1,r5,r6,r7,r8,jq,Cx,Ek,zr,wo];refine dm ?_;refine(xj _ _ (show e2.ty.length<=9000000000 from om)).mono fun out h7 hq=>?_;obtain⟨rfl,rfl⟩:=hq;cases hD:DB e2.d.ty with
     |false=>
      simp[r0,r1,r5,r6,r7,r8,jq,Cx,Ek,zr,wo];refine dm ?_
      repeat (first|exact Ds _ _ _|refine RQ (by decide+kernel) ?_|refine OY (by simp[r0,r1,r5,r6,r7,r8,jq,Cx,Ek,zr,wo];done) ?_)
     |true=>
      simp[r0,r1,r5,r6,r7,r8,jq,Cx,Ek,zr,wo];refine dm ?_;refine(xk (ea5.move (Move.k C5.fr KB))).mono fun out h7 hq=>?_;obtain⟨rfl,rfl⟩:=hq;simp[r0,r1,r5,r6,r7,r8,jq,Cx,Ek,zr,wo];refine dm ?_
      repeat (first|exact Ds _ _ _|refine RQ (by decide+kernel) ?_|refine OY (by simp[r0,r1,r5,r6,r7,r8,jq,Cx,Ek,zr,wo];done) ?_)
    |true=>
     simp[r0,r1,r5,r6,r7,r8,jq,Cx,Ek,zr,wo];refine dm ?_;cases hB:(e.d.ty==e2.d.ty)with
     |true=>
      simp[r0,r1,r5,r6,r7,r8,jq,Cx,Ek,zr,wo]
     |false=>
      simp[r0,r1,r5,r6,r7,r8,jq,Cx,Ek,zr,wo];refine dm ?_;refine(xk (eb5.move (Move.k C5.fr KB))).mono fun out h7 hq=>?_;obtain⟨rfl,rfl⟩:=hq;cases hC:R3 b with
      |true=>
       simp[r0,r1,r5,r6,r7,r8,jq,Cx,Ek,zr,wo];refine dm ?_
       repeat (first|exact Ds _ _ _|refine RQ (by decide+kernel) ?_|refine OY (by simp[r0,r1,r5,r6,r7,r8,jq,Cx,Ek,zr,wo];done) ?_)
      |false=>
       simp[r0,r1,r5,r6,r7,r8,jq,Cx,Ek,zr,wo];refine dm ?_;refine(xj _ _ (show e2.ty.length<=9000000000 from om)).mono fun out h7 hq=>?_;obtain⟨rfl,rfl⟩:=hq;cases hD:DB e2.d.ty with
       |false=>
        simp[r0,r1,r5,r6,r7,r8,jq,Cx,Ek,zr,wo];refine dm ?_
        repeat (first|exact Ds _ _ _|refine RQ (by decide+kernel) ?_|refine OY (by simp[r0,r1,r5,r6,r7,r8,jq,Cx,Ek,zr,wo];done) ?_)
       |true=>
        simp[r0,r1,r5,r6,r7,r8,jq,Cx,Ek,zr,wo];refine dm ?_;refine(xk (ea5.move (Move.k C5.fr KB))).mono fun out h7 hq=>?_;obtain⟨rfl,rfl⟩:=hq;simp[r0,r1,r5,r6,r7,r8,jq,Cx,Ek,zr,wo];refine dm ?_
        repeat (first|exact Ds _ _ _|refine RQ (by decide+kernel) ?_|refine OY (by simp[r0,r1,r5,r6,r7,r8,jq,Cx,Ek,zr,wo];done) ?_)
 |false=>
  simp only[HW]at qW;cases bo with
  |false=>
   simp[r0,r1,r5,r6,r7,r8];refine aaI hS C5 er hs M5 own qO Fy ho oX lo bY DM Sp T1 T2 l1 l3 Q _ qW (fun p h2 q=>by simpa using q) (fun h2 q=>?_);simp[r7];exact q
  |true=>
   simp only at qW;cases h19:(on==19)with
   |true=>
    have e19:on=19:=(by simpa using h19);rw[aW (.inl e19)]at qW;simp[r0,r1,r5,r6,r7,r8,DM,Cx,h19];refine(Cw _ _ _).mono fun out h7 hq=>?_;obtain⟨rfl,rfl⟩:=hq;simp[r7,DM];exact xV C5 own hs ho oX lo bY qO Fy M5 Sp T1 T2 qW
   |false=>
    have e19:on≠19:=(by simpa using h19);cases H0:(on==20)with
    |true=>
     have e20:on=20:=(by simpa using H0);rw[aW (.inr e20)]at qW;simp[r0,r1,r5,r6,r7,r8,DM,Cx,h19,H0];refine(Cw _ _ _).mono fun out h7 hq=>?_;obtain⟨rfl,rfl⟩:=hq;simp[r7,DM];exact xV C5 own hs ho oX lo bY qO Fy M5 Sp T1 T2 qW
    |false=>
     have e20:on≠20:=(by simpa using H0);rw[az om]at qW;simp[r0,r1,r5,r6,r7,r8,DM,h19,H0];refine Dd ?_;simp[r7,r5,r6,Cx,Ek];have KB:=(aS.refl h6).bump 16;refine(Cw _ _ _).mono fun out h7 hq=>?_;obtain⟨rfl,rfl⟩:=hq;simp[DM];refine dl ?_;simp[r7];exact xV (C5.aJ KB) own hs ho oX lo bY qO Fy (M5.comp (Mv.k C5.fr KB)) Sp (T1.move (Move.k C5.fr KB)) (T2.move (Move.k C5.fr KB)) qW
end
end
section
attribute [local simp] aI
theorem FA{s:List UInt8}{vs:List Vr}:∀(l:List Nat)(k:Nat)(v:Vr),vs[k]?=some v->z6 s vs (l++[k])=if v.nm=s then some k else z6 s vs l
 |[],k,v,h=>by simp[z6,h]
 |j::l,k,v,h=>by
  have:=FA (s:=s) l k v h;simp only[bZ,z6,this];by_cases e:v.nm=s
  ·rw[aW e,aW e]
  ·rw[az e,az e]
theorem sS(s:List UInt8):∀(l:List (List UInt8))(i j:Nat),(yf s l i=none/\∀H,fq H (.str s) (gd l i) j=some none)\/∃n k,yf s l i=some n/\∀H,fq H (.str s) (gd l i) j=some (some (k,.I n))
 |[],i,j=> .inl ⟨rfl,fun H=>rfl⟩
 |x::l,i,j=>by
  by_cases h:x=s
  ·subst h;exact .inr ⟨i,j,by simp[yf],fun H=>by simp only[gd,fq,iR,beq_self_eq_true]⟩
  ·have hb:(s==x)=false:=(by simpa using fun e=>h e.symm);rcases sS s l (i+1) (j+1)with⟨h1,h2⟩|⟨n,k,h1,h2⟩
   ·exact .inl ⟨by simp only[yf,h,iW,h1],fun H=>by simp only[gd,fq,iR,hb];exact h2 H⟩
   ·exact .inr ⟨n,k,by simp only[yf,h,iW,h1],fun H=>by simp only[gd,fq,iR,hb];exact h2 H⟩
theorem JF:∀(fs:List Gl)(i:Nat)(f:Gl),fs[i]?=some f->(xh fs)[i*3+1]?=some (.str f.ty)
 |[],i,f,h=>by simp at h
 |p::ps,0,f,h=>by
  simp only[ed,bw]at h;subst h;simp[xh]
 |p::ps,i+1,f,h=>by
  have:=JF ps i f (by simpa using h);rw[show(i+1)*3+1=i*3+1+1+1+1 by omega];simpa[xh]using this
theorem aaN{h:ah}{l q q5:Nat}{O D:ej}{V:CV}{d:Dn}{nm:List UInt8}(fr:cM h)(hO:∃pd n rg aa bb,O= .loop .ready pd n rg #[15,16] aa bb)(gl:h.get l=some O)(gq:h.get q=some (.C [V.sa]))(g5:h.get q5=some (.C [.N]))(ql:q≠l)(q5l:q5≠l)(qq5:q≠q5)(sa:mu h V d)(bl:∀b∈aK V.sa,b≠l/\b≠q5)(ok:d.Ok)(vl:V.vs.length=d.vs.length)
 (tk:∀(k a:Nat)(v:Vr)(i:Int)(H:ah),H.get l=some O->aQ [l,q5] h H->H.get q5=some (.C [.N])->V.vs[k]?=some a->d.vs[k]?=some v->rh env l [.I i,.P a] H (fun x H'=>aQ [l,q5] H H'/\((v.nm=nm/\x= .bool false/\H'.get l=some D/\H'.get q5=some (.C [.P a]))\/(v.nm≠nm/\x= .bool true/\H'.get l=some O/\H'.get q5=some (.C [.N]))))):
 aV env 191 [.CG l,.P q] h (fun out h'=>out= .ret (.iX [])/\aQ [l,q5] h h'/\((z6 nm d.vs d.seen=none/\h'.get l=some O/\h'.get q5=some (.C [.N]))\/∃k a,z6 nm d.vs d.seen=some k/\V.vs[k]?=some a/\h'.get l=some D/\h'.get q5=some (.C [.P a]))):=by
 refine wb fn191 rfl ?_;obtain⟨pd,n0,AD,aa,bb,rfl⟩:=hO;obtain⟨ab,Up⟩:∃ab,V.sa= .slice ab d.seen.length:=by
  rcases sa with⟨e,e2⟩|⟨b,L,e,_⟩
  ·exact⟨none,by rw[e,e2];rfl⟩
  ·exact⟨_,e⟩
 have sl:d.seen.length<=1000:=by
  rcases sa with⟨_,e⟩|⟨b,L,_,_,_,h1,h2⟩
  ·rw[e];simp
  ·omega
 have w0:IntKind.wrap .i64 ((d.seen.length:Int)-1)=(d.seen.length:Int)-1:=wr om om;simp[f191,gq,Up,w0];refine bW (fun m x=>∃i,i<=d.seen.length/\m=i/\z6 nm d.vs (d.seen.take i)=z6 nm d.vs d.seen/\x.n=19/\x.ds=[]/\x.bI=false/\aQ [l,q5] h x.h/\x.h.get l=some (.loop .ready pd n0 AD #[15,16] aa bb)/\x.h.get q5=some (.C [.N])/\x.rg.get 0=some (.CG l)/\x.rg.get 1=some (.P q)/\x.rg.get 3=some (.I ((i:Int)-1))) d.seen.length ?_ ?_
 ·exact⟨d.seen.length,ao _,rfl,by rw[dH],rfl,rfl,rfl,aQ.refl _ _,gl,g5,sp,sp,sp⟩
 rintro m ⟨rg,n,H,ds,bI⟩ ⟨i,hi,rfl,hf,e1,e2,e3,k,hl,h5,r0,r1,r3⟩
 dsimp only at e1 e2 e3 k hl h5 r0 r1 r3;subst e1 e2 e3;cases m with
 |zero=>
  simp[r3];refine⟨k,.inl ⟨?_,hl,h5⟩⟩;rw[<-hf];simp[z6]
 |succ i=>
  obtain⟨b,L,e,gb,tk2,ll,lL⟩:=sa.resolve_left fun e=>by rw[e.2]at hi;simp at hi
  rw[Up]at e;injection e with e _;subst e;have HQ:=bl b (by rw[Up];simp[aK]);have VV:=(k.old b (au fr gb) (by simp[HQ.1,HQ.2])).trans gb;have gq':=(k.old q (au fr gq) (by simp[ql,qq5])).trans gq;rw[Up]at gq';have np:i<d.seen.length:=by omega
  have hks:=ok.seen _ (bK np);obtain⟨a,ha⟩:∃a,V.vs[d.seen[i]]?=some a:=⟨V.vs[d.seen[i]]' om,aj om⟩
  obtain⟨v,hv⟩:∃v,d.vs[d.seen[i]]?=some v:=⟨_,aj hks⟩
  have hL:L[i]?=some (.P a):=by
   have e1:(L.take d.seen.length)[i]?=L[i]?:=List.getElem?_take_of_lt np;rw[<-e1,tk2,bQ,aj np];simp[vP,ha]
  have h0:(0:Int)<=(i:Int):=by omega
  have c1:((i+1:Nat):Int)-1=(i:Int):=by omega
  have b1:(i:Int)<(d.seen.length:Int):=by omega
  have w1:IntKind.wrap .i64 ((i:Int)-1)=(i:Int)-1:=wr om om;rw[c1]at r3;simp[r0,r1,r3,gq',VV,hL,np,b1,hl];refine(tk _ a v _ H hl k h5 ha hv).mono fun x H2 hq=>?_;obtain⟨k2,hq⟩:=hq;rw[dG,aj np,show(some d.seen[i]).toList=[d.seen[i]]from rfl,FA _ _ _ hv]at hf;rcases hq with⟨hn,rfl,g1,g2⟩|⟨hn,rfl,g1,g2⟩
  ·rw[aW hn]at hf;simp;exact⟨k.trans k2,.inr ⟨_,hf.symm,_,ha,g1,g2⟩⟩
  ·rw[az hn]at hf;simp[r3,w1];exact⟨i,om,i,om,rfl,hf,k.trans k2,g1,g2,r0,r1,rfl⟩
section
variable{S:Sc}{B:CB}{X0:List Nat}{h0:ah}{X Y:List Nat}{V:CV}{d:Dn}{h h1:ah}{P:Pl->Prop}
theorem V1(hS:Stat S B X0 h0){p:Pl}{nm:List UInt8}(c:dF S B X0 h0 X V d h){idx:Nat}(er:jV X0 h0 idx (.var p nm))(Q:Out->ah->Prop)(hQ:eL S B X0 h0 X V WT h Q (GZ S nm p d)):
 aV env 123 [.P B.r,.P idx] h Q:=by
 refine wd fn123 rfl ?_;obtain⟨av,fQ,gY,_⟩:=er.obj;have g0:=(c.mv.aJ _ _ fQ gY).1;simp[Ex.dx,Ex.kd,Ex.pos,Ex.Fw,Ex.vV,Ex.nI,Ex.vW]at g0 fQ;obtain⟨ov,c1,_⟩:=c.c;have Yk:=au c.fr c1;have ilt:=au c.fr g0;have rn:B.r≠h.next/\B.r≠h.next+1:=om
 obtain⟨rn1,rn2⟩:=rn;obtain⟨ab,Up⟩:∃ab,V.sa= .slice ab d.seen.length:=by
  rcases c.sa with⟨e,e2⟩|⟨b,L,e,_⟩
  ·exact⟨none,by rw[e,e2];rfl⟩
  ·exact⟨_,e⟩
 simp only[CB.ob,Up]at c1;simp[f123,c1,rn1,rn2,rn1.symm,rn2.symm];refine wb fn159 rfl ?_;simp[f159];refine RO (g:=191) (ko:=[AV.P (h.next+2)]) sp rfl ?_;generalize haa:Code.region 3 _ _=aa;generalize Fc:Code.block 1 _=bb;generalize hO:ej.loop .ready none _ _ _ aa bb=O;obtain⟨AD,hO,Ql,LS⟩:∃AD,O= .loop .ready none 70 AD #[15,16] aa bb/\AD.get 3=some (.P h.next)/\AD.get 5=some (.P (h.next+1)):=⟨_,hO.symm,sp,sp⟩
 have K1:aS h (((((h.alloc (.C [.P idx])).2.alloc (.C [.N])).2.alloc (.C [.slice ab d.seen.length])).2.alloc .sI).2.alloc O).2:=kT;have G3:(((((h.alloc (.C [.P idx])).2.alloc (.C [.N])).2.alloc (.C [.slice ab d.seen.length])).2.alloc .sI).2.alloc O).2.get h.next=some (.C [.P idx]):=sp
 have G5:(((((h.alloc (.C [.P idx])).2.alloc (.C [.N])).2.alloc (.C [.slice ab d.seen.length])).2.alloc .sI).2.alloc O).2.get (h.next+1)=some (.C [.N]):=sp
 have Gq:(((((h.alloc (.C [.P idx])).2.alloc (.C [.N])).2.alloc (.C [.slice ab d.seen.length])).2.alloc .sI).2.alloc O).2.get (h.next+2)=some (.C [.slice ab d.seen.length]):=sp
 have Gd:(((((h.alloc (.C [.P idx])).2.alloc (.C [.N])).2.alloc (.C [.slice ab d.seen.length])).2.alloc .sI).2.alloc O).2.get (h.next+3)=some .sI:=sp
 have GL:(((((h.alloc (.C [.P idx])).2.alloc (.C [.N])).2.alloc (.C [.slice ab d.seen.length])).2.alloc .sI).2.alloc O).2.get (h.next+4)=some O:=sp
 have nn1:(((((h.alloc (.C [.P idx])).2.alloc (.C [.N])).2.alloc (.C [.slice ab d.seen.length])).2.alloc .sI).2.alloc O).2.next=h.next+5:=sp
 simp only[ah.vm,aI,Nat.reduceAdd];generalize (((((h.alloc (.C [.P idx])).2.alloc (.C [.N])).2.alloc (.C [.slice ab d.seen.length])).2.alloc .sI).2.alloc O).2=H1 at*;have C1:=c.aJ K1;have xl:=c.xl;have own:=c.own;refine(aaN (q5:=h.next+1) (V:=V) (d:=d) (nm:=nm) (D:= .loop .done (some (.exit 0)) 70 AD #[15,16] aa bb) C1.fr ⟨_,_,_,_,_,hO⟩ GL (by rw[Up];exact Gq) G5 om om om C1.sa (fun b hb=>by have:=xl b (own.sa b hb);omega) c.ok c.vl ?tk).mono fun out h2 hq=>?_
 case tk=>
  intro k a v i H hl kx h5 Fx hvv;rw[hO]at hl;refine rh.mk hl ⟨rfl,sp⟩ ?_;have alt:=xl a (own.v a (bg Fx));have ga:=(kx.old a om (by simp;omega)).trans (C1.vs k a v Fx hvv);have g3:=(kx.old h.next om sp).trans G3;have gx:=(kx.old idx om (by simp;omega)).trans ((K1.old idx ilt).trans g0);simp only[Vr.cs]at ga;have cX:h.next+4<H.next:=by have:=kx.next;omega
  have ID:h.next+1<H.next:=by omega
  have na:a≠h.next+4/\a≠h.next+1/\idx≠h.next+4/\idx≠h.next+1:=by omega
  obtain⟨na1,na2,na3,na4⟩:=na;rw[<-haa];simp[hl,Ql,LS];rw[<-Fc];cases hn:(v.nm==nm)with
  |true=>
   simp[ga,g3,gx,h5,hn,Ql,LS,na1,na2,na3,na4];simp[endRound,ga,g3,gx,h5,hn];refine⟨kX,by simpa using hn,haa.symm⟩
  |false=>
   simp[ga,g3,gx,h5,hn,Ql,LS,na1,na2,na3,na4];simp[endRound,ga,g3,gx,h5,hn];refine⟨kX,by simpa using hn,?_⟩;rw[Fc];exact hO.symm
 obtain⟨rfl,kx,hq⟩:=hq;have gd2:=(kx.old (h.next+3) om sp).trans Gd;have g32:=(kx.old h.next om sp).trans G3;have yY:=kx.next;have K2:aS h h2:=⟨om,fun i hi=>(kx.old i om (by simp;omega)).trans (K1.old i hi),fun f=>kx.fresh (K1.fresh f)⟩
 unfold GZ at hQ;rcases hq with⟨V3,gl2,g52⟩|⟨k,a,V3,Fx,gl2,g52⟩
 ·rw[V3]at hQ;rw[hO]at gl2;simp[uQ,gl2,g52];have K3:aS h (h2.set (h.next+4) (.loop .exhausted none 70 AD #[15,16] aa bb)):=kT;have gd3:(h2.set (h.next+4) (.loop .exhausted none 70 AD #[15,16] aa bb)).get (h.next+3)=some .sI:=by simp[gd2]
  have g33:(h2.set (h.next+4) (.loop .exhausted none 70 AD #[15,16] aa bb)).get h.next=some (.C [.P idx]):=by simp[g32]
  have Uo:(h2.set (h.next+4) (.loop .exhausted none 70 AD #[15,16] aa bb)).next=h2.next:=rfl
  generalize h2.set (h.next+4) (.loop .exhausted none 70 AD #[15,16] aa bb)=h3 at*;have C3:=c.aJ K3;obtain⟨ov3,c3,_⟩:=C3.c;have yX:=(C3.mv.aJ _ _ fQ gY).1;simp only[CB.ob]at c3;have gm3:=(C3.mv.aJ _ _ hS.gm hS.mx.2.1).1;refine Dd ?_;rcases sS nm (S.gs.map Gl.nm) 0 0 with⟨f1,f2⟩|⟨n,j,f1,f2⟩
  ·rw[f1]at hQ;simp[c3,g33,yX,gm3,f2];refine dl ?_;have KB:=K3.bump 14;refine gy p false _ _ _ (fun h4 _ k4=>?_) (fun h4 hh _=>by cases hh);have gd4:=(k4.old (h.next+3) (by simp;omega)).trans gd3;have n4:=k4.next;simp at n4;simp[gd4];have K5:aS h (h4.set (h.next+3) .dead):=by
    have:=KB.trans k4;exact kT
   exact hQ _ (Move.k c.fr K5) (K5.fresh c.fr)
  ·rw[f1]at hQ;obtain⟨n',OF,Pb⟩:=Ab f1;have OF:n=n':=om;subst OF;have cX:n<S.gs.length:=by
    have:=(aU.1 Pb).1;simpa using this
   simp[c3,g33,yX,gm3,f2];refine dl ?_;have KB:=K3.bump 14;refine gy p true _ _ _ (fun h4 hh _=>by cases hh) (fun h4 _ k4=>?_);have K4:=KB.trans k4;have C4:=c.aJ K4;have gd4:=(k4.old (h.next+3) (by simp;omega)).trans gd3;have g34:=(k4.old h.next (by simp;omega)).trans g33;have n4:=k4.next;simp at n4;obtain⟨ov4,c4,_⟩:=C4.c;simp only[CB.ob]at c4;have BQ:=(C4.mv.aJ _ _ fQ gY).1;have DL:=(C4.mv.aJ _ _ hS.o hS.ox).1;obtain⟨b,yg,eb,_,Yn⟩:=(hS.ga.move C4.mv).resolve_left fun e=>by omega
   rw[eb]at DL;have hlI:(n:Int)<(S.gs.length:Int):=om;have fg:=JF S.gs n S.gs[n] (aj cX);have olt:=au C4.fr DL;have blt:=au C4.fr Yn;simp[c4,DL,Yn,hlI,cX,fg,gd4];have nd:h4.next≠h.next+3:=om;simp[gd4,nd,nd.symm];have K5:aS h ((h4.alloc (.C [.I 3,.str S.gs[n].ty,.I 0,.I n,.I 0,.bool false,.N,.Z])).2.set (h.next+3) .dead):=kT;refine hQ _ _ (c.aJ K5) ⟨h4.next,rfl,.mk (av:= .Z) (qs:=[]) ?_ (fun hx=>by have:=c.xl _ hx;omega) sp (.inl ⟨rfl,rfl⟩) rfl sp⟩ (Mv.k c.fr K5);simp[Hd.cs,vP,aav,nd,aj cX]
 ·rw[V3]at hQ;obtain⟨v,hv,_,_⟩:=G7 V3;simp[uQ,gl2,g52];have K3:aS h (h2.set (h.next+4) (.loop .exhausted (some (.exit 0)) 70 AD #[15,16] aa bb)):=kT;have gd3:(h2.set (h.next+4) (.loop .exhausted (some (.exit 0)) 70 AD #[15,16] aa bb)).get (h.next+3)=some .sI:=by simp[gd2]
  have g53:(h2.set (h.next+4) (.loop .exhausted (some (.exit 0)) 70 AD #[15,16] aa bb)).get (h.next+1)=some (.C [.P a]):=by simp[g52]
  have Uo:(h2.set (h.next+4) (.loop .exhausted (some (.exit 0)) 70 AD #[15,16] aa bb)).next=h2.next:=rfl
  generalize h2.set (h.next+4) (.loop .exhausted (some (.exit 0)) 70 AD #[15,16] aa bb)=h3 at*;have C3:=c.aJ K3;have ga:=C3.vs k a v Fx hv;simp only[Vr.cs]at ga;refine Dd ?_;have f6:=C3.fr (h3.next+6) om;have nd:h3.next+6≠h.next+3:=by omega
  have nd2:h.next≠h3.next+3:=by omega
  simp[g53,ga,gd3,f6,nd,nd.symm,nd2,nd2.symm];refine dl ?_;have K5:aS h (((h3.bump 8).set (h3.next+6) (.C [.I 2,.str v.ty,.I 0,.I 0,.I 0,.bool false,.P a,.Z])).set (h.next+3) .dead):=kT;refine hQ _ _ (c.aJ K5) ⟨h3.next+6,rfl,.mk (av:= .Z) (qs:=[]) ?_ (fun hx=>by have:=c.xl _ hx;omega) (fun j e=>by simp at e;subst e;exact(aU.1 Fx).1) (.inl ⟨rfl,rfl⟩) rfl sp⟩ (Mv.k c.fr K5);simp[Hd.cs,vP,aau,hv,Fx,nd]
end
end
section
attribute [local simp] aI
section
variable{S:Sc}{B:CB}{X0:List Nat}{h0:ah}{X Y:List Nat}{V:CV}{d:Dn}{h h1:ah}{P:Pl->Prop}
def V4(e:TX)(ty:List UInt8):Int:=if(ty==[99,104,97,114]&&(e.ty==[105,110,116]||e.ty==[108,111,110,103]))=true then 3 else if(ty==[105,110,116]&&e.ty==[108,111,110,103])=true then 4 else 0
theorem Pc{id:Nat}{e:TX}{vs:List Nat}(t:jK X vs h id e)(ty:List UInt8)(Q:Out->ah->Prop)(hQ:∀b h2,aS h h2->h.next<=b->b+1<h2.next->h2.get b=some (.cells true 1 [.P id])->h2.get (b+1)=some (.C [.I 15,.str ty,.I (V4 e ty),.I 1,.I 0,.bool false,.N,.S b 1])->Q (.ret (.P (b+1))) h2):
 aV env 122 [.P id,.str ty] h Q:=by
 refine wb fn122 rfl ?_;obtain⟨av,g,_⟩:=t.obj;simp only[Hd.cs]at g;unfold V4 at hQ;cases h1:(ty==[99,104,97,114])<;>cases h2:(ty==[105,110,116])<;>cases h3:(e.d.ty==[105,110,116])<;>cases h4:(e.d.ty==[108,111,110,103])<;>simp[f122,g,h1,h2,h3,h4]<;>(refine hQ _ _ kT (ao _) sp sp ?_;simp only[TX.ty,h1,h2,h3,h4];simp)
theorem aaO(hS:Stat S B X0 h0){p:Pl}{ty:List UInt8}{a:Ex}(IH:KE S B X0 h0 a)(hx:(Ex.cast p ty a).al P TL)(hn:a.nodes<=10000)(c:dF S B X0 h0 X V d h){idx:Nat}(er:jV X0 h0 idx (.cast p ty a))(Q:Out->ah->Prop)(hQ:eL S B X0 h0 X V WT h Q (jY S (.cast p ty a) d)):
 aV env 126 [.P B.r,.P idx] h Q:=by
 refine wb fn126 rfl ?_;obtain⟨x1,x2,x3⟩:=hx;obtain⟨bb,ia,fQ,gY,bx,vz,era⟩:=Jj er rfl;have g0:=(c.mv.aJ _ _ fQ gY).1;have gb:=(c.mv.aJ _ _ vz bx).1;have lty:ty.length<=70000:=x2;simp[Ex.dx,Ex.kd,Ex.pos,Ex.Fw,Ex.vV,Ex.nI,Ex.vW]at g0 fQ gb vz;simp only[jY]at hQ;simp[f126,g0,gb];refine qG hS IH x3 hn c era _ (eL.vU hQ (fun _ h=>h) (Mv.refl _ _ _ _) (fun p h2 q=>by simpa using q) fun e d1 v h2 hr jk c2 w2 M2 m2=>?_);obtain⟨me,rfl,t2⟩:=w2;have ln:=EH (vy hS x3 c.ok hr).1 om;obtain⟨Sk,g2,yY,_⟩:=t2.obj;simp only[Hd.cs]at g2;have tF:=(c2.mv.aJ _ _ fQ gY).1;unfold ade at jk;simp;refine jr [0,1,2,3,4,5,33,34,35,36,6,7,8,9,10,11,13,14,15,16,12,17,18,19,20,21,22,23,24,26,27,28,29,25,30,31,32,37] kr (by simp[ew,fh];rfl) kr ?_;simp[tF,g2];have KB:=(aS.refl h2).bump 38;refine sw hS (c2.aJ KB) _ om _ fun h3 k3=>?_;have KK:=KB.trans k3;have g3:=(KK.old _ (au c2.fr g2)).trans g2;have yX:=(KK.old _ (au c2.fr tF)).trans tF;cases hA:BN S ty with
 |false=>
  simp only[hA,gX]at jk;simp[g3,yX];refine dm ?_;refine gy p false _ _ _ (fun h6 _ k6=>?_) (fun h6 hh _=>by cases hh);have Ej:=KK.trans k6;exact⟨dc,fun _=>by simpa using jk _ (M2.toMove.comp (Move.k c2.fr Ej)) (Ej.fresh c2.fr)⟩
 |true=>
  simp only[hA,fi]at jk;simp[g3,yX];refine dm ?_;refine(lP _ _).mono fun out h4 hq=>?_;obtain⟨rfl,rfl⟩:=hq;simp[g3,yX];refine dm ?_;refine(lP _ _).mono fun out h5 hq=>?_;obtain⟨rfl,rfl⟩:=hq;cases hB:(vT ty==vT e.d.ty)with
  |false=>
   simp only[TX.ty,hB,gX]at jk;simp[g3,yX,hB];refine dm ?_;refine gy p false _ _ _ (fun h6 _ k6=>?_) (fun h6 hh _=>by cases hh);have Ej:=KK.trans k6;exact⟨dc,fun _=>by simpa using jk _ (M2.toMove.comp (Move.k c2.fr Ej)) (Ej.fresh c2.fr)⟩
  |true=>
   simp only[TX.ty,hB,fi]at jk;simp[g3,yX,hB];refine dm ?_;refine(xj _ _ om).mono fun out h4 hq=>?_;obtain⟨rfl,rfl⟩:=hq;simp[g3,yX];refine dm ?_;refine(xj _ _ (show e.ty.length<=9000000000 from om)).mono fun out h5 hq=>?_;obtain⟨rfl,rfl⟩:=hq;simp[g3,yX];refine dm ?_;refine pq (c2.aJ KK) jk (fun _ h=>h) (M2.comp (Mv.k c2.fr KK)) (fun h4 q=>⟨dc,fun _=>by simpa using q⟩) fun h6 zt hQ6 c6 k6 M6=>?_;have Ej:=KK.trans k6;have g6:=(Ej.old _ (au c2.fr g2)).trans g2;have gx6:=(Ej.old _ (au c2.fr tF)).trans tF;simp;refine dm ?_;simp[gx6];refine Pc (t2.move (Move.k c2.fr Ej)) ty _ fun b h7 k7 lb lb2 O9 za=>?_;simp[za];have k8:aS h6 (h7.set (b+1) (.C [.I 15,.str ty,.I (V4 e ty),.I 0,.I 0,.bool false,.N,.S b 1])):=kT;have nX:∀k,h6.next<=k->k∉X:=fun k hk hx=>by have:=c6.xl k hx;omega
   refine hQ6 _ _ (c6.aJ k8) ⟨b+1,rfl,.mk (av:= .S b 1) (qs:=[(me,e)]) (by simp[Hd.cs,vP,V4,TX.ty]) (nX _ om) sp (.inr ⟨b,rfl,nX _ lb,by simp[O9]⟩) rfl (by simpa using(t2.move (Move.k c2.fr Ej)).move (Move.k c6.fr k8))⟩ (M6.comp (Mv.k c6.fr k8))
end
end
section
theorem dn{F A H:Prop}(f:F)(b:H)(a:F->H->A:=by intro hf;(repeat (apply dj; · (repeat (first|exact OZ _ _|exact Ds _ _ _|exact O0 _ _ _ _ _|refine DSc (by decide+kernel) ?_|refine RQ (by decide+kernel) ?_|refine DRc (by decide+kernel) ?_|refine OY (by simp[hf];done) ?_|refine Yg (by simp[hf];done) ?_))));exact fun h=>h):A:=a f b
attribute [local simp] aI
theorem Rs.bind_assoc{α β γ:Type}(r:Rs α)(f:α->Dn->Rs β)(g:β->Dn->Rs γ):(r.bind f).bind g=r.bind fun a d=>(f a d).bind g:=by cases r<;>rfl
section
variable{S:Sc}{B:CB}{X0:List Nat}{h0:ah}{X Y:List Nat}{V:CV}{d:Dn}{h h1:ah}{P:Pl->Prop}
theorem dF.push(c:dF S B X0 h0 Y V d h){st e:TypeId}{uB:Nat}{z:AV}(hu:env.kQ st=some (.slice e))(hs:env.siz e=some 1)(hb:env.byt e=some uB)(MW:uB<=100)(hz:env.zer e=some [z]){α:Type}{av:AV}{qs:List (Nat×α)}(arr:dP [] h av qs)(hq:qs.length<=300)(ha:∀b∈aK av,b∈Y/\Loc B V b)
 {j:Nat} (gj:h.get j=none) (lj:j<h.next) (id:Nat) (t:α):
 ∃H7,aO env (h.set j (.cells true 1 [.P id])) st av (.S j 1)=some (.S h.next (qs.length+1),H7)/\H7.next=h.next+1/\dP [] H7 (.S h.next (qs.length+1)) (qs++[(id,t)])/\dF S B X0 h0 (h.next::Y) V d H7/\Move Y (h.next::Y) h H7/\
  (∀i o,i∉aK av->h.get i=some o->H7.get i=some o)/\(∀i,i<h.next->i≠j->i∉aK av->h.get i=none->H7.get i=none)/\Loc B V h.next:=by
 obtain⟨c1,m1⟩:=c.new gj lj (.cells true 1 [.P id]);have vA:(h.set j (.cells true 1 [.P id])).next=h.next:=rfl
 have ne:∀i o,h.get i=some o->i≠j:=fun i o g e=>by rw[e,gj]at g;cases g
 have og:dP [] (h.set j (.cells true 1 [.P id])) av qs:=by
  rcases arr with e|⟨b,e,hb,g⟩
  ·exact .inl e
  ·exact .inr ⟨b,e,hb,by rw[ah.aM,az (ne _ _ g)];exact g⟩
 obtain⟨H7,h7,nx,g7,k7⟩:=xW (st:=st) (e:=e) hu hs hb MW hz og hq j id t sp c1.fr;rw[vA]at h7 nx g7;have old:∀i o,i∉aK av->h.get i=some o->H7.get i=some o:=fun i o hi g=>by
  rw[k7.old i (by rw[vA];exact au c.fr g) hi,ah.aM,az (ne _ _ g)];exact g
 have hX:h.next∉Y:=fun hx=>by have:=c.xl _ hx;omega
 have m7:Move Y (h.next::Y) (h.set j (.cells true 1 [.P id])) H7:=Move.of c1.fr k7 (fun z hz _=>(ha z hz).1) fun y hy=>by
  rcases aq.1 hy with rfl|hy
  ·exact .inr (ao _)
  ·exact .inl hy
 refine⟨H7,h7,nx,.inr ⟨h.next,sp,sp,g7⟩,c1.step m7 (k7.fresh c1.fr) (fun x hx=>?_) (c.own.sub fun x hx=>ay _ hx) (fun i o g hi=>?_),m1.comp m7,old,fun i hi hj hv g=>?_,Loc.fresh c hX⟩
 ·rcases aq.1 hx with rfl|hx
  ·omega
  ·have:=c.xl x hx;omega
 ·have hv:i∉aK av:=fun hv=>by
   have l:=(ha i hv).2;rcases hi with hi|hi|hi|hi|hi|hi
   ·exact l.r hi
   ·exact l.f hi
   ·exact l.n hi
   ·exact l.v hi
   ·exact l.va hi
   ·exact l.sa hi
  rw[k7.old i (au c1.fr g) hv];exact g
 ·rw[k7.old i (by rw[vA];exact hi) hv,ah.aM,az hj];exact g
theorem Hh{P:Pl->Prop}{T:List UInt8->Prop}:∀{xs:List Ex}{x:Ex},alL P T xs->x∈xs->x.al P T
 |[],_,_,h=>by cases h
 |y::ys,x,⟨h1,h2⟩,h=>by
  rcases aq.1 h with rfl|h
  ·exact h1
  ·exact Hh h2 h
theorem zb:∀{xs:List Ex}{x:Ex},x∈xs->x.nodes<=nz xs
 |[],_,h=>by cases h
 |y::ys,x,h=>by
  simp only[nz];rcases aq.1 h with rfl|h
  ·omega
  ·have:=zb h;omega
theorem dF.sig(hS:Stat S B X0 h0)(c:dF S B X0 h0 X V d h){n:Nat}{s:Sg}(hs:S.fs[n]?=some s):∃a p b v w,B.fo[n]?=some a/\h.get a=some (.C [.str s.nm,.str s.ty,p,b,v,w])/\kI X0 h0 p 1 s.ps.length (s.ps.map .str)/\kI X0 h0 b 1 s.pb.length (s.pb.map .bool):=by
 have cX:=(aU.1 hs).1;obtain⟨a,ha⟩:∃a,B.fo[n]?=some a:=⟨B.fo[n]'(by rw[hS.fl];exact cX),aj _⟩
 by_cases e:n=B.n
 ·subst e;obtain⟨s',f1,f2⟩:=c.f;rw[hs]at f1;injection f1 with f1;subst f1;have:=hS.fn;rw[ha]at this;injection this with this;subst this;exact⟨_,_,_,_,_,ha,f2,hS.fc s hs⟩
 ·obtain⟨ax,p,b,v,w,g,ar⟩:=hS.fo n s a hs ha e;exact⟨a,p,b,v,w,ha,(c.mv.aJ _ _ g ax).1,ar⟩
theorem aaP(hS:Stat S B X0 h0){p:Pl}{f:List UInt8}{xs:List Ex}(IH:∀a∈xs,KE S B X0 h0 a)(hx:(Ex.call p f xs).al P TL)(hn:(Ex.call p f xs).nodes<=10000)(hl:xs.length<=250)(c:dF S B X0 h0 X V d h){idx:Nat}(er:jV X0 h0 idx (.call p f xs))(Q:Out->ah->Prop)(hQ:eL S B X0 h0 X V WT h Q (jY S (.call p f xs) d)):
 aV env 127 [.P B.r,.P idx] h Q:=by
 refine wb fn127 rfl ?_;obtain⟨av0,fQ,gY,qs0,Hg,A9,Ae⟩:=er.obj;simp only[Ex.args]at A9;have g0:=(c.mv.aJ _ _ fQ gY).1;simp[Ex.dx,Ex.kd,Ex.pos,Ex.Fw,Ex.vV,Ex.nI,Ex.vW]at g0 fQ;have ql:qs0.length=xs.length:=by rw[<-A9];simp
 obtain⟨EJ,rfl⟩:∃ab,av0= .slice ab xs.length:=by
  rcases Hg with⟨e,rfl⟩|⟨b,rfl,_⟩
  ·exact⟨none,by rw[<-ql,e];rfl⟩
  ·exact⟨_,by rw[ql]⟩
 obtain⟨ov,c1,_⟩:=c.c;simp only[CB.ob]at c1;have gm:=(c.mv.aJ _ _ hS.um hS.mx.2.2).1;simp only[jY]at hQ;simp[f127];refine Dd ?_;have KB:=(aS.refl h).bump 14;rcases sS f (S.fs.map Sg.nm) 0 0 with⟨f1,f2⟩|⟨n,j,f1,f2⟩
 ·rw[f1]at hQ;simp[c1,g0,gm,f2];refine dl ?_;refine Dd ?_;simp[g0];refine dl ?_;have Qk:=KB.bump 14;refine gy p false _ _ _ (fun h4 _ k4=>?_) (fun h4 hh _=>by cases hh);have k5:=Qk.trans k4;exact⟨dc,fun _=>by simpa using hQ _ (Move.k c.fr k5) (k5.fresh c.fr)⟩
 ·rw[f1]at hQ;obtain⟨n',OF,Pb⟩:=Ab f1;have OF:n=n':=by omega
  subst OF;have cX:n<S.fs.length:=by
   have:=(aU.1 Pb).1;simpa using this
  have Ib:S.fs[n]?=some S.fs[n]:=aj cX;generalize S.fs[n]=sg at Ib;simp only[Ib]at hQ;simp[c1,g0,gm,f2];refine dl ?_;refine Dd ?_;simp[g0];refine dl ?_;have Qk:=KB.bump 14;have XK:∀x∈X,x∈X:=fun _ h=>h;refine pq (c.aJ Qk) hQ XK (Mv.k c.fr Qk) (fun h4 q=>⟨dc,fun _=>by simpa using q⟩) fun h3 hb3 qW c3 k3 M3=>?_;have K3:=Qk.trans k3;have g3:=(K3.old _ (au c.fr g0)).trans g0;obtain⟨ov3,cc3,_⟩:=c3.c;simp only[CB.ob]at cc3;have FB:=(c3.mv.aJ _ _ hS.o hS.ox).1;obtain⟨bf,rwf,ef,_,gf3⟩:=(hS.fa.move c3.mv).resolve_left fun e=>by omega
  rw[ef]at FB;obtain⟨fa,pv,NQ,vv,wv,hfa,gfa,V6,arb⟩:=c3.sig hS Ib;have He:(B.fo.map fun a=>AV.P a)[n]?=some (.P fa):=by rw[bQ,hfa];rfl
  have hlI:(n:Int)<(S.fs.length:Int):=by omega
  have sgo:=hS.ok.fs.2 sg (bg Ib);have psc:∃ab,pv= .slice ab sg.ps.length:=by
   rcases V6 with⟨e,_,rfl⟩|⟨b,yg,rfl,_,_⟩
   ·exact⟨none,by rw[e]⟩
   ·exact⟨some (b,0),rfl⟩
  obtain⟨Yq,rfl⟩:=psc;obtain⟨pbb,pbn,rfl⟩:∃ab n,NQ= .slice ab n:=by
   rcases arb with⟨_,_,rfl⟩|⟨b,yg,rfl,_⟩<;>exact⟨_,_,rfl⟩
  simp;refine dm ?_;simp[cc3,FB,gf3,He,hlI,cX,gfa];have K4:aS h3 ((h3.alloc (.C [.str [],.str [],.Z,.Z])).2.set h3.next (.C [.str sg.nm,.str sg.ty,.slice Yq sg.ps.length,.slice pbb pbn])):=kT;have gs4:((h3.alloc (.C [.str [],.str [],.Z,.Z])).2.set h3.next (.C [.str sg.nm,.str sg.ty,.slice Yq sg.ps.length,.slice pbb pbn])).get h3.next=some (.C [.str sg.nm,.str sg.ty,.slice Yq sg.ps.length,.slice pbb pbn]):=by simp
  have nX:h3.next∉X:=fun hx=>by have:=c3.xl _ hx;omega
  have nN:h.next<=h3.next:=M3.nx;have nY:((h3.alloc (.C [.str [],.str [],.Z,.Z])).2.set h3.next (.C [.str sg.nm,.str sg.ty,.slice Yq sg.ps.length,.slice pbb pbn])).next=h3.next+1:=by simp
  generalize (h3.alloc (.C [.str [],.str [],.Z,.Z])).2.set h3.next (.C [.str sg.nm,.str sg.ty,.slice Yq sg.ps.length,.slice pbb pbn])=h4 at*;have c4:=c3.aJ K4;have M4:=M3.comp (Mv.k c3.fr K4);have g4:=(K4.old _ (au c3.fr g3)).trans g3;generalize h3.next=qs_ at*;refine Dd ?_;simp[gs4,g4];refine dl ?_;have Kx:=(aS.refl h4).bump 15;have eln:(sg.ps.length==xs.length)=((sg.ps.length:Int)==(xs.length:Int)):=by
   rw[oT];simp only[qC];omega
  rw[eln]at qW;refine pq (c4.aJ Kx) qW XK (M4.comp (Mv.k c4.fr Kx)) (fun h4 q=>⟨dc,fun _=>by simpa using q⟩) fun h5 wq Cv c5 k5 M5=>?_;have K5:=Kx.trans k5;have g5:=(K5.old _ (au c4.fr g4)).trans g4;have gs5:=(K5.old _ (au c4.fr gs4)).trans gs4;simp;refine dm ?_;have ni5:idx≠h5.next:=by have:=au c5.fr g5;omega
  simp[gs5,g5,ni5];have K6:aS h5 (h5.alloc (.C [.I 16,.str sg.ty,.I 0,.I n,.I 0,.bool false,.N,.Z])).2:=kT;have go6:(h5.alloc (.C [.I 16,.str sg.ty,.I 0,.I n,.I 0,.bool false,.N,.Z])).2.get h5.next=some (.C [.I 16,.str sg.ty,.I 0,.I n,.I 0,.bool false,.N,.Z]):=by simp
  obtain⟨c6,lo,mY,oX⟩:=c5.more K6 (i:=h5.next) om sp;have M6:=M5.comp (Mv.of mY c5.fr K6);have gs6:=(K6.old _ (au c5.fr gs5)).trans gs5;have qo:qs_≠h5.next:=by have:=au c5.fr gs5;omega
  have oN:h.next<=h5.next:=M5.nx;have qO:h.get h5.next=none:=c.fr _ oN;have own:=c5.own;generalize (h5.alloc (.C [.I 16,.str sg.ty,.I 0,.I n,.I 0,.bool false,.N,.Z])).2=h6 at*;generalize h5.next=o at*;clear mY K6 K5 Kx gs5 g5 c5 M5 gs4 g4 c4 M4 ni5 k5 nY eln FB cc3 gf3 g3 c3 M3 K3 k3;obtain⟨J,hJ⟩:∃J:Nat->St->Prop,J=(fun m x=>∃i d' av qs Y,i<=xs.length/\m=xs.length-i/\x.n=99/\x.ds=[]/\x.bI=false/\dF S B X0 h0 Y V d' x.h/\(∀x∈X,x∈Y)/\o∈Y/\qs_∉Y/\Mv B V X Y h x.h/\x.h.get o=some (.C [.I 16,.str sg.ty,.I 0,.I n,.I 0,.bool false,.N,av])/\dP [] x.h av qs/\qs.length=i/\
   (∀b∈aK av,b∈Y/\Loc B V b/\h.next<=b/\b≠o)/\(∀q∈qs,jK Y V.vs x.h q.1 q.2)/\eL S B X0 h0 X V WT h Q ((JB S (xs.drop i) (sg.ps.drop i) d').bind fun l d=> .ok (.mk ⟨16,sg.ty,0,n,0,false,none⟩ (qs.map Prod.snd++l)) d)/\x.h.get qs_=some (.C [.str sg.nm,.str sg.ty,.slice Yq sg.ps.length,.slice pbb pbn])/\
   x.rg.get 0=some (.P B.r)/\x.rg.get 7=some (.P qs_)/\x.rg.get 8=some (.P o)/\x.rg.get 73=some (.slice EJ xs.length)/\x.rg.get 74=some (.I xs.length)/\x.rg.get 75=some (.I i)):=⟨_,rfl⟩
  refine bW J xs.length ?_ ?_
  ·rw[hJ];exact⟨0,d,.Z,[],o::X,bX _,rfl,rfl,rfl,rfl,c6,fun x hx=>ay _ hx,aY ..,(fun hx=>by rcases aq.1 hx with hx|hx;exact qo hx;exact nX hx),M6,go6,.inl ⟨rfl,rfl⟩,rfl,by simp[aK],sp,Cv,gs6,sp,sp,sp,sp,sp,sp⟩
  intro m x hx;rw[hJ]at hx;obtain⟨rg,n',H,ds,bI⟩:=x;obtain⟨i,d',av,qs,Y,hi,rfl,e1,e2,e3,cH,hs,ho,qY,MH,zc,Ag,qZ,wx,tH,zu,gsH,r0,r7,r8,r73,r74,r75⟩:=hx;dsimp only at e1 e2 e3 cH MH zc Ag tH gsH r0 r7 r8 r73 r74 r75;subst e1 e2 e3;by_cases iH:i<xs.length
  ·have uk:i<qs0.length:=om;have fW:(i:Int)<(xs.length:Int):=om;have wi:IntKind.wrap .i64 ((i:Int)+1)=((i+1:Nat):Int):=(by rw[wr om om];omega);obtain⟨b0,eb0,FC,EK⟩:∃b,EJ=some (b,0)/\b∉X0/\h0.get b=some (.cells true 1 (qs0.map fun p=> .P p.1)):=by
    rcases Hg with⟨e,_⟩|⟨b,e,hb,g⟩
    ·rw[e]at uk;simp at uk
    ·injection e with e _;exact⟨b,e,hb,g⟩
   subst eb0;have Sr:=(cH.mv.aJ _ _ EK FC).1;have gxH:=(cH.mv.aJ _ _ fQ gY).1;have Uq:(qs0.map fun p=>AV.P p.1)[i]?=some (.P qs0[i].1):=(by rw[bQ,aj uk];rfl);have exi:qs0[i].2=xs[i]:=by
    have:(qs0.map Prod.snd)[i]?=xs[i]?:=(by rw[A9]);rw[bQ,aj uk,aj iH]at this;simpa using this
   have era:=Ae _ (bK uk);rw[exi]at era;have rO:sg.ps.length=xs.length:=(by have:=qC.1 wq;omega);have hlp:i<sg.ps.length:=om;have afA:(i:Int)<(sg.ps.length:Int):=om;obtain⟨pb,rwp,ep,_,gpH⟩:=(V6.move cH.mv).resolve_left fun e=>by omega
   have xal:=Hh hx.2 (bK iH);have xnd:=zb (bK iH);simp only[Ex.nodes]at hn;injection ep with ep _;subst ep;have tpi:(sg.ps.map AV.str)[i]?=some (.str sg.ps[i]):=(by rw[bQ,aj hlp];rfl);have ltp:=sgo.2.2 _ (bK hlp);have lo':=lo;have LU:∃ab,av= .slice ab i:=by
    rcases Ag with⟨e,rfl⟩|⟨b,rfl,_⟩
    ·rw[e]at qZ;exact⟨none,by rw[<-qZ];rfl⟩
    ·exact⟨_,by rw[qZ]⟩
   obtain⟨Ic,rfl⟩:=LU;rw[ca iH,ca hlp]at zu;simp only[JB,Rs.bind_assoc,Rs.lI]at zu;simp[-aO,r0,r7,r8,r73,r74,r75,fW,iH,Sr,Uq];refine Dd ?_;simp[-aO,r0,r7,r8,r73,r74,r75,zc,gsH,gpH,hlp,afA,tpi];have KH:=(aS.refl H).bump 18;refine Hi hS (IH _ (bK iH)) xal om (cH.aJ KH) era (by unfold eR at ltp;omega) _ (eL.vU zu hs (MH.comp (Mv.k cH.fr KH)) (fun p h2 q=>⟨dc,fun _=>by simpa using q⟩) fun e d5 v h7 Yr EG c7 w7 M7 m7=>?_);obtain⟨me,rfl,t7⟩:=w7;have m7H:=(Mv.k (B:=B) (V:=V) (X:=Y) cH.fr KH).comp m7;have za:=m7H.lk _ _ lo zc;have gs7:=(m7H.aJ _ _ gsH qY).1;obtain⟨pb2,ahe,ep2,_,gp7⟩:=(V6.move c7.mv).resolve_left fun e=>by omega
   injection ep2 with ep2 _;injection ep2 with ep2;injection ep2 with ep2 _;subst ep2;have afB:H.next+13∉Y:=fun hx=>by have:=cH.xl _ hx;omega
   have n13:=m7.no (H.next+13) sp (Loc.fresh cH afB) (by simpa using cH.fr (H.next+13) om);have tX:=m7.nx;simp only[ah.kz]at tX;have Ci:dP [] h7 (.slice Ic i) qs:=by
    rcases Ag with e|⟨b,e,hb,g⟩
    ·exact .inl e
    ·exact .inr ⟨b,e,hb,m7H.lk _ _ (wx b (by rw[e];simp[aK])).2.1 g⟩
   have t7s:∀q∈qs,jK Y V.vs h7 q.1 q.2:=fun q hq=>(tH q hq).move m7H.toMove;obtain⟨H7,j8,LV,DN,c8,El,sT,no8,lo8⟩:=c7.push (st:=195) (e:=189) rfl ty189.1 ty189.2.1 dc ty189.2.2.2 Ci om (fun b hb=>⟨(wx b hb).1,(wx b hb).2.1⟩) n13 om me e;rw[qZ]at j8 DN;have oav:o∉aK (.slice Ic i):=fun hb=>(wx o hb).2.2.2 rfl;have Ss:=sT _ _ oav za;simp[-aO];refine dn (And.intro za (And.intro gs7 (And.intro gp7 (And.intro zc (And.intro gsH gpH))))) ?_;simp[-aO,n13];rw[j8];simp[-aO,r0,r7,r8,r73,r74,r75,Ss,wi];refine dn (And.intro Ss (And.intro za (And.intro gs7 (And.intro gp7 (And.intro zc (And.intro gsH gpH)))))) ?_;have lt7:=au c7.fr za;have lq7:=au c7.fr gs7;have Pd:∀j,j<h.next->j∉aK (.slice Ic i):=fun j hj hb=>by have:=(wx j hb).2.2.1;omega
   have M8:Mv B V X (h7.next::Y) h H7:=⟨M7.toMove.comp El,fun j o' l g=>sT j o' (Pd j (au c.fr g)) (M7.lk j o' l g),fun j lt l g=>no8 j (by have:=M7.nx;omega) (by have:=MH.nx;omega) (Pd j lt) (M7.no j lt l g),by rw[LV];have:=M7.nx;omega⟩
   have M9:=M8.put (ay _ ho) qO oN (.C [.I 16,.str sg.ty,.I 0,.I n,.I 0,.bool false,.N,.S h7.next (i+1)]);obtain⟨c9,m9⟩:=c8.put (ay _ ho) lo (.C [.I 16,.str sg.ty,.I 0,.I n,.I 0,.bool false,.N,.S h7.next (i+1)]);have gs8:=sT qs_ _ (fun hb=>qY (wx qs_ hb).1) gs7;refine⟨xs.length-(i+1),om,?_⟩;rw[hJ];refine⟨i+1,d5,.S h7.next (i+1),qs++[(me,e)],h7.next::Y,iH,rfl,rfl,rfl,rfl,c9,fun x hx=>ay _ (hs x hx),ay _ ho,(fun hx=>by rcases aq.1 hx with hx|hx;omega;exact qY hx),M9,sp,?_,by simp[qZ],?_,?_,?_,by simp[qo,gs8],by simp[r0],by simp[r7],by simp[r8],by simp[r73],by simp[r74],sp⟩
   ·rcases DN with⟨e,_⟩|⟨b,e,hb,g⟩
    ·simp at e
    ·injection e with e _;injection e with e;injection e with e _;subst e;exact .inr ⟨h7.next,by simp[qZ],hb,by rw[ah.aM,az om];exact g⟩
   ·intro b hb;have hb:b∈[h7.next]:=hb;simp only[aR]at hb;subst hb;exact⟨aY ..,lo8,M7.nx,om⟩
   ·intro q hq;rcases aP.1 hq with hq|hq
    ·exact(t7s q hq).move (El.comp m9)
    ·simp only[aR]at hq;subst hq;exact t7.move (El.comp m9)
   ·simpa only[j7,cY,oz,cj,bZ,cd]using EG
  ·have np:i=xs.length:=om;subst np;rw[eQ]at zu;simp only[JB,Rs.lI,gZ]at zu;simp[r8,r74,r75];refine zu _ _ (cH.less hs own) ⟨o,rfl,.mk (av:=av) (qs:=qs) (by simpa[Hd.cs,vP]using zc) oX sp ?_ rfl fun q hq=>(tH q hq).move (Move.less hs)⟩ (MH.comp (Mv.less hs));rcases Ag with e|⟨b,rfl,_,g⟩
   ·exact .inl e
   ·exact .inr ⟨b,rfl,fun hx=>by have:=c.xl _ hx;have:=(wx b (by simp[aK])).2.2.1;omega,g⟩
end
end
section
attribute [local simp] aI
section
variable{S:Sc}{B:CB}{X0:List Nat}{h0:ah}{X Y:List Nat}{V:CV}{d:Dn}{h h1:ah}{P:Pl->Prop}
theorem DO:∀xs:List Ex,xs.length<=nz xs
 |[]=>by simp
 |x::xs=>by
  have:=DO xs;have:=x.uS;simp only[nz,ai];omega
theorem tY(hS:Stat S B X0 h0):∀(k:Nat)(x:Ex),x.nodes<=k->k<=250->x.al P TL->KE S B X0 h0 x:=by
 intro k;induction k with
 |zero=>intro x hk;rw[x.uS]at hk;omega
 |succ k IH=>
  intro x hk Cj hx X V d h idx Q c er hQ;have sub:∀a∈x.args,KE S B X0 h0 a:=fun a ha=>by
   have h1:=zb ha;have h2:=x.uS;refine IH a om om ?_;cases x<;>simp only[Ex.args,aq,bd,cT]at ha<;>simp only[Ex.al]at hx
   case un=>subst ha;exact hx.2
   case bin=>rcases ha with rfl|rfl;exact hx.2.1;exact hx.2.2
   case cast=>subst ha;exact hx.2.2
   case call=>exact Hh hx.2 ha
   case index=>rcases ha with rfl|rfl;exact hx.2.1;exact hx.2.2
   case mr=>subst ha;exact hx.2
   case arrow=>subst ha;exact hx.2
  have nX:∀k,h.next<=k->k∉X:=fun k hk hx=>by have:=c.xl k hx;omega
  refine wb fn90 rfl ?_;cases x with
  |num p n=>
   obtain⟨av,fQ,gY,_⟩:=er.obj;have g0:=(c.mv.aJ _ _ fQ gY).1;simp[Ex.dx,Ex.kd,Ex.pos,Ex.Fw,Ex.vV,Ex.nI,Ex.vW]at g0;simp only[jY]at hQ;by_cases hn:2147483647<n
   ·rw[aW hn]at hQ;have key:=c.mk0 ⟨1,[108,111,110,103],0,n,0,false,none⟩ sp;simp only[Hd.cs,vP]at key;simp[f90,g0,hn];exact hQ _ _ key.1 ⟨_,rfl,key.2.1⟩ key.2.2
   ·rw[az hn]at hQ;have key:=c.mk0 ⟨1,[105,110,116],0,n,0,false,none⟩ sp;simp only[Hd.cs,vP]at key;simp[f90,g0,hn];exact hQ _ _ key.1 ⟨_,rfl,key.2.1⟩ key.2.2
  |var p s=>
   obtain⟨av,fQ,gY,_⟩:=er.obj;have g0:=(c.mv.aJ _ _ fQ gY).1;simp[Ex.dx,Ex.kd,Ex.pos,Ex.Fw,Ex.vV,Ex.nI,Ex.vW]at g0;simp only[jY]at hQ;simp[f90,g0];refine V1 hS c er _ (eL.tail hQ (fun p h2 q=>by simpa using q) fun v h3 _ m3 q=>?_);simp;exact q
  |un p op a=>
   obtain⟨av,fQ,gY,_⟩:=er.obj;have g0:=(c.mv.aJ _ _ fQ gY).1;simp[Ex.dx,Ex.kd,Ex.pos,Ex.Fw,Ex.vV,Ex.nI,Ex.vW]at g0;simp only[Ex.nodes]at hk;simp[f90,g0];refine VY hS (sub a (by simp[Ex.args])) hx om c er _ (eL.tail hQ (fun p h2 q=>by simpa using q) fun v h3 _ m3 q=>?_);simp;exact q
  |bin p op a b=>
   obtain⟨av,fQ,gY,_⟩:=er.obj;have g0:=(c.mv.aJ _ _ fQ gY).1;simp[Ex.dx,Ex.kd,Ex.pos,Ex.Fw,Ex.vV,Ex.nI,Ex.vW]at g0;simp[f90,g0];refine Sq hS (sub a (by simp[Ex.args])) (sub b (by simp[Ex.args])) hx om c er _ (eL.tail hQ (fun p h2 q=>by simpa using q) fun v h3 _ m3 q=>?_);simp;exact q
  |cast p ty a=>
   obtain⟨av,fQ,gY,_⟩:=er.obj;have g0:=(c.mv.aJ _ _ fQ gY).1;simp[Ex.dx,Ex.kd,Ex.pos,Ex.Fw,Ex.vV,Ex.nI,Ex.vW]at g0;simp only[Ex.nodes]at hk;simp[f90,g0];refine aaO hS (sub a (by simp[Ex.args])) hx om c er _ (eL.tail hQ (fun p h2 q=>by simpa using q) fun v h3 _ m3 q=>?_);simp;exact q
  |call p f xs=>
   obtain⟨av,fQ,gY,_⟩:=er.obj;have g0:=(c.mv.aJ _ _ fQ gY).1;simp[Ex.dx,Ex.kd,Ex.pos,Ex.Fw,Ex.vV,Ex.nI,Ex.vW]at g0;have hl:xs.length<=nz xs:=DO xs;simp only[Ex.nodes]at hk;simp[f90,g0];refine aaP hS (fun a ha=>sub a (by simpa[Ex.args]using ha)) hx (by simp only[Ex.nodes];omega) om c er _ (eL.tail hQ (fun p h2 q=>by simpa using q) fun v h3 _ m3 q=>?_);simp;exact q
  |Cf p=>
   obtain⟨av,fQ,gY,_⟩:=er.obj;have g0:=(c.mv.aJ _ _ fQ gY).1;simp[Ex.dx,Ex.kd,Ex.pos,Ex.Fw,Ex.vV,Ex.nI,Ex.vW]at g0;simp only[jY]at hQ;have key:=c.mk0 ⟨17,[108,111,110,103],0,0,0,false,none⟩ sp;simp only[Hd.cs,vP]at key;simp[f90,g0];exact hQ _ _ key.1 ⟨_,rfl,key.2.1⟩ key.2.2
  |size p ty=>
   obtain⟨av,fQ,gY,_⟩:=er.obj;have g0:=(c.mv.aJ _ _ fQ gY).1;simp[Ex.dx,Ex.kd,Ex.pos,Ex.Fw,Ex.vV,Ex.nI,Ex.vW]at g0 fQ;simp only[jY]at hQ;have lty:ty.length<=70000:=hx.2;simp[f90,g0];refine Dd ?_;simp[g0];have KB:=(aS.refl h).bump 13;refine G9 hS (c.aJ KB) _ om p _ (eL.vU hQ (fun _ h=>h) (Mv.k c.fr KB) (fun p h2 q=>⟨dc,fun _=>by simpa using q⟩) fun n d2 v h2 hr jk c2 w2 M2 m2=>?_);have w2:v= .I n:=w2;subst w2;have tF:=(c2.mv.aJ _ _ fQ gY).1;have n11:=m2.no (h.next+11) sp (Loc.fresh c (nX _ om)) (by simpa using c.fr (h.next+11) om);have yY:=m2.nx;simp only[ah.kz]at yY;simp[n11];refine dm ?_;obtain⟨c3,m3⟩:=c2.new n11 om (.C [.I 1,.str [105,110,116],.I 0,.I n,.I 0,.bool false,.N,.Z]);exact jk _ _ c3 ⟨h.next+11,rfl,.mk (av:= .Z) (qs:=[]) (by simp[Hd.cs,vP]) (nX _ om) sp (.inl ⟨rfl,rfl⟩) rfl sp⟩ (M2.fill c.fr om _)
  |index p a i=>
   obtain⟨x1,x2,x3⟩:=hx;obtain⟨bb,ia,ib,fQ,gY,bx,vz,era,erb⟩:=BI er rfl;have g0:=(c.mv.aJ _ _ fQ gY).1;have gb:=(c.mv.aJ _ _ vz bx).1;simp[Ex.dx,Ex.kd,Ex.pos,Ex.Fw,Ex.vV,Ex.nI,Ex.vW]at g0 fQ gb vz;simp only[Ex.nodes]at hk;simp only[jY]at hQ;simp[f90,g0,gb];refine qG hS (sub a (by simp[Ex.args])) x2 om c era _ (eL.bind hQ (Mv.refl _ _ _ _) (fun p h2 q=>by simpa using q) fun e d2 v h2 hr jk c2 w2 m2=>?_);obtain⟨me,rfl,t2⟩:=w2;have tF:=(c2.mv.aJ _ _ fQ gY).1;have Yo:=(c2.mv.aJ _ _ vz bx).1;have ln:=EH (vy hS x2 c.ok hr).1 om;simp[tF,Yo];refine A6 hS (sub i (by simp[Ex.args])) x3 om c2 erb _ (eL.bind jk (Mv.refl _ _ _ _) (fun p h2 q=>by simpa using q) fun e2 d3 v h3 Ql qW c3 w3 m3=>?_);obtain⟨A8,rfl,t3⟩:=w3;have t23:=t2.move m3.toMove;obtain⟨av3,g3,Uo,_⟩:=t23.obj;simp only[Hd.cs]at g3;have yX:=(c3.mv.aJ _ _ fQ gY).1;simp;refine Dd ?_;simp[yX,g3];have KB:=(aS.refl h3).bump 15;refine uR hS (c3.aJ KB) _ ln p _ (eL.bind qW (Mv.k c3.fr KB) (fun p h2 q=>⟨dc,fun _=>by simpa using q⟩) fun t d4 v h4 hr4 wm c4 w4 m4=>?_);have w4:v= .iX [.str t.1,.I t.2]:=w4;subst w4;have m34:=(Mv.k (B:=B) (V:=V) (X:=X) c3.fr KB).comp m4;have g4:=(m34.aJ _ _ g3 Uo).1;have BQ:=(c4.mv.aJ _ _ fQ gY).1;simp;refine dm ?_;have key:=c4.mk2 (t23.move m34.toMove) (t3.move m34.toMove) ⟨5,t.1,0,0,t.2,false,none⟩ rfl;simp only[Hd.cs,vP]at key
   try simp
   exact wm _ _ key.1 ⟨_,rfl,key.2.1⟩ key.2.2
  |mr p nm a=>
   obtain⟨x1,x2⟩:=hx;obtain⟨bb,ia,fQ,gY,bx,vz,era⟩:=Jj er rfl;have g0:=(c.mv.aJ _ _ fQ gY).1;have gb:=(c.mv.aJ _ _ vz bx).1;simp[Ex.dx,Ex.kd,Ex.pos,Ex.Fw,Ex.vV,Ex.nI,Ex.vW]at g0 fQ gb vz;simp only[Ex.nodes]at hk;simp only[jY]at hQ;simp[f90,g0,gb];refine sub a (by simp[Ex.args]) X V d _ ia _ c era (eL.bind hQ (Mv.refl _ _ _ _) (fun p h2 q=>by simpa using q) fun e d2 v h2 hr jk c2 w2 m2=>?_);obtain⟨me,rfl,t2⟩:=w2;obtain⟨Sk,Qm,yY,_⟩:=t2.obj;have g2:=Qm;simp only[Hd.cs]at g2;have tF:=(c2.mv.aJ _ _ fQ gY).1;unfold VL TX.place at jk;simp;refine jr [0,1,3,4,5,6,2,7] kr (by simp[ew,fh];rfl) kr ?_;simp[tF];have KB:=(aS.refl h2).bump 8;refine(Ac (show(h2.bump 8).get me=some (.C (e.d.cs V.vs Sk))from Qm)).mono fun out h3 hq=>?_;obtain⟨rfl,rfl⟩:=hq;simp;refine dm ?_;refine jI (c2.aJ KB) jk (Mv.k c2.fr KB) (fun h4 q=>⟨dc,fun _=>by simpa using q⟩) fun h4 Qn wm c4 k4=>?_;have k24:=KB.trans k4;have g4:=(k24.old _ (au c2.fr g2)).trans g2;have BQ:=(k24.old _ (au c2.fr tF)).trans tF;have t4:=t2.move (Move.k c2.fr k24);simp;refine dl ?_;refine Dd ?_;simp[g4,BQ];have Kx:=(aS.refl h4).bump 19;refine NZ hS (c4.aJ Kx) _ nm p _ (eL.bind wm (Mv.k c4.fr Kx) (fun p h2 q=>⟨dc,fun _=>by simpa using q⟩) fun t d5 v h5 LS Cv c5 w5 m5=>?_);have w5:v= .iX [.str t.1,.I t.2]:=w5;subst w5;have Ch:=(Mv.k (B:=B) (V:=V) (X:=X) c4.fr Kx).comp m5;have g5:=(Ch.aJ _ _ g4 yY).1;have zr:=(c5.mv.aJ _ _ fQ gY).1;simp;refine dm ?_;have key:=c5.Qj (t4.move Ch.toMove) ⟨6,t.1,0,t.2,0,false,none⟩ rfl;simp only[Hd.cs,vP]at key
   try simp
   exact Cv _ _ key.1 ⟨_,rfl,key.2.1⟩ key.2.2
  |arrow p nm a=>
   obtain⟨x1,x2⟩:=hx;obtain⟨bb,ia,fQ,gY,bx,vz,era⟩:=Jj er rfl;have g0:=(c.mv.aJ _ _ fQ gY).1;have gb:=(c.mv.aJ _ _ vz bx).1;simp[Ex.dx,Ex.kd,Ex.pos,Ex.Fw,Ex.vV,Ex.nI,Ex.vW]at g0 fQ gb vz;simp only[Ex.nodes]at hk;simp only[jY]at hQ;simp[f90,g0,gb];refine qG hS (sub a (by simp[Ex.args])) x2 om c era _ (eL.bind hQ (Mv.refl _ _ _ _) (fun p h2 q=>by simpa using q) fun e d2 v h2 hr jk c2 w2 m2=>?_);obtain⟨me,rfl,t2⟩:=w2;have ln:=EH (vy hS x2 c.ok hr).1 om;obtain⟨Sk,g2,yY,_⟩:=t2.obj;simp only[Hd.cs]at g2;have tF:=(c2.mv.aJ _ _ fQ gY).1;unfold VM at jk;simp;refine Dd ?_;simp[tF,g2];have KB:=(aS.refl h2).bump 15;refine uR hS (c2.aJ KB) _ ln p _ (eL.bind jk (Mv.k c2.fr KB) (fun p h2 q=>⟨dc,fun _=>by simpa using q⟩) fun t d4 v h4 hr4 wm c4 w4 m4=>?_);have w4:v= .iX [.str t.1,.I t.2]:=w4;subst w4;have m24:=(Mv.k (B:=B) (V:=V) (X:=X) c2.fr KB).comp m4;have g4:=(m24.aJ _ _ g2 yY).1;have BQ:=(c4.mv.aJ _ _ fQ gY).1;have t4:=t2.move m24.toMove;simp;refine dl ?_;refine Dd ?_;simp[BQ];have Kx:=(aS.refl h4).bump 16;refine NZ hS (c4.aJ Kx) _ nm p _ (eL.bind wm (Mv.k c4.fr Kx) (fun p h2 q=>⟨dc,fun _=>by simpa using q⟩) fun t5 d5 v h5 LS Cv c5 w5 m5=>?_);have w5:v= .iX [.str t5.1,.I t5.2]:=w5;subst w5;have Ch:=(Mv.k (B:=B) (V:=V) (X:=X) c4.fr Kx).comp m5;have zr:=(c5.mv.aJ _ _ fQ gY).1;simp;refine dm ?_;have key:=c5.Qj (t4.move Ch.toMove) ⟨7,t5.1,0,t5.2,0,false,none⟩ rfl;simp only[Hd.cs,vP]at key
   try simp
   exact Cv _ _ key.1 ⟨_,rfl,key.2.1⟩ key.2.2
end
end
end Go.Proofs.YtgebeldoibkkpaaGreatDoor
