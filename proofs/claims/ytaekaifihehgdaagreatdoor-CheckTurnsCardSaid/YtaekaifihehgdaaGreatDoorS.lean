/- Lemmas for CheckTurns; each states its own conditions. -/
import Derived.Test.YtaekaifihehgdaaGreatDoorR
set_option maxRecDepth 100000
set_option maxHeartbeats 0
set_option linter.unusedSimpArgs false
set_option linter.unusedVariables false
namespace Go.Proofs.YtaekaifihehgdaaGreatDoor
open Go.Am Tryz
mutual
theorem Qh:∀(r:RN){h:ah},bP h->∃h' id,aJ h h'/\eK [] h' id r
 | .mk op nm ty n ks,h,fr=>by
  obtain⟨a,qs,k1,e1,s1⟩:=Nr ks fr;have f1:=k1.fresh fr;have K:aJ a ((a.alloc (.D 1 (qs.map λp=> .P p.1))).2.alloc (.C [.str op,.str nm,.str ty,.I n,.S a.nx qs.length,.str [],.I 0])).2:=kT;exact⟨_,a.nx+1,k1.trans K,.mk (av:= .S a.nx qs.length) (qs:=qs) (by simp[RN.cA,RN.op,RN.nm,RN.ty,RN.n]) sp (.inr ⟨a.nx,rfl,sp,sp⟩) e1 λp b=>(s1 p b).move (Move.k f1 K)⟩
theorem Nr:∀(rs:List RN){h:ah},bP h->∃(h':ah)(qs:List (Nat×RN)),aJ h h'/\qs.map Prod.snd=rs/\∀p,p∈qs->eK [] h' p.1 p.2
 |[],h,fr=>⟨h,[],aJ.refl _,rfl,sp⟩
 |r::rs,h,fr=>by
  obtain⟨e,i,k1,e1⟩:=Qh r fr;obtain⟨b,qs,k2,e2,s2⟩:=Nr rs (k1.fresh fr);exact⟨b,(i,r)::qs,k1.trans k2,by simp[e2],λp a=>by
   rcases ak.1 a with rfl|a
   ·exact e1.move (Move.k (k1.fresh fr) k2)
   ·exact s2 p a⟩
end
theorem Ns:∀(l acc:nj){h:ah}{c1 c2 c3:eu},bP h->Cq [] h acc c1 c2 c3->∃h' a e f,aJ h h'/\Cq [] h' (acc++l) a e f
 |[],acc,h,c1,c2,c3,fr,s=>⟨h,c1,c2,c3,aJ.refl _,U7 s⟩
 |i::l,acc,h,c1,c2,c3,fr,s=>by
  have step:∃g d1 d2 d3,aJ h g/\Cq [] g (acc++[i]) d1 d2 d3:=by
   cases i with
   |struct p nm fs=>
    have K:aJ h (h.alloc (.D 3 (fs.flatMap OK))).2:=kT;exact⟨_,_,_,_,K,.st (fv:= .S h.nx fs.length) (s.move (Move.k fr K)) (.inr ⟨h.nx,rfl,sp,sp⟩)⟩
   |global p ty nm=>exact⟨_,_,_,_,aJ.refl _,.gl s⟩
   |func p ty nm ps b=>
    have K:aJ h (h.alloc (.D 3 (ps.flatMap OM))).2:=kT;obtain⟨j,id,k2,e2⟩:=Qh b.rn (K.fresh fr);refine⟨_,_,_,_,K.trans k2,.fn (pv:= .S h.nx ps.length) (s.move (Move.k fr (K.trans k2))) (.inr ⟨h.nx,rfl,sp,?_⟩) e2⟩;rw[k2.old h.nx sp];simp
  obtain⟨g,d1,d2,d3,k1,s1⟩:=step;obtain⟨j,e1,e2,e3,k2,s2⟩:=Ns l (acc++[i]) (k1.fresh fr) s1;exact⟨j,e1,e2,e3,k1.trans k2,U7 s2⟩
def G0(s:List UInt8)(dp:Nat)(h:ah)(out:Out)(h':ah):Prop:=
 ∃l c g ws cD l1 l2 l4 nd x,out= .ret (.iO [.P g,.agg [.I l,.I c],.I 0])/\aJ h h'/\PL h' cD l1 l2 (.slice x (xZ cD))/\h'.get g=some (.C [l1,l2,.slice x (xZ cD),l4,.I nd,.I dp])/\gZ 1 1 s ws/\∀b,dp<=b->jK b ws cD
theorem G0.at{s:bu}{dp:Nat}{h h0 i:ah}{out:Out}(q:G0 s dp h0 out i)(fr:bP h):∃e h',G0 s dp h e h':=by
 obtain⟨l,c,g,ws,cD,l1,l2,l4,nd,x,rfl,_,_,_,j,hi⟩:=q;obtain⟨b,c1,c2,c3,k1,s1⟩:=Ns cD [] fr .nil;rw[aX]at s1;have a:=s1.at
 obtain⟨H,f⟩:∃H,H=((((b.alloc (.D 2 c1)).2.alloc (.D 3 c2)).2.alloc (.D 5 c3)).2.alloc (.C [.S b.nx (cD.filter oQ).length,.S (b.nx+1) (cD.filter oR).length,.S (b.nx+2) (xZ cD),.Z,.I 0,.I dp])).2:=⟨_,rfl⟩
 have K:aJ b H:=by rw[f];exact kT
 refine⟨_,H,0,0,b.nx+3,ws,cD,_,_,.Z,0,some (b.nx+2,0),rfl,k1.trans K,⟨(cD.filter oQ).length,(cD.filter oR).length,c1,c2,c3,.inr ⟨b.nx,rfl,sp,by simp[f]⟩,a.l1,.inr ⟨b.nx+1,rfl,sp,by simp[f]⟩,a.l2,.inr ⟨b.nx+2,rfl,sp,by simp[f]⟩,s1.move (Move.k (k1.fresh fr) K)⟩,by simp[f],j,hi⟩
section
open Classical in
noncomputable def uZ(E:Env)(k:FuncId)(args:List AV)(h:ah):Option (Out×ah):=
 if a:∃r n,(iR E n).call k args h=some r then some a.choose else none
theorem yW{E:Env}{k:FuncId}{args:eu}{h:ah}{n:Nat}{r:Out×ah}(hr:(iR E n).call k args h=some r):uZ E k args h=some r:=by
 have e:∃r n,(iR E n).call k args h=some r:=⟨r,n,hr⟩
 obtain⟨m,hm⟩:=e.choose_spec;have a:=(dX (fT n m)).1 _ _ _ _ hr;have b:=(dX (fu n m)).1 _ _ _ _ hm;rw[a]at b;unfold uZ;rw[dif_pos e,b]
theorem B7{E a:Env}{k:FuncId}{args:eu}{h:ah}{Q:Out->ah->Prop}(b:a.ed k=some (uZ E k))(hw:ba E k args h Q):ba a k args h Q:=by
 obtain⟨n,out,h',e,f⟩:=hw;exact ba.ed b (yW e) f
def N0(s:List UInt8)(d:Nat):Prop:=∃out h',uZ env 6 [.str s] vF=some (out,h')/\G0 s d vF out h'
theorem N0.uniq{s:bu}{d d':Nat}(a:N0 s d)(b:N0 s d'):d=d':=by
 obtain⟨o,h,e,_,_,_,_,_,_,_,_,_,_,rfl,_,_,g1,_⟩:=a;obtain⟨f,h',e',_,_,_,_,_,_,_,_,_,_,rfl,_,_,g2,_⟩:=b;rw[e]at e';simp only[bj,dz,Out.ret.injEq,AV.iO.injEq,da,AV.ptr.injEq]at e';obtain⟨⟨⟨rfl,_⟩,_⟩,rfl⟩:=e';rw[g1]at g2;simp at g2;omega
def Gd(s:List UInt8)(h:ah)(r:Out×ah):Prop:=(∃d,N0 s d/\G0 s d h r.1 r.2)\/(¬ ∃d,N0 s d)/\∃pv l c bad,r.1= .ret (.iO [pv,.agg [.I l,.I c],.I bad])/\bad≠0/\aJ h r.2
def C0(s:List UInt8)(h:ah):Prop:=s.length<=65536/\(∀ws,gZ 1 1 s ws->ws.length<=250)/\bP h
theorem Qi{s:bu}{h:ah}(e:C0 s h):∃r,Gd s h r:=by
 by_cases a:∃d,N0 s d
 ·obtain⟨d,a⟩:=a;have b:=a;obtain⟨out,h0,_,q⟩:=b;obtain⟨o,h',f⟩:=q.at e.2.2;exact⟨(o,h'),.inl ⟨d,a,f⟩⟩
 ·exact⟨(.ret (.iO [.N,.agg [.I 0,.I 0],.I 4]),h),.inr ⟨a,_,_,_,_,rfl,dc,aJ.refl _⟩⟩
open Classical in
noncomputable def Sb:List AV->ah->Option (Out×ah)
 |[.str s],h=>if a:C0 s h then some (if b:∃r,uZ env 6 [.str s] h=some r/\Gd s h r then b.choose else(Qi a).choose)else none
 |_,_=>none
noncomputable def RZ:FuncId->Option (List AV->ah->Option (Out×ah)):=vE [(4,rB),(12,uZ env 12),(6,Sb),(7,uZ env 7),(8,uZ env 8)]
noncomputable def qD:Env:=vD Tryz.prog ext RZ
@[simp]theorem e1u:qD.nv=env.nv:=rfl
@[simp]theorem e1s:qD.siz=env.siz:=rfl
@[simp]theorem e1b:qD.byt=env.byt:=rfl
@[simp]theorem e1z:qD.zer=env.zer:=rfl
@[simp]theorem e1f:qD.flat=env.flat:=rfl
@[simp]theorem e1a:qD.isAgg=env.isAgg:=rfl
@[simp]theorem e1p:aK qD=aK env:=rfl
theorem TA{s:bu}{h:ah}(g:s.length<=65536)(i:∀ws,gZ 1 1 s ws->ws.length<=250)(fr:bP h):ba qD 6 [.str s] h (λout h'=>Gd s h (out,h')):=by
 have b:C0 s h:=⟨g,i,fr⟩
 obtain⟨r,e,q⟩:∃r,Sb [.str s] h=some r/\Gd s h r:=by
  unfold Sb;simp only[dif_pos b];by_cases a:∃r,uZ env 6 [.str s] h=some r/\Gd s h r
  ·exact⟨_,by rw[dif_pos a],a.choose_spec.2⟩
  ·exact⟨_,by rw[dif_neg a],(Qi b).choose_spec⟩
 exact ba.ed (f:=Sb) (by unfold qD;rfl) e q
theorem Kp{s:bu}{h:ah}(g:¬s.length<=65536):ba env 12 [.str s] h (λout h'=>∃b l c bad,out= .ret (.iO [b,.agg [.I l,.I c],.I bad])/\aJ h h'/\bad≠0):=by
 refine wb fn12 rfl ?_;have e:(0:Nat)<=roomy:=bJ _;have a:(65536:Int)<(s.length:Int):=om
 simp[f12,mf,e,a];exact⟨_,_,_,_,⟨rfl,⟨rfl,rfl⟩,rfl⟩,kT,dc⟩
def U6(s:List UInt8):Prop:=s.length<=65536/\∃ws cD,gZ 1 1 s ws/\ws.length<=250/\jK 20 ws cD/\xZ cD<=8
theorem Nt(s:bu)(h:ah)(fr:bP h):ba qD 5 [.str s] h (λout h'=>∃P,out= .ret (.bool P)/\aJ h h'/\(P=true->U6 s/\∃d,N0 s d/\d<=20)):=by
 refine ba.body (E:=qD) (k:=5) (fn:=f5) (by unfold qD;rfl) kr rfl (et rfl) ?_;simp[f5];by_cases B:s.length<=65536
 ·refine(B7 (E:=env) (by unfold qD;rfl) (IT s _ fr)).mono λout y u=>?_;obtain⟨S,l,c,bad,rfl,t,C⟩:=u;have D:=t.nx;by_cases i:bad=0
  ·subst i;obtain⟨ws,b,F,rfl,ar,U,V⟩:=C rfl;by_cases hw:ws.length<=250
   ·have m:¬(250:Int)<(ws.length:Int):=om;have I:aJ y ((y.alloc (.C [.I 0,.I 0])).2.set y.nx (.C [.I l,.I c])):=kT;simp[m];refine(TA B (λbH h'=>by rw[<-F.uniq h'];exact hw) ((t.trans I).fresh fr)).mono λout W u=>?_;rcases u with⟨dp,Q,l4,c4,g,dR,cD,l1,l2,Z,nd,x,rfl,J,_,v,K,hI⟩|⟨Q,pv,l4,c4,w,rfl,N,J⟩
    ·have A:=(t.trans I).trans J;have O:=A.nx;have e:=F.uniq K;subst e;have o:g≠W.nx:=by
      intro e;rw[e,A.fresh fr _ (ao _)]at v;cases v
     by_cases R:dp<=20
     ·have j:(dp:Int)<=20:=om;by_cases hf:xZ cD<=8
      ·have p:(xZ cD:Int)<=8:=om;simp[o,v,j,p];exact⟨kT,⟨B,ws,cD,F,hw,hI 20 R,hf⟩,dp,Q,R⟩
      ·have p:¬(xZ cD:Int)<=8:=om;simp[o,v,j,p];exact kT
     ·have j:¬(dp:Int)<=20:=om;simp[o,v,j];exact kT
    ·have A:=(t.trans I).trans J;have O:=A.nx;have a:(w==0)=false:=(U7 N);simp[a];exact kT
   ·have m:(250:Int)<(ws.length:Int):=om;simp[m];exact kT
  ·have a:(bad !=0)=true:=(U7 i);simp[a];exact kT
 ·refine(B7 (E:=env) (by unfold qD;rfl) (Kp B)).mono λout y u=>?_;obtain⟨S,l,c,bad,rfl,t,i⟩:=u;have D:=t.nx;have a:(bad !=0)=true:=by simpa using i
  simp[a];exact kT
end
theorem Item.Uz{b:Nat}{ws bH:dh}{i:It}(h:Item b ws bH i):4*i.fc+bH.length<=ws.length:=by
 cases h with
 |struct hw a ho j e=>have:=(Item.struct (b:=b) hw a ho j e).sf.length_le;simp only[It.fc];omega
 |global ht a g m e=>have:=(Item.global (b:=b) ht a g m e).sf.length_le;simp only[It.fc];omega
 |func0 ht a ho e f=>
  have:=ht.jx;have:=f.sf.length_le;simp only[ai,It.fc]at*;omega
 |func ht a ho g o f=>
  have:=ht.jx;have:=f.sf.length_le;have:=o.wt;simp only[ai,It.fc]at*;omega
theorem jK.Uz{b:Nat}{ws:dh}{cD:nj}(h:jK b ws cD):4*xZ cD<=ws.length:=by
 induction h with
 |done=>simp[xZ]
 |item hi hr a=>have:=hi.Uz;simp only[xZ];omega
theorem Dr{s:bu}{ws:dh}{cD:nj}(j:s.length<=65536)(m:gZ 1 1 s ws)(hw:ws.length<=250)(g:jK 20 ws cD){h:ah}(fr:bP h):ba env 8 [.str s] h (λout h'=>∃pv e r,out= .ret (.iO [pv,.I e])/\bP h'/\zC cD r/\(e=0↔Gz r)):=by
 refine wb fn8 rfl ?_;simp[f8];refine OX j m hw g om (by have:=g.Uz;omega) fr λid a t3 k3=>?_;have f3:=k3.fresh fr;have t:aJ a ((a.alloc (.C [.I 0,.I 0])).2.set a.nx (.C [.I 0,.I 0])):=kT;have t4:=t3.yC (Move.k f3 t);have f4:=t.fresh f3;have wt:IL cD<=250:=bh g.wt hw;have al:=g.al (P:=PT) ⟨λ_ _=>trivial,(m.AE j hw).text,hw⟩;simp;generalize (a.alloc (.C [.I 0,.I 0])).2.set a.nx (.C [.I 0,.I 0])=u at*;refine OG t4 al wt f4 (λb p e hr m5 f5=>?_) λb o pr d hr i m5 f5=>?_
 ·simp;have f6:bP ((b.alloc (.C [.I 0,.I 0])).2.set b.nx (.C [.I p.1,.I p.2])):=(show aJ b _ from kT).fresh f5;rcases hr with⟨hr,rfl⟩|⟨pr,d,hr,i,rfl⟩
  ·exact⟨_,_,⟨rfl,rfl⟩,f6,_,hr,by simp[Gz]⟩
  ·exact⟨_,_,⟨rfl,rfl⟩,f6,_,hr,by simp[Gz,i]⟩
 ·simp;exact⟨_,_,⟨rfl,rfl⟩,(show aJ b _ from kT).fresh f5,_,hr,λ_=>⟨_,_,rfl,i⟩,λ_=>rfl⟩
structure QL(h0:ah)(q:Nat)(a1 a2 a3:AV)(L:List (Nat×Nat))(H:ah):Prop where
 get:∃av,H.get q=some (.C [a1,a2,a3,av,.I 0,.I 0])/\cu [q] H av 2 L.length (L.flatMap RY)/\∀z,z∈aT av->h0.nx<=z
 kx:aJ h0 H
 lo:h0.nx<=q
 lt:q<H.nx
theorem Jp:∀L:List (Nat×Nat),(L.flatMap RY).length=L.length*2
 |[]=>rfl
 |x::L=>by have:=Jp L;simp only[dy,aO,ai,RY,aW]at*;omega
theorem QL.push{h0 H:ah}{q:Nat}{a1 a2 a3:AV}{L:List (Nat×Nat)}(l:QL h0 q a1 a2 a3 L H)(f0:bP h0)(p:L.length<=300)(k i:Nat):
 ∃(av:AV)(h j:Nat)(a:ah),H.get q=some (.C [a1,a2,a3,av,.I 0,.I 0])/\aK env (H.alloc (.D 2 [.I k,.I i])).2 32 av (.S H.nx 1)=some (.S h j,a)/\a.get q=some (.C [a1,a2,a3,av,.I 0,.I 0])/\QL h0 q a1 a2 a3 (L++[(k,i)]) (a.set q (.C [a1,a2,a3,.S h j,.I 0,.I 0])):=by
 obtain⟨av,g,arr,z⟩:=l.get;have fr:=l.kx.fresh f0;have K:aJ H (H.alloc (.D 2 [.I k,.I i])).2:=kT;have lt:=l.lt;have lo:=l.lo;obtain⟨a,m,nx,g7,o⟩:=oW (es:=1) (st:=32) (e:=36) rfl ty36.1 ty36.2.1 dc ty36.2.2.2 rfl (arr.move (Move.k fr K)) (Jp L) p H.nx [.I k,.I i] rfl rfl sp (K.fresh fr);have b:(H.alloc (.D 2 [.I k,.I i])).2.nx=H.nx+1:=rfl
 rw[b]at m nx g7;have t:q∉aT av:=λu=>by have:=(arr.ni u).1;simp at this
 have v:a.get q=some (.C [a1,a2,a3,av,.I 0,.I 0]):=by rw[o.old q (by rw[b];omega) t];exact(K.old q lt).trans g
 have kx:aJ h0 a:=aR.aH (((l.kx.trans K).x []).trans' o λy f w=>by have:=z y f;omega);refine⟨av,_,_,a,g,m,v,⟨⟨.S (H.nx+1) (L.length+1),by rw[ah.aM,aY rfl],.inr ⟨H.nx+1,sp,IN,?_⟩,λy f=>?_⟩,aJ.Ly _ kx lo om,lo,by simp only[ah.set];omega⟩⟩
 ·rw[ah.aM,ay om,g7];simp[RY]
 ·simp only[aT,aQ]at f;have:=l.kx.nx;omega
theorem GQ:∀l:nj,(l.filter oQ).length+(l.filter oR).length+(l.filter qh).length=l.length
 |[]=>rfl
 |i::l=>by
  have:=GQ l;cases i<;>simp[iz,oQ,oR,qh]<;>omega
theorem Pj(s:bu)(h:ah)(fr:bP h):ba qD 3 [.str s] h (λout _=>out= .ret (.bool true)):=by
 refine ba.body (E:=qD) (k:=3) (fn:=f3) (by unfold qD;rfl) kr rfl (et rfl) ?_;simp[f3];refine ba.ed (f:=rB) (by unfold qD;rfl) rfl ?_;simp;refine(Nt s _ fr).mono λout h2 D=>?_;obtain⟨fb,rfl,k2,A4⟩:=D;have f2:=k2.fresh fr;cases fb with
 |false=>simp
 |true=>
 obtain⟨⟨hs,ws,_,hx,hw,_,_⟩,d,hN,hd⟩:=A4 rfl;simp;refine(TA hs (λbH h'=>by rw[<-hx.uniq h'];exact hw) f2).mono λout h3 D=>?_;rcases D with⟨dp,C1,l,c,g,dR,cD,l1,l2,l4,nd,ax,rfl,k3,pl,gg,C2,hI⟩|⟨hn,_⟩
 case inr=>exact absurd ⟨d,hN⟩ hn
 obtain rfl:=hx.uniq C2;obtain rfl:=hN.uniq C1;have hG:=hI 20 hd;have f3:=k3.fresh f2;obtain⟨m1,m2,c1,c2,c3,b1,u1,b2,u2,b3,it⟩:=pl;have w:=it.at
 have e1:m1=(cD.filter oQ).length:=by have:=w.l1;omega
 have e2:m2=(cD.filter oR).length:=by have:=w.l2;omega
 have e3:xZ cD=(cD.filter qh).length:=by have:=w.l3;have:=it.len;omega
 rw[e3]at b3 gg;subst e1 e2;obtain⟨Q,rfl⟩:=b1.len;obtain⟨R,rfl⟩:=b2.len;have wt:IL cD<=250:=bh hG.wt hw;have F7:=GQ cD;have FF:=AQ cD;have told:∀x∈wh cD,Told PT x:=λx S=>by
  obtain⟨l,k⟩:=hG.tk hx.gw x (yV S);exact k.told (hG.al (P:=PT) ⟨λ_ _=>trivial,(hx.AE hs hw).text,hw⟩ x (yV S)) (bh (rZ (yV S)) wt)
 have pw:=w.Dz;generalize C3:(cD.filter oQ).length=u at*;generalize C4:(cD.filter oR).length=v at*;generalize C5:(cD.filter qh).length=a at*;have lg:=aw f3 gg;have K4:aJ h3 ((h3.alloc (.C [.I 0,.I 0])).2.set h3.nx (.C [.I l,.I c])):=kT;have g4:=(K4.old g lg).trans gg;have f4:=K4.fresh f3;have C6:=it.move (Move.k f3 K4);have C7:=b1.move (Move.k f3 K4);have C8:=b2.move (Move.k f3 K4);have C9:=b3.move (Move.k f3 K4);simp;generalize ((h3.alloc (.C [.I 0,.I 0])).2.set h3.nx (.C [.I l,.I c]))=C at*;have fj:=f4 (C.nx+13) om;refine Pt (E:=qD) kr kr ?_;simp[g4,fj];refine dl ?_;have A5:=aw f4 g4;obtain⟨F,I⟩:∃A,A=(List.range u).map (λi=>(0,i)):=⟨_,rfl⟩
 obtain⟨N,J⟩:∃A,A=(List.range v).map (λi=>(1,i)):=⟨_,rfl⟩
 obtain⟨U,K⟩:∃A,A=((List.range a).map (λi=>(2,i))).reverse:=⟨_,rfl⟩
 have FO:F.length=u:=by simp[I]
 have FP:N.length=v:=by simp[J]
 have FQ:U.length=a:=by simp[K]
 have tk:∀{A:List (Nat×Nat)}{j:Nat}{q:Nat×Nat},A[j]?=some q->A.take j++[q]=A.take (j+1):=λh=>by rw[cy,h];rfl
 have CL:∀j,j<u->F.take j++[(0,j)]=F.take (j+1):=λj h=>tk (by rw[I,bt,wR h];rfl);have F0:∀j,j<v->N.take j++[(1,j)]=N.take (j+1):=λj h=>tk (by rw[J,bt,wR h];rfl);have F1:∀j,j<a->U.take j++[(2,a-1-j)]=U.take (j+1):=λj h=>tk (by rw[K,List.getElem?_reverse (U7 h),bt,wR IN];simp);have ei:Uy cD=F++(N++U):=by unfold Uy;rw[C3,C4,C5,I,J,K]
 clear I J K tk;refine bz (λm x=>∃j:Nat,j<=u/\m=u-j/\x.n=107/\x.ds=[]/\x.bX=false/\QL C (C.nx+13) (.slice Q u) (.slice R v) (.slice ax a) (F.take j) x.h/\x.rg.get 0=some (.str s)/\x.rg.get 3=some (.P g)/\x.rg.get 6=some (.P (C.nx+13))/\x.rg.get 7=some (.I j)) u ?_ ?_
 ·exact⟨0,bJ _,rfl,rfl,rfl,rfl,⟨⟨.Z,sp,.inl ⟨rfl,rfl,rfl⟩,by simp[aT]⟩,by dsimp only;exact kT,om,sp⟩,sp,sp,sp,sp⟩
 rintro m ⟨rg,n',H,ds,bX⟩ ⟨j,hj,rfl,e1,e2,e3,b,r0,r3,r6,r7⟩
 dsimp only at e1 e2 e3 b r0 r3 r6 r7;subst e1 e2 e3;have gH:=(b.kx.old g A5).trans g4;by_cases t:j<u
 ·have o:(j:Int)<(u:Int):=by omega
  obtain⟨av,b',nn,H7,V,O,y,p⟩:=b.push f4 (by simp only[bR];omega) 0 j;have B:=U8 j
  rw[CL j t]at p;rw[show((0:Nat):Int)=0 from rfl]at O
  skip
  skip
  skip
  simp[-aK,r0,r3,r6,r7,o,gH,V,O,y,B];exact⟨_,om,j+1,om,rfl,p,om⟩
 have o:¬(j:Int)<(u:Int):=om
 have W:F.take j=F:=cn om;rw[W]at b;clear W;simp[r3,r7,o,gH];refine bz (λm x=>∃j:Nat,j<=v/\m=v-j/\x.n=107/\x.ds=[]/\x.bX=false/\QL C (C.nx+13) (.slice Q u) (.slice R v) (.slice ax a) (F++N.take j) x.h/\x.rg.get 0=some (.str s)/\x.rg.get 3=some (.P g)/\x.rg.get 6=some (.P (C.nx+13))/\x.rg.get 8=some (.I j)) v ?_ ?_
 ·exact⟨0,bJ _,rfl,rfl,rfl,rfl,U7 b,by simp[r0],by simp[r3],by simp[r6],sp⟩
 rintro m ⟨rg,n',H,ds,bX⟩ ⟨j,hj,rfl,e1,e2,e3,b,r0,r3,r6,r7⟩
 dsimp only at e1 e2 e3 b r0 r3 r6 r7;subst e1 e2 e3;have gH:=(b.kx.old g A5).trans g4;by_cases t:j<v
 ·have o:(j:Int)<(v:Int):=by omega
  obtain⟨av,b',nn,H7,V,O,y,p⟩:=b.push f4 (by simp only[aO,bR];omega) 1 j;have B:=U8 j
  rw[aU,F0 j t]at p;rw[show((1:Nat):Int)=1 from rfl]at O
  skip
  skip
  skip
  simp[-aK,r0,r3,r6,r7,o,gH,V,O,y,B];exact⟨_,om,j+1,om,rfl,p,om⟩
 have o:¬(j:Int)<(v:Int):=om
 have W:N.take j=N:=cn om;rw[W]at b;clear W;have F2:IntKind.wrap .i64 ((a:Int)-1)=(a:Int)-1:=wr om om;simp[r3,r7,o,gH,F2];refine bz (λm x=>∃j:Nat,j<=a/\m=a-j/\x.n=107/\x.ds=[]/\x.bX=false/\QL C (C.nx+13) (.slice Q u) (.slice R v) (.slice ax a) ((F++N)++U.take j) x.h/\x.rg.get 0=some (.str s)/\x.rg.get 3=some (.P g)/\x.rg.get 6=some (.P (C.nx+13))/\x.rg.get 9=some (.I ((a:Int)-1-j))) a ?_ ?_
 ·exact⟨0,bJ _,rfl,rfl,rfl,rfl,U7 b,by simp[r0],by simp[r3],by simp[r6],sp⟩
 clear r0 r3 r6 r7 o t hj gH b
 rintro m ⟨rg,n',H,ds,bX⟩ ⟨j,hj,rfl,e1,e2,e3,b,r0,r3,r6,r9⟩
 dsimp only at e1 e2 e3 b r0 r3 r6 r9;subst e1 e2 e3;by_cases t:j<a
 ·have h0:(0:Int)<=(a:Int)-1-j:=by omega
  obtain⟨av,b',nn,H7,V,O,y,p⟩:=b.push f4 (by simp only[aO,bR];omega) 2 (a-1-j);have B:IntKind.wrap .i64 ((a:Int)-1-j-1)=(a:Int)-1-((j+1:Nat):Int):=wq
  have hc:((a-1-j:Nat):Int)=(a:Int)-1-j:=by omega
  rw[aU,F1 j t]at p;rw[show((2:Nat):Int)=2 from rfl,hc]at O;generalize (a:Int)-1-j=z at*;simp[-aK,r0,r3,r6,r9,h0,V,O,y,B];exact⟨_,om,j+1,om,rfl,by rw[<-List.append_assoc];exact p,om⟩
 have h0:¬(0:Int)<=(a:Int)-1-j:=om
 have W:U.take j=U:=cn om;rw[W,aU,<-ei]at b;generalize (a:Int)-1-j=z at*;obtain⟨av,V,arr,_⟩:=b.get;have KH:=b.kx;have fH:=KH.fresh f4;simp[r6,r9,h0];refine(B7 (E:=env) (by unfold qD;rfl) (Tz (P:=PT) fH V (C7.move (Move.k f4 KH)) u1 (C8.move (Move.k f4 KH)) u2 (C9.move (Move.k f4 KH)) (by have:=w.l3;omega) (arr.move (Move.less sp)) (C6.move (Move.k f4 KH)).at.Dz told (by rw[<-pw.1,ei];simp only[aO];omega) (aJ.refl H))).m1 λh6 k6=>?_;have f6:=k6.fresh fH;simp;refine(Nt _ _ f6).mono λout h7 D=>?_;obtain⟨fb,rfl,k7,Z⟩:=D;have f7:=k7.fresh f6;cases fb with
 |false=>simp
 |true=>
 obtain⟨⟨F3,dR,F6,hy,F4,Au,_⟩,_⟩:=Z rfl;simp[r0];refine(B7 (E:=env) (by unfold qD;rfl) (Dr hs hx hw hG f7)).mono λout h8 D=>?_;obtain⟨pv,e,r,rfl,f8,pr,he⟩:=D;simp;refine(B7 (E:=env) (by unfold qD;rfl) (Dr F3 hy F4 Au f8)).mono λout h9 D=>?_;obtain⟨FW,e2,rr,rfl,f9,pr2,F5⟩:=D;obtain⟨tu,st⟩:=HT hx hG hy Au;have key:=Nh tu st pr pr2;simp;rw[<-he,<-F5]at key;rw[Bool.eq_iff_iff];simpa using key
end Go.Proofs.YtaekaifihehgdaaGreatDoor
