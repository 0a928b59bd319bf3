/- Lemmas for CheckTurns; each states its own conditions. -/
import Derived.Test.YtaekaifihehgdaaGreatDoorM
set_option maxRecDepth 100000
set_option maxHeartbeats 0
set_option linter.unusedSectionVars false
set_option linter.unusedSimpArgs false
set_option linter.unusedVariables false
namespace Go.Proofs.YtaekaifihehgdaaGreatDoor
open Go.Am Tryz
section
structure yz(B:CB)(V V':CV)(X Y:List Nat)(h h':ah):Prop extends Move X Y h h' where
 lk:∀i o,i<h.nx->Loc B V i->h.get i=some o->h'.get i=some o
 no:∀i,i<h.nx->Loc B V i->h.get i=none->h'.get i=none
 nx:h.nx<=h'.nx
 gr:∀i,i<h.nx->Loc B V i->Loc B V' i
theorem Mv.s{B:CB}{V:CV}{X Y:cB}{h h':ah}(m:Mv B V X Y h h'):yz B V V X Y h h':=⟨m.toMove,λi o _ l g=>m.lk i o l g,m.no,m.nx,λ_ _ l=>l⟩
theorem yz.comp{B:CB}{V V' b:CV}{X Y Z:cB}{h h' e:ah}(m:yz B V V' X Y h h')(a:yz B V' b Y Z h' e):yz B V b X Z h e:=
 ⟨m.toMove.comp a.toMove,λi o lt l g=>a.lk i o (aq lt m.nx) (m.gr i lt l) (m.lk i o lt l g),λi lt l g=>a.no i (aq lt m.nx) (m.gr i lt l) (m.no i lt l g),bh m.nx a.nx,λi lt l=>a.gr i (aq lt m.nx) (m.gr i lt l)⟩
def gY{α:Type}(S:Sc)(B:CB)(X0:List Nat)(h0:ah)(X:List Nat)(V:CV)(W:α->List Nat->List Nat->ah->AV->Prop)(h:ah)(Q:Out->ah->Prop):Rs α->Prop
 | .ok a d=>∀V' b v h',(∃ws,V'.vs=V.vs++ws)->(∀x∈X,x∈b)->cJ S B X0 h0 b V' d h'->W a b V'.vs h' v->yz B V V' X b h h'->Q (.ret v) h'
 | .err p=>∀h',Move X X h h'->bP h'->Q (.jz (xX p)) h'
section
variable{S:Sc}{B:CB}{X0:cB}{h0:ah}{X Y:cB}{V V':CV}{d:Dn}{h h1:ah}{P:Pl->Prop}
theorem gY.bind{α β:Type}{g:α->cB->cB->ah->AV->Prop}{i:β->cB->cB->ah->AV->Prop}{Q Q':Out->ah->Prop}{r:Rs α}{f:α->Dn->Rs β}(j:gY S B X0 h0 X V i h Q (r.bind f))(o:∀x∈X,x∈Y)(m:yz B V V' X Y h h1)
 (t:∀p b,Q (.jz (xX p)) b->Q' (.jz (xX p)) b)
 (u:∀a d v b,r= .ok a d->gY S B X0 h0 X V i h Q (f a d)->cJ S B X0 h0 Y V' d b->g a Y V'.vs b v->yz B V V' X Y h b->Mv B V' Y Y h1 b->Q' (.ret v) b):dS S B X0 h0 Y V' g h1 Q' r:=by
 cases r with
 |ok a d=>exact λv h' c w e=>u a d v h' rfl j c w (m.comp e.s) e
 |err p=>exact λh' e f=>t p h' (j h' ((m.toMove.comp e).comp (Move.less o)) f)
theorem gY.binds{α β:Type}{j:α->cB->cB->ah->AV->Prop}{o:β->cB->cB->ah->AV->Prop}{Q Q':Out->ah->Prop}{r:Rs α}{f:α->Dn->Rs β}(t:gY S B X0 h0 X V o h Q (r.bind f))(u:∀x∈X,x∈Y)(m:yz B V V' X Y h h1)
 (y:∀p b,Q (.jz (xX p)) b->Q' (.jz (xX p)) b)
 (A:∀a d v e g b,r= .ok a d->gY S B X0 h0 X V o h Q (f a d)->(∃ws,e.vs=V'.vs++ws)->(∀x∈Y,x∈g)->cJ S B X0 h0 g e d b->j a g e.vs b v->yz B V e X g h b->yz B V' e Y g h1 b->Q' (.ret v) b):gY S B X0 h0 Y V' j h1 Q' r:=by
 cases r with
 |ok a d=>exact λe g v h' C D c w i=>A a d v e g h' rfl t C D c w (m.comp i) i
 |err p=>exact λh' i f=>y p h' (t h' ((m.toMove.comp i).comp (Move.less u)) f)
theorem wH{α:Type}{W:α->cB->cB->ah->AV->Prop}{Q Q':Out->ah->Prop}{r:Rs α}{b:Bool}{p:Pl}(c:cJ S B X0 h0 Y V' d h1)(f:gY S B X0 h0 X V W h Q (Rs.fV b p r))(g:∀x∈X,x∈Y)(m:yz B V V' X Y h h1)
 (i:∀a,Q (.jz (xX p)) a->Q' (.jz (xX p)) a) (j:∀a,b=true->gY S B X0 h0 X V W h Q r->cJ S B X0 h0 Y V' d a->aJ h1 a->yz B V V' X Y h a->Q' (.ret (.iO [])) a):ba env 53 [.P B.r,.bool b,.agg [.I p.1,.I p.2]] h1 Q':=by
 refine fI p b _ h1 Q' (λa e k=>?_) (λa e k=>?_)
 ·subst e;exact i a (f a ((m.toMove.comp (Move.k c.fr k)).comp (Move.less g)) (k.fresh c.fr))
 ·subst e;exact j a rfl f (c.aH k) k (m.comp (Mv.k c.fr k).s)
theorem cJ.T8(c:cJ S B X0 h0 X V d h)(nm:bu):cJ S B X0 h0 X V {d with oT:=d.oT++[nm]} (h.set B.GS (.map (iH (d.oT++[nm]))))/\Mv B V X X h (h.set B.GS (.map (iH (d.oT++[nm])))):=by
 obtain⟨mv,fr,xl,⟨ov,c1,c2⟩,⟨s,f1,f2⟩,gn,vl,vs,nd,va,sa,ne,own,ok⟩:=c;have m:Mv B V X X h (h.set B.GS (.map (iH (d.oT++[nm])))):=Mv.set own.n (λj l=>l.n) _;have ms:∀i o,h.get i=some o->(∀es,o≠ .map es)->(h.set B.GS (.map (iH (d.oT++[nm])))).get i=some o:=λi o g hi=>by
  rw[ah.aM,ay]
  ·exact g
  ·rintro rfl
   rw[gn]at g;injection g with g;exact hi _ g.symm
 refine⟨⟨mv.comp m.toMove,λj f=>?_,λx p=>xl x p,⟨ov,ms _ _ c1 sp,c2.move m.toMove⟩,⟨s,f1,ms _ _ f2 sp⟩,sp,vl,λk a v h1 t=>ms _ _ (vs k a v h1 t) sp,nd,?_,?_,ne,own,⟨ok.vs,ok.seen,ok.sl,ok.loops,ok.bytes⟩⟩,m⟩
 ·have:=xl _ own.n;rw[ah.aM,ay (by simp at f;omega)];exact fr j f
 ·rcases va with va|⟨b,e,u,g⟩
  ·exact .inl va
  ·exact .inr ⟨b,e,u,ms _ _ g sp⟩
 ·exact kI.set (d:=d) sa gn sp
end
end
section
section
variable{S:Sc}{B:CB}{X0:cB}{h0:ah}{X Y:cB}{V V':CV}{d:Dn}{h h1:ah}{P:Pl->Prop}
theorem SO{vs ws:cB}{k:Nat}(h:k<vs.length):vP (vs++ws) (some k)=vP vs (some k):=D2 λ_ e=>by injection e with e;omega
theorem kI.grow(sa:kI h V d)(ok:d.Ok)(vl:V.vs.length=d.vs.length){V':CV}{d':Dn}(ws:cB)(i:V'.vs=V.vs++ws)(f:V'.sa=V.sa)(a:d'.seen=d.seen):kI h V' d':=by
 rcases sa with sa|⟨b,L,e,g,t,l⟩
 ·exact .inl ⟨f.trans sa.1,a.trans sa.2⟩
 ·refine .inr ⟨b,L,by rw[f,a];exact e,g,?_,by rw[a];exact l⟩;rw[a,t];refine List.map_congr_left λk j=>?_;rw[i,SO (by have:=ok.seen k j;omega)]
theorem LP{ov:AV}:∀{v:Vr},B.ob V d ov≠v.cs:=by
 intro v e;simp[CB.ob,Vr.cs]at e
theorem cJ.addVars(c:cJ S B X0 h0 X V d h){a:Nat}{v:Vr}(ga:h.get a=some (.C v.cs))(ax:a∈X)(la:Loc B V a)(vo:v.ty.length<=dW/\0<=v.sz/\v.sz<=65536)(hl:V.vs.length<=300){j:Nat}(gj:h.get j=none)(lj:j<h.nx){s:Sg}(hs:S.fs[B.n]?=some s):
 ∃p,aK env (h.set j (.D 1 [.P a])) 79 V.va (.S j 1)=some (.S h.nx (V.vs.length+1),p)/\p.nx=h.nx+1/\p.get B.f=some (.C [.str s.nm,.str s.ty,B.Kq,B.Iz,V.va,.N])/\
  cJ S B X0 h0 (h.nx::X) ⟨V.vs++[a],.S h.nx (V.vs.length+1),V.sa⟩ {d with vs:=d.vs++[v]} (p.set B.f (.C [.str s.nm,.str s.ty,B.Kq,B.Iz,.S h.nx (V.vs.length+1),.N]))/\
  Move X (h.nx::X) h (p.set B.f (.C [.str s.nm,.str s.ty,B.Kq,B.Iz,.S h.nx (V.vs.length+1),.N]))/\
  (∀i o,Loc B V i->h.get i=some o->(p.set B.f (.C [.str s.nm,.str s.ty,B.Kq,B.Iz,.S h.nx (V.vs.length+1),.N])).get i=some o)/\
  (∀i,i<h.nx->i≠j->Loc B V i->h.get i=none->(p.set B.f (.C [.str s.nm,.str s.ty,B.Kq,B.Iz,.S h.nx (V.vs.length+1),.N])).get i=none):=by
 have ne:∀i o,h.get i=some o->i≠j:=λi o g e=>by rw[e,gj]at g;cases g
 have C:bP (h.set j (.D 1 [.P a])):=λi hi=>by
  rw[ah.aM,ay (by simp at hi;omega)];exact c.fr i hi
 have K:cQ [] (h.set j (.D 1 [.P a])) V.va (V.vs.map λa=>(a,())):=by
  rcases c.va with e|⟨b,e,m,g⟩
  ·exact .inl e
  ·exact .inr ⟨b,e,m,by rw[ah.aM,ay (ne _ _ g)];exact g⟩
 obtain⟨p,N,nx,g2,k2⟩:=wG (st:=79) (e:=168) rfl ty168.1 ty168.2.1 dc ty168.2.2.2 K (U7 hl) j a () sp C;have D:(h.set j (.D 1 [.P a])).nx=h.nx:=rfl
 rw[D]at N nx g2;simp only[List.length_map]at N;have alt:=aw c.fr ga;have own:=c.own;have old:∀i o,i∉aT V.va->h.get i=some o->p.get i=some o:=λi o hi g=>by
  rw[k2.old i (by rw[D];exact aw c.fr g) hi,ah.aM,ay (ne _ _ g)];exact g
 obtain⟨mv,fr,xl,⟨ov,c1,c2⟩,⟨s',f1,f2⟩,gn,vl,vs,nd,va,sa,O,_,ok⟩:=c;rw[hs]at f1;injection f1 with f1;subst f1;have u:∀i o,h.get i=some o->(∀L,o≠ .D 1 L)->i∉aT V.va:=λi o g ho hi=>by
  rcases va with⟨e,e2⟩|⟨b,e,_,gb⟩
  ·rw[e2]at hi;simp[aT]at hi
  ·rw[e]at hi;have hi:i∈[b]:=hi;simp only[aQ]at hi;subst hi;rw[gb]at g;injection g with g;exact ho _ g.symm
 have nf:∀i o,h.get i=some o->o≠ .C [.str s.nm,.str s.ty,B.Kq,B.Iz,V.va,.N]->i≠B.f:=λi o g ho e=>by
  rw[e,f2]at g;injection g with g;exact ho g.symm
 have key:∀i o,h.get i=some o->i∉aT V.va->i≠B.f->(p.set B.f (.C [.str s.nm,.str s.ty,B.Kq,B.Iz,.S h.nx (V.vs.length+1),.N])).get i=some o:=λi o g h1 N=>by
  rw[ah.aM,ay N];exact old i o h1 g
 have Q:=old B.f _ (u _ _ f2 sp) f2;have nX:h.nx∉X:=λF=>by have:=xl _ F;omega
 have m6:Move X X h (h.set j (.D 1 [.P a])):=Move.new _ gj;have m7:Move X (h.nx::X) (h.set j (.D 1 [.P a])) p:=Move.of C k2 (λz hz _=>own.va z hz) λy J=>by
  rcases ak.1 J with rfl|J
  ·exact .inr (ao _)
  ·exact .inl J
 have R:Move X (h.nx::X) h (p.set B.f (.C [.str s.nm,.str s.ty,B.Kq,B.Iz,.S h.nx (V.vs.length+1),.N])):=(m6.comp m7).comp (Move.on _ (au _ own.f));have U:B.r≠B.f:=nf _ _ c1 (by simp[CB.ob]);have W:B.GS≠B.f:=nf _ _ gn sp;have Z:a≠B.f:=la.f;have A1:h.nx≠B.f:=by have:=aw fr f2;omega
 refine⟨p,N,nx,Q,⟨mv.comp R,λi hi=>?_,λx F=>?_,⟨ov,?_,c2.move R⟩,⟨s,hs,sp⟩,key _ _ gn (u _ _ gn sp) W,by simp[vl],λk b w A I=>?_,?_,?_,?_,?_,⟨au _ own.r,au _ own.f,au _ own.n,λb m=>?_,λb m=>?_,λb m=>au _ (own.sa b m)⟩,?_⟩,R,λi o l g=>key i o g l.va l.f,λi hi hj l g=>?_⟩
 ·have:=aw fr f2;rw[ah.aM,ay (by simp[nx]at hi;omega)];exact k2.fresh C i (by simp at hi;omega)
 ·rcases ak.1 F with rfl|F
  ·simp[nx]
  ·have:=xl _ F;simp[nx];omega
 ·exact key _ _ c1 (u _ _ c1 sp) U
 ·have A:(V.vs++[a])[k]?=some b:=A;have I:(d.vs++[v])[k]?=some w:=I;by_cases hk:k<V.vs.length
  ·rw[cS hk]at A;rw[cS om]at I;have g:=vs k b w A I;exact key _ _ g (u _ _ g sp) (nf _ _ g (by simp[Vr.cs]))
  ·have A2:k=V.vs.length:=by
    have:=(aV.1 A).1;simp at this;omega
   subst A2;rw[du (ao _)]at A;rw[du om]at I;simp[vl]at A I;subst A I;exact key _ _ ga (u _ _ ga sp) Z
 ·show(V.vs++[a]).Nodup;rw[List.nodup_append];exact⟨nd,sp,λx F y J=>by simp at J;subst J;exact λe=>la.v (e▸F)⟩
 ·refine .inr ⟨h.nx,sp,sp,?_⟩;rw[ah.aM,ay A1,g2];simp
 ·have A3:kI (p.set B.f (.C [.str s.nm,.str s.ty,B.Kq,B.Iz,.S h.nx (V.vs.length+1),.N])) V d:=by
   rcases sa with sa|⟨b,L,e,g,t,l⟩
   ·exact .inl sa
   ·exact .inr ⟨b,L,e,key _ _ g (λm=>O b m (by rw[e];simp[aT])) (nf _ _ g sp),t,l⟩
  exact A3.grow ok vl [a] rfl rfl rfl
 ·intro b m;have m:b∈[h.nx]:=m;simp only[aQ]at m;subst m;exact λm=>nX (own.sa _ m)
 ·rcases aP.1 m with m|m
  ·exact au _ (own.v b m)
  ·simp only[aQ]at m;subst m;exact au _ ax
 ·have m:b∈[h.nx]:=m;simp only[aQ]at m;subst m;exact bc ..
 ·refine⟨λw hw=>?_,λk hk=>by have:=ok.seen k hk;simp;omega,by have:=ok.sl;simp;omega,ok.loops,?_⟩
  ·rcases aP.1 hw with hw|hw
   ·exact ok.vs w hw
   ·simp only[aQ]at hw;subst hw;exact vo
  ·have:=ok.bytes;simp;omega
 ·rw[ah.aM,ay l.f,k2.old i (by rw[D];exact hi) l.va,ah.aM,ay hj];exact g
end
end
section
section
variable{S:Sc}{B:CB}{X0:cB}{h0:ah}{X Y:cB}{V V':CV}{d:Dn}{h h1:ah}{P:Pl->Prop}
theorem cJ.BK(c:cJ S B X0 h0 X V d h){m k:Nat}{L':eu}{w:ah}{ov:AV}(co:h.get B.r=some (.C (B.ob V d ov)))(U:jI X h ov d.over)(nx:h.nx<=w.nx)(K:bP w)(old:∀i,i<h.nx->i∉aT V.sa->w.get i=h.get i)(p:m∈aT V.sa\/h.nx<=m)(W:m<w.nx)
 (g:w.get m=some (.D 1 L')) (tk:L'.take (d.seen.length+1)=(d.seen++[k]).map (λk=> .ptr (vP V.vs (some k)))) (l1:d.seen.length+1<=L'.length) (l2:L'.length<=1000) (Z:k<d.vs.length) (hd:d.seen.length<d.vs.length):
 cJ S B X0 h0 (m::X) ⟨V.vs,V.va,.S m (d.seen.length+1)⟩ {d with seen:=d.seen++[k]} (w.set B.r (.C (B.ob ⟨V.vs,V.va,.S m (d.seen.length+1)⟩ {d with seen:=d.seen++[k]} ov)))/\
  yz B V ⟨V.vs,V.va,.S m (d.seen.length+1)⟩ X (m::X) h (w.set B.r (.C (B.ob ⟨V.vs,V.va,.S m (d.seen.length+1)⟩ {d with seen:=d.seen++[k]} ov))):=by
 obtain⟨mv,fr,xl,_,⟨s,f1,f2⟩,gn,vl,vs,nd,va,sa,F,own,ok⟩:=c;have A1:=aw fr co;have A:∀i o,h.get i=some o->(∀L,o≠ .D 1 L)->i∉aT V.sa:=λi o g ho hi=>by
  rcases sa with⟨e,_⟩|⟨b,L,e,gb,_⟩
  ·rw[e]at hi;simp[aT]at hi
  ·rw[e]at hi;have hi:i∈[b]:=hi;simp only[aQ]at hi;subst hi;rw[gb]at g;injection g with g;exact ho _ g.symm
 have key:∀i o,h.get i=some o->i∉aT V.sa->i≠B.r->(w.set B.r (.C (B.ob ⟨V.vs,V.va,.S m (d.seen.length+1)⟩ {d with seen:=d.seen++[k]} ov))).get i=some o:=λi o g h1 h2=>by
  rw[ah.aM,ay h2,old i (aw fr g) h1];exact g
 have nr:∀i o,h.get i=some o->(∀I,o≠ .C (B.ob V d I))->i≠B.r:=λi o g ho e=>by
  rw[e,co]at g;injection g with g;exact ho _ g.symm
 have N:m≠B.r:=by
  rcases p with p|p
  ·exact λe=>A _ _ co sp (e▸p)
  ·omega
 have O:∀y∈m::X,y∈X\/h.nx<=y:=λy u=>by
  rcases ak.1 u with rfl|u
  ·rcases p with p|p
   ·exact .inl (own.sa _ p)
   ·exact .inr p
  ·exact .inl u
 have Q:Move X (m::X) h (w.set B.r (.C (B.ob ⟨V.vs,V.va,.S m (d.seen.length+1)⟩ {d with seen:=d.seen++[k]} ov))):=⟨λi o g hi=>⟨key i o g (λhs=>hi (own.sa i hs)) (λe=>hi (e▸own.r)),λu=>by
  rcases O i u with J|J
  ·exact hi J
  ·have:=aw fr g;omega⟩⟩
 refine⟨⟨mv.comp Q,λi hi=>?_,λx t=>?_,⟨ov,sp,U.move Q⟩,⟨s,f1,key _ _ f2 (A _ _ f2 sp) (nr _ _ f2 (by simp[CB.ob]))⟩,key _ _ gn (A _ _ gn sp) (nr _ _ gn sp),vl,λj a v J h4=>?_,nd,?_,?_,?_,⟨au _ own.r,au _ own.f,au _ own.n,λa C=>au _ (own.v a C),λa C=>au _ (own.va a C),λa C=>?_⟩,?_⟩,⟨Q,λi o lt l g=>key i o g l.sa l.r,λi lt l g=>?_,nx,λi lt l=>⟨l.r,l.f,l.n,l.v,l.va,λt=>?_⟩⟩⟩
 ·rw[ah.aM,ay (by simp at hi;omega)];exact K i hi
 ·rcases ak.1 t with rfl|t
  ·exact W
  ·exact aq (xl x t) nx
 ·have g:=vs j a v J h4;exact key _ _ g (A _ _ g sp) (nr _ _ g λI e=>by injection e with _ _ e;exact LP e.symm)
 ·rcases va with e|⟨b,e,R,g2⟩
  ·exact .inl e
  ·exact .inr ⟨b,e,R,key _ _ g2 (F b (by rw[e];simp[aT])) (nr _ _ g2 sp)⟩
 ·refine .inr ⟨m,L',sp,?_,by show L'.take (d.seen++[k]).length=_;rw[aO];exact tk,U7 l1,l2⟩;rw[ah.aM,ay N];exact g
 ·intro x t u;have u:x∈[m]:=u;simp only[aQ]at u;subst u;rcases p with p|p
  ·exact F _ t p
  ·have:=xl _ (own.va _ t);omega
 ·have C:a∈[m]:=C;simp only[aQ]at C;subst C;exact bc ..
 ·refine⟨ok.vs,λj D=>?_,IN,ok.loops,ok.bytes⟩;rcases aP.1 D with D|D
  ·exact ok.seen j D
  ·simp only[aQ]at D;subst D;exact Z
 ·rw[ah.aM,ay l.r,old i lt l.sa];exact g
 ·have t:i∈[m]:=t;simp only[aQ]at t;subst t;rcases p with p|p
  ·exact l.sa p
  ·omega
theorem cJ.Oi(c:cJ S B X0 h0 X V d h){k a:Nat}(J:V.vs[k]?=some a)(v:k<d.vs.length)(w:d.seen.length<d.vs.length)(O:d.seen.length<=900){ov:AV}(co:h.get B.r=some (.C (B.ob V d ov)))(y:jI X h ov d.over):
 ∃j t,aK env (h.alloc (.D 1 [.P a])).2 79 V.sa (.S h.nx 1)=some (.S j (d.seen.length+1),t)/\t.get B.r=some (.C (B.ob V d ov))/\
  cJ S B X0 h0 (j::X) ⟨V.vs,V.va,.S j (d.seen.length+1)⟩ {d with seen:=d.seen++[k]} (t.set B.r (.C (B.ob ⟨V.vs,V.va,.S j (d.seen.length+1)⟩ {d with seen:=d.seen++[k]} ov)))/\
  yz B V ⟨V.vs,V.va,.S j (d.seen.length+1)⟩ X (j::X) h (t.set B.r (.C (B.ob ⟨V.vs,V.va,.S j (d.seen.length+1)⟩ {d with seen:=d.seen++[k]} ov))):=by
 have fr:=c.fr;have m:=aw fr co;have hu:env.nv 79=some (.slice 168):=rfl;have A:vP V.vs (some k)=some (a,0):=by simp[vP,J]
 have g:aJ h (h.alloc (.D 1 [.P a])).2:=kT;have r0:¬roomy<8:=dc
 have D:¬roomy<(d.seen.length+1)*8:=by
  have:(d.seen.length+1)*8<=901*8:=sY om dc;unfold roomy;omega
 rcases c.sa with⟨e,e2⟩|⟨b,L,e,gb,tk,l1,l2⟩
 ·have u:aJ h ((h.alloc (.D 1 [.P a])).2.alloc (.D 1 [.P a])).2:=kT;have z:d.seen.length=0:=by rw[e2];rfl
  refine⟨h.nx+1,((h.alloc (.D 1 [.P a])).2.alloc (.D 1 [.P a])).2,?_,(u.old _ m).trans co,c.BK co y u.nx (u.fresh fr) (λi hi _=>u.old i hi) (.inr om) sp (L':=[.P a]) sp (by rw[e2];simp[A]) (by simp[z]) sp v w⟩;rw[e,z];simp[-me,hu,ty168.1,ty168.2.1,ty168.2.2.2,r0]
 ·have blt:=aw fr gb;have F:b≠h.nx/\b≠h.nx+1:=by omega
  have K:=(g.old b blt).trans gb;have o:b∈aT V.sa:=by rw[e];simp[aT]
  have I:B.r≠b:=λe=>by rw[e,gb]at co;simp at co
  by_cases f:d.seen.length+1<=L.length
  ·have t1:(L.take d.seen.length++[AV.P a]++L.drop (d.seen.length+1)).take (d.seen.length+1)=(d.seen++[k]).map (λk=> .ptr (vP V.vs (some k))):=by
    have l3:(L.take d.seen.length++[AV.P a]).length=d.seen.length+1:=by
     simp only[aO,bR,ai,aW];omega
    rw[<-l3,List.take_left,tk];simp[A]
   refine⟨b,(h.alloc (.D 1 [.P a])).2.set b (.D 1 (L.take d.seen.length++[.P a]++L.drop (d.seen.length+1))),?_,?_,c.BK co y g.nx ?_ (λi hi C=>?_) (.inl o) IN sp t1 ?_ ?_ v w⟩
   ·rw[e];simp[-me,hu,ty168.1,ty168.2.1,ty168.2.2.2,D,gb,F.1,f]
   ·rw[ah.aM,ay I];exact(g.old _ m).trans co
   ·intro i hi;rw[ah.aM,ay (by simp at hi;omega)];exact g.fresh fr i hi
   ·rw[ah.aM,ay (by rintro rfl;exact C o)];exact g.old i hi
   ·simp only[aO,bR,ai,aW,bK];omega
   ·simp only[aO,bR,ai,aW,bK];omega
  ·have N:L.length=d.seen.length:=om;have p:L.take d.seen.length=L:=cn om;refine⟨h.nx+1,(((h.alloc (.D 1 [.P a])).2.set b .dead).alloc (.D 1 (L++[.P a]))).2,?_,?_,c.BK co y (by simp<;>omega) ?_ (λi hi C=>?_) (.inr om) sp (L':=L++[.P a]) sp ?_ (by simp<;>omega) (by simp<;>omega) v w⟩
   ·rw[e];simp[-me,hu,ty168.1,ty168.2.1,ty168.2.2.2,D,gb,F.1,f,l1,p]
   ·rw[ah.cO,ay IN,ah.aM,ay I];exact(g.old _ m).trans co
   ·intro i hi;simp at hi;rw[ah.cO,ay IN,ah.aM,ay om];exact g.fresh fr i IN
   ·rw[ah.cO,ay IN,ah.aM,ay (by rintro rfl;exact C o)];exact g.old i hi
   ·rw[<-N,show L.length+1=(L++[AV.P a]).length from sp,cF];rw[p]at tk;rw[tk];simp[A]
end
end
section
section
variable{S:Sc}{B:CB}{X0:cB}{h0:ah}{X Y:cB}{V V':CV}{d:Dn}{h h1:ah}{P:Pl->Prop}
def WV(k:Nat)(_ vs:List Nat)(_:ah)(v:AV):Prop:=v= .ptr (vP vs (some k))/\k<vs.length
theorem cJ.LQ(c:cJ S B X0 h0 X V d h):∃a,V.va= .slice a V.vs.length:=by
 rcases c.va with⟨e,e2⟩|⟨b,e,_⟩
 ·have:V.vs=[]:=by simpa using e
  exact⟨none,by rw[e2,this];rfl⟩
 ·exact⟨some (b,0),by rw[e];simp⟩
theorem cJ.FK(c:cJ S B X0 h0 X V d h):∃a,V.sa= .slice a d.seen.length:=by
 rcases c.sa with⟨e,e2⟩|⟨b,L,e,_⟩
 ·exact⟨none,by rw[e,e2];rfl⟩
 ·exact⟨_,e⟩
theorem xM(hS:Stat S B X0 h0)(c:cJ S B X0 h0 X V d h)(nm ty:bu)(par:Bool)(p:Pl)(hl:ty.length<=70000)(hv:d.vs.length<=290)(K2:d.bytes<=70000*d.vs.length)(Q:Out->ah->Prop)(hQ:gY S B X0 h0 X V WV h Q (JL S nm ty par p d)):
 ba env 80 [.P B.r,.str nm,.str ty,.bool par,.agg [.I p.1,.I p.2]] h Q:=by
 refine wb fn80 rfl ?_;have K1:aJ h (h.alloc (.C [.I p.1,.I p.2])).2:=kT;have I:=c.aH K1;have M1:yz B V V X X h _:=(Mv.k c.fr K1).s;have A:(h.alloc (.C [.I p.1,.I p.2])).2.get h.nx=some (.C [.I p.1,.I p.2]):=sp
 have qX:h.nx∉X:=λm=>by have:=c.xl _ m;omega
 simp[f80];generalize (h.alloc (.C [.I p.1,.I p.2])).2=h1 at*;obtain⟨qa,H9⟩:∃q,q=h.nx:=⟨_,rfl⟩
 rw[<-H9]at A qX⊢;have J:=Loc.fresh I qX;obtain⟨K3,c1,_⟩:=I.c;simp only[CB.ob]at c1;have A2:=I.nm;unfold JL at hQ;have HA:∀x∈X,x∈X:=λ_ h=>h;refine Dd ?_;have KB:=(aJ.refl h1).bump 10;rcases rE nm d.oT 0 with⟨f1,f2⟩|⟨f1,j,f2,_⟩
 rotate_left
 ·have fc:d.oT.contains nm=true:=by simpa using f1
  simp only[fc,Bool.not_true]at hQ;simp[c1,A2,f2,A];refine dm ?_;refine fI p false _ _ _ (λh4 _ k4=>?_) (λh4 hh _=>by cases hh);have k5:=KB.trans k4;exact⟨dc,λ_=>by simpa using hQ _ (M1.toMove.comp (Move.k I.fr k5)) (k5.fresh I.fr)⟩
 ·have fc:d.oT.contains nm=false:=by simpa using f1
  simp only[fc,jU,Rs.sM]at hQ;simp[c1,A2,f2,A];refine dm ?_;refine fI p true _ _ _ (λh4 hh _=>by cases hh) (λh2 _ k2=>?_);have K:=KB.trans k2;have C2:=I.aH K;have M2:=M1.comp (Mv.k I.fr K).s;have A3:=(K.old _ (aw I.fr A)).trans A;obtain⟨K4,c2,_⟩:=C2.c;simp only[CB.ob]at c2;have F5:=C2.nm;simp;refine dm ?_;obtain⟨C3,M3⟩:=C2.T8 nm;have qn:qa≠B.GS:=J.n;have A4:(h2.set B.GS (.map (iH (d.oT++[nm])))).get qa=some (.C [.I p.1,.I p.2]):=(by rw[ah.aM,ay qn];exact A3)
  replace M3:=M2.comp M3.s;have en:iH (d.oT++[nm])=iH d.oT++[(.str nm,.bool true)]:=by simp[iH]
  rw[en]at C3 M3 A4;simp[c2,F5,f2,qn,A3];generalize h2.set B.GS (.map (iH d.oT++[(.str nm,.bool true)]))=h3 at*;clear F5 c2 A3 M2 C2 K k2 KB A A2 c1 M1 I K1;refine D6 hS C3 ty om p _ (gY.bind hQ HA M3 (λp h2 q=>U7 q) λn d5 v h5 C F6 C5 w5 M5 m5=>?_);have w5:v= .I n:=w5;subst w5;have A5:=m5.lk _ _ J A4;simp;refine qL hS C5 ty om _ λF k6=>?_;have C6:=C5.aH k6;have M6:=M5.comp (Mv.k C5.fr k6).s;have O:=(k6.old _ (aw C5.fr A5)).trans A5;have nb:0<=n/\n<=65536/\d5.vs=d.vs/\d5.seen=d.seen/\d5.bytes=d.bytes:=by
   unfold Cj at C;have bb:=ID (N:=S.N) (ty:=ty) hS.ok.fit;cases hm:(!((oA S.N S.es ty).2.2==5))with
   |false=>rw[hm]at C;cases C
   |true=>
    rw[hm]at C;injection C with e1 e2;have lv:=Dn.nR {d with oT:=d.oT++[nm]} ((oA S.N S.es ty).2.2==0) p;rw[e2]at lv;exact⟨om,om,lv.1,lv.2.1,lv.2.2.2.2⟩
  have K5:F.nx∉X:=λm=>by have:=C6.xl _ m;omega
  have K7:aJ F (F.alloc (.C [.str nm,.str ty,.I n,.bool par,.bool false,.bool (sN S ty)])).2:=kT;have HC:(F.alloc (.C [.str nm,.str ty,.I n,.bool par,.bool false,.bool (sN S ty)])).2.get F.nx=some (.C [.str nm,.str ty,.I n,.bool par,.bool false,.bool (sN S ty)]):=by simp
  obtain⟨C7,la,mY,_⟩:=C6.more K7 (i:=F.nx) om sp;have M7:=M6.comp (Mv.of mY C6.fr K7).s;have F7:=(K7.old _ (aw C6.fr O)).trans O;have aN:h.nx<=F.nx:=M6.nx;have K6:qa≠F.nx:=by have:=aw C6.fr O;omega
  simp;generalize (F.alloc (.C [.str nm,.str ty,.I n,.bool par,.bool false,.bool (sN S ty)])).2=h7 at*;generalize F.nx=a at*;clear mY K7 O M6 C6 k6 A5 M5 m5 C5 C A4 M3 C3 en fc;obtain⟨K8,Au⟩:=C7.LQ;obtain⟨KA,c7,_⟩:=C7.c;obtain⟨sg,KC,f7⟩:=C7.f;simp only[CB.ob]at c7;rw[Au]at f7;refine Dd ?_;simp[c7,f7,F7];refine dm ?_;have FF:=(aJ.refl h7).bump 12;have eb:decide ((V.vs.length:Int)<200)=decide (d5.vs.length<200):=by
   have:=C7.vl;exact decide_eq_decide.2 om
  refine BG (C7.aH FF) _ p _ λh8 R M8=>?_;rw[eb]at R;have C4:=(Mv.k (B:=B) (V:=V) (X:=a::X) C7.fr FF).comp M8;have HE:=M7.comp C4.s;have FO:=C4.lk _ _ la HC;have HG:=C4.lk _ _ J F7;obtain⟨HP,c8,o8⟩:=R.c;obtain⟨KF,Ik,f8⟩:=R.f;have CL:=Dn.nR d5 (decide (d5.vs.length<200)) p;generalize HU:d5.nz (decide (d5.vs.length<200)) p=d8 at*;have FP:=c8;simp only[CB.ob]at FP;rw[Au]at f8;simp;refine dl ?_;refine Dd ?_;have w1:IntKind.wrap .i64 (n+8)=n+8:=wr om om;have w2:IntKind.wrap .i64 (n+8-1)=n+7:=wq
  have e8:Int.tdiv (n+7) 8=(n+7)/8:=ez om;have q8:∀t,cm (Go.binOp .quo t (.int .i64 (n+7)) (.int .i64 8))=some (.I ((n+7)/8)):=λt=>by rw[<-e8];exact BL om om om
  have D:=R.ok;have KH:=D.bytes;have KK:=R.vl;have FQ:d8.vs.length<=290:=by rw[CL.1,nb.2.2.1];exact hv
  have w3:IntKind.wrap .i64 ((n+7)/8*8)=(n+7)/8*8:=wr om om;have w4:IntKind.wrap .i64 (d8.bytes+(n+7)/8*8)=d8.bytes+(n+7)/8*8:=wr om om;simp[FP,FO,w1,w2,q8,w3,w4];refine dl ?_;have F0:=(aJ.refl h8).bump 16;have FW:=R.aH F0;have key:=FW.LJ (V':=V) (d':={d8 with bytes:=d8.bytes+(n+7)/8*8}) (ov:=HP) ⟨rfl,rfl,rfl⟩ ⟨rfl,rfl⟩ (kI.set (d:={d8 with bytes:=d8.bytes+(n+7)/8*8}) FW.sa (show(h8.bump 16).get B.r=_ from c8) sp) (o8.move ((Move.k R.fr F0).comp (Move.on _ R.own.r))) ⟨D.vs,D.seen,D.sl,D.loops,⟨by simp only;omega,by simp only;rw[CL.1,nb.2.2.1,CL.2.2.2.2,nb.2.2.2.2];omega⟩⟩;obtain⟨C9,m9⟩:=key;simp only[CB.ob]at C9 m9;have M9:=HE.comp ((Mv.k (B:=B) (V:=V) (X:=a::X) R.fr F0).comp m9).s;have HZ:=m9.lk _ _ la (show(h8.bump 16).get a=_ from FO);have Hc:=m9.lk _ _ J (show(h8.bump 16).get qa=_ from HG);generalize (h8.bump 16).set B.r _=h9 at*;obtain⟨KL,c9,_⟩:=C9.c;simp only[CB.ob]at c9;refine Dd ?_;simp[c9,Hc];refine dl ?_;have G2:=(aJ.refl h9).bump 8;refine BG (C9.aH G2) _ p _ λb u m10=>?_;replace m10:=(Mv.k (B:=B) (V:=V) (X:=a::X) C9.fr G2).comp m10;have w:=M9.comp m10.s;have G3:=m10.lk _ _ la HZ;obtain⟨J2,I0,KT⟩:=u.c;have G4:=Dn.nR {d8 with bytes:=d8.bytes+(n+7)/8*8} (decide (d8.bytes+(n+7)/8*8<=65536)) p;generalize G5:Dn.nz {d8 with bytes:=d8.bytes+(n+7)/8*8} (decide (d8.bytes+(n+7)/8*8<=65536)) p=d10 at*;have y:=I0;simp only[CB.ob]at y;obtain⟨U,F1,f10⟩:=u.f;have GL:=Au;simp;refine dl ?_;refine Dd ?_;have W:=(aJ.refl b).bump 17;have f12:b.get (b.nx+12)=none:=u.fr _ om;have Gq:=u.vl;have I1:d10.vs.length<=290:=by rw[G4.1];exact FQ
  obtain⟨H2,F2,I2,H4,F3,m11,Z,A1⟩:=(u.aH W).addVars (a:=a) (v:=⟨nm,ty,n,par,false,sN S ty⟩) G3 (bc ..) la ⟨by unfold dW;exact hl,nb.1,nb.2.1⟩ om (j:=b.nx+12) f12 sp F1;rw[GL]at F2 H4 f10;simp only[ah.jF]at F2 I2 F3 m11 Z A1;simp[-aK,y,f10,f12];refine dl ?_;rw[F2];obtain⟨J3,H5,I3⟩:=F3.c;have H6:B.r≠B.f:=λe=>by rw[e,f10]at y;simp at y
  have F4:=H5;rw[ah.aM,ay H6]at F4;simp only[CB.ob]at F4;simp[-aK,H4,F4,H6];refine dl ?_;have I4:yz B V ⟨V.vs++[a],.S (b.nx+17) (V.vs.length+1),V.sa⟩ X ((b.nx+17)::a::X) h _:=⟨(w.comp (Mv.k u.fr W).s).toMove.comp m11,λi o lt l g=>Z i o l (w.lk i o lt l g),λi lt l g=>A1 i (by have:=w.nx;omega) (by have:=w.nx;omega) l (w.no i lt l g),by have:=w.nx;simp;omega,λi lt l=>⟨l.r,l.f,l.n,(λm=>by rcases aP.1 m with m|m;exact l.v m;simp at m;omega),(λm=>by have m:i∈[b.nx+17]:=m;have:=w.nx;simp at m;omega),l.sa⟩⟩
  have K0:=u.ok.sl;obtain⟨b',H3,H7,H8,I5,I6⟩:=F3.Oi (k:=V.vs.length) (a:=a) sp IN IN IN H5 I3;have IB:=I4.comp I6;rw[show(H2.set B.f (.C [.str U.nm,.str U.ty,B.Kq,B.Iz,.S (b.nx+17) (V.vs.length+1),.N])).nx=H2.nx from rfl]at H7;rw[H7];simp only[CB.ob]at H8;simp[-aK,H8];have IH:d5.add nm ty n par (sN S ty) p={d10 with vs:=d10.vs++[⟨nm,ty,n,par,false,sN S ty⟩],seen:=d10.seen++[V.vs.length]}:=by
   unfold Dn.add;simp only[HU,G5];rw[Gq]
  have Ia:d5.vs.length=V.vs.length:=C7.vl.symm;rw[IH,Ia]at F6;refine F6 _ _ _ _ ⟨[a],rfl⟩ (λx m=>?_) I5 ⟨by simp[vP],sp⟩ IB;exact au _ (au _ (au _ m))
end
end
section
class Inv(I:Dn->Prop)(P:Pl->Prop):Prop where
 nz:∀d b p,P p->I d->I (Dn.nz d b p)
 take:∀d k,I d->I (Dn.take d k)
section
variable{S:Sc}{P:Pl->Prop}{T:bu->Prop}{I:Dn->Prop}[iv:Inv I P]
theorem IG{d:Dn}(h:I d){p:Pl}(a:P p)(ty:bu):(Cj S ty p d).H (λ_ d=>I d) P:=Rs.cG a λ_=>iv.nz _ _ _ a h
theorem SP{d:Dn}(h:I d){p:Pl}(a:P p)(e:TX):(Nu S e p d).H (λ_ d=>I d) P:=by
 unfold Nu;split
 ·exact h
 ·split
  ·exact h
  ·exact Rs.cG a λ_=>h
theorem pQ{r:Rs TX}(h:r.H (λ_ d=>I d) P){p:Pl}(a:P p):(wV S r p).H (λ_ d=>I d) P:=Rs.bq h λe d b=>SP b a e
theorem BM{r:Rs TX}(h:r.H (λ_ d=>I d) P){p:Pl}(a:P p):(FD S r p).H (λ_ d=>I d) P:=Rs.bq (pQ h a) λ_ _ b=>Rs.cG a λ_=>b
theorem pR{r:Rs TX}(h:r.H (λ_ d=>I d) P){p:Pl}(a:P p):(ux S r p).H (λ_ d=>I d) P:=Rs.bq (pQ h a) λ_ _ b=>Rs.cG a λ_=>b
theorem zt{r:Rs TX}(h:r.H (λ_ d=>I d) P){x:Ex}(a:P x.pos)(ty:bu):(BD S r x ty).H (λ_ d=>I d) P:=Rs.bq (pQ h a) λ_ _ b=>Rs.cG a λ_=>b
theorem II{d:Dn}(h:I d){p:Pl}(a:P p)(ty:bu):(N8 S ty p d).H (λ_ d=>I d) P:=Rs.cG a λ_=>Rs.bq (IG h a _) λ_ _ b=>b
theorem Px{d:Dn}(h:I d){p:Pl}(a:P p)(ty nm:bu):(N9 S ty nm p d).H (λ_ d=>I d) P:=Rs.cG a λ_=>by
 split
 ·exact a
 ·split
  ·exact a
  ·exact h
theorem Ra{d:Dn}(h:I d){p:Pl}(a:P p)(s:bu):(Ck S s p d).H (λ_ d=>I d) P:=by
 unfold Ck;split
 ·exact h
 ·split
  ·exact h
  ·exact a
theorem SR{d:Dn}(h:I d){p:Pl}(e:P p)(a b:TX)(op:Int):(BE S a b op p d).H (λ_ d=>I d) P:=Rs.cG e λ_=>Rs.bq (II h e _) λ_ _ f=>f
theorem SS{d:Dn}(h:I d){p:Pl}(e:P p)(a b:TX)(x y:Ex)(op:Int):(Oa S a b x y op p d).H (λ_ d=>I d) P:=by
 unfold Oa;dsimp only;split
 ·exact Rs.cG e λ_=>h
 ·split
  ·exact h
  ·exact SR h e a b op
theorem SU{d:Dn}(h:I d){p:Pl}(a:P p)(e:TX):(QU S e p d).H (λ_ d=>I d) P:=Rs.cG a λ_=>by
 show I (match e.d.kd==2,e.d.v with
  |true,some k=>d.take k
  |_,_=>d)
 split
 ·exact iv.take _ _ h
 ·exact h
theorem Rb{d:Dn}(h:I d){p:Pl}(a:P p)(e:TX)(nm:bu):(JJ S e nm p d).H (λ_ d=>I d) P:=Rs.cG a λ_=>Rs.bq (Px h a _ _) λ_ _ b=>b
theorem Rc{d:Dn}(h:I d){p:Pl}(b:P p)(e:TX)(nm:bu):(JK S e nm p d).H (λ_ d=>I d) P:=Rs.bq (II h b _) λ_ _ a=>Rs.bq (Px a b _ _) λ_ _ a=>a
mutual
theorem j9:∀(x:Ex)(d:Dn),I d->x.al P T->(jv S x d).H (λ_ d=>I d) P
 | .num p n,d,h,a=>by simp only[jv];exact h
 | .var p s,d,h,a=>by simp only[jv];exact Ra h a s
 | .un p op a,d,h,⟨j,g⟩=>by
  have i:=j9 a d h g;simp only[jv];split
  ·exact Rs.bq (pR i g.nQ) λ_ _ e=>e
  ·split
   ·exact Rs.bq (pQ i g.nQ) λ_ _ e=>Rs.bq (II e j _) λ_ _ e=>e
   ·split
    ·exact Rs.bq i λ_ _ e=>SU e j _
    ·exact Rs.bq (BM i g.nQ) λ_ _ e=>e
 | .bin p op a b,d,h,⟨j,g,m⟩=>by
  have i:=j9 a d h g;simp only[jv];split
  ·exact Rs.bq (pR i g.nQ) λ_ _ e=>Rs.bq (pR (j9 b _ e m) m.nQ) λ_ _ e=>e
  ·split
   ·exact Rs.bq (pR i g.nQ) λ_ _ e=>Rs.bq (pR (j9 b _ e m) m.nQ) λ_ _ e=>e
   ·exact Rs.bq (pQ i g.nQ) λ_ _ e=>Rs.bq (pQ (j9 b _ e m) m.nQ) λ_ _ e=>SS e j _ _ _ _ _
 | .cast p ty a,d,h,⟨j,_,g⟩=>by
  simp only[jv];exact Rs.bq (pQ (j9 a d h g) g.nQ) λ_ _ e=>Rs.cG j λ_=>e
 | .call p f xs,d,h,⟨j,g⟩=>by
  simp only[jv];split
  ·exact j
  ·split
   ·exact j
   ·exact Rs.cG j λ_=>Rs.cG j λ_=>Rs.bq (Py xs _ d h g) λ_ _ e=>e
 | .index p a i,d,h,⟨j,g,m⟩=>by
  simp only[jv];exact Rs.bq (pQ (j9 a d h g) g.nQ) λ_ _ e=>Rs.bq (BM (j9 i _ e m) m.nQ) λ_ _ e=>Rs.bq (II e j _) λ_ _ e=>e
 | .fN p nm a,d,h,⟨j,g⟩=>by
  simp only[jv];exact Rs.bq (j9 a d h g) λ_ _ e=>Rb e j _ _
 | .arrow p nm a,d,h,⟨j,g⟩=>by
  simp only[jv];exact Rs.bq (pQ (j9 a d h g) g.nQ) λ_ _ e=>Rc e j _ _
 | .qp p,d,h,a=>by simp only[jv];exact h
 | .size p ty,d,h,a=>by
  simp only[jv];exact Rs.bq (IG h a.1 ty) λ_ _ e=>e
theorem Py:∀(xs:List Ex)(a:List (bu))(d:Dn),I d->Pw P T xs->(CN S xs a d).H (λ_ d=>I d) P
 |x::xs,t::a,d,h,⟨e,f⟩=>by
  simp only[CN];exact Rs.bq (zt (j9 x d h e) e.nQ t) λ_ _ b=>Rs.bq (Py xs a _ b f) λ_ _ b=>b
 |[],_,d,h,_=>by simp only[CN];exact h
 |_::_,[],d,h,_=>by simp only[CN];exact h
end
end
structure FL(d0 d:Dn):Prop where
 vs:d.vs.length=d0.vs.length
 seen:d.seen=d0.seen
 oT:d.oT=d0.oT
 loops:d.loops=d0.loops
 bytes:d.bytes=d0.bytes
instance(d0:Dn)(P:Pl->Prop):Inv (FL d0) P where
 nz d b p _ h:=by
  obtain⟨a,b,c,e,f⟩:=Dn.nR d b p;exact⟨by rw[a];exact h.vs,b.trans h.seen,c.trans h.oT,e.trans h.loops,f.trans h.bytes⟩
 take d k h:=⟨by simp[Dn.take,h.vs],h.seen,h.oT,h.loops,h.bytes⟩
instance(P:Pl->Prop):Inv (Dn.ov P) P where
 nz d b p a h:=Dn.QW h a b
 take d k h:=h
theorem FL.refl(d:Dn):FL d d:=⟨rfl,rfl,rfl,rfl,rfl⟩
def Pz(P:Pl->Prop)(T:List UInt8->Prop):Option Ex->Prop
 |none=>True
 |some e=>e.al P T
mutual
def dw.al(P:Pl->Prop)(T:List UInt8->Prop):dw->Prop
 | .block p l=>P p/\PC P T l
 | .empty p=>P p
 | .decl p ty _ e=>P p/\T ty/\Pz P T e
 | .assign p to e=>P p/\to.al P T/\e.al P T
 | .eval p e=>P p/\e.al P T
 | .ifs p e s=>P p/\e.al P T/\s.al P T
 | .wD p e s t=>P p/\e.al P T/\s.al P T/\t.al P T
 | .wE p e s=>P p/\e.al P T/\s.al P T
 | .xq p=>P p
 | .cont p=>P p
 | .ret p e=>P p/\Pz P T e
 | .out p e=>P p/\e.al P T
def PC(P:Pl->Prop)(T:List UInt8->Prop):List dw->Prop
 |[]=>True
 |s::l=>s.al P T/\PC P T l
end
structure DS(d d':Dn)(n:Nat):Prop where
 ok:d'.Ok
 lo:d.vs.length<=d'.vs.length
 hi:d'.vs.length<=d.vs.length+n
 st:d'.bytes<=70000*d'.vs.length
 lp:d'.loops=d.loops
 sn:∃w,d'.seen=d.seen++w
theorem DS.mono{d d':Dn}{n m:Nat}(h:DS d d' n)(hm:n<=m):DS d d' m:=⟨h.ok,h.lo,by have:=h.hi;omega,h.st,h.lp,h.sn⟩
theorem DS.trans{a b c:Dn}{n m:Nat}(h:DS a b n)(h':DS b c m):DS a c (n+m):=by
 obtain⟨w,hw⟩:=h.sn;obtain⟨w',e⟩:=h'.sn;exact⟨h'.ok,bh h.lo h'.lo,by have:=h.hi;have:=h'.hi;omega,h'.st,h'.lp.trans h.lp,⟨w++w',by rw[e,hw,aU]⟩⟩
theorem DS.of{d d':Dn}(ok:d'.Ok)(st:d.bytes<=70000*d.vs.length)(s:FL d d'):DS d d' 0:=⟨ok,by rw[s.vs];exact ao _,by rw[s.vs];exact ao _,by rw[s.vs,s.bytes];exact st,s.loops,⟨[],by rw[s.seen];simp⟩⟩
section
variable{S:Sc}{P:Pl->Prop}
theorem Ea(u:S.Ok){d:Dn}(h:d.Ok)(st:d.bytes<=70000*d.vs.length)(nm ty:bu)(i:ty.length<=dW)(par:Bool)(p:Pl):(JL S nm ty par p d).H (λk d'=>DS d d' 1) λ_=>True:=by
 unfold JL;refine Rs.cG trivial λ_=>?_;have w:(Cj S ty p {d with oT:=d.oT++[nm]}).H (λn d'=>(0<=n/\n<=65536)/\d'.vs=d.vs/\d'.seen=d.seen/\d'.loops=d.loops/\d'.bytes=d.bytes) λ_=>True:=by
  refine Rs.cG trivial λ_=>?_;have lv:=Dn.nR {d with oT:=d.oT++[nm]} ((oA S.N S.es ty).2.2==0) p;exact⟨ID u.fit,lv.1,lv.2.1,lv.2.2.2.1,lv.2.2.2.2⟩
 refine Rs.bq w λn e ⟨y,e1,e2,e3,A⟩=>?_;show DS d (e.add nm ty n par (sN S ty) p) 1;have l1:=Dn.nR e (decide (e.vs.length<200)) p;unfold Dn.add;simp only;generalize e.nz (decide (e.vs.length<200)) p=f at*;have l2:=Dn.nR {f with bytes:=f.bytes+(n+7)/8*8} (decide (f.bytes+(n+7)/8*8<=65536)) p;generalize Dn.nz {f with bytes:=f.bytes+(n+7)/8*8} (decide (f.bytes+(n+7)/8*8<=65536)) p=g at*;have v6:g.vs=d.vs:=by rw[l2.1,l1.1,e1]
 have m:g.seen=d.seen:=by rw[l2.2.1,l1.2.1,e2]
 have o:g.bytes=d.bytes+(n+7)/8*8:=by rw[l2.2.2.2.2];simp only;rw[l1.2.2.2.2,A]
 have t:g.loops=d.loops:=by rw[l2.2.2.2.1];simp only;rw[l1.2.2.2.1,e3]
 obtain⟨k1,k2,k3,B,C⟩:=h;refine⟨⟨λv a=>?_,λj b=>?_,?_,?_,?_⟩,?_,?_,?_,t,⟨[g.vs.length],by simp only;rw[m]⟩⟩
 ·simp only[v6]at a;rcases aP.1 a with a|a
  ·exact k1 v a
  ·simp only[aQ]at a;subst a;exact⟨i,y⟩
 ·simp only[m,v6]at b⊢;rcases aP.1 b with b|b
  ·have:=k2 j b;simp;omega
  ·simp only[aQ]at b;subst b;simp
 ·simp only[m,v6];simp;omega
 ·simp only[t];exact B
 ·simp only[o,v6];simp;omega
 ·simp only[v6];simp
 ·simp only[v6];simp
 ·simp only[o,v6];simp;omega
end
end
section
section
variable{S:Sc}{P:Pl->Prop}{rt:bu}
abbrev PT:Pl->Prop:=λ_=>True
instance(d0:Dn)(n:Nat)(P:Pl->Prop):Inv (λd=>DS d0 d n) P where
 nz d b p _ h:=by
  obtain⟨a,g,c,e,f⟩:=Dn.nR d b p;exact⟨h.ok.nz b p,by rw[a];exact h.lo,by rw[a];exact h.hi,by rw[a,f];exact h.st,e.trans h.lp,by rw[g];exact h.sn⟩
 take d k h:=⟨h.ok.take k,by simp only[Dn.take,jb];exact h.lo,by simp only[Dn.take,jb];exact h.hi,by simp only[Dn.take,jb];exact h.st,h.lp,h.sn⟩
theorem DS.refl{d:Dn}(h:d.Ok)(st:d.bytes<=70000*d.vs.length):DS d d 0:=⟨h,ao _,ao _,st,rfl,⟨[],sp⟩⟩
theorem DS.block{d e:Dn}{n:Nat}(h:DS d e n)(b:d.Ok):DS d {e with seen:=e.seen.take d.seen.length} n:=by
 obtain⟨w,hw⟩:=h.sn;have ht:e.seen.take d.seen.length=d.seen:=by rw[hw,List.take_left]
 refine⟨⟨h.ok.vs,λk a=>?_,?_,h.ok.loops,h.ok.bytes⟩,h.lo,h.hi,h.st,h.lp,⟨[],by simp only[ht];simp⟩⟩
 ·exact h.ok.seen k (List.mem_of_mem_take a)
 ·have:=h.ok.sl;simp only[bR];omega
theorem Dn.Ok.loop{d:Dn}(h:d.Ok){k:Int}(a:-1000<=k)(b:k<=1000):Dn.Ok {d with loops:=k}:=⟨h.vs,h.seen,h.sl,⟨a,b⟩,h.bytes⟩
abbrev DI(d:Dn)(n:Nat):Dn->Prop:=λd'=>DS d d' n
mutual
theorem vQ(j:S.Ok):∀(x:Sm)(d:Dn),d.Ok->d.bytes<=70000*d.vs.length->-1000<=d.loops->d.loops+x.nodes<=1000->x.al PT TL->(jk S rt x d).H (λ_ d'=>DS d d' x.nodes) PT
 | .block p l,d,h,st,l1,l2,a=>by
  simp only[jk];simp only[dw.nodes]at l2⊢;exact Rs.bq (LR j l d h st l1 om a.2) λ_ e he=>(he.block h).mono om
 | .empty p,d,h,st,l1,l2,a=>by
  simp only[jk];exact(DS.refl h st).mono om
 | .decl p ty nm e,d,h,st,l1,l2,a=>by
  simp only[jk];simp only[dw.nodes]at l2⊢;refine Rs.bq (Ea j h st nm ty a.2.1 false p) λk d1 b=>?_;cases e with
  |none=>exact b.mono (by simp[uB])
  |some e=>
   refine Rs.cG trivial λ_=>Rs.bq (zt (I:=DI d 1) (P:=PT) (j9 (I:=DI d 1) (P:=PT) (T:=TL) e d1 b a.2.2) (x:=e) trivial ty) λ_ _ f=>f.mono om
 | .assign p to e,d,h,st,l1,l2,a=>by
  simp only[jk];exact Rs.bq (j9 (I:=DI d 0) (P:=PT) (T:=TL) to d (DS.refl h st) a.2.1) λt _ f=>Rs.cG trivial λ_=>Rs.bq (zt (I:=DI d 0) (P:=PT) (j9 (I:=DI d 0) (P:=PT) (T:=TL) e _ f a.2.2) (x:=e) trivial t.ty) λ_ _ f=>f.mono om
 | .eval p e,d,h,st,l1,l2,a=>by
  simp only[jk];exact Rs.bq (pQ (I:=DI d 0) (P:=PT) (j9 (I:=DI d 0) (P:=PT) (T:=TL) e d (DS.refl h st) a.2) trivial) λ_ _ f=>f.mono om
 | .ifs p e s,d,h,st,l1,l2,a=>by
  simp only[jk];simp only[dw.nodes]at l2⊢;refine Rs.bq (pR (I:=DI d 0) (P:=PT) (j9 (I:=DI d 0) (P:=PT) (T:=TL) e d (DS.refl h st) a.2.1) trivial) λ_ d1 b=>?_;refine Rs.bq (vQ j s d1 b.ok b.st (by rw[b.lp];exact l1) (by rw[b.lp];omega) a.2.2) λ_ _ i=>(b.trans i).mono om
 | .wD p e s t,d,h,st,l1,l2,a=>by
  simp only[jk];simp only[dw.nodes]at l2⊢;refine Rs.bq (pR (I:=DI d 0) (P:=PT) (j9 (I:=DI d 0) (P:=PT) (T:=TL) e d (DS.refl h st) a.2.1) trivial) λ_ d1 b=>?_;refine Rs.bq (vQ j s d1 b.ok b.st (by rw[b.lp];exact l1) (by rw[b.lp];omega) a.2.2.1) λ_ d2 i=>?_;have g:=b.trans i;refine Rs.bq (vQ j t d2 g.ok g.st (by rw[g.lp];exact l1) (by rw[g.lp];omega) a.2.2.2) λ_ _ u=>(g.trans u).mono om
 | .wE p e s,d,h,st,l1,l2,a=>by
  simp only[jk];simp only[dw.nodes]at l2⊢;refine Rs.bq (pR (I:=DI d 0) (P:=PT) (j9 (I:=DI d 0) (P:=PT) (T:=TL) e d (DS.refl h st) a.2.1) trivial) λ_ d1 b=>?_;have e1:d1.loops=d.loops:=b.lp;refine Rs.bq (vQ j s {d1 with loops:=d1.loops+1} (b.ok.loop om om) b.st (by simp only;omega) (by simp only;omega) a.2.2) λ_ d2 i=>?_;have e2:d2.loops=d1.loops+1:=i.lp;obtain⟨v,m⟩:=b.sn;obtain⟨w,o⟩:=i.sn;exact⟨i.ok.loop om om,bh b.lo i.lo,by have:=b.hi;have:=i.hi;simp only at*;omega,i.st,by simp only;omega,⟨v++w,by simp only at*;rw[o,m,aU]⟩⟩
 | .xq p,d,h,st,l1,l2,a=>by
  simp only[jk];exact Rs.cG trivial λ_=>(DS.refl h st).mono om
 | .cont p,d,h,st,l1,l2,a=>by
  simp only[jk];exact Rs.cG trivial λ_=>(DS.refl h st).mono om
 | .ret p none,d,h,st,l1,l2,a=>by
  simp only[jk];exact Rs.cG trivial λ_=>(DS.refl h st).mono om
 | .ret p (some e),d,h,st,l1,l2,a=>by
  simp only[jk];exact Rs.cG trivial λ_=>Rs.bq (zt (I:=DI d 0) (P:=PT) (j9 (I:=DI d 0) (P:=PT) (T:=TL) e d (DS.refl h st) a.2) (x:=e) trivial rt) λ_ _ f=>f.mono om
 | .out p e,d,h,st,l1,l2,a=>by
  simp only[jk];exact Rs.bq (BM (I:=DI d 0) (P:=PT) (j9 (I:=DI d 0) (P:=PT) (T:=TL) e d (DS.refl h st) a.2) trivial) λ_ _ f=>f.mono om
theorem LR(e:S.Ok):∀(l:List Sm)(d:Dn),d.Ok->d.bytes<=70000*d.vs.length->-1000<=d.loops->d.loops+eh l<=1000->PC PT TL l->(wW S rt l d).H (λ_ d'=>DS d d' (eh l)) PT
 |[],d,h,st,l1,l2,b=>by
  simp only[wW];exact(DS.refl h st).mono om
 |s::l,d,h,st,l1,l2,b=>by
  simp only[wW];simp only[eh]at l2⊢;refine Rs.bq (vQ e s d h st l1 om b.1) λ_ d1 a=>?_;exact Rs.bq (LR e l d1 a.ok a.st (by rw[a.lp];exact l1) (by rw[a.lp];omega) b.2) λ_ _ f=>a.trans f
end
end
end
section
def WU(t:TS)(X vs:List Nat)(h:ah)(v:AV):Prop:=∃id,v= .P id/\sO X vs h id t
section
variable{S:Sc}{B:CB}{X0:cB}{h0:ah}{X Y:cB}{V V':CV}{d:Dn}{h h1 h2:ah}{P:Pl->Prop}
theorem yz.put{a:ah}{i:Nat}(m:yz B V V' X Y a h)(hi:i∈Y)(h0:a.get i=none)(e:a.nx<=i)(o:dK):yz B V V' X Y a (h.set i o):=
 ⟨m.toMove.comp (Move.on o hi),λj b lt l g=>by rw[ah.aM,ay om];exact m.lk j b lt l g,λj lt l g=>by rw[ah.aM,ay om];exact m.no j lt l g,m.nx,m.gr⟩
theorem kW(c:cJ S B X0 h0 Y V' d h2)(gw:∃ws,V'.vs=V.vs++ws)(D:∀x∈X,x∈Y){o:Nat}(A:∀x∈X,x<h.nx)(K:h.nx<=o)(lo:Loc B V' o)(M:yz B V V' X Y h h2){kd:Int}{v:Option Nat}{to e:Option TX}{tv ev lv:AV}{qs:List (Nat×TS)}
 (go:h2.get o=some (.C [.I kd,.ptr (vP V'.vs v),tv,ev,lv])) (F:∀k,v=some k->k<V'.vs.length) (ht:qB Y V'.vs h2 tv to) (he:qB Y V'.vs h2 ev e) (arr:cQ [] h2 lv qs) (p:∀b∈aT lv,Loc B V' b/\h.nx<=b) (sub:∀q∈qs,sO Y V'.vs h2 q.1 q.2)
 {Q:Out->ah->Prop} (I:gY S B X0 h0 X V WU h Q (.ok (.mk kd v to e (qs.map Prod.snd)) d)):Q (.ret (.P o)) h2:=by
 obtain⟨m,w⟩:∃m,m=Y.filter (λx=>!(x==o)&&!(aT lv).contains x):=⟨_,rfl⟩
 have mem:∀x,x∈m↔x∈Y/\x≠o/\x∉aT lv:=λx=>by rw[w];simp[ns]
 have C:∀x∈m,x∈Y:=λx i=>((mem x).1 i).1;have own:=c.own;have nl:∀x,(∀b,Loc B V' b->b≠x)->x≠o/\x∉aT lv:=λx i=>⟨λe=>i o lo e.symm,λy=>i x (p x y).1 rfl⟩
 have t:LD B V' m:=⟨(mem _).2 ⟨own.r,nl _ λb l=>l.r⟩,(mem _).2 ⟨own.f,nl _ λb l=>l.f⟩,(mem _).2 ⟨own.n,nl _ λb l=>l.n⟩,λa j=>(mem _).2 ⟨own.v a j,nl _ λb l e=>l.v (e▸j)⟩,λa j=>(mem _).2 ⟨own.va a j,nl _ λb l e=>l.va (e▸j)⟩,λa j=>(mem _).2 ⟨own.sa a j,nl _ λb l e=>l.sa (e▸j)⟩⟩
 have u:Move Y m h2 h2:=Move.less C;refine I V' m _ _ gw (λx i=>(mem x).2 ⟨D x i,?_,λy=>?_⟩) (c.less C t) ⟨o,rfl,.mk (lv:=lv) (qs:=qs) go (λi=>((mem o).1 i).2.1 rfl) F (ht.move u) (he.move u) ?_ rfl λq J=>(sub q J).move u⟩ ⟨M.toMove.comp u,M.lk,M.no,M.nx,M.gr⟩
 ·have:=A x i;omega
 ·have:=A x i;have:=(p x y).2;omega
 ·rcases arr with e|⟨b,e,_,g⟩
  ·exact .inl e
  ·exact .inr ⟨b,e,λi=>((mem b).1 i).2.2 (by rw[e];simp[aT]),g⟩
theorem vR(c:cJ S B X0 h0 Y V' d h2)(gw:∃ws,V'.vs=V.vs++ws)(f:∀x∈X,x∈Y){o:Nat}(g:∀x∈X,x<h.nx)(ho:o∈Y)(b:h.nx<=o)(a:h.get o=none)(lo:Loc B V' o)(M:yz B V V' X Y h h2){kd:Int}{v:Option Nat}{to e:Option TX}{tv ev:AV}
 (i:∀k,v=some k->k<V'.vs.length) (ht:qB Y V'.vs h2 tv to) (he:qB Y V'.vs h2 ev e)
 {Q:Out->ah->Prop} (j:gY S B X0 h0 X V WU h Q (.ok (.mk kd v to e []) d)):Q (.ret (.P o)) (h2.set o (.C [.I kd,.ptr (vP V'.vs v),tv,ev,.Z])):=by
 obtain⟨c3,m3⟩:=c.put ho lo (.C [.I kd,.ptr (vP V'.vs v),tv,ev,.Z]);exact kW (qs:=[]) c3 gw f g b lo (M.put ho a b _) sp i (ht.move m3) (he.move m3) (.inl ⟨rfl,rfl⟩) (by simp[aT]) sp j
theorem tS.obj{id:Nat}{s:Sm}(e:tS X h id s):∃ev tv lv qs,h.get id=some (.C (s.cA ev tv lv s.cR))/\id∉X/\rL X h ev s.eO/\rL X h tv s.Ho/\cQ X h lv qs/\qs.map Prod.snd=s.list/\∀q,q∈qs->tS X h q.1 q.2:=by
 cases e with
 |mk obj nx he ho arr a sub=>exact⟨_,_,_,_,obj,nx,he,ho,arr,a,sub⟩
theorem rL.Ak{v:AV}{e:Ex}(o:rL X h v (some e)):∃id,v= .P id/\jl X h id e:=by
 rcases o with⟨_,e⟩|⟨id,e',h1,h2,a⟩
 ·cases e
 ·injection h2 with h2;subst h2;exact⟨id,h1,a⟩
theorem rL.oB{v:AV}(o:rL X h v none):v= .N:=by
 rcases o with⟨e,_⟩|⟨id,e',h1,h2,a⟩
 ·exact e
 ·cases h2
def KS(S:Sc)(B:CB)(X0:List Nat)(h0:ah)(rt:List UInt8)(x:Sm):Prop:=∀(X:List Nat)(V:CV)(d:Dn)(h:ah)(id:Nat)(Q:Out->ah->Prop),cJ S B X0 h0 X V d h->tS X0 h0 id x->d.vs.length+x.nodes<=290->d.bytes<=70000*d.vs.length->-1000<=d.loops->d.loops+x.nodes<=1000->gY S B X0 h0 X V WU h Q (jk S rt x d)->ba env 81 [.P B.r,.P id] h Q
theorem Oj(y:Stat S B X0 h0){rt:bu}{p:Pl}{e:Ex}(b:(dw.eval p e).al PT TL)(F:e.nodes<=250):KS S B X0 h0 rt (.eval p e):=by
 intro X V d h idx Q c sr W Z I J A;refine wb fn81 rfl ?_;obtain⟨ev,tv,lv,qs,a,g,he,ht,_,_,_⟩:=sr.obj;obtain⟨ie,rfl,j⟩:=he.Ak;obtain rfl:=ht.oB;have g0:=(c.mv.aH _ _ a g).1;simp[dw.cA,dw.kd,dw.pos,dw.uT,dw.uU]at g0 a;have ni:idx≠h.nx:=by have:=aw c.fr g0;omega
 simp only[jk]at A;have C:aJ h (h.alloc (.C [.I 5,.N,.N,.N,.Z])).2:=kT;have m:(h.alloc (.C [.I 5,.N,.N,.N,.Z])).2.get h.nx=some (.C [.I 5,.N,.N,.N,.Z]):=sp
 obtain⟨K,lo,N,oX⟩:=c.more C (i:=h.nx) (ao _) sp;have O:=(Mv.of (B:=B) (V:=V) N c.fr C).s;have o:=c.fr h.nx (ao _);have D:∀x∈X,x∈h.nx::X:=λx b=>au _ b;simp[f81,g0,ni];generalize (h.alloc (.C [.I 5,.N,.N,.N,.Z])).2=h1 at*;refine oV y (rY y _ e (ao _) F b.2) b.2 om K j _ (gY.bind A D O (λp h2 q=>U7 q) λt d1 v h2 hr u R U M2 m2=>?_);obtain⟨w,rfl,t2⟩:=U;have go2:=m2.lk _ _ lo m;simp[go2];exact vR (v:=none) R ⟨[],sp⟩ D c.xl (bc ..) (ao _) o lo M2 sp (.inl ⟨rfl,rfl⟩) (.inr ⟨w,t,rfl,rfl,t2⟩) u
end
end
section
section
variable{S:Sc}{B:CB}{X0:cB}{h0:ah}{X Y:cB}{V V':CV}{d:Dn}{h h1 h2:ah}{P:Pl->Prop}
theorem Rf(y:Stat S B X0 h0){rt:bu}{p:Pl}{e:Ex}(b:(dw.out p e).al PT TL)(F:e.nodes<=250):KS S B X0 h0 rt (.out p e):=by
 intro X V d h idx Q c sr W Z I J A;refine wb fn81 rfl ?_;obtain⟨ev,tv,lv,qs,a,g,he,ht,_,_,_⟩:=sr.obj;obtain⟨ie,rfl,j⟩:=he.Ak;obtain rfl:=ht.oB;have g0:=(c.mv.aH _ _ a g).1;simp[dw.cA,dw.kd,dw.pos,dw.uT,dw.uU]at g0 a;have ni:idx≠h.nx:=by have:=aw c.fr g0;omega
 simp only[jk]at A;have C:aJ h (h.alloc (.C [.I 11,.N,.N,.N,.Z])).2:=kT;have m:(h.alloc (.C [.I 11,.N,.N,.N,.Z])).2.get h.nx=some (.C [.I 11,.N,.N,.N,.Z]):=sp
 obtain⟨K,lo,N,oX⟩:=c.more C (i:=h.nx) (ao _) sp;have O:=(Mv.of (B:=B) (V:=V) N c.fr C).s;have o:=c.fr h.nx (ao _);have D:∀x∈X,x∈h.nx::X:=λx b=>au _ b;simp[f81,g0,ni];generalize (h.alloc (.C [.I 11,.N,.N,.N,.Z])).2=h1 at*;refine zs y (rY y _ e (ao _) F b.2) b.2 om K j _ (gY.bind A D O (λp h2 q=>U7 q) λt d1 v h2 hr u R U M2 m2=>?_);obtain⟨w,rfl,t2⟩:=U;have go2:=m2.lk _ _ lo m;simp[go2];exact vR (v:=none) R ⟨[],sp⟩ D c.xl (bc ..) (ao _) o lo M2 sp (.inl ⟨rfl,rfl⟩) (.inr ⟨w,t,rfl,rfl,t2⟩) u
theorem LS(A:Stat S B X0 h0){rt:bu}{p:Pl}:KS S B X0 h0 rt (.empty p):=by
 intro X V d h idx Q c sr C D j m e;refine wb fn81 rfl ?_;obtain⟨ev,tv,lv,qs,a,b,he,ht,_,_,_⟩:=sr.obj;obtain rfl:=he.oB;obtain rfl:=ht.oB;have g0:=(c.mv.aH _ _ a b).1;simp[dw.cA,dw.kd,dw.pos,dw.uT,dw.uU]at g0 a;have ni:idx≠h.nx:=by have:=aw c.fr g0;omega
 simp only[jk]at e;have g:aJ h (h.alloc (.C [.I 2,.N,.N,.N,.Z])).2:=kT
 obtain⟨o,lo,t,F⟩:=c.more g (i:=h.nx) (ao _) sp;have u:=(Mv.of (B:=B) (V:=V) t c.fr g).s;have w:∀x∈X,x∈h.nx::X:=λx y=>au _ y;simp[f81,g0,ni];exact kW (v:=none) (qs:=[]) o ⟨[],sp⟩ w c.xl (ao _) lo u (by simp[vP]) sp (.inl ⟨rfl,rfl⟩) (.inl ⟨rfl,rfl⟩) (.inl ⟨rfl,rfl⟩) (by simp[aT]) sp e
theorem Rg(R:Stat S B X0 h0){rt:bu}{p:Pl}:KS S B X0 h0 rt (.xq p):=by
 intro X V d h idx Q c sr U W C D u;refine wb fn81 rfl ?_;obtain⟨ev,tv,lv,qs,a,b,he,ht,_,_,_⟩:=sr.obj;obtain rfl:=he.oB;obtain rfl:=ht.oB;have g0:=(c.mv.aH _ _ a b).1;simp[dw.cA,dw.kd,dw.pos,dw.uT,dw.uU]at g0 a;have ni:idx≠h.nx:=by have:=aw c.fr g0;omega
 simp only[jk]at u;have w:aJ h (h.alloc (.C [.I 8,.N,.N,.N,.Z])).2:=kT;have e:(h.alloc (.C [.I 8,.N,.N,.N,.Z])).2.get h.nx=some (.C [.I 8,.N,.N,.N,.Z]):=sp
 obtain⟨g,lo,F,Z⟩:=c.more w (i:=h.nx) (ao _) sp;have I:=(Mv.of (B:=B) (V:=V) F c.fr w).s;have y:∀x∈X,x∈h.nx::X:=λx J=>au _ J;have j:=(g.mv.aH _ _ a b).1;obtain⟨K,c1,_⟩:=g.c;simp only[CB.ob]at c1;simp[f81,g0,ni];generalize (h.alloc (.C [.I 8,.N,.N,.N,.Z])).2=h1 at*;refine Dd ?_;simp[c1,j];refine dl ?_;have m:=(aJ.refl h1).bump 11;refine wH (g.aH m) u y (I.comp (Mv.k g.fr m).s) (λh2 q=>⟨dc,λ_=>U7 q⟩) λh2 N o A k2 M2=>?_;have t:=m.trans k2;have go2:=(t.old _ (aw g.fr e)).trans e;obtain⟨O,c2,_⟩:=A.c;simp only[CB.ob]at c2;simp;refine dm ?_;exact kW (v:=none) (qs:=[]) A ⟨[],sp⟩ y c.xl (ao _) lo M2 (by simpa[vP]using go2) sp (.inl ⟨rfl,rfl⟩) (.inl ⟨rfl,rfl⟩) (.inl ⟨rfl,rfl⟩) (by simp[aT]) sp o
theorem Ol(R:Stat S B X0 h0){rt:bu}{p:Pl}:KS S B X0 h0 rt (.cont p):=by
 intro X V d h idx Q c sr U W C D u;refine wb fn81 rfl ?_;obtain⟨ev,tv,lv,qs,a,b,he,ht,_,_,_⟩:=sr.obj;obtain rfl:=he.oB;obtain rfl:=ht.oB;have g0:=(c.mv.aH _ _ a b).1;simp[dw.cA,dw.kd,dw.pos,dw.uT,dw.uU]at g0 a;have ni:idx≠h.nx:=by have:=aw c.fr g0;omega
 simp only[jk]at u;have w:aJ h (h.alloc (.C [.I 9,.N,.N,.N,.Z])).2:=kT;have e:(h.alloc (.C [.I 9,.N,.N,.N,.Z])).2.get h.nx=some (.C [.I 9,.N,.N,.N,.Z]):=sp
 obtain⟨g,lo,F,Z⟩:=c.more w (i:=h.nx) (ao _) sp;have I:=(Mv.of (B:=B) (V:=V) F c.fr w).s;have y:∀x∈X,x∈h.nx::X:=λx J=>au _ J;have j:=(g.mv.aH _ _ a b).1;obtain⟨K,c1,_⟩:=g.c;simp only[CB.ob]at c1;simp[f81,g0,ni];generalize (h.alloc (.C [.I 9,.N,.N,.N,.Z])).2=h1 at*;refine Dd ?_;simp[c1,j];refine dl ?_;have m:=(aJ.refl h1).bump 11;refine wH (g.aH m) u y (I.comp (Mv.k g.fr m).s) (λh2 q=>⟨dc,λ_=>U7 q⟩) λh2 N o A k2 M2=>?_;have t:=m.trans k2;have go2:=(t.old _ (aw g.fr e)).trans e;obtain⟨O,c2,_⟩:=A.c;simp only[CB.ob]at c2;simp;refine dm ?_;exact kW (v:=none) (qs:=[]) A ⟨[],sp⟩ y c.xl (ao _) lo M2 (by simpa[vP]using go2) sp (.inl ⟨rfl,rfl⟩) (.inl ⟨rfl,rfl⟩) (.inl ⟨rfl,rfl⟩) (by simp[aT]) sp o
end
end
section
section
variable{S:Sc}{B:CB}{X0:cB}{h0:ah}{X Y:cB}{V V':CV}{d:Dn}{h h1 h2:ah}{P:Pl->Prop}
theorem FM(nm ty:bu)(par:Bool)(p:Pl)(d:Dn):(JL S nm ty par p d).H (λk d'=>∃n,k=d.vs.length/\d'.vs=d.vs++[⟨nm,ty,n,par,false,sN S ty⟩]) PT:=by
 unfold JL;refine Rs.cG trivial λ_=>?_;have b:(Cj S ty p {d with oT:=d.oT++[nm]}).H (λn d'=>d'.vs=d.vs) PT:=Rs.cG trivial λ_=>(Dn.nR {d with oT:=d.oT++[nm]} ((oA S.N S.es ty).2.2==0) p).1;refine Rs.bq b λn e e1=>⟨n,by rw[e1],?_⟩
 show(e.add nm ty n par (sN S ty) p).vs=_;have l1:=Dn.nR e (decide (e.vs.length<200)) p;unfold Dn.add;simp only;generalize e.nz (decide (e.vs.length<200)) p=a at*;rw[(Dn.nR {a with bytes:=a.bytes+(n+7)/8*8} (decide (a.bytes+(n+7)/8*8<=65536)) p).1];simp only;rw[l1.1,e1]
theorem Om(W:Stat S B X0 h0){rt:bu}(j:∀sg,S.fs[B.n]?=some sg->sg.ty=rt){p:Pl}:KS S B X0 h0 rt (.ret p none):=by
 intro X V d h idx Q c sr Z hb I J A;refine wb fn81 rfl ?_;obtain⟨ev,tv,lv,qs,a,b,he,ht,_,_,_⟩:=sr.obj;obtain rfl:=he.oB;obtain rfl:=ht.oB;have g0:=(c.mv.aH _ _ a b).1;simp[dw.cA,dw.kd,dw.pos,dw.uT,dw.uU]at g0 a;have ni:idx≠h.nx:=by have:=aw c.fr g0;omega
 simp only[jk]at A;have C:aJ h (h.alloc (.C [.I 10,.N,.N,.N,.Z])).2:=kT;have g:(h.alloc (.C [.I 10,.N,.N,.N,.Z])).2.get h.nx=some (.C [.I 10,.N,.N,.N,.Z]):=sp
 obtain⟨e,lo,K,oX⟩:=c.more C (i:=h.nx) (ao _) sp;have N:=(Mv.of (B:=B) (V:=V) K c.fr C).s;have D:∀x∈X,x∈h.nx::X:=λx O=>au _ O;have m:=(e.mv.aH _ _ a b).1;obtain⟨R,c1,_⟩:=e.c;obtain⟨sg,o,f1⟩:=e.f;simp only[CB.ob]at c1;simp[f81,g0,ni];generalize (h.alloc (.C [.I 10,.N,.N,.N,.Z])).2=h1 at*;refine Dd ?_;simp[c1,m,f1];refine dl ?_;rw[j sg o];have t:=(aJ.refl h1).bump 21;refine wH (e.aH t) A D (N.comp (Mv.k e.fr t).s) (λh2 q=>⟨dc,λ_=>U7 q⟩) λh2 U u F k2 M2=>?_;have w:=t.trans k2;have go2:=(w.old _ (aw e.fr g)).trans g;have y:=(F.mv.aH _ _ a b).1;simp;refine dm ?_;simp[y];exact kW (v:=none) (qs:=[]) F ⟨[],sp⟩ D c.xl (ao _) lo M2 (by simpa[vP]using go2) sp (.inl ⟨rfl,rfl⟩) (.inl ⟨rfl,rfl⟩) (.inl ⟨rfl,rfl⟩) (by simp[aT]) sp u
theorem On(hS:Stat S B X0 h0){rt:bu}(o:∀sg,S.fs[B.n]?=some sg->sg.ty=rt)(D:rt.length<=dW){p:Pl}{e:Ex}(A:(dw.ret p (some e)).al PT TL)(hn:e.nodes<=250):KS S B X0 h0 rt (.ret p (some e)):=by
 intro X V d h idx Q c sr hv hb A3 A4 hQ;refine wb fn81 rfl ?_;obtain⟨ev,tv,lv,qs,a,g,he,ht,_,_,_⟩:=sr.obj;obtain⟨ie,rfl,F⟩:=he.Ak;obtain rfl:=ht.oB;have g0:=(c.mv.aH _ _ a g).1;simp[dw.cA,dw.kd,dw.pos,dw.uT,dw.uU]at g0 a;have ni:idx≠h.nx:=by have:=aw c.fr g0;omega
 simp only[jk]at hQ;have K1:aJ h (h.alloc (.C [.I 10,.N,.N,.N,.Z])).2:=kT;have u:(h.alloc (.C [.I 10,.N,.N,.N,.Z])).2.get h.nx=some (.C [.I 10,.N,.N,.N,.Z]):=sp
 obtain⟨b,lo,mY,oX⟩:=c.more K1 (i:=h.nx) (ao _) sp;have M1:=(Mv.of (B:=B) (V:=V) mY c.fr K1).s;have I:=c.fr h.nx (ao _);have J:∀x∈X,x∈h.nx::X:=λx A=>au _ A;have K:=(b.mv.aH _ _ a g).1;obtain⟨A5,c1,_⟩:=b.c;obtain⟨sg,N,f1⟩:=b.f;simp only[CB.ob]at c1;simp[f81,g0,ni];generalize (h.alloc (.C [.I 10,.N,.N,.N,.Z])).2=h1 at*;refine Dd ?_;simp[c1,K,f1];refine dl ?_;rw[o sg N]at f1⊢;have O:=(aJ.refl h1).bump 21;refine wH (b.aH O) hQ J (M1.comp (Mv.k b.fr O).s) (λh2 q=>⟨dc,λ_=>U7 q⟩) λh2 Au R C k2 M2=>?_;have j:=O.trans k2;have go2:=(j.old _ (aw b.fr u)).trans u;have w:=(C.mv.aH _ _ a g).1;have c2:=(j.old _ (aw b.fr c1)).trans c1;have f2:=(j.old _ (aw b.fr f1)).trans f1;simp;refine dm ?_;simp[w];refine Dd ?_;simp[c2,w,f2];have m:=(aJ.refl h2).bump 18;refine D9 hS (rY hS _ e (ao _) hn A.2) A.2 om (C.aH m) F (by unfold dW at D;omega) _ (gY.bind R J (M2.comp (Mv.k C.fr m).s) (λp h2 q=>⟨dc,λ_=>U7 q⟩) λt d3 v h3 C4 U W w3 M3 m3=>?_);obtain⟨Z,rfl,t3⟩:=w3;have m23:=(Mv.k (B:=B) (V:=V) (X:=h.nx::X) C.fr m).comp m3;have A1:=m23.lk _ _ lo go2;obtain⟨C5,c3,_⟩:=W.c;obtain⟨A2,y,f3⟩:=W.f;rw[o A2 y]at f3;simp only[CB.ob]at c3;simp[A1];refine dm ?_;exact vR (v:=none) W ⟨[],sp⟩ J c.xl (bc ..) (ao _) I lo M3 sp (.inl ⟨rfl,rfl⟩) (.inr ⟨Z,t,rfl,rfl,t3⟩) U
end
end
section
section
variable{S:Sc}{B:CB}{X0:cB}{h0:ah}{X Y:cB}{V V':CV}{d:Dn}{h h1 h2:ah}{P:Pl->Prop}
theorem JQ(A:Stat S B X0 h0){rt:bu}{p:Pl}{to e:Ex}(y:(dw.assign p to e).al PT TL)(hn:to.nodes+e.nodes<=250):KS S B X0 h0 rt (.assign p to e):=by
 intro X V d h idx Q c sr hv hb C8 C9 hQ;refine wb fn81 rfl ?_;obtain⟨ev,tv,lv,qs,o,C,he,ht,_,_,_⟩:=sr.obj;obtain⟨ie,rfl,U⟩:=he.Ak;obtain⟨it,rfl,W⟩:=ht.Ak;have g0:=(c.mv.aH _ _ o C).1;simp[dw.cA,dw.kd,dw.pos,dw.uT,dw.uU]at g0 o;have ni:idx≠h.nx:=by have:=aw c.fr g0;omega
 simp only[jk]at hQ;have K1:aJ h (h.alloc (.C [.I 4,.N,.N,.N,.Z])).2:=kT;have Z:(h.alloc (.C [.I 4,.N,.N,.N,.Z])).2.get h.nx=some (.C [.I 4,.N,.N,.N,.Z]):=sp
 obtain⟨C1,lo,mY,oX⟩:=c.more K1 (i:=h.nx) (ao _) sp;have M1:=(Mv.of (B:=B) (V:=V) mY c.fr K1).s;have D:=c.fr h.nx (ao _);have F:∀x∈X,x∈h.nx::X:=λx y=>au _ y;simp[f81,g0,ni];generalize (h.alloc (.C [.I 4,.N,.N,.N,.Z])).2=h1 at*
 have A1:=rY A _ to (ao _) om y.2.1;refine A1 _ V d h1 it _ C1 W (gY.bind hQ F M1 (λp h2 q=>U7 q) λt d1 v h2 hr b C2 w2 M2 m2=>?_);obtain⟨a,rfl,t2⟩:=w2;have A2:=D8 A y.2.1 c.ok hr;have ln:=Cn A2.1 om;have go2:=m2.lk _ _ lo Z;obtain⟨g,m3⟩:=C2.put (bc ..) lo (.C [.I 4,.N,.P a,.N,.Z]);have M3:=M2.put (bc ..) D (ao _) (.C [.I 4,.N,.P a,.N,.Z]);have m:(h2.set h.nx (.C [.I 4,.N,.P a,.N,.Z])).get h.nx=some (.C [.I 4,.N,.P a,.N,.Z]):=sp
 have t3:=t2.move m3;have j:=(g.mv.aH _ _ o C).1;simp[go2];generalize h2.set h.nx (.C [.I 4,.N,.P a,.N,.Z])=h3 at*;obtain⟨A3,I,CL,_⟩:=t3.obj;have g3:=I;simp only[Hd.cs]at g3;unfold TX.place at b;refine eF [0,1,2,3,4,17,18,19,20,5,6,7,8,9,10,11,12,13,14,15,16,21] kr (by simp[cz,dG];rfl) kr ?_;simp[m,j];have KB:=(aJ.refl h3).bump 22;refine(yw (show(h3.bump 22).get a=some (.C (t.d.cs V.vs A3))from I)).m1 λh4 hq=>?_;subst hq;cases hA:zq t.d.kd with
 |false=>
  simp only[hA,gR]at b;simp;refine dm ?_;refine fI p false _ _ _ (λh6 _ k6=>?_) (λh6 hh _=>by cases hh);have J:=KB.trans k6;exact⟨dc,λ_=>by simpa using b _ ((M3.toMove.comp (Move.k g.fr J)).comp (Move.less F)) (J.fresh g.fr)⟩
 |true=>
  simp only[hA,dZ]at b;simp[m,g3];refine dm ?_;refine qL A (g.aH KB) _ (show t.ty.length<=100000 from om) _ λh5 k5=>?_;have O:=KB.trans k5;have F0:=(O.old _ (aw g.fr j)).trans j;simp;refine dm ?_;refine wH (g.aH O) b F (M3.comp (Mv.k g.fr O).s) (λh2 q=>⟨dc,λ_=>U7 q⟩) λh6 F1 A4 C6 k6 M6=>?_;have R:=O.trans k6;have K:=(R.old _ (aw g.fr m)).trans m;have A5:=(R.old _ (aw g.fr j)).trans j;have g6:=(R.old _ (aw g.fr g3)).trans g3;have t6:=t3.move (Move.k g.fr R);simp;refine dl ?_;refine Dd ?_;simp[K,A5,g6];have w:=(aJ.refl h6).bump 17;refine D9 A (rY A _ e (ao _) om y.2.2) y.2.2 om (C6.aH w) U ln _ (gY.bind A4 F (M6.comp (Mv.k C6.fr w).s) (λp h2 q=>⟨dc,λ_=>U7 q⟩) λu d7 v h7 F2 Au C7 w7 M7 m7=>?_);obtain⟨C4,rfl,t7⟩:=w7;have N:=(Mv.k (B:=B) (V:=V) (X:=h.nx::X) C6.fr w).comp m7;have C5:=N.lk _ _ lo K;simp[C5];refine dm ?_;exact vR (v:=none) C7 ⟨[],sp⟩ F c.xl (bc ..) (ao _) D lo M7 sp (.inr ⟨a,t,rfl,rfl,t6.move N.toMove⟩) (.inr ⟨C4,u,rfl,rfl,t7⟩) Au
theorem LU(O:Stat S B X0 h0){rt:bu}{p:Pl}{ty nm:bu}(g:(dw.decl p ty nm none).al PT TL):KS S B X0 h0 rt (.decl p ty nm none):=by
 intro X V d h idx Q c sr hv R A1 A2 U;refine wb fn81 rfl ?_;obtain⟨ev,tv,lv,qs,a,b,he,ht,_,_,_⟩:=sr.obj;obtain rfl:=he.oB;obtain rfl:=ht.oB;have g0:=(c.mv.aH _ _ a b).1;simp[dw.cA,dw.kd,dw.pos,dw.uT,dw.uU]at g0 a;have ni:idx≠h.nx:=by have:=aw c.fr g0;omega
 simp only[jk]at U;have W:aJ h (h.alloc (.C [.I 3,.N,.N,.N,.Z])).2:=kT;have w:(h.alloc (.C [.I 3,.N,.N,.N,.Z])).2.get h.nx=some (.C [.I 3,.N,.N,.N,.Z]):=sp
 obtain⟨u,lo,mY,oX⟩:=c.more W (i:=h.nx) (ao _) sp;have M1:=(Mv.of (B:=B) (V:=V) mY c.fr W).s;have y:=c.fr h.nx (ao _);have Z:∀x∈X,x∈h.nx::X:=λx g=>au _ g;have A:=(u.mv.aH _ _ a b).1;have C:ty.length<=70000:=g.2.1;simp[f81,g0,ni];generalize (h.alloc (.C [.I 3,.N,.N,.N,.Z])).2=h1 at*;have A3:=u.xl _ (bc ..);refine Dd ?_;simp[A];have KB:=(aJ.refl h1).bump 18;have vh:=Ea (S:=S) O.ok c.ok R nm ty g.2.1 false p;have D:=FM (S:=S) nm ty false p d;refine xM O (u.aH KB) nm ty false p C (by simp only[dw.nodes]at hv;omega) R _ (gY.binds U Z (M1.comp (Mv.k u.fr KB).s) (λp h2 q=>⟨dc,λ_=>U7 q⟩) λk d2 v m Y2 h2 hr F gw sy C2 w2 M2 m2=>?_);obtain⟨rfl,hk⟩:=w2;rw[hr]at vh D;have o:=m2.gr _ IN lo;have go2:=m2.lk _ _ IN lo w;have I:=(C2.mv.aH _ _ a b).1;have t:h.nx∈Y2:=sy _ (bc ..);have J:∀x∈X,x∈Y2:=λx g=>sy _ (Z x g);simp[go2,I,ni];obtain⟨C3,m3⟩:=C2.put t o (.C [.I 3,.ptr (vP m.vs (some k)),.N,.N,.Z]);have M3:=M2.put t y (ao _) (.C [.I 3,.ptr (vP m.vs (some k)),.N,.N,.Z]);have K:(h2.set h.nx (.C [.I 3,.ptr (vP m.vs (some k)),.N,.N,.Z])).get h.nx=some (.C [.I 3,.ptr (vP m.vs (some k)),.N,.N,.Z]):=sp
 have N:=(C3.mv.aH _ _ a b).1;refine dl ?_;generalize h2.set h.nx (.C [.I 3,.ptr (vP m.vs (some k)),.N,.N,.Z])=h3 at*
 try simp[N]
 exact kW (v:=some k) (qs:=[]) C3 gw J c.xl (ao _) o M3 K (λj e=>by injection e with e;omega) (.inl ⟨rfl,rfl⟩) (.inl ⟨rfl,rfl⟩) (.inl ⟨rfl,rfl⟩) (by simp[aT]) sp F
theorem LV(O:Stat S B X0 h0){rt:bu}{p:Pl}{ty nm:bu}{e:Ex}(o:(dw.decl p ty nm (some e)).al PT TL)(hn:e.nodes<=250):KS S B X0 h0 rt (.decl p ty nm (some e)):=by
 intro X V d h idx Q c sr hv hb F4 F5 hQ;refine wb fn81 rfl ?_;obtain⟨ev,tv,lv,qs,b,g,he,ht,_,_,_⟩:=sr.obj;obtain⟨ie,rfl,W⟩:=he.Ak;obtain rfl:=ht.oB;have g0:=(c.mv.aH _ _ b g).1;simp[dw.cA,dw.kd,dw.pos,dw.uT,dw.uU]at g0 b;have ni:idx≠h.nx:=by have:=aw c.fr g0;omega
 simp only[jk]at hQ;have K1:aJ h (h.alloc (.C [.I 3,.N,.N,.N,.Z])).2:=kT;have Z:(h.alloc (.C [.I 3,.N,.N,.N,.Z])).2.get h.nx=some (.C [.I 3,.N,.N,.N,.Z]):=sp
 obtain⟨R,lo,mY,oX⟩:=c.more K1 (i:=h.nx) (ao _) sp;have M1:=(Mv.of (B:=B) (V:=V) mY c.fr K1).s;have F:=c.fr h.nx (ao _);have hs:∀x∈X,x∈h.nx::X:=λx o=>au _ o;have A1:=(R.mv.aH _ _ b g).1;have A2:ty.length<=70000:=o.2.1;simp[f81,g0,ni];generalize (h.alloc (.C [.I 3,.N,.N,.N,.Z])).2=h1 at*;have F6:=R.xl _ (bc ..);refine Dd ?_;simp[A1];have KB:=(aJ.refl h1).bump 18;have vh:=Ea (S:=S) O.ok c.ok hb nm ty o.2.1 false p;have I:=FM (S:=S) nm ty false p d;refine xM O (R.aH KB) nm ty false p A2 (by simp only[dw.nodes]at hv;omega) hb _ (gY.binds hQ hs (M1.comp (Mv.k R.fr KB).s) (λp h2 q=>⟨dc,λ_=>U7 q⟩) λk d2 v t Y2 h2 hr A3 gw sy C2 w2 M2 m2=>?_);obtain⟨rfl,hk⟩:=w2;rw[hr]at vh I;have w:=m2.gr _ IN lo;have go2:=m2.lk _ _ IN lo Z;have A4:=(C2.mv.aH _ _ b g).1;have y:h.nx∈Y2:=sy _ (bc ..);have A:∀x∈X,x∈Y2:=λx o=>sy _ (hs x o);simp[go2,A4,ni];obtain⟨J,m3⟩:=C2.put y w (.C [.I 3,.ptr (vP t.vs (some k)),.N,.N,.Z]);have M3:=M2.put y F (ao _) (.C [.I 3,.ptr (vP t.vs (some k)),.N,.N,.Z]);have m:(h2.set h.nx (.C [.I 3,.ptr (vP t.vs (some k)),.N,.N,.Z])).get h.nx=some (.C [.I 3,.ptr (vP t.vs (some k)),.N,.N,.Z]):=sp
 have A5:=(J.mv.aH _ _ b g).1;refine dl ?_;generalize h2.set h.nx (.C [.I 3,.ptr (vP t.vs (some k)),.N,.N,.Z])=h3 at*;obtain⟨n,rfl,Au⟩:=I;obtain⟨a,ha⟩:∃a,t.vs[d.vs.length]?=some a:=⟨_,aj hk⟩
 have C5:d2.vs[d.vs.length]?=some ⟨nm,ty,n,false,false,sN S ty⟩:=by rw[Au];simp
 have K:=J.vs _ a _ ha C5;simp only[Vr.cs]at K;have N:vP t.vs (some d.vs.length)=some (a,0):=by simp[vP,ha]
 rw[N]at m;refine Dd ?_;simp[m,A5,K];refine dl ?_;have C:=(aJ.refl h3).bump 13;refine wH (J.aH C) A3 A (M3.comp (Mv.k J.fr C).s) (λh2 q=>⟨dc,λ_=>U7 q⟩) λh4 F7 C6 U k4 M4=>?_;have C8:=C.trans k4;have C9:=(C8.old _ (aw J.fr m)).trans m;have CL:=(U.mv.aH _ _ b g).1;simp;refine dl ?_;refine Dd ?_;simp[CL];have D:=(aJ.refl h4).bump 14;refine D9 O (rY O _ e (ao _) hn o.2.2) o.2.2 om (U.aH D) W om _ (gY.bind C6 A (M4.comp (Mv.k U.fr D).s) (λp h2 q=>⟨dc,λ_=>U7 q⟩) λu d7 v h7 FF F0 C7 w7 M7 m7=>?_);obtain⟨F1,rfl,t7⟩:=w7;have F2:=(Mv.k (B:=B) (V:=t) (X:=Y2) U.fr D).comp m7;have F3:=F2.lk _ _ w C9;simp[F3];refine dm ?_;have fin:=vR (v:=some d.vs.length) C7 gw A c.xl y (ao _) F w M7 (λj e=>by injection e with e;omega) (.inl ⟨rfl,rfl⟩) (.inr ⟨F1,u,rfl,rfl,t7⟩) F0;rw[N]at fin;exact fin
end
end
section
theorem uC{P:Pl->Prop}{T:bu->Prop}:∀{xs:List Sm}{x:Sm},PC P T xs->x∈xs->x.al P T
 |[],_,_,h=>by cases h
 |y::a,x,⟨h1,h2⟩,h=>by
  rcases ak.1 h with rfl|h
  ·exact h1
  ·exact uC h2 h
section
variable{S:Sc}{B:CB}{X0:cB}{h0:ah}{X Y:cB}{V V':CV}{d:Dn}{h h1 h2:ah}{P:Pl->Prop}
theorem LW(hS:Stat S B X0 h0){rt:bu}{p:Pl}{l:List Sm}(IH:∀x∈l,KS S B X0 h0 rt x)(U:(dw.block p l).al PT TL)(hl:l.length<=250):KS S B X0 h0 rt (.block p l):=by
 intro X V d h idx Q c sr hv a HP F7 hQ;refine wb fn81 rfl ?_;obtain⟨ev,tv,lv,qs,F0,FF,he,ht,FO,Z,FP⟩:=sr.obj;obtain rfl:=he.oB;obtain rfl:=ht.oB;replace Z:qs.map Prod.snd=l:=Z;have ql:qs.length=l.length:=by rw[<-Z];simp
 obtain⟨FQ,rfl⟩:∃ab,lv= .slice ab l.length:=by
  rcases FO with⟨e,rfl⟩|⟨b,rfl,_⟩
  ·exact⟨none,by rw[<-ql,e];rfl⟩
  ·exact⟨_,by rw[ql]⟩
 have g0:=(c.mv.aH _ _ F0 FF).1;simp[dw.cA,dw.kd,dw.pos,dw.uT,dw.uU]at g0 F0;have ni:idx≠h.nx:=by have:=aw c.fr g0;omega
 simp only[jk]at hQ;have K1:aJ h (h.alloc (.C [.I 1,.N,.N,.N,.Z])).2:=kT;have FW:(h.alloc (.C [.I 1,.N,.N,.N,.Z])).2.get h.nx=some (.C [.I 1,.N,.N,.N,.Z]):=sp
 obtain⟨C1,lo,mY,oX⟩:=c.more K1 (i:=h.nx) (ao _) sp;have M1:=(Mv.of (B:=B) (V:=V) mY c.fr K1).s;have G2:=c.fr h.nx (ao _);have hs:∀x∈X,x∈h.nx::X:=λx U=>au _ U;have KK:=(C1.mv.aH _ _ F0 FF).1;obtain⟨KL,c1,_⟩:=C1.c;obtain⟨KT,G3⟩:=C1.FK;simp only[CB.ob,G3]at c1;have nr:B.r≠h.nx:=lo.r.symm;obtain⟨KX,c0,_⟩:=c.c;simp only[CB.ob,G3]at c0;simp[f81,g0,ni,c0,nr];generalize (h.alloc (.C [.I 1,.N,.N,.N,.Z])).2=h1 at*;obtain⟨o,HU⟩:∃o,o=h.nx:=⟨_,rfl⟩
 rw[<-HU]at FW lo G2 hs C1 M1 oX⊢;have oN:h.nx<=o:=om
 have ho:o∈o::X:=bc ..;have CL:=C1;have ML:=M1;have HZ:=FW;have G4:=a;have Hc:=U.2;obtain⟨dd,K⟩:∃dd,dd=d:=⟨_,rfl⟩
 obtain⟨eo,I0⟩:∃eo:Option TX,eo=none:=⟨_,rfl⟩
 have I1:qB (o::X) V.vs h1 (.N) eo:= .inl ⟨rfl,I0⟩;simp only[dw.nodes]at hv F7;obtain⟨A1,C3⟩:∃A1:List TS->Dn->Rs TS,A1=(λts e=> .ok (.mk 1 none none none ts) {e with seen:=e.seen.take d.seen.length}):=⟨_,rfl⟩
 have I2:gY S B X0 h0 X V WU h Q ((wW S rt (l.drop 0) dd).bind λts e=>A1 (([]:List (Nat×TS)).map Prod.snd++ts) e):=by rw[C3,K];exact hQ
 rw[<-K]at CL G4 hv HP F7;obtain⟨J,hJ⟩:∃J:Nat->St->Prop,J=(λm x=>∃(i:Nat)(d':Dn)(av:AV)(qt:List (Nat×TS))(Y:cB)(V':CV),i<=l.length/\m=l.length-i/\x.n=298/\x.ds=[]/\x.bX=false/\cJ S B X0 h0 Y V' d' x.h/\(∃ws,V'.vs=V.vs++ws)/\(∀x∈X,x∈Y)/\o∈Y/\Loc B V' o/\yz B V V' X Y h x.h/\x.h.get o=some (.C [.I 1,.N,.N,.N,av])/\cQ [] x.h av qt/\qt.length=i/\
  (∀b∈aT av,b∈Y/\Loc B V' b/\h.nx<=b/\b≠o)/\(∀q∈qt,sO Y V'.vs x.h q.1 q.2)/\gY S B X0 h0 X V WU h Q ((wW S rt (l.drop i) d').bind λts e=>A1 (qt.map Prod.snd++ts) e)/\(∃n,DS dd d' n/\n+eh (l.drop i)<=eh l)/\qB Y V'.vs x.h (.N) eo/\
  x.rg.get 0=some (.P B.r)/\x.rg.get 1=some (.P idx)/\x.rg.get 5=some (.P o)/\x.rg.get 6=some (.I d.seen.length)/\x.rg.get 31=some (.slice FQ l.length)/\x.rg.get 32=some (.I l.length)/\x.rg.get 33=some (.I i)):=⟨_,rfl⟩
 refine bz J l.length ?_ ?_
 ·rw[hJ];exact⟨0,dd,.Z,[],_,V,bJ _,rfl,rfl,rfl,rfl,CL,⟨[],sp⟩,hs,ho,lo,ML,HZ,.inl ⟨rfl,rfl⟩,rfl,by simp[aT],sp,I2,⟨0,DS.refl CL.ok G4,sp⟩,I1,sp,sp,sp,sp,sp,sp,sp⟩
 intro m x U;rw[hJ]at U;obtain⟨rg,n',H,ds,bX⟩:=x;obtain⟨i,d',av,qt,Y,V',hi,rfl,e1,e2,e3,A,⟨ws,gw⟩,F1,I3,A2,MH,D,A3,N,y,tH,I,⟨nn,C,G5⟩,C4,r0,r1,r5,e6,rl,rn,ri⟩:=U;dsimp only at e1 e2 e3 A MH D A3 tH C4 r0 r1 r5 e6 rl rn ri;subst e1 e2 e3;by_cases F:i<l.length
 ·have O:i<qs.length:=by omega
  have GL:(i:Int)<(l.length:Int):=by omega
  have wi:=U8 i
  obtain⟨b0,I4,I5,Gq⟩:∃b,FQ=some (b,0)/\b∉X0/\h0.get b=some (.D 1 (qs.map λp=> .P p.1)):=by
   rcases FO with⟨e,_⟩|⟨b,e,a,g⟩
   ·rw[e]at O;simp at O
   ·injection e with e _;exact⟨b,e,a,g⟩
  subst I4;have I6:=(A.mv.aH _ _ Gq I5).1;have IB:(qs.map λp=>AV.P p.1)[i]?=some (.P qs[i].1):=by rw[bt,aj O];rfl
  have Ia:qs[i].2=l[i]:=by
   have:(qs.map Prod.snd)[i]?=l[i]?:=(by rw[Z]);rw[bt,aj O,aj F]at this;simpa using this
  have H2:=FP _ (bk O);rw[Ia]at H2;have H3:∃ab,av= .slice ab i:=by
   rcases A3 with⟨e,rfl⟩|⟨b,rfl,_⟩
   ·rw[e]at N;exact⟨none,by rw[<-N];rfl⟩
   ·exact⟨_,by rw[N]⟩
  obtain⟨A4,rfl⟩:=H3;rw[bs F]at I G5;simp only[wW,Rs.bind_assoc,Rs.fP]at I;simp only[eh]at G5;have Kc:=C.lo;have L0:=C.hi;have L1:=C.lp;simp[-aK,rl,rn,ri,GL,I6,IB];refine Dd ?_;simp[-aK,r0,r5,D];have KH:=(aJ.refl H).bump 13;refine IH _ (bk F) Y V' d' (H.bump 13) _ _ (A.aH KH) H2 om C.st om om (gY.binds I F1 (MH.comp (Mv.k A.fr KH).s) (λp h2 q=>⟨dc,λ_=>U7 q⟩) λt d5 v V5 Y5 R Ik J2 ⟨F2,F3⟩ F4 c7 w7 M7 m7=>?_);obtain⟨H4,rfl,t7⟩:=w7;have H5:=vQ (rt:=rt) hS.ok l[i] d' C.ok C.st om om (uC Hc (bk F));rw[Ik]at H5;have Li:=aw A.fr D;have A5:=m7.lk _ _ (show o<H.nx+13 from om) A2 D;have H6:=m7.gr _ (show o<H.nx+13 from om) A2;have J3:H.nx+8∉Y:=λU=>by have:=A.xl _ U;omega
  have n8:=m7.no (H.nx+8) sp (Loc.fresh A J3) (by simpa using A.fr (H.nx+8) om);have K0:=m7.nx;simp only[ah.jF]at K0;have H8:cQ [] R (.slice A4 i) qt:=by
   rcases A3 with e|⟨b,e,a,g⟩
   ·exact .inl e
   ·exact .inr ⟨b,e,a,m7.lk _ _ (show b<H.nx+13 by have:=aw A.fr g;omega) (y b (by rw[e];simp[aT])).2.1 g⟩
  have K2:∀q∈qt,sO Y5 V5.vs R q.1 q.2:=λq W=>by rw[F3];exact((tH q W).grow F2).move ((Move.k A.fr KH).comp m7.toMove)
  have H9:qB Y5 V5.vs R (.N) eo:=by rw[F3];exact(C4.grow F2).move ((Move.k A.fr KH).comp m7.toMove)
  have K3:∀b∈aT (.slice A4 i),b∈Y5/\Loc B V5 b:=λb a=>⟨F4 b (y b a).1,m7.gr b (by have:=A.xl b (y b a).1;simp;omega) (y b a).2.1⟩
  obtain⟨H7,C5,K4,C6,c8,Au,C7,K5,K6⟩:=c7.push (st:=198) (e:=80) rfl ty80.1 ty80.2.1 dc ty80.2.2.2 H8 om K3 n8 om H4 t;rw[N]at C5 C6;have K7:o∉aT (.slice A4 i):=λa=>(y o a).2.2.2 rfl;have HA:=C7 _ _ K7 A5;simp[-aK];refine dn (And.intro A5 D) ?_;simp[-aK,n8];rw[C5];simp[-aK,ri,HA,wi];refine dn (And.intro HA (And.intro A5 D)) ?_;have lt7:=aw c7.fr A5;have HC:∀j,j<h.nx->j∉aT (.slice A4 i):=λj hj a=>by have:=(y j a).2.2.1;omega
  have M8:yz B V V5 X (R.nx::Y5) h H7:=⟨M7.toMove.comp Au,λj o' lt l g=>C7 j o' (HC j lt) (M7.lk j o' lt l g),λj lt l g=>K5 j (by have:=M7.nx;omega) (by have:=MH.nx;omega) (HC j lt) (M7.no j lt l g),by rw[K4];have:=M7.nx;omega,M7.gr⟩
  have F5:o∈R.nx::Y5:=au _ (F4 _ I3);have M9:=M8.put F5 G2 oN (.C [.I 1,.N,.N,.N,.S R.nx (i+1)]);obtain⟨c9,m9⟩:=c8.put F5 H6 (.C [.I 1,.N,.N,.N,.S R.nx (i+1)]);refine⟨l.length-(i+1),om,?_⟩;rw[hJ];refine⟨i+1,d5,.S R.nx (i+1),qt++[(H4,t)],R.nx::Y5,V5,F,rfl,rfl,rfl,rfl,c9,⟨ws++F2,by rw[F3,gw,aU]⟩,λx U=>au _ (F4 _ (F1 x U)),F5,H6,M9,sp,?_,by simp[N],?_,?_,?_,⟨nn+l[i].nodes,C.trans H5,om⟩,H9.move (Au.comp m9),by simp[r0],by simp[r1],by simp[r5],by simp[e6],by simp[rl],by simp[rn],sp⟩
  ·rcases C6 with⟨e,_⟩|⟨b,e,a,g⟩
   ·simp at e
   ·injection e with e _;injection e with e;injection e with e _;subst e;exact .inr ⟨R.nx,by simp[N],a,by rw[ah.aM,ay om];exact g⟩
  ·intro b a;have a:b∈[R.nx]:=a;simp only[aQ]at a;subst a;exact⟨bc ..,K6,M7.nx,om⟩
  ·intro q W;rcases aP.1 W with W|W
   ·exact(K2 q W).move (Au.comp m9)
   ·simp only[aQ]at W;subst W;exact t7.move (Au.comp m9)
  ·simpa only[fU,bL,iL,aU,aI,aX]using J2
 ·have K8:i=l.length:=by omega
  subst K8;rw[dV]at I;simp only[wW,Rs.fP,fi]at I;have HE:∀b∈aT av,Loc B V' b/\h.nx<=b:=λb a=>⟨(y b a).2.1,(y b a).2.2.1⟩
  obtain⟨w,hw⟩:=C.sn;have hle:d.seen.length<=d'.seen.length:=by rw[hw,aO,K];omega
  have C2:d'.seen.take d.seen.length=d.seen:=by rw[hw,K,List.take_left]
  have C8:(d.seen.length:Int)<=(d'.seen.length:Int):=by omega
  obtain⟨KA,oH,vH⟩:=A.c;obtain⟨u,sH⟩:=A.FK;have C9:aT (.slice u d.seen.length)=aT V'.sa:=by
   rw[sH];cases u with
   |none=>rfl
   |some p=>cases p;rfl
  have KB:∀G:ah,(∀b L,V'.sa= .S b d'.seen.length->H.get b=some (.D 1 L)->G.get b=some (.D 1 L))->kI G ⟨V'.vs,V'.va,.slice u d.seen.length⟩ {d' with seen:=d'.seen.take d.seen.length}:=λG hG=>by
   rcases A.sa with⟨e,e2⟩|⟨b,L,e,g,t,l1,l2⟩
   ·rw[e2]at hle;have z:d.seen.length=0:=(U7 hle);rw[sH]at e;injection e with e _;refine .inl ⟨?_,by simp only[e2];simp⟩;simp only[e,z]
   ·have e':=e;rw[sH]at e';injection e' with e' _;refine .inr ⟨b,L,?_,hG b L e g,?_,?_,l2⟩
    ·simp only[C2,e']
    ·simp only[C2];have:(L.take d'.seen.length).take d.seen.length=(d'.seen.map λk=>AV.ptr (vP V'.vs (some k))).take d.seen.length:=(by rw[t]);rw[List.take_take,qR hle,<-List.map_take,C2]at this;exact this
    ·simp only[C2];omega
  have HG:=(C.block (K▸c.ok)).ok;rw[K]at HG;obtain⟨cN,mN⟩:=A.LJ (V':=⟨V'.vs,V'.va,.slice u d.seen.length⟩) (d':={d' with seen:=d'.seen.take d.seen.length}) (ov:=KA) ⟨rfl,rfl,C9⟩ ⟨rfl,rfl⟩ (KB _ λb L e g=>by rw[ah.aM,ay (λe2=>by rw[e2,oH]at g;simp at g)];exact g) (vH.move (Move.on _ A.own.r)) HG;have MN:yz B V' ⟨V'.vs,V'.va,.slice u d.seen.length⟩ Y Y H _:=⟨mN.toMove,λi o _ l g=>mN.lk i o l g,mN.no,mN.nx,λi _ l=>⟨l.r,l.f,l.n,l.v,l.va,by rw[C9];exact l.sa⟩⟩
  have KC:=MN.gr o (aw A.fr D) A2;have goN:=mN.lk _ _ A2 D;have F6:=oH;simp only[CB.ob,sH]at F6;have sc:(u=none/\d.seen.length=0)\/∃b L,u=some (b,0)/\H.get b=some (.D 1 L):=by
   rcases A.sa with⟨e,e2⟩|⟨b,L,e,g,_⟩
   ·rw[e2]at hle;rw[sH]at e;injection e with e _;exact .inl ⟨e,U7 hle⟩
   ·rw[sH]at e;injection e with e _;exact .inr ⟨b,L,e,g⟩
  have fin:=kW (v:=none) cN ⟨ws,gw⟩ F1 c.xl oN KC (MH.comp MN) goN sp (.inl ⟨rfl,rfl⟩) (.inl ⟨rfl,rfl⟩) (by rcases A3 with e|⟨b,e,a,g⟩;exact .inl e;exact .inr ⟨b,e,a,mN.lk _ _ (y b (by rw[e];simp[aT])).2.1 g⟩) (λb a=>⟨MN.gr b (A.xl b (y b a).1) (HE b a).1,(HE b a).2⟩) (λq W=>(tH q W).move mN.toMove) (Q:=Q) (by rw[C3]at I;exact I);simp only[CB.ob]at fin;rcases sc with⟨rfl,z⟩|⟨b,L,rfl,KF⟩
  ·rw[z]at fin e6 hle C8;simp[-aK,r0,r5,e6,rn,ri,F6];exact fin
  ·simp[-aK,r0,r5,e6,rn,ri,F6,C8,KF];exact fin
end
end
section
theorem rF:∀xs:List Sm,xs.length<=eh xs
 |[]=>by simp
 |x::xs=>by
  have:=rF xs;have:=x.pz;simp only[eh,ai];omega
section
variable{S:Sc}{B:CB}{X0:cB}{h0:ah}{X Y:cB}{V V':CV}{d:Dn}{h h1 h2:ah}{P:Pl->Prop}
theorem PE(hS:Stat S B X0 h0){rt:bu}{x:Sm}{e:Ex}{l:List Sm}(hk:x.kd=6)(HC:x.eO=some e)(HE:x.Ho=none)(HG:x.list=l)(HP:∀d,jk S rt x d=(ux S (jv S e d) e.pos).bind λt d1=>(wW S rt l d1).bind λts e=> .ok (.mk 6 none none (some t) ts) e)
 (IH:∀x∈l,KS S B X0 h0 rt x) (hex:e.al PT TL) (HU:PC PT TL l) (hn:e.nodes+eh l+1=x.nodes) (KX:x.nodes<=250):KS S B X0 h0 rt x:=by
 intro X V d h idx Q c sr hv u F5 HZ hQ;rw[HP]at hQ;refine wb fn81 rfl ?_;obtain⟨ev,tv,lv,qs,w,C7,he,ht,F6,R,F7⟩:=sr.obj;rw[HC]at he;rw[HE]at ht;rw[HG]at R;obtain⟨ie,rfl,Hc⟩:=he.Ak;obtain rfl:=ht.oB;simp only[dw.cA,hk]at w;generalize x.pos.1=Kc at w;generalize x.pos.2=L0 at w;generalize x.uT=L1 at w;generalize x.uU=Li at w;generalize x.cR=Lj at w;generalize x.nodes=nx at*;replace R:qs.map Prod.snd=l:=R;have ql:qs.length=l.length:=by rw[<-R];simp
 obtain⟨FF,rfl⟩:∃ab,lv= .slice ab l.length:=by
  rcases F6 with⟨e,rfl⟩|⟨b,rfl,_⟩
  ·exact⟨none,by rw[<-ql,e];rfl⟩
  ·exact⟨_,by rw[ql]⟩
 have Lk:l.length<=eh l:=rF l;have hl:l.length<=250:=om
 have g0:=(c.mv.aH _ _ w C7).1;have ni:idx≠h.nx:=by have:=aw c.fr g0;omega
 have K1:aJ h (h.alloc (.C [.I 6,.N,.N,.N,.Z])).2:=kT;have FO:(h.alloc (.C [.I 6,.N,.N,.N,.Z])).2.get h.nx=some (.C [.I 6,.N,.N,.N,.Z]):=sp
 obtain⟨C1,lo,mY,oX⟩:=c.more K1 (i:=h.nx) (ao _) sp;have M1:=(Mv.of (B:=B) (V:=V) mY c.fr K1).s;have C8:=c.fr h.nx (ao _);have hs:∀x∈X,x∈h.nx::X:=λx hx=>au _ hx;simp[f81,g0,ni];generalize (h.alloc (.C [.I 6,.N,.N,.N,.Z])).2=h1 at*;obtain⟨o,I0⟩:∃o,o=h.nx:=⟨_,rfl⟩
 rw[<-I0]at FO lo C8 hs C1 M1 oX⊢;have oN:h.nx<=o:=om
 have ho:o∈o::X:=bc ..;have C:(ux S (jv S e d) e.pos).H (λ_ d'=>DS d d' 0) PT:=pR (I:=DI d 0) (P:=PT) (j9 (I:=DI d 0) (P:=PT) (T:=TL) e d (DS.refl c.ok u) hex) trivial;refine xK hS (rY hS _ e (ao _) om hex) hex om C1 Hc _ (gY.bind hQ hs M1 (λp h2 q=>U7 q) λt d1 v h2 hr I1 C2 w2 M2 m2=>?_);obtain⟨a,rfl,t2⟩:=w2;rw[hr]at C;have C:DS d d1 0:=C;have go2:=m2.lk _ _ lo FO;have I2:=(C2.mv.aH _ _ w C7).1;have no:idx≠o:=om
 obtain⟨C3,m3⟩:=C2.put ho lo (.C [.I 6,.N,.N,.P a,.Z]);have M3:=M2.put ho C8 oN (.C [.I 6,.N,.N,.P a,.Z]);have FP:(h2.set o (.C [.I 6,.N,.N,.P a,.Z])).get o=some (.C [.I 6,.N,.N,.P a,.Z]):=sp
 have t3:=t2.move m3;have FQ:=C.hi;have FW:d1.loops=d.loops:=C.lp;obtain⟨eo,G2⟩:∃eo:Option TX,eo=some t:=⟨_,rfl⟩
 simp[go2,I2,no];generalize h2.set o (.C [.I 6,.N,.N,.P a,.Z])=h3 at*;have CL:=C3;have ML:=M3;have I3:=FP;have I4:qB (o::X) V.vs h3 (.P a) eo:= .inr ⟨a,t,rfl,G2,t3⟩;obtain⟨dd,G3⟩:∃dd,dd=d1:=⟨_,rfl⟩
 rw[<-G3]at CL C FQ FW;have I5:=C.st;replace hv:dd.vs.length+eh l<=290:=om
 have KT:=F5;replace F5:-1000<=dd.loops:=om
 replace HZ:dd.loops+eh l<=1000:=om
 obtain⟨A1,Au⟩:∃A1:List TS->Dn->Rs TS,A1=(λts e=> .ok (.mk 6 none none eo ts) e):=⟨_,rfl⟩
 have I6:gY S B X0 h0 X V WU h Q ((wW S rt (l.drop 0) dd).bind λts e=>A1 (([]:List (Nat×TS)).map Prod.snd++ts) e):=by rw[Au,G3,G2];exact I1
 obtain⟨J,hJ⟩:∃J:Nat->St->Prop,J=(λm x=>∃(i:Nat)(d':Dn)(av:AV)(qt:List (Nat×TS))(Y:cB)(V':CV),i<=l.length/\m=l.length-i/\x.n=298/\x.ds=[]/\x.bX=false/\cJ S B X0 h0 Y V' d' x.h/\(∃ws,V'.vs=V.vs++ws)/\(∀x∈X,x∈Y)/\o∈Y/\Loc B V' o/\yz B V V' X Y h x.h/\x.h.get o=some (.C [.I 6,.N,.N,.P a,av])/\cQ [] x.h av qt/\qt.length=i/\
  (∀b∈aT av,b∈Y/\Loc B V' b/\h.nx<=b/\b≠o)/\(∀q∈qt,sO Y V'.vs x.h q.1 q.2)/\gY S B X0 h0 X V WU h Q ((wW S rt (l.drop i) d').bind λts e=>A1 (qt.map Prod.snd++ts) e)/\(∃n,DS dd d' n/\n+eh (l.drop i)<=eh l)/\qB Y V'.vs x.h (.P a) eo/\
  x.rg.get 0=some (.P B.r)/\x.rg.get 1=some (.P idx)/\x.rg.get 5=some (.P o)/\x.rg.get 196=some (.slice FF l.length)/\x.rg.get 197=some (.I l.length)/\x.rg.get 198=some (.I i)):=⟨_,rfl⟩
 refine bz J l.length ?_ ?_
 ·rw[hJ];exact⟨0,dd,.Z,[],_,V,bJ _,rfl,rfl,rfl,rfl,CL,⟨[],sp⟩,hs,ho,lo,ML,I3,.inl ⟨rfl,rfl⟩,rfl,by simp[aT],sp,I6,⟨0,DS.refl CL.ok I5,sp⟩,I4,sp,sp,sp,sp,sp,sp⟩
 intro m x hx;rw[hJ]at hx;obtain⟨rg,n',H,ds,bX⟩:=x;obtain⟨i,d',av,qt,Y,V',hi,rfl,e1,e2,e3,N,⟨ws,gw⟩,C9,IB,F0,MH,D,A2,O,y,tH,F,⟨nn,K,G4⟩,U,r0,r1,r5,rl,rn,ri⟩:=hx;dsimp only at e1 e2 e3 N MH D A2 tH U r0 r1 r5 rl rn ri;subst e1 e2 e3;by_cases A:i<l.length
 ·have W:i<qs.length:=by omega
  have G5:(i:Int)<(l.length:Int):=by omega
  have wi:=U8 i
  obtain⟨b0,Ia,Ik,GL⟩:∃b,FF=some (b,0)/\b∉X0/\h0.get b=some (.D 1 (qs.map λp=> .P p.1)):=by
   rcases F6 with⟨e,_⟩|⟨b,e,u,g⟩
   ·rw[e]at W;simp at W
   ·injection e with e _;exact⟨b,e,u,g⟩
  subst Ia;have J2:=(N.mv.aH _ _ GL Ik).1;have J3:(qs.map λp=>AV.P p.1)[i]?=some (.P qs[i].1):=by rw[bt,aj W];rfl
  have K0:qs[i].2=l[i]:=by
   have:(qs.map Prod.snd)[i]?=l[i]?:=(by rw[R]);rw[bt,aj W,aj A]at this;simpa using this
  have Gq:=F7 _ (bk W);rw[K0]at Gq;have H2:∃ab,av= .slice ab i:=by
   rcases A2 with⟨e,rfl⟩|⟨b,rfl,_⟩
   ·rw[e]at O;exact⟨none,by rw[<-O];rfl⟩
   ·exact⟨_,by rw[O]⟩
  obtain⟨A3,rfl⟩:=H2;rw[bs A]at F G4;simp only[wW,Rs.bind_assoc,Rs.fP]at F;simp only[eh]at G4;have Lp:=K.lo;have Lq:=K.hi;have Lt:=K.lp;simp[-aK,rl,rn,ri,G5,J2,J3];refine Dd ?_;simp[-aK,r0,r5,D];have KH:=(aJ.refl H).bump 13;refine IH _ (bk A) Y V' d' (H.bump 13) _ _ (N.aH KH) Gq om K.st om om (gY.binds F C9 (MH.comp (Mv.k N.fr KH).s) (λp h2 q=>⟨dc,λ_=>U7 q⟩) λt d5 v V5 Y5 Z K2 K3 ⟨F1,F2⟩ F3 c7 w7 M7 m7=>?_);obtain⟨H3,rfl,t7⟩:=w7;have H4:=vQ (rt:=rt) hS.ok l[i] d' K.ok K.st om om (uC HU (bk A));rw[K2]at H4;have M4:=aw N.fr D;have A4:=m7.lk _ _ (show o<H.nx+13 from om) F0 D;have H5:=m7.gr _ (show o<H.nx+13 from om) F0;have K4:H.nx+8∉Y:=λhx=>by have:=N.xl _ hx;omega
  have n8:=m7.no (H.nx+8) sp (Loc.fresh N K4) (by simpa using N.fr (H.nx+8) om);have K5:=m7.nx;simp only[ah.jF]at K5;have H6:cQ [] Z (.slice A3 i) qt:=by
   rcases A2 with e|⟨b,e,u,g⟩
   ·exact .inl e
   ·exact .inr ⟨b,e,u,m7.lk _ _ (show b<H.nx+13 by have:=aw N.fr g;omega) (y b (by rw[e];simp[aT])).2.1 g⟩
  have K6:∀q∈qt,sO Y5 V5.vs Z q.1 q.2:=λq hq=>by rw[F2];exact((tH q hq).grow F1).move ((Move.k N.fr KH).comp m7.toMove)
  have H8:qB Y5 V5.vs Z (.P a) eo:=by rw[F2];exact(U.grow F1).move ((Move.k N.fr KH).comp m7.toMove)
  have K7:∀b∈aT (.slice A3 i),b∈Y5/\Loc B V5 b:=λb u=>⟨F3 b (y b u).1,m7.gr b (by have:=N.xl b (y b u).1;simp;omega) (y b u).2.1⟩
  obtain⟨H7,C4,K8,C5,c8,A5,C6,KA,KB⟩:=c7.push (st:=198) (e:=80) rfl ty80.1 ty80.2.1 dc ty80.2.2.2 H6 om K7 n8 om H3 t;rw[O]at C4 C5;have KC:o∉aT (.slice A3 i):=λu=>(y o u).2.2.2 rfl;have H9:=C6 _ _ KC A4;simp[-aK];refine dn (And.intro A4 D) ?_;simp[-aK,n8];rw[C4];simp[-aK,ri,H9,wi];refine dn (And.intro H9 (And.intro A4 D)) ?_;have lt7:=aw c7.fr A4;have HA:∀j,j<h.nx->j∉aT (.slice A3 i):=λj hj u=>by have:=(y j u).2.2.1;omega
  have M8:yz B V V5 X (Z.nx::Y5) h H7:=⟨M7.toMove.comp A5,λj o' lt l g=>C6 j o' (HA j lt) (M7.lk j o' lt l g),λj lt l g=>KA j (by have:=M7.nx;omega) (by have:=MH.nx;omega) (HA j lt) (M7.no j lt l g),by rw[K8];have:=M7.nx;omega,M7.gr⟩
  have F4:o∈Z.nx::Y5:=au _ (F3 _ IB);have M9:=M8.put F4 C8 oN (.C [.I 6,.N,.N,.P a,.S Z.nx (i+1)]);obtain⟨c9,m9⟩:=c8.put F4 H5 (.C [.I 6,.N,.N,.P a,.S Z.nx (i+1)]);refine⟨l.length-(i+1),om,?_⟩;rw[hJ];refine⟨i+1,d5,.S Z.nx (i+1),qt++[(H3,t)],Z.nx::Y5,V5,A,rfl,rfl,rfl,rfl,c9,⟨ws++F1,by rw[F2,gw,aU]⟩,λx hx=>au _ (F3 _ (C9 x hx)),F4,H5,M9,sp,?_,by simp[O],?_,?_,?_,⟨nn+l[i].nodes,K.trans H4,om⟩,H8.move (A5.comp m9),by simp[r0],by simp[r1],by simp[r5],by simp[rl],by simp[rn],sp⟩
  ·rcases C5 with⟨e,_⟩|⟨b,e,u,g⟩
   ·simp at e
   ·injection e with e _;injection e with e;injection e with e _;subst e;exact .inr ⟨Z.nx,by simp[O],u,by rw[ah.aM,ay om];exact g⟩
  ·intro b u;have u:b∈[Z.nx]:=u;simp only[aQ]at u;subst u;exact⟨bc ..,KB,M7.nx,om⟩
  ·intro q hq;rcases aP.1 hq with hq|hq
   ·exact(K6 q hq).move (A5.comp m9)
   ·simp only[aQ]at hq;subst hq;exact t7.move (A5.comp m9)
  ·simpa only[fU,bL,iL,aU,aI,aX]using K3
 ·have KF:i=l.length:=by omega
  subst KF;rw[dV]at F;simp only[wW,Rs.fP,fi]at F;have KK:=(N.mv.aH _ _ w C7).1;have KL:∀b∈aT av,Loc B V' b/\h.nx<=b:=λb u=>⟨(y b u).2.1,(y b u).2.2.1⟩
  simp[-aK,r1,r5,rn,ri,KK];exact kW (v:=none) N ⟨ws,gw⟩ C9 c.xl oN F0 MH D sp (.inl ⟨rfl,rfl⟩) U A2 KL tH (Q:=Q) (by rw[Au]at F;exact F)
theorem LX(hS:Stat S B X0 h0){rt:bu}{x:Sm}{e:Ex}{l:List Sm}(hk:x.kd=7)(HC:x.eO=some e)(HE:x.Ho=none)(HG:x.list=l)(HP:∀d,jk S rt x d=(ux S (jv S e d) e.pos).bind λt d1=>(wW S rt l {d1 with loops:=d1.loops+1}).bind λts e=> .ok (.mk 7 none none (some t) ts) {e with loops:=e.loops-1})
 (IH:∀x∈l,KS S B X0 h0 rt x) (hex:e.al PT TL) (HU:PC PT TL l) (hn:e.nodes+eh l+1=x.nodes) (Li:x.nodes<=250):KS S B X0 h0 rt x:=by
 intro X V d h idx Q c sr hv a F5 HZ hQ;rw[HP]at hQ;refine wb fn81 rfl ?_;obtain⟨ev,tv,lv,qs,w,R,he,ht,F6,U,F7⟩:=sr.obj;rw[HC]at he;rw[HE]at ht;rw[HG]at U;obtain⟨ie,rfl,Hc⟩:=he.Ak;obtain rfl:=ht.oB;simp only[dw.cA,hk]at w;generalize x.pos.1=Lj at w;generalize x.pos.2=Lk at w;generalize x.uT=Lp at w;generalize x.uU=Lq at w;generalize x.cR=Lt at w;generalize x.nodes=nx at*;replace U:qs.map Prod.snd=l:=U;have ql:qs.length=l.length:=by rw[<-U];simp
 obtain⟨FF,rfl⟩:∃ab,lv= .slice ab l.length:=by
  rcases F6 with⟨e,rfl⟩|⟨b,rfl,_⟩
  ·exact⟨none,by rw[<-ql,e];rfl⟩
  ·exact⟨_,by rw[ql]⟩
 have M4:l.length<=eh l:=rF l;have hl:l.length<=250:=om
 have g0:=(c.mv.aH _ _ w R).1;have ni:idx≠h.nx:=by have:=aw c.fr g0;omega
 have K1:aJ h (h.alloc (.C [.I 7,.N,.N,.N,.Z])).2:=kT;have FO:(h.alloc (.C [.I 7,.N,.N,.N,.Z])).2.get h.nx=some (.C [.I 7,.N,.N,.N,.Z]):=sp
 obtain⟨C1,lo,mY,oX⟩:=c.more K1 (i:=h.nx) (ao _) sp;have M1:=(Mv.of (B:=B) (V:=V) mY c.fr K1).s;have C9:=c.fr h.nx (ao _);have hs:∀x∈X,x∈h.nx::X:=λx hx=>au _ hx;simp[f81,g0,ni];generalize (h.alloc (.C [.I 7,.N,.N,.N,.Z])).2=h1 at*;obtain⟨o,I0⟩:∃o,o=h.nx:=⟨_,rfl⟩
 rw[<-I0]at FO lo C9 hs C1 M1 oX⊢;have oN:h.nx<=o:=om
 have ho:o∈o::X:=bc ..;have F:(ux S (jv S e d) e.pos).H (λ_ d'=>DS d d' 0) PT:=pR (I:=DI d 0) (P:=PT) (j9 (I:=DI d 0) (P:=PT) (T:=TL) e d (DS.refl c.ok a) hex) trivial;refine xK hS (rY hS _ e (ao _) om hex) hex om C1 Hc _ (gY.bind hQ hs M1 (λp h2 q=>U7 q) λt d1 v h2 hr I1 C2 w2 M2 m2=>?_);obtain⟨u,rfl,t2⟩:=w2;rw[hr]at F;have F:DS d d1 0:=F;have go2:=m2.lk _ _ lo FO;have I2:=(C2.mv.aH _ _ w R).1;have no:idx≠o:=om
 obtain⟨C3,m3⟩:=C2.put ho lo (.C [.I 7,.N,.N,.P u,.Z]);have M3:=M2.put ho C9 oN (.C [.I 7,.N,.N,.P u,.Z]);have FP:(h2.set o (.C [.I 7,.N,.N,.P u,.Z])).get o=some (.C [.I 7,.N,.N,.P u,.Z]):=sp
 have t3:=t2.move m3;have Kc:=F.hi;have L0:d1.loops=d.loops:=F.lp;obtain⟨eo,FQ⟩:∃eo:Option TX,eo=some t:=⟨_,rfl⟩
 obtain⟨I3,c3,o3⟩:=C3.c;have FW:B.r≠o:=lo.r.symm;have c2:=c3;rw[ah.aM,ay FW]at c2;simp only[CB.ob]at c2;have w1:IntKind.wrap .i64 (d1.loops+1)=d1.loops+1:=wr om om;obtain⟨CL,mL⟩:=C3.LJ (V':=V) (d':={d1 with loops:=d1.loops+1}) (ov:=I3) ⟨rfl,rfl,rfl⟩ ⟨rfl,rfl⟩ (kI.set (d:={d1 with loops:=d1.loops+1}) C3.sa c3 sp) (o3.move (Move.on _ C3.own.r)) (F.ok.loop om om);have ML:=M3.comp mL.s;have G2:=mL.lk _ _ lo FP;have I4:=(CL.mv.aH _ _ w R).1;have G3:qB (o::X) V.vs _ (.P u) eo:= .inr ⟨u,t,rfl,FQ,t3.move mL.toMove⟩;simp only[CB.ob]at CL ML G2 I4 G3;have I5:idx≠B.r:=λe=>(C2.mv.aH _ _ w R).2 (e▸C2.own.r);simp[go2,I2,no,FW,c2,w1,I5];generalize (h2.set o (.C [.I 7,.N,.N,.P u,.Z])).set B.r _=h3 at*;obtain⟨dd,W⟩:∃dd:Dn,dd={d1 with loops:=d1.loops+1}:=⟨_,rfl⟩
 have e1:dd.vs=d1.vs:=by rw[W]
 have e2:dd.loops=d1.loops+1:=by rw[W]
 have e3:dd.bytes=d1.bytes:=by rw[W]
 rw[<-W]at CL;have I6:dd.bytes<=70000*dd.vs.length:=by rw[e1,e3];exact F.st
 replace hv:dd.vs.length+eh l<=290:=by rw[e1];omega
 have L1:=F5;replace F5:-1000<=dd.loops:=om
 replace HZ:dd.loops+eh l<=1000:=om
 obtain⟨A2,C5⟩:∃A2:List TS->Dn->Rs TS,A2=(λts e=> .ok (.mk 7 none none eo ts) {e with loops:=e.loops-1}):=⟨_,rfl⟩
 have IB:gY S B X0 h0 X V WU h Q ((wW S rt (l.drop 0) dd).bind λts e=>A2 (([]:List (Nat×TS)).map Prod.snd++ts) e):=by rw[C5,W,FQ];exact I1
 obtain⟨J,hJ⟩:∃J:Nat->St->Prop,J=(λm x=>∃(i:Nat)(d':Dn)(av:AV)(qt:List (Nat×TS))(Y:cB)(V':CV),i<=l.length/\m=l.length-i/\x.n=298/\x.ds=[]/\x.bX=false/\cJ S B X0 h0 Y V' d' x.h/\(∃ws,V'.vs=V.vs++ws)/\(∀x∈X,x∈Y)/\o∈Y/\Loc B V' o/\yz B V V' X Y h x.h/\x.h.get o=some (.C [.I 7,.N,.N,.P u,av])/\cQ [] x.h av qt/\qt.length=i/\
  (∀b∈aT av,b∈Y/\Loc B V' b/\h.nx<=b/\b≠o)/\(∀q∈qt,sO Y V'.vs x.h q.1 q.2)/\gY S B X0 h0 X V WU h Q ((wW S rt (l.drop i) d').bind λts e=>A2 (qt.map Prod.snd++ts) e)/\(∃n,DS dd d' n/\n+eh (l.drop i)<=eh l)/\qB Y V'.vs x.h (.P u) eo/\
  x.rg.get 0=some (.P B.r)/\x.rg.get 1=some (.P idx)/\x.rg.get 5=some (.P o)/\x.rg.get 196=some (.slice FF l.length)/\x.rg.get 197=some (.I l.length)/\x.rg.get 198=some (.I i)):=⟨_,rfl⟩
 refine bz J l.length ?_ ?_
 ·rw[hJ];exact⟨0,dd,.Z,[],_,V,bJ _,rfl,rfl,rfl,rfl,CL,⟨[],sp⟩,hs,ho,lo,ML,G2,.inl ⟨rfl,rfl⟩,rfl,by simp[aT],sp,IB,⟨0,DS.refl CL.ok I6,sp⟩,G3,sp,sp,sp,sp,sp,sp⟩
 intro m x hx;rw[hJ]at hx;obtain⟨rg,n',H,ds,bX⟩:=x;obtain⟨i,d',av,qt,Y,V',hi,rfl,e1,e2,e3,C,⟨ws,gw⟩,F0,Ia,A3,MH,K,A4,O,y,tH,N,⟨nn,A,G4⟩,Z,r0,r1,r5,rl,rn,ri⟩:=hx;dsimp only at e1 e2 e3 C MH K A4 tH Z r0 r1 r5 rl rn ri;subst e1 e2 e3;by_cases D:i<l.length
 ·have A1:i<qs.length:=by omega
  have G5:(i:Int)<(l.length:Int):=by omega
  have wi:=U8 i
  obtain⟨b0,Ik,J2,GL⟩:∃b,FF=some (b,0)/\b∉X0/\h0.get b=some (.D 1 (qs.map λp=> .P p.1)):=by
   rcases F6 with⟨e,_⟩|⟨b,e,a,g⟩
   ·rw[e]at A1;simp at A1
   ·injection e with e _;exact⟨b,e,a,g⟩
  subst Ik;have J3:=(C.mv.aH _ _ GL J2).1;have K0:(qs.map λp=>AV.P p.1)[i]?=some (.P qs[i].1):=by rw[bt,aj A1];rfl
  have K2:qs[i].2=l[i]:=by
   have:(qs.map Prod.snd)[i]?=l[i]?:=(by rw[U]);rw[bt,aj A1,aj D]at this;simpa using this
  have Gq:=F7 _ (bk A1);rw[K2]at Gq;have H2:∃ab,av= .slice ab i:=by
   rcases A4 with⟨e,rfl⟩|⟨b,rfl,_⟩
   ·rw[e]at O;exact⟨none,by rw[<-O];rfl⟩
   ·exact⟨_,by rw[O]⟩
  obtain⟨A5,rfl⟩:=H2;rw[bs D]at N G4;simp only[wW,Rs.bind_assoc,Rs.fP]at N;simp only[eh]at G4;have M5:=A.lo;have M6:=A.hi;have MB:=A.lp;simp[-aK,rl,rn,ri,G5,J3,K0];refine Dd ?_;simp[-aK,r0,r5,K];have KH:=(aJ.refl H).bump 13;refine IH _ (bk D) Y V' d' (H.bump 13) _ _ (C.aH KH) Gq om A.st om om (gY.binds N F0 (MH.comp (Mv.k C.fr KH).s) (λp h2 q=>⟨dc,λ_=>U7 q⟩) λt d5 v V5 Y5 h7 K3 K4 ⟨F1,F2⟩ F3 c7 w7 M7 m7=>?_);obtain⟨H3,rfl,t7⟩:=w7;have H4:=vQ (rt:=rt) hS.ok l[i] d' A.ok A.st om om (uC HU (bk D));rw[K3]at H4;have MN:=aw C.fr K;have Au:=m7.lk _ _ (show o<H.nx+13 from om) A3 K;have H5:=m7.gr _ (show o<H.nx+13 from om) A3;have K5:H.nx+8∉Y:=λhx=>by have:=C.xl _ hx;omega
  have n8:=m7.no (H.nx+8) sp (Loc.fresh C K5) (by simpa using C.fr (H.nx+8) om);have K6:=m7.nx;simp only[ah.jF]at K6;have H6:cQ [] h7 (.slice A5 i) qt:=by
   rcases A4 with e|⟨b,e,a,g⟩
   ·exact .inl e
   ·exact .inr ⟨b,e,a,m7.lk _ _ (show b<H.nx+13 by have:=aw C.fr g;omega) (y b (by rw[e];simp[aT])).2.1 g⟩
  have K7:∀q∈qt,sO Y5 V5.vs h7 q.1 q.2:=λq hq=>by rw[F2];exact((tH q hq).grow F1).move ((Move.k C.fr KH).comp m7.toMove)
  have H8:qB Y5 V5.vs h7 (.P u) eo:=by rw[F2];exact(Z.grow F1).move ((Move.k C.fr KH).comp m7.toMove)
  have K8:∀b∈aT (.slice A5 i),b∈Y5/\Loc B V5 b:=λb a=>⟨F3 b (y b a).1,m7.gr b (by have:=C.xl b (y b a).1;simp;omega) (y b a).2.1⟩
  obtain⟨H7,C6,KA,C7,c8,C4,C8,KB,KC⟩:=c7.push (st:=198) (e:=80) rfl ty80.1 ty80.2.1 dc ty80.2.2.2 H6 om K8 n8 om H3 t;rw[O]at C6 C7;have KF:o∉aT (.slice A5 i):=λa=>(y o a).2.2.2 rfl;have H9:=C8 _ _ KF Au;simp[-aK];refine dn (And.intro Au K) ?_;simp[-aK,n8];rw[C6];simp[-aK,ri,H9,wi];refine dn (And.intro H9 (And.intro Au K)) ?_;have lt7:=aw c7.fr Au;have HA:∀j,j<h.nx->j∉aT (.slice A5 i):=λj hj a=>by have:=(y j a).2.2.1;omega
  have M8:yz B V V5 X (h7.nx::Y5) h H7:=⟨M7.toMove.comp C4,λj o' lt l g=>C8 j o' (HA j lt) (M7.lk j o' lt l g),λj lt l g=>KB j (by have:=M7.nx;omega) (by have:=MH.nx;omega) (HA j lt) (M7.no j lt l g),by rw[KA];have:=M7.nx;omega,M7.gr⟩
  have F4:o∈h7.nx::Y5:=au _ (F3 _ Ia);have M9:=M8.put F4 C9 oN (.C [.I 7,.N,.N,.P u,.S h7.nx (i+1)]);obtain⟨c9,m9⟩:=c8.put F4 H5 (.C [.I 7,.N,.N,.P u,.S h7.nx (i+1)]);refine⟨l.length-(i+1),om,?_⟩;rw[hJ];refine⟨i+1,d5,.S h7.nx (i+1),qt++[(H3,t)],h7.nx::Y5,V5,D,rfl,rfl,rfl,rfl,c9,⟨ws++F1,by rw[F2,gw,aU]⟩,λx hx=>au _ (F3 _ (F0 x hx)),F4,H5,M9,sp,?_,by simp[O],?_,?_,?_,⟨nn+l[i].nodes,A.trans H4,om⟩,H8.move (C4.comp m9),by simp[r0],by simp[r1],by simp[r5],by simp[rl],by simp[rn],sp⟩
  ·rcases C7 with⟨e,_⟩|⟨b,e,a,g⟩
   ·simp at e
   ·injection e with e _;injection e with e;injection e with e _;subst e;exact .inr ⟨h7.nx,by simp[O],a,by rw[ah.aM,ay om];exact g⟩
  ·intro b a;have a:b∈[h7.nx]:=a;simp only[aQ]at a;subst a;exact⟨bc ..,KC,M7.nx,om⟩
  ·intro q hq;rcases aP.1 hq with hq|hq
   ·exact(K7 q hq).move (C4.comp m9)
   ·simp only[aQ]at hq;subst hq;exact t7.move (C4.comp m9)
  ·simpa only[fU,bL,iL,aU,aI,aX]using K4
 ·have KK:i=l.length:=by omega
  subst KK;rw[dV]at N;simp only[wW,Rs.fP,fi]at N;have KL:=(C.mv.aH _ _ w R).1;have KT:∀b∈aT av,Loc B V' b/\h.nx<=b:=λb a=>⟨(y b a).2.1,(y b a).2.2.1⟩
  obtain⟨KX,cc,oH⟩:=C.c;have MY:=A.lp;have w2:IntKind.wrap .i64 (d'.loops-1)=d'.loops-1:=wr om om;obtain⟨cN,mN⟩:=C.LJ (V':=V') (d':={d' with loops:=d'.loops-1}) (ov:=KX) ⟨rfl,rfl,rfl⟩ ⟨rfl,rfl⟩ (kI.set (d:={d' with loops:=d'.loops-1}) C.sa cc sp) (oH.move (Move.on _ C.own.r)) (A.ok.loop om om);have goN:=mN.lk _ _ A3 K;have fin:=kW (v:=none) cN ⟨ws,gw⟩ F0 c.xl oN A3 (MH.comp mN.s) goN sp (.inl ⟨rfl,rfl⟩) (Z.move mN.toMove) (by rcases A4 with e|⟨b,e,a,g⟩;exact .inl e;exact .inr ⟨b,e,a,mN.lk _ _ (y b (by rw[e];simp[aT])).2.1 g⟩) KT (λq hq=>(tH q hq).move mN.toMove) (Q:=Q) (by rw[C5]at N;exact N);simp only[CB.ob]at fin cc;simp[-aK,r0,r1,r5,rn,ri,KL,cc,w2];exact fin
end
end
section
section
variable{S:Sc}{B:CB}{X0:cB}{h0:ah}{X Y:cB}{V V':CV}{d:Dn}{h h1 h2:ah}{P:Pl->Prop}
theorem Oo(b:Stat S B X0 h0){rt:bu}(i:∀sg,S.fs[B.n]?=some sg->sg.ty=rt)(m:rt.length<=dW):∀(k:Nat)(x:Sm),x.nodes<=k->k<=250->x.al PT TL->KS S B X0 h0 rt x:=by
 intro k;induction k with
 |zero=>intro x f;rw[x.pz]at f;omega
 |succ k j=>
  intro x f o a;have mem:∀{l:List Sm}{y:Sm},y∈l->y.nodes<=eh l:=λ{l}=>by
   induction l with
   |nil=>intro y h;cases h
   |cons z l u=>
    intro y h;simp only[eh];rcases ak.1 h with rfl|h
    ·omega
    ·have:=u h;omega
  cases x with
  |block p l=>
   simp only[dw.nodes]at f;have:=rF l;exact LW b (λy g=>j y (by have:=mem g;omega) om (uC a.2 g)) a om
  |empty p=>exact LS b
  |decl p ty nm e=>
   cases e with
   |none=>exact LU b a
   |some e=>
    simp only[dw.nodes,uB]at f;exact LV b a om
  |assign p to e=>
   simp only[dw.nodes]at f;exact JQ b a om
  |eval p e=>
   simp only[dw.nodes]at f;exact Oj b a om
  |ifs p e s=>
   simp only[dw.nodes]at f;exact PE b (l:=[s]) rfl rfl rfl rfl (λd=>by simp[jk,wW,Rs.bind_assoc]) (λy g=>by simp only[aQ]at g;subst g;exact j y om om a.2.2) a.2.1 ⟨a.2.2,trivial⟩ (by simp[dw.nodes,eh]) (by simp only[dw.nodes];omega)
  |wD p e s t=>
   simp only[dw.nodes]at f;exact PE b (l:=[s,t]) rfl rfl rfl rfl (λd=>by simp[jk,wW,Rs.bind_assoc]) (λy g=>by
    simp only[ak,bm,cT]at g;rcases g with rfl|rfl
    ·exact j _ om om a.2.2.1
    ·exact j _ om om a.2.2.2) a.2.1 ⟨a.2.2.1,a.2.2.2,trivial⟩ (by simp[dw.nodes,eh]<;>omega) (by simp only[dw.nodes];omega)
  |wE p e s=>
   simp only[dw.nodes]at f;exact LX b (l:=[s]) rfl rfl rfl rfl (λd=>by simp[jk,wW,Rs.bind_assoc]) (λy g=>by simp only[aQ]at g;subst g;exact j y om om a.2.2) a.2.1 ⟨a.2.2,trivial⟩ (by simp[dw.nodes,eh]) (by simp only[dw.nodes];omega)
  |xq p=>exact Rg b
  |cont p=>exact Ol b
  |ret p e=>
   cases e with
   |none=>exact Om b i
   |some e=>
    simp only[dw.nodes,uB]at f;exact On b i m a om
  |out p e=>
   simp only[dw.nodes]at f;exact Rf b a om
end
end
end Go.Proofs.YtaekaifihehgdaaGreatDoor
