/- Lemmas for CheckPlaces; each states its own conditions. -/
import Derived.Test.YtgebeldoibkkpaaGreatDoorM
set_option maxRecDepth 100000
set_option maxHeartbeats 0
set_option linter.unusedVariables false
set_option linter.unusedSimpArgs false
set_option linter.unusedSectionVars false
namespace Go.Proofs.YtgebeldoibkkpaaGreatDoor
open Go.Am Tryz
section
attribute [local simp] aI
structure yy(B:CB)(V V':CV)(X Y:List Nat)(h h':ah):Prop extends Move X Y h h' where
 lk:∀i o,i<h.next->Loc B V i->h.get i=some o->h'.get i=some o
 no:∀i,i<h.next->Loc B V i->h.get i=none->h'.get i=none
 nx:h.next<=h'.next
 gr:∀i,i<h.next->Loc B V i->Loc B V' i
theorem Mv.s{B:CB}{V:CV}{X Y:List Nat}{h h':ah}(m:Mv B V X Y h h'):yy B V V X Y h h':=⟨m.toMove,fun i o _ l g=>m.lk i o l g,m.no,m.nx,fun _ _ l=>l⟩
theorem yy.comp{B:CB}{V V' V2:CV}{X Y Z:List Nat}{h h' h2:ah}(m:yy B V V' X Y h h')(m':yy B V' V2 Y Z h' h2):yy B V V2 X Z h h2:=
 ⟨m.toMove.comp m'.toMove,fun i o lt l g=>m'.lk i o (aw lt m.nx) (m.gr i lt l) (m.lk i o lt l g),fun i lt l g=>m'.no i (aw lt m.nx) (m.gr i lt l) (m.no i lt l g),bk m.nx m'.nx,fun i lt l=>m'.gr i (aw lt m.nx) (m.gr i lt l)⟩
def iN{α:Type}(S:Sc)(B:CB)(X0:List Nat)(h0:ah)(X:List Nat)(V:CV)(W:α->List Nat->List Nat->ah->AV->Prop)(h:ah)(Q:Out->ah->Prop):Rs α->Prop
 | .ok a d=>∀V' X' v h',(∃ws,V'.vs=V.vs++ws)->(∀x∈X,x∈X')->dF S B X0 h0 X' V' d h'->W a X' V'.vs h' v->yy B V V' X X' h h'->Q (.ret v) h'
 | .err p=>∀h',Move X X h h'->cM h'->Q (.iS (zq p)) h'
section
variable{S:Sc}{B:CB}{X0:List Nat}{h0:ah}{X Y:List Nat}{V V':CV}{d:Dn}{h h1:ah}{P:Pl->Prop}
theorem iN.bind{α β:Type}{W1:α->List Nat->List Nat->ah->AV->Prop}{W2:β->List Nat->List Nat->ah->AV->Prop}{Q Q':Out->ah->Prop}{r:Rs α}{f:α->Dn->Rs β}(hQ:iN S B X0 h0 X V W2 h Q (r.bind f))(hs:∀x∈X,x∈Y)(m:yy B V V' X Y h h1)
 (hp:∀p h2,Q (.iS (zq p)) h2->Q' (.iS (zq p)) h2)
 (hk:∀a d v h2,r= .ok a d->iN S B X0 h0 X V W2 h Q (f a d)->dF S B X0 h0 Y V' d h2->W1 a Y V'.vs h2 v->yy B V V' X Y h h2->Mv B V' Y Y h1 h2->Q' (.ret v) h2):eL S B X0 h0 Y V' W1 h1 Q' r:=by
 cases r with
 |ok a d=>exact fun v h' c hv m'=>hk a d v h' rfl hQ c hv (m.comp m'.s) m'
 |err p=>exact fun h' m' f=>hp p h' (hQ h' ((m.toMove.comp m').comp (Move.less hs)) f)
theorem iN.binds{α β:Type}{W1:α->List Nat->List Nat->ah->AV->Prop}{W2:β->List Nat->List Nat->ah->AV->Prop}{Q Q':Out->ah->Prop}{r:Rs α}{f:α->Dn->Rs β}(hQ:iN S B X0 h0 X V W2 h Q (r.bind f))(hs:∀x∈X,x∈Y)(m:yy B V V' X Y h h1)
 (hp:∀p h2,Q (.iS (zq p)) h2->Q' (.iS (zq p)) h2)
 (hk:∀a d v V2 Y2 h2,r= .ok a d->iN S B X0 h0 X V W2 h Q (f a d)->(∃ws,V2.vs=V'.vs++ws)->(∀x∈Y,x∈Y2)->dF S B X0 h0 Y2 V2 d h2->W1 a Y2 V2.vs h2 v->yy B V V2 X Y2 h h2->yy B V' V2 Y Y2 h1 h2->Q' (.ret v) h2):iN S B X0 h0 Y V' W1 h1 Q' r:=by
 cases r with
 |ok a d=>exact fun V2 Y2 v h' hv hy c w m'=>hk a d v V2 Y2 h' rfl hQ hv hy c w (m.comp m') m'
 |err p=>exact fun h' m' f=>hp p h' (hQ h' ((m.toMove.comp m').comp (Move.less hs)) f)
theorem xX{α:Type}{W:α->List Nat->List Nat->ah->AV->Prop}{Q Q':Out->ah->Prop}{r:Rs α}{b:Bool}{p:Pl}(c:dF S B X0 h0 Y V' d h1)(hQ:iN S B X0 h0 X V W h Q (Rs.nL b p r))(hs:∀x∈X,x∈Y)(m:yy B V V' X Y h h1)
 (hp:∀h2,Q (.iS (zq p)) h2->Q' (.iS (zq p)) h2) (hk:∀h2,b=true->iN S B X0 h0 X V W h Q r->dF S B X0 h0 Y V' d h2->aS h1 h2->yy B V V' X Y h h2->Q' (.ret (.iX [])) h2):aV env 33 [.P B.r,.bool b,.agg [.I p.1,.I p.2]] h1 Q':=by
 refine gy p b _ h1 Q' (fun h2 e k=>?_) (fun h2 e k=>?_)
 ·subst e;exact hp h2 (hQ h2 ((m.toMove.comp (Move.k c.fr k)).comp (Move.less hs)) (k.fresh c.fr))
 ·subst e;exact hk h2 rfl hQ (c.aJ k) k (m.comp (Mv.k c.fr k).s)
theorem dF.afC(c:dF S B X0 h0 X V d h)(nm:List UInt8):dF S B X0 h0 X V {d with vS:=d.vS++[nm]} (h.set B.Kv (.map (jd (d.vS++[nm]))))/\Mv B V X X h (h.set B.Kv (.map (jd (d.vS++[nm])))):=by
 obtain⟨mv,fr,xl,⟨ov,c1,c2⟩,⟨s,f1,f2⟩,gn,vl,vs,nd,va,sa,ne,own,ok⟩:=c;have m:Mv B V X X h (h.set B.Kv (.map (jd (d.vS++[nm])))):=Mv.set own.n (fun j l=>l.n) _;have ms:∀i o,h.get i=some o->(∀es,o≠ .map es)->(h.set B.Kv (.map (jd (d.vS++[nm])))).get i=some o:=fun i o g hi=>by
  rw[ah.aM,az]
  ·exact g
  ·rintro rfl
   rw[gn]at g;injection g with g;exact hi _ g.symm
 refine⟨⟨mv.comp m.toMove,fun j hj=>?_,fun x hx=>xl x hx,⟨ov,ms _ _ c1 sp,c2.move m.toMove⟩,⟨s,f1,ms _ _ f2 sp⟩,sp,vl,fun k a v h1 h2=>ms _ _ (vs k a v h1 h2) sp,nd,?_,?_,ne,own,⟨ok.vs,ok.seen,ok.sl,ok.loops,ok.bytes⟩⟩,m⟩
 ·have:=xl _ own.n;rw[ah.aM,az (by simp at hj;omega)];exact fr j hj
 ·rcases va with va|⟨b,e,hb,g⟩
  ·exact .inl va
  ·exact .inr ⟨b,e,hb,ms _ _ g sp⟩
 ·exact mu.set (d:=d) sa gn sp
end
end
section
attribute [local simp] aI
section
variable{S:Sc}{B:CB}{X0:List Nat}{h0:ah}{X Y:List Nat}{V V':CV}{d:Dn}{h h1:ah}{P:Pl->Prop}
theorem adh{vs ws:List Nat}{k:Nat}(h:k<vs.length):vP (vs++ws) (some k)=vP vs (some k):=G0 fun _ e=>by injection e with e;omega
theorem mu.grow(sa:mu h V d)(ok:d.Ok)(vl:V.vs.length=d.vs.length){V':CV}{d':Dn}(ws:List Nat)(hv:V'.vs=V.vs++ws)(hs:V'.sa=V.sa)(hd:d'.seen=d.seen):mu h V' d':=by
 rcases sa with sa|⟨b,L,e,g,t,l⟩
 ·exact .inl ⟨hs.trans sa.1,hd.trans sa.2⟩
 ·refine .inr ⟨b,L,by rw[hs,hd];exact e,g,?_,by rw[hd];exact l⟩;rw[hd,t];refine List.map_congr_left fun k hk=>?_;rw[hv,adh (by have:=ok.seen k hk;omega)]
theorem Su{ov:AV}:∀{v:Vr},B.ob V d ov≠v.cs:=by
 intro v e;simp[CB.ob,Vr.cs]at e
theorem dF.addVars(c:dF S B X0 h0 X V d h){a:Nat}{v:Vr}(ga:h.get a=some (.C v.cs))(ax:a∈X)(la:Loc B V a)(vo:v.ty.length<=eR/\0<=v.sz/\v.sz<=65536)(hl:V.vs.length<=300){j:Nat}(gj:h.get j=none)(lj:j<h.next){s:Sg}(hs:S.fs[B.n]?=some s):
 ∃H2,aO env (h.set j (.cells true 1 [.P a])) 76 V.va (.S j 1)=some (.S h.next (V.vs.length+1),H2)/\H2.next=h.next+1/\H2.get B.f=some (.C [.str s.nm,.str s.ty,B.Qi,B.NQ,V.va,.N])/\
  dF S B X0 h0 (h.next::X) ⟨V.vs++[a],.S h.next (V.vs.length+1),V.sa⟩ {d with vs:=d.vs++[v]} (H2.set B.f (.C [.str s.nm,.str s.ty,B.Qi,B.NQ,.S h.next (V.vs.length+1),.N]))/\
  Move X (h.next::X) h (H2.set B.f (.C [.str s.nm,.str s.ty,B.Qi,B.NQ,.S h.next (V.vs.length+1),.N]))/\
  (∀i o,Loc B V i->h.get i=some o->(H2.set B.f (.C [.str s.nm,.str s.ty,B.Qi,B.NQ,.S h.next (V.vs.length+1),.N])).get i=some o)/\
  (∀i,i<h.next->i≠j->Loc B V i->h.get i=none->(H2.set B.f (.C [.str s.nm,.str s.ty,B.Qi,B.NQ,.S h.next (V.vs.length+1),.N])).get i=none):=by
 have ne:∀i o,h.get i=some o->i≠j:=fun i o g e=>by rw[e,gj]at g;cases g
 have N0:cM (h.set j (.cells true 1 [.P a])):=fun i hi=>by
  rw[ah.aM,az (by simp at hi;omega)];exact c.fr i hi
 have og:dP [] (h.set j (.cells true 1 [.P a])) V.va (V.vs.map fun a=>(a,())):=by
  rcases c.va with e|⟨b,e,hb,g⟩
  ·exact .inl e
  ·exact .inr ⟨b,e,hb,by rw[ah.aM,az (ne _ _ g)];exact g⟩
 obtain⟨H2,h2,nx,g2,k2⟩:=xW (st:=76) (e:=157) rfl ty157.1 ty157.2.1 dc ty157.2.2.2 og (by simpa using hl) j a () sp N0;have vA:(h.set j (.cells true 1 [.P a])).next=h.next:=rfl
 rw[vA]at h2 nx g2;simp only[List.length_map]at h2;have alt:=au c.fr ga;have own:=c.own;have old:∀i o,i∉aK V.va->h.get i=some o->H2.get i=some o:=fun i o hi g=>by
  rw[k2.old i (by rw[vA];exact au c.fr g) hi,ah.aM,az (ne _ _ g)];exact g
 obtain⟨mv,fr,xl,⟨ov,c1,c2⟩,⟨s',f1,f2⟩,gn,vl,vs,nd,va,sa,nea,_,ok⟩:=c;rw[hs]at f1;injection f1 with f1;subst f1;have nva:∀i o,h.get i=some o->(∀L,o≠ .cells true 1 L)->i∉aK V.va:=fun i o g ho hi=>by
  rcases va with⟨e,e2⟩|⟨b,e,_,gb⟩
  ·rw[e2]at hi;simp[aK]at hi
  ·rw[e]at hi;have hi:i∈[b]:=hi;simp only[aR]at hi;subst hi;rw[gb]at g;injection g with g;exact ho _ g.symm
 have nf:∀i o,h.get i=some o->o≠ .C [.str s.nm,.str s.ty,B.Qi,B.NQ,V.va,.N]->i≠B.f:=fun i o g ho e=>by
  rw[e,f2]at g;injection g with g;exact ho g.symm
 have key:∀i o,h.get i=some o->i∉aK V.va->i≠B.f->(H2.set B.f (.C [.str s.nm,.str s.ty,B.Qi,B.NQ,.S h.next (V.vs.length+1),.N])).get i=some o:=fun i o g h1 h2=>by
  rw[ah.aM,az h2];exact old i o h1 g
 have f2':=old B.f _ (nva _ _ f2 sp) f2;have nX:h.next∉X:=fun hx=>by have:=xl _ hx;omega
 have m6:Move X X h (h.set j (.cells true 1 [.P a])):=Move.new _ gj;have m7:Move X (h.next::X) (h.set j (.cells true 1 [.P a])) H2:=Move.of N0 k2 (fun z hz _=>own.va z hz) fun y hy=>by
  rcases aq.1 hy with rfl|hy
  ·exact .inr (ao _)
  ·exact .inl hy
 have mF:Move X (h.next::X) h (H2.set B.f (.C [.str s.nm,.str s.ty,B.Qi,B.NQ,.S h.next (V.vs.length+1),.N])):=(m6.comp m7).comp (Move.on _ (ay _ own.f));have nfr:B.r≠B.f:=nf _ _ c1 (by simp[CB.ob]);have nfn:B.Kv≠B.f:=nf _ _ gn sp;have nfa:a≠B.f:=la.f;have Ys:h.next≠B.f:=by have:=au fr f2;omega
 refine⟨H2,h2,nx,f2',⟨mv.comp mF,fun i hi=>?_,fun x hx=>?_,⟨ov,?_,c2.move mF⟩,⟨s,hs,sp⟩,key _ _ gn (nva _ _ gn sp) nfn,by simp[vl],fun k b w h3 h4=>?_,?_,?_,?_,?_,⟨ay _ own.r,ay _ own.f,ay _ own.n,fun b hb=>?_,fun b hb=>?_,fun b hb=>ay _ (own.sa b hb)⟩,?_⟩,mF,fun i o l g=>key i o g l.va l.f,fun i hi hj l g=>?_⟩
 ·have:=au fr f2;rw[ah.aM,az (by simp[nx]at hi;omega)];exact k2.fresh N0 i (by simp at hi;omega)
 ·rcases aq.1 hx with rfl|hx
  ·simp[nx]
  ·have:=xl _ hx;simp[nx];omega
 ·exact key _ _ c1 (nva _ _ c1 sp) nfr
 ·have h3:(V.vs++[a])[k]?=some b:=h3;have h4:(d.vs++[v])[k]?=some w:=h4;by_cases hk:k<V.vs.length
  ·rw[iz hk]at h3;rw[iz om]at h4;have g:=vs k b w h3 h4;exact key _ _ g (nva _ _ g sp) (nf _ _ g (by simp[Vr.cs]))
  ·have Cj:k=V.vs.length:=by
    have:=(aU.1 h3).1;simp at this;omega
   subst Cj;rw[ji (ao _)]at h3;rw[ji om]at h4;simp[vl]at h3 h4;subst h3 h4;exact key _ _ ga (nva _ _ ga sp) nfa
 ·show(V.vs++[a]).Nodup;rw[List.nodup_append];exact⟨nd,sp,fun x hx y hy=>by simp at hy;subst hy;exact fun e=>la.v (e▸hx)⟩
 ·refine .inr ⟨h.next,sp,sp,?_⟩;rw[ah.aM,az Ys,g2];simp
 ·have sa':mu (H2.set B.f (.C [.str s.nm,.str s.ty,B.Qi,B.NQ,.S h.next (V.vs.length+1),.N])) V d:=by
   rcases sa with sa|⟨b,L,e,g,t,l⟩
   ·exact .inl sa
   ·exact .inr ⟨b,L,e,key _ _ g (fun hb=>nea b hb (by rw[e];simp[aK])) (nf _ _ g sp),t,l⟩
  exact sa'.grow ok vl [a] rfl rfl rfl
 ·intro b hb;have hb:b∈[h.next]:=hb;simp only[aR]at hb;subst hb;exact fun hb=>nX (own.sa _ hb)
 ·rcases aP.1 hb with hb|hb
  ·exact ay _ (own.v b hb)
  ·simp only[aR]at hb;subst hb;exact ay _ ax
 ·have hb:b∈[h.next]:=hb;simp only[aR]at hb;subst hb;exact aY ..
 ·refine⟨fun w hw=>?_,fun k hk=>by have:=ok.seen k hk;simp;omega,by have:=ok.sl;simp;omega,ok.loops,?_⟩
  ·rcases aP.1 hw with hw|hw
   ·exact ok.vs w hw
   ·simp only[aR]at hw;subst hw;exact vo
  ·have:=ok.bytes;simp;omega
 ·rw[ah.aM,az l.f,k2.old i (by rw[vA];exact hi) l.va,ah.aM,az hj];exact g
end
end
section
attribute [local simp] aI
section
variable{S:Sc}{B:CB}{X0:List Nat}{h0:ah}{X Y:List Nat}{V V':CV}{d:Dn}{h h1:ah}{P:Pl->Prop}
theorem dF.DP(c:dF S B X0 h0 X V d h){b' k:Nat}{L':List AV}{H2:ah}{ov:AV}(co:h.get B.r=some (.C (B.ob V d ov)))(cv:kJ X h ov d.over)(nx:h.next<=H2.next)(fr2:cM H2)(old:∀i,i<h.next->i∉aK V.sa->H2.get i=h.get i)(hb:b'∈aK V.sa\/h.next<=b')(lb:b'<H2.next)
 (g:H2.get b'=some (.cells true 1 L')) (tk:L'.take (d.seen.length+1)=(d.seen++[k]).map (fun k=> .ptr (vP V.vs (some k)))) (l1:d.seen.length+1<=L'.length) (l2:L'.length<=1000) (hk:k<d.vs.length) (hd:d.seen.length<d.vs.length):
 dF S B X0 h0 (b'::X) ⟨V.vs,V.va,.S b' (d.seen.length+1)⟩ {d with seen:=d.seen++[k]} (H2.set B.r (.C (B.ob ⟨V.vs,V.va,.S b' (d.seen.length+1)⟩ {d with seen:=d.seen++[k]} ov)))/\
  yy B V ⟨V.vs,V.va,.S b' (d.seen.length+1)⟩ X (b'::X) h (H2.set B.r (.C (B.ob ⟨V.vs,V.va,.S b' (d.seen.length+1)⟩ {d with seen:=d.seen++[k]} ov))):=by
 obtain⟨mv,fr,xl,_,⟨s,f1,f2⟩,gn,vl,vs,nd,va,sa,nea,own,ok⟩:=c;have Yk:=au fr co;have nsa:∀i o,h.get i=some o->(∀L,o≠ .cells true 1 L)->i∉aK V.sa:=fun i o g ho hi=>by
  rcases sa with⟨e,_⟩|⟨b,L,e,gb,_⟩
  ·rw[e]at hi;simp[aK]at hi
  ·rw[e]at hi;have hi:i∈[b]:=hi;simp only[aR]at hi;subst hi;rw[gb]at g;injection g with g;exact ho _ g.symm
 have key:∀i o,h.get i=some o->i∉aK V.sa->i≠B.r->(H2.set B.r (.C (B.ob ⟨V.vs,V.va,.S b' (d.seen.length+1)⟩ {d with seen:=d.seen++[k]} ov))).get i=some o:=fun i o g h1 h2=>by
  rw[ah.aM,az h2,old i (au fr g) h1];exact g
 have nr:∀i o,h.get i=some o->(∀Sh,o≠ .C (B.ob V d Sh))->i≠B.r:=fun i o g ho e=>by
  rw[e,co]at g;injection g with g;exact ho _ g.symm
 have hbr:b'≠B.r:=by
  rcases hb with hb|hb
  ·exact fun e=>nsa _ _ co sp (e▸hb)
  ·omega
 have hbX:∀y∈b'::X,y∈X\/h.next<=y:=fun y hy=>by
  rcases aq.1 hy with rfl|hy
  ·rcases hb with hb|hb
   ·exact .inl (own.sa _ hb)
   ·exact .inr hb
  ·exact .inl hy
 have mF:Move X (b'::X) h (H2.set B.r (.C (B.ob ⟨V.vs,V.va,.S b' (d.seen.length+1)⟩ {d with seen:=d.seen++[k]} ov))):=⟨fun i o g hi=>⟨key i o g (fun hs=>hi (own.sa i hs)) (fun e=>hi (e▸own.r)),fun hy=>by
  rcases hbX i hy with h3|h3
  ·exact hi h3
  ·have:=au fr g;omega⟩⟩
 refine⟨⟨mv.comp mF,fun i hi=>?_,fun x hx=>?_,⟨ov,sp,cv.move mF⟩,⟨s,f1,key _ _ f2 (nsa _ _ f2 sp) (nr _ _ f2 (by simp[CB.ob]))⟩,key _ _ gn (nsa _ _ gn sp) (nr _ _ gn sp),vl,fun j a v h3 h4=>?_,nd,?_,?_,?_,⟨ay _ own.r,ay _ own.f,ay _ own.n,fun a ha=>ay _ (own.v a ha),fun a ha=>ay _ (own.va a ha),fun a ha=>?_⟩,?_⟩,⟨mF,fun i o lt l g=>key i o g l.sa l.r,fun i lt l g=>?_,nx,fun i lt l=>⟨l.r,l.f,l.n,l.v,l.va,fun hx=>?_⟩⟩⟩
 ·rw[ah.aM,az (by simp at hi;omega)];exact fr2 i hi
 ·rcases aq.1 hx with rfl|hx
  ·exact lb
  ·exact aw (xl x hx) nx
 ·have g:=vs j a v h3 h4;exact key _ _ g (nsa _ _ g sp) (nr _ _ g fun Sh e=>by injection e with _ _ e;exact Su e.symm)
 ·rcases va with e|⟨b,e,jJ,g2⟩
  ·exact .inl e
  ·exact .inr ⟨b,e,jJ,key _ _ g2 (nea b (by rw[e];simp[aK])) (nr _ _ g2 sp)⟩
 ·refine .inr ⟨b',L',sp,?_,by show L'.take (d.seen++[k]).length=_;rw[bO];exact tk,by simpa using l1,l2⟩;rw[ah.aM,az hbr];exact g
 ·intro x hx hy;have hy:x∈[b']:=hy;simp only[aR]at hy;subst hy;rcases hb with hb|hb
  ·exact nea _ hx hb
  ·have:=xl _ (own.va _ hx);omega
 ·have ha:a∈[b']:=ha;simp only[aR]at ha;subst ha;exact aY ..
 ·refine⟨ok.vs,fun j hj=>?_,by simp;omega,ok.loops,ok.bytes⟩;rcases aP.1 hj with hj|hj
  ·exact ok.seen j hj
  ·simp only[aR]at hj;subst hj;exact hk
 ·rw[ah.aM,az l.r,old i lt l.sa];exact g
 ·have hx:i∈[b']:=hx;simp only[aR]at hx;subst hx;rcases hb with hb|hb
  ·exact l.sa hb
  ·omega
theorem dF.V7(c:dF S B X0 h0 X V d h){k a:Nat}(ha:V.vs[k]?=some a)(hk:k<d.vs.length)(hd:d.seen.length<d.vs.length)(hl:d.seen.length<=900){ov:AV}(co:h.get B.r=some (.C (B.ob V d ov)))(cv:kJ X h ov d.over):
 ∃b' H2,aO env (h.alloc (.cells true 1 [.P a])).2 76 V.sa (.S h.next 1)=some (.S b' (d.seen.length+1),H2)/\H2.get B.r=some (.C (B.ob V d ov))/\
  dF S B X0 h0 (b'::X) ⟨V.vs,V.va,.S b' (d.seen.length+1)⟩ {d with seen:=d.seen++[k]} (H2.set B.r (.C (B.ob ⟨V.vs,V.va,.S b' (d.seen.length+1)⟩ {d with seen:=d.seen++[k]} ov)))/\
  yy B V ⟨V.vs,V.va,.S b' (d.seen.length+1)⟩ X (b'::X) h (H2.set B.r (.C (B.ob ⟨V.vs,V.va,.S b' (d.seen.length+1)⟩ {d with seen:=d.seen++[k]} ov))):=by
 have fr:=c.fr;have Yk:=au fr co;have hu:env.kQ 76=some (.slice 157):=rfl;have hp:vP V.vs (some k)=some (a,0):=by simp[vP,ha]
 have K1:aS h (h.alloc (.cells true 1 [.P a])).2:=kT;have r0:¬roomy<8:=dc
 have r1:¬roomy<(d.seen.length+1)*8:=by
  have:(d.seen.length+1)*8<=901*8:=uw om dc;unfold roomy;omega
 have rn:B.r≠h.next/\B.r≠h.next+1:=om
 rcases c.sa with⟨e,e2⟩|⟨b,L,e,gb,tk,l1,l2⟩
 ·have K2:aS h ((h.alloc (.cells true 1 [.P a])).2.alloc (.cells true 1 [.P a])).2:=kT;have z:d.seen.length=0:=by rw[e2];rfl
  refine⟨h.next+1,((h.alloc (.cells true 1 [.P a])).2.alloc (.cells true 1 [.P a])).2,?_,(K2.old _ Yk).trans co,c.DP co cv K2.next (K2.fresh fr) (fun i hi _=>K2.old i hi) (.inr om) sp (L':=[.P a]) sp (by rw[e2];simp[hp]) (by simp[z]) sp hk hd⟩;rw[e,z];simp[-nQ,hu,ty157.1,ty157.2.1,ty157.2.2.2,r0]
 ·have blt:=au fr gb;have bn:b≠h.next/\b≠h.next+1:=by omega
  have V0:=(K1.old b blt).trans gb;have hbs:b∈aK V.sa:=by rw[e];simp[aK]
  have br:B.r≠b:=fun e=>by rw[e,gb]at co;simp at co
  by_cases vK:d.seen.length+1<=L.length
  ·have t1:(L.take d.seen.length++[AV.P a]++L.drop (d.seen.length+1)).take (d.seen.length+1)=(d.seen++[k]).map (fun k=> .ptr (vP V.vs (some k))):=by
    have l3:(L.take d.seen.length++[AV.P a]).length=d.seen.length+1:=by
     simp only[bO,cI,ai,bz];omega
    rw[<-l3,List.take_left,tk];simp[hp]
   refine⟨b,(h.alloc (.cells true 1 [.P a])).2.set b (.cells true 1 (L.take d.seen.length++[.P a]++L.drop (d.seen.length+1))),?_,?_,c.DP co cv K1.next ?_ (fun i hi hs=>?_) (.inl hbs) (by simp;omega) sp t1 ?_ ?_ hk hd⟩
   ·rw[e];simp[-nQ,hu,ty157.1,ty157.2.1,ty157.2.2.2,r1,gb,bn.1,vK]
   ·rw[ah.aM,az br];exact(K1.old _ Yk).trans co
   ·intro i hi;rw[ah.aM,az (by simp at hi;omega)];exact K1.fresh fr i hi
   ·rw[ah.aM,az (by rintro rfl;exact hs hbs)];exact K1.old i hi
   ·simp only[bO,cI,ai,bz,bU];omega
   ·simp only[bO,cI,ai,bz,bU];omega
  ·have hL:L.length=d.seen.length:=om;have tkL:L.take d.seen.length=L:=eX om;refine⟨h.next+1,(((h.alloc (.cells true 1 [.P a])).2.set b .dead).alloc (.cells true 1 (L++[.P a]))).2,?_,?_,c.DP co cv (by simp<;>omega) ?_ (fun i hi hs=>?_) (.inr om) sp (L':=L++[.P a]) sp ?_ (by simp<;>omega) (by simp<;>omega) hk hd⟩
   ·rw[e];simp[-nQ,hu,ty157.1,ty157.2.1,ty157.2.2.2,r1,gb,bn.1,vK,l1,tkL]
   ·rw[ah.dz,az (by simp;omega),ah.aM,az br];exact(K1.old _ Yk).trans co
   ·intro i hi;simp at hi;rw[ah.dz,az (by simp;omega),ah.aM,az om];exact K1.fresh fr i (by simp;omega)
   ·rw[ah.dz,az (by simp;omega),ah.aM,az (by rintro rfl;exact hs hbs)];exact K1.old i hi
   ·rw[<-hL,show L.length+1=(L++[AV.P a]).length from sp,dH];rw[tkL]at tk;rw[tk];simp[hp]
end
end
section
attribute [local simp] aI
section
variable{S:Sc}{B:CB}{X0:List Nat}{h0:ah}{X Y:List Nat}{V V':CV}{d:Dn}{h h1:ah}{P:Pl->Prop}
def WV(k:Nat)(_ vs:List Nat)(_:ah)(v:AV):Prop:=v= .ptr (vP vs (some k))/\k<vs.length
theorem yy.lift(m:yy B V V' X Y h h1):yy B V V' X Y h h1:=m
theorem dF.Sv(c:dF S B X0 h0 X V d h):∃ab,V.va= .slice ab V.vs.length:=by
 rcases c.va with⟨e,e2⟩|⟨b,e,_⟩
 ·have:V.vs=[]:=by simpa using e
  exact⟨none,by rw[e2,this];rfl⟩
 ·exact⟨some (b,0),by rw[e];simp⟩
theorem dF.JG(c:dF S B X0 h0 X V d h):∃ab,V.sa= .slice ab d.seen.length:=by
 rcases c.sa with⟨e,e2⟩|⟨b,L,e,_⟩
 ·exact⟨none,by rw[e,e2];rfl⟩
 ·exact⟨_,e⟩
theorem zd(hS:Stat S B X0 h0)(c:dF S B X0 h0 X V d h)(nm ty:List UInt8)(par:Bool)(p:Pl)(hl:ty.length<=70000)(hv:d.vs.length<=290)(yG:d.bytes<=70000*d.vs.length)(Q:Out->ah->Prop)(hQ:iN S B X0 h0 X V WV h Q (R4 S nm ty par p d)):
 aV env 65 [.P B.r,.str nm,.str ty,.bool par,.agg [.I p.1,.I p.2]] h Q:=by
 refine wb fn65 rfl ?_;have K1:aS h (h.alloc (.C [.I p.1,.I p.2])).2:=kT;have C1:=c.aJ K1;have M1:yy B V V X X h _:=(Mv.k c.fr K1).s;have gq1:(h.alloc (.C [.I p.1,.I p.2])).2.get h.next=some (.C [.I p.1,.I p.2]):=sp
 have qN:=ao h.next;have qX:h.next∉X:=fun hx=>by have:=c.xl _ hx;omega
 simp[f65];generalize (h.alloc (.C [.I p.1,.I p.2])).2=h1 at*;obtain⟨qa,hqa⟩:∃q,q=h.next:=⟨_,rfl⟩
 rw[<-hqa]at gq1 qX⊢;have lq1:=Loc.fresh C1 qX;obtain⟨ov1,c1,_⟩:=C1.c;simp only[CB.ob]at c1;have gn1:=C1.nm;unfold R4 at hQ;have XK:∀x∈X,x∈X:=fun _ h=>h;refine Dd ?_;have KB:=(aS.refl h1).bump 10;rcases sU nm d.vS 0 with⟨f1,f2⟩|⟨f1,j,f2,_⟩
 rotate_left
 ·have fc:d.vS.contains nm=true:=by simpa using f1
  simp only[fc,Bool.not_true]at hQ;simp[c1,gn1,f2,gq1];refine dm ?_;refine gy p false _ _ _ (fun h4 _ k4=>?_) (fun h4 hh _=>by cases hh);have k5:=KB.trans k4;exact⟨dc,fun _=>by simpa using hQ _ (M1.toMove.comp (Move.k C1.fr k5)) (k5.fresh C1.fr)⟩
 ·have fc:d.vS.contains nm=false:=by simpa using f1
  simp only[fc,uy,Rs.DA]at hQ;simp[c1,gn1,f2,gq1];refine dm ?_;refine gy p true _ _ _ (fun h4 hh _=>by cases hh) (fun h2 _ k2=>?_);have Ck:=KB.trans k2;have C2:=C1.aJ Ck;have M2:=M1.comp (Mv.k C1.fr Ck).s;have gq2:=(Ck.old _ (au C1.fr gq1)).trans gq1;obtain⟨V8,c2,_⟩:=C2.c;simp only[CB.ob]at c2;have gn2:=C2.nm;simp;refine dm ?_;obtain⟨C3,M3⟩:=C2.afC nm;have qn:qa≠B.Kv:=lq1.n;have Yl:(h2.set B.Kv (.map (jd (d.vS++[nm])))).get qa=some (.C [.I p.1,.I p.2]):=(by rw[ah.aM,az qn];exact gq2)
  replace M3:=M2.comp M3.s;have en:jd (d.vS++[nm])=jd d.vS++[(.str nm,.bool true)]:=by simp[jd]
  rw[en]at C3 M3 Yl;simp[c2,gn2,f2,qn,gq2];generalize h2.set B.Kv (.map (jd d.vS++[(.str nm,.bool true)]))=h3 at*;clear gn2 c2 gq2 M2 C2 Ck k2 KB gq1 gn1 c1 M1 C1 K1;refine G9 hS C3 ty om p _ (iN.bind hQ XK M3 (fun p h2 q=>by simpa using q) fun n d5 v h5 LS Cv C5 w5 M5 m5=>?_);have w5:v= .I n:=w5;subst w5;have Un:=m5.lk _ _ lq1 Yl;simp;refine sw hS C5 ty om _ fun h6 k6=>?_;have C6:=C5.aJ k6;have M6:=M5.comp (Mv.k C5.fr k6).s;have NY:=(k6.old _ (au C5.fr Un)).trans Un;have nb:0<=n/\n<=65536/\d5.vs=d.vs/\d5.seen=d.seen/\d5.bytes=d.bytes:=by
   unfold Ku at LS;have bb:=NW (N:=S.N) (ty:=ty) hS.ok.fit;cases hm:(!((uD S.N S.es ty).2.2==5))with
   |false=>rw[hm]at LS;cases LS
   |true=>
    rw[hm]at LS;injection LS with e1 e2;have lv:=Dn.rp {d with vS:=d.vS++[nm]} ((uD S.N S.es ty).2.2==0) p;rw[e2]at lv;exact⟨om,om,lv.1,lv.2.1,lv.2.2.2.2⟩
  have nX6:h6.next∉X:=fun hx=>by have:=C6.xl _ hx;omega
  have K7:aS h6 (h6.alloc (.C [.str nm,.str ty,.I n,.bool par,.bool false,.bool (BN S ty)])).2:=kT;have ga7:(h6.alloc (.C [.str nm,.str ty,.I n,.bool par,.bool false,.bool (BN S ty)])).2.get h6.next=some (.C [.str nm,.str ty,.I n,.bool par,.bool false,.bool (BN S ty)]):=by simp
  obtain⟨C7,la,mY,_⟩:=C6.more K7 (i:=h6.next) om sp;have M7:=M6.comp (Mv.of mY C6.fr K7).s;have VU:=(K7.old _ (au C6.fr NY)).trans NY;have aN:h.next<=h6.next:=M6.nx;have qa6:qa≠h6.next:=by have:=au C6.fr NY;omega
  simp;generalize (h6.alloc (.C [.str nm,.str ty,.I n,.bool par,.bool false,.bool (BN S ty)])).2=h7 at*;generalize h6.next=a at*;clear mY K7 NY M6 C6 k6 Un M5 m5 C5 LS Yl M3 C3 en fc;obtain⟨vab,Fx⟩:=C7.Sv;obtain⟨ov7,c7,_⟩:=C7.c;obtain⟨sg,Ib,f7⟩:=C7.f;simp only[CB.ob]at c7;rw[Fx]at f7;refine Dd ?_;simp[c7,f7,VU];refine dm ?_;have KB7:=(aS.refl h7).bump 12;have eb:decide ((V.vs.length:Int)<200)=decide (d5.vs.length<200):=by
   have:=C7.vl;exact decide_eq_decide.2 om
  refine DD (C7.aJ KB7) _ p _ fun h8 C8 M8=>?_;rw[eb]at C8;have m78:=(Mv.k (B:=B) (V:=V) (X:=a::X) C7.fr KB7).comp M8;have M8':=M7.comp m78.s;have N1:=m78.lk _ _ la ga7;have gq8:=m78.lk _ _ lq1 VU;obtain⟨ov8,c8,o8⟩:=C8.c;obtain⟨sg8,ahf,f8⟩:=C8.f;have lv8:=Dn.rp d5 (decide (d5.vs.length<200)) p;generalize hd8:d5.tD (decide (d5.vs.length<200)) p=d8 at*;have c8':=c8;simp only[CB.ob]at c8';rw[Fx]at f8;simp;refine dl ?_;refine Dd ?_;have w1:IntKind.wrap .i64 (n+8)=n+8:=wr om om;have w2:IntKind.wrap .i64 (n+8-1)=n+7:=by rw[wr om om];omega
  have e8:Int.tdiv (n+7) 8=(n+7)/8:=fy om;have q8:∀t,cn (Go.binOp .quo t (.int .i64 (n+7)) (.int .i64 8))=some (.I ((n+7)/8)):=fun t=>by rw[<-e8];exact DQ om om om
  have ok8:=C8.ok;have by8:=ok8.bytes;have vl8:=C8.vl;have afD:d8.vs.length<=290:=by rw[lv8.1,nb.2.2.1];exact hv
  have w3:IntKind.wrap .i64 ((n+7)/8*8)=(n+7)/8*8:=wr om om;have w4:IntKind.wrap .i64 (d8.bytes+(n+7)/8*8)=d8.bytes+(n+7)/8*8:=wr om om;have rq:B.r≠qa:=lq1.r.symm;have ra:B.r≠a:=la.r.symm;simp[c8',N1,w1,w2,q8,w3,w4];refine dl ?_;have KB8:=(aS.refl h8).bump 16;have CB8:=C8.aJ KB8;have key:=CB8.Sf (V':=V) (d':={d8 with bytes:=d8.bytes+(n+7)/8*8}) (ov:=ov8) ⟨rfl,rfl,rfl⟩ ⟨rfl,rfl⟩ (mu.set (d:={d8 with bytes:=d8.bytes+(n+7)/8*8}) CB8.sa (show(h8.bump 16).get B.r=_ from c8) sp) (o8.move ((Move.k C8.fr KB8).comp (Move.on _ C8.own.r))) ⟨ok8.vs,ok8.seen,ok8.sl,ok8.loops,⟨by simp only;omega,by simp only;rw[lv8.1,nb.2.2.1,lv8.2.2.2.2,nb.2.2.2.2];omega⟩⟩;obtain⟨C9,m9⟩:=key;simp only[CB.ob]at C9 m9;have M9:=M8'.comp ((Mv.k (B:=B) (V:=V) (X:=a::X) C8.fr KB8).comp m9).s;have ga9:=m9.lk _ _ la (show(h8.bump 16).get a=_ from N1);have gq9:=m9.lk _ _ lq1 (show(h8.bump 16).get qa=_ from gq8);generalize (h8.bump 16).set B.r _=h9 at*;obtain⟨ov9,c9,_⟩:=C9.c;simp only[CB.ob]at c9;refine Dd ?_;simp[c9,gq9];refine dl ?_;have KB9:=(aS.refl h9).bump 8;refine DD (C9.aJ KB9) _ p _ fun xU C10 m10=>?_;replace m10:=(Mv.k (B:=B) (V:=V) (X:=a::X) C9.fr KB9).comp m10;have M10:=M9.comp m10.s;have afE:=m10.lk _ _ la ga9;have ahg:=m10.lk _ _ lq1 gq9;obtain⟨ahh,c10,o10⟩:=C10.c;have afF:=Dn.rp {d8 with bytes:=d8.bytes+(n+7)/8*8} (decide (d8.bytes+(n+7)/8*8<=65536)) p;generalize afG:Dn.tD {d8 with bytes:=d8.bytes+(n+7)/8*8} (decide (d8.bytes+(n+7)/8*8<=65536)) p=d10 at*;have V9:=c10;simp only[CB.ob]at V9;obtain⟨adi,adj,f10⟩:=C10.f;have afH:=Fx;simp;refine dl ?_;refine Dd ?_;have adk:=(aS.refl xU).bump 17;have f12:xU.get (xU.next+12)=none:=C10.fr _ om;have afI:=C10.vl;have agV:d10.vs.length<=290:=by rw[afF.1];exact afD
  obtain⟨H2,ha2,yY,gf2,C11,m11,adl,adm⟩:=(C10.aJ adk).addVars (a:=a) (v:=⟨nm,ty,n,par,false,BN S ty⟩) afE (aY ..) la ⟨by unfold eR;exact hl,nb.1,nb.2.1⟩ om (j:=xU.next+12) f12 sp adj;rw[afH]at ha2 gf2 f10;simp only[ah.kz]at ha2 yY C11 m11 adl adm;simp[-aO,V9,f10,f12];refine dl ?_;rw[ha2];obtain⟨ahi,c11,o11⟩:=C11.c;have nrf:B.r≠B.f:=fun e=>by rw[e,f10]at V9;simp at V9
  have Ur:=c11;rw[ah.aM,az nrf]at Ur;simp only[CB.ob]at Ur;simp[-aO,gf2,Ur,nrf,nrf.symm];have y0:=nrf.symm;refine dl ?_;have M11:yy B V ⟨V.vs++[a],.S (xU.next+17) (V.vs.length+1),V.sa⟩ X ((xU.next+17)::a::X) h _:=⟨(M10.comp (Mv.k C10.fr adk).s).toMove.comp m11,fun i o lt l g=>adl i o l (M10.lk i o lt l g),fun i lt l g=>adm i (by have:=M10.nx;omega) (by have:=M10.nx;omega) l (M10.no i lt l g),by have:=M10.nx;simp;omega,fun i lt l=>⟨l.r,l.f,l.n,(fun hx=>by rcases aP.1 hx with hx|hx;exact l.v hx;simp at hx;omega),(fun hx=>by have hx:i∈[xU.next+17]:=hx;have:=M10.nx;simp at hx;omega),l.sa⟩⟩
  have ahj:=C10.ok.sl;obtain⟨b',H3,ha3,Us,C12,M12⟩:=C11.V7 (k:=V.vs.length) (a:=a) sp (by simp;omega) (by simp;omega) (by simp;omega) c11 o11;have M13:=M11.comp M12;rw[show(H2.set B.f (.C [.str adi.nm,.str adi.ty,B.Qi,B.NQ,.S (xU.next+17) (V.vs.length+1),.N])).next=H2.next from rfl]at ha3;rw[ha3];simp only[CB.ob]at Us;simp[-aO,Us];have en1:d5.add nm ty n par (BN S ty) p={d10 with vs:=d10.vs++[⟨nm,ty,n,par,false,BN S ty⟩],seen:=d10.seen++[V.vs.length]}:=by
   unfold Dn.add;simp only[hd8,afG];rw[afI]
  have en2:d5.vs.length=V.vs.length:=C7.vl.symm;rw[en1,en2]at Cv;refine Cv _ _ _ _ ⟨[a],rfl⟩ (fun x hx=>?_) C12 ⟨by simp[vP],sp⟩ M13;exact ay _ (ay _ (ay _ hx))
end
end
section
attribute [local simp] aI
class Inv(I:Dn->Prop)(P:Pl->Prop):Prop where
 tD:∀d b p,P p->I d->I (Dn.tD d b p)
 take:∀d k,I d->I (Dn.take d k)
section
variable{S:Sc}{P:Pl->Prop}{T:List UInt8->Prop}{I:Dn->Prop}[iv:Inv I P]
theorem Sw{d:Dn}(h:I d){p:Pl}(hp:P p)(ty:List UInt8):(Ku S ty p d).H (fun _ d=>I d) P:=Rs.cQ hp fun _=>iv.tD _ _ _ hp h
theorem adn{d:Dn}(h:I d){p:Pl}(hp:P p)(e:TX):(VK S e p d).H (fun _ d=>I d) P:=by
 unfold VK;split
 ·exact h
 ·split
  ·exact h
  ·exact Rs.cQ hp fun _=>h
theorem sV{r:Rs TX}(h:r.H (fun _ d=>I d) P){p:Pl}(hp:P p):(yV S r p).H (fun _ d=>I d) P:=Rs.bq h fun e d hd=>adn hd hp e
theorem Hj{r:Rs TX}(h:r.H (fun _ d=>I d) P){p:Pl}(hp:P p):(LN S r p).H (fun _ d=>I d) P:=Rs.bq (sV h hp) fun _ _ hd=>Rs.cQ hp fun _=>hd
theorem qz{r:Rs TX}(h:r.H (fun _ d=>I d) P){p:Pl}(hp:P p):(ye S r p).H (fun _ d=>I d) P:=Rs.bq (sV h hp) fun _ _ hd=>Rs.cQ hp fun _=>hd
theorem ze{r:Rs TX}(h:r.H (fun _ d=>I d) P){x:Ex}(hp:P x.pos)(ty:List UInt8):(JA S r x ty).H (fun _ d=>I d) P:=Rs.bq (sV h hp) fun _ _ hd=>Rs.cQ hp fun _=>hd
theorem N2{d:Dn}(h:I d){p:Pl}(hp:P p)(ty:List UInt8):(Yi S ty p d).H (fun _ d=>I d) P:=Rs.cQ hp fun _=>Rs.bq (Sw h hp _) fun _ _ hd=>hd
theorem Yt{d:Dn}(h:I d){p:Pl}(hp:P p)(ty nm:List UInt8):(flF S ty nm p d).H (fun _ d=>I d) P:=Rs.cQ hp fun _=>by
 split
 ·exact hp
 ·split
  ·exact hp
  ·exact h
theorem aaQ{d:Dn}(h:I d){p:Pl}(hp:P p)(s:List UInt8):(GZ S s p d).H (fun _ d=>I d) P:=by
 unfold GZ;split
 ·exact h
 ·split
  ·exact h
  ·exact hp
theorem ado{d:Dn}(h:I d){p:Pl}(hp:P p)(a b:TX)(op:Int):(Qh S a b op p d).H (fun _ d=>I d) P:=Rs.cQ hp fun _=>Rs.bq (N2 h hp _) fun _ _ hd=>hd
theorem adp{d:Dn}(h:I d){p:Pl}(hp:P p)(a b:TX)(x y:Ex)(op:Int):(Yj S a b x y op p d).H (fun _ d=>I d) P:=by
 unfold Yj;dsimp only;split
 ·exact Rs.cQ hp fun _=>h
 ·split
  ·exact h
  ·exact ado h hp a b op
theorem adq{d:Dn}(h:I d){p:Pl}(hp:P p)(e:TX):(adF S e p d).H (fun _ d=>I d) P:=Rs.cQ hp fun _=>by
 show I (match e.d.kd==2,e.d.v with
  |true,some k=>d.take k
  |_,_=>d)
 split
 ·exact iv.take _ _ h
 ·exact h
theorem aaR{d:Dn}(h:I d){p:Pl}(hp:P p)(e:TX)(nm:List UInt8):(VL S e nm p d).H (fun _ d=>I d) P:=Rs.cQ hp fun _=>Rs.bq (Yt h hp _ _) fun _ _ hd=>hd
theorem aaS{d:Dn}(h:I d){p:Pl}(hp:P p)(e:TX)(nm:List UInt8):(VM S e nm p d).H (fun _ d=>I d) P:=Rs.bq (N2 h hp _) fun _ _ hd=>Rs.bq (Yt hd hp _ _) fun _ _ hd=>hd
mutual
theorem ju:∀(x:Ex)(d:Dn),I d->x.al P T->(jY S x d).H (fun _ d=>I d) P
 | .num p n,d,h,a=>by simp only[jY];exact h
 | .var p s,d,h,a=>by simp only[jY];exact aaQ h a s
 | .un p op a,d,h,⟨hp,ha⟩=>by
  have i:=ju a d h ha;simp only[jY];split
  ·exact Rs.bq (qz i ha.fM) fun _ _ hd=>hd
  ·split
   ·exact Rs.bq (sV i ha.fM) fun _ _ hd=>Rs.bq (N2 hd hp _) fun _ _ hd=>hd
   ·split
    ·exact Rs.bq i fun _ _ hd=>adq hd hp _
    ·exact Rs.bq (Hj i ha.fM) fun _ _ hd=>hd
 | .bin p op a b,d,h,⟨hp,ha,hb⟩=>by
  have i:=ju a d h ha;simp only[jY];split
  ·exact Rs.bq (qz i ha.fM) fun _ _ hd=>Rs.bq (qz (ju b _ hd hb) hb.fM) fun _ _ hd=>hd
  ·split
   ·exact Rs.bq (qz i ha.fM) fun _ _ hd=>Rs.bq (qz (ju b _ hd hb) hb.fM) fun _ _ hd=>hd
   ·exact Rs.bq (sV i ha.fM) fun _ _ hd=>Rs.bq (sV (ju b _ hd hb) hb.fM) fun _ _ hd=>adp hd hp _ _ _ _ _
 | .cast p ty a,d,h,⟨hp,_,ha⟩=>by
  simp only[jY];exact Rs.bq (sV (ju a d h ha) ha.fM) fun _ _ hd=>Rs.cQ hp fun _=>hd
 | .call p f xs,d,h,⟨hp,ha⟩=>by
  simp only[jY];split
  ·exact hp
  ·split
   ·exact hp
   ·exact Rs.cQ hp fun _=>Rs.cQ hp fun _=>Rs.bq (Yu xs _ d h ha) fun _ _ hd=>hd
 | .index p a i,d,h,⟨hp,ha,hb⟩=>by
  simp only[jY];exact Rs.bq (sV (ju a d h ha) ha.fM) fun _ _ hd=>Rs.bq (Hj (ju i _ hd hb) hb.fM) fun _ _ hd=>Rs.bq (N2 hd hp _) fun _ _ hd=>hd
 | .mr p nm a,d,h,⟨hp,ha⟩=>by
  simp only[jY];exact Rs.bq (ju a d h ha) fun _ _ hd=>aaR hd hp _ _
 | .arrow p nm a,d,h,⟨hp,ha⟩=>by
  simp only[jY];exact Rs.bq (sV (ju a d h ha) ha.fM) fun _ _ hd=>aaS hd hp _ _
 | .Cf p,d,h,a=>by simp only[jY];exact h
 | .size p ty,d,h,a=>by
  simp only[jY];exact Rs.bq (Sw h a.1 ty) fun _ _ hd=>hd
theorem Yu:∀(xs:List Ex)(ts:List (List UInt8))(d:Dn),I d->alL P T xs->(JB S xs ts d).H (fun _ d=>I d) P
 |x::xs,t::ts,d,h,⟨ha,hb⟩=>by
  simp only[JB];exact Rs.bq (ze (ju x d h ha) ha.fM t) fun _ _ hd=>Rs.bq (Yu xs ts _ hd hb) fun _ _ hd=>hd
 |[],_,d,h,_=>by simp only[JB];exact h
 |_::_,[],d,h,_=>by simp only[JB];exact h
end
end
structure Pe(d0 d:Dn):Prop where
 vs:d.vs.length=d0.vs.length
 seen:d.seen=d0.seen
 vS:d.vS=d0.vS
 loops:d.loops=d0.loops
 bytes:d.bytes=d0.bytes
instance(d0:Dn)(P:Pl->Prop):Inv (Pe d0) P where
 tD d b p _ h:=by
  obtain⟨a,b,c,e,f⟩:=Dn.rp d b p;exact⟨by rw[a];exact h.vs,b.trans h.seen,c.trans h.vS,e.trans h.loops,f.trans h.bytes⟩
 take d k h:=⟨by simp[Dn.take,h.vs],h.seen,h.vS,h.loops,h.bytes⟩
instance(P:Pl->Prop):Inv (Dn.ov P) P where
 tD d b p hp h:=Dn.A1 h hp b
 take d k h:=h
theorem Pe.refl(d:Dn):Pe d d:=⟨rfl,rfl,rfl,rfl,rfl⟩
def Yv(P:Pl->Prop)(T:List UInt8->Prop):Option Ex->Prop
 |none=>True
 |some e=>e.al P T
mutual
def fp.al(P:Pl->Prop)(T:List UInt8->Prop):fp->Prop
 | .block p l=>P p/\Yw P T l
 | .empty p=>P p
 | .decl p ty _ e=>P p/\T ty/\Yv P T e
 | .assign p to e=>P p/\to.al P T/\e.al P T
 | .eval p e=>P p/\e.al P T
 | .ifs p e s=>P p/\e.al P T/\s.al P T
 | .LO p e s t=>P p/\e.al P T/\s.al P T/\t.al P T
 | .LP p e s=>P p/\e.al P T/\s.al P T
 | .NP p=>P p
 | .cont p=>P p
 | .ret p e=>P p/\Yv P T e
 | .out p e=>P p/\e.al P T
def Yw(P:Pl->Prop)(T:List UInt8->Prop):List fp->Prop
 |[]=>True
 |s::l=>s.al P T/\Yw P T l
end
structure DS(d d':Dn)(n:Nat):Prop where
 ok:d'.Ok
 lo:d.vs.length<=d'.vs.length
 hi:d'.vs.length<=d.vs.length+n
 st:d'.bytes<=70000*d'.vs.length
 lp:d'.loops=d.loops
 sn:∃w,d'.seen=d.seen++w
theorem DS.mono{d d':Dn}{n m:Nat}(h:DS d d' n)(hm:n<=m):DS d d' m:=⟨h.ok,h.lo,by have:=h.hi;omega,h.st,h.lp,h.sn⟩
theorem DS.trans{a b c:Dn}{n m:Nat}(h:DS a b n)(h':DS b c m):DS a c (n+m):=by
 obtain⟨w,hw⟩:=h.sn;obtain⟨w',HV⟩:=h'.sn;exact⟨h'.ok,bk h.lo h'.lo,by have:=h.hi;have:=h'.hi;omega,h'.st,h'.lp.trans h.lp,⟨w++w',by rw[HV,hw,cj]⟩⟩
theorem DS.of{d d':Dn}(ok:d'.Ok)(st:d.bytes<=70000*d.vs.length)(s:Pe d d'):DS d d' 0:=⟨ok,by rw[s.vs];exact ao _,by rw[s.vs];exact ao _,by rw[s.vs,s.bytes];exact st,s.loops,⟨[],by rw[s.seen];simp⟩⟩
section
variable{S:Sc}{P:Pl->Prop}
theorem adr{α:Type}{r:Rs α}{V W:α->Dn->Prop}{E F:Pl->Prop}(h:r.H V E)(h':r.H W F):r.H (fun a d=>V a d/\W a d) fun _=>True:=by
 cases r with
 |ok a d=>exact⟨h,h'⟩
 |err p=>trivial
theorem Hk(hS:S.Ok){d:Dn}(h:d.Ok)(st:d.bytes<=70000*d.vs.length)(nm ty:List UInt8)(Gp:ty.length<=eR)(par:Bool)(p:Pl):(R4 S nm ty par p d).H (fun k d'=>DS d d' 1) fun _=>True:=by
 unfold R4;refine Rs.cQ trivial fun _=>?_;have hs:(Ku S ty p {d with vS:=d.vS++[nm]}).H (fun n d'=>(0<=n/\n<=65536)/\d'.vs=d.vs/\d'.seen=d.seen/\d'.loops=d.loops/\d'.bytes=d.bytes) fun _=>True:=by
  refine Rs.cQ trivial fun _=>?_;have lv:=Dn.rp {d with vS:=d.vS++[nm]} ((uD S.N S.es ty).2.2==0) p;exact⟨NW hS.fit,lv.1,lv.2.1,lv.2.2.2.1,lv.2.2.2.2⟩
 refine Rs.bq hs fun n e ⟨hn,e1,e2,e3,e4⟩=>?_;show DS d (e.add nm ty n par (BN S ty) p) 1;have l1:=Dn.rp e (decide (e.vs.length<200)) p;unfold Dn.add;simp only;generalize e.tD (decide (e.vs.length<200)) p=e5 at*;have l2:=Dn.rp {e5 with bytes:=e5.bytes+(n+7)/8*8} (decide (e5.bytes+(n+7)/8*8<=65536)) p;generalize Dn.tD {e5 with bytes:=e5.bytes+(n+7)/8*8} (decide (e5.bytes+(n+7)/8*8<=65536)) p=e6 at*;have v6:e6.vs=d.vs:=by rw[l2.1,l1.1,e1]
 have s6:e6.seen=d.seen:=by rw[l2.2.1,l1.2.1,e2]
 have b6:e6.bytes=d.bytes+(n+7)/8*8:=by rw[l2.2.2.2.2];simp only;rw[l1.2.2.2.2,e4]
 have p6:e6.loops=d.loops:=by rw[l2.2.2.2.1];simp only;rw[l1.2.2.2.1,e3]
 obtain⟨k1,k2,k3,k4,k5⟩:=h;refine⟨⟨fun v hv=>?_,fun j hj=>?_,?_,?_,?_⟩,?_,?_,?_,p6,⟨[e6.vs.length],by simp only;rw[s6]⟩⟩
 ·simp only[v6]at hv;rcases aP.1 hv with hv|hv
  ·exact k1 v hv
  ·simp only[aR]at hv;subst hv;exact⟨Gp,hn⟩
 ·simp only[s6,v6]at hj⊢;rcases aP.1 hj with hj|hj
  ·have:=k2 j hj;simp;omega
  ·simp only[aR]at hj;subst hj;simp
 ·simp only[s6,v6];simp;omega
 ·simp only[p6];exact k4
 ·simp only[b6,v6];simp;omega
 ·simp only[v6];simp
 ·simp only[v6];simp
 ·simp only[b6,v6];simp;omega
theorem afJ(hS:S.Ok){x:Ex}{d:Dn}(h:d.Ok)(st:d.bytes<=70000*d.vs.length)(hx:x.al P TL):(jY S x d).H (fun e d'=>DS d d' 0/\NS x.nodes d.vs.length e) fun _=>True:=
 Rs.R6 (adr (pj hS x d h hx) (ju (S:=S) (P:=P) (I:=Pe d) (T:=TL) x d (Pe.refl d) hx)) fun _ _ ⟨⟨a,b⟩,c⟩=>⟨DS.of b.ok st c,a⟩
end
end
section
attribute [local simp] aI
section
variable{S:Sc}{P:Pl->Prop}{rt:List UInt8}
abbrev PT:Pl->Prop:=fun _=>True
instance(d0:Dn)(n:Nat)(P:Pl->Prop):Inv (fun d=>DS d0 d n) P where
 tD d b p _ h:=by
  obtain⟨a,b',c,e,f⟩:=Dn.rp d b p;exact⟨h.ok.tD b p,by rw[a];exact h.lo,by rw[a];exact h.hi,by rw[a,f];exact h.st,e.trans h.lp,by rw[b'];exact h.sn⟩
 take d k h:=⟨h.ok.take k,by simp only[Dn.take,jH];exact h.lo,by simp only[Dn.take,jH];exact h.hi,by simp only[Dn.take,jH];exact h.st,h.lp,h.sn⟩
theorem DS.refl{d:Dn}(h:d.Ok)(st:d.bytes<=70000*d.vs.length):DS d d 0:=⟨h,ao _,ao _,st,rfl,⟨[],sp⟩⟩
theorem DS.block{d e:Dn}{n:Nat}(h:DS d e n)(hd:d.Ok):DS d {e with seen:=e.seen.take d.seen.length} n:=by
 obtain⟨w,hw⟩:=h.sn;have ht:e.seen.take d.seen.length=d.seen:=by rw[hw,List.take_left]
 refine⟨⟨h.ok.vs,fun k hk=>?_,?_,h.ok.loops,h.ok.bytes⟩,h.lo,h.hi,h.st,h.lp,⟨[],by simp only[ht];simp⟩⟩
 ·exact h.ok.seen k (List.mem_of_mem_take hk)
 ·have:=h.ok.sl;simp only[cI];omega
theorem Dn.Ok.loop{d:Dn}(h:d.Ok){k:Int}(h1:-1000<=k)(h2:k<=1000):Dn.Ok {d with loops:=k}:=⟨h.vs,h.seen,h.sl,⟨h1,h2⟩,h.bytes⟩
abbrev DI(d:Dn)(n:Nat):Dn->Prop:=fun d'=>DS d d' n
mutual
theorem xn(hS:S.Ok):∀(x:Sm)(d:Dn),d.Ok->d.bytes<=70000*d.vs.length->-1000<=d.loops->d.loops+x.nodes<=1000->x.al PT TL->(qM S rt x d).H (fun _ d'=>DS d d' x.nodes) PT
 | .block p l,d,h,st,l1,l2,hx=>by
  simp only[qM];simp only[fp.nodes]at l2⊢;exact Rs.bq (Sx hS l d h st l1 om hx.2) fun _ e he=>(he.block h).mono om
 | .empty p,d,h,st,l1,l2,hx=>by
  simp only[qM];exact(DS.refl h st).mono om
 | .decl p ty nm e,d,h,st,l1,l2,hx=>by
  simp only[qM];simp only[fp.nodes]at l2⊢;refine Rs.bq (Hk hS h st nm ty hx.2.1 false p) fun k d1 h1=>?_;cases e with
  |none=>exact h1.mono (by simp[DT])
  |some e=>
   refine Rs.cQ trivial fun _=>Rs.bq (ze (I:=DI d 1) (P:=PT) (ju (I:=DI d 1) (P:=PT) (T:=TL) e d1 h1 hx.2.2) (x:=e) trivial ty) fun _ _ hd=>hd.mono om
 | .assign p to e,d,h,st,l1,l2,hx=>by
  simp only[qM];exact Rs.bq (ju (I:=DI d 0) (P:=PT) (T:=TL) to d (DS.refl h st) hx.2.1) fun t _ hd=>Rs.cQ trivial fun _=>Rs.bq (ze (I:=DI d 0) (P:=PT) (ju (I:=DI d 0) (P:=PT) (T:=TL) e _ hd hx.2.2) (x:=e) trivial t.ty) fun _ _ hd=>hd.mono om
 | .eval p e,d,h,st,l1,l2,hx=>by
  simp only[qM];exact Rs.bq (sV (I:=DI d 0) (P:=PT) (ju (I:=DI d 0) (P:=PT) (T:=TL) e d (DS.refl h st) hx.2) trivial) fun _ _ hd=>hd.mono om
 | .ifs p e s,d,h,st,l1,l2,hx=>by
  simp only[qM];simp only[fp.nodes]at l2⊢;refine Rs.bq (qz (I:=DI d 0) (P:=PT) (ju (I:=DI d 0) (P:=PT) (T:=TL) e d (DS.refl h st) hx.2.1) trivial) fun _ d1 h1=>?_;refine Rs.bq (xn hS s d1 h1.ok h1.st (by rw[h1.lp];exact l1) (by rw[h1.lp];omega) hx.2.2) fun _ _ h2=>(h1.trans h2).mono om
 | .LO p e s t,d,h,st,l1,l2,hx=>by
  simp only[qM];simp only[fp.nodes]at l2⊢;refine Rs.bq (qz (I:=DI d 0) (P:=PT) (ju (I:=DI d 0) (P:=PT) (T:=TL) e d (DS.refl h st) hx.2.1) trivial) fun _ d1 h1=>?_;refine Rs.bq (xn hS s d1 h1.ok h1.st (by rw[h1.lp];exact l1) (by rw[h1.lp];omega) hx.2.2.1) fun _ d2 h2=>?_;have wk:=h1.trans h2;refine Rs.bq (xn hS t d2 wk.ok wk.st (by rw[wk.lp];exact l1) (by rw[wk.lp];omega) hx.2.2.2) fun _ _ h3=>(wk.trans h3).mono om
 | .LP p e s,d,h,st,l1,l2,hx=>by
  simp only[qM];simp only[fp.nodes]at l2⊢;refine Rs.bq (qz (I:=DI d 0) (P:=PT) (ju (I:=DI d 0) (P:=PT) (T:=TL) e d (DS.refl h st) hx.2.1) trivial) fun _ d1 h1=>?_;have e1:d1.loops=d.loops:=h1.lp;refine Rs.bq (xn hS s {d1 with loops:=d1.loops+1} (h1.ok.loop om om) h1.st (by simp only;omega) (by simp only;omega) hx.2.2) fun _ d2 h2=>?_;have e2:d2.loops=d1.loops+1:=h2.lp;obtain⟨w1,hw1⟩:=h1.sn;obtain⟨w2,Sy⟩:=h2.sn;exact⟨h2.ok.loop om om,bk h1.lo h2.lo,by have:=h1.hi;have:=h2.hi;simp only at*;omega,h2.st,by simp only;omega,⟨w1++w2,by simp only at*;rw[Sy,hw1,cj]⟩⟩
 | .NP p,d,h,st,l1,l2,hx=>by
  simp only[qM];exact Rs.cQ trivial fun _=>(DS.refl h st).mono om
 | .cont p,d,h,st,l1,l2,hx=>by
  simp only[qM];exact Rs.cQ trivial fun _=>(DS.refl h st).mono om
 | .ret p none,d,h,st,l1,l2,hx=>by
  simp only[qM];exact Rs.cQ trivial fun _=>(DS.refl h st).mono om
 | .ret p (some e),d,h,st,l1,l2,hx=>by
  simp only[qM];exact Rs.cQ trivial fun _=>Rs.bq (ze (I:=DI d 0) (P:=PT) (ju (I:=DI d 0) (P:=PT) (T:=TL) e d (DS.refl h st) hx.2) (x:=e) trivial rt) fun _ _ hd=>hd.mono om
 | .out p e,d,h,st,l1,l2,hx=>by
  simp only[qM];exact Rs.bq (Hj (I:=DI d 0) (P:=PT) (ju (I:=DI d 0) (P:=PT) (T:=TL) e d (DS.refl h st) hx.2) trivial) fun _ _ hd=>hd.mono om
theorem Sx(hS:S.Ok):∀(l:List Sm)(d:Dn),d.Ok->d.bytes<=70000*d.vs.length->-1000<=d.loops->d.loops+ft l<=1000->Yw PT TL l->(Cg S rt l d).H (fun _ d'=>DS d d' (ft l)) PT
 |[],d,h,st,l1,l2,hx=>by
  simp only[Cg];exact(DS.refl h st).mono om
 |s::l,d,h,st,l1,l2,hx=>by
  simp only[Cg];simp only[ft]at l2⊢;refine Rs.bq (xn hS s d h st l1 om hx.1) fun _ d1 h1=>?_;exact Rs.bq (Sx hS l d1 h1.ok h1.st (by rw[h1.lp];exact l1) (by rw[h1.lp];omega) hx.2) fun _ _ h2=>h1.trans h2
end
theorem Sz{d:Dn}(h:d.ov P){p:Pl}(hp:P p)(nm ty:List UInt8)(par:Bool):(R4 S nm ty par p d).H (fun _ d'=>d'.ov P) P:=by
 unfold R4;refine Rs.cQ hp fun _=>Rs.bq (Sw (I:=Dn.ov P) (P:=P) (d:={d with vS:=d.vS++[nm]}) h hp ty) fun n e he=>?_;show(e.add nm ty n par (BN S ty) p).ov P;unfold Dn.add;exact Dn.A1 (d:={e.tD (decide (e.vs.length<200)) p with bytes:=(e.tD (decide (e.vs.length<200)) p).bytes+(n+7)/8*8}) (Dn.A1 he hp _) hp _
mutual
theorem Ba:∀(x:Sm)(d:Dn),d.ov P->x.al P TL->(qM S rt x d).H (fun _ d'=>d'.ov P) P
 | .block p l,d,h,hx=>by
  simp only[qM];exact Rs.bq (SA l d h hx.2) fun _ _ he=>he
 | .empty p,d,h,hx=>by simp only[qM];exact h
 | .decl p ty nm e,d,h,hx=>by
  simp only[qM];refine Rs.bq (Sz h hx.1 nm ty false) fun k d1 h1=>?_;cases e with
  |none=>exact h1
  |some e=>exact Rs.cQ hx.1 fun _=>Rs.bq (ze (I:=Dn.ov P) (P:=P) (ju (I:=Dn.ov P) (P:=P) (T:=TL) e d1 h1 hx.2.2) (x:=e) (Ex.al.fM hx.2.2) ty) fun _ _ hd=>hd
 | .assign p to e,d,h,hx=>by
  simp only[qM];exact Rs.bq (ju (I:=Dn.ov P) (P:=P) (T:=TL) to d h hx.2.1) fun t _ hd=>Rs.cQ hx.1 fun _=>Rs.bq (ze (I:=Dn.ov P) (P:=P) (ju (I:=Dn.ov P) (P:=P) (T:=TL) e _ hd hx.2.2) (x:=e) hx.2.2.fM t.ty) fun _ _ hd=>hd
 | .eval p e,d,h,hx=>by
  simp only[qM];exact Rs.bq (sV (I:=Dn.ov P) (P:=P) (ju (I:=Dn.ov P) (P:=P) (T:=TL) e d h hx.2) hx.2.fM) fun _ _ hd=>hd
 | .ifs p e s,d,h,hx=>by
  simp only[qM];exact Rs.bq (qz (I:=Dn.ov P) (P:=P) (ju (I:=Dn.ov P) (P:=P) (T:=TL) e d h hx.2.1) hx.2.1.fM) fun _ d1 h1=>Rs.bq (Ba s d1 h1 hx.2.2) fun _ _ h2=>h2
 | .LO p e s t,d,h,hx=>by
  simp only[qM];exact Rs.bq (qz (I:=Dn.ov P) (P:=P) (ju (I:=Dn.ov P) (P:=P) (T:=TL) e d h hx.2.1) hx.2.1.fM) fun _ d1 h1=>Rs.bq (Ba s d1 h1 hx.2.2.1) fun _ d2 h2=>Rs.bq (Ba t d2 h2 hx.2.2.2) fun _ _ h3=>h3
 | .LP p e s,d,h,hx=>by
  simp only[qM];exact Rs.bq (qz (I:=Dn.ov P) (P:=P) (ju (I:=Dn.ov P) (P:=P) (T:=TL) e d h hx.2.1) hx.2.1.fM) fun _ d1 h1=>Rs.bq (Ba s {d1 with loops:=d1.loops+1} h1 hx.2.2) fun _ _ h2=>h2
 | .NP p,d,h,hx=>by simp only[qM];exact Rs.cQ hx fun _=>h
 | .cont p,d,h,hx=>by simp only[qM];exact Rs.cQ hx fun _=>h
 | .ret p none,d,h,hx=>by simp only[qM];exact Rs.cQ hx.1 fun _=>h
 | .ret p (some e),d,h,hx=>by
  simp only[qM];exact Rs.cQ hx.1 fun _=>Rs.bq (ze (I:=Dn.ov P) (P:=P) (ju (I:=Dn.ov P) (P:=P) (T:=TL) e d h hx.2) (x:=e) (Ex.al.fM hx.2) rt) fun _ _ hd=>hd
 | .out p e,d,h,hx=>by
  simp only[qM];exact Rs.bq (Hj (I:=Dn.ov P) (P:=P) (ju (I:=Dn.ov P) (P:=P) (T:=TL) e d h hx.2) hx.2.fM) fun _ _ hd=>hd
theorem SA:∀(l:List Sm)(d:Dn),d.ov P->Yw P TL l->(Cg S rt l d).H (fun _ d'=>d'.ov P) P
 |[],d,h,hx=>by simp only[Cg];exact h
 |s::l,d,h,hx=>by
  simp only[Cg];exact Rs.bq (Ba s d h hx.1) fun _ d1 h1=>Rs.bq (SA l d1 h1 hx.2) fun _ _ h2=>h2
end
end
end
section
attribute [local simp] aI
def WU(t:TS)(X vs:List Nat)(h:ah)(v:AV):Prop:=∃id,v= .P id/\ui X vs h id t
section
variable{S:Sc}{B:CB}{X0:List Nat}{h0:ah}{X Y:List Nat}{V V':CV}{d:Dn}{h h1 h2:ah}{P:Pl->Prop}
theorem yy.put{hb:ah}{i:Nat}(m:yy B V V' X Y hb h)(hi:i∈Y)(h0:hb.get i=none)(hn:hb.next<=i)(o:ej):yy B V V' X Y hb (h.set i o):=
 ⟨m.toMove.comp (Move.on o hi),fun j o' lt l g=>by rw[ah.aM,az om];exact m.lk j o' lt l g,fun j lt l g=>by rw[ah.aM,az om];exact m.no j lt l g,m.nx,m.gr⟩
theorem mR(c:dF S B X0 h0 Y V' d h2)(gw:∃ws,V'.vs=V.vs++ws)(hs:∀x∈X,x∈Y){o:Nat}(hX:∀x∈X,x<h.next)(oN:h.next<=o)(lo:Loc B V' o)(M:yy B V V' X Y h h2){kd:Int}{v:Option Nat}{to e:Option TX}{tv ev lv:AV}{qs:List (Nat×TS)}
 (go:h2.get o=some (.C [.I kd,.ptr (vP V'.vs v),tv,ev,lv])) (vk:∀k,v=some k->k<V'.vs.length) (ht:rR Y V'.vs h2 tv to) (he:rR Y V'.vs h2 ev e) (arr:dP [] h2 lv qs) (hla:∀b∈aK lv,Loc B V' b/\h.next<=b) (sub:∀q∈qs,ui Y V'.vs h2 q.1 q.2)
 {Q:Out->ah->Prop} (hQ:iN S B X0 h0 X V WU h Q (.ok (.mk kd v to e (qs.map Prod.snd)) d)):Q (.ret (.P o)) h2:=by
 obtain⟨X',hX'⟩:∃X',X'=Y.filter (fun x=>!(x==o)&&!(aK lv).contains x):=⟨_,rfl⟩
 have mem:∀x,x∈X'↔x∈Y/\x≠o/\x∉aK lv:=fun x=>by rw[hX'];simp[List.mem_filter]
 have sb:∀x∈X',x∈Y:=fun x hx=>((mem x).1 hx).1;have own:=c.own;have nl:∀x,(∀b,Loc B V' b->b≠x)->x≠o/\x∉aK lv:=fun x hx=>⟨fun e=>hx o lo e.symm,fun hb=>hx x (hla x hb).1 rfl⟩
 have afK:R5 B V' X':=⟨(mem _).2 ⟨own.r,nl _ fun b l=>l.r⟩,(mem _).2 ⟨own.f,nl _ fun b l=>l.f⟩,(mem _).2 ⟨own.n,nl _ fun b l=>l.n⟩,fun a ha=>(mem _).2 ⟨own.v a ha,nl _ fun b l e=>l.v (e▸ha)⟩,fun a ha=>(mem _).2 ⟨own.va a ha,nl _ fun b l e=>l.va (e▸ha)⟩,fun a ha=>(mem _).2 ⟨own.sa a ha,nl _ fun b l e=>l.sa (e▸ha)⟩⟩
 have ml:Move Y X' h2 h2:=Move.less sb;refine hQ V' X' _ _ gw (fun x hx=>(mem x).2 ⟨hs x hx,?_,fun hb=>?_⟩) (c.less sb afK) ⟨o,rfl,.mk (lv:=lv) (qs:=qs) go (fun hx=>((mem o).1 hx).2.1 rfl) vk (ht.move ml) (he.move ml) ?_ rfl fun q hq=>(sub q hq).move ml⟩ ⟨M.toMove.comp ml,M.lk,M.no,M.nx,M.gr⟩
 ·have:=hX x hx;omega
 ·have:=hX x hx;have:=(hla x hb).2;omega
 ·rcases arr with e|⟨b,e,_,g⟩
  ·exact .inl e
  ·exact .inr ⟨b,e,fun hx=>((mem b).1 hx).2.2 (by rw[e];simp[aK]),g⟩
theorem xp(c:dF S B X0 h0 Y V' d h2)(gw:∃ws,V'.vs=V.vs++ws)(hs:∀x∈X,x∈Y){o:Nat}(hX:∀x∈X,x<h.next)(ho:o∈Y)(oN:h.next<=o)(qO:h.get o=none)(lo:Loc B V' o)(M:yy B V V' X Y h h2){kd:Int}{v:Option Nat}{to e:Option TX}{tv ev:AV}
 (vk:∀k,v=some k->k<V'.vs.length) (ht:rR Y V'.vs h2 tv to) (he:rR Y V'.vs h2 ev e)
 {Q:Out->ah->Prop} (hQ:iN S B X0 h0 X V WU h Q (.ok (.mk kd v to e []) d)):Q (.ret (.P o)) (h2.set o (.C [.I kd,.ptr (vP V'.vs v),tv,ev,.Z])):=by
 obtain⟨c3,m3⟩:=c.put ho lo (.C [.I kd,.ptr (vP V'.vs v),tv,ev,.Z]);exact mR (qs:=[]) c3 gw hs hX oN lo (M.put ho qO oN _) sp vk (ht.move m3) (he.move m3) (.inl ⟨rfl,rfl⟩) (by simp[aK]) sp hQ
theorem uT.obj{id:Nat}{s:Sm}(e:uT X h id s):∃ev tv lv qs,h.get id=some (.C (s.dx ev tv lv s.dJ))/\id∉X/\tK X h ev s.eO/\tK X h tv s.LW/\dP X h lv qs/\qs.map Prod.snd=s.list/\∀q,q∈qs->uT X h q.1 q.2:=by
 cases e with
 |mk obj nx he ho arr ha sub=>exact⟨_,_,_,_,obj,nx,he,ho,arr,ha,sub⟩
theorem tK.BR{v:AV}{e:Ex}(o:tK X h v (some e)):∃id,v= .P id/\jV X h id e:=by
 rcases o with⟨_,e⟩|⟨id,e',h1,h2,h3⟩
 ·cases e
 ·injection h2 with h2;subst h2;exact⟨id,h1,h3⟩
theorem tK.qc{v:AV}(o:tK X h v none):v= .N:=by
 rcases o with⟨e,_⟩|⟨id,e',h1,h2,h3⟩
 ·exact e
 ·cases h2
def KS(S:Sc)(B:CB)(X0:List Nat)(h0:ah)(rt:List UInt8)(x:Sm):Prop:=∀(X:List Nat)(V:CV)(d:Dn)(h:ah)(id:Nat)(Q:Out->ah->Prop),dF S B X0 h0 X V d h->uT X0 h0 id x->d.vs.length+x.nodes<=290->d.bytes<=70000*d.vs.length->-1000<=d.loops->d.loops+x.nodes<=1000->iN S B X0 h0 X V WU h Q (qM S rt x d)->aV env 66 [.P B.r,.P id] h Q
theorem Wa(hS:Stat S B X0 h0){rt:List UInt8}{p:Pl}{e:Ex}(hx:(fp.eval p e).al PT TL)(hn:e.nodes<=250):KS S B X0 h0 rt (.eval p e):=by
 intro X V d h idx Q c sr hv hb uc nJ hQ;refine wb fn66 rfl ?_;obtain⟨ev,tv,lv,qs,fQ,gY,he,ht,_,_,_⟩:=sr.obj;obtain⟨ie,rfl,Pf⟩:=he.BR;obtain rfl:=ht.qc;have g0:=(c.mv.aJ _ _ fQ gY).1;simp[fp.dx,fp.kd,fp.pos,fp.vV,fp.vW]at g0 fQ;have ni:idx≠h.next:=by have:=au c.fr g0;omega
 simp only[qM]at hQ;have K1:aS h (h.alloc (.C [.I 5,.N,.N,.N,.Z])).2:=kT;have tg:(h.alloc (.C [.I 5,.N,.N,.N,.Z])).2.get h.next=some (.C [.I 5,.N,.N,.N,.Z]):=sp
 obtain⟨C1,lo,mY,oX⟩:=c.more K1 (i:=h.next) (ao _) sp;have M1:=(Mv.of (B:=B) (V:=V) mY c.fr K1).s;have qO:=c.fr h.next (ao _);have hs:∀x∈X,x∈h.next::X:=fun x hx=>ay _ hx;simp[f66,g0,ni];generalize (h.alloc (.C [.I 5,.N,.N,.N,.Z])).2=h1 at*;refine qG hS (tY hS _ e (ao _) hn hx.2) hx.2 om C1 Pf _ (iN.bind hQ hs M1 (fun p h2 q=>by simpa using q) fun t d1 v h2 hr jk C2 w2 M2 m2=>?_);obtain⟨me,rfl,t2⟩:=w2;have go2:=m2.lk _ _ lo tg;simp[go2];exact xp (v:=none) C2 ⟨[],sp⟩ hs c.xl (aY ..) (ao _) qO lo M2 sp (.inl ⟨rfl,rfl⟩) (.inr ⟨me,t,rfl,rfl,t2⟩) jk
end
end
section
attribute [local simp] aI
section
variable{S:Sc}{B:CB}{X0:List Nat}{h0:ah}{X Y:List Nat}{V V':CV}{d:Dn}{h h1 h2:ah}{P:Pl->Prop}
theorem aaT(hS:Stat S B X0 h0){rt:List UInt8}{p:Pl}{e:Ex}(hx:(fp.out p e).al PT TL)(hn:e.nodes<=250):KS S B X0 h0 rt (.out p e):=by
 intro X V d h idx Q c sr hv hb uc nJ hQ;refine wb fn66 rfl ?_;obtain⟨ev,tv,lv,qs,fQ,gY,he,ht,_,_,_⟩:=sr.obj;obtain⟨ie,rfl,Pf⟩:=he.BR;obtain rfl:=ht.qc;have g0:=(c.mv.aJ _ _ fQ gY).1;simp[fp.dx,fp.kd,fp.pos,fp.vV,fp.vW]at g0 fQ;have ni:idx≠h.next:=by have:=au c.fr g0;omega
 simp only[qM]at hQ;have K1:aS h (h.alloc (.C [.I 11,.N,.N,.N,.Z])).2:=kT;have tg:(h.alloc (.C [.I 11,.N,.N,.N,.Z])).2.get h.next=some (.C [.I 11,.N,.N,.N,.Z]):=sp
 obtain⟨C1,lo,mY,oX⟩:=c.more K1 (i:=h.next) (ao _) sp;have M1:=(Mv.of (B:=B) (V:=V) mY c.fr K1).s;have qO:=c.fr h.next (ao _);have hs:∀x∈X,x∈h.next::X:=fun x hx=>ay _ hx;have Af:=(C1.mv.aJ _ _ fQ gY).1;simp[f66,g0,ni];generalize (h.alloc (.C [.I 11,.N,.N,.N,.Z])).2=h1 at*;refine A6 hS (tY hS _ e (ao _) hn hx.2) hx.2 om C1 Pf _ (iN.bind hQ hs M1 (fun p h2 q=>by simpa using q) fun t d1 v h2 hr jk C2 w2 M2 m2=>?_);obtain⟨me,rfl,t2⟩:=w2;have go2:=m2.lk _ _ lo tg;simp[go2];exact xp (v:=none) C2 ⟨[],sp⟩ hs c.xl (aY ..) (ao _) qO lo M2 sp (.inl ⟨rfl,rfl⟩) (.inr ⟨me,t,rfl,rfl,t2⟩) jk
theorem SB(hS:Stat S B X0 h0){rt:List UInt8}{p:Pl}:KS S B X0 h0 rt (.empty p):=by
 intro X V d h idx Q c sr hv hb uc nJ hQ;refine wb fn66 rfl ?_;obtain⟨ev,tv,lv,qs,fQ,gY,he,ht,_,_,_⟩:=sr.obj;obtain rfl:=he.qc;obtain rfl:=ht.qc;have g0:=(c.mv.aJ _ _ fQ gY).1;simp[fp.dx,fp.kd,fp.pos,fp.vV,fp.vW]at g0 fQ;have ni:idx≠h.next:=by have:=au c.fr g0;omega
 simp only[qM]at hQ;have K1:aS h (h.alloc (.C [.I 2,.N,.N,.N,.Z])).2:=kT;have tg:(h.alloc (.C [.I 2,.N,.N,.N,.Z])).2.get h.next=some (.C [.I 2,.N,.N,.N,.Z]):=sp
 obtain⟨C1,lo,mY,oX⟩:=c.more K1 (i:=h.next) (ao _) sp;have M1:=(Mv.of (B:=B) (V:=V) mY c.fr K1).s;have qO:=c.fr h.next (ao _);have hs:∀x∈X,x∈h.next::X:=fun x hx=>ay _ hx;have Af:=(C1.mv.aJ _ _ fQ gY).1;simp[f66,g0,ni];exact mR (v:=none) (qs:=[]) C1 ⟨[],sp⟩ hs c.xl (ao _) lo M1 (by simp[vP]) sp (.inl ⟨rfl,rfl⟩) (.inl ⟨rfl,rfl⟩) (.inl ⟨rfl,rfl⟩) (by simp[aK]) sp hQ
theorem aaU(hS:Stat S B X0 h0){rt:List UInt8}{p:Pl}:KS S B X0 h0 rt (.NP p):=by
 intro X V d h idx Q c sr hv hb uc nJ hQ;refine wb fn66 rfl ?_;obtain⟨ev,tv,lv,qs,fQ,gY,he,ht,_,_,_⟩:=sr.obj;obtain rfl:=he.qc;obtain rfl:=ht.qc;have g0:=(c.mv.aJ _ _ fQ gY).1;simp[fp.dx,fp.kd,fp.pos,fp.vV,fp.vW]at g0 fQ;have ni:idx≠h.next:=by have:=au c.fr g0;omega
 simp only[qM]at hQ;have K1:aS h (h.alloc (.C [.I 8,.N,.N,.N,.Z])).2:=kT;have tg:(h.alloc (.C [.I 8,.N,.N,.N,.Z])).2.get h.next=some (.C [.I 8,.N,.N,.N,.Z]):=sp
 obtain⟨C1,lo,mY,oX⟩:=c.more K1 (i:=h.next) (ao _) sp;have M1:=(Mv.of (B:=B) (V:=V) mY c.fr K1).s;have qO:=c.fr h.next (ao _);have hs:∀x∈X,x∈h.next::X:=fun x hx=>ay _ hx;have Af:=(C1.mv.aJ _ _ fQ gY).1;obtain⟨ov1,c1,_⟩:=C1.c;simp only[CB.ob]at c1;have nr:B.r≠h.next:=lo.r.symm;simp[f66,g0,ni];generalize (h.alloc (.C [.I 8,.N,.N,.N,.Z])).2=h1 at*;refine Dd ?_;simp[c1,Af];refine dl ?_;have KB:=(aS.refl h1).bump 11;refine xX (C1.aJ KB) hQ hs (M1.comp (Mv.k C1.fr KB).s) (fun h2 q=>⟨dc,fun _=>by simpa using q⟩) fun h2 jJ jk C2 k2 M2=>?_;have Ck:=KB.trans k2;have go2:=(Ck.old _ (au C1.fr tg)).trans tg;have tF:=(C2.mv.aJ _ _ fQ gY).1;obtain⟨V8,c2,_⟩:=C2.c;simp only[CB.ob]at c2;simp;refine dm ?_;exact mR (v:=none) (qs:=[]) C2 ⟨[],sp⟩ hs c.xl (ao _) lo M2 (by simpa[vP]using go2) sp (.inl ⟨rfl,rfl⟩) (.inl ⟨rfl,rfl⟩) (.inl ⟨rfl,rfl⟩) (by simp[aK]) sp jk
theorem Wb(hS:Stat S B X0 h0){rt:List UInt8}{p:Pl}:KS S B X0 h0 rt (.cont p):=by
 intro X V d h idx Q c sr hv hb uc nJ hQ;refine wb fn66 rfl ?_;obtain⟨ev,tv,lv,qs,fQ,gY,he,ht,_,_,_⟩:=sr.obj;obtain rfl:=he.qc;obtain rfl:=ht.qc;have g0:=(c.mv.aJ _ _ fQ gY).1;simp[fp.dx,fp.kd,fp.pos,fp.vV,fp.vW]at g0 fQ;have ni:idx≠h.next:=by have:=au c.fr g0;omega
 simp only[qM]at hQ;have K1:aS h (h.alloc (.C [.I 9,.N,.N,.N,.Z])).2:=kT;have tg:(h.alloc (.C [.I 9,.N,.N,.N,.Z])).2.get h.next=some (.C [.I 9,.N,.N,.N,.Z]):=sp
 obtain⟨C1,lo,mY,oX⟩:=c.more K1 (i:=h.next) (ao _) sp;have M1:=(Mv.of (B:=B) (V:=V) mY c.fr K1).s;have qO:=c.fr h.next (ao _);have hs:∀x∈X,x∈h.next::X:=fun x hx=>ay _ hx;have Af:=(C1.mv.aJ _ _ fQ gY).1;obtain⟨ov1,c1,_⟩:=C1.c;simp only[CB.ob]at c1;have nr:B.r≠h.next:=lo.r.symm;simp[f66,g0,ni];generalize (h.alloc (.C [.I 9,.N,.N,.N,.Z])).2=h1 at*;refine Dd ?_;simp[c1,Af];refine dl ?_;have KB:=(aS.refl h1).bump 11;refine xX (C1.aJ KB) hQ hs (M1.comp (Mv.k C1.fr KB).s) (fun h2 q=>⟨dc,fun _=>by simpa using q⟩) fun h2 jJ jk C2 k2 M2=>?_;have Ck:=KB.trans k2;have go2:=(Ck.old _ (au C1.fr tg)).trans tg;have tF:=(C2.mv.aJ _ _ fQ gY).1;obtain⟨V8,c2,_⟩:=C2.c;simp only[CB.ob]at c2;simp;refine dm ?_;exact mR (v:=none) (qs:=[]) C2 ⟨[],sp⟩ hs c.xl (ao _) lo M2 (by simpa[vP]using go2) sp (.inl ⟨rfl,rfl⟩) (.inl ⟨rfl,rfl⟩) (.inl ⟨rfl,rfl⟩) (by simp[aK]) sp jk
end
end
section
attribute [local simp] aI
section
variable{S:Sc}{B:CB}{X0:List Nat}{h0:ah}{X Y:List Nat}{V V':CV}{d:Dn}{h h1 h2:ah}{P:Pl->Prop}
theorem JH(nm ty:List UInt8)(par:Bool)(p:Pl)(d:Dn):(R4 S nm ty par p d).H (fun k d'=>∃n,k=d.vs.length/\d'.vs=d.vs++[⟨nm,ty,n,par,false,BN S ty⟩]) PT:=by
 unfold R4;refine Rs.cQ trivial fun _=>?_;have hs:(Ku S ty p {d with vS:=d.vS++[nm]}).H (fun n d'=>d'.vs=d.vs) PT:=Rs.cQ trivial fun _=>(Dn.rp {d with vS:=d.vS++[nm]} ((uD S.N S.es ty).2.2==0) p).1;refine Rs.bq hs fun n e e1=>⟨n,by rw[e1],?_⟩
 show(e.add nm ty n par (BN S ty) p).vs=_;have l1:=Dn.rp e (decide (e.vs.length<200)) p;unfold Dn.add;simp only;generalize e.tD (decide (e.vs.length<200)) p=e5 at*;rw[(Dn.rp {e5 with bytes:=e5.bytes+(n+7)/8*8} (decide (e5.bytes+(n+7)/8*8<=65536)) p).1];simp only;rw[l1.1,e1]
theorem Wc(hS:Stat S B X0 h0){rt:List UInt8}(Pg:∀sg,S.fs[B.n]?=some sg->sg.ty=rt){p:Pl}:KS S B X0 h0 rt (.ret p none):=by
 intro X V d h idx Q c sr hv hb uc nJ hQ;refine wb fn66 rfl ?_;obtain⟨ev,tv,lv,qs,fQ,gY,he,ht,_,_,_⟩:=sr.obj;obtain rfl:=he.qc;obtain rfl:=ht.qc;have g0:=(c.mv.aJ _ _ fQ gY).1;simp[fp.dx,fp.kd,fp.pos,fp.vV,fp.vW]at g0 fQ;have ni:idx≠h.next:=by have:=au c.fr g0;omega
 simp only[qM]at hQ;have K1:aS h (h.alloc (.C [.I 10,.N,.N,.N,.Z])).2:=kT;have tg:(h.alloc (.C [.I 10,.N,.N,.N,.Z])).2.get h.next=some (.C [.I 10,.N,.N,.N,.Z]):=sp
 obtain⟨C1,lo,mY,oX⟩:=c.more K1 (i:=h.next) (ao _) sp;have M1:=(Mv.of (B:=B) (V:=V) mY c.fr K1).s;have qO:=c.fr h.next (ao _);have hs:∀x∈X,x∈h.next::X:=fun x hx=>ay _ hx;have Af:=(C1.mv.aJ _ _ fQ gY).1;obtain⟨ov1,c1,_⟩:=C1.c;obtain⟨sg,Ib,f1⟩:=C1.f;simp only[CB.ob]at c1;have nr:B.r≠h.next:=lo.r.symm;simp[f66,g0,ni];generalize (h.alloc (.C [.I 10,.N,.N,.N,.Z])).2=h1 at*;refine Dd ?_;simp[c1,Af,f1];refine dl ?_;rw[Pg sg Ib];have KB:=(aS.refl h1).bump 21;refine xX (C1.aJ KB) hQ hs (M1.comp (Mv.k C1.fr KB).s) (fun h2 q=>⟨dc,fun _=>by simpa using q⟩) fun h2 jJ jk C2 k2 M2=>?_;have Ck:=KB.trans k2;have go2:=(Ck.old _ (au C1.fr tg)).trans tg;have tF:=(C2.mv.aJ _ _ fQ gY).1;have c2:=(Ck.old _ (au C1.fr c1)).trans c1;have f2:=(Ck.old _ (au C1.fr f1)).trans f1;simp;refine dm ?_;simp[tF];exact mR (v:=none) (qs:=[]) C2 ⟨[],sp⟩ hs c.xl (ao _) lo M2 (by simpa[vP]using go2) sp (.inl ⟨rfl,rfl⟩) (.inl ⟨rfl,rfl⟩) (.inl ⟨rfl,rfl⟩) (by simp[aK]) sp jk
theorem We(hS:Stat S B X0 h0){rt:List UInt8}(Pg:∀sg,S.fs[B.n]?=some sg->sg.ty=rt)(Ie:rt.length<=eR){p:Pl}{e:Ex}(hx:(fp.ret p (some e)).al PT TL)(hn:e.nodes<=250):KS S B X0 h0 rt (.ret p (some e)):=by
 intro X V d h idx Q c sr hv hb uc nJ hQ;refine wb fn66 rfl ?_;obtain⟨ev,tv,lv,qs,fQ,gY,he,ht,_,_,_⟩:=sr.obj;obtain⟨ie,rfl,Pf⟩:=he.BR;obtain rfl:=ht.qc;have g0:=(c.mv.aJ _ _ fQ gY).1;simp[fp.dx,fp.kd,fp.pos,fp.vV,fp.vW]at g0 fQ;have ni:idx≠h.next:=by have:=au c.fr g0;omega
 simp only[qM]at hQ;have K1:aS h (h.alloc (.C [.I 10,.N,.N,.N,.Z])).2:=kT;have tg:(h.alloc (.C [.I 10,.N,.N,.N,.Z])).2.get h.next=some (.C [.I 10,.N,.N,.N,.Z]):=sp
 obtain⟨C1,lo,mY,oX⟩:=c.more K1 (i:=h.next) (ao _) sp;have M1:=(Mv.of (B:=B) (V:=V) mY c.fr K1).s;have qO:=c.fr h.next (ao _);have hs:∀x∈X,x∈h.next::X:=fun x hx=>ay _ hx;have Af:=(C1.mv.aJ _ _ fQ gY).1;obtain⟨ov1,c1,_⟩:=C1.c;obtain⟨sg,Ib,f1⟩:=C1.f;simp only[CB.ob]at c1;have nr:B.r≠h.next:=lo.r.symm;simp[f66,g0,ni];generalize (h.alloc (.C [.I 10,.N,.N,.N,.Z])).2=h1 at*;refine Dd ?_;simp[c1,Af,f1];refine dl ?_;rw[Pg sg Ib]at f1⊢;have KB:=(aS.refl h1).bump 21;refine xX (C1.aJ KB) hQ hs (M1.comp (Mv.k C1.fr KB).s) (fun h2 q=>⟨dc,fun _=>by simpa using q⟩) fun h2 jJ jk C2 k2 M2=>?_;have Ck:=KB.trans k2;have go2:=(Ck.old _ (au C1.fr tg)).trans tg;have tF:=(C2.mv.aJ _ _ fQ gY).1;have c2:=(Ck.old _ (au C1.fr c1)).trans c1;have f2:=(Ck.old _ (au C1.fr f1)).trans f1;simp;refine dm ?_;simp[tF];refine Dd ?_;simp[c2,tF,f2];have Qk:=(aS.refl h2).bump 18;refine Hi hS (tY hS _ e (ao _) hn hx.2) hx.2 om (C2.aJ Qk) Pf (by unfold eR at Ie;omega) _ (iN.bind jk hs (M2.comp (Mv.k C2.fr Qk).s) (fun p h2 q=>⟨dc,fun _=>by simpa using q⟩) fun t d3 v h3 Ql qW C3 w3 M3 m3=>?_);obtain⟨me,rfl,t3⟩:=w3;have m23:=(Mv.k (B:=B) (V:=V) (X:=h.next::X) C2.fr Qk).comp m3;have FB:=m23.lk _ _ lo go2;have yX:=(C3.mv.aJ _ _ fQ gY).1;obtain⟨ov3,c3,_⟩:=C3.c;obtain⟨XM,afL,f3⟩:=C3.f;rw[Pg XM afL]at f3;simp only[CB.ob]at c3;simp[FB];refine dm ?_;exact xp (v:=none) C3 ⟨[],sp⟩ hs c.xl (aY ..) (ao _) qO lo M3 sp (.inl ⟨rfl,rfl⟩) (.inr ⟨me,t,rfl,rfl,t3⟩) qW
end
end
section
attribute [local simp] aI
section
variable{S:Sc}{B:CB}{X0:List Nat}{h0:ah}{X Y:List Nat}{V V':CV}{d:Dn}{h h1 h2:ah}{P:Pl->Prop}
theorem Ph(hS:Stat S B X0 h0){rt:List UInt8}{p:Pl}{to e:Ex}(hx:(fp.assign p to e).al PT TL)(hn:to.nodes+e.nodes<=250):KS S B X0 h0 rt (.assign p to e):=by
 intro X V d h idx Q c sr hv hb uc nJ hQ;refine wb fn66 rfl ?_;obtain⟨ev,tv,lv,qs,fQ,gY,he,ht,_,_,_⟩:=sr.obj;obtain⟨ie,rfl,Pf⟩:=he.BR;obtain⟨it,rfl,ert⟩:=ht.BR;have g0:=(c.mv.aJ _ _ fQ gY).1;simp[fp.dx,fp.kd,fp.pos,fp.vV,fp.vW]at g0 fQ;have ni:idx≠h.next:=by have:=au c.fr g0;omega
 simp only[qM]at hQ;have K1:aS h (h.alloc (.C [.I 4,.N,.N,.N,.Z])).2:=kT;have tg:(h.alloc (.C [.I 4,.N,.N,.N,.Z])).2.get h.next=some (.C [.I 4,.N,.N,.N,.Z]):=sp
 obtain⟨C1,lo,mY,oX⟩:=c.more K1 (i:=h.next) (ao _) sp;have M1:=(Mv.of (B:=B) (V:=V) mY c.fr K1).s;have qO:=c.fr h.next (ao _);have hs:∀x∈X,x∈h.next::X:=fun x hx=>ay _ hx;have Af:=(C1.mv.aJ _ _ fQ gY).1;simp[f66,g0,ni];generalize (h.alloc (.C [.I 4,.N,.N,.N,.Z])).2=h1 at*;have hk:∀k,k∈h.next::X↔k=h.next\/k∈X:=fun k=>by simp
 have ex1:=tY hS _ to (ao _) om hx.2.1;refine ex1 _ V d h1 it _ C1 ert (iN.bind hQ hs M1 (fun p h2 q=>by simpa using q) fun t d1 v h2 hr jk C2 w2 M2 m2=>?_);obtain⟨Ky,rfl,t2⟩:=w2;have ok1:=Hb hS hx.2.1 c.ok hr;have ln:=EH ok1.1 om;have go2:=m2.lk _ _ lo tg;obtain⟨C3,m3⟩:=C2.put (aY ..) lo (.C [.I 4,.N,.P Ky,.N,.Z]);have M3:=M2.put (aY ..) qO (ao _) (.C [.I 4,.N,.P Ky,.N,.Z]);have FB:(h2.set h.next (.C [.I 4,.N,.P Ky,.N,.Z])).get h.next=some (.C [.I 4,.N,.P Ky,.N,.Z]):=sp
 have t3:=t2.move m3;have yX:=(C3.mv.aJ _ _ fQ gY).1;simp[go2];generalize h2.set h.next (.C [.I 4,.N,.P Ky,.N,.Z])=h3 at*;obtain⟨av3,g3',Uo,_⟩:=t3.obj;have g3:=g3';simp only[Hd.cs]at g3;unfold TX.place at jk;refine jr [0,1,2,3,4,17,18,19,20,5,6,7,8,9,10,11,12,13,14,15,16,21] kr (by simp[ew,fh];rfl) kr ?_;simp[FB,yX];have KB:=(aS.refl h3).bump 22;refine(Ac (show(h3.bump 22).get Ky=some (.C (t.d.cs V.vs av3))from g3')).mono fun out h4 hq=>?_;obtain⟨rfl,rfl⟩:=hq;cases hA:A0 t.d.kd with
 |false=>
  simp only[hA,gX]at jk;simp[FB,yX];refine dm ?_;refine gy p false _ _ _ (fun h6 _ k6=>?_) (fun h6 hh _=>by cases hh);have Ej:=KB.trans k6;exact⟨dc,fun _=>by simpa using jk _ ((M3.toMove.comp (Move.k C3.fr Ej)).comp (Move.less hs)) (Ej.fresh C3.fr)⟩
 |true=>
  simp only[hA,fi]at jk;simp[FB,yX,g3];refine dm ?_;refine sw hS (C3.aJ KB) _ (show t.ty.length<=100000 from om) _ fun h5 k5=>?_;have KK:=KB.trans k5;have DM:=(KK.old _ (au C3.fr FB)).trans FB;have zr:=(KK.old _ (au C3.fr yX)).trans yX;have g5:=(KK.old _ (au C3.fr g3)).trans g3;simp[DM,zr,g5];refine dm ?_;refine xX (C3.aJ KK) jk hs (M3.comp (Mv.k C3.fr KK).s) (fun h2 q=>⟨dc,fun _=>by simpa using q⟩) fun h6 zt hQ6 C6 k6 M6=>?_;have K6:=KK.trans k6;have go6:=(K6.old _ (au C3.fr FB)).trans FB;have gx6:=(K6.old _ (au C3.fr yX)).trans yX;have g6:=(K6.old _ (au C3.fr g3)).trans g3;have t6:=t3.move (Move.k C3.fr K6);simp;refine dl ?_;refine Dd ?_;simp[go6,gx6,g6];have KB6:=(aS.refl h6).bump 17;refine Hi hS (tY hS _ e (ao _) om hx.2.2) hx.2.2 om (C6.aJ KB6) Pf ln _ (iN.bind hQ6 hs (M6.comp (Mv.k C6.fr KB6).s) (fun p h2 q=>⟨dc,fun _=>by simpa using q⟩) fun u d7 v h7 Yr EG C7 w7 M7 m7=>?_);obtain⟨me,rfl,t7⟩:=w7;have m67:=(Mv.k (B:=B) (V:=V) (X:=h.next::X) C6.fr KB6).comp m7;have za:=m67.lk _ _ lo go6;have gx7:=(C7.mv.aJ _ _ fQ gY).1;have g7:=(m67.aJ _ _ g6 Uo).1;simp[za];refine dm ?_;exact xp (v:=none) C7 ⟨[],sp⟩ hs c.xl (aY ..) (ao _) qO lo M7 sp (.inr ⟨Ky,t,rfl,rfl,t6.move m67.toMove⟩) (.inr ⟨me,u,rfl,rfl,t7⟩) EG
theorem SC(hS:Stat S B X0 h0){rt:List UInt8}{p:Pl}{ty nm:List UInt8}(hx:(fp.decl p ty nm none).al PT TL):KS S B X0 h0 rt (.decl p ty nm none):=by
 intro X V d h idx Q c sr hv hb uc nJ hQ;refine wb fn66 rfl ?_;obtain⟨ev,tv,lv,qs,fQ,gY,he,ht,_,_,_⟩:=sr.obj;obtain rfl:=he.qc;obtain rfl:=ht.qc;have g0:=(c.mv.aJ _ _ fQ gY).1;simp[fp.dx,fp.kd,fp.pos,fp.vV,fp.vW]at g0 fQ;have ni:idx≠h.next:=by have:=au c.fr g0;omega
 simp only[qM]at hQ;have K1:aS h (h.alloc (.C [.I 3,.N,.N,.N,.Z])).2:=kT;have tg:(h.alloc (.C [.I 3,.N,.N,.N,.Z])).2.get h.next=some (.C [.I 3,.N,.N,.N,.Z]):=sp
 obtain⟨C1,lo,mY,oX⟩:=c.more K1 (i:=h.next) (ao _) sp;have M1:=(Mv.of (B:=B) (V:=V) mY c.fr K1).s;have qO:=c.fr h.next (ao _);have hs:∀x∈X,x∈h.next::X:=fun x hx=>ay _ hx;have Af:=(C1.mv.aJ _ _ fQ gY).1;have lty:ty.length<=70000:=hx.2.1;have nX2:h.next∉X:=oX;simp[f66,g0,ni];generalize (h.alloc (.C [.I 3,.N,.N,.N,.Z])).2=h1 at*;have lt1:=C1.xl _ (aY ..);refine Dd ?_;simp[Af];have KB:=(aS.refl h1).bump 18;have vh:=Hk (S:=S) hS.ok c.ok hb nm ty hx.2.1 false p;have vh2:=JH (S:=S) nm ty false p d;refine zd hS (C1.aJ KB) nm ty false p lty (by simp only[fp.nodes]at hv;omega) hb _ (iN.binds hQ hs (M1.comp (Mv.k C1.fr KB).s) (fun p h2 q=>⟨dc,fun _=>by simpa using q⟩) fun k d2 v V2 Y2 h2 hr jk gw sy C2 w2 M2 m2=>?_);obtain⟨rfl,hk⟩:=w2;rw[hr]at vh vh2;have VX:=m2.gr _ (by simp;omega) lo;have go2:=m2.lk _ _ (by simp;omega) lo tg;have tF:=(C2.mv.aJ _ _ fQ gY).1;have B9:h.next∈Y2:=sy _ (aY ..);have uZ:∀x∈X,x∈Y2:=fun x hx=>sy _ (hs x hx);simp[go2,tF,ni];obtain⟨C3,m3⟩:=C2.put B9 VX (.C [.I 3,.ptr (vP V2.vs (some k)),.N,.N,.Z]);have M3:=M2.put B9 qO (ao _) (.C [.I 3,.ptr (vP V2.vs (some k)),.N,.N,.Z]);have FB:(h2.set h.next (.C [.I 3,.ptr (vP V2.vs (some k)),.N,.N,.Z])).get h.next=some (.C [.I 3,.ptr (vP V2.vs (some k)),.N,.N,.Z]):=sp
 have yX:=(C3.mv.aJ _ _ fQ gY).1;refine dl ?_;generalize h2.set h.next (.C [.I 3,.ptr (vP V2.vs (some k)),.N,.N,.Z])=h3 at*
 try simp[yX]
 exact mR (v:=some k) (qs:=[]) C3 gw uZ c.xl (ao _) VX M3 FB (fun j e=>by injection e with e;omega) (.inl ⟨rfl,rfl⟩) (.inl ⟨rfl,rfl⟩) (.inl ⟨rfl,rfl⟩) (by simp[aK]) sp jk
theorem SE(hS:Stat S B X0 h0){rt:List UInt8}{p:Pl}{ty nm:List UInt8}{e:Ex}(hx:(fp.decl p ty nm (some e)).al PT TL)(hn:e.nodes<=250):KS S B X0 h0 rt (.decl p ty nm (some e)):=by
 intro X V d h idx Q c sr hv hb uc nJ hQ;refine wb fn66 rfl ?_;obtain⟨ev,tv,lv,qs,fQ,gY,he,ht,_,_,_⟩:=sr.obj;obtain⟨ie,rfl,Pf⟩:=he.BR;obtain rfl:=ht.qc;have g0:=(c.mv.aJ _ _ fQ gY).1;simp[fp.dx,fp.kd,fp.pos,fp.vV,fp.vW]at g0 fQ;have ni:idx≠h.next:=by have:=au c.fr g0;omega
 simp only[qM]at hQ;have K1:aS h (h.alloc (.C [.I 3,.N,.N,.N,.Z])).2:=kT;have tg:(h.alloc (.C [.I 3,.N,.N,.N,.Z])).2.get h.next=some (.C [.I 3,.N,.N,.N,.Z]):=sp
 obtain⟨C1,lo,mY,oX⟩:=c.more K1 (i:=h.next) (ao _) sp;have M1:=(Mv.of (B:=B) (V:=V) mY c.fr K1).s;have qO:=c.fr h.next (ao _);have hs:∀x∈X,x∈h.next::X:=fun x hx=>ay _ hx;have Af:=(C1.mv.aJ _ _ fQ gY).1;have lty:ty.length<=70000:=hx.2.1;have nX2:h.next∉X:=oX;simp[f66,g0,ni];generalize (h.alloc (.C [.I 3,.N,.N,.N,.Z])).2=h1 at*;have lt1:=C1.xl _ (aY ..);refine Dd ?_;simp[Af];have KB:=(aS.refl h1).bump 18;have vh:=Hk (S:=S) hS.ok c.ok hb nm ty hx.2.1 false p;have vh2:=JH (S:=S) nm ty false p d;refine zd hS (C1.aJ KB) nm ty false p lty (by simp only[fp.nodes]at hv;omega) hb _ (iN.binds hQ hs (M1.comp (Mv.k C1.fr KB).s) (fun p h2 q=>⟨dc,fun _=>by simpa using q⟩) fun k d2 v V2 Y2 h2 hr jk gw sy C2 w2 M2 m2=>?_);obtain⟨rfl,hk⟩:=w2;rw[hr]at vh vh2;have VX:=m2.gr _ (by simp;omega) lo;have go2:=m2.lk _ _ (by simp;omega) lo tg;have tF:=(C2.mv.aJ _ _ fQ gY).1;have B9:h.next∈Y2:=sy _ (aY ..);have uZ:∀x∈X,x∈Y2:=fun x hx=>sy _ (hs x hx);simp[go2,tF,ni];obtain⟨C3,m3⟩:=C2.put B9 VX (.C [.I 3,.ptr (vP V2.vs (some k)),.N,.N,.Z]);have M3:=M2.put B9 qO (ao _) (.C [.I 3,.ptr (vP V2.vs (some k)),.N,.N,.Z]);have FB:(h2.set h.next (.C [.I 3,.ptr (vP V2.vs (some k)),.N,.N,.Z])).get h.next=some (.C [.I 3,.ptr (vP V2.vs (some k)),.N,.N,.Z]):=sp
 have yX:=(C3.mv.aJ _ _ fQ gY).1;refine dl ?_;generalize h2.set h.next (.C [.I 3,.ptr (vP V2.vs (some k)),.N,.N,.Z])=h3 at*;obtain⟨n,rfl,Nh⟩:=vh2;obtain⟨a,ha⟩:∃a,V2.vs[d.vs.length]?=some a:=⟨_,aj hk⟩
 have Uf:d2.vs[d.vs.length]?=some ⟨nm,ty,n,false,false,BN S ty⟩:=by rw[Nh];simp
 have ga3:=C3.vs _ a _ ha Uf;simp only[Vr.cs]at ga3;have hvp:vP V2.vs (some d.vs.length)=some (a,0):=by simp[vP,ha]
 rw[hvp]at FB;refine Dd ?_;simp[FB,yX,ga3];refine dl ?_;have KB3:=(aS.refl h3).bump 13;refine xX (C3.aJ KB3) jk uZ (M3.comp (Mv.k C3.fr KB3).s) (fun h2 q=>⟨dc,fun _=>by simpa using q⟩) fun h4 Qn wm C4 k4 M4=>?_;have Wf:=KB3.trans k4;have DL:=(Wf.old _ (au C3.fr FB)).trans FB;have ga4:=(Wf.old _ (au C3.fr ga3)).trans ga3;have BQ:=(C4.mv.aJ _ _ fQ gY).1;simp;refine dl ?_;refine Dd ?_;simp[DL,BQ];have Kx:=(aS.refl h4).bump 14;refine Hi hS (tY hS _ e (ao _) hn hx.2.2) hx.2.2 om (C4.aJ Kx) Pf om _ (iN.bind wm uZ (M4.comp (Mv.k C4.fr Kx).s) (fun p h2 q=>⟨dc,fun _=>by simpa using q⟩) fun u d7 v h7 Yr EG C7 w7 M7 m7=>?_);obtain⟨me,rfl,t7⟩:=w7;have m47:=(Mv.k (B:=B) (V:=V2) (X:=Y2) C4.fr Kx).comp m7;have za:=m47.lk _ _ VX DL;have gx7:=(C7.mv.aJ _ _ fQ gY).1;simp[za];refine dm ?_;have fin:=xp (v:=some d.vs.length) C7 gw uZ c.xl B9 (ao _) qO VX M7 (fun j e=>by injection e with e;omega) (.inl ⟨rfl,rfl⟩) (.inr ⟨me,u,rfl,rfl,t7⟩) EG;rw[hvp]at fin;exact fin
end
end
section
attribute [local simp] aI
theorem Ah{P:Pl->Prop}{T:List UInt8->Prop}:∀{xs:List Sm}{x:Sm},Yw P T xs->x∈xs->x.al P T
 |[],_,_,h=>by cases h
 |y::ys,x,⟨h1,h2⟩,h=>by
  rcases aq.1 h with rfl|h
  ·exact h1
  ·exact Ah h2 h
section
variable{S:Sc}{B:CB}{X0:List Nat}{h0:ah}{X Y:List Nat}{V V':CV}{d:Dn}{h h1 h2:ah}{P:Pl->Prop}
theorem SF(hS:Stat S B X0 h0){rt:List UInt8}{p:Pl}{l:List Sm}(IH:∀x∈l,KS S B X0 h0 rt x)(hx:(fp.block p l).al PT TL)(hl:l.length<=250):KS S B X0 h0 rt (.block p l):=by
 intro X V d h idx Q c sr hv hb uc nJ hQ;refine wb fn66 rfl ?_;obtain⟨ev,tv,lv,qs,fQ,gY,he,ht,Hg,A9,Ae⟩:=sr.obj;obtain rfl:=he.qc;obtain rfl:=ht.qc;replace A9:qs.map Prod.snd=l:=A9;have ql:qs.length=l.length:=by rw[<-A9];simp
 obtain⟨EJ,rfl⟩:∃ab,lv= .slice ab l.length:=by
  rcases Hg with⟨e,rfl⟩|⟨b,rfl,_⟩
  ·exact⟨none,by rw[<-ql,e];rfl⟩
  ·exact⟨_,by rw[ql]⟩
 have g0:=(c.mv.aJ _ _ fQ gY).1;simp[fp.dx,fp.kd,fp.pos,fp.vV,fp.vW]at g0 fQ;have ni:idx≠h.next:=by have:=au c.fr g0;omega
 simp only[qM]at hQ;have K1:aS h (h.alloc (.C [.I 1,.N,.N,.N,.Z])).2:=kT;have tg:(h.alloc (.C [.I 1,.N,.N,.N,.Z])).2.get h.next=some (.C [.I 1,.N,.N,.N,.Z]):=sp
 obtain⟨C1,lo,mY,oX⟩:=c.more K1 (i:=h.next) (ao _) sp;have M1:=(Mv.of (B:=B) (V:=V) mY c.fr K1).s;have qO:=c.fr h.next (ao _);have hs:∀x∈X,x∈h.next::X:=fun x hx=>ay _ hx;have Af:=(C1.mv.aJ _ _ fQ gY).1;obtain⟨ov1,c1,_⟩:=C1.c;obtain⟨sab,Up⟩:=C1.JG;simp only[CB.ob,Up]at c1;have nr:B.r≠h.next:=lo.r.symm;have Yk:B.r<h.next:=c.xl _ c.own.r;obtain⟨ov0,c0,_⟩:=c.c;simp only[CB.ob,Up]at c0;simp[f66,g0,ni,c0,nr];generalize (h.alloc (.C [.I 1,.N,.N,.N,.Z])).2=h1 at*;obtain⟨o,hoo⟩:∃o,o=h.next:=⟨_,rfl⟩
 rw[<-hoo]at tg lo qO hs C1 M1 oX⊢;have oN:h.next<=o:=om
 have ho:o∈o::X:=aY ..;have CL:=C1;have ML:=M1;have Wg:=tg;have stL:=hb;have hxl:=hx.2;obtain⟨dd,LX⟩:∃dd,dd=d:=⟨_,rfl⟩
 obtain⟨eo,heo⟩:∃eo:Option TX,eo=none:=⟨_,rfl⟩
 have NC:rR (o::X) V.vs h1 (.N) eo:= .inl ⟨rfl,heo⟩;simp only[fp.nodes]at hv nJ;obtain⟨Hl,JI⟩:∃Hl:List TS->Dn->Rs TS,Hl=(fun ts e=> .ok (.mk 1 none none none ts) {e with seen:=e.seen.take d.seen.length}):=⟨_,rfl⟩
 have hQ0:iN S B X0 h0 X V WU h Q ((Cg S rt (l.drop 0) dd).bind fun ts e=>Hl (([]:List (Nat×TS)).map Prod.snd++ts) e):=by rw[JI,LX];exact hQ
 rw[<-LX]at CL stL hv uc nJ;obtain⟨J,hJ⟩:∃J:Nat->St->Prop,J=(fun m x=>∃(i:Nat)(d':Dn)(av:AV)(qt:List (Nat×TS))(Y:List Nat)(V':CV),i<=l.length/\m=l.length-i/\x.n=298/\x.ds=[]/\x.bI=false/\dF S B X0 h0 Y V' d' x.h/\(∃ws,V'.vs=V.vs++ws)/\(∀x∈X,x∈Y)/\o∈Y/\Loc B V' o/\yy B V V' X Y h x.h/\x.h.get o=some (.C [.I 1,.N,.N,.N,av])/\dP [] x.h av qt/\qt.length=i/\
  (∀b∈aK av,b∈Y/\Loc B V' b/\h.next<=b/\b≠o)/\(∀q∈qt,ui Y V'.vs x.h q.1 q.2)/\iN S B X0 h0 X V WU h Q ((Cg S rt (l.drop i) d').bind fun ts e=>Hl (qt.map Prod.snd++ts) e)/\(∃n,DS dd d' n/\n+ft (l.drop i)<=ft l)/\rR Y V'.vs x.h (.N) eo/\
  x.rg.get 0=some (.P B.r)/\x.rg.get 1=some (.P idx)/\x.rg.get 5=some (.P o)/\x.rg.get 6=some (.I d.seen.length)/\x.rg.get 31=some (.slice EJ l.length)/\x.rg.get 32=some (.I l.length)/\x.rg.get 33=some (.I i)):=⟨_,rfl⟩
 refine bW J l.length ?_ ?_
 ·rw[hJ];exact⟨0,dd,.Z,[],_,V,bX _,rfl,rfl,rfl,rfl,CL,⟨[],sp⟩,hs,ho,lo,ML,Wg,.inl ⟨rfl,rfl⟩,rfl,by simp[aK],sp,hQ0,⟨0,DS.refl CL.ok stL,sp⟩,NC,sp,sp,sp,sp,sp,sp,sp⟩
 intro m x hx;rw[hJ]at hx;obtain⟨rg,n',H,ds,bI⟩:=x;obtain⟨i,d',av,qt,Y,V',hi,rfl,e1,e2,e3,cH,⟨ws,gw⟩,SG,hoY,Pj,MH,zc,Ag,qZ,wx,tH,zu,⟨nn,Bb,Yx⟩,EL,r0,r1,r5,e6,rl,rn,ri⟩:=hx;dsimp only at e1 e2 e3 cH MH zc Ag tH EL r0 r1 r5 e6 rl rn ri;subst e1 e2 e3;by_cases iH:i<l.length
 ·have uk:i<qs.length:=by omega
  have fW:(i:Int)<(l.length:Int):=by omega
  have wi:IntKind.wrap .i64 ((i:Int)+1)=((i+1:Nat):Int):=by rw[wr om om];omega
  obtain⟨b0,eb0,FC,EK⟩:∃b,EJ=some (b,0)/\b∉X0/\h0.get b=some (.cells true 1 (qs.map fun p=> .P p.1)):=by
   rcases Hg with⟨e,_⟩|⟨b,e,hb,g⟩
   ·rw[e]at uk;simp at uk
   ·injection e with e _;exact⟨b,e,hb,g⟩
  subst eb0;have Sr:=(cH.mv.aJ _ _ EK FC).1;have Uq:(qs.map fun p=>AV.P p.1)[i]?=some (.P qs[i].1):=by rw[bQ,aj uk];rfl
  have exi:qs[i].2=l[i]:=by
   have:(qs.map Prod.snd)[i]?=l[i]?:=(by rw[A9]);rw[bQ,aj uk,aj iH]at this;simpa using this
  have Yy:=Ae _ (bK uk);rw[exi]at Yy;have LU:∃ab,av= .slice ab i:=by
   rcases Ag with⟨e,rfl⟩|⟨b,rfl,_⟩
   ·rw[e]at qZ;exact⟨none,by rw[<-qZ];rfl⟩
   ·exact⟨_,by rw[qZ]⟩
  obtain⟨Ic,rfl⟩:=LU;rw[ca iH]at zu Yx;simp only[Cg,Rs.bind_assoc,Rs.lI]at zu;simp only[ft]at Yx;have dlo:=Bb.lo;have dhi:=Bb.hi;have dlp:=Bb.lp;simp[-aO,r0,r1,r5,e6,rl,rn,ri,fW,iH,Sr,Uq];refine Dd ?_;simp[-aO,r0,r1,r5,e6,rl,rn,ri,zc];have KH:=(aS.refl H).bump 13;refine IH _ (bK iH) Y V' d' (H.bump 13) _ _ (cH.aJ KH) Yy om Bb.st om om (iN.binds zu SG (MH.comp (Mv.k cH.fr KH).s) (fun p h2 q=>⟨dc,fun _=>by simpa using q⟩) fun t d5 v V5 Y5 h7 Yr EG ⟨SH,SI⟩ SJ c7 w7 M7 m7=>?_);obtain⟨Ky,rfl,t7⟩:=w7;have Yz:=xn (rt:=rt) hS.ok l[i] d' Bb.ok Bb.st om om (Ah hxl (bK iH));rw[Yr]at Yz;have ltH:=au cH.fr zc;have za:=m7.lk _ _ (show o<H.next+13 from om) Pj zc;have Wh:=m7.gr _ (show o<H.next+13 from om) Pj;have O9:=(c7.mv.aJ _ _ EK FC).1;have nX8:H.next+8∉Y:=fun hx=>by have:=cH.xl _ hx;omega
  have n8:=m7.no (H.next+8) sp (Loc.fresh cH nX8) (by simpa using cH.fr (H.next+8) om);have tX:=m7.nx;simp only[ah.kz]at tX;have Ci:dP [] h7 (.slice Ic i) qt:=by
   rcases Ag with e|⟨b,e,hb,g⟩
   ·exact .inl e
   ·exact .inr ⟨b,e,hb,m7.lk _ _ (show b<H.next+13 by have:=au cH.fr g;omega) (wx b (by rw[e];simp[aK])).2.1 g⟩
  have t7s:∀q∈qt,ui Y5 V5.vs h7 q.1 q.2:=fun q hq=>by rw[SI];exact((tH q hq).grow SH).move ((Move.k cH.fr KH).comp m7.toMove)
  have SK:rR Y5 V5.vs h7 (.N) eo:=by rw[SI];exact(EL.grow SH).move ((Move.k cH.fr KH).comp m7.toMove)
  have j8:∀b∈aK (.slice Ic i),b∈Y5/\Loc B V5 b:=fun b hb=>⟨SJ b (wx b hb).1,m7.gr b (by have:=cH.xl b (wx b hb).1;simp;omega) (wx b hb).2.1⟩
  obtain⟨H7,JJ,LV,DN,c8,El,sT,no8,lo8⟩:=c7.push (st:=190) (e:=83) rfl ty83.1 ty83.2.1 dc ty83.2.2.2 Ci om j8 n8 om Ky t;rw[qZ]at JJ DN;have oav:o∉aK (.slice Ic i):=fun hb=>(wx o hb).2.2.2 rfl;have Ss:=sT _ _ oav za;simp[-aO];refine dn (And.intro za zc) ?_;simp[-aO,n8];rw[JJ];simp[-aO,r0,r1,r5,e6,rl,rn,ri,Ss,wi];refine dn (And.intro Ss (And.intro za zc)) ?_;have lt7:=au c7.fr za;have Pd:∀j,j<h.next->j∉aK (.slice Ic i):=fun j hj hb=>by have:=(wx j hb).2.2.1;omega
  have M8:yy B V V5 X (h7.next::Y5) h H7:=⟨M7.toMove.comp El,fun j o' lt l g=>sT j o' (Pd j lt) (M7.lk j o' lt l g),fun j lt l g=>no8 j (by have:=M7.nx;omega) (by have:=MH.nx;omega) (Pd j lt) (M7.no j lt l g),by rw[LV];have:=M7.nx;omega,M7.gr⟩
  have SM:o∈h7.next::Y5:=ay _ (SJ _ hoY);have M9:=M8.put SM qO oN (.C [.I 1,.N,.N,.N,.S h7.next (i+1)]);obtain⟨c9,m9⟩:=c8.put SM Wh (.C [.I 1,.N,.N,.N,.S h7.next (i+1)]);refine⟨l.length-(i+1),om,?_⟩;rw[hJ];refine⟨i+1,d5,.S h7.next (i+1),qt++[(Ky,t)],h7.next::Y5,V5,iH,rfl,rfl,rfl,rfl,c9,⟨ws++SH,by rw[SI,gw,cj]⟩,fun x hx=>ay _ (SJ _ (SG x hx)),SM,Wh,M9,sp,?_,by simp[qZ],?_,?_,?_,⟨nn+l[i].nodes,Bb.trans Yz,om⟩,SK.move (El.comp m9),by simp[r0],by simp[r1],by simp[r5],by simp[e6],by simp[rl],by simp[rn],sp⟩
  ·rcases DN with⟨e,_⟩|⟨b,e,hb,g⟩
   ·simp at e
   ·injection e with e _;injection e with e;injection e with e _;subst e;exact .inr ⟨h7.next,by simp[qZ],hb,by rw[ah.aM,az om];exact g⟩
  ·intro b hb;have hb:b∈[h7.next]:=hb;simp only[aR]at hb;subst hb;exact⟨aY ..,lo8,M7.nx,om⟩
  ·intro q hq;rcases aP.1 hq with hq|hq
   ·exact(t7s q hq).move (El.comp m9)
   ·simp only[aR]at hq;subst hq;exact t7.move (El.comp m9)
  ·simpa only[j7,cY,oz,cj,bZ,cd]using EG
 ·have np:i=l.length:=by omega
  subst np;rw[eQ]at zu;simp only[Cg,Rs.lI,gZ]at zu;have gxH:=(cH.mv.aJ _ _ fQ gY).1;have VW:∀b∈aK av,Loc B V' b/\h.next<=b:=fun b hb=>⟨(wx b hb).2.1,(wx b hb).2.2.1⟩
  obtain⟨w,hw⟩:=Bb.sn;have hle:d.seen.length<=d'.seen.length:=by rw[hw,bO,LX];omega
  have yh:d'.seen.take d.seen.length=d.seen:=by rw[hw,LX,List.take_left]
  have ads:(d.seen.length:Int)<=(d'.seen.length:Int):=by omega
  obtain⟨ovH,oH,vH⟩:=cH.c;obtain⟨LY,sH⟩:=cH.JG;have adt:aK (.slice LY d.seen.length)=aK V'.sa:=by
   rw[sH];cases LY with
   |none=>rfl
   |some p=>cases p;rfl
  have saN:∀G:ah,(∀b L,V'.sa= .S b d'.seen.length->H.get b=some (.cells true 1 L)->G.get b=some (.cells true 1 L))->mu G ⟨V'.vs,V'.va,.slice LY d.seen.length⟩ {d' with seen:=d'.seen.take d.seen.length}:=fun G hG=>by
   rcases cH.sa with⟨e,e2⟩|⟨b,L,e,g,t,l1,l2⟩
   ·rw[e2]at hle;have z:d.seen.length=0:=(by simpa using hle);rw[sH]at e;injection e with e _;refine .inl ⟨?_,by simp only[e2];simp⟩;simp only[e,z]
   ·have e':=e;rw[sH]at e';injection e' with e' _;refine .inr ⟨b,L,?_,hG b L e g,?_,?_,l2⟩
    ·simp only[yh,e']
    ·simp only[yh];have:(L.take d'.seen.length).take d.seen.length=(d'.seen.map fun k=>AV.ptr (vP V'.vs (some k))).take d.seen.length:=(by rw[t]);rw[List.take_take,j4 hle,<-List.map_take,yh]at this;exact this
    ·simp only[yh];omega
  have okN:=(Bb.block (LX▸c.ok)).ok;rw[LX]at okN;obtain⟨cN,mN⟩:=cH.Sf (V':=⟨V'.vs,V'.va,.slice LY d.seen.length⟩) (d':={d' with seen:=d'.seen.take d.seen.length}) (ov:=ovH) ⟨rfl,rfl,adt⟩ ⟨rfl,rfl⟩ (saN _ fun b L e g=>by rw[ah.aM,az (fun e2=>by rw[e2,oH]at g;simp at g)];exact g) (vH.move (Move.on _ cH.own.r)) okN;have MN:yy B V' ⟨V'.vs,V'.va,.slice LY d.seen.length⟩ Y Y H _:=⟨mN.toMove,fun i o _ l g=>mN.lk i o l g,mN.no,mN.nx,fun i _ l=>⟨l.r,l.f,l.n,l.v,l.va,by rw[adt];exact l.sa⟩⟩
  have loN:=MN.gr o (au cH.fr zc) Pj;have goN:=mN.lk _ _ Pj zc;have oH':=oH;simp only[CB.ob,sH]at oH';have sc:(LY=none/\d.seen.length=0)\/∃b L,LY=some (b,0)/\H.get b=some (.cells true 1 L):=by
   rcases cH.sa with⟨e,e2⟩|⟨b,L,e,g,_⟩
   ·rw[e2]at hle;rw[sH]at e;injection e with e _;exact .inl ⟨e,by simpa using hle⟩
   ·rw[sH]at e;injection e with e _;exact .inr ⟨b,L,e,g⟩
  have fin:=mR (v:=none) cN ⟨ws,gw⟩ SG c.xl oN loN (MH.comp MN) goN sp (.inl ⟨rfl,rfl⟩) (.inl ⟨rfl,rfl⟩) (by rcases Ag with e|⟨b,e,hb,g⟩;exact .inl e;exact .inr ⟨b,e,hb,mN.lk _ _ (wx b (by rw[e];simp[aK])).2.1 g⟩) (fun b hb=>⟨MN.gr b (cH.xl b (wx b hb).1) (VW b hb).1,(VW b hb).2⟩) (fun q hq=>(tH q hq).move mN.toMove) (Q:=Q) (by rw[JI]at zu;exact zu);simp only[CB.ob]at fin;rcases sc with⟨rfl,z⟩|⟨b,L,rfl,Yp⟩
  ·rw[z]at fin e6 hle ads;simp[-aO,r0,r1,r5,e6,rl,rn,ri,oH'];exact fin
  ·simp[-aO,r0,r1,r5,e6,rl,rn,ri,oH',hle,ads,Yp];exact fin
end
end
section
attribute [local simp] aI
theorem vB:∀xs:List Sm,xs.length<=ft xs
 |[]=>by simp
 |x::xs=>by
  have:=vB xs;have:=x.uS;simp only[ft,ai];omega
section
variable{S:Sc}{B:CB}{X0:List Nat}{h0:ah}{X Y:List Nat}{V V':CV}{d:Dn}{h h1 h2:ah}{P:Pl->Prop}
theorem YA(hS:Stat S B X0 h0){rt:List UInt8}{x:Sm}{e:Ex}{l:List Sm}(hk:x.kd=6)(Qf:x.eO=some e)(ht0:x.LW=none)(Ee:x.list=l)(Gg:∀d,qM S rt x d=(ye S (jY S e d) e.pos).bind fun t d1=>(Cg S rt l d1).bind fun ts e=> .ok (.mk 6 none none (some t) ts) e)
 (IH:∀x∈l,KS S B X0 h0 rt x) (hex:e.al PT TL) (hxl:Yw PT TL l) (hn:e.nodes+ft l+1=x.nodes) (Ca:x.nodes<=250):KS S B X0 h0 rt x:=by
 intro X V d h idx Q c sr hv hb uc nJ hQ;rw[Gg]at hQ;refine wb fn66 rfl ?_;obtain⟨ev,tv,lv,qs,fQ,gY,he,ht,Hg,A9,Ae⟩:=sr.obj;rw[Qf]at he;rw[ht0]at ht;rw[Ee]at A9;obtain⟨ie,rfl,Pf⟩:=he.BR;obtain rfl:=ht.qc;simp only[fp.dx,hk]at fQ;generalize x.pos.1=px1 at fQ;generalize x.pos.2=px2 at fQ;generalize x.vV=nmx at fQ;generalize x.vW=tyx at fQ;generalize x.dJ=tlx at fQ;generalize x.nodes=nx at*;replace A9:qs.map Prod.snd=l:=A9;have ql:qs.length=l.length:=by rw[<-A9];simp
 obtain⟨EJ,rfl⟩:∃ab,lv= .slice ab l.length:=by
  rcases Hg with⟨e,rfl⟩|⟨b,rfl,_⟩
  ·exact⟨none,by rw[<-ql,e];rfl⟩
  ·exact⟨_,by rw[ql]⟩
 have hll:l.length<=ft l:=vB l;have hl:l.length<=250:=om
 have g0:=(c.mv.aJ _ _ fQ gY).1;have ni:idx≠h.next:=by have:=au c.fr g0;omega
 have K1:aS h (h.alloc (.C [.I 6,.N,.N,.N,.Z])).2:=kT;have tg:(h.alloc (.C [.I 6,.N,.N,.N,.Z])).2.get h.next=some (.C [.I 6,.N,.N,.N,.Z]):=sp
 obtain⟨C1,lo,mY,oX⟩:=c.more K1 (i:=h.next) (ao _) sp;have M1:=(Mv.of (B:=B) (V:=V) mY c.fr K1).s;have qO:=c.fr h.next (ao _);have hs:∀x∈X,x∈h.next::X:=fun x hx=>ay _ hx;simp[f66,g0,ni];generalize (h.alloc (.C [.I 6,.N,.N,.N,.Z])).2=h1 at*;obtain⟨o,hoo⟩:∃o,o=h.next:=⟨_,rfl⟩
 rw[<-hoo]at tg lo qO hs C1 M1 oX⊢;have oN:h.next<=o:=om
 have ho:o∈o::X:=aY ..;have LZ:(ye S (jY S e d) e.pos).H (fun _ d'=>DS d d' 0) PT:=qz (I:=DI d 0) (P:=PT) (ju (I:=DI d 0) (P:=PT) (T:=TL) e d (DS.refl c.ok hb) hex) trivial;refine yZ hS (tY hS _ e (ao _) om hex) hex om C1 Pf _ (iN.bind hQ hs M1 (fun p h2 q=>by simpa using q) fun t d1 v h2 hr jk C2 w2 M2 m2=>?_);obtain⟨me,rfl,t2⟩:=w2;rw[hr]at LZ;have LZ:DS d d1 0:=LZ;have go2:=m2.lk _ _ lo tg;have tF:=(C2.mv.aJ _ _ fQ gY).1;have no:idx≠o:=om
 obtain⟨C3,m3⟩:=C2.put ho lo (.C [.I 6,.N,.N,.P me,.Z]);have M3:=M2.put ho qO oN (.C [.I 6,.N,.N,.P me,.Z]);have aaV:(h2.set o (.C [.I 6,.N,.N,.P me,.Z])).get o=some (.C [.I 6,.N,.N,.P me,.Z]):=sp
 have t3:=t2.move m3;have adu:=LZ.hi;have adv:d1.loops=d.loops:=LZ.lp;obtain⟨eo,heo⟩:∃eo:Option TX,eo=some t:=⟨_,rfl⟩
 simp[go2,tF,no];generalize h2.set o (.C [.I 6,.N,.N,.P me,.Z])=h3 at*;have CL:=C3;have ML:=M3;have Wg:=aaV;have NC:rR (o::X) V.vs h3 (.P me) eo:= .inr ⟨me,t,rfl,heo,t3⟩;obtain⟨dd,LX⟩:∃dd,dd=d1:=⟨_,rfl⟩
 rw[<-LX]at CL LZ adu adv;have stL:=LZ.st;replace hv:dd.vs.length+ft l<=290:=om
 have afM:=uc;replace uc:-1000<=dd.loops:=om
 replace nJ:dd.loops+ft l<=1000:=om
 obtain⟨Hl,JI⟩:∃Hl:List TS->Dn->Rs TS,Hl=(fun ts e=> .ok (.mk 6 none none eo ts) e):=⟨_,rfl⟩
 have hQ0:iN S B X0 h0 X V WU h Q ((Cg S rt (l.drop 0) dd).bind fun ts e=>Hl (([]:List (Nat×TS)).map Prod.snd++ts) e):=by rw[JI,LX,heo];exact jk
 obtain⟨J,hJ⟩:∃J:Nat->St->Prop,J=(fun m x=>∃(i:Nat)(d':Dn)(av:AV)(qt:List (Nat×TS))(Y:List Nat)(V':CV),i<=l.length/\m=l.length-i/\x.n=298/\x.ds=[]/\x.bI=false/\dF S B X0 h0 Y V' d' x.h/\(∃ws,V'.vs=V.vs++ws)/\(∀x∈X,x∈Y)/\o∈Y/\Loc B V' o/\yy B V V' X Y h x.h/\x.h.get o=some (.C [.I 6,.N,.N,.P me,av])/\dP [] x.h av qt/\qt.length=i/\
  (∀b∈aK av,b∈Y/\Loc B V' b/\h.next<=b/\b≠o)/\(∀q∈qt,ui Y V'.vs x.h q.1 q.2)/\iN S B X0 h0 X V WU h Q ((Cg S rt (l.drop i) d').bind fun ts e=>Hl (qt.map Prod.snd++ts) e)/\(∃n,DS dd d' n/\n+ft (l.drop i)<=ft l)/\rR Y V'.vs x.h (.P me) eo/\
  x.rg.get 0=some (.P B.r)/\x.rg.get 1=some (.P idx)/\x.rg.get 5=some (.P o)/\x.rg.get 196=some (.slice EJ l.length)/\x.rg.get 197=some (.I l.length)/\x.rg.get 198=some (.I i)):=⟨_,rfl⟩
 refine bW J l.length ?_ ?_
 ·rw[hJ];exact⟨0,dd,.Z,[],_,V,bX _,rfl,rfl,rfl,rfl,CL,⟨[],sp⟩,hs,ho,lo,ML,Wg,.inl ⟨rfl,rfl⟩,rfl,by simp[aK],sp,hQ0,⟨0,DS.refl CL.ok stL,sp⟩,NC,sp,sp,sp,sp,sp,sp⟩
 intro m x hx;rw[hJ]at hx;obtain⟨rg,n',H,ds,bI⟩:=x;obtain⟨i,d',av,qt,Y,V',hi,rfl,e1,e2,e3,cH,⟨ws,gw⟩,SG,hoY,Pj,MH,zc,Ag,qZ,wx,tH,zu,⟨nn,Bb,Yx⟩,EL,r0,r1,r5,rl,rn,ri⟩:=hx;dsimp only at e1 e2 e3 cH MH zc Ag tH EL r0 r1 r5 rl rn ri;subst e1 e2 e3;by_cases iH:i<l.length
 ·have uk:i<qs.length:=by omega
  have fW:(i:Int)<(l.length:Int):=by omega
  have wi:IntKind.wrap .i64 ((i:Int)+1)=((i+1:Nat):Int):=by rw[wr om om];omega
  obtain⟨b0,eb0,FC,EK⟩:∃b,EJ=some (b,0)/\b∉X0/\h0.get b=some (.cells true 1 (qs.map fun p=> .P p.1)):=by
   rcases Hg with⟨e,_⟩|⟨b,e,hb,g⟩
   ·rw[e]at uk;simp at uk
   ·injection e with e _;exact⟨b,e,hb,g⟩
  subst eb0;have Sr:=(cH.mv.aJ _ _ EK FC).1;have Uq:(qs.map fun p=>AV.P p.1)[i]?=some (.P qs[i].1):=by rw[bQ,aj uk];rfl
  have exi:qs[i].2=l[i]:=by
   have:(qs.map Prod.snd)[i]?=l[i]?:=(by rw[A9]);rw[bQ,aj uk,aj iH]at this;simpa using this
  have Yy:=Ae _ (bK uk);rw[exi]at Yy;have LU:∃ab,av= .slice ab i:=by
   rcases Ag with⟨e,rfl⟩|⟨b,rfl,_⟩
   ·rw[e]at qZ;exact⟨none,by rw[<-qZ];rfl⟩
   ·exact⟨_,by rw[qZ]⟩
  obtain⟨Ic,rfl⟩:=LU;rw[ca iH]at zu Yx;simp only[Cg,Rs.bind_assoc,Rs.lI]at zu;simp only[ft]at Yx;have dlo:=Bb.lo;have dhi:=Bb.hi;have dlp:=Bb.lp;simp[-aO,r0,r1,r5,rl,rn,ri,fW,iH,Sr,Uq];refine Dd ?_;simp[-aO,r0,r1,r5,rl,rn,ri,zc];have KH:=(aS.refl H).bump 13;refine IH _ (bK iH) Y V' d' (H.bump 13) _ _ (cH.aJ KH) Yy om Bb.st om om (iN.binds zu SG (MH.comp (Mv.k cH.fr KH).s) (fun p h2 q=>⟨dc,fun _=>by simpa using q⟩) fun t d5 v V5 Y5 h7 Yr EG ⟨SH,SI⟩ SJ c7 w7 M7 m7=>?_);obtain⟨Ky,rfl,t7⟩:=w7;have Yz:=xn (rt:=rt) hS.ok l[i] d' Bb.ok Bb.st om om (Ah hxl (bK iH));rw[Yr]at Yz;have ltH:=au cH.fr zc;have za:=m7.lk _ _ (show o<H.next+13 from om) Pj zc;have Wh:=m7.gr _ (show o<H.next+13 from om) Pj;have O9:=(c7.mv.aJ _ _ EK FC).1;have nX8:H.next+8∉Y:=fun hx=>by have:=cH.xl _ hx;omega
  have n8:=m7.no (H.next+8) sp (Loc.fresh cH nX8) (by simpa using cH.fr (H.next+8) om);have tX:=m7.nx;simp only[ah.kz]at tX;have Ci:dP [] h7 (.slice Ic i) qt:=by
   rcases Ag with e|⟨b,e,hb,g⟩
   ·exact .inl e
   ·exact .inr ⟨b,e,hb,m7.lk _ _ (show b<H.next+13 by have:=au cH.fr g;omega) (wx b (by rw[e];simp[aK])).2.1 g⟩
  have t7s:∀q∈qt,ui Y5 V5.vs h7 q.1 q.2:=fun q hq=>by rw[SI];exact((tH q hq).grow SH).move ((Move.k cH.fr KH).comp m7.toMove)
  have SK:rR Y5 V5.vs h7 (.P me) eo:=by rw[SI];exact(EL.grow SH).move ((Move.k cH.fr KH).comp m7.toMove)
  have j8:∀b∈aK (.slice Ic i),b∈Y5/\Loc B V5 b:=fun b hb=>⟨SJ b (wx b hb).1,m7.gr b (by have:=cH.xl b (wx b hb).1;simp;omega) (wx b hb).2.1⟩
  obtain⟨H7,JJ,LV,DN,c8,El,sT,no8,lo8⟩:=c7.push (st:=190) (e:=83) rfl ty83.1 ty83.2.1 dc ty83.2.2.2 Ci om j8 n8 om Ky t;rw[qZ]at JJ DN;have oav:o∉aK (.slice Ic i):=fun hb=>(wx o hb).2.2.2 rfl;have Ss:=sT _ _ oav za;simp[-aO];refine dn (And.intro za zc) ?_;simp[-aO,n8];rw[JJ];simp[-aO,r0,r1,r5,rl,rn,ri,Ss,wi];refine dn (And.intro Ss (And.intro za zc)) ?_;have lt7:=au c7.fr za;have Pd:∀j,j<h.next->j∉aK (.slice Ic i):=fun j hj hb=>by have:=(wx j hb).2.2.1;omega
  have M8:yy B V V5 X (h7.next::Y5) h H7:=⟨M7.toMove.comp El,fun j o' lt l g=>sT j o' (Pd j lt) (M7.lk j o' lt l g),fun j lt l g=>no8 j (by have:=M7.nx;omega) (by have:=MH.nx;omega) (Pd j lt) (M7.no j lt l g),by rw[LV];have:=M7.nx;omega,M7.gr⟩
  have SM:o∈h7.next::Y5:=ay _ (SJ _ hoY);have M9:=M8.put SM qO oN (.C [.I 6,.N,.N,.P me,.S h7.next (i+1)]);obtain⟨c9,m9⟩:=c8.put SM Wh (.C [.I 6,.N,.N,.P me,.S h7.next (i+1)]);refine⟨l.length-(i+1),om,?_⟩;rw[hJ];refine⟨i+1,d5,.S h7.next (i+1),qt++[(Ky,t)],h7.next::Y5,V5,iH,rfl,rfl,rfl,rfl,c9,⟨ws++SH,by rw[SI,gw,cj]⟩,fun x hx=>ay _ (SJ _ (SG x hx)),SM,Wh,M9,sp,?_,by simp[qZ],?_,?_,?_,⟨nn+l[i].nodes,Bb.trans Yz,om⟩,SK.move (El.comp m9),by simp[r0],by simp[r1],by simp[r5],by simp[rl],by simp[rn],sp⟩
  ·rcases DN with⟨e,_⟩|⟨b,e,hb,g⟩
   ·simp at e
   ·injection e with e _;injection e with e;injection e with e _;subst e;exact .inr ⟨h7.next,by simp[qZ],hb,by rw[ah.aM,az om];exact g⟩
  ·intro b hb;have hb:b∈[h7.next]:=hb;simp only[aR]at hb;subst hb;exact⟨aY ..,lo8,M7.nx,om⟩
  ·intro q hq;rcases aP.1 hq with hq|hq
   ·exact(t7s q hq).move (El.comp m9)
   ·simp only[aR]at hq;subst hq;exact t7.move (El.comp m9)
  ·simpa only[j7,cY,oz,cj,bZ,cd]using EG
 ·have np:i=l.length:=by omega
  subst np;rw[eQ]at zu;simp only[Cg,Rs.lI,gZ]at zu;have gxH:=(cH.mv.aJ _ _ fQ gY).1;have VW:∀b∈aK av,Loc B V' b/\h.next<=b:=fun b hb=>⟨(wx b hb).2.1,(wx b hb).2.2.1⟩
  simp[-aO,r0,r1,r5,rl,rn,ri,gxH];exact mR (v:=none) cH ⟨ws,gw⟩ SG c.xl oN Pj MH zc sp (.inl ⟨rfl,rfl⟩) EL Ag VW tH (Q:=Q) (by rw[JI]at zu;exact zu)
theorem SN(hS:Stat S B X0 h0){rt:List UInt8}{x:Sm}{e:Ex}{l:List Sm}(hk:x.kd=7)(Qf:x.eO=some e)(ht0:x.LW=none)(Ee:x.list=l)(Gg:∀d,qM S rt x d=(ye S (jY S e d) e.pos).bind fun t d1=>(Cg S rt l {d1 with loops:=d1.loops+1}).bind fun ts e=> .ok (.mk 7 none none (some t) ts) {e with loops:=e.loops-1})
 (IH:∀x∈l,KS S B X0 h0 rt x) (hex:e.al PT TL) (hxl:Yw PT TL l) (hn:e.nodes+ft l+1=x.nodes) (Ca:x.nodes<=250):KS S B X0 h0 rt x:=by
 intro X V d h idx Q c sr hv hb uc nJ hQ;rw[Gg]at hQ;refine wb fn66 rfl ?_;obtain⟨ev,tv,lv,qs,fQ,gY,he,ht,Hg,A9,Ae⟩:=sr.obj;rw[Qf]at he;rw[ht0]at ht;rw[Ee]at A9;obtain⟨ie,rfl,Pf⟩:=he.BR;obtain rfl:=ht.qc;simp only[fp.dx,hk]at fQ;generalize x.pos.1=px1 at fQ;generalize x.pos.2=px2 at fQ;generalize x.vV=nmx at fQ;generalize x.vW=tyx at fQ;generalize x.dJ=tlx at fQ;generalize x.nodes=nx at*;replace A9:qs.map Prod.snd=l:=A9;have ql:qs.length=l.length:=by rw[<-A9];simp
 obtain⟨EJ,rfl⟩:∃ab,lv= .slice ab l.length:=by
  rcases Hg with⟨e,rfl⟩|⟨b,rfl,_⟩
  ·exact⟨none,by rw[<-ql,e];rfl⟩
  ·exact⟨_,by rw[ql]⟩
 have hll:l.length<=ft l:=vB l;have hl:l.length<=250:=om
 have g0:=(c.mv.aJ _ _ fQ gY).1;have ni:idx≠h.next:=by have:=au c.fr g0;omega
 have K1:aS h (h.alloc (.C [.I 7,.N,.N,.N,.Z])).2:=kT;have tg:(h.alloc (.C [.I 7,.N,.N,.N,.Z])).2.get h.next=some (.C [.I 7,.N,.N,.N,.Z]):=sp
 obtain⟨C1,lo,mY,oX⟩:=c.more K1 (i:=h.next) (ao _) sp;have M1:=(Mv.of (B:=B) (V:=V) mY c.fr K1).s;have qO:=c.fr h.next (ao _);have hs:∀x∈X,x∈h.next::X:=fun x hx=>ay _ hx;simp[f66,g0,ni];generalize (h.alloc (.C [.I 7,.N,.N,.N,.Z])).2=h1 at*;obtain⟨o,hoo⟩:∃o,o=h.next:=⟨_,rfl⟩
 rw[<-hoo]at tg lo qO hs C1 M1 oX⊢;have oN:h.next<=o:=om
 have ho:o∈o::X:=aY ..;have LZ:(ye S (jY S e d) e.pos).H (fun _ d'=>DS d d' 0) PT:=qz (I:=DI d 0) (P:=PT) (ju (I:=DI d 0) (P:=PT) (T:=TL) e d (DS.refl c.ok hb) hex) trivial;refine yZ hS (tY hS _ e (ao _) om hex) hex om C1 Pf _ (iN.bind hQ hs M1 (fun p h2 q=>by simpa using q) fun t d1 v h2 hr jk C2 w2 M2 m2=>?_);obtain⟨me,rfl,t2⟩:=w2;rw[hr]at LZ;have LZ:DS d d1 0:=LZ;have go2:=m2.lk _ _ lo tg;have tF:=(C2.mv.aJ _ _ fQ gY).1;have no:idx≠o:=om
 obtain⟨C3,m3⟩:=C2.put ho lo (.C [.I 7,.N,.N,.P me,.Z]);have M3:=M2.put ho qO oN (.C [.I 7,.N,.N,.P me,.Z]);have aaV:(h2.set o (.C [.I 7,.N,.N,.P me,.Z])).get o=some (.C [.I 7,.N,.N,.P me,.Z]):=sp
 have t3:=t2.move m3;have adu:=LZ.hi;have adv:d1.loops=d.loops:=LZ.lp;obtain⟨eo,heo⟩:∃eo:Option TX,eo=some t:=⟨_,rfl⟩
 obtain⟨ov3,c3,o3⟩:=C3.c;have SO:B.r≠o:=lo.r.symm;have c2:=c3;rw[ah.aM,az SO]at c2;simp only[CB.ob]at c2;have w1:IntKind.wrap .i64 (d1.loops+1)=d1.loops+1:=wr om om;obtain⟨CL,mL⟩:=C3.Sf (V':=V) (d':={d1 with loops:=d1.loops+1}) (ov:=ov3) ⟨rfl,rfl,rfl⟩ ⟨rfl,rfl⟩ (mu.set (d:={d1 with loops:=d1.loops+1}) C3.sa c3 sp) (o3.move (Move.on _ C3.own.r)) (LZ.ok.loop om om);have ML:=M3.comp mL.s;have Wg:=mL.lk _ _ lo aaV;have gxL:=(CL.mv.aJ _ _ fQ gY).1;have NC:rR (o::X) V.vs _ (.P me) eo:= .inr ⟨me,t,rfl,heo,t3.move mL.toMove⟩;simp only[CB.ob]at CL ML Wg gxL NC;have nir:idx≠B.r:=fun e=>(C2.mv.aJ _ _ fQ gY).2 (e▸C2.own.r);simp[go2,tF,no,SO,c2,w1,nir];generalize (h2.set o (.C [.I 7,.N,.N,.P me,.Z])).set B.r _=h3 at*;obtain⟨dd,LX⟩:∃dd:Dn,dd={d1 with loops:=d1.loops+1}:=⟨_,rfl⟩
 have e1:dd.vs=d1.vs:=by rw[LX]
 have e2:dd.loops=d1.loops+1:=by rw[LX]
 have e3:dd.bytes=d1.bytes:=by rw[LX]
 rw[<-LX]at CL;have stL:dd.bytes<=70000*dd.vs.length:=by rw[e1,e3];exact LZ.st
 replace hv:dd.vs.length+ft l<=290:=by rw[e1];omega
 have afM:=uc;replace uc:-1000<=dd.loops:=om
 replace nJ:dd.loops+ft l<=1000:=om
 obtain⟨Hl,JI⟩:∃Hl:List TS->Dn->Rs TS,Hl=(fun ts e=> .ok (.mk 7 none none eo ts) {e with loops:=e.loops-1}):=⟨_,rfl⟩
 have hQ0:iN S B X0 h0 X V WU h Q ((Cg S rt (l.drop 0) dd).bind fun ts e=>Hl (([]:List (Nat×TS)).map Prod.snd++ts) e):=by rw[JI,LX,heo];exact jk
 obtain⟨J,hJ⟩:∃J:Nat->St->Prop,J=(fun m x=>∃(i:Nat)(d':Dn)(av:AV)(qt:List (Nat×TS))(Y:List Nat)(V':CV),i<=l.length/\m=l.length-i/\x.n=298/\x.ds=[]/\x.bI=false/\dF S B X0 h0 Y V' d' x.h/\(∃ws,V'.vs=V.vs++ws)/\(∀x∈X,x∈Y)/\o∈Y/\Loc B V' o/\yy B V V' X Y h x.h/\x.h.get o=some (.C [.I 7,.N,.N,.P me,av])/\dP [] x.h av qt/\qt.length=i/\
  (∀b∈aK av,b∈Y/\Loc B V' b/\h.next<=b/\b≠o)/\(∀q∈qt,ui Y V'.vs x.h q.1 q.2)/\iN S B X0 h0 X V WU h Q ((Cg S rt (l.drop i) d').bind fun ts e=>Hl (qt.map Prod.snd++ts) e)/\(∃n,DS dd d' n/\n+ft (l.drop i)<=ft l)/\rR Y V'.vs x.h (.P me) eo/\
  x.rg.get 0=some (.P B.r)/\x.rg.get 1=some (.P idx)/\x.rg.get 5=some (.P o)/\x.rg.get 196=some (.slice EJ l.length)/\x.rg.get 197=some (.I l.length)/\x.rg.get 198=some (.I i)):=⟨_,rfl⟩
 refine bW J l.length ?_ ?_
 ·rw[hJ];exact⟨0,dd,.Z,[],_,V,bX _,rfl,rfl,rfl,rfl,CL,⟨[],sp⟩,hs,ho,lo,ML,Wg,.inl ⟨rfl,rfl⟩,rfl,by simp[aK],sp,hQ0,⟨0,DS.refl CL.ok stL,sp⟩,NC,sp,sp,sp,sp,sp,sp⟩
 intro m x hx;rw[hJ]at hx;obtain⟨rg,n',H,ds,bI⟩:=x;obtain⟨i,d',av,qt,Y,V',hi,rfl,e1,e2,e3,cH,⟨ws,gw⟩,SG,hoY,Pj,MH,zc,Ag,qZ,wx,tH,zu,⟨nn,Bb,Yx⟩,EL,r0,r1,r5,rl,rn,ri⟩:=hx;dsimp only at e1 e2 e3 cH MH zc Ag tH EL r0 r1 r5 rl rn ri;subst e1 e2 e3;by_cases iH:i<l.length
 ·have uk:i<qs.length:=by omega
  have fW:(i:Int)<(l.length:Int):=by omega
  have wi:IntKind.wrap .i64 ((i:Int)+1)=((i+1:Nat):Int):=by rw[wr om om];omega
  obtain⟨b0,eb0,FC,EK⟩:∃b,EJ=some (b,0)/\b∉X0/\h0.get b=some (.cells true 1 (qs.map fun p=> .P p.1)):=by
   rcases Hg with⟨e,_⟩|⟨b,e,hb,g⟩
   ·rw[e]at uk;simp at uk
   ·injection e with e _;exact⟨b,e,hb,g⟩
  subst eb0;have Sr:=(cH.mv.aJ _ _ EK FC).1;have Uq:(qs.map fun p=>AV.P p.1)[i]?=some (.P qs[i].1):=by rw[bQ,aj uk];rfl
  have exi:qs[i].2=l[i]:=by
   have:(qs.map Prod.snd)[i]?=l[i]?:=(by rw[A9]);rw[bQ,aj uk,aj iH]at this;simpa using this
  have Yy:=Ae _ (bK uk);rw[exi]at Yy;have LU:∃ab,av= .slice ab i:=by
   rcases Ag with⟨e,rfl⟩|⟨b,rfl,_⟩
   ·rw[e]at qZ;exact⟨none,by rw[<-qZ];rfl⟩
   ·exact⟨_,by rw[qZ]⟩
  obtain⟨Ic,rfl⟩:=LU;rw[ca iH]at zu Yx;simp only[Cg,Rs.bind_assoc,Rs.lI]at zu;simp only[ft]at Yx;have dlo:=Bb.lo;have dhi:=Bb.hi;have dlp:=Bb.lp;simp[-aO,r0,r1,r5,rl,rn,ri,fW,iH,Sr,Uq];refine Dd ?_;simp[-aO,r0,r1,r5,rl,rn,ri,zc];have KH:=(aS.refl H).bump 13;refine IH _ (bK iH) Y V' d' (H.bump 13) _ _ (cH.aJ KH) Yy om Bb.st om om (iN.binds zu SG (MH.comp (Mv.k cH.fr KH).s) (fun p h2 q=>⟨dc,fun _=>by simpa using q⟩) fun t d5 v V5 Y5 h7 Yr EG ⟨SH,SI⟩ SJ c7 w7 M7 m7=>?_);obtain⟨Ky,rfl,t7⟩:=w7;have Yz:=xn (rt:=rt) hS.ok l[i] d' Bb.ok Bb.st om om (Ah hxl (bK iH));rw[Yr]at Yz;have ltH:=au cH.fr zc;have za:=m7.lk _ _ (show o<H.next+13 from om) Pj zc;have Wh:=m7.gr _ (show o<H.next+13 from om) Pj;have O9:=(c7.mv.aJ _ _ EK FC).1;have nX8:H.next+8∉Y:=fun hx=>by have:=cH.xl _ hx;omega
  have n8:=m7.no (H.next+8) sp (Loc.fresh cH nX8) (by simpa using cH.fr (H.next+8) om);have tX:=m7.nx;simp only[ah.kz]at tX;have Ci:dP [] h7 (.slice Ic i) qt:=by
   rcases Ag with e|⟨b,e,hb,g⟩
   ·exact .inl e
   ·exact .inr ⟨b,e,hb,m7.lk _ _ (show b<H.next+13 by have:=au cH.fr g;omega) (wx b (by rw[e];simp[aK])).2.1 g⟩
  have t7s:∀q∈qt,ui Y5 V5.vs h7 q.1 q.2:=fun q hq=>by rw[SI];exact((tH q hq).grow SH).move ((Move.k cH.fr KH).comp m7.toMove)
  have SK:rR Y5 V5.vs h7 (.P me) eo:=by rw[SI];exact(EL.grow SH).move ((Move.k cH.fr KH).comp m7.toMove)
  have j8:∀b∈aK (.slice Ic i),b∈Y5/\Loc B V5 b:=fun b hb=>⟨SJ b (wx b hb).1,m7.gr b (by have:=cH.xl b (wx b hb).1;simp;omega) (wx b hb).2.1⟩
  obtain⟨H7,JJ,LV,DN,c8,El,sT,no8,lo8⟩:=c7.push (st:=190) (e:=83) rfl ty83.1 ty83.2.1 dc ty83.2.2.2 Ci om j8 n8 om Ky t;rw[qZ]at JJ DN;have oav:o∉aK (.slice Ic i):=fun hb=>(wx o hb).2.2.2 rfl;have Ss:=sT _ _ oav za;simp[-aO];refine dn (And.intro za zc) ?_;simp[-aO,n8];rw[JJ];simp[-aO,r0,r1,r5,rl,rn,ri,Ss,wi];refine dn (And.intro Ss (And.intro za zc)) ?_;have lt7:=au c7.fr za;have Pd:∀j,j<h.next->j∉aK (.slice Ic i):=fun j hj hb=>by have:=(wx j hb).2.2.1;omega
  have M8:yy B V V5 X (h7.next::Y5) h H7:=⟨M7.toMove.comp El,fun j o' lt l g=>sT j o' (Pd j lt) (M7.lk j o' lt l g),fun j lt l g=>no8 j (by have:=M7.nx;omega) (by have:=MH.nx;omega) (Pd j lt) (M7.no j lt l g),by rw[LV];have:=M7.nx;omega,M7.gr⟩
  have SM:o∈h7.next::Y5:=ay _ (SJ _ hoY);have M9:=M8.put SM qO oN (.C [.I 7,.N,.N,.P me,.S h7.next (i+1)]);obtain⟨c9,m9⟩:=c8.put SM Wh (.C [.I 7,.N,.N,.P me,.S h7.next (i+1)]);refine⟨l.length-(i+1),om,?_⟩;rw[hJ];refine⟨i+1,d5,.S h7.next (i+1),qt++[(Ky,t)],h7.next::Y5,V5,iH,rfl,rfl,rfl,rfl,c9,⟨ws++SH,by rw[SI,gw,cj]⟩,fun x hx=>ay _ (SJ _ (SG x hx)),SM,Wh,M9,sp,?_,by simp[qZ],?_,?_,?_,⟨nn+l[i].nodes,Bb.trans Yz,om⟩,SK.move (El.comp m9),by simp[r0],by simp[r1],by simp[r5],by simp[rl],by simp[rn],sp⟩
  ·rcases DN with⟨e,_⟩|⟨b,e,hb,g⟩
   ·simp at e
   ·injection e with e _;injection e with e;injection e with e _;subst e;exact .inr ⟨h7.next,by simp[qZ],hb,by rw[ah.aM,az om];exact g⟩
  ·intro b hb;have hb:b∈[h7.next]:=hb;simp only[aR]at hb;subst hb;exact⟨aY ..,lo8,M7.nx,om⟩
  ·intro q hq;rcases aP.1 hq with hq|hq
   ·exact(t7s q hq).move (El.comp m9)
   ·simp only[aR]at hq;subst hq;exact t7.move (El.comp m9)
  ·simpa only[j7,cY,oz,cj,bZ,cd]using EG
 ·have np:i=l.length:=by omega
  subst np;rw[eQ]at zu;simp only[Cg,Rs.lI,gZ]at zu;have gxH:=(cH.mv.aJ _ _ fQ gY).1;have VW:∀b∈aK av,Loc B V' b/\h.next<=b:=fun b hb=>⟨(wx b hb).2.1,(wx b hb).2.2.1⟩
  obtain⟨ovH,cc,oH⟩:=cH.c;have lpH:=Bb.lp;have w2:IntKind.wrap .i64 (d'.loops-1)=d'.loops-1:=wr om om;obtain⟨cN,mN⟩:=cH.Sf (V':=V') (d':={d' with loops:=d'.loops-1}) (ov:=ovH) ⟨rfl,rfl,rfl⟩ ⟨rfl,rfl⟩ (mu.set (d:={d' with loops:=d'.loops-1}) cH.sa cc sp) (oH.move (Move.on _ cH.own.r)) (Bb.ok.loop om om);have goN:=mN.lk _ _ Pj zc;have fin:=mR (v:=none) cN ⟨ws,gw⟩ SG c.xl oN Pj (MH.comp mN.s) goN sp (.inl ⟨rfl,rfl⟩) (EL.move mN.toMove) (by rcases Ag with e|⟨b,e,hb,g⟩;exact .inl e;exact .inr ⟨b,e,hb,mN.lk _ _ (wx b (by rw[e];simp[aK])).2.1 g⟩) VW (fun q hq=>(tH q hq).move mN.toMove) (Q:=Q) (by rw[JI]at zu;exact zu);simp only[CB.ob]at fin cc;simp[-aO,r0,r1,r5,rl,rn,ri,gxH,cc,w2];exact fin
end
end
section
attribute [local simp] aI
section
variable{S:Sc}{B:CB}{X0:List Nat}{h0:ah}{X Y:List Nat}{V V':CV}{d:Dn}{h h1 h2:ah}{P:Pl->Prop}
theorem Wi(hS:Stat S B X0 h0){rt:List UInt8}(Pg:∀sg,S.fs[B.n]?=some sg->sg.ty=rt)(Ie:rt.length<=eR):∀(k:Nat)(x:Sm),x.nodes<=k->k<=250->x.al PT TL->KS S B X0 h0 rt x:=by
 intro k;induction k with
 |zero=>intro x hk;rw[x.uS]at hk;omega
 |succ k IH=>
  intro x hk Cj hx;have mem:∀{l:List Sm}{y:Sm},y∈l->y.nodes<=ft l:=fun{l}=>by
   induction l with
   |nil=>intro y h;cases h
   |cons z l ih=>
    intro y h;simp only[ft];rcases aq.1 h with rfl|h
    ·omega
    ·have:=ih h;omega
  cases x with
  |block p l=>
   simp only[fp.nodes]at hk;have:=vB l;exact SF hS (fun y hy=>IH y (by have:=mem hy;omega) om (Ah hx.2 hy)) hx om
  |empty p=>exact SB hS
  |decl p ty nm e=>
   cases e with
   |none=>exact SC hS hx
   |some e=>
    simp only[fp.nodes,DT]at hk;exact SE hS hx om
  |assign p to e=>
   simp only[fp.nodes]at hk;exact Ph hS hx om
  |eval p e=>
   simp only[fp.nodes]at hk;exact Wa hS hx om
  |ifs p e s=>
   simp only[fp.nodes]at hk;exact YA hS (l:=[s]) rfl rfl rfl rfl (fun d=>by simp[qM,Cg,Rs.bind_assoc]) (fun y hy=>by simp only[aR]at hy;subst hy;exact IH y om om hx.2.2) hx.2.1 ⟨hx.2.2,trivial⟩ (by simp[fp.nodes,ft]) (by simp only[fp.nodes];omega)
  |LO p e s t=>
   simp only[fp.nodes]at hk;exact YA hS (l:=[s,t]) rfl rfl rfl rfl (fun d=>by simp[qM,Cg,Rs.bind_assoc]) (fun y hy=>by
    simp only[aq,bd,cT]at hy;rcases hy with rfl|rfl
    ·exact IH _ om om hx.2.2.1
    ·exact IH _ om om hx.2.2.2) hx.2.1 ⟨hx.2.2.1,hx.2.2.2,trivial⟩ (by simp[fp.nodes,ft]<;>omega) (by simp only[fp.nodes];omega)
  |LP p e s=>
   simp only[fp.nodes]at hk;exact SN hS (l:=[s]) rfl rfl rfl rfl (fun d=>by simp[qM,Cg,Rs.bind_assoc]) (fun y hy=>by simp only[aR]at hy;subst hy;exact IH y om om hx.2.2) hx.2.1 ⟨hx.2.2,trivial⟩ (by simp[fp.nodes,ft]) (by simp only[fp.nodes];omega)
  |NP p=>exact aaU hS
  |cont p=>exact Wb hS
  |ret p e=>
   cases e with
   |none=>exact Wc hS Pg
   |some e=>
    simp only[fp.nodes,DT]at hk;exact We hS Pg Ie hx om
  |out p e=>
   simp only[fp.nodes]at hk;exact aaT hS hx om
end
end
end Go.Proofs.YtgebeldoibkkpaaGreatDoor
