/- Lemmas for CheckTurns; each states its own conditions. -/
import Derived.Test.YtaekaifihehgdaaGreatDoorH
set_option maxRecDepth 100000
set_option maxHeartbeats 0
set_option linter.unusedSimpArgs false
set_option linter.unusedVariables false
namespace Go.Proofs.YtaekaifihehgdaaGreatDoor
open Go.Am Tryz
section
inductive RN where
 |mk (op nm ty:List UInt8) (n:Int) (ks:List RN)
def RN.op:RN->List UInt8| .mk o _ _ _ _=>o
def RN.nm:RN->List UInt8| .mk _ o _ _ _=>o
def RN.ty:RN->List UInt8| .mk _ _ o _ _=>o
def RN.n:RN->Int| .mk _ _ _ o _=>o
def RN.ks:RN->List RN| .mk _ _ _ _ o=>o
mutual
def Ex.rn:Ex->RN
 | .num _ n=> .mk [110,117,109] [] [] n []
 | .var _ s=> .mk [110,97,109,101] s [] 0 []
 | .un _ op a=> .mk [117,110] op [] 0 [a.rn]
 | .bin _ op a b=> .mk [98,105,110] op [] 0 [a.rn,b.rn]
 | .cast _ ty a=> .mk [99,97,115,116] [] ty 0 [a.rn]
 | .call _ f xs=> .mk [99,97,108,108] f [] 0 (Kt xs)
 | .index _ a i=> .mk [105,110,100,101,120] [] [] 0 [a.rn,i.rn]
 | .fN _ nm a=> .mk [100,111,116] nm [] 0 [a.rn]
 | .arrow _ nm a=> .mk [97,114,114,111,119] nm [] 0 [a.rn]
 | .qp _=> .mk [105,110] [] [] 0 []
 | .size _ ty=> .mk [115,105,122,101,111,102] [] ty 0 []
def Kt:List Ex->List RN
 |[]=>[]
 |e::es=>e.rn::Kt es
end
theorem Em(l:List Ex):Kt l=l.map Ex.rn:=by
 induction l with
 |nil=>rfl
 |cons x l a=>simp[Kt,a]
def UG:Option Ex->List RN
 |none=>[]
 |some e=>[e.rn]
mutual
def dw.rn:dw->RN
 | .block _ l=> .mk [98,108,111,99,107] [] [] 0 (Nw l)
 | .empty _=> .mk [101,109,112,116,121] [] [] 0 []
 | .decl _ ty nm e=> .mk [100,101,99,108] nm ty 0 (UG e)
 | .assign _ to e=> .mk [97,115,115,105,103,110] [] [] 0 [to.rn,e.rn]
 | .eval _ e=> .mk [101,120,112,114] [] [] 0 [e.rn]
 | .ifs _ e s=> .mk [105,102] [] [] 0 [e.rn,s.rn]
 | .wD _ e s t=> .mk [105,102] [] [] 0 [e.rn,s.rn,t.rn]
 | .wE _ e s=> .mk [119,104,105,108,101] [] [] 0 [e.rn,s.rn]
 | .xq _=> .mk [98,114,101,97,107] [] [] 0 []
 | .cont _=> .mk [99,111,110,116,105,110,117,101] [] [] 0 []
 | .ret _ e=> .mk [114,101,116,117,114,110] [] [] 0 (UG e)
 | .out _ e=> .mk [111,117,116] [] [] 0 [e.rn]
def Nw:List dw->List RN
 |[]=>[]
 |e::es=>e.rn::Nw es
end
theorem En(l:List Sm):Nw l=l.map dw.rn:=by
 induction l with
 |nil=>rfl
 |cons x l a=>simp[Nw,a]
def RN.cA(r:RN)(av:AV)(is:List UInt8)(ref:Int):List AV:=[.str r.op,.str r.nm,.str r.ty,.I r.n,av,.str is,.I ref]
inductive eK(X:List Nat)(h:ah):Nat->RN->Prop where
 |mk {id:Nat} {r:RN} {av:AV} {qs:List (Nat×RN)} (obj:h.get id=some (.C (r.cA av [] 0))) (nx:id∉X) (arr:cQ X h av qs) (ha:qs.map Prod.snd=r.ks) (sub:∀p,p∈qs->eK X h p.1 p.2):eK X h id r
theorem eK.move{X Y:cB}{h h':ah}(s:Move X Y h h'){id:Nat}{t:RN}(e:eK X h id t):eK Y h' id t:=by
 induction e with
 |mk obj nx arr a sub b=>exact .mk (s.aH _ _ obj nx).1 (s.aH _ _ obj nx).2 (arr.move s) a b
structure RS where
 k:Nat
 bad:Bool
 dep:Nat
 dp:Nat
structure RI where
 r:Nat
 g:Nat
 b:Nat
 W:List Wo
 l1:AV
 l2:AV
 l3:AV
 l4:AV
abbrev RI.ws(I:RI)(s:RS):List Wo:=I.W.drop s.k
abbrev RI.X(I:RI):List Nat:=[I.r,I.g]
structure RP(I:RI)(s:RS)(h:ah):Prop where
 obj:h.get I.r=some (.C [.S I.b I.W.length,.I s.k,.bool s.bad,.P I.g,.I s.dep])
 prog:∃nd:Int,h.get I.g=some (.C [I.l1,I.l2,I.l3,I.l4,.I nd,.I s.dp])
 arr:h.get I.b=some (.D 5 (eG I.W))
 rg:I.r≠I.g
 rb:I.r≠I.b
 gb:I.g≠I.b
 rl:I.r<h.nx
 gl:I.g<h.nx
 bl:I.b<h.nx
 fr:bP h
 kl:s.k<=I.W.length
 dd:s.dep<=s.dp
 d2:s.dp<=3000
 AE:Ma I.W
structure XO(I:RI)(X:List Nat)(h:ah):Prop where
 r:I.r∈X
 g:I.g∈X
 lt:∀x,x∈X->x<h.nx
structure jA(s s':RS):Prop where
 k:s.k<=s'.k
 dp:s.dp<=s'.dp
 bad:s'.bad=false->s.bad=false
 lo:s.dep<=s'.dep
 wM:s'.dep+4*s.k<=s.dep+4*s'.k
 dep:s'.bad=false->s'.dep=s.dep
theorem jA.of{s s':RS}(b:s.k<=s'.k)(a:s'.dep=s.dep)(e:s.dp<=s'.dp)(f:s'.bad=false->s.bad=false):jA s s':=⟨b,e,f,Nat.le_of_eq a.symm,om,λ_=>a⟩
theorem jA.refl(s:RS):jA s s:= .of (ao _) rfl (ao _) id
theorem jA.trans{a b c:RS}(h:jA a b)(h':jA b c):jA a c:=⟨bh h.k h'.k,bh h.dp h'.dp,λx=>h.bad (h'.bad x),bh h.lo h'.lo,by have:=h.wM;have:=h'.wM;omega,λx=>(h'.dep x).trans (h.dep (h'.bad x))⟩
section
variable{I:RI}{s s':RS}{h h':ah}{X:cB}
theorem RP.aH(p:RP I s h)(kk:aJ h h'):RP I s h':=by
 obtain⟨nd,a⟩:=p.prog;exact⟨(kk.old _ p.rl).trans p.obj,⟨nd,(kk.old _ p.gl).trans a⟩,(kk.old _ p.bl).trans p.arr,p.rg,p.rb,p.gb,aq p.rl kk.nx,aq p.gl kk.nx,aq p.bl kk.nx,kk.fresh p.fr,p.kl,p.dd,p.d2,p.AE⟩
theorem RP.yX(p:RP I s h)(kx:aR I.X h h')
 (o:h'.get I.r=some (.C [.S I.b I.W.length,.I s'.k,.bool s'.bad,.P I.g,.I s'.dep]))
 (g:∃nd:Int,h'.get I.g=some (.C [I.l1,I.l2,I.l3,I.l4,.I nd,.I s'.dp])) (a:s'.k<=I.W.length) (e:s'.dep<=s'.dp) (f:s'.dp<=3000):RP I s' h':=
 ⟨o,g,(kx.old _ p.bl (by simp[RI.X];exact⟨p.rb.symm,p.gb.symm⟩)).trans p.arr,p.rg,p.rb,p.gb,aq p.rl kx.nx,aq p.gl kx.nx,aq p.bl kx.nx,kx.fresh p.fr,a,e,f,p.AE⟩
theorem RP.off(p:RP I s h){Z:cB}(kx:aR Z h h')(a:I.r∉Z)(e:I.g∉Z)(f:I.b∉Z):RP I s h':=by
 obtain⟨nd,i⟩:=p.prog;exact⟨(kx.old _ p.rl a).trans p.obj,⟨nd,(kx.old _ p.gl e).trans i⟩,(kx.old _ p.bl f).trans p.arr,p.rg,p.rb,p.gb,aq p.rl kx.nx,aq p.gl kx.nx,aq p.bl kx.nx,kx.fresh p.fr,p.kl,p.dd,p.d2,p.AE⟩
theorem RP.put(p:RP I s h){i:Nat}(o:dK)(a:i≠I.r)(e:i≠I.g)(f:i≠I.b)(hi:i<h.nx):RP I s (h.set i o):=
 p.off (Z:=[i]) (aR.set _ (aR.refl _ _) (.inl sp) hi) (by simp;exact a.symm) (by simp;exact e.symm) (by simp;exact f.symm)
theorem XO.le(x:XO I X h)(a:h.nx<=h'.nx):XO I X h':=⟨x.r,x.g,λy b=>aq (x.lt y b) a⟩
theorem XO.nx(x:XO I X h){i:Nat}(hi:h.nx<=i):i∉X:=λa=>by have:=x.lt i a;omega
theorem Move.rx(f:bP h)(x:XO I X h)(k:aR I.X h h'):Move X X h h':=
 Move.of f k (λz b _=>by
  simp[RI.X]at b;rcases b with a|a
  ·rw[a];exact x.r
  ·rw[a];exact x.g) λ_ e=> .inl e
structure ND where
 op:List UInt8
 nm:List UInt8
 ty:List UInt8
 n:Int
 av:AV
 qs:List (Nat×RN)
def ND.obj(d:ND):dK:= .C [.str d.op,.str d.nm,.str d.ty,.I d.n,d.av,.str [],.I 0]
structure NM(I:RI)(X:List Nat)(h:ah)(iT:Nat)(ok:Prop)(d:ND)(H:ah):Prop where
 get:H.get iT=some d.obj
 lo:h.nx<=iT
 lt:iT<H.nx
 kx:aR I.X h H
 xo:XO I X h
 arr:cQ (iT::X) H d.av d.qs
 sub:ok->∀q,q∈d.qs->eK (aT d.av++iT::X) H q.1 q.2
 z:∀z,z∈aT d.av->h.nx<=z/\z≠iT/\z<H.nx
end
section
variable{I:RI}{s s':RS}{h H H':ah}{X:cB}{iT:Nat}{ok rJ:Prop}{d:ND}
theorem NM.oz(m:NM I X h iT ok d H):XO I (aT d.av++iT::X) H:=⟨bw _ (au _ m.xo.r),bw _ (au _ m.xo.g),λy a=>by
 rcases aP.1 a with a|a
 ·exact(m.z y a).2.2
 ·rcases ak.1 a with rfl|a
  ·exact m.lt
  ·exact(m.xo.le m.kx.nx).lt y a⟩
theorem NM.nr(m:NM I X h iT ok d H):iT≠I.r/\iT≠I.g:=by
 have:=m.xo.lt _ m.xo.r;have:=m.xo.lt _ m.xo.g;have:=m.lo;omega
theorem NM.call(m:NM I X h iT ok d H)(fr:bP H)(kx:aR I.X H H'):NM I X h iT ok d H':=by
 have mv:Move (aT d.av++iT::X) (aT d.av++iT::X) H H':=Move.rx fr m.oz kx;have a:Move (iT::X) (iT::X) H H':=Move.rx fr ⟨au _ m.xo.r,au _ m.xo.g,λy e=>m.oz.lt y (bw _ e)⟩ kx;have nx:=kx.nx;have nr:=m.nr;exact⟨(kx.old iT m.lt (by simp[RI.X,nr.1,nr.2])).trans m.get,m.lo,aq m.lt nx,m.kx.trans kx,m.xo,m.arr.move a,λo q f=>(m.sub o q f).move mv,λz b=>⟨(m.z z b).1,(m.z z b).2.1,aq (m.z z b).2.2 nx⟩⟩
theorem NM.aH(m:NM I X h iT ok d H)(fr:bP H)(kk:aJ H H'):NM I X h iT ok d H':=m.call fr (kk.x _)
theorem NM.mg(m:NM I X h iT ok d H)(hw:rJ->ok):NM I X h iT rJ d H:=⟨m.get,m.lo,m.lt,m.kx,m.xo,m.arr,λo=>m.sub (hw o),m.z⟩
theorem NM.put(m:NM I X h iT ok d H)(p:RP I s H)(bl:I.b<h.nx)(d':ND)(a:d'.av=d.av)(g:d'.qs=d.qs):∃H',H.set iT d'.obj=H'/\NM I X h iT ok d' H'/\RP I s H':=by
 have mv:∀o,Move (aT d.av++iT::X) (aT d.av++iT::X) H (H.set iT o):=λo=>Move.on o (bw _ (bc ..));have f:∀o,Move (iT::X) (iT::X) H (H.set iT o):=λo=>Move.on o (bc ..);have nr:=m.nr;have lo:=m.lo;exact⟨_,rfl,⟨by rw[ah.aM,aY rfl],m.lo,m.lt,aR.set _ m.kx (.inr m.lo) m.lt,m.xo,by rw[a,g];exact m.arr.move (f _),λo q e=>by rw[a];rw[g]at e;exact(m.sub o q e).move (mv _),by rw[a];exact m.z⟩,p.put _ nr.1 nr.2 om m.lt⟩
theorem NM.new{b:ah}(p:RP I s b)(kx:aR I.X h b)(xo:XO I X h)(d:ND)(a:d.av= .Z)(e:d.qs=[]):NM I X h b.nx ok d (b.alloc d.obj).2:=
 ⟨by rw[ah.cO,aY rfl],kx.nx,sp,aR.alloc _ kx,xo,.inl ⟨e,a⟩,by rw[e];simp,by rw[a];simp[aT]⟩
theorem NM.done(m:NM I X h iT ok d H)(o:ok)(t:RN)(b:d.op=t.op)(e:d.nm=t.nm)(f:d.ty=t.ty)(g:d.n=t.n)(i:d.qs.map Prod.snd=t.ks):eK X H iT t:=by
 refine .mk (av:=d.av) (qs:=d.qs) (by rw[m.get];simp[ND.obj,RN.cA,b,e,f,g]) (m.xo.nx m.lo) (m.arr.move (Move.less λy a=>au _ a)) i λq j=>(m.sub o q j).move (Move.less λy a=>bw _ (au _ a))
theorem NM.list(m:NM I X h iT ok d H)(p:RP I s H)(bl:I.b<h.nx)(i:d.av= .Z){j:Nat}(t:h.nx<=j)(e:j<H.nx)(a:iT≠j)(qs:List (Nat×RN))(g:H.get j=some (.D 1 (qs.map λp=> .P p.1)))(sub:ok->∀q,q∈qs->eK (j::iT::X) H q.1 q.2)(nx:j∉iT::X):
 ∃H',H.set iT ((⟨d.op,d.nm,d.ty,d.n,.S j qs.length,qs⟩:ND).obj)=H'/\NM I X h iT ok ⟨d.op,d.nm,d.ty,d.n,.S j qs.length,qs⟩ H'/\RP I s H':=by
 have nr:=m.nr;have lo:=m.lo;refine⟨_,rfl,⟨by rw[ah.aM,aY rfl],m.lo,m.lt,aR.set _ m.kx (.inr m.lo) m.lt,m.xo,.inr ⟨j,rfl,nx,by rw[ah.aM,ay (iV a)];exact g⟩,λo q u=>(sub o q u).move (Move.on _ sp),?_⟩,p.put _ nr.1 nr.2 om m.lt⟩;intro z f;simp[aT]at f;subst f;exact⟨t,a.symm,e⟩
end
theorem G.Hz{b l l':Nat}{ws bH:dh}{e e':Ex}(h:G (.steps l e) b ws bH (.e e'))(i:l'<=l):G (.steps l' e) b ws bH (.e e'):=by
 have key:∀t b ws bH r,G t b ws bH r->∀e e',t= .steps l e->r= .e e'->G (.steps l' e) b ws bH (.e e'):=by
  intro t b ws bH r h;induction h with
  |stop=>intro e e' a f;cases a;cases f;exact .stop
  |step ho g hr m _ j=>intro e e' a f;cases a;cases f;exact .step ho (bh i g) hr (j _ _ rfl rfl)
  |_=>intro e e' a f;cases a
 exact key _ _ _ _ _ h _ _ rfl rfl
theorem G.Gf{b l:Nat}{ws bQ dR:dh}{e e1 e2:Ex}(h:G (.steps l e) b ws bQ (.e e1))(h':G (.steps l e1) b bQ dR (.e e2)):G (.steps l e) b ws dR (.e e2):=by
 have key:∀t b ws bH r,G t b ws bH r->∀e e',t= .steps l e->r= .e e'->∀dR e2,G (.steps l e') b bH dR (.e e2)->G (.steps l e) b ws dR (.e e2):=by
  intro t b ws bH r h;induction h with
  |stop=>intro e e' a f dR e2 g;cases a;cases f;exact g
  |step ho i hr m _ j=>intro e e' a f dR e2 g;cases a;cases f;exact .step ho i hr (j _ _ rfl rfl _ _ g)
  |_=>intro e e' a f;cases a
 exact key _ _ _ _ _ h _ _ rfl rfl _ _ h'
end
section
def od(I:RI)(s:RS)(t:List UInt8):Bool:=!s.bad&&bF (I.W.drop s.k) t
theorem eL{I:RI}{s:RS}{t:bu}(h:od I s t=true):s.bad=false/\∃w rs,I.W.drop s.k=w::rs/\eX w t/\I.W.drop (s.k+1)=rs:=by
 simp only[od,cf,Bool.not_eq_true']at h;obtain⟨w,rs,e,a⟩:=oe.1 h.2;exact⟨h.1,w,rs,e,a,lI e⟩
theorem gQ{I:RI}{s:RS}{t:bu}(h:od I s t=false)(a:s.bad=false):bF (I.W.drop s.k) t=false:=by
 simpa[od,a]using h
theorem fJ{W:dh}{k:Nat}{w:Wo}{rs:dh}(h:W.drop k=w::rs):k<W.length:=by
 rcases dJ k W.length with a|a
 ·exact a
 ·rw[iM a]at h;cases h
theorem AT{W:dh}{k:Nat}(h:W.drop k=[]):W.length<=k:=by
 have:=nt List.length h;rw[bK,aW]at this;omega
structure Td(W:List Wo)(k:Nat)(w:Wo):Prop where
 c0:(eG W)[k*5]?=some (.I w.kind)
 c1:(eG W)[k*5+1]?=some (.str w.text)
 c2:(eG W)[k*5+2]?=some (.I w.n)
 d0:((eG W).drop (k*5)).take 5=w.cells
 d3:((eG W).drop (k*5+3)).take 2=[.I w.l,.I w.c]
 l5:k*5+5<=(eG W).length
 l3:k*5+3+2<=(eG W).length
theorem vX{W:dh}{k:Nat}{w:Wo}{ws:dh}(h:W.drop k=w::ws):Td W k w:=by
 obtain⟨c0,c1,c2,d0,d3,l5,l3⟩:=xt h;rw[Nat.mul_comm 5 k]at c0 c1 c2 d0 d3 l5 l3;exact⟨c0,c1,c2,d0,d3,l5,l3⟩
section
variable{I:RI}{s:RS}{h h0:ah}{X:cB}{Q:Out->ah->Prop}
theorem yE{t:bu}(p:RP I s h)(j:∀h',RP I s h'->aJ h h'->Q (.ret (.bool (od I s t))) h'):
 ba env 31 [.P I.r,.str t] h Q:=by
 refine wb fn31 rfl ?_;have a:∀h',aJ h h'->∀b,od I s t=b->Q (.ret (.bool b)) h':=λh' k b e=>e▸j h' (p.aH k) k;obtain⟨o,⟨nd,u⟩,ar,rg,rb,gb,rl,gl,bl,fr,kl,dd,d2,ok⟩:=p;simp[f31];refine Dd ?_;cases g:s.bad with
 |true=>
  simp[o,g]
  repeat refine di ?_
  exact a _ kT _ (by simp[od,g])
 |false=>
  cases hw:I.W.drop s.k with
  |nil=>
   have i:=AT hw;have m:¬s.k<I.W.length:=om;simp[o,g,m]
   repeat refine di ?_
   exact a _ kT _ (by simp[od,g,hw,bF])
  |cons w rs=>
   have i:=fJ hw;obtain⟨c0,c1,c2,d0,d3,l5,l3⟩:=vX hw;cases ht:(w.text==t)with
   |false=>
    simp[o,g,i,ar,c1,ht]
    repeat refine di ?_
    exact a _ kT _ (by simp[od,g,hw,bF,ht])
   |true=>
    simp[o,g,i,ar,c0,c1,ht]
    repeat refine di ?_
    exact a _ kT _ (by simp[od,g,hw,bF,ht])
theorem gO{t:bu}(p:RP I s h)(a:od I s t=true->∀h',RP I {s with k:=s.k+1} h'->aR I.X h h'->Q (.ret (.bool true)) h')(e:od I s t=false->∀h',RP I s h'->aJ h h'->Q (.ret (.bool false)) h'):
 ba env 27 [.P I.r,.str t] h Q:=by
 refine wb fn27 rfl ?_;simp[f27];refine yE p λu i k2=>?_;cases j:od I s t with
 |false=>
  simp;exact e j _ i k2
 |true=>
  obtain⟨A,w,rs,hw,B,C⟩:=eL j;have D:=fJ hw;have m:=i;obtain⟨o,⟨nd,v⟩,ar,rg,rb,gb,rl,gl,bl,fr,kl,dd,d2,ok⟩:=i;have wl:=ok.len;have y:=U8 s.k
  simp[o,y];have kx:aR I.X u (u.set I.r (.C [.S I.b I.W.length,.I ((s.k:Int)+1),.bool s.bad,.P I.g,.I s.dep])):=aR.set _ (aR.refl _ _) (.inl (by simp[RI.X])) rl;refine a j _ (m.yX kx sp ⟨nd,by rw[ah.aM,ay rg.symm];exact v⟩ IN dd d2) ((k2.x _).trans kx)
theorem gd{t:bu}(p:RP I s h)(j:∀s' h',RP I s' h'->jA s s'->s'.k<=s.k+1->s'.dp=s.dp->(s'.bad=false->∃w rs,I.W.drop s.k=w::rs/\eX w t/\I.W.drop s'.k=rs/\s'.k=s.k+1)->aR I.X h h'->Q (.ret (.iO [])) h'):
 ba env 30 [.P I.r,.str t] h Q:=by
 refine wb fn30 rfl ?_;simp[f30];refine gO p (λm e a k2=>?_) λm e a k2=>?_
 ·obtain⟨A,w,rs,hw,u,v⟩:=eL m;simp;exact j _ _ a (jA.of (cp _) rfl (ao _) id) (ao _) rfl (λ_=>⟨w,rs,hw,u,v,rfl⟩) k2
 ·have i:=a;obtain⟨o,⟨nd,y⟩,ar,rg,rb,gb,rl,gl,bl,fr,kl,dd,d2,ok⟩:=a;simp[o];have kx:aR I.X e (e.set I.r (.C [.S I.b I.W.length,.I s.k,.bool true,.P I.g,.I s.dep])):=aR.set _ (aR.refl _ _) (.inl (by simp[RI.X])) rl;exact j {s with bad:=true} _ (i.yX kx sp ⟨nd,by rw[ah.aM,ay rg.symm];exact y⟩ kl dd d2) (jA.of (ao _) rfl (ao _) sp) (cp _) rfl sp ((k2.x _).trans kx)
theorem vW(p:RP I s h)(v:∀t s' h',RP I s' h'->jA s s'->s'.k<=s.k+1->s'.dp=s.dp->t.length<=65536->(s'.bad=false->∃w rs,I.W.drop s.k=w::rs/\w.kind=1/\t=w.text/\I.W.drop s'.k=rs/\s'.k=s.k+1)->aR I.X h h'->Q (.ret (.str t)) h'):
 ba env 28 [.P I.r] h Q:=by
 refine wb fn28 rfl ?_;have y:=p;obtain⟨o,⟨nd,A⟩,ar,rg,rb,gb,rl,gl,bl,fr,kl,dd,d2,ok⟩:=p;have wl:=ok.len;simp[f28];refine Dd ?_;have fail:∀a,aJ h a->∀j,j=a.set I.r (.C [.S I.b I.W.length,.I s.k,.bool true,.P I.g,.I s.dep])->Q (.ret (.str [])) j:=by
  rintro a k2 j rfl
  have kx:aR I.X a (a.set I.r (.C [.S I.b I.W.length,.I s.k,.bool true,.P I.g,.I s.dep])):=aR.set _ (aR.refl _ _) (.inl (by simp[RI.X])) (aq rl k2.nx);exact v [] {s with bad:=true} _ ((y.aH k2).yX kx sp ⟨nd,by rw[ah.aM,ay rg.symm];exact(k2.old _ gl).trans A⟩ kl dd d2) (jA.of (ao _) rfl (ao _) sp) (cp _) rfl sp sp ((k2.x _).trans kx)
 cases e:s.bad with
 |true=>
  simp[o,e]
  repeat refine di ?_
  exact fail _ kT _ rfl
 |false=>
  cases hw:I.W.drop s.k with
  |nil=>
   have m:=AT hw;have i:(I.W.length:Int)<=(s.k:Int):=om;have a:¬(s.k:Int)<(I.W.length:Int):=om;simp[o,e,i]
   repeat refine di ?_
   exact fail _ kT _ rfl
  |cons w rs=>
   have m:=fJ hw;obtain⟨c0,c1,c2,d0,d3,l5,l3⟩:=vX hw;have i:¬(I.W.length:Int)<=(s.k:Int):=om;have a:¬I.W.length<=s.k:=om;cases ht:(w.kind !=1)with
   |true=>
    simp[o,e,m,ar,c0,ht,i]
    repeat refine di ?_
    exact fail _ kT _ rfl
   |false=>
    have B:w.kind=1:=(U7 ht);have C:=U8 s.k;have J:IntKind.wrap .i64 ((s.k:Int)+1-1)=((s.k:Nat):Int):=wq;have D:IntKind.wrap .i64 (s.k:Int)=(s.k:Int):=wq;have u:(s.k:Int)<(I.W.length:Int):=om;simp[o,e,m,ar,c0,ht,i];refine Dd ?_;simp[u,ar,c1,C,D,rb.symm];have kx:aR I.X (h.bump 30) ((h.bump 30).set I.r (.C [.S I.b I.W.length,.I ((s.k:Int)+1),.bool false,.P I.g,.I s.dep])):=aR.set _ (aR.refl _ _) (.inl (by simp[RI.X])) IN;have k0:aJ h (h.bump 30):=kT;have F:=(y.aH k0).yX (s':={s with k:=s.k+1}) kx (by simp[e]) ⟨nd,by rw[ah.aM,ay rg.symm];exact A⟩ IN dd d2;have k3:aJ ((h.bump 30).set I.r (.C [.S I.b I.W.length,.I ((s.k:Int)+1),.bool false,.P I.g,.I s.dep])) (((h.bump 30).set I.r (.C [.S I.b I.W.length,.I ((s.k:Int)+1),.bool false,.P I.g,.I s.dep])).bump 13):=kT;have hm:w∈I.W:=vg (hw▸bc ..);exact v _ _ _ (F.aH k3) (jA.of (cp _) rfl (ao _) id) (ao _) rfl (ok.text w hm) (λ_=>⟨w,rs,hw,B,rfl,lI hw,rfl⟩) ((k0.x _).trans (kx.trans (k3.x _)))
theorem Gg(p:RP I s h)(v:∀t s' h',RP I s' h'->jA s s'->s'.k<=s.k+1->s'.dp=s.dp->(0<=t/\t<9223372036854775808)->(s'.bad=false->∃w rs,I.W.drop s.k=w::rs/\w.kind=2/\t=w.n/\I.W.drop s'.k=rs/\s'.k=s.k+1)->aR I.X h h'->Q (.ret (.I t)) h'):
 ba env 43 [.P I.r] h Q:=by
 refine wb fn43 rfl ?_;have y:=p;obtain⟨o,⟨nd,A⟩,ar,rg,rb,gb,rl,gl,bl,fr,kl,dd,d2,ok⟩:=p;have wl:=ok.len;simp[f43];refine Dd ?_;have fail:∀a,aJ h a->∀j,j=a.set I.r (.C [.S I.b I.W.length,.I s.k,.bool true,.P I.g,.I s.dep])->Q (.ret (.I 0)) j:=by
  rintro a k2 j rfl
  have kx:aR I.X a (a.set I.r (.C [.S I.b I.W.length,.I s.k,.bool true,.P I.g,.I s.dep])):=aR.set _ (aR.refl _ _) (.inl (by simp[RI.X])) (aq rl k2.nx);exact v 0 {s with bad:=true} _ ((y.aH k2).yX kx sp ⟨nd,by rw[ah.aM,ay rg.symm];exact(k2.old _ gl).trans A⟩ kl dd d2) (jA.of (ao _) rfl (ao _) sp) (cp _) rfl sp sp ((k2.x _).trans kx)
 cases e:s.bad with
 |true=>
  simp[o,e]
  repeat refine di ?_
  exact fail _ kT _ rfl
 |false=>
  cases hw:I.W.drop s.k with
  |nil=>
   have m:=AT hw;have i:(I.W.length:Int)<=(s.k:Int):=om;have a:¬(s.k:Int)<(I.W.length:Int):=om;simp[o,e,i]
   repeat refine di ?_
   exact fail _ kT _ rfl
  |cons w rs=>
   have m:=fJ hw;obtain⟨c0,c2,c2,d0,d3,l5,l3⟩:=vX hw;have i:¬(I.W.length:Int)<=(s.k:Int):=om;have a:¬I.W.length<=s.k:=om;cases ht:(w.kind !=2)with
   |true=>
    simp[o,e,m,ar,c0,ht,i]
    repeat refine di ?_
    exact fail _ kT _ rfl
   |false=>
    have B:w.kind=2:=(U7 ht);have C:=U8 s.k;have J:IntKind.wrap .i64 ((s.k:Int)+1-1)=((s.k:Nat):Int):=wq;have D:IntKind.wrap .i64 (s.k:Int)=(s.k:Int):=wq;have u:(s.k:Int)<(I.W.length:Int):=om;simp[o,e,m,ar,c0,ht,i];refine Dd ?_;simp[u,ar,c2,C,D,rb.symm];have kx:aR I.X (h.bump 30) ((h.bump 30).set I.r (.C [.S I.b I.W.length,.I ((s.k:Int)+1),.bool false,.P I.g,.I s.dep])):=aR.set _ (aR.refl _ _) (.inl (by simp[RI.X])) IN;have k0:aJ h (h.bump 30):=kT;have F:=(y.aH k0).yX (s':={s with k:=s.k+1}) kx (by simp[e]) ⟨nd,by rw[ah.aM,ay rg.symm];exact A⟩ IN dd d2;have k3:aJ ((h.bump 30).set I.r (.C [.S I.b I.W.length,.I ((s.k:Int)+1),.bool false,.P I.g,.I s.dep])) (((h.bump 30).set I.r (.C [.S I.b I.W.length,.I ((s.k:Int)+1),.bool false,.P I.g,.I s.dep])).bump 13):=kT;have hm:w∈I.W:=vg (hw▸bc ..);exact v _ _ _ (F.aH k3) (jA.of (cp _) rfl (ao _) id) (ao _) rfl (ok.num w hm) (λ_=>⟨w,rs,hw,B,rfl,lI hw,rfl⟩) ((k0.x _).trans (kx.trans (k3.x _)))
theorem xO(op:bu){ok:Prop}(p:RP I s h)(a:aR I.X h0 h)(xo:XO I X h0)(e:∀id h',RP I s h'->aR I.X h h'->NM I X h0 id ok ⟨op,[],[],0,.Z,[]⟩ h'->Q (.ret (.P id)) h'):
 ba env 58 [.P I.r,.str op] h Q:=by
 refine wb fn58 rfl ?_;have i:=p;obtain⟨o,⟨nd,j⟩,ar,rg,rb,gb,rl,gl,bl,fr,kl,dd,d2,ok⟩:=p;simp[f58,o,j];have kx:aR I.X h (h.set I.g (.C [I.l1,I.l2,I.l3,I.l4,.I (IntKind.wrap .i64 (nd+1)),.I s.dp])):=aR.set _ (aR.refl _ _) (.inl (by simp[RI.X])) gl;have b:=i.yX (s':=s) kx (by rw[ah.aM,ay rg];exact o) ⟨_,by rw[ah.aM,aY rfl]⟩ kl dd d2;have k3:aJ (h.set I.g (.C [I.l1,I.l2,I.l3,I.l4,.I (IntKind.wrap .i64 (nd+1)),.I s.dp])) _:=(aJ.refl _).alloc (ND.obj ⟨op,[],[],0,.Z,[]⟩);exact e _ _ (b.aH k3) (kx.trans (k3.x _)) (NM.new b (a.trans kx) xo _ rfl rfl)
theorem uJ(p:RP I s h)(A:s.dep<2000)(t:∀h',RP I ⟨s.k,s.bad,s.dep+1,max s.dp (s.dep+1)⟩ h'->aR I.X h h'->Q (.ret (.iO [])) h'):
 ba env 45 [.P I.r] h Q:=by
 refine wb fn45 rfl ?_;have v:=p;obtain⟨o,⟨nd,u⟩,ar,rg,rb,gb,rl,gl,bl,fr,kl,dd,d2,ok⟩:=p;have w:=U8 s.dep
 simp[f45,o,w];have kx:aR I.X h (h.set I.r (.C [.S I.b I.W.length,.I s.k,.bool s.bad,.P I.g,.I ((s.dep:Int)+1)])):=aR.set _ (aR.refl _ _) (.inl (by simp[RI.X])) rl;refine Dd ?_;have e:¬(2000:Int)<(s.dep:Int)+1:=om
 by_cases y:s.dp<s.dep+1
 ·have a:(s.dp:Int)<(s.dep:Int)+1:=by omega
  simp[u,rg.symm,a];refine Dd ?_;simp[u,rg,rg.symm,e];repeat refine di ?_
  have hm:max s.dp (s.dep+1)=s.dep+1:=by omega
  rw[hm]at t;have k3:aJ (h.set I.r (.C [.S I.b I.W.length,.I s.k,.bool s.bad,.P I.g,.I ((s.dep:Int)+1)])) (((h.set I.r (.C [.S I.b I.W.length,.I s.k,.bool s.bad,.P I.g,.I ((s.dep:Int)+1)])).bump 12).bump 11):=kT;have j:aR I.X h _:=kx.trans (k3.x _);have m:=aR.set (i:=I.g) (.C [I.l1,I.l2,I.l3,I.l4,.I nd,.I ((s.dep:Int)+1)]) j (.inl (by simp[RI.X])) (aq gl j.nx);exact t _ (v.yX (s':=⟨s.k,s.bad,s.dep+1,s.dep+1⟩) m (by rw[ah.aM,ay rg];simp) ⟨nd,by rw[ah.aM,aY rfl];simp⟩ kl (ao _) IN) m
 ·have a:¬(s.dp:Int)<(s.dep:Int)+1:=by omega
  simp[u,rg.symm,a,e];have k3:aJ (h.set I.r (.C [.S I.b I.W.length,.I s.k,.bool s.bad,.P I.g,.I ((s.dep:Int)+1)])) ((h.set I.r (.C [.S I.b I.W.length,.I s.k,.bool s.bad,.P I.g,.I ((s.dep:Int)+1)])).bump 12):=kT;have hm:max s.dp (s.dep+1)=s.dp:=by omega
  rw[hm]at t;exact t _ ((v.yX (s':=⟨s.k,s.bad,s.dep+1,s.dp⟩) kx sp ⟨nd,by rw[ah.aM,ay rg.symm];exact u⟩ kl IN d2).aH k3) (kx.trans (k3.x _))
theorem Cs(p:RP I s h){d:Nat}(e:s.dep=d+1)(i:∀h',RP I ⟨s.k,s.bad,d,s.dp⟩ h'->aR I.X h h'->Q (.ret (.iO [])) h'):
 ba env 47 [.P I.r] h Q:=by
 refine wb fn47 rfl ?_;have j:=p;obtain⟨o,⟨nd,m⟩,ar,rg,rb,gb,rl,gl,bl,fr,kl,dd,d2,ok⟩:=p;have a:IntKind.wrap .i64 ((s.dep:Int)-1)=(d:Int):=wq
 rw[e]at a;simp at a;simp[f47,o,e,a];have kx:aR I.X h (h.set I.r (.C [.S I.b I.W.length,.I s.k,.bool s.bad,.P I.g,.I d])):=aR.set _ (aR.refl _ _) (.inl (by simp[RI.X])) rl;exact i _ (j.yX kx sp ⟨nd,by rw[ah.aM,ay rg.symm];exact m⟩ kl IN d2) kx
end
end
section
theorem zI{ws:dh}{l:List (bu)}{i:Nat}(hi:i<l.length):anyS ws (l.take (i+1))=(anyS ws (l.take i)||bF ws l[i]):=by
 rw[cy,aj hi];simp[anyS,-List.take_append_getElem]
section
variable{I:RI}{s:RS}{h h0:ah}{X:cB}{Q:Out->ah->Prop}
theorem RP.at(p:RP I s h)(k:Nat)(a:k<=I.W.length):RP I {s with k:=k} (h.set I.r (.C [.S I.b I.W.length,.I k,.bool s.bad,.P I.g,.I s.dep]))/\aR I.X h (h.set I.r (.C [.S I.b I.W.length,.I k,.bool s.bad,.P I.g,.I s.dep])):=by
 have kx:aR I.X h (h.set I.r (.C [.S I.b I.W.length,.I k,.bool s.bad,.P I.g,.I s.dep])):=aR.set _ (aR.refl _ _) (.inl (by simp[RI.X])) p.rl;obtain⟨nd,e⟩:=p.prog;exact⟨p.yX kx sp ⟨nd,by rw[ah.aM,ay p.rg.symm];exact e⟩ a p.dd p.d2,kx⟩
theorem Eo(a:Nat)(D:s.k+a<=I.W.length)(p:RP I s h)(F:∀h',RP I s h'->aR I.X h h'->Q (.ret (.bool (!s.bad&&dF (I.W.drop (s.k+a))))) h'):
 ba env 42 [.P I.r,.I a] h Q:=by
 refine wb fn42 rfl ?_;have wl:=p.AE.len;have o:=p.obj;have rl:=p.rl;have rn:I.r≠h.nx:=om
 have J:IntKind.wrap .i64 ((s.k:Int)+(a:Int))=((s.k+a:Nat):Int):=wq
 have K:IntKind.wrap .i64 (((s.k+a:Nat):Int)-(a:Int))=(s.k:Int):=wq
 generalize N:s.k+a=j at*;simp[f42,o,J,rn];have k0:aJ h _:=(aJ.refl h).alloc (.D 1 [.str [99,104,97,114],.str [105,110,116],.str [108,111,110,103],.str [118,111,105,100],.str [115,116,114,117,99,116]]);obtain⟨t,k1⟩:=(p.aH k0).at j D;have v:=(k0.x I.X).trans k1;have g1:(((h.alloc (.D 1 [.str [99,104,97,114],.str [105,110,116],.str [108,111,110,103],.str [118,111,105,100],.str [115,116,114,117,99,116]])).2).set I.r (.C [.S I.b I.W.length,.I j,.bool s.bad,.P I.g,.I s.dep])).get h.nx=some (.D 1 (wJ.map AV.str)):=by
  rw[ah.aM,ay (iV rn),ah.cO,aY rfl];rfl
 have u:h.nx<(((h.alloc (.D 1 [.str [99,104,97,114],.str [105,110,116],.str [108,111,110,103],.str [118,111,105,100],.str [115,116,114,117,99,116]])).2).set I.r (.C [.S I.b I.W.length,.I j,.bool s.bad,.P I.g,.I s.dep])).nx:=sp
 generalize ((h.alloc (.D 1 [.str [99,104,97,114],.str [105,110,116],.str [108,111,110,103],.str [118,111,105,100],.str [115,116,114,117,99,116]])).2).set I.r (.C [.S I.b I.W.length,.I j,.bool s.bad,.P I.g,.I s.dep])=O at*;refine bz (λm x=>∃i,i<=wJ.length/\m=wJ.length-i/\x.n=43/\x.ds=[]/\x.bX=false/\RP I {s with k:=j} x.h/\aR I.X h x.h/\h.nx<x.h.nx/\x.h.get h.nx=some (.D 1 (wJ.map AV.str))/\
  x.rg.get 0=some (.P I.r)/\x.rg.get 1=some (.I a)/\x.rg.get 5=some (.S h.nx wJ.length)/\x.rg.get 6=some (.bool (!s.bad&&anyS (I.W.drop j) (wJ.take i)))/\x.rg.get 7=some (.I i)) wJ.length ?_ ?_
 ·exact⟨0,om,rfl,rfl,rfl,rfl,t,v,u,g1,sp,sp,by simp[wJ],by simp[anyS],sp⟩
 clear t k1 v g1 u O k0
 rintro m ⟨rg,U,H,ds,bX⟩ ⟨i,hi,rfl,e1,e2,e3,t,k1,u,g1,r0,y,r5,r6,r7⟩
 dsimp only at e1 e2 e3 t k1 u g1 r0 y r5 r6 r7;subst e1 e2 e3;by_cases e:i<wJ.length
 ·have V:(wJ.map AV.str)[i]?=some (.str wJ[i]):=by rw[bt,aj e];rfl
  have P:wJ.length<=5:=by decide
  have C:IntKind.wrap .i64 ((i:Int)+1)=((i+1:Nat):Int):=by rw[wr om om];simp
  have w:=zI (ws:=I.W.drop j) e;cases ho:(!s.bad&&anyS (I.W.drop j) (wJ.take i))with
  |true=>
   rw[ho]at r6;simp[r0,y,r5,r6,r7,e];simp only[cf,Bool.not_eq_true']at ho;exact⟨_,om,i+1,e,rfl,t,k1,u,g1,⟨ho.1,by rw[w,ho.2];rfl⟩,C⟩
  |false=>
   rw[ho]at r6;simp[r0,r5,r6,r7,e,g1];refine yE t λZ A k2=>?_;have n2:=k2.nx;simp[r0,y,r5,r7,C];refine⟨_,om,i+1,e,rfl,A,k1.trans (k2.x _),om,(k2.old _ u).trans g1,?_,om⟩;rw[w];simp only[od];cases R:s.bad<;>simp[R]at ho⊢;simp[ho]
 ·have B:i=wJ.length:=by omega
  subst B;have S:=t.obj;rw[cF]at r6;simp[r0,y,r5,r6,r7,S,K];obtain⟨A,k2⟩:=t.at s.k p.kl;exact F _ A (k1.trans k2)
end
end
section
theorem J5{t:TypeId}{n:Nat}(h:n<9223372036854775808):cm (Go.binOp .quo t (.int .i64 n) (.int .i64 10))=some (.I ((n/10:Nat):Int)):=by
 have e:Int.tdiv (n:Int) 10=((n/10:Nat):Int):=by rw[ez om];omega
 have w:IntKind.wrap .i64 ((n/10:Nat):Int)=((n/10:Nat):Int):=wr om om;generalize n/10=q at*;simp[Go.binOp,Op.intDiv,cm,iF,pure,e,w]
theorem J6{t:TypeId}{n:Nat}(h:n<9223372036854775808):cm (Go.binOp .rem t (.int .i64 n) (.int .i64 10))=some (.I ((n%10:Nat):Int)):=by
 have e:Int.tmod (n:Int) 10=((n%10:Nat):Int):=by rw[Int.tmod_eq_emod_of_nonneg om];omega
 generalize n%10=q at*;simp[Go.binOp,Op.intDiv,cm,iF,pure,e]
theorem IW{d:Nat}(h:d<10):([48,49,50,51,52,53,54,55,56,57].take (d+1)).drop d=[UInt8.ofNat (48+d)]:=by
 rcases d with _|_|_|_|_|_|_|_|_|_|d<;>first|rfl|omega
theorem Mj:∀(f n:Nat)(h:ah)(Q:Out->ah->Prop),n<10^(f+1)->n<9223372036854775808->f<=19->(∀h',aJ h h'->Q (.ret (.str (oJ (f+1) n))) h')->ba env 44 [.I n] h Q
 |f,n,h,Q,w,y,P,A=>by
  refine wb fn44 rfl ?_;have a1:¬(n:Int)< -9:=by omega
  have a2:¬(n:Int)<0:=by omega
  by_cases a3:9<n
  ·have g:(9:Int)<(n:Int):=om;cases f with
   |zero=>simp at w;omega
   |succ f=>
   have D:n/10<10^(f+1):=(by rw[Nat.pow_succ]at w;omega);simp[f44,a1,a2,g];refine eF [0,1,3,4,5,6,7,8,2,9,10] kr (by simp[cz,dG];rfl) kr ?_;have F:=@J6 2 n y;have J:=@J5 2 n y;have m:Nat.blt n 10=false:=(by rw[<-Bool.not_eq_true,uL];omega);have i:=A;simp only[oJ,m,xW]at i;have o:n/10<9223372036854775808:=om;have B:n%10<10:=om;generalize n%10=j at*;generalize n/10=p at*;obtain⟨a,e⟩:∃x,x=j+1:=⟨_,rfl⟩
   have t:IntKind.wrap .i64 ((j:Int)+1)=(a:Int):=wq;have C:(a:Int)<=10:=om;have K:a<=10:=om;have N:j<=a:=om;have u:(j:Int)<=(a:Int):=om;have fa:=IW (d:=j) om
   obtain⟨dg,b⟩:∃x,x=UInt8.ofNat (48+j):=⟨_,rfl⟩
   rw[<-e,<-b]at fa;rw[<-b]at i;simp[F,J,t,C,u,fa];refine Mj f p _ _ D o om λR k3=>?_;have S:=vS (f+1) p;have v:(oJ (f+1) p).length+1<=4611686018427387904:=om;simp[v];clear e b;refine dm ?_;exact i _ ((show aJ h (h.bump 11)from kT).trans k3)
  ·have g:¬(9:Int)<(n:Int):=om;obtain⟨a,e⟩:∃x,x=n+1:=⟨_,rfl⟩
   have t:IntKind.wrap .i64 ((n:Int)+1)=(a:Int):=wq;have O:(a:Int)<=10:=om;have C:a<=10:=om;have N:n<=a:=om;have u:(n:Int)<=(a:Int):=om;have fa:=IW (d:=n) om
   obtain⟨dg,b⟩:∃x,x=UInt8.ofNat (48+n):=⟨_,rfl⟩
   rw[<-e,<-b]at fa;have m:Nat.blt n 10=true:=(by rw[uL];omega);simp[f44,a1,a2,g,t,O,u,fa];have:=A h (aJ.refl _);simp only[oJ,m,cond_true]at this;rw[<-b]at this;exact this
 termination_by f=>f
section
variable{I:RI}{s:RS}{h h0:ah}{X:cB}{Q:Out->ah->Prop}
theorem AS(t:bu)(ht:t.length<=1000000)(p:RP I s h)(y:∀t' s' h',RP I s' h'->jA s s'->s'.dp=s.dp->t'.length<=t.length+100->(s'.bad=false->Eb (I.W.drop s.k) (I.W.drop s'.k) t t')->aR I.X h h'->Q (.ret (.str t')) h'):
 ba env 29 [.P I.r,.str t] h Q:=by
 refine wb fn29 rfl ?_;simp[f29];refine gO p (λb J e k2=>?_) λb J e k2=>?_
 ·obtain⟨A,o,rs,hw,ho,K⟩:=eL b;simp;refine Gg e λn N h3 p3 a3 O d3 P f3 k3=>?_;simp;refine gd p3 λR S p4 a4 U d4 f4 V=>?_;have g:t.length<=4611686018427387903:=by omega
  simp[g];obtain⟨m,rfl⟩:∃m:Nat,n=m:=⟨n.toNat,om⟩
  refine Mj 19 m S _ om om om λZ B=>?_;have hl:=vS 20 m
  have A1:t.length+1+(oJ 20 m).length<=4611686018427387904:=by omega
  have A2:t.length+1+(oJ 20 m).length+1<=4611686018427387904:=by omega
  have i:t.length+(1+(oJ 20 m).length)<=4611686018427387904:=by omega
  have j:t.length+((oJ 20 m).length+2)<=4611686018427387904:=by omega
  simp[i,j];have A3:jA s N:=⟨by have:=a3.k;simp at this;omega,a3.dp,a3.bad,a3.lo,by have:=a3.wM;simp at this;omega,a3.dep⟩
  refine y (t++91::(oJ 20 m++[93])) R Z (p4.aH B) (A3.trans a4) (by simp at d3 d4⊢;omega) IN (λa=>?_) (k2.trans (k3.trans (V.trans (B.x _))));obtain⟨c,A4,C,hc,e5,e6⟩:=f4 a;obtain⟨D,A5,F,u,e8,e9,Au⟩:=f3 (a4.bad a);have v:m=D.n.toNat:=by omega
  rw[K]at F;rw[e9]at C;rw[hw,F,e5,C];have w:t++91::(oJ 20 m++[93])=t++[91]++jy D.n++[93]:=by rw[v];simp[jy]
  rw[w];exact .some ho u hc
 ·simp;refine y _ _ _ e (jA.refl _) rfl om (λA=> .none (gQ b A)) (k2.x _)
theorem Db(p:RP I s h)(Z:∀t s' h',RP I s' h'->jA s s'->s'.dp=s.dp->t.length<=70000->(s'.bad=false->vj (I.W.drop s.k) (I.W.drop s'.k) t)->aR I.X h h'->Q (.ret (.str t)) h'):
 ba env 26 [.P I.r] h Q:=by
 refine wb fn26 rfl ?_;have wl:=p.AE.len;simp[f26];refine Eo 0 p.kl p λO p2 k2=>?_;obtain⟨o,⟨nd,pg⟩,ar,rg,rb,gb,rl,gl,bl,fr,kl,dd,d2,ok⟩:=id p2;simp only[mr];cases ht:(!s.bad&&dF (I.W.drop s.k))with
 |false=>
  simp[o];have kx:aR I.X O (O.set I.r (.C [.S I.b I.W.length,.I s.k,.bool true,.P I.g,.I s.dep])):=aR.set _ (aR.refl _ _) (.inl (by simp[RI.X])) rl;exact Z _ {s with bad:=true} _ (p2.yX kx sp ⟨nd,by rw[ah.aM,ay rg.symm];exact pg⟩ kl dd d2) (jA.of (ao _) rfl (ao _) sp) rfl sp sp (k2.trans kx)
 |true=>
  simp only[cf,Bool.not_eq_true']at ht;obtain⟨V,ht⟩:=ht;cases hw:I.W.drop s.k with
  |nil=>rw[hw]at ht;cases ht
  |cons w rs=>
  have hl:=fJ hw;obtain⟨c0,c1,c2,d0,d3,l5,l3⟩:=vX hw;have w1:=U8 s.k
  have P:=lI hw;have A1:3<=w.kind:=by
   have A:=ht;rw[hw]at A;simp only[dF,anyS,fw]at A;obtain⟨x,_,hx⟩:=A;obtain⟨w',r',e,A2⟩:=oe.1 hx;cases e;exact A2.k
  simp;refine Dd ?_;have R:aJ O (O.bump 12):=kT;obtain⟨p3,k3⟩:=(p2.aH R).at (s.k+1) om
  have u:=(k2.trans (R.x _)).trans k3;have hm:w∈I.W:=vg (hw▸bc ..);have C4:=ok.text w hm;simp[o,V,hl,ar,c1,w1];rw[V]at p3 k3 u;simp at p3 k3 u;generalize (O.bump 12).set I.r (.C [.S I.b I.W.length,.I ((s.k:Int)+1),.bool false,.P I.g,.I s.dep])=h3 at*;cases a:(w.text==[115,116,114,117,99,116])with
  |true=>
   have v:w.text=[115,116,114,117,99,116]:=(U7 a);simp;refine vW p3 λnm s4 h4 p4 a4 A3 d4 l4 f4 k4=>?_;have A4:=a4.k;simp at A4 A3;have A5:7+nm.length<=4611686018427387904:=om;simp[A5];refine bz (λm x=>∃t s2,m=I.W.length-s2.k/\x.n=38/\x.ds=[]/\x.bX=false/\RP I s2 x.h/\jA s s2/\s2.dp=s.dp/\t.length<=65600+s2.k/\(s2.bad=false->∀dR st,pH (I.W.drop s2.k) dR st->vj (I.W.drop s.k) dR (t++st))/\aR I.X h x.h/\
    x.rg.get 0=some (.P I.r)/\x.rg.get 3=some (.str t)) (I.W.length-s4.k) (by
     refine⟨[115,116,114,117,99,116,32]++nm,s4,rfl,rfl,rfl,rfl,p4,⟨om,a4.dp,λ_=>V,a4.lo,by have:=a4.wM;simp only at this;omega,a4.dep⟩,d4,IN,λAu dR st a=>?_,u.trans k4,sp,sp⟩;obtain⟨n1,C5,e7,C1,e8,e9,C6⟩:=f4 Au;simp only[P]at e7;rw[e9]at a;rw[hw,e7,e8];exact .struct ⟨v,A1⟩ C1 a) ?_
   clear p4 a4 k4 f4 p3 u k3
   rintro m ⟨rg,n',H,ds,bX⟩ ⟨t,s2,rfl,e1,e2,e3,B,j,S,hl,U,C,r0,r3⟩
   dsimp only at e1 e2 e3 B C r0 r3;subst e1 e2 e3;simp[r0];refine gO B (λD h7 F J=>?_) λD h7 F J=>?_
   ·obtain⟨i,o2,C2,y,K,N⟩:=eL D;have C3:=fJ y;have hc:t.length+1<=4611686018427387904:=om;have kq:=j.k;simp[r0,r3,hc];refine⟨I.W.length-(s2.k+1),om,t++[42],{s2 with k:=s2.k+1},rfl,F,⟨IN,j.dp,j.bad,j.lo,by have:=j.wM;simp only;omega,j.dep⟩,S,IN,λ_ dR st a=>?_,C.trans J,rfl⟩;have:=U i dR (42::st) (by rw[y];exact .star K (by simp only[N]at a;exact a));simpa using this
   ·simp[r3];refine Z t s2 _ F j S (by have:=B.kl;omega) (λi=>?_) (C.trans (J.x _));have:=U i _ [] (.done (gQ D i));simpa using this
  |false=>
   have v:w.text≠[115,116,114,117,99,116]:=(U7 a);simp;refine bz (λm x=>∃t s2,m=I.W.length-s2.k/\x.n=38/\x.ds=[]/\x.bX=false/\RP I s2 x.h/\jA s s2/\s2.dp=s.dp/\t.length<=65600+s2.k/\(s2.bad=false->∀dR st,pH (I.W.drop s2.k) dR st->vj (I.W.drop s.k) dR (t++st))/\aR I.X h x.h/\
    x.rg.get 0=some (.P I.r)/\x.rg.get 3=some (.str t)) (I.W.length-(s.k+1)) (by
     exact⟨w.text,{s with k:=s.k+1,bad:=false},rfl,rfl,rfl,rfl,p3,(jA.of sp rfl (ao _) (λ_=>V)),rfl,IN,λ_ dR st a=>(by rw[hw];exact .base (hw▸ht) v (by simp only[P]at a;exact a)),u,sp,sp⟩) ?_
   clear p3 u k3
   rintro m ⟨rg,n',H,ds,bX⟩ ⟨t,s2,rfl,e1,e2,e3,B,j,S,hl,U,C,r0,r3⟩
   dsimp only at e1 e2 e3 B C r0 r3;subst e1 e2 e3;simp[r0];refine gO B (λD h7 F J=>?_) λD h7 F J=>?_
   ·obtain⟨i,o2,C2,y,K,N⟩:=eL D;have C3:=fJ y;have hc:t.length+1<=4611686018427387904:=om;have kq:=j.k;simp[r0,r3,hc];refine⟨I.W.length-(s2.k+1),om,t++[42],{s2 with k:=s2.k+1},rfl,F,⟨IN,j.dp,j.bad,j.lo,by have:=j.wM;simp only;omega,j.dep⟩,S,IN,λ_ dR st a=>?_,C.trans J,rfl⟩;have:=U i dR (42::st) (by rw[y];exact .star K (by simp only[N]at a;exact a));simpa using this
   ·simp[r3];refine Z t s2 _ F j S (by have:=B.kl;omega) (λi=>?_) (C.trans (J.x _));have:=U i _ [] (.done (gQ D i));simpa using this
end
end
def lv(l:Nat):List (List UInt8):=(ly[l]?).getD []
theorem OY{Q:Out->ah->Prop}{h:ah}{l:Nat}(e:l<10)(a:∀b h',aJ h h'->h'.get b=some (.D 1 ((lv l).map AV.str))->b<h'.nx->Q (.ret (.S b (lv l).length)) h'):
 ba env 106 [.I l] h Q:=by
 refine wb fn106 rfl ?_;rcases l with _|_|_|_|_|_|_|_|_|_|l
 case succ.succ.succ.succ.succ.succ.succ.succ.succ.succ=>omega
 all_goals
  simp[f106];refine a _ _ kT (by simp[lv,ly]) sp
def OZ(t:List UInt8):Nat->List (List (List UInt8))->Int
 |_,[]=>-1
 |i,l::r=>if l.any (λs=>t==s)=true then(i:Int)else OZ t (i+1) r
theorem IX{w:Wo}{rs:dh}{t:bu}(a:eX w t):∀(L:List (List (bu)))(i:Nat),kL (w::rs) i L=OZ t i L
 |[],_=>rfl
 |l::r,i=>by
  have e:anyS (w::rs) l=l.any (λs=>t==s):=by
   unfold anyS;congr 1;funext s;exact a.bF
  simp only[kL,OZ,e,IX a r]
theorem O0:∀l,l<10->∀t,t∈lv l->OZ t 0 ly=l:=dc
theorem Gh{w:Wo}{rs:dh}{t:bu}{l:Nat}(a:l<10)(ht:t∈lv l)(b:eX w t):iZ (w::rs)=l:=by
 unfold iZ;rw[IX b];exact O0 l a t ht
theorem O1{ws:dh}{l:Nat}(a:l<10):anyS ws (lv l)=true↔iZ ws=l:=by
 constructor
 ·intro h;simp only[anyS,fw]at h;obtain⟨t,ht,b⟩:=h;obtain⟨w,rs,rfl,e⟩:=oe.1 b;exact Gh a ht e
 ·intro h;simp only[iZ,ly,kL]at h;rcases l with _|_|_|_|_|_|_|_|_|_|l
  case succ.succ.succ.succ.succ.succ.succ.succ.succ.succ=>omega
  all_goals
   simp only[lv,ly,cw,rK,Option.getD_some];revert h
   (repeat' split)<;>intro h<;>first|assumption|omega
theorem Ru{t:bu}{l:Nat}(ht:t∈lv l):t≠[]:=by
 rcases l with _|_|_|_|_|_|_|_|_|_|l
 case succ.succ.succ.succ.succ.succ.succ.succ.succ.succ=>simp[lv,ly]at ht
 all_goals
  intro e;subst e;simp[lv,ly]at ht
def J7(f:FuncId)(extra:List AV)(tag:Tag)(lo c sl n:Nat):Prop:=
 ∀(I:RI)(s:RS)(h:ah)(X:List Nat)(Q:Out->ah->Prop),I.W.length-s.k=n->RP I s h->XO I X h->s.dep+4*n<=sl->
  (∀id t s' h',RP I s' h'->jA s s'->s.dep+lo<=s'.dp->(s'.bad=false->s.k<s'.k/\(∀b,s'.dp<=s.dep+c+b->G tag b (I.W.drop s.k) (I.W.drop s'.k) (.e t))/\eK X h' id t.rn)->aR I.X h h'->Q (.ret (.P id)) h')->
  ba env f (.P I.r::extra) h Q
def TE(f:FuncId)(tag:Tag)(lo sl n:Nat):Prop:=
 ∀(I:RI)(s:RS)(h:ah)(X:List Nat)(Q:Out->ah->Prop),I.W.length-s.k=n->RP I s h->XO I X h->s.dep+4*n<=sl->
  (∀id t s' h',RP I s' h'->jA s s'->s.dep+lo<=s'.dp->(s'.bad=false->s.k<s'.k/\(∀b,s'.dp<=s.dep+b->G tag b (I.W.drop s.k) (I.W.drop s'.k) (.s t))/\eK X h' id t.rn)->aR I.X h h'->Q (.ret (.P id)) h')->
  ba env f [.P I.r] h Q
structure HB(n:Nat):Prop where
 ex:J7 60 [.I 0] (.bin 0) 1 1 1201 n
 un:J7 105 [] .un 0 0 1202 n
 ch:∀l:Nat,l<=10->J7 82 [.I l] (.bin l) 0 0 1202 n
 st:TE 32 .pW 1 1200 n
 de:TE 59 .dec 1 1200 n
theorem Rv{n:Nat}(j:J7 82 [.I 0] (.bin 0) 0 0 1202 n):J7 60 [.I 0] (.bin 0) 1 1 1201 n:=by
 intro I s h X Q m p xo D o;refine wb fn60 rfl ?_;simp[f60];refine uJ p om λu v k2=>?_;simp;refine j I ⟨s.k,s.bad,s.dep+1,max s.dp (s.dep+1)⟩ u X _ m v (xo.le k2.nx) (by simp only;omega) λid t w F p3 a3 l3 f3 k3=>?_;have e1:=a3.lo;have e2:=a3.dp;have e3:=a3.k;have e:=a3.bad;have y:=a3.wM;have g:=a3.dep;simp only at e1 e2 e3 e y g;simp;refine Cs p3 (d:=w.dep-1) om λA p4 i=>?_;simp;refine o id t _ A p4 ⟨e3,by simp only;omega,e,by simp only;omega,by simp only;omega,λB=>by have:=g B;simp only;omega⟩ (by simp only;omega) (λC=>?_) (k2.trans (k3.trans i));obtain⟨f1,f2,f4⟩:=f3 C;exact⟨f1,λb a=>f2 b (by simp only at a⊢;omega),f4.move (Move.rx p3.fr ((xo.le k2.nx).le k3.nx) i)⟩
def PV(ws:List Wo):List UInt8:=match ws with
 |[]=>[]
 |w::_=>w.text
def R8(bad:Bool)(ws:List Wo)(l:List (List UInt8)):List UInt8:=if bad=false/\anyS ws l=true then PV ws else[]
theorem J8(ws:dh):-1<=iZ ws/\iZ ws<10:=by have:=Df ws;omega
theorem IY{n l:Nat}(hl:l<=10)(hu:J7 105 [] .un 0 0 1202 n)(hc:l<10->J7 82 [.I (l+1:Nat)] (.bin (l+1)) 0 0 1202 n)(IH:∀n',n'<n->HB n'):J7 82 [.I l] (.bin l) 0 0 1202 n:=by
 intro I s h X Q hn p xo hd hQ;refine wb fn82 rfl ?_;have wl:=p.AE.len;by_cases FF:l=10
 ·subst FF;simp[f82];refine hu I s h X _ hn p xo hd λid t s2 h2 p2 a2 l2 f2 k2=>?_;simp;refine hQ id t s2 h2 p2 a2 l2 (λhb=>?_) k2;obtain⟨f3,f4,f5⟩:=f2 hb;exact⟨f3,λb A=> .bin (f4 b A) .stop (by have:=J8 (I.W.drop s2.k);omega),f5⟩
 ·have A1:l<10:=by omega
  have FO:((l:Int)==10)=false:=by rw[az];omega
  have w1:=U8 l
  obtain⟨l1,C8⟩:∃x,x=l+1:=⟨_,rfl⟩
  rw[<-C8]at w1 hc;simp[f82,FO,w1];refine hc A1 I s h X _ hn p xo hd λid e0 s1 h1 p1 a1 FP f1 k1=>?_;simp;obtain⟨J,hJ⟩:∃J:Nat->St->Prop,J=(λm x=>∃id e s2 v,m=I.W.length-s2.k/\x.n=80/\x.ds=[]/\x.bX=false/\RP I s2 x.h/\(s.dep+v<=s2.dep/\(s2.bad=false->s2.dep=s.dep+v))/\s.k<=s2.k/\s.dp<=s2.dp/\(s2.bad=false->s.bad=false)/\s2.dep+4*s.k<=s.dep+4*s2.k/\
   (s2.bad=false->s.k<s2.k/\(∀b,s2.dp<=s.dep+b->∃u K,G .un b (I.W.drop s.k) u (.e K)/\G (.steps l K) b u (I.W.drop s2.k) (.e e)/\iZ (I.W.drop s2.k)<l1)/\eK X x.h id e.rn)/\aR I.X h x.h/\
   x.rg.get 0=some (.P I.r)/\x.rg.get 1=some (.I l)/\x.rg.get 5=some (.P id)/\x.rg.get 6=some (.I v)):=⟨_,rfl⟩
  refine bz J (I.W.length-s1.k) ?_ ?_
  ·rw[hJ];refine⟨id,e0,s1,0,rfl,rfl,rfl,rfl,p1,⟨a1.lo,a1.dep⟩,a1.k,a1.dp,a1.bad,a1.wM,λhb=>?_,k1,sp,sp,sp,sp⟩;obtain⟨f3,f4,f5⟩:=f1 hb;refine⟨f3,λb A=>?_,f5⟩;cases f4 b A with
   |bin FQ FW HE=>exact⟨_,_,FQ,FW.Hz om,om⟩
  clear p1 a1 FP f1 k1 e0 id h1 s1;intro m st A5;have P:=A5;rw[hJ]at P;obtain⟨rg,n',H,ds,bX⟩:=st;obtain⟨id,e,s2,v,rfl,e1,e2,e3,p2,d2,k2,C9,b2,db,f2,A2,r0,Z,r5,r6⟩:=P;dsimp only at e1 e2 e3 p2 f2 A2 r0 Z r5 r6;subst e1 e2 e3;have o2:=p2.obj;cases hb:s2.bad with
  |true=>
   simp[r0,o2,hb];have R:=p2;have kX:=A2;have fX:=f2;have S:s2.bad=false->iZ (I.W.drop s2.k)<l:=λa=>by rw[hb]at a;cases a
   refine bz (λm x=>∃j,j<=v/\m=v-j/\x.n=80/\x.ds=[]/\x.bX=false/\RP I ⟨s2.k,s2.bad,s2.dep-j,s2.dp⟩ x.h/\aR I.X H x.h/\
    x.rg.get 0=some (.P I.r)/\x.rg.get 5=some (.P id)/\x.rg.get 6=some (.I v)/\x.rg.get 11=some (.I j)) v ?_ ?_
   ·refine⟨0,om,sp,rfl,rfl,rfl,?_,aR.refl _ _,by simp[r0],by simp[r5],by simp[r6],sp⟩;exact R
   rintro m ⟨G2,nu,HU,G3,CL⟩ ⟨j,hj,rfl,u1,u2,u3,pU,kU,q0,q5,q6,B⟩
   dsimp only at u1 u2 u3 pU kU q0 q5 q6 B;subst u1 u2 u3;have G4:v<=3000:=(by have:=R.dd;have:=R.d2;omega);by_cases C1:j<v
   ·have wj:=U8 j;simp[q0,q6,B,C1];refine Cs pU (d:=s2.dep-(j+1)) (by have:=d2.1;simp only;omega) λhV pV kV=>?_;simp[q0,q5,q6,B];exact⟨v-(j+1),om,j+1,om,rfl,pV,kU.trans kV,wj⟩
   ·have C2:j=v:=om;subst C2;simp[q5,q6,B];have pd:=R.dd;refine hQ id e _ HU pU ⟨k2,C9,b2,by have:=d2.1;simp only;omega,by simp only;omega,λa=>by have:=d2.2 a;simp only;omega⟩ (by have:=d2.1;simp only;omega) (λU=>?_) (kX.trans kU);obtain⟨f3,f4,f5⟩:=fX U;refine⟨f3,λbb A=>?_,f5.move (Move.rx R.fr (xo.le kX.nx) kU)⟩;obtain⟨u,K,C3,C4,G5⟩:=f4 bb (by simp only at A;omega);exact .bin C3 C4 (S U)
  |false=>
   simp[r0,Z,o2,hb];refine OY A1 λb h3 k3 g3 n3=>?_;simp;have p3:=p2.aH k3;have F0:=A2.trans (k3.x _);have f3:s2.bad=false->s.k<s2.k/\(∀b,s2.dp<=s.dep+b->∃u K,G .un b (I.W.drop s.k) u (.e K)/\G (.steps l K) b u (I.W.drop s2.k) (.e e)/\iZ (I.W.drop s2.k)<l1)/\eK X h3 id e.rn:=λa=>by
    obtain⟨f3,f4,f5⟩:=f2 a;exact⟨f3,f4,f5.move (Move.k p2.fr k3)⟩
   clear f2 p2 A2 k3 o2;have HG:(lv l).length<=4:=by
    rcases l with _|_|_|_|_|_|_|_|_|_|l
    case succ.succ.succ.succ.succ.succ.succ.succ.succ.succ=>omega
    all_goals decide
   refine bz (λm x=>∃i,i<=(lv l).length/\m=(lv l).length-i/\x.n=80/\x.ds=[]/\x.bX=false/\aJ h3 x.h/\
    x.rg.get 0=some (.P I.r)/\x.rg.get 1=some (.I l)/\x.rg.get 5=some (.P id)/\x.rg.get 6=some (.I v)/\x.rg.get 7=some (.str (R8 false (I.W.drop s2.k) ((lv l).take i)))/\x.rg.get 8=some (.S b (lv l).length)/\x.rg.get 9=some (.I i)) (lv l).length ?_ ?_
   ·exact⟨0,om,rfl,rfl,rfl,rfl,aJ.refl _,by simp[r0],by simp[Z],by simp[r5],by simp[r6],by simp[R8,anyS],sp,sp⟩
   clear r0 Z r5 r6 rg A5
   rintro m2 ⟨rg,n',H5,ds,bX⟩ ⟨i,hi,rfl,e1,e2,e3,k5,r0,Z,r5,r6,r7,r8,r9⟩
   dsimp only at e1 e2 e3 k5 r0 Z r5 r6 r7 r8 r9;subst e1 e2 e3;have p5:=p3.aH k5;have g5:=(k5.old b n3).trans g3;by_cases N:i<(lv l).length
   ·have hx:((lv l).map AV.str)[i]?=some (.str (lv l)[i]):=(by rw[bt,aj N];rfl);have wi:=U8 i;have P:=zI (ws:=I.W.drop s2.k) N;simp[r0,r8,r9,N,g5];refine yE p5 λh6 p6 k6=>?_;have g6:=(k6.old b (aq n3 k5.nx)).trans g5;cases F1:od I s2 (lv l)[i]with
    |true=>
     obtain⟨A,w,rs,hw,hk,F2⟩:=eL F1;simp[r0,Z,r5,r6,r8,r9,N,g6,wi];refine⟨(lv l).length-(i+1),om,i+1,N,rfl,k5.trans k6,?_,om⟩;have:bF (I.W.drop s2.k) (lv l)[i]=true:=(by rw[hw];exact oe.2 ⟨w,rs,rfl,hk⟩);simp[R8,P,this];rw[hw];simp[PV,hk.t]
    |false=>
     have:=gQ F1 hb;simp[r0,Z,r5,r6,r7,r8,r9,wi];refine⟨(lv l).length-(i+1),om,i+1,N,rfl,k5.trans k6,?_,om⟩;simp[R8,P,this]
   ·have GL:i=(lv l).length:=om;subst GL;rw[cF]at r7;have A3:=F0.trans (k5.x _);have f5:s2.bad=false->s.k<s2.k/\(∀b,s2.dp<=s.dep+b->∃u K,G .un b (I.W.drop s.k) u (.e K)/\G (.steps l K) b u (I.W.drop s2.k) (.e e)/\iZ (I.W.drop s2.k)<l1)/\eK X H5 id e.rn:=λa=>by
     obtain⟨f3,f4,f5⟩:=f3 a;exact⟨f3,f4,f5.move (Move.k p3.fr k5)⟩
    clear f3 p3 F0 k5 g3;cases C:anyS (I.W.drop s2.k) (lv l)with
    |false=>
     have A4:rg.get 7=some (.str []):=(by rw[r7];simp[R8,C]);simp[A4,r8,r9];have R:=p5;have kX:=A3;have fX:=f5;have S:s2.bad=false->iZ (I.W.drop s2.k)<l:=λa=>by
      obtain⟨a1,a2,a3⟩:=f5 a;obtain⟨u,K,b1,b2,b3⟩:=a2 s2.dp om;have:iZ (I.W.drop s2.k)≠l:=λe=>by rw[(O1 A1).2 e]at C;cases C
      omega
     refine bz (λm x=>∃j,j<=v/\m=v-j/\x.n=80/\x.ds=[]/\x.bX=false/\RP I ⟨s2.k,s2.bad,s2.dep-j,s2.dp⟩ x.h/\aR I.X H5 x.h/\
      x.rg.get 0=some (.P I.r)/\x.rg.get 5=some (.P id)/\x.rg.get 6=some (.I v)/\x.rg.get 11=some (.I j)) v ?_ ?_
     ·refine⟨0,om,sp,rfl,rfl,rfl,?_,aR.refl _ _,by simp[r0],by simp[r5],by simp[r6],sp⟩;exact R
     rintro m ⟨G2,nu,HU,G3,CL⟩ ⟨j,hj,rfl,u1,u2,u3,pU,kU,q0,q5,q6,B⟩
     dsimp only at u1 u2 u3 pU kU q0 q5 q6 B;subst u1 u2 u3;have G4:v<=3000:=(by have:=R.dd;have:=R.d2;omega);by_cases C1:j<v
     ·have wj:=U8 j;simp[q0,q6,B,C1];refine Cs pU (d:=s2.dep-(j+1)) (by have:=d2.1;simp only;omega) λhV pV kV=>?_;simp[q0,q5,q6,B];exact⟨v-(j+1),om,j+1,om,rfl,pV,kU.trans kV,wj⟩
     ·have C2:j=v:=om;subst C2;simp[q5,q6,B];have pd:=R.dd;refine hQ id e _ HU pU ⟨k2,C9,b2,by have:=d2.1;simp only;omega,by simp only;omega,λa=>by have:=d2.2 a;simp only;omega⟩ (by have:=d2.1;simp only;omega) (λU=>?_) (kX.trans kU);obtain⟨f3,f4,f5⟩:=fX U;refine⟨f3,λbb A=>?_,f5.move (Move.rx R.fr (xo.le kX.nx) kU)⟩;obtain⟨u,K,C3,C4,G5⟩:=f4 bb (by simp only at A;omega);exact .bin C3 C4 (S U)
    |true=>
     obtain⟨t,ht,hs⟩:∃t,t∈lv l/\bF (I.W.drop s2.k) t=true:=(by simpa[anyS,fw]using C);obtain⟨w,rs,hw,hk⟩:=oe.1 hs;have Gq:=Gh (rs:=rs) A1 ht hk;have H2:(w.text==[])=false:=(by rw[az,hk.t];exact Ru ht);have A4:rg.get 7=some (.str w.text):=(by rw[r7];simp[R8,C];rw[hw];rfl);have HP:=fJ hw;have F2:=lI hw;have o5:=p5.obj;have w2:=U8 s2.k;have w3:IntKind.wrap .i64 ((v:Int)+1)=((v+1:Nat):Int):=(by rw[wr (by have:=p5.d2;have:=p5.dd;omega) (by have:=p5.d2;have:=p5.dd;omega)];omega);obtain⟨p6,k6⟩:=p5.at (s2.k+1) om
     simp[r0,A4,r8,r9,H2,o5,w2];simp at p6 k6;have C5:=A3.trans k6;refine xO [98,105,110] (ok:=True) (X:=X) (h0:=H5.set I.r (.C [.S I.b I.W.length,.I ((s2.k:Int)+1),.bool s2.bad,.P I.g,.I s2.dep])) p6 (aR.refl _ _) (xo.le C5.nx) λiT h7 p7 k7 m7=>?_;have e6:=λa=>(f5 a).2.2.move (Move.rx p5.fr (xo.le A3.nx) k6);have f6:=λa=>(f5 a).2.1;have fk:=λa=>(f5 a).1;clear f5 g5;have D:=xo.le (h:=h) C5.nx;generalize H5.set I.r (.C [.S I.b I.W.length,.I ((s2.k:Int)+1),.bool s2.bad,.P I.g,.I s2.dep])=h6 at*;clear p5 A3 k6 o5;have g7:=m7.get;simp[ND.obj]at g7;simp[r0,Z,r5,A4,g7];obtain⟨h8,e8,m8,p8⟩:=m7.put p7 p6.bl ⟨[98,105,110],w.text,[],0,.Z,[]⟩ rfl rfl;simp[ND.obj]at e8;rw[e8];simp[w1];have HZ:iT∉X:=D.nx m8.lo;have H3:XO I (iT::X) h8:=⟨au _ D.r,au _ D.g,λy O=>by
      rcases ak.1 O with rfl|O
      ·exact m8.lt
      ·exact(D.le m8.kx.nx).lt y O⟩
     refine(IH (I.W.length-(s2.k+1)) om).ch l1 om I ⟨s2.k+1,s2.bad,s2.dep,s2.dp⟩ h8 (iT::X) _ rfl p8 H3 (by simp only;omega) λF3 t2 s9 h9 p9 a9 l9 f9 k9=>?_;have m9:=m8.call p8.fr k9;have H4:=a9.k;have H6:=a9.lo;have F4:=a9.dep;have H7:=a9.wM;have H8:=a9.dp;have F:=a9.bad;simp only at H4 H6 H8 F F4 H7;have Hc:=m9.lt;have C6:iT≠h9.nx:=om;have C7:=(aJ.refl h9).alloc (.D 1 [.P id,.P F3]);have m10:=m9.aH p9.fr C7;have H9:=p9.aH C7;have g9:=m9.get;simp[ND.obj]at g9;simp[r0,g9,C6];have I0:=m9.lo;have HC:=(m8.kx.trans k9).nx
     obtain⟨I1,F5,m11,F6⟩:=(m10.mg (rJ:=s9.bad=false) (λ_=>trivial)).list H9 p6.bl rfl (j:=h9.nx) om sp C6 [(id,e.rn),(F3,t2.rn)] sp (λo q hq=>by
      simp only[ak,bm,cT]at hq;rcases hq with rfl|rfl
      ·exact(e6 (F o)).move (Move.of p6.fr m10.kx (λz a _=>by
        simp[RI.X]at a;rcases a with h1|h1
        ·rw[h1];exact D.r
        ·rw[h1];exact D.g) (λy O=>by
        rcases ak.1 O with rfl|O
        ·exact .inr om
        ·rcases ak.1 O with rfl|O
         ·exact .inr m8.lo
         ·exact .inl O))
      ·exact(f9 o).2.2.move (Move.of p9.fr (C7.x []) sp (λy O=>by
        rcases ak.1 O with rfl|O
        ·exact .inr om
        ·exact .inl O))) (by
      intro hx;rcases ak.1 hx with hx|hx
      ·exact C6 hx.symm
      ·have:=D.lt _ hx;omega)
     simp[ND.obj]at F5;rw[F5];have I2:=p9.kl;refine uJ F6 om λI3 HA F7=>?_;simp[r6,w3];have Au:=C5.trans m11.kx;rw[hJ];refine⟨I.W.length-s9.k,om,iT,.bin w.at w.text e t2,⟨s9.k,s9.bad,s9.dep+1,max s9.dp (s9.dep+1)⟩,v+1,rfl,rfl,rfl,rfl,HA,⟨by have:=d2.1;simp only;omega,λa=>by have:=d2.2 (F a);have:=F4 a;simp only;omega⟩,by simp only;omega,by simp only;omega,λa=>b2 (F a),by simp only;omega,λa=>?_,Au.trans F7,by simp[r0],by simp[Z],sp,sp⟩;have V:s9.bad=false:=a;obtain⟨q1,q2,q3⟩:=f9 V;refine⟨by have:=fk (F V);simp only;omega,λbb A=>?_,?_⟩
     ·have d29:=d2.2 (F V);obtain⟨u,K,u1,u2,u3⟩:=f6 (F V) bb (by simp only at A;omega);have hr:=q2 bb (by simp only at A⊢;omega);simp only at hr;rw[F2]at hr;rw[hw]at u2;refine⟨u,K,u1,u2.Gf (.step Gq (ao _) (C8▸hr) .stop),?_⟩;cases hr with
      |bin _ _ h3=>exact h3
     ·exact(m11.done V (.mk [98,105,110] w.text [] 0 [e.rn,t2.rn]) rfl rfl rfl rfl rfl).move (Move.rx F6.fr (xo.le Au.nx) F7)
section
section
variable{I:RI}{s:RS}{h H:ah}{X:cB}{iT:Nat}{ok rJ:Prop}{d:ND}
theorem NM.Ui(m:NM I X h iT ok d H):XO I (iT::X) H:=⟨au _ m.xo.r,au _ m.xo.g,λy a=>by
 rcases ak.1 a with rfl|a
 ·exact m.lt
 ·exact(m.xo.le m.kx.nx).lt y a⟩
theorem NM.PX(m:NM I X h iT ok d H)(p:RP I s H)(bl:I.b<h.nx)(e:d.av= .Z)(f:rJ->ok)(id:Nat)(t:RN)(rep:rJ->eK (iT::X) H id t):
 ∃g,(H.alloc (.D 1 [.P id])).2.set iT (.C [.str d.op,.str d.nm,.str d.ty,.I d.n,.S H.nx 1,.str [],.I 0])=g/\NM I X h iT rJ ⟨d.op,d.nm,d.ty,d.n,.S H.nx 1,[(id,t)]⟩ g/\RP I s g:=by
 have K:=(aJ.refl H).alloc (.D 1 [.P id]);have lt:=m.lt;have nx:=m.kx.nx;exact((m.aH p.fr K).mg f).list (p.aH K) bl e (j:=H.nx) nx sp om [(id,t)] sp (λo q u=>by
  simp only[ak,bm,cT]at u;subst u;exact(rep o).move (Move.of p.fr (K.x []) sp (λy i=>by
   rcases ak.1 i with rfl|i
   ·exact .inr om
   ·exact .inl i))) (by
  intro a;rcases ak.1 a with a|a
  ·omega
  ·have:=m.xo.lt _ a;omega)
theorem NM.Te(m:NM I X h iT ok d H)(p:RP I s H)(fr:bP h)(bl:I.b<h.nx)(u:d.av= .Z)(v:rJ->ok)(id a:Nat)(t t2:RN)(rep:rJ->eK X h id t)(f:rJ->eK (iT::X) H a t2):
 ∃w,(H.alloc (.D 1 [.P id,.P a])).2.set iT (.C [.str d.op,.str d.nm,.str d.ty,.I d.n,.S H.nx 2,.str [],.I 0])=w/\NM I X h iT rJ ⟨d.op,d.nm,d.ty,d.n,.S H.nx 2,[(id,t),(a,t2)]⟩ w/\RP I s w:=by
 have K:=(aJ.refl H).alloc (.D 1 [.P id,.P a]);have lt:=m.lt;have lo:=m.lo;have nx:=m.kx.nx;have m2:=m.aH p.fr K;exact(m2.mg v).list (p.aH K) bl u (j:=H.nx) nx sp om [(id,t),(a,t2)] sp (λo q B=>by
  simp only[ak,bm,cT]at B;rcases B with rfl|rfl
  ·exact(rep o).move (Move.of fr m2.kx (λz C _=>by
    simp[RI.X]at C;rcases C with A|A
    ·rw[A];exact m.xo.r
    ·rw[A];exact m.xo.g) (λy e=>by
    rcases ak.1 e with rfl|e
    ·exact .inr nx
    ·rcases ak.1 e with rfl|e
     ·exact .inr lo
     ·exact .inl e))
  ·exact(f o).move (Move.of p.fr (K.x []) sp (λy e=>by
    rcases ak.1 e with rfl|e
    ·exact .inr om
    ·exact .inl e))) (by
  intro i;rcases ak.1 i with i|i
  ·omega
  ·have:=m.xo.lt _ i;omega)
end
def UH(n:Nat):Prop:=
 ∀(I:RI)(s:RS)(h:ah)(X:List Nat)(Q:Out->ah->Prop),I.W.length-s.k=n->RP I s h->XO I X h->s.dep+4*n<=1202->
  (∀id t s' h',RP I s' h'->jA s s'->(s'.bad=false->s.k<s'.k/\(∀b,s'.dp<=s.dep+b->∃bQ a,G .ed b (I.W.drop s.k) bQ (.e a)/\G (.jx a) b bQ (I.W.drop s'.k) (.e t))/\eK X h' id t.rn)->aR I.X h h'->Q (.ret (.P id)) h')->
  ba env 140 [.P I.r] h Q
theorem Rw{t:bu}{i:Nat}(hi:i<vm.length){w:Wo}{rs:dh}(a:eX w vm[i]):anyS (w::rs) vm=true:=by
 simp only[anyS,fw];exact⟨vm[i],bk _,oe.2 ⟨w,rs,rfl,a⟩⟩
theorem O2{n:Nat}(hp:UH n)(IH:∀n',n'<n->HB n'):J7 105 [] .un 0 0 1202 n:=by
 intro I s h X Q hn p xo hd hQ;refine wb fn105 rfl ?_;have wl:=p.AE.len;have rl:=p.rl;have gl:=p.gl;simp[f105];have k0:aJ h _:=(aJ.refl h).alloc (.D 1 [.str [45],.str [126],.str [33],.str [42],.str [38]]);have g0:((h.alloc (.D 1 [.str [45],.str [126],.str [33],.str [42],.str [38]])).2).get h.nx=some (.D 1 (vm.map AV.str)):=by
  rw[ah.cO,aY rfl];rfl
 have n0:h.nx<((h.alloc (.D 1 [.str [45],.str [126],.str [33],.str [42],.str [38]])).2).nx:=sp
 generalize (h.alloc (.D 1 [.str [45],.str [126],.str [33],.str [42],.str [38]])).2=h1 at*;refine bz (λm x=>∃i,i<=vm.length/\m=vm.length-i/\x.n=75/\x.ds=[]/\x.bX=false/\aJ h x.h/\h.nx<x.h.nx/\x.h.get h.nx=some (.D 1 (vm.map AV.str))/\(s.bad=false->anyS (I.W.drop s.k) (vm.take i)=false)/\
  x.rg.get 0=some (.P I.r)/\x.rg.get 3=some (.S h.nx vm.length)/\x.rg.get 4=some (.I i)) vm.length ?_ ?_
 ·exact⟨0,om,rfl,rfl,rfl,rfl,k0,n0,g0,λ_=>by simp[anyS],sp,by simp[vm],sp⟩
 clear k0 g0 n0 h1
 rintro m ⟨rg,n',H,ds,bX⟩ ⟨i,hi,rfl,e1,e2,e3,k1,Z,g1,D,r0,r3,r4⟩
 dsimp only at e1 e2 e3 k1 Z g1 r0 r3 r4;subst e1 e2 e3;have p1:=p.aH k1;have C5:=xo.le k1.nx;have u5:vm.length=5:=rfl;by_cases g:i<vm.length
 ·have hx:(vm.map AV.str)[i]?=some (.str vm[i]):=by rw[bt,aj g];rfl
  have wi:=U8 i
  have C6:=zI (ws:=I.W.drop s.k) g;simp[r0,r3,r4,g,g1];refine gO p1 (λS v B k2=>?_) λS v B k2=>?_
  ·obtain⟨j,w,rs,hw,hk,u⟩:=eL S;have C7:=fJ hw;have nX:h.nx∉I.X:=(by simp[RI.X];omega);have g2:=(k2.old h.nx Z nX).trans g1;have n2:=aq Z k2.nx;simp[r0];refine uJ B (by simp only;omega) λU p3 k3=>?_;have g3:=(k3.old h.nx n2 nX).trans g2;have n3:=aq n2 k3.nx;have A1:=(k1.x I.X).trans (k2.trans k3);simp[r0];refine xO [117,110] (ok:=True) (X:=X) (h0:=U) p3 (aR.refl _ _) (xo.le A1.nx) λiT h4 p4 k4 m4=>?_;have g4:=(k4.old h.nx n3 nX).trans g3;have gT:=m4.get;simp[ND.obj]at gT;simp[r0,r3,r4,g,g4,gT];obtain⟨h5,e5,m5,V⟩:=m4.put p4 p3.bl ⟨[117,110],vm[i],[],0,.Z,[]⟩ rfl rfl;simp[ND.obj]at e5;rw[e5];refine(IH (I.W.length-(s.k+1)) om).un I ⟨s.k+1,s.bad,s.dep+1,max s.dp (s.dep+1)⟩ h5 (iT::X) _ rfl V m5.Ui (by simp only;omega) λF t2 s6 h6 J y l6 f6 k6=>?_;have C8:=y.k;have C9:=y.lo;have A2:=y.dep;have CL:=y.wM;have F0:=y.dp;have F1:=y.bad;simp only at C8 C9 F0 F1 A2 CL;have m6:=m5.call V.fr k6;have F2:=m6.lt;have K:iT≠h6.nx:=om;have g6:=m6.get;simp[ND.obj]at g6;simp[r0,g6,K];obtain⟨h7,e7,m7,p7⟩:=m6.PX J p3.bl rfl (rJ:=s6.bad=false) (λ_=>trivial) F t2.rn (λo=>(f6 o).2.2);simp at e7;rw[e7];refine Cs p7 (d:=s6.dep-1) om λh8 p8 k8=>?_;simp;have A3:=A1.trans m7.kx;refine hQ iT (.un w.at w.text t2) _ h8 p8 ⟨by simp only;omega,by simp only;omega,λe=>j,by simp only;omega,by simp only;omega,λe=>by have:=A2 e;simp only;omega⟩ (by simp only;omega) (λe=>?_) (A3.trans k8);have A4:s6.bad=false:=e;obtain⟨q1,q2,q3⟩:=f6 A4;refine⟨by simp only;omega,λN A=>?_,?_⟩
   ·simp only at A;obtain⟨O,rfl⟩:∃O,N=O+1:=⟨N-1,om⟩
    have:=q2 O (by simp only;omega);simp only at this;rw[u]at this;rw[hw];exact .unop (Rw (t:=[]) g hk) this
   ·exact(m7.done A4 (.mk [117,110] w.text [] 0 [t2.rn]) rfl (show vm[i]=w.text from hk.t.symm) rfl rfl rfl).move (Move.rx p7.fr (xo.le A3.nx) k8)
  ·simp[r0,r3,r4,wi];refine⟨vm.length-(i+1),om,i+1,g,rfl,k1.trans k2,aq Z k2.nx,(k2.old _ Z).trans g1,λj=>?_,om⟩;rw[C6,D j,gQ S j];rfl
 ·have F3:i=vm.length:=by omega
  subst F3;rw[cF]at D;have post:∀v,(s.bad=false->bF (I.W.drop s.k) [40]=false\/dF (I.W.drop s.k).tail=false)->aR I.X H v->RP I s v->ba env 140 [.P I.r] v (λout h'=>∃id,out= .ret (.P id)/\Q (.ret (.P id)) h'):=λv hc A5 B=>
   hp I s v X _ hn B ((C5.le A5.nx)) om λid t s6 h6 J y f6 k6=>⟨id,rfl,hQ id t s6 h6 J y (by have:=J.dd;have:=y.lo;omega) (λe=>by
    obtain⟨q1,q2,q3⟩:=f6 e;have j:=y.bad e;refine⟨q1,λN A=>?_,q3⟩;obtain⟨bQ,e0,F4,F5⟩:=q2 N om;exact .post (D j) (hc j) F4 F5) ((k1.x _).trans (A5.trans k6))⟩
  simp[r0,r3,r4];refine yE p1 λv B k2=>?_;cases S:od I s [40]with
  |false=>
   simp[r0];refine(post _ (λj=> .inl (gQ S j)) (k2.x _) B).mono λout h9 P=>?_;obtain⟨id,rfl,P⟩:=P;simp;exact P
  |true=>
   obtain⟨j,w,rs,hw,hk,u⟩:=eL S;have C7:=fJ hw;simp[r0];refine Eo 1 om B λU p3 k3=>?_;cases ht:(!s.bad&&dF (I.W.drop (s.k+1)))with
   |false=>
    simp[r0];refine(post _ (λ_=> .inr (by rw[hw];simp only[j,jU,dZ]at ht;rw[u]at ht;exact ht)) ((k2.x _).trans k3) p3).mono λout h9 P=>?_;obtain⟨id,rfl,P⟩:=P;simp;exact P
   |true=>
    have F6:dF rs=true:=(by simp only[j,jU,dZ]at ht;rw[u]at ht;exact ht);have o3:=p3.obj;have w2:=U8 s.k;obtain⟨p4,k4⟩:=p3.at (s.k+1) om
    simp[r0,o3,w2];simp at p4 k4;have Au:=(k1.x I.X).trans ((k2.x _).trans (k3.trans k4));refine uJ p4 (by simp only;omega) λh5 V k5=>?_;simp[r0];have C1:=Au.trans k5;clear p4 k4 Au o3 p3 k3 B k2;refine xO [99,97,115,116] (ok:=True) (X:=X) (h0:=h5) V (aR.refl _ _) (xo.le C1.nx) λiT h6 J k6 m6=>?_;simp[r0];refine Db J λt s7 h7 p7 a7 d7 l7 f7 k7=>?_;have m7:=m6.call J.fr k7;have gT:=m7.get;simp[ND.obj]at gT;simp[r0,gT];obtain⟨h8,e8,m8,p8⟩:=m7.put p7 V.bl ⟨[99,97,115,116],[],t,0,.Z,[]⟩ rfl rfl;simp[ND.obj]at e8;rw[e8];refine gd p8 λs9 h9 p9 a9 H2 d9 f9 k9=>?_;have m9:=m8.call p8.fr k9;simp[r0];have F7:=a7.k;have FF:=a7.lo;have FO:=a7.wM;have H3:=a9.k;have H4:=a9.lo;have H5:=a9.wM;simp only at F7 FF FO d7;refine(IH (I.W.length-s9.k) om).un I s9 h9 (iT::X) _ rfl p9 m9.Ui (by have:=p9.kl;omega) λF t2 R FP FQ a l10 f10 FW=>?_;have G4:=a.k;have G5:=a.lo;have GL:=a.wM;have Gq:=a.dp;have m10:=m9.call p9.fr FW;have F2:=m10.lt;have K:iT≠FP.nx:=om;have g10:=m10.get;simp[ND.obj]at g10;simp[r0,g10,K];obtain⟨H6,C2,m11,C3⟩:=m10.PX FQ V.bl rfl (rJ:=R.bad=false) (λ_=>trivial) F t2.rn (λo=>(f10 o).2.2);simp at C2;rw[C2];refine Cs C3 (d:=R.dep-1) om λG2 G3 C4=>?_;simp;have C:=C1.trans m11.kx;refine hQ iT (.cast w.at t t2) _ G2 G3 ⟨by simp only;omega,by simp only;omega,λe=>j,by simp only;omega,by simp only;omega,λe=>by have h1:=a.dep e;have v:=a9.dep (a.bad e);have U:=a7.dep (a9.bad (a.bad e));simp only at U⊢;omega⟩ (by simp only;omega) (λe=>?_) (C.trans C4);have b:R.bad=false:=e;obtain⟨q1,q2,q3⟩:=f10 b;obtain⟨c,H7,c1,c2,c3,c4⟩:=f9 (a.bad b);have hT:=f7 (a9.bad (a.bad b));simp only at hT;rw[u,c1]at hT;refine⟨by simp only;omega,λN A=>?_,?_⟩
    ·simp only at A;obtain⟨O,rfl⟩:∃O,N=O+1:=⟨N-1,om⟩
     have v:=a9.dep (a.bad b);have U:=a7.dep (a9.bad (a.bad b));simp only at U;have:=q2 O om;rw[c3]at this;rw[hw];exact .cast hk F6 hT c2 this
    ·exact(m11.done b (.mk [99,97,115,116] [] t 0 [t2.rn]) rfl rfl rfl rfl rfl).move (Move.rx C3.fr (xo.le C.nx) C4)
end
section
section
variable{I:RI}{s:RS}{h H:ah}{X:cB}{iT:Nat}{ok rJ:Prop}{d:ND}
theorem NM.Ml(m:NM I X h iT ok d H)(p:RP I s H)(fr:bP h)(bl:I.b<h.nx)(f:d.av= .Z)(i:rJ->ok)(id:Nat)(t:RN)(rep:rJ->eK X h id t):
 ∃u,(H.alloc (.D 1 [.P id])).2.set iT (.C [.str d.op,.str d.nm,.str d.ty,.I d.n,.S H.nx 1,.str [],.I 0])=u/\NM I X h iT rJ ⟨d.op,d.nm,d.ty,d.n,.S H.nx 1,[(id,t)]⟩ u/\RP I s u:=by
 have K:=(aJ.refl H).alloc (.D 1 [.P id]);have lt:=m.lt;have lo:=m.lo;have nx:=m.kx.nx;have m2:=m.aH p.fr K;exact(m2.mg i).list (p.aH K) bl f (j:=H.nx) nx sp om [(id,t)] sp (λo q w=>by
  simp only[ak,bm,cT]at w;subst w;exact(rep o).move (Move.of fr m2.kx (λz A _=>by
   simp[RI.X]at A;rcases A with v|v
   ·rw[v];exact m.xo.r
   ·rw[v];exact m.xo.g) (λy a=>by
   rcases ak.1 a with rfl|a
   ·exact .inr nx
   ·rcases ak.1 a with rfl|a
    ·exact .inr lo
    ·exact .inl a))) (by
  intro e;rcases ak.1 e with e|e
  ·omega
  ·have:=m.xo.lt _ e;omega)
end
def PJ(I:RI)(s:RS)(h:ah)(X:List Nat)(m:Nat)(x:St):Prop:=
 ∃id e s2 a,m=I.W.length-s2.k/\x.n=84/\x.ds=[]/\x.bX=false/\RP I s2 x.h/\(s.dep+a<=s2.dep/\(s2.bad=false->s2.dep=s.dep+a))/\s.k<=s2.k/\s.dp<=s2.dp/\(s2.bad=false->s.bad=false)/\s2.dep+4*s.k<=s.dep+4*s2.k/\
  (s2.bad=false->s.k<s2.k/\(∀b,s2.dp<=s.dep+b->∃bQ f,G .ed b (I.W.drop s.k) bQ (.e f)/\∀dR e2,G (.jx e) b (I.W.drop s2.k) dR (.e e2)->G (.jx f) b bQ dR (.e e2))/\eK X x.h id e.rn)/\aR I.X h x.h/\
  x.rg.get 0=some (.P I.r)/\x.rg.get 3=some (.P id)/\x.rg.get 4=some (.I a)
theorem J9{n:Nat}(hp:J7 177 [] .ed 0 0 1202 n)(IH:∀n',n'<n->HB n'):UH n:=by
 intro I s h X Q hn p xo hd hQ;refine wb fn140 rfl ?_;have wl:=p.AE.len;simp[f140];refine hp I s h X _ hn p xo hd λid e0 s1 h1 p1 a1 C7 f1 k1=>?_;simp;obtain⟨J,hJ⟩:∃J:Nat->St->Prop,J=PJ I s h X:=⟨_,rfl⟩
 refine bz J (I.W.length-s1.k) ?_ ?_
 ·rw[hJ];refine⟨id,e0,s1,0,rfl,rfl,rfl,rfl,p1,⟨a1.lo,a1.dep⟩,a1.k,a1.dp,a1.bad,a1.wM,λB=>?_,k1,sp,sp,sp⟩;obtain⟨f3,f4,f5⟩:=f1 B;exact⟨f3,λb u=>⟨_,_,f4 b om,λ_ _ t=>t⟩,f5⟩
 clear p1 a1 C7 f1 k1 e0 id h1 s1;intro m st C1;have C2:=C1;rw[hJ]at C2;obtain⟨rg,n',H,ds,bX⟩:=st;obtain⟨id,e,s2,D,rfl,e1,e2,e3,v,d2,k2,C3,b2,ph,f2,y,r0,r3,r4⟩:=C2;dsimp only at e1 e2 e3 v f2 y r0 r3 r4;subst e1 e2 e3;have o2:=v.obj;have G3:=v.kl;cases B:s2.bad with
 |true=>
  simp[r0,r3,o2,B];exact hQ id e s2 H v ⟨k2,C3,b2,om,ph,λa=>by rw[B]at a;cases a⟩ (λa=>by rw[B]at a;cases a) y
 |false=>
  obtain⟨f3,f4,f5⟩:=f2 B;have G4:=d2.2 B;have w3:=U8 D
  simp[r0,o2,B];refine xO [105,110,100,101,120] (ok:=True) (X:=X) (h0:=H) v (aR.refl _ _) (xo.le y.nx) λiT h3 p3 k3 m3=>?_;simp[r0];have again:∀(cC:T AV)(e':Ex)(i:RS)(R O:ah),cC.get 0=some (.P I.r)->cC.get 3=some (.P iT)->cC.get 4=some (.I (D+1:Nat))->RP I i O->RP I ⟨i.k,i.bad,i.dep+1,max i.dp (i.dep+1)⟩ R->aR I.X H O->aR I.X O R->s2.k<i.k->s2.dep<=i.dep->i.dep+4*(s2.k+1)<=s2.dep+4*i.k->(i.bad=false->i.dep=s2.dep)->s2.dp<=i.dp->
   (i.bad=false->eK X O iT e'.rn)->(i.bad=false->∀b dR e2,max i.dp (i.dep+1)<=s.dep+b->G (.jx e') b (I.W.drop i.k) dR (.e e2)->G (.jx e) b (I.W.drop s2.k) dR (.e e2))->
   ∃j,j<I.W.length-s2.k/\J j ⟨cC,84,R,[],false⟩:=by
   intro cC e' i R O q0 q3 q4 P S U k9 hk FQ G5 C8 FW hN hG;have C9:=S.kl;simp only at C9;refine⟨I.W.length-i.k,om,?_⟩;rw[hJ];refine⟨iT,e',⟨i.k,i.bad,i.dep+1,max i.dp (i.dep+1)⟩,D+1,rfl,rfl,rfl,rfl,S,⟨by simp only;omega,λa=>by have:=C8 a;simp only;omega⟩,by simp only;omega,by simp only;omega,λ_=>b2 B,by simp only;omega,λa=>?_,(y.trans U).trans k9,q0,q3,q4⟩;refine⟨by simp only;omega,λb u=>?_,(hN a).move (Move.rx P.fr (xo.le (y.trans U).nx) k9)⟩;simp only at u;obtain⟨bQ,e0,g1,g2⟩:=f4 b om;exact⟨bQ,e0,g1,λdR e2 t=>g2 _ _ (hG a b dR e2 u t)⟩
  refine gO p3 (λt h4 p4 k4=>?_) λCL h4 p4 k4=>?_
  ·obtain⟨_,w,rs,hw,hk,F⟩:=eL t;have C4:=fJ hw;have m4:=m3.call p3.fr k4;simp[r0,r3];refine(IH (I.W.length-(s2.k+1)) om).ex I ⟨s2.k+1,s2.bad,s2.dep,s2.dp⟩ h4 (iT::X) _ rfl p4 m4.Ui (by simp only;omega) λF0 t2 s5 h5 Z a5 l5 f6 k5=>?_;have m5:=m4.call p4.fr k5;have C5:=m5.lt;have K:iT≠h5.nx:=om;have g5:=m5.get;simp[ND.obj]at g5;simp[r0,g5,K];obtain⟨h6,e6,m6,A⟩:=m5.Te Z v.fr v.bl rfl (rJ:=s5.bad=false) (λ_=>trivial) id F0 e.rn t2.rn (λ_=>f5) (λo=>(f6 o).2.2)
   try simp at e6
   rw[e6];refine gd A λs7 h7 C V GL d7 f7 k7=>?_;have m7:=m6.call A.fr k7;simp[r0];have F1:=a5.k;have F2:=a5.lo;have F3:=a5.wM;have F4:=a5.dp;have Gq:=V.k;have H2:=V.lo;have H3:=V.wM;have H4:=C.kl;simp only at F1 F2 F3 F4 l5;refine uJ C om λO P U=>?_;simp[r4,w3];refine again _ (.index w.at e t2) s7 O h7 (by simp[r0]) sp sp C P m7.kx U om om om (λa=>by have h1:=V.dep a;have h2:=a5.dep (V.bad a);simp only at h2;omega) om (λa=>m7.done (V.bad a) (.mk [105,110,100,101,120] [] [] 0 [e.rn,t2.rn]) rfl rfl rfl rfl rfl) (λa b dR e2 u t=>?_);obtain⟨c,C6,c1,c2,c3,c4⟩:=f7 a;obtain⟨q1,q2,q3⟩:=f6 (V.bad a);obtain⟨b',rfl⟩:∃b',b=b'+1:=⟨b-1,om⟩
   have h2:=a5.dep (V.bad a);have:=q2 b' (by simp only at h2⊢;omega);simp only at this;rw[F,c1]at this;rw[hw];rw[c3]at t;exact .Aw hk this c2 t
  ·have m4:=m3.aH p3.fr k4;simp[r0];refine gO p4 (λt h5 Z k5=>?_) λF5 h5 Z k5=>?_
   ·obtain⟨_,w,rs,hw,hk,F⟩:=eL t;have C4:=fJ hw;have m5:=m4.call p4.fr k5;have g5:=m5.get;simp[ND.obj]at g5;have C5:=m5.lt;have K:iT≠h5.nx:=om;simp[r0,r3,g5,K];obtain⟨_,rfl,m6,A⟩:=m5.put Z v.bl ⟨[100,111,116],[],[],0,.Z,[]⟩ rfl rfl;obtain⟨h7,e7,m7,C⟩:=m6.Ml A v.fr v.bl rfl (rJ:=True) (λ_=>trivial) id e.rn (λ_=>f5);simp[ND.obj]at e7;rw[e7];refine vW C λnm s8 O P N A1 d8 l8 f8 U=>?_;have m8:=m7.call C.fr U;have g8:=m8.get;simp[ND.obj]at g8;simp[r0,g8];obtain⟨R,e9,m9,S⟩:=m8.put P v.bl ⟨[100,111,116],nm,[],0,.S h5.nx 1,[(id,e.rn)]⟩ rfl rfl;simp[ND.obj]at e9;rw[e9];have A2:=N.k;have A3:=N.lo;have A4:=N.wM;have A5:=N.dp;have F6:=P.kl;simp only at A2 A3 A4 A5 A1 d8;refine uJ S om λhA pA kA=>?_;simp[r4,w3];refine again _ (.fN w.at nm e) s8 hA R (by simp[r0]) sp sp S pA m9.kx kA om om om (λa=>by have h1:=N.dep a;simp only at h1;omega) om (λa=>m9.done trivial (.mk [100,111,116] nm [] 0 [e.rn]) rfl rfl rfl rfl rfl) (λa b dR e2 u t=>?_);obtain⟨c,C6,c1,c2,c3,c4,c5⟩:=f8 a;simp only at c1;rw[F]at c1;rw[hw,c1];rw[c4]at t;subst c3;exact .Ax hk c2 t
   ·have m5:=m4.aH p4.fr k5;simp[r0];refine gO Z (λt h6 A k6=>?_) λF7 h6 A k6=>?_
    ·obtain⟨_,w,rs,hw,hk,F⟩:=eL t;have C4:=fJ hw;have m5:=m5.call Z.fr k6;have g5:=m5.get;simp[ND.obj]at g5;have C5:=m5.lt;have K:iT≠h6.nx:=om;simp[r0,r3,g5,K];obtain⟨_,rfl,m6,FF⟩:=m5.put A v.bl ⟨[97,114,114,111,119],[],[],0,.Z,[]⟩ rfl rfl;obtain⟨h7,e7,m7,C⟩:=m6.Ml FF v.fr v.bl rfl (rJ:=True) (λ_=>trivial) id e.rn (λ_=>f5);simp[ND.obj]at e7;rw[e7];refine vW C λnm s8 O P N A1 d8 l8 f8 U=>?_;have m8:=m7.call C.fr U;have g8:=m8.get;simp[ND.obj]at g8;simp[r0,g8];obtain⟨R,e9,m9,S⟩:=m8.put P v.bl ⟨[97,114,114,111,119],nm,[],0,.S h6.nx 1,[(id,e.rn)]⟩ rfl rfl;simp[ND.obj]at e9;rw[e9];have A2:=N.k;have A3:=N.lo;have A4:=N.wM;have A5:=N.dp;have F6:=P.kl;simp only at A2 A3 A4 A5 A1 d8;refine uJ S om λhA pA kA=>?_;simp[r4,w3];refine again _ (.arrow w.at nm e) s8 hA R (by simp[r0]) sp sp S pA m9.kx kA om om om (λa=>by have h1:=N.dep a;simp only at h1;omega) om (λa=>m9.done trivial (.mk [97,114,114,111,119] nm [] 0 [e.rn]) rfl rfl rfl rfl rfl) (λa b dR e2 u t=>?_);obtain⟨c,C6,c1,c2,c3,c4,c5⟩:=f8 a;simp only at c1;rw[F]at c1;rw[hw,c1];rw[c4]at t;subst c3;exact .Ay hk c2 t
    ·have m6:=m5.aH Z.fr k6;obtain⟨nd,pg⟩:=A.prog;have o6:=A.obj;simp[r0,o6,pg];have Au:aR I.X h6 (h6.set I.g (.C [I.l1,I.l2,I.l3,I.l4,.I (IntKind.wrap .i64 (nd-1)),.I s2.dp])):=aR.set _ (aR.refl _ _) (.inl (by simp[RI.X])) A.gl;have C:=A.yX (s':=s2) Au (by rw[ah.aM,ay A.rg];exact o6) ⟨_,by rw[ah.aM,aY rfl]⟩ A.kl A.dd A.d2;generalize h6.set I.g (.C [I.l1,I.l2,I.l3,I.l4,.I (IntKind.wrap .i64 (nd-1)),.I s2.dp])=h7 at*;have kX:=y.trans (m6.kx.trans Au);have f7:=f5.move (Move.rx v.fr (xo.le y.nx) (m6.kx.trans Au));refine bz (λm x=>∃j,j<=D/\m=D-j/\x.n=84/\x.ds=[]/\x.bX=false/\RP I ⟨s2.k,s2.bad,s2.dep-j,s2.dp⟩ x.h/\aR I.X h7 x.h/\
      x.rg.get 0=some (.P I.r)/\x.rg.get 3=some (.P id)/\x.rg.get 4=some (.I D)/\x.rg.get 6=some (.I j)) D ?_ ?_
     ·exact⟨0,om,sp,rfl,rfl,rfl,C,aR.refl _ _,by simp[r0],by simp[r3],by simp[r4],sp⟩
     rintro m ⟨H5,nu,HU,H6,G2⟩ ⟨j,hj,rfl,u1,u2,u3,pU,kU,q0,q3,q4,q6⟩
     dsimp only at u1 u2 u3 pU kU q0 q3 q4 q6;subst u1 u2 u3;by_cases FO:j<D
     ·have wj:=U8 j;simp[q0,q4,q6,FO];refine Cs pU (d:=s2.dep-(j+1)) (by simp only;omega) λhV pV kV=>?_;simp[q0,q3,q4,q6];exact⟨D-(j+1),om,j+1,om,rfl,pV,kU.trans kV,wj⟩
     ·have FP:j=D:=om;subst FP;simp[q3,q4,q6];refine hQ id e _ HU pU ⟨k2,C3,b2,by simp only;omega,by simp only;omega,λa=>by simp only;omega⟩ (λa=>?_) (kX.trans kU);refine⟨f3,λb u=>?_,f7.move (Move.rx C.fr (xo.le kX.nx) kU)⟩;obtain⟨bQ,e0,g1,g2⟩:=f4 b u;exact⟨bQ,e0,g1,g2 _ _ (.uV (by simp only[anyS,List.any_cons,List.any_nil,gQ CL B,gQ F5 B,gQ F7 B];rfl))⟩
end
section
section
variable{I:RI}{s:RS}{h H:ah}{X:cB}{iT:Nat}{ok rJ:Prop}{d:ND}
theorem RP.new(p:RP I s h){i:Nat}(o:dK)(g:h.get i=none)(hi:i<h.nx):RP I s (h.set i o):=by
 obtain⟨nd,a⟩:=p.prog;exact p.put o (λe=>by rw[e,p.obj]at g;cases g) (λe=>by rw[e,a]at g;cases g) (λe=>by rw[e,p.arr]at g;cases g) hi
theorem NM.push(m:NM I X h iT ok d H)(p:RP I s H)(bl:I.b<h.nx){id:Nat}{t:RN}(J:rJ->ok)(e:rJ->eK (aT d.av++iT::X) H id t){j:Nat}(g:H.get j=none)(Z:j<H.nx)(K:h.nx<=j)(hl:d.qs.length<=300):
 ∃f,aK env (H.set j (.D 1 [.P id])) 89 d.av (.S j 1)=some (.S H.nx (d.qs.length+1),f)/\f.get iT=some d.obj/\f.nx=H.nx+1/\
  NM I X h iT rJ ⟨d.op,d.nm,d.ty,d.n,.S H.nx (d.qs.length+1),d.qs++[(id,t)]⟩ (f.set iT (.C [.str d.op,.str d.nm,.str d.ty,.I d.n,.S H.nx (d.qs.length+1),.str [],.I 0]))/\RP I s (f.set iT (.C [.str d.op,.str d.nm,.str d.ty,.I d.n,.S H.nx (d.qs.length+1),.str [],.I 0])):=by
 have N:=p.new (.D 1 [.P id]) g Z;have w:∀Y,Move Y Y H (H.set j (.D 1 [.P id])):=λY=>Move.new _ g;have O:iT≠j:=λe=>by rw[<-e,m.get]at g;cases g
 have A:=m.arr.move (w _);have u:(H.set j (.D 1 [.P id])).nx=H.nx:=rfl
 obtain⟨f,ha,nx,g7,F⟩:=wG (st:=89) (e:=65) rfl ty65.1 ty65.2.1 dc ty65.2.2.2 A hl j id t sp N.fr;rw[u]at ha nx g7;have rl:=m.xo.lt _ m.xo.r;have gl:=m.xo.lt _ m.xo.g;have p7:=N.off F (λa=>by have:=(m.z _ a).1;omega) (λa=>by have:=(m.z _ a).1;omega) (λa=>by have:=(m.z _ a).1;omega);have P:f.get iT=some d.obj:=by
  rw[F.old iT (by rw[u];exact m.lt) (λa=>(m.z iT a).2.1 rfl),ah.aM,ay O];exact m.get
 have nr:=m.nr;have lo:=m.lo;have Q:iT≠I.b:=om
 have lt7:iT<f.nx:=by rw[nx];have:=m.lt;omega
 have R:aR I.X h f:=(aR.set _ m.kx (.inr K) Z).trans' F (λz a A1=>by have:=(m.z z a).1;omega);have S:∀y,y∈H.nx::iT::X->y∈aT d.av++iT::X\/H.nx<=y:=λy B=>by
  rcases ak.1 B with rfl|B
  ·exact .inr (ao _)
  ·exact .inl (bw _ B)
 have U:Move (aT d.av++iT::X) (H.nx::iT::X) H f:=(w _).comp (Move.of N.fr F (λz a _=>eJ _ a) (λy B=>by rw[u];exact S y B));have V:∀o,Move (H.nx::iT::X) (H.nx::iT::X) f (f.set iT o):=λo=>Move.on o (au _ (bc ..));have C:∀o,Move (aT d.av++iT::X) (H.nx::iT::X) H (f.set iT o):=λo=>U.comp (V o);have v:H.nx≠iT:=by have:=m.lt;omega
 have W:H.nx∉iT::X:=by
  intro D;rcases ak.1 D with D|D
  ·exact v D
  ·have:=(m.xo.le m.kx.nx).lt _ D;omega
 refine⟨f,ha,P,nx,⟨by rw[ah.aM,aY rfl];rfl,m.lo,lt7,aR.set _ R (.inr m.lo) lt7,m.xo,.inr ⟨H.nx,sp,W,?_⟩,?_,?_⟩,p7.put _ nr.1 nr.2 Q lt7⟩
 ·rw[ah.aM,ay v,g7]
 ·intro o q i;have i:q∈d.qs++[(id,t)]:=i;rcases aP.1 i with i|i
  ·exact(m.sub (J o) q i).move (C _)
  ·simp only[aQ]at i;subst i;exact(e o).move (C _)
 ·intro z a;have a:z∈[H.nx]:=a;simp only[aQ]at a;subst a;have:=m.lt;have:=m.kx.nx;exact⟨om,v,by simp[nx]⟩
end
end
end Go.Proofs.YtaekaifihehgdaaGreatDoor
