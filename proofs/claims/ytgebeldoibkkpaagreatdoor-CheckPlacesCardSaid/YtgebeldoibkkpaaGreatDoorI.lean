/- Lemmas for CheckPlaces; each states its own conditions. -/
import Derived.Test.YtgebeldoibkkpaaGreatDoorH
set_option maxRecDepth 100000
set_option maxHeartbeats 0
set_option linter.unusedVariables false
set_option linter.unusedSimpArgs false
set_option linter.unusedSectionVars false
namespace Go.Proofs.YtgebeldoibkkpaaGreatDoor
open Go.Am Tryz
section
attribute [local simp] aI
inductive RN where
 |mk (op nm ty:List UInt8) (n:Int) (ks:List RN)
def RN.op:RN->List UInt8| .mk o _ _ _ _=>o
def RN.nm:RN->List UInt8| .mk _ o _ _ _=>o
def RN.ty:RN->List UInt8| .mk _ _ o _ _=>o
def RN.n:RN->Int| .mk _ _ _ o _=>o
def RN.ks:RN->List RN| .mk _ _ _ _ o=>o
mutual
def Ex.rn:Ex->RN
 | .num _ n=> .mk [110,117,109] [] [] n []
 | .var _ s=> .mk [110,97,109,101] s [] 0 []
 | .un _ op a=> .mk [117,110] op [] 0 [a.rn]
 | .bin _ op a b=> .mk [98,105,110] op [] 0 [a.rn,b.rn]
 | .cast _ ty a=> .mk [99,97,115,116] [] ty 0 [a.rn]
 | .call _ f xs=> .mk [99,97,108,108] f [] 0 (Qr xs)
 | .index _ a i=> .mk [105,110,100,101,120] [] [] 0 [a.rn,i.rn]
 | .mr _ nm a=> .mk [100,111,116] nm [] 0 [a.rn]
 | .arrow _ nm a=> .mk [97,114,114,111,119] nm [] 0 [a.rn]
 | .Cf _=> .mk [105,110] [] [] 0 []
 | .size _ ty=> .mk [115,105,122,101,111,102] [] ty 0 []
def Qr:List Ex->List RN
 |[]=>[]
 |e::es=>e.rn::Qr es
end
theorem W6(l:List Ex):Qr l=l.map Ex.rn:=by
 induction l with
 |nil=>rfl
 |cons x l ih=>simp[Qr,ih]
def rnO:Option Ex->List RN
 |none=>[]
 |some e=>[e.rn]
mutual
def fp.rn:fp->RN
 | .block _ l=> .mk [98,108,111,99,107] [] [] 0 (UG l)
 | .empty _=> .mk [101,109,112,116,121] [] [] 0 []
 | .decl _ ty nm e=> .mk [100,101,99,108] nm ty 0 (rnO e)
 | .assign _ to e=> .mk [97,115,115,105,103,110] [] [] 0 [to.rn,e.rn]
 | .eval _ e=> .mk [101,120,112,114] [] [] 0 [e.rn]
 | .ifs _ e s=> .mk [105,102] [] [] 0 [e.rn,s.rn]
 | .LO _ e s t=> .mk [105,102] [] [] 0 [e.rn,s.rn,t.rn]
 | .LP _ e s=> .mk [119,104,105,108,101] [] [] 0 [e.rn,s.rn]
 | .NP _=> .mk [98,114,101,97,107] [] [] 0 []
 | .cont _=> .mk [99,111,110,116,105,110,117,101] [] [] 0 []
 | .ret _ e=> .mk [114,101,116,117,114,110] [] [] 0 (rnO e)
 | .out _ e=> .mk [111,117,116] [] [] 0 [e.rn]
def UG:List fp->List RN
 |[]=>[]
 |e::es=>e.rn::UG es
end
theorem W7(l:List Sm):UG l=l.map fp.rn:=by
 induction l with
 |nil=>rfl
 |cons x l ih=>simp[UG,ih]
def RN.dx(r:RN)(av:AV)(is:List UInt8)(ref:Int):List AV:=[.str r.op,.str r.nm,.str r.ty,.I r.n,av,.str is,.I ref]
inductive tO(X:List Nat)(h:ah):Nat->RN->Prop where
 |mk {id:Nat} {r:RN} {av:AV} {qs:List (Nat×RN)} (obj:h.get id=some (.C (r.dx av [] 0))) (nx:id∉X) (arr:dP X h av qs) (ha:qs.map Prod.snd=r.ks) (sub:∀p,p∈qs->tO X h p.1 p.2):tO X h id r
theorem tO.move{X Y:List Nat}{h h':ah}(s:Move X Y h h'){id:Nat}{t:RN}(e:tO X h id t):tO Y h' id t:=by
 induction e with
 |mk obj nx arr ha sub ih=>exact .mk (s.aJ _ _ obj nx).1 (s.aJ _ _ obj nx).2 (arr.move s) ha ih
structure RS where
 k:Nat
 bad:Bool
 dep:Nat
 dp:Nat
structure RI where
 r:Nat
 g:Nat
 b:Nat
 W:List Wo
 l1:AV
 l2:AV
 l3:AV
 l4:AV
abbrev RI.ws(I:RI)(s:RS):List Wo:=I.W.drop s.k
abbrev RI.X(I:RI):List Nat:=[I.r,I.g]
structure RP(I:RI)(s:RS)(h:ah):Prop where
 obj:h.get I.r=some (.C [.S I.b I.W.length,.I s.k,.bool s.bad,.P I.g,.I s.dep])
 prog:∃nd:Int,h.get I.g=some (.C [I.l1,I.l2,I.l3,I.l4,.I nd,.I s.dp])
 arr:h.get I.b=some (.cells true 5 (fN I.W))
 rg:I.r≠I.g
 rb:I.r≠I.b
 gb:I.g≠I.b
 rl:I.r<h.next
 gl:I.g<h.next
 bl:I.b<h.next
 fr:cM h
 kl:s.k<=I.W.length
 dd:s.dep<=s.dp
 d2:s.dp<=3000
 Bj:S7 I.W
structure XO(I:RI)(X:List Nat)(h:ah):Prop where
 r:I.r∈X
 g:I.g∈X
 lt:∀x,x∈X->x<h.next
structure kc(s s':RS):Prop where
 k:s.k<=s'.k
 dp:s.dp<=s'.dp
 bad:s'.bad=false->s.bad=false
 lo:s.dep<=s'.dep
 xA:s'.dep+4*s.k<=s.dep+4*s'.k
 dep:s'.bad=false->s'.dep=s.dep
theorem kc.of{s s':RS}(hk:s.k<=s'.k)(hd:s'.dep=s.dep)(hp:s.dp<=s'.dp)(hb:s'.bad=false->s.bad=false):kc s s':=⟨hk,hp,hb,Nat.le_of_eq hd.symm,om,fun _=>hd⟩
theorem kc.refl(s:RS):kc s s:= .of (ao _) rfl (ao _) id
theorem kc.trans{a b c:RS}(h:kc a b)(h':kc b c):kc a c:=⟨bk h.k h'.k,bk h.dp h'.dp,fun x=>h.bad (h'.bad x),bk h.lo h'.lo,by have:=h.xA;have:=h'.xA;omega,fun x=>(h'.dep x).trans (h.dep (h'.bad x))⟩
section
variable{I:RI}{s s':RS}{h h':ah}{X:List Nat}
theorem RP.aJ(p:RP I s h)(kk:aS h h'):RP I s h':=by
 obtain⟨nd,pg⟩:=p.prog;exact⟨(kk.old _ p.rl).trans p.obj,⟨nd,(kk.old _ p.gl).trans pg⟩,(kk.old _ p.bl).trans p.arr,p.rg,p.rb,p.gb,aw p.rl kk.next,aw p.gl kk.next,aw p.bl kk.next,kk.fresh p.fr,p.kl,p.dd,p.d2,p.Bj⟩
theorem RP.AG(p:RP I s h)(kx:aQ I.X h h')
 (o:h'.get I.r=some (.C [.S I.b I.W.length,.I s'.k,.bool s'.bad,.P I.g,.I s'.dep]))
 (g:∃nd:Int,h'.get I.g=some (.C [I.l1,I.l2,I.l3,I.l4,.I nd,.I s'.dp])) (hk:s'.k<=I.W.length) (hd:s'.dep<=s'.dp) (h2:s'.dp<=3000):RP I s' h':=
 ⟨o,g,(kx.old _ p.bl (by simp[RI.X];exact⟨p.rb.symm,p.gb.symm⟩)).trans p.arr,p.rg,p.rb,p.gb,aw p.rl kx.next,aw p.gl kx.next,aw p.bl kx.next,kx.fresh p.fr,hk,hd,h2,p.Bj⟩
theorem RP.off(p:RP I s h){Z:List Nat}(kx:aQ Z h h')(h1:I.r∉Z)(h2:I.g∉Z)(h3:I.b∉Z):RP I s h':=by
 obtain⟨nd,pg⟩:=p.prog;exact⟨(kx.old _ p.rl h1).trans p.obj,⟨nd,(kx.old _ p.gl h2).trans pg⟩,(kx.old _ p.bl h3).trans p.arr,p.rg,p.rb,p.gb,aw p.rl kx.next,aw p.gl kx.next,aw p.bl kx.next,kx.fresh p.fr,p.kl,p.dd,p.d2,p.Bj⟩
theorem RP.put(p:RP I s h){i:Nat}(o:ej)(h1:i≠I.r)(h2:i≠I.g)(h3:i≠I.b)(hi:i<h.next):RP I s (h.set i o):=
 p.off (Z:=[i]) (aQ.set _ (aQ.refl _ _) (.inl sp) hi) (by simp;exact h1.symm) (by simp;exact h2.symm) (by simp;exact h3.symm)
theorem XO.le(x:XO I X h)(hl:h.next<=h'.next):XO I X h':=⟨x.r,x.g,fun y hy=>aw (x.lt y hy) hl⟩
theorem XO.nx(x:XO I X h){i:Nat}(hi:h.next<=i):i∉X:=fun hx=>by have:=x.lt i hx;omega
theorem Move.rx(f:cM h)(x:XO I X h)(k:aQ I.X h h'):Move X X h h':=
 Move.of f k (fun z hz _=>by
  simp[RI.X]at hz;rcases hz with h1|h1
  ·rw[h1];exact x.r
  ·rw[h1];exact x.g) fun _ hy=> .inl hy
structure ND where
 op:List UInt8
 nm:List UInt8
 ty:List UInt8
 n:Int
 av:AV
 qs:List (Nat×RN)
def ND.obj(d:ND):ej:= .C [.str d.op,.str d.nm,.str d.ty,.I d.n,d.av,.str [],.I 0]
structure NM(I:RI)(X:List Nat)(h:ah)(iT:Nat)(ok:Prop)(d:ND)(H:ah):Prop where
 get:H.get iT=some d.obj
 lo:h.next<=iT
 lt:iT<H.next
 kx:aQ I.X h H
 xo:XO I X h
 arr:dP (iT::X) H d.av d.qs
 sub:ok->∀q,q∈d.qs->tO (aK d.av++iT::X) H q.1 q.2
 z:∀z,z∈aK d.av->h.next<=z/\z≠iT/\z<H.next
end
section
variable{I:RI}{s s':RS}{h H H':ah}{X:List Nat}{iT:Nat}{ok tw:Prop}{d:ND}
theorem NM.pQ(m:NM I X h iT ok d H):XO I (aK d.av++iT::X) H:=⟨bJ _ (ay _ m.xo.r),bJ _ (ay _ m.xo.g),fun y hy=>by
 rcases aP.1 hy with hy|hy
 ·exact(m.z y hy).2.2
 ·rcases aq.1 hy with rfl|hy
  ·exact m.lt
  ·exact(m.xo.le m.kx.next).lt y hy⟩
theorem NM.nr(m:NM I X h iT ok d H):iT≠I.r/\iT≠I.g:=by
 have:=m.xo.lt _ m.xo.r;have:=m.xo.lt _ m.xo.g;have:=m.lo;omega
theorem NM.call(m:NM I X h iT ok d H)(fr:cM H)(kx:aQ I.X H H'):NM I X h iT ok d H':=by
 have mv:Move (aK d.av++iT::X) (aK d.av++iT::X) H H':=Move.rx fr m.pQ kx;have WX:Move (iT::X) (iT::X) H H':=Move.rx fr ⟨ay _ m.xo.r,ay _ m.xo.g,fun y hy=>m.pQ.lt y (bJ _ hy)⟩ kx;have nx:=kx.next;have nr:=m.nr;exact⟨(kx.old iT m.lt (by simp[RI.X,nr.1,nr.2])).trans m.get,m.lo,aw m.lt nx,m.kx.trans kx,m.xo,m.arr.move WX,fun o q hq=>(m.sub o q hq).move mv,fun z hz=>⟨(m.z z hz).1,(m.z z hz).2.1,aw (m.z z hz).2.2 nx⟩⟩
theorem NM.aJ(m:NM I X h iT ok d H)(fr:cM H)(kk:aS H H'):NM I X h iT ok d H':=m.call fr (kk.x _)
theorem NM.nW(m:NM I X h iT ok d H)(hw:tw->ok):NM I X h iT tw d H:=⟨m.get,m.lo,m.lt,m.kx,m.xo,m.arr,fun o=>m.sub (hw o),m.z⟩
theorem NM.put(m:NM I X h iT ok d H)(p:RP I s H)(bl:I.b<h.next)(d':ND)(rQ:d'.av=d.av)(hq:d'.qs=d.qs):∃H',H.set iT d'.obj=H'/\NM I X h iT ok d' H'/\RP I s H':=by
 have mv:∀o,Move (aK d.av++iT::X) (aK d.av++iT::X) H (H.set iT o):=fun o=>Move.on o (bJ _ (aY ..));have WX:∀o,Move (iT::X) (iT::X) H (H.set iT o):=fun o=>Move.on o (aY ..);have nr:=m.nr;have lo:=m.lo;exact⟨_,rfl,⟨by rw[ah.aM,aW rfl],m.lo,m.lt,aQ.set _ m.kx (.inr m.lo) m.lt,m.xo,by rw[rQ,hq];exact m.arr.move (WX _),fun o q hq'=>by rw[rQ];rw[hq]at hq';exact(m.sub o q hq').move (mv _),by rw[rQ];exact m.z⟩,p.put _ nr.1 nr.2 om m.lt⟩
theorem NM.new{h1:ah}(p:RP I s h1)(kx:aQ I.X h h1)(xo:XO I X h)(d:ND)(rQ:d.av= .Z)(hq:d.qs=[]):NM I X h h1.next ok d (h1.alloc d.obj).2:=
 ⟨by rw[ah.dz,aW rfl],kx.next,sp,aQ.alloc _ kx,xo,.inl ⟨hq,rQ⟩,by rw[hq];simp,by rw[rQ];simp[aK]⟩
theorem NM.done(m:NM I X h iT ok d H)(o:ok)(t:RN)(h1:d.op=t.op)(h2:d.nm=t.nm)(h3:d.ty=t.ty)(h4:d.n=t.n)(h5:d.qs.map Prod.snd=t.ks):tO X H iT t:=by
 refine .mk (av:=d.av) (qs:=d.qs) (by rw[m.get];simp[ND.obj,RN.dx,h1,h2,h3,h4]) (m.xo.nx m.lo) (m.arr.move (Move.less fun y hy=>ay _ hy)) h5 fun q hq=>(m.sub o q hq).move (Move.less fun y hy=>bJ _ (ay _ hy))
theorem NM.list(m:NM I X h iT ok d H)(p:RP I s H)(bl:I.b<h.next)(rQ:d.av= .Z){j:Nat}(hj:h.next<=j)(Rf:j<H.next)(UE:iT≠j)(qs:List (Nat×RN))(g:H.get j=some (.cells true 1 (qs.map fun p=> .P p.1)))(sub:ok->∀q,q∈qs->tO (j::iT::X) H q.1 q.2)(nx:j∉iT::X):
 ∃H',H.set iT ((⟨d.op,d.nm,d.ty,d.n,.S j qs.length,qs⟩:ND).obj)=H'/\NM I X h iT ok ⟨d.op,d.nm,d.ty,d.n,.S j qs.length,qs⟩ H'/\RP I s H':=by
 have nr:=m.nr;have lo:=m.lo;refine⟨_,rfl,⟨by rw[ah.aM,aW rfl],m.lo,m.lt,aQ.set _ m.kx (.inr m.lo) m.lt,m.xo,.inr ⟨j,rfl,nx,by rw[ah.aM,az (iw UE)];exact g⟩,fun o q hq=>(sub o q hq).move (Move.on _ sp),?_⟩,p.put _ nr.1 nr.2 om m.lt⟩;intro z hz;simp[aK]at hz;subst hz;exact⟨hj,UE.symm,Rf⟩
end
theorem G.Mw{b l l':Nat}{ws dh:List Wo}{e e':Ex}(h:G (.steps l e) b ws dh (.e e'))(hl:l'<=l):G (.steps l' e) b ws dh (.e e'):=by
 have key:∀t b ws dh r,G t b ws dh r->∀e e',t= .steps l e->r= .e e'->G (.steps l' e) b ws dh (.e e'):=by
  intro t b ws dh r h;induction h with
  |stop=>intro e e' h1 h2;cases h1;cases h2;exact .stop
  |step ho nJ hr hs _ ih=>intro e e' h1 h2;cases h1;cases h2;exact .step ho (bk hl nJ) hr (ih _ _ rfl rfl)
  |_=>intro e e' h1 h2;cases h1
 exact key _ _ _ _ _ h _ _ rfl rfl
theorem G.J4{b l:Nat}{ws cq eK:List Wo}{e e1 e2:Ex}(h:G (.steps l e) b ws cq (.e e1))(h':G (.steps l e1) b cq eK (.e e2)):G (.steps l e) b ws eK (.e e2):=by
 have key:∀t b ws dh r,G t b ws dh r->∀e e',t= .steps l e->r= .e e'->∀eK e2,G (.steps l e') b dh eK (.e e2)->G (.steps l e) b ws eK (.e e2):=by
  intro t b ws dh r h;induction h with
  |stop=>intro e e' h1 h2 eK e2 h3;cases h1;cases h2;exact h3
  |step ho nJ hr hs _ ih=>intro e e' h1 h2 eK e2 h3;cases h1;cases h2;exact .step ho nJ hr (ih _ _ rfl rfl _ _ h3)
  |_=>intro e e' h1 h2;cases h1
 exact key _ _ _ _ _ h _ _ rfl rfl _ _ h'
theorem G.abQ{b:Nat}{ws cq eK:List Wo}{e e1 e2:Ex}(h:∀eK e2,G (.kj e1) b cq eK (.e e2)->G (.kj e) b ws eK (.e e2))(h':G (.kj e1) b cq eK (.e e2)):G (.kj e) b ws eK (.e e2):=h _ _ h'
end
section
attribute [local simp] aI
def pH(I:RI)(s:RS)(t:List UInt8):Bool:=!s.bad&&du (I.W.drop s.k) t
theorem fV{I:RI}{s:RS}{t:List UInt8}(h:pH I s t=true):s.bad=false/\∃w rs,I.W.drop s.k=w::rs/\ja w t/\I.W.drop (s.k+1)=rs:=by
 simp only[pH,eM,Bool.not_eq_true']at h;obtain⟨w,rs,e,hk⟩:=uV.1 h.2;exact⟨h.1,w,rs,e,hk,mX e⟩
theorem iK{I:RI}{s:RS}{t:List UInt8}(h:pH I s t=false)(hb:s.bad=false):du (I.W.drop s.k) t=false:=by
 simpa[pH,hb]using h
theorem fT{W:List Wo}{k:Nat}{w:Wo}{rs:List Wo}(h:W.drop k=w::rs):k<W.length:=by
 rcases eW k W.length with h1|h1
 ·exact h1
 ·rw[List.drop_eq_nil_of_le h1]at h;cases h
theorem CC{W:List Wo}{k:Nat}(h:W.drop k=[]):W.length<=k:=by
 have:=wz List.length h;rw[bU,bz]at this;omega
structure adZ(W:List Wo)(k:Nat)(w:Wo):Prop where
 c0:(fN W)[k*5]?=some (.I w.kind)
 c1:(fN W)[k*5+1]?=some (.str w.text)
 c2:(fN W)[k*5+2]?=some (.I w.n)
 d0:((fN W).drop (k*5)).take 5=w.cells
 d3:((fN W).drop (k*5+3)).take 2=[.I w.l,.I w.c]
 l5:k*5+5<=(fN W).length
 l3:k*5+3+2<=(fN W).length
theorem xB{W:List Wo}{k:Nat}{w:Wo}{ws:List Wo}(h:W.drop k=w::ws):adZ W k w:=by
 obtain⟨c0,c1,c2,d0,d3,l5,l3⟩:=yB h;rw[Nat.mul_comm 5 k]at c0 c1 c2 d0 d3 l5 l3;exact⟨c0,c1,c2,d0,d3,l5,l3⟩
section
variable{I:RI}{s:RS}{h h0:ah}{X:List Nat}{Q:Out->ah->Prop}
theorem Av{t:List UInt8}(p:RP I s h)(hQ:∀h',RP I s h'->aS h h'->Q (.ret (.bool (pH I s t))) h'):
 aV env 44 [.P I.r,.str t] h Q:=by
 refine wb fn44 rfl ?_;have Aq:∀h',aS h h'->∀b,pH I s t=b->Q (.ret (.bool b)) h':=fun h' k b e=>e▸hQ h' (p.aJ k) k;obtain⟨o,⟨nd,pg⟩,ar,rg,rb,gb,rl,gl,bl,fr,kl,dd,d2,ok⟩:=p;simp[f44];refine Dd ?_;cases hb:s.bad with
 |true=>
  simp[o,hb]
  repeat refine di ?_
  exact Aq _ kT _ (by simp[pH,hb])
 |false=>
  cases hw:I.W.drop s.k with
  |nil=>
   have hl:=CC hw;have h1:¬s.k<I.W.length:=om;simp[o,hb,h1]
   repeat refine di ?_
   exact Aq _ kT _ (by simp[pH,hb,hw,du])
  |cons w rs=>
   have hl:=fT hw;obtain⟨c0,c1,c2,d0,d3,l5,l3⟩:=xB hw;cases ht:(w.text==t)with
   |false=>
    simp[o,hb,hl,ar,c0,c1,ht]
    repeat refine di ?_
    exact Aq _ kT _ (by simp[pH,hb,hw,du,ht])
   |true=>
    simp[o,hb,hl,ar,c0,c1,ht]
    repeat refine di ?_
    exact Aq _ kT _ (by simp[pH,hb,hw,du,ht])
theorem iL{t:List UInt8}(p:RP I s h)(hQ1:pH I s t=true->∀h',RP I {s with k:=s.k+1} h'->aQ I.X h h'->Q (.ret (.bool true)) h')(hQ0:pH I s t=false->∀h',RP I s h'->aS h h'->Q (.ret (.bool false)) h'):
 aV env 40 [.P I.r,.str t] h Q:=by
 refine wb fn40 rfl ?_;simp[f40];refine Av p fun h2 p2 k2=>?_;cases hs:pH I s t with
 |false=>
  simp;exact hQ0 hs _ p2 k2
 |true=>
  obtain⟨hb,w,rs,hw,hk,hd⟩:=fV hs;have hl:=fT hw;have wF:=p2;obtain⟨o,⟨nd,pg⟩,ar,rg,rb,gb,rl,gl,bl,fr,kl,dd,d2,ok⟩:=p2;have wl:=ok.len;have w1:IntKind.wrap .i64 ((s.k:Int)+1)=((s.k+1:Nat):Int):=by rw[wr om om];omega
  simp[o,w1];have kx:aQ I.X h2 (h2.set I.r (.C [.S I.b I.W.length,.I ((s.k:Int)+1),.bool s.bad,.P I.g,.I s.dep])):=aQ.set _ (aQ.refl _ _) (.inl (by simp[RI.X])) rl;refine hQ1 hs _ (wF.AG kx sp ⟨nd,by rw[ah.aM,az rg.symm];exact pg⟩ (by simp;omega) dd d2) ((k2.x _).trans kx)
theorem iB{t:List UInt8}(p:RP I s h)(hQ:∀s' h',RP I s' h'->kc s s'->s'.k<=s.k+1->s'.dp=s.dp->(s'.bad=false->∃w rs,I.W.drop s.k=w::rs/\ja w t/\I.W.drop s'.k=rs/\s'.k=s.k+1)->aQ I.X h h'->Q (.ret (.iX [])) h'):
 aV env 43 [.P I.r,.str t] h Q:=by
 refine wb fn43 rfl ?_;simp[f43];refine iL p (fun hs h2 p2 k2=>?_) fun hs h2 p2 k2=>?_
 ·obtain⟨hb,w,rs,hw,hk,hd⟩:=fV hs;simp;exact hQ _ _ p2 (kc.of (cR _) rfl (ao _) id) (ao _) rfl (fun _=>⟨w,rs,hw,hk,hd,rfl⟩) k2
 ·have wF:=p2;obtain⟨o,⟨nd,pg⟩,ar,rg,rb,gb,rl,gl,bl,fr,kl,dd,d2,ok⟩:=p2;simp[o];have kx:aQ I.X h2 (h2.set I.r (.C [.S I.b I.W.length,.I s.k,.bool true,.P I.g,.I s.dep])):=aQ.set _ (aQ.refl _ _) (.inl (by simp[RI.X])) rl;exact hQ {s with bad:=true} _ (wF.AG kx sp ⟨nd,by rw[ah.aM,az rg.symm];exact pg⟩ kl dd d2) (kc.of (ao _) rfl (ao _) sp) (cR _) rfl sp ((k2.x _).trans kx)
theorem xC(p:RP I s h)(hQ:∀t s' h',RP I s' h'->kc s s'->s'.k<=s.k+1->s'.dp=s.dp->t.length<=65536->(s'.bad=false->∃w rs,I.W.drop s.k=w::rs/\w.kind=1/\t=w.text/\I.W.drop s'.k=rs/\s'.k=s.k+1)->aQ I.X h h'->Q (.ret (.str t)) h'):
 aV env 41 [.P I.r] h Q:=by
 refine wb fn41 rfl ?_;have p0:=p;obtain⟨o,⟨nd,pg⟩,ar,rg,rb,gb,rl,gl,bl,fr,kl,dd,d2,ok⟩:=p;have wl:=ok.len;simp[f41];refine Dd ?_;have fail:∀h2,aS h h2->∀h3,h3=h2.set I.r (.C [.S I.b I.W.length,.I s.k,.bool true,.P I.g,.I s.dep])->Q (.ret (.str [])) h3:=by
  rintro h2 k2 h3 rfl
  have kx:aQ I.X h2 (h2.set I.r (.C [.S I.b I.W.length,.I s.k,.bool true,.P I.g,.I s.dep])):=aQ.set _ (aQ.refl _ _) (.inl (by simp[RI.X])) (aw rl k2.next);exact hQ [] {s with bad:=true} _ ((p0.aJ k2).AG kx sp ⟨nd,by rw[ah.aM,az rg.symm];exact(k2.old _ gl).trans pg⟩ kl dd d2) (kc.of (ao _) rfl (ao _) sp) (cR _) rfl sp sp ((k2.x _).trans kx)
 cases hb:s.bad with
 |true=>
  simp[o,hb]
  repeat refine di ?_
  exact fail _ kT _ rfl
 |false=>
  cases hw:I.W.drop s.k with
  |nil=>
   have hl:=CC hw;have h1:(I.W.length:Int)<=(s.k:Int):=om;have h2:¬(s.k:Int)<(I.W.length:Int):=om;simp[o,hb,h1,h2,hl]
   repeat refine di ?_
   exact fail _ kT _ rfl
  |cons w rs=>
   have hl:=fT hw;obtain⟨c0,c1,c2,d0,d3,l5,l3⟩:=xB hw;have h1:¬(I.W.length:Int)<=(s.k:Int):=om;have h2:¬I.W.length<=s.k:=om;cases ht:(w.kind !=1)with
   |true=>
    simp[o,hb,hl,ar,c0,c1,ht,h1,h2]
    repeat refine di ?_
    exact fail _ kT _ rfl
   |false=>
    have hk:w.kind=1:=(by simpa using ht);have w1:IntKind.wrap .i64 ((s.k:Int)+1)=((s.k+1:Nat):Int):=(by rw[wr om om];omega);have w2:IntKind.wrap .i64 ((s.k:Int)+1-1)=((s.k:Nat):Int):=(by rw[wr om om];omega);have w3:IntKind.wrap .i64 (s.k:Int)=(s.k:Int):=(by rw[wr om om]);have hlI:(s.k:Int)<(I.W.length:Int):=om;have e1:(s.k:Int)+1+-1=(s.k:Int):=om;simp[o,hb,hl,ar,c0,c1,ht,h1,h2];refine Dd ?_;simp[o,hb,hl,hlI,ar,c0,c1,ht,w1,w2,w3,rb,rb.symm];have kx:aQ I.X (h.bump 30) ((h.bump 30).set I.r (.C [.S I.b I.W.length,.I ((s.k:Int)+1),.bool false,.P I.g,.I s.dep])):=aQ.set _ (aQ.refl _ _) (.inl (by simp[RI.X])) (by simp;omega);have k0:aS h (h.bump 30):=kT;have p2:=(p0.aJ k0).AG (s':={s with k:=s.k+1}) kx (by simp[hb]) ⟨nd,by rw[ah.aM,az rg.symm];exact pg⟩ (by simp;omega) dd d2;have k3:aS ((h.bump 30).set I.r (.C [.S I.b I.W.length,.I ((s.k:Int)+1),.bool false,.P I.g,.I s.dep])) (((h.bump 30).set I.r (.C [.S I.b I.W.length,.I ((s.k:Int)+1),.bool false,.P I.g,.I s.dep])).bump 13):=kT;have hm:w∈I.W:=wA (hw▸aY ..);exact hQ _ _ _ (p2.aJ k3) (kc.of (cR _) rfl (ao _) id) (ao _) rfl (ok.text w hm) (fun _=>⟨w,rs,hw,hk,rfl,mX hw,rfl⟩) ((k0.x _).trans (kx.trans (k3.x _)))
theorem J5(p:RP I s h)(hQ:∀t s' h',RP I s' h'->kc s s'->s'.k<=s.k+1->s'.dp=s.dp->(0<=t/\t<9223372036854775808)->(s'.bad=false->∃w rs,I.W.drop s.k=w::rs/\w.kind=2/\t=w.n/\I.W.drop s'.k=rs/\s'.k=s.k+1)->aQ I.X h h'->Q (.ret (.I t)) h'):
 aV env 68 [.P I.r] h Q:=by
 refine wb fn68 rfl ?_;have p0:=p;obtain⟨o,⟨nd,pg⟩,ar,rg,rb,gb,rl,gl,bl,fr,kl,dd,d2,ok⟩:=p;have wl:=ok.len;simp[f68];refine Dd ?_;have fail:∀h2,aS h h2->∀h3,h3=h2.set I.r (.C [.S I.b I.W.length,.I s.k,.bool true,.P I.g,.I s.dep])->Q (.ret (.I 0)) h3:=by
  rintro h2 k2 h3 rfl
  have kx:aQ I.X h2 (h2.set I.r (.C [.S I.b I.W.length,.I s.k,.bool true,.P I.g,.I s.dep])):=aQ.set _ (aQ.refl _ _) (.inl (by simp[RI.X])) (aw rl k2.next);exact hQ 0 {s with bad:=true} _ ((p0.aJ k2).AG kx sp ⟨nd,by rw[ah.aM,az rg.symm];exact(k2.old _ gl).trans pg⟩ kl dd d2) (kc.of (ao _) rfl (ao _) sp) (cR _) rfl sp sp ((k2.x _).trans kx)
 cases hb:s.bad with
 |true=>
  simp[o,hb]
  repeat refine di ?_
  exact fail _ kT _ rfl
 |false=>
  cases hw:I.W.drop s.k with
  |nil=>
   have hl:=CC hw;have h1:(I.W.length:Int)<=(s.k:Int):=om;have h2:¬(s.k:Int)<(I.W.length:Int):=om;simp[o,hb,h1,h2,hl]
   repeat refine di ?_
   exact fail _ kT _ rfl
  |cons w rs=>
   have hl:=fT hw;obtain⟨c0,c2,c2,d0,d3,l5,l3⟩:=xB hw;have h1:¬(I.W.length:Int)<=(s.k:Int):=om;have h2:¬I.W.length<=s.k:=om;cases ht:(w.kind !=2)with
   |true=>
    simp[o,hb,hl,ar,c0,c2,ht,h1,h2]
    repeat refine di ?_
    exact fail _ kT _ rfl
   |false=>
    have hk:w.kind=2:=(by simpa using ht);have w1:IntKind.wrap .i64 ((s.k:Int)+1)=((s.k+1:Nat):Int):=(by rw[wr om om];omega);have w2:IntKind.wrap .i64 ((s.k:Int)+1-1)=((s.k:Nat):Int):=(by rw[wr om om];omega);have w3:IntKind.wrap .i64 (s.k:Int)=(s.k:Int):=(by rw[wr om om]);have hlI:(s.k:Int)<(I.W.length:Int):=om;have e1:(s.k:Int)+1+-1=(s.k:Int):=om;simp[o,hb,hl,ar,c0,c2,ht,h1,h2];refine Dd ?_;simp[o,hb,hl,hlI,ar,c0,c2,ht,w1,w2,w3,rb,rb.symm];have kx:aQ I.X (h.bump 30) ((h.bump 30).set I.r (.C [.S I.b I.W.length,.I ((s.k:Int)+1),.bool false,.P I.g,.I s.dep])):=aQ.set _ (aQ.refl _ _) (.inl (by simp[RI.X])) (by simp;omega);have k0:aS h (h.bump 30):=kT;have p2:=(p0.aJ k0).AG (s':={s with k:=s.k+1}) kx (by simp[hb]) ⟨nd,by rw[ah.aM,az rg.symm];exact pg⟩ (by simp;omega) dd d2;have k3:aS ((h.bump 30).set I.r (.C [.S I.b I.W.length,.I ((s.k:Int)+1),.bool false,.P I.g,.I s.dep])) (((h.bump 30).set I.r (.C [.S I.b I.W.length,.I ((s.k:Int)+1),.bool false,.P I.g,.I s.dep])).bump 13):=kT;have hm:w∈I.W:=wA (hw▸aY ..);exact hQ _ _ _ (p2.aJ k3) (kc.of (cR _) rfl (ao _) id) (ao _) rfl (ok.num w hm) (fun _=>⟨w,rs,hw,hk,rfl,mX hw,rfl⟩) ((k0.x _).trans (kx.trans (k3.x _)))
theorem zh(op:List UInt8){ok:Prop}(p:RP I s h)(kx0:aQ I.X h0 h)(xo:XO I X h0)(hQ:∀id h',RP I s h'->aQ I.X h h'->NM I X h0 id ok ⟨op,[],[],0,.Z,[]⟩ h'->Q (.ret (.P id)) h'):
 aV env 95 [.P I.r,.str op] h Q:=by
 refine wb fn95 rfl ?_;have p0:=p;obtain⟨o,⟨nd,pg⟩,ar,rg,rb,gb,rl,gl,bl,fr,kl,dd,d2,ok⟩:=p;simp[f95,o,pg,rg,rg.symm];have kx:aQ I.X h (h.set I.g (.C [I.l1,I.l2,I.l3,I.l4,.I (IntKind.wrap .i64 (nd+1)),.I s.dp])):=aQ.set _ (aQ.refl _ _) (.inl (by simp[RI.X])) gl;have p2:=p0.AG (s':=s) kx (by rw[ah.aM,az rg];exact o) ⟨_,by rw[ah.aM,aW rfl]⟩ kl dd d2;have k3:aS (h.set I.g (.C [I.l1,I.l2,I.l3,I.l4,.I (IntKind.wrap .i64 (nd+1)),.I s.dp])) _:=(aS.refl _).alloc (ND.obj ⟨op,[],[],0,.Z,[]⟩);exact hQ _ _ (p2.aJ k3) (kx.trans (k3.x _)) (NM.new p2 (kx0.trans kx) xo _ rfl rfl)
theorem vE(p:RP I s h)(hd:s.dep<2000)(hQ:∀h',RP I ⟨s.k,s.bad,s.dep+1,max s.dp (s.dep+1)⟩ h'->aQ I.X h h'->Q (.ret (.iX [])) h'):
 aV env 70 [.P I.r] h Q:=by
 refine wb fn70 rfl ?_;have p0:=p;obtain⟨o,⟨nd,pg⟩,ar,rg,rb,gb,rl,gl,bl,fr,kl,dd,d2,ok⟩:=p;have w1:IntKind.wrap .i64 ((s.dep:Int)+1)=((s.dep+1:Nat):Int):=by rw[wr om om];omega
 simp[f70,o,w1];have kx:aQ I.X h (h.set I.r (.C [.S I.b I.W.length,.I s.k,.bool s.bad,.P I.g,.I ((s.dep:Int)+1)])):=aQ.set _ (aQ.refl _ _) (.inl (by simp[RI.X])) rl;refine Dd ?_;have H0:¬(2000:Int)<(s.dep:Int)+1:=om
 by_cases cX:s.dp<s.dep+1
 ·have fW:(s.dp:Int)<(s.dep:Int)+1:=by omega
  simp[pg,rg,rg.symm,fW];refine Dd ?_;simp[pg,rg,rg.symm,fW,H0];have y0:=rg.symm;repeat refine di ?_
  have hm:max s.dp (s.dep+1)=s.dep+1:=by omega
  rw[hm]at hQ;have k3:aS (h.set I.r (.C [.S I.b I.W.length,.I s.k,.bool s.bad,.P I.g,.I ((s.dep:Int)+1)])) (((h.set I.r (.C [.S I.b I.W.length,.I s.k,.bool s.bad,.P I.g,.I ((s.dep:Int)+1)])).bump 12).bump 11):=kT;have uW:aQ I.X h _:=kx.trans (k3.x _);have kx4:=aQ.set (i:=I.g) (.C [I.l1,I.l2,I.l3,I.l4,.I nd,.I ((s.dep:Int)+1)]) uW (.inl (by simp[RI.X])) (aw gl uW.next);exact hQ _ (p0.AG (s':=⟨s.k,s.bad,s.dep+1,s.dep+1⟩) kx4 (by rw[ah.aM,az rg];simp) ⟨nd,by rw[ah.aM,aW rfl];simp⟩ kl (ao _) (by simp;omega)) kx4
 ·have fW:¬(s.dp:Int)<(s.dep:Int)+1:=by omega
  simp[pg,rg,rg.symm,fW,H0];have k3:aS (h.set I.r (.C [.S I.b I.W.length,.I s.k,.bool s.bad,.P I.g,.I ((s.dep:Int)+1)])) ((h.set I.r (.C [.S I.b I.W.length,.I s.k,.bool s.bad,.P I.g,.I ((s.dep:Int)+1)])).bump 12):=kT;have hm:max s.dp (s.dep+1)=s.dp:=by omega
  rw[hm]at hQ;exact hQ _ ((p0.AG (s':=⟨s.k,s.bad,s.dep+1,s.dp⟩) kx sp ⟨nd,by rw[ah.aM,az rg.symm];exact pg⟩ kl (by simp;omega) d2).aJ k3) (kx.trans (k3.x _))
theorem EV(p:RP I s h){d:Nat}(hd:s.dep=d+1)(hQ:∀h',RP I ⟨s.k,s.bad,d,s.dp⟩ h'->aQ I.X h h'->Q (.ret (.iX [])) h'):
 aV env 72 [.P I.r] h Q:=by
 refine wb fn72 rfl ?_;have p0:=p;obtain⟨o,⟨nd,pg⟩,ar,rg,rb,gb,rl,gl,bl,fr,kl,dd,d2,ok⟩:=p;have w1:IntKind.wrap .i64 ((s.dep:Int)-1)=(d:Int):=by rw[wr om om];omega
 rw[hd]at w1;simp at w1;simp[f72,o,hd,w1];have kx:aQ I.X h (h.set I.r (.C [.S I.b I.W.length,.I s.k,.bool s.bad,.P I.g,.I d])):=aQ.set _ (aQ.refl _ _) (.inl (by simp[RI.X])) rl;exact hQ _ (p0.AG kx sp ⟨nd,by rw[ah.aM,az rg.symm];exact pg⟩ kl (by simp;omega) d2) kx
end
end
section
attribute [local simp] aI
theorem Bk{ws:List Wo}{l:List (List UInt8)}{i:Nat}(hi:i<l.length):anyS ws (l.take (i+1))=(anyS ws (l.take i)||du ws l[i]):=by
 rw[dG,aj hi];simp[anyS,-List.take_append_getElem]
section
variable{I:RI}{s:RS}{h h0:ah}{X:List Nat}{Q:Out->ah->Prop}
theorem RP.at(p:RP I s h)(k:Nat)(hk:k<=I.W.length):RP I {s with k:=k} (h.set I.r (.C [.S I.b I.W.length,.I k,.bool s.bad,.P I.g,.I s.dep]))/\aQ I.X h (h.set I.r (.C [.S I.b I.W.length,.I k,.bool s.bad,.P I.g,.I s.dep])):=by
 have kx:aQ I.X h (h.set I.r (.C [.S I.b I.W.length,.I k,.bool s.bad,.P I.g,.I s.dep])):=aQ.set _ (aQ.refl _ _) (.inl (by simp[RI.X])) p.rl;obtain⟨nd,pg⟩:=p.prog;exact⟨p.AG kx sp ⟨nd,by rw[ah.aM,az p.rg.symm];exact pg⟩ hk p.dd p.d2,kx⟩
theorem HD(a:Nat)(ha:s.k+a<=I.W.length)(p:RP I s h)(hQ:∀h',RP I s h'->aQ I.X h h'->Q (.ret (.bool (!s.bad&&lK (I.W.drop (s.k+a))))) h'):
 aV env 67 [.P I.r,.I a] h Q:=by
 refine wb fn67 rfl ?_;have wl:=p.Bj.len;have o:=p.obj;have rl:=p.rl;have rn:I.r≠h.next:=om
 have w1:IntKind.wrap .i64 ((s.k:Int)+(a:Int))=((s.k+a:Nat):Int):=by rw[wr om om];omega
 have w2:IntKind.wrap .i64 (((s.k+a:Nat):Int)-(a:Int))=(s.k:Int):=by rw[wr om om];omega
 generalize hka:s.k+a=ka at*;simp[f67,o,w1,rn,rn.symm];have k0:aS h _:=(aS.refl h).alloc (.cells true 1 [.str [99,104,97,114],.str [105,110,116],.str [108,111,110,103],.str [118,111,105,100],.str [115,116,114,117,99,116]]);obtain⟨p1,k1⟩:=(p.aJ k0).at ka ha;have Og:=(k0.x I.X).trans k1;have g1:(((h.alloc (.cells true 1 [.str [99,104,97,114],.str [105,110,116],.str [108,111,110,103],.str [118,111,105,100],.str [115,116,114,117,99,116]])).2).set I.r (.C [.S I.b I.W.length,.I ka,.bool s.bad,.P I.g,.I s.dep])).get h.next=some (.cells true 1 (EP.map AV.str)):=by
  rw[ah.aM,az (iw rn),ah.dz,aW rfl];rfl
 have n1:h.next<(((h.alloc (.cells true 1 [.str [99,104,97,114],.str [105,110,116],.str [108,111,110,103],.str [118,111,105,100],.str [115,116,114,117,99,116]])).2).set I.r (.C [.S I.b I.W.length,.I ka,.bool s.bad,.P I.g,.I s.dep])).next:=sp
 generalize ((h.alloc (.cells true 1 [.str [99,104,97,114],.str [105,110,116],.str [108,111,110,103],.str [118,111,105,100],.str [115,116,114,117,99,116]])).2).set I.r (.C [.S I.b I.W.length,.I ka,.bool s.bad,.P I.g,.I s.dep])=h1 at*;refine bW (fun m x=>∃i,i<=EP.length/\m=EP.length-i/\x.n=43/\x.ds=[]/\x.bI=false/\RP I {s with k:=ka} x.h/\aQ I.X h x.h/\h.next<x.h.next/\x.h.get h.next=some (.cells true 1 (EP.map AV.str))/\
  x.rg.get 0=some (.P I.r)/\x.rg.get 1=some (.I a)/\x.rg.get 5=some (.S h.next EP.length)/\x.rg.get 6=some (.bool (!s.bad&&anyS (I.W.drop ka) (EP.take i)))/\x.rg.get 7=some (.I i)) EP.length ?_ ?_
 ·exact⟨0,om,rfl,rfl,rfl,rfl,p1,Og,n1,g1,sp,sp,by simp[EP],by simp[anyS],sp⟩
 clear p1 k1 Og g1 n1 h1 k0
 rintro m ⟨rg,n',H,ds,bI⟩ ⟨i,hi,rfl,e1,e2,e3,p1,k1,n1,g1,r0,r1,r5,r6,r7⟩
 dsimp only at e1 e2 e3 p1 k1 n1 g1 r0 r1 r5 r6 r7;subst e1 e2 e3;by_cases cX:i<EP.length
 ·have hx:(EP.map AV.str)[i]?=some (.str EP[i]):=by rw[bQ,aj cX];rfl
  have YR:EP.length<=5:=by decide
  have wi:IntKind.wrap .i64 ((i:Int)+1)=((i+1:Nat):Int):=by rw[wr om om];simp
  have fI:=Bk (ws:=I.W.drop ka) cX;cases ho:(!s.bad&&anyS (I.W.drop ka) (EP.take i))with
  |true=>
   rw[ho]at r6;simp[r0,r1,r5,r6,r7,cX];simp only[eM,Bool.not_eq_true']at ho;exact⟨_,om,i+1,cX,rfl,p1,k1,n1,g1,⟨ho.1,by rw[fI,ho.2];rfl⟩,wi⟩
  |false=>
   rw[ho]at r6;simp[r0,r1,r5,r6,r7,cX,g1,hx];refine Av p1 fun h2 p2 k2=>?_;have n2:=k2.next;simp[r0,r1,r5,r6,r7,wi];refine⟨_,om,i+1,cX,rfl,p2,k1.trans (k2.x _),om,(k2.old _ n1).trans g1,?_,om⟩;rw[fI];simp only[pH];cases hb:s.bad<;>simp[hb]at ho⊢;simp[ho]
 ·have np:i=EP.length:=by omega
  subst np;have o1:=p1.obj;rw[dH]at r6;simp[r0,r1,r5,r6,r7,o1,w2];obtain⟨p2,k2⟩:=p1.at s.k p.kl;exact hQ _ p2 (k1.trans k2)
end
end
section
attribute [local simp] aI
theorem PQ{t:TypeId}{n:Nat}(h:n<9223372036854775808):cn (Go.binOp .quo t (.int .i64 n) (.int .i64 10))=some (.I ((n/10:Nat):Int)):=by
 have e:Int.tdiv (n:Int) 10=((n/10:Nat):Int):=by rw[fy om];omega
 have w:IntKind.wrap .i64 ((n/10:Nat):Int)=((n/10:Nat):Int):=wr om om;generalize n/10=q at*;simp[Go.binOp,Op.intArith,Op.intDiv,cn,iM,pure,Sem.pure,e,w]
theorem PR{t:TypeId}{n:Nat}(h:n<9223372036854775808):cn (Go.binOp .rem t (.int .i64 n) (.int .i64 10))=some (.I ((n%10:Nat):Int)):=by
 have e:Int.tmod (n:Int) 10=((n%10:Nat):Int):=by rw[Int.tmod_eq_emod_of_nonneg om];omega
 have w:IntKind.wrap .i64 ((n%10:Nat):Int)=((n%10:Nat):Int):=wr om om;generalize n%10=q at*;simp[Go.binOp,Op.intArith,Op.intDiv,cn,iM,pure,Sem.pure,e,w]
theorem Om{d:Nat}(h:d<10):([48,49,50,51,52,53,54,55,56,57].take (d+1)).drop d=[UInt8.ofNat (48+d)]:=by
 rcases d with _|_|_|_|_|_|_|_|_|_|d<;>first|rfl|omega
theorem YW:∀(f n:Nat)(h:ah)(Q:Out->ah->Prop),n<10^(f+1)->n<9223372036854775808->f<=19->(∀h',aS h h'->Q (.ret (.str (rP (f+1) n))) h')->aV env 69 [.I n] h Q
 |f,n,h,Q,h1,h2,hf,hQ=>by
  refine wb fn69 rfl ?_;have a1:¬(n:Int)< -9:=by omega
  have a2:¬(n:Int)<0:=by omega
  by_cases a3:9<n
  ·have a3I:(9:Int)<(n:Int):=om;cases f with
   |zero=>simp at h1;omega
   |succ f=>
   have hd:n/10<10^(f+1):=(by rw[Nat.pow_succ]at h1;omega);simp[f69,a1,a2,a3I];refine jr [0,1,3,4,5,6,7,8,2,9,10] kr (by simp[ew,fh];rfl) kr ?_;have r1:=@PR 2 n h2;have q1:=@PQ 2 n h2;have hb:Nat.blt n 10=false:=(by rw[<-Bool.not_eq_true,mz];omega);have Aq:=hQ;simp only[rP,hb,cond_false]at Aq;have qZ:n/10<9223372036854775808:=om;have aht:n%10<10:=om;generalize n%10=rm at*;generalize n/10=qt at*;obtain⟨PB,Ko⟩:∃x,x=rm+1:=⟨_,rfl⟩
   have w1:IntKind.wrap .i64 ((rm:Int)+1)=(PB:Int):=(by rw[wr om om];omega);have b2:(PB:Int)<=10:=om;have b2':PB<=10:=om;have b3:rm<=PB:=om;have b4:(rm:Int)<=(PB:Int):=om;have fa:=Om (d:=rm) om
   obtain⟨dg,BX⟩:∃x,x=UInt8.ofNat (48+rm):=⟨_,rfl⟩
   rw[<-Ko,<-BX]at fa;rw[<-BX]at Aq;simp[a1,a2,a3I,r1,q1,w1,b2,b2',b3,b4,fa];refine YW f qt _ _ hd qZ om fun h3 k3=>?_;have hl:=xr (f+1) qt;have nJ:(rP (f+1) qt).length+1<=4611686018427387904:=om;simp[nJ];clear Ko BX;refine dm ?_;exact Aq _ ((show aS h (h.bump 11)from kT).trans k3)
  ·have a3I:¬(9:Int)<(n:Int):=om;obtain⟨PB,Ko⟩:∃x,x=n+1:=⟨_,rfl⟩
   have w1:IntKind.wrap .i64 ((n:Int)+1)=(PB:Int):=(by rw[wr om om];omega);have b1:(PB:Int)<=10:=om;have b2:PB<=10:=om;have b3:n<=PB:=om;have b4:(n:Int)<=(PB:Int):=om;have fa:=Om (d:=n) om
   obtain⟨dg,BX⟩:∃x,x=UInt8.ofNat (48+n):=⟨_,rfl⟩
   rw[<-Ko,<-BX]at fa;have hb:Nat.blt n 10=true:=(by rw[mz];omega);simp[f69,a1,a2,a3I,w1,b1,b2,b3,b4,fa];have:=hQ h (aS.refl _);simp only[rP,hb,yE]at this;rw[<-BX]at this;exact this
 termination_by f=>f
section
variable{I:RI}{s:RS}{h h0:ah}{X:List Nat}{Q:Out->ah->Prop}
theorem CD(t:List UInt8)(ht:t.length<=1000000)(p:RP I s h)(hQ:∀t' s' h',RP I s' h'->kc s s'->s'.dp=s.dp->t'.length<=t.length+100->(s'.bad=false->Kz (I.W.drop s.k) (I.W.drop s'.k) t t')->aQ I.X h h'->Q (.ret (.str t')) h'):
 aV env 42 [.P I.r,.str t] h Q:=by
 refine wb fn42 rfl ?_;simp[f42];refine iL p (fun hs h2 p2 k2=>?_) fun hs h2 p2 k2=>?_
 ·obtain⟨hb,o,rs,hw,ho,hd⟩:=fV hs;simp;refine J5 p2 fun n s3 h3 p3 a3 k3' d3 hn3 f3 k3=>?_;simp;refine iB p3 fun s4 h4 p4 a4 tJ d4 f4 k4=>?_;have Ee:t.length<=4611686018427387903:=by omega
  simp[Ee];obtain⟨m,rfl⟩:∃m:Nat,n=m:=⟨n.toNat,om⟩
  refine YW 19 m h4 _ om om om fun h5 k5=>?_;have hl:=xr 20 m;have uc:t.length+1<=4611686018427387904:=by omega
  have nJ:t.length+1+(rP 20 m).length<=4611686018427387904:=by omega
  have EI:t.length+1+(rP 20 m).length+1<=4611686018427387904:=by omega
  have UC:t.length+(1+(rP 20 m).length)<=4611686018427387904:=by omega
  have YR:t.length+(1+(rP 20 m).length)<=4611686018427387903:=by omega
  have hl6:t.length+(1+((rP 20 m).length+1))<=4611686018427387904:=by omega
  have hl7:t.length+((rP 20 m).length+1)<=4611686018427387903:=by omega
  have hl8:t.length+((rP 20 m).length+2)<=4611686018427387904:=by omega
  simp[UC,YR,hl6,hl7,hl8];have A3:kc s s3:=⟨by have:=a3.k;simp at this;omega,a3.dp,a3.bad,a3.lo,by have:=a3.xA;simp at this;omega,a3.dep⟩
  refine hQ (t++91::(rP 20 m++[93])) s4 h5 (p4.aJ k5) (A3.trans a4) (by simp at d3 d4⊢;omega) (by simp;omega) (fun Qn=>?_) (k2.trans (k3.trans (k4.trans (k5.x _))));obtain⟨c,KN,e4,hc,e5,e6⟩:=f4 Qn;obtain⟨n1,rs3,e7,Lg,e8,e9,e10⟩:=f3 (a4.bad Qn);have W4:m=n1.n.toNat:=by omega
  rw[hd]at e7;rw[e9]at e4;rw[hw,e7,e5,e4];have e12:t++91::(rP 20 m++[93])=t++[91]++BS n1.n++[93]:=by rw[W4];simp[BS]
  rw[e12];exact .some ho Lg hc
 ·simp;refine hQ _ _ _ p2 (kc.refl _) rfl om (fun hb=> .none (iK hs hb)) (k2.x _)
theorem FV(p:RP I s h)(hQ:∀t s' h',RP I s' h'->kc s s'->s'.dp=s.dp->t.length<=70000->(s'.bad=false->yz (I.W.drop s.k) (I.W.drop s'.k) t)->aQ I.X h h'->Q (.ret (.str t)) h'):
 aV env 39 [.P I.r] h Q:=by
 refine wb fn39 rfl ?_;have wl:=p.Bj.len;simp[f39];refine HD 0 p.kl p fun h2 p2 k2=>?_;obtain⟨o,⟨nd,pg⟩,ar,rg,rb,gb,rl,gl,bl,fr,kl,dd,d2,ok⟩:=id p2;simp only[qR];cases ht:(!s.bad&&lK (I.W.drop s.k))with
 |false=>
  simp[o];have kx:aQ I.X h2 (h2.set I.r (.C [.S I.b I.W.length,.I s.k,.bool true,.P I.g,.I s.dep])):=aQ.set _ (aQ.refl _ _) (.inl (by simp[RI.X])) rl;exact hQ _ {s with bad:=true} _ (p2.AG kx sp ⟨nd,by rw[ah.aM,az rg.symm];exact pg⟩ kl dd d2) (kc.of (ao _) rfl (ao _) sp) rfl sp sp (k2.trans kx)
 |true=>
  simp only[eM,Bool.not_eq_true']at ht;obtain⟨hb,ht⟩:=ht;cases hw:I.W.drop s.k with
  |nil=>rw[hw]at ht;cases ht
  |cons w rs=>
  have hl:=fT hw;obtain⟨c0,c1,c2,d0,d3,l5,l3⟩:=xB hw;have w1:IntKind.wrap .i64 ((s.k:Int)+1)=((s.k+1:Nat):Int):=by rw[wr om om];omega
  have HY:=mX hw;have ht3:3<=w.kind:=by
   have ht':=ht;rw[hw]at ht';simp only[lK,anyS,qT]at ht';obtain⟨x,_,hx⟩:=ht';obtain⟨w',r',e,Ec⟩:=uV.1 hx;cases e;exact Ec.k
  simp[o];refine Dd ?_;have wk:aS h2 (h2.bump 12):=kT;obtain⟨p3,k3⟩:=(p2.aJ wk).at (s.k+1) om
  have uW:=(k2.trans (wk.x _)).trans k3;have hm:w∈I.W:=wA (hw▸aY ..);have Aj:=ok.text w hm;simp[o,hb,hl,ar,c1,w1];rw[hb]at p3 k3 uW;simp at p3 k3 uW;generalize (h2.bump 12).set I.r (.C [.S I.b I.W.length,.I ((s.k:Int)+1),.bool false,.P I.g,.I s.dep])=h3 at*;cases fI:(w.text==[115,116,114,117,99,116])with
  |true=>
   have abj:w.text=[115,116,114,117,99,116]:=(by simpa using fI);simp;refine xC p3 fun nm s4 h4 p4 a4 tJ d4 l4 f4 k4=>?_;have a4k:=a4.k;simp at a4k tJ;have hc7:7+nm.length<=4611686018427387904:=om;have agk:nm.length<=4611686018427387897:=om;simp[hc7,agk];refine bW (fun m x=>∃t s2,m=I.W.length-s2.k/\x.n=38/\x.ds=[]/\x.bI=false/\RP I s2 x.h/\kc s s2/\s2.dp=s.dp/\t.length<=65600+s2.k/\(s2.bad=false->∀eK st,sW (I.W.drop s2.k) eK st->yz (I.W.drop s.k) eK (t++st))/\aQ I.X h x.h/\
    x.rg.get 0=some (.P I.r)/\x.rg.get 3=some (.str t)) (I.W.length-s4.k) (by
     refine⟨[115,116,114,117,99,116,32]++nm,s4,rfl,rfl,rfl,rfl,p4,⟨om,a4.dp,fun _=>hb,a4.lo,by have:=a4.xA;simp only at this;omega,a4.dep⟩,d4,by simp;omega,fun Qn eK st fI=>?_,uW.trans k4,sp,sp⟩;obtain⟨n1,rs3,e7,Lg,e8,e9,e10⟩:=f4 Qn;simp only[HY]at e7;rw[e9]at fI;rw[hw,e7,e8];exact .struct ⟨abj,ht3⟩ Lg fI) ?_
   clear p4 a4 k4 f4 p3 uW k3
   rintro m ⟨rg,n',H,ds,bI⟩ ⟨t,s2,rfl,e1,e2,e3,pL,aL,dL,hl,hT,kL,r0,r3⟩
   dsimp only at e1 e2 e3 pL kL r0 r3;subst e1 e2 e3;simp[r0];refine iL pL (fun hs h7 p7 k7=>?_) fun hs h7 p7 k7=>?_
   ·obtain⟨jJ,o2,KN,Sy,B9,NV⟩:=fV hs;have nJ:=fT Sy;have hc:t.length+1<=4611686018427387904:=om;have Gz:t.length<=4611686018427387903:=om;have kq:=aL.k;simp[r0,r3,hc,Gz];refine⟨I.W.length-(s2.k+1),om,t++[42],{s2 with k:=s2.k+1},rfl,p7,⟨by simp;omega,aL.dp,aL.bad,aL.lo,by have:=aL.xA;simp only;omega,aL.dep⟩,dL,by simp;omega,fun _ eK st fI=>?_,kL.trans k7,rfl⟩;have:=hT jJ eK (42::st) (by rw[Sy];exact .star B9 (by simp only[NV]at fI;exact fI));simpa using this
   ·simp[r0,r3];refine hQ t s2 _ p7 aL dL (by have:=pL.kl;omega) (fun jJ=>?_) (kL.trans (k7.x _));have:=hT jJ _ [] (.done (iK hs jJ));simpa using this
  |false=>
   have abj:w.text≠[115,116,114,117,99,116]:=(by simpa using fI);simp;refine bW (fun m x=>∃t s2,m=I.W.length-s2.k/\x.n=38/\x.ds=[]/\x.bI=false/\RP I s2 x.h/\kc s s2/\s2.dp=s.dp/\t.length<=65600+s2.k/\(s2.bad=false->∀eK st,sW (I.W.drop s2.k) eK st->yz (I.W.drop s.k) eK (t++st))/\aQ I.X h x.h/\
    x.rg.get 0=some (.P I.r)/\x.rg.get 3=some (.str t)) (I.W.length-(s.k+1)) (by
     exact⟨w.text,{s with k:=s.k+1,bad:=false},rfl,rfl,rfl,rfl,p3,(kc.of sp rfl (ao _) (fun _=>hb)),rfl,by simp;omega,fun _ eK st fI=>(by rw[hw];exact .base (hw▸ht) abj (by simp only[HY]at fI;exact fI)),uW,sp,sp⟩) ?_
   clear p3 uW k3
   rintro m ⟨rg,n',H,ds,bI⟩ ⟨t,s2,rfl,e1,e2,e3,pL,aL,dL,hl,hT,kL,r0,r3⟩
   dsimp only at e1 e2 e3 pL kL r0 r3;subst e1 e2 e3;simp[r0];refine iL pL (fun hs h7 p7 k7=>?_) fun hs h7 p7 k7=>?_
   ·obtain⟨jJ,o2,KN,Sy,B9,NV⟩:=fV hs;have nJ:=fT Sy;have hc:t.length+1<=4611686018427387904:=om;have Gz:t.length<=4611686018427387903:=om;have kq:=aL.k;simp[r0,r3,hc,Gz];refine⟨I.W.length-(s2.k+1),om,t++[42],{s2 with k:=s2.k+1},rfl,p7,⟨by simp;omega,aL.dp,aL.bad,aL.lo,by have:=aL.xA;simp only;omega,aL.dep⟩,dL,by simp;omega,fun _ eK st fI=>?_,kL.trans k7,rfl⟩;have:=hT jJ eK (42::st) (by rw[Sy];exact .star B9 (by simp only[NV]at fI;exact fI));simpa using this
   ·simp[r0,r3];refine hQ t s2 _ p7 aL dL (by have:=pL.kl;omega) (fun jJ=>?_) (kL.trans (k7.x _));have:=hT jJ _ [] (.done (iK hs jJ));simpa using this
end
end
section
attribute [local simp] aI
def lv(l:Nat):List (List UInt8):=(oh[l]?).getD []
theorem W8{Q:Out->ah->Prop}{h:ah}{l:Nat}(hl:l<10)(hQ:∀b h',aS h h'->h'.get b=some (.cells true 1 ((lv l).map AV.str))->b<h'.next->Q (.ret (.S b (lv l).length)) h'):
 aV env 169 [.I l] h Q:=by
 refine wb fn169 rfl ?_;rcases l with _|_|_|_|_|_|_|_|_|_|l
 case succ.succ.succ.succ.succ.succ.succ.succ.succ.succ=>omega
 all_goals
  simp[f169];refine hQ _ _ kT (by simp[lv,oh]) sp
def W9(t:List UInt8):Nat->List (List (List UInt8))->Int
 |_,[]=>-1
 |i,l::r=>if l.any (fun s=>t==s)=true then(i:Int)else W9 t (i+1) r
theorem On{w:Wo}{rs:List Wo}{t:List UInt8}(hk:ja w t):∀(L:List (List (List UInt8)))(i:Nat),pO (w::rs) i L=W9 t i L
 |[],_=>rfl
 |l::r,i=>by
  have e:anyS (w::rs) l=l.any (fun s=>t==s):=by
   unfold anyS;congr 1;funext s;exact hk.du
  simp only[pO,W9,e,On hk r]
theorem Xa:∀l,l<10->∀t,t∈lv l->W9 t 0 oh=l:=dc
theorem J6{w:Wo}{rs:List Wo}{t:List UInt8}{l:Nat}(hl:l<10)(ht:t∈lv l)(hk:ja w t):kM (w::rs)=l:=by
 unfold kM;rw[On hk];exact Xa l hl t ht
theorem Xb{ws:List Wo}{l:Nat}(hl:l<10):anyS ws (lv l)=true↔kM ws=l:=by
 constructor
 ·intro h;simp only[anyS,qT]at h;obtain⟨t,ht,hs⟩:=h;obtain⟨w,rs,rfl,hk⟩:=uV.1 hs;exact J6 hl ht hk
 ·intro h;simp only[kM,oh,pO]at h;rcases l with _|_|_|_|_|_|_|_|_|_|l
  case succ.succ.succ.succ.succ.succ.succ.succ.succ.succ=>omega
  all_goals
   simp only[lv,oh,ed,List.getElem?_cons_succ,Option.getD_some];revert h
   (repeat' split)<;>intro h<;>first|assumption|omega
theorem abk{t:List UInt8}{l:Nat}(ht:t∈lv l):t≠[]:=by
 rcases l with _|_|_|_|_|_|_|_|_|_|l
 case succ.succ.succ.succ.succ.succ.succ.succ.succ.succ=>simp[lv,oh]at ht
 all_goals
  intro e;subst e;simp[lv,oh]at ht
end
section
attribute [local simp] aI
def PS(f:FuncId)(extra:List AV)(tag:Tag)(lo c sl n:Nat):Prop:=
 ∀(I:RI)(s:RS)(h:ah)(X:List Nat)(Q:Out->ah->Prop),I.W.length-s.k=n->RP I s h->XO I X h->s.dep+4*n<=sl->
  (∀id t s' h',RP I s' h'->kc s s'->s.dep+lo<=s'.dp->(s'.bad=false->s.k<s'.k/\(∀b,s'.dp<=s.dep+c+b->G tag b (I.W.drop s.k) (I.W.drop s'.k) (.e t))/\tO X h' id t.rn)->aQ I.X h h'->Q (.ret (.P id)) h')->
  aV env f (.P I.r::extra) h Q
def SSp(f:FuncId)(tag:Tag)(lo sl n:Nat):Prop:=
 ∀(I:RI)(s:RS)(h:ah)(X:List Nat)(Q:Out->ah->Prop),I.W.length-s.k=n->RP I s h->XO I X h->s.dep+4*n<=sl->
  (∀id t s' h',RP I s' h'->kc s s'->s.dep+lo<=s'.dp->(s'.bad=false->s.k<s'.k/\(∀b,s'.dp<=s.dep+b->G tag b (I.W.drop s.k) (I.W.drop s'.k) (.s t))/\tO X h' id t.rn)->aQ I.X h h'->Q (.ret (.P id)) h')->
  aV env f [.P I.r] h Q
structure Mx(n:Nat):Prop where
 ex:PS 97 [.I 0] (.bin 0) 1 1 1201 n
 un:PS 168 [] .un 0 0 1202 n
 ch:∀l:Nat,l<=10->PS 131 [.I l] (.bin l) 0 0 1202 n
 st:SSp 45 .yi 1 1200 n
 de:SSp 96 .dec 1 1200 n
theorem abl{n:Nat}(hc:PS 131 [.I 0] (.bin 0) 0 0 1202 n):PS 97 [.I 0] (.bin 0) 1 1 1201 n:=by
 intro I s h X Q hn p xo hd hQ;refine wb fn97 rfl ?_;simp[f97];refine vE p om fun h2 p2 k2=>?_;simp;refine hc I ⟨s.k,s.bad,s.dep+1,max s.dp (s.dep+1)⟩ h2 X _ hn p2 (xo.le k2.next) (by simp only;omega) fun id t s3 h3 p3 a3 l3 f3 k3=>?_;have e1:=a3.lo;have e2:=a3.dp;have e3:=a3.k;have e4:=a3.bad;have e5:=a3.xA;have e6:=a3.dep;simp only at e1 e2 e3 e4 e5 e6;simp;refine EV p3 (d:=s3.dep-1) om fun h4 p4 k4=>?_;simp;refine hQ id t _ h4 p4 ⟨e3,by simp only;omega,e4,by simp only;omega,by simp only;omega,fun hz=>by have:=e6 hz;simp only;omega⟩ (by simp only;omega) (fun hb=>?_) (k2.trans (k3.trans k4));obtain⟨f1,f2,f4⟩:=f3 hb;exact⟨f1,fun b jJ=>f2 b (by simp only at jJ⊢;omega),f4.move (Move.rx p3.fr ((xo.le k2.next).le k3.next) k4)⟩
end
section
attribute [local simp] aI
def YX(ws:List Wo):List UInt8:=match ws with
 |[]=>[]
 |w::_=>w.text
def opQ(bad:Bool)(ws:List Wo)(l:List (List UInt8)):List UInt8:=if bad=false/\anyS ws l=true then YX ws else[]
theorem PU(ws:List Wo):-1<=kM ws/\kM ws<10:=by have:=FR ws;omega
theorem Oo{n l:Nat}(hl:l<=10)(hu:PS 168 [] .un 0 0 1202 n)(hc:l<10->PS 131 [.I (l+1:Nat)] (.bin (l+1)) 0 0 1202 n)(IH:∀n',n'<n->Mx n'):PS 131 [.I l] (.bin l) 0 0 1202 n:=by
 intro I s h X Q hn p xo hd hQ;refine wb fn131 rfl ?_;have wl:=p.Bj.len;by_cases xU:l=10
 ·subst xU;simp[f131];refine hu I s h X _ hn p xo hd fun id t s2 h2 p2 a2 l2 f2 k2=>?_;simp;refine hQ id t s2 h2 p2 a2 l2 (fun hb=>?_) k2;obtain⟨f3,f4,f5⟩:=f2 hb;exact⟨f3,fun b jJ=> .bin (f4 b jJ) .stop (by have:=PU (I.W.drop s2.k);omega),f5⟩
 ·have Lh:l<10:=by omega
  have n10:((l:Int)==10)=false:=by rw[aH];omega
  have w1:IntKind.wrap .i64 ((l:Int)+1)=((l+1:Nat):Int):=by rw[wr om om];omega
  obtain⟨l1,uc⟩:∃x,x=l+1:=⟨_,rfl⟩
  rw[<-uc]at w1 hc;simp[f131,n10,w1];refine hc Lh I s h X _ hn p xo hd fun id e0 s1 h1 p1 a1 l1' f1 k1=>?_;simp;obtain⟨J,hJ⟩:∃J:Nat->St->Prop,J=(fun m x=>∃id e s2 dc,m=I.W.length-s2.k/\x.n=80/\x.ds=[]/\x.bI=false/\RP I s2 x.h/\(s.dep+dc<=s2.dep/\(s2.bad=false->s2.dep=s.dep+dc))/\s.k<=s2.k/\s.dp<=s2.dp/\(s2.bad=false->s.bad=false)/\s2.dep+4*s.k<=s.dep+4*s2.k/\
   (s2.bad=false->s.k<s2.k/\(∀b,s2.dp<=s.dep+b->∃JY eu,G .un b (I.W.drop s.k) JY (.e eu)/\G (.steps l eu) b JY (I.W.drop s2.k) (.e e)/\kM (I.W.drop s2.k)<l1)/\tO X x.h id e.rn)/\aQ I.X h x.h/\
   x.rg.get 0=some (.P I.r)/\x.rg.get 1=some (.I l)/\x.rg.get 5=some (.P id)/\x.rg.get 6=some (.I dc)):=⟨_,rfl⟩
  refine bW J (I.W.length-s1.k) ?_ ?_
  ·rw[hJ];refine⟨id,e0,s1,0,rfl,rfl,rfl,rfl,p1,⟨a1.lo,a1.dep⟩,a1.k,a1.dp,a1.bad,a1.xA,fun hb=>?_,k1,sp,sp,sp,sp⟩;obtain⟨f3,f4,f5⟩:=f1 hb;refine⟨f3,fun b jJ=>?_,f5⟩;cases f4 b jJ with
   |bin HR qU EI=>exact⟨_,_,HR,qU.Mw om,om⟩
  clear p1 a1 l1' f1 k1 e0 id h1 s1;intro m st rC;have fI:=rC;rw[hJ]at fI;obtain⟨rg,n',H,ds,bI⟩:=st;obtain⟨id,e,s2,dc,rfl,e1,e2,e3,p2,d2,k2,dp2,b2,db,f2,Hx,r0,r1,r5,r6⟩:=fI;dsimp only at e1 e2 e3 p2 f2 Hx r0 r1 r5 r6;subst e1 e2 e3;have o2:=p2.obj;have fin:∀(da:T AV)(wE:Nat)(e':Ex)(s3:RS)(h3:ah)(j:Nat),da.get 0=some (.P I.r)->True:=fun _ _ _ _ _ _ _=>trivial;cases hb:s2.bad with
  |true=>
   simp[r0,r1,r5,r6,o2,hb];have pX:=p2;have kX:=Hx;have fX:=f2;have My:s2.bad=false->kM (I.W.drop s2.k)<l:=fun hz=>by rw[hb]at hz;cases hz
   refine bW (fun m x=>∃j,j<=dc/\m=dc-j/\x.n=80/\x.ds=[]/\x.bI=false/\RP I ⟨s2.k,s2.bad,s2.dep-j,s2.dp⟩ x.h/\aQ I.X H x.h/\
    x.rg.get 0=some (.P I.r)/\x.rg.get 5=some (.P id)/\x.rg.get 6=some (.I dc)/\x.rg.get 11=some (.I j)) dc ?_ ?_
   ·refine⟨0,om,sp,rfl,rfl,rfl,?_,aQ.refl _ _,by simp[r0],by simp[r5],by simp[r6],sp⟩;exact pX
   rintro m ⟨rgu,nu,HU,dsu,ae0⟩ ⟨j,hj,rfl,u1,u2,u3,pU,kU,q0,q5,q6,Bl⟩
   dsimp only at u1 u2 u3 pU kU q0 q5 q6 Bl;subst u1 u2 u3;have dc9:dc<=3000:=(by have:=pX.dd;have:=pX.d2;omega);by_cases Qc:j<dc
   ·have wj:IntKind.wrap .i64 ((j:Int)+1)=((j+1:Nat):Int):=(by rw[wr om om];omega);simp[q0,q5,q6,Bl,Qc];refine EV pU (d:=s2.dep-(j+1)) (by have:=d2.1;simp only;omega) fun hV pV kV=>?_;simp[q0,q5,q6,Bl];exact⟨dc-(j+1),om,j+1,om,rfl,pV,kU.trans kV,wj⟩
   ·have hjd:j=dc:=om;subst hjd;simp[q0,q5,q6,Bl];have pd:=pX.dd;refine hQ id e _ HU pU ⟨k2,dp2,b2,by have:=d2.1;simp only;omega,by simp only;omega,fun hz=>by have:=d2.2 hz;simp only;omega⟩ (by have:=d2.1;simp only;omega) (fun hbz=>?_) (kX.trans kU);obtain⟨f3,f4,f5⟩:=fX hbz;refine⟨f3,fun bb jJ=>?_,f5.move (Move.rx pX.fr (xo.le kX.next) kU)⟩;obtain⟨JY,eu,g1',Qm,g3'⟩:=f4 bb (by simp only at jJ;omega);exact .bin g1' Qm (My hbz)
  |false=>
   simp[r0,r1,r5,r6,o2,hb];refine W8 Lh fun b h3 k3 g3 n3=>?_;simp[r0,r1,r5,r6];have p3:=p2.aJ k3;have uW:=Hx.trans (k3.x _);have f3:s2.bad=false->s.k<s2.k/\(∀b,s2.dp<=s.dep+b->∃JY eu,G .un b (I.W.drop s.k) JY (.e eu)/\G (.steps l eu) b JY (I.W.drop s2.k) (.e e)/\kM (I.W.drop s2.k)<l1)/\tO X h3 id e.rn:=fun hz=>by
    obtain⟨f3,f4,f5⟩:=f2 hz;exact⟨f3,f4,f5.move (Move.k p2.fr k3)⟩
   clear f2 p2 Hx k3 o2;have lv4:(lv l).length<=4:=by
    rcases l with _|_|_|_|_|_|_|_|_|_|l
    case succ.succ.succ.succ.succ.succ.succ.succ.succ.succ=>omega
    all_goals decide
   refine bW (fun m x=>∃i,i<=(lv l).length/\m=(lv l).length-i/\x.n=80/\x.ds=[]/\x.bI=false/\aS h3 x.h/\
    x.rg.get 0=some (.P I.r)/\x.rg.get 1=some (.I l)/\x.rg.get 5=some (.P id)/\x.rg.get 6=some (.I dc)/\x.rg.get 7=some (.str (opQ false (I.W.drop s2.k) ((lv l).take i)))/\x.rg.get 8=some (.S b (lv l).length)/\x.rg.get 9=some (.I i)) (lv l).length ?_ ?_
   ·exact⟨0,om,rfl,rfl,rfl,rfl,aS.refl _,by simp[r0],by simp[r1],by simp[r5],by simp[r6],by simp[opQ,anyS],sp,sp⟩
   clear r0 r1 r5 r6 rg rC
   rintro m2 ⟨rg,n',H5,ds,bI⟩ ⟨i,hi,rfl,e1,e2,e3,k5,r0,r1,r5,r6,r7,r8,r9⟩
   dsimp only at e1 e2 e3 k5 r0 r1 r5 r6 r7 r8 r9;subst e1 e2 e3;have p5:=p3.aJ k5;have g5:=(k5.old b n3).trans g3;by_cases cX:i<(lv l).length
   ·have hx:((lv l).map AV.str)[i]?=some (.str (lv l)[i]):=(by rw[bQ,aj cX];rfl);have wi:IntKind.wrap .i64 ((i:Int)+1)=((i+1:Nat):Int):=(by rw[wr om om];omega);have fI:=Bk (ws:=I.W.drop s2.k) cX;simp[r0,r1,r5,r6,r7,r8,r9,cX,g5,hx];refine Av p5 fun h6 p6 k6=>?_;have g6:=(k6.old b (aw n3 k5.next)).trans g5;cases KI:pH I s2 (lv l)[i]with
    |true=>
     obtain⟨jJ,w,rs,hw,hk,qV⟩:=fV KI;simp[r0,r1,r5,r6,r7,r8,r9,cX,g6,hx,wi];refine⟨(lv l).length-(i+1),om,i+1,cX,rfl,k5.trans k6,?_,om⟩;have:du (I.W.drop s2.k) (lv l)[i]=true:=(by rw[hw];exact uV.2 ⟨w,rs,rfl,hk⟩);simp[opQ,fI,this];rw[hw];simp[YX,hk.t]
    |false=>
     have:=iK KI hb;simp[r0,r1,r5,r6,r7,r8,r9,cX,g6,hx,wi];refine⟨(lv l).length-(i+1),om,i+1,cX,rfl,k5.trans k6,?_,om⟩;simp[opQ,fI,this]
   ·have np:i=(lv l).length:=om;subst np;rw[dH]at r7;have KJ:=uW.trans (k5.x _);have f5:s2.bad=false->s.k<s2.k/\(∀b,s2.dp<=s.dep+b->∃JY eu,G .un b (I.W.drop s.k) JY (.e eu)/\G (.steps l eu) b JY (I.W.drop s2.k) (.e e)/\kM (I.W.drop s2.k)<l1)/\tO X H5 id e.rn:=fun hz=>by
     obtain⟨f3,f4,f5⟩:=f3 hz;exact⟨f3,f4,f5.move (Move.k p3.fr k5)⟩
    clear f3 p3 uW k5 g3;cases Tp:anyS (I.W.drop s2.k) (lv l)with
    |false=>
     have r7':rg.get 7=some (.str []):=(by rw[r7];simp[opQ,Tp]);simp[r0,r1,r5,r6,r7',r8,r9];have pX:=p5;have kX:=KJ;have fX:=f5;have My:s2.bad=false->kM (I.W.drop s2.k)<l:=fun hz=>by
      obtain⟨a1,a2,a3⟩:=f5 hz;obtain⟨JY,eu,b1,b2,b3⟩:=a2 s2.dp om;have:kM (I.W.drop s2.k)≠l:=fun e=>by rw[(Xb Lh).2 e]at Tp;cases Tp
      omega
     refine bW (fun m x=>∃j,j<=dc/\m=dc-j/\x.n=80/\x.ds=[]/\x.bI=false/\RP I ⟨s2.k,s2.bad,s2.dep-j,s2.dp⟩ x.h/\aQ I.X H5 x.h/\
      x.rg.get 0=some (.P I.r)/\x.rg.get 5=some (.P id)/\x.rg.get 6=some (.I dc)/\x.rg.get 11=some (.I j)) dc ?_ ?_
     ·refine⟨0,om,sp,rfl,rfl,rfl,?_,aQ.refl _ _,by simp[r0],by simp[r5],by simp[r6],sp⟩;exact pX
     rintro m ⟨rgu,nu,HU,dsu,ae0⟩ ⟨j,hj,rfl,u1,u2,u3,pU,kU,q0,q5,q6,Bl⟩
     dsimp only at u1 u2 u3 pU kU q0 q5 q6 Bl;subst u1 u2 u3;have dc9:dc<=3000:=(by have:=pX.dd;have:=pX.d2;omega);by_cases Qc:j<dc
     ·have wj:IntKind.wrap .i64 ((j:Int)+1)=((j+1:Nat):Int):=(by rw[wr om om];omega);simp[q0,q5,q6,Bl,Qc];refine EV pU (d:=s2.dep-(j+1)) (by have:=d2.1;simp only;omega) fun hV pV kV=>?_;simp[q0,q5,q6,Bl];exact⟨dc-(j+1),om,j+1,om,rfl,pV,kU.trans kV,wj⟩
     ·have hjd:j=dc:=om;subst hjd;simp[q0,q5,q6,Bl];have pd:=pX.dd;refine hQ id e _ HU pU ⟨k2,dp2,b2,by have:=d2.1;simp only;omega,by simp only;omega,fun hz=>by have:=d2.2 hz;simp only;omega⟩ (by have:=d2.1;simp only;omega) (fun hbz=>?_) (kX.trans kU);obtain⟨f3,f4,f5⟩:=fX hbz;refine⟨f3,fun bb jJ=>?_,f5.move (Move.rx pX.fr (xo.le kX.next) kU)⟩;obtain⟨JY,eu,g1',Qm,g3'⟩:=f4 bb (by simp only at jJ;omega);exact .bin g1' Qm (My hbz)
    |true=>
     obtain⟨t,ht,hs⟩:∃t,t∈lv l/\du (I.W.drop s2.k) t=true:=(by simpa[anyS,qT]using Tp);obtain⟨w,rs,hw,hk⟩:=uV.1 hs;have hlv:=J6 (rs:=rs) Lh ht hk;have jX:(w.text==[])=false:=(by rw[aH,hk.t];exact abk ht);have r7':rg.get 7=some (.str w.text):=(by rw[r7];simp[opQ,Tp];rw[hw];rfl);have nJ:=fT hw;have qV:=mX hw;have o5:=p5.obj;have w2:IntKind.wrap .i64 ((s2.k:Int)+1)=((s2.k+1:Nat):Int):=(by rw[wr om om];omega);have w3:IntKind.wrap .i64 ((dc:Int)+1)=((dc+1:Nat):Int):=(by rw[wr (by have:=p5.d2;have:=p5.dd;omega) (by have:=p5.d2;have:=p5.dd;omega)];omega);obtain⟨p6,k6⟩:=p5.at (s2.k+1) om
     simp[r0,r1,r5,r6,r7',r8,r9,jX,o5,w2];simp at p6 k6;have kx6:=KJ.trans k6;refine zh [98,105,110] (ok:=True) (X:=X) (h0:=H5.set I.r (.C [.S I.b I.W.length,.I ((s2.k:Int)+1),.bool s2.bad,.P I.g,.I s2.dep])) p6 (aQ.refl _ _) (xo.le kx6.next) fun iT h7 p7 k7 m7=>?_;have e6:=fun hz=>(f5 hz).2.2.move (Move.rx p5.fr (xo.le KJ.next) k6);have f6:=fun hz=>(f5 hz).2.1;have fk:=fun hz=>(f5 hz).1;clear f5 g5;have xo6:=xo.le (h:=h) kx6.next;generalize H5.set I.r (.C [.S I.b I.W.length,.I ((s2.k:Int)+1),.bool s2.bad,.P I.g,.I s2.dep])=h6 at*;clear p5 KJ k6 o5;have g7:=m7.get;simp[ND.obj]at g7;simp[r0,r1,r5,r6,r7',r8,r9,g7];obtain⟨h8,e8,m8,p8⟩:=m7.put p7 p6.bl ⟨[98,105,110],w.text,[],0,.Z,[]⟩ rfl rfl;simp[ND.obj]at e8;rw[e8];simp[r0,r1,r5,r6,w1];have nTX:iT∉X:=xo6.nx m8.lo;have xo8:XO I (iT::X) h8:=⟨ay _ xo6.r,ay _ xo6.g,fun y hy=>by
      rcases aq.1 hy with rfl|hy
      ·exact m8.lt
      ·exact(xo6.le m8.kx.next).lt y hy⟩
     refine(IH (I.W.length-(s2.k+1)) om).ch l1 om I ⟨s2.k+1,s2.bad,s2.dep,s2.dp⟩ h8 (iT::X) _ rfl p8 xo8 (by simp only;omega) fun sR t2 s9 h9 p9 a9 l9 f9 k9=>?_;have m9:=m8.call p8.fr k9;have a9k:=a9.k;have a9d:=a9.lo;have a9e:=a9.dep;have a9f:=a9.xA;have a9p:=a9.dp;have a9b:=a9.bad;simp only at a9k a9d a9p a9b a9e a9f;have ltT:=m9.lt;have HF:iT≠h9.next:=om;have K10:=(aS.refl h9).alloc (.cells true 1 [.P id,.P sR]);have m10:=m9.aJ p9.fr K10;have Oh:=p9.aJ K10;have g9:=m9.get;simp[ND.obj]at g9;simp[r0,r1,r5,r6,g9,HF,HF.symm];have lo9:=m9.lo;have afR:=(m8.kx.trans k9).next
     obtain⟨EE,W4,m11,WY⟩:=(m10.nW (tw:=s9.bad=false) (fun _=>trivial)).list Oh p6.bl rfl (j:=h9.next) om sp HF [(id,e.rn),(sR,t2.rn)] sp (fun o q hq=>by
      simp only[aq,bd,cT]at hq;rcases hq with rfl|rfl
      ·exact(e6 (a9b o)).move (Move.of p6.fr m10.kx (fun z hz _=>by
        simp[RI.X]at hz;rcases hz with h1|h1
        ·rw[h1];exact xo6.r
        ·rw[h1];exact xo6.g) (fun y hy=>by
        rcases aq.1 hy with rfl|hy
        ·exact .inr om
        ·rcases aq.1 hy with rfl|hy
         ·exact .inr m8.lo
         ·exact .inl hy))
      ·exact(f9 o).2.2.move (Move.of p9.fr (K10.x []) sp (fun y hy=>by
        rcases aq.1 hy with rfl|hy
        ·exact .inr om
        ·exact .inl hy))) (by
      intro hx;rcases aq.1 hx with hx|hx
      ·exact HF hx.symm
      ·have:=xo6.lt _ hx;omega)
     simp[ND.obj]at W4;rw[W4];have sdp:=p9.d2;have kl9:=p9.kl;refine vE WY om fun wk p12 Ck=>?_;simp[r0,r1,r5,r6,w3];have Tq:=kx6.trans m11.kx;rw[hJ];refine⟨I.W.length-s9.k,om,iT,.bin w.at w.text e t2,⟨s9.k,s9.bad,s9.dep+1,max s9.dp (s9.dep+1)⟩,dc+1,rfl,rfl,rfl,rfl,p12,⟨by have:=d2.1;simp only;omega,fun hz=>by have:=d2.2 (a9b hz);have:=a9e hz;simp only;omega⟩,by simp only;omega,by simp only;omega,fun hz=>b2 (a9b hz),by simp only;omega,fun hz=>?_,Tq.trans Ck,by simp[r0],by simp[r1],by simp[r5],by simp[r6]⟩;have Tr:s9.bad=false:=hz;obtain⟨q1,q2,q3⟩:=f9 Tr;refine⟨by have:=fk (a9b Tr);simp only;omega,fun bb jJ=>?_,?_⟩
     ·have d29:=d2.2 (a9b Tr);obtain⟨JY,eu,u1,u2,u3⟩:=f6 (a9b Tr) bb (by simp only at jJ;omega);have hr:=q2 bb (by simp only at jJ⊢;omega);simp only at hr;rw[qV]at hr;rw[hw]at u2;refine⟨JY,eu,u1,u2.J4 (.step hlv (ao _) (uc▸hr) .stop),?_⟩;cases hr with
      |bin _ _ h3=>exact h3
     ·exact(m11.done Tr (.mk [98,105,110] w.text [] 0 [e.rn,t2.rn]) rfl rfl rfl rfl rfl).move (Move.rx WY.fr (xo.le Tq.next) Ck)
end
section
attribute [local simp] aI
section
variable{I:RI}{s:RS}{h H:ah}{X:List Nat}{iT:Nat}{ok tw:Prop}{d:ND}
theorem NM.xoT(m:NM I X h iT ok d H):XO I (iT::X) H:=⟨ay _ m.xo.r,ay _ m.xo.g,fun y hy=>by
 rcases aq.1 hy with rfl|hy
 ·exact m.lt
 ·exact(m.xo.le m.kx.next).lt y hy⟩
theorem NM.YY(m:NM I X h iT ok d H)(p:RP I s H)(bl:I.b<h.next)(rQ:d.av= .Z)(gJ:tw->ok)(id:Nat)(t:RN)(rep:tw->tO (iT::X) H id t):
 ∃H',(H.alloc (.cells true 1 [.P id])).2.set iT (.C [.str d.op,.str d.nm,.str d.ty,.I d.n,.S H.next 1,.str [],.I 0])=H'/\NM I X h iT tw ⟨d.op,d.nm,d.ty,d.n,.S H.next 1,[(id,t)]⟩ H'/\RP I s H':=by
 have K:=(aS.refl H).alloc (.cells true 1 [.P id]);have lt:=m.lt;have nx:=m.kx.next;exact((m.aJ p.fr K).nW gJ).list (p.aJ K) bl rQ (j:=H.next) nx sp om [(id,t)] sp (fun o q hq=>by
  simp only[aq,bd,cT]at hq;subst hq;exact(rep o).move (Move.of p.fr (K.x []) sp (fun y hy=>by
   rcases aq.1 hy with rfl|hy
   ·exact .inr om
   ·exact .inl hy))) (by
  intro hx;rcases aq.1 hx with hx|hx
  ·omega
  ·have:=m.xo.lt _ hx;omega)
theorem NM.ae1(m:NM I X h iT ok d H)(p:RP I s H)(fr:cM h)(bl:I.b<h.next)(rQ:d.av= .Z)(gJ:tw->ok)(id sR:Nat)(t t2:RN)(rep:tw->tO X h id t)(agl:tw->tO (iT::X) H sR t2):
 ∃H',(H.alloc (.cells true 1 [.P id,.P sR])).2.set iT (.C [.str d.op,.str d.nm,.str d.ty,.I d.n,.S H.next 2,.str [],.I 0])=H'/\NM I X h iT tw ⟨d.op,d.nm,d.ty,d.n,.S H.next 2,[(id,t),(sR,t2)]⟩ H'/\RP I s H':=by
 have K:=(aS.refl H).alloc (.cells true 1 [.P id,.P sR]);have lt:=m.lt;have lo:=m.lo;have nx:=m.kx.next;have m2:=m.aJ p.fr K;exact(m2.nW gJ).list (p.aJ K) bl rQ (j:=H.next) nx sp om [(id,t),(sR,t2)] sp (fun o q hq=>by
  simp only[aq,bd,cT]at hq;rcases hq with rfl|rfl
  ·exact(rep o).move (Move.of fr m2.kx (fun z hz _=>by
    simp[RI.X]at hz;rcases hz with h1|h1
    ·rw[h1];exact m.xo.r
    ·rw[h1];exact m.xo.g) (fun y hy=>by
    rcases aq.1 hy with rfl|hy
    ·exact .inr nx
    ·rcases aq.1 hy with rfl|hy
     ·exact .inr lo
     ·exact .inl hy))
  ·exact(agl o).move (Move.of p.fr (K.x []) sp (fun y hy=>by
    rcases aq.1 hy with rfl|hy
    ·exact .inr om
    ·exact .inl hy))) (by
  intro hx;rcases aq.1 hx with hx|hx
  ·omega
  ·have:=m.xo.lt _ hx;omega)
end
def PSp(n:Nat):Prop:=
 ∀(I:RI)(s:RS)(h:ah)(X:List Nat)(Q:Out->ah->Prop),I.W.length-s.k=n->RP I s h->XO I X h->s.dep+4*n<=1202->
  (∀id t s' h',RP I s' h'->kc s s'->(s'.bad=false->s.k<s'.k/\(∀b,s'.dp<=s.dep+b->∃cq e0,G .fw b (I.W.drop s.k) cq (.e e0)/\G (.kj e0) b cq (I.W.drop s'.k) (.e t))/\tO X h' id t.rn)->aQ I.X h h'->Q (.ret (.P id)) h')->
  aV env 194 [.P I.r] h Q
theorem abm{t:List UInt8}{i:Nat}(hi:i<Bf.length){w:Wo}{rs:List Wo}(hk:ja w Bf[i]):anyS (w::rs) Bf=true:=by
 simp only[anyS,qT];exact⟨Bf[i],bK _,uV.2 ⟨w,rs,rfl,hk⟩⟩
theorem Xc{n:Nat}(hp:PSp n)(IH:∀n',n'<n->Mx n'):PS 168 [] .un 0 0 1202 n:=by
 intro I s h X Q hn p xo hd hQ;refine wb fn168 rfl ?_;have wl:=p.Bj.len;have rl:=p.rl;have gl:=p.gl;simp[f168];have k0:aS h _:=(aS.refl h).alloc (.cells true 1 [.str [45],.str [126],.str [33],.str [42],.str [38]]);have g0:((h.alloc (.cells true 1 [.str [45],.str [126],.str [33],.str [42],.str [38]])).2).get h.next=some (.cells true 1 (Bf.map AV.str)):=by
  rw[ah.dz,aW rfl];rfl
 have n0:h.next<((h.alloc (.cells true 1 [.str [45],.str [126],.str [33],.str [42],.str [38]])).2).next:=sp
 generalize (h.alloc (.cells true 1 [.str [45],.str [126],.str [33],.str [42],.str [38]])).2=h1 at*;refine bW (fun m x=>∃i,i<=Bf.length/\m=Bf.length-i/\x.n=75/\x.ds=[]/\x.bI=false/\aS h x.h/\h.next<x.h.next/\x.h.get h.next=some (.cells true 1 (Bf.map AV.str))/\(s.bad=false->anyS (I.W.drop s.k) (Bf.take i)=false)/\
  x.rg.get 0=some (.P I.r)/\x.rg.get 3=some (.S h.next Bf.length)/\x.rg.get 4=some (.I i)) Bf.length ?_ ?_
 ·exact⟨0,om,rfl,rfl,rfl,rfl,k0,n0,g0,fun _=>by simp[anyS],sp,by simp[Bf],sp⟩
 clear k0 g0 n0 h1
 rintro m ⟨rg,n',H,ds,bI⟩ ⟨i,hi,rfl,e1,e2,e3,k1,n1,g1,tf,r0,r3,r4⟩
 dsimp only at e1 e2 e3 k1 n1 g1 r0 r3 r4;subst e1 e2 e3;have p1:=p.aJ k1;have xo1:=xo.le k1.next;have u5:Bf.length=5:=rfl;by_cases cX:i<Bf.length
 ·have hx:(Bf.map AV.str)[i]?=some (.str Bf[i]):=by rw[bQ,aj cX];rfl
  have wi:IntKind.wrap .i64 ((i:Int)+1)=((i+1:Nat):Int):=by rw[wr om om];omega
  have fI:=Bk (ws:=I.W.drop s.k) cX;simp[r0,r3,r4,cX,g1,hx];refine iL p1 (fun hs h2 p2 k2=>?_) fun hs h2 p2 k2=>?_
  ·obtain⟨hb,w,rs,hw,hk,qV⟩:=fV hs;have nJ:=fT hw;have nX:h.next∉I.X:=(by simp[RI.X];omega);have g2:=(k2.old h.next n1 nX).trans g1;have n2:=aw n1 k2.next;simp[r0,r3,r4];refine vE p2 (by simp only;omega) fun h3 p3 k3=>?_;have g3:=(k3.old h.next n2 nX).trans g2;have n3:=aw n2 k3.next;have uW:=(k1.x I.X).trans (k2.trans k3);simp[r0,r3,r4];refine zh [117,110] (ok:=True) (X:=X) (h0:=h3) p3 (aQ.refl _ _) (xo.le uW.next) fun iT h4 p4 k4 m4=>?_;have g4:=(k4.old h.next n3 nX).trans g3;have gT:=m4.get;simp[ND.obj]at gT;simp[r0,r3,r4,cX,g4,hx,gT];obtain⟨h5,e5,m5,p5⟩:=m4.put p4 p3.bl ⟨[117,110],Bf[i],[],0,.Z,[]⟩ rfl rfl;simp[ND.obj]at e5;rw[e5];refine(IH (I.W.length-(s.k+1)) om).un I ⟨s.k+1,s.bad,s.dep+1,max s.dp (s.dep+1)⟩ h5 (iT::X) _ rfl p5 m5.xoT (by simp only;omega) fun sR t2 s6 h6 p6 a6 l6 f6 k6=>?_;have a6k:=a6.k;have a6d:=a6.lo;have a6e:=a6.dep;have a6f:=a6.xA;have a6p:=a6.dp;have a6b:=a6.bad;simp only at a6k a6d a6p a6b a6e a6f;have m6:=m5.call p5.fr k6;have ltT:=m6.lt;have HF:iT≠h6.next:=om;have g6:=m6.get;simp[ND.obj]at g6;simp[r0,r3,r4,g6,HF,HF.symm];obtain⟨h7,e7,m7,p7⟩:=m6.YY p6 p3.bl rfl (tw:=s6.bad=false) (fun _=>trivial) sR t2.rn (fun o=>(f6 o).2.2);simp at e7;rw[e7];refine EV p7 (d:=s6.dep-1) om fun h8 p8 k8=>?_;simp[r0];have BW:=uW.trans m7.kx;refine hQ iT (.un w.at w.text t2) _ h8 p8 ⟨by simp only;omega,by simp only;omega,fun hz=>hb,by simp only;omega,by simp only;omega,fun hz=>by have:=a6e hz;simp only;omega⟩ (by simp only;omega) (fun hz=>?_) (BW.trans k8);have hz6:s6.bad=false:=hz;obtain⟨q1,q2,q3⟩:=f6 hz6;refine⟨by simp only;omega,fun bb jJ=>?_,?_⟩
   ·simp only at jJ;obtain⟨b',rfl⟩:∃b',bb=b'+1:=⟨bb-1,om⟩
    have:=q2 b' (by simp only;omega);simp only at this;rw[qV]at this;rw[hw];exact .unop (abm (t:=[]) cX hk) this
   ·exact(m7.done hz6 (.mk [117,110] w.text [] 0 [t2.rn]) rfl (show Bf[i]=w.text from hk.t.symm) rfl rfl rfl).move (Move.rx p7.fr (xo.le BW.next) k8)
  ·simp[r0,r3,r4,wi];refine⟨Bf.length-(i+1),om,i+1,cX,rfl,k1.trans k2,aw n1 k2.next,(k2.old _ n1).trans g1,fun hb=>?_,om⟩;rw[fI,tf hb,iK hs hb];rfl
 ·have np:i=Bf.length:=by omega
  subst np;rw[dH]at tf;have post:∀h2,(s.bad=false->du (I.W.drop s.k) [40]=false\/lK (I.W.drop s.k).tail=false)->aQ I.X H h2->RP I s h2->aV env 194 [.P I.r] h2 (fun out h'=>∃id,out= .ret (.P id)/\Q (.ret (.P id)) h'):=fun h2 hc Hx p2=>
   hp I s h2 X _ hn p2 ((xo1.le Hx.next)) om fun id t s6 h6 p6 a6 f6 k6=>⟨id,rfl,hQ id t s6 h6 p6 a6 (by have:=p6.dd;have:=a6.lo;omega) (fun hz=>by
    obtain⟨q1,q2,q3⟩:=f6 hz;have hb:=a6.bad hz;refine⟨q1,fun bb jJ=>?_,q3⟩;obtain⟨cq,e0,g1',Qm⟩:=q2 bb om;exact .post (tf hb) (hc hb) g1' Qm) ((k1.x _).trans (Hx.trans k6))⟩
  simp[r0,r3,r4];refine Av p1 fun h2 p2 k2=>?_;cases hs:pH I s [40]with
  |false=>
   simp[r0,r3,r4];refine(post _ (fun hb=> .inl (iK hs hb)) (k2.x _) p2).mono fun out h9 hq=>?_;obtain⟨id,rfl,hq⟩:=hq;simp;exact hq
  |true=>
   obtain⟨hb,w,rs,hw,hk,qV⟩:=fV hs;have nJ:=fT hw;simp[r0,r3,r4];refine HD 1 om p2 fun h3 p3 k3=>?_;cases ht:(!s.bad&&lK (I.W.drop (s.k+1)))with
   |false=>
    simp[r0,r3,r4];refine(post _ (fun _=> .inr (by rw[hw];simp only[hb,uy,fi]at ht;rw[qV]at ht;exact ht)) ((k2.x _).trans k3) p3).mono fun out h9 hq=>?_;obtain⟨id,rfl,hq⟩:=hq;simp;exact hq
   |true=>
    have htb:lK rs=true:=(by simp only[hb,uy,fi]at ht;rw[qV]at ht;exact ht);have o3:=p3.obj;have w2:IntKind.wrap .i64 ((s.k:Int)+1)=((s.k+1:Nat):Int):=(by rw[wr om om];omega);obtain⟨p4,k4⟩:=p3.at (s.k+1) om
    simp[r0,r3,r4,o3,w2];simp at p4 k4;have kx4:=(k1.x I.X).trans ((k2.x _).trans (k3.trans k4));refine vE p4 (by simp only;omega) fun h5 p5 k5=>?_;simp[r0];have KJ:=kx4.trans k5;clear p4 k4 kx4 o3 p3 k3 p2 k2;refine zh [99,97,115,116] (ok:=True) (X:=X) (h0:=h5) p5 (aQ.refl _ _) (xo.le KJ.next) fun iT h6 p6 k6 m6=>?_;simp[r0];refine FV p6 fun t s7 h7 p7 a7 d7 l7 f7 k7=>?_;have m7:=m6.call p6.fr k7;have gT:=m7.get;simp[ND.obj]at gT;simp[r0,gT];obtain⟨h8,e8,m8,p8⟩:=m7.put p7 p5.bl ⟨[99,97,115,116],[],t,0,.Z,[]⟩ rfl rfl;simp[ND.obj]at e8;rw[e8];refine iB p8 fun s9 h9 p9 a9 k9' d9 f9 k9=>?_;have m9:=m8.call p8.fr k9;simp[r0];have a7k:=a7.k;have a7d:=a7.lo;have a7f:=a7.xA;have a9k:=a9.k;have a9d:=a9.lo;have a9f:=a9.xA;simp only at a7k a7d a7f d7;refine(IH (I.W.length-s9.k) om).un I s9 h9 (iT::X) _ rfl p9 m9.xoT (by have:=p9.kl;omega) fun sR t2 s10 xU Oh Pt l10 f10 Ig=>?_;have ahu:=Pt.k;have ahv:=Pt.lo;have ahw:=Pt.xA;have ahx:=Pt.dp;have m10:=m9.call p9.fr Ig;have ltT:=m10.lt;have HF:iT≠xU.next:=om;have g10:=m10.get;simp[ND.obj]at g10;simp[r0,r3,r4,g10,HF,HF.symm];obtain⟨EE,W4,m11,WY⟩:=m10.YY Oh p5.bl rfl (tw:=s10.bad=false) (fun _=>trivial) sR t2.rn (fun o=>(f10 o).2.2);simp at W4;rw[W4];refine EV WY (d:=s10.dep-1) om fun wk p12 Ck=>?_;simp[r0];have Tq:=KJ.trans m11.kx;refine hQ iT (.cast w.at t t2) _ wk p12 ⟨by simp only;omega,by simp only;omega,fun hz=>hb,by simp only;omega,by simp only;omega,fun hz=>by have h1:=Pt.dep hz;have h2:=a9.dep (Pt.bad hz);have h3:=a7.dep (a9.bad (Pt.bad hz));simp only at h3⊢;omega⟩ (by simp only;omega) (fun hz=>?_) (Tq.trans Ck);have PV:s10.bad=false:=hz;obtain⟨q1,q2,q3⟩:=f10 PV;obtain⟨c,KN,c1,c2,c3,c4⟩:=f9 (Pt.bad PV);have hT:=f7 (a9.bad (Pt.bad PV));simp only at hT;rw[qV,c1]at hT;refine⟨by simp only;omega,fun bb jJ=>?_,?_⟩
    ·simp only at jJ;obtain⟨b',rfl⟩:∃b',bb=b'+1:=⟨bb-1,om⟩
     have h2:=a9.dep (Pt.bad PV);have h3:=a7.dep (a9.bad (Pt.bad PV));simp only at h3;have:=q2 b' om;rw[c3]at this;rw[hw];exact .cast hk htb hT c2 this
    ·exact(m11.done PV (.mk [99,97,115,116] [] t 0 [t2.rn]) rfl rfl rfl rfl rfl).move (Move.rx WY.fr (xo.le Tq.next) Ck)
end
section
attribute [local simp] aI
section
variable{I:RI}{s:RS}{h H:ah}{X:List Nat}{iT:Nat}{ok tw:Prop}{d:ND}
theorem NM.Ts(m:NM I X h iT ok d H)(p:RP I s H)(fr:cM h)(bl:I.b<h.next)(rQ:d.av= .Z)(gJ:tw->ok)(id:Nat)(t:RN)(rep:tw->tO X h id t):
 ∃H',(H.alloc (.cells true 1 [.P id])).2.set iT (.C [.str d.op,.str d.nm,.str d.ty,.I d.n,.S H.next 1,.str [],.I 0])=H'/\NM I X h iT tw ⟨d.op,d.nm,d.ty,d.n,.S H.next 1,[(id,t)]⟩ H'/\RP I s H':=by
 have K:=(aS.refl H).alloc (.cells true 1 [.P id]);have lt:=m.lt;have lo:=m.lo;have nx:=m.kx.next;have m2:=m.aJ p.fr K;exact(m2.nW gJ).list (p.aJ K) bl rQ (j:=H.next) nx sp om [(id,t)] sp (fun o q hq=>by
  simp only[aq,bd,cT]at hq;subst hq;exact(rep o).move (Move.of fr m2.kx (fun z hz _=>by
   simp[RI.X]at hz;rcases hz with h1|h1
   ·rw[h1];exact m.xo.r
   ·rw[h1];exact m.xo.g) (fun y hy=>by
   rcases aq.1 hy with rfl|hy
   ·exact .inr nx
   ·rcases aq.1 hy with rfl|hy
    ·exact .inr lo
    ·exact .inl hy))) (by
  intro hx;rcases aq.1 hx with hx|hx
  ·omega
  ·have:=m.xo.lt _ hx;omega)
end
def PJ(I:RI)(s:RS)(h:ah)(X:List Nat)(m:Nat)(x:St):Prop:=
 ∃id e s2 dc,m=I.W.length-s2.k/\x.n=84/\x.ds=[]/\x.bI=false/\RP I s2 x.h/\(s.dep+dc<=s2.dep/\(s2.bad=false->s2.dep=s.dep+dc))/\s.k<=s2.k/\s.dp<=s2.dp/\(s2.bad=false->s.bad=false)/\s2.dep+4*s.k<=s.dep+4*s2.k/\
  (s2.bad=false->s.k<s2.k/\(∀b,s2.dp<=s.dep+b->∃cq e0,G .fw b (I.W.drop s.k) cq (.e e0)/\∀eK e2,G (.kj e) b (I.W.drop s2.k) eK (.e e2)->G (.kj e0) b cq eK (.e e2))/\tO X x.h id e.rn)/\aQ I.X h x.h/\
  x.rg.get 0=some (.P I.r)/\x.rg.get 3=some (.P id)/\x.rg.get 4=some (.I dc)
theorem PW{n:Nat}(hp:PS 210 [] .fw 0 0 1202 n)(IH:∀n',n'<n->Mx n'):PSp n:=by
 intro I s h X Q hn p xo hd hQ;refine wb fn194 rfl ?_;have wl:=p.Bj.len;simp[f194];refine hp I s h X _ hn p xo hd fun id e0 s1 h1 p1 a1 l1' f1 k1=>?_;simp;obtain⟨J,hJ⟩:∃J:Nat->St->Prop,J=PJ I s h X:=⟨_,rfl⟩
 refine bW J (I.W.length-s1.k) ?_ ?_
 ·rw[hJ];refine⟨id,e0,s1,0,rfl,rfl,rfl,rfl,p1,⟨a1.lo,a1.dep⟩,a1.k,a1.dp,a1.bad,a1.xA,fun hb=>?_,k1,sp,sp,sp⟩;obtain⟨f3,f4,f5⟩:=f1 hb;exact⟨f3,fun b jJ=>⟨_,_,f4 b om,fun _ _ hs=>hs⟩,f5⟩
 clear p1 a1 l1' f1 k1 e0 id h1 s1;intro m st rC;have fI:=rC;rw[hJ]at fI;obtain⟨rg,n',H,ds,bI⟩:=st;obtain⟨id,e,s2,dc,rfl,e1,e2,e3,p2,d2,k2,dp2,b2,ph,f2,Hx,r0,r3,r4⟩:=fI;dsimp only at e1 e2 e3 p2 f2 Hx r0 r3 r4;subst e1 e2 e3;have o2:=p2.obj;have kl2:=p2.kl;have d22:=p2.d2;have dd2:=p2.dd;cases hb:s2.bad with
 |true=>
  simp[r0,r3,r4,o2,hb];exact hQ id e s2 H p2 ⟨k2,dp2,b2,om,ph,fun hz=>by rw[hb]at hz;cases hz⟩ (fun hz=>by rw[hb]at hz;cases hz) Hx
 |false=>
  obtain⟨f3,f4,f5⟩:=f2 hb;have d2e:=d2.2 hb;have w3:IntKind.wrap .i64 ((dc:Int)+1)=((dc+1:Nat):Int):=by rw[wr om om];omega
  simp[r0,r3,r4,o2,hb];refine zh [105,110,100,101,120] (ok:=True) (X:=X) (h0:=H) p2 (aQ.refl _ _) (xo.le Hx.next) fun iT h3 p3 k3 m3=>?_;simp[r0];have again:∀(da:T AV)(e':Ex)(s9:RS)(h9 h8:ah),da.get 0=some (.P I.r)->da.get 3=some (.P iT)->da.get 4=some (.I (dc+1:Nat))->RP I s9 h8->RP I ⟨s9.k,s9.bad,s9.dep+1,max s9.dp (s9.dep+1)⟩ h9->aQ I.X H h8->aQ I.X h8 h9->s2.k<s9.k->s2.dep<=s9.dep->s9.dep+4*(s2.k+1)<=s2.dep+4*s9.k->(s9.bad=false->s9.dep=s2.dep)->s2.dp<=s9.dp->
   (s9.bad=false->tO X h8 iT e'.rn)->(s9.bad=false->∀b eK e2,max s9.dp (s9.dep+1)<=s.dep+b->G (.kj e') b (I.W.drop s9.k) eK (.e e2)->G (.kj e) b (I.W.drop s2.k) eK (.e e2))->
   ∃j,j<I.W.length-s2.k/\J j ⟨da,84,h9,[],false⟩:=by
   intro da e' s9 h9 h8 q0 q3 q4 p8 p9 k8 k9 hk ahy hph hde ahz hN hG;have kl9:=p9.kl;simp only at kl9;refine⟨I.W.length-s9.k,om,?_⟩;rw[hJ];refine⟨iT,e',⟨s9.k,s9.bad,s9.dep+1,max s9.dp (s9.dep+1)⟩,dc+1,rfl,rfl,rfl,rfl,p9,⟨by simp only;omega,fun hz=>by have:=hde hz;simp only;omega⟩,by simp only;omega,by simp only;omega,fun _=>b2 hb,by simp only;omega,fun hz=>?_,(Hx.trans k8).trans k9,q0,q3,q4⟩;refine⟨by simp only;omega,fun b jJ=>?_,(hN hz).move (Move.rx p8.fr (xo.le (Hx.trans k8).next) k9)⟩;simp only at jJ;obtain⟨cq,e0,g1,g2⟩:=f4 b om;exact⟨cq,e0,g1,fun eK e2 hs=>g2 _ _ (hG hz b eK e2 jJ hs)⟩
  refine iL p3 (fun hs h4 p4 k4=>?_) fun Gv h4 p4 k4=>?_
  ·obtain⟨_,w,rs,hw,hk,qV⟩:=fV hs;have nJ:=fT hw;have m4:=m3.call p3.fr k4;simp[r0,r3,r4];refine(IH (I.W.length-(s2.k+1)) om).ex I ⟨s2.k+1,s2.bad,s2.dep,s2.dp⟩ h4 (iT::X) _ rfl p4 m4.xoT (by simp only;omega) fun sR t2 s5 h5 p5 a5 l5 f6 k5=>?_;have m5:=m4.call p4.fr k5;have ltT:=m5.lt;have HF:iT≠h5.next:=om;have g5:=m5.get;simp[ND.obj]at g5;simp[r0,r3,r4,g5,HF,HF.symm];obtain⟨h6,e6,m6,p6⟩:=m5.ae1 p5 p2.fr p2.bl rfl (tw:=s5.bad=false) (fun _=>trivial) id sR e.rn t2.rn (fun _=>f5) (fun o=>(f6 o).2.2)
   try simp at e6
   rw[e6];refine iB p6 fun s7 h7 p7 a7 k7' d7 f7 k7=>?_;have m7:=m6.call p6.fr k7;simp[r0,r3,r4];have a5k:=a5.k;have a5l:=a5.lo;have a5p:=a5.xA;have a5d:=a5.dp;have a7k:=a7.k;have a7l:=a7.lo;have a7p:=a7.xA;have a7d:=a7.dp;have kl7:=p7.kl;simp only at a5k a5l a5p a5d l5;refine vE p7 om fun h8 p8 k8=>?_;simp[r0,r3,r4,w3];refine again _ (.index w.at e t2) s7 h8 h7 (by simp[r0]) sp sp p7 p8 m7.kx k8 om om om (fun hz=>by have h1:=a7.dep hz;have h2:=a5.dep (a7.bad hz);simp only at h2;omega) om (fun hz=>m7.done (a7.bad hz) (.mk [105,110,100,101,120] [] [] 0 [e.rn,t2.rn]) rfl rfl rfl rfl rfl) (fun hz b eK e2 jJ hs=>?_);obtain⟨c,KN,c1,c2,c3,c4⟩:=f7 hz;obtain⟨q1,q2,q3⟩:=f6 (a7.bad hz);obtain⟨b',rfl⟩:∃b',b=b'+1:=⟨b-1,om⟩
   have h2:=a5.dep (a7.bad hz);have:=q2 b' (by simp only at h2⊢;omega);simp only at this;rw[qV,c1]at this;rw[hw];rw[c3]at hs;exact .L3 hk this c2 hs
  ·have m4:=m3.aJ p3.fr k4;simp[r0,r3,r4];refine iL p4 (fun hs h5 p5 k5=>?_) fun uZ h5 p5 k5=>?_
   ·obtain⟨_,w,rs,hw,hk,qV⟩:=fV hs;have nJ:=fT hw;have m5:=m4.call p4.fr k5;have g5:=m5.get;simp[ND.obj]at g5;have ltT:=m5.lt;have HF:iT≠h5.next:=om;simp[r0,r3,r4,g5,HF,HF.symm];obtain⟨_,rfl,m6,p6⟩:=m5.put p5 p2.bl ⟨[100,111,116],[],[],0,.Z,[]⟩ rfl rfl;obtain⟨h7,e7,m7,p7⟩:=m6.Ts p6 p2.fr p2.bl rfl (tw:=True) (fun _=>trivial) id e.rn (fun _=>f5);simp[ND.obj]at e7;rw[e7];refine xC p7 fun nm s8 h8 p8 a8 k8' d8 l8 f8 k8=>?_;have m8:=m7.call p7.fr k8;have g8:=m8.get;simp[ND.obj]at g8;simp[r0,r3,r4,g8];obtain⟨h9,e9,m9,p9⟩:=m8.put p8 p2.bl ⟨[100,111,116],nm,[],0,.S h5.next 1,[(id,e.rn)]⟩ rfl rfl;simp[ND.obj]at e9;rw[e9];have a8k:=a8.k;have a8l:=a8.lo;have a8p:=a8.xA;have a8d:=a8.dp;have kl8:=p8.kl;simp only at a8k a8l a8p a8d k8' d8;refine vE p9 om fun hA pA kA=>?_;simp[r0,r3,r4,w3];refine again _ (.mr w.at nm e) s8 hA h9 (by simp[r0]) sp sp p9 pA m9.kx kA om om om (fun hz=>by have h1:=a8.dep hz;simp only at h1;omega) om (fun hz=>m9.done trivial (.mk [100,111,116] nm [] 0 [e.rn]) rfl rfl rfl rfl rfl) (fun hz b eK e2 jJ hs=>?_);obtain⟨c,KN,c1,c2,c3,c4,c5⟩:=f8 hz;simp only at c1;rw[qV]at c1;rw[hw,c1];rw[c4]at hs;subst c3;exact .L4 hk c2 hs
   ·have m5:=m4.aJ p4.fr k5;simp[r0,r3,r4];refine iL p5 (fun hs h6 p6 k6=>?_) fun hs3 h6 p6 k6=>?_
    ·obtain⟨_,w,rs,hw,hk,qV⟩:=fV hs;have nJ:=fT hw;have m5:=m5.call p5.fr k6;have g5:=m5.get;simp[ND.obj]at g5;have ltT:=m5.lt;have HF:iT≠h6.next:=om;simp[r0,r3,r4,g5,HF,HF.symm];obtain⟨_,rfl,m6,p6'⟩:=m5.put p6 p2.bl ⟨[97,114,114,111,119],[],[],0,.Z,[]⟩ rfl rfl;obtain⟨h7,e7,m7,p7⟩:=m6.Ts p6' p2.fr p2.bl rfl (tw:=True) (fun _=>trivial) id e.rn (fun _=>f5);simp[ND.obj]at e7;rw[e7];refine xC p7 fun nm s8 h8 p8 a8 k8' d8 l8 f8 k8=>?_;have m8:=m7.call p7.fr k8;have g8:=m8.get;simp[ND.obj]at g8;simp[r0,r3,r4,g8];obtain⟨h9,e9,m9,p9⟩:=m8.put p8 p2.bl ⟨[97,114,114,111,119],nm,[],0,.S h6.next 1,[(id,e.rn)]⟩ rfl rfl;simp[ND.obj]at e9;rw[e9];have a8k:=a8.k;have a8l:=a8.lo;have a8p:=a8.xA;have a8d:=a8.dp;have kl8:=p8.kl;simp only at a8k a8l a8p a8d k8' d8;refine vE p9 om fun hA pA kA=>?_;simp[r0,r3,r4,w3];refine again _ (.arrow w.at nm e) s8 hA h9 (by simp[r0]) sp sp p9 pA m9.kx kA om om om (fun hz=>by have h1:=a8.dep hz;simp only at h1;omega) om (fun hz=>m9.done trivial (.mk [97,114,114,111,119] nm [] 0 [e.rn]) rfl rfl rfl rfl rfl) (fun hz b eK e2 jJ hs=>?_);obtain⟨c,KN,c1,c2,c3,c4,c5⟩:=f8 hz;simp only at c1;rw[qV]at c1;rw[hw,c1];rw[c4]at hs;subst c3;exact .L5 hk c2 hs
    ·have m6:=m5.aJ p5.fr k6;obtain⟨nd,pg⟩:=p6.prog;have o6:=p6.obj;simp[r0,r3,r4,o6,pg,p6.rg,p6.rg.symm];have BW:aQ I.X h6 (h6.set I.g (.C [I.l1,I.l2,I.l3,I.l4,.I (IntKind.wrap .i64 (nd-1)),.I s2.dp])):=aQ.set _ (aQ.refl _ _) (.inl (by simp[RI.X])) p6.gl;have p7:=p6.AG (s':=s2) BW (by rw[ah.aM,az p6.rg];exact o6) ⟨_,by rw[ah.aM,aW rfl]⟩ p6.kl p6.dd p6.d2;generalize h6.set I.g (.C [I.l1,I.l2,I.l3,I.l4,.I (IntKind.wrap .i64 (nd-1)),.I s2.dp])=h7 at*;have kX:=Hx.trans (m6.kx.trans BW);have f7:=f5.move (Move.rx p2.fr (xo.le Hx.next) (m6.kx.trans BW));refine bW (fun m x=>∃j,j<=dc/\m=dc-j/\x.n=84/\x.ds=[]/\x.bI=false/\RP I ⟨s2.k,s2.bad,s2.dep-j,s2.dp⟩ x.h/\aQ I.X h7 x.h/\
      x.rg.get 0=some (.P I.r)/\x.rg.get 3=some (.P id)/\x.rg.get 4=some (.I dc)/\x.rg.get 6=some (.I j)) dc ?_ ?_
     ·exact⟨0,om,sp,rfl,rfl,rfl,p7,aQ.refl _ _,by simp[r0],by simp[r3],by simp[r4],sp⟩
     rintro m ⟨rgu,nu,HU,dsu,ae0⟩ ⟨j,hj,rfl,u1,u2,u3,pU,kU,q0,q3,q4,q6⟩
     dsimp only at u1 u2 u3 pU kU q0 q3 q4 q6;subst u1 u2 u3;by_cases Qc:j<dc
     ·have wj:IntKind.wrap .i64 ((j:Int)+1)=((j+1:Nat):Int):=(by rw[wr om om];omega);simp[q0,q3,q4,q6,Qc];refine EV pU (d:=s2.dep-(j+1)) (by simp only;omega) fun hV pV kV=>?_;simp[q0,q3,q4,q6];exact⟨dc-(j+1),om,j+1,om,rfl,pV,kU.trans kV,wj⟩
     ·have hjd:j=dc:=om;subst hjd;simp[q0,q3,q4,q6];refine hQ id e _ HU pU ⟨k2,dp2,b2,by simp only;omega,by simp only;omega,fun hz=>by simp only;omega⟩ (fun hz=>?_) (kX.trans kU);refine⟨f3,fun b jJ=>?_,f7.move (Move.rx p7.fr (xo.le kX.next) kU)⟩;obtain⟨cq,e0,g1,g2⟩:=f4 b jJ;exact⟨cq,e0,g1,g2 _ _ (.DU (by simp only[anyS,List.any_cons,List.any_nil,iK Gv hb,iK uZ hb,iK hs3 hb];rfl))⟩
end
section
attribute [local simp] aI
section
variable{I:RI}{s:RS}{h H:ah}{X:List Nat}{iT:Nat}{ok tw:Prop}{d:ND}
theorem RP.new(p:RP I s h){i:Nat}(o:ej)(g:h.get i=none)(hi:i<h.next):RP I s (h.set i o):=by
 obtain⟨nd,pg⟩:=p.prog;exact p.put o (fun e=>by rw[e,p.obj]at g;cases g) (fun e=>by rw[e,pg]at g;cases g) (fun e=>by rw[e,p.arr]at g;cases g) hi
theorem NM.push(m:NM I X h iT ok d H)(p:RP I s H)(bl:I.b<h.next){id:Nat}{t:RN}(gJ:tw->ok)(e:tw->tO (aK d.av++iT::X) H id t){j:Nat}(g:H.get j=none)(hj:j<H.next)(Rf:h.next<=j)(hl:d.qs.length<=300):
 ∃H7,aO env (H.set j (.cells true 1 [.P id])) 199 d.av (.S j 1)=some (.S H.next (d.qs.length+1),H7)/\H7.get iT=some d.obj/\H7.next=H.next+1/\
  NM I X h iT tw ⟨d.op,d.nm,d.ty,d.n,.S H.next (d.qs.length+1),d.qs++[(id,t)]⟩ (H7.set iT (.C [.str d.op,.str d.nm,.str d.ty,.I d.n,.S H.next (d.qs.length+1),.str [],.I 0]))/\RP I s (H7.set iT (.C [.str d.op,.str d.nm,.str d.ty,.I d.n,.S H.next (d.qs.length+1),.str [],.I 0])):=by
 have p6:=p.new (.cells true 1 [.P id]) g hj;have WZ:∀Y,Move Y Y H (H.set j (.cells true 1 [.P id])):=fun Y=>Move.new _ g;have UE:iT≠j:=fun e=>by rw[<-e,m.get]at g;cases g
 have og:=m.arr.move (WZ _);have vA:(H.set j (.cells true 1 [.P id])).next=H.next:=rfl
 obtain⟨H7,ha,nx,g7,k7⟩:=xW (st:=199) (e:=134) rfl ty134.1 ty134.2.1 dc ty134.2.2.2 og hl j id t sp p6.fr;rw[vA]at ha nx g7;have rl:=m.xo.lt _ m.xo.r;have gl:=m.xo.lt _ m.xo.g;have p7:=p6.off k7 (fun hz=>by have:=(m.z _ hz).1;omega) (fun hz=>by have:=(m.z _ hz).1;omega) (fun hz=>by have:=(m.z _ hz).1;omega);have giT:H7.get iT=some d.obj:=by
  rw[k7.old iT (by rw[vA];exact m.lt) (fun hz=>(m.z iT hz).2.1 rfl),ah.aM,az UE];exact m.get
 have nr:=m.nr;have lo:=m.lo;have nia:iT≠I.b:=om
 have lt7:iT<H7.next:=by rw[nx];have:=m.lt;omega
 have BW:aQ I.X h H7:=(aQ.set _ m.kx (.inr Rf) hj).trans' k7 (fun z hz cX=>by have:=(m.z z hz).1;omega);have tA:∀y,y∈H.next::iT::X->y∈aK d.av++iT::X\/H.next<=y:=fun y hy=>by
  rcases aq.1 hy with rfl|hy
  ·exact .inr (ao _)
  ·exact .inl (bJ _ hy)
 have mv7:Move (aK d.av++iT::X) (H.next::iT::X) H H7:=(WZ _).comp (Move.of p6.fr k7 (fun z hz _=>gS _ hz) (fun y hy=>by rw[vA];exact tA y hy));have mvs:∀o,Move (H.next::iT::X) (H.next::iT::X) H7 (H7.set iT o):=fun o=>Move.on o (ay _ (aY ..));have mvc:∀o,Move (aK d.av++iT::X) (H.next::iT::X) H (H7.set iT o):=fun o=>mv7.comp (mvs o);have nHi:H.next≠iT:=by have:=m.lt;omega
 have nHX:H.next∉iT::X:=by
  intro hx;rcases aq.1 hx with hx|hx
  ·exact nHi hx
  ·have:=(m.xo.le m.kx.next).lt _ hx;omega
 refine⟨H7,ha,giT,nx,⟨by rw[ah.aM,aW rfl];rfl,m.lo,lt7,aQ.set _ BW (.inr m.lo) lt7,m.xo,.inr ⟨H.next,sp,nHX,?_⟩,?_,?_⟩,p7.put _ nr.1 nr.2 nia lt7⟩
 ·rw[ah.aM,az nHi,g7]
 ·intro o q hq;have hq:q∈d.qs++[(id,t)]:=hq;rcases aP.1 hq with hq|hq
  ·exact(m.sub (gJ o) q hq).move (mvc _)
  ·simp only[aR]at hq;subst hq;exact(e o).move (mvc _)
 ·intro z hz;have hz:z∈[H.next]:=hz;simp only[aR]at hz;subst hz;have:=m.lt;have:=m.kx.next;exact⟨om,nHi,by simp[nx]⟩
end
end
end Go.Proofs.YtgebeldoibkkpaaGreatDoor
