/- Lemmas for CheckPlaces; each states its own conditions. -/
import Derived.Test.YtgebeldoibkkpaaGreatDoorK
import Derived.Test.YtgebeldoibkkpaaGreatDoorO
set_option maxRecDepth 100000
set_option maxHeartbeats 0
set_option linter.unusedVariables false
set_option linter.unusedSimpArgs false
set_option linter.unusedSectionVars false
namespace Go.Proofs.YtgebeldoibkkpaaGreatDoor
open Go.Am Tryz
section
attribute [local simp] aI
def Ws(N:List Nat)(h:ah)(a:Nat)(s:Sg)(f:Fn):Prop:=∃p b va vY vs,h.get a=some (.C [.str s.nm,.str s.ty,p,b,va,.P vY])/\kI N h p 1 s.ps.length (s.ps.map .str)/\kI N h b 1 s.pb.length (s.pb.map .bool)/\
 dP N h va (vs.map fun a=>(a,()))/\vs.length=f.vs.length/\(∀(k a:Nat)(v:Vr),vs[k]?=some a->f.vs[k]?=some v->a∉N/\h.get a=some (.C v.cs))/\vs.Nodup/\ui N vs h vY f.body
theorem Ws.move{N:List Nat}{h h':ah}{a:Nat}{s:Sg}{f:Fn}(m:Move N N h h')(e:h'.get a=h.get a)(x:Ws N h a s f):Ws N h' a s f:=by
 obtain⟨p,b,va,vY,vs,g,a1,a2,a3,a4,a5,a6,a7⟩:=x;exact⟨p,b,va,vY,vs,e.trans g,a1.move m,a2.move m,a3.move m,a4,fun k a v h1 h2=>⟨(a5 k a v h1 h2).1,(m.aJ _ _ (a5 k a v h1 h2).2 (a5 k a v h1 h2).1).1⟩,a6,a7.move m⟩
structure FI(A:PA)(S:Sc)(mn:Int)(fo:List Nat)(jm jF:AV)(fns:List Fn)(ov:Option Pl)(h:ah):Prop where
 fr:cM h
 xl:∀x∈A.r::fo,x<h.next
 nd:(A.r::fo).Nodup
 r:∃f nm sa lp uB v,h.get A.r=some (.C [.P A.o,.P A.tb,.map (some A.fm),.map (some A.gm),.map (some A.um),f,nm,sa,lp,uB,v])/\kJ (A.r::fo) h v ov
 o:h.get A.o=some (.C [A.tr,jm,jF,.I mn])
 ox:A.o∉A.r::fo
 Ft:SS A (A.r::fo) h S
 fm:FmX A (A.r::fo) h S
 gm:h.get A.gm=some (.map (gd (S.gs.map Gl.nm) 0))
 um:h.get A.um=some (.map (gd (S.fs.map Sg.nm) 0))
 mx:A.gm∉A.r::fo/\A.um∉A.r::fo
 ga:kI (A.r::fo) h jm 3 S.gs.length (xh S.gs)
 fa:kI (A.r::fo) h jF 1 S.fs.length (fo.map fun a=> .P a)
 fl:fo.length=S.fs.length
 fs:∀(n a:Nat)(s:Sg),S.fs[n]?=some s->fo[n]?=some a->fns.length<=n->∃p b,h.get a=some (.C [.str s.nm,.str s.ty,p,b,.Z,.N])/\kI (A.r::fo) h p 1 s.ps.length (s.ps.map .str)/\kI (A.r::fo) h b 1 s.pb.length (s.pb.map .bool)
 dn:∀(n a:Nat)(s:Sg)(f:Fn),S.fs[n]?=some s->fo[n]?=some a->fns[n]?=some f->Ws (A.r::fo) h a s f
def PA.cb(A:PA)(jm jF:AV)(mn:Int)(fo:List Nat)(n f:Nat)(p b:AV)(Kv:Nat):CB:=⟨A.r,A.o,A.tr,jm,jF,mn,A.tb,A.nm,A.st,A.fm,A.gm,A.um,fo,n,f,p,b,Kv⟩
section
variable{A:PA}{S:Sc}{mn:Int}{fo:List Nat}{jm jF:AV}{fns:List Fn}{ov:Option Pl}{h H:ah}{f:Nat}{s:Sg}
theorem FI.shape(F:FI A S mn fo jm jF fns ov h){n a:Nat}(ha:fo[n]?=some a):∃s p b v w,S.fs[n]?=some s/\h.get a=some (.C [.str s.nm,.str s.ty,p,b,v,w])/\kI (A.r::fo) h p 1 s.ps.length (s.ps.map .str)/\kI (A.r::fo) h b 1 s.pb.length (s.pb.map .bool):=by
 have hn:n<S.fs.length:=by
  rw[<-F.fl];rcases eW n fo.length with hn|hn
  ·exact hn
  ·rw[fu hn]at ha;cases ha
 have hs:=aj hn;rcases eW n fns.length with hk|hk
 ·obtain⟨p,b,va,vY,vs,g,a1,a2,_⟩:=F.dn n a _ _ hs ha (aj hk);exact⟨_,p,b,va,_,hs,g,a1,a2⟩
 ·obtain⟨p,b,g,a1,a2⟩:=F.fs n a _ hs ha hk;exact⟨_,p,b,_,_,hs,g,a1,a2⟩
theorem FI.start(F:FI A S mn fo jm jF fns ov h)(ok:S.Ok)(hf:fo[fns.length]?=some f)(hs:S.fs[fns.length]?=some s){v:AV}(hv:kJ (A.r::fo) h v ov)
 (hn:H.next=h.next+1) (ho:∀i,i≠A.r->H.get i=(h.alloc (.map [])).2.get i) (gr:H.get A.r=some (.C [.P A.o,.P A.tb,.map (some A.fm),.map (some A.gm),.map (some A.um),.P f,.map (some h.next),.Z,.I 0,.I 0,v])):
 ∃p b,Stat S (A.cb jm jF mn fo fns.length f p b h.next) [A.r,f,h.next] H/\dF S (A.cb jm jF mn fo fns.length f p b h.next) [A.r,f,h.next] H [A.r,f,h.next] ⟨[],.Z,.Z⟩ (KD ov) H/\Move (A.r::fo) (A.r::fo) h H/\Move (A.r::fo) [A.r,f,h.next] h H/\(∀a∈fo,H.get a=h.get a)/\kI (A.r::fo) h p 1 s.ps.length (s.ps.map .str)/\kI (A.r::fo) h b 1 s.pb.length (s.pb.map .bool):=by
 have nd:=F.nd;rw[iO]at nd;have He:=bg hf;have lr:A.r<h.next:=F.xl _ sp;have lf:f<h.next:=F.xl _ (by simp[He]);have nrf:A.r≠f:=fun e=>nd.1 (e▸He);have K:aS h (h.alloc (.map [])).2:=kT;have m0:Move (A.r::fo) (A.r::fo) h H:=⟨fun i o g hi=>⟨(ho i (fun e=>hi (by simp[e]))).trans ((K.old i (au F.fr g)).trans g),hi⟩⟩
 have m1:Move (A.r::fo) [A.r,f,h.next] h H:=m0.to F.fr fun y hy=>by
  simp only[aq,bd,cT]at hy⊢;rcases hy with rfl|rfl|rfl
  ·exact .inl (.inl rfl)
  ·exact .inl (.inr He)
  ·exact .inr (ao _)
 have old:∀a∈fo,H.get a=h.get a:=fun a ha=>by
  rw[ho a (fun e=>nd.1 (e▸ha)),ah.dz,az (by have:=F.xl a (by simp[ha]);omega)]
 have gn:H.get h.next=some (.map []):=by rw[ho _ om];simp
 have fr:cM H:=fun j hj=>by
  rw[ho j om];exact K.fresh F.fr j (by simp;omega)
 obtain⟨p,b,gf,ap,ab⟩:=F.fs _ f s hs hf (ao _);have gf':=(old f He).trans gf;have fox:∀(n a:Nat),fo[n]?=some a->n≠fns.length->a∉[A.r,f,h.next]:=fun n a ha jX=>by
  have hm:=bg ha;have la:a<h.next:=F.xl a (by simp[hm]);simp only[aq,bd,cT]
  rintro(e|e|e)
  ·exact nd.1 (e▸hm)
  ·subst e;obtain⟨h1,e1⟩:=aU.1 ha;obtain⟨h2,e2⟩:=aU.1 hf;exact jX ((List.getElem_inj nd.2).1 (e1.trans e2.symm))
  ·omega
 have T:=F.Ft.move m1 om;have M:=F.fm.move m1;obtain⟨es,gm,fm⟩:=M.g;refine⟨p,b,⟨ok,T.Ft,⟨T.tx.1,T.tx.2.1,T.tx.2.2.1,T.tx.2.2.2⟩,(m1.aJ _ _ F.o F.ox).1,(m1.aJ _ _ F.o F.ox).2,F.ga.move m1,F.fl,F.fa.move m1,⟨es,gm,fun s=>fm.find s 0⟩,(m1.aJ _ _ F.gm F.mx.1).1,(m1.aJ _ _ F.um F.mx.2).1,⟨M.x,(m1.aJ _ _ F.gm F.mx.1).2,(m1.aJ _ _ F.um F.mx.2).2⟩,fun n s' a h1 h2 h3=>?_,hf,fun s' h1=>?_⟩,⟨Move.refl _ _,fr,?_,⟨v,gr,hv.move m1⟩,⟨s,hs,gf'⟩,gn,rfl,sp,sp,.inl ⟨rfl,rfl⟩,.inl ⟨rfl,rfl⟩,by simp[aK],⟨by simp[PA.cb],by simp[PA.cb],by simp[PA.cb],sp,by simp[aK],by simp[aK]⟩,⟨by simp[KD],by simp[KD],by simp[KD],by simp[KD],by simp[KD]⟩⟩,m0,m1,old,ap,ab⟩
 ·obtain⟨s2,p2,b2,v2,w2,uZ,g2,a2,a3⟩:=F.shape h2;rw[h1]at uZ;injection uZ with uZ;subst uZ;exact⟨fox n a h2 h3,p2,b2,v2,w2,(old a (bg h2)).trans g2,a2.move m1,a3.move m1⟩
 ·have h1:S.fs[fns.length]?=some s':=h1;rw[hs]at h1;injection h1 with h1;subst h1;exact⟨ap.move m1,ab.move m1⟩
 ·intro x hx;simp only[aq,bd,cT]at hx;rcases hx with rfl|rfl|rfl<;>omega
end
end
section
attribute [local simp] aI
def Odd(h:ah)(z:Nat):Prop:=∃c,h.get z=some (.C c)/\c.length≠5/\c.length≠8/\c.length≠2/\∀a b n r,c≠ .str a:: .str b:: .I n::r
theorem dP.out{α:Type}{X Z:List Nat}{h:ah}(hz:∀z∈Z,Odd h z){av:AV}{qs:List (Nat×α)}(p:dP X h av qs):dP Z h av qs:=by
 rcases p with p|⟨b,e,_,g⟩
 ·exact .inl p
 ·refine .inr ⟨b,e,fun hb=>?_,g⟩;obtain⟨c,g2,_⟩:=hz b hb;rw[g]at g2;simp at g2
theorem jK.out{X Z vs:List Nat}{h:ah}(hz:∀z∈Z,Odd h z){id:Nat}{t:TX}(e:jK X vs h id t):jK Z vs h id t:=by
 induction e with
 |mk obj nx vk arr ha sub ih=>
  refine .mk obj (fun hx=>?_) vk (arr.out hz) ha ih;obtain⟨c,g,_,h8,_⟩:=hz _ hx;rw[obj]at g;injection g with g;injection g with _ _ g;rw[<-g]at h8;simp[Hd.cs]at h8
theorem rR.out{X Z vs:List Nat}{h:ah}(hz:∀z∈Z,Odd h z){v:AV}{o:Option TX}(e:rR X vs h v o):rR Z vs h v o:=by
 rcases e with e|⟨id,e,h1,h2,h3⟩
 ·exact .inl e
 ·exact .inr ⟨id,e,h1,h2,h3.out hz⟩
theorem ui.out{X Z vs:List Nat}{h:ah}(hz:∀z∈Z,Odd h z){id:Nat}{t:TS}(e:ui X vs h id t):ui Z vs h id t:=by
 induction e with
 |mk obj nx vk ht he arr ha sub ih=>
  refine .mk obj (fun hx=>?_) vk (ht.out hz) (he.out hz) (arr.out hz) ha ih;obtain⟨c,g,h5,_⟩:=hz _ hx;rw[obj]at g;injection g with g;injection g with _ _ g;rw[<-g]at h5;simp at h5
theorem kJ.out{X Z:List Nat}{h:ah}(hz:∀z∈Z,Odd h z){v:AV}{o:Option Pl}(e:kJ X h v o):kJ Z h v o:=by
 cases o with
 |none=>exact e
 |some p=>
  obtain⟨q,h1,h2,h3⟩:=e;refine⟨q,h1,fun hx=>?_,h3⟩;obtain⟨c,g,_,_,h2,_⟩:=hz _ hx;rw[h3]at g;injection g with g;injection g with _ _ g;rw[<-g]at h2;simp at h2
section
variable{A:PA}{S:Sc}{mn:Int}{fo:List Nat}{jm jF:AV}{fns:List Fn}{ov:Option Pl}{h H h':ah}{f:Nat}{s:Sg}
theorem kI.slice{X:List Nat}{h:ah}{av:AV}{es n:Nat}{cs:List AV}(a:kI X h av es n cs):∃ab,av= .slice ab n:=by
 rcases a with⟨e,_,e3⟩|⟨b,_,e,_⟩
 ·exact⟨none,by rw[e3,e]⟩
 ·exact⟨_,e⟩
theorem FI.finish(F:FI A S mn fo jm jF fns ov h)(hf:fo[fns.length]?=some f)(hs:S.fs[fns.length]?=some s){p b:AV}(mN:Move (A.r::fo) (A.r::fo) h H)(old:∀a∈fo,H.get a=h.get a)(ap:kI (A.r::fo) h p 1 s.ps.length (s.ps.map .str))(ab:kI (A.r::fo) h b 1 s.pb.length (s.pb.map .bool))(lH:h.next<=H.next)
 {X':List Nat} {V:CV} {d:Dn} (c:dF S (A.cb jm jF mn fo fns.length f p b h.next) [A.r,f,h.next] H X' V d h') {vY:Nat} {t:TS} (u:ui X' V.vs h' vY t) (lh:H.next<=h'.next):
 FI A S mn fo jm jF (fns++[⟨d.vs,t⟩]) d.over (h'.set f (.C [.str s.nm,.str s.ty,p,b,V.va,.P vY]))/\Move (A.r::fo) (A.r::fo) h (h'.set f (.C [.str s.nm,.str s.ty,p,b,V.va,.P vY])):=by
 have nd:=F.nd;rw[iO]at nd;have He:=bg hf;have nrf:A.r≠f:=fun e=>nd.1 (e▸He);have oth:∀(n a:Nat),fo[n]?=some a->n≠fns.length->a≠f:=fun n a ha jX e=>by
  subst e;obtain⟨h1,e1⟩:=aU.1 ha;obtain⟨h2,e2⟩:=aU.1 hf;exact jX ((List.getElem_inj nd.2).1 (e1.trans e2.symm))
 obtain⟨Sh,gr,ovx⟩:=c.c;have gr:h'.get A.r=_:=gr;obtain⟨s',qU,gf⟩:=c.f;have qU:S.fs[fns.length]?=some s':=qU;rw[hs]at qU;injection qU with qU;subst qU;have gf:h'.get f=some (.C [.str s.nm,.str s.ty,p,b,V.va,.N]):=gf;have aJ:∀i o,h.get i=some o->i≠A.r->i≠f->H.get i=some o->h'.get i=some o:=fun i o g h1 h2 gH=>by
  refine(c.mv.aJ i o gH fun hx=>?_).1;simp only[aq,bd,cT]at hx;rcases hx with hx|hx|hx
  ·exact h1 hx
  ·exact h2 hx
  ·have:=au F.fr g;omega
 have mh:Move (A.r::fo) (A.r::fo) h h':=⟨fun i o g hi=>by
  simp only[aq,fO]at hi;exact⟨aJ i o g hi.1 (fun e=>hi.2 (e▸He)) (mN.aJ i o g (by simpa using hi)).1,by simpa using hi⟩⟩
 have gfo:∀(n a:Nat)(o:ej),fo[n]?=some a->n≠fns.length->h.get a=some o->h'.get a=some o:=fun n a o ha jX g=>
  aJ a o g (fun e=>nd.1 (e▸bg ha)) (oth n a ha jX) ((old a (bg ha)).trans g)
 have odd:∀z∈A.r::fo,Odd h' z:=fun z hz=>by
  have six:∀(s:Sg)(p b v w:AV)(n:Nat)(cs:List AV),kI (A.r::fo) h p 1 n cs->h'.get z=some (.C [.str s.nm,.str s.ty,p,b,v,w])->Odd h' z:=fun s p b v w n cs ha g=>by
   obtain⟨ab,rfl⟩:=ha.slice;exact⟨_,g,sp,sp,sp,sp⟩
  rcases aq.1 hz with rfl|hz
  ·exact⟨_,gr,by simp[CB.ob],by simp[CB.ob],by simp[CB.ob],by simp[CB.ob]⟩
  ·obtain⟨n,hn,e⟩:=kg hz;have YG:fo[n]?=some z:=(by rw[aj hn,e]);by_cases jX:n=fns.length
   ·subst jX;rw[hf]at YG;injection YG with YG;subst YG;exact six _ _ _ _ _ _ _ ap gf
   ·obtain⟨s2,p2,b2,v2,w2,_,g2,a2,_⟩:=F.shape YG;exact six _ _ _ _ _ _ _ a2 (gfo n z _ YG jX g2)
 have mf:Move (A.r::fo) (A.r::fo) h' (h'.set f (.C [.str s.nm,.str s.ty,p,b,V.va,.P vY])):=Move.on _ (by simp[He]);have m2:=mh.comp mf;have set:∀i,i≠f->(h'.set f (.C [.str s.nm,.str s.ty,p,b,V.va,.P vY])).get i=h'.get i:=fun i hi=>by rw[ah.aM,az hi]
 have nx:h.next<=h'.next:=om
 refine⟨⟨fun j hj=>?_,fun x hx=>aw (F.xl x hx) nx,F.nd,⟨_,_,_,_,_,Sh,(set _ nrf).trans gr,(ovx.out odd).move mf⟩,(m2.aJ _ _ F.o F.ox).1,F.ox,F.Ft.move m2 nx,F.fm.move m2,(m2.aJ _ _ F.gm F.mx.1).1,(m2.aJ _ _ F.um F.mx.2).1,F.mx,F.ga.move m2,F.fa.move m2,F.fl,fun n a s2 h1 h2 h3=>?_,fun n a s2 fn h1 h2 h3=>?_⟩,m2⟩
 ·have hl:=c.xl _ c.own.f;have hl:f<h'.next:=hl;rw[set j (by simp at hj;omega)];exact c.fr j hj
 ·simp only[bO,ai,bz]at h3;have jX:n≠fns.length:=by omega
  obtain⟨p2,b2,g2,a2,a3⟩:=F.fs n a s2 h1 h2 om;exact⟨p2,b2,(set _ (oth n a h2 jX)).trans (gfo n a _ h2 jX g2),a2.move m2,a3.move m2⟩
 ·by_cases jX:n=fns.length
  ·subst jX;rw[hf]at h2;injection h2 with h2;subst h2;rw[hs]at h1;injection h1 with h1;subst h1;simp at h3;subst h3;refine⟨p,b,V.va,vY,V.vs,sp,ap.move m2,ab.move m2,(c.va.out odd).move mf,c.vl,fun k a v h1 h2=>?_,c.nd,(u.out odd).move mf⟩;have g:=c.vs k a v h1 h2;have hx:a∉A.r::fo:=fun hx=>by
    obtain⟨cc,g2,_,_,_,g3⟩:=odd a hx;rw[g]at g2;injection g2 with g2;injection g2 with _ _ g2;exact g3 _ _ _ _ (g2.symm.trans rfl)
   exact⟨hx,(mf.aJ _ _ g hx).1⟩
  ·have h3:fns[n]?=some fn:=by
    rcases eW n fns.length with hn|hn
    ·rwa[iz hn]at h3
    ·rw[ji hn]at h3;cases hk:n-fns.length with
     |zero=>omega
     |succ k=>rw[hk]at h3;simp at h3
   have x:=F.dn n a s2 fn h1 h2 h3;have ha:(h'.set f (.C [.str s.nm,.str s.ty,p,b,V.va,.P vY])).get a=h.get a:=by
    obtain⟨_,_,_,_,_,g,_⟩:=x;rw[set _ (oth n a h2 jX),gfo n a _ h2 jX g,g]
   exact x.move m2 ha
end
end
section
attribute [local simp] aI
section
variable{A:PA}{S:Sc}{mn:Int}{fo:List Nat}{jm jF:AV}{fns:List Fn}{ov:Option Pl}{h H h':ah}{f id:Nat}{s:Sg}{p:Pl}{ty nm:List UInt8}{ps:List Pm}{b:Sm}
def PF(A:PA)(S:Sc)(mn:Int)(fo:List Nat)(jm jF:AV)(fns:List Fn)(h:ah)(Q:Out->ah->Prop):Rs TS->Prop
 | .ok t d=>∀h',FI A S mn fo jm jF (fns++[⟨d.vs,t⟩]) d.over h'->Move (A.r::fo) (A.r::fo) h h'->h.next<=h'.next->Q (.ret (.iX [])) h'
 | .err p=>∀h',Move (A.r::fo) (A.r::fo) h h'->cM h'->Q (.iS (zq p)) h'
theorem Mg(F:FI A S mn fo jm jF fns ov h)(ok:S.Ok)(it:sY (A.r::fo) h id (.func p ty nm ps b))(al:(It.func p ty nm ps b).al PT)(wt:ps.length+b.nodes<=250)(hf:fo[fns.length]?=some f)(hs:S.fs[fns.length]?=some s)(fI:s.ty=ty)(Q:Out->ah->Prop)(hQ:PF A S mn fo jm jF fns h Q (fnF S ps ty b ov)):
 aV env 37 [.P A.r,.P id,.P f] h Q:=by
 refine wb fn37 rfl ?_;have it1:sY (A.r::fo) h id (.func p ty nm ps b):=it;obtain⟨pv,vY,g0,gY,ap0,sr0⟩:=it;obtain⟨f0,nm0,sa0,lp0,by0,v,gr,hv⟩:=F.r;have lr:A.r<h.next:=F.xl _ sp;have nr:A.r≠h.next:=om
 have ni:id≠A.r:=fun e=>gY (by simp[e]);have ni2:id≠h.next:=by have:=au F.fr g0;omega
 obtain⟨EJ,Ut⟩:∃ab,pv= .slice ab ps.length:=by
  rcases ap0 with⟨e,_,e3⟩|⟨b,e,_⟩
  ·exact⟨none,by rw[e3,e]⟩
  ·exact⟨_,e⟩
 have g0':=g0;rw[Ut]at g0';simp[f37,gr,g0',nr,nr.symm,ni,ni2];obtain⟨H,hH⟩:∃H,H=(((((h.alloc (.map [])).2.set A.r (.C [.P A.o,.P A.tb,.map (some A.fm),.map (some A.gm),.map (some A.um),.P f,nm0,sa0,lp0,by0,v])).set A.r (.C [.P A.o,.P A.tb,.map (some A.fm),.map (some A.gm),.map (some A.um),.P f,.map (some h.next),sa0,lp0,by0,v])).set A.r (.C [.P A.o,.P A.tb,.map (some A.fm),.map (some A.gm),.map (some A.um),.P f,.map (some h.next),.Z,lp0,by0,v])).set A.r (.C [.P A.o,.P A.tb,.map (some A.fm),.map (some A.gm),.map (some A.um),.P f,.map (some h.next),.Z,.I 0,by0,v])).set A.r (.C [.P A.o,.P A.tb,.map (some A.fm),.map (some A.gm),.map (some A.um),.P f,.map (some h.next),.Z,.I 0,.I 0,v]):=⟨_,rfl⟩
 rw[<-hH];have hn:H.next=h.next+1:=by rw[hH];simp
 obtain⟨pp,pb,hS,c0,mN,m1,old,ap,ab⟩:=F.start ok hf hs hv hn (fun i hi=>by rw[hH];simp[hi]) (by rw[hH];simp);clear hH gr hv;have g1:=(m1.aJ _ _ g0 gY).1;have nx1:=(m1.aJ _ _ g0 gY).2;have ap1:=ap0.move m1;have sr1:=sr0.move m1;have Pg:∀sg,S.fs[(A.cb jm jF mn fo fns.length f pp pb h.next).n]?=some sg->sg.ty=ty:=fun sg Ib=>by
  have Ib:S.fs[fns.length]?=some sg:=Ib;rw[hs]at Ib;injection Ib with e;rw[<-e];exact fI
 have afW:=al.2.2.2;have hks:=Wi hS Pg al.2.1 250 b om (ao _) afW;have hr:A.r=(A.cb jm jF mn fo fns.length f pp pb h.next).r:=rfl;have hB:(A.cb jm jF mn fo fns.length f pp pb h.next).f=f:=rfl;obtain⟨B,hBB⟩:∃B,B=A.cb jm jF mn fo fns.length f pp pb h.next:=⟨_,rfl⟩
 rw[<-hBB]at hS c0 hks hr hB;rw[hr];obtain⟨J,hJ⟩:∃J:Nat->St->Prop,J=(fun m x=>∃(i:Nat)(d':Dn)(Y:List Nat)(V':CV),i<=ps.length/\m=ps.length-i/\x.n=52/\x.ds=[]/\x.bI=false/\dF S B [A.r,f,h.next] H Y V' d' x.h/\d'.vs.length<=i/\d'.bytes<=70000*d'.vs.length/\d'.loops=0/\H.next<=x.h.next/\
  fnF S ps ty b ov=((Pq S (ps.drop i) d').bind fun _ d=>qM S ty b d)/\
  x.rg.get 0=some (.P B.r)/\x.rg.get 1=some (.P id)/\x.rg.get 2=some (.P f)/\x.rg.get 28=some (.slice EJ ps.length)/\x.rg.get 29=some (.I ps.length)/\x.rg.get 30=some (.I i)):=⟨_,rfl⟩
 refine bW J ps.length ?_ ?_
 ·rw[hJ];exact⟨0,KD ov,_,_,bX _,rfl,rfl,rfl,rfl,c0,by simp[KD],by simp[KD],rfl,ao _,rfl,sp,sp,sp,sp,sp,sp⟩
 clear c0;intro m x hx;rw[hJ]at hx;obtain⟨rg,n',G,ds,bI⟩:=x;obtain⟨i,d',Y,V',hi,rfl,e1,e2,e3,c,dl,db,dp,nG,heq,r0,r1,r2,rl,rn,ri⟩:=hx;dsimp only at e1 e2 e3 c nG r0 r1 r2 rl rn ri;subst e1 e2 e3;have gid:=(c.mv.aJ _ _ g1 nx1).1;have toN:∀h2,Move [A.r,f,h.next] Y H h2->Move (A.r::fo) (A.r::fo) h h2:=fun h2 m=>⟨fun i o g hi=>by
  refine⟨(m.aJ i o (mN.aJ i o g hi).1 fun hx=>?_).1,hi⟩;simp only[aq,fO]at hi;simp only[aq,bd,cT]at hx;rcases hx with hx|hx|hx
  ·exact hi.1 hx
  ·exact hi.2 (hx▸bg hf)
  ·have:=au F.fr g;omega⟩
 by_cases iH:i<ps.length
 ·have fW:(i:Int)<(ps.length:Int):=by omega
  have wi:IntKind.wrap .i64 ((i:Int)+1)=((i+1:Nat):Int):=by rw[wr om om];omega
  obtain⟨b0,rfl,FC,vz⟩:∃b,EJ=some (b,0)/\b∉[A.r,f,h.next]/\H.get b=some (.cells true 5 (ps.flatMap Pm.cells)):=by
   rcases ap1 with⟨e,_⟩|⟨b,e,hb,g⟩
   ·omega
   ·rw[e]at Ut;injection Ut with e _;exact⟨b,e.symm,hb,g⟩
  have Wt:=(c.mv.aJ _ _ vz FC).1;have fa:=Mf ps i ps[i] (aj iH);have fb:i*5+5<=(ps.flatMap Pm.cells).length:=by rw[Hp];omega
  have qV:ps.drop i=ps[i]::ps.drop (i+1):=ca iH;have AP:=bK iH;generalize ps[i]=q at*;generalize ps.flatMap Pm.cells=FF at*;simp only[Pm.cells]at fa;have qZ:q.ty.length<=70000:=(al.2.2.1 q AP).2;simp[r0,r1,r2,rl,rn,ri,fW,iH,Wt,fa,fb];obtain⟨G5,hG5⟩:∃G5,G5=((G.alloc (.C [.I 0,.I 0,.bool false,.str [],.str []])).2.set G.next (.C [.I q.p.1,.I q.p.2,.bool q.Qp,.str q.ty,.str q.nm])):=⟨_,rfl⟩
  rw[<-hG5];have K5:aS G G5:=by rw[hG5];exact kT
  have C5:=c.aJ K5;have n5:=K5.next;rw[qV]at heq;simp only[Pq]at heq;have vd:=Hk ok c.ok db q.nm q.ty (by unfold eR;exact qZ) true q.p;refine zd hS C5 q.nm q.ty true q.p qZ om db _ ?_;generalize R4 S q.nm q.ty true q.p d'=z at heq vd⊢;cases z with
  |err pp=>
   intro h2 m2 f2;rw[heq]at hQ;simp;exact hQ _ (toN _ ((c.mv.comp (Move.k c.fr K5)).comp m2)) f2
  |ok k d2=>
   intro V2 Y2 v h2 gw uZ C2 w2 M2;have vd:DS d' d2 1:=vd;have v1:=vd.hi;have v2:=vd.lp;have n2:=M2.nx;simp[ri,wi];refine⟨ps.length-(i+1),om,?_⟩;rw[hJ];exact⟨i+1,d2,Y2,V2,iH,rfl,rfl,rfl,rfl,C2,om,vd.st,om,by simp only;omega,heq,by simp[r0],by simp[r1],by simp[r2],by simp[rl],by simp[rn],sp⟩
 ·have np:i=ps.length:=by omega
  subst np;rw[eQ]at heq;simp only[Pq,Rs.lI]at heq;simp[r0,r1,r2,rl,rn,ri,gid];refine hks Y V' d' G vY _ c sr1 om db om om ?_;rw[heq]at hQ;generalize qM S ty b d'=z at hQ⊢;cases z with
  |err pp=>
   intro h2 m2 f2;simp;exact hQ _ (toN _ (c.mv.comp m2)) f2
  |ok t d2=>
   intro V2 Y2 v h2 gw uZ C2 w2 M2;obtain⟨bb,rfl,u⟩:=w2;have n2:=M2.nx;obtain⟨s2,Wu,gf⟩:=C2.f;rw[hB]at gf;simp[gf];subst hBB;obtain⟨F2,m2⟩:=F.finish hf hs mN old ap ab om C2 u om;have Wu:S.fs[fns.length]?=some s2:=Wu;rw[hs]at Wu;injection Wu with e;subst e;exact hQ _ F2 m2 (by simp;omega)
end
end
section
attribute [local simp] aI
def tc(l:List Pl):List AV:=l.flatMap fun p=>[.I p.1,.I p.2]
theorem Bc:∀l:List Pl,(tc l).length=l.length*2
 |[]=>rfl
 |p::ps=>by
  have:=Bc ps;simp only[tc,ux,bO,ai,bz]at this⊢;omega
theorem JR:∀(l:List Pl)(i:Nat)(p:Pl),l[i]?=some p->List.take 2 (List.drop (i*2) (tc l))=[.I p.1,.I p.2]
 |[],i,p,h=>by simp at h
 |p::ps,0,q,h=>by
  simp only[ed,bw]at h;subst h;simp[tc]
 |p::ps,i+1,q,h=>by
  have:=JR ps i q (by simpa using h);rw[show(i+1)*2=i*2+1+1 by omega];simpa[tc]using this
def nS:List Sd->Nat
 |[]=>0
 |s::l=>(if s.fs=mw then 0 else 1)+nS l
theorem SV:∀{l:List Sd}{i:Nat}{s s':Sd},l[i]?=some s->s.fs≠mw->s'.fs=mw->nS (l.set i s')<nS l
 |[],_,_,_,h,_,_=>by simp at h
 |x::l,0,s,s',h,h1,h2=>by
  simp only[ed,bw]at h;subst h;simp[nS,h1,h2]
 |x::l,i+1,s,s',h,h1,h2=>by
  have:=SV (l:=l) (i:=i) (by simpa using h) h1 h2;simp only[List.set_cons_succ,nS];omega
def PA.KG(A:PA)(t v:AV):List AV:=[.P A.o,t,.map (some A.fm),.map (some A.gm),.map (some A.um),.N,.map none,.Z,.I 0,.I 0,v]
def Pw(l:List Sd):Prop:=∃N es i e,(∀k,k∈N↔∃s∈l,s.name=k)/\ab1 N es l i e
section
variable{A:PA}{h:ah}{p:Option (Nat×Nat)}{l:List Sd}{pl:List Pl}{zw:AV}{Q:Out->ah->Prop}
theorem Wv{t v:AV}{ov:Option Pl}(gr:h.get A.r=some (.C (A.KG t v)))(fr:cM h)(hv:kJ [A.r] h v ov)(q:Pl)(Q:Out->ah->Prop)(hQ:∀h2 v2 V8,h2.get A.r=some (.C (A.KG t v2))->kJ [A.r] h2 v2 V8->aQ [A.r] h h2->(ov=none/\V8=some q\/ov≠none/\V8=ov)->Q (.ret (.iX [])) h2):
 aV env 59 [.P A.r,.bool false,.agg [.I q.1,.I q.2]] h Q:=by
 have lr:=au fr gr;obtain⟨vo,rfl,hvo⟩:∃vo,v= .ptr vo/\(vo=none↔ov=none):=by
  cases ov with
  |none=>exact⟨none,hv,sp⟩
  |some q=>obtain⟨x,e,_⟩:=hv;exact⟨_,e,sp⟩
 refine JM gr lr false q Q (fun hh h2 k=>?_) fun _ hn=>?_
 ·have hh:vo≠none:=by simpa using hh
  exact hQ h2 _ ov ((k.old _ lr).trans gr) (hv.move (Move.k fr k)) (k.x _) (.inr ⟨fun e=>hh (hvo.2 e),rfl⟩)
 ·have ne:A.r≠h.next:=by omega
  refine hQ _ (.P h.next) (some q) (by simp[PA.KG]) ⟨h.next,rfl,by simp[ne.symm],by simp[ne.symm]⟩ kX (.inl ⟨hvo.1 hn,rfl⟩)
theorem Px(gr:h.get A.r=some (.C (A.KG (.N) (.N))))(fr:cM h)(ha:Ob h p l)(hat:kI [A.r] h zw 2 pl.length (tc pl))(hl:pl.length=l.length)
 (hQ:∀h' tb nm st N es l' v ov,aQ [A.r] h h'->cM h'->h'.get A.r=some (.C (A.KG (.P tb) v))->kJ [A.r] h' v ov->rG tb nm st h' N es->(∀k,k∈N↔∃s∈l,s.name=k)->rI N l' es->l'.map Sd.name=l.map Sd.name->(∀(i:Nat)(s:Sd),l'[i]?=some s->s.fs=mw\/∃s0:Sd,l[i]?=some s0/\s.fs=s0.fs)->(ov=none/\l'=l\/(∃q∈pl,ov=some q)/\Pw l)->h.next<=tb/\h.next<=nm/\h.next<=st/\(∀e∈es,h.next<=e.obj)->Q (.ret (.iX [])) h')
 (hE:∀h' q,q∈pl->Pw l->aQ [A.r] h h'->cM h'->Q (.iS (zq q)) h'):
 aV env 31 [.P A.r,.slice p l.length,zw] h Q:=by
 refine wb fn31 rfl ?_;have lr:=au fr gr;simp[f31];obtain⟨J,hJ⟩:∃J:Nat->St->Prop,J=(fun m x=>∃(l':List Sd)(p':Option (Nat×Nat))(v:AV)(ov:Option Pl),m=nS l'/\l'.map Sd.name=l.map Sd.name/\(∀(i:Nat)(s:Sd),l'[i]?=some s->s.fs=mw\/∃s0:Sd,l[i]?=some s0/\s.fs=s0.fs)/\x.n=43/\x.ds=[]/\x.bI=false/\aQ [A.r] h x.h/\Ob x.h p' l'/\x.h.get A.r=some (.C (A.KG (.N) v))/\kJ [A.r] x.h v ov/\(ov=none/\l'=l\/(∃q∈pl,ov=some q)/\Pw l)/\
  x.rg.get 0=some (.P A.r)/\x.rg.get 1=some (.slice p' l'.length)/\x.rg.get 2=some zw):=⟨_,rfl⟩
 refine bW J (nS l) ?_ ?_
 ·rw[hJ];exact⟨l,p,.N,none,rfl,rfl,fun i s hs=> .inr ⟨s,hs,rfl⟩,rfl,rfl,rfl,aQ.refl _ _,ha,gr,rfl,.inl ⟨rfl,rfl⟩,sp,sp,sp⟩
 intro m x hx;rw[hJ]at hx;obtain⟨rg,n',G,ds,bI⟩:=x;obtain⟨l',p',v,ov,rfl,Hf,JS,e1,e2,e3,kG,aG,gG,vG,NN,r0,r1,r2⟩:=hx;dsimp only at e1 e2 e3 kG aG gG vG r0 r1 r2;subst e1 e2 e3;have fG:=kG.fresh fr;have hll:l'.length=l.length:=by have:=wz List.length Hf;simpa using this
 simp[r0,r1,r2];refine(ab2 G p' l' aG fG).mono fun out G2 hq=>?_;obtain⟨ho,k2⟩:=hq;have lrG:A.r<G.next:=aw lr kG.next;have g2:=(k2.old _ lrG).trans gG;have f2:=k2.fresh fG;have v2:=vG.move (Move.k fG k2);have K2:aQ [A.r] h G2:=kG.trans (k2.x _);have Ca:=K2.next;have ab4:∀k,(∃s∈l',s.name=k)↔∃s∈l,s.name=k:=fun k=>by
  have h1:k∈l'.map Sd.name↔k∈l.map Sd.name:=by rw[Hf]
  simpa using h1
 rcases ho with⟨i,e,N,es,rfl,hN,hB⟩|⟨tb,nm,st,N,es,rfl,T,hN,hB,b1,b2,b3,b4⟩
 ·have hSB:Pw l:=by
   rcases NN with⟨_,e1⟩|⟨_,h⟩
   ·subst e1;exact⟨N,es,i,e,hN,hB⟩
   ·exact h
  obtain⟨s,hs,hBt,YH⟩:=hB;have hi:i<l'.length:=by
   rcases eW i l'.length with h|h
   ·exact h
   ·rw[fu h]at hs;cases hs
  have hip:i<pl.length:=by omega
  obtain⟨b0,rw0,rfl,FC,vz⟩:∃b yg,zw= .S b pl.length/\b∉[A.r]/\h.get b=some (.cells yg 2 (tc pl)):=by
   rcases hat with⟨e,_⟩|h
   ·omega
   ·exact h
  have Yo:=(K2.old _ (au fr vz) FC).trans vz;have fa:=JR pl i pl[i] (aj hip);have fb:i*2+2<=(tc pl).length:=by rw[Bc];omega
  have AP:=bK hip;generalize pl[i]=q at*;have e52:e=5\/e=2:=by
   rcases YH with⟨h,_⟩|⟨_,_,_,h⟩
   ·exact .inl h
   ·exact Pn h
  have e0:(e==0)=false:=by rcases e52 with rfl|rfl<;>rfl
  have adz:(i:Int)<(pl.length:Int):=by omega
  have fbI:tc pl=tc pl:=rfl;generalize tc pl=FP at*;have Qm:=g2;simp only[PA.KG]at Qm;simp[r0,r2,e0,Yo,fa,fb,hip,adz];refine gy q _ _ _ _ (fun h3 e3 k3=>?_) fun h3 e3 k3=>?_
  ·simp;exact hE _ q AP hSB (K2.trans (k3.x _)) (k3.fresh f2)
  ·obtain rfl:e=2:=(by rcases e52 with rfl|rfl;cases e3;rfl);have hsm:s.fs≠mw:=by
    rcases YH with⟨h,_⟩|⟨_,_,_,h⟩
    ·cases h
    ·intro e;obtain⟨ps,sz,al,e2⟩:=Md N es;rw[e,e2]at h;cases h
   have gb3:=(k3.old _ (au f2 Yo)).trans Yo;have g3:=(k3.old _ (aw lrG k2.next)).trans g2;have f3:=k3.fresh f2;simp[r0,r2,gb3,fa,fb,hip,adz];refine Wv g3 f3 (v2.move (Move.k f2 k3)) q _ fun h4 v4 ov4 g4 w4 k4 adA=>?_;have K4:aQ [A.r] G h4:=((k2.trans k3).x _).trans k4;have f4:=k4.fresh f3;have Ee:l'≠[]:=fun e=>by rw[e]at hi;simp at hi
   obtain⟨a,rwa,esa,rfl,ga,la⟩:=aG.a Ee;have Pd:a≠A.r:=fun e=>by
    rw[e,gG]at ga;injection ga with ga;injection ga with _ _ ga;cases l' with
    |nil=>exact Ee rfl
    |cons x y=>simp[PA.KG,j9]at ga
   have ga4:=(K4.old a la (by simpa using Pd)).trans ga;simp[r1];refine(Wj ga4 (aw la K4.next) aG.n Ee).mono fun out h5 hq=>?_;obtain⟨o,rfl,go,no,lo,k5⟩:=hq;have f5:=k5.fresh f4;have tf:o≠h5.next:=om;have hiI:(i:Int)<(l'.length:Int):=om;have fS:=FE l' i s ⟨s.name,mw,some (h5.next,0)⟩ hs rfl;have aho:=mW l';have fb2:i*2+1+1<=(j9 l').length:=om;generalize hFS:j9 l'=FW at*;simp[r0,r2,go,hi,hiI,tf,tf.symm,fb2];obtain⟨s',qU⟩:∃s',s'=(⟨s.name,mw,some (h5.next,0)⟩:Sd):=⟨_,rfl⟩
   have hlen:(l'.set i s').length=l'.length:=List.length_set;have egF:FW.take (i*2+1)++ .S h5.next 1::FW.drop (i*2+2)=j9 (l'.set i s'):=by
    rw[qU,fS,List.set_eq_take_append_cons_drop,aW om];rfl
   have K5:aQ [A.r] h4 ((h5.alloc (.cells true 2 [.str [115,109,97,108,108],.str [99,104,97,114]])).2.set o (.cells true 2 (j9 (l'.set i s')))):=by
    refine aQ.set _ (aQ.alloc _ (k5.x _)) (.inr no) ?_;simp;omega
   have kx:=K4.trans K5;have lr4:A.r<h4.next:=aw lrG K4.next;have SO:o≠A.r:=om;have g6:((h5.alloc (.cells true 2 [.str [115,109,97,108,108],.str [99,104,97,114]])).2.set o (.cells true 2 (j9 (l'.set i s')))).get A.r=some (.C (A.KG (.N) v4)):=by
    rw[ah.aM,az (iw SO),ah.dz,az (by have:=k5.next;omega),k5.old _ lr4];exact g4
   have f6:=kx.fresh fG;refine⟨nS (l'.set i s'),SV hs hsm (by rw[qU]),?_⟩;rw[egF,hJ];refine⟨l'.set i s',some (o,0),v4,ov4,rfl,?_,fun j sj hj=>?_,rfl,rfl,rfl,kG.trans kx,⟨fun _=>⟨o,true,2,rfl,sp,by simp;omega⟩,fun x hx UR=>?_,fun x hx=>?_,by rw[hlen];exact aG.n,fun e=>?_⟩,g6,?_,?_,by simp[r0],sp,by simp[r2]⟩
   ·rw[List.map_set,Hf,<-Hf];apply List.ext_getElem?;intro j;rw[List.getElem?_set];by_cases e:i=j
    ·subst e;obtain⟨h1,h2⟩:=aU.1 hs;simp[hi,h2,qU]
    ·simp[e]
   ·rw[List.getElem?_set]at hj;by_cases e:i=j
    ·subst e;simp[hi]at hj;exact .inl (by rw[<-hj,qU])
    ·simp[e]at hj;exact JS j sj hj
   ·rcases List.mem_or_eq_of_mem_set hx with hx|hx
    ·obtain⟨y,ry,ey,h1,h2,h3⟩:=aG.f x hx UR;have ny:y≠A.r:=fun e=>by
      rw[e,gG]at h2;injection h2 with h2;injection h2 with _ _ h2;cases hxx:x.fs with
      |nil=>exact UR hxx
      |cons a b=>rw[hxx]at h2;simp[PA.KG,pw]at h2
     exact⟨y,ry,ey,h1,(kx.old y h3 (by simpa using ny)).trans h2,aw h3 kx.next⟩
    ·rw[hx,qU];refine⟨h5.next,true,2,rfl,?_,sp⟩;rw[ah.aM,az (iw tf)];simp[pw,mw]
   ·rcases List.mem_or_eq_of_mem_set hx with hx|hx
    ·exact aG.len x hx
    ·rw[hx,qU];have:=(aG.len s (bg hs)).1;exact⟨this,by simp[mw],by simp[mw]⟩
   ·have:=wz List.length e;rw[hlen]at this;exact absurd (cw this) Ee
   ·exact w4.move ((Move.of f4 K5 (fun z hz _=>by simpa using hz) fun _ hy=> .inl hy))
   ·refine .inr ⟨?_,hSB⟩;rcases NN with⟨e,_⟩|⟨⟨q2,h1,h2⟩,_⟩
    ·rcases adA with⟨_,h⟩|⟨h,_⟩
     ·exact⟨q,AP,h⟩
     ·exact absurd e h
    ·rcases adA with⟨h,_⟩|⟨_,h⟩
     ·rw[h]at h2;cases h2
     ·exact⟨q2,h1,by rw[h,h2]⟩
 ·simp only[PA.KG]at g2;have Nn:=kG.next;have ntb:tb≠A.r:=by omega
  simp[r0,g2];refine hQ _ tb nm st N es l' v ov (aQ.set _ K2 (.inl sp) (by have:=k2.next;omega)) (fun j hj=>?_) (by simp[PA.KG]) (v2.move (Move.on _ sp)) ?_ (fun k=>(hN k).trans (ab4 k)) hB Hf JS NN ⟨om,om,om,fun e he=>by have:=b4 e he;omega⟩
  ·rw[ah.aM,az (by have:=k2.next;simp at hj;omega)];exact f2 j (by simpa using hj)
  ·exact⟨by simp[ntb,T.t],by rw[ah.aM,az om];exact T.n,by rw[ah.aM,az om];exact T.s,fun e he=>by rw[ah.aM,az (by have:=b4 e he;omega)];exact T.o e he,T.lt,T.ln,T.ls,T.lo,T.ne⟩
end
end
section
attribute [local simp] aI
section
variable{X:List Nat}{h:ah}
def Ww:List (List UInt8)->Nat->Option Nat
 |[],_=>none
 |t::l,i=>if vT t=true then Ww l (i+1)else some i
theorem Oc:∀(l:List (List UInt8))(i:Nat),l.all vT=(Ww l i).isNone
 |[],i=>rfl
 |t::l,i=>by
  have:=Oc l (i+1);cases ht:vT t<;>simp[Ww,ht,this]
theorem Wx(t:List UInt8)(Q:Out->ah->Prop)(hQ:∀h2,aS h h2->Q (.ret (.bool (!vT t))) h2):aV env 35 [.str t] h Q:=by
 refine wb fn35 rfl ?_;simp[f35];refine(lP _ t).mono fun out h2 hq=>?_;obtain⟨rfl,rfl⟩:=hq;simp;exact hQ _ (aS.refl _)
theorem Mh{av:AV}{l:List (List UInt8)}(ar:kI X h av 1 l.length (l.map .str))(fr:cM h)(hl:l.length<=300)(Q:Out->ah->Prop)(hQ:∀h2,aS h h2->Q (.ret (.I (match Ww l 0 with|some i=>(i:Int)|none=>-1))) h2):
 aV env 64 [av,.func 35 []] h Q:=by
 refine wb fn64 rfl ?_;obtain⟨ab,rQ⟩:=ar.slice;simp[f64,rQ];refine bW (fun m x=>∃i,i<=l.length/\m=l.length-i/\Ww (l.drop i) i=Ww l 0/\x.n=19/\x.ds=[]/\x.bI=false/\aS h x.h/\x.rg.get 0=some av/\x.rg.get 1=some (.func 35 [])/\x.rg.get 7=some (.I l.length)/\x.rg.get 8=some (.I i)) l.length ?_ ?_
 ·exact⟨0,om,rfl,rfl,rfl,rfl,rfl,aS.refl _,by simp[rQ],sp,sp,sp⟩
 rintro m ⟨rg,n,H,ds,bI⟩ ⟨i,hi,rfl,hf,e1,e2,e3,k,r0,r1,r7,r8⟩
 dsimp only at e1 e2 e3 k r0 r1 r7 r8;subst e1 e2 e3;by_cases cX:i<l.length
 ·obtain⟨b,yg,e,_,gb⟩:=ar.resolve_left fun e=>by omega
  rw[e]at r0;have VV:=(k.old _ (au fr gb)).trans gb;have fa:(l.map AV.str)[i]?=some (.str l[i]):=by simp[cX]
  have fW:(i:Int)<(l.length:Int):=by omega
  have wi:IntKind.wrap .i64 ((i:Int)+1)=((i+1:Nat):Int):=by rw[wr om om];omega
  rw[ca cX,Ww]at hf;generalize l[i]=t at*;generalize l.map AV.str=F at*;simp[r0,r1,r7,r8,cX,fW,VV,fa];refine Wx t _ fun h2 k2=>?_;cases ht:vT t with
  |false=>
   rw[ht,az sp]at hf;have:=hQ _ (k.trans k2);rw[<-hf]at this;simp[r0,r1,r7,r8];exact this
  |true=>
   rw[ht,aW rfl]at hf;simp[r0,r1,r7,r8,wi];exact⟨_,om,i+1,cX,rfl,hf,k.trans k2,e.symm,om⟩
 ·have np:i=l.length:=by omega
  subst np;rw[eQ,Ww]at hf;have:=hQ _ k;rw[<-hf]at this;simp[r0,r1,r7,r8];exact this
theorem Py{av:AV}{l:List (List UInt8)}(ar:kI X h av 1 l.length (l.map .str))(fr:cM h)(hl:l.length<=300)(Q:Out->ah->Prop)(hQ:∀h2,aS h h2->Q (.ret (.bool (!l.all vT))) h2):
 aV env 34 [av,.func 35 []] h Q:=by
 refine wb fn34 rfl ?_;simp[f34];refine Mh ar fr hl _ fun h2 k2=>?_;have:=hQ _ k2;rw[Oc l 0]at this;cases hn:Ww l 0 with
 |none=>rw[hn]at this;simpa using this
 |some i=>
  rw[hn]at this;have e:decide ((0:Int)<=(i:Int))=true:=by simp
  simpa[e]using this
end
end
section
attribute [local simp] aI
def jl:List It->List (Pl×List UInt8×List Fd)
 |[]=>[]
 | .struct p nm fs::r=>(p,nm,fs)::jl r
 | .global _ _ _::r=>jl r
 | .func _ _ _ _ _::r=>jl r
theorem my:∀(a b:List It),jl (a++b)=jl a++jl b
 |[],b=>rfl
 | .struct p nm fs::r,b=>by simp[jl,my r b]
 | .global _ _ _::r,b=>by simp[jl,my r b]
 | .func _ _ _ _ _::r,b=>by simp[jl,my r b]
def yA(l:List (Pl×List UInt8×List Fd)):List (List UInt8×List Fd):=l.foldl (fun m x=>vX x.2.1 x.2.2 m) []
def Fd.fl(f:Fd):Cy:=(f.nm,f.ty)
def Mi(x:Pl×List UInt8×List Fd):List UInt8×List Cy:=(x.2.1,x.2.2.map Fd.fl)
theorem FH{st e:TypeId}{uB es:Nat}{z:List AV}(hu:env.kQ st=some (.slice e))(hs:env.siz e=some (es+1))(hb:env.byt e=some uB)(MW:uB<=100)(hz:env.zer e=some z)(wB:z.length=es+1){h:ah}{j:Nat}{av:AV}{n:Nat}{cs:List AV}(arr:dW [] h av (es+1) n cs)(hc:cs.length=n*(es+1))(hn:n<=300)
 (ec:List AV) (Em:ec.length=es+1) (xL:ec.all AV.scalar=true) (fr:cM h) (gj:h.get j=none) (lj:j<h.next):
 ∃H,aO env (h.set j (.cells true (es+1) ec)) st av (.S j 1)=some (.S h.next (n+1),H)/\H.next=h.next+1/\H.get h.next=some (.cells true (es+1) (cs++ec))/\aQ (j::aK av) h H:=by
 have mv:Move [] [] h (h.set j (.cells true (es+1) ec)):=Move.new _ gj;have N0:cM (h.set j (.cells true (es+1) ec)):=fun i hi=>by rw[ah.aM,az (by simp at hi;omega)];exact fr i hi
 obtain⟨H,ha,nx,g,kx⟩:=nR hu hs hb MW hz wB (arr.move mv) hc hn j ec Em xL sp N0;refine⟨H,by simpa using ha,by simpa using nx,by simpa using g,by simp at nx;omega,fun i hi hx=>?_,fun _=>kx.fresh N0⟩;simp only[aq,fO]at hx;rw[kx.old i (by simpa using hi) hx.2,ah.aM,az hx.1]
structure SL(n0:Nat)(h:ah)(l:List Sd)(lv zw:AV)(pl:List Pl):Prop where
 la:dW [] h lv 2 l.length (j9 l)
 aa:dW [] h zw 2 pl.length (tc pl)
 ln:∀y∈aK lv,n0<=y/\y∉aK zw
 an:∀y∈aK zw,n0<=y
 f:∀s∈l,s.fs≠[]->∃o,s.q=some (o,0)/\h.get o=some (.cells true 2 (pw s.fs))/\n0<=o/\o∉aK lv/\o∉aK zw
theorem dW.lt{X:List Nat}{h:ah}{av:AV}{es n:Nat}{cs:List AV}(a:dW X h av es n cs)(f:cM h):∀y∈aK av,y<h.next/\h.get y=some (.cells true es cs):=by
 intro y hy;rcases a with⟨_,_,e⟩|⟨b,e,_,g⟩
 ·rw[e]at hy;cases hy
 ·rw[e]at hy;simp[aK]at hy;subst hy;exact⟨au f g,g⟩
section
variable{n0:Nat}{h h':ah}{l:List Sd}{lv zw:AV}{pl:List Pl}
theorem SL.mv(s:SL n0 h l lv zw pl)(f:cM h){Z:List Nat}(k:aQ Z h h')(hz:∀z∈Z,z<n0):SL n0 h' l lv zw pl:=by
 have hn:∀y,n0<=y->y∉Z:=fun y hy hx=>by have:=hz y hx;omega
 have ar:∀{av:AV}{n:Nat}{cs:List AV},dW [] h av 2 n cs->(∀y∈aK av,n0<=y)->dW [] h' av 2 n cs:=fun{av n cs} a hy=>by
  rcases a with e|⟨b,e,hb,g⟩
  ·exact .inl e
  ·exact .inr ⟨b,e,hb,(k.old b (au f g) (hn b (hy b (by rw[e];simp[aK])))).trans g⟩
 exact⟨ar s.la fun y hy=>(s.ln y hy).1,ar s.aa s.an,s.ln,s.an,fun x hx h0=>by
  obtain⟨o,h1,h2,h3,h4⟩:=s.f x hx h0;exact⟨o,h1,(k.old o (au f h2) (hn o h3)).trans h2,h3,h4⟩⟩
theorem SL.push(s:SL n0 h l lv zw pl)(f:cM h)(B5:n0<=h.next)(hl:l.length<=300)(nJ:pl.length<=300)(sd:Sd)(hq:sd.fs≠[]->∃o,sd.q=some (o,0)/\h.get o=some (.cells true 2 (pw sd.fs))/\n0<=o/\o∉aK lv/\o∉aK zw)(p:Pl){k j j2:Nat}(j1k:j<k)(j2k:j2<k)(jj:j≠j2):
 ∃H8 H,aO env ((h.bump k).set (h.next+j) (.cells true 2 [.str sd.name,.slice sd.q sd.fs.length])) 103 lv (.S (h.next+j) 1)=some (.S (h.next+k) (l.length+1),H8)/\aO env (H8.set (h.next+j2) (.cells true 2 [.I p.1,.I p.2])) 104 zw (.S (h.next+j2) 1)=some (.S (h.next+k+1) (pl.length+1),H)/\
  aQ ((h.next+j)::aK lv) (h.bump k) H8/\H8.get (h.next+j2)=none/\aQ (aK lv++aK zw) h H/\H.next=h.next+k+2/\SL n0 H (l++[sd]) (.S (h.next+k) (l.length+1)) (.S (h.next+k+1) (pl.length+1)) (pl++[p]):=by
 have frb:cM (h.bump k):=fun i hi=>f i (by simp at hi;omega);have K:=(aS.refl h).bump k;obtain⟨H8,a8,n8,g8,k8⟩:=FH (es:=1) (st:=103) (e:=112) rfl ty112.1 ty112.2.1 dc ty112.2.2.2 rfl (h:=h.bump k) (j:=h.next+j) (s.la.move (Move.k f K)) (mW l) hl [.str sd.name,.slice sd.q sd.fs.length] rfl sp frb (f _ om) (by simp;omega);have nl:=s.la.lt f;have na:=s.aa.lt f;simp only[ah.kz]at a8 n8 g8;have f8:=k8.fresh frb;have o8:∀i,i<h.next->i∉aK lv->H8.get i=h.get i:=fun i hi hx=>k8.old i (by simp;omega) (by simp only[aq,fO];exact⟨om,hx⟩);have gj2:H8.get (h.next+j2)=none:=by
  rw[k8.old _ (by simp;omega) (by simp only[aq,fO];exact⟨om,fun hx=>by have:=(nl _ hx).1;omega⟩)];exact f _ om
 have aa8:dW [] H8 zw 2 pl.length (tc pl):=by
  rcases s.aa with e|⟨b,e,hb,g⟩
  ·exact .inl e
  ·have jJ:b∈aK zw:=(by rw[e];simp[aK]);exact .inr ⟨b,e,hb,(o8 b (au f g) fun hx=>(s.ln b hx).2 jJ).trans g⟩
 obtain⟨H,a9,n9,g9,k9⟩:=FH (es:=1) (st:=104) (e:=26) rfl ty26.1 ty26.2.1 dc ty26.2.2.2 rfl (h:=H8) (j:=h.next+j2) aa8 (Bc pl) nJ [.I p.1,.I p.2] rfl sp f8 gj2 om;rw[n8]at a9 g9 n9;have o9:∀i,i<h.next->i∉aK lv->i∉aK zw->H.get i=h.get i:=fun i hi h1 h2=>(k9.old i om (by simp only[aq,fO];exact⟨om,h2⟩)).trans (o8 i hi h1);refine⟨H8,H,a8,a9,k8,gj2,⟨om,fun i hi hx=>by simp only[aP,fO]at hx;exact o9 i hi hx.1 hx.2,fun _=>k9.fresh f8⟩,om,⟨?_,?_,?_,?_,fun x hx UR=>?_⟩⟩
 ·refine .inr ⟨h.next+k,sp,sp,?_⟩;rw[k9.old _ om (by simp only[aq,fO];exact⟨om,fun hx=>by have:=(na _ hx).1;omega⟩),g8];simp[j9]
 ·refine .inr ⟨h.next+k+1,sp,sp,?_⟩;rw[g9];simp[tc]
 ·intro y hy;simp only[aK,aR]at hy⊢;subst hy;exact⟨om,om⟩
 ·intro y hy;simp only[aK,aR]at hy;omega
 ·have key:∃o,x.q=some (o,0)/\h.get o=some (.cells true 2 (pw x.fs))/\n0<=o/\o∉aK lv/\o∉aK zw:=by
   rcases aP.1 hx with hx|hx
   ·exact s.f x hx UR
   ·simp only[aR]at hx;subst hx;exact hq UR
  obtain⟨o,h1,h2,h3,h4,h5⟩:=key;have ol:=au f h2;exact⟨o,h1,(o9 o ol h4 h5).trans h2,h3,by simp[aK];omega,by simp[aK];omega⟩
theorem SL.arg{p:Option (Nat×Nat)}(s:SL n0 h l (.slice p l.length) zw pl)(f:cM h)(hl:l.length<=300)(hz:l=[]->p=none)(hlen:∀s∈l,s.name.length<=1000000/\s.fs.length<=300/\∀f∈s.fs,f.1.length<=1000000/\f.2.length<=1000000):Ob h p l:=by
 refine⟨fun h0=>?_,fun x hx h0=>?_,hlen,hl,hz⟩
 ·rcases s.la with⟨e,_⟩|⟨b,e,_,g⟩
  ·exact absurd (cw e) h0
  ·injection e with e _;exact⟨b,true,2,e,g,au f g⟩
 ·obtain⟨o,h1,h2,_⟩:=s.f x hx h0;exact⟨o,true,2,h1,h2,au f h2⟩
end
end
section
attribute [local simp] aI
theorem Mj{N:List (List UInt8)}{es:List pW}{s s':Qq}{f:Cy}(h:jW N es s f=some s'):∀q∈s'.ps,q∈s.ps\/q.type=f.2:=by
 unfold jW at h;split at h
 ·cases h
 ·split at h
  ·split at h
   ·cases h
   ·split at h
    ·injection h with h;subst h;exact fun q hq=> .inl hq
    ·injection h with h;subst h;intro q hq;rcases aP.1 hq with hq|hq
     ·exact .inl hq
     ·simp only[aR]at hq;subst hq;exact .inr rfl
  ·cases h
theorem JT{N:List (List UInt8)}{es:List pW}:∀{fs:List Cy}{s s':Qq},qP N es fs s=some s'->∀q∈s'.ps,q∈s.ps\/∃f∈fs,q.type=f.2
 |[],s,s',h,q,hq=>by
  simp only[qP]at h;injection h with h;subst h;exact .inl hq
 |f::fs,s,s',h,q,hq=>by
  simp only[qP]at h;cases hs:jW N es s f with
  |none=>rw[hs]at h;cases h
  |some s1=>
   rw[hs]at h;rcases JT h q hq with h1|⟨f',h1,h2⟩
   ·rcases Mj hs q h1 with h1|h1
    ·exact .inl h1
    ·exact .inr ⟨f,sp,h1⟩
   ·exact .inr ⟨f',by simp[h1],h2⟩
theorem WC{N:List (List UInt8)}{es:List pW}{fs:List Cy}{ps:List A7}{size align:Int}(h:wy N es fs= .JN ps size align):∀q∈ps,∃f∈fs,q.type=f.2:=by
 unfold wy at h;split at h
 ·cases h
 ·rename_i s hs;split at h
  ·cases h
  ·injection h with h1 h2 h3;subst h1;intro q hq;rcases JT hs q hq with h|h
   ·simp[DY]at h
   ·exact h
theorem rI.iG{N:List (List UInt8)}{l:List Sd}{es:List pW}(h:rI N l es):∀e∈es,∃s∈l,e.ps.length=s.fs.length/\e.ps≠[]/\∀q∈e.ps,∃f∈s.fs,q.type=f.2:=by
 induction h with
 |nil=>simp
 |@snoc l es s obj ps size align h hn hf hg hl ih=>
  intro e he;rcases aP.1 he with he|he
  ·obtain⟨s,h1,h2⟩:=ih e he;exact⟨s,gS _ h1,h2⟩
  ·simp only[aR]at he;subst he;have p1:=(Bd h.fits hf hl).1;refine⟨s,sp,p1,fun e=>?_,WC hl⟩;have e:ps=[]:=e;rw[e]at p1;exact hf (cw p1.symm)
theorem FJ(k:List UInt8)(e:pW):∀es:List pW,nh k (es++[e])=match nh k es with|some x=>some x|none=>if e.name=k then some e else none
 |[]=>by simp[nh]
 |x::es=>by
  by_cases hx:x.name=k
  ·simp[nh,hx]
  ·simp[nh,hx,FJ k e es]
theorem rI.find{N:List (List UInt8)}{l:List Sd}{es:List pW}(h:rI N l es):∀s∈l,∃e,nh s.name es=some e:=by
 induction h with
 |nil=>simp
 |@snoc l es s obj ps size align h hn hf hg hl ih=>
  intro s' hs;rw[FJ];rcases aP.1 hs with hs|hs
  ·obtain⟨e,he⟩:=ih s' hs;exact⟨e,by rw[he]⟩
  ·simp only[aR]at hs;subst hs;exact⟨⟨s'.name,obj,ps,size,align⟩,by rw[hn];simp⟩
theorem FK{s:List UInt8}{fl:List Fd}{x:List UInt8×List Fd}:∀{l:List (List UInt8×List Fd)},x∈vX s fl l->x=(s,fl)\/x∈l
 |[],h=> .inl (by simpa[vX]using h)
 |y::l,h=>by
  unfold vX at h;split at h
  ·rcases aq.1 h with h|h
   ·exact .inl h
   ·exact .inr (ay _ h)
  ·rcases aq.1 h with h|h
   ·exact .inr (by simp[h])
   ·rcases FK h with h|h
    ·exact .inl h
    ·exact .inr (ay _ h)
theorem FL{l:List (Pl×List UInt8×List Fd)}{x:List UInt8×List Fd}(h:x∈yA l):∃y∈l,x=y.2:=by
 have key:∀(l:List (Pl×List UInt8×List Fd))(m:List (List UInt8×List Fd)),x∈l.foldl (fun m x=>vX x.2.1 x.2.2 m) m->x∈m\/∃y∈l,x=y.2:=fun l=>by
  induction l with
  |nil=>exact fun m h=> .inl h
  |cons a l ih=>
   intro m h;rcases ih _ h with h|⟨y,h1,h2⟩
   ·rcases FK h with h|h
    ·exact .inr ⟨a,sp,h⟩
    ·exact .inl h
   ·exact .inr ⟨y,by simp[h1],h2⟩
 rcases key l [] h with h|h
 ·cases h
 ·exact h
theorem uU{x:Pl×List UInt8×List Fd}:∀{z:List It},x∈jl z-> .struct x.1 x.2.1 x.2.2∈z
 |[],h=>by cases h
 | .struct p nm fs::z,h=>by
  simp only[jl,aq]at h;rcases h with rfl|h
  ·simp
  ·exact ay _ (uU h)
 | .global _ _ _::z,h=>ay _ (uU (z:=z) h)
 | .func _ _ _ _ _::z,h=>ay _ (uU (z:=z) h)
theorem xw:∀z:List It,(jl z).length<=z.length
 |[]=>by simp[jl]
 | .struct _ _ _::z=>by have:=xw z;simp[jl];omega
 | .global _ _ _::z=>by have:=xw z;simp[jl];omega
 | .func _ _ _ _ _::z=>by have:=xw z;simp[jl];omega
theorem Ak:∀l:List It,(Cm l).length<=l.length
 |[]=>by simp[Cm]
 | .struct _ _ _::r=>by have:=Ak r;simp[Cm];omega
 | .global _ _ _::r=>by have:=Ak r;simp[Cm];omega
 | .func _ _ _ _ _::r=>by have:=Ak r;simp[Cm];omega
theorem ag3{ez:List It}{S:Sc}{N:List (List UInt8)}{es:List pW}{l l':List Sd}(al:∀i∈ez,i.al PT)(wt:N5 ez<=250)(hl:l.map (fun s=>(s.name,s.fs))=(jl ez).map Mi)(hB:rI N l' es)(hn:l'.map Sd.name=l.map Sd.name)(hf:∀(i:Nat)(s:Sd),l'[i]?=some s->s.fs=mw\/∃s0:Sd,l[i]?=some s0/\s.fs=s0.fs)
 (hR:JQ ⟨N,es,yA (jl ez),[],[]⟩ S ez):S.Ok:=by
 have item:∀x∈jl ez,x.2.2.length<=300/\∀f∈x.2.2,f.ty.length<=eR:=fun x hx=>by
  have hm:=uU hx;have a1:=al _ hm;have a2:=vC hm;simp only[It.wt]at a2;exact⟨om,fun f hf=>(a1.2.2 f hf).1⟩
 have sd:∀s∈l',s.fs.length<=300/\∀f∈s.fs,f.2.length<=eR:=fun s hs=>by
  obtain⟨i,hi,e⟩:=kg hs;rcases hf i s (by rw[aj hi,e])with h|⟨s0,h1,h2⟩
  ·rw[h];exact⟨by simp[mw],by simp[mw,eR]⟩
  ·have hm:(s0.name,s0.fs)∈(jl ez).map Mi:=(by rw[<-hl];exact List.mem_map_of_mem (bg h1));obtain⟨x,hx,e⟩:=ow.1 hm;obtain⟨b1,b2⟩:=item x hx;injection e with e1 e2;rw[h2,<-e2];refine⟨by simpa using b1,fun f hf=>?_⟩;obtain⟨f',KV,rfl⟩:=ow.1 hf;exact b2 f' KV
 have hlen:ez.length<=250:=bk (Ho ez) wt;refine⟨by rw[hR.es];exact hB.fits,fun e he=>?_,fun x hx=>?_,fun x hx=>?_,⟨?_,hR.ok.g⟩,⟨?_,hR.ok.f⟩⟩
 ·rw[hR.es]at he;obtain⟨s,h1,h2,h3,h4⟩:=hB.iG e he;refine⟨h3,by rw[h2];exact(sd s h1).1,fun q hq=>?_⟩;obtain⟨f,h5,h6⟩:=h4 q hq;rw[h6];exact(sd s h1).2 f h5
 ·rw[hR.fm]at hx;obtain⟨y,h1,rfl⟩:=FL hx;exact item y h1
 ·rw[hR.fm]at hx;obtain⟨y,h1,rfl⟩:=FL hx;have hm:y.2.1∈l'.map Sd.name:=by
   have e:l.map Sd.name=((jl ez).map Mi).map Prod.fst:=(by rw[<-hl];simp[uA]);rw[hn,e];simp only[List.map_map,ow];exact⟨y,h1,rfl⟩
  obtain⟨s,h2,h3⟩:=ow.1 hm;obtain⟨e,he⟩:=hB.find s h2;rw[hR.es,<-h3];exact⟨e,he⟩
 ·have:=hR.gl;simp at this;omega
 ·rw[hR.fs];have:=Ak ez;simp;omega
end
section
attribute [local simp] aI
theorem fdC(fs:List Fd):fs.flatMap Fd.cells=rF fs:=rfl
theorem Pz(l:List Cy)(f:Cy):pw (l++[f])=pw l++[.str f.1,.str f.2]:=by simp[pw]
theorem sY.lt{X:List Nat}{h:ah}{id:Nat}{i:It}(r:sY X h id i)(f:cM h):id<h.next:=by
 cases i with
 |struct p nm fs=>obtain⟨_,g,_⟩:=r;exact au f g
 |global p ty nm=>exact au f r.1
 |func p ty nm ps b=>obtain⟨_,_,g,_⟩:=r;exact au f g
theorem Move.self{X Y:List Nat}{h h':ah}(m:Move X Y h h'):Move X X h h':=⟨fun i o g hi=>⟨(m.aJ i o g hi).1,hi⟩⟩
theorem adC{E:Env}{P:T AV->ah->Prop}{n:Nat}{f:FuncId}{args:List AV}{G:Prop}(ops:Array Oper)(rest:List Oper)(QQ:bt->St->Prop)(d:Option Tmp)(hm:(∀da h',P da h'->aV E f args h' (vQ E ops rest QQ d da n [] false))->G)(ht:∀da h',P da h'->aV E f args h' (vQ E ops rest QQ d da n [] false)):G:=hm ht
inductive EO(ez:List It):Rs Pr->Prop
 |bad {l:List Sd} {q:Pl} (hl:l.map (fun s=>(s.name,s.fs))=(jl ez).map Mi) (hb:Pw l) (hq:q∈(jl ez).map Prod.fst):EO ez (.err q)
 |go {N:List (List UInt8)} {es:List pW} {l l':List Sd} {ov:Option Pl} (hl:l.map (fun s=>(s.name,s.fs))=(jl ez).map Mi) (hN:∀k,k∈N↔∃s∈l,s.name=k) (hB:rI N l' es) (hn:l'.map Sd.name=l.map Sd.name) (hf:∀(i:Nat)(s:Sd),l'[i]?=some s->s.fs=mw\/∃s0:Sd,l[i]?=some s0/\s.fs=s0.fs)
  (ho:ov=none/\l'=l\/(∃q∈(jl ez).map Prod.fst,ov=some q)/\Pw l):EO ez (Ps ⟨N,es,yA (jl ez),[],[]⟩ ez ov)
section
variable{A:PA}{id:Nat}{ez:List It}{h:ah}{Q:Out->ah->Prop}
def PA.Y(A:PA):List Nat:=[A.r,A.o,A.fm,A.gm,A.um]
theorem Wy(gr:h.get A.r=some (.C (A.KG (.N) (.N))))(go:h.get A.o=some (.C [A.tr,.Z,.Z,.I 0]))(gf:h.get A.fm=some (.map []))(gg:h.get A.gm=some (.map []))(gu:h.get A.um=some (.map []))(nd:A.Y.Nodup)(fr:cM h)
 (t:DZ A.Y h id ez) (al:∀i∈ez,i.al PT) (wt:N5 ez<=250)
 (hE:∀h' p,EO ez (.err p)->Move A.Y A.Y h h'->cM h'->Q (.iS (zq p)) h')
 (hQ:∀h' A' pr fo jm jF d,A'.r=A.r/\A'.o=A.o/\A'.tr=A.tr->EO ez (.ok pr d)->FI A' pr.S pr.main fo jm jF pr.fns d.over h'->Move A.Y A.Y h h'->Q (.ret (.iX [])) h'):
 aV env 19 [.P A.r,.P id] h Q:=by
 refine wb fn19 rfl ?_;obtain⟨av,n,qs,g0,gY,Hg,A9,Ae⟩:=t;have ql:qs.length=ez.length:=by rw[<-A9];simp
 obtain⟨EJ,rQ⟩:∃ab,av= .slice ab ez.length:=by
  rcases Hg with⟨e,e2⟩|⟨b,e,_⟩
  ·exact⟨none,by rw[e2,<-ql,e];rfl⟩
  ·exact⟨_,by rw[e,ql]⟩
 have g0':=g0;rw[rQ]at g0';simp[f19,g0'];have hlen:ez.length<=250:=bk (Ho ez) wt;obtain⟨J,hJ⟩:∃J:Nat->St->Prop,J=(fun m x=>∃(i:Nat)(l:List Sd)(p:Option (Nat×Nat))(zw:AV)(pl:List Pl)(es:List (AV×AV)),i<=ez.length/\m=ez.length-i/\x.n=178/\x.ds=[]/\x.bI=false/\aQ [A.fm] h x.h/\x.h.get A.fm=some (.map es)/\rH A.Y h es (yA (jl (ez.take i)))/\
  SL h.next x.h l (.slice p l.length) zw pl/\l.map (fun s=>(s.name,s.fs))=(jl (ez.take i)).map Mi/\pl=(jl (ez.take i)).map Prod.fst/\(l=[]->p=none)/\
  x.rg.get 0=some (.P A.r)/\x.rg.get 1=some (.P id)/\x.rg.get 4=some (.slice p l.length)/\x.rg.get 5=some zw/\x.rg.get 22=some (.slice EJ ez.length)/\x.rg.get 23=some (.I ez.length)/\x.rg.get 24=some (.I i)):=⟨_,rfl⟩
 refine bW J ez.length ?_ ?_
 ·rw[hJ];exact⟨0,[],none,.Z,[],[],bX _,rfl,rfl,rfl,rfl,aQ.refl _ _,gf,trivial,⟨.inl ⟨rfl,rfl,rfl⟩,.inl ⟨rfl,rfl,rfl⟩,by simp[aK],by simp[aK],sp⟩,rfl,rfl,fun _=>rfl,sp,sp,sp,sp,sp,sp,sp⟩
 intro m x hx;rw[hJ]at hx;obtain⟨rg,n',G,ds,bI⟩:=x;obtain⟨i,l,p,zw,pl,es,hi,rfl,e1,e2,e3,kG,gfG,fmG,sl,hl,rO,hz,r0,r1,r4,r5,rl,rn,ri⟩:=hx;dsimp only at e1 e2 e3 kG gfG sl r0 r1 r4 r5 rl rn ri;subst e1 e2 e3;have fG:=kG.fresh fr;have mG:Move A.Y A.Y h G:=Move.of fr kG (fun z hz _=>by simp at hz;subst hz;simp[PA.Y]) fun _ hy=> .inl hy;have ahp:=(mG.aJ _ _ g0 gY).1;by_cases iH:i<ez.length
 ·have uk:i<qs.length:=by omega
  have fW:(i:Int)<(ez.length:Int):=by omega
  have wi:IntKind.wrap .i64 ((i:Int)+1)=((i+1:Nat):Int):=by rw[wr om om];omega
  obtain⟨b0,rfl,FC,vz⟩:∃b,EJ=some (b,0)/\b∉A.Y/\h.get b=some (.cells true 1 (qs.map fun p=> .P p.1)):=by
   rcases Hg with⟨e,_⟩|⟨b,e,hb,g⟩
   ·rw[e]at uk;simp at uk
   ·rw[rQ]at e;injection e with e _;exact⟨b,e,hb,g⟩
  have Wt:=(mG.aJ _ _ vz FC).1;have fa:(qs.map fun p=>AV.P p.1)[i]?=some (.P qs[i].1):=by simp[uk]
  have hqm:qs[i]∈qs:=bK uk;have ir:=Ae _ hqm;have iql:=(Ae _ hqm).lt fr;have Kw:ez[i]?=some qs[i].2:=by rw[<-A9,bQ,aj uk];rfl
  have yh:ez.take (i+1)=ez.take i++[qs[i].2]:=by rw[dG,Kw];rfl
  have hit:qs[i].2∈ez:=bg Kw;generalize qs[i]=q at*;obtain⟨iq,it⟩:=q;simp only at fa ir Kw yh hit iql;generalize (qs.map fun p=>AV.P p.1)=FQ at*;simp[r0,r1,r4,r5,rl,rn,ri,fW,iH,Wt,fa];cases it with
  |global p2 ty nm=>
   have gi:=(mG.aJ _ _ ir.1 ir.2).1;simp[gi,ri,wi];refine⟨ez.length-(i+1),om,?_⟩;rw[hJ];exact⟨i+1,l,p,zw,pl,es,iH,rfl,rfl,rfl,rfl,kG,gfG,by rw[yh,my];simpa[jl]using fmG,sl,by rw[yh,my];simpa[jl]using hl,by rw[yh,my];simpa[jl]using rO,hz,by simp[r0],by simp[r1],by simp[r4],by simp[r5],by simp[rl],by simp[rn],sp⟩
  |func p2 ty nm ps b=>
   obtain⟨pv,vY,gi0,nxi,_⟩:=ir;have gi:=(mG.aJ _ _ gi0 nxi).1;simp[gi,ri,wi];refine⟨ez.length-(i+1),om,?_⟩;rw[hJ];exact⟨i+1,l,p,zw,pl,es,iH,rfl,rfl,rfl,rfl,kG,gfG,by rw[yh,my];simpa[jl]using fmG,sl,by rw[yh,my];simpa[jl]using hl,by rw[yh,my];simpa[jl]using rO,hz,by simp[r0],by simp[r1],by simp[r4],by simp[r5],by simp[rl],by simp[rn],sp⟩
  |struct p2 nm fs=>
   obtain⟨fv,gi0,nxi,af0⟩:=ir;have gi:=(mG.aJ _ _ gi0 nxi).1;have af:=af0.move mG;have hw:=vC hit;simp only[It.wt]at hw;obtain⟨abf,rfl⟩:=af.len;rw[fdC]at af af0;have nig:iq≠G.next:=(by have:=au fG gi;omega);simp[gi,nig];obtain⟨J2,hJ2⟩:∃J2:Nat->St->Prop,J2=(fun m x=>∃(j:Nat)(sv:AV),j<=fs.length/\m=fs.length-j/\x.n=178/\x.ds=[]/\x.bI=false/\aS G x.h/\x.h.get G.next=some (.C [.str nm,sv])/\dW [] x.h sv 2 j (pw ((fs.take j).map Fd.fl))/\(∀y∈aK sv,G.next<y)/\
    x.rg.get 0=some (.P A.r)/\x.rg.get 1=some (.P id)/\x.rg.get 4=some (.slice p l.length)/\x.rg.get 5=some zw/\x.rg.get 7=some (.P iq)/\x.rg.get 8=some (.P G.next)/\x.rg.get 22=some (.S b0 ez.length)/\x.rg.get 23=some (.I ez.length)/\x.rg.get 24=some (.I i)/\x.rg.get 41=some (.slice abf fs.length)/\x.rg.get 42=some (.I fs.length)/\x.rg.get 43=some (.I j)):=⟨_,rfl⟩
   refine bW J2 fs.length ?_ ?_
   ·rw[hJ2];exact⟨0,.Z,bX _,rfl,rfl,rfl,rfl,aS.VG _ (aS.alloc _ (aS.refl G)) (ao _) sp,sp,.inl ⟨rfl,rfl,rfl⟩,by simp[aK],by simp[r0],by simp[r1],by simp[r4],by simp[r5],sp,sp,by simp[rl],by simp[rn],by simp[ri],sp,sp,sp⟩
   clear r0 r1 r4 r5 rl rn ri;intro m x hx;rw[hJ2]at hx;obtain⟨rg,n',H,ds,bI⟩:=x;obtain⟨j,sv,hj,rfl,e1,e2,e3,kH,gtH,Ag,asH,r0,r1,r4,r5,r7,r8,rl,rn,ri,rf,rfn,rj⟩:=hx;dsimp only at e1 e2 e3 kH gtH Ag r0 r1 r4 r5 r7 r8 rl rn ri rf rfn rj;subst e1 e2 e3;have fH:=kH.fresh fG;have nH:=kH.next;have lt8:=au fH gtH;by_cases Wz:j<fs.length
   ·have afX:(j:Int)<(fs.length:Int):=om;have wj:IntKind.wrap .i64 ((j:Int)+1)=((j+1:Nat):Int):=(by rw[wr om om];omega);obtain⟨bf,ebf,_,gbf⟩:=af.resolve_left fun e=>by omega
    injection ebf with ebf _;subst ebf;have Sr:=(kH.old _ (au fG gbf)).trans gbf;have ff:=(Ad fs j fs[j] (aj Wz)).1;have fb:j*2+2<=(rF fs).length:=(by have:=rT fs;omega);have htj:(fs.take (j+1)).map Fd.fl=(fs.take j).map Fd.fl++[fs[j].fl]:=(by rw[dG,aj Wz,j7];rfl);generalize fs[j]=f at*;generalize rF fs=FF at*;have n8:G.next≠H.next:=om;have n9:G.next≠H.next+1:=om;obtain⟨sab,rfl⟩:=Ag.len;simp[-aO,r0,r1,r4,r5,r7,r8,rl,rn,ri,rf,rfn,rj,afX,Wz,Sr,ff,fb,gtH,n8,n8.symm,n9,n9.symm];obtain⟨H2,hH2⟩:∃H2,H2=(((H.alloc (.C [.str [],.str []])).2.set H.next (.C [.str f.ty,.str f.nm])).alloc (.cells true 2 [.str f.nm,.str f.ty])).2:=⟨_,rfl⟩
    rw[<-hH2];have k2:aS H H2:=(by rw[hH2];exact kT);have g2:H2.get (H.next+1)=some (.cells true 2 [.str f.nm,.str f.ty]):=(by rw[hH2];simp);have n2:H2.next=H.next+2:=(by rw[hH2];simp);have f2:=k2.fresh fH;obtain⟨H3,a3,n3,g3,k3⟩:=nR (es:=1) (st:=110) (e:=116) rfl ty116.1 ty116.2.1 dc ty116.2.2.2 rfl (Ag.move (Y:=[]) (Move.k fH k2)) (by rw[vD];simp;omega) om (H.next+1) [.str f.nm,.str f.ty] rfl sp g2 f2;rw[a3];rw[n2]at n3 g3;have gt2:=(k2.old _ lt8).trans gtH;have gt3:=(k3.old _ om fun hx=>by have:=asH _ hx;omega).trans gt2;simp[-aO,r0,r1,r4,r5,r7,r8,rl,rn,ri,rf,rfn,rj,gt3,wj];have k13:aS G H3:=(kH.trans k2).kx k3 fun z hz=>by have:=asH z hz;omega
    refine⟨fs.length-(j+1),om,?_⟩;rw[hJ2];refine⟨j+1,.S H2.next (j+1),Wz,rfl,rfl,rfl,rfl,aS.VG _ k13 (ao _) om,sp,?_,fun y hy=>?_,by simp[r0],by simp[r1],by simp[r4],by simp[r5],by simp[r7],by simp[r8],by simp[rl],by simp[rn],by simp[ri],by simp[rf],by simp[rfn],sp⟩
    ·rw[htj,Pz];exact .inr ⟨_,rfl,sp,by rw[ah.aM,az om,n2];exact g3⟩
    ·simp only[aK,aR]at hy;omega
   ·have Qc:j=fs.length:=om;subst Qc;rw[dH]at Ag;obtain⟨sab,rfl⟩:=Ag.len;simp[r0,r1,r4,r5,r7,r8,rl,rn,ri,rf,rfn,rj];refine Dd ?_;have giH:=(kH.old _ (au fG gi)).trans gi;have s1:=sl.mv fG (kH.x []) sp;have hll:l.length=(jl (ez.take i)).length:=(by have:=wz List.length hl;simpa using this);have Ug:(jl (ez.take i)).length<=i:=by
     have:=xw (ez.take i);simp at this;omega
    have ahq:pl.length=(jl (ez.take i)).length:=(by rw[rO];simp);have nkG:=kG.next;have hsq:(⟨nm,fs.map Fd.fl,sab⟩:Sd).fs≠[]->∃o,(⟨nm,fs.map Fd.fl,sab⟩:Sd).q=some (o,0)/\H.get o=some (.cells true 2 (pw (⟨nm,fs.map Fd.fl,sab⟩:Sd).fs))/\h.next<=o/\o∉aK (.slice p l.length)/\o∉aK zw:=fun h0=>by
     rcases Ag with⟨e,_⟩|⟨b,e,_,g⟩
     ·exact absurd (by simpa using e) h0
     ·injection e with e _;have hb:=asH b (by rw[e];simp[aK]);refine⟨b,e,g,om,fun hx=>?_,fun hx=>?_⟩
      ·have:=(sl.la.lt fG b hx).1;omega
      ·have:=(sl.aa.lt fG b hx).1;omega
    obtain⟨H8,H9,a8,a9,k8,gj2,k9,n9,s9⟩:=s1.push fH om om om ⟨nm,fs.map Fd.fl,sab⟩ hsq p2 (k:=13) (j:=2) (j2:=9) om om om;simp only[List.length_map]at a8;obtain⟨Yq,rfl⟩:=s1.aa.len;have f12:H.get (H.next+2)=none:=fH _ om;have n82:G.next≠H.next+2:=om;have WA:iq≠H.next+2:=(by have:=au fH giH;omega);simp[-aO,r0,r1,r4,r5,r7,r8,rl,rn,ri,gtH,giH,f12,n82,n82.symm,WA,WA.symm,a8];have lva:∀y,y<h.next->y∉aK (AV.slice p l.length):=fun y hy hx=>by have:=(s1.ln y hx).1;omega
    have g8:∀i o,i<H.next->i∉aK (AV.slice p l.length)->H.get i=some o->H8.get i=some o:=fun i o hi hx g=>(k8.old i (by simp;omega) (by simp only[aq,fO];exact⟨om,hx⟩)).trans g;have gi8:=g8 iq _ om (lva _ iql) giH;have gt8:=g8 G.next _ lt8 (fun hx=>by have:=(sl.la.lt fG _ hx).1;omega) gtH;have n92:G.next≠H.next+9:=om;have afY:iq≠H.next+9:=om;have y0:=n82.symm;have y1:=WA.symm;refine dl ?_;simp[-aO,gi8,gj2,a9,r5];have y0:=n82.symm;have y1:=WA.symm;have y2:=afY.symm;have y3:=n92.symm;refine dl ?_;have o9:∀i,i<h.next->i≠A.fm->H9.get i=h.get i:=fun i hi hf=>by
     rw[k9.old i om (by simp only[aP,fO];exact⟨lva i hi,fun hx=>by have:=s1.an i hx;omega⟩),kH.old i om,kG.old i hi (by simpa using hf)]
    have ndY:=nd;simp only[PA.Y,iO,aq,bd,cT,fO]at ndY;have lfm:=au fr gf;have gr9:=(o9 A.r (au fr gr) ndY.1.2.1).trans gr;have gi9:=(o9 iq iql (fun e=>nxi (by simp[PA.Y,e]))).trans gi0;have gf9:H9.get A.fm=some (.map es):=by
     rw[k9.old _ om (by simp only[aP,fO];exact⟨lva _ lfm,fun hx=>by have:=s1.an _ hx;omega⟩),kH.old _ om];exact gfG
    simp only[PA.KG]at gr9;have adD:yA (jl (ez.take (i+1)))=vX nm fs (yA (jl (ez.take i))):=(by rw[yh,my];simp[jl,yA]);have afx:kI A.Y h (.slice abf fs.length) 2 fs.length (rF fs):=by
     rcases af0 with e|⟨b,e,hb,g⟩
     ·exact .inl e
     ·exact .inr ⟨b,true,e,hb,g⟩
    have frm:A.fm≠A.r:=iw ndY.1.2.1;have fim:A.fm≠iq:=fun e=>nxi (by simp[PA.Y,<-e]);obtain⟨R,hR⟩:∃R:bt->St->Prop,R=(fun x st=>x= .jL/\∃rg Kk,st=⟨rg,178,(H9.bump 13).set A.fm (.map Kk),[],false⟩/\rH A.Y h Kk (yA (jl (ez.take (i+1))))/\rg.get 0=some (.P A.r)/\rg.get 1=some (.P id)/\rg.get 4=some (.S (H.next+13) (l.length+1))/\rg.get 5=some (.S (H.next+14) (pl.length+1))/\rg.get 22=some (.S b0 ez.length)/\rg.get 23=some (.I ez.length)/\rg.get 24=some (.I i)):=⟨_,rfl⟩
    refine mq (Q:=R) ?_ ?_;rotate_left
    ·refine Dd ?_;rcases rH.put afx 0 fmG with hp|⟨k,w,hp,hp2⟩
     ·have hp1:=fun H=>(hp H).1;have hp2:=(hp h).2;rw[<-adD]at hp2;simp[r0,r7,gr9,gi9,gf9,hp1,frm,frm.symm,fim,fim.symm];refine dl ?_;rw[hR];exact⟨rfl,_,_,rfl,hp2,by simp[r0],by simp[r1],sp,sp,by simp[rl],by simp[rn],by simp[ri]⟩
     ·rw[<-adD]at hp2;simp[r0,r7,gr9,gi9,gf9,hp,frm,frm.symm,fim,fim.symm];refine dl ?_;rw[hR];exact⟨rfl,_,_,rfl,hp2,by simp[r0],by simp[r1],sp,sp,by simp[rl],by simp[rn],by simp[ri]⟩
    rw[hR]
    rintro x st ⟨rfl,rg,Kk,rfl,hfd,r0,r1,r4,r5,rl,rn,ri⟩
    simp[ri,wi];have f9:=k9.fresh fH;have kx:aQ [A.fm] H9 ((H9.bump 13).set A.fm (.map Kk)):=aQ.set _ ((aQ.refl _ _).bump 13) (.inl sp) (by simp;omega);have kxh:aQ [A.fm] h ((H9.bump 13).set A.fm (.map Kk)):=⟨by simp;omega,fun i hi hx=>(kx.old i om hx).trans (o9 i hi (by simpa using hx)),fun _=>kx.fresh f9⟩
    have Aj:∀α(g:Pl×List UInt8×List Fd->α),(jl (ez.take (i+1))).map g=(jl (ez.take i)).map g++[g (p2,nm,fs)]:=fun α g=>by rw[yh,my];simp[jl]
    refine⟨ez.length-(i+1),om,?_⟩;rw[hJ];refine⟨i+1,l++[⟨nm,fs.map Fd.fl,sab⟩],some (H.next+13,0),.S (H.next+14) (pl.length+1),pl++[p2],Kk,iH,rfl,rfl,rfl,rfl,kxh,sp,hfd,?_,?_,?_,sp,by simp[r0],by simp[r1],by simp[r4],by simp[r5],by simp[rl],by simp[rn],sp⟩
    ·have:=s9.mv f9 kx (fun z hz=>by simp at hz;omega);simpa using this
    ·rw[Aj,j7,hl];rfl
    ·rw[Aj,<-rO]
 ·have np:i=ez.length:=by omega
  subst np;rw[dH]at fmG hl rO;simp[r0,r1,r4,r5,rl,rn,ri];have hll:l.length=(jl ez).length:=by have:=wz List.length hl;simpa using this
  have Ug:=xw ez;have ndY:=nd;simp only[PA.Y,iO,aq,bd,cT,fO,dT,List.nodup_nil,jg]at ndY;obtain⟨⟨y1,y2,y3,y4⟩,⟨y5,y6,y7⟩,⟨y8,y9⟩,y10⟩:=ndY;have oG:∀i o,h.get i=some o->i≠A.fm->G.get i=some o:=fun i o g hi=>(kG.old i (au fr g) (by simpa using hi)).trans g;have afZ:∀s∈l,s.name.length<=1000000/\s.fs.length<=300/\∀f∈s.fs,f.1.length<=1000000/\f.2.length<=1000000:=fun s hs=>by
   have hm:(s.name,s.fs)∈(jl ez).map Mi:=(by rw[<-hl];exact List.mem_map_of_mem hs);obtain⟨x,hx,e⟩:=ow.1 hm;have Uq:=uU hx;have a1:=al _ Uq;have a2:=vC Uq;simp only[It.wt]at a2;injection e with e1 e2;rw[<-e1,<-e2];refine⟨by have:=a1.2.1;omega,by simp;omega,fun f hf=>?_⟩;obtain⟨f',KV,rfl⟩:=ow.1 hf;have:=a1.2.2 f' KV;unfold eR at this;exact⟨by simp only[Fd.fl];omega,by simp only[Fd.fl];omega⟩
  have hat:kI [A.r] G zw 2 pl.length (tc pl):=by
   rcases sl.aa with e|⟨b,e,_,g⟩
   ·exact .inl e
   ·have:=sl.an b (by rw[e];simp[aK]);have:=au fr gr;exact .inr ⟨b,true,e,by simp;omega,g⟩
  refine Px (oG _ _ gr y2) fG (sl.arg fG om hz afZ) hat (by rw[rO];simp[hll]) ?_ ?_;rotate_left
  ·intro h' q hq hb k f;simp;rw[rO]at hq;exact hE h' q (.bad hl hb hq) (mG.comp (Move.of fG k (fun z hz _=>by simp at hz;subst hz;simp[PA.Y]) fun _ hy=> .inl hy)) f
  intro G2 tb nm st N es2 l' v ov k2 f2 Ur V8 T hN hB Hf JS NN hb;rw[rO]at NN;have yJ:EO ez (Ps ⟨N,es2,yA (jl ez),[],[]⟩ ez ov):= .go hl hN hB Hf JS NN;have m2:Move A.Y A.Y h G2:=mG.comp (Move.of fG k2 (fun z hz _=>by simp at hz;subst hz;simp[PA.Y]) fun _ hy=> .inl hy);have o2:∀i o,h.get i=some o->i≠A.fm->i≠A.r->G2.get i=some o:=fun i o g h1 h2=>(k2.old i (au fG (oG i o g h1)) (by simpa using h2)).trans (oG i o g h1);have adE:=(m2.aJ _ _ g0 gY).1;rw[rQ]at adE;have nG:=kG.next;have nG2:=k2.next;obtain⟨b1,b2,b3,b4⟩:=hb;obtain⟨A',hA'⟩:∃A':PA,A'=⟨A.r,A.o,tb,nm,st,A.fm,A.gm,A.um,A.tr⟩:=⟨_,rfl⟩
  have fF:Fits es2:=hB.fits;obtain⟨S0,Ni⟩:∃S0:Sc,S0=⟨N,es2,yA (jl ez),[],[]⟩:=⟨_,rfl⟩
  rw[<-Ni]at yJ;have hY:∀x,x∈A.Y->x<h.next:=fun x hx=>by
   simp only[PA.Y,aq,bd,cT]at hx;rcases hx with rfl|rfl|rfl|rfl|rfl
   ·exact au fr gr
   ·exact au fr go
   ·exact au fr gf
   ·exact au fr gg
   ·exact au fr gu
  have hXs:∀x∈[A.r,A.o,A.gm,A.um],x∈A.Y:=fun x hx=>by
   simp only[PA.Y,aq,bd,cT]at hx⊢;rcases hx with rfl|rfl|rfl|rfl<;>simp
  have hXn:∀y,G.next<=y->y∉[A.r,A.o,A.gm,A.um]:=fun y hy hx=>by have:=hY y (hXs y hx);omega
  have go2:=o2 _ _ go y5 (iw y1);have gg2:=o2 _ _ gg (iw y8) (iw y3);have gu2:=o2 _ _ gu (iw y9) (iw y4);have ov3:kJ [A.r,A.o,A.gm,A.um] G2 v ov:=by
   cases ov with
   |none=>exact V8
   |some q=>
    obtain⟨z,z1,z2,z3⟩:=V8;refine⟨z,z1,fun hx=>?_,z3⟩;simp only[aq,bd,cT]at hx;rcases hx with rfl|rfl|rfl|rfl
    ·exact z2 sp
    ·rw[go2]at z3;simp at z3
    ·rw[gg2]at z3;simp at z3
    ·rw[gu2]at z3;simp at z3
  have I0:tj A' S0 [] [] [A.r,A.o,A.gm,A.um] [] (.Z) (.Z) ov G2:=by
   subst hA' Ni;refine⟨f2,by simp[PA.M,aK],fun x hx=>by have:=hY x (hXs x hx);omega,?_,⟨v,Ur,ov3⟩,go2,⟨T,hXn _ b1,hXn _ b2,hXn _ b3,fun e he=>hXn _ (b4 e he)⟩,⟨⟨es,?_,(fmG.move m2).move (Move.less hXs)⟩,?_⟩,gg2,gu2,.inl ⟨rfl,rfl,rfl⟩,.inl ⟨rfl,rfl⟩,rfl,sp⟩
   ·simp only[iO,aq,bd,cT,fO,dT,List.nodup_nil,jg];exact⟨⟨y1,y3,y4⟩,⟨y6,y7⟩,y10⟩
   ·rw[k2.old _ (au fG gfG) (by simpa using iw y2)];exact gfG
   ·simp only[aq,bd,cT,fO];exact⟨iw y2,iw y5,y8,y9⟩
  simp[r1,adE];have rA:A.r=A'.r:=by rw[hA']
  have sl0:N5 ez<=250:=wt;obtain⟨J2,hJ2⟩:∃J2:Nat->St->Prop,J2=(fun m x=>∃(i:Nat)(S:Sc)(d:Dn)(X fo:List Nat)(jm jF:AV),i<=ez.length/\m=ez.length-i/\x.n=178/\x.ds=[]/\x.bI=false/\tj A' S (S.gs.map Gl.nm) (S.fs.map Sg.nm) X fo jm jF d.over x.h/\Move [A.r,A.o,A.gm,A.um] X G2 x.h/\G2.next<=x.h.next/\JQ S0 S (ez.take i)/\
   Ps S0 ez ov=((Pp (ez.drop i) S d).bind fun S d=>(BT S d).bind fun m d=>(JO S ez d).bind fun l d=> .ok ⟨S,m,l⟩ d)/\
   x.rg.get 0=some (.P A.r)/\x.rg.get 1=some (.P id)/\x.rg.get 89=some (.slice EJ ez.length)/\x.rg.get 90=some (.I ez.length)/\x.rg.get 91=some (.I i)):=⟨_,rfl⟩
  refine bW J2 ez.length ?_ ?_
  ·rw[hJ2];subst Ni;exact⟨0,_,KD ov,_,[],_,_,bX _,rfl,rfl,rfl,rfl,I0,Move.refl _ _,ao _,⟨rfl,rfl,rfl,sp,by simp[Cm],⟨sp,sp⟩⟩,rfl,by simp[r0],by simp[r1],sp,sp,sp⟩
  clear r0 r1 r4 r5 rl rn ri;intro m x hx;rw[hJ2]at hx;obtain⟨rg,n',H,ds,bI⟩:=x;obtain⟨i,S,d,X,fo,jm,jF,hi,rfl,e1,e2,e3,I,mH,nH,hR,heq,r0,r1,rl,rn,ri⟩:=hx;dsimp only at e1 e2 e3 I mH nH r0 r1 rl rn ri;subst e1 e2 e3;have mhH:Move A.Y A.Y h H:=m2.comp (mH.adw hXs);have ag0:=(mhH.aJ _ _ g0 gY).1;rw[rQ]at ag0;have mhX:Move A.Y X h H:=m2.comp ((Move.less hXs).comp mH);by_cases iH:i<ez.length
  ·have uk:i<qs.length:=om;have fW:(i:Int)<(ez.length:Int):=om;have wi:IntKind.wrap .i64 ((i:Int)+1)=((i+1:Nat):Int):=(by rw[wr om om];omega);obtain⟨b0,rfl,FC,vz⟩:∃b,EJ=some (b,0)/\b∉A.Y/\h.get b=some (.cells true 1 (qs.map fun p=> .P p.1)):=by
    rcases Hg with⟨e,_⟩|⟨b,e,hb,g⟩
    ·rw[e]at uk;simp at uk
    ·rw[rQ]at e;injection e with e _;exact⟨b,e,hb,g⟩
   have Wt:=(mhH.aJ _ _ vz FC).1;have fa:(qs.map fun p=>AV.P p.1)[i]?=some (.P qs[i].1):=(by simp[uk]);have hqm:qs[i]∈qs:=bK uk;have ir:=(Ae _ hqm).move mhX;have Kw:ez[i]?=some qs[i].2:=(by rw[<-A9,bQ,aj uk];rfl);have yh:ez.take (i+1)=ez.take i++[qs[i].2]:=(by rw[dG,Kw];rfl);have qV:ez.drop i=qs[i].2::ez.drop (i+1):=by
    rw[ca iH];obtain⟨_,e⟩:=aU.1 Kw;rw[e]
   have hit:qs[i].2∈ez:=bg Kw;generalize qs[i]=q at*;obtain⟨iq,it⟩:=q;simp only at fa ir Kw yh hit qV;generalize (qs.map fun p=>AV.P p.1)=FQ at*;simp[r0,r1,rl,rn,ri,fW,iH,Wt,fa];rw[qV]at heq;simp only[Pp,Rs.bind_assoc]at heq;have dk:=Wr (S:=S) d (al _ hit) (by have:=vC hit;omega) hR.ok;have XI:=hR.gl;have HW:S.fs.length<=300:=by
    rw[hR.fs,Ni];have:=Ak (ez.take i);simp at this⊢;omega
   rw[rA];refine Pv I ir (al _ hit) (by have:=vC hit;omega) (by simp at XI;rw[Ni]at XI;simp at XI;omega) HW (by rw[hR.es,Ni];exact fF) ?_;generalize EN S it d=z at heq dk⊢;cases z with
   |err p=>
    intro h' m f;rw[heq]at yJ;simp;exact hE h' p yJ ((mhX.comp m).self) f
   |ok S' d'=>
    intro X' fo' aaY aaZ h' I' sX mm nx;have dk:JQ S S' [it]:=dk;simp only[Rs.lI]at heq;simp[ri,wi];refine⟨ez.length-(i+1),om,?_⟩;rw[hJ2];exact⟨i+1,S',d',X',fo',aaY,aaZ,iH,rfl,rfl,rfl,rfl,I',mH.comp mm,by simp only;omega,by rw[yh];exact hR.trans dk,heq,by simp[r0],by simp[r1],by simp[rl],by simp[rn],sp⟩
  ·have np:i=ez.length:=om;subst np;rw[dH]at hR;rw[eQ]at heq;simp only[Pp,Rs.lI]at heq;obtain⟨v3,Us,ahr⟩:=I.r;simp only[PA.ob]at Us;have gu3:=I.um;have eo:A'.o=A.o:=(by rw[hA']);have eum:A'.um=A.um:=(by rw[hA']);rw[<-rA]at Us;rcases sS [109,97,105,110] (S.fs.map Sg.nm) 0 0 with⟨f1,f3⟩|⟨n,k,f1,f3⟩
   ·have hm:BT S d= .err (1,1):=(by unfold BT;rw[f1]);rw[hm]at heq;rw[heq]at yJ;simp[r0,r1,rl,rn,ri,Us,gu3,f3];refine gy (1,1) false _ _ _ (fun h3 _ k3=>?_) fun _ e _=>by cases e
    simp;exact hE _ _ yJ ((mhX.comp (Move.k I.fr k3)).self) (k3.fresh I.fr)
   ·obtain⟨n',e1,f4⟩:=Ab f1;simp only[eY]at e1;subst e1;rw[bQ]at f4;obtain⟨s,hs⟩:∃s,S.fs[n]?=some s:=by
     cases e:S.fs[n]? with
     |none=>rw[e]at f4;cases f4
     |some s=>exact⟨s,rfl⟩
    have hm:BT S d=Rs.nL ((s.ty==[105,110,116]||s.ty==[108,111,110,103])&&s.ps.all vT) (1,1) (.ok n d):=(by unfold BT;rw[f1];simp only[hs]);simp[r0,r1,rl,rn,ri,Us,gu3,f3];refine gy (1,1) true _ _ _ (fun _ e _=>by cases e) fun h3 _ k3=>?_;obtain⟨I3,m3⟩:=I.aJ k3;obtain⟨v4,gr4,ov4⟩:=I3.r;simp only[PA.ob]at gr4;rw[<-rA,eo]at gr4;have DL:=I3.o;rw[eo]at DL;have SO:A.r≠A.o:=y1;have By:n<S.fs.length:=by
     rcases eW n S.fs.length with e|e
     ·exact e
     ·rw[fu e]at hs;cases hs
    have Ys:n<fo.length:=(by rw[I.fl];exact By);have YG:fo[n]?=some fo[n]:=aj Ys;obtain⟨fb,rfl,gfb⟩:∃b,jF= .S b S.fs.length/\h3.get b=some (.cells true 1 (fo.map fun a=> .P a)):=by
     rcases I3.fa with⟨e,_⟩|⟨b,e,_,g⟩
     ·have:fo=[]:=(by simpa using e);rw[this]at Ys;simp at Ys
     ·exact⟨b,by rw[e,<-I.fl];simp,by rw[g];simp[uA]⟩
    have fan:(fo.map fun a=>AV.P a)[n]?=some (.P fo[n]):=(by simp[Ys]);obtain⟨spx,sb,gfn,asp,asb⟩:=I3.fs n fo[n] s hs YG;have He:fo[n]∈fo:=bK Ys;obtain⟨u1,u2,u3,u4⟩:=I3.ne.2.2.2.2.2.2 fo[n] He;rw[eo]at u2;have nfb:fb≠A.o:=fun e=>by rw[e,DL]at gfb;simp at gfb
    obtain⟨spa,adG⟩:=asp.slice;obtain⟨sba,ag1⟩:=asb.slice;have WB:=gfn;rw[adG,ag1]at WB;generalize fo[n]=fa at*;generalize (fo.map fun a=>AV.P a)=FO at*;have hnI:(n:Int)<(S.fs.length:Int):=om;obtain⟨h4,hh4⟩:∃h4,h4=((h3.set A.o (.C [A'.tr,jm,.S fb S.fs.length,.I n])).alloc (.C [.str [],.str [],.Z,.Z])).2.set h3.next (.C [.str s.nm,.str s.ty,.slice spa s.ps.length,.slice sba s.pb.length]):=⟨_,rfl⟩
    have g4:h4.get h3.next=some (.C [.str s.nm,.str s.ty,.slice spa s.ps.length,.slice sba s.pb.length]):=(by rw[hh4];simp);have Wf:aQ [A.o] h3 h4:=(by rw[hh4];exact aQ.set _ (aQ.alloc _ (aQ.set _ (aQ.refl _ _) (.inl sp) (au I3.fr DL))) (.inr (ao _)) sp);have oX:A.o∈X:=(by rw[<-eo];exact I3.sup _ (by simp[PA.M]));have m34:Move X X h3 h4:=Move.of I3.fr Wf (fun z hz _=>by simp at hz;subst hz;exact oX) fun _ hy=> .inl hy;have f4':=Wf.fresh I3.fr;have ag2:s.ps.length<=300:=(hR.ok.f s (bg hs)).2.1;generalize gJ:((s.ty==[105,110,116]||s.ty==[108,111,110,103])&&s.ps.all vT)=ok at*;have cont:∀(Q2:Out->ah->Prop),(∀h5,aS h4 h5->Q2 (.ret (.bool (!s.ps.all vT))) h5)->aV env 34 [.slice spa s.ps.length,.func 35 []] h4 Q2:=fun Q2 q=>Py (by rw[adG]at asp;exact asp.move m34) f4' ag2 _ q;generalize s.ps.all vT=wal at cont gJ;apply adC (E:=env) (n:=178) (f:=33) (args:=[.P A.r,.bool ok,.agg [.I 1,.I 1]]) (P:=fun da h'=>da.get 0=some (.P A.r)/\da.get 1=some (.P id)/\aS h4 h')
    case hm=>
     intro Qo;by_cases e1:(s.ty==[105,110,116])=true
     ·have ea:wal=ok:=(by rw[<-gJ,e1];simp);simp[r0,gr4,DL,SO,SO.symm,gfb,nfb,nfb.symm,fan,WB,u2,By,hnI,e1];rw[<-hh4];refine cont _ fun h5 k5=>?_;simp[ea];refine Qo _ _ ⟨by simp[r0],by simp[r1],k5⟩
     ·have e1:=j0.2 e1;by_cases e2:(s.ty==[108,111,110,103])=true
      ·have ea:wal=ok:=(by rw[<-gJ,e1,e2];simp);simp[r0,gr4,DL,SO,SO.symm,gfb,nfb,nfb.symm,fan,WB,u2,By,hnI,e1,e2];rw[<-hh4];refine cont _ fun h5 k5=>?_;simp[ea];refine Qo _ _ ⟨by simp[r0],by simp[r1],k5⟩
      ·have e2:=j0.2 e2;have ea:ok=false:=(by rw[<-gJ,e1,e2];simp);simp[r0,gr4,DL,SO,SO.symm,gfb,nfb,nfb.symm,fan,WB,u2,By,hnI,e1,e2];rw[<-hh4];rw[ea]at Qo;refine Qo _ _ ⟨by simp[r0],by simp[r1],aS.refl _⟩
    case ht=>
     rintro rg1 h5 ⟨YI,PB,k5⟩
     have adH:Move A.Y X h h4:=((mhX.comp (Move.k I.fr k3)).comp m34)
     refine gy (1,1) ok _ _ _ (fun h6 e k6=>?_) (fun h6 e k6=>?_)
     ·rw[hm,e]at heq;have heq:Ps S0 ez ov= .err (1,1):=heq;rw[heq]at yJ;simp;exact hE _ _ yJ ((adH.comp (Move.k f4' (k5.trans k6))).self) ((k5.trans k6).fresh f4')
     ·rw[hm,e]at heq;simp only[Rs.DA,Rs.lI]at heq;have EF:=k5.trans k6;have f6:=EF.fresh f4';have m46:Move X X h4 h6:=Move.k f4' EF;have m36:=m34.comp m46;have adI:Move A.Y X h h6:=adH.comp m46;have adJ:=(adI.aJ _ _ g0 gY).1;rw[rQ]at adJ;have adK:h3.next<=h6.next:=bk Wf.next EF.next;have o36:∀i o,h3.get i=some o->i≠A.o->h6.get i=some o:=fun i o g hi=>(EF.old i (aw (au I3.fr g) Wf.next)).trans ((Wf.old i (au I3.fr g) (by simpa using hi)).trans g);have go6:h6.get A.o=some (.C [A'.tr,jm,.S fb S.fs.length,.I n]):=by
       have lo3:=au I3.fr DL;rw[EF.old _ (aw lo3 Wf.next),hh4,ah.aM,az om,ah.dz,az (by simp;omega)];simp
      have hNX:∀x∈A.r::fo,x∈X:=fun x hx=>I3.sup x (by
       rcases aq.1 hx with rfl|hx
       ·rw[rA];simp[PA.M]
       ·simp[PA.M,hx])
      have mN:Move X (A.r::fo) h3 h6:=m36.comp (Move.less hNX);have nd3:=I3.nd;simp only[iO,aq,fO]at nd3;obtain⟨⟨n1,n2,n3,n4⟩,⟨n5,n6,n7⟩,⟨n8,n9⟩,n10,n11⟩:=nd3;have ar:∀b,b∈aK jm++aK (AV.S fb S.fs.length)->b≠A.o/\b∉A'.r::fo:=fun b hb=>by
       obtain⟨z1,z2,z3,z4,z5⟩:=I3.Wm hb;rw[eo]at z2;exact⟨z2,by simp only[aq,fO];exact⟨z1,z5⟩⟩
      rw[rA]at mN;have F0:FI A' S n fo jm (.S fb S.fs.length) [] d.over h6:=by
       refine⟨f6,fun x hx=>aw (I3.xl x (hNX x (by rw[rA];exact hx))) adK,iO.2 ⟨n4,n11⟩,⟨.N,.map none,.Z,.I 0,.I 0,v4,?_,ov4.move mN⟩,by rw[eo];exact go6,by rw[aq,fO];exact⟨iw n1,n7⟩,I3.Ft.move mN adK,I3.fm.move mN,o36 _ _ I3.gm (by rw[<-eo];exact iw n5),o36 _ _ I3.um (by rw[<-eo];exact iw n6),⟨by rw[aq,fO];exact⟨iw n2,n9⟩,by rw[aq,fO];exact⟨iw n3,n10⟩⟩,?_,?_,I3.fl,fun m a s2 h1 h2 _=>?_,sp⟩
       ·rw[<-rA];rw[<-eo]at gr4;exact o36 _ _ gr4 y1
       ·rcases I3.ga with e|⟨b,e,_,g⟩
        ·exact .inl e
        ·obtain⟨z1,z2⟩:=ar b (by rw[e];simp[aK]);exact .inr ⟨b,true,e,z2,o36 _ _ g z1⟩
       ·obtain⟨z1,z2⟩:=ar fb (by simp[aK]);rcases I3.fa with⟨e,_⟩|⟨b,e,_,g⟩
        ·have:fo=[]:=(by simpa using e);rw[this]at He;cases He
        ·injection e with e _;injection e with e;injection e with e _;subst e;exact .inr ⟨_,true,rfl,z2,by rw[o36 _ _ g z1];simp[uA]⟩
       ·obtain⟨p2,b2,g2,a2,a3⟩:=I3.fs m a s2 h1 h2;have:=(I3.ne.2.2.2.2.2.2 a (bg h2)).2.1;rw[eo]at this;exact⟨p2,b2,o36 _ _ g2 this,a2.move mN,a3.move mN⟩
      have okS:S.Ok:=ag3 al wt hl hB Hf JS (by rw[Ni]at hR;exact hR);have ag4:S.fs=Cm ez:=(by rw[hR.fs,Ni];rfl);simp[YI,PB,adJ];have mY6:Move A.Y (A'.r::fo) h h6:=adI.comp (Move.less (by rw[<-rA];exact hNX));obtain⟨J3,hJ3⟩:∃J3:Nat->St->Prop,J3=(fun m x=>∃(i:Nat)(fns:List Fn)(d:Dn),i<=ez.length/\m=ez.length-i/\x.n=178/\x.ds=[]/\x.bI=false/\FI A' S n fo jm (.S fb S.fs.length) fns d.over x.h/\Move A.Y (A'.r::fo) h x.h/\fns.length=(Cm (ez.take i)).length/\
       Ps S0 ez ov=((JO S (ez.drop i) d).bind fun l d=> .ok ⟨S,n,fns++l⟩ d)/\
       x.rg.get 0=some (.P A.r)/\x.rg.get 16=some (.I fns.length)/\x.rg.get 151=some (.slice EJ ez.length)/\x.rg.get 152=some (.I ez.length)/\x.rg.get 153=some (.I i)):=⟨_,rfl⟩
      refine bW J3 ez.length ?_ ?_
      ·rw[hJ3];exact⟨0,[],d,bX _,rfl,rfl,rfl,rfl,F0,mY6,rfl,by rw[heq];simp,by simp[YI],sp,sp,sp,sp⟩
      intro m x hx;rw[hJ3]at hx;obtain⟨rg,n',L,ds,bI⟩:=x;obtain⟨i,fns,d2,hi,rfl,e1,e2,e3,F,mL,HW,heq,s0,YJ,sl,sn,si⟩:=hx;dsimp only at e1 e2 e3 F mL s0 YJ sl sn si;subst e1 e2 e3;by_cases iH:i<ez.length
      ·have uk:i<qs.length:=om;have fW:(i:Int)<(ez.length:Int):=om;have wi:IntKind.wrap .i64 ((i:Int)+1)=((i+1:Nat):Int):=(by rw[wr om om];omega);obtain⟨b0,rfl,FC,vz⟩:∃b,EJ=some (b,0)/\b∉A.Y/\h.get b=some (.cells true 1 (qs.map fun p=> .P p.1)):=by
        rcases Hg with⟨e,_⟩|⟨b,e,hb,g⟩
        ·rw[e]at uk;simp at uk
        ·rw[rQ]at e;injection e with e _;exact⟨b,e,hb,g⟩
       have Wt:=(mL.aJ _ _ vz FC).1;have fa2:(qs.map fun p=>AV.P p.1)[i]?=some (.P qs[i].1):=(by simp[uk]);have hqm:qs[i]∈qs:=bK uk;have ir:=(Ae _ hqm).move mL;have Kw:ez[i]?=some qs[i].2:=(by rw[<-A9,bQ,aj uk];rfl);have yh:ez.take (i+1)=ez.take i++[qs[i].2]:=(by rw[dG,Kw];rfl);have qV:ez.drop i=qs[i].2::ez.drop (i+1):=by
        rw[ca iH];obtain⟨_,e⟩:=aU.1 Kw;rw[e]
       have ag5:ez=ez.take i++ez.drop i:=(List.take_append_drop i ez).symm;have hit:qs[i].2∈ez:=bg Kw;generalize qs[i]=q at*;obtain⟨iq,it⟩:=q;simp only at fa2 ir Kw yh hit qV;generalize (qs.map fun p=>AV.P p.1)=FQ at*;rw[qV]at heq;cases it with
       |global p2 ty nm=>
        simp[s0,YJ,sl,sn,si,fW,iH,Wt,fa2,ir.1,wi];refine⟨ez.length-(i+1),om,?_⟩;rw[hJ3];exact⟨i+1,fns,d2,iH,rfl,rfl,rfl,rfl,F,mL,by rw[yh,ua];simpa[Cm]using HW,heq,by simp[s0],by simp[YJ],by simp[sl],by simp[sn],sp⟩
       |struct p2 nm fs=>
        obtain⟨fv,gi,nxi,_⟩:=ir;simp[s0,YJ,sl,sn,si,fW,iH,Wt,fa2,gi,wi];refine⟨ez.length-(i+1),om,?_⟩;rw[hJ3];exact⟨i+1,fns,d2,iH,rfl,rfl,rfl,rfl,F,mL,by rw[yh,ua];simpa[Cm]using HW,heq,by simp[s0],by simp[YJ],by simp[sl],by simp[sn],sp⟩
       |func p2 ty nm ps b=>
        have ir':=ir;obtain⟨pv,vY,gi,nxi,_⟩:=ir;obtain⟨pf,pn,Kp,pl',pb',Uu,grL,_⟩:=F.r;rw[<-rA,eo]at grL;have Wg:=F.o;rw[eo]at Wg;have Ib:S.fs[fns.length]?=some (Pm.sg nm ty ps):=by
         rw[ag4,ag5,qV,ua,HW,ji (ao _)];simp[Cm]
        have ab5:fns.length<S.fs.length:=by
         rcases eW fns.length S.fs.length with e|e
         ·exact e
         ·rw[fu e]at Ib;cases Ib
        have ag6:fns.length<fo.length:=(by rw[F.fl];exact ab5);have hff:fo[fns.length]?=some fo[fns.length]:=aj ag6;obtain⟨rwf,ag7⟩:∃yg,L.get fb=some (.cells yg 1 (fo.map fun a=> .P a)):=by
         rcases F.fa with⟨e,_⟩|⟨b,yg,e,_,g⟩
         ·omega
         ·injection e with e _;injection e with e;injection e with e _;subst e;exact⟨yg,g⟩
        have ag8:(fo.map fun a=>AV.P a)[fns.length]?=some (.P fo[fns.length]):=(by simp[F.fl,ab5]);have hfI:(fns.length:Int)<(S.fs.length:Int):=om;have wf:IntKind.wrap .i64 ((fns.length:Int)+1)=((fns.length+1:Nat):Int):=by
         have:=okS.fs.1;rw[wr om om];omega
        generalize fo[fns.length]=fx at*;generalize (fo.map fun a=>AV.P a)=FO2 at*;simp[s0,YJ,sl,sn,si,fW,iH,Wt,fa2,gi,grL,Wg,ag7,ag8,ab5,hfI];rw[rA];refine Mg F okS ir' (al _ hit) (by have:=vC hit;simp only[It.wt]at this;omega) hff Ib rfl _ ?_;simp only[JO,Rs.bind_assoc]at heq;generalize fnF S ps ty b d2.over=z at heq⊢;cases z with
        |err q=>
         intro h7 m7 f7;rw[heq]at yJ;simp;exact hE _ _ yJ ((mL.comp m7).self) f7
        |ok tt d7=>
         intro h7 F7 m7 n7;simp only[Rs.lI]at heq;simp[YJ,si,wi,wf];refine⟨ez.length-(i+1),om,?_⟩;rw[hJ3];refine⟨i+1,_,d7,iH,rfl,rfl,rfl,rfl,F7,mL.comp m7,by rw[yh,ua];simp[Cm,HW],?_,by simp[s0],sp,by simp[sl],by simp[sn],sp⟩;rw[heq];simp
      ·have np:i=ez.length:=om;subst np;rw[eQ]at heq;simp only[JO,Rs.lI,gZ]at heq;rw[heq]at yJ;simp[s0,YJ,sl,sn,si];exact hQ _ A' ⟨S,n,fns⟩ fo jm _ d2 ⟨rA.symm,eo,by rw[hA']⟩ yJ F mL.self
end
end
section
attribute [local simp] aI
theorem JU(a b c:AV)(h:ah)(Q:Option AV->ah->Prop)(hQ:∀h',aS h h'->Q none h'):lz env 18 [a,b,c] h none Q:=by
 refine lz.mk fn18.1 rfl (iJ rfl) ?_;refine WS.seq (WS.aah kr ?_);simp[Cb,eF];refine WS.seq (WS.region kr ?_);simp;refine WS.cond ?_;simp;refine WS.plain rfl ?_;simp[fL];exact hQ _ (aS.refl _)
theorem SW{a b c:Nat}(p:Pl){av0:Option (Nat×Nat)}{b1 b2 c1:AV}(h:ah)(lt:a<h.next/\b<h.next/\c<h.next)(Q:Option AV->ah->Prop)(ga:h.get a=some (.C [.ptr av0]))(gb:h.get b=some (.C [b1,b2]))(gc:h.get c=some (.C [c1]))(nd:a≠b/\a≠c/\b≠c)
 (hQ:∀h',aQ [a,b,c] h h'->h'.get a=some (.C [.N])->h'.get b=some (.C [.I p.1,.I p.2])->h'.get c=some (.C [.I 5])->Q none h'):lz env 18 [.P a,.P b,.P c] h (some (zq p)) Q:=by
 obtain⟨nab,nac,nbc⟩:=nd;obtain⟨la,lb,lc⟩:=lt;have na:a≠h.next:=om
 have nb:b≠h.next:=om
 have nc:c≠h.next:=om
 refine lz.mk fn18.1 rfl (iJ rfl) ?_;refine WS.seq (WS.aah kr ?_);simp[Cb,eF];refine WS.seq (WS.region kr ?_);simp;refine WS.cond ?_;simp;refine WS.seq (WS.region kr ?_);simp[bc];refine WS.seq (WS.seq (WS.region kr ?_));simp;refine WS.cond ?_;simp;refine WS.plain rfl ?_;simp;refine WS.draw ?_;refine Dd ?_;simp[ga,gb,gc,na,nb,nc,na.symm,nb.symm,nc.symm,nab,nac,nbc,nab.symm,nac.symm,nbc.symm];have y0:=na.symm;have y1:=nb.symm;have y2:=nc.symm;have y3:=nab.symm;have y4:=nac.symm;have y5:=nbc.symm;refine dl ?_;exact hQ _ kX (by simp[nab,nac,nbc]) (by simp[nab.symm,nac,nbc]) sp
section
variable{ez:List It}{id:Nat}{h:ah}{Q:Out->ah->Prop}
theorem DZ.over{X Y:List Nat}{h h':ah}(m:Move X Y h h'){id:Nat}{ez:List It}(t:DZ X h id ez):DZ Y h' id ez:=t.Al m
theorem WD(t:DZ [] h id ez)(al:∀i∈ez,i.al PT)(wt:N5 ez<=250)(fr:cM h)
 (hE:∀h' p e,(EO ez (.err p)/\e=5\/∃pr d,EO ez (.ok pr d)/\d.over=some p/\e=2)->Move [] [] h h'->cM h'->Q (.ret (.iX [.N,.agg [.I p.1,.I p.2],.I e])) h')
 (hQ:∀h' o pr d,EO ez (.ok pr d)->d.over=none->Move [] [] h h'->cM h'->Q (.ret (.iX [.P o,.agg [.I 0,.I 0],.I 0])) h'):
 aV env 7 [.P id] h Q:=by
 refine wd fn7 rfl ?_;simp[f7];obtain⟨H,hH⟩:∃H,H=((((((((h.alloc (.C [.N])).2.alloc (.C [.I 0,.I 0])).2.alloc (.C [.I 0])).2.alloc (.C [.P id,.Z,.Z,.I 0])).2.alloc (.map [])).2.alloc (.map [])).2.alloc (.map [])).2.alloc (.C [.P (h.next+3),.N,.map (some (h.next+4)),.map (some (h.next+5)),.map (some (h.next+6)),.N,.map none,.Z,.I 0,.I 0,.N])).2:=⟨_,rfl⟩
 rw[<-hH];have K:aS h H:=by rw[hH];exact kT
 have hn:H.next=h.next+8:=by rw[hH];simp
 have fH:=K.fresh fr;obtain⟨A,hA⟩:∃A:PA,A=⟨h.next+7,h.next+3,0,0,0,h.next+4,h.next+5,h.next+6,.P id⟩:=⟨_,rfl⟩
 have g0:H.get h.next=some (.C [.N]):=by rw[hH];simp
 have g1:H.get (h.next+1)=some (.C [.I 0,.I 0]):=by rw[hH];simp
 have g2:H.get (h.next+2)=some (.C [.I 0]):=by rw[hH];simp
 have gr:H.get A.r=some (.C (A.KG (.N) (.N))):=by rw[hH,hA];simp[PA.KG]
 have go:H.get A.o=some (.C [A.tr,.Z,.Z,.I 0]):=by rw[hH,hA];simp
 have gf:H.get A.fm=some (.map []):=by rw[hH,hA];simp
 have gg:H.get A.gm=some (.map []):=by rw[hH,hA];simp
 have gu:H.get A.um=some (.map []):=by rw[hH,hA];simp
 have hY:∀i,i<h.next+3->i∉A.Y:=fun i hi=>by rw[hA];simp[PA.Y];omega
 have m0:Move [] A.Y h H:=(Move.k fr K).to fr fun y hy=> .inr (by
  rw[hA]at hy;simp only[PA.Y,aq,bd,cT]at hy;omega)
 have tH:=t.Al m0;have rA:h.next+7=A.r:=by rw[hA]
 have cl:∀h2,Move A.Y A.Y H h2->h2.get h.next=some (.C [.N])/\h2.get (h.next+1)=some (.C [.I 0,.I 0])/\h2.get (h.next+2)=some (.C [.I 0]):=fun h2 m=>⟨(m.aJ _ _ g0 (hY _ om)).1,(m.aJ _ _ g1 (hY _ om)).1,(m.aJ _ _ g2 (hY _ om)).1⟩
 have fin:∀h2 h3,Move A.Y A.Y H h2->cM h2->aQ [h.next,h.next+1,h.next+2] h2 h3->Move [] [] h h3/\cM h3:=fun h2 h3 m f k=>⟨⟨fun i o g _=>by
  have hi:=au fr g;have g2:=((m0.comp m).aJ i o g sp).1;exact⟨(k.old i (au f g2) (by simp;omega)).trans g2,sp⟩⟩,k.fresh f⟩
 clear hH;rw[rA];refine Wy gr go gf gg gu (by rw[hA];simp[PA.Y]) fH tH al wt ?_ ?_
 ·intro h2 p hr m f;obtain⟨c0,c1,c2⟩:=cl h2 m;have l0:=au f c0;have l1:=au f c1;have l2:=au f c2;simp;refine SW p h2 ⟨l0,l1,l2⟩ _ c0 c1 c2 ⟨om,om,om⟩ fun h3 k3 q0 q1 q2=>?_;obtain⟨m3,f3⟩:=fin h2 h3 m f k3;simp[fL,q0,q1,q2];exact hE h3 p 5 (.inl ⟨hr,rfl⟩) m3 f3
 ·intro h2 A' pr fo jm jF d hA' hr F m;obtain⟨c0,c1,c2⟩:=cl h2 m;have f:=F.fr;have l0:=au f c0;have l1:=au f c1;have l2:=au f c2;obtain⟨e1,e2,e3⟩:=hA';obtain⟨pf,pn,Kp,pl',pb',Uu,Ur,NN⟩:=F.r;rw[e1]at Ur;cases hd:d.over with
  |none=>
   rw[hd]at NN;have NN:Uu= .N:=NN;subst NN;simp[Ur,c0,c1,c2];obtain⟨h3,Hq⟩:∃h3,h3=((h2.set h.next (.C [.P A'.o])).set (h.next+1) (.C [.I 0,.I 0])).set (h.next+2) (.C [.I 0]):=⟨_,rfl⟩
   rw[<-Hq];have k3:aQ [h.next,h.next+1,h.next+2] h2 h3:=(by rw[Hq];exact kX);refine JU _ _ _ _ _ fun h4 k4=>?_;have f3:=k3.fresh f;have n3:=k3.next;have q0:h4.get h.next=some (.C [.P A'.o]):=(k4.old _ om).trans (by rw[Hq];simp);have q1:h4.get (h.next+1)=some (.C [.I 0,.I 0]):=(k4.old _ om).trans (by rw[Hq];simp);have q2:h4.get (h.next+2)=some (.C [.I 0]):=(k4.old _ om).trans (by rw[Hq];simp);obtain⟨m4,f4⟩:=fin h2 h4 m f (k3.trans (k4.x _));simp[fL,q0,q1,q2];exact hQ h4 A'.o pr d hr hd m4 f4
  |some p=>
   rw[hd]at NN;obtain⟨q,rfl,hq,gq⟩:=NN;have q1:q≠h.next:=fun e=>by rw[e,c0]at gq;simp at gq
   have q2:A.r≠h.next:=(by rw[<-rA];omega);simp[Ur,gq,c0,c1,c2];refine Dd ?_;simp[Ur,gq,c0,c1,c2];refine dn (And.intro Ur (And.intro gq (And.intro c0 (And.intro c1 (And.intro c2 (And.intro q1 q2)))))) ?_;obtain⟨h3,Hq⟩:∃h3,h3=(((h2.bump 9).set h.next (.C [.N])).set (h.next+1) (.C [.I p.1,.I p.2])).set (h.next+2) (.C [.I 2]):=⟨_,rfl⟩
   rw[<-Hq];have k3:aQ [h.next,h.next+1,h.next+2] h2 h3:=(by rw[Hq];exact kX);refine JU _ _ _ _ _ fun h4 k4=>?_;have f3:=k3.fresh f;have n3:=k3.next;have q0:h4.get h.next=some (.C [.N]):=(k4.old _ om).trans (by rw[Hq];simp);have q1:h4.get (h.next+1)=some (.C [.I p.1,.I p.2]):=(k4.old _ om).trans (by rw[Hq];simp);have q2:h4.get (h.next+2)=some (.C [.I 2]):=(k4.old _ om).trans (by rw[Hq];simp);obtain⟨m4,f4⟩:=fin h2 h4 m f (k3.trans (k4.x _));simp[fL,q0,q1,q2];exact hE h4 p 2 (.inr ⟨pr,d,hr,hd,rfl⟩) m4 f4
end
end
section
attribute [local simp] aI
theorem EO.pl{P:Pl->Prop}{ez:List It}{r:Rs Pr}(h:EO ez r)(al:∀i∈ez,i.al P)(h1:P (1,1)):r.pl P:=by
 have st:∀q∈(jl ez).map Prod.fst,P q:=fun q hq=>by
  obtain⟨x,hx,rfl⟩:=ow.1 hq;exact(al _ (uU hx)).1
 cases h with
 |bad hl hb hq=>exact st _ hq
 |go hl hN hB hn hf ho=>
  refine Wl ?_ h1 al;rcases ho with⟨e,_⟩|⟨⟨q,hq,e⟩,_⟩
  ·intro p hp;rw[show(KD _).over=_ from rfl,e]at hp;cases hp
  ·intro p hp;rw[show(KD _).over=_ from rfl,e]at hp;injection hp with hp;subst hp;exact st q hq
theorem Be:∀(s:List UInt8)(l c:Int),1<=l->1<=c->1<=(dy l c s).1/\(dy l c s).1<=l+s.length/\1<=(dy l c s).2/\(dy l c s).2<=c+s.length
 |[],l,c,h1,h2=>by simp[dy];omega
 |b::s,l,c,h1,h2=>by
  simp only[dy,ai];split
  ·have:=Be s (l+1) 1 om om;omega
  ·have:=Be s l (c+1) om om;omega
theorem An:env.flat 26=some [(0,2),(1,2)]:=kr
theorem Hr(a b c d:Int):yF [.I a,.I b] [.I c,.I d] [(0,2),(1,2)]=some (a==c&&b==d):=by
 cases h:(a==c)<;>cases h2:(b==d)<;>simp[yF,CI,h,h2]
theorem SX(hA:∀h,aV env 4 [] h (fun out h'=>out= .ret (.bool true)/\h'=h))(s:List UInt8)(h:ah)(fr:cM h):aV env 3 [.str s] h (fun out _=>out= .ret (.bool true)):=by
 refine wb fn3 rfl ?_;simp[f3];refine(hA h).mono fun out h1 hq=>?_;obtain⟨rfl,rfl⟩:=hq;simp;refine(ab6 s _ fr).mono fun out h2 hq=>?_;obtain⟨fb,rfl,k2,ag9⟩:=hq;cases fb with
 |false=>simp
 |true=>
  obtain⟨hs,ws,ez,hx,hw,hG,hf⟩:=ag9 rfl;simp;refine WE hs hx hw hG om om (k2.fresh fr) fun id h3 t3 k3=>?_;have f3:=k3.fresh (k2.fresh fr);have K4:aS h3 ((h3.alloc (.C [.I 0,.I 0])).2.set h3.next (.C [.I 0,.I 0])):=kT;have t4:=t3.Al (Move.k f3 K4);have f4:=K4.fresh f3;have al:=hG.al (Hn.wp hx hs hw);have alT:=hG.al (P:=PT) ⟨fun _ _=>trivial,(Hn.wp hx hs hw).t,hw⟩;have wt:N5 ez<=250:=bk hG.wt hw;simp;generalize (h3.alloc (.C [.I 0,.I 0])).2.set h3.next (.C [.I 0,.I 0])=h4 at*;refine WD t4 alT wt f4 (fun h5 p e hr m5 f5=>?_) fun h5 o pr d hr hd m5 f5=>?_
  ·have hp:Hn s p:=by
    rcases hr with⟨hr,_⟩|⟨pr,d,hr,hd,_⟩
    ·exact hr.pl al (Hn.one s)
    ·exact hr.pl al (Hn.one s) p hd
   have he:(e==0)=false:=by
    rcases hr with⟨_,rfl⟩|⟨_,_,_,_,rfl⟩<;>rfl
   simp[he];obtain⟨h6,YK⟩:∃h6,h6=(h5.alloc (.C [.I 0,.I 0])).2.set h5.next (.C [.I p.1,.I p.2]):=⟨_,rfl⟩
   rw[<-YK];have g6:h6.get h5.next=some (.C [.I p.1,.I p.2]):=(by rw[YK];simp);obtain⟨kp,hkp,hpp⟩:=hp;refine bW (fun m x=>∃(i:Nat),i<=kp/\m=s.length-i/\x.n=59/\x.ds=[]/\x.bI=false/\x.h=h6/\x.rg.get 0=some (.str s)/\x.rg.get 7=some (.P h5.next)/\x.rg.get 9=some (.I (dy 1 1 (s.take i)).1)/\x.rg.get 10=some (.I (dy 1 1 (s.take i)).2)/\x.rg.get 11=some (.I i)) s.length ?_ ?_
   ·exact⟨0,bX _,rfl,rfl,rfl,rfl,rfl,sp,sp,by simp[dy],by simp[dy],sp⟩
   rintro m ⟨rg,n',G,ds,bI⟩ ⟨i,hi,rfl,e1,e2,e3,e4,r0,r7,r9,qp,jq⟩
   dsimp only at e1 e2 e3 e4 r0 r7 r9 qp jq;subst e1 e2 e3 e4;have UO:i<=s.length:=om;have ab7:(i:Int)<=(s.length:Int):=om;have MU:=Be (s.take i) 1 1 om om;have cX:(s.take i).length=i:=(by simp;omega);rw[cX]at MU;cases heq:(p.1==(dy 1 1 (s.take i)).1&&p.2==(dy 1 1 (s.take i)).2)with
   |true=>simp[r0,r7,r9,qp,jq,UO,ab7,g6,An,Hr,heq]
   |false=>
    have jX:i≠kp:=fun e=>by
     rw[e,hpp]at heq;simp at heq
    have np:i<s.length:=om;have adL:(i:Int)<(s.length:Int):=om;have hch:s[i]?=some s[i]:=aj np;have yh:s.take (i+1)=s.take i++[s[i]]:=(by rw[dG,hch];rfl);have wa:dy 1 1 (s.take (i+1))=if s[i]=10 then((dy 1 1 (s.take i)).1+1,1)else((dy 1 1 (s.take i)).1,(dy 1 1 (s.take i)).2+1):=by
     rw[yh,xY];simp only[dy]
    have w1:IntKind.wrap .i64 ((i:Int)+1)=((i+1:Nat):Int):=(by rw[wr om om];omega);obtain⟨ch,OB⟩:∃ch,ch=s[i]:=⟨_,rfl⟩
    rw[<-OB]at hch yh wa;generalize (dy 1 1 (s.take i)).1=L at*;generalize (dy 1 1 (s.take i)).2=C at*;have w2:IntKind.wrap .i64 (L+1)=L+1:=wr om om;have w3:IntKind.wrap .i64 (C+1)=C+1:=wr om om;by_cases hc:ch=10
    ·rw[aW hc]at wa;have PC:((s[i].toNat:Int)==10)=true:=(by rw[<-OB,hc];rfl);simp[r0,r7,r9,qp,jq,UO,ab7,g6,An,Hr,heq,np,adL,w1,w2,w3,PC];exact⟨s.length-(i+1),om,i+1,om,rfl,by simp[wa],by simp[wa],sp⟩
    ·rw[az hc]at wa;have PC:((s[i].toNat:Int)==10)=false:=by
      rw[<-OB,aH];intro e;exact hc (eh (by simp;omega))
     simp[r0,r7,r9,qp,jq,UO,ab7,g6,An,Hr,heq,np,adL,w1,w2,w3,PC];exact⟨s.length-(i+1),om,i+1,om,rfl,by simp[wa],by simp[wa],sp⟩
  ·simp[An,Hr]
end
end Go.Proofs.YtgebeldoibkkpaaGreatDoor
