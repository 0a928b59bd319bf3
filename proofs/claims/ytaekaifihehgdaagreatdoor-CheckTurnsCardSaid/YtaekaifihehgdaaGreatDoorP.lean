/- Lemmas for CheckTurns; each states its own conditions. -/
import Derived.Test.YtaekaifihehgdaaGreatDoorO
set_option maxRecDepth 100000
set_option maxHeartbeats 0
set_option linter.unusedSimpArgs false
set_option linter.unusedVariables false
namespace Go.Proofs.YtaekaifihehgdaaGreatDoor
open Go.Am Tryz
section
def OA(N:List Nat)(h:ah)(a:Nat)(s:Sg)(f:Fn):Prop:=∃p b va e vs,h.get a=some (.C [.str s.nm,.str s.ty,p,b,va,.P e])/\jH N h p 1 s.ps.length (s.ps.map .str)/\jH N h b 1 s.pb.length (s.pb.map .bool)/\
 cQ N h va (vs.map λa=>(a,()))/\vs.length=f.vs.length/\(∀(k a:Nat)(v:Vr),vs[k]?=some a->f.vs[k]?=some v->a∉N/\h.get a=some (.C v.cs))/\vs.Nodup/\sO N vs h e f.body
theorem OA.move{N:cB}{h h':ah}{a:Nat}{s:Sg}{f:Fn}(m:Move N N h h')(e:h'.get a=h.get a)(x:OA N h a s f):OA N h' a s f:=by
 obtain⟨p,b,va,i,vs,g,a1,a2,a3,a4,a5,t,u⟩:=x;exact⟨p,b,va,i,vs,e.trans g,a1.move m,a2.move m,a3.move m,a4,λk a v j o=>⟨(a5 k a v j o).1,(m.aH _ _ (a5 k a v j o).2 (a5 k a v j o).1).1⟩,t,u.move m⟩
structure FI(A:PA)(S:Sc)(mn:Int)(fo:List Nat)(iP iX:AV)(fns:List Fn)(ov:Option Pl)(h:ah):Prop where
 fr:bP h
 xl:∀x∈A.r::fo,x<h.nx
 nd:(A.r::fo).Nodup
 r:∃f nm sa lp U1 v,h.get A.r=some (.C [.P A.o,.P A.tb,.map (some A.fm),.map (some A.gm),.map (some A.um),f,nm,sa,lp,U1,v])/\jI (A.r::fo) h v ov
 o:h.get A.o=some (.C [A.tr,iP,iX,.I mn])
 ox:A.o∉A.r::fo
 Cm:LY A (A.r::fo) h S
 fm:SX A (A.r::fo) h S
 gm:h.get A.gm=some (.map (eW (S.gs.map Gl.nm) 0))
 um:h.get A.um=some (.map (eW (S.fs.map Sg.nm) 0))
 mx:A.gm∉A.r::fo/\A.um∉A.r::fo
 ga:jH (A.r::fo) h iP 3 S.gs.length (vL S.gs)
 fa:jH (A.r::fo) h iX 1 S.fs.length (fo.map λa=> .P a)
 fl:fo.length=S.fs.length
 fs:∀(n a:Nat)(s:Sg),S.fs[n]?=some s->fo[n]?=some a->fns.length<=n->∃p b,h.get a=some (.C [.str s.nm,.str s.ty,p,b,.Z,.N])/\jH (A.r::fo) h p 1 s.ps.length (s.ps.map .str)/\jH (A.r::fo) h b 1 s.pb.length (s.pb.map .bool)
 dn:∀(n a:Nat)(s:Sg)(f:Fn),S.fs[n]?=some s->fo[n]?=some a->fns[n]?=some f->OA (A.r::fo) h a s f
def PA.cb(A:PA)(iP iX:AV)(mn:Int)(fo:List Nat)(n f:Nat)(p b:AV)(GS:Nat):CB:=⟨A.r,A.o,A.tr,iP,iX,mn,A.tb,A.nm,A.st,A.fm,A.gm,A.um,fo,n,f,p,b,GS⟩
section
variable{A:PA}{S:Sc}{mn:Int}{fo:cB}{iP iX:AV}{fns:List Fn}{ov:Option Pl}{h H:ah}{f:Nat}{s:Sg}
theorem FI.shape(F:FI A S mn fo iP iX fns ov h){n a:Nat}(i:fo[n]?=some a):∃s p b v w,S.fs[n]?=some s/\h.get a=some (.C [.str s.nm,.str s.ty,p,b,v,w])/\jH (A.r::fo) h p 1 s.ps.length (s.ps.map .str)/\jH (A.r::fo) h b 1 s.pb.length (s.pb.map .bool):=by
 have e:n<S.fs.length:=by
  rw[<-F.fl];rcases dJ n fo.length with e|e
  ·exact e
  ·rw[ej e]at i;cases i
 have j:=aj e;rcases dJ n fns.length with m|m
 ·obtain⟨p,b,va,o,vs,g,a1,a2,_⟩:=F.dn n a _ _ j i (aj m);exact⟨_,p,b,va,_,j,g,a1,a2⟩
 ·obtain⟨p,b,g,a1,a2⟩:=F.fs n a _ j i m;exact⟨_,p,b,_,_,j,g,a1,a2⟩
theorem FI.start(F:FI A S mn fo iP iX fns ov h)(ok:S.Ok)(B:fo[fns.length]?=some f)(D:S.fs[fns.length]?=some s){v:AV}(R:jI (A.r::fo) h v ov)
 (hn:H.nx=h.nx+1) (ho:∀i,i≠A.r->H.get i=(h.alloc (.map [])).2.get i) (gr:H.get A.r=some (.C [.P A.o,.P A.tb,.map (some A.fm),.map (some A.gm),.map (some A.um),.P f,.map (some h.nx),.Z,.I 0,.I 0,v])):
 ∃p b,Stat S (A.cb iP iX mn fo fns.length f p b h.nx) [A.r,f,h.nx] H/\cJ S (A.cb iP iX mn fo fns.length f p b h.nx) [A.r,f,h.nx] H [A.r,f,h.nx] ⟨[],.Z,.Z⟩ (Ee ov) H/\Move (A.r::fo) (A.r::fo) h H/\Move (A.r::fo) [A.r,f,h.nx] h H/\(∀a∈fo,H.get a=h.get a)/\jH (A.r::fo) h p 1 s.ps.length (s.ps.map .str)/\jH (A.r::fo) h b 1 s.pb.length (s.pb.map .bool):=by
 have nd:=F.nd;rw[fh]at nd;have m:=bg B;have lr:A.r<h.nx:=F.xl _ sp;have lf:f<h.nx:=F.xl _ (by simp[m]);have U:A.r≠f:=λe=>nd.1 (e▸m);have K:aJ h (h.alloc (.map [])).2:=kT;have m0:Move (A.r::fo) (A.r::fo) h H:=⟨λi o g hi=>⟨(ho i (λe=>hi (by simp[e]))).trans ((K.old i (aw F.fr g)).trans g),hi⟩⟩
 have m1:Move (A.r::fo) [A.r,f,h.nx] h H:=m0.to F.fr λy O=>by
  simp only[ak,bm,cT]at O⊢;rcases O with rfl|rfl|rfl
  ·exact .inl (.inl rfl)
  ·exact .inl (.inr m)
  ·exact .inr (ao _)
 have old:∀a∈fo,H.get a=h.get a:=λa w=>by
  rw[ho a (λe=>nd.1 (e▸w)),ah.cO,ay (by have:=F.xl a (by simp[w]);omega)]
 have gn:H.get h.nx=some (.map []):=by rw[ho _ om];simp
 have fr:bP H:=λj hj=>by
  rw[ho j om];exact K.fresh F.fr j IN
 obtain⟨p,b,V,ap,P⟩:=F.fs _ f s D B (ao _);have I:=(old f m).trans V;have J:∀(n a:Nat),fo[n]?=some a->n≠fns.length->a∉[A.r,f,h.nx]:=λn a w N=>by
  have hm:=bg w;have la:a<h.nx:=F.xl a (by simp[hm]);simp only[ak,bm,cT]
  rintro(e|e|e)
  ·exact nd.1 (e▸hm)
  ·subst e;obtain⟨t,e1⟩:=aV.1 w;obtain⟨C,e2⟩:=aV.1 B;exact N ((List.getElem_inj nd.2).1 (e1.trans e2.symm))
  ·omega
 have T:=F.Cm.move m1 om;have M:=F.fm.move m1;obtain⟨es,gm,fm⟩:=M.g;refine⟨p,b,⟨ok,T.Cm,⟨T.tx.1,T.tx.2.1,T.tx.2.2.1,T.tx.2.2.2⟩,(m1.aH _ _ F.o F.ox).1,(m1.aH _ _ F.o F.ox).2,F.ga.move m1,F.fl,F.fa.move m1,⟨es,gm,λs=>fm.find s 0⟩,(m1.aH _ _ F.gm F.mx.1).1,(m1.aH _ _ F.um F.mx.2).1,⟨M.x,(m1.aH _ _ F.gm F.mx.1).2,(m1.aH _ _ F.um F.mx.2).2⟩,λn s' a t C W=>?_,B,λs' t=>?_⟩,⟨Move.refl _ _,fr,?_,⟨v,gr,R.move m1⟩,⟨s,D,I⟩,gn,rfl,sp,sp,.inl ⟨rfl,rfl⟩,.inl ⟨rfl,rfl⟩,by simp[aT],⟨by simp[PA.cb],by simp[PA.cb],by simp[PA.cb],sp,by simp[aT],by simp[aT]⟩,⟨by simp[Ee],by simp[Ee],by simp[Ee],by simp[Ee],by simp[Ee]⟩⟩,m0,m1,old,ap,P⟩
 ·obtain⟨s2,Z,b2,v2,w2,u,g2,a2,a3⟩:=F.shape C;rw[t]at u;injection u with u;subst u;exact⟨J n a C W,Z,b2,v2,w2,(old a (bg C)).trans g2,a2.move m1,a3.move m1⟩
 ·have t:S.fs[fns.length]?=some s':=t;rw[D]at t;injection t with t;subst t;exact⟨ap.move m1,P.move m1⟩
 ·intro x Q;simp only[ak,bm,cT]at Q;rcases Q with rfl|rfl|rfl<;>omega
end
end
section
def Rh(h:ah)(z:Nat):Prop:=∃c,h.get z=some (.C c)/\c.length≠5/\c.length≠8/\c.length≠2/\∀a b n r,c≠ .str a:: .str b:: .I n::r
theorem cQ.out{α:Type}{X Z:cB}{h:ah}(a:∀z∈Z,Rh h z){av:AV}{qs:List (Nat×α)}(p:cQ X h av qs):cQ Z h av qs:=by
 rcases p with p|⟨b,e,_,g⟩
 ·exact .inl p
 ·refine .inr ⟨b,e,λi=>?_,g⟩;obtain⟨c,g2,_⟩:=a b i;rw[g]at g2;simp at g2
theorem jd.out{X Z vs:cB}{h:ah}(a:∀z∈Z,Rh h z){id:Nat}{t:TX}(e:jd X vs h id t):jd Z vs h id t:=by
 induction e with
 |mk obj nx i arr j sub m=>
  refine .mk obj (λo=>?_) i (arr.out a) j m;obtain⟨c,g,_,b,_⟩:=a _ o;rw[obj]at g;injection g with g;injection g with _ _ g;rw[<-g]at b;simp[Hd.cs]at b
theorem qB.out{X Z vs:cB}{h:ah}(a:∀z∈Z,Rh h z){v:AV}{o:Option TX}(e:qB X vs h v o):qB Z vs h v o:=by
 rcases e with e|⟨id,e,b,g,i⟩
 ·exact .inl e
 ·exact .inr ⟨id,e,b,g,i.out a⟩
theorem sO.out{X Z vs:cB}{h:ah}(a:∀z∈Z,Rh h z){id:Nat}{t:TS}(e:sO X vs h id t):sO Z vs h id t:=by
 induction e with
 |mk obj nx i ht he arr j sub m=>
  refine .mk obj (λo=>?_) i (ht.out a) (he.out a) (arr.out a) j m;obtain⟨c,g,b,_⟩:=a _ o;rw[obj]at g;injection g with g;injection g with _ _ g;rw[<-g]at b;simp at b
theorem jI.out{X Z:cB}{h:ah}(i:∀z∈Z,Rh h z){v:AV}{o:Option Pl}(e:jI X h v o):jI Z h v o:=by
 cases o with
 |none=>exact e
 |some p=>
  obtain⟨q,j,a,b⟩:=e;refine⟨q,j,λm=>?_,b⟩;obtain⟨c,g,_,_,a,_⟩:=i _ m;rw[b]at g;injection g with g;injection g with _ _ g;rw[<-g]at a;simp at a
section
variable{A:PA}{S:Sc}{mn:Int}{fo:cB}{iP iX:AV}{fns:List Fn}{ov:Option Pl}{h H h':ah}{f:Nat}{s:Sg}
theorem jH.slice{X:cB}{h:ah}{av:AV}{es n:Nat}{cs:eu}(a:jH X h av es n cs):∃g,av= .slice g n:=by
 rcases a with⟨e,_,e3⟩|⟨b,_,e,_⟩
 ·exact⟨none,by rw[e3,e]⟩
 ·exact⟨_,e⟩
theorem FI.finish(F:FI A S mn fo iP iX fns ov h)(hf:fo[fns.length]?=some f)(hs:S.fs[fns.length]?=some s){p b:AV}(mN:Move (A.r::fo) (A.r::fo) h H)(old:∀a∈fo,H.get a=h.get a)(ap:jH (A.r::fo) h p 1 s.ps.length (s.ps.map .str))(ab:jH (A.r::fo) h b 1 s.pb.length (s.pb.map .bool))(lH:h.nx<=H.nx)
 {X':cB} {V:CV} {d:Dn} (c:cJ S (A.cb iP iX mn fo fns.length f p b h.nx) [A.r,f,h.nx] H X' V d h') {B:Nat} {t:TS} (u:sO X' V.vs h' B t) (lh:H.nx<=h'.nx):
 FI A S mn fo iP iX (fns++[⟨d.vs,t⟩]) d.over (h'.set f (.C [.str s.nm,.str s.ty,p,b,V.va,.P B]))/\Move (A.r::fo) (A.r::fo) h (h'.set f (.C [.str s.nm,.str s.ty,p,b,V.va,.P B])):=by
 have nd:=F.nd;rw[fh]at nd;have P:=bg hf;have A1:A.r≠f:=λe=>nd.1 (e▸P);have Q:∀(n a:Nat),fo[n]?=some a->n≠fns.length->a≠f:=λn a N m e=>by
  subst e;obtain⟨J,e1⟩:=aV.1 N;obtain⟨y,e2⟩:=aV.1 hf;exact m ((List.getElem_inj nd.2).1 (e1.trans e2.symm))
 obtain⟨A2,gr,A3⟩:=c.c;have gr:h'.get A.r=_:=gr;obtain⟨s',D,gf⟩:=c.f;have D:S.fs[fns.length]?=some s':=D;rw[hs]at D;injection D with D;subst D;have gf:h'.get f=some (.C [.str s.nm,.str s.ty,p,b,V.va,.N]):=gf;have aH:∀i o,h.get i=some o->i≠A.r->i≠f->H.get i=some o->h'.get i=some o:=λi o g J y gH=>by
  refine(c.mv.aH i o gH λC=>?_).1;simp only[ak,bm,cT]at C;rcases C with C|C|C
  ·exact J C
  ·exact y C
  ·have:=aw F.fr g;omega
 have mh:Move (A.r::fo) (A.r::fo) h h':=⟨λi o g hi=>by
  simp only[ak,iS]at hi;exact⟨aH i o g hi.1 (λe=>hi.2 (e▸P)) (mN.aH i o g (U7 hi)).1,U7 hi⟩⟩
 have R:∀(n a:Nat)(o:dK),fo[n]?=some a->n≠fns.length->h.get a=some o->h'.get a=some o:=λn a o N m g=>
  aH a o g (λe=>nd.1 (e▸bg N)) (Q n a N m) ((old a (bg N)).trans g)
 have O:∀z∈A.r::fo,Rh h' z:=λz hz=>by
  have U:∀(s:Sg)(p b v w:AV)(n:Nat)(cs:eu),jH (A.r::fo) h p 1 n cs->h'.get z=some (.C [.str s.nm,.str s.ty,p,b,v,w])->Rh h' z:=λs p b v w n cs N g=>by
   obtain⟨ab,rfl⟩:=N.slice;exact⟨_,g,sp,sp,sp,sp⟩
  rcases ak.1 hz with rfl|hz
  ·exact⟨_,gr,by simp[CB.ob],by simp[CB.ob],by simp[CB.ob],by simp[CB.ob]⟩
  ·obtain⟨n,W,e⟩:=gh hz;have I:fo[n]?=some z:=(by rw[aj W,e]);by_cases m:n=fns.length
   ·subst m;rw[hf]at I;injection I with I;subst I;exact U _ _ _ _ _ _ _ ap gf
   ·obtain⟨s2,p2,b2,v2,w2,_,g2,a2,_⟩:=F.shape I;exact U _ _ _ _ _ _ _ a2 (R n z _ I m g2)
 have Z:Move (A.r::fo) (A.r::fo) h' (h'.set f (.C [.str s.nm,.str s.ty,p,b,V.va,.P B])):=Move.on _ (by simp[P]);have m2:=mh.comp Z;have set:∀i,i≠f->(h'.set f (.C [.str s.nm,.str s.ty,p,b,V.va,.P B])).get i=h'.get i:=λi hi=>by rw[ah.aM,ay hi]
 have nx:h.nx<=h'.nx:=om
 refine⟨⟨λj hj=>?_,λx C=>aq (F.xl x C) nx,F.nd,⟨_,_,_,_,_,A2,(set _ A1).trans gr,(A3.out O).move Z⟩,(m2.aH _ _ F.o F.ox).1,F.ox,F.Cm.move m2 nx,F.fm.move m2,(m2.aH _ _ F.gm F.mx.1).1,(m2.aH _ _ F.um F.mx.2).1,F.mx,F.ga.move m2,F.fa.move m2,F.fl,λn a s2 J y K=>?_,λn a s2 fn J y K=>?_⟩,m2⟩
 ·have hl:=c.xl _ c.own.f;have hl:f<h'.nx:=hl;rw[set j (by simp at hj;omega)];exact c.fr j hj
 ·simp only[aO,ai,aW]at K;have m:n≠fns.length:=by omega
  obtain⟨p2,b2,g2,a2,a3⟩:=F.fs n a s2 J y om;exact⟨p2,b2,(set _ (Q n a y m)).trans (R n a _ y m g2),a2.move m2,a3.move m2⟩
 ·by_cases m:n=fns.length
  ·subst m;rw[hf]at y;injection y with y;subst y;rw[hs]at J;injection J with J;subst J;simp at K;subst K;refine⟨p,b,V.va,B,V.vs,sp,ap.move m2,ab.move m2,(c.va.out O).move Z,c.vl,λk a v J y=>?_,c.nd,(u.out O).move Z⟩;have g:=c.vs k a v J y;have C:a∉A.r::fo:=λC=>by
    obtain⟨cc,g2,_,_,_,g3⟩:=O a C;rw[g]at g2;injection g2 with g2;injection g2 with _ _ g2;exact g3 _ _ _ _ (g2.symm.trans rfl)
   exact⟨C,(Z.aH _ _ g C).1⟩
  ·have K:fns[n]?=some fn:=by
    rcases dJ n fns.length with W|W
    ·rwa[cS W]at K
    ·rw[du W]at K;cases hk:n-fns.length with
     |zero=>omega
     |succ k=>rw[hk]at K;simp at K
   have x:=F.dn n a s2 fn J y K;have N:(h'.set f (.C [.str s.nm,.str s.ty,p,b,V.va,.P B])).get a=h.get a:=by
    obtain⟨_,_,_,_,_,g,_⟩:=x;rw[set _ (Q n a y m),R n a _ y m g,g]
   exact x.move m2 N
end
end
section
section
variable{A:PA}{S:Sc}{mn:Int}{fo:cB}{iP iX:AV}{fns:List Fn}{ov:Option Pl}{h H h':ah}{f id:Nat}{s:Sg}{p:Pl}{ty nm:bu}{ps:List Pm}{b:Sm}
def PF(A:PA)(S:Sc)(mn:Int)(fo:List Nat)(iP iX:AV)(fns:List Fn)(h:ah)(Q:Out->ah->Prop):Rs TS->Prop
 | .ok t d=>∀h',FI A S mn fo iP iX (fns++[⟨d.vs,t⟩]) d.over h'->Move (A.r::fo) (A.r::fo) h h'->h.nx<=h'.nx->Q (.ret (.iO [])) h'
 | .err p=>∀h',Move (A.r::fo) (A.r::fo) h h'->bP h'->Q (.jz (xX p)) h'
theorem Hs(F:FI A S mn fo iP iX fns ov h)(ok:S.Ok)(it:rO (A.r::fo) h id (.func p ty nm ps b))(al:(It.func p ty nm ps b).al PT)(wt:ps.length+b.nodes<=250)(hf:fo[fns.length]?=some f)(hs:S.fs[fns.length]?=some s)(C4:s.ty=ty)(Q:Out->ah->Prop)(O:PF A S mn fo iP iX fns h Q (Ou S ps ty b ov)):
 ba env 57 [.P A.r,.P id,.P f] h Q:=by
 refine wb fn57 rfl ?_;obtain⟨pv,C6,g0,D,R,C7⟩:=it;obtain⟨f0,C8,U,I,y,v,gr,hv⟩:=F.r;have lr:A.r<h.nx:=F.xl _ sp;have nr:A.r≠h.nx:=om
 have ni:id≠A.r:=λe=>D (by simp[e]);have C9:id≠h.nx:=by have:=aw F.fr g0;omega
 obtain⟨V,K⟩:∃ab,pv= .slice ab ps.length:=by
  rcases R with⟨e,_,e3⟩|⟨b,e,_⟩
  ·exact⟨none,by rw[e3,e]⟩
  ·exact⟨_,e⟩
 have W:=g0;rw[K]at W;simp[f57,gr,W,nr,ni,C9];obtain⟨H,Z⟩:∃H,H=(((((h.alloc (.map [])).2.set A.r (.C [.P A.o,.P A.tb,.map (some A.fm),.map (some A.gm),.map (some A.um),.P f,C8,U,I,y,v])).set A.r (.C [.P A.o,.P A.tb,.map (some A.fm),.map (some A.gm),.map (some A.um),.P f,.map (some h.nx),U,I,y,v])).set A.r (.C [.P A.o,.P A.tb,.map (some A.fm),.map (some A.gm),.map (some A.um),.P f,.map (some h.nx),.Z,I,y,v])).set A.r (.C [.P A.o,.P A.tb,.map (some A.fm),.map (some A.gm),.map (some A.um),.P f,.map (some h.nx),.Z,.I 0,y,v])).set A.r (.C [.P A.o,.P A.tb,.map (some A.fm),.map (some A.gm),.map (some A.um),.P f,.map (some h.nx),.Z,.I 0,.I 0,v]):=⟨_,rfl⟩
 rw[<-Z];have hn:H.nx=h.nx+1:=by rw[Z];simp
 obtain⟨pp,pb,hS,c0,mN,m1,old,ap,ab⟩:=F.start ok hf hs hv hn (λi hi=>by rw[Z];simp[hi]) (by rw[Z];simp);clear Z gr hv;have g1:=(m1.aH _ _ g0 D).1;have CL:=(m1.aH _ _ g0 D).2;have F0:=R.move m1;have F1:=C7.move m1;have F3:∀sg,S.fs[(A.cb iP iX mn fo fns.length f pp pb h.nx).n]?=some sg->sg.ty=ty:=λsg C=>by
  have C:S.fs[fns.length]?=some sg:=C;rw[hs]at C;injection C with e;rw[<-e];exact C4
 have A1:=al.2.2.2;have A2:=Oo hS F3 al.2.1 250 b om (ao _) A1;have hr:A.r=(A.cb iP iX mn fo fns.length f pp pb h.nx).r:=rfl;have hB:(A.cb iP iX mn fo fns.length f pp pb h.nx).f=f:=rfl;obtain⟨B,A3⟩:∃B,B=A.cb iP iX mn fo fns.length f pp pb h.nx:=⟨_,rfl⟩
 rw[<-A3]at hS c0 A2 hr hB;rw[hr];obtain⟨J,hJ⟩:∃J:Nat->St->Prop,J=(λm x=>∃(i:Nat)(d':Dn)(Y:cB)(V':CV),i<=ps.length/\m=ps.length-i/\x.n=52/\x.ds=[]/\x.bX=false/\cJ S B [A.r,f,h.nx] H Y V' d' x.h/\d'.vs.length<=i/\d'.bytes<=70000*d'.vs.length/\d'.loops=0/\H.nx<=x.h.nx/\
  Ou S ps ty b ov=((FR S (ps.drop i) d').bind λ_ d=>jk S ty b d)/\
  x.rg.get 0=some (.P B.r)/\x.rg.get 1=some (.P id)/\x.rg.get 2=some (.P f)/\x.rg.get 28=some (.slice V ps.length)/\x.rg.get 29=some (.I ps.length)/\x.rg.get 30=some (.I i)):=⟨_,rfl⟩
 refine bz J ps.length ?_ ?_
 ·rw[hJ];exact⟨0,Ee ov,_,_,bJ _,rfl,rfl,rfl,rfl,c0,by simp[Ee],by simp[Ee],rfl,ao _,rfl,sp,sp,sp,sp,sp,sp⟩
 clear c0;intro m x w;rw[hJ]at w;obtain⟨rg,n',G,ds,bX⟩:=x;obtain⟨i,d',Y,V',hi,rfl,e1,e2,e3,c,dl,db,dp,nG,heq,r0,r1,r2,rl,rn,ri⟩:=w;dsimp only at e1 e2 e3 c nG r0 r1 r2 rl rn ri;subst e1 e2 e3;have gid:=(c.mv.aH _ _ g1 CL).1;have A4:∀N,Move [A.r,f,h.nx] Y H N->Move (A.r::fo) (A.r::fo) h N:=λN m=>⟨λi o g hi=>by
  refine⟨(m.aH i o (mN.aH i o g hi).1 λw=>?_).1,hi⟩;simp only[ak,iS]at hi;simp only[ak,bm,cT]at w;rcases w with w|w|w
  ·exact hi.1 w
  ·exact hi.2 (w▸bg hf)
  ·have:=aw F.fr g;omega⟩
 by_cases a:i<ps.length
 ·have A5:(i:Int)<(ps.length:Int):=by omega
  have wi:=U8 i
  obtain⟨b0,rfl,F4,F5⟩:∃b,V=some (b,0)/\b∉[A.r,f,h.nx]/\H.get b=some (.D 5 (ps.flatMap Pm.cells)):=by
   rcases F0 with⟨e,_⟩|⟨b,e,hb,g⟩
   ·omega
   ·rw[e]at K;injection K with e _;exact⟨b,e.symm,hb,g⟩
  have F6:=(c.mv.aH _ _ F5 F4).1;have fa:=Hr ps i ps[i] (aj a);have fb:i*5+5<=(ps.flatMap Pm.cells).length:=by rw[Ef];omega
  have F7:ps.drop i=ps[i]::ps.drop (i+1):=bs a;have Au:=bk a;generalize ps[i]=q at*;generalize ps.flatMap Pm.cells=FF at*;simp only[Pm.cells]at fa;have C1:q.ty.length<=70000:=(al.2.2.1 q Au).2;simp[r0,rl,rn,ri,A5,F6,fa,fb];obtain⟨G5,C3⟩:∃G5,G5=((G.alloc (.C [.I 0,.I 0,.bool false,.str [],.str []])).2.set G.nx (.C [.I q.p.1,.I q.p.2,.bool q.AR,.str q.ty,.str q.nm])):=⟨_,rfl⟩
  rw[<-C3];have K5:aJ G G5:=by rw[C3];exact kT
  have C5:=c.aH K5;have n5:=K5.nx;rw[F7]at heq;simp only[FR]at heq;have P:=Ea ok c.ok db q.nm q.ty (by unfold dW;exact C1) true q.p;refine xM hS C5 q.nm q.ty true q.p C1 om db _ ?_;generalize JL S q.nm q.ty true q.p d'=z at heq P⊢;cases z with
  |err pp=>
   intro N m2 f2;rw[heq]at O;simp;exact O _ (A4 _ ((c.mv.comp (Move.k c.fr K5)).comp m2)) f2
  |ok k d2=>
   intro V2 Y2 v N gw FO C2 w2 M2;have P:DS d' d2 1:=P;have v1:=P.hi;have v2:=P.lp;have n2:=M2.nx;simp[ri,wi];refine⟨ps.length-(i+1),om,?_⟩;rw[hJ];exact⟨i+1,d2,Y2,V2,a,rfl,rfl,rfl,rfl,C2,om,P.st,om,by simp only;omega,heq,by simp[r0],by simp[r1],by simp[r2],by simp[rl],by simp[rn],sp⟩
 ·have FP:i=ps.length:=by omega
  subst FP;rw[dV]at heq;simp only[FR,Rs.fP]at heq;simp[r0,r1,r2,rn,ri,gid];refine A2 Y V' d' G C6 _ c F1 om db om om ?_;rw[heq]at O;generalize jk S ty b d'=z at O⊢;cases z with
  |err pp=>
   intro N m2 f2;simp;exact O _ (A4 _ (c.mv.comp m2)) f2
  |ok t d2=>
   intro V2 Y2 v N gw FO C2 w2 M2;obtain⟨bb,rfl,u⟩:=w2;have n2:=M2.nx;obtain⟨s2,j,gf⟩:=C2.f;rw[hB]at gf;simp[gf];subst A3;obtain⟨F2,m2⟩:=F.finish hf hs mN old ap ab om C2 u om;have j:S.fs[fns.length]?=some s2:=j;rw[hs]at j;injection j with e;subst e;exact O _ F2 m2 IN
end
end
section
def tX(l:List Pl):List AV:=l.flatMap λp=>[.I p.1,.I p.2]
theorem zA:∀l:List Pl,(tX l).length=l.length*2
 |[]=>rfl
 |p::ps=>by
  have:=zA ps;simp only[tX,dy,aO,ai,aW]at this⊢;omega
theorem FX:∀(l:List Pl)(i:Nat)(p:Pl),l[i]?=some p->List.take 2 (List.drop (i*2) (tX l))=[.I p.1,.I p.2]
 |[],i,p,h=>by simp at h
 |p::ps,0,q,h=>by
  simp only[cw,bj]at h;subst h;simp[tX]
 |p::ps,i+1,q,h=>by
  have:=FX ps i q (U7 h);rw[show(i+1)*2=i*2+1+1 by omega];simpa[tX]using this
def nS:List Sd->Nat
 |[]=>0
 |s::l=>(if s.fs=kJ then 0 else 1)+nS l
theorem L2:∀{l:List Sd}{i:Nat}{s s':Sd},l[i]?=some s->s.fs≠kJ->s'.fs=kJ->nS (l.set i s')<nS l
 |[],_,_,_,h,_,_=>by simp at h
 |x::l,0,s,s',h,a,b=>by
  simp only[cw,bj]at h;subst h;simp[nS,a,b]
 |x::l,i+1,s,s',h,a,b=>by
  have:=L2 (l:=l) (i:=i) (U7 h) a b;simp only[List.set_cons_succ,nS];omega
def PA.GU(A:PA)(t v:AV):List AV:=[.P A.o,t,.map (some A.fm),.map (some A.gm),.map (some A.um),.N,.map none,.Z,.I 0,.I 0,v]
def FY(l:List Sd):Prop:=∃N es i e,(∀k,k∈N↔∃s∈l,s.name=k)/\Ri N es l i e
section
variable{A:PA}{h:ah}{p:Option (Nat×Nat)}{l:List Sd}{pl:List Pl}{xY:AV}{Q:Out->ah->Prop}
theorem OB{t v:AV}{ov:Option Pl}(gr:h.get A.r=some (.C (A.GU t v)))(fr:bP h)(i:jI [A.r] h v ov)(q:Pl)(Q:Out->ah->Prop)(m:∀b v2 a,b.get A.r=some (.C (A.GU t v2))->jI [A.r] b v2 a->aR [A.r] h b->(ov=none/\a=some q\/ov≠none/\a=ov)->Q (.ret (.iO [])) b):
 ba env 74 [.P A.r,.bool false,.agg [.I q.1,.I q.2]] h Q:=by
 have o:=aw fr gr;obtain⟨g,rfl,f⟩:∃g,v= .ptr g/\(g=none↔ov=none):=by
  cases ov with
  |none=>exact⟨none,i,sp⟩
  |some q=>obtain⟨x,e,_⟩:=i;exact⟨_,e,sp⟩
 refine FN gr o false q Q (λj b k=>?_) λ_ u=>?_
 ·have j:g≠none:=by simpa using j
  exact m b _ ov ((k.old _ o).trans gr) (i.move (Move.k fr k)) (k.x _) (.inr ⟨λe=>j (f.2 e),rfl⟩)
 ·have ne:A.r≠h.nx:=by omega
  refine m _ (.P h.nx) (some q) (by simp[PA.GU]) ⟨h.nx,rfl,by simp[ne.symm],by simp[ne.symm]⟩ kX (.inl ⟨f.1 u,rfl⟩)
theorem JV(gr:h.get A.r=some (.C (A.GU (.N) (.N))))(fr:bP h)(ha:IQ h p l)(C3:jH [A.r] h xY 2 pl.length (tX pl))(hl:pl.length=l.length)
 (hQ:∀h' tb nm st N es l' v ov,aR [A.r] h h'->bP h'->h'.get A.r=some (.C (A.GU (.P tb) v))->jI [A.r] h' v ov->rC tb nm st h' N es->(∀k,k∈N↔∃s∈l,s.name=k)->kg N l' es->l'.map Sd.name=l.map Sd.name->(∀(i:Nat)(s:Sd),l'[i]?=some s->s.fs=kJ\/∃s0:Sd,l[i]?=some s0/\s.fs=s0.fs)->(ov=none/\l'=l\/(∃q∈pl,ov=some q)/\FY l)->h.nx<=tb/\h.nx<=nm/\h.nx<=st/\(∀e∈es,h.nx<=e.obj)->Q (.ret (.iO [])) h')
 (hE:∀h' q,q∈pl->FY l->aR [A.r] h h'->bP h'->Q (.jz (xX q)) h'):
 ba env 51 [.P A.r,.slice p l.length,xY] h Q:=by
 refine wb fn51 rfl ?_;have lr:=aw fr gr;simp[f51];obtain⟨J,hJ⟩:∃J:Nat->St->Prop,J=(λm x=>∃(l':List Sd)(p':Option (Nat×Nat))(v:AV)(ov:Option Pl),m=nS l'/\l'.map Sd.name=l.map Sd.name/\(∀(i:Nat)(s:Sd),l'[i]?=some s->s.fs=kJ\/∃s0:Sd,l[i]?=some s0/\s.fs=s0.fs)/\x.n=43/\x.ds=[]/\x.bX=false/\aR [A.r] h x.h/\IQ x.h p' l'/\x.h.get A.r=some (.C (A.GU (.N) v))/\jI [A.r] x.h v ov/\(ov=none/\l'=l\/(∃q∈pl,ov=some q)/\FY l)/\
  x.rg.get 0=some (.P A.r)/\x.rg.get 1=some (.slice p' l'.length)/\x.rg.get 2=some xY):=⟨_,rfl⟩
 refine bz J (nS l) ?_ ?_
 ·rw[hJ];exact⟨l,p,.N,none,rfl,rfl,λi s I=> .inr ⟨s,I,rfl⟩,rfl,rfl,rfl,aR.refl _ _,ha,gr,rfl,.inl ⟨rfl,rfl⟩,sp,sp,sp⟩
 intro m x g;rw[hJ]at g;obtain⟨rg,n',G,ds,bX⟩:=x;obtain⟨l',p',v,ov,rfl,B,A1,e1,e2,e3,kG,K,gG,vG,U,r0,r1,r2⟩:=g;dsimp only at e1 e2 e3 kG K gG vG r0 r1 r2;subst e1 e2 e3;have fG:=kG.fresh fr;have FF:l'.length=l.length:=by have:=nt List.length B;simpa using this
 simp[r1];refine(Rj G p' l' K fG).mono λout G2 hq=>?_;obtain⟨ho,k2⟩:=hq;have V:A.r<G.nx:=aq lr kG.nx;have g2:=(k2.old _ V).trans gG;have f2:=k2.fresh fG;have v2:=vG.move (Move.k fG k2);have K2:aR [A.r] h G2:=kG.trans (k2.x _);have D:∀k,(∃s∈l',s.name=k)↔∃s∈l,s.name=k:=λk=>by
  have h1:k∈l'.map Sd.name↔k∈l.map Sd.name:=by rw[B]
  simpa using h1
 rcases ho with⟨i,e,N,es,rfl,hN,hB⟩|⟨tb,nm,st,N,es,rfl,T,hN,hB,b1,b2,b3,b4⟩
 ·have A2:FY l:=by
   rcases U with⟨_,e1⟩|⟨_,h⟩
   ·subst e1;exact⟨N,es,i,e,hN,hB⟩
   ·exact h
  obtain⟨s,I,FO,C⟩:=hB;have hi:i<l'.length:=by
   rcases dJ i l'.length with h|h
   ·exact h
   ·rw[ej h]at I;cases I
  have A3:i<pl.length:=by omega
  obtain⟨b0,FQ,rfl,C4,A4⟩:∃b C5,xY= .S b pl.length/\b∉[A.r]/\h.get b=some (.cells C5 2 (tX pl)):=by
   rcases C3 with⟨e,_⟩|h
   ·omega
   ·exact h
  have W:=(K2.old _ (aw fr A4) C4).trans A4;have fa:=FX pl i pl[i] (aj A3);have fb:i*2+2<=(tX pl).length:=by rw[zA];omega
  have O:=bk A3;generalize pl[i]=q at*;have A5:e=5\/e=2:=by
   rcases C with⟨h,_⟩|⟨_,_,_,h⟩
   ·exact .inl h
   ·exact JS h
  have e0:(e==0)=false:=by rcases A5 with rfl|rfl<;>rfl
  have P:(i:Int)<(pl.length:Int):=by omega
  generalize tX pl=FP at*;have C6:=g2;simp only[PA.GU]at C6;simp[r0,r2,e0,W,fa,fb,P];refine fI q _ _ _ _ (λh3 e3 k3=>?_) λh3 e3 k3=>?_
  ·simp;exact hE _ q O A2 (K2.trans (k3.x _)) (k3.fresh f2)
  ·obtain rfl:e=2:=(by rcases A5 with rfl|rfl;cases e3;rfl);have C7:s.fs≠kJ:=by
    rcases C with⟨h,_⟩|⟨_,_,_,h⟩
    ·cases h
    ·intro e;obtain⟨ps,sz,al,e2⟩:=Hp N es;rw[e,e2]at h;cases h
   have C8:=(k3.old _ (aw f2 W)).trans W;have g3:=(k3.old _ (aq V k2.nx)).trans g2;have f3:=k3.fresh f2;simp[r0,r2,C8,fa,fb,P];refine OB g3 f3 (v2.move (Move.k f2 k3)) q _ λh4 v4 C9 g4 w4 k4 R=>?_;have K4:aR [A.r] G h4:=((k2.trans k3).x _).trans k4;have f4:=k4.fresh f3;have F:l'≠[]:=λe=>by rw[e]at hi;simp at hi
   obtain⟨a,rwa,G3,rfl,ga,la⟩:=K.a F;have CL:a≠A.r:=λe=>by
    rw[e,gG]at ga;injection ga with ga;injection ga with _ _ ga;cases l' with
    |nil=>exact F rfl
    |cons x y=>simp[PA.GU,jL]at ga
   have F0:=(K4.old a la (U7 CL)).trans ga;simp[r1];refine(Oq F0 (aq la K4.nx) K.n F).mono λout Z hq=>?_;obtain⟨o,rfl,go,no,lo,k5⟩:=hq;have Au:o≠Z.nx:=om;have F1:(i:Int)<(l'.length:Int):=om;have fS:=CU l' i s ⟨s.name,kJ,some (Z.nx,0)⟩ I rfl;have F7:=lx l';have F2:i*2+1+1<=(jL l').length:=om;generalize G4:jL l'=FW at*;simp[go,F1,Au,F2];obtain⟨s',w⟩:∃s',s'=(⟨s.name,kJ,some (Z.nx,0)⟩:Sd):=⟨_,rfl⟩
   have hlen:(l'.set i s').length=l'.length:=List.length_set;have F3:FW.take (i*2+1)++ .S Z.nx 1::FW.drop (i*2+2)=jL (l'.set i s'):=by
    rw[w,fS,List.set_eq_take_append_cons_drop,aY om];rfl
   have K5:aR [A.r] h4 ((Z.alloc (.D 2 [.str [115,109,97,108,108],.str [99,104,97,114]])).2.set o (.D 2 (jL (l'.set i s')))):=by
    refine aR.set _ (aR.alloc _ (k5.x _)) (.inr no) ?_;simp;omega
   have kx:=K4.trans K5;have F4:A.r<h4.nx:=aq V K4.nx;have F5:o≠A.r:=om;have g6:((Z.alloc (.D 2 [.str [115,109,97,108,108],.str [99,104,97,114]])).2.set o (.D 2 (jL (l'.set i s')))).get A.r=some (.C (A.GU (.N) v4)):=by
    rw[ah.aM,ay (iV F5),ah.cO,ay (by have:=k5.nx;omega),k5.old _ F4];exact g4
   refine⟨nS (l'.set i s'),L2 I C7 (by rw[w]),?_⟩;rw[F3,hJ];refine⟨l'.set i s',some (o,0),v4,C9,rfl,?_,λj sj S=>?_,rfl,rfl,rfl,kG.trans kx,⟨λ_=>⟨o,true,2,rfl,sp,IN⟩,λx g C1=>?_,λx g=>?_,by rw[hlen];exact K.n,λe=>?_⟩,g6,?_,?_,by simp[r0],sp,by simp[r2]⟩
   ·rw[List.map_set,B,<-B];apply List.ext_getElem?;intro j;rw[List.getElem?_set];by_cases e:i=j
    ·subst e;obtain⟨h1,u⟩:=aV.1 I;simp[hi,u,w]
    ·simp[e]
   ·rw[List.getElem?_set]at S;by_cases e:i=j
    ·subst e;simp[hi]at S;exact .inl (by rw[<-S,w])
    ·simp[e]at S;exact A1 j sj S
   ·rcases List.mem_or_eq_of_mem_set g with g|g
    ·obtain⟨y,ry,ey,h1,u,h3⟩:=K.f x g C1;have ny:y≠A.r:=λe=>by
      rw[e,gG]at u;injection u with u;injection u with _ _ u;cases C2:x.fs with
      |nil=>exact C1 C2
      |cons a b=>rw[C2]at u;simp[PA.GU,oC]at u
     exact⟨y,ry,ey,h1,(kx.old y h3 (U7 ny)).trans u,aq h3 kx.nx⟩
    ·rw[g,w];refine⟨Z.nx,true,2,rfl,?_,sp⟩;rw[ah.aM,ay (iV Au)];simp[oC,kJ]
   ·rcases List.mem_or_eq_of_mem_set g with g|g
    ·exact K.len x g
    ·rw[g,w];have:=(K.len s (bg I)).1;exact⟨this,by simp[kJ],by simp[kJ]⟩
   ·have:=nt List.length e;rw[hlen]at this;exact absurd (cI this) F
   ·exact w4.move ((Move.of f4 K5 (λz hz _=>U7 hz) λ_ hy=> .inl hy))
   ·refine .inr ⟨?_,A2⟩;rcases U with⟨e,_⟩|⟨⟨q2,h1,u⟩,_⟩
    ·rcases R with⟨_,h⟩|⟨h,_⟩
     ·exact⟨q,O,h⟩
     ·exact absurd e h
    ·rcases R with⟨h,_⟩|⟨_,h⟩
     ·rw[h]at u;cases u
     ·exact⟨q2,h1,by rw[h,u]⟩
 ·simp only[PA.GU]at g2;have G5:=kG.nx;have F6:tb≠A.r:=by omega
  simp[r0,g2];refine hQ _ tb nm st N es l' v ov (aR.set _ K2 (.inl sp) (by have:=k2.nx;omega)) (λj S=>?_) (by simp[PA.GU]) (v2.move (Move.on _ sp)) ?_ (λk=>(hN k).trans (D k)) hB B A1 U ⟨om,om,om,λe he=>by have:=b4 e he;omega⟩
  ·rw[ah.aM,ay (by have:=k2.nx;simp at S;omega)];exact f2 j (U7 S)
  ·exact⟨by simp[F6,T.t],by rw[ah.aM,ay om];exact T.n,by rw[ah.aM,ay om];exact T.s,λe he=>by rw[ah.aM,ay (by have:=b4 e he;omega)];exact T.o e he,T.lt,T.ln,T.ls,T.lo,T.ne⟩
end
end
section
section
variable{X:cB}{h:ah}
def OC:List (List UInt8)->Nat->Option Nat
 |[],_=>none
 |t::l,i=>if tP t=true then OC l (i+1)else some i
theorem IS:∀(l:List (bu))(i:Nat),l.all tP=(OC l i).isNone
 |[],i=>rfl
 |t::l,i=>by
  have:=IS l (i+1);cases ht:tP t<;>simp[OC,ht,this]
theorem OD(t:bu)(Q:Out->ah->Prop)(b:∀a,aJ h a->Q (.ret (.bool (!tP t))) a):ba env 55 [.str t] h Q:=by
 refine wb fn55 rfl ?_;simp[f55];refine(jY _ t).m1 λa e=>?_;subst e;simp;exact b _ (aJ.refl _)
theorem Ht{av:AV}{l:List (bu)}(ar:jH X h av 1 l.length (l.map .str))(fr:bP h)(C:l.length<=300)(Q:Out->ah->Prop)(y:∀p,aJ h p->Q (.ret (.I (match OC l 0 with|some i=>(i:Int)|none=>-1))) p):
 ba env 79 [av,.func 55 []] h Q:=by
 refine wb fn79 rfl ?_;obtain⟨D,j⟩:=ar.slice;simp[f79,j];refine bz (λm x=>∃i,i<=l.length/\m=l.length-i/\OC (l.drop i) i=OC l 0/\x.n=19/\x.ds=[]/\x.bX=false/\aJ h x.h/\x.rg.get 0=some av/\x.rg.get 1=some (.func 55 [])/\x.rg.get 7=some (.I l.length)/\x.rg.get 8=some (.I i)) l.length ?_ ?_
 ·exact⟨0,om,rfl,rfl,rfl,rfl,rfl,aJ.refl _,by simp[j],sp,sp,sp⟩
 rintro m ⟨rg,n,H,ds,bX⟩ ⟨i,hi,rfl,a,e1,e2,e3,k,r0,u,r7,r8⟩
 dsimp only at e1 e2 e3 k r0 u r7 r8;subst e1 e2 e3;by_cases g:i<l.length
 ·obtain⟨b,A,e,_,gb⟩:=ar.resolve_left λe=>by omega
  rw[e]at r0;have v:=(k.old _ (aw fr gb)).trans gb;have fa:(l.map AV.str)[i]?=some (.str l[i]):=by simp[g]
  have o:(i:Int)<(l.length:Int):=by omega
  have B:=U8 i
  rw[bs g,OC]at a;generalize l[i]=t at*;generalize l.map AV.str=F at*;simp[r0,u,r7,r8,o,v,fa];refine OD t _ λp k2=>?_;cases ht:tP t with
  |false=>
   rw[ht,ay sp]at a;have:=y _ (k.trans k2);rw[<-a]at this;simp;exact this
  |true=>
   rw[ht,aY rfl]at a;simp[r0,u,r7,r8,B];exact⟨_,om,i+1,g,rfl,a,k.trans k2,e.symm,om⟩
 ·have w:i=l.length:=by omega
  subst w;rw[dV,OC]at a;have:=y _ k;rw[<-a]at this;simp[r7,r8];exact this
theorem JW{av:AV}{l:List (bu)}(ar:jH X h av 1 l.length (l.map .str))(fr:bP h)(g:l.length<=300)(Q:Out->ah->Prop)(j:∀a,aJ h a->Q (.ret (.bool (!l.all tP))) a):
 ba env 54 [av,.func 55 []] h Q:=by
 refine wb fn54 rfl ?_;simp[f54];refine Ht ar fr g _ λa k2=>?_;have:=j _ k2;rw[IS l 0]at this;cases b:OC l 0 with
 |none=>rw[b]at this;simpa using this
 |some i=>
  rw[b]at this;have e:decide ((0:Int)<=(i:Int))=true:=by simp
  simpa[e]using this
end
end
section
def fK:List It->List (Pl×List UInt8×List Fd)
 |[]=>[]
 | .struct p nm fs::r=>(p,nm,fs)::fK r
 | .global _ _ _::r=>fK r
 | .func _ _ _ _ _::r=>fK r
theorem jM:∀(a b:nj),fK (a++b)=fK a++fK b
 |[],b=>rfl
 | .struct p nm fs::r,b=>by simp[fK,jM r b]
 | .global _ _ _::r,b=>by simp[fK,jM r b]
 | .func _ _ _ _ _::r,b=>by simp[fK,jM r b]
def sq(l:List (Pl×List UInt8×List Fd)):List (List UInt8×List Fd):=l.foldl (λm x=>sd x.2.1 x.2.2 m) []
def Fd.fl(f:Fd):zw:=(f.nm,f.ty)
def zB(x:Pl×List UInt8×List Fd):List UInt8×List zw:=(x.2.1,x.2.2.map Fd.fl)
theorem CX{st e:TypeId}{a es:Nat}{z:eu}(hu:env.nv st=some (.slice e))(u:env.siz e=some (es+1))(v:env.byt e=some a)(f:a<=100)(w:env.zer e=some z)(m:z.length=es+1){h:ah}{j:Nat}{av:AV}{n:Nat}{cs:eu}(arr:cu [] h av (es+1) n cs)(y:cs.length=n*(es+1))(A:n<=300)
 (ec:eu) (o:ec.length=es+1) (p:ec.all AV.scalar=true) (fr:bP h) (B:h.get j=none) (D:j<h.nx):
 ∃H,aK env (h.set j (.D (es+1) ec)) st av (.S j 1)=some (.S h.nx (n+1),H)/\H.nx=h.nx+1/\H.get h.nx=some (.D (es+1) (cs++ec))/\aR (j::aT av) h H:=by
 have mv:Move [] [] h (h.set j (.D (es+1) ec)):=Move.new _ B;have b:bP (h.set j (.D (es+1) ec)):=λi hi=>by rw[ah.aM,ay (by simp at hi;omega)];exact fr i hi
 obtain⟨H,C,nx,g,kx⟩:=oW hu u v f w m (arr.move mv) y A j ec o p sp b;refine⟨H,U7 C,U7 nx,U7 g,by simp at nx;omega,λi hi t=>?_,λ_=>kx.fresh b⟩;simp only[ak,iS]at t;rw[kx.old i (U7 hi) t.2,ah.aM,ay t.1]
structure SL(n0:Nat)(h:ah)(l:List Sd)(lv xY:AV)(pl:List Pl):Prop where
 la:cu [] h lv 2 l.length (jL l)
 aa:cu [] h xY 2 pl.length (tX pl)
 ln:∀y∈aT lv,n0<=y/\y∉aT xY
 an:∀y∈aT xY,n0<=y
 f:∀s∈l,s.fs≠[]->∃o,s.q=some (o,0)/\h.get o=some (.D 2 (oC s.fs))/\n0<=o/\o∉aT lv/\o∉aT xY
theorem cu.lt{X:cB}{h:ah}{av:AV}{es n:Nat}{cs:eu}(a:cu X h av es n cs)(f:bP h):∀y∈aT av,y<h.nx/\h.get y=some (.D es cs):=by
 intro y i;rcases a with⟨_,_,e⟩|⟨b,e,_,g⟩
 ·rw[e]at i;cases i
 ·rw[e]at i;simp[aT]at i;subst i;exact⟨aw f g,g⟩
section
variable{n0:Nat}{h h':ah}{l:List Sd}{lv xY:AV}{pl:List Pl}
theorem SL.mv(s:SL n0 h l lv xY pl)(f:bP h){Z:cB}(k:aR Z h h')(u:∀z∈Z,z<n0):SL n0 h' l lv xY pl:=by
 have m:∀y,n0<=y->y∉Z:=λy i j=>by have:=u y j;omega
 have ar:∀{av:AV}{n:Nat}{cs:eu},cu [] h av 2 n cs->(∀y∈aT av,n0<=y)->cu [] h' av 2 n cs:=λ{av n cs} a i=>by
  rcases a with e|⟨b,e,v,g⟩
  ·exact .inl e
  ·exact .inr ⟨b,e,v,(k.old b (aw f g) (m b (i b (by rw[e];simp[aT])))).trans g⟩
 exact⟨ar s.la λy i=>(s.ln y i).1,ar s.aa s.an,s.ln,s.an,λx j h0=>by
  obtain⟨o,w,p,t,A⟩:=s.f x j h0;exact⟨o,w,(k.old o (aw f p) (m o t)).trans p,t,A⟩⟩
theorem SL.push(s:SL n0 h l lv xY pl)(f:bP h)(S:n0<=h.nx)(U:l.length<=300)(D:pl.length<=300)(m:Sd)(V:m.fs≠[]->∃o,m.q=some (o,0)/\h.get o=some (.D 2 (oC m.fs))/\n0<=o/\o∉aT lv/\o∉aT xY)(p:Pl){k j j2:Nat}(W:j<k)(Z:j2<k)(jj:j≠j2):
 ∃t H,aK env ((h.bump k).set (h.nx+j) (.D 2 [.str m.name,.slice m.q m.fs.length])) 127 lv (.S (h.nx+j) 1)=some (.S (h.nx+k) (l.length+1),t)/\aK env (t.set (h.nx+j2) (.D 2 [.I p.1,.I p.2])) 128 xY (.S (h.nx+j2) 1)=some (.S (h.nx+k+1) (pl.length+1),H)/\
  aR ((h.nx+j)::aT lv) (h.bump k) t/\t.get (h.nx+j2)=none/\aR (aT lv++aT xY) h H/\H.nx=h.nx+k+2/\SL n0 H (l++[m]) (.S (h.nx+k) (l.length+1)) (.S (h.nx+k+1) (pl.length+1)) (pl++[p]):=by
 have u:bP (h.bump k):=λi hi=>f i (by simp at hi;omega);have K:=(aJ.refl h).bump k;obtain⟨t,O,P,g8,A⟩:=CX (es:=1) (st:=127) (e:=136) rfl ty136.1 ty136.2.1 dc ty136.2.2.2 rfl (h:=h.bump k) (j:=h.nx+j) (s.la.move (Move.k f K)) (lx l) U [.str m.name,.slice m.q m.fs.length] rfl sp u (f _ om) IN;have nl:=s.la.lt f;have na:=s.aa.lt f;simp only[ah.jF]at O P g8;have f8:=A.fresh u;have Q:∀i,i<h.nx->i∉aT lv->t.get i=h.get i:=λi hi a=>A.old i IN (by simp only[ak,iS];exact⟨om,a⟩);have v:t.get (h.nx+j2)=none:=by
  rw[A.old _ IN (by simp only[ak,iS];exact⟨om,λa=>by have:=(nl _ a).1;omega⟩)];exact f _ om
 have F:cu [] t xY 2 pl.length (tX pl):=by
  rcases s.aa with e|⟨b,e,hb,g⟩
  ·exact .inl e
  ·have I:b∈aT xY:=(by rw[e];simp[aT]);exact .inr ⟨b,e,hb,(Q b (aw f g) λa=>(s.ln b a).2 I).trans g⟩
 obtain⟨H,a9,n9,g9,J⟩:=CX (es:=1) (st:=128) (e:=26) rfl ty26.1 ty26.2.1 dc ty26.2.2.2 rfl (h:=t) (j:=h.nx+j2) F (zA pl) D [.I p.1,.I p.2] rfl sp f8 v om;rw[P]at a9 g9 n9;have R:∀i,i<h.nx->i∉aT lv->i∉aT xY->H.get i=h.get i:=λi hi N B=>(J.old i om (by simp only[ak,iS];exact⟨om,B⟩)).trans (Q i hi N);refine⟨t,H,O,a9,A,v,⟨om,λi hi a=>by simp only[aP,iS]at a;exact R i hi a.1 a.2,λ_=>J.fresh f8⟩,om,⟨?_,?_,?_,?_,λx a w=>?_⟩⟩
 ·refine .inr ⟨h.nx+k,sp,sp,?_⟩;rw[J.old _ om (by simp only[ak,iS];exact⟨om,λa=>by have:=(na _ a).1;omega⟩),g8];simp[jL]
 ·refine .inr ⟨h.nx+k+1,sp,sp,?_⟩;rw[g9];simp[tX]
 ·intro y C;simp only[aT,aQ]at C⊢;subst C;exact⟨om,om⟩
 ·intro y C;simp only[aT,aQ]at C;omega
 ·have key:∃o,x.q=some (o,0)/\h.get o=some (.D 2 (oC x.fs))/\n0<=o/\o∉aT lv/\o∉aT xY:=by
   rcases aP.1 a with a|a
   ·exact s.f x a w
   ·simp only[aQ]at a;subst a;exact V w
  obtain⟨o,N,B,h3,h4,h5⟩:=key;have ol:=aw f B;exact⟨o,N,(R o ol h4 h5).trans B,h3,by simp[aT];omega,by simp[aT];omega⟩
theorem SL.arg{p:Option (Nat×Nat)}(s:SL n0 h l (.slice p l.length) xY pl)(f:bP h)(i:l.length<=300)(j:l=[]->p=none)(hlen:∀s∈l,s.name.length<=1000000/\s.fs.length<=300/\∀f∈s.fs,f.1.length<=1000000/\f.2.length<=1000000):IQ h p l:=by
 refine⟨λh0=>?_,λx m h0=>?_,hlen,i,j⟩
 ·rcases s.la with⟨e,_⟩|⟨b,e,_,g⟩
  ·exact absurd (cI e) h0
  ·injection e with e _;exact⟨b,true,2,e,g,aw f g⟩
 ·obtain⟨o,t,a,_⟩:=s.f x m h0;exact⟨o,true,2,t,a,aw f a⟩
end
end
theorem Hu{N:List (bu)}{es:List jV}{s s':JY}{f:zw}(h:il N es s f=some s'):∀q∈s'.ps,q∈s.ps\/q.type=f.2:=by
 unfold il at h;split at h
 ·cases h
 ·split at h
  ·split at h
   ·cases h
   ·split at h
    ·injection h with h;subst h;exact λq a=> .inl a
    ·injection h with h;subst h;intro q a;rcases aP.1 a with a|a
     ·exact .inl a
     ·simp only[aQ]at a;subst a;exact .inr rfl
  ·cases h
theorem FZ{N:List (bu)}{es:List jV}:∀{fs:List zw}{s s':JY},mR N es fs s=some s'->∀q∈s'.ps,q∈s.ps\/∃f∈fs,q.type=f.2
 |[],s,s',h,q,b=>by
  simp only[mR]at h;injection h with h;subst h;exact .inl b
 |f::fs,s,s',h,q,b=>by
  simp only[mR]at h;cases e:il N es s f with
  |none=>rw[e]at h;cases h
  |some s1=>
   rw[e]at h;rcases FZ h q b with a|⟨g,a,i⟩
   ·rcases Hu e q a with a|a
    ·exact .inl a
    ·exact .inr ⟨f,sp,a⟩
   ·exact .inr ⟨g,by simp[a],i⟩
theorem OF{N:List (bu)}{es:List jV}{fs:List zw}{ps:List Aj}{size align:Int}(h:rN N es fs= .Ed ps size align):∀q∈ps,∃f∈fs,q.type=f.2:=by
 unfold rN at h;split at h
 ·cases h
 ·rename_i s a;split at h
  ·cases h
  ·injection h with b g i;subst b;intro q e;rcases FZ a q e with h|h
   ·simp[BN]at h
   ·exact h
theorem kg.gM{N:List (bu)}{l:List Sd}{es:List jV}(h:kg N l es):∀e∈es,∃s∈l,e.ps.length=s.fs.length/\e.ps≠[]/\∀q∈e.ps,∃f∈s.fs,q.type=f.2:=by
 induction h with
 |nil=>simp
 |@snoc l es s obj ps size align h o b p g i=>
  intro e he;rcases aP.1 he with he|he
  ·obtain⟨s,j,m⟩:=i e he;exact⟨s,eJ _ j,m⟩
  ·simp only[aQ]at he;subst he;have a:=(zD h.fits b g).1;refine⟨s,sp,a,λe=>?_,OF g⟩;have e:ps=[]:=e;rw[e]at a;exact b (cI a.symm)
theorem CY(k:bu)(e:jV):∀es:List jV,ij k (es++[e])=match ij k es with|some x=>some x|none=>if e.name=k then some e else none
 |[]=>by simp[ij]
 |x::es=>by
  by_cases a:x.name=k
  ·simp[ij,a]
  ·simp[ij,a,CY k e es]
theorem kg.find{N:List (bu)}{l:List Sd}{es:List jV}(h:kg N l es):∀s∈l,∃e,ij s.name es=some e:=by
 induction h with
 |nil=>simp
 |@snoc l es s obj ps size align h b g i j f=>
  intro s' a;rw[CY];rcases aP.1 a with a|a
  ·obtain⟨e,he⟩:=f s' a;exact⟨e,by rw[he]⟩
  ·simp only[aQ]at a;subst a;exact⟨⟨s'.name,obj,ps,size,align⟩,by rw[b];simp⟩
theorem CZ{s:bu}{fl:List Fd}{x:bu×List Fd}:∀{l:List (bu×List Fd)},x∈sd s fl l->x=(s,fl)\/x∈l
 |[],h=> .inl (by simpa[sd]using h)
 |y::l,h=>by
  unfold sd at h;split at h
  ·rcases ak.1 h with h|h
   ·exact .inl h
   ·exact .inr (au _ h)
  ·rcases ak.1 h with h|h
   ·exact .inr (by simp[h])
   ·rcases CZ h with h|h
    ·exact .inl h
    ·exact .inr (au _ h)
theorem Da{l:List (Pl×bu×List Fd)}{x:bu×List Fd}(h:x∈sq l):∃y∈l,x=y.2:=by
 have key:∀(l:List (Pl×bu×List Fd))(m:List (bu×List Fd)),x∈l.foldl (λm x=>sd x.2.1 x.2.2 m) m->x∈m\/∃y∈l,x=y.2:=λl=>by
  induction l with
  |nil=>exact λm h=> .inl h
  |cons a l b=>
   intro m h;rcases b _ h with h|⟨y,e,f⟩
   ·rcases CZ h with h|h
    ·exact .inr ⟨a,sp,h⟩
    ·exact .inl h
   ·exact .inr ⟨y,by simp[e],f⟩
 rcases key l [] h with h|h
 ·cases h
 ·exact h
theorem vV{x:Pl×bu×List Fd}:∀{z:nj},x∈fK z-> .struct x.1 x.2.1 x.2.2∈z
 |[],h=>by cases h
 | .struct p nm fs::z,h=>by
  simp only[fK,ak]at h;rcases h with rfl|h
  ·simp
  ·exact au _ (vV h)
 | .global _ _ _::z,h=>au _ (vV (z:=z) h)
 | .func _ _ _ _ _::z,h=>au _ (vV (z:=z) h)
theorem vU:∀z:nj,(fK z).length<=z.length
 |[]=>by simp[fK]
 | .struct _ _ _::z=>by have:=vU z;simp[fK];omega
 | .global _ _ _::z=>by have:=vU z;simp[fK];omega
 | .func _ _ _ _ _::z=>by have:=vU z;simp[fK];omega
theorem yB:∀l:nj,(AD l).length<=l.length
 |[]=>by simp[AD]
 | .struct _ _ _::r=>by have:=yB r;simp[AD];omega
 | .global _ _ _::r=>by have:=yB r;simp[AD];omega
 | .func _ _ _ _ _::r=>by have:=yB r;simp[AD];omega
theorem Ud{cD:nj}{S:Sc}{N:List (bu)}{es:List jV}{l l':List Sd}(al:∀i∈cD,i.al PT)(wt:IL cD<=250)(w:l.map (λs=>(s.name,s.fs))=(fK cD).map zB)(t:kg N l' es)(B:l'.map Sd.name=l.map Sd.name)(m:∀(i:Nat)(s:Sd),l'[i]?=some s->s.fs=kJ\/∃o:Sd,l[i]?=some o/\s.fs=o.fs)
 (a:FV ⟨N,es,sq (fK cD),[],[]⟩ S cD):S.Ok:=by
 have item:∀x∈fK cD,x.2.2.length<=300/\∀f∈x.2.2,f.ty.length<=dW:=λx b=>by
  have hm:=vV b;have a1:=al _ hm;have a2:=rZ hm;simp only[It.wt]at a2;exact⟨om,λf m=>(a1.2.2 f m).1⟩
 have A:∀s∈l',s.fs.length<=300/\∀f∈s.fs,f.2.length<=dW:=λs C=>by
  obtain⟨i,hi,e⟩:=gh C;rcases m i s (by rw[aj hi,e])with h|⟨o,j,p⟩
  ·rw[h];exact⟨by simp[kJ],by simp[kJ,dW]⟩
  ·have hm:(o.name,o.fs)∈(fK cD).map zB:=(by rw[<-w];exact wQ (bg j));obtain⟨x,b,e⟩:=pI.1 hm;obtain⟨D,F⟩:=item x b;injection e with e1 e2;rw[p,<-e2];refine⟨U7 D,λf m=>?_⟩;obtain⟨I,u,rfl⟩:=pI.1 m;exact F I u
 have hlen:cD.length<=250:=bh (AQ cD) wt;refine⟨by rw[a.es];exact t.fits,λe he=>?_,λx b=>?_,λx b=>?_,⟨?_,a.ok.g⟩,⟨?_,a.ok.f⟩⟩
 ·rw[a.es]at he;obtain⟨s,j,p,v,J⟩:=t.gM e he;refine⟨v,by rw[p];exact(A s j).1,λq K=>?_⟩;obtain⟨f,O,P⟩:=J q K;rw[P];exact(A s j).2 f O
 ·rw[a.fm]at b;obtain⟨y,j,rfl⟩:=Da b;exact item y j
 ·rw[a.fm]at b;obtain⟨y,j,rfl⟩:=Da b;have hm:y.2.1∈l'.map Sd.name:=by
   have e:l.map Sd.name=((fK cD).map zB).map Prod.fst:=(by rw[<-w];simp[jo]);rw[B,e];simp only[List.map_map,pI];exact⟨y,j,rfl⟩
  obtain⟨s,p,v⟩:=pI.1 hm;obtain⟨e,he⟩:=t.find s p;rw[a.es,<-v];exact⟨e,he⟩
 ·have:=a.gl;simp at this;omega
 ·rw[a.fs];have:=yB cD;simp;omega
section
theorem Uc(fs:List Fd):fs.flatMap Fd.cells=qq fs:=rfl
theorem JX(l:List zw)(f:zw):oC (l++[f])=oC l++[.str f.1,.str f.2]:=by simp[oC]
theorem rO.lt{X:cB}{h:ah}{id:Nat}{i:It}(r:rO X h id i)(f:bP h):id<h.nx:=by
 cases i with
 |struct p nm fs=>obtain⟨_,g,_⟩:=r;exact aw f g
 |global p ty nm=>exact aw f r.1
 |func p ty nm ps b=>obtain⟨_,_,g,_⟩:=r;exact aw f g
theorem Move.self{X Y:cB}{h h':ah}(m:Move X Y h h'):Move X X h h':=⟨λi o g hi=>⟨(m.aH i o g hi).1,hi⟩⟩
theorem SZ{E:Env}{P:T AV->ah->Prop}{n:Nat}{f:FuncId}{args:eu}{G:Prop}(ops:Array Oper)(rest:List Oper)(a:bT->St->Prop)(d:Option Tmp)(hm:(∀cC h',P cC h'->ba E f args h' (uQ E ops rest a d cC n [] false))->G)(ht:∀cC h',P cC h'->ba E f args h' (uQ E ops rest a d cC n [] false)):G:=hm ht
inductive zC(cD:List It):Rs Pr->Prop
 |bad {l:List Sd} {q:Pl} (hl:l.map (λs=>(s.name,s.fs))=(fK cD).map zB) (hb:FY l) (hq:q∈(fK cD).map Prod.fst):zC cD (.err q)
 |go {N:List (List UInt8)} {es:List jV} {l l':List Sd} {ov:Option Pl} (hl:l.map (λs=>(s.name,s.fs))=(fK cD).map zB) (hN:∀k,k∈N↔∃s∈l,s.name=k) (hB:kg N l' es) (hn:l'.map Sd.name=l.map Sd.name) (hf:∀(i:Nat)(s:Sd),l'[i]?=some s->s.fs=kJ\/∃s0:Sd,l[i]?=some s0/\s.fs=s0.fs)
  (ho:ov=none/\l'=l\/(∃q∈(fK cD).map Prod.fst,ov=some q)/\FY l):zC cD (zz ⟨N,es,sq (fK cD),[],[]⟩ cD ov)
section
variable{A:PA}{id:Nat}{cD:nj}{h:ah}{Q:Out->ah->Prop}
def PA.Y(A:PA):List Nat:=[A.r,A.o,A.fm,A.gm,A.um]
theorem OE(gr:h.get A.r=some (.C (A.GU (.N) (.N))))(go:h.get A.o=some (.C [A.tr,.Z,.Z,.I 0]))(gf:h.get A.fm=some (.map []))(gg:h.get A.gm=some (.map []))(gu:h.get A.um=some (.map []))(nd:A.Y.Nodup)(fr:bP h)
 (t:BO A.Y h id cD) (al:∀i∈cD,i.al PT) (wt:IL cD<=250)
 (hE:∀h' p,zC cD (.err p)->Move A.Y A.Y h h'->bP h'->Q (.jz (xX p)) h')
 (hQ:∀h' A' pr fo iP iX d,A'.r=A.r/\A'.o=A.o/\A'.tr=A.tr->zC cD (.ok pr d)->FI A' pr.S pr.main fo iP iX pr.fns d.over h'->Move A.Y A.Y h h'->Q (.ret (.iO [])) h'):
 ba env 40 [.P A.r,.P id] h Q:=by
 refine wb fn40 rfl ?_;obtain⟨av,n,qs,g0,K7,HG,HP,C2⟩:=t;have ql:qs.length=cD.length:=by rw[<-HP];simp
 obtain⟨C4,A3⟩:∃ab,av= .slice ab cD.length:=by
  rcases HG with⟨e,e2⟩|⟨b,e,_⟩
  ·exact⟨none,by rw[e2,<-ql,e];rfl⟩
  ·exact⟨_,by rw[e,ql]⟩
 have Lt:=g0;rw[A3]at Lt;simp[f40,Lt];have hlen:cD.length<=250:=bh (AQ cD) wt;obtain⟨J,hJ⟩:∃J:Nat->St->Prop,J=(λm x=>∃(i:Nat)(l:List Sd)(p:Option (Nat×Nat))(xY:AV)(pl:List Pl)(es:List (AV×AV)),i<=cD.length/\m=cD.length-i/\x.n=178/\x.ds=[]/\x.bX=false/\aR [A.fm] h x.h/\x.h.get A.fm=some (.map es)/\qu A.Y h es (sq (fK (cD.take i)))/\
  SL h.nx x.h l (.slice p l.length) xY pl/\l.map (λs=>(s.name,s.fs))=(fK (cD.take i)).map zB/\pl=(fK (cD.take i)).map Prod.fst/\(l=[]->p=none)/\
  x.rg.get 0=some (.P A.r)/\x.rg.get 1=some (.P id)/\x.rg.get 4=some (.slice p l.length)/\x.rg.get 5=some xY/\x.rg.get 22=some (.slice C4 cD.length)/\x.rg.get 23=some (.I cD.length)/\x.rg.get 24=some (.I i)):=⟨_,rfl⟩
 refine bz J cD.length ?_ ?_
 ·rw[hJ];exact⟨0,[],none,.Z,[],[],bJ _,rfl,rfl,rfl,rfl,aR.refl _ _,gf,trivial,⟨.inl ⟨rfl,rfl,rfl⟩,.inl ⟨rfl,rfl,rfl⟩,by simp[aT],by simp[aT],sp⟩,rfl,rfl,λ_=>rfl,sp,sp,sp,sp,sp,sp,sp⟩
 intro m x u;rw[hJ]at u;obtain⟨rg,n',G,ds,bX⟩:=x;obtain⟨i,l,p,xY,pl,es,hi,rfl,e1,e2,e3,kG,C5,F5,sl,hl,A1,hz,r0,W,r4,r5,rl,rn,Z⟩:=u;dsimp only at e1 e2 e3 kG C5 sl r0 W r4 r5 rl rn Z;subst e1 e2 e3;have fG:=kG.fresh fr;have mG:Move A.Y A.Y h G:=Move.of fr kG (λz hz _=>by simp at hz;subst hz;simp[PA.Y]) λ_ hy=> .inl hy;by_cases B:i<cD.length
 ·have C:i<qs.length:=by omega
  have U:(i:Int)<(cD.length:Int):=by omega
  have wi:=U8 i
  obtain⟨b0,rfl,F6,FP⟩:∃b,C4=some (b,0)/\b∉A.Y/\h.get b=some (.D 1 (qs.map λp=> .P p.1)):=by
   rcases HG with⟨e,_⟩|⟨b,e,hb,g⟩
   ·rw[e]at C;simp at C
   ·rw[A3]at e;injection e with e _;exact⟨b,e,hb,g⟩
  have A4:=(mG.aH _ _ FP F6).1;have fa:(qs.map λp=>AV.P p.1)[i]?=some (.P qs[i].1):=by simp[C]
  have C6:qs[i]∈qs:=bk C;have ir:=C2 _ C6;have K8:=(C2 _ C6).lt fr;have K:cD[i]?=some qs[i].2:=by rw[<-HP,bt,aj C];rfl
  have D:cD.take (i+1)=cD.take i++[qs[i].2]:=by rw[cy,K];rfl
  have hit:qs[i].2∈cD:=bg K;generalize qs[i]=q at*;obtain⟨iq,it⟩:=q;simp only at fa ir K D hit K8;generalize (qs.map λp=>AV.P p.1)=FQ at*;simp[rl,rn,Z,U,A4,fa];cases it with
  |global p2 ty nm=>
   have gi:=(mG.aH _ _ ir.1 ir.2).1;simp[gi,Z,wi];refine⟨cD.length-(i+1),om,?_⟩;rw[hJ];exact⟨i+1,l,p,xY,pl,es,B,rfl,rfl,rfl,rfl,kG,C5,by rw[D,jM];simpa[fK]using F5,sl,by rw[D,jM];simpa[fK]using hl,by rw[D,jM];simpa[fK]using A1,hz,by simp[r0],by simp[W],by simp[r4],by simp[r5],by simp[rl],by simp[rn],sp⟩
  |func p2 ty nm ps b=>
   obtain⟨pv,aG,HU,C7,_⟩:=ir;have gi:=(mG.aH _ _ HU C7).1;simp[gi,Z,wi];refine⟨cD.length-(i+1),om,?_⟩;rw[hJ];exact⟨i+1,l,p,xY,pl,es,B,rfl,rfl,rfl,rfl,kG,C5,by rw[D,jM];simpa[fK]using F5,sl,by rw[D,jM];simpa[fK]using hl,by rw[D,jM];simpa[fK]using A1,hz,by simp[r0],by simp[W],by simp[r4],by simp[r5],by simp[rl],by simp[rn],sp⟩
  |struct p2 nm fs=>
   obtain⟨fv,HU,C7,KA⟩:=ir;have gi:=(mG.aH _ _ HU C7).1;have af:=KA.move mG;have hw:=rZ hit;simp only[It.wt]at hw;obtain⟨M1,rfl⟩:=af.len;rw[Uc]at af KA;have aL:iq≠G.nx:=(by have:=aw fG gi;omega);simp[gi,aL];obtain⟨J2,A5⟩:∃J2:Nat->St->Prop,J2=(λm x=>∃(j:Nat)(sv:AV),j<=fs.length/\m=fs.length-j/\x.n=178/\x.ds=[]/\x.bX=false/\aJ G x.h/\x.h.get G.nx=some (.C [.str nm,sv])/\cu [] x.h sv 2 j (oC ((fs.take j).map Fd.fl))/\(∀y∈aT sv,G.nx<y)/\
    x.rg.get 0=some (.P A.r)/\x.rg.get 1=some (.P id)/\x.rg.get 4=some (.slice p l.length)/\x.rg.get 5=some xY/\x.rg.get 7=some (.P iq)/\x.rg.get 8=some (.P G.nx)/\x.rg.get 22=some (.S b0 cD.length)/\x.rg.get 23=some (.I cD.length)/\x.rg.get 24=some (.I i)/\x.rg.get 41=some (.slice M1 fs.length)/\x.rg.get 42=some (.I fs.length)/\x.rg.get 43=some (.I j)):=⟨_,rfl⟩
   refine bz J2 fs.length ?_ ?_
   ·rw[A5];exact⟨0,.Z,bJ _,rfl,rfl,rfl,rfl,aJ.Ly _ (aJ.alloc _ (aJ.refl G)) (ao _) sp,sp,.inl ⟨rfl,rfl,rfl⟩,by simp[aT],by simp[r0],by simp[W],by simp[r4],by simp[r5],sp,sp,by simp[rl],by simp[rn],by simp[Z],sp,sp,sp⟩
   clear r0 W r4 r5 rl rn Z;intro m x u;rw[A5]at u;obtain⟨rg,n',H,ds,bX⟩:=x;obtain⟨j,sv,hj,rfl,e1,e2,e3,kH,FW,C8,KB,r0,W,r4,r5,r7,r8,rl,rn,Z,rf,HZ,rj⟩:=u;dsimp only at e1 e2 e3 kH FW C8 r0 W r4 r5 r7 r8 rl rn Z rf HZ rj;subst e1 e2 e3;have fH:=kH.fresh fG;have nH:=kH.nx;have aN:=aw fH FW;by_cases G3:j<fs.length
   ·have M3:(j:Int)<(fs.length:Int):=om;have wj:=U8 j;obtain⟨bf,KC,_,M4⟩:=af.resolve_left λe=>by omega
    injection KC with KC _;subst KC;have aZ:=(kH.old _ (aw fG M4)).trans M4;have ff:=(yx fs j fs[j] (aj G3)).1;have fb:j*2+2<=(qq fs).length:=(by have:=uz fs;omega);have ad:(fs.take (j+1)).map Fd.fl=(fs.take j).map Fd.fl++[fs[j].fl]:=(by rw[cy,aj G3,fU];rfl);generalize fs[j]=f at*;generalize qq fs=FF at*;have n8:G.nx≠H.nx:=om;have n9:G.nx≠H.nx+1:=om;obtain⟨C9,rfl⟩:=C8.len;simp[-aK,r8,rf,HZ,rj,M3,aZ,ff,fb,FW,n8];obtain⟨H2,Hc⟩:∃H2,H2=(((H.alloc (.C [.str [],.str []])).2.set H.nx (.C [.str f.ty,.str f.nm])).alloc (.D 2 [.str f.nm,.str f.ty])).2:=⟨_,rfl⟩
    rw[<-Hc];have k2:aJ H H2:=(by rw[Hc];exact kT);have g2:H2.get (H.nx+1)=some (.D 2 [.str f.nm,.str f.ty]):=(by rw[Hc];simp);have n2:H2.nx=H.nx+2:=(by rw[Hc];simp);have f2:=k2.fresh fH;obtain⟨H3,a3,n3,g3,k3⟩:=oW (es:=1) (st:=134) (e:=140) rfl ty140.1 ty140.2.1 dc ty140.2.2.2 rfl (C8.move (Y:=[]) (Move.k fH k2)) (by rw[uI];simp;omega) om (H.nx+1) [.str f.nm,.str f.ty] rfl sp g2 f2;rw[a3];rw[n2]at n3 g3;have ag:=(k2.old _ aN).trans FW;have ax:=(k3.old _ om λu=>by have:=KB _ u;omega).trans ag;simp[-aK,r8,rj,ax,wj];have b5:aJ G H3:=(kH.trans k2).kx k3 λz hz=>by have:=KB z hz;omega
    refine⟨fs.length-(j+1),om,?_⟩;rw[A5];refine⟨j+1,.S H2.nx (j+1),G3,rfl,rfl,rfl,rfl,aJ.Ly _ b5 (ao _) om,sp,?_,λy hy=>?_,by simp[r0],by simp[W],by simp[r4],by simp[r5],by simp[r7],by simp[r8],by simp[rl],by simp[rn],by simp[Z],by simp[rf],by simp[HZ],sp⟩
    ·rw[ad,JX];exact .inr ⟨_,rfl,sp,by rw[ah.aM,ay om,n2];exact g3⟩
    ·simp only[aT,aQ]at hy;omega
   ·have b6:j=fs.length:=om;subst b6;rw[cF]at C8;obtain⟨C9,rfl⟩:=C8.len;simp[HZ,rj];refine Dd ?_;have M5:=(kH.old _ (aw fG gi)).trans gi;have s1:=sl.mv fG (kH.x []) sp;have M6:l.length=(fK (cD.take i)).length:=(by have:=nt List.length hl;simpa using this);have b7:(fK (cD.take i)).length<=i:=by
     have:=vU (cD.take i);simp at this;omega
    have dD:pl.length=(fK (cD.take i)).length:=(by rw[A1];simp);have dI:=kG.nx;have b8:(⟨nm,fs.map Fd.fl,C9⟩:Sd).fs≠[]->∃o,(⟨nm,fs.map Fd.fl,C9⟩:Sd).q=some (o,0)/\H.get o=some (.D 2 (oC (⟨nm,fs.map Fd.fl,C9⟩:Sd).fs))/\h.nx<=o/\o∉aT (.slice p l.length)/\o∉aT xY:=λh0=>by
     rcases C8 with⟨e,_⟩|⟨b,e,_,g⟩
     ·exact absurd (U7 e) h0
     ·injection e with e _;have hb:=KB b (by rw[e];simp[aT]);refine⟨b,e,g,om,λu=>?_,λu=>?_⟩
      ·have:=(sl.la.lt fG b u).1;omega
      ·have:=(sl.aa.lt fG b u).1;omega
    obtain⟨H8,H9,a8,a9,k8,b9,k9,n9,s9⟩:=s1.push fH om om om ⟨nm,fs.map Fd.fl,C9⟩ b8 p2 (k:=13) (j:=2) (j2:=9) om om om;simp only[List.length_map]at a8;obtain⟨dL,rfl⟩:=s1.aa.len;have f12:H.get (H.nx+2)=none:=fH _ om;have db:G.nx≠H.nx+2:=om;have Ia:iq≠H.nx+2:=(by have:=aw fH M5;omega);simp[-aK,r4,r5,r7,r8,FW,f12,a8];have KF:∀y,y<h.nx->y∉aT (AV.slice p l.length):=λy hy u=>by have:=(s1.ln y u).1;omega
    have g8:∀i o,i<H.nx->i∉aT (AV.slice p l.length)->H.get i=some o->H8.get i=some o:=λi o hi u g=>(k8.old i IN (by simp only[ak,iS];exact⟨om,u⟩)).trans g;have bA:=g8 iq _ om (KF _ K8) M5;have bB:G.nx≠H.nx+9:=om;have M7:iq≠H.nx+9:=om;have y1:=Ia.symm;refine dl ?_;simp[-aK,bA,b9,a9];have y1:=Ia.symm;have y2:=M7.symm;have y3:=bB.symm;refine dl ?_;have o9:∀i,i<h.nx->i≠A.fm->H9.get i=h.get i:=λi hi hf=>by
     rw[k9.old i om (by simp only[aP,iS];exact⟨KF i hi,λu=>by have:=s1.an i u;omega⟩),kH.old i om,kG.old i hi (U7 hf)]
    have G4:=nd;simp only[PA.Y,fh,ak,bm,cT,iS]at G4;have bC:=aw fr gf;have KH:=(o9 A.r (aw fr gr) G4.1.2.1).trans gr;have M8:=(o9 iq K8 (λe=>C7 (by simp[PA.Y,e]))).trans HU;have M9:H9.get A.fm=some (.map es):=by
     rw[k9.old _ om (by simp only[aP,iS];exact⟨KF _ bC,λu=>by have:=s1.an _ u;omega⟩),kH.old _ om];exact C5
    simp only[PA.GU]at KH;have Ik:sq (fK (cD.take (i+1)))=sd nm fs (sq (fK (cD.take i))):=(by rw[D,jM];simp[fK,sq]);have bD:jH A.Y h (.slice M1 fs.length) 2 fs.length (qq fs):=by
     rcases KA with e|⟨b,e,hb,g⟩
     ·exact .inl e
     ·exact .inr ⟨b,true,e,hb,g⟩
    obtain⟨R,hR⟩:∃R:bT->St->Prop,R=(λx st=>x= .kj/\∃rg CL,st=⟨rg,178,(H9.bump 13).set A.fm (.map CL),[],false⟩/\qu A.Y h CL (sq (fK (cD.take (i+1))))/\rg.get 0=some (.P A.r)/\rg.get 1=some (.P id)/\rg.get 4=some (.S (H.nx+13) (l.length+1))/\rg.get 5=some (.S (H.nx+14) (pl.length+1))/\rg.get 22=some (.S b0 cD.length)/\rg.get 23=some (.I cD.length)/\rg.get 24=some (.I i)):=⟨_,rfl⟩
    refine rW (Q:=R) ?_ ?_;rotate_left
    ·refine Dd ?_;rcases qu.put bD 0 F5 with hp|⟨k,w,hp,G5⟩
     ·have bE:=λH=>(hp H).1;have G5:=(hp h).2;rw[<-Ik]at G5;simp[r0,r7,KH,M8,M9,bE];refine dl ?_;rw[hR];exact⟨rfl,_,_,rfl,G5,by simp[r0],by simp[W],sp,sp,by simp[rl],by simp[rn],by simp[Z]⟩
     ·rw[<-Ik]at G5;simp[r0,r7,KH,M8,M9,hp];refine dl ?_;rw[hR];exact⟨rfl,_,_,rfl,G5,by simp[r0],by simp[W],sp,sp,by simp[rl],by simp[rn],by simp[Z]⟩
    rw[hR]
    rintro x st ⟨rfl,rg,CL,rfl,bN,r0,W,r4,r5,rl,rn,Z⟩
    simp[Z,wi];have f9:=k9.fresh fH;have kx:aR [A.fm] H9 ((H9.bump 13).set A.fm (.map CL)):=aR.set _ ((aR.refl _ _).bump 13) (.inl sp) IN;have bS:aR [A.fm] h ((H9.bump 13).set A.fm (.map CL)):=⟨IN,λi hi u=>(kx.old i om u).trans (o9 i hi (U7 u)),λ_=>kx.fresh f9⟩
    have MB:∀α(g:Pl×bu×List Fd->α),(fK (cD.take (i+1))).map g=(fK (cD.take i)).map g++[g (p2,nm,fs)]:=λα g=>by rw[D,jM];simp[fK]
    refine⟨cD.length-(i+1),om,?_⟩;rw[hJ];refine⟨i+1,l++[⟨nm,fs.map Fd.fl,C9⟩],some (H.nx+13,0),.S (H.nx+14) (pl.length+1),pl++[p2],CL,B,rfl,rfl,rfl,rfl,bS,sp,bN,?_,?_,?_,sp,by simp[r0],by simp[W],by simp[r4],by simp[r5],by simp[rl],by simp[rn],sp⟩
    ·have:=s9.mv f9 kx (λz hz=>by simp at hz;omega);simpa using this
    ·rw[MB,fU,hl];rfl
    ·rw[MB,<-A1]
 ·have GL:i=cD.length:=by omega
  subst GL;rw[cF]at F5 hl A1;simp[r0,r4,r5,rn,Z];have M6:l.length=(fK cD).length:=by have:=nt List.length hl;simpa using this
  have b7:=vU cD;have G4:=nd;simp only[PA.Y,fh,ak,bm,cT,iS,td,List.nodup_nil,qE]at G4;obtain⟨⟨y1,y2,y3,y4⟩,⟨y5,y6,y7⟩,⟨y8,y9⟩,bW⟩:=G4;have oG:∀i o,h.get i=some o->i≠A.fm->G.get i=some o:=λi o g hi=>(kG.old i (aw fr g) (U7 hi)).trans g;have MH:∀s∈l,s.name.length<=1000000/\s.fs.length<=300/\∀f∈s.fs,f.1.length<=1000000/\f.2.length<=1000000:=λs hs=>by
   have hm:(s.name,s.fs)∈(fK cD).map zB:=(by rw[<-hl];exact wQ hs);obtain⟨x,u,e⟩:=pI.1 hm;have ML:=vV u;have a1:=al _ ML;have a2:=rZ ML;simp only[It.wt]at a2;injection e with e1 e2;rw[<-e1,<-e2];refine⟨by have:=a1.2.1;omega,IN,λf hf=>?_⟩;obtain⟨f',bY,rfl⟩:=pI.1 hf;have:=a1.2.2 f' bY;unfold dW at this;exact⟨by simp only[Fd.fl];omega,by simp only[Fd.fl];omega⟩
  have bb:jH [A.r] G xY 2 pl.length (tX pl):=by
   rcases sl.aa with e|⟨b,e,_,g⟩
   ·exact .inl e
   ·have:=sl.an b (by rw[e];simp[aT]);have:=aw fr gr;exact .inr ⟨b,true,e,IN,g⟩
  refine JV (oG _ _ gr y2) fG (sl.arg fG om hz MH) bb (by rw[A1];simp[M6]) ?_ ?_;rotate_left
  ·intro h' q hq hb k f;simp;rw[A1]at hq;exact hE h' q (.bad hl hb hq) (mG.comp (Move.of fG k (λz hz _=>by simp at hz;subst hz;simp[PA.Y]) λ_ hy=> .inl hy)) f
  intro G2 tb nm st N KK l' v ov k2 f2 bd MN T hN hB MY OL QQ hb;rw[A1]at QQ;have V:zC cD (zz ⟨N,KK,sq (fK cD),[],[]⟩ cD ov):= .go hl hN hB MY OL QQ;have m2:Move A.Y A.Y h G2:=mG.comp (Move.of fG k2 (λz hz _=>by simp at hz;subst hz;simp[PA.Y]) λ_ hy=> .inl hy);have o2:∀i o,h.get i=some o->i≠A.fm->i≠A.r->G2.get i=some o:=λi o g h1 h2=>(k2.old i (aw fG (oG i o g h1)) (U7 h2)).trans (oG i o g h1);have K0:=(m2.aH _ _ g0 K7).1;rw[A3]at K0;have nG:=kG.nx;have dc:=k2.nx;obtain⟨b1,b2,b3,b4⟩:=hb;obtain⟨A',I1⟩:∃A':PA,A'=⟨A.r,A.o,tb,nm,st,A.fm,A.gm,A.um,A.tr⟩:=⟨_,rfl⟩
  have fF:Fits KK:=hB.fits;obtain⟨S0,A2⟩:∃S0:Sc,S0=⟨N,KK,sq (fK cD),[],[]⟩:=⟨_,rfl⟩
  rw[<-A2]at V;have hY:∀x,x∈A.Y->x<h.nx:=λx u=>by
   simp only[PA.Y,ak,bm,cT]at u;rcases u with rfl|rfl|rfl|rfl|rfl
   ·exact aw fr gr
   ·exact aw fr go
   ·exact aw fr gf
   ·exact aw fr gg
   ·exact aw fr gu
  have Gq:∀x∈[A.r,A.o,A.gm,A.um],x∈A.Y:=λx u=>by
   simp only[PA.Y,ak,bm,cT]at u⊢;rcases u with rfl|rfl|rfl|rfl<;>simp
  have I2:∀y,G.nx<=y->y∉[A.r,A.o,A.gm,A.um]:=λy hy u=>by have:=hY y (Gq y u);omega
  have go2:=o2 _ _ go y5 (iV y1);have S1:=o2 _ _ gg (iV y8) (iV y3);have S2:=o2 _ _ gu (iV y9) (iV y4);have bn:jI [A.r,A.o,A.gm,A.um] G2 v ov:=by
   cases ov with
   |none=>exact MN
   |some q=>
    obtain⟨z,z1,z2,z3⟩:=MN;refine⟨z,z1,λu=>?_,z3⟩;simp only[ak,bm,cT]at u;rcases u with rfl|rfl|rfl|rfl
    ·exact z2 sp
    ·rw[go2]at z3;simp at z3
    ·rw[S1]at z3;simp at z3
    ·rw[S2]at z3;simp at z3
  have I0:rI A' S0 [] [] [A.r,A.o,A.gm,A.um] [] (.Z) (.Z) ov G2:=by
   subst I1 A2;refine⟨f2,by simp[PA.M,aT],λx u=>by have:=hY x (Gq x u);omega,?_,⟨v,bd,bn⟩,go2,⟨T,I2 _ b1,I2 _ b2,I2 _ b3,λe he=>I2 _ (b4 e he)⟩,⟨⟨es,?_,(F5.move m2).move (Move.less Gq)⟩,?_⟩,S1,S2,.inl ⟨rfl,rfl,rfl⟩,.inl ⟨rfl,rfl⟩,rfl,sp⟩
   ·simp only[fh,ak,bm,cT,iS,td,List.nodup_nil,qE];exact⟨⟨y1,y3,y4⟩,⟨y6,y7⟩,bW⟩
   ·rw[k2.old _ (aw fG C5) (by simpa using iV y2)];exact C5
   ·simp only[ak,bm,cT,iS];exact⟨iV y2,iV y5,y8,y9⟩
  simp[W,K0];have rA:A.r=A'.r:=by rw[I1]
  obtain⟨J2,A5⟩:∃J2:Nat->St->Prop,J2=(λm x=>∃(i:Nat)(S:Sc)(d:Dn)(X fo:cB)(iP iX:AV),i<=cD.length/\m=cD.length-i/\x.n=178/\x.ds=[]/\x.bX=false/\rI A' S (S.gs.map Gl.nm) (S.fs.map Sg.nm) X fo iP iX d.over x.h/\Move [A.r,A.o,A.gm,A.um] X G2 x.h/\G2.nx<=x.h.nx/\FV S0 S (cD.take i)/\
   zz S0 cD ov=((zy (cD.drop i) S d).bind λS d=>(tW S d).bind λm d=>(wX S cD d).bind λl d=> .ok ⟨S,m,l⟩ d)/\
   x.rg.get 0=some (.P A.r)/\x.rg.get 1=some (.P id)/\x.rg.get 89=some (.slice C4 cD.length)/\x.rg.get 90=some (.I cD.length)/\x.rg.get 91=some (.I i)):=⟨_,rfl⟩
  refine bz J2 cD.length ?_ ?_
  ·rw[A5];subst A2;exact⟨0,_,Ee ov,_,[],_,_,bJ _,rfl,rfl,rfl,rfl,I0,Move.refl _ _,ao _,⟨rfl,rfl,rfl,sp,by simp[AD],⟨sp,sp⟩⟩,rfl,by simp[r0],by simp[W],sp,sp,sp⟩
  clear r0 W r4 r5 rl rn Z;intro m x u;rw[A5]at u;obtain⟨rg,n',H,ds,bX⟩:=x;obtain⟨i,S,d,X,fo,iP,iX,hi,rfl,e1,e2,e3,I,mH,nH,hR,heq,r0,W,rl,rn,Z⟩:=u;dsimp only at e1 e2 e3 I mH nH r0 W rl rn Z;subst e1 e2 e3;have S3:Move A.Y A.Y h H:=m2.comp (mH.SV Gq);have T0:=(S3.aH _ _ g0 K7).1;rw[A3]at T0;have I4:Move A.Y X h H:=m2.comp ((Move.less Gq).comp mH);by_cases B:i<cD.length
  ·have C:i<qs.length:=om;have U:(i:Int)<(cD.length:Int):=om;have wi:=U8 i;obtain⟨b0,rfl,F6,FP⟩:∃b,C4=some (b,0)/\b∉A.Y/\h.get b=some (.D 1 (qs.map λp=> .P p.1)):=by
    rcases HG with⟨e,_⟩|⟨b,e,hb,g⟩
    ·rw[e]at C;simp at C
    ·rw[A3]at e;injection e with e _;exact⟨b,e,hb,g⟩
   have A4:=(S3.aH _ _ FP F6).1;have fa:(qs.map λp=>AV.P p.1)[i]?=some (.P qs[i].1):=(by simp[C]);have C6:qs[i]∈qs:=bk C;have ir:=(C2 _ C6).move I4;have K:cD[i]?=some qs[i].2:=(by rw[<-HP,bt,aj C];rfl);have D:cD.take (i+1)=cD.take i++[qs[i].2]:=(by rw[cy,K];rfl);have F1:cD.drop i=qs[i].2::cD.drop (i+1):=by
    rw[bs B];obtain⟨_,e⟩:=aV.1 K;rw[e]
   have hit:qs[i].2∈cD:=bg K;generalize qs[i]=q at*;obtain⟨iq,it⟩:=q;simp only at fa ir K D hit F1;generalize (qs.map λp=>AV.P p.1)=FQ at*;simp[r0,rl,rn,Z,U,A4,fa];rw[F1]at heq;simp only[zy,Rs.bind_assoc]at heq;have dk:=Oz (S:=S) d (al _ hit) (by have:=rZ hit;omega) hR.ok;have KL:=hR.gl;have F2:S.fs.length<=300:=by
    rw[hR.fs,A2];have:=yB (cD.take i);simp at this⊢;omega
   rw[rA];refine JU I ir (al _ hit) (by have:=rZ hit;omega) (by simp at KL;rw[A2]at KL;simp at KL;omega) F2 (by rw[hR.es,A2];exact fF) ?_;generalize vc S it d=z at heq dk⊢;cases z with
   |err p=>
    intro h' m f;rw[heq]at V;simp;exact hE h' p V ((I4.comp m).self) f
   |ok S' d'=>
    intro X' bo T2 T4 h' I' sX mm nx;have dk:FV S S' [it]:=dk;simp only[Rs.fP]at heq;simp[Z,wi];refine⟨cD.length-(i+1),om,?_⟩;rw[A5];exact⟨i+1,S',d',X',bo,T2,T4,B,rfl,rfl,rfl,rfl,I',mH.comp mm,by simp only;omega,by rw[D];exact hR.trans dk,heq,by simp[r0],by simp[W],by simp[rl],by simp[rn],sp⟩
  ·have GL:i=cD.length:=om;subst GL;rw[cF]at hR;rw[dV]at heq;simp only[zy,Rs.fP]at heq;obtain⟨v3,I5,dE⟩:=I.r;simp only[PA.ob]at I5;have TH:=I.um;have eo:A'.o=A.o:=(by rw[I1]);rw[<-rA]at I5;rcases rD [109,97,105,110] (S.fs.map Sg.nm) 0 0 with⟨f1,f3⟩|⟨n,k,f1,f3⟩
   ·have hm:tW S d= .err (1,1):=(by unfold tW;rw[f1]);rw[hm]at heq;rw[heq]at V;simp[r0,rn,Z,I5,TH,f3];refine fI (1,1) false _ _ _ (λh3 _ k3=>?_) λ_ e _=>by cases e
    simp;exact hE _ _ V ((I4.comp (Move.k I.fr k3)).self) (k3.fresh I.fr)
   ·obtain⟨n',e1,f4⟩:=yv f1;simp only[fL]at e1;subst e1;rw[bt]at f4;obtain⟨s,hs⟩:∃s,S.fs[n]?=some s:=by
     cases e:S.fs[n]? with
     |none=>rw[e]at f4;cases f4
     |some s=>exact⟨s,rfl⟩
    have hm:tW S d=Rs.fV ((s.ty==[105,110,116]||s.ty==[108,111,110,103])&&s.ps.all tP) (1,1) (.ok n d):=(by unfold tW;rw[f1];simp only[hs]);simp[r0,rn,Z,I5,TH,f3];refine fI (1,1) true _ _ _ (λ_ e _=>by cases e) λh3 _ k3=>?_;obtain⟨O,m3⟩:=I.aH k3;obtain⟨v4,Au,br⟩:=O.r;simp only[PA.ob]at Au;rw[<-rA,eo]at Au;have C1:=O.o;rw[eo]at C1;have KT:A.r≠A.o:=y1;have bx:n<S.fs.length:=by
     rcases dJ n S.fs.length with e|e
     ·exact e
     ·rw[ej e]at hs;cases hs
    have H4:n<fo.length:=(by rw[I.fl];exact bx);have c8:fo[n]?=some fo[n]:=aj H4;obtain⟨fb,rfl,H5⟩:∃b,iX= .S b S.fs.length/\h3.get b=some (.D 1 (fo.map λa=> .P a)):=by
     rcases O.fa with⟨e,_⟩|⟨b,e,_,g⟩
     ·have:fo=[]:=(U7 e);rw[this]at H4;simp at H4
     ·exact⟨b,by rw[e,<-I.fl];simp,by rw[g];simp[jo]⟩
    have KX:(fo.map λa=>AV.P a)[n]?=some (.P fo[n]):=(by simp[H4]);obtain⟨df,sb,cE,Kc,cH⟩:=O.fs n fo[n] s hs c8;have L0:fo[n]∈fo:=bk H4;obtain⟨u1,u2,u3,u4⟩:=O.ne.2.2.2.2.2.2 fo[n] L0;rw[eo]at u2;have L1:fb≠A.o:=λe=>by rw[e,C1]at H5;simp at H5
    obtain⟨V2,K1⟩:=Kc.slice;obtain⟨cN,V5⟩:=cH.slice;have C3:=cE;rw[K1,V5]at C3;generalize fo[n]=fa at*;generalize (fo.map λa=>AV.P a)=FO at*;have Li:(n:Int)<(S.fs.length:Int):=om;obtain⟨h4,H6⟩:∃h4,h4=((h3.set A.o (.C [A'.tr,iP,.S fb S.fs.length,.I n])).alloc (.C [.str [],.str [],.Z,.Z])).2.set h3.nx (.C [.str s.nm,.str s.ty,.slice V2 s.ps.length,.slice cN s.pb.length]):=⟨_,rfl⟩
    have F3:aR [A.o] h3 h4:=(by rw[H6];exact aR.set _ (aR.alloc _ (aR.set _ (aR.refl _ _) (.inl sp) (aw O.fr C1))) (.inr (ao _)) sp);have oX:A.o∈X:=(by rw[<-eo];exact O.sup _ (by simp[PA.M]));have Lj:Move X X h3 h4:=Move.of O.fr F3 (λz hz _=>by simp at hz;subst hz;exact oX) λ_ hy=> .inl hy;have H7:=F3.fresh O.fr;have W1:s.ps.length<=300:=(hR.ok.f s (bg hs)).2.1;generalize I6:((s.ty==[105,110,116]||s.ty==[108,111,110,103])&&s.ps.all tP)=ok at*;have cont:∀(Q2:Out->ah->Prop),(∀h5,aJ h4 h5->Q2 (.ret (.bool (!s.ps.all tP))) h5)->ba env 54 [.slice V2 s.ps.length,.func 55 []] h4 Q2:=λQ2 q=>JW (by rw[K1]at Kc;exact Kc.move Lj) H7 W1 _ q;generalize s.ps.all tP=W2 at cont I6;apply SZ (E:=env) (n:=178) (f:=53) (args:=[.P A.r,.bool ok,.agg [.I 1,.I 1]]) (P:=λcC h'=>cC.get 0=some (.P A.r)/\cC.get 1=some (.P id)/\aJ h4 h')
    case hm=>
     intro IB;by_cases e1:(s.ty==[105,110,116])=true
     ·have ea:W2=ok:=(by rw[<-I6,e1];simp);simp[r0,Au,C1,KT,H5,L1,KX,C3,u2,Li,e1];rw[<-H6];refine cont _ λh5 k5=>?_;simp[ea];refine IB _ _ ⟨by simp[r0],by simp[W],k5⟩
     ·have e1:=dx.2 e1;by_cases e2:(s.ty==[108,111,110,103])=true
      ·have ea:W2=ok:=(by rw[<-I6,e1,e2];simp);simp[r0,Au,C1,KT,H5,L1,KX,C3,u2,Li,e1,e2];rw[<-H6];refine cont _ λh5 k5=>?_;simp[ea];refine IB _ _ ⟨by simp[r0],by simp[W],k5⟩
      ·have e2:=dx.2 e2;have ea:ok=false:=(by rw[<-I6,e1,e2];simp);simp[r0,Au,C1,KT,H5,L1,KX,C3,u2,Li,e1,e2];rw[<-H6];rw[ea]at IB;refine IB _ _ ⟨by simp[r0],by simp[W],aJ.refl _⟩
    case ht=>
     rintro dr h5 ⟨cP,cU,k5⟩
     have K2:Move A.Y X h h4:=((I4.comp (Move.k I.fr k3)).comp Lj)
     refine fI (1,1) ok _ _ _ (λh6 e k6=>?_) (λh6 e k6=>?_)
     ·rw[hm,e]at heq;have heq:zz S0 cD ov= .err (1,1):=heq;rw[heq]at V;simp;exact hE _ _ V ((K2.comp (Move.k H7 (k5.trans k6))).self) ((k5.trans k6).fresh H7)
     ·rw[hm,e]at heq;simp only[Rs.sM,Rs.fP]at heq;have HA:=k5.trans k6;have f6:=HA.fresh H7;have Y2:Move X X h4 h6:=Move.k H7 HA;have cV:=Lj.comp Y2;have K3:Move A.Y X h h6:=K2.comp Y2;have K4:=(K3.aH _ _ g0 K7).1;rw[A3]at K4;have K5:h3.nx<=h6.nx:=bh F3.nx HA.nx;have F4:∀i o,h3.get i=some o->i≠A.o->h6.get i=some o:=λi o g hi=>(HA.old i (aq (aw O.fr g) F3.nx)).trans ((F3.old i (aw O.fr g) (U7 hi)).trans g);have cZ:h6.get A.o=some (.C [A'.tr,iP,.S fb S.fs.length,.I n]):=by
       have ca:=aw O.fr C1;rw[HA.old _ (aq ca F3.nx),H6,ah.aM,ay om,ah.cO,ay IN];simp
      have Lk:∀x∈A.r::fo,x∈X:=λx u=>O.sup x (by
       rcases ak.1 u with rfl|u
       ·rw[rA];simp[PA.M]
       ·simp[PA.M,u])
      have mN:Move X (A.r::fo) h3 h6:=cV.comp (Move.less Lk);have Y5:=O.nd;simp only[fh,ak,iS]at Y5;obtain⟨⟨n1,n2,n3,n4⟩,⟨n5,n6,n7⟩,⟨n8,n9⟩,ck,cr⟩:=Y5;have ar:∀b,b∈aT iP++aT (AV.S fb S.fs.length)->b≠A.o/\b∉A'.r::fo:=λb hb=>by
       obtain⟨z1,z2,z3,z4,z5⟩:=O.Ow hb;rw[eo]at z2;exact⟨z2,by simp only[ak,iS];exact⟨z1,z5⟩⟩
      rw[rA]at mN;have F0:FI A' S n fo iP (.S fb S.fs.length) [] d.over h6:=by
       refine⟨f6,λx u=>aq (O.xl x (Lk x (by rw[rA];exact u))) K5,fh.2 ⟨n4,cr⟩,⟨.N,.map none,.Z,.I 0,.I 0,v4,?_,br.move mN⟩,by rw[eo];exact cZ,by rw[ak,iS];exact⟨iV n1,n7⟩,O.Cm.move mN K5,O.fm.move mN,F4 _ _ O.gm (by rw[<-eo];exact iV n5),F4 _ _ O.um (by rw[<-eo];exact iV n6),⟨by rw[ak,iS];exact⟨iV n2,n9⟩,by rw[ak,iS];exact⟨iV n3,ck⟩⟩,?_,?_,O.fl,λm a s2 h1 h2 _=>?_,sp⟩
       ·rw[<-rA];rw[<-eo]at Au;exact F4 _ _ Au y1
       ·rcases O.ga with e|⟨b,e,_,g⟩
        ·exact .inl e
        ·obtain⟨z1,z2⟩:=ar b (by rw[e];simp[aT]);exact .inr ⟨b,true,e,z2,F4 _ _ g z1⟩
       ·obtain⟨z1,z2⟩:=ar fb (by simp[aT]);rcases O.fa with⟨e,_⟩|⟨b,e,_,g⟩
        ·have:fo=[]:=(U7 e);rw[this]at L0;cases L0
        ·injection e with e _;injection e with e;injection e with e _;subst e;exact .inr ⟨_,true,rfl,z2,by rw[F4 _ _ g z1];simp[jo]⟩
       ·obtain⟨p2,b2,g2,a2,a3⟩:=O.fs m a s2 h1 h2;have:=(O.ne.2.2.2.2.2.2 a (bg h2)).2.1;rw[eo]at this;exact⟨p2,b2,F4 _ _ g2 this,a2.move mN,a3.move mN⟩
      have a6:S.Ok:=Ud al wt hl hB MY OL (by rw[A2]at hR;exact hR);have a7:S.fs=AD cD:=(by rw[hR.fs,A2];rfl);simp[cU,K4];have cv:Move A.Y (A'.r::fo) h h6:=K3.comp (Move.less (by rw[<-rA];exact Lk));obtain⟨J3,HC⟩:∃J3:Nat->St->Prop,J3=(λm x=>∃(i:Nat)(fns:List Fn)(d:Dn),i<=cD.length/\m=cD.length-i/\x.n=178/\x.ds=[]/\x.bX=false/\FI A' S n fo iP (.S fb S.fs.length) fns d.over x.h/\Move A.Y (A'.r::fo) h x.h/\fns.length=(AD (cD.take i)).length/\
       zz S0 cD ov=((wX S (cD.drop i) d).bind λl d=> .ok ⟨S,n,fns++l⟩ d)/\
       x.rg.get 0=some (.P A.r)/\x.rg.get 16=some (.I fns.length)/\x.rg.get 151=some (.slice C4 cD.length)/\x.rg.get 152=some (.I cD.length)/\x.rg.get 153=some (.I i)):=⟨_,rfl⟩
      refine bz J3 cD.length ?_ ?_
      ·rw[HC];exact⟨0,[],d,bJ _,rfl,rfl,rfl,rfl,F0,cv,rfl,by rw[heq];simp,by simp[cP],sp,sp,sp,sp⟩
      intro m x u;rw[HC]at u;obtain⟨rg,n',L,ds,bX⟩:=x;obtain⟨i,fns,d2,hi,rfl,e1,e2,e3,F,mL,F2,heq,s0,HE,sl,sn,si⟩:=u;dsimp only at e1 e2 e3 F mL s0 HE sl sn si;subst e1 e2 e3;by_cases B:i<cD.length
      ·have C:i<qs.length:=om;have U:(i:Int)<(cD.length:Int):=om;have wi:=U8 i;obtain⟨b0,rfl,F6,FP⟩:∃b,C4=some (b,0)/\b∉A.Y/\h.get b=some (.D 1 (qs.map λp=> .P p.1)):=by
        rcases HG with⟨e,_⟩|⟨b,e,hb,g⟩
        ·rw[e]at C;simp at C
        ·rw[A3]at e;injection e with e _;exact⟨b,e,hb,g⟩
       have A4:=(mL.aH _ _ FP F6).1;have IH:(qs.map λp=>AV.P p.1)[i]?=some (.P qs[i].1):=(by simp[C]);have C6:qs[i]∈qs:=bk C;have ir:=(C2 _ C6).move mL;have K:cD[i]?=some qs[i].2:=(by rw[<-HP,bt,aj C];rfl);have D:cD.take (i+1)=cD.take i++[qs[i].2]:=(by rw[cy,K];rfl);have F1:cD.drop i=qs[i].2::cD.drop (i+1):=by
        rw[bs B];obtain⟨_,e⟩:=aV.1 K;rw[e]
       have aA:cD=cD.take i++cD.drop i:=(List.take_append_drop i cD).symm;have hit:qs[i].2∈cD:=bg K;generalize qs[i]=q at*;obtain⟨iq,it⟩:=q;simp only at IH ir K D hit F1;generalize (qs.map λp=>AV.P p.1)=FQ at*;rw[F1]at heq;cases it with
       |global p2 ty nm=>
        simp[sl,sn,si,U,A4,IH,ir.1,wi];refine⟨cD.length-(i+1),om,?_⟩;rw[HC];exact⟨i+1,fns,d2,B,rfl,rfl,rfl,rfl,F,mL,by rw[D,sk];simpa[AD]using F2,heq,by simp[s0],by simp[HE],by simp[sl],by simp[sn],sp⟩
       |struct p2 nm fs=>
        obtain⟨fv,gi,C7,_⟩:=ir;simp[sl,sn,si,U,A4,IH,gi,wi];refine⟨cD.length-(i+1),om,?_⟩;rw[HC];exact⟨i+1,fns,d2,B,rfl,rfl,rfl,rfl,F,mL,by rw[D,sk];simpa[AD]using F2,heq,by simp[s0],by simp[HE],by simp[sl],by simp[sn],sp⟩
       |func p2 ty nm ps b=>
        have dA:=ir;obtain⟨pv,aG,gi,C7,_⟩:=ir;obtain⟨pf,pn,dv,e0,e4,e5,aB,_⟩:=F.r;rw[<-rA,eo]at aB;have aC:=F.o;rw[eo]at aC;have Lp:S.fs[fns.length]?=some (Pm.sg nm ty ps):=by
         rw[a7,aA,F1,sk,F2,du (ao _)];simp[AD]
        have K6:fns.length<S.fs.length:=by
         rcases dJ fns.length S.fs.length with e|e
         ·exact e
         ·rw[ej e]at Lp;cases Lp
        have aD:fns.length<fo.length:=(by rw[F.fl];exact K6);have dB:fo[fns.length]?=some fo[fns.length]:=aj aD;obtain⟨e6,aE⟩:∃Lq,L.get fb=some (.cells Lq 1 (fo.map λa=> .P a)):=by
         rcases F.fa with⟨e,_⟩|⟨b,Lq,e,_,g⟩
         ·omega
         ·injection e with e _;injection e with e;injection e with e _;subst e;exact⟨Lq,g⟩
        have aF:(fo.map λa=>AV.P a)[fns.length]?=some (.P fo[fns.length]):=(by simp[F.fl,K6]);have dC:(fns.length:Int)<(S.fs.length:Int):=om;have wf:IntKind.wrap .i64 ((fns.length:Int)+1)=((fns.length+1:Nat):Int):=by
         have:=a6.fs.1;rw[wr om om];omega
        generalize fo[fns.length]=fx at*;generalize (fo.map λa=>AV.P a)=e7 at*;simp[s0,HE,sl,sn,si,U,A4,IH,gi,aB,aC,aE,aF,dC];rw[rA];refine Hs F a6 dA (al _ hit) (by have:=rZ hit;simp only[It.wt]at this;omega) dB Lp rfl _ ?_;simp only[wX,Rs.bind_assoc]at heq;generalize Ou S ps ty b d2.over=z at heq⊢;cases z with
        |err q=>
         intro h7 m7 f7;rw[heq]at V;simp;exact hE _ _ V ((mL.comp m7).self) f7
        |ok tt d7=>
         intro h7 F7 m7 n7;simp only[Rs.fP]at heq;simp[HE,si,wi,wf];refine⟨cD.length-(i+1),om,?_⟩;rw[HC];refine⟨i+1,_,d7,B,rfl,rfl,rfl,rfl,F7,mL.comp m7,by rw[D,sk];simp[AD,F2],?_,by simp[s0],sp,by simp[sl],by simp[sn],sp⟩;rw[heq];simp
      ·have GL:i=cD.length:=om;subst GL;rw[dV]at heq;simp only[wX,Rs.fP,fi]at heq;rw[heq]at V;simp[sn,si];exact hQ _ A' ⟨S,n,fns⟩ fo iP _ d2 ⟨rA.symm,eo,by rw[I1]⟩ V F mL.self
end
end
section
theorem F8(a b c:AV)(h:ah)(Q:Option AV->ah->Prop)(e:∀h',aJ h h'->Q none h'):jS env 39 [a,b,c] h none Q:=by
 refine jS.mk fn39.1 rfl (et rfl) ?_;refine WS.seq (WS.QF kr ?_);simp[Av,eQ];refine WS.seq (WS.region kr ?_);simp;refine WS.cond ?_;simp;refine WS.plain rfl ?_;simp;exact e _ (aJ.refl _)
theorem L3{a b c:Nat}(p:Pl){i:Option (Nat×Nat)}{o t c1:AV}(h:ah)(lt:a<h.nx/\b<h.nx/\c<h.nx)(Q:Option AV->ah->Prop)(ga:h.get a=some (.C [.ptr i]))(gb:h.get b=some (.C [o,t]))(gc:h.get c=some (.C [c1]))(nd:a≠b/\a≠c/\b≠c)
 (u:∀h',aR [a,b,c] h h'->h'.get a=some (.C [.N])->h'.get b=some (.C [.I p.1,.I p.2])->h'.get c=some (.C [.I 5])->Q none h'):jS env 39 [.P a,.P b,.P c] h (some (xX p)) Q:=by
 obtain⟨e,f,g⟩:=nd;obtain⟨la,w,lc⟩:=lt;have j:a≠h.nx:=om
 have m:b≠h.nx:=om
 have v:c≠h.nx:=om
 refine jS.mk fn39.1 rfl (et rfl) ?_;refine WS.seq (WS.QF kr ?_);simp[Av,eQ];refine WS.seq (WS.region kr ?_);simp;refine WS.cond ?_;simp;refine WS.seq (WS.region kr ?_);simp[oY];refine WS.seq (WS.seq (WS.region kr ?_));simp;refine WS.cond ?_;simp;refine WS.plain rfl ?_;simp;refine WS.draw ?_;refine Dd ?_;simp[ga,gb,gc,j,m,v,e.symm,f.symm,g.symm];have y:=j.symm;have A:=m.symm;refine dl ?_;exact u _ kX (by simp[e,f]) (by simp[g]) sp
section
variable{cD:nj}{id:Nat}{h:ah}{Q:Out->ah->Prop}
theorem BO.over{X Y:cB}{h h':ah}(m:Move X Y h h'){id:Nat}{cD:nj}(t:BO X h id cD):BO Y h' id cD:=t.yC m
theorem OG(t:BO [] h id cD)(al:∀i∈cD,i.al PT)(wt:IL cD<=250)(fr:bP h)
 (W:∀h' p e,(zC cD (.err p)/\e=5\/∃pr d,zC cD (.ok pr d)/\d.over=some p/\e=2)->Move [] [] h h'->bP h'->Q (.ret (.iO [.N,.agg [.I p.1,.I p.2],.I e])) h')
 (hQ:∀h' o pr d,zC cD (.ok pr d)->d.over=none->Move [] [] h h'->bP h'->Q (.ret (.iO [.P o,.agg [.I 0,.I 0],.I 0])) h'):
 ba env 19 [.P id] h Q:=by
 refine wd fn19 rfl ?_;simp[f19];obtain⟨H,v⟩:∃H,H=((((((((h.alloc (.C [.N])).2.alloc (.C [.I 0,.I 0])).2.alloc (.C [.I 0])).2.alloc (.C [.P id,.Z,.Z,.I 0])).2.alloc (.map [])).2.alloc (.map [])).2.alloc (.map [])).2.alloc (.C [.P (h.nx+3),.N,.map (some (h.nx+4)),.map (some (h.nx+5)),.map (some (h.nx+6)),.N,.map none,.Z,.I 0,.I 0,.N])).2:=⟨_,rfl⟩
 rw[<-v];have K:aJ h H:=by rw[v];exact kT
 have hn:H.nx=h.nx+8:=by rw[v];simp
 have fH:=K.fresh fr;obtain⟨A,C⟩:∃A:PA,A=⟨h.nx+7,h.nx+3,0,0,0,h.nx+4,h.nx+5,h.nx+6,.P id⟩:=⟨_,rfl⟩
 have g0:H.get h.nx=some (.C [.N]):=by rw[v];simp
 have g1:H.get (h.nx+1)=some (.C [.I 0,.I 0]):=by rw[v];simp
 have g2:H.get (h.nx+2)=some (.C [.I 0]):=by rw[v];simp
 have gr:H.get A.r=some (.C (A.GU (.N) (.N))):=by rw[v,C];simp[PA.GU]
 have go:H.get A.o=some (.C [A.tr,.Z,.Z,.I 0]):=by rw[v,C];simp
 have gf:H.get A.fm=some (.map []):=by rw[v,C];simp
 have gg:H.get A.gm=some (.map []):=by rw[v,C];simp
 have gu:H.get A.um=some (.map []):=by rw[v,C];simp
 have R:∀i,i<h.nx+3->i∉A.Y:=λi hi=>by rw[C];simp[PA.Y];omega
 have m0:Move [] A.Y h H:=(Move.k fr K).to fr λy Z=> .inr (by
  rw[C]at Z;simp only[PA.Y,ak,bm,cT]at Z;omega)
 have tH:=t.yC m0;have rA:h.nx+7=A.r:=by rw[C]
 have cl:∀b,Move A.Y A.Y H b->b.get h.nx=some (.C [.N])/\b.get (h.nx+1)=some (.C [.I 0,.I 0])/\b.get (h.nx+2)=some (.C [.I 0]):=λb m=>⟨(m.aH _ _ g0 (R _ om)).1,(m.aH _ _ g1 (R _ om)).1,(m.aH _ _ g2 (R _ om)).1⟩
 have fin:∀b j,Move A.Y A.Y H b->bP b->aR [h.nx,h.nx+1,h.nx+2] b j->Move [] [] h j/\bP j:=λb j m f k=>⟨⟨λi o g _=>by
  have hi:=aw fr g;have g2:=((m0.comp m).aH i o g sp).1;exact⟨(k.old i (aw f g2) IN).trans g2,sp⟩⟩,k.fresh f⟩
 clear v;rw[rA];refine OE gr go gf gg gu (by rw[C];simp[PA.Y]) fH tH al wt ?_ ?_
 ·intro b p hr m f;obtain⟨c0,c1,c2⟩:=cl b m;have l0:=aw f c0;have l1:=aw f c1;have l2:=aw f c2;simp;refine L3 p b ⟨l0,l1,l2⟩ _ c0 c1 c2 ⟨om,om,om⟩ λj k3 N I J=>?_;obtain⟨m3,f3⟩:=fin b j m f k3;simp[fp,N,I,J];exact W j p 5 (.inl ⟨hr,rfl⟩) m3 f3
 ·intro b S pr fo iP iX d U hr F m;obtain⟨c0,c1,c2⟩:=cl b m;have f:=F.fr;have l0:=aw f c0;have l1:=aw f c1;have l2:=aw f c2;obtain⟨e1,e2,e3⟩:=U;obtain⟨pf,pn,A1,A2,A3,V,w,u⟩:=F.r;rw[e1]at w;cases O:d.over with
  |none=>
   rw[O]at u;have u:V= .N:=u;subst u;simp[w,c0,c1,c2];obtain⟨j,a⟩:∃j,j=((b.set h.nx (.C [.P S.o])).set (h.nx+1) (.C [.I 0,.I 0])).set (h.nx+2) (.C [.I 0]):=⟨_,rfl⟩
   rw[<-a];have k3:aR [h.nx,h.nx+1,h.nx+2] b j:=(by rw[a];exact kX);refine F8 _ _ _ _ _ λB D=>?_;have f3:=k3.fresh f;have n3:=k3.nx;have N:B.get h.nx=some (.C [.P S.o]):=(D.old _ om).trans (by rw[a];simp);have I:B.get (h.nx+1)=some (.C [.I 0,.I 0]):=(D.old _ om).trans (by rw[a];simp);have J:B.get (h.nx+2)=some (.C [.I 0]):=(D.old _ om).trans (by rw[a];simp);obtain⟨m4,f4⟩:=fin b B m f (k3.trans (D.x _));simp[fp,N,I,J];exact hQ B S.o pr d hr O m4 f4
  |some p=>
   rw[O]at u;obtain⟨q,rfl,hq,P⟩:=u;have I:q≠h.nx:=λe=>by rw[e,c0]at P;simp at P
   have J:A.r≠h.nx:=(by rw[<-rA];omega);simp[w];refine Dd ?_;simp[w,P,c0,c1,c2];refine dn (And.intro w (And.intro P (And.intro c0 (And.intro c1 (And.intro c2 (And.intro I J)))))) ?_;obtain⟨j,a⟩:∃j,j=(((b.bump 9).set h.nx (.C [.N])).set (h.nx+1) (.C [.I p.1,.I p.2])).set (h.nx+2) (.C [.I 2]):=⟨_,rfl⟩
   rw[<-a];have k3:aR [h.nx,h.nx+1,h.nx+2] b j:=(by rw[a];exact kX);refine F8 _ _ _ _ _ λB D=>?_;have f3:=k3.fresh f;have n3:=k3.nx;have N:B.get h.nx=some (.C [.N]):=(D.old _ om).trans (by rw[a];simp);have I:B.get (h.nx+1)=some (.C [.I p.1,.I p.2]):=(D.old _ om).trans (by rw[a];simp);have J:B.get (h.nx+2)=some (.C [.I 2]):=(D.old _ om).trans (by rw[a];simp);obtain⟨m4,f4⟩:=fin b B m f (k3.trans (D.x _));simp[fp,N,I,J];exact W B p 2 (.inr ⟨pr,d,hr,O,rfl⟩) m4 f4
end
end
end Go.Proofs.YtaekaifihehgdaaGreatDoor
