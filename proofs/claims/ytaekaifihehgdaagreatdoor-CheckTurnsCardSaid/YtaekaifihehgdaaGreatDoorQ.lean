/- Lemmas for CheckTurns; each states its own conditions. -/
import Derived.Test.YtaekaifihehgdaaGreatDoorP
set_option maxRecDepth 100000
set_option maxHeartbeats 0
set_option linter.unusedSimpArgs false
set_option linter.unusedVariables false
namespace Go.Proofs.YtaekaifihehgdaaGreatDoor
open Go.Am Tryz
section
mutual
inductive vd:Ex->Ex->Prop
 |num {p q:Pl} {n:Int}:vd (.num p n) (.num q n)
 |var {p q:Pl} {s:List UInt8}:vd (.var p s) (.var q s)
 |un {p q:Pl} {o:List UInt8} {a b:Ex} (h:vd a b):vd (.un p o a) (.un q o b)
 |bin {p q:Pl} {o:List UInt8} {a b c d:Ex} (h:vd a b) (k:vd c d):vd (.bin p o a c) (.bin q o b d)
 |cast {p q:Pl} {o:List UInt8} {a b:Ex} (h:vd a b):vd (.cast p o a) (.cast q o b)
 |call {p q:Pl} {o:List UInt8} {l m:List Ex} (h:Gx l m):vd (.call p o l) (.call q o m)
 |index {p q:Pl} {a b c d:Ex} (h:vd a b) (k:vd c d):vd (.index p a c) (.index q b d)
 |fN {p q:Pl} {o:List UInt8} {a b:Ex} (h:vd a b):vd (.fN p o a) (.fN q o b)
 |arrow {p q:Pl} {o:List UInt8} {a b:Ex} (h:vd a b):vd (.arrow p o a) (.arrow q o b)
 |qp {p q:Pl}:vd (.qp p) (.qp q)
 |size {p q:Pl} {s:List UInt8}:vd (.size p s) (.size q s)
inductive Gx:List Ex->List Ex->Prop
 |nil:Gx [] []
 |cons {a b:Ex} {l m:List Ex} (h:vd a b) (k:Gx l m):Gx (a::l) (b::m)
end
def nd:Sm->Bool
 | .decl ..=>false
 |_=>true
inductive TF:Option Ex->Option Ex->Prop
 |none:TF none none
 |some {a b:Ex} (h:vd a b):TF (some a) (some b)
mutual
inductive AF:Sm->Sm->Prop
 |block {p q:Pl} {l m:List Sm} (h:Ez l m):AF (.block p l) (.block q m)
 |empty {p q:Pl}:AF (.empty p) (.empty q)
 |decl {p q:Pl} {t n:List UInt8} {a b:Option Ex} (h:TF a b):AF (.decl p t n a) (.decl q t n b)
 |assign {p q:Pl} {a b c d:Ex} (h:vd a b) (k:vd c d):AF (.assign p a c) (.assign q b d)
 |eval {p q:Pl} {a b:Ex} (h:vd a b):AF (.eval p a) (.eval q b)
 |ifs {p q:Pl} {a b:Ex} {s t:Sm} (h:vd a b) (k:Nx s t):AF (.ifs p a s) (.ifs q b t)
 |wD {p q:Pl} {a b:Ex} {s t u v:Sm} (h:vd a b) (k:Nx s t) (k2:Nx u v):AF (.wD p a s u) (.wD q b t v)
 |wE {p q:Pl} {a b:Ex} {s t:Sm} (h:vd a b) (k:Nx s t):AF (.wE p a s) (.wE q b t)
 |xq {p q:Pl}:AF (.xq p) (.xq q)
 |cont {p q:Pl}:AF (.cont p) (.cont q)
 |ret {p q:Pl} {a b:Option Ex} (h:TF a b):AF (.ret p a) (.ret q b)
 |out {p q:Pl} {a b:Ex} (h:vd a b):AF (.out p a) (.out q b)
inductive Nx:Sm->Sm->Prop
 |is {s t:Sm} (hn:nd s=true) (h:AF s t):Nx s t
 |wrap {q:Pl} {s t:Sm} (hn:nd s=true) (h:AF s t):Nx s (.block q [t])
inductive Ez:List Sm->List Sm->Prop
 |nil:Ez [] []
 |cons {a b:Sm} {l m:List Sm} (h:AF a b) (k:Ez l m):Ez (a::l) (b::m)
end
theorem vd.FE{a b:Ex}(h:vd a b):FE a=FE b:=by cases h<;>rfl
theorem Gx.len{l m:List Ex}(h:Gx l m):l.length=m.length:=by
 induction m generalizing l with
 |nil=>cases h;rfl
 |cons b m a=>cases h with|cons _ k=>simp[a k]
def Hq(x y:TX):Prop:=x.d.kd=y.d.kd/\x.d.ty=y.d.ty/\x.d.v=y.d.v
structure Dq(c:Bool)(d e:Dn):Prop where
 vs:e.vs=d.vs
 seen:e.seen=d.seen
 oT:e.oT=d.oT
 loops:e.loops=d.loops
 bytes:e.bytes=d.bytes
 over:e.over.isSome=(c||d.over.isSome)
def Rq{α β:Type}(c:Bool)(R:α->β->Prop):Rs α->Rs β->Prop
 | .ok a d,.ok b e=>R a b/\Dq c d e
 | .err _,.err _=>True
 |_,_=>False
section
variable{c:Bool}{α β γ δ:Type}{R:α->β->Prop}{R':γ->δ->Prop}
theorem Rq.bind{r:Rs α}{s:Rs β}{f:α->Dn->Rs γ}{g:β->Dn->Rs δ}(h:Rq c R r s)(k:∀a b d e,R a b->Dq c d e->Rq c R' (f a d) (g b e)):Rq c R' (r.bind f) (s.bind g):=by
 cases r<;>cases s<;>first|exact k _ _ _ _ h.1 h.2|exact h.elim|trivial
theorem Rq.fV{r:Rs α}{s:Rs β}{x y:Bool}{p q:Pl}(e:x=y)(h:x=true->Rq c R r s):Rq c R (Rs.fV x p r) (Rs.fV y q s):=by
 subst e;cases x
 ·trivial
 ·exact h rfl
theorem Dq.nz{d e:Dn}(h:Dq c d e)(b:Bool)(p q:Pl):Dq c (d.nz b p) (e.nz b q):=by
 obtain⟨a,f,g,i,j,m⟩:=h;unfold Dn.nz;cases b
 ·cases o:d.over<;>cases he:e.over<;>rw[o,he]at m<;>refine⟨a,f,g,i,j,?_⟩<;>simp_all
 ·exact⟨a,f,g,i,j,m⟩
end
def zL(fs:List Sg)(f:List UInt8):Option Sg:=match oy f (fs.map Sg.nm) 0 with
 |none=>none
 |some n=>fs[n]?
structure SQ(S S':Sc):Prop where
 sz:∀t,oA S'.N S'.es t=oA S.N S.es t
 sc:∀t,GR S'.N S'.es t=GR S.N S.es t
 pk:∀a b l i,pO S' a b l i=pO S a b l i
 fm:S'.fm=S.fm
 gs:S'.gs=S.gs
 fs:∀f,zL S.fs f=zL S'.fs f
section
variable{c:Bool}{S S':Sc}
theorem SQ.sN(a:SQ S S')(t:bu):Go.Proofs.YtaekaifihehgdaaGreatDoor.sN S' t=Go.Proofs.YtaekaifihehgdaaGreatDoor.sN S t:=a.sc t
theorem MF(a:SQ S S'){d e:Dn}(h:Dq c d e)(ty:bu)(p q:Pl):Rq c Eq (Cj S ty p d) (Cj S' ty q e):=by
 unfold Cj;rw[a.sz];exact Rq.fV rfl λ_=>⟨rfl,h.nz _ _ _⟩
theorem Tl(a:SQ S S'){d e:Dn}(h:Dq c d e){x y:TX}(k:Hq x y)(p q:Pl):Rq c Hq (Nu S x p d) (Nu S' y q e):=by
 obtain⟨k1,k2,k3⟩:=k;unfold Nu;simp only[TX.place,TX.ty,k1,k2];split
 ·exact⟨⟨k1,k2,k3⟩,h⟩
 ·split
  ·exact⟨⟨rfl,by rw[TX.d,TX.d],rfl⟩,h⟩
  ·exact Rq.fV (a.sN _).symm λ_=>⟨⟨k1,k2,k3⟩,h⟩
theorem sU(a:SQ S S'){r s:Rs TX}(h:Rq c Hq r s)(p q:Pl):Rq c Hq (wV S r p) (wV S' s q):=h.bind λ_ _ _ _ k h=>Tl a h k p q
theorem HL(a:SQ S S'){r s:Rs TX}(h:Rq c Hq r s)(p q:Pl):Rq c Hq (FD S r p) (FD S' s q):=(sU a h p q).bind λ_ _ _ _ k h=>Rq.fV (by rw[TX.ty,TX.ty,k.2.1]) λ_=>⟨k,h⟩
theorem wg(a:SQ S S'){r s:Rs TX}(h:Rq c Hq r s)(p q:Pl):Rq c Hq (ux S r p) (ux S' s q):=(sU a h p q).bind λ_ _ _ _ k h=>Rq.fV (by rw[TX.ty,TX.ty,k.2.1]) λ_=>⟨k,h⟩
theorem P3{x y:TX}(k:Hq x y)(ty:bu)(n:Int):Hq (N6 x ty n) (N6 y ty n):=⟨rfl,rfl,rfl⟩
theorem EA(e:SQ S S'){r s:Rs TX}(h:Rq c Hq r s){a b:Ex}(k:vd a b)(ty:bu):Rq c Hq (BD S r a ty) (BD S' s b ty):=
 (sU e h _ _).bind λ_ _ _ _ m h=>Rq.fV (by rw[N7,N7,TX.ty,TX.ty,m.2.1,k.FE]) λ_=>⟨P3 m _ _,h⟩
theorem Gy(a:SQ S S'){d e:Dn}(h:Dq c d e)(ty:bu)(p q:Pl):Rq c Eq (N8 S ty p d) (N8 S' ty q e):=
 Rq.fV rfl λ_=>(MF a h _ p q).bind λ_ _ _ _ k h=>⟨by rw[k],h⟩
theorem P4(a:SQ S S'){d e:Dn}(h:Dq c d e)(ty nm:bu)(p q:Pl):Rq c Eq (N9 S ty nm p d) (N9 S' ty nm q e):=by
 unfold N9;refine Rq.fV rfl λ_=>?_;rw[a.fm];show Rq c Eq (match lN _ S.fm with|none=>_|some fl=>_) (match lN _ S.fm with|none=>_|some fl=>_);cases lN (Lib.trimPrefix ty iN) S.fm with
 |none=>trivial
 |some fl=>
  show Rq c Eq (match xH nm fl 0 with|none=>_|some i=>_) (match xH nm fl 0 with|none=>_|some i=>_);cases xH nm fl 0 with
  |none=>trivial
  |some i=>exact⟨(a.pk _ _ _ _).symm,h⟩
theorem RB(a:SQ S S'){d e:Dn}(h:Dq c d e)(s:bu)(p q:Pl):Rq c Hq (Ck S s p d) (Ck S' s q e):=by
 unfold Ck;rw[h.vs,h.seen,a.gs];cases xI s d.vs d.seen with
 |some k=>exact⟨⟨rfl,rfl,rfl⟩,h⟩
 |none=>
  show Rq c Hq (match oy s (S.gs.map Gl.nm) 0 with|some n=>_|none=>_) (match oy s (S.gs.map Gl.nm) 0 with|some n=>_|none=>_);cases oy s (S.gs.map Gl.nm) 0 with
  |some n=>exact⟨⟨rfl,rfl,rfl⟩,h⟩
  |none=>trivial
theorem Tm(b:SQ S S'){d e:Dn}(h:Dq c d e){x y f a:TX}(k:Hq x f)(k2:Hq y a)(op:Int)(p q:Pl):Rq c Hq (BE S x y op p d) (BE S' f a op q e):=by
 unfold BE;simp only[TX.ty,k2.2.1];cases(op==11&&BC a.d.ty)
 ·simp only[k.2.1,k2.2.1];exact Rq.fV rfl λ_=>(Gy b h _ p q).bind λ_ _ _ _ m h=>⟨⟨rfl,rfl,rfl⟩,h⟩
 ·simp only[k.2.1,k2.2.1];exact Rq.fV rfl λ_=>(Gy b h _ p q).bind λ_ _ _ _ m h=>⟨⟨rfl,rfl,rfl⟩,h⟩
theorem Tn(o:SQ S S'){d e:Dn}(h:Dq c d e){x y f g:TX}(k:Hq x f)(k2:Hq y g){a b i j:Ex}(m:vd a i)(m2:vd b j)(op:Int)(p q:Pl):Rq c Hq (Oa S x y a b op p d) (Oa S' f g i j op q e):=by
 unfold Oa;simp only[TX.ty,k.2.1,k2.2.1,m.FE,m2.FE];split
 ·exact Rq.fV rfl λ_=>⟨⟨rfl,rfl,rfl⟩,h⟩
 ·split
  ·exact⟨⟨rfl,rfl,rfl⟩,h⟩
  ·exact Tm o h k k2 op p q
theorem To(a:SQ S S'){d e:Dn}(h:Dq c d e){x y:TX}(k:Hq x y)(p q:Pl):Rq c Hq (QU S x p d) (QU S' y q e):=by
 unfold QU;obtain⟨k1,k2,k3⟩:=k;simp only[T6,TX.place,TX.ty,k1,k2,k3,a.sN];refine Rq.fV rfl λ_=>⟨⟨rfl,rfl,rfl⟩,?_⟩
 split
 ·obtain⟨b,f,g,i,j,m⟩:=h;exact⟨by simp[Dn.take,b],f,g,i,j,m⟩
 ·exact h
theorem RC(a:SQ S S'){d e:Dn}(h:Dq c d e){x y:TX}(k:Hq x y)(ty:bu)(p q:Pl):Rq c Hq (LC S x ty p d) (LC S' y ty q e):=by
 unfold LC;simp only[TX.ty,k.2.1,a.sN];exact Rq.fV rfl λ_=>⟨P3 k _ _,h⟩
theorem RD(a:SQ S S'){d e:Dn}(h:Dq c d e){x y:TX}(k:Hq x y)(nm:bu)(p q:Pl):Rq c Hq (JJ S x nm p d) (JJ S' y nm q e):=by
 unfold JJ;simp only[TX.place,TX.ty,k.1,k.2.1];exact Rq.fV rfl λ_=>(P4 a h _ _ p q).bind λ_ _ _ _ m h=>by subst m;exact⟨⟨rfl,rfl,rfl⟩,h⟩
theorem RE(a:SQ S S'){d e:Dn}(h:Dq c d e){x y:TX}(k:Hq x y)(nm:bu)(p q:Pl):Rq c Hq (JK S x nm p d) (JK S' y nm q e):=by
 unfold JK;simp only[TX.ty,k.2.1];exact(Gy a h _ p q).bind λ_ _ _ _ m h=>by rw[m];exact(P4 a h _ _ p q).bind λ_ _ _ _ m h=>by subst m;exact⟨⟨rfl,rfl,rfl⟩,h⟩
mutual
theorem mX(g:SQ S S'):∀{a b:Ex}(_:vd a b){d e:Dn}(_:Dq c d e),Rq c Hq (jv S a d) (jv S' b e)
 |_,_,.num,_,_,h=>⟨⟨rfl,rfl,rfl⟩,h⟩
 |_,_,.var,_,_,h=>RB g h _ _ _
 |_,_,.qp,_,_,h=>⟨⟨rfl,rfl,rfl⟩,h⟩
 |_,_,.size,_,_,h=>(MF g h _ _ _).bind λ_ _ _ _ m h=>⟨⟨rfl,rfl,rfl⟩,h⟩
 |_,_,.un k,_,_,h=>by
  have j:=mX g k h;simp only[jv];split
  ·exact(wg g j _ _).bind λ_ _ _ _ m h=>⟨⟨rfl,rfl,rfl⟩,h⟩
  ·split
   ·exact(sU g j _ _).bind λ_ _ _ _ m h=>by rw[TX.ty,TX.ty,m.2.1];exact(Gy g h _ _ _).bind λ_ _ _ _ m h=>by subst m;exact⟨⟨rfl,rfl,rfl⟩,h⟩
   ·split
    ·exact j.bind λ_ _ _ _ m h=>To g h m _ _
    ·exact(HL g j _ _).bind λ_ _ _ _ m h=>⟨⟨rfl,by show(tQ _ _).1=(tQ _ _).1;rw[TX.ty,TX.ty,m.2.1],rfl⟩,h⟩
 |_,_,.bin k k2,_,_,h=>by
  have j:=mX g k h;simp only[jv];split
  ·exact(wg g j _ _).bind λ_ _ _ _ m h=>(wg g (mX g k2 h) _ _).bind λ_ _ _ _ m h=>⟨⟨rfl,rfl,rfl⟩,h⟩
  ·split
   ·exact(wg g j _ _).bind λ_ _ _ _ m h=>(wg g (mX g k2 h) _ _).bind λ_ _ _ _ m h=>⟨⟨rfl,rfl,rfl⟩,h⟩
   ·exact(sU g j _ _).bind λ_ _ _ _ m h=>(sU g (mX g k2 h) _ _).bind λ_ _ _ _ m2 h=>Tn g h m m2 k k2 _ _ _
 |_,_,.cast k,_,_,h=>(sU g (mX g k h) _ _).bind λ_ _ _ _ m h=>RC g h m _ _ _
 |_,_,.index k k2,_,_,h=>(sU g (mX g k h) _ _).bind λ_ _ _ _ m h=>(HL g (mX g k2 h) _ _).bind λ_ _ _ _ m2 h=>by
  rw[TX.ty,TX.ty,m.2.1];exact(Gy g h _ _ _).bind λ_ _ _ _ m h=>by subst m;exact⟨⟨rfl,rfl,rfl⟩,h⟩
 |_,_,.fN k,_,_,h=>(mX g k h).bind λ_ _ _ _ m h=>RD g h m _ _ _
 |_,_,.arrow k,_,_,h=>(sU g (mX g k h) _ _).bind λ_ _ _ _ m h=>RE g h m _ _ _
 |_,_,.call (o:=f) (l:=l) (m:=m) k,d,e,h=>by
  have i:=g.fs f;unfold zL at i;simp only[jv];show Rq c Hq _ (match oy f (S'.fs.map Sg.nm) 0 with|none=>_|some n=>match S'.fs[n]? with|none=>_|some s=>_);have fin:∀s:Sg,∀n u p q,Rq c Hq (Rs.fV (!(f==[109,97,105,110])) p (Rs.fV (s.ps.length==l.length) p ((CN S l s.ps d).bind λl d=> .ok (.mk ⟨16,s.ty,0,n,0,false,none⟩ l) d)))
   (Rs.fV (!(f==[109,97,105,110])) q (Rs.fV (s.ps.length==m.length) q ((CN S' m s.ps e).bind λl d=> .ok (.mk ⟨16,s.ty,0,u,0,false,none⟩ l) d))):=λs n u p q=>
   Rq.fV rfl λ_=>Rq.fV (by rw[k.len]) λ_=>(P5 g k s.ps h).bind λ_ _ _ _ _ h=>⟨⟨rfl,rfl,rfl⟩,h⟩
  cases e1:oy f (S.fs.map Sg.nm) 0 with
  |none=>
   rw[e1]at i;cases e2:oy f (S'.fs.map Sg.nm) 0 with
   |none=>trivial
   |some t=>
    rw[e2]at i;replace i:none=S'.fs[t]?:=i;show Rq c Hq _ (match S'.fs[t]? with|none=>_|some s=>_);rw[<-i];trivial
  |some n=>
   rw[e1]at i;show Rq c Hq (match S.fs[n]? with|none=>_|some s=>_) _;cases e2:oy f (S'.fs.map Sg.nm) 0 with
   |none=>
    rw[e2]at i;replace i:S.fs[n]?=none:=i;rw[i];trivial
   |some t=>
    rw[e2]at i;replace i:S.fs[n]?=S'.fs[t]?:=i;show Rq c Hq _ (match S'.fs[t]? with|none=>_|some s=>_);rw[<-i];cases S.fs[n]? with
    |none=>trivial
    |some s=>exact fin s _ _ _ _
theorem P5(b:SQ S S'):∀{l m:List Ex}(_:Gx l m)(a:List (bu)){d e:Dn}(_:Dq c d e),Rq c (λ_ _=>True) (CN S l a d) (CN S' m a e)
 |_,_,.nil,_,_,_,h=>by simp only[CN];exact⟨trivial,h⟩
 |_,_,.cons k k2,[],_,_,h=>by simp only[CN];exact⟨trivial,h⟩
 |_,_,.cons k k2,t::a,_,_,h=>by
  simp only[CN];exact(EA b (mX b k h) k t).bind λ_ _ _ _ _ h=>(P5 b k2 a h).bind λ_ _ _ _ _ h=>⟨trivial,h⟩
end
end
end
section
mutual
def wO:Sm->Prop
 | .block _ l=>MG l
 | .ifs _ _ s=>nd s=true/\wO s
 | .wD _ _ s t=>nd s=true/\wO s/\nd t=true/\wO t
 | .wE _ _ s=>nd s=true/\wO s
 |_=>True
def MG:List Sm->Prop
 |[]=>True
 |s::l=>wO s/\MG l
end
mutual
theorem AF.wO:∀{s t:Sm}(_:AF s t),Go.Proofs.YtaekaifihehgdaaGreatDoor.wO s
 |_,_,.block h=>by simp only[Go.Proofs.YtaekaifihehgdaaGreatDoor.wO];exact h.wO
 |_,_,.empty=>by simp only[Go.Proofs.YtaekaifihehgdaaGreatDoor.wO]
 |_,_,.decl _=>by simp only[Go.Proofs.YtaekaifihehgdaaGreatDoor.wO]
 |_,_,.assign _ _=>by simp only[Go.Proofs.YtaekaifihehgdaaGreatDoor.wO]
 |_,_,.eval _=>by simp only[Go.Proofs.YtaekaifihehgdaaGreatDoor.wO]
 |_,_,.ifs _ k=>by simp only[Go.Proofs.YtaekaifihehgdaaGreatDoor.wO];exact k.wO
 |_,_,.wD _ k k2=>by simp only[Go.Proofs.YtaekaifihehgdaaGreatDoor.wO];exact⟨k.wO.1,k.wO.2,k2.wO⟩
 |_,_,.wE _ k=>by simp only[Go.Proofs.YtaekaifihehgdaaGreatDoor.wO];exact k.wO
 |_,_,.xq=>by simp only[Go.Proofs.YtaekaifihehgdaaGreatDoor.wO]
 |_,_,.cont=>by simp only[Go.Proofs.YtaekaifihehgdaaGreatDoor.wO]
 |_,_,.ret _=>by simp only[Go.Proofs.YtaekaifihehgdaaGreatDoor.wO]
 |_,_,.out _=>by simp only[Go.Proofs.YtaekaifihehgdaaGreatDoor.wO]
theorem Nx.wO:∀{s t:Sm}(_:Nx s t),nd s=true/\Go.Proofs.YtaekaifihehgdaaGreatDoor.wO s
 |_,_,.is a h=>⟨a,h.wO⟩
 |_,_,.wrap a h=>⟨a,h.wO⟩
theorem Ez.wO:∀{l m:List Sm}(_:Ez l m),MG l
 |_,_,.nil=>by simp only[MG]
 |_,_,.cons h k=>by simp only[MG];exact⟨h.wO,k.wO⟩
end
mutual
theorem MI:∀x:Ex,x.al (λ_=>True) λ_=>True
 | .num _ _=>trivial
 | .var _ _=>trivial
 | .un _ _ a=>⟨trivial,MI a⟩
 | .bin _ _ a b=>⟨trivial,MI a,MI b⟩
 | .cast _ _ a=>⟨trivial,trivial,MI a⟩
 | .call _ _ l=>⟨trivial,Tp l⟩
 | .index _ a b=>⟨trivial,MI a,MI b⟩
 | .fN _ _ a=>⟨trivial,MI a⟩
 | .arrow _ _ a=>⟨trivial,MI a⟩
 | .qp _=>trivial
 | .size _ _=>⟨trivial,trivial⟩
theorem Tp:∀l:List Ex,Pw (λ_=>True) (λ_=>True) l
 |[]=>trivial
 |x::l=>⟨MI x,Tp l⟩
end
section
variable{S:Sc}{rt:bu}
abbrev T1:Pl->Prop:=λ_=>True
theorem BX(x:Ex)(d:Dn):(jv S x d).H (λ_ e=>FL d e) T1:=j9 (T:=λ_=>True) x d (.refl d) (MI x)
theorem HM(x:Ex)(ty:bu)(d:Dn):(BD S (jv S x d) x ty).H (λ_ e=>FL d e) T1:=zt (BX x d) trivial ty
theorem HN(x:Ex)(d:Dn):(ux S (jv S x d) x.pos).H (λ_ e=>FL d e) T1:=pR (BX x d) trivial
abbrev SN(s:Sm)(d e:Dn):Prop:=d.seen<+:e.seen/\(nd s=true->wO s->e.seen=d.seen)
theorem SN.of{s:Sm}{d e:Dn}(h:e.seen=d.seen):SN s d e:=⟨h▸List.prefix_refl _,λ_ _=>h⟩
theorem Tq(nm ty:bu)(p:Pl)(d:Dn):(JL S nm ty false p d).H (λ_ e=>d.seen<+:e.seen) T1:=
 Rs.cG trivial λ_=>Rs.bq (IG (I:=FL {d with oT:=d.oT++[nm]}) (.refl _) trivial ty) λn e h=>by
  show d.seen<+:(e.add nm ty n false (sN S ty) p).seen;have e1:=(Dn.nR e (decide (e.vs.length<200)) p).2.1;unfold Dn.add;simp only[(Dn.nR _ _ p).2.1];rw[e1,h.seen];exact List.prefix_append _ _
mutual
theorem zM:∀(s:Sm)(d:Dn),(jk S rt s d).H (λ_ e=>SN s d e) T1
 | .block _ l,d=>by
  simp only[jk];refine Rs.bq (MJ l d) λg e h=>?_;exact .of (List.prefix_iff_eq_take.1 h).symm
 | .empty _,d=>by simp only[jk];exact .of rfl
 | .decl p ty nm x,d=>by
  simp only[jk];refine Rs.bq (Tq nm ty p d) λk e h=>?_;have fin:∀e':Dn,e'.seen=e.seen->SN (.decl p ty nm x) d e':=λe' h'=>⟨h'▸h,λf=>by simp[nd]at f⟩
  cases x with
  |none=>exact fin _ rfl
  |some x=>exact Rs.cG trivial λ_=>Rs.bq (HM x ty e) λ_ e2 a=>fin _ a.seen
 | .assign p to x,d=>by
  simp only[jk];exact Rs.bq (BX to d) λt e h=>Rs.cG trivial λ_=>Rs.bq (HM x t.ty e) λ_ e2 a=> .of (a.seen.trans h.seen)
 | .eval _ x,d=>by
  simp only[jk];exact Rs.bq (pQ (BX x d) trivial) λ_ _ h=> .of h.seen
 | .ifs _ x s,d=>by
  simp only[jk];exact Rs.bq (HN x d) λ_ e h=>Rs.bq (zM s e) λ_ e2 a=>⟨h.seen▸a.1,λ_ w=>(a.2 w.1 w.2).trans h.seen⟩
 | .wD _ x s t,d=>by
  simp only[jk];exact Rs.bq (HN x d) λ_ e h=>Rs.bq (zM s e) λ_ e2 a=>Rs.bq (zM t e2) λ_ e3 b=>
   ⟨(h.seen▸a.1).trans b.1,λ_ w=>(b.2 w.2.2.1 w.2.2.2).trans ((a.2 w.1 w.2.1).trans h.seen)⟩
 | .wE _ x s,d=>by
  simp only[jk];exact Rs.bq (HN x d) λ_ e h=>Rs.bq (zM s {e with loops:=e.loops+1}) λ_ e2 a=>⟨h.seen▸a.1,λ_ w=>(a.2 w.1 w.2).trans h.seen⟩
 | .xq _,d=>by simp only[jk];exact Rs.cG trivial λ_=> .of rfl
 | .cont _,d=>by simp only[jk];exact Rs.cG trivial λ_=> .of rfl
 | .ret _ none,d=>by simp only[jk];exact Rs.cG trivial λ_=> .of rfl
 | .ret _ (some x),d=>by
  simp only[jk];exact Rs.cG trivial λ_=>Rs.bq (HM x rt d) λ_ _ h=> .of h.seen
 | .out _ x,d=>by
  simp only[jk];exact Rs.bq (BM (BX x d) trivial) λ_ _ h=> .of h.seen
theorem MJ:∀(l:List Sm)(d:Dn),(wW S rt l d).H (λ_ e=>d.seen<+:e.seen) T1
 |[],d=>by simp only[wW];exact List.prefix_refl _
 |s::l,d=>by
  simp only[wW];exact Rs.bq (zM s d) λ_ e h=>Rs.bq (MJ l e) λ_ e2 a=>h.1.trans a
end
end
end
section
section
variable{c:Bool}{S S':Sc}{rt:bu}
theorem Dq.nm{d e:Dn}(h:Dq c d e)(nm:bu):Dq c {d with oT:=d.oT++[nm]} {e with oT:=e.oT++[nm]}:=⟨h.vs,h.seen,by rw[h.oT],h.loops,h.bytes,h.over⟩
theorem Dq.lp{d e:Dn}(h:Dq c d e)(k:Int):Dq c {d with loops:=d.loops+k} {e with loops:=e.loops+k}:=⟨h.vs,h.seen,h.oT,by rw[h.loops],h.bytes,h.over⟩
theorem Dq.by{d e:Dn}(h:Dq c d e)(k:Int):Dq c {d with bytes:=d.bytes+k} {e with bytes:=e.bytes+k}:=⟨h.vs,h.seen,h.oT,h.loops,by rw[h.bytes],h.over⟩
theorem Dq.add{d e:Dn}(h:Dq c d e)(nm ty:bu)(n:Int)(par sc:Bool)(p q:Pl):Dq c (d.add nm ty n par sc p) (e.add nm ty n par sc q):=by
 unfold Dn.add;have b:=h.nz (decide (d.vs.length<200)) p q;simp only[h.vs];generalize d.nz (decide (d.vs.length<200)) p=d1 at b⊢;generalize e.nz (decide (d.vs.length<200)) q=e1 at b⊢;have f:=b.by ((n+7)/8*8);simp only[b.bytes]at f⊢;have a:=f.nz (decide (d1.bytes+(n+7)/8*8<=65536)) p q;generalize Dn.nz _ (decide (d1.bytes+(n+7)/8*8<=65536)) p=d3 at a⊢;generalize Dn.nz _ (decide (d1.bytes+(n+7)/8*8<=65536)) q=e3 at a⊢;exact⟨by simp only[a.vs],by simp only[a.vs,a.seen],a.oT,a.loops,a.bytes,a.over⟩
theorem P6(a:SQ S S'){d e:Dn}(h:Dq c d e)(nm ty:bu)(par:Bool)(p q:Pl):Rq c (λ_ _=>True) (JL S nm ty par p d) (JL S' nm ty par q e):=
 Rq.fV (by rw[h.oT]) λ_=>(MF a (h.nm nm) ty p q).bind λ_ _ _ _ m h=>by subst m;rw[a.sN];exact⟨trivial,h.add nm ty _ par _ p q⟩
mutual
theorem Jb(a:SQ S S'):∀{s t:Sm}(_:AF s t){d e:Dn}(_:Dq c d e),Rq c (λ_ _=>True) (jk S rt s d) (jk S' rt t e)
 |_,_,.block k,d,e,h=>by
  simp only[jk];exact(P7 a k h).bind λ_ _ _ _ _ m=>⟨trivial,m.vs,by simp only[m.seen,h.seen],m.oT,m.loops,m.bytes,m.over⟩
 |_,_,.empty,_,_,h=>by simp only[jk];exact⟨trivial,h⟩
 |_,_,.decl k,_,_,h=>by
  simp only[jk];refine(P6 a h _ _ _ _ _).bind λ_ _ _ _ _ h=>?_;cases k with
  |none=>exact⟨trivial,h⟩
  |some k=>exact Rq.fV (a.sN _).symm λ_=>(EA a (mX a k h) k _).bind λ_ _ _ _ _ h=>⟨trivial,h⟩
 |_,_,.assign k k2,_,_,h=>by
  simp only[jk];exact(mX a k h).bind λ_ _ _ _ m h=>Rq.fV (by rw[TX.place,TX.place,TX.ty,TX.ty,m.1,m.2.1,a.sN]) λ_=>by
   rw[TX.ty,TX.ty,m.2.1];exact(EA a (mX a k2 h) k2 _).bind λ_ _ _ _ _ h=>⟨trivial,h⟩
 |_,_,.eval k,_,_,h=>by simp only[jk];exact(sU a (mX a k h) _ _).bind λ_ _ _ _ _ h=>⟨trivial,h⟩
 |_,_,.ifs k b,_,_,h=>by
  simp only[jk];exact(wg a (mX a k h) _ _).bind λ_ _ _ _ _ h=>(Jc a b h).bind λ_ _ _ _ _ h=>⟨trivial,h⟩
 |_,_,.wD k b f,_,_,h=>by
  simp only[jk];exact(wg a (mX a k h) _ _).bind λ_ _ _ _ _ h=>(Jc a b h).bind λ_ _ _ _ _ h=>(Jc a f h).bind λ_ _ _ _ _ h=>⟨trivial,h⟩
 |_,_,.wE k b,_,_,h=>by
  simp only[jk];exact(wg a (mX a k h) _ _).bind λ_ _ _ _ _ h=>(Jc a b (h.lp 1)).bind λ_ _ _ _ _ h=>⟨trivial,h.lp (-1)⟩
 |_,_,.xq,_,_,h=>by simp only[jk];exact Rq.fV (by rw[h.loops]) λ_=>⟨trivial,h⟩
 |_,_,.cont,_,_,h=>by simp only[jk];exact Rq.fV (by rw[h.loops]) λ_=>⟨trivial,h⟩
 |_,_,.ret .none,_,_,h=>by simp only[jk];exact Rq.fV rfl λ_=>⟨trivial,h⟩
 |_,_,.ret (.some k),_,_,h=>by simp only[jk];exact Rq.fV rfl λ_=>(EA a (mX a k h) k _).bind λ_ _ _ _ _ h=>⟨trivial,h⟩
 |_,_,.out k,_,_,h=>by simp only[jk];exact(HL a (mX a k h) _ _).bind λ_ _ _ _ _ h=>⟨trivial,h⟩
theorem Jc(i:SQ S S'):∀{s t:Sm}(_:Nx s t){d e:Dn}(_:Dq c d e),Rq c (λ_ _=>True) (jk S rt s d) (jk S' rt t e)
 |_,_,.is _ k,_,_,h=>Jb i k h
 |s,_,.wrap (t:=t) o k,d,e,h=>by
  have f:=Jb i k h;have k1:=zM (S:=S) (rt:=rt) s d;simp only[jk,wW];cases j:jk S rt s d with
  |err p=>
   rw[j]at f;cases g:jk S' rt t e with
   |err q=>trivial
   |ok a d2=>rw[g]at f;exact f.elim
  |ok a d1=>
   rw[j]at f k1;cases g:jk S' rt t e with
   |err q=>rw[g]at f;exact f.elim
   |ok b e1=>
    rw[g]at f;have m:=f.2;have ks:d1.seen=d.seen:=k1.2 o k.wO;exact⟨trivial,m.vs,by simp only[m.seen,ks,h.seen,cF],m.oT,m.loops,m.bytes,m.over⟩
theorem P7(a:SQ S S'):∀{l m:List Sm}(_:Ez l m){d e:Dn}(_:Dq c d e),Rq c (λ_ _=>True) (wW S rt l d) (wW S' rt m e)
 |_,_,.nil,_,_,h=>by simp only[wW];exact⟨trivial,h⟩
 |_,_,.cons k k2,_,_,h=>by
  simp only[wW];exact(Jb a k h).bind λ_ _ _ _ _ h=>(P7 a k2 h).bind λ_ _ _ _ _ h=>⟨trivial,h⟩
end
end
end
section
def Gz{α:Type}(r:Rs α):Prop:=∃a d,r= .ok a d/\d.over=none
theorem Rq.Uw{α β:Type}{R:α->β->Prop}{r:Rs α}{s:Rs β}(h:Rq false R r s):Gz r↔Gz s:=by
 cases r with
 |err p=>cases s with
  |err q=>exact⟨(λ⟨_,_,e,_⟩=>by cases e),(λ⟨_,_,e,_⟩=>by cases e)⟩
  |ok b e=>exact h.elim
 |ok a d=>cases s with
  |err q=>exact h.elim
  |ok b e=>
   have:=h.2.over;simp only[kM]at this;refine⟨λ⟨_,_,e1,e2⟩=>?_,λ⟨_,_,e1,e2⟩=>?_⟩<;>cases e1<;>exact⟨_,_,rfl,by rw[e2]at this;simpa using this⟩
structure Fu where
 ty:List UInt8
 nm:List UInt8
 ps:List Pm
 b:Sm
def Fu.sg(f:Fu):Sg:=Pm.sg f.nm f.ty f.ps
def uX:List It->List (List UInt8×List UInt8)
 |[]=>[]
 | .global _ ty nm::l=>(ty,nm)::uX l
 |_::l=>uX l
def jW:List It->List Fu
 |[]=>[]
 | .func _ ty nm ps b::l=>⟨ty,nm,ps,b⟩::jW l
 |_::l=>jW l
def EB(base:List (List UInt8)):List (List UInt8)->Prop
 |[]=>True
 |x::l=>x∉base/\EB (base++[x]) l
theorem GB:∀(l base:List (bu)),EB base l↔(l.Nodup/\∀x∈l,x∉base)
 |[],base=>by simp[EB]
 |x::l,base=>by
  simp only[EB,GB l,fh,aP,ak];constructor
  ·rintro⟨f,g,b⟩
   exact⟨⟨λi=>b x i (.inr (.inl rfl)),g⟩,λy a=>a.elim (λe=>e▸f) λa j=>b y a (.inl j)⟩
  ·rintro⟨⟨f,g⟩,b⟩
   exact⟨b x (.inl rfl),g,λy a h=>h.elim (b y (.inr a)) λe=>f ((show y=x from U7 e)▸a)⟩
section
variable(N:List (bu))(es:List jV)
def R9(g:List UInt8×List UInt8):Prop:=(oA N es g.1).2.2=0
def okF(f:Fu):Prop:=(f.ty=[118,111,105,100]\/GR N es f.ty=true)/\(∀q∈f.ps,GR N es q.ty=true)/\f.ps.length<=6
end
abbrev D0:Dn:=Ee none
section
variable{S:Sc}
theorem yO{d:Dn}{b:Bool}{p:Pl}(h:(d.nz b p).over=none):b=true/\d.over=none:=by
 unfold Dn.nz at h;cases b
 ·cases a:d.over<;>rw[a]at h<;>simp at h<;>simp_all
 ·exact⟨rfl,h⟩
theorem P8(d:Dn)(p:Pl):d.nz true p=d:=by unfold Dn.nz;cases d.over<;>rfl
theorem EC:∀(ps:List Pm)(d:Dn),(∀a e,zx S ps d= .ok a e->e=d)/\((∃a e,zx S ps d= .ok a e)↔∀q∈ps,sN S q.ty=true)
 |[],d=>⟨(λ_ _ e=>by cases e;rfl),by simp[zx]⟩
 |q::l,d=>by
  have b:=EC l d;simp only[zx];cases h:sN S q.ty with
  |false=>exact⟨(λ_ _ e=>by cases e),by simp[h]⟩
  |true=>exact⟨b.1,by simp only[Rs.sM,ak,forall_eq_or_imp,h,true_and];exact b.2⟩
def Kv(S:Sc):It->Sc
 | .struct _ _ _=>S
 | .global _ ty nm=>{S with gs:=S.gs++[⟨nm,ty,(oA S.N S.es ty).1⟩]}
 | .func _ ty nm ps _=>{S with fs:=S.fs++[Pm.sg nm ty ps]}
def P9(S:Sc):It->Prop
 | .struct _ _ _=>True
 | .global _ ty nm=>nm∉S.gs.map Gl.nm/\S.gs.length<200/\R9 S.N S.es (ty,nm)
 | .func _ ty nm ps b=>nm∉S.fs.map Sg.nm/\okF S.N S.es ⟨ty,nm,ps,b⟩
theorem MK(i:It):(P9 S i->vc S i D0= .ok (Kv S i) D0)/\∀S' d,vc S i D0= .ok S' d->d.over=none->P9 S i:=by
 cases i with
 |struct p nm fs=>exact⟨λ_=>rfl,λ_ _ _ _=>trivial⟩
 |global p ty nm=>
  simp only[vc,P9,Kv,R9];constructor
  ·rintro⟨f,g,j⟩
   have e1:(S.gs.map Gl.nm).contains nm=false:=(by rw[dx];simpa using f);simp only[e1,g,Cj,j,decide_true,P8];rfl
  ·intro S' d h m;cases e1:(S.gs.map Gl.nm).contains nm with
   |true=>rw[e1]at h;cases h
   |false=>
    rw[e1]at h;simp only[jU,Rs.sM,Cj]at h;cases e2:((oA S.N S.es ty).2.2==5)with
    |true=>rw[e2]at h;cases h
    |false=>
     rw[e2]at h;simp only[jU,Rs.sM,Rs.fP]at h;cases h;obtain⟨k1,k2⟩:=yO m;obtain⟨k3,_⟩:=yO k2;exact⟨U7 e1,U7 k3,U7 k1⟩
 |func p ty nm ps b=>
  have o:=EC (S:=S) ps D0;simp only[vc,P9,Kv,okF];constructor
  ·rintro⟨f,g,j,t⟩
   have e1:(S.fs.map Sg.nm).contains nm=false:=(by rw[dx];simpa using f);have e2:(ty==[118,111,105,100]||sN S ty)=true:=(by rcases g with h|h<;>simp[h,sN]);obtain⟨a,e,he⟩:=o.2.2 j;obtain rfl:=o.1 a e he;simp only[e1,e2,he,t,decide_true,P8];rfl
  ·intro S' d h m;cases e1:(S.fs.map Sg.nm).contains nm with
   |true=>rw[e1]at h;cases h
   |false=>
    cases e2:(ty==[118,111,105,100]||sN S ty)with
    |false=>rw[e1,e2]at h;cases h
    |true=>
     rw[e1,e2]at h;simp only[jU,Bool.and_true,Rs.sM]at h;cases hr:zx S ps D0 with
     |err q=>rw[hr]at h;cases h
     |ok a e=>
      rw[hr]at h;simp only[Rs.fP]at h;cases h;obtain⟨k1,_⟩:=yO m;exact⟨U7 e1,by simpa[sN]using e2,o.2.1 ⟨_,_,hr⟩,U7 k1⟩
end
def O9:List It->Sc->Prop
 |[],_=>True
 |i::l,S=>P9 S i/\O9 l (Kv S i)
def BY:List It->Sc->Sc
 |[],S=>S
 |i::l,S=>BY l (Kv S i)
theorem zN{d:Dn}(b:Bool)(p:Pl)(h:d.over≠none):(d.nz b p).over≠none:=by
 intro e;exact h (yO e).2
theorem RF{S:Sc}:∀(ps:List Pm)(d:Dn)(a:Unit)(e:Dn),zx S ps d= .ok a e->e=d:=λps d a e h=>(EC ps d).1 a e h
theorem Pa{S:Sc}{i:It}{d:Dn}(h:d.over≠none){S':Sc}{e:Dn}(hr:vc S i d= .ok S' e):e.over≠none:=by
 cases i with
 |struct p nm fs=>cases hr;exact h
 |global p ty nm=>
  simp only[vc,Cj]at hr;cases e1:!(S.gs.map Gl.nm).contains nm<;>rw[e1]at hr
  ·cases hr
  ·cases e2:!((oA S.N S.es ty).2.2==5)<;>rw[e2]at hr<;>cases hr;exact zN _ _ (zN _ _ h)
 |func p ty nm ps b=>
  simp only[vc]at hr;cases e1:(!(S.fs.map Sg.nm).contains nm&&(ty==[118,111,105,100]||sN S ty))<;>rw[e1]at hr
  ·cases hr
  ·simp only[Rs.sM]at hr;cases e2:zx S ps d with
   |err q=>rw[e2]at hr;cases hr
   |ok a e=>
    rw[e2]at hr;cases hr;rw[RF ps d a e e2];exact zN _ _ h
theorem ED:∀(l:nj){S:Sc}{d:Dn}(_:d.over≠none){S':Sc}{e:Dn}(_:zy l S d= .ok S' e),e.over≠none
 |[],_,_,h,_,_,hr=>by cases hr;exact h
 |i::l,S,d,h,S',e,hr=>by
  simp only[zy]at hr;cases e1:vc S i d with
  |err q=>rw[e1]at hr;cases hr
  |ok a d1=>rw[e1]at hr;exact ED l (Pa h e1) hr
theorem GC:∀(l:nj)(S:Sc),(O9 l S->zy l S D0= .ok (BY l S) D0)/\∀S' d,zy l S D0= .ok S' d->d.over=none->O9 l S
 |[],S=>⟨λ_=>rfl,λ_ _ _ _=>trivial⟩
 |i::l,S=>by
  have a:=MK (S:=S) i;have b:=GC l (Kv S i);constructor
  ·rintro⟨h,k⟩
   simp only[zy,a.1 h,Rs.fP];exact b.1 k
  ·intro S' d hr e;simp only[zy]at hr;cases e1:vc S i D0 with
   |err q=>rw[e1]at hr;cases hr
   |ok j d1=>
    have f:d1.over=none:=pL λg=>by rw[e1]at hr;exact ED l g hr e
    have k:=a.2 _ _ e1 f;rw[a.1 k]at hr;exact⟨k,b.2 _ _ hr e⟩
end
section
theorem yP:∀(l:nj)(S:Sc),O9 l S↔(EB (S.gs.map Gl.nm) ((uX l).map Prod.snd)/\(∀g∈uX l,R9 S.N S.es g)/\(uX l=[]\/S.gs.length+(uX l).length<=200))/\EB (S.fs.map Sg.nm) ((jW l).map Fu.nm)/\∀f∈jW l,okF S.N S.es f
 |[],S=>by simp[O9,uX,jW,EB]
 | .struct p nm fs::l,S=>by simp only[O9,P9,Kv,true_and,yP l S,uX,jW]
 | .global p ty nm::l,S=>by
  simp only[O9,P9,Kv,yP l,uX,jW,bL,EB,fU,iL,aO,ai,aW,ak,forall_eq_or_imp,reduceCtorEq,false_or];constructor
  ·rintro⟨⟨a,m,h⟩,⟨i,j,o⟩,t⟩
   refine⟨⟨⟨a,i⟩,⟨h,j⟩,?_⟩,t⟩;rcases o with e|o
   ·rw[e];simp;omega
   ·omega
  ·rintro⟨⟨⟨a,i⟩,⟨h,j⟩,o⟩,t⟩
   exact⟨⟨a,om,h⟩,⟨i,j,.inr om⟩,t⟩
 | .func p ty nm ps b::l,S=>by
  simp only[O9,P9,Kv,yP l,uX,jW,bL,EB,fU,iL,ak,forall_eq_or_imp];constructor
  ·rintro⟨⟨a,m⟩,h,i,j⟩
   exact⟨h,⟨a,i⟩,m,j⟩
  ·rintro⟨h,⟨a,i⟩,m,j⟩
   exact⟨⟨a,m⟩,h,i,j⟩
theorem yQ:∀(l:nj)(S:Sc),BY l S={S with gs:=S.gs++(uX l).map (λg=>⟨g.2,g.1,(oA S.N S.es g.1).1⟩),fs:=S.fs++(jW l).map Fu.sg}
 |[],S=>by simp[BY,uX,jW]
 | .struct p nm fs::l,S=>by simp only[BY,Kv,yQ l,uX,jW]
 | .global p ty nm::l,S=>by simp only[BY,Kv,yQ l,uX,jW];simp
 | .func p ty nm ps b::l,S=>by simp only[BY,Kv,yQ l,uX,jW];simp[Fu.sg]
theorem Jd:∀(l:List Sg)(f:bu)(i:Nat),(oy f (l.map Sg.nm) i=none/\∀s∈l,s.nm≠f)\/∃k s,oy f (l.map Sg.nm) i=some (i+k)/\l[k]?=some s/\s.nm=f
 |[],f,i=> .inl ⟨rfl,sp⟩
 |s::l,f,i=>by
  simp only[bL,oy];by_cases h:s.nm=f
  ·exact .inr ⟨0,s,by simp[h],rfl,h⟩
  ·rcases Jd l f (i+1)with⟨a,b⟩|⟨k,t,a,b,e⟩
   ·exact .inl ⟨by simp[h,a],by simpa[h]using b⟩
   ·exact .inr ⟨k+1,t,by simp only[h,eY,a];congr 1;omega,b,e⟩
theorem GD{l:List Sg}(g:(l.map Sg.nm).Nodup){f:bu}{s:Sg}:zL l f=some s↔s∈l/\s.nm=f:=by
 unfold zL;rcases Jd l f 0 with⟨m,i⟩|⟨k,t,m,i,o⟩
 ·rw[m];exact⟨(λe=>by cases e),λe=>absurd e.2 (i s e.1)⟩
 ·rw[m,fL];show l[k]?=some s↔_;rw[i];have hm:=bg i;constructor
  ·intro e;cases e;exact⟨hm,o⟩
  ·rintro⟨a,b⟩
   congr 1;exact pL λp=>by
    have:∀l:List Sg,(l.map Sg.nm).Nodup->t∈l->s∈l->False:=by
     intro l;induction l with
     |nil=>intro _ h;cases h
     |cons x l u=>
      intro g ht j;simp only[bL,fh]at g;rcases ak.1 ht with e1|ht<;>rcases ak.1 j with e2|j
      ·exact p (e1.trans e2.symm)
      ·exact g.1 (by rw[<-e1,o,<-b];exact wQ j)
      ·exact g.1 (by rw[<-e2,b,<-o];exact wQ ht)
      ·exact u g.2 ht j
    exact this l g hm a
def xQ(fs:List Sg):Prop:=∃s,zL fs [109,97,105,110]=some s/\(s.ty=[105,110,116]\/s.ty=[108,111,110,103])/\s.ps.all tP=true
theorem Kk(S:Sc):(xQ S.fs->∃n,tW S D0= .ok n D0)/\∀n d,tW S D0= .ok n d->xQ S.fs/\d=D0:=by
 unfold tW xQ zL;cases oy [109,97,105,110] (S.fs.map Sg.nm) 0 with
 |none=>exact⟨(λ⟨_,h,_⟩=>by cases h),(λ_ _ h=>by cases h)⟩
 |some n=>
  dsimp only;cases S.fs[n]? with
  |none=>exact⟨(λ⟨_,h,_⟩=>by cases h),(λ_ _ h=>by cases h)⟩
  |some s=>
   dsimp only;cases a:(s.ty==[105,110,116]||s.ty==[108,111,110,103])&&s.ps.all tP with
   |false=>
    refine⟨λ⟨t,h,k⟩=>?_,(λ_ _ h=>by cases h)⟩;cases h;simp[k.2]at a;exact(k.1.elim a.1 a.2).elim
   |true=>
    refine⟨λ_=>⟨n,rfl⟩,λm d h=>?_⟩;cases h;simp only[cf,qQ,ju]at a;exact⟨⟨s,rfl,a.1,a.2⟩,rfl⟩
instance:Inv (λd=>d.over≠none) T1 where
 nz d b p _ h:=zN b p h
 take d k h:=h
abbrev Ov:Dn->Prop:=λd=>d.over≠none
section
variable{S:Sc}{rt:bu}
theorem BZ(x:Ex){d:Dn}(h:Ov d):(jv S x d).H (λ_ e=>Ov e) T1:=j9 (T:=λ_=>True) x d h (MI x)
theorem HO(x:Ex)(ty:bu){d:Dn}(h:Ov d):(BD S (jv S x d) x ty).H (λ_ e=>Ov e) T1:=zt (BZ x h) trivial ty
theorem HQ(x:Ex){d:Dn}(h:Ov d):(ux S (jv S x d) x.pos).H (λ_ e=>Ov e) T1:=pR (BZ x h) trivial
theorem MM(nm ty:bu)(par:Bool)(p:Pl){d:Dn}(h:Ov d):(JL S nm ty par p d).H (λ_ e=>Ov e) T1:=
 Rs.cG trivial λ_=>Rs.bq (IG (I:=Ov) (d:={d with oT:=d.oT++[nm]}) h trivial ty) λn e h=>by
  show(e.add nm ty n par (sN S ty) p).over≠none;unfold Dn.add;exact zN _ _ (zN _ _ h)
mutual
theorem zO:∀(s:Sm)(d:Dn)(_:Ov d),(jk S rt s d).H (λ_ e=>Ov e) T1
 | .block _ l,d,h=>by simp only[jk];exact Rs.bq (MO l d h) λ_ _ h=>h
 | .empty _,d,h=>by simp only[jk];exact h
 | .decl p ty nm none,d,h=>by simp only[jk];exact Rs.bq (MM nm ty false p h) λ_ _ h=>h
 | .decl p ty nm (some x),d,h=>by simp only[jk];exact Rs.bq (MM nm ty false p h) λ_ _ h=>Rs.cG trivial λ_=>Rs.bq (HO x ty h) λ_ _ h=>h
 | .assign p to x,d,h=>by simp only[jk];exact Rs.bq (BZ to h) λt _ h=>Rs.cG trivial λ_=>Rs.bq (HO x t.ty h) λ_ _ h=>h
 | .eval _ x,d,h=>by simp only[jk];exact Rs.bq (pQ (BZ x h) trivial) λ_ _ h=>h
 | .ifs _ x s,d,h=>by simp only[jk];exact Rs.bq (HQ x h) λ_ e h=>Rs.bq (zO s e h) λ_ _ h=>h
 | .wD _ x s t,d,h=>by simp only[jk];exact Rs.bq (HQ x h) λ_ e h=>Rs.bq (zO s e h) λ_ e h=>Rs.bq (zO t e h) λ_ _ h=>h
 | .wE _ x s,d,h=>by simp only[jk];exact Rs.bq (HQ x h) λ_ e h=>Rs.bq (zO s {e with loops:=e.loops+1} h) λ_ _ h=>h
 | .xq _,d,h=>by simp only[jk];exact Rs.cG trivial λ_=>h
 | .cont _,d,h=>by simp only[jk];exact Rs.cG trivial λ_=>h
 | .ret _ none,d,h=>by simp only[jk];exact Rs.cG trivial λ_=>h
 | .ret _ (some x),d,h=>by simp only[jk];exact Rs.cG trivial λ_=>Rs.bq (HO x rt h) λ_ _ h=>h
 | .out _ x,d,h=>by simp only[jk];exact Rs.bq (BM (BZ x h) trivial) λ_ _ h=>h
theorem MO:∀(l:List Sm)(d:Dn)(_:Ov d),(wW S rt l d).H (λ_ e=>Ov e) T1
 |[],d,h=>by simp only[wW];exact h
 |s::l,d,h=>by simp only[wW];exact Rs.bq (zO s d h) λ_ e h=>Rs.bq (MO l e h) λ_ _ h=>h
end
theorem MP:∀(ps:List Pm)(d:Dn)(_:Ov d),(FR S ps d).H (λ_ e=>Ov e) T1
 |[],d,h=>h
 |q::l,d,h=>Rs.bq (MM q.nm q.ty true q.p h) λ_ e h=>MP l e h
end
theorem zP(S:Sc):∀(l:nj)(d:Dn)(_:Ov d),(wX S l d).H (λ_ e=>Ov e) T1
 |[],d,h=>h
 | .struct _ _ _::l,d,h=>zP S l d h
 | .global _ _ _::l,d,h=>zP S l d h
 | .func _ ty _ ps b::l,d,h=>Rs.bq (Rs.bq (MP (S:=S) ps (Ee d.over) h) λ_ e h=>zO b e h) λ_ e h=>Rs.bq (zP S l e h) λ_ _ h=>h
theorem AU(S:Sc):∀(l:nj)(d:Dn)(_:d.over=none),Gz (wX S l d)↔∀f∈jW l,Gz (Ou S f.ps f.ty f.b none)
 |[],d,h=>⟨(λ_ _ u=>by cases u),λ_=>⟨_,_,rfl,h⟩⟩
 | .struct _ _ _::l,d,h=>by simp only[wX,jW];exact AU S l d h
 | .global _ _ _::l,d,h=>by simp only[wX,jW];exact AU S l d h
 | .func p ty nm ps b::l,d,h=>by
  simp only[wX,jW,ak,forall_eq_or_imp,h];cases r:Ou S ps ty b none with
  |err q=>exact⟨(λ⟨_,_,e,_⟩=>by cases e),(λ⟨⟨_,_,e,_⟩,_⟩=>by cases e)⟩
  |ok t e=>
   simp only[Rs.fP];by_cases he:e.over=none
   ·have m:=AU S l e he;constructor
    ·rintro⟨a,d2,g,j⟩
     refine⟨⟨_,_,rfl,he⟩,m.1 ?_⟩;cases i:wX S l e with
     |err q=>rw[i]at g;cases g
     |ok o e2=>rw[i]at g;cases g;exact⟨_,_,rfl,j⟩
    ·rintro⟨_,j⟩
     obtain⟨o,e2,v,w⟩:=m.2 j;rw[v];exact⟨_,_,rfl,w⟩
   ·refine⟨?_,(λ⟨⟨_,_,e1,e2⟩,_⟩=>by cases e1;exact absurd e2 he)⟩
    rintro⟨a,d2,g,j⟩
    exfalso;cases i:wX S l e with
    |err q=>rw[i]at g;cases g
    |ok o e2=>
     rw[i]at g;cases g;have:=zP S l e he;rw[i]at this;exact this j
end
theorem MQ{S:Sc}{d:Dn}{n:Nat}{e:Dn}(h:tW S d= .ok n e):e=d:=by
 unfold tW at h;split at h
 ·cases h
 ·split at h
  ·cases h
  ·rename_i s _;cases a:(s.ty==[105,110,116]||s.ty==[108,111,110,103])&&s.ps.all tP<;>rw[a]at h<;>cases h;rfl
theorem Je(S:Sc)(l:nj):Gz (zz S l none)↔O9 l S/\xQ (BY l S).fs/\∀f∈jW l,Gz (Ou (BY l S) f.ps f.ty f.b none):=by
 have j:=GC l S;have hm:=Kk (BY l S);have o:=AU (BY l S) l D0 rfl;constructor
 ·rintro⟨a,d,h,ho⟩
  unfold zz at h;cases g:zy l S (Ee none)with
  |err q=>rw[g]at h;cases h
  |ok m d1=>
   rw[g]at h;simp only[Rs.fP]at h;cases i:tW m d1 with
   |err q=>rw[i]at h;cases h
   |ok n d2=>
    rw[i]at h;obtain rfl:=MQ i;simp only[Rs.fP]at h;cases r3:wX m l d2 with
    |err q=>rw[r3]at h;cases h
    |ok p d3=>
     rw[r3]at h;cases h;have t:d2.over=none:=pL λu=>by
      have:=zP m l d2 u;rw[r3]at this;exact this ho
     have k:=j.2 _ _ g t;have e:=j.1 k;rw[g]at e;cases e;exact⟨k,(hm.2 _ _ i).1,o.1 ⟨_,_,r3,ho⟩⟩
 ·rintro⟨v,w,y⟩
  obtain⟨n,e2⟩:=hm.1 w;obtain⟨p,d,e3,ho⟩:=o.2 y;unfold zz;rw[j.1 v];simp only[Rs.fP];rw[e2];simp only[Rs.fP];rw[e3];exact⟨_,_,rfl,ho⟩
structure U4(q r:Pm):Prop where
 AR:r.AR=q.AR
 ty:r.ty=q.ty
 nm:r.nm=q.nm
inductive EE:List Pm->List Pm->Prop
 |nil:EE [] []
 |cons {a b:Pm} {l m:List Pm} (h:U4 a b) (k:EE l m):EE (a::l) (b::m)
structure MR(f g:Fu):Prop where
 ty:g.ty=f.ty
 nm:g.nm=f.nm
 ps:EE f.ps g.ps
 b:AF f.b g.b
theorem EE.maps{l m:List Pm}(h:EE l m):m.map Pm.ty=l.map Pm.ty/\m.map Pm.AR=l.map Pm.AR/\m.length=l.length:=by
 induction h with
 |nil=>exact⟨rfl,rfl,rfl⟩
 |cons h _ a=>exact⟨by simp[h.ty,a.1],by simp[h.AR,a.2.1],by simp[a.2.2]⟩
theorem MR.sg{f g:Fu}(h:MR f g):g.sg=f.sg:=by
 obtain⟨e1,e2,_⟩:=h.ps.maps;simp only[Fu.sg,Pm.sg,h.nm,h.ty,e1,e2]
theorem MR.fn{S S':Sc}(i:SQ S S'){f g:Fu}(h:MR f g):Gz (Ou S f.ps f.ty f.b none)↔Gz (Ou S' g.ps g.ty g.b none):=by
 have j:∀{l m:List Pm}(_:EE l m){d e:Dn}(_:Dq false d e),Rq false (λ_ _=>True) (FR S l d) (FR S' m e):=by
  intro l m o;induction o with
  |nil=>intro d e h;exact⟨trivial,h⟩
  |@cons a b l m h _ p=>
   intro d e k;refine Rq.bind (R:=λ_ _=>True) ?_ λ_ _ _ _ _ k=>p k;rw[h.nm,h.ty];exact P6 i k _ _ _ _ _
 have:=(j h.ps (⟨rfl,rfl,rfl,rfl,rfl,rfl⟩:Dq false (Ee none) (Ee none))).bind (R':=λ_ _=>True) λ_ _ _ _ _ k=>Jb (rt:=f.ty) i h.b k;rw[h.ty];exact this.Uw
structure Pb(l m:List It):Prop where
 g:uX m=uX l
 f:∃r:List Fu,r.Perm (jW l)/\∃h:r.length=(jW m).length,∀(i:Nat)(hi:i<r.length),MR r[i] ((jW m)[i]'(h▸hi))
theorem Pb.Uw{l m:nj}(t:Pb l m){N o:List (bu)}{es a:List jV}{fm:List (bu×List Fd)}(D:SQ ⟨N,es,fm,[],[]⟩ ⟨o,a,fm,[],[]⟩):Gz (zz ⟨N,es,fm,[],[]⟩ l none)↔Gz (zz ⟨o,a,fm,[],[]⟩ m none):=by
 have sz:∀t,oA o a t=oA N es t:=D.sz;have sc:∀t,GR o a t=GR N es t:=D.sc;obtain⟨b,r,B,u,hr⟩:=t;have F:(jW m).map Fu.sg=r.map Fu.sg:=by
  apply List.ext_getElem (by simp[u]);intro i R v;simp only[List.getElem_map];exact(hr i (U7 v)).sg
 have w:(jW m).map Fu.nm=r.map Fu.nm:=by
  apply List.ext_getElem (by simp[u]);intro i R v;simp only[List.getElem_map];exact(hr i (U7 v)).nm
 have I:(r.map Fu.nm).Perm ((jW l).map Fu.nm):=B.map _;have J:(r.map Fu.sg).Perm ((jW l).map Fu.sg):=B.map _;have ex:∀g∈jW m,∃f∈jW l,MR f g:=λg b=>by
  obtain⟨i,hi,rfl⟩:=gh b;exact⟨r[i]'(u▸hi),B.mem_iff.1 (bk _),hr i (u▸hi)⟩
 have y:∀f∈jW l,∃g∈jW m,MR f g:=λf j=>by
  obtain⟨i,hi,rfl⟩:=gh (B.mem_iff.2 j);exact⟨_,bk (u▸hi),hr i hi⟩
 have A:∀{f g:Fu},MR f g->(okF N es f↔okF o a g):=λ{f g} h=>by
  have hm:=h.ps.maps;unfold okF;simp only[sc];rw[h.ty,hm.2.2];have:(∀q∈f.ps,GR N es q.ty=true)↔∀q∈g.ps,GR N es q.ty=true:=by
   have e:∀ps:List Pm,(∀q∈ps,GR N es q.ty=true)↔∀t∈ps.map Pm.ty,GR N es t=true:=λps=>by simp
   rw[e,e,hm.1]
  rw[this]
 rw[Je,Je,yP,yP,b,yQ,yQ];have K:(∀g∈uX l,R9 o a g)↔∀g∈uX l,R9 N es g:=by unfold R9;simp only[sz]
 simp only[iL,aX,GB,b,w,K,sz];have nd:(r.map Fu.nm).Nodup↔((jW l).map Fu.nm).Nodup:=I.nodup_iff;by_cases C:((jW l).map Fu.nm).Nodup
 ·have e1:((jW l).map Fu.sg).map Sg.nm=(jW l).map Fu.nm:=by simp[jo,Fu.sg,Pm.sg]
  have e2:((jW m).map Fu.sg).map Sg.nm=(jW m).map Fu.nm:=by simp[jo,Fu.sg,Pm.sg]
  have P:∀f,zL ((jW l).map Fu.sg) f=zL ((jW m).map Fu.sg) f:=λf=>by
   have S:(((jW l).map Fu.sg).map Sg.nm).Nodup:=(by rw[e1];exact C);have U:(((jW m).map Fu.sg).map Sg.nm).Nodup:=(by rw[e2,w];exact nd.2 C);have key:∀s,zL ((jW l).map Fu.sg) f=some s↔zL ((jW m).map Fu.sg) f=some s:=λs=>by
    rw[GD S,GD U,F,J.mem_iff]
   cases h:zL ((jW m).map Fu.sg) f with
   |some s=>exact(key s).2 h
   |none=>
    cases v:zL ((jW l).map Fu.sg) f with
    |none=>rfl
    |some s=>rw[(key s).1 v]at h;cases h
  have p:xQ ((jW l).map Fu.sg)↔xQ ((jW m).map Fu.sg):=by unfold xQ;rw[P]
  rw[p];have ho:(∀f∈jW l,okF N es f)↔∀f∈jW m,okF o a f:=⟨λh g b=>by obtain⟨f,j,e⟩:=ex g b;exact(A e).1 (h f j),λh f j=>by obtain⟨g,b,e⟩:=y f j;exact(A e).2 (h g b)⟩
  rw[ho,nd];have V:(∀x∈r.map Fu.nm,x∉([]:List (bu)))↔∀x∈(jW l).map Fu.nm,x∉([]:List (bu)):=by simp
  rw[V];have Q:SQ {N:=N,es:=es,fm:=fm,gs:=(uX l).map (λg=>⟨g.2,g.1,(oA N es g.1).1⟩),fs:=(jW l).map Fu.sg} {N:=o,es:=a,fm:=fm,gs:=(uX l).map (λg=>⟨g.2,g.1,(oA N es g.1).1⟩),fs:=(jW m).map Fu.sg}:=⟨sz,sc,D.pk,rfl,rfl,P⟩
  refine and_congr Iff.rfl (and_congr Iff.rfl ?_);constructor
  ·intro h g b;obtain⟨f,j,e⟩:=ex g b;exact(MR.fn Q e).1 (h f j)
  ·intro h f j;obtain⟨g,b,e⟩:=y f j;exact(MR.fn Q e).2 (h g b)
 ·have O:¬(r.map Fu.nm).Nodup:=λh=>C (nd.1 h);simp[C,O]
structure Tk where
 k:Int
 t:List UInt8
 n:Int
abbrev jC:=List Tk
def Wo.tk(w:Wo):Tk:=⟨w.kind,w.text,w.n⟩
def EF(c:UInt8):Bool:=je c.toNat
def Kw:List UInt8->Bool
 |[]=>false
 |c::s=>eT c.toNat&&s.all EF&&decide (s.length<=39)
inductive Tk.Ok:Tk->Prop
 |name {t:List UInt8} (h:Kw t=true) (hk:keys.contains t=false):Tk.Ok ⟨1,t,0⟩
 |key {t:List UInt8} (h:t∈keys):Tk.Ok ⟨3,t,0⟩
 |num {n:Nat} (h:n<9223372036854775808):Tk.Ok ⟨2,jy n,n⟩
 |mark {t:List UInt8} (h:t∈lM\/∃c∈xG,t=[c]):Tk.Ok ⟨4,t,0⟩
def Stop(r:List UInt8):Prop:=r=[]\/∃s,r=32::s
theorem GF{t r:bu}(h:t.all EF=true)(hr:Stop r):cM (t++r)=t.length:=by
 unfold cM;induction t with
 |nil=>
  rcases hr with rfl|⟨s,rfl⟩
  ·rfl
  ·rfl
 |cons c t a=>
  simp only[List.all_cons,cf]at h;have b:je c.toNat=true:=h.1;simp only[aI,qi,b,kh,ai];rw[a h.2]
theorem su{c:UInt8}(h:eT c.toNat=true):EF c=true:=by simp[EF,je,h]
theorem B0{t r:bu}(h:Kw t=true)(hr:Stop r):jG (t++r)=some ⟨if keys.contains t=true then 3 else 1,t,0⟩:=by
 cases t with
 |nil=>cases h
 |cons c s=>
  simp only[Kw,cf,tc]at h;have a:=GF (t:=c::s) (r:=r) (by simp[su h.1.1,h.1.2]) hr;simp only[aI]at a;have ht:(c::(s++r)).take (s.length+1)=c::s:=by simp
  simp only[jG,aI,h.1.1,kh,a,ai,ht];rw[aY om]
theorem Jf:∀t∈keys,Kw t=true:=dc
theorem yR:∀(f n:Nat),∀b∈oJ f n,yn.contains b=true:=by
 intro f;induction f with
 |zero=>intro n b a;cases a
 |succ f e=>
  intro n b a;have key:∀k:Fin 10,yn.contains (UInt8.ofNat (48+k.1))=true:=by decide
  simp only[oJ]at a;cases h:Nat.blt n 10 with
  |true=>
   rw[h]at a;simp only[cond_true,aQ]at a;subst a;exact key ⟨n,by simpa[uL]using h⟩
  |false=>
   rw[h]at a;simp only[xW,aP,aQ]at a;rcases a with a|rfl
   ·exact e _ _ a
   ·exact key ⟨n%10,Nat.mod_lt _ om⟩
theorem yS{b:UInt8}(h:yn.contains b=true):EF b=true/\eT b.toNat=false:=by
 have:∀b∈yn,EF b=true/\eT b.toNat=false:=dc
 exact this b (U7 h)
theorem EG{n:Nat}(h:n<9223372036854775808):jy n=Lib.decDigits n:=by
 letI:gJ:=⟨default⟩
 show oJ 20 ((n:Int)).toNat=_;rw[Int.toNat_natCast];exact DV 19 n (by
  have:(9223372036854775808:Nat)<10^(19+1):=by decide
  omega)
theorem MS{c:UInt8}:∀(l:bu)(acc a:Nat),Lib.parseUint10 acc l= .ok a->48<=c.toNat/\c.toNat<=57->a<1844674407370955161->Lib.parseUint10 acc (l++[c])= .ok (a*10+(c.toNat-48))
 |[],acc,a,h,b,i=>by
  simp only[Lib.parseUint10]at h;injection h with h;subst h;simp only[aX,Lib.parseUint10];rw[aY b,ay om,ay om]
 |d::l,acc,a,h,b,i=>by
  simp only[aI,Lib.parseUint10]at h⊢;split
  ·rename_i e;rw[aY e]at h;split
   ·rename_i f;rw[aY f]at h;cases h
   ·rename_i f;rw[ay f]at h;split
    ·rename_i g;rw[aY g]at h;cases h
    ·rename_i g;rw[ay g]at h;exact MS l _ a h b i
  ·rename_i e;rw[ay e]at h;cases h
theorem TG{k:Nat}(h:k<10):(UInt8.ofNat (48+k)).toNat=48+k:=by
 have key:∀k:Fin 10,(UInt8.ofNat (48+k.1)).toNat=48+k.1:=dc
 exact key ⟨k,h⟩
theorem RG(n:Nat)(h:n<9223372036854775808):Lib.parseUint10 0 (Lib.decDigits n)= .ok n:=by
 induction n using Nat.strongRecOn with
 |ind n b=>
  rw[Lib.decDigits];by_cases a:n<10
  ·rw[dif_pos a];simp only[Lib.parseUint10,TG a];rw[aY om,ay om,ay om];congr 1;omega
  ·rw[dif_neg a];have:=MS (c:=UInt8.ofNat (48+n%10)) _ 0 (n/10) (b (n/10) om om) (by rw[TG (Nat.mod_lt _ om)];omega) om;rw[this,TG (Nat.mod_lt _ om)];congr 1;omega
theorem EH(n:Nat):Lib.decDigits n≠[]:=by
 rw[Lib.decDigits];split<;>simp
theorem MT(n:Nat)(h:1<=n):(Lib.decDigits n).head?≠some 48:=by
 induction n using Nat.strongRecOn with
 |ind n f=>
  rw[Lib.decDigits];by_cases a:n<10
  ·rw[dif_pos a];have:=TG a;simp only[List.head?_cons,ne_eq,bj];intro e;rw[e]at this;have g:(48:UInt8).toNat=48:=rfl;omega
  ·rw[dif_neg a];have:=f (n/10) om om;have b:=EH (n/10);cases e:Lib.decDigits (n/10)with
   |nil=>exact(b e).elim
   |cons c s=>rw[e]at this;simpa using this
theorem Kl{n:Nat}(h:n<9223372036854775808):uw (jy n)=some (n:Int):=by
 have a:∀b∈jy n,yn.contains b=true:=yR 20 ((n:Int)).toNat
 have i:=RG n h;have j:=MT n;have m:=EH n;have h0:n=0->(Lib.decDigits n).length<=1:=λe=>by subst e;rw[Lib.decDigits,dif_pos om];simp
 rw[<-EG h]at i j m h0;generalize jy n=s at*;cases s with
 |nil=>exact(m rfl).elim
 |cons c s=>
  have o:c∈yn:=by simpa using a c sp
  have p:Lib.hasPrefix (c::s) [48,120]=false:=by
   cases f:Lib.hasPrefix (c::s) [48,120]with
   |false=>rfl
   |true=>
    exfalso;have g:[48,120]<+:c::s:=by
     unfold Lib.hasPrefix at f
     first|exact dO.1 f|simpa using f
    obtain⟨t,ht⟩:=g;have:=a 120 (by rw[<-ht];simp);exact absurd this dc
  have u:c.toNat≠43/\c.toNat≠45:=by
   have:∀c∈yn,c.toNat≠43/\c.toNat≠45:=dc;exact this c o
  unfold uw;rw[ay (by rw[p];simp),aY ⟨a,by
   by_cases v:n=0
   ·exact .inl (h0 v)
   ·exact .inr (j om)⟩]
  unfold Lib.atoiAll Lib.parseMag;simp only[ay (show¬(c.toNat=43\/c.toNat=45) from om),ay (show¬(c::s=[]) from sp),i];rw[ay om,ay om];simp[u.2]
theorem GG{x:Tk}(h:x.Ok){r:bu}(hr:Stop r):jG (x.t++r)=some ⟨x.k,x.t,x.n⟩:=by
 cases h with
 |name h u=>rw[B0 h hr,u];rfl
 |key h=>
  rw[B0 (Jf _ h) hr];have:keys.contains _=true:=dQ.2 h;rw[this];rfl
 |@num n h=>
  have o:=yR 20 ((n:Int)).toNat
  have i:jy n≠[]:=by rw[EG h];exact EH n
  have v:(jy n).all EF=true:=cL.2 λb w=>(yS (o b w)).1;have a:=GF v hr;cases e:jy n with
  |nil=>exact(i e).elim
  |cons c s=>
   have y:=(yS (o c (by show c∈jy n;rw[e];simp))).2;have p:=Kl h;rw[e]at a p;simp only[aI]at a;have ht:(c::(s++r)).take (s.length+1)=c::s:=sp;simp only[jG,aI,y,a,ai,ht,p,np];rw[ay sp,aY om]
 |@mark t h=>
  have j:∀c∈xG,eT c.toNat=false/\EF c=false/\[c,32]∉lM/\0<=Lib.indexByte xG c:=by decide
  have e2:∀t∈lM,eT (t.headD 0).toNat=false/\EF (t.headD 0)=false/\t.length=2:=by decide
  rcases h with h|⟨c,h,rfl⟩
  ·obtain⟨f,g,m⟩:=e2 t h;obtain⟨c,d,rfl⟩:∃c d,t=[c,d]:=by
    match t,m with
    |[c,d],_=>exact⟨c,d,rfl⟩
   simp only[List.headD_cons]at f g;have a:cM (c::d::r)=0:=(by unfold cM;rw[qi,ay (by rw[show(je c.toNat)=false from g];simp)];rfl);have hm:gK (c::d::r)=2:=(by unfold gK;rw[aY ⟨sp,U7 h⟩]);simp only[jG,aI,aX,f,a,hm];rfl
  ·obtain⟨f,g,m,A⟩:=j c h;have a:cM (c::r)=0:=(by unfold cM;rw[qi,ay (by rw[show(je c.toNat)=false from g];simp)];rfl);have hm:gK (c::r)=1:=by
    unfold gK;rw[ay]
    ·simp[A]
    ·rintro⟨k1,k2⟩
     rcases hr with rfl|⟨s,rfl⟩
     ·simp at k1
     ·exact m (U7 k2)
   simp only[jG,aI,aX,f,a,hm];rfl
def jn:List Tk->List UInt8
 |[]=>[]
 |[x]=>x.t
 |x::y::l=>x.t++32::jn (y::l)
theorem EI(x y:Tk)(l:jC):jn (x::y::l)=x.t++32::jn (y::l):=rfl
theorem dT:∀(l m:jC),l≠[]->m≠[]->jn (l++m)=jn l++32::jn m
 |[],_,h,_=>(h rfl).elim
 |[x],[],_,h=>(h rfl).elim
 |[x],y::m,_,_=>rfl
 |x::y::l,m,_,h=>by
  have:=dT (y::l) m sp h;simp only[aI]at this⊢;rw[EI,this,EI];simp
theorem Tr{x:Tk}(h:x.Ok):x.t≠[]:=λe=>by
 have:=GG h (r:=[]) (.inl rfl);rw[e]at this;cases this
theorem MU{x:Tk}(h:x.Ok){r:bu}(hr:Stop r):fQ (x.t++r)=(0,true):=by
 have fin:∀{c:UInt8}{s:bu},Lib.indexByte [32,9,13,10] c<0->c≠47->fQ (c::s)=(0,true):=λ{c s} p j=>by
  simp only[fQ];rw[ay (show¬0<=Lib.indexByte [32,9,13,10] c from om)];have e:∀d,Lib.hasPrefix (c::s) [47,d]=false:=λd=>by
   cases f:Lib.hasPrefix (c::s) [47,d]with
   |false=>rfl
   |true=>
    exfalso;have g:[47,d]<+:c::s:=by
     unfold Lib.hasPrefix at f
     first|exact dO.1 f|simpa using f
    obtain⟨t,ht⟩:=g;simp only[aI,da]at ht;exact j ht.1.symm
  rw[ay (by rw[e];simp),ay (by rw[e];simp)]
 have goes:∀c:UInt8,EF c=true->Lib.indexByte [32,9,13,10] c<0/\c≠47:=λc v=>by
  have key:∀n:Fin 256,EF (UInt8.ofNat n.1)=true->Lib.indexByte [32,9,13,10] (UInt8.ofNat n.1)<0/\UInt8.ofNat n.1≠47:=by decide
  have:=key ⟨c.toNat,c.toNat_lt⟩;simp only[UInt8.ofNat_toNat]at this;exact this v
 have nm:∀{t:bu},Kw t=true->fQ (t++r)=(0,true):=λ{t} ht=>by
  cases t with
  |nil=>cases ht
  |cons c s=>
   simp only[Kw,cf]at ht;obtain⟨a,b⟩:=goes c (su ht.1.1);exact fin a b
 cases h with
 |name h _=>exact nm h
 |key h=>exact nm (Jf _ h)
 |@num n h=>
  have m:∀b∈jy n,yn.contains b=true:=yR 20 ((n:Int)).toNat
  have o:jy n≠[]:=by rw[EG h];exact EH n
  show fQ (jy n++r)=_;cases e:jy n with
  |nil=>exact(o e).elim
  |cons c s=>
   obtain⟨a,b⟩:=goes c (yS (m c (by rw[e];simp))).1;exact fin a b
 |@mark t h=>
  have e2:∀t∈lM,Lib.indexByte [32,9,13,10] (t.headD 0)<0/\t.headD 0≠47/\t.length=2:=by decide
  have e1:∀c∈xG,Lib.indexByte [32,9,13,10] c<0:=by decide
  rcases h with h|⟨c,h,rfl⟩
  ·obtain⟨p,j,w⟩:=e2 t h
   match t,w with
   |[c,d],_=>exact fin p j
  ·by_cases i:c=47
   ·subst i;have u:∀s d,s=[]\/(∃q,s=32::q)->d≠32->Lib.hasPrefix (47::s) [47,d]=false:=λs d y m=>by
     cases f:Lib.hasPrefix (47::s) [47,d]with
     |false=>rfl
     |true=>
      exfalso;have g:[47,d]<+:47::s:=by
       unfold Lib.hasPrefix at f
       first|exact dO.1 f|simpa using f
      obtain⟨t,ht⟩:=g;simp only[aI,da,true_and]at ht;rcases y with rfl|⟨q,rfl⟩
      ·cases ht
      ·simp only[aX,da]at ht;exact m ht.1
    show fQ (47::r)=_;simp only[fQ];rw[ay (show¬0<=Lib.indexByte [32,9,13,10] 47 from dc),ay (by rw[u r 47 hr dc];simp),ay (by rw[u r 42 hr dc];simp)]
   ·exact fin (e1 c h) i
theorem Pc:∀(l:jC),∃r,Stop r/\∀x,jn (x::l)=x.t++r
 |[]=>⟨[],.inl rfl,λx=>by simp[jn]⟩
 |y::l=>⟨32::jn (y::l),.inr ⟨_,rfl⟩,λx=>rfl⟩
theorem MV:∀(l:jC)(_:∀x∈l,x.Ok) {a b:Int} {ws:dh} (_:gZ a b (jn l) ws),ws.map Wo.tk=l
 |[],_,_,_,ws,h=>by
  have:ws=[]:=h.done;subst this;rfl
 |x::l,ok,a,b,ws,h=>by
  have m:=ok x sp;obtain⟨r,hr,e⟩:=Pc l;rw[e x]at h;have v:=MU m hr;have hw:=GG m hr;have o:=Tr m;generalize p:x.t++r=S at h v hw;cases h with
  |blank u f h0 A g=>
   rw[v]at f;simp only[dz,qE]at f;omega
  |nil=>exact(o (by simp only[List.append_eq_nil_iff]at p;exact p.1)).elim
  |word u f i g=>
   rw[hw]at i;cases i;rw[<-p]at g;simp only[List.drop_left]at g;have tail:∀{a b:Int}{ws:dh},gZ a b r ws->ws.map Wo.tk=l:=by
    intro a b ws h;cases l with
    |nil=>
     have:r=[]:=(by have:=e x;simp only[jn]at this;simpa using this.symm);subst this;have:ws=[]:=h.done;subst this;rfl
    |cons y l=>
     have e2:r=32::jn (y::l):=(by have:=e x;rw[EI]at this;simpa using this.symm);subst e2;have j:fQ (32::jn (y::l))=(1,true):=rfl;cases h with
     |blank u f h0 A g=>
      rw[j]at f;simp only[dz,qE]at f;have B:=Int.ofNat.inj f;subst B;exact MV (y::l) (λz w=>ok z (by simp only[ak]at w⊢;exact .inr w)) g
     |word u f i g=>rw[j]at f;cases f
   simp only[bL,tail g,Wo.tk]
termination_by l=>l.length
def sV:List UInt8->List UInt8
 |[]=>[]
 |c::l=>if c=91 then 32::91::32::sV l else if c=42\/c=93 then 32::c::sV l else c::sV l
def Cu:List UInt8->List UInt8
 |[]=>[]
 |c::l=>if c=91 then[]else c::Cu l
def Cv:List UInt8->List UInt8
 |[]=>[]
 |c::l=>if c=91 then c::l else Cv l
def AW(ty nm:List UInt8):List UInt8:=sV (Cu ty)++32::(nm++sV (Cv ty))
mutual
def sE:Ex->List UInt8
 | .num _ n=>jy n
 | .var _ s=>s
 | .un _ op a=>[40,32]++op++32::sE a++[32,41]
 | .bin _ op a b=>[40,32]++sE a++32::op++32::sE b++[32,41]
 | .cast _ ty a=>[40,32,40,32]++sV ty++[32,41,32]++sE a++[32,41]
 | .call _ f l=>sL (f++[32,40]) true l++[32,41]
 | .index _ a b=>sE a++[32,91,32]++sE b++[32,93]
 | .fN _ n a=>sE a++[32,46,32]++n
 | .arrow _ n a=>sE a++[32,45,62,32]++n
 | .qp _=>[105,110,32,40,32,41]
 | .size _ ty=>[115,105,122,101,111,102,32,40,32]++sV ty++[32,41]
def sL(s:List UInt8)(first:Bool):List Ex->List UInt8
 |[]=>s
 |e::l=>sL ((if first=true then s else s++[32,44])++32::sE e) false l
end
def ua:Sm->Bool
 | .block _ _=>true
 |_=>false
mutual
def sS:Sm->List UInt8
 | .block _ l=>GV [123] l++[32,125]
 | .empty _=>[59]
 | .decl _ ty nm none=>AW ty nm++[32,59]
 | .decl _ ty nm (some e)=>AW ty nm++[32,61,32]++sE e++[32,59]
 | .assign _ a b=>sE a++[32,61,32]++sE b++[32,59]
 | .eval _ a=>sE a++[32,59]
 | .ifs _ a s=>[105,102,32,40,32]++sE a++[32,41,32]++sB s
 | .wD _ a s t=>[105,102,32,40,32]++sE a++[32,41,32]++sB s++[32,101,108,115,101,32]++sB t
 | .wE _ a s=>[119,104,105,108,101,32,40,32]++sE a++[32,41,32]++sB s
 | .xq _=>[98,114,101,97,107,32,59]
 | .cont _=>[99,111,110,116,105,110,117,101,32,59]
 | .ret _ none=>[114,101,116,117,114,110,32,59]
 | .ret _ (some a)=>[114,101,116,117,114,110,32]++sE a++[32,59]
 | .out _ a=>[111,117,116,32,40,32]++sE a++[32,41,32,59]
def sB(s:Sm):List UInt8:=match ua s with
 |true=>sS s
 |false=>[123,32]++sS s++[32,125]
def GV(t:List UInt8):List Sm->List UInt8
 |[]=>t
 |s::l=>GV (t++32::sS s) l
end
abbrev mk(t:List UInt8):Tk:=⟨4,t,0⟩
abbrev ky(t:List UInt8):Tk:=⟨3,t,0⟩
abbrev B1(t:List UInt8):Tk:=⟨1,t,0⟩
abbrev TI(n:Nat):Tk:=⟨2,jy n,n⟩
def Nm(t:List UInt8):Prop:=Kw t=true/\keys.contains t=false
def B2:List (List UInt8):=ly.flatten
inductive xu:List UInt8->List Tk->Prop
 |base {t:List UInt8} (h:t∈[[99,104,97,114],[105,110,116],[108,111,110,103],[118,111,105,100]]):xu t [ky t]
 |struct {n:List UInt8} (h:Nm n):xu ([115,116,114,117,99,116,32]++n) [ky [115,116,114,117,99,116],B1 n]
 |star {t:List UInt8} {l:List Tk} (h:xu t l):xu (t++[42]) (l++[mk [42]])
inductive HR:List UInt8->List Tk->Prop
 |none:HR [] []
 |some {n:Nat} (h:n<9223372036854775808):HR (91::(jy n++[93])) [mk [91],TI n,mk [93]]
mutual
inductive qP:Ex->List Tk->Prop
 |num {p:Pl} {n:Nat} (h:n<9223372036854775808):qP (.num p n) [TI n]
 |var {p:Pl} {s:List UInt8} (h:Nm s):qP (.var p s) [B1 s]
 |un {p:Pl} {o:List UInt8} {a:Ex} {l:List Tk} (ho:o∈vm) (h:qP a l):qP (.un p o a) (mk [40]::mk o::(l++[mk [41]]))
 |bin {p:Pl} {o:List UInt8} {a b:Ex} {l m:List Tk} (ho:o∈B2) (h:qP a l) (k:qP b m):qP (.bin p o a b) (mk [40]::(l++mk o::(m++[mk [41]])))
 |cast {p:Pl} {t:List UInt8} {a:Ex} {k l:List Tk} (ht:xu t k) (h:qP a l):qP (.cast p t a) (mk [40]::mk [40]::(k++mk [41]::(l++[mk [41]])))
 |call {p:Pl} {f:List UInt8} {xs:List Ex} {l:List Tk} (hf:Nm f) (h:ve xs l):qP (.call p f xs) (B1 f::mk [40]::(l++[mk [41]]))
 |index {p:Pl} {a b:Ex} {l m:List Tk} (h:qP a l) (k:qP b m):qP (.index p a b) (l++mk [91]::(m++[mk [93]]))
 |fN {p:Pl} {n:List UInt8} {a:Ex} {l:List Tk} (hn:Nm n) (h:qP a l):qP (.fN p n a) (l++[mk [46],B1 n])
 |arrow {p:Pl} {n:List UInt8} {a:Ex} {l:List Tk} (hn:Nm n) (h:qP a l):qP (.arrow p n a) (l++[mk [45,62],B1 n])
 |qp {p:Pl}:qP (.qp p) [ky [105,110],mk [40],mk [41]]
 |size {p:Pl} {t a:List UInt8} {k l:List Tk} (ht:xu t k) (ha:HR a l):qP (.size p (t++a)) (ky [115,105,122,101,111,102]::mk [40]::(k++(l++[mk [41]])))
inductive ve:List Ex->List Tk->Prop
 |nil:ve [] []
 |one {a:Ex} {l:List Tk} (h:qP a l):ve [a] l
 |cons {a b:Ex} {xs:List Ex} {l m:List Tk} (h:qP a l) (k:ve (b::xs) m):ve (a::b::xs) (l++mk [44]::m)
end
mutual
inductive vf:Sm->List Tk->Prop
 |block {p:Pl} {xs:List Sm} {l:List Tk} (h:xR xs l):vf (.block p xs) (mk [123]::(l++[mk [125]]))
 |empty {p:Pl}:vf (.empty p) [mk [59]]
 |Ar {p:Pl} {t a n:List UInt8} {k l:List Tk} (ht:xu t k) (ha:HR a l) (hn:Nm n):vf (.decl p (t++a) n none) (k++B1 n::(l++[mk [59]]))
 |As {p:Pl} {t n:List UInt8} {e:Ex} {k l:List Tk} (ht:xu t k) (hn:Nm n) (h:qP e l):vf (.decl p t n (some e)) (k++B1 n::mk [61]::(l++[mk [59]]))
 |assign {p:Pl} {a b:Ex} {l m:List Tk} (h:qP a l) (k:qP b m):vf (.assign p a b) (l++mk [61]::(m++[mk [59]]))
 |eval {p:Pl} {a:Ex} {l:List Tk} (h:qP a l):vf (.eval p a) (l++[mk [59]])
 |ifs {p:Pl} {a:Ex} {s:Sm} {l m:List Tk} (h:qP a l) (k:GH s m):vf (.ifs p a s) (ky [105,102]::mk [40]::(l++mk [41]::m))
 |wD {p:Pl} {a:Ex} {s t:Sm} {l m n:List Tk} (h:qP a l) (k:GH s m) (k2:GH t n):vf (.wD p a s t) (ky [105,102]::mk [40]::(l++mk [41]::(m++ky [101,108,115,101]::n)))
 |wE {p:Pl} {a:Ex} {s:Sm} {l m:List Tk} (h:qP a l) (k:GH s m):vf (.wE p a s) (ky [119,104,105,108,101]::mk [40]::(l++mk [41]::m))
 |xq {p:Pl}:vf (.xq p) [ky [98,114,101,97,107],mk [59]]
 |cont {p:Pl}:vf (.cont p) [ky [99,111,110,116,105,110,117,101],mk [59]]
 |GI {p:Pl}:vf (.ret p none) [ky [114,101,116,117,114,110],mk [59]]
 |GJ {p:Pl} {a:Ex} {l:List Tk} (h:qP a l):vf (.ret p (some a)) (ky [114,101,116,117,114,110]::(l++[mk [59]]))
 |out {p:Pl} {a:Ex} {l:List Tk} (h:qP a l):vf (.out p a) (ky [111,117,116]::mk [40]::(l++[mk [41],mk [59]]))
inductive GH:Sm->List Tk->Prop
 |is {s:Sm} {l:List Tk} (hb:ua s=true) (h:vf s l):GH s l
 |wrap {s:Sm} {l:List Tk} (hb:ua s=false) (hn:nd s=true) (h:vf s l):GH s (mk [123]::(l++[mk [125]]))
inductive xR:List Sm->List Tk->Prop
 |nil:xR [] []
 |cons {s:Sm} {xs:List Sm} {l m:List Tk} (h:vf s l) (k:xR xs m):xR (s::xs) (l++m)
end
def zQ(l:List Tk):Prop:=(∀x∈l,x.Ok)/\l≠[]
theorem zQ.app{l m:jC}(h:zQ l)(k:zQ m):zQ (l++m):=⟨λx a=>(aP.1 a).elim (h.1 x) (k.1 x),by simp[h.2]⟩
theorem zQ.one{x:Tk}(h:x.Ok):zQ [x]:=⟨U7 h,sp⟩
theorem zQ.cons{x:Tk}{l:jC}(h:x.Ok)(k:zQ l):zQ (x::l):=(zQ.one h).app k
theorem sw{n:bu}(h:Nm n):(B1 n).Ok:= .name h.1 h.2
theorem dU{c:UInt8}(h:c∈xG:=by decide):(mk [c]).Ok:= .mark (.inr ⟨c,h,rfl⟩)
theorem rG{t:bu}(h:t∈keys:=by decide):(ky t).Ok:= .key h
theorem Qa{n:Nat}(h:n<9223372036854775808):(TI n).Ok:= .num h
theorem xu.all{t:bu}{l:jC}(h:xu t l):zQ l:=by
 induction h with
 |base h=>exact .one (rG (by
  have:∀t∈[[99,104,97,114],[105,110,116],[108,111,110,103],[118,111,105,100]],t∈keys:=by decide
  exact this _ h))
 |struct h=>exact .cons rG (.one (sw h))
 |star _ a=>exact a.app (.one dU)
theorem HR.ok{t:bu}{l:jC}(h:HR t l):∀x∈l,x.Ok:=by
 cases h with
 |none=>simp
 |some h=>exact(zQ.cons dU (.cons (Qa h) (.one dU))).1
theorem Ts{o:bu}(h:o∈vm):(mk o).Ok:=by
 have:∀o∈vm,o∈lM\/∃c∈xG,o=[c]:=dc
 exact .mark (this o h)
theorem RH{o:bu}(h:o∈B2):(mk o).Ok:=by
 have:∀o∈B2,o∈lM\/∃c∈xG,o=[c]:=dc
 exact .mark (this o h)
theorem zQ.tail{l m:jC}(h:zQ l)(k:∀x∈m,x.Ok):zQ (l++m):=⟨λx a=>(aP.1 a).elim (h.1 x) (k x),by simp[h.2]⟩
mutual
theorem qP.all:∀{e:Ex}{l:jC}(_:qP e l),zQ l
 |_,_,.num h=> .one (Qa h)
 |_,_,.var h=> .one (sw h)
 |_,_,.un ho h=> .cons dU (.cons (Ts ho) (h.all.app (.one dU)))
 |_,_,.bin ho h k=> .cons dU (h.all.app (.cons (RH ho) (k.all.app (.one dU))))
 |_,_,.cast ht h=> .cons dU (.cons dU (ht.all.app (.cons dU (h.all.app (.one dU)))))
 |_,_,.call f h=> .cons (sw f) (.cons dU ⟨λx a=>(aP.1 a).elim (h.ok x) λa=>(zQ.one dU).1 x a,sp⟩)
 |_,_,.index h k=>h.all.app (.cons dU (k.all.app (.one dU)))
 |_,_,.fN b h=>h.all.app (.cons dU (.one (sw b)))
 |_,_,.arrow b h=>h.all.app (.cons (.mark (.inl dc)) (.one (sw b)))
 |_,_,.qp=> .cons rG (.cons dU (.one dU))
 |_,_,.size ht g=> .cons rG (.cons dU (ht.all.tail λx a=>(aP.1 a).elim (g.ok x) λa=>(zQ.one dU).1 x a))
theorem ve.ok:∀{e:List Ex}{l:jC}(_:ve e l),∀x∈l,x.Ok
 |_,_,.nil=>by simp
 |_,_,.one h=>h.all.1
 |_,_,.cons h k=>(h.all.tail λx a=>(ak.1 a).elim (λe=>e▸dU) (k.ok x)).1
end
mutual
theorem vf.all:∀{e:Sm}{l:jC}(_:vf e l),zQ l
 |_,_,.block h=> .cons dU ⟨λx a=>(aP.1 a).elim (h.ok x) λa=>(zQ.one dU).1 x a,sp⟩
 |_,_,.empty=> .one dU
 |_,_,.Ar ht f b=>ht.all.app (.cons (sw b) ⟨λx a=>(aP.1 a).elim (f.ok x) λa=>(zQ.one dU).1 x a,sp⟩)
 |_,_,.As ht b h=>ht.all.app (.cons (sw b) (.cons dU (h.all.app (.one dU))))
 |_,_,.assign h k=>h.all.app (.cons dU (k.all.app (.one dU)))
 |_,_,.eval h=>h.all.app (.one dU)
 |_,_,.ifs h k=> .cons rG (.cons dU (h.all.app (.cons dU k.all)))
 |_,_,.wD h k k2=> .cons rG (.cons dU (h.all.app (.cons dU (k.all.app (.cons rG k2.all)))))
 |_,_,.wE h k=> .cons rG (.cons dU (h.all.app (.cons dU k.all)))
 |_,_,.xq=> .cons rG (.one dU)
 |_,_,.cont=> .cons rG (.one dU)
 |_,_,.GI=> .cons rG (.one dU)
 |_,_,.GJ h=> .cons rG (h.all.app (.one dU))
 |_,_,.out h=> .cons rG (.cons dU (h.all.app (.cons dU (.one dU))))
theorem GH.all:∀{e:Sm}{l:jC}(_:GH e l),zQ l
 |_,_,.is _ h=>h.all
 |_,_,.wrap _ _ h=> .cons dU (h.all.app (.one dU))
theorem xR.ok:∀{e:List Sm}{l:jC}(_:xR e l),∀x∈l,x.Ok
 |_,_,.nil=>by simp
 |_,_,.cons h k=>(h.all.tail k.ok).1
end
theorem hW{w:Wo}{t:bu}(h:w.tk=mk t):eX w t:=by
 simp only[Wo.tk,Tk.mk.injEq]at h;exact⟨h.2.1,om⟩
theorem ou{w:Wo}{t:bu}(h:w.tk=ky t):eX w t:=by
 simp only[Wo.tk,Tk.mk.injEq]at h;exact⟨h.2.1,om⟩
theorem wZ{w:Wo}{t:bu}(h:w.tk=B1 t):w.kind=1/\w.text=t:=by
 simp only[Wo.tk,Tk.mk.injEq]at h;exact⟨h.1,h.2.1⟩
theorem RJ{w:Wo}{n:Nat}(h:w.tk=TI n):w.kind=2/\w.n=n:=by
 simp only[Wo.tk,Tk.mk.injEq]at h;exact⟨h.1,h.2.2⟩
theorem map_cons{lw:dh}{x:Tk}{l:jC}(h:lw.map Wo.tk=x::l):∃w r,lw=w::r/\w.tk=x/\r.map Wo.tk=l:=by
 cases lw with
 |nil=>cases h
 |cons w r=>simp only[bL,da]at h;exact⟨w,r,rfl,h.1,h.2⟩
theorem bU{lw:dh}{a b:jC}(h:lw.map Wo.tk=a++b):∃x y,lw=x++y/\x.map Wo.tk=a/\y.map Wo.tk=b:=List.map_eq_append_iff.1 h
theorem map_nil{lw:dh}(h:lw.map Wo.tk=[]):lw=[]:=List.map_eq_nil_iff.1 h
theorem xu.form{t:bu}{l:jC}(h:xu t l):∃b bl k,t=b++List.replicate k 42/\l=bl++List.replicate k (mk [42])/\((b∈[[99,104,97,114],[105,110,116],[108,111,110,103],[118,111,105,100]]/\bl=[ky b])\/∃n,Nm n/\b=[115,116,114,117,99,116,32]++n/\bl=[ky [115,116,114,117,99,116],B1 n]):=by
 induction h with
 |base h=>exact⟨_,_,0,sp,sp,.inl ⟨h,rfl⟩⟩
 |struct h=>exact⟨_,_,0,sp,sp,.inr ⟨_,h,rfl,rfl⟩⟩
 |star _ a=>
  obtain⟨b,bl,k,rfl,rfl,e⟩:=a;exact⟨b,bl,k+1,by rw[List.replicate_succ'];simp,by rw[List.replicate_succ'];simp,e⟩
theorem zR:∀(k:Nat){lw rest ws:dh}{s:bu},lw.map Wo.tk=List.replicate k (mk [42])->bF rest [42]=false->pH (lw++rest) ws s->s=List.replicate k 42/\ws=rest
 |0,lw,rest,ws,s,h,hr,a=>by
  have:=map_nil h;subst this;simp only[aX]at a;cases a with
  |done _=>exact⟨rfl,rfl⟩
  |star g _=>rw[g.bF]at hr;cases hr
 |k+1,lw,rest,ws,s,h,hr,a=>by
  obtain⟨w,r,rfl,e1,e2⟩:=map_cons h;simp only[aI]at a;cases a with
  |done f=>rw[(hW e1).bF]at f;cases f
  |star _ b=>
   obtain⟨e,e3⟩:=zR k e2 hr b;exact⟨by rw[e];rfl,e3⟩
theorem im{t t':bu}{l:jC}(h:xu t l){lw rest ws:dh}(u:lw.map Wo.tk=l)(hr:bF rest [42]=false)(a:vj (lw++rest) ws t'):t'=t/\ws=rest:=by
 obtain⟨b,bl,k,rfl,rfl,g⟩:=h.form;obtain⟨x,y,rfl,e1,e2⟩:=bU u;rcases g with⟨g,rfl⟩|⟨n,C,rfl,rfl⟩
 ·obtain⟨w,r,rfl,e3,i⟩:=map_cons e1;obtain rfl:=map_nil i;simp only[aI,aX]at a;have p:=ou e3;generalize v:y++rest=z at a;cases a with
  |base _ _ f=>
   rw[<-v]at f;obtain⟨j,m⟩:=zR k e2 hr f;exact⟨by rw[p.t,j],m⟩
  |struct h _ _=>
   have e:b=[115,116,114,117,99,116]:=p.t.symm.trans h.t;subst e;exact absurd g dc
 ·obtain⟨w,r,rfl,e3,i⟩:=map_cons e1;obtain⟨D,F,rfl,j,m⟩:=map_cons i;obtain rfl:=map_nil m;simp only[aI,aX]at a;cases a with
  |base _ o _=>exact(o (ou e3).t).elim
  |struct _ _ f=>
   obtain⟨A,B⟩:=zR k e2 hr f;exact⟨by rw[(wZ j).2,A],B⟩
theorem AX{t a t':bu}{l:jC}(h:HR a l){lw rest ws:dh}(f:lw.map Wo.tk=l)(hr:bF rest [91]=false)(b:Eb (lw++rest) ws t t'):t'=t++a/\ws=rest:=by
 cases h with
 |none=>
  obtain rfl:=map_nil f;simp only[aX]at b;cases b with
  |none _=>exact⟨sp,rfl⟩
  |some h _ _=>rw[h.bF]at hr;cases hr
 |@some n e=>
  obtain⟨w,r,rfl,e1,e2⟩:=map_cons f;obtain⟨j,m,rfl,e3,g⟩:=map_cons e2;obtain⟨o,r3,rfl,p,i⟩:=map_cons g;obtain rfl:=map_nil i;simp only[aI,aX]at b;cases b with
  |none e=>rw[(hW e1).bF]at e;cases e
  |some _ _ _=>exact⟨by rw[(RJ e3).2];simp,rfl⟩
theorem nc{t:bu}{l:jC}(h:xu t l){lw rest:dh}(f:lw.map Wo.tk=l):dF (lw++rest)=true:=by
 obtain⟨b,bl,k,rfl,rfl,a⟩:=h.form;obtain⟨x,y,rfl,e1,e2⟩:=bU f;rcases a with⟨a,rfl⟩|⟨n,i,rfl,rfl⟩
 ·obtain⟨w,r,rfl,e3,g⟩:=map_cons e1;have e:=ou e3;simp only[dF,anyS,fw,aI];refine⟨b,?_,by rw[e.bF];simp⟩;simp only[ak,bm,cT]at a;rcases a with rfl|rfl|rfl|rfl<;>decide
 ·obtain⟨w,r,rfl,e3,g⟩:=map_cons e1;have e:=ou e3;simp only[dF,anyS,fw,aI];exact⟨[115,116,114,117,99,116],dc,by rw[e.bF];decide⟩
theorem eH{w:Wo}{t:bu}(h:eX w t)(ws:dh)(L:List (bu)):anyS (w::ws) L=L.contains t:=by
 unfold anyS;rw[Bool.eq_iff_iff,fw,dQ];constructor
 ·rintro⟨x,a,b⟩
  rw[h.bF,ju]at b;exact b▸a
 ·intro a;exact⟨t,a,by rw[h.bF];simp⟩
theorem MW{w:Wo}(h:w.kind<3)(ws:dh)(L:List (bu)):anyS (w::ws) L=false:=by
 unfold anyS;rw[dx];intro b;obtain⟨x,_,a⟩:=fw.1 b;rw[dY h]at a;cases a
def Sa:List (List UInt8):=[[91],[46],[45,62]]
structure Halt(ws:List Wo):Prop where
 s:anyS ws Sa=false
 l:iZ ws= -1
theorem Jg{ws:dh}:∀(i:Nat)(L:List (List (bu))),(∀l∈L,anyS ws l=false)->kL ws i L= -1
 |_,[],_=>rfl
 |i,l::L,h=>by
  simp only[kL,h l sp];exact Jg (i+1) L λx a=>h x (by simp[a])
theorem gS{w:Wo}{t:bu}(h:eX w t){ws:dh}(b:Sa.contains t=false:=by decide)(a:B2.contains t=false:=by decide):Halt (w::ws):=by
 refine⟨by rw[eH h];exact b,Jg _ _ λl e=>?_⟩;rw[eH h,dx];intro f;rw[dx]at a;exact a (dQ.2 (List.mem_flatten.2 ⟨l,e,dQ.1 f⟩))
theorem Pd{w:Wo}{o:bu}(ho:o∈B2)(h:eX w o)(ws:dh):(0:Int)<=iZ (w::ws)/\anyS (w::ws) Sa=false:=by
 have key:∀o∈B2,∀(i:Nat)(L:List (List (bu))),(∃l∈L,o∈l)->(0:Int)<=kL (w::ws) i L\/¬eX w o:=by
  intro o _ i L;induction L generalizing i with
  |nil=>rintro⟨l,a,_⟩;cases a
  |cons l L j=>
   rintro⟨m,hm,ho⟩
   by_cases b:eX w o
   ·left;simp only[kL];split
    ·omega
    ·rename_i g;rcases ak.1 hm with rfl|hm
     ·rw[eH b]at g;exact absurd (dQ.2 ho) g
     ·exact(j (i+1) ⟨m,hm,ho⟩).resolve_right λe=>e b
   ·exact .inr b
 obtain⟨l,a,f⟩:=List.mem_flatten.1 ho;refine⟨(key o ho 0 ly ⟨l,a,f⟩).resolve_right λe=>e h,?_⟩;rw[eH h];have:∀o∈B2,Sa.contains o=false:=dc
 exact this o ho
def FT(w:Wo):Prop:=w.kind<3\/eX w [40]\/eX w [105,110]\/eX w [115,105,122,101,111,102]
theorem FT.any{w:Wo}(h:FT w)(ws:dh)(L:List (bu))(a:L.contains [40]=false:=by decide)(b:L.contains [105,110]=false:=by decide)(e:L.contains [115,105,122,101,111,102]=false:=by decide):anyS (w::ws) L=false:=by
 rcases h with h|h|h|h
 ·exact MW h _ _
 ·rw[eH h];exact a
 ·rw[eH h];exact b
 ·rw[eH h];exact e
theorem FT.no{w:Wo}(h:FT w)(ws:dh)(t:bu)(a:[t].contains [40]=false:=by decide)(b:[t].contains [105,110]=false:=by decide)(e:[t].contains [115,105,122,101,111,102]=false:=by decide):bF (w::ws) t=false:=by
 have:=h.any ws [t] a b e;simpa[anyS]using this
theorem qP.ft:∀{e:Ex}{l:jC}(_:qP e l){lw:dh}(_:lw.map Wo.tk=l),∃w r,lw=w::r/\FT w
 |_,_,.num h,lw,a=>by obtain⟨w,r,rfl,e1,_⟩:=map_cons a;exact⟨w,r,rfl,.inl (by rw[(RJ e1).1];decide)⟩
 |_,_,.var h,lw,a=>by obtain⟨w,r,rfl,e1,_⟩:=map_cons a;exact⟨w,r,rfl,.inl (by rw[(wZ e1).1];decide)⟩
 |_,_,.call _ _,lw,a=>by obtain⟨w,r,rfl,e1,_⟩:=map_cons a;exact⟨w,r,rfl,.inl (by rw[(wZ e1).1];decide)⟩
 |_,_,.un _ _,lw,a=>by obtain⟨w,r,rfl,e1,_⟩:=map_cons a;exact⟨w,r,rfl,.inr (.inl (hW e1))⟩
 |_,_,.bin _ _ _,lw,a=>by obtain⟨w,r,rfl,e1,_⟩:=map_cons a;exact⟨w,r,rfl,.inr (.inl (hW e1))⟩
 |_,_,.cast _ _,lw,a=>by obtain⟨w,r,rfl,e1,_⟩:=map_cons a;exact⟨w,r,rfl,.inr (.inl (hW e1))⟩
 |_,_,.qp,lw,a=>by obtain⟨w,r,rfl,e1,_⟩:=map_cons a;exact⟨w,r,rfl,.inr (.inr (.inl (ou e1)))⟩
 |_,_,.size _ _,lw,a=>by obtain⟨w,r,rfl,e1,_⟩:=map_cons a;exact⟨w,r,rfl,.inr (.inr (.inr (ou e1)))⟩
 |_,_,.index h _,lw,a=>by obtain⟨x,y,rfl,e1,_⟩:=bU a;obtain⟨w,r,rfl,f⟩:=h.ft e1;exact⟨w,_,rfl,f⟩
 |_,_,.fN _ h,lw,a=>by obtain⟨x,y,rfl,e1,_⟩:=bU a;obtain⟨w,r,rfl,f⟩:=h.ft e1;exact⟨w,_,rfl,f⟩
 |_,_,.arrow _ h,lw,a=>by obtain⟨x,y,rfl,e1,_⟩:=bU a;obtain⟨w,r,rfl,f⟩:=h.ft e1;exact⟨w,_,rfl,f⟩
def PU(e:Ex)(l:List Tk):Prop:=∀(lw rest bH:List Wo)(b:Nat)(e':Ex),lw.map Wo.tk=l->bF rest [40]=false->G .un b (lw++rest) bH (.e e')->∃e1 a,vd e e1/\G (.jx e1) a rest bH (.e e')
theorem MX{e e':Ex}{b:Nat}{ws bH:dh}(a:anyS ws Sa=false)(h:G (.jx e) b ws bH (.e e')):bH=ws/\e'=e:=by
 cases h with
 |uV _=>exact⟨rfl,rfl⟩
 |Aw ho _ _ _=>rw[eH ho]at a;exact absurd a dc
 |Ax ho _ _=>rw[eH ho]at a;exact absurd a dc
 |Ay ho _ _=>rw[eH ho]at a;exact absurd a dc
theorem PU.un{e:Ex}{l:jC}(p:PU e l){lw rest bH:dh}{b:Nat}{e':Ex}(a:lw.map Wo.tk=l)(f:bF rest [40]=false)(g:anyS rest Sa=false)(h:G .un b (lw++rest) bH (.e e')):bH=rest/\vd e e':=by
 obtain⟨e1,i,q,k⟩:=p _ _ _ _ _ a f h;obtain⟨e2,e3⟩:=MX g k;exact⟨e2,e3▸q⟩
theorem PU.bin{e:Ex}{l:jC}(p:PU e l){lw rest bH:dh}{b n:Nat}{e':Ex}(g:lw.map Wo.tk=l)(i:bF rest [40]=false)(f:Halt rest)(h:G (.bin n) b (lw++rest) bH (.e e')):bH=rest/\vd e e':=by
 cases h with
 |bin hu a _=>
  obtain⟨rfl,q⟩:=p.un g i f.s hu;cases a with
  |stop=>exact⟨rfl,q⟩
  |step ho j _ _=>rw[f.l]at ho;omega
theorem cK{w:Wo}{t s:bu}(h:eX w t)(ws:dh)(a:(t==s)=false:=by decide):bF (w::ws) s=false:=by rw[h.bF];exact a
theorem cX{w:Wo}{t s:bu}(h:eX w t)(k:eX w s)(a:t≠s:=by decide):False:=a (h.t.symm.trans k.t)
theorem rQ{w:Wo}{t:bu}{k:Int}(h:eX w t)(e:w.kind=k)(a:k<3:=by decide):False:=by have:=h.k;omega
theorem HS{o:Wo}(ho:eX o [40]){ws bH:dh}{b:Nat}{e':Ex}(ht:dF ws=false)(h:G .un b (o::ws) bH (.e e')):∃i c bQ g,G (.bin 0) i ws (c::bQ) (.e g)/\eX c [41]/\∃j,G (.jx g) j bQ bH (.e e'):=by
 cases h with
 |unop hu _=>rw[eH ho]at hu;exact absurd hu dc
 |cast _ f _ _ _=>rw[ht]at f;cases f
 |post _ _ m p=>
  cases m with
  |num a=>exact(rQ ho a).elim
  |var a _=>exact(rQ ho a).elim
  |tT a _ _=>exact(rQ ho a).elim
  |call a _ _ _=>exact(rQ ho a).elim
  |paren _ he t=>exact⟨_,_,_,_,he,t,_,p⟩
  |qp a _ _=>exact(cX ho a).elim
  |size a _ _ _ _=>exact(cX ho a).elim
theorem yT{w:Wo}{ws bH:dh}{b:Nat}{e':Ex}(hw:w.kind<3\/eX w [105,110]\/eX w [115,105,122,101,111,102])(h:G .un b (w::ws) bH (.e e')):∃a bQ f,G .ed a (w::ws) bQ (.e f)/\G (.jx f) a bQ bH (.e e'):=by
 cases h with
 |unop hu _=>
  rcases hw with h|h|h
  ·rw[MW h]at hu;cases hu
  ·rw[eH h]at hu;exact absurd hu dc
  ·rw[eH h]at hu;exact absurd hu dc
 |cast ho _ _ _ _=>
  rcases hw with h|h|h
  ·have:=ho.k;omega
  ·exact(cX ho h).elim
  ·exact(cX ho h).elim
 |post _ _ g i=>exact⟨_,_,_,g,i⟩
mutual
theorem qP.pu:∀{e:Ex}{l:jC}(_:qP e l),PU e l
 |_,_,.num (n:=n) _,lw,rest,bH,b,e',p,D,h=>by
  obtain⟨w,r,rfl,e1,e2⟩:=map_cons p;obtain rfl:=map_nil e2;obtain⟨k1,k2⟩:=RJ e1;obtain⟨b1,bQ,e0,O,j⟩:=yT (.inl om) h;cases O with
  |num _=>exact⟨_,_,by rw[k2];exact .num,j⟩
  |var i _=>omega
  |tT i _ _=>omega
  |call i _ _ _=>omega
  |paren ho _ _=>exact(rQ ho k1).elim
  |qp i _ _=>exact(rQ i k1).elim
  |size i _ _ _ _=>exact(rQ i k1).elim
 |_,_,.var (s:=s) _,lw,rest,bH,b,e',p,D,h=>by
  obtain⟨w,r,rfl,e1,e2⟩:=map_cons p;obtain rfl:=map_nil e2;obtain⟨k1,k2⟩:=wZ e1;simp only[aI,aX]at h;obtain⟨b1,bQ,e0,O,j⟩:=yT (.inl om) h;cases O with
  |num i=>omega
  |var _ _=>exact⟨_,_,by rw[k2];exact .var,j⟩
  |tT _ ho _=>rw[ho.bF]at D;exact absurd D dc
  |call _ ho _ _=>rw[ho.bF]at D;exact absurd D dc
  |paren ho _ _=>exact(rQ ho k1).elim
  |qp i _ _=>exact(rQ i k1).elim
  |size i _ _ _ _=>exact(rQ i k1).elim
 |_,_,.un (o:=o) (a:=a) ho m,lw,rest,bH,b,e',p,D,h=>by
  obtain⟨w,r,rfl,e1,e2⟩:=map_cons p;obtain⟨N,W,rfl,e3,v⟩:=map_cons e2;obtain⟨x,y,rfl,u,A⟩:=bU v;obtain⟨I,r3,rfl,J,P⟩:=map_cons A;obtain rfl:=map_nil P;simp only[aI,aU,aX]at h;have k2:=hW e3;have k3:=hW J;have Q:dF (N::(x++I::rest))=false:=by
   unfold dF;rw[eH k2];have:∀o∈vm,wJ.contains o=false:=dc;exact this o ho
  obtain⟨b1,c,bQ,e0,he,hc,b2,j⟩:=HS (hW e1) Q h;cases he with
  |bin hu B A4=>
   have V:∀o∈vm,o≠[40]:=dc;cases hu with
   |unop _ K=>
    obtain⟨rfl,q⟩:=m.pu.un u (cK k3 _) (gS k3).s K;cases B with
    |stop=>exact⟨_,_,by rw[k2.t];exact .un q,j⟩
    |step F R _ _=>rw[(gS k3).l]at F;omega
   |cast C2 _ _ _ _=>exact(V o ho (k2.t.symm.trans C2.t)).elim
   |post h1 _ _ _=>
    rw[eH k2]at h1;have:∀o∈vm,vm.contains o=true:=dc;rw[this o ho]at h1;cases h1
 |_,_,.bin (o:=o) (a:=a) (b:=bb) ho m hb,lw,rest,bH,b,e',p,D,h=>by
  obtain⟨w,r,rfl,e1,e2⟩:=map_cons p;obtain⟨x,y,rfl,e3,v⟩:=bU e2;obtain⟨N,W,rfl,u,A⟩:=map_cons v;obtain⟨S,y2,rfl,J,P⟩:=bU A;obtain⟨I,r3,rfl,U,C⟩:=map_cons P;obtain rfl:=map_nil C;simp only[aI,aU,aX]at h;have k2:=hW u;have k3:=hW U;have Q:dF (x++N::(S++I::rest))=false:=by
   obtain⟨f,g,rfl,hf⟩:=m.ft e3;exact hf.any _ _
  obtain⟨b1,c,bQ,e0,he,hc,b2,j⟩:=HS (hW e1) Q h;obtain⟨C6,C3⟩:=Pd ho k2 (S++I::rest);have V:∀o∈B2,(o==[40])=false/\o≠[41]:=by decide
  cases he with
  |bin hu B A4=>
   obtain⟨rfl,q⟩:=m.pu.un e3 (cK k2 _ (V o ho).1) C3 hu;cases B with
   |stop=>exact((V o ho).2 (k2.t.symm.trans hc.t)).elim
   |step F R C4 A5=>
    obtain⟨rfl,q2⟩:=hb.pu.bin J (cK k3 _) (gS k3) C4;cases A5 with
    |stop=>exact⟨_,_,by rw[k2.t];exact .bin q q2,j⟩
    |step Au C7 _ _=>rw[(gS k3).l]at Au;omega
 |_,_,.cast (t:=t) (a:=a) ht m,lw,rest,bH,b,e',p,D,h=>by
  obtain⟨w,r,rfl,e1,e2⟩:=map_cons p;obtain⟨N,W,rfl,e3,v⟩:=map_cons e2;obtain⟨x,y,rfl,u,A⟩:=bU v;obtain⟨I,r3,rfl,J,P⟩:=map_cons A;obtain⟨S,y2,rfl,U,C⟩:=bU P;obtain⟨w4,r4,rfl,A1,A2⟩:=map_cons C;obtain rfl:=map_nil A2;simp only[aI,aU,aX]at h;have k2:=hW e3;have k3:=hW J;have k4:=hW A1;have Q:dF (N::(x++I::(S++w4::rest)))=false:=by unfold dF;rw[eH k2];decide
  obtain⟨b1,c,bQ,e0,he,hc,b2,j⟩:=HS (hW e1) Q h;have C1:=nc ht (rest:=I::(S++w4::rest)) u;cases he with
  |bin hu B A4=>
   cases hu with
   |unop K _=>rw[eH k2]at K;exact absurd K dc
   |cast _ _ hT C8 K=>
    obtain⟨rfl,C5⟩:=im ht u (cK k3 _) hT;cases C5;obtain⟨rfl,q⟩:=m.pu.un U (cK k4 _) (gS k4).s K;cases B with
    |stop=>exact⟨_,_,.cast q,j⟩
    |step F R _ _=>rw[(gS k4).l]at F;omega
   |post _ h2 _ _=>
    rcases h2 with h2|h2
    ·rw[k2.bF]at h2;exact absurd h2 dc
    ·rw[List.tail_cons,C1]at h2;cases h2
 |_,_,.call (f:=f) (xs:=xs) _ m,lw,rest,bH,b,e',p,D,h=>by
  obtain⟨w,r,rfl,e1,e2⟩:=map_cons p;obtain⟨N,W,rfl,e3,v⟩:=map_cons e2;obtain⟨x,y,rfl,u,A⟩:=bU v;obtain⟨I,r3,rfl,J,P⟩:=map_cons A;obtain rfl:=map_nil P;simp only[aI,aU,aX]at h;obtain⟨k1,k0⟩:=wZ e1;have k2:=hW e3;have k3:=hW J;obtain⟨b1,bQ,e0,O,j⟩:=yT (.inl om) h;generalize Z:x++I::rest=z at O;cases O with
  |num i=>omega
  |var _ hv=>rw[k2.bF]at hv;exact absurd hv dc
  |tT _ _ hc=>
   cases m with
   |nil=>
    obtain rfl:=map_nil u;cases Z;exact⟨_,_,by rw[k0];exact .call .nil,j⟩
   |one m=>obtain⟨f1,g1,rfl,hf⟩:=m.ft u;cases Z;have:=hf.no [] [41];rw[hc.bF]at this;exact absurd this dc
   |cons m _=>obtain⟨x1,y1,rfl,U,_⟩:=bU u;obtain⟨f1,g1,rfl,hf⟩:=m.ft U;cases Z;have:=hf.no [] [41];rw[hc.bF]at this;exact absurd this dc
  |call _ _ A3 hr=>
   subst Z;cases hx:xs with
   |nil=>
    subst hx;cases m with
    |nil=>obtain rfl:=map_nil u;simp only[aX]at A3;rw[k3.bF]at A3;exact absurd A3 dc
   |cons a l=>
    obtain⟨rfl,q⟩:=m.pa (by rw[hx];simp) u k3 hr;exact⟨_,_,by rw[k0,<-hx];exact .call q,j⟩
  |paren ho _ _=>exact(rQ ho k1).elim
  |qp i _ _=>exact(rQ i k1).elim
  |size i _ _ _ _=>exact(rQ i k1).elim
 |_,_,.index m hb,lw,rest,bH,b,e',p,D,h=>by
  obtain⟨x,y,rfl,e1,e2⟩:=bU p;obtain⟨w,r,rfl,e3,v⟩:=map_cons e2;obtain⟨S,y2,rfl,u,A⟩:=bU v;obtain⟨N,W,rfl,J,P⟩:=map_cons A;obtain rfl:=map_nil P;simp only[aI,aU,aX]at h;have k:=hW e3;have k2:=hW J;obtain⟨U,b9,q,j⟩:=m.pu _ _ _ _ _ e1 (cK k _) h;generalize Z:S++N::rest=z at j;cases j with
  |uV R=>rw[eH k]at R;exact absurd R dc
  |Aw _ hi _ j=>
   subst Z;obtain⟨C,q2⟩:=hb.pu.bin u (cK k2 _) (gS k2) hi;cases C;exact⟨_,_,.index q q2,j⟩
  |Ax ho _ _=>exact(cX k ho).elim
  |Ay ho _ _=>exact(cX k ho).elim
 |_,_,.fN _ m,lw,rest,bH,b,e',p,D,h=>by
  obtain⟨x,y,rfl,e1,e2⟩:=bU p;obtain⟨w,r,rfl,e3,v⟩:=map_cons e2;obtain⟨N,W,rfl,u,A⟩:=map_cons v;obtain rfl:=map_nil A;simp only[aI,aU,aX]at h;have k:=hW e3;obtain⟨U,b9,q,j⟩:=m.pu _ _ _ _ _ e1 (cK k _) h;cases j with
  |uV R=>rw[eH k]at R;exact absurd R dc
  |Aw ho _ _ _=>exact(cX k ho).elim
  |Ax _ _ j=>exact⟨_,_,by rw[(wZ u).2];exact .fN q,j⟩
  |Ay ho _ _=>exact(cX k ho).elim
 |_,_,.arrow _ m,lw,rest,bH,b,e',p,D,h=>by
  obtain⟨x,y,rfl,e1,e2⟩:=bU p;obtain⟨w,r,rfl,e3,v⟩:=map_cons e2;obtain⟨N,W,rfl,u,A⟩:=map_cons v;obtain rfl:=map_nil A;simp only[aI,aU,aX]at h;have k:=hW e3;obtain⟨U,b9,q,j⟩:=m.pu _ _ _ _ _ e1 (cK k _) h;cases j with
  |uV R=>rw[eH k]at R;exact absurd R dc
  |Aw ho _ _ _=>exact(cX k ho).elim
  |Ax ho _ _=>exact(cX k ho).elim
  |Ay _ _ j=>exact⟨_,_,by rw[(wZ u).2];exact .arrow q,j⟩
 |_,_,.qp,lw,rest,bH,b,e',p,D,h=>by
  obtain⟨w,r,rfl,e1,e2⟩:=map_cons p;obtain⟨N,W,rfl,e3,v⟩:=map_cons e2;obtain⟨I,r3,rfl,u,A⟩:=map_cons v;obtain rfl:=map_nil A;have k:=ou e1;obtain⟨b1,bQ,e0,O,j⟩:=yT (.inr (.inl k)) h;cases O with
  |num i=>exact(rQ k i).elim
  |var i _=>exact(rQ k i).elim
  |tT i _ _=>exact(rQ k i).elim
  |call i _ _ _=>exact(rQ k i).elim
  |paren ho _ _=>exact(cX k ho).elim
  |qp _ _ _=>exact⟨_,_,.qp,j⟩
  |size i _ _ _ _=>exact(cX k i).elim
 |_,_,.size ht m,lw,rest,bH,b,e',p,D,h=>by
  obtain⟨w,r,rfl,e1,e2⟩:=map_cons p;obtain⟨N,W,rfl,e3,v⟩:=map_cons e2;obtain⟨x,y,rfl,u,A⟩:=bU v;obtain⟨S,y2,rfl,J,P⟩:=bU A;obtain⟨I,r3,rfl,U,C⟩:=map_cons P;obtain rfl:=map_nil C;simp only[aI,aU,aX]at h;have k:=ou e1;have k3:=hW U;obtain⟨b1,bQ,e0,O,j⟩:=yT (.inr (.inr k)) h;generalize Z:x++(S++I::rest)=z at O;cases O with
  |num i=>exact(rQ k i).elim
  |var i _=>exact(rQ k i).elim
  |tT i _ _=>exact(rQ k i).elim
  |call i _ _ _=>exact(rQ k i).elim
  |paren ho _ _=>exact(cX k ho).elim
  |qp i _ _=>exact(cX k i).elim
  |size _ _ hT hA hc=>
   subst Z;have B:bF (S++I::rest) [42]=false:=by
    cases m with
    |none=>obtain rfl:=map_nil J;exact cK k3 _
    |some _=>obtain⟨w4,r4,rfl,A1,_⟩:=map_cons J;exact cK (hW A1) _
   obtain⟨rfl,rfl⟩:=im ht u B hT;obtain⟨rfl,A2⟩:=AX m J (cK k3 _) hA;cases A2;exact⟨_,_,.size,j⟩
theorem ve.pa:∀{xs:List Ex}{l:jC}(_:ve xs l)(_:xs≠[]){lw rest bH:dh}{c:Wo}{b:Nat}{g:List Ex}(_:lw.map Wo.tk=l)(_:eX c [41])(_:G .args b (lw++c::rest) bH (.es g)),bH=rest/\Gx xs g
 |_,_,.nil,m,_,_,_,_,_,_,_,_,_=>(m rfl).elim
 |_,_,.one f,_,lw,rest,bH,c,b,g,i,e,h=>by
  cases h with
  |Ec he a=>
   obtain⟨e1,q⟩:=f.pu.bin i (cK e _) (gS e) he;cases e1;exact⟨rfl,.cons q .nil⟩
  |Co he a _=>
   obtain⟨e1,q⟩:=f.pu.bin i (cK e _) (gS e) he;cases e1;exact(cX e a).elim
 |_,_,.cons f hr,_,lw,rest,bH,c,b,g,i,e,h=>by
  obtain⟨x,y,rfl,e1,e2⟩:=bU i;obtain⟨w,r,rfl,e3,o⟩:=map_cons e2;have k:=hW e3;simp only[aU,aI]at h;cases h with
  |Ec he a=>
   obtain⟨j,q⟩:=f.pu.bin e1 (cK k _) (gS k) he;cases j;exact(cX k a).elim
  |Co he a ht=>
   obtain⟨j,q⟩:=f.pu.bin e1 (cK k _) (gS k) he;cases j;obtain⟨p,t⟩:=hr.pa sp o e ht;exact⟨p,.cons q t⟩
end
theorem FT.ne{w:Wo}{t:bu}(h:FT w)(k:eX w t)(a:t≠[40]:=by decide)(b:t≠[105,110]:=by decide)(e:t≠[115,105,122,101,111,102]:=by decide):False:=by
 rcases h with h|h|h|h
 ·have:=k.k;omega
 ·exact a (k.t.symm.trans h.t)
 ·exact b (k.t.symm.trans h.t)
 ·exact e (k.t.symm.trans h.t)
theorem UK{ws:dh}(h:dF ws=true)(t:bu)(ht:wJ.contains t=false):bF ws t=false:=by
 rw[dx];intro a;obtain⟨w,r,rfl,b⟩:=oe.1 a;unfold dF at h;rw[eH b,ht]at h;cases h
theorem vf.first:∀{s:Sm}{l:jC}(_:vf s l){lw:dh}(_:lw.map Wo.tk=l)(r:dh),dF (lw++r)=!nd s/\bF (lw++r) [125]=false/\bF (lw++r) [101,108,115,101]=false
 |_,_,.block _,lw,a,r=>by obtain⟨w,x,rfl,e,_⟩:=map_cons a;have k:=hW e;exact⟨by unfold dF;rw[aI,eH k];show wJ.contains _=false;decide,cK k _,cK k _⟩
 |_,_,.empty,lw,a,r=>by obtain⟨w,x,rfl,e,_⟩:=map_cons a;have k:=hW e;exact⟨by unfold dF;rw[aI,eH k];show wJ.contains _=false;decide,cK k _,cK k _⟩
 |_,_,.ifs _ _,lw,a,r=>by obtain⟨w,x,rfl,e,_⟩:=map_cons a;have k:=ou e;exact⟨by unfold dF;rw[aI,eH k];show wJ.contains _=false;decide,cK k _,cK k _⟩
 |_,_,.wD _ _ _,lw,a,r=>by obtain⟨w,x,rfl,e,_⟩:=map_cons a;have k:=ou e;exact⟨by unfold dF;rw[aI,eH k];show wJ.contains _=false;decide,cK k _,cK k _⟩
 |_,_,.wE _ _,lw,a,r=>by obtain⟨w,x,rfl,e,_⟩:=map_cons a;have k:=ou e;exact⟨by unfold dF;rw[aI,eH k];show wJ.contains _=false;decide,cK k _,cK k _⟩
 |_,_,.xq,lw,a,r=>by obtain⟨w,x,rfl,e,_⟩:=map_cons a;have k:=ou e;exact⟨by unfold dF;rw[aI,eH k];show wJ.contains _=false;decide,cK k _,cK k _⟩
 |_,_,.cont,lw,a,r=>by obtain⟨w,x,rfl,e,_⟩:=map_cons a;have k:=ou e;exact⟨by unfold dF;rw[aI,eH k];show wJ.contains _=false;decide,cK k _,cK k _⟩
 |_,_,.GI,lw,a,r=>by obtain⟨w,x,rfl,e,_⟩:=map_cons a;have k:=ou e;exact⟨by unfold dF;rw[aI,eH k];show wJ.contains _=false;decide,cK k _,cK k _⟩
 |_,_,.GJ _,lw,a,r=>by obtain⟨w,x,rfl,e,_⟩:=map_cons a;have k:=ou e;exact⟨by unfold dF;rw[aI,eH k];show wJ.contains _=false;decide,cK k _,cK k _⟩
 |_,_,.out _,lw,a,r=>by obtain⟨w,x,rfl,e,_⟩:=map_cons a;have k:=ou e;exact⟨by unfold dF;rw[aI,eH k];show wJ.contains _=false;decide,cK k _,cK k _⟩
 |_,_,.eval h,lw,a,r=>by
  obtain⟨x,y,rfl,e1,_⟩:=bU a;obtain⟨w,x,rfl,f⟩:=h.ft e1;exact⟨f.any _ _,f.no _ _,f.no _ _⟩
 |_,_,.assign h _,lw,a,r=>by
  obtain⟨x,y,rfl,e1,_⟩:=bU a;obtain⟨w,x,rfl,f⟩:=h.ft e1;exact⟨f.any _ _,f.no _ _,f.no _ _⟩
 |_,_,.Ar ht _ _,lw,a,r=>by
  obtain⟨x,y,rfl,e1,_⟩:=bU a;rw[aU];have:=nc ht (rest:=y++r) e1;exact⟨by rw[this];rfl,UK this _ dc,UK this _ dc⟩
 |_,_,.As ht _ _,lw,a,r=>by
  obtain⟨x,y,rfl,e1,_⟩:=bU a;rw[aU];have:=nc ht (rest:=y++r) e1;exact⟨by rw[this];rfl,UK this _ dc,UK this _ dc⟩
theorem MZ{w:Wo}{ws bH:dh}{b:Nat}{s:Sm}(hw:FT w)(h:G .pW b (w::ws) bH (.s s)):∃j e q bQ,G (.bin 0) j (w::ws) (q::bQ) (.e e)/\(eX q [59]/\bH=bQ/\s= .eval w.at e\/eX q [61]/\∃m c f,G (.bin 0) m bQ (c::bH) (.e f)/\eX c [59]/\s= .assign w.at e f):=by
 cases h with
 |uH _ he g=>exact⟨_,_,_,_,he,.inl ⟨g,rfl,rfl⟩⟩
 |tV _ he o p g=>exact⟨_,_,_,_,he,.inr ⟨o,_,_,_,p,g,rfl⟩⟩
 |uD i _=>rw[hw.no ws [123]]at i;cases i
 |uE a=>exact(hw.ne a).elim
 |CT a _ _ _ _ _=>exact(hw.ne a).elim
 |tU a _ _ _ _ _ _=>exact(hw.ne a).elim
 |jJ a _ _ _ _=>exact(hw.ne a).elim
 |uF a _=>exact(hw.ne a).elim
 |nW a _=>exact(hw.ne a).elim
 |nZ a _=>exact(hw.ne a).elim
 |oa a _ _ _=>exact(hw.ne a).elim
 |uG a _ _ _ _=>exact(hw.ne a).elim
theorem iI{w:Wo}{t:bu}(k:eX w t){ws:dh}(h:Cr (w::ws)=false)(ht:([[123],[59],[105,102],[119,104,105,108,101],[98,114,101,97,107],[99,111,110,116,105,110,117,101],[114,101,116,117,114,110],[111,117,116]]:List (bu)).contains t=true:=by decide):False:=by
 unfold Cr at h;rw[eH k,ht]at h;cases h
theorem qC{w:Wo}{t:bu}(k:eX w t){ws:dh}(h:bF (w::ws) [123]=true)(ht:(t==[123])=false:=by decide):False:=by
 rw[k.bF,ht]at h;cases h
def PS(s:Sm)(l:List Tk):Prop:=∀(lw rest bH:List Wo)(b:Nat)(s':Sm),lw.map Wo.tk=l->bF rest [101,108,115,101]=false->
 (nd s=true->G .pW b (lw++rest) bH (.s s')->bH=rest/\AF s s')/\(nd s=false->G .dec b (lw++rest) bH (.s s')->bH=rest/\AF s s')/\(ua s=true->G .ub b (lw++rest) bH (.s s')->bH=rest/\AF s s')
theorem PS.pW{s:Sm}{l:jC}(a:nd s=true)(f:ua s=false)(h:∀(lw rest bH:dh)(b:Nat)(s':Sm),lw.map Wo.tk=l->bF rest [101,108,115,101]=false->G .pW b (lw++rest) bH (.s s')->bH=rest/\AF s s'):PS s l:=λlw rest bH b s' g hr=>
 ⟨λ_ k=>h lw rest bH b s' g hr k,(λe=>by rw[a]at e;cases e),(λe=>by rw[f]at e;cases e)⟩
def PB(s:Sm)(l:List Tk):Prop:=∀(lw rest bH:List Wo)(b:Nat)(s':Sm),lw.map Wo.tk=l->G .pW b (lw++rest) bH (.s s')->bH=rest/\Nx s s'
def Ux(xs:List Sm)(l:List Tk):Prop:=∀(lw rest bH:List Wo)(c:Wo)(b:Nat)(a:List Sm),lw.map Wo.tk=l->eX c [125]->G .L8 b (lw++c::rest) bH (.ss a)->bH=rest/\Ez xs a
theorem B3{w:Wo}{ws bH:dh}{b:Nat}{s:Sm}(k:eX w [123])(h:G .pW b (w::ws) bH (.s s)):∃e,G .ub e (w::ws) bH (.s s):=by
 cases h with
 |uD _ f=>exact⟨_,f⟩
 |uH a _ _=>exact(iI k a).elim
 |tV a _ _ _ _=>exact(iI k a).elim
 |uE a=>exact(cX k a).elim
 |CT a _ _ _ _ _=>exact(cX k a).elim
 |tU a _ _ _ _ _ _=>exact(cX k a).elim
 |jJ a _ _ _ _=>exact(cX k a).elim
 |uF a _=>exact(cX k a).elim
 |nW a _=>exact(cX k a).elim
 |nZ a _=>exact(cX k a).elim
 |oa a _ _ _=>exact(cX k a).elim
 |uG a _ _ _ _=>exact(cX k a).elim
theorem Ux.ub{xs:List Sm}{l:jC}(p:Ux xs l){lw rest bH:dh}{b:Nat}{s':Sm}(a:lw.map Wo.tk=mk [123]::(l++[mk [125]]))(h:G .ub b (lw++rest) bH (.s s')):bH=rest/\∃q e,s'= .block q e/\Ez xs e:=by
 obtain⟨w,r,rfl,e1,e2⟩:=map_cons a;obtain⟨x,y,rfl,e3,f⟩:=bU e2;obtain⟨m,o,rfl,g,i⟩:=map_cons f;obtain rfl:=map_nil i;simp only[aI,aU,aX]at h;cases h with
 |ub _ a=>
  obtain⟨j,q⟩:=p _ _ _ _ _ _ e3 (hW g) a;exact⟨j,_,_,rfl,q⟩
mutual
theorem vf.ps:∀{s:Sm}{l:jC}(_:vf s l),PS s l
 |_,_,.block (p:=p0) (xs:=xs) h=>λlw rest bH b s' i hr=>by
  have fin:∀{b:Nat},G .ub b (lw++rest) bH (.s s')->bH=rest/\AF (.block p0 xs) s':=λA=>by
   obtain⟨e,q,ys,rfl,k⟩:=h.TJ.ub i A;exact⟨e,.block k⟩
  refine⟨λ_ g=>?_,(λe=>by cases e),λ_ A=>fin A⟩;obtain⟨w,r,rfl,e1,e2⟩:=map_cons i;obtain⟨b1,A⟩:=B3 (hW e1) g;exact fin A
 |_,_,.empty=> .pW rfl rfl λlw rest bH b s' i hr h=>by
  obtain⟨w,r,rfl,e1,e2⟩:=map_cons i;obtain rfl:=map_nil e2;have k:=hW e1;cases h with
  |uE _=>exact⟨rfl,.empty⟩
  |uD g _=>exact(qC k g).elim
  |uH a _ _=>exact(iI k a).elim
  |tV a _ _ _ _=>exact(iI k a).elim
  |CT a _ _ _ _ _=>exact(cX k a).elim
  |tU a _ _ _ _ _ _=>exact(cX k a).elim
  |jJ a _ _ _ _=>exact(cX k a).elim
  |uF a _=>exact(cX k a).elim
  |nW a _=>exact(cX k a).elim
  |nZ a _=>exact(cX k a).elim
  |oa a _ _ _=>exact(cX k a).elim
  |uG a _ _ _ _=>exact(cX k a).elim
 |_,_,.xq=> .pW rfl rfl λlw rest bH b s' i hr h=>by
  obtain⟨w,r,rfl,e1,e2⟩:=map_cons i;obtain⟨u,J,rfl,e3,j⟩:=map_cons e2;obtain rfl:=map_nil j;have k:=ou e1;cases h with
  |uF _ _=>exact⟨rfl,.xq⟩
  |uD g _=>exact(qC k g).elim
  |uH a _ _=>exact(iI k a).elim
  |tV a _ _ _ _=>exact(iI k a).elim
  |uE a=>exact(cX k a).elim
  |CT a _ _ _ _ _=>exact(cX k a).elim
  |tU a _ _ _ _ _ _=>exact(cX k a).elim
  |jJ a _ _ _ _=>exact(cX k a).elim
  |nW a _=>exact(cX k a).elim
  |nZ a _=>exact(cX k a).elim
  |oa a _ _ _=>exact(cX k a).elim
  |uG a _ _ _ _=>exact(cX k a).elim
 |_,_,.cont=> .pW rfl rfl λlw rest bH b s' i hr h=>by
  obtain⟨w,r,rfl,e1,e2⟩:=map_cons i;obtain⟨u,J,rfl,e3,j⟩:=map_cons e2;obtain rfl:=map_nil j;have k:=ou e1;cases h with
  |nW _ _=>exact⟨rfl,.cont⟩
  |uD g _=>exact(qC k g).elim
  |uH a _ _=>exact(iI k a).elim
  |tV a _ _ _ _=>exact(iI k a).elim
  |uE a=>exact(cX k a).elim
  |CT a _ _ _ _ _=>exact(cX k a).elim
  |tU a _ _ _ _ _ _=>exact(cX k a).elim
  |jJ a _ _ _ _=>exact(cX k a).elim
  |uF a _=>exact(cX k a).elim
  |nZ a _=>exact(cX k a).elim
  |oa a _ _ _=>exact(cX k a).elim
  |uG a _ _ _ _=>exact(cX k a).elim
 |_,_,.GI=> .pW rfl rfl λlw rest bH b s' i hr h=>by
  obtain⟨w,r,rfl,e1,e2⟩:=map_cons i;obtain⟨u,J,rfl,e3,j⟩:=map_cons e2;obtain rfl:=map_nil j;have k:=ou e1;cases h with
  |nZ _ _=>exact⟨rfl,.ret .none⟩
  |oa _ g _ _=>
   replace g:bF (u::rest) [59]=false:=g;rw[(hW e3).bF]at g;exact absurd g dc
  |uD g _=>exact(qC k g).elim
  |uH a _ _=>exact(iI k a).elim
  |tV a _ _ _ _=>exact(iI k a).elim
  |uE a=>exact(cX k a).elim
  |CT a _ _ _ _ _=>exact(cX k a).elim
  |tU a _ _ _ _ _ _=>exact(cX k a).elim
  |jJ a _ _ _ _=>exact(cX k a).elim
  |uF a _=>exact(cX k a).elim
  |nW a _=>exact(cX k a).elim
  |uG a _ _ _ _=>exact(cX k a).elim
 |_,_,.GJ m=> .pW rfl rfl λlw rest bH b s' i hr h=>by
  obtain⟨w,r,rfl,e1,e2⟩:=map_cons i;obtain⟨x,y,rfl,e3,j⟩:=bU e2;obtain⟨u,J,rfl,o,v⟩:=map_cons j;obtain rfl:=map_nil v;have k:=ou e1;have k2:=hW o;simp only[aI,aU,aX]at h;generalize hz:x++u::rest=z at h;cases h with
  |nZ _ Z=>
   obtain⟨w3,U,rfl,f⟩:=m.ft e3;cases hz;exact(f.ne Z).elim
  |oa _ _ he Z=>
   subst hz;obtain⟨K,q⟩:=m.pu.bin e3 (cK k2 _) (gS k2) he;cases K;exact⟨rfl,.ret (.some q)⟩
  |uD g _=>exact(qC k g).elim
  |uH a _ _=>exact(iI k a).elim
  |tV a _ _ _ _=>exact(iI k a).elim
  |uE a=>exact(cX k a).elim
  |CT a _ _ _ _ _=>exact(cX k a).elim
  |tU a _ _ _ _ _ _=>exact(cX k a).elim
  |jJ a _ _ _ _=>exact(cX k a).elim
  |uF a _=>exact(cX k a).elim
  |nW a _=>exact(cX k a).elim
  |uG a _ _ _ _=>exact(cX k a).elim
 |_,_,.out m=> .pW rfl rfl λlw rest bH b s' i hr h=>by
  obtain⟨w,r,rfl,e1,e2⟩:=map_cons i;obtain⟨w0,r0,rfl,B,C⟩:=map_cons e2;obtain⟨x,y,rfl,e3,j⟩:=bU C;obtain⟨u,J,rfl,o,v⟩:=map_cons j;obtain⟨w3,r3,rfl,K,N⟩:=map_cons v;obtain rfl:=map_nil N;have k:=ou e1;have k2:=hW o;simp only[aI,aU,aX]at h;cases h with
  |uG _ _ he _ _=>
   obtain⟨t,q⟩:=m.pu.bin e3 (cK k2 _) (gS k2) he;cases t;exact⟨rfl,.out q⟩
  |nZ a _=>exact(cX k a).elim
  |oa a _ _ _=>exact(cX k a).elim
  |uD g _=>exact(qC k g).elim
  |uH a _ _=>exact(iI k a).elim
  |tV a _ _ _ _=>exact(iI k a).elim
  |CT a _ _ _ _ _=>exact(cX k a).elim
  |tU a _ _ _ _ _ _=>exact(cX k a).elim
  |uE a=>exact(cX k a).elim
  |jJ a _ _ _ _=>exact(cX k a).elim
  |uF a _=>exact(cX k a).elim
  |nW a _=>exact(cX k a).elim
 |_,_,.eval m=> .pW rfl rfl λlw rest bH b s' i hr h=>by
  obtain⟨x,y,rfl,e1,e2⟩:=bU i;obtain⟨w,r,rfl,e3,j⟩:=map_cons e2;obtain rfl:=map_nil j;have k:=hW e3;simp only[aU,aI,aX]at h;obtain⟨u,U,rfl,f⟩:=m.ft e1;obtain⟨b1,e,q,bQ,he,O⟩:=MZ f h;obtain⟨o,k2⟩:=m.pu.bin e1 (cK k _) (gS k) he;cases o;rcases O with⟨_,rfl,rfl⟩|⟨V,_⟩
  ·exact⟨rfl,.eval k2⟩
  ·exact(cX k V).elim
 |_,_,.assign m A=> .pW rfl rfl λlw rest bH b s' i hr h=>by
  obtain⟨x,y,rfl,e1,e2⟩:=bU i;obtain⟨w,r,rfl,e3,j⟩:=map_cons e2;obtain⟨x3,y3,rfl,D,P⟩:=bU j;obtain⟨w3,r3,rfl,A1,A2⟩:=map_cons P;obtain rfl:=map_nil A2;have k:=hW e3;have k3:=hW A1;simp only[aU,aI,aX]at h;obtain⟨u,U,rfl,f⟩:=m.ft e1;obtain⟨b1,e,q,bQ,he,O⟩:=MZ f h;obtain⟨o,k2⟩:=m.pu.bin e1 (cK k _) (gS k) he;cases o;rcases O with⟨V,_,_⟩|⟨_,b2,c,f2,A3,Z,rfl⟩
  ·exact(cX k V).elim
  ·obtain⟨v,k4⟩:=A.pu.bin D (cK k3 _) (gS k3) A3;cases v;exact⟨rfl,.assign k2 k4⟩
 |_,_,.Ar ht m W=>λlw rest bH b s' i hr=>⟨(λe=>by cases e),λ_ h=>by
  obtain⟨x,y,rfl,e1,e2⟩:=bU i;obtain⟨w,r,rfl,e3,j⟩:=map_cons e2;obtain⟨U,y2,rfl,o,v⟩:=bU j;obtain⟨u,J,rfl,K,N⟩:=map_cons v;obtain rfl:=map_nil N;have k2:=hW K;obtain⟨kn,kt⟩:=wZ e3;simp only[aU,aI,aX]at h;have F:bF (w::(U++u::rest)) [42]=false:=dY om;have A4:bF (u::rest) [91]=false:=cK k2 _;cases h with
  |zu Q _ _ hA _=>
   obtain⟨rfl,t⟩:=im ht e1 F Q;cases t;obtain⟨rfl,B⟩:=AX m o A4 hA;cases B;exact⟨rfl,by rw[kt];exact .decl .none⟩
  |AB Q _ V _ _=>
   obtain⟨rfl,t⟩:=im ht e1 F Q;exfalso;cases m with
   |none=>obtain rfl:=map_nil o;cases t;exact cX k2 V
   |some _=>obtain⟨w4,r4,rfl,I,_⟩:=map_cons o;cases t;exact cX (hW I) V,(λe=>by cases e)⟩
 |_,_,.As ht W m=>λlw rest bH b s' i hr=>⟨(λe=>by cases e),λ_ h=>by
  obtain⟨x,y,rfl,e1,e2⟩:=bU i;obtain⟨w,r,rfl,e3,j⟩:=map_cons e2;obtain⟨w0,r0,rfl,D,P⟩:=map_cons j;obtain⟨U,y2,rfl,o,v⟩:=bU P;obtain⟨u,J,rfl,K,N⟩:=map_cons v;obtain rfl:=map_nil N;have k2:=hW K;have k0:=hW D;obtain⟨kn,kt⟩:=wZ e3;simp only[aU,aI,aX]at h;have F:bF (w::w0::(U++u::rest)) [42]=false:=dY om;cases h with
  |zu Q _ g _ _=>
   obtain⟨rfl,t⟩:=im ht e1 F Q;cases t;rw[k0.bF]at g;exact absurd g dc
  |AB Q _ _ he _=>
   obtain⟨rfl,t⟩:=im ht e1 F Q;cases t;obtain⟨B,q⟩:=m.pu.bin o (cK k2 _) (gS k2) he;cases B;exact⟨rfl,by rw[kt];exact .decl (.some q)⟩,(λe=>by cases e)⟩
 |_,_,.ifs m A=> .pW rfl rfl λlw rest bH b s' i hr h=>by
  obtain⟨w,r,rfl,e1,e2⟩:=map_cons i;obtain⟨w0,r0,rfl,B,C⟩:=map_cons e2;obtain⟨x,y,rfl,e3,j⟩:=bU C;obtain⟨u,J,rfl,o,v⟩:=map_cons j;have k:=ou e1;have k2:=hW o;simp only[aI,aU]at h;cases h with
  |CT _ _ he _ g _=>
   obtain⟨t,q⟩:=m.pu.bin e3 (cK k2 _) (gS k2) he;cases t;obtain⟨rfl,R⟩:=A.pb _ _ _ _ _ v g;exact⟨rfl,.ifs q R⟩
  |tU _ _ he _ g hf _=>
   obtain⟨t,q⟩:=m.pu.bin e3 (cK k2 _) (gS k2) he;cases t;obtain⟨I,R⟩:=A.pb _ _ _ _ _ v g;rw[<-I,hf.bF]at hr;exact absurd hr dc
  |nZ a _=>exact(cX k a).elim
  |oa a _ _ _=>exact(cX k a).elim
  |uD g _=>exact(qC k g).elim
  |uH a _ _=>exact(iI k a).elim
  |tV a _ _ _ _=>exact(iI k a).elim
  |uE a=>exact(cX k a).elim
  |jJ a _ _ _ _=>exact(cX k a).elim
  |uF a _=>exact(cX k a).elim
  |nW a _=>exact(cX k a).elim
  |uG a _ _ _ _=>exact(cX k a).elim
 |_,_,.wD m A A5=> .pW rfl rfl λlw rest bH b s' i hr h=>by
  obtain⟨w,r,rfl,e1,e2⟩:=map_cons i;obtain⟨w0,r0,rfl,B,C⟩:=map_cons e2;obtain⟨x,y,rfl,e3,j⟩:=bU C;obtain⟨u,J,rfl,o,v⟩:=map_cons j;obtain⟨x3,y3,rfl,K,N⟩:=bU v;obtain⟨w4,r4,rfl,t,I⟩:=map_cons N;have k:=ou e1;have k2:=hW o;have k4:=ou t;simp only[aI,aU]at h;cases h with
  |CT _ _ he _ g W=>
   obtain⟨S,q⟩:=m.pu.bin e3 (cK k2 _) (gS k2) he;cases S;obtain⟨rfl,R⟩:=A.pb _ _ _ _ _ K g;rw[k4.bF]at W;exact absurd W dc
  |tU _ _ he _ g _ ht=>
   obtain⟨S,q⟩:=m.pu.bin e3 (cK k2 _) (gS k2) he;cases S;obtain⟨D,R⟩:=A.pb _ _ _ _ _ K g;cases D;obtain⟨rfl,q3⟩:=A5.pb _ _ _ _ _ I ht;exact⟨rfl,.wD q R q3⟩
  |nZ a _=>exact(cX k a).elim
  |oa a _ _ _=>exact(cX k a).elim
  |uD g _=>exact(qC k g).elim
  |uH a _ _=>exact(iI k a).elim
  |tV a _ _ _ _=>exact(iI k a).elim
  |uE a=>exact(cX k a).elim
  |jJ a _ _ _ _=>exact(cX k a).elim
  |uF a _=>exact(cX k a).elim
  |nW a _=>exact(cX k a).elim
  |uG a _ _ _ _=>exact(cX k a).elim
 |_,_,.wE m A=> .pW rfl rfl λlw rest bH b s' i hr h=>by
  obtain⟨w,r,rfl,e1,e2⟩:=map_cons i;obtain⟨w0,r0,rfl,B,C⟩:=map_cons e2;obtain⟨x,y,rfl,e3,j⟩:=bU C;obtain⟨u,J,rfl,o,v⟩:=map_cons j;have k:=ou e1;have k2:=hW o;simp only[aI,aU]at h;cases h with
  |jJ _ _ he _ g=>
   obtain⟨t,q⟩:=m.pu.bin e3 (cK k2 _) (gS k2) he;cases t;obtain⟨rfl,R⟩:=A.pb _ _ _ _ _ v g;exact⟨rfl,.wE q R⟩
  |CT a _ _ _ _ _=>exact(cX k a).elim
  |tU a _ _ _ _ _ _=>exact(cX k a).elim
  |nZ a _=>exact(cX k a).elim
  |oa a _ _ _=>exact(cX k a).elim
  |uD g _=>exact(qC k g).elim
  |uH a _ _=>exact(iI k a).elim
  |tV a _ _ _ _=>exact(iI k a).elim
  |uE a=>exact(cX k a).elim
  |uF a _=>exact(cX k a).elim
  |nW a _=>exact(cX k a).elim
  |uG a _ _ _ _=>exact(cX k a).elim
theorem vf.pb:∀{s:Sm}{l:jC}(_:vf s l)(_:ua s=true),PB s l
 |_,_,.block h,_=>λlw rest bH b s' a f=>by
  obtain⟨w,r,rfl,e1,e2⟩:=map_cons a;obtain⟨i,g⟩:=B3 (hW e1) f;obtain⟨e,q,j,rfl,k⟩:=h.TJ.ub a g;exact⟨e,.is rfl (.block k)⟩
 |_,_,.empty,e=>by cases e
 |_,_,.Ar _ _ _,e=>by cases e
 |_,_,.As _ _ _,e=>by cases e
 |_,_,.assign _ _,e=>by cases e
 |_,_,.eval _,e=>by cases e
 |_,_,.ifs _ _,e=>by cases e
 |_,_,.wD _ _ _,e=>by cases e
 |_,_,.wE _ _,e=>by cases e
 |_,_,.xq,e=>by cases e
 |_,_,.cont,e=>by cases e
 |_,_,.GI,e=>by cases e
 |_,_,.GJ _,e=>by cases e
 |_,_,.out _,e=>by cases e
theorem GH.pb:∀{s:Sm}{l:jC}(_:GH s l),PB s l
 |_,_,.is m h=>h.pb m
 |s,_,.wrap (l:=l) m g h=>λlw rest bH b s' t o=>by
  have ps:=h.ps;obtain⟨w,r,rfl,e1,e2⟩:=map_cons t;obtain⟨x,y,rfl,e3,u⟩:=bU e2;obtain⟨p,F,rfl,v,A⟩:=map_cons u;obtain rfl:=map_nil A;have k2:=hW v;simp only[aI,aU,aX]at o;obtain⟨I,i⟩:=B3 (hW e1) o;have a:=h.first e3 (p::rest);cases i with
  |ub _ e=>
   generalize B:x++p::rest=z at e a;cases e with
   |zp C=>rw[C.bF]at a;exact absurd a.2.1 dc
   |Az _ ht _ _=>rw[g]at a;rw[ht]at a;exact absurd a.1 dc
   |AA _ _ D j=>
    subst B;obtain⟨rfl,q⟩:=(ps _ _ _ _ _ e3 (cK k2 _)).1 g D;cases j with
    |zp _=>exact⟨rfl,.wrap g q⟩
    |Az f _ _ _=>rw[k2.bF]at f;exact absurd f dc
    |AA f _ _ _=>rw[k2.bF]at f;exact absurd f dc
theorem xR.TJ:∀{xs:List Sm}{l:jC}(_:xR xs l),Ux xs l
 |_,_,.nil=>λlw rest bH c b t j a h=>by
  obtain rfl:=map_nil j;simp only[aX]at h;cases h with
  |zp _=>exact⟨rfl,.nil⟩
  |Az e _ _ _=>rw[a.bF]at e;exact absurd e dc
  |AA e _ _ _=>rw[a.bF]at e;exact absurd e dc
 |_,_,.cons (s:=s) (xs:=xs) e hr=>λlw rest bH c b t j a h=>by
  have ps:=e.ps;obtain⟨x,y,rfl,e1,e2⟩:=bU j;rw[aU]at h;have f:=e.first e1 (y++c::rest);have i:bF (y++c::rest) [101,108,115,101]=false:=by
   cases hr with
   |nil=>obtain rfl:=map_nil e2;exact cK a _
   |cons u _=>obtain⟨v,w,rfl,e3,_⟩:=bU e2;rw[aU];exact(u.first e3 _).2.2
  generalize p:x++(y++c::rest)=z at h f;cases h with
  |zp a=>rw[a.bF]at f;exact absurd f.2.1 dc
  |Az _ ht m g=>
   subst p;rw[ht]at f;obtain⟨rfl,q⟩:=(ps _ _ _ _ _ e1 i).2.1 (by have:=f.1;revert this;cases nd s<;>simp) m;obtain⟨rfl,o⟩:=hr.TJ _ _ _ _ _ _ e2 a g;exact⟨rfl,.cons q o⟩
  |AA _ ht m g=>
   subst p;rw[ht]at f;obtain⟨rfl,q⟩:=(ps _ _ _ _ _ e1 i).1 (by have:=f.1;revert this;cases nd s<;>simp) m;obtain⟨rfl,o⟩:=hr.TJ _ _ _ _ _ _ e2 a g;exact⟨rfl,.cons q o⟩
end
inductive Kx:List Fd->List Tk->Prop
 |nil:Kx [] []
 |cons {t a n:List UInt8} {k l m:List Tk} {fs:List Fd} (ht:xu t k) (ha:HR a l) (hn:Nm n) (hr:Kx fs m):Kx (⟨t++a,n⟩::fs) (k++B1 n::(l++mk [59]::m))
def zS:Bool->List Tk
 |true=>[ky [112,117,98,108,105,99]]
 |false=>[]
inductive Jh:List Pm->List Tk->Prop
 |one {p:Pl} {b:Bool} {t n:List UInt8} {k:List Tk} (ht:xu t k) (hn:Nm n):Jh [⟨p,b,t,n⟩] (zS b++(k++[B1 n]))
 |cons {p:Pl} {b:Bool} {t n:List UInt8} {k l:List Tk} {ps:List Pm} (ht:xu t k) (hn:Nm n) (hr:Jh ps l):Jh (⟨p,b,t,n⟩::ps) (zS b++(k++B1 n::mk [44]::l))
inductive GK:It->List Tk->Prop
 |struct {p:Pl} {n:List UInt8} {fs:List Fd} {l:List Tk} (hn:Nm n) (h:Kx fs l):GK (.struct p n fs) (ky [115,116,114,117,99,116]::B1 n::mk [123]::(l++[mk [125],mk [59]]))
 |global {p:Pl} {t a n:List UInt8} {k l:List Tk} (ht:xu t k) (ha:HR a l) (hn:Nm n):GK (.global p (t++a) n) (k++B1 n::(l++[mk [59]]))
 |func0 {p:Pl} {t n:List UInt8} {k l:List Tk} {q:Pl} {xs:List Sm} (ht:xu t k) (hn:Nm n) (h:vf (.block q xs) l):GK (.func p t n [] (.block q xs)) (k++B1 n::mk [40]::mk [41]::l)
 |func {p:Pl} {t n:List UInt8} {k l m:List Tk} {q:Pl} {xs:List Sm} {ps:List Pm} (ht:xu t k) (hn:Nm n) (hp:Jh ps m) (h:vf (.block q xs) l):GK (.func p t n ps (.block q xs)) (k++B1 n::mk [40]::(m++mk [41]::l))
inductive B4:List It->List Tk->Prop
 |nil:B4 [] []
 |cons {i:It} {xs:List It} {l m:List Tk} (h:GK i l) (k:B4 xs m):B4 (i::xs) (l++m)
inductive Tt:It->It->Prop
 |struct {p q:Pl} {n:List UInt8} {fs:List Fd}:Tt (.struct p n fs) (.struct q n fs)
 |global {p q:Pl} {t n:List UInt8}:Tt (.global p t n) (.global q t n)
 |func {p q:Pl} {t n:List UInt8} {ps qs:List Pm} {s u:Sm} (hp:EE ps qs) (h:AF s u):Tt (.func p t n ps s) (.func q t n qs u)
inductive Km:List It->List It->Prop
 |nil:Km [] []
 |cons {a b:It} {l m:List It} (h:Tt a b) (k:Km l m):Km (a::l) (b::m)
theorem M0:∀{fs:List Fd}{l:jC}(_:Kx fs l){lw rest bH:dh}{c:Wo}{gs:List Fd}(_:lw.map Wo.tk=l)(_:eX c [125])(_:Fields (lw++c::rest) bH gs),bH=rest/\gs=fs:=by
 intro fs l h;induction h with
 |nil=>
  intro lw rest bH c gs e f h;obtain rfl:=map_nil e;simp only[aX]at h;cases h with
  |done _=>exact⟨rfl,rfl⟩
  |field v _ _ _ _ _=>rw[f.bF]at v;exact absurd v dc
 |@cons t a n k l m fs ht A U hr B=>
  intro lw rest bH c gs e f h;obtain⟨x,y,rfl,e1,e2⟩:=bU e;obtain⟨w,r,rfl,e3,C⟩:=map_cons e2;obtain⟨g,V,rfl,D,F⟩:=bU C;obtain⟨i,j,rfl,I,J⟩:=map_cons F;have k2:=hW I;obtain⟨W,K⟩:=wZ e3;simp only[aU,aI]at h;have o:bF (w::(g++i::(j++c::rest))) [42]=false:=dY om;have b:=nc ht (rest:=w::(g++i::(j++c::rest))) e1;generalize N:x++w::(g++i::(j++c::rest))=z at h b;cases h with
  |done O=>unfold dF at b;rw[eH O]at b;exact absurd b dc
  |field _ P _ Q _ R=>
   subst N;obtain⟨rfl,S⟩:=im ht e1 o P;cases S;obtain⟨rfl,p⟩:=AX A D (cK k2 _) Q;cases p;obtain⟨u,rfl⟩:=B J f R;exact⟨u,by rw[K]⟩
theorem AY{b a:Bool}{lw rest ws:dh}(e:lw.map Wo.tk=zS b)(hr:dF rest=true)(h:Ks (lw++rest) ws a):a=b/\ws=rest:=by
 cases b with
 |true=>
  obtain⟨w,r,rfl,e1,e2⟩:=map_cons e;obtain rfl:=map_nil e2;cases h with
  |no h=>replace h:bF (w::rest) [112,117,98,108,105,99]=false:=h;rw[(ou e1).bF]at h;exact absurd h dc
  |yes _=>exact⟨rfl,rfl⟩
 |false=>
  obtain rfl:=map_nil e;simp only[aX]at h;cases h with
  |no _=>exact⟨rfl,rfl⟩
  |yes f=>unfold dF at hr;rw[eH f]at hr;exact absurd hr dc
theorem Na:∀{ps:List Pm}{l:jC}(_:Jh ps l){lw rest bH:dh}{c:Wo}{qs:List Pm}(_:lw.map Wo.tk=l)(_:eX c [41])(_:rM (lw++c::rest) bH qs),bH=rest/\EE ps qs:=by
 intro ps l h;induction h with
 |@one p b t n k ht I=>
  intro lw rest bH c qs m o h;obtain⟨x,y,rfl,e1,e2⟩:=bU m;obtain⟨J,K,rfl,e3,u⟩:=bU e2;obtain⟨w,r,rfl,v,A⟩:=map_cons u;obtain rfl:=map_nil A;obtain⟨N,B⟩:=wZ v;simp only[aU,aI,aX]at h;have a:bF (w::c::rest) [42]=false:=dY om;have e:=nc ht (rest:=w::c::rest) e3;cases h with
  |one g i _ f=>
   obtain⟨rfl,rfl⟩:=AY e1 e g;obtain⟨rfl,j⟩:=im ht e3 a i;cases j;exact⟨rfl,.cons ⟨rfl,rfl,B⟩ .nil⟩
  |more g i _ f _=>
   obtain⟨rfl,rfl⟩:=AY e1 e g;obtain⟨rfl,j⟩:=im ht e3 a i;cases j;exact(cX o f).elim
 |@cons p b t n k l ps ht I hr O=>
  intro lw rest bH c qs m o h;obtain⟨x,y,rfl,e1,e2⟩:=bU m;obtain⟨J,K,rfl,e3,u⟩:=bU e2;obtain⟨w,r,rfl,v,A⟩:=map_cons u;obtain⟨D,F,rfl,P,Q⟩:=map_cons A;obtain⟨N,B⟩:=wZ v;have k2:=hW P;simp only[aU,aI]at h;have a:bF (w::D::(F++c::rest)) [42]=false:=dY om;have e:=nc ht (rest:=w::D::(F++c::rest)) e3;cases h with
  |one g i _ f=>
   obtain⟨rfl,rfl⟩:=AY e1 e g;obtain⟨rfl,j⟩:=im ht e3 a i;cases j;exact(cX k2 f).elim
  |more g i _ f R=>
   obtain⟨rfl,rfl⟩:=AY e1 e g;obtain⟨rfl,j⟩:=im ht e3 a i;cases j;obtain⟨C,q⟩:=O Q o R;exact⟨C,.cons ⟨rfl,rfl,B⟩ q⟩
theorem Jh.first{ps:List Pm}{l:jC}(h:Jh ps l){lw:dh}(a:lw.map Wo.tk=l)(r:dh):bF (lw++r) [41]=false:=by
 have key:∀(b:Bool){t:bu}{k m:jC}{lw:dh},xu t k->lw.map Wo.tk=zS b++(k++m)->bF (lw++r) [41]=false:=by
  intro b t k m lw ht a;obtain⟨x,y,rfl,e1,e2⟩:=bU a;cases b with
  |true=>
   obtain⟨w,e,rfl,e3,_⟩:=map_cons e1;exact cK (ou e3) _
  |false=>
   obtain rfl:=map_nil e1;obtain⟨e,f,rfl,e3,_⟩:=bU e2;rw[aX,aU];have:=nc ht (rest:=f++r) e3;rw[dx];intro g;obtain⟨w,r3,i,j⟩:=oe.1 g;rw[i]at this;unfold dF at this;rw[eH j]at this;exact absurd this dc
 cases h with
 |one ht _=>exact key _ ht a
 |cons ht _ _=>exact key _ ht a
theorem xS{t:bu}{k:jC}(ht:xu t k){lw rest:dh}{n w a o:Wo}{ws:dh}(h:lw.map Wo.tk=k)(v:n.kind=1)(e:lw++n::rest=w::a::o::ws)(hw:eX w [115,116,114,117,99,116])(ho:eX o [123]):False:=by
 obtain⟨b,bl,j,rfl,rfl,f⟩:=ht.form;obtain⟨x,y,rfl,e1,e2⟩:=bU h;rcases f with⟨f,rfl⟩|⟨m,hm,rfl,rfl⟩
 ·obtain⟨i,r,rfl,e3,g⟩:=map_cons e1;simp only[aI,da]at e;have:=(ou e3).t.symm.trans (e.1▸hw.t);subst this;exact absurd f dc
 ·obtain⟨i,r,rfl,e3,g⟩:=map_cons e1;obtain⟨A,B,rfl,C,p⟩:=map_cons g;obtain rfl:=map_nil p;simp only[aI,aX,da]at e;cases j with
  |zero=>
   obtain rfl:=map_nil e2;simp only[aX,da]at e;have:=ho.k;rw[<-e.2.2.1]at this;omega
  |succ j=>
   obtain⟨D,r3,rfl,u,_⟩:=map_cons e2;simp only[aI,da]at e;exact cX (hW u) (e.2.2.1▸ho)
theorem Nb{i:It}{l:jC}(h:GK i l){lw rest bH:dh}{b:Nat}{j:It}(R:lw.map Wo.tk=l)(hr:bF rest [101,108,115,101]=false)(hi:Item b (lw++rest) bH j):bH=rest/\Tt i j:=by
 cases h with
 |struct S U=>
  obtain⟨w,r,rfl,e1,e2⟩:=map_cons R;obtain⟨u,V,rfl,e3,I⟩:=map_cons e2;obtain⟨A,r3,rfl,B,J⟩:=map_cons I;obtain⟨x,y,rfl,C,K⟩:=bU J;obtain⟨W,r4,rfl,m,v⟩:=map_cons K;obtain⟨w5,r5,rfl,g,Z⟩:=map_cons v;obtain rfl:=map_nil Z;obtain⟨P,N⟩:=wZ e3;have k3:=hW B;have no:∀{n:Wo}{bQ:dh}{t:bu},vj (w::u::A::(x++W::w5::rest)) (n::bQ) t->n.kind=1->False:=by
   intro n bQ t a O;have:=im (xu.struct S) (lw:=[w,u]) (rest:=A::(x++W::w5::rest)) (by simp[e1,e3]) (cK k3 _) a;have e:=this.2;cases e;exact rQ k3 O
  simp only[aU,aI,aX]at hi;cases hi with
  |struct _ _ _ hF _=>
   obtain⟨A1,rfl⟩:=M0 U C (hW m) hF;cases A1;exact⟨rfl,by rw[N];exact .struct⟩
  |global a O _ _ _=>exact(no a O).elim
  |func0 a O _ _ _=>exact(no a O).elim
  |func a O _ _ _ _=>exact(no a O).elim
 |global ht ha S=>
  obtain⟨x,y,rfl,e1,e2⟩:=bU R;obtain⟨w,r,rfl,e3,I⟩:=map_cons e2;obtain⟨Q,y2,rfl,B,J⟩:=bU I;obtain⟨u,V,rfl,C,K⟩:=map_cons J;obtain rfl:=map_nil K;have k2:=hW C;obtain⟨P,N⟩:=wZ e3;simp only[aU,aI,aX]at hi;have f:bF (w::(Q++u::rest)) [42]=false:=dY om;have A2:bF (u::rest) [91]=false:=cK k2 _;have D:∀{o:Wo}{bQ:dh},Q++u::rest=o::bQ->eX o [40]->False:=λe ho=>by
   cases ha with
   |none=>obtain rfl:=map_nil B;cases e;exact cX k2 ho
   |some _=>obtain⟨W,r4,rfl,g,_⟩:=map_cons B;cases e;exact cX (hW g) ho
  generalize p:x++w::(Q++u::rest)=z at hi;cases hi with
  |struct hw _ ho _ _=>exact(xS ht e1 P p hw ho).elim
  |global a _ _ hA _=>
   subst p;obtain⟨rfl,m⟩:=im ht e1 f a;cases m;obtain⟨rfl,v⟩:=AX ha B A2 hA;cases v;exact⟨rfl,by rw[N];exact .global⟩
  |func0 a _ ho _ _=>
   subst p;have m:=(im ht e1 f a).2;simp only[da]at m;exact(D m.2.symm ho).elim
  |func a _ ho _ _ _=>
   subst p;have m:=(im ht e1 f a).2;simp only[da]at m;exact(D m.2.symm ho).elim
 |func0 ht S hb=>
  obtain⟨x,y,rfl,e1,e2⟩:=bU R;obtain⟨w,r,rfl,e3,I⟩:=map_cons e2;obtain⟨u,V,rfl,B,J⟩:=map_cons I;obtain⟨A,r3,rfl,C,K⟩:=map_cons J;have k2:=hW B;have k3:=hW C;obtain⟨P,N⟩:=wZ e3;simp only[aU,aI]at hi;have f:bF (w::u::A::(r3++rest)) [42]=false:=dY om;generalize p:x++w::u::A::(r3++rest)=z at hi;cases hi with
  |struct hw _ ho _ _=>exact(xS ht e1 P p hw ho).elim
  |global a _ F _ _=>
   subst p;have m:=(im ht e1 f a).2;cases m;rw[k2.bF]at F;exact absurd F dc
  |func0 a _ _ _ hB=>
   subst p;obtain⟨rfl,m⟩:=im ht e1 f a;cases m;obtain⟨rfl,q⟩:=(hb.ps _ _ _ _ _ K hr).2.2 rfl hB;exact⟨rfl,by rw[N];exact .func .nil q⟩
  |func a _ _ F _ _=>
   subst p;have m:=(im ht e1 f a).2;cases m;rw[k3.bF]at F;exact absurd F dc
 |func ht S hp hb=>
  obtain⟨x,y,rfl,e1,e2⟩:=bU R;obtain⟨w,r,rfl,e3,I⟩:=map_cons e2;obtain⟨u,V,rfl,B,J⟩:=map_cons I;obtain⟨Q,y2,rfl,C,K⟩:=bU J;obtain⟨A,r3,rfl,m,v⟩:=map_cons K;have k2:=hW B;have k3:=hW m;obtain⟨P,N⟩:=wZ e3;simp only[aU,aI]at hi;have f:bF (w::u::(Q++A::(r3++rest))) [42]=false:=dY om;have U:=hp.first C (A::(r3++rest));generalize p:x++w::u::(Q++A::(r3++rest))=z at hi;cases hi with
  |struct hw _ ho _ _=>exact(xS ht e1 P p hw ho).elim
  |global a _ F _ _=>
   subst p;have g:=(im ht e1 f a).2;cases g;rw[k2.bF]at F;exact absurd F dc
  |func0 a _ _ hc _=>
   subst p;have g:=(im ht e1 f a).2;simp only[da]at g;rw[<-g.2.2,hc.bF]at U;exact absurd U dc
  |func a _ _ _ hP hB=>
   subst p;obtain⟨rfl,g⟩:=im ht e1 f a;cases g;obtain⟨rfl,q2⟩:=Na hp C k3 hP;obtain⟨rfl,q⟩:=(hb.ps _ _ _ _ _ v hr).2.2 rfl hB;exact⟨rfl,by rw[N];exact .func q2 q⟩
theorem GK.first{i:It}{l:jC}(h:GK i l){lw:dh}(a:lw.map Wo.tk=l)(r:dh):lw++r≠[]/\bF (lw++r) [101,108,115,101]=false:=by
 have ty:∀{t:bu}{k m:jC}{lw:dh},xu t k->lw.map Wo.tk=k++m->lw++r≠[]/\bF (lw++r) [101,108,115,101]=false:=by
  intro t k m lw ht a;obtain⟨x,y,rfl,e1,_⟩:=bU a;rw[aU];have:=nc ht (rest:=y++r) e1;refine⟨λe=>?_,?_⟩
  ·rw[e]at this;exact absurd this dc
  ·rw[dx];intro b;obtain⟨w,r3,f,g⟩:=oe.1 b;rw[f]at this;unfold dF at this;rw[eH g]at this;exact absurd this dc
 cases h with
 |struct _ _=>obtain⟨w,j,rfl,e1,_⟩:=map_cons a;exact⟨sp,cK (ou e1) _⟩
 |global ht _ _=>exact ty ht a
 |func0 ht _ _=>exact ty ht a
 |func ht _ _ _=>exact ty ht a
theorem Kn:∀{xs:nj}{l:jC}(_:B4 xs l){ws:dh}{b:Nat}{a:nj}(_:ws.map Wo.tk=l)(_:jK b ws a),Km xs a:=by
 intro xs l h;induction h with
 |nil=>
  intro ws b a e h;obtain rfl:=map_nil e;cases h with
  |done=>exact .nil
  |item hi p=>
   rename_i bQ i0 l0;have f:∀i:It,1<=i.wt:=λi=>by cases i<;>simp[It.wt]<;>omega
   have:=hi.wt;have:=f i0;simp only[aW]at*;omega
 |@cons i xs l m h k t=>
  intro ws b a e hi;obtain⟨x,y,rfl,e1,e2⟩:=bU e;have g:bF y [101,108,115,101]=false:=by
   cases k with
   |nil=>obtain rfl:=map_nil e2;rfl
   |cons j _=>obtain⟨w,u,rfl,e3,_⟩:=bU e2;exact(j.first e3 u).2
  have o:=(h.first e1 y).1;generalize v:x++y=z at hi o;cases hi with
  |done=>exact(o rfl).elim
  |item f j=>
   subst v;obtain⟨rfl,q⟩:=Nb h e1 g f;exact .cons q (t e2 j)
theorem jm{x:Tk}{m:jC}(h:m≠[]):jn (x::m)=x.t++32::jn m:=by
 cases m with
 |nil=>exact(h rfl).elim
 |cons y l=>rfl
theorem wP(a b:bu):sV (a++b)=sV a++sV b:=by
 induction a with
 |nil=>rfl
 |cons c a e=>
  simp only[aI,sV,e];split
  ·simp
  ·split<;>simp
def plain(c:UInt8):Bool:=c !=91&&c !=42&&c !=93
theorem zT{a:bu}(h:a.all plain=true):sV a=a:=by
 induction a with
 |nil=>rfl
 |cons c a e=>
  simp only[List.all_cons,cf]at h;have b:c≠91/\c≠42/\c≠93:=by simpa[plain,and_assoc]using h.1
  simp only[sV,ay b.1,e h.2];rw[ay (by simp[b])]
theorem GM{c:UInt8}(h:EF c=true):plain c=true:=by
 have key:∀n:Fin 256,EF (UInt8.ofNat n.1)=true->plain (UInt8.ofNat n.1)=true:=dc
 have:=key ⟨c.toNat,c.toNat_lt⟩;simp only[UInt8.ofNat_toNat]at this;exact this h
theorem RL{t:bu}(h:Kw t=true):t.all EF=true:=by
 cases t with
 |nil=>rfl
 |cons c s=>simp only[Kw,cf]at h;simp[su h.1.1,h.1.2]
theorem Nc{t:bu}(h:Kw t=true):t.all plain=true:=cL.2 λc a=>GM (cL.1 (RL h) c a)
theorem Ko(n:Nat):(jy n).all plain=true:=cL.2 λc a=>GM (yS (yR 20 _ c a)).1
theorem xu.ws{t:bu}{l:jC}(h:xu t l):sV t=jn l/\∀c∈t,c≠91:=by
 induction h with
 |base h=>
  have:∀t∈([[99,104,97,114],[105,110,116],[108,111,110,103],[118,111,105,100]]:List (bu)),t.all plain=true/\∀c∈t,c≠91:=by decide
  exact⟨zT (this _ h).1,(this _ h).2⟩
 |@struct n h=>
  have b:=Nc h.1;refine⟨?_,λc a=>?_⟩
  ·rw[wP,zT b];rfl
  ·rcases aP.1 a with a|a
   ·have:∀c∈([115,116,114,117,99,116,32]:bu),c≠91:=dc;exact this c a
   ·have:=cL.1 b c a;simp only[plain,cf,bne_iff_ne]at this;exact this.1.1
 |@star t l h e=>
  refine⟨?_,λc a=>?_⟩
  ·rw[wP,e.1,dT _ _ h.all.2 sp];rfl
  ·rcases aP.1 a with a|a
   ·exact e.2 c a
   ·simp only[aQ]at a;subst a;decide
theorem EJ:∀{t:bu}(_:∀c∈t,c≠91) (a:bu),(a=[]\/∃s,a=91::s)->Cu (t++a)=t/\Cv (t++a)=a
 |[],_,a,b=>by
  rcases b with rfl|⟨s,rfl⟩
  ·exact⟨rfl,rfl⟩
  ·simp[Cu,Cv]
 |c::t,h,a,b=>by
  have e:=EJ (t:=t) (λd f=>h d (by simp[f])) a b;have g:=h c sp;simp only[aI,Cu,Cv,ay g,e.1,e.2,and_self]
theorem HR.ws{a:bu}{l:jC}(h:HR a l):(a=[]/\l=[]\/l≠[]/\sV a=32::jn l)/\(a=[]\/∃s,a=91::s):=by
 cases h with
 |none=>exact⟨.inl ⟨rfl,rfl⟩,.inl rfl⟩
 |@some n h=>
  refine⟨.inr ⟨sp,?_⟩,.inr ⟨_,rfl⟩⟩;show sV ([91]++(jy n++[93]))=_;rw[wP,wP,zT (Ko n)];rfl
theorem Ji{t a n:bu}{k l:jC}(ht:xu t k)(b:HR a l):AW (t++a) n=jn (k++B1 n::l):=by
 obtain⟨e1,e2⟩:=EJ ht.ws.2 a b.ws.2;unfold AW;rw[e1,e2,ht.ws.1,dT _ _ ht.all.2 sp];rcases b.ws.1 with⟨rfl,rfl⟩|⟨e,e3⟩
 ·simp[sV,jn]
 ·rw[jm e,e3]
theorem EK{t n:bu}{k:jC}(ht:xu t k):AW t n=jn (k++[B1 n]):=by
 have:=Ji (n:=n) ht HR.none;simpa using this
theorem Tu{t a:bu}{k l:jC}(ht:xu t k)(b:HR a l):sV (t++a)=jn (k++l):=by
 rw[wP,ht.ws.1];rcases b.ws.1 with⟨rfl,rfl⟩|⟨e,e3⟩
 ·simp[sV]
 ·rw[dT _ _ ht.all.2 e,e3]
mutual
theorem qP.ws:∀{e:Ex}{l:jC}(_:qP e l),sE e=jn l
 |_,_,.num _=>rfl
 |_,_,.var _=>rfl
 |_,_,.un _ h=>by
  rw[jm sp,jm sp,dT _ _ h.all.2 sp,<-h.ws];simp[sE,jn]
 |_,_,.bin _ h k=>by
  rw[jm sp,dT _ _ h.all.2 sp,jm sp,dT _ _ k.all.2 sp,<-h.ws,<-k.ws];simp[sE,jn]
 |_,_,.cast ht h=>by
  rw[jm sp,jm sp,dT _ _ ht.all.2 sp,jm sp,dT _ _ h.all.2 sp,<-h.ws,<-ht.ws.1];simp[sE,jn]
 |_,_,.call (f:=f) (xs:=xs) (l:=l) _ h=>by
  rw[jm sp,jm sp];simp only[sE];cases xs with
  |nil=>cases h;simp[sL,jn]
  |cons x xs=>
   obtain⟨e1,_,e3⟩:=h.ws sp (f++[32,40]);rw[e1,dT _ _ e3 sp];simp[jn]
 |_,_,.index h k=>by
  rw[dT _ _ h.all.2 sp,jm sp,dT _ _ k.all.2 sp,<-h.ws,<-k.ws];simp[sE,jn]
 |_,_,.fN _ h=>by
  rw[dT _ _ h.all.2 sp,<-h.ws];simp[sE,jn]
 |_,_,.arrow _ h=>by
  rw[dT _ _ h.all.2 sp,<-h.ws];simp[sE,jn]
 |_,_,.qp=>rfl
 |_,_,.size ht a=>by
  rw[jm sp,jm sp,<-List.append_assoc,dT _ _ (by simp[ht.all.2]) sp,<-Tu ht a];simp[sE,jn]
theorem ve.ws:∀{xs:List Ex}{l:jC}(_:ve xs l)(_:xs≠[])(s:bu),sL s true xs=s++32::jn l/\sL s false xs=s++32::44::32::jn l/\l≠[]
 |_,_,.nil,h,_=>(h rfl).elim
 |_,_,.one h,_,s=>by
  refine⟨?_,?_,h.all.2⟩<;>simp[sL,h.ws]
 |_,_,.cons h k,_,s=>by
  obtain⟨_,e2,e3⟩:=k.ws sp (s++32::sE _);obtain⟨_,a,_⟩:=k.ws sp (s++[32,44]++32::sE _);refine⟨?_,?_,sp⟩
  ·rw[dT _ _ h.all.2 sp,jm e3,<-h.ws];rw[sL,aY rfl,e2];simp
  ·rw[dT _ _ h.all.2 sp,jm e3,<-h.ws];rw[sL,ay sp,a];simp
end
theorem RM{s:Sm}(h:ua s=true):sB s=sS s:=by rw[sB,h]
theorem RO{s:Sm}(h:ua s=false):sB s=[123,32]++sS s++[32,125]:=by rw[sB,h]
theorem RQ(k l:jC)(x y:Tk)(m:jC):k++x::(l++y::m)=(k++x::l)++y::m:=sp
theorem EL(k l:jC)(x:Tk):k++x::l≠[]:=sp
mutual
theorem vf.ws:∀{s:Sm}{l:jC}(_:vf s l),sS s=jn l
 |_,_,.block (xs:=xs) (l:=l) h=>by
  obtain⟨e1,e2⟩:=h.ws [123];simp only[sS,e1];rw[jm sp];by_cases a:l=[]
  ·subst a;simp[jn]
  ·rw[dT _ _ a sp,ay a];simp[jn]
 |_,_,.empty=>by simp[sS,jn]
 |_,_,.Ar (l:=l) ht b e=>by
  simp only[sS];rw[Ji ht b,RQ,dT _ _ (EL _ _ _) sp];rfl
 |_,_,.As ht e h=>by
  simp only[sS];rw[EK ht,show∀(k:jC)(x y:Tk)(m:jC),k++x::y::m=(k++[x])++y::m from λk x y m=>sp,dT (_++[_]) _ sp sp,jm sp,dT _ _ h.all.2 sp,h.ws];simp[jn]
 |_,_,.assign h k=>by
  rw[dT _ _ h.all.2 sp,jm sp,dT _ _ k.all.2 sp,<-h.ws,<-k.ws];simp[sS,jn]
 |_,_,.eval h=>by
  rw[dT _ _ h.all.2 sp,<-h.ws];simp[sS,jn]
 |_,_,.ifs h k=>by
  rw[jm sp,jm sp,dT _ _ h.all.2 sp,jm k.all.2,<-h.ws,<-k.ws];simp[sS]
 |_,_,.wD h k k2=>by
  rw[jm sp,jm sp,dT _ _ h.all.2 sp,jm sp,dT _ _ k.all.2 sp,jm k2.all.2,<-h.ws,<-k.ws,<-k2.ws];simp[sS]
 |_,_,.wE h k=>by
  rw[jm sp,jm sp,dT _ _ h.all.2 sp,jm k.all.2,<-h.ws,<-k.ws];simp[sS]
 |_,_,.xq=>by simp[sS,jn]
 |_,_,.cont=>by simp[sS,jn]
 |_,_,.GI=>by simp[sS,jn]
 |_,_,.GJ h=>by
  rw[jm sp,dT _ _ h.all.2 sp,<-h.ws];simp[sS,jn]
 |_,_,.out h=>by
  rw[jm sp,jm sp,dT _ _ h.all.2 sp,<-h.ws];simp[sS,jn]
theorem GH.ws:∀{s:Sm}{l:jC}(_:GH s l),sB s=jn l
 |_,_,.is a h=>by rw[RM a,h.ws]
 |_,_,.wrap a _ h=>by
  rw[RO a,jm sp,dT _ _ h.all.2 sp,h.ws];simp[jn]
theorem xR.ws:∀{xs:List Sm}{l:jC}(_:xR xs l)(s:bu),GV s xs=(if l=[]then s else s++32::jn l)/\(l=[]↔xs=[])
 |_,_,.nil,s=>by simp[GV]
 |_,_,.cons (m:=m) h k,s=>by
  obtain⟨e1,_⟩:=k.ws (s++32::sS _);refine⟨?_,by simp[h.all.2]⟩;by_cases hm:m=[]
  ·subst hm;rw[GV,e1];simp[h.ws,h.all.2]
  ·rw[GV,e1,ay hm,ay (by simp[h.all.2]),dT _ _ h.all.2 hm,h.ws];simp
end
def EM(s:List UInt8):List Fd->List UInt8
 |[]=>s
 |f::l=>EM (s++(32::(AW f.ty f.nm++[32,59]))) l
def B5(s:List UInt8)(first:Bool):List Pm->List UInt8
 |[]=>s
 |q::l=>B5 ((if q.AR=true then(if first=true then s else s++[32,44])++[32,112,117,98,108,105,99]else(if first=true then s else s++[32,44]))++32::AW q.ty q.nm) false l
def sI:It->List UInt8
 | .struct _ n fs=>EM ([115,116,114,117,99,116,32]++n++[32,123]) fs++[32,125,32,59]
 | .global _ t n=>AW t n++[32,59]
 | .func _ t n ps b=>B5 (sV t++32::n++[32,40]) true ps++[32,41,32]++sS b
def Dm(s:List UInt8)(first:Bool):List It->List UInt8
 |[]=>s
 |i::l=>Dm ((if first=true then s else s++[32])++sI i) false l
theorem Kx.ws:∀{fs:List Fd}{l:jC}(_:Kx fs l)(s:bu),EM s fs=if l=[]then s else s++32::jn l:=by
 intro fs l h;induction h with
 |nil=>intro s;simp[EM]
 |@cons t a n k l m fs ht b f hr e=>
  intro s;rw[EM,e,ay (EL _ _ _),Ji ht b,RQ,dT _ _ (EL _ _ _) sp];by_cases hm:m=[]
  ·subst hm;simp[jn]
  ·rw[ay hm,jm hm];simp
theorem Jh.ws:∀{ps:List Pm}{l:jC}(_:Jh ps l)(s:bu),B5 s true ps=s++32::jn l/\B5 s false ps=s++32::44::32::jn l/\l≠[]:=by
 have pb:∀(b:Bool)(s:bu){m:jC},m≠[]->(if b=true then s++[32,112,117,98,108,105,99]else s)++32::jn m=s++32::jn (zS b++m):=by
  intro b s m hm;cases b
  ·simp[zS]
  ·simp only[kh,zS,List.singleton_append];rw[jm hm];simp
 intro ps l h;induction h with
 |@one p b t n k ht a=>
  intro s;refine⟨?_,?_,sp⟩
  ·simp only[B5,kh];rw[EK ht,pb b s sp]
  ·simp only[B5,dN,eY];rw[EK ht,pb b _ sp];simp
 |@cons p b t n k l ps ht a hr e=>
  intro s;have fin:∀s':bu,B5 ((if b=true then s'++[32,112,117,98,108,105,99]else s')++32::AW t n) false ps=s'++32::jn (zS b++(k++B1 n::mk [44]::l)):=λs'=>by
   obtain⟨_,e2,e3⟩:=e ((if b=true then s'++[32,112,117,98,108,105,99]else s')++32::AW t n);rw[e2,EK ht,pb b s' sp];have:zS b++(k++B1 n::mk [44]::l)=(zS b++(k++[B1 n]))++mk [44]::l:=sp;rw[this,dT (zS b++(k++[B1 n])) (mk [44]::l) sp sp,jm e3];simp
  refine⟨?_,?_,sp⟩
  ·simp only[B5,kh];exact fin s
  ·simp only[B5,dN,eY];rw[fin];simp
theorem Kx.ok{fs:List Fd}{l:jC}(h:Kx fs l):∀x∈l,x.Ok:=by
 induction h with
 |nil=>simp
 |cons ht b f hr g=>exact(ht.all.tail λx a=>(ak.1 a).elim (λe=>e▸sw f) λa=>(aP.1 a).elim (b.ok x) λa=>(ak.1 a).elim (λe=>e▸dU) (g x)).1
theorem Jj(b:Bool):∀x∈zS b,x.Ok:=by
 cases b
 ·simp[zS]
 ·exact(zQ.one rG).1
theorem Jh.ok{ps:List Pm}{l:jC}(h:Jh ps l):∀x∈l,x.Ok:=by
 induction h with
 |one ht b=>intro x a;exact(aP.1 a).elim (Jj _ x) ((ht.all.app (.one (sw b))).1 x)
 |cons ht b hr f=>intro x a;exact(aP.1 a).elim (Jj _ x) ((ht.all.tail λx a=>(ak.1 a).elim (λe=>e▸sw b) λa=>(ak.1 a).elim (λe=>e▸dU) (f x)).1 x)
theorem GK.all{i:It}{l:jC}(h:GK i l):zQ l:=by
 cases h with
 |struct a f=>exact .cons rG (.cons (sw a) (.cons dU ⟨λx b=>(aP.1 b).elim (f.ok x) ((zQ.cons dU (.one dU)).1 x),sp⟩))
 |global ht g a=>exact ht.all.app (.cons (sw a) ⟨λx b=>(aP.1 b).elim (g.ok x) ((zQ.one dU).1 x),sp⟩)
 |func0 ht a e=>exact ht.all.app (.cons (sw a) (.cons dU (.cons dU e.all)))
 |func ht a j e=>exact ht.all.app (.cons (sw a) (.cons dU ⟨λx b=>(aP.1 b).elim (j.ok x) ((zQ.cons dU e.all).1 x),sp⟩))
theorem GK.ws{i:It}{l:jC}(h:GK i l):sI i=jn l:=by
 cases h with
 |@struct p n fs l e g=>
  simp only[sI,g.ws];rw[jm sp,jm sp,jm sp];by_cases f:l=[]
  ·subst f;simp[jn]
  ·rw[ay f,dT _ _ f sp];simp[jn]
 |@global p t a n k l ht j e=>
  simp only[sI];rw[Ji ht j,RQ,dT _ _ (EL _ _ _) sp];rfl
 |func0 ht e b=>
  rw[dT _ _ ht.all.2 sp,jm sp,jm sp,jm b.all.2,<-b.ws,<-ht.ws.1];simp[sI,B5]
 |@func p t n k l m q xs ps ht e o b=>
  obtain⟨e1,_,e3⟩:=o.ws (sV t++32::n++[32,40]);rw[dT _ _ ht.all.2 sp,jm sp,jm sp,dT _ _ e3 sp,jm b.all.2,<-b.ws,<-ht.ws.1];simp only[sI,e1];simp
theorem B4.ok{xs:nj}{l:jC}(h:B4 xs l):∀x∈l,x.Ok:=by
 induction h with
 |nil=>simp
 |cons h _ a=>exact(h.all.tail a).1
theorem B4.ws:∀{xs:nj}{l:jC}(_:B4 xs l)(s:bu),Dm s false xs=(if l=[]then s else s++32::jn l):=by
 intro xs l h;induction h with
 |nil=>intro s;simp[Dm]
 |@cons i xs l m h k a=>
  intro s;rw[Dm,a,ay (show¬(l++m=[]) by simp[h.all.2])];simp only[dN,eY];by_cases hm:m=[]
  ·subst hm;simp[h.ws]
  ·rw[ay hm,dT _ _ h.all.2 hm,h.ws];simp
theorem B4.PY{xs:nj}{l:jC}(h:B4 xs l):Dm [] true xs=jn l:=by
 cases h with
 |nil=>rfl
 |@cons i xs l m h k=>
  rw[Dm,k.ws];simp only[kh,aX];by_cases hm:m=[]
  ·subst hm;simp[h.ws]
  ·rw[ay hm,dT _ _ h.all.2 hm,h.ws]
structure Gw(w:Wo):Prop where
 nm:w.kind=1->Nm w.text
 nu:w.kind=2->∃n:Nat,w.n=n/\n<9223372036854775808
theorem Gw.of{s:bu}{v:Wd}{l c:Int}(h:jG s=some v):Gw ⟨v.kind,v.text,v.n,l,c⟩:=by
 cases s with
 |nil=>cases h
 |cons d r=>
  simp only[jG]at h;split at h
  ·rename_i m;split at h
   ·rename_i A;cases h;have o:EF d=true:=su m;have p:cM (d::r)=cM r+1:=by
     unfold cM;rw[qi,aY (show je d.toNat=true from o)];rfl
    refine⟨λe=>?_,λe=>?_⟩
    ·have f:keys.contains ((d::r).take (cM (d::r)))=false:=by
      rw[dx];intro f;simp only[f,kh]at e;omega
     refine⟨?_,f⟩;rw[p];simp only[List.take_succ_cons,Kw,m,dZ,cf,tc];have ht:r.take (cM r)=r.takeWhile EF:=by
      unfold cM;exact(List.prefix_iff_eq_take.1 (List.takeWhile_prefix _)).symm
     rw[ht];refine⟨?_,?_⟩
     ·have key:∀l:bu,(l.takeWhile EF).all EF=true:=λl=>by
       induction l with
       |nil=>rfl
       |cons c l t=>
        rw[qi];split
        ·rename_i f;simp[f,t]
        ·rfl
      exact key r
     ·have:(r.takeWhile EF).length=cM r:=rfl;omega
    ·exfalso;split at e<;>simp at e
   ·cases h
  ·split at h
   ·cases a:uw ((d::r).take (cM (d::r)))with
    |none=>rw[a]at h;cases h
    |some v0=>
     rw[a]at h;cases h;refine⟨λe=>by simp at e,λ_=>?_⟩;unfold uw at a;split at a
     ·split at a
      ·cases a
      ·cases i:wT 0 (((d::r).take (cM (d::r))).drop 2)with
       |none=>rw[i]at a;cases a
       |some u=>
        rw[i]at a;cases a;exact⟨u,rfl,(yo _ 0 u i).2 dc⟩
     ·split at a
      ·rename_i g;cases b:Lib.atoiAll ((d::r).take (cM (d::r)))with
       |ok v1=>
        rw[b]at a;cases a;unfold Lib.atoiAll at b;split at b
        ·cases b
        ·rename_i c0 r0 w;have j:c0∈yn:=by
          have:=g.1 c0 (by rw[w];simp);simpa using this
         have y:c0.toNat≠43/\c0.toNat≠45:=by
          have:∀c∈yn,c.toNat≠43/\c.toNat≠45:=dc;exact this c0 j
         simp only[y.2,eY,td,true_and,false_and]at b;split at b
         ·cases b
         ·cases b
         ·rename_i u _;split at b
          ·cases b
          ·cases b;exact⟨u,rfl,om⟩
       |_=>rw[b]at a;cases a
      ·cases a
   ·split at h
    ·cases h;exact⟨λe=>by simp at e,λe=>by simp at e⟩
    ·cases h
theorem gZ.gw{a b:Int}{s:bu}{ws:dh}(h:gZ a b s ws):∀w∈ws,Gw w:=by
 induction h with
 |nil=>intro w hw;cases hw
 |blank _ _ _ _ _ e=>exact e
 |word _ _ hw _ e=>
  intro w hm;rcases ak.1 hm with rfl|hm
  ·exact .of hw
  ·exact e w hm
abbrev GW(ws:List Wo):Prop:=∀w∈ws,Gw w
theorem GW.sf{ws bH:dh}(h:GW ws)(s:bH<:+ws):GW bH:=λw hw=>h w (s.subset hw)
theorem GN{ws bH:dh}{s:bu}(h:pH ws bH s):∀{t:bu}{l:jC},xu t l->∃m,xu (t++s) m:=by
 induction h with
 |done _=>intro t l ht;exact⟨l,U7 ht⟩
 |star _ _ a=>
  intro t l ht;obtain⟨m,hm⟩:=a ht.star;exact⟨m,U7 hm⟩
theorem vj.tk{ws bH:dh}{t:bu}(h:vj ws bH t)(hw:GW ws):∃l,xu t l:=by
 cases h with
 |@base w bQ _ s b e a=>
  have hm:w.text∈([[99,104,97,114],[105,110,116],[108,111,110,103],[118,111,105,100]]:List (bu)):=by
   simp only[dF,anyS,fw]at b;obtain⟨x,f,a⟩:=b;simp only[bF,cf,ju]at a;rw[a.1]at e⊢;simp only[wJ,ak,bm,cT]at f;rcases f with rfl|rfl|rfl|rfl|rfl
   ·simp
   ·simp
   ·simp
   ·simp
   ·exact(e rfl).elim
  exact GN a (.base hm)
 |struct _ g a=>exact GN a (.struct ((hw _ sp).nm g))
theorem Eb.tk{ws bH:dh}{t t':bu}(h:Eb ws bH t t')(hw:GW ws):∃a l,t'=t++a/\HR a l:=by
 cases h with
 |none _=>exact⟨[],[],sp,.none⟩
 |@some o n c _ _ _ b _=>
  obtain⟨k,e,b⟩:=(hw n sp).nu b;exact⟨_,_,by rw[e];simp,.some b⟩
theorem Nd{w:Wo}{ws:dh}{L:List (bu)}(h:anyS (w::ws) L=true):w.text∈L:=by
 unfold anyS at h;obtain⟨x,b,a⟩:=fw.1 h;simp only[bF,cf,ju]at a;exact a.1▸b
theorem RR{w:Wo}{ws:dh}{n:Nat}(h:iZ (w::ws)=n):w.text∈B2:=by
 have key:∀(L:List (List (bu)))(i:Nat),kL (w::ws) i L=n->w.text∈L.flatten:=by
  intro L;induction L with
  |nil=>intro i h;simp only[kL]at h;omega
  |cons l L a=>
   intro i h;simp only[kL]at h;simp only[iK,aP];split at h
   ·rename_i b;exact .inl (Nd b)
   ·exact .inr (a _ h)
 exact key ly 0 h
def Re.tk:Re->Prop
 | .e x=>∃l,qP x l
 | .es xs=>∃l,ve xs l
 | .s x=>∃l,vf x l
 | .ss xs=>∃l,xR xs l
def Re.tg:Tag->Re->Prop
 | .pW,.s x=>nd x=true
 | .ub,.s x=>ua x=true
 |_,_=>True
def Tag.tk:Tag->Prop
 | .steps _ e| .jx e=>∃l,qP e l
 |_=>True
theorem EN{s:Sm}{l:jC}(b:nd s=true)(h:vf s l):∃m,GH s m:=by
 cases a:ua s with
 |true=>exact⟨_,.is a h⟩
 |false=>exact⟨_,.wrap a b h⟩
theorem Pe{e:Ex}{l:List Ex}(h:∃m,qP e m)(k:∃m,ve l m):∃m,ve (e::l) m:=by
 obtain⟨m,h⟩:=h;obtain⟨m2,k⟩:=k;cases l with
 |nil=>exact⟨_,.one h⟩
 |cons x l=>exact⟨_,.cons h k⟩
theorem G.tk{t:Tag}{b:Nat}{ws bH:dh}{r:Re}(h:G t b ws bH r):GW ws->t.tk->r.tk/\r.tg t:=by
 induction h with
 |@num b w ws h=>exact λw _=>⟨by obtain⟨n,e,o⟩:=(w _ sp).nu h;show∃l,qP (.num _ _) l;rw[e];exact⟨_,.num o⟩,trivial⟩
 |var h p=>exact λw _=>⟨⟨_,.var ((w _ sp).nm h)⟩,trivial⟩
 |tT h ho i=>exact λw _=>⟨⟨_,.call ((w _ sp).nm h) .nil⟩,trivial⟩
 |call h ho p _ f=>exact λw _=>⟨by obtain⟨l,k⟩:=(f (w.sf (fM (fM (aS _)))) trivial).1;exact⟨_,.call ((w _ sp).nm h) k⟩,trivial⟩
 |paren ho _ i f=>exact λw _=>⟨(f (w.sf (fM (aS _))) trivial).1,trivial⟩
 |qp h ho i=>exact λw _=>⟨⟨_,.qp⟩,trivial⟩
 |size h ho ht v i=>exact λw _=>⟨by
  have j:=w.sf (fM (fM (aS _)));obtain⟨l,k⟩:=ht.tk j;obtain⟨a,m,rfl,k2⟩:=v.tk (j.sf ht.sf);exact⟨_,.size k k2⟩,trivial⟩
 |Ec _ i f=>exact λw _=>⟨by obtain⟨l,k⟩:=(f w trivial).1;exact⟨_,.one k⟩,trivial⟩
 |Co u i _ f g=>exact λw _=>⟨Pe (f w trivial).1 (g (w.sf (kZ u.sf)) trivial).1,trivial⟩
 |uV h=>exact λw h=>⟨h,trivial⟩
 |Aw ho u i _ f g=>exact λw h=>⟨(g ((w.sf (fM (aS _))).sf (kZ u.sf)) (by
  obtain⟨l,k⟩:=h;obtain⟨m,k2⟩:=(f (w.sf (fM (aS _))) trivial).1;exact⟨_,.index k k2⟩)).1,trivial⟩
 |Ax ho o _ f=>exact λw h=>⟨(f (w.sf (fM (fM (aS _)))) (by obtain⟨l,k⟩:=h;exact⟨_,.fN ((w _ sp).nm o) k⟩)).1,trivial⟩
 |Ay ho o _ f=>exact λw h=>⟨(f (w.sf (fM (fM (aS _)))) (by obtain⟨l,k⟩:=h;exact⟨_,.arrow ((w _ sp).nm o) k⟩)).1,trivial⟩
 |unop ho _ f=>exact λw _=>⟨by obtain⟨l,k⟩:=(f (w.sf (fM (aS _))) trivial).1;exact⟨_,.un (Nd ho) k⟩,trivial⟩
 |cast ho ht B i _ f=>exact λw _=>⟨by
  have j:=w.sf (fM (aS _));obtain⟨l,k⟩:=B.tk j;obtain⟨m,k2⟩:=(f (j.sf (kZ B.sf)) trivial).1;exact⟨_,.cast k k2⟩,trivial⟩
 |post u N g1 _ f g=>exact λw _=>⟨(g (w.sf g1.sf) (f w trivial).1).1,trivial⟩
 |bin g1 _ F f g=>exact λw _=>⟨(g (w.sf g1.sf) (f w trivial).1).1,trivial⟩
 |stop=>exact λw h=>⟨h,trivial⟩
 |step ho F g1 _ f g=>exact λw h=>⟨(g ((w.sf (fM (aS _))).sf g1.sf) (by
  obtain⟨l,k⟩:=h;obtain⟨m,k2⟩:=(f (w.sf (fM (aS _))) trivial).1;exact⟨_,.bin (RR ho) k k2⟩)).1,trivial⟩
 |ub ho _ f=>exact λw _=>⟨by obtain⟨l,k⟩:=(f (w.sf (fM (aS _))) trivial).1;exact⟨_,.block k⟩,rfl⟩
 |zp i=>exact λ_ _=>⟨⟨_,.nil⟩,trivial⟩
 |Az p ht g1 _ f g=>exact λw _=>⟨by
  obtain⟨l,k⟩:=(f w trivial).1;obtain⟨m,k2⟩:=(g (w.sf g1.sf) trivial).1;exact⟨_,.cons k k2⟩,trivial⟩
 |AA p ht g1 _ f g=>exact λw _=>⟨by
  obtain⟨l,k⟩:=(f w trivial).1;obtain⟨m,k2⟩:=(g (w.sf g1.sf) trivial).1;exact⟨_,.cons k k2⟩,trivial⟩
 |zu ht o p v i=>exact λw _=>⟨by
  obtain⟨l,k⟩:=ht.tk w;have j:=w.sf ht.sf;obtain⟨a,m,rfl,k2⟩:=v.tk (j.sf (fM (aS _)));exact⟨_,.Ar k k2 ((j _ sp).nm o)⟩,trivial⟩
 |AB ht o C _ i f=>exact λw _=>⟨by
  obtain⟨l,k⟩:=ht.tk w;have j:=w.sf ht.sf;obtain⟨m,k2⟩:=(f (j.sf (fM (fM (aS _)))) trivial).1;exact⟨_,.As k ((j _ sp).nm o) k2⟩,trivial⟩
 |uD p _ f=>exact λw _=>⟨(f w trivial).1,by
  have key:∀s:Sm,ua s=true->nd s=true:=λs=>by cases s<;>simp[ua,nd]
  exact key _ (f w trivial).2⟩
 |uE i=>exact λw _=>⟨⟨_,.empty⟩,rfl⟩
 |CT hi ho g1 i _ o f g=>exact λw _=>⟨by
  have j:=w.sf (fM (fM (aS _)));obtain⟨l,k⟩:=(f j trivial).1;obtain⟨⟨m,k2⟩,o⟩:=g (j.sf (kZ g1.sf)) trivial;obtain⟨n,k3⟩:=EN o k2;exact⟨_,.ifs k k3⟩,rfl⟩
 |tU hi ho g1 i g2 o _ f g y=>exact λw _=>⟨by
  have j:=w.sf (fM (fM (aS _)));have D:=j.sf (kZ g1.sf);obtain⟨l,k⟩:=(f j trivial).1;obtain⟨⟨m,k2⟩,o⟩:=g D trivial;obtain⟨⟨m2,I⟩,A⟩:=y (D.sf (kZ g2.sf)) trivial;obtain⟨n,k3⟩:=EN o k2;obtain⟨O,J⟩:=EN A I;exact⟨_,.wD k k3 J⟩,rfl⟩
 |jJ hi ho g1 i _ f g=>exact λw _=>⟨by
  have j:=w.sf (fM (fM (aS _)));obtain⟨l,k⟩:=(f j trivial).1;obtain⟨⟨m,k2⟩,o⟩:=g (j.sf (kZ g1.sf)) trivial;obtain⟨n,k3⟩:=EN o k2;exact⟨_,.wE k k3⟩,rfl⟩
 |uF hi i=>exact λw _=>⟨⟨_,.xq⟩,rfl⟩
 |nW hi i=>exact λw _=>⟨⟨_,.cont⟩,rfl⟩
 |nZ hi i=>exact λw _=>⟨⟨_,.GI⟩,rfl⟩
 |oa hi p _ i f=>exact λw _=>⟨by obtain⟨l,k⟩:=(f (w.sf (fM (aS _))) trivial).1;exact⟨_,.GJ k⟩,rfl⟩
 |uG hi ho _ i C f=>exact λw _=>⟨by obtain⟨l,k⟩:=(f (w.sf (fM (fM (aS _)))) trivial).1;exact⟨_,.out k⟩,rfl⟩
 |uH K _ i f=>exact λw _=>⟨by obtain⟨l,k⟩:=(f w trivial).1;exact⟨_,.eval k⟩,rfl⟩
 |tV K g1 C _ i f g=>exact λw _=>⟨by
  obtain⟨l,k⟩:=(f w trivial).1;obtain⟨m,k2⟩:=(g (w.sf (kZ g1.sf)) trivial).1;exact⟨_,.assign k k2⟩,rfl⟩
theorem Fields.sf{ws bH:dh}{l:List Fd}(h:Fields ws bH l):bH<:+ws:=by
 induction h with
 |done a=>exact fM (aS _)
 |field f ht g b a hr e=>exact e.trans ((kZ b.sf).trans (kZ ht.sf))
theorem rM.sf{ws bH:dh}{l:List Pm}(h:rM ws bH l):bH<:+ws:=by
 induction h with
 |one a ht b e=>exact(kZ (kZ ht.sf)).trans a.sf
 |more a ht b e hr f=>exact f.trans ((kZ (kZ ht.sf)).trans a.sf)
theorem Item.sf{b:Nat}{ws bH:dh}{i:It}(h:Item b ws bH i):bH<:+ws:=by
 cases h with
 |struct hw a ho g f=>exact fM (fM (fM (kZ g.sf)))
 |global ht a j m f=>exact(kZ m.sf).trans (kZ ht.sf)
 |func0 ht a ho f e=>exact e.sf.trans (kZ (kZ (kZ ht.sf)))
 |func ht a ho j o e=>exact e.sf.trans (o.sf.trans (kZ (kZ ht.sf)))
theorem Fields.tk{ws bH:dh}{fs:List Fd}(h:Fields ws bH fs):GW ws->∃l,Kx fs l:=by
 induction h with
 |done _=>exact λ_=>⟨_,.nil⟩
 |field t ht g b u _ i=>
  intro w;obtain⟨k,j⟩:=ht.tk w;have e:=w.sf ht.sf;have f:=e.sf (fM (aS _));obtain⟨a,l,rfl,o⟩:=b.tk f;obtain⟨m,p⟩:=i (f.sf (kZ b.sf));exact⟨_,.cons j o ((e _ sp).nm g) p⟩
theorem rM.tk{ws bH:dh}{ps:List Pm}(h:rM ws bH ps):GW ws->∃l,Jh ps l:=by
 induction h with
 |one b ht e i=>
  intro w;have a:=w.sf b.sf;obtain⟨k,f⟩:=ht.tk a;exact⟨_,.one f (((a.sf ht.sf) _ sp).nm e)⟩
 |more b ht e i _ j=>
  intro w;have a:=w.sf b.sf;have g:=a.sf ht.sf;obtain⟨k,f⟩:=ht.tk a;obtain⟨m,o⟩:=j (g.sf (fM (fM (aS _))));exact⟨_,.cons f ((g _ sp).nm e) o⟩
theorem Nf{b:Nat}{ws bH:dh}{s:Sm}(h:G .ub b ws bH (.s s))(w:GW ws):∃q xs l,s= .block q xs/\vf (.block q xs) l:=by
 obtain⟨⟨l,k⟩,a⟩:=h.tk w trivial;cases s with
 |block q xs=>exact⟨q,xs,l,rfl,k⟩
 |_=>cases a
theorem Item.tk{b:Nat}{ws bH:dh}{i:It}(h:Item b ws bH i)(w:GW ws):∃l,GK i l:=by
 cases h with
 |struct hw f ho v p=>
  obtain⟨l,k⟩:=v.tk (w.sf (fM (fM (fM (aS _)))));exact⟨_,.struct ((w _ sp).nm f) k⟩
 |global ht f y A p=>
  obtain⟨k,g⟩:=ht.tk w;have e:=w.sf ht.sf;obtain⟨a,l,rfl,j⟩:=A.tk (e.sf (fM (aS _)));exact⟨_,.global g j ((e _ sp).nm f)⟩
 |func0 ht f ho p o=>
  obtain⟨k,g⟩:=ht.tk w;have e:=w.sf ht.sf;obtain⟨q,xs,l,rfl,j⟩:=Nf o (e.sf (fM (fM (fM (aS _)))));exact⟨_,.func0 g ((e _ sp).nm f) j⟩
 |func ht f ho y t o=>
  obtain⟨k,g⟩:=ht.tk w;have e:=w.sf ht.sf;have u:=e.sf (fM (fM (aS _)));obtain⟨m,B⟩:=t.tk u;obtain⟨q,xs,l,rfl,j⟩:=Nf o (u.sf t.sf);exact⟨_,.func g ((e _ sp).nm f) B j⟩
theorem jK.tk{b:Nat}{ws:dh}{cD:nj}(h:jK b ws cD):GW ws->∀i∈cD,∃l,GK i l:=by
 induction h with
 |done=>intro _ i hi;cases hi
 |item a _ e=>
  intro w i hi;rcases ak.1 hi with rfl|hi
  ·exact a.tk w
  ·exact e (w.sf a.sf) i hi
theorem Qb:∀(l:nj),(∀i∈l,∃m,GK i m)->∃m,B4 l m
 |[],_=>⟨_,.nil⟩
 |i::l,h=>by
  obtain⟨m,k⟩:=h i sp;obtain⟨n,k2⟩:=Qb l λj a=>h j (by simp[a]);exact⟨_,.cons k k2⟩
def oQ:It->Bool
 | .struct ..=>true
 |_=>false
def oR:It->Bool
 | .global ..=>true
 |_=>false
def qh:It->Bool
 | .func ..=>true
 |_=>false
def wh(l:List It):List It:=l.filter oQ++(l.filter oR++(l.filter qh).reverse)
theorem yU:∀a b:nj,uX (a++b)=uX a++uX b
 |[],_=>rfl
 | .struct _ _ _::a,b=>by simp only[aI,uX,yU a b]
 | .global _ _ _::a,b=>by simp only[aI,uX,yU a b]
 | .func _ _ _ _ _::a,b=>by simp only[aI,uX,yU a b]
theorem sx:∀a b:nj,jW (a++b)=jW a++jW b
 |[],_=>rfl
 | .struct _ _ _::a,b=>by simp only[aI,jW,sx a b]
 | .global _ _ _::a,b=>by simp only[aI,jW,sx a b]
 | .func _ _ _ _ _::a,b=>by simp only[aI,jW,sx a b]
theorem AZ:∀a:nj,jW a.reverse=(jW a).reverse
 |[]=>rfl
 | .struct _ _ _::a=>by simp only[ki,sx,AZ a,jW,fi]
 | .global _ _ _::a=>by simp only[ki,sx,AZ a,jW,fi]
 | .func _ _ _ _ _::a=>by simp only[ki,sx,AZ a,jW]
theorem A0:∀a:nj,(∀i∈a,oR i=false)->uX a=[]
 |[],_=>rfl
 | .struct _ _ _::a,h=>by simp only[uX];exact A0 a λi hi=>h i (by simp[hi])
 | .global _ _ _::a,h=>by have:=h _ (bc ..);simp[oR]at this
 | .func _ _ _ _ _::a,h=>by simp only[uX];exact A0 a λi hi=>h i (by simp[hi])
theorem EO:∀a:nj,(∀i∈a,qh i=false)->jW a=[]
 |[],_=>rfl
 | .struct _ _ _::a,h=>by simp only[jW];exact EO a λi hi=>h i (by simp[hi])
 | .global _ _ _::a,h=>by simp only[jW];exact EO a λi hi=>h i (by simp[hi])
 | .func _ _ _ _ _::a,h=>by have:=h _ (bc ..);simp[qh]at this
theorem Jk:∀a:nj,(∀i∈a,oQ i=false)->fK a=[]
 |[],_=>rfl
 | .struct _ _ _::a,h=>by have:=h _ (bc ..);simp[oQ]at this
 | .global _ _ _::a,h=>by simp only[fK];exact Jk a λi hi=>h i (by simp[hi])
 | .func _ _ _ _ _::a,h=>by simp only[fK];exact Jk a λi hi=>h i (by simp[hi])
theorem Pf:∀a:nj,uX (a.filter oR)=uX a/\jW (a.filter qh)=jW a/\fK (a.filter oQ)=fK a
 |[]=>⟨rfl,rfl,rfl⟩
 | .struct p n f::a=>by
  obtain⟨e,g,h⟩:=Pf a;rw[jq (by simp[oR]),jq (by simp[qh]),List.filter_cons_of_pos rfl];exact⟨e,g,nt ((p,n,f):: ·) h⟩
 | .global p t n::a=>by
  obtain⟨e,g,h⟩:=Pf a;rw[List.filter_cons_of_pos rfl,jq (by simp[qh]),jq (by simp[oQ])];exact⟨nt ((t,n):: ·) e,g,h⟩
 | .func p t n ps b::a=>by
  obtain⟨e,g,h⟩:=Pf a;rw[jq (by simp[oR]),List.filter_cons_of_pos rfl,jq (by simp[oQ])];exact⟨e,by simp only[jW,g],h⟩
theorem kinds(i:It):(oQ i=true->oR i=false/\qh i=false)/\(oR i=true->oQ i=false/\qh i=false)/\(qh i=true->oQ i=false/\oR i=false):=by
 cases i<;>simp[oQ,oR,qh]
theorem Pg(a:nj):uX (wh a)=uX a/\jW (wh a)=(jW a).reverse/\fK (wh a)=fK a:=by
 obtain⟨e,f,g⟩:=Pf a;have s1:∀i∈a.filter oQ,oR i=false/\qh i=false:=λi hi=>(kinds i).1 (ns.1 hi).2;have s2:∀i∈a.filter oR,oQ i=false/\qh i=false:=λi hi=>(kinds i).2.1 (ns.1 hi).2;have b:∀i∈(a.filter qh).reverse,oQ i=false/\oR i=false:=λi hi=>(kinds i).2.2 (ns.1 (List.mem_reverse.1 hi)).2;unfold wh;refine⟨?_,?_,?_⟩
 ·rw[yU,yU,A0 _ λi hi=>(s1 i hi).1,A0 _ λi hi=>(b i hi).2,e];simp
 ·rw[sx,sx,EO _ λi hi=>(s1 i hi).2,EO _ λi hi=>(s2 i hi).2,AZ,f];simp
 ·rw[jM,jM,Jk _ λi hi=>(s2 i hi).1,Jk _ λi hi=>(b i hi).1,g];simp
theorem yV{a:nj}{i:It}(h:i∈wh a):i∈a:=by
 unfold wh at h;rcases aP.1 h with h|h
 ·exact(ns.1 h).1
 ·rcases aP.1 h with h|h
  ·exact(ns.1 h).1
  ·exact(ns.1 (List.mem_reverse.1 h)).1
theorem Km.parts{l m:nj}(h:Km l m):uX m=uX l/\(fK m).map Prod.snd=(fK l).map Prod.snd/\∃h:(jW l).length=(jW m).length,∀(i:Nat)(hi:i<(jW l).length),MR (jW l)[i] ((jW m)[i]'(h▸hi)):=by
 induction h with
 |nil=>exact⟨rfl,rfl,rfl,λi hi=>by simp[jW]at hi⟩
 |cons h _ g=>
  obtain⟨a,b,e,f⟩:=g;cases h with
  |struct=>exact⟨by simp only[uX,a],by simp only[fK,bL,b],e,f⟩
  |global=>exact⟨by simp only[uX,a],b,e,f⟩
  |func j o=>
   refine⟨a,b,by simp only[jW,ai,e],λi hi=>?_⟩;cases i with
   |zero=>exact⟨rfl,rfl,j,o⟩
   |succ i=>exact f i (by simp only[jW,ai]at hi;omega)
theorem HT{s:bu}{ws dR:dh}{b g:Nat}{cD a:nj}(h:gZ 1 1 s ws)(hi:jK b ws cD)(f:gZ 1 1 (Dm [] true (wh cD)) dR)(e:jK g dR a):
 Pb cD a/\(fK a).map Prod.snd=(fK cD).map Prod.snd:=by
 obtain⟨l,k⟩:=Qb (wh cD) λi hm=>hi.tk h.gw i (yV hm);rw[k.PY]at f;have q:=Kn k (MV l k.ok f) e;obtain⟨j,m,o,p⟩:=q.parts;obtain⟨e1,e2,e3⟩:=Pg cD;refine⟨⟨j.trans e1,jW (wh cD),by rw[e2];exact List.reverse_perm _,o,p⟩,by rw[m,e3]⟩
section
def jV.z(e:jV):jV:={e with obj:=0}
variable{N N':List (bu)}{es Ca:List jV}
theorem HV(k:bu):∀l:List jV,(ij k l).map jV.z=ij k (l.map jV.z)
 |[]=>rfl
 |e::l=>by
  simp only[ij,bL];by_cases h:e.name=k
  ·rw[aY h,aY (show e.z.name=k from h)];rfl
  ·rw[ay h,ay (show¬e.z.name=k from h)];exact HV k l
theorem RT(hz:es.map jV.z=Ca.map jV.z)(k:bu):(ij k es).map jV.z=(ij k Ca).map jV.z:=by
 rw[HV,HV,hz]
theorem HW(hz:es.map jV.z=Ca.map jV.z)(k:bu):(ij k es=none/\ij k Ca=none)\/∃e e',ij k es=some e/\ij k Ca=some e'/\e'.ps=e.ps/\e'.size=e.size/\e'.align=e.align:=by
 have h:=RT hz k;cases b:ij k es with
 |none=>
  cases a:ij k Ca with
  |none=>exact .inl ⟨rfl,rfl⟩
  |some e=>rw[b,a]at h;cases h
 |some e=>
  cases a:ij k Ca with
  |none=>rw[b,a]at h;cases h
  |some e'=>
   rw[b,a]at h;simp only[np,bj,jV.z,jV.mk.injEq]at h;exact .inr ⟨e,e',rfl,rfl,h.2.2.1.symm,h.2.2.2.1.symm,h.2.2.2.2.symm⟩
section
variable(hN:∀k,k∈N↔k∈N')(hz:es.map jV.z=Ca.map jV.z)
include hN hz
theorem Qc(f:Fm):qM N' Ca f=qM N es f:=by
 unfold qM;simp only[hN];rcases HW hz f.name with⟨a,b⟩|⟨e,e',a,b,i,g,h⟩
 ·rw[a,b]
 ·rw[a,b];simp only[g,h]
theorem Qd(t:bu):oA N' Ca t=oA N es t:=by unfold oA;simp only[Qc hN hz]
theorem Tv(t:bu):GR N' Ca t=GR N es t:=by unfold GR;simp only[Qc hN hz]
theorem Ng(fs:List zw):rN N' Ca fs=rN N es fs:=by
 have a:∀s f,il N' Ca s f=il N es s f:=λs f=>by unfold il;simp only[Qd hN hz]
 have b:∀(fs:List zw)(s:JY),mR N' Ca fs s=mR N es fs s:=by
  intro fs;induction fs with
  |nil=>intro s;rfl
  |cons f fs e=>
   intro s;simp only[mR,a];cases il N es s f with
   |none=>rfl
   |some s'=>exact e s'
 unfold rN;rw[b]
theorem Tw(fm:List (bu×List Fd)):SQ ⟨N,es,fm,[],[]⟩ ⟨N',Ca,fm,[],[]⟩:=by
 refine⟨Qd hN hz,Tv hN hz,λa b l i=>?_,rfl,rfl,λf=>rfl⟩;unfold pO;rcases HW hz a with⟨g,h⟩|⟨e,e',g,h,j,m,o⟩
 ·simp only[g,h]
 ·simp only[g,h,j]
end
def Sd.nf(s:Sd):List UInt8×List zw:=(s.name,s.fs)
theorem kg.q{l:List Sd}(h:kg N l es)(hN:∀k,k∈N↔k∈N'):∀{l':List Sd}{Ca:List jV},kg N' l' Ca->l'.map Sd.nf=l.map Sd.nf->es.map jV.z=Ca.map jV.z:=by
 induction h with
 |nil=>
  intro l' Ca h' a;cases h' with
  |nil=>rfl
  |snoc=>simp at a
 |@snoc l es s obj ps size align h C D F j m=>
  intro l' Ca h' a;cases h' with
  |nil=>simp at a
  |@snoc l2 o s2 i p g f t u v w b=>
   simp only[fU,bL,iL]at a⊢;obtain⟨a1,a2⟩:=List.append_inj' a rfl;simp only[da,qE,Sd.nf,dz]at a2;have e:=m t a1;rw[a2.2,Ng hN e,j]at b;injection b with y A B;subst y;subst A;subst B;rw[e];simp only[jV.z,a2.1]
theorem kg.at{l:List Sd}(h:kg N l es):∀{i:Nat}{s:Sd},l[i]?=some s->∃b ps size align,kg N (l.take i) b/\ij s.name b=none/\s.fs≠[]/\gn s.name=true/\rN N b s.fs= .Ed ps size align:=by
 induction h with
 |nil=>intro i s a;simp at a
 |@snoc l es s obj ps size align h f g j m o=>
  intro i s2 a;by_cases hi:i<l.length
  ·rw[cS hi]at a;rw[vi (Nat.le_of_lt hi)];exact o a
  ·rw[du (Nat.le_of_not_lt hi)]at a;obtain e:i-l.length=0:=by
    cases p:i-l.length with
    |zero=>rfl
    |succ k=>rw[p]at a;simp at a
   rw[e]at a;simp only[cw,bj]at a;subst a;obtain rfl:i=l.length:=om;rw[List.take_left];exact⟨es,ps,size,align,h,f,g,j,m⟩
theorem kg.not{l l':List Sd}(h:kg N l es)(hN:∀k,k∈N↔∃s∈l,s.name=k)(g:l'.map Sd.nf=l.map Sd.nf):¬FY l':=by
 rintro⟨N',Ca,i,e,j,s',m,o,a⟩
 have len:l'.length=l.length:=by simpa using nt List.length g
 have nm:∀k,(∃s∈l,s.name=k)↔∃s∈l',s.name=k:=λk=>by
  have e1:∀l:List Sd,(∃s∈l,s.name=k)↔k∈(l.map Sd.nf).map Prod.fst:=λl=>by simp[Sd.nf]
  rw[e1,e1,g]
 have b:∀k,k∈N↔k∈N':=λk=>by rw[hN,j,nm]
 obtain⟨hi,rfl⟩:=aV.1 m;have f:i<l.length:=len▸hi;obtain⟨u,ps,size,align,v,w,y,A,B⟩:=h.at (aj f)
 have p:l'[i].nf=l[i].nf:=by
  have:=nt (·[i]?) g;simpa[hi,f]using this
 obtain⟨C,D⟩:l'[i].name=l[i].name/\l'[i].fs=l[i].fs:=by simpa[Sd.nf]using p
 have z:=v.q b o (by rw[List.map_take,List.map_take,g]);rw[C,D]at a;have F:ij l[i].name Ca=none:=by
  rcases HW z l[i].name with⟨t,I⟩|⟨e,e',t,_⟩
  ·exact I
  ·rw[w]at t;cases t
 rcases a with⟨_,a|a|a⟩|⟨_,_,_,a⟩
 ·exact a F
 ·exact y a
 ·rw[A]at a;cases a
 ·rw[Ng b z,B]at a;cases a
theorem RU{S:Sc}{cD:nj}{q:Pl}:¬Gz (zz S cD (some q)):=by
 rintro⟨a,d,h,ho⟩
 unfold zz at h;cases b:zy cD S (Ee (some q))with
 |err q=>rw[b]at h;cases h
 |ok e d1=>
  rw[b]at h;simp only[Rs.fP]at h;have k1:d1.over≠none:=ED cD (by simp[Ee]) b;cases f:tW e d1 with
  |err q=>rw[f]at h;cases h
  |ok n d2=>
   rw[f]at h;obtain rfl:=MQ f;simp only[Rs.fP]at h;cases r3:wX e cD d2 with
   |err q=>rw[r3]at h;cases h
   |ok g d3=>
    rw[r3]at h;cases h;have:=zP e cD d2 k1;rw[r3]at this;exact this ho
theorem zC.c{cD:nj}{r:Rs Pr}(h:zC cD r):(∃l:List Sd,l.map Sd.nf=(fK cD).map zB/\FY l/\¬Gz r)\/
 ∃N es,∃l:List Sd,l.map Sd.nf=(fK cD).map zB/\(∀k,k∈N↔∃s∈l,s.name=k)/\kg N l es/\r=zz ⟨N,es,sq (fK cD),[],[]⟩ cD none:=by
 cases h with
 |bad a b g=>exact .inl ⟨_,a,b,(λ⟨_,_,e,_⟩=>by cases e)⟩
 |go a hN f i j ho=>
  rcases ho with⟨rfl,rfl⟩|⟨⟨q,_,rfl⟩,b⟩
  ·exact .inr ⟨_,_,_,a,hN,f,rfl⟩
  ·exact .inl ⟨_,a,b,RU⟩
theorem RV(a b:List (Pl×bu×List Fd))(h:b.map Prod.snd=a.map Prod.snd):sq b=sq a/\b.map zB=a.map zB:=by
 have e1:∀(l:List (Pl×bu×List Fd))(m:List (bu×List Fd)),l.foldl (λm x=>sd x.2.1 x.2.2 m) m=(l.map Prod.snd).foldl (λm x=>sd x.1 x.2 m) m:=λl m=>by rw[List.foldl_map]
 have e2:∀l:List (Pl×bu×List Fd),l.map zB=(l.map Prod.snd).map λx=>(x.1,x.2.map Fd.fl):=λl=>by simp[zB,jo]
 exact⟨by unfold sq;rw[e1,e1,h],by rw[e2,e2,h]⟩
theorem Nh{cD a:nj}(t:Pb cD a)(o:(fK a).map Prod.snd=(fK cD).map Prod.snd){r i:Rs Pr}(h:zC cD r)(j:zC a i):Gz r↔Gz i:=by
 obtain⟨f1,f2⟩:=RV _ _ o;rcases h.c with⟨l,a1,a2,a3⟩|⟨N,es,l,a1,a2,a3,rfl⟩
 ·rcases j.c with⟨m,b,f,g⟩|⟨M,fs,m,b,f,g,rfl⟩
  ·exact⟨λh=>absurd h a3,λh=>absurd h g⟩
  ·exact absurd a2 (g.not f (by rw[a1,b,f2]))
 ·rcases j.c with⟨m,b,f,g⟩|⟨M,fs,m,b,f,g,rfl⟩
  ·exact absurd f (a3.not a2 (by rw[a1,b,f2]))
  ·have e:m.map Sd.nf=l.map Sd.nf:=(by rw[a1,b,f2]);have nm:∀k,k∈N↔k∈M:=λk=>by
    have e1:∀l:List Sd,(∃s∈l,s.name=k)↔k∈(l.map Sd.nf).map Prod.fst:=λl=>by simp[Sd.nf]
    rw[a2,f,e1,e1,e]
   rw[f1];exact t.Uw (Tw nm (a3.q nm g e) _)
end
end Go.Proofs.YtaekaifihehgdaaGreatDoor
