/- Lemmas for CheckTurns; each states its own conditions. -/
import Derived.Test.YtaekaifihehgdaaGreatDoorN
set_option maxRecDepth 100000
set_option maxHeartbeats 0
set_option linter.unusedSimpArgs false
set_option linter.unusedVariables false
namespace Go.Proofs.YtaekaifihehgdaaGreatDoor
open Go.Am Tryz
theorem fM{α:Type}{a b:List α}{x:α}(h:a<:+b):a<:+x::b:=h.trans (List.suffix_cons _ _)
theorem kZ{α:Type}{a b:List α}{x:α}(h:x::a<:+b):a<:+b:=(List.suffix_cons _ _).trans h
theorem pH.sf{ws bH:dh}{s:bu}(h:pH ws bH s):bH<:+ws:=by
 induction h with
 |done=>exact aS _
 |star _ _ a=>exact fM a
theorem vj.sf{ws bH:dh}{s:bu}(h:vj ws bH s):bH<:+ws:=by
 cases h with
 |base _ _ a=>exact fM a.sf
 |struct _ _ a=>exact fM (fM a.sf)
theorem Eb.sf{ws bH:dh}{t t':bu}(h:Eb ws bH t t'):bH<:+ws:=by
 cases h with
 |none=>exact aS _
 |some=>exact fM (fM (fM (aS _)))
theorem G.sf{t:Tag}{b:Nat}{ws bH:dh}{r:Re}(h:G t b ws bH r):bH<:+ws:=by
 induction h with
 |num h=>exact fM (aS _)
 |var h g=>exact fM (aS _)
 |tT h ho f=>exact fM (fM (fM (aS _)))
 |call h ho g _ a=>exact fM (fM a)
 |paren ho _ f a=>exact fM (kZ a)
 |qp h ho f=>exact fM (fM (fM (aS _)))
 |size h ho ht j f=>exact fM (fM ((kZ j.sf).trans ht.sf))
 |Ec _ f a=>exact kZ a
 |Co _ f _ a e=>exact e.trans (kZ a)
 |uV h=>exact aS _
 |Aw ho _ f _ a e=>exact fM (e.trans (kZ a))
 |Ax ho i _ a=>exact fM (fM a)
 |Ay ho i _ a=>exact fM (fM a)
 |unop ho _ a=>exact fM a
 |cast ho ht p f _ a=>exact fM (a.trans (kZ p.sf))
 |post w y _ _ a e=>exact e.trans a
 |bin _ _ u a e=>exact e.trans a
 |stop=>exact aS _
 |step ho u _ _ a e=>exact fM (e.trans a)
 |ub ho _ a=>exact fM a
 |zp f=>exact fM (aS _)
 |Az g ht _ _ a e=>exact e.trans a
 |AA g ht _ _ a e=>exact e.trans a
 |zu ht i g j f=>exact(kZ j.sf).trans (kZ ht.sf)
 |AB ht i o _ f a=>exact(kZ a).trans (kZ (kZ ht.sf))
 |uD g _ a=>exact a
 |uE f=>exact fM (aS _)
 |CT hi ho _ f _ i a e=>exact fM (fM (e.trans (kZ a)))
 |tU hi ho _ f _ i _ a e m=>exact fM (fM (m.trans ((kZ e).trans (kZ a))))
 |jJ hi ho _ f _ a e=>exact fM (fM (e.trans (kZ a)))
 |uF hi f=>exact fM (fM (aS _))
 |nW hi f=>exact fM (fM (aS _))
 |nZ hi f=>exact fM (fM (aS _))
 |oa hi g _ f a=>exact fM (kZ a)
 |uG hi ho _ f o a=>exact fM (fM (kZ (kZ a)))
 |uH v _ f a=>exact kZ a
 |tV v _ o _ f a e=>exact(kZ e).trans (kZ a)
structure Nv(P:Pl->Prop)(ws:List Wo):Prop where
 p:∀w,w∈ws->P w.at
 t:∀w,w∈ws->w.text.length<=65536
 l:ws.length<=250
theorem Nv.sf{P:Pl->Prop}{ws bH:dh}(h:Nv P ws)(s:bH<:+ws):Nv P bH:=⟨λw hw=>h.p w (s.subset hw),λw hw=>h.t w (s.subset hw),bh s.length_le h.l⟩
theorem vj.tl{P:Pl->Prop}{ws bH:dh}{s:bu}(h:vj ws bH s)(hw:Nv P ws):s.length<=66000:=by
 have e:=hw.l;cases h with
 |@base w bQ _ s h b a=>have:=a.jx;have:=hw.t w sp;simp only[ai,aO]at*;omega
 |@struct w n bQ _ s h b a=>have:=a.jx;have:=hw.t n sp;simp only[ai,aO,aW]at*;omega
theorem Eb.tl{ws bH:dh}{t t':bu}(h:Eb ws bH t t')(ht:t.length<=66000):t'.length<=dW:=by
 unfold dW;cases h with
 |none=>omega
 |@some o n c _ _ h a b=>
  have:=vS 20 n.n.toNat
  simp only[jy,aO,ai,aW];omega
theorem PG{P:Pl->Prop}{ws:dh}{k:Nat}(h:Nv P ws)(a:(Tag.bin 0).strict=true->k<ws.length):P (JR ws):=by
 cases ws with
 |nil=>exact absurd (a rfl) sp
 |cons w r=>exact h.p w sp
def Re.al(P:Pl->Prop):Re->Prop
 | .e x=>x.al P TL
 | .es l=>Pw P TL l
 | .s x=>x.al P TL
 | .ss l=>PC P TL l
def Tag.al(P:Pl->Prop):Tag->Prop
 | .steps _ e| .jx e=>e.al P TL
 |_=>True
theorem G.al{P:Pl->Prop}{t:Tag}{b:Nat}{ws bH:dh}{r:Re}(h:G t b ws bH r):Nv P ws->t.al P->r.al P:=by
 induction h with
 |num h=>exact λw _=>w.p _ sp
 |var h j=>exact λw _=>w.p _ sp
 |tT h ho g=>exact λw _=>⟨w.p _ sp,trivial⟩
 |call h ho j _ a=>exact λw _=>⟨w.p _ sp,a (w.sf (fM (fM (aS _)))) trivial⟩
 |paren ho _ g a=>exact λw _=>a (w.sf (fM (aS _))) trivial
 |qp h ho g=>exact λw _=>w.p _ sp
 |size h ho ht o g=>exact λw _=>⟨w.p _ sp,o.tl (ht.tl (w.sf (fM (fM (aS _)))))⟩
 |Ec _ g a=>exact λw _=>⟨a w trivial,trivial⟩
 |Co i g _ a f=>exact λw _=>⟨a w trivial,f (w.sf (kZ i.sf)) trivial⟩
 |uV h=>exact λw h=>h
 |Aw ho i g _ a f=>exact λw h=>f ((w.sf (fM (aS _))).sf (kZ i.sf)) ⟨w.p _ sp,h,a (w.sf (fM (aS _))) trivial⟩
 |Ax ho m _ a=>exact λw h=>a (w.sf (fM (fM (aS _)))) ⟨w.p _ sp,h⟩
 |Ay ho m _ a=>exact λw h=>a (w.sf (fM (fM (aS _)))) ⟨w.p _ sp,h⟩
 |unop ho _ a=>exact λw _=>⟨w.p _ sp,a (w.sf (fM (aS _))) trivial⟩
 |cast ho ht v g _ a=>exact λw _=>⟨w.p _ sp,by have:=v.tl (w.sf (fM (aS _)));show _<=dW;unfold dW;omega,a ((w.sf (fM (aS _))).sf (kZ v.sf)) trivial⟩
 |post i y g1 _ a f=>exact λw _=>f (w.sf g1.sf) (a w trivial)
 |bin g1 _ B a f=>exact λw _=>f (w.sf g1.sf) (a w trivial)
 |stop=>exact λw h=>h
 |step ho B g1 _ a f=>exact λw h=>f ((w.sf (fM (aS _))).sf g1.sf) ⟨w.p _ sp,h,a (w.sf (fM (aS _))) trivial⟩
 |ub ho _ a=>exact λw _=>⟨w.p _ sp,a (w.sf (fM (aS _))) trivial⟩
 |zp g=>exact λ_ _=>trivial
 |Az j ht g1 _ a f=>exact λw _=>⟨a w trivial,f (w.sf g1.sf) trivial⟩
 |AA j ht g1 _ a f=>exact λw _=>⟨a w trivial,f (w.sf g1.sf) trivial⟩
 |zu ht m j o g=>exact λw _=>⟨w.p _ (ht.sf.subset sp),o.tl (ht.tl w),trivial⟩
 |AB ht m A _ g a=>exact λw _=>⟨w.p _ (ht.sf.subset sp),by have:=ht.tl w;show _<=dW;unfold dW;omega,a (w.sf (kZ (kZ ht.sf))) trivial⟩
 |uD j _ a=>exact λw _=>a w trivial
 |uE g=>exact λw _=>w.p _ sp
 |CT hi ho i g _ m a f=>exact λw _=>⟨w.p _ sp,a (w.sf (fM (fM (aS _)))) trivial,f ((w.sf (fM (fM (aS _)))).sf (kZ i.sf)) trivial⟩
 |tU hi ho i g y m _ a f u=>exact λw _=>⟨w.p _ sp,a (w.sf (fM (fM (aS _)))) trivial,f ((w.sf (fM (fM (aS _)))).sf (kZ i.sf)) trivial,u (((w.sf (fM (fM (aS _)))).sf (kZ i.sf)).sf (kZ y.sf)) trivial⟩
 |jJ hi ho i g _ a f=>exact λw _=>⟨w.p _ sp,a (w.sf (fM (fM (aS _)))) trivial,f ((w.sf (fM (fM (aS _)))).sf (kZ i.sf)) trivial⟩
 |uF hi g=>exact λw _=>w.p _ sp
 |nW hi g=>exact λw _=>w.p _ sp
 |nZ hi g=>exact λw _=>⟨w.p _ sp,trivial⟩
 |oa hi j _ g a=>exact λw _=>⟨w.p _ sp,a (w.sf (fM (aS _))) trivial⟩
 |uG hi ho _ g A a=>exact λw _=>⟨w.p _ sp,a (w.sf (fM (fM (aS _)))) trivial⟩
 |@uH b c ws bQ e C i g a=>exact λw _=>⟨PG w i.len.2,a w trivial⟩
 |@tV b q c ws bQ dR to e C i A _ g a f=>exact λw _=>⟨PG w i.len.2,a w trivial,f (w.sf (kZ i.sf)) trivial⟩
section
def It.al(P:Pl->Prop):It->Prop
 | .struct p nm fs=>P p/\nm.length<=65536/\∀f∈fs,f.ty.length<=dW/\f.nm.length<=65536
 | .global p ty _=>P p/\TL ty
 | .func p ty _ ps b=>P p/\TL ty/\(∀q∈ps,P q.p/\TL q.ty)/\b.al P TL
variable{P:Pl->Prop}
theorem IJ{t:bu}(h:t.length<=66000):TL t:=by show _<=dW;unfold dW;omega
theorem Fields.al{ws bH:dh}{l:List Fd}(h:Fields ws bH l):Nv P ws->(∀f∈l,f.ty.length<=dW/\f.nm.length<=65536)/\bH<:+ws:=by
 induction h with
 |done e=>exact λ_=>⟨sp,fM (aS _)⟩
 |@field n c ws bQ dR IK t t' l i ht j b e hr g=>
  intro w;have s1:dR<:+ws:=(kZ b.sf).trans (kZ ht.sf);obtain⟨i1,i2⟩:=g (w.sf s1);refine⟨λf a=>?_,i2.trans s1⟩;rcases ak.1 a with rfl|a
  ·exact⟨b.tl (ht.tl w),w.t _ (ht.sf.subset sp)⟩
  ·exact i1 f a
theorem Ks.sf{ws bH:dh}{b:Bool}(h:Ks ws bH b):bH<:+ws:=by
 cases h with
 |no=>exact aS _
 |yes=>exact fM (aS _)
theorem rM.al{ws bH:dh}{l:List Pm}(h:rM ws bH l):Nv P ws->(∀q∈l,P q.p/\TL q.ty)/\bH<:+ws:=by
 induction h with
 |@one n c ws bQ dR b t e ht g i=>
  intro w;have f:=w.sf e.sf;refine⟨λq a=>?_,(kZ (kZ ht.sf)).trans e.sf⟩;simp only[aQ]at a;subst a;exact⟨f.p _ (ht.sf.subset sp),IJ (ht.tl f)⟩
 |@more n c ws bQ dR IK b t l e ht g i hr j=>
  intro w;have f:=w.sf e.sf;have s1:dR<:+ws:=(kZ (kZ ht.sf)).trans e.sf;obtain⟨i1,i2⟩:=j (w.sf s1);refine⟨λq a=>?_,i2.trans s1⟩;rcases ak.1 a with rfl|a
  ·exact⟨f.p _ (ht.sf.subset sp),IJ (ht.tl f)⟩
  ·exact i1 q a
theorem Item.al{b:Nat}{ws bH:dh}{i:It}(h:Item b ws bH i)(w:Nv P ws):i.al P/\bH<:+ws:=by
 cases h with
 |@struct x n o c bQ _ l hw e ho m f=>
  have u:=w.sf (fM (fM (fM (aS bQ))));obtain⟨f1,f2⟩:=m.al u;exact⟨⟨w.p _ sp,w.t _ sp,f1⟩,fM (fM (fM (kZ f2)))⟩
 |@global n c _ bQ _ t t' ht e v g f=>exact⟨⟨w.p _ (ht.sf.subset sp),g.tl (ht.tl w)⟩,(kZ g.sf).trans (kZ ht.sf)⟩
 |@func0 n o c _ bQ _ t s ht e ho f a=>
  have s1:=kZ (kZ (kZ ht.sf));exact⟨⟨w.p _ (ht.sf.subset sp),IJ (ht.tl w),sp,a.al (w.sf s1) trivial⟩,a.sf.trans s1⟩
 |@func n o _ bQ dR _ t l s ht e ho v y a=>
  have s1:=kZ (kZ ht.sf);obtain⟨A,j⟩:=y.al (w.sf s1);exact⟨⟨w.p _ (ht.sf.subset sp),IJ (ht.tl w),A,a.al (w.sf (j.trans s1)) trivial⟩,a.sf.trans (j.trans s1)⟩
theorem jK.al{b:Nat}{ws:dh}{cD:nj}(h:jK b ws cD):Nv P ws->∀i∈cD,i.al P:=by
 induction h with
 |done=>exact λ_=>by simp
 |item hi hr e=>
  intro w j a;obtain⟨a1,a2⟩:=hi.al w;rcases ak.1 a with rfl|a
  ·exact a1
  ·exact e (w.sf a2) j a
end
theorem FN{r:Nat}{c0 c1 c2 c3 c4 c5 c6 c7 i c9:AV}{a:Option (Nat×Nat)}{h:ah}(g:h.get r=some (.C [c0,c1,c2,c3,c4,c5,c6,c7,i,c9,.ptr a]))(lt:r<h.nx)(b:Bool)(p:Pl)(Q:Out->ah->Prop)
 (j:(b=true\/a≠none)->∀e,aJ h e->Q (.ret (.iO [])) e)
 (e:b=false->a=none->Q (.ret (.iO [])) ((h.alloc (.C [.I p.1,.I p.2])).2.set r (.C [c0,c1,c2,c3,c4,c5,c6,c7,i,c9,.P h.nx]))):
 ba env 74 [.P r,.bool b,.agg [.I p.1,.I p.2]] h Q:=by
 refine wb fn74 rfl ?_;have rn:r≠h.nx:=om
 simp[f74];cases b with
 |true=>
  simp;refine j (.inl rfl) _ ?_;exact kT
 |false=>
  cases a with
  |some q=>
   simp[g,rn];refine j (.inr sp) _ ?_;exact kT
  |none=>
   simp[g,rn];simpa using e rfl rfl
theorem JS{N:List (bu)}{es:List jV}{fs:List zw}{e:Int}(h:rN N es fs= .bad e):e=5\/e=2:=by
 unfold rN at h;split at h
 ·injection h with h;exact .inl h.symm
 ·split at h
  ·injection h with h;exact .inr h.symm
  ·cases h
def kJ:List zw:=[([115,109,97,108,108],[99,104,97,114])]
theorem Hp(N:List (bu))(es:List jV):∃ps size align,rN N es kJ= .Ed ps size align:=by
 have a:rd [99,104,97,114]=(⟨sQ,[],0,false,0⟩,true):=kr
 have m1:qM N es ⟨sQ,[],0,false,0⟩=(1,1,0):=by
  unfold qM;rw[ay (by rintro⟨h,_⟩;revert h;decide),ay dc,aY rfl]
 have s1:oA N es [99,104,97,114]=(1,1,0):=by
  unfold oA;rw[a];simp[m1]
 have g1:gn [115,109,97,108,108]=true:=by decide+kernel
 simp[rN,kJ,mR,il,BN,g1,s1];exact⟨_,_,_,ay dc⟩
theorem yA:∀ps:List Sd,(jL ps).all AV.scalar=true
 |[]=>rfl
 |p::ps=>by
  have:=yA ps;simp only[jL,bL,iK,List.all_append]at this⊢;simp[this,AV.scalar]
theorem CU:∀(l:List Sd)(i:Nat)(s s':Sd),l[i]?=some s->s'.name=s.name->jL (l.set i s')=(jL l).set (i*2+1) (.slice s'.q s'.fs.length)
 |[],i,s,s',h,_=>by simp at h
 |p::ps,0,s,s',h,e=>by
  simp only[cw,bj]at h;subst h;simp[jL,e]
 |p::ps,i+1,s,s',h,e=>by
  have:=CU ps i s s' (U7 h) e;rw[show(i+1)*2+1=i*2+1+1+1 by omega];simpa[jL]using this
theorem Oq{h:ah}{a:Nat}{e:Bool}{Ot:Nat}{l:List Sd}(ga:h.get a=some (.cells e Ot (jL l)))(lt:a<h.nx)(j:l.length<=300)(h0:l≠[]):
 ba env 75 [.S a l.length] h (λout h'=>∃o,out= .ret (.S o l.length)/\h'.get o=some (.D 2 (jL l))/\h.nx<=o/\o<h'.nx/\aJ h h'):=by
 refine wb fn75 rfl ?_;have fl:=lx l;have m:a≠h.nx:=om
 have hu:env.nv 127=some (.slice 136):=rfl;have u:¬roomy<l.length*(31+1):=by
  have:l.length*(31+1)<=300*(31+1):=iw _ j;unfold roomy;omega
 have p:¬roomy<l.length*(39+1):=by
  have:l.length*(39+1)<=300*(39+1):=iw _ j;unfold roomy;omega
 have tk:(jL l).take (l.length*2)=jL l:=cn om;have g1:l.length*2<=(jL l).length:=om
 have g:l.length≠0:=λt=>h0 (cI t);have b:¬l.length*2<=0:=om
 have i:=yA l
 simp[-aK,f75];simp[-me,-List.all_eq_true,hu,ty136.1,ty136.2.1,ty136.2.2.2,ga,m,p,tk,g1,g,b,i];exact kT
section
def It.wt:It->Nat
 | .struct _ _ fs=>fs.length+1
 | .global _ _ _=>1
 | .func _ _ _ ps b=>ps.length+b.nodes+1
def IL(l:List It):Nat:=(l.map It.wt).sum
theorem Fields.wt{ws bH:dh}{l:List Fd}(h:Fields ws bH l):l.length+1+bH.length<=ws.length:=by
 induction h with
 |done a=>simp;omega
 |field e ht f b a hr g=>have:=ht.jx;have:=b.jx;simp only[ai]at*;omega
theorem Ks.wt{ws bH:dh}{b:Bool}(h:Ks ws bH b):bH.length<=ws.length:=h.sf.length_le
theorem rM.wt{ws bH:dh}{l:List Pm}(h:rM ws bH l):l.length+1+bH.length<=ws.length:=by
 induction h with
 |one a ht b e=>have:=a.wt;have:=ht.jx;simp only[ai,aW]at*;omega
 |more a ht b e hr f=>have:=a.wt;have:=ht.jx;simp only[ai]at*;omega
theorem Item.wt{b:Nat}{ws bH:dh}{i:It}(h:Item b ws bH i):i.wt+bH.length<=ws.length:=by
 cases h with
 |struct hw a ho g f=>have:=g.wt;simp only[ai,It.wt]at*;omega
 |global ht a j m f=>have:=ht.jx;have:=m.jx;simp only[ai,It.wt]at*;omega
 |func0 ht a ho f e=>have:=ht.jx;have:=e.nodes;simp only[ai,It.wt,Re.nodes,Tag.vT,aW]at*;omega
 |func ht a ho j o e=>have:=ht.jx;have:=o.wt;have:=e.nodes;simp only[ai,It.wt,Re.nodes,Tag.vT]at*;omega
theorem jK.wt{b:Nat}{ws:dh}{cD:nj}(h:jK b ws cD):IL cD<=ws.length:=by
 induction h with
 |done=>simp[IL]
 |item hi hr a=>have:=hi.wt;simp only[IL,bL,List.sum_cons]at*;omega
theorem rZ{i:It}:∀{l:nj},i∈l->i.wt<=IL l
 |[],h=>by cases h
 |j::l,h=>by
  simp only[IL,bL,List.sum_cons];rcases ak.1 h with rfl|h
  ·omega
  ·have:=rZ h;simp only[IL]at this;omega
theorem AQ:∀l:nj,l.length<=IL l
 |[]=>by simp[IL]
 |i::l=>by
  have:=AQ l;have:1<=i.wt:=by cases i<;>simp[It.wt]<;>omega
  simp only[IL,bL,List.sum_cons,ai]at*;omega
def Ee(ov:Option Pl):Dn:=⟨[],[],[],0,0,ov⟩
section
variable(S:Sc)
def zx:List Pm->Dn->Rs Unit
 |[],d=> .ok () d
 |q::l,d=>Rs.fV (sN S q.ty) q.p (zx l d)
def Pm.sg(nm ty:List UInt8)(ps:List Pm):Sg:=⟨nm,ty,ps.map Pm.ty,ps.map Pm.AR⟩
def vc:It->Dn->Rs Sc
 | .struct _ _ _,d=> .ok S d
 | .global p ty nm,d=>Rs.fV (!((S.gs.map Gl.nm).contains nm)) p ((Cj S ty p (d.nz (decide (S.gs.length<200)) p)).bind λn d=> .ok {S with gs:=S.gs++[⟨nm,ty,n⟩]} d)
 | .func p ty nm ps _,d=>Rs.fV (!((S.fs.map Sg.nm).contains nm)&&(ty==[118,111,105,100]||sN S ty)) p ((zx S ps d).bind λ_ d=> .ok {S with fs:=S.fs++[Pm.sg nm ty ps]} (d.nz (decide (ps.length<=6)) p))
end
def zy:List It->Sc->Dn->Rs Sc
 |[],S,d=> .ok S d
 |i::l,S,d=>(vc S i d).bind λS d=>zy l S d
section
variable(S:Sc)
def tW(d:Dn):Rs Nat:=match oy [109,97,105,110] (S.fs.map Sg.nm) 0 with
 |none=> .err (1,1)
 |some n=>match S.fs[n]? with
  |none=> .err (1,1)
  |some s=>Rs.fV ((s.ty==[105,110,116]||s.ty==[108,111,110,103])&&s.ps.all tP) (1,1) (.ok n d)
def FR:List Pm->Dn->Rs Unit
 |[],d=> .ok () d
 |q::l,d=>(JL S q.nm q.ty true q.p d).bind λ_ d=>FR l d
def Ou(ps:List Pm)(rt:List UInt8)(b:Sm)(ov:Option Pl):Rs TS:=(FR S ps (Ee ov)).bind λ_ d=>jk S rt b d
structure Fn where
 vs:List Vr
 body:TS
def wX:List It->Dn->Rs (List Fn)
 |[],d=> .ok [] d
 | .func _ ty _ ps b::l,d=>(Ou S ps ty b d.over).bind λt e=>(wX l e).bind λa e2=> .ok (⟨e.vs,t⟩::a) e2
 |_::l,d=>wX l d
end
structure Pr where
 S:Sc
 main:Nat
 fns:List Fn
def zz(S:Sc)(cD:List It)(ov:Option Pl):Rs Pr:=
 (zy cD S (Ee ov)).bind λS d=>(tW S d).bind λm d=>(wX S cD d).bind λl d=> .ok ⟨S,m,l⟩ d
section
variable{S:Sc}{P:Pl->Prop}
end
end
section
theorem Move.SV{X Y Z:cB}{h h':ah}(m:Move X Y h h')(b:∀x∈X,x∈Z):Move Z Z h h':=⟨λi o g hi=>⟨(m.aH i o g λa=>hi (b i a)).1,hi⟩⟩
theorem Move.to{X Y Z:cB}{h h':ah}(f:bP h)(m:Move X Z h h')(a:∀y∈Y,y∈X\/h.nx<=y):Move X Y h h':=⟨λi o g hi=>⟨(m.aH i o g hi).1,λb=>(a i b).elim hi λe=>by have:=aw f g;omega⟩⟩
def qu(X:List Nat)(h:ah):List (AV×AV)->List (List UInt8×List Fd)->Prop
 |[],[]=>True
 |e::es,x::l=>e.1= .str x.1/\jH X h e.2 2 x.2.length (qq x.2)/\qu X h es l
 |_,_=>False
theorem qu.move{X Y:cB}{h h':ah}(s:Move X Y h h'):∀{es:List (AV×AV)}{l:List (bu×List Fd)},qu X h es l->qu Y h' es l
 |[],[],_=>trivial
 |_::_,_::_,⟨a,b,c⟩=>⟨a,b.move s,qu.move s c⟩
 |[],_::_,h=>h.elim
 |_::_,[],h=>h.elim
theorem qu.find{X:cB}{h:ah}(s:bu):∀{es:List (AV×AV)}{l:List (bu×List Fd)}(j:Nat),qu X h es l->(lN s l=none/\∀H,eD H (.str s) es j=some none)\/∃fl k av,lN s l=some fl/\(∀H,eD H (.str s) es j=some (some (k,av)))/\jH X h av 2 fl.length (qq fl)
 |[],[],_,_=> .inl ⟨rfl,λ_=>rfl⟩
 |⟨k,v⟩::es,x::l,j,⟨a,b,c⟩=>by
  simp only at a b;subst a;by_cases e:x.1=s
  ·exact .inr ⟨x.2,j,v,by simp[lN,e],λH=>by simp[eD,ic,<-e],b⟩
  ·have i:(s==x.1)=false:=az.2 (iV e);rcases c.find s (j+1)with⟨f,g⟩|⟨fl,k,av,f,g,m⟩
   ·exact .inl ⟨by simp only[lN,e,eY,f],λH=>by simp only[eD,ic,i];exact g H⟩
   ·exact .inr ⟨fl,k,av,by simp only[lN,e,eY,f],λH=>by simp only[eD,ic,i];exact g H,m⟩
 |[],_::_,_,h=>h.elim
 |_::_,[],_,h=>h.elim
def sd(s:List UInt8)(fl:List Fd):List (List UInt8×List Fd)->List (List UInt8×List Fd)
 |[]=>[(s,fl)]
 |x::l=>if x.1=s then(s,fl)::l else x::sd s fl l
theorem qu.put{X:cB}{h:ah}{s:bu}{fl:List Fd}{v:AV}(f:jH X h v 2 fl.length (qq fl)):∀{es:List (AV×AV)}{l:List (bu×List Fd)}(j:Nat),qu X h es l->
 (∀H,eD H (.str s) es j=some none/\qu X h (es++[(.str s,v)]) (sd s fl l))\/∃k w,(∀H,eD H (.str s) es j=some (some (j+k,w)))/\qu X h (es.modify k λ_=>(.str s,v)) (sd s fl l)
 |[],[],_,_=> .inl λ_=>⟨rfl,rfl,f,trivial⟩
 |⟨k,w⟩::es,x::l,j,⟨a,b,c⟩=>by
  simp only at a b;subst a;by_cases e:x.1=s
  ·exact .inr ⟨0,w,λH=>by simp[eD,ic,<-e],by simp only[sd,e,kh,List.modify_zero_cons];exact⟨rfl,f,c⟩⟩
  ·have g:(s==x.1)=false:=az.2 (iV e);rcases qu.put f (j+1) c with i|⟨k,w,m,o⟩
   ·exact .inl λH=>⟨by simp only[eD,ic,g];exact(i H).1,by simp only[sd,e,eY,aI];exact⟨rfl,b,(i H).2⟩⟩
   ·exact .inr ⟨k+1,w,λH=>by simp only[eD,ic,g];rw[m H];congr 3;omega,by simp only[sd,e,eY,List.modify_succ_cons];exact⟨rfl,b,o⟩⟩
 |[],_::_,_,h=>h.elim
 |_::_,[],_,h=>h.elim
structure PA where
 r:Nat
 o:Nat
 tb:Nat
 nm:Nat
 st:Nat
 fm:Nat
 gm:Nat
 um:Nat
 tr:AV
structure LY(A:PA)(X:List Nat)(h:ah)(S:Sc):Prop where
 Cm:rC A.tb A.nm A.st h S.N S.es
 tx:A.tb∉X/\A.nm∉X/\A.st∉X/\∀e∈S.es,e.obj∉X
theorem LY.move{A:PA}{X Y:cB}{h h':ah}{S:Sc}(s:Move X Y h h')(n:h.nx<=h'.nx)(t:LY A X h S):LY A Y h' S:=by
 obtain⟨t,a,b,f,g⟩:=t;exact⟨⟨(s.aH _ _ t.t a).1,(s.aH _ _ t.n b).1,(s.aH _ _ t.s f).1,λe he=>(s.aH _ _ (t.o e he) (g e he)).1,aq t.lt n,aq t.ln n,aq t.ls n,λe he=>aq (t.lo e he) n,t.ne⟩,
  (s.aH _ _ t.t a).2,(s.aH _ _ t.n b).2,(s.aH _ _ t.s f).2,λe he=>(s.aH _ _ (t.o e he) (g e he)).2⟩
structure SX(A:PA)(X:List Nat)(h:ah)(S:Sc):Prop where
 g:∃es,h.get A.fm=some (.map es)/\qu X h es S.fm
 x:A.fm∉X
theorem SX.move{A:PA}{X Y:cB}{h h':ah}{S:Sc}(s:Move X Y h h')(t:SX A X h S):SX A Y h' S:=by
 obtain⟨⟨es,g,f⟩,x⟩:=t;exact⟨⟨es,(s.aH _ _ g x).1,f.move s⟩,(s.aH _ _ g x).2⟩
def PA.M(A:PA)(fo:List Nat)(iP iX:AV):List Nat:=A.r::A.o::A.gm::A.um::(aT iP++(aT iX++fo))
def PA.ob(A:PA)(v:AV):List AV:=[.P A.o,.P A.tb,.map (some A.fm),.map (some A.gm),.map (some A.um),.N,.map none,.Z,.I 0,.I 0,v]
structure rI(A:PA)(S:Sc)(gn un:List (List UInt8))(X fo:List Nat)(iP iX:AV)(ov:Option Pl)(h:ah):Prop where
 fr:bP h
 sup:∀x∈A.M fo iP iX,x∈X
 xl:∀x∈X,x<h.nx
 nd:(A.r::A.o::A.gm::A.um::fo).Nodup
 r:∃v,h.get A.r=some (.C (A.ob v))/\jI X h v ov
 o:h.get A.o=some (.C [A.tr,iP,iX,.I 0])
 Cm:LY A X h S
 fm:SX A X h S
 gm:h.get A.gm=some (.map (eW gn 0))
 um:h.get A.um=some (.map (eW un 0))
 ga:cu [] h iP 3 S.gs.length (vL S.gs)
 fa:cQ [] h iX (fo.map λa=>(a,()))
 fl:fo.length=S.fs.length
 fs:∀(n a:Nat)(s:Sg),S.fs[n]?=some s->fo[n]?=some a->∃p b,h.get a=some (.C [.str s.nm,.str s.ty,p,b,.Z,.N])/\jH X h p 1 s.ps.length (s.ps.map .str)/\jH X h b 1 s.pb.length (s.pb.map .bool)
section
variable{A:PA}{S:Sc}{gn un TB TC:List (bu)}{X fo:cB}{iP iX:AV}{ov TD:Option Pl}{h h':ah}
theorem rI.ne(I:rI A S gn un X fo iP iX ov h):A.r≠A.o/\A.r≠A.gm/\A.r≠A.um/\A.o≠A.gm/\A.o≠A.um/\A.gm≠A.um/\∀a∈fo,a≠A.r/\a≠A.o/\a≠A.gm/\a≠A.um:=by
 have nd:=I.nd;simp only[fh,ak,iS]at nd;obtain⟨⟨a1,a2,a3,a4⟩,⟨a5,g,i⟩,⟨j,a9⟩,f,_⟩:=nd;exact⟨a1,a2,a3,a5,g,j,λa b=>⟨λe=>a4 (e▸b),λe=>i (e▸b),λe=>a9 (e▸b),λe=>f (e▸b)⟩⟩
theorem rI.U0(I:rI A S gn un X fo iP iX ov h){a:Nat}(i:a∈fo):∃c,h.get a=some (.C c):=by
 obtain⟨n,f,e⟩:=gh i;have j:n<S.fs.length:=by rw[<-I.fl];exact f
 obtain⟨p,b,g,_⟩:=I.fs n a S.fs[n] (aj j) (by rw[aj f,e]);exact⟨_,g⟩
theorem rI.Ow(I:rI A S gn un X fo iP iX ov h){b:Nat}(a:b∈aT iP++aT iX):b≠A.r/\b≠A.o/\b≠A.gm/\b≠A.um/\b∉fo:=by
 have key:∃f k c,h.get b=some (.cells f (k+1) c):=by
  rcases aP.1 a with a|a
  ·rcases I.ga with⟨_,_,e⟩|⟨x,e,_,g⟩
   ·rw[e]at a;cases a
   ·rw[e]at a;simp[aT]at a;subst a;exact⟨_,_,_,g⟩
  ·rcases I.fa with⟨_,e⟩|⟨x,e,_,g⟩
   ·rw[e]at a;cases a
   ·rw[e]at a;simp[aT]at a;subst a;exact⟨_,_,_,g⟩
 obtain⟨f,k,c,g⟩:=key;obtain⟨v,gr,_⟩:=I.r;refine⟨λe=>?_,λe=>?_,λe=>?_,λe=>?_,λe=>?_⟩
 ·rw[e,gr]at g;simp at g
 ·rw[e,I.o]at g;simp at g
 ·rw[e,I.gm]at g;simp at g
 ·rw[e,I.um]at g;simp at g
 ·obtain⟨c2,g2⟩:=I.U0 e;rw[g2]at g;simp at g
theorem rI.PH{j:cB}(I:rI A S gn un X fo iP iX ov h)(m:Move X j h h')(y:∀x∈X,x∈j)(B:∀x∈j,x<h'.nx)(fr:bP h')(nx:h.nx<=h'.nx)(old:∀i∈A.M fo iP iX,i≠A.r->i≠A.gm->i≠A.um->h'.get i=h.get i)
 (r:∃v,h'.get A.r=some (.C (A.ob v))/\jI j h' v TD) (gm:h'.get A.gm=some (.map (eW TB 0))) (um:h'.get A.um=some (.map (eW TC 0))):rI A S TB TC j fo iP iX TD h':=by
 obtain⟨C,R,U,D,F,V,J⟩:=I.ne;have t:∀b∈aT iP++aT iX,h'.get b=h.get b:=λb f=>by
  obtain⟨a1,a2,a3,a4,_⟩:=I.Ow f;refine old b ?_ a1 a3 a4;rcases aP.1 f with f|f<;>simp[PA.M,f]
 refine⟨fr,λx K=>y x (I.sup x K),B,I.nd,r,(old _ (by simp[PA.M]) C.symm D F).trans I.o,I.Cm.move m nx,I.fm.move m,gm,um,?_,?_,I.fl,λn a s N u=>?_⟩
 ·rcases I.ga with e|⟨b,e,f,g⟩
  ·exact .inl e
  ·exact .inr ⟨b,e,f,by rw[t b (by rw[e];simp[aT])];exact g⟩
 ·rcases I.fa with e|⟨b,e,f,g⟩
  ·exact .inl e
  ·exact .inr ⟨b,e,f,by rw[t b (by rw[e];simp[aT])];exact g⟩
 ·obtain⟨p,b,g,a1,a2⟩:=I.fs n a s N u;have w:=bg u;obtain⟨O,W,P,Q⟩:=J a w;exact⟨p,b,by rw[old a (by simp[PA.M,w]) O P Q];exact g,a1.move m,a2.move m⟩
theorem rI.nx(I:rI A S gn un X fo iP iX ov h)(m:Move X X h h')(fr:bP h')(nx:h.nx<=h'.nx)(old:∀i∈A.M fo iP iX,i≠A.r->i≠A.gm->i≠A.um->h'.get i=h.get i)
 (r:∃v,h'.get A.r=some (.C (A.ob v))/\jI X h' v TD) (gm:h'.get A.gm=some (.map (eW TB 0))) (um:h'.get A.um=some (.map (eW TC 0))):rI A S TB TC X fo iP iX TD h':=
 I.PH m (λ_ h=>h) (λx a=>aq (I.xl x a) nx) fr nx old r gm um
end
end
section
def PD(A:PA)(X:List Nat)(h:ah)(Q:Out->ah->Prop):Rs Sc->Prop
 | .ok S d=>∀e f a b h',rI A S (S.gs.map Gl.nm) (S.fs.map Sg.nm) e f a b d.over h'->(∀x∈X,x∈e)->Move X e h h'->h.nx<=h'.nx->Q (.ret (.iO [])) h'
 | .err p=>∀h',Move X X h h'->bP h'->Q (.jz (xX p)) h'
theorem qN{s:bu}:∀{l:List (bu)}{i:Nat},oy s l i=none↔l.contains s=false
 |[],i=>by simp[oy]
 |x::l,i=>by
  have:=@qN s l (i+1);by_cases e:x=s
  ·subst e;simp[oy]
  ·have e2:¬s=x:=λh=>e h.symm;simp only[oy,e,eY,List.contains_cons];simp[this,e2]
theorem xN(s:bu):∀(l:List (bu))(i:Nat),eW (l++[s]) i=eW l i++[(.str s,.I (i+l.length:Nat))]
 |[],i=>by simp[eW]
 |x::l,i=>by
  have:=xN s l (i+1);simp only[aI,eW,this,ai];congr 6;omega
section
variable{A:PA}{S:Sc}{X fo:cB}{iP iX:AV}{d:Dn}{h:ah}{id:Nat}{p:Pl}{ty nm:bu}{Q:Out->ah->Prop}
theorem rI.aH{gn un:List (bu)}{ov:Option Pl}{h':ah}(I:rI A S gn un X fo iP iX ov h)(k:aJ h h'):rI A S gn un X fo iP iX ov h'/\Move X X h h':=by
 have m:Move X X h h':=Move.k I.fr k;obtain⟨v,b,f⟩:=I.r;have e:∀i∈A.M fo iP iX,h'.get i=h.get i:=λi hi=>k.old i (I.xl i (I.sup i hi));exact⟨I.nx m (k.fresh I.fr) k.nx (λa g _ _ _=>e a g) ⟨v,(e _ (by simp[PA.M])).trans b,f.move m⟩ ((e _ (by simp[PA.M])).trans I.gm) ((e _ (by simp[PA.M])).trans I.um),m⟩
theorem rI.more{gn un:List (bu)}{ov:Option Pl}{H:ah}(I:rI A S gn un X fo iP iX ov h)(k:aJ h H){a:Nat}(a1:h.nx<=a)(a2:a<H.nx):rI A S gn un (a::X) fo iP iX ov H/\Move X (a::X) h H:=by
 have m:Move X (a::X) h H:=(Move.k I.fr k).to I.fr λy f=>by
  rcases ak.1 f with rfl|f
  ·exact .inr a1
  ·exact .inl f
 obtain⟨v,g,j⟩:=I.r;have e:∀i∈A.M fo iP iX,H.get i=h.get i:=λi hi=>k.old i (I.xl i (I.sup i hi));exact⟨I.PH m (λx b=>au _ b) (λx b=>by
  rcases ak.1 b with rfl|b
  ·exact a2
  ·exact aq (I.xl x b) k.nx) (k.fresh I.fr) k.nx (λa o _ _ _=>e a o) ⟨v,(e _ (by simp[PA.M])).trans g,j.move m⟩ ((e _ (by simp[PA.M])).trans I.gm) ((e _ (by simp[PA.M])).trans I.um),m⟩
theorem rI.T9{gn un:List (bu)}{ov:Option Pl}{a:ah}(I:rI A S gn un X fo iP iX ov h)(k:aR [A.r] h a):Move X X h a:=
 Move.of I.fr k (λz b _=>by simp at b;subst b;exact I.sup _ (by simp[PA.M])) λ_ e=> .inl e
theorem rI.LZ{gn un:List (bu)}(I:rI A S gn un X fo iP iX d.over h)(b:Bool)(p:Pl)(Q:Out->ah->Prop)(w:∀g,rI A S gn un X fo iP iX (d.nz b p).over g->aR [A.r] h g->Q (.ret (.iO [])) g):
 ba env 74 [.P A.r,.bool b,.agg [.I p.1,.I p.2]] h Q:=by
 obtain⟨v,gr,ov⟩:=I.r;obtain⟨R,B,C,_,_,_,U⟩:=I.ne;have D:A.r<h.nx:=I.xl _ (I.sup _ (by simp[PA.M]));obtain⟨t,rfl,f⟩:∃t,v= .ptr t/\(t=none↔d.over=none):=by
  cases ho:d.over with
  |none=>rw[ho]at ov;exact⟨none,ov,sp⟩
  |some q=>rw[ho]at ov;obtain⟨x,e,_⟩:=ov;exact⟨_,e,sp⟩
 refine FN gr D b p Q (λu g k=>?_) λF J=>?_
 ·obtain⟨N,m⟩:=I.aH k;have:(d.nz b p).over=d.over:=by
   unfold Dn.nz;rcases u with rfl|u
   ·rfl
   ·cases b with
    |true=>rfl
    |false=>cases ho:d.over with
     |none=>exact absurd (f.2 ho) u
     |some q=>rw[ho]
  exact w _ (this▸N) (k.x _)
 ·have ho:=f.1 J;subst F;have e:(d.nz false p).over=some p:=by unfold Dn.nz;rw[ho]
  have ne:A.r≠h.nx:=by omega
  have K:aJ h (h.alloc (.C [.I p.1,.I p.2])).2:=kT;have kx:aR [A.r] h ((h.alloc (.C [.I p.1,.I p.2])).2.set A.r (.C [.P A.o,.P A.tb,.map (some A.fm),.map (some A.gm),.map (some A.um),.N,.map none,.Z,.I 0,.I 0,.P h.nx])):=kX;have m:Move X X h ((h.alloc (.C [.I p.1,.I p.2])).2.set A.r (.C [.P A.o,.P A.tb,.map (some A.fm),.map (some A.gm),.map (some A.um),.N,.map none,.Z,.I 0,.I 0,.P h.nx])):=(Move.k I.fr K).comp (Move.on _ (I.sup _ (by simp[PA.M])));have old:∀i∈A.M fo iP iX,i≠A.r->((h.alloc (.C [.I p.1,.I p.2])).2.set A.r (.C [.P A.o,.P A.tb,.map (some A.fm),.map (some A.gm),.map (some A.um),.N,.map none,.Z,.I 0,.I 0,.P h.nx])).get i=h.get i:=λi hi hr=>by
   rw[ah.aM,ay hr];exact K.old i (I.xl i (I.sup i hi))
  have fr:bP ((h.alloc (.C [.I p.1,.I p.2])).2.set A.r (.C [.P A.o,.P A.tb,.map (some A.fm),.map (some A.gm),.map (some A.um),.N,.map none,.Z,.I 0,.I 0,.P h.nx])):=λj y=>by
   rw[ah.aM,ay (by simp at y;omega)];exact K.fresh I.fr j y
  refine w _ (I.nx m fr kx.nx (λa O hr _ _=>old a O hr) ⟨.P h.nx,by simp[PA.ob],?_⟩ ((old _ (by simp[PA.M]) B.symm).trans I.gm) ((old _ (by simp[PA.M]) C.symm).trans I.um)) kx;rw[e];exact⟨h.nx,rfl,λP=>by have:=I.xl _ P;omega,by simp[ne.symm]⟩
def PI(A:PA)(S:Sc)(gn un:List (List UInt8))(X fo:List Nat)(iP iX:AV)(h:ah)(Q:Out->ah->Prop):Rs Int->Prop
 | .ok n d=>∀a,rI A S gn un X fo iP iX d.over a->aR [A.r] h a->Q (.ret (.I n)) a
 | .err p=>∀a,Move X X h a->bP a->Q (.jz (xX p)) a
theorem rI.scalar{gn un:List (bu)}{ov:Option Pl}(I:rI A S gn un X fo iP iX ov h)(ty:bu)(e:ty.length<=100000)(Q:Out->ah->Prop)(b:∀a,aJ h a->Q (.ret (.bool (sN S ty))) a):
 ba env 77 [.P A.r,.str ty] h Q:=by
 refine wb fn77 rfl ?_;obtain⟨v,c1,c2⟩:=I.r;simp only[PA.ob]at c1;simp[f77,c1];refine(CP _ _ _ _ _ _ ty I.Cm.Cm I.fr om).m1 λg k3=>?_;simp;exact b _ k3
theorem rI.size{gn un:List (bu)}(I:rI A S gn un X fo iP iX d.over h)(t:Fits S.es)(ty:bu)(B:ty.length<=100000)(p:Pl)(Q:Out->ah->Prop)(a:PI A S gn un X fo iP iX h Q (Cj S ty p d)):
 ba env 76 [.P A.r,.str ty,.agg [.I p.1,.I p.2]] h Q:=by
 refine wb fn76 rfl ?_;obtain⟨v,c1,c2⟩:=I.r;have rn:A.r≠h.nx:=by have:=aw I.fr c1;omega
 simp only[PA.ob]at c1;have j:aJ h (h.alloc (.C [.I p.1,.I p.2])).2:=kT;obtain⟨g,m1⟩:=I.aH j;have m:(h.alloc (.C [.I p.1,.I p.2])).2.get h.nx=some (.C [.I p.1,.I p.2]):=sp
 simp[f76,c1,rn];generalize (h.alloc (.C [.I p.1,.I p.2])).2=C at*;refine(D7 _ _ _ _ _ _ ty g.Cm.Cm g.fr t om).m1 λD k3=>?_;have g3:=(k3.old _ (aw g.fr m)).trans m;obtain⟨i,m3⟩:=g.aH k3;unfold Cj at a;generalize oA S.N S.es ty=z at*;obtain⟨n,al,o⟩:=z;simp[zr,g3];simp only at a;refine fI p _ _ _ _ (λu e b=>?_) λu e b=>?_
 ·have e':(!(o==5))=false:=e;rw[e']at a;simp;exact a _ ((m1.comp m3).comp (Move.k i.fr b)) (b.fresh i.fr)
 ·have e':(!(o==5))=true:=e;rw[e']at a;obtain⟨w,m4⟩:=i.aH b;have g4:=(b.old _ (aw i.fr g3)).trans g3;simp[g4];refine w.LZ _ p _ λF y m5=>?_;simp;exact a _ y ((((j.trans k3).trans b).x _).trans m5)
theorem CW:∀l:List Gl,(vL l).length=l.length*3
 |[]=>rfl
 |p::ps=>by
  have:=CW ps;simp only[vL,bL,iK,aO,ai,aW]at this⊢;omega
theorem JT(l:List Gl)(g:Gl):vL (l++[g])=vL l++[.str g.nm,.str g.ty,.I g.sz]:=by simp[vL]
theorem rI.PK{gn un:List (bu)}{ov:Option Pl}{H:ah}(I:rI A S gn un X fo iP iX ov h)(k:Move (A.o::(aT iP++aT iX)) [] h H)(i:Nat)(o:dK)(g:h.get i=some o)(hi:i=A.r\/i=A.gm\/i=A.um\/i∈fo):H.get i=some o:=by
 obtain⟨b,m,t,e,f,u,j⟩:=I.ne;refine(k.aH i o g λa=>?_).1;rcases ak.1 a with rfl|a
 ·rcases hi with hi|hi|hi|hi
  ·exact b hi.symm
  ·exact e hi
  ·exact f hi
  ·exact(j _ hi).2.1 rfl
 ·obtain⟨a1,a2,a3,a4,a5⟩:=I.Ow a;rcases hi with hi|hi|hi|hi
  ·exact a1 hi
  ·exact a3 hi
  ·exact a4 hi
  ·exact a5 hi
theorem rI.IP{gn un:List (bu)}{ov:Option Pl}(I:rI A S gn un X fo iP iX ov h){b:Nat}(a:b∈aT iP)(f:b∈aT iX):False:=by
 rcases I.ga with⟨_,_,e⟩|⟨x,e,_,g⟩
 ·rw[e]at a;cases a
 ·rcases I.fa with⟨_,e2⟩|⟨y,e2,_,g2⟩
  ·rw[e2]at f;cases f
  ·rw[e]at a;rw[e2]at f;simp[aT]at a f;subst a f;rw[g]at g2;simp at g2
theorem rI.Ua{gn un:List (bu)}{ov:Option Pl}(I:rI A S gn un X fo iP iX ov h){j:Nat}(t:h.get j=none)(Z:j<h.nx)(g:Gl)(N:S.gs.length<=300):
 ∃H,aK env (h.set j (.D 3 [.str g.nm,.str g.ty,.I g.sz])) 74 iP (.S j 1)=some (.S h.nx (S.gs.length+1),H)/\H.get A.o=h.get A.o/\H.get A.r=h.get A.r/\
  rI A {S with gs:=S.gs++[g]} gn un (h.nx::X) fo (.S h.nx (S.gs.length+1)) iX ov (H.set A.o (.C [A.tr,.S h.nx (S.gs.length+1),iX,.I 0]))/\Move X (h.nx::X) h (H.set A.o (.C [A.tr,.S h.nx (S.gs.length+1),iX,.I 0]))/\h.nx<=H.nx:=by
 obtain⟨n1,n2,n3,n4,n5,n6,n7⟩:=I.ne;have mv:Move [] [] h (h.set j (.D 3 [.str g.nm,.str g.ty,.I g.sz])):=Move.new _ t;have m:bP (h.set j (.D 3 [.str g.nm,.str g.ty,.I g.sz])):=λi hi=>by rw[ah.aM,ay (by simp at hi;omega)];exact I.fr i hi
 obtain⟨H,F,nx,g7,C⟩:=oW (st:=74) (e:=165) rfl ty165.1 ty165.2.1 dc ty165.2.2.2 rfl (I.ga.move mv) (CW _) N j [.str g.nm,.str g.ty,.I g.sz] rfl rfl sp m;simp only[ah.pj]at F nx g7;have lo:A.o<h.nx:=I.xl _ (I.sup _ (by simp[PA.M]));have O:A.o≠h.nx:=om
 have mk:∀X,(∀x∈A.o::aT iP,x∈X)->Move X X h (H.set A.o (.C [A.tr,.S h.nx (S.gs.length+1),iX,.I 0])):=λX J=>
  ((Move.new _ t).comp (Move.of m C (λz P _=>J z (by simp[P])) λ_ w=> .inl w)).comp (Move.on _ (J _ sp))
 have u:Move X (h.nx::X) h (H.set A.o (.C [A.tr,.S h.nx (S.gs.length+1),iX,.I 0])):=
  (mk _ λx f=>I.sup _ (by rcases ak.1 f with rfl|f<;>simp[PA.M, *])).to I.fr λy w=>by
   rcases ak.1 w with rfl|w
   ·exact .inr (ao _)
   ·exact .inl w
 have D:Move (A.o::(aT iP++aT iX)) [] h (H.set A.o (.C [A.tr,.S h.nx (S.gs.length+1),iX,.I 0])):=(mk _ λx f=>by rcases ak.1 f with rfl|f<;>simp[*]).to I.fr sp;obtain⟨v,gr,ov⟩:=I.r;have R:H.get A.o=h.get A.o:=by
  rw[C.old A.o (U7 lo) λf=>(I.Ow (eJ _ f)).2.1 rfl,ah.aM,ay]
  rintro rfl
  rw[I.o]at t;cases t
 have U:H.get A.r=h.get A.r:=by
  rw[C.old A.r (aw I.fr gr) λf=>(I.Ow (eJ _ f)).1 rfl,ah.aM,ay]
  rintro rfl
  rw[gr]at t;cases t
 refine⟨H,F,R,U,⟨λi hi=>?_,λx f=>?_,λx f=>?_,I.nd,⟨v,I.PK D _ _ gr (.inl rfl),ov.move u⟩,sp,?_,?_,I.PK D _ _ I.gm (.inr (.inl rfl)),I.PK D _ _ I.um (.inr (.inr (.inl rfl))),.inr ⟨h.nx,sp,sp,by simp[O.symm];rw[g7,JT]⟩,?_,I.fl,λn a s V K=>?_⟩,u,om⟩
 ·rw[ah.aM,ay (by have:=hi;rw[ah.pj]at this;omega)];exact C.fresh m i hi
 ·simp only[PA.M,ak,aP]at f;by_cases e:x=h.nx
  ·simp[e]
  ·refine au _ (I.sup x ?_);simp only[PA.M,ak,aP];rcases f with e|e|e|e|e|e|e
   ·exact .inl e
   ·exact .inr (.inl e)
   ·exact .inr (.inr (.inl e))
   ·exact .inr (.inr (.inr (.inl e)))
   ·simp[aT]at e;omega
   ·exact .inr (.inr (.inr (.inr (.inr (.inl e)))))
   ·exact .inr (.inr (.inr (.inr (.inr (.inr e)))))
 ·rcases ak.1 f with rfl|f
  ·simp;omega
  ·have:=I.xl x f;simp;omega
 ·have:=I.Cm.move u IN;exact⟨this.Cm,this.tx⟩
 ·have:=I.fm.move u;exact⟨this.g,this.x⟩
 ·rcases I.fa with e|⟨b,e,W,g⟩
  ·exact .inl e
  ·have B:b∈aT iX:=(by rw[e];simp[aT]);refine .inr ⟨b,e,W,((mk (A.o::aT iP) λ_ h=>h).aH b _ g λf=>?_).1⟩;rcases ak.1 f with f|f
   ·exact(I.Ow (bw _ B)).2.1 f
   ·exact I.IP f B
 ·obtain⟨p,b,g,a1,a2⟩:=I.fs n a s V K;exact⟨p,b,I.PK D _ _ g (.inr (.inr (.inr (bg K)))),a1.move u,a2.move u⟩
theorem rI.Ub{gn un:List (bu)}{ov:Option Pl}(I:rI A S gn un X fo iP iX ov h){j:Nat}(B:h.get j=none)(lj:j<h.nx){a:Nat}(V:a∈X)(an:a∉A.r::A.o::A.gm::A.um::fo)(s:Sg){p b:AV}(ga:h.get a=some (.C [.str s.nm,.str s.ty,p,b,.Z,.N]))
 (pa:jH X h p 1 s.ps.length (s.ps.map .str)) (pb:jH X h b 1 s.pb.length (s.pb.map .bool)) (W:S.fs.length<=300):
 ∃H,aK env (h.set j (.D 1 [.P a])) 75 iX (.S j 1)=some (.S h.nx (S.fs.length+1),H)/\H.get A.o=h.get A.o/\H.get A.r=h.get A.r/\
  rI A {S with fs:=S.fs++[s]} gn un (h.nx::X) (fo++[a]) iP (.S h.nx (S.fs.length+1)) ov (H.set A.o (.C [A.tr,iP,.S h.nx (S.fs.length+1),.I 0]))/\Move X (h.nx::X) h (H.set A.o (.C [A.tr,iP,.S h.nx (S.fs.length+1),.I 0]))/\h.nx<=H.nx:=by
 obtain⟨n1,n2,n3,n4,n5,n6,n7⟩:=I.ne;have mv:Move [] [] h (h.set j (.D 1 [.P a])):=Move.new _ B;have u:bP (h.set j (.D 1 [.P a])):=λi hi=>by rw[ah.aM,ay (by simp at hi;omega)];exact I.fr i hi
 obtain⟨H,O,nx,g7,J⟩:=wG (st:=75) (e:=78) rfl ty78.1 ty78.2.1 dc ty78.2.2.2 (I.fa.move mv) (by simp[I.fl,W]) j a () sp u;simp only[ah.pj,List.length_map,I.fl]at O nx g7;have lo:A.o<h.nx:=I.xl _ (I.sup _ (by simp[PA.M]));have Z:A.o≠h.nx:=om
 have mk:∀X,(∀x∈A.o::aT iX,x∈X)->Move X X h (H.set A.o (.C [A.tr,iP,.S h.nx (S.fs.length+1),.I 0])):=λX P=>
  ((Move.new _ B).comp (Move.of u J (λz hz _=>P z (by simp[hz])) λ_ m=> .inl m)).comp (Move.on _ (P _ sp))
 have t:Move X (h.nx::X) h (H.set A.o (.C [A.tr,iP,.S h.nx (S.fs.length+1),.I 0])):=
  (mk _ λx f=>I.sup _ (by rcases ak.1 f with rfl|f<;>simp[PA.M, *])).to I.fr λy m=>by
   rcases ak.1 m with rfl|m
   ·exact .inr (ao _)
   ·exact .inl m
 have K:Move (A.o::(aT iP++aT iX)) [] h (H.set A.o (.C [A.tr,iP,.S h.nx (S.fs.length+1),.I 0])):=(mk _ λx f=>by rcases ak.1 f with rfl|f<;>simp[*]).to I.fr sp;obtain⟨v,gr,ov⟩:=I.r;have oo:H.get A.o=h.get A.o:=by
  rw[J.old A.o (U7 lo) λf=>(I.Ow (bw _ f)).2.1 rfl,ah.aM,ay]
  rintro rfl
  rw[I.o]at B;cases B
 have rr:H.get A.r=h.get A.r:=by
  rw[J.old A.r (aw I.fr gr) λf=>(I.Ow (bw _ f)).1 rfl,ah.aM,ay]
  rintro rfl
  rw[gr]at B;cases B
 have N:(H.set A.o (.C [A.tr,iP,.S h.nx (S.fs.length+1),.I 0])).get a=some (.C [.str s.nm,.str s.ty,p,b,.Z,.N]):=by
  refine((mk (A.o::aT iX) λ_ h=>h).aH a _ ga λf=>?_).1;rcases ak.1 f with rfl|f
  ·exact an sp
  ·rcases I.fa with⟨_,e⟩|⟨x,e,_,g⟩
   ·rw[e]at f;cases f
   ·rw[e]at f;simp[aT]at f;subst f;rw[g]at ga;simp at ga
 refine⟨H,O,oo,rr,⟨λi hi=>?_,λx f=>?_,λx f=>?_,?_,⟨v,I.PK K _ _ gr (.inl rfl),ov.move t⟩,sp,?_,?_,I.PK K _ _ I.gm (.inr (.inl rfl)),I.PK K _ _ I.um (.inr (.inr (.inl rfl))),?_,.inr ⟨h.nx,by simp[I.fl],sp,by simp[Z.symm];rw[g7];simp⟩,by simp[I.fl],λn R s' w C=>?_⟩,t,om⟩
 ·rw[ah.aM,ay (by have:=hi;rw[ah.pj]at this;omega)];exact J.fresh u i hi
 ·simp only[PA.M,ak,aP]at f;by_cases e:x=h.nx
  ·simp[e]
  ·refine au _ ?_;rcases f with e|e|e|e|e|e|e|e
   ·exact I.sup x (by simp[PA.M,e])
   ·exact I.sup x (by simp[PA.M,e])
   ·exact I.sup x (by simp[PA.M,e])
   ·exact I.sup x (by simp[PA.M,e])
   ·exact I.sup x (by simp[PA.M,e])
   ·simp[aT]at e;omega
   ·exact I.sup x (by simp[PA.M,e])
   ·rcases e with e|e
    ·rw[e];exact V
    ·cases e
 ·rcases ak.1 f with rfl|f
  ·simp;omega
  ·have:=I.xl x f;simp;omega
 ·have nd:=I.nd;have:A.r::A.o::A.gm::A.um::(fo++[a])=(A.r::A.o::A.gm::A.um::fo)++[a]:=by simp
  rw[this,List.nodup_append];refine⟨nd,sp,λx f y m e=>?_⟩;simp only[aQ]at m;subst m e;exact an f
 ·have:=I.Cm.move t IN;exact⟨this.Cm,this.tx⟩
 ·have:=I.fm.move t;exact⟨this.g,this.x⟩
 ·rcases I.ga with e|⟨b,e,hb,g⟩
  ·exact .inl e
  ·have D:b∈aT iP:=(by rw[e];simp[aT]);refine .inr ⟨b,e,hb,((mk (A.o::aT iX) λ_ h=>h).aH b _ g λf=>?_).1⟩;rcases ak.1 f with f|f
   ·exact(I.Ow (eJ _ D)).2.1 f
   ·exact I.IP D f
 ·rcases dJ n S.fs.length with F|F
  ·rw[cS F]at w;rw[cS (by rw[I.fl];exact F)]at C;obtain⟨p,b,g,a1,a2⟩:=I.fs n R s' w C;exact⟨p,b,I.PK K _ _ g (.inr (.inr (.inr (bg C)))),a1.move t,a2.move t⟩
  ·rw[du F]at w;rw[du (by rw[I.fl];exact F),I.fl]at C;obtain⟨e,rfl⟩:n-S.fs.length=0/\s=s':=by
    cases U:n-S.fs.length with
    |zero=>rw[U]at w;exact⟨rfl,U7 w⟩
    |succ k=>rw[U]at w;simp at w
   rw[e]at C;obtain rfl:a=R:=(U7 C);exact⟨p,b,N,pa.move t,pb.move t⟩
end
end
section
section
variable{A:PA}{S:Sc}{X fo:cB}{iP iX:AV}{d:Dn}{h:ah}{id:Nat}{p:Pl}{ty nm:bu}{Q:Out->ah->Prop}
theorem Ox(I:rI A S (S.gs.map Gl.nm) (S.fs.map Sg.nm) X fo iP iX d.over h)(it:rO X h id (.global p ty nm))(V:TL ty)(W:S.gs.length<=300)(hF:Fits S.es)(w:PD A X h Q (vc S (.global p ty nm) d)):
 ba env 52 [.P A.r,.P id] h Q:=by
 refine wb fn52 rfl ?_;have D:rO X h id (.global p ty nm):=it;obtain⟨g0,A5⟩:=it;obtain⟨v,gr,ov⟩:=I.r;simp only[PA.ob]at gr;have go:=I.o;have C:=I.gm;simp[f52,g0];refine Dd ?_;rcases rD nm (S.gs.map Gl.nm) 0 0 with⟨f1,f2⟩|⟨n,k,f1,f2⟩
 rotate_left
 ·have fc:(S.gs.map Gl.nm).contains nm=true:=by
   cases hc:(S.gs.map Gl.nm).contains nm with
   |true=>rfl
   |false=>rw[qN.2 hc]at f1;cases f1
  simp[gr,C,f2,g0];refine dm ?_;unfold vc at w;simp only[fc,Bool.not_true]at w;refine fI p false _ _ _ (λg _ k2=>?_) λ_ e _=>by cases e
  have k:=((aJ.refl h).bump _).trans k2;simp;exact w _ (Move.k I.fr k) (k.fresh I.fr)
 ·have fc:(S.gs.map Gl.nm).contains nm=false:=qN.1 f1;unfold vc at w;simp only[fc,jU,Rs.sM]at w;simp[gr,C,f2,g0];refine dm ?_;refine fI p true _ _ _ (λ_ e _=>by cases e) λg _ k2=>?_;have k:=((aJ.refl h).bump _).trans k2;obtain⟨t,m2⟩:=I.aH k;obtain⟨g2,Z⟩:=D.move m2;have n2:=k.nx;clear k k2 gr C go ov;obtain⟨v2,gr,ov⟩:=t.r;simp only[PA.ob]at gr;have go:=t.o;have C:=t.gm;obtain⟨ab,u⟩:∃ab,iP= .slice ab S.gs.length:=by
   rcases I.ga with⟨e,_,e3⟩|⟨b,e,_⟩
   ·exact⟨none,by rw[e3,e]⟩
   ·exact⟨_,e⟩
  rw[u]at go;obtain⟨q1,q2,q3,q4,q5,q6,q7⟩:=I.ne;have q8:id≠A.gm:=λe=>Z (by rw[e];exact I.sup _ (by simp[PA.M]));simp;refine Dd ?_;simp[gr,C,f2,g2,go];refine dl ?_;have ei:eW (S.gs.map Gl.nm++[nm]) 0=eW (S.gs.map Gl.nm) 0++[(.str nm,.I S.gs.length)]:=by rw[xN];simp
  have S3:∀k,rI A S (S.gs.map Gl.nm++[nm]) (S.fs.map Sg.nm) X fo iP iX d.over ((g.bump k).set A.gm (.map (eW (S.gs.map Gl.nm) 0++[(.str nm,.I S.gs.length)])))/\Move X X g ((g.bump k).set A.gm (.map (eW (S.gs.map Gl.nm) 0++[(.str nm,.I S.gs.length)]))):=λk=>by
   obtain⟨Ik,mk⟩:=t.aH ((aJ.refl g).bump k);have m:=mk.comp (Move.on (h:=g.bump k) (.map (eW (S.gs.map Gl.nm) 0++[(.str nm,.I S.gs.length)])) (I.sup A.gm (by simp[PA.M])));have old:∀i,i≠A.gm->((g.bump k).set A.gm (.map (eW (S.gs.map Gl.nm) 0++[(.str nm,.I S.gs.length)]))).get i=g.get i:=λi hi=>by rw[ah.aM,ay hi];rfl
   refine⟨t.nx m (λj hj=>?_) sp (λa ha _ W _=>old a W) ⟨v2,by rw[old _ q2];exact gr,ov.move m⟩ (by simp[ei]) (by rw[old _ q6.symm];exact t.um),m⟩;rw[old j (λe=>by have:=t.xl A.gm (t.sup _ (by simp[PA.M]));simp at hj;omega)];exact t.fr j (by simp at hj;omega)
  refine Dd ?_;simp[gr,g2,go,q2,q4,q8];refine dm ?_;have P:=λa b=>((S3 a).1.aH ((aJ.refl _).bump b))
  refine(P _ _).1.LZ _ p _ λR y k4=>?_;have m4:=(((m2.comp (S3 _).2).comp (P _ _).2).comp ((P _ _).1.T9 k4))
  have Au:g.nx<=R.nx:=bh (bh (pJ _ _) (pJ _ _)) k4.nx;clear k4;have eb:decide ((S.gs.length:Int)<200)=decide (S.gs.length<200):=decide_eq_decide.2 om;rw[eb]at y;clear P S3 gr C go ov;obtain⟨g4,A1⟩:=D.move m4;obtain⟨v4,gr,ov⟩:=y.r;simp only[PA.ob]at gr;have go:=y.o;have go':=go;rw[u]at go';generalize C1:d.nz (decide (S.gs.length<200)) p=d4 at*;simp;refine dl ?_;refine Dd ?_;simp[gr,g4,go'];refine dl ?_;have U:=λa=>y.aH ((aJ.refl R).bump a);refine(U _).1.size (d:=d4) hF ty (by unfold TL dW at V;omega) p _ ?_;generalize Cj S ty p d4=z at w⊢;cases z with
  |err q=>
   exact λh5 m5 f5=>⟨dc,λ_=>by simpa using w _ ((m4.comp (U _).2).comp m5) f5⟩
  |ok n d5=>
   intro h5 I5 F;obtain⟨v5,J,C2⟩:=I5.r;simp only[PA.ob]at J;have K:=I5.o;have N:=K;rw[u]at N;have g5:=(F.old id (by have:=aw y.fr g4;simp;omega) (by have:id≠A.r:=λe=>A1 (by rw[e];exact I.sup _ (by simp[PA.M]));simpa using this)).trans g4;have f5:h5.get (R.nx+30)=none:=by
    have lr:=y.xl A.r (y.sup _ (by simp[PA.M]));rw[F.old _ sp IN];exact y.fr _ om
   have A2:R.nx+30<h5.nx:=(by have:=F.nx;simp at this;omega);obtain⟨H6,B,O,A3,I6,m6,n6⟩:=I5.Ua f5 A2 ⟨nm,ty,n⟩ W;rw[u]at B;rw[K]at O;have A4:=F.nx;simp[-aK,f5];refine dl ?_;simp only[]at B;rw[B];simp[-aK,O];rw[J]at A3;refine dl ?_;have m7:=(((m4.comp (U 35).2).comp ((U 35).1.T9 F)).comp m6)
   exact w _ _ _ _ _ (U7 I6) (λx hx=>au _ hx) m7 (by simp at A4⊢;omega)
end
end
section
theorem Ef:∀l:List Pm,(l.flatMap Pm.cells).length=l.length*5
 |[]=>rfl
 |p::ps=>by
  have:=Ef ps;simp only[dy,aO,ai,Pm.cells,aW]at this⊢;omega
theorem Hr:∀(fs:List Pm)(i:Nat)(f:Pm),fs[i]?=some f->List.take 5 (List.drop (i*5) (fs.flatMap Pm.cells))=f.cells
 |[],i,f,h=>by simp at h
 |p::ps,0,f,h=>by
  simp only[cw,bj]at h;subst h;simp[Pm.cells]
 |p::ps,i+1,f,h=>by
  have:=Hr ps i f (U7 h);rw[show(i+1)*5=i*5+1+1+1+1+1 by omega];simpa[Pm.cells]using this
theorem FU{st e:TypeId}{f:Nat}{z:eu}(hu:env.nv st=some (.slice e))(o:env.siz e=some 1)(t:env.byt e=some f)(i:f<=100)(u:env.zer e=some z)(m:z.length=1){a:ah}(k j:Nat){av:AV}{n:Nat}{cs:eu}(arr:cu [] a av 1 n cs)(D:cs.length=n)(v:n<=300)
 (x:AV) (w:[x].all AV.scalar=true) (fr:bP a) (y:a.nx<=j) (B:j<a.nx+k):
 ∃H,aK env ((a.bump k).set j (.D 1 [x])) st av (.S j 1)=some (.S (a.nx+k) (n+1),H)/\H.nx=a.nx+k+1/\H.get (a.nx+k)=some (.D 1 (cs++[x]))/\aR (aT av) a H:=by
 have K:aJ a ((a.bump k).set j (.D 1 [x])):=aJ.set _ y (U7 B) ((aJ.refl a).bump k);obtain⟨H,C,nx,g,kx⟩:=oW (es:=0) hu o t i u m (arr.move (Move.k fr K)) om v j [x] rfl w sp (K.fresh fr);exact⟨H,C,U7 nx,U7 g,(K.x _).trans kx⟩
theorem aJ.kx{a b c:ah}{Z:cB}(k:aJ a b)(x:aR Z b c)(e:∀z∈Z,a.nx<=z):aJ a c:=
 ⟨bh k.nx x.nx,λi hi=>(x.old i (aq hi k.nx) λhm=>by have:=e i hm;omega).trans (k.old i hi),λf=>x.fresh (k.fresh f)⟩
theorem cu.len{X:cB}{h:ah}{av:AV}{es n:Nat}{cs:eu}(a:cu X h av es n cs):∃f,av= .slice f n:=by
 rcases a with⟨e,_,e3⟩|⟨b,e,_⟩
 ·exact⟨none,by rw[e3,e]⟩
 ·exact⟨_,e⟩
section
variable{A:PA}{S:Sc}{X fo:cB}{iP iX:AV}{d:Dn}{h:ah}{id:Nat}{p:Pl}{ty nm:bu}{ps:List Pm}{b:Sm}{Q:Out->ah->Prop}
theorem Oy(I:rI A S (S.gs.map Gl.nm) (S.fs.map Sg.nm) X fo iP iX d.over h)(it:rO X h id (.func p ty nm ps b))(HE:TL ty)(HG:∀q∈ps,TL q.ty)(hn:ps.length<=300)(hg:S.fs.length<=300)(hF:Fits S.es)(D:PD A X h Q (vc S (.func p ty nm ps b) d)):
 ba env 52 [.P A.r,.P id] h Q:=by
 refine wb fn52 rfl ?_;have C8:rO X h id (.func p ty nm ps b):=it;obtain⟨Lj,Lk,g0,HP,Lp,_⟩:=it;obtain⟨v,gr,ov⟩:=I.r;simp only[PA.ob]at gr;have go:=I.o;have gu:=I.um;have hl:ty.length<=100000:=by unfold TL dW at HE;omega
 simp[f52,g0];generalize A3:(S.fs.map Sg.nm).contains nm=co at*;refine rW (Q:=λx st=>x= .kj/\∃rg,st=⟨rg,238,h.bump 14,[],false⟩/\rg.get 0=some (.P A.r)/\rg.get 1=some (.P id)/\rg.get 7=some (.bool co)) ?_ ?_;rotate_left
 ·refine Dd ?_;rcases rD nm (S.fs.map Sg.nm) 0 0 with⟨f1,f2⟩|⟨n,k,f1,f2⟩
  ·obtain rfl:co=false:=(by rw[<-A3];exact qN.1 f1);simp[gr,gu,f2,g0]
  ·obtain rfl:co=true:=by
    rw[<-A3];cases hc:(S.fs.map Sg.nm).contains nm with
    |true=>rfl
    |false=>rw[qN.2 hc]at f1;cases f1
   simp[gr,gu,f2,g0]
 rintro x st ⟨rfl,rg,rfl,r0,K,r7⟩
 have KB:=(aJ.refl h).bump 14;obtain⟨IB,mB⟩:=I.aH KB;have gB:(h.bump 14).get id=_:=g0;have nB:=KB.nx;generalize h.bump 14=hb at*;simp;simp only[vc,A3]at D;generalize A4:(!co&&(ty==[118,111,105,100]||sN S ty))=ok at*;obtain⟨R,hR⟩:∃R:bT->St->Prop,R=(λx st=>∃u rg,aJ hb u/\st=⟨rg,238,u,[],false⟩/\((x= .kj/\ok=true/\rg.get 0=some (.P A.r)/\rg.get 1=some (.P id))\/(x= .jz (xX p)/\ok=false))):=⟨_,rfl⟩
 refine rW (Q:=R) ?_ ?_;rotate_left
 ·refine eF [0,1,2,3,4,5,6,7,8,9,10,11,12,13,14,18,19,20,21,15,16,17,22] kr (by simp[cz,dG];rfl) kr ?_;have fin:∀(k:Nat)(h1:ah)(Q2:Out->ah->Prop),aJ hb h1->(∀u,ok=false->aJ hb u->Q2 (.jz (xX p)) u)->(∀u,ok=true->aJ hb u->Q2 (.ret (.iO [])) u)->ba env 53 [.P A.r,.bool ok,.agg [.I p.1,.I p.2]] h1 Q2:=λk h1 Q2 k1 q1 q2=>
   fI p ok _ _ _ (λu e k2=>q1 u e (k1.trans k2)) λu e k2=>q2 u e (k1.trans k2)
  cases co with
  |true=>
   obtain rfl:ok=false:=(by rw[<-A4];rfl);simp[r0,K,r7,gB];refine dl ?_;refine fin 0 _ _ kT (λu e k2=>?_) λu e k2=>by cases e
   exact⟨dc,λ_=>by rw[hR];exact⟨_,_,k2,rfl,.inr ⟨rfl,rfl⟩⟩⟩
  |false=>
   by_cases hv:ty=[118,111,105,100]
   ·obtain rfl:ok=true:=(by rw[<-A4,hv];rfl);simp[r0,K,r7,gB,hv];refine dl ?_;refine fin 0 _ _ kT (λu e k2=>by cases e) λu _ k2=>?_;simp;refine dl ?_;rw[hR];exact⟨_,_,k2,rfl,.inl ⟨rfl,rfl,by simp[r0],by simp[K]⟩⟩
   ·have C9:(ty==[118,111,105,100])=false:=az.2 hv;obtain rfl:sN S ty=ok:=(by rw[<-A4,C9];simp);simp[r0,K,r7,gB,C9];refine dl ?_;refine(IB.aH ((aJ.refl _).bump _)).1.scalar ty hl _ λh1 k1=>?_;have CL:=((aJ.refl hb).bump _).trans k1;have g1:=(CL.old _ (aw IB.fr gB)).trans gB;simp;refine dl ?_;refine fin 0 _ _ CL (λu e k2=>?_) λu e k2=>?_
    ·exact⟨dc,λ_=>by rw[hR];exact⟨_,_,k2,rfl,.inr ⟨rfl,e⟩⟩⟩
    ·simp;refine dl ?_;rw[hR];exact⟨_,_,k2,rfl,.inl ⟨rfl,e,by simp[r0],by simp[K]⟩⟩
 clear gr go gu ov g0 HP r0 K r7 rg;rw[hR]
 rintro x st ⟨u,rg,k2,rfl,⟨rfl,rfl,r0,K⟩|⟨rfl,rfl⟩⟩
 rotate_left
 ·simp;exact D _ (mB.comp (Move.k IB.fr k2)) (k2.fresh IB.fr)
 simp;obtain⟨U,m2⟩:=IB.aH k2;replace m2:=mB.comp m2;have n2:h.nx<=u.nx:=bh nB k2.nx;clear k2 IB mB nB gB KB;simp only[Rs.sM]at D;obtain⟨Kc,L0,g2,F0,HU,_⟩:=C8.move m2;obtain⟨v2,gr,ov⟩:=U.r;simp only[PA.ob]at gr;have go:=U.o;have gu:=U.um;obtain⟨q1,q2,q3,q4,q5,q6,q7⟩:=U.ne;obtain⟨ab,C2⟩:∃ab,iX= .slice ab S.fs.length:=by
  have:=U.fl;rcases U.fa with⟨e,e3⟩|⟨b,e,_⟩
  ·have:fo=[]:=(U7 e);exact⟨none,by rw[e3,<-U.fl,this];rfl⟩
  ·exact⟨some (b,0),by rw[e,<-U.fl];simp⟩
 rw[C2]at go;have q8:id≠A.um:=λe=>F0 (by rw[e];exact I.sup _ (by simp[PA.M]));have f2:co=false:=by cases co with
  |true=>cases A4
  |false=>rfl
 have f3:∀H,eD H (.str nm) (eW (S.fs.map Sg.nm) 0) 0=some none:=by
  rcases rD nm (S.fs.map Sg.nm) 0 0 with⟨_,f⟩|⟨n,k,f1,_⟩
  ·exact f
  ·rw[qN.2 (A3.trans f2)]at f1;cases f1
 refine Dd ?_;simp[gr,gu,f3,g2,go,r0,K];refine dl ?_;have ei:eW (S.fs.map Sg.nm++[nm]) 0=eW (S.fs.map Sg.nm) 0++[(.str nm,.I S.fs.length)]:=by rw[xN];simp
 have S3:∀k,rI A S (S.gs.map Gl.nm) (S.fs.map Sg.nm++[nm]) X fo iP iX d.over ((u.bump k).set A.um (.map (eW (S.fs.map Sg.nm) 0++[(.str nm,.I S.fs.length)])))/\Move X X u ((u.bump k).set A.um (.map (eW (S.fs.map Sg.nm) 0++[(.str nm,.I S.fs.length)]))):=λk=>by
  obtain⟨Ik,mk⟩:=U.aH ((aJ.refl u).bump k);have m:=mk.comp (Move.on (h:=u.bump k) (.map (eW (S.fs.map Sg.nm) 0++[(.str nm,.I S.fs.length)])) (I.sup A.um (by simp[PA.M])));have old:∀i,i≠A.um->((u.bump k).set A.um (.map (eW (S.fs.map Sg.nm) 0++[(.str nm,.I S.fs.length)]))).get i=u.get i:=λi hi=>by rw[ah.aM,ay hi];rfl
  refine⟨U.nx m (λj hj=>?_) sp (λa ha _ _ hu=>old a hu) ⟨v2,by rw[old _ q3];exact gr,ov.move m⟩ (by rw[old _ q6];exact U.gm) (by simp[ei]),m⟩;rw[old j (λe=>by have:=U.xl A.um (U.sup _ (by simp[PA.M]));simp at hj;omega)];exact U.fr j (by simp at hj;omega)
 obtain⟨w,A5⟩:∃w,w=(u.bump 17).set A.um (.map (eW (S.fs.map Sg.nm) 0++[(.str nm,.I S.fs.length)])):=⟨_,rfl⟩
 obtain⟨B,m3⟩:=S3 17;rw[<-A5]at B m3;have n3:u.nx<=w.nx:=by rw[A5];simp
 replace m3:=m2.comp m3;rw[<-A5];clear A5 S3 gr go gu ov g2 F0 HU q8;obtain⟨pv,L1,g3,HZ,F1,_⟩:=C8.move m3;refine Dd ?_;have f10:w.get (w.nx+10)=none:=B.fr _ om;have ni:id≠w.nx+10:=by have:=aw B.fr g3;omega
 have W:∃ab,pv= .slice ab ps.length:=by
  rcases F1 with⟨e,_,e3⟩|⟨b,e,_⟩
  ·exact⟨none,by rw[e3,e]⟩
  ·exact⟨_,e⟩
 obtain⟨F2,W⟩:=W;have F3:=g3;rw[W]at F3;simp[K,F3,f10,ni];refine dl ?_;obtain⟨a,F4⟩:∃a,a=w.nx+10:=⟨_,rfl⟩
 have K4:∀k,11<=k->aJ w ((w.bump k).set (w.nx+10) (.C [.str nm,.str ty,.Z,.Z,.Z,.N])):=λk hk=>aJ.set _ om IN ((aJ.refl w).bump k);obtain⟨J,hJ⟩:∃J:Nat->St->Prop,J=(λm x=>∃(i:Nat)(N bv:AV),i<=ps.length/\m=ps.length-i/\x.n=238/\x.ds=[]/\x.bX=false/\aJ w x.h/\x.h.get a=some (.C [.str nm,.str ty,N,bv,.Z,.N])/\
  cu [] x.h N 1 i ((ps.take i).map λq=> .str q.ty)/\cu [] x.h bv 1 i ((ps.take i).map λq=> .bool q.AR)/\(∀y∈aT N,w.nx<=y/\y≠a/\y∉aT bv)/\(∀y∈aT bv,w.nx<=y/\y≠a)/\
  PD A X h Q ((zx S (ps.drop i) d).bind λ_ d=> .ok {S with fs:=S.fs++[Pm.sg nm ty ps]} (d.nz (decide (ps.length<=6)) p))/\
  x.rg.get 0=some (.P A.r)/\x.rg.get 1=some (.P id)/\x.rg.get 8=some (.P a)/\x.rg.get 169=some (.slice F2 ps.length)/\x.rg.get 170=some (.I ps.length)/\x.rg.get 171=some (.I i)):=⟨_,rfl⟩
 refine bz J ps.length ?_ ?_
 ·rw[hJ];exact⟨0,.Z,.Z,bJ _,rfl,rfl,rfl,rfl,K4 _ om,by simp[F4],.inl ⟨rfl,rfl,rfl⟩,.inl ⟨rfl,rfl,rfl⟩,by simp[aT],by simp[aT],D,by simp[r0],by simp[K],by simp[F4],sp,sp,sp⟩
 clear D r0 K;intro m x t;rw[hJ]at t;obtain⟨rg,n',H,ds,bX⟩:=x;obtain⟨i,N,bv,hi,rfl,e1,e2,e3,kH,ga,A1,Au,ap,ab,D,r0,K,r8,rl,rn,ri⟩:=t;dsimp only at e1 e2 e3 kH ga A1 Au r0 K r8 rl rn ri;subst e1 e2 e3;obtain⟨IH,mH⟩:=B.aH kH;have gH:=(kH.old _ (aw B.fr g3)).trans g3;by_cases C:i<ps.length
 ·have F5:(i:Int)<(ps.length:Int):=by omega
  have wi:=U8 i
  obtain⟨b0,rfl,F6⟩:∃b,F2=some (b,0)/\w.get b=some (.D 5 (ps.flatMap Pm.cells)):=by
   rcases F1 with⟨e,_⟩|⟨b,e,hb,g⟩
   ·omega
   ·rw[e]at W;injection W with e _;exact⟨b,e.symm,g⟩
  have Hc:=(kH.old _ (aw B.fr F6)).trans F6;have fa:=Hr ps i ps[i] (aj C);have fb:i*5+5<=(ps.flatMap Pm.cells).length:=by rw[Ef];omega
  have I0:ps.drop i=ps[i]::ps.drop (i+1):=bs C;have F7:=bk C;have I1:=aj C;generalize ps[i]=q at*;generalize ps.flatMap Pm.cells=F at*;simp only[Pm.cells]at fa;have nH:=kH.nx;have na:a≠H.nx:=by have:=aw IH.fr ga;omega
  simp[rl,rn,ri,F5,Hc,fa,fb];have K5:aJ w ((H.alloc (.C [.I 0,.I 0,.bool false,.str [],.str []])).2.set H.nx (.C [.I q.p.1,.I q.p.2,.bool q.AR,.str q.ty,.str q.nm])):=kT;have FF:aJ H ((H.alloc (.C [.I 0,.I 0,.bool false,.str [],.str []])).2.set H.nx (.C [.I q.p.1,.I q.p.2,.bool q.AR,.str q.ty,.str q.nm])):=kT;have gq:((H.alloc (.C [.I 0,.I 0,.bool false,.str [],.str []])).2.set H.nx (.C [.I q.p.1,.I q.p.2,.bool q.AR,.str q.ty,.str q.nm])).get H.nx=some (.C [.I q.p.1,.I q.p.2,.bool q.AR,.str q.ty,.str q.nm]):=by simp
  obtain⟨H5,FO⟩:∃H5,H5=((H.alloc (.C [.I 0,.I 0,.bool false,.str [],.str []])).2.set H.nx (.C [.I q.p.1,.I q.p.2,.bool q.AR,.str q.ty,.str q.nm])):=⟨_,rfl⟩
  rw[<-FO]at K5 FF gq;obtain⟨I5,m5⟩:=B.aH K5;rw[I0]at D;simp only[zx]at D;have J2:q.ty.length<=100000:=by have:=HG q F7;unfold TL dW at this;omega
  rw[<-FO];refine eF [0,1,2,3,5,6,4,7] kr (by simp[cz,dG];rfl) kr ?_;simp[r0,gq];refine dl ?_;refine(I5.aH ((aJ.refl _).bump _)).1.scalar q.ty J2 _ λh6 k6=>?_;have K6:=((aJ.refl H5).bump _).trans k6;have Lq:=(K6.old _ (aw I5.fr gq)).trans gq;simp;refine dl ?_;refine fI q.p _ _ _ _ (λV e k7=>?_) λV e k7=>?_
  ·rw[e]at D;have A2:=(K5.trans K6).trans k7;exact⟨dc,λ_=>by simpa using D _ (m3.comp (Move.k B.fr A2)) (A2.fresh B.fr)⟩
  ·rw[e]at D;simp only[Rs.sM]at D;have A2:=(K5.trans K6).trans k7;have C3:=(FF.trans K6).trans k7;have g7:=(C3.old _ (aw IH.fr ga)).trans ga;have C4:=((K6.trans k7).old _ (aw I5.fr gq)).trans gq;simp;refine dl ?_;have FP:=A1.move (X:=[]) (Y:=[]) (Move.k IH.fr C3);have FQ:=Au.move (X:=[]) (Y:=[]) (Move.k IH.fr C3);have Z:=A2.fresh B.fr;have la:a<V.nx:=aw Z g7;have lq:H.nx<V.nx:=aw Z C4;have aa:w.nx<=a:=om;refine Dd ?_;have f8:V.get (V.nx+8)=none:=Z _ om;have Lt:a≠V.nx+8:=om;have FW:H.nx≠V.nx+8:=om;obtain⟨H8,G2,M1,g8,k8⟩:=FU (st:=46) (e:=9) rfl ty9.1 ty9.2.1 dc ty9.2.2.2 rfl 14 (V.nx+8) FP IN om (.str q.ty) sp Z om om;obtain⟨M3,G3⟩:=FP.len;rw[G3]at g7 G2;simp[-aK,r8,g7,C4,f8];have y1:=FW.symm;refine dl ?_;rw[G2];have J3:=(k8.old a la λt=>(ap a t).2.1 rfl).trans g7;have K0:H.nx∉aT N:=λt=>by
    rcases A1 with⟨_,_,e⟩|⟨x,e,_,g⟩
    ·rw[e]at t;cases t
    ·rw[e]at t;simp[aT]at t;subst t;have:=aw IH.fr g;omega
   have K1:=(k8.old _ lq K0).trans C4;simp[-aK,J3];have y1:=FW.symm;refine dl ?_;obtain⟨O,P⟩:∃O,O=H8.set a (.C [.str nm,.str ty,.S (V.nx+14) (i+1),bv,.Z,.N]):=⟨_,rfl⟩
   rw[<-P];have K2:aJ w H8:=A2.kx k8 λz hz=>(ap z hz).1;have G4:aJ w O:=(by rw[P];exact aJ.set _ aa om K2);have g9:O.get a=some (.C [.str nm,.str ty,.S (V.nx+14) (i+1),bv,.Z,.N]):=(by rw[P];simp);have K3:O.get H.nx=some (.C [.I q.p.1,.I q.p.2,.bool q.AR,.str q.ty,.str q.nm]):=(by rw[P,ah.aM,ay (iV na)];exact K1);have G5:=G4.fresh B.fr;have n9:O.nx=V.nx+15:=(by rw[P];simp;omega);have K7:cu [] O (.S (V.nx+14) (i+1)) 1 (i+1) ((ps.take i).map (λq=> .str q.ty)++[.str q.ty]):= .inr ⟨_,rfl,sp,by rw[P,ah.aM,ay om];exact g8⟩;have GL:cu [] O bv 1 i ((ps.take i).map λq=> .bool q.AR):=by
    rcases FQ with e|⟨x,e,t,g⟩
    ·exact .inl e
    ·have hb:x∈aT bv:=(by rw[e];simp[aT]);exact .inr ⟨x,e,t,by rw[P,ah.aM,ay (ab x hb).2,k8.old x (aw Z g) λt=>(ap x t).2.2 hb];exact g⟩
   refine Dd ?_;have f9:O.get (O.nx+8)=none:=G5 _ om;have M4:a≠O.nx+8:=om;have Gq:H.nx≠O.nx+8:=om;obtain⟨H2,C1,Li,g10,C5⟩:=FU (st:=47) (e:=4) rfl ty4.1 ty4.2.1 dc ty4.2.2.2 rfl 14 (O.nx+8) GL IN om (.bool q.AR) sp G5 om om;obtain⟨M5,H3⟩:=GL.len;rw[H3]at g9 C1;simp[-aK,r8,g9,K3,f9];have y1:=Gq.symm;refine dl ?_;rw[C1];have H4:=(C5.old a om λt=>(ab a t).2 rfl).trans g9;simp[-aK,H4];have y1:=Gq.symm;refine dl ?_;simp[ri,wi];have H7:aJ w H2:=G4.kx C5 λz hz=>(ab z hz).1;have H9:aJ w (H2.set a (.C [.str nm,.str ty,.S (V.nx+14) (i+1),.S (O.nx+14) (i+1),.Z,.N])):=aJ.set _ aa om H7;have tk:∀f:Pm->AV,(ps.take (i+1)).map f=(ps.take i).map f++[f q]:=λf=>by
    rw[cy,I1];simp
   refine⟨ps.length-(i+1),om,?_⟩;rw[hJ];refine⟨i+1,.S (V.nx+14) (i+1),.S (O.nx+14) (i+1),C,rfl,rfl,rfl,rfl,H9,sp,?_,.inr ⟨_,rfl,sp,?_⟩,?_,?_,D,by simp[r0],by simp[K],by simp[r8],by simp[rl],by simp[rn],sp⟩
   ·rw[tk];refine .inr ⟨_,rfl,sp,?_⟩;rw[ah.aM,ay om,C5.old _ om]
    ·rcases K7 with⟨e,_⟩|⟨x,e,_,g⟩
     ·omega
     ·injection e with e _;injection e with e;injection e with e _;subst e;exact g
    ·intro t;rcases FQ with⟨_,_,e⟩|⟨x,e,_,g⟩
     ·rw[e]at t;cases t
     ·rw[e]at t;simp[aT]at t;have:=aw Z g;omega
   ·rw[tk,ah.aM,ay om];exact g10
   ·intro y hy;simp only[aT,aQ]at hy⊢;subst hy;exact⟨om,om,om⟩
   ·intro y hy;simp only[aT,aQ]at hy;subst hy;exact⟨om,om⟩
 ·have K8:i=ps.length:=by omega
  subst K8;rw[cF]at A1 Au;rw[dV]at D;simp only[zx,Rs.fP]at D;simp[rn,ri];refine Dd ?_;rw[W]at gH;simp[r0,K,gH];refine dl ?_;have eb:decide ((ps.length:Int)<=6)=decide (ps.length<=6):=decide_eq_decide.2 om;have nH:=kH.nx;have KA:=aw IH.fr ga;obtain⟨Ia,ma⟩:=B.more kH (a:=a) om KA;have IB:=λk=>Ia.aH ((aJ.refl H).bump k);have KC:a≠A.r:=λe=>by have:=B.xl A.r (B.sup _ (by simp[PA.M]));omega
  have M6:id≠A.r:=λe=>HZ (by rw[e];exact B.sup _ (by simp[PA.M]));refine(IB _).1.LZ _ p _ λh4 I4 k4=>?_;rw[eb]at I4;have KF:=(k4.old a IN (U7 KC)).trans ga;have HA:∀(av:AV)(cs:eu),cu [] H av 1 ps.length cs->(∀y∈aT av,w.nx<=y/\y≠a)->jH (a::X) h4 av 1 ps.length cs:=λav cs ha hy=>by
   rcases ha with e|⟨b,e,_,g⟩
   ·exact .inl e
   ·obtain⟨y1,y2⟩:=hy b (by rw[e];simp[aT]);have t:∀x∈X,x≠b:=λx t e=>by have:=B.xl x t;omega
    refine .inr ⟨b,true,e,λhm=>?_,?_⟩
    ·rcases ak.1 hm with rfl|hm
     ·exact y2 rfl
     ·exact t b hm rfl
    ·have nb:b≠A.r:=λe=>t A.r (B.sup _ (by simp[PA.M])) e.symm;rw[k4.old b (by have:=aw IH.fr g;simp;omega) (U7 nb)];exact g
  simp;refine dl ?_;refine Dd ?_;obtain⟨v4,gr,ov⟩:=I4.r;simp only[PA.ob]at gr;have go:=I4.o;rw[C2]at go;have f12:h4.get (h4.nx+12)=none:=I4.fr _ om;obtain⟨KH,C6⟩:=I4.aH ((aJ.refl h4).bump 17);have q9:a∉A.r::A.o::A.gm::A.um::fo:=λt=>by
   have KK:a∈X:=B.sup a (by
    simp only[PA.M,ak,aP]at t⊢;rcases t with e|e|e|e|e
    ·exact .inl e
    ·exact .inr (.inl e)
    ·exact .inr (.inr (.inl e))
    ·exact .inr (.inr (.inr (.inl e)))
    ·exact .inr (.inr (.inr (.inr (.inr (.inr e))))))
   have:=B.xl a KK;omega
  have px:=HA N _ A1 λy hy=>⟨(ap y hy).1,(ap y hy).2.1⟩
  have bx:=HA bv _ Au ab;obtain⟨H6,C7,KL,KT,I6,m6,n6⟩:=KH.Ub (j:=h4.nx+12) f12 sp (a:=a) sp q9 (Pm.sg nm ty ps) (p:=N) (b:=bv) KF (by simpa[Pm.sg,jo]using px.move C6) (by simpa[Pm.sg,jo]using bx.move C6) hg;rw[C2]at C7;simp only[ah.jF]at C7;simp[-aK,r0,r8,gr,go,f12];refine dl ?_;rw[C7];have HC:H6.get A.o=h4.get A.o:=KL;have KX:H6.get A.r=h4.get A.r:=KT;rw[go]at HC;rw[gr]at KX;simp[-aK,HC];refine dl ?_;have mm:=((((m3.comp ma).comp (IB 12).2).comp ((IB 12).1.T9 k4)).comp C6).comp m6;refine D _ _ _ _ _ (by simpa[Pm.sg]using I6) (λx t=>au _ (au _ t)) mm ?_;have:=k4.nx;simp at this n6⊢;omega
end
end
section
section
variable{A:PA}{S:Sc}{X fo:cB}{iP iX:AV}{d:Dn}{h:ah}{id:Nat}{i:It}{Q:Out->ah->Prop}
theorem JU(I:rI A S (S.gs.map Gl.nm) (S.fs.map Sg.nm) X fo iP iX d.over h)(it:rO X h id i)(hi:i.al PT)(hw:i.wt<=250)(j:S.gs.length<=300)(a:S.fs.length<=300)(g:Fits S.es)(e:PD A X h Q (vc S i d)):
 ba env 52 [.P A.r,.P id] h Q:=by
 cases i with
 |global p ty nm=>exact Ox I it hi.2 j g e
 |func p ty nm ps b=>exact Oy I it hi.2.1 (λq m=>(hi.2.2.1 q m).2) (by simp only[It.wt]at hw;omega) a g e
 |struct p nm fs=>
  obtain⟨fv,g0,o,_⟩:=it;refine wb fn52 rfl ?_;simp[f52,g0];exact e X fo iP iX h I (λ_ h=>h) (Move.refl _ _) (ao _)
end
def AD:List It->List Sg
 |[]=>[]
 | .struct _ _ _::r=>AD r
 | .global _ _ _::r=>AD r
 | .func _ ty nm ps _::r=>Pm.sg nm ty ps::AD r
theorem sk:∀(a b:nj),AD (a++b)=AD a++AD b
 |[],b=>rfl
 | .struct p nm fs::r,b=>by simp[AD,sk r b]
 | .global _ _ _::r,b=>by simp[AD,sk r b]
 | .func _ _ _ _ _::r,b=>by simp[AD,sk r b]
structure SY(S:Sc):Prop where
 g:∀g∈S.gs,g.ty.length<=dW
 f:∀g∈S.fs,g.ty.length<=dW/\g.ps.length<=300/\∀t∈g.ps,t.length<=dW
structure FV(S S':Sc)(l:List It):Prop where
 N:S'.N=S.N
 es:S'.es=S.es
 fm:S'.fm=S.fm
 gl:S'.gs.length<=S.gs.length+l.length
 fs:S'.fs=S.fs++AD l
 ok:SY S'
theorem Oz{S:Sc}{i:It}(d:Dn)(hi:i.al PT)(hw:i.wt<=250)(e:SY S):(vc S i d).H (λS' _=>FV S S' [i]) λ_=>True:=by
 cases i with
 |struct p nm fs=>exact⟨rfl,rfl,rfl,sp,by simp[AD],e⟩
 |global p ty nm=>
  refine Rs.cG trivial λ_=>?_;unfold Cj;refine Rs.bq (V:=λ_ _=>True) (Rs.cG trivial λ_=>trivial) λn d' _=>?_;refine⟨rfl,rfl,rfl,sp,by simp[AD],⟨λg a=>?_,e.f⟩⟩;rcases aP.1 a with a|a
  ·exact e.g g a
  ·simp only[aQ]at a;subst a;exact hi.2
 |func p ty nm ps b=>
  refine Rs.cG trivial λ_=>?_;refine Rs.bq (V:=λ_ _=>True) ?_ λn d' _=>?_
  ·have key:∀(ps:List Pm)(d:Dn),(zx S ps d).H (λ_ _=>True) λ_=>True:=λps=>by
    induction ps with
    |nil=>intro d;trivial
    |cons q l j=>intro d;exact Rs.cG trivial λ_=>j d
   exact key ps d
  ·refine⟨rfl,rfl,rfl,sp,by simp[AD],⟨e.g,λg a=>?_⟩⟩;rcases aP.1 a with a|a
   ·exact e.f g a
   ·simp only[aQ]at a;subst a;simp only[It.wt]at hw;refine⟨hi.2.1,by simp[Pm.sg];omega,λt ht=>?_⟩;simp only[Pm.sg,pI]at ht;obtain⟨q,m,rfl⟩:=ht;exact(hi.2.2.1 q m).2
theorem FV.trans{S S' e:Sc}{a b:nj}(x:FV S S' a)(y:FV S' e b):FV S e (a++b):=
 ⟨y.N.trans x.N,y.es.trans x.es,y.fm.trans x.fm,by have:=x.gl;have:=y.gl;simp;omega,by rw[y.fs,x.fs,sk];simp,y.ok⟩
end
end Go.Proofs.YtaekaifihehgdaaGreatDoor
