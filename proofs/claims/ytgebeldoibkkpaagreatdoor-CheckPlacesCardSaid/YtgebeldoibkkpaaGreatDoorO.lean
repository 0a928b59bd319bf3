/- Lemmas for CheckPlaces; each states its own conditions. -/
import Derived.Test.YtgebeldoibkkpaaGreatDoorN
set_option maxRecDepth 100000
set_option maxHeartbeats 0
set_option linter.unusedVariables false
set_option linter.unusedSimpArgs false
set_option linter.unusedSectionVars false
namespace Go.Proofs.YtgebeldoibkkpaaGreatDoor
open Go.Am Tryz
section
attribute [local simp] aI
theorem jZ{α:Type}{a b:List α}{x:α}(h:a<:+b):a<:+x::b:=h.trans (List.suffix_cons _ _)
theorem th{α:Type}{a b:List α}{x:α}(h:x::a<:+b):a<:+b:=(List.suffix_cons _ _).trans h
theorem sW.sf{ws dh:List Wo}{s:List UInt8}(h:sW ws dh s):dh<:+ws:=by
 induction h with
 |done=>exact bu _
 |star _ _ ih=>exact jZ ih
theorem yz.sf{ws dh:List Wo}{s:List UInt8}(h:yz ws dh s):dh<:+ws:=by
 cases h with
 |base _ _ hs=>exact jZ hs.sf
 |struct _ _ hs=>exact jZ (jZ hs.sf)
theorem Kz.sf{ws dh:List Wo}{t t':List UInt8}(h:Kz ws dh t t'):dh<:+ws:=by
 cases h with
 |none=>exact bu _
 |some=>exact jZ (jZ (jZ (bu _)))
theorem G.sf{t:Tag}{b:Nat}{ws dh:List Wo}{r:Re}(h:G t b ws dh r):dh<:+ws:=by
 induction h with
 |num h=>exact jZ (bu _)
 |var h hs=>exact jZ (bu _)
 |FD h ho hc=>exact jZ (jZ (jZ (bu _)))
 |call h ho hs _ ih=>exact jZ (jZ ih)
 |paren ho _ hc ih=>exact jZ (th ih)
 |Cf h ho hc=>exact jZ (jZ (jZ (bu _)))
 |size h ho ht ha hc=>exact jZ (jZ ((th ha.sf).trans ht.sf))
 |yP _ hc ih=>exact th ih
 |L2 _ hc _ ih jR=>exact jR.trans (th ih)
 |DU h=>exact bu _
 |L3 ho _ hc _ ih jR=>exact jZ (jR.trans (th ih))
 |L4 ho hn _ ih=>exact jZ (jZ ih)
 |L5 ho hn _ ih=>exact jZ (jZ ih)
 |unop ho _ ih=>exact jZ ih
 |cast ho ht hT hc _ ih=>exact jZ (ih.trans (th hT.sf))
 |post h1 h2 _ _ ih jR=>exact jR.trans ih
 |bin _ _ hl ih jR=>exact jR.trans ih
 |stop=>exact bu _
 |step ho hl _ _ ih jR=>exact jZ (jR.trans ih)
 |AF ho _ ih=>exact jZ ih
 |Jt hc=>exact jZ (bu _)
 |L6 hs ht _ _ ih jR=>exact jR.trans ih
 |L7 hs ht _ _ ih jR=>exact jR.trans ih
 |EM ht hn hs ha hc=>exact(th ha.sf).trans (th ht.sf)
 |Hm ht hn hq _ hc ih=>exact(th ih).trans (th (th ht.sf))
 |L8 hs _ ih=>exact ih
 |L9 hc=>exact jZ (bu _)
 |YB hi ho _ hc _ hn ih jR=>exact jZ (jZ (jR.trans (th ih)))
 |JK hi ho _ hc _ hn _ ih jR ih3=>exact jZ (jZ (ih3.trans ((th jR).trans (th ih))))
 |xq hi ho _ hc _ ih jR=>exact jZ (jZ (jR.trans (th ih)))
 |Ma hi hc=>exact jZ (jZ (bu _))
 |DV hi hc=>exact jZ (jZ (bu _))
 |DW hi hc=>exact jZ (jZ (bu _))
 |DX hi hs _ hc ih=>exact jZ (th ih)
 |Mb hi ho _ hc hq ih=>exact jZ (jZ (th (th ih)))
 |Mc hk _ hc ih=>exact th ih
 |JL hk _ hq _ hc ih jR=>exact(th jR).trans (th ih)
structure SP(P:Pl->Prop)(ws:List Wo):Prop where
 p:∀w,w∈ws->P w.at
 t:∀w,w∈ws->w.text.length<=65536
 l:ws.length<=250
theorem SP.sf{P:Pl->Prop}{ws dh:List Wo}(h:SP P ws)(s:dh<:+ws):SP P dh:=⟨fun w hw=>h.p w (s.subset hw),fun w hw=>h.t w (s.subset hw),bk s.length_le h.l⟩
theorem yz.tl{P:Pl->Prop}{ws dh:List Wo}{s:List UInt8}(h:yz ws dh s)(hw:SP P ws):s.length<=66000:=by
 have hl:=hw.l;cases h with
 |@base w cq _ s h hn hs=>have:=hs.kj;have:=hw.t w sp;simp only[ai,bO]at*;omega
 |@struct w n cq _ s h hn hs=>have:=hs.kj;have:=hw.t n sp;simp only[ai,bO,bz]at*;omega
theorem Kz.tl{ws dh:List Wo}{t t':List UInt8}(h:Kz ws dh t t')(ht:t.length<=66000):t'.length<=eR:=by
 unfold eR;cases h with
 |none=>omega
 |@some o n c _ _ h hn hc=>
  have:=xr 20 n.n.toNat
  simp only[BS,bO,ai,bz];omega
theorem YC{P:Pl->Prop}{ws:List Wo}{k:Nat}(h:SP P ws)(hl:(Tag.bin 0).strict=true->k<ws.length):P (Pk ws):=by
 cases ws with
 |nil=>exact absurd (hl rfl) sp
 |cons w r=>exact h.p w sp
def Re.al(P:Pl->Prop):Re->Prop
 | .e x=>x.al P TL
 | .es l=>alL P TL l
 | .s x=>x.al P TL
 | .ss l=>Yw P TL l
def Tag.al(P:Pl->Prop):Tag->Prop
 | .steps _ e| .kj e=>e.al P TL
 |_=>True
theorem G.al{P:Pl->Prop}{t:Tag}{b:Nat}{ws dh:List Wo}{r:Re}(h:G t b ws dh r):SP P ws->t.al P->r.al P:=by
 induction h with
 |num h=>exact fun w _=>w.p _ sp
 |var h hs=>exact fun w _=>w.p _ sp
 |FD h ho hc=>exact fun w _=>⟨w.p _ sp,trivial⟩
 |call h ho hs _ ih=>exact fun w _=>⟨w.p _ sp,ih (w.sf (jZ (jZ (bu _)))) trivial⟩
 |paren ho _ hc ih=>exact fun w _=>ih (w.sf (jZ (bu _))) trivial
 |Cf h ho hc=>exact fun w _=>w.p _ sp
 |size h ho ht ha hc=>exact fun w _=>⟨w.p _ sp,ha.tl (ht.tl (w.sf (jZ (jZ (bu _)))))⟩
 |yP _ hc ih=>exact fun w _=>⟨ih w trivial,trivial⟩
 |L2 h1 hc _ ih jR=>exact fun w _=>⟨ih w trivial,jR (w.sf (th h1.sf)) trivial⟩
 |DU h=>exact fun w h=>h
 |L3 ho h1 hc _ ih jR=>exact fun w h=>jR ((w.sf (jZ (bu _))).sf (th h1.sf)) ⟨w.p _ sp,h,ih (w.sf (jZ (bu _))) trivial⟩
 |L4 ho hn _ ih=>exact fun w h=>ih (w.sf (jZ (jZ (bu _)))) ⟨w.p _ sp,h⟩
 |L5 ho hn _ ih=>exact fun w h=>ih (w.sf (jZ (jZ (bu _)))) ⟨w.p _ sp,h⟩
 |unop ho _ ih=>exact fun w _=>⟨w.p _ sp,ih (w.sf (jZ (bu _))) trivial⟩
 |cast ho ht hT hc _ ih=>exact fun w _=>⟨w.p _ sp,by have:=hT.tl (w.sf (jZ (bu _)));show _<=eR;unfold eR;omega,ih ((w.sf (jZ (bu _))).sf (th hT.sf)) trivial⟩
 |post h1 h2 g1 _ ih jR=>exact fun w _=>jR (w.sf g1.sf) (ih w trivial)
 |bin g1 _ hl ih jR=>exact fun w _=>jR (w.sf g1.sf) (ih w trivial)
 |stop=>exact fun w h=>h
 |step ho hl g1 _ ih jR=>exact fun w h=>jR ((w.sf (jZ (bu _))).sf g1.sf) ⟨w.p _ sp,h,ih (w.sf (jZ (bu _))) trivial⟩
 |AF ho _ ih=>exact fun w _=>⟨w.p _ sp,ih (w.sf (jZ (bu _))) trivial⟩
 |Jt hc=>exact fun _ _=>trivial
 |L6 hs ht g1 _ ih jR=>exact fun w _=>⟨ih w trivial,jR (w.sf g1.sf) trivial⟩
 |L7 hs ht g1 _ ih jR=>exact fun w _=>⟨ih w trivial,jR (w.sf g1.sf) trivial⟩
 |EM ht hn hs ha hc=>exact fun w _=>⟨w.p _ (ht.sf.subset sp),ha.tl (ht.tl w),trivial⟩
 |Hm ht hn hq _ hc ih=>exact fun w _=>⟨w.p _ (ht.sf.subset sp),by have:=ht.tl w;show _<=eR;unfold eR;omega,ih (w.sf (th (th ht.sf))) trivial⟩
 |L8 hs _ ih=>exact fun w _=>ih w trivial
 |L9 hc=>exact fun w _=>w.p _ sp
 |YB hi ho h1 hc _ hn ih jR=>exact fun w _=>⟨w.p _ sp,ih (w.sf (jZ (jZ (bu _)))) trivial,jR ((w.sf (jZ (jZ (bu _)))).sf (th h1.sf)) trivial⟩
 |JK hi ho h1 hc h2 hn _ ih jR ih3=>exact fun w _=>⟨w.p _ sp,ih (w.sf (jZ (jZ (bu _)))) trivial,jR ((w.sf (jZ (jZ (bu _)))).sf (th h1.sf)) trivial,ih3 (((w.sf (jZ (jZ (bu _)))).sf (th h1.sf)).sf (th h2.sf)) trivial⟩
 |xq hi ho h1 hc _ ih jR=>exact fun w _=>⟨w.p _ sp,ih (w.sf (jZ (jZ (bu _)))) trivial,jR ((w.sf (jZ (jZ (bu _)))).sf (th h1.sf)) trivial⟩
 |Ma hi hc=>exact fun w _=>w.p _ sp
 |DV hi hc=>exact fun w _=>w.p _ sp
 |DW hi hc=>exact fun w _=>⟨w.p _ sp,trivial⟩
 |DX hi hs _ hc ih=>exact fun w _=>⟨w.p _ sp,ih (w.sf (jZ (bu _))) trivial⟩
 |Mb hi ho _ hc hq ih=>exact fun w _=>⟨w.p _ sp,ih (w.sf (jZ (jZ (bu _)))) trivial⟩
 |@Mc b c ws cq e hk h1 hc ih=>exact fun w _=>⟨YC w h1.len.2,ih w trivial⟩
 |@JL b q c ws cq eK to e hk h1 hq _ hc ih jR=>exact fun w _=>⟨YC w h1.len.2,ih w trivial,jR (w.sf (th h1.sf)) trivial⟩
end
section
attribute [local simp] aI
def It.al(P:Pl->Prop):It->Prop
 | .struct p nm fs=>P p/\nm.length<=65536/\∀f∈fs,f.ty.length<=eR/\f.nm.length<=65536
 | .global p ty _=>P p/\TL ty
 | .func p ty _ ps b=>P p/\TL ty/\(∀q∈ps,P q.p/\TL q.ty)/\b.al P TL
variable{P:Pl->Prop}
theorem N3{t:List UInt8}(h:t.length<=66000):TL t:=by show _<=eR;unfold eR;omega
theorem Fields.al{ws dh:List Wo}{l:List Fd}(h:Fields ws dh l):SP P ws->(∀f∈l,f.ty.length<=eR/\f.nm.length<=65536)/\dh<:+ws:=by
 induction h with
 |done hc=>exact fun _=>⟨sp,jZ (bu _)⟩
 |@field n c ws cq eK N4 t t' l hs ht hn ha hc hr ih=>
  intro w;have s1:eK<:+ws:=(th ha.sf).trans (th ht.sf);obtain⟨i1,i2⟩:=ih (w.sf s1);refine⟨fun f hf=>?_,i2.trans s1⟩;rcases aq.1 hf with rfl|hf
  ·exact⟨ha.tl (ht.tl w),w.t _ (ht.sf.subset sp)⟩
  ·exact i1 f hf
theorem SQ.sf{ws dh:List Wo}{b:Bool}(h:SQ ws dh b):dh<:+ws:=by
 cases h with
 |no=>exact bu _
 |yes=>exact jZ (bu _)
theorem xu.al{ws dh:List Wo}{l:List Pm}(h:xu ws dh l):SP P ws->(∀q∈l,P q.p/\TL q.ty)/\dh<:+ws:=by
 induction h with
 |@one n c ws cq eK b t hp ht hn hc=>
  intro w;have w1:=w.sf hp.sf;refine⟨fun q hq=>?_,(th (th ht.sf)).trans hp.sf⟩;simp only[aR]at hq;subst hq;exact⟨w1.p _ (ht.sf.subset sp),N3 (ht.tl w1)⟩
 |@more n c ws cq eK N4 b t l hp ht hn hc hr ih=>
  intro w;have w1:=w.sf hp.sf;have s1:eK<:+ws:=(th (th ht.sf)).trans hp.sf;obtain⟨i1,i2⟩:=ih (w.sf s1);refine⟨fun q hq=>?_,i2.trans s1⟩;rcases aq.1 hq with rfl|hq
  ·exact⟨w1.p _ (ht.sf.subset sp),N3 (ht.tl w1)⟩
  ·exact i1 q hq
theorem Item.al{b:Nat}{ws dh:List Wo}{i:It}(h:Item b ws dh i)(w:SP P ws):i.al P/\dh<:+ws:=by
 cases h with
 |@struct x n o c cq _ l hw hn ho hf hc=>
  have w3:=w.sf (jZ (jZ (jZ (bu cq))));obtain⟨f1,f2⟩:=hf.al w3;exact⟨⟨w.p _ sp,w.t _ sp,f1⟩,jZ (jZ (jZ (th f2)))⟩
 |@global n c _ cq _ t t' ht hn hs ha hc=>exact⟨⟨w.p _ (ht.sf.subset sp),ha.tl (ht.tl w)⟩,(th ha.sf).trans (th ht.sf)⟩
 |@func0 n o c _ cq _ t s ht hn ho hc hb=>
  have s1:=th (th (th ht.sf));exact⟨⟨w.p _ (ht.sf.subset sp),N3 (ht.tl w),sp,hb.al (w.sf s1) trivial⟩,hb.sf.trans s1⟩
 |@func n o _ cq eK _ t l s ht hn ho hs hp hb=>
  have s1:=th (th ht.sf);obtain⟨p1,p2⟩:=hp.al (w.sf s1);exact⟨⟨w.p _ (ht.sf.subset sp),N3 (ht.tl w),p1,hb.al (w.sf (p2.trans s1)) trivial⟩,hb.sf.trans (p2.trans s1)⟩
theorem qf.al{b:Nat}{ws:List Wo}{ez:List It}(h:qf b ws ez):SP P ws->∀i∈ez,i.al P:=by
 induction h with
 |done=>exact fun _=>by simp
 |item hi hr ih=>
  intro w j hj;obtain⟨a1,a2⟩:=hi.al w;rcases aq.1 hj with rfl|hj
  ·exact a1
  ·exact ih (w.sf a2) j hj
end
section
attribute [local simp] aI
theorem JM{r:Nat}{c0 c1 c2 c3 c4 c5 c6 c7 c8 c9:AV}{vo:Option (Nat×Nat)}{h:ah}(g:h.get r=some (.C [c0,c1,c2,c3,c4,c5,c6,c7,c8,c9,.ptr vo]))(lt:r<h.next)(b:Bool)(p:Pl)(Q:Out->ah->Prop)
 (h1:(b=true\/vo≠none)->∀h2,aS h h2->Q (.ret (.iX [])) h2)
 (h2:b=false->vo=none->Q (.ret (.iX [])) ((h.alloc (.C [.I p.1,.I p.2])).2.set r (.C [c0,c1,c2,c3,c4,c5,c6,c7,c8,c9,.P h.next]))):
 aV env 59 [.P r,.bool b,.agg [.I p.1,.I p.2]] h Q:=by
 refine wb fn59 rfl ?_;have rn:r≠h.next:=om
 simp[f59];cases b with
 |true=>
  simp;refine h1 (.inl rfl) _ ?_;exact kT
 |false=>
  cases vo with
  |some q=>
   simp[g,rn,rn.symm];refine h1 (.inr sp) _ ?_;exact kT
  |none=>
   simp[g,rn,rn.symm];simpa using h2 rfl rfl
theorem Pn{N:List (List UInt8)}{es:List pW}{fs:List Cy}{e:Int}(h:wy N es fs= .bad e):e=5\/e=2:=by
 unfold wy at h;split at h
 ·injection h with h;exact .inl h.symm
 ·split at h
  ·injection h with h;exact .inr h.symm
  ·cases h
def mw:List Cy:=[([115,109,97,108,108],[99,104,97,114])]
theorem Md(N:List (List UInt8))(es:List pW):∃ps size align,wy N es mw= .JN ps size align:=by
 have r1:rd [99,104,97,114]=(⟨uo,[],0,false,0⟩,true):=kr
 have m1:tL N es ⟨uo,[],0,false,0⟩=(1,1,0):=by
  unfold tL;rw[az (by rintro⟨h,_⟩;revert h;decide),az dc,aW rfl]
 have s1:uD N es [99,104,97,114]=(1,1,0):=by
  unfold uD;rw[r1];simp[m1]
 have g1:gn [115,109,97,108,108]=true:=by decide+kernel
 simp[wy,mw,qP,jW,DY,g1,s1];exact⟨_,_,_,az dc⟩
end
section
attribute [local simp] aI
theorem Ai:∀ps:List Sd,(j9 ps).all AV.scalar=true
 |[]=>rfl
 |p::ps=>by
  have:=Ai ps;simp only[j9,cY,j1,List.all_append]at this⊢;simp[this,AV.scalar]
theorem FE:∀(l:List Sd)(i:Nat)(s s':Sd),l[i]?=some s->s'.name=s.name->j9 (l.set i s')=(j9 l).set (i*2+1) (.slice s'.q s'.fs.length)
 |[],i,s,s',h,_=>by simp at h
 |p::ps,0,s,s',h,e=>by
  simp only[ed,bw]at h;subst h;simp[j9,e]
 |p::ps,i+1,s,s',h,e=>by
  have:=FE ps i s s' (by simpa using h) e;rw[show(i+1)*2+1=i*2+1+1+1 by omega];simpa[j9]using this
theorem Wj{h:ah}{a:Nat}{yg:Bool}{Po:Nat}{l:List Sd}(ga:h.get a=some (.cells yg Po (j9 l)))(lt:a<h.next)(hl:l.length<=300)(h0:l≠[]):
 aV env 60 [.S a l.length] h (fun out h'=>∃o,out= .ret (.S o l.length)/\h'.get o=some (.cells true 2 (j9 l))/\h.next<=o/\o<h'.next/\aS h h'):=by
 refine wb fn60 rfl ?_;have fl:=mW l;have n1:a≠h.next:=om
 have hu:env.kQ 103=some (.slice 112):=rfl;have r1:¬roomy<l.length*(31+1):=by
  have:l.length*(31+1)<=300*(31+1):=iV _ hl;unfold roomy;omega
 have r2:¬roomy<l.length*(39+1):=by
  have:l.length*(39+1)<=300*(39+1):=iV _ hl;unfold roomy;omega
 have tk:(j9 l).take (l.length*2)=j9 l:=eX om;have g1:l.length*2<=(j9 l).length:=om
 have hpn:l.length≠0:=fun hh=>h0 (cw hh);have aaW:¬l.length*2<=0:=om
 have xL:=Ai l;have n2:a≠h.next+1:=om
 simp[-aO,f60,ga,n1,n1.symm,n2,n2.symm];simp[-nQ,-List.all_eq_true,hu,ty112.1,ty112.2.1,ty112.2.2.2,ga,n1,n2,r1,r2,tk,g1,hpn,aaW,xL];exact kT
end
section
attribute [local simp] aI
theorem xY:∀(a b:List UInt8)(l c:Int),dy l c (a++b)=dy (dy l c a).1 (dy l c a).2 b
 |[],_,_,_=>rfl
 |x::a,b,l,c=>by
  simp only[bZ,dy];split
  ·exact xY a b _ _
  ·exact xY a b _ _
def Hn(s:List UInt8)(p:Pl):Prop:=∃k,k<=s.length/\dy 1 1 (s.take k)=p
theorem jM.places{l c:Int}{s:List UInt8}{ws:List Wo}(h:jM l c s ws):∀w∈ws,∃k,k<=s.length/\dy l c (s.take k)=w.at:=by
 have step:∀{l c:Int}{s:List UInt8}{n:Nat}{p:Pl},n<=s.length->(∃k,k<=(s.drop n).length/\dy (dy l c (s.take n)).1 (dy l c (s.take n)).2 ((s.drop n).take k)=p)->∃k,k<=s.length/\dy l c (s.take k)=p:=by
  intro l c s n p hn ⟨k,h1,h2⟩;rw[bU]at h1;refine⟨n+k,om,?_⟩;rw[List.take_add,xY];exact h2
 induction h with
 |nil=>simp
 |blank hs hb h0 hn hr ih=>exact fun w hw=>step hn (ih w hw)
 |@word l c s w ws hs hb hw hr ih=>
  obtain⟨t1,t2,_⟩:=yU hw;intro x hx;rcases aq.1 hx with rfl|hx
  ·exact⟨0,bX _,rfl⟩
  ·have hx:=ih x hx;rw[t1,cI,j4 t2]at hx;exact step t2 hx
theorem Hn.one(s:List UInt8):Hn s (1,1):=⟨0,bX _,rfl⟩
theorem Hn.wp{s:List UInt8}{ws:List Wo}(h:jM 1 1 s ws)(hs:s.length<=65536)(hw:ws.length<=250):SP (Hn s) ws:=
 ⟨h.places,fun w hm=>by have:=(h.ok w hm).1;omega,hw⟩
end
section
attribute [local simp] aI
def It.wt:It->Nat
 | .struct _ _ fs=>fs.length+1
 | .global _ _ _=>1
 | .func _ _ _ ps b=>ps.length+b.nodes+1
def N5(l:List It):Nat:=(l.map It.wt).sum
theorem Fields.wt{ws dh:List Wo}{l:List Fd}(h:Fields ws dh l):l.length+1+dh.length<=ws.length:=by
 induction h with
 |done hc=>simp;omega
 |field hs ht hn ha hc hr ih=>have:=ht.kj;have:=ha.kj;simp only[ai]at*;omega
theorem SQ.wt{ws dh:List Wo}{b:Bool}(h:SQ ws dh b):dh.length<=ws.length:=h.sf.length_le
theorem xu.wt{ws dh:List Wo}{l:List Pm}(h:xu ws dh l):l.length+1+dh.length<=ws.length:=by
 induction h with
 |one hp ht hn hc=>have:=hp.wt;have:=ht.kj;simp only[ai,bz]at*;omega
 |more hp ht hn hc hr ih=>have:=hp.wt;have:=ht.kj;simp only[ai]at*;omega
theorem Item.wt{b:Nat}{ws dh:List Wo}{i:It}(h:Item b ws dh i):i.wt+dh.length<=ws.length:=by
 cases h with
 |struct hw hn ho hf hc=>have:=hf.wt;simp only[ai,It.wt]at*;omega
 |global ht hn hs ha hc=>have:=ht.kj;have:=ha.kj;simp only[ai,It.wt]at*;omega
 |func0 ht hn ho hc hb=>have:=ht.kj;have:=hb.nodes;simp only[ai,It.wt,Re.nodes,Tag.xv,bz]at*;omega
 |func ht hn ho hs hp hb=>have:=ht.kj;have:=hp.wt;have:=hb.nodes;simp only[ai,It.wt,Re.nodes,Tag.xv]at*;omega
theorem qf.wt{b:Nat}{ws:List Wo}{ez:List It}(h:qf b ws ez):N5 ez<=ws.length:=by
 induction h with
 |done=>simp[N5]
 |item hi hr ih=>have:=hi.wt;simp only[N5,cY,List.sum_cons]at*;omega
theorem vC{i:It}:∀{l:List It},i∈l->i.wt<=N5 l
 |[],h=>by cases h
 |j::l,h=>by
  simp only[N5,cY,List.sum_cons];rcases aq.1 h with rfl|h
  ·omega
  ·have:=vC h;simp only[N5]at this;omega
theorem Ho:∀l:List It,l.length<=N5 l
 |[]=>by simp[N5]
 |i::l=>by
  have:=Ho l;have:1<=i.wt:=by cases i<;>simp[It.wt]<;>omega
  simp only[N5,cY,List.sum_cons,ai]at*;omega
def KD(ov:Option Pl):Dn:=⟨[],[],[],0,0,ov⟩
section
variable(S:Sc)
def Me:List Pm->Dn->Rs Unit
 |[],d=> .ok () d
 |q::l,d=>Rs.nL (BN S q.ty) q.p (Me l d)
def Pm.sg(nm ty:List UInt8)(ps:List Pm):Sg:=⟨nm,ty,ps.map Pm.ty,ps.map Pm.Qp⟩
def EN:It->Dn->Rs Sc
 | .struct _ _ _,d=> .ok S d
 | .global p ty nm,d=>Rs.nL (!((S.gs.map Gl.nm).contains nm)) p ((Ku S ty p (d.tD (decide (S.gs.length<200)) p)).bind fun n d=> .ok {S with gs:=S.gs++[⟨nm,ty,n⟩]} d)
 | .func p ty nm ps _,d=>Rs.nL (!((S.fs.map Sg.nm).contains nm)&&(ty==[118,111,105,100]||BN S ty)) p ((Me S ps d).bind fun _ d=> .ok {S with fs:=S.fs++[Pm.sg nm ty ps]} (d.tD (decide (ps.length<=6)) p))
end
def Pp:List It->Sc->Dn->Rs Sc
 |[],S,d=> .ok S d
 |i::l,S,d=>(EN S i d).bind fun S d=>Pp l S d
section
variable(S:Sc)
def BT(d:Dn):Rs Nat:=match yf [109,97,105,110] (S.fs.map Sg.nm) 0 with
 |none=> .err (1,1)
 |some n=>match S.fs[n]? with
  |none=> .err (1,1)
  |some s=>Rs.nL ((s.ty==[105,110,116]||s.ty==[108,111,110,103])&&s.ps.all vT) (1,1) (.ok n d)
def Pq:List Pm->Dn->Rs Unit
 |[],d=> .ok () d
 |q::l,d=>(R4 S q.nm q.ty true q.p d).bind fun _ d=>Pq l d
def fnF(ps:List Pm)(rt:List UInt8)(b:Sm)(ov:Option Pl):Rs TS:=(Pq S ps (KD ov)).bind fun _ d=>qM S rt b d
structure Fn where
 vs:List Vr
 body:TS
def JO:List It->Dn->Rs (List Fn)
 |[],d=> .ok [] d
 | .func _ ty _ ps b::l,d=>(fnF S ps ty b d.over).bind fun t e=>(JO l e).bind fun ts e2=> .ok (⟨e.vs,t⟩::ts) e2
 |_::l,d=>JO l d
end
structure Pr where
 S:Sc
 main:Nat
 fns:List Fn
def Ps(S:Sc)(ez:List It)(ov:Option Pl):Rs Pr:=
 (Pp ez S (KD ov)).bind fun S d=>(BT S d).bind fun m d=>(JO S ez d).bind fun l d=> .ok ⟨S,m,l⟩ d
section
variable{S:Sc}{P:Pl->Prop}
theorem N6:∀(ps:List Pm)(d:Dn),d.ov P->(∀q∈ps,P q.p/\TL q.ty)->(Me S ps d).pl P
 |[],d,h,_=>h
 |q::l,d,h,ha=>Rs.cQ (ha q sp).1 fun _=>N6 l d h fun x hx=>ha x (by simp[hx])
theorem Wk{d:Dn}(h:d.ov P){i:It}(hi:i.al P):(EN S i d).pl P:=by
 cases i with
 |struct p nm fs=>exact h
 |global p ty nm=>exact Rs.cQ hi.1 fun _=>Rs.bq (LQ (Dn.A1 h hi.1 _) hi.1 ty) fun _ _ hd=>hd
 |func p ty nm ps b=>exact Rs.cQ hi.1 fun _=>Rs.bq (N6 ps d h hi.2.2.1) fun _ _ hd=>Dn.A1 hd hi.1 _
theorem N7:∀(l:List It)(S:Sc)(d:Dn),d.ov P->(∀i∈l,i.al P)->(Pp l S d).pl P
 |[],_,_,h,_=>h
 |i::l,S,d,h,ha=>Rs.bq (Wk h (ha i sp)) fun S' d' hd=>N7 l S' d' hd fun x hx=>ha x (by simp[hx])
theorem SR{d:Dn}(h:d.ov P)(h1:P (1,1)):(BT S d).pl P:=by
 unfold BT;split
 ·exact h1
 ·split
  ·exact h1
  ·exact Rs.cQ h1 fun _=>h
theorem N8:∀(ps:List Pm)(d:Dn),d.ov P->(∀q∈ps,P q.p/\TL q.ty)->(Pq S ps d).pl P
 |[],_,h,_=>h
 |q::l,_,h,ha=>Rs.bq (Sz h (ha q sp).1 _ _ _) fun _ d' hd=>N8 l d' hd fun x hx=>ha x (by simp[hx])
theorem aaX{ps:List Pm}{rt:List UInt8}{b:Sm}{ov:Option Pl}(h:(KD ov).ov P)(hp:∀q∈ps,P q.p/\TL q.ty)(hb:b.al P TL):(fnF S ps rt b ov).pl P:=
 Rs.bq (N8 ps _ h hp) fun _ d hd=>Ba b d hd hb
theorem Cz:∀(l:List It)(d:Dn),d.ov P->(∀i∈l,i.al P)->(JO S l d).pl P
 |[],_,h,_=>h
 | .struct _ _ _::l,d,h,ha=>Cz l d h fun x hx=>ha x (by simp[hx])
 | .global _ _ _::l,d,h,ha=>Cz l d h fun x hx=>ha x (by simp[hx])
 | .func p ty nm ps b::l,d,h,ha=>by
  have hi:=ha (.func p ty nm ps b) sp;exact Rs.bq (aaX h hi.2.2.1 hi.2.2.2) fun t e he=>Rs.bq (Cz l e he fun x hx=>ha x (by simp[hx])) fun _ _ hd=>hd
theorem Wl{ez:List It}{ov:Option Pl}(h:(KD ov).ov P)(h1:P (1,1))(ha:∀i∈ez,i.al P):(Ps S ez ov).pl P:=
 Rs.bq (N7 ez S _ h ha) fun S' d hd=>Rs.bq (SR hd h1) fun m d' U2=>Rs.bq (Cz ez d' U2 ha) fun _ _ hd=>hd
end
end
section
attribute [local simp] aI
theorem Move.adw{X Y Z:List Nat}{h h':ah}(m:Move X Y h h')(hx:∀x∈X,x∈Z):Move Z Z h h':=⟨fun i o g hi=>⟨(m.aJ i o g fun pJ=>hi (hx i pJ)).1,hi⟩⟩
theorem Move.to{X Y Z:List Nat}{h h':ah}(f:cM h)(m:Move X Z h h')(hY:∀y∈Y,y∈X\/h.next<=y):Move X Y h h':=⟨fun i o g hi=>⟨(m.aJ i o g hi).1,fun hy=>(hY i hy).elim hi fun hl=>by have:=au f g;omega⟩⟩
def rH(X:List Nat)(h:ah):List (AV×AV)->List (List UInt8×List Fd)->Prop
 |[],[]=>True
 |e::es,x::l=>e.1= .str x.1/\kI X h e.2 2 x.2.length (rF x.2)/\rH X h es l
 |_,_=>False
theorem rH.move{X Y:List Nat}{h h':ah}(s:Move X Y h h'):∀{es:List (AV×AV)}{l:List (List UInt8×List Fd)},rH X h es l->rH Y h' es l
 |[],[],_=>trivial
 |_::_,_::_,⟨a,b,c⟩=>⟨a,b.move s,rH.move s c⟩
 |[],_::_,h=>h.elim
 |_::_,[],h=>h.elim
theorem rH.find{X:List Nat}{h:ah}(s:List UInt8):∀{es:List (AV×AV)}{l:List (List UInt8×List Fd)}(j:Nat),rH X h es l->(qu s l=none/\∀H,fq H (.str s) es j=some none)\/∃fl k av,qu s l=some fl/\(∀H,fq H (.str s) es j=some (some (k,av)))/\kI X h av 2 fl.length (rF fl)
 |[],[],_,_=> .inl ⟨rfl,fun _=>rfl⟩
 |⟨k,v⟩::es,x::l,j,⟨a,b,c⟩=>by
  simp only at a b;subst a;by_cases e:x.1=s
  ·exact .inr ⟨x.2,j,v,by simp[qu,e],fun H=>by simp[fq,iR,<-e],b⟩
  ·have hb:(s==x.1)=false:=aH.2 (iw e);rcases c.find s (j+1)with⟨h1,h2⟩|⟨fl,k,av,h1,h2,h3⟩
   ·exact .inl ⟨by simp only[qu,e,iW,h1],fun H=>by simp only[fq,iR,hb];exact h2 H⟩
   ·exact .inr ⟨fl,k,av,by simp only[qu,e,iW,h1],fun H=>by simp only[fq,iR,hb];exact h2 H,h3⟩
 |[],_::_,_,h=>h.elim
 |_::_,[],_,h=>h.elim
def vX(s:List UInt8)(fl:List Fd):List (List UInt8×List Fd)->List (List UInt8×List Fd)
 |[]=>[(s,fl)]
 |x::l=>if x.1=s then(s,fl)::l else x::vX s fl l
theorem rH.put{X:List Nat}{h:ah}{s:List UInt8}{fl:List Fd}{v:AV}(ha:kI X h v 2 fl.length (rF fl)):∀{es:List (AV×AV)}{l:List (List UInt8×List Fd)}(j:Nat),rH X h es l->
 (∀H,fq H (.str s) es j=some none/\rH X h (es++[(.str s,v)]) (vX s fl l))\/∃k w,(∀H,fq H (.str s) es j=some (some (j+k,w)))/\rH X h (es.modify k fun _=>(.str s,v)) (vX s fl l)
 |[],[],_,_=> .inl fun _=>⟨rfl,rfl,ha,trivial⟩
 |⟨k,w⟩::es,x::l,j,⟨a,b,c⟩=>by
  simp only at a b;subst a;by_cases e:x.1=s
  ·exact .inr ⟨0,w,fun H=>by simp[fq,iR,<-e],by simp only[vX,e,lM,List.modify_zero_cons];exact⟨rfl,ha,c⟩⟩
  ·have hb:(s==x.1)=false:=aH.2 (iw e);rcases rH.put ha (j+1) c with h1|⟨k,w,h2,h3⟩
   ·exact .inl fun H=>⟨by simp only[fq,iR,hb];exact(h1 H).1,by simp only[vX,e,iW,bZ];exact⟨rfl,b,(h1 H).2⟩⟩
   ·exact .inr ⟨k+1,w,fun H=>by simp only[fq,iR,hb];rw[h2 H];congr 3;omega,by simp only[vX,e,iW,List.modify_succ_cons];exact⟨rfl,b,h3⟩⟩
 |[],_::_,_,h=>h.elim
 |_::_,[],_,h=>h.elim
structure PA where
 r:Nat
 o:Nat
 tb:Nat
 nm:Nat
 st:Nat
 fm:Nat
 gm:Nat
 um:Nat
 tr:AV
structure SS(A:PA)(X:List Nat)(h:ah)(S:Sc):Prop where
 Ft:rG A.tb A.nm A.st h S.N S.es
 tx:A.tb∉X/\A.nm∉X/\A.st∉X/\∀e∈S.es,e.obj∉X
theorem SS.move{A:PA}{X Y:List Nat}{h h':ah}{S:Sc}(s:Move X Y h h')(n:h.next<=h'.next)(t:SS A X h S):SS A Y h' S:=by
 obtain⟨t,x1,x2,x3,x4⟩:=t;exact⟨⟨(s.aJ _ _ t.t x1).1,(s.aJ _ _ t.n x2).1,(s.aJ _ _ t.s x3).1,fun e he=>(s.aJ _ _ (t.o e he) (x4 e he)).1,aw t.lt n,aw t.ln n,aw t.ls n,fun e he=>aw (t.lo e he) n,t.ne⟩,
  (s.aJ _ _ t.t x1).2,(s.aJ _ _ t.n x2).2,(s.aJ _ _ t.s x3).2,fun e he=>(s.aJ _ _ (t.o e he) (x4 e he)).2⟩
structure FmX(A:PA)(X:List Nat)(h:ah)(S:Sc):Prop where
 g:∃es,h.get A.fm=some (.map es)/\rH X h es S.fm
 x:A.fm∉X
theorem FmX.move{A:PA}{X Y:List Nat}{h h':ah}{S:Sc}(s:Move X Y h h')(t:FmX A X h S):FmX A Y h' S:=by
 obtain⟨⟨es,g,f⟩,x⟩:=t;exact⟨⟨es,(s.aJ _ _ g x).1,f.move s⟩,(s.aJ _ _ g x).2⟩
def PA.M(A:PA)(fo:List Nat)(jm jF:AV):List Nat:=A.r::A.o::A.gm::A.um::(aK jm++(aK jF++fo))
def PA.ob(A:PA)(v:AV):List AV:=[.P A.o,.P A.tb,.map (some A.fm),.map (some A.gm),.map (some A.um),.N,.map none,.Z,.I 0,.I 0,v]
structure tj(A:PA)(S:Sc)(gn un:List (List UInt8))(X fo:List Nat)(jm jF:AV)(ov:Option Pl)(h:ah):Prop where
 fr:cM h
 sup:∀x∈A.M fo jm jF,x∈X
 xl:∀x∈X,x<h.next
 nd:(A.r::A.o::A.gm::A.um::fo).Nodup
 r:∃v,h.get A.r=some (.C (A.ob v))/\kJ X h v ov
 o:h.get A.o=some (.C [A.tr,jm,jF,.I 0])
 Ft:SS A X h S
 fm:FmX A X h S
 gm:h.get A.gm=some (.map (gd gn 0))
 um:h.get A.um=some (.map (gd un 0))
 ga:dW [] h jm 3 S.gs.length (xh S.gs)
 fa:dP [] h jF (fo.map fun a=>(a,()))
 fl:fo.length=S.fs.length
 fs:∀(n a:Nat)(s:Sg),S.fs[n]?=some s->fo[n]?=some a->∃p b,h.get a=some (.C [.str s.nm,.str s.ty,p,b,.Z,.N])/\kI X h p 1 s.ps.length (s.ps.map .str)/\kI X h b 1 s.pb.length (s.pb.map .bool)
section
variable{A:PA}{S:Sc}{gn un YD un':List (List UInt8)}{X fo:List Nat}{jm jF:AV}{ov Sh:Option Pl}{h h':ah}
theorem tj.ne(I:tj A S gn un X fo jm jF ov h):A.r≠A.o/\A.r≠A.gm/\A.r≠A.um/\A.o≠A.gm/\A.o≠A.um/\A.gm≠A.um/\∀a∈fo,a≠A.r/\a≠A.o/\a≠A.gm/\a≠A.um:=by
 have nd:=I.nd;simp only[iO,aq,fO]at nd;obtain⟨⟨a1,a2,a3,a4⟩,⟨a5,a6,a7⟩,⟨a8,a9⟩,Pt,_⟩:=nd;exact⟨a1,a2,a3,a5,a6,a8,fun a ha=>⟨fun e=>a4 (e▸ha),fun e=>a7 (e▸ha),fun e=>a9 (e▸ha),fun e=>Pt (e▸ha)⟩⟩
theorem tj.fob(I:tj A S gn un X fo jm jF ov h){a:Nat}(ha:a∈fo):∃c,h.get a=some (.C c):=by
 obtain⟨n,hn,e⟩:=kg ha;have hs:n<S.fs.length:=by rw[<-I.fl];exact hn
 obtain⟨p,b,g,_⟩:=I.fs n a S.fs[n] (aj hs) (by rw[aj hn,e]);exact⟨_,g⟩
theorem tj.Wm(I:tj A S gn un X fo jm jF ov h){b:Nat}(hb:b∈aK jm++aK jF):b≠A.r/\b≠A.o/\b≠A.gm/\b≠A.um/\b∉fo:=by
 have key:∃yg k c,h.get b=some (.cells yg (k+1) c):=by
  rcases aP.1 hb with hb|hb
  ·rcases I.ga with⟨_,_,e⟩|⟨x,e,_,g⟩
   ·rw[e]at hb;cases hb
   ·rw[e]at hb;simp[aK]at hb;subst hb;exact⟨_,_,_,g⟩
  ·rcases I.fa with⟨_,e⟩|⟨x,e,_,g⟩
   ·rw[e]at hb;cases hb
   ·rw[e]at hb;simp[aK]at hb;subst hb;exact⟨_,_,_,g⟩
 obtain⟨yg,k,c,g⟩:=key;obtain⟨v,gr,_⟩:=I.r;refine⟨fun e=>?_,fun e=>?_,fun e=>?_,fun e=>?_,fun e=>?_⟩
 ·rw[e,gr]at g;simp at g
 ·rw[e,I.o]at g;simp at g
 ·rw[e,I.gm]at g;simp at g
 ·rw[e,I.um]at g;simp at g
 ·obtain⟨c2,g2⟩:=I.fob e;rw[g2]at g;simp at g
theorem tj.YE{X':List Nat}(I:tj A S gn un X fo jm jF ov h)(m:Move X X' h h')(sx:∀x∈X,x∈X')(lx:∀x∈X',x<h'.next)(fr:cM h')(nx:h.next<=h'.next)(old:∀i∈A.M fo jm jF,i≠A.r->i≠A.gm->i≠A.um->h'.get i=h.get i)
 (r:∃v,h'.get A.r=some (.C (A.ob v))/\kJ X' h' v Sh) (gm:h'.get A.gm=some (.map (gd YD 0))) (um:h'.get A.um=some (.map (gd un' 0))):tj A S YD un' X' fo jm jF Sh h':=by
 obtain⟨n1,n2,n3,n4,n5,n6,n7⟩:=I.ne;have oa:∀b∈aK jm++aK jF,h'.get b=h.get b:=fun b hb=>by
  obtain⟨a1,a2,a3,a4,_⟩:=I.Wm hb;refine old b ?_ a1 a3 a4;rcases aP.1 hb with hb|hb<;>simp[PA.M,hb]
 refine⟨fr,fun x hx=>sx x (I.sup x hx),lx,I.nd,r,(old _ (by simp[PA.M]) n1.symm n4 n5).trans I.o,I.Ft.move m nx,I.fm.move m,gm,um,?_,?_,I.fl,fun n a s h1 h2=>?_⟩
 ·rcases I.ga with e|⟨b,e,hb,g⟩
  ·exact .inl e
  ·exact .inr ⟨b,e,hb,by rw[oa b (by rw[e];simp[aK])];exact g⟩
 ·rcases I.fa with e|⟨b,e,hb,g⟩
  ·exact .inl e
  ·exact .inr ⟨b,e,hb,by rw[oa b (by rw[e];simp[aK])];exact g⟩
 ·obtain⟨p,b,g,a1,a2⟩:=I.fs n a s h1 h2;have ha:=bg h2;obtain⟨x1,x2,x3,x4⟩:=n7 a ha;exact⟨p,b,by rw[old a (by simp[PA.M,ha]) x1 x3 x4];exact g,a1.move m,a2.move m⟩
theorem tj.next(I:tj A S gn un X fo jm jF ov h)(m:Move X X h h')(fr:cM h')(nx:h.next<=h'.next)(old:∀i∈A.M fo jm jF,i≠A.r->i≠A.gm->i≠A.um->h'.get i=h.get i)
 (r:∃v,h'.get A.r=some (.C (A.ob v))/\kJ X h' v Sh) (gm:h'.get A.gm=some (.map (gd YD 0))) (um:h'.get A.um=some (.map (gd un' 0))):tj A S YD un' X fo jm jF Sh h':=
 I.YE m (fun _ h=>h) (fun x hx=>aw (I.xl x hx) nx) fr nx old r gm um
end
end
section
attribute [local simp] aI
def PD(A:PA)(X:List Nat)(h:ah)(Q:Out->ah->Prop):Rs Sc->Prop
 | .ok S d=>∀X' fo' aaY aaZ h',tj A S (S.gs.map Gl.nm) (S.fs.map Sg.nm) X' fo' aaY aaZ d.over h'->(∀x∈X,x∈X')->Move X X' h h'->h.next<=h'.next->Q (.ret (.iX [])) h'
 | .err p=>∀h',Move X X h h'->cM h'->Q (.iS (zq p)) h'
theorem sF{s:List UInt8}:∀{l:List (List UInt8)}{i:Nat},yf s l i=none↔l.contains s=false
 |[],i=>by simp[yf]
 |x::l,i=>by
  have:=@sF s l (i+1);by_cases e:x=s
  ·subst e;simp[yf]
  ·have e2:¬s=x:=fun h=>e h.symm;simp only[yf,e,iW,List.contains_cons];simp[this,e2]
theorem zf(s:List UInt8):∀(l:List (List UInt8))(i:Nat),gd (l++[s]) i=gd l i++[(.str s,.I (i+l.length:Nat))]
 |[],i=>by simp[gd]
 |x::l,i=>by
  have:=zf s l (i+1);simp only[bZ,gd,this,ai];congr 6;omega
section
variable{A:PA}{S:Sc}{X fo:List Nat}{jm jF:AV}{d:Dn}{h:ah}{id:Nat}{p:Pl}{ty nm:List UInt8}{Q:Out->ah->Prop}
theorem tj.aJ{gn un:List (List UInt8)}{ov:Option Pl}{h':ah}(I:tj A S gn un X fo jm jF ov h)(k:aS h h'):tj A S gn un X fo jm jF ov h'/\Move X X h h':=by
 have m:Move X X h h':=Move.k I.fr k;obtain⟨v,r1,r2⟩:=I.r;have e:∀i∈A.M fo jm jF,h'.get i=h.get i:=fun i hi=>k.old i (I.xl i (I.sup i hi));exact⟨I.next m (k.fresh I.fr) k.next (fun a ha _ _ _=>e a ha) ⟨v,(e _ (by simp[PA.M])).trans r1,r2.move m⟩ ((e _ (by simp[PA.M])).trans I.gm) ((e _ (by simp[PA.M])).trans I.um),m⟩
theorem tj.more{gn un:List (List UInt8)}{ov:Option Pl}{H:ah}(I:tj A S gn un X fo jm jF ov h)(k:aS h H){a:Nat}(a1:h.next<=a)(a2:a<H.next):tj A S gn un (a::X) fo jm jF ov H/\Move X (a::X) h H:=by
 have m:Move X (a::X) h H:=(Move.k I.fr k).to I.fr fun y hy=>by
  rcases aq.1 hy with rfl|hy
  ·exact .inr a1
  ·exact .inl hy
 obtain⟨v,r1,r2⟩:=I.r;have e:∀i∈A.M fo jm jF,H.get i=h.get i:=fun i hi=>k.old i (I.xl i (I.sup i hi));exact⟨I.YE m (fun x hx=>ay _ hx) (fun x hx=>by
  rcases aq.1 hx with rfl|hx
  ·exact a2
  ·exact aw (I.xl x hx) k.next) (k.fresh I.fr) k.next (fun a ha _ _ _=>e a ha) ⟨v,(e _ (by simp[PA.M])).trans r1,r2.move m⟩ ((e _ (by simp[PA.M])).trans I.gm) ((e _ (by simp[PA.M])).trans I.um),m⟩
theorem tj.mvk{gn un:List (List UInt8)}{ov:Option Pl}{h2:ah}(I:tj A S gn un X fo jm jF ov h)(k:aQ [A.r] h h2):Move X X h h2:=
 Move.of I.fr k (fun z hz _=>by simp at hz;subst hz;exact I.sup _ (by simp[PA.M])) fun _ hy=> .inl hy
theorem tj.SU{gn un:List (List UInt8)}(I:tj A S gn un X fo jm jF d.over h)(b:Bool)(p:Pl)(Q:Out->ah->Prop)(hQ:∀h2,tj A S gn un X fo jm jF (d.tD b p).over h2->aQ [A.r] h h2->Q (.ret (.iX [])) h2):
 aV env 59 [.P A.r,.bool b,.agg [.I p.1,.I p.2]] h Q:=by
 obtain⟨v,gr,ov⟩:=I.r;obtain⟨n1,n2,n3,_,_,_,n4⟩:=I.ne;have lr:A.r<h.next:=I.xl _ (I.sup _ (by simp[PA.M]));obtain⟨vo,rfl,hvo⟩:∃vo,v= .ptr vo/\(vo=none↔d.over=none):=by
  cases ho:d.over with
  |none=>rw[ho]at ov;exact⟨none,ov,sp⟩
  |some q=>rw[ho]at ov;obtain⟨x,e,_⟩:=ov;exact⟨_,e,sp⟩
 refine JM gr lr b p Q (fun hh h2 k=>?_) fun hb hv=>?_
 ·obtain⟨I2,m⟩:=I.aJ k;have:(d.tD b p).over=d.over:=by
   unfold Dn.tD;rcases hh with rfl|hh
   ·rfl
   ·cases b with
    |true=>rfl
    |false=>cases ho:d.over with
     |none=>exact absurd (hvo.2 ho) hh
     |some q=>rw[ho]
  exact hQ _ (this▸I2) (k.x _)
 ·have ho:=hvo.1 hv;subst hb;have e:(d.tD false p).over=some p:=by unfold Dn.tD;rw[ho]
  have ne:A.r≠h.next:=by omega
  have K:aS h (h.alloc (.C [.I p.1,.I p.2])).2:=kT;have kx:aQ [A.r] h ((h.alloc (.C [.I p.1,.I p.2])).2.set A.r (.C [.P A.o,.P A.tb,.map (some A.fm),.map (some A.gm),.map (some A.um),.N,.map none,.Z,.I 0,.I 0,.P h.next])):=kX;have m:Move X X h ((h.alloc (.C [.I p.1,.I p.2])).2.set A.r (.C [.P A.o,.P A.tb,.map (some A.fm),.map (some A.gm),.map (some A.um),.N,.map none,.Z,.I 0,.I 0,.P h.next])):=(Move.k I.fr K).comp (Move.on _ (I.sup _ (by simp[PA.M])));have old:∀i∈A.M fo jm jF,i≠A.r->((h.alloc (.C [.I p.1,.I p.2])).2.set A.r (.C [.P A.o,.P A.tb,.map (some A.fm),.map (some A.gm),.map (some A.um),.N,.map none,.Z,.I 0,.I 0,.P h.next])).get i=h.get i:=fun i hi hr=>by
   rw[ah.aM,az hr];exact K.old i (I.xl i (I.sup i hi))
  have fr:cM ((h.alloc (.C [.I p.1,.I p.2])).2.set A.r (.C [.P A.o,.P A.tb,.map (some A.fm),.map (some A.gm),.map (some A.um),.N,.map none,.Z,.I 0,.I 0,.P h.next])):=fun j hj=>by
   rw[ah.aM,az (by simp at hj;omega)];exact K.fresh I.fr j hj
  refine hQ _ (I.next m fr kx.next (fun a ha hr _ _=>old a ha hr) ⟨.P h.next,by simp[PA.ob],?_⟩ ((old _ (by simp[PA.M]) n2.symm).trans I.gm) ((old _ (by simp[PA.M]) n3.symm).trans I.um)) kx;rw[e];exact⟨h.next,rfl,fun hx=>by have:=I.xl _ hx;omega,by simp[ne,ne.symm]⟩
def PI(A:PA)(S:Sc)(gn un:List (List UInt8))(X fo:List Nat)(jm jF:AV)(h:ah)(Q:Out->ah->Prop):Rs Int->Prop
 | .ok n d=>∀h2,tj A S gn un X fo jm jF d.over h2->aQ [A.r] h h2->Q (.ret (.I n)) h2
 | .err p=>∀h2,Move X X h h2->cM h2->Q (.iS (zq p)) h2
theorem tj.scalar{gn un:List (List UInt8)}{ov:Option Pl}(I:tj A S gn un X fo jm jF ov h)(ty:List UInt8)(hl:ty.length<=100000)(Q:Out->ah->Prop)(hQ:∀h2,aS h h2->Q (.ret (.bool (BN S ty))) h2):
 aV env 62 [.P A.r,.str ty] h Q:=by
 refine wb fn62 rfl ?_;obtain⟨v,c1,c2⟩:=I.r;simp only[PA.ob]at c1;simp[f62,c1];refine(Fv _ _ _ _ _ _ ty I.Ft.Ft I.fr om).mono fun out h3 hq=>?_;obtain⟨rfl,k3⟩:=hq;simp;exact hQ _ k3
theorem tj.size{gn un:List (List UInt8)}(I:tj A S gn un X fo jm jF d.over h)(hF:Fits S.es)(ty:List UInt8)(hl:ty.length<=100000)(p:Pl)(Q:Out->ah->Prop)(hQ:PI A S gn un X fo jm jF h Q (Ku S ty p d)):
 aV env 61 [.P A.r,.str ty,.agg [.I p.1,.I p.2]] h Q:=by
 refine wb fn61 rfl ?_;obtain⟨v,c1,c2⟩:=I.r;have rn:A.r≠h.next:=by have:=au I.fr c1;omega
 simp only[PA.ob]at c1;have K1:aS h (h.alloc (.C [.I p.1,.I p.2])).2:=kT;obtain⟨I1,m1⟩:=I.aJ K1;have gq:(h.alloc (.C [.I p.1,.I p.2])).2.get h.next=some (.C [.I p.1,.I p.2]):=sp
 have n1:=K1.next;simp[f61,c1,rn,rn.symm];generalize (h.alloc (.C [.I p.1,.I p.2])).2=h2 at*;refine(Ha _ _ _ _ _ _ ty I1.Ft.Ft I1.fr hF om).mono fun out h3 hq=>?_;obtain⟨rfl,k3⟩:=hq;have g3:=(k3.old _ (au I1.fr gq)).trans gq;obtain⟨I3,m3⟩:=I1.aJ k3;have n3:=k3.next;unfold Ku at hQ;generalize uD S.N S.es ty=z at*;obtain⟨n,al,er⟩:=z;simp[A2,g3];simp only at hQ;refine gy p _ _ _ _ (fun h4 e k4=>?_) fun h4 e k4=>?_
 ·have e':(!(er==5))=false:=e;rw[e']at hQ;simp;exact hQ _ ((m1.comp m3).comp (Move.k I3.fr k4)) (k4.fresh I3.fr)
 ·have e':(!(er==5))=true:=e;rw[e']at hQ;obtain⟨I4,m4⟩:=I3.aJ k4;have g4:=(k4.old _ (au I3.fr g3)).trans g3;have n4:=k4.next;simp[g4];refine I4.SU _ p _ fun h5 I5 m5=>?_;simp;exact hQ _ I5 ((((K1.trans k3).trans k4).x _).trans m5)
theorem FG:∀l:List Gl,(xh l).length=l.length*3
 |[]=>rfl
 |p::ps=>by
  have:=FG ps;simp only[xh,cY,j1,bO,ai,bz]at this⊢;omega
theorem Pu(l:List Gl)(g:Gl):xh (l++[g])=xh l++[.str g.nm,.str g.ty,.I g.sz]:=by simp[xh]
theorem tj.YF{gn un:List (List UInt8)}{ov:Option Pl}{H:ah}(I:tj A S gn un X fo jm jF ov h)(k:Move (A.o::(aK jm++aK jF)) [] h H)(i:Nat)(o:ej)(g:h.get i=some o)(hi:i=A.r\/i=A.gm\/i=A.um\/i∈fo):H.get i=some o:=by
 obtain⟨n1,n2,n3,n4,n5,n6,n7⟩:=I.ne;refine(k.aJ i o g fun hx=>?_).1;rcases aq.1 hx with rfl|hx
 ·rcases hi with hi|hi|hi|hi
  ·exact n1 hi.symm
  ·exact n4 hi
  ·exact n5 hi
  ·exact(n7 _ hi).2.1 rfl
 ·obtain⟨a1,a2,a3,a4,a5⟩:=I.Wm hx;rcases hi with hi|hi|hi|hi
  ·exact a1 hi
  ·exact a3 hi
  ·exact a4 hi
  ·exact a5 hi
theorem tj.N9{gn un:List (List UInt8)}{ov:Option Pl}(I:tj A S gn un X fo jm jF ov h){b:Nat}(h1:b∈aK jm)(h2:b∈aK jF):False:=by
 rcases I.ga with⟨_,_,e⟩|⟨x,e,_,g⟩
 ·rw[e]at h1;cases h1
 ·rcases I.fa with⟨_,e2⟩|⟨y,e2,_,g2⟩
  ·rw[e2]at h2;cases h2
  ·rw[e]at h1;rw[e2]at h2;simp[aK]at h1 h2;subst h1 h2;rw[g]at g2;simp at g2
theorem tj.afN{gn un:List (List UInt8)}{ov:Option Pl}(I:tj A S gn un X fo jm jF ov h){j:Nat}(gj:h.get j=none)(lj:j<h.next)(g:Gl)(hl:S.gs.length<=300):
 ∃H,aO env (h.set j (.cells true 3 [.str g.nm,.str g.ty,.I g.sz])) 67 jm (.S j 1)=some (.S h.next (S.gs.length+1),H)/\H.get A.o=h.get A.o/\H.get A.r=h.get A.r/\
  tj A {S with gs:=S.gs++[g]} gn un (h.next::X) fo (.S h.next (S.gs.length+1)) jF ov (H.set A.o (.C [A.tr,.S h.next (S.gs.length+1),jF,.I 0]))/\Move X (h.next::X) h (H.set A.o (.C [A.tr,.S h.next (S.gs.length+1),jF,.I 0]))/\h.next<=H.next:=by
 obtain⟨n1,n2,n3,n4,n5,n6,n7⟩:=I.ne;have mv:Move [] [] h (h.set j (.cells true 3 [.str g.nm,.str g.ty,.I g.sz])):=Move.new _ gj;have N0:cM (h.set j (.cells true 3 [.str g.nm,.str g.ty,.I g.sz])):=fun i hi=>by rw[ah.aM,az (by simp at hi;omega)];exact I.fr i hi
 obtain⟨H,ha,nx,g7,k7⟩:=nR (st:=67) (e:=154) rfl ty154.1 ty154.2.1 dc ty154.2.2.2 rfl (I.ga.move mv) (FG _) hl j [.str g.nm,.str g.ty,.I g.sz] rfl rfl sp N0;simp only[ah.qJ]at ha nx g7;have lo:A.o<h.next:=I.xl _ (I.sup _ (by simp[PA.M]));have na:A.o≠h.next:=om
 have mk:∀X,(∀x∈A.o::aK jm,x∈X)->Move X X h (H.set A.o (.C [A.tr,.S h.next (S.gs.length+1),jF,.I 0])):=fun X hX=>
  ((Move.new _ gj).comp (Move.of N0 k7 (fun z hz _=>hX z (by simp[hz])) fun _ hy=> .inl hy)).comp (Move.on _ (hX _ sp))
 have mM:Move X (h.next::X) h (H.set A.o (.C [A.tr,.S h.next (S.gs.length+1),jF,.I 0])):=
  (mk _ fun x hx=>I.sup _ (by rcases aq.1 hx with rfl|hx<;>simp[PA.M, *])).to I.fr fun y hy=>by
   rcases aq.1 hy with rfl|hy
   ·exact .inr (ao _)
   ·exact .inl hy
 have mZ:Move (A.o::(aK jm++aK jF)) [] h (H.set A.o (.C [A.tr,.S h.next (S.gs.length+1),jF,.I 0])):=(mk _ fun x hx=>by rcases aq.1 hx with rfl|hx<;>simp[*]).to I.fr sp;obtain⟨v,gr,ov⟩:=I.r;have oo:H.get A.o=h.get A.o:=by
  rw[k7.old A.o (by simpa using lo) fun hx=>(I.Wm (gS _ hx)).2.1 rfl,ah.aM,az]
  rintro rfl
  rw[I.o]at gj;cases gj
 have rr:H.get A.r=h.get A.r:=by
  rw[k7.old A.r (au I.fr gr) fun hx=>(I.Wm (gS _ hx)).1 rfl,ah.aM,az]
  rintro rfl
  rw[gr]at gj;cases gj
 refine⟨H,ha,oo,rr,⟨fun i hi=>?_,fun x hx=>?_,fun x hx=>?_,I.nd,⟨v,I.YF mZ _ _ gr (.inl rfl),ov.move mM⟩,sp,?_,?_,I.YF mZ _ _ I.gm (.inr (.inl rfl)),I.YF mZ _ _ I.um (.inr (.inr (.inl rfl))),.inr ⟨h.next,sp,sp,by simp[na.symm];rw[g7,Pu]⟩,?_,I.fl,fun n a s h1 h2=>?_⟩,mM,om⟩
 ·rw[ah.aM,az (by have:=hi;rw[ah.qJ]at this;omega)];exact k7.fresh N0 i hi
 ·simp only[PA.M,aq,aP]at hx;by_cases e:x=h.next
  ·simp[e]
  ·refine ay _ (I.sup x ?_);simp only[PA.M,aq,aP];rcases hx with e|e|e|e|e|e|e
   ·exact .inl e
   ·exact .inr (.inl e)
   ·exact .inr (.inr (.inl e))
   ·exact .inr (.inr (.inr (.inl e)))
   ·simp[aK]at e;omega
   ·exact .inr (.inr (.inr (.inr (.inr (.inl e)))))
   ·exact .inr (.inr (.inr (.inr (.inr (.inr e)))))
 ·rcases aq.1 hx with rfl|hx
  ·simp;omega
  ·have:=I.xl x hx;simp;omega
 ·have:=I.Ft.move mM (by simp;omega);exact⟨this.Ft,this.tx⟩
 ·have:=I.fm.move mM;exact⟨this.g,this.x⟩
 ·rcases I.fa with e|⟨b,e,hb,g⟩
  ·exact .inl e
  ·have hbf:b∈aK jF:=(by rw[e];simp[aK]);refine .inr ⟨b,e,hb,((mk (A.o::aK jm) fun _ h=>h).aJ b _ g fun hx=>?_).1⟩;rcases aq.1 hx with hx|hx
   ·exact(I.Wm (bJ _ hbf)).2.1 hx
   ·exact I.N9 hx hbf
 ·obtain⟨p,b,g,a1,a2⟩:=I.fs n a s h1 h2;exact⟨p,b,I.YF mZ _ _ g (.inr (.inr (.inr (bg h2)))),a1.move mM,a2.move mM⟩
theorem tj.afO{gn un:List (List UInt8)}{ov:Option Pl}(I:tj A S gn un X fo jm jF ov h){j:Nat}(gj:h.get j=none)(lj:j<h.next){a:Nat}(ax:a∈X)(an:a∉A.r::A.o::A.gm::A.um::fo)(s:Sg){p b:AV}(ga:h.get a=some (.C [.str s.nm,.str s.ty,p,b,.Z,.N]))
 (pa:kI X h p 1 s.ps.length (s.ps.map .str)) (pb:kI X h b 1 s.pb.length (s.pb.map .bool)) (hl:S.fs.length<=300):
 ∃H,aO env (h.set j (.cells true 1 [.P a])) 68 jF (.S j 1)=some (.S h.next (S.fs.length+1),H)/\H.get A.o=h.get A.o/\H.get A.r=h.get A.r/\
  tj A {S with fs:=S.fs++[s]} gn un (h.next::X) (fo++[a]) jm (.S h.next (S.fs.length+1)) ov (H.set A.o (.C [A.tr,jm,.S h.next (S.fs.length+1),.I 0]))/\Move X (h.next::X) h (H.set A.o (.C [A.tr,jm,.S h.next (S.fs.length+1),.I 0]))/\h.next<=H.next:=by
 obtain⟨n1,n2,n3,n4,n5,n6,n7⟩:=I.ne;have mv:Move [] [] h (h.set j (.cells true 1 [.P a])):=Move.new _ gj;have N0:cM (h.set j (.cells true 1 [.P a])):=fun i hi=>by rw[ah.aM,az (by simp at hi;omega)];exact I.fr i hi
 obtain⟨H,ha,nx,g7,k7⟩:=xW (st:=68) (e:=74) rfl ty74.1 ty74.2.1 dc ty74.2.2.2 (I.fa.move mv) (by simp[I.fl,hl]) j a () sp N0;simp only[ah.qJ,List.length_map,I.fl]at ha nx g7;have lo:A.o<h.next:=I.xl _ (I.sup _ (by simp[PA.M]));have na:A.o≠h.next:=om
 have mk:∀X,(∀x∈A.o::aK jF,x∈X)->Move X X h (H.set A.o (.C [A.tr,jm,.S h.next (S.fs.length+1),.I 0])):=fun X hX=>
  ((Move.new _ gj).comp (Move.of N0 k7 (fun z hz _=>hX z (by simp[hz])) fun _ hy=> .inl hy)).comp (Move.on _ (hX _ sp))
 have mM:Move X (h.next::X) h (H.set A.o (.C [A.tr,jm,.S h.next (S.fs.length+1),.I 0])):=
  (mk _ fun x hx=>I.sup _ (by rcases aq.1 hx with rfl|hx<;>simp[PA.M, *])).to I.fr fun y hy=>by
   rcases aq.1 hy with rfl|hy
   ·exact .inr (ao _)
   ·exact .inl hy
 have mZ:Move (A.o::(aK jm++aK jF)) [] h (H.set A.o (.C [A.tr,jm,.S h.next (S.fs.length+1),.I 0])):=(mk _ fun x hx=>by rcases aq.1 hx with rfl|hx<;>simp[*]).to I.fr sp;obtain⟨v,gr,ov⟩:=I.r;have oo:H.get A.o=h.get A.o:=by
  rw[k7.old A.o (by simpa using lo) fun hx=>(I.Wm (bJ _ hx)).2.1 rfl,ah.aM,az]
  rintro rfl
  rw[I.o]at gj;cases gj
 have rr:H.get A.r=h.get A.r:=by
  rw[k7.old A.r (au I.fr gr) fun hx=>(I.Wm (bJ _ hx)).1 rfl,ah.aM,az]
  rintro rfl
  rw[gr]at gj;cases gj
 have gaH:(H.set A.o (.C [A.tr,jm,.S h.next (S.fs.length+1),.I 0])).get a=some (.C [.str s.nm,.str s.ty,p,b,.Z,.N]):=by
  refine((mk (A.o::aK jF) fun _ h=>h).aJ a _ ga fun hx=>?_).1;rcases aq.1 hx with rfl|hx
  ·exact an sp
  ·rcases I.fa with⟨_,e⟩|⟨x,e,_,g⟩
   ·rw[e]at hx;cases hx
   ·rw[e]at hx;simp[aK]at hx;subst hx;rw[g]at ga;simp at ga
 refine⟨H,ha,oo,rr,⟨fun i hi=>?_,fun x hx=>?_,fun x hx=>?_,?_,⟨v,I.YF mZ _ _ gr (.inl rfl),ov.move mM⟩,sp,?_,?_,I.YF mZ _ _ I.gm (.inr (.inl rfl)),I.YF mZ _ _ I.um (.inr (.inr (.inl rfl))),?_,.inr ⟨h.next,by simp[I.fl],sp,by simp[na.symm];rw[g7];simp⟩,by simp[I.fl],fun n a' s' h1 h2=>?_⟩,mM,om⟩
 ·rw[ah.aM,az (by have:=hi;rw[ah.qJ]at this;omega)];exact k7.fresh N0 i hi
 ·simp only[PA.M,aq,aP]at hx;by_cases e:x=h.next
  ·simp[e]
  ·refine ay _ ?_;rcases hx with e|e|e|e|e|e|e|e
   ·exact I.sup x (by simp[PA.M,e])
   ·exact I.sup x (by simp[PA.M,e])
   ·exact I.sup x (by simp[PA.M,e])
   ·exact I.sup x (by simp[PA.M,e])
   ·exact I.sup x (by simp[PA.M,e])
   ·simp[aK]at e;omega
   ·exact I.sup x (by simp[PA.M,e])
   ·rcases e with e|e
    ·rw[e];exact ax
    ·cases e
 ·rcases aq.1 hx with rfl|hx
  ·simp;omega
  ·have:=I.xl x hx;simp;omega
 ·have nd:=I.nd;have:A.r::A.o::A.gm::A.um::(fo++[a])=(A.r::A.o::A.gm::A.um::fo)++[a]:=by simp
  rw[this,List.nodup_append];refine⟨nd,sp,fun x hx y hy e=>?_⟩;simp only[aR]at hy;subst hy e;exact an hx
 ·have:=I.Ft.move mM (by simp;omega);exact⟨this.Ft,this.tx⟩
 ·have:=I.fm.move mM;exact⟨this.g,this.x⟩
 ·rcases I.ga with e|⟨b,e,hb,g⟩
  ·exact .inl e
  ·have hbf:b∈aK jm:=(by rw[e];simp[aK]);refine .inr ⟨b,e,hb,((mk (A.o::aK jF) fun _ h=>h).aJ b _ g fun hx=>?_).1⟩;rcases aq.1 hx with hx|hx
   ·exact(I.Wm (gS _ hbf)).2.1 hx
   ·exact I.N9 hbf hx
 ·rcases eW n S.fs.length with hn|hn
  ·rw[iz hn]at h1;rw[iz (by rw[I.fl];exact hn)]at h2;obtain⟨p,b,g,a1,a2⟩:=I.fs n a' s' h1 h2;exact⟨p,b,I.YF mZ _ _ g (.inr (.inr (.inr (bg h2)))),a1.move mM,a2.move mM⟩
  ·rw[ji hn]at h1;rw[ji (by rw[I.fl];exact hn),I.fl]at h2;obtain⟨e,rfl⟩:n-S.fs.length=0/\s=s':=by
    cases hk:n-S.fs.length with
    |zero=>rw[hk]at h1;exact⟨rfl,by simpa using h1⟩
    |succ k=>rw[hk]at h1;simp at h1
   rw[e]at h2;obtain rfl:a=a':=(by simpa using h2);exact⟨p,b,gaH,pa.move mM,pb.move mM⟩
end
end
section
attribute [local simp] aI
section
variable{A:PA}{S:Sc}{X fo:List Nat}{jm jF:AV}{d:Dn}{h:ah}{id:Nat}{p:Pl}{ty nm:List UInt8}{Q:Out->ah->Prop}
theorem Wn(I:tj A S (S.gs.map Gl.nm) (S.fs.map Sg.nm) X fo jm jF d.over h)(it:sY X h id (.global p ty nm))(Gp:TL ty)(hg:S.gs.length<=300)(hF:Fits S.es)(hQ:PD A X h Q (EN S (.global p ty nm) d)):
 aV env 32 [.P A.r,.P id] h Q:=by
 refine wb fn32 rfl ?_;have it1:sY X h id (.global p ty nm):=it;obtain⟨g0,gY⟩:=it;obtain⟨v,gr,ov⟩:=I.r;simp only[PA.ob]at gr;have go:=I.o;have gg:=I.gm;simp[f32,g0];refine Dd ?_;rcases sS nm (S.gs.map Gl.nm) 0 0 with⟨f1,f2⟩|⟨n,k,f1,f2⟩
 rotate_left
 ·have fc:(S.gs.map Gl.nm).contains nm=true:=by
   cases hc:(S.gs.map Gl.nm).contains nm with
   |true=>rfl
   |false=>rw[sF.2 hc]at f1;cases f1
  simp[gr,gg,f2,g0];refine dm ?_;unfold EN at hQ;simp only[fc,Bool.not_true]at hQ;refine gy p false _ _ _ (fun h2 _ k2=>?_) fun _ e _=>by cases e
  have k:=((aS.refl h).bump _).trans k2;simp;exact hQ _ (Move.k I.fr k) (k.fresh I.fr)
 ·have fc:(S.gs.map Gl.nm).contains nm=false:=sF.1 f1;unfold EN at hQ;simp only[fc,uy,Rs.DA]at hQ;simp[gr,gg,f2,g0];refine dm ?_;refine gy p true _ _ _ (fun _ e _=>by cases e) fun h2 _ k2=>?_;have k:=((aS.refl h).bump _).trans k2;obtain⟨I2,m2⟩:=I.aJ k;obtain⟨g2,yY⟩:=it1.move m2;have n2:=k.next;clear k k2 gr gg go ov;obtain⟨v2,gr,ov⟩:=I2.r;simp only[PA.ob]at gr;have go:=I2.o;have gg:=I2.gm;obtain⟨ab,hgv⟩:∃ab,jm= .slice ab S.gs.length:=by
   rcases I.ga with⟨e,_,e3⟩|⟨b,e,_⟩
   ·exact⟨none,by rw[e3,e]⟩
   ·exact⟨_,e⟩
  rw[hgv]at go;obtain⟨q1,q2,q3,q4,q5,q6,q7⟩:=I.ne;have q8:id≠A.gm:=fun e=>yY (by rw[e];exact I.sup _ (by simp[PA.M]));simp;refine Dd ?_;simp[gr,gg,f2,g2,go,q1,q2,q4,q8,q1.symm,q2.symm,q4.symm,q8.symm];refine dl ?_;have ei:gd (S.gs.map Gl.nm++[nm]) 0=gd (S.gs.map Gl.nm) 0++[(.str nm,.I S.gs.length)]:=by rw[zf];simp
  have S3:∀k,tj A S (S.gs.map Gl.nm++[nm]) (S.fs.map Sg.nm) X fo jm jF d.over ((h2.bump k).set A.gm (.map (gd (S.gs.map Gl.nm) 0++[(.str nm,.I S.gs.length)])))/\Move X X h2 ((h2.bump k).set A.gm (.map (gd (S.gs.map Gl.nm) 0++[(.str nm,.I S.gs.length)]))):=fun k=>by
   obtain⟨Ik,mk⟩:=I2.aJ ((aS.refl h2).bump k);have m:=mk.comp (Move.on (h:=h2.bump k) (.map (gd (S.gs.map Gl.nm) 0++[(.str nm,.I S.gs.length)])) (I.sup A.gm (by simp[PA.M])));have old:∀i,i≠A.gm->((h2.bump k).set A.gm (.map (gd (S.gs.map Gl.nm) 0++[(.str nm,.I S.gs.length)]))).get i=h2.get i:=fun i hi=>by rw[ah.aM,az hi];rfl
   refine⟨I2.next m (fun j hj=>?_) sp (fun a ha _ hg _=>old a hg) ⟨v2,by rw[old _ q2];exact gr,ov.move m⟩ (by simp[ei]) (by rw[old _ q6.symm];exact I2.um),m⟩;rw[old j (fun e=>by have:=I2.xl A.gm (I2.sup _ (by simp[PA.M]));simp at hj;omega)];exact I2.fr j (by simp at hj;omega)
  refine Dd ?_;simp[gr,gg,f2,g2,go,q1,q2,q4,q8,q1.symm,q2.symm,q4.symm,q8.symm];have y0:=q1.symm;have y1:=q2.symm;have y2:=q4.symm;have y3:=q8.symm;refine dm ?_;have I3:=fun a b=>((S3 a).1.aJ ((aS.refl _).bump b))
  refine(I3 _ _).1.SU _ p _ fun h4 I4 k4=>?_;have m4:=(((m2.comp (S3 _).2).comp (I3 _ _).2).comp ((I3 _ _).1.mvk k4))
  have n24:h2.next<=h4.next:=bk (bk (qS _ _) (qS _ _)) k4.next;clear k4;have eb:decide ((S.gs.length:Int)<200)=decide (S.gs.length<200):=decide_eq_decide.2 om;rw[eb]at I4;clear I3 S3 gr gg go ov;obtain⟨g4,nx4⟩:=it1.move m4;obtain⟨v4,gr,ov⟩:=I4.r;simp only[PA.ob]at gr;have go:=I4.o;have go':=go;rw[hgv]at go';generalize hd4:d.tD (decide (S.gs.length<200)) p=d4 at*;simp;have y0:=q1.symm;have y1:=q2.symm;have y2:=q4.symm;have y3:=q8.symm;refine dl ?_;refine Dd ?_;simp[gr,g4,go',q1,q1.symm];have y0:=q1.symm;refine dl ?_;have IB:=fun a=>I4.aJ ((aS.refl h4).bump a);refine(IB _).1.size (d:=d4) hF ty (by unfold TL eR at Gp;omega) p _ ?_;generalize Ku S ty p d4=z at hQ⊢;cases z with
  |err q=>
   exact fun h5 m5 f5=>⟨dc,fun _=>by simpa using hQ _ ((m4.comp (IB _).2).comp m5) f5⟩
  |ok n d5=>
   intro h5 I5 k5;obtain⟨v5,gr5,ov5⟩:=I5.r;simp only[PA.ob]at gr5;have DM:=I5.o;have afP:=DM;rw[hgv]at afP;have g5:=(k5.old id (by have:=au I4.fr g4;simp;omega) (by have:id≠A.r:=fun e=>nx4 (by rw[e];exact I.sup _ (by simp[PA.M]));simpa using this)).trans g4;have f5:h5.get (h4.next+30)=none:=by
    have lr:=I4.xl A.r (I4.sup _ (by simp[PA.M]));rw[k5.old _ sp (by simp;omega)];exact I4.fr _ om
   have lt5:h4.next+30<h5.next:=(by have:=k5.next;simp at this;omega);obtain⟨H6,ha6,oo6,gr6,I6,m6,n6⟩:=I5.afN f5 lt5 ⟨nm,ty,n⟩ hg;rw[hgv]at ha6;rw[DM]at oo6;have n45:=k5.next;simp[-aO,f5];have y0:=q1.symm;refine dl ?_;simp only[]at ha6;rw[ha6];simp[-aO,oo6];rw[gr5]at gr6;have y0:=q1.symm;refine dl ?_;have m7:=(((m4.comp (IB 35).2).comp ((IB 35).1.mvk k5)).comp m6)
   exact hQ _ _ _ _ _ (by simpa using I6) (fun x hx=>ay _ hx) m7 (by simp at n45⊢;omega)
end
end
section
attribute [local simp] aI
theorem Hp:∀l:List Pm,(l.flatMap Pm.cells).length=l.length*5
 |[]=>rfl
 |p::ps=>by
  have:=Hp ps;simp only[ux,bO,ai,Pm.cells,bz]at this⊢;omega
theorem Mf:∀(fs:List Pm)(i:Nat)(f:Pm),fs[i]?=some f->List.take 5 (List.drop (i*5) (fs.flatMap Pm.cells))=f.cells
 |[],i,f,h=>by simp at h
 |p::ps,0,f,h=>by
  simp only[ed,bw]at h;subst h;simp[Pm.cells]
 |p::ps,i+1,f,h=>by
  have:=Mf ps i f (by simpa using h);rw[show(i+1)*5=i*5+1+1+1+1+1 by omega];simpa[Pm.cells]using this
theorem JP{st e:TypeId}{uB:Nat}{z:List AV}(hu:env.kQ st=some (.slice e))(hs:env.siz e=some 1)(hb:env.byt e=some uB)(MW:uB<=100)(hz:env.zer e=some z)(wB:z.length=1){h7:ah}(k j:Nat){av:AV}{n:Nat}{cs:List AV}(arr:dW [] h7 av 1 n cs)(hc:cs.length=n)(hn:n<=300)
 (x:AV) (hx:[x].all AV.scalar=true) (fr:cM h7) (hj:h7.next<=j) (hk:j<h7.next+k):
 ∃H,aO env ((h7.bump k).set j (.cells true 1 [x])) st av (.S j 1)=some (.S (h7.next+k) (n+1),H)/\H.next=h7.next+k+1/\H.get (h7.next+k)=some (.cells true 1 (cs++[x]))/\aQ (aK av) h7 H:=by
 have K:aS h7 ((h7.bump k).set j (.cells true 1 [x])):=aS.set _ hj (by simpa using hk) ((aS.refl h7).bump k);obtain⟨H,ha,nx,g,kx⟩:=nR (es:=0) hu hs hb MW hz wB (arr.move (Move.k fr K)) om hn j [x] rfl hx sp (K.fresh fr);exact⟨H,ha,by simpa using nx,by simpa using g,(K.x _).trans kx⟩
theorem aS.kx{a b c:ah}{Z:List Nat}(k:aS a b)(x:aQ Z b c)(hz:∀z∈Z,a.next<=z):aS a c:=
 ⟨bk k.next x.next,fun i hi=>(x.old i (aw hi k.next) fun hm=>by have:=hz i hm;omega).trans (k.old i hi),fun f=>x.fresh (k.fresh f)⟩
theorem dW.len{X:List Nat}{h:ah}{av:AV}{es n:Nat}{cs:List AV}(a:dW X h av es n cs):∃ab,av= .slice ab n:=by
 rcases a with⟨e,_,e3⟩|⟨b,e,_⟩
 ·exact⟨none,by rw[e3,e]⟩
 ·exact⟨_,e⟩
section
variable{A:PA}{S:Sc}{X fo:List Nat}{jm jF:AV}{d:Dn}{h:ah}{id:Nat}{p:Pl}{ty nm:List UInt8}{ps:List Pm}{b:Sm}{Q:Out->ah->Prop}
theorem Wp(I:tj A S (S.gs.map Gl.nm) (S.fs.map Sg.nm) X fo jm jF d.over h)(it:sY X h id (.func p ty nm ps b))(Gp:TL ty)(Ef:∀q∈ps,TL q.ty)(hn:ps.length<=300)(hg:S.fs.length<=300)(hF:Fits S.es)(hQ:PD A X h Q (EN S (.func p ty nm ps b) d)):
 aV env 32 [.P A.r,.P id] h Q:=by
 refine wb fn32 rfl ?_;have it1:sY X h id (.func p ty nm ps b):=it;obtain⟨pv0,vY,g0,gY,ap0,_⟩:=it;obtain⟨v,gr,ov⟩:=I.r;simp only[PA.ob]at gr;have go:=I.o;have gu:=I.um;have hl:ty.length<=100000:=by unfold TL eR at Gp;omega
 simp[f32,g0];generalize hco:(S.fs.map Sg.nm).contains nm=co at*;refine mq (Q:=fun x st=>x= .jL/\∃rg,st=⟨rg,238,h.bump 14,[],false⟩/\rg.get 0=some (.P A.r)/\rg.get 1=some (.P id)/\rg.get 7=some (.bool co)) ?_ ?_;rotate_left
 ·refine Dd ?_;rcases sS nm (S.fs.map Sg.nm) 0 0 with⟨f1,f2⟩|⟨n,k,f1,f2⟩
  ·obtain rfl:co=false:=(by rw[<-hco];exact sF.1 f1);simp[gr,gu,f2,g0]
  ·obtain rfl:co=true:=by
    rw[<-hco];cases hc:(S.fs.map Sg.nm).contains nm with
    |true=>rfl
    |false=>rw[sF.2 hc]at f1;cases f1
   simp[gr,gu,f2,g0]
 rintro x st ⟨rfl,rg,rfl,r0,r1,r7⟩
 have KB:=(aS.refl h).bump 14;obtain⟨IB,mB⟩:=I.aJ KB;have gB:(h.bump 14).get id=_:=g0;have nB:=KB.next;generalize h.bump 14=hb at*;simp;simp only[EN,hco]at hQ;generalize gJ:(!co&&(ty==[118,111,105,100]||BN S ty))=ok at*;obtain⟨R,hR⟩:∃R:bt->St->Prop,R=(fun x st=>∃h2 rg,aS hb h2/\st=⟨rg,238,h2,[],false⟩/\((x= .jL/\ok=true/\rg.get 0=some (.P A.r)/\rg.get 1=some (.P id))\/(x= .iS (zq p)/\ok=false))):=⟨_,rfl⟩
 refine mq (Q:=R) ?_ ?_;rotate_left
 ·refine jr [0,1,2,3,4,5,6,7,8,9,10,11,12,13,14,18,19,20,21,15,16,17,22] kr (by simp[ew,fh];rfl) kr ?_;have fin:∀(k:Nat)(h1:ah)(Q2:Out->ah->Prop),aS hb h1->(∀h2,ok=false->aS hb h2->Q2 (.iS (zq p)) h2)->(∀h2,ok=true->aS hb h2->Q2 (.ret (.iX [])) h2)->aV env 33 [.P A.r,.bool ok,.agg [.I p.1,.I p.2]] h1 Q2:=fun k h1 Q2 k1 q1 q2=>
   gy p ok _ _ _ (fun h2 e k2=>q1 h2 e (k1.trans k2)) fun h2 e k2=>q2 h2 e (k1.trans k2)
  cases co with
  |true=>
   obtain rfl:ok=false:=(by rw[<-gJ];rfl);simp[r0,r1,r7,gB];refine dl ?_;refine fin 0 _ _ kT (fun h2 e k2=>?_) fun h2 e k2=>by cases e
   exact⟨dc,fun _=>by rw[hR];exact⟨_,_,k2,rfl,.inr ⟨rfl,rfl⟩⟩⟩
  |false=>
   by_cases hv:ty=[118,111,105,100]
   ·obtain rfl:ok=true:=(by rw[<-gJ,hv];rfl);simp[r0,r1,r7,gB,hv];refine dl ?_;refine fin 0 _ _ kT (fun h2 e k2=>by cases e) fun h2 _ k2=>?_;simp[r0,r1,hv];refine dl ?_;rw[hR];exact⟨_,_,k2,rfl,.inl ⟨rfl,rfl,by simp[r0],by simp[r1]⟩⟩
   ·have tB:(ty==[118,111,105,100])=false:=aH.2 hv;obtain rfl:BN S ty=ok:=(by rw[<-gJ,tB];simp);simp[r0,r1,r7,gB,tB];refine dl ?_;refine(IB.aJ ((aS.refl _).bump _)).1.scalar ty hl _ fun h1 k1=>?_;have k1':=((aS.refl hb).bump _).trans k1;have g1:=(k1'.old _ (au IB.fr gB)).trans gB;simp[r0,r1,tB];refine dl ?_;refine fin 0 _ _ k1' (fun h2 e k2=>?_) fun h2 e k2=>?_
    ·exact⟨dc,fun _=>by rw[hR];exact⟨_,_,k2,rfl,.inr ⟨rfl,e⟩⟩⟩
    ·simp[r0,r1,tB];refine dl ?_;rw[hR];exact⟨_,_,k2,rfl,.inl ⟨rfl,e,by simp[r0],by simp[r1]⟩⟩
 clear gr go gu ov g0 gY r0 r1 r7 rg;rw[hR]
 rintro x st ⟨h2,rg,k2,rfl,⟨rfl,rfl,r0,r1⟩|⟨rfl,rfl⟩⟩
 rotate_left
 ·simp;exact hQ _ (mB.comp (Move.k IB.fr k2)) (k2.fresh IB.fr)
 simp;obtain⟨I2,m2⟩:=IB.aJ k2;replace m2:=mB.comp m2;have n2:h.next<=h2.next:=bk nB k2.next;clear k2 IB mB nB gB KB;simp only[Rs.DA]at hQ;obtain⟨ahk,ahl,g2,yY,ap2,_⟩:=it1.move m2;obtain⟨v2,gr,ov⟩:=I2.r;simp only[PA.ob]at gr;have go:=I2.o;have gu:=I2.um;obtain⟨q1,q2,q3,q4,q5,q6,q7⟩:=I2.ne;obtain⟨ab,Wq⟩:∃ab,jF= .slice ab S.fs.length:=by
  have:=I2.fl;rcases I2.fa with⟨e,e3⟩|⟨b,e,_⟩
  ·have:fo=[]:=(by simpa using e);exact⟨none,by rw[e3,<-I2.fl,this];rfl⟩
  ·exact⟨some (b,0),by rw[e,<-I2.fl];simp⟩
 rw[Wq]at go;have q8:id≠A.um:=fun e=>yY (by rw[e];exact I.sup _ (by simp[PA.M]));have f2:co=false:=by cases co with
  |true=>cases gJ
  |false=>rfl
 have f3:∀H,fq H (.str nm) (gd (S.fs.map Sg.nm) 0) 0=some none:=by
  rcases sS nm (S.fs.map Sg.nm) 0 0 with⟨_,f⟩|⟨n,k,f1,_⟩
  ·exact f
  ·rw[sF.2 (hco.trans f2)]at f1;cases f1
 refine Dd ?_;simp[gr,gu,f3,g2,go,r0,r1,q1,q3,q5,q8,q1.symm,q3.symm,q5.symm,q8.symm];refine dl ?_;have ei:gd (S.fs.map Sg.nm++[nm]) 0=gd (S.fs.map Sg.nm) 0++[(.str nm,.I S.fs.length)]:=by rw[zf];simp
 have S3:∀k,tj A S (S.gs.map Gl.nm) (S.fs.map Sg.nm++[nm]) X fo jm jF d.over ((h2.bump k).set A.um (.map (gd (S.fs.map Sg.nm) 0++[(.str nm,.I S.fs.length)])))/\Move X X h2 ((h2.bump k).set A.um (.map (gd (S.fs.map Sg.nm) 0++[(.str nm,.I S.fs.length)]))):=fun k=>by
  obtain⟨Ik,mk⟩:=I2.aJ ((aS.refl h2).bump k);have m:=mk.comp (Move.on (h:=h2.bump k) (.map (gd (S.fs.map Sg.nm) 0++[(.str nm,.I S.fs.length)])) (I.sup A.um (by simp[PA.M])));have old:∀i,i≠A.um->((h2.bump k).set A.um (.map (gd (S.fs.map Sg.nm) 0++[(.str nm,.I S.fs.length)]))).get i=h2.get i:=fun i hi=>by rw[ah.aM,az hi];rfl
  refine⟨I2.next m (fun j hj=>?_) sp (fun a ha _ _ hu=>old a hu) ⟨v2,by rw[old _ q3];exact gr,ov.move m⟩ (by rw[old _ q6];exact I2.gm) (by simp[ei]),m⟩;rw[old j (fun e=>by have:=I2.xl A.um (I2.sup _ (by simp[PA.M]));simp at hj;omega)];exact I2.fr j (by simp at hj;omega)
 obtain⟨h3,Hq⟩:∃h3,h3=(h2.bump 17).set A.um (.map (gd (S.fs.map Sg.nm) 0++[(.str nm,.I S.fs.length)])):=⟨_,rfl⟩
 obtain⟨I3,m3⟩:=S3 17;rw[<-Hq]at I3 m3;have n3:h2.next<=h3.next:=by rw[Hq];simp
 replace m3:=m2.comp m3;rw[<-Hq];clear Hq S3 gr go gu ov g2 yY ap2 q8;obtain⟨pv,ahm,g3,Uo,ap3,_⟩:=it1.move m3;refine Dd ?_;have f10:h3.get (h3.next+10)=none:=I3.fr _ om;have ni:id≠h3.next+10:=by have:=au I3.fr g3;omega
 have Ut:∃ab,pv= .slice ab ps.length:=by
  rcases ap3 with⟨e,_,e3⟩|⟨b,e,_⟩
  ·exact⟨none,by rw[e3,e]⟩
  ·exact⟨_,e⟩
 obtain⟨ab3,Ut⟩:=Ut;have g3':=g3;rw[Ut]at g3';simp[r0,r1,g3',f10,ni,ni.symm];have y0:=ni.symm;refine dl ?_;obtain⟨a,haa⟩:∃a,a=h3.next+10:=⟨_,rfl⟩
 have K4:∀k,11<=k->aS h3 ((h3.bump k).set (h3.next+10) (.C [.str nm,.str ty,.Z,.Z,.Z,.N])):=fun k hk=>aS.set _ om (by simp;omega) ((aS.refl h3).bump k);obtain⟨J,hJ⟩:∃J:Nat->St->Prop,J=(fun m x=>∃(i:Nat)(Uu bv:AV),i<=ps.length/\m=ps.length-i/\x.n=238/\x.ds=[]/\x.bI=false/\aS h3 x.h/\x.h.get a=some (.C [.str nm,.str ty,Uu,bv,.Z,.N])/\
  dW [] x.h Uu 1 i ((ps.take i).map fun q=> .str q.ty)/\dW [] x.h bv 1 i ((ps.take i).map fun q=> .bool q.Qp)/\(∀y∈aK Uu,h3.next<=y/\y≠a/\y∉aK bv)/\(∀y∈aK bv,h3.next<=y/\y≠a)/\
  PD A X h Q ((Me S (ps.drop i) d).bind fun _ d=> .ok {S with fs:=S.fs++[Pm.sg nm ty ps]} (d.tD (decide (ps.length<=6)) p))/\
  x.rg.get 0=some (.P A.r)/\x.rg.get 1=some (.P id)/\x.rg.get 8=some (.P a)/\x.rg.get 169=some (.slice ab3 ps.length)/\x.rg.get 170=some (.I ps.length)/\x.rg.get 171=some (.I i)):=⟨_,rfl⟩
 refine bW J ps.length ?_ ?_
 ·rw[hJ];exact⟨0,.Z,.Z,bX _,rfl,rfl,rfl,rfl,K4 _ om,by simp[haa],.inl ⟨rfl,rfl,rfl⟩,.inl ⟨rfl,rfl,rfl⟩,by simp[aK],by simp[aK],hQ,by simp[r0],by simp[r1],by simp[haa],sp,sp,sp⟩
 clear hQ r0 r1;intro m x hx;rw[hJ]at hx;obtain⟨rg,n',H,ds,bI⟩:=x;obtain⟨i,Uu,bv,hi,rfl,e1,e2,e3,kH,ga,V6,arb,ap,ab,hQ,r0,r1,r8,rl,rn,ri⟩:=hx;dsimp only at e1 e2 e3 kH ga V6 arb r0 r1 r8 rl rn ri;subst e1 e2 e3;obtain⟨IH,mH⟩:=I3.aJ kH;have gH:=(kH.old _ (au I3.fr g3)).trans g3;by_cases iH:i<ps.length
 ·have fW:(i:Int)<(ps.length:Int):=by omega
  have wi:IntKind.wrap .i64 ((i:Int)+1)=((i+1:Nat):Int):=by rw[wr om om];omega
  obtain⟨b0,rfl,vz⟩:∃b,ab3=some (b,0)/\h3.get b=some (.cells true 5 (ps.flatMap Pm.cells)):=by
   rcases ap3 with⟨e,_⟩|⟨b,e,hb,g⟩
   ·omega
   ·rw[e]at Ut;injection Ut with e _;exact⟨b,e.symm,g⟩
  have Sr:=(kH.old _ (au I3.fr vz)).trans vz;have fa:=Mf ps i ps[i] (aj iH);have fb:i*5+5<=(ps.flatMap Pm.cells).length:=by rw[Hp];omega
  have qV:ps.drop i=ps[i]::ps.drop (i+1):=ca iH;have AP:=bK iH;have uk:=aj iH;generalize ps[i]=q at*;generalize ps.flatMap Pm.cells=F at*;simp only[Pm.cells]at fa;have nH:=kH.next;have na:a≠H.next:=by have:=au IH.fr ga;omega
  simp[r0,r1,r8,rl,rn,ri,fW,iH,Sr,fa,fb];have K5:aS h3 ((H.alloc (.C [.I 0,.I 0,.bool false,.str [],.str []])).2.set H.next (.C [.I q.p.1,.I q.p.2,.bool q.Qp,.str q.ty,.str q.nm])):=kT;have K5':aS H ((H.alloc (.C [.I 0,.I 0,.bool false,.str [],.str []])).2.set H.next (.C [.I q.p.1,.I q.p.2,.bool q.Qp,.str q.ty,.str q.nm])):=kT;have gq:((H.alloc (.C [.I 0,.I 0,.bool false,.str [],.str []])).2.set H.next (.C [.I q.p.1,.I q.p.2,.bool q.Qp,.str q.ty,.str q.nm])).get H.next=some (.C [.I q.p.1,.I q.p.2,.bool q.Qp,.str q.ty,.str q.nm]):=by simp
  obtain⟨H5,hH5⟩:∃H5,H5=((H.alloc (.C [.I 0,.I 0,.bool false,.str [],.str []])).2.set H.next (.C [.I q.p.1,.I q.p.2,.bool q.Qp,.str q.ty,.str q.nm])):=⟨_,rfl⟩
  rw[<-hH5]at K5 K5' gq;obtain⟨I5,m5⟩:=I3.aJ K5;rw[qV]at hQ;simp only[Me]at hQ;have hlq:q.ty.length<=100000:=by have:=Ef q AP;unfold TL eR at this;omega
  rw[<-hH5];refine jr [0,1,2,3,5,6,4,7] kr (by simp[ew,fh];rfl) kr ?_;simp[r0,r1,gq];refine dl ?_;refine(I5.aJ ((aS.refl _).bump _)).1.scalar q.ty hlq _ fun h6 k6=>?_;have K6:=((aS.refl H5).bump _).trans k6;have NY:=(K6.old _ (au I5.fr gq)).trans gq;simp;refine dl ?_;refine gy q.p _ _ _ _ (fun h7 e k7=>?_) fun h7 e k7=>?_
  ·rw[e]at hQ;have k37:=(K5.trans K6).trans k7;exact⟨dc,fun _=>by simpa using hQ _ (m3.comp (Move.k I3.fr k37)) (k37.fresh I3.fr)⟩
  ·rw[e]at hQ;simp only[Rs.DA]at hQ;have k37:=(K5.trans K6).trans k7;have kH7:=(K5'.trans K6).trans k7;have g7:=(kH7.old _ (au IH.fr ga)).trans ga;have VU:=((K6.trans k7).old _ (au I5.fr gq)).trans gq;simp;refine dl ?_;have ar7:=V6.move (X:=[]) (Y:=[]) (Move.k IH.fr kH7);have br7:=arb.move (X:=[]) (Y:=[]) (Move.k IH.fr kH7);have Uv:=k37.fresh I3.fr;have n37:=k37.next;have la:a<h7.next:=au Uv g7;have lq:H.next<h7.next:=au Uv VU;have aa:h3.next<=a:=om;refine Dd ?_;have f8:h7.get (h7.next+8)=none:=Uv _ om;have na8:a≠h7.next+8:=om;have nq8:H.next≠h7.next+8:=om;obtain⟨H8,Oa,LV,g8,k8⟩:=JP (st:=38) (e:=9) rfl ty9.1 ty9.2.1 dc ty9.2.2.2 rfl 14 (h7.next+8) ar7 (by simp;omega) om (.str q.ty) sp Uv om om;obtain⟨Yq,afQ⟩:=ar7.len;rw[afQ]at g7 Oa;simp[-aO,r8,g7,VU,f8,na8,na8.symm,nq8,nq8.symm];have y0:=na8.symm;have y1:=nq8.symm;refine dl ?_;rw[Oa];have g78:=(k8.old a la fun hx=>(ap a hx).2.1 rfl).trans g7;have nqa:H.next∉aK Uu:=fun hx=>by
    rcases V6 with⟨_,_,e⟩|⟨x,e,_,g⟩
    ·rw[e]at hx;cases hx
    ·rw[e]at hx;simp[aK]at hx;subst hx;have:=au IH.fr g;omega
   have gq8:=(k8.old _ lq nqa).trans VU;simp[-aO,g78];have y0:=na8.symm;have y1:=nq8.symm;refine dl ?_;obtain⟨h9,hh9⟩:∃h9,h9=H8.set a (.C [.str nm,.str ty,.S (h7.next+14) (i+1),bv,.Z,.N]):=⟨_,rfl⟩
   rw[<-hh9];have k38:aS h3 H8:=k37.kx k8 fun z hz=>(ap z hz).1;have k39:aS h3 h9:=(by rw[hh9];exact aS.set _ aa om k38);have g9:h9.get a=some (.C [.str nm,.str ty,.S (h7.next+14) (i+1),bv,.Z,.N]):=(by rw[hh9];simp);have gq9:h9.get H.next=some (.C [.I q.p.1,.I q.p.2,.bool q.Qp,.str q.ty,.str q.nm]):=(by rw[hh9,ah.aM,az (iw na)];exact gq8);have fr9:=k39.fresh I3.fr;have n9:h9.next=h7.next+15:=(by rw[hh9];simp;omega);have ar9:dW [] h9 (.S (h7.next+14) (i+1)) 1 (i+1) ((ps.take i).map (fun q=> .str q.ty)++[.str q.ty]):= .inr ⟨_,rfl,sp,by rw[hh9,ah.aM,az om];exact g8⟩;have br9:dW [] h9 bv 1 i ((ps.take i).map fun q=> .bool q.Qp):=by
    rcases br7 with e|⟨x,e,hx,g⟩
    ·exact .inl e
    ·have hb:x∈aK bv:=(by rw[e];simp[aK]);exact .inr ⟨x,e,hx,by rw[hh9,ah.aM,az (ab x hb).2,k8.old x (au Uv g) fun hx=>(ap x hx).2.2 hb];exact g⟩
   refine Dd ?_;have f9:h9.get (h9.next+8)=none:=fr9 _ om;have na9:a≠h9.next+8:=om;have nq9:H.next≠h9.next+8:=om;obtain⟨H10,adx,afR,g10,Ig⟩:=JP (st:=39) (e:=4) rfl ty4.1 ty4.2.1 dc ty4.2.2.2 rfl 14 (h9.next+8) br9 (by simp;omega) om (.bool q.Qp) sp fr9 om om;obtain⟨bab,afS⟩:=br9.len;rw[afS]at g9 adx;simp[-aO,r8,g9,gq9,f9,na9,na9.symm,nq9,nq9.symm];have y0:=na9.symm;have y1:=nq9.symm;refine dl ?_;rw[adx];have afT:=(Ig.old a om fun hx=>(ab a hx).2 rfl).trans g9;simp[-aO,afT];have y0:=na9.symm;have y1:=nq9.symm;refine dl ?_;simp[ri,wi];have afU:aS h3 H10:=k39.kx Ig fun z hz=>(ab z hz).1;have afV:aS h3 (H10.set a (.C [.str nm,.str ty,.S (h7.next+14) (i+1),.S (h9.next+14) (i+1),.Z,.N])):=aS.set _ aa om afU;have tk:∀f:Pm->AV,(ps.take (i+1)).map f=(ps.take i).map f++[f q]:=fun f=>by
    rw[dG,uk];simp
   refine⟨ps.length-(i+1),om,?_⟩;rw[hJ];refine⟨i+1,.S (h7.next+14) (i+1),.S (h9.next+14) (i+1),iH,rfl,rfl,rfl,rfl,afV,sp,?_,.inr ⟨_,rfl,sp,?_⟩,?_,?_,hQ,by simp[r0],by simp[r1],by simp[r8],by simp[rl],by simp[rn],sp⟩
   ·rw[tk];refine .inr ⟨_,rfl,sp,?_⟩;rw[ah.aM,az om,Ig.old _ om]
    ·rcases ar9 with⟨e,_⟩|⟨x,e,_,g⟩
     ·omega
     ·injection e with e _;injection e with e;injection e with e _;subst e;exact g
    ·intro hx;rcases br7 with⟨_,_,e⟩|⟨x,e,_,g⟩
     ·rw[e]at hx;cases hx
     ·rw[e]at hx;simp[aK]at hx;have:=au Uv g;omega
   ·rw[tk,ah.aM,az om];exact g10
   ·intro y hy;simp only[aK,aR]at hy⊢;subst hy;exact⟨om,om,om⟩
   ·intro y hy;simp only[aK,aR]at hy;subst hy;exact⟨om,om⟩
 ·have np:i=ps.length:=by omega
  subst np;rw[dH]at V6 arb;rw[eQ]at hQ;simp only[Me,Rs.lI]at hQ;simp[r0,r1,r8,rl,rn,ri];refine Dd ?_;rw[Ut]at gH;simp[r0,r1,gH];refine dl ?_;have eb:decide ((ps.length:Int)<=6)=decide (ps.length<=6):=decide_eq_decide.2 om;have nH:=kH.next;have laH:=au IH.fr ga;obtain⟨Ia,ma⟩:=I3.more kH (a:=a) om laH;have IB:=fun k=>Ia.aJ ((aS.refl H).bump k);have nbr:a≠A.r:=fun e=>by have:=I3.xl A.r (I3.sup _ (by simp[PA.M]));omega
  have nir:id≠A.r:=fun e=>Uo (by rw[e];exact I3.sup _ (by simp[PA.M]));refine(IB _).1.SU _ p _ fun h4 I4 k4=>?_;rw[eb]at I4;have ga4:=(k4.old a (by simp;omega) (by simpa using nbr)).trans ga;have ahn:=(k4.old id (by have:=au IH.fr gH;simp;omega) (by simpa using nir)).trans gH;have ap4:∀(av:AV)(cs:List AV),dW [] H av 1 ps.length cs->(∀y∈aK av,h3.next<=y/\y≠a)->kI (a::X) h4 av 1 ps.length cs:=fun av cs ha hy=>by
   rcases ha with e|⟨b,e,_,g⟩
   ·exact .inl e
   ·obtain⟨y1,y2⟩:=hy b (by rw[e];simp[aK]);have hx:∀x∈X,x≠b:=fun x hx e=>by have:=I3.xl x hx;omega
    refine .inr ⟨b,true,e,fun hm=>?_,?_⟩
    ·rcases aq.1 hm with rfl|hm
     ·exact y2 rfl
     ·exact hx b hm rfl
    ·have nb:b≠A.r:=fun e=>hx A.r (I3.sup _ (by simp[PA.M])) e.symm;rw[k4.old b (by have:=au IH.fr g;simp;omega) (by simpa using nb)];exact g
  simp;refine dl ?_;refine Dd ?_;obtain⟨v4,gr,ov⟩:=I4.r;simp only[PA.ob]at gr;have go:=I4.o;rw[Wq]at go;have f12:h4.get (h4.next+12)=none:=I4.fr _ om;obtain⟨I4b,m4b⟩:=I4.aJ ((aS.refl h4).bump 17);have q9:a∉A.r::A.o::A.gm::A.um::fo:=fun hx=>by
   have pJ:a∈X:=I3.sup a (by
    simp only[PA.M,aq,aP]at hx⊢;rcases hx with e|e|e|e|e
    ·exact .inl e
    ·exact .inr (.inl e)
    ·exact .inr (.inr (.inl e))
    ·exact .inr (.inr (.inr (.inl e)))
    ·exact .inr (.inr (.inr (.inr (.inr (.inr e))))))
   have:=I3.xl a pJ;omega
  have px:=ap4 Uu _ V6 fun y hy=>⟨(ap y hy).1,(ap y hy).2.1⟩
  have bx:=ap4 bv _ arb ab;obtain⟨H6,ha6,oo6,rr6,I6,m6,n6⟩:=I4b.afO (j:=h4.next+12) f12 sp (a:=a) sp q9 (Pm.sg nm ty ps) (p:=Uu) (b:=bv) ga4 (by simpa[Pm.sg,uA]using px.move m4b) (by simpa[Pm.sg,uA]using bx.move m4b) hg;rw[Wq]at ha6;simp only[ah.kz]at ha6;simp[-aO,r0,r8,gr,go,f12,q1,q1.symm];have y0:=q1.symm;refine dl ?_;rw[ha6];have oo7:H6.get A.o=h4.get A.o:=oo6;have rr7:H6.get A.r=h4.get A.r:=rr6;rw[go]at oo7;rw[gr]at rr7;simp[-aO,oo7];have y0:=q1.symm;refine dl ?_;have mm:=((((m3.comp ma).comp (IB 12).2).comp ((IB 12).1.mvk k4)).comp m4b).comp m6;refine hQ _ _ _ _ _ (by simpa[Pm.sg]using I6) (fun x hx=>ay _ (ay _ hx)) mm ?_;have:=k4.next;simp at this n6⊢;omega
end
end
section
attribute [local simp] aI
section
variable{A:PA}{S:Sc}{X fo:List Nat}{jm jF:AV}{d:Dn}{h:ah}{id:Nat}{i:It}{Q:Out->ah->Prop}
theorem Pv(I:tj A S (S.gs.map Gl.nm) (S.fs.map Sg.nm) X fo jm jF d.over h)(it:sY X h id i)(hi:i.al PT)(hw:i.wt<=250)(hg:S.gs.length<=300)(hg2:S.fs.length<=300)(hF:Fits S.es)(hQ:PD A X h Q (EN S i d)):
 aV env 32 [.P A.r,.P id] h Q:=by
 cases i with
 |global p ty nm=>exact Wn I it hi.2 hg hF hQ
 |func p ty nm ps b=>exact Wp I it hi.2.1 (fun q hq=>(hi.2.2.1 q hq).2) (by simp only[It.wt]at hw;omega) hg2 hF hQ
 |struct p nm fs=>
  obtain⟨fv,g0,gY,_⟩:=it;refine wb fn32 rfl ?_;simp[f32,g0];exact hQ X fo jm jF h I (fun _ h=>h) (Move.refl _ _) (ao _)
end
def Cm:List It->List Sg
 |[]=>[]
 | .struct _ _ _::r=>Cm r
 | .global _ _ _::r=>Cm r
 | .func _ ty nm ps _::r=>Pm.sg nm ty ps::Cm r
theorem ua:∀(a b:List It),Cm (a++b)=Cm a++Cm b
 |[],b=>rfl
 | .struct p nm fs::r,b=>by simp[Cm,ua r b]
 | .global _ _ _::r,b=>by simp[Cm,ua r b]
 | .func _ _ _ _ _::r,b=>by simp[Cm,ua r b]
structure ady(S:Sc):Prop where
 g:∀g∈S.gs,g.ty.length<=eR
 f:∀g∈S.fs,g.ty.length<=eR/\g.ps.length<=300/\∀t∈g.ps,t.length<=eR
structure JQ(S S':Sc)(l:List It):Prop where
 N:S'.N=S.N
 es:S'.es=S.es
 fm:S'.fm=S.fm
 gl:S'.gs.length<=S.gs.length+l.length
 fs:S'.fs=S.fs++Cm l
 ok:ady S'
theorem Wr{S:Sc}{i:It}(d:Dn)(hi:i.al PT)(hw:i.wt<=250)(hS:ady S):(EN S i d).H (fun S' _=>JQ S S' [i]) fun _=>True:=by
 cases i with
 |struct p nm fs=>exact⟨rfl,rfl,rfl,sp,by simp[Cm],hS⟩
 |global p ty nm=>
  refine Rs.cQ trivial fun _=>?_;unfold Ku;refine Rs.bq (V:=fun _ _=>True) (Rs.cQ trivial fun _=>trivial) fun n d' _=>?_;refine⟨rfl,rfl,rfl,sp,by simp[Cm],⟨fun g hg=>?_,hS.f⟩⟩;rcases aP.1 hg with hg|hg
  ·exact hS.g g hg
  ·simp only[aR]at hg;subst hg;exact hi.2
 |func p ty nm ps b=>
  refine Rs.cQ trivial fun _=>?_;refine Rs.bq (V:=fun _ _=>True) ?_ fun n d' _=>?_
  ·have key:∀(ps:List Pm)(d:Dn),(Me S ps d).H (fun _ _=>True) fun _=>True:=fun ps=>by
    induction ps with
    |nil=>intro d;trivial
    |cons q l ih=>intro d;exact Rs.cQ trivial fun _=>ih d
   exact key ps d
  ·refine⟨rfl,rfl,rfl,sp,by simp[Cm],⟨hS.g,fun g hg=>?_⟩⟩;rcases aP.1 hg with hg|hg
   ·exact hS.f g hg
   ·simp only[aR]at hg;subst hg;simp only[It.wt]at hw;refine⟨hi.2.1,by simp[Pm.sg];omega,fun t ht=>?_⟩;simp only[Pm.sg,ow]at ht;obtain⟨q,hq,rfl⟩:=ht;exact(hi.2.2.1 q hq).2
theorem JQ.trans{S S' S2:Sc}{a b:List It}(x:JQ S S' a)(y:JQ S' S2 b):JQ S S2 (a++b):=
 ⟨y.N.trans x.N,y.es.trans x.es,y.fm.trans x.fm,by have:=x.gl;have:=y.gl;simp;omega,by rw[y.fs,x.fs,ua];simp,y.ok⟩
end
end Go.Proofs.YtgebeldoibkkpaaGreatDoor
