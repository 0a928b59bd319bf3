/- Lemmas for CheckPlaces; each states its own conditions. -/
import Derived.Test.YtgebeldoibkkpaaGreatDoorE
set_option maxRecDepth 100000
set_option maxHeartbeats 0
set_option linter.unusedVariables false
set_option linter.unusedSimpArgs false
set_option linter.unusedSectionVars false
namespace Go.Proofs.YtgebeldoibkkpaaGreatDoor
open Go.Am Tryz
section
attribute [local simp] aI
section
variable{X:List Nat}{Q:Out->ah->Prop}{r a:Nat}{W:List Wo}{el ec:Int}{k:Nat}{ws:List Wo}{nd fn dp:Nat}{h H H':ah}{iT cl:Nat}{d:SD}
theorem Cl.new{h1 h2:ah}(o o2:ej)(Uz:h1.get cl=some (.C [.P r]))(YQ:h.next<=cl)(ER:cl<h1.next)(k2:aS h1 h2)(hr:r<h.next):Cl r h h2.next cl ((h2.alloc o).2.set h2.next o2):=by
 have:=k2.next;exact⟨by rw[ah.aM,az om,ah.dz,az om];exact(k2.old cl ER).trans Uz,YQ,by simp;omega,om,om⟩
def SD.more(d:SD)(b id:Nat)(s:Sm):SD:=⟨d.kk,d.l,d.c,d.nm,d.ty,d.ev,d.tv,.S b (d.ss.length+1),d.eo,d.to,d.ss++[(id,s)]⟩
theorem Mk.push(m:Mk r X h iT cl d H)(p:iD r a W el ec k ws nd fn dp H)(cc:Cl r h iT cl H)(al:a<h.next){id:Nat}{s:Sm}(e:uT (aK d.av++iT::X) H id s){j:Nat}(g:H.get j=none)(hj:j<H.next)(Rf:h.next<=j)(hl:d.ss.length<=300):
 ∃H7,aO env (H.set j (.cells true 1 [.P id])) 172 d.av (.S j 1)=some (.S H.next (d.ss.length+1),H7)/\H7.get iT=some d.obj/\H7.next=H.next+1/\Mk r X h iT cl (d.more H.next id s) (H7.set iT (d.more H.next id s).obj)/\iD r a W el ec k ws nd fn dp (H7.set iT (d.more H.next id s).obj)/\Cl r h iT cl (H7.set iT (d.more H.next id s).obj):=by
 have p6:=p.new (.cells true 1 [.P id]) g hj;have WZ:∀Y,Move Y Y H (H.set j (.cells true 1 [.P id])):=fun Y=>Move.new _ g;have UE:iT≠j:=fun e=>by rw[<-e,m.get]at g;cases g
 have ncj:cl≠j:=fun e=>by rw[<-e,cc.get]at g;cases g
 have og:=m.arr.move (WZ _);have vA:(H.set j (.cells true 1 [.P id])).next=H.next:=rfl
 obtain⟨H7,ha,nx,g7,k7⟩:=xW (st:=172) (e:=107) rfl ty107.1 ty107.2.1 dc ty107.2.2.2 og hl j id s sp p6.fr;rw[vA]at ha nx g7;have hzn:∀z,z∈aK d.av->z≠r/\z≠a:=og.ne p6 (ay _ m.xo.r);have p7:=p6.app k7 hzn;have giT:H7.get iT=some d.obj:=by
  rw[k7.old iT (by rw[vA];exact m.lt) (fun hz=>(m.z iT hz).2.1 rfl),ah.aM,az UE];exact m.get
 have nr:=m.nr;have lo:=m.lo;have nia:iT≠a:=om
 have lt7:iT<H7.next:=by rw[nx];have:=m.lt;omega
 have BW:aQ [r] h H7:=(aQ.set _ m.kx (.inr Rf) hj).trans' k7 (fun z hz cX=>by have:=(m.z z hz).1;omega);have tA:∀y,y∈H.next::iT::X->y∈aK d.av++iT::X\/H.next<=y:=fun y hy=>by
  rcases aq.1 hy with rfl|hy
  ·exact .inr (ao _)
  ·exact .inl (bJ _ hy)
 have mv7:Move (aK d.av++iT::X) (H.next::iT::X) H H7:=(WZ _).comp (Move.of p6.fr k7 (fun z hz _=>gS _ hz) (fun y hy=>by rw[vA];exact tA y hy));have mvs:∀o,Move (H.next::iT::X) (H.next::iT::X) H7 (H7.set iT o):=fun o=>Move.on o (ay _ (aY ..));have mvc:∀o,Move (aK d.av++iT::X) (H.next::iT::X) H (H7.set iT o):=fun o=>mv7.comp (mvs o);have nHi:H.next≠iT:=by have:=m.lt;omega
 have nHX:H.next∉iT::X:=by
  intro hx;rcases aq.1 hx with hx|hx
  ·exact nHi hx
  ·have:=(m.xo.x m.kx).lt _ hx;omega
 refine⟨H7,ha,giT,nx,⟨sp,m.lo,lt7,aQ.set _ BW (.inr m.lo) lt7,m.xo,m.he.move (mvc _),m.ho.move (mvc _),.inr ⟨H.next,by simp[SD.more],nHX,?_⟩,?_,?_⟩,p7.put _ nr nia lt7,⟨?_,cc.lo,?_,cc.ne,cc.nr⟩⟩
 ·rw[ah.aM,az nHi,g7];rfl
 ·intro q hq;have hq:q∈d.ss++[(id,s)]:=hq;rcases aP.1 hq with hq|hq
  ·exact(m.sub q hq).move (mvc _)
  ·simp only[aR]at hq;subst hq;exact e.move (mvc _)
 ·intro z hz;have hz:z∈[H.next]:=hz;simp only[aR]at hz;subst hz;have:=m.lt;have:=m.kx.next;have:=cc.lt;exact⟨om,nHi,om,by simp[nx]⟩
 ·rw[ah.aM,az cc.ne,k7.old cl (by rw[vA];exact cc.lt) (fun hz=>(m.z cl hz).2.2.1 rfl),ah.aM,az ncj];exact cc.get
 ·simp[nx];have:=cc.lt;omega
end
end
section
attribute [local simp] aI
section
variable{X:List Nat}{Q:Out->ah->Prop}{r a:Nat}{W:List Wo}{el ec:Int}{k:Nat}{ws:List Wo}{nd fn dp:Nat}{h H H':ah}{iT cl:Nat}{d:SD}
theorem W0{b:Nat}{dh:List Wo}{so:Sm}(IH:Hv (nC .AF ws))(hG:G .AF b ws dh (.s so)):Spec .AF b ws dh (.s so):=by
 have jv:=hG.dJ;simp only[Tag.cap,Re.dJ]at jv;cases hG with
 |@AF _ o KM _ l ho hl=>
 intro r a W el ec k nd fn dp h X Q ok p xo hn hd hb hQ;refine wd fn57 rfl ?_;have Mq:KM.length+1<=250:=by have:=ok.len;have:=p.len;simp at this;omega
 have al:=p.al;have Ie:=p.rl;simp only[ai]at hn hd jv;have hll:=hl.len.1;simp[f57];refine D2 p om fun cl h1 Uz YQ ER p1 k1=>?_;simp;refine Bg p1 fun h2 k2=>?_;simp[FM];have m3:=Mk.new (cl:=cl) (.C [.I 0,.I 0,.I 0,.str [],.str [],.N,.N,.Z,.I 0]) (k1.trans (k2.x _)) xo 1 o.l o.c [] [];simp only[SD.obj]at m3;have p3:=(p1.aJ k2).aJ (show aS h2 ((h2.alloc (.C [.I 0,.I 0,.I 0,.str [],.str [],.N,.N,.Z,.I 0])).2.set h2.next (.C [.I 1,.I o.l,.I o.c,.str [],.str [],.N,.N,.Z,.I 0]))from kT);have cc3:=Cl.new (.C [.I 0,.I 0,.I 0,.str [],.str [],.N,.N,.Z,.I 0]) (.C [.I 1,.I o.l,.I o.c,.str [],.str [],.N,.N,.Z,.I 0]) Uz YQ ER k2 Ie;generalize (h2.alloc (.C [.I 0,.I 0,.I 0,.str [],.str [],.N,.N,.Z,.I 0])).2.set h2.next (.C [.I 1,.I o.l,.I o.c,.str [],.str [],.N,.N,.Z,.I 0])=h3 at*;generalize h2.next=iT at*;clear k2 p1 Uz YQ ER k1;refine jb p3 ho fun h4 p4 k4=>?_;have m4:=m3.call p3.fr k4;have cc4:=cc3.call k4;clear m3 cc3 p3 k4;simp;refine bW (fun m x=>∃cs k1 zy av qs l2,m=cs.length/\cs.length<=KM.length/\G .Uy b cs dh (.ss l2)/\qs.map Prod.snd++l2=l/\x.n=33/\x.ds=[.call 113 [.P cl]]/\x.bI=false/\Mk r X h iT cl ⟨1,o.l,o.c,[],[],.N,.N,av,none,none,qs⟩ x.h/\Cl r h iT cl x.h/\iD r a W el ec k1 cs zy fn (dp+1) x.h/\zy+cs.length<=nd+KM.length/\qs.length+cs.length<=KM.length/\
  x.rg.get 0=some (.P r)/\x.rg.get 3=some (.P iT)) KM.length ?_ ?_
 ·exact⟨KM,_,nd,.Z,[],l,rfl,ao _,hl,rfl,rfl,rfl,rfl,m4,cc4,p4,ao _,sp,sp,sp⟩
 clear m4 cc4 p4 h4 h3 hl
 rintro m ⟨rg,n,H,ds,bI⟩ ⟨cs,k1,zy,av,qs,l2,rfl,cX,fI,qZ,x1,x2,x3,mA,YS,pA,Kn,hqc,r0,r3⟩
 dsimp only at x1 x2 x3 mA YS pA r0 r3;subst x1 x2 x3;simp[r0];cases fI with
 |@Jt _ c _ hc=>
  refine gM pA hc fun h5 p5 k5=>?_;have m5:=mA.call pA.fr k5;have c5:=YS.call k5;have g5:=m5.get;simp only[SD.obj]at g5;simp at qZ Kn;simp[r0,r3,g5];refine m5.end p5 (.block o.at l) ⟨rfl,rfl,rfl,rfl,rfl,rfl,qZ⟩ om (by simp;omega) om fun id h6 s6 p6 k6=>?_;simp;refine iE p6 cl (c5.call k6).get om none _ fun h7 p7 k7=>?_;simp;exact hQ _ _ _ _ (s6.move (Move.r p6.fr ((xo.x m5.kx).x k6) k7)) jv (by simp;omega) p7 ((m5.kx.trans k6).trans k7)
 |@L6 _ _ cq _ s l3 hs ht HY uc=>
  have lg:=HY.len.2 rfl;refine cW _ pA hs ?_;simp[r0];refine Ap pA fun hA kA=>?_;replace mA:=mA.aJ pA.fr kA;replace YS:=YS.aJ kA;replace pA:=pA.aJ kA;clear kA H;simp[ht];refine Dd ?_;have gm:=mA.get;simp only[SD.obj,SD.more]at gm;simp[-aO,r0,r3,gm]
  repeat refine di ?_
  have KB:=(aS.refl hA).bump 8;have mb:=mA.aJ pA.fr KB;have cb:=YS.aJ KB;have pb:=pA.aJ KB;have f4:=pA.fr (hA.next+4) om;have lo4:=mA.kx.next;refine IH .dec b _ _ _ (by simp[nC,rB]<;>omega) HY r a W el ec _ _ fn (dp+1) _ _ _ ok pb mb.pQ om om om fun id k5 PL h5 s5 l5 n5 p5 ot=>?_;have m5:=mb.call pb.fr ot;have c5:=cb.call ot;have g5:=m5.get;simp only[SD.obj,SD.more]at g5;have o5:=ot.old (hA.next+4) sp (by have:=pA.rl;simp;omega);have Hy:=ot.next;simp[f4]at o5 Hy;simp[-aO]
  repeat refine di ?_
  simp[-aO,o5];obtain⟨H7,j8,g7,tX,m8,p8,c8⟩:=m5.push p5 c5 al s5 o5 om om (by simp;omega);simp only[SD.obj,SD.more]at j8 g7 m8 p8 c8;rw[j8];simp[-aO,r0,r3,g7]
  repeat refine di ?_
  exact⟨_,om,cq,rfl,om,_,_,_,_,l3,uc,by rw[j7,cj];exact qZ,m8,c8,p8,om,by simp;omega⟩
 |@L7 _ _ cq _ s l3 hs ht HY uc=>
  have lg:=HY.len.2 rfl;refine cW _ pA hs ?_;simp[r0];refine Ap pA fun hA kA=>?_;replace mA:=mA.aJ pA.fr kA;replace YS:=YS.aJ kA;replace pA:=pA.aJ kA;clear kA H;simp[ht];refine Dd ?_;have gm:=mA.get;simp only[SD.obj,SD.more]at gm;simp[-aO,r0,r3,gm]
  repeat refine di ?_
  have KB:=(aS.refl hA).bump 8;have mb:=mA.aJ pA.fr KB;have cb:=YS.aJ KB;have pb:=pA.aJ KB;have f4:=pA.fr (hA.next+4) om;have lo4:=mA.kx.next;refine IH .yi b _ _ _ (by simp[nC,rB]<;>omega) HY r a W el ec _ _ fn (dp+1) _ _ _ ok pb mb.pQ om om om fun id k5 PL h5 s5 l5 n5 p5 ot=>?_;have m5:=mb.call pb.fr ot;have c5:=cb.call ot;have g5:=m5.get;simp only[SD.obj,SD.more]at g5;have o5:=ot.old (hA.next+4) sp (by have:=pA.rl;simp;omega);have Hy:=ot.next;simp[f4]at o5 Hy;simp[-aO]
  repeat refine di ?_
  simp[-aO,o5];obtain⟨H7,j8,g7,tX,m8,p8,c8⟩:=m5.push p5 c5 al s5 o5 om om (by simp;omega);simp only[SD.obj,SD.more]at j8 g7 m8 p8 c8;rw[j8];simp[-aO,r0,r3,g7]
  repeat refine di ?_
  exact⟨_,om,cq,rfl,om,_,_,_,_,l3,uc,by rw[j7,cj];exact qZ,m8,c8,p8,om,by simp;omega⟩
end
end
section
attribute [local simp] aI
section
variable{X:List Nat}{Q:Out->ah->Prop}{r a:Nat}{W:List Wo}{el ec:Int}{k:Nat}{ws:List Wo}{nd fn dp:Nat}{h H H':ah}{iT cl:Nat}{d:SD}
theorem Move.on'{X:List Nat}{h H H':ah}{iT cl:Nat}{d:SD}{o:ej}(e:H.set iT o=H')(m:Mk r X h iT cl d H):Move (aK d.av++iT::X) (aK d.av++iT::X) H H':=by
 subst e;exact Move.on o (bJ _ (aY ..))
theorem JZ{b:Nat}{dh:List Wo}{so:Sm}(IH:Hv (nC .yi ws))(hG:G .yi b ws dh (.s so)):Spec .yi b ws dh (.s so):=by
 have jv:=hG.dJ;simp only[Tag.cap,Re.dJ]at jv;have W3:=hG.len.2 rfl;obtain⟨o,KM,rfl⟩:∃o KM,ws=o::KM:=by cases ws with|nil=>simp at W3|cons o KM=>exact⟨_,_,rfl⟩
 intro r a W el ec k nd fn dp h X Q ok p xo hn hd hb hQ;refine wd fn83 rfl ?_;have Mq:KM.length+1<=250:=by have:=ok.len;have:=p.len;simp at this;omega
 have al:=p.al;have Ie:=p.rl;simp only[ai]at hn hd jv W3 hQ;simp[f83];refine D2 p om fun cl h1 Uz YQ ER p1 k1=>?_;simp;refine Bg p1 fun h2 k2=>?_;simp[FM];have m3:=Mk.new (cl:=cl) (.C [.I 0,.I 0,.I 0,.str [],.str [],.N,.N,.Z,.I 0]) (k1.trans (k2.x _)) xo 0 o.l o.c [] [];simp only[SD.obj]at m3;have p3:=(p1.aJ k2).aJ (show aS h2 ((h2.alloc (.C [.I 0,.I 0,.I 0,.str [],.str [],.N,.N,.Z,.I 0])).2.set h2.next (.C [.I 0,.I o.l,.I o.c,.str [],.str [],.N,.N,.Z,.I 0]))from kT);have c3:=Cl.new (.C [.I 0,.I 0,.I 0,.str [],.str [],.N,.N,.Z,.I 0]) (.C [.I 0,.I o.l,.I o.c,.str [],.str [],.N,.N,.Z,.I 0]) Uz YQ ER k2 Ie;generalize (h2.alloc (.C [.I 0,.I 0,.I 0,.str [],.str [],.N,.N,.Z,.I 0])).2.set h2.next (.C [.I 0,.I o.l,.I o.c,.str [],.str [],.N,.N,.Z,.I 0])=h3 at*;generalize h2.next=iT at*;clear k2 p1 Uz YQ ER k1 p;cases hG with
 |@L8 b1 _ _ _ hs E9=>
  refine ru _ p3 ?_;simp[hs];refine IH .AF b1 _ _ _ (by simp[nC,rB]) E9 r a W el ec _ nd fn (dp+1) _ X _ ok p3 (xo.x m3.kx) hn (by simp;omega) om fun id k5 PL h5 s5 l5 n5 p5 ot=>?_;simp;refine iE p5 cl (c3.call ot).get om none _ fun h7 p7 k7=>?_;simp;exact hQ _ _ _ _ (s5.move (Move.r p5.fr ((xo.x m3.kx).x ot) k7)) jv n5 p7 ((m3.kx.trans ot).trans k7)
 |@L9 _ _ _ hc=>
  refine ru _ p3 ?_;simp[hc.du];refine gM p3 hc fun h5 p5 k5=>?_;have m5:=m3.call p3.fr k5;have c5:=c3.call k5;have g5:=m5.get;simp only[SD.obj,SD.more]at g5;simp[g5];obtain⟨h6,e6,m6,p6,Tg⟩:=m5.put p5 al ⟨2,o.l,o.c,[],[],.N,.N,.Z,none,none,[]⟩ rfl rfl (.inl ⟨rfl,rfl⟩) (.inl ⟨rfl,rfl⟩);simp only[SD.obj]at e6;have c6:=Tg c5;rw[e6];have gT:=m6.get;simp only[SD.obj,SD.more]at gT
  try simp[gT]
  refine m6.end p6 (.empty o.at) ⟨rfl,rfl,rfl,rfl,rfl,rfl,rfl⟩ om sp om fun id H0 ES wF uq=>?_;simp;refine iE wF cl (c6.call uq).get om none _ fun Pa ET yC=>?_;simp;exact hQ _ _ _ _ (ES.move (Move.r wF.fr ((xo.x m6.kx).x uq) yC)) jv (by simp<;>omega) ET ((m6.kx.trans uq).trans yC)
 |@YB b1 _ q c YT cq _ e0 s0 hi ho he hc hs tf=>
  have lE:=he.len.1;have lS:=hs.len.1;simp only[ai]at jv hn hd W3 Mq lE lS;refine ru _ p3 ?_;simp[hi.du];refine cW _ p3 (by simp[hi.du]) ?_;simp;refine gM p3 hi fun h4 p4 k4=>?_;have m4:=m3.call p3.fr k4;have c4:=c3.call k4;simp;refine xy ho (IH (.bin 0) b1 YT _ _ (by simp[nC,rB];omega) he) hc ok p4 m4.pQ om om om fun Oi kE ndE hE eE lE nE pE Th=>?_;have mE:=m4.call p4.fr Th;have cE:=c4.call Th;have gE:=mE.get;simp only[SD.obj]at gE;simp[gE];obtain⟨hP,eP,mP,pP,Ti⟩:=mE.put pE al ⟨6,o.l,o.c,[],[],.N,.N,.Z,none,none,[]⟩ rfl rfl (.inl ⟨rfl,rfl⟩) (.inl ⟨rfl,rfl⟩);simp only[SD.obj]at eP;have cP:=Ti cE;obtain⟨h6,e6,m6,p6,Tg⟩:=mP.put pP al ⟨6,o.l,o.c,[],[],.P Oi,.N,.Z,some e0,none,[]⟩ rfl rfl (.inr ⟨Oi,e0,rfl,rfl,eE.move (Move.on' eP mE)⟩) (.inl ⟨rfl,rfl⟩);simp only[SD.obj]at e6;have c6:=Tg cP;rw[eP,e6]
  try simp
  refine Dd ?_;have gm:=m6.get;simp only[SD.obj,SD.more]at gm;simp[-aO,gm]
  repeat refine di ?_
  have KB:=(aS.refl h6).bump 8;have mb:=m6.aJ p6.fr KB;have cb:=c6.aJ KB;have pb:=p6.aJ KB;have f4:=p6.fr (h6.next+4) om;have lo4:=m6.kx.next;refine IH .yi b1 _ _ _ (by simp[nC,rB]<;>omega) hs r a W el ec _ _ fn (dp+1) _ _ _ ok pb mb.pQ om om om fun id k5 PL h5 s5 l5 n5 p5 ot=>?_;have m5:=mb.call pb.fr ot;have c5:=cb.call ot;have g5:=m5.get;simp only[SD.obj,SD.more]at g5;have o5:=ot.old (h6.next+4) sp (by have:=p6.rl;simp;omega);have Hy:=ot.next;simp[f4]at o5 Hy;simp[-aO]
  repeat refine di ?_
  simp[-aO,o5];obtain⟨H7,j8,g7,tX,m8,p8,c8⟩:=m5.push p5 c5 al s5 o5 om om (by simp<;>omega);simp only[SD.obj,SD.more,bz,cd,eY]at j8 g7 m8 p8 c8;rw[j8];simp[-aO,g7]
  repeat refine di ?_
  refine cW _ p8 tf ?_;simp;have gT:=m8.get;simp only[SD.obj,SD.more]at gT
  try simp[gT]
  refine m8.end p8 (.ifs o.at e0 s0) ⟨rfl,rfl,rfl,rfl,rfl,rfl,rfl⟩ om sp om fun id H0 ES wF uq=>?_;simp;refine iE wF cl (c8.call uq).get om none _ fun Pa ET yC=>?_;simp;exact hQ _ _ _ _ (ES.move (Move.r wF.fr ((xo.x m8.kx).x uq) yC)) jv (by simp<;>omega) ET ((m8.kx.trans uq).trans yC)
 |@JK b1 _ q c f YT cq eK _ e0 s0 s1 hi ho he hc hs hel ht=>
  have lE:=he.len.1;have lS:=hs.len.1;have lT:=ht.len.1;simp only[ai]at jv hn hd W3 Mq lE lS lT;refine ru _ p3 ?_;simp[hi.du];refine cW _ p3 (by simp[hi.du]) ?_;simp;refine gM p3 hi fun h4 p4 k4=>?_;have m4:=m3.call p3.fr k4;have c4:=c3.call k4;simp;refine xy ho (IH (.bin 0) b1 YT _ _ (by simp[nC,rB];omega) he) hc ok p4 m4.pQ om om om fun Oi kE ndE hE eE lE nE pE Th=>?_;have mE:=m4.call p4.fr Th;have cE:=c4.call Th;have gE:=mE.get;simp only[SD.obj]at gE;simp[gE];obtain⟨hP,eP,mP,pP,Ti⟩:=mE.put pE al ⟨6,o.l,o.c,[],[],.N,.N,.Z,none,none,[]⟩ rfl rfl (.inl ⟨rfl,rfl⟩) (.inl ⟨rfl,rfl⟩);simp only[SD.obj]at eP;have cP:=Ti cE;obtain⟨h6,e6,m6,p6,Tg⟩:=mP.put pP al ⟨6,o.l,o.c,[],[],.P Oi,.N,.Z,some e0,none,[]⟩ rfl rfl (.inr ⟨Oi,e0,rfl,rfl,eE.move (Move.on' eP mE)⟩) (.inl ⟨rfl,rfl⟩);simp only[SD.obj]at e6;have c6:=Tg cP;rw[eP,e6]
  try simp
  refine Dd ?_;have gm:=m6.get;simp only[SD.obj,SD.more]at gm;simp[-aO,gm]
  repeat refine di ?_
  have KB:=(aS.refl h6).bump 8;have mb:=m6.aJ p6.fr KB;have cb:=c6.aJ KB;have pb:=p6.aJ KB;have f4:=p6.fr (h6.next+4) om;have lo4:=m6.kx.next;refine IH .yi b1 _ _ _ (by simp[nC,rB]<;>omega) hs r a W el ec _ _ fn (dp+1) _ _ _ ok pb mb.pQ om om om fun id k5 PL h5 s5 l5 n5 p5 ot=>?_;have m5:=mb.call pb.fr ot;have c5:=cb.call ot;have g5:=m5.get;simp only[SD.obj,SD.more]at g5;have o5:=ot.old (h6.next+4) sp (by have:=p6.rl;simp;omega);have Hy:=ot.next;simp[f4]at o5 Hy;simp[-aO]
  repeat refine di ?_
  simp[-aO,o5];obtain⟨H7,j8,g7,tX,m8,p8,c8⟩:=m5.push p5 c5 al s5 o5 om om (by simp<;>omega);simp only[SD.obj,SD.more,bz,cd,eY]at j8 g7 m8 p8 c8;rw[j8];simp[-aO,g7]
  repeat refine di ?_
  simp only[ai]at n5;refine gM p8 hel fun h9 p9 k9=>?_;have m9:=m8.call p8.fr k9;have c9:=c8.call k9;clear m8 c8 p8 k9 m5 c5 g5 o5 Hy mb cb pb f4 gm KB;simp;refine Dd ?_;have gm:=m9.get;simp only[SD.obj,SD.more]at gm;simp[-aO,gm]
  repeat refine di ?_
  have KB:=(aS.refl h9).bump 8;have mb:=m9.aJ p9.fr KB;have cb:=c9.aJ KB;have pb:=p9.aJ KB;have f4:=p9.fr (h9.next+4) om;have lo4:=m9.kx.next;refine IH .yi b1 _ _ _ (by simp[nC,rB]<;>omega) ht r a W el ec _ _ fn (dp+1) _ _ _ ok pb mb.pQ om om om fun idF k5 PL h5 s5 l5 n5 p5 ot=>?_;have m5:=mb.call pb.fr ot;have c5:=cb.call ot;have g5:=m5.get;simp only[SD.obj,SD.more]at g5;have o5:=ot.old (h9.next+4) sp (by have:=p9.rl;simp;omega);have Hy:=ot.next;simp[f4]at o5 Hy;simp[-aO]
  repeat refine di ?_
  simp[-aO,o5];obtain⟨H7,j8,g7,tX,m8,p8,c8⟩:=m5.push p5 c5 al s5 o5 om om (by simp<;>omega);simp only[SD.obj,SD.more,bz,cd,eY]at j8 g7 m8 p8 c8;rw[j8];simp[-aO,g7]
  repeat refine di ?_
  have gT:=m8.get;simp only[SD.obj,SD.more]at gT
  try simp[gT]
  refine m8.end p8 (.LO o.at e0 s0 s1) ⟨rfl,rfl,rfl,rfl,rfl,rfl,rfl⟩ om sp om fun id H0 ES wF uq=>?_;simp;refine iE wF cl (c8.call uq).get om none _ fun Pa ET yC=>?_;simp;exact hQ _ _ _ _ (ES.move (Move.r wF.fr ((xo.x m8.kx).x uq) yC)) jv (by simp<;>omega) ET ((m8.kx.trans uq).trans yC)
 |@xq b1 _ q c YT cq _ e0 s0 hi ho he hc hs=>
  have lE:=he.len.1;have lS:=hs.len.1;simp only[ai]at jv hn hd W3 Mq lE lS;refine ru _ p3 ?_;simp[hi.du];refine cW _ p3 (by simp[hi.du]) ?_;simp;refine cW _ p3 (by simp[hi.du]) ?_;simp;refine gM p3 hi fun h4 p4 k4=>?_;have m4:=m3.call p3.fr k4;have c4:=c3.call k4;simp;refine xy ho (IH (.bin 0) b1 YT _ _ (by simp[nC,rB];omega) he) hc ok p4 m4.pQ om om om fun Oi kE ndE hE eE lE nE pE Th=>?_;have mE:=m4.call p4.fr Th;have cE:=c4.call Th;have gE:=mE.get;simp only[SD.obj]at gE;simp[gE];obtain⟨hP,eP,mP,pP,Ti⟩:=mE.put pE al ⟨7,o.l,o.c,[],[],.N,.N,.Z,none,none,[]⟩ rfl rfl (.inl ⟨rfl,rfl⟩) (.inl ⟨rfl,rfl⟩);simp only[SD.obj]at eP;have cP:=Ti cE;obtain⟨h6,e6,m6,p6,Tg⟩:=mP.put pP al ⟨7,o.l,o.c,[],[],.P Oi,.N,.Z,some e0,none,[]⟩ rfl rfl (.inr ⟨Oi,e0,rfl,rfl,eE.move (Move.on' eP mE)⟩) (.inl ⟨rfl,rfl⟩);simp only[SD.obj]at e6;have c6:=Tg cP;rw[eP,e6]
  try simp
  refine Dd ?_;have gm:=m6.get;simp only[SD.obj,SD.more]at gm;simp[-aO,gm]
  repeat refine di ?_
  have KB:=(aS.refl h6).bump 8;have mb:=m6.aJ p6.fr KB;have cb:=c6.aJ KB;have pb:=p6.aJ KB;have f4:=p6.fr (h6.next+4) om;have lo4:=m6.kx.next;refine IH .yi b1 _ _ _ (by simp[nC,rB]<;>omega) hs r a W el ec _ _ fn (dp+1) _ _ _ ok pb mb.pQ om om om fun id k5 PL h5 s5 l5 n5 p5 ot=>?_;have m5:=mb.call pb.fr ot;have c5:=cb.call ot;have g5:=m5.get;simp only[SD.obj,SD.more]at g5;have o5:=ot.old (h6.next+4) sp (by have:=p6.rl;simp;omega);have Hy:=ot.next;simp[f4]at o5 Hy;simp[-aO]
  repeat refine di ?_
  simp[-aO,o5];obtain⟨H7,j8,g7,tX,m8,p8,c8⟩:=m5.push p5 c5 al s5 o5 om om (by simp<;>omega);simp only[SD.obj,SD.more,bz,cd,eY]at j8 g7 m8 p8 c8;rw[j8];simp[-aO,g7]
  repeat refine di ?_
  have gT:=m8.get;simp only[SD.obj,SD.more]at gT
  try simp[gT]
  refine m8.end p8 (.LP o.at e0 s0) ⟨rfl,rfl,rfl,rfl,rfl,rfl,rfl⟩ om sp om fun id H0 ES wF uq=>?_;simp;refine iE wF cl (c8.call uq).get om none _ fun Pa ET yC=>?_;simp;exact hQ _ _ _ _ (ES.move (Move.r wF.fr ((xo.x m8.kx).x uq) yC)) jv (by simp<;>omega) ET ((m8.kx.trans uq).trans yC)
 |@Ma _ _ c _ hi hc=>
  simp only[ai]at jv hn hd W3 Mq;refine ru _ p3 ?_;simp[hi.du];refine cW _ p3 (by simp[hi.du]) ?_;simp;refine cW _ p3 (by simp[hi.du]) ?_;simp;refine cW _ p3 (by simp[hi.du]) ?_;simp;have KA:=(aS.refl h3).alloc (.cells true 1 [.str [98,114,101,97,107],.str [99,111,110,116,105,110,117,101]]);have m4:=m3.aJ p3.fr KA;have c4:=c3.aJ KA;have p4:=p3.aJ KA;refine qg _ [[98,114,101,97,107],[99,111,110,116,105,110,117,101]] true sp dc p4 ?_;generalize (h3.alloc (.cells true 1 [.str [98,114,101,97,107],.str [99,111,110,116,105,110,117,101]])).2=h4 at*;have qb:anyS (o::c::dh) [[98,114,101,97,107],[99,111,110,116,105,110,117,101]]=true:=by simp[anyS,hi.du]
  simp[qb];have g4:=m4.get;simp only[SD.obj,SD.more]at g4;simp[g4];obtain⟨h5,e5,m5,p5,cc5⟩:=m4.put p4 al ⟨9,o.l,o.c,[],[],.N,.N,.Z,none,none,[]⟩ rfl rfl (.inl ⟨rfl,rfl⟩) (.inl ⟨rfl,rfl⟩);simp only[SD.obj]at e5;have c5:=cc5 c4;rw[e5]
  try simp
  refine py p5 fun h6 p6 k6=>?_;have m6:=m5.call p5.fr k6;have c6:=c5.call k6;have g6:=m6.get;simp only[SD.obj,SD.more]at g6;simp[Wo.cells,hi.t,g6];obtain⟨h7,e7,m7,p7,cc7⟩:=m6.put p6 al ⟨8,o.l,o.c,[],[],.N,.N,.Z,none,none,[]⟩ rfl rfl (.inl ⟨rfl,rfl⟩) (.inl ⟨rfl,rfl⟩);simp only[SD.obj]at e7;have c7:=cc7 c6;rw[e7]
  try simp
  refine jb p7 hc fun h8 p8 k8=>?_;have m8:=m7.call p7.fr k8;have c8:=c7.call k8;have gT:=m8.get;simp only[SD.obj,SD.more]at gT
  try simp[gT]
  refine m8.end p8 (.NP o.at) ⟨rfl,rfl,rfl,rfl,rfl,rfl,rfl⟩ om sp om fun id H0 ES wF uq=>?_;simp;refine iE wF cl (c8.call uq).get om none _ fun Pa ET yC=>?_;simp;exact hQ _ _ _ _ (ES.move (Move.r wF.fr ((xo.x m8.kx).x uq) yC)) jv (by simp<;>omega) ET ((m8.kx.trans uq).trans yC)
 |@DV _ _ c _ hi hc=>
  simp only[ai]at jv hn hd W3 Mq;refine ru _ p3 ?_;simp[hi.du];refine cW _ p3 (by simp[hi.du]) ?_;simp;refine cW _ p3 (by simp[hi.du]) ?_;simp;refine cW _ p3 (by simp[hi.du]) ?_;simp;have KA:=(aS.refl h3).alloc (.cells true 1 [.str [98,114,101,97,107],.str [99,111,110,116,105,110,117,101]]);have m4:=m3.aJ p3.fr KA;have c4:=c3.aJ KA;have p4:=p3.aJ KA;refine qg _ [[98,114,101,97,107],[99,111,110,116,105,110,117,101]] true sp dc p4 ?_;generalize (h3.alloc (.cells true 1 [.str [98,114,101,97,107],.str [99,111,110,116,105,110,117,101]])).2=h4 at*;have qb:anyS (o::c::dh) [[98,114,101,97,107],[99,111,110,116,105,110,117,101]]=true:=by simp[anyS,hi.du]
  simp[qb];have g4:=m4.get;simp only[SD.obj,SD.more]at g4;simp[g4];obtain⟨h5,e5,m5,p5,cc5⟩:=m4.put p4 al ⟨9,o.l,o.c,[],[],.N,.N,.Z,none,none,[]⟩ rfl rfl (.inl ⟨rfl,rfl⟩) (.inl ⟨rfl,rfl⟩);simp only[SD.obj]at e5;have c5:=cc5 c4;rw[e5]
  try simp
  refine py p5 fun h6 p6 k6=>?_;have m6:=m5.call p5.fr k6;have c6:=c5.call k6;have g6:=m6.get;simp only[SD.obj,SD.more]at g6;simp[Wo.cells,hi.t,g6];have m7:=m6;have p7:=p6;have c7:=c6;refine jb p7 hc fun h8 p8 k8=>?_;have m8:=m7.call p7.fr k8;have c8:=c7.call k8;have gT:=m8.get;simp only[SD.obj,SD.more]at gT
  try simp[gT]
  refine m8.end p8 (.cont o.at) ⟨rfl,rfl,rfl,rfl,rfl,rfl,rfl⟩ om sp om fun id H0 ES wF uq=>?_;simp;refine iE wF cl (c8.call uq).get om none _ fun Pa ET yC=>?_;simp;exact hQ _ _ _ _ (ES.move (Move.r wF.fr ((xo.x m8.kx).x uq) yC)) jv (by simp<;>omega) ET ((m8.kx.trans uq).trans yC)
 |@DW _ _ c _ hi hc=>
  simp only[ai]at jv hn hd W3 Mq;refine ru _ p3 ?_;simp[hi.du];refine cW _ p3 (by simp[hi.du]) ?_;simp;refine cW _ p3 (by simp[hi.du]) ?_;simp;refine cW _ p3 (by simp[hi.du]) ?_;simp;have KA:=(aS.refl h3).alloc (.cells true 1 [.str [98,114,101,97,107],.str [99,111,110,116,105,110,117,101]]);have m4:=m3.aJ p3.fr KA;have c4:=c3.aJ KA;have p4:=p3.aJ KA;refine qg _ [[98,114,101,97,107],[99,111,110,116,105,110,117,101]] true sp dc p4 ?_;generalize (h3.alloc (.cells true 1 [.str [98,114,101,97,107],.str [99,111,110,116,105,110,117,101]])).2=h4 at*;have qb:anyS (o::c::dh) [[98,114,101,97,107],[99,111,110,116,105,110,117,101]]=false:=by simp[anyS,hi.du,hi.du]
  simp[qb];refine gM p4 hi fun h5 p5 k5=>?_;have m5:=m4.call p4.fr k5;have c5:=c4.call k5;have g5:=m5.get;simp only[SD.obj,SD.more]at g5;simp[g5];obtain⟨h6,e6,m6,p6,Tg⟩:=m5.put p5 al ⟨10,o.l,o.c,[],[],.N,.N,.Z,none,none,[]⟩ rfl rfl (.inl ⟨rfl,rfl⟩) (.inl ⟨rfl,rfl⟩);simp only[SD.obj]at e6;have c6:=Tg c5;rw[e6]
  try simp
  refine ru _ p6 ?_;simp[hc.du];refine jb p6 hc fun h8 p8 k8=>?_;have m8:=m6.call p6.fr k8;have c8:=c6.call k8;have gT:=m8.get;simp only[SD.obj,SD.more]at gT
  try simp[gT]
  refine m8.end p8 (.ret o.at none) ⟨rfl,rfl,rfl,rfl,rfl,rfl,rfl⟩ om sp om fun id H0 ES wF uq=>?_;simp;refine iE wF cl (c8.call uq).get om none _ fun Pa ET yC=>?_;simp;exact hQ _ _ _ _ (ES.move (Move.r wF.fr ((xo.x m8.kx).x uq) yC)) jv (by simp<;>omega) ET ((m8.kx.trans uq).trans yC)
 |@DX b1 _ c _ _ e0 hi hs he hc=>
  have lE:=he.len.1;simp only[ai]at jv lE;refine ru _ p3 ?_;simp[hi.du];refine cW _ p3 (by simp[hi.du]) ?_;simp;refine cW _ p3 (by simp[hi.du]) ?_;simp;refine cW _ p3 (by simp[hi.du]) ?_;simp;have KA:=(aS.refl h3).alloc (.cells true 1 [.str [98,114,101,97,107],.str [99,111,110,116,105,110,117,101]]);have m4:=m3.aJ p3.fr KA;have c4:=c3.aJ KA;have p4:=p3.aJ KA;refine qg _ [[98,114,101,97,107],[99,111,110,116,105,110,117,101]] true sp dc p4 ?_;generalize (h3.alloc (.cells true 1 [.str [98,114,101,97,107],.str [99,111,110,116,105,110,117,101]])).2=h4 at*;have qb:anyS (o::KM) [[98,114,101,97,107],[99,111,110,116,105,110,117,101]]=false:=by simp[anyS,hi.du,hi.du]
  simp[qb];refine gM p4 hi fun h5 p5 k5=>?_;have m5:=m4.call p4.fr k5;have c5:=c4.call k5;have g5:=m5.get;simp only[SD.obj,SD.more]at g5;simp[g5];obtain⟨h6,e6,m6,p6,Tg⟩:=m5.put p5 al ⟨10,o.l,o.c,[],[],.N,.N,.Z,none,none,[]⟩ rfl rfl (.inl ⟨rfl,rfl⟩) (.inl ⟨rfl,rfl⟩);simp only[SD.obj]at e6;have c6:=Tg c5;rw[e6]
  try simp
  refine ru _ p6 ?_;simp[hs];refine IH (.bin 0) b1 _ _ _ (by simp[nC,rB];omega) he r a W el ec _ nd fn (dp+1) h6 (iT::X) _ ok p6 m6.pQ om om om fun id k8 nd8 h8 e8 l8 n8 p8 UD=>?_;have m8:=m6.call p6.fr UD;have c8:=c6.call UD;simp only[ai]at l8 n8;have g8:=m8.get;simp only[SD.obj,SD.more]at g8;simp[g8];obtain⟨h9,e9,m9,p9,cc9⟩:=m8.put p8 al ⟨10,o.l,o.c,[],[],.P id,.N,.Z,some e0,none,[]⟩ rfl rfl (.inr ⟨id,e0,rfl,rfl,e8⟩) (.inl ⟨rfl,rfl⟩);simp only[SD.obj]at e9;have c9:=cc9 c8;rw[e9]
  try simp
  refine jb p9 hc fun xU Oh Ig=>?_;have m10:=m9.call p9.fr Ig;have c10:=c9.call Ig;have gT:=m10.get;simp only[SD.obj,SD.more]at gT
  try simp[gT]
  refine m10.end Oh (.ret o.at (some e0)) ⟨rfl,rfl,rfl,rfl,rfl,rfl,rfl⟩ om sp om fun id H0 ES wF uq=>?_;simp;refine iE wF cl (c10.call uq).get om none _ fun Pa ET yC=>?_;simp;exact hQ _ _ _ _ (ES.move (Move.r wF.fr ((xo.x m10.kx).x uq) yC)) jv (by simp<;>omega) ET ((m10.kx.trans uq).trans yC)
 |@Mb b1 _ q c f YT _ e0 hi ho he hc hq=>
  have lE:=he.len.1;simp only[ai]at jv hn hd W3 Mq lE;refine ru _ p3 ?_;simp[hi.du];refine cW _ p3 (by simp[hi.du]) ?_;simp;refine cW _ p3 (by simp[hi.du]) ?_;simp;refine cW _ p3 (by simp[hi.du]) ?_;simp;have KA:=(aS.refl h3).alloc (.cells true 1 [.str [98,114,101,97,107],.str [99,111,110,116,105,110,117,101]]);have m4:=m3.aJ p3.fr KA;have c4:=c3.aJ KA;have p4:=p3.aJ KA;refine qg _ [[98,114,101,97,107],[99,111,110,116,105,110,117,101]] true sp dc p4 ?_;generalize (h3.alloc (.cells true 1 [.str [98,114,101,97,107],.str [99,111,110,116,105,110,117,101]])).2=h4 at*;have qb:anyS (o::q::YT) [[98,114,101,97,107],[99,111,110,116,105,110,117,101]]=false:=by simp[anyS,hi.du,hi.du]
  simp[qb];refine cW _ p4 (by simp[hi.du]) ?_;simp;refine gM p4 hi fun h5 p5 k5=>?_;have m5:=m4.call p4.fr k5;have c5:=c4.call k5;simp;refine xy ho (IH (.bin 0) b1 YT _ _ (by simp[nC,rB];omega) he) hc ok p5 m5.pQ om om om fun Oi kE ndE hE eE lE nE pE Th=>?_;have mE:=m5.call p5.fr Th;have cE:=c5.call Th;have gE:=mE.get;simp only[SD.obj]at gE;simp[gE];obtain⟨hP,eP,mP,pP,Ti⟩:=mE.put pE al ⟨11,o.l,o.c,[],[],.N,.N,.Z,none,none,[]⟩ rfl rfl (.inl ⟨rfl,rfl⟩) (.inl ⟨rfl,rfl⟩);simp only[SD.obj]at eP;have cP:=Ti cE;obtain⟨h7,e7,m7,p7,cc7⟩:=mP.put pP al ⟨11,o.l,o.c,[],[],.P Oi,.N,.Z,some e0,none,[]⟩ rfl rfl (.inr ⟨Oi,e0,rfl,rfl,eE.move (Move.on' eP mE)⟩) (.inl ⟨rfl,rfl⟩);simp only[SD.obj]at e7;have c7:=cc7 cP;rw[eP,e7]
  try simp
  simp only[ai]at nE;refine jb p7 hq fun h8 p8 k8=>?_;have m8:=m7.call p7.fr k8;have c8:=c7.call k8;have gT:=m8.get;simp only[SD.obj,SD.more]at gT
  try simp[gT]
  refine m8.end p8 (.out o.at e0) ⟨rfl,rfl,rfl,rfl,rfl,rfl,rfl⟩ om sp om fun id H0 ES wF uq=>?_;simp;refine iE wF cl (c8.call uq).get om none _ fun Pa ET yC=>?_;simp;exact hQ _ _ _ _ (ES.move (Move.r wF.fr ((xo.x m8.kx).x uq) yC)) jv (by simp<;>omega) ET ((m8.kx.trans uq).trans yC)
 |@Mc b1 c _ _ e0 hk he hc=>
  have lE:=he.len.1;simp only[ai]at jv lE;have hp:Pk (o::KM)=o.at:=rfl;rw[hp]at jv;simp only[JW,anyS,List.any_cons,List.any_nil,Bool.or_false,gV]at hk;refine ru _ p3 ?_;simp[hk.1];refine cW _ p3 (hk.2.1) ?_;simp;refine cW _ p3 (hk.2.2.1) ?_;simp;refine cW _ p3 (hk.2.2.2.1) ?_;simp;have KA:=(aS.refl h3).alloc (.cells true 1 [.str [98,114,101,97,107],.str [99,111,110,116,105,110,117,101]]);have m4:=m3.aJ p3.fr KA;have c4:=c3.aJ KA;have p4:=p3.aJ KA;refine qg _ [[98,114,101,97,107],[99,111,110,116,105,110,117,101]] true sp dc p4 ?_;generalize (h3.alloc (.cells true 1 [.str [98,114,101,97,107],.str [99,111,110,116,105,110,117,101]])).2=h4 at*;have qb:anyS (o::KM) [[98,114,101,97,107],[99,111,110,116,105,110,117,101]]=false:=by simp[anyS,hk.2.2.2.2.1,hk.2.2.2.2.2.1]
  simp[qb];refine cW _ p4 (hk.2.2.2.2.2.2.1) ?_;simp;refine cW _ p4 (hk.2.2.2.2.2.2.2) ?_;simp;refine IH (.bin 0) b1 _ _ _ (by simp[nC,rB]) he r a W el ec _ nd fn (dp+1) h4 (iT::X) _ ok p4 m4.pQ (by simp<;>omega) (by simp;omega) om fun id k8 nd8 h8 e8 l8 n8 p8 UD=>?_;have m8:=m4.call p4.fr UD;have c8:=c4.call UD;simp only[ai]at l8 n8;have g8:=m8.get;simp only[SD.obj,SD.more]at g8;simp[g8];obtain⟨hP,eP,mP,pP,Ti⟩:=m8.put p8 al ⟨5,o.l,o.c,[],[],.N,.N,.Z,none,none,[]⟩ rfl rfl (.inl ⟨rfl,rfl⟩) (.inl ⟨rfl,rfl⟩);simp only[SD.obj]at eP;have cP:=Ti c8;obtain⟨h9,e9,m9,p9,cc9⟩:=mP.put pP al ⟨5,o.l,o.c,[],[],.P id,.N,.Z,some e0,none,[]⟩ rfl rfl (.inr ⟨id,e0,rfl,rfl,e8.move (Move.on' eP m8)⟩) (.inl ⟨rfl,rfl⟩);simp only[SD.obj]at e9;have c9:=cc9 cP;rw[eP,e9]
  try simp
  refine cW _ p9 (by simp[hc.du]) ?_;simp;refine jb p9 hc fun xU Oh Ig=>?_;have m10:=m9.call p9.fr Ig;have c10:=c9.call Ig;have gT:=m10.get;simp only[SD.obj,SD.more]at gT
  try simp[gT]
  refine m10.end Oh (.eval o.at e0) ⟨rfl,rfl,rfl,rfl,rfl,rfl,rfl⟩ om sp om fun id H0 ES wF uq=>?_;simp;refine iE wF cl (c10.call uq).get om none _ fun Pa ET yC=>?_;simp;exact hQ _ _ _ _ (ES.move (Move.r wF.fr ((xo.x m10.kx).x uq) yC)) jv (by simp<;>omega) ET ((m10.kx.trans uq).trans yC)
 |@JL b1 q c _ cq _ e0 e1 hk he hq hf hc=>
  have lE:=he.len.1;have lF:=hf.len.1;simp only[ai]at lE lF;have hp:Pk (o::KM)=o.at:=rfl;rw[hp]at jv;simp only[JW,anyS,List.any_cons,List.any_nil,Bool.or_false,gV]at hk;refine ru _ p3 ?_;simp[hk.1];refine cW _ p3 (hk.2.1) ?_;simp;refine cW _ p3 (hk.2.2.1) ?_;simp;refine cW _ p3 (hk.2.2.2.1) ?_;simp;have KA:=(aS.refl h3).alloc (.cells true 1 [.str [98,114,101,97,107],.str [99,111,110,116,105,110,117,101]]);have m4:=m3.aJ p3.fr KA;have c4:=c3.aJ KA;have p4:=p3.aJ KA;refine qg _ [[98,114,101,97,107],[99,111,110,116,105,110,117,101]] true sp dc p4 ?_;generalize (h3.alloc (.cells true 1 [.str [98,114,101,97,107],.str [99,111,110,116,105,110,117,101]])).2=h4 at*;have qb:anyS (o::KM) [[98,114,101,97,107],[99,111,110,116,105,110,117,101]]=false:=by simp[anyS,hk.2.2.2.2.1,hk.2.2.2.2.2.1]
  simp[qb];refine cW _ p4 (hk.2.2.2.2.2.2.1) ?_;simp;refine cW _ p4 (hk.2.2.2.2.2.2.2) ?_;simp;refine IH (.bin 0) b1 _ _ _ (by simp[nC,rB]) he r a W el ec _ nd fn (dp+1) h4 (iT::X) _ ok p4 m4.pQ (by simp<;>omega) (by simp;omega) om fun id k8 nd8 h8 e8 l8 n8 p8 UD=>?_;have m8:=m4.call p4.fr UD;have c8:=c4.call UD;simp only[ai]at l8 n8;have g8:=m8.get;simp only[SD.obj,SD.more]at g8;simp[g8];obtain⟨hP,eP,mP,pP,Ti⟩:=m8.put p8 al ⟨5,o.l,o.c,[],[],.N,.N,.Z,none,none,[]⟩ rfl rfl (.inl ⟨rfl,rfl⟩) (.inl ⟨rfl,rfl⟩);simp only[SD.obj]at eP;have cP:=Ti c8;obtain⟨h9,e9,m9,p9,cc9⟩:=mP.put pP al ⟨5,o.l,o.c,[],[],.P id,.N,.Z,some e0,none,[]⟩ rfl rfl (.inr ⟨id,e0,rfl,rfl,e8.move (Move.on' eP m8)⟩) (.inl ⟨rfl,rfl⟩);simp only[SD.obj]at e9;have c9:=cc9 cP;rw[eP,e9]
  try simp
  refine gM p9 hq fun xU Oh Ig=>?_;have m10:=m9.call p9.fr Ig;have c10:=c9.call Ig;have eT:=m10.he;simp;refine jr [0,1,2,4,3,5,6,7,8,9] kr (by simp[ew,fh];rfl) kr ?_;have gm:=m10.get;simp only[SD.obj,SD.more]at gm;simp[gm]
  repeat refine di ?_
  have KB:=(aS.refl xU).bump 10;have mb:=m10.aJ Oh.fr KB;have cb:=c10.aJ KB;have pb:=Oh.aJ KB;refine IH (.bin 0) b1 _ _ _ (by simp[nC,rB];omega) hf r a W el ec _ _ fn (dp+1) _ (iT::X) _ ok pb mb.pQ om om om fun sR k11 ahs EE W4 l11 n11 WY adW=>?_;have m11:=mb.call pb.fr adW;have c11:=cb.call adW;have eU0:=m11.he;simp only[ai]at l11 n11;have g11:=m11.get;simp only[SD.obj,SD.more]at g11;simp
  repeat refine di ?_
  simp[g11]
  repeat refine di ?_
  obtain⟨hU,eU,mU,pU,ccU⟩:=m11.put WY al ⟨4,o.l,o.c,[],[],.P id,.N,.Z,some e0,none,[]⟩ rfl rfl (eU0) (.inl ⟨rfl,rfl⟩);simp only[SD.obj]at eU;have cU:=ccU c11;obtain⟨hV,eV,mV,pV,ccV⟩:=mU.put pU al ⟨4,o.l,o.c,[],[],.P id,.P id,.Z,some e0,some e0,[]⟩ rfl rfl (mU.he) (mU.he);simp only[SD.obj]at eV;have cV:=ccV cU;obtain⟨hZ,eZ,mZ,pZ,ccZ⟩:=mV.put pV al ⟨4,o.l,o.c,[],[],.P sR,.P id,.Z,some e1,some e0,[]⟩ rfl rfl (.inr ⟨sR,e1,rfl,rfl,(W4.move (Move.on' eU m11)).move (Move.on' eV mU)⟩) (mV.ho);simp only[SD.obj]at eZ;have cZ:=ccZ cV;simp[eU,eV,eZ];refine jb pZ hc fun wk p12 Ck=>?_;have m12:=mZ.call pZ.fr Ck;have c12:=cZ.call Ck;have gT:=m12.get;simp only[SD.obj,SD.more]at gT
  try simp[gT]
  refine m12.end p12 (.assign o.at e0 e1) ⟨rfl,rfl,rfl,rfl,rfl,rfl,rfl⟩ om sp om fun id H0 ES wF uq=>?_;simp;refine iE wF cl (c12.call uq).get om none _ fun Pa ET yC=>?_;simp;exact hQ _ _ _ _ (ES.move (Move.r wF.fr ((xo.x m12.kx).x uq) yC)) jv (by simp<;>omega) ET ((m12.kx.trans uq).trans yC)
end
end
section
attribute [local simp] aI
section
variable{X:List Nat}{Q:Out->ah->Prop}{r a:Nat}{W:List Wo}{el ec:Int}{k:Nat}{ws:List Wo}{nd fn dp:Nat}{h:ah}
theorem Oj(t:Tag)(b:Nat)(ws dh:List Wo)(re:Re)(hG:G t b ws dh re):Spec t b ws dh re:=by
 have key:∀m,Hv m:=by
  intro m;induction m with
  |zero=>intro t b ws dh re h;exact(Nat.not_lt_zero _ h).elim
  |succ m ih=>
   intro t b ws dh re hm hG;have IH:Hv (nC t ws):=fun t2 b2 eK agj re2 h2=>ih t2 b2 eK agj re2 om;cases t with
   |un=>cases hG with
    |unop ho hu=>exact Hw IH (fun hp hs=>Bi IH hp hs) (.unop ho hu)
    |cast ho ht hT hc hu=>exact Hw IH (fun hp hs=>Bi IH hp hs) (.cast ho ht hT hc hu)
    |post h1 h2 hp hs=>exact Hw IH (fun hp hs=>Bi IH hp hs) (.post h1 h2 hp hs)
   |bin l=>exact Tc IH hG
   |fw=>cases re with
    |e x=>exact PM IH hG
    |_=>trivial
   |yi=>cases re with
    |s x=>exact JZ IH hG
    |_=>trivial
   |AF=>cases re with
    |s x=>exact W0 IH hG
    |_=>trivial
   |dec=>cases re with
    |s x=>exact abg IH hG
    |_=>trivial
   |_=>cases re<;>trivial
 exact key _ t b ws dh re (Nat.lt_succ_self _) hG
end
end
section
attribute [local simp] aI
def dW(X:List Nat)(h:ah)(av:AV)(es n:Nat)(cs:List AV):Prop:=
 (n=0/\cs=[]/\av= .Z)\/∃b,av= .S b n/\b∉X/\h.get b=some (.cells true es cs)
theorem dW.move{X Y:List Nat}{h h':ah}(s:Move X Y h h'){av:AV}{es n:Nat}{cs:List AV}(p:dW X h av es n cs):dW Y h' av es n cs:=by
 rcases p with p|⟨b,e,hb,g⟩
 ·exact .inl p
 ·exact .inr ⟨b,e,(s.aJ _ _ g hb).2,(s.aJ _ _ g hb).1⟩
def Fd.cells(f:Fd):List AV:=[.str f.ty,.str f.nm]
def Pm.cells(f:Pm):List AV:=[.I f.p.1,.I f.p.2,.bool f.Qp,.str f.ty,.str f.nm]
def sY(X:List Nat)(h:ah)(id:Nat):It->Prop
 | .struct p nm fs=>∃fv,h.get id=some (.C [.I 1,.I p.1,.I p.2,.str [],.str nm,fv,.Z,.N])/\id∉X/\dW X h fv 2 fs.length (fs.flatMap Fd.cells)
 | .global p ty nm=>h.get id=some (.C [.I 2,.I p.1,.I p.2,.str ty,.str nm,.Z,.Z,.N])/\id∉X
 | .func p ty nm ps b=>∃pv vY,h.get id=some (.C [.I 3,.I p.1,.I p.2,.str ty,.str nm,.Z,pv,.P vY])/\id∉X/\dW X h pv 5 ps.length (ps.flatMap Pm.cells)/\uT X h vY b
theorem sY.move{X Y:List Nat}{h h':ah}(s:Move X Y h h'){id:Nat}{i:It}(e:sY X h id i):sY Y h' id i:=by
 cases i with
 |struct p nm fs=>obtain⟨fv,g,hx,ha⟩:=e;exact⟨fv,(s.aJ _ _ g hx).1,(s.aJ _ _ g hx).2,ha.move s⟩
 |global p ty nm=>exact⟨(s.aJ _ _ e.1 e.2).1,(s.aJ _ _ e.1 e.2).2⟩
 |func p ty nm ps b=>obtain⟨pv,vY,g,hx,ha,hb⟩:=e;exact⟨pv,vY,(s.aJ _ _ g hx).1,(s.aJ _ _ g hx).2,ha.move s,hb.move s⟩
section
variable{X:List Nat}{Q:Out->ah->Prop}{r a:Nat}{W:List Wo}{el ec:Int}{k:Nat}{ws:List Wo}{nd fn dp:Nat}{h H H':ah}{iT:Nat}
theorem nR{st e:TypeId}{uB es:Nat}{z:List AV}(hu:env.kQ st=some (.slice e))(hs:env.siz e=some (es+1))(hb:env.byt e=some uB)(MW:uB<=100)(hz:env.zer e=some z)(wB:z.length=es+1){av:AV}{n:Nat}{cs:List AV}(arr:dW X h av (es+1) n cs)(hc:cs.length=n*(es+1))(hq:n<=300)
 (src:Nat) (ec:List AV) (Em:ec.length=es+1) (xL:ec.all AV.scalar=true) (B6:h.get src=some (.cells true (es+1) ec)) (fr:cM h):
 ∃h2,aO env h st av (.S src 1)=some (.S h.next (n+1),h2)/\h2.next=h.next+1/\h2.get h.next=some (.cells true (es+1) (cs++ec))/\aQ (aK av) h h2:=by
 have r1:¬roomy<(n+1)*(uB+1):=by
  have:(n+1)*(uB+1)<=301*101:=uw om om;unfold roomy;omega
 have r0:¬roomy<uB+1:=by unfold roomy;omega
 have t0:ec.take (es+1)=ec:=eX om;have l0:es+1<=ec.length:=om
 rcases arr with⟨rfl,rfl,rfl⟩|⟨b,rfl,_,gb⟩
 ·refine⟨_,by simp[-nQ,-List.all_eq_true,hu,hs,hb,hz,B6,r0,wB,t0,l0,xL];rfl,rfl,sp,?_⟩;exact kX
 ·have cX:=au fr gb;have ne:h.next≠b:=by omega
  have hm:(n+1)*(es+1)=n*(es+1)+(es+1):=Nat.succ_mul ..;have g1:¬(n+1)*(es+1)<=cs.length:=by omega
  have g2:n*(es+1)<=cs.length:=by omega
  have tk:cs.take (n*(es+1))=cs:=eX om;refine⟨_,by simp[-nQ,-List.all_eq_true,hu,hs,hb,hz,B6,gb,r1,g1,g2,tk,wB,t0,l0,xL];rfl,rfl,sp,?_⟩;simp[aK];refine aQ.alloc _ (aQ.set _ (aQ.refl _ _) (.inl sp) cX)
structure IM(r:Nat)(X:List Nat)(h:ah)(iT:Nat)(cs:List AV)(H:ah):Prop where
 get:H.get iT=some (.C cs)
 lo:h.next<=iT
 lt:iT<H.next
 kx:aQ [r] h H
 xo:Bh r X h
theorem IM.nr{cs:List AV}(m:IM r X h iT cs H):iT≠r:=by have:=m.xo.lt r m.xo.r;have:=m.lo;omega
theorem IM.call{cs:List AV}(m:IM r X h iT cs H)(kx:aQ [r] H H'):IM r X h iT cs H':=
 ⟨(kx.old iT m.lt (by simp[m.nr])).trans m.get,m.lo,aw m.lt kx.next,m.kx.trans kx,m.xo⟩
theorem IM.aJ{cs:List AV}(m:IM r X h iT cs H)(k:aS H H'):IM r X h iT cs H':=m.call (k.x _)
theorem IM.put{cs:List AV}(m:IM r X h iT cs H)(uf:List AV)(p:iD r a W el ec k ws nd fn dp H)(al:a<h.next):∃H',H.set iT (.C uf)=H'/\IM r X h iT uf H'/\iD r a W el ec k ws nd fn dp H':=
 ⟨_,rfl,⟨by rw[ah.aM,aW rfl],m.lo,m.lt,aQ.set _ m.kx (.inr m.lo) m.lt,m.xo⟩,p.put _ m.nr (by have:=m.lo;omega) m.lt⟩
theorem IM.pQ{cs:List AV}(m:IM r X h iT cs H):Bh r (iT::X) H:=⟨ay _ m.xo.r,fun y hy=>by
 rcases aq.1 hy with rfl|hy
 ·exact m.lt
 ·exact(m.xo.x m.kx).lt y hy⟩
theorem IM.push{cs:List AV}(m:IM r X h iT cs H)(p:iD r a W el ec k ws nd fn dp H)(al:a<h.next){st e:TypeId}{uB es:Nat}{z:List AV}(hu:env.kQ st=some (.slice e))(hs:env.siz e=some (es+1))(hb:env.byt e=some uB)(MW:uB<=100)(hz:env.zer e=some z)(wB:z.length=es+1){av:AV}{n:Nat}{acs:List AV}{Y:List Nat}(arr:dW Y H av (es+1) n acs)(hY:iT∈Y/\r∈Y)(Zr:∀z,z∈aK av->h.next<=z/\z<H.next)(hc:acs.length=n*(es+1))(hq:n<=300)
 {j:Nat} (g:H.get j=none) (hj:j<H.next) (Rf:h.next<=j) (eC:List AV) (Em:eC.length=es+1) (xL:eC.all AV.scalar=true):
 ∃H7,aO env (H.set j (.cells true (es+1) eC)) st av (.S j 1)=some (.S H.next (n+1),H7)/\H7.get iT=some (.C cs)/\∀uf,IM r X h iT uf (H7.set iT (.C uf))/\iD r a W el ec k ws nd fn dp (H7.set iT (.C uf))/\
  dW (iT::X) (H7.set iT (.C uf)) (.S H.next (n+1)) (es+1) (n+1) (acs++eC)/\∀z,z∈aK (.S H.next (n+1))->h.next<=z/\z<(H7.set iT (.C uf)).next:=by
 have p6:=p.new (.cells true (es+1) eC) g hj;have WZ:Move Y Y H (H.set j (.cells true (es+1) eC)):=Move.new _ g;have UE:iT≠j:=fun e=>by rw[<-e,m.get]at g;cases g
 have og:=arr.move WZ;have vA:(H.set j (.cells true (es+1) eC)).next=H.next:=rfl
 obtain⟨H7,ha,nx,g7,k7⟩:=nR hu hs hb MW hz wB og hc hq j eC Em xL sp p6.fr;rw[vA]at ha nx g7;have hiz:iT∉aK av:=by
  rcases arr with⟨_,_,rfl⟩|⟨b,rfl,hb,_⟩
  ·simp[aK]
  ·simp only[aK,aR];rintro rfl;exact hb hY.1
 have hrz:∀z,z∈aK av->z≠r/\z≠a:=fun z hz=>by
  have h1:=(Zr z hz).1;have h2:=m.xo.lt r m.xo.r;exact⟨om,om⟩
 have p7:=p6.app k7 hrz;have giT:H7.get iT=some (.C cs):=by
  rw[k7.old iT (by rw[vA];exact m.lt) hiz,ah.aM,az UE];exact m.get
 have lo:=m.lo;have lt:=m.lt;have lt7:iT<H7.next:=by rw[nx];omega
 have BW:aQ [r] h H7:=(aQ.set _ m.kx (.inr Rf) hj).trans' k7 (fun z hz cX=>by have:=(Zr z hz).1;omega);refine⟨H7,ha,giT,fun uf=>⟨⟨sp,m.lo,lt7,aQ.set _ BW (.inr m.lo) lt7,m.xo⟩,p7.put _ m.nr om lt7,.inr ⟨H.next,rfl,?_,?_⟩,?_⟩⟩
 ·intro hx;rcases aq.1 hx with hx|hx
  ·omega
  ·have:=(m.xo.x m.kx).lt _ hx;omega
 ·rw[ah.aM,az om,g7]
 ·intro z hz;have hz:z∈[H.next]:=hz;simp only[aR]at hz;subst hz;exact⟨m.kx.next,by simp[nx]⟩
theorem Fd.As(l:List Fd):(l.flatMap Fd.cells).length=l.length*(1+1):=by
 induction l with
 |nil=>rfl
 |cons x l ih=>simp only[ux,bO,ih,ai];simp[Fd.cells];omega
theorem Pm.As(l:List Pm):(l.flatMap Pm.cells).length=l.length*(4+1):=by
 induction l with
 |nil=>rfl
 |cons x l ih=>simp only[ux,bO,ih,ai];simp[Pm.cells];omega
def It.fc:It->Nat
 | .func ..=>1
 |_=>0
theorem Mr{ws:List Wo}{n:Wo}{Ii:List Wo}{s:List UInt8}(h:sW ws (n::Ii) s)(hk:n.kind=1):du ws [123]=false:=by
 cases h with
 |done _=>exact jy om
 |star hw _=>simp[hw.du]
theorem abh{b:Nat}{dh:List Wo}{it:It}(hG:Item b ws dh it)(ok:S7 W)(p:iD r a W el ec k ws nd fn dp h)(xo:Bh r X h)(hn:nd+ws.length<=1000)(hd:dp+2*ws.length<=600)(yG:b<=40)(B7:fn+it.fc<=100)
 (hQ:∀id k' Ih Bz h',sY X h' id it->Ih+dh.length<=nd+ws.length/\Bz=fn+it.fc/\dh.length<ws.length->iD r a W el ec k' dh Ih Bz dp h'->aQ [r] h h'->Q (.ret (.P id)) h'):
 aV env 30 [.P r] h Q:=by
 refine wb fn30 rfl ?_;have Mq:ws.length<=250:=by have:=ok.len;have:=p.len;omega
 have al:=p.al;have Ie:=p.rl;simp[f30];refine Bg p fun h2 k2=>?_;have p2:=p.aJ k2;obtain⟨pl,rO⟩:∃pl,pl=FM el ec ws:=⟨_,rfl⟩
 rw[<-rO];simp;have K3:aS h2 (h2.alloc (.C [.I 2,.I pl.1,.I pl.2,.str [],.str [],.Z,.Z,.N])).2:=kT;have p3:=p2.aJ K3;have m3:IM r X h h2.next [.I 2,.I pl.1,.I pl.2,.str [],.str [],.Z,.Z,.N] (h2.alloc (.C [.I 2,.I pl.1,.I pl.2,.str [],.str [],.Z,.Z,.N])).2:=⟨sp,k2.next,sp,(k2.trans K3).x _,xo⟩
 generalize (h2.alloc (.C [.I 2,.I pl.1,.I pl.2,.str [],.str [],.Z,.Z,.N])).2=h3 at*;generalize h2.next=iT at*;clear K3 k2 p2 p;have hG2:(∃w n o c wsf fl,ws=w::n::o::wsf/\ja w [115,116,114,117,99,116]/\n.kind=1/\ja o [123]/\Fields wsf (c::dh) fl/\ja c [59]/\it= .struct w.at n.text fl)\/
  (∃n Ii ty,yz ws (n::Ii) ty/\n.kind=1/\((∃c ty2,du Ii [40]=false/\Kz Ii (c::dh) ty ty2/\ja c [59]/\it= .global n.at ty2 n.text)\/(∃o c cq s,Ii=o::c::cq/\ja o [40]/\ja c [41]/\G .AF b cq dh (.s s)/\it= .func n.at ty n.text [] s)\/
   (∃o cq eK ps s,Ii=o::cq/\ja o [40]/\du cq [41]=false/\xu cq eK ps/\G .AF b eK dh (.s s)/\it= .func n.at ty n.text ps s))):=by
  cases hG with
  |struct hw Bv ho hf hc=>exact .inl ⟨_,_,_,_,_,_,rfl,hw,Bv,ho,hf,hc,rfl⟩
  |global ht Bv hs ha hc=>exact .inr ⟨_,_,_,ht,Bv,.inl ⟨_,_,hs,ha,hc,rfl⟩⟩
  |func0 ht Bv ho hc hb=>exact .inr ⟨_,_,_,ht,Bv,.inr (.inl ⟨_,_,_,_,rfl,ho,hc,hb,rfl⟩)⟩
  |func ht Bv ho hs hp hb=>exact .inr ⟨_,_,_,ht,Bv,.inr (.inr ⟨_,_,_,_,_,rfl,ho,hs,hp,hb,rfl⟩)⟩
 clear hG;rcases hG2 with⟨w,n,o,c,wsf,fl,rfl,hw,hk,ho,hf,hc,rfl⟩|⟨n,Ii,ty,hT,hk,tU⟩
 ·simp only[FM]at rO;subst rO;simp only[ai]at hn hd Mq hQ;refine gM p3 hw fun h4 p4 k4=>?_;have m4:=m3.call k4;simp;refine pz p4 hk fun h5 p5 k5=>?_;have m5:=m4.call k5;have g5:=m5.get;simp[g5];obtain⟨h6,e6,m6,p6⟩:=m5.put [.I 2,.I w.l,.I w.c,.str [],.str n.text,.Z,.Z,.N] p5 al;rw[e6];refine gM p6 ho fun h7 p7 k7=>?_;have m7:=m6.call k7;have g7:=m7.get;simp[g7];obtain⟨h8,e8,m8,p8⟩:=m7.put [.I 1,.I w.l,.I w.c,.str [],.str n.text,.Z,.Z,.N] p7 al;rw[e8];clear e6 e8 g5 g7 m4 m5 m6 m7 p4 p5 p6 p7 k4 k5 k7 m3 p3;refine bW (fun m x=>∃cs k1 fv qs l2,m=cs.length/\Fields cs (c::dh) l2/\qs++l2=fl/\cs.length<=wsf.length/\qs.length+cs.length<=wsf.length/\x.n=151/\x.ds=[]/\x.bI=false/\IM r X h iT [.I 1,.I w.l,.I w.c,.str [],.str n.text,fv,.Z,.N] x.h/\dW (iT::X) x.h fv 2 qs.length (qs.flatMap Fd.cells)/\(∀z,z∈aK fv->h.next<=z/\z<x.h.next)/\iD r a W el ec k1 cs nd fn dp x.h/\
   x.rg.get 0=some (.P r)/\x.rg.get 3=some (.P iT)) wsf.length ?_ ?_
  ·exact⟨wsf,_,.Z,[],fl,rfl,hf,rfl,ao _,sp,rfl,rfl,rfl,m8,.inl ⟨rfl,rfl,rfl⟩,by simp[aK],p8,sp,sp⟩
  clear m8 p8 hf
  rintro m ⟨rg,n',hE,ds,bI⟩ ⟨cs,k1,fv,qs,l2,rfl,hF,qZ,zo,hqc,e1,e2,e3,mE,aE,hz,pE,r0,r3⟩
  dsimp only at e1 e2 e3 mE aE hz pE r0 r3;subst e1 e2 e3;simp[r0];cases hF with
  |done OB=>
   refine gM pE OB fun h9 p9 k9=>?_;simp[r0];refine jb p9 hc fun hA pA kA=>?_;have mA:=(mE.call k9).call kA;have aA:=(aE.move (Move.r pE.fr mE.pQ k9)).move (Move.r p9.fr (mE.call k9).pQ kA);have gA:=mA.get;simp at qZ;subst qZ;simp[r0,r3];exact hQ _ _ _ _ _ (show sY X hA iT (.struct w.at n.text qs)from⟨fv,gA,fun hx=>by have:=mA.xo.lt _ hx;have:=mA.lo;omega,aA.move (Move.less fun y hy=>ay _ hy)⟩) ⟨by simp at zo;omega,rfl,by simp at zo⊢;omega⟩ pA mA.kx
  |@field m1 c1 _ tq tN _ tp tp2 l3 hs HX UF ha Kl hr=>
   have lt:=HX.kj;have la:=ha.kj;simp only[ai]at lt la;refine cW _ pE hs ?_;simp[r0];refine D3 ok HX pE fun k3 h3 Aj p3 FN=>?_;have m3:=mE.call FN;have a3:=aE.move (Move.r pE.fr mE.pQ FN);have Hz:∀z,z∈aK fv->h.next<=z/\z<h3.next:=fun z hq=>⟨(hz z hq).1,aw (hz z hq).2 FN.next⟩
   simp;have K4:aS h3 ((h3.alloc (.C [.str [],.str []])).2.set h3.next (.C [.str tp,.str []])):=kT;have m4:=m3.aJ K4;have a4:=a3.move (Move.k p3.fr K4);have p4:=p3.aJ K4;have gF:((h3.alloc (.C [.str [],.str []])).2.set h3.next (.C [.str tp,.str []])).get h3.next=some (.C [.str tp,.str []]):=sp;have lF:h3.next<((h3.alloc (.C [.str [],.str []])).2.set h3.next (.C [.str tp,.str []])).next:=by simp
   have n4:=K4.next;have YU:h3.next≠r:=(by have:=p3.rl;omega);have nFa:h3.next≠a:=(by have:=p3.al;omega);have nFi:h3.next≠iT:=(by have:=m3.lt;omega);have nFl:h.next<=h3.next:=m3.kx.next;have nFz:∀z,z∈aK fv->z≠h3.next:=fun z hq=>by have:=Hz z hq;omega
   generalize (h3.alloc (.C [.str [],.str []])).2.set h3.next (.C [.str tp,.str []])=h4 at*;have Ol:∀z,z∈aK fv->h.next<=z/\z<h4.next:=fun z hq=>⟨(Hz z hq).1,aw (Hz z hq).2 n4⟩
   generalize h3.next=iF at*;clear K4 m3 a3 p3 Hz FN mE aE pE hz;have Qh:∀H o,Move (iF::iT::X) (iF::iT::X) H (H.set iF o):=fun H o=>Move.on o (aY ..);have aF:dW (iF::iT::X) h4 fv 2 qs.length (qs.flatMap Fd.cells):=by
    rcases a4 with a4|⟨z,e,hzx,g⟩
    ·exact .inl a4
    ·refine .inr ⟨z,e,?_,g⟩;intro hx;rcases aq.1 hx with hx|hx
     ·exact nFz z (by rw[e];simp[aK]) hx
     ·exact hzx hx
   clear a4;have EU:∀{H:ah}{k':Nat}{uf:List Wo}{L:List AV}(o:ej),IM r X h iT L H->iD r a W el ec k' uf nd fn dp H->iF<H.next->dW (iF::iT::X) H fv 2 qs.length (qs.flatMap Fd.cells)->
    IM r X h iT L (H.set iF o)/\iD r a W el ec k' uf nd fn dp (H.set iF o)/\dW (iF::iT::X) (H.set iF o) fv 2 qs.length (qs.flatMap Fd.cells)/\(H.set iF o).get iF=some o:=by
    intro H k' uf L o m p lt ar;exact⟨⟨by rw[ah.aM,az nFi.symm];exact m.get,m.lo,m.lt,aQ.set _ m.kx (.inr nFl) lt,m.xo⟩,p.put _ YU nFa lt,ar.move (Qh _ _),by rw[ah.aM,aW rfl]⟩
   have xz:∀{H H':ah}{k':Nat}{uf:List Wo}{L:List AV}{o:ej},IM r X h iT L H->iD r a W el ec k' uf nd fn dp H->aQ [r] H H'->iF<H.next->H.get iF=some o->dW (iF::iT::X) H fv 2 qs.length (qs.flatMap Fd.cells)->
    IM r X h iT L H'/\iF<H'.next/\H'.get iF=some o/\dW (iF::iT::X) H' fv 2 qs.length (qs.flatMap Fd.cells):=by
    intro H H' k' uf L o m p kx lt g ar;refine⟨m.call kx,aw lt kx.next,(kx.old iF lt (by simp[YU])).trans g,ar.move (Move.r p.fr ⟨ay _ (ay _ m.xo.r),?_⟩ kx)⟩;intro y hy;rcases aq.1 hy with rfl|hy
    ·exact lt
    ·exact m.pQ.lt y hy
   simp[r0];refine pz p4 UF fun h5 p5 k5=>?_;obtain⟨m5,l5,g5,a5⟩:=xz m4 p4 k5 lF gF aF;simp[r0,g5];obtain⟨m6,p6,a6,g6⟩:=EU (.C [.str tp,.str m1.text]) m5 p5 l5 a5;have l6:iF<(h5.set iF (.C [.str tp,.str m1.text])).next:=l5
   have n56:h5.next<=(h5.set iF (.C [.str tp,.str m1.text])).next:=ao _
   try simp[r0,g6]
   generalize h5.set iF (.C [.str tp,.str m1.text])=h6 at*;refine Ar ok ha om p6 fun k7 h7 WW p7 k7x=>?_;obtain⟨m7,l7,g7,a7⟩:=xz m6 p6 k7x l6 g6 a6;simp[r0,g7];obtain⟨m8,p8,a8,g8⟩:=EU (.C [.str tp2,.str m1.text]) m7 p7 l7 a7;have l8:iF<(h7.set iF (.C [.str tp2,.str m1.text])).next:=l7
   have n78:h7.next<=(h7.set iF (.C [.str tp2,.str m1.text])).next:=ao _
   generalize h7.set iF (.C [.str tp2,.str m1.text])=h8 at*;refine jb p8 Kl fun hA pA kA=>?_;obtain⟨mA,lA,gA,aA⟩:=xz m8 p8 kA l8 g8 a8;have YV:∀z,z∈aK fv->h.next<=z/\z<hA.next:=fun z hq=>⟨(Ol z hq).1,aw (Ol z hq).2 (bk k5.next (bk n56 (bk k7x.next (bk n78 kA.next))))⟩
   clear m4 p4 aF gF lF m5 p5 a5 g5 l5 m6 p6 a6 g6 l6 m7 p7 a7 g7 l7 m8 p8 a8 g8 l8 k5 k7x kA Ol n4 n56 n78;simp;refine Dd ?_;have gm:=mA.get;have fj:=pA.fr (hA.next+6) om;simp[-aO,r0,r3,gm,gA,fj]
   repeat refine di ?_
   have KB:=(aS.refl hA).bump 11;have lAi:=mA.kx.next;obtain⟨wk,D4,g12,fin⟩:=(mA.aJ KB).push (pA.aJ KB) al (st:=105) (e:=114) rfl ty114.1 ty114.2.1 dc ty114.2.2.2 rfl (aA.move (Move.k pA.fr KB)) ⟨sp,by simp[mA.xo.r]⟩ (fun z hq=>⟨(YV z hq).1,by have:=(YV z hq).2;simp;omega⟩) (Fd.As _) om (j:=hA.next+6) fj sp om [.str tp2,.str m1.text] rfl rfl;simp[-aO]at D4;rw[D4];simp[-aO,r0,r3,g12]
   repeat refine di ?_
   obtain⟨mD,pD,aD,At⟩:=fin [.I 1,.I w.l,.I w.c,.str [],.str n.text,.S (hA.next+11) (qs.length+1),.Z,.N];simp at mD pD aD At;generalize wk.set iT _=hD at*;have aD:dW (iT::X) hD (.S (hA.next+11) (qs.length+1)) 2 (qs++[(⟨tp2,m1.text⟩:Fd)]).length ((qs++[(⟨tp2,m1.text⟩:Fd)]).flatMap Fd.cells):=(by simpa[Fd.cells]using aD);exact⟨_,om,tN,rfl,_,_,_,l3,hr,by rw[<-qZ];simp,om,by simp<;>omega,mD,aD,At,pD⟩
 ·have lTy:=hT.kj;simp only[ai]at lTy;cases hT with
  |@base w tN _ s0 HX jX fI=>
   have hT:yz (w::tN) (n::Ii) (w.text++s0):= .base HX jX fI;simp only[ai]at hn hd Mq lTy hQ;have rC:du (w::tN) [115,116,114,117,99,116]=false:=(by simp[du,jX]);refine cW _ p3 rC ?_;simp;refine D3 ok hT p3 fun k4 h4 Aj p4 k4x=>?_;have m4:=m3.call k4x;have g4:=m4.get;generalize w.text++s0=ty at*;simp[g4];obtain⟨hS,eS,mS,pS⟩:=m4.put [.I 2,.I pl.1,.I pl.2,.str ty,.str [],.Z,.Z,.N] p4 al;rw[eS];clear eS g4 m4 p4 m3 p3 rO;refine Bg pS fun h7 k7=>?_;have m7:=mS.aJ k7;have p7:=pS.aJ k7;have g7:=m7.get;simp[g7,FM];obtain⟨h8,e8,m8,p8⟩:=m7.put [.I 2,.I n.l,.I n.c,.str ty,.str [],.Z,.Z,.N] p7 al;rw[e8];refine pz p8 hk fun h9 p9 k9=>?_;have m9:=m8.call k9;have g9:=m9.get;simp[g9];obtain⟨hN,eN,mN,pN⟩:=m9.put [.I 2,.I n.l,.I n.c,.str ty,.str n.text,.Z,.Z,.N] p9 al;rw[eN];obtain⟨kN,pN⟩:∃kN,iD r a W el ec kN Ii nd fn dp hN:=⟨_,pN⟩
   clear e8 eN g7 g9 m7 m8 m9 p7 p8 p9 k7 k9 mS pS;refine ru _ pN ?_;rcases tU with⟨c,ty2,hs,ha,hc,rfl⟩|⟨o,c,cq,s,rfl,ho,hc,hb,rfl⟩|⟨o,cq,eK,ps,s,rfl,ho,hs,hp,hb,rfl⟩
   ·simp[hs];have gN:=mN.get;simp[gN];refine Ar ok ha om pN fun kA hA WW pA kxA=>?_;have mA:=mN.call kxA;have gA:=mA.get;simp[gA];obtain⟨hB,eB,mB,pB⟩:=mA.put [.I 2,.I n.l,.I n.c,.str ty2,.str n.text,.Z,.Z,.N] pA al;rw[eB];refine jb pB hc fun hC pC kC=>?_;have mC:=mB.call kC;have gC:=mC.get;simp;have la:=ha.kj;simp only[ai]at la;exact hQ _ _ _ _ _ (show sY X hC iT (.global n.at ty2 n.text)from⟨gC,fun hx=>by have:=mC.xo.lt _ hx;have:=mC.lo;omega⟩) ⟨om,rfl,by first|omega|(simp<;>omega)⟩ pC mC.kx
   ·simp only[ai]at lTy;simp[ho.du];have Gr:fn+1<=100:=B7;have Ms:=pN.obj;have nrN:=mN.nr;have abi:=iw nrN;have w1:IntKind.wrap .i64 ((fn:Int)+1)=((fn+1:Nat):Int):=(by rw[wr om om];simp);simp[PO]at Ms;have gN:=mN.get;have Mt:(fn:Int)+1<=100:=om;simp[Ms,w1,Mt];have HB:aQ [r] hN (hN.set r (PO a kN (o::c::cq).length el ec nd (fn+1:Nat) dp)):=(by have:=pN.rl;exact kX);have pF:iD r a W el ec kN (o::c::cq) nd (fn+1) dp (hN.set r (PO a kN (o::c::cq).length el ec nd (fn+1:Nat) dp)):=pN.AG HB (by simp[PO]) pN.drop pN.len;have mF:=mN.call HB;simp[PO]at pF mF HB;generalize hN.set r _=hF at*;refine(xZ _ _).mono fun out hG' hq=>?_;obtain⟨rfl,rfl⟩:=hq;simp;refine py pF fun hT' pT kT=>?_;have mT:=mF.call kT;have gT:=mT.get;simp[gT];obtain⟨hP,eP,mP,pP⟩:=mT.put [.I 3,.I n.l,.I n.c,.str ty,.str n.text,.Z,.Z,.N] pT al;rw[eP];clear eP gT mT pT kT mF pF HB Ms gN mN pN;refine gM pP hc fun hE0 pE kE=>?_;have mE:=mP.call kE;simp;refine bW (fun m x=>m=0/\x.n=151/\x.ds=[]/\x.bI=false/\x.h=hE0/\x.rg.get 0=some (.P r)/\x.rg.get 3=some (.P iT)/\x.rg.get 5=some (.bool false)) 0 ?_ ?_
    ·exact⟨rfl,rfl,rfl,rfl,rfl,sp,sp,sp⟩
    rintro m ⟨rg,n',hE,ds,bI⟩ ⟨rfl,e1,e2,e3,e4,r0,r3,r5⟩
    dsimp only at e1 e2 e3 e4 r0 r3 r5;subst e1 e2 e3 e4;simp[r0,r3,r5];have aE:dW (iT::X) hE (.Z) 5 0 []:= .inl ⟨rfl,rfl,rfl⟩;have lB:=hb.len.2 rfl;refine Oj .AF b _ _ _ hb r a W el ec _ _ _ dp hE (iT::X) _ ok pE mE.pQ om om om fun vY kB ndB hB sB lB nB pB Tj=>?_;have mB:=mE.call Tj;have gB:=mB.get;have aB:=aE.move (Move.r pE.fr mE.pQ Tj);simp[r0,r3,gB];obtain⟨hC,eC,mC,pC⟩:=mB.put [.I 3,.I n.l,.I n.c,.str ty,.str n.text,.Z,(.Z),.P vY] pB al;simp only[eC];have gC:=mC.get;have mv:Move (iT::X) (iT::X) hB hC:=eC▸Move.on _ (aY ..);have Tk:Move (iT::X) X hB hC:=mv.comp (Move.less fun y hy=>ay _ hy);exact hQ _ _ _ _ _ (show sY X hC iT (.func n.at ty n.text [] s)from⟨.Z,vY,gC,fun hx=>by have:=mC.xo.lt _ hx;have:=mC.lo;omega,aB.move Tk,sB.move Tk⟩) ⟨om,rfl,by first|omega|(simp<;>omega)⟩ pC mC.kx
   ·simp only[ai]at lTy;simp[ho.du];have Gr:fn+1<=100:=B7;have Ms:=pN.obj;have nrN:=mN.nr;have abi:=iw nrN;have w1:IntKind.wrap .i64 ((fn:Int)+1)=((fn+1:Nat):Int):=(by rw[wr om om];simp);simp[PO]at Ms;have gN:=mN.get;have Mt:(fn:Int)+1<=100:=om;simp[Ms,w1,Mt];have HB:aQ [r] hN (hN.set r (PO a kN (o::cq).length el ec nd (fn+1:Nat) dp)):=(by have:=pN.rl;exact kX);have pF:iD r a W el ec kN (o::cq) nd (fn+1) dp (hN.set r (PO a kN (o::cq).length el ec nd (fn+1:Nat) dp)):=pN.AG HB (by simp[PO]) pN.drop pN.len;have mF:=mN.call HB;simp[PO]at pF mF HB;generalize hN.set r _=hF at*;refine(xZ _ _).mono fun out hG' hq=>?_;obtain⟨rfl,rfl⟩:=hq;simp;refine py pF fun hT' pT kT=>?_;have mT:=mF.call kT;have gT:=mT.get;simp[gT];obtain⟨hP,eP,mP,pP⟩:=mT.put [.I 3,.I n.l,.I n.c,.str ty,.str n.text,.Z,.Z,.N] pT al;rw[eP];clear eP gT mT pT kT mF pF HB Ms gN mN pN;refine cW _ pP hs ?_;have lB0:=hb.len.2 rfl;simp;obtain⟨I,hI⟩:∃I:Nat->St->Prop,I=(fun m x=>∃cs k1 pv qs more,m=cs.length/\(more=true->∃l2,xu cs eK l2/\qs++l2=ps)/\(more=false->cs=eK/\qs=ps)/\cs.length<=cq.length/\qs.length+cs.length<=cq.length/\x.n=151/\x.ds=[]/\x.bI=false/\IM r X h iT [.I 3,.I n.l,.I n.c,.str ty,.str n.text,.Z,pv,.N] x.h/\dW (iT::X) x.h pv 5 qs.length (qs.flatMap Pm.cells)/\(∀z,z∈aK pv->h.next<=z/\z<x.h.next)/\iD r a W el ec k1 cs nd (fn+1) dp x.h/\
     x.rg.get 0=some (.P r)/\x.rg.get 3=some (.P iT)/\x.rg.get 5=some (.bool more)):=⟨_,rfl⟩
    refine bW I cq.length (by rw[hI];exact⟨cq,_,.Z,[],true,rfl,fun _=>⟨ps,hp,rfl⟩,sp,ao _,sp,rfl,rfl,rfl,mP,.inl ⟨rfl,rfl,rfl⟩,by simp[aK],pP,sp,sp,sp⟩) ?_;clear mP pP hp hs;intro m st fI;have lQ:=fI;rw[hI]at lQ;obtain⟨rg,n',hE,ds,bI⟩:=st;obtain⟨cs,k1,pv,qs,more,rfl,HS,QV,zo,hqc,e1,e2,e3,mE,aE,hz,pE,r0,r3,r5⟩:=lQ;clear fI;dsimp only at e1 e2 e3 mE aE hz pE r0 r3 r5;subst e1 e2 e3;cases more with
    |false=>
     obtain⟨rfl,rfl⟩:=QV rfl;simp[r0,r3,r5];have lB:=hb.len.2 rfl;refine Oj .AF b _ _ _ hb r a W el ec _ _ _ dp hE (iT::X) _ ok pE mE.pQ om om om fun vY kB ndB hB sB lB nB pB Tj=>?_;have mB:=mE.call Tj;have gB:=mB.get;have aB:=aE.move (Move.r pE.fr mE.pQ Tj);simp[r0,r3,gB];obtain⟨hC,eC,mC,pC⟩:=mB.put [.I 3,.I n.l,.I n.c,.str ty,.str n.text,.Z,pv,.P vY] pB al;simp only[eC];have gC:=mC.get;have mv:Move (iT::X) (iT::X) hB hC:=eC▸Move.on _ (aY ..);have Tk:Move (iT::X) X hB hC:=mv.comp (Move.less fun y hy=>ay _ hy);exact hQ _ _ _ _ _ (show sY X hC iT (.func n.at ty n.text qs s)from⟨pv,vY,gC,fun hx=>by have:=mC.xo.lt _ hx;have:=mC.lo;omega,aB.move Tk,sB.move Tk⟩) ⟨om,rfl,by first|omega|(simp<;>omega)⟩ pC mC.kx
    |true=>
     obtain⟨l2,hP,qZ⟩:=HS rfl;obtain⟨tq,tN,m1,c,pb,tp,Tl,HX,UF,wa⟩:∃tq tN m1 c pb tp,SQ cs tq pb/\yz tq (m1::c::tN) tp/\m1.kind=1/\((ja c [41]/\tN=eK/\qs++[⟨m1.at,pb,tp,m1.text⟩]=ps)\/(ja c [44]/\∃l3,xu tN eK l3/\(qs++[⟨m1.at,pb,tp,m1.text⟩])++l3=ps)):=by
      cases hP with
      |one h1 h2 h3 h4=>exact⟨_,_,_,_,_,_,h1,h2,h3,.inl ⟨h4,rfl,qZ⟩⟩
      |more h1 h2 h3 h4 h5=>exact⟨_,_,_,_,_,_,h1,h2,h3,.inr ⟨h4,_,h5,by rw[<-qZ];simp⟩⟩
     have lp:tq.length<=cs.length:=(by cases Tl<;>simp);have lt:=HX.kj;simp only[ai]at lt;simp[r0,r3,r5];refine Bg pE fun h2 k2=>?_;have m2:=mE.aJ k2;have a2:=aE.move (Move.k pE.fr k2);have p2:=pE.aJ k2;have hz2:∀z,z∈aK pv->h.next<=z/\z<h2.next:=fun z hq=>⟨(hz z hq).1,aw (hz z hq).2 k2.next⟩
     obtain⟨pl,rO⟩:∃pl,pl=FM el ec cs:=⟨_,rfl⟩
     rw[<-rO];clear rO k2 mE aE pE hz;simp[r0];have Tm:∀Q':Out->ah->Prop,(∀k3 h3,iD r a W el ec k3 tq nd (fn+1) dp h3->aQ [r] h2 h3->Q' (.ret (.bool pb)) h3)->aV env 48 [.P r,.str [112,117,98,108,105,99]] h2 Q':=by
      intro Q' Aq;cases Tl with
      |no tf=>exact cW _ p2 tf (Aq _ _ p2 (aQ.refl _ _))
      |yes hy=>exact gM p2 hy fun h3 p3 k3=>Aq _ _ p3 k3
     refine Tm _ fun k3 h3 p3 FN=>?_;have m3:=m2.call FN;have a3:=a2.move (Move.r p2.fr m2.pQ FN);have Hz:∀z,z∈aK pv->h.next<=z/\z<h3.next:=fun z hq=>⟨(hz2 z hq).1,aw (hz2 z hq).2 FN.next⟩
     simp;have K4:aS h3 ((h3.alloc (.C [.I 0,.I 0,.bool false,.str [],.str []])).2.set h3.next (.C [.I pl.1,.I pl.2,.bool pb,.str [],.str []])):=kT;have m4:=m3.aJ K4;have a4:=a3.move (Move.k p3.fr K4);have p4:=p3.aJ K4;have gF:((h3.alloc (.C [.I 0,.I 0,.bool false,.str [],.str []])).2.set h3.next (.C [.I pl.1,.I pl.2,.bool pb,.str [],.str []])).get h3.next=some (.C [.I pl.1,.I pl.2,.bool pb,.str [],.str []]):=sp;have lF:h3.next<((h3.alloc (.C [.I 0,.I 0,.bool false,.str [],.str []])).2.set h3.next (.C [.I pl.1,.I pl.2,.bool pb,.str [],.str []])).next:=by simp
     have n4:=K4.next;have YU:h3.next≠r:=(by have:=p3.rl;omega);have nFa:h3.next≠a:=(by have:=p3.al;omega);have nFi:h3.next≠iT:=(by have:=m3.lt;omega);have nFl:h.next<=h3.next:=m3.kx.next;have nFz:∀z,z∈aK pv->z≠h3.next:=fun z hq=>by have:=Hz z hq;omega
     generalize (h3.alloc (.C [.I 0,.I 0,.bool false,.str [],.str []])).2.set h3.next (.C [.I pl.1,.I pl.2,.bool pb,.str [],.str []])=h4 at*;have Ol:∀z,z∈aK pv->h.next<=z/\z<h4.next:=fun z hq=>⟨(Hz z hq).1,aw (Hz z hq).2 n4⟩
     generalize h3.next=iF at*;clear K4 m3 a3 p3 Hz m2 a2 p2 hz2 FN Tm;have Qh:∀H o,Move (iF::iT::X) (iF::iT::X) H (H.set iF o):=fun H o=>Move.on o (aY ..);have aF:dW (iF::iT::X) h4 pv 5 qs.length (qs.flatMap Pm.cells):=by
      rcases a4 with a4|⟨z,e,hzx,g⟩
      ·exact .inl a4
      ·refine .inr ⟨z,e,?_,g⟩;intro hx;rcases aq.1 hx with hx|hx
       ·exact nFz z (by rw[e];simp[aK]) hx
       ·exact hzx hx
     clear a4;have EU:∀{H:ah}{k':Nat}{uf:List Wo}{L:List AV}(o:ej),IM r X h iT L H->iD r a W el ec k' uf nd (fn+1) dp H->iF<H.next->dW (iF::iT::X) H pv 5 qs.length (qs.flatMap Pm.cells)->
      IM r X h iT L (H.set iF o)/\iD r a W el ec k' uf nd (fn+1) dp (H.set iF o)/\dW (iF::iT::X) (H.set iF o) pv 5 qs.length (qs.flatMap Pm.cells)/\(H.set iF o).get iF=some o:=by
      intro H k' uf L o m p lt ar;exact⟨⟨by rw[ah.aM,az nFi.symm];exact m.get,m.lo,m.lt,aQ.set _ m.kx (.inr nFl) lt,m.xo⟩,p.put _ YU nFa lt,ar.move (Qh _ _),by rw[ah.aM,aW rfl]⟩
     have xz:∀{H H':ah}{k':Nat}{uf:List Wo}{L:List AV}{o:ej},IM r X h iT L H->iD r a W el ec k' uf nd (fn+1) dp H->aQ [r] H H'->iF<H.next->H.get iF=some o->dW (iF::iT::X) H pv 5 qs.length (qs.flatMap Pm.cells)->
      IM r X h iT L H'/\iF<H'.next/\H'.get iF=some o/\dW (iF::iT::X) H' pv 5 qs.length (qs.flatMap Pm.cells):=by
      intro H H' k' uf L o m p kx lt g ar;refine⟨m.call kx,aw lt kx.next,(kx.old iF lt (by simp[YU])).trans g,ar.move (Move.r p.fr ⟨ay _ (ay _ m.xo.r),?_⟩ kx)⟩;intro y hy;rcases aq.1 hy with rfl|hy
      ·exact lt
      ·exact m.pQ.lt y hy
     simp[r0];refine D3 ok HX p4 fun k5 h5 Aj p5 k5x=>?_;obtain⟨m5,l5,g5,a5⟩:=xz m4 p4 k5x lF gF aF;simp[r0,g5];obtain⟨m6,p6,a6,g6⟩:=EU (.C [.I pl.1,.I pl.2,.bool pb,.str tp,.str []]) m5 p5 l5 a5;have l6:iF<(h5.set iF (.C [.I pl.1,.I pl.2,.bool pb,.str tp,.str []])).next:=l5
     have n56:h5.next<=(h5.set iF (.C [.I pl.1,.I pl.2,.bool pb,.str tp,.str []])).next:=ao _
     generalize h5.set iF (.C [.I pl.1,.I pl.2,.bool pb,.str tp,.str []])=h6 at*;refine Bg p6 fun h7 k7=>?_;obtain⟨m7,l7,g7,a7⟩:=xz m6 p6 (k7.x _) l6 g6 a6;have p7:=p6.aJ k7;simp[r0,g7,FM];obtain⟨m8,p8,a8,g8⟩:=EU (.C [.I m1.l,.I m1.c,.bool pb,.str tp,.str []]) m7 p7 l7 a7;have l8:iF<(h7.set iF (.C [.I m1.l,.I m1.c,.bool pb,.str tp,.str []])).next:=l7
     have n78:h7.next<=(h7.set iF (.C [.I m1.l,.I m1.c,.bool pb,.str tp,.str []])).next:=ao _
     generalize h7.set iF (.C [.I m1.l,.I m1.c,.bool pb,.str tp,.str []])=h8 at*;refine pz p8 UF fun h9 p9 k9=>?_;obtain⟨m9,l9,g9,a9⟩:=xz m8 p8 k9 l8 g8 a8;simp[r0,g9];obtain⟨mA,pA,aA,gA⟩:=EU (.C [.I m1.l,.I m1.c,.bool pb,.str tp,.str m1.text]) m9 p9 l9 a9;have lA:iF<(h9.set iF (.C [.I m1.l,.I m1.c,.bool pb,.str tp,.str m1.text])).next:=l9
     have nA4:h4.next<=(h9.set iF (.C [.I m1.l,.I m1.c,.bool pb,.str tp,.str m1.text])).next:=bk k5x.next (bk (bk (show h5.next<=h6.next from n56) k7.next) (bk (show h7.next<=h8.next from n78) k9.next))
     generalize h9.set iF (.C [.I m1.l,.I m1.c,.bool pb,.str tp,.str m1.text])=hA at*;have YV:∀z,z∈aK pv->h.next<=z/\z<hA.next:=fun z hq=>⟨(Ol z hq).1,aw (Ol z hq).2 nA4⟩
     clear nA4 m4 p4 aF gF lF m5 p5 a5 g5 l5 m6 p6 a6 g6 l6 m7 p7 a7 g7 l7 m8 p8 a8 g8 l8 m9 p9 a9 g9 l9 k5x k7 k9 Ol n4;refine Dd ?_;have gm:=mA.get;have fj:=pA.fr (hA.next+6) om;simp[-aO,r0,r3,gm,gA,fj]
     repeat refine di ?_
     have KB:=(aS.refl hA).bump 11;have lAi:=mA.kx.next;obtain⟨wk,D4,g12,fin⟩:=(mA.aJ KB).push (pA.aJ KB) al (st:=106) (e:=147) rfl ty147.1 ty147.2.1 dc ty147.2.2.2 rfl (aA.move (Move.k pA.fr KB)) ⟨sp,by simp[mA.xo.r]⟩ (fun z hq=>⟨(YV z hq).1,by have:=(YV z hq).2;simp;omega⟩) (Pm.As _) om (j:=hA.next+6) fj sp om [.I m1.l,.I m1.c,.bool pb,.str tp,.str m1.text] rfl rfl;simp[-aO]at D4;rw[D4];simp[-aO,r0,r3,g12]
     repeat refine di ?_
     obtain⟨mD,pD,aD,At⟩:=fin [.I 3,.I n.l,.I n.c,.str ty,.str n.text,.Z,.S (hA.next+11) (qs.length+1),.N];simp at mD pD aD;generalize wk.set iT _=hD at*;have aD:dW (iT::X) hD (.S (hA.next+11) (qs.length+1)) 5 (qs++[(⟨m1.at,pb,tp,m1.text⟩:Pm)]).length ((qs++[(⟨m1.at,pb,tp,m1.text⟩:Pm)]).flatMap Pm.cells):=(by simpa[Pm.cells,Wo.at]using aD);rcases wa with⟨hc,rfl,Ef⟩|⟨hc,l3,hr,Ef⟩
     ·refine cW _ pD (by simp[hc.du]) ?_;simp[r0];refine jb pD hc fun hY pY kY=>?_;simp[r0,r3];refine⟨tN.length,om,?_⟩;rw[hI];exact⟨tN,_,_,qs++[⟨m1.at,pb,tp,m1.text⟩],false,rfl,sp,fun _=>⟨rfl,Ef⟩,om,by simp<;>omega,rfl,rfl,rfl,mD.call kY,aD.move (Move.r pD.fr mD.pQ kY),fun z hq=>⟨(At z hq).1,aw (At z hq).2 kY.next⟩,pY,by simp[r0],by simp[r3],sp⟩
     ·refine gM pD hc fun hY pY kY=>?_;simp[r0,r3];refine⟨tN.length,om,?_⟩;rw[hI];exact⟨tN,_,_,qs++[⟨m1.at,pb,tp,m1.text⟩],true,rfl,fun _=>⟨l3,hr,Ef⟩,sp,om,by simp<;>omega,rfl,rfl,rfl,mD.call kY,aD.move (Move.r pD.fr mD.pQ kY),fun z hq=>⟨(At z hq).1,aw (At z hq).2 kY.next⟩,pY,by simp[r0],by simp[r3],sp⟩
  |@struct w n0 tN _ s0 hw hk0 fI=>
   simp only[ai]at hn hd Mq lTy hQ;have aX:=Mr fI hk;have hT:yz (w::n0::tN) (n::Ii) (([115,116,114,117,99,116,32]++n0.text)++s0):= .struct hw hk0 fI;have Aj:=hT.adO ok (fun x hx=>p3.mem hx) Mq;have Ee:=ok.text n0 (p3.mem sp);refine gM p3 hw fun h4 p4 k4=>?_;have m4:=m3.call k4;simp;refine pz p4 hk0 fun h5 p5 k5=>?_;have m5:=m4.call k5;have g5:=m5.get;simp[g5];obtain⟨h6,e6,m6,p6⟩:=m5.put [.I 2,.I pl.1,.I pl.2,.str [],.str n0.text,.Z,.Z,.N] p5 al;rw[e6];refine cW _ p6 aX ?_;have g6:=m6.get;have hle:7+n0.text.length<=4611686018427387904:=om;have Q6:n0.text.length+7<=4611686018427387904:=om;simp[g6,hle,Q6];refine Hu fI _ p6 ok.len (by simp;omega) fun k7 h7 p7 k7x=>?_;have m7:=m6.call k7x;have g7:=m7.get;simp[g7];simp only[bZ,cd]at hT Aj tU;obtain⟨ty,Gp⟩:∃ty,ty=115::116::114::117::99::116::32::(n0.text++s0):=⟨_,rfl⟩
   rw[<-Gp]at hT Aj tU⊢;obtain⟨hS,eS,mS,pS⟩:=m7.put [.I 2,.I pl.1,.I pl.2,.str ty,.str n0.text,.Z,.Z,.N] p7 al;rw[eS];clear eS e6 g5 g6 g7 m4 m5 m6 m7 p4 p5 p6 p7 m3 p3 rO Gp fI;refine Bg pS fun h7 k7=>?_;have m7:=mS.aJ k7;have p7:=pS.aJ k7;have g7:=m7.get;simp[g7,FM];obtain⟨h8,e8,m8,p8⟩:=m7.put [.I 2,.I n.l,.I n.c,.str ty,.str n0.text,.Z,.Z,.N] p7 al;rw[e8];refine pz p8 hk fun h9 p9 k9=>?_;have m9:=m8.call k9;have g9:=m9.get;simp[g9];obtain⟨hN,eN,mN,pN⟩:=m9.put [.I 2,.I n.l,.I n.c,.str ty,.str n.text,.Z,.Z,.N] p9 al;rw[eN];obtain⟨kN,pN⟩:∃kN,iD r a W el ec kN Ii nd fn dp hN:=⟨_,pN⟩
   clear e8 eN g7 g9 m7 m8 m9 p7 p8 p9 k7 k9 mS pS;refine ru _ pN ?_;rcases tU with⟨c,ty2,hs,ha,hc,rfl⟩|⟨o,c,cq,s,rfl,ho,hc,hb,rfl⟩|⟨o,cq,eK,ps,s,rfl,ho,hs,hp,hb,rfl⟩
   ·simp[hs];have gN:=mN.get;simp[gN];refine Ar ok ha om pN fun kA hA WW pA kxA=>?_;have mA:=mN.call kxA;have gA:=mA.get;simp[gA];obtain⟨hB,eB,mB,pB⟩:=mA.put [.I 2,.I n.l,.I n.c,.str ty2,.str n.text,.Z,.Z,.N] pA al;rw[eB];refine jb pB hc fun hC pC kC=>?_;have mC:=mB.call kC;have gC:=mC.get;simp;have la:=ha.kj;simp only[ai]at la;exact hQ _ _ _ _ _ (show sY X hC iT (.global n.at ty2 n.text)from⟨gC,fun hx=>by have:=mC.xo.lt _ hx;have:=mC.lo;omega⟩) ⟨om,rfl,by first|omega|(simp<;>omega)⟩ pC mC.kx
   ·simp only[ai]at lTy;simp[ho.du];have Gr:fn+1<=100:=B7;have Ms:=pN.obj;have nrN:=mN.nr;have abi:=iw nrN;have w1:IntKind.wrap .i64 ((fn:Int)+1)=((fn+1:Nat):Int):=(by rw[wr om om];simp);simp[PO]at Ms;have gN:=mN.get;have Mt:(fn:Int)+1<=100:=om;simp[Ms,w1,Mt];have HB:aQ [r] hN (hN.set r (PO a kN (o::c::cq).length el ec nd (fn+1:Nat) dp)):=(by have:=pN.rl;exact kX);have pF:iD r a W el ec kN (o::c::cq) nd (fn+1) dp (hN.set r (PO a kN (o::c::cq).length el ec nd (fn+1:Nat) dp)):=pN.AG HB (by simp[PO]) pN.drop pN.len;have mF:=mN.call HB;simp[PO]at pF mF HB;generalize hN.set r _=hF at*;refine(xZ _ _).mono fun out hG' hq=>?_;obtain⟨rfl,rfl⟩:=hq;simp;refine py pF fun hT' pT kT=>?_;have mT:=mF.call kT;have gT:=mT.get;simp[gT];obtain⟨hP,eP,mP,pP⟩:=mT.put [.I 3,.I n.l,.I n.c,.str ty,.str n.text,.Z,.Z,.N] pT al;rw[eP];clear eP gT mT pT kT mF pF HB Ms gN mN pN;refine gM pP hc fun hE0 pE kE=>?_;have mE:=mP.call kE;simp;refine bW (fun m x=>m=0/\x.n=151/\x.ds=[]/\x.bI=false/\x.h=hE0/\x.rg.get 0=some (.P r)/\x.rg.get 3=some (.P iT)/\x.rg.get 5=some (.bool false)) 0 ?_ ?_
    ·exact⟨rfl,rfl,rfl,rfl,rfl,sp,sp,sp⟩
    rintro m ⟨rg,n',hE,ds,bI⟩ ⟨rfl,e1,e2,e3,e4,r0,r3,r5⟩
    dsimp only at e1 e2 e3 e4 r0 r3 r5;subst e1 e2 e3 e4;simp[r0,r3,r5];have aE:dW (iT::X) hE (.Z) 5 0 []:= .inl ⟨rfl,rfl,rfl⟩;have lB:=hb.len.2 rfl;refine Oj .AF b _ _ _ hb r a W el ec _ _ _ dp hE (iT::X) _ ok pE mE.pQ om om om fun vY kB ndB hB sB lB nB pB Tj=>?_;have mB:=mE.call Tj;have gB:=mB.get;have aB:=aE.move (Move.r pE.fr mE.pQ Tj);simp[r0,r3,gB];obtain⟨hC,eC,mC,pC⟩:=mB.put [.I 3,.I n.l,.I n.c,.str ty,.str n.text,.Z,(.Z),.P vY] pB al;simp only[eC];have gC:=mC.get;have mv:Move (iT::X) (iT::X) hB hC:=eC▸Move.on _ (aY ..);have Tk:Move (iT::X) X hB hC:=mv.comp (Move.less fun y hy=>ay _ hy);exact hQ _ _ _ _ _ (show sY X hC iT (.func n.at ty n.text [] s)from⟨.Z,vY,gC,fun hx=>by have:=mC.xo.lt _ hx;have:=mC.lo;omega,aB.move Tk,sB.move Tk⟩) ⟨om,rfl,by first|omega|(simp<;>omega)⟩ pC mC.kx
   ·simp only[ai]at lTy;simp[ho.du];have Gr:fn+1<=100:=B7;have Ms:=pN.obj;have nrN:=mN.nr;have abi:=iw nrN;have w1:IntKind.wrap .i64 ((fn:Int)+1)=((fn+1:Nat):Int):=(by rw[wr om om];simp);simp[PO]at Ms;have gN:=mN.get;have Mt:(fn:Int)+1<=100:=om;simp[Ms,w1,Mt];have HB:aQ [r] hN (hN.set r (PO a kN (o::cq).length el ec nd (fn+1:Nat) dp)):=(by have:=pN.rl;exact kX);have pF:iD r a W el ec kN (o::cq) nd (fn+1) dp (hN.set r (PO a kN (o::cq).length el ec nd (fn+1:Nat) dp)):=pN.AG HB (by simp[PO]) pN.drop pN.len;have mF:=mN.call HB;simp[PO]at pF mF HB;generalize hN.set r _=hF at*;refine(xZ _ _).mono fun out hG' hq=>?_;obtain⟨rfl,rfl⟩:=hq;simp;refine py pF fun hT' pT kT=>?_;have mT:=mF.call kT;have gT:=mT.get;simp[gT];obtain⟨hP,eP,mP,pP⟩:=mT.put [.I 3,.I n.l,.I n.c,.str ty,.str n.text,.Z,.Z,.N] pT al;rw[eP];clear eP gT mT pT kT mF pF HB Ms gN mN pN;refine cW _ pP hs ?_;have lB0:=hb.len.2 rfl;simp;obtain⟨I,hI⟩:∃I:Nat->St->Prop,I=(fun m x=>∃cs k1 pv qs more,m=cs.length/\(more=true->∃l2,xu cs eK l2/\qs++l2=ps)/\(more=false->cs=eK/\qs=ps)/\cs.length<=cq.length/\qs.length+cs.length<=cq.length/\x.n=151/\x.ds=[]/\x.bI=false/\IM r X h iT [.I 3,.I n.l,.I n.c,.str ty,.str n.text,.Z,pv,.N] x.h/\dW (iT::X) x.h pv 5 qs.length (qs.flatMap Pm.cells)/\(∀z,z∈aK pv->h.next<=z/\z<x.h.next)/\iD r a W el ec k1 cs nd (fn+1) dp x.h/\
     x.rg.get 0=some (.P r)/\x.rg.get 3=some (.P iT)/\x.rg.get 5=some (.bool more)):=⟨_,rfl⟩
    refine bW I cq.length (by rw[hI];exact⟨cq,_,.Z,[],true,rfl,fun _=>⟨ps,hp,rfl⟩,sp,ao _,sp,rfl,rfl,rfl,mP,.inl ⟨rfl,rfl,rfl⟩,by simp[aK],pP,sp,sp,sp⟩) ?_;clear mP pP hp hs;intro m st fI;have lQ:=fI;rw[hI]at lQ;obtain⟨rg,n',hE,ds,bI⟩:=st;obtain⟨cs,k1,pv,qs,more,rfl,HS,QV,zo,hqc,e1,e2,e3,mE,aE,hz,pE,r0,r3,r5⟩:=lQ;clear fI;dsimp only at e1 e2 e3 mE aE hz pE r0 r3 r5;subst e1 e2 e3;cases more with
    |false=>
     obtain⟨rfl,rfl⟩:=QV rfl;simp[r0,r3,r5];have lB:=hb.len.2 rfl;refine Oj .AF b _ _ _ hb r a W el ec _ _ _ dp hE (iT::X) _ ok pE mE.pQ om om om fun vY kB ndB hB sB lB nB pB Tj=>?_;have mB:=mE.call Tj;have gB:=mB.get;have aB:=aE.move (Move.r pE.fr mE.pQ Tj);simp[r0,r3,gB];obtain⟨hC,eC,mC,pC⟩:=mB.put [.I 3,.I n.l,.I n.c,.str ty,.str n.text,.Z,pv,.P vY] pB al;simp only[eC];have gC:=mC.get;have mv:Move (iT::X) (iT::X) hB hC:=eC▸Move.on _ (aY ..);have Tk:Move (iT::X) X hB hC:=mv.comp (Move.less fun y hy=>ay _ hy);exact hQ _ _ _ _ _ (show sY X hC iT (.func n.at ty n.text qs s)from⟨pv,vY,gC,fun hx=>by have:=mC.xo.lt _ hx;have:=mC.lo;omega,aB.move Tk,sB.move Tk⟩) ⟨om,rfl,by first|omega|(simp<;>omega)⟩ pC mC.kx
    |true=>
     obtain⟨l2,hP,qZ⟩:=HS rfl;obtain⟨tq,tN,m1,c,pb,tp,Tl,HX,UF,wa⟩:∃tq tN m1 c pb tp,SQ cs tq pb/\yz tq (m1::c::tN) tp/\m1.kind=1/\((ja c [41]/\tN=eK/\qs++[⟨m1.at,pb,tp,m1.text⟩]=ps)\/(ja c [44]/\∃l3,xu tN eK l3/\(qs++[⟨m1.at,pb,tp,m1.text⟩])++l3=ps)):=by
      cases hP with
      |one h1 h2 h3 h4=>exact⟨_,_,_,_,_,_,h1,h2,h3,.inl ⟨h4,rfl,qZ⟩⟩
      |more h1 h2 h3 h4 h5=>exact⟨_,_,_,_,_,_,h1,h2,h3,.inr ⟨h4,_,h5,by rw[<-qZ];simp⟩⟩
     have lp:tq.length<=cs.length:=(by cases Tl<;>simp);have lt:=HX.kj;simp only[ai]at lt;simp[r0,r3,r5];refine Bg pE fun h2 k2=>?_;have m2:=mE.aJ k2;have a2:=aE.move (Move.k pE.fr k2);have p2:=pE.aJ k2;have hz2:∀z,z∈aK pv->h.next<=z/\z<h2.next:=fun z hq=>⟨(hz z hq).1,aw (hz z hq).2 k2.next⟩
     obtain⟨pl,rO⟩:∃pl,pl=FM el ec cs:=⟨_,rfl⟩
     rw[<-rO];clear rO k2 mE aE pE hz;simp[r0];have Tm:∀Q':Out->ah->Prop,(∀k3 h3,iD r a W el ec k3 tq nd (fn+1) dp h3->aQ [r] h2 h3->Q' (.ret (.bool pb)) h3)->aV env 48 [.P r,.str [112,117,98,108,105,99]] h2 Q':=by
      intro Q' Aq;cases Tl with
      |no tf=>exact cW _ p2 tf (Aq _ _ p2 (aQ.refl _ _))
      |yes hy=>exact gM p2 hy fun h3 p3 k3=>Aq _ _ p3 k3
     refine Tm _ fun k3 h3 p3 FN=>?_;have m3:=m2.call FN;have a3:=a2.move (Move.r p2.fr m2.pQ FN);have Hz:∀z,z∈aK pv->h.next<=z/\z<h3.next:=fun z hq=>⟨(hz2 z hq).1,aw (hz2 z hq).2 FN.next⟩
     simp;have K4:aS h3 ((h3.alloc (.C [.I 0,.I 0,.bool false,.str [],.str []])).2.set h3.next (.C [.I pl.1,.I pl.2,.bool pb,.str [],.str []])):=kT;have m4:=m3.aJ K4;have a4:=a3.move (Move.k p3.fr K4);have p4:=p3.aJ K4;have gF:((h3.alloc (.C [.I 0,.I 0,.bool false,.str [],.str []])).2.set h3.next (.C [.I pl.1,.I pl.2,.bool pb,.str [],.str []])).get h3.next=some (.C [.I pl.1,.I pl.2,.bool pb,.str [],.str []]):=sp;have lF:h3.next<((h3.alloc (.C [.I 0,.I 0,.bool false,.str [],.str []])).2.set h3.next (.C [.I pl.1,.I pl.2,.bool pb,.str [],.str []])).next:=by simp
     have n4:=K4.next;have YU:h3.next≠r:=(by have:=p3.rl;omega);have nFa:h3.next≠a:=(by have:=p3.al;omega);have nFi:h3.next≠iT:=(by have:=m3.lt;omega);have nFl:h.next<=h3.next:=m3.kx.next;have nFz:∀z,z∈aK pv->z≠h3.next:=fun z hq=>by have:=Hz z hq;omega
     generalize (h3.alloc (.C [.I 0,.I 0,.bool false,.str [],.str []])).2.set h3.next (.C [.I pl.1,.I pl.2,.bool pb,.str [],.str []])=h4 at*;have Ol:∀z,z∈aK pv->h.next<=z/\z<h4.next:=fun z hq=>⟨(Hz z hq).1,aw (Hz z hq).2 n4⟩
     generalize h3.next=iF at*;clear K4 m3 a3 p3 Hz m2 a2 p2 hz2 FN Tm;have Qh:∀H o,Move (iF::iT::X) (iF::iT::X) H (H.set iF o):=fun H o=>Move.on o (aY ..);have aF:dW (iF::iT::X) h4 pv 5 qs.length (qs.flatMap Pm.cells):=by
      rcases a4 with a4|⟨z,e,hzx,g⟩
      ·exact .inl a4
      ·refine .inr ⟨z,e,?_,g⟩;intro hx;rcases aq.1 hx with hx|hx
       ·exact nFz z (by rw[e];simp[aK]) hx
       ·exact hzx hx
     clear a4;have EU:∀{H:ah}{k':Nat}{uf:List Wo}{L:List AV}(o:ej),IM r X h iT L H->iD r a W el ec k' uf nd (fn+1) dp H->iF<H.next->dW (iF::iT::X) H pv 5 qs.length (qs.flatMap Pm.cells)->
      IM r X h iT L (H.set iF o)/\iD r a W el ec k' uf nd (fn+1) dp (H.set iF o)/\dW (iF::iT::X) (H.set iF o) pv 5 qs.length (qs.flatMap Pm.cells)/\(H.set iF o).get iF=some o:=by
      intro H k' uf L o m p lt ar;exact⟨⟨by rw[ah.aM,az nFi.symm];exact m.get,m.lo,m.lt,aQ.set _ m.kx (.inr nFl) lt,m.xo⟩,p.put _ YU nFa lt,ar.move (Qh _ _),by rw[ah.aM,aW rfl]⟩
     have xz:∀{H H':ah}{k':Nat}{uf:List Wo}{L:List AV}{o:ej},IM r X h iT L H->iD r a W el ec k' uf nd (fn+1) dp H->aQ [r] H H'->iF<H.next->H.get iF=some o->dW (iF::iT::X) H pv 5 qs.length (qs.flatMap Pm.cells)->
      IM r X h iT L H'/\iF<H'.next/\H'.get iF=some o/\dW (iF::iT::X) H' pv 5 qs.length (qs.flatMap Pm.cells):=by
      intro H H' k' uf L o m p kx lt g ar;refine⟨m.call kx,aw lt kx.next,(kx.old iF lt (by simp[YU])).trans g,ar.move (Move.r p.fr ⟨ay _ (ay _ m.xo.r),?_⟩ kx)⟩;intro y hy;rcases aq.1 hy with rfl|hy
      ·exact lt
      ·exact m.pQ.lt y hy
     simp[r0];refine D3 ok HX p4 fun k5 h5 Aj p5 k5x=>?_;obtain⟨m5,l5,g5,a5⟩:=xz m4 p4 k5x lF gF aF;simp[r0,g5];obtain⟨m6,p6,a6,g6⟩:=EU (.C [.I pl.1,.I pl.2,.bool pb,.str tp,.str []]) m5 p5 l5 a5;have l6:iF<(h5.set iF (.C [.I pl.1,.I pl.2,.bool pb,.str tp,.str []])).next:=l5
     have n56:h5.next<=(h5.set iF (.C [.I pl.1,.I pl.2,.bool pb,.str tp,.str []])).next:=ao _
     generalize h5.set iF (.C [.I pl.1,.I pl.2,.bool pb,.str tp,.str []])=h6 at*;refine Bg p6 fun h7 k7=>?_;obtain⟨m7,l7,g7,a7⟩:=xz m6 p6 (k7.x _) l6 g6 a6;have p7:=p6.aJ k7;simp[r0,g7,FM];obtain⟨m8,p8,a8,g8⟩:=EU (.C [.I m1.l,.I m1.c,.bool pb,.str tp,.str []]) m7 p7 l7 a7;have l8:iF<(h7.set iF (.C [.I m1.l,.I m1.c,.bool pb,.str tp,.str []])).next:=l7
     have n78:h7.next<=(h7.set iF (.C [.I m1.l,.I m1.c,.bool pb,.str tp,.str []])).next:=ao _
     generalize h7.set iF (.C [.I m1.l,.I m1.c,.bool pb,.str tp,.str []])=h8 at*;refine pz p8 UF fun h9 p9 k9=>?_;obtain⟨m9,l9,g9,a9⟩:=xz m8 p8 k9 l8 g8 a8;simp[r0,g9];obtain⟨mA,pA,aA,gA⟩:=EU (.C [.I m1.l,.I m1.c,.bool pb,.str tp,.str m1.text]) m9 p9 l9 a9;have lA:iF<(h9.set iF (.C [.I m1.l,.I m1.c,.bool pb,.str tp,.str m1.text])).next:=l9
     have nA4:h4.next<=(h9.set iF (.C [.I m1.l,.I m1.c,.bool pb,.str tp,.str m1.text])).next:=bk k5x.next (bk (bk (show h5.next<=h6.next from n56) k7.next) (bk (show h7.next<=h8.next from n78) k9.next))
     generalize h9.set iF (.C [.I m1.l,.I m1.c,.bool pb,.str tp,.str m1.text])=hA at*;have YV:∀z,z∈aK pv->h.next<=z/\z<hA.next:=fun z hq=>⟨(Ol z hq).1,aw (Ol z hq).2 nA4⟩
     clear nA4 m4 p4 aF gF lF m5 p5 a5 g5 l5 m6 p6 a6 g6 l6 m7 p7 a7 g7 l7 m8 p8 a8 g8 l8 m9 p9 a9 g9 l9 k5x k7 k9 Ol n4;refine Dd ?_;have gm:=mA.get;have fj:=pA.fr (hA.next+6) om;simp[-aO,r0,r3,gm,gA,fj]
     repeat refine di ?_
     have KB:=(aS.refl hA).bump 11;have lAi:=mA.kx.next;obtain⟨wk,D4,g12,fin⟩:=(mA.aJ KB).push (pA.aJ KB) al (st:=106) (e:=147) rfl ty147.1 ty147.2.1 dc ty147.2.2.2 rfl (aA.move (Move.k pA.fr KB)) ⟨sp,by simp[mA.xo.r]⟩ (fun z hq=>⟨(YV z hq).1,by have:=(YV z hq).2;simp;omega⟩) (Pm.As _) om (j:=hA.next+6) fj sp om [.I m1.l,.I m1.c,.bool pb,.str tp,.str m1.text] rfl rfl;simp[-aO]at D4;rw[D4];simp[-aO,r0,r3,g12]
     repeat refine di ?_
     obtain⟨mD,pD,aD,At⟩:=fin [.I 3,.I n.l,.I n.c,.str ty,.str n.text,.Z,.S (hA.next+11) (qs.length+1),.N];simp at mD pD aD;generalize wk.set iT _=hD at*;have aD:dW (iT::X) hD (.S (hA.next+11) (qs.length+1)) 5 (qs++[(⟨m1.at,pb,tp,m1.text⟩:Pm)]).length ((qs++[(⟨m1.at,pb,tp,m1.text⟩:Pm)]).flatMap Pm.cells):=(by simpa[Pm.cells,Wo.at]using aD);rcases wa with⟨hc,rfl,Ef⟩|⟨hc,l3,hr,Ef⟩
     ·refine cW _ pD (by simp[hc.du]) ?_;simp[r0];refine jb pD hc fun hY pY kY=>?_;simp[r0,r3];refine⟨tN.length,om,?_⟩;rw[hI];exact⟨tN,_,_,qs++[⟨m1.at,pb,tp,m1.text⟩],false,rfl,sp,fun _=>⟨rfl,Ef⟩,om,by simp<;>omega,rfl,rfl,rfl,mD.call kY,aD.move (Move.r pD.fr mD.pQ kY),fun z hq=>⟨(At z hq).1,aw (At z hq).2 kY.next⟩,pY,by simp[r0],by simp[r3],sp⟩
     ·refine gM pD hc fun hY pY kY=>?_;simp[r0,r3];refine⟨tN.length,om,?_⟩;rw[hI];exact⟨tN,_,_,qs++[⟨m1.at,pb,tp,m1.text⟩],true,rfl,fun _=>⟨l3,hr,Ef⟩,sp,om,by simp<;>omega,rfl,rfl,rfl,mD.call kY,aD.move (Move.r pD.fr mD.pQ kY),fun z hq=>⟨(At z hq).1,aw (At z hq).2 kY.next⟩,pY,by simp[r0],by simp[r3],sp⟩
end
end
section
attribute [local simp] aI
def J0:List It->Nat
 |[]=>0
 |i::l=>i.fc+J0 l
def DZ(X:List Nat)(h:ah)(id:Nat)(ez:List It):Prop:=
 ∃av n qs,h.get id=some (.C [av,.I n])/\id∉X/\dP X h av qs/\qs.map Prod.snd=ez/\∀q,q∈qs->sY X h q.1 q.2
section
variable{X:List Nat}{Q:Out->ah->Prop}{r a:Nat}{W:List Wo}{el ec:Int}{k:Nat}{ws:List Wo}{nd fn dp:Nat}{h H H':ah}{iT:Nat}
theorem IM.adX{cs:List AV}(m:IM r X h iT cs H)(p:iD r a W el ec k ws nd fn dp H)(al:a<h.next){st e:TypeId}{uB es:Nat}{z:List AV}(hu:env.kQ st=some (.slice e))(hs:env.siz e=some (es+1))(hb:env.byt e=some uB)(MW:uB<=100)(hz:env.zer e=some z)(wB:z.length=es+1){av:AV}{n:Nat}{acs:List AV}{Y:List Nat}(arr:dW Y H av (es+1) n acs)(hY:iT∈Y)(Zr:∀z,z∈aK av->h.next<=z/\z<H.next)(hc:acs.length=n*(es+1))(hq:n<=300)
 {j:Nat} (g:H.get j=none) (hj:j<H.next) (Rf:h.next<=j) (eC:List AV) (Em:eC.length=es+1) (xL:eC.all AV.scalar=true):
 ∃H7,aO env (H.set j (.cells true (es+1) eC)) st av (.S j 1)=some (.S H.next (n+1),H7)/\H7.get iT=some (.C cs)/\∀uf,(IM r X h iT uf (H7.set iT (.C uf))/\iD r a W el ec k ws nd fn dp (H7.set iT (.C uf))/\
  dW (iT::X) (H7.set iT (.C uf)) (.S H.next (n+1)) (es+1) (n+1) (acs++eC)/\∀z,z∈aK (.S H.next (n+1))->(h.next<=z/\z<(H7.set iT (.C uf)).next))/\Move (aK av++iT::X) (H.next::iT::X) H (H7.set iT (.C uf)):=by
 have p6:=p.new (.cells true (es+1) eC) g hj;have WZ:Move Y Y H (H.set j (.cells true (es+1) eC)):=Move.new _ g;have UE:iT≠j:=fun e=>by rw[<-e,m.get]at g;cases g
 have og:=arr.move WZ;have vA:(H.set j (.cells true (es+1) eC)).next=H.next:=rfl
 obtain⟨H7,ha,nx,g7,k7⟩:=nR hu hs hb MW hz wB og hc hq j eC Em xL sp p6.fr;rw[vA]at ha nx g7;have hiz:iT∉aK av:=by
  rcases arr with⟨_,_,rfl⟩|⟨b,rfl,hb,_⟩
  ·simp[aK]
  ·simp only[aK,aR];rintro rfl;exact hb hY
 have hrz:∀z,z∈aK av->z≠r/\z≠a:=fun z hz=>by
  have h1:=(Zr z hz).1;have h2:=m.xo.lt r m.xo.r;exact⟨om,om⟩
 have p7:=p6.app k7 hrz;have giT:H7.get iT=some (.C cs):=by
  rw[k7.old iT (by rw[vA];exact m.lt) hiz,ah.aM,az UE];exact m.get
 have lo:=m.lo;have lt:=m.lt;have lt7:iT<H7.next:=by rw[nx];omega
 have BW:aQ [r] h H7:=(aQ.set _ m.kx (.inr Rf) hj).trans' k7 (fun z hz cX=>by have:=(Zr z hz).1;omega);have tA:∀y,y∈H.next::iT::X->y∈aK av++iT::X\/H.next<=y:=fun y hy=>by
  rcases aq.1 hy with rfl|hy
  ·exact .inr (ao _)
  ·exact .inl (bJ _ hy)
 have mv7:Move (aK av++iT::X) (H.next::iT::X) H H7:=(Move.new _ g).comp (Move.of p6.fr k7 (fun z hz _=>gS _ hz) (fun y hy=>by rw[vA];exact tA y hy));refine⟨H7,ha,giT,fun uf=>⟨⟨⟨sp,m.lo,lt7,aQ.set _ BW (.inr m.lo) lt7,m.xo⟩,p7.put _ m.nr om lt7,.inr ⟨H.next,rfl,?_,?_⟩,?_⟩,mv7.comp (Move.on _ (ay _ (aY ..)))⟩⟩
 ·intro hx;rcases aq.1 hx with hx|hx
  ·omega
  ·have:=(m.xo.x m.kx).lt _ hx;omega
 ·rw[ah.aM,az om,g7]
 ·intro z hz;have hz:z∈[H.next]:=hz;simp only[aR]at hz;subst hz;exact⟨m.kx.next,by simp[nx]⟩
theorem PN{b:Nat}{ez:List It}(hG:qf b ws ez)(ok:S7 W)(p:iD r a W el ec k ws nd fn dp h)(xo:Bh r X h)(hn:nd+ws.length<=1000)(hd:dp+2*ws.length<=600)(yG:b<=40)(B7:fn+J0 ez<=100)
 (hQ:∀id k' Ih Bz h',DZ X h' id ez->iD r a W el ec k' [] Ih Bz dp h'->aQ [r] h h'->Q (.ret (.P id)) h'):
 aV env 17 [.P r] h Q:=by
 refine wb fn17 rfl ?_;have Mq:ws.length<=250:=by have:=ok.len;have:=p.len;omega
 have al:=p.al;have Ie:=p.rl;simp[f17];have K1:aS h (h.alloc (.C [.Z,.I 0])).2:=kT;have m1:IM r X h h.next [.Z,.I 0] (h.alloc (.C [.Z,.I 0])).2:=⟨sp,ao _,sp,K1.x _,xo⟩
 have p1:=p.aJ K1;generalize (h.alloc (.C [.Z,.I 0])).2=h1 at*;obtain⟨iT,hiT⟩:∃iT,iT=h.next:=⟨_,rfl⟩
 rw[<-hiT]at m1⊢;obtain⟨I,hI⟩:∃I:Nat->St->Prop,I=(fun m x=>∃cs k1 zy fn1 av qs l2,m=cs.length/\cs.length<=ws.length/\qf b cs l2/\qs.map Prod.snd++l2=ez/\qs.length+cs.length<=ws.length/\zy+cs.length<=nd+ws.length/\fn1+J0 l2<=100/\x.n=31/\x.ds=[]/\x.bI=false/\IM r X h iT [av,.I 0] x.h/\dP (iT::X) x.h av qs/\(∀q,q∈qs->sY (aK av++iT::X) x.h q.1 q.2)/\(∀z,z∈aK av->h.next<=z/\z<x.h.next)/\iD r a W el ec k1 cs zy fn1 dp x.h/\
  x.rg.get 0=some (.P r)/\x.rg.get 3=some (.P iT)):=⟨_,rfl⟩
 refine bW I ws.length (by rw[hI];exact⟨ws,_,_,_,.Z,[],ez,rfl,ao _,hG,rfl,sp,ao _,B7,rfl,rfl,rfl,m1,.inl ⟨rfl,rfl⟩,sp,by simp[aK],p1,sp,sp⟩) ?_;clear m1 p1 hG K1;intro m st fI;have lQ:=fI;rw[hI]at lQ;obtain⟨rg,n',hA,ds,bI⟩:=st;obtain⟨cs,k1,zy,fn1,av,qs,l2,rfl,zo,hF,qZ,hqc,Kn,Zs,e1,e2,e3,mA,aA,sA,hz,pA,r0,r3⟩:=lQ;clear fI;dsimp only at e1 e2 e3 mA aA sA hz pA r0 r3;subst e1 e2 e3;have obA:=pA.obj;simp[PO]at obA;cases hF with
 |done=>
  have gm:=mA.get;have nr:=mA.nr;simp at qZ obA;simp[r0,r3,obA,gm];obtain⟨hB,eB,mB,pB⟩:=mA.put [av,.I zy] pA al;rw[eB];have mv:Move (iT::X) X hA hB:=eB▸(Move.on _ (aY ..)).comp (Move.less fun y hy=>ay _ hy);have WX:Move (aK av++iT::X) X hA hB:=(Move.less fun y hy=>bJ _ hy).comp mv;exact hQ _ _ _ _ _ ⟨av,zy,qs,mB.get,fun hx=>by have:=mB.xo.lt _ hx;have:=mB.lo;omega,aA.move mv,qZ,fun q hq=>(sA q hq).move WX⟩ pB mB.kx
 |@item _ cq i l3 hi hr=>
  have hlen:0<cs.length:=by
   have:cs≠[]:=by
    rintro rfl
    cases hi with
    |global ht=>exact absurd ht.kj sp
    |func0 ht=>exact absurd ht.kj sp
    |func ht=>exact absurd ht.kj sp
   exact List.length_pos_iff.2 this
  have adY:(0:Int)<(cs.length:Int):=by omega
  simp only[J0]at Zs;simp[r0,obA,hlen,adY];refine Dd ?_;have gm:=mA.get;simp[-aO,r0,r3,gm]
  repeat refine di ?_
  have KB:=(aS.refl hA).bump 12;have mb:=mA.aJ KB;have pb:=pA.aJ KB;have mvb:∀Y,Move Y Y hA (hA.bump 12):=fun Y=>Move.k pA.fr KB;have f7:=pA.fr (hA.next+7) om;have Wh:=mA.kx.next;have xb:Bh r (aK av++iT::X) (hA.bump 12):=⟨bJ _ (ay _ xo.r),fun y hy=>by
   rcases aP.1 hy with hy|hy
   ·have:=(hz y hy).2;simp;omega
   ·exact mb.pQ.lt y hy⟩
  refine abh hi ok pb xb om om yG om fun id k5 PL fn5 h5 i5 l5 p5 ot=>?_;obtain⟨l5,rfl,l6⟩:=l5;have m5:=mb.call ot;have g5:=m5.get;have a5:=(aA.move (mvb _)).move (Move.r pb.fr mb.pQ ot);have s5:∀q,q∈qs->sY (aK av++iT::X) h5 q.1 q.2:=fun q hq=>((sA q hq).move (mvb _)).move (Move.r pb.fr xb ot);have o5:=ot.old (hA.next+7) sp (by have:=pA.rl;simp;omega);have Hy:=ot.next;simp[f7]at o5 Hy;simp[-aO];have gq:=g5;rw[hiT]at gq
  repeat refine di ?_
  simp[-aO,o5];have Td:dW (iT::X) h5 av (0+1) qs.length (qs.map fun p=> .P p.1):=by
   rcases a5 with⟨rfl,rfl⟩|⟨b,e,hb,g⟩
   ·exact .inl ⟨rfl,rfl,rfl⟩
   ·exact .inr ⟨b,e,hb,g⟩
  obtain⟨wk,D4,g12,fin⟩:=m5.adX p5 al (st:=98) (e:=101) rfl ty101.1 ty101.2.1 dc ty101.2.2.2 rfl Td sp (fun z hq=>⟨(hz z hq).1,by have:=(hz z hq).2;omega⟩) sp om (j:=hA.next+7) o5 om om [.P id] rfl rfl;simp[-aO]at D4;rw[D4];simp[-aO,r0,r3,g12]
  repeat refine di ?_
  obtain⟨⟨mD,pD,aD,At⟩,mvD⟩:=fin [.S h5.next (qs.length+1),.I 0];generalize wk.set iT _=hD at*;refine⟨cq.length,om,?_⟩;rw[hI];refine⟨cq,_,_,_,_,qs++[(id,i)],l3,rfl,om,hr,by rw[<-qZ];simp,by simp<;>omega,om,om,rfl,rfl,rfl,mD,?_,?_,At,pD,by simp[r0],by simp[r3]⟩
  ·rcases aD with⟨e,_⟩|⟨b,e,hb,g⟩
   ·omega
   ·exact .inr ⟨b,by rw[e];simp,hb,by rw[g];simp⟩
  ·intro q hq;rcases aP.1 hq with hq|hq
   ·exact(s5 q hq).move mvD
   ·simp only[aR]at hq;subst hq;exact i5.move mvD
end
end
section
theorem dj{P A H:Prop}(p:P)(f:H->A):H->P/\A:=fun h=>⟨p,f h⟩
theorem dl{A H:Prop}(b:H)(a:H->A:=by(repeat ((with_reducible apply dj); · (repeat (first|exact OZ _ _|exact Ds _ _ _|exact O0 _ _ _ _ _|refine DSc (by decide+kernel) ?_|refine RQ (by decide+kernel) ?_|refine DRc (by decide+kernel) ?_|refine OY (by simp[*];done) ?_|refine Yg (by simp[*];done) ?_|refine OY (by simp_all;done) ?_|refine Yg (by simp_all;done) ?_))));exact fun h=>h):A:=a b
theorem dm{A H:Prop}(b:H)(a:H->A:=by(repeat (apply dj; · (repeat (first|exact OZ _ _|exact Ds _ _ _|exact O0 _ _ _ _ _|refine DSc (by decide+kernel) ?_|refine RQ (by decide+kernel) ?_|refine DRc (by decide+kernel) ?_|refine OY (by simp[*];done) ?_|refine Yg (by simp[*];done) ?_|refine OY (by simp_all;done) ?_|refine Yg (by simp_all;done) ?_))));exact fun h=>h):A:=a b
attribute [local simp] aI
theorem Tn{s:List UInt8}{v:Int}(hd:∀b∈s,VF.contains b=true)(h:Lib.atoiAll s= .ok v):0<=v/\v<9223372036854775808:=by
 unfold Lib.atoiAll at h;cases s with
 |nil=>cases h
 |cons c r=>
  have hc:=hd c sp;have hn:¬c.toNat=45:=by
   intro e;have:c=45:=eh (by rw[e];rfl);subst this;revert hc;decide
  simp only[hn,iW,dT,qD,false_and]at h;split at h
  ·cases h
  ·cases h
  ·rename_i u hu;split at h
   ·cases h
   ·injection h with h;omega
theorem To{s:List UInt8}{v:Int}(h:yT s=some v):0<=v/\v<9223372036854775808:=by
 unfold yT at h;split at h
 ·split at h
  ·cases h
  ·cases hh:yS 0 (s.drop 2)with
   |none=>rw[hh]at h;cases h
   |some u=>
    rw[hh]at h;simp only[Option.map,bw]at h;have:=(Dx _ _ _ hh).2 dc;omega
 ·split at h
  ·rename_i hd;split at h
   ·rename_i u hu;injection h with h;subst h;exact Tn hd.1 hu
   ·cases h
  ·cases h
theorem W5{s:List UInt8}{w:Wd}(h:pc s=some w):0<=w.n/\w.n<9223372036854775808:=by
 unfold pc at h;split at h
 ·cases h
 ·split at h
  ·split at h
   ·injection h with h;subst h;simp
   ·cases h
  ·split at h
   ·rename_i c r h1 h0;cases hv:yT ((c::r).take (eG (c::r)))with
    |none=>rw[hv]at h;cases h
    |some v=>rw[hv]at h;simp only[Option.map,bw]at h;subst h;exact To hv
   ·split at h
    ·injection h with h;subst h;simp
    ·cases h
theorem jM.ok{l c:Int}{s:List UInt8}{ws:List Wo}(h:jM l c s ws):∀w,w∈ws->w.text.length<=s.length/\0<=w.n/\w.n<9223372036854775808:=by
 induction h with
 |nil=>simp
 |blank hs hb h0 hn hr ih=>
  intro w hw;have:=ih w hw;rw[bU]at this;omega
 |word hs hb hw hr ih=>
  intro x hx;obtain⟨t1,t2,t3⟩:=yU hw;rcases aq.1 hx with rfl|hx
  ·exact⟨t2,W5 hw⟩
  ·have:=ih x hx;rw[bU]at this;omega
theorem jM.Bj{s:List UInt8}{ws:List Wo}(h:jM 1 1 s ws)(hs:s.length<=65536)(hw:ws.length<=250):S7 ws:=
 ⟨hw,fun w hm=>by have:=h.ok w hm;omega,fun w hm=>(h.ok w hm).2⟩
theorem J1(a b c:AV)(h:ah)(q:Option AV)(Q:Option AV->ah->Prop)(hq:q=none)(hQ:∀h',aS h h'->Q none h'):lz env 16 [a,b,c] h q Q:=by
 subst hq;refine lz.mk fn16.1 rfl (iJ rfl) ?_;refine WS.seq (WS.aah kr ?_);simp[Cb,eF];refine WS.seq (WS.region kr ?_);simp;refine WS.cond ?_;simp;refine WS.plain rfl ?_;simp[fL];exact hQ _ (aS.refl _)
theorem Mu{Q:Out->ah->Prop}{r:Nat}{el ec:Int}{h:ah}{X:List Nat}(g:h.get r=some (.C [.Z,.I el,.I ec,.I 0,.I 0,.I 0,.N]))(hr:r<h.next)(hX:∀x,x∈X->x<h.next)
 (hQ:∀id h',DZ X h' id []->aS h h'->Q (.ret (.P id)) h'):aV env 17 [.P r] h Q:=by
 refine wb fn17 rfl ?_;simp[f17];have rn:r≠h.next:=om
 refine bW (fun m x=>m=0/\x.n=31/\x.ds=[]/\x.bI=false/\x.h=(h.alloc (.C [.Z,.I 0])).2/\x.rg.get 0=some (.P r)/\x.rg.get 3=some (.P h.next)) 0 ?_ ?_
 ·exact⟨rfl,rfl,rfl,rfl,rfl,sp,sp⟩
 rintro m ⟨rg,n',H,ds,bI⟩ ⟨rfl,e1,e2,e3,e4,r0,r3⟩
 dsimp only at e1 e2 e3 e4 r0 r3;subst e1 e2 e3 e4;simp[r0,r3,g,rn,rn.symm];refine hQ _ _ ⟨.Z,0,[],sp,fun hx=>by have:=hX _ hx;omega,.inl ⟨rfl,rfl⟩,rfl,sp⟩ ?_;exact kT
theorem DZ.Al{X Y:List Nat}{h h':ah}(s:Move X Y h h'){id:Nat}{ez:List It}(t:DZ X h id ez):DZ Y h' id ez:=by
 obtain⟨av,n,qs,g,hx,ha,he,hi⟩:=t;exact⟨av,n,qs,(s.aJ _ _ g hx).1,(s.aJ _ _ g hx).2,ha.move s,he,fun q hq=>(hi q hq).move s⟩
theorem WE{Q:Out->ah->Prop}{s:List UInt8}{ws:List Wo}{ez:List It}{b:Nat}{h:ah}(hs:s.length<=65536)(hx:jM 1 1 s ws)(hw:ws.length<=250)(hG:qf b ws ez)(hb:b<=40)(hf:J0 ez<=100)(fr:cM h)
 (hQ:∀id h',DZ [] h' id ez->aS h h'->Q (.ret (.iX [.P id,.agg [.I 0,.I 0],.I 0])) h'):aV env 6 [.str s] h Q:=by
 refine wd fn6 rfl ?_;have ok:=hx.Bj hs hw;simp[f6];have K1:aS h (((h.alloc (.C [.N])).2.alloc (.C [.I 0,.I 0])).2.alloc (.C [.I 0])).2:=kT;have g2:((((h.alloc (.C [.N])).2.alloc (.C [.I 0,.I 0])).2.alloc (.C [.I 0])).2).get h.next=some (.C [.N]):=sp
 have g3:((((h.alloc (.C [.N])).2.alloc (.C [.I 0,.I 0])).2.alloc (.C [.I 0])).2).get (h.next+1)=some (.C [.I 0,.I 0]):=sp
 have g4:((((h.alloc (.C [.N])).2.alloc (.C [.I 0,.I 0])).2.alloc (.C [.I 0])).2).get (h.next+2)=some (.C [.I 0]):=sp
 have n1:((((h.alloc (.C [.N])).2.alloc (.C [.I 0,.I 0])).2.alloc (.C [.I 0])).2).next=h.next+3:=sp
 generalize (((h.alloc (.C [.N])).2.alloc (.C [.I 0,.I 0])).2.alloc (.C [.I 0])).2=h1 at*;have fr1:=K1.fresh fr;refine(VJ s ws h1 hs fr1 hx).mono fun out h2 hq=>?_;obtain⟨A,rfl,hA0,hA,k2⟩:=hq;have n2:=k2.next;rw[<-k2.old _ om]at g2 g3 g4;simp[g2,g3,g4];have K2:aS h ((h2.set (h.next+1) (.C [.I 0,.I 0])).set (h.next+2) (.C [.I 0])):=by
  have:=K1.trans k2;exact kT
 have q2:((h2.set (h.next+1) (.C [.I 0,.I 0])).set (h.next+2) (.C [.I 0])).get h.next=some (.C [.N]):=by simp[g2]
 have q3:((h2.set (h.next+1) (.C [.I 0,.I 0])).set (h.next+2) (.C [.I 0])).get (h.next+1)=some (.C [.I 0,.I 0]):=sp
 have q4:((h2.set (h.next+1) (.C [.I 0,.I 0])).set (h.next+2) (.C [.I 0])).get (h.next+2)=some (.C [.I 0]):=sp
 have qA:∀a,A=some a->h.next+3<=a/\a<h2.next/\((h2.set (h.next+1) (.C [.I 0,.I 0])).set (h.next+2) (.C [.I 0])).get a=some (.cells true 5 (fN ws)):=by
  intro a e;obtain⟨a1,a2,a3⟩:=hA a e;refine⟨om,a2,?_⟩;rw[ah.aM,az om,ah.aM,az om];exact a3
 have nq:((h2.set (h.next+1) (.C [.I 0,.I 0])).set (h.next+2) (.C [.I 0])).next=h2.next:=rfl
 generalize (h2.set (h.next+1) (.C [.I 0,.I 0])).set (h.next+2) (.C [.I 0])=h3 at*;refine(ad9 s h3 hs).mono fun out h4 hq=>?_;obtain⟨rfl,k4⟩:=hq;have n4:=k4.next;rw[<-k4.old _ om]at q2 q3 q4;have qA4:∀a,A=some a->h.next+3<=a/\a<h4.next/\h4.get a=some (.cells true 5 (fN ws)):=fun a e=>by
  obtain⟨a1,a2,a3⟩:=qA a e;exact⟨a1,om,(k4.old a om).trans a3⟩
 have K4:=K2.trans k4;have fr4:=K4.fresh fr;generalize (dy 1 1 s).1=el at*;generalize (dy 1 1 s).2=ec at*;have n34:h.next+3<=h4.next:=om
 clear k4 k2 K2 g2 g3 g4 hA qA fr1 K1 n1 nq n4 n2;have r1:h.next≠h4.next:=om
 have r2:h.next+1≠h4.next:=om
 have r3:h.next+2≠h4.next:=om
 cases A with
 |none=>
  obtain rfl:=hA0 rfl;have hi0:ez=[]:=by
   cases hG with
   |done=>rfl
   |item hi hr=>
    cases hi with
    |global ht=>exact absurd ht.kj sp
    |func0 ht=>exact absurd ht.kj sp
    |func ht=>exact absurd ht.kj sp
  subst hi0;simp[rk];have K5:aS h (h4.alloc (.C [.Z,.I el,.I ec,.I 0,.I 0,.I 0,.N])).2:=kT;have k5:aS h4 (h4.alloc (.C [.Z,.I el,.I ec,.I 0,.I 0,.I 0,.N])).2:=kT;have g5:(h4.alloc (.C [.Z,.I el,.I ec,.I 0,.I 0,.I 0,.N])).2.get h4.next=some (.C [.Z,.I el,.I ec,.I 0,.I 0,.I 0,.N]):=by simp
  have n5:(h4.alloc (.C [.Z,.I el,.I ec,.I 0,.I 0,.I 0,.N])).2.next=h4.next+1:=by simp
  rw[<-k5.old _ om]at q2 q3 q4;generalize (h4.alloc (.C [.Z,.I el,.I ec,.I 0,.I 0,.I 0,.N])).2=h5 at*;refine Mu (X:=[h4.next,h.next,h.next+1,h.next+2]) g5 om (by simp;omega) fun id h6 t6 k6'=>?_;have k6:=k6'.x [h4.next];have g6:=(k6'.old _ om).trans g5;have s2:=(k6.old h.next om (by simp;omega)).trans q2;have s3:=(k6.old (h.next+1) om (by simp;omega)).trans q3;have s4:=(k6.old (h.next+2) om (by simp;omega)).trans q4;have n6:=k6.next;have K6:aQ [h4.next] h h6:=(K5.x _).trans k6;simp[g6,s2,s3,s4];have e1:h4.next≠h.next:=by omega
  have e2:h4.next≠h.next+1:=by omega
  have e3:h4.next≠h.next+2:=by omega
  simp[g6,e1,e2,e3,s2,s3,s4];have K7:aS h (((((h6.set h.next (.C [.P id])).set h.next (.C [.P id])).set (h.next+1) (.C [.I 0,.I 0])).set (h.next+2) (.C [.I 0]))):=by
   have K6':aS h h6:=⟨K6.next,fun i hi=>K6.old i hi (by simp;omega),K6.fresh⟩
   exact kT
  have mv:∀{H:ah}{i:Nat}(o:ej),i∈[h4.next,h.next,h.next+1,h.next+2]->Move [h4.next,h.next,h.next+1,h.next+2] [h4.next,h.next,h.next+1,h.next+2] H (H.set i o):=fun o hi=>Move.on o hi;have t7:=t6.Al (((mv (H:=h6) (i:=h.next) (.C [.P id]) sp).comp (mv (i:=h.next) (.C [.P id]) sp)).comp ((mv (i:=h.next+1) (.C [.I 0,.I 0]) sp).comp (mv (i:=h.next+2) (.C [.I 0]) sp)));have u2:(((((h6.set h.next (.C [.P id])).set h.next (.C [.P id])).set (h.next+1) (.C [.I 0,.I 0])).set (h.next+2) (.C [.I 0]))).get h.next=some (.C [.P id]):=by simp
  have u3:(((((h6.set h.next (.C [.P id])).set h.next (.C [.P id])).set (h.next+1) (.C [.I 0,.I 0])).set (h.next+2) (.C [.I 0]))).get (h.next+1)=some (.C [.I 0,.I 0]):=by simp
  have u4:(((((h6.set h.next (.C [.P id])).set h.next (.C [.P id])).set (h.next+1) (.C [.I 0,.I 0])).set (h.next+2) (.C [.I 0]))).get (h.next+2)=some (.C [.I 0]):=by simp
  have nn:h.next+3<=(((((h6.set h.next (.C [.P id])).set h.next (.C [.P id])).set (h.next+1) (.C [.I 0,.I 0])).set (h.next+2) (.C [.I 0]))).next:=by show h.next+3<=h6.next;omega
  generalize ((((h6.set h.next (.C [.P id])).set h.next (.C [.P id])).set (h.next+1) (.C [.I 0,.I 0])).set (h.next+2) (.C [.I 0]))=h7 at*;refine J1 _ _ _ _ _ _ rfl fun h8 k8=>?_;have v2:=(k8.old h.next om).trans u2;have v3:=(k8.old (h.next+1) om).trans u3;have v4:=(k8.old (h.next+2) om).trans u4;have Uv:=K7.fresh fr;have t8:=(t7.Al (Move.k Uv k8)).Al (Move.less (Y:=[]) sp);simp[fL,v2,v3,v4];exact hQ _ _ t8 (K7.trans k8)
 |some a=>
  obtain⟨a1,a2,a3⟩:=qA4 a rfl;simp[rk];have K5:aS h (h4.alloc (.C [.S a ws.length,.I el,.I ec,.I 0,.I 0,.I 0,.N])).2:=kT;have k5:aS h4 (h4.alloc (.C [.S a ws.length,.I el,.I ec,.I 0,.I 0,.I 0,.N])).2:=kT;have g5:(h4.alloc (.C [.S a ws.length,.I el,.I ec,.I 0,.I 0,.I 0,.N])).2.get h4.next=some (.C [.S a ws.length,.I el,.I ec,.I 0,.I 0,.I 0,.N]):=by simp
  have n5:(h4.alloc (.C [.S a ws.length,.I el,.I ec,.I 0,.I 0,.I 0,.N])).2.next=h4.next+1:=by simp
  rw[<-k5.old _ om]at q2 q3 q4 a3;generalize (h4.alloc (.C [.S a ws.length,.I el,.I ec,.I 0,.I 0,.I 0,.N])).2=h5 at*;have p5:iD h4.next a ws el ec 0 ws 0 0 0 h5:=⟨by rw[g5];rfl,a3,rfl,om,om,om,om,K5.fresh fr⟩
  refine PN hG ok p5 (X:=[h4.next,h.next,h.next+1,h.next+2]) ⟨sp,by simp;omega⟩ om om hb om fun id k' Ih Bz h6 t6 p6 k6=>?_;have g6:=p6.obj;simp[PO]at g6;have s2:=(k6.old h.next om (by simp;omega)).trans q2;have s3:=(k6.old (h.next+1) om (by simp;omega)).trans q3;have s4:=(k6.old (h.next+2) om (by simp;omega)).trans q4;have n6:=k6.next;have K6:aQ [h4.next] h h6:=(K5.x _).trans k6;simp[g6,s2,s3,s4];have e1:h4.next≠h.next:=by omega
  have e2:h4.next≠h.next+1:=by omega
  have e3:h4.next≠h.next+2:=by omega
  simp[g6,e1,e2,e3,s2,s3,s4];have K7:aS h (((((h6.set h.next (.C [.P id])).set h.next (.C [.P id])).set (h.next+1) (.C [.I 0,.I 0])).set (h.next+2) (.C [.I 0]))):=by
   have K6':aS h h6:=⟨K6.next,fun i hi=>K6.old i hi (by simp;omega),K6.fresh⟩
   exact kT
  have mv:∀{H:ah}{i:Nat}(o:ej),i∈[h4.next,h.next,h.next+1,h.next+2]->Move [h4.next,h.next,h.next+1,h.next+2] [h4.next,h.next,h.next+1,h.next+2] H (H.set i o):=fun o hi=>Move.on o hi;have t7:=t6.Al (((mv (H:=h6) (i:=h.next) (.C [.P id]) sp).comp (mv (i:=h.next) (.C [.P id]) sp)).comp ((mv (i:=h.next+1) (.C [.I 0,.I 0]) sp).comp (mv (i:=h.next+2) (.C [.I 0]) sp)));have u2:(((((h6.set h.next (.C [.P id])).set h.next (.C [.P id])).set (h.next+1) (.C [.I 0,.I 0])).set (h.next+2) (.C [.I 0]))).get h.next=some (.C [.P id]):=by simp
  have u3:(((((h6.set h.next (.C [.P id])).set h.next (.C [.P id])).set (h.next+1) (.C [.I 0,.I 0])).set (h.next+2) (.C [.I 0]))).get (h.next+1)=some (.C [.I 0,.I 0]):=by simp
  have u4:(((((h6.set h.next (.C [.P id])).set h.next (.C [.P id])).set (h.next+1) (.C [.I 0,.I 0])).set (h.next+2) (.C [.I 0]))).get (h.next+2)=some (.C [.I 0]):=by simp
  have nn:h.next+3<=(((((h6.set h.next (.C [.P id])).set h.next (.C [.P id])).set (h.next+1) (.C [.I 0,.I 0])).set (h.next+2) (.C [.I 0]))).next:=by show h.next+3<=h6.next;omega
  generalize ((((h6.set h.next (.C [.P id])).set h.next (.C [.P id])).set (h.next+1) (.C [.I 0,.I 0])).set (h.next+2) (.C [.I 0]))=h7 at*;refine J1 _ _ _ _ _ _ rfl fun h8 k8=>?_;have v2:=(k8.old h.next om).trans u2;have v3:=(k8.old (h.next+1) om).trans u3;have v4:=(k8.old (h.next+2) om).trans u4;have Uv:=K7.fresh fr;have t8:=(t7.Al (Move.k Uv k8)).Al (Move.less (Y:=[]) sp);simp[fL,v2,v3,v4];exact hQ _ _ t8 (K7.trans k8)
end
end Go.Proofs.YtgebeldoibkkpaaGreatDoor
