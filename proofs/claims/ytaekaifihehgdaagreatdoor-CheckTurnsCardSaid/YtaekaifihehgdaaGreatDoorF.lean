/- Lemmas for CheckTurns; each states its own conditions. -/
import Derived.Test.YtaekaifihehgdaaGreatDoorE
set_option maxRecDepth 100000
set_option maxHeartbeats 0
set_option linter.unusedSimpArgs false
set_option linter.unusedVariables false
namespace Go.Proofs.YtaekaifihehgdaaGreatDoor
open Go.Am Tryz
section
section
variable{X:cB}{Q:Out->ah->Prop}{r a:Nat}{W:dh}{el ec:Int}{k:Nat}{ws:dh}{nd fn dp:Nat}{h H H':ah}{iT cl:Nat}{d:SD}
theorem Cl.new{f e:ah}(o j:dK)(g:f.get cl=some (.C [.P r]))(i:h.nx<=cl)(b:cl<f.nx)(k2:aJ f e)(hr:r<h.nx):Cl r h e.nx cl ((e.alloc o).2.set e.nx j):=by
 have:=k2.nx;exact⟨by rw[ah.aM,ay om,ah.cO,ay om];exact(k2.old cl b).trans g,i,IN,om,om⟩
def SD.more(d:SD)(b id:Nat)(s:Sm):SD:=⟨d.kk,d.l,d.c,d.nm,d.ty,d.ev,d.tv,.S b (d.ss.length+1),d.eo,d.to,d.ss++[(id,s)]⟩
theorem Mk.push(m:Mk r X h iT cl d H)(p:gy r a W el ec k ws nd fn dp H)(cc:Cl r h iT cl H)(al:a<h.nx){id:Nat}{s:Sm}(e:tS (aT d.av++iT::X) H id s){j:Nat}(g:H.get j=none)(hj:j<H.nx)(I:h.nx<=j)(hl:d.ss.length<=300):
 ∃b,aK env (H.set j (.D 1 [.P id])) 180 d.av (.S j 1)=some (.S H.nx (d.ss.length+1),b)/\b.get iT=some d.obj/\b.nx=H.nx+1/\Mk r X h iT cl (d.more H.nx id s) (b.set iT (d.more H.nx id s).obj)/\gy r a W el ec k ws nd fn dp (b.set iT (d.more H.nx id s).obj)/\Cl r h iT cl (b.set iT (d.more H.nx id s).obj):=by
 have F:=p.new (.D 1 [.P id]) g hj;have A:∀Y,Move Y Y H (H.set j (.D 1 [.P id])):=λY=>Move.new _ g;have J:iT≠j:=λe=>by rw[<-e,m.get]at g;cases g
 have K:cl≠j:=λe=>by rw[<-e,cc.get]at g;cases g
 have u:=m.arr.move (A _);have i:(H.set j (.D 1 [.P id])).nx=H.nx:=rfl
 obtain⟨b,ha,nx,g7,B⟩:=wG (st:=180) (e:=131) rfl ty131.1 ty131.2.1 dc ty131.2.2.2 u hl j id s sp F.fr;rw[i]at ha nx g7;have N:∀z,z∈aT d.av->z≠r/\z≠a:=u.ne F (au _ m.xo.r);have p7:=F.app B N;have O:b.get iT=some d.obj:=by
  rw[B.old iT (by rw[i];exact m.lt) (λf=>(m.z iT f).2.1 rfl),ah.aM,ay J];exact m.get
 have nr:=m.nr;have lo:=m.lo;have P:iT≠a:=om
 have lt7:iT<b.nx:=by rw[nx];have:=m.lt;omega
 have R:aR [r] h b:=(aR.set _ m.kx (.inr I) hj).trans' B (λz f A1=>by have:=(m.z z f).1;omega);have S:∀y,y∈H.nx::iT::X->y∈aT d.av++iT::X\/H.nx<=y:=λy C=>by
  rcases ak.1 C with rfl|C
  ·exact .inr (ao _)
  ·exact .inl (bw _ C)
 have U:Move (aT d.av++iT::X) (H.nx::iT::X) H b:=(A _).comp (Move.of F.fr B (λz f _=>eJ _ f) (λy C=>by rw[i];exact S y C));have V:∀o,Move (H.nx::iT::X) (H.nx::iT::X) b (b.set iT o):=λo=>Move.on o (au _ (bc ..));have t:∀o,Move (aT d.av++iT::X) (H.nx::iT::X) H (b.set iT o):=λo=>U.comp (V o);have w:H.nx≠iT:=by have:=m.lt;omega
 have Z:H.nx∉iT::X:=by
  intro D;rcases ak.1 D with D|D
  ·exact w D
  ·have:=(m.xo.x m.kx).lt _ D;omega
 refine⟨b,ha,O,nx,⟨sp,m.lo,lt7,aR.set _ R (.inr m.lo) lt7,m.xo,m.he.move (t _),m.ho.move (t _),.inr ⟨H.nx,by simp[SD.more],Z,?_⟩,?_,?_⟩,p7.put _ nr P lt7,⟨?_,cc.lo,?_,cc.ne,cc.nr⟩⟩
 ·rw[ah.aM,ay w,g7];rfl
 ·intro q v;have v:q∈d.ss++[(id,s)]:=v;rcases aP.1 v with v|v
  ·exact(m.sub q v).move (t _)
  ·simp only[aQ]at v;subst v;exact e.move (t _)
 ·intro z f;have f:z∈[H.nx]:=f;simp only[aQ]at f;subst f;have:=m.lt;have:=m.kx.nx;have:=cc.lt;exact⟨om,w,om,by simp[nx]⟩
 ·rw[ah.aM,ay cc.ne,B.old cl (by rw[i];exact cc.lt) (λf=>(m.z cl f).2.2.1 rfl),ah.aM,ay K];exact cc.get
 ·simp[nx];have:=cc.lt;omega
end
end
section
section
variable{X:cB}{Q:Out->ah->Prop}{r a:Nat}{W:dh}{el ec:Int}{k:Nat}{ws:dh}{nd fn dp:Nat}{h H H':ah}{iT cl:Nat}{d:SD}
theorem OV{b:Nat}{bH:dh}{so:Sm}(IH:Ek (lO .ub ws))(hG:G .ub b ws bH (.s so)):Spec .ub b ws bH (.s so):=by
 have u:=hG.cR;simp only[Tag.cap,Re.cR]at u;cases hG with
 |@ub _ o j _ l ho hl=>
 intro r a W el ec k nd fn dp h X Q ok p xo hn hd hb hQ;refine wd fn72 rfl ?_;have C1:j.length+1<=250:=by have:=ok.len;have:=p.len;simp at this;omega
 have al:=p.al;have A1:=p.rl;simp only[ai]at hn hd u;simp[f72];refine BQ p om λcl h1 O P B p1 k1=>?_;simp;refine zF p1 λN k2=>?_;simp[De];have m3:=Mk.new (cl:=cl) (.C [.I 0,.I 0,.I 0,.str [],.str [],.N,.N,.Z,.I 0]) (k1.trans (k2.x _)) xo 1 o.l o.c [] [];simp only[SD.obj]at m3;have p3:=(p1.aH k2).aH (show aJ N ((N.alloc (.C [.I 0,.I 0,.I 0,.str [],.str [],.N,.N,.Z,.I 0])).2.set N.nx (.C [.I 1,.I o.l,.I o.c,.str [],.str [],.N,.N,.Z,.I 0]))from kT);have R:=Cl.new (.C [.I 0,.I 0,.I 0,.str [],.str [],.N,.N,.Z,.I 0]) (.C [.I 1,.I o.l,.I o.c,.str [],.str [],.N,.N,.Z,.I 0]) O P B k2 A1;generalize (N.alloc (.C [.I 0,.I 0,.I 0,.str [],.str [],.N,.N,.Z,.I 0])).2.set N.nx (.C [.I 1,.I o.l,.I o.c,.str [],.str [],.N,.N,.Z,.I 0])=h3 at*;generalize N.nx=iT at*;clear k2 p1 O P B k1;refine iE p3 ho λh4 p4 k4=>?_;have m4:=m3.call p3.fr k4;have S:=R.call k4;clear m3 R p3 k4;simp;refine bz (λm x=>∃cs k1 C av qs l2,m=cs.length/\cs.length<=j.length/\G .L8 b cs bH (.ss l2)/\qs.map Prod.snd++l2=l/\x.n=33/\x.ds=[.call 122 [.P cl]]/\x.bX=false/\Mk r X h iT cl ⟨1,o.l,o.c,[],[],.N,.N,av,none,none,qs⟩ x.h/\Cl r h iT cl x.h/\gy r a W el ec k1 cs C fn (dp+1) x.h/\C+cs.length<=nd+j.length/\qs.length+cs.length<=j.length/\
  x.rg.get 0=some (.P r)/\x.rg.get 3=some (.P iT)) j.length ?_ ?_
 ·exact⟨j,_,nd,.Z,[],l,rfl,ao _,hl,rfl,rfl,rfl,rfl,m4,S,p4,ao _,sp,sp,sp⟩
 clear m4 S p4 h4 h3 hl
 rintro m ⟨rg,n,H,ds,bX⟩ ⟨cs,k1,C,av,qs,l2,rfl,C2,A2,y,x1,x2,x3,t,i,e,A3,C3,r0,r3⟩
 dsimp only at x1 x2 x3 t i e r0 r3;subst x1 x2 x3;simp[r0];cases A2 with
 |@zp _ c _ hc=>
  refine fR e hc λh5 U k5=>?_;have m5:=t.call e.fr k5;have c5:=i.call k5;have g5:=m5.get;simp only[SD.obj]at g5;simp at y A3;simp[r0,r3,g5];refine m5.end U (.block o.at l) ⟨rfl,rfl,rfl,rfl,rfl,rfl,y⟩ om IN om λid h6 s6 p6 k6=>?_;simp;refine gD p6 cl (c5.call k6).get om none _ λh7 p7 k7=>?_;simp;exact hQ _ _ _ _ (s6.move (Move.r p6.fr ((xo.x m5.kx).x k6) k7)) u IN p7 ((m5.kx.trans k6).trans k7)
 |@Az _ _ bQ _ s l3 hs ht v D=>
  have lg:=v.len.2 rfl;refine cx _ e hs ?_;simp[r0];refine yG e λF A=>?_;replace t:=t.aH e.fr A;replace i:=i.aH A;replace e:=e.aH A;clear A H;simp[ht];refine Dd ?_;have gm:=t.get;simp only[SD.obj]at gm;simp[-aK,r0,r3,gm]
  repeat refine di ?_
  have I:=(aJ.refl F).bump 8;have V:=t.aH e.fr I;have cb:=i.aH I;have pb:=e.aH I;have f4:=e.fr (F.nx+4) om;have A4:=t.kx.nx;refine IH .dec b _ _ _ (by simp[lO,qf]<;>omega) v r a W el ec _ _ fn (dp+1) _ _ _ ok pb V.oz om om om λid k5 A5 h5 s5 l5 n5 U g=>?_;have m5:=V.call pb.fr g;have c5:=cb.call g;have g5:=m5.get;simp only[SD.obj]at g5;have J:=g.old (F.nx+4) sp (by have:=e.rl;simp;omega);have K:=g.nx;simp[f4]at J K;simp[-aK]
  repeat refine di ?_
  simp[-aK,J];obtain⟨H7,w,g7,Au,m8,Z,c8⟩:=m5.push U c5 al s5 J om om IN;simp only[SD.obj,SD.more]at w g7 m8 Z c8;rw[w];simp[-aK,r0,r3,g7]
  repeat refine di ?_
  exact⟨_,om,bQ,rfl,om,_,_,_,_,l3,D,by rw[fU,aU];exact y,m8,c8,Z,om,IN⟩
 |@AA _ _ bQ _ s l3 hs ht v D=>
  have lg:=v.len.2 rfl;refine cx _ e hs ?_;simp[r0];refine yG e λF A=>?_;replace t:=t.aH e.fr A;replace i:=i.aH A;replace e:=e.aH A;clear A H;simp[ht];refine Dd ?_;have gm:=t.get;simp only[SD.obj]at gm;simp[-aK,r0,r3,gm]
  repeat refine di ?_
  have I:=(aJ.refl F).bump 8;have V:=t.aH e.fr I;have cb:=i.aH I;have pb:=e.aH I;have f4:=e.fr (F.nx+4) om;have A4:=t.kx.nx;refine IH .pW b _ _ _ (by simp[lO,qf]<;>omega) v r a W el ec _ _ fn (dp+1) _ _ _ ok pb V.oz om om om λid k5 A5 h5 s5 l5 n5 U g=>?_;have m5:=V.call pb.fr g;have c5:=cb.call g;have g5:=m5.get;simp only[SD.obj]at g5;have J:=g.old (F.nx+4) sp (by have:=e.rl;simp;omega);have K:=g.nx;simp[f4]at J K;simp[-aK]
  repeat refine di ?_
  simp[-aK,J];obtain⟨H7,w,g7,Au,m8,Z,c8⟩:=m5.push U c5 al s5 J om om IN;simp only[SD.obj,SD.more]at w g7 m8 Z c8;rw[w];simp[-aK,r0,r3,g7]
  repeat refine di ?_
  exact⟨_,om,bQ,rfl,om,_,_,_,_,l3,D,by rw[fU,aU];exact y,m8,c8,Z,om,IN⟩
end
end
section
section
variable{X:cB}{Q:Out->ah->Prop}{r a:Nat}{W:dh}{el ec:Int}{k:Nat}{ws:dh}{nd fn dp:Nat}{h H H':ah}{iT cl:Nat}{d:SD}
theorem Move.on'{X:cB}{h H H':ah}{iT cl:Nat}{d:SD}{o:dK}(e:H.set iT o=H')(m:Mk r X h iT cl d H):Move (aT d.av++iT::X) (aT d.av++iT::X) H H':=by
 subst e;exact Move.on o (bw _ (bc ..))
theorem Gc{b:Nat}{bH:dh}{so:Sm}(IH:Ek (lO .pW ws))(hG:G .pW b ws bH (.s so)):Spec .pW b ws bH (.s so):=by
 have g:=hG.cR;simp only[Tag.cap,Re.cR]at g;have A1:=hG.len.2 rfl;obtain⟨o,A2,rfl⟩:∃o A2,ws=o::A2:=by cases ws with|nil=>simp at A1|cons o A2=>exact⟨_,_,rfl⟩
 intro r a W el ec k nd fn dp h X Q ok p xo hn hd hb hQ;refine wd fn93 rfl ?_;have C1:A2.length+1<=250:=by have:=ok.len;have:=p.len;simp at this;omega
 have al:=p.al;have FF:=p.rl;simp only[ai]at hn hd g A1 hQ;simp[f93];refine BQ p om λcl h1 F3 F4 C6 p1 k1=>?_;simp;refine zF p1 λh2 k2=>?_;simp[De];have m3:=Mk.new (cl:=cl) (.C [.I 0,.I 0,.I 0,.str [],.str [],.N,.N,.Z,.I 0]) (k1.trans (k2.x _)) xo 0 o.l o.c [] [];simp only[SD.obj]at m3;have p3:=(p1.aH k2).aH (show aJ h2 ((h2.alloc (.C [.I 0,.I 0,.I 0,.str [],.str [],.N,.N,.Z,.I 0])).2.set h2.nx (.C [.I 0,.I o.l,.I o.c,.str [],.str [],.N,.N,.Z,.I 0]))from kT);have c3:=Cl.new (.C [.I 0,.I 0,.I 0,.str [],.str [],.N,.N,.Z,.I 0]) (.C [.I 0,.I o.l,.I o.c,.str [],.str [],.N,.N,.Z,.I 0]) F3 F4 C6 k2 FF;generalize (h2.alloc (.C [.I 0,.I 0,.I 0,.str [],.str [],.N,.N,.Z,.I 0])).2.set h2.nx (.C [.I 0,.I o.l,.I o.c,.str [],.str [],.N,.N,.Z,.I 0])=h3 at*;generalize h2.nx=iT at*;clear k2 p1 F3 F4 C6 k1 p;cases hG with
 |@uD V _ _ _ hs FO=>
  refine pX _ p3 ?_;simp[hs];refine IH .ub V _ _ _ (by simp[lO,qf]) FO r a W el ec _ nd fn (dp+1) _ X _ ok p3 (xo.x m3.kx) hn IN om λid k5 C5 h5 s5 l5 n5 F m=>?_;simp;refine gD F cl (c3.call m).get om none _ λh7 p7 k7=>?_;simp;exact hQ _ _ _ _ (s5.move (Move.r F.fr ((xo.x m3.kx).x m) k7)) g n5 p7 ((m3.kx.trans m).trans k7)
 |@uE _ _ _ I=>
  refine pX _ p3 ?_;simp[I.bF];refine fR p3 I λh5 F k5=>?_;have m5:=m3.call p3.fr k5;have c5:=c3.call k5;have g5:=m5.get;simp only[SD.obj]at g5;simp[g5];obtain⟨h6,e6,m6,A,J⟩:=m5.put F al ⟨2,o.l,o.c,[],[],.N,.N,.Z,none,none,[]⟩ rfl rfl (.inl ⟨rfl,rfl⟩) (.inl ⟨rfl,rfl⟩);simp only[SD.obj]at e6;have c6:=J c5;rw[e6];have w:=m6.get;simp only[SD.obj]at w
  try simp[w]
  refine m6.end A (.empty o.at) ⟨rfl,rfl,rfl,rfl,rfl,rfl,rfl⟩ om sp om λid S u i e=>?_;simp;refine gD i cl (c6.call e).get om none _ λU v j=>?_;simp;exact hQ _ _ _ _ (u.move (Move.r i.fr ((xo.x m6.kx).x e) j)) g (by simp<;>omega) v ((m6.kx.trans e).trans j)
 |@CT V _ q c A3 bQ _ y s0 hi ho he I hs FP=>
  have lE:=he.len.1;have lS:=hs.len.1;simp only[ai]at g hn hd A1 C1 lE lS;refine pX _ p3 ?_;simp[hi.bF];refine cx _ p3 (by simp[hi.bF]) ?_;simp;refine fR p3 hi λh4 p4 k4=>?_;have m4:=m3.call p3.fr k4;have c4:=c3.call k4;simp;refine vY ho (IH (.bin 0) V A3 _ _ (by simp[lO,qf];omega) he) I ok p4 m4.oz om om om λK kE C8 hE eE lE nE pE N=>?_;have mE:=m4.call p4.fr N;have cE:=c4.call N;have gE:=mE.get;simp only[SD.obj]at gE;simp[gE];obtain⟨hP,O,mP,pP,P⟩:=mE.put pE al ⟨6,o.l,o.c,[],[],.N,.N,.Z,none,none,[]⟩ rfl rfl (.inl ⟨rfl,rfl⟩) (.inl ⟨rfl,rfl⟩);simp only[SD.obj]at O;have cP:=P cE;obtain⟨h6,e6,m6,A,J⟩:=mP.put pP al ⟨6,o.l,o.c,[],[],.P K,.N,.Z,some y,none,[]⟩ rfl rfl (.inr ⟨K,y,rfl,rfl,eE.move (Move.on' O mE)⟩) (.inl ⟨rfl,rfl⟩);simp only[SD.obj]at e6;have c6:=J cP;rw[O,e6]
  try simp
  refine Dd ?_;have gm:=m6.get;simp only[SD.obj]at gm;simp[-aK,gm]
  repeat refine di ?_
  have Z:=(aJ.refl h6).bump 8;have mb:=m6.aH A.fr Z;have cb:=c6.aH Z;have pb:=A.aH Z;have f4:=A.fr (h6.nx+4) om;have C9:=m6.kx.nx;refine IH .pW V _ _ _ (by simp[lO,qf]<;>omega) hs r a W el ec _ _ fn (dp+1) _ _ _ ok pb mb.oz om om om λid k5 C5 h5 s5 l5 n5 F m=>?_;have m5:=mb.call pb.fr m;have c5:=cb.call m;have g5:=m5.get;simp only[SD.obj]at g5;have o5:=m.old (h6.nx+4) sp (by have:=A.rl;simp;omega);have A4:=m.nx;simp[f4]at o5 A4;simp[-aK]
  repeat refine di ?_
  simp[-aK,o5];obtain⟨H7,R,g7,CL,m8,B,D⟩:=m5.push F c5 al s5 o5 om om (by simp<;>omega);simp only[SD.obj,SD.more,aW,aX,fL]at R g7 m8 B D;rw[R];simp[-aK,g7]
  repeat refine di ?_
  refine cx _ B FP ?_;simp;have w:=m8.get;simp only[SD.obj]at w
  try simp[w]
  refine m8.end B (.ifs o.at y s0) ⟨rfl,rfl,rfl,rfl,rfl,rfl,rfl⟩ om sp om λid S u i e=>?_;simp;refine gD i cl (D.call e).get om none _ λU v j=>?_;simp;exact hQ _ _ _ _ (u.move (Move.r i.fr ((xo.x m8.kx).x e) j)) g (by simp<;>omega) v ((m8.kx.trans e).trans j)
 |@tU V _ q c f A3 bQ dR _ y s0 s1 hi ho he I hs FQ ht=>
  have lE:=he.len.1;have lS:=hs.len.1;have lT:=ht.len.1;simp only[ai]at g hn hd A1 C1 lE lS lT;refine pX _ p3 ?_;simp[hi.bF];refine cx _ p3 (by simp[hi.bF]) ?_;simp;refine fR p3 hi λh4 p4 k4=>?_;have m4:=m3.call p3.fr k4;have c4:=c3.call k4;simp;refine vY ho (IH (.bin 0) V A3 _ _ (by simp[lO,qf];omega) he) I ok p4 m4.oz om om om λK kE C8 hE eE lE nE pE N=>?_;have mE:=m4.call p4.fr N;have cE:=c4.call N;have gE:=mE.get;simp only[SD.obj]at gE;simp[gE];obtain⟨hP,O,mP,pP,P⟩:=mE.put pE al ⟨6,o.l,o.c,[],[],.N,.N,.Z,none,none,[]⟩ rfl rfl (.inl ⟨rfl,rfl⟩) (.inl ⟨rfl,rfl⟩);simp only[SD.obj]at O;have cP:=P cE;obtain⟨h6,e6,m6,A,J⟩:=mP.put pP al ⟨6,o.l,o.c,[],[],.P K,.N,.Z,some y,none,[]⟩ rfl rfl (.inr ⟨K,y,rfl,rfl,eE.move (Move.on' O mE)⟩) (.inl ⟨rfl,rfl⟩);simp only[SD.obj]at e6;have c6:=J cP;rw[O,e6]
  try simp
  refine Dd ?_;have gm:=m6.get;simp only[SD.obj]at gm;simp[-aK,gm]
  repeat refine di ?_
  have Z:=(aJ.refl h6).bump 8;have mb:=m6.aH A.fr Z;have cb:=c6.aH Z;have pb:=A.aH Z;have f4:=A.fr (h6.nx+4) om;have C9:=m6.kx.nx;refine IH .pW V _ _ _ (by simp[lO,qf]<;>omega) hs r a W el ec _ _ fn (dp+1) _ _ _ ok pb mb.oz om om om λid k5 C5 h5 s5 l5 n5 F m=>?_;have m5:=mb.call pb.fr m;have c5:=cb.call m;have g5:=m5.get;simp only[SD.obj]at g5;have o5:=m.old (h6.nx+4) sp (by have:=A.rl;simp;omega);have A4:=m.nx;simp[f4]at o5 A4;simp[-aK]
  repeat refine di ?_
  simp[-aK,o5];obtain⟨H7,R,g7,CL,m8,B,D⟩:=m5.push F c5 al s5 o5 om om (by simp<;>omega);simp only[SD.obj,SD.more,aW,aX,fL]at R g7 m8 B D;rw[R];simp[-aK,g7]
  repeat refine di ?_
  simp only[ai]at n5;refine fR B FQ λh9 p9 k9=>?_;have m9:=m8.call B.fr k9;have c9:=D.call k9;clear m8 D B k9 m5 c5 g5 o5 A4 mb cb pb f4 gm Z;simp;refine Dd ?_;have gm:=m9.get;simp only[SD.obj]at gm;simp[-aK,gm]
  repeat refine di ?_
  have Z:=(aJ.refl h9).bump 8;have mb:=m9.aH p9.fr Z;have cb:=c9.aH Z;have pb:=p9.aH Z;have f4:=p9.fr (h9.nx+4) om;have C9:=m9.kx.nx;refine IH .pW V _ _ _ (by simp[lO,qf]<;>omega) ht r a W el ec _ _ fn (dp+1) _ _ _ ok pb mb.oz om om om λH6 k5 C5 h5 s5 l5 n5 F m=>?_;have m5:=mb.call pb.fr m;have c5:=cb.call m;have g5:=m5.get;simp only[SD.obj]at g5;have o5:=m.old (h9.nx+4) sp (by have:=p9.rl;simp;omega);have A4:=m.nx;simp[f4]at o5 A4;simp[-aK]
  repeat refine di ?_
  simp[-aK,o5];obtain⟨H7,R,g7,CL,m8,B,D⟩:=m5.push F c5 al s5 o5 om om (by simp<;>omega);simp only[SD.obj,SD.more]at R g7 m8 B D;rw[R];simp[-aK,g7]
  repeat refine di ?_
  have w:=m8.get;simp only[SD.obj]at w
  try simp[w]
  refine m8.end B (.wD o.at y s0 s1) ⟨rfl,rfl,rfl,rfl,rfl,rfl,rfl⟩ om sp om λid S u i e=>?_;simp;refine gD i cl (D.call e).get om none _ λU v j=>?_;simp;exact hQ _ _ _ _ (u.move (Move.r i.fr ((xo.x m8.kx).x e) j)) g (by simp<;>omega) v ((m8.kx.trans e).trans j)
 |@jJ V _ q c A3 bQ _ y s0 hi ho he I hs=>
  have lE:=he.len.1;have lS:=hs.len.1;simp only[ai]at g hn hd A1 C1 lE lS;refine pX _ p3 ?_;simp[hi.bF];refine cx _ p3 (by simp[hi.bF]) ?_;simp;refine cx _ p3 (by simp[hi.bF]) ?_;simp;refine fR p3 hi λh4 p4 k4=>?_;have m4:=m3.call p3.fr k4;have c4:=c3.call k4;simp;refine vY ho (IH (.bin 0) V A3 _ _ (by simp[lO,qf];omega) he) I ok p4 m4.oz om om om λK kE C8 hE eE lE nE pE N=>?_;have mE:=m4.call p4.fr N;have cE:=c4.call N;have gE:=mE.get;simp only[SD.obj]at gE;simp[gE];obtain⟨hP,O,mP,pP,P⟩:=mE.put pE al ⟨7,o.l,o.c,[],[],.N,.N,.Z,none,none,[]⟩ rfl rfl (.inl ⟨rfl,rfl⟩) (.inl ⟨rfl,rfl⟩);simp only[SD.obj]at O;have cP:=P cE;obtain⟨h6,e6,m6,A,J⟩:=mP.put pP al ⟨7,o.l,o.c,[],[],.P K,.N,.Z,some y,none,[]⟩ rfl rfl (.inr ⟨K,y,rfl,rfl,eE.move (Move.on' O mE)⟩) (.inl ⟨rfl,rfl⟩);simp only[SD.obj]at e6;have c6:=J cP;rw[O,e6]
  try simp
  refine Dd ?_;have gm:=m6.get;simp only[SD.obj]at gm;simp[-aK,gm]
  repeat refine di ?_
  have Z:=(aJ.refl h6).bump 8;have mb:=m6.aH A.fr Z;have cb:=c6.aH Z;have pb:=A.aH Z;have f4:=A.fr (h6.nx+4) om;have C9:=m6.kx.nx;refine IH .pW V _ _ _ (by simp[lO,qf]<;>omega) hs r a W el ec _ _ fn (dp+1) _ _ _ ok pb mb.oz om om om λid k5 C5 h5 s5 l5 n5 F m=>?_;have m5:=mb.call pb.fr m;have c5:=cb.call m;have g5:=m5.get;simp only[SD.obj]at g5;have o5:=m.old (h6.nx+4) sp (by have:=A.rl;simp;omega);have A4:=m.nx;simp[f4]at o5 A4;simp[-aK]
  repeat refine di ?_
  simp[-aK,o5];obtain⟨H7,R,g7,CL,m8,B,D⟩:=m5.push F c5 al s5 o5 om om (by simp<;>omega);simp only[SD.obj,SD.more,aW,aX,fL]at R g7 m8 B D;rw[R];simp[-aK,g7]
  repeat refine di ?_
  have w:=m8.get;simp only[SD.obj]at w
  try simp[w]
  refine m8.end B (.wE o.at y s0) ⟨rfl,rfl,rfl,rfl,rfl,rfl,rfl⟩ om sp om λid S u i e=>?_;simp;refine gD i cl (D.call e).get om none _ λU v j=>?_;simp;exact hQ _ _ _ _ (u.move (Move.r i.fr ((xo.x m8.kx).x e) j)) g (by simp<;>omega) v ((m8.kx.trans e).trans j)
 |@uF _ _ c _ hi I=>
  simp only[ai]at g hn hd A1 C1;refine pX _ p3 ?_;simp[hi.bF];refine cx _ p3 (by simp[hi.bF]) ?_;simp;refine cx _ p3 (by simp[hi.bF]) ?_;simp;refine cx _ p3 (by simp[hi.bF]) ?_;simp;have C:=(aJ.refl h3).alloc (.D 1 [.str [98,114,101,97,107],.str [99,111,110,116,105,110,117,101]]);have m4:=m3.aH p3.fr C;have c4:=c3.aH C;have p4:=p3.aH C;refine oD _ [[98,114,101,97,107],[99,111,110,116,105,110,117,101]] true sp dc p4 ?_;generalize (h3.alloc (.D 1 [.str [98,114,101,97,107],.str [99,111,110,116,105,110,117,101]])).2=h4 at*;have qb:anyS (o::c::bH) [[98,114,101,97,107],[99,111,110,116,105,110,117,101]]=true:=by simp[anyS,hi.bF]
  simp[qb];have g4:=m4.get;simp only[SD.obj]at g4;simp[g4];obtain⟨h5,e5,m5,F,F0⟩:=m4.put p4 al ⟨9,o.l,o.c,[],[],.N,.N,.Z,none,none,[]⟩ rfl rfl (.inl ⟨rfl,rfl⟩) (.inl ⟨rfl,rfl⟩);simp only[SD.obj]at e5;have c5:=F0 c4;rw[e5]
  try simp
  refine og F λh6 A k6=>?_;have m6:=m5.call F.fr k6;have c6:=c5.call k6;have g6:=m6.get;simp only[SD.obj]at g6;simp[Wo.cells,hi.t,g6];obtain⟨h7,e7,m7,p7,F1⟩:=m6.put A al ⟨8,o.l,o.c,[],[],.N,.N,.Z,none,none,[]⟩ rfl rfl (.inl ⟨rfl,rfl⟩) (.inl ⟨rfl,rfl⟩);simp only[SD.obj]at e7;have c7:=F1 c6;rw[e7]
  try simp
  refine iE p7 I λh8 B k8=>?_;have m8:=m7.call p7.fr k8;have D:=c7.call k8;have w:=m8.get;simp only[SD.obj]at w
  try simp[w]
  refine m8.end B (.xq o.at) ⟨rfl,rfl,rfl,rfl,rfl,rfl,rfl⟩ om sp om λid S u i e=>?_;simp;refine gD i cl (D.call e).get om none _ λU v j=>?_;simp;exact hQ _ _ _ _ (u.move (Move.r i.fr ((xo.x m8.kx).x e) j)) g (by simp<;>omega) v ((m8.kx.trans e).trans j)
 |@nW _ _ c _ hi I=>
  simp only[ai]at g hn hd A1 C1;refine pX _ p3 ?_;simp[hi.bF];refine cx _ p3 (by simp[hi.bF]) ?_;simp;refine cx _ p3 (by simp[hi.bF]) ?_;simp;refine cx _ p3 (by simp[hi.bF]) ?_;simp;have C:=(aJ.refl h3).alloc (.D 1 [.str [98,114,101,97,107],.str [99,111,110,116,105,110,117,101]]);have m4:=m3.aH p3.fr C;have c4:=c3.aH C;have p4:=p3.aH C;refine oD _ [[98,114,101,97,107],[99,111,110,116,105,110,117,101]] true sp dc p4 ?_;generalize (h3.alloc (.D 1 [.str [98,114,101,97,107],.str [99,111,110,116,105,110,117,101]])).2=h4 at*;have qb:anyS (o::c::bH) [[98,114,101,97,107],[99,111,110,116,105,110,117,101]]=true:=by simp[anyS,hi.bF]
  simp[qb];have g4:=m4.get;simp only[SD.obj]at g4;simp[g4];obtain⟨h5,e5,m5,F,F0⟩:=m4.put p4 al ⟨9,o.l,o.c,[],[],.N,.N,.Z,none,none,[]⟩ rfl rfl (.inl ⟨rfl,rfl⟩) (.inl ⟨rfl,rfl⟩);simp only[SD.obj]at e5;have c5:=F0 c4;rw[e5]
  try simp
  refine og F λh6 A k6=>?_;have m6:=m5.call F.fr k6;have c6:=c5.call k6;have g6:=m6.get;simp only[SD.obj]at g6;simp[Wo.cells,hi.t];have m7:=m6;have p7:=A;have c7:=c6;refine iE p7 I λh8 B k8=>?_;have m8:=m7.call p7.fr k8;have D:=c7.call k8;have w:=m8.get;simp only[SD.obj]at w
  try simp[w]
  refine m8.end B (.cont o.at) ⟨rfl,rfl,rfl,rfl,rfl,rfl,rfl⟩ om sp om λid S u i e=>?_;simp;refine gD i cl (D.call e).get om none _ λU v j=>?_;simp;exact hQ _ _ _ _ (u.move (Move.r i.fr ((xo.x m8.kx).x e) j)) g (by simp<;>omega) v ((m8.kx.trans e).trans j)
 |@nZ _ _ c _ hi I=>
  simp only[ai]at g hn hd A1 C1;refine pX _ p3 ?_;simp[hi.bF];refine cx _ p3 (by simp[hi.bF]) ?_;simp;refine cx _ p3 (by simp[hi.bF]) ?_;simp;refine cx _ p3 (by simp[hi.bF]) ?_;simp;have C:=(aJ.refl h3).alloc (.D 1 [.str [98,114,101,97,107],.str [99,111,110,116,105,110,117,101]]);have m4:=m3.aH p3.fr C;have c4:=c3.aH C;have p4:=p3.aH C;refine oD _ [[98,114,101,97,107],[99,111,110,116,105,110,117,101]] true sp dc p4 ?_;generalize (h3.alloc (.D 1 [.str [98,114,101,97,107],.str [99,111,110,116,105,110,117,101]])).2=h4 at*;have qb:anyS (o::c::bH) [[98,114,101,97,107],[99,111,110,116,105,110,117,101]]=false:=by simp[anyS,hi.bF]
  simp[qb];refine fR p4 hi λh5 F k5=>?_;have m5:=m4.call p4.fr k5;have c5:=c4.call k5;have g5:=m5.get;simp only[SD.obj]at g5;simp[g5];obtain⟨h6,e6,m6,A,J⟩:=m5.put F al ⟨10,o.l,o.c,[],[],.N,.N,.Z,none,none,[]⟩ rfl rfl (.inl ⟨rfl,rfl⟩) (.inl ⟨rfl,rfl⟩);simp only[SD.obj]at e6;have c6:=J c5;rw[e6]
  try simp
  refine pX _ A ?_;simp[I.bF];refine iE A I λh8 B k8=>?_;have m8:=m6.call A.fr k8;have D:=c6.call k8;have w:=m8.get;simp only[SD.obj]at w
  try simp[w]
  refine m8.end B (.ret o.at none) ⟨rfl,rfl,rfl,rfl,rfl,rfl,rfl⟩ om sp om λid S u i e=>?_;simp;refine gD i cl (D.call e).get om none _ λU v j=>?_;simp;exact hQ _ _ _ _ (u.move (Move.r i.fr ((xo.x m8.kx).x e) j)) g (by simp<;>omega) v ((m8.kx.trans e).trans j)
 |@oa V _ c _ _ y hi hs he I=>
  have lE:=he.len.1;simp only[ai]at g lE;refine pX _ p3 ?_;simp[hi.bF];refine cx _ p3 (by simp[hi.bF]) ?_;simp;refine cx _ p3 (by simp[hi.bF]) ?_;simp;refine cx _ p3 (by simp[hi.bF]) ?_;simp;have C:=(aJ.refl h3).alloc (.D 1 [.str [98,114,101,97,107],.str [99,111,110,116,105,110,117,101]]);have m4:=m3.aH p3.fr C;have c4:=c3.aH C;have p4:=p3.aH C;refine oD _ [[98,114,101,97,107],[99,111,110,116,105,110,117,101]] true sp dc p4 ?_;generalize (h3.alloc (.D 1 [.str [98,114,101,97,107],.str [99,111,110,116,105,110,117,101]])).2=h4 at*;have qb:anyS (o::A2) [[98,114,101,97,107],[99,111,110,116,105,110,117,101]]=false:=by simp[anyS,hi.bF]
  simp[qb];refine fR p4 hi λh5 F k5=>?_;have m5:=m4.call p4.fr k5;have c5:=c4.call k5;have g5:=m5.get;simp only[SD.obj]at g5;simp[g5];obtain⟨h6,e6,m6,A,J⟩:=m5.put F al ⟨10,o.l,o.c,[],[],.N,.N,.Z,none,none,[]⟩ rfl rfl (.inl ⟨rfl,rfl⟩) (.inl ⟨rfl,rfl⟩);simp only[SD.obj]at e6;have c6:=J c5;rw[e6]
  try simp
  refine pX _ A ?_;simp[hs];refine IH (.bin 0) V _ _ _ (by simp[lO,qf];omega) he r a W el ec _ nd fn (dp+1) h6 (iT::X) _ ok A m6.oz om om om λid k8 F5 h8 e8 l8 n8 B A5=>?_;have m8:=m6.call A.fr A5;have D:=c6.call A5;simp only[ai]at l8 n8;have g8:=m8.get;simp only[SD.obj]at g8;simp[g8];obtain⟨h9,e9,m9,p9,C3⟩:=m8.put B al ⟨10,o.l,o.c,[],[],.P id,.N,.Z,some y,none,[]⟩ rfl rfl (.inr ⟨id,y,rfl,rfl,e8⟩) (.inl ⟨rfl,rfl⟩);simp only[SD.obj]at e9;have c9:=C3 D;rw[e9]
  try simp
  refine iE p9 I λF2 C2 Au=>?_;have m10:=m9.call p9.fr Au;have C4:=c9.call Au;have w:=m10.get;simp only[SD.obj]at w
  try simp[w]
  refine m10.end C2 (.ret o.at (some y)) ⟨rfl,rfl,rfl,rfl,rfl,rfl,rfl⟩ om sp om λid S u i e=>?_;simp;refine gD i cl (C4.call e).get om none _ λU v j=>?_;simp;exact hQ _ _ _ _ (u.move (Move.r i.fr ((xo.x m10.kx).x e) j)) g (by simp<;>omega) v ((m10.kx.trans e).trans j)
 |@uG V _ q c f A3 _ y hi ho he I hq=>
  have lE:=he.len.1;simp only[ai]at g hn hd A1 C1 lE;refine pX _ p3 ?_;simp[hi.bF];refine cx _ p3 (by simp[hi.bF]) ?_;simp;refine cx _ p3 (by simp[hi.bF]) ?_;simp;refine cx _ p3 (by simp[hi.bF]) ?_;simp;have C:=(aJ.refl h3).alloc (.D 1 [.str [98,114,101,97,107],.str [99,111,110,116,105,110,117,101]]);have m4:=m3.aH p3.fr C;have c4:=c3.aH C;have p4:=p3.aH C;refine oD _ [[98,114,101,97,107],[99,111,110,116,105,110,117,101]] true sp dc p4 ?_;generalize (h3.alloc (.D 1 [.str [98,114,101,97,107],.str [99,111,110,116,105,110,117,101]])).2=h4 at*;have qb:anyS (o::q::A3) [[98,114,101,97,107],[99,111,110,116,105,110,117,101]]=false:=by simp[anyS,hi.bF]
  simp[qb];refine cx _ p4 (by simp[hi.bF]) ?_;simp;refine fR p4 hi λh5 F k5=>?_;have m5:=m4.call p4.fr k5;have c5:=c4.call k5;simp;refine vY ho (IH (.bin 0) V A3 _ _ (by simp[lO,qf];omega) he) I ok F m5.oz om om om λK kE C8 hE eE lE nE pE N=>?_;have mE:=m5.call F.fr N;have cE:=c5.call N;have gE:=mE.get;simp only[SD.obj]at gE;simp[gE];obtain⟨hP,O,mP,pP,P⟩:=mE.put pE al ⟨11,o.l,o.c,[],[],.N,.N,.Z,none,none,[]⟩ rfl rfl (.inl ⟨rfl,rfl⟩) (.inl ⟨rfl,rfl⟩);simp only[SD.obj]at O;have cP:=P cE;obtain⟨h7,e7,m7,p7,F1⟩:=mP.put pP al ⟨11,o.l,o.c,[],[],.P K,.N,.Z,some y,none,[]⟩ rfl rfl (.inr ⟨K,y,rfl,rfl,eE.move (Move.on' O mE)⟩) (.inl ⟨rfl,rfl⟩);simp only[SD.obj]at e7;have c7:=F1 cP;rw[O,e7]
  try simp
  simp only[ai]at nE;refine iE p7 hq λh8 B k8=>?_;have m8:=m7.call p7.fr k8;have D:=c7.call k8;have w:=m8.get;simp only[SD.obj]at w
  try simp[w]
  refine m8.end B (.out o.at y) ⟨rfl,rfl,rfl,rfl,rfl,rfl,rfl⟩ om sp om λid S u i e=>?_;simp;refine gD i cl (D.call e).get om none _ λU v j=>?_;simp;exact hQ _ _ _ _ (u.move (Move.r i.fr ((xo.x m8.kx).x e) j)) g (by simp<;>omega) v ((m8.kx.trans e).trans j)
 |@uH V c _ _ y hk he I=>
  have lE:=he.len.1;simp only[ai]at g lE;have hp:JR (o::A2)=o.at:=rfl;rw[hp]at g;simp only[Cr,anyS,List.any_cons,List.any_nil,Bool.or_false,iy]at hk;refine pX _ p3 ?_;simp[hk.1];refine cx _ p3 (hk.2.1) ?_;simp;refine cx _ p3 (hk.2.2.1) ?_;simp;refine cx _ p3 (hk.2.2.2.1) ?_;simp;have C:=(aJ.refl h3).alloc (.D 1 [.str [98,114,101,97,107],.str [99,111,110,116,105,110,117,101]]);have m4:=m3.aH p3.fr C;have c4:=c3.aH C;have p4:=p3.aH C;refine oD _ [[98,114,101,97,107],[99,111,110,116,105,110,117,101]] true sp dc p4 ?_;generalize (h3.alloc (.D 1 [.str [98,114,101,97,107],.str [99,111,110,116,105,110,117,101]])).2=h4 at*;have qb:anyS (o::A2) [[98,114,101,97,107],[99,111,110,116,105,110,117,101]]=false:=by simp[anyS,hk.2.2.2.2.1,hk.2.2.2.2.2.1]
  simp[qb];refine cx _ p4 (hk.2.2.2.2.2.2.1) ?_;simp;refine cx _ p4 (hk.2.2.2.2.2.2.2) ?_;simp;refine IH (.bin 0) V _ _ _ (by simp[lO,qf]) he r a W el ec _ nd fn (dp+1) h4 (iT::X) _ ok p4 m4.oz (by simp<;>omega) IN om λid k8 F5 h8 e8 l8 n8 B A5=>?_;have m8:=m4.call p4.fr A5;have D:=c4.call A5;simp only[ai]at l8 n8;have g8:=m8.get;simp only[SD.obj]at g8;simp[g8];obtain⟨hP,O,mP,pP,P⟩:=m8.put B al ⟨5,o.l,o.c,[],[],.N,.N,.Z,none,none,[]⟩ rfl rfl (.inl ⟨rfl,rfl⟩) (.inl ⟨rfl,rfl⟩);simp only[SD.obj]at O;have cP:=P D;obtain⟨h9,e9,m9,p9,C3⟩:=mP.put pP al ⟨5,o.l,o.c,[],[],.P id,.N,.Z,some y,none,[]⟩ rfl rfl (.inr ⟨id,y,rfl,rfl,e8.move (Move.on' O m8)⟩) (.inl ⟨rfl,rfl⟩);simp only[SD.obj]at e9;have c9:=C3 cP;rw[O,e9]
  try simp
  refine cx _ p9 (by simp[I.bF]) ?_;simp;refine iE p9 I λF2 C2 Au=>?_;have m10:=m9.call p9.fr Au;have C4:=c9.call Au;have w:=m10.get;simp only[SD.obj]at w
  try simp[w]
  refine m10.end C2 (.eval o.at y) ⟨rfl,rfl,rfl,rfl,rfl,rfl,rfl⟩ om sp om λid S u i e=>?_;simp;refine gD i cl (C4.call e).get om none _ λU v j=>?_;simp;exact hQ _ _ _ _ (u.move (Move.r i.fr ((xo.x m10.kx).x e) j)) g (by simp<;>omega) v ((m10.kx.trans e).trans j)
 |@tV V q c _ bQ _ y e1 hk he hq hf I=>
  have lE:=he.len.1;have lF:=hf.len.1;simp only[ai]at lE lF;have hp:JR (o::A2)=o.at:=rfl;rw[hp]at g;simp only[Cr,anyS,List.any_cons,List.any_nil,Bool.or_false,iy]at hk;refine pX _ p3 ?_;simp[hk.1];refine cx _ p3 (hk.2.1) ?_;simp;refine cx _ p3 (hk.2.2.1) ?_;simp;refine cx _ p3 (hk.2.2.2.1) ?_;simp;have C:=(aJ.refl h3).alloc (.D 1 [.str [98,114,101,97,107],.str [99,111,110,116,105,110,117,101]]);have m4:=m3.aH p3.fr C;have c4:=c3.aH C;have p4:=p3.aH C;refine oD _ [[98,114,101,97,107],[99,111,110,116,105,110,117,101]] true sp dc p4 ?_;generalize (h3.alloc (.D 1 [.str [98,114,101,97,107],.str [99,111,110,116,105,110,117,101]])).2=h4 at*;have qb:anyS (o::A2) [[98,114,101,97,107],[99,111,110,116,105,110,117,101]]=false:=by simp[anyS,hk.2.2.2.2.1,hk.2.2.2.2.2.1]
  simp[qb];refine cx _ p4 (hk.2.2.2.2.2.2.1) ?_;simp;refine cx _ p4 (hk.2.2.2.2.2.2.2) ?_;simp;refine IH (.bin 0) V _ _ _ (by simp[lO,qf]) he r a W el ec _ nd fn (dp+1) h4 (iT::X) _ ok p4 m4.oz (by simp<;>omega) IN om λid k8 F5 h8 e8 l8 n8 B A5=>?_;have m8:=m4.call p4.fr A5;have D:=c4.call A5;simp only[ai]at l8 n8;have g8:=m8.get;simp only[SD.obj]at g8;simp[g8];obtain⟨hP,O,mP,pP,P⟩:=m8.put B al ⟨5,o.l,o.c,[],[],.N,.N,.Z,none,none,[]⟩ rfl rfl (.inl ⟨rfl,rfl⟩) (.inl ⟨rfl,rfl⟩);simp only[SD.obj]at O;have cP:=P D;obtain⟨h9,e9,m9,p9,C3⟩:=mP.put pP al ⟨5,o.l,o.c,[],[],.P id,.N,.Z,some y,none,[]⟩ rfl rfl (.inr ⟨id,y,rfl,rfl,e8.move (Move.on' O m8)⟩) (.inl ⟨rfl,rfl⟩);simp only[SD.obj]at e9;have c9:=C3 cP;rw[O,e9]
  try simp
  refine fR p9 hq λF2 C2 Au=>?_;have m10:=m9.call p9.fr Au;have C4:=c9.call Au;simp;refine eF [0,1,2,4,3,5,6,7,8,9] kr (by simp[cz,dG];rfl) kr ?_;have gm:=m10.get;simp only[SD.obj]at gm;simp[gm]
  repeat refine di ?_
  have Z:=(aJ.refl F2).bump 10;have mb:=m10.aH C2.fr Z;have cb:=C4.aH Z;have pb:=C2.aH Z;refine IH (.bin 0) V _ _ _ (by simp[lO,qf];omega) hf r a W el ec _ _ fn (dp+1) _ (iT::X) _ ok pb mb.oz om om om λF6 H8 H5 H9 FW G2 G3 G4 C7=>?_;have m11:=mb.call pb.fr C7;have G5:=cb.call C7;have GL:=m11.he;simp only[ai]at G2 G3;have g11:=m11.get;simp only[SD.obj]at g11;simp
  repeat refine di ?_
  simp[g11]
  repeat refine di ?_
  obtain⟨hU,eU,mU,pU,Gq⟩:=m11.put G4 al ⟨4,o.l,o.c,[],[],.P id,.N,.Z,some y,none,[]⟩ rfl rfl (GL) (.inl ⟨rfl,rfl⟩);simp only[SD.obj]at eU;have cU:=Gq G5;obtain⟨hV,eV,mV,pV,H2⟩:=mU.put pU al ⟨4,o.l,o.c,[],[],.P id,.P id,.Z,some y,some y,[]⟩ rfl rfl (mU.he) (mU.he);simp only[SD.obj]at eV;have cV:=H2 cU;obtain⟨hZ,eZ,mZ,pZ,H3⟩:=mV.put pV al ⟨4,o.l,o.c,[],[],.P F6,.P id,.Z,some e1,some y,[]⟩ rfl rfl (.inr ⟨F6,e1,rfl,rfl,(FW.move (Move.on' eU m11)).move (Move.on' eV mU)⟩) (mV.ho);simp only[SD.obj]at eZ;have cZ:=H3 cV;simp[eU,eV,eZ];refine iE pZ I λHA H4 F7=>?_;have m12:=mZ.call pZ.fr F7;have c12:=cZ.call F7;have w:=m12.get;simp only[SD.obj]at w
  try simp[w]
  refine m12.end H4 (.assign o.at y e1) ⟨rfl,rfl,rfl,rfl,rfl,rfl,rfl⟩ om sp om λid S u i e=>?_;simp;refine gD i cl (c12.call e).get om none _ λU v j=>?_;simp;exact hQ _ _ _ _ (u.move (Move.r i.fr ((xo.x m12.kx).x e) j)) g (by simp<;>omega) v ((m12.kx.trans e).trans j)
end
end
section
section
variable{X:cB}{Q:Out->ah->Prop}{r a:Nat}{W:dh}{el ec:Int}{k:Nat}{ws:dh}{nd fn dp:Nat}{h:ah}
theorem IV(t:Tag)(b:Nat)(ws bH:dh)(re:Re)(g:G t b ws bH re):Spec t b ws bH re:=by
 have key:∀m,Ek m:=by
  intro m;induction m with
  |zero=>intro t b ws bH re h;exact(Nat.not_lt_zero _ h).elim
  |succ m v=>
   intro t b ws bH re hm g;have f:Ek (lO t ws):=λt2 w dR o p u=>v t2 w dR o p om;cases t with
   |un=>cases g with
    |unop ho hu=>exact El f (λi j=>zH f i j) (.unop ho hu)
    |cast ho ht y A hu=>exact El f (λi j=>zH f i j) (.cast ho ht y A hu)
    |post B u i j=>exact El f (λi j=>zH f i j) (.post B u i j)
   |bin l=>exact Mg f g
   |ed=>cases re with
    |e x=>exact J1 f g
    |_=>trivial
   |pW=>cases re with
    |s x=>exact Gc f g
    |_=>trivial
   |ub=>cases re with
    |s x=>exact OV f g
    |_=>trivial
   |dec=>cases re with
    |s x=>exact Rr f g
    |_=>trivial
   |_=>cases re<;>trivial
 exact key _ t b ws bH re (Nat.lt_succ_self _) g
end
end
section
def cu(X:List Nat)(h:ah)(av:AV)(es n:Nat)(cs:List AV):Prop:=
 (n=0/\cs=[]/\av= .Z)\/∃b,av= .S b n/\b∉X/\h.get b=some (.D es cs)
theorem cu.move{X Y:cB}{h h':ah}(s:Move X Y h h'){av:AV}{es n:Nat}{cs:eu}(p:cu X h av es n cs):cu Y h' av es n cs:=by
 rcases p with p|⟨b,e,f,g⟩
 ·exact .inl p
 ·exact .inr ⟨b,e,(s.aH _ _ g f).2,(s.aH _ _ g f).1⟩
def Fd.cells(f:Fd):List AV:=[.str f.ty,.str f.nm]
def Pm.cells(f:Pm):List AV:=[.I f.p.1,.I f.p.2,.bool f.AR,.str f.ty,.str f.nm]
def rO(X:List Nat)(h:ah)(id:Nat):It->Prop
 | .struct p nm fs=>∃fv,h.get id=some (.C [.I 1,.I p.1,.I p.2,.str [],.str nm,fv,.Z,.N])/\id∉X/\cu X h fv 2 fs.length (fs.flatMap Fd.cells)
 | .global p ty nm=>h.get id=some (.C [.I 2,.I p.1,.I p.2,.str ty,.str nm,.Z,.Z,.N])/\id∉X
 | .func p ty nm ps b=>∃pv e,h.get id=some (.C [.I 3,.I p.1,.I p.2,.str ty,.str nm,.Z,pv,.P e])/\id∉X/\cu X h pv 5 ps.length (ps.flatMap Pm.cells)/\tS X h e b
theorem rO.move{X Y:cB}{h h':ah}(s:Move X Y h h'){id:Nat}{i:It}(e:rO X h id i):rO Y h' id i:=by
 cases i with
 |struct p nm fs=>obtain⟨fv,g,f,j⟩:=e;exact⟨fv,(s.aH _ _ g f).1,(s.aH _ _ g f).2,j.move s⟩
 |global p ty nm=>exact⟨(s.aH _ _ e.1 e.2).1,(s.aH _ _ e.1 e.2).2⟩
 |func p ty nm ps b=>obtain⟨pv,m,g,f,j,o⟩:=e;exact⟨pv,m,(s.aH _ _ g f).1,(s.aH _ _ g f).2,j.move s,o.move s⟩
section
variable{X:cB}{Q:Out->ah->Prop}{r a:Nat}{W:dh}{el ec:Int}{k:Nat}{ws:dh}{nd fn dp:Nat}{h H H':ah}{iT:Nat}
theorem oW{st e:TypeId}{f es:Nat}{z:eu}(hu:env.nv st=some (.slice e))(p:env.siz e=some (es+1))(t:env.byt e=some f)(v:f<=100)(u:env.zer e=some z)(i:z.length=es+1){av:AV}{n:Nat}{cs:eu}(arr:cu X h av (es+1) n cs)(A:cs.length=n*(es+1))(B:n<=300)
 (src:Nat) (ec:eu) (w:ec.length=es+1) (j:ec.all AV.scalar=true) (g:h.get src=some (.D (es+1) ec)) (fr:bP h):
 ∃m,aK env h st av (.S src 1)=some (.S h.nx (n+1),m)/\m.nx=h.nx+1/\m.get h.nx=some (.D (es+1) (cs++ec))/\aR (aT av) h m:=by
 have y:¬roomy<(n+1)*(f+1):=by
  have:(n+1)*(f+1)<=301*101:=sY om om;unfold roomy;omega
 have r0:¬roomy<f+1:=by unfold roomy;omega
 have t0:ec.take (es+1)=ec:=cn om;have l0:es+1<=ec.length:=om
 rcases arr with⟨rfl,rfl,rfl⟩|⟨b,rfl,_,gb⟩
 ·refine⟨_,by simp[-me,-List.all_eq_true,hu,p,t,u,g,r0,i,t0,l0,j];rfl,rfl,sp,?_⟩;exact kX
 ·have o:=aw fr gb
  have hm:(n+1)*(es+1)=n*(es+1)+(es+1):=Nat.succ_mul ..;have g1:¬(n+1)*(es+1)<=cs.length:=by omega
  have g2:n*(es+1)<=cs.length:=by omega
  have tk:cs.take (n*(es+1))=cs:=cn om;refine⟨_,by simp[-me,-List.all_eq_true,hu,p,t,u,g,gb,y,g1,g2,tk,i,t0,l0,j];rfl,rfl,sp,?_⟩;simp[aT];refine aR.alloc _ (aR.set _ (aR.refl _ _) (.inl sp) o)
structure IM(r:Nat)(X:List Nat)(h:ah)(iT:Nat)(cs:List AV)(H:ah):Prop where
 get:H.get iT=some (.C cs)
 lo:h.nx<=iT
 lt:iT<H.nx
 kx:aR [r] h H
 xo:zG r X h
theorem IM.nr{cs:eu}(m:IM r X h iT cs H):iT≠r:=by have:=m.xo.lt r m.xo.r;have:=m.lo;omega
theorem IM.call{cs:eu}(m:IM r X h iT cs H)(kx:aR [r] H H'):IM r X h iT cs H':=
 ⟨(kx.old iT m.lt (by simp[m.nr])).trans m.get,m.lo,aq m.lt kx.nx,m.kx.trans kx,m.xo⟩
theorem IM.aH{cs:eu}(m:IM r X h iT cs H)(k:aJ H H'):IM r X h iT cs H':=m.call (k.x _)
theorem IM.put{cs:eu}(m:IM r X h iT cs H)(b:eu)(p:gy r a W el ec k ws nd fn dp H)(al:a<h.nx):∃H',H.set iT (.C b)=H'/\IM r X h iT b H'/\gy r a W el ec k ws nd fn dp H':=
 ⟨_,rfl,⟨by rw[ah.aM,aY rfl],m.lo,m.lt,aR.set _ m.kx (.inr m.lo) m.lt,m.xo⟩,p.put _ m.nr (by have:=m.lo;omega) m.lt⟩
theorem IM.oz{cs:eu}(m:IM r X h iT cs H):zG r (iT::X) H:=⟨au _ m.xo.r,λy b=>by
 rcases ak.1 b with rfl|b
 ·exact m.lt
 ·exact(m.xo.x m.kx).lt y b⟩
theorem IM.push{cs:eu}(m:IM r X h iT cs H)(p:gy r a W el ec k ws nd fn dp H)(al:a<h.nx){st e:TypeId}{v es:Nat}{z:eu}(hu:env.nv st=some (.slice e))(hs:env.siz e=some (es+1))(C:env.byt e=some v)(D:v<=100)(o:env.zer e=some z)(F:z.length=es+1){av:AV}{n:Nat}{u:eu}{Y:cB}(arr:cu Y H av (es+1) n u)(hY:iT∈Y/\r∈Y)(w:∀z,z∈aT av->h.nx<=z/\z<H.nx)(hc:u.length=n*(es+1))(hq:n<=300)
 {j:Nat} (g:H.get j=none) (Z:j<H.nx) (I:h.nx<=j) (t:eu) (J:t.length=es+1) (K:t.all AV.scalar=true):
 ∃i,aK env (H.set j (.D (es+1) t)) st av (.S j 1)=some (.S H.nx (n+1),i)/\i.get iT=some (.C cs)/\∀f,IM r X h iT f (i.set iT (.C f))/\gy r a W el ec k ws nd fn dp (i.set iT (.C f))/\
  cu (iT::X) (i.set iT (.C f)) (.S H.nx (n+1)) (es+1) (n+1) (u++t)/\∀z,z∈aT (.S H.nx (n+1))->h.nx<=z/\z<(i.set iT (.C f)).nx:=by
 have p6:=p.new (.D (es+1) t) g Z;have N:Move Y Y H (H.set j (.D (es+1) t)):=Move.new _ g;have O:iT≠j:=λe=>by rw[<-e,m.get]at g;cases g
 have y:=arr.move N;have A:(H.set j (.D (es+1) t)).nx=H.nx:=rfl
 obtain⟨i,ha,nx,g7,P⟩:=oW hu hs C D o F y hc hq j t J K sp p6.fr;rw[A]at ha nx g7;have R:iT∉aT av:=by
  rcases arr with⟨_,_,rfl⟩|⟨b,rfl,C,_⟩
  ·simp[aT]
  ·simp only[aT,aQ];rintro rfl;exact C hY.1
 have S:∀z,z∈aT av->z≠r/\z≠a:=λz o=>by
  have h1:=(w z o).1;have h2:=m.xo.lt r m.xo.r;exact⟨om,om⟩
 have p7:=p6.app P S;have U:i.get iT=some (.C cs):=by
  rw[P.old iT (by rw[A];exact m.lt) R,ah.aM,ay O];exact m.get
 have lo:=m.lo;have lt:=m.lt;have lt7:iT<i.nx:=by rw[nx];omega
 have V:aR [r] h i:=(aR.set _ m.kx (.inr I) Z).trans' P (λz o A1=>by have:=(w z o).1;omega);refine⟨i,ha,U,λf=>⟨⟨sp,m.lo,lt7,aR.set _ V (.inr m.lo) lt7,m.xo⟩,p7.put _ m.nr om lt7,.inr ⟨H.nx,rfl,?_,?_⟩,?_⟩⟩
 ·intro B;rcases ak.1 B with B|B
  ·omega
  ·have:=(m.xo.x m.kx).lt _ B;omega
 ·rw[ah.aM,ay om,g7]
 ·intro z o;have o:z∈[H.nx]:=o;simp only[aQ]at o;subst o;exact⟨m.kx.nx,by simp[nx]⟩
theorem Fd.yI(l:List Fd):(l.flatMap Fd.cells).length=l.length*(1+1):=by
 induction l with
 |nil=>rfl
 |cons x l b=>simp only[dy,aO,b,ai];simp[Fd.cells];omega
theorem Pm.yI(l:List Pm):(l.flatMap Pm.cells).length=l.length*(4+1):=by
 induction l with
 |nil=>rfl
 |cons x l b=>simp only[dy,aO,b,ai];simp[Pm.cells];omega
def It.fc:It->Nat
 | .func ..=>1
 |_=>0
theorem Hx{ws:dh}{n:Wo}{b:dh}{s:bu}(h:pH ws (n::b) s)(e:n.kind=1):bF ws [123]=false:=by
 cases h with
 |done _=>exact dY om
 |star hw _=>simp[hw.bF]
theorem Rt{b:Nat}{bH:dh}{it:It}(hG:Item b ws bH it)(ok:Ma W)(p:gy r a W el ec k ws nd fn dp h)(xo:zG r X h)(hn:nd+ws.length<=1000)(hd:dp+2*ws.length<=600)(K5:b<=40)(H6:fn+it.fc<=100)
 (hQ:∀id k' I2 I3 h',rO X h' id it->I2+bH.length<=nd+ws.length/\I3=fn+it.fc/\bH.length<ws.length->gy r a W el ec k' bH I2 I3 dp h'->aR [r] h h'->Q (.ret (.P id)) h'):
 ba env 50 [.P r] h Q:=by
 refine wb fn50 rfl ?_;have H7:ws.length<=250:=by have:=ok.len;have:=p.len;omega
 have al:=p.al;simp[f50];refine zF p λh2 k2=>?_;have p2:=p.aH k2;obtain⟨pl,A4⟩:∃pl,pl=De el ec ws:=⟨_,rfl⟩
 rw[<-A4];simp;have K3:aJ h2 (h2.alloc (.C [.I 2,.I pl.1,.I pl.2,.str [],.str [],.Z,.Z,.N])).2:=kT;have p3:=p2.aH K3;have m3:IM r X h h2.nx [.I 2,.I pl.1,.I pl.2,.str [],.str [],.Z,.Z,.N] (h2.alloc (.C [.I 2,.I pl.1,.I pl.2,.str [],.str [],.Z,.Z,.N])).2:=⟨sp,k2.nx,sp,(k2.trans K3).x _,xo⟩
 generalize (h2.alloc (.C [.I 2,.I pl.1,.I pl.2,.str [],.str [],.Z,.Z,.N])).2=t at*;generalize h2.nx=iT at*;clear K3 k2 p2 p;have Ik:(∃w n o c F2 fl,ws=w::n::o::F2/\eX w [115,116,114,117,99,116]/\n.kind=1/\eX o [123]/\Fields F2 (c::bH) fl/\eX c [59]/\it= .struct w.at n.text fl)\/
  (∃n C4 ty,vj ws (n::C4) ty/\n.kind=1/\((∃c ty2,bF C4 [40]=false/\Eb C4 (c::bH) ty ty2/\eX c [59]/\it= .global n.at ty2 n.text)\/(∃o c bQ s,C4=o::c::bQ/\eX o [40]/\eX c [41]/\G .ub b bQ bH (.s s)/\it= .func n.at ty n.text [] s)\/
   (∃o bQ dR ps s,C4=o::bQ/\eX o [40]/\bF bQ [41]=false/\rM bQ dR ps/\G .ub b dR bH (.s s)/\it= .func n.at ty n.text ps s))):=by
  cases hG with
  |struct hw F3 ho hf Z=>exact .inl ⟨_,_,_,_,_,_,rfl,hw,F3,ho,hf,Z,rfl⟩
  |global ht F3 hs ha Z=>exact .inr ⟨_,_,_,ht,F3,.inl ⟨_,_,hs,ha,Z,rfl⟩⟩
  |func0 ht F3 ho Z hb=>exact .inr ⟨_,_,_,ht,F3,.inr (.inl ⟨_,_,_,_,rfl,ho,Z,hb,rfl⟩)⟩
  |func ht F3 ho hs hp hb=>exact .inr ⟨_,_,_,ht,F3,.inr (.inr ⟨_,_,_,_,_,rfl,ho,hs,hp,hb,rfl⟩)⟩
 clear hG;rcases Ik with⟨w,n,o,c,F2,fl,rfl,hw,hk,ho,hf,Z,rfl⟩|⟨n,C4,ty,hT,hk,C6⟩
 ·simp only[De]at A4;subst A4;simp only[ai]at hn hd H7 hQ;refine fR p3 hw λh4 p4 k4=>?_;have m4:=m3.call k4;simp;refine oh p4 hk λh5 p5 k5=>?_;have m5:=m4.call k5;have g5:=m5.get;simp[g5];obtain⟨h6,e6,m6,p6⟩:=m5.put [.I 2,.I w.l,.I w.c,.str [],.str n.text,.Z,.Z,.N] p5 al;rw[e6];refine fR p6 ho λh7 p7 k7=>?_;have m7:=m6.call k7;have g7:=m7.get;simp[g7];obtain⟨h8,e8,m8,p8⟩:=m7.put [.I 1,.I w.l,.I w.c,.str [],.str n.text,.Z,.Z,.N] p7 al;rw[e8];clear e6 e8 g5 g7 m4 m5 m6 m7 p4 p5 p6 p7 k4 k5 k7 m3 p3;refine bz (λm x=>∃cs k1 fv qs l2,m=cs.length/\Fields cs (c::bH) l2/\qs++l2=fl/\cs.length<=F2.length/\qs.length+cs.length<=F2.length/\x.n=151/\x.ds=[]/\x.bX=false/\IM r X h iT [.I 1,.I w.l,.I w.c,.str [],.str n.text,fv,.Z,.N] x.h/\cu (iT::X) x.h fv 2 qs.length (qs.flatMap Fd.cells)/\(∀z,z∈aT fv->h.nx<=z/\z<x.h.nx)/\gy r a W el ec k1 cs nd fn dp x.h/\
   x.rg.get 0=some (.P r)/\x.rg.get 3=some (.P iT)) F2.length ?_ ?_
  ·exact⟨F2,_,.Z,[],fl,rfl,hf,rfl,ao _,sp,rfl,rfl,rfl,m8,.inl ⟨rfl,rfl,rfl⟩,by simp[aT],p8,sp,sp⟩
  clear m8 p8 hf
  rintro m ⟨rg,n',hE,ds,bX⟩ ⟨cs,k1,fv,qs,l2,rfl,hF,C7,H8,I4,e1,e2,e3,O,aE,hz,P,r0,r3⟩
  dsimp only at e1 e2 e3 O aE hz P r0 r3;subst e1 e2 e3;simp[r0];cases hF with
  |done J2=>
   refine fR P J2 λh9 p9 k9=>?_;simp[r0];refine iE p9 Z λhA pA kA=>?_;have mA:=(O.call k9).call kA;have aA:=(aE.move (Move.r P.fr O.oz k9)).move (Move.r p9.fr (O.call k9).oz kA);have gA:=mA.get;simp at C7;subst C7;simp[r3];exact hQ _ _ _ _ _ (show rO X hA iT (.struct w.at n.text qs)from⟨fv,gA,λF=>by have:=mA.xo.lt _ F;have:=mA.lo;omega,aA.move (Move.less λy hy=>au _ hy)⟩) ⟨by simp at H8;omega,rfl,by simp at H8⊢;omega⟩ pA mA.kx
  |@field m1 c1 _ A1 A _ v F4 l3 hs C5 FW ha J3 hr=>
   have lt:=C5.jx;have la:=ha.jx;simp only[ai]at lt la;refine cx _ P hs ?_;simp[r0];refine BR ok C5 P λk3 t FO p3 R=>?_;have m3:=O.call R;have a3:=aE.move (Move.r P.fr O.oz R);have S:∀z,z∈aT fv->h.nx<=z/\z<t.nx:=λz u=>⟨(hz z u).1,aq (hz z u).2 R.nx⟩
   simp;have K4:aJ t ((t.alloc (.C [.str [],.str []])).2.set t.nx (.C [.str v,.str []])):=kT;have m4:=m3.aH K4;have a4:=a3.move (Move.k p3.fr K4);have p4:=p3.aH K4;have gF:((t.alloc (.C [.str [],.str []])).2.set t.nx (.C [.str v,.str []])).get t.nx=some (.C [.str v,.str []]):=sp;have lF:t.nx<((t.alloc (.C [.str [],.str []])).2.set t.nx (.C [.str v,.str []])).nx:=by simp
   have n4:=K4.nx;have C8:t.nx≠r:=(by have:=p3.rl;omega);have G2:t.nx≠a:=(by have:=p3.al;omega);have G3:t.nx≠iT:=(by have:=m3.lt;omega);have G4:h.nx<=t.nx:=m3.kx.nx;have G5:∀z,z∈aT fv->z≠t.nx:=λz u=>by have:=S z u;omega
   generalize (t.alloc (.C [.str [],.str []])).2.set t.nx (.C [.str v,.str []])=h4 at*;have A5:∀z,z∈aT fv->h.nx<=z/\z<h4.nx:=λz u=>⟨(S z u).1,aq (S z u).2 n4⟩
   generalize t.nx=i at*;clear K4 m3 a3 p3 S R O aE P hz;have BE:∀H o,Move (i::iT::X) (i::iT::X) H (H.set i o):=λH o=>Move.on o (bc ..);have aF:cu (i::iT::X) h4 fv 2 qs.length (qs.flatMap Fd.cells):=by
    rcases a4 with a4|⟨z,e,GL,g⟩
    ·exact .inl a4
    ·refine .inr ⟨z,e,?_,g⟩;intro F;rcases ak.1 F with F|F
     ·exact G5 z (by rw[e];simp[aT]) F
     ·exact GL F
   clear a4;have K:∀{H:ah}{k':Nat}{C:dh}{L:eu}(o:dK),IM r X h iT L H->gy r a W el ec k' C nd fn dp H->i<H.nx->cu (i::iT::X) H fv 2 qs.length (qs.flatMap Fd.cells)->
    IM r X h iT L (H.set i o)/\gy r a W el ec k' C nd fn dp (H.set i o)/\cu (i::iT::X) (H.set i o) fv 2 qs.length (qs.flatMap Fd.cells)/\(H.set i o).get i=some o:=by
    intro H k' C L o m p lt ar;exact⟨⟨by rw[ah.aM,ay G3.symm];exact m.get,m.lo,m.lt,aR.set _ m.kx (.inr G4) lt,m.xo⟩,p.put _ C8 G2 lt,ar.move (BE _ _),by rw[ah.aM,aY rfl]⟩
   have B:∀{H H':ah}{k':Nat}{C:dh}{L:eu}{o:dK},IM r X h iT L H->gy r a W el ec k' C nd fn dp H->aR [r] H H'->i<H.nx->H.get i=some o->cu (i::iT::X) H fv 2 qs.length (qs.flatMap Fd.cells)->
    IM r X h iT L H'/\i<H'.nx/\H'.get i=some o/\cu (i::iT::X) H' fv 2 qs.length (qs.flatMap Fd.cells):=by
    intro H H' k' C L o m p kx lt g ar;refine⟨m.call kx,aq lt kx.nx,(kx.old i lt (by simp[C8])).trans g,ar.move (Move.r p.fr ⟨au _ (au _ m.xo.r),?_⟩ kx)⟩;intro y hy;rcases ak.1 hy with rfl|hy
    ·exact lt
    ·exact m.oz.lt y hy
   simp[r0];refine oh p4 FW λh5 p5 k5=>?_;obtain⟨m5,l5,g5,a5⟩:=B m4 p4 k5 lF gF aF;simp[r0,g5];obtain⟨m6,p6,a6,g6⟩:=K (.C [.str v,.str m1.text]) m5 p5 l5 a5;have l6:i<(h5.set i (.C [.str v,.str m1.text])).nx:=l5
   have FP:h5.nx<=(h5.set i (.C [.str v,.str m1.text])).nx:=ao _
   try simp[r0,g6]
   generalize h5.set i (.C [.str v,.str m1.text])=h6 at*;refine yH ok ha om p6 λk7 h7 H9 p7 Gq=>?_;obtain⟨m7,l7,g7,a7⟩:=B m6 p6 Gq l6 g6 a6;simp[r0,g7];obtain⟨m8,p8,a8,g8⟩:=K (.C [.str F4,.str m1.text]) m7 p7 l7 a7;have l8:i<(h7.set i (.C [.str F4,.str m1.text])).nx:=l7
   have FQ:h7.nx<=(h7.set i (.C [.str F4,.str m1.text])).nx:=ao _
   generalize h7.set i (.C [.str F4,.str m1.text])=h8 at*;refine iE p8 J3 λhA pA kA=>?_;obtain⟨mA,lA,gA,aA⟩:=B m8 p8 kA l8 g8 a8;have C9:∀z,z∈aT fv->h.nx<=z/\z<hA.nx:=λz u=>⟨(A5 z u).1,aq (A5 z u).2 (bh k5.nx (bh FP (bh Gq.nx (bh FQ kA.nx))))⟩
   clear m4 p4 aF gF lF m5 p5 a5 g5 l5 m6 p6 a6 g6 l6 m7 p7 a7 g7 l7 m8 p8 a8 g8 l8 k5 Gq kA A5 n4 FP FQ;simp;refine Dd ?_;have gm:=mA.get;have fj:=pA.fr (hA.nx+6) om;simp[-aK,r3,gm,gA,fj]
   repeat refine di ?_
   have KB:=(aJ.refl hA).bump 11;have I5:=mA.kx.nx;obtain⟨H2,V,g12,fin⟩:=(mA.aH KB).push (pA.aH KB) al (st:=129) (e:=138) rfl ty138.1 ty138.2.1 dc ty138.2.2.2 rfl (aA.move (Move.k pA.fr KB)) ⟨sp,by simp[mA.xo.r]⟩ (λz u=>⟨(C9 z u).1,by have:=(C9 z u).2;simp;omega⟩) (Fd.yI _) om (j:=hA.nx+6) fj sp om [.str F4,.str m1.text] rfl rfl;simp[-aK]at V;rw[V];simp[-aK,r0,r3,g12]
   repeat refine di ?_
   obtain⟨mD,pD,aD,A2⟩:=fin [.I 1,.I w.l,.I w.c,.str [],.str n.text,.S (hA.nx+11) (qs.length+1),.Z,.N];simp at mD pD aD A2;generalize H2.set iT _=hD at*;have aD:cu (iT::X) hD (.S (hA.nx+11) (qs.length+1)) 2 (qs++[(⟨F4,m1.text⟩:Fd)]).length ((qs++[(⟨F4,m1.text⟩:Fd)]).flatMap Fd.cells):=(by simpa[Fd.cells]using aD);exact⟨_,om,A,rfl,_,_,_,l3,hr,by rw[<-C7];simp,om,by simp<;>omega,mD,aD,A2,pD⟩
 ·have F5:=hT.jx;simp only[ai]at F5;cases hT with
  |@base w A _ s0 C5 I6 A3=>
   have hT:vj (w::A) (n::C4) (w.text++s0):= .base C5 I6 A3;simp only[ai]at hn hd H7 F5 hQ;have IB:bF (w::A) [115,116,114,117,99,116]=false:=(by simp[bF,I6]);refine cx _ p3 IB ?_;simp;refine BR ok hT p3 λk4 h4 FO p4 K0=>?_;have m4:=m3.call K0;have g4:=m4.get;generalize w.text++s0=ty at*;simp[g4];obtain⟨hS,eS,mS,pS⟩:=m4.put [.I 2,.I pl.1,.I pl.2,.str ty,.str [],.Z,.Z,.N] p4 al;rw[eS];clear eS g4 m4 p4 m3 p3 A4;refine zF pS λh7 k7=>?_;have m7:=mS.aH k7;have p7:=pS.aH k7;have g7:=m7.get;simp[g7,De];obtain⟨h8,e8,m8,p8⟩:=m7.put [.I 2,.I n.l,.I n.c,.str ty,.str [],.Z,.Z,.N] p7 al;rw[e8];refine oh p8 hk λh9 p9 k9=>?_;have m9:=m8.call k9;have g9:=m9.get;simp[g9];obtain⟨hN,eN,mN,J⟩:=m9.put [.I 2,.I n.l,.I n.c,.str ty,.str n.text,.Z,.Z,.N] p9 al;rw[eN];obtain⟨kN,J⟩:∃kN,gy r a W el ec kN C4 nd fn dp hN:=⟨_,J⟩
   clear e8 eN g7 g9 m7 m8 m9 p7 p8 p9 k7 k9 mS pS;refine pX _ J ?_;rcases C6 with⟨c,ty2,hs,ha,Z,rfl⟩|⟨o,c,bQ,s,rfl,ho,Z,hb,rfl⟩|⟨o,bQ,dR,ps,s,rfl,ho,hs,hp,hb,rfl⟩
   ·simp[hs];have gN:=mN.get;simp[gN];refine yH ok ha om J λkA hA H9 pA HA=>?_;have mA:=mN.call HA;have gA:=mA.get;simp[gA];obtain⟨hB,eB,mB,pB⟩:=mA.put [.I 2,.I n.l,.I n.c,.str ty2,.str n.text,.Z,.Z,.N] pA al;rw[eB];refine iE pB Z λhC pC kC=>?_;have U:=mB.call kC;have gC:=U.get;simp;have la:=ha.jx;simp only[ai]at la;exact hQ _ _ _ _ _ (show rO X hC iT (.global n.at ty2 n.text)from⟨gC,λF=>by have:=U.xo.lt _ F;have:=U.lo;omega⟩) ⟨om,rfl,by first|omega|(simp<;>omega)⟩ pC U.kx
   ·simp only[ai]at F5;simp[ho.bF];have H3:fn+1<=100:=H6;have N:=J.obj;have HC:=mN.nr;have w1:=U8 fn;simp[PO]at N;have gN:=mN.get;have Au:(fn:Int)+1<=100:=om;simp[N,w1,Au];have D:aR [r] hN (hN.set r (PO a kN (o::c::bQ).length el ec nd (fn+1:Nat) dp)):=(by have:=J.rl;exact kX);have pF:gy r a W el ec kN (o::c::bQ) nd (fn+1) dp (hN.set r (PO a kN (o::c::bQ).length el ec nd (fn+1:Nat) dp)):=J.yX D (by simp[PO]) J.drop J.len;have mF:=mN.call D;simp[PO]at pF mF D;generalize hN.set r _=hF at*;refine(wK _ _).m1 λHE u=>?_;subst u;simp;refine og pF λHG pT kT=>?_;have mT:=mF.call kT;have gT:=mT.get;simp[gT];obtain⟨hP,eP,mP,pP⟩:=mT.put [.I 3,.I n.l,.I n.c,.str ty,.str n.text,.Z,.Z,.N] pT al;rw[eP];clear eP gT mT pT kT mF pF D N gN mN J;refine fR pP Z λHP P kE=>?_;have O:=mP.call kE;simp;refine bz (λm x=>m=0/\x.n=151/\x.ds=[]/\x.bX=false/\x.h=HP/\x.rg.get 0=some (.P r)/\x.rg.get 3=some (.P iT)/\x.rg.get 5=some (.bool false)) 0 ?_ ?_
    ·exact⟨rfl,rfl,rfl,rfl,rfl,sp,sp,sp⟩
    rintro m ⟨rg,n',hE,ds,bX⟩ ⟨rfl,e1,e2,e3,e4,r0,r3,r5⟩
    dsimp only at e1 e2 e3 e4 r0 r3 r5;subst e1 e2 e3 e4;simp[r0,r3,r5];have aE:cu (iT::X) hE (.Z) 5 0 []:= .inl ⟨rfl,rfl,rfl⟩;have lB:=hb.len.2 rfl;refine IV .ub b _ _ _ hb r a W el ec _ _ _ dp hE (iT::X) _ ok P O.oz om om om λC1 kB HU hB sB lB nB pB C2=>?_;have mB:=O.call C2;have gB:=mB.get;have aB:=aE.move (Move.r P.fr O.oz C2);simp[r3,gB];obtain⟨hC,eC,U,pC⟩:=mB.put [.I 3,.I n.l,.I n.c,.str ty,.str n.text,.Z,(.Z),.P C1] pB al;simp only[eC];have gC:=U.get;have mv:Move (iT::X) (iT::X) hB hC:=eC▸Move.on _ (bc ..);have C3:Move (iT::X) X hB hC:=mv.comp (Move.less λy hy=>au _ hy);exact hQ _ _ _ _ _ (show rO X hC iT (.func n.at ty n.text [] s)from⟨.Z,C1,gC,λF=>by have:=U.xo.lt _ F;have:=U.lo;omega,aB.move C3,sB.move C3⟩) ⟨om,rfl,by first|omega|(simp<;>omega)⟩ pC U.kx
   ·simp only[ai]at F5;simp[ho.bF];have H3:fn+1<=100:=H6;have N:=J.obj;have HC:=mN.nr;have w1:=U8 fn;simp[PO]at N;have gN:=mN.get;have Au:(fn:Int)+1<=100:=om;simp[N,w1,Au];have D:aR [r] hN (hN.set r (PO a kN (o::bQ).length el ec nd (fn+1:Nat) dp)):=(by have:=J.rl;exact kX);have pF:gy r a W el ec kN (o::bQ) nd (fn+1) dp (hN.set r (PO a kN (o::bQ).length el ec nd (fn+1:Nat) dp)):=J.yX D (by simp[PO]) J.drop J.len;have mF:=mN.call D;simp[PO]at pF mF D;generalize hN.set r _=hF at*;refine(wK _ _).m1 λHE u=>?_;subst u;simp;refine og pF λHG pT kT=>?_;have mT:=mF.call kT;have gT:=mT.get;simp[gT];obtain⟨hP,eP,mP,pP⟩:=mT.put [.I 3,.I n.l,.I n.c,.str ty,.str n.text,.Z,.Z,.N] pT al;rw[eP];clear eP gT mT pT kT mF pF D N gN mN J;refine cx _ pP hs ?_;have K1:=hb.len.2 rfl;simp;obtain⟨I,hI⟩:∃I:Nat->St->Prop,I=(λm x=>∃cs k1 pv qs more,m=cs.length/\(more=true->∃l2,rM cs dR l2/\qs++l2=ps)/\(more=false->cs=dR/\qs=ps)/\cs.length<=bQ.length/\qs.length+cs.length<=bQ.length/\x.n=151/\x.ds=[]/\x.bX=false/\IM r X h iT [.I 3,.I n.l,.I n.c,.str ty,.str n.text,.Z,pv,.N] x.h/\cu (iT::X) x.h pv 5 qs.length (qs.flatMap Pm.cells)/\(∀z,z∈aT pv->h.nx<=z/\z<x.h.nx)/\gy r a W el ec k1 cs nd (fn+1) dp x.h/\
     x.rg.get 0=some (.P r)/\x.rg.get 3=some (.P iT)/\x.rg.get 5=some (.bool more)):=⟨_,rfl⟩
    refine bz I bQ.length (by rw[hI];exact⟨bQ,_,.Z,[],true,rfl,λ_=>⟨ps,hp,rfl⟩,sp,ao _,sp,rfl,rfl,rfl,mP,.inl ⟨rfl,rfl,rfl⟩,by simp[aT],pP,sp,sp,sp⟩) ?_;clear mP pP hp hs;intro m st A3;have CL:=A3;rw[hI]at CL;obtain⟨rg,n',hE,ds,bX⟩:=st;obtain⟨cs,k1,pv,qs,more,rfl,HZ,Hc,H8,I4,e1,e2,e3,O,aE,hz,P,r0,r3,r5⟩:=CL;clear A3;dsimp only at e1 e2 e3 O aE hz P r0 r3 r5;subst e1 e2 e3;cases more with
    |false=>
     obtain⟨rfl,rfl⟩:=Hc rfl;simp[r0,r3,r5];have lB:=hb.len.2 rfl;refine IV .ub b _ _ _ hb r a W el ec _ _ _ dp hE (iT::X) _ ok P O.oz om om om λC1 kB HU hB sB lB nB pB C2=>?_;have mB:=O.call C2;have gB:=mB.get;have aB:=aE.move (Move.r P.fr O.oz C2);simp[r3,gB];obtain⟨hC,eC,U,pC⟩:=mB.put [.I 3,.I n.l,.I n.c,.str ty,.str n.text,.Z,pv,.P C1] pB al;simp only[eC];have gC:=U.get;have mv:Move (iT::X) (iT::X) hB hC:=eC▸Move.on _ (bc ..);have C3:Move (iT::X) X hB hC:=mv.comp (Move.less λy hy=>au _ hy);exact hQ _ _ _ _ _ (show rO X hC iT (.func n.at ty n.text qs s)from⟨pv,C1,gC,λF=>by have:=U.xo.lt _ F;have:=U.lo;omega,aB.move C3,sB.move C3⟩) ⟨om,rfl,by first|omega|(simp<;>omega)⟩ pC U.kx
    |true=>
     obtain⟨l2,hP,C7⟩:=HZ rfl;obtain⟨A1,A,m1,c,pb,v,F0,C5,FW,I0⟩:∃A1 A m1 c pb v,Ks cs A1 pb/\vj A1 (m1::c::A) v/\m1.kind=1/\((eX c [41]/\A=dR/\qs++[⟨m1.at,pb,v,m1.text⟩]=ps)\/(eX c [44]/\∃l3,rM A dR l3/\(qs++[⟨m1.at,pb,v,m1.text⟩])++l3=ps)):=by
      cases hP with
      |one h1 h2 t h4=>exact⟨_,_,_,_,_,_,h1,h2,t,.inl ⟨h4,rfl,C7⟩⟩
      |more h1 h2 t h4 h5=>exact⟨_,_,_,_,_,_,h1,h2,t,.inr ⟨h4,_,h5,by rw[<-C7];simp⟩⟩
     have lp:A1.length<=cs.length:=(by cases F0<;>simp);have lt:=C5.jx;simp only[ai]at lt;simp[r0,r5];refine zF P λh2 k2=>?_;have m2:=O.aH k2;have a2:=aE.move (Move.k P.fr k2);have p2:=P.aH k2;have F6:∀z,z∈aT pv->h.nx<=z/\z<h2.nx:=λz u=>⟨(hz z u).1,aq (hz z u).2 k2.nx⟩
     obtain⟨pl,A4⟩:∃pl,pl=De el ec cs:=⟨_,rfl⟩
     rw[<-A4];clear A4 k2 O aE P hz;simp[r0];have F1:∀Q':Out->ah->Prop,(∀k3 t,gy r a W el ec k3 A1 nd (fn+1) dp t->aR [r] h2 t->Q' (.ret (.bool pb)) t)->ba env 63 [.P r,.str [112,117,98,108,105,99]] h2 Q':=by
      intro Q' H4;cases F0 with
      |no I1=>exact cx _ p2 I1 (H4 _ _ p2 (aR.refl _ _))
      |yes hy=>exact fR p2 hy λt p3 k3=>H4 _ _ p3 k3
     refine F1 _ λk3 t p3 R=>?_;have m3:=m2.call R;have a3:=a2.move (Move.r p2.fr m2.oz R);have S:∀z,z∈aT pv->h.nx<=z/\z<t.nx:=λz u=>⟨(F6 z u).1,aq (F6 z u).2 R.nx⟩
     simp;have K4:aJ t ((t.alloc (.C [.I 0,.I 0,.bool false,.str [],.str []])).2.set t.nx (.C [.I pl.1,.I pl.2,.bool pb,.str [],.str []])):=kT;have m4:=m3.aH K4;have a4:=a3.move (Move.k p3.fr K4);have p4:=p3.aH K4;have gF:((t.alloc (.C [.I 0,.I 0,.bool false,.str [],.str []])).2.set t.nx (.C [.I pl.1,.I pl.2,.bool pb,.str [],.str []])).get t.nx=some (.C [.I pl.1,.I pl.2,.bool pb,.str [],.str []]):=sp;have lF:t.nx<((t.alloc (.C [.I 0,.I 0,.bool false,.str [],.str []])).2.set t.nx (.C [.I pl.1,.I pl.2,.bool pb,.str [],.str []])).nx:=by simp
     have n4:=K4.nx;have C8:t.nx≠r:=(by have:=p3.rl;omega);have G2:t.nx≠a:=(by have:=p3.al;omega);have G3:t.nx≠iT:=(by have:=m3.lt;omega);have G4:h.nx<=t.nx:=m3.kx.nx;have G5:∀z,z∈aT pv->z≠t.nx:=λz u=>by have:=S z u;omega
     generalize (t.alloc (.C [.I 0,.I 0,.bool false,.str [],.str []])).2.set t.nx (.C [.I pl.1,.I pl.2,.bool pb,.str [],.str []])=h4 at*;have A5:∀z,z∈aT pv->h.nx<=z/\z<h4.nx:=λz u=>⟨(S z u).1,aq (S z u).2 n4⟩
     generalize t.nx=i at*;clear K4 m3 a3 p3 S m2 a2 p2 F6 R F1;have BE:∀H o,Move (i::iT::X) (i::iT::X) H (H.set i o):=λH o=>Move.on o (bc ..);have aF:cu (i::iT::X) h4 pv 5 qs.length (qs.flatMap Pm.cells):=by
      rcases a4 with a4|⟨z,e,GL,g⟩
      ·exact .inl a4
      ·refine .inr ⟨z,e,?_,g⟩;intro F;rcases ak.1 F with F|F
       ·exact G5 z (by rw[e];simp[aT]) F
       ·exact GL F
     clear a4;have K:∀{H:ah}{k':Nat}{C:dh}{L:eu}(o:dK),IM r X h iT L H->gy r a W el ec k' C nd (fn+1) dp H->i<H.nx->cu (i::iT::X) H pv 5 qs.length (qs.flatMap Pm.cells)->
      IM r X h iT L (H.set i o)/\gy r a W el ec k' C nd (fn+1) dp (H.set i o)/\cu (i::iT::X) (H.set i o) pv 5 qs.length (qs.flatMap Pm.cells)/\(H.set i o).get i=some o:=by
      intro H k' C L o m p lt ar;exact⟨⟨by rw[ah.aM,ay G3.symm];exact m.get,m.lo,m.lt,aR.set _ m.kx (.inr G4) lt,m.xo⟩,p.put _ C8 G2 lt,ar.move (BE _ _),by rw[ah.aM,aY rfl]⟩
     have B:∀{H H':ah}{k':Nat}{C:dh}{L:eu}{o:dK},IM r X h iT L H->gy r a W el ec k' C nd (fn+1) dp H->aR [r] H H'->i<H.nx->H.get i=some o->cu (i::iT::X) H pv 5 qs.length (qs.flatMap Pm.cells)->
      IM r X h iT L H'/\i<H'.nx/\H'.get i=some o/\cu (i::iT::X) H' pv 5 qs.length (qs.flatMap Pm.cells):=by
      intro H H' k' C L o m p kx lt g ar;refine⟨m.call kx,aq lt kx.nx,(kx.old i lt (by simp[C8])).trans g,ar.move (Move.r p.fr ⟨au _ (au _ m.xo.r),?_⟩ kx)⟩;intro y hy;rcases ak.1 hy with rfl|hy
      ·exact lt
      ·exact m.oz.lt y hy
     simp[r0];refine BR ok C5 p4 λk5 h5 FO p5 F7=>?_;obtain⟨m5,l5,g5,a5⟩:=B m4 p4 F7 lF gF aF;simp[r0,g5];obtain⟨m6,p6,a6,g6⟩:=K (.C [.I pl.1,.I pl.2,.bool pb,.str v,.str []]) m5 p5 l5 a5;have l6:i<(h5.set i (.C [.I pl.1,.I pl.2,.bool pb,.str v,.str []])).nx:=l5
     have FP:h5.nx<=(h5.set i (.C [.I pl.1,.I pl.2,.bool pb,.str v,.str []])).nx:=ao _
     generalize h5.set i (.C [.I pl.1,.I pl.2,.bool pb,.str v,.str []])=h6 at*;refine zF p6 λh7 k7=>?_;obtain⟨m7,l7,g7,a7⟩:=B m6 p6 (k7.x _) l6 g6 a6;have p7:=p6.aH k7;simp[r0,g7,De];obtain⟨m8,p8,a8,g8⟩:=K (.C [.I m1.l,.I m1.c,.bool pb,.str v,.str []]) m7 p7 l7 a7;have l8:i<(h7.set i (.C [.I m1.l,.I m1.c,.bool pb,.str v,.str []])).nx:=l7
     have FQ:h7.nx<=(h7.set i (.C [.I m1.l,.I m1.c,.bool pb,.str v,.str []])).nx:=ao _
     generalize h7.set i (.C [.I m1.l,.I m1.c,.bool pb,.str v,.str []])=h8 at*;refine oh p8 FW λh9 p9 k9=>?_;obtain⟨m9,l9,g9,a9⟩:=B m8 p8 k9 l8 g8 a8;simp[g9];obtain⟨mA,pA,aA,gA⟩:=K (.C [.I m1.l,.I m1.c,.bool pb,.str v,.str m1.text]) m9 p9 l9 a9;have lA:i<(h9.set i (.C [.I m1.l,.I m1.c,.bool pb,.str v,.str m1.text])).nx:=l9
     have H5:h4.nx<=(h9.set i (.C [.I m1.l,.I m1.c,.bool pb,.str v,.str m1.text])).nx:=bh F7.nx (bh (bh (show h5.nx<=h6.nx from FP) k7.nx) (bh (show h7.nx<=h8.nx from FQ) k9.nx))
     generalize h9.set i (.C [.I m1.l,.I m1.c,.bool pb,.str v,.str m1.text])=hA at*;have C9:∀z,z∈aT pv->h.nx<=z/\z<hA.nx:=λz u=>⟨(A5 z u).1,aq (A5 z u).2 H5⟩
     clear H5 m4 p4 aF gF lF m5 p5 a5 g5 l5 m6 p6 a6 g6 l6 m7 p7 a7 g7 l7 m8 p8 a8 g8 l8 m9 p9 a9 g9 l9 F7 k7 k9 A5 n4;refine Dd ?_;have gm:=mA.get;have fj:=pA.fr (hA.nx+6) om;simp[-aK,r3,gm,gA,fj]
     repeat refine di ?_
     have KB:=(aJ.refl hA).bump 11;have I5:=mA.kx.nx;obtain⟨H2,V,g12,fin⟩:=(mA.aH KB).push (pA.aH KB) al (st:=130) (e:=158) rfl ty158.1 ty158.2.1 dc ty158.2.2.2 rfl (aA.move (Move.k pA.fr KB)) ⟨sp,by simp[mA.xo.r]⟩ (λz u=>⟨(C9 z u).1,by have:=(C9 z u).2;simp;omega⟩) (Pm.yI _) om (j:=hA.nx+6) fj sp om [.I m1.l,.I m1.c,.bool pb,.str v,.str m1.text] rfl rfl;simp[-aK]at V;rw[V];simp[-aK,r0,g12]
     repeat refine di ?_
     obtain⟨mD,pD,aD,A2⟩:=fin [.I 3,.I n.l,.I n.c,.str ty,.str n.text,.Z,.S (hA.nx+11) (qs.length+1),.N];simp at mD pD aD;generalize H2.set iT _=hD at*;have aD:cu (iT::X) hD (.S (hA.nx+11) (qs.length+1)) 5 (qs++[(⟨m1.at,pb,v,m1.text⟩:Pm)]).length ((qs++[(⟨m1.at,pb,v,m1.text⟩:Pm)]).flatMap Pm.cells):=(by simpa[Pm.cells,Wo.at]using aD);rcases I0 with⟨Z,rfl,FF⟩|⟨Z,l3,hr,FF⟩
     ·refine cx _ pD (by simp[Z.bF]) ?_;simp[r0];refine iE pD Z λhY pY kY=>?_;simp;refine⟨A.length,om,?_⟩;rw[hI];exact⟨A,_,_,qs++[⟨m1.at,pb,v,m1.text⟩],false,rfl,sp,λ_=>⟨rfl,FF⟩,om,by simp<;>omega,rfl,rfl,rfl,mD.call kY,aD.move (Move.r pD.fr mD.oz kY),λz u=>⟨(A2 z u).1,aq (A2 z u).2 kY.nx⟩,pY,by simp[r0],by simp[r3],sp⟩
     ·refine fR pD Z λhY pY kY=>?_;simp;refine⟨A.length,om,?_⟩;rw[hI];exact⟨A,_,_,qs++[⟨m1.at,pb,v,m1.text⟩],true,rfl,λ_=>⟨l3,hr,FF⟩,sp,om,by simp<;>omega,rfl,rfl,rfl,mD.call kY,aD.move (Move.r pD.fr mD.oz kY),λz u=>⟨(A2 z u).1,aq (A2 z u).2 kY.nx⟩,pY,by simp[r0],by simp[r3],sp⟩
  |@struct w n0 A _ s0 hw IH A3=>
   simp only[ai]at hn hd H7 F5 hQ;have K2:=Hx A3 hk;have hT:vj (w::n0::A) (n::C4) (([115,116,114,117,99,116,32]++n0.text)++s0):= .struct hw IH A3;have FO:=hT.Ta ok (λx F=>p3.mem F) H7;have K6:=ok.text n0 (p3.mem sp);refine fR p3 hw λh4 p4 k4=>?_;have m4:=m3.call k4;simp;refine oh p4 IH λh5 p5 k5=>?_;have m5:=m4.call k5;have g5:=m5.get;simp[g5];obtain⟨h6,e6,m6,p6⟩:=m5.put [.I 2,.I pl.1,.I pl.2,.str [],.str n0.text,.Z,.Z,.N] p5 al;rw[e6];refine cx _ p6 K2 ?_;have g6:=m6.get;have hle:7+n0.text.length<=4611686018427387904:=om;simp[g6,hle];refine Ej A3 _ p6 ok.len IN λk7 h7 p7 Gq=>?_;have m7:=m6.call Gq;have g7:=m7.get;simp[g7];simp only[aI,aX]at hT FO C6;obtain⟨ty,Ia⟩:∃ty,ty=115::116::114::117::99::116::32::(n0.text++s0):=⟨_,rfl⟩
   rw[<-Ia]at hT FO C6⊢;obtain⟨hS,eS,mS,pS⟩:=m7.put [.I 2,.I pl.1,.I pl.2,.str ty,.str n0.text,.Z,.Z,.N] p7 al;rw[eS];clear eS e6 g5 g6 g7 m4 m5 m6 m7 p4 p5 p6 p7 m3 p3 A4 Ia A3;refine zF pS λh7 k7=>?_;have m7:=mS.aH k7;have p7:=pS.aH k7;have g7:=m7.get;simp[g7,De];obtain⟨h8,e8,m8,p8⟩:=m7.put [.I 2,.I n.l,.I n.c,.str ty,.str n0.text,.Z,.Z,.N] p7 al;rw[e8];refine oh p8 hk λh9 p9 k9=>?_;have m9:=m8.call k9;have g9:=m9.get;simp[g9];obtain⟨hN,eN,mN,J⟩:=m9.put [.I 2,.I n.l,.I n.c,.str ty,.str n.text,.Z,.Z,.N] p9 al;rw[eN];obtain⟨kN,J⟩:∃kN,gy r a W el ec kN C4 nd fn dp hN:=⟨_,J⟩
   clear e8 eN g7 g9 m7 m8 m9 p7 p8 p9 k7 k9 mS pS;refine pX _ J ?_;rcases C6 with⟨c,ty2,hs,ha,Z,rfl⟩|⟨o,c,bQ,s,rfl,ho,Z,hb,rfl⟩|⟨o,bQ,dR,ps,s,rfl,ho,hs,hp,hb,rfl⟩
   ·simp[hs];have gN:=mN.get;simp[gN];refine yH ok ha om J λkA hA H9 pA HA=>?_;have mA:=mN.call HA;have gA:=mA.get;simp[gA];obtain⟨hB,eB,mB,pB⟩:=mA.put [.I 2,.I n.l,.I n.c,.str ty2,.str n.text,.Z,.Z,.N] pA al;rw[eB];refine iE pB Z λhC pC kC=>?_;have U:=mB.call kC;have gC:=U.get;simp;have la:=ha.jx;simp only[ai]at la;exact hQ _ _ _ _ _ (show rO X hC iT (.global n.at ty2 n.text)from⟨gC,λF=>by have:=U.xo.lt _ F;have:=U.lo;omega⟩) ⟨om,rfl,by first|omega|(simp<;>omega)⟩ pC U.kx
   ·simp only[ai]at F5;simp[ho.bF];have H3:fn+1<=100:=H6;have N:=J.obj;have HC:=mN.nr;have w1:=U8 fn;simp[PO]at N;have gN:=mN.get;have Au:(fn:Int)+1<=100:=om;simp[N,w1,Au];have D:aR [r] hN (hN.set r (PO a kN (o::c::bQ).length el ec nd (fn+1:Nat) dp)):=(by have:=J.rl;exact kX);have pF:gy r a W el ec kN (o::c::bQ) nd (fn+1) dp (hN.set r (PO a kN (o::c::bQ).length el ec nd (fn+1:Nat) dp)):=J.yX D (by simp[PO]) J.drop J.len;have mF:=mN.call D;simp[PO]at pF mF D;generalize hN.set r _=hF at*;refine(wK _ _).m1 λHE u=>?_;subst u;simp;refine og pF λHG pT kT=>?_;have mT:=mF.call kT;have gT:=mT.get;simp[gT];obtain⟨hP,eP,mP,pP⟩:=mT.put [.I 3,.I n.l,.I n.c,.str ty,.str n.text,.Z,.Z,.N] pT al;rw[eP];clear eP gT mT pT kT mF pF D N gN mN J;refine fR pP Z λHP P kE=>?_;have O:=mP.call kE;simp;refine bz (λm x=>m=0/\x.n=151/\x.ds=[]/\x.bX=false/\x.h=HP/\x.rg.get 0=some (.P r)/\x.rg.get 3=some (.P iT)/\x.rg.get 5=some (.bool false)) 0 ?_ ?_
    ·exact⟨rfl,rfl,rfl,rfl,rfl,sp,sp,sp⟩
    rintro m ⟨rg,n',hE,ds,bX⟩ ⟨rfl,e1,e2,e3,e4,r0,r3,r5⟩
    dsimp only at e1 e2 e3 e4 r0 r3 r5;subst e1 e2 e3 e4;simp[r0,r3,r5];have aE:cu (iT::X) hE (.Z) 5 0 []:= .inl ⟨rfl,rfl,rfl⟩;have lB:=hb.len.2 rfl;refine IV .ub b _ _ _ hb r a W el ec _ _ _ dp hE (iT::X) _ ok P O.oz om om om λC1 kB HU hB sB lB nB pB C2=>?_;have mB:=O.call C2;have gB:=mB.get;have aB:=aE.move (Move.r P.fr O.oz C2);simp[r3,gB];obtain⟨hC,eC,U,pC⟩:=mB.put [.I 3,.I n.l,.I n.c,.str ty,.str n.text,.Z,(.Z),.P C1] pB al;simp only[eC];have gC:=U.get;have mv:Move (iT::X) (iT::X) hB hC:=eC▸Move.on _ (bc ..);have C3:Move (iT::X) X hB hC:=mv.comp (Move.less λy hy=>au _ hy);exact hQ _ _ _ _ _ (show rO X hC iT (.func n.at ty n.text [] s)from⟨.Z,C1,gC,λF=>by have:=U.xo.lt _ F;have:=U.lo;omega,aB.move C3,sB.move C3⟩) ⟨om,rfl,by first|omega|(simp<;>omega)⟩ pC U.kx
   ·simp only[ai]at F5;simp[ho.bF];have H3:fn+1<=100:=H6;have N:=J.obj;have HC:=mN.nr;have w1:=U8 fn;simp[PO]at N;have gN:=mN.get;have Au:(fn:Int)+1<=100:=om;simp[N,w1,Au];have D:aR [r] hN (hN.set r (PO a kN (o::bQ).length el ec nd (fn+1:Nat) dp)):=(by have:=J.rl;exact kX);have pF:gy r a W el ec kN (o::bQ) nd (fn+1) dp (hN.set r (PO a kN (o::bQ).length el ec nd (fn+1:Nat) dp)):=J.yX D (by simp[PO]) J.drop J.len;have mF:=mN.call D;simp[PO]at pF mF D;generalize hN.set r _=hF at*;refine(wK _ _).m1 λHE u=>?_;subst u;simp;refine og pF λHG pT kT=>?_;have mT:=mF.call kT;have gT:=mT.get;simp[gT];obtain⟨hP,eP,mP,pP⟩:=mT.put [.I 3,.I n.l,.I n.c,.str ty,.str n.text,.Z,.Z,.N] pT al;rw[eP];clear eP gT mT pT kT mF pF D N gN mN J;refine cx _ pP hs ?_;have K1:=hb.len.2 rfl;simp;obtain⟨I,hI⟩:∃I:Nat->St->Prop,I=(λm x=>∃cs k1 pv qs more,m=cs.length/\(more=true->∃l2,rM cs dR l2/\qs++l2=ps)/\(more=false->cs=dR/\qs=ps)/\cs.length<=bQ.length/\qs.length+cs.length<=bQ.length/\x.n=151/\x.ds=[]/\x.bX=false/\IM r X h iT [.I 3,.I n.l,.I n.c,.str ty,.str n.text,.Z,pv,.N] x.h/\cu (iT::X) x.h pv 5 qs.length (qs.flatMap Pm.cells)/\(∀z,z∈aT pv->h.nx<=z/\z<x.h.nx)/\gy r a W el ec k1 cs nd (fn+1) dp x.h/\
     x.rg.get 0=some (.P r)/\x.rg.get 3=some (.P iT)/\x.rg.get 5=some (.bool more)):=⟨_,rfl⟩
    refine bz I bQ.length (by rw[hI];exact⟨bQ,_,.Z,[],true,rfl,λ_=>⟨ps,hp,rfl⟩,sp,ao _,sp,rfl,rfl,rfl,mP,.inl ⟨rfl,rfl,rfl⟩,by simp[aT],pP,sp,sp,sp⟩) ?_;clear mP pP hp hs;intro m st A3;have CL:=A3;rw[hI]at CL;obtain⟨rg,n',hE,ds,bX⟩:=st;obtain⟨cs,k1,pv,qs,more,rfl,HZ,Hc,H8,I4,e1,e2,e3,O,aE,hz,P,r0,r3,r5⟩:=CL;clear A3;dsimp only at e1 e2 e3 O aE hz P r0 r3 r5;subst e1 e2 e3;cases more with
    |false=>
     obtain⟨rfl,rfl⟩:=Hc rfl;simp[r0,r3,r5];have lB:=hb.len.2 rfl;refine IV .ub b _ _ _ hb r a W el ec _ _ _ dp hE (iT::X) _ ok P O.oz om om om λC1 kB HU hB sB lB nB pB C2=>?_;have mB:=O.call C2;have gB:=mB.get;have aB:=aE.move (Move.r P.fr O.oz C2);simp[r3,gB];obtain⟨hC,eC,U,pC⟩:=mB.put [.I 3,.I n.l,.I n.c,.str ty,.str n.text,.Z,pv,.P C1] pB al;simp only[eC];have gC:=U.get;have mv:Move (iT::X) (iT::X) hB hC:=eC▸Move.on _ (bc ..);have C3:Move (iT::X) X hB hC:=mv.comp (Move.less λy hy=>au _ hy);exact hQ _ _ _ _ _ (show rO X hC iT (.func n.at ty n.text qs s)from⟨pv,C1,gC,λF=>by have:=U.xo.lt _ F;have:=U.lo;omega,aB.move C3,sB.move C3⟩) ⟨om,rfl,by first|omega|(simp<;>omega)⟩ pC U.kx
    |true=>
     obtain⟨l2,hP,C7⟩:=HZ rfl;obtain⟨A1,A,m1,c,pb,v,F0,C5,FW,I0⟩:∃A1 A m1 c pb v,Ks cs A1 pb/\vj A1 (m1::c::A) v/\m1.kind=1/\((eX c [41]/\A=dR/\qs++[⟨m1.at,pb,v,m1.text⟩]=ps)\/(eX c [44]/\∃l3,rM A dR l3/\(qs++[⟨m1.at,pb,v,m1.text⟩])++l3=ps)):=by
      cases hP with
      |one h1 h2 t h4=>exact⟨_,_,_,_,_,_,h1,h2,t,.inl ⟨h4,rfl,C7⟩⟩
      |more h1 h2 t h4 h5=>exact⟨_,_,_,_,_,_,h1,h2,t,.inr ⟨h4,_,h5,by rw[<-C7];simp⟩⟩
     have lp:A1.length<=cs.length:=(by cases F0<;>simp);have lt:=C5.jx;simp only[ai]at lt;simp[r0,r5];refine zF P λh2 k2=>?_;have m2:=O.aH k2;have a2:=aE.move (Move.k P.fr k2);have p2:=P.aH k2;have F6:∀z,z∈aT pv->h.nx<=z/\z<h2.nx:=λz u=>⟨(hz z u).1,aq (hz z u).2 k2.nx⟩
     obtain⟨pl,A4⟩:∃pl,pl=De el ec cs:=⟨_,rfl⟩
     rw[<-A4];clear A4 k2 O aE P hz;simp[r0];have F1:∀Q':Out->ah->Prop,(∀k3 t,gy r a W el ec k3 A1 nd (fn+1) dp t->aR [r] h2 t->Q' (.ret (.bool pb)) t)->ba env 63 [.P r,.str [112,117,98,108,105,99]] h2 Q':=by
      intro Q' H4;cases F0 with
      |no I1=>exact cx _ p2 I1 (H4 _ _ p2 (aR.refl _ _))
      |yes hy=>exact fR p2 hy λt p3 k3=>H4 _ _ p3 k3
     refine F1 _ λk3 t p3 R=>?_;have m3:=m2.call R;have a3:=a2.move (Move.r p2.fr m2.oz R);have S:∀z,z∈aT pv->h.nx<=z/\z<t.nx:=λz u=>⟨(F6 z u).1,aq (F6 z u).2 R.nx⟩
     simp;have K4:aJ t ((t.alloc (.C [.I 0,.I 0,.bool false,.str [],.str []])).2.set t.nx (.C [.I pl.1,.I pl.2,.bool pb,.str [],.str []])):=kT;have m4:=m3.aH K4;have a4:=a3.move (Move.k p3.fr K4);have p4:=p3.aH K4;have gF:((t.alloc (.C [.I 0,.I 0,.bool false,.str [],.str []])).2.set t.nx (.C [.I pl.1,.I pl.2,.bool pb,.str [],.str []])).get t.nx=some (.C [.I pl.1,.I pl.2,.bool pb,.str [],.str []]):=sp;have lF:t.nx<((t.alloc (.C [.I 0,.I 0,.bool false,.str [],.str []])).2.set t.nx (.C [.I pl.1,.I pl.2,.bool pb,.str [],.str []])).nx:=by simp
     have n4:=K4.nx;have C8:t.nx≠r:=(by have:=p3.rl;omega);have G2:t.nx≠a:=(by have:=p3.al;omega);have G3:t.nx≠iT:=(by have:=m3.lt;omega);have G4:h.nx<=t.nx:=m3.kx.nx;have G5:∀z,z∈aT pv->z≠t.nx:=λz u=>by have:=S z u;omega
     generalize (t.alloc (.C [.I 0,.I 0,.bool false,.str [],.str []])).2.set t.nx (.C [.I pl.1,.I pl.2,.bool pb,.str [],.str []])=h4 at*;have A5:∀z,z∈aT pv->h.nx<=z/\z<h4.nx:=λz u=>⟨(S z u).1,aq (S z u).2 n4⟩
     generalize t.nx=i at*;clear K4 m3 a3 p3 S m2 a2 p2 F6 R F1;have BE:∀H o,Move (i::iT::X) (i::iT::X) H (H.set i o):=λH o=>Move.on o (bc ..);have aF:cu (i::iT::X) h4 pv 5 qs.length (qs.flatMap Pm.cells):=by
      rcases a4 with a4|⟨z,e,GL,g⟩
      ·exact .inl a4
      ·refine .inr ⟨z,e,?_,g⟩;intro F;rcases ak.1 F with F|F
       ·exact G5 z (by rw[e];simp[aT]) F
       ·exact GL F
     clear a4;have K:∀{H:ah}{k':Nat}{C:dh}{L:eu}(o:dK),IM r X h iT L H->gy r a W el ec k' C nd (fn+1) dp H->i<H.nx->cu (i::iT::X) H pv 5 qs.length (qs.flatMap Pm.cells)->
      IM r X h iT L (H.set i o)/\gy r a W el ec k' C nd (fn+1) dp (H.set i o)/\cu (i::iT::X) (H.set i o) pv 5 qs.length (qs.flatMap Pm.cells)/\(H.set i o).get i=some o:=by
      intro H k' C L o m p lt ar;exact⟨⟨by rw[ah.aM,ay G3.symm];exact m.get,m.lo,m.lt,aR.set _ m.kx (.inr G4) lt,m.xo⟩,p.put _ C8 G2 lt,ar.move (BE _ _),by rw[ah.aM,aY rfl]⟩
     have B:∀{H H':ah}{k':Nat}{C:dh}{L:eu}{o:dK},IM r X h iT L H->gy r a W el ec k' C nd (fn+1) dp H->aR [r] H H'->i<H.nx->H.get i=some o->cu (i::iT::X) H pv 5 qs.length (qs.flatMap Pm.cells)->
      IM r X h iT L H'/\i<H'.nx/\H'.get i=some o/\cu (i::iT::X) H' pv 5 qs.length (qs.flatMap Pm.cells):=by
      intro H H' k' C L o m p kx lt g ar;refine⟨m.call kx,aq lt kx.nx,(kx.old i lt (by simp[C8])).trans g,ar.move (Move.r p.fr ⟨au _ (au _ m.xo.r),?_⟩ kx)⟩;intro y hy;rcases ak.1 hy with rfl|hy
      ·exact lt
      ·exact m.oz.lt y hy
     simp[r0];refine BR ok C5 p4 λk5 h5 FO p5 F7=>?_;obtain⟨m5,l5,g5,a5⟩:=B m4 p4 F7 lF gF aF;simp[r0,g5];obtain⟨m6,p6,a6,g6⟩:=K (.C [.I pl.1,.I pl.2,.bool pb,.str v,.str []]) m5 p5 l5 a5;have l6:i<(h5.set i (.C [.I pl.1,.I pl.2,.bool pb,.str v,.str []])).nx:=l5
     have FP:h5.nx<=(h5.set i (.C [.I pl.1,.I pl.2,.bool pb,.str v,.str []])).nx:=ao _
     generalize h5.set i (.C [.I pl.1,.I pl.2,.bool pb,.str v,.str []])=h6 at*;refine zF p6 λh7 k7=>?_;obtain⟨m7,l7,g7,a7⟩:=B m6 p6 (k7.x _) l6 g6 a6;have p7:=p6.aH k7;simp[r0,g7,De];obtain⟨m8,p8,a8,g8⟩:=K (.C [.I m1.l,.I m1.c,.bool pb,.str v,.str []]) m7 p7 l7 a7;have l8:i<(h7.set i (.C [.I m1.l,.I m1.c,.bool pb,.str v,.str []])).nx:=l7
     have FQ:h7.nx<=(h7.set i (.C [.I m1.l,.I m1.c,.bool pb,.str v,.str []])).nx:=ao _
     generalize h7.set i (.C [.I m1.l,.I m1.c,.bool pb,.str v,.str []])=h8 at*;refine oh p8 FW λh9 p9 k9=>?_;obtain⟨m9,l9,g9,a9⟩:=B m8 p8 k9 l8 g8 a8;simp[g9];obtain⟨mA,pA,aA,gA⟩:=K (.C [.I m1.l,.I m1.c,.bool pb,.str v,.str m1.text]) m9 p9 l9 a9;have lA:i<(h9.set i (.C [.I m1.l,.I m1.c,.bool pb,.str v,.str m1.text])).nx:=l9
     have H5:h4.nx<=(h9.set i (.C [.I m1.l,.I m1.c,.bool pb,.str v,.str m1.text])).nx:=bh F7.nx (bh (bh (show h5.nx<=h6.nx from FP) k7.nx) (bh (show h7.nx<=h8.nx from FQ) k9.nx))
     generalize h9.set i (.C [.I m1.l,.I m1.c,.bool pb,.str v,.str m1.text])=hA at*;have C9:∀z,z∈aT pv->h.nx<=z/\z<hA.nx:=λz u=>⟨(A5 z u).1,aq (A5 z u).2 H5⟩
     clear H5 m4 p4 aF gF lF m5 p5 a5 g5 l5 m6 p6 a6 g6 l6 m7 p7 a7 g7 l7 m8 p8 a8 g8 l8 m9 p9 a9 g9 l9 F7 k7 k9 A5 n4;refine Dd ?_;have gm:=mA.get;have fj:=pA.fr (hA.nx+6) om;simp[-aK,r3,gm,gA,fj]
     repeat refine di ?_
     have KB:=(aJ.refl hA).bump 11;have I5:=mA.kx.nx;obtain⟨H2,V,g12,fin⟩:=(mA.aH KB).push (pA.aH KB) al (st:=130) (e:=158) rfl ty158.1 ty158.2.1 dc ty158.2.2.2 rfl (aA.move (Move.k pA.fr KB)) ⟨sp,by simp[mA.xo.r]⟩ (λz u=>⟨(C9 z u).1,by have:=(C9 z u).2;simp;omega⟩) (Pm.yI _) om (j:=hA.nx+6) fj sp om [.I m1.l,.I m1.c,.bool pb,.str v,.str m1.text] rfl rfl;simp[-aK]at V;rw[V];simp[-aK,r0,g12]
     repeat refine di ?_
     obtain⟨mD,pD,aD,A2⟩:=fin [.I 3,.I n.l,.I n.c,.str ty,.str n.text,.Z,.S (hA.nx+11) (qs.length+1),.N];simp at mD pD aD;generalize H2.set iT _=hD at*;have aD:cu (iT::X) hD (.S (hA.nx+11) (qs.length+1)) 5 (qs++[(⟨m1.at,pb,v,m1.text⟩:Pm)]).length ((qs++[(⟨m1.at,pb,v,m1.text⟩:Pm)]).flatMap Pm.cells):=(by simpa[Pm.cells,Wo.at]using aD);rcases I0 with⟨Z,rfl,FF⟩|⟨Z,l3,hr,FF⟩
     ·refine cx _ pD (by simp[Z.bF]) ?_;simp[r0];refine iE pD Z λhY pY kY=>?_;simp;refine⟨A.length,om,?_⟩;rw[hI];exact⟨A,_,_,qs++[⟨m1.at,pb,v,m1.text⟩],false,rfl,sp,λ_=>⟨rfl,FF⟩,om,by simp<;>omega,rfl,rfl,rfl,mD.call kY,aD.move (Move.r pD.fr mD.oz kY),λz u=>⟨(A2 z u).1,aq (A2 z u).2 kY.nx⟩,pY,by simp[r0],by simp[r3],sp⟩
     ·refine fR pD Z λhY pY kY=>?_;simp;refine⟨A.length,om,?_⟩;rw[hI];exact⟨A,_,_,qs++[⟨m1.at,pb,v,m1.text⟩],true,rfl,λ_=>⟨l3,hr,FF⟩,sp,om,by simp<;>omega,rfl,rfl,rfl,mD.call kY,aD.move (Move.r pD.fr mD.oz kY),λz u=>⟨(A2 z u).1,aq (A2 z u).2 kY.nx⟩,pY,by simp[r0],by simp[r3],sp⟩
end
end
section
def xZ:List It->Nat
 |[]=>0
 |i::l=>i.fc+xZ l
def BO(X:List Nat)(h:ah)(id:Nat)(cD:List It):Prop:=
 ∃av n qs,h.get id=some (.C [av,.I n])/\id∉X/\cQ X h av qs/\qs.map Prod.snd=cD/\∀q,q∈qs->rO X h q.1 q.2
section
variable{X:cB}{Q:Out->ah->Prop}{r a:Nat}{W:dh}{el ec:Int}{k:Nat}{ws:dh}{nd fn dp:Nat}{h H H':ah}{iT:Nat}
theorem IM.Tc{cs:eu}(m:IM r X h iT cs H)(p:gy r a W el ec k ws nd fn dp H)(al:a<h.nx){st e:TypeId}{w es:Nat}{z:eu}(hu:env.nv st=some (.slice e))(hs:env.siz e=some (es+1))(I:env.byt e=some w)(J:w<=100)(o:env.zer e=some z)(K:z.length=es+1){av:AV}{n:Nat}{u:eu}{Y:cB}(arr:cu Y H av (es+1) n u)(hY:iT∈Y)(A:∀z,z∈aT av->h.nx<=z/\z<H.nx)(hc:u.length=n*(es+1))(hq:n<=300)
 {j:Nat} (g:H.get j=none) (hj:j<H.nx) (N:h.nx<=j) (t:eu) (O:t.length=es+1) (P:t.all AV.scalar=true):
 ∃i,aK env (H.set j (.D (es+1) t)) st av (.S j 1)=some (.S H.nx (n+1),i)/\i.get iT=some (.C cs)/\∀f,(IM r X h iT f (i.set iT (.C f))/\gy r a W el ec k ws nd fn dp (i.set iT (.C f))/\
  cu (iT::X) (i.set iT (.C f)) (.S H.nx (n+1)) (es+1) (n+1) (u++t)/\∀z,z∈aT (.S H.nx (n+1))->(h.nx<=z/\z<(i.set iT (.C f)).nx))/\Move (aT av++iT::X) (H.nx::iT::X) H (i.set iT (.C f)):=by
 have R:=p.new (.D (es+1) t) g hj;have S:Move Y Y H (H.set j (.D (es+1) t)):=Move.new _ g;have U:iT≠j:=λe=>by rw[<-e,m.get]at g;cases g
 have B:=arr.move S;have v:(H.set j (.D (es+1) t)).nx=H.nx:=rfl
 obtain⟨i,ha,nx,g7,D⟩:=oW hu hs I J o K B hc hq j t O P sp R.fr;rw[v]at ha nx g7;have V:iT∉aT av:=by
  rcases arr with⟨_,_,rfl⟩|⟨b,rfl,I,_⟩
  ·simp[aT]
  ·simp only[aT,aQ];rintro rfl;exact I hY
 have Z:∀z,z∈aT av->z≠r/\z≠a:=λz o=>by
  have h1:=(A z o).1;have h2:=m.xo.lt r m.xo.r;exact⟨om,om⟩
 have p7:=R.app D Z;have A1:i.get iT=some (.C cs):=by
  rw[D.old iT (by rw[v];exact m.lt) V,ah.aM,ay U];exact m.get
 have lo:=m.lo;have lt:=m.lt;have lt7:iT<i.nx:=by rw[nx];omega
 have A2:aR [r] h i:=(aR.set _ m.kx (.inr N) hj).trans' D (λz o A5=>by have:=(A z o).1;omega);have A3:∀y,y∈H.nx::iT::X->y∈aT av++iT::X\/H.nx<=y:=λy C=>by
  rcases ak.1 C with rfl|C
  ·exact .inr (ao _)
  ·exact .inl (bw _ C)
 have A4:Move (aT av++iT::X) (H.nx::iT::X) H i:=(Move.new _ g).comp (Move.of R.fr D (λz o _=>eJ _ o) (λy C=>by rw[v];exact A3 y C));refine⟨i,ha,A1,λf=>⟨⟨⟨sp,m.lo,lt7,aR.set _ A2 (.inr m.lo) lt7,m.xo⟩,p7.put _ m.nr om lt7,.inr ⟨H.nx,rfl,?_,?_⟩,?_⟩,A4.comp (Move.on _ (au _ (bc ..)))⟩⟩
 ·intro F;rcases ak.1 F with F|F
  ·omega
  ·have:=(m.xo.x m.kx).lt _ F;omega
 ·rw[ah.aM,ay om,g7]
 ·intro z o;have o:z∈[H.nx]:=o;simp only[aQ]at o;subst o;exact⟨m.kx.nx,by simp[nx]⟩
theorem J4{b:Nat}{cD:nj}(hG:jK b ws cD)(ok:Ma W)(p:gy r a W el ec k ws nd fn dp h)(xo:zG r X h)(hn:nd+ws.length<=1000)(hd:dp+2*ws.length<=600)(V:b<=40)(Z:fn+xZ cD<=100)
 (hQ:∀id k' A1 A2 h',BO X h' id cD->gy r a W el ec k' [] A1 A2 dp h'->aR [r] h h'->Q (.ret (.P id)) h'):
 ba env 38 [.P r] h Q:=by
 refine wb fn38 rfl ?_;have C2:ws.length<=250:=by have:=ok.len;have:=p.len;omega
 have al:=p.al;simp[f38];have K1:aJ h (h.alloc (.C [.Z,.I 0])).2:=kT;have m1:IM r X h h.nx [.Z,.I 0] (h.alloc (.C [.Z,.I 0])).2:=⟨sp,ao _,sp,K1.x _,xo⟩
 have p1:=p.aH K1;generalize (h.alloc (.C [.Z,.I 0])).2=h1 at*;obtain⟨iT,K⟩:∃iT,iT=h.nx:=⟨_,rfl⟩
 rw[<-K]at m1⊢;obtain⟨I,hI⟩:∃I:Nat->St->Prop,I=(λm x=>∃cs k1 t fn1 av qs l2,m=cs.length/\cs.length<=ws.length/\jK b cs l2/\qs.map Prod.snd++l2=cD/\qs.length+cs.length<=ws.length/\t+cs.length<=nd+ws.length/\fn1+xZ l2<=100/\x.n=31/\x.ds=[]/\x.bX=false/\IM r X h iT [av,.I 0] x.h/\cQ (iT::X) x.h av qs/\(∀q,q∈qs->rO (aT av++iT::X) x.h q.1 q.2)/\(∀z,z∈aT av->h.nx<=z/\z<x.h.nx)/\gy r a W el ec k1 cs t fn1 dp x.h/\
  x.rg.get 0=some (.P r)/\x.rg.get 3=some (.P iT)):=⟨_,rfl⟩
 refine bz I ws.length (by rw[hI];exact⟨ws,_,_,_,.Z,[],cD,rfl,ao _,hG,rfl,sp,ao _,Z,rfl,rfl,rfl,m1,.inl ⟨rfl,rfl⟩,sp,by simp[aT],p1,sp,sp⟩) ?_;clear m1 p1 hG K1;intro m st N;have B:=N;rw[hI]at B;obtain⟨rg,n',v,ds,bX⟩:=st;obtain⟨cs,k1,t,fn1,av,qs,l2,rfl,C3,hF,D,C4,C5,A3,e1,e2,e3,F,aA,sA,S,J,r0,r3⟩:=B;clear N;dsimp only at e1 e2 e3 F aA sA S J r0 r3;subst e1 e2 e3;have w:=J.obj;simp[PO]at w;cases hF with
 |done=>
  have gm:=F.get;have nr:=F.nr;simp at D w;simp[r0,r3,w,gm];obtain⟨hB,eB,U,pB⟩:=F.put [av,.I t] J al;rw[eB];have mv:Move (iT::X) X v hB:=eB▸(Move.on _ (bc ..)).comp (Move.less λy A=>au _ A);have A4:Move (aT av++iT::X) X v hB:=(Move.less λy A=>bw _ A).comp mv;exact hQ _ _ _ _ _ ⟨av,t,qs,U.get,λhx=>by have:=U.xo.lt _ hx;have:=U.lo;omega,aA.move mv,D,λq o=>(sA q o).move A4⟩ pB U.kx
 |@item _ bQ i l3 hi hr=>
  have hlen:0<cs.length:=by
   have:cs≠[]:=by
    rintro rfl
    cases hi with
    |global ht=>exact absurd ht.jx sp
    |func0 ht=>exact absurd ht.jx sp
    |func ht=>exact absurd ht.jx sp
   exact List.length_pos_iff.2 this
  simp only[xZ]at A3;simp[r0,w,hlen];refine Dd ?_;have gm:=F.get;simp[-aK,r0,r3,gm]
  repeat refine di ?_
  have KB:=(aJ.refl v).bump 12;have mb:=F.aH KB;have pb:=J.aH KB;have O:∀Y,Move Y Y v (v.bump 12):=λY=>Move.k J.fr KB;have f7:=J.fr (v.nx+7) om;have C6:=F.kx.nx;have xb:zG r (aT av++iT::X) (v.bump 12):=⟨bw _ (au _ xo.r),λy A=>by
   rcases aP.1 A with A|A
   ·have:=(S y A).2;simp;omega
   ·exact mb.oz.lt y A⟩
  refine Rt hi ok pb xb om om V om λid k5 C7 fn5 h5 i5 l5 p5 u=>?_;obtain⟨l5,rfl,l6⟩:=l5;have m5:=mb.call u;have g5:=m5.get;have a5:=(aA.move (O _)).move (Move.r pb.fr mb.oz u);have s5:∀q,q∈qs->rO (aT av++iT::X) h5 q.1 q.2:=λq o=>((sA q o).move (O _)).move (Move.r pb.fr xb u);have o5:=u.old (v.nx+7) sp (by have:=J.rl;simp;omega);have A5:=u.nx;simp[f7]at o5 A5;simp[-aK];have gq:=g5;rw[K]at gq
  repeat refine di ?_
  simp[-aK,o5];have P:cu (iT::X) h5 av (0+1) qs.length (qs.map λp=> .P p.1):=by
   rcases a5 with⟨rfl,rfl⟩|⟨b,e,hb,g⟩
   ·exact .inl ⟨rfl,rfl,rfl⟩
   ·exact .inr ⟨b,e,hb,g⟩
  obtain⟨Au,C,g12,fin⟩:=m5.Tc p5 al (st:=122) (e:=125) rfl ty125.1 ty125.2.1 dc ty125.2.2.2 rfl P sp (λz o=>⟨(S z o).1,by have:=(S z o).2;omega⟩) sp om (j:=v.nx+7) o5 om om [.P id] rfl rfl;simp[-aK]at C;rw[C];simp[-aK,g12]
  repeat refine di ?_
  obtain⟨⟨mD,pD,aD,C1⟩,R⟩:=fin [.S h5.nx (qs.length+1),.I 0];generalize Au.set iT _=hD at*;refine⟨bQ.length,om,?_⟩;rw[hI];refine⟨bQ,_,_,_,_,qs++[(id,i)],l3,rfl,om,hr,by rw[<-D];simp,by simp<;>omega,om,om,rfl,rfl,rfl,mD,?_,?_,C1,pD,by simp[r0],by simp[r3]⟩
  ·rcases aD with⟨e,_⟩|⟨b,e,hb,g⟩
   ·omega
   ·exact .inr ⟨b,by rw[e];simp,hb,by rw[g];simp⟩
  ·intro q o;rcases aP.1 o with o|o
   ·exact(s5 q o).move R
   ·simp only[aQ]at o;subst o;exact i5.move R
end
end
theorem dj{P A H:Prop}(p:P)(f:H->A):H->P/\A:=λh=>⟨p,f h⟩
theorem dl{A H:Prop}(b:H)(a:H->A:=by(repeat ((with_reducible apply dj); · (repeat (first|exact JG _ _|exact Bu _ _ _|exact JH _ _ _ _ _|refine R3 (by decide+kernel) ?_|refine Ll (by decide+kernel) ?_|refine R4 (by decide+kernel) ?_|refine JF (by simp[*];done) ?_|refine Pu (by simp[*];done) ?_|refine JF (by simp_all;done) ?_|refine Pu (by simp_all;done) ?_))));exact λh=>h):A:=a b
theorem dm{A H:Prop}(b:H)(a:H->A:=by(repeat (apply dj; · (repeat (first|exact JG _ _|exact Bu _ _ _|exact JH _ _ _ _ _|refine R3 (by decide+kernel) ?_|refine Ll (by decide+kernel) ?_|refine R4 (by decide+kernel) ?_|refine JF (by simp[*];done) ?_|refine Pu (by simp[*];done) ?_|refine JF (by simp_all;done) ?_|refine Pu (by simp_all;done) ?_))));exact λh=>h):A:=a b
theorem Mh{s:bu}{v:Int}(a:∀b∈s,yn.contains b=true)(h:Lib.atoiAll s= .ok v):0<=v/\v<9223372036854775808:=by
 unfold Lib.atoiAll at h;cases s with
 |nil=>cases h
 |cons c r=>
  have f:=a c sp;have g:¬c.toNat=45:=by
   intro e;have:c=45:=cY (by rw[e];rfl);subst this;revert f;decide
  simp only[g,eY,td,true_and,false_and]at h;split at h
  ·cases h
  ·cases h
  ·rename_i u hu;split at h
   ·cases h
   ·injection h with h;omega
theorem Mi{s:bu}{v:Int}(h:uw s=some v):0<=v/\v<9223372036854775808:=by
 unfold uw at h;split at h
 ·split at h
  ·cases h
  ·cases a:wT 0 (s.drop 2)with
   |none=>rw[a]at h;cases h
   |some u=>
    rw[a]at h;simp only[Option.map,bj]at h;have:=(yo _ _ _ a).2 dc;omega
 ·split at h
  ·rename_i b;split at h
   ·rename_i u hu;injection h with h;subst h;exact Mh b.1 hu
   ·cases h
  ·cases h
theorem OW{s:bu}{w:Wd}(h:jG s=some w):0<=w.n/\w.n<9223372036854775808:=by
 unfold jG at h;split at h
 ·cases h
 ·split at h
  ·split at h
   ·injection h with h;subst h;simp
   ·cases h
  ·split at h
   ·rename_i c r b h0;cases a:uw ((c::r).take (cM (c::r)))with
    |none=>rw[a]at h;cases h
    |some v=>rw[a]at h;simp only[Option.map,bj]at h;subst h;exact Mi a
   ·split at h
    ·injection h with h;subst h;simp
    ·cases h
theorem gZ.ok{l c:Int}{s:bu}{ws:dh}(h:gZ l c s ws):∀w,w∈ws->w.text.length<=s.length/\0<=w.n/\w.n<9223372036854775808:=by
 induction h with
 |nil=>simp
 |blank e f h0 g hr a=>
  intro w hw;have:=a w hw;rw[bK]at this;omega
 |word e f hw hr a=>
  intro x b;obtain⟨t1,t2,t3⟩:=BA hw;rcases ak.1 b with rfl|b
  ·exact⟨t2,OW hw⟩
  ·have:=a x b;rw[bK]at this;omega
theorem gZ.AE{s:bu}{ws:dh}(h:gZ 1 1 s ws)(a:s.length<=65536)(hw:ws.length<=250):Ma ws:=
 ⟨hw,λw hm=>by have:=h.ok w hm;omega,λw hm=>(h.ok w hm).2⟩
theorem Ge(a b c:AV)(h:ah)(q:Option AV)(Q:Option AV->ah->Prop)(e:q=none)(f:∀h',aJ h h'->Q none h'):jS env 37 [a,b,c] h q Q:=by
 subst e;refine jS.mk fn37.1 rfl (et rfl) ?_;refine WS.seq (WS.QF kr ?_);simp[Av,eQ];refine WS.seq (WS.region kr ?_);simp;refine WS.cond ?_;simp;refine WS.plain rfl ?_;simp;exact f _ (aJ.refl _)
theorem Hy{Q:Out->ah->Prop}{r:Nat}{el ec:Int}{h:ah}{X:cB}(g:h.get r=some (.C [.Z,.I el,.I ec,.I 0,.I 0,.I 0,.N]))(hr:r<h.nx)(b:∀x,x∈X->x<h.nx)
 (e:∀id h',BO X h' id []->aJ h h'->Q (.ret (.P id)) h'):ba env 38 [.P r] h Q:=by
 refine wb fn38 rfl ?_;simp[f38];have rn:r≠h.nx:=om
 refine bz (λm x=>m=0/\x.n=31/\x.ds=[]/\x.bX=false/\x.h=(h.alloc (.C [.Z,.I 0])).2/\x.rg.get 0=some (.P r)/\x.rg.get 3=some (.P h.nx)) 0 ?_ ?_
 ·exact⟨rfl,rfl,rfl,rfl,rfl,sp,sp⟩
 rintro m ⟨rg,j,H,ds,bX⟩ ⟨rfl,e1,e2,e3,a,r0,r3⟩
 dsimp only at e1 e2 e3 a r0 r3;subst e1 e2 e3 a;simp[r0,r3,g,rn];refine e _ _ ⟨.Z,0,[],sp,λi=>by have:=b _ i;omega,.inl ⟨rfl,rfl⟩,rfl,sp⟩ ?_;exact kT
theorem BO.yC{X Y:cB}{h h':ah}(s:Move X Y h h'){id:Nat}{cD:nj}(t:BO X h id cD):BO Y h' id cD:=by
 obtain⟨av,n,qs,g,a,b,he,hi⟩:=t;exact⟨av,n,qs,(s.aH _ _ g a).1,(s.aH _ _ g a).2,b.move s,he,λq e=>(hi q e).move s⟩
theorem OX{Q:Out->ah->Prop}{s:bu}{ws:dh}{cD:nj}{b:Nat}{h:ah}(K:s.length<=65536)(hx:gZ 1 1 s ws)(hw:ws.length<=250)(hG:jK b ws cD)(hb:b<=40)(hf:xZ cD<=100)(fr:bP h)
 (hQ:∀id h',BO [] h' id cD->aJ h h'->Q (.ret (.iO [.P id,.agg [.I 0,.I 0],.I 0])) h'):ba env 18 [.str s] h Q:=by
 refine wd fn18 rfl ?_;have ok:=hx.AE K hw;simp[f18];have N:aJ h (((h.alloc (.C [.N])).2.alloc (.C [.I 0,.I 0])).2.alloc (.C [.I 0])).2:=kT;have g2:((((h.alloc (.C [.N])).2.alloc (.C [.I 0,.I 0])).2.alloc (.C [.I 0])).2).get h.nx=some (.C [.N]):=sp
 have g3:((((h.alloc (.C [.N])).2.alloc (.C [.I 0,.I 0])).2.alloc (.C [.I 0])).2).get (h.nx+1)=some (.C [.I 0,.I 0]):=sp
 have g4:((((h.alloc (.C [.N])).2.alloc (.C [.I 0,.I 0])).2.alloc (.C [.I 0])).2).get (h.nx+2)=some (.C [.I 0]):=sp
 have n1:((((h.alloc (.C [.N])).2.alloc (.C [.I 0,.I 0])).2.alloc (.C [.I 0])).2).nx=h.nx+3:=sp
 generalize (((h.alloc (.C [.N])).2.alloc (.C [.I 0,.I 0])).2.alloc (.C [.I 0])).2=h1 at*;have w:=N.fresh fr;refine(N5 s ws h1 K w hx).mono λout t hq=>?_;obtain⟨A,rfl,O,hA,k2⟩:=hq;have n2:=k2.nx;rw[<-k2.old _ om]at g2 g3 g4;simp[g3,g4];have K2:aJ h ((t.set (h.nx+1) (.C [.I 0,.I 0])).set (h.nx+2) (.C [.I 0])):=by
  have:=N.trans k2;exact kT
 have y:((t.set (h.nx+1) (.C [.I 0,.I 0])).set (h.nx+2) (.C [.I 0])).get h.nx=some (.C [.N]):=by simp[g2]
 have B:((t.set (h.nx+1) (.C [.I 0,.I 0])).set (h.nx+2) (.C [.I 0])).get (h.nx+1)=some (.C [.I 0,.I 0]):=sp
 have C:((t.set (h.nx+1) (.C [.I 0,.I 0])).set (h.nx+2) (.C [.I 0])).get (h.nx+2)=some (.C [.I 0]):=sp
 have qA:∀a,A=some a->h.nx+3<=a/\a<t.nx/\((t.set (h.nx+1) (.C [.I 0,.I 0])).set (h.nx+2) (.C [.I 0])).get a=some (.D 5 (eG ws)):=by
  intro a e;obtain⟨a1,a2,a3⟩:=hA a e;refine⟨om,a2,?_⟩;rw[ah.aM,ay om,ah.aM,ay om];exact a3
 have nq:((t.set (h.nx+1) (.C [.I 0,.I 0])).set (h.nx+2) (.C [.I 0])).nx=t.nx:=rfl
 generalize (t.set (h.nx+1) (.C [.I 0,.I 0])).set (h.nx+2) (.C [.I 0])=h3 at*;refine(SI s h3 K).m1 λg D=>?_;have n4:=D.nx;rw[<-D.old _ om]at y B C;have P:∀a,A=some a->h.nx+3<=a/\a<g.nx/\g.get a=some (.D 5 (eG ws)):=λa e=>by
  obtain⟨a1,a2,a3⟩:=qA a e;exact⟨a1,om,(D.old a om).trans a3⟩
 have K4:=K2.trans D;generalize (eR 1 1 s).1=el at*;generalize (eR 1 1 s).2=ec at*;have A1:h.nx+3<=g.nx:=om
 clear D k2 K2 g2 g3 g4 hA qA w N n1 nq n4 n2;have r1:h.nx≠g.nx:=om
 have r2:h.nx+1≠g.nx:=om
 have r3:h.nx+2≠g.nx:=om
 cases A with
 |none=>
  obtain rfl:=O rfl;have R:cD=[]:=by
   cases hG with
   |done=>rfl
   |item hi hr=>
    cases hi with
    |global ht=>exact absurd ht.jx sp
    |func0 ht=>exact absurd ht.jx sp
    |func ht=>exact absurd ht.jx sp
  subst R;simp[pN];have J:aJ h (g.alloc (.C [.Z,.I el,.I ec,.I 0,.I 0,.I 0,.N])).2:=kT;have S:aJ g (g.alloc (.C [.Z,.I el,.I ec,.I 0,.I 0,.I 0,.N])).2:=kT;have g5:(g.alloc (.C [.Z,.I el,.I ec,.I 0,.I 0,.I 0,.N])).2.get g.nx=some (.C [.Z,.I el,.I ec,.I 0,.I 0,.I 0,.N]):=by simp
  have n5:(g.alloc (.C [.Z,.I el,.I ec,.I 0,.I 0,.I 0,.N])).2.nx=g.nx+1:=by simp
  rw[<-S.old _ om]at y B C;generalize (g.alloc (.C [.Z,.I el,.I ec,.I 0,.I 0,.I 0,.N])).2=h5 at*;refine Hy (X:=[g.nx,h.nx,h.nx+1,h.nx+2]) g5 om IN λid j t6 F=>?_;have m:=F.x [g.nx];have g6:=(F.old _ om).trans g5;have s2:=(m.old h.nx om IN).trans y;have U:=(m.old (h.nx+1) om IN).trans B;have V:=(m.old (h.nx+2) om IN).trans C;have n6:=m.nx;have u:aR [g.nx] h j:=(J.x _).trans m;simp[g6,s2];have e1:g.nx≠h.nx:=by omega
  simp[e1,U,V];have I:aJ h (((((j.set h.nx (.C [.P id])).set h.nx (.C [.P id])).set (h.nx+1) (.C [.I 0,.I 0])).set (h.nx+2) (.C [.I 0]))):=by
   have W:aJ h j:=⟨u.nx,λi hi=>u.old i hi IN,u.fresh⟩
   exact kT
  have mv:∀{H:ah}{i:Nat}(o:dK),i∈[g.nx,h.nx,h.nx+1,h.nx+2]->Move [g.nx,h.nx,h.nx+1,h.nx+2] [g.nx,h.nx,h.nx+1,h.nx+2] H (H.set i o):=λo hi=>Move.on o hi;have t7:=t6.yC (((mv (H:=j) (i:=h.nx) (.C [.P id]) sp).comp (mv (i:=h.nx) (.C [.P id]) sp)).comp ((mv (i:=h.nx+1) (.C [.I 0,.I 0]) sp).comp (mv (i:=h.nx+2) (.C [.I 0]) sp)));have Z:(((((j.set h.nx (.C [.P id])).set h.nx (.C [.P id])).set (h.nx+1) (.C [.I 0,.I 0])).set (h.nx+2) (.C [.I 0]))).get h.nx=some (.C [.P id]):=by simp
  have u3:(((((j.set h.nx (.C [.P id])).set h.nx (.C [.P id])).set (h.nx+1) (.C [.I 0,.I 0])).set (h.nx+2) (.C [.I 0]))).get (h.nx+1)=some (.C [.I 0,.I 0]):=by simp
  have u4:(((((j.set h.nx (.C [.P id])).set h.nx (.C [.P id])).set (h.nx+1) (.C [.I 0,.I 0])).set (h.nx+2) (.C [.I 0]))).get (h.nx+2)=some (.C [.I 0]):=by simp
  have nn:h.nx+3<=(((((j.set h.nx (.C [.P id])).set h.nx (.C [.P id])).set (h.nx+1) (.C [.I 0,.I 0])).set (h.nx+2) (.C [.I 0]))).nx:=by show h.nx+3<=j.nx;omega
  generalize ((((j.set h.nx (.C [.P id])).set h.nx (.C [.P id])).set (h.nx+1) (.C [.I 0,.I 0])).set (h.nx+2) (.C [.I 0]))=h7 at*;refine Ge _ _ _ _ _ _ rfl λh8 p=>?_;have v2:=(p.old h.nx om).trans Z;have v3:=(p.old (h.nx+1) om).trans u3;have v4:=(p.old (h.nx+2) om).trans u4;have v:=I.fresh fr;have t8:=(t7.yC (Move.k v p)).yC (Move.less (Y:=[]) sp);simp[fp,v2,v3,v4];exact hQ _ _ t8 (I.trans p)
 |some a=>
  obtain⟨a1,a2,a3⟩:=P a rfl;simp[pN];have J:aJ h (g.alloc (.C [.S a ws.length,.I el,.I ec,.I 0,.I 0,.I 0,.N])).2:=kT;have S:aJ g (g.alloc (.C [.S a ws.length,.I el,.I ec,.I 0,.I 0,.I 0,.N])).2:=kT;have g5:(g.alloc (.C [.S a ws.length,.I el,.I ec,.I 0,.I 0,.I 0,.N])).2.get g.nx=some (.C [.S a ws.length,.I el,.I ec,.I 0,.I 0,.I 0,.N]):=by simp
  have n5:(g.alloc (.C [.S a ws.length,.I el,.I ec,.I 0,.I 0,.I 0,.N])).2.nx=g.nx+1:=by simp
  rw[<-S.old _ om]at y B C a3;generalize (g.alloc (.C [.S a ws.length,.I el,.I ec,.I 0,.I 0,.I 0,.N])).2=h5 at*;have p5:gy g.nx a ws el ec 0 ws 0 0 0 h5:=⟨by rw[g5];rfl,a3,rfl,om,om,om,om,J.fresh fr⟩
  refine J4 hG ok p5 (X:=[g.nx,h.nx,h.nx+1,h.nx+2]) ⟨sp,IN⟩ om om hb om λid k' A2 A3 j t6 p6 m=>?_;have g6:=p6.obj;simp[PO]at g6;have s2:=(m.old h.nx om IN).trans y;have U:=(m.old (h.nx+1) om IN).trans B;have V:=(m.old (h.nx+2) om IN).trans C;have n6:=m.nx;have u:aR [g.nx] h j:=(J.x _).trans m;simp[g6,s2];have e1:g.nx≠h.nx:=by omega
  simp[e1,U,V];have I:aJ h (((((j.set h.nx (.C [.P id])).set h.nx (.C [.P id])).set (h.nx+1) (.C [.I 0,.I 0])).set (h.nx+2) (.C [.I 0]))):=by
   have W:aJ h j:=⟨u.nx,λi hi=>u.old i hi IN,u.fresh⟩
   exact kT
  have mv:∀{H:ah}{i:Nat}(o:dK),i∈[g.nx,h.nx,h.nx+1,h.nx+2]->Move [g.nx,h.nx,h.nx+1,h.nx+2] [g.nx,h.nx,h.nx+1,h.nx+2] H (H.set i o):=λo hi=>Move.on o hi;have t7:=t6.yC (((mv (H:=j) (i:=h.nx) (.C [.P id]) sp).comp (mv (i:=h.nx) (.C [.P id]) sp)).comp ((mv (i:=h.nx+1) (.C [.I 0,.I 0]) sp).comp (mv (i:=h.nx+2) (.C [.I 0]) sp)));have Z:(((((j.set h.nx (.C [.P id])).set h.nx (.C [.P id])).set (h.nx+1) (.C [.I 0,.I 0])).set (h.nx+2) (.C [.I 0]))).get h.nx=some (.C [.P id]):=by simp
  have u3:(((((j.set h.nx (.C [.P id])).set h.nx (.C [.P id])).set (h.nx+1) (.C [.I 0,.I 0])).set (h.nx+2) (.C [.I 0]))).get (h.nx+1)=some (.C [.I 0,.I 0]):=by simp
  have u4:(((((j.set h.nx (.C [.P id])).set h.nx (.C [.P id])).set (h.nx+1) (.C [.I 0,.I 0])).set (h.nx+2) (.C [.I 0]))).get (h.nx+2)=some (.C [.I 0]):=by simp
  have nn:h.nx+3<=(((((j.set h.nx (.C [.P id])).set h.nx (.C [.P id])).set (h.nx+1) (.C [.I 0,.I 0])).set (h.nx+2) (.C [.I 0]))).nx:=by show h.nx+3<=j.nx;omega
  generalize ((((j.set h.nx (.C [.P id])).set h.nx (.C [.P id])).set (h.nx+1) (.C [.I 0,.I 0])).set (h.nx+2) (.C [.I 0]))=h7 at*;refine Ge _ _ _ _ _ _ rfl λh8 p=>?_;have v2:=(p.old h.nx om).trans Z;have v3:=(p.old (h.nx+1) om).trans u3;have v4:=(p.old (h.nx+2) om).trans u4;have v:=I.fresh fr;have t8:=(t7.yC (Move.k v p)).yC (Move.less (Y:=[]) sp);simp[fp,v2,v3,v4];exact hQ _ _ t8 (I.trans p)
end Go.Proofs.YtaekaifihehgdaaGreatDoor
