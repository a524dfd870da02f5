import Derived.Test.YtdmdbgabjcbjiaaGreatDoorA17
import Derived.Test.YtdmdbgabjcbjiaaGreatDoorA18
set_option maxHeartbeats 0
set_option maxRecDepth 100000
set_option linter.all false
namespace Go.Proofs.YtdmdbgabjcbjiaaGreatDoor
open Go.RowKit fD cr hs a7 _root_.Go.Proofs.Tryz
variable{f zh:Bool}{zj n ze Q b t q x:Nat}{p g:bx}{zk:Prop}{z:aj}{e:aD}{A:Nat->Bool}{m r:aq}{w y:Nat->aK}{a u:N}{h:cS}{C a7:aK}{K:Nat->aq}{zf:Qak}{I:Act}{zm:Qal}{P:Qau}{E:aY}{J:Nat->Nat->Nat->Int}{k G zl aM zb:af}{H:bX}{zd zi:Qad}{L za:bU}{s:Nat->Nat}{v:Int}{o:Nat->Option Addr}{F:Qae}(c:N)
structure bG.ou(a:bG)(b:N)(f:Bool):Prop extends a.Ok b where
 cm:a.c=bD a.s a.h f
 yr:∀d:Nat,(d:Int)<fW a.h.t->a.sT b d
 ge:∀c e,c<a.f.w/16->e<a.f.h/16->a.IG c e
 fO:a.f.dd
 is:aT b a.f a.lb
theorem bG.ou.ad{e:bG}{c f:N}{d:Bool}(a:e.ou c d)(b:V [] c f):e.ou f d:=⟨a.toOk.ad b,a.cm,λg ak=>(a.yr g ak).ad b,a.ge,a.fO,a.is.ad b⟩
theorem ahK(c:aj)(b:Nat)(d:aj)(a:N):(Instr.field 322 (fm c b d) 1).run prog a=.ok (X b) a:=ar
theorem IW{j:Nat}{l:Nat->Array Value}{g:aq}{a:aK}:∀b d i,V i b d->(∀c∈zj::bg a,c∉i)->dQ b zj 408 j l/\aT b g a->dQ d zj 408 j l/\aT d g a:=λ_ _ _ k h e=>⟨e.1.S k (h zj U),e.2.S k λc f=>h c jT⟩
def ahL(c:bG)(d:N)(e:Ending)(f:N):Prop:=∃a b,e=.returned (ap b)/\kt c a/\rm c a b/\V [] d f
theorem Um(a:zk:=by
 have zK:zay∉[L,zo]:=by have l:=b.h.ne 1 3 rfl rfl R;have zf:=b.h.ne 1 2 rfl rfl R;simp only at l zf;simp[l,zf]
 have z1:zag∉[L,zo]:=by have l:=b.h.ne 0 3 rfl rfl R;have zf:=b.h.ne 0 2 rfl rfl R;simp only at l zf;simp[l,zf]
 have zJ:=b.ai 1 rfl;have zW:=b.ai 0 rfl;replace b:=b.bd;refine ly (aM:=bA [L,zo]) [] (.inr rfl) [0,1,2,103,104,5] ?_;refine BN (cP _) rfl rfl rfl zJ zK ?_;simp only[az];refine BN aB rfl rfl rfl zW z1 ?_;simp only[az];(first|(refine mf (.inl rfl) rfl rfl rfl ?_;simp only[az])|(refine mg ?_ rfl rfl rfl (λu zaC zax Q t=>?_) ?_;rotate_left;(focus ((go_wp2_with fail)<;>exact t.out));simp only[az]));refine gn λQ t=>?_;refine cv (Q:=ap h) (cP _) (b.ai 3 rfl) (by rw[gX,gX]) (gf _) rfl rfl rfl rfl ?_;intro zbl zc D aQ;replace b:=b.bk 3 zc D;refine t _ _ ((V.refl _ _).trans D λd f=>.inl (by simp[df.1 f])) ?_;clear t Q zc D aQ;simp only[az];refine gn λQ t=>?_;refine cv (Q:=al zr ze) aB (b.ai 2 rfl) rfl (bo _ _) rfl rfl rfl rfl ?_;intro za3 zc D aQ;replace b:=b.bk 2 zc D;refine t _ _ ((V.refl _ _).trans D λd f=>.inl (by simp[df.1 f])) ?_;clear t Q zc D aQ;simp only[az];(first|(refine mf (.inl rfl) rfl rfl rfl ?_;simp only[az])|(refine mg ?_ rfl rfl rfl (λu zaC zax Q t=>?_) ?_;rotate_left;(focus ((go_wp2_with fail)<;>exact t.out));simp only[az]));refine ax ?_;clear zK z1 zJ zW;go_wp2_with fail
 have zA:=b.ha (p::bg ze) (λd f=>by rcases bu.1 f with rfl|f;simp;simp[f]) ⟨b.q.1.1,b.q.2⟩ IW;exact⟨⟨d+1,h,zr,ze,zj+(K:Int),Z,a8,rfl,.inr Z,Y λ_=>Z,Y λ_=>⟨W.out,zl.out⟩,Y (zA.drop 2)⟩,bF⟩):zk:=a
theorem ahM(a:bG)(o:Nat)(zaJ:Bool)(s:ag c o 291 (cW a))(k:a.ou c zaJ)(zG:dD)(aO:aq)(m:aK)(C:aO.dN)(l:aT c aO m)(x z:Nat)(zH:x<a.f.w/16)(zC:z<a.f.h/16)(E:aj)(zD:ig E)(zk:a.h.t=2\/a.h.t=3):Calls prog 239 #[ab o,al aO m,X x,X z,an .i64 8 E] c (ahL a c):=by
 have zd:=Y s;have zm:=Y C;have zV:=Y l;have zaM:=Y k.l;have zaj:=Y zG;have J:=Y k.ID;have z6:=Y k.q;have zz:a.h.t≠1:=Z;have zy:x<=4:=by have:=k.fO.fH;omega
 have zE:z<=4:=by have:=k.fO.fr;omega
 refine TC λP=>?_;have zaE:=Y λe(q:V [] c e)=>ag8 e a o (s.S q U) aO m C (l.ad q) x z zy zE E zD zk λzaz ak=>(k.yr zaz ak).ad q;have zak:=Y λh(n:kt a h)=>vo (a:=a.s) (j:=a.h.a) (c:=(a.q:Int)) k.c k.r (II k.cm n (C1 n) zk (k.ge x z zH zC));have zaV:=Y λe(q:V [] c e) h(n:kt a h)=>Iv e a o (s.S q U) (k.toOk.ad q) zG h x z zy zE (C0 k.c k.cm n (C1 n) zz) (II k.cm n (C1 n) zk (k.ge x z zH zC));have zaA:=Y λe(q:V [] c e) h(n:kt a h)=>T4 e a o (s.S q U) h E (C0 k.c k.cm n (C1 n) zz) zD;clear s C l k zG zD zk zH zC zy zE zz;have b:=ao.nil [] c;go_in;refine AT λzaB zau zaZ zaW zaH zaY zan=>?_;go_wp2_with(first|(clear zaB;refine b.aI _ (al aO m) ?_;clear b;intro zaO zbf b)|(clear zau;refine b.aI _ (an .i64 8 E) ?_;clear b;intro zaX zbh b)|(clear zaZ;refine b.aH (ap λ_=>0) i' ?_;clear b;intro zah za4 b)|(clear zaW;refine b.aH (ap λ_=>0) i' ?_;clear b;intro L zbo b)|(clear zaH;refine b.aH (al eR cN) bY ?_;clear b;intro zo za6 b)|(clear zaY;refine b.ld 4 aB ?_)|(clear zan;refine b.ld 3 (eU _) ?_))
 refine(zaE.out _ b.aa).mono ?_;rintro zn zav ⟨p,w,za7,A,rfl,zbb,zba,zac,zq,i,zX⟩;have z':p<zav.heap.size:=by have:=(zq 0 Z) 0 _ (show(ap (A 0)).toList[0]? =some (.int .i64 (A 0 0))from Tn);exact f' _ _ this
 replace b:=((av.jh b).plus zX (zy:=[p]) (zu:=λe=>dQ e p 408 w λB=>ap (A B)) rJ (by simpa using z') zq λ_ _ _ q zaI zF=>zF.S q (zaI p U)).ha [p] (λ_ G=>G) (zu:=λe=>dQ e p 408 w (λB=>ap (A B))/\aT e eR cN) ⟨zq,Dd _⟩ (IW (g:=eR) (a:=cN));have zar:=Y zac;clear zX zq i z' zac;go_wp2_with fail
 go_loopw [25,13] (λzu aR wr=>∃(d:Nat)(r:aj)(y:aq)(F:aK)(oz:Int),d<=w/\zu=X d/\aR=X oz/\((oz=-1/\d=0)\/(0<=oz/\oz<=1000000))/\Hid (0<=oz->1<=d)/\Hid (1<=d->kt a r/\y.dN)/\Hid (av [] c wr [(zo,71,al y F),(L,233,ap r),(zah,233,ap λ_=>0),(zaX,274,an .i64 8 E),(zaO,71,al aO m)] (p::bg F) λe=>dQ e p 408 w (λB=>ap (A B))/\aT e y F)) (λzu _ _=>w-(intOf zu).toNat)
 .exact⟨0,λ_=>0,eR,cN,-1,Z,rfl,rfl,.inl ⟨rfl,rfl⟩,Y λG=>absurd G Z,Y λG=>absurd G Z,Y b⟩
 .obtain⟨d,r,y,F,oz,f,rfl,rfl,zp,zaL,zL,zQ⟩:=hrel;clear b;have b:=zQ.out;clear zQ;by_cases zaa:d<w
  .have zaR:(d:Int)<(w:Int):=Z;have W:=Y (zar.out d zaa);have zY:=Y λ(e:N)(G:dQ e p 408 w λB=>ap (A B))=>show e.rangeAt p (d*408) (ap (A d)).toList from G d zaa;refine aG (A d) λh n=>?_;rw[n]at W zY;clear n;refine kD λzaS zaK zat zaG=>?_;go_wp2_with(first|(clear zaS;refine lg (cP h) (zY.out _ b.q.1) ?_)|(clear zaK;refine b.aH (ap λ_=>0) i' ?_;clear b;intro zay zbm b)|(clear zat;refine b.aN 0 (ap h) (cP _) (gf _) ?_ (s:=jD);clear b;intro za8 b)|(clear zaG;refine b.ld 0 (cP _) ?_))
   refine aG (im a.c a.s a.h.a a.q h a.hN x z) λzr zS=>?_;have zl:=Y (zak.out h W.out);have zw:=zaV.out _ b.aa h W.out;rw[zS]at zl zw;refine zw.mono ?_;rintro zn zbe ⟨ze,rfl,zT,zR,zP⟩;have zbj:=b.j5 zR zT zl.out.toOk (λd f=>.inr (zP d f));clear b zw zT zR zP zS;rename av _ _ _ _ _ _=>b;skip;refine fE λzaP zaq=>?_;go_wp2_with(first|(clear zaP;refine b.aH (al eR cN) bY ?_;clear b;intro zag zbd b)|(clear zaq;refine b.aN 0 (al zr ze) aB (bo _ _) ?_;clear b;intro zaf b))
   have z8:=λ(zam:Nat) e=>ahK h zam (fi h E) e;have zas:zaf.cell? ⟨o,145,none⟩=some (.int .i64 (a.q:Int)):=(zd.out.S b.aa U).au _|>.trans (by exact h3 6);have zaF:a.q<=31:=z6.out.2;replace b:=b.bd;refine rg [] [0,1,3,4,5,8,9,10,11,102,106,7,12,13,14,15] ?_;refine ax ?_;refine bN (acC _ aO zr m ze zm.out zl.out (zV.out.ad b.aa) b.q.2) ?_;rintro zn zbr ⟨zj,rfl,zbk,zbn,zx⟩;refine⟨_,rfl,zx,?_⟩;simp only[az];replace b:=b.aS zx;clear zx;clear zas zaF;refine bN (zaA.out _ b.aa h W.out) ?_;rintro zn za0 ⟨zI,rfl,zal,zv⟩;refine⟨_,rfl,zv,?_⟩;simp only[az];replace b:=b.aS zv;clear zv;specialize z8 zI;refine aG (zI*a.q) λH I=>?_;have za5:H<=775000:=by rw[<-I];exact eL zal z6.out.2
   have zbi:(zI:Int)*(a.q:Int)=(H:Int):=by rw[<-I];exact(pB _ _).symm
   refine aG (H/2) λK zM=>?_;have za1:(H:Int).tdiv 2=(K:Int):=by rw[<-zM];rfl
   have za9:K<=387500:=Z;clear I zM;refine ax ?_;clear z8;have zbg:0<=zj+(K:Int)/\zj+(K:Int)<=1000000:=Z;rcases zp with⟨rfl,zao⟩|zp
   .clear zao;go_wp2_with fail
    exact Um
   .have zZ:¬oz<0:=Z;by_cases zU:zj+(K:Int)<oz
    .skip;go_wp2_with fail
     clear zU zZ;exact Um
    .skip;go_wp2_with fail
     clear zU zZ;have zA:=b.ha (p::bg F) (λd f=>by rcases bu.1 f with rfl|f;simp;simp[f]) b.q.1 IW;exact⟨⟨d+1,r,y,F,oz,Z,a8,rfl,.inr zp,Y λ_=>Z,Y λ_=>zL.out (zaL.out zp.1),Y (zA.drop 2)⟩,bF⟩
  .have zaR:¬((d:Int)<(w:Int)):=Z;obtain⟨zt,O⟩:=zL.out Z;go_wp2_with fail
   replace b:=b.bd;refine rg [] [0,1,2,3,4,5,6,7,208] ?_;refine lv ?_;refine Un 4 ?_;have zB:=(b.h.n (L,_,_) (bS (i:=1) rfl)).resolve_left U;simp only at zB;have zs:=P.out _ zB;refine iC (Ij _ a o (zd.out.S b.aa U) (zaM.out.ad b.aa) zaj.out L r (b.ai 1 rfl) aO y m F zm.out O (zV.out.ad b.aa) b.q.2 ⟨zs.1,zs.2.1,λd f zaD=>b.a.d d (hQ _ f) (by rw[df.1 zaD];exact ca.2 ⟨_,bS (i:=1) rfl,rfl⟩),zs.2.2⟩ a.s.b J.out.2.2.1 J.out.2.2.2) ?_;rintro zn zbq ⟨za,zN,rfl,zad,zab⟩;refine⟨_,rfl,?_⟩;clear zB zs;replace b:=b.bk 1 zad zab;clear zad zab;refine ax ?_;refine aG (fl r za (h4 a a.s.b aO y za) 6) λzb zh=>?_;rw[zh]at b;refine aG (o5 (h4 a a.s.b aO y za) 6) λH I=>?_;rw[I];have z7:ck ((H=true->rm a r zb)/\rm a r (aV zb 4 0)):=⟨λzF=>zh▸ag2 (H2 zm.out O J.out.2.2.1 J.out.2.2.2 za) zN (I.trans zF),zh▸ag3 (H2 zm.out O J.out.2.2.1 J.out.2.2.2 za)⟩;have zO:=Y zt;clear zh I zN zt O;cases H
   .skip;refine nb λzap zaQ zai=>?_;go_wp2_with(first|(clear zap;refine b.a6 1 (.bool false) (ap (aV zb 4 0)) ?_ (s:=oP _ R rfl) (t:=by first|(rw[ap,gI];decide)|(rw[gI];decide));clear b;intro zbc b)|(clear zaQ;refine b.ld 1 (cP _) ?_)|(clear zai;refine b.aN 2 (ap (aV zb 4 0)) (cP _) (gf _) ?_ (s:=jD);clear b;intro zbp b))
    refine bB (eH rfl (cP _) (b.ai 2 rfl) rfl) ⟨r,_,rfl,zO.out,z7.out.2,b.aa⟩
   .skip;refine fE λzaT zaN=>?_;go_wp2_with(first|(clear zaT;refine b.ld 1 (cP _) ?_)|(clear zaN;refine b.aN 2 (ap zb) (cP _) (gf _) ?_ (s:=jD);clear b;intro za2 b))
    refine bB (eH rfl (cP _) (b.ai 2 rfl) rfl) ⟨r,_,rfl,zO.out,z7.out.1 lS,b.aa⟩
def bG.fC(a:bG)(b:aq)(c:aK):bG:={a with G:=aJ a.G 6 b,Q:=aJ a.Q 6 c}
theorem Uo(c:bG)(e b:aq)(d a:aK):(c.fC e d).fC b a=c.fC b a:=by unfold bG.fC aJ;simp only;congr 1<;>funext x<;>split<;>rfl
theorem Dg{c:bG}{k:N}(a:c.ou k f)(i:aq)(h:aK):(c.fC i h).ou k f where
 l:=a.l
 aQ:=a.aQ
 q:=a.q
 c:=a.c
 r:=a.r
 cm:=a.cm
 yr d ak:=by
  have m:d<2:=by have:=IH (a:=c.h.t);have:(d:Int)<fW c.h.t:=ak;omega
  have l:=a.yr d ak;have e:∀b,b<6->(c.fC i h).G b=c.G b/\(c.fC i h).Q b=c.Q b:=λb j=>⟨M Z,M Z⟩;exact⟨λg=>by rw[(e d Z).1,(e d Z).2];exact l.w g,λg b j=>by rw[(e _ Z).1,(e _ Z).2];exact l.f g b j⟩
 ge:=a.ge
 fO:=a.fO
 is:=a.is
theorem ahN{c:bG}:∀a,a<(a1 c.h).size->(cW c)[139+a]? =(a1 c.h)[a]? :=λa b=>by
 have b:a<6:=b;rw[h3];match a,b with
 |0,_|1,_|2,_|3,_|4,_|5,_=>rfl
theorem ahO(b:bG)(e:aq)(c:aK):cC (cW b) 196 (al e c).toList=cW (b.fC e c):=by
 apply kc;intro a;by_cases l:196<=a/\a<201
 .have g:=pC (i:=cW b) (a:=196) (s:=a-196) (aL:=(al e c).toList) (by rw[o2];exact a' _) Up;rw[show 196+(a-196)=a from Z]at g;have h:=o3 (c:=b.fC e c) 6 R (a-196) Z;rw[show 166+5*6+(a-196)=a from Z]at h;rw[g,h,eo];rfl
 .rw[nR (by rw[o2];exact a' _) Up];by_cases k:a<196
  .by_cases o:a<139
   .by_cases n:a<4
    .have d:=p1 (b:=b) a C8;have f:=p1 (b:=b.fC e c) a C8;rw[c']at d f;rw[d,f];rfl
    .have d:=p0 (c:=b) (a-4) ye;have f:=p0 (c:=b.fC e c) (a-4) (by rw[gr];exact(by omega:a-4<135));rw[show 4+(a-4)=a from Z]at d f;rw[d,f];rfl
   .have d:=h3 (b:=b) (a-139);have f:=h3 (b:=b.fC e c) (a-139);rw[show 139+(a-139)=a from Z]at d f;rw[d,f];refine aG (a-139) λj i=>?_;rw[i];have m:j<57:=Z;unfold bG.k1;simp only[<-b5];rw[eE (by simp[al,bI];omega)];exact(eE (by simp[al,bI];omega)).symm
  .rw[hP C7,hP C7]
theorem Uq{c:Nat}{d:aj}:∀a,a<(ap z).size->(fm z c d)[0+a]? =(ap z)[a]? :=λa b=>by unfold fm;rw[c',b4,eE (by rw[nr];exact b),eo]
theorem ahP{c:Nat}{b:aj}:∀a,a<(an .i64 8 b).size->(fm z c b)[409+a]? =(an .i64 8 b)[a]? :=λa d=>by unfold fm;rw[b4,db (by rw[nr,gX];omega),nr,gX,show 409+a-408=a+1 from Z,dt,eo]
def vB(d:Bool)(c:aq)(b:aK)(a:N):Prop:=d=true->aT a c b
def rr(b:Bool)(a:aK):af:=if b=true then bg a else[]
theorem Ur{a:Bool}{c:aK}:∀d f e,V e d f->(∀b∈rr a c,b∉e)->vB a m c d->vB a m c f:=λ_ _ _ j h g i=>by subst i;exact(g rfl).S j λb k=>h b k
theorem ahQ{c:Bool}{b:aK}{e:N}{d:Nat}(f:c=false->aT e m b/\d∉bg b)(i:V [d] e a)(g:vB c m b a):aT a m b:=by
 cases c
 .exact(f rfl).1.S i λk j h=>(f rfl).2 (by rw[<-df.1 h];exact j)
 .exact g rfl
theorem Us{bK:Nat}(r:fI e g f)(p:o1 e g f h)(u:fW g.t=(bK:Int)){c:Nat}(ak:c<bK){b:Nat}(K:b<2):(fV (bD e g f) h c b).dd/\(il (bD e g f) c b=false->(fV (bD e g f) h c b).h%32=0)/\((ep (bD e g f) h c b).w:Int)=e.W/\((ep (bD e g f) h c b).h:Int)=cc e g/\(g.s=3->e.b8=true->(ep (bD e g f) h c b).h%32=0):=by
 have B:=r.aQ.v;unfold et at B;have J:=Tl r;have L:g.t=2/\bK=1\/g.t=3/\bK=2:=by
  unfold fW at u;split at u
  .rename_i i;exact .inl ⟨i,Z⟩
  .split at u
   .rename_i i;exact .inr ⟨i,Z⟩
   .omega
 have y:∀a:aq,li a e.W e.H->a.w≠0->a.dd/\(a.w:Int)=e.W/\(a.h:Int)=e.H:=λa q z=>by obtain⟨l,n,k⟩:=q.resolve_left z;exact⟨⟨l,Z,Z⟩,n,k⟩
 have D:∀a:aq,a.dd->(a.w:Int)=e.W->(a.h:Int)=e.H->g.s≠3->a.h%32=0/\((cL a b).w:Int)=e.W/\((cL a b).h:Int)=cc e g:=λa l n k d=>by have E:=pU r d;obtain⟨_,C,A⟩:=lJ (c:=b) (show a.gQ from⟨l.toOk,Z⟩) Z;exact⟨Z,Z,by unfold cc;rw[M d];omega⟩
 have whole:∀a:aq,(a.h:Int)=e.H->g.s=3->(a.h:Int)=cc e g:=λa k d=>by unfold cc;rw[ae d];exact k
 have H:(bD e g f).field=(g.s !=3):=rfl;by_cases m:jg (bD e g f) c b=true
 .have q:=m;unfold jg at q;simp only[dB,iz]at q;obtain⟨z,t,w,_⟩:=q;have t:f=true:=t;have w:g.t=2:=w;have d:=r.no t;have E:=pU r d;have j:il (bD e g f) c b=true:=by unfold il;rw[m,Bool.or_true]
  have o:fV (bD e g f) h c b=h.bs:=by unfold fV;rw[M Z,ae m]
  have s:ep (bD e g f) h c b=h.bs:=by unfold ep;rw[ae j,o]
  obtain⟨l,n,k⟩:=p.bs.resolve_left (p.t2 w t);rw[o,s,j];exact⟨⟨l,Z,Z⟩,λi=>Bool.noConfusion i,n,by unfold cc;rw[M d];exact k,λi=>absurd i d⟩
 .have m:jg (bD e g f) c b=false:=by cases i:jg (bD e g f) c b;rfl;exact absurd i m
  obtain⟨a,o,G⟩:∃a,fV (bD e g f) h c b=a/\(a.dd/\(a.w:Int)=e.W/\(a.h:Int)=e.H):=by
   unfold fV;by_cases x:c=1
   .rw[ae x];exact⟨_,rfl,y _ p.bP (p.t3 Z)⟩
   .rw[M x,M (by rw[m];decide)];exact⟨_,rfl,y _ p.bp (p.t1 Z)⟩
  obtain⟨l,n,k⟩:=G;have j:il (bD e g f) c b= !(g.s !=3):=by unfold il;rw[m,H,Bool.or_false]
  by_cases d:g.s=3
  .have j:il (bD e g f) c b=true:=by rw[j,d];rfl
   have s:ep (bD e g f) h c b=a:=by unfold ep;rw[ae j,o]
   rw[o,s,j];exact⟨l,λi=>Bool.noConfusion i,n,whole a k d,λ_ I=>by have:=B.2.2.2.2.2.2.1 I;omega⟩
  .have j:il (bD e g f) c b=false:=by rw[j];simp[d]
   have s:ep (bD e g f) h c b=cL a b:=by unfold ep;rw[M (by rw[j];decide),o]
   obtain⟨C,A,F⟩:=D a l n k d;rw[o,s];exact⟨l,λ_=>C,A,F,λi=>absurd i d⟩
theorem ahR{p:dP}{bK:Nat}{o:N}(x:fI e g f)(zf:o1 e g f h)(J:fW g.t=(bK:Int))(H:1<=n/\n<=31)(W:r.dd)(zi:(r.w:Int)=e.W)(zj:(r.h:Int)=cc e g) (zc:rn e g r K A bK) (P:dA o) (z:hJ o h p) (zb:aT o r C) (G:lk A K y o) (O:∀b∈ll A y,b≠ze) (i:2<=ze) (L:∀b∈bg C++(bg p.bp++(bg p.bP++bg p.bs)),b≠ze) (m:V [ze] o a):(fX e g f n r C h p K y).ou a f where
 l:=P.S m iB
 aQ:=x.aQ
 q:=H
 c:=x.nV
 r:=⟨z.bp.S m λb k=>Dh,z.bP.S m λb k=>Dh,z.bs.S m λb k=>Dh⟩
 cm:=rfl
 yr c ak:=by
  have ak:(c:Int)<fW g.t:=ak;have t:c<bK:=Z;have zh:bK<=2:=by rcases IH (a:=g.t)with b|b|b<;>omega
  have D:∀b,b<7->A b=true->aT a (K b) (y b):=λb k d=>(G b k d).S m λq za=>by simpa using O q (C5 k d za)
  have b:=zc.d c t;refine⟨λB=>?_,λB s F=>?_⟩
  .obtain⟨q,w⟩:=b.w B R;exact⟨w,D c Z q⟩
  .have l:A (2+2*c+s)=true/\(K (2+2*c+s)).Ok:=by
    by_cases j:g.s=3
    .have d:=B.resolve_left (λl=>l j);have zd:e.b8=true:=by unfold jl fX at d;simp only[dB]at d;exact d.1
     exact b.i j zd s F
    .exact b.f j s F
   exact⟨l.2,D _ Z l.1⟩
 ge E Q u i c ak t j he:=by
  have t:(c:Int)<fW g.t:=t;obtain⟨q,w,l,v,I⟩:=Us x zf J (c:=c) Z he;have u:E<r.w/16:=u;have i:Q<r.h/16:=i;have l:((ep (bD e g f) h c j).w:Int)=e.W:=l;refine⟨q,w,?_,?_,λd=>?_⟩
  .show E<(ep (bD e g f) h c j).w/16;rw[show(ep (bD e g f) h c j).w=r.w from Z];exact u
  .show Q<(ep (bD e g f) h c j).h/16;rw[show(ep (bD e g f) h c j).h=r.h from Z];exact i
  .unfold jl fX at d;simp only[dB,iz]at d;exact I d.2 d.1
 fO:=W
 is:=zb.S m λb k=>Dh
theorem Di{a:Nat}{b:aj}:(fm z a b)[408]? =some (.int .i64 (a:Int)):=by unfold fm;rw[b4,db (by rw[nr,gX];exact a' _),nr,gX];rfl
theorem ahS{f:Qav}{e:Qab}{d:Qai}{c:Qaj}{b:Qax}(h:ba (bA []) f zf e 0 d ((a.heap.size,a.heap.size)::c) (I.put b.dst undef) a)(i:Region.wanted b (yielded zf I.tmps)=false:=by rfl):ba (bA []) f zf e 0 ((b,2)::d) c I a:=el λ_ g=>wpList_skip i (g _ _ h)
theorem ahT{f:Qav}{b:Qax}{e:Qaa}{p:Qat}(v:Qas)(g:Qad)(h:cB b zf I)(n:b.op=.box p P)(k:I.eval P=v)(o:v.cells=g) (j:∀c d,ag d c p g->V [] a d->a.heap.size<=c->wpList f zf e zm (I.put b.dst (ab c)) d):wpList f zf e (b::zm) I a:=nf λi l=>by rw[ae h];exact JK
def ahU(a:bG)(d e:Nat)(j:aj)(f:N)(g:Ending)(h:N):Prop:=∃b i,g=.returned (fm b i (fi b j))/\dV a.c b/\om a.c a.hN b d e/\V [] f h/\(a.h.t=1->∃c:Bool,(c=true->jl a=true)/\b=l2 c (h4 a a.s.a (nm a.f d e) (dl 16 16 128 128 128) c))
theorem Ut{aR:Qan}{a:Nat}:om E h (l2 zh aR) a Q:=.inl (l3 zh aR 0)
theorem ahV(a:bG)(E:Nat)(z7:Bool)(I:ag c E 291 (cW a))(k:a.ou c z7)(zr:dD)(p u:Nat)(zc:p<a.f.w/16)(W:u<a.f.h/16)(q:aj)(zG:ig q):Calls prog 203 #[ab E,X p,X u,an .i64 8 q] c (ahU a p u q c):=by
 have zd:=Y I;have zaE:=Y k.l;have zar:=Y zr;have zv:=Y k.ID;have zu:=Y (aY.IE k.cm).symm;have zat:=Y (show a.h.t=1\/a.h.t=2\/a.h.t=3 by have:=k.c.t;rw[k.cm]at this;exact this);have zU:p<=4:=by have:=k.fO.fH;omega
 have z':u<=4:=by have:=k.fO.fr;omega
 have t:=Y (And.intro k.c k.cm);have zW:=Y (k.ge p u zc W);refine aG (nm a.f p u) λaO zC=>?_;have zaK:=Y zC;have J:ck aO.dN:=zC▸aaA k.fO zc W;have zw:=Y λi=>H2 (d:=a) (e:=i) J.out Hf zv.out.1 zv.out.2.1;have zaS:=Y λe(s:V [] c e)=>show Calls prog 234 #[al a.f a.lb,X p,X u] e (jR aO e)from zC▸aaB e a.f a.lb p u k.fO zc W (k.is.ad s);have zaV:=Y λe(s:V [] c e)=>HU e a E (I.S s U);have zS:=Y λe(s:V [] c e) za K(zO:aq.dN za)(zh:aT e za K)=>ag1 e a E (I.S s U) (k.toOk.ad s) zr za K zO zh;have zaH:=Y λe(s:V [] c e)(A:a.h.t=2\/a.h.t=3) za K(zO:aq.dN za)(zh:aT e za K)=>ahM e a E z7 (I.S s U) (k.ad s) zr za K zO zh p u zc W q zG A;have zz:=Y λe(s:V [] c e) zY(ze:dV a.c zY)=>T4 e a E (I.S s U) zY q ze zG;have zav:=Y λ(A:a.h.t=2\/a.h.t=3)=>vo (a:=a.s) (j:=a.h.a) (c:=(a.q:Int)) k.c k.r (IK k.cm A (k.ge p u zc W));have zaM:=Y λe(s:V [] c e)(A:a.h.t=2\/a.h.t=3)=>Iv e a E (I.S s U) (k.toOk.ad s) zr (λ_=>0) p u zU z' (IJ k.c k.cm Z) (IK k.cm A (k.ge p u zc W));have zaz:=Y λe P l(zn:aq.dN P) K(zh:aT e aO K)(zax:aT e P l)=>aaE e aO P K l J.out.toOk zn.toOk (by rw[J.out.eN,zn.eN]) (by rw[J.out.ev,zn.ev]) zh zax;have zaD:=Y λg(zbf:c.heap.size<=g)=>show E∉[g]/\2<=g from⟨by have:=I.lt;simp;omega,Uu⟩;clear I k zr zG zc W zU z' zC;have b:=ao.nil [] c;go_in;go_wp2_with(first|(refine b.aI _ (an .i64 8 q) ?_;clear b;intro zaF zbg b)|(refine b.aH (fm (λ_=>0) 0 λ_=>0) x8 ?_;clear b;intro zaP zbi b)|(refine de (al a.f a.lb) rfl aB (zd.out.S b.aa U) afl rfl rfl ?_))
 refine(zaS.out _ b.aa).mono ?_;rintro w za0 ⟨D,G,x,rfl,zaA⟩;replace b:=b.kE zaA;go_wp2_with fail
 refine b.aW (oo _ aO _) ?_;clear b;intro zbn b;go_wp2_with(first|(refine b.aH (_) bY ?_;clear b;intro zaB za3 b)|(refine b.aN 0 (al aO (bb aO D G x)) aB (bo _ _) ?_;clear b;intro za4 b))
 refine b.aW (zaV.out _ b.aa) ?_;clear b;intro zbk b;by_cases n:a.h.t=1
 .rw[show fW a.h.t=0 by rw[n];rfl];go_wp2_with fail
  refine uO 2 3 104 105 ?_;clear b;intro b;refine bN (zS.out _ b.aa aO (bb aO D G x) J.out (b.fg 1 rfl rfl rfl)) ?_;rintro w za5 ⟨i,H,rfl,zH⟩;refine⟨_,rfl,zH,?_⟩;simp only[az];replace b:=b.aS zH;clear zH;refine bN (zz.out _ b.aa _ (CY t.out.1 (λl=>zu.out▸H l) (zw.out i))) ?_;rintro w zbb ⟨z,rfl,zad,zJ⟩;refine⟨_,rfl,zJ,?_⟩;simp only[az];replace b:=b.aS zJ;clear zJ;refine b.dq 4 (fm (l2 i (h4 a a.s.a aO (dl 16 16 128 128 128) i)) z (fi (l2 i (h4 a a.s.a aO (dl 16 16 128 128 128) i)) q)) (ks _ _ _) (p7 _ _ _) ?_ (r:=vC);clear b;intro zba b;refine ax ?_;go_wp2_with fail
  refine bB (eH rfl (ks _ _ _) (b.ai 4 rfl) rfl) ⟨_,z,rfl,CY t.out.1 (λl=>zu.out▸H l) (zw.out i),Ut,b.aa,λ_=>⟨i,H,zaK.out▸rfl⟩⟩
 .have A:a.h.t=2\/a.h.t=3:=zat.out.resolve_left n;refine aG (fW a.h.t) λbK zK=>?_;have zbh:(bK==0)=false:=by rw[<-zK];rcases A with l|l<;>rw[l]<;>rfl
  rw[zK];have zi:=Y A;have zb:=Y n;clear A zK n;go_wp2_with(first|(refine fU (T:=233) (ap λ_=>0) ?_)|(refine b.aH (ap λ_=>0) i' ?_;clear b;intro zaC zaW b)|(refine b.aN 0 (ap λ_=>0) (cP _) (gf _) ?_;clear b;intro zbr b)|(refine b.ld 0 (cP _) ?_))
  refine aG (im a.c a.s a.h.a a.q (λ_=>0) a.hN p u) λzs zX=>?_;have zx:=Y (zav.out zi.out);have zE:=zaM.out _ b.aa zi.out;rw[zX]at zx zE;refine zE.mono ?_;rintro w zaY ⟨zq,rfl,z6,zV,zT⟩;replace b:=(av.jh b).j5 zV z6 zx.out.toOk (λd f=>.inr (zT d f));clear zE z6 zV zT zX;go_wp2_with(first|(refine b.aH (_) bY ?_;clear b;intro zap zbj b)|(refine b.aN 0 (al zs zq) aB (bo _ _) ?_;clear b;intro zaZ b))
  refine HZ 39 17 (λv e=>∃zD:Bool,v 55=.bool zD/\Hid (av [] c e [(zap,71,al zs zq),(zaC,233,ap λ_=>0),(zaB,71,al aO (bb aO D G x)),(D,5,(aC aO.y).toArray),(G,5,(aC aO.u).toArray),(x,5,(aC aO.v).toArray),(zaP,322,fm (λ_=>0) 0 λ_=>0),(zaF,274,an .i64 8 q)] ([]++bg zq) λe=>True/\aT e zs zq)) ?_ ?_
  .skip;replace b:=b.bd;refine rg [] [0,1,102,3,4,5,7,8,9,10,11,12,13,106,214,15,16] ?_;refine ax ?_;refine bN (zaz.out _ _ _ zx.out _ (b.h.fg 3 rfl rfl rfl) b.q.2) ?_;rintro w zbp ⟨zau,rfl,zN⟩;refine⟨_,rfl,zN,?_⟩;simp only[az];replace b:=b.aS zN;clear zN;cases zau
   .refine jL ?_;refine ra (ap λ_=>0) ?_;simp only[az];refine Un 2 ?_;refine gn λzaq h=>?_;refine ahT _ (ap λ_=>0) rfl rfl rfl rfl ?_;refine ri ?_;clear b;intro zL zaX zaJ zaI zaL b;clear h zaq zaJ zaI zaL;simp only[az];have zF:=(b.h.n (zL,_,_) (bS (i:=0) rfl)).resolve_left U;simp only at zF;have zM:=zaD.out _ zF;have zR:∀d∈bg (bb aO D G x),d∉[zL]:=λd f=>by have zaT:=b.h.d;simp only[cj,jJ,bu,kd]at zaT;have w:d=D\/d=G\/d=x:=uF;rcases w with rfl|rfl|rfl<;>simp only[df]<;>exact λl=>by simp_all
    refine iC (Ij _ a E (zd.out.S b.aa U) (zaE.out.ad b.aa) zar.out zL (λ_=>0) (b.ai 0 rfl) aO zs (bb aO D G x) zq J.out zx.out (b.h.fg 4 rfl rfl rfl) b.q.2 ⟨zM.1,zR,λd f zn=>b.a.d d jT (by rw[df.1 zn];exact ca.2 ⟨_,bS (i:=0) rfl,rfl⟩),zM.2⟩ a.s.b zv.out.2.2.1 zv.out.2.2.2) ?_;rintro w zbo ⟨i,H,rfl,zaf,zae⟩;refine⟨_,rfl,?_⟩;simp only[az];replace b:=b.bk 0 zaf zae;clear zaf zae zF zM zR;generalize o5 (h4 a a.s.b aO zs i) 6=zbl;refine ax ?_;exact⟨lS,ar,_,rfl,Y (b.drop 1)⟩
   .refine to ?_;refine x3 ?_;simp only[az];refine ahS ?_;refine ax ?_;exact⟨lS,ar,_,rfl,Y b⟩
  .rintro v zaN ⟨zD,hu,zP⟩;clear b;have b:=zP.out;clear zP;simp only[rh,List.range',r3,vm,az,Nat.reduceAdd];generalize v 55=zbq at hu;subst hu;cases zD
   .skip;go_wp2_with fail
    refine CV ?_;clear b;intro m o zp b;refine rg [9] [0,1,2,3,4,5,6,107,108,409,210] ?_;refine ax ?_;refine n3 rfl (λe=>mF) (λzo n=>have b:=b.aS n;zaH.out _ b.aa zi.out aO (bb aO D G x) J.out (b.h.fg 3 rfl rfl rfl)) ?_;intro zo n;replace b:=b.aS n;rintro w zao ⟨za1,zm,rfl,ze,zB,L⟩;refine⟨_,rfl,L,?_⟩;simp only[az];replace b:=b.aS L;refine n3 rfl (λe=>mF) (λzo n=>have b:=b.aS n;zz.out _ b.aa zm (C0 t.out.1 t.out.2 ze zB zb.out)) ?_;intro zan zj;replace b:=b.aS zj;rintro w g' ⟨z,rfl,zad,O⟩;refine⟨_,rfl,O,?_⟩;simp only[az];replace b:=b.aS O;clear n L zj O;refine lO _ (fm (λ_=>0) 0 λ_=>0) rfl x8 rfl ?_;intro za2 zas zl z1 zZ;have zA:=km zZ (za:=zaN.heap.size) U;simp only[az];replace b:=b.hE z1 zl (m.off zA) (λP=>absurd (gD (zp _ P) zA) (lf _)) (b7 o zA);clear z1 zl zZ;refine b.dq 0 (fm zm z (fi zm q)) (ks _ _ _) (p7 _ _ _) ?_ (r:=by rw[sR,sR]);clear b;intro zab b;refine ax ?_;clear m o zp zA;go_wp2_with fail
    refine yq λm o zp=>?_;replace b:=b.bd;refine rg [6] [0,1,2,3,104,105,406,207] ?_;refine ax ?_;refine n3 rfl (λe=>mF) (λzo n=>have b:=b.aS n;zS.out _ b.aa aO (bb aO D G x) J.out (b.h.fg 4 rfl rfl rfl)) ?_;intro zo n;replace b:=b.aS n;rintro w zao ⟨i,H,rfl,L⟩;refine⟨_,rfl,L,?_⟩;simp only[az];replace b:=b.aS L;refine n3 rfl (λe=>mF) (λzo n=>have b:=b.aS n;zz.out _ b.aa _ (CY t.out.1 (λl=>zu.out▸H l) (zw.out i))) ?_;intro zan zj;replace b:=b.aS zj;rintro w g' ⟨zk,rfl,zbm,O⟩;refine⟨_,rfl,O,?_⟩;simp only[az];replace b:=b.aS O;clear n L zj O;refine lO _ (fm (λ_=>0) 0 λ_=>0) rfl x8 rfl ?_;intro za7 za8 zaa z8 zac;have zy:=km zac (za:=zab.heap.size) U;simp only[az];replace b:=b.hE z8 zaa (m.off zy) (λP=>absurd (gD (zp _ P) zy) (lf _)) (b7 o zy);clear z8 zaa zac;refine b.dq 0 (fm (l2 i (h4 a a.s.a aO (dl 16 16 128 128 128) i)) zk (fi (l2 i (h4 a a.s.a aO (dl 16 16 128 128 128) i)) q)) (ks _ _ _) (p7 _ _ _) ?_ (r:=by rw[sR,sR]);clear b;intro za9 b;refine ax ?_;clear m o zp zy;refine aG ((l2 i (h4 a a.s.a aO (dl 16 16 128 128 128) i))) λzf zI=>?_;have zag:ck (dV a.c zf/\om a.c a.hN zf p u):=zI▸⟨CY t.out.1 (λl=>zu.out▸H l) (zw.out i),Ut⟩;have zQ:=Y (And.intro (C0 t.out.1 t.out.2 ze zB zb.out) (II t.out.2 ze zB zi.out zW.out));rw[zI]at b;clear zI ze zB H;by_cases zbe:(zk:Int)<(z:Int)
    .skip;have zay:=b.cl 0 408 rfl Di;have zaO:=b.cl 1 408 rfl Di;go_wp2_with(first|(refine b.ld 0 (ks _ _ _) ?_)|(refine b.aN 1 (fm zf zk (fi zf q)) (ks _ _ _) (p7 _ _ _) ?_ (s:=vC);clear b;intro zbc b;clear zay zaO)|(refine b.ld 1 (ks _ _ _) ?_)|(refine b.aN 8 (fm zf zk (fi zf q)) (ks _ _ _) (p7 _ _ _) ?_ (s:=vC);clear b;intro za6 b))
     refine bB (eH rfl (ks _ _ _) (b.ai 8 rfl) rfl) ⟨_,zk,rfl,zag.out.1,zag.out.2,b.aa,λl=>absurd l zb.out⟩
    .skip;have x:=b.cl 0 408 rfl Di;have zaG:=b.cl 1 408 rfl Di;go_wp2_with(first|(refine b.ld 1 (ks _ _ _) ?_)|(refine b.aN 8 (fm zm z (fi zm q)) (ks _ _ _) (p7 _ _ _) ?_ (s:=vC);clear b;intro zbd b;clear x zaG))
     refine bB (eH rfl (ks _ _ _) (b.ai 8 rfl) rfl) ⟨_,z,rfl,zQ.out.1,zQ.out.2,b.aa,λl=>absurd l zb.out⟩
   .skip;go_wp2_with(first|(refine b.ld 7 (eU _) ?_)|(refine b.ld 1 (cP _) ?_))
    refine(zz.out _ b.aa (λ_=>0) (IJ t.out.1 t.out.2 zb.out)).mono ?_;rintro w zas ⟨z,rfl,zad,zl⟩;replace b:=b.aS zl;clear zl;go_wp2_with(refine b.aN 6 (fm (λ_=>0) z (fi (λ_=>0) q)) (ks _ _ _) (p7 _ _ _) ?_ (s:=vC);clear b;intro zab b)
    refine bB (eH rfl (ks _ _ _) (b.ai 6 rfl) rfl) ⟨_,z,rfl,IJ t.out.1 t.out.2 zb.out,IK t.out.2 zi.out zW.out,b.aa,λl=>absurd l zb.out⟩
theorem Uv{e d:Qan}{c:Int}:∀a,(∀b,b<a->e b=d b)->fk e c a=fk d c a
 |0,_=>rfl
 |a+1,g=>by rw[fk,fk,g a Z,Uv a λb f=>g b Z]
theorem Uw{f:aq}{c e:Nat->aq}{d:Nat}:∀a,(∀b,b<a->c b=e b)->hj f c d a=hj f e d a
 |0,_=>rfl
 |a+1,g=>by rw[hj,hj,g a Z,Uw a λb h=>g b Z]
def kT(a:bG)(d e:Nat)(b:aj):Prop:=dV a.c b/\om a.c a.hN b e d/\(a.h.t=1->∃c:Bool,(c=true->jl a=true)/\b=l2 c (h4 a a.s.a (nm a.f e d) (dl 16 16 128 128 128) c))
def nD(a:bG)(b:Nat)(e:Qan)(d:Nat):aq:=hj (a.G 6) (λc=>im a.c a.s a.h.a a.q (e c) a.hN c b) b d
theorem ahW{a:bG}{d:Qan}:nD a Q (aJ d b z) (b+1)=oO (nD a Q d b) b Q (im a.c a.s a.h.a a.q z a.hN b Q):=by
 unfold nD;rw[hj];congr 1
 .exact Uw b λc e=>Ux
 .simp only[aJ,ae]
theorem ahX{d:Int}{a:Qan}:fk (aJ a b z) d (b+1)=fi z (fk a d b):=by rw[fk,sV,Uv (d:=a) b λc e=>Ux]
theorem ahY{d:bG}{e:Qan}(f:∀a,a<b->kT d Q a (e a))(g:kT d Q b z):∀a,a<b+1->kT d Q a (aJ e b z a):=λa h=>by
 unfold aJ;by_cases c:a=b
 .rw[ae c,c];exact g
 .rw[M c];exact f a Z
def ahZ(a:bG)(k:Nat)(i:Bool)(d c:Nat)(j:N)(l:Ending)(h:N):Prop:=∃(b:Qan)(f:Nat)(g:aK),(∀e,e<c->kT a d e (b e))/\l=.returned (.agg (br (1+(d:Int)) (some ⟨f,0,none⟩) (bh (iL (bD a.s a.h i) b a.q c)).length (bh (iL (bD a.s a.h i) b a.q c)).length))/\ag h f 5 (aC (bh (iL (bD a.s a.h i) b a.q c))).toArray/\j.heap.size<=f/\(ag h k 291 (cW (a.fC (nD a d b c) g))/\aT h (nD a d b c) g/\((nD a d b c).dd/\(nD a d b c).w=a.f.w/\(nD a d b c).h=a.f.h)/\(∀e∈bg g,j.heap.size<=e)/\f∉bg g)/\V [k] j h
theorem ah0(a:bG)(n:Nat)(r:Bool)(zb:ag c n 291 (cW a))(s:a.ou c r)(zc:∀g,V [n] c g->a.ou g r)(zn:dD)(m:Nat)(P:m<a.f.h/16)(zB:fI a.s a.h r)(zT:a.s.W=(a.f.w:Int))(zJ:cc a.s a.h=(a.f.h:Int))(zC:(a.G 6).dd/\(a.G 6).w=a.f.w/\(a.G 6).h=a.f.h)(zO:aT c (a.G 6) (a.Q 6))(zw:n∉bg (a.Q 6)):Calls prog 168 #[ab n,X m] c (ahZ a n r m (a.f.w/16) c):=by
 refine aG (a.f.w/16) λi t=>?_;have zt:a.s.W/16=(i:Int):=by rw[zT,<-t];rfl
 have zaB:(a.f.w:Int).tdiv 16=(i:Int):=by rw[<-t];rfl
 have za:1<=i/\i<=4:=by have:=s.fO.fH;have:=s.fO.eN;have:=s.fO.gG;omega
 have zax:=za.2;have zD:=Y s.cm;have zag:=Y zb;have zah:=Y (show 1<=(a.q:Int)/\(a.q:Int)<=31 by have:=s.q;omega);have z:=Y za;have zN:=Y λd(q:d<i)=>show d<a.f.w/16 from Z;have zV:=Y P;have zh:=Y zC;have zx:=Y (And.intro zO zw);have zaF:=Y zb.lt;have zK:m<=4:=by have:=s.fO.fr;omega
 have zaf:=Y λg(E:V [n] c g) f h(D:ag g n 291 (cW (a.fC f h))) d(q:d<i) zF(zac:ig zF)=>ahV g (a.fC f h) n r D (Dg (zc g E) f h) zn d m (by show d<a.f.w/16;omega) P zF zac;have zak:=Y λg(E:V [n] c g) f h(D:ag g n 291 (cW (a.fC f h))) d(q:d<i) k(K:kT a m d k)=>Iv g (a.fC f h) n D (Dg (zc g E) f h).toOk zn k d m Z zK K.1 K.2.1;have z':=Y λd(q:d<i) k(K:kT a m d k)=>vo (a:=a.s) (j:=a.h.a) (c:=(a.q:Int)) s.c s.r K.2.1;have zae:=Y λg J x j(zao:∀o,o<i->dV a.c (j o)) (zai:dQ g J 408 i λA=>ap (j A))=>adT g a.s a.h r (m:Int) a.q J i x j zB ⟨Z,by rw[zJ];omega⟩ s.q zt (λd q=>s.cm▸zao d q) zai;rw[t];clear zb s zc zn P zB zT zJ zC zO zw t zt za zK;have b:=ao.one zag.out;go_in;go_wp2_with(refine b.aH (br 0 none 0 0) jV ?_;clear b;intro zL zaH b;have z1:=b.cl 1 145 (v:=X (a.q:Int)) (g:=by exact h3 6))
 refine b.aW (FR _ (a.q:Int)) ?_;clear b;intro zaI b;clear z1;go_wp2_with(first|(refine b.aH (an .i64 8 λ_=>0) nU ?_;clear b;intro zp zav b)|(refine b.aN 0 (an .i64 8 λo=>if o=0 then(a.q:Int)else 0) (eU _) (e6) ?_;clear b;intro zaN b;have zam:=b.cl 2 146 (v:=X (a.f.w:Int)) (g:=by exact h3 7)))
 clear zam;have zy:=(av.jh b).ha (rr (decide (0<0)) (a.Q 6)) (λd q=>by simp[rr]at q) (zu:=vB (decide (0<0)) (a.G 6) (a.Q 6)) (λe=>absurd e R) Ur;go_loopw [20,5] (λO aR wr=>∃(d:Nat)(j:Qan)(ze:Qae)(x:Nat)(zf:bX)(f:aq)(h:aK),d<=i/\O=X d/\aR=.slice ze d x/\Hid (∀o,o<d->kT a m o (j o))/\Hid (f=nD a m j d/\f.dd/\f.w=a.f.w/\f.h=a.f.h/\(d=0->h=a.Q 6))/\Hid (er 233 408 d (cq (λA=>ap (j A)) d) ze x zf)/\Hid (av [n] c wr ([(zp,274,an .i64 8 (fk j (a.q:Int) d)),(zL,97,br 0 none 0 0),(n,291,cW (a.fC f h))]++zf) (rr (decide (0<d)) h) (vB (decide (0<d)) f h))) (λO _ _=>i-(intOf O).toNat)
 .exact⟨0,λ_ _=>0,none,0,[],a.G 6,a.Q 6,Z,rfl,rfl,Y λ_ e=>absurd e Z,Y ⟨rfl,zh.out.1,zh.out.2.1,zh.out.2.2,λ_=>rfl⟩,Y er.nil,Y (by rw[eG];exact zy)⟩
 .obtain⟨d,j,ze,x,zf,f,h,q,rfl,rfl,I,l,zA,zz⟩:=hrel;clear b zy;have b:=zz.out;clear zz;simp only[dZ,cU]at b;by_cases H:d<i
  .have zaj:(d:Int)<(i:Int):=Z;have z7:=Y (show decide (0<d)=false->aT c f h/\n∉bg h from λe=>by have zW:d=0:=kf;subst zW;exact⟨by rw[l.out.1,l.out.2.2.2.2 rfl];exact zx.out.1,by rw[l.out.2.2.2.2 rfl];exact zx.out.2⟩);go_wp2_with(refine b.ld 0 (eU _) ?_)
   have zv:=zaf.out _ b.aa f h (b.ai 2 rfl) d H (fk j (a.q:Int) d) (Cs zah.out d λo w=>(I.out o w).1);refine zv.mono ?_;rintro zd zay ⟨k,zX,rfl,zQ,zS,zP,zR⟩;replace b:=b.aS zP;have zi:ck (kT a m d k):=⟨zQ,zS,zR⟩;clear zv zP zQ zS zR;go_wp2_with(first|(refine b.aH (fm (λ_=>0) 0 λ_=>0) x8 ?_;clear b;intro zan zaz b)|(refine b.aN 0 (fm k zX (fi k (fk j (a.q:Int) d))) (ks _ _ _) (p7 _ _ _) ?_ (s:=vC);clear b;intro zaM b)|(refine b.cp 0 (ap k) (cP _) ?_ (o:=by exact Uq))|(refine yg k ?_;intro zaa zas zk zr zu;replace b:=b.aP zk zr zu)|(refine av.fR [(zaa,233,ap k),(zan,322,fm k zX (fi k (fk j (a.q:Int) d))),(zp,274,an .i64 8 (fk j (a.q:Int) d)),(zL,97,br 0 none 0 0),(n,291,cW (a.fC f h))] b zA.out (.agg (ap λ_=>0)) 3200 underlying220 uV (gX _) R (r:=1) (aF.ai (C:=408) (e:=1) zk yh) (vs (gf _)) (by have:=z.out;unfold maxLen;omega) (by have:=z.out;omega) Z ?_;clear b;intro zat zaG zaA zaJ b zG;simp only[dZ,cU]at b;clear zk zr zu)|(refine b.cp 1 (an .i64 8 (fi k (fk j (a.q:Int) d))) (eU _) ?_ (o:=by exact ahP))|(refine b.aN 2 (an .i64 8 (fi k (fk j (a.q:Int) d))) (eU _) (e6) ?_;clear b;intro zaE b))
   refine aG ((im a.c a.s a.h.a a.q k a.hN d m)) λu L=>?_;refine aG (oO f d m u) λp y=>?_;have Q:ck u.dN:=L▸z'.out d H k zi.out;have zY:=Y λg(E:V [n] c g)(D:ag g n 291 (cW (a.fC f h)))=>show Calls prog 204 #[ab n,ap k,X d,X m] g (Tr u g)from L▸zak.out g E f h D d H k zi.out;have zs:ck p.dd:=y▸A1 l.out.2.1 Q.out (by rw[l.out.2.2.1];exact zN.out d H) (by rw[l.out.2.2.2.1];exact zV.out);have zZ:=Y λg zm zl(A:aT g f zm)(o:aT g u zl)=>show Calls prog 124 #[al f zm,X d,X m,al u zl] g (jR p g)from y▸Mr g f u zm zl d m l.out.2.1 Q.out (by rw[l.out.2.2.1];exact zN.out d H) (by rw[l.out.2.2.2.1];exact zV.out) A o;have W:ck (p=nD a m (aJ j d k) (d+1)/\p.w=a.f.w/\p.h=a.f.h):=⟨by rw[ahW,L,<-l.out.1,y],by rw[<-y];exact l.out.2.2.1,by rw[<-y];exact l.out.2.2.2.1⟩;clear L y;replace b:=b.bd;refine rg [] [0,1,2,3,4,5,6,7,8,9,10,11,112,113,14,15,116,17,18,219] ?_;refine pk ?_;refine b.hZ 4 (al f h) aB ?_ (o:=by exact(o3 (c:=a.fC f h) 6 R));refine pk ?_;refine b.hZ 1 (ap k) (cP _) ?_ (o:=by exact Uq);refine ax ?_;refine bN (zY.out _ b.aa (b.ai 4 rfl)) ?_;rintro zd zaD ⟨zaK,rfl,zU,cY,zM⟩;refine⟨_,rfl,cY,?_⟩;simp only[az];replace b:=b.j5 cY zU Q.out.toOk λd q=>.inr (zM d q);clear zU cY zM;refine bN (zZ.out _ _ _ (ahQ z7.out b.aa b.q.1) b.q.2) ?_;rintro zd zaq ⟨F,C,a6,rfl,G⟩;refine⟨_,rfl,G.S,?_⟩;replace b:=b.j5 G.S G.is zs.out.toOk G.ge;clear G;refine ax ?_;refine b.ec (oo _ p _) ?_;clear b;intro zaO b;refine ax ?_;refine b.ik 4 (al p (bb p F C a6)) (cW (a.fC p (bb p F C a6))) aB (bo _ _) ?_ (e:=196) (s:=by rw[ahO,Uo]) (u:=by rw[o2];exact c9 rfl);clear b;intro zar b;refine ax ?_;go_wp2_with fail
   have zE:=(b.ha (rr (decide (0<d+1)) (bb p F C a6)) (λo w=>by rw[rr,ae U]at w;simp[w]) (zu:=vB (decide (0<d+1)) p (bb p F C a6)) (λ_=>b.q.2) Ur);rw[<-ahX]at zE;rw[yf]at zG;exact⟨⟨d+1,aJ j d k,_,_,_,p,(bb p F C a6),Z,a8,rfl,Y (ahY I.out zi.out),Y ⟨W.out.1,zs.out,W.out.2.1,W.out.2.2,λe=>absurd e Z⟩,Y zG,Y (zE.drop 2)⟩,bF⟩
  .have zaj:¬((d:Int)<(i:Int)):=Z;obtain rfl:i=d:=Z;rcases zA.out with⟨zW,_⟩|⟨J,zaC,rfl,rfl,zap⟩
   .have:=z.out;omega
   have z6:=b.cl 2 3 (v:=.bool r) (g:=by have:=p1 (b:=a) 3 (a' 4);rw[zD.out]at this;exact this);have zad:=b.cl 2 145 (v:=X (a.q:Int)) (g:=by exact h3 6);go_wp2_with fail
   clear z6 zad;have zal:=b.cl 2 3 (v:=.bool r) (g:=by have:=p1 (b:=a) 3 (a' 4);rw[zD.out]at this;exact this);have zab:=b.cl 2 145 (v:=X (a.q:Int)) (g:=by exact h3 6);replace b:=b.bd;refine rg [] [0,1,2,3,4,5,6,7,8,9,10,11,12,13,14,15,16,17,18,119,20,21,122,223] ?_;refine iX ?_;refine b.hZ 2 (ay a.s) (cH _) ?_ (o:=by exact(p0 (c:=a.fC f h)));refine iX ?_;refine b.hZ 2 (a1 a.h) (cX _) ?_ (o:=by exact(ahN (c:=a.fC f h)));refine ax ?_;refine bN (zae.out _ J x j (λo w=>(I.out o w).1) (dQ.q7 (λ_=>gX _) (aF.nG (mC (b.ai 3 rfl) zap)))) ?_;rintro zd zaL ⟨aA,rfl,zH,zo,zI⟩;refine⟨_,rfl,zo,?_⟩;replace b:=b.aP zH zo zI;clear zH zo zI;clear zal zab;refine ax ?_;refine b.ec (acj _ (X (1+(m:Int))) (.slice (ab aA) (bh (iL (bD a.s a.h r) j a.q i)).length (bh (iL (bD a.s a.h r) j a.q i)).length) (jA _ _)) ?_;clear b;intro zau b;simp only[az];refine b.dq 2 (br (1+(m:Int)) (some ⟨aA,0,none⟩) (bh (iL (bD a.s a.h r) j a.q i)).length (bh (iL (bD a.s a.h r) j a.q i)).length) en (jA _ _) ?_;clear b;intro zaw b;refine ax ?_;go_wp2_with fail
   refine bB (eH rfl en (b.ai 2 rfl) rfl) ⟨j,aA,h,I.out,rfl,b.ai 0 rfl,(b.h.n (aA,_,_) (bS (i:=0) rfl)).resolve_left (by have B:=b.h.ne 0 3 rfl rfl R;simpa using B),?_,b.aa⟩;have z8:rr (decide (0<i)) h=bg h:=by unfold rr;rw[ae (fF (show 0<i by have:=z.out.1;omega))]
   have zj:=b.a.d;have zq:=b.a.n;rw[z8]at zj zq;refine⟨l.out.1▸b.ai 3 rfl,l.out.1▸b.q (fF (show 0<i by have:=z.out.1;omega)),⟨l.out.1▸l.out.2.1,l.out.1▸l.out.2.2.1,l.out.1▸l.out.2.2.2.1⟩,λd q=>?_,λt=>zj _ t (ca.2 ⟨_,bS (i:=0) rfl,rfl⟩)⟩;rcases zq d q with B|B
   .exact absurd (ca.2 ⟨_,bS (i:=3) rfl,(df.1 B).symm⟩) (zj d q)
   .exact B
theorem Uy{j:Qav}{g:Code}{i:Qaa}(cI e:Nat)(d:(Nat->Value)->World->Prop) (l:∀h:Qaa,Hid (∀c b,c=rh cI e (λf=>c.tmps.getD f undef) I->d (λf=>c.tmps.getD f undef) b->h .normal c b)->g.wp j h I a) (m:∀v b,d v b->i .normal (rh cI e v I) b):g.wp j i I a:=HZ cI e d (l _ (Y λ_ _ n k=>⟨rfl,n,k⟩)) m
theorem Uz:dJ 52 (.agg (ct ⟨0,0,0,false,false,false⟩ none 0 0)):=dM
theorem av.grow{m:af}{i:N}{e:Nat}{T:Qat}{j:bU}(l:av m i a H k j)(y:ag u e T zd)(n:V [] a u)(w:a.heap.size<=e)(g:∀b∈G,a.heap.size<=b/\b≠e/\b<u.heap.size)(s:L u)(x:∀o q p,V p o q->(∀b∈G,b∉p)->L o->L q):av m i u ((e,T,zd)::H) (k++G) λa=>j a/\L a:=by
 have d:=l.plus n (λb c=>(g b c).1) (λb c=>(g b c).2.2) s x;have r:=l.aP y n w;refine⟨r.h,⟨λb c f=>?_,d.a.n,d.a.l⟩,d.q,d.s⟩;rcases bc.1 c with h|h
 .exact r.a.d b h f
 .rcases bu.1 f with t|f
  .exact(g b h).2.1 t
  .exact d.a.d b c f
theorem av.ah1{s:af}{q:N}{d:Nat}{T:Qat}{r:bU}(e:av s q a H k r)(i:Nat)(t:H[i]? =some (d,T,zd))(y:ag u d T zi)(g:V [d] a u)(l:∀b∈G,a.heap.size<=b/\b<u.heap.size)(h:L u)(z:∀j o m,V m j o->(∀b∈G,b∉m)->L j->L o):av s q u (H.set i (d,T,zi)) (k++G) λa=>r a/\L a:=by
 have c:=e.put i t y g;refine⟨c.h,⟨λb f w=>?_,λb f=>?_,λb f=>?_⟩,⟨c.q,h⟩,λj o m g p h=>⟨c.s _ _ _ g (λb f=>p b jT) h.1,z _ _ _ g (λb f=>p b jT) h.2⟩⟩
 .rcases bc.1 f with f|f
  .exact c.a.d b f w
  .obtain⟨x,n,rfl⟩:=ca.1 w;have A:x.1<a.heap.size:=by
    rcases ud n with n|rfl
    .exact e.lt n
    .exact e.lt (d:=(d,T,zd)) (bS t)
   have:=(l _ f).1;omega
 .rcases bc.1 f with f|f
  .exact c.a.n b f
  .exact .inr (b7 e.size (l b f).1)
 .rcases bc.1 f with f|f
  .exact c.a.l b f
  .exact(l b f).2
def e4(g:aD)(c:bx)(d:Bool)(a f:Nat)(e:Nat->Nat->Nat->Int)(b:Nat):af:=bh (iL (bD g c d) (e b) a f)
def ys(T:Nat->List Nat)(d:Nat->Nat)(c:Nat)(b:N):Prop:=∀a,a<c->ag b (d a) 5 (aC (T a)).toArray
def qb(T:Nat->List Nat)(b:Nat->Nat)(a:Nat):Qad:=br (1+(a:Int)) (some ⟨b a,0,none⟩) (T a).length (T a).length
def qc(d:aD)(c:bx)(g:Bool)(e j:Nat)(h:cS)(i:Nat->Nat->Nat->Int)(f:aq)(a:Nat):aq:=ew f (λb a=>im (bD d c g) d c.a e (i b a) h a b) j a
def Dj(f:aD)(b:bx)(c:Bool)(a:Nat)(e:aq)(d:cS):bG:=fX f b c a e bR d ⟨bR,bR,bR⟩ (λ_=>bL) λ_=>bR
def sX(l:aD)(f:bx)(g:Bool)(e k i:Nat)(a:aq)(h:cS)(j:Nat->Nat->Nat->Int)(b:aq):Prop:=b=qc l f g e k h j (dl a.w a.h 0 0 0) i/\b.dd/\b.w=a.w/\b.h=a.h/\∀c,c<i->∀d,d<k->kT (Dj l f g e a h) c d (j c d)
def UA(i:aD)(b:bx)(d:Bool)(c h a:Nat)(q:aq)(o:cS)(n:N)(p:Ending)(r:N):Prop:=∃(g:Nat->Nat->Nat->Int)(e:Nat->Nat)(m:Qae)(k:Nat)(j:bX)(f:aq)(a7:aK),p=.returned (.tuple #[ct b m a k,al f a7,X 0])/\sX i b d c h a q o g f/\er 97 2 a (cq (qb (e4 i b d c h g) e) a) m k j/\av [] n r j (bg a7++(List.range a).map e) λl=>aT l f a7/\ys (e4 i b d c h g) e a l
def sY(g:Nat->Bool)(b:Nat->aq)(d:Nat->aK)(e:aq)(a7:aK)(T:Nat->List Nat)(c:Nat->Nat)(f:Nat)(a:N):Prop:=lk g b d a/\aT a e a7/\ys T c f a
def qd(d:Nat->Bool)(c:Nat->aK)(a7:aK)(b:Nat->Nat)(a:Nat):af:=ll d c++(bg a7++(List.range a).map b)
theorem UB{T:Nat->List Nat}{d c:N}{e:af}(j:V e d c)(h:∀g∈(List.range b).map s,g∉e)(i:ys T s b d):ys T s b c:=λa f=>(i a f).S j (h _ (ca.2 ⟨a,fq.2 f,rfl⟩))
theorem UC{T:Nat->List Nat}:∀i h g,V g i h->(∀a∈qd A y a7 s b,a∉g)->sY A K y m a7 T s b i->sY A K y m a7 T s b h:=λ_ _ _ f e d=>⟨vt _ _ _ f (λa c=>e a (bc.2 (.inl c))) d.1,d.2.1.S f λa c=>e a (bc.2 (.inr (bc.2 (.inl c)))),UB f (λa c=>e a (bc.2 (.inr (bc.2 (.inr c))))) d.2.2⟩
theorem ah2{e:af}{d:N}{T:Nat->List Nat}(c:av e d a H (k++ll A y) λa=>True/\lk A K y a)(f:A 6=true):av e d a H (qd A y (y 6) s 0) (sY A K y (K 6) (y 6) T s 0):=c.ha _ (λh b=>bc.2 (.inr (by
 unfold qd at b;simp only[HK,ee,eG]at b;rcases bc.1 b with b|b
 .exact b
 .exact C5 R f b))) ⟨c.q.2,c.q.2 6 R f,λ_ g=>absurd g (fT _)⟩ UC
theorem ah3{r:af}{o:N}{l:aq}{h:aK}{T j:Nat->List Nat}{e:Nat}{n:Qat}(x:av r o a ((ze,n,zd)::H) (qd A y a7 s b) (sY A K y m a7 T s b)) (dp:ag u ze n zi) (t:aT u l h) (z:l.Ok) (B:∀f∈bg h,a.heap.size<=f) (w:ag u e 5 (aC (j b)).toArray) (D:a.heap.size<=e) (k:V [ze] a u) (C:∀d,d<b->j d=T d):av r o u ((ze,n,zi)::H) (qd A y h (aJ s b e) (b+1)) (sY A K y l h j (aJ s b e) (b+1)):=by
 have i:=x.ah1 0 rfl dp k (G:=bg h++[e]) (L:=λa=>aT a l h/\ag a e 5 (aC (j b)).toArray) (λf c=>by
  rcases bc.1 c with c|c
  .exact⟨B f c,t.fv z f c⟩
  .rw[df.1 c];exact⟨D,w.lt⟩) ⟨t,w⟩ λG I F k q p=>⟨p.1.S k λf c=>q f (bc.2 (.inl c)),p.2.S k (q e U)⟩
 refine i.ha _ (λf c=>?_) ⟨i.q.1.1,i.q.2.1,λd E=>?_⟩ UC
 .unfold qd at c⊢;simp only[bc,ca,fq,df]at c⊢;rcases c with c|c|⟨d,E,rfl⟩
  .exact .inl (.inl c)
  .exact .inr (.inl c)
  .unfold aJ;by_cases g:d=b
   .rw[ae g];exact .inr (.inr rfl)
   .rw[M g];exact .inl (.inr (.inr ⟨d,Z,rfl⟩))
 .unfold aJ;by_cases g:d=b
  .rw[ae g,g];exact i.q.2.2
  .rw[M g,C d Z];exact i.q.1.2.2 d Z
theorem UD{c:Qan}:∀a,a<b->e4 e p f n t (aJ J b c) a=e4 e p f n t J a:=λa d=>by unfold e4 aJ;rw[M (show¬a=b from Z)]
theorem UE{a:Qan}:e4 e p f n t (aJ J b a) b=bh (iL (bD e p f) a n t):=by unfold e4 aJ;rw[ae rfl]
theorem ah4{c:Nat}{a:Qan}:cq (qb (e4 e p f n t J) s) b++(br (1+(b:Int)) (some ⟨c,0,none⟩) (e4 e p f n t (aJ J b a) b).length (e4 e p f n t (aJ J b a) b).length).toList=cq (qb (e4 e p f n t (aJ J b a)) (aJ s b c)) (b+1):=by rw[mE,od (b:=qb (e4 e p f n t (aJ J b a)) (aJ s b c)) λd g=>by unfold qb;rw[UD d g];simp only[aJ,M (show¬d=b from Z)]];congr 1;unfold qb;simp only[aJ,ae]
theorem UF{e:aq}{c d:Nat->Nat->aq}{f:Nat}:∀a,(∀b,b<a->c b=d b)->ew e c f a=ew e d f a
 |0,_=>rfl
 |a+1,g=>by rw[ew,ew,g a Z,UF a λb h=>g b Z]
theorem ah5{i:dP}{d:aq}{g:Qan}(c:m=qc e p f n t h J d b):nD ((fX e p f n r C h i K y).fC m a7) b g t=qc e p f n t h (aJ J b g) d (b+1):=by unfold qc;rw[ew,UF (d:=λa b=>im (bD e p f) e p.a n (J a b) h b a) b λa j=>by simp only[aJ,M (show¬a=b from Z)]];unfold qc at c;rw[<-c];simp only[aJ,ae];rfl
theorem ah6{c:dP}(a:kT ((fX e p f n r C h c K y).fC m a7) zj b z):kT (Dj e p f n r h) zj b z:=a
theorem ah7{e:bG}{f:Qan}(h:∀c,c<b->∀a,a<t->kT e c a (J c a))(i:∀a,a<t->kT e b a (f a)):∀c,c<b+1->∀a,a<t->kT e c a (aJ J b f c a):=λc j a g=>by
 unfold aJ;by_cases d:c=b
 .rw[ae d,d];exact i a g
 .rw[M d];exact h c Z a g
theorem ah8(a:Int)(c:Qae)(b d:Nat):wW prog 97 1 [(0,.agg (br a c b d))]=some (br a c b d):=ar
theorem ah9{f:Qax}{j:Qaa}{i:Qau}(e:Int)(d:Qae)(c b:Nat) (l:∀g h,ag h g 97 (br e d c b)->V [] a h->a.heap.size<=g->wpList prog zf j zm (I.put f.dst (.slice (ab g) 1 1)) h) (k:f.guard=none:=by rfl) (n:f.op=.buildSlice 50 1 #[(0,i)]:=by rfl) (m:I.eval i=.agg (br e d c b):=by rfl):wpList prog zf j (f::zm) I a:=e' underlying50 (br e d c b) k n (by simp only[gm,cj,ee,m];exact ah8 e d c b) l
def aia(f:aD)(e:bx)(b:Bool)(d h:Nat)(g:aq)(w:aK)(o:cS)(s:dP)(x:Nat->aq)(r:Nat->aK)(q a:Nat)(k:Nat->Nat->Nat->Int)(l:N)(t:Ending)(j:N):Prop:=∃(i:Qan)(n:Nat)(m:aK)(c:aq),(∀p,p<h->kT (Dj f e b d g o) a p (i p))/\t=.returned (.agg (br (1+(a:Int)) (some ⟨n,0,none⟩) (e4 f e b d h (aJ k a i) a).length (e4 f e b d h (aJ k a i) a).length))/\ag j n 5 (aC (e4 f e b d h (aJ k a i) a)).toArray/\l.heap.size<=n/\ag j q 291 (cW ((fX f e b d g w o s x r).fC c m))/\aT j c m/\(c=qc f e b d h o (aJ k a i) (dl g.w g.h 0 0 0) (a+1)/\c.dd/\c.w=g.w/\c.h=g.h)/\(∀u∈bg m,l.heap.size<=u)/\V [q] l j
theorem aib{k:N}{bK:Nat}{a:aq}{d:dP}(D:fI e p f)(zo:o1 e p f h)(zj:hJ k h d)(I:dA k)(Q:dD)(W:1<=n/\n<=31)(zh:a.dd)(E:(a.w:Int)=e.W)(F:(a.h:Int)=cc e p)(zi:aT k a C)(zq:cc e p/16=(q:Int))(A:a.w/16=t)(zc:fW p.t=(bK:Int))(zb:∀b∈bg C++(bg d.bp++(bg d.bP++bg d.bs)),b<k.heap.size) {m:N} {g:Nat} {l:Nat->aq} {i:Nat->aK} {u:Nat->Bool} {T:Nat->List Nat} {y:Nat->Nat} {c:aq} {a7:aK} {b:Nat} {G:Nat->Nat->Nat->Int} {zd:bX} (o:av [] k m ((g,291,cW ((fX e p f n a C h d l i).fC c a7))::zd) (qd u i a7 y b) (sY u l i c a7 T y b)) (zm:rn e p a l u bK) (H:c=qc e p f n t h G (dl a.w a.h 0 0 0) b/\c.dd/\c.w=a.w/\c.h=a.h) (B:b<q):Calls prog 168 #[ab g,X b] m (aia e p f n t a C h d l i g b G m):=by
 have zr:2<=k.heap.size:=by obtain⟨⟨zs,O⟩,_⟩:=I;exact O.lt
 have w:=o.aa;have J:k.heap.size<=g:=(o.h.n (g,_,_) (hd ..)).resolve_left U;have L:∀j∈qd u i a7 y b,j≠g:=λj s x=>o.a.d j s (by rw[x];simp);have K:∀r,V [g] m r->(fX e p f n a C h d l i).ou r f:=λr z=>ahR D zo zc W zh E F zm (I.ad w) (zj.ad w) (zi.ad w) o.q.1 (λj s=>L j (bc.2 (.inl s))) Z (λb B x=>by have:=zb b B;omega) z;subst A;refine(ah0 m ((fX e p f n a C h d l i).fC c a7) g f (o.ai 0 rfl) (Dg (K m (V.refl _ _)) c a7) (λr z=>Dg (K r z) c a7) Q b (by show b<a.h/16;omega) D E.symm F.symm H.2 o.q.2.1 (λA=>L g (bc.2 (.inr (bc.2 (.inl A)))) rfl)).mono ?_;rintro x r ⟨j,ze,za,s,rfl,zp,J,⟨dp,zk,zl,P,_⟩,cY⟩;rw[Uo]at dp;refine⟨j,ze,za,nD ((fX e p f n a C h d l i).fC c a7) b j (a.w/16),λzn zf=>ah6 (s zn zf),?_,?_,J,dp,zk,⟨ah5 H.1,zl⟩,P,cY⟩
 .rw[UE];rfl
 .rw[UE];exact zp
theorem aic{m:Func}{T k t r:Qat}{h zf c:Nat}{K d f:Tmp}(q:m.results=#[.cell K T,.cell d k,.cell f 36]){b:Qad}(o:bT prog T zd.size)(w:bT prog k zi.size)(z:ag a h t zd)(y:ag a zf r zi)(x:ag a c 36 #[X v]) (l:b.getD K undef=ab h) (j:b.getD d undef=.pointer (some ⟨zf,0,none⟩)) (i:b.getD f undef=ab c):(results m b).run prog a=.ok (.tuple #[zd,zi,X v]) a:=by
 refine UG λg e=>?_;have p:b[f]?.getD undef=ab c:=rJ;have n:a.cell? ⟨c,0,none⟩=some (.int .i64 v):=x.au 0;have u:(loadVar 36 ⟨c,0,none⟩).run prog a=.ok (X v) a:=by simp[loadVar,n,go_sem]
 simp[results,q,g,e,p,asAddr,o.load z,w.load y,u]
section
variable {m k G:af}{c a u:N}{O zc zo:bX}{y L:bU}
theorem av.aid(b:av m c a (O++zc) k y):av (zc.map (·.1)++k) a a zc k y:=
 have d:av m c a zc k y:=by have:=b.drop O.length;rwa[wF]at this
 d.CL
theorem av.join(i:av m c a (O++zc) k y)(h:av (zc.map (·.1)++k) a u zo G L):av m c u (O++zo) G L:=by
 have ak:=i.h.d;rw[hf,IX]at ak;have r:=i.CM;have l:∀e∈zc.map (·.1)++k,e∈m\/c.heap.size<=e:=λe g=>r e (by rw[hf,b5];exact bc.2 (.inr g));have n:∀d∈O,d.1∉zc.map (·.1)++k:=λd b f=>by
  rcases bc.1 f with f|f
  .exact ak.2.2 _ (ca.2 ⟨d,b,rfl⟩) _ f rfl
  .exact i.a.d _ f (ca.2 ⟨d,bc.2 (.inl b),rfl⟩)
 have o:∀d∈O,d.1<a.heap.size:=λd b=>i.lt (bc.2 (.inl b));have j:∀e,(e∈zc.map (·.1)++k\/a.heap.size<=e)->e∉O.map (·.1)/\(e∈m\/c.heap.size<=e):=λe g=>by
  rcases g with g|g
  .exact⟨λf=>by obtain⟨d,b,rfl⟩:=ca.1 f;exact n d b g,l e g⟩
  .exact⟨λf=>by obtain⟨d,b,rfl⟩:=ca.1 f;have:=o d b;omega,.inr (b7 i.size g)⟩
 refine⟨⟨i.aa.trans h.aa l,λd b=>?_,?_,λd b=>?_⟩,⟨λe g f=>?_,λe g=>(j e (h.a.n e g)).2,h.a.l⟩,h.q,h.s⟩
 .rcases bc.1 b with b|b
  .exact(i.h.b d (bc.2 (.inl b))).S h.aa (n d b)
  .exact h.h.b d b
 .rw[hf,IX];refine⟨ak.1,h.h.d,λt q w s p=>?_⟩;obtain⟨d,b,rfl⟩:=ca.1 s;exact(j _ (h.h.n d b)).1 (p▸q)
 .rcases bc.1 b with b|b
  .exact i.h.n d (bc.2 (.inl b))
  .exact(j _ (h.h.n d b)).2
 .rw[hf]at f;rcases bc.1 f with f|f
  .exact(j e (h.a.n e g)).1 f
  .exact h.a.d e g f
end
structure bJ where
 s:aD
 cF:Bool
 aH:Bool
 dj:Bool
 q:Nat
 n:Nat
 rs:Qae
 yt:Nat
 ru:Qae
 IY:Nat
 sZ:Qae
 qe:Nat
 gY:aq
 gZ:aK
 fb:aq
 cn:aK
 fst:Int
def k0(b:aD)(a:Qam):Qad:=(cO b++a).toArray
def bJ.k1(a:bJ)(d:Qae)(c b:Nat):Qam:=.bool a.cF::.bool a.aH::.bool a.dj::.int .i64 (a.q:Int)::.slice a.rs a.n a.yt::.slice a.ru a.n a.IY::.slice d c b::.slice a.sZ a.n a.qe::((al a.gY a.gZ).toList++((al a.fb a.cn).toList++[.int .i64 a.fst]))
def dH(a:bJ)(d:Qae)(c b:Nat):Qad:=k0 a.s (a.k1 d c b)
theorem aie{c:Qam}:∀a,a<(ay e).size->(k0 e c)[0+a]? =(ay e)[a]? :=λa b=>by rw[gr]at b;unfold k0 ay;rw[c',b4,eE x0,b4]
theorem aif{b:Qam}(a:Nat):(k0 e b)[135+a]? =b[a]? :=by unfold k0;rw[b4,db sL,iP,ki]
theorem aih{a:Qam}:(k0 e a).size=135+a.length:=by unfold k0;rw[mW,aZ,iP]
theorem UH{b:Qam}(a:Nat)(v:Qas):(k0 e b).setIfInBounds (135+a) v=k0 e (b.set a v):=by unfold k0;rw[cb,List.set_append,M sL,iP,ki]
theorem UI{b:Qam}(a:Nat)(aL:Qam):cC (k0 e b) (135+a) aL=k0 e (b.take a++aL++b.drop (a+aL.length)):=by unfold k0 cC;rw[List.take_append,E4,iP,ml sL,AW sL,show 135+a-135=a from Z,show 135+a+aL.length-135=a+aL.length from Z,cU,b5,b5,b5]
section
variable {d:bJ}{o zp:Qae}{b E zr zq:Nat}
theorem aii:∀a,a<(ay d.s).size->(dH d o b E)[0+a]? =(ay d.s)[a]? :=aie
theorem iv(a:Nat):(dH d o b E)[135+a]? =(d.k1 o b E)[a]? :=aif a
theorem mQ:(dH d o b E).size=154:=aih
theorem Dk:(dH d o b E).setIfInBounds 141 (.slice zp zr zq)=dH d zp zr zq:=UH 6 _
theorem UJ:(dH d o b E).setIfInBounds 153 (X v)=dH {d with fst:=v} o b E:=UH 18 _
theorem UK{a:aK}:cC (dH d o b E) 143 (al r a).toList=dH {d with gY:=r,gZ:=a} o b E:=UI 8 _
theorem UL{a:aK}:cC (dH d o b E) 148 (al r a).toList=dH {d with fb:=r,cn:=a} o b E:=UI 13 _
theorem aij:∀a,a<(al d.fb d.cn).size->(dH d o b E)[148+a]? =(al d.fb d.cn)[a]? :=λa c=>by
 rw[show 148+a=135+(13+a)from Z,iv];match a,c with
 |0,_|1,_|2,_|3,_|4,_=>rfl
end
def kU(e:N)(h:Qae)(b:List (List Nat))(f:af):Prop:=∃(c:Nat)(d g:Nat->Nat),h=some ⟨c,0,none⟩/\c∈f/\dQ e c 2 b.length (λa=>br (1+(a:Int)) (some ⟨d a,0,none⟩) (b.getD a []).length (g a))/\∀a,a<b.length->d a∈f/\ag e (d a) 5 (aC (b.getD a [])).toArray
theorem kU.is{c:Qae}{d:List (List Nat)}(g:kU a c d k):oZ a c d:=by obtain⟨e,h,f,i,_,j,m⟩:=g;exact⟨e,λb=>some ⟨h b,0,none⟩,f,i,j,λb l=>.aP (m b l).2⟩
theorem kU.S{f k:N}{h:Qae}{j:List (List Nat)}{c g:af}(p:kU f h j c)(m:V g f k)(i:∀a∈c,a∉g):kU k h j c:=by obtain⟨e,q,o,r,l,n,b⟩:=p;exact⟨e,q,o,r,l,n.S m (i e l),λa d=>⟨(b a d).1,(b a d).2.S m (i _ (b a d).1)⟩⟩
theorem kU.mono{d:Qae}{f:List (List Nat)}(l:kU a d f k)(e:∀b∈k,b∈G):kU a d f G:=by obtain⟨i,m,j,n,o,h,c⟩:=l;exact⟨i,m,j,n,e _ o,h,λb g=>⟨e _ (c b g).1,(c b g).2⟩⟩
def ku(b:List aE)(d:Nat->Option Addr)(e:af)(c:N):Prop:=∀a,a<b.length->(bq b a).bE≠[]->kU c (d a) (bq b a).bE e
def dX(m:af)(l c:N)(k:bX)(o:Nat)(j:bJ)(b:List aE)(p:af)(n:bU):Prop:=∃(e:Qae)(f:Nat)(h:bX)(d:Nat->Option Addr)(i:Nat->Nat)(g:af),av m l c (k++((o,126,dH j e b.length f)::h)) (g++p) (λc=>ku b d g c/\n c)/\er 54 148 b.length (cq (λa=>cd j.s (bq b a) (d a) (i a) 0) b.length) e f h/\∀a,a<b.length->(bq b a).bE=[]->d a=none/\i a=0
section
variable {m:af}{c a u:N}{O:bX}{W:Nat}{d:bJ}{l:List aE}{D:af}{B:bU}
theorem dX.yu(b:dX m c a O W d l D B):V m c a:=Rx
theorem UM{a:Prop}(b:a)(c:a->zk:=by intro C;refine⟨_,⟨p,t,o,q,r,u,f.aid,s⟩,λe b=>f.aa.trans b λz G=>f.CM z (by rw[hf,b5];exact bc.2 (.inr G)),?_⟩;exact C):zk:=c b
theorem dX.aW(n:dX m c a O W d l D B):∃h,dX h a a [] W d l D B/\(∀e,V h a e->V m c e)/\∀e i k j g,dX h a e [] W i k j g->dX m c e O W i k j g:=by obtain⟨p,t,o,q,r,u,f,s⟩:=n;refine UM ?_;rintro e i k j g ⟨H,E,A,F,w,y,I,x⟩;exact⟨H,E,A,F,w,y,f.join I,x⟩
theorem dX.aik{x w:bX}(y:dX m c a (x++w) W d l D B):∃h,dX h a a w W d l D B/\(∀e,V h a e->V m c e)/\∀e n i k j g,dX h a e n W i k j g->dX m c e (x++n) W i k j g:=by obtain⟨p,t,o,q,r,u,f,s⟩:=y;rw[b5]at f;refine UM ?_;rintro e n i k j g ⟨K,I,H,J,A,F,L,E⟩;refine⟨K,I,H,J,A,F,?_,E⟩;rw[b5];exact f.join L
def fL(e:af)(c:bU):Prop:=∀a d b,V b a d->(∀f∈e,f∉b)->c a->c d
theorem fL.and{h:bU}(l:fL k h)(m:fL G L):fL (k++G) λf=>h f/\L f:=λe j g i d c=>⟨l e j g i (λa b=>d a (bc.2 (.inl b))) c.1,m e j g i (λa b=>d a (bc.2 (.inr b))) c.2⟩
theorem fL.fg{y:aK}:fL (bg y) λc=>aT c r y:=λ_ _ _ d b a=>a.S d b
theorem IZ{a:aE}(c:b<l.length):bq (l++[a]) b=bq l b:=by unfold bq;rw[b9,eE c,<-b9]
theorem I0{a:aE}:bq (l++[a]) l.length=a:=by unfold bq;rw[b9,db (a' _),lF];rfl
theorem Dl{x:Qae}{y j:Nat}{u:bX}{h:Nat->Nat}{e:aE}(t:av m c a (O++((W,126,dH d x (l.length+1) y)::u)) (k++D) λa=>(ku l o k a/\(e.bE≠[]->kU a F e.bE k))/\B a) (E:er 54 148 (l.length+1) (cq (λb=>cd d.s (bq l b) (o b) (h b) 0) l.length++(cd d.s e F j 0).toList) x y u) (G:∀b,b<l.length->(bq l b).bE=[]->o b=none/\h b=0) (q:e.bE=[]->F=none/\j=0) (aU:fL D B):dX m c a O W d (l++[e]) D B:=by
 have s:(l++[e]).length=l.length+1:=U;have r:∀b,b<l.length->aJ o l.length F b=o b/\aJ h l.length j b=h b:=λb i=>⟨M Z,M Z⟩;have n:aJ o l.length F l.length=F/\aJ h l.length j l.length=j:=⟨ae rfl,ae rfl⟩;have C:∀a,(ku l o k a/\(e.bE≠[]->kU a F e.bE k))->ku (l++[e]) (aJ o l.length F) k a:=λa p b i f=>by
  rw[s]at i;by_cases g:b<l.length
  .rw[IZ g]at f⊢;rw[(r b g).1];exact p.1 b g f
  .obtain rfl:b=l.length:=Z;rw[I0]at f⊢;rw[n.1];exact p.2 f
 refine⟨x,y,u,aJ o l.length F,aJ h l.length j,k,?_,?_,λb i f=>?_⟩
 .rw[s];exact t.conv ⟨C _ t.q.1,t.q.2⟩ λH J I d z p=>⟨λb i f=>(p.1 b i f).S d λe q=>z e (bc.2 (.inl q)),aU _ _ _ d (λe q=>z e (bc.2 (.inr q))) p.2⟩
 .rw[s,mE,od (b:=λb=>cd d.s (bq l b) (o b) (h b) 0) λA w=>by rw[IZ w,(r A w).1,(r A w).2],I0,n.1,n.2];exact E
 .rw[s]at i;by_cases g:b<l.length
  .rw[IZ g]at f;rw[(r b g).1,(r b g).2];exact G b g f
  .obtain rfl:b=l.length:=Z;rw[I0]at f;rw[n.1,n.2];exact q f
theorem ail(d:ku l o k a)(e:∀b∈k,b∈G):ku l o G a:=λb f c=>(d b f c).mono e
theorem yv{c:af}(e:ku l o k a)(h:V c a u)(f:∀b∈k,b∉c):ku l o k u:=λb g d=>(e b g d).S h f
theorem UN{c:af}(a:b∈(c++zl)++aM):b∈c++(aM++zl):=by
 rcases bc.1 a with a|a
 .rcases bc.1 a with a|a
  .exact bc.2 (.inl a)
  .exact bc.2 (.inr (bc.2 (.inr a)))
 .exact bc.2 (.inr (bc.2 (.inl a)))
theorem aim{c d:af}(a:b∈(c++zl)++(aM++d)):b∈(c++aM)++(zl++d):=by
 rcases bc.1 a with a|a
 .rcases bc.1 a with a|a
  .exact bc.2 (.inl (bc.2 (.inl a)))
  .exact bc.2 (.inr (bc.2 (.inl a)))
 .rcases bc.1 a with a|a
  .exact bc.2 (.inl (bc.2 (.inr a)))
  .exact bc.2 (.inr (bc.2 (.inr a)))
theorem ain{f:bX}{x:Nat}{T:Nat->List Nat}(y:av m c a H (k++D) λa=>ku l o k a/\B a) (i:av [] a u f (bg a7++(List.range q).map s) λa=>aT a r a7/\ys T s q a) (p:er 97 2 q (cq (qb T s) q) F x f) (L:0<q) (aU:fL D B):av m c u H ((k++(f.map (·.1)++(List.range q).map s))++(D++bg a7)) λa=>(ku l o (k++(f.map (·.1)++(List.range q).map s)) a/\((List.range q).map T≠[]->kU a F ((List.range q).map T) (k++(f.map (·.1)++(List.range q).map s))))/\(B a/\aT a r a7):=by
 have w:∀b,b<q->((List.range q).map T).getD b []=T b:=λb d=>by simp[b9,d]
 have J:kU u F ((List.range q).map T) (f.map (·.1)++(List.range q).map s):=by
  have z:=av.row (zt:=[]) i p;rcases p with⟨Q,_⟩|⟨G,K,rfl,rfl,O⟩
  .omega
  .refine⟨G,s,λb=>(T b).length,rfl,U,?_,λb d=>?_⟩
   .rw[ju,nP];intro b d;have:=dQ.q7 (zq:=2) (r:=qb T s) (λP=>rfl) z b d;simp only;rw[w b d];exact this
   .rw[ju,nP]at d;rw[w b d];exact⟨bc.2 (.inr (ca.2 ⟨b,fq.2 d,rfl⟩)),i.q.2 b d⟩
 have n:=y.plus (zy:=(f.map (·.1)++(List.range q).map s)++bg a7) (zu:=λa=>kU a F ((List.range q).map T) (f.map (·.1)++(List.range q).map s)/\aT a r a7) i.aa (λb d=>(i.xX b (UN d)).1) (λb d=>(i.xX b (UN d)).2) ⟨J,i.q.1⟩ λC I t g h e=>⟨e.1.S g λb d=>h b (bc.2 (.inl d)),e.2.S g λb d=>h b (bc.2 (.inr d))⟩;have A:∀a,((ku l o k a/\B a)/\kU a F ((List.range q).map T) (f.map (·.1)++(List.range q).map s)/\aT a r a7)->(ku l o (k++(f.map (·.1)++(List.range q).map s)) a/\((List.range q).map T≠[]->kU a F ((List.range q).map T) (k++(f.map (·.1)++(List.range q).map s))))/\(B a/\aT a r a7):=λa e=>⟨⟨ail e.1.1 λb d=>bc.2 (.inl d),λ_=>e.2.1.mono λb d=>bc.2 (.inr d)⟩,e.1.2,e.2.2⟩;refine n.ha _ (λb d=>aim d) (A _ n.q) λC I t g h e=>?_;have j:∀b∈k++(f.map (·.1)++(List.range q).map s),b∉t:=λb d=>h b (bc.2 (.inl d));exact⟨⟨yv e.1.1 g j,λE=>(e.1.2 E).S g j⟩,aU _ _ _ g (λb d=>h b (bc.2 (.inr (bc.2 (.inl d))))) e.2.1,e.2.2.S g λb d=>h b (bc.2 (.inr (bc.2 (.inr d))))⟩
theorem I1(b:av m c a H ((k++D)++zb) λa=>(ku l o k a/\B a)/\za a)(aU:fL D B)(p:fL zb za):av m c a H (k++(D++zb)) λa=>ku l o k a/\(B a/\za a):=b.ha _ (λr j=>by rw[b5];exact j) ⟨b.q.1.1,b.q.1.2,b.q.2⟩ λi q n g f h=>⟨yv h.1 g λd e=>f d (bc.2 (.inl e)),aU.and p i q n g (λd e=>f d (bc.2 (.inr e))) h.2⟩
theorem UO(i:av m c a H (k++D) λa=>ku l o k a/\B a)(r:fL zb za)(p:∀e∈zb,e∈D)(d:za a):av m c a H (k++zb) λa=>ku l o k a/\za a:=i.ha _ (λe b=>by rcases bc.1 b with b|b;exact bc.2 (.inl b);exact bc.2 (.inr (p e b))) ⟨i.q.1,d⟩ λn s q j h d=>⟨yv d.1 j λf g=>h f (bc.2 (.inl g)),r n s q j (λf g=>h f (bc.2 (.inr g))) d.2⟩
end
theorem UP(a:zk:=by
 refine b.aW (zaD.out _) ?_;clear b;intro zaQ b;go_wp2_with fail
 exact zas.out _ _ ar ⟨ar,Y b⟩):zk:=a
theorem aio(a:aD)(e:bx)(g:Bool)(i x o bK:Nat)(f:aq)(w:aK)(p:cS)(q:dP)(F:fI a e g)(za:o1 a e g p)(zn:hJ c p q)(zM:dA c)(zm:dD)(zae:1<=i/\i<=31)(m:f.dd)(zF:(f.w:Int)=a.W)(zq:(f.h:Int)=cc a e)(zai:aT c f w)(zh:cc a e/16=(o:Int))(zW:f.w/16=x)(zr:fW e.t=(bK:Int))(zab:∀d∈bg w++(bg q.bp++(bg q.bP++bg q.bs)),d<c.heap.size):Calls prog 132 #[ay a,a1 e,.bool g,al f w,bI p q,X i] c (UA a e g i x o f p c):=by
 have zav:=Y λ(d:g=true)=>F.no d;have zaL:=Y λc=>xG c a e g F;have zaD:=Y λc=>RJ c (i:Int) Z Z;have zaJ:=Y λc=>show Calls prog 118 #[ay a,a1 e] c λz zE=>z=.returned (X o)/\V [] c zE by have:=Cq c a e g F;rwa[zh]at this
 have zaf:cc a e=16*(o:Int):=by rw[<-zh,<-zq];have:=m.ev;omega
 have zaB:=Y λc=>show Calls prog 82 #[al f w,X a.W,X (16*(o:Int))] c λz zE=>z=.returned (.bool true)/\V [] c zE by have:=RK c f w m.toOk;rwa[zF,zq,zaf]at this
 have zan:=Y λB(W:V [] c B)=>agU B a e g p q o F za (zn.ad W) zh;have zat:=Y λB(W:V [] c B)=>ahc B a e g i f w p q bK F m.toOk (zn.ad W) zr (λzau ak z zax=>by obtain⟨t,zaw,_,_,zao⟩:=Us F za zr (c:=zau) ak (b:=z) zax;exact⟨t,zaw,zao⟩);have zaC:=Y λ(B:N)(J:Nat)(H:Nat->aq)(A:Nat->aK)(zl:Nat->Bool)(T:Nat->List Nat)(C:Nat->Nat)(u:aq)(a7:aK)(d:Nat)(r:Nat->Nat->Nat->Int)(zap:bX)=>aib (m:=B) (g:=J) (l:=H) (i:=A) (u:=zl) (T:=T) (y:=C) (c:=u) (a7:=a7) (b:=d) (G:=r) (zd:=zap) F za zn zM zm zae m zF zq zai zh zW zr zab;have zay:ck ((dl f.w f.h 0 0 0).dd/\(dl f.w f.h 0 0 0).w=f.w/\(dl f.w f.h 0 0 0).h=f.h):=⟨⟨sg m.gG m.fH m.kC m.iY m.fr m.he R R R,m.eN,m.ev⟩,rfl,rfl⟩;have zaS:(o:Int)<=4:=by have:=m.fr;omega
 have zO:=Y (show 1<=o/\o<=4 by have:=m.iY;have:=m.ev;have:=m.fr;omega);clear F za zn zM zm zae m zF zq zai zh zW zab zaf zr;have b:=ao.nil [] c;go_enter_defers Tryz.func132,Tryz.ntmps132;apply wp_seq_k;intro zw y;have zk:=Y y;clear y;go_wp2_with(first|(refine b.aI _ (ay a) ?_;clear b;intro zB zaE b)|(refine b.aI _ (a1 e) ?_;clear b;intro zH zaF b)|(refine b.aI _ (al f w) ?_;clear b;intro zt zaR b)|(refine b.aI _ (bI p q) ?_;clear b;intro zA zbd b)|(refine b.aH (ct ⟨0,0,0,false,false,false⟩ none 0 0) Uz ?_;clear b;intro G zaU b)|(refine b.aH eh bY ?_;clear b;intro P zaV b)|(refine b.aH (#[X 0]) (v:=X 0) ar ?_;clear b;intro L za9 b))
 refine zk.out _ _ ?_;clear zk;apply wp_seq_k;intro zw y;have zk:=Y y;clear y;go_wp2_with fail
 refine zk.out _ _ ?_;clear zk;apply wp_seq_k;intro zw y;refine Uy 22 17 (λv B=>v 38=.bool false/\Hid (ao [] c B [(L,36,#[X 0]),(P,71,eh),(G,52,ct ⟨0,0,0,false,false,false⟩ none 0 0),(zA,131,bI p q),(zt,71,al f w),(zH,48,a1 e),(zB,26,ay a)])) ?_ ?_
 .clear y;intro zbc zas;go_wp2_with(first|(refine b.ld 6 (cH _) ?_)|(refine b.ld 5 (cX _) ?_))
  refine b.aW (zaL.out _) ?_;clear b;intro zbe b;have zC:=zav.out;have j:=b.ah 5 1;cases g
  .clear j zC;go_wp2_with fail
   exact UP
  .have zo:(e.s==3)=false:=by simpa using zC rfl
   clear zC;go_wp2_with fail
   clear j zo;exact UP
 .rintro v zbb ⟨hu,zJ⟩;clear b;have b:=zJ.out;clear zJ;simp only[rh,List.range',r3,vm,az,Nat.reduceAdd];generalize v 38=zaN at hu;subst hu;refine y _ _ ?_;clear y zw;go_wp2_with(first|(refine b.ld 6 (cH _) ?_)|(refine b.ld 5 (cX _) ?_))
  refine b.aW (zaJ.out _) ?_;clear b;intro zaO b;refine xI 6 λj=>?_;go_wp2_with(refine b.ld 4 aB ?_)
  refine b.aW (zaB.out _) ?_;clear b;intro za5 b;clear j;go_wp2_with(first|(refine b.ld 6 (cH _) ?_)|(refine b.ld 5 (cX _) ?_)|(refine fU (T:=52) (ct e none 0 0) ?_)|(refine b.ld 3 (lr _ _) ?_))
  refine(zan.out _ b.aa).mono ?_;rintro z za4 ⟨zz,zs,za3,rfl,zag⟩;replace b:=b.aS zag;clear zag;go_wp2_with(first|(refine b.aH eh bY ?_;clear b;intro z8 zaT b)|(refine b.aN 0 (al zz zs) aB (bo _ _) ?_;clear b;intro zaZ b)|(refine b.ld 7 (cH _) ?_)|(refine b.ld 6 (cX _) ?_)|(refine b.ld 5 aB ?_)|(refine b.ld 4 (lr _ _) ?_))
  refine(zat.out _ b.aa).mono ?_;rintro z za0 ⟨J,H,A,zl,rfl,z7,ze,zX,zQ,zT,zaa⟩;replace b:=(av.jh b).grow (L:=lk zl H A) ze zaa z7 zT zQ vt;have zx:=Y zX;clear z7 ze zX zQ zT zaa;go_wp2_with(first|(refine b.ld 7 (cX _) ?_)|(refine b.stM 4 (a1 e) (#[X e.t,X e.s,X e.aa,.bool e.f,.bool e.r,.bool e.a,.slice none 0 0,.slice none 0 0]) (cX _) (og _) ?_ (d:=0);clear b;intro zaM b))
  have zS:=ah2 (T:=e4 a e g i x λ_ _ _=>0) (s:=λ_=>0) b zx.out.r.2;clear b;go_loopw [78] (λzu wr=>∃(d:Nat)(r:Nat->Nat->Nat->Int)(C:Nat->Nat)(Q:Qae)(zb:Nat)(zp:bX)(u:aq)(a7:aK),d<=o/\zu=X d/\Hid (∀zi,zi<d->∀zy,zy<x->kT (Dj a e g i f p) zi zy (r zi zy))/\Hid (u=qc a e g i x p r (dl f.w f.h 0 0 0) d/\u.dd/\u.w=f.w/\u.h=f.h)/\Hid (er 97 2 d (cq (qb (e4 a e g i x r) C) d) Q zb zp)/\Hid (av [] c wr ([(J,291,cW ((fX a e g i f w p q H A).fC u a7)),(z8,71,al zz zs),(L,36,#[X 0]),(P,71,eh),(G,52,ct e Q d zb),(zA,131,bI p q),(zt,71,al f w),(zH,48,a1 e),(zB,26,ay a)]++zp) (qd zl A a7 C d) (sY zl H A u a7 (e4 a e g i x r) C d))) (λzu _=>o-(intOf zu).toNat)
  .exact⟨0,λ_ _ _=>0,λ_=>0,none,0,[],H 6,A 6,Z,rfl,Y λ_ zaH=>absurd zaH Z,Y (by rw[zx.out.r.1];exact⟨rfl,zay.out⟩),Y er.nil,Y (by rw[eG];exact zS)⟩
  .obtain⟨d,r,C,Q,zb,zp,u,a7,zba,rfl,zR,zf,zV,zU⟩:=hrel;clear zS;have b:=zU.out;clear zU;simp only[dZ,cU]at b;by_cases zaK:d<o
   .have zaG:(d:Int)<(o:Int):=Z;go_wp2_with fail
    have j:=b.ah 4 7;have zac:G∉[J]:=by have zd:=b.ne 4 0 rfl rfl R;simp only at zd;simp[zd]
    have zam:=oa (C:=[J]) j zac;replace b:=b.bd;refine ly (aM:=bA [J]) [] (.inr rfl) [0,1,2,3,104,105,206,7,208] ?_;refine ax ?_;refine bN (zaC.out _ _ _ _ _ _ _ _ _ _ _ _ b zx.out zf.out zaK) ?_;rintro z zaY ⟨t,zG,zad,zZ,I,rfl,zY,zN,dp,zP,zI,z6,cY⟩;refine⟨_,rfl,cY,?_⟩;simp only[az];have zaA:=Y I;have zaq:=Y zI;replace b:=ah3 (j:=e4 a e g i x (aJ r d t)) b dp zP zI.2.1.toOk z6 zY zN cY (λzi za=>UD zi za);clear I zI zY zN dp zP z6 cY j zam zac;refine gn λs h=>?_;refine ah9 (1+(d:Int)) (some ⟨zG,0,none⟩) (e4 a e g i x (aJ r d t) d).length (e4 a e g i x (aJ r d t) d).length ?_;intro zaz zaP zD zv zL;replace b:=b.aP zD zv zL;refine h _ _ zv.up ?_;clear h s;simp only[az];refine el λs h=>?_;refine av.fR [(zaz,97,br (1+(d:Int)) (some ⟨zG,0,none⟩) (e4 a e g i x (aJ r d t) d).length (e4 a e g i x (aJ r d t) d).length),(J,291,cW ((fX a e g i f w p q H A).fC zZ zad)),(z8,71,al zz zs),(L,36,#[X 0]),(P,71,eh),(G,52,ct e Q d zb),(zA,131,bI p q),(zt,71,al f w),(zH,48,a1 e),(zB,26,ay a)] b zV.out (br 0 none 0 0) 32 underlying50 Sq rfl R (r:=1) (aF.ai (C:=2) (e:=1) zD rfl) (vs (jA _ _)) (by have:=zO.out;unfold maxLen;omega) (by have:=zO.out;omega) Z ?_;refine sN ?_;clear b zD zv zL h s;intro l k za1 E n b;refine el λs h=>?_;refine b.a6 5 (.slice (ab l) (d+1) k) (ct e (some ⟨l,0,none⟩) (d+1) k) ?_ (d:=7);clear b;intro za7 b;refine h _ _ ?_;clear h s;refine ax ?_;go_wp2_with fail
    rw[ah4]at n;exact⟨⟨d+1,aJ r d t,aJ C d zG,_,_,_,zZ,zad,Z,a8,Y (ah7 zR.out zaA.out),zaq,Y n,Y (b.drop 1)⟩,bF⟩
   .have zaG:¬((d:Int)<(o:Int)):=Z;obtain rfl:o=d:=Z;go_wp2_with fail
    have z1:J∉[G,P,L]:=by have zd:=b.ne 0 4 rfl rfl R;have zah:=b.ne 0 3 rfl rfl R;have zo:=b.ne 0 2 rfl rfl R;simp only at zd zah zo;simp[zd,zah,zo]
    have ze:=b.ai 0 rfl;replace b:=b.bd;refine ly (aM:=bA [G,P,L]) [] (.inr rfl) [1,2,3,4,100,105,106,107] ?_;refine iX ?_;refine xd (aL:=al u a7) aB ze z1 (by exact o3 (c:=(fX a e g i f w p q H A).fC u a7) 6 R) rfl rfl rfl ?_;simp only[az];clear z1 ze;refine gn λs h=>?_;refine b.ld 4 lu ?_;refine h _ _ (V.refl _ _) ?_;clear h s;simp only[az];refine gn λs h=>?_;refine cv (Q:=ct e Q o zb) lu (b.ai 4 rfl) rfl (xJ _ _ _ _) rfl rfl rfl rfl ?_;intro za2 zj O aQ;replace b:=b.bk 4 zj O;refine h _ _ (O.mono U) ?_;clear h s zj O aQ;simp only[az];refine gn λs h=>?_;refine cv (Q:=al u a7) aB (b.ai 3 rfl) rfl (bo _ _) rfl rfl rfl rfl ?_;intro zaW zj O aQ;replace b:=b.bk 3 zj O;refine h _ _ (O.mono U) ?_;clear h s zj O aQ;simp only[az];refine gn λs h=>?_;have zar:=(b.ai 2 rfl).eA 0;have zaI:=b.ah 2 0;obtain⟨z',aU⟩:=(b.ai 2 rfl).hc 0 (X 0);replace b:=b.bk 2 z' aU;have zK:=Y aU;clear z' aU;go_wp2_with fail
    refine h _ _ (zK.out.mono U) ?_;clear h s zK zar zaI;try simp only[az]
    refine ax ?_;go_wp2_with fail
    refine BL (f:=166) (args:=#[ab G,ab P,ab L]) U (by simp[go_sem]) ?_;refine(ae7 ⟨G,0,none⟩ ⟨P,0,none⟩ ⟨L,0,none⟩ _).mono ?_;rintro z za8 zaX ⟨rfl,rfl,rfl⟩;refine⟨_,aic rfl lu aB (b.ai 4 rfl) (b.ai 3 rfl) (b.ai 2 rfl) rfl rfl rfl,r,C,Q,zb,zp,u,a7,rfl,⟨zf.out.1,zf.out.2.1,zf.out.2.2.1,zf.out.2.2.2,zR.out⟩,zV.out,?_⟩;exact(b.drop 9).ha _ (λt I=>bc.2 (.inr I)) ⟨b.q.2.1,b.q.2.2⟩ λzaE zaF za6 W zm i=>⟨i.1.S W λt I=>zm t (bc.2 (.inl I)),UB W (λt I=>zm t (bc.2 (.inr I))) i.2⟩
structure qf(d:N)(c:aD)(a:bx)(h:Bool)(f k yw bK:Nat)(b:aq)(g:aK)(i:cS)(e:dP):Prop where
 pc:fI c a h
 yx:o1 c a h i
 vD:hJ d i e
 Dm:dA d
 rv:1<=f/\f<=31
 I2:b.dd
 hw:(b.w:Int)=c.W
 kV:(b.h:Int)=cc c a
 aip:aT d b g
 vE:cc c a/16=(yw:Int)
 hm:b.w/16=k
 qg:fW a.t=(bK:Int)
 yy:∀j∈bg g++(bg e.bp++(bg e.bP++bg e.bs)),j<d.heap.size
theorem qf.kN{bK:Nat}{d:aq}{c:dP}(b:qf a e p f n t q bK d C h c):0<q:=by have:=b.vE;have:=b.kV;have:=b.I2.iY;have:=b.I2.ev;omega
theorem qf.aW{bK:Nat}{c:aq}{d:dP}(b:qf a e p f n t q bK c C h d)(g:dD):Calls prog 132 #[ay e,a1 p,.bool f,al c C,bI h d,X n] a (UA e p f n t q c h a):=aio a e p f n t q bK c C h d b.pc b.yx b.vD b.Dm g b.rv b.I2 b.hw b.kV b.aip b.vE b.hm b.qg b.yy
theorem UQ{e:af}{f c d a:Nat}(g:∀b∈e,b<f\/(c<=b/\b<d))(j:f<=a)(i:a<c\/d<=a):a∉e:=λh=>by have:=g a h;omega
def aiq(j:af)(p:Nat)(a:bJ)(k:List aE)(r:af)(l:bU)(b:bx)(f:Bool)(h g:Nat)(q:aq)(m:cS)(i:N)(n:Ending)(o:N):Prop:=∃(d:Nat->Nat->Nat->Int)(c:aq)(a7:aK),n=.returned (al c a7)/\sX a.s b f a.q h g q m d c/\dX j i o [] p a (k++[.cD b ((List.range g).map (e4 a.s b f a.q h d))]) (r++bg a7) (λe=>l e/\aT e c a7)
theorem yz(J:af)(G:Nat)(e:bJ)(A:List aE)(D:af)(w:bU)(a:bx)(t:Bool)(u f bK:Nat)(z:aq)(zb:aK)(x:cS)(W:dP)(P:dX J c c [] G e A D w)(aU:fL D w)(zN:dD)(zL:A.length<=20)(zn:∀q,V J c q->w q->qf q e.s a t e.q u f bK z zb x W):Calls prog 83 #[ab G,a1 a,.bool t,al z zb,bI x W] c (aiq J G e A D w a t u f z x c):=by
 obtain⟨zr,zq,z8,zA,zG,zU,b,zO,zR⟩:=P;simp only[cU]at b;have zp:=Y (zn c (V.refl _ _) b.q.2).kN;have zV:=Y λq(d:V J c q)(zM:w q)=>(zn q d zM).aW zN;have zl:=Y zO;have zK:=Y zR;have zk:=Y aU;refine aG A.length λlen zm=>?_;have p:=Y (And.intro zm zL);rw[zm]at b zl;go_in;go_wp2_with(first|(refine b.aI _ (a1 a) ?_;intro zJ z' b)|(refine b.aI _ (al z zb) ?_;intro zS zaa b)|(refine b.aI _ (bI x W) ?_;intro zs zX b)|(refine b.aH eh bY ?_;intro zE zj b))
 have zY:=b.cl 4 138 (v:=X (e.q:Int)) (g:=by exact iv 3);refine yq λm o y=>?_;replace b:=b.bd;refine rg [17,18] [0,1,2,3,4,5,6,7,8,9,10,11,112,13,14,315,316,417,418,219,220,21] ?_;refine iX ?_;refine b.hZ 4 (ay e.s) (cH _) ?_ (o:=by exact aii);refine ax ?_;refine n3 rfl (λq=>mF) (λv P=>zV.out _ (b.aS P).aa (b.aS P).q.2) ?_;rintro zI zt zab zu ⟨za,zx,i,j,zT,L,a7,rfl,zC,zy,zf⟩;replace b:=b.aS zt;refine⟨_,rfl,zf.aa,?_⟩;simp only[az];have zv:=Y zC;have zo:∀d∈(zU++(zT.map (·.1)++(List.range f).map zx))++(D++bg a7),d<zj.heap.size\/(zI.heap.size<=d/\d<zu.heap.size):=λd g=>by
  have zc:=y d;have O:=zf.xX d;simp only[bc]at g zc O;rcases g with(g|g|g)|g|g
  .exact .inl (zc (.inl g))
  .exact .inr (O (.inl g))
  .exact .inr (O (.inr (.inr g)))
  .exact .inl (zc (.inr g))
  .exact .inr (O (.inr (.inl g)))
 replace b:=ain b zf zy zp.out zk.out;refine ax ?_;refine lO _ (ct ⟨0,0,0,false,false,false⟩ none 0 0) rfl Uz rfl ?_;intro s zZ zB zz I;have zi:=km I (za:=zj.heap.size) U;simp only[az];have zH:=UQ zo zi Qi;replace b:=b.hE zz zB (m.off zi) zH (b7 o zi);refine lO _ eh rfl bY rfl ?_;intro zh z1 zw zD H;have ji:=km H (za:=zj.heap.size) U;simp only[az];have zQ:=UQ zo ji (by simp only[lq,bu]at H;exact H _ (.inr (.inl rfl)));replace b:=b.hE zD zw (sq.cons (d:=0) (a:=(s,_,_)) (m.off ji) (by have:zh<s\/s+1<=zh:=H (s,s+1) U;omega)) zQ (b7 o ji);refine b.dq 1 (ct a i f j) lu (xJ _ _ _ _) ?_;intro zac b;simp only[az];refine b.dq 0 (al L a7) aB (bo _ _) ?_;intro z6 b;refine ax ?_;go_wp2_with fail
 have zP:=b.cl 6 141 (v:=.slice zr len zq) (g:=by exact iv 6);replace b:=b.bd;refine rg [] [300,1,2,3,4,5,6,107,208,9,10,211] ?_;refine lx ?_;refine b.fw 1 lu ?_;simp only[az];refine rf (bW 3 b6 false 0 a i f j 0) ?_;simp only[az];refine gn λzd h=>?_;refine e' underlying35 (bW 3 b6 false 0 a i f j 0) rfl rfl ar ?_;refine ri ?_;clear b;intro F Q r B C b;clear h zd zP;simp only[az];refine el λzd h=>?_;refine av.fR [(F,54,bW 3 b6 false 0 a i f j 0),(zh,71,al L a7),(s,52,ct a i f j),(zE,71,eh),(zs,131,bI x W),(zS,71,al z zb),(zJ,48,a1 a),(G,126,dH e zr len zq)] b zl.out (bW 0 b6 false 0 dS none 0 0 0) 296 underlying35 vi (kq ..) R (r:=1) (aF.ai (C:=148) (e:=1) r (by rw[kq])) (o6 (l1 ..)) I3 Co Z ?_;refine sN ?_;clear b r B C h zd;intro l k K E n b;refine b.h0 7 (.slice (ab l) (len+1) k) (dH e (some ⟨l,0,none⟩) (len+1) k) ?_ (e:=141) (r:=Dk) (t:=by rw[mQ];exact c9 rfl);intro z7 b;refine ax ?_;go_wp2_with(first|(refine b.ld 1 aB ?_)|(refine b.aN 3 (al L a7) aB (bo _ _) ?_;intro zW b))
 obtain⟨rfl,_⟩:=p.out;refine bB (eH rfl aB (b.ai 3 rfl) rfl) ⟨za,L,a7,rfl,zv.out,Dl (e:=.cD a ((List.range f).map (e4 e.s a t e.q u za))) (F:=i) (j:=j) (o:=zA) (h:=zG) (b.drop 7) ?_ zK.out (λze=>?_) (zk.out.and fL.fg)⟩
 .have zF:cd e.s (.cD a ((List.range f).map (e4 e.s a t e.q u za))) i j 0=bW 3 b6 false 0 a i f j 0:=by unfold cd;simp only[aE.bE,ju,nP];rfl
  rw[zF];exact n
 .have ze:(List.range f).map (e4 e.s a t e.q u za)=[]:=ze;have:=aX List.length ze;simp only[ju,nP,dv]at this;have:=zp.out;omega
def gB(a:bJ)(b c:Int):bx:=⟨b,3,c,a.dj,false,a.aH⟩
def cG(a:bJ)(b c:Int)(d:Nat):bx:=⟨b,1+(d:Int),c,a.dj,false,a.aH⟩
def bJ.dG(a:bJ):Nat:=if a.dj=true then 0 else 1
def fo(b:aD)(a:bx):Nat:=(cc b a/16).toNat
def kv(b:bJ)(a:bx)(c:Bool)(e:Nat)(d:Nat->Nat->Nat->Int):aE:=.cD a ((List.range (fo b.s a)).map (e4 b.s a c b.q e d))
def kW(a:bJ)(b c:Int)(d:Nat)(e:aq)(h:cS)(l:List aE)(f:aq):Prop:=(a.cF=false->∃m,sX a.s (gB a b c) false a.q d (fo a.s (gB a b c)) e h m f/\l=[kv a (gB a b c) false d m])/\(a.cF=true->∃j k g i,sX a.s (cG a b c a.dG) false a.q d (fo a.s (cG a b c a.dG)) (cL e a.dG) h j g/\sX a.s (cG a b c (1-a.dG)) true a.q d (fo a.s (cG a b c (1-a.dG))) (cL e (1-a.dG)) {h with bs:=g} k i/\l=[kv a (cG a b c a.dG) false d j,kv a (cG a b c (1-a.dG)) true d k]/\f=if a.dj=true then gH g i else gH i g)/\f.Ok/\f.w=e.w/\f.h=e.h
structure nE(d:N)(a:bJ)(e h:Int)(k:Nat)(c:aq)(i:aK)(b:cS)(g:dP):Prop where
 aQ:ho a.s
 s0:1<=e/\e<=3
 yA:0<=h/\h<=1023
 b8:a.s.b8=true\/(a.cF=false/\a.dj=true)
 Dm:dA d
 rv:1<=a.q/\a.q<=31
 ry:c.Ok
 hw:(c.w:Int)=a.s.W
 kV:(c.h:Int)=a.s.H
 hm:c.w/16=k
 f:aT d c i
 bp:li b.bp a.s.W a.s.H
 bP:li b.bP a.s.W a.s.H
 t1:e≠1->b.bp.w≠0
 t3:e=3->b.bP.w≠0
 vD:hJ d b g
 bs:b.bs=bL/\g.bs=bR
 yy:∀j∈bg i++(bg g.bp++bg g.bP),j<d.heap.size
section
variable {a:N}{d:bJ}{j i:Int}{t:Nat}{P:aq}{zn:aK}{h:cS}{w:dP}
theorem nE.Dn(b:nE a d j i t P zn h w):P.dd/\(d.cF=true->P.gQ/\P.h%32=0):=by have c:=b.aQ.v;unfold et at c;have f:=b.hw;have e:=b.kV;refine⟨⟨b.ry,Z,Z⟩,λl=>?_⟩;exact UR
theorem US{a:Int}(b:1<=a/\a<=3):∃bK:Nat,fW a=(bK:Int):=by
 unfold fW;split
 .exact⟨1,rfl⟩
 .split
  .exact⟨2,rfl⟩
  .exact⟨0,rfl⟩
theorem nE.whole(b:nE a d j i t P zn h w)(n:d.cF=false):∃bK,qf a d.s (gB d j i) false d.q t (fo d.s (gB d j i)) bK P zn h w:=by
 obtain⟨bK,k⟩:=US b.s0;have e:cc d.s (gB d j i)=d.s.H:=UT;have m:=b.aQ.v;unfold et at m;exact⟨bK,⟨b.aQ,⟨b.s0,⟨I4,I5⟩,b.yA⟩,b.b8.imp id λg=>⟨rfl,g.2,rfl⟩,λf=>Bool.noConfusion f⟩,⟨b.bp,b.bP,.inl (by rw[b.bs.1];rfl),b.t1,b.t3,λ_ f=>Bool.noConfusion f⟩,b.vD,b.Dm,b.rv,b.Dn.1,b.hw,by rw[e];exact b.kV,b.f,vF,b.hm,k,λl c=>b.yy l (by
  rw[b.bs.2]at c;simp only[bc]at c⊢;rcases c with c|c|c|c
  .exact .inl c
  .exact .inr (.inl c)
  .exact .inr (.inr c)
  .simp[bg,bR]at c)⟩
theorem nE.s3(b:nE a d j i t P zn h w)(l:d.cF=true){c:Nat}(H:c<=1)(u:Bool){x:aK}(s:aT a (cL P c) x)(p:aq)(r:aK)(D:aT a p r)(B:li p d.s.W (d.s.H/2))(G:u=true->p.w≠0)(C:∀g∈bg r,g<a.heap.size):∃bK,qf a d.s (cG d j i c) u d.q t (fo d.s (cG d j i c)) bK (cL P c) x {h with bs:=p} {w with bs:=r}:=by
 obtain⟨bK,F⟩:=US b.s0;refine UU λm e o=>?_;unfold et at o;obtain⟨I,L⟩:=b.Dn.2 l;obtain⟨z,q,y⟩:=lJ (c:=c) I H;refine I6 λk=>?_;have O:=b.kV;have K:=b.Dn.1.eN;exact⟨bK,⟨b.aQ,⟨b.s0,⟨I7,I8⟩,b.yA⟩,.inl k,λ_=>m⟩,⟨b.bp,b.bP,B,b.t1,b.t3,λ_ E=>G E⟩,⟨b.vD.bp,b.vD.bP,D⟩,b.Dm,b.rv,⟨z,by rw[q];exact K,by rw[y];omega⟩,by rw[q];exact b.hw,by rw[e,y];omega,s,vF,by rw[q];exact b.hm,F,λg f=>by
  simp only[bc]at f;rcases f with f|f|f|f
  .exact s.fv z g f
  .exact b.yy g jT
  .exact b.yy g jT
  .exact C g f⟩
end
def Dp(g:af)(o:Nat)(d:bJ)(h:List aE)(q:af)(i:bU)(j m:Int)(p:Nat)(e:aq)(k:cS)(f:N)(l:Ending)(n:N):Prop:=∃(a:List aE)(b:aq)(a7:aK),l=.returned (al b a7)/\kW d j m p e k a b/\a.length<=2/\dX g f n [] o d (h++a) (q++bg a7) (λc=>i c/\aT c b a7)
def qh(b:aq)(c:aK)(a:aq)(d:aK):Qad:=((al b c).toList++(al a d).toList).toArray
theorem air(o:af)(n:Nat)(g:bJ)(k:List aE)(l:af)(e:bU)(d:Nat)(i j:Int)(r:Nat)(h:aq)(J:aK)(f:cS)(p:dP)(Q W zl zf:Nat)(z:g.cF=false)(zB:g.rs=some ⟨Q,W,none⟩)(G:g.ru=some ⟨zl,zf,none⟩)(zW:d<g.n/\g.n<=256)(zY:(d:Int)-g.fst=j)(zP:0<=g.fst/\g.fst<=256)(ze:dX o c c [] n g k l e)(aU:fL l e)(zu:dD)(zd:k.length<=18) (zs:∀a,V o c a->a.rangeAt Q (W+d*5) (al h J).toList/\a.cell? ⟨zl,zf+d,none⟩=some (.int .i64 i)) (I:∀a,V o c a->e a->nE a g i j r h J f p):Calls prog 49 #[ab n,X d,bI f p] c (Dp o n g k l e i j r h f c):=by
 obtain⟨zA,zb,K,D,L,zL,b,m,zC⟩:=ze;simp only[cU]at b;have t:=Y I;have z7:=Y zs;have F:=Y m;have zc:=Y zC;have y:=Y aU;have x:=Y zu;have B:=Y zd;have zaj:=Y G;have z6:=Y zB;have q:=Y z;have zV:(d:Int)<(g.n:Int):=Z;have zT:(g.n:Int)<=256:=Z;go_in;go_wp2_with(first|(refine b.aI _ (bI f p) ?_;intro P zS b)|(refine b.aH eh bY ?_;intro zK zU b))
 refine I9 ?_;clear b;intro zF zJ zG zH zI b;intro w zM b;simp only[az];refine b.dq 0 (a1 (gB g i j)) (cX _) (og _) ?_;intro zX b;refine ax ?_;have zR:=b.cl 3 135 (v:=.bool false) (g:=by exact(iv 0).trans (aX (λm=>some (Value.bool m)) q.out));go_wp2_with fail
 refine UW 3 λzE=>?_;replace b:=b.bd;refine rg [] [0,1,2,3,4,5,6,7,8,9,210,211] ?_;refine lv ?_;refine I' 0 ?_;simp only[az];refine b.fw 2 (lr _ _) ?_;simp only[az];have H:dX o c _ [(w,48,a1 (gB g i j)),(zK,71,eh),(P,131,bI f p)] n g k l e:=⟨zA,zb,K,D,L,zL,b,F.out,zc.out⟩;obtain⟨O,za,E,C⟩:=H.aW;obtain⟨bK,zz⟩:=(t.out _ b.aa b.q.2).whole q.out;have A:=Y zz.qg;refine iC (yz _ O n g k l e (gB g i j) false r (fo g.s (gB g i j)) bK h J f p za y.out x.out (by have:=B.out;omega) (λa d zt=>by obtain⟨zQ,zv⟩:=(t.out a (E a d) zt).whole q.out;exact{zv with qg:=A.out})) ?_;rintro s zN ⟨zw,u,a7,rfl,zx,zy⟩;refine⟨_,rfl,?_⟩;simp only[az];refine Dq λzh zn zi zk zj zo b zm zp zD zq zr=>?_;simp only[dZ,cU]at b;refine b.dq 1 (al u a7) aB (bo _ _) ?_;intro zO b;refine ax ?_;go_wp2_with fail
 refine bB (eH rfl aB (b.ai 1 rfl) rfl) ⟨_,u,a7,rfl,⟨λ_=>⟨zw,zD.out,rfl⟩,λs=>by rw[q.out]at s;exact Bool.noConfusion s,zD.out.2.1.toOk,zD.out.2.2.1,zD.out.2.2.2.1⟩,U,⟨zh,zn,zi,zk,zj,zo,b.drop 3,zq.out,zr.out⟩⟩
def jI(c:Nat)(d:Nat->aq)(e:Nat->aK)(b:N):Prop:=∀a,a<c->aT b (d a) (e a)
def j8(b:Nat)(c:Nat->aK):af:=(List.range b).flatMap λa=>bg (c a)
def fu(b:Nat)(d:Nat->aq)(c:Nat->aK):Qad:=(cq (λa=>al (d a) (c a)) b).toArray
theorem UX{c:Nat}{a:Nat}(e:b<c)(d:a∈bg (w b)):a∈j8 c w:=um.2 ⟨b,fq.2 e,d⟩
theorem rz{a:Nat}{e:Nat->aq}:fL (j8 a w) (jI a e w):=λ_ _ _ h d c f b=>(c f b).S h λ_ g=>d _ (UX b g)
theorem UY{d:Nat}{e:Nat->aq}{c:aK}(g:jI d e w a)(h:aT a r c):jI d (aJ e x r) (aJ w x c) a:=λf i=>by
 unfold aJ;by_cases b:f=x
 .rw[ae b,ae b];exact h
 .rw[M b,M b];exact g f i
theorem UZ{d:Nat}{c:aK}:∀b∈j8 d (aJ w x c),b∈j8 d w++bg c:=λb a=>by
 obtain⟨f,g,a⟩:=um.1 a;unfold aJ at a;by_cases e:f=x
 .rw[ae e]at a;exact bc.2 (.inr a)
 .rw[M e]at a;exact bc.2 (.inl (UX (fq.1 g) a))
theorem Dr{a:Nat}{c:Nat->aq}:(fu a c w).size=a*5:=by unfold fu;rw[mW];exact ns (c:=λb=>al (c b) (w b)) (b:=5) (λ_=>rfl) a
theorem yB{d:Nat}{c:Nat->aq}(f:b<d):∀a,a<(al (c b) (w b)).size->(fu d c w)[b*5+a]? =(al (c b) (w b))[a]? :=λa e=>by unfold fu;rw[b4];exact oe (f:=λb=>al (c b) (w b)) (d:=5) (λ_=>rfl) d b a f e
theorem U0{b:Nat}{f:Nat->aq}{d:aK}(m:x<b):cC (fu b f w) (x*5) (al r d).toList=fu b (aJ f x r) (aJ w x d):=by
 have e:(al r d).toList.length=5:=rfl;have h:(fu b f w).size=b*5:=Dr;have k:x*5+5<=b*5:=Z;apply kc;intro a;by_cases o:x*5<=a/\a<x*5+5
 .have i:=pC (i:=fu b f w) (a:=x*5) (s:=a-x*5) (aL:=(al r d).toList) (by rw[h,e];exact k) qI;rw[show x*5+(a-x*5)=a from Z]at i;have l:=yB (c:=aJ f x r) (w:=aJ w x d) m (a-x*5) (show a-x*5<5 from Z);rw[show x*5+(a-x*5)=a from Z]at l;rw[i,l,eo];simp only[aJ,ae]
 .rw[nR (by rw[h,e];exact k) qI];by_cases n:a<b*5
  .obtain⟨g,c,j,rfl⟩:∃g c,c<5/\a=g*5+c:=⟨a/5,a%5,Z,Z⟩;rw[yB Z c j,yB Z c j];simp only[aJ,M (show¬g=x from Z)]
  .rw[hP (by rw[h];omega),hP (by rw[Dr];omega)]
theorem yC:aT a bL bR:=⟨.none_,.none_,.none_,a' _,a' _,a' _⟩
theorem dX.less{d:af}{c:N}{b:bX}{e:Nat}{f:bJ}{g:List aE}{j:af}{i:bU}(m:dX d c a b e f g j i)(t:fL zb za)(r:∀q∈zb,q∈j)(n:∀a,i a->za a):dX d c a b e f g zb za:=by obtain⟨l,u,k,o,p,w,h,s⟩:=m;exact⟨l,u,k,o,p,w,UO h t r (n _ h.q.2),s⟩
def bJ.kQ(c:bJ)(b a:Nat):bJ:=if a=0 then{c with gY:=bL,gZ:=bR,fb:=bL,cn:=bR,fst:=(b:Int)-a}else{c with fst:=(b:Int)-a}
def Ja(d:af)(i:Nat)(k:bJ)(e:List aE)(j:af)(f:bU)(b a:Nat)(c:N)(g:Ending)(h:N):Prop:=g=.returned (.tuple #[])/\dX d c h [] i (k.kQ b a) (e++[.aA (a==0) (b-a)]) j f
theorem ais(I:af)(i:Nat)(e:bJ)(m:List aE)(w:af)(t:bU)(a j:Nat)(L:j=0)(zm:j<=a/\a<=256)(P:dX I c c [] i e m w t)(aU:fL w t)(zi:m.length<=20):Calls prog 47 #[ab i,X a,X j] c (Ja I i e m w t a j c):=by
 obtain⟨f,g,zk,ze,W,zp,b,za,zc⟩:=P;simp only[cU]at b;have A:=Y za;have zd:=Y zc;have D:=Y aU;have H:=Y (show a-0=a/\(a:Int)-((0:Nat):Int)=(a:Int)from Z);have zl:a<=256:=Z;refine aG m.length λlen G=>?_;have p:=Y (And.intro G zi);rw[G]at b A;have zj:=Y L;subst L;go_in;go_wp2_with(first|(refine b.a6 0 (X a) (dH {e with fst:=(a:Int)} f len g) ?_ (d:=153) (s:=UJ) (t:=by rw[mQ];exact c9 rfl);intro y b)|(refine fU (T:=71) (al bL bR) ?_)|(refine fU (T:=71) (al bL bR) ?_)|(refine b.stM 0 (al bL bR) (dH {e with gY:=bL,gZ:=bR,fst:=(a:Int)} f len g) aB (bo _ _) ?_ (d:=143) (t:=UK) (u:=by rw[mQ];exact c9 rfl);intro J b)|(refine b.stM 0 (al bL bR) (dH {e with gY:=bL,gZ:=bR,fb:=bL,cn:=bR,fst:=(a:Int)} f len g) aB (bo _ _) ?_ (d:=148) (t:=UL) (u:=by rw[mQ];exact c9 rfl);intro zn b))
 have zf:=b.cl 0 141 (v:=.slice f len g) (g:=by exact iv (d:={e with gY:=bL,gZ:=bR,fb:=bL,cn:=bR,fst:=(a:Int)}) 6);have zb:=b.cl 0 153 (v:=X a) (g:=by exact iv (d:={e with gY:=bL,gZ:=bR,fb:=bL,cn:=bR,fst:=(a:Int)}) 18);replace b:=b.bd;refine rg [] [300,1,2,3,4,5,6,7,8,9,10,11,112,213,14,15,216] ?_;refine to ?_;refine rf (#[.bool true,.bool false,X a]) ?_;simp only[az];refine rf (bW 2 b6 true (a:Int) dS none 0 0 0) ?_;simp only[az];refine gn λo h=>?_;refine e' underlying35 (bW 2 b6 true (a:Int) dS none 0 0 0) rfl rfl ar ?_;refine ri ?_;clear b;intro F Q r B C b;clear h o zf zb;simp only[az];refine el λo h=>?_;refine av.fR [(F,54,bW 2 b6 true (a:Int) dS none 0 0 0),(i,126,dH {e with gY:=bL,gZ:=bR,fb:=bL,cn:=bR,fst:=(a:Int)} f len g)] b A.out (bW 0 b6 false 0 dS none 0 0 0) 296 underlying35 vi (kq ..) R (r:=1) (aF.ai (C:=148) (e:=1) r (by rw[kq])) (o6 (l1 ..)) I3 Co Z ?_;refine sN ?_;clear b r B C h o;intro l k K E n b;refine b.h0 1 (.slice (ab l) (len+1) k) (dH {e with gY:=bL,gZ:=bR,fb:=bL,cn:=bR,fst:=(a:Int)} (some ⟨l,0,none⟩) (len+1) k) ?_ (e:=141) (r:=Dk) (t:=by rw[mQ];exact c9 rfl);intro zo b;refine ax ?_;go_wp2_with fail
 obtain⟨rfl,_⟩:=p.out;have zh:e.kQ a 0={e with gY:=bL,gZ:=bR,fb:=bL,cn:=bR,fst:=(a:Int)}:=by unfold bJ.kQ;rw[ae rfl,H.out.2]
 refine jw (jW rfl _ _ _) rfl ⟨rfl,?_⟩;rw[zh,H.out.1];refine Dl (O:=[]) (e:=.aA true a) (F:=none) (j:=0) (o:=ze) (h:=W) ((b.drop 1).conv ⟨⟨b.q.1,λq=>absurd rfl q⟩,b.q.2⟩ λy J O d z x=>⟨⟨yv x.1.1 d λs u=>z s (bc.2 (.inl u)),λq=>absurd rfl q⟩,D.out y J O d (λs u=>z s (bc.2 (.inr u))) x.2⟩) n zd.out (λ_=>⟨rfl,rfl⟩) D.out
theorem ait(L:af)(i:Nat)(e:bJ)(j:List aE)(x:af)(t:bU)(g f:Nat)(O:f≠0)(zp:f<=g/\g<=256)(W:dX L c c [] i e j x t)(aU:fL x t)(zl:j.length<=20):Calls prog 47 #[ab i,X g,X f] c (Ja L i e j x t g f c):=by
 obtain⟨s,u,zm,zi,za,zr,b,zb,zd⟩:=W;simp only[cU]at b;have G:=Y zb;have ze:=Y zd;have H:=Y aU;refine aG (g-f) λa ak=>?_;have zh:(g:Int)-(f:Int)=(a:Int):=Z;have J:=Y (And.intro ak zh);have zn:a<=256:=Z;refine aG j.length λlen I=>?_;have p:=Y (And.intro I zl);rw[I]at b G;have y:=Y O;have zo:((f:Int)==0)=false:=by simpa using O
 go_in;go_wp2_with(refine b.a6 0 (X a) (dH {e with fst:=(a:Int)} s len u) ?_ (d:=153) (s:=UJ) (t:=by rw[mQ];exact c9 rfl);intro A b)
 have zj:=b.cl 0 141 (v:=.slice s len u) (g:=by exact iv (d:={e with fst:=(a:Int)}) 6);have zc:=b.cl 0 153 (v:=X a) (g:=by exact iv (d:={e with fst:=(a:Int)}) 18);replace b:=b.bd;refine rg [] [300,1,2,3,4,5,6,7,8,9,10,11,112,213,14,15,216] ?_;refine to ?_;refine rf (#[.bool false,.bool false,X a]) ?_;simp only[az];refine rf (bW 2 b6 false (a:Int) dS none 0 0 0) ?_;simp only[az];refine gn λm h=>?_;refine e' underlying35 (bW 2 b6 false (a:Int) dS none 0 0 0) rfl rfl ar ?_;refine ri ?_;clear b;intro F Q r B C b;clear h m zj zc;simp only[az];refine el λm h=>?_;refine av.fR [(F,54,bW 2 b6 false (a:Int) dS none 0 0 0),(i,126,dH {e with fst:=(a:Int)} s len u)] b G.out (bW 0 b6 false 0 dS none 0 0 0) 296 underlying35 vi (kq ..) R (r:=1) (aF.ai (C:=148) (e:=1) r (by rw[kq])) (o6 (l1 ..)) I3 Co Z ?_;refine sN ?_;clear b r B C h m;intro l k K E n b;refine b.h0 1 (.slice (ab l) (len+1) k) (dH {e with fst:=(a:Int)} (some ⟨l,0,none⟩) (len+1) k) ?_ (e:=141) (r:=Dk) (t:=by rw[mQ];exact c9 rfl);intro zq b;refine ax ?_;go_wp2_with fail
 obtain⟨rfl,_⟩:=p.out;have zk:e.kQ g f={e with fst:=(a:Int)}:=by unfold bJ.kQ;rw[M y.out,J.out.2]
 refine jw (jW rfl _ _ _) rfl ⟨rfl,?_⟩;rw[zk,J.out.1,show(f==0)=false by simpa using y.out];refine Dl (O:=[]) (e:=.aA false a) (F:=none) (j:=0) (o:=zi) (h:=za) ((b.drop 1).conv ⟨⟨b.q.1,λo=>absurd rfl o⟩,b.q.2⟩ λA zf P d D z=>⟨⟨yv z.1.1 d λq w=>D q (bc.2 (.inl w)),λo=>absurd rfl o⟩,H.out A zf P d (λq w=>D q (bc.2 (.inr w))) z.2⟩) n ze.out (λ_=>⟨rfl,rfl⟩) H.out
theorem aiu(h:af)(f:Nat)(i:bJ)(d:List aE)(g:af)(e:bU)(a b:Nat)(j:b<=a/\a<=256)(k:dX h c c [] f i d g e)(aU:fL g e)(l:d.length<=20):Calls prog 47 #[ab f,X a,X b] c (Ja h f i d g e a b c):=by
 by_cases m:b=0
 .exact ais c h f i d g e a b m j k aU l
 .exact ait c h f i d g e a b m j k aU l
theorem yD{b:aj}(c:∀d,b d=0):∀a,ef b a=0
 |0=>rfl
 |a+1=>by rw[ef,yD c a,c];rfl
theorem aiv(c:∀a,z a=0)(b:Nat):aO z b=0:=by unfold aO;refine yD (λa=>?_) 8;unfold h';rw[yD (λd=>by rw[c,Ds]),Ds]
theorem aiw{b:Int}(a:0<=b):aR 0 b=0:=by
 unfold aR;rw[M Z];rcases Int.lt_or_eq_of_le a with a|a
 .exact EO Z Z
 .rw[<-a];rfl
theorem aix(b:Nat):gN (λ_=>0) b=0:=by have c:∀a,jM (λ_=>0) a=0:=λa=>yD (λe=>Ds _) 8;have d:tt (λ_=>0) b=0:=yD (λa=>by rw[c,Ds]) 8;unfold gN;rw[d];rfl
theorem aiy(a:aq)(c:Nat)(b:Bool):o4 a a c b=λ_=>0:=by funext x;unfold o4;omega
theorem aiz{d:bG}{c:aj}(e:aq)(h:Bool)(f:∀a,0<=c a/\(64<=a->c a=0))(g:Nat):h4 d c e e h g=λ_=>0:=by
 unfold h4;rw[aiy];funext i;unfold lC jb;rw[aiv λ_=>rfl];refine aiw ?_;generalize a6 d.h.a i=a;rcases jn a 64 with b|b
 .exact qF (qF (f a).1 Z) (by have:=Ai b;omega)
 .rw[(f a).2 b,Int.zero_mul,Int.zero_mul];exact Int.le_refl _
theorem aiA:i6 bZ 0 0 0 false (λa=>fQ bZ 0 0 0 false a+0)=bZ:=ar
theorem aiB:i6 bZ 0 0 1 false (λa=>fQ bZ 0 0 1 false a+0)=bZ:=ar
theorem aiC:i6 bZ 0 0 2 false (λa=>fQ bZ 0 0 2 false a+0)=bZ:=ar
theorem aiD:i6 bZ 0 0 3 false (λa=>fQ bZ 0 0 3 false a+0)=bZ:=ar
theorem aiE:i6 bZ 0 0 4 false (λa=>fQ bZ 0 0 4 false a+0)=bZ:=ar
theorem aiF:i6 bZ 0 0 5 false (λa=>fQ bZ 0 0 5 false a+0)=bZ:=ar
theorem aiG:i6 bZ 0 0 0 true (λa=>fQ bZ 0 0 0 true a+0)=bZ:=ar
theorem aiH:i6 bZ 0 0 1 true (λa=>fQ bZ 0 0 1 true a+0)=bZ:=ar
theorem aiI:i6 bZ 0 0 2 true (λa=>fQ bZ 0 0 2 true a+0)=bZ:=ar
theorem aiJ:i6 bZ 0 0 3 true (λa=>fQ bZ 0 0 3 true a+0)=bZ:=ar
theorem aiK:i6 bZ 0 0 4 true (λa=>fQ bZ 0 0 4 true a+0)=bZ:=ar
theorem aiL:i6 bZ 0 0 5 true (λa=>fQ bZ 0 0 5 true a+0)=bZ:=ar
theorem aiM(b:Bool)(a:Nat)(d:a<6):i6 bZ 0 0 a b (λc=>fQ bZ 0 0 a b c+0)=bZ:=by
 have:a=0\/a=1\/a=2\/a=3\/a=4\/a=5:=Z;cases b<;>rcases this with rfl|rfl|rfl|rfl|rfl|rfl
 .exact aiA
 .exact aiB
 .exact aiC
 .exact aiD
 .exact aiE
 .exact aiF
 .exact aiG
 .exact aiH
 .exact aiI
 .exact aiJ
 .exact aiK
 .exact aiL
theorem U1{c g:aj}{d:Int}{f:Bool}(h:∀e,24<=e->c e=0):∀a,a<=6->fj c g d f bZ a=bZ
 |0,_=>rfl
 |a+1,l=>by
  rw[fj,U1 h a Z];split
  .rfl
  .have j:gN (kG (kx (bO c a) f) g d)=λ_=>0:=by
    have k:kx (bO c a) f=λ_=>0:=by funext e;unfold kx bO;exact h _ Z
    have i:kG (λ_=>0) g d=λ_=>0:=by
     unfold kG;split
     .funext b;unfold uh;rw[Int.zero_mul]
     .rfl
    rw[k,i];funext b;exact aix b
   rw[j];exact aiM _ a Z
theorem aiN{d:bG}{k:Bool}{f:Int}{b:aj}(m:∀c,0<=b c/\(64<=c->b c=0))(a:z=l2 zh (h4 d b (nm bZ 0 0) (dl 16 16 128 128 128) zh)):im E e k f z h 0 0=bZ:=by
 have g:nm bZ 0 0=bZ:=ar;rw[g]at a;have j:h4 d b bZ (dl 16 16 128 128 128) zh=λ_ _=>0:=funext λi=>aiz bZ zh m i;rw[j]at a;have l:z 0=1:=by rw[a];exact l3 zh _ 0
 unfold im;rw[ae l];refine U1 (λo n=>?_) 6 (a' _);rw[a,l3,M Z,M Z,M Z];split<;>rfl
theorem aiO:oO (dl bZ.w bZ.h 0 0 0) 0 0 bZ=bZ:=ar
theorem aiP{d:bJ}{c:Int}(a:sX (ir 64) (gB d 1 c) false n 1 1 bZ h J m):m=bZ:=by obtain⟨_,_,e⟩:=(a.2.2.2.2 0 R 0 R);obtain⟨g,_,f⟩:=e rfl;have b:=aiN (E:=bD (ir 64) (gB d 1 c) false) (e:=ir 64) (k:=(gB d 1 c).a) (f:=n) (h:=h) (b:=(ir 64).a) (λb=>⟨by show 0<=if b<64 then(16:Int)else 0;split<;>decide,λa=>M Z⟩) f;rw[a.1];unfold qc ew ew hj hj;rw[b];exact aiO
