import Derived.Test.YtdmdbgabjcbjiaaGreatDoorA03
set_option maxHeartbeats 0
set_option maxRecDepth 100000
set_option linter.all false
namespace Go.Proofs.YtdmdbgabjcbjiaaGreatDoor
open Go.RowKit fD cr hs a7 _root_.Go.Proofs.Tryz
variable{e:aq}{d:Qav}{c:aj}{b:Prop}(a:N)
theorem sm:dJ 225 (.agg (bQ 0 0)):=dM
theorem Ny:dJ 350 (.agg (mU 0 0 0 0)):=dM
theorem lN(a b:Int):(bQ a b).all (·.oneCell')=true:=by simp[bQ,Value.oneCell']
theorem Nz(b c a d:Nat):(mU b c a d).all (·.oneCell')=true:=by simp[mU,Value.oneCell']
def qW(a:aq)(c f b:Nat)(e d:Int):aq:=⟨16,b,i7 a.y a.w a.h e d c f 16 (b*16),i7 a.u (a.w/2) (a.h/2) (e.tdiv 2) (d.tdiv 2) (c/2) (f/2) 8 (b/2*8),i7 a.v (a.w/2) (a.h/2) (e.tdiv 2) (d.tdiv 2) (c/2) (f/2) 8 (b/2*8)⟩
theorem w8(b:e.Ok)(c g:Nat){a:Nat}(f d:Int)(h:a=8\/a=16):(qW e c g a f d).Ok:=⟨by show 2<=16;omega,by show 16<=64;omega,by show 16%2=0;rfl,by show 2<=a;omega,by show a<=64;omega,by show a%2=0;omega,by show(i7 _ _ _ _ _ _ _ _ _).length=16*a;rw[Fl,eF],NA,NA,Fm b.gy _ _ _ _ _ _ _ _,Fm b.fP _ _ _ _ _ _ _ _,Fm b.hV _ _ _ _ _ _ _ _⟩
theorem FK(f:aq)(k:aK)(j i g:Nat)(r l:Int)(h:f.Ok)(zy:g=8\/g=16)(zae:j%2=0)(zas:j+16<=f.w)(zY:i%2=0)(zac:i+g<=f.h)(O:-63<=r)(zd:r<=63)(ze:-63<=l)(L:l<=63)(zG:aT a f k):Calls prog 196 #[al f k,X j,X i,X 16,X g,bQ r l] a (jR (qW f j i g r l) a):=by
 have zag:=Y (λa=>qQ f k h a);have zk:=Y zG;have zZ:=Y (λa=>Zx a r l O zd ze L);have z':=h.fH;have zab:=h.fr;obtain⟨q,D⟩:∃q,q=f.w/2:=⟨_,rfl⟩;obtain⟨t,E⟩:∃t,t=f.h/2:=⟨_,rfl⟩;obtain⟨A,zz⟩:∃A,A=j/2:=⟨_,rfl⟩;obtain⟨w,zr⟩:∃w,w=i/2:=⟨_,rfl⟩;obtain⟨x,zv⟩:∃x,x=g/2:=⟨_,rfl⟩;obtain⟨z,zb⟩:∃zm,zm=r.tdiv 2:=⟨_,rfl⟩;obtain⟨B,za⟩:∃zm,zm=l.tdiv 2:=⟨_,rfl⟩;have zaC:-31<=z/\z<=31/\-31<=B/\B<=31:=by
  rw[zb,za];refine⟨?_,?_,?_,?_⟩
  .have:=Bw (c:=2) Z O;exact this
  .have:=Bw (c:=2) Z zd;exact this
  .have:=Bw (c:=2) Z ze;exact this
  .have:=Bw (c:=2) Z L;exact this
 have zj:f.u.length=q*t:=by rw[h.eM,D,E]
 have zl:f.v.length=q*t:=by rw[h.aR,D,E]
 have zO:=Y (λa(H:aF a k.a 1 f.y.length (aC f.y))=>by have I:=Fo a k.a k.cJ f.y f.w f.h j i 16 g r l Z z' Z zab h.d' h.gy Z Z Z Z Z O zd ze L (h.d'▸H);rwa[<-h.d']at I);have zq:=Y (λa(H:aF a k.b 1 f.u.length (aC f.u))=>by have I:=Fo a k.b k.cT f.u q t A w 8 x z B Z Z Z Z (by rw[h.eM,D,E]) h.fP Z Z Z Z Z Z Z Z Z (zj▸H);rwa[<-zj]at I);have zK:=Y (λa(H:aF a k.c 1 f.v.length (aC f.v))=>by have I:=Fo a k.c k.cm f.v q t A w 8 x z B Z Z Z Z (by rw[h.aR,D,E]) h.hV Z Z Z Z Z Z Z Z Z (zl▸H);rwa[<-zl]at I);have zt:=Y (show qW f j i g r l=⟨16,g,i7 f.y f.w f.h r l j i 16 (g*16),i7 f.u q t z B A w 8 (x*8),i7 f.v q t z B A w 8 (x*8)⟩ by rw[D,E,zz,zr,zv,zb,za];rfl);have zay:(f.w:Int)/2=(q:Int):=Z;have za0:(f.h:Int)/2=(t:Int):=Z;have zaL:(j:Int)/2=(A:Int):=Z;have zaV:(i:Int)/2=(w:Int):=Z;have zaP:(g:Int)/2=(x:Int):=Z;have zaO:r.tdiv 2=z:=zb.symm;have za2:l.tdiv 2=B:=za.symm;have zaX:(j:Int)%2=0:=Z;have zaI:(i:Int)%2=0:=Z;have zaG:(j:Int)<=(f.w:Int)-16:=Z;have zaQ:(i:Int)<=(f.h:Int)-(g:Int):=Z;clear zj zl;obtain⟨W,zf⟩:∃F,F=i7 f.y f.w f.h r l j i 16 (g*16):=⟨_,rfl⟩;obtain⟨zc,zh⟩:∃F,F=i7 f.u q t z B A w 8 (x*8):=⟨_,rfl⟩;obtain⟨K,zi⟩:∃F,F=i7 f.v q t z B A w 8 (x*8):=⟨_,rfl⟩;rw[<-zf,<-zh,<-zi]at zt;rw[<-zf]at zO;rw[<-zh]at zq;rw[<-zi]at zK;rw[zt.out];clear D E zz zr zv zb za h zG zae zas zY zac O zd ze L zf zh zi;have ak:((g:Int) !=8)=false\/(((g:Int) !=8)=true/\((g:Int) !=16)=false):=by
  rcases zy with rfl|rfl
  .exact .inl rfl
  .exact .inr ⟨rfl,rfl⟩
 have zaB:g<=16:=Z;clear zy;rcases ak with zam|⟨zam,zaU⟩
 all_goals
  have b:=ao.nil [] a;go_in;go_wp2_with(first|(refine cx _ (al f k) rfl rfl rfl rfl ?_;intro zaW zaT zA zR zP;replace b:=b.aP zA zR zP;clear zA zR;clear zP)|(refine cx _ (bQ r l) rfl rfl rfl rfl ?_;intro za3 q zw zn zB;replace b:=b.aP zw zn zB;clear zw zn;clear zB)|(refine cw _ _ rfl rfl bY rfl ?_;intro zax zaE zN zx zS;replace b:=b.aP zN zx zS;clear zN zx;clear zS)|(refine mq aB (b.ai 2 rfl) rfl rfl rfl ?_))
  refine hD zag.out ?_;clear b;intro o m b;have z6:=b.ah 2 0;have zat:=b.ah 2 1;go_wp2_with(refine mq dI (b.ai 1 rfl) rfl rfl rfl ?_)
  refine(zZ.out _).mono ?_;rintro e zaF ⟨rfl,z7⟩;replace b:=b.aS z7;clear z6 zat;have z8:=b.ah 1 0;have zap:=b.ah 1 1;go_wp2_with(first|(refine cw _ (bQ 0 0) rfl rfl sm rfl ?_;intro G s u p Q;replace b:=b.aP u p Q;clear u p;clear Q;clear z8 zap)|(refine cv (Q:=bQ z B) dI (b.ai 0 rfl) rfl (lN _ _) rfl rfl rfl rfl ?_;intro J C n zav;replace b:=b.bk 0 C n;clear C n zav)|(refine cw _ (mU 0 0 0 0) rfl rfl Ny rfl ?_;intro zaY zaH zM zF zE;replace b:=b.aP zM zF zE;clear zM zF;clear zE)|(refine cw _ (mU 0 0 0 0) rfl rfl Ny rfl ?_;intro zaJ zaM zI zL zQ;replace b:=b.aP zI zL zQ;clear zI zL;clear zQ)|(refine cv (Q:=mU j i 16 g) w1 (b.ai 1 rfl) rfl (Nz _ _ _ _) rfl rfl rfl rfl ?_;intro zaK zs zC zao;replace b:=b.bk 1 zs zC;clear zs zC zao)|(refine cv (Q:=mU A w 8 x) w1 (b.ai 0 rfl) rfl (Nz _ _ _ _) rfl rfl rfl rfl ?_;intro zaw zD zu zar;replace b:=b.bk 0 zD zu;clear zD zu zar))
  have za1:=b.ah 5 2;have zaS:=b.ah 5 0;have zaz:=b.ah 5 1;have zaN:=b.ah 5 3;have zaR:=b.ah 5 4;replace b:=b.bd;refine rg [] [0,1,2,3,4,5,6,7,8,9,11,12,13,14,15,16,17,18,19,20,22,23,24,25,26,27,28,29,30,31,110,121,132,33,234,35] ?_;refine nI ?_;refine iZ w1 rfl rfl rfl (b.ai 1 rfl) ?_;simp only[az];refine iZ dI rfl rfl rfl (b.ai 4 rfl) ?_;refine nI ?_;refine iZ w1 rfl rfl rfl (b.ai 0 rfl) ?_;simp only[az];refine iZ dI rfl rfl rfl (b.ai 2 rfl) ?_;refine nI ?_;refine iZ w1 rfl rfl rfl (b.ai 0 rfl) ?_;simp only[az];refine iZ dI rfl rfl rfl (b.ai 2 rfl) ?_;simp only[az];refine bN (zO.out _ (zk.out.y.ad b.aa)) ?_;refine tX λza4 zah zak z1 zai=>?_;simp only[az];replace b:=b.aP zak z1 zai;refine bN (zq.out _ (zk.out.u.ad b.aa)) ?_;refine tY λzaA zaf zad zX zan=>?_;simp only[az];replace b:=b.aP zad zX zan;refine bN (zK.out _ (zk.out.v.ad b.aa)) ?_;rintro e zaZ ⟨zV,rfl,zal,zJ,zau⟩;refine⟨_,rfl,zJ,?_⟩;replace b:=b.aP zal zJ zau;refine ax ?_;refine el λzW zp=>?_;refine cv (Q:=al ⟨16,g,W,zc,K⟩ (bb ⟨16,g,W,zc,K⟩ zah zaf zV)) aB (b.ai 6 rfl) rfl (bo _ _) rfl rfl rfl (by rw[show al ⟨16,g,W,zc,K⟩ _= _ from rfl];rfl) ?_;intro zaD zo zH zaa;replace b:=b.bk 6 zo zH;clear zo zH zaa;refine zp _ _ ?_;clear zp zW;refine ax ?_;go_wp2_with fail
  exact bB (eW rfl aB (b.ai 6 rfl) rfl) ⟨_,_,_,rfl,b.back (e:=⟨16,g,W,zc,K⟩) 2 1 0 rfl rfl rfl R⟩
theorem n1:bT prog 226 4:=⟨_,underlying226,rfl,ar⟩
theorem mx:bT prog 175 2:=⟨_,underlying175,rfl,ar⟩
theorem FL:dJ 176 (.agg #[X 0,X 0,.slice none 0 0,.slice none 0 0,.slice none 0 0,X 0,X 0,.slice none 0 0,.slice none 0 0,.slice none 0 0]):=dM
theorem n2(a:N)(h e:Qat)(c:Nat)(f:TypeDesc)(g:Qad)(v:Qas)(k:d.underlying h=some (.array c e))(i:d.underlying e=some f)(ak:EX f=false)(n:∀a,(sizeOf e).run d a=.ok 1 a)(j:Qaw)(b:Nat)(o:b<c)(l:g[b]? =some v):(Instr.index h (g) (.int j (b:Int))).run d a=.ok v a:=by have m:(0:Int)<=(b:Int)/\(b:Int)<(c:Int):=Z;simp only[Instr.index,asIntOf,eS,iW,gl,h7 k,ae m,n,part,Y5 i ak,gx,k3];simp[l]
theorem NB(b c:Qas)(a:N):(Instr.index 175 (.agg #[b,c]) (X 0)).run prog a=.ok b a/\(Instr.index 175 (.agg #[b,c]) (X 1)).run prog a=.ok c a:=⟨n2 a _ _ 2 _ _ _ underlying175 underlying3 rfl qG .i64 0 R rfl,n2 a _ _ 2 _ _ _ underlying175 underlying3 rfl qG .i64 1 R rfl⟩
def Bx(c:aq)(a b:Nat)(i d h g:Int)(f e:Nat):aq:=gH (qW (cL c f) (16*a) (8*b) 8 i d) (qW (cL c e) (16*a) (8*b) 8 h g)
theorem aar(a:e.gQ)(d g:Nat)(l f i h:Int){c b:Nat}(j:c<=1)(k:b<=1):(Bx e d g l f i h c b).Ok:=wY (w8 (lJ a j).1 _ _ _ _ (.inl rfl)) (w8 (lJ a k).1 _ _ _ _ (.inl rfl)) rfl rfl (by show 8<=32;decide)
theorem aas(f:aq)(I:aK)(y B:Nat)(s w p n:Int)(i h:Nat)(P:f.dd)(zaJ:f.h%32=0)(zan:y<f.w/16)(zad:B<f.h/16)(zo:i<=1)(zc:h<=1)(zn:-63<=s/\s<=63)(zh:-63<=w/\w<=63)(zf:-63<=p/\p<=63)(zk:-63<=n/\n<=63)(zS:aT a f I):Calls prog 195 #[al f I,X y,X B,.agg #[X s,X w,X p,X n],.agg #[X i,X h]] a (jR (Bx f y B s w p n i h) a):=by
 have zC:=Y zS;have zap:=Y (λa=>tR f I P a);have Q:f.gQ:=⟨P.toOk,Z⟩;have zi:=Y (λa(zB:Nat)(zaA:zB<=1)(l:aT a f I)=>sc a f I zB Q zaA l);have za8:=P.fH;have zbd:=P.fr;obtain⟨z,zU⟩:∃z,z=16*y:=⟨_,rfl⟩;obtain⟨A,zt⟩:∃A,A=8*B:=⟨_,rfl⟩;obtain⟨O,za⟩:∃r,r=cL f i:=⟨_,rfl⟩;obtain⟨L,zb⟩:∃r,r=cL f h:=⟨_,rfl⟩;obtain⟨c,D⟩:∃r,r=qW O z A 8 s w:=⟨_,rfl⟩;obtain⟨g,H⟩:∃r,r=qW L z A 8 p n:=⟨_,rfl⟩;obtain⟨W,zm⟩:∃r,r=gH c g:=⟨_,rfl⟩;have F:=lJ Q zo;have G:=lJ Q zc;rw[<-za]at F;rw[<-zb]at G;have zaQ:=Y (λa C(l:aT a O C)=>by have x:=FK a O C z A 8 s w F.1 (.inl rfl) Z (by rw[F.2.1];omega) Z (by rw[F.2.2];omega) zn.1 zn.2 zh.1 zh.2 l;rwa[<-D]at x);have zay:=Y (λa C(l:aT a L C)=>by have x:=FK a L C z A 8 p n G.1 (.inl rfl) Z (by rw[G.2.1];omega) Z (by rw[G.2.2];omega) zf.1 zf.2 zk.1 zk.2 l;rwa[<-H]at x);have zaN:=Y (λa C l(zaH:aT a c C)(zaP:aT a g l)=>by have x:=wZ a c g C l (by rw[D];exact w8 F.1 _ _ _ _ (.inl rfl)) (by rw[H];exact w8 G.1 _ _ _ _ (.inl rfl)) (by rw[D,H];rfl) (by rw[D,H];rfl) (by rw[D];show 8<=32;decide) zaH zaP;rwa[<-zm]at x);have zs:=Y (show Bx f y B s w p n i h=W by rw[zm,D,H,za,zb,zU,zt];rfl);rw[zs.out];have zaM:=Y (λa l=>by have x:=zi.out a i zo l;rwa[<-za]at x);have zas:=Y (λa l=>by have x:=zi.out a h zc l;rwa[<-zb]at x);have zbo:(f.h:Int)%32=0:=Z;have zbe:¬((y:Int)<0):=Z;have zbb:(y:Int)<(f.w:Int)/16:=Z;have zbk:¬((B:Int)<0):=Z;have zbr:(B:Int)<(f.h:Int)/16:=Z;have zaY:16*(y:Int)=(z:Int):=Z;have zbu:8*(B:Int)=(A:Int):=Z;have zbw:z<=64:=Z;have za2:A<=64:=Z;have zj:((i:Int) !=0)=false\/(((i:Int) !=0)=true/\((i:Int) !=1)=false):=by
  rcases(by omega:i=0\/i=1)with rfl|rfl
  .exact .inl rfl
  .exact .inr ⟨rfl,rfl⟩
 have K:((h:Int) !=0)=false\/(((h:Int) !=0)=true/\((h:Int) !=1)=false):=by
  rcases(by omega:h=0\/h=1)with rfl|rfl
  .exact .inl rfl
  .exact .inr ⟨rfl,rfl⟩
 have zbp:=λzl=>(NB (X i) (X h) zl).1;have zbf:=λzl=>(NB (X i) (X h) zl).2;clear zi Q zU zt za zb D H zm F G P zaJ zan zad zS zo zc zn zh zf zk zs;rcases zj with zj|⟨zj,zZ⟩<;>rcases K with K|⟨K,za5⟩
 all_goals
  have b:=ao.nil [] a;go_in;refine nh λzam zai zaV zaR zat=>?_;go_wp2_with(first|(clear zam;refine cx _ (al f I) rfl rfl rfl rfl ?_;intro zbm zbl zK z7 z6;replace b:=b.aP zK z7 z6;clear zK z7;clear z6)|(clear zai;refine cx _ (#[X s,X w,X p,X n]) rfl rfl rfl rfl ?_;intro zbx zbn zD zp zJ;replace b:=b.aP zD zp zJ;clear zD zp;clear zJ)|(clear zaV;refine cx _ (#[X i,X h]) rfl rfl rfl rfl ?_;intro zaX za1 zY zE z8;replace b:=b.aP zY zE z8;clear zY zE;clear z8)|(clear zaR;refine cw _ _ rfl rfl bY rfl ?_;intro zbh o zw m zy;replace b:=b.aP zw m zy;clear zw m;clear zy)|(clear zat;refine mq aB (b.ai 3 rfl) rfl rfl rfl ?_))
  refine hD zap.out ?_;clear b;intro za9 za4 b;have K:=b.ah 3 1;have zZ:=b.ah 3 0;have zaS:True:=trivial;go_wp2_with(clear zaS;refine mq mx (b.ai 1 rfl) rfl rfl rfl ?_)
  refine jc 3 ?_;rw[cR];clear K zZ;go_wp2_with fail
  rw[cR];go_wp2_with fail
  rw[cR];refine fE λzae zaI=>?_;go_wp2_with(first|(clear zae;refine cw _ (#[X 0,X 0,.slice none 0 0,.slice none 0 0,.slice none 0 0,X 0,X 0,.slice none 0 0,.slice none 0 0,.slice none 0 0]) rfl rfl FL rfl ?_;intro zbv zba zx zv zF;replace b:=b.aP zx zv zF;clear zx zv;clear zF)|(clear zaI;refine mq mx (b.ai 2 rfl) rfl rfl rfl ?_))
  refine jc 3 ?_;rw[cR];have zaw:True:=trivial;go_wp2_with(clear zaw;refine mq aB (b.ai 4 rfl) rfl rfl rfl ?_)
  refine(zaM.out _ (zC.out.ad b.aa)).mono ?_;rintro e zbt ⟨zaT,zao,zac,rfl,zaa⟩;replace b:=b.kE zaa;refine fE λzah zar=>?_;go_wp2_with(first|(clear zah;refine cw _ _ rfl rfl bY rfl ?_;intro zbq zbc zX zO zN;replace b:=b.aP zX zO zN;clear zX zO;clear zN)|(clear zar;refine cv (Q:=al O (bb O zaT zao zac)) aB (b.ai 0 rfl) rfl (bo _ _) rfl rfl rfl rfl ?_;intro zbj zT zW zaU;replace b:=b.bk 0 zT zW;clear zT zW zaU))
  replace b:=b.bd;refine rg [] [0,1,2,3,4,5,6,7,8,109,10,11,312,13,214,15] ?_;refine lv ?_;refine iZ aB rfl rfl rfl (b.ai 0 rfl) ?_;refine vZ ?_;refine hh (aL:=#[X s,X w]) dI (b.ai 7 rfl) (λj k=>sn) rfl rfl rfl ?_;simp only[az];refine bN (zaQ.out _ _ (b.fg 1 rfl rfl rfl)) ?_;refine By λE t u q ze=>?_;replace b:=b.kE ze;refine ax ?_;refine el λzd J=>?_;refine i1 (al c (bb c t u q)) rfl rfl rfl rfl aB (b.ai 7 rfl) (c9 rfl) (bo _ _) ?_;intro zaW (zM:ag _ _ _ #[X (c.w:Int),X (c.h:Int),.slice (ab t) c.y.length c.y.length,.slice (ab u) c.u.length c.u.length,.slice (ab q) c.v.length c.v.length,X 0,X 0,.slice none 0 0,.slice none 0 0,.slice none 0 0]) zA zaG;replace b:=b.bk 7 zM zA;clear zM zA zaG;refine J _ _ ?_;clear J zd;refine ax ?_;go_wp2_with fail
  rw[cR];have zaE:True:=trivial;go_wp2_with(clear zaE;refine mq aB (b.ai 11 rfl) rfl rfl rfl ?_)
  refine(zas.out _ (zC.out.ad b.aa)).mono ?_;rintro e zbg ⟨zak,zaz,zau,rfl,zax⟩;replace b:=b.kE zax;refine fE λzag zaf=>?_;go_wp2_with(first|(clear zag;refine cw _ _ rfl rfl bY rfl ?_;intro zbi zaZ zz zr zI;replace b:=b.aP zz zr zI;clear zz zr;clear zI)|(clear zaf;refine cv (Q:=al L (bb L zak zaz zau)) aB (b.ai 0 rfl) rfl (bo _ _) rfl rfl rfl rfl ?_;intro zbs zG zV zaB;replace b:=b.bk 0 zG zV;clear zG zV zaB))
  replace b:=b.bd;refine rg [] [0,1,2,3,4,5,6,7,8,109,10,11,312,13,214,15] ?_;refine lv ?_;refine iZ aB rfl rfl rfl (b.ai 0 rfl) ?_;refine vZ ?_;refine hh (aL:=#[X p,X n]) dI (b.ai 14 rfl) (λj k=>sn) rfl rfl rfl ?_;simp only[az];refine bN (zay.out _ _ (b.fg 1 rfl rfl rfl)) ?_;refine w9 λzu zR zP zQ z1=>?_;replace b:=b.kE z1;refine ax ?_;refine el λzd J=>?_;refine i1 (al g (bb g zR zP zQ)) rfl rfl rfl rfl aB (b.ai 14 rfl) (c9 rfl) (bo _ _) ?_;intro za3 (zH:ag _ _ _ #[X (c.w:Int),X (c.h:Int),.slice (ab t) c.y.length c.y.length,.slice (ab u) c.u.length c.u.length,.slice (ab q) c.v.length c.v.length,X (g.w:Int),X (g.h:Int),.slice (ab zR) g.y.length g.y.length,.slice (ab zP) g.u.length g.u.length,.slice (ab zQ) g.v.length g.v.length]) zq zaO;replace b:=b.bk 14 zH zq;clear zH zq zaO;refine J _ _ ?_;clear J zd;refine ax ?_;go_wp2_with fail
  rw[cR];refine fE λzaF zab=>?_;go_wp2_with(first|(clear zaF;refine r9 (aL:=al c (bb c t u q)) aB (b.ai 14 rfl) (λj k=>NC) rfl rfl rfl ?_)|(clear zab;refine r9 (aL:=al g (bb g zR zP zQ)) aB (b.ai 14 rfl) (λj k=>NC) rfl rfl rfl ?_))
  refine(zaN.out _ _ _ (b.fg 7 rfl rfl rfl) (b.fg 0 rfl rfl rfl)).mono ?_;rintro e za0 ⟨zaK,zaC,zal,rfl,zav⟩;replace b:=b.kE zav;have zaL:True:=trivial;go_wp2_with(clear zaL;refine cv (Q:=al W (bb W zaK zaC zal)) aB (b.ai 18 rfl) rfl (bo _ _) rfl rfl rfl rfl ?_;intro zby z' zL zaD;replace b:=b.bk 18 z' zL;clear z' zL zaD)
  exact bB (eW rfl aB (b.ai 18 rfl) rfl) ⟨_,_,_,rfl,b.back (e:=W) 0 1 2 rfl rfl rfl R⟩
theorem gv:bT prog 223 2:=⟨_,underlying223,rfl,ar⟩
theorem FM:bT prog 272 3:=⟨_,underlying272,rfl,ar⟩
theorem nl:bT prog 229 6:=⟨_,underlying229,rfl,ar⟩
theorem aat:dJ 229 (.agg #[.bool false,.bool false,.bool false,.bool false,.bool false,.bool false]):=dM
theorem aau:bT prog 227 8:=⟨_,underlying227,rfl,ar⟩
theorem aav:bT prog 228 4:=⟨_,underlying228,rfl,ar⟩
theorem so(a:Nat)(e:a<6):∀b,b<(an .i64 64 (bO c a)).size->(ap c)[24+a*64+b]? =(an .i64 64 (bO c a))[b]? :=λb d=>by rw[gO]at d;rw[dw d,ap,w2 Z (by simp[hC];omega)];unfold bO;rw[eF a 64]
def aY.par(a:aY):Int:=if a.s=2 then 1 else 0
theorem ND{d:Qav}(c:N)(j:Nat)(b:Qat)(g:Nat)(f e:Nat->Bool)(n k:Qad)(l:d.underlying b=some .bool)(o:d.cellsOf b=1)(t:∀a,a<g->n[a]? =some (.bool (f a)))(r:∀a,a<g->k[a]? =some (.bool (e a))):∀h:af,(∀a∈h,a<g)->(Op.eqItems (j+1) b (d.cellsOf b) n k h).run d c=.ok (h.all λa=>f a==e a) c
 |[],_=>by simp[Op.eqItems]
 |a::h,q=>by
  have s:a<g:=q a U;have p:∀(i:Qad)(m:Bool),i[a]? =some (.bool m)->(part b i (a*d.cellsOf b)).run d c=.ok (.bool m) c:=by intro i m y;simp[part,isAgg,h7 l,o,y]
  have w:=ND c j b g f e n k l o t r h (λu x=>q u (by simp[x]));simp only[Op.eqItems,eS,p _ _ (t a s),p _ _ (r a s),gl,yQ];rw[show(Op.equalIn (j+1) b (.bool (f a)) (.bool (e a))).run d c=.ok (f a==e a) c by simp[Op.equalIn,h7 l]];simp only[gl];cases z:(f a==e a)
  .simp
  .simp only[Bool.not_true,oF,k2,yR];exact w
theorem aaw(c d b:Qas)(a:N):(Instr.index 272 (.agg #[c,d,b]) (X 0)).run prog a=.ok c a/\(Instr.index 272 (.agg #[c,d,b]) (X 1)).run prog a=.ok d a/\(Instr.index 272 (.agg #[c,d,b]) (X 2)).run prog a=.ok b a:=⟨n2 a _ _ 3 _ _ _ underlying272 underlying3 rfl qG .i64 0 R rfl,n2 a _ _ 3 _ _ _ underlying272 underlying3 rfl qG .i64 1 R rfl,n2 a _ _ 3 _ _ _ underlying272 underlying3 rfl qG .i64 2 R rfl⟩
def w'(c:aj)(b:Int):aj:=λa=>if(1<=a/\a<=3/\b≠1)\/(4<=a/\a<=7/\b≠2)then 0 else c a
theorem Bz{f:aj}{e a d:Nat}(i:a+d<=e):cC (an .i64 e c) a (an .i64 d f).toList=an .i64 e (cV c a d f):=nT (p:=λ_=>false) i _ yP λh g=>by rw[eo,dw g];show _=some (Value.int .i64 (cV c a d f (a+h)));rw[cV,ae Z,ki]
theorem NE(c:Nat)(a:bj c->b:=by
 intro l;have d:=ao.nil [] a;go_in;go_wp2_with(refine cx _ (bl b) rfl rfl rfl rfl ?_;intro s q g i h;replace d:=d.aP g i h;clear g i;clear h;have w:=d.ah 0 0;have t:=d.ah 0 1;have x:=d.ah 0 l)
 go_ret;exact⟨rfl,d.aa⟩):b:=a ⟨⟩
theorem FN(b:aY)(c:b.Ok):Calls prog 174 #[bl b] a λm j=>m=.returned (.bool true)/\V [] a j:=by
 have r:¬(b.t<1):=by have:=c.t;omega
 have o:¬(3<b.t):=by have:=c.t;omega
 have n:¬(b.s<1):=by have:=c.s;omega
 have u:¬(3<b.s):=by have:=c.s;omega
 have f:((b.s !=3)=true/\b.i=true)\/((b.s !=3)=false/\b.n=false):=by
  rcases c.s with⟨p,e⟩|⟨p,e⟩|⟨p,e⟩
  .exact .inl ⟨tI,e⟩
  .exact .inl ⟨tI,e⟩
  .exact .inr ⟨tI,e⟩
 clear c;rcases f with⟨f,k⟩|⟨f,k⟩
 .exact NE 2
 .exact NE 3
theorem FO(a:b:=by
 have c:=ao.nil [] a;go_in;go_wp2_with(refine cx _ (bl b) rfl rfl rfl rfl ?_;intro j k f e d;replace c:=c.aP f e d;clear f e;clear d;have l:=c.ah 0 1)
 go_ret;exact⟨rfl,c.aa⟩):b:=a
theorem FP(b:aY):Calls prog 192 #[bl b] a λg h=>g=.returned (.bool b.field)/\V [] a h:=by exact FO
theorem NF(b:aY):Calls prog 193 #[bl b] a λh i=>h=.returned (X b.par)/\V [] a i:=by
 unfold aY.par;by_cases g:b.s=2
 .rw[ae g];exact FO
 .rw[M g];exact FO
theorem uo(c:aY):Calls prog 214 #[bl c] a λg i=>g=.returned (.bool c.both)/\V [] a i:=by
 unfold aY.both;cases h:c.i
 all_goals
  have b:=ao.nil [] a;go_in;go_wp2_with(refine cx _ (bl c) rfl rfl rfl rfl ?_;intro j k f e d;replace b:=b.aP f e d;clear f e;clear d;have m:=b.ah 0 2;have l:=b.ah 0 1)
  go_ret;exact⟨rfl,b.aa⟩
theorem FQ(c:aY)(j:Nat)(i:aj)(m:ag a j 233 (ap i)):Calls prog 244 #[bl c,ab j] a λe n=>e=.returned (.bool (i 3 !=0||c.field))/\V [] a n:=by
 have l:=Y m;clear m;have o:=Y λa=>FP a c;cases h:(i 3 !=0)
 .have b:=ao.nil [] a;go_in;go_wp2_with(first|(refine cx _ (bl c) rfl rfl rfl rfl ?_;intro q p d g f;replace b:=b.aP d g f;clear d g;clear f;have k:=kF (l.out.S b.aa U) 3)|(refine dO rfl (b.ai 0 rfl) (cE _) rfl rfl ?_))
  exact NG o.out
 .have b:=ao.nil [] a;go_in;go_wp2_with(refine cx _ (bl c) rfl rfl rfl rfl ?_;intro q p d g f;replace b:=b.aP d g f;clear d g;clear f;have k:=kF (l.out.S b.aa U) 3)
  go_ret;exact⟨rfl,b.aa⟩
theorem NH(a:b:=by have b:=ao.nil [] a;go_in;have k:=kF (h.out.S b.aa U) 3;exact ft):b:=a
theorem NI(e:Nat)(c:aj)(f:ag a e 233 (ap c)):Calls prog 216 #[ab e] a λi j=>i=.returned (X (if c 3=0 then 1 else 2))/\V [] a j:=by
 have h:=Y f;clear f;by_cases d:c 3=0
 .rw[ae d];have g:(c 3 !=0)=false:=nj;exact NH
 .rw[M d];have g:(c 3 !=0)=true:=nj;exact NH
theorem uq(d c:Int)(h:0<=c)(g:c<=10000)(i:-c<=d)(j:d<=c):Calls prog 210 #[X d,X c] a λe f=>e=.returned (.bool true)/\V [] a f:=by have b:=ao.nil [] a;go_in;exact ft
theorem BA(d c:Int)(i:-63<=d)(n:d<=63)(r:-63<=c)(l:c<=63):Calls prog 211 #[bQ d c] a λe j=>e=.returned (.bool true)/\V [] a j:=by
 have k:=Y λa=>uq a d 63 R R i n;have q:=Y λa=>uq a c 63 R R r l;have b:=ao.nil [] a;go_in;go_wp2_with(refine cx _ (bQ d c) rfl rfl rfl rfl ?_;intro w u f h g;replace b:=b.aP f h g;clear f h;clear g;have s:=b.ah 0 0)
 refine hD k.out ?_;clear b;intro x t b;clear s;have p:=b.ah 0 1;go_wp2_with fail
 refine ur q.out ?_;clear b;intro J z b;clear p;exact ft
theorem BB(c:Int)(f:1<=c)(g:c<=31):Calls prog 158 #[X c] a λd e=>d=.returned (.bool true)/\V [] a e:=by have b:=ao.nil [] a;go_in;exact ft
theorem aax(b:Nat)(g:b<=5):Calls prog 220 #[X b] a λd e=>d=.returned (X ((b-3:Nat):Int))/\V [] a e:=by
 have f:=Y (show(if(b:Int)-3>0 then(b:Int)-3 else 0)=((b-3:Nat):Int)from rX);have c:=ao.nil [] a;go_in;go_wp2_with(refine lL 0 ((b:Int)-3) _ f.out rfl rfl rfl rfl ?_)
 go_ret;exact⟨rfl,c.aa⟩
theorem NJ:Calls prog 182 #[] a λh i=>h=.returned (.agg #[.bool true,.bool true,.bool true,.bool true,.bool true,.bool true])/\V [] a i:=by
 have b:=ao.nil [] a;go_in;go_wp2_with(first|(refine cw _ (#[.bool false,.bool false,.bool false,.bool false,.bool false,.bool false]) rfl rfl aat rfl ?_;intro j k g f c;replace b:=b.aP g f c;clear g f;clear c)|(refine cv (Q:=#[.bool true,.bool true,.bool true,.bool true,.bool true,.bool true]) nl (b.ai 0 rfl) rfl fy rfl rfl rfl rfl ?_;intro l d e aU;replace b:=b.bk 0 d e;clear d e aU))
 exact bB (eH rfl nl (b.ai 0 rfl) rfl) ⟨rfl,b.aa⟩
theorem FR(c:Int):Calls prog 155 #[X c] a λj k=>j=.returned (.agg (an .i64 8 λd=>if d=0 then c else 0))/\V [] a k:=by
 have b:=ao.nil [] a;go_in;go_wp2_with(first|(refine cw _ (an .i64 8 λ_=>0) rfl rfl nU rfl ?_;intro l m i h e;replace b:=b.aP i h e;clear i h;clear e)|(refine cv (Q:=an .i64 8 λd=>if d=0 then c else 0) (eU _) (b.ai 0 rfl) rfl (e6) rfl rfl rfl rfl ?_;intro n f g aU;replace b:=b.bk 0 f g;clear f g aU))
 exact bB (eH rfl (eU _) (b.ai 0 rfl) rfl) ⟨rfl,b.aa⟩
theorem NK(c:aj)(f:ig c):Calls prog 175 #[an .i64 8 c] a λe s=>e=.returned (.bool true)/\V [] a s:=by
 have h:=Y λa(j:Nat)(i:1<=j)(l:j<=3)=>uq a (c j) 4095 R R (f.Bh j i l).1 (f.Bh j i l).2;have x:=Y λa=>BB a (c 0) f.q.1 f.q.2;have y:=Y λa=>BA a (c 4) (c 5) (f.v 4 R R).1 (f.v 4 R R).2 (f.v 5 R R).1 (f.v 5 R R).2;have t:=Y λa=>BA a (c 6) (c 7) (f.v 6 R R).1 (f.v 6 R R).2 (f.v 7 R R).1 (f.v 7 R R).2;have g:=λd=>aaw (X (c 1)) (X (c 2)) (X (c 3)) d;obtain⟨I,E,B⟩:(∀d,(Instr.index 272 (.agg #[X (c 1),X (c 2),X (c 3)]) (X 0)).run prog d=.ok (X (c 1)) d)/\(∀d,(Instr.index 272 (.agg #[X (c 1),X (c 2),X (c 3)]) (X 1)).run prog d=.ok (X (c 2)) d)/\∀d,(Instr.index 272 (.agg #[X (c 1),X (c 2),X (c 3)]) (X 2)).run prog d=.ok (X (c 3)) d:=⟨λd=>(g d).1,λd=>(g d).2.1,λd=>(g d).2.2⟩;clear g f;have b:=ao.nil [] a;go_in;go_wp2_with(first|(refine cx _ (an .i64 8 c) rfl rfl rfl rfl ?_;intro w F n q p;replace b:=b.aP n q p;clear n q;clear p)|(refine de (#[X (c 1),X (c 2),X (c 3)]) rfl FM (b.ai 0 rfl) (λj k=>by match j,k with|0,_=>rfl|1,_=>rfl|2,_=>rfl) rfl rfl ?_))
 refine jc 4 ?_;rw[cR];go_wp2_with fail
 refine(h.out _ 1 R R).mono ?_;rintro e K ⟨rfl,r⟩;replace b:=b.aS r;go_wp2_with fail
 rw[cR];go_wp2_with fail
 refine(h.out _ 2 R R).mono ?_;rintro e J ⟨rfl,z⟩;replace b:=b.aS z;go_wp2_with fail
 rw[cR];go_wp2_with fail
 refine(h.out _ 3 R R).mono ?_;rintro e o ⟨rfl,m⟩;replace b:=b.aS m;go_wp2_with fail
 rw[cR];have A:o.cell? ⟨w,0,none⟩=some (.int .i64 (c 0)):=b.au 0 0 rfl (dw R);go_wp2_with fail
 refine hD x.out ?_;clear b;intro C L b;clear A;go_wp2_with(refine de (#[X (c 4),X (c 5)]) rfl dI (b.ai 0 rfl) (λj k=>sn) rfl rfl ?_)
 refine ur y.out ?_;clear b;intro D H b;go_wp2_with(refine de (#[X (c 6),X (c 7)]) rfl dI (b.ai 0 rfl) (λj k=>sn) rfl rfl ?_)
 refine(t.out _).mono ?_;rintro e G ⟨rfl,u⟩;replace b:=b.aS u;exact ft
theorem FT(a:b:=by exact bB (eH rfl (eU _) (b.ai 0 rfl) rfl) ⟨by congr 2,b.aa⟩):b:=a
theorem aay(l:aj)(o:Int)(B:o=0\/o=1\/o=2):Calls prog 181 #[an .i64 8 l,X o] a λA z=>A=.returned (an .i64 8 (w' l o))/\V [] a z:=by
 rcases B with rfl|rfl|rfl
 .have b:=ao.nil [] a;go_in;go_wp2_with(first|(refine cx _ (an .i64 8 l) rfl rfl rfl rfl ?_;intro r q j m k;replace b:=b.aP j m k;clear j m;clear k)|(refine cw _ (an .i64 8 λ_=>0) rfl rfl nU rfl ?_;intro w u g e i;replace b:=b.aP g e i;clear g e;clear i)|(refine i1 (an .i64 3 λ_=>0) rfl rfl rfl rfl FM (b.ai 1 rfl) BC e6 ?_;intro s c h p;rw[Bz R]at c;replace b:=b.bk 1 c h;clear c h p)|(refine i1 (an .i64 4 λ_=>0) rfl rfl rfl rfl n1 (b.ai 1 rfl) BC e6 ?_;intro t d f n;rw[Bz R]at d;replace b:=b.bk 1 d f;clear d f n)|(refine dO rfl (b.ai 1 rfl) (eU _) rfl rfl ?_)|(refine cv (Q:=an .i64 8 (cV (cV l 1 3 (λ_=>0)) 4 4 (λ_=>0))) (eU _) (b.ai 0 rfl) rfl (e6) rfl rfl rfl rfl ?_;intro D x y C;replace b:=b.bk 0 x y;clear x y C))
  exact FT
 .have b:=ao.nil [] a;go_in;go_wp2_with(first|(refine cx _ (an .i64 8 l) rfl rfl rfl rfl ?_;intro r q j m k;replace b:=b.aP j m k;clear j m;clear k)|(refine cw _ (an .i64 8 λ_=>0) rfl rfl nU rfl ?_;intro w u g e i;replace b:=b.aP g e i;clear g e;clear i)|(refine i1 (an .i64 4 λ_=>0) rfl rfl rfl rfl n1 (b.ai 1 rfl) BC e6 ?_;intro s c h p;rw[Bz R]at c;replace b:=b.bk 1 c h;clear c h p)|(refine dO rfl (b.ai 1 rfl) (eU _) rfl rfl ?_)|(refine cv (Q:=an .i64 8 (cV l 4 4 (λ_=>0))) (eU _) (b.ai 0 rfl) rfl (e6) rfl rfl rfl rfl ?_;intro t d f n;replace b:=b.bk 0 d f;clear d f n))
  exact FT
 .have b:=ao.nil [] a;go_in;go_wp2_with(first|(refine cx _ (an .i64 8 l) rfl rfl rfl rfl ?_;intro r q j m k;replace b:=b.aP j m k;clear j m;clear k)|(refine cw _ (an .i64 8 λ_=>0) rfl rfl nU rfl ?_;intro w u g e i;replace b:=b.aP g e i;clear g e;clear i)|(refine i1 (an .i64 3 λ_=>0) rfl rfl rfl rfl FM (b.ai 1 rfl) BC e6 ?_;intro s c h p;rw[Bz R]at c;replace b:=b.bk 1 c h;clear c h p)|(refine dO rfl (b.ai 1 rfl) (eU _) rfl rfl ?_)|(refine cv (Q:=an .i64 8 (cV l 1 3 (λ_=>0))) (eU _) (b.ai 0 rfl) rfl (e6) rfl rfl rfl rfl ?_;intro t d f n;replace b:=b.bk 0 d f;clear d f n))
  exact FT
