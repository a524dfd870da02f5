import Derived.Test.YtdmdbgabjcbjiaaGreatDoorA07
import Derived.Test.YtdmdbgabjcbjiaaGreatDoorA08
set_option maxHeartbeats 0
set_option maxRecDepth 100000
set_option linter.all false
namespace Go.Proofs.YtdmdbgabjcbjiaaGreatDoor
open Go.RowKit fD cr hs a7 _root_.Go.Proofs.Tryz
variable{e g:Prop}{f k:aj}{i:aY}{m j a d:Nat}{c l v:Int}(b:aj)
theorem acF:bT prog 378 14:=⟨_,underlying378,rfl,ar⟩
theorem GK(a:Nat):kn b (a+1)=kn b a++[b (18+a) !=0]:=by simp[kn,mm]
theorem Pt(a:Nat):(kn b a).length=a:=by simp[kn]
theorem Pu(b:Nat)(a:bj b->e:=by
 intro o;have b:=q.out.dn;go_in;have y:=b.ah 0 8;go_wp2_with fail
 refine(pA _ c _ _ o 1 b.q R R r.out).mono ?_;refine oV ?_;clear b;intro s C w B z b;go_wp2_with fail
 exact xp):e:=a ⟨⟩
theorem GL(a:Nat)(c:g)(b:bj a->cZ g->e:=by intro zb za;have q:=Y t;have p:=Y t.m;have n:=Y t.off;have r:=Y (show g.length<=zb from Z);revert q p n r;exact za.out):e:=b ⟨⟩ ⟨c⟩
theorem B8(a:N)(aA c j:Nat)(h:af)(g:Qah)(f:aY)(m k:aj)(t:hl a aA c j h g f m k)(u:g.length<=1000000000)(d:Bool):Calls prog 284 #[ab aA,.bool d] a (kK a aA c j h f k (g++[d]) m):=by
 refine GL 1099511627776 λq p n r=>?_;cases d
 .exact Pu 0
 .exact Pu 1
theorem uL(b d a c:Bool)(e:N):(binOp .eql 223 (.agg #[.bool b,.bool d]) (.agg #[.bool a,.bool c])).run prog e=.ok (.bool (b==a&&d==c)) e:=by cases b<;>cases d<;>cases a<;>cases c<;>kernel_rfl
theorem xq(b:Qah){a:Qah}(c:a=[]):b++a=b:=by rw[c,eG]
theorem uM(b:Nat)(a:bj b->e:=by
 intro zc;have b:=q.out.dn;go_in;have z:=b.ah 0 9;refine pR λC F=>?_;go_wp2_with(refine de (#[.bool (a 1 !=0),.bool (a 2 !=0)]) rfl gv (p.out.S b.aa n.out) (λj k=>kp) rfl rfl ?_)
 refine xr D.out ?_;clear b;intro K E b;have w:=b.ah 0 8;go_wp2_with fail
 refine(xb _ y _ _ zc b.q R r.out).mono ?_;exact Pv):e:=a ⟨⟩
theorem acG(b:Nat)(a:bj b->e:=by
 intro zd;have w:=b.ah 0 8;go_wp2_with fail
 refine(xb _ y _ _ zd b.q R r.out).mono ?_;exact Pv):e:=a ⟨⟩
theorem GM(b:Nat)(a:bj b->e:=by intro zf;have b:=q.out.dn;go_in;have z:=b.ah 0 9;refine pR λC F=>?_;exact acG zf):e:=a ⟨⟩
theorem Pv(a:e:=by
 refine oV ?_;clear b;intro zp zi l x A b;go_wp2_with fail
 rw[e];exact GN):e:=a
theorem acH(s:N)(aA y B:Nat)(I:af)(g:Qah)(c:aY)(Q a:aj)(t:hl s aA y B I g c Q a)(zl:g.length<=100000000)(P:dV c a):Calls prog 263 #[ab aA] s (kK s aA y B I c a (g++eb c a) Q):=by
 refine GL 1000000000 λq p n r=>?_;have f:=P.k;have D:=Y λs(zh:ag s B 233 (ap a))=>BS s B a zh;have zo:=λd=>uL true false true false d;have zk:=λd=>uL true false false true d;have zq:=λd=>uL false true true false d;have zn:=λd=>uL false true false true d;have zs:=λd=>uL true true true false d;have zm:=λd=>uL true true false true d;have ze:((a 1 !=0)=true/\(a 2 !=0)=false/\a 2=0)\/((a 1 !=0)=false/\(a 2 !=0)=true/\¬a 2=0/\a 1=0)\/((a 1 !=0)=true/\(a 2 !=0)=true/\¬a 2=0/\¬a 1=0)\/a 0≠2:=by
  by_cases u:a 1=0<;>by_cases l:a 2=0<;>by_cases L:a 0=2;all_goals first|(exact .inr (.inr (.inr L)))|skip
  .have:=P.ja L;omega
  .exact .inr (.inl ⟨by simp[u],by simp[l],l,u⟩)
  .exact .inl ⟨by simp[u],by simp[l],l⟩
  .exact .inr (.inr (.inl ⟨by simp[u],by simp[l],l,u⟩))
 by_cases o:c.t=1
 .have b:=q.out.dn;go_in;have z:=b.ah 0 9;go_wp2_with fail
  rw[xq _ (show eb c a=[] by unfold eb;rw[ae o])];exact uN
 .have zr:=r.out;rcases f with f|f|f
  .have e:eb c a=dh (0:Int):=by unfold eb my;simp only[M o,f,show¬((0:Int)=1)from R,show¬((0:Int)=2)from R,k2];rfl
   exact GM 0
  .by_cases O:c.t=2
   .have e:eb c a=dh (3:Int):=by unfold eb my;simp only[M o,f,eB,O];rfl
    exact GM 3
   .have e:eb c a=dh (7:Int):=by unfold eb my;simp only[M o,f,eB,M O];rfl
    exact GM 7
  .rcases ze with⟨W,J,h⟩|⟨W,J,h⟩|⟨W,J,h⟩|h
   .cases m:ea a
    all_goals rw[m]at D
    .have e:eb c a=dh (1:Int):=Pw;exact uM 1
    .have e:eb c a=dh (2:Int):=Pw;exact uM 2
   .cases m:ea a
    all_goals rw[m]at D
    .have e:eb c a=dh (3:Int):=Px;exact uM 3
    .have e:eb c a=dh (4:Int):=Px;exact uM 4
   .cases m:ea a
    all_goals rw[m]at D
    .have e:eb c a=dh (5:Int):=Py;exact uM 5
    .have e:eb c a=dh (6:Int):=Py;exact uM 6
   .exact absurd f h
theorem Pz(a:g)(b:g->e:=by intro zj;have G:=b.ah 0 0;have C:=b.ah 0 13;have B:=jx (p.out.S b.aa n.out) 17;refine xt 1 4 10 11 12 13 14 216 ?_;intro b;refine ax ?_;refine el λA u=>?_;refine eI (X (a 0)) rfl rfl rfl rfl (b.ai 0 rfl) (c9 rfl) rfl rfl ?_;revert G C B b A u;exact zj):e:=b a
theorem acI(h:N)(aA l s:Nat)(P:af)(g:Qah)(c:aY)(a f:aj)(t:hl h aA l s P g c a f)(zB:g.length<=200000000)(Q:f 17=0)(zo:1<=a 0/\a 0<=31):Calls prog 265 #[ab aA] h (kK h aA l s P c f (g++iJ c f) a):=by
 refine GL 1000000000 λq p n O=>?_;have zq:=Y (show(g++[f 4 !=0]).length<=1000000000 by rw[aZ];simp;omega);have x:=Y λh(y:ag h s 233 (ap f))=>BS h s f y;have H:=Y λh=>uo h c;obtain⟨zC,aU⟩:=zo;cases z:ea f
 .rw[z]at x;have b:=q.out.dn;go_in;have I:=b.ah 0 13;go_wp2_with fail
  refine xr x.out ?_;clear b;intro K E b;go_wp2_with fail
  rw[xq _ (show iJ c f=[] by unfold iJ;rw[z];rfl)];exact uN
 .rw[z]at x;cases y:c.both
  all_goals rw[y]at H
  .have b:=q.out.dn;go_in;have I:=b.ah 0 13;go_wp2_with fail
   refine(x.out _ (p.out.S b.aa n.out)).mono ?_;rintro e K ⟨rfl,E⟩;replace b:=b.aS E;go_wp2_with(refine de (bl c) rfl (cE _) (b.ai 0 rfl) (λj k=>pS) rfl rfl ?_)
   refine hD H.out ?_;clear b;intro zp W b;have zs:=b.ah 0 8;refine xu 17 λF w=>?_;go_wp2_with fail
   have zr:=b.ah 0 8;have zn:=b.ah 0 13;have zc:=jx (p.out.S b.aa n.out) 17;replace b:=b.bd;refine rg [] [0,1,2,3,4,5,6,7,8,9,10,211] ?_;refine ax ?_;refine iC (qZ _ l _ _ 0 b.q R O.out) ?_;refine sD ?_;clear b;intro D zf zl J L b;refine ax ?_;have zk:=b.ah 0 0;have zm:=b.ah 0 13;have zd:=jx (p.out.S b.aa n.out) 17;go_wp2_with fail
   refine Pz ?_;clear b;intro G C B b A u;intro o (ze:ag _ _ _ #[X (a 0),X (a 1),X (a 2),X (a 3),X (a 4),X (a 5),X (a 6),X (a 7),ab l,X c.t,X c.s,.bool c.i,.bool c.n,ab s]) m zD;replace b:=b.bk 0 ze m;refine u _ _ ?_;refine ax ?_;go_wp2_with fail
   rw[show iJ c f=dE 0 by unfold iJ;rw[z,y,Q];rfl];exact xp
  .have b:=q.out.dn;go_in;have I:=b.ah 0 13;go_wp2_with fail
   refine(x.out _ (p.out.S b.aa n.out)).mono ?_;rintro e K ⟨rfl,E⟩;replace b:=b.aS E;go_wp2_with(refine de (bl c) rfl (cE _) (b.ai 0 rfl) (λj k=>pS) rfl rfl ?_)
   refine hD H.out ?_;clear b;intro zp W b;have zs:=b.ah 0 13;have F:=kF (p.out.S b.aa n.out) 4;go_wp2_with fail
   refine(B8 _ aA l s _ _ c a f (q.out.now b (t:=0) rfl).1 O.out (f 4 !=0)).mono ?_;refine B9 ?_;clear b;intro D zf zy J L b;have w:=b.ah 0 8;refine xu 17 λzr zn=>?_;go_wp2_with fail
   have zc:=b.ah 0 8;have zk:=b.ah 0 13;have zm:=jx (p.out.S b.aa n.out) 17;replace b:=b.bd;refine rg [] [0,1,2,3,4,5,6,7,8,9,10,211] ?_;refine ax ?_;refine iC (qZ _ l _ _ 0 b.q R zq.out) ?_;refine sD ?_;clear b;intro o zv zu m zt b;refine ax ?_;have zd:=b.ah 0 0;have G:=b.ah 0 13;have C:=jx (p.out.S b.aa n.out) 17;go_wp2_with fail
   refine Pz ?_;clear b;intro B zA zw b A u;intro zz (zh:ag _ _ _ #[X (a 0),X (a 1),X (a 2),X (a 3),X (a 4),X (a 5),X (a 6),X (a 7),ab l,X c.t,X c.s,.bool c.i,.bool c.n,ab s]) zi zE;replace b:=b.bk 0 zh zi;refine u _ _ ?_;refine ax ?_;go_wp2_with fail
   rw[show iJ c f=[f 4 !=0]++dE 0 by unfold iJ;rw[z,y,Q];rfl];rw[<-b5];exact xp
theorem acJ(d:N)(aA g f:Nat)(l:af)(r:Qah)(h:aY)(s a:aj)(u:hl d aA g f l r h s a)(I:r.length<=300000000):Calls prog 266 #[ab aA] d (kK d aA g f l h a (r++iK a) s):=by
 have q:=Y u;have p:=Y u.m;have n:=Y u.off;have G:=Y I;have o:=Y λd(za:ag d f 233 (ap a))=>BS d f a za;cases m:ea a
 .rw[xq _ (show iK a=[] by unfold iK;rw[m];simp)];rw[m]at o;by_cases P:a 0=2
  .have b:=q.out.dn;go_in;refine pR λz C=>?_;go_wp2_with fail
   refine xr o.out ?_;clear b;intro K E b;go_wp2_with fail
   exact uN
  .have b:=q.out.dn;go_in;refine pR λz C=>?_;go_wp2_with fail
   exact uN
 .rw[m]at o;by_cases A:a 0=2
  .have b:=q.out.dn;go_in;refine pR λz C=>?_;go_wp2_with fail
   refine xr o.out ?_;clear b;intro K E b;have F:=b.ah 0 13;go_wp2_with(refine de (#[.bool (a 18 !=0),.bool (a 19 !=0),.bool (a 20 !=0),.bool (a 21 !=0),.bool (a 22 !=0),.bool (a 23 !=0)]) rfl nl (p.out.S b.aa n.out) (λj k=>q3) rfl rfl ?_)
   have H:=Y b;go_loopw [27] (λx wr=>∃c:Nat,c<=6/\x=X c/\∃y,Hid (av (aA::l) d wr [(aA,378,eJ s g h f)] y λt=>c0 t g y (r++kn a c))) (λx _=>6-(intOf x).toNat)
   .exact⟨0,Z,rfl,l,by rw[show kn a 0=[]from rfl,eG];exact H⟩
   .obtain⟨c,P,rfl,y,O⟩:=hrel;have b:=O.out;by_cases W:c<6
    .have B:(c:Int)<6:=Z;have ze:=λt=>uz a c W t;go_wp2_with fail
     refine(B8 _ aA g f _ _ h s a (q.out.now b (t:=0) rfl).1 (by rw[aZ,Pt];have:=G.out;omega) (a (18+c) !=0)).mono ?_;refine B9 ?_;clear b;intro zh zc zd zb zi b;go_wp2_with fail
     exact⟨⟨c+1,Z,a8,_,Y (by rw[GK,<-b5];exact b)⟩,bF⟩
    .have B:¬((c:Int)<6):=Z;obtain rfl:c=6:=Z;go_wp2_with fail
     rw[show iK a=kn a 6 by unfold iK;rw[ae ⟨A,m⟩]];exact xp
  .have b:=q.out.dn;go_in;refine pR λz C=>?_;go_wp2_with fail
   rw[xq _ (show iK a=[] by unfold iK;rw[M (λQ=>A Q.1)])];exact uN
theorem sE(c:aj)(a:Nat):je b c (a+1)=je b c a++jB b c a:=rfl
theorem acK{b:aj}(a:Nat):(jB b f a).length<=4031:=by
 unfold jB;split
 .simp
 split
 .have:=NY (bO b a) 0;omega
 .rw[aZ];have:=NY (bO b a) 1;have:=qY (bO b a 0-e0 b f a (1+(a-3)));omega
theorem B'(b c:aj):∀a,(je b c a).length<=4031*a
 |0=>by simp[je]
 |a+1=>by rw[sE,aZ];have:=B' b c a;have:=acK (b:=b) (f:=c) a;omega
theorem acL(d:aj)(c:Nat)(f:c<6)(e:b 0=1)(a:Nat)(g:a<8):e0 b d (c+1) a=if a=1+(c-3)then bO b c 0 else e0 b d c a:=by
 unfold e0;simp only[ae e];rcases(by omega:c=0\/c=1\/c=2\/c=3\/c=4\/c=5)with rfl|rfl|rfl|rfl|rfl|rfl
 all_goals rcases(by omega:a=0\/a=1\/a=2\/a=3\/a=4\/a=5\/a=6\/a=7)with rfl|rfl|rfl|rfl|rfl|rfl|rfl|rfl
 all_goals simp[bO]
theorem q8(a:aj)(c:Nat)(d:b 0≠1):e0 b a c=a:=by funext e;unfold e0;rw[M d]
theorem PA{b:aj}(d:Nat)(m:d<=6)(l:dV i b)(h:ig f)(a:Nat)(k:1<=a)(j:a<=3):-4095<=e0 b f d a/\e0 b f d a<=4095:=by
 have e:=h.Bh a k j;have c:=λg(n:g<6)=>l.aR (24+64*g) Z Z;unfold e0;split
 .split
  .exact c _ Z
  .split
   .exact c 4 Z
   .split
    .exact c 5 Z
    .exact e
 .exact e
theorem acM(h:Nat)(a:h<3):(eJ f m i j)[1+h]? =some (.int .i64 (f (1+h))):=by exact Ca
theorem acN(h:Nat)(v:Int)(a:h<3):(eJ f m i j).setIfInBounds (1+h) (X v)=eJ (aV f (1+h) v) m i j:=by exact Ca
theorem PB{b:aj}(a:Nat)(c:a<6):(ap b)[24+a*64]? =some (.int .i64 (bO b a 0)):=by have:=so (c:=b) a c 0 (by rw[gO];decide);rw[fs,dw R]at this;exact this
theorem PC{a:aj}{c:Int}(d:c=0\/c=1)(f:∀b,b<64->-4095<=a b/\a b<=4095):lQ a c=0:=(F8 d (xc.2 λe g _=>f e g)).1
theorem PD(a:g)(b:g->e:=by intro zA;have zn:=b.ah 0 8;refine GO 13 213 ?_;intro E b;refine Xc ?_;refine hh (aL:=an .i64 64 (bO a d)) (a64 _) (p.out.S b.aa n.out) (so d g) rfl rfl rfl ?_;simp only[az];revert zn E b;exact zA):e:=b a
theorem acO(c:N)(aA t u:Nat)(za:af)(W:Qah)(I:aY)(f a:aj)(zb:hl c aA t u za W I f a)(zq:W.length<=400000000)(zk:dV I a)(zt:ig f):Calls prog 267 #[ab aA] c (kK c aA t u za I a (W++je a f 6) (e0 a f 6)):=by
 have q:=Y zb;have p:=Y zb.m;have n:=Y zb.off;have zw:=Y zq;have A:=Y zk;have zp:=Y zt;have zT:=Y λ(d:Nat)(zc:d<6)=>zk.qV (18+d) (by simp[hC];omega);clear zb zq zk zt;have b:=q.out.dn;go_in;have z:=b.ah 0 13;go_wp2_with(refine de (#[.bool (a 18 !=0),.bool (a 19 !=0),.bool (a 20 !=0),.bool (a 21 !=0),.bool (a 22 !=0),.bool (a 23 !=0)]) rfl nl (p.out.S b.aa n.out) (λj k=>q3) rfl rfl ?_)
 clear z;have zy:=Y b;clear b;go_loopw [12] (λzd wr=>∃d:Nat,d<=6/\zd=X d/\∃zo,Hid (av (aA::za) c wr [(aA,378,eJ (e0 a f d) t I u)] zo λG=>c0 G t zo (W++je a f d))) (λzd _=>6-(intOf zd).toNat)
 .exact⟨0,Z,rfl,za,by rw[show je a f 0=[]from rfl,eG,show eJ (e0 a f 0) t I u=eJ f t I u from uA λj _=>by unfold e0;simp];exact zy⟩
 .obtain⟨d,zc,rfl,zo,zr⟩:=hrel;clear zy;have b:=zr.out;clear zr;by_cases g:d<6
  .have zW:(d:Int)<6:=Z;have zS:∀j,j<64->-4095<=bO a d j/\bO a d j<=4095:=λj k=>A.out.aR (24+64*d+j) Z Z;have z':=zT.out d g;by_cases r:a (18+d)=0
   .have s:a 0≠1:=λe=>by have:=(A.out.oQ e).2.2 (18+d) Z Z;omega
    have zj:∀G,_:=λG=>uz a d g G;rw[show(a (18+d) !=0)=false from pT]at zj;go_wp2_with fail
    rw[q8 a f d s]at b;exact⟨⟨d+1,Z,a8,_,Y (by rw[sE,show jB a f d=[] by unfold jB;rw[ae r],eG,q8 a f (d+1) s];exact b)⟩,bF⟩
   .have zj:∀G,_:=λG=>uz a d g G;rw[show(a (18+d) !=0)=true from pT]at zj;by_cases H:a 0=2
    .have s:a 0≠1:=Z;refine pR λC F=>?_;have w:=b.ah 0 8;go_wp2_with fail
     clear C F w;refine PD ?_;clear b;intro zn E b;refine iC (N5 _ t _ _ (bO a d) 0 b.q PE) ?_;refine sD ?_;clear b;intro z7 z6 zI zZ zV b;clear zI zZ zV;refine ax ?_;clear zn E;go_wp2_with fail
     rw[q8 a f d s]at b;exact⟨⟨d+1,Z,a8,_,Y (by rw[sE,show jB a f d=ij (bO a d) 0 by unfold jB;rw[M r,ae H],<-b5,q8 a f (d+1) s];exact b)⟩,bF⟩
    .refine PF λs h ak B zh O P v y l x=>?_;have zH:=zS 0 R;rw[<-y]at P;rw[<-x]at zH;have zi:=Y ak;have zv:=Y y;have K:=Y x;clear ak y x;refine pR λzz zK=>?_;go_wp2_with fail
     clear zz zK;replace b:=b.bd;refine rg [] [0,1,3,4,5,102,6,7] ?_;refine ax ?_;refine bN (O.out _) ?_;refine Cb ?_;clear b;intro zu z1 b;refine ax ?_;have zN:=b.ah 0 8;have zC:=b.ah 0 13;go_wp2_with fail
     clear zN zC;have zO:=b.ah 0 8;have zL:=b.ah 0 13;have zU:zu.cell? ⟨aA,1+h,none⟩=some (.int .i64 v):=by rw[zv.out];exact b.au 0 (1+h) rfl (acM h B)
     have zB:zu.cell? ⟨u,24+d*64,none⟩=some (.int .i64 l):=by rw[K.out];exact(p.out.S b.aa n.out).au _|>.trans (PB d g)
     replace b:=b.bd;refine rg [] [0,1,2,3,4,5,6,7,8,9,10,11,12,13,14,15,16,17,218] ?_;refine ax ?_;refine iC (qZ _ t _ _ (l-v) b.q Z PE) ?_;refine sD ?_;clear b;intro D zf zl J L b;clear zl J L;refine ax ?_;have zE:D.cell? ⟨u,24+d*64,none⟩=some (.int .i64 l):=by rw[K.out];exact(p.out.S b.aa n.out).au _|>.trans (PB d g)
     clear zO zL zU zB;have zF:=b.ah 0 13;go_wp2_with(refine eI (X l) rfl rfl rfl rfl (b.ai 0 rfl) (by show 1+h<14;omega) rfl rfl ?_;intro o ze m zX;rw[acN h l B]at ze;replace b:=b.bk 0 ze m;clear ze m zX)
     clear zE;clear zF;refine PD ?_;clear b;intro zG zD b;refine iC (N5 _ t _ _ (bO a d) 1 b.q (by rw[aZ,aZ];have:=B' a f d;have:=qY (l-v);have:=zw.out;omega)) ?_;refine GP ?_;clear b;intro zs zP b;clear zG zD;go_wp2_with fail
     refine PG λQ=>?_;rw[uA Q]at b;have zM:jB a f d=dE (l-v)++ij (bO a d) 1:=by unfold jB;rw[M r,M H,<-zi.out,<-zv.out,<-K.out]
     exact⟨⟨d+1,Z,a8,_,Y (by rw[sE,zM];simpa only[b5]using b)⟩,bF⟩
  .have zW:¬((d:Int)<6):=Z;obtain rfl:d=6:=Z;go_wp2_with fail
   exact xp
def ch(e d:aj)(a c:Nat):aj:=if c=0 then d else λb=>if b=4+a*2 then e (5+4*a+2*(c-1))else if b=5+a*2 then e (6+4*a+2*(c-1))else d b
def kO(e:aY)(b c:aj)(a:Nat):Nat->List Bool
 |0=>[]
 |d+1=>kO e b c a d++hI e b (ch b c a d (4+a*2)) (ch b c a d (5+a*2)) a d
def gK(d:aY)(a b:aj):Nat->List Bool
 |0=>[]
 |c+1=>gK d a b c++mz d a b c
theorem acP(f:aY)(a:aj)(e d:Int)(b c:Nat):(hI f a e d b c).length<=63:=by unfold hI;rw[aZ,aZ];have:=qY (a (5+4*b+2*c)-e);have:=qY (a (6+4*b+2*c)-d);split<;>simp<;>omega
theorem Cc(e:aY)(c d:aj)(a:Nat):∀b,(kO e c d a b).length<=63*b
 |0=>by simp[kO]
 |b+1=>by rw[kO,aZ];have:=Cc e c d a b;have:=acP e c (ch c d a b (4+a*2)) (ch c d a b (5+a*2)) a b;omega
theorem GQ(d:aj)(c a:Nat)(e:a<2):bn b d c (4+c*2+a)=d (4+c*2+a):=by unfold bn;rw[M Z]
theorem xv(d:aY)(b c:aj)(a:Nat)(h:b (1+a)≠0):mz d b c a=kO d b (bn b c a) a (if b 3=0 then 1 else 2):=by
 have f:=GQ b c a 0 R;have g:=GQ b c a 1 R;rw[show 4+a*2+0=4+2*a from Z]at f;rw[show 4+a*2+1=5+2*a from Z]at g;unfold mz;rw[M h];by_cases e:b 3=0
 .rw[ae e,ae e,eG];show _=[]++hI d b (ch b (bn b c a) a 0 (4+a*2)) (ch b (bn b c a) a 0 (5+a*2)) a 0;rw[cU,show ch b (bn b c a) a 0=bn b c a from rfl,show 4+a*2=4+2*a from Z,show 5+a*2=5+2*a from Z,f,g]
 .rw[M e,M e];show _=([]++hI d b (ch b (bn b c a) a 0 (4+a*2)) (ch b (bn b c a) a 0 (5+a*2)) a 0)++hI d b (ch b (bn b c a) a 1 (4+a*2)) (ch b (bn b c a) a 1 (5+a*2)) a 1;rw[cU,show ch b (bn b c a) a 0=bn b c a from rfl];rw[show ch b (bn b c a) a 1 (4+a*2)=b (5+4*a) by unfold ch;simp,show ch b (bn b c a) a 1 (5+a*2)=b (6+4*a) by unfold ch;rw[M R];show(if 5+a*2=4+a*2 then _ else if 5+a*2=5+a*2 then _ else _)= _;rw[M Z,ae rfl];rfl];rw[show 4+a*2=4+2*a from Z,show 5+a*2=5+2*a from Z,f,g]
theorem PH(i:aj)(a:Nat)(h:b 0=2)(j:b (1+a)≠0)(c:Nat):ch b (bn b i a) a (if b 3=0 then 1 else 2) c=bn b i (a+1) c:=by
 have ak:∀f,f<2->(4+a*2+f-4)/2=a/\(4+a*2+f-4)%2=f:=λf o=>Z;have n:ch b (bn b i a) a (if b 3=0 then 1 else 2) c=if c=4+a*2 then b (5+4*a+(if b 3=0 then 0 else 2))else if c=5+a*2 then b (6+4*a+(if b 3=0 then 0 else 2))else bn b i a c:=by
  unfold ch;by_cases k:b 3=0
  .simp[k]
  .simp[k]
 rw[n];by_cases l:c=4+a*2
 .subst l;rw[ae rfl];have:=ak 0 R;rw[fs]at this;unfold bn;refine Eq.symm ((ae ⟨h,Z,Z,by rw[this.1];exact j⟩).trans ?_);rw[this.1,this.2,fs]
 .rw[M l];by_cases m:c=5+a*2
  .subst m;rw[ae rfl];have:=ak 1 R;rw[show 4+a*2+1=5+a*2 from Z]at this;unfold bn;refine Eq.symm ((ae ⟨h,Z,Z,by rw[this.1];exact j⟩).trans ?_);rw[this.1,this.2];congr 1;omega
  .rw[M m];unfold bn;by_cases e:4<=c/\c<4+2*a
   .by_cases g:b (1+(c-4)/2)≠0
    .exact(ae ⟨h,e.1,e.2,g⟩).trans (ae ⟨h,e.1,Z,g⟩).symm
    .exact(M (λd=>g d.2.2.2)).trans (M (λd=>g d.2.2.2)).symm
   .exact(M (λd=>e ⟨d.2.1,d.2.2.1⟩)).trans (M (λd=>e ⟨d.2.1,by have:=d.2.2.1;omega⟩)).symm
theorem PI(g:aj)(d:Nat)(h:b (1+d)=0)(a:Nat):bn b g (d+1) a=bn b g d a:=by
 unfold bn;by_cases c:b 0=2/\4<=a/\a<4+2*d/\b (1+(a-4)/2)≠0
 .rw[ae c,ae ⟨c.1,c.2.1,Z,c.2.2.2⟩]
 .rw[M c,M];intro e;apply c;refine⟨e.1,e.2.1,?_,e.2.2.2⟩;rcases jn a (4+2*d)with f|f
  .exact f
  .exfalso;apply e.2.2.2;rw[show(a-4)/2=d from Z];exact h
theorem xw(b:aY)(a c:aj)(d:a 0=2):jd b a c=(if b.both=true then[a 3 !=0]else[])++gK b a c 2:=by unfold jd;rw[ae d];rfl
theorem acQ(c:aY)(a d:aj)(b:Nat):(mz c a d b).length<=126:=by
 by_cases e:a (1+b)=0
 .unfold mz;rw[ae e];simp
 .rw[xv c a d b e];by_cases f:a 3=0
  .rw[ae f];have:=Cc c a (bn a d b) b 1;omega
  .rw[M f];exact Cc c a (bn a d b) b 2
theorem GR(d:aY)(b c:aj):∀a,(gK d b c a).length<=126*a
 |0=>by simp[gK]
 |a+1=>by rw[gK,aZ];have:=GR d b c a;have:=acQ d b c a;omega
theorem PJ(a b:Nat)(d:a<2)(c:b<2):(eJ f m i j)[4+a*2+b]? =some (.int .i64 (f (4+a*2+b))):=by exact GS
theorem acR(a:Nat)(d c:Int)(e:a<2):cC (eJ f m i j) (4+a*2) [.int .i64 d,.int .i64 c]=eJ (λb=>if b=4+a*2 then d else if b=5+a*2 then c else f b) m i j:=by rcases(by omega:a=0\/a=1)with rfl|rfl<;>rfl
theorem PK{d:aj}(a b:Nat)(ak:a<2)(f:b<2):∀c,c<(#[Value.int .i64 (d (5+4*a+2*b)),X (d (6+4*a+2*b))]:Qad).size->(ap d)[5+a*4+b*2+c]? =(#[Value.int .i64 (d (5+4*a+2*b)),X (d (6+4*a+2*b))]:Qad)[c]? :=λc e=>by have e:c<2:=e;rcases(by omega:a=0\/a=1)with rfl|rfl<;>rcases(by omega:b=0\/b=1)with rfl|rfl<;>rcases(by omega:c=0\/c=1)with rfl|rfl<;>exact fa R rfl
theorem acS{c:aj}(b a:Nat)(ak:b<2)(d:a<2):(ap c)[13+b*2+a]? =some (.int .i64 (c (13+2*b+a))):=by rcases(by omega:b=0\/b=1)with rfl|rfl<;>rcases(by omega:a=0\/a=1)with rfl|rfl<;>exact fa R rfl
theorem GU(c:aj)(a:Nat)(ak:a<2)(b:N):(Instr.index 223 (.agg #[.bool (c 1 !=0),.bool (c 2 !=0)]) (X a)).run prog b=.ok (.bool (c (1+a) !=0)) b:=n2 b _ _ 2 _ _ _ underlying223 underlying4 rfl uy .i64 a ak (by match a,ak with|0,_=>rfl|1,_=>rfl)
theorem Cd{c:aj}(f:∀e,e<4->-63<=c (5+4*a+e)/\c (5+4*a+e)<=63)(j:d<=2)(i:∀b,b<2->-63<=k (4+a*2+b)/\k (4+a*2+b)<=63)(b:Nat)(g:b<2):-63<=ch c k a d (4+a*2+b)/\ch c k a d (4+a*2+b)<=63:=by
 unfold ch;split
 .exact i b g
 .rename_i h;rcases(by omega:b=0\/b=1)with rfl|rfl
  .simp only[fs,eB];exact f (2*(d-1)) Z
  .simp only;rw[M Z,ae Z];have:=f (2*(d-1)+1) Z;rw[show 5+4*a+(2*(d-1)+1)=6+4*a+2*(d-1)from Z]at this;exact this
theorem PL(e:aj)(a d:Nat)(h i:Int)(j:h=b (5+4*a+2*d))(l:i=b (6+4*a+2*d))(c:Nat):(if c=4+a*2 then h else if c=5+a*2 then i else ch b e a d c)=ch b e a (d+1) c:=by
 have k:ch b e a (d+1) c=if c=4+a*2 then b (5+4*a+2*d)else if c=5+a*2 then b (6+4*a+2*d)else e c:=rfl
 rw[k,j,l];by_cases f:c=4+a*2
 .rw[ae f,ae f]
 .rw[M f,M f];by_cases g:c=5+a*2
  .rw[ae g,ae g]
  .rw[M g,M g];unfold ch;split
   .rfl
   .show(if c=4+a*2 then _ else if c=5+a*2 then _ else e c)=e c;rw[M f,M g]
theorem PM(a:e:=by
 have zr:=Y b;clear b;go_loopw [35] (λzb wr=>∃a:Nat,a<=2/\zb=X a/\∃ze,Hid (av (aA::zu) B wr [(aA,378,eJ (bn f h a) x g y)] ze λs=>c0 s x ze (za++gK g f h a))) (λzb _=>2-(intOf zb).toNat)
 .exact⟨0,Z,rfl,_,by rw[show gK g f h 0=[]from rfl,eG,show eJ (bn f h 0) x g y=eJ h x g y from uA λj _=>GV];exact zr⟩
 .obtain⟨a,ak,rfl,ze,zai⟩:=hrel;clear zr;have b:=zai.out;clear zai;by_cases A:a<2
  .have za3:(a:Int)<2:=Z;by_cases r:f (1+a)=0
   .have W:∀s,_:=λs=>GU f a A s;rw[show(f (1+a) !=0)=false from pT]at W;go_wp2_with fail
    rw[show eJ (bn f h a) x g y=eJ (bn f h (a+1)) x g y from uA λj _=>(PI f h a r j).symm]at b;exact⟨⟨a+1,Z,a8,_,Y PN⟩,bF⟩
   .refine GW λW w=>?_;go_wp2_with fail
    refine xr za8.out ?_;clear b;intro I u b;clear w;go_wp2_with fail
    have zr:=Y b;clear b;go_loopw [46] (λzb wr=>∃d:Nat,d<=G/\zb=X d/\∃ze,Hid (av (aA::zu) B wr [(aA,378,eJ (ch f (bn f h a) a d) x g y)] ze λs=>c0 s x ze (za++gK g f h a++kO g f (bn f h a) a d))) (λzb _=>G-(intOf zb).toNat)
    .exact⟨0,Z,rfl,_,by rw[show kO g f (bn f h a) a 0=[]from rfl,eG];exact zr⟩
    .obtain⟨d,zbG,rfl,ze,z7⟩:=hrel;clear zr;have b:=z7.out;clear z7;by_cases zbH:d<G
     .have zbc:(d:Int)<(G:Int):=Z;have zA:d<2:=Z;refine PO λzbC c zD l H=>?_;obtain⟨P,zF⟩:∃P,P=ch f (bn f h a) a d (4+a*2):=⟨_,rfl⟩;obtain⟨Q,zz⟩:∃Q,Q=ch f (bn f h a) a d (5+a*2):=⟨_,rfl⟩;obtain⟨zk,zah⟩:∃zk,zk=f (13+2*a+d):=⟨_,rfl⟩;have zq:=λj k=>(zaQ.out a A).v j k;have zau:=zq (2*d) Z;have zbo:=zq (2*d+1) Z;rw[show 5+4*a+(2*d+1)=6+4*a+2*d from Z,<-H]at zbo;rw[<-zD]at zau;refine PP λzd=>?_;have zaR:=Cd (d:=d) zq Z zd 0 R;have zaF:=Cd (d:=d) zq Z zd 1 R;rw[show 4+a*2+1=5+a*2 from Z,<-zz]at zaF;rw[fs,<-zF]at zaR;have zn:=Y zD;have zp:=Y H;have zC:=Y zF;have zL:=Y zz;have z8:=Y zah;clear zD H zF zz zah zq zd;cases zN:(f 3 !=0||g.field)
      all_goals rw[zN]at zG
      .have zO:=b.ah 0 13;go_wp2_with fail
       clear zO;refine PQ ?_;clear b;intro zI b;refine bN (zG.out _ (p.out.S b.aa n.out)) ?_;refine uB ?_;clear b;intro D J b;refine ax ?_;clear zI;have zax:=b.ah 0 13;go_wp2_with(first|(refine de (#[X c,X l]) rfl dI (p.out.S b.aa n.out) (by rw[zn.out,zp.out];exact PK a d A zA) rfl rfl ?_)|(refine cw _ (bQ 0 0) rfl rfl sm rfl ?_;intro zbu o zX m z';replace b:=b.aP zX m z';clear zX m;clear z';clear zax)|(refine cv (Q:=bQ c l) dI (b.ai 0 rfl) rfl (lN _ _) rfl rfl rfl rfl ?_;intro zs zZ zm zbi;replace b:=b.bk 0 zZ zm;clear zZ zm zbi;have zaU:=b.ah 1 8;have zaZ:=b.ah 0 0))
       clear zaU zaZ;have zaD:=b.ah 1 8;have za0:=b.ah 0 0;have zH:zs.cell? ⟨aA,4+a*2,none⟩=some (.int .i64 P):=PR;replace b:=b.bd;refine rg [] [0,1,2,3,4,5,6,7,8,9,10,11,12,13,14,215] ?_;refine ax ?_;refine iC (qZ _ x _ _ (c-P) b.q Z xx) ?_;refine sD ?_;clear b;intro zaH zbz zaX zaB zaz b;clear zaX zaB zaz;refine ax ?_;clear zaD za0 zH;have zaV:=b.ah 1 8;have zaJ:=b.ah 0 1;go_wp2_with fail
       clear zaV zaJ;have zaM:=b.ah 1 8;have zaG:=b.ah 0 1;have zM:zaH.cell? ⟨aA,4+a*2+1,none⟩=some (.int .i64 Q):=PS;replace b:=b.bd;refine rg [] [0,1,2,3,4,5,6,7,8,9,10,11,12,13,14,215] ?_;refine ax ?_;refine iC (qZ _ x _ _ (l-Q) b.q Z xx) ?_;refine GP ?_;clear b;intro zbF zby b;clear zaM zaG zM;go_wp2_with fail
       refine PT ?_;clear b;intro z1 b;go_wp2_with fail
       refine PU ?_;clear b;intro b zo;rw[zo]at b;have zS:hI g f (ch f (bn f h a) a d (4+a*2)) (ch f (bn f h a) a d (5+a*2)) a d=(dE (c-P)++dE (l-Q)):=by unfold hI;rw[zN,<-zn.out,<-zp.out,<-zC.out,<-zL.out];rfl
       exact PV
      .have za1:=b.ah 0 13;go_wp2_with fail
       clear za1;refine PQ ?_;clear b;intro zaP b;refine bN (zG.out _ (p.out.S b.aa n.out)) ?_;refine uB ?_;clear b;intro zaS zbE b;refine ax ?_;have zbj:zaS.cell? ⟨y,13+a*2+d,none⟩=some (.int .i64 zk):=by rw[z8.out];exact(p.out.S b.aa n.out).au _|>.trans (acS a d A zA)
       clear zaP;have zaW:=b.ah 0 13;go_wp2_with fail
       clear zbj;refine(B8 _ aA x y _ _ g _ f (q.out.now b (t:=0) rfl).1 xx _).mono ?_;refine B9 ?_;clear b;intro zbv zbx zbg za7 zaE b;clear zbg za7 zaE;clear zaW;have zbk:=b.ah 0 13;go_wp2_with(first|(refine de (#[X c,X l]) rfl dI (p.out.S b.aa n.out) (by rw[zn.out,zp.out];exact PK a d A zA) rfl rfl ?_)|(refine cw _ (bQ 0 0) rfl rfl sm rfl ?_;intro zbw zbr zad zaa zU;replace b:=b.aP zad zaa zU;clear zad zaa;clear zU;clear zbk)|(refine cv (Q:=bQ c l) dI (b.ai 0 rfl) rfl (lN _ _) rfl rfl rfl rfl ?_;intro zbp zab zY za2;replace b:=b.bk 0 zab zY;clear zab zY za2;have za6:=b.ah 1 8;have zaY:=b.ah 0 0))
       clear za6 zaY;have zbn:=b.ah 1 8;have zbq:=b.ah 0 0;have zH:zbp.cell? ⟨aA,4+a*2,none⟩=some (.int .i64 P):=PR;replace b:=b.bd;refine rg [] [0,1,2,3,4,5,6,7,8,9,10,11,12,13,14,215] ?_;refine ax ?_;refine iC (qZ _ x _ _ (c-P) b.q Z xx) ?_;refine sD ?_;clear b;intro zay zbB za5 zaw zbl b;clear za5 zaw zbl;refine ax ?_;clear zbn zbq zH;have zaA:=b.ah 1 8;have zaK:=b.ah 0 1;go_wp2_with fail
       clear zaA zaK;have zaL:=b.ah 1 8;have za9:=b.ah 0 1;have zM:zay.cell? ⟨aA,4+a*2+1,none⟩=some (.int .i64 Q):=PS;replace b:=b.bd;refine rg [] [0,1,2,3,4,5,6,7,8,9,10,11,12,13,14,215] ?_;refine ax ?_;refine iC (qZ _ x _ _ (l-Q) b.q Z xx) ?_;refine GP ?_;clear b;intro zbD zbI b;clear zaL za9 zM;go_wp2_with fail
       refine PT ?_;clear b;intro zbt b;go_wp2_with fail
       refine PU ?_;clear b;intro b zo;rw[zo]at b;have zS:hI g f (ch f (bn f h a) a d (4+a*2)) (ch f (bn f h a) a d (5+a*2)) a d=[zk==1]++(dE (c-P)++dE (l-Q)):=by unfold hI;rw[zN,<-zn.out,<-zp.out,<-zC.out,<-zL.out,<-z8.out];rfl
       exact PV
     .have zbc:¬((d:Int)<(G:Int)):=Z;obtain rfl:d=G:=Z;rw[zbb.out,show eJ (ch f (bn f h a) a (if f 3=0 then 1 else 2)) x g y=eJ (bn f h (a+1)) x g y from uA λj _=>PH f h a zj r j]at b;go_wp2_with fail
      exact⟨⟨a+1,Z,a8,_,Y (by rw[gK,xv g f h a r,<-b5];exact b)⟩,bF⟩
  .have za3:¬((a:Int)<2):=Z;obtain rfl:a=2:=Z;go_wp2_with fail
   rw[zW.out];exact GN):e:=a
theorem PV(a:e:=by exact⟨⟨d+1,Z,a8,_,Y (by rw[kO,zS];simpa only[b5]using b)⟩,bF⟩):e:=a
theorem PQ(a:g)(b:g->e:=by intro zat;have zI:=b.ah 0 13;replace b:=b.bd;refine PW ?_;revert zI b;exact zat):e:=b a
theorem PT(a:g)(b:cZ g->e:=by intro zaO;replace b:=b.bd;refine rg [] [0,1,2,3,4,5,6,207] ?_;refine jL ?_;refine iZ dI rfl rfl rfl (b.ai 0 rfl) ?_;refine ax ?_;refine el λzav zV=>?_;refine i1 (#[X c,X l]) rfl rfl rfl rfl dI (b.ai 1 rfl) (by show 4+a*2+2<=14;omega) (lN _ _) ?_;intro z1 zw zae zbm;replace zw:=(acR (f:=ch f (bn f h a) a d) (m:=x) (j:=y) (i:=g) a c l A)▸zw;replace b:=b.bk 1 zw zae;clear zw zae zbm;refine zV _ _ ?_;clear zV zav;refine ax ?_;revert z1 b;exact zaO.out):e:=b ⟨a⟩
theorem PU(a:g)(b:g->e:=by
 intro zaC;replace b:=b.drop 1;try dsimp only[List.drop]at b
 have zo:eJ (λj=>if j=4+a*2 then c else if j=5+a*2 then l else ch f (bn f h a) a d j) x g y=eJ (ch f (bn f h a) a (d+1)) x g y:=uA λj _=>PL f (bn f h a) a d c l zn.out zp.out j;revert b zo;exact zaC):e:=b a
theorem acT(B:N)(aA x y:Nat)(zu:af)(zc:Qah)(g:aY)(h f:aj)(zv:hl B aA x y zu zc g h f)(z6:zc.length<=500000000)(zE:dV g f)(zac:ig h):Calls prog 264 #[ab aA] B (kK B aA x y zu g f (zc++jd g f h) (bn f h 2)):=by
 have q:=Y zv;have p:=Y zv.m;have n:=Y zv.off;have zJ:=Y z6;have zT:=Y zac;have zG:=Y λB(H:ag B y 233 (ap f))=>FQ B g y f H;have zK:=Y λB=>uo B g;obtain⟨G,zt⟩:∃G,G=(if f 3=0 then 1 else 2:Nat):=⟨_,rfl⟩;have zbA:G<=2:=by rw[zt];split<;>omega
 have za8:=Y λB(H:ag B y 233 (ap f))=>show Calls prog 216 #[ab y] B λe zbf=>e=.returned (X G)/\V [] B zbf by have:=NI B y f H;rwa[show(if f 3=0 then 1 else 2:Int)=(G:Int) by rw[zt];split<;>rfl]at this
 have zbb:=Y zt;clear zv z6 zac zt;by_cases zj:f 0=2
 .have zaQ:=Y λa(ak:a<2)=>zE.d zj a ak;clear zE;cases H:g.both
  all_goals rw[H]at zK
  .have b:=q.out.dn;go_in;refine xu 0 λz C=>?_;go_wp2_with(refine de (bl g) rfl (cE _) (b.ai 0 rfl) (λj k=>pS) rfl rfl ?_)
   refine hD zK.out ?_;clear b;intro K E b;clear z C;have F:=b.ah 0 13;go_wp2_with(refine de (#[.bool (f 1 !=0),.bool (f 2 !=0)]) rfl gv (p.out.S b.aa n.out) (λj k=>kp) rfl rfl ?_)
   obtain⟨za,O⟩:∃zB,zB=zc:=⟨_,rfl⟩;have zaf:=Y (show za.length<=600000000 by rw[O];exact b7 zJ.out R);have zW:=Y (show zc++jd g f h=za++gK g f h 2 by rw[xw g f h zj,H,O];rfl);rw[<-O]at b;clear O;clear F;exact PM
  .have b:=q.out.dn;go_in;refine xu 0 λz C=>?_;go_wp2_with(refine de (bl g) rfl (cE _) (b.ai 0 rfl) (λj k=>pS) rfl rfl ?_)
   refine hD zK.out ?_;clear b;intro K E b;clear z C;have F:=b.ah 0 13;have w:=kF (p.out.S b.aa n.out) 3;go_wp2_with fail
   refine(B8 _ aA x y _ _ g h f (q.out.now b (t:=0) rfl).1 (b7 zJ.out R) (f 3 !=0)).mono ?_;refine B9 ?_;clear b;intro I zbs zbh u zba b;clear zbh u zba;clear F w;have zO:=b.ah 0 13;go_wp2_with(refine de (#[.bool (f 1 !=0),.bool (f 2 !=0)]) rfl gv (p.out.S b.aa n.out) (λj k=>kp) rfl rfl ?_)
   obtain⟨za,O⟩:∃zB,zB=zc++[f 3 !=0]:=⟨_,rfl⟩;have zaf:=Y (show za.length<=600000000 by rw[O];rw[aZ];have:=zJ.out;simp;omega);have zW:=Y (show zc++jd g f h=za++gK g f h 2 by rw[xw g f h zj,H,O];simp);rw[<-O]at b;clear O;clear zO;exact PM
 .clear zE;have b:=q.out.dn;go_in;refine pR λz C=>?_;go_wp2_with fail
  rw[xq _ (show jd g f h=[] by unfold jd;rw[M zj]),show bn f h 2=h by funext j;unfold bn;rw[M (λzk=>zj zk.1)]];exact uN
section
variable {f:aj}{n j:Nat}{i:aY}{h:Bool}
theorem xy(b:Nat)(d:a<2)(c:b<2):(c7 f n i j h)[4+a*2+b]? =some (.int .i64 (f (4+a*2+b))):=by exact GS
theorem Ce(a b:Nat)(v:Int)(d:a<2)(c:b<2):(c7 f n i j h).setIfInBounds (4+a*2+b) (X v)=c7 (aV f (4+a*2+b) v) n i j h:=by exact GS
theorem acU(e:a<2)(g:f (4+a*2)=c)(k:f (5+a*2)=l):∀b,b<(#[Value.int .i64 c,X l]:Qad).size->(c7 f n i j h)[4+a*2+b]? =(#[Value.int .i64 c,X l]:Qad)[b]? :=λb d=>by
 have d:b<2:=d;subst g k;rw[xy b e d];rcases(by omega:b=0\/b=1)with rfl|rfl
 .rfl
 .show some (Value.int .i64 (f (4+a*2+1)))=some (Value.int .i64 (f (5+a*2)));rw[show 4+a*2+1=5+a*2 from Z]
end
theorem acV(c:aj)(v:Int){b a:Nat}(ak:b<2)(d:a<2):(ap c).setIfInBounds (13+b*2+a) (X v)=ap (aV c (13+b*2+a) v):=ni _ Z sC
theorem PX(f:aj)(d e:Int){b c:Nat}(ak:b<2)(k:c<2):cC (ap f) (5+b*4+c*2) [.int .i64 d,.int .i64 e]=ap λa=>if a=5+4*b+2*c then d else if a=6+4*b+2*c then e else f a:=by
 rw[ap,nT (r:=2) (zk:=λa=>if a=0 then d else e) Z _ rfl λa h=>by
  have j:hC (5+b*4+c*2+a)=false:=sC;unfold hB;rw[j];match a,h with
  |0,_=>show _=some (Value.int .i64 (cV f (5+b*4+c*2) 2 (λa=>if a=0 then d else e) (5+b*4+c*2+0)));rw[cV,ae Z];simp
  |1,_=>show _=some (Value.int .i64 (cV f (5+b*4+c*2) 2 (λa=>if a=0 then d else e) (5+b*4+c*2+1)));rw[cV,ae Z];simp]
 refine eY λa h=>?_;unfold cV;by_cases g:a=5+4*b+2*c
 .rw[ae Z,ae g];exact ae Z
 .by_cases i:a=6+4*b+2*c
  .rw[ae Z,M g,ae i];exact M Z
  .rw[M Z,M g,M i]
theorem acW{l:aY}{b:aj}(ak:a<2)(f:d<2){e g:Int}(h:e=b (5+4*a+2*d))(j:g=b (6+4*a+2*d))(i:b (13+2*a+d)=0):ap (λc=>if c=5+4*a+2*d then e else if c=6+4*a+2*d then g else fz b a d c)=ap (fz b a (d+1)):=by
 rw[<-Pf ak f h j i.symm];refine eY λc k=>?_;split
 .rfl
 .split
  .rfl
  .split
   .rename_i q;rw[q,ab8 ak f]
   .rfl
theorem acX{b:aj}(ak:a<2)(h:d<2){e f v:Int}(g:e=b (5+4*a+2*d))(j:f=b (6+4*a+2*d))(i:v=b (13+2*a+d)):ap (λc=>if c=5+4*a+2*d then e else if c=6+4*a+2*d then f else aV (fz b a d) (13+a*2+d) v c)=ap (fz b a (d+1)):=by rw[<-Pf ak h g j i,show 13+a*2+d=13+2*a+d from Z];rfl
theorem PY{b:aj}{m:Nat}{g:Bool}(n:c=b (5+4*a+2*d))(o:l=b (6+4*a+2*d)):c7 (aV (aV (ch b k a d) (4+a*2+0) c) (4+a*2+1) l) m i j g=c7 (ch b k a (d+1)) m i j g:=pP λe _=>by
 rw[<-PL b k a d c l n o e];show(if e=4+a*2+1 then l else if e=4+a*2 then c else ch b k a d e)= _;by_cases f:e=4+a*2
 .rw[ae f,M Z,ae f]
 .rw[M f,M f];by_cases h:e=5+a*2
  .rw[ae h,ae Z]
  .rw[M h,M Z]
theorem acY(b:v=0\/v=1):∃a:Bool,v=(a.toNat:Int)/\(v==1)=a:=by exact PZ
theorem P0(a:e:=by rw[zK]at b;have zy:=F.out.fin b (t:=0) (j:=1) rfl rfl;rw[zT.out];go_ret;exact⟨rfl,zy.2⟩):e:=a
theorem P1(a:g)(b:cZ g->e:=by intro z';refine(Gt _ r W zn w O L _ g _ _ zd (F.out.now b (t:=0) (j:=1) rfl rfl) n 63 c R R zp.1 zp.2 Z Z z7.out).mono ?_;rintro e zC ⟨rfl,z6,C⟩;replace b:=z6.again (b.aa.trans C (b3.refl _ _));clear z6 C;revert zC b;exact z'.out):e:=b ⟨a⟩
theorem P2(a:g)(b:g->e:=by intro zad;have P:=b.ah 0 13;replace b:=b.bd;refine PW ?_;revert P b;exact zad):e:=b a
theorem P3(a:g)(b:cZ g->e:=by intro zal;refine(Gt _ r W zn w O L _ g _ _ zd (F.out.now b (t:=0) (j:=1) rfl rfl) v 63 l R R zI.1 zI.2 Z Z zU.out).mono ?_;rintro e o ⟨rfl,zV,m⟩;replace b:=zV.again (b.aa.trans m (b3.refl _ _));clear zV m;revert o b;exact zal.out):e:=b ⟨a⟩
theorem P4(a:g)(b:cZ g->e:=by intro zac;refine GO 13 213 ?_;intro H b;refine nI ?_;refine hh (aL:=#[X c,X l]) dI (b.ai 0 rfl) (acU i zah.out zae.out) rfl rfl rfl ?_;refine ax ?_;refine el λD u=>?_;refine i1 (#[X c,X l]) rfl rfl rfl rfl dI (b.ai 1 rfl) (by rw[ap,gI];show 5+a*4+d*2+2<=408;omega) (lN _ _) ?_;intro zv x zb zG;revert H b D u zv x zb zG;exact zac.out):e:=b ⟨a⟩
theorem acZ(t:N)(r W zn w:Nat)(O:af)(L at_:Nat)(g:aY)(h f:aj)(zd:Bool)(a d:Nat)(i:a<2)(B:d<2)(z1:gg t r W zn w O L at_ g (ch f h a d) (fz f a d) zd)(zQ:dV g f)(zar:f 0=2)(zR:f (1+a)≠0)(zW:d=0\/f 3≠0)(zE:∀zo,zo<2->-63<=h (4+a*2+zo)/\h (4+a*2+zo)<=63)(zP:b0 O L at_ (hI g f (ch f h a d (4+a*2)) (ch f h a d (5+a*2)) a d)):Calls prog 217 #[ab r,X a,X d] t (nq t r W zn w O L (at_+(hI g f (ch f h a d (4+a*2)) (ch f h a d (5+a*2)) a d).length) g (ch f h a (d+1)) (fz f a (d+1)) zd):=by
 obtain⟨zc,zq⟩:∃zc,zc=at_+(hI g f (ch f h a d (4+a*2)) (ch f h a d (5+a*2)) a d).length:=⟨_,rfl⟩;rw[<-zq];have A:=Y zq;have F:=Y z1;have q:=Y zP;clear zq;have zA:=Y λt(zai:ag t w 233 (ap (fz f a d)))=>show Calls prog 244 #[bl g,ab w] t λe zaq=>e=.returned (.bool (f 3 !=0||g.field))/\V [] t zaq by have:=FQ t g w _ zai;rwa[show fz f a d 3=f 3 from rfl]at this
 have zay:(a:Int)<2:=Z;refine PO λzag c zi l zh=>?_;obtain⟨n,zD⟩:∃n,n=ch f h a d (4+a*2):=⟨_,rfl⟩;obtain⟨v,zf⟩:∃v,v=ch f h a d (5+a*2):=⟨_,rfl⟩;obtain⟨zm,zH⟩:∃zm,zm=f (13+2*a+d):=⟨_,rfl⟩;have za:=zQ.d zar a i;have zaa:zm=0\/zm=1:=by rw[zH];exact za.Fs d B
 have zw:(f 3 !=0||g.field)=false->f (13+2*a+d)=0:=λzk=>by simp only[tk,FB]at zk;obtain rfl:=zW.resolve_right (λzy=>zy zk.1);exact za.A8 zR zk.1 (by have:=zk.2;unfold aY.field at this;simpa using this)
 have J:=λj k=>za.v j k;have zp:=J (2*d) Z;have zI:=J (2*d+1) Z;rw[show 5+4*a+(2*d+1)=6+4*a+2*d from Z,<-zh]at zI;rw[<-zi]at zp;have zaf:=Cd (d:=d) J Z zE 0 R;have zab:=Cd (d:=d) J Z zE 1 R;rw[show 4+a*2+1=5+a*2 from Z,<-zf]at zab;rw[fs,<-zD]at zaf;have zah:=Y (show ch f h a (d+1) (4+a*2)=c by rw[zi];exact ae rfl);have zae:=Y (show ch f h a (d+1) (5+a*2)=l by rw[zh];exact(M Z).trans (ae rfl));have y:=Y zi;have z:=Y zh;have Q:=Y zD;have zZ:=Y zf;have zY:=Y (show v=ch f h a d (4+a*2+1) by rw[zf,show 4+a*2+1=5+a*2 from Z]);have zN:=Y zH;clear z1 zP zQ zi zh zD zf zH J zE za zW zR;cases zj:(f 3 !=0||g.field)
 all_goals rw[zj]at zA
 .have zat:=Y (zw zj);have e:hI g f (ch f h a d (4+a*2)) (ch f h a d (5+a*2)) a d=dE (c-n)++dE (l-v):=by unfold hI;rw[zj,<-y.out,<-z.out,<-Q.out,<-zZ.out];rfl
  rw[e]at q A;have zT:=Y (show zc=at_+(dE (c-n)).length+(dE (l-v)).length by rw[A.out,aZ,gk]);have z7:=Y q.out.left;have zU:=Y q.out.right;clear q A e zw;have b:=F.out.dn;go_in;have zt:=b.ah 0 13;go_wp2_with fail
  refine P2 ?_;clear zt b;intro P b;refine bN (zA.out _ (b.ai 1 rfl)) ?_;refine Cb ?_;clear b;intro zS zaw b;refine ax ?_;have zx:zS.cell? ⟨r,4+a*2,none⟩=some (.int .i64 n):=by rw[Q.out];exact b.au 0 _ rfl (xy 0 i R)
  clear P;go_wp2_with fail
  clear zx;refine P1 ?_;clear b;intro zC b;have zz:True:=trivial;go_wp2_with(clear zz;refine eI (X c) rfl rfl rfl rfl (b.ai 0 rfl) (by show 4+a*2<15;omega) rfl rfl ?_;intro zr s I zB;replace s:=Ce a 0 c i R▸s;replace b:=b.bk 0 s I;clear s I zB;have zs:zr.cell? ⟨r,4+a*2+1,none⟩=some (.int .i64 v):=by rw[zY.out];exact b.au 0 _ rfl (xy 1 i R|>.trans (by unfold aV;rw[M Z])))
  clear zs;refine P3 ?_;clear b;intro o b;have zu:True:=trivial;go_wp2_with(clear zu;refine eI (X l) rfl rfl rfl rfl (b.ai 0 rfl) (by show 4+a*2+1<15;omega) rfl rfl ?_;intro zL p G zF;replace p:=Ce a 1 l i R▸p;replace b:=b.bk 0 p G;clear p G zF)
  rw[PY y.out z.out]at b;refine P4 ?_;clear b;intro H b D u zv x zb zG;replace x:=PX (fz f a d) c l i B▸x;replace b:=b.bk 1 x zb;clear x zb zG;refine u _ _ ?_;clear u D;refine ax ?_;clear H;go_wp2_with fail
  have zK:=acW (l:=g) (b:=f) i B y.out z.out zat.out;exact P0
 .obtain⟨K,zav,zJ⟩:=acY zaa;have e:hI g f (ch f h a d (4+a*2)) (ch f h a d (5+a*2)) a d=[K]++(dE (c-n)++dE (l-v)):=by unfold hI;rw[zj,<-y.out,<-z.out,<-Q.out,<-zZ.out,<-zN.out,zJ];rfl
  rw[e]at q A;have zT:=Y (show zc=at_+1+(dE (c-n)).length+(dE (l-v)).length by rw[A.out,aZ,aZ,GX];omega);have zam:=Y q.out.left;have z7:=Y q.out.right.left;have zU:=Y q.out.right.right;subst zav;clear q A e zJ zw;have b:=F.out.dn;go_in;have zt:=b.ah 0 13;go_wp2_with fail
  refine P2 ?_;clear zt b;intro P b;refine bN (zA.out _ (b.ai 1 rfl)) ?_;refine Cb ?_;clear b;intro zS zaw b;refine ax ?_;clear P;have H:=b.ah 0 8;go_wp2_with fail
  refine(Gr K zam.out b.q).mono ?_;rintro e zC ⟨rfl,zM,C⟩;replace b:=b.kZ zM C;clear zM C;clear H;have zao:=b.ah 0 13;have zz:True:=trivial;go_wp2_with(clear zz;refine eI (X (K.toNat:Int)) rfl rfl rfl rfl (b.ai 1 rfl) xz rfl rfl ?_;intro zr s I zB;replace s:=acV _ (K.toNat:Int) i B▸s;replace b:=b.bk 1 s I;clear s I zB;have zx:zr.cell? ⟨r,4+a*2,none⟩=some (.int .i64 n):=by rw[Q.out];exact b.au 0 _ rfl (xy 0 i R))
  clear zx;refine P1 ?_;clear b;intro o b;clear zao;have zu:True:=trivial;go_wp2_with(clear zu;refine eI (X c) rfl rfl rfl rfl (b.ai 0 rfl) (by show 4+a*2<15;omega) rfl rfl ?_;intro zL p G zF;replace p:=Ce a 0 c i R▸p;replace b:=b.bk 0 p G;clear p G zF;have zs:zL.cell? ⟨r,4+a*2+1,none⟩=some (.int .i64 v):=by rw[zY.out];exact b.au 0 _ rfl (xy 1 i R|>.trans (by unfold aV;rw[M Z])))
  clear zs;refine P3 ?_;clear b;intro zv b;have zax:True:=trivial;go_wp2_with(clear zax;refine eI (X l) rfl rfl rfl rfl (b.ai 0 rfl) (by show 4+a*2+1<15;omega) rfl rfl ?_;intro zaA ze zO zap;replace ze:=Ce a 1 l i R▸ze;replace b:=b.bk 0 ze zO;clear ze zO zap)
  rw[PY y.out z.out]at b;refine P4 ?_;clear b;intro zas b D u zaz zl zX zau;replace zl:=PX (aV (fz f a d) (13+a*2+d) (K.toNat:Int)) c l i B▸zl;replace b:=b.bk 1 zl zX;clear zl zX zau;refine u _ _ ?_;clear u D;refine ax ?_;clear zas;go_wp2_with fail
  have zK:=acX (b:=f) i B y.out z.out zN.out;exact P0
