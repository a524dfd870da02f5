import Derived.Test.YtdmdbgabjcbjiaaGreatDoorA09
import Derived.Test.YtdmdbgabjcbjiaaGreatDoorA10
set_option maxHeartbeats 0
set_option maxRecDepth 100000
set_option linter.all false
namespace Go.Proofs.YtdmdbgabjcbjiaaGreatDoor
open Go.RowKit fD cr hs a7 _root_.Go.Proofs.Tryz
variable{G:Qak}{za:Qal}{x:Act}{f p:N}{F:bU}{zo zq zn zp:Qau}{i:Qad}{k:aY}{b:aj}{E:cS}{h y zd ze d g j e n:Nat}{D:dP}{z zf:Prop}{W:Qan}{C v:Int}{l s J zr K B:af}{q:bX}{zs:Qae}(c:N)(a:aD)
theorem adG:dJ 378 (.agg #[X 0,X 0,X 0,X 0,X 0,X 0,X 0,X 0,.pointer none,X 0,X 0,.bool false,.bool false,.pointer none]):=dM
theorem QB(d:aj)(c:Nat)(a:aY)(b:Nat):prog.built 378 [(0,.agg (an .i64 8 d)),(1,.pointer (some ⟨c,0,none⟩)),(2,.agg (bl a)),(3,.pointer (some ⟨b,0,none⟩))]=some (eJ d c a b):=ar
theorem adH{a:Qax}{c:Qaa}(i:aj)(d:Nat)(b:aY)(g:Nat)(m:cB a G x)(o:a.op=.build 378 #[(0,zo),(1,zq),(2,zn),(3,zp)])(k:x.eval zo=(an .i64 8 i))(e:x.eval zq=ab d)(h:x.eval zn=(bl b))(j:x.eval zp=ab g) (l:wpList prog G c za (x.put a.dst (eJ i d b g)) f):wpList prog G c (a::za) x f:=nf λp n=>by
 rw[ae m];refine q0 _ _ o ?_ ?_
 .simp only[gm,cj,ee,k,e,h,j,QB];rfl
 .simp only[gm,cj,ee,k,e,h,j,QB];exact n _ _ l
theorem adI(d:aj)(c:Nat)(a:aY)(b:Nat):(eJ d c a b).all (·.oneCell')=true:=by simp[eJ,Value.oneCell']
section
variable {c f p:N}{aA H y:Nat}{s zi B:af}{K zy:Qah}{k:aY}{a zh b:aj}{q:bX}{t e:Nat}
theorem av.xC(d:av s c f q B λf=>c0 f H B K)(h:q[t]? =some (aA,378,eJ a H k y))(g:q[e]? =some (y,233,ap b))(j:t≠e):hl f aA H y B K k a b:=⟨d.ai t h,d.ai e g,d.q,λi=>d.a.d _ i (ca.2 ⟨_,bS h,rfl⟩),λi=>d.a.d _ i (ca.2 ⟨_,bS g,rfl⟩),d.ne t e h g j⟩
theorem av.xD(d:av s c f q B F)(e:q[t]? =some (aA,378,i))(D:hl p aA H y zi zy k zh b)(C:V (aA::B) f p)(G:b3 f B zi):av s c p (q.set t (aA,378,eJ zh H k y)) zi λf=>c0 f H zi zy:=by
 have a:=d.size;have ak:∀j h,q[j]? =some h->t≠j->h.1∉aA::B:=λj h r g x=>by exact OA
 have E:(q.set t (aA,378,eJ zh H k y)).map (·.1)=q.map (·.1):=by exact Bd
 have I:b3 c s (aA::B):=λo l=>by
  rcases bu.1 l with rfl|l
  .exact d.h.n _ (bS e)
  .exact d.a.n o l
 exact OB
end
theorem ig.pred{c:aj}(j:dV k b)(d:ig c)(f:Nat)(l:f<=2):ig (bn b c f):=by
 have i:∀a,a<4->bn b c f a=c a:=λa m=>by unfold bn;rw[M Z]
 refine⟨by rw[i 0 R];exact d.q,λa g e=>by rw[i a Z];exact d.Bh a g e,λa g e=>?_⟩;unfold bn;split
 .rename_i h;have:=(j.d h.1 ((a-4)/2) Z).v ((if b 3=0 then 0 else 2)+(a-4)%2) rX;rw[<-gk]at this;exact this
 .exact d.v a g e
theorem xE(b:aY)(a:aj):(eb b a).length<=31:=by
 unfold eb;split
 .simp
 .exact BI _
theorem Cn(c:aY)(a b:aj):(jd c a b).length<=253:=by
 by_cases d:a 0=2
 .rw[xw c a b d,aZ];have:=GR c a b 2;split<;>simp<;>omega
 .unfold jd;rw[M d];simp
theorem Ha(b:aY)(a:aj):(iJ b a).length<=32:=by
 unfold iJ;have:=qY (a 17);split
 .rw[aZ];split<;>simp<;>omega
 .simp
theorem QC(a:aj):(iK a).length<=6:=by
 unfold iK;split
 .rw[Pt];exact a' _
 .simp
theorem QD(b:aY)(a c:aj):(np b a c).length<=25000:=by unfold np;rw[aZ,aZ,aZ,aZ];have:=xE b a;have:=Cn b a c;have:=Ha b a;have:=QC a;have:=B' a (bn a c 2) 6;omega
structure adJ(g:aY)(h a:aj):Prop where
 m0:∀b aA d f e c,hl b aA d f e c g h a->c.length<=100000000->Calls prog 263 #[ab aA] b (kK b aA d f e g a (c++eb g a) h)
 m1:∀b aA d f e c,hl b aA d f e c g h a->c.length<=500000000->Calls prog 264 #[ab aA] b (kK b aA d f e g a (c++jd g a h) (bn a h 2))
 m2:∀b aA d f e c,hl b aA d f e c g (bn a h 2) a->c.length<=200000000->Calls prog 265 #[ab aA] b (kK b aA d f e g a (c++iJ g a) (bn a h 2))
 m3:∀b aA d f e c,hl b aA d f e c g (bn a h 2) a->c.length<=300000000->Calls prog 266 #[ab aA] b (kK b aA d f e g a (c++iK a) (bn a h 2))
 m4:∀b aA d f e c,hl b aA d f e c g (bn a h 2) a->c.length<=400000000->Calls prog 267 #[ab aA] b (kK b aA d f e g a (c++je a (bn a h 2) 6) (e0 a (bn a h 2) 6))
theorem QE(g:Nat)(h:af)(i:Qah)(d:aY)(f a:aj)(j:dV d a)(q:ig f)(zp:c0 c g h i)(k:i.length<=90000000):Calls prog 240 #[ab g,bl d,an .i64 8 f,ap a] c λe s=>e=.returned (.tuple #[an .i64 8 (fi a f),X 0])/\∃zz,c0 s g zz (i++np d a f)/\V h c s/\b3 c h zz:=by
 have zK:=Y zp;have p:=Y k;have zL:=Y λc=>P8 c d a j;have zD:=Y λc=>NK c f q;have zN:=Y λc=>BB c (f 0) q.q.1 q.q.2;have zi:bn a f 2 0=f 0:=GV;have t:=Y (adJ.mk (λc aA g n h i r k=>acH c aA g n h i d f a r k j) (λc aA g n h i r k=>acT c aA g n h i d f a r k j q) (λc aA g n h i r k=>acI c aA g n h i d (bn a f 2) a r k j.q (by rw[zi];exact q.q)) (λc aA g n h i r k=>acJ c aA g n h i d (bn a f 2) a r k) (λc aA g n h i r k=>acO c aA g n h i d (bn a f 2) a r k j (q.pred j 2 R)));refine QF λw=>?_;have zad:=q.q.1;have zaa:=q.q.2;have z1:=j.q;clear j q zp k zi;have b:=av.ss (ao.nil h c) zK.out U (λzap zS=>.inl zS);go_in;go_wp2_with(first|(refine cx _ (bl d) rfl rfl rfl rfl ?_;intro zal zak za zx zw;replace b:=b.aP za zx zw;clear za zx;clear zw)|(refine cx _ (an .i64 8 f) rfl rfl rfl rfl ?_;intro zU zam Q y W;replace b:=b.aP Q y W;clear Q y;clear W)|(refine cx _ (ap a) rfl rfl rfl rfl ?_;intro l J zt z zy;replace b:=b.aP zt z zy;clear zt z;clear zy)|(refine cw _ (an .i64 8 λ_=>0) rfl rfl nU rfl ?_;intro zaf o C m H;replace b:=b.aP C m H;clear C m;clear H)|(refine dO rfl (b.ai 3 rfl) (cE _) rfl rfl ?_)|(refine dO rfl (b.ai 1 rfl) (cP _) rfl rfl ?_))
 refine hD zL.out ?_;clear b;intro z' z8 b;go_wp2_with(refine dO rfl (b.ai 2 rfl) (eU _) rfl rfl ?_)
 refine ur zD.out ?_;clear b;intro F z6 b;have zG:F.cell? ⟨zU,0,none⟩=some (.int .i64 (f 0)):=b.au 2 0 rfl (dw R);have zT:F.cell? ⟨l,17,none⟩=some (.int .i64 (a 17)):=b.au 1 17 rfl (fa R rfl);go_wp2_with fail
 refine(zN.out _).mono ?_;rintro e zar ⟨rfl,zJ⟩;replace b:=b.aS zJ;clear zG zT;go_wp2_with(first|(refine dO rfl (b.ai 2 rfl) (eU _) rfl rfl ?_)|(refine dO rfl (b.ai 3 rfl) (cE _) rfl rfl ?_)|(refine adH f g d l rfl rfl rfl rfl rfl rfl ?_)|(refine cw _ (#[X 0,X 0,X 0,X 0,X 0,X 0,X 0,X 0,.pointer none,X 0,X 0,.bool false,.bool false,.pointer none]) rfl rfl adG rfl ?_;intro u zab zo zh zf;replace b:=b.aP zo zh zf;clear zo zh;clear zf)|(refine cv (Q:=eJ f g d l) acF (b.ai 0 rfl) rfl (adI _ _ _ _) rfl rfl rfl rfl ?_;intro zai zk zn zV;replace b:=b.bk 0 zk zn;clear zk zn zV)|(refine e' underlying381 (#[.func (.func 263) #[] #[],.func (.func 264) #[] #[],.func (.func 265) #[] #[],.func (.func 266) #[] #[],.func (.func 267) #[] #[]]) rfl rfl ar ?_;intro zX zah G zb ze;replace b:=b.aP G zb ze;clear G zb ze))
 refine jc 6 ?_;rw[cR];have zI:=b.ah 0 0;go_wp2_with fail
 clear zI;refine(t.out.m0 _ u g l _ _ (b.xC (t:=1) (e:=3) rfl rfl R) Co).mono ?_;rintro e zW ⟨rfl,zas,P,I,O⟩;replace b:=b.xD (t:=1) rfl P I O;try dsimp only[List.set]at b
 clear P I O;go_wp2_with fail
 rw[cR];have zP:=b.ah 0 1;go_wp2_with fail
 clear zP;refine(t.out.m1 _ u g l _ _ (b.xC (t:=1) (e:=3) rfl rfl R) (by simp only[aZ];have:=xE d a;have:=p.out;omega)).mono ?_;rintro e zae ⟨rfl,zac,zu,D,x⟩;replace b:=b.xD (t:=1) rfl zu D x;try dsimp only[List.set]at b
 clear zu D x;go_wp2_with fail
 rw[cR];have zF:=b.ah 0 2;go_wp2_with fail
 clear zF;refine(t.out.m2 _ u g l _ _ (b.xC (t:=1) (e:=3) rfl rfl R) (by simp only[aZ];have:=xE d a;have:=Cn d a f;have:=p.out;omega)).mono ?_;rintro e zY ⟨rfl,zan,zd,B,zv⟩;replace b:=b.xD (t:=1) rfl zd B zv;try dsimp only[List.set]at b
 clear zd B zv;go_wp2_with fail
 rw[cR];have zM:=b.ah 0 3;go_wp2_with fail
 clear zM;refine(t.out.m3 _ u g l _ _ (b.xC (t:=1) (e:=3) rfl rfl R) (by simp only[aZ];have:=xE d a;have:=Cn d a f;have:=Ha d a;have:=p.out;omega)).mono ?_;rintro e zao ⟨rfl,zat,zq,zl,zr⟩;replace b:=b.xD (t:=1) rfl zq zl zr;try dsimp only[List.set]at b
 clear zq zl zr;go_wp2_with fail
 rw[cR];have zQ:=b.ah 0 4;go_wp2_with fail
 clear zQ;refine(t.out.m4 _ u g l _ _ (b.xC (t:=1) (e:=3) rfl rfl R) (by simp only[aZ];have:=xE d a;have:=Cn d a f;have:=Ha d a;have:=QC a;have:=p.out;omega)).mono ?_;rintro e zE ⟨rfl,zag,A,zj,L⟩;replace b:=b.xD (t:=1) rfl A zj L;try dsimp only[List.set]at b
 clear A zj L;go_wp2_with fail
 rw[cR];have zH:zE.cell? ⟨l,0,none⟩=some (.int .i64 (a 0)):=b.au 3 0 rfl (fa R rfl);go_wp2_with(refine de (an .i64 8 (e0 a (bn a f 2) 6)) rfl (eU _) (b.ai 1 rfl) (λE zs=>QG) rfl rfl ?_)
 refine(w.out _).mono ?_;rintro e z7 ⟨rfl,zA⟩;replace b:=b.aS zA;clear zH;go_wp2_with(refine cv (Q:=an .i64 8 (fi a f)) (eU _) (b.ai 2 rfl) rfl (e6) rfl rfl rfl rfl ?_;intro zZ zc K zO;replace b:=b.bk 2 zc K;clear zc K zO)
 refine bB (eW rfl (eU _) (b.ai 2 rfl) rfl) ⟨rfl,_,?_,b.aa,b.a.n⟩;have zm:=b.q;simp only[b5]at zm;exact zm
def jX(a:aj)(b:Nat):Nat:=(a (13+2*b)).toNat
def nw(e:aY)(b:aj)(f:cS)(c d a:Nat):aq:=if b 3=0 then qW (ep e f a (jX b a)) (16*c) (16*d) 16 (b (5+4*a)) (b (6+4*a))else Bx (ep e f a (jX b a)) c d (b (5+4*a)) (b (6+4*a)) (b (7+4*a)) (b (8+4*a)) (jX b a) (b (14+2*a)).toNat
def rb(d:aY)(a:aj)(e:cS)(b c:Nat):aq:=if a 2=0 then nw d a e b c 0 else if a 1=0 then nw d a e b c 1 else oS (nw d a e b c 0) (nw d a e b c 1)
structure Hb(d:aY)(e:cS)(b:aj)(f g a:Nat):Prop where
 fO:(fV d e a (jX b a)).dd
 QH:il d a (jX b a)=false->(fV d e a (jX b a)).h%32=0
 adK:f<(ep d e a (jX b a)).w/16
 adL:g<(ep d e a (jX b a)).h/16
 f32:b 3≠0->(ep d e a (jX b a)).h%32=0
 v:∀c,c<4->-63<=b (5+4*a+c)/\b (5+4*a+c)<=63
 s:∀c,c<2->b (13+2*a+c)=0\/b (13+2*a+c)=1
theorem Hc{a:Nat}(g:a<=1)(b:(fV k E h a).dd)(f:il k h a=false->(fV k E h a).h%32=0):(ep k E h a).dd:=by
 unfold ep;split
 .exact b
 .rename_i C;have i:=f (by simpa using C);obtain⟨d,c,e⟩:=lJ (a:=fV k E h a) (c:=a) ⟨b.toOk,Z⟩ g;exact⟨d,by rw[c];exact b.eN,by rw[e];omega⟩
theorem hJ.at_(a:hJ f E D)(b:aY)(d c:Nat):aT f (fV b E d c) (oc b D d c):=by
 unfold fV oc;split
 .exact a.bP
 .split
  .exact a.bs
  .exact a.bp
theorem Hd{i:N}(r:k.Ok)(p:hJ i E D)(ak:h<2)(a:Hb k E b zd ze h):uP i k E D y b zd ze h (ep k E h (jX b h)) (nw k b E zd ze h):=by
 have u:=a.s 0 R;have t:=a.s 1 R;rw[fs]at u;have m:jX b h<=1:=Cp;have q:((jX b h:Nat):Int)=b (13+2*h):=Cp;have x:(((b (14+2*h)).toNat:Nat):Int)=b (14+2*h):=He;have c:=Hc m a.fO a.QH;have g:=a.v 0 R;have f:=a.v 1 R;have o:=a.v 2 R;have n:=a.v 3 R;rw[fs]at g;rw[show 5+4*h+1=6+4*h from Z]at f;rw[show 5+4*h+2=7+4*h from Z]at o;rw[show 5+4*h+3=8+4*h from Z]at n;have w:=a.adK;have z:=a.adL;have B:=c.eN;have A:=c.ev;refine⟨c.toOk,λe s=>?_,λd e l j=>?_,λd e l j=>?_,?_⟩
 .rw[<-q];exact O0 e k E D h (jX b h) r ak Z (p.ad s) a.fO a.QH i.heap.size ((p.at_ k h _).fv a.fO.toOk)
 .unfold nw;rw[ae d];exact FK e _ l (16*zd) (16*ze) 16 _ _ c.toOk (.inr rfl) Z Z Z Z g.1 g.2 f.1 f.2 j
 .unfold nw;rw[M d];have:=aas e _ l zd ze (b (5+4*h)) (b (6+4*h)) (b (7+4*h)) (b (8+4*h)) (jX b h) (b (14+2*h)).toNat c (a.f32 d) w z m He g f o n j;rwa[q,x]at this
 .unfold nw;split
  .exact⟨w8 c.toOk _ _ _ _ (.inr rfl),rfl,rfl⟩
  .rename_i d;have:=a.f32 d;exact⟨aar ⟨c.toOk,Z⟩ _ _ _ _ _ _ m He,rfl,rfl⟩
theorem QI(j:b 1≠0\/b 2≠0)(f:∀a,a<2->b (1+a)≠0->(nw k b E zd ze a).Ok/\(nw k b E zd ze a).w=16/\(nw k b E zd ze a).h=16):(rb k b E zd ze).dN:=by
 unfold rb;split
 .rename_i C;obtain⟨c,e,d⟩:=f 0 R (j.resolve_right (λl=>l C));exact⟨c,e,d⟩
 .rename_i C;obtain⟨c,e,d⟩:=f 1 R C;split
  .exact⟨c,e,d⟩
  .rename_i q1;obtain⟨i,g,h⟩:=f 0 R q1;exact⟨aaG i c (by rw[e,g]) (by rw[d,h]),g,h⟩
theorem adM(e:aY)(f:cS)(k:dP)(j:Nat)(a:aj)(b d:Nat)(l:ag c j 233 (ap a))(p:b<=4)(q:d<=4)(n:a 1≠0\/a 2≠0)(ak:∀h,h<2->a (1+h)≠0->uP c e f k j a b d h (ep e f h (jX a h)) (nw e a f b d h)):Calls prog 161 #[bl e,ab j,bI f k,X b,X d] c (mB 0 (rb e a f b d) c):=by
 have m:=And.intro (λc=>Qd c b p) (λc=>Qd c d q);unfold rb;by_cases i:a 2=0
 .have g:=n.resolve_right (λo=>o i);rw[ae i];exact adn c e f k j a b d _ _ l m iD iB (ak 0 R g)
 .rw[M i];by_cases g:a 1=0
  .rw[ae g];exact ado c e f k j a b d _ _ l m iD iB (ak 1 R i)
  .rw[M g];exact adp c e f k j a b d _ _ _ _ l m iD iB (ak 0 R g) (ak 1 R i)
def lY(b:aY)(a:aj):aj:=if a 0=0 then stM b else a
def im(b:aY)(e:aD)(d:Bool)(c:Int)(a:aj)(h:cS)(f g:Nat):aq:=if a 0=1 then fj a e.a c d (dl 16 16 128 128 128) 6 else fj (lY b a) e.b c d (rb b (lY b a) h f g) 6
theorem uS:∀b,b<(an .u8 64 a.a).size->(ay a)[7+b]? =(an .u8 64 a.a)[b]? :=λb c=>by rw[gO]at c;simp only[ay,b4,cO];rw[db (by simp[da]),eE (by simp[da,iy];omega)];simp[an,da]
theorem uT:∀b,b<(an .u8 64 a.b).size->(ay a)[71+b]? =(an .u8 64 a.b)[b]? :=λb c=>by rw[gO]at c;simp only[ay,b4,cO];rw[db wt,db (by simp[da,iy];omega)];simp only[da,iy,cz,dv,an,b4];congr 1;omega
theorem cH:bT prog 26 (ay a).size:=by rw[gr];exact⟨_,underlying26,rfl,ar⟩
theorem Hf:(dl 16 16 128 128 128).dN:=⟨sg R R R R R R R R R,rfl,rfl⟩
theorem adN(h:aY)(a:aD)(i:Bool)(e:Int)(g:aj)(j:cS)(A:dP)(p w:Nat)(P:dA c)(zh:dD)(n:dV h g)(z:gP a.a 64=true/\hT a.a)(C:gP a.b 64=true/\hT a.b)(s:1<=e/\e<=31)(zp:hJ c j A)(f:g 0=1):Calls prog 122 #[bl h,ay a,.bool i,X e,ap g,bI j A,X p,X w] c (mB 0 (im h a i e g j p w) c):=by
 refine QJ λx B y D=>?_;have E:ck (hT a.a/\eD a.a e=true/\eD a.b e=true):=⟨z.2,by unfold eD;rw[z.1,rU.2 s];rfl,by unfold eD;rw[C.1,rU.2 s];rfl⟩;have zc:=Y λK(r:V [] c K)(W:Nat)(ze:aq)(O:aj) o zj k zi za zk=>Qa K (P.ad r) ze o W g O e i zj k zi zh za zk λzG zD zq zK=>n.aR _ Z Z;rw[show im h a i e g j p w=fj g a.a e i (dl 16 16 128 128 128) 6 from ae f];have b:=ao.nil [] c;go_in;go_wp2_with(first|(refine b.aI _ (bl h) ?_;intro zE zC b)|(refine b.aI _ (ay a) ?_;intro zM zF b)|(refine b.aI _ (ap g) ?_;intro L zo b)|(refine b.aI _ (bI j A) ?_;intro zv zL b)|(refine b.aH (_) bY ?_;intro t zs b)|(refine b.ld 4 (cE _) ?_)|(refine b.ld 2 (cP _) ?_))
 refine b.aW (x.out _) ?_;intro zt b;go_wp2_with(refine b.cp 3 (an .u8 64 a.a) (gp _) ?_ (o:=by exact(uS a)))
 refine b.aW (B.out _) ?_;intro zH b;go_wp2_with(refine b.cp 3 (an .u8 64 a.b) (gp _) ?_ (o:=by exact(uT a)))
 refine b.aW (y.out _) ?_;intro zu b;go_wp2_with fail
 refine b.aW (D.out _) ?_;intro zz b;have zr:=b.cl 2 0 rfl (fa R rfl);go_wp2_with fail
 refine(A' _ 16 16 128 128 128 R R R R R R).mono ?_;rintro l zy ⟨m,u,q,rfl,zf⟩;replace b:=b.kE zf;go_wp2_with(first|(refine b.aH (_) bY ?_;intro zA zm b)|(refine b.aN 0 (al (dl 16 16 128 128 128) (bb (dl 16 16 128 128 128) m u q)) aB (bo _ _) ?_;intro zl b)|(refine b.ld 0 aB ?_)|(refine b.cp 7 (an .u8 64 a.a) (gp _) ?_ (o:=by exact(uS a))))
 have I:=sw b 1 rfl rfl rfl (t:=(dl 16 16 128 128 128)) (m:=0);have zB:t<zl.heap.size:=(b.ai 4 rfl).lt;have zx:∀d∈bg (bb (dl 16 16 128 128 128) m u q),d≠t:=λd f=>by
  have l:d=m\/d=u\/d=q:=uF;rcases l with rfl|rfl|rfl
  .exact b.ne 1 4 rfl rfl R
  .exact b.ne 2 4 rfl rfl R
  .exact b.ne 3 4 rfl rfl R
 refine(zc.out _ b.aa L _ a.a _ Hf (b.fg (r:=(dl 16 16 128 128 128)) 1 rfl rfl rfl) (b.ai 6 rfl) E.out.1 E.out.2.1).mono ?_;rintro l zn ⟨o,rfl,zb,r,Q⟩;refine QK ?_;clear b;intro G J b;go_wp2_with(refine cv (Q:=al (fj g a.a e i (dl 16 16 128 128 128) 6) o) aB (b.ai 4 rfl) rfl (bo _ _) rfl rfl rfl rfl ?_;intro zw zd F _)
 refine bB (eW rfl (kM _ _) zd rfl) ⟨o,rfl,zb.S F J,b.aa.trans F (λd f=>by rw[df.1 f];exact .inr ((b.n _ (bS (i:=4) rfl)).resolve_left U)),G⟩
theorem adO(c:af):∀a∈aC c,a.oneCell'=true:=λa b=>by obtain⟨d,_,rfl⟩:=ca.1 b;rfl
def QL(a:af)(d:N)(f:Ending)(e:N):Prop:=∃b c,f=.returned (.slice (ab b) a.length c)/\aF e (some ⟨b,0,none⟩) 1 a.length (aC a)/\a.length<=c/\V [] d e/\d.heap.size<=b
theorem adP(b:Qay)(c d:Nat)(a:N):(binOp .eql 57 (.slice (some b) c d) (.slice none 0 0)).run prog a=.ok (.bool false) a:=ar
theorem adQ:dr (#[]:Qad) 0 1 0 []:=⟨rfl,a' 0,jo _,rfl⟩
theorem uU(j:Qae)(d:Nat)(a:af)(k:aF c j 1 a.length (aC a))(l:0<a.length)(r:a.length<=1048576):Calls prog 154 #[.slice j a.length d] c (QL a c):=by
 obtain⟨x,rfl,_⟩:=k.2 l;have i:=Y k;have b:=Y (And.intro l r);unfold QL;generalize A:a.length=h at i b⊢;have B:=λo=>adP x h d o;obtain⟨u,n,q,s,p⟩:=k8 kB;go_in;go_wp2_with(refine vP _ rfl _ _ 57 rfl 5 u (.int .u8 0) 1 1 underlying57 n q s p rfl R _ 0 0 [] rfl (mC (ag.aP _ _ _) adQ) _ h d (aC a) rfl (i.out.alloc _) (adO a) (by have:=b.out;unfold maxLen;omega) (by have:=b.out;omega) (by have:=b.out;omega) ?_;intro g t w e f m)
 rw[c',cU]at e;have f:V [c.heap.size] (c.alloc (.cells #[] 5)) w:=by simpa[dL,Value.ownBlock]using f
 have m:g=c.heap.size\/(c.alloc (.cells #[] 5)).heap.size<=g:=by simpa[dL,Value.ownBlock]using m
 have D:=((V.refl [] c).alloc (.cells #[] 5)).size;obtain⟨z,C,y⟩:=uI e;go_ret;exact⟨g,t,rfl,aF.nG e,y.le,((V.refl [] c).alloc _).own f (a' _),Z⟩
theorem lens{a:aq}(f:a.Ok):0<a.y.length/\0<a.u.length/\0<a.v.length/\a.y.length<=1048576/\a.u.length<=1048576/\a.v.length<=1048576:=by have h:=f.gG;have e:=f.iY;have c:=eL f.fH f.fr;have d:=eL (show a.w/2<=32 from BD) (show a.h/2<=32 from BE);have g:0<a.w*a.h:=qs Z Z;have b:0<a.w/2*(a.h/2):=qs Z Z;rw[f.d',f.eM,f.aR];omega
theorem adR(a:aY)(h:cS)(q:dP)(g j:Nat)(za:a.Ok)(ak:g<2)(zf:j<2)(t:hJ c h q)(x:(fV a h g j).dd)(H:il a g j=false->(fV a h g j).h%32=0):Calls prog 202 #[bl a,bI h q,X g,X j] c (mB 0 (ep a h g j) c):=by
 have E:=Hc Z x H;have zp:=Y λG(ze:V [] c G)=>O0 G a h q g j za ak zf (t.ad ze) x H c.heap.size ((t.at_ a g _).fv x.toOk);have k:=Y (lens E.toOk);have zc:=Y E;have b:=ao.nil [] c;go_in;go_wp2_with(first|(refine b.aI _ (bl a) ?_;intro zI zF b)|(refine b.aI _ (bI h q) ?_;intro zO zJ b)|(refine b.aH (_) bY ?_;intro m zs b)|(refine b.ld 2 (cE _) ?_)|(refine b.ld 1 (lr _ _) ?_))
 refine(zp.out _ b.aa).mono ?_;rintro e zN ⟨O,rfl,zm,zi,zd⟩;replace b:=bC.ei b zi zm zc.out.toOk zd;go_wp2_with(first|(refine b.aH (_) bY ?_;intro zC zx b)|(refine b.aN 0 (al (ep a h g j) O) aB (bo _ _) ?_;intro zb b;have zv:=b.ah 0 0;have zM:=b.ah 0 1;have zw:=b.ah 0 2))
 have zB:=b.ah 0 0;have zD:=b.ah 0 1;have zr:=b.ah 0 2;have zu:=b.ah 0 3;have zK:=b.ah 0 4;have zo:ck (m<zb.drew.heap.size):=(b.ai 1 (h:=m) rfl).lt;replace b:=b.bd;refine rg [] [0,1,2,3,4,5,7,8,10,11,106,109,112,13,214,15] ?_;refine ax ?_;refine bN (uU _ _ _ _ b.q.y k.out.1 k.out.2.2.2.1) ?_;rintro e zt ⟨p,u,rfl,zj,zn,z,zL⟩;refine⟨_,rfl,z,?_⟩;simp only[az];have zH:=b.size;have zq:=z.size;replace b:=b.aS z;refine bN (uU _ _ _ _ b.q.u k.out.2.1 k.out.2.2.2.2.1) ?_;rintro e zy ⟨s,y,rfl,zh,zl,o,zG⟩;refine⟨_,rfl,o,?_⟩;simp only[az];have zz:=b.size;have zP:=o.size;replace b:=b.aS o;refine bN (uU _ _ _ _ b.q.v k.out.2.2.1 k.out.2.2.2.2.2) ?_;refine QM ?_;clear b;intro F l w A C n P W Q b D;have J:aT F (ep a h g j) ⟨some ⟨p,0,none⟩,some ⟨s,0,none⟩,some ⟨l,0,none⟩,u,y,w⟩:=⟨(zj.ad o).ad n,zh.ad n,A,zn,zl,C⟩;have t:=(b.ai 1 (h:=m) rfl).lt;have L:∀d∈bg (⟨some ⟨p,0,none⟩,some ⟨s,0,none⟩,some ⟨l,0,none⟩,u,y,w⟩:aK),d∉[m]:=λd f r=>by exact QN
 refine el λK B=>?_;refine cv (Q:=al (ep a h g j) ⟨some ⟨p,0,none⟩,some ⟨s,0,none⟩,some ⟨l,0,none⟩,u,y,w⟩) aB (b.ai 1 rfl) rfl (bo _ _) rfl rfl rfl rfl ?_;intro zE zk I _;refine B _ _ ?_;clear B K;refine ax ?_;go_wp2_with fail
 refine bB (eW rfl (kM _ _) zk rfl) ⟨_,rfl,J.S I L,b.aa.trans I (λd f=>QO),λd f=>.inr (D d (by simpa[bg]using f))⟩
structure bx where
 t:Int
 s:Int
 aa:Int
 f:Bool
 r:Bool
 a:Bool
def a1(a:bx):Qad:=#[X a.t,X a.s,X a.aa,.bool a.f,.bool a.r,.bool a.a]
theorem cX(a:bx):bT prog 48 (a1 a).size:=⟨_,underlying48,rfl,ar⟩
theorem xF:dJ 48 (.agg (a1 ⟨0,0,0,false,false,false⟩)):=dM
theorem og(a:bx):(a1 a).all (·.oneCell')=true:=by simp[a1,Value.oneCell']
structure rc(a:bx):Prop where
 t:1<=a.t/\a.t<=3
 s:1<=a.s/\a.s<=3
 aa:0<=a.aa/\a.aa<=1023
structure ho(a:aD):Prop where
 v:et a
 i:nd a
 kj:hT a.a
 fP:hT a.b
structure fI(b:aD)(a:bx)(c:Bool):Prop where
 aQ:ho b
 ej:rc a
 b8:b.b8=true\/(a.s=3/\a.f=true/\a.r=false)
 no:c=true->a.s≠3
def bD(c:aD)(a:bx)(b:Bool):aY:=⟨a.t,a.s,c.b8,b⟩
theorem fI.nV{f:aD}{a:bx}{d:Bool}(e:fI f a d):(bD f a d).Ok:=by
 have i:=e.ej.t;have h:=e.ej.s;refine⟨by show a.t=1\/a.t=2\/a.t=3;omega,?_⟩;show(a.s=1/\f.b8=true)\/(a.s=2/\f.b8=true)\/(a.s=3/\d=false);rcases e.b8 with c|c
 .rcases(by omega:a.s=1\/a.s=2\/a.s=3)with b|b|b
  .exact .inl ⟨b,c⟩
  .exact .inr (.inl ⟨b,c⟩)
  .refine .inr (.inr ⟨b,?_⟩);cases g:d
   .rfl
   .exact absurd b (e.no g)
 .refine .inr (.inr ⟨c.1,?_⟩);cases g:d
  .rfl
  .exact absurd c.1 (e.no g)
def cc(a:aD)(b:bx):Int:=if b.s=3 then a.H else a.H/2
theorem Hg(b:bx)(d:rc b):Calls prog 93 #[a1 b] c λe f=>e=.returned (.bool true)/\V [] c f:=by
 have n:=d.t;have g:=d.s;have k:=d.aa;have a:=ao.nil [] c;go_in;go_wp2_with(refine a.aI _ (a1 b) ?_;intro h j a;have m:=a.ah 0 2;have l:=a.ah 0 0;have i:=a.ah 0 1)
 go_ret;exact⟨rfl,a.aa⟩
theorem xG(g:bx)(l:Bool)(d:fI a g l):Calls prog 113 #[ay a,a1 g] c λh f=>h=.returned (.bool true)/\V [] c f:=by
 refine QP λe=>?_;have k:=Y λc=>Hg c g d.ej;have j:=d.b8;by_cases i:a.b8=true;rotate_left
 .have z:a.b8=false:=by simpa using i
  obtain⟨y,t,s⟩:=j.resolve_left i;have b:=ao.nil [] c;go_in;go_wp2_with(first|(refine b.aI _ (ay a) ?_;intro n m b)|(refine b.aI _ (a1 g) ?_;intro r q b)|(refine b.ld 1 (cH _) ?_))
  refine b.aW (e.out _) ?_;intro o b;go_wp2_with(refine b.ld 0 (cX _) ?_)
  refine b.aW (k.out _) ?_;intro p b;refine xH 1 λP=>?_;have u:=b.ah 0 1;have A:=b.ah 0 3;have w:=b.ah 0 4;exact ft
 .clear j;have b:=ao.nil [] c;go_in;go_wp2_with(first|(refine b.aI _ (ay a) ?_;intro n m b)|(refine b.aI _ (a1 g) ?_;intro r q b)|(refine b.ld 1 (cH _) ?_))
  refine b.aW (e.out _) ?_;intro o b;go_wp2_with(refine b.ld 0 (cX _) ?_)
  refine b.aW (k.out _) ?_;intro p b;refine xH 1 λP=>?_;exact ft
theorem QQ(a:z:=by
 have b:=ao.nil [] c;go_in;go_wp2_with(first|(refine b.aI _ (ay a) ?_;intro i k b)|(refine b.aI _ (a1 d) ?_;intro h j b;have n:=b.ah 0 1;have l:=b.cl 1 1 (v:=X a.H) (g:=by simp[ay,cO,da])))
 exact gJ rfl ⟨rfl,b.aa⟩):z:=a
theorem QR(d:bx)(m:16<=a.H/\a.H<=64):Calls prog 153 #[ay a,a1 d] c λf g=>f=.returned (X (cc a d))/\V [] c g:=by
 by_cases e:d.s=3
 .rw[show cc a d=a.H from ae e];exact QQ
 .rw[show cc a d=a.H/2 from M e];exact QQ
theorem Cq(d:bx)(f:Bool)(e:fI a d f):Calls prog 118 #[ay a,a1 d] c λj k=>j=.returned (X (cc a d/16))/\V [] c k:=by
 have h:=Y λc=>xG c a d f e;have i:16<=a.H/\a.H<=64:=⟨e.aQ.v.2.2.2.1,e.aQ.v.2.2.2.2.1⟩;have g:=Y λc=>QR c a d i;have p:8<=cc a d/\cc a d<=64:=by unfold cc;split<;>omega
 have b:=ao.nil [] c;go_in;go_wp2_with(first|(refine b.aI _ (ay a) ?_;intro m o b)|(refine b.aI _ (a1 d) ?_;intro l n b)|(refine b.ld 1 (cH _) ?_)|(refine b.ld 0 (cX _) ?_))
 refine b.aW (h.out _) ?_;intro q b;go_wp2_with(first|(refine b.ld 1 (cH _) ?_)|(refine b.ld 0 (cX _) ?_))
 refine b.aW (g.out _) ?_;intro r b;go_wp2_with fail
 exact gJ rfl ⟨rfl,b.aa⟩
theorem Hh(d:bx)(e:Bool)(f:fI a d e):Calls prog 150 #[ay a,a1 d,.bool e] c λl n=>l=.returned (.bool true)/\V [] c n:=by
 have g:=Y λc=>xG c a d e f;cases e
 .clear f;have b:=ao.nil [] c;go_in;go_wp2_with(first|(refine b.aI _ (ay a) ?_;intro i k b)|(refine b.aI _ (a1 d) ?_;intro h j b)|(refine b.ld 1 (cH _) ?_)|(refine b.ld 0 (cX _) ?_))
  refine b.aW (g.out _) ?_;intro m b;exact ft
 .have o:(d.s==3)=false:=by simpa using f.no rfl
  have b:=ao.nil [] c;go_in;go_wp2_with(first|(refine b.aI _ (ay a) ?_;intro i k b)|(refine b.aI _ (a1 d) ?_;intro h j b)|(refine b.ld 1 (cH _) ?_)|(refine b.ld 0 (cX _) ?_))
  refine b.aW (g.out _) ?_;intro m b;have p:=b.ah 0 1;exact ft
theorem Hi:dJ 236 (.agg (bl ⟨0,0,false,false⟩)):=dM
theorem Hj(d:bx)(e:Bool):Calls prog 123 #[ay a,a1 d,.bool e] c λi j=>i=.returned (bl (bD a d e))/\V [] c j:=by
 have b:=ao.nil [] c;go_in;go_wp2_with(first|(refine b.aI _ (ay a) ?_;intro l n b)|(refine b.aI _ (a1 d) ?_;intro k m b)|(refine b.aH (bl ⟨0,0,false,false⟩) Hi ?_;intro o p b;have h:=b.ah 1 0;have f:=b.ah 1 1;have g:=b.cl 2 4 (v:=.bool a.b8) (g:=by simp[ay,cO,da]))|(refine b.aN 0 (bl (bD a d e)) (cE _) (Fp _) ?_;intro q b;clear h f g))
 exact bB (eH rfl (cE _) (b.ai 0 rfl) rfl) ⟨rfl,b.aa⟩
def fk(b:Qan)(a:Int):Qan
 |0=>λc=>if c=0 then a else 0
 |d+1=>fi (b d) (fk b a d)
def jj(c:aY)(a:Qan)(b:Int):Nat->List Bool
 |0=>[]
 |d+1=>jj c a b d++np c (a d) (fk a b d)
def iL(d:aY)(b:Qan)(a:Nat)(c:Nat):Qah:=bitsOf a 5++jj d b a c
theorem Cr(d:aY)(b:Qan)(c:Int):∀a,(jj d b c a).length<=25000*a
 |0=>by simp[jj]
 |a+1=>by rw[jj,aZ];have:=Cr d b c a;have:=QD d (b a) (fk b c a);omega
theorem ig.next{a:aj}(h:dV k b)(f:ig a):ig (fi b a):=by
 have g:=f.pred h 2 R;have i:e0 b (bn b a 2) 6 0=a 0:=by unfold e0 bn;simp
 refine⟨?_,λc e d=>?_,λc e d=>?_⟩
 .unfold fi w';rw[M Z,i];exact f.q
 .unfold fi w';split
  .omega
  .exact PA 6 R h g c e d
 .unfold fi w';split
  .omega
  .have:e0 b (bn b a 2) 6 c=bn b a 2 c:=by
    unfold e0;split
    .rw[M Z,M Z,M Z]
    .rfl
   rw[this];exact g.v c e d
theorem Cs{g:aY}{f:Qan}{b:Int}(d:1<=b/\b<=31):∀c,(∀a,a<c->dV g (f a))->ig (fk f b c)
 |0,_=>⟨d,λa h _=>by show -4095<=(if a=0 then b else 0)/\(if a=0 then b else 0)<=4095;rw[M Z];decide,λa h _=>by show -63<=(if a=0 then b else 0)/\(if a=0 then b else 0)<=63;rw[M Z];decide⟩
 |c+1,e=>(Cs d c λa i=>e a Z).next (e c Z)
theorem adS(a:Nat)(c:a<=31):tQ (a:Int) 5=0/\AR [] (a:Int) 5=bitsOf a 5:=by
 have b:tQ (a:Int) 5=0:=by unfold tQ;rw[M Z,gx,ae (by show a<2^5;omega)]
 refine⟨b,?_⟩;unfold AR;rw[ae b,gx];rfl
section
variable {D:Qav}{G:Qak}{za:Qal}{L:Qax}{x:Act}{f:N}{F:Qaa}{zj:Qau}{T:Qat}{zl t:Nat}{aL:Qad}
theorem lg(b:bT D T aL.size)(l:f.rangeAt zl t aL.toList)(e:wpList D G F za (x.put L.dst (aL)) f)(g:cB L G x:=by rfl)(k:L.op=.load T zj:=by rfl)(j:x.eval zj=.pointer (some ⟨zl,t,none⟩):=by rfl):wpList D G F (L::za) x f:=by obtain⟨a,c,h,p⟩:=b;exact nf λd i=>by rw[ae g];exact wp_load_mid (K:=d) (Q:=F) T zj k zl t j aL.toList a l c (by cases a<;>first|rfl|cases h) mY (i _ _ (by simpa using e))
theorem iM{a:Qam}(d:f.rangeAt zl t a)(e:V [] f p):p.rangeAt zl t a:=λc g b=>by have:=d c g b;rw[e.au (f' _ _ this) U];exact this
end
theorem adT(f:bx)(k:Bool)(row:Int)(h O g zF:Nat)(i:Qan)(m:fI a f k)(t:0<=row/\row<cc a f/16)(y:1<=h/\h<=31)(Q:a.W/16=(g:Int))(zH:∀d,d<g->dV (bD a f k) (i d))(zw:∀d,d<g->c.rangeAt O (d*408) (ap (i d)).toList):Calls prog 206 #[ay a,a1 f,.bool k,X row,X h,.slice (ab O) g zF] c λe zd=>∃s,e=.returned (.tuple #[.agg (br (1+row) (some ⟨s,0,none⟩) (bh (iL (bD a f k) i h g)).length (bh (iL (bD a f k) i h g)).length),X 0])/\ag zd s 5 (aC (bh (iL (bD a f k) i h g))).toArray/\V [] c zd/\c.heap.size<=s:=by
 have zz:=Y λc=>Hh c a f k m;have zG:=Y λc=>Cq c a f k m;have zy:=Y λc=>Hj c a f k;have zi:=Y (adS h y.2);have L:=Y zH;have zA:=Y zw;have zb:=Y (show 1<=(h:Int)/\(h:Int)<=31 from Z);refine QS λI p pU C E F J=>?_;have za:decide (row<0)=false:=aw;have zh:decide (cc a f/16<=row)=false:=aw;have K:decide ((h:Int)<1)=false:=aw;have zS:decide (31<(h:Int))=false:=aw;unfold iL;have b:=ao.nil [] c;go_in;go_wp2_with(first|(refine b.aI _ (ay a) ?_;intro za zW b)|(refine b.aI _ (a1 f) ?_;intro zh zX b)|(refine b.aH (#[X 0,.slice none 0 0]) jV ?_;intro K zO b)|(refine b.ld 2 (cH _) ?_)|(refine b.ld 1 (cX _) ?_))
 refine b.aW (zz.out _) ?_;intro z7 b;go_wp2_with(first|(refine b.ld 2 (cH _) ?_)|(refine b.ld 1 (cX _) ?_))
 refine b.aW (zG.out _) ?_;intro zp b;refine xI 2 λj=>?_;go_wp2_with fail
 refine(L5 _).mono ?_;rintro e zQ ⟨rfl,zl,zq⟩;have zf:=b.size;have zu:=λz B=>b.lt (d:=z) B;generalize zp.heap.size=o at*;replace b:=av.ss (b.aS zq) zl (λd q Q=>by obtain⟨z,B,e⟩:=ca.1 Q;have:=zu z B;simp only[df]at q;omega) (λd q=>.inr (by simp only[df]at q;omega));go_wp2_with fail
 refine(Y2 _ o _ _ (h:Int) 5 b.q Z R).mono ?_;rintro e z1 ⟨rfl,n,P,zI,zB⟩;rw[zi.out.1];rw[zi.out.2]at P;replace b:=b.kJ P zI zB;go_wp2_with(first|(refine b.ld 2 (cH _) ?_)|(refine b.ld 1 (cX _) ?_))
 refine b.aW (zy.out _) ?_;intro zR b;go_wp2_with fail
 refine b.aW (FR _ _) ?_;intro zV b;rw[show(λw=>if w=0 then(h:Int)else 0)=fk i h 0 from rfl];go_wp2_with(first|(refine b.aH (bl ⟨0,0,false,false⟩) Hi ?_;intro zk zU b)|(refine b.aH (an .i64 8 λ_=>0) nU ?_;intro zt zJ b)|(refine b.aN 1 (bl (bD a f k)) (cE _) (Fp _) ?_;intro z' b)|(refine b.aN 0 (an .i64 8 (fk i h 0)) (eU _) (e6) ?_;intro zL b))
 go_loopw [71] (λr wr=>∃d:Nat,d<=g/\r=X d/\∃n,Hid (av [] c wr [(zt,274,an .i64 8 (fk i h d)),(zk,236,bl (bD a f k)),(K,97,#[X 0,.slice none 0 0]),(zh,48,a1 f),(za,26,ay a)] n λzD=>c0 zD o n (bitsOf h 5++jj (bD a f k) i h d))) (λr _=>g-(intOf r).toNat)
 .exact⟨0,Z,rfl,n,Y (by rw[show jj (bD a f k) i h 0=[]from rfl,eG];exact b)⟩
 .obtain⟨d,q,rfl,n,zr⟩:=hrel;try clear b
  have b:=zr.out;by_cases ze:d<g
  .have zC:(d:Int)<(g:Int):=Z;have zs:=L.out d ze;have zm:=Cs zb.out d λw z6=>L.out w Z;have zo:=zA.out d ze;have u:=Cr (bD a f k) i h d;have zY:(d:Int)<(g:Int):=Z;go_wp2_with(first|(refine lg (cP (i d)) (iM zo b.aa) ?_)|(refine b.aH (ap λ_=>0) i' ?_;intro zK zZ b)|(refine b.aN 0 (ap (i d)) (cP _) (gf _) ?_ (s:=jD);intro zN b)|(refine b.ld 2 (cE _) ?_)|(refine b.ld 1 (eU _) ?_)|(refine b.ld 0 (cP _) ?_))
   refine(QE _ o _ _ (bD a f k) (fk i h d) (i d) zs zm b.q (by rw[aZ,kh];have:=zb.out;have:=p.out;omega)).mono ?_;refine oV ?_;clear b;intro H G l x A b;rw[show fi (i d) (fk i h d)=fk i h (d+1)from rfl];go_wp2_with(refine b.aN 1 (an .i64 8 (fk i h (d+1))) (eU _) (e6) ?_;intro zM b)
   replace b:=b.drop 1;try dsimp only[List.drop]at b
   exact⟨⟨d+1,Z,a8,G,Y (by rw[jj,<-b5];exact b)⟩,bF⟩
  .have zC:¬((d:Int)<(g:Int)):=Z;obtain rfl:g=d:=Z;go_wp2_with fail
   have u:(bitsOf h 5++jj (bD a f k) i h g).length<=1099511627776:=by rw[aZ,kh];have:=Cr (bD a f k) i h g;have:=p.out;omega
   generalize D:bitsOf h 5++jj (bD a f k) i h g=W at b u;have zn:=Y D;refine(NM _ o _ _ b.q u).mono ?_;rintro e z8 ⟨rfl,zv,zE⟩;have zf:=b.size;generalize zP:wr.heap.size=aA at*;replace b:=b.aP zv zE Z;go_wp2_with(refine b.aN 3 (#[X (1+row),.slice (ab aA) (W.length/8+1) (W.length/8+1)]) en (jA _ _) ?_;intro zT b)
   have D:=zn.out;subst D;refine bB (eW rfl en (b.ai 3 rfl) rfl) ⟨aA,?_,b.ai 0 rfl,b.aa,zf⟩;rw[r2];rfl
def ct(a:bx)(b:Qae)(c d:Nat):Qad:=#[X a.t,X a.s,X a.aa,.bool a.f,.bool a.r,.bool a.a,.slice none 0 0,.slice b c d]
theorem lu:bT prog 52 8:=⟨_,underlying52,rfl,ar⟩
theorem xJ(b:bx)(a:Qae)(c d:Nat):(ct b a c d).all (·.oneCell')=true:=by simp[ct,Value.oneCell']
theorem QT(a:Int)(c:Qae)(b d:Nat):bT prog 97 (br a c b d).size:=en
section
variable {D:Qav}{G:Qak}{za:Qal}{L:Qax}{x:Act}{f:N}{F:Qaa}{zj zB:Qau}{zb:Qat}{zA:Nat}{zz v:Qas}
theorem QU(h:(Instr.lookup zb (.map (some zA)) zz true).run D f=.ok v f)(c:wpList D G F za (x.put L.dst v) f)(b:L.guard=none:=by rfl)(a:L.op=Op.lookup zb zj zB true:=by rfl)(g:x.eval zj=.map (some zA):=by rfl)(e:x.eval zB=zz:=by rfl):wpList D G F (L::za) x f:=by refine jq b λi d=>?_;unfold Oper.wp;simp[execOp,a,g,e,h,Result.andThen];exact d _ _ c
end
theorem adU(n:bx)(k p e m a:Nat)(g:Nat->Option Addr)(h j:Nat->Nat)(w:dQ c k 2 e λd=>br (1+(d:Int)) (g d) (h d) (j d))(t:lW e 4 p c)(D:a<e)(r:e<=4):Calls prog 120 #[.agg (ct n (some ⟨k,0,none⟩) e m),.map (some p),X a] c λy u=>y=.returned (.tuple #[.agg (br (1+(a:Int)) (g a) (h a) (j a)),.bool true])/\V [] c u:=by
 have o:=Y w;have q:=Y t;have f:=Y (And.intro D (And.intro r r));have b:=ao.nil [] c;go_in;go_wp2_with(first|(refine b.aI _ (ct n (some ⟨k,0,none⟩) e m) ?_;intro z J b)|(refine b.aH (br 0 none 0 0) jV ?_;intro B zb b;have zc:=b.ah 1 7))
 go_loopw [15] (λl wr=>∃d:Nat,d<=a/\l=X d/\Hid (ao [] c wr [(B,97,br 0 none 0 0),(z,52,ct n (some ⟨k,0,none⟩) e m)])) (λl _=>a-(intOf l).toNat)
 .exact⟨0,Z,rfl,Y b⟩
 .obtain⟨d,L,rfl,x⟩:=hrel;try clear b
  have b:=x.out;by_cases Q:d<a
  .have s:(d:Int)<(a:Int):=Z;have C:=f.out.2.1;have i:d<e:=by have:=f.out.1;omega
   have A:(d:Int)<(e:Int):=Z;have I:((d:Int)==(a:Int))=false:=aw;go_wp2_with(first|(refine lg en (o.out.ad b.aa d i) ?_)|(refine b.aH (br 0 none 0 0) jV ?_;intro F W b)|(refine b.aN 0 (br (1+(d:Int)) (g d) (h d) (j d)) en (jA _ _) ?_;intro za b;have P:=b.ah 0 0)|(refine QU (Pc (q.out.S b.aa U) f.out.2.1 (gD i (a' _))) ?_))
   exact QV
  .have s:¬((d:Int)<(a:Int)):=Z;obtain rfl:a=d:=Z;have C:=f.out.2.1;have i:a<e:=f.out.1;have A:(a:Int)<(e:Int):=Z;go_wp2_with(first|(refine lg en (o.out.ad b.aa a i) ?_)|(refine b.aH (br 0 none 0 0) jV ?_;intro O G b)|(refine b.aN 0 (br (1+(a:Int)) (g a) (h a) (j a)) en (jA _ _) ?_;intro H b;have E:=b.ah 0 0)|(refine QU (Pc (q.out.S b.aa U) f.out.2.1 (gD i (a' _))) ?_)|(refine b.ld 0 en ?_)|(refine b.aN 1 (br (1+(a:Int)) (g a) (h a) (j a)) en (jA _ _) ?_;intro K b;clear E))
   refine bB (eW rfl (QT _ _ _ _) (b.ai 1 rfl) rfl) ⟨rfl,b.aa⟩
theorem adV(b:bx)(j f:Nat):Calls prog 120 #[ct b none 0 0,.map (some j),X f] c λi k=>i=.returned (.tuple #[br 0 none 0 0,.bool false])/\V [] c k:=by
 have a:=ao.nil [] c;go_in;go_wp2_with(first|(refine a.aI _ (ct b none 0 0) ?_;intro g l a)|(refine a.aH (br 0 none 0 0) jV ?_;intro e o a;have m:=a.ah 1 7))
 go_loopw [15] (λd wr=>d=X 0/\Hid (ao [] c wr [(e,97,br 0 none 0 0),(g,52,ct b none 0 0)])) (λd _=>0)
 .exact⟨rfl,Y a⟩
 .obtain⟨rfl,h⟩:=hrel;try clear a
  have a:=h.out;go_wp2_with(refine a.aN 0 (br 0 none 0 0) en (jA _ _) ?_;intro n a)
  refine bB (eW rfl (QT _ _ _ _) (a.ai 0 rfl) rfl) ⟨rfl,a.aa⟩
theorem adW(a:Nat->Bool)(c:N):(binOp .eql 229 (.agg #[.bool (a 0),.bool (a 1),.bool (a 2),.bool (a 3),.bool (a 4),.bool (a 5)]) (.agg #[.bool false,.bool false,.bool false,.bool false,.bool false,.bool false])).run prog c=.ok (.bool (!(a 0||a 1||a 2||a 3||a 4||a 5))) c:=by generalize a 0=x,a 1=b,a 2=k,a 3=h,a 4=e,a 5=d;cases x<;>cases b<;>cases k<;>cases h<;>cases e<;>cases d<;>kernel_rfl
theorem Hk(b:v=0\/v=1):∃a:Bool,v=a.toInt/\(v !=0)=a:=by exact PZ
theorem adX(b:aj)(a:Bool):(ap b).setIfInBounds 4 (.bool a)=ap (aV b 4 a.toInt):=oP _ R rfl
theorem adY(a:aj)(v:Int):(ap a).setIfInBounds 17 (X v)=ap (aV a 17 v):=ni _ R rfl
theorem adZ(b:aj)(a:Bool):(ap b).setIfInBounds 3 (.bool a)=ap (aV b 3 a.toInt):=oP _ R rfl
theorem ad0(c:aj)(b:Bool){a:Nat}(d:a<6):(ap c).setIfInBounds (18+a) (.bool b)=ap (aV c (18+a) b.toInt):=oP _ Z sC
theorem ad1:dJ 229 (.agg #[.bool false,.bool false,.bool false,.bool false,.bool false,.bool false]):=dM
theorem Ct(a:z:=by
 go_wp2_with fail
 rw[s.out]at b;exact mA):z:=a
theorem QW(a:z:=by
 have zh:=b.ah 0 0;go_wp2_with fail
 refine hD zK.out ?_;clear b;intro zc zZ b;clear zh;exact Ct):z:=a
theorem QX(a:zf)(b:cZ zf->z:=by
 intro zU;have w:=b.ah 0 13;have Q:=b.ah 0 8;have ze:=oa (C:=[i]) w (nn n.out.nL);have zo:=oa (C:=[i]) Q (nn n.out.nL);replace b:=b.bd;refine ly (aM:=bA [i]) [] (.inr rfl) [0,1,2,3,4,5,6,7,108,9,10,311,12,13,214,15] ?_;iterate 8 (first|(refine rK rfl ?_;simp only[az])|(refine mf (.inl rfl) rfl rfl rfl ?_;simp only[az])|(refine qB ?_ rfl rfl rfl (λp x q=>?_) ?_;rotate_left;(focus ((go_wp2_with fail)<;>exact q.out));simp only[az])|(refine mg ?_ rfl rfl rfl (λp za zx x q=>?_) ?_;rotate_left;(focus ((have zR:=ze p za;have z8:=zo p za;go_wp2_with fail)<;>exact q.out));simp only[az]))
 refine bN (OH 0 R R zz.out b.q) ?_;rintro e zb ⟨rfl,zn,H⟩;refine⟨_,rfl,H,?_⟩;simp only[az];replace b:=b.kZ zn H;clear zn H;clear ze zo w Q;have E:=b.ah 0 13;have zp:=b.ah 0 8;have zD:=BM (C:=[i]) E (nn n.out.nL);have zy:=BM (C:=[i]) zp (nn n.out.nL);iterate 5 (first|(refine rK rfl ?_;simp only[az])|(refine mf (.inl rfl) rfl rfl rfl ?_;simp only[az])|(refine qB ?_ rfl rfl rfl (λp x q=>?_) ?_;rotate_left;(focus ((go_wp2_with fail)<;>exact q.out));simp only[az])|(refine mg ?_ rfl rfl rfl (λp za zx x q=>?_) ?_;rotate_left;(focus ((have z7:=zD p za;have zY:=zy p za;go_wp2_with fail)<;>exact q.out));simp only[az]))
 clear zD zy;refine el λx q=>?_;refine eI (X 0) rfl rfl rfl rfl (b.ai 1 rfl) xz rfl rfl ?_;intro K C O zf;replace C:=adY _ 0▸C;replace b:=b.bk 1 C O;clear C O zf;refine q _ _ ?_;clear q x;refine ax ?_;clear E zp;revert zb K b;exact zU.out):z:=b ⟨a⟩
theorem QY(a:zf)(b:zf->z:=by intro zT;refine xt 1 4 10 11 12 13 14 216 ?_;intro b;refine ax ?_;refine el λx q=>?_;refine eI (X (g 0)) rfl rfl rfl (aX (Value.int .i64) (show wrap64 (g 0+0)=g 0 by rw[Fw];exact zI.out)) (b.ai 0 rfl) (c9 rfl) rfl rfl ?_;revert b x q;exact zT):z:=b a
theorem ad2(D i zl h:Nat)(J:af)(I F:Nat)(f:aY)(g a:aj)(zB:gg c D i zl h J I F f g (ko a) (ea a))(zw:dV f a)(zA:ig g)(zv:b0 J I F (iJ f a)):Calls prog 178 #[ab D] c (nq c D i zl h J I (F+(iJ f a).length) f g (mD a) (ea a)):=by
 have n:=Y zB;have r:=Y zv;have l:=Y zw;have W:=Y zA;clear zB zw zA zv;cases y:ea a
 all_goals rw[y]at n
 .rw[show iJ f a=[] by unfold iJ;rw[M (by simp[y])]];have s:=Y (ab9 (k:=a) (by have:=l.out.fd;simp only[y]at this;by_cases z:a 4=0;exact z;exact absurd (this z).2 R) l.out.q);have b:=n.out.dn;go_in;have B:=b.ah 0 14;exact Ct
 .obtain⟨P,zE,zm⟩:=Hk (l.out.qV 4 rfl);have zK:=Y λc=>BB c (g 0) W.out.q.1 W.out.q.2;have z6:=W.out.q;have zI:=Y (show wrap64 (g 0)=g 0 by unfold wrap64;omega);have A:=Y λc=>uo c f;have zO:=Y zm;have zH:=Y zE;clear zE zm;cases u:f.both
  .have e:iJ f a=dE 0:=by unfold iJ;rw[ae y,M (by rw[u];decide),l.out.q];rfl
   rw[e]at r⊢;rw[u]at A;have zz:=r;have s:=Y (Pk (k:=a) (by by_cases z:a 4=0;exact z;exact absurd (l.out.fd z).1 (by rw[u];decide)));rw[l.out.q]at s;have b:=n.out.dn;go_in;have B:=b.ah 0 14;go_wp2_with(refine de (bl f) rfl (cE _) (b.ai 0 rfl) (λj k=>pS) rfl rfl ?_)
   refine hD A.out ?_;clear b;intro zM zX b;clear B;have zk:=b.ah 0 13;have L:=b.ah 0 8;go_wp2_with fail
   clear zk L;refine QX ?_;clear b;intro zb K b;go_wp2_with fail
   have zJ:=b.ah 0 0;have zL:=b.ah 0 13;have zF:K.cell? ⟨h,17,none⟩=some (.int .i64 ((aV (ko a) 17 0) 17)):=b.au 1 17 rfl (fa R rfl);go_wp2_with fail
   clear zJ zL zF;have zj:=b.ah 0 0;have zi:=b.ah 0 13;have zd:K.cell? ⟨h,17,none⟩=some (.int .i64 ((aV (ko a) 17 0) 17)):=b.au 1 17 rfl (fa R rfl);refine QY ?_;clear b;intro b x q;intro o (zt:ag _ _ _ (c7 g i f h true)) m zP;replace b:=b.bk 0 zt m;clear zt m zP;refine q _ _ ?_;clear q x;refine ax ?_;clear zj zi zd;exact QW
  .have e:iJ f a=[P]++dE 0:=by unfold iJ;rw[ae y,ae u,l.out.q,zO.out]
   rw[e]at r⊢;rw[u]at A;have zz:=Y r.out.right;replace r:=Y r.out.left;have s:=Y (Ph (k:=a));rw[l.out.q,zH.out]at s;have b:=n.out.dn;go_in;have B:=b.ah 0 14;go_wp2_with(refine de (bl f) rfl (cE _) (b.ai 0 rfl) (λj k=>pS) rfl rfl ?_)
   refine hD A.out ?_;clear b;intro zM zX b;clear B;have zk:=b.ah 0 13;go_wp2_with fail
   clear zk;refine QZ ?_;clear b;intro L zs b;refine bN (Gs _ D i zl h J I F f g true P (b.ai 0 rfl) b.q r.out) ?_;refine Hl ?_;clear b;intro zb b;clear zs L;refine Q0 λw x q K C O zf=>?_;replace C:=adX _ P▸C;replace b:=b.bk 1 C O;clear C O zf;refine q _ _ ?_;clear q x;refine ax ?_;clear w;go_wp2_with fail
   have Q:=b.ah 0 13;have E:=b.ah 0 8;go_wp2_with fail
   clear Q E;refine QX ?_;clear b;intro o zc b;go_wp2_with fail
   have zj:=b.ah 0 0;have zi:=b.ah 0 13;have zd:zc.cell? ⟨h,17,none⟩=some (.int .i64 ((aV (aV (ko a) 4 P.toInt) 17 0) 17)):=b.au 1 17 rfl (fa R rfl);go_wp2_with fail
   clear zj zi zd;have zh:=b.ah 0 0;have zG:=b.ah 0 13;have zN:zc.cell? ⟨h,17,none⟩=some (.int .i64 ((aV (aV (ko a) 4 P.toInt) 17 0) 17)):=b.au 1 17 rfl (fa R rfl);refine QY ?_;clear b;intro b x q;intro z1 (zu:ag _ _ _ (c7 g i f h true)) zq zW;replace b:=b.bk 0 zu zq;clear zu zq zW;refine q _ _ ?_;clear q x;refine ax ?_;clear zh zG zN;exact QW
theorem ad3{e:Nat}(d:b0 l g e (kn b 6)){a:Nat}(j:a<6):b0 l g (e+(kn b a).length) [b (18+a) !=0]:=by
 have h:∀c,a+1+c=6->kn b 6=kn b a++([b (18+a) !=0]++(List.range' (a+1) c).map λf=>b (18+f) !=0):=λc i=>by rw[<-b5,<-GK];unfold kn;rw[<-hf,List.range_eq_range',List.range_eq_range',<-i];congr 1;rw[show List.range' (a+1) c=List.range' (0+1*(a+1)) c by rw[c',A0],List.range'_append]
 rw[h (5-a) Z]at d;exact d.right.left
theorem ad4(c:b 0=2)(a:ea b=true):(!((ds b 0 (18+0) !=0)||(ds b 0 (18+1) !=0)||(ds b 0 (18+2) !=0)||(ds b 0 (18+3) !=0)||(ds b 0 (18+4) !=0)||(ds b 0 (18+5) !=0)))=false:=by unfold ea at a;rw[c]at a;simp only[ds];simp only[Bool.not_eq_false'];simpa[or_assoc]using a
theorem Hm(a:zf)(b:zf->z:=by intro zq;have x:=b.ah 0 13;have w:c.cell? ⟨h,0,none⟩=some (.int .i64 ((mD a) 0)):=b.au 1 0 rfl (fa R rfl);revert x w;exact zq):z:=b a
theorem ad5(p f o h:Nat)(l:af)(i y:Nat)(q:aY)(D a:aj)(L:gg c p f o h l i y q D (mD a) (ea a))(zh:dV q a)(zf:b0 l i y (iK a)):Calls prog 179 #[ab p] c (nq c p f o h l i (y+(iK a).length) q D (ds a 0) (ea a)):=by
 have n:=Y L;have zj:=Y zf;have J:=Y zh;clear L zh zf;by_cases u:a 0=2;rotate_left
 .have e:iK a=[]:=by unfold iK;rw[M (λB=>u B.1)]
  rw[e];have s:=Y (Pl J.out (.inl u));have b:=n.out.dn;go_in;refine Hm λx w=>?_;exact Ct
 .cases m:ea a
  .have e:iK a=[]:=by unfold iK;rw[M (λB=>by rw[m]at B;exact absurd B.2 R)]
   rw[e];rw[m]at n;have s:=Y (Pl J.out (.inr m));have b:=n.out.dn;go_in;refine Hm λx w=>?_;have zk:=b.ah 0 14;exact Ct
  .have e:iK a=kn a 6:=by unfold iK;rw[ae ⟨u,m⟩]
   rw[e]at zj⊢;rw[m]at n;have zu:=Y λd(G:d<6)=>J.out.qV (18+d) sC;have zs:=Y λd(G:d<6)=>show b0 l i (y+(kn a d).length) [a (18+d) !=0]from ad3 zj.out G;have zt:=Y (ad4 u m);have b:=n.out.dn;go_in;refine Hm λx w=>?_;have zk:=b.ah 0 14;go_wp2_with fail
   rw[aca]at b;clear x w zk;have O:=Y b;clear b;go_loopw [19] (λF wr=>∃d:Nat,d<=6/\F=X d/\Hid (av [p,h,f,o] c wr [(p,304,c7 D f q h true),(h,233,ap (q6 a d))] [f,o] λE=>b2 E f o l i (y+(kn a d).length))) (λF _=>6-(intOf F).toNat)
   .exact⟨0,Z,rfl,O⟩
   .obtain⟨d,G,rfl,zc⟩:=hrel;clear O;have b:=zc.out;clear zc;by_cases C:d<6
    .have zl:(d:Int)<6:=Z;obtain⟨K,zi,P⟩:=Hk (zu.out d C);have zm:=Y P;have zp:=Y zi;have Q:=Y (zs.out d C);rw[zm.out]at Q;clear zi P;have zr:=b.ah 0 13;go_wp2_with fail
     clear zr;have ze:=b.ah 0 13;have W:=oa (C:=[f]) ze (nn n.out.nL);replace b:=b.bd;refine ly (aM:=bA [f]) [] (.inr rfl) [0,1,2,3,4,5,10,11,106,7,8,309,12,213,14] ?_;iterate 8 (first|(refine rK rfl ?_;simp only[az])|(refine mf (.inl rfl) rfl rfl rfl ?_;simp only[az])|(refine qB ?_ rfl rfl rfl (λz r g=>?_) ?_;rotate_left;(focus ((go_wp2_with fail)<;>exact g.out));simp only[az])|(refine mg ?_ rfl rfl rfl (λz I zo r g=>?_) ?_;rotate_left;(focus ((have zA:=W z I;go_wp2_with fail)<;>exact g.out));simp only[az]))
     refine bN (Gs _ p f o h l i _ q D true K (b.ai 0 rfl) b.q Q.out) ?_;refine Hl ?_;clear b;intro zx b;clear W ze;have za:=b.ah 0 13;have zd:=BM (C:=[f]) za (nn n.out.nL);iterate 4 (first|(refine rK rfl ?_;simp only[az])|(refine mf (.inl rfl) rfl rfl rfl ?_;simp only[az])|(refine qB ?_ rfl rfl rfl (λz r g=>?_) ?_;rotate_left;(focus ((go_wp2_with fail)<;>exact g.out));simp only[az])|(refine mg ?_ rfl rfl rfl (λz I zo r g=>?_) ?_;rotate_left;(focus ((have zw:=zd z I;go_wp2_with fail)<;>exact g.out));simp only[az]))
     clear zd;refine el λr g=>?_;refine eI (.bool K) rfl rfl rfl rfl (b.ai 1 rfl) xz rfl rfl ?_;intro zb A H aU;replace A:=ad0 _ K C▸A;replace b:=b.bk 1 A H;clear A H aU;refine g _ _ ?_;clear g r;refine ax ?_;clear za;go_wp2_with fail
     go_wp2_with fail
     rw[acb C zp.out.symm]at b;exact⟨⟨d+1,Z,a8,Y (by rw[GK,aZ,GX,<-gk];exact b)⟩,bF⟩
    .have zl:¬((d:Int)<6):=Z;obtain rfl:d=6:=Z;rw[acd (by rw[u];decide)]at b;have zv:=λE=>adW (λj=>ds a 0 (18+j) !=0) E;rw[zt.out]at zv;have zz:=ad1;have zy:=b.ah 0 13;go_wp2_with(refine de (#[.bool ((ds a 0) 18 !=0),.bool ((ds a 0) 19 !=0),.bool ((ds a 0) 20 !=0),.bool ((ds a 0) 21 !=0),.bool ((ds a 0) 22 !=0),.bool ((ds a 0) 23 !=0)]) rfl nl (b.ai 1 rfl) (λj k=>q3) rfl rfl ?_)
     exact mA
section
variable {l:af}{g m:Nat}{k:aY}{b a I:aj}
theorem Q1(c:b0 l g m (gK k b a 2)){d:Nat}(ak:d<2):b0 l g (m+(gK k b a d).length) (mz k b a d):=by
 rcases(by omega:d=0\/d=1)with rfl|rfl
 .have c:b0 l g m (([]++mz k b a 0)++mz k b a 1):=c;exact c.left.right
 .have c:b0 l g m (gK k b a 1++mz k b a 1):=c;exact c.right
theorem ad6{d:Nat}(a:b0 l g m (kO k b I h d))(e:d<=2){c:Nat}(f:c<d):b0 l g (m+(kO k b I h c).length) (hI k b (ch b I h c (4+h*2)) (ch b I h c (5+h*2)) h c):=by
 rcases(by omega:d=1\/d=2)with rfl|rfl
 .obtain rfl:c=0:=Z;have a:b0 l g m ([]++hI k b (ch b I h 0 (4+h*2)) (ch b I h 0 (5+h*2)) h 0):=a;exact a.right
 .rcases(by omega:c=0\/c=1)with rfl|rfl
  .have a:b0 l g m (([]++hI k b (ch b I h 0 (4+h*2)) (ch b I h 0 (5+h*2)) h 0)++hI k b (ch b I h 1 (4+h*2)) (ch b I h 1 (5+h*2)) h 1):=a;exact a.left.right
  .have a:b0 l g m (kO k b I h 1++hI k b (ch b I h 1 (4+h*2)) (ch b I h 1 (5+h*2)) h 1):=a;exact a.right
theorem Q2{c:Bool}:c7 a j k y c=c7 (bn b a 0) j k y c:=pP λd _=>GV
end
theorem Q3(a:z:=by
 obtain⟨d,zad,rfl,zF⟩:=hrel;clear Q;have b:=zF.out;clear zF;by_cases zab:d<J
 .have z8:(d:Int)<(J:Int):=Z;have zU:d<2:=Z;refine PP λzd=>?_;have zH:=Y λc B zw zv=>acZ c y i u l F E B g (bn f h a) f z a d A zU zw zk.out I r (by by_cases e:d=0;exact .inl e;exact .inr (λzj=>by have:=zp.out;rw[ae zj]at this;omega)) zd zv;have zE:=Y (ad6 zt.out zM zab);clear zd;go_wp2_with fail
  refine(zH.out _ _ (n.out.now b (t:=0) (j:=1) rfl rfl) zE.out).mono ?_;refine Gu ?_;clear b;intro K b;clear zH zE;go_wp2_with fail
  exact⟨⟨d+1,Z,a8,Y (by rw[kO,aZ,<-gk];exact b)⟩,bF⟩
 .have z8:¬((d:Int)<(J:Int)):=Z;obtain rfl:d=J:=Z;rw[<-zp.out,show c7 (ch f (bn f h a) a (if f 3=0 then 1 else 2)) i g l z=c7 (bn f h (a+1)) i g l z from pP λj _=>PH f h a I r j,Pg A zk.out I (.inr (by by_cases zj:f 3=0;exact .inl ⟨r,zj,ae zj⟩;exact .inr (M zj)))]at b;go_wp2_with fail
  exact⟨⟨a+1,Z,a8,Y (by rw[gK,xv g f h a r,aZ,<-gk];exact b)⟩,bF⟩):z:=a
theorem Q4(a:z:=by
 have W:∀s,_:=λs=>GU f a A s;rw[show(f (1+a) !=0)=false from pT]at W;go_wp2_with fail
 rw[show c7 (bn f h a) i g l z=c7 (bn f h (a+1)) i g l z from pP λj _=>(PI f h a r j).symm,Pg A zk.out I (.inl ⟨r,rfl⟩)]at b;exact⟨⟨a+1,Z,a8,Y PN⟩,bF⟩):z:=a
theorem Q5(a:z:=by
 have zK:¬((a:Int)<2):=Z;obtain rfl:a=2:=Z;rw[ab7 I]at b;go_wp2_with fail
 rw[zJ.out];exact mA):z:=a
theorem Hn(a:zf)(b:zf->z:=by intro z7;have zl:=b.ah 0 13;have zm:c.cell? ⟨l,0,none⟩=some (.int .i64 (f 0)):=b.au 1 0 rfl (fa R rfl);revert zl zm;exact z7):z:=b a
theorem ad7(y i u l:Nat)(F:af)(E B:Nat)(g:aY)(h f:aj)(z:Bool)(zw:gg c y i u l F E B g h (kL f) z)(zG:dV g f)(zL:ig h)(zv:b0 F E B (jd g f h)):Calls prog 177 #[ab y] c (nq c y i u l F E (B+(jd g f h).length) g (bn f h 2) (ko f) z):=by
 obtain⟨zr,zy⟩:∃zr,zr=B+(jd g f h).length:=⟨_,rfl⟩;rw[<-zy];have zc:=Y zy;clear zy;have n:=Y zw;have zh:=Y zv;have zk:=Y zG;have zT:=Y zL;have zo:=Y λc=>uo c g;refine aG ((if f 3=0 then 1 else 2:Nat)) λJ zu=>?_;have zM:J<=2:=by rw[<-zu];split<;>omega
 have zz:=Y λa c(zi:ag c l 233 (ap (fz f a 0)))=>show Calls prog 216 #[ab l] c λe z'=>e=.returned (X J)/\V [] c z' by have:=NI c l _ zi;rwa[show fz f a 0 3=f 3 from rfl,show(if f 3=0 then 1 else 2:Int)=(J:Int) by rw[<-zu];split<;>rfl]at this
 have zp:=Y zu;clear zw zv zG zL zu;by_cases I:f 0=2;rotate_left
 .clear zz zp zM zo;have e:jd g f h=[]:=by unfold jd;rw[M I]
  rw[e]at zc;obtain rfl:zr=B:=zc.out;clear zc;have zZ:c7 h i g l z=c7 (bn f h 2) i g l z:=pP λj _=>by unfold bn;rw[M (λzj=>I zj.1)]
  have b:=n.out.dn;go_in;refine Hn λzl zm=>?_;go_wp2_with fail
  rw[ab5 zk.out I,zZ]at b;exact mA
 cases zi:g.both
 .rw[zi]at zo;have zX:=Y (show f 3=0 by by_cases zN:f 3=0;exact zN;exact absurd (zk.out.pL zN) (by rw[zi];decide));have e:jd g f h=gK g f h 2:=by rw[xw g f h I,M (by rw[zi];decide)];rfl
  rw[e]at zh zc;have zJ:=zc;clear zc;clear e;have b:=n.out.dn;go_in;refine Hn λzl zm=>?_;go_wp2_with(refine de (bl g) rfl (cE _) (b.ai 0 rfl) (λj k=>pS) rfl rfl ?_)
  refine hD zo.out ?_;clear b;intro zI zac b;clear zl zm;have L:=b.ah 0 13;go_wp2_with(refine de (#[.bool (f 1 !=0),.bool (f 2 !=0)]) rfl gv (b.ai 1 rfl) (λj k=>kp) rfl rfl ?_)
  rw[ab6 I zX.out]at b;rw[Q2 (b:=f)]at b;replace b:av [y,l,i,u] c zI [(y,304,c7 (bn f h 0) i g l z),(l,233,ap (fz f 0 0))] [i,u] λs=>b2 s i u F E (B+(gK g f h 0).length):=b;clear L;have Q:=Y b;clear b;go_loopw [41] (λD wr=>∃a:Nat,a<=2/\D=X a/\Hid (av [y,l,i,u] c wr [(y,304,c7 (bn f h a) i g l z),(l,233,ap (fz f a 0))] [i,u] λs=>b2 s i u F E (B+(gK g f h a).length))) (λD _=>2-(intOf D).toNat)
  .exact⟨0,Z,rfl,Q⟩
  .obtain⟨a,ak,rfl,zq⟩:=hrel;clear Q;have b:=zq.out;clear zq;by_cases A:a<2
   .have zK:(a:Int)<2:=Z;by_cases r:f (1+a)=0
    .exact Q4
    .refine GW λW w=>?_;go_wp2_with fail
     refine(zz.out a _ (b.ai 1 rfl)).mono ?_;rintro e zb ⟨rfl,H⟩;replace b:=b.aS H;clear w;go_wp2_with fail
     replace b:av [y,l,i,u] c zb [(y,304,c7 (ch f (bn f h a) a 0) i g l z),(l,233,ap (fz f a 0))] [i,u] λs=>b2 s i u F E (B+(gK g f h a).length+(kO g f (bn f h a) a 0).length):=b;have zt:=Y (Q1 zh.out A);rw[xv g f h a r,zp.out]at zt;have Q:=Y b;clear b;go_loopw [52] (λD wr=>∃d:Nat,d<=J/\D=X d/\Hid (av [y,l,i,u] c wr [(y,304,c7 (ch f (bn f h a) a d) i g l z),(l,233,ap (fz f a d))] [i,u] λs=>b2 s i u F E (B+(gK g f h a).length+(kO g f (bn f h a) a d).length))) (λD _=>J-(intOf D).toNat)
     .exact⟨0,Z,rfl,Q⟩
     .exact Q3
   .exact Q5
 .rw[zi]at zo;obtain⟨P,zO,zD⟩:=Hk (zk.out.qV 3 rfl);have e:jd g f h=[P]++gK g f h 2:=by rw[xw g f h I,ae zi,zD]
  rw[e]at zh zc;have zJ:=Y (show zr=B+1+(gK g f h 2).length by rw[zc.out,aZ,GX,gk]);clear zc;have z1:=Y zh.out.left;replace zh:=Y zh.out.right;have zY:=Y zO;clear zO zD e;have b:=n.out.dn;go_in;refine Hn λzl zm=>?_;go_wp2_with(refine de (bl g) rfl (cE _) (b.ai 0 rfl) (λj k=>pS) rfl rfl ?_)
  refine hD zo.out ?_;clear b;intro zI zac b;clear zl zm;have L:=b.ah 0 13;go_wp2_with fail
  clear L;refine QZ ?_;clear b;intro w ze b;refine bN (Gs _ y i u l F E B g h z P (b.ai 0 rfl) b.q z1.out) ?_;refine Hl ?_;clear b;intro zb b;clear ze w;refine Q0 λzaa x q K C O zf=>?_;replace C:=adZ _ P▸C;replace b:=b.bk 1 C O;clear C O zf;refine q _ _ ?_;clear q x;refine ax ?_;have zA:=Pe (k:=f) I;rw[zY.out]at zA;rw[zA]at b;clear zA;clear zaa;have z6:=b.ah 0 13;go_wp2_with(refine de (#[.bool (f 1 !=0),.bool (f 2 !=0)]) rfl gv (b.ai 1 rfl) (λj k=>kp) rfl rfl ?_)
  rw[Q2 (b:=f)]at b;replace b:av [y,l,i,u] c K [(y,304,c7 (bn f h 0) i g l z),(l,233,ap (fz f 0 0))] [i,u] λs=>b2 s i u F E (B+1+(gK g f h 0).length):=b;clear z6;have Q:=Y b;clear b;go_loopw [41] (λD wr=>∃a:Nat,a<=2/\D=X a/\Hid (av [y,l,i,u] c wr [(y,304,c7 (bn f h a) i g l z),(l,233,ap (fz f a 0))] [i,u] λs=>b2 s i u F E (B+1+(gK g f h a).length))) (λD _=>2-(intOf D).toNat)
  .exact⟨0,Z,rfl,Q⟩
  .obtain⟨a,ak,rfl,zq⟩:=hrel;clear Q;have b:=zq.out;clear zq;by_cases A:a<2
   .have zK:(a:Int)<2:=Z;by_cases r:f (1+a)=0
    .exact Q4
    .refine GW λW zW=>?_;go_wp2_with fail
     refine(zz.out a _ (b.ai 1 rfl)).mono ?_;rintro e o ⟨rfl,m⟩;replace b:=b.aS m;clear zW;go_wp2_with fail
     replace b:av [y,l,i,u] c o [(y,304,c7 (ch f (bn f h a) a 0) i g l z),(l,233,ap (fz f a 0))] [i,u] λs=>b2 s i u F E (B+1+(gK g f h a).length+(kO g f (bn f h a) a 0).length):=b;have zt:=Y (Q1 zh.out A);rw[xv g f h a r,zp.out]at zt;have Q:=Y b;clear b;go_loopw [52] (λD wr=>∃d:Nat,d<=J/\D=X d/\Hid (av [y,l,i,u] c wr [(y,304,c7 (ch f (bn f h a) a d) i g l z),(l,233,ap (fz f a d))] [i,u] λs=>b2 s i u F E (B+1+(gK g f h a).length+(kO g f (bn f h a) a d).length))) (λD _=>J-(intOf D).toNat)
     .exact⟨0,Z,rfl,Q⟩
     .exact Q3
   .exact Q5
section
variable {l:af}{g m:Nat}{k:aY}{b a:aj}{j y:Nat}{zk:Bool}
theorem ad8(h:b0 l g m (je b a 6)){c:Nat}(n:c<6):b0 l g (m+(je b a c).length) (jB b a c):=by
 have j:∀d,c+1+d<=6->∃e,je b a (c+1+d)=(je b a c++jB b a c)++e:=by
  intro d;induction d with
  |zero=>intro _;exact⟨[],by rw[eG];rfl⟩
  |succ d i=>intro k;obtain⟨e,f⟩:=i Z;exact⟨e++jB b a (c+1+d),by rw[<-b5,<-f];rfl⟩
 obtain⟨e,f⟩:=j (5-c) Z;rw[show c+1+(5-c)=6 from Z]at f;rw[f]at h;exact h.left.right
theorem Q6(b:h<3):(c7 a j k y zk)[1+h]? =some (.int .i64 (a (1+h))):=by exact Ca
theorem ad9(h:Nat)(v:Int)(b:h<3):(c7 a j k y zk).setIfInBounds (1+h) (X v)=c7 (aV a (1+h) v) j k y zk:=by exact Ca
theorem Q7(b v:aj){a:Nat}(e:a<6):cC (ap b) (24+64*a) (an .i64 64 v).toList=ap (cV b (24+64*a) 64 v):=by rw[ap,nT (r:=64) (zk:=v) Z _ yP λc d=>by rw[eo,dw d];unfold hB;rw[show hC (24+64*a+c)=false from sC];show _=some (Value.int .i64 (cV b (24+64*a) 64 v (24+64*a+c)));rw[cV,ae Z,ki]];rfl
theorem aea(f:d<6):cC (ap (ds b d)) (24+d*64) (an .i64 64 λa=>if(1:Nat)=1/\a=0 then 0 else bO b d a).toList=ap (aV (ds b (d+1)) (24+64*d) 0):=by
 rw[show 24+d*64=24+64*d from Z,Q7 _ _ f];refine eY λa g=>?_;unfold cV aV ds;by_cases e:24+64*d<=a/\a<24+64*d+64
 .rw[ae e];by_cases c:a=24+64*d
  .rw[ae c];exact ae ⟨rfl,Z⟩
  .rw[M c,ae Z];refine(M Z).trans ?_;unfold bO;congr 1;omega
 .rw[M e];by_cases c:a<24+64*d
  .rw[ae c,M Z,ae Z]
  .rw[M c,M Z,M Z]
theorem aeb(g:d<6){v:Int}(e:v=bO b d 0):(ap (aV (ds b (d+1)) (24+64*d) 0)).setIfInBounds (24+d*64) (X v)=ap (ds b (d+1)):=by
 rw[show(ap (aV (ds b (d+1)) (24+64*d) 0)).setIfInBounds (24+d*64) (.int .i64 v)=ap (aV (aV (ds b (d+1)) (24+64*d) 0) (24+d*64) v)from ni _ Z sC];refine eY λc f=>?_;unfold aV;by_cases a:c=24+d*64
 .rw[ae a,e];unfold ds bO;rw[ae Z,a];congr 1;omega
 .rw[M a,M Z]
theorem aec(c:d<6):cC (ap (ds b d)) (24+d*64) (an .i64 64 λa=>if(0:Nat)=1/\a=0 then 0 else bO b d a).toList=ap (ds b (d+1)):=by rw[show 24+d*64=24+64*d from Z];exact acg c λa _=>M U
theorem aed{b:aj}(e:∃a,a<64/\b a≠0):(h8 64 b λ_=>0)=false:=by obtain⟨a,d,c⟩:=e;unfold h8;simp only[List.all_eq_false,fq];exact⟨a,d,by simpa using c⟩
theorem aee(l:dV k b)(j:b 0=2)(i:d<6)(g:b (18+d)≠0):∃a,a<64/\bO b d a≠0:=by
 by_cases c:∀a,a<64->bO b d a=0
 .exact absurd ((l.nW j d i).2 c) g
 .refine Classical.byContradiction λe=>c λa f=>?_;exact Classical.byContradiction λh=>e ⟨a,f,h⟩
end
theorem aef(c:d<6)(a:e<64):bO (ds b (d+1)) d e=bO b d e:=by unfold bO ds;rw[ae Z]
theorem aeg{c:aj}(g:dV k b){a:Nat}(i:a<6)(h:b (18+a)=0)(d:Nat):e0 b c a d=e0 b c (a+1) d:=by
 have e:b 0≠1:=λf=>by have:=(g.oQ f).2.2 (18+a) Z Z;omega
 rw[q8 b c a e,q8 b c (a+1) e]
theorem aeh(q i z p:Nat)(F:af)(E J:Nat)(C:aY)(f a:aj)(G:Bool)(zy:gg c q i z p F E J C f (ds a 0) G)(zk:dV C a)(zw:ig f)(zt:b0 F E J (je a f 6)):Calls prog 180 #[ab q] c (nq c q i z p F E (J+(je a f 6).length) C (e0 a f 6) a G):=by
 have n:=Y zy;have zH:=Y zt;have A:=Y zk;have zp:=Y zw;have zf:=Y λd(zc:d<6) j(k:j<64)=>show -4095<=bO a d j/\bO a d j<=4095 from zk.aR _ Z Z;clear zy zt zk zw;have b:=n.out.dn;go_in;have zG:=b.ah 0 13;go_wp2_with(refine de (#[.bool (a 18 !=0),.bool (a 19 !=0),.bool (a 20 !=0),.bool (a 21 !=0),.bool (a 22 !=0),.bool (a 23 !=0)]) rfl nl (b.ai 1 rfl) (λj k=>q3) rfl rfl ?_)
 rw[pP (p:=f) (zh:=e0 a f 0) λj _=>by unfold e0;simp]at b;replace b:av [q,p,i,z] c c [(q,304,c7 (e0 a f 0) i C p G),(p,233,ap (ds a 0))] [i,z] λw=>b2 w i z F E (J+(je a f 0).length):=b;clear zG;have zA:=Y b;clear b;go_loopw [14] (λze wr=>∃d:Nat,d<=6/\ze=X d/\Hid (av [q,p,i,z] c wr [(q,304,c7 (e0 a f d) i C p G),(p,233,ap (ds a d))] [i,z] λw=>b2 w i z F E (J+(je a f d).length))) (λze _=>6-(intOf ze).toNat)
 .exact⟨0,Z,rfl,zA⟩
 .obtain⟨d,zc,rfl,zq⟩:=hrel;clear zA;have b:=zq.out;clear zq;by_cases g:d<6
  .have zS:(d:Int)<6:=Z;have zn:ds a d 0=a 0:=ae Z;have zu:=λw=>uz a d g w;by_cases r:a (18+d)=0
   .rw[show(a (18+d) !=0)=false from pT]at zu;go_wp2_with fail
    rw[pP (p:=e0 a f d) (zh:=e0 a f (d+1)) λj _=>aeg A.out g r j,acf A.out g r]at b;exact⟨⟨d+1,Z,a8,Y (by rw[sE,show jB a f d=[] by unfold jB;rw[ae r],eG];exact b)⟩,bF⟩
   .have D:=Y (ad8 zH.out g);rw[show(a (18+d) !=0)=true from pT]at zu;by_cases H:a 0=2
    .have s:a 0≠1:=Z;have L:jB a f d=ij (bO a d) 0:=by unfold jB;rw[M r,ae H]
     rw[L]at D;have z6:∀w,(binOp .eql 230 (.agg (an .i64 64 (bO (ds a (d+1)) d))) (.agg (an .i64 64 λ_=>0))).run prog w=.ok (.bool false) w:=λw=>by rw[Ou,aed (by obtain⟨j,k,zM⟩:=aee A.out H g r;exact⟨j,k,by rw[aef g k];exact zM⟩)]
     rw[q8 a f d s]at b;have zX:=b.ah 0 13;have zI:wr.cell? ⟨p,0,none⟩=some (.int .i64 ((ds a d) 0)):=b.au 1 0 rfl (fa R rfl);have zN:=b.ah 0 8;go_wp2_with fail
     refine(OI (bO a d) 0 (PC (.inl rfl) (zf.out d g)) D.out b.q).mono ?_;rintro e zaa ⟨rfl,zr,zz⟩;replace b:=b.kZ zr zz;clear zr zz;clear zn;clear zX zI zN;go_wp2_with(first|(refine i1 (an .i64 64 λj=>if(0:Nat)=1/\j=0 then 0 else bO a d j) rfl rfl rfl rfl (a64 _) (b.ai 1 rfl) (by rw[ap,gI,gO];omega) e6 ?_;intro I zb u aU;replace zb:=aec g▸zb;replace b:=b.bk 1 zb u;clear zb u aU)|(apply de (an .i64 64 (bO (ds a (d+1)) d));exact rfl;exact(a64 _);exact(b.ai 1 rfl);exact(so d g);exact rfl;exact rfl)|(refine tv rfl rfl ?_))
     rw[pP (p:=f) (zh:=e0 a f (d+1)) λj _=>by rw[q8 a f (d+1) s]]at b;exact⟨⟨d+1,Z,a8,Y (by rw[sE,L,aZ,<-gk];exact b)⟩,bF⟩
    .refine PF λs h ak B zh O P v y l x=>?_;have zj:=zf.out d g 0 R;rw[<-y]at P;rw[<-x]at zj;have L:jB a f d=dE (l-v)++ij (bO a d) 1:=by unfold jB;rw[M r,M H,<-ak,<-y,<-x]
     rw[L]at D;have z1:=Y D.out.left;have zL:=Y D.out.right;have zi:=Y ak;have zR:=Y y;have K:=Y x;clear ak y x D;have zU:=b.ah 0 13;have zK:wr.cell? ⟨p,0,none⟩=some (.int .i64 ((ds a d) 0)):=b.au 1 0 rfl (fa R rfl);go_wp2_with fail
     clear zU zK;replace b:=b.bd;refine rg [] [0,1,3,4,5,102,6,7] ?_;refine ax ?_;refine bN (O.out _) ?_;refine uB ?_;clear b;intro zF zab b;refine ax ?_;have zO:zF.cell? ⟨q,1+h,none⟩=some (.int .i64 v):=by rw[zR.out];exact b.au 0 _ rfl (Q6 B)
     go_wp2_with fail
     clear zO zn;refine(Gt _ q i z p F E _ C _ _ G (n.out.now b (t:=0) (j:=1) rfl rfl) v 4095 l R R zj.1 zj.2 Z Z z1.out).mono ?_;refine Gu ?_;clear b;intro o b;go_wp2_with(refine eI (X l) rfl rfl rfl rfl (b.ai 0 rfl) (by show 1+h<15;omega) rfl rfl ?_;intro z7 W zo zV;replace W:=ad9 h l B▸W;replace b:=b.bk 0 W zo;clear W zo zV;have zE:=b.ah 0 8)
     refine(OI (bO a d) 1 (PC (.inr rfl) (zf.out d g)) zL.out b.q).mono ?_;rintro e z8 ⟨rfl,zv,zl⟩;replace b:=b.kZ zv zl;clear zv zl;clear zE;go_wp2_with(refine i1 (an .i64 64 λj=>if(1:Nat)=1/\j=0 then 0 else bO a d j) rfl rfl rfl rfl (a64 _) (b.ai 1 rfl) (by rw[ap,gI,gO];omega) e6 ?_;intro zT za zs zQ;replace za:=aea g▸za;replace b:=b.bk 1 za zs;clear za zs zQ)
     have zW:zT.cell? ⟨q,1+h,none⟩=some (.int .i64 l):=b.au 0 _ rfl (Q6 B|>.trans (by unfold aV;rw[ae rfl]));refine uO 2 3 4 5 ?_;clear b;intro b;refine el λzD zm=>?_;refine eI (X l) rfl rfl rfl rfl (b.ai 1 rfl) xz rfl rfl ?_;intro z' zd zx zZ;replace zd:=aeb g K.out▸zd;replace b:=b.bk 1 zd zx;clear zd zx zZ;refine zm _ _ ?_;clear zm zD;refine ax ?_;clear zW;go_wp2_with fail
     refine PG λQ=>?_;rw[pP Q]at b;exact⟨⟨d+1,Z,a8,Y (by rw[sE,L,aZ,aZ,<-gk,<-gk];exact b)⟩,bF⟩
  .have zS:¬((d:Int)<6):=Z;obtain rfl:d=6:=Z;rw[ace]at b;go_wp2_with fail
   exact mA
theorem aei:dJ 304 (.agg #[X 0,X 0,X 0,X 0,X 0,X 0,X 0,X 0,.pointer none,X 0,X 0,.bool false,.bool false,.pointer none,.bool false]):=dM
theorem Q8(d:aj)(b:Nat)(a:aY)(c:Nat):prog.built 304 [(0,.agg (an .i64 8 d)),(1,.pointer (some ⟨b,0,none⟩)),(2,.agg (bl a)),(3,.pointer (some ⟨c,0,none⟩))]=some (c7 d b a c false):=ar
theorem aej{a:Qax}{d:Qaa}(i:aj)(c:Nat)(b:aY)(g:Nat)(m:cB a G x)(o:a.op=.build 304 #[(0,zo),(1,zq),(2,zn),(3,zp)])(k:x.eval zo=(an .i64 8 i))(e:x.eval zq=ab c)(h:x.eval zn=(bl b))(j:x.eval zp=ab g) (l:wpList prog G d za (x.put a.dst (c7 i c b g false)) f):wpList prog G d (a::za) x f:=nf λp n=>by
 rw[ae m];refine q0 _ _ o ?_ ?_
 .simp only[gm,cj,ee,k,e,h,j,Q8];rfl
 .simp only[gm,cj,ee,k,e,h,j,Q8];exact n _ _ l
section
variable {c f p:N}{u j n y:Nat}{s:af}{l:af}{g m zm:Nat}{k:aY}{a zh zt zx:aj}{zk zu:Bool}{q:bX}{t e:Nat}
theorem av.Ho(h:ao s c f q)(a:b2 f j n l g m)(d:∀b∈[j,n],b∉q.map (·.1))(i:∀b∈[j,n],b∈s\/c.heap.size<=b):av s c f q [j,n] λf=>b2 f j n l g m:=⟨h,⟨d,i,λb e=>by
 simp only[bu,eC,kI]at e;rcases e with rfl|rfl
 .exact a.1.lt
 .exact a.2.1.lt⟩,a,λ_ _ o k d a=>a.S k (d j U) (d n U)⟩
theorem av.xK(b:av s c f q [j,n] λf=>b2 f j n l g m)(p:q[t]? =some (u,304,c7 a j k y zk))(o:q[e]? =some (y,233,ap zt))(w:t≠e):gg f u j n y l g m k a zt zk:=
 have h:∀d∈[j,n],d≠u/\d≠y:=λd r=>⟨λi=>b.a.d d r (ca.2 ⟨_,bS p,i.symm⟩),λi=>b.a.d d r (ca.2 ⟨_,bS o,i.symm⟩)⟩
 ⟨b.ai t p,b.ai e o,b.q,b.ne t e p o w,(h j U).1.symm,(h n U).1.symm,(h j U).2.symm,(h n U).2.symm⟩
theorem av.xL{B:Qad}(d:av s c f q [j,n] F)(x:q[t]? =some (u,304,i))(z:q[e]? =some (y,233,B))(H:t≠e)(A:gg p u j n y l g zm k zh zx zu)(C:V [u,y,j,n] f p):av s c p ((q.set t (u,304,c7 zh j k y zu)).set e (y,233,ap zx)) [j,n] λf=>b2 f j n l g zm:=by
 have J:=d.size;have ak:∀b h,q[b]? =some h->t≠b->e≠b->h.1∉[u,y,j,n]:=λb h a o m G=>by
  simp only[bu,eC,kI]at G;rcases G with r|r|r|r
  .exact d.ne t b x a o r.symm
  .exact d.ne e b z a m r.symm
  .exact d.a.d j U (ca.2 ⟨h,bS a,r⟩)
  .exact d.a.d n U (ca.2 ⟨h,bS a,r⟩)
 have D:(q.set t (u,304,c7 zh j k y zu))[e]? =some (y,233,B):=by rw[qT H,z]
 have E:((q.set t (u,304,c7 zh j k y zu)).set e (y,233,ap zx)).map (·.1)=q.map (·.1):=by
  apply oM;intro b;rw[fx,fx];by_cases m:e=b
  .subst m;rw[sh (e8.1 D).1,z];rfl
  .rw[qT m];by_cases o:t=b
   .subst o;rw[sh (e8.1 x).1,x];rfl
   .rw[qT o]
 have I:b3 c s [u,y,j,n]:=λb a=>by
  simp only[bu,eC,kI]at a;rcases a with rfl|rfl|rfl|rfl
  .exact d.h.n _ (bS x)
  .exact d.h.n _ (bS z)
  .exact d.a.n _ U
  .exact d.a.n _ U
 refine .Ho ⟨d.aa.trans C I,λh w=>?_,by rw[E];exact d.h.d,λh w=>?_⟩ A.r (λb a=>?_) λb a=>d.a.n b a
 .obtain⟨b,a⟩:=Bc w;by_cases m:e=b
  .subst m;rw[sh (e8.1 D).1]at a;cases a
   exact A.m
  .rw[qT m]at a;by_cases o:t=b
   .subst o;rw[sh (e8.1 x).1]at a;cases a
    exact A.t
   .rw[qT o]at a;exact(d.h.b _ (bS a)).S C (ak b h a o m)
 .rcases ud w with w|rfl
  .rcases ud w with w|rfl
   .exact d.h.n h w
   .exact d.h.n (u,304,i) (bS x)
  .exact d.h.n (y,233,B) (bS z)
 .rw[E];exact d.a.d b a
end
structure Hp(e:af)(f:Nat)(d:aY)(j a:aj):Prop where
 m0:∀b c g h i m,gg b c g h i e f m d j (λ_=>0) false->b0 e f m (eb d a)->Calls prog 176 #[ab c] b (nq b c g h i e f (m+(eb d a).length) d j (kL a) (ea a))
 m1:∀b c g h i m,gg b c g h i e f m d j (kL a) (ea a)->b0 e f m (jd d a j)->Calls prog 177 #[ab c] b (nq b c g h i e f (m+(jd d a j).length) d (bn a j 2) (ko a) (ea a))
 m2:∀b c g h i m,gg b c g h i e f m d (bn a j 2) (ko a) (ea a)->b0 e f m (iJ d a)->Calls prog 178 #[ab c] b (nq b c g h i e f (m+(iJ d a).length) d (bn a j 2) (mD a) (ea a))
 m3:∀b c g h i m,gg b c g h i e f m d (bn a j 2) (mD a) (ea a)->b0 e f m (iK a)->Calls prog 179 #[ab c] b (nq b c g h i e f (m+(iK a).length) d (bn a j 2) (ds a 0) (ea a))
 m4:∀b c g h i m,gg b c g h i e f m d (bn a j 2) (ds a 0) (ea a)->b0 e f m (je a (bn a j 2) 6)->Calls prog 180 #[ab c] b (nq b c g h i e f (m+(je a (bn a j 2) 6).length) d (e0 a (bn a j 2) 6) a (ea a))
theorem Hp.of{n:aj}(j:dV k b)(o:ig n):Hp l g k n b:=⟨λa c d h i m e f=>abT a c d h i l g m k n b e j f,λa c d h i m e f=>ad7 a c d h i l g m k n b _ e j o f,λa c d h i m e f=>ad2 a c d h i l g m k _ b e j (o.pred j 2 R) f,λa c d h i m e f=>ad5 a c d h i l g m k _ b e j f,λa c d h i m e f=>aeh a c d h i l g m k _ b _ e j (o.pred j 2 R) f⟩
section
variable {D:Qav}{G:Qak}{L:Qax}{x:Act}{f:N}
theorem aek{h zf:Nat}{T c u t:Qat}{a:Qad}{r:Func}{K d k:Tmp}(n:r.results=#[.cell K T,.cell d c,.tmp k]){b:Qad}(m:bT D T i.size)(o:bT D c a.size)(q:ag f h u i)(p:ag f zf t a) (l:b.getD K undef=ab h) (j:b.getD d undef=.pointer (some ⟨zf,0,none⟩)):(results r b).run D f=.ok (.tuple #[i,a,b.getD k undef]) f:=by exact Ma
end
theorem ael(g i:Nat)(u:af)(t A:Nat)(k:aY)(f a:aj)(j:dV k a)(y:ig f)(zl:b2 c g i u t A)(l:b0 u t A (np k a f)):Calls prog 156 #[ab g,bl k,an .i64 8 f] c λe s=>e=.returned (.tuple #[ap a,an .i64 8 (fi a f),X 0])/\b2 s g i u t (A+(np k a f).length)/\V [g,i] c s:=by
 have zO:=Y zl;have zH:=Y λc=>FN c k j.nV;have zE:=Y λc=>NK c f y;have q:=Y (Hp.of (l:=u) (g:=t) j y);have zL:=Y (l.left);have zX:=Y (l.right.left);have zP:=Y (l.right.right.left);have zN:=Y (l.right.right.right.left);have zT:=Y (l.right.right.right.right);refine QF λw=>?_;clear j y zl l;have b:=av.Ho (ao.nil [g,i] c) zO.out U (λd zV=>.inl zV);go_in;go_wp2_with(first|(refine cx _ (bl k) rfl rfl rfl rfl ?_;intro zak zai zc zy zx;replace b:=b.aP zc zy zx;clear zc zy;clear zx)|(refine cx _ (an .i64 8 f) rfl rfl rfl rfl ?_;intro zan zal za B zb;replace b:=b.aP za B zb;clear za B;clear zb)|(refine cw _ (ap λ_=>0) rfl rfl i' rfl ?_;intro z1 J zv z zA;replace b:=b.aP zv z zA;clear zv z;clear zA)|(refine cw _ (an .i64 8 λ_=>0) rfl rfl nU rfl ?_;intro zaf o G m L;replace b:=b.aP G m L;clear G m;clear L)|(refine dO rfl (b.ai 3 rfl) (cE _) rfl rfl ?_))
 refine hD zH.out ?_;clear b;intro zab zaa b;go_wp2_with(refine dO rfl (b.ai 2 rfl) (eU _) rfl rfl ?_)
 refine ur zE.out ?_;clear b;intro zac z8 b;go_wp2_with(first|(refine cw _ (ap λ_=>0) rfl rfl i' rfl ?_;intro h H P p zp;replace b:=b.aP P p zp;clear P p;clear zp)|(refine dO rfl (b.ai 3 rfl) (eU _) rfl rfl ?_)|(refine dO rfl (b.ai 4 rfl) (cE _) rfl rfl ?_)|(refine aej f g k h rfl rfl rfl rfl rfl rfl ?_)|(refine cw _ (#[X 0,X 0,X 0,X 0,X 0,X 0,X 0,X 0,.pointer none,X 0,X 0,.bool false,.bool false,.pointer none,.bool false]) rfl rfl aei rfl ?_;intro r zad zt zk zj;replace b:=b.aP zt zk zj;clear zt zk;clear zj)|(refine cv (Q:=c7 f g k h false) abL (b.ai 0 rfl) rfl (abM _ _ _ _ _) rfl rfl rfl rfl ?_;intro zah zn zr zF;replace b:=b.bk 0 zn zr;clear zn zr zF)|(refine e' underlying308 (#[.func (.func 176) #[] #[],.func (.func 177) #[] #[],.func (.func 178) #[] #[],.func (.func 179) #[] #[],.func (.func 180) #[] #[]]) rfl rfl ar ?_;intro zZ zag K zd zi;replace b:=b.aP K zd zi;clear K zd zi))
 refine jc 6 ?_;rw[cR];have zJ:=b.ah 0 0;go_wp2_with fail
 clear zJ;refine(q.out.m0 _ r g i h _ (b.xK (t:=1) (e:=2) rfl rfl R) zL.out).mono ?_;rintro e zY ⟨rfl,W,O⟩;replace b:=b.xL (t:=1) (e:=2) rfl rfl R W O;try dsimp only[List.set]at b
 clear W O;go_wp2_with fail
 rw[cR];have zS:=b.ah 0 1;go_wp2_with fail
 clear zS;refine(q.out.m1 _ r g i h _ (b.xK (t:=1) (e:=2) rfl rfl R) zX.out).mono ?_;rintro e zao ⟨rfl,zw,I⟩;replace b:=b.xL (t:=1) (e:=2) rfl rfl R zw I;try dsimp only[List.set]at b
 clear zw I;go_wp2_with fail
 rw[cR];have zG:=b.ah 0 2;go_wp2_with fail
 clear zG;refine(q.out.m2 _ r g i h _ (b.xK (t:=1) (e:=2) rfl rfl R) zP.out).mono ?_;rintro e z6 ⟨rfl,zh,D⟩;replace b:=b.xL (t:=1) (e:=2) rfl rfl R zh D;try dsimp only[List.set]at b
 clear zh D;go_wp2_with fail
 rw[cR];have zK:=b.ah 0 3;go_wp2_with fail
 clear zK;refine(q.out.m3 _ r g i h _ (b.xK (t:=1) (e:=2) rfl rfl R) zN.out).mono ?_;rintro e zam ⟨rfl,zu,zo⟩;replace b:=b.xL (t:=1) (e:=2) rfl rfl R zu zo;try dsimp only[List.set]at b
 clear zu zo;go_wp2_with fail
 rw[cR];have zU:=b.ah 0 4;go_wp2_with fail
 clear zU;refine(q.out.m4 _ r g i h _ (b.xK (t:=1) (e:=2) rfl rfl R) zT.out).mono ?_;rintro e F ⟨rfl,C,zm⟩;replace b:=b.xL (t:=1) (e:=2) rfl rfl R C zm;try dsimp only[List.set]at b
 clear C zm;go_wp2_with fail
 rw[cR];have zI:F.cell? ⟨h,0,none⟩=some (.int .i64 (a 0)):=b.au 2 0 rfl (fa R rfl);go_wp2_with fail
 clear zI;have zW:F.cell? ⟨h,0,none⟩=some (.int .i64 (a 0)):=b.au 2 0 rfl (fa R rfl);replace b:=b.bd;refine rg [] [0,1,2,3,4,105,206,207,8] ?_;refine iZ (cP _) rfl rfl rfl (b.ai 2 rfl) ?_;refine lv ?_;refine hh (aL:=an .i64 8 (e0 a (bn a f 2) 6)) (eU _) (b.ai 1 rfl) (λE zs=>QG) rfl rfl rfl ?_;refine ax ?_;refine bN (w.out _) ?_;refine A6 λz' zD=>?_;replace b:=b.aS zD;refine el λx n=>?_;refine cv (Q:=ap a) (cP _) (b.ai 4 rfl) jD (gf _) rfl rfl rfl rfl ?_;intro z7 ze Q zM;replace b:=b.bk 4 ze Q;clear ze Q zM;refine n _ _ ?_;clear n x;simp only[az];refine el λx n=>?_;refine cv (Q:=an .i64 8 (fi a f)) (eU _) (b.ai 3 rfl) rfl (e6) rfl rfl rfl rfl ?_;intro zae zz zf zQ;replace b:=b.bk 3 zz zf;clear zz zf zQ;refine n _ _ ?_;clear n x;refine ax ?_;clear zW;go_wp2_with fail
 refine bB (aek rfl (cP _) (eU _) (b.ai 4 rfl) (b.ai 3 rfl) rfl rfl) ⟨rfl,?_,b.aa⟩;have zq:=b.q;simp only[gk]at zq;simp only[np,aZ];exact zq
theorem uV:kz 233 (.agg (ap λ_=>0)) 408 3200:=k7
theorem aem{h:Nat}{c:Nat}(f:b0 l g h (jj k W C c)){a:Nat}(n:a<c):b0 l g (h+(jj k W C a).length) (np k (W a) (fk W C a)):=by
 have j:∀b,a+1+b<=c->∃d,jj k W C (a+1+b)=(jj k W C a++np k (W a) (fk W C a))++d:=by
  intro b;induction b with
  |zero=>intro _;exact⟨[],by rw[eG];rfl⟩
  |succ b i=>intro m;obtain⟨d,e⟩:=i Z;exact⟨d++np k (W (a+1+b)) (fk W C (a+1+b)),by rw[<-b5,<-e];rfl⟩
 obtain⟨d,e⟩:=j (c-(a+1)) Z;rw[show a+1+(c-(a+1))=c from Z]at e;rw[e]at f;exact f.left.right
theorem Q9(b:N)(e:Qae)(c f:Nat)(a:af)(p:aF b e 1 c (aC a))(q:c<=1099511627776)(k:∀j∈a,j<256)(l:a.getLastD 0≠0):Calls prog 135 #[.slice e c f] b λn h=>∃d g,n=.returned (.tuple #[ab d,X 0])/\b2 h d g a (qX a) 0/\V [] b h/\b.heap.size<=d/\b.heap.size<=g:=(aaK b e c f a p q k l).mono λ_ _ ⟨m,i,o⟩=>⟨_,_,m,i,o,Nat.le_succ _,a' _⟩
theorem ao.off{c:N}(d:ao s c f q)(e:f.heap.size<=j)(h:f.heap.size<=n):(∀a∈[j,n],a∉q.map (·.1))/\∀a∈[j,n],a∈s\/c.heap.size<=a:=by have g:=d.size;refine⟨λa b=>d.fresh ?_,λa b=>.inr ?_⟩<;>simp only[bu,eC,kI]at b<;>rcases b with rfl|rfl<;>omega
theorem Cu(a:Qah):b0 (bh a) a.length 0 a:=by unfold b0;rw[YL,uk];exact List.prefix_refl _
theorem av.aen{c:N}{m d:Nat}(e:av s c f q [j,n] λf=>b2 f j n l g m)(a:b2 p j n l g d)(b:V [j,n] f p):av s c p q [j,n] λf=>b2 f j n l g d:=
 have k:=e.a.grow e.h b (b3.refl _ _) λo i=>by
  simp only[bu,eC,kI]at i;rcases i with rfl|rfl
  .exact a.1.lt
  .exact a.2.1.lt
 ⟨k.1,k.2,a,λ_ _ r b h a=>a.S b (h j U) (h n U)⟩
theorem aeo(f:bx)(i:Bool)(row:Int)(e g:Nat)(h:Qan)(s:Qae)(o A:Nat)(m:fI a f i)(t:0<=row/\row<cc a f/16)(y:1<=e/\e<=31)(zb:a.W/16=(g:Int))(zL:∀d,d<g->dV (bD a f i) (h d))(zy:aF c s 1 o (aC (bh (iL (bD a f i) h e g))))(zM:o<=1099511627776):Calls prog 121 #[ay a,a1 f,.bool i,br (1+row) s o A] c λu zf=>∃G,u=.returned (.tuple #[X e,.slice (ab G) g g,X 0])/\(∀d,d<g->zf.rangeAt G (d*408) (ap (h d)).toList)/\V [] c zf/\c.heap.size<=G:=by
 have zE:=Y λc=>Hh c a f i m;have zK:=Y λc=>Cq c a f i m;have zC:=Y λc=>Hj c a f i;have za:=Y zL;have zH:=Y (show 1<=(e:Int)/\(e:Int)<=31 from Z);have zs:=Y (show e<2^5 by have:(2:Nat)^5=32:=rfl;omega);refine QS λI p pU C E F J=>?_;have zd:decide (1+row<1)=false:=aw;have zh:decide (1+cc a f/16<=1+row)=false:=aw;have zY:decide (cc a f/16<=row)=false:=aw;have zae:decide (row<0)=false:=aw;have Q:((e:Int)==0)=false:=aw;have x:=Cu (iL (bD a f i) h e g);have W:(iL (bD a f i) h e g).length=5+(jj (bD a f i) h e g).length:=by unfold iL;rw[aZ,kh]
 obtain⟨j,zi⟩:∃j,j=bh (iL (bD a f i) h e g):=⟨_,rfl⟩;obtain⟨k,K⟩:∃k,k=(iL (bD a f i) h e g).length:=⟨_,rfl⟩;have w:=Y (show aF c s 1 o (aC j)/\o<=1099511627776/\(∀zu∈j,zu<256)/\j.getLastD 0≠0/\qX j=k by rw[zi,K];exact⟨zy,zM,tJ _,uu _,NQ _⟩);rw[<-zi,<-K]at x;rw[<-K]at W;have zB:=Y W;have x:b0 j k 0 (bitsOf e 5++jj (bD a f i) h e g):=x;have zD:=Y x.left;have zq:=Y (show b0 j k (0+5) (jj (bD a f i) h e g) by have:=x.right;rwa[kh]at this);have zG:=Y λc n q t=>show Calls prog 142 #[ab n,X 5] c (st c n q j k (0+5) (.int .u32 (e:Int)))from BU (c:=c) (h:=n) (K:=q) e 5 R zs.out zD.out t;have b:=ao.nil [] c;go_in;go_wp2_with(first|(refine b.aI _ (ay a) ?_;intro zd z6 b)|(refine b.aI _ (a1 f) ?_;intro zh z8 b)|(refine b.aI _ (br (1+row) s o A) ?_;intro Q zR b))
 have zT:=b.ah 0 0;replace b:=b.bd;refine rg [] [0,1,2,103,4,5,6,7,8,9,10,11,12,13,14,115,16,17,18] ?_;refine Xa ?_;refine Xa ?_;refine hR ?_;refine b.ec (zE.out _) ?_;intro zaf b;have zad:=b.ah 0 0;refine J4 ?_;refine Xa ?_;refine Xa ?_;refine b.ec (zK.out _) ?_;intro zV b;refine ax ?_;have zU:=b.ah 0 1;go_wp2_with fail
 refine(Q9 _ s o A j (w.out.1.ad b.aa) w.out.2.1 w.out.2.2.1 w.out.2.2.2.1).mono ?_;rintro u zW ⟨n,q,rfl,l,or,z,B⟩;rw[w.out.2.2.2.2]at l;refine Cv ?_;clear b;intro r b;go_wp2_with fail
 refine(zG.out _ _ _ b.q).mono ?_;rintro u zab ⟨rfl,zN,zt⟩;replace b:=b.kZ zN zt;go_wp2_with(first|(refine b.ld 2 (cH _) ?_)|(refine b.ld 1 (cX _) ?_))
 refine b.aW (zC.out _) ?_;intro zX b;go_wp2_with fail
 refine b.aW (FR _ _) ?_;intro z1 b;rw[show(λH=>if H=0 then(e:Int)else 0)=fk h e 0 from rfl];go_wp2_with(first|(refine b.aH (bl ⟨0,0,false,false⟩) Hi ?_;intro zj zZ b)|(refine b.aH (an .i64 8 λ_=>0) nU ?_;intro zz zO b)|(refine b.aN 1 (bl (bD a f i)) (cE _) (Fp _) ?_;intro zah b)|(refine b.aN 0 (an .i64 8 (fk h e 0)) (eU _) (e6) ?_;intro zl b;have z7:=b.cl 4 0 (v:=X a.W) (g:=by simp[ay,cO,da]))|(refine q5 _ _ _ 233 (.agg (ap λ_=>0)) (lX (q4 h 0) g) 408 3200 g underlying220 uV (ab4 h g) (by have:=p.out;omega) (by have:=p.out;unfold maxLen;omega) ?_ (B:=by exact aX (Value.int .i64) zb) (t:=by exact aX (Value.int .i64) zb);intro zaa ze zc;replace b:=b.aP ze zc (a' _);clear ze zc;generalize zl.heap.size=L at b⊢))
 go_loopw [69] (λD wr=>∃d:Nat,d<=g/\D=X d/\Hid (av [] c wr [(L,233,lX (q4 h d) g),(zz,274,an .i64 8 (fk h e d)),(zj,236,bl (bD a f i)),(Q,97,br (1+row) s o A),(zh,48,a1 f),(zd,26,ay a)] [n,q] λzJ=>b2 zJ n q j k (0+5+(jj (bD a f i) h e d).length))) (λD _=>g-(intOf D).toNat)
 .exact⟨0,Z,rfl,Y b⟩
 .obtain⟨d,O,rfl,zp⟩:=hrel;try clear b
  have b:=zp.out;by_cases P:d<g
  .have zI:(d:Int)<(g:Int):=Z;have zr:=za.out d P;have zm:=Cs zH.out d λH zac=>za.out H Z;have zn:=aem zq.out P;have z':(d:Int)<(g:Int):=Z;go_wp2_with(first|(refine b.ld 2 (cE _) ?_)|(refine b.ld 1 (eU _) ?_))
   refine(ael _ n q j k _ (bD a f i) (fk h e d) (h d) zr zm b.q zn).mono ?_;rintro u zQ ⟨rfl,zo,zk⟩;replace b:=b.aen zo zk;rw[show fi (h d) (fk h e d)=fk h e (d+1)from rfl];go_wp2_with(first|(refine b.stM 0 (ap (h d)) (lX (q4 h (d+1)) g) (cP _) (gf _) ?_ (t:=(ab0 P).trans ab2) (u:=by rw[xn,ap,gI];omega);intro zS b)|(refine b.aN 1 (an .i64 8 (fk h e (d+1))) (eU _) (e6) ?_;intro zP b))
   exact⟨⟨d+1,Z,a8,Y (by rw[jj,aZ,<-gk];exact b)⟩,bF⟩
  .have zI:¬((d:Int)<(g:Int)):=Z;obtain rfl:g=d:=Z;go_wp2_with fail
   refine(FY _ n q j k _ b.q).mono ?_;rintro u zag ⟨rfl,rfl⟩;rw[show(k:Int)-((0+5+(jj (bD a f i) h e g).length:Nat):Int)=0 by have:=zB.out;omega];replace b:=b.bd;go_wp2_with fail
   have zA:=b.ai 0 (h:=L) rfl;have zF:=(b.h.n _ (bS (i:=0) rfl)).resolve_left U;have zv:=b.aa;refine Hq rfl ⟨L,rfl,λd O=>by have:=ab1 zA O;rwa[ab3 O]at this,zv,zF⟩
inductive iN
 |aQ
 |aA (k:Bool) (zb:Nat)
 |cD (l:bx)
