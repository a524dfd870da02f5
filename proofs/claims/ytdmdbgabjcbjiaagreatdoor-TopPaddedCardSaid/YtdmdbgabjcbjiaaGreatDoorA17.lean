import Derived.Test.YtdmdbgabjcbjiaaGreatDoorA15
import Derived.Test.YtdmdbgabjcbjiaaGreatDoorA16
set_option maxHeartbeats 0
set_option maxRecDepth 100000
set_option linter.all false
namespace Go.Proofs.YtdmdbgabjcbjiaaGreatDoor
open Go.RowKit fD cr hs a7 _root_.Go.Proofs.Tryz
variable{y:aY}{b n t:Bool}{c l:Prop}{a j v:aj}{e A B q d x i:Nat}{w:Qan}{I:Qad}{D:aD}{r:Qak}{C:Qal}{g:Act}{f:N}{o:Nat->aK}{z:Type}{k:Nat->Bool}{p:Nat->aq}{m u:Nat->bi}{s:aK}{h:bx}
def l2(a:Bool)(aR:Qan):aj:=cV (fl (aV (λ_=>0) 0 1) a aR 6) 18 6 λ_=>1
theorem agX(b:aj):cC (ap b) 18 (#[.bool true,.bool true,.bool true,.bool true,.bool true,.bool true]:Qad).toList=ap (cV b 18 6 λ_=>1):=nT (r:=6) R _ rfl λa c=>by
 unfold hB cV;rw[show hC (18+a)=true from H0 c,ae rfl,ae ⟨Z,Z⟩];match a,c with
 |0,_|1,_|2,_|3,_|4,_|5,_=>rfl
theorem l3(e:Bool)(aR:Qan)(a:Nat):l2 e aR a=if 18<=a/\a<24 then 1 else if a=0 then 1 else if a=4 then e.toInt else if 24<=a/\a<408 then aR ((a-24)/64) ((a-24)%64)else 0:=by
 by_cases c:a=0
 .subst c;rfl
 .by_cases b:a=4
  .subst b;rfl
  .unfold l2 cV;by_cases d:18<=a/\a<24
   .rw[ae Z,ae d]
   .rw[M Z,M d,M c,M b];unfold fl aV;rw[M b,M Z,M c]
theorem CY{aR:Qan}(g:y.Ok)(i:b=true->y.both=true)(k:∀e a,a<64->-4095<=aR e a/\aR e a<=4095):dV y (l2 b aR) where
 nV:=g
 k:=.inr (.inl (l3 b aR 0))
 qV a j:=by
  have l:1<=a/\a<=4\/18<=a/\a<=23:=by simpa[hC]using j
  rw[l3];by_cases c:18<=a/\a<24
  .rw[ae c];exact .inr rfl
  .rw[M c,M Z];by_cases f:a=4
   .rw[ae f];cases b;exact .inl rfl;exact .inr rfl
   .rw[M f,M Z];exact .inl rfl
 q:=l3 b aR 17
 ug _:=l3 b aR 0
 pK h:=yd
 oQ _:=⟨λa c d=>TB,λa c d=>TB,λa c d=>by rw[l3,ae Z]⟩
 ja h:=yd
 lb h:=yd
 pL h:=absurd (l3 b aR 3) h
 fd h:=by
  rw[l3]at h;refine⟨i ?_,?_⟩
  .cases b
   .exact absurd rfl h
   .rfl
  .unfold ea;rw[l3];rfl
 d h:=yd
 aR a c d:=by rw[l3,M Z,M Z,M Z,ae Z];exact k _ _ Z
 nW h:=yd
theorem bG.Ok.ID{a:bG}{d:N}(b:a.Ok d):hT a.s.a/\eD a.s.a (a.q:Int)=true/\hT a.s.b/\eD a.s.b (a.q:Int)=true:=
 have c:ps (a.q:Int)=true:=rU.2 (by have:=b.q;omega)
 ⟨b.aQ.kj,by unfold eD;rw[show gP a.s.a 64=true from b.aQ.v.2.2.2.2.2.2.2.2.2.2.2.2.2.2.2.2.1,c];rfl,b.aQ.fP,by unfold eD;rw[show gP a.s.b 64=true from b.aQ.v.2.2.2.2.2.2.2.2.2.2.2.2.2.2.2.2.2,c];rfl⟩
theorem agY{b:bG}:∀a,a<(an .u8 64 b.s.a).size->(cW b)[11+a]? =(an .u8 64 b.s.a)[a]? :=λa c=>by have d:=uS b.s a c;rw[gO]at c;rw[show 11+a=4+(7+a)from Z,p0 _ ye,d]
theorem agZ{b:bG}:∀a,a<(an .u8 64 b.s.b).size->(cW b)[75+a]? =(an .u8 64 b.s.b)[a]? :=λa c=>by have d:=uT b.s a c;rw[gO]at c;rw[show 75+a=4+(71+a)from Z,p0 _ ye,d]
def ag0(a:bG)(aO:aq)(c:N)(d:Ending)(e:N):Prop:=∃b:Bool,(b=true->jl a=true)/\d=.returned (.agg (ap (l2 b (h4 a a.s.a aO (dl 16 16 128 128 128) b))))/\V [] c e
theorem ag1(c:N)(a:bG)(o:Nat)(s:ag c o 291 (cW a))(k:a.Ok c)(L:dD)(aO:aq)(m:aK)(C:aO.dN)(l:aT c aO m):Calls prog 236 #[ab o,al aO m] c (ag0 a aO c):=by
 have I:=Y s;have zj:=Y C;have zp:=Y l;have zq:=Y k.l;have zc:=Y L;have F:=Y k.ID;refine TC λP=>?_;refine aG ((dl 16 16 128 128 128)) λh n=>?_;have zl:ck h.dN:=n▸Hf;have zh:=Y λc=>show Calls prog 152 #[X 16,X 16,.int .u8 128,.int .u8 128,.int .u8 128] c (jR h c)from n▸A' c 16 16 128 128 128 R R R R R R;have zn:=Y n;clear s C l k L n;have b:=ao.nil [] c;go_in;refine nh λzm zi zw zs zo=>?_;go_wp2_with(first|(clear zm;refine b.aI _ (al aO m) ?_;clear b;intro zD zC b)|(clear zi;refine b.aH (ap λ_=>0) i' ?_;clear b;intro zM zE b)|(clear zw;refine fU (T:=233) (ap (aV (λ_=>0) 0 1)) ?_)|(clear zs;refine b.aH (ap λ_=>0) i' ?_;clear b;intro z zx b)|(clear zo;refine b.aN 0 (ap (aV (λ_=>0) 0 1)) (cP _) (gf _) ?_ (s:=jD);clear b;intro zK b))
 replace b:=b.bd;refine rg [] [0,1,6,7,8,9,10,102,3,4,105,211] ?_;refine lv ?_;refine b.fw 2 aB ?_;refine pk ?_;refine hh (aL:=an .u8 64 a.s.a) (gp _) (I.out.S b.aa U) agY rfl rfl rfl ?_;simp only[az];refine bN (zh.out _) ?_;refine xA ?_;clear b;intro zz J G Q zy b;refine b.ec (oo _ h _) ?_;clear b;intro B b;simp only[az];have A:aT B h (bb h J G Q):=⟨.aP (b.ai 0 rfl),.aP (b.ai 1 rfl),.aP (b.ai 2 rfl),a' _,a' _,a' _⟩;have x:=(b.n (z,_,_) (bS (i:=3) rfl)).resolve_left U;have H:=b.ne 3 0 rfl rfl R;have K:=b.ne 3 1 rfl rfl R;have W:=b.ne 3 2 rfl rfl R;simp only at H K W x;have r:=P.out _ x;refine iC (Ij _ a o (I.out.S b.aa U) (zq.out.ad b.aa) zc.out z (aV (λ_=>0) 0 1) (b.ai 3 rfl) aO h m (bb h J G Q) zj.out zl.out (zp.out.ad b.aa) A ⟨r.1,r.2.1,by simp[bg,bb];omega,r.2.2⟩ a.s.a F.out.1 F.out.2.1) ?_;rintro e zF ⟨p,D,rfl,zb,za⟩;refine⟨_,rfl,?_⟩;clear A x H K W r;replace b:=b.bk 3 zb za;clear zb za;refine ax ?_;refine aG ((fl (aV (λ_=>0) 0 1) p (h4 a a.s.a aO h p) 6)) λy w=>?_;rw[w]at b;have zf:=Y w;have zk:=Y D;clear w D;generalize o5 (h4 a a.s.a aO h p) 6=zJ;refine nb λzv zd zr=>?_;go_wp2_with(first|(clear zv;refine b.stM 3 (#[.bool true,.bool true,.bool true,.bool true,.bool true,.bool true]) (ap (cV y 18 6 λ_=>1)) nl fy ?_ (t:=agX y) (u:=by rw[ap,gI];decide);clear b;intro zA b)|(clear zd;refine b.ld 3 (cP _) ?_)|(clear zr;refine b.aN 4 (ap (cV y 18 6 λ_=>1)) (cP _) (gf _) ?_ (s:=jD);clear b;intro zB b))
 refine bB (eH rfl (cP _) (b.ai 4 rfl) rfl) ⟨p,zk.out,?_,b.aa⟩;rw[l2,zn.out,zf.out]
theorem aY.IE{a:bG}(b:a.c=bD a.s a.h n):a.c.both=jl a:=by rw[b];rfl
structure rm(e:bG)(d b:aj):Prop where
 cI:∀a,a<18->a≠4->b a=d a
 CZ:b 4=0\/b 4=1
 nW:∀c,c<6->(b (18+c)=0\/b (18+c)=1)/\(b (18+c)=0↔∀a,a<64->bO b c a=0)
 fd:b 4≠0->jl e=true/\∃c,c<6/\b (18+c)≠0
 aR:∀a,24<=a->a<408->-4095<=b a/\b a<=4095
theorem TD(a:c:=by
 rcases d.u with b|b
 .exact .inl Z
 .exact .inr Z):c:=a
theorem C0{k:bG}(u:k.c.Ok)(o:k.c=bD k.s k.h n)(d:kt k a)(l:rm k a j)(x:k.h.t≠1):dV k.c j:=by
 have bw:k.c.t=k.h.t:=by rw[o];rfl
 have y:k.c.s=k.h.s:=by rw[o];rfl
 have f:=λh(r:h<18)(g:h≠4)=>l.cI h r g;have p:∀c,c<2->∀e,e<4->j (5+4*c+e)=a (5+4*c+e):=λc ak e i=>f _ Z Z;have m:∀c,c<2->∀e,e<2->j (13+2*c+e)=a (13+2*c+e):=λc ak e i=>f _ Z Z;refine⟨u,.inr (.inr (by rw[f 0 R R];exact d.k)),λh B=>?_,by rw[f 17 R R];exact d.z 17 R R,λb=>absurd (bw▸b) x,λb=>absurd b (by rw[f 0 R R,d.k];decide),λb=>absurd b (by rw[f 0 R R,d.k];decide),λ_=>?_,λ_ b=>?_,λb=>?_,λb=>?_,λ_ c ak=>?_,l.aR,λ_ n A=>(l.nW n A).2⟩
 .have q:1<=h/\h<=4\/18<=h/\h<=23:=by simpa[hC]using B
  by_cases b:h=4
  .rw[b];exact l.CZ
  .rcases q with q|q
   .rw[f h Z b];exact d.f h q.1 Z
   .have:=(l.nW (h-18) Z).1;rwa[show 18+(h-18)=h from Z]at this
 .rw[f 1 R R,f 2 R R];exact TD
 .have:=d.lb (bw▸b);rw[f 1 R R,f 2 R R];exact⟨Z,this.2⟩
 .rw[f 3 R R]at b;rw[aY.IE o];exact d.pL ((d.f 3 R R).resolve_left b)
 .obtain⟨r,z,C,g⟩:=l.fd b;rw[aY.IE o];refine⟨r,?_⟩;unfold ea;match z,C with
  |0,_=>simp only[fs]at g;simp[g]
  |1,_=>simp only[Nat.reduceAdd]at g;simp[g]
  |2,_=>simp only[Nat.reduceAdd]at g;simp[g]
  |3,_=>simp only[Nat.reduceAdd]at g;simp[g]
  |4,_=>simp only[Nat.reduceAdd]at g;simp[g]
  |5,_=>simp only[Nat.reduceAdd]at g;simp[g]
 .have D:j (1+c)=a (1+c):=f _ Z Z;have s:=f 3 R R;have t:=m c ak 0 R;simp only[fs]at t;refine⟨λb=>?_,λ_ b=>?_,λ_ b w=>?_,λe i=>by rw[p c ak e i];exact d.v c ak e i,λe i=>by rw[m c ak e i];exact d.s c ak e i⟩
  .have:=d.off c ak (D▸b);exact⟨λe i=>by rw[p c ak e i];exact this.1 e i,λe i=>by rw[m c ak e i];exact this.2 e i⟩
  .have:=d.w c ak (s▸b);rw[p c ak 2 R,p c ak 3 R,m c ak 1 R];exact⟨this.1,this.2.1,this.2.2.1⟩
  .rw[t];exact(d.w c ak (s▸b)).2.2.2 (y▸w)
theorem C1{d:bG}(b:kt d a):rm d a a where
 cI _ _ _:=rfl
 CZ:=.inl b.z4
 nW n f:=⟨.inl (b.z _ Z Z),λ_ c g=>b.z _ Z Z,λ_=>b.z _ Z Z⟩
 fd q:=absurd b.z4 q
 aR c h1 e:=by rw[b.z c Z e];omega
theorem TE{b:aj}:mM b=false↔∀a,a<64->b a=0:=by unfold mM;rw[Bool.not_eq_false',te]
theorem TF{aR:Qan}{c:Nat}(d:c<6):fl a b aR 6 (18+c)=(mM (aR c)).toInt:=by unfold fl;rw[M Z,ae Z,show 18+c-18=c from Z]
theorem IF{aR:Qan}(c:24<=e)(d:e<408):fl a b aR 6 e=aR ((e-24)/64) ((e-24)%64):=by unfold fl;rw[M Z,M Z,ae Z]
theorem TG{aR:Qan}(d:e<18)(c:e≠4):fl a b aR 6 e=a e:=by unfold fl;rw[M c,M Z,M Z]
theorem TH{aR:Qan}(d:Nat)(i:d<6):(fl a b aR 6 (18+d)=0\/fl a b aR 6 (18+d)=1)/\(fl a b aR 6 (18+d)=0↔∀c,c<64->bO (fl a b aR 6) d c=0):=by
 have h:∀c,c<64->bO (fl a b aR 6) d c=aR d c:=λc e=>by unfold bO;rw[IF Z Z,show(24+64*d+c-24)/64=d from Z,show(24+64*d+c-24)%64=c from Z]
 rw[TF i];cases g:mM (aR d)
 .exact⟨.inl rfl,λ_ c e=>by rw[h c e];exact TE.1 g c e,λ_=>rfl⟩
 .refine⟨.inr rfl,λf=>absurd f R,λf=>?_⟩;rw[TE.2 λc e=>(h c e)▸f c e]at g;exact Bool.noConfusion g
theorem ag2{f:bG}{aR:Qan}(i:∀d e,e<64->-4095<=aR d e/\aR d e<=4095)(g:b=true->jl f=true)(k:o5 aR 6=true):rm f a (fl a b aR 6) where
 cI _ h1 j:=TG h1 j
 CZ:=by unfold fl;rw[ae rfl];cases b;exact .inl rfl;exact .inr rfl
 nW d c:=TH d c
 fd q:=by
  have h:b=true:=by
   cases b
   .exact absurd (by unfold fl;rw[ae rfl];rfl) q
   .rfl
  refine⟨g h,?_⟩;obtain⟨d,c,m⟩:=List.any_eq_true.1 k;have c:=fq.1 c;exact⟨d,c,by rw[TF c,m];decide⟩
 aR e h1 l:=by rw[IF h1 l];exact i _ _ Z
theorem ag3{k:bG}{aR:Qan}(j:∀f e,e<64->-4095<=aR f e/\aR f e<=4095):rm k a (aV (fl a b aR 6) 4 0) where
 cI e h1 h:=by unfold aV;rw[M h];exact TG h1 h
 CZ:=.inl rfl
 nW f i:=by
  have g:∀e,e≠4->aV (fl a b aR 6) 4 0 e=fl a b aR 6 e:=λe d=>by unfold aV;rw[M d]
  have:=TH (a:=a) (b:=b) (aR:=aR) f i;rw[g _ Z];refine⟨this.1,this.2.trans ⟨λc e d=>?_,λc e d=>?_⟩⟩
  .have:=c e d;unfold bO at this⊢;rw[g _ Z];exact this
  .have:=c e d;unfold bO at this⊢;rw[g _ Z]at this;exact this
 fd c:=absurd rfl c
 aR e h1 l:=by unfold aV;rw[M Z,IF h1 l];exact j _ _ Z
def bG.IG(a:bG)(d e:Nat):Prop:=∀b:Nat,b<2->(b:Int)<fW a.h.t->∀c,c<2->(fV a.c a.hN b c).dd/\(il a.c b c=false->(fV a.c a.hN b c).h%32=0)/\d<(ep a.c a.hN b c).w/16/\e<(ep a.c a.hN b c).h/16/\(jl a=true->(ep a.c a.hN b c).h%32=0)
theorem IH{a:Int}:fW a=0\/fW a=1\/fW a=2:=by unfold fW;split;exact .inr (.inl rfl);split;exact .inr (.inr rfl);exact .inl rfl
theorem II{c:bG}(E:c.c=bD c.s c.h n)(d:kt c a)(t:rm c a j)(y:c.h.t=2\/c.h.t=3)(w:c.IG A B):om c.c c.hN j A B:=by
 have g:=λm(i:m<18)(l:m≠4)=>t.cI m i l;have o:j 0=2:=by rw[g 0 R R];exact d.k
 have p:lY c.c j=j:=by unfold lY;rw[M (by rw[o];decide)]
 refine .inr ⟨by rw[o];decide,?_,λe ak b=>?_⟩
 .rw[p,g 1 R R,g 2 R R];exact TD
 .rw[p]at b⊢;have C:(e:Int)<fW c.h.t:=by
   rcases y with h|h
   .have:=(d.lb h).2;rw[h];match e,ak with
    |0,_=>decide
    |1,_=>rw[g 2 R R]at b;exact absurd this b
   .rw[h];show(e:Int)<2;omega
  have q:∀f,f<2->j (13+2*e+f)=0\/j (13+2*e+f)=1:=λf k=>by rw[g _ Z Z];exact d.s e ak f k
  have z:=q 0 R;simp only[fs]at z;have u:jX j e<2:=Cp;obtain⟨i,l,s,x,D⟩:=w e ak C _ u;refine⟨i,l,s,x,λr=>D ?_,λf k=>by rw[g _ Z Z];exact d.v e ak f k,q⟩;rw[g 3 R R]at r;exact d.pL ((d.f 3 R R).resolve_left r)
theorem IJ{a:bG}(b:a.c.Ok)(c:a.c=bD a.s a.h n)(d:a.h.t≠1):dV a.c λ_=>0 where
 nV:=b
 k:=.inl rfl
 qV _ _:=.inl rfl
 q:=rfl
 ug q:=absurd (by rw[c]at q;exact q) d
 pK _ _ _:=rfl
 oQ q:=absurd q R
 ja q:=absurd q R
 lb q:=absurd q R
 pL q:=absurd rfl q
 fd q:=absurd rfl q
 d q:=absurd q R
 aR _ _ _:=Z
 nW q:=absurd q R
theorem C2(c:3<=e)(a:e≠13)(b:e≠15):stM y e=0:=by unfold stM gT;rw[M a,M b,M Z,M Z,M Z]
theorem TI(a:aY):a.par=0\/a.par=1:=by unfold aY.par;split;exact .inr rfl;exact .inl rfl
theorem ag4(a:aY){c b:Nat}(ak:c<2)(d:b<2):stM a (13+2*c+b)=0\/stM a (13+2*c+b)=1:=by
 match c,ak,b,d with
 |0,_,0,_=>
  show(if a.field=true then a.par else 0)=0\/(if a.field=true then a.par else 0)=1;split
  .exact TI a
  .exact .inl rfl
 |0,_,1,_=>exact .inl (C2 R R R)
 |1,_,0,_=>
  show(if a.field=true/\a.t=3 then a.par else 0)=0\/(if a.field=true/\a.t=3 then a.par else 0)=1;split
  .exact TI a
  .exact .inl rfl
 |1,_,1,_=>exact .inl (C2 R R R)
theorem IK{a:bG}(o:a.c=bD a.s a.h n)(r:a.h.t=2\/a.h.t=3)(l:a.IG A B):om a.c a.hN (λ_=>0) A B:=by
 have f:lY a.c (λ_=>0)=stM a.c:=by unfold lY;rw[ae rfl]
 refine .inr ⟨R,.inl (by rw[f];exact(by decide:(1:Int)≠0)),λb ak c=>?_⟩;rw[f]at c⊢;have t:(b:Int)<fW a.h.t:=by
  rcases r with d|d
  .match b,ak with
   |0,_=>rw[d];decide
   |1,_=>have:stM a.c 2=(a.c.t==3).toInt:=rfl;rw[show 1+1=2 from rfl,this,o]at c;rw[show(bD a.s a.h n).t=a.h.t from rfl,d]at c;exact absurd rfl c
  .rw[d];show(b:Int)<2;omega
 have h:=λe(g:e<2)=>ag4 a.c ak g;have s:=h 0 R;simp only[fs]at s;have k:jX (stM a.c) b<2:=Cp;obtain⟨j,q,i,m,u⟩:=l b ak t _ k;exact⟨j,q,i,m,λp=>absurd (C2 R R R) p,λe g=>by rw[C2 Z Z Z];omega,h⟩
theorem TJ(aL:Qad)(a:aL.size=2):bT prog 391 aL.size:=by rw[a];exact⟨_,underlying391,rfl,ar⟩
theorem ag5:dJ 391 (.agg #[.nilFunc,.nilFunc]):=dM
theorem TK:dJ 392 (.agg (eQ λ_=>0)):=dM
theorem TL(b c:Qas)(a:N):(Instr.index 391 (.agg #[b,c]) (X 0)).run prog a=.ok b a/\(Instr.index 391 (.agg #[b,c]) (X 1)).run prog a=.ok c a:=⟨ar,ar⟩
def ag6(i:bG)(d:N)(h:Ending)(e:N):Prop:=∃(c a g:Nat)(f:Qan),h=.returned (.slice (ab c) a g)/\1<=a/\a<=6/\(∀b,b<a->kt i (f b))/\dQ e c 408 a (λb=>ap (f b))/\d.heap.size<=c/\V [] d e
theorem yf{b:Nat}:cq (λc=>ap (w c)) b++(ap a).toList=cq (λc=>ap (aJ w b a c)) (b+1):=by rw[mE,od (b:=λc=>ap (aJ w b a c)) λd e=>by simp only[aJ,M (show¬d=b from Z)]];simp only[aJ,ae]
theorem C3{d:bG}{c:Nat}(f:∀b,b<c->kt d (w b))(g:kt d a):∀b,b<c+1->kt d (aJ w c a b):=λb h=>by
 unfold aJ;by_cases e:b=c
 .rw[ae e];exact g
 .rw[M e];exact f b Z
theorem vs(b:I.all (·.oneCell')=true):∀a∈I.toList,a.oneCell'=true:=λa c=>by rw[kw]at b;exact b a (by simpa using c)
theorem TM{c b a:aj}:ap (cV (cV (aV (e3 t 0 v c) 2 1) 9 4 b) 15 2 a)=ap (j3 t v c b a):=agD λd=>by
 unfold cV aV;repeat' split
 all_goals first|rfl|(exfalso;omega)
theorem ag7(a:aj):wW prog 233 1 [(0,.agg (ap a))]=some (ap a):=ar
theorem yg{b:Qax}{h:Qaa}{e:Qau}(a:aj) (j:∀c d,ag d c 233 (ap a)->V [] f d->f.heap.size<=c->wpList prog r h C (g.put b.dst (.slice (ab c) 1 1)) d) (i:b.guard=none:=by rfl) (l:b.op=.buildSlice 220 1 #[(0,e)]:=by rfl) (k:g.eval e=.agg (ap a):=by rfl):wpList prog r h (b::C) g f:=e' underlying220 (ap a) i l (by simp only[gm,cj,ee,k];exact ag7 a) j
theorem sV(b:Nat->z)(a:Nat)(v:z):aJ b a v a=v:=ae rfl
theorem TN{c:bG}{e d:Qan}{f:aj}(g:∀a,a<q->p8 c t (e a) (d a))(h:p8 c t v f):∀a,a<q+1->p8 c t (aJ e q v a) (aJ d q f a):=λa i=>by
 unfold aJ;by_cases b:a=q
 .rw[ae b,ae b];exact h
 .rw[M b,M b];exact g a Z
theorem TO(a:c:=by
 go_wp2_with fail
 rcases P.out with⟨zaV,_⟩|⟨zZ,I,rfl,rfl,zao⟩
 .have:=zc.out;omega
 .go_ret;exact⟨zZ,g,H,u,rfl,oq,oq,O.out,dQ.q7 (λ_=>gX _) (aF.nG (mC (b.ai 6 rfl) zao)),(b.h.n (zZ,_,_) (bS (i:=6) rfl)).resolve_left U,b.aa⟩):c:=a
theorem TP(b:Nat)(a:bj b->c:=by
 intro zal;go_wp2_with fail
 exact⟨⟨zal,g,u,_,_,_,Z,a8,rfl,Y oq,Y O.out,P,Y (b.drop 1)⟩,by simp[intOf]⟩):c:=a ⟨⟩
theorem TQ(a:c:=by exact⟨0,g,u,λ_ _=>0,λ_ _=>0,_,_,_,Z,rfl,rfl,Y Z,O,Y λ_ p=>absurd p Z,P,Y b⟩):c:=a
theorem TR(a:l)(b:l->c:=by intro zaf;refine iX ?_;refine xd (aL:=(#[X (a 1 0),X (a 1 1),X (a 1 2),X (a 1 3)]:Qad)) n1 w F agB rfl rfl rfl ?_;refine iX ?_;refine xd (aL:=(#[X (e 1 0),X (e 1 1)]:Qad)) mx w F agC rfl rfl rfl ?_;refine ax ?_;refine gn λq n=>?_;refine eI (.bool true) rfl rfl rfl rfl (b.ai 0 rfl) (by rw[gX];decide) rfl rfl ?_;intro zS o f aQ;revert q n zS o f aQ;exact zaf):c:=b a
theorem TS(a:l)(b:l->c:=by intro zap;have zi:=λx=>(TL (.func (.func 279) #[] #[ab k,ab l,ab h,ab j,ab i]) (.func (.func 281) #[] #[ab k,ab l,ab h,ab j,ab i]) x).2;have zG:=b.ah 5 0;revert zi zG;exact zap):c:=b a
theorem TT(a:l)(b:l->c:=by intro zag;refine gn λq n=>?_;refine i1 (#[X (a 1 0),X (a 1 1),X (a 1 2),X (a 1 3)]:Qad) rfl rfl rfl rfl n1 (b.ai 0 rfl) (by rw[gX];exact c9 rfl) fy ?_;intro zad o f aQ;revert q n zad o f aQ;exact zag):c:=b a
theorem TU(a:l)(b:l->c:=by intro zaj;refine gn λq n=>?_;refine i1 (#[X (e 1 0),X (e 1 1)]:Qad) rfl rfl rfl rfl mx (b.ai 0 rfl) (by rw[gX];exact c9 rfl) fy ?_;intro z1 o f aQ;revert q n z1 o f aQ;exact zaj):c:=b a
theorem ag8(G:N)(r:bG)(t:Nat)(zH:ag G t 291 (cW r))(aO:aq)(z:aK)(zac:aO.dN)(zR:aT G aO z)(y A:Nat)(z6:y<=4)(zT:A<=4)(E:aj)(z':ig E)(zo:r.h.t=2\/r.h.t=3)(zP:∀c:Nat,(c:Int)<fW r.h.t->r.sT G c):Calls prog 261 #[ab t,al aO z,X y,X A,an .i64 8 E] G (ag6 r G):=by
 have zN:=Y zH;have zW:=Y zac;have z7:=Y zR;have zy:=Y z';have zJ:=Y zP;obtain⟨bK,zaa,zF⟩:∃bK:Nat,((r.h.t=2/\bK=1)\/(r.h.t=3/\bK=2))/\fW r.h.t=(bK:Int):=by
  rcases zo with p|p
  .exact⟨1,.inl ⟨p,rfl⟩,tI⟩
  .exact⟨2,.inr ⟨p,rfl⟩,tI⟩
 have zf:=Y zaa;have zA:=Y λx(zb:V [] G x)=>show Calls prog 201 #[ab t] x λzs zl=>zs=.returned (X bK)/\V [] x zl by rw[<-zF];exact HU x r t (zH.S zb U)
 replace zJ:=Y λc(ak:c<bK)=>zP c (by rw[zF];omega);clear zH zac zR z' zP zo zaa zF;have b:=ao.nil [] G;go_in;go_wp2_with(first|(refine b.aI _ (#[ab t]) ?_;clear b;intro k zaF b)|(refine b.aI _ (al aO z) ?_;clear b;intro l zaH b)|(refine b.aI _ (#[X y]) ?_;clear b;intro h zat b)|(refine b.aI _ (#[X A]) ?_;clear b;intro j zaS b)|(refine b.aI _ (an .i64 8 E) ?_;clear b;intro i zaw b)|(refine fU (T:=391) (#[.func (.func 279) #[] #[ab k,ab l,ab h,ab j,ab i],.func (.func 281) #[] #[ab k,ab l,ab h,ab j,ab i]]) ?_)|(refine b.aH (#[.nilFunc,.nilFunc]) ag5 ?_;clear b;intro zm zax b)|(refine b.aN 0 (#[.func (.func 279) #[] #[ab k,ab l,ab h,ab j,ab i],.func (.func 281) #[] #[ab k,ab l,ab h,ab j,ab i]]) (TJ _ rfl) fy ?_;clear b;intro zaL b)|(refine b.ld 0 (TJ _ rfl) ?_))
 replace b:=av.jh b;go_loopw [22,12] (λJ aR wr=>∃(d g:Nat)(u:Qan)(Q:Qae)(H:Nat)(W:bX),d<=2/\J=X d/\aR=.slice Q g H/\Hid (d<=g/\g<=3*d)/\Hid (∀D,D<g->kt r (u D))/\Hid (er 233 408 g (cq (λD=>ap (u D)) g) Q H W)/\Hid (av [] G wr ([(zm,391,#[.func (.func 279) #[] #[ab k,ab l,ab h,ab j,ab i],.func (.func 281) #[] #[ab k,ab l,ab h,ab j,ab i]]),(i,274,an .i64 8 E),(j,3,#[X A]),(h,3,#[X y]),(l,71,al aO z),(k,286,#[ab t])]++W) [] λ_=>True)) (λJ _ _=>2-(intOf J).toNat)
 .exact⟨0,0,λ_ _=>0,none,0,[],Z,rfl,rfl,Y Z,Y λ_ p=>absurd p Z,Y er.nil,Y (by rw[eG];exact b)⟩
 .obtain⟨d,g,u,Q,H,W,zaM,rfl,rfl,zc,O,P,zX⟩:=hrel;try clear b
  have b:=zX.out;clear zX;simp only[dZ,cU]at b;by_cases zaP:d<2
  .rcases(show d=0\/d=1 from Z)with rfl|rfl
   .have zi:=λx=>(TL (.func (.func 279) #[] #[ab k,ab l,ab h,ab j,ab i]) (.func (.func 281) #[] #[ab k,ab l,ab h,ab j,ab i]) x).1;go_wp2_with(refine b.aH (eQ λ_=>0) TK ?_;clear b;intro zq zay b;have zah:=b.ah 6 0)
    clear zi;refine b.aW (zA.out _ b.aa) ?_;clear b;intro zaB b;clear zah;go_wp2_with fail
    rw[S4 false (λ_ _=>0) λ_ _=>0]at b;have zM:=zc.out;go_loopw [35,12] (λJ aR wr=>∃(c g:Nat)(u a e:Qan)(Q:Qae)(H:Nat)(W:bX),c<=bK/\J=X c/\aR=.slice Q g H/\Hid (0+c<=g/\g<=0+c)/\Hid (∀D,D<g->kt r (u D))/\Hid (∀zh,zh<c->p8 r false (a zh) (e zh))/\Hid (er 233 408 g (cq (λD=>ap (u D)) g) Q H W)/\Hid (av [] G wr ([(zq,392,eQ (j4 false a e c)),(zm,391,#[.func (.func 279) #[] #[ab k,ab l,ab h,ab j,ab i],.func (.func 281) #[] #[ab k,ab l,ab h,ab j,ab i]]),(i,274,an .i64 8 E),(j,3,#[X A]),(h,3,#[X y]),(l,71,al aO z),(k,286,#[ab t])]++W) [] λ_=>True)) (λJ _ _=>bK-(intOf J).toNat)
    .exact TQ
    .clear O P zc zM b;obtain⟨c,g,u,a,e,Q,H,W,ak,rfl,rfl,zc,O,zd,P,zx⟩:=hrel;have b:=zx.out;clear zx;simp only[dZ,cU]at b;by_cases zQ:c<bK
     .refine IL λzk s zz=>?_;go_wp2_with(first|(refine S' false ?_)|(refine b.stM 0 (ap (o8 false)) (eQ (cV (j4 false a e c) (c*408) 408 (o8 false))) (cP _) (gf _) ?_ (t:=S6 s) (u:=by rw[gX,sS];omega);clear b;intro zaA b)|(refine b.a6 0 (.bool true) (eQ (p9 false a e c)) ?_ (d:=c*408+1+c) (s:=S7 s) (t:=by rw[sS];omega);clear b;intro zae b))
      have zr:CO zae t aO z y A E k l h j i:=⟨b.ai 6 rfl,b.ai 5 rfl,b.ai 4 rfl,b.ai 3 rfl,b.ai 2 rfl⟩;have zp:=(b.h.n (zq,_,_) (bS (i:=0) rfl)).resolve_left U;simp only at zp;refine(agx _ r t false zq (p9 false a e c) aO z y A E k l h j i zr c (c*408) s (λx zb=>by rw[eF c 408];exact agv x r t (zN.out.S ((b.aa).ad zb) U) zq _ ((b.ai 0 rfl).S zb U) aO z zW.out ((z7.out.ad b.aa).ad zb) y A z6 zT _ _ (zy.out.v _ Z Z) (zy.out.v _ Z Z) c s (((zJ.out c zQ).ad b.aa).ad zb) (agz s))).mono ?_;rintro zs zaW ⟨v,B,rfl,zw,zt,zu⟩;replace b:=b.bk 0 zt zu;rw[S5 s]at b;have zv:=Y zw;clear zr zp zt zu zw;have ze:=CP (i:=false) (r:=aJ a c v) (O:=aJ e c B) s (m' c);rw[sV,sV]at ze;go_wp2_with(first|(refine b.cp 0 (ap (e3 false c v B)) (cP _) ?_ (o:=by exact ze))|(refine yg (e3 false c v B) ?_;intro zj zD C K L;replace b:=b.aP C K L)|(refine av.fR [(zj,233,ap (e3 false c v B)),(zq,392,eQ (j4 false (aJ a c v) (aJ e c B) (c+1))),(zm,391,#[.func (.func 279) #[] #[ab k,ab l,ab h,ab j,ab i],.func (.func 281) #[] #[ab k,ab l,ab h,ab j,ab i]]),(i,274,an .i64 8 E),(j,3,#[X A]),(h,3,#[X y]),(l,71,al aO z),(k,286,#[ab t])] b P.out (.agg (ap λ_=>0)) 3200 underlying220 uV (gX _) R (r:=1) (aF.ai (C:=408) (e:=1) C yh) (vs (gf _)) C4 oq Z ?_;clear b;intro zE zL zaq zO b za))
      clear C K L;replace b:=b.drop 1;simp only[dZ,cU,List.drop]at b;rw[yf]at za;clear ze;exact⟨⟨c+1,g+1,aJ u g (e3 false c v B),aJ a c v,aJ e c B,_,_,_,Z,a8,rfl,Y oq,Y (C3 O.out (Ir s zv.out (λp=>Bool.noConfusion p) λp=>by have:=zf.out;omega)),Y (TN zd.out zv.out),Y za,Y b⟩,bF⟩
     .have zk:¬((c:Int)<(bK:Int)):=Z;obtain rfl:bK=c:=Z;have zab:=b.ah 6 0;go_wp2_with fail
      refine b.aW (zA.out _ b.aa) ?_;clear b;intro zaK b;rcases zf.out with⟨zo,rfl⟩|⟨zo,rfl⟩
      .skip;clear zab;exact TP 1
      .skip;clear zab;go_wp2_with(first|(refine b.cp 0 (ap (e3 false 0 (a 0) (e 0))) (cP _) ?_ (o:=by exact(CP (b:=0) R R)))|(refine b.aH (ap λ_=>0) i' ?_;clear b;intro zU zas b)|(refine b.aN 0 (ap (e3 false 0 (a 0) (e 0))) (cP _) (gf _) ?_ (s:=jD);clear b;intro zav b))
       have F:=nn (b.h.ne 1 0 rfl rfl R);simp only at F;replace b:=b.bd;have w:=b.ai 1 rfl;refine ly (aM:=bA [zU]) [] (.inr rfl) [0,1,2,3,4,5,6,7,8,9,11,14,110,12,113,15,116] ?_;refine TR λq n zS o f aQ=>?_;rw[show(ap (e3 false 0 (a 0) (e 0))).setIfInBounds 2 (.bool true)=ap (aV (e3 false 0 (a 0) (e 0)) 2 1)from oP true R rfl]at o;replace b:=b.bk 0 o f;replace w:=w.S f F;refine n _ _ f ?_;clear n q o f aQ;simp only[az];(first|(refine mf (.inl rfl) rfl rfl rfl ?_;simp only[az])|(refine mg ?_ rfl rfl rfl (λzl zK zI q n=>?_) ?_;rotate_left;(focus ((go_wp2_with fail)<;>exact n.out));simp only[az]));refine TT λq n zad o f aQ=>?_;rw[S8 _ (a 1)]at o;replace b:=b.bk 0 o f;replace w:=w.S f F;refine n _ _ f ?_;clear n q o f aQ;simp only[az];(first|(refine mf (.inl rfl) rfl rfl rfl ?_;simp only[az])|(refine mg ?_ rfl rfl rfl (λzl zK zI q n=>?_) ?_;rotate_left;(focus ((go_wp2_with fail)<;>exact n.out));simp only[az]));refine TU λq n z1 o f aQ=>?_;rw[S9 _ (e 1),TM]at o;replace b:=b.bk 0 o f;replace w:=w.S f F;refine n _ _ f ?_;clear n q o f aQ;refine ax ?_;clear w F;go_wp2_with(first|(refine b.ld 0 (cP _) ?_)|(refine yg (j3 false (a 0) (e 0) (a 1) (e 1)) ?_;intro zj zD C K L;replace b:=b.aP C K L)|(refine av.fR [(zj,233,ap (j3 false (a 0) (e 0) (a 1) (e 1))),(zU,233,ap (j3 false (a 0) (e 0) (a 1) (e 1))),(zq,392,eQ (j4 false a e 2)),(zm,391,#[.func (.func 279) #[] #[ab k,ab l,ab h,ab j,ab i],.func (.func 281) #[] #[ab k,ab l,ab h,ab j,ab i]]),(i,274,an .i64 8 E),(j,3,#[X A]),(h,3,#[X y]),(l,71,al aO z),(k,286,#[ab t])] b P.out (.agg (ap λ_=>0)) 3200 underlying220 uV (gX _) R (r:=1) (aF.ai (C:=408) (e:=1) C yh) (vs (gf _)) C4 oq Z ?_;clear b;intro zE zL zaU zO b za))
       clear C K L;replace b:=b.drop 1;simp only[dZ,cU,List.drop]at b;rw[yf]at za;exact⟨⟨1,g+1,aJ u g (j3 false (a 0) (e 0) (a 1) (e 1)),_,_,_,Z,a8,rfl,Y oq,Y (C3 O.out (Ta (zd.out 0 R) (zd.out 1 R) (λp=>Bool.noConfusion p) λp=>Z)),Y za,Y (b.drop 2)⟩,by simp[intOf]⟩
   .refine aG (jl r) λbV zC=>?_;have zY:=Y λx(zb:V [] G x)=>show Calls prog 255 #[ab t] x λzs zl=>zs=.returned (.bool bV)/\V [] x zl by rw[<-zC];exact R0 x r t (zN.out.S zb U)
    have zB:=Y zC;clear zC;cases bV
    .refine TS λzi zG=>?_;go_wp2_with fail
     clear zi;refine b.aW (zY.out _ b.aa) ?_;clear b;intro zar b;clear zG;exact TO
    .refine TS λzi zak=>?_;go_wp2_with fail
     clear zi;refine b.aW (zY.out _ b.aa) ?_;clear b;intro zaQ b;clear zak;go_wp2_with(refine b.aH (eQ λ_=>0) TK ?_;clear b;intro zn zaJ b;have zam:=b.ah 6 0)
     refine b.aW (zA.out _ b.aa) ?_;clear b;intro zaR b;clear zam;go_wp2_with fail
     rw[S4 true (λ_ _=>0) λ_ _=>0]at b;have zM:=zc.out;go_loopw [35,12] (λJ aR wr=>∃(c g:Nat)(u a e:Qan)(Q:Qae)(H:Nat)(W:bX),c<=bK/\J=X c/\aR=.slice Q g H/\Hid (1+c<=g/\g<=3+c)/\Hid (∀D,D<g->kt r (u D))/\Hid (∀zh,zh<c->p8 r true (a zh) (e zh))/\Hid (er 233 408 g (cq (λD=>ap (u D)) g) Q H W)/\Hid (av [] G wr ([(zn,392,eQ (j4 true a e c)),(zm,391,#[.func (.func 279) #[] #[ab k,ab l,ab h,ab j,ab i],.func (.func 281) #[] #[ab k,ab l,ab h,ab j,ab i]]),(i,274,an .i64 8 E),(j,3,#[X A]),(h,3,#[X y]),(l,71,al aO z),(k,286,#[ab t])]++W) [] λ_=>True)) (λJ _ _=>bK-(intOf J).toNat)
     .exact TQ
     .clear O P zc zM b;obtain⟨c,g,u,a,e,Q,H,W,ak,rfl,rfl,zc,O,zd,P,zx⟩:=hrel;have b:=zx.out;clear zx;simp only[dZ,cU]at b;by_cases zQ:c<bK
      .refine IL λzk s zz=>?_;go_wp2_with(first|(refine S' true ?_)|(refine b.stM 0 (ap (o8 true)) (eQ (cV (j4 true a e c) (c*408) 408 (o8 true))) (cP _) (gf _) ?_ (t:=S6 s) (u:=by rw[gX,sS];omega);clear b;intro zaC b)|(refine b.a6 0 (.bool true) (eQ (p9 true a e c)) ?_ (d:=c*408+1+c) (s:=S7 s) (t:=by rw[sS];omega);clear b;intro zai b))
       have zr:CO zai t aO z y A E k l h j i:=⟨b.ai 6 rfl,b.ai 5 rfl,b.ai 4 rfl,b.ai 3 rfl,b.ai 2 rfl⟩;have zp:=(b.h.n (zn,_,_) (bS (i:=0) rfl)).resolve_left U;simp only at zp;refine(agy _ r t true zn (p9 true a e c) aO z y A E k l h j i zr c (c*408) s (λx zb=>by rw[eF c 408];exact agw x G r t zN.out (b.aa.ad zb) zn zp _ ((b.ai 0 rfl).S zb U) aO z zW.out z7.out y A z6 zT _ _ (zy.out.v _ Z Z) (zy.out.v _ Z Z) c s (zJ.out c zQ) zB.out)).mono ?_;rintro zs zaI ⟨v,B,rfl,zw,zt,zu⟩;replace b:=b.bk 0 zt zu;rw[S5 s]at b;have zv:=Y zw;clear zr zp zt zu zw;have ze:=CP (i:=true) (r:=aJ a c v) (O:=aJ e c B) s (m' c);rw[sV,sV]at ze;go_wp2_with(first|(refine b.cp 0 (ap (e3 true c v B)) (cP _) ?_ (o:=by exact ze))|(refine yg (e3 true c v B) ?_;intro zj zD C K L;replace b:=b.aP C K L)|(refine av.fR [(zj,233,ap (e3 true c v B)),(zn,392,eQ (j4 true (aJ a c v) (aJ e c B) (c+1))),(zm,391,#[.func (.func 279) #[] #[ab k,ab l,ab h,ab j,ab i],.func (.func 281) #[] #[ab k,ab l,ab h,ab j,ab i]]),(i,274,an .i64 8 E),(j,3,#[X A]),(h,3,#[X y]),(l,71,al aO z),(k,286,#[ab t])] b P.out (.agg (ap λ_=>0)) 3200 underlying220 uV (gX _) R (r:=1) (aF.ai (C:=408) (e:=1) C yh) (vs (gf _)) C4 oq Z ?_;clear b;intro zE zL zaz zO b za))
       clear C K L;replace b:=b.drop 1;simp only[dZ,cU,List.drop]at b;rw[yf]at za;clear ze;exact⟨⟨c+1,g+1,aJ u g (e3 true c v B),aJ a c v,aJ e c B,_,_,_,Z,a8,rfl,Y oq,Y (C3 O.out (Ir s zv.out (λ_=>zB.out) λp=>by have:=zf.out;omega)),Y (TN zd.out zv.out),Y za,Y b⟩,bF⟩
      .have zk:¬((c:Int)<(bK:Int)):=Z;obtain rfl:bK=c:=Z;have z8:=b.ah 6 0;go_wp2_with fail
       refine b.aW (zA.out _ b.aa) ?_;clear b;intro zau b;rcases zf.out with⟨zo,rfl⟩|⟨zo,rfl⟩
       .skip;clear z8;exact TP 2
       .skip;clear z8;go_wp2_with(first|(refine b.cp 0 (ap (e3 true 0 (a 0) (e 0))) (cP _) ?_ (o:=by exact(CP (b:=0) R R)))|(refine b.aH (ap λ_=>0) i' ?_;clear b;intro zV zaN b)|(refine b.aN 0 (ap (e3 true 0 (a 0) (e 0))) (cP _) (gf _) ?_ (s:=jD);clear b;intro zaD b))
        have F:=nn (b.h.ne 1 0 rfl rfl R);simp only at F;replace b:=b.bd;have w:=b.ai 1 rfl;refine ly (aM:=bA [zV]) [] (.inr rfl) [0,1,2,3,4,5,6,7,8,9,11,14,110,12,113,15,116] ?_;refine TR λq n zaG o f aQ=>?_;rw[show(ap (e3 true 0 (a 0) (e 0))).setIfInBounds 2 (.bool true)=ap (aV (e3 true 0 (a 0) (e 0)) 2 1)from oP true R rfl]at o;replace b:=b.bk 0 o f;replace w:=w.S f F;refine n _ _ f ?_;clear n q o f aQ;simp only[az];(first|(refine mf (.inl rfl) rfl rfl rfl ?_;simp only[az])|(refine mg ?_ rfl rfl rfl (λzl zK zI q n=>?_) ?_;rotate_left;(focus ((go_wp2_with fail)<;>exact n.out));simp only[az]));refine TT λq n zaO o f aQ=>?_;rw[S8 _ (a 1)]at o;replace b:=b.bk 0 o f;replace w:=w.S f F;refine n _ _ f ?_;clear n q o f aQ;simp only[az];(first|(refine mf (.inl rfl) rfl rfl rfl ?_;simp only[az])|(refine mg ?_ rfl rfl rfl (λzl zK zI q n=>?_) ?_;rotate_left;(focus ((go_wp2_with fail)<;>exact n.out));simp only[az]));refine TU λq n zaT o f aQ=>?_;rw[S9 _ (e 1),TM]at o;replace b:=b.bk 0 o f;replace w:=w.S f F;refine n _ _ f ?_;clear n q o f aQ;refine ax ?_;clear w F;go_wp2_with(first|(refine b.ld 0 (cP _) ?_)|(refine yg (j3 true (a 0) (e 0) (a 1) (e 1)) ?_;intro zj zD C K L;replace b:=b.aP C K L)|(refine av.fR [(zj,233,ap (j3 true (a 0) (e 0) (a 1) (e 1))),(zV,233,ap (j3 true (a 0) (e 0) (a 1) (e 1))),(zn,392,eQ (j4 true a e 2)),(zm,391,#[.func (.func 279) #[] #[ab k,ab l,ab h,ab j,ab i],.func (.func 281) #[] #[ab k,ab l,ab h,ab j,ab i]]),(i,274,an .i64 8 E),(j,3,#[X A]),(h,3,#[X y]),(l,71,al aO z),(k,286,#[ab t])] b P.out (.agg (ap λ_=>0)) 3200 underlying220 uV (gX _) R (r:=1) (aF.ai (C:=408) (e:=1) C yh) (vs (gf _)) C4 oq Z ?_;clear b;intro zE zL zaE zO b za))
        clear C K L;replace b:=b.drop 1;simp only[dZ,cU,List.drop]at b;rw[yf]at za;exact⟨⟨2,g+1,aJ u g (j3 true (a 0) (e 0) (a 1) (e 1)),_,_,_,Z,a8,rfl,Y oq,Y (C3 O.out (Ta (zd.out 0 R) (zd.out 1 R) (λ_=>zB.out) λp=>Z)),Y za,Y (b.drop 2)⟩,by simp[intOf]⟩
  .obtain rfl:d=2:=Z;exact TO
def lk(e:Nat->Bool)(c:Nat->aq)(d:Nat->aK)(b:N):Prop:=∀a,a<7->e a=true->aT b (c a) (d a)
def ll(c:Nat->Bool)(b:Nat->aK):af:=(List.range 7).flatMap λa=>if c a=true then bg (b a)else[]
theorem C5{a:Nat}(c:d<7)(e:k d=true)(b:a∈bg (o d)):a∈ll k o:=um.2 ⟨d,fq.2 c,by rw[ae e];exact b⟩
theorem vt:∀d c b,V b d c->(∀a∈ll k o,a∉b)->lk k p o d->lk k p o c:=λ_ _ _ j i g a e f=>(g a e f).S j λh l=>i h (C5 e f l)
theorem yi{d:aq}(g:lk k p o f)(h:aT f d s):lk (aJ k e true) (aJ p e d) (aJ o e s) f:=λc i b=>by
 unfold aJ at b⊢;by_cases a:c=e
 .rw[ae a,ae a];exact h
 .rw[M a]at b;rw[M a,M a];exact g c i b
theorem yj:∀b∈ll (aJ k e true) (aJ o e s),b∈ll k o++bg s:=λg a=>by
 obtain⟨b,d,a⟩:=um.1 a;unfold aJ at a;by_cases c:b=e
 .simp only[ae c,eB]at a;exact bc.2 (.inr a)
 .simp only[M c]at a;split at a
  .rename_i f;exact bc.2 (.inl (C5 (fq.1 d) f a))
  .simp at a
def fX(b:aD)(a:bx)(d:Bool)(c:Nat)(i:aq)(j:aK)(g:cS)(h:dP)(e:Nat->aq)(f:Nat->aK):bG:=⟨bD b a d,b,a,c,i,j,g,h,e,f⟩
theorem ag9(b:aD)(a:bx)(f:Bool)(c:Nat)(i:aq)(j:aK)(g:cS)(h:dP)(d:aq)(e:aK):prog.built 291 [(0,.agg (bl (bD b a f))),(1,.agg (ay b)),(2,.agg (a1 a)),(3,.int .i64 (c:Int)),(4,.agg (al i j)),(5,.agg (bI g h)),(8,.agg (al d e))]=some (cW (fX b a f c i j g h (aJ (λ_=>bL) 6 d) (aJ (λ_=>bR) 6 e))):=ar
theorem C6(b:bG)(c:Nat)(s:c<7)(f:aq)(d:aK):cC (cW b) (166+5*c) (al f d).toList=cW {b with G:=aJ b.G c f,Q:=aJ b.Q c d}:=by
 have e:(al f d).toList.length=5:=rfl;apply kc;intro a;by_cases t:166+5*c<=a/\a<171+5*c
 .have l:=pC (i:=cW b) (a:=166+5*c) (s:=a-(166+5*c)) (aL:=(al f d).toList) (by rw[o2,e];omega) qI;rw[show 166+5*c+(a-(166+5*c))=a from Z]at l;have o:=o3 (c:={b with G:=aJ b.G c f,Q:=aJ b.Q c d}) c s (a-(166+5*c)) Z;rw[show 166+5*c+(a-(166+5*c))=a from Z]at o;rw[l,o,eo];simp only[sV]
 .rw[nR (by rw[o2,e];omega) qI];by_cases u:166<=a
  .by_cases r:a<201
   .obtain⟨i,j,p,q,rfl⟩:∃i j,i<7/\j<5/\a=166+5*i+j:=⟨(a-166)/5,(a-166)%5,Z,Z,Z⟩;have g:=o3 (c:=b) i p j q;have h:=o3 (c:={b with G:=aJ b.G c f,Q:=aJ b.Q c d}) i p j q;rw[g,h];simp only[aJ,M (show¬i=c from Z)]
   .rw[hP C7,hP C7]
  .by_cases r:a<139
   .by_cases n:a<4
    .have g:=p1 (b:=b) a C8;have h:=p1 (b:={b with G:=aJ b.G c f,Q:=aJ b.Q c d}) a C8;rw[c']at g h;rw[g,h]
    .have g:=p0 (c:=b) (a-4) ye;have h:=p0 (c:={b with G:=aJ b.G c f,Q:=aJ b.Q c d}) (a-4) (by rw[gr];exact(by omega:a-4<135));rw[show 4+(a-4)=a from Z]at g h;rw[g,h]
   .have g:=h3 (b:=b) (a-139);have h:=h3 (b:={b with G:=aJ b.G c f,Q:=aJ b.Q c d}) (a-139);rw[show 139+(a-139)=a from Z]at g h;have m:∀(k:bG),k.k1[a-139]? =(k.k1.take 27)[a-139]? :=λk=>by rw[pg,ae Z]
    rw[g,h,m b,m {b with G:=aJ b.G c f,Q:=aJ b.Q c d}];exact aX (·[a-139]?) (show b.k1.take 27=(bG.k1 {b with G:=aJ b.G c f,Q:=aJ b.Q c d}).take 27 from rfl)
theorem aha{p:Nat}{t:Qai}{s:Qaj}{a:Qax}{y:Qab}{x o w n A z u:Qau}(c:aD)(b:bx)(d:Bool)(h:Nat)(m:aq)(j:aK)(l:cS)(e:dP)(k:aq)(i:aK)(E:ba (bA []) prog r y p t s (g.put a.dst (.agg (cW (fX c b d h m j l e (aJ (λ_=>bL) 6 k) (aJ (λ_=>bR) 6 i))))) f)(K:a.op=.build 291 #[(0,x),(1,o),(2,w),(3,n),(4,A),(5,z),(8,u)]:=by rfl) (O:g.eval x=.agg (bl (bD c b d)):=by rfl) (C:g.eval o=.agg (ay c):=by rfl) (G:g.eval w=.agg (a1 b):=by rfl) (L:g.eval n=X h:=by rfl) (F:g.eval A=.agg (al m j):=by rfl) (H:g.eval z=.agg (bI l e):=by rfl) (D:g.eval u=.agg (al k i):=by rfl) (B:(match a.dst with|some q=>decide (q<g.tmps.size)|none=>false)=true:=by rfl) (J:jK a=true:=by rfl) (I:cB a r g:=by rfl):ba (bA []) prog r y p ((a,0)::t) s g f:=ra _ E K (by simp only[gm,cj,ee,O,C,G,L,F,H,D];exact ag9 c b d h m j l e k i) B J I
structure yk(h:aD)(e:bx)(c:Nat->aq)(g:Nat->Bool)(b d:Nat):Prop where
 f:e.s≠3->∀a,a<d->g (2+2*b+a)=true/\(c (2+2*b+a)).Ok
 w:e.s=3->0<d->g b=true/\(c b).Ok
 i:e.s=3->h.b8=true->∀a,a<d->g (2+2*b+a)=true/\(c (2+2*b+a)).Ok
structure rn(f:aD)(g:bx)(c:aq)(a:Nat->aq)(e:Nat->Bool)(d:Nat):Prop where
 r:a 6=dl c.w c.h 0 0 0/\e 6=true
 d:∀b,b<d->yk f g a e b 2
theorem yk.set{m l:Nat}{g:aq}(d:yk D h p k m l)(n:g.Ok):yk D h (aJ p e g) (aJ k e true) m l:=by
 have i:∀a,(k a=true/\(p a).Ok)->aJ k e true a=true/\(aJ p e g a).Ok:=λa b=>by
  unfold aJ;by_cases f:a=e
  .rw[ae f,ae f];exact⟨rfl,n⟩
  .rw[M f,M f];exact b
 exact⟨λc a b=>i _ (d.f c a b),λc j=>i _ (d.w c j),λc j a b=>i _ (d.i c j a b)⟩
theorem rn.set{a:aD}{f:bx}{h:aq}{c:Nat->aq}{i:Nat->Bool}{g e:Nat}{b:aq}(d:rn a f h c i g)(m:e<6)(j:b.Ok):rn a f h (aJ c e b) (aJ i e true) g:=⟨⟨by rw[<-d.r.1];exact M Z,by unfold aJ;rw[M Z];exact d.r.2⟩,λl k=>(d.d l k).set j⟩
theorem vu(b:Nat->z)(a:Nat)(v:z):aJ b a v a=v:=ae rfl
def ahb(j:aD)(h:bx)(l:Bool)(k:Nat)(i:aq)(p:aK)(m:cS)(o:dP)(bK:Nat)(d:N)(n:Ending)(b:N):Prop:=∃a e f c,n=.returned (ab a)/\d.heap.size<=a/\ag b a 291 (cW (fX j h l k i p m o e f))/\rn j h i e c bK/\lk c e f b/\(∀g∈ll c f,d.heap.size<=g/\g≠a/\g<b.heap.size)/\V [] d b
theorem ahc(H:N)(a:aD)(f:bx)(n:Bool)(g:Nat)(k:aq)(x:aK)(l:cS)(p:dP)(bK:Nat)(zD:fI a f n)(G:k.Ok)(zO:hJ H l p)(zH:fW f.t=(bK:Int))(zK:∀c,c<bK->∀e,e<2->(fV (bD a f n) l c e).dd/\(il (bD a f n) c e=false->(fV (bD a f n) l c e).h%32=0)/\(f.s=3->a.b8=true->(ep (bD a f n) l c e).h%32=0)):Calls prog 167 #[ay a,a1 f,.bool n,al k x,bI l p,X g] H (ahb a f n g k x l p bK H):=by
 have zaP:=Y zD;have zaG:=Y zO;have zo:=Y zK;have zav:=Y zD.nV;refine aG (dl k.w k.h 0 0 0) λJ zt=>?_;have zag:=Y zt;have zad:ck J.Ok:=zt▸sg G.gG G.fH G.kC G.iY G.fr G.he R R R;have zab:=Y λH=>show Calls prog 152 #[X (k.w:Int),X (k.h:Int),.int .u8 0,.int .u8 0,.int .u8 0] H (jR J H)from zt▸A' H k.w k.h 0 0 0 G.gG G.fH G.kC G.iY G.fr G.he;have zf:=Y (show bK<=2 by rcases IH (a:=f.t)with g|g|g<;>rw[g]at zH<;>omega);have zaU:bK<=2:=zf.out;have zaF:=Y λA zI i j(zaq:ag A zI 291 (cW (fX a f n g k x l p i j)))=>show Calls prog 201 #[ab zI] A λe zaz=>e=.returned (X bK)/\V [] A zaz by rw[<-zH];exact HU A (fX a f n g k x l p i j) zI zaq
 clear zD zO zK G zt zH;have b:=ao.nil [] H;go_in;go_wp2_with(first|(refine b.aI _ (ay a) ?_;clear b;intro zU zaY b)|(refine b.aI _ (a1 f) ?_;clear b;intro zX za0 b)|(refine b.aI _ (al k x) ?_;clear b;intro W zaK b)|(refine b.aI _ (bI l p) ?_;clear b;intro zS za5 b;have P:=b.ah 2 0;have zaD:=b.ah 2 1;have zac:=b.cl 3 4 (v:=.bool a.b8) (g:=by simp[ay,cO,da]);have zay:=b.ah 1 0;have zaB:=b.ah 1 1))
 clear P zaD zac zay zaB;have zau:=b.ah 2 0;have z8:=b.ah 2 1;refine xH 3 λzap=>?_;have zat:=b.ah 1 0;have zaa:=b.ah 1 1;replace b:=b.bd;refine rg [] [0,1,2,3,4,5,6,7,8,9,10,11,12,13,14,15,16,117,18,19,120,21,122,23] ?_;refine y2 ?_;refine ra (bl (bD a f n)) ?_;refine ax ?_;refine bN (zab.out _) ?_;rintro e zaM ⟨zs,zy,zr,rfl,I⟩;refine⟨_,rfl,I.S,?_⟩;replace b:=(av.jh b).j5 I.S I.is zad.out I.ge;clear I;clear zau z8 zap zat zaa;refine ax ?_;refine b.ec (oo _ J _) ?_;clear b;intro zaN b;simp only[az];refine aha a f n g k x l p J (bb J zs zy zr) ?_;simp only[az];refine gn λz7 h=>?_;refine cx _ (cW (fX a f n g k x l p (aJ (λ_=>bL) 6 J) (aJ (λ_=>bR) 6 (bb J zs zy zr)))) rfl rfl rfl rfl ?_;refine ri ?_;clear b;intro zl za4 zaw zaf zao b;clear h z7 zaw zaf zao;refine ax ?_;go_wp2_with fail
 refine b.aW (zaF.out _ zl _ _ (b.ai 0 rfl)) ?_;clear b;intro zaO b;go_wp2_with fail
 have zW:=b.ha (ll (aJ (λ_=>false) 6 true) (aJ (λ_=>bR) 6 (bb J zs zy zr))) (λd zb=>by have:=yj d zb;simpa[ll]using this) (zu:=lk (aJ (λ_=>false) 6 true) (aJ (λ_=>bL) 6 J) (aJ (λ_=>bR) 6 (bb J zs zy zr))) (yi (λ_ _ f=>Bool.noConfusion f) b.q.2) vt;clear b;have b:=zW;clear zW;go_loopw [42] (λza wr=>∃(c:Nat)(i:Nat->aq)(j:Nat->aK)(u:Nat->Bool),c<=bK/\za=X c/\Hid (rn a f k i u c)/\Hid (av [] H wr [(zl,291,cW (fX a f n g k x l p i j)),(zS,131,bI l p),(W,71,al k x),(zX,48,a1 f),(zU,26,ay a)] (ll u j) (lk u i j))) (λza _=>bK-(intOf za).toNat)
 .exact⟨0,_,_,_,Z,rfl,Y ⟨⟨zag.out.symm,rfl⟩,λ_ f=>absurd f Z⟩,Y b⟩
 .obtain⟨c,i,j,u,ak,rfl,zC,zY⟩:=hrel;clear b;have b:=zY.out;clear zY;by_cases zp:c<bK
  .refine IL λzk s zz=>?_;go_wp2_with fail
   go_loopw [45] (λza wr=>∃(e:Nat)(i:Nat->aq)(j:Nat->aK)(u:Nat->Bool),e<=2/\za=X e/\Hid (rn a f k i u c/\yk a f i u c e)/\Hid (av [] H wr [(zl,291,cW (fX a f n g k x l p i j)),(zS,131,bI l p),(W,71,al k x),(zX,48,a1 f),(zU,26,ay a)] (ll u j) (lk u i j))) (λza _=>2-(intOf za).toNat)
   .exact⟨0,_,_,_,Z,rfl,Y ⟨zC.out,⟨λ_ _ f=>absurd f Z,λ_ f=>absurd f Z,λ_ _ _ f=>absurd f Z⟩⟩,Y b⟩
   .obtain⟨e,i,j,u,zaT,rfl,O,zL⟩:=hrel;clear b zC;have b:=zL.out;clear zL;by_cases zh:e<2
    .have zar:(e:Int)<2:=Z;go_wp2_with fail
     refine aG (ep (bD a f n) l c e) λw zw=>?_;have K:ck w.dd:=zw▸Hc Z (zo.out c zp e zh).1 (zo.out c zp e zh).2.1;have zax:ck (f.s=3->a.b8=true->w.h%32=0):=zw▸(zo.out c zp e zh).2.2;have z':=Y λA(zas:V [] H A)=>show Calls prog 202 #[bl (bD a f n),bI l p,X c,X e] A (mB 0 w A)from zw▸adR A (bD a f n) l p c e zav.out s zh (zaG.out.ad zas) (zo.out c zp e zh).1 (zo.out c zp e zh).2.1;clear zw;refine CV ?_;clear b;intro m o y b;refine rg [11] [0,1,2,3,4,5,6,107,8,9,110,411,212] ?_;refine iX ?_;refine b.hZ 0 (bl (bD a f n)) (cE _) ?_ (o:=by exact p1 (b:=fX a f n g k x l p i j));refine ax ?_;refine n3 rfl (λA=>mF) (λv f=>z'.out _ (b.aS f).aa) ?_;rintro zaZ zM za1 zaI ⟨E,rfl,zG,zA,zE⟩;replace b:=b.aS zM;refine⟨_,rfl,zA,?_⟩;have zV:=zG.fv K.out.toOk;replace b:=b.j5 zA zG K.out.toOk zE;refine ax ?_;refine b.jf (λA b=>oo _ w E) ?_;clear b;intro zaH g' b;simp only[az];refine lO _ eh rfl bY rfl ?_;intro zaS zaX zQ zP zv;have zx:=km zv (za:=wr.heap.size) U;simp only[az];have zT:=Tg y zE zV zx (by simp only[lq,bu]at zv;exact zv _ (.inr (.inl rfl)));replace b:=b.hE zP zQ (m.off zx) zT (b7 o zx);clear zP zQ zv zT zV zE zG zA zM zx;refine b.dq 0 (al w E) aB (bo _ _) ?_;clear b;intro zaV b;refine ax ?_;clear m o y;by_cases q:f.s=3
     .have W:(f.s !=3)=false:=oT;have L:=Y q;clear q;refine aG a.b8 λzaE zu=>?_;cases zaE
      .have ze:=Y zu;clear zu;have zn:=b.ah 4 1;have zF:=b.cl 5 4 (v:=.bool false) (g:=by rw[show(ay a)[4]? =some (.bool a.b8)from mJ,ze.out]);go_wp2_with fail
       clear W;clear zn zF;refine uO 2 3 4 5 ?_;clear b;intro b;refine b.ik 1 (al w E) (cW (fX a f n g k x l p (aJ i (c) w) (aJ j (c) E))) aB (bo _ _) ?_ (e:=166+c*5) (s:=by rw[show 166+c*5=166+5*(c)from Z];exact C6 (fX a f n g k x l p i j) _ Z _ _) (u:=by rw[o2];show 166+c*5+5<=201;omega);clear b;intro zN b;refine ax ?_;go_wp2_with fail
       have zm:=b.ha (ll (aJ u c true) (aJ j c E)) yj (zu:=lk (aJ u c true) (aJ i c w) (aJ j c E)) (yi b.q.1 b.q.2) vt;exact⟨⟨e+1,_,_,_,Z,a8,Y ⟨O.out.1.set Z K.out.toOk,⟨λd=>absurd L.out d,λ_ _=>⟨vu _ _ _,IM⟩,λ_ d=>absurd d (by rw[ze.out];decide)⟩⟩,Y (zm.drop 1)⟩,bF⟩;skip
      .have ze:=Y zu;clear zu;have zn:=b.ah 4 1;have zF:=b.cl 5 4 (v:=.bool true) (g:=by rw[show(ay a)[4]? =some (.bool a.b8)from mJ,ze.out]);go_wp2_with fail
       clear W;refine aG (cL w e) λz zJ=>?_;have zB:w.gQ:=⟨K.out.toOk,by have:=zax.out L.out ze.out;omega⟩;have zq:ck z.Ok:=zJ▸(lJ (c:=e) zB Z).1;have zae:=Y λA g(z6:aT A w g)=>show Calls prog 85 #[al w g,X e] A (jR z A)from zJ▸sc A w g e zB Z z6;clear zJ zB;clear zn zF;replace b:=b.bd;refine rg [] [0,1,2,3,4,9,10,11,105,6,7,108,12,213] ?_;refine ax ?_;refine bN (zae.out _ _ b.q.2) ?_;rintro za2 zN ⟨zc,zd,zi,rfl,I⟩;refine⟨_,rfl,I.S,?_⟩;replace b:=b.j5 I.S I.is zq.out I.ge;clear I;refine ax ?_;refine b.ec (oo _ z _) ?_;clear b;intro za3 b;refine ax ?_;refine b.ik 1 (al z (bb z zc zd zi)) (cW (fX a f n g k x l p (aJ i (2+2*c+e) z) (aJ j (2+2*c+e) (bb z zc zd zi)))) aB (bo _ _) ?_ (e:=176+c*10+e*5) (s:=by rw[show 176+c*10+e*5=166+5*(2+2*c+e)from Z];exact C6 (fX a f n g k x l p i j) _ Z _ _) (u:=by rw[o2];show 176+c*10+e*5+5<=201;omega);clear b;intro zaJ b;refine ax ?_;go_wp2_with fail
       refine uO 2 3 4 5 ?_;clear b;intro b;refine b.ik 1 (al w E) (cW (fX a f n g k x l p (aJ (aJ i (2+2*c+e) z) (c) w) (aJ (aJ j (2+2*c+e) (bb z zc zd zi)) (c) E))) aB (bo _ _) ?_ (e:=166+c*5) (s:=by rw[show 166+c*5=166+5*(c)from Z];exact C6 (fX a f n g k x l p (aJ i (2+2*c+e) z) (aJ j (2+2*c+e) (bb z zc zd zi))) _ Z _ _) (u:=by rw[o2];show 166+c*5+5<=201;omega);clear b;intro zaL b;refine ax ?_;go_wp2_with fail
       have zaA:=b.ha (ll (aJ (aJ u (2+2*c+e) true) c true) (aJ (aJ j (2+2*c+e) (bb z zc zd zi)) c E)) (λd zb=>(bc.1 (yj d zb)).elim (λg=>(bc.1 (yj d g)).elim (λg=>by simp[g]) λg=>by simp[g]) λg=>by simp[g]) (zu:=lk (aJ (aJ u (2+2*c+e) true) c true) (aJ (aJ i (2+2*c+e) z) c w) (aJ (aJ j (2+2*c+e) (bb z zc zd zi)) c E)) (yi (yi b.q.1.1 b.q.2) b.q.1.2) vt;have zm:=zaA;exact⟨⟨e+1,_,_,_,Z,a8,Y ⟨(O.out.1.set Z zq.out).set Z K.out.toOk,⟨λd=>absurd L.out d,λ_ _=>⟨vu _ _ _,IM⟩,λ_ _ zj zaC=>if g:zj=e then(by rw[g,show aJ (aJ u (2+2*c+e) true) c true (2+2*c+e)=aJ u (2+2*c+e) true (2+2*c+e)from M Z,show aJ (aJ i (2+2*c+e) z) c w (2+2*c+e)=aJ i (2+2*c+e) z (2+2*c+e)from M Z,vu,vu];exact⟨rfl,zq.out⟩)else((O.out.2.set (e:=2+2*c+e) zq.out).set (e:=c) K.out.toOk).i L.out ze.out zj Z⟩⟩,Y (zm.drop 1)⟩,bF⟩
     .have W:(f.s !=3)=true:=oT;have L:=Y q;clear q;have zn:=b.ah 4 1;go_wp2_with fail
      clear W;clear zn;replace b:=b.bd;refine rg [] [0,1,2,3,4,5,6,7,208] ?_;refine ax ?_;refine b.ik 1 (al w E) (cW (fX a f n g k x l p (aJ i (2+2*c+e) w) (aJ j (2+2*c+e) E))) aB (bo _ _) ?_ (e:=176+c*10+e*5) (s:=by rw[show 176+c*10+e*5=166+5*(2+2*c+e)from Z];exact C6 (fX a f n g k x l p i j) _ Z _ _) (u:=by rw[o2];show 176+c*10+e*5+5<=201;omega);clear b;intro zN b;refine ax ?_;go_wp2_with fail
      have zm:=b.ha (ll (aJ u (2+2*c+e) true) (aJ j (2+2*c+e) E)) yj (zu:=lk (aJ u (2+2*c+e) true) (aJ i (2+2*c+e) w) (aJ j (2+2*c+e) E)) (yi b.q.1 b.q.2) vt;exact⟨⟨e+1,_,_,_,Z,a8,Y ⟨O.out.1.set Z K.out.toOk,⟨λ_ zj zaC=>if g:zj=e then g▸⟨vu _ _ _,IM⟩else(O.out.2.set (e:=2+2*c+e) K.out.toOk).f L.out zj Z,λd=>absurd d L.out,λd=>absurd d L.out⟩⟩,Y (zm.drop 1)⟩,bF⟩
    .have zar:¬((e:Int)<2):=Z;obtain rfl:e=2:=Z;go_wp2_with fail
     exact⟨⟨c+1,i,j,u,Z,a8,Y ⟨O.out.1.r,λzR zaW=>if g:zR=c then g▸O.out.2 else O.out.1.d zR Z⟩,Y b⟩,bF⟩
  .have zk:¬((c:Int)<(bK:Int)):=Z;obtain rfl:bK=c:=Z;go_wp2_with fail
   exact gJ rfl ⟨zl,i,j,u,rfl,(b.h.n (zl,_,_) (bS (i:=0) rfl)).resolve_left U,b.ai 0 rfl,zC.out,b.q,λd zb=>⟨(b.a.n d zb).resolve_left U,λe=>b.a.d d zb (ca.2 ⟨_,bS (i:=0) rfl,e.symm⟩),b.a.l d zb⟩,b.aa⟩
def yl:bi:=⟨0,0,0,0⟩
def du(a:bi):Qad:=#[X a.a,X a.b,X a.c,X a.d]
def ez(a:List bi)(b:Nat):bi:=a.getD b yl
def l4(a:List bi):Qam:=cq (λb=>du (ez a b)) a.length
theorem ym{a:List bi}{b:bi}(c:d<a.length):ez (a++[b]) d=ez a d:=by unfold ez;rw[b9,eE c,<-b9]
theorem C9{a:List bi}{b:bi}:ez (a++[b]) a.length=b:=by unfold ez;rw[b9,db (a' _),lF];rfl
theorem TV{a:List bi}{b:bi}:l4 a++(du b).toList=l4 (a++[b]):=by unfold l4;rw[aZ,cz,dv,mE,od (r:=λc=>du (ez (a++[b]) c)) (b:=λc=>du (ez a c)) λe d=>by rw[ym d],C9]
theorem yn{a:List bi}{f:bi->bi}(c:e<a.length):ez (a.modify e f) d=if d=e then f (ez a e)else ez a d:=by
 unfold ez;rw[b9,List.getElem?_modify];by_cases b:d=e
 .rw[ae b,b,cu c,b9,cu c];simp
 .rw[M b,b9];simp only[M (hv b)];cases a[d]? <;>rfl
theorem ahd{a:List bi}{g c:Nat}{v:Qas}{d:bi->bi}(i:dr I g 4 a.length (l4 a))(f:e<a.length)(k:c<4)(h:(du (ez a e)).setIfInBounds c v=du (d (ez a e))):dr (I.setIfInBounds (e*4+c) v) g 4 (a.modify e d).length (l4 (a.modify e d)):=by
 unfold l4;rw[p3];exact dr.set i (λ_=>rfl) f k λj l=>by
  rw[yn f];by_cases b:j=e
  .rw[ae b,ae b,h]
  .rw[M b,M b]
def IN(a:List bi):bi:=ez a (a.length-1)
def dm(b:List iN):Nat->List bi
 |0=>[]
 |a+1=>match b[a]? with
  |some (.cD s)=>if 0<(dm b a).length/\(IN (dm b a)).a=(a:Int)-1/\lZ (oh b ((a:Int)-1)) s=true then(dm b a).modify ((dm b a).length-1) λc=>{c with b:=(a:Int)}else dm b a++[⟨a,a,0,0⟩]
  |_=>dm b a
theorem C'(c:List iN):∀b,(dm c b).length<=b/\∀a,a<(dm c b).length->0<=(ez (dm c b) a).a/\(ez (dm c b) a).a<b
 |0=>⟨a' _,λa g=>absurd g (fT _)⟩
 |b+1=>by
  obtain⟨i,f⟩:=C' c b;rw[dm];split
  .split
   .rename_i h;refine⟨by rw[p3];omega,λa d=>?_⟩;rw[p3]at d;have:=f a d;rw[yn Z];split
    .rename_i e;rw[<-e];simp only;omega
    .omega
   .refine⟨aw,λa d=>?_⟩;rw[aZ,cz,dv]at d;by_cases e:a<(dm c b).length
    .rw[ym e];have:=f a e;omega
    .obtain rfl:a=(dm c b).length:=Z;rw[C9];simp only;omega
  .refine⟨Z,λa d=>?_⟩;have:=f a d;omega
theorem IP:(prog.info? 56).map (λa=>(a.zero,a.size,a.bytes))=some (some (.agg (du yl)),4,32):=Ys
theorem IQ(a:bi):(du a).all (·.oneCell')=true:=by simp[du,Value.oneCell']
theorem ahe(a:bi):wW prog 56 1 [(0,.agg (du a))]=some (du a):=ar
theorem IR{b:Qax}{h:Qaa}{e:Qau}(a:bi) (j:∀c d,ag d c 56 (du a)->V [] f d->f.heap.size<=c->wpList prog r h C (g.put b.dst (.slice (ab c) 1 1)) d) (i:b.guard=none:=by rfl) (l:b.op=.buildSlice 39 1 #[(0,e)]:=by rfl) (k:g.eval e=.agg (du a):=by rfl):wpList prog r h (b::C) g f:=e' underlying39 (du a) i l (by simp only[gm,cj,ee,k];exact ahe a) j
theorem IS{b e:Nat}{a:aE}{j:Qae}{l k:Nat}(h:f.rangeAt b (e*148) (cd D a j l (k:Int)).toList):f.rangeAt b (e*148+139) (a1 a.ej).toList:=λc d i=>by
 have g:(a1 a.ej)[c]? =some d:=by rw[<-eo];exact i
 exact Tt
theorem TW{a:List aE}(b:d<a.length):oh (a.map aE.ak) (d:Int)=(bq a d).ej:=by unfold oh bq;rw[gx,fx,cu b,b9,cu b];cases a[d]<;>rfl
def TX(e f:N)(a:List bi)(v:Qas):Prop:=∃c b d,v=.slice c a.length b/\av [] e f d [] (λ_=>True)/\er 56 4 a.length (l4 a) c b d
theorem TY(a:c:=by exact⟨⟨d+1,e++[⟨d,d,0,0⟩],g+1,_,_,_,Z,a8,rfl,Y ⟨u,by rw[aZ,a.out.2];rfl⟩,Y (by rw[<-TV];exact za),Y (b.drop 1)⟩,bF⟩):c:=a
theorem Da(a:l)(b:l->c:=by
 intro zV;obtain⟨j,k,o⟩:=zT.out;have y:h.ej=j:=by rw[o];rfl
 revert j k o y;exact zV):c:=b a
theorem ahf(J:N)(zw:aD)(zf zi l:Nat)(c:List aE)(zs:Nat->Option Addr)(zA zz:Nat->Nat)(zx:jG J zw zf c zs zA zz)(zC:c.length=l)(zp:l<=64):Calls prog 21 #[.slice (ab zf) l zi] J λF z1=>∃v,F=.returned v/\TX J z1 (dm (c.map aE.ak) l) v:=by
 have zD:=Y zx;have i:=Y (And.intro zC zp);have zae:(l:Int)<=64:=Z;clear zx zC zp;have b:=av.jh (ao.nil [] J);go_in;go_wp2_with fail
 go_loopw [8,3] (λzd aR wr=>∃(d:Nat)(e:List bi)(g:Nat)(G:Qae)(z:Nat)(H:bX),d<=l/\zd=X d/\aR=.slice G g z/\Hid (e=dm (c.map aE.ak) d/\e.length=g)/\Hid (er 56 4 g (l4 e) G z H)/\Hid (av [] J wr H [] λ_=>True)) (λzd _ _=>l-(intOf zd).toNat)
 .exact⟨0,[],0,none,0,[],Z,rfl,rfl,Y ⟨rfl,rfl⟩,Y er.nil,Y b⟩
 .obtain⟨d,e,g,G,z,H,zah,rfl,rfl,a,B,zu⟩:=hrel;clear b;have b:=zu.out;clear zu;by_cases zai:d<l
  .have zY:(d:Int)<(l:Int):=Z;have zm:=(zD.out.ad b.aa).row d hG;have zU:=Y zm;refine aG (bq c d) λh W=>?_;have zr:=Y W;have zy:(c.map aE.ak)[d]? =some h.ak:=by rw[fx,cu hG,<-W];unfold bq;rw[b9,cu hG];rfl
   have E:=Y zy;have ze:=C' (c.map aE.ak) d;rw[<-a.out.1,a.out.2]at ze;have zO:=Y ze;have zaf:(g:Int)<=64:=Z;have K:wr.cell? ⟨zf,d*148,none⟩=some (.int .i64 h.kind):=by rw[<-W];have:=zm 0 _ (show(cd zw (bq c d) (zs d) (zA d) (zz d:Int)).toList[0]? =some (.int .i64 (bq c d).kind)from rfl);rwa[fs]at this
   clear zy ze W zm;by_cases p:h.kind=3
   .rw[p]at K;have zT:=Y (show∃j k,h=.cD j k by
     cases h with
     |aQ=>exact absurd p (show(1:Int)≠3 from R)
     |aA zi zR=>exact absurd p (show(2:Int)≠3 from R)
     |cD j k=>exact⟨_,_,rfl⟩)
    clear p;by_cases zo:g=0
    .subst zo;go_wp2_with fail
     clear K;refine B7 126 ?_;clear b;intro b;refine J6 ?_;refine x3 ?_;refine ax ?_;go_wp2_with(first|(refine fU (T:=56) (du ⟨d,d,0,0⟩) ?_)|(refine IR ⟨d,d,0,0⟩ ?_;intro I zG n s t;replace b:=b.aP n s t)|(refine av.fR [(I,56,du ⟨d,d,0,0⟩)] b B.out (du yl) 32 underlying39 IP rfl R (r:=1) (aF.ai (C:=4) (e:=1) n rfl) (o6 (IQ _)) ib Z Z ?_;clear b n s t;intro zq zB zt zE b za;simp only[dZ,cU]at b))
     have u:e++[⟨d,d,0,0⟩]=dm (c.map aE.ak) (d+1):=by refine Da λj k o y=>?_;rw[dm,E.out,o];simp only[aE.ak];rw[<-a.out.1,M (λw=>by rw[a.out.2]at w;exact absurd w.1 R)]
     exact⟨⟨d+1,e++[⟨d,d,0,0⟩],0+1,_,_,_,Z,a8,rfl,Y ⟨u,by rw[aZ,a.out.2];rfl⟩,Y (by rw[<-TV];exact za),Y (b.drop 1)⟩,bF⟩
    .have zQ:((g:Int)-1)=((g-1:Nat):Int):=Z;refine aG (g-1) λf zH=>?_;rw[zH]at zQ;have x:=Y (show f<g/\g-1=f from Z);have z8:(f:Int)<(g:Int):=Z;obtain⟨zj,L,rfl,rfl,zJ⟩:=B.out.resolve_left λw=>zo w.1;have zc:=Y (show dr L z 4 e.length (l4 e) by rw[a.out.2];exact zJ);have zk:ck (∀O,O<4->L[f*4+O]? =(du (ez e f))[O]?):=λO zP=>zc.out.au (r:=λzN=>du (ez e zN)) (λ_=>rfl) (by rw[a.out.2];exact x.out.1) zP;obtain⟨A,Q⟩:∃A,(ez e f).a=A:=⟨_,rfl⟩;have zv:=zO.out.2 f x.out.1;rw[Q]at zv;have P:=Y Q;have q:=zk.out 0 R;clear zJ zo zH;have zI:=b.cl 0 (f*4) (v:=X A) (g:=by rw[fs]at q;rw[q];show some (Value.int .i64 (ez e f).a)= _;rw[Q]);clear Q q;by_cases zb:A=(d:Int)-1
     .refine aG (d-1) λr zS=>?_;have zW:(d:Int)-1=(r:Int):=Z;have C:=Y (show r<c.length/\(d:Int)-1=(r:Int)from hG);have z':(r:Int)<(l:Int):=Z;rw[zW]at zb;subst zb;have z7:=Y ((zD.out.ad b.aa).row r C.out.1);clear zS zv;go_wp2_with fail
      clear K zI;have zh:=b.cl 0 (f*4) (v:=X r) (g:=by have q:=zk.out 0 R;rw[fs]at q;rw[q];show some (Value.int .i64 (ez e f).a)= _;rw[P.out]);refine B7 126 ?_;clear b;intro b;refine J5 ?_;refine iR (aL:=a1 (bq c r).ej) (IS z7.out) (cX _) ?_;refine lx ?_;refine iR (aL:=a1 (bq c d).ej) (IS zU.out) (cX _) ?_;simp only[az];refine aG (lZ (bq c r).ej (bq c d).ej) λzK zl=>?_;have zF:=Y zl;have zZ:=Y λzn=>show Calls prog 50 #[a1 (bq c r).ej,a1 (bq c d).ej] zn λF zX=>F=.returned (.bool zK)/\V [] zn zX from zl▸aeZ zn _ _;clear zl;refine b.ec (zZ.out _) ?_;clear b;intro zaa b;refine ax ?_;clear zh;cases zK
      .skip;go_wp2_with(first|(refine fU (T:=56) (du ⟨d,d,0,0⟩) ?_)|(refine IR ⟨d,d,0,0⟩ ?_;intro I zG n s t;replace b:=b.aP n s t)|(refine av.fR [(I,56,du ⟨d,d,0,0⟩)] b B.out (du yl) 32 underlying39 IP rfl R (r:=1) (aF.ai (C:=4) (e:=1) n rfl) (o6 (IQ _)) ib Z Z ?_;clear b n s t;intro zq zB zt zE b za;simp only[dZ,cU]at b))
       have u:e++[⟨d,d,0,0⟩]=dm (c.map aE.ak) (d+1):=by refine Da λj k o y=>?_;rw[dm,E.out,o];simp only[aE.ak];rw[<-a.out.1,M (λw=>by have D:=w.2.2;rw[C.out.2,TW C.out.1,<-y,<-zr.out,zF.out]at D;exact Bool.noConfusion D)]
       exact TY
      .have zad:=trivial;go_wp2_with(refine b.a6 0 (X d) (L.setIfInBounds (f*4+1) (X d)) ?_ (d:=f*4+1) (t:=by have:=zc.out.lV;have:=zc.out.le;have:=x.out;have:=a.out.2;omega);clear b;intro zab b)
       have u:e.modify f (λh=>{h with b:=(d:Int)})=dm (c.map aE.ak) (d+1):=by refine Da λj k o y=>?_;rw[dm,E.out,o];simp only[aE.ak];rw[<-a.out.1,ae ⟨by rw[a.out.2];have:=x.out;omega,by unfold IN;rw[a.out.2,x.out.2,P.out];exact C.out.2.symm,by rw[C.out.2,TW C.out.1,<-y,<-zr.out];exact zF.out⟩,a.out.2,x.out.2]
       exact⟨⟨d+1,e.modify f (λh=>{h with b:=(d:Int)}),g,some ⟨zj,0,none⟩,z,[(zj,56,L.setIfInBounds (f*4+1) (.int .i64 (d:Int)))],Z,a8,rfl,Y ⟨u,by rw[p3];exact a.out.2⟩,Y (.inr ⟨zj,_,rfl,rfl,by have:=ahd (v:=X d) (c:=1) (d:=λh=>{h with b:=(d:Int)}) zc.out (by rw[a.out.2];exact x.out.1) R rfl;rw[p3,a.out.2]at this;exact this⟩),Y b⟩,bF⟩
     .have zac:(A==(d:Int)-1)=false:=by simpa using zb
      go_wp2_with fail
      clear K zI;have zh:=b.cl 0 (f*4) (v:=X A) (g:=by have q:=zk.out 0 R;rw[fs]at q;rw[q];show some (Value.int .i64 (ez e f).a)= _;rw[P.out]);refine B7 126 ?_;clear b;intro b;refine J6 ?_;refine x3 ?_;refine ax ?_;clear zh;go_wp2_with(first|(refine fU (T:=56) (du ⟨d,d,0,0⟩) ?_)|(refine IR ⟨d,d,0,0⟩ ?_;intro I zG n s t;replace b:=b.aP n s t)|(refine av.fR [(I,56,du ⟨d,d,0,0⟩)] b B.out (du yl) 32 underlying39 IP rfl R (r:=1) (aF.ai (C:=4) (e:=1) n rfl) (o6 (IQ _)) ib Z Z ?_;clear b n s t;intro zq zB zt zE b za;simp only[dZ,cU]at b))
      have u:e++[⟨d,d,0,0⟩]=dm (c.map aE.ak) (d+1):=by refine Da λj k o y=>?_;rw[dm,E.out,o];simp only[aE.ak];rw[<-a.out.1,M (λw=>zb (by have D:=w.2.1;unfold IN at D;rw[a.out.2,x.out.2,P.out]at D;exact D))]
      exact TY
   .have zag:(h.kind==3)=false:=mY;have z6:ck (∀j k,h≠.cD j k):=λj k F=>p (by rw[F];rfl);clear p;go_wp2_with fail
    have u:e=dm (c.map aE.ak) (d+1):=by
     rw[dm,E.out,a.out.1];cases h with
     |aQ=>rfl
     |aA zi zR=>rfl
     |cD j k=>exact absurd rfl (z6.out j k)
    exact⟨⟨d+1,e,g,G,z,H,Z,a8,rfl,Y ⟨u,a.out.2⟩,B,Y b⟩,bF⟩
  .have zY:¬((d:Int)<(l:Int)):=Z;obtain rfl:l=d:=Z;go_wp2_with fail
   go_ret;exact⟨_,rfl,G,z,H,by rw[<-a.out.1,a.out.2];rfl,b,by rw[<-a.out.1,a.out.2];exact B.out⟩
def o'(b:List bi)(c a:Nat):bi:=if a<c then{ez b a with d:=2}else ez b a
theorem ahg(j:N)(B:aD)(q G k b:Nat)(l:List aE)(E:Nat->Option Addr)(A w:Nat->Nat)(zj:jG j B q l E A w)(Q:l.length=k)(J:k<=64)(g m:Nat)(e:Qad)(f:List bi)(zl:ag j g 56 e)(zi:dr e m 4 b (l4 f))(K:f.length=b)(zt:b<=64)(zm:q≠g)(zd:∀n,n<b->∃c:Nat,(ez f n).a=(c:Int)/\c<k/\(bq l c).ej.r=false):Calls prog 22 #[.slice (ab q) k G,.slice (ab g) b m] j λh x=>h=.returned (.tuple #[])/\∃D,ag x g 56 D/\dr D m 4 b (cq (λc=>du (o' f b c)) b)/\V [g] j x:=by
 have zh:=Y λu(I:V [g] j u)=>show dQ u q 148 l.length λa=>cd B (bq l a) (E a) (A a) (w a:Int)from zj.row.S I (by simpa using zm);have zk:=Y zd;have i:=Y (And.intro Q J);have zq:(k:Int)<=64:=Z;have zx:(b:Int)<=64:=Z;have W:=Y (show dr e m 4 b (cq (λc=>du (o' f 0 c)) b) by
  have h:l4 f=cq (λc=>du (o' f 0 c)) b:=by unfold l4;rw[K];exact od λn _=>by unfold o';rw[M (fT _)]
  rw[<-h];exact zi)
 have d:=ao.one zl;go_in;go_wp2_with fail
 go_loopw [10,4] (λr zb wr=>∃(a:Nat)(e:Qad),a<=b/\r=X a/\zb=X 2/\Hid (dr e m 4 b (cq (λc=>du (o' f a c)) b))/\Hid (ao [g] j wr [(g,56,e)])) (λr _ _=>b-(intOf r).toNat)
 .exact⟨0,e,Z,rfl,rfl,W,Y d⟩
 .obtain⟨a,e,zr,rfl,rfl,p,L⟩:=hrel;have d:=L.out;by_cases s:a<b
  .have F:(a:Int)<(b:Int):=Z;obtain⟨c,za,zo,t⟩:=zk.out a s;have zn:(c:Int)<(k:Int):=Z;have P:=Y (zh.out _ d.aa c hG);refine aG ((bq l c).ej) λo C=>?_;have ze:=Y C;rw[C]at t;have O:=Y t;have z:=p.out.au (r:=λc=>du (o' f a c)) (λ_=>rfl) s (show 0<4 from R);have zz:=d.cl 0 (a*4) (v:=X c) (g:=by rw[fs]at z;rw[z];unfold o';rw[M (lf _)];show some (Value.int .i64 (ez f a).a)= _;rw[za]);have zf:=Y (show dr (e.setIfInBounds (a*4+3) (X 2)) m 4 b (cq (λc=>du (o' f (a+1) c)) b)from dr.set p.out (λ_=>rfl) s R λn _=>by
    unfold o';by_cases h:n=a
    .rw[ae h,ae Z,h,M (lf _)];rfl
    .rw[M h];by_cases y:n<a
     .rw[ae y,ae Z]
     .rw[M y,M Z])
   have H:=Y (show a*4+3<e.size by have:=p.out.lV;have:=p.out.le;omega);have zp:(o.t==3)=true\/(o.t==3)=false:=by cases o.t==3;exact .inr rfl;exact .inl rfl
   go_wp2_with(first|(refine lg (aL:=a1 o) (cX _) (by rw[<-ze.out];exact IS P.out) ?_)|(refine d.aH (a1 ⟨0,0,0,false,false,false⟩) xF ?_;intro zy zw d)|(refine d.aN 0 (a1 o) (cX _) (og _) ?_;intro zu d;have zs:=d.cl 0 4 (v:=.bool false) (g:=by exact aX (λzc=>some (Value.bool zc)) O.out);have zA:=d.ah 0 0)|(refine d.a6 1 (X 2) (e.setIfInBounds (a*4+3) (X 2)) ?_ (d:=a*4+3) (t:=H.out);intro zv d))
   all_goals exact⟨⟨a+1,e.setIfInBounds (a*4+3) (X 2),Z,a8,rfl,zf,Y (d.drop 1)⟩,bF⟩
  .have F:¬((a:Int)<(b:Int)):=Z;obtain rfl:b=a:=Z;go_wp2_with fail
   exact jw (jW rfl _ _ _) rfl ⟨rfl,e,d.ai 0 rfl,p.out,d.aa⟩
theorem TZ(f:List iN):∀b,(∀a,a<(dm f b).length->∃e d:Nat,ez (dm f b) a=⟨e,d,0,0⟩/\e<=d/\d<b)/\∀a,a+1<(dm f b).length->(ez (dm f b) a).b<(ez (dm f b) (a+1)).a
 |0=>⟨λa l=>absurd l (fT _),λa l=>absurd l (fT _)⟩
 |b+1=>by
  obtain⟨k,n⟩:=TZ f b;rw[dm];split
  .split
   .rename_i o;refine⟨λa c=>?_,λa c=>?_⟩
    .rw[p3]at c;obtain⟨e,d,g,h,m⟩:=k a c;rw[yn Z];split
     .rename_i i;rw[<-i,g];exact⟨e,b,rfl,Z,Z⟩
     .exact⟨e,d,g,h,Z⟩
    .rw[p3]at c;rw[yn Z,yn Z,M Z];have:=n a c;split
     .rename_i i;rw[<-i];exact this
     .exact this
   .refine⟨λa c=>?_,λa c=>?_⟩
    .rw[aZ,cz,dv]at c;by_cases g:a<(dm f b).length
     .rw[ym g];obtain⟨e,d,j,h,m⟩:=k a g;exact⟨e,d,j,h,Z⟩
     .obtain rfl:a=(dm f b).length:=Z;rw[C9];exact⟨b,b,rfl,a' _,Z⟩
    .rw[aZ,cz,dv]at c;rw[ym Z];by_cases g:a+1<(dm f b).length
     .rw[ym g];exact n a g
     .obtain⟨e,d,j,_,m⟩:=k a Z;have i:a+1=(dm f b).length:=Z;rw[i,C9,j];show(d:Int)<(b:Int);omega
  .exact⟨λa c=>by obtain⟨e,d,j,h,m⟩:=k a c;exact⟨e,d,j,h,Z⟩,n⟩
structure j7(f:List bi)(c e:Nat)(d b:Nat->Nat):Prop where
 u:∀a,a<c->ez f a=⟨d a,b a,0,0⟩
 k':∀a,a<c->d a<=b a/\b a<e
 aa:∀a,a+1<c->b a<d (a+1)
theorem T0(e:List iN)(c:Nat):j7 (dm e c) (dm e c).length c (λa=>(ez (dm e c) a).a.toNat) λa=>(ez (dm e c) a).b.toNat:=by
 obtain⟨f,m⟩:=TZ e c;refine⟨λa b=>?_,λa b=>?_,λa b=>?_⟩
 .obtain⟨h,g,d,_⟩:=f a b;rw[d];rfl
 .obtain⟨h,g,d,k,l⟩:=f a b;simp only[d,gx];exact⟨k,l⟩
 .obtain⟨h,g,d,_⟩:=f a Z;obtain⟨j,n,i,_⟩:=f (a+1) b;have:=m a b;rw[d,i]at this;simp only[d,i,gx];have this:(g:Int)<(j:Int):=this;omega
def gj(b:Nat->Nat)(a:Nat):Nat:=if a=0 then 0 else b (a-1)+1
def fB(c:Nat->Nat)(b d a:Nat):Nat:=if a+1=b then d-1 else c a
def iS(b:Nat->Nat)(a:Nat):Nat->Nat
 |0=>0
 |d+1=>iS b a d+8*b (a+d)
theorem T1{d:Nat->Nat}{b:Nat}(c:∀a,d a<=42949672960):∀a,iS d b a<=343597383680*a
 |0=>a' _
 |a+1=>by have:=T1 (b:=b) c a;have:=c (b+a);rw[iS];omega
def l5(d b:Nat->Nat)(c a:Nat):bi:=⟨if a<c then(gj b a:Int)else d a,b a,0,2⟩
def l6(b f:Nat->Nat)(c d e g a:Nat):bi:=⟨gj b a,fB b c d a,if a<e then(iS f (gj b a) (fB b c d a+1-gj b a):Int)else if a=e then(iS f (gj b a) g:Int)else 0,2⟩
def rp(a e:Nat->Nat)(c d b:Nat):bi:=⟨gj a b,fB a c d b,(iS e (gj a b) (fB a c d b+1-gj a b):Int),2⟩
theorem vv{b:Nat}{T:Qat}(e:ag f b T I)(j:dr I x 4 i (cq (λc=>du (m c)) i)){a:Nat}(h:a<i):f.cell? ⟨b,a*4,none⟩=some (.int .i64 (m a).a)/\f.cell? ⟨b,a*4+1,none⟩=some (.int .i64 (m a).b)/\f.cell? ⟨b,a*4+2,none⟩=some (.int .i64 (m a).c):=by
 have d:=λg(k:g<4)=>j.au (r:=λc=>du (m c)) (λ_=>rfl) h k;refine⟨?_,?_,?_⟩
 .have:=d 0 R;rw[fs]at this;rw[e.au,this];rfl
 .rw[e.au,d 1 R];rfl
 .rw[e.au,d 2 R];rfl
theorem yo{c:Nat}{v:Qas}(g:dr I x 4 i (cq (λa=>du (m a)) i))(d:e<i)(j:c<4)(f:∀a,a<i->a≠e->u a=m a)(k:(du (m e)).setIfInBounds c v=du (u e)):dr (I.setIfInBounds (e*4+c) v) x 4 i (cq (λa=>du (u a)) i):=dr.set g (λ_=>rfl) d j λa h=>by
 by_cases b:a=e
 .rw[ae b,b,k]
 .rw[M b,f a h b]
theorem IT(d:dr I x 4 i (cq (λa=>du (m a)) i))(b:∀a,a<i->u a=m a):dr I x 4 i (cq (λa=>du (u a)) i):=by rw[od (b:=λa=>du (m a)) λa c=>by rw[b a c]];exact d
theorem ahh:kz 3 (.int .i64 0) 1 8:=k7
theorem ahi(a:Nat):madeCells (Value.cells (X 0)) (a*1)=an .i64 a λ_=>0:=by
 rw[tb _ rfl];unfold an gE;congr 1;apply oM;intro b;by_cases c:b<a
 .simp[c]
 .rw[fN aw,fN aw]
def dW(d:aD)(c:List aE)(b:Nat->Nat)(a:Nat):Nat:=(jE d (bq c a)).length+b a
def T2(j g:Nat->Nat)(a h:Nat)(c:N)(k:Ending)(f:N):Prop:=∃(b e:Nat)(d:Qad),k=.returned (.tuple #[.slice (ab b) a e,X 0])/\ag f b 56 d/\dr d e 4 a (cq (λi=>du (rp g j a h i)) a)/\V [] c f/\c.heap.size<=b
theorem T3(a:l)(b:cZ l->c:=by
 intro zaF;have zY:(d:Int)<(c:Int):=Z;have zi:wr.cell? ⟨B,d*148,none⟩=some (.int .i64 (bq f d).kind):=by have:=z7.out _ b.aa d Z 0 _ (show(cd h (bq f d) (K d) (Q d) (i d:Int)).toList[0]? =some (.int .i64 (bq f d).kind)from rfl);rwa[fs]at this
 have zm:=zaJ.out d Z;revert zY zi zm;exact zaF.out):c:=b ⟨a⟩
theorem ahj(l:N)(h:aD)(B zu c:Nat)(f:List aE)(K:Nat->Option Addr)(Q i:Nat->Nat)(zd:jG l h B f K Q i)(zG:f.length=c)(zq:c<=64)(zT:∀d,d<c->gW h (bq f d))(zab:∀d,d<c->i d<=1048576)(zO:dA l)(zad:dD)(zr:0<(dm (f.map aE.ak) c).length)(z8:∀d,d<c->(bq f d).ej.r=false)(zL:∀d,dW h f i d<=42949672960):Calls prog 7 #[.slice (ab B) c zu] l (T2 (dW h f i) (λe=>(ez (dm (f.map aE.ak) c) e).b.toNat) (dm (f.map aE.ak) c).length c l):=by
 refine aG (dm (f.map aE.ak) c) λJ zC=>?_;have D:=T0 (f.map aE.ak) c;have zz:=(C' (f.map aE.ak) c).1;rw[zC]at D zz zr⊢;refine aG J.length λg zv=>?_;rw[zv]at D zz zr⊢;generalize (λe=>(ez J e).b.toNat)=k at D⊢;generalize (λe=>(ez J e).a.toNat)=s at D;have zaN:=Y λq(u:V [] l q) d(F:d<c)=>aeX q h (bq f d) (K d) (Q d) (i d) (zT d F) (zO.ad u) zad (λzaz=>(zd.bE d Z zaz).ad u) (zab d F);have zav:=Y λq(u:V [] l q)=>show Calls prog 21 #[.slice (ab B) c zu] q λC zaK=>∃v,C=.returned v/\TX q zaK J v from zC▸ahf q h B zu c f K Q i (zd.ad u) zG zq;have zaT:=Y λq(u:V [] l q) n z j(zaB:ag q n 56 j)(zaR:dr j z 4 g (l4 J))(zt:B≠n)=>ahg q h B zu c g f K Q i (zd.ad u) zG zq n z j J zaB zaR zv Z zt λe y=>⟨s e,by rw[D.u e y],by have:=D.k' e y;omega,z8 _ (by have:=D.k' e y;omega)⟩;have z7:=Y λq(u:V [] l q) d(F:d<c)=>(zd.ad u).row d Z;have zaJ:=Y λd(F:d<c)=>show((bq f d).kind==4)=false by cases bq f d<;>rfl
 have zaD:=Y (show B<l.heap.size from by have zah:=zd.row 0 Z 0 _ (show(cd h (bq f 0) (K 0) (Q 0) (i 0:Int)).toList[0]? =some (.int .i64 (bq f 0).kind)from rfl);exact f' _ _ zah);have za:=Y D;have zae:=Y (And.intro zv (And.intro zz (And.intro zr zq)));have zaE:=Y zL;have zaq:=Y λzak d=>T1 (b:=zak) zL d;have zbj:(c:Int)<=64:=Z;have za8:(0:Int)<(g:Int):=Z;have zbx:(g:Int)<=64:=Z;have zbs:(g:Int)<=(c:Int):=Z;clear zd zG zq zT zab zO zad zr z8 zC D zz zv zL;have b:=ao.nil [] l;go_in;go_wp2_with(refine q5 _ _ _ 3 (X 0) (an .i64 c λ_=>0) 1 8 c underlying28 ahh (ahi c) Z ib ?_;intro zbi z6 u;replace b:=b.aP z6 u (a' _);clear z6 u;generalize l.heap.size=ze at b⊢)
 go_loopw [21] (λm wr=>∃d:Nat,d<=c/\m=X d/\Hid (ao [] l wr [(ze,3,an .i64 c (c3 d λe=>(dW h f i e:Int)))])) (λm _=>c-(intOf m).toNat)
 .exact⟨0,Z,rfl,Y (by rw[show c3 0 (λe=>(dW h f i e:Int))=λ_=>0 from funext λe=>M (fT _)];exact b)⟩
 .obtain⟨d,zbr,rfl,t⟩:=hrel;clear b;have b:=t.out;clear t;by_cases F:d<c
  .have zaL:(d:Int)<(c:Int):=Z;have zat:=Y (z7.out _ b.aa d F);go_wp2_with(refine lg (aL:=cd h (bq f d) (K d) (Q d) (i d:Int)) (mK ..) zat.out ?_)
   refine b.aW (zaN.out _ b.aa d F) ?_;clear b;intro zbn b;go_wp2_with(refine b.a6 0 (X (dW h f i d:Int)) (an .i64 c (c3 (d+1) λe=>(dW h f i e:Int))) ?_ (d:=d) (s:=ph F rfl) (t:=by rw[gO];exact F);clear b;intro zaZ b)
   exact sI
  .have zaL:¬((d:Int)<(c:Int)):=Z;obtain rfl:c=d:=Z;go_wp2_with fail
   refine(zav.out _ b.aa).mono ?_;rintro C zbv ⟨v,rfl,l0,z,zba,rfl,zA,zX⟩;rw[zae.out.1]at zX⊢;rcases zX with⟨zah,_⟩|⟨n,zai,rfl,rfl,zV⟩
   .omega
   have zS:=(zA.h.n (n,_,_) (hd ..)).resolve_left U;replace b:=b.aP (zA.ai 0 rfl) zA.aa zS;have zt:B≠n:=by have:=zaD.out;have:=(b.n (n,_,_) (hd ..)).resolve_left U;omega
   have zaA:=Y zt;have z1:=Y zV;have za9:((g:Int)==0)=false:=aw;have zI:=(vv (b.ai 0 rfl) (m:=λa=>ez J a) (by have:=z1.out;unfold l4 at this;rw[zae.out.1]at this;exact this) (a:=0) Z).1;rw[za.out.u 0 Z,Nat.zero_mul]at zI;refine aG (s 0) λG zR=>?_;have zaP:=Y (show s 0=G/\G<c by have:=za.out.k' 0 Z;omega);simp only[zR]at zI;have zaY:(G:Int)<(c:Int):=by have:=zaP.out;omega
   clear zA zV zS zt zR;go_wp2_with fail
   go_loopw [49] (λm wr=>∃d:Nat,d<=G/\m=X d/\Hid (ao [] l wr [(n,56,zai),(ze,3,an .i64 c (c3 c λe=>(dW h f i e:Int)))])) (λm _=>G-(intOf m).toNat)
   .exact⟨0,Z,rfl,Y b⟩
   .obtain⟨d,zbg,rfl,t⟩:=hrel;clear b zI;have b:=t.out;clear t;by_cases zaX:d<G
    .have zam:(d:Int)<(G:Int):=Z;refine T3 λzY zi zm=>?_;generalize (bq f d).kind=zaj at zi zm;go_wp2_with fail
     exact sI
    .have zam:¬((d:Int)<(G:Int)):=Z;obtain rfl:G=d:=Z;go_wp2_with fail
     refine(zaT.out _ b.aa n z zai (b.ai 0 rfl) z1.out zaA.out).mono ?_;rintro C za4 ⟨rfl,zK,o,zs,zag⟩;replace b:=b.bk 0 o zag;have zaf:=Y (IT (u:=l5 s k 0) zs λa zH=>by unfold o' l5;rw[ae zH,M (fT _),za.out.u a zH]);have zN:=Y (show 0<zK.size by have:=zs.lV;have:=zs.le;omega);clear o zs zag;go_wp2_with(refine b.a6 0 (X 0) (zK.setIfInBounds 0 (X 0)) ?_ (d:=0) (t:=zN.out);clear b;intro zbq b)
     have zaa:ck (dr (zK.setIfInBounds 0 (X 0)) z 4 g (cq (λe=>du (l5 s k 1 e)) g)):=yo (e:=0) (c:=0) (u:=l5 s k 1) zaf.out Z R (λa zH zo=>by unfold l5;rw[M Z,M Z]) rfl;go_loopw [10] (λm wr=>∃(a:Nat)(j:Qad),1<=a/\a<=g/\m=X a/\Hid (dr j z 4 g (cq (λe=>du (l5 s k a e)) g))/\Hid (ao [] l wr [(n,56,j),(ze,3,an .i64 c (c3 c λe=>(dW h f i e:Int)))])) (λm _=>g-(intOf m).toNat)
     .exact⟨1,_,Z,Z,rfl,zaa,Y b⟩
     .obtain⟨a,j,zaV,za7,rfl,p,zn⟩:=hrel;clear b zaa zaf zN;have b:=zn.out;clear zn;by_cases H:a<g
      .have zE:(a:Int)<(g:Int):=Z;refine aG (a-1) λr zaG=>?_;have z':(a:Int)-1=(r:Int):=Z;have za2:(r:Int)<(g:Int):=Z;refine aG (k r) λo zP=>?_;refine aG (s a) λW zax=>?_;refine aG (o+1) λbV zao=>?_;have zj:=Y (show k r=o/\s a=W/\o+1=bV/\a-1=r/\o<c/\W<c by have:=za.out.k' r Z;have:=za.out.k' a H;omega);have zx:(o:Int)+1=(bV:Int):=Z;have za3:(bV:Int)-1=(o:Int):=Z;have zbb:(o:Int)<(c:Int):=by have:=zj.out;omega
       have zbe:(W:Int)<(c:Int):=by have:=zj.out;omega
       have zc:=(vv (b.ai 0 rfl) p.out (a:=r) Z).2.1;simp only[l5,zP]at zc;clear zaG zP zax zao;go_wp2_with fail
       go_loopw [12,11] (λP zay wr=>∃d:Nat,P=X d/\zay=X bV/\Hid (ao [] l wr [(n,56,j),(ze,3,an .i64 c (c3 c λe=>(dW h f i e:Int)))])) (λP _ _=>W-(intOf P).toNat)
       .exact⟨bV,rfl,rfl,Y b⟩
       .obtain⟨d,rfl,rfl,t⟩:=hrel;clear b zc;have b:=t.out;clear t;have zb:=(vv (b.ai 0 rfl) p.out (a:=a) H).1;simp only[l5,M (lf a),zj.out.2.1]at zb;by_cases zbc:d<W
        .have zaw:(d:Int)<(W:Int):=Z;refine T3 λzbt zi zm=>?_;generalize (bq f d).kind=zaj at zi zm;go_wp2_with fail
         exact⟨⟨d+1,a8,rfl,Y b⟩,bF⟩
        .have zaw:¬((d:Int)<(W:Int)):=Z;have L:=Y (show r*4+1<j.size/\a*4<j.size by have:=p.out.lV;have:=p.out.le;omega);go_wp2_with(first|(refine b.a6 0 (X o) (j.setIfInBounds (r*4+1) (X o)) ?_ (d:=r*4+1) (t:=L.out.1);clear b zb;intro za5 b)|(refine b.a6 0 (X bV) ((j.setIfInBounds (r*4+1) (X o)).setIfInBounds (a*4) (X bV)) ?_ (d:=a*4) (t:=by rw[xW];exact L.out.2);clear b;intro zbf b))
         have zap:=yo (e:=r) (c:=1) (u:=l5 s k a) (v:=X o) p.out Z R (λ_ _ _=>rfl) (by rw[<-zj.out.1];rfl);have zaH:=yo (e:=a) (c:=0) (u:=l5 s k (a+1)) (v:=X bV) zap H R (λe y zo=>by
          unfold l5;by_cases C:e<a
          .rw[ae C,ae Z]
          .rw[M C,M Z]) (by
          have x:=zj.out;unfold l5 gj;rw[M (lf a),ae (m' a),M Z,x.2.2.2.1,x.1,x.2.2.1];rfl)
         exact⟨⟨a+1,_,Z,Z,a8,Y zaH,Y b⟩,bF⟩
      .have zE:¬((a:Int)<(g:Int)):=Z;obtain rfl:g=a:=Z;refine aG (g-1) λE zaS=>?_;refine aG (c-1) λO zal=>?_;have z':(g:Int)-1=(E:Int):=Z;have zx:(c:Int)-1=(O:Int):=Z;have zby:(E:Int)<(g:Int):=Z;have zbo:(O:Int)<=64:=Z;have L:=Y (show E*4+1<j.size/\g-1=E/\c-1=O by have:=p.out.lV;have:=p.out.le;omega);clear zaS zal;go_wp2_with(refine b.a6 0 (X O) (j.setIfInBounds (E*4+1) (X O)) ?_ (d:=E*4+1) (t:=L.out.1);clear b;intro zbd b)
       have zZ:=Y (show dr (j.setIfInBounds (E*4+1) (X O)) z 4 g (cq (λe=>du (l6 k (dW h f i) g c 0 0 e)) g)from yo (e:=E) (c:=1) (u:=l6 k (dW h f i) g c 0 0) (v:=X O) p.out Z R (λe y zo=>by
        have x:=L.out;unfold l5 l6 fB;rw[ae y,M (fT _),M (show¬e+1=g from Z)];split<;>rfl) (by
        have x:=L.out;unfold l5 l6 fB;rw[ae Z,M (fT _),ae (show E+1=g from Z),x.2.2];split<;>rfl))
       go_loopw [119] (λm wr=>∃(a:Nat)(j:Qad),a<=g/\m=X a/\Hid (dr j z 4 g (cq (λe=>du (l6 k (dW h f i) g c a 0 e)) g))/\Hid (ao [] l wr [(n,56,j),(ze,3,an .i64 c (c3 c λe=>(dW h f i e:Int)))])) (λm _=>g-(intOf m).toNat)
       .exact⟨0,_,Z,rfl,zZ,Y b⟩
       .obtain⟨a,j,zbh,rfl,p,zn⟩:=hrel;clear b zZ L;have b:=zn.out;clear zn;by_cases H:a<g
        .have zE:(a:Int)<(g:Int):=Z;refine aG (gj k a) λcI zw=>?_;refine aG (fB k g c a) λw zy=>?_;refine aG (w+1-cI) λA zU=>?_;have zW:cI<=w/\w<c:=by
          have x:=za.out.k' a H;have zau:=λzaM=>za.out.aa (a-1) zaM;rw[<-zw,<-zy];unfold gj fB;by_cases zac:a=0
          .rw[ae zac];split<;>omega
          .rw[M zac];have zaI:=zau Z;rw[show a-1+1=a from Z]at zaI;split<;>omega
         have I:ck (gj k a=cI/\fB k g c a=w/\w+1-cI=A/\cI<=w/\w<c):=⟨zw,zy,zU,zW⟩;have zbp:(cI:Int)<=(w:Int):=Z;have zaW:(w:Int)<(c:Int):=Z;refine aG (w+1) λzp zaO=>?_;have z':(w:Int)+1=(zp:Int):=Z;have zbk:(zp:Int)<=(c:Int):=Z;have za0:(cI:Int)<=(zp:Int):=Z;have zas:=Y (show zp-cI=A from Z);have zJ:=vv (b.ai 0 rfl) p.out (a:=a) H;have zc:=zJ.1;have zb:=zJ.2.1;simp only[l6,zw]at zc;simp only[l6,zy]at zb;clear zJ zw zy zU zW zaO;go_wp2_with fail
         replace b:=b.bd;refine rg [] [0,1,2,3,4,5,6,7,8,9,10,11,12,13,14] ?_;refine ax ?_;clear zc zb;have zbl:(A:Int)<=64:=by have:=I.out;omega
         rw[zas.out];go_wp2_with fail
         go_loopw [136] (λP wr=>∃(d:Nat)(j:Qad),d<=A/\P=X d/\Hid (dr j z 4 g (cq (λe=>du (l6 k (dW h f i) g c a d e)) g))/\Hid (ao [] l wr [(n,56,j),(ze,3,an .i64 c (c3 c λe=>(dW h f i e:Int)))])) (λP _=>A-(intOf P).toNat)
         .exact⟨0,j,Z,rfl,p,Y b⟩
         .obtain⟨d,zD,zbu,rfl,zl,t⟩:=hrel;clear b p;have b:=t.out;clear t;by_cases zbw:d<A
          .have zaQ:(d:Int)<(A:Int):=Z;have zF:cI+d<c:=by have:=I.out;omega
           refine aG (dW h f i (cI+d)) λzf zM=>?_;refine aG (iS (dW h f i) cI d) λzk zB=>?_;refine aG (zk+8*zf) λzh zQ=>?_;have za1:(zf:Int)<=42949672960:=by have:=zaE.out (cI+d);omega
           have za6:(zk:Int)<=343597383680*64:=by have:=zaq.out cI d;omega
           have zbm:(zk:Int)+8*(zf:Int)=(zh:Int):=Z;have zar:ck (dW h f i (cI+d)=zf/\iS (dW h f i) cI d=zk/\zk+8*zf=zh):=⟨zM,zB,zQ⟩;have zc:=b.cl 1 (cI+d) (v:=X zf) (g:=by rw[dw zF];unfold c3;rw[ae zF];show some (Value.int .i64 ((dW h f i (cI+d):Nat):Int))= _;rw[zM]);have zb:=(vv (b.ai 0 rfl) zl.out (a:=a) H).2.2;simp only[l6,M (lf a),ae,I.out.1,zB]at zb;have zan:=Y (show a*4+2<zD.size by have:=zl.out.lV;have:=zl.out.le;omega);clear zF zM zB zQ;go_wp2_with(refine b.a6 0 (X zh) (zD.setIfInBounds (a*4+2) (X zh)) ?_ (d:=a*4+2) (t:=zan.out);clear b;intro zaU b)
           have zaC:=yo (e:=a) (c:=2) (u:=l6 k (dW h f i) g c a (d+1)) (v:=X zh) zl.out H R (λe y zo=>by unfold l6;rw[M zo,M zo]) (by have x:=zar.out;unfold l6;rw[M (lf a),ae rfl,M (lf a),ae rfl,I.out.1,iS,x.1,x.2.1,x.2.2];rfl);exact⟨⟨d+1,_,Z,a8,Y zaC,Y b⟩,bF⟩
          .have zaQ:¬((d:Int)<(A:Int)):=Z;obtain rfl:A=d:=Z;go_wp2_with fail
           exact⟨⟨a+1,zD,Z,a8,Y (IT zl.out λe y=>by
            unfold l6;by_cases C:e<a
            .rw[ae C,ae Z]
            .by_cases zx:e=a
             .rw[zx,ae (m' a),M (lf a),ae rfl,I.out.1,I.out.2.1,I.out.2.2.1]
             .rw[M Z,M C,M zx];split<;>rfl),Y b⟩,bF⟩
        .have zE:¬((a:Int)<(g:Int)):=Z;obtain rfl:g=a:=Z;go_wp2_with fail
         refine lT rfl ⟨n,z,j,rfl,b.ai 0 rfl,IT p.out λe y=>by unfold rp l6;rw[ae y],b.aa,(b.n (n,_,_) (hd ..)).resolve_left U⟩
