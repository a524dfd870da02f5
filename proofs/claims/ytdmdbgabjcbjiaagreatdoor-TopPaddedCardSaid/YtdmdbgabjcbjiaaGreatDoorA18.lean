import Derived.Test.YtdmdbgabjcbjiaaGreatDoorA15
import Derived.Test.YtdmdbgabjcbjiaaGreatDoorA16
set_option maxHeartbeats 0
set_option maxRecDepth 100000
set_option linter.all false
namespace Go.Proofs.YtdmdbgabjcbjiaaGreatDoor
open Go.RowKit fD cr hs a7 _root_.Go.Proofs.Tryz
variable{h:aD}{e:List aE}{b j m:N}{s:Nat->Option Addr}{r p:Nat->Nat}{l n:af}{a k:Nat}{w:fA}{f o:Prop}{q:bX}{t:bU}{c:Nat->aK}{g:Nat->aq}{d:List e1}{i:e1}{u:aK}
theorem T4(n:N)(m:bG)(t:Nat)(L:ag n t 291 (cW m))(a g:aj)(zq:dV m.c a)(zh:ig g):Calls prog 235 #[ab t,an .i64 8 g,ap a] n λe za=>∃k:Nat,e=.returned (fm a k (fi a g))/\k<=25000/\V [] n za:=by
 have E:=Y L;have zp:=Y zq;have zb:=Y zh;have b:=ao.nil [] n;go_in;go_wp2_with(first|(refine b.aI _ (an .i64 8 g) ?_;intro B zw b)|(refine b.aI _ (ap a) ?_;intro F zA b)|(refine b.aH (fm (λ_=>0) 0 λ_=>0) x8 ?_;intro P D b))
 refine Cw ?_;clear b;intro zo f p q r b;go_wp2_with fail
 have zx:=(b.a.n f U).resolve_left U;have J:=b.a.d f U;have Q:t∉[f]:=by have:=E.out.lt;simp;omega
 have zm:B∉[f]:=λe=>J (by rw[<-df.1 e];simp);have zl:F∉[f]:=λe=>J (by rw[<-df.1 e];simp);have zt:=E.out.S b.aa U;have zn:=b.ai 2 rfl;have zr:=b.ai 1 rfl;replace b:=b.bd;refine wh (x:=[f]) [0,1,2,3,4,5,6] 6 ar ar ar rfl ?_;try simp only[ga,nth,Nat.reduceMod,Nat.reduceDiv,cz,dv,c']
 refine pk ?_;refine xd (aL:=bl m.c) (cE _) zt Q p1 rfl rfl rfl ?_;simp only[Act.put,cb,cK,cQ];refine BN (eU _) rfl rfl rfl zn zm ?_;simp only[Act.put,cb,cK,cQ];refine BN (cP _) rfl rfl rfl zr zl ?_;simp only[Act.put,cb,cK,cQ];refine ax ?_;obtain⟨zd,ze⟩:∃zk,zk=zo.drew:=⟨_,rfl⟩;rw[<-ze]at b⊢;have h:=V.refl [f] zd;refine agr [(17,.tuple #[an .i64 8 (fi a g),X 0]),(18,.agg (an .i64 8 (fi a g))),(19,.int .i64 0),(20,.agg (an .i64 8 (fi a g)))] 8 (λzi l=>∃K,av [] n l [(zi,274,an .i64 8 (fi a g)),(P,322,fm (λ_=>0) 0 λ_=>0),(F,233,ap a),(B,274,an .i64 8 g)] K λl=>c0 l f K ([]++np m.c a g)) ?_ ?_
 .repeat' (first|(refine gb (l:=7) rfl λi c=>?_;refine FV rfl (λl=>mF) (QE _ f _ _ m.c g a zp.out zb.out b.q U) ?_;rintro e s ⟨rfl,zz,I,o,C⟩;refine⟨_,rfl,c _ _ (h.same o) ?_⟩;replace h:=h.same o;replace b:=b.kJ I o C;clear c i I o C;simp only[Act.put,cb,cK,cQ])|(refine gb (l:=8) rfl λi c=>?_;go_wp2_with fail;refine c _ _ h ?_;clear c i;try simp only[Act.put,cb,cK,cQ])|(refine gb (l:=9) rfl λi c=>?_;go_wp2_with fail;refine c _ _ h ?_;clear c i;try simp only[Act.put,cb,cK,cQ])|(refine gb (l:=10) rfl λi c=>?_;refine FV rfl (λl=>mF) (aci _ (fi a g)) ?_;rintro e s ⟨rfl,j⟩;refine⟨_,rfl,c _ _ (h.ad j) ?_⟩;replace h:=h.ad j;replace b:=b.aS j;clear c i j;simp only[Act.put,cb,cK,cQ])|(refine gb (l:=11) rfl λi c=>?_;refine cw _ (an .i64 8 λ_=>0) rfl rfl nU rfl ?_;intro y s A w u;have zs:=b7 h.size u;replace b:=b.aP A w u;replace h:=h.ad w;refine c _ _ h ?_;clear c i A w u;simp only[Act.put,cb,cK,cQ])|(refine gb (l:=12) rfl λi c=>?_;refine cv (Q:=an .i64 8 (fi a g)) (eU _) (b.ai 0 rfl) tq e6 rfl rfl rfl rfl ?_;intro s H j W;replace b:=b.bk 0 H j;replace h:=h.trans j (λd zf=>.inr (by rw[df.1 zf];exact zs));refine c _ _ h ?_;clear c i H j W;try simp only[Act.put,cb,cK,cQ])|refine c8 7 [11] bm (bf.2 ⟨?_,bf.2 ⟨?_,U⟩⟩)|refine c8 8 [9,11] bm (bf.2 ⟨?_,bf.2 ⟨?_,bf.2 ⟨?_,U⟩⟩⟩)|refine c8 9 [11] bm (bf.2 ⟨?_,bf.2 ⟨?_,U⟩⟩)|refine c8 8 [11] bm (bf.2 ⟨?_,bf.2 ⟨?_,U⟩⟩)|refine c8 8 [9] bm (bf.2 ⟨?_,bf.2 ⟨?_,U⟩⟩)|refine c8 10 [11] bm (bf.2 ⟨?_,bf.2 ⟨?_,U⟩⟩)|refine c8 7 [] bm (bf.2 ⟨?_,U⟩)|refine c8 8 [] bm (bf.2 ⟨?_,U⟩)|refine c8 9 [] bm (bf.2 ⟨?_,U⟩)|refine c8 10 [] bm (bf.2 ⟨?_,U⟩)|refine c8 11 [] bm (bf.2 ⟨?_,U⟩)|refine c8 12 [] bm (bf.2 ⟨?_,U⟩)|(refine rQ bm ?_ _;exact⟨y,rfl,_,b⟩))
 rintro y zu ⟨zc,b⟩;simp only[r3,vm];try simp only[Act.put,cb,cK,cQ]
 refine aG (([]++np m.c a g).length) λk zj=>?_;have z:=Y zj;go_wp2_with fail
 replace b:=b.bd;refine rg [] [0,1,3,102,4,205] ?_;refine ax ?_;refine b.ec (by have:=YY _ f zc _ b.q;rw[z.out]at this;exact this.mono λe l x=>⟨x.1,x.2▸V.refl _ _⟩) ?_;intro zv b;simp only[az];refine agq a k (fi a g) ?_;simp only[az];refine b.dq 1 (fm a k (fi a g)) (ks _ _ _) (p7 _ _ _) ?_;intro zy b;refine ax ?_;go_wp2_with fail
 refine bB (eH rfl (ks _ _ _) (b.ai 1 rfl) rfl) ⟨k,rfl,?_,b.aa⟩;rw[<-z.out,cU];exact QD _ _ _
def Db(a:List iN)(b:Nat):Bool:=match a[b]? with
 |some .aQ=> !(hp a b).known
 |some (.aA _ _)=>(hp a b).known
 |some (.cD c)=>(hp a b).known&&(c.s==3||((hp a b).dR==-1&&oW c)||(decide (0<=(hp a b).dR)&&match a[(hp a b).dR.toNat]? with
  |some (.cD d)=>lZ d c
  |_=>false))
 |none=>true
structure lm(b:aD)(a:List aE)(e:N)(d:Nat)(f:Nat->Option Addr)(h HN:Nat->Nat):Prop where
 row:∀i c,a[i]? =some c->e.rangeAt d (i*148) (cd b c (f i) (h i) (HN i:Int)).toList
 n:a.length<=64
 z:a[0]? =some .aQ
 ja:∀i,a[i+1]? ≠some .aQ
 aQ:ho b
 ok:∀i,i<a.length->Db (a.map aE.ak) i=true
 ej:∀ja g,aE.cD ja g∈a->fI b ja false
theorem lm.S{c:Nat}(a:lm h e b c s r p)(m:V l b j)(d:c∉l):lm h e j c s r p:=⟨λk f o i n g=>by have:=a.row k f o i n g;rw[m.au (f' _ _ this) d];exact this,a.n,a.z,a.ja,a.aQ,a.ok,a.ej⟩
theorem lm.ak{d:Nat}(_:lm h e b d s r p){c:Nat}{a:aE}(f:e[c]? =some a):(e.map aE.ak)[c]? =some a.ak:=by rw[fx,f];rfl
theorem lm.lt{a:Nat}(c:lm h e b a s r p):a<b.heap.size:=by have:=c.row 0 .aQ c.z 0 (X 1) rfl;exact f' _ _ this
theorem ahk:dJ 208 (.agg (c5 b6 ⟨false,0,false,0⟩)):=dM
def vw(b:aD)(a:Nat):aD:=if a=0 then b6 else b
theorem lm.item{m:Nat}(c:lm h e b m s r p){a:Nat}(x:a<e.length){k y:Nat}(I:k≠m)(K:ag b k 208 (c5 (vw h a) (hp (e.map aE.ak) a))):Calls prog 111 #[ab k,.slice (ab m) e.length y,X a] b λu z=>u=.returned (.tuple #[.agg (vp h (gL (e.map aE.ak) a (hp (e.map aE.ak) a)).2),.bool (gL (e.map aE.ak) a (hp (e.map aE.ak) a)).2.isSome])/\ag z k 208 (c5 h (hp (e.map aE.ak) (a+1)))/\V [k] b z:=by
 obtain⟨i,j⟩:∃i,e[a]? =some i:=⟨_,cu x⟩;refine agQ b k h (vw h a) (hp (e.map aE.ak) a) (e.map aE.ak) m a e.length y i (s a) (r a) (p a) K (c.ak j) x c.n I (c.row a i j) ?_;have ok:=c.ok a x;unfold Db at ok;rw[c.ak j]at ok;have A:i≠.aQ->h=vw h a:=λu=>by unfold vw;rw[M];rintro rfl;rw[c.z]at j;exact u (mc j).symm
 cases i with
 |aQ=>exact .inl ⟨rfl,by simpa[aE.ak]using ok,c.aQ⟩
 |aA G J=>exact .inr (.inl ⟨G,J,rfl,ok,A U⟩)
 |cD l D=>
  refine .inr (.inr ⟨l,D,rfl,?_,A U,c.ej l D (bS j),?_⟩)
  .simp only[aE.ak,dB]at ok;exact ok.1
  .simp only[aE.ak,dB,k5,iz,mX]at ok;rcases ok.2 with(d|⟨t,g⟩)|⟨t,g⟩
   .exact .inl d
   .by_cases d:l.s=3
    .exact .inl d
    .exact .inr (.inl ⟨d,t,g⟩)
   .by_cases d:l.s=3
    .exact .inl d
    .obtain⟨f,n⟩:∃f:Nat,(hp (e.map aE.ak) a).dR=(f:Int):=⟨_,(kR t).symm⟩;rw[n,gx]at g;split at g
     .rename_i q B;rw[fx]at B;obtain⟨H,w,E⟩:=Option.map_eq_some_iff.1 B;cases H with
      |cD o F=>
       obtain rfl:o=q:=by simpa[aE.ak]using E
       have C:oh (e.map aE.ak) (hp (e.map aE.ak) a).dR=o:=by unfold oh;rw[n,gx,fx,w];rfl
       exact .inr (.inr ⟨d,f,o,F,s f,r f,p f,n,(e8.1 w).1,c.row f _ w,⟨by rw[n];omega,by rw[C];exact g⟩,C⟩)
      |_=>simp[aE.ak]at E
     .cases g
theorem ahl(zj:Nat)(zS:1<=zj)(u:N)(n:aD)(k:List aE)(e h o:Nat)(E:Nat->Option Addr)(J I:Nat->Nat)(zx:ag u h 35 #[.slice (ab e) k.length o])(zh:lm n k u e E J I):Tb zj prog 110 #[ab h] (λt:fA=>#[c4 n t]) (iq (k.map aE.ak) k.length) [h,e] u:=by
 intro zM L cN q zk B Q zb za;have ze:=zx.S zk U;have zd:=zh.S zk U;have zw:=B.lt _ _ _ za;have zq:h∉cN:=Q h U;have zC:e∉cN:=Q e U;refine aG (k.map aE.ak) λf H=>?_;refine aG k.length λg p=>?_;have zH:=zh.n;rw[p]at zH;rw[H,p]at zb⊢;obtain⟨z,D⟩:∃z:rD,(λm zA=>(∃v,m=.returned v)/\∃i,L i (iq f g) zA/\∀a∈i,a∈cN\/q.heap.size<=a)=z:=⟨_,rfl⟩;rw[D];refine callsIn_of_wp Tryz.func110 rfl trivial ?_ rfl;have l:¬LetsOut (bodyPost prog Tryz.f110 z):=λ⟨zJ,u,c⟩=>by have c:z .outgrown u:=c;rw[<-D]at c;obtain⟨⟨v,zD⟩,_⟩:=c;cases zD
 simp only[Tryz.ntmps110,mW,cz,dv,Nat.reduceAdd,Nat.reduceSub,Array.replicate_succ,Array.replicate_zero,List.push_toArray,List.append_toArray,cU,dZ];have b:=ao.nil [] q;refine iu ?_;refine ol l rfl ?_;go_wp2_with(first|(refine fU (T:=208) (c5 b6 ⟨false,-1,false,-1⟩) ?_)|(refine b.aH (c5 b6 ⟨false,0,false,0⟩) ahk ?_;intro j zR b)|(refine b.aN 0 (c5 b6 ⟨false,-1,false,-1⟩) (afn _ _) (afo _ _) ?_ (s:=by rw[x1,x1]);intro r b))
 have zT:q.heap.size<=j:=(b.n _ (hd ..)).resolve_left U;have zK:=ze.lt;have zV:=zd.lt;have O:j≠h:=Z;have x:j≠e:=Z;have G:j∉cN:=λc=>by have:=zw _ c;omega
 have zi:Hid (ag r j 208 (c5 (vw n 0) (hp f 0))/\L cN (iq f 0) r/\(∀a∈cN,a∈cN\/q.heap.size<=a)/\j∉cN/\ag r h 35 #[.slice (ab e) g o]/\lm n k r e E J I):=Y ⟨b.ai 0 rfl,B.aS _ _ _ _ [] za b.aa U,λ_ c=>.inl c,G,by rw[<-p];exact ze.S b.aa U,zd.S b.aa U⟩;have zO:r.cell? ⟨h,0,none⟩=some (.slice (ab e) g o):=by rw[zi.out.2.2.2.2.1.au];rfl
 gi_wp2;gi_loopw [10] (λC wr=>∃(a:Nat)(i:af),a<=g/\C=X a/\Hid (ag wr j 208 (c5 (vw n a) (hp f a))/\L i (iq f a) wr/\(∀a∈i,a∈cN\/q.heap.size<=a)/\j∉i/\ag wr h 35 #[.slice (ab e) g o]/\lm n k wr e E J I)) (λC _=>g-(intOf C).toNat)
 .exact⟨0,cN,Z,rfl,zi⟩
 .obtain⟨a,i,w,rfl,d⟩:=hrel;have zB:=Y (show wr.cell? ⟨h,0,none⟩=some (.slice (ab e) g o) by rw[d.out.2.2.2.2.1.au];rfl);by_cases zl:a<g
  .have zz:(a:Int)<(g:Int):=Z;have s:=Y (d.out.2.2.2.2.2.item (by rw[p];exact zl) x (by rw[H];exact d.out.1) (y:=o));rw[H,p]at s;have b:=ao.one d.out.1;have zo:∀a∈i,a≠h/\a≠e:=λa w=>by have:=d.out.2.2.1 a w;refine⟨λm=>?_,λm=>?_⟩<;>subst m<;>rcases this with c|c<;>first|exact absurd c zq|exact absurd c zC|omega
   have zf:=Y zo;refine iu ?_;refine ol l rfl ?_;go_wp2_with fail
   try dsimp only[Exit.then]
   refine iu ?_;refine Dc rfl ?_;refine wpIn_skip ?_;try dsimp only[Exit.then]
   refine iu ?_;refine wpIn_block ?_;refine iu ?_;refine ol l rfl ?_;go_wp2_with fail
   try dsimp only[Exit.then]
   have zW:=zB.out;rcases A:(gL f a (hp f a)).2 with _|t
   .have y:=Y A;rw[A]at s;refine iu ?_;refine ol l rfl ?_;go_wp2_with fail
    refine s.out.mono ?_;rintro m zt ⟨rfl,K,F⟩;replace b:=b.bk 0 K F;go_wp2_with(first|(refine b.aH (c4 b6 j0) nA ?_;intro G zF b)|(refine b.aN 0 (c4 b6 j0) (kg _ _) (oj _ _) ?_;intro zc b))
    try dsimp only[Exit.then]
    refine iu ?_;refine ol l rfl ?_;go_wp2_with fail
    try dsimp only[Exit.then]
    gi_wp2;go_roundw;case measure=>simp[intOf];omega
    refine⟨a+1,i,Z,a8,Y ⟨b.ai 1 rfl,?_,d.out.2.2.1,d.out.2.2.2.1,d.out.2.2.2.2.1.S b.aa (by simpa using hv O),d.out.2.2.2.2.2.S b.aa (by simpa using hv x)⟩⟩;rw[show iq f (a+1)=iq f a by rw[xY,y.out];simp];exact B.aS _ _ _ _ [j] d.out.2.1 b.aa (λa w=>T5)
   .have y:=Y A;rw[A]at s;refine iu ?_;refine ol l rfl ?_;go_wp2_with fail
    refine s.out.mono ?_;rintro m zt ⟨rfl,K,F⟩;replace b:=b.bk 0 K F;go_wp2_with(first|(refine b.aH (c4 b6 j0) nA ?_;intro G zF b)|(refine b.aN 0 (c4 n t) (kg _ _) (oj _ _) ?_ (s:=by rw[p2,p2]);intro zc b))
    try dsimp only[Exit.then]
    refine iu ?_;refine wpIn_region_lit ?_;refine afO 4 l rfl ?_;dsimp only[List.take,List.drop];go_wp2_with(refine b.ld 0 (kg _ _) ?_)
    try dsimp only[Exit.then]
    have zn:=Y (B.aS _ _ _ _ [j] d.out.2.1 b.aa (λa w=>T5));obtain⟨zQ,zL,assign,zP,zr,zG⟩:=zb i (iq f a) t zc zn.out (ae5 f zl y.out);try dsimp only at zr
    gi_wp2;refine zG.mono ?_;rintro m zI ⟨rfl,zy,zu,zp,zv⟩;have zs:=Y zu;have zm:=Y zp;have P:=Y zv;gi_wp2;have zN:=(b.ai 1 rfl).lt;have zU:=b.size;go_roundw;case measure=>simp[intOf];omega
    refine⟨a+1,zy,Z,a8,Y ⟨(b.ai 1 rfl).S P.out d.out.2.2.2.1,?_,λW zE=>(zm.out W zE).elim (λc=>d.out.2.2.1 W c) λc=>.inr ?_,λc=>(zm.out _ c).elim d.out.2.2.2.1 λc=>Z,(d.out.2.2.2.2.1.S b.aa (by simpa using hv O)).S P.out λc=>(zf.out _ c).1 rfl,(d.out.2.2.2.2.2.S b.aa (by simpa using hv x)).S P.out λc=>(zf.out _ c).2 rfl⟩⟩
    .rw[show iq f (a+1)=iq f a++[t] by rw[xY,y.out];simp];exact zs.out
    .have:=d.out.1.lt;omega
  .have zz:¬((a:Int)<(g:Int)):=Z;obtain rfl:g=a:=Z;gi_wp2;go_end0;rw[<-D];exact⟨⟨_,rfl⟩,i,d.out.2.1,d.out.2.2.1⟩
def nB:cA:=⟨[],-1,-1,false,0,0⟩
theorem ahm:dJ 153 (.agg (fZ none 0 0 ⟨[],0,0,false,0,0⟩)):=dM
theorem ahn(b:Qae)(a d:Nat)(c:cA):bT prog 153 (fZ b a d c).size:=⟨_,underlying153,rfl,ar⟩
theorem aho(b:Qae)(a d:Nat)(c:cA):(fZ b a d c).all (·.oneCell')=true:=by simp[fZ,Value.oneCell']
theorem ahp:(c4 h w)[143]? =some (.bool w.reset):=H4 6
theorem T6:(c4 h w)[144]? =some (.int .i64 w.link):=H4 7
def T7(i:aD)(a:List e1)(d:N)(g:Ending)(f:N):Prop:=∃b c e,g=.returned (.slice (ab b) a.length c)/\ag f b 113 e/\dr e c 147 a.length (cq (λh=>dc i (a.getD h j1)) a.length)/\V [] d f/\d.heap.size<=b
theorem T8{a:Prop}(b:a)(c:a->f:=by
 intro zaf;refine o7 A rfl ?_;go_wp2_with(refine dO rfl zaf (kg _ _) rfl rfl ?_)
 refine(zaj.out _ q).mono ?_;rintro p zaA ⟨rfl,zat⟩;go_wp2_with fail
 exact⟨trivial,zao.out _ zat⟩):f:=c b
theorem T9(a:f:=by
 have zaG:=Y z;rw[M yp]at C;rw[z]at s;refine o7 A rfl ?_;go_wp2_with fail
 try dsimp only[Exit.then]
 refine T' rfl ?_;refine wpIn_skip ?_;try dsimp only[Exit.then]
 clear s;rw[<-C]at q;exact T8 zk.out):f:=a
theorem Ua(a:f:=by
 try dsimp only[Exit.then]
 clear s;have q:e2 u j h zY g (p' c b):=by rw[C];exact⟨zm,zs,zP,a,B⟩
 clear a B;have zas:=Y (zh.out _ q.at.1);exact T8 zas.out):f:=a
theorem ahq(k:N)(h:aD)(o:List aE)(n zb:Nat)(I:Nat->Option Addr)(zT zR:Nat->Nat)(zE:lm h o k n I zT zR)(zZ:qa nB (iq (o.map aE.ak) o.length)=true)(O:pV (o.map aE.ak)≠[]):Calls prog 34 #[.slice (ab n) o.length zb] k (T7 h (pV (o.map aE.ak)) k):=by
 refine(callsIn_wide (n:=4)).1 ?_;obtain⟨zf,zi⟩:∃zf:rD,T7 h (pV (o.map aE.ak)) k=zf:=⟨_,rfl⟩;rw[zi];refine callsIn_of_wp_marks Tryz.func34 rfl trivial ?_ rfl;have P:¬LetsOut (bodyPostM Fence.wide 4 prog Tryz.f34 zf):=λ⟨z',i,d⟩=>by have d:zf .outgrown i:=d;rw[<-zi]at d;obtain⟨_,_,_,zav,_⟩:=d;cases zav
 simp only[Tryz.ntmps34,mW,cz,dv,Nat.reduceAdd,Nat.reduceSub,Array.replicate_succ,Array.replicate_zero,List.push_toArray,List.append_toArray,cU,dZ];have a:=ao.nil [] k;refine iu ?_;refine ol P rfl ?_;go_wp2_with fail
 try dsimp only[Exit.then]
 refine iu ?_;refine ol P rfl ?_;go_wp2_with(first|(refine fU (T:=153) (fZ none 0 0 nB) ?_)|(refine a.aH (fZ none 0 0 ⟨[],0,0,false,0,0⟩) ahm ?_;clear a;intro g zaF a)|(refine a.aN 0 (fZ none 0 0 nB) (ahn _ _ _ _) (aho _ _ _ _) ?_;clear a;intro zap a))
 try dsimp only[Exit.then]
 refine iu ?_;refine iu ?_;refine ol P rfl ?_;go_wp2_with fail
 refine(acE _ n o.length zb).mono ?_;rintro p Q ⟨t,rfl,za⟩;replace a:=a.aP (za.ai 0 rfl) za.aa ((za.n _ (hd ..)).resolve_left U);clear za;go_wp2_with fail
 try dsimp only[Exit.then]
 refine wpIn_block ?_;have zay:=zE.lt;have zaL:k.heap.size<=t:=(a.n (t,_,_) (hd ..)).resolve_left U;have zah:k.heap.size<=g:=(a.n (g,_,_) (hQ _ (hd ..))).resolve_left U;have zU:t≠g:=a.ne 0 1 rfl rfl R;have zQ:=(a.ai 0 rfl).lt;have zO:=(a.ai 1 rfl).lt;have zaM:=a.size;have zI:∀e∈g::(List.range k.heap.size).filter (λe=>e !=n),e<Q.heap.size:=λe f=>by
  rcases bu.1 f with rfl|f
  .exact zO
  .have:=fq.1 (wi.1 f).1;omega
 have zo:mO [t,n] k h g (g::(List.range k.heap.size).filter (λe=>e !=n)) Q nB:=⟨zI,λe f L=>hQ _ (wi.2 ⟨fq.2 f,by simp at L;simpa using L.2⟩),a.aa,[g],λe f=>by rw[df.1 f];exact⟨U,zah⟩,none,0,[],⟨⟨V.refl _ _,λb J=>by rw[df.1 J];exact a.ai 1 rfl,U,λb J=>.inl (by rw[df.1 J];simp)⟩,⟨U,U,U⟩,trivial,λ_ _ _ _ _ _=>trivial⟩,.inl ⟨rfl,rfl,rfl,rfl⟩⟩;have zj:=ahl 3 R Q h o n t zb I zT zR (a.ai 0 rfl) (zE.S a.aa U);have zu:∀e∈[t,n],e∉g::(List.range k.heap.size).filter (λe=>e !=n)/\e<Q.heap.size:=λe f=>by
  rcases bu.1 f with rfl|f
  .refine⟨λd=>?_,zQ⟩;rcases bu.1 d with d|d
   .exact zU d
   .have:=fq.1 (wi.1 d).1;omega
  .rw[df.1 f];refine⟨λd=>?_,Z⟩;rcases bu.1 d with d|d
   .omega
   .simpa using(wi.1 d).2
 have zd:=Y zZ;have zp:=Y O;clear zZ O zI zE zU zQ zO;refine agG (J:=4) (u:=[t,n]) (O:=iq (o.map aE.ak) o.length) (za:=λzar:fA=>#[c4 h zar]) (I:=110) (Q:=#[ab t]) (cN:=g::(List.range k.heap.size).filter (λe=>e !=n)) (s:=λx y G=>mO [t,n] k h g x G (y.foldl cA.step nB)) (zm:=λb zF x y G=>∃m,CS [t,n] k h g b m x G (y.foldl cA.step nB)/\zF={tmps:=#[.slice (ab n) o.length zb,undef,.slice none 0 0,ab g,ab m,fZ none 0 0 nB,.slice (ab n) o.length zb,.func (.func 110) #[] #[ab t],c4 h b,undef,undef,undef,undef,undef,undef,undef,undef,undef,undef,undef,undef,undef,undef,undef,undef,undef],defers:=[]}) R rfl (enters_of Tryz.func110 ar rfl) (λ_=>rfl) (mO.ok _ _ _ _ _) (λb zF=>⟨λx y G zaE zL d ze zC=>?_,λx y G d=>?_⟩) zu zo zj ?_ ?_ ?_
 .obtain⟨m,zv,z6⟩:=d;exact⟨m,zv.aS ze zC,z6⟩
 .obtain⟨m,⟨zH,rfl,zv,z6,za,zaw⟩,_⟩:=d;intro e f;rcases bu.1 f with rfl|f
  .exact zaw.lt
  .exact zv.1 e f
 .intro l x y b j K r _ zac;clear zo zj zu zd zp a;have a:=ao.nil [] j;simp only[List.zip_toArray,List.zip_cons_cons,List.zip_nil_right,List.foldl_toArray,r3,vm,Array.setIfInBounds,mW];refine o7 (λ⟨_,_,d⟩=>d) rfl ?_;go_wp2_with(first|(refine a.aH (c4 b6 j0) nA ?_;clear a;intro m zt a)|(refine a.aN 0 (c4 h b) (kg _ _) (oj _ _) ?_ (s:=by rw[p2,p2]);clear a;intro zy a))
  have zM:j.heap.size<=m:=(a.n _ (hd ..)).resolve_left U;refine zac _ _ (m::x) ⟨m,⟨x,rfl,r.aS a.aa U,λd=>?_,b7 r.2.2.1.size zM,a.ai 0 rfl⟩,rfl⟩ (λe f=>?_) (a.aa.mono U)
  .have:=r.1 _ d;omega
  .rcases bu.1 f with rfl|f
   .exact .inr zM
   .exact .inl f
 .rintro l x y b zF j ⟨m,⟨zH,rfl,r,zN,zaH,zW⟩,rfl⟩ zV;have F:=Td zd.out zV.choose_spec;clear zo zj zu zd zp a;refine aG (y.foldl cA.step nB) λc ak=>?_;rw[ak]at r F;obtain⟨u,H,q⟩:=r.2.2.2;have zaz:=Y r;have zaI:=Y H;have zh:=Y λi(ze:V u j i)=>show ag i m 158 (c4 h b)from zW.S ze λd=>zN (H _ d).1;have zK:=Y λi(d:e2 u j h i g (c.step b))=>show Exit.normal=Exit.normal/\∃zq,mO [t,n] k h g zq i ((y++[b]).foldl cA.step nB)/\(∀e∈zq,e∈m::zH\/j.heap.size<=e)/\V (m::zH) j i by obtain⟨zq,C,zak,zad⟩:=r.next H d;refine⟨rfl,zq,?_,λe f=>(zak e f).imp (λd=>nj) id,zad.mono λe f=>jT⟩;rw[Ay,ak];exact C
  have z8:=Y F;clear r H zW zN ak zV F;obtain⟨W,zz⟩:∃W:bU,(λi=>e2 u j h i g (c.step b))=W:=⟨_,rfl⟩;refine wpIn_mono (Q:=λp _ i=>p=.normal/\W i) ?_ (λp z' i d=>by obtain⟨rfl,d⟩:=d;rw[<-zz]at d;exact zK.out i d);clear zK;have zao:=Y λi(d:e2 u j h i g (c.step b))=>show W i by rw[<-zz];exact d
  have A:¬LetsOut (λ(p:Exit)(_:Act)(i:N)=>p=.normal/\W i):=λ⟨_,_,d⟩=>by cases d.1
  clear zz;refine wpIn_block ?_;refine iu ?_;refine iu ?_;have zab:=Y (zh.out _ (V.refl _ _));have s:j.cell? ⟨m,143,none⟩=some (.bool b.reset):=by rw[zab.out.au];exact ahp
  refine o7 A rfl ?_;go_wp2_with fail
  clear s;try dsimp only[Exit.then]
  have zaj:=Y λi(d:e2 u j h i g (p' c b))=>show Calls prog 68 #[ab g,c4 h b] i λp G=>p=.returned (.tuple #[])/\e2 u j h G g (c.step b) by obtain⟨ze,zL,zC,zal⟩:=d.at;refine(agI i zL h g (p' c b) b zal z8.out.2).mono ?_;rintro p zaJ ⟨rfl,zau⟩;exact⟨rfl,zau.back ze zC⟩
  by_cases E:b.reset=true
  .have zx:=Y (Tf j u h g c q z8.out.1);have zaB:=Y E;have C:p' c b=if b.link≠-1 then{ {c.flush with ed:=-1,b1:=-1,link:=0}with link:=b.link}else{c.flush with ed:=-1,b1:=-1,link:=0}:=by unfold p';rw[ae E]
   rw[E];clear q;refine Dc rfl ?_;refine iu ?_;refine o7 A rfl ?_;go_wp2_with fail
   refine zx.out.mono ?_;rintro p zap ⟨rfl,zc,s,zS,a,B⟩;go_wp2_with fail
   try dsimp only[Exit.then]
   refine o7 A rfl ?_;go_wp2_with(first|(refine a.a6 0 (X (-1)) (fZ zc c.flush.es.length s {c.flush with ed:=-1}) ?_ (d:=1);clear a;intro Q a)|(refine a.a6 0 (X (-1)) (fZ zc c.flush.es.length s {c.flush with ed:=-1,b1:=-1}) ?_ (d:=2);clear a;intro zt a)|(refine a.a6 0 (X 0) (fZ zc c.flush.es.length s {c.flush with ed:=-1,b1:=-1,link:=0}) ?_ (d:=4);clear a;intro zy a))
   have q:e2 u j h zy g {c.flush with ed:=-1,b1:=-1,link:=0}:=⟨zc,s,zS,a,B⟩;clear a B;try dsimp only[Exit.then]
   refine iu ?_;refine iu ?_;have zk:=Y (zh.out _ q.at.1);have s:zy.cell? ⟨m,144,none⟩=some (.int .i64 b.link):=by rw[zk.out.au];exact T6
   by_cases z:b.link=-1
   .exact T9
   .have zan:(b.link !=-1)=true:=yp;rw[ae z]at C;refine o7 A rfl ?_;go_wp2_with fail
    try dsimp only[Exit.then]
    refine Dc rfl ?_;obtain⟨zm,zs,zP,a,B⟩:=q;refine o7 A rfl ?_;go_wp2_with(refine a.a6 0 (X b.link) (fZ zm {c.flush with ed:=-1,b1:=-1,link:=0}.es.length zs { {c.flush with ed:=-1,b1:=-1,link:=0}with link:=b.link}) ?_ (d:=4);clear a;intro zY a)
    exact Ua
  .have E:b.reset=false:=by simpa using E
   have C:p' c b=if b.link≠-1 then{c with link:=b.link}else c:=by unfold p';rw[E];rfl
   rw[E];refine T' rfl ?_;refine wpIn_skip ?_;try dsimp only[Exit.then]
   refine iu ?_;refine iu ?_;have zk:=Y (zh.out _ q.at.1);have s:j.cell? ⟨m,144,none⟩=some (.int .i64 b.link):=by rw[zk.out.au];exact T6
   by_cases z:b.link=-1
   .exact T9
   .have zan:(b.link !=-1)=true:=yp;rw[ae z]at C;refine o7 A rfl ?_;go_wp2_with fail
    try dsimp only[Exit.then]
    refine Dc rfl ?_;obtain⟨zm,zs,zP,a,B⟩:=q;refine o7 A rfl ?_;go_wp2_with(refine a.a6 0 (X b.link) (fZ zm c.es.length zs {c with link:=b.link}) ?_ (d:=4);clear a;intro zY a)
    exact Ua
 .intro D x j zaC r zA;have F:=Te zd.out;refine aG ((iq (o.map aE.ak) o.length).foldl cA.step nB) λc ak=>?_;have zX:pV (o.map aE.ak)=c.flush.es:=by unfold pV;rw[ju,ae6];exact aX (λc:cA=>c.flush.es) ak
  have O:=zp.out;rw[zX]at zi O;rw[ak]at r F;obtain⟨u,H,I,zD,zB,zl,fp⟩:=r.2.2.2;have z7:∀e∈(((g,153,fZ I c.es.length zD c)::zB).map (·.1))++[],e≠D/\k.heap.size<=e:=λe f=>by
   rw[eG]at f;obtain⟨b,J,rfl⟩:=ca.1 f;have w:=zl.h.b b J;refine⟨λp=>?_,?_⟩
   .unfold ag at w;rw[p,zA]at w;cases w
   .rcases zl.h.n b J with d|d
    .exact(H _ d).2
    .exact absurd w.lt Z
  have q:e2 ((((g,153,fZ I c.es.length zD c)::zB).map (·.1))++[]) j h j g c:=⟨I,zD,zB,zl.CL,fp⟩;have zx:=Y (Tf j _ h g c q F);have zJ:=Y r.2.2.1;have zw:=Y z7;have z1:=Y zA;have zae:k.heap.size<=D:=Z;have zam:=Y O;clear q zo zj zu zd zp F ak zX zl fp H r z7 zA O a;try dsimp only[Exit.inBlock,Exit.then]
  refine iu ?_;refine ol P rfl ?_;go_wp2_with fail
  refine zx.out.mono ?_;rintro p zt ⟨rfl,zc,s,zS,a,B⟩;go_wp2_with fail
  try dsimp only[Exit.then]
  refine iu ?_;refine aG c.flush.es.length λzaK L=>?_;have zG:=Y L;rw[L]at a B;clear L;have zaD:=a.ah 0 0;refine ol P rfl ?_;go_wp2_with fail
  try dsimp only[Exit.then]
  refine wpIn_ret ?_;have zai:D<j.heap.size:=(ht.1 z1.out).1;have zr:zt.heap[D]? =some (.deferred (some [])):=by rw[a.aa.block D zai λd=>(zw.out D d).1 rfl];exact z1.out
  refine⟨U,.inl ⟨_,_,rfl,run_takeDeferred zr,?_⟩⟩;refine⟨_,results_tmp rfl _ _ _,?_⟩;rw[<-zi];rcases B with⟨p,_⟩|⟨zn,zag,rfl,rfl,zax⟩
  .exact absurd (mb (zG.out.trans p)) zam.out
  .have w:=a.ai 1 rfl;have zaa:V [] k zt:=zJ.out.trans a.aa λe f=>.inr (zw.out e f).2;have zaq:k.heap.size<=zn:=by
    rcases a.h.n (zn,_,_) (hQ _ (hd ..))with d|d
    .exact(zw.out zn d).2
    .exact b7 zJ.out.size d
   refine⟨zn,s,zag,by rw[zG.out];rfl,w.S (x9 zr) (λd=>?_),by rw[zG.out];exact zax,zaa.trans (x9 zr) λe f=>.inr (by rw[df.1 f];exact zae),zaq⟩;rw[df.1 d]at w;unfold ag at w;rw[zr]at w;cases w
def eR:aq:=⟨0,0,[],[],[]⟩
def cN:aK:=⟨none,none,none,0,0,0⟩
theorem Dd(a:N):aT a eR cN:=⟨aF.none_,aF.none_,aF.none_,a' _,a' _,a' _⟩
theorem Ub:dJ 131 (.agg (bI ⟨eR,eR,eR⟩ ⟨cN,cN,cN⟩)):=dM
def De(d:N)(i:aD)(e:Bool)(h:Qad)(b:cS)(c:dP)(g:aq)(f:Nat):Prop:=∀a,V [] d a->hJ a b c->Calls prog 70 #[ay i,h,bI b c,.bool e] a (Tk g f a)
theorem av.Uc{h:aq}{e:aK}{d:Nat}(s:av l m b q n t)(g:V [] b j)(f:aT j h e)(r:aF j (some ⟨d,0,none⟩) 1 k (List.replicate k (.bool true)))(A:h.Ok)(y:0<k)(B:∀a∈bg e,b.heap.size<=a)(u:b.heap.size<=d):av l m j q (n++(d::bg e)) (λb=>t b/\(aF b (some ⟨d,0,none⟩) 1 k (List.replicate k (.bool true))/\aT b h e))/\∀a∈d::bg e,b.heap.size<=a/\a<j.heap.size:=by
 have w:d<j.heap.size:=r.lt R y _ rfl;have p:∀a∈d::bg e,b.heap.size<=a:=λa c=>by
  rcases bu.1 c with rfl|c
  .exact u
  .exact B a c
 have o:∀a∈d::bg e,a<j.heap.size:=λa c=>by
  rcases bu.1 c with rfl|c
  .exact w
  .exact f.fv A a c
 exact⟨s.plus g p o ⟨r,f⟩ λ_ _ _ g i f=>⟨f.1.S g (λ_ C x z=>by cases x;exact i _ (hd ..) z),f.2.S g λa c=>i a (hQ _ c)⟩,λa c=>⟨p a c,o a c⟩⟩
def vx(c:aq)(b:N)(e:Ending)(d:N):Prop:=∃a,e=.returned (.tuple #[al c a,.bool true,X 0])/\aT d c a/\V [] b d/\∀f∈bg a,b.heap.size<=f
theorem ahr(a:f:=by have:=H _ j;have:=(by simp only[lq,bu]at zU;exact zU _ (.inl rfl):zr<zL.heap.size\/zJ.heap.size<=zr);omega):f:=a
theorem ahs(a:o)(b:o->f:=by intro zao;have J:=Y (zI.out _ b.aa);refine yq λm o y=>?_;replace b:=b.bd;refine rg [10] [0,1,2,3,4,105,6,7,308,309,410,211,12,13] ?_;refine b.fw 4 (cH _) ?_;refine jL ?_;refine iR J.out lu ?_;refine ax ?_;revert J m o y b;exact zao):f:=b a
theorem Ud(a:o)(b:cZ o->f:=by
 intro zap;replace b:=b.aS zH;refine⟨_,rfl,zx,?_⟩;have H:=av.Uc b zx ze zh s.out.1 zw.out zK za;replace b:=H.1;replace H:=H.2;refine ax ?_;refine lO _ eh rfl bY rfl ?_;refine G1 λzr zV z7 z6 zU zz=>?_;have zM:zr∉_++(zd::bg i):=λj=>(bc.1 j).elim (λj=>by have:=y _ j;omega) λj=>by exact ahr
 replace b:=b.hE z6 z7 (m.off zz) zM (b7 o zz);clear z6 z7 zU zM;revert H zr zV zz b;exact zap.out):f:=b ⟨a⟩
theorem Ue(a:o)(b:o->f:=by intro zaq;replace b:=av.jh b;refine ahs ?_;clear b;intro J m o y b;refine n3 rfl (λe=>mF) (λv k=>zG.out _ (b.aS k).aa ((zi.out _ (b.aS k).aa))) ?_;revert J m o y b;exact zaq):f:=b a
theorem aht(a:N)(h:aD)(u D:Nat)(r:bx)(w:Qae)(j x:Nat)(c n t:aq)(l g:aK)(q:Nat)(I:fI h r false)(C:r.s=3)(A:a.rangeAt u (0*8) (ct r w j x).toList)(E:aT a c l)(G:aT a n g)(F:De a h false (ct r w j x) ⟨c,n,eR⟩ ⟨l,g,cN⟩ t q)(B:t.Ok)(z:1<=q/\q<=64):Calls prog 36 #[ay h,.slice (ab u) 1 D,al c l,al n g] a (vx t a):=by
 have zI:=Y λe(p:V [] a e)=>show e.rangeAt u (0*8+0) (ct r w j x).toList from iM A p;have K:=Y λe(p:V [] a e)=>Ty e h u 1 D (λ_=>r) (λ_=>w) (λ_=>j) (λ_=>x) (λ_ _=>I) (λd f=>by rw[show d=0 from Z];exact iM A p) (.inl ⟨rfl,C⟩);have zG:=Y F;have zi:=Y λe(p:V [] a e)=>show hJ e ⟨c,n,eR⟩ ⟨l,g,cN⟩from⟨E.ad p,G.ad p,Dd _⟩;have s:=Y (And.intro B B);have zw:ck (0<q):=z.1;have L:=Y z.2;clear A I C F E G B z;have b:=ao.nil [] a;go_in;go_wp2_with(first|(refine b.aI _ (ay h) ?_;clear b;intro zl zk b)|(refine b.aI _ (al c l) ?_;clear b;intro zp zm b)|(refine b.aI _ (al n g) ?_;clear b;intro P Q b)|(refine b.aH eh bY ?_;clear b;intro zf zo b)|(refine b.ld 3 (cH _) ?_))
 refine b.aW (K.out _ b.aa) ?_;clear b;intro W b;go_wp2_with(first|(refine b.ld 2 aB ?_)|(refine b.ld 1 aB ?_)|(refine fU (T:=131) (bI ⟨c,n,eR⟩ ⟨l,g,cN⟩) ?_)|(refine b.aH (bI ⟨eR,eR,eR⟩ ⟨cN,cN,cN⟩) Ub ?_;clear b;intro zn zb b)|(refine b.aN 0 (bI ⟨c,n,eR⟩ ⟨l,g,cN⟩) (lr _ _) (OU _ _) ?_;clear b;intro zaR b))
 refine Ue ?_;clear b;intro J m o y b;rintro zL zH zc zJ ⟨i,zd,rfl,ze,zh,zx,zK,za⟩;refine Ud ?_;clear b zh za ze;intro H zr zV zz b;refine b.dq 0 (al t i) aB (bo _ _) ?_;clear b;intro zj b;refine ax ?_;go_wp2_with fail
 replace b:=b.bd;refine rg [] [0,1,102,203,4,5] ?_;refine ax ?_;refine b.ec (HO _ zd q q L.out b.q.2.1) ?_;clear b;intro O b;simp only[az];refine b.dq 2 (al t i) aB (bo _ _) ?_;clear b;intro zq b;refine ax ?_;go_wp2_with fail
 refine bB (CT rfl aB (b.ai 2 rfl) rfl) ⟨i,rfl,b.q.2.2,b.aa,λd f=>(b.a.n d jT).resolve_left U⟩
theorem av.two{f h:Nat}{i k:Qat}{o g:Qad}(a:av l m b q n t)(c:Be b i k o g f h j):av l m j ((f,i,o)::(h,k,g)::q) n t:=⟨a.h.two c,⟨λd e=>by have p:=a.a.d d e;have r:=a.a.l d e;have u:=c.MD;have s:=c.ME;simp only[cj,bu,kd];exact⟨Z,Z,p⟩,a.a.n,λd e=>gD (a.a.l d e) c.aa.size⟩,a.s _ _ _ c.aa U a.q,a.s⟩
theorem ahu{g:Qav}{o:Region.Mode}{p:Qak}{bV:af}{j:N}{f:Qab}{t:Nat}{e:Qaq}{a:Act}{d:bU}(y:av l m b q n d)(k:bX)(h s:Tmp)(r i:Qas)(w:hx g o p bV j (λx c=>x=(a.put (some h) r).put (some s) i/\av l m c k n d) t e a b)(u:∀c,av l m c k n d->f ((a.put (some h) r).put (some s) i) c):hx g o p bV j f t e a b:=Ym _ u w
theorem Uf(a:f:=by
 clear b;intro zaS b;refine ax ?_;go_wp2_with fail
 refine bB (CT rfl aB (b.ai 5 rfl) rfl) ⟨_,rfl,?_,b.aa,λd f=>(b.a.n d jT).resolve_left U⟩;exact b.q.2):f:=a
theorem Ug(a:o)(b:o->f:=by intro zax;replace b:=b.bd;refine rg [] [0,1,102,3,4,105,306,207,8,9] ?_;refine ax ?_;refine b.ec (HO _ zd D D zak.out b.q.1.1.2.1) ?_;clear b;intro zZ b;refine ax ?_;refine b.ec (HO _ zY D D zak.out b.q.1.2.1) ?_;clear b;intro zan b;refine ax ?_;revert zZ zan b;exact zax):f:=b a
theorem ahv(p:N)(h:aD)(I zQ:Nat)(r K:bx)(zm zn:Qae)(zv zk zp zu:Nat)(t B a c:aq)(A w:aK)(D:Nat)(zac:fI h r false)(zai:fI h K false)(zaj:oW r=true)(zag:lZ r K=true)(zs:p.rangeAt I (0*8) (ct r zm zv zk).toList)(zF:p.rangeAt I (1*8) (ct K zn zp zu).toList)(zW:aT p t A)(z':aT p B w)(z8:De p h false (ct r zm zv zk) ⟨t,B,eR⟩ ⟨A,w,cN⟩ a D)(zT:∀zaE,De p h true (ct K zn zp zu) ⟨t,B,a⟩ ⟨A,w,zaE⟩ c D)(zO:a.Ok)(zab:c.Ok)(zaa:c.w=a.w/\c.h=a.h/\a.h<=32)(zE:1<=D/\D<=64):Calls prog 36 #[ay h,.slice (ab I) 2 zQ,al t A,al B w] p (vx (if r.s=2 then gH c a else gH a c) p):=by
 have zI:=Y λe(u:V [] p e)=>show e.rangeAt I (0*8+0) (ct r zm zv zk).toList from iM zs u;have zaL:=Y λe(u:V [] p e)=>show e.rangeAt I (1*8) (ct K zn zp zu).toList from iM zF u;have zat:=Y λe(u:V [] p e)=>show e.cell? ⟨I,1,none⟩=some (.int .i64 r.s)from iM zs u 1 _ rfl;have zav:=Y λe(u:V [] p e)=>Ty e h I 2 zQ (λd=>if d=0 then r else K) (λd=>if d=0 then zm else zn) (λd=>if d=0 then zv else zp) (λd=>if d=0 then zk else zu) (λd f=>by
  rcases(show d=0\/d=1 from Z)with rfl|rfl
  .exact zac
  .exact zai) (λd f=>by
  rcases(show d=0\/d=1 from Z)with rfl|rfl
  .exact iM zs u
  .exact iM zF u) (.inr ⟨rfl,zaj,zag⟩)
 have zG:=Y z8;have zaH:=Y zT;have zi:=Y λe(u:V [] p e)=>show hJ e ⟨t,B,eR⟩ ⟨A,w,cN⟩from⟨zW.ad u,z'.ad u,Dd _⟩;have s:=Y (And.intro zO zab);have q:=Y (And.intro trivial zaa);have zw:ck (0<D):=zE.1;have zak:=Y zE.2;refine aG ((if r.s=2 then gH c a else gH a c)) λzR zB=>?_;rw[zB];have zj:=Y zB;clear zB zs zF zac zai zaj zag z8 zT zW z' zO zab zaa zE;have b:=ao.nil [] p;go_in;go_wp2_with(first|(refine b.aI _ (ay h) ?_;clear b;intro zaC za3 b)|(refine b.aI _ (al t A) ?_;clear b;intro zaM za4 b)|(refine b.aI _ (al B w) ?_;clear b;intro zas zaU b)|(refine b.aH eh bY ?_;clear b;intro zay zbb b)|(refine b.ld 3 (cH _) ?_))
 refine b.aW (zav.out _ b.aa) ?_;clear b;intro zaW b;go_wp2_with(first|(refine b.ld 2 aB ?_)|(refine b.ld 1 aB ?_)|(refine fU (T:=131) (bI ⟨t,B,eR⟩ ⟨A,w,cN⟩) ?_)|(refine b.aH (bI ⟨eR,eR,eR⟩ ⟨cN,cN,cN⟩) Ub ?_;clear b;intro zaJ zaX b)|(refine b.aN 0 (bI ⟨t,B,eR⟩ ⟨A,w,cN⟩) (lr _ _) (OU _ _) ?_;clear b;intro zaR b))
 refine Ue ?_;clear b;intro J m o y b;rintro zL zH zD zJ ⟨i,zd,rfl,ze,zh,zx,zK,za⟩;refine Ud ?_;clear b zh za ze;intro H zr zV zz b;refine b.dq 0 (al a i) aB (bo _ _) ?_;clear b;intro zaZ b;refine ax ?_;go_wp2_with(first|(refine b.ld 0 aB ?_)|(refine b.stM 1 (al a i) (bI ⟨t,B,a⟩ ⟨A,w,i⟩) aB (bo _ _) ?_ (d:=10) (t:=by rfl);clear b;intro zar b))
 have zaI:=Y (zaL.out _ b.aa);refine yq λm o y=>?_;replace b:=b.bd;refine rg [10] [0,1,2,3,4,105,6,7,308,309,410,211,12,13] ?_;refine b.fw 5 (cH _) ?_;refine jL ?_;refine iR zaI.out lu ?_;refine ax ?_;refine n3 rfl (λe=>mF) (λv k=>(zaH.out i) _ (b.aS k).aa ⟨(zi.out _ (b.aS k).aa).bp,(zi.out _ (b.aS k).aa).bP,(b.aS k).q.2.2⟩) ?_;rintro zaB zaD zD zaN ⟨z,zY,rfl,zS,zae,zP,zaA,zal⟩;replace b:=b.aS zaD;refine⟨_,rfl,zP,?_⟩;have zq:=av.Uc b zP zS zae s.out.2 zw.out zaA zal;replace b:=zq.1;replace zq:=zq.2;refine uH λzo zaO zN zX zt=>?_;have zam:=km zt (za:=zar.heap.size) U;simp only[az];have zah:zo∉_++(zY::bg z):=λj=>(bc.1 j).elim (λj=>by have:=y _ j;omega) λj=>by have:=zq _ j;have:=(by simp only[lq,bu]at zt;exact zt _ (.inl rfl):zo<zaB.heap.size\/zaN.heap.size<=zo);omega
 replace b:=b.hE zX zN (m.off zam) zah (b7 o zam);clear zX zN zt zah zae zal zS;refine b.dq 0 (al c z) aB (bo _ _) ?_;clear b;intro zaF b;refine ax ?_;go_wp2_with fail
 replace b:=b.bd;refine wh (x:=[]) [0,1] 4 ar ar ar rfl ?_;simp only[ga,nth,Nat.reduceMod,Nat.reduceDiv,cz,dv,c'];refine ax ?_;have n:=V.refl [] zaF.drew;refine w0 17 18 71 71 (al a i) (al c z) (λzaw zau zaT C=>?_) ?_;rotate_left;repeat' (first|(refine gb (l:=2) rfl λl g=>?_;(try have zaY:=F.lt);have za7:=n.size;refine cw _ eh rfl rfl bY rfl ?_;intro aA L E x za2;(try replace F:=F.S x U);replace n:=n.ad x;refine g _ _ n ?_;clear g l;simp only[Act.put,cb,cK,cQ])|(refine gb (l:=3) rfl λl g=>?_;(try have za5:=E.lt);have zaV:=n.size;refine cw _ eh rfl rfl bY rfl ?_;intro zaG L F x za0;(try replace E:=E.S x U);replace n:=n.ad x;refine g _ _ n ?_;clear g l;simp only[Act.put,cb,cK,cQ])|(refine gb (l:=4) rfl λl g=>?_;refine cv (Q:=al a i) aB E rfl (bo _ _) rfl rfl rfl rfl ?_;intro L (Q:ag _ _ _ (al a i)) x zaz;replace n:=n.own x Z;(try replace F:=F.S x aw);replace E:=Q;clear Q;refine g _ _ n ?_;clear g l;try simp only[Act.put,cb,cK,cQ])|(refine gb (l:=5) rfl λl g=>?_;refine cv (Q:=al c z) aB F rfl (bo _ _) rfl rfl rfl rfl ?_;intro L (Q:ag _ _ _ (al c z)) x zaz;replace n:=n.own x Z;(try replace E:=E.S x aw);replace F:=Q;clear Q;refine g _ _ n ?_;clear g l;try simp only[Act.put,cb,cK,cQ])|refine c8 2 [3] bm (bf.2 ⟨?_,bf.2 ⟨?_,U⟩⟩)|refine c8 2 [5] bm (bf.2 ⟨?_,bf.2 ⟨?_,U⟩⟩)|refine c8 3 [4] bm (bf.2 ⟨?_,bf.2 ⟨?_,U⟩⟩)|refine c8 4 [5] bm (bf.2 ⟨?_,bf.2 ⟨?_,U⟩⟩)|refine c8 2 [] bm (bf.2 ⟨?_,U⟩)|refine c8 3 [] bm (bf.2 ⟨?_,U⟩)|refine c8 4 [] bm (bf.2 ⟨?_,U⟩)|refine c8 5 [] bm (bf.2 ⟨?_,U⟩)|(refine rQ bm ?_ _;exact⟨aA,zaG,⟨E,F,n,Z,Z,Z⟩,rfl⟩))
 try simp only[Act.put,cb,cK,cQ]
 replace b:=b.two C;clear C;have z1:=zat.out _ b.aa;by_cases zl:r.s=2
 .rw[zl]at z1;obtain rfl:gH c a=zR:=by rw[<-zj.out,ae zl]
  clear zj;have zC:=wY s.out.2 s.out.1 q.out.2.1.symm q.out.2.2.1.symm (by rw[q.out.2.2.1];exact q.out.2.2.2);go_wp2_with fail
  clear z1;replace b:=b.bd;refine Au [] [0,1,2,3] 4 ar ar ar ar rfl ?_;refine ax ?_;refine ahu b [(zaw,71,al c z),(zau,71,al a i),(zo,71,al c z),(zr,71,al a i),(zaJ,131,bI ⟨t,B,a⟩ ⟨A,w,i⟩),(zay,71,eh),(zas,71,al B w),(zaM,71,al t A),(zaC,26,ay h)] 71 72 (al c z) (al a i) ?_ ?_
  .repeat' (first|(refine nN (l:=0) rfl λl g=>?_;refine b.ld 2 aB ?_;refine g _ _ (λk=>absurd U k) ?_;clear g l;try simp only[az])|(refine nN (l:=1) rfl λl g=>?_;refine b.ld 3 aB ?_;refine g _ _ (λk=>absurd U k) ?_;clear g l;try simp only[az])|(refine nN (l:=2) rfl λl g=>?_;refine b.aN 0 (al c z) aB (bo _ _) ?_;clear b;intro L b;refine g _ _ (λk=>absurd U k) ?_;clear g l;try simp only[az])|(refine nN (l:=3) rfl λl g=>?_;refine b.aN 1 (al a i) aB (bo _ _) ?_;clear b;intro L b;refine g _ _ (λk=>absurd U k) ?_;clear g l;try simp only[az])|refine jt 0 [1] bm (bf.2 ⟨?_,bf.2 ⟨?_,U⟩⟩)|refine jt 1 [2] bm (bf.2 ⟨?_,bf.2 ⟨?_,U⟩⟩)|refine jt 1 [3] bm (bf.2 ⟨?_,bf.2 ⟨?_,U⟩⟩)|refine jt 2 [3] bm (bf.2 ⟨?_,bf.2 ⟨?_,U⟩⟩)|refine jt 0 [3] bm (bf.2 ⟨?_,bf.2 ⟨?_,U⟩⟩)|refine jt 0 [2] bm (bf.2 ⟨?_,bf.2 ⟨?_,U⟩⟩)|refine jt 0 [] bm (bf.2 ⟨?_,U⟩)|refine jt 1 [] bm (bf.2 ⟨?_,U⟩)|refine jt 2 [] bm (bf.2 ⟨?_,U⟩)|refine jt 3 [] bm (bf.2 ⟨?_,U⟩)|(refine tC bm ?_ _;exact⟨rfl,b⟩))
  clear b;intro zb b;try simp only[az]
  go_wp2_with(first|(refine b.ld 0 aB ?_)|(refine b.ld 1 aB ?_))
  refine(wZ _ c a z i s.out.2 s.out.1 q.out.2.1.symm q.out.2.2.1.symm (by rw[q.out.2.2.1];exact q.out.2.2.2) b.q.2.2 b.q.1.2.2).mono ?_;rintro zD zaP ⟨P,O,W,rfl,C⟩;have zaf:=b.j5 C.S C.is zC (C.ge);replace b:=zaf;clear zaf;go_wp2_with(refine b.aN 3 (al (gH c a) (bb (gH c a) P O W)) aB (bo _ _) ?_;clear b;intro zbc b)
  go_wp2_with fail
  refine Ug ?_;clear b;intro zZ zan b;refine b.dq 5 (al (gH c a) (bb (gH c a) P O W)) aB (bo _ _) ?_;exact Uf
 .have za8:(r.s==2)=false:=by simpa using zl
  obtain rfl:gH a c=zR:=by rw[<-zj.out,M zl]
  clear zj;have zC:=wY s.out.1 s.out.2 q.out.2.1 q.out.2.2.1 q.out.2.2.2;go_wp2_with(first|(refine b.ld 0 aB ?_)|(refine b.ld 1 aB ?_))
  refine(wZ _ a c i z s.out.1 s.out.2 q.out.2.1 q.out.2.2.1 q.out.2.2.2 b.q.1.2.2 b.q.2.2).mono ?_;rintro zD za9 ⟨P,O,W,rfl,C⟩;have zad:=b.j5 C.S C.is zC (C.ge);replace b:=zad;clear zad;go_wp2_with(refine b.aN 3 (al (gH a c) (bb (gH a c) P O W)) aB (bo _ _) ?_;clear b;intro za6 b)
  go_wp2_with fail
  refine Ug ?_;clear b;intro zba za1 b;refine b.dq 5 (al (gH a c) (bb (gH a c) P O W)) aB (bo _ _) ?_;exact Uf
def fM(b:aq)(a:aK)(d h f:Int)(e:Bool)(c:Int)(g:Bool):Qad:=#[X (b.w:Int),X (b.h:Int),.slice a.a b.y.length a.cJ,.slice a.b b.u.length a.cT,.slice a.c b.v.length a.cm,X d,X h,X f,.bool e,X c,.bool g]
theorem pa(aL:Qad)(a:aL.size=11):bT prog 73 aL.size:=by rw[a];exact⟨_,underlying73,rfl,ar⟩
theorem Df:dJ 73 (.agg (fM eR cN 0 0 0 false 0 false)):=dM
theorem sW(f:aq)(e:aK)(b h d:Int)(c:Bool)(a:Int)(g:Bool):(fM f e b h d c a g).all (·.oneCell')=true:=by simp[fM,Value.oneCell']
theorem ahw(b:N)(c f:Qas):Calls prog 35 #[X (-1),c,f] b λd e=>d=.returned (fM eR cN 0 0 0 false 0 false)/\V [] b e:=by
 have a:=ao.nil [] b;go_in;go_wp2_with(first|(refine a.aH (fM eR cN 0 0 0 false 0 false) Df ?_;intro g i a)|(refine fU (T:=73) (fM eR cN 0 0 0 false 0 false) ?_)|(refine a.aN 0 (fM eR cN 0 0 0 false 0 false) (pa _ rfl) (sW _ _ _ _ _ _ _ _) ?_;intro h a))
 exact bB (eH rfl (pa _ rfl) (a.ai 0 rfl) rfl) ⟨rfl,a.aa⟩
theorem ahx(c:N)(i l j h a o f e:Nat)(aL:Qad)(w:ag c i 66 #[.slice (ab j) a a])(s:ag c l 108 #[.slice (ab h) a o])(E:f<a)(C:e<a)(D:a<=1000)(n:c.cell? ⟨h,f*147+5,none⟩=some (.int .i64 (e:Int)))(m:c.rangeAt j (e*11) aL.toList)(x:aL.size=11)(r:aL.all (·.oneCell')=true):Calls prog 35 #[X f,ab i,ab l] c λu t=>u=.returned (aL)/\V [] c t:=by
 have z:=Y w;have q:=Y s;have p:=Y (And.intro n (f' _ _ n));have y:=Y m;have g:=Y (And.intro x r);have B:(f:Int)<(a:Int):=Z;have A:(e:Int)<(a:Int):=Z;have b:=ao.nil [] c;go_in;go_wp2_with(refine b.aH (fM eR cN 0 0 0 false 0 false) Df ?_;intro F k b)
 have I:k.cell? ⟨i,0,none⟩=some (.slice (ab j) a a):=by rw[(z.out.S b.aa U).au];rfl
 have G:k.cell? ⟨l,0,none⟩=some (.slice (ab h) a o):=by rw[(q.out.S b.aa U).au];rfl
 have J:k.cell? ⟨h,f*147+5,none⟩=some (.int .i64 (e:Int)):=by rw[b.aa.au p.out.2 U];exact p.out.1
 have m:=Y (iM y.out b.aa);replace b:=b.bd;refine rg [] [0,1,2,3,4,5,6,7,8,209] ?_;refine nI ?_;refine iR m.out (pa _ g.out.1) ?_;simp only[az];refine b.dq 0 aL (pa _ g.out.1) g.out.2 ?_ (r:=by rw[g.out.1];rfl);intro H b;refine ax ?_;go_wp2_with fail
 exact bB (eH rfl (pa _ g.out.1) (b.ai 0 rfl) rfl) ⟨rfl,b.aa⟩
theorem ahy:kz 73 (.agg (fM eR cN 0 0 0 false 0 false)) 11 136:=k7
theorem ahz:kz 52 (.agg (ct dS none 0 0)) 8 80:=k7
section
variable (d:List e1)(g:Nat->aq)(c:Nat->aK)
def dT(a:Nat):e1:=d.getD a j1
def ot(a:Nat):Qad:=fM (g a) (c a) (dT d a).first (dT d a).last (dT d a).t true 2 (dT d a).head.f
def rq(f h:Nat)(e:Qad):Prop:=e.size=f*11/\∀a,a<h->∀b,b<11->e[(dT d a).shown.toNat*11+b]? =(ot d g c a)[b]?
def mP(d:Nat)(b:N):Prop:=∀a,a<d->aT b (g a) (c a)
def pb(b:Nat):af:=(List.range b).flatMap λa=>bg (c a)
def nC(a:Int):aq:=if a=-1 then eR else g a.toNat
def vy(a:Int):aK:=if a=-1 then cN else c a.toNat
end
theorem IU:pb c (a+1)=pb c a++bg (c a):=by unfold pb;rw[mm];simp
theorem ahA{e:Nat->aK}(d:∀b,b<a->c b=e b):pb c a=pb e a:=by
 induction a with
 |zero=>rfl
 |succ a f=>rw[IU,IU,f λb g=>d b Z,d a Z]
theorem mP.aS{h:af}(k:mP g c a b)(m:V h b j)(i:∀d∈pb c a,d∉h):mP g c a j:=λf e=>(k f e).S m λd l=>i d (um.2 ⟨f,fq.2 e,l⟩)
theorem ahB{a:Nat}:(ot d g c a).size=11:=rfl
theorem vz:∀a,a<6->(dc h i)[141+a]? =(a1 i.head)[a]? :=λa b=>by unfold dc;rw[b4,db aw,show 141+a-([.int .i64 i.first,.int .i64 i.last,.int .i64 i.t,.int .i64 i.hK,.int .i64 i.hL,.int .i64 i.shown]:Qam).length=135+a from aw,db sL,iP,ki,eo]
theorem ahC:∀a,a<(ay h).size->(dc h i)[6+a]? =(ay h)[a]? :=λa b=>by rw[gr]at b;unfold dc ay;rw[b4,db U,show 6+a-([.int .i64 i.first,.int .i64 i.last,.int .i64 i.t,.int .i64 i.hK,.int .i64 i.hL,.int .i64 i.shown]:Qam).length=a from U,eE x0,b4]
def vA(c:Nat)(b:Int):Prop:=b=-1\/∃a:Nat,b=(a:Int)/\a<c
theorem vA.is{d:Int}(i:vA a d)(e:mP g c a b):aT b (nC g d) (vy c d):=by
 rcases i with rfl|⟨h,rfl,f⟩
 .exact Dd b
 .unfold nC vy;rw[M Z,M Z,gx];exact e h f
def ahD(a:Int)(f:aq)(e:aK)(v:Qad):Prop:=∃c h d b g,v=fM f e c h d (decide (a≠-1)) b g
theorem Uh(d:N)(l o m k c j i:Nat)(t:aD)(b:List e1)(h:Nat->aq)(g:Nat->aK)(p s:Qad)(f:Int)(E:vA i f)(K:i<=c)(C:c<=1000)(L:b.length=c)(G:∀a,a<c->0<=(dT b a).shown/\(dT b a).shown<c)(H:dr s j 147 c (cq (λe=>dc t (b.getD e j1)) c))(B:rq b h g c i p):∃v,ahD f (nC h f) (vy g f) v/\∀d,ag d l 66 #[.slice (ab m) c c]->ag d o 108 #[.slice (ab k) c j]->ag d m 73 p->ag d k 113 s->Calls prog 35 #[X f,ab l,ab o] d λz x=>z=.returned (v)/\V [] d x:=by
 rcases E with rfl|⟨a,rfl,D⟩
 .exact⟨_,⟨0,0,0,0,false,rfl⟩,λd _ _ _ _=>ahw d _ _⟩
 .refine⟨ot b h g a,⟨(dT b a).first,(dT b a).last,(dT b a).t,2,(dT b a).head.f,?_⟩,λd A I F J=>?_⟩
  .unfold nC vy;rw[M Z,M Z,gx,fF Z];rfl
  .have w:=G a Z;obtain⟨n,q⟩:∃n:Nat,(dT b a).shown=(n:Int):=⟨_,(kR w.1).symm⟩;refine ahx d l o m k c j a n _ A I Z Z C ?_ ?_ rfl (sW _ _ _ _ _ _ _ _)
   .rw[J.au,H.au (λ_=>lj _ _) Z R];show(dc t (dT b a))[5]? = _;rw[<-q];rfl
   .intro e u hk;have r:(ot b h g a)[e]? =some u:=by rw[<-eo];exact hk
    have y:e<11:=by have:=(ht.1 r).1;rwa[ahB]at this
    rw[F.au];have:=B.2 a D e y;rw[q,gx]at this;rw[this];exact r
theorem rq.put{j:Qad}{e:aK}(f:rq d g c k a j)(q:a<k)(r:∀b,b<k->0<=(dT d b).shown/\(dT d b).shown<k)(s:∀h m,h<k->m<k->(dT d h).shown=(dT d m).shown->h=m):rq d g (λb=>if b=a then e else c b) k (a+1) (cC j ((dT d a).shown.toNat*11) (ot d g (λb=>if b=a then e else c b) a).toList):=by
 have i:((ot d g (λb=>if b=a then e else c b) a).toList).length=11:=rfl;have x:=r a q;have n:(dT d a).shown.toNat*11+((ot d g (λb=>if b=a then e else c b) a).toList).length<=j.size:=by rw[i,f.1];omega
 refine⟨by rw[tS n];exact f.1,λb w o p=>?_⟩;have u:=r b Z;by_cases l:b=a
 .subst l;rw[pC n (by rw[i];exact p),eo]
 .rw[nR n (by rw[i];have:(dT d b).shown≠(dT d a).shown:=λt=>l (s _ _ Z q t);omega),f.2 b Z o p];show _=(fM (g b) (if b=a then e else c b) _ _ _ true 2 _)[o]?;rw[M l];rfl
def Ui(m:N)(q:aD)(e:List aE)(o:Nat->Option Addr)(p:Nat->Nat)(d i:Nat)(c:Nat->aq)(k h:Int)(l:aq):Prop:=∀b f n j g,V [] m b->(∀a,a<i->b.rangeAt f (a*8) (ct (e.getD (d+a) .aQ).ej (o (d+a)) (e.getD (d+a) .aQ).bE.length (p (d+a))).toList)->aT b (nC c k) j->aT b (nC c h) g->Calls prog 36 #[ay q,.slice (ab f) i n,al (nC c k) j,al (nC c h) g] b (vx l b)
structure Uj(h:N)(k:aD)(e:List aE)(i:Nat->Option Addr)(j:Nat->Nat)(a:List e1)(f:Nat->aq):Prop where
 ahE:qa nB (iq (e.map aE.ak) e.length)=true
 aN:pV (e.map aE.ak)=a
 ne:a≠[]
 ahF:a.length<=1000
 ahG:∀g,g<a.length->0<=(dT a g).shown/\(dT a g).shown<a.length
 inj:∀d c,d<a.length->c<a.length->(dT a d).shown=(dT a c).shown->d=c
 ok:∀b,b<a.length->(f b).Ok
 ahH:∀b,b<a.length->(∃d c:Nat,(dT a b).first=d/\(dT a b).last=c/\d<=c/\c<=d+1/\c<e.length/\Ui h k e i j d (c+1-d) f (dT a b).hK (dT a b).hL (f b))/\vA b (dT a b).hK/\vA b (dT a b).hL/\((dT a b).t≠1->(dT a b).hK≠-1)/\((dT a b).t=3->(dT a b).hL≠-1)/\(dT a b).head.r=false
theorem av.sub{f:bX}(a:av l m b q n t)(c:f.Sublist q):av l m b f n t:=⟨⟨a.h.aa,λd e=>a.h.b d (c.subset e),a.h.d.sublist (c.map _),λd e=>a.h.n d (c.subset e)⟩,⟨λg i h=>a.a.d g i ((c.map _).subset h),a.a.n,a.a.l⟩,a.q,a.s⟩
theorem Uk:pb (λb=>if b=a then u else c b) (a+1)=pb c a++bg u:=by rw[IU,ahA (e:=c) λb d=>M Z,ae rfl]
theorem ahI(f:mP g c a b)(h:aT b (g a) u):mP g (λd=>if d=a then u else c d) (a+1) b:=λd i=>by
 show aT b (g d) (if d=a then u else c d);by_cases e:d=a
 .subst e;rw[ae rfl];exact h
 .rw[M e];exact f d Z
def Ul(a:List e1)(d:Nat->aq)(f:N)(h:Ending)(c:N):Prop:=∃e g b,h=.returned (.slice (ab b) a.length a.length)/\ag c b 73 g/\rq a d e a.length a.length g/\mP d e a.length c/\V [] f c/\f.heap.size<=b
theorem IV(a:f:=by
 have zap:=zC.out.put (e:=k) zb zk.out zaE.out;have zbl:ot C h (λF=>if F=a then k else l F) a=fM (h a) k (e:Int) (i:Int) j true 2 ak.f:=by unfold ot;rw[zax.out];show fM (h a) (if a=a then k else l a) _ _ _ true 2 _= _;rw[ae rfl]
 rw[zbl,zax.out]at zap;refine⟨⟨a+1,λF=>if F=a then k else l F,_,Z,a8,zap,Y ?_⟩,bF⟩;rw[Uk];exact(b.sub (.cons _ (.cons _ (.cons _ (.cons _ (.cons_cons _ (.cons_cons _ (.cons_cons _ (.cons_cons _ (.cons _ .slnil)))))))))).conv (ahI b.q.1 b.q.2) λ_ _ _ K zbw c=>c.aS K (by rw[Uk];exact zbw)):f:=a
theorem ahJ(x:N)(t:aD)(n:List aE)(zt zw:Nat)(A:Nat->Option Addr)(D zaz:Nat->Nat)(C:List e1)(h:Nat->aq)(zj:lm t n x zt A D zaz)(q:Uj x t n A D C h):Calls prog 12 #[.slice (ab zt) n.length zw] x (Ul C h x):=by
 refine aG C.length λg zB=>?_;have zM:=Y zj;have zbi:=Y q.ahE;have za7:=Y q.aN;have zbz:=Y (show pV (n.map aE.ak)≠[] by rw[q.aN];exact q.ne);have Q:=Y zB;have za:=Y (show g<=1000 by rw[<-zB];exact q.ahF);have zk:=Y q.ahG;have zaE:=Y q.inj;have zaN:=Y q.ok;have zaj:=Y q.ahH;rw[zB]at zk zaE zaN zaj;have zcT:g<=1000:=za.out;refine wq λO=>?_;clear zj q zB;have b:=ao.nil [] x;go_in;go_wp2_with fail
 refine(ahq _ t n zt zw A D zaz (zM.out.S b.aa U) zbi.out zbz.out).mono ?_;rintro zR zcC ⟨s,I,P,rfl,zaw,zA,zar,zay⟩;rw[za7.out]at zA⊢;rw[Q.out]at zA⊢;replace b:=b.aP zaw zar zay;clear zaw zar zay;have z8:=Y zA;clear zA;refine nh λzbm zbc zb5 zbZ zbu=>?_;go_wp2_with(first|(clear zbm;refine b.aH (#[.slice none 0 0]) (v:=.slice none 0 0) ar ?_;clear b;intro zq zcJ b)|(clear zbc;refine b.a6 0 (.slice (ab s) g I) (#[.slice (ab s) g I]) ?_ (d:=0);clear b;intro za4 b;have zN:=b.ah 0 0)|(clear zb5;refine q5 _ _ _ 73 (fM eR cN 0 0 0 false 0 false) (madeCells (fM eR cN 0 0 0 false 0 false) (g*11)) 11 136 g underlying66 ahy rfl sU CU ?_;intro zcU i K;replace b:=b.aP i K (a' _);clear i K;generalize za4.heap.size=z at b⊢;clear zN)|(clear zbZ;refine b.aH (#[.slice none 0 0]) (v:=.slice none 0 0) ar ?_;clear b;intro ze zcl b)|(clear zbu;refine b.a6 0 (.slice (ab z) g g) (#[.slice (ab z) g g]) ?_ (d:=0);clear b;intro zcm b;have zb0:=b.ah 2 0))
 clear zb0;replace b:=(av.jh b).conv (zu:=mP h (λ_=>cN) 0) (λF zo=>absurd zo (fT _)) λ_ _ _ K _ c F zo=>absurd zo (fT _)
 have zaD:rq C h (λ_=>cN) g 0 (madeCells (fM eR cN 0 0 0 false 0 false) (g*11)):=⟨size_madeCells _ _,λF zo=>absurd zo (fT _)⟩;go_loopw [24] (λH wr=>∃(a:Nat)(l:Nat->aK)(w:Qad),a<=g/\H=X a/\rq C h l g a w/\Hid (av [] x wr [(ze,66,#[.slice (ab z) g g]),(z,73,w),(zq,108,#[.slice (ab s) g I]),(s,113,P)] (pb l a) (mP h l a))) (λH _=>g-(intOf H).toNat)
 .exact⟨0,λ_=>cN,_,Z,rfl,zaD,Y b⟩
 .obtain⟨a,l,w,zj,rfl,zi,zaH⟩:=hrel;try clear b zaD
  have b:=zaH.out;clear zaH;by_cases zb:a<g
  .have zbf:(a:Int)<(g:Int):=Z;obtain⟨⟨zaT,zbG,j,G,E,zbT,ak⟩,W⟩:∃zR,dT C a=zR:=⟨_,rfl⟩;obtain⟨⟨e,i,zac,zaK,zba,zbV,zbW,J⟩,zF,zy,z7,z6,zf⟩:=zaj.out a zb;unfold Ui at J;rw[W]at zac zaK zF zy z7 z6 zf;rw[W]at J;obtain rfl:zaT=(e:Int):=zac;obtain rfl:zbG=(i:Int):=zaK;have zx:=zk.out a zb;rw[W]at zx;obtain⟨p,rfl⟩:∃p:Nat,zbT=(p:Int):=⟨_,(kR zx.1).symm⟩;have zcc:(p:Int)<(g:Int):=zx.2;have zf:ak.r=false:=zf;obtain⟨zcH,zbJ,zr⟩:=Uh x ze zq z s g I a t C h l w P G zF zj za.out Q.out zk.out z8.out zi;obtain⟨zb7,zbs,zs⟩:=Uh x ze zq z s g I a t C h l w P E zy zj za.out Q.out zk.out z8.out zi;obtain⟨zbn,zb4,za0,cn,zbr,rfl⟩:=zbJ;obtain⟨zaY,zaZ,zbO,k,zaX,rfl⟩:=zbs;have zbX:=Y λf(zZ:ag f s 113 P)=>show f.rangeAt s (a*147) (dc t ⟨(e:Int),(i:Int),j,G,E,(p:Int),ak⟩).toList from λd zK L=>by
    have zn:(dc t (dT C a))[d]? =some zK:=by rw[W,<-eo];exact L
    have zP:d<147:=by have:=(ht.1 zn).1;rwa[lj]at this
    rw[zZ.au,z8.out.au (λ_=>lj _ _) zb zP];exact zn
   have zC:=Y zi;have zax:=Y W;obtain⟨u,zai⟩:∃u,u=i+1-e:=⟨_,rfl⟩;refine aG (decide (G≠-1)) λzI zQ=>?_;refine aG (decide (E≠-1)) λzS zJ=>?_;refine aG (nC h G) λzm zv=>?_;refine aG (vy l G) λzdz zab=>?_;refine aG (nC h E) λzl zz=>?_;refine aG (vy l E) λzu z'=>?_;rw[<-zai]at J;have J:∀f zaL zw zaJ l,V [] x f->(∀c,c<u->f.rangeAt zaL (c*8) (ct (n.getD (e+c) .aQ).ej (A (e+c)) (n.getD (e+c) .aQ).bE.length (D (e+c))).toList)->aT f zm zaJ->aT f zl l->Calls prog 36 #[ay t,.slice (ab zaL) u zw,al zm zaJ,al zl l] f (vx (h a) f):=by rw[<-zv,<-zz];exact J
   have zbj:=Y J;have za1:=Y λf(c:mP h l a f)=>show aT f zm zdz by have:=zF.is c;rwa[zv,zab]at this
   have zbN:=Y λf(c:mP h l a f)=>show aT f zl zu by have:=zy.is c;rwa[zz,z']at this
   have zG:=Y zf;rw[zQ,zv,zab]at zr;rw[zJ,zz,z']at zs;have zr:=Y zr;have zs:=Y zs;have zan:=Y (And.intro (λq=>show zI=true by rw[<-zQ];exact fF (z7 q)) λq=>show zS=true by rw[<-zJ];exact fF (z6 q));have zaV:1<=u/\u<=2/\e+u=i+1/\i<n.length:=Z;have zaf:=Y zaV;clear J zf zba zbV zbW zi W zF zy z7 z6 zQ zv zab zJ zz z' zx zai;refine nb λzb3 za3 zbR=>?_;go_wp2_with(first|(clear zb3;refine lg (vY _ _) (zbX.out _ (b.ai 3 rfl)) ?_)|(clear za3;refine b.aH (dc b6 j1) H3 ?_;clear b;intro zao zcQ b)|(clear zbR;refine b.aN 0 (dc t ⟨(e:Int),(i:Int),j,G,E,(p:Int),ak⟩) (vY _ _) (x4 _ _) ?_;clear b;intro zcn b;have zbd:=b.ah 0 0))
   clear zbd;go_loopw [9,8] (λH za6 wr=>∃(c:Nat)(zU:Qae)(zE:Nat)(zY:bX),c<=u/\H=X ((e+c:Nat):Int)/\za6=.slice zU c zE/\er 52 8 c (cq (λc=>ct (n.getD (e+c) .aQ).ej (A (e+c)) (n.getD (e+c) .aQ).bE.length (D (e+c))) c) zU zE zY/\Hid (av [] x wr ([(zao,113,dc t ⟨(e:Int),(i:Int),j,G,E,(p:Int),ak⟩),(ze,66,#[.slice (ab z) g g]),(z,73,w),(zq,108,#[.slice (ab s) g I]),(s,113,P)]++zY) (pb l a) (mP h l a))) (λH _ _=>i+1-(intOf H).toNat)
   .exact⟨0,none,0,[],Z,by rw[fs],rfl,er.nil,Y (by rw[eG];exact b)⟩
   .obtain⟨c,zU,zE,zY,zcO,rfl,rfl,zaM,zaC⟩:=hrel;try clear b
    have b:=zaC.out;clear zaC;refine aG (e+c) λr zW=>?_;rw[zW];have zT:=Y zaM;clear zaM;by_cases zav:c<u
    .have zbU:(r:Int)<=(i:Int):=Z;have zcG:(r:Int)<(n.length:Int):=Z;have zb8:n.length<=64:=zM.out.n;obtain⟨B,zX⟩:∃B,n[r]? =some B:=⟨_,cu Z⟩;have zag:n.getD r .aQ=B:=by rw[b9,zX];rfl
     have zbI:=Y λf(K:V [] x f)=>show f.rangeAt zt (r*148+139) (ct B.ej (A r) B.bE.length (D r)).toList from IB ((zM.out.S K U).row r B zX) (λd L=>CG d L);have zbM:=Y zag;clear zX zag;have zN:=b.ah 0 1;refine nb λzbg zbk zbQ=>?_;go_wp2_with(first|(clear zbg;refine lg lu (zbI.out _ b.aa) ?_)|(clear zbk;refine e' underlying115 (ct B.ej (A r) B.bE.length (D r)) rfl rfl ar ?_;intro zbq zcd zaa zad zah;replace b:=b.aP zaa zad zah)|(clear zbQ;refine av.fR [(zbq,52,ct B.ej (A r) B.bE.length (D r)),(zao,113,dc t ⟨(e:Int),(i:Int),j,G,E,(p:Int),ak⟩),(ze,66,#[.slice (ab z) g g]),(z,73,w),(zq,108,#[.slice (ab s) g I]),(s,113,P)] b zT.out (ct dS none 0 0) 80 underlying115 ahz rfl R (r:=1) (aF.ai (C:=8) (e:=1) zaa rfl) (o6 (xJ _ _ _ _)) (by have:=zaf.out;unfold maxLen;omega) (by have:=zaf.out;omega) Z ?_;clear b zaa zad zah zN;intro za2 zaA zat zbP b zbo;simp only[dZ,cU]at b))
     refine⟨⟨c+1,_,zaA,[(za2,52,zbP)],Z,by rw[<-zW];go_num,rfl,?_,Y (b.drop 1)⟩,bF⟩;rw[mE];simp only[zW,zbM.out];exact zbo
    .obtain rfl:u=c:=Z;have zbU:¬((r:Int)<=(i:Int)):=Z;rcases zT.out with⟨zcN,_⟩|⟨zV,zb2,rfl,rfl,zae⟩
     .omega
     have zbx:=Y zae;clear zae zT;simp only[dZ,cU]at b;have zbv:=Y λf(zZ:ag f zV 52 zb2)=>show∀c,c<u->f.rangeAt zV (c*8) (ct (n.getD (e+c) .aQ).ej (A (e+c)) (n.getD (e+c) .aQ).bE.length (D (e+c))).toList from λc zav d zK L=>by
      have zn:(ct (n.getD (e+c) .aQ).ej (A (e+c)) (n.getD (e+c) .aQ).bE.length (D (e+c)))[d]? =some zK:=by rw[<-eo];exact L
      have zP:d<8:=(ht.1 zn).1;rw[zZ.au,zbx.out.au (λ_=>rfl) zav zP];exact zn
     have zbD:=b.ah 0 1;have zbY:=b.ah 0 3;go_wp2_with fail
     clear zbD zbY;have zbA:=b.ah 0 3;have zaU:=b.ah 0 4;refine CV ?_;clear b;intro m o zaI b;refine rg [10,11] [0,1,2,3,5,6,7,8,104,109,410,411,212,213] ?_;refine ax ?_;refine b.jf (λzat b=>zr.out _ (b.ai 1 rfl) (b.ai 3 rfl) (b.ai 2 rfl) (b.ai 4 rfl)) ?_;clear b;intro _ zat b;simp only[az];clear zbA zaU;refine b.jf (λzbp b=>zs.out _ (b.ai 1 rfl) (b.ai 3 rfl) (b.ai 2 rfl) (b.ai 4 rfl)) ?_;clear b;intro _ zbp b;simp only[az];refine lO _ (fM eR cN 0 0 0 false 0 false) rfl Df rfl ?_;intro zh zb6 zas zaG zak;have zH:=km zak (za:=wr.heap.size) U;simp only[az];replace b:=b.hE zaG zas (m.off zH) (λzL=>absurd (gD (zaI _ zL) zH) (lf _)) (b7 o zH);clear zaG zas zak;refine lO _ (fM eR cN 0 0 0 false 0 false) rfl Df rfl ?_;intro zau zcZ zal zaB zO;have z1:=km zO (za:=wr.heap.size) U;simp only[az];replace b:=b.hE zaB zal (sq.cons (d:=0) (a:=(zh,_,_)) (m.off z1) (by have:zau<zh\/zh+1<=zau:=zO (zh,zh+1) U;omega)) (λzL=>absurd (gD (zaI _ zL) z1) (lf _)) (b7 o z1);clear zaB zal zO;refine b.dq 1 (fM zm zdz zbn zb4 za0 zI cn zbr) (pa _ rfl) (sW _ _ _ _ _ _ _ _) ?_;clear b;intro zca b;simp only[az];refine b.dq 0 (fM zl zu zaY zaZ zbO zS k zaX) (pa _ rfl) (sW _ _ _ _ _ _ _ _) ?_;clear b;intro zcP b;refine ax ?_;refine nb λzby zbb zbt=>?_;go_wp2_with(first|(clear zby;refine b.cp 2 (ay t) (cH _) ?_ (o:=by exact ahC))|(clear zbb;refine b.cp 1 (al zm zdz) aB ?_ (o:=by exact(hY rfl)))|(clear zbt;refine b.cp 0 (al zl zu) aB ?_ (o:=by exact(hY rfl))))
     refine(zbj.out _ zV zE zdz zu b.aa (zbv.out _ (b.ai 7 rfl)) (za1.out _ b.q) (zbN.out _ b.q)).mono ?_;rintro zR zci ⟨k,rfl,zam,zaq,zaF⟩;replace b:=b.j5 zaq zam (zaN.out a zb) λd L=>.inr (zaF d L);clear zam zaq zaF;by_cases zc:j=1
     .have zaO:(j==3)=false:=by simp[zc]
      have zbE:(j !=1)=false:=by simp[zc]
      clear zc;refine nh λzbK za9 za5 zbL zaS=>?_;go_wp2_with(first|(clear zbK;refine b.aH (_) bY ?_;clear b;intro zcE zcj b)|(clear za9;refine b.aN 0 (al (h a) k) aB (bo _ _) ?_;clear b;intro zcb b;have zcx:=b.ah 3 2;have zaA:=b.cl 3 145 (v:=.bool false) (g:=by exact(vz 4 R).trans (aX (λzp=>some (Value.bool zp)) zG.out));have zch:=b.ah 4 0;have zcD:=b.ah 3 5;have zcy:=b.ah 3 0;have zco:=b.ah 3 1;have zcr:=b.cl 3 144 (v:=.bool ak.f) (g:=by exact vz 3 R))|(clear za5;refine b.ld 0 aB ?_)|(clear zbL;refine fU (T:=73) (fM (h a) k (e:Int) (i:Int) j true 2 ak.f) ?_)|(clear zaS;refine b.stM 5 (fM (h a) k (e:Int) (i:Int) j true 2 ak.f) (cC w (p*11) (fM (h a) k (e:Int) (i:Int) j true 2 ak.f).toList) (pa _ rfl) (sW _ _ _ _ _ _ _ _) ?_ (d:=p*11) (u:=by rw[zC.out.1];show p*11+11<=g*11;omega);clear b;intro zcY b))
      exact IV
     .have zbE:(j !=1)=true:=by simp[zc]
      obtain rfl:zI=true:=zan.out.1 zc;by_cases zD:j=3
      .obtain rfl:zS=true:=zan.out.2 zD;have zaO:(j==3)=true:=by simp[zD]
       clear zD;refine nh λzbS zbB zaW zbh zbe=>?_;go_wp2_with(first|(clear zbS;refine b.aH (_) bY ?_;clear b;intro zcu zct b)|(clear zbB;refine b.aN 0 (al (h a) k) aB (bo _ _) ?_;clear b;intro zcX b;have zck:=b.ah 3 2;have zcF:=b.ah 2 8;have zcs:=b.ah 1 8;have zcz:=b.cl 3 145 (v:=.bool false) (g:=by exact(vz 4 R).trans (aX (λzp=>some (Value.bool zp)) zG.out));have zcR:=b.ah 4 0;have zcI:=b.ah 3 5;have zcA:=b.ah 3 0;have zcW:=b.ah 3 1;have zc0:=b.cl 3 144 (v:=.bool ak.f) (g:=by exact vz 3 R))|(clear zaW;refine b.ld 0 aB ?_)|(clear zbh;refine fU (T:=73) (fM (h a) k (e:Int) (i:Int) j true 2 ak.f) ?_)|(clear zbe;refine b.stM 5 (fM (h a) k (e:Int) (i:Int) j true 2 ak.f) (cC w (p*11) (fM (h a) k (e:Int) (i:Int) j true 2 ak.f).toList) (pa _ rfl) (sW _ _ _ _ _ _ _ _) ?_ (d:=p*11) (u:=by rw[zC.out.1];show p*11+11<=g*11;omega);clear b;intro zcf b))
       exact IV
      .have zaO:(j==3)=false:=by simpa using zD
       refine nh λzbC zb1 zbF za8 zbH=>?_;go_wp2_with(first|(clear zbC;refine b.aH (_) bY ?_;clear b;intro zcw zcS b)|(clear zb1;refine b.aN 0 (al (h a) k) aB (bo _ _) ?_;clear b;intro zcM b;have zce:=b.ah 3 2;have zcp:=b.ah 2 8;have zcq:=b.cl 3 145 (v:=.bool false) (g:=by exact(vz 4 R).trans (aX (λzp=>some (Value.bool zp)) zG.out));have zcK:=b.ah 4 0;have zcv:=b.ah 3 5;have zcg:=b.ah 3 0;have zcL:=b.ah 3 1;have zb9:=b.cl 3 144 (v:=.bool ak.f) (g:=by exact vz 3 R))|(clear zbF;refine b.ld 0 aB ?_)|(clear za8;refine fU (T:=73) (fM (h a) k (e:Int) (i:Int) j true 2 ak.f) ?_)|(clear zbH;refine b.stM 5 (fM (h a) k (e:Int) (i:Int) j true 2 ak.f) (cC w (p*11) (fM (h a) k (e:Int) (i:Int) j true 2 ak.f).toList) (pa _ rfl) (sW _ _ _ _ _ _ _ _) ?_ (d:=p*11) (u:=by rw[zC.out.1];show p*11+11<=g*11;omega);clear b;intro zcV b))
       exact IV
  .have zbf:¬((a:Int)<(g:Int)):=Z;obtain rfl:g=a:=Z;have zcB:=b.ah 0 0;go_wp2_with fail
   refine gJ rfl ⟨l,w,z,by rw[Q.out];rfl,b.ai 1 rfl,by rw[Q.out];exact zi,by rw[Q.out];exact b.q,b.aa,(b.h.n _ (bS (i:=1) rfl)).resolve_left U⟩
