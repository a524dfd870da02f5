import Derived.Test.YtdmdbgabjcbjiaaGreatDoorA01
import Derived.Test.YtdmdbgabjcbjiaaGreatDoorA02
set_option maxHeartbeats 0
set_option maxRecDepth 100000
set_option linter.all false
namespace Go.Proofs.YtdmdbgabjcbjiaaGreatDoor
open Go.RowKit fD cr hs a7 _root_.Go.Proofs.Tryz
variable{t:aj}{r w e u:Int}{i C:Prop}{g d B:Nat}{b D:bi}{x:Qae}{f:Bool}{k:List Int}{q:N}{s:List (Int×Int)}{F:Ending}{A:List Int×Int}(a:N)(c:aD)
def jb(c d:aj)(b:Int):aj:=λa=>aR (c a) (d a*b*iF a)
def uh(d c:aj)(b:Int):aj:=λa=>d a*(c a*b*iF a)
def sj(c b:aj)(a:Int):aj:=if eD b a=true/\iw (jb c b a) 4095 64=true then jb c b a else λ_=>0
def sk(c b:aj)(a:Int):Int:=if eD b a=true then(if iw (jb c b a) 4095 64=true then 0 else 2)else 1
def kG(b c:aj)(a:Int):aj:=if eD c a=true/\iw b 4095 64=true then uh b c a else λ_=>0
def fh(b c:aj)(a:Int):Int:=if eD c a=true then(if iw b 4095 64=true then 0 else 2)else 1
theorem Bi(a:eD t r=true):1<=r/\r<=31:=by unfold eD at a;rw[dB]at a;exact rU.1 a.2
theorem Bj(a:eD t r=true):∀b,b<64->8<=t b:=by unfold eD at a;rw[dB]at a;exact Es.1 a.1
theorem ML(c b:aj)(a:Int)(d:eD b a=false):(sj c b a=λ_=>0)/\sk c b a=1:=by unfold sj sk;simp[d]
theorem ZG(c b:aj)(a:Int)(d:eD b a=true)(e:iw (jb c b a) 4095 64=false):(sj c b a=λ_=>0)/\sk c b a=2:=by unfold sj sk;simp[d,e]
theorem Ft(c b:aj)(a:Int)(d:eD b a=true)(e:iw (jb c b a) 4095 64=true):sj c b a=jb c b a/\sk c b a=0:=by unfold sj sk;simp[d,e]
theorem MM(c b:aj)(a:Int)(d:eD b a=false):(kG c b a=λ_=>0)/\fh c b a=1:=by unfold kG fh;simp[d]
theorem ZH(b c:aj)(a:Int)(d:eD c a=true)(e:iw b 4095 64=false):(kG b c a=λ_=>0)/\fh b c a=2:=by unfold kG fh;simp[d,e]
theorem Fu(b c:aj)(a:Int)(d:eD c a=true)(e:iw b 4095 64=true):kG b c a=uh b c a/\fh b c a=0:=by unfold kG fh;simp[d,e]
theorem MN{b a:Int}(c:-4095<=b/\b<=4095)(d:160<=a/\a<=284580):-1165355100<=b*a/\b*a<=1165355100:=by have:=oI (J:=4095) (G:=284580) c (A:=a) Z;omega
theorem ZI(a:i:=by
 go_wp2_with(first|refine tv rfl rfl ?_|(refine mZ K rfl rfl rfl rfl ?_;intro zG x y zE))
 exact bB (tu rfl x rfl) ⟨Bk,(J).own y Z⟩):i:=a
theorem MO(a:i:=by have q:=Y (ZH d e c C.out (D' h Z));exact ZI):i:=a
theorem ZJ(d e:aj)(c:Int)(zV:tp 64 d)(zY:hT e):Calls prog 187 #[an .i64 64 d,an .u8 64 e,X c] a λu k=>u=.returned (.tuple #[an .i64 64 (kG d e c),X (fh d e c)])/\V [] a k:=by
 go_in;go_wp2_with(first|(refine ts (h:=d) rfl rfl rfl ?_;intro zn zQ zo zu z7)|(refine Af (h:=e) rfl rfl rfl ?_;intro z1 zS zc W zR)|(refine k6 rfl rfl ?_;intro zx zO zt A z8)|(have i:=zc.S A U;refine Ag i rfl rfl rfl ?_))
 refine MP λzz zJ zH zF zB zK ze za=>?_;refine MQ λzL p B w G m zD=>?_;cases n:gP e 64 with
 |false=>have q:=Y (MM d e c (by unfold eD;rw[n];rfl));exact Bl
 |true=>
  go_wp2_with fail
  refine(Et _ c).mono ?_;rintro u zT ⟨rfl,rfl⟩;cases Q:ps c with
  |false=>have q:=Y (MM d e c (by unfold eD;rw[Q];simp));exact Bl
  |true=>
   have s:eD e c=true:=by unfold eD;rw[n,Q];rfl
   have zs:1<=c/\c<=31:=Bi s;have n:=Bj s;have C:=Y s;go_wp2_with(first|(refine k6 rfl rfl ?_;intro E zh zW f zP)|(have zj:=w.S f U;refine nJ (h:=d) (n:=zn) zj rfl rfl rfl ?_))
   have zX:=B.ad f;have zZ:=w.S f U;have z6:=G.S f U;have zC:=m.S f U;go_loopw [21] (λj wr=>∃b:Nat,b<=64/\j=X b/\V [] a wr/\V [E] zh wr/\ag wr E 230 (an .i64 64 (c3 b (uh d e c)))/\iw d 4095 b=true) (λj _=>64-(intOf j).toNat)
   .exact MR
   .obtain⟨b,zU,rfl,J,t,r,zi⟩:=hrel;have D:=Y zi;by_cases h:b<64
    .refine MS λak zr zl I zd L O zb zk K zp zm zq=>?_;by_cases g:d b< -4095
     .have zv:decide (d b< -4095)=true:=iD;exact MO
     .have zv:decide (d b< -4095)=false:=iD;by_cases i:4095<d b
      .have zw:decide (4095<d b)=true:=iB;exact MO
      .have zw:decide (4095<d b)=false:=iB;have zN:=MN (b:=d b) Z zd;have z:=Y (D9 (c:=4095) D.out ⟨Z,Z⟩);go_wp2_with fail
       refine(KL _ (e b) c b I zs h).mono ?_;rintro u zM ⟨rfl,o⟩;have l:=r.S o U;have zf:=l.au b;rw[dw h]at zf;have zy:=l.eA b;obtain⟨P,aU⟩:=l.hc b (X (d b*(e b*c*iF b)));rw[ph (h:=uh d e c) (v:=d b*(e b*c*iF b)) h rfl]at P;have H:=Y ((J.ad o).own aU Z);have F:=Y ((t.ad o).same aU);have zA:=Y P;exact Fv
    .obtain rfl:b=64:=Z;rw[oE Z]at r;have q:=Y (Fu d e c C.out D.out);exact MT
theorem ZK(a:Int)(c:0<a/\a<=9223372036854775808):IntKind.u64.wrap (-IntKind.u64.wrap (-a))=a:=by exact K0
theorem ZL{a:Nat}{b:aj}{c v:Int}:an .i64 g (aV (aV b a c) a v)=an .i64 g (aV b a v):=jr (λd _=>by unfold aV;split<;>rfl)
theorem ZM(a:i:=by
 go_wp2_with(first|refine tv rfl rfl ?_|(refine mZ m rfl rfl rfl rfl ?_;intro zG x y zE))
 exact bB (tu rfl x rfl) ⟨Bk,(Q).own y Z⟩):i:=a
theorem MU(a:i:=by rw[oD _ h,oD _ h,ZL,<-oD _ h,ph h l.out]):i:=a
theorem Bm(a:i:=by have q:=Y (ZG d e g z7.out (D' h (by rw[l.out];omega)));exact ZM):i:=a
theorem MV(a:i:=by rw[ph h l.out]at o;have H:=Y (Q.own aU Z);have F:=Y (zf.same aU);have zA:=Y o;clear o aU;exact Fv):i:=a
theorem MW(a:i:=by have zA:ck (ag _ zO 230 (an .i64 64 (c3 (b+1) (jb d e g)))):=zP▸zS;clear o aU zS zx zP;exact Fv):i:=a
theorem Bn(a:C)(b:cZ C->i:=by intro zaj;have z:=Y (D9 (c:=4095) z8.out (by rw[l.out];omega));revert z;exact zaj.out):i:=b ⟨a⟩
theorem MX(a:C)(b:C->i:=by intro zau;refine Ac (dU zah) ar ar dU.refl ?_;refine qJ ?_;refine rS ?_;intro k C;have s:=C.ai zN;have m:=C.ai zan;have Q:=zar.ad C.S;have zf:=zap.ad C.S;have zw:=s.au b;rw[dw h]at zw;have zQ:=s.eA b;revert k C s m Q zf zw zQ;exact zau):i:=b a
theorem MY(a:C)(b:cZ C->i:=by intro zai;have zj:=o.au b;rw[oD _ h,dw h]at zj;simp only[aV,eB]at zj;have zR:=o.eA b;have H:=Y ((Q.own aU Z).own zx Z);have F:=Y ((zf.same aU).same zx);revert zj zR H F;exact zai.out):i:=b ⟨a⟩
theorem ZN(d e:aj)(g:Int)(zV:tp 64 d)(zY:hT e):Calls prog 258 #[an .i64 64 d,an .u8 64 e,X g] a λu k=>u=.returned (.tuple #[an .i64 64 (sj d e g),X (sk d e g)])/\V [] a k:=by
 go_in;go_wp2_with(first|(refine ts (h:=d) rfl rfl rfl ?_;intro zn zaC zo zu zaJ)|(refine Af (h:=e) rfl rfl rfl ?_;intro z1 zaF zc W zaE)|(refine k6 rfl rfl ?_;intro zaw zay zt A zaK)|(have i:=zc.S A U;refine Ag i rfl rfl rfl ?_))
 refine MP λzz zJ zH zF zB zK ze za=>?_;clear zu W A zo zc;refine MQ λzL p B w G m zD=>?_;clear p ze i zt za;cases n:gP e 64 with
 |false=>have q:=Y (ML d e g (by unfold eD;rw[n];rfl));clear n;exact Bl
 |true=>
  go_wp2_with fail
  refine(Et _ g).mono ?_;rintro u zaG ⟨rfl,rfl⟩;cases zy:ps g with
  |false=>have q:=Y (ML d e g (by unfold eD;rw[zy];simp));clear n zy;exact Bl
  |true=>
   have zv:eD e g=true:=by unfold eD;rw[n,zy];rfl
   clear n zy;have zs:1<=g/\g<=31:=Bi zv;have n:=Bj zv;have z7:=Y zv;clear zv;go_wp2_with(first|(refine k6 rfl rfl ?_;intro zO zam zW P zaB)|(have zao:=w.S P U;refine nJ (h:=d) (n:=zn) zao rfl rfl rfl ?_))
   have zX:=B.ad P;have zZ:=w.S P U;have z6:=G.S P U;have zC:=m.S P U;clear P w G m B;go_loopw [25] (λzM wr=>∃b:Nat,b<=64/\zM=X b/\V [] a wr/\V [zO] zam wr/\ag wr zO 230 (an .i64 64 (c3 b (jb d e g)))/\iw (jb d e g) 4095 b=true) (λzM _=>64-(intOf zM).toNat)
   .exact MR
   .obtain⟨b,zaH,rfl,J,t,r,z'⟩:=hrel;have z8:=Y z';clear z';by_cases h:b<64
    .refine MS λak zr zl I zd L O zb zk K zp zm zq=>?_;have l:ck (jb d e g b=aR (d b) (e b*g*iF b)):=rfl;go_wp2_with fail
     refine(KL _ (e b) g b I zs h).mono ?_;rintro u zah ⟨rfl,zi⟩;have zN:=r.S zi U;have zan:=K.S zi U;have zar:=J.ad zi;have zap:=t.ad zi;generalize e b*g*iF b=c at zd l;have zaA:(c==0)=false:=aw;have zaz:¬c=0:=Z;clear r K J t zi zp zm L O zb zk;have zal:=zN.au b;rw[dw h]at zal;have zax:=zN.eA b;generalize d b=v at zq zr l;by_cases zaI:v<0
     .obtain⟨f,rfl⟩:∃f,v=-f:=⟨-v,Z⟩;have zas:=EQ f (a:=c) Z;have zav:=EP (c:=f) (d:=c) Z Z;have zaq:=LW (c:=f) (d:=c) Z Z;rw[YT Z Z]at l;have zak:decide (0<f)=true:=aw;have zaD:0<f:=Z;have zat:IntKind.u64.wrap (-IntKind.u64.wrap (-f))=f:=ZK f Z;go_wp2_with fail
      clear zat;refine MX λk C s m Q zf zw zQ=>?_;by_cases D:c-f%c<=f%c
      .have zT:decide (c-f%c<=f%c)=true:=w3;rw[ae D]at l;by_cases zU:4095<f/c+1
       .have E:decide (4095<f/c+1)=true:=aw;exact Bm
       .have E:decide (4095<f/c+1)=false:=aw;refine Bn λz=>?_;obtain⟨o,aU⟩:=s.hc b (X (f/c+1));obtain⟨zS,zx⟩:=o.hc b (X (-(f/c+1)));refine MY λzj zR H F=>?_;have zP:((an .i64 64 (c3 b (jb d e g))).setIfInBounds b (X (f/c+1))).setIfInBounds b (X (-(f/c+1)))=an .i64 64 (c3 (b+1) (jb d e g)):=by exact MU
        exact MW
      .have zT:decide (c-f%c<=f%c)=false:=w3;rw[M D]at l;rw[Fw]at l;by_cases zU:4095<f/c
       .have E:decide (4095<f/c)=true:=aw;exact Bm
       .have E:decide (4095<f/c)=false:=aw;refine Bn λz=>?_;obtain⟨o,aU⟩:=s.hc b (X (f/c));obtain⟨zS,zx⟩:=o.hc b (X (-(f/c)));refine MY λzj zR H F=>?_;have zP:((an .i64 64 (c3 b (jb d e g))).setIfInBounds b (X (f/c))).setIfInBounds b (X (-(f/c)))=an .i64 64 (c3 (b+1) (jb d e g)):=by exact MU
        exact MW
     .have zas:=EQ v (a:=c) Z;have zav:=EP (c:=v) (d:=c) Z Z;have zaq:=LW (c:=v) (d:=c) Z Z;rw[YS Z Z]at l;have zak:decide (v<0)=false:=aw;go_wp2_with fail
      refine MX λk C s m Q zf zw zQ=>?_;by_cases D:c-v%c<=v%c
      .have zT:decide (c-v%c<=v%c)=true:=w3;rw[ae D]at l;by_cases zU:4095<v/c+1
       .have E:decide (4095<v/c+1)=true:=aw;exact Bm
       .have E:decide (4095<v/c+1)=false:=aw;refine Bn λz=>?_;obtain⟨o,aU⟩:=s.hc b (X (v/c+1));exact MV
      .have zT:decide (c-v%c<=v%c)=false:=w3;rw[M D]at l;rw[Fw]at l;by_cases zU:4095<v/c
       .have E:decide (4095<v/c)=true:=aw;exact Bm
       .have E:decide (4095<v/c)=false:=aw;refine Bn λz=>?_;obtain⟨o,aU⟩:=s.hc b (X (v/c));exact MV
    .obtain rfl:b=64:=Z;rw[oE Z]at r;have q:=Y (Ft d e g z7.out z8.out);exact MT
theorem MZ(b a:Int)(h:0<a):-a<=2*((2*b+a)/(2*a)*a-b)/\2*((2*b+a)/(2*a)*a-b)<=a:=by
 have e:=AH (2*b+a) (2*a);have g:=AI (2*b+a) (show 2*a≠0 from Z);have f:=AJ (2*b+a) (show 0<2*a from Z);generalize (2*b+a)/(2*a)=c at*;have d:2*a*c=2*(c*a):=by rw[qO,Int.mul_comm a c]
 rw[d]at e;omega
theorem ZO(b a:Int)(c:0<a):-a<=2*(aR b a*a-b)/\2*(aR b a*a-b)<=a:=by
 unfold aR;split
 .have:=MZ (-b) a c;rw[Int.neg_mul];omega
 .exact MZ b a c
theorem ZP{b a c:Int}(f:0<a)(h:-(c*a)<=b/\b<=c*a):-c<=aR b a/\aR b a<=c:=by
 have g:=ZO b a f;constructor
 .rcases(show aR b a< -c\/ -c<=aR b a from Z)with d|d
  .have e:aR b a*a<=(-c-1)*a:=ty Z Z;rw[Int.sub_mul,Int.neg_mul]at e;omega
  .exact d
 .rcases(show c<aR b a\/aR b a<=c from Z)with d|d
  .have e:(c+1)*a<=aR b a*a:=ty Z Z;rw[Int.add_mul]at e;omega
  .exact d
theorem ZQ:∀a:Fin 64,iE (a.val/8)*(iE (a.val%8)*255)<=4095*(8*iF a.val):=bm
theorem Fx{c:aj}(i:nK c 255)(g:hT t)(e:eD t r=true):iw (jb (aO c) t r) 4095 64=true:=by refine pn.2 λa b=>?_;have d:=Bi e;have f:=Bj e a b;have m:=Ak (b:=t a) ⟨f,(g a b).2⟩ d b;have l:=Ai b;have j:=KA i (a/8) (a%8) Z;rw[KB]at j;have k:=ZQ ⟨a,b⟩;simp only at k;have h:8*iF a<=t a*r*iF a:=ty (Eu ⟨f,(g a b).2⟩ d).1 Z;have n:4095*(8*iF a)<=4095*(t a*r*iF a):=rO h Z;unfold jb;exact ZP Z Z
theorem w4:(prog.info? 85).map (·.size)=some (ay c).size:=by rw[gr];kernel_rfl
theorem M0:prog.built 85 [(0,.agg (ay c))]=some (ay c):=ar
section
variable {l:Qak}{o:Qal}{h:Qax}{j:Act}{a:N}{n:Qaa}{m E:Qau}{p:Nat}{c:aD}
theorem w5(f:h.guard=none)(i:h.op=.box 85 m)(g:j.eval m=(ay c))(e:∀b d,ag d b 85 (ay c)->V [] a d->a.heap.size<=b->wpList prog l n o (j.put h.dst (ab b)) d):wpList prog l n (h::o) j a:=cx _ _ f i g rfl e
theorem oR(b:ag a p 85 (ay c))(e:h.guard=none)(g:h.op=.load 85 m)(f:j.eval m=ab p) (d:wpList prog l n o (j.put h.dst (ay c)) a):wpList prog l n (h::o) j a:=rN e 85 m g p f 85 _ (0,0) _ b underlying85 rfl (w4 _) d
theorem Fy(e:h.guard=none)(f:h.op=.build 85 #[(0,m)])(b:j.eval m=(ay c))(d:wpList prog l n o (j.put h.dst (ay c)) a):wpList prog l n (h::o) j a:=y4 e _ #[(0,m)] f (by simp[b,M0]) (by simpa[b,M0]using d)
end
def bH(a:aD):Int:=2*a.num*a.fe
def kk(a:aD)(b:Int):Int:=a.eV*a.den*b
def cy(b:aD)(a:Int):Int:=2*b.num*a
structure Ok(a:aD):Prop where
 num:1<=a.num/\a.num<=1048576
 den:1<=a.den/\a.den<=65536
 eV:1<=a.eV/\a.eV<=16777216
 fe:1<=a.fe/\a.fe<=8388608
theorem et.ok{b:aD}(a:et b):Ok b:=by unfold et at a;obtain⟨_,_,_,_,_,_,_,h,i,j,c,d,f,e,g,_⟩:=a;exact⟨⟨i,j⟩,⟨h.1,c⟩,⟨d,f⟩,⟨e,g⟩⟩
theorem Bo{a:aD}(b:Ok a):2<=bH a/\bH a<=17592186044416:=by have c:=b.num;have d:=b.fe;have:=rY (a:=a.num) (A:=a.fe) (J:=1048576) (G:=8388608) Z Z;have f:bH a=2*(a.num*a.fe):=qO _ _ _;have e:1*1<=a.num*a.fe:=wm c.1 d.1 Z Z;omega
theorem M1{b:aD}(c:Ok b){a:Int}(d:0<=a/\a<=8388608):0<=cy b a/\cy b a<=17592186044416:=by have f:=c.num;have:=rY (a:=b.num) (A:=a) (J:=1048576) (G:=8388608) Z d;have e:cy b a=2*(b.num*a):=qO _ _ _;omega
theorem Fz{a:aD}(c:Ok a){b:Int}(d:0<=b/\b<=3):0<=kk a b/\kk a b<=3298534883328:=by have e:=c.eV;have f:=c.den;have:=rY (rY (a:=a.eV) (A:=a.den) (J:=16777216) (G:=65536) Z Z) d;unfold kk;omega
theorem M2{a:aD}(b:Ok a):0<=a.eV*a.den/\a.eV*a.den<=1099511627776:=by have d:=b.eV;have c:=b.den;have:=rY (a:=a.eV) (A:=a.den) (J:=16777216) (G:=65536) Z Z;omega
theorem M3(a:i:=by
 go_in;go_wp2_with(refine w5 (c:=c) rfl rfl rfl ?_;intro l n f e k;obtain⟨r,q,o,s,p,t,m⟩:=f.aQ)
 go_ret;exact⟨rfl,e⟩):i:=a
theorem M4(b:Ok c):Calls prog 51 #[ay c] a λd g=>d=.returned (X (2*c.num))/\V [] a g:=by have h:=b.num;exact M3
theorem ZR(b:Ok c):Calls prog 26 #[ay c] a λh d=>h=.returned (X (bH c))/\V [] a d:=by
 have n:=b.num;have p:=b.fe;have l:=Bo b;unfold bH at l;go_in;go_wp2_with(refine w5 (c:=c) rfl rfl rfl ?_;intro i k e m u;obtain⟨o,w,s,x,t,q,g⟩:=e.aQ)
 have r:∀d,dU k d->d.cell? ⟨i,6,none⟩=some (.int .i64 c.fe):=λd b=>b.au g;refine Am ?_;refine Kw _ rfl rfl rfl (λa j=>j.ai e) underlying85 rfl (w4 _) ?_;simp only[az];refine tw (λa j=>Calls.Ad j (M4 a c b)) rfl (λa=>?_) ?_
 .go_simp;try rfl
 simp only[az];refine qJ ?_;refine rS ?_;intro d f;go_wp2_with fail
 go_ret;exact⟨rfl,m.ad f.S⟩
theorem M5(b:Ok c)(d:Int)(h:0<=d/\d<=3):Calls prog 25 #[ay c,X d] a λg j=>g=.returned (X (kk c d))/\V [] a j:=by have u:=b.eV;have x:=b.den;have i:=Fz b h;have w:=M2 b;unfold kk at i;exact M3
theorem M6(d:Ok c)(b:Int)(k:0<=b/\b<=8388608):Calls prog 24 #[ay c,X b] a λe j=>e=.returned (X (cy c b))/\V [] a j:=by
 have o:=d.num;have f:=M1 d k;unfold cy at f;go_in;go_wp2_with(first|(refine w5 (c:=c) rfl rfl rfl ?_;intro l n i h p)|(refine oR i rfl rfl rfl ?_))
 refine(M4 _ c d).mono ?_;rintro e m ⟨rfl,g⟩;go_wp2_with fail
 go_ret;exact⟨rfl,h.ad g⟩
theorem ZS(b:Ok c):Calls prog 38 #[ay c] a λd g=>d=.returned (X (2*c.num))/\V [] a g:=by
 have o:=b.num;go_in;go_wp2_with(refine oK (r:=c) rfl rfl rfl ?_;intro h j f e q;obtain⟨p,n,k,i,m,r,l⟩:=f.aQ)
 go_ret;exact⟨rfl,e⟩
def pM(a:aD):Int:=if aL a=true then bH a else 0
theorem M7(a:i:=by
 have e:=Y (show pM c=0 from by unfold pM;simp[b]);go_wp2_with fail
 go_ret;exact⟨aX Ending.returned (aX (Value.int IntKind.i64) e.out.symm),f⟩):i:=a
theorem ZT(k:nd c):Calls prog 14 #[ay c] a λh n=>h=.returned (X (pM c))/\V [] a n:=by
 go_in;go_wp2_with(first|(refine oK (r:=c) rfl rfl rfl ?_;intro p o i m q)|(refine wu i rfl rfl rfl ?_))
 refine(wv _ c k).mono ?_;rintro h s ⟨rfl,d⟩;have f:=m.ad d;have j:=i.S d U;cases b:aL c with
 |false=>exact M7
 |true=>
  have g:=(lD.1 b).ok;have e:=Y (show pM c=bH c from by unfold pM;simp[b]);go_wp2_with(first|(refine wu j rfl rfl rfl ?_)|(refine Fy (c:=c) rfl rfl rfl ?_))
  refine Bp λr l=>?_;go_wp2_with fail
  go_ret;exact⟨aX Ending.returned (aX (Value.int IntKind.i64) e.out.symm),f.ad l⟩
theorem M8(r:nd c):Calls prog 13 #[ay c] a λk d=>k=.returned (X (pM c))/\V [] a d:=by
 go_in;go_wp2_with(first|(refine oK (r:=c) rfl rfl rfl ?_;intro q x l t D)|(refine wu l rfl rfl rfl ?_))
 refine(Lq _ c r).mono ?_;rintro k m ⟨rfl,h⟩;have f:=t.ad h;have i:=l.S h U;cases b:aL c with
 |false=>exact M7
 |true=>
  have g:=(lD.1 b).ok;have e:=Y (show pM c=bH c from by unfold pM;simp[b]);obtain⟨u,E,B,F,C,z,p⟩:=i.aQ;have A:∀d,dU m d->d.cell? ⟨q,6,none⟩=some (.int .i64 c.fe):=λd o=>o.au p;have w:=g.num;have y:=g.fe;have s:=Bo g;unfold bH at s;go_wp2_with fail
  refine Ac (dU m) ar ar dU.refl ?_;refine Kw _ rfl rfl rfl (λa j=>j.ai i) underlying26 rfl (EB _) ?_;simp only[az];refine tw (λa j=>Calls.Ad j (ZS a c g)) rfl (λa=>?_) ?_
  .go_simp;try rfl
  simp only[az];refine qJ ?_;refine rS ?_;intro d n;go_wp2_with fail
  go_ret;exact⟨aX Ending.returned (aX (Value.int IntKind.i64) e.out.symm),f.ad n.S⟩
section
variable {l:Qak}{o:Qal}{h:Qax}{j:Act}{a:N}{n:Qaa}{m E:Qau}{p:Nat}{c:aD}{T G:Qat}{H:TypeDesc}
theorem FA(b:ag a p T (ay c))(e:cB h l j)(k:h.op=.load G m)(i:j.eval m=ab p)(q:prog.underlying G=some H)(ak:H.isRow=true) (f:(prog.info? G).map (·.size)=some (ay c).size) (d:wpList prog l n o (j.put h.dst (ay c)) a):wpList prog l n (h::o) j a:=nf λr g=>by rw[ae e];exact wp_load_row _ m k p i _ _ (0,0) _ b q (by cases H<;>first|rfl|cases ak) f (g _ _ d)
theorem Bq{d c:Nat}(e:a.rangeAt d c (hg b))(g:h.guard=none)(k:h.op=.load 56 m)(i:j.eval m=.pointer (some ⟨d,c,none⟩)) (f:wpList prog l n o (j.put h.dst (.agg (hg b).toArray)) a):wpList prog l n (h::o) j a:=wpList_load_mid g _ m k d c i (hg b) _ e underlying56 rfl ar f
theorem Br(e:h.guard=none)(f:h.op=.alloc 56)(d:∀b c,ag c b 56 (hg ⟨0,0,0,0⟩).toArray->V [] a c->a.heap.size<=b->wpList prog l n o (j.put h.dst (ab b)) c):wpList prog l n (h::o) j a:=cw (.agg (hg ⟨0,0,0,0⟩).toArray) _ e f ar rfl d
theorem Bs(d:ag a p 56 (hg b).toArray)(f:h.guard=none)(k:h.op=.store 56 m E)(g:j.eval m=ab p)(i:j.eval E=.agg (hg D).toArray) (e:∀c,ag c p 56 (hg D).toArray->V [p] a c->c.heap.size=a.heap.size->wpList prog l n o (j.put h.dst undef) c):wpList prog l n (h::o) j a:=vR (hg D).toArray d f k g i ar rfl (by simp[hg,Value.oneCell']) e
end
theorem aF.kl{f:N}{e:List bi}{h:Nat}(m:aF f x 4 g (jO e))(j:e.length=g)(i:e[h]? =some b):∃d c,x=some ⟨d,c,none⟩/\f.rangeAt d (c+h*4) (hg b):=by
 obtain⟨d,c,rfl,n,o,p,k⟩:=m.un j i;refine⟨d,c,rfl,λl q a=>?_⟩;match l,a with
 |0,a=>simp[hg]at a;subst a;exact n
 |1,a=>simp[hg]at a;subst a;exact o
 |2,a=>simp[hg]at a;subst a;exact p
 |3,a=>simp[hg]at a;subst a;exact k
theorem ag.un{a:N}{c:Nat}{T:Qat}(d:ag a c T (hg b).toArray):a.cell? ⟨c,0,none⟩=some (.int .i64 b.a)/\a.cell? ⟨c,1,none⟩=some (.int .i64 b.b)/\a.cell? ⟨c,2,none⟩=some (.int .i64 b.c)/\a.cell? ⟨c,3,none⟩=some (.int .i64 b.d):=⟨d.au 0,d.au 1,d.au 2,d.au 3⟩
def iH(a:bi):Bool:=decide (0<=a.c)&&decide (a.c<=8388608)&&(decide (a.d=2)||decide (a.d=3))
def fS(c:aD)(a:List bi)(b:Int):Bool:=aL c&&(decide (0<=b)&&(decide (b<=bH c)&&(decide (a.length<=256)&&a.all iH)))
theorem ZU{a:List bi}(c:a[d]? =some b):(a.take (d+1)).all iH=((a.take d).all iH&&iH b):=by rw[AA,c];simp
theorem akW{a:List bi}(c:a[d]? =some b)(l:iH b=false):a.all iH=false:=by rw[List.all_eq_false];exact⟨b,bS c,pv⟩
theorem w6(a:iH b=true):0<=b.c/\b.c<=8388608/\(b.d=2\/b.d=3):=by simpa[iH,and_assoc]using a
theorem ZV{a:aD}{b:List bi}{c:Int}(d:aL a=false):fS a b c=false:=by unfold fS;rw[d];rfl
theorem ZW{c:aD}{b:List bi}{a:Int}(d:a<0):fS c b a=false:=by unfold fS;rw[e7 (p:=0<=a) Z];simp
theorem ZX{b:aD}{c:List bi}{a:Int}(d:bH b<a):fS b c a=false:=by unfold fS;rw[e7 (p:=a<=bH b) Z];simp
theorem ZY{c:aD}{a:List bi}{b:Int}(d:256<a.length):fS c a b=false:=by unfold fS;rw[e7 (p:=a.length<=256) Z];simp
theorem M9{c:aD}{b:List bi}{a:Int}(e:aL c=true)(g:0<=a)(d:a<=bH c)(f:b.length<=256):fS c b a=b.all iH:=by unfold fS;rw[e,fF g,fF d,fF f];simp
theorem ZZ(a:bi):(iH a=true/\decide (a.c<0)=false/\decide (8388608<a.c)=false/\((a.d !=2)=false\/((a.d !=2)=true/\(a.d !=3)=false)))\/(iH a=false/\(decide (a.c<0)=true\/(decide (a.c<0)=false/\decide (8388608<a.c)=true)\/(decide (a.c<0)=false/\decide (8388608<a.c)=false/\(a.d !=2)=true/\(a.d !=3)=true))):=by simp only[iH,dB,k5,Bool.and_eq_false_iff,tk,mX,decide_eq_false_iff_not,qA,ne_eq,FB];omega
theorem M'(a:i:=by
 go_wp2_with fail
 go_ret;exact⟨aX (λi=>Ending.returned (Value.bool i)) f.out.symm,C⟩):i:=a
theorem Na(a:i:=by
 go_wp2_with fail
 go_ret;exact⟨aX (λi=>Ending.returned (Value.bool i)) f.out.symm,P⟩):i:=a
theorem Z0(zu:nd c)(zb:Qae)(zh:Nat)(b:List bi)(d:Int)(zd:aF a zb 4 b.length (jO b)):Calls prog 23 #[ay c,.slice zb b.length zh,X d] a λh zz=>h=.returned (.bool (fS c b d))/\V [] a zz:=by
 have zn:=Y zd;clear zd;go_in;refine fE λzv zq=>?_;go_wp2_with(first|(clear zv;refine w5 (c:=c) rfl rfl rfl ?_;intro zD zB A zc zF)|(clear zq;refine FA A rfl rfl rfl underlying26 rfl (EB _) ?_))
 refine(wv _ c zu).mono ?_;rintro h zG ⟨rfl,n⟩;have C:=zc.ad n;have O:=A.S n U;clear zc n A;cases j:aL c with
 |false=>have f:=Y (ZV (b:=b) (c:=d) j);clear j;exact M'
 |true=>
  have g:=(lD.1 j).ok;have zt:=Y j;clear j;by_cases H:d<0
  .have f:=Y (ZW (c:=c) (b:=b) H);exact M'
  .have J:0<=d:=Z;have zw:decide (d<0)=false:=e7 H;clear H;have zx:True:=trivial;go_wp2_with(clear zx;refine FA O rfl rfl rfl underlying85 rfl (w4 _) ?_)
   refine Bp λr l=>?_;have P:=C.ad l;clear l C O;by_cases s:bH c<d
   .have f:=Y (ZX (c:=b) s);exact Na
   .have Q:d<=bH c:=Z;have zl:decide (bH c<d)=false:=e7 s;clear s;by_cases w:256<b.length
    .have f:=Y (ZY (c:=c) (b:=d) w);have ze:(256:Int)<(b.length:Int):=Z;clear w;exact Na
    .have f:=Y (M9 (b:=b) zt.out J Q Z);have ze:(b.length:Int)<=256:=Z;have zk:decide ((256:Int)<(b.length:Int))=false:=e7 Z;clear w;go_wp2_with fail
     clear J Q zw zl zk;go_loopw [30] (λp wr=>∃e:Nat,e<=b.length/\p=X e/\Hid ((b.take e).all iH=true)/\V [] a wr) (λp _=>b.length-(intOf p).toNat)
     .exact⟨0,jo _,rfl,rfl,P⟩
     .obtain⟨e,g,rfl,za,m⟩:=hrel;by_cases zf:e<b.length
      .obtain⟨x,B⟩:∃x,b[e]? =some x:=⟨_,cu zf⟩;obtain⟨i,zH,rfl,W⟩:=(zn.out.ad m).kl rfl B;have bC:=Y B;have zC:(e:Int)<(b.length:Int):=Z;clear B;rcases ZZ x with⟨k,E,L,y⟩|⟨k,y⟩
       .have zs:=Y ((ZU bC.out).trans (by rw[za.out,k]));clear k;rcases y with K|⟨K,zm⟩
        all_goals
         refine nb λo D G=>?_;go_wp2_with(first|(clear o;refine Bq W rfl rfl rfl ?_)|(clear D;refine Br rfl rfl ?_;intro zp zi F I t)|(clear G;refine Bs F rfl rfl rfl rfl ?_;intro zj q z zo;obtain⟨_,_,zr,zy⟩:=q.un))
         go_roundw
         .exact⟨e+1,Z,a8,zs,m.trans (V.own I z t) (b3.refl _ _)⟩
         .simp[intOf];omega
       .have u:=Y (akW bC.out k);clear k;rcases y with E|⟨E,L⟩|⟨E,L,K,zm⟩
        all_goals
         refine nb λo D G=>?_;go_wp2_with(first|(clear o;refine Bq W rfl rfl rfl ?_)|(clear D;refine Br rfl rfl ?_;intro zp zi F I t)|(clear G;refine Bs F rfl rfl rfl rfl ?_;intro zj q z zo;obtain⟨_,_,zr,zy⟩:=q.un))
         go_ret;exact⟨aX (λi=>Ending.returned (Value.bool i)) (f.out.trans u.out).symm,m.trans (V.own I z t) (b3.refl _ _)⟩
      .have zA:e=b.length:=Z;subst zA;have u:=Y (show b.all iH=true by have:=za.out;rwa[wK]at this);go_wp2_with fail
       go_ret;exact⟨aX (λi=>Ending.returned (Value.bool i)) (f.out.trans u.out).symm,m⟩
theorem Z1:dJ 85 (.agg (ay ⟨0,0,0,0,false,0,0,λ_=>0,λ_=>0⟩)):=dM
section
variable {l:Qak}{o:Qal}{h:Qax}{j:Act}{a:N}{n:Qaa}{m E:Qau}{p:Nat}{c:aD}
theorem Nb(e:h.guard=none)(f:h.op=.alloc 85)(d:∀b c,ag c b 85 (ay ⟨0,0,0,0,false,0,0,λ_=>0,λ_=>0⟩)->V [] a c->a.heap.size<=b->wpList prog l n o (j.put h.dst (ab b)) c):wpList prog l n (h::o) j a:=cw _ _ e f Z1 rfl d
theorem Nc{d:aD}(e:ag a p 85 (ay c))(g:h.guard=none)(q:h.op=.store 85 m E)(i:j.eval m=ab p)(k:j.eval E=(ay d)) (f:∀b,ag b p 85 (ay d)->V [p] a b->b.heap.size=a.heap.size->wpList prog l n o (j.put h.dst undef) b):wpList prog l n (h::o) j a:=vR _ e g q i k (w4 _) FC (pu _) f
end
def Nd(b:aD)(a:bi)(c:Int):Int:=cy b a.c+max 0 (c-kk b a.d)
def ui(a:aD):Int:=bH a-cy a 8
def bK(a:aD):List bi->Int->Option Int
 |[],g=>if g<=ui a then some g else none
 |b::f,g=>(bK a f g).bind λc=>if Nd a b c<=ui a then some (Nd a b c)else none
theorem uj{c:aD}{b:List bi}{a:Int}(e:fS c b a=true):aL c=true/\0<=a/\a<=bH c/\b.length<=256/\∀d∈b,iH d=true:=by simpa[fS,ke]using e
theorem Z2{a:Int}(b:0<=a)(c:0<w):0<=a.tdiv w/\a.tdiv w<=a/\w*a.tdiv w<=a/\a<w*a.tdiv w+w:=by rw[Int.tdiv_eq_ediv_of_nonneg b];have e:=AH a w;have f:=AI a (b:=w) Z;have d:=AJ a c;exact⟨Int.ediv_nonneg b Z,Int.ediv_le_self _ b,Z,Z⟩
def iI(a:List Int):Qam:=a.map (Value.int .i64)
theorem Z3(a:List Int):(iI a).length=a.length:=by simp[iI]
theorem Z4{b:List Int}{a:Int}(c:b[d]? =some a):(iI b)[d]? =some (.int .i64 a):=by simp[iI,c]
def b'(b:aD)(a:bi)(c:Int):Int:=c-cy b a.c+kk b a.d
def cn(a:aD)(b:Int)(c:Bool):Int:=if 0<b-bH a/\c=false then(b-bH a+cy a 8-1).tdiv (cy a 8)else 0
def hi(a:aD)(c:bi)(b:Int)(d:Bool):Int:=b' a c b-cy a 8*cn a (b' a c b) d
def eZ(a:aD):List bi->Int->Option (List Int×Int)
 |[],e=>some ([],e)
 |b::f,e=>if e<cy a b.c then none else(eZ a f (hi a b e f.isEmpty)).map λc=>(cn a (b' a b e) f.isEmpty::c.1,c.2)
def lc(c:aD)(a:List bi)(b:Int):List Int×Int:=if fS c a b=true then(match eZ c a b with|some d=>(d.1,0)|none=>([],9))else([],1)
theorem w7{a:aD}(b:Ok a):16<=cy a 8/\cy a 8<=16777216:=by have:=b.num;unfold cy;omega
theorem sl{d:aD}{b:Int}(a:b-bH d<=0\/f=true):cn d b f=0:=by
 unfold cn;rw[M];rintro⟨e,c⟩;rcases a with a|a
 .omega
 .rw[a]at c;cases c
theorem FD{a:aD}{b:Int}(c:0<b-bH a):cn a b false=(b-bH a+cy a 8-1).tdiv (cy a 8):=by unfold cn;rw[ae ⟨c,rfl⟩]
theorem Bt{a:aD}(c:Ok a){b:Int}(d:0<b-bH a):0<=cn a b false/\cn a b false<=b-bH a+cy a 8/\b-bH a<=cy a 8*cn a b false/\cy a 8*cn a b false<b-bH a+cy a 8:=by have e:=w7 c;rw[FD d];have:=Z2 (a:=b-bH a+cy a 8-1) (w:=cy a 8) Z Z;omega
theorem Nf{c:aD}{a:List bi}(h:a[d]? =some b)(g:Int):eZ c (a.drop d) g=if g<cy c b.c then none else(eZ c (a.drop (d+1)) (hi c b g (decide (a.length<=d+1)))).map λj=>(cn c (b' c b g) (decide (a.length<=d+1))::j.1,j.2):=by
 have i:d<a.length:=(e8.1 h).1;have l:a[d]=b:=by rw[cu i]at h;simpa using h
 rw[tN i,l];refine Ng λe=>?_;rw[eZ,e]
structure nX(e:aD)(c:List bi)(f:Int)(d:Nat)(g:Int)(a:List Int):Prop where
 len:a.length=d
 eq:eZ e c f=(eZ e (c.drop d) g).map λb=>(a++b.1,b.2)
theorem nX.dn(b:List bi)(a:Int):nX c b a 0 a []:=by refine⟨rfl,?_⟩;rw[uk];cases eZ c b a<;>simp
theorem nX.step{a:aD}{c:List bi}{g:Int}(h:nX a c g d e k)(l:c[d]? =some b)(i:¬e<cy a b.c)(f:Bool)(j:decide (c.length<=d+1)=f):nX a c g (d+1) (hi a b e f) (k++[cn a (b' a b e) f]):=by refine⟨by simp[h.len],?_⟩;rw[h.eq,Nf l,M i,j,Option.map_map];congr 1;funext A;simp
theorem nX.fail{c:aD}{a:List bi}{f:Int}(h:nX c a f d e k)(i:a[d]? =some b)(g:e<cy c b.c):eZ c a f=none:=by rw[h.eq,Nf i,ae g];rfl
theorem nX.done{c:aD}{a:List bi}{b:Int}(d:nX c a b a.length e k):eZ c a b=some (k,e):=by rw[d.eq,List.drop_length];simp[eZ]
theorem Nh{a:aD}:hi a b e true=b' a b e:=by unfold hi;rw[sl (.inr rfl)];omega
theorem FE{a:aD}(c:b' a b e-bH a<=0):hi a b e f=b' a b e:=by unfold hi;rw[sl (.inl c)];omega
theorem FF{a:aD}(d:Ok a){b:bi}{c:Int}:hi a b c false<=bH a:=by
 by_cases e:0<b' a b c-bH a
 .have:=Bt d e;unfold hi;omega
 .rw[FE Z];omega
theorem Ni{c:aD}{a:List bi}{b:Int}(d:fS c a b=false):lc c a b=([],1):=by unfold lc;rw[M nj]
theorem Nj{c:aD}{b:List bi}{a:Int}(e:fS c b a=true)(d:eZ c b a=none):lc c b a=([],9):=by unfold lc;rw[ae e,d]
theorem Nk{c:aD}{b:List bi}{a:Int}(f:fS c b a=true)(d:eZ c b a=some (k,e)):lc c b a=(k,0):=by unfold lc;rw[ae f,d]
theorem Z5(c:k.length=d)(f:d<g)(b:Int):((iI (k++List.replicate (g-d) 0)).toArray).setIfInBounds d (X b)=(iI ((k++[b])++List.replicate (g-(d+1)) 0)).toArray:=by obtain⟨a,e⟩:∃a,g-d=a+1:=⟨g-d-1,Z⟩;rw[e,show g-(d+1)=a from Z,r4,cb];congr 1;subst c;simp[iI]
theorem Nl(c:d<g):k++List.replicate (g-d) 0=(k++[0])++List.replicate (g-(d+1)) (0:Int):=by obtain⟨a,b⟩:∃a,g-d=a+1:=⟨g-d-1,Z⟩;rw[b,show g-(d+1)=a from Z,r4];simp
theorem aF.Z6{c:N}{b:Nat}{f:Qat}{a:Qam}(e:ag c b f a.toArray):aF c (some ⟨b,0,none⟩) 1 a.length a:=⟨Z,λ_=>⟨_,rfl,λg h d=>by rw[ox,e.au];simpa using d⟩⟩
theorem Z7:kz 2 (.int .i64 0) 1 8:=k7
def pN(c:aD)(b:List bi)(a:Int)(g:N)(h:Ending)(e:N):Prop:=∃d f,h=.returned (.tuple #[.slice d (lc c b a).1.length f,X (lc c b a).2])/\aF e d 1 (lc c b a).1.length (iI (lc c b a).1)/\V [] g e
theorem pN.of{d:aD}{c:List bi}{a:Int}{b:N}(f:lc d c a=(k,u))(e:g=k.length)(h:aF q x 1 g (iI k))(i:V [] b q):pN d c a b (.returned (.tuple #[.slice x g B,X u])) q:=by subst e;unfold pN;rw[f];exact⟨x,B,rfl,h,i⟩
theorem Z8(a:bi)(b:Int):b+(kk c a.d-cy c a.c)=b' c a b:=by unfold b';omega
theorem Z9(zz:nd c)(zx:Qae)(C:Nat)(e:List bi)(i:Int)(zah:aF a zx 4 e.length (jO e)):Calls prog 8 #[ay c,.slice zx e.length C,X i] a (pN c e i a):=by
 obtain⟨zad,zF,zP,zG,G⟩:=k8 Z7;have I:=Y zah;go_in;go_wp2_with(first|(refine oK (r:=c) rfl rfl rfl ?_;intro zaJ zaF zac zD zaV)|(refine wu zac rfl rfl rfl ?_)|(refine Fy (c:=c) rfl rfl rfl ?_)|(refine Nb rfl rfl ?_;intro zaW zaK zaa zr zC)|(refine Nc (d:=c) zaa rfl rfl rfl rfl ?_;intro r zb l za0)|(refine oR zb rfl rfl rfl ?_))
 refine Nn λy u x j B=>?_;cases zf:fS c e i with
 |false=>
  have A:=Y (Ni zf);go_wp2_with fail
  go_ret2;exact pN.of A.out rfl aF.none_ j
 |true=>
  obtain⟨zam,zaH,zal,zaO,zab⟩:=uj zf;have g:=(lD.1 zam).ok;have ao:=Y zf;have zV:=Y zab;have zax:=Bo g;have zaq:=w7 g;go_wp2_with(at_make;refine qt _ rfl _ _ 42 rfl 2 zad (X 0) underlying42 zF zP zG rfl _ _ _ _ e.length rfl rfl Z Z ng ib ?_)
  intro zN zw zK z7;generalize zaw:u.heap.size=aA at zw z7;have z':u.heap.size<=aA:=Z;have zR:=Y (show ag zN aA 2 (iI (List.replicate e.length 0)).toArray by unfold iI;rw[List.map_replicate];exact zw);go_wp2_with fail
  go_loopw [10,29] (λd zd wr=>∃f:Nat,f<=e.length/\zd=X f/\∃z:Int,d=X z/\-17592186044416<=z/\z<=35184372088832/\(f<e.length->z<=bH c)/\∃E,Hid (nX c e i f z E)/\Hid (ag wr aA 2 (iI (E++List.replicate (e.length-f) 0)).toArray)/\V [] u wr) (λ_ zd _=>e.length-(intOf zd).toNat)
  .exact⟨0,jo _,rfl,i,rfl,Z,Z,λ_=>zal,[],nX.dn _ _ _,zR,zK⟩
  .obtain⟨f,zaI,rfl,d,rfl,zaG,zas,zZ,E,t,zt,m⟩:=hrel;by_cases D:f<e.length
   .have zaB:=zZ D;obtain⟨b,zj⟩:∃b,e[f]? =some b:=⟨_,cu D⟩;obtain⟨w,zay,rfl,zJ⟩:=(I.out.ad (j.ad m)).kl rfl zj;have k:=w6 (zV.out b (bS zj));refine FG λL P=>?_;have bC:=Y zj;have J:=B.S m U;have zaQ:(f:Int)<(e.length:Int):=Z;go_wp2_with(first|(refine Bq zJ rfl rfl rfl ?_)|(refine Br rfl rfl ?_;intro zaA zaR zW O W)|(refine Bs zW rfl rfl rfl rfl ?_;intro zaz za Q zaL;obtain⟨_,_,zaS,zL⟩:=za.un)|(refine oR (J.S (V.own O Q W) U) rfl rfl rfl ?_))
    refine No λK zl H F o s n=>?_;have zM:=Y (zt.out.S o U);by_cases zh:d<cy c b.c
    .have A:=Y (Nj ao.out (t.out.fail bC.out zh));go_wp2_with fail
     go_ret2;exact pN.of A.out rfl aF.none_ (j.ad s)
    .have zat:decide (d<cy c b.c)=false:=e7 zh;have ze:=Y (λzI zS=>t.out.step bC.out zh zI zS);have zaE:cy c b.c<=d:=Z;obtain⟨_,_,_,zL⟩:=F.un;go_wp2_with(refine oR n rfl rfl rfl ?_)
     refine(M5 _ c g b.d Z).mono ?_;rintro h zaD ⟨rfl,zn⟩;have zO:=s.ad zn;have zu:=n.S zn U;have zT:=Y (zM.out.S zn U);go_wp2_with(refine oR zu rfl rfl rfl ?_)
     rw[Z8];have zar:0<=b' c b d/\b' c b d<=bH c+3298534883328:=by unfold b';omega
     refine Bp λzap zi=>?_;have zq:=zO.ad zi;have zai:=zu.S zi U;have zo:=Y (zT.out.S zi U);by_cases zc:0<b' c b d-bH c
     .by_cases zae:f+1<e.length
      .have zH:decide ((f:Int)<(e.length:Int)-1)=true:=fF Z;have q:=Y (ze.out false (e7 Z));go_wp2_with(refine oR zai rfl rfl rfl ?_)
       refine(M6 _ c g 8 Z).mono ?_;rintro h zaZ ⟨rfl,zv⟩;have zU:=zq.ad zv;have zk:=zo.out.S zv U;have zaC:=Bt g zc;have zao:=FF g (b:=b) (c:=d);have zaT:=Y (FD zc);have zaP:(b' c b d-bH c+cy c 8-1).tdiv (cy c 8)=cn c (b' c b d) false:=(FD zc).symm;have zaX:cn c (b' c b d) false*cy c 8=cy c 8*cn c (b' c b d) false:=Int.mul_comm _ _;have z8:=zk.au f;have zaU:=zk.eA f;obtain⟨zm,aU⟩:=zk.hc f (X (cn c (b' c b d) false));rw[Z5 t.out.len D]at zm;have zan:=zm.au f;have zQ:=Y (zU.own aU z');have p:=Y zm;have zy:=t.out.len;have zaf:((iI (E++List.replicate (e.length-f) 0)).toArray)[f]? =some (.int .i64 0):=by obtain⟨zs,zX⟩:∃zs,e.length-f=zs+1:=⟨e.length-f-1,Z⟩;rw[zX,r4];subst zy;simp[iI]
       have z6:((iI ((E++[cn c (b' c b d) false])++List.replicate (e.length-(f+1)) 0)).toArray)[f]? =some (.int .i64 (cn c (b' c b d) false)):=by subst zy;simp[iI]
       rw[zaf]at z8;rw[z6]at zan;have zaN:b' c b d-cy c 8*cn c (b' c b d) false=hi c b d false:=rfl;generalize cn c (b' c b d) false=zp at*;generalize hi c b d false=cf at*;generalize b' c b d=zau at*;have zav:0<=cy c 8*zp/\cy c 8*zp<=35184372088832:=Z;generalize cy c 8*zp=zaM at*;go_wp2_with fail
       go_roundw
       .exact⟨f+1,Z,a8,_,rfl,Z,Z,λ_=>zao,_,q,p,zQ.out⟩
       .simp[intOf];omega
      .have zH:decide ((f:Int)<(e.length:Int)-1)=false:=e7 Z;have q:=Y (ze.out true (fF Z));rw[Nh,sl (.inr rfl)]at q;have p:=zo;rw[Nl D]at p;go_wp2_with fail
       go_roundw
       .exact⟨f+1,Z,a8,_,rfl,Z,Z,λzaj=>absurd zaj zae,_,q,p,zq⟩
       .simp[intOf];omega
     .have zaY:decide (0<b' c b d-bH c)=false:=e7 zc;have q:=Y (ze.out _ rfl);rw[FE Z,sl (.inl Z)]at q;have p:=zo;rw[Nl D]at p;go_wp2_with fail
      go_roundw
      .exact⟨f+1,Z,a8,_,rfl,Z,Z,λ_=>Z,_,q,p,zq⟩
      .simp[intOf];omega
   .have z1:f=e.length:=Z;subst z1;have A:=Y (Nk ao.out t.out.done);have zB:=Y t.out.len;go_wp2_with fail
    go_ret2;refine pN.of A.out zB.out.symm ?_ (j.ad m);have zA:=zt.out;rw[lF,wQ,eG]at zA;have:=aF.Z6 zA;rwa[Z3,zB.out]at this
theorem ul{g:aD}:∀(h:List bi){d:Int}{c:List Int×Int},eZ g h d=some c->c.1.length=h.length
 |[],d,c,a=>by simp only[eZ,iA]at a;subst a;rfl
 |b::f,d,c,a=>by
  simp only[eZ]at a;split at a
  .cases a
  .cases e:eZ g f (hi g b d f.isEmpty)with
   |none=>rw[e]at a;cases a
   |some r=>rw[e]at a;simp only[hU,iA]at a;subst a;simp[ul f e]
theorem Z'(a:List bi)(b:Int):(lc c a b=([],1)/\fS c a b=false)\/(fS c a b=true/\lc c a b=([],9)/\eZ c a b=none)\/(fS c a b=true/\∃d,lc c a b=(d.1,0)/\eZ c a b=some d/\d.1.length=a.length):=by
 cases h:fS c a b with
 |false=>exact .inl ⟨Ni h,rfl⟩
 |true=>
  cases e:eZ c a b with
  |none=>exact .inr (.inl ⟨rfl,Nj h e,rfl⟩)
  |some d=>exact .inr (.inr ⟨rfl,d,Nk h e,rfl,ul a e⟩)
theorem aF.int{f:N}{g:Qae}{a:List Int}{d:Nat}{e:Int}(j:aF f g 1 a.length (iI a))(h:a[d]? =some e):∃c b,g=some ⟨c,b,none⟩/\f.cell? ⟨c,b+d,none⟩=some (.int .i64 e):=by have k:d<a.length:=(e8.1 h).1;obtain⟨c,b,rfl,i⟩:=j.plain Z Z;exact⟨c,b,rfl,i _ _ (Z4 h)⟩
def bV(a:aD)(c:bi)(b:Int)(d:Bool):Bool:=decide (b<cy a c.c)||(!d&&decide (bH a<b' a c b))
def mu(a:aD):List bi->Int->List (Int×Int)⊕Nat
 |[],_=>.inl []
 |b::f,e=>if bV a b e f.isEmpty=true then .inr 0 else match mu a f (b' a b e)with|.inl s=>.inl ((e,b' a b e)::s)|.inr c=>.inr (c+1)
def kH(e:aD)(c:List bi)(a:Int):List (Int×Int)×Int:=match mu e c a with|.inl d=>(d,-1)|.inr b=>([],(b:Int))
def nk(a:Int×Int):Qam:=[.int .i64 a.1,.int .i64 a.2]
def jU(a:List (Int×Int)):Qam:=a.flatMap nk
theorem aaa(b a:List (Int×Int)):jU (b++a)=jU b++jU a:=by simp[jU]
theorem Np(c:List (Int×Int)):∀b∈jU c,b.oneCell'=true:=by intro b a;simp only[jU,um,nk,bu,eC,kI]at a;obtain⟨d,_,rfl|rfl⟩:=a<;>rfl
theorem aab{a:aD}(c:e<cy a b.c):bV a b e f=true:=by unfold bV;rw[fF c];rfl
theorem Nq{a:aD}(c:¬e<cy a b.c):bV a b e true=false:=by unfold bV;rw[e7 c];rfl
theorem FH{a:aD}(c:¬e<cy a b.c):bV a b e false=decide (bH a<b' a b e):=by unfold bV;rw[e7 c];rfl
theorem Nr{g:aD}{a:List bi}{d:Nat}{b:bi}(h:a[d]? =some b)(c:Int):mu g (a.drop d) c=if bV g b c (decide (a.length<=d+1))=true then .inr 0 else match mu g (a.drop (d+1)) (b' g b c)with|.inl s=>.inl ((c,b' g b c)::s)|.inr j=>.inr (j+1):=by
 have i:d<a.length:=(e8.1 h).1;have l:a[d]=b:=by rw[cu i]at h;simpa using h
 rw[tN i,l];refine Ng λe=>?_;rw[mu,e]
def yJ(c:List (Int×Int))(a:Nat):List (Int×Int)⊕Nat->List (Int×Int)⊕Nat
 |.inl f=>.inl (c++f)
 |.inr b=>.inr (a+b)
structure nY(d:aD)(b:List bi)(e:Int)(a:Nat)(f:Int)(c:List (Int×Int)):Prop where
 len:c.length=a
 eq:mu d b e=yJ c a (mu d (b.drop a) f)
theorem nY.dn(b:List bi)(a:Int):nY c b a 0 a []:=by refine⟨rfl,?_⟩;rw[uk];cases mu c b a<;>simp[yJ]
theorem nY.step{a:aD}{c:List bi}{f:Int}(g:nY a c f d e s)(k:c[d]? =some b)(h:Bool)(j:decide (c.length<=d+1)=h)(i:bV a b e h=false):nY a c f (d+1) (b' a b e) (s++[(e,b' a b e)]):=by
 refine⟨by simp[g.len],?_⟩;rw[g.eq,Nr k,j,M (by simp[i])];cases mu a (c.drop (d+1)) (b' a b e)with
 |inl l=>simp[yJ]
 |inr m=>simp only[yJ];congr 1;omega
theorem nY.fail{c:aD}{a:List bi}{f:Int}(j:nY c a f d e s)(k:a[d]? =some b)(g:Bool)(i:decide (a.length<=d+1)=g)(h:bV c b e g=true):kH c a f=([],(d:Int)):=by unfold kH;rw[j.eq,Nr k,i,ae h];rfl
theorem nY.done{c:aD}{a:List bi}{b:Int}(d:nY c a b a.length e s):kH c a b=(s,-1):=by unfold kH;rw[d.eq,List.drop_length];simp[mu,yJ]
def nZ(c:aD)(b:List bi)(a:Int)(g:N)(h:Ending)(e:N):Prop:=∃d f,h=.returned (.tuple #[.slice d (kH c b a).1.length f,X (kH c b a).2])/\aF e d 2 (kH c b a).1.length (jU (kH c b a).1)/\V [] g e
theorem nZ.of{e:aD}{d:List bi}{b:Int}{c:N}{a:List (Int×Int)}(h:kH e d b=(a,u))(f:g=a.length)(i:aF q x 2 g (jU a))(j:V [] c q):nZ e d b c (.returned (.tuple #[.slice x g B,X u])) q:=by subst f;unfold nZ;rw[h];exact⟨x,B,rfl,i,j⟩
theorem nZ.FI{g:aD}{f:List bi}{c:Int}{d:N}{a:List (Int×Int)}(i:kH g f c=(a,u))(b:nZ g f c d F q):∃e h,F=.returned (.tuple #[.slice e a.length h,X u])/\aF q e 2 a.length (jU a)/\V [] d q:=by unfold nZ at b;rwa[i]at b
theorem aac:kz 151 (.agg (nk (0,0)).toArray) 2 16:=k7
theorem Ns(b:List (Int×Int))(a:Int×Int):jU (b++[a])=jU b++nk a:=by rw[aaa];simp[jU]
theorem aad(g:Ok c)(i:Qae)(x:Nat)(f:List bi)(p:Int)(zO:aF a i 4 f.length (jO f))(zad:0<=p)(zR:p<=bH c)(zah:f.length<=256)(zL:∀b∈f,iH b=true):Calls prog 33 #[ay c,.slice i f.length x,X p] a (nZ c f p a):=by
 obtain⟨D,y,B,z,zt⟩:=k8 aac;have zx:=Y zO;have zF:=Y zL;have z1:=Bo g;go_in;go_wp2_with(refine w5 (c:=c) rfl rfl rfl ?_;intro zaf zr zM G zam)
 go_loopw [6,8,16] (λzJ d zb wr=>∃e:Nat,e<=f.length/\zb=X e/\∃t:Int,d=X t/\0<=t/\t<=35184372088832/\(e<f.length->t<=bH c)/\∃zj,Hid (nY c f p e t zj)/\∃i x,zJ=.slice i e x/\Hid (wr.ownsRow 0 151 2 (.slice i e x) e (jU zj))/\V [] zr wr/\b3 zr [] (dL (.slice i e x))) (λ_ _ zb _=>f.length-(intOf zb).toNat)
 .exact⟨0,jo _,rfl,p,rfl,Z,Z,λ_=>zR,[],nY.dn _ _ _,none,0,rfl,EW _ _ _ _,V.refl _ _,by simp[b3,dL,Value.ownBlock]⟩
 .obtain⟨e,zae,rfl,d,rfl,zac,zX,zH,zj,j,z8,zW,rfl,zs,m,C⟩:=hrel;by_cases zq:e<f.length
  .have zaa:=zH zq;obtain⟨b,ze⟩:∃b,f[e]? =some b:=⟨_,cu zq⟩;obtain⟨w,z6,rfl,zz⟩:=(zx.out.ad (G.ad m)).kl rfl ze;have k:=w6 (zF.out b (bS ze));refine FG λL P=>?_;have bC:=Y ze;have J:=zM.S m U;have zai:(e:Int)<(f.length:Int):=Z;go_wp2_with(first|(refine Bq zz rfl rfl rfl ?_)|(refine Br rfl rfl ?_;intro z' zaj zG O W)|(refine Bs zG rfl rfl rfl rfl ?_;intro z7 za Q zag;obtain⟨_,_,zal,zC⟩:=za.un)|(refine oR (J.S (V.own O Q W) U) rfl rfl rfl ?_))
   refine No λK zl H F o s n=>?_;have zw:=Y (qq zs.out o (λ_ _=>eC));obtain⟨_,_,_,zC⟩:=F.un;go_wp2_with(refine oR n rfl rfl rfl ?_)
   refine(M5 _ c g b.d Z).mono ?_;rintro h zab ⟨rfl,zh⟩;have A:=s.ad zh;have zA:=n.S zh U;have zo:=Y (qq zw.out zh (λ_ _=>eC));have zV:d-cy c b.c+kk c b.d=b' c b d:=rfl;by_cases zn:d<cy c b.c
   .have u:=Y (j.out.fail bC.out _ rfl (aab zn));go_wp2_with fail
    go_ret2;exact nZ.of u.out rfl aF.none_ (G.ad A)
   .have zZ:decide (d<cy c b.c)=false:=e7 zn;have E:0<=b' c b d/\b' c b d<=35184372088832:=Z;by_cases zN:e+1<f.length
    .have zy:(e:Int)<(f.length:Int)-1:=Z;go_wp2_with(refine FA zA rfl rfl rfl underlying85 rfl (w4 _) ?_)
     refine Bp λzU zp=>?_;have zk:=A.ad zp;have zc:=qq zo.out zp (λ_ _=>eC);by_cases zu:bH c<b' c b d
     .have u:=Y (j.out.fail bC.out false (e7 Z) (by rw[FH (a:=c) (b:=b) (e:=d) Z];exact fF zu));go_wp2_with fail
      go_ret2;exact nZ.of u.out rfl aF.none_ (G.ad zk)
     .have zS:decide (bH c<b' c b d)=false:=e7 zu;have zi:=Y (j.out.step bC.out false (e7 Z) (by rw[FH (a:=c) (b:=b) (e:=d) Z];exact zS));have zD:b' c b d<=bH c:=Z;have zf:True:=trivial;go_wp2_with(first|(clear zf;refine Lz rfl 63 151 _ rfl (i:=(nk (d,b' c b d)).toArray) rfl D (.agg (nk (0,0)).toArray) underlying63 y B z rfl rfl R ?_)|(at_builtin;refine JI _ rfl _ _ 63 rfl 151 D (.agg (nk (0,0)).toArray) 2 16 underlying63 y B z zt rfl R _ _ _ _ rfl (zc.alloc _) _ 1 1 (nk (d,b' c b d)) rfl ?zc1 ?zc2 ?zc3 ?zc4 ?_))
      case zc1=>exact⟨rfl,λ_=>⟨_,rfl,λzB q k=>Nt⟩⟩
      case zc2=>intro q k;exact Np [(d,b' c b d)] q (by simpa[jU]using k)
      case zc3=>unfold maxLen;omega
      case zc4=>omega
      intro zQ zv zT zm zd I;go_wp2_with fail
      go_roundw
      .exact⟨e+1,Z,a8,_,rfl,E.1,E.2,λ_=>zD,_,zi,_,_,rfl,(by rw[Ns];exact zm),(zk.alloc _).trans zd C,b3.trans C (b7 zk.size U) I⟩
      .simp[intOf];omega
    .have zy:(f.length:Int)-1<=(e:Int):=Z;have zi:=Y (j.out.step bC.out true (fF Z) (Nq (a:=c) (b:=b) (e:=d) Z));have zc:=zo.out;have zf:True:=trivial;go_wp2_with(first|(clear zf;refine Lz rfl 63 151 _ rfl (i:=(nk (d,b' c b d)).toArray) rfl D (.agg (nk (0,0)).toArray) underlying63 y B z rfl rfl R ?_)|(at_builtin;refine JI _ rfl _ _ 63 rfl 151 D (.agg (nk (0,0)).toArray) 2 16 underlying63 y B z zt rfl R _ _ _ _ rfl (zc.alloc _) _ 1 1 (nk (d,b' c b d)) rfl ?zc1 ?zc2 ?zc3 ?zc4 ?_))
     case zc1=>exact⟨rfl,λ_=>⟨_,rfl,λzB q k=>Nt⟩⟩
     case zc2=>intro q k;exact Np [(d,b' c b d)] q (by simpa[jU]using k)
     case zc3=>unfold maxLen;omega
     case zc4=>omega
     intro zQ zv zT zm zd I;go_wp2_with fail
     go_roundw
     .exact⟨e+1,Z,a8,_,rfl,E.1,E.2,λzP=>absurd zP zN,_,zi,_,_,rfl,(by rw[Ns];exact zm),(A.alloc _).trans zd C,b3.trans C (b7 A.size U) I⟩
     .simp[intOf];omega
  .have zI:e=f.length:=Z;subst zI;have u:=Y j.out.done;have zK:=Y j.out.len;go_wp2_with fail
   go_ret2;exact nZ.of u.out zK.out.symm (aF.nG zs.out) (G.ad m)
def mv(c:aD)(a:List bi)(b:Int):List (Int×Int)×Int:=if fS c a b=true then(if 0<=(kH c a b).2 then([],9)else((kH c a b).1,0))else([],1)
section
variable {c:aD}{y:List bi}{z:Int}{s:List (Int×Int)}{bV:Int}
theorem aae(d:fS c y z=false):mv c y z=([],1):=by unfold mv;rw[M nj]
theorem aaf(b:fS c y z=true)(a:kH c y z=(s,bV))(d:0<=bV):mv c y z=([],9):=by unfold mv;rw[ae b,a,ae d]
theorem Nu(b:fS c y z=true)(a:kH c y z=(s,bV))(d:¬0<=bV):mv c y z=(s,0):=by unfold mv;rw[ae b,a,M d]
end
def n0(c:aD)(b:List bi)(a:Int)(g:N)(h:Ending)(e:N):Prop:=∃d f,h=.returned (.tuple #[.slice d (mv c b a).1.length f,X (mv c b a).2])/\aF e d 2 (mv c b a).1.length (jU (mv c b a).1)/\V [] g e
theorem n0.of{e:aD}{d:List bi}{b:Int}{c:N}{a:List (Int×Int)}(h:mv e d b=(a,u))(f:g=a.length)(i:aF q x 2 g (jU a))(j:V [] c q):n0 e d b c (.returned (.tuple #[.slice x g B,X u])) q:=by subst f;unfold n0;rw[h];exact⟨x,B,rfl,i,j⟩
theorem n0.FI{g:aD}{f:List bi}{c:Int}{d:N}{a:List (Int×Int)}(i:mv g f c=(a,u))(b:n0 g f c d F q):∃e h,F=.returned (.tuple #[.slice e a.length h,X u])/\aF q e 2 a.length (jU a)/\V [] d q:=by unfold n0 at b;rwa[i]at b
theorem aag(zz:nd c)(g:Qae)(C:Nat)(e:List bi)(i:Int)(H:aF a g 4 e.length (jO e)):Calls prog 11 #[ay c,.slice g e.length C,X i] a (n0 c e i a):=by
 have I:=Y H;go_in;go_wp2_with(first|(refine oK (r:=c) rfl rfl rfl ?_;intro Q O E zD za)|(refine wu E rfl rfl rfl ?_)|(refine Fy (c:=c) rfl rfl rfl ?_)|(refine Nb rfl rfl ?_;intro zd zc t zr zC)|(refine Nc (d:=c) t rfl rfl rfl rfl ?_;intro r zb l zf)|(refine oR zb rfl rfl rfl ?_))
 refine Nn λy u x j B=>?_;obtain⟨k,bV,G⟩:∃k bV,kH c e i=(k,bV):=⟨_,_,rfl⟩;have d:=Y G;cases f:fS c e i with
 |false=>
  have b:=Y (aae f);go_wp2_with fail
  go_ret2;exact n0.of b.out rfl aF.none_ j
 |true=>
  obtain⟨m,A,s,K,z⟩:=uj f;have w:=(lD.1 m).ok;have ao:=Y f;have D:=Y z;have ze:=Y m;go_wp2_with(refine oR B rfl rfl rfl ?_)
  refine((aad _ c w g C e i (I.out.ad j) A s K D.out).mono λh zh p=>nZ.FI d.out p).mono ?_;rintro h L ⟨P,W,rfl,q,J⟩;have n:=j.ad J;have F:=Y q;by_cases o:0<=bV
  .have b:=Y (aaf ao.out d.out o);go_wp2_with fail
   go_ret2;exact n0.of b.out rfl aF.none_ n
  .have b:=Y (Nu ao.out d.out o);go_wp2_with fail
   go_ret2;exact n0.of b.out rfl F.out n
theorem aah:∀{c:aD}(h:List bi){d e:Int},bK c h d=some e->e<=ui c
 |c,[],d,e,a=>by
  simp only[bK]at a;split at a
  .simp at a;omega
  .cases a
 |c,b::f,d,e,a=>by
  simp only[bK]at a;cases g:bK c f d with
  |none=>rw[g]at a;cases a
  |some i=>
   rw[g]at a;simp only[yV]at a;split at a
   .simp at a;omega
   .cases a
theorem Bu{c:aD}{d:List bi}(a:eZ c (b::d) e=some A):cy c b.c<=e/\∃f,eZ c d (hi c b e d.isEmpty)=some f/\A=(cn c (b' c b e) d.isEmpty::f.1,f.2):=by
 simp only[eZ]at a;split at a
 .cases a
 .cases g:eZ c d (hi c b e d.isEmpty)with
  |none=>rw[g]at a;cases a
  |some f=>rw[g]at a;simp only[hU,iA]at a;exact⟨Z,f,rfl,a.symm⟩
theorem aai{a:aD}(f:Ok a){b:bi}{c:Int}{d:Bool}:hi a b c d=b' a b c\/(bH a<b' a b c/\hi a b c d<=bH a/\ui a<hi a b c d):=by
 cases d with
 |true=>exact .inl Nh
 |false=>
  by_cases e:0<b' a b c-bH a
  .have i:=Bt f e;have g:hi a b c false=b' a b c-cy a 8*cn a (b' a b c) false:=rfl;have h:ui a=bH a-cy a 8:=rfl;exact .inr ⟨Z,Z,Z⟩
  .exact .inl (FE Z)
theorem oz{c:aD}(n:Ok c){m:Int}:∀(o:List bi)(e d:Int),bK c o m=some e->(e<=d↔∃h,eZ c o d=some h/\m<=h.2)
 |[],e,d,a=>by
  simp only[bK]at a;split at a
  .simp only[iA]at a;subst a;exact⟨λa=>⟨_,rfl,a⟩,λ⟨h,g,i⟩=>by simp only[eZ,iA]at g;subst g;exact i⟩
  .cases a
 |b::f,e,d,a=>by
  simp only[bK]at a;cases k:bK c f m with
  |none=>rw[k]at a;cases a
  |some t=>
   rw[k]at a;simp only[yV]at a;split at a
   .simp only[iA]at a;have x:=aah f k;have w:e=cy c b.c+max 0 (t-kk c b.d):=a.symm;have u:b' c b d=d-cy c b.c+kk c b.d:=rfl;have r:=w7 n;have s:ui c=bH c-cy c 8:=rfl;have y:=aai n (b:=b) (c:=d) (d:=f.isEmpty);by_cases q:d<cy c b.c
    .refine⟨λa=>Z,λ⟨h,g,_⟩=>?_⟩;have:=(Bu g).1;omega
    .have p:e<=d↔t<=hi c b d f.isEmpty:=Z;rw[p,oz n f t (hi c b d f.isEmpty) k];constructor
     .rintro⟨j,l,i⟩;refine⟨(cn c (b' c b d) f.isEmpty::j.1,j.2),?_,?_⟩
      .simp only[eZ];rw[M q,l];rfl
      .exact i
     .rintro⟨h,g,i⟩;obtain⟨_,j,l,rfl⟩:=Bu g;exact⟨j,l,i⟩
   .cases a
def mw(a:bi)(b:Int):bi:=⟨a.a,a.b,a.c+8*b,a.d⟩
def bk(a:List bi)(b:List Int):List bi:=List.zipWith mw a b
theorem aaj(b a:Int):cy c (b+8*a)=cy c b+cy c 8*a:=by unfold cy;rw[Int.mul_add,qO (2*c.num) 8 a]
theorem aak{a:aD}(b:et a){c:Int}(d:c=2\/c=3):kk a c+2*cy a 8<=bH a:=by
 have g:=b.ok;unfold et at b;obtain⟨_,_,_,_,_,_,_,_,_,_,_,_,_,_,_,e,_⟩:=b;have h:=M2 g;have f:3*a.den*a.eV=3*(a.eV*a.den):=by rw[qO,Int.mul_comm a.den]
 rw[f]at e;unfold kk cy bH;rcases d with rfl|rfl<;>omega
theorem Nv{a:List bi}(b:k.length=a.length):(bk a k).length=a.length:=by simp[bk,b]
theorem aal{a:List bi}(b:k.length=a.length):(bk a k).isEmpty=a.isEmpty:=by
 cases a with
 |nil=>simp[bk]
 |cons d f=>
  cases k with
  |nil=>simp at b
  |cons c e=>simp[bk]
theorem Nw(a:i:=by
 by_cases n:0<b' a b d-bH a
 .have:=Bt g n;omega
 .rw[sl (.inl Z)];omega):i:=a
theorem aam{a:aD}(e:et a){b:bi}(m:iH b=true){d:Int}(s:cy a b.c<=d)(c:Bool):bV a (mw b (cn a (b' a b d) c)) d c=false/\b' a (mw b (cn a (b' a b d) c)) d=hi a b d c:=by
 have g:=e.ok;have p:=w7 g;have l:=w6 m;have t:=aak e (c:=b.d) l.2.2;have r:=Fz g (b:=b.d) Z;have i:cy a (mw b (cn a (b' a b d) c)).c=cy a b.c+cy a 8*cn a (b' a b d) c:=aaj _ _ _;have f:b' a (mw b (cn a (b' a b d) c)) d=hi a b d c:=by have j:b' a (mw b (cn a (b' a b d) c)) d=d-cy a (mw b (cn a (b' a b d) c)).c+kk a b.d:=rfl;have k:hi a b d c=b' a b d-cy a 8*cn a (b' a b d) c:=rfl;have o:b' a b d=d-cy a b.c+kk a b.d:=rfl;rw[j,i,k];omega
 refine⟨?_,f⟩;have q:b' a b d=d-cy a b.c+kk a b.d:=rfl;have h:¬d<cy a (mw b (cn a (b' a b d) c)).c:=by
  rw[i];cases c with
  |true=>rw[sl (.inr rfl)];omega
  |false=>exact Nw
 cases c with
 |true=>exact Nq h
 |false=>rw[FH h,f];have:=FF g (b:=b) (c:=d);exact e7 Z
theorem Nx{c:aD}(k:et c):∀(g:List bi)(a:Int)(d:List Int×Int),(∀b∈g,iH b=true)->eZ c g a=some d->∃h,mu c (bk g d.1) a=.inl h
 |[],a,d,_,e=>by simp only[eZ,iA]at e;subst e;exact⟨[],rfl⟩
 |b::f,a,d,j,e=>by obtain⟨l,r,i,rfl⟩:=Bu e;obtain⟨h,q⟩:=Nx k f _ r (λm n=>j m (hQ _ n)) i;obtain⟨o,p⟩:=aam k (j b U) l f.isEmpty;refine⟨(a,hi c b a f.isEmpty)::h,?_⟩;show mu c (mw b (cn c (b' c b a) f.isEmpty)::bk f r.1) a= _;rw[mu,aal (ul f i),M (by simp[o]),p,q]
theorem Bv{a:aD}(g:Ok a):∀(k:List bi)(d:Int)(h:List Int×Int),(∀b∈k,iH b=true)->d<=bH a->eZ a k d=some h->∀e∈h.1,0<=e/\e<=35184372088832
 |[],d,h,_,_,i,e,c=>by simp only[eZ,iA]at i;subst i;simp at c
 |b::f,d,h,l,y,i,e,c=>by
  obtain⟨r,u,j,rfl⟩:=Bu i;have t:=w6 (l b U);refine FG λL P=>?_;have x:b' a b d=d-cy a b.c+kk a b.d:=rfl;have s:=w7 g;simp only[bu]at c;cases f with
  |nil=>simp only[List.isEmpty_nil]at j c;simp only[eZ,iA]at j;subst j;rw[sl (.inr rfl)]at c;simp at c;omega
  |cons m p=>
   rcases c with rfl|c
   .show 0<=cn a (b' a b d) false/\cn a (b' a b d) false<= _;exact Nw
   .exact Bv g (m::p) (hi a b d false) u (λo q=>l o (hQ _ q)) (FF g) j e c
theorem aan{a:List bi}(e:a[d]? =some b)(c:k[d]? =some r):(bk a k)[d]? =some (mw b r):=by unfold bk;rw[FJ,e,c]
theorem aao{f:List bi}(h:D∈bk f k):∃d∈f,∃c∈k,D=mw d c:=by
 obtain⟨g,a⟩:=Bc h;unfold bk at a;rw[FJ]at a;cases b:f[g]? with
 |none=>rw[b]at a;simp at a
 |some d=>
  cases e:k[g]? with
  |none=>rw[b,e]at a;simp at a
  |some c=>rw[b,e]at a;simp only[iA]at a;exact⟨d,bS b,c,bS e,a.symm⟩
theorem aap(c:0<=b.c)(d:b.c<=8388608)(e:b.d=2\/b.d=3):iH b=true:=by unfold iH;rw[fF c,fF d];rcases e with a|a<;>rw[a]<;>rfl
theorem aaq{c:aD}{a:List bi}{b:Int}(l:fS c a b=true)(j:eZ c a b=some A)(p:∀f∈bk a A.1,f.c<=8388608):fS c (bk a A.1) b=true:=by obtain⟨h,t,d,m,k⟩:=uj l;have o:=(lD.1 h).ok;have q:=Bv o a b A k d j;rw[M9 h t d (by rw[Nv (ul a j)];exact m),ke];intro f g;obtain⟨i,r,e,n,rfl⟩:=aao g;have s:=w6 (k i r);have:=(q e n).1;exact aap (by show 0<=i.c+8*e;omega) (p _ g) s.2.2
