import Derived.Test.YtdmdbgabjcbjiaaGreatDoorA04
import Derived.Test.YtdmdbgabjcbjiaaGreatDoorA07
import Derived.Test.YtdmdbgabjcbjiaaGreatDoorA08
set_option maxHeartbeats 0
set_option maxRecDepth 100000
set_option linter.all false
namespace Go.Proofs.YtdmdbgabjcbjiaaGreatDoor
open Go.RowKit fD cr hs a7 _root_.Go.Proofs.Tryz
variable{g:Qak}{k:Qal}{r:Act}{j:Qaa}{e h:aj}{b c f:Prop}{l:Int}{zah:aq}{i:N}{d:aY}(a:N)
theorem P5:prog.built 233 []=some (ap λ_=>0):=ar
theorem ac0{a:Qax}{b:N}(e:cB a g r)(f:a.op=.build 233 #[]) (d:wpList prog g j k (r.put a.dst (.agg (ap λ_=>0))) b):wpList prog g j (a::k) r b:=nf λh c=>by
 rw[ae e];refine q0 _ #[] f ?_ ?_
 .simp only[gm,ee,P5];rfl
 .simp only[gm,ee,P5];exact c _ _ d
theorem ac1:(binOp .eql 233 (.agg (ap λ_=>0)) (.agg (ap λ_=>0))).run prog a=.ok (.bool true) a:=ar
theorem ac2(c:∀b,b<408->e b=0)(a:N):(binOp .eql 233 (ap e) (.agg (ap λ_=>0))).run prog a=.ok (.bool true) a:=by rw[show ap e=ap λ_=>0 from eY c];exact ac1 a
theorem ac3:(binOp .neq 223 (.agg #[.bool true,.bool false]) (.agg #[.bool true,.bool false])).run prog a=.ok (.bool false) a:=ar
theorem ac4:(binOp .eql 223 (.agg #[.bool true,.bool false]) (.agg #[.bool false,.bool false])).run prog a=.ok (.bool false) a:=ar
theorem ac5:(binOp .eql 223 (.agg #[.bool false,.bool true]) (.agg #[.bool false,.bool false])).run prog a=.ok (.bool false) a:=ar
theorem ac6:(binOp .eql 223 (.agg #[.bool true,.bool true]) (.agg #[.bool false,.bool false])).run prog a=.ok (.bool false) a:=ar
theorem ac7:(binOp .eql 223 (.agg #[.bool false,.bool false]) (.agg #[.bool false,.bool false])).run prog a=.ok (.bool true) a:=ar
theorem ac8:(binOp .eql 227 (.agg #[X 0,X 0,X 0,X 0,X 0,X 0,X 0,X 0]) (.agg #[X 0,X 0,X 0,X 0,X 0,X 0,X 0,X 0])).run prog a=.ok (.bool true) a:=ar
theorem ac9:(binOp .eql 228 (.agg #[X 0,X 0,X 0,X 0]) (.agg #[X 0,X 0,X 0,X 0])).run prog a=.ok (.bool true) a:=ar
theorem ada:(binOp .eql 229 (.agg #[.bool true,.bool true,.bool true,.bool true,.bool true,.bool true]) (.agg #[.bool true,.bool true,.bool true,.bool true,.bool true,.bool true])).run prog a=.ok (.bool true) a:=ar
theorem P6(b c:Bool)(a:N):(Instr.index 223 (.agg #[.bool b,.bool c]) (X 0)).run prog a=.ok (.bool b) a/\(Instr.index 223 (.agg #[.bool b,.bool c]) (X 1)).run prog a=.ok (.bool c) a:=⟨n2 a _ _ 2 _ _ _ underlying223 underlying4 rfl uy .i64 0 R rfl,n2 a _ _ 2 _ _ _ underlying223 underlying4 rfl uy .i64 1 R rfl⟩
theorem GY(a:b:=by
 have zd:True:=trivial;go_wp2_with(clear zd;refine dO rfl (b.ai 0 rfl) (cE _) rfl rfl ?_)
 refine xj D.out ?_;clear b;intro zk zi b;go_wp2_with fail
 rw[cR];have zb:True:=trivial;go_wp2_with(clear zb;refine dO rfl (b.ai 0 rfl) (cE _) rfl rfl ?_)
 refine(B.out _ (h.out.S b.aa U)).mono ?_;rintro e o ⟨rfl,m⟩;replace b:=b.aS m;go_wp2_with fail
 rw[cR];exact ft):b:=a
theorem P7(a:b:=by
 refine hD Q.out ?_;clear b;intro H I b;clear z y;have ze:True:=trivial;go_wp2_with(clear ze;refine de (#[.bool (a 1 !=0),.bool (a 2 !=0)]) rfl gv (h.out.S b.aa U) (λj k=>kp) rfl rfl ?_)
 refine jc 3 ?_;rw[cR];exact GY):b:=a
theorem adb(c:N)(d:aY)(x:Nat)(a:aj)(A:ag c x 233 (ap a))(w:dV d a)(C:a 0=2):Calls prog 185 #[bl d,ab x] c λe W=>e=.returned (.bool true)/\V [] c W:=by
 have h:=Y A;clear A;have D:=Y λc(A:ag c x 233 (ap a))=>abI c d x a A (w.d C 0 R);have B:=Y λc(A:ag c x 233 (ap a))=>abJ c d x a A (w.d C 1 R);have Q:=Y λc=>uo c d;have p:=λF=>(P6 (a 1 !=0) (a 2 !=0) F).1;have q:=λF=>(P6 (a 1 !=0) (a 2 !=0) F).2;have zj:=ac3;have zl:=ac4;have zh:=ac5;have zf:=ac6;have E:((a 3 !=0)=true/\d.both=true)\/(a 3 !=0)=false:=by
  by_cases e:a 3=0
  .exact .inr (by simp[e])
  .exact .inl ⟨by simp[e],w.pL e⟩
 have u:(d.t=2/\(a 1 !=0)=true/\(a 2 !=0)=false)\/(¬d.t=2/\(((a 1 !=0)=true/\(a 2 !=0)=false)\/((a 1 !=0)=false/\(a 2 !=0)=true)\/((a 1 !=0)=true/\(a 2 !=0)=true))):=by
  by_cases e:d.t=2
  .obtain⟨K,G⟩:=w.lb C e;exact .inl ⟨e,by simp[K],by simp[G]⟩
  .refine .inr ⟨e,?_⟩;have za:=w.ja C;by_cases K:a 1=0<;>by_cases G:a 2=0<;>simp[K,G]at za⊢
 clear w C;rcases E with⟨E,zc⟩|E
 .rw[zc]at Q;rcases u with⟨u,l,f⟩|⟨u,P⟩
  .rw[l]at p q D;rw[f]at p q B;have b:=ao.nil [] c;go_in;refine kD λr s t L=>?_;go_wp2_with(first|(clear r;refine cx _ (bl d) rfl rfl rfl rfl ?_;intro O J g n i;replace b:=b.aP g n i;clear g n;clear i;have z:=b.ah 0 0;have y:=kF (h.out.S b.aa U) 3)|(clear s;refine de (#[.bool (a 1 !=0),.bool (a 2 !=0)]) rfl gv (h.out.S b.aa U) (λj k=>kp) rfl rfl ?_)|(clear t;refine de (#[.bool (a 1 !=0),.bool (a 2 !=0)]) rfl gv (h.out.S b.aa U) (λj k=>kp) rfl rfl ?_)|(clear L;refine dO rfl (b.ai 0 rfl) (cE _) rfl rfl ?_))
   exact P7
  .rcases P with⟨l,f⟩|⟨l,f⟩|⟨l,f⟩
   all_goals rw[l]at p q D
   all_goals rw[f]at p q B
   all_goals
    have b:=ao.nil [] c;go_in;refine nb λr s t=>?_;go_wp2_with(first|(clear r;refine cx _ (bl d) rfl rfl rfl rfl ?_;intro O J g n i;replace b:=b.aP g n i;clear g n;clear i;have z:=b.ah 0 0;have y:=kF (h.out.S b.aa U) 3)|(clear s;apply de (#[.bool (a 1 !=0),.bool (a 2 !=0)]);exact rfl;exact gv;exact(h.out.S b.aa U);exact(λj k=>kp);exact rfl;exact rfl)|(clear t;apply dO;exact rfl;exact(b.ai 0 rfl);exact(cE _);exact rfl;exact rfl))
    exact P7
 .rcases u with⟨u,l,f⟩|⟨u,P⟩
  .rw[l]at p q D;rw[f]at p q B;have b:=ao.nil [] c;go_in;refine kD λr s t L=>?_;go_wp2_with(first|(clear r;refine cx _ (bl d) rfl rfl rfl rfl ?_;intro O J g n i;replace b:=b.aP g n i;clear g n;clear i;have z:=b.ah 0 0;have y:=kF (h.out.S b.aa U) 3)|(clear s;refine de (#[.bool (a 1 !=0),.bool (a 2 !=0)]) rfl gv (h.out.S b.aa U) (λj k=>kp) rfl rfl ?_)|(clear t;refine de (#[.bool (a 1 !=0),.bool (a 2 !=0)]) rfl gv (h.out.S b.aa U) (λj k=>kp) rfl rfl ?_)|(clear L;apply de (#[.bool (a 1 !=0),.bool (a 2 !=0)]);exact rfl;exact gv;exact(h.out.S b.aa U);exact(λj k=>kp);exact rfl;exact rfl))
   refine jc 3 ?_;rw[cR];clear z y;exact GY
  .rcases P with⟨l,f⟩|⟨l,f⟩|⟨l,f⟩
   all_goals rw[l]at p q D
   all_goals rw[f]at p q B
   all_goals
    have b:=ao.nil [] c;go_in;refine nb λr s t=>?_;go_wp2_with(first|(clear r;refine cx _ (bl d) rfl rfl rfl rfl ?_;intro O J g n i;replace b:=b.aP g n i;clear g n;clear i;have z:=b.ah 0 0;have y:=kF (h.out.S b.aa U) 3)|(clear s;apply de (#[.bool (a 1 !=0),.bool (a 2 !=0)]);exact rfl;exact gv;exact(h.out.S b.aa U);exact(λj k=>kp);exact rfl;exact rfl)|(clear t;apply de (#[.bool (a 1 !=0),.bool (a 2 !=0)]);exact rfl;exact gv;exact(h.out.S b.aa U);exact(λj k=>kp);exact rfl;exact rfl))
    refine jc 3 ?_;rw[cR];clear z y;exact GY
theorem GZ(a:c)(d:c->b:=by intro Q;have x:A.cell? ⟨B,0,none⟩=some (.int .i64 (a 0)):=b.au 0 0 rfl (fa R rfl);revert x;exact Q):b:=d a
theorem P8(f:N)(l:aY)(a:aj)(h:dV l a):Calls prog 157 #[bl l,ap a] f λe O=>e=.returned (.bool true)/\V [] f O:=by
 have D:=Y λf=>FN f l h.nV;have H:=Y λf i(w:ag f i 233 (ap a))=>abC f l i a w h.q h.fd;have G:=Y λf i(w:ag f i 233 (ap a))=>abD f i a w h.aR;have q:=h.k;rcases q with q|q|q
 .have zi:=λg=>ac2 (h.pK q) g;have zb:¬l.t=1:=λe=>by have:=h.ug e;omega
  clear h;have b:=ao.nil [] f;go_in;go_wp2_with(first|(refine cx _ (bl l) rfl rfl rfl rfl ?_;intro I E s u t;replace b:=b.aP s u t;clear s u;clear t)|(refine cx _ (ap a) rfl rfl rfl rfl ?_;intro B J p n r;replace b:=b.aP p n r;clear p n;clear r)|(refine dO rfl (b.ai 1 rfl) (cE _) rfl rfl ?_))
  refine hD D.out ?_;clear b;intro A F b;refine GZ λx=>?_;have y:=b.ah 1 0;go_wp2_with(first|(refine dO rfl (b.ai 0 rfl) (cP _) rfl rfl ?_)|(refine ac0 rfl rfl ?_))
  go_ret;exact⟨rfl,b.aa⟩
 .have c:=h.oQ q;have zl:(a 1 !=0)=false:=by rw[c.1 1 R R];rfl
  have zd:(a 2 !=0)=false:=by rw[c.1 2 R R];rfl
  have zc:(a 3 !=0)=false:=by rw[c.1 3 R R];rfl
  have zj:∀g,(binOp .eql 227 (.agg #[X (a 5),X (a 6),X (a 7),X (a 8),X (a 9),X (a 10),X (a 11),X (a 12)]) (.agg #[X 0,X 0,X 0,X 0,X 0,X 0,X 0,X 0])).run prog g=.ok (.bool true) g:=λg=>by rw[c.2.1 5 R R,c.2.1 6 R R,c.2.1 7 R R,c.2.1 8 R R,c.2.1 9 R R,c.2.1 10 R R,c.2.1 11 R R,c.2.1 12 R R];exact ac8 g
  have ze:∀g,(binOp .eql 228 (.agg #[X (a 13),X (a 14),X (a 15),X (a 16)]) (.agg #[X 0,X 0,X 0,X 0])).run prog g=.ok (.bool true) g:=λg=>by rw[c.2.1 13 R R,c.2.1 14 R R,c.2.1 15 R R,c.2.1 16 R R];exact ac9 g
  have zk:∀g,(binOp .eql 229 (.agg #[.bool (a 18 !=0),.bool (a 19 !=0),.bool (a 20 !=0),.bool (a 21 !=0),.bool (a 22 !=0),.bool (a 23 !=0)]) (.agg #[.bool true,.bool true,.bool true,.bool true,.bool true,.bool true])).run prog g=.ok (.bool true) g:=λg=>by rw[c.2.2 18 R R,c.2.2 19 R R,c.2.2 20 R R,c.2.2 21 R R,c.2.2 22 R R,c.2.2 23 R R];exact ada g
  have zf:=ac7;clear h c;have b:=ao.nil [] f;go_in;go_wp2_with(first|(refine cx _ (bl l) rfl rfl rfl rfl ?_;intro I E s u t;replace b:=b.aP s u t;clear s u;clear t)|(refine cx _ (ap a) rfl rfl rfl rfl ?_;intro B J p n r;replace b:=b.aP p n r;clear p n;clear r)|(refine dO rfl (b.ai 1 rfl) (cE _) rfl rfl ?_))
  refine hD D.out ?_;clear b;intro A F b;refine GZ λx=>?_;have y:A.cell? ⟨B,3,none⟩=some (.bool (a 3 !=0)):=b.au 0 3 rfl (hX R rfl);go_wp2_with(first|(apply de (#[.bool (a 1 !=0),.bool (a 2 !=0)]);exact rfl;exact gv;exact(b.ai 0 rfl);exact(λj k=>kp);exact rfl;exact rfl)|(apply de (#[X (a 5),X (a 6),X (a 7),X (a 8),X (a 9),X (a 10),X (a 11),X (a 12)]);exact rfl;exact aau;exact(b.ai 0 rfl);exact(λj k=>by match j,k with|0,_=>exact(fa R rfl)|1,_=>exact(fa R rfl)|2,_=>exact(fa R rfl)|3,_=>exact(fa R rfl)|4,_=>exact(fa R rfl)|5,_=>exact(fa R rfl)|6,_=>exact(fa R rfl)|7,_=>exact(fa R rfl));exact rfl;exact rfl)|(apply de (#[X (a 13),X (a 14),X (a 15),X (a 16)]);exact rfl;exact aav;exact(b.ai 0 rfl);exact(λj k=>BT);exact rfl;exact rfl))
  clear x y;replace b:=b.bd;refine rg [] [0,1,2,3,104,5,6,7,8,109,10,11,112,13,14] ?_;refine iX ?_;refine hh (aL:=#[.bool (a 18 !=0),.bool (a 19 !=0),.bool (a 20 !=0),.bool (a 21 !=0),.bool (a 22 !=0),.bool (a 23 !=0)]) nl (b.ai 0 rfl) (λj k=>q3) rfl rfl rfl ?_;simp only[az];refine bN (NJ _) ?_;refine Cb ?_;clear b;intro o m b;refine iX ?_;refine iZ (cE _) rfl rfl rfl (b.ai 1 rfl) ?_;simp only[az];refine bN (H.out _ _ (b.ai 0 rfl)) ?_;rintro e K ⟨rfl,C⟩;refine⟨_,rfl,C,?_⟩;replace b:=b.aS C;refine ax ?_;refine bN (G.out _ _ (b.ai 0 rfl)) ?_;rintro e L ⟨rfl,z⟩;refine⟨_,rfl,z,?_⟩;replace b:=b.aS z;refine ax ?_;exact ft
 .have P:=Y λf i(w:ag f i 233 (ap a))=>adb f l i a w h q;have W:=Y λf i(w:ag f i 233 (ap a))=>abE f i a w (h.nW q);have zb:¬l.t=1:=λe=>by have:=h.ug e;omega
  clear h;have b:=ao.nil [] f;go_in;go_wp2_with(first|(refine cx _ (bl l) rfl rfl rfl rfl ?_;intro I E s u t;replace b:=b.aP s u t;clear s u;clear t)|(refine cx _ (ap a) rfl rfl rfl rfl ?_;intro B J p n r;replace b:=b.aP p n r;clear p n;clear r)|(refine dO rfl (b.ai 1 rfl) (cE _) rfl rfl ?_))
  refine hD D.out ?_;clear b;intro A F b;refine GZ λx=>?_;have y:=b.ah 1 0;go_wp2_with(refine dO rfl (b.ai 1 rfl) (cE _) rfl rfl ?_)
  refine(P.out _ _ (b.ai 0 rfl)).mono ?_;rintro e o ⟨rfl,m⟩;replace b:=b.aS m;clear x y;go_wp2_with(refine dO rfl (b.ai 1 rfl) (cE _) rfl rfl ?_)
  refine(H.out _ _ (b.ai 0 rfl)).mono ?_;rintro e K ⟨rfl,C⟩;replace b:=b.aS C;go_wp2_with fail
  refine(W.out _ _ (b.ai 0 rfl)).mono ?_;rintro e L ⟨rfl,z⟩;replace b:=b.aS z;go_wp2_with fail
  refine(G.out _ _ (b.ai 0 rfl)).mono ?_;rintro e zh ⟨rfl,za⟩;replace b:=b.aS za;exact ft
def fj(a f:aj)(c:Int)(d:Bool)(e:aq):Nat->aq
 |0=>e
 |b+1=>if a (18+b)=0 then fj a f c d e b else i6 (fj a f c d e b) 0 0 b (a 4 !=0) λg=>fQ (fj a f c d e b) 0 0 b (a 4 !=0) g+gN (kG (kx (bO a b) d) f c) g
theorem G0{b g:aj}{e:Int}{f:Bool}{c:aq}(h:c.dN):∀a,a<=6->(fj b g e f c a).dd/\(fj b g e f c a).w=16/\(fj b g e f c a).h=16
 |0,_=>⟨⟨h.toOk,by show c.w%16=0;rw[h.eN],by show c.h%16=0;rw[h.ev]⟩,h.eN,h.ev⟩
 |a+1,n=>by
  obtain⟨r,i,d⟩:=G0 (b:=b) (g:=g) (e:=e) (f:=f) h a Z;rw[fj];split
  .exact⟨r,i,d⟩
  .obtain⟨m,k,l⟩:=Zj (b 4 !=0) (λj=>fQ (fj b g e f c a) 0 0 a (b 4 !=0) j+gN (kG (kx (bO b a) f) g e) j) r (by rw[i];decide:0<(fj b g e f c a).w/16) (by rw[d];decide:0<(fj b g e f c a).h/16) (by omega:a<6);exact⟨m,by rw[k,i],by rw[l,d]⟩
theorem ade(b:aj)(a:Nat)(c:a<64):-100000<=gN b a/\gN b a<=100000:=by have:=Xr b a c;unfold gN qE;omega
def nt(b d:aj)(c:Nat):aj:=λa=>if a<c then b a+d a else b a
theorem P9(e c:aj){d:Nat}(g:d<64){v:Int}(h:v=e d+c d):(an .i64 64 (nt e c d)).setIfInBounds d (X v)=an .i64 64 (nt e c (d+1)):=by
 rw[oD v g];refine jr λa _=>?_;unfold aV nt;by_cases b:a=d
 .rw[ae b,ae Z,h,b]
 .exact GA
theorem P'(c b:aj):an .i64 64 (nt c b 64)=an .i64 64 λa=>c a+b a:=jr λa d=>by unfold nt;rw[ae d]
theorem adf{d:aj}(f:hT h)(c:eD h l=true)(e:iw d 4095 64=true):tp 64 (kG d h l):=λa b=>by rw[(Fu d h l c e).1];have:=MN (pn.1 e a b) (Ak (b:=h a) ⟨Bj c a b,(f a b).2⟩ (Bi c) b);unfold uh;omega
def adg(f:aK)(d:aq)(b:N)(g:Ending)(e:N):Prop:=∃a,g=.returned (.tuple #[al d a,X 0])/\aT e d a/\V [] b e/\∀c∈bg a,c∈bg f\/b.heap.size<=c
theorem hW.fb{g j:N}{d e c:Nat}(b:hW zah g d e c j)(h:af)(k:i.heap.size<=g.heap.size):∀a∈bg (bb zah d e c),a∈h\/i.heap.size<=a:=λa f=>by have l:a=d\/a=e\/a=c:=uF;have:=b.iG;have:=b.lH;have:=b.lI;exact .inr Z
theorem adh(a:Nat)(c:a<6):∀b,b<(an .i64 64 (bO e a)).size->(ap e)[24+a*64+b]? =(an .i64 64 (bO e a))[b]? :=so a c
theorem gp(a:aj):bT prog 24 (an .u8 64 a).size:=by rw[gO];exact⟨_,underlying24,rfl,ar⟩
theorem Qa(m:N)(zj:dA m)(n:aq)(y:aK)(zn:Nat)(a f:aj)(l:Int)(i:Bool)(zF:n.dN)(C:aT m n y)(J:ag m zn 233 (ap a))(zC:dD)(zw:hT f)(zD:eD f l=true)(zq:∀z,z<6->∀j,j<64->-4095<=bO a z j/\bO a z j<=4095):Calls prog 159 #[al n y,ab zn,an .u8 64 f,X l,.bool i] m (adg y (fj a f l i n 6) m):=by
 have zY:=Y C;have zx:=Y zF;have B:=Y J;have zI:=Y zw;have zH:=Y zD;have zK:=Y λz(zaa:z<6)=>show iw (kx (bO a z) i) 4095 64=true from pn.2 λj k=>zq z zaa _ (pt i k).2.1;have zah:=Y λ(zT:aj) p(zZ:V [] m p)=>X7 p zT i (Al zC p (zj.ad zZ) i);clear zj zF C J zC zw zD zq;have b:=bC.fg (ao.nil [] m) zY.out zx.out.toOk;go_in;go_wp2_with(first|(refine b.aI _ (al n y) ?_;clear b;intro zA zap b)|(refine b.aI _ (an .u8 64 f) ?_;clear b;intro zG zaq b)|(refine b.aH (_) bY ?_;clear b;intro zf zan b)|(refine de (#[.bool (a 18 !=0),.bool (a 19 !=0),.bool (a 20 !=0),.bool (a 21 !=0),.bool (a 22 !=0),.bool (a 23 !=0)]) rfl nl (B.out.S b.aa U) (λj k=>q3) rfl rfl ?_))
 go_loopw [23] (λx wr=>∃d:Nat,d<=6/\x=X d/\∃o,∃O:∀d∈bg o,d∈bg y\/m.heap.size<=d,Hid (bC [] m wr [(zf,71,_),(zG,24,an .u8 64 f),(zA,71,al (fj a f l i n d) o)] (bg o) λp=>aT p (fj a f l i n d) o)) (λx _=>6-(intOf x).toNat)
 .exact⟨0,Z,rfl,y,(λd zd=>.inl zd),Y b⟩
 .obtain⟨d,zd,rfl,o,O,zs⟩:=hrel;try clear b
  have b:=zs.out;clear zs;by_cases F:d<6
  .have zab:(d:Int)<6:=Z;have zv:=λp=>uz a d F p;obtain⟨I,L,W⟩:=G0 (b:=a) (g:=f) (e:=l) (f:=i) zx.out d zd;by_cases r:a (18+d)=0
   .rw[show(a (18+d) !=0)=false from pT]at zv;go_wp2_with fail
    exact⟨⟨d+1,Z,a8,o,O,Y (by rw[fj,ae r];exact b)⟩,bF⟩
   .have zar:(d:Int)<6:=Z;rw[show(a (18+d) !=0)=true from pT]at zv;have H:=zK.out d F;have zk:=Y (adf zI.out zH.out H);have zt:=Y λm=>show Calls prog 187 #[.agg (an .i64 64 (kx (bO a d) i)),an .u8 64 f,X l] m λe zad=>e=.returned (.tuple #[.agg (an .i64 64 (kG (kx (bO a d) i) f l)),X 0])/\V [] m zad by have:=ZJ m (kx (bO a d) i) f l (λj k=>by have:=pn.1 H j k;omega) zI.out;rwa[(Fu _ f l zH.out H).2]at this
    have zE:=Y λm o C=>Fe m (fj a f l i n d) o 0 0 d (a 4 !=0) I (by rw[L];decide) (by rw[W];decide) F C;have G:=Y λm o C=>show Calls prog 191 #[al (fj a f l i n d) o,X 0,X 0,X d,.bool (a 4 !=0),.agg (an .i64 64 λj=>fQ (fj a f l i n d) 0 0 d (a 4 !=0) j+gN (kG (kx (bO a d) i) f l) j)] m (jR (fj a f l i n (d+1)) m) by rw[fj,M r];exact Zk m (fj a f l i n d) o 0 0 d (a 4 !=0) _ I (by rw[L];decide) (by rw[W];decide) F C
    have Q:=λj=>wV I.toOk 0 0 d (a 4 !=0) j;generalize ak:kG (kx (bO a d) i) f l=D at zk zt G;generalize J:fQ (fj a f l i n d) 0 0 d (a 4 !=0)=w at zE Q G;have zc:=ade D;have zB:=Y λm=>XJ m D zk.out;generalize zW:gN D=e at zB zc G;have zac:=λ(c:Nat)(zl:c<64)(p:N)=>oJ e c zl p;have zh:=Y (And.intro Q zc);clear H I L W ak J zW Q zc;go_wp2_with fail
    have K:=b.h.fv;have za:=b.size;have zb:=b.l;replace b:=b.bd;refine rg [14] [0,1,2,3,4,5,6,8,9,107,110,11,12,313,414,215,16] ?_;refine lx ?_;refine hh (aL:=an .i64 64 (bO a d)) (a64 _) (B.out.S b.aa U) (adh d F) rfl rfl rfl ?_;refine ax ?_;refine b.jf (λzai b=>zah.out _ _ b.aa) ?_;clear b;intro _ zai b;simp only[az];refine b.jf (λzN b=>zt.out _) ?_;clear b;intro _ zN b;refine ax ?_;refine lO _ (an .i64 64 λ_=>0) rfl qD rfl ?_;intro zaf zao zi zm zo;have ji:=km zo (za:=wr.heap.size) U;simp only[az];replace b:=b.hE zm zi (K.off ji) (λf=>absurd (gD (zb _ f) ji) (lf _)) (b7 za ji);clear zm zi zo;refine b.dq 0 (an .i64 64 D) (a64 _) (e6) ?_;clear b;intro zaR b;refine ax ?_;have zL:=kF (B.out.S b.aa U) 4;go_wp2_with fail
    clear zL;have zae:=kF (B.out.S b.aa U) 4;have K:=b.h.fv;have za:=b.size;have zb:=b.l;replace b:=b.bd;refine rg [10] [0,1,2,3,4,5,106,7,8,309,410,211,12] ?_;refine ax ?_;refine b.jf (λzS b=>zE.out _ _ b.q) ?_;clear b;intro _ zS b;clear zae;refine ax ?_;refine lO _ (an .i64 64 λ_=>0) rfl qD rfl ?_;refine G1 λzr zV z7 z6 zU zz=>?_;replace b:=b.hE z6 z7 (K.off zz) (λf=>absurd (gD (zb _ f) zz) (lf _)) (b7 za zz);clear z6 z7 zU;refine b.dq 0 (an .i64 64 w) (a64 _) (e6) ?_;clear b;intro E b;refine ax ?_;go_wp2_with(refine b.ld 1 (a64 _) ?_)
    refine b.aW (zB.out _) ?_;clear b;intro zaj b;go_wp2_with fail
    rw[show an .i64 64 w=an .i64 64 (nt w e 0)from jr λj _=>(M Z).symm]at b;go_loopw [63] (λx wr=>∃c:Nat,c<=64/\x=X c/\Hid (bC [] m wr [(zr,230,an .i64 64 (nt w e c)),(zaf,230,an .i64 64 D),(zf,71,_),(zG,24,an .u8 64 f),(zA,71,al (fj a f l i n d) o)] (bg o) λp=>aT p (fj a f l i n d) o)) (λx _=>64-(intOf x).toNat)
    .exact⟨0,Z,rfl,Y b⟩
    .obtain⟨c,zl,rfl,zy⟩:=hrel;try clear b
     have b:=zy.out;clear zy;by_cases A:c<64
     .have zX:(c:Int)<64:=Z;have zal:(c:Int)<64:=Z;have zak:=zac c A;have bw:wr.cell? ⟨zr,c,none⟩=some (.int .i64 (w c)):=b.cl 0 c rfl Qb;have zat:=(b.ai 0 (h:=zr) rfl).eA c;have zam:=zh.out.1 c;have zas:=zh.out.2 c A;go_wp2_with fail
      replace b:=b.uE 0 (v:=X (w c+e c)) (an .i64 64 (nt w e (c+1))) (P9 w e A rfl);try dsimp only[List.set]at b
      exact Qc
     .have zX:¬((c:Int)<64):=Z;obtain rfl:c=64:=Z;rw[P']at b;have zM:=kF (B.out.S b.aa U) 4;go_wp2_with fail
      clear zM;have z8:=(B.out.S b.aa U).au 4|>.trans (hX (a:=a) (s:=4) R rfl);replace b:=b.bd;have zp:=b.size;refine rg [] [0,1,2,3,4,5,6,107,8,9,310,211,12] ?_;refine ax ?_;refine bN (G.out _ _ b.q) ?_;refine By λzV zJ z' zO P=>?_;have zag:=P.fb (bg y) zp;replace b:=b.renew P;clear P zp;refine ax ?_;refine b.dq 4 (al (fj a f l i n (d+1)) (bb (fj a f l i n (d+1)) zJ z' zO)) aB (bo _ _) ?_;clear b;intro E b;refine ax ?_;clear z8;go_wp2_with fail
      replace b:=b.drop 2;try dsimp only[List.drop]at b
      exact⟨⟨d+1,Z,a8,_,zag,Y b⟩,bF⟩
  .have zab:¬((d:Int)<6):=Z;obtain rfl:d=6:=Z;go_wp2_with(first|(refine b.ld 2 aB ?_)|(refine b.aN 0 (al (fj a f l i n 6) o) aB (bo _ _) ?_;clear b;intro zau b))
   refine bB (eW rfl (kM _ _) (b.ai 0 rfl) rfl) ⟨o,rfl,b.q,b.aa,O⟩
theorem Qd(b:N)(a:Nat)(h:a<=4):Calls prog 197 #[X a] b λf g=>f=.returned (X ((16*a:Nat):Int))/\V [] b g:=by
 have c:=Y (show(if(-1:Int)>(a:Int)then(-1:Int)else(a:Int))=(a:Int) by rw[M Z]);have d:=Y (show(if(128:Int)<(a:Int)then(128:Int)else(a:Int))=(a:Int) by rw[M Z]);have e:=ao.nil [] b;go_in;go_wp2_with(first|(refine lL _ _ _ c.out rfl rfl rfl rfl ?_)|(refine A9 _ _ _ d.out rfl rfl rfl rfl ?_))
 exact gJ rfl ⟨rfl,e.aa⟩
def gT(b:Bool):aj:=λa=>if a=0 then 2 else if a=1 then 1 else if a=2 then b.toInt else 0
def stM(a:aY):aj:=λb=>if b=13 then(if a.field=true then a.par else 0)else if b=15 then(if a.field=true/\a.t=3 then a.par else 0)else gT (a.t==3) b
theorem Qe(a:Bool):prog.built 233 [(0,.int .i64 2),(1,.agg #[.bool true,.bool a])]=some (ap (gT a)):=by cases a<;>kernel_rfl
theorem Cf{a:Qax}{c:N}{b:Qau}(f:Bool)(l:cB a g r)(m:a.op=.build 233 #[(0,.const (X 2)),(1,b)])(e:r.eval b=.agg #[.bool true,.bool f]) (i:wpList prog g j k (r.put a.dst (ap (gT f))) c):wpList prog g j (a::k) r c:=nf λn h=>by
 have d:r.eval (.const (X 2))=X 2:=rfl;rw[ae l];refine q0 _ _ m ?_ ?_
 .simp only[gm,cj,ee,d,e,Qe];rfl
 .simp only[gm,cj,ee,d,e,Qe];exact h _ _ i
theorem G2(b:aj)(v:Int)(a:Nat)(c:a=13\/a=15):(ap b).setIfInBounds a (X v)=ap (aV b a v):=ni _ Z (by rcases c with rfl|rfl<;>rfl)
theorem nu(b c:Bool)(a:N):(Instr.index 223 (.agg #[.bool b,.bool c]) (X 0)).run prog a=.ok (.bool b) a/\(Instr.index 223 (.agg #[.bool b,.bool c]) (X 1)).run prog a=.ok (.bool c) a:=⟨n2 a _ _ 2 _ _ _ underlying223 underlying4 rfl uy .i64 0 R rfl,n2 a _ _ 2 _ _ _ underlying223 underlying4 rfl uy .i64 1 R rfl⟩
theorem Cg(a:b:=by
 unfold stM;rw[b,e];by_cases r:a=13
 .subst r;simp[aV,gT]
 .by_cases f:a=15
  .subst f;simp[aV,gT,c]
  .simp[aV,r,f]):b:=a
theorem adi(b:d.field=true)(e:(d.t==3)=true)(a:Nat):(aV (aV (gT true) 13 d.par) 15 d.par) a=stM d a:=by have c:d.t=3:=q9;exact Cg
theorem adj(b:d.field=false)(e:(d.t==3)=true)(a:Nat):(gT true) a=stM d a:=by have c:d.t=3:=q9;exact Cg
theorem adk(b:d.field=true)(e:(d.t==3)=false)(a:Nat):(aV (gT false) 13 d.par) a=stM d a:=by have c:¬d.t=3:=q9;exact Cg
theorem adl(b:d.field=false)(e:(d.t==3)=false)(a:Nat):(gT false) a=stM d a:=by have c:¬d.t=3:=q9;exact Cg
theorem Ch(a:b:=by rw[<-l];exact bB (eH rfl (cP _) (b.ai 1 rfl) rfl) ⟨rfl,b.aa⟩):b:=a
theorem adm(f:N)(c:aY):Calls prog 160 #[bl c] f λC B=>C=.returned (ap (stM c))/\V [] f B:=by
 have h:=Y λf=>FP f c;have t:=Y λf=>NF f c;cases i:c.field
 all_goals rw[i]at h
 .cases e:(c.t==3)
  .have z:¬c.t=3:=q9;have b:=ao.nil [] f;go_in;go_wp2_with(first|(refine b.aI _ (bl c) ?_;intro s r b)|(refine b.aH (ap λ_=>0) i' ?_;intro y x b;have g:=b.ah 1 0)|(refine Cf false rfl rfl rfl ?_)|(refine b.aH (ap λ_=>0) i' ?_;intro p u b;clear g)|(refine b.aN 0 (ap (gT false)) (cP _) (gf _) ?_ (s:=jD);intro w b)|(refine b.ld 2 (cE _) ?_))
   refine b.aW (h.out _) ?_;intro n b;go_wp2_with(first|(refine b.ld 0 (cP _) ?_)|(refine b.aN 1 (ap (gT false)) (cP _) (gf _) ?_ (s:=jD);intro q b))
   go_wp2_with fail
   have l:ap (gT false)=ap (stM c):=eY λj _=>adl i e j;exact Ch
  .have z:c.t=3:=q9;have b:=ao.nil [] f;go_in;go_wp2_with(first|(refine b.aI _ (bl c) ?_;intro s r b)|(refine b.aH (ap λ_=>0) i' ?_;intro y x b;have g:=b.ah 1 0)|(refine Cf true rfl rfl rfl ?_)|(refine b.aH (ap λ_=>0) i' ?_;intro p u b;clear g)|(refine b.aN 0 (ap (gT true)) (cP _) (gf _) ?_ (s:=jD);intro w b)|(refine b.ld 2 (cE _) ?_))
   refine b.aW (h.out _) ?_;intro n b;go_wp2_with(first|(refine b.ld 0 (cP _) ?_)|(refine b.aN 1 (ap (gT true)) (cP _) (gf _) ?_ (s:=jD);intro q b))
   go_wp2_with fail
   have l:ap (gT true)=ap (stM c):=eY λj _=>adj i e j;exact Ch
 .cases e:(c.t==3)
  .have z:¬c.t=3:=q9;have b:=ao.nil [] f;go_in;go_wp2_with(first|(refine b.aI _ (bl c) ?_;intro s r b)|(refine b.aH (ap λ_=>0) i' ?_;intro y x b;have g:=b.ah 1 0)|(refine Cf false rfl rfl rfl ?_)|(refine b.aH (ap λ_=>0) i' ?_;intro p u b;clear g)|(refine b.aN 0 (ap (gT false)) (cP _) (gf _) ?_ (s:=jD);intro w b)|(refine b.ld 2 (cE _) ?_))
   refine b.aW (h.out _) ?_;intro n b;go_wp2_with(refine b.cp 0 (#[.bool true,.bool false]) gv ?_ (o:=by exact(λj k=>kp)))
   refine G3 λm o=>?_;rw[cR];go_wp2_with fail
   refine uO 3 4 102 5 ?_;clear b;intro b;refine b.ec (t.out _) ?_;intro q b;refine ax ?_;refine b.h0 0 (X c.par) (ap (aV (gT false) 13 c.par)) ?_ (r:=G2 _ _ _ R) (t:=by rw[ap,gI];decide);intro D b;refine ax ?_;go_wp2_with fail
   rw[cR];go_wp2_with fail
   rw[cR];go_wp2_with(first|(refine b.ld 0 (cP _) ?_)|(refine b.aN 1 (ap (aV (gT false) 13 c.par)) (cP _) (gf _) ?_ (s:=jD);intro A b))
   have l:ap ((aV (gT false) 13 c.par))=ap (stM c):=eY λj _=>adk i e j;exact Ch
  .have z:c.t=3:=q9;have b:=ao.nil [] f;go_in;go_wp2_with(first|(refine b.aI _ (bl c) ?_;intro s r b)|(refine b.aH (ap λ_=>0) i' ?_;intro y x b;have g:=b.ah 1 0)|(refine Cf true rfl rfl rfl ?_)|(refine b.aH (ap λ_=>0) i' ?_;intro p u b;clear g)|(refine b.aN 0 (ap (gT true)) (cP _) (gf _) ?_ (s:=jD);intro w b)|(refine b.ld 2 (cE _) ?_))
   refine b.aW (h.out _) ?_;intro n b;go_wp2_with(refine b.cp 0 (#[.bool true,.bool true]) gv ?_ (o:=by exact(λj k=>kp)))
   have m:=λa=>(nu true true a).1;have o:=λa=>(nu true true a).2;refine jc 3 ?_;rw[cR];go_wp2_with fail
   refine uO 3 4 102 5 ?_;clear b;intro b;refine b.ec (t.out _) ?_;intro q b;refine ax ?_;refine b.h0 0 (X c.par) (ap (aV (gT true) 13 c.par)) ?_ (r:=G2 _ _ _ R) (t:=by rw[ap,gI];decide);intro D b;refine ax ?_;go_wp2_with fail
   rw[cR];go_wp2_with fail
   replace b:=b.bd;refine rg [] [0,1,3,4,102,5,206] ?_;refine ax ?_;refine b.ec (t.out _) ?_;intro A b;refine ax ?_;refine b.h0 0 (X c.par) (ap (aV ((aV (gT true) 13 c.par)) 15 c.par)) ?_ (r:=G2 _ _ _ R) (t:=by rw[ap,gI];decide);intro F b;refine ax ?_;go_wp2_with fail
   rw[cR];go_wp2_with(first|(refine b.ld 0 (cP _) ?_)|(refine b.aN 1 (ap (aV ((aV (gT true) 13 c.par)) 15 c.par)) (cP _) (gf _) ?_ (s:=jD);intro E b))
   have l:ap ((aV ((aV (gT true) 13 c.par)) 15 c.par))=ap (stM c):=eY λj _=>adi i e j;exact Ch
theorem sF:kz 71 (.agg eh) 5 88:=k7
structure uP(i:N)(j:aY)(k:cS)(l:dP)(m:Nat)(a:aj)(g h c:Nat)(d f:aq):Prop where
 ok:d.Ok
 hn:∀b,V [] i b->Calls prog 194 #[bl j,bI k l,X c,X (a (13+2*c))] b (mB i.heap.size d b)
 Ci:a 3=0->∀b e,aT b d e->Calls prog 196 #[al d e,X ((16*g:Nat):Int),X ((16*h:Nat):Int),X 16,X 16,.agg (bQ (a (5+4*c)) (a (6+4*c)))] b (jR f b)
 bs:a 3≠0->∀b e,aT b d e->Calls prog 195 #[al d e,X g,X h,.agg #[X (a (5+4*c)),X (a (6+4*c)),X (a (7+4*c)),X (a (8+4*c))],.agg #[X (a (13+2*c)),X (a (14+2*c))]] b (jR f b)
 q':f.Ok/\f.w=16/\f.h=16
theorem Qf{α:Type}:∀(a:List α)(b:Nat)(e:b<a.length),(a[b]::a.eraseIdx b).Perm a
 |_::_,0,_=>List.Perm.refl _
 |r::a,b+1,e=>(List.Perm.swap r (a[b]'kf) (a.eraseIdx b)).trans ((Qf a b kf).cons r)
theorem ao.front{k:af}{j:N}{a:bX}{b:Nat}{c:Nat×TypeId×Array Value}(d:ao k i j a)(h:a[b]? =some c):ao k i j (c::a.eraseIdx b):=by
 have l:b<a.length:=(e8.1 h).1;have m:c=a[b]:=((e8.1 h).2).symm;have e:(c::a.eraseIdx b).Perm a:=by rw[m];exact Qf a b l
 exact⟨d.aa,λf g=>d.b f (e.mem_iff.1 g),(e.map (·.1)).nodup_iff.2 d.d,λf g=>d.n f (e.mem_iff.1 g)⟩
theorem Qg(a:b:=by
 refine xA ?_;clear b;intro E t u q ze b;refine b.dq 3 (al i (bb i t u q)) aB (bo _ _) ?_;clear b;intro z7 b;refine ax ?_;replace b:=b.h;go_wp2_with(first|(refine b.ld 3 aB ?_)|(refine e' underlying27 (al i (bb i t u q)) rfl rfl ar ?_;intro zV z8 zs zr zE;replace b:=b.aP zs zr zE;clear zs zr zE)|(refine b.BX _ 88 underlying27 sF rfl R (aF.ai (e:=1) (C:=5) (b.ai 0 (h:=zV) (i:=al i (bb i t u q)) rfl) rfl) (λz' zt=>by simp[al]at zt;rcases zt with rfl|rfl|rfl|rfl|rfl<;>rfl) R R R ?_;clear b;intro zac zab zad zaa b zU))
 rw[cR];go_wp2_with fail
 rw[cR];go_wp2_with(first|(refine b.cp 0 (al i (bb i t u q)) aB ?_ (o:=by exact zU.at_ rfl))|(refine b.aN 7 (al i (bb i t u q)) aB (bo _ _) ?_;clear b;intro zu b))
 refine bB (eW rfl (kM _ _) (b.ai 7 rfl) rfl) ⟨_,rfl,b.fg (r:=i) 2 rfl rfl rfl,b.aa,sw b 2 rfl rfl rfl⟩):b:=a
theorem Cj(a:c)(d:c->b:=by intro zaW;replace b:=b.aS zC;refine⟨_,rfl,zm,?_⟩;have zB:=K.fv D.out.ok;replace b:=bC.ei b zm K D.out.ok C;refine Qh λG F P O I z Q=>?_;replace b:=b.hE O P (A.off z) Q (b7 x z);clear O P I Q zB;refine b.dq 0 (al zD zz) aB (bo _ _) ?_;clear b;intro B b;refine ax ?_;revert G F z B b;exact zaW):b:=d a
theorem uQ(a:Nat)(d:f)(g:c)(e:bj a->f->c->b:=by intro zai zaN za0;have w:=(h.out.S b.aa U).au zai|>.trans (fa (a:=c) (s:=zai) R rfl);have A:=b.fv;have x:=b.size;replace b:=b.bd;refine rg [14] [0,1,2,3,4,5,6,7,8,9,110,11,12,313,414,215,16] ?_;refine ax ?_;refine n3 rfl (λa=>mF) (λv zJ=>zaN _ (b.aS zJ).aa) ?_;revert w A x b;exact za0):b:=e ⟨⟩ d g
theorem Qh(a:c)(d:c->b:=by intro zaY;refine uH λG F P O I=>?_;have z:=km I (za:=zd.heap.size) U;simp only[az];have Q:=Gw C zB x z Qi;revert G F P O I z Q;exact zaY):b:=d a
theorem G4(d j e l i a:Nat)(g:f)(k:c)(h:bj d->bj j->bj e->bj l->bj i->bj a->f->c->b:=by intro zaT za2 zaL zaS zaM zaO zaV zaZ;replace b:=b.bd;refine rg [] [0,1,2,3,4,5,6,7,8,9,10,11,12,13,14,115,16,17,318,219,20] ?_;refine b.fw 1 aB ?_;refine y2 ?_;refine hh (aL:=#[X (c zaT),X (c za2),X (c zaL),X (c zaS)]) n1 (h.out.S b.aa U) (λj k=>BT) rfl rfl rfl ?_;refine lx ?_;refine hh (aL:=#[X (c zaM),X (c zaO)]) mx (h.out.S b.aa U) (λj k=>xk) rfl rfl rfl ?_;simp only[az];refine bN (zaV zh.out _ _ b.q) ?_;revert b;exact zaZ):b:=h ⟨⟩ ⟨⟩ ⟨⟩ ⟨⟩ ⟨⟩ ⟨⟩ g k
theorem G5(a g:Nat)(d:f)(h:c)(e:bj a->bj g->f->c->b:=by intro za3 zaX za1 zaP;replace b:=b.bd;refine rg [] [0,1,3,5,6,7,8,9,10,11,102,104,112,13,14,315,216,17] ?_;refine b.fw 1 aB ?_;refine nI ?_;refine hh (aL:=#[X (c za3),X (c zaX)]) dI (h.out.S b.aa U) (λj k=>xk) rfl rfl rfl ?_;simp only[az];refine b.ec (za.out.1 _) ?_;clear b;intro zn b;simp only[az];refine b.ec (za.out.2 _) ?_;clear b;intro zo b;simp only[az];refine bN (za1 zi.out _ _ b.q) ?_;revert zn zo b;exact zaP):b:=e ⟨⟩ ⟨⟩ d h
theorem G6(a:c)(d:cZ c->b:=by intro zaU;have zh:ck (c 3≠0):=p;have y:=Y (show(c 3 !=0)=true from mY);have b:=ao.nil [] f;revert zh y b;exact zaU.out):b:=d ⟨a⟩
theorem G7(a:c)(d:c->b:=by intro zaQ;have zi:=Y p;have y:=Y (show(c 3 !=0)=false by rw[p];rfl);have b:=ao.nil [] f;revert zi y b;exact zaQ):b:=d a
theorem adn(f:N)(L:aY)(J:cS)(zj:dP)(r:Nat)(c:aj)(H W:Nat)(zD i:aq)(zv:ag f r 233 (ap c))(zx:(∀f,Calls prog 197 #[X H] f λe zl=>e=.returned (X ((16*H:Nat):Int))/\V [] f zl)/\∀f,Calls prog 197 #[X W] f λe zl=>e=.returned (X ((16*W:Nat):Int))/\V [] f zl)(zM:(c 1 !=0)=true)(zw:(c 2 !=0)=false)(zN:uP f L J zj r c H W 0 zD i):Calls prog 161 #[bl L,ab r,bI J zj,X H,X W] f (mB 0 i f):=by
 have h:=Y zv;have za:=Y zx;clear zv zx;have zK:=Y zM;have zF:=Y zw;have D:=Y zN;clear zM zw zN;by_cases p:c 3=0
 .refine G7 ?_;clear p;intro zi y b;go_in;go_wp2_with(first|(refine b.aI _ (bl L) ?_;clear b;intro zX zW b)|(refine b.aI _ (bI J zj) ?_;clear b;intro z6 zY b)|(refine b.aH (_) bY ?_;clear b;intro zS zd b)|(refine de (#[.bool true,.bool false]) rfl gv (h.out.S b.aa U) (λj k=>uR) rfl rfl ?_))
  refine G3 λm o=>?_;rw[cR];have zk:=jx (h.out.S b.aa U) 13;go_wp2_with fail
  refine uQ 13 D.out.hn ?_;clear zk b;intro w A x b;rintro g' zC e zZ ⟨zz,rfl,K,zm,C⟩;refine Cj ?_;clear b C K w;intro G F z B b;go_wp2_with(refine b.aH (_) bY ?_;clear b;intro zT zp b;have zq:zp.cell? ⟨r,3,none⟩=some (.bool false):=(h.out.S b.aa U).au _|>.trans (hX R rfl|>.trans (aX (λl=>some (Value.bool l)) y.out)))
  refine G5 5 6 D.out.Ci ?_;clear zq b;intro zn zo b;exact Qg
 .refine G6 ?_;clear p;intro zh y b;go_in;go_wp2_with(first|(refine b.aI _ (bl L) ?_;clear b;intro zX zW b)|(refine b.aI _ (bI J zj) ?_;clear b;intro z6 zY b)|(refine b.aH (_) bY ?_;clear b;intro zS zd b)|(refine de (#[.bool true,.bool false]) rfl gv (h.out.S b.aa U) (λj k=>uR) rfl rfl ?_))
  refine G3 λm o=>?_;rw[cR];have zk:=jx (h.out.S b.aa U) 13;go_wp2_with fail
  refine uQ 13 D.out.hn ?_;clear zk b;intro w A x b;rintro g' zC e zZ ⟨zz,rfl,K,zm,C⟩;refine Cj ?_;clear b C K w;intro G F z B b;go_wp2_with(refine b.aH (_) bY ?_;clear b;intro zT zp b;have zq:zp.cell? ⟨r,3,none⟩=some (.bool true):=(h.out.S b.aa U).au _|>.trans (hX R rfl|>.trans (aX (λl=>some (Value.bool l)) y.out)))
  refine G4 5 6 7 8 13 14 D.out.bs ?_;clear zq b;intro b;exact Qg
theorem Qj(a:b:=by
 refine xA ?_;clear b;intro E t u q ze b;refine b.dq 3 (al i (bb i t u q)) aB (bo _ _) ?_;clear b;intro z7 b;refine ax ?_;replace b:=b.h;go_wp2_with(first|(refine b.ld 3 aB ?_)|(refine e' underlying27 (al i (bb i t u q)) rfl rfl ar ?_;intro zU z8 zs zp zz;replace b:=b.aP zs zp zz;clear zs zp zz)|(refine b.BX _ 88 underlying27 sF rfl R (aF.ai (e:=1) (C:=5) (b.ai 0 (h:=zU) (i:=al i (bb i t u q)) rfl) rfl) (λz' zt=>by simp[al]at zt;rcases zt with rfl|rfl|rfl|rfl|rfl<;>rfl) R R R ?_;clear b;intro zac zab zad zaa b zT))
 rw[cR];go_wp2_with(first|(refine b.cp 0 (al i (bb i t u q)) aB ?_ (o:=by exact zT.at_ rfl))|(refine b.aN 7 (al i (bb i t u q)) aB (bo _ _) ?_;clear b;intro zu b))
 refine bB (eW rfl (kM _ _) (b.ai 7 rfl) rfl) ⟨_,rfl,b.fg (r:=i) 2 rfl rfl rfl,b.aa,sw b 2 rfl rfl rfl⟩):b:=a
theorem Qk(a:c)(d:c->b:=by intro zV;replace b:=b.aS zE;refine⟨_,rfl,W,?_⟩;have zB:=r.fv m.out.ok;replace b:=bC.ei b W r m.out.ok C;refine Qh λG F P O I z Q=>?_;replace b:=b.hE O P (A.off z) Q (b7 x z);clear O P I Q zB;refine b.dq 0 (al zC zr) aB (bo _ _) ?_;clear b;intro B b;refine ax ?_;revert G F z B b;exact zV):b:=d a
theorem ado(f:N)(J:aY)(H:cS)(L:dP)(o:Nat)(c:aj)(D K:Nat)(zC i:aq)(zv:ag f o 233 (ap c))(zx:(∀f,Calls prog 197 #[X D] f λe zk=>e=.returned (X ((16*D:Nat):Int))/\V [] f zk)/\∀f,Calls prog 197 #[X K] f λe zk=>e=.returned (X ((16*K:Nat):Int))/\V [] f zk)(zD:(c 1 !=0)=false)(zw:(c 2 !=0)=true)(zq:uP f J H L o c D K 1 zC i):Calls prog 161 #[bl J,ab o,bI H L,X D,X K] f (mB 0 i f):=by
 have h:=Y zv;have za:=Y zx;clear zv zx;have zK:=Y zD;have zF:=Y zw;have m:=Y zq;clear zD zw zq;by_cases p:c 3=0
 .refine G7 ?_;clear p;intro zi y b;go_in;go_wp2_with(first|(refine b.aI _ (bl J) ?_;clear b;intro zX zW b)|(refine b.aI _ (bI H L) ?_;clear b;intro z6 zY b)|(refine b.aH (_) bY ?_;clear b;intro zM zd b)|(refine de (#[.bool false,.bool true]) rfl gv (h.out.S b.aa U) (λj k=>uR) rfl rfl ?_))
  have zS:=λa=>(nu false true a).1;have zN:=λa=>(nu false true a).2;refine jc 3 ?_;rw[cR];go_wp2_with fail
  rw[cR];have zj:=jx (h.out.S b.aa U) 15;go_wp2_with fail
  refine uQ 15 m.out.hn ?_;clear zj b;intro w A x b;rintro g' zE e zZ ⟨zr,rfl,r,W,C⟩;refine Qk ?_;clear b C r;intro G F z B b;clear w;go_wp2_with(refine b.aH (_) bY ?_;clear b;intro zO zl b;have zm:zl.cell? ⟨o,3,none⟩=some (.bool false):=(h.out.S b.aa U).au _|>.trans (hX R rfl|>.trans (aX (λl=>some (Value.bool l)) y.out)))
  refine G5 9 10 m.out.Ci ?_;clear zm b;intro zn zo b;exact Qj
 .refine G6 ?_;clear p;intro zh y b;go_in;go_wp2_with(first|(refine b.aI _ (bl J) ?_;clear b;intro zX zW b)|(refine b.aI _ (bI H L) ?_;clear b;intro z6 zY b)|(refine b.aH (_) bY ?_;clear b;intro zM zd b)|(refine de (#[.bool false,.bool true]) rfl gv (h.out.S b.aa U) (λj k=>uR) rfl rfl ?_))
  have zS:=λa=>(nu false true a).1;have zN:=λa=>(nu false true a).2;refine jc 3 ?_;rw[cR];go_wp2_with fail
  rw[cR];have zj:=jx (h.out.S b.aa U) 15;go_wp2_with fail
  refine uQ 15 m.out.hn ?_;clear zj b;intro w A x b;rintro g' zE e zZ ⟨zr,rfl,r,W,C⟩;refine Qk ?_;clear b C r;intro G F z B b;clear w;go_wp2_with(refine b.aH (_) bY ?_;clear b;intro zO zl b;have zm:zl.cell? ⟨o,3,none⟩=some (.bool true):=(h.out.S b.aa U).au _|>.trans (hX R rfl|>.trans (aX (λl=>some (Value.bool l)) y.out)))
  refine G4 9 10 11 12 15 16 m.out.bs ?_;clear zm b;intro b;exact Qj
theorem Ql(a:b:=by
 simp only[az];refine bN (zbf.out _ _ _ (b.fg (r:=m) 8 rfl rfl rfl) (b.fg (r:=o) 2 rfl rfl rfl)) ?_;refine xA ?_;clear b;intro zbL r l zx zj b;refine b.dq 16 (al (oS m o) (bb (oS m o) r l zx)) aB (bo _ _) ?_;clear b;intro zbQ b;refine ax ?_;go_wp2_with fail
 refine bB (eW rfl (kM _ _) (b.ai 16 rfl) rfl) ⟨_,rfl,b.fg (r:=oS m o) 0 rfl rfl rfl,b.aa,sw b 0 rfl rfl rfl⟩):b:=a
theorem Qm(a:c)(d:c->b:=by intro zbb;refine w9 λE t u q ze=>?_;replace b:=b.kE ze;refine ax ?_;refine b.dq 3 (al m (bb m t u q)) aB (bo _ _) ?_;clear b;intro zM b;refine ax ?_;replace b:=b.h;revert E t u q ze zM b;exact zbb):b:=d a
theorem Qn(a:c)(d:c->b:=by intro zbw;refine w9 λzS zk zl W zZ=>?_;replace b:=b.kE zZ;refine ax ?_;refine b.dq 3 (al o (bb o zk zl W)) aB (bo _ _) ?_;clear b;intro zaG b;refine ax ?_;replace b:=b.h;revert zS zk zl W zZ zaG b;exact zbw):b:=d a
theorem Qo(a:c)(d:c->b:=by intro zbt;have w:=(h.out.S b.aa U).au 15|>.trans (fa (a:=c) (s:=15) R rfl);have A:=b.fv;have x:=b.size;replace b:=b.bd;refine rg [14] [0,1,2,3,4,5,6,7,8,9,110,11,12,313,414,215,16] ?_;refine ax ?_;refine n3 rfl (λa=>mF) (λv zJ=>J.out.hn _ (b.aS zJ).aa) ?_;revert w A x b;exact zbt):b:=d a
theorem adp(f:N)(zr:aY)(zj:cS)(zv:dP)(L:Nat)(c:aj)(zq zs:Nat)(zD m:aq)(zaa o:aq)(zar:ag f L 233 (ap c))(zaz:(∀f,Calls prog 197 #[X zq] f λe zab=>e=.returned (X ((16*zq:Nat):Int))/\V [] f zab)/\∀f,Calls prog 197 #[X zs] f λe zab=>e=.returned (X ((16*zs:Nat):Int))/\V [] f zab)(zaB:(c 1 !=0)=true)(zaw:(c 2 !=0)=true)(zaI:uP f zr zj zv L c zq zs 0 zD m)(zak:uP f zr zj zv L c zq zs 1 zaa o):Calls prog 161 #[bl zr,ab L,bI zj zv,X zq,X zs] f (mB 0 (oS m o) f):=by
 have h:=Y zar;have za:=Y zaz;clear zar zaz;have zK:=Y zaB;have zF:=Y zaw;have D:=Y zaI;have J:=Y zak;clear zaB zaw zaI zak;have zbf:=Y λf zbs zbr za5 zbu=>aaH f m o zbs zbr D.out.q'.1 J.out.q'.1 (by rw[D.out.q'.2.1,J.out.q'.2.1]) (by rw[D.out.q'.2.2,J.out.q'.2.2]) za5 zbu;by_cases p:c 3=0
 .refine G7 ?_;clear p;intro zi y b;go_in;go_wp2_with(first|(refine b.aI _ (bl zr) ?_;clear b;intro zbm zbl b)|(refine b.aI _ (bI zj zv) ?_;clear b;intro zbx zbo b)|(refine b.aH (_) bY ?_;clear b;intro za4 zd b)|(refine de (#[.bool true,.bool true]) rfl gv (h.out.S b.aa U) (λj k=>uR) rfl rfl ?_))
  have zbh:=λa=>(nu true true a).1;have zbe:=λa=>(nu true true a).2;refine jc 3 ?_;rw[cR];have zT:=jx (h.out.S b.aa U) 13;go_wp2_with fail
  refine uQ 13 D.out.hn ?_;clear zT b;intro w A x b;rintro g' zC e zbv ⟨zz,rfl,K,zm,C⟩;refine Cj ?_;clear b C K w;intro G F z B b;go_wp2_with(refine b.aH (_) bY ?_;clear b;intro zbg zad b;have zx:zad.cell? ⟨L,3,none⟩=some (.bool false):=(h.out.S b.aa U).au _|>.trans (hX R rfl|>.trans (aX (λl=>some (Value.bool l)) y.out)))
  refine G5 5 6 D.out.Ci ?_;clear zx b;intro zn zo b;refine Qm ?_;clear b;intro E t u q ze zM b;go_wp2_with(first|(refine b.ld 3 aB ?_)|(refine e' underlying27 (al m (bb m t u q)) rfl rfl ar ?_;intro zbj za9 zap zp zt;replace b:=b.aP zap zp zt;clear zap zp zt)|(refine b.BX _ 88 underlying27 sF rfl R (aF.ai (e:=1) (C:=5) (b.ai 0 (h:=zbj) (i:=al m (bb m t u q)) rfl) rfl) (λzO H=>by simp[al]at H;rcases H with rfl|rfl|rfl|rfl|rfl<;>rfl) R R R ?_;clear b;intro zbS zbJ zaE zbG b zbi))
  rw[cR];have zU:=jx (h.out.S b.aa U) 15;go_wp2_with fail
  refine Qo ?_;clear zU b;intro w A x b;rintro zbF zbc e zu ⟨zbq,rfl,zaf,zaC,zN⟩;replace b:=b.aS zbc;refine⟨_,rfl,zaC,?_⟩;have zan:=zaf.fv J.out.ok;replace b:=bC.ei b zaC zaf J.out.ok zN;refine uH λzf zb zy zA zc=>?_;have z7:=km zc (za:=zaE.heap.size) U;simp only[az];have zax:=Gw zN zan x z7 (by simp only[lq,bu]at zc;exact zc _ (.inl rfl));replace b:=b.hE zA zy (A.off z7) zax (b7 x z7);clear zA zy zc zax zan zN zaf;refine b.dq 0 (al zaa zbq) aB (bo _ _) ?_;clear b;intro zba b;refine ax ?_;clear w;go_wp2_with(refine b.aH (_) bY ?_;clear b;intro zbT zaJ b;have z8:zaJ.cell? ⟨L,3,none⟩=some (.bool false):=(h.out.S b.aa U).au _|>.trans (hX R rfl|>.trans (aX (λl=>some (Value.bool l)) y.out)))
  clear z8;replace b:=b.bd;refine rg [] [0,1,3,5,6,7,8,9,10,11,102,104,112,13,14,315,216,17] ?_;refine b.fw 1 aB ?_;refine nI ?_;refine hh (aL:=#[X (c 9),X (c 10)]) dI (h.out.S b.aa U) (λj k=>xk) rfl rfl rfl ?_;simp only[az];refine b.ec (za.out.1 _) ?_;clear b;intro zbM b;simp only[az];refine b.ec (za.out.2 _) ?_;clear b;intro zby b;simp only[az];refine bN (J.out.Ci zi.out _ _ b.q) ?_;refine Qn ?_;clear b;intro zS zk zl W zZ zaG b;go_wp2_with(first|(refine b.ld 3 aB ?_)|(refine e' underlying27 (al o (bb o zk zl W)) rfl rfl ar ?_;intro zbp zbU zaj zao zau;replace b:=b.aP zaj zao zau;clear zaj zao zau)|(have zw:=b;replace b:=b.front (b:=6) rfl;refine b.O2 _ 88 zbi underlying27 sF rfl R (aF.ai (e:=1) (C:=5) (zw.ai 0 (h:=zbp) (i:=al o (bb o zk zl W)) rfl) rfl) (λzO H=>by simp[al]at H;rcases H with rfl|rfl|rfl|rfl|rfl<;>rfl) R R R ?_;clear b zw;intro zbR zbI zbP zbV b zam;dsimp only[List.eraseIdx]at b))
  rw[cR];go_wp2_with fail
  replace b:=b.bd;refine rg [] [0,1,2,3,4,5,106,7,8,209,10] ?_;refine jL ?_;refine b.hZ 0 (al m (bb m t u q)) aB ?_ (o:=by exact zam.at_ rfl);refine jL ?_;refine b.hZ 0 (al o (bb o zk zl W)) aB ?_ (o:=by exact zam.at_ rfl);exact Ql
 .refine G6 ?_;clear p;intro zh y b;go_in;go_wp2_with(first|(refine b.aI _ (bl zr) ?_;clear b;intro zbm zbl b)|(refine b.aI _ (bI zj zv) ?_;clear b;intro zbx zbo b)|(refine b.aH (_) bY ?_;clear b;intro za4 zd b)|(refine de (#[.bool true,.bool true]) rfl gv (h.out.S b.aa U) (λj k=>uR) rfl rfl ?_))
  have zbh:=λa=>(nu true true a).1;have zbe:=λa=>(nu true true a).2;refine jc 3 ?_;rw[cR];have zT:=jx (h.out.S b.aa U) 13;go_wp2_with fail
  refine uQ 13 D.out.hn ?_;clear zT b;intro w A x b;rintro g' zC e zbv ⟨zz,rfl,K,zm,C⟩;refine Cj ?_;clear b C K w;intro G F z B b;go_wp2_with(refine b.aH (_) bY ?_;clear b;intro zbg zad b;have zx:zad.cell? ⟨L,3,none⟩=some (.bool true):=(h.out.S b.aa U).au _|>.trans (hX R rfl|>.trans (aX (λl=>some (Value.bool l)) y.out)))
  refine G4 5 6 7 8 13 14 D.out.bs ?_;clear zx b;intro b;refine Qm ?_;clear b;intro zn zY zae z6 zbW zo b;go_wp2_with(first|(refine b.ld 3 aB ?_)|(refine e' underlying27 (al m (bb m zY zae z6)) rfl rfl ar ?_;intro zbk zM zaA zaq zal;replace b:=b.aP zaA zaq zal;clear zaA zaq zal)|(refine b.BX _ 88 underlying27 sF rfl R (aF.ai (e:=1) (C:=5) (b.ai 0 (h:=zbk) (i:=al m (bb m zY zae z6)) rfl) rfl) (λzO H=>by simp[al]at H;rcases H with rfl|rfl|rfl|rfl|rfl<;>rfl) R R R ?_;clear b;intro zbH zbO zbz zbD b zbA))
  rw[cR];have zU:=jx (h.out.S b.aa U) 15;go_wp2_with fail
  refine Qo ?_;clear zU b;intro w A x b;rintro zbB za8 e za9 ⟨zbn,rfl,zV,zp,zW⟩;replace b:=b.aS za8;refine⟨_,rfl,zp,?_⟩;have zt:=zV.fv J.out.ok;replace b:=bC.ei b zp zV J.out.ok zW;refine uH λzbC zaE zaD zay zE=>?_;have zag:=km zE (za:=zbz.heap.size) U;simp only[az];have zas:=Gw zW zt x zag (by simp only[lq,bu]at zE;exact zE _ (.inl rfl));replace b:=b.hE zay zaD (A.off zag) zas (b7 x zag);clear zay zaD zE zas zt zW zV;refine b.dq 0 (al zaa zbn) aB (bo _ _) ?_;clear b;intro zu b;refine ax ?_;clear w;go_wp2_with(refine b.aH (_) bY ?_;clear b;intro zf zb b;have z8:zb.cell? ⟨L,3,none⟩=some (.bool true):=(h.out.S b.aa U).au _|>.trans (hX R rfl|>.trans (aX (λl=>some (Value.bool l)) y.out)))
  clear z8;replace b:=b.bd;refine rg [] [0,1,2,3,4,5,6,7,8,9,10,11,12,13,14,115,16,17,318,219,20] ?_;refine b.fw 1 aB ?_;refine y2 ?_;refine hh (aL:=#[X (c 9),X (c 10),X (c 11),X (c 12)]) n1 (h.out.S b.aa U) (λj k=>BT) rfl rfl rfl ?_;refine lx ?_;refine hh (aL:=#[X (c 15),X (c 16)]) mx (h.out.S b.aa U) (λj k=>xk) rfl rfl rfl ?_;simp only[az];refine bN (J.out.bs zh.out _ _ b.q) ?_;refine Qn ?_;clear b;intro zba zac z' zX zbN zaJ b;go_wp2_with(first|(refine b.ld 3 aB ?_)|(refine e' underlying27 (al o (bb o zac z' zX)) rfl rfl ar ?_;intro zbd zby zaF zaH zat;replace b:=b.aP zaF zaH zat;clear zaF zaH zat)|(have zw:=b;replace b:=b.front (b:=6) rfl;refine b.O2 _ 88 zbA underlying27 sF rfl R (aF.ai (e:=1) (C:=5) (zw.ai 0 (h:=zbd) (i:=al o (bb o zac z' zX)) rfl) rfl) (λzO H=>by simp[al]at H;rcases H with rfl|rfl|rfl|rfl|rfl<;>rfl) R R R ?_;clear b zw;intro zbE W zS zbK b zav;dsimp only[List.eraseIdx]at b))
  rw[cR];go_wp2_with fail
  replace b:=b.bd;refine rg [] [0,1,2,3,4,5,106,7,8,209,10] ?_;refine jL ?_;refine b.hZ 0 (al m (bb m zY zae z6)) aB ?_ (o:=by exact zav.at_ rfl);refine jL ?_;refine b.hZ 0 (al o (bb o zac z' zX)) aB ?_ (o:=by exact zav.at_ rfl);exact Ql
