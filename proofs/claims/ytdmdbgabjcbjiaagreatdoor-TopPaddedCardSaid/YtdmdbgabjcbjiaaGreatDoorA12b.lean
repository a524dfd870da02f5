import Derived.Test.YtdmdbgabjcbjiaaGreatDoorA12
set_option maxHeartbeats 0
set_option maxRecDepth 100000
set_option linter.all false
namespace Go.Proofs.YtdmdbgabjcbjiaaGreatDoor
open Go.RowKit fD cr hs a7 _root_.Go.Proofs.Tryz
variable{G:Qak}{za:Qal}{x:Act}{f p:N}{F:bU}{zo zq zn zp:Qau}{i:Qad}{k:aY}{b:aj}{E:cS}{h y zd ze d g j e n:Nat}{D:dP}{z zf:Prop}{W:Qan}{C v:Int}{l s J zr K B:af}{q:bX}{zs:Qae}(c:N)(a:aD)
def Hr(a b:bx):Bool:=a.t==b.t&&a.s==b.s&&a.aa==b.aa&&a.f==b.f&&a.r==b.r&&a.a==b.a
theorem aep{a b:bx}(c:Hr a b=true):a=b:=by
 cases a;cases b
 simpa[Hr,and_assoc]using c
def lZ(a b:bx):Bool:=a.s !=3&&b.s !=3&&a.s !=b.s&&a.t==b.t&&a.aa==b.aa&&a.f==b.f&&a.r==b.r
def oW(a:bx):Bool:=a.f==(a.s==1)
structure l0 where
 known:Bool
 dR:Int
 reset:Bool
 link:Int
structure fA where
 first:Int
 last:Int
 head:bx
 reset:Bool
 link:Int
def oh(c:List iN)(b:Int):bx:=match c[b.toNat]? with
 |some (.cD a)=>a
 |_=>⟨0,0,0,false,false,false⟩
def gL(d:List iN)(b:Nat)(a:l0):l0×Option fA:=match d[b]? with
 |some .aQ=>(if a.known then{a with dR:=-1}else⟨true,-1,true,-1⟩,none)
 |some (.aA e _)=>(if e then{a with dR:=-1,reset:=true,link:=-1}else{a with dR:=-1,link:=0},none)
 |some (.cD c)=>
  if c.s=3 then(⟨a.known,-1,false,-1⟩,some ⟨b,b,c,a.reset,a.link⟩)
  else if a.dR≠-1/\lZ (oh d a.dR) c=true then(⟨a.known,-1,false,-1⟩,some ⟨a.dR,b,oh d a.dR,a.reset,a.link⟩)
  else if oW c=true then({a with dR:=b},none)else({a with dR:=-1},none)
 |none=>(a,none)
def hp(a:List iN):Nat->l0
 |0=>⟨false,-1,false,-1⟩
 |t+1=>(gL a t (hp a t)).1
structure e1 where
 first:Int
 last:Int
 t:Int
 hK:Int
 hL:Int
 shown:Int
 head:bx
structure cA where
 es:List e1
 ed:Int
 b1:Int
 waiting:Bool
 link:Int
 shown:Int
def cA.show(a:cA)(c:Int):cA:={a with es:=a.es.modify c.toNat λb=>{b with shown:=a.shown},shown:=a.shown+1}
def cA.flush(a:cA):cA:=if a.waiting then{a.show a.b1 with waiting:=false}else a
def cA.frame(a:cA)(b:fA):cA:=if b.head.t=3 then if a.link≠0\/a.ed=-1\/a.b1=-1 then a else{a with es:=a.es++[e1.mk b.first b.last b.head.t a.ed a.b1 0 b.head]}.show a.es.length else if b.head.t=2/\a.b1=-1 then a else
 let c:={a with es:=a.es++[e1.mk b.first b.last b.head.t a.b1 (-1) 0 b.head]}.flush
 {c with ed:=c.b1,b1:=a.es.length,waiting:=true,link:=max 0 (c.link-1)}
def cA.step(a:cA)(b:fA):cA:=
 let a:=if b.reset then{a.flush with ed:=-1,b1:=-1,link:=0}else a
 (if b.link≠-1 then{a with link:=b.link}else a).frame b
def uW(a:List iN):Nat->cA
 |0=>⟨[],-1,-1,false,0,0⟩
 |t+1=>match(gL a t (hp a t)).2 with
  |some r=>(uW a t).step r
  |none=>uW a t
def pV(a:List iN):List e1:=(uW a a.length).flush.es
structure gz where
 n:Nat
 t:Nat
 aa:Nat
 hK:Option Nat
 hL:Option Nat
 kQ:Option (Bool×Nat)
structure c6 where
 ed:Option Nat
 b1:Option Nat
 first:Nat
 dF:Nat
 out:List gz
def c6.step(a:c6)(b c:Nat):c6:=if c=3 then{a with dF:=a.dF+1}else
 let e:=if c=1 then b-a.dF else a.first
 let d:=if c=1/\a.dF=0 then none else a.b1
 ⟨d,some b,e,0,a.out++⟨b,c,b-e,d,none,if c=1 then some (a.dF==0,b-a.dF)else none⟩::(List.range a.dF).map λf=>⟨b-a.dF+f,3,b-a.dF+f-e,d,some b,none⟩⟩
def bt(a:af):Nat->c6
 |0=>⟨none,none,0,0,[]⟩
 |g+1=>(bt a g).step g (a.getD g 0)
def xM(d b c:Bool)(a:gz):List bx:=if d then[⟨a.t,if b then 1 else 2,a.aa,b,false,c⟩,⟨a.t,if b then 2 else 1,a.aa,b,false,c⟩]else[⟨a.t,3,a.aa,b,false,c⟩]
def Hs(c e f:Bool)(a:gz):List iN:=(match a.kQ with
 |some (b,d)=>[.aA b d]
 |none=>[])++(xM c e f a).map .cD
def oX(b a d:Bool)(c:List gz):List iN:=.aQ::(c.map (Hs b a d)).flatten
def l9(d:List gz)(a:Option Nat):Int:=match a with
 |some a=>match d.findIdx? λb=>b.n==a with
  |some c=>c
  |none=>-2
 |none=>-1
def mH(a c e:Bool)(b:List gz):Nat->List gz->List e1
 |_,[]=>[]
 |t,d::g=>
  let x:=t+(match d.kQ with
   |some _=>1
   |none=>0)
  let f:=if a then x+1 else x
  ⟨x,f,d.t,l9 b d.hK,l9 b d.hL,d.n,(xM a c e d).headD ⟨0,0,0,false,false,false⟩⟩::mH a c e b (f+1) g
def Q'(a b:e1):Bool:=a.first==b.first&&a.last==b.last&&a.t==b.t&&a.hK==b.hK&&a.hL==b.hL&&a.shown==b.shown&&Hr a.head b.head
def uX:List e1->List e1->Bool
 |[],[]=>true
 |x::a,b::C=>Q' x b&&uX a C
 |_,_=>false
theorem Ra:∀{c d:List e1},uX c d=true->c=d
 |[],[],_=>rfl
 |[],_::_,a=>by simp[uX]at a
 |_::_,[],a=>by simp[uX]at a
 |b::l,zt::C,a=>by
  simp only[uX,dB]at a;rw[Ra a.2];congr 1;have a:=a.1;cases b;cases zt
  simp only[Q',dB,iz]at a;obtain⟨⟨⟨⟨⟨⟨g,i⟩,f⟩,h⟩,j⟩,k⟩,e⟩:=a;rw[aep e];simp only[g,i,f,h,j,k]
def aeq(c d e:Bool)(b:af):Bool:=
 let a:=(bt b b.length).out
 uX (pV (oX c d e a)) (mH c d e a 1 a)
def oi(a:af):Prop:=a.length<=4/\(∀b∈a,1<=b/\b<=3)/\a.head? =some 1/\a.getLastD 0≠3
def sG:List (List Nat):=[1].flatMap λa=>[[a]]++([1,2,3].flatMap λb=>[[a,b]]++([1,2,3].flatMap λc=>[[a,b,c]]++([1,2,3].flatMap λd=>[[a,b,c,d]])))
theorem xN(h:oi J):J∈sG:=by
 obtain⟨g,k,a,_⟩:=h;have b:∀c,c∈J->c=1\/c=2\/c=3:=λc j=>by have:=k c j;omega
 match J,g,a,b with
 |[f],_,a,_=>simp at a;subst a;decide
 |[f,d],_,a,b=>simp at a;subst a;rcases b d U with rfl|rfl|rfl<;>decide
 |[f,d,e],_,a,b=>simp at a;subst a;rcases b d U with rfl|rfl|rfl<;>rcases b e U with rfl|rfl|rfl<;>decide
 |[f,d,e,i],_,a,b=>simp at a;subst a;rcases b d U with rfl|rfl|rfl<;>rcases b e U with rfl|rfl|rfl<;>rcases b i U with rfl|rfl|rfl<;>decide
theorem aer:∀b c d:Bool,∀a∈sG,a.getLastD 0≠3->aeq b c d a=true:=bm
theorem aes(d:oi J)(c b a:Bool):pV (oX c b a (bt J J.length).out)=mH c b a (bt J J.length).out 1 (bt J J.length).out:=Ra (aer c b a J (xN d) d.2.2.2)
def Ht(e:Int)(b:Qah)(c:N)(f:Ending)(d:N):Prop:=∃a,f=.returned (.tuple #[.agg (br e (some ⟨a,0,none⟩) (bh b).length (bh b).length),X 0])/\ag d a 5 (aC (bh b)).toArray/\V [] c d/\c.heap.size<=a
theorem aet(b:N):Calls prog 86 #[] b λe d=>∃a,e=.returned (ab a)/\c0 d a [a] []/\V [] b d/\b.heap.size<=a:=(L5 b).mono λ_ _ c=>⟨_,c.1,c.2.1,c.2.2,a' _⟩
theorem Hu(b:N)(d:Nat)(f:af)(a:Qah)(c:c0 b d f a)(h:a.length<=1099511627776):Calls prog 92 #[ab d] b λi g=>∃e,i=.returned (.slice (ab e) (bh a).length (bh a).length)/\ag g e 5 (aC (bh a)).toArray/\V [] b g/\b.heap.size<=e:=(NM b d f a c h).mono λ_ _ c=>⟨_,by rw[c.1,r2],c.2.1,c.2.2,a' _⟩
section
variable {s:af}{c f p:N}{q:bX}{H:Nat}
theorem ao.aeu(a:ao s c f q)(d:c0 p H [H] [])(i:V [] f p)(l:f.heap.size<=H):av s c p q [H] λf=>c0 f H [H] []:=av.ss (a.aS i) d (λe b g=>by
 obtain⟨j,h,k⟩:=ca.1 g;have:=a.lt h;rw[df]at b;omega) λe b=>.inr (by
 have:=a.size;rw[df]at b;omega)
end
def Rb(e:Nat)(b:af)(g:Qah)(a:N)(f:Ending)(c:N):Prop:=f=.returned (.tuple #[])/\∃d,c0 c e d g/\V b a c/\b3 a b d
def gU(c b:Bool)(a:Nat):Qah:=[]++[c]++[b]++bitsOf a 24
def gh(a:bx):Qah:=[]++bitsOf a.aa.toNat 10++bitsOf a.t.toNat 2++bitsOf a.s.toNat 2++[a.f,a.r,a.a].take 3
def ka(c b:Bool)(a:Int):Qad:=#[.bool c,.bool b,X a]
theorem xO:bT prog 46 3:=⟨_,underlying46,rfl,ar⟩
theorem Rc:dJ 46 (.agg (ka false false 0)):=dM
theorem Re(c b:Bool)(a:Int):(ka c b a).all (·.oneCell')=true:=by simp[ka,Value.oneCell']
theorem pW(a:N)(c:Nat)(d:af)(e:Qah)(v:Int)(b:Nat)(k:c0 a c d e)(i:b<=32)(f:0<=v/\v.toNat<2^b)(j:e.length<=1099511627776):Calls prog 87 #[ab c,.int .u32 v,X b] a λl g=>l=.returned (X 0)/\∃h,c0 g c h (e++bitsOf v.toNat b)/\V d a g/\b3 a d h:=by have:=pA a c d e v.toNat b k i f.2 j;rwa[kR f.1]at this
theorem xP{a:bx}(b:rc a):(0<=a.aa/\a.aa.toNat<2^10)/\(0<=a.t/\a.t.toNat<2^2)/\(0<=a.s/\a.s.toNat<2^2):=by
 have d:=b.aa;have e:=b.t;have c:=b.s;refine⟨⟨Z,?_⟩,⟨Z,?_⟩,Z,?_⟩
 .show a.aa.toNat<1024;omega
 .show a.t.toNat<4;omega
 .show a.s.toNat<4;omega
def Hv(a:bx)(b:Nat):Bool:=if b=0 then a.f else if b=1 then a.r else a.a
theorem Rf(a:z:=by rcases(by omega:d=0\/d=1\/d=2)with rfl|rfl|rfl<;>rfl):z:=a
theorem aev{a:bx}(b:d<3):(#[.bool a.f,.bool a.r,.bool a.a]:Qad)[d]? =some (.bool (Hv a d)):=by exact Rf
theorem aew{a:bx}(b:d<3):[a.f,a.r,a.a].take (d+1)=[a.f,a.r,a.a].take d++[Hv a d]:=by exact Rf
theorem Rg(b:Nat)(a:bj b->z:=by
 intro h;go_in;go_wp2_with fail
 refine(pA _ b _ _ h 1 i R R g).mono ?_;rintro j f ⟨rfl,zi,C,L,a⟩;go_wp2_with fail
 exact jw (jW rfl _ _ _) rfl ⟨rfl,zi,C,L,a⟩):z:=a ⟨⟩
theorem xQ(b:Nat)(e:af)(d:Qah)(a:Bool)(i:c0 c b e d)(g:d.length<=1099511627776):Calls prog 88 #[ab b,.bool a] c (Rb b e (d++[a]) c):=by
 cases a
 .exact Rg 0
 .exact Rg 1
theorem aex(d g:Bool)(a:Nat)(zl:a<16777216):Calls prog 53 #[ka d g (a:Int)] c (Ht 184 (gU d g a) c):=by
 have u:=Y (show a<2^24 from Z);have J:decide ((a:Int)<0)=false:=U;have za:decide (16777216<=(a:Int))=false:=aw;have b:=ao.nil [] c;go_in;go_wp2_with(first|(refine b.aI _ (ka d g (a:Int)) ?_;intro zb Q b)|(refine b.aH (br 0 none 0 0) jV ?_;intro zh zf b;have zi:=b.ah 1 2))
 refine Cw ?_;clear b;intro D f p q r b;have zc:=b.ah 1 0;go_wp2_with fail
 refine(xQ _ f _ _ d b.q gV).mono ?_;refine oV ?_;clear b;intro ze z W P B b;have zm:=b.ah 1 1;go_wp2_with fail
 refine(xQ _ f _ _ g b.q gV).mono ?_;rintro e E ⟨rfl,K,j,w,s⟩;replace b:=b.kJ j w s;have zd:=b.ah 1 2;go_wp2_with fail
 refine(pA _ f _ _ a 24 b.q R u.out gV).mono ?_;rintro e F ⟨rfl,L,h,t,k⟩;replace b:=b.kJ h t k;go_wp2_with fail
 refine(Hu _ f _ _ b.q gV).mono ?_;refine sH ?_;clear b;intro y aA o n m b;go_wp2_with(refine b.aN 1 (br 184 (some ⟨aA,0,none⟩) (bh (gU d g a)).length (bh (gU d g a)).length) en (jA _ _) ?_;intro I b)
 exact Hw 1
theorem Rh(b:Nat)(a:bj b->z:=by
 intro W;go_wp2_with fail
 refine(pA _ f _ _ W 1 b.q R R F5).mono ?_;refine oV ?_;clear b;intro zA zB zm zF zy b;go_wp2_with fail
 exact⟨⟨d+1,Z,a8,_,Y (by rw[aew B,zc.out,<-b5];exact b)⟩,bF⟩):z:=a ⟨⟩
theorem aey(a:bx)(g:rc a):Calls prog 54 #[a1 a] c (Ht 181 (gh a) c):=by
 have L:=Y λc=>Hg c a g;have j:=Y (xP g);have zn:=g.aa;have zI:=g.t;have zr:=g.s;have b:=ao.nil [] c;go_in;go_wp2_with(first|(refine b.aI _ (a1 a) ?_;intro za zC b)|(refine b.aH (br 0 none 0 0) jV ?_;intro zh zE b)|(refine b.ld 1 (cX _) ?_))
 refine b.aW (L.out _) ?_;intro D b;go_wp2_with fail
 refine Cw ?_;clear b;intro zK f p q r b;have zs:=b.ah 1 2;go_wp2_with fail
 refine(pW _ f _ _ a.aa 10 b.q R j.out.1 gV).mono ?_;refine oV ?_;clear b;intro zv zo zG zt zz b;have zJ:=b.ah 1 0;go_wp2_with fail
 refine(pW _ f _ _ a.t 2 b.q R j.out.2.1 gV).mono ?_;rintro e zw ⟨rfl,zp,P,F,E⟩;replace b:=b.kJ P F E;have zu:=b.ah 1 1;go_wp2_with fail
 refine(pW _ f _ _ a.s 2 b.q R j.out.2.2 gV).mono ?_;rintro e y ⟨rfl,zD,zi,J,K⟩;replace b:=b.kJ zi J K;have zb:=b.ah 1 3;have zf:=b.ah 1 4;have Q:=b.ah 1 5;go_wp2_with(refine e' underlying161 (#[.bool a.f,.bool a.r,.bool a.a]) rfl rfl ar ?_;intro u zx w t s;replace b:=b.aP w t s;clear w t s;clear zb zf Q)
 go_loopw [36] (λh wr=>∃d:Nat,d<=3/\h=X d/\∃k,Hid (av [] c wr [(u,4,#[.bool a.f,.bool a.r,.bool a.a]),(zh,97,br 0 none 0 0),(za,48,a1 a)] k λze=>c0 ze f k ([]++bitsOf a.aa.toNat 10++bitsOf a.t.toNat 2++bitsOf a.s.toNat 2++[a.f,a.r,a.a].take d))) (λh _=>3-(intOf h).toNat)
 .exact⟨0,Z,rfl,_,Y (by rw[List.take_zero,eG];exact b)⟩
 .obtain⟨d,zH,rfl,k,I⟩:=hrel;try clear b
  have b:=I.out;by_cases B:d<3
  .have zd:(d:Int)<3:=Z;refine aG (Hv a d) λv z=>?_;have zq:wr.cell? ⟨u,d,none⟩=some (.bool v):=z▸b.cl 0 d (g:=aev B);have zc:=Y z;cases v
   .exact Rh 0
   .exact Rh 1
  .have zd:¬((d:Int)<3):=Z;obtain rfl:3=d:=Z;go_wp2_with fail
   refine(Hu _ f _ _ b.q gV).mono ?_;refine sH ?_;clear b;intro zl aA o n m b;go_wp2_with(refine b.aN 2 (br 181 (some ⟨aA,0,none⟩) (bh (gh a)).length (bh (gh a)).length) en (jA _ _) ?_;intro zL b)
   exact Hw 2
theorem Ri(c f:aj)(e:N):(binOp .eql 24 (an .u8 64 c) (an .u8 64 f)).run prog e=.ok (.bool (h8 64 c f)) e:=by refine Aj 5 λd b a=>?_;exact DN e 24 5 .u8 64 b c f underlying24 underlying5 a ar
theorem aez(b d:aj)(c:N):(binOp .neq 24 (an .u8 64 b) (an .u8 64 d)).run prog c=.ok (.bool (!h8 64 b d)) c:=by
 have a:=Ri b d c;simp[binOp]at a⊢;generalize Sem.run prog (Op.equal 24 (Value.agg (an IntKind.u8 64 b)) (Value.agg (an IntKind.u8 64 d))) c=e at a⊢;cases e with
 |ok g f=>simp only[gl,Result.ok.injEq,Value.bool.injEq]at a⊢;obtain⟨rfl,rfl⟩:=a;exact⟨rfl,rfl⟩
 |halt h f=>cases a
def oY(c:aj)(b:Nat):Qah:=((List.range b).map λa=>bitsOf (c (a6 false a)).toNat 8).flatten
def mI(a b:aj):Qah:=if h8 64 a b=true then[false]else[true]++oY a 64
theorem Cx(b:aj)(a:Nat):oY b (a+1)=oY b a++bitsOf (b (a6 false a)).toNat 8:=by unfold oY;rw[mm];simp
theorem xR(b:aj):∀a,(oY b a).length=8*a
 |0=>rfl
 |a+1=>by rw[Cx,aZ,xR,kh];omega
theorem xS(a b:aj):(mI a b).length<=513:=by
 unfold mI;split
 .decide
 .rw[aZ,xR];decide
theorem dA.S(g:dA f)(c:V s f p)(b:∀i∈s,2<=i):dA p:=by obtain⟨⟨h,d⟩,⟨j,e⟩⟩:=g;exact⟨⟨h,d.S c λa=>by have:=b _ a;omega⟩,j,e.S c λa=>by have:=b _ a;omega⟩
theorem dA.two(a:dA f):2<=f.heap.size:=by obtain⟨⟨c,b⟩,_⟩:=a;have:=b.lt;omega
theorem Rj(g:Nat)(i:af)(o:Qah)(a f:aj)(zh:dA c)(Q:dD)(ze:∀d∈i,2<=d)(zn:hT a)(D:c0 c g i o)(r:o.length<=1000000000):Calls prog 89 #[ab g,an .u8 64 a,an .u8 64 f] c (Rb g i (o++mI a f) c):=by
 have O:=Y λj(P:V i c j)=>Al Q j (zh.S P ze) false j (V.refl _ _);have B:=Y zn;have zi:=Y r;replace r:o.length<=1099511627776:=Z;have z:=Ri a f;have I:=aez a f;unfold mI;by_cases k:h8 64 a f=true
 .rw[ae k];rw[k]at z I;have b:=av.ss (ao.nil i c) D U λd s=>.inl s;go_in;go_wp2_with(first|(refine b.aI _ (an .u8 64 a) ?_;intro w W b)|(refine b.aI _ (an .u8 64 f) ?_;intro K zo b)|(refine b.ld 1 (gp _) ?_)|(refine b.ld 0 (gp _) ?_))
  refine(xQ _ g _ _ _ b.q r).mono ?_;refine oV ?_;clear b;intro zl zf zk za zq b;go_wp2_with(first|(refine b.ld 1 (gp _) ?_)|(refine b.ld 0 (gp _) ?_))
  exact xT rfl ⟨rfl,_,b.q,b.aa,b.a.n⟩
 .rw[M k];rw[Bool.not_eq_true]at k;rw[k]at z I;have b:=av.ss (ao.nil i c) D U λd s=>.inl s;go_in;go_wp2_with(first|(refine b.aI _ (an .u8 64 a) ?_;intro w W b)|(refine b.aI _ (an .u8 64 f) ?_;intro K zo b)|(refine b.ld 1 (gp _) ?_)|(refine b.ld 0 (gp _) ?_))
  refine(xQ _ g _ _ _ b.q r).mono ?_;refine oV ?_;clear b;intro zl zf zk za zq b;go_wp2_with(first|(refine b.ld 1 (gp _) ?_)|(refine b.ld 0 (gp _) ?_))
  refine b.aW (O.out _ b.aa) ?_;intro zw b;go_wp2_with fail
  go_loopw [17] (λt wr=>∃d:Nat,d<=64/\t=X d/\∃y,Hid (av i c wr [(K,24,an .u8 64 f),(w,24,an .u8 64 a)] y λj=>c0 j g y (o++([true]++oY a d)))) (λt _=>64-(intOf t).toNat)
  .exact⟨0,Z,rfl,_,Y (by simpa[oY]using b)⟩
  .obtain⟨d,s,rfl,y,zb⟩:=hrel;try clear b
   have b:=zb.out;by_cases m:d<64
   .refine Rk λp n h q u=>?_;have J:wr.cell? ⟨w,a6 false d,none⟩=some (.int .u8 ((a (a6 false d)).toNat:Int)):=by rw[kR q];exact b.cl 1 _ (g:=dw h)
    have E:(a (a6 false d)).toNat<256:=Z;have C:=Y (Cx a d);have zm:=Y (xR a d);refine aG ((a (a6 false d)).toNat) λv F=>?_;rw[F]at J E;have L:=Y F;have zc:ck (v<2^8):=E;have zd:(a6 false d:Int)<64:=Z;generalize a6 false d=zt at n h J zd L C;go_wp2_with fail
    refine(pA _ g _ _ v 8 b.q R zc.out (by have:=zm.out;have:=zi.out;simp only[aZ,cz,dv];omega)).mono ?_;refine oV ?_;clear b;intro zr zs zu zx zv b;go_wp2_with fail
    exact⟨⟨d+1,Z,a8,_,Y (by rw[C.out,L.out,<-b5,<-b5];simpa only[b5]using b)⟩,bF⟩
   .have p:¬((d:Int)<64):=Z;obtain rfl:64=d:=Z;go_wp2_with fail
    exact jw (jW rfl _ _ _) rfl ⟨rfl,_,b.q,b.aa,b.a.n⟩
def fc(a:aD):Qah:=[]++bitsOf (a.W/16).toNat 8++bitsOf (a.H/16).toNat 8++bitsOf a.num.toNat 32++bitsOf a.den.toNat 32++[a.b8]++bitsOf a.eV.toNat 32++bitsOf a.fe.toNat 32++mI a.a mj++mI a.b pr
theorem Rl{a:aD}(c:ho a):(0<=a.W/16/\(a.W/16).toNat<2^8)/\(0<=a.H/16/\(a.H/16).toNat<2^8)/\(0<=a.num/\a.num.toNat<2^32)/\(0<=a.den/\a.den.toNat<2^32)/\(0<=a.eV/\a.eV.toNat<2^32)/\(0<=a.fe/\a.fe.toNat<2^32):=by
 have b:=c.v;unfold et ky at b;refine⟨⟨Z,?_⟩,⟨Z,?_⟩,⟨Z,?_⟩,⟨Z,?_⟩,⟨Z,?_⟩,Z,?_⟩
 .show(a.W/16).toNat<256;omega
 .show(a.H/16).toNat<256;omega
 all_goals show _<4294967296;omega
theorem Rm(h:ho a)(u:dA c)(zw:dD):Calls prog 52 #[ay a] c (Ht 179 (fc a) c):=by
 have B:=Y λc=>show Calls prog 39 #[ay a] c λe zu=>e=.returned (.bool true)/\V [] c zu by have:=wv c a h.i;rwa[lD.2 h.v]at this
 have g:=Y (Rl h);have j:=Y u;have t:=Y zw;have zt:=Y h.kj;have E:=Y h.fP;have zA:=Y λw(zp:V [] c w)=>KQ w (u.ad zp).2;have zc:=h.v;unfold et ky at zc;have zac:16<=a.W/\a.W<=64:=⟨zc.1,zc.2.1⟩;have zag:16<=a.H/\a.H<=64:=⟨zc.2.2.2.1,zc.2.2.2.2.1⟩;have zZ:0<=a.num/\a.num<=4294967295:=Z;have ak:0<=a.den/\a.den<=4294967295:=Z;have zaa:0<=a.eV/\a.eV<=4294967295:=Z;have zU:0<=a.fe/\a.fe<=4294967295:=Z;have b:=ao.nil [] c;go_in;go_wp2_with(first|(refine b.aI _ (ay a) ?_;intro z1 zX b)|(refine b.aH (br 0 none 0 0) jV ?_;intro zaj z' b)|(refine b.ld 1 (cH _) ?_))
 refine b.aW (B.out _) ?_;intro D b;go_wp2_with fail
 refine Cw ?_;clear b;intro zai f p q r b;have zJ:=b.cl 1 0 (v:=X a.W) (g:=by simp[ay,cO,da]);go_wp2_with fail
 refine(pW _ f _ _ (a.W/16) 8 b.q R g.out.1 gV).mono ?_;refine oV ?_;clear b;intro zM zC zae zK zP b;refine Cy 1 λk=>?_;go_wp2_with fail
 refine(pW _ f _ _ (a.H/16) 8 b.q R g.out.2.1 gV).mono ?_;rintro e zN ⟨rfl,zD,zo,I,F⟩;replace b:=b.kJ zo I F;have zL:=b.cl 1 2 (v:=X a.num) (g:=by simp[ay,cO,da]);go_wp2_with fail
 refine(pW _ f _ _ (a.num) 32 b.q R g.out.2.2.1 gV).mono ?_;rintro e y ⟨rfl,zY,zz,za,zd⟩;replace b:=b.kJ zz za zd;have z7:=b.cl 1 3 (v:=X a.den) (g:=by simp[ay,cO,da]);go_wp2_with fail
 refine(pW _ f _ _ (a.den) 32 b.q R g.out.2.2.2.1 gV).mono ?_;rintro e zO ⟨rfl,zT,P,zr,Q⟩;replace b:=b.kJ P zr Q;have zaf:=b.cl 1 4 (v:=.bool a.b8) (g:=by simp[ay,cO,da]);go_wp2_with fail
 refine(xQ _ f _ _ a.b8 b.q gV).mono ?_;rintro e zS ⟨rfl,zV,z,zx,W⟩;replace b:=b.kJ z zx W;have zW:=b.cl 1 5 (v:=X a.eV) (g:=by simp[ay,cO,da]);go_wp2_with fail
 refine(pW _ f _ _ (a.eV) 32 b.q R g.out.2.2.2.2.1 gV).mono ?_;rintro e zR ⟨rfl,z8,zy,zq,K⟩;replace b:=b.kJ zy zq K;have zF:=b.cl 1 6 (v:=X a.fe) (g:=by simp[ay,cO,da]);go_wp2_with fail
 refine(pW _ f _ _ (a.fe) 32 b.q R g.out.2.2.2.2.2 gV).mono ?_;rintro e zB ⟨rfl,zal,ze,zb,zi⟩;replace b:=b.kJ ze zb zi;go_wp2_with fail
 replace b:=b.bd;refine rg [] [0,1,2,103,204] ?_;refine jL ?_;refine b.hZ 1 (an .u8 64 a.a) (gp _) ?_ (o:=by exact(uS a));simp only[az];refine b.ec (zA.out _ b.aa) ?_;intro zak b;simp only[az];refine iC (Rj _ f _ _ a.a mj (j.out.ad b.aa) t.out (λd s=>b7 j.out.two ((b.a.n d s).resolve_left U)) zt.out b.q gV) ?_;refine sD ?_;clear b;intro zG zab z6 zE zah b;refine ax ?_;go_wp2_with fail
 replace b:=b.bd;refine rg [] [0,1,2,103,204] ?_;refine jL ?_;refine b.hZ 1 (an .u8 64 a.b) (gp _) ?_ (o:=by exact(uT a));simp only[az];refine b.ec (KF _) ?_;intro zad b;simp only[az];refine iC (Rj _ f _ _ a.b pr (j.out.ad b.aa) t.out (λd s=>b7 j.out.two ((b.a.n d s).resolve_left U)) E.out b.q (by simp[kh];have:=xS a.a mj;omega)) ?_;rintro e zI ⟨rfl,zQ,zv,zs,zh⟩;refine⟨_,rfl,?_⟩;replace b:=b.kJ zv zs zh;refine ax ?_;go_wp2_with fail
 refine(Hu _ f _ _ b.q (by have:=xS a.a mj;have:=xS a.b pr;simp[kh];omega)).mono ?_;refine sH ?_;clear b;intro H aA o n m b;go_wp2_with(refine b.aN 1 (br 179 (some ⟨aA,0,none⟩) (bh (fc a)).length (bh (fc a)).length) en (jA _ _) ?_;intro zH b)
 exact Hw 1
def rE(a:Nat):Qad:=#[ab a,X 0]
def iO(b:N)(c a d:Nat)(e:af)(f g:Nat):Prop:=ag b c 255 (rE a)/\b2 b a d e f g/\c∉[a,d]
def Cz(f:N)(b c d:Nat)(e:af)(g i:Nat)(v:Qas)(h:Ending)(a:N):Prop:=h=.returned v/\iO a b c d e g i/\V [b,c,d] f a
section
variable {s:af}{c f p:N}{q:bX}{u j n:Nat}{l:af}{g m zm:Nat}
theorem iO.S(a:iO f u j n l g m)(c:V zr f p)(b:∀d∈[u,j,n],d∉zr):iO p u j n l g m:=⟨a.1.S c (b u U),a.2.1.S c (b j U) (b n U),a.2.2⟩
theorem iO.lt(a:iO f u j n l g m):∀b∈[u,j,n],b<f.heap.size:=λb c=>by
 simp only[bu,eC,kI]at c;rcases c with rfl|rfl|rfl
 .exact a.1.lt
 .exact a.2.1.1.lt
 .exact a.2.1.2.1.lt
theorem av.lh(e:av s c f q [u,j,n] λf=>iO f u j n l g m)(a:iO p u j n l g zm)(b:V [u,j,n] f p):av s c p q [u,j,n] λf=>iO f u j n l g zm:=
 have d:=e.a.grow e.h b (b3.refl _ _) a.lt
 ⟨d.1,d.2,a,λ_ _ _ b h a=>a.S b h⟩
theorem av.Rn(a:av s c f ((u,255,rE j)::q) [j,n] λf=>b2 f j n l g m):av s c f q [u,j,n] λf=>iO f u j n l g m:=by
 have ak:=a.h.d;simp only[cj,jJ]at ak;have h:iO f u j n l g m:=⟨a.ai 0 rfl,a.q,λe=>a.a.d u e U⟩;refine⟨a.h.drop 1,⟨λd b=>?_,λd b=>?_,h.lt⟩,h,λ_ _ _ o k i=>i.S o k⟩
 .rcases bu.1 b with rfl|b
  .exact ak.1
  .exact λe=>a.a.d d b (by simp only[cj,bu];exact .inr e)
 .rcases bu.1 b with rfl|b
  .exact a.h.n (d,255,rE j) U
  .exact a.a.n d b
theorem iO.dn(a:iO c u j n l g m):av [u,j,n] c c [] [u,j,n] λd=>iO d u j n l g m:=⟨ao.nil _ _,⟨U,λi f=>.inl f,a.lt⟩,a,λ_ _ _ h e b=>b.S h e⟩
theorem iO.aeA(b:iO c u j n l g m):av [u,j,n] c c [(u,255,rE j)] [j,n] λo=>b2 o j n l g m:=⟨⟨V.refl _ _,λk e=>by rw[df.1 e];exact b.1,U,λk e=>.inl (by rw[df.1 e];simp)⟩,⟨λd a h=>b.2.2 (by simp only[cj,ee,df]at h;rwa[h]at a),λd a=>.inl (by simp only[bu]at a⊢;exact .inr a),λd a=>b.lt d (by simp only[bu]at a⊢;exact .inr a)⟩,b.2.1,λ_ _ _ p f i=>i.S p (f j U) (f n U)⟩
theorem b0.gF{a b:Qah}(c:b0 l g 0 (a++b))(e:a.length=d):b0 l g d b:=by have:=c.right;rwa[e,c']at this
end
theorem Hx(b:N)(e:Qae)(f:Nat)(a:Qah)(j:aF b e 1 (bh a).length (aC (bh a)))(k:a.length<=1099511627776):Calls prog 135 #[.slice e (bh a).length f] b λi g=>∃c d,i=.returned (.tuple #[ab c,X 0])/\b2 g c d (bh a) a.length 0/\V [] b g/\b.heap.size<=c/\b.heap.size<=d:=(Q9 b e _ f (bh a) j CA (tJ _) (uu _)).mono λ_ _ ⟨c,d,h⟩=>⟨c,d,by rwa[NQ]at h⟩
theorem CB(i g l:Nat)(h:af)(b k v d:Nat)(n:iO c i g l h b k)(f:d<=32)(p:v<2^d)(q:b0 h b k (bitsOf v d)):Calls prog 136 #[ab i,X d] c (Cz c i g l h b (k+d) (X v)):=by
 have x:(v:Int)<4294967296:=by exact Ro
 have m:=Y n;have j:=Y (And.intro f (And.intro p q));have a:=m.out.aeA;unfold rE at a;go_in;have w:=a.ah 0 1;have t:=a.ah 0 0;go_wp2_with fail
 refine(BU v d j.out.1 j.out.2.1 j.out.2.2 a.q).mono ?_;rintro e s ⟨rfl,o,r⟩;replace a:=a.kZ o r;go_wp2_with(refine a.a6 0 (X 0) (#[ab g,X 0]) ?_ (d:=1);intro u a)
 refine gJ rfl ?_;refine⟨?_,?_,?_⟩
 .rfl
 .exact⟨a.ai 0 rfl,a.q,m.out.2.2⟩
 .exact a.aa
theorem xU(d g h:Nat)(b:af)(e f:Nat)(a:Bool)(j:iO c d g h b e f)(k:b0 b e f [a]):Calls prog 137 #[ab d] c (Cz c d g h b e (f+1) (.bool a)):=by
 go_in;go_wp2_with fail
 refine(CB _ d g h b e f a.toNat 1 j R (by cases a<;>decide) (by cases a<;>exact k)).mono ?_;rintro n m ⟨rfl,i,l⟩;go_wp2_with fail
 refine gJ rfl ⟨?_,i,l⟩;cases a<;>rfl
theorem Rp:dJ 255 (.agg #[.pointer none,X 0]):=dM
theorem Hy:dJ 24 (.agg (an .u8 64 λ_=>0)):=dM
theorem Rq:bT prog 255 2:=⟨_,underlying255,rfl,ar⟩
theorem Rr(c:aj){b:Nat}:∀a,b+a=64->∃d,oY c 64=oY c b++d
 |0,e=>⟨[],by rw[eG];congr 1;omega⟩
 |a+1,e=>by obtain⟨d,f⟩:=Rr c (b:=b+1) a Z;exact⟨_,by rw[f,Cx,b5]⟩
theorem aeB{c:Nat}{a:aj}(b:b0 l g c (oY a 64))(h:d<64):b0 l g (c+8*d) (bitsOf (a (a6 false d)).toNat 8):=by obtain⟨f,e⟩:=Rr a (b:=d+1) (63-d) Z;rw[e,Cx]at b;have:=b.left.right;rwa[xR]at this
theorem Rs(e f g:Nat)(j:af)(i l:Nat)(a k:aj)(zk:dA c)(za:dD)(zh:∀d∈[e,f,g],2<=d)(zo:hT a)(K:iO c e f g j i l)(o:b0 j i l (mI a k)):Calls prog 138 #[ab e,an .u8 64 k] c (Cz c e f g j i (l+(mI a k).length) (an .u8 64 a)):=by
 have Q:=Y λr(W:V [e,f,g] c r)=>Al za r (zk.S W zh) false r (V.refl _ _);have B:=Y zo;have G:=Y K;unfold mI at o⊢;by_cases w:h8 64 a k=true
 .rw[ae w]at o⊢;have zl:=Y (te.1 w);have s:=Y o;have b:=G.out.dn;go_in;go_wp2_with(first|(refine b.aI _ (an .u8 64 k) ?_;intro F zb b)|(refine b.aH (an .u8 64 λ_=>0) Hy ?_;intro H zq b))
  refine(xU _ e f g j i l false b.q s.out).mono ?_;rintro D zm ⟨rfl,z,x⟩;replace b:=b.lh z x;go_wp2_with(first|(refine b.ld 1 (gp _) ?_)|(refine b.aN 0 (an .u8 64 k) (gp _) (e6) ?_;intro zn b))
  refine bB (eH rfl (gp _) (b.ai 0 rfl) rfl) ⟨?_,b.q,b.aa⟩;rw[jr zl.out]
 .rw[M w]at o⊢;rw[aZ,xR,<-gk];have s:=Y (And.intro o.left λd m=>(aeB o.right m:b0 j i (l+1+8*d) _));have b:=G.out.dn;go_in;go_wp2_with(first|(refine b.aI _ (an .u8 64 k) ?_;intro F zb b)|(refine b.aH (an .u8 64 λ_=>0) Hy ?_;intro H zq b))
  refine(xU _ e f g j i l true b.q s.out.1).mono ?_;rintro D zm ⟨rfl,z,x⟩;replace b:=b.lh z x;go_wp2_with(refine b.aH (an .u8 64 λ_=>0) Hy ?_;intro y zn b)
  go_wp2_with fail
  refine b.aW (Q.out _ b.aa) ?_;intro zr b;go_wp2_with fail
  go_loopw [13] (λt wr=>∃d:Nat,d<=64/\t=X d/\Hid (av [e,f,g] c wr [(y,24,an .u8 64 (nM (lC a false) false d)),(H,24,an .u8 64 λ_=>0),(F,24,an .u8 64 k)] [e,f,g] λr=>iO r e f g j i (l+1+8*d))) (λt _=>64-(intOf t).toNat)
  .exact⟨0,Z,rfl,Y (by rw[KN];exact b)⟩
  .obtain⟨d,zu,rfl,zc⟩:=hrel;try clear b
   have b:=zc.out;by_cases m:d<64
   .refine Rk λp n h q u=>?_;have C:=Y (show(a (a6 false d)).toNat<2^8 by show _<256;omega);have J:ck ((((a (a6 false d)).toNat:Nat):Int)=lC a false d):=kR q;have I:=Y (s.out.2 d m);have E:=Y (KP (d:=.u8) (lC a false) false m);have zd:(a6 false d:Int)<64:=Z;have O:((a (a6 false d)).toNat:Int)%256=((a (a6 false d)).toNat:Int):=Z;refine aG ((a (a6 false d)).toNat) λv ze=>?_;rw[ze]at C J I O;refine aG (a6 false d) λA zf=>?_;rw[zf]at n h zd E;have L:=(b.ai 0 (h:=y) rfl).eA A;go_wp2_with fail
    refine(CB _ e f g j i _ v 8 b.q R C.out I.out).mono ?_;rintro D zs ⟨rfl,P,zj⟩;replace b:=b.lh P zj;have L:=(b.ai 0 (h:=y) rfl).eA A;go_wp2_with(refine b.a6 0 (.int .u8 (v:Int)) (an .u8 64 (nM (lC a false) false (d+1))) ?_ (s:=by rw[J.out];exact E.out) (t:=by rw[gO];exact h);intro zv b)
    exact sI
   .have p:¬((d:Int)<64):=Z;obtain rfl:64=d:=Z;rw[KO,jr (λzw zi=>X3 a false zi)]at b;go_wp2_with(first|(refine b.ld 0 (gp _) ?_)|(refine b.aN 1 (an .u8 64 a) (gp _) (e6) ?_;intro zt b))
    exact bB (eH rfl (gp _) (b.ai 1 rfl) rfl) ⟨rfl,b.q,b.aa⟩
theorem aeC(a e:Bool)(d:Nat)(k:Qae)(n:Nat)(C:d<16777216)(D:aF c k 1 (bh (gU a e d)).length (aC (bh (gU a e d)))):Calls prog 98 #[.agg (br 184 k (bh (gU a e d)).length n)] c λf t=>f=.returned (.tuple #[ka a e (d:Int),X 0])/\V [] c t:=by
 have i:=Y (show(gU a e d).length=26 from Hz);have p:=Y (And.intro D (show(gU a e d).length<=1099511627776 from hG));have A:ck (d<2^24):=C;have m:=Cu (gU a e d);rw[i.out]at m;have o:ck (b0 (bh (gU a e d)) 26 0 [a]/\b0 (bh (gU a e d)) 26 1 [e]/\b0 (bh (gU a e d)) 26 2 (bitsOf d 24)):=⟨m.left.left,m.left.gF rfl,m.gF rfl⟩;have b:=ao.nil [] c;go_in;go_wp2_with(first|(refine b.aI _ (br 184 k (bh (gU a e d)).length n) ?_;intro P J b)|(refine b.aH (ka false false 0) Rc ?_;intro zc zb b;have ze:=b.ah 1 0;have Q:=b.ah 1 1))
 refine(Hx _ k n (gU a e d) (p.out.1.ad b.aa) (p.out.2)).mono ?_;rintro f W ⟨g,j,rfl,l,or,z,B⟩;rw[i.out]at l;refine Cv ?_;clear b;intro r b;go_wp2_with fail
 refine(FY _ g j _ 26 0 b.q).mono ?_;rintro f za ⟨rfl,rfl⟩;replace b:=b.bd;go_wp2_with(first|(refine b.aH (#[.pointer none,X 0]) Rp ?_;intro h F b)|(refine b.aN 0 (#[ab g,X 0]) Rq fy ?_;intro G b;replace b:=av.Rn (u:=h) b)|(refine b.aH (ka false false 0) Rc ?_;intro I O b))
 refine(xU _ h g j _ 26 0 a b.q o.out.1).mono ?_;rintro f H ⟨rfl,s,y⟩;replace b:=b.lh s y;go_wp2_with(refine b.a6 0 (.bool a) (#[.bool a,.bool false,X 0]) ?_ (d:=0);intro zf b)
 refine(xU _ h g j _ 26 1 e b.q o.out.2.1).mono ?_;rintro f zd ⟨rfl,u,w⟩;replace b:=b.lh u w;go_wp2_with(refine b.a6 0 (.bool e) (#[.bool a,.bool e,X 0]) ?_ (d:=1);intro E b)
 refine(CB _ h g j _ 26 2 d 24 b.q R A.out o.out.2.2).mono ?_;rintro f zh ⟨rfl,q,x⟩;replace b:=b.lh q x;go_wp2_with(first|(refine b.a6 0 (X d) (#[.bool a,.bool e,X d]) ?_ (d:=2);intro K b)|(refine b.ld 0 xO ?_)|(refine b.aN 1 (#[.bool a,.bool e,X d]) xO (Re _ _ _) ?_;intro L b))
 refine bB (eW rfl xO (b.ai 1 rfl) rfl) ⟨rfl,b.aa⟩
theorem uY(h d l:Nat)(g:af)(b j v a:Nat)(t:ag c h 251 #[ab d])(o:b2 c d l g b j)(f:a<=32)(p:v<2^a)(q:b0 g b j (bitsOf v a)):Calls prog 141 #[X a,ab h] c λe k=>e=.returned (X v)/\b2 k d l g b (j+a)/\V [d] c k:=by
 have x:(v:Int)<4294967296:=by exact Ro
 have s:=Y o;have i:=Y (And.intro f (And.intro p q));have r:=Y t;go_in;have w:c.cell? ⟨h,0,none⟩=some (.pointer (some ⟨d,0,none⟩)):=r.out.au _|>.trans rfl;go_wp2_with fail
 refine(BU v a i.out.1 i.out.2.1 i.out.2.2 s.out).mono ?_;rintro e u ⟨rfl,n,m⟩;go_wp2_with fail
 exact gJ rfl ⟨rfl,n,m⟩
theorem aeD(a:bx)(o:Qae)(q:Nat)(m:rc a)(W:aF c o 1 (bh (gh a)).length (aC (bh (gh a)))):Calls prog 99 #[.agg (br 181 o (bh (gh a)).length q)] c λe E=>e=.returned (.tuple #[a1 a,X 0])/\V [] c E:=by
 have L:=Y λc=>Hg c a m;have i:=Y (show(gh a).length=17 from HA);have u:=Y (And.intro W (show(gh a).length<=1099511627776 from hG));have s:=Y (xP m);have n:=Cu (gh a);rw[i.out]at n;have t:b0 (bh (gh a)) 17 14 ([a.f]++([a.r]++[a.a])):=n.gF gV;have k:ck (b0 (bh (gh a)) 17 0 (bitsOf a.aa.toNat 10)/\b0 (bh (gh a)) 17 10 (bitsOf a.t.toNat 2)/\b0 (bh (gh a)) 17 12 (bitsOf a.s.toNat 2)/\b0 (bh (gh a)) 17 14 [a.f]/\b0 (bh (gh a)) 17 15 [a.r]/\b0 (bh (gh a)) 17 16 [a.a]):=⟨n.left.left.left,n.left.left.gF gV,n.left.gF gV,t.left,t.right.left,t.right.right⟩;have j:=Y λp:Bool=>show p.toNat<2^1/\(bitsOf p.toNat 1=[p]) by cases p<;>exact⟨R,rfl⟩
 have I:=(xP m).1.1;have za:=(xP m).2.1.1;have G:=(xP m).2.2.1;have zy:((a.aa.toNat:Nat):Int)=a.aa:=kR I;have zi:((a.t.toNat:Nat):Int)=a.t:=kR za;have zB:((a.s.toNat:Nat):Int)=a.s:=kR G;have zj:(((a.f.toNat:Nat):Int)==1)=a.f:=by cases a.f<;>rfl
 have zx:(((a.r.toNat:Nat):Int)==1)=a.r:=by cases a.r<;>rfl
 have zo:(((a.a.toNat:Nat):Int)==1)=a.a:=by cases a.a<;>rfl
 refine wq λO=>?_;have b:=ao.nil [] c;go_in;go_wp2_with(first|(refine b.aI _ (br 181 o (bh (gh a)).length q) ?_;intro zq zk b)|(refine b.aH (a1 ⟨0,0,0,false,false,false⟩) xF ?_;intro zC zA b;have zE:=b.ah 1 0;have zr:=b.ah 1 1))
 refine(Hx _ o q (gh a) (u.out.1.ad b.aa) (u.out.2)).mono ?_;rintro e zv ⟨d,g,rfl,l,or,z,B⟩;rw[i.out]at l;refine Cv ?_;clear b;intro r b;go_wp2_with(first|(refine b.aH (#[.pointer none]) (v:=.pointer none) ar ?_;intro h zz b)|(refine b.a6 0 (ab d) (#[ab d]) ?_ (d:=0);intro ze b;have zI:=b.ah 0 0))
 refine(FY _ d g _ 17 0 b.q).mono ?_;rintro e zf ⟨rfl,rfl⟩;replace b:=b.bd;go_wp2_with fail
 refine(uY _ h d g _ 17 0 a.aa.toNat 10 (b.ai 0 rfl) b.q R s.out.1.2 k.out.1).mono ?_;rintro e zp ⟨rfl,Q,H⟩;replace b:=b.kZ Q H;go_wp2_with fail
 refine(uY _ h d g _ 17 10 a.t.toNat 2 (b.ai 0 rfl) b.q R s.out.2.1.2 k.out.2.1).mono ?_;rintro e zh ⟨rfl,A,P⟩;replace b:=b.kZ A P;go_wp2_with fail
 refine(uY _ h d g _ 17 12 a.s.toNat 2 (b.ai 0 rfl) b.q R s.out.2.2.2 k.out.2.2.1).mono ?_;rintro e zF ⟨rfl,w,F⟩;replace b:=b.kZ w F;go_wp2_with(first|(refine b.aH (a1 ⟨0,0,0,false,false,false⟩) xF ?_;intro zb zD b)|(refine b.aN 0 (a1 ⟨a.t,a.s,a.aa,false,false,false⟩) (cX _) (og _) ?_;intro zc b))
 refine(uY _ h d g _ 17 14 a.f.toNat 1 (b.ai 1 rfl) b.q R (j.out a.f).1 ((j.out a.f).2▸k.out.2.2.2.1)).mono ?_;rintro e zs ⟨rfl,x,K⟩;replace b:=b.kZ x K;go_wp2_with(refine b.a6 0 (.bool a.f) (#[X a.t,X a.s,X a.aa,.bool a.f,.bool false,.bool false]) ?_ (d:=3);intro zl b)
 refine(uY _ h d g _ 17 15 a.r.toNat 1 (b.ai 1 rfl) b.q R (j.out a.r).1 ((j.out a.r).2▸k.out.2.2.2.2.1)).mono ?_;rintro e zm ⟨rfl,J,D⟩;replace b:=b.kZ J D;go_wp2_with(refine b.a6 0 (.bool a.r) (#[X a.t,X a.s,X a.aa,.bool a.f,.bool a.r,.bool false]) ?_ (d:=4);intro zu b)
 refine(uY _ h d g _ 17 16 a.a.toNat 1 (b.ai 1 rfl) b.q R (j.out a.a).1 ((j.out a.a).2▸k.out.2.2.2.2.2)).mono ?_;rintro e zG ⟨rfl,y,C⟩;replace b:=b.kZ y C;go_wp2_with(first|(refine b.a6 0 (.bool a.a) (#[X a.t,X a.s,X a.aa,.bool a.f,.bool a.r,.bool a.a]) ?_ (d:=5);intro zn b)|(refine b.ld 0 (cX _) ?_))
 refine b.aW (L.out _) ?_;intro zH b;go_wp2_with(first|(refine b.ld 0 (cX _) ?_)|(refine b.aN 2 (#[X a.t,X a.s,X a.aa,.bool a.f,.bool a.r,.bool a.a]) (cX _) (og _) ?_;intro zt b))
 refine bB (eW rfl (cX _) (b.ai 2 rfl) rfl) ⟨rfl,b.aa⟩
def fp:aj:=λ_=>0
theorem CC:dJ 26 (.agg (ay ⟨0,0,0,0,false,0,0,fp,fp⟩)):=dM
theorem aeE{a:aD}:(ay a).setIfInBounds 0 (X v)=ay {a with W:=v}:=mJ
theorem aeF{a:aD}:(ay a).setIfInBounds 1 (X v)=ay {a with H:=v}:=mJ
theorem aeG{a:aD}:(ay a).setIfInBounds 2 (X v)=ay {a with num:=v}:=mJ
theorem aeH{a:aD}:(ay a).setIfInBounds 3 (X v)=ay {a with den:=v}:=mJ
theorem aeI{a:aD}{v:Bool}:(ay a).setIfInBounds 4 (.bool v)=ay {a with b8:=v}:=mJ
theorem aeJ{a:aD}:(ay a).setIfInBounds 5 (X v)=ay {a with eV:=v}:=mJ
theorem aeK{a:aD}:(ay a).setIfInBounds 6 (X v)=ay {a with fe:=v}:=mJ
theorem sJ{b:aD}(a:d<135):d<(ay b).size:=by rw[gr];exact a
theorem aeL{a:aD}{b:aj}:cC (ay a) 7 (an .u8 64 b).toList=ay {a with a:=b}:=by refine Array.ext' ?_;show(cO a).take 7++gE .u8 64 b++(cO a).drop (7+(gE .u8 64 b).length)=da a++(gE .u8 64 b++gE .u8 64 a.b);unfold cO;rw[tT (show(da a).length=7 from rfl),iy,<-b5 (da a),List.drop_left' (by rw[aZ,iy];rfl),b5]
theorem aeM{a:aD}{b:aj}:cC (ay a) 71 (an .u8 64 b).toList=ay {a with b:=b}:=by refine Array.ext' ?_;show(cO a).take 71++gE .u8 64 b++(cO a).drop (71+(gE .u8 64 b).length)=da a++(gE .u8 64 a.a++gE .u8 64 b);unfold cO;rw[<-b5 (da a),tT (by rw[aZ,iy];rfl),iy,AW (by simp only[aZ,iy];exact a' 135),eG,b5]
theorem Rt{a:Nat}(e:aF f zs 1 K.length (aC K))(c:0<K.length):(convert 57 9 (.slice zs K.length a)).run prog f=.ok (.string (strOfNums (K.map Int.ofNat))) f:=by obtain⟨i,h,rfl,b⟩:=e.plain c R;refine run_convert_bytes_arg f 57 5 underlying57 underlying5 i h _ a _ U (λg d=>b g _ ?_) 9 underlying9;simp[aC,d,b9]
theorem aeN(e h:Qae)(d f:Nat)(a:af)(k:aF c e 1 a.length (aC a))(l:aF c h 1 a.length (aC a))(b:0<a.length):Calls prog 139 #[.slice e a.length d,.slice h a.length f] c λj m=>j=.returned (.bool true)/\V [] c m:=by have g:=Rt (a:=d) k b;have i:=Rt (a:=f) l b;generalize strOfNums (a.map Int.ofNat)=n at g i;generalize a.length=o at g i⊢;go_in;go_wp2;go_ret;exact⟨U,V.refl _ _⟩
theorem uZ(d g h:Nat)(b:af)(e f:Nat)(v:Int)(a:Nat)(j:iO c d g h b e f)(l:a<=32)(i:0<=v/\v.toNat<2^a)(k:b0 b e f (bitsOf v.toNat a)):Calls prog 136 #[ab d,X a] c (Cz c d g h b e (f+a) (X v)):=by have:=CB c d g h b e f v.toNat a j l i.2 k;rwa[kR i.1]at this
theorem aeO(p:Qae)(u:Nat)(s:ho a)(D:dA c)(zn:dD)(zh:aF c p 1 (bh (fc a)).length (aC (bh (fc a)))):Calls prog 97 #[.agg (br 179 p (bh (fc a)).length u)] c λe zl=>e=.returned (.tuple #[ay a,X 0])/\V [] c zl:=by
 refine aG ((fc a).length) λd E=>?_;have zo:=Y E;have k:=Y (Rl s);have zr:=Y s;have q:=Y D;have w:=Y zn;have zj:=Y s.kj;have J:=Y s.fP;have K:=Y λF(zd:V [] c F)=>KQ F (D.ad zd).2;have zu:=Y (show 0<(bh (fc a)).length from CA);have x:=Y (And.intro zh (show(fc a).length<=1099511627776 from HB));have h:=Cu (fc a);rw[E]at h;have i:ck ((b0 (bh (fc a)) d 0 (bitsOf (a.W/16).toNat 8)/\b0 (bh (fc a)) d 8 (bitsOf (a.H/16).toNat 8)/\b0 (bh (fc a)) d 16 (bitsOf a.num.toNat 32)/\b0 (bh (fc a)) d 48 (bitsOf a.den.toNat 32)/\b0 (bh (fc a)) d 80 ([a.b8])/\b0 (bh (fc a)) d 81 (bitsOf a.eV.toNat 32)/\b0 (bh (fc a)) d 113 (bitsOf a.fe.toNat 32)/\b0 (bh (fc a)) d 145 (mI a.a mj)/\b0 (bh (fc a)) d (145+(mI a.a mj).length) (mI a.b pr))):=⟨h.left.left.left.left.left.left.left.left.gF rfl,h.left.left.left.left.left.left.left.gF gV,h.left.left.left.left.left.left.gF gV,h.left.left.left.left.left.gF gV,h.left.left.left.left.gF gV,h.left.left.left.gF gV,h.left.left.gF gV,h.left.gF gV,h.gF F5⟩;have t:=s.v;unfold et ky at t;have zY:16<=a.W/\a.W<=64:=⟨t.1,t.2.1⟩;have z8:16<=a.H/\a.H<=64:=⟨t.2.2.2.1,t.2.2.2.2.1⟩;have z1:16*(a.W/16)=a.W:=Z;have zM:16*(a.H/16)=a.H:=Z;have b:=ao.nil [] c;go_in;go_wp2_with(first|(refine b.aI _ (br 179 p (bh (fc a)).length u) ?_;intro zS zR b)|(refine b.aH (ay ⟨0,0,0,0,false,0,0,fp,fp⟩) CC ?_;intro zad zU b;have zE:=b.ah 1 0;have z7:=b.ah 1 1))
 refine(Hx _ p u (fc a) (x.out.1.ad b.aa) (x.out.2)).mono ?_;rintro e zB ⟨f,j,rfl,l,or,z,B⟩;rw[zo.out]at l;refine Cv ?_;clear b;intro r b;go_wp2_with(first|(refine b.aH (#[.pointer none,X 0]) Rp ?_;intro g zac b)|(refine b.aN 0 (#[ab f,X 0]) Rq fy ?_;intro zG b;replace b:=av.Rn (u:=g) b)|(refine b.aH (ay ⟨0,0,0,0,false,0,0,fp,fp⟩) CC ?_;intro z' zH b))
 refine(uZ _ g f j _ d 0 (a.W/16) 8 b.q R k.out.1 i.out.1).mono ?_;rintro e y ⟨rfl,zs,P⟩;replace b:=b.lh zs P;go_wp2_with(refine b.a6 0 (X a.W) (ay ⟨a.W,0,0,0,false,0,0,fp,fp⟩) ?_ (s:=aeE) (t:=sJ R);intro zI b)
 refine(uZ _ g f j _ d 8 (a.H/16) 8 b.q R k.out.2.1 i.out.2.1).mono ?_;rintro e zO ⟨rfl,G,zp⟩;replace b:=b.lh G zp;go_wp2_with(refine b.a6 0 (X a.H) (ay ⟨a.W,a.H,0,0,false,0,0,fp,fp⟩) ?_ (s:=aeF) (t:=sJ R);intro zN b)
 refine(uZ _ g f j _ d 16 (a.num) 32 b.q R k.out.2.2.1 i.out.2.2.1).mono ?_;rintro e zv ⟨rfl,zb,W⟩;replace b:=b.lh zb W;go_wp2_with(refine b.a6 0 (X a.num) (ay ⟨a.W,a.H,a.num,0,false,0,0,fp,fp⟩) ?_ (s:=aeG) (t:=sJ R);intro zag b)
 refine(uZ _ g f j _ d 48 (a.den) 32 b.q R k.out.2.2.2.1 i.out.2.2.2.1).mono ?_;rintro e zx ⟨rfl,ze,I⟩;replace b:=b.lh ze I;go_wp2_with(refine b.a6 0 (X a.den) (ay ⟨a.W,a.H,a.num,a.den,false,0,0,fp,fp⟩) ?_ (s:=aeH) (t:=sJ R);intro zZ b)
 refine(xU _ g f j _ d 80 a.b8 b.q i.out.2.2.2.2.1).mono ?_;rintro e zA ⟨rfl,zm,zi⟩;replace b:=b.lh zm zi;go_wp2_with(refine b.a6 0 (.bool a.b8) (ay ⟨a.W,a.H,a.num,a.den,a.b8,0,0,fp,fp⟩) ?_ (s:=aeI) (t:=sJ R);intro zD b)
 refine(uZ _ g f j _ d 81 (a.eV) 32 b.q R k.out.2.2.2.2.1 i.out.2.2.2.2.2.1).mono ?_;rintro e zy ⟨rfl,L,za⟩;replace b:=b.lh L za;go_wp2_with(refine b.a6 0 (X a.eV) (ay ⟨a.W,a.H,a.num,a.den,a.b8,a.eV,0,fp,fp⟩) ?_ (s:=aeJ) (t:=sJ R);intro zaf b)
 refine(uZ _ g f j _ d 113 (a.fe) 32 b.q R k.out.2.2.2.2.2 i.out.2.2.2.2.2.2.1).mono ?_;rintro e zL ⟨rfl,zc,zq⟩;replace b:=b.lh zc zq;go_wp2_with(refine b.a6 0 (X a.fe) (ay ⟨a.W,a.H,a.num,a.den,a.b8,a.eV,a.fe,fp,fp⟩) ?_ (s:=aeK) (t:=sJ R);intro zae b)
 refine b.aW (K.out _ b.aa) ?_;intro zz b;go_wp2_with fail
 refine(Rs _ g f j _ d 145 a.a mj (q.out.ad b.aa) w.out (λA C=>b7 q.out.two ((b.a.n A C).resolve_left U)) zj.out b.q i.out.2.2.2.2.2.2.2.1).mono ?_;rintro e zaa ⟨rfl,zf,H⟩;replace b:=b.lh zf H;go_wp2_with(refine b.stM 0 (an .u8 64 a.a) (ay ⟨a.W,a.H,a.num,a.den,a.b8,a.eV,a.fe,a.a,fp⟩) (gp _) e6 ?_ (t:=aeL (a:=⟨a.W,a.H,a.num,a.den,a.b8,a.eV,a.fe,fp,fp⟩)) (u:=by rw[gO,gr];decide);intro zW b)
 refine b.aW (KF _) ?_;intro zab b;go_wp2_with fail
 refine(Rs _ g f j _ d (145+(mI a.a mj).length) a.b pr (q.out.ad b.aa) w.out (λA C=>b7 q.out.two ((b.a.n A C).resolve_left U)) J.out b.q i.out.2.2.2.2.2.2.2.2).mono ?_;rintro e zP ⟨rfl,Q,zt⟩;replace b:=b.lh Q zt;go_wp2_with(first|(refine b.stM 0 (an .u8 64 a.b) (ay ⟨a.W,a.H,a.num,a.den,a.b8,a.eV,a.fe,a.a,a.b⟩) (gp _) e6 ?_ (t:=aeM (a:=⟨a.W,a.H,a.num,a.den,a.b8,a.eV,a.fe,a.a,fp⟩)) (u:=by rw[gO,gr];decide);intro zK b)|(refine b.ld 0 (cH _) ?_))
 refine(Rm _ a zr.out (q.out.ad b.aa) w.out).mono ?_;refine sH ?_;clear b;intro zV aA o n m b;go_wp2_with(first|(refine b.aH (br 0 none 0 0) jV ?_;intro zX zJ b)|(refine b.aN 0 (br 179 (some ⟨aA,0,none⟩) (bh (fc a)).length (bh (fc a)).length) en (jA _ _) ?_;intro zC b;have O:=b.q.1.au 1;rw[show(rE f)[1]? =some (.int .i64 0)from rfl]at O;have zF:=b.ah 0 1;have zT:=b.ah 4 1))
 refine b.aW (aeN _ (some ⟨aA,0,none⟩) p _ u (bh (fc a)) (aF.aP (b.ai 1 rfl)) (x.out.1.ad b.aa) zu.out) ?_;intro z6 b;go_wp2_with(first|(refine b.ld 2 (cH _) ?_)|(refine b.aN 3 (ay a) (cH _) (pu _) ?_;intro zQ b))
 refine bB (eW rfl (cH _) (b.ai 3 rfl) rfl) ⟨rfl,b.aa⟩
inductive aE
 |aQ
 |aA (k:Bool) (zb:Nat)
 |cD (l:bx) (O:List (List Nat))
def aE.ak:aE->iN
 |.aQ=>.aQ
 |.aA k zb=>.aA k zb
 |.cD l _=>.cD l
def aE.bE:aE->List (List Nat)
 |.cD _ O=>O
 |_=>[]
def aE.kind:aE->Int
 |.aQ=>1
 |.aA _ _=>2
 |.cD _ _=>3
def b6:aD:=⟨0,0,0,0,false,0,0,fp,fp⟩
def dS:bx:=⟨0,0,0,false,false,false⟩
def bW(e:Int)(i:aD)(b:Bool)(d:Int)(a:bx)(c:Qae)(f g:Nat)(h:Int):Qad:=(Value.int .i64 e::(cO i++([.bool b,.bool false,.int .i64 d]++((ct a c f g).toList++[.int .i64 h])))).toArray
def aE.xV(a:aD):aE->aD
 |.aQ=>a
 |_=>b6
def aE.cl:aE->Bool
 |.aA k _=>k
 |_=>false
def aE.pQ:aE->Nat
 |.aA _ zb=>zb
 |_=>0
def aE.ej:aE->bx
 |.cD l _=>l
 |_=>dS
def cd(e:aD)(a:aE)(b:Qae)(c:Nat)(d:Int):Qad:=bW a.kind (a.xV e) a.cl a.pQ a.ej b a.bE.length c d
theorem kq(e:Int)(i:aD)(b:Bool)(d:Int)(a:bx)(c:Qae)(f g:Nat)(h:Int):(bW e i b d a c f g h).size=148:=by simp[bW,cO,da,iy,ct]
theorem mK(e:Int)(i:aD)(b:Bool)(d:Int)(a:bx)(c:Qae)(f g:Nat)(h:Int):bT prog 54 (bW e i b d a c f g h).size:=by rw[kq];exact⟨_,underlying54,rfl,ar⟩
theorem l1(j:Int)(g:aD)(h:Bool)(i:Int)(a:bx)(c:Qae)(e f:Nat)(k:Int):(bW j g h i a c e f k).all (·.oneCell')=true:=by
 have d:=pu g;rw[kw]at d⊢;intro v b;simp only[bW,u',bu,bc]at b;rcases b with rfl|b|b|b|b
 .rfl
 .exact d v (by simpa[ay]using b)
 .simp at b;rcases b with rfl|rfl|rfl<;>rfl
 .have:=xJ a c e f;exact HC
 .simp at b;rw[b];rfl
theorem re:dJ 54 (.agg (bW 0 b6 false 0 dS none 0 0 0)):=dM
def oZ(e:N)(g:Qae)(b:List (List Nat)):Prop:=∃(c:Nat)(d:Nat->Option Addr)(f:Nat->Nat),g=some ⟨c,0,none⟩/\dQ e c 2 b.length (λa=>br (1+(a:Int)) (d a) (b.getD a []).length (f a))/\∀a,a<b.length->aF e (d a) 1 (b.getD a []).length (aC (b.getD a []))
theorem oZ.ad{a d:N}{b:Qae}{c:List (List Nat)}(i:oZ a b c)(e:V [] a d):oZ d b c:=by obtain⟨f,g,h,j,l,n⟩:=i;exact⟨f,g,h,j,l.ad e,λk m=>(n k m).ad e⟩
def hM(a:aD):aE->Nat×List Nat
 |.aQ=>(179,bh (fc a))
 |.aA k zb=>(184,bh (gU k false zb))
 |.cD l _=>(181,bh (gh l))
def gi(b:List (List Nat))(c:Nat):af:=((List.range c).map λa=>gu (1+a,b.getD a [])).flatten
theorem sK(b:List (List Nat))(a:Nat):gi b (a+1)=gi b a++gu (1+a,b.getD a []):=by unfold gi;rw[mm];simp
def jE(b:aD)(a:aE):af:=gu (hM b a)++gi a.bE a.bE.length
structure gW(d:aD)(b:aE):Prop where
 aQ:ho d
 aA:b.pQ<16777216
 ej:∀a bE,b=.cD a bE->rc a
 bE:∀a bE,b=.cD a bE->bE≠[]/\bE.length<=4/\∀c∈bE,jP (1,c)/\c≠[]
theorem va{a:aD}{b:aE}(g:gW a b):jP (hM a b):=by
 have c:∀d:Qah,d.length<=2000->(bh d).length<=1073741824:=λd j=>CA;cases b with
 |aQ=>exact⟨c9 rfl,c9 rfl,tJ _,.inr (uu _),c _ HB⟩
 |aA f h=>exact⟨c9 rfl,c9 rfl,tJ _,.inr (uu _),c _ Hz⟩
 |cD e i=>exact⟨c9 rfl,c9 rfl,tJ _,.inr (uu _),c _ HA⟩
theorem Ru(a:Qah):bh a≠[]:=λb=>by have:=r2 a;rw[b]at this;simp at this
theorem aeP{b:aD}{a:aE}:(hM b a).2≠[]:=by cases a<;>exact Ru _
theorem dz.rd{c:N}{v:Qas}(g:dz f c [] K v):∃a b,v=.slice a K.length b/\aF f a 1 K.length (aC K)/\V [] c f:=by obtain⟨a,b,i,h,d,e⟩:=g;exact⟨a,b,h,av.row (zt:=[]) d e,d.aa⟩
theorem aeQ(b:List (List Nat)){a c:Nat}(d:a<=c):(gi b a).length<=(gi b c).length:=by
 induction d with
 |refl=>exact a' _
 |step _ e=>rw[sK,aZ];omega
theorem aeR{b:List (List Nat)}(f:∀d∈b,jP (1,d)/\d≠[]){a:Nat}(e:a<b.length)(h:a<4):jP (1+a,b.getD a []):=by
 have g:b.getD a []=b[a]:=by rw[b9,cu e];rfl
 have c:=(f _ (la e)).1;rw[g];exact⟨by show 0<1+a;omega,by show 1+a<256;omega,c.tL,c.end_,c.oN⟩
theorem Rv(a:Int)(g:1<=a)(i:a<5):Calls prog 61 #[X a] c λb d=>b=.returned (.bool true)/\V [] c d:=by
 have f:decide (1<=a)=true:=iD;have e:decide (a<5)=true:=iB;go_in;go_wp2_with fail
 go_ret;exact⟨rfl,V.refl _ _⟩
theorem Rw(a:Int)(g:5<=a):Calls prog 61 #[X a] c λb d=>b=.returned (.bool false)/\V [] c d:=by
 have f:decide (1<=a)=true:=aw;have e:decide (a<5)=false:=aw;go_in;go_wp2_with fail
 go_ret;exact⟨rfl,V.refl _ _⟩
theorem aeS(i:N)(r:bx)(t:Qae)(x m e p:Nat)(g:bX)(d:List (List Nat))(f:af)(l:Nat->Option Addr)(n:Nat->Nat)(O:av [] i c ([]++g) [] λ_=>True)(fp:er 5 1 f.length (aC f) t x g)(zm:dQ i m 2 d.length λa=>br (1+(a:Int)) (l a) (d.getD a []).length (n a))(ak:∀a,a<d.length->aF i (l a) 1 (d.getD a []).length (aC (d.getD a [])))(zE:d.length=e)(zA:e<=4)(w:∀k∈d,jP (1,k)/\k≠[])(zx:0<f.length)(zD:f.length+(gi d e).length<=1099511627776):Calls prog 56 #[.slice t f.length x,.agg (ct r (some ⟨m,0,none⟩) e p)] c λE zq=>∃v,E=.returned (.tuple #[v,X 0])/\dz zq i [] (f++gi d e) v:=by
 have zb:=Y λa(j:a<e) H(zh:V [] i H)=>B3 H (1+a) (l a) (n a) (d.getD a []) ((ak a Z).ad zh) (aeR w Z Z);have zd:=Y λa(j:a<e)=>show i.rangeAt m (a*2) (br (1+(a:Int)) (l a) (d.getD a []).length (n a)).toList from zm a Z;have zk:=Y λa(j:a<e)=>show f.length+(gi d a).length+(gu (1+a,d.getD a [])).length<=1099511627776 by have:=aeQ d (Nat.succ_le_of_lt j);rw[sK,aZ]at this;omega
 have zp:=Y zx;have b:=O;go_in;go_wp2_with(refine b.aI _ (ct r (some ⟨m,0,none⟩) e p) ?_;intro G zH b;have C:=b.ah 0 6)
 refine jc 1 ?_;rw[cR];have zK:=b.ah 0 7;go_wp2_with fail
 have zv:=Y b;go_loopw [0,49] (λzc s wr=>∃a:Nat,a<=e/\s=X a/\∃(h:af)(B:Qae)(D:Nat)(g:bX),Hid (h=f++gi d a)/\zc=.slice B h.length D/\Hid (av [] i wr ([(G,52,ct r (some ⟨m,0,none⟩) e p)]++g) [] λ_=>True)/\Hid (er 5 1 h.length (aC h) B D g)) (λ_ s _=>e-(intOf s).toNat)
 .exact⟨0,Z,rfl,f,t,x,g,Y (by simp[gi]),rfl,zv,Y fp⟩
 .obtain⟨a,zJ,rfl,h,L,C,g,o,rfl,W,F⟩:=hrel;have b:=W.out;by_cases j:a<e
  .have zn:(a:Int)<(e:Int):=Z;have zj:1+(a:Int)<5:=Z;refine aG (d.getD a []) λk w=>?_;have u:=zb.out a j;have A:=zd.out a j;have y:=zk.out a j;have z:=sK d a;rw[w]at u A y z;refine aG (gu (1+a,k)) λq P=>?_;rw[P]at u y z;have Q:=Y u;have zt:=Y A;have J:=Y (show h.length+q.length<=1099511627776 by rw[o.out,aZ];exact y);have zw:=Y (show 0<h.length+q.length by rw[o.out,aZ];have:=zp.out;omega);have K:=Y (show h++q=f++gi d (a+1) by rw[z,o.out,b5]);go_wp2_with(first|(refine lg en (iM zt.out b.aa) ?_)|(refine b.aH (br 0 none 0 0) jV ?_;intro zu zI b)|(refine b.aN 0 (br (1+(a:Int)) (l a) k.length (n a)) en (jA _ _) ?_;intro zz b;have zB:=b.ah 0 0))
   refine b.aW (Rv _ _ Z zj) ?_;intro zL b;go_wp2_with(refine b.ld 0 en ?_)
   refine(Q.out _ b.aa).mono ?_;rintro E zC ⟨v,rfl,zr⟩;obtain⟨zy,zG,rfl,zs,zl⟩:=zr.rd;replace b:=b.aS zl;have zf:=Y zs;go_wp2_with(refine dz.fR (b:=[(zu,97,br (1+(a:Int)) (l a) k.length (n a)),(G,52,ct r (some ⟨m,0,none⟩) e p)]) ⟨_,_,g,rfl,b,F.out⟩ zf.out J.out zw.out ?_;rintro _ zF ⟨ze,zi,I,rfl,b,za⟩)
   exact⟨⟨a+1,Z,a8,h++q,ze,zi,I,K,by rw[aZ],Y (b.drop 1),Y za⟩,bF⟩
  .have zn:¬((a:Int)<(e:Int)):=Z;obtain rfl:e=a:=Z;go_wp2_with fail
   have zo:=o.out;subst zo;exact lT rfl ⟨_,rfl,L,C,g,rfl,b.drop 1,F.out⟩
section
variable {i:Qad}{k w g:Nat}{r zD:Nat->Array Value}{zC:Qam}{v:Qas}{d e:Nat}
theorem dr.get(b:dr i k w g zC){a:Nat}(c:a<g*w):i[a]? =zC[a]? :=by rw[<-b.pre,tH c,eo]
theorem dr.au(b:dr i k w g (cq r g))(h:∀e,(r e).size=w)(a:d<g)(c:e<w):i[d*w+e]? =(r d)[e]? :=by have f:(d+1)*w<=g*w:=ix _ a;rw[ia]at f;rw[b.get Z,oe h g d e a c]
theorem aeT(b:∀e,(r e).size=w)(p:d<g)(i:e<w):(cq r g).set (d*w+e) v=cq (λa=>if a=d then(r d).setIfInBounds e v else r a) g:=by
 have m:∀a,((λa=>if a=d then(r d).setIfInBounds e v else r a) a).size=w:=λa=>by
  show(if a=d then(r d).setIfInBounds e v else r a).size=w;split
  .rw[xW,b]
  .exact b a
 refine oM λa=>?_;by_cases n:a<g*w
 .have l:0<w:=Z;have j:a/w<g:=xe (by rw[eF];exact n);have h:a%w<w:=nc _ l;have o:a=a/w*w+a%w:=by have:=xf a w;rw[eF]at this;omega
  rw[List.getElem?_set];rw[o,oe m g _ _ j h,oe b g _ _ j h];by_cases f:a/w=d
  .rw[f];simp only[eB];by_cases c:a%w=e
   .rw[ae (by rw[c]),c,ns b,ae (by have:(d+1)*w<=g*w:=ix _ p;rw[ia]at this;omega),qu,ae rfl,ae (by rw[b];exact i)]
   .rw[M Z,qu,M (hv c)]
  .rw[M (λk=>f (by rw[Ab,Ab (a/w*w)]at k;have:=aX (·/w) k;simp only[Nat.add_mul_div_right _ _ l,rZ i,rZ h]at this;omega))];simp only[M f]
 .rw[fN (by rw[List.length_set,ns b];omega),fN (by rw[ns m];omega)]
theorem dr.set(a:dr i k w g (cq r g))(j:∀e,(r e).size=w)(h:d<g)(f:e<w)(c:∀b,b<g->zD b=if b=d then(r d).setIfInBounds e v else r b):dr (i.setIfInBounds (d*w+e) v) k w g (cq zD g):=by refine⟨by rw[xW];exact a.lV,a.le,a.O1,?_⟩;rw[od c,<-aeT j h f,<-a.pre,Array.toList_setIfInBounds,List.take_set]
end
theorem o0(b:aE)(c:Qae)(d:Nat)(e:Int):(cd a b c d e).size=148:=kq _ _ _ _ _ _ _ _ _
inductive jF
 |ak (b:aE)
 |pX (d:Nat) (a:af)
def jY(c:aD):jF->Nat×List Nat
 |.ak b=>hM c b
 |.pX d a=>(1+d,a)
def ey(b:List (aE×Nat))(a:Nat):aE×Nat:=b.getD a (.aQ,0)
def mT(a:Qae)(b d e:Nat)(c:Bool):Qad:=#[.slice a b d,X e,.bool c]
def pY(e f:N)(h:Qae)(b:List (List Nat))(i:af):Prop:=∃(c:Nat)(d:Nat->Option Addr)(g:Nat->Nat),h=some ⟨c,0,none⟩/\c∈i/\dQ f c 2 b.length (λa=>br (1+(a:Int)) (d a) (b.getD a []).length (g a))/\∀a,a<b.length->aF e (d a) 1 (b.getD a []).length (aC (b.getD a []))
theorem pY.S{a:N}{c:List (List Nat)}(j:pY a f zs c B)(n:V zr f p)(k:∀m∈B,m∉zr):pY a p zs c B:=by obtain⟨b,h,i,l,d,e,g⟩:=j;exact⟨b,h,i,l,d,e.S n (k b d),g⟩
def jk(m:af)(k j:N)(o:aD)(c:N)(aA:Nat)(b:List (aE×Nat))(n:Nat)(l:Bool):Prop:=∃(e:Qae)(f:Nat)(h:bX)(d:Nat->Option Addr)(i:Nat->Nat)(g:af),av m k c ((aA,95,mT e b.length f n l)::h) g (λc=>∀a,a<b.length->(ey b a).1.bE≠[]->pY j c (d a) (ey b a).1.bE g)/\er 54 148 b.length (cq (λa=>cd o (ey b a).1 (d a) (i a) ((ey b a).2:Int)) b.length) e f h/\∀a,a<b.length->(ey b a).1.bE=[]->d a=none/\i a=0
def kr(q:af)(p g:N)(s:aD)(f:N)(aA:Nat)(b:List (aE×Nat))(i:bx)(c:List (List Nat))(h r:Nat):Prop:=∃(m n:Nat)(l:Qad)(k:bX)(d j:Nat->Option Addr)(e t:Nat->Nat)(o:af),av q p f ((aA,95,mT (some ⟨m,0,none⟩) (b.length+1) n r true)::(m,54,l)::k) o (λf=>∀a,a<b.length->(ey b a).1.bE≠[]->pY g f (d a) (ey b a).1.bE o)/\dr l n 148 (b.length+1) (cq (λa=>cd s (ey (b++[(.cD i c,h)]) a).1 (d a) (e a) ((ey (b++[(.cD i c,h)]) a).2:Int)) (b.length+1))/\(∀a,a<b.length->(ey b a).1.bE=[]->d a=none/\e a=0)/\er 97 2 c.length (cq (λa=>br (1+(a:Int)) (j a) (c.getD a []).length (t a)) c.length) (d b.length) (e b.length) k/\(c=[]->d b.length=none/\e b.length=0)/\∀a,a<c.length->aF g (j a) 1 (c.getD a []).length (aC (c.getD a []))
theorem nx{a:List (aE×Nat)}{b:aE×Nat}(c:d<a.length):ey (a++[b]) d=ey a d:=by unfold ey;rw[b9,eE c,<-b9]
theorem ny{a:List (aE×Nat)}{b:aE×Nat}:ey (a++[b]) a.length=b:=by unfold ey;rw[b9,db (a' _),lF];rfl
section
variable {s:af}{c Q f:N}{a:aD}{aA P zc:Nat}{A zv:List (aE×Nat)}{l:bx}{O:List (List Nat)}{zw:Bool}
theorem jk.aa(b:jk s c Q a f aA zv P zw):V s c f:=Rx
theorem kr.aa(b:kr s c Q a f aA A l O zc P):V s c f:=by obtain⟨_,_,_,_,_,_,_,_,_,b,_⟩:=b;exact b.aa
theorem kr.close(q:kr s c Q a f aA A l O zc P):jk s c Q a f aA (A++[(.cD l O,zc)]) P true:=by
 obtain⟨i,x,m,zj,y,C,r,E,B,g,D,L,za,zb,ze⟩:=q;have j:(A++[((aE.cD l O,zc):aE×Nat)]).length=A.length+1:=U;have F:∀b,b<A.length+1->(ey (A++[(.cD l O,zc)]) b).1.bE=[]->y b=none/\r b=0:=λb d p=>by
  by_cases h:b<A.length
  .rw[nx h]at p;exact L b h p
  .obtain rfl:b=A.length:=Z;rw[ny]at p;exact zb p
 rcases za with⟨z,zi,zh,rfl⟩|⟨o,w,z,rfl,zf⟩
 .refine⟨some ⟨i,0,none⟩,x,[(i,54,m)],y,r,B,?_,?_,?_⟩
  .rw[j];refine g.ha B (λ_ q=>q) (λb d e=>?_) λ_ _ _ t u k b d e=>(k b d e).S t u;by_cases h:b<A.length
   .rw[nx h]at e⊢;exact g.q b h e
   .obtain rfl:b=A.length:=Z;rw[ny]at e;exact absurd (mb z) e
  .rw[j];exact .inr ⟨i,m,rfl,rfl,D⟩
  .rw[j];exact F
 .have G:ag f o 97 w:=g.ai 2 rfl;have ak:=g.h.d;simp only[cj,ee,jJ,bu,eC,kI,kd]at ak;have I:dQ f o 2 O.length λb=>br (1+(b:Int)) (C b) (O.getD b []).length (E b):=dQ.q7 (λ_=>rfl) (aF.nG (mC G zf));refine⟨some ⟨i,0,none⟩,x,[(i,54,m)],y,r,o::B,?_,?_,?_⟩
  .rw[j];have J:=g.h.perm (zG:=(o,97,w)::[(aA,95,mT (some ⟨i,0,none⟩) (A.length+1) x P true),(i,54,m)]) (by exact(List.Perm.cons _ (List.Perm.swap _ _ _)).trans (List.Perm.swap _ _ _));refine⟨J.drop 1,⟨λb d=>?_,λb d=>?_,λb d=>?_⟩,λb d e=>?_,λ_ _ _ t u k b d e=>(k b d e).S t u⟩
   .rcases bu.1 d with rfl|d
    .simp only[HD,uk,cj,ee,bu,eC,kI,kd];exact⟨λn=>ak.1.2 n.symm,λn=>ak.2.1 n.symm⟩
    .have:=g.a.d b d;simp only[cj,ee,bu,eC,kI,kd,HD,uk]at this⊢;exact⟨this.1,this.2.1⟩
   .rcases bu.1 d with rfl|d
    .exact g.h.n (b,97,w) U
    .exact g.a.n b d
   .rcases bu.1 d with rfl|d
    .exact G.lt
    .exact g.a.l b d
   .by_cases h:b<A.length
    .rw[nx h]at e⊢;obtain⟨W,H,zd,n,K,k⟩:=g.q b h e;exact⟨W,H,zd,n,by simp[K],k⟩
    .obtain rfl:b=A.length:=Z;rw[ny];exact⟨o,C,E,z,U,I,ze⟩
  .rw[j];exact .inr ⟨i,m,rfl,rfl,D⟩
  .rw[j];exact F
theorem jk.open_(e:jk s c Q a f aA (A++[(.cD l [],zc)]) P true):kr s c Q a f aA A l [] zc P:=by
 obtain⟨D,w,B,y,n,m,h,k,g⟩:=e;have z:(A++[((aE.cD l [],zc):aE×Nat)]).length=A.length+1:=U;rw[z]at h k g;rcases k with⟨C,_⟩|⟨t,r,rfl,rfl,x⟩
 .omega
 .have j:=g A.length Z (by rw[ny];rfl);refine⟨t,w,r,[],y,λ_=>none,n,λ_=>0,m,h.ha m (λ_ e=>e) (λd b i=>?_) (λ_ _ _ o q p d b i=>(p d b i).S o q),x,λd b u=>g d Z (by rw[nx b];exact u),.inl ⟨rfl,rfl,j.2,rfl⟩,λ_=>j,λd b=>absurd b (fT _)⟩;have:=h.q d Z;rw[nx b]at this;exact this i
theorem av.aeU(a:av [] c f q B F):av (q.map (·.1)++B) f f q B F:=⟨⟨V.refl _ _,a.h.b,a.h.d,λb d=>.inl (bc.2 (.inl (ca.2 ⟨b,d,rfl⟩)))⟩,⟨a.a.d,λg e=>.inl (bc.2 (.inr e)),a.a.l⟩,a.q,a.s⟩
theorem av.xX(d:av [] c f q B F):∀b∈q.map (·.1)++B,c.heap.size<=b/\b<f.heap.size:=λb a=>by
 rcases bc.1 a with a|a
 .obtain⟨g,e,rfl⟩:=ca.1 a;exact⟨(d.h.n g e).resolve_left U,d.lt e⟩
 .exact⟨(d.a.n b a).resolve_left U,d.a.l b a⟩
theorem av.back(a:av s f p q B F)(g:V [] c f)(d:∀b∈s,c.heap.size<=b):av [] c p q B F:=⟨⟨g.trans a.aa λb e=>.inr (d b e),a.h.b,a.h.d,λh i=>.inr ((a.h.n h i).elim (d _) (b7 g.size))⟩,⟨a.a.d,λb e=>.inr ((a.a.n b e).elim (d _) (b7 g.size)),a.a.l⟩,a.q,a.s⟩
theorem jk.back(g:jk s f Q a p aA zv P zw)(h:V [] c f)(l:∀k∈s,c.heap.size<=k):jk [] c Q a p aA zv P zw:=by obtain⟨d,o,b,i,j,e,n,m⟩:=g;exact⟨d,o,b,i,j,e,n.back h l,m⟩
theorem kr.back(g:kr s f Q a p aA A l O zc P)(i:V [] c f)(n:∀m∈s,c.heap.size<=m):kr [] c Q a p aA A l O zc P:=by obtain⟨d,t,b,j,k,e,o,h,u,r,q⟩:=g;exact⟨d,t,b,j,k,e,o,h,u,r.back i n,q⟩
theorem jk.lt(d:jk [] c Q a f aA zv P zw):aA<f.heap.size:=by obtain⟨j,h,i,k,l,g,b,e⟩:=d;exact(b.ai 0 rfl).lt
end
