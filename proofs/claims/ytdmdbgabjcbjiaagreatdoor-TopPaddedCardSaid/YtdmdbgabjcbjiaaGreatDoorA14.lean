import Derived.Test.YtdmdbgabjcbjiaaGreatDoorA11
import Derived.Test.YtdmdbgabjcbjiaaGreatDoorA12b
import Derived.LoopIn
import Derived.LoopNIn
import Derived.TacticsInMore
set_option maxHeartbeats 0
set_option maxRecDepth 100000
set_option linter.all false
namespace Go.Proofs.YtdmdbgabjcbjiaaGreatDoor
open Go.RowKit fD cr hs a7 _root_.Go.Proofs.Tryz
variable{k y:Prop}{f H d I id:Nat}{v:Int}{z F:Qad}{j:Qav}{i:Qaa}{e:Act}{b L:N}{r:Qak}{o:Qal}{m K:aj}{J:Bool}{g:aq}{h:e1}{l D G:af}{C:bX}{n:cA}{B:Option Nat}(c:N)(a:aD)
theorem RW(a:k:=by
 refine kD λzQ zac zK zaf=>?_;go_wp2_with(first|(clear zQ;refine b.aH (_) bY ?_;clear b;intro zap zam b)|(clear zac;refine b.aN 0 (al (rb h j m p q) F) aB (bo _ _) ?_;clear b;intro zag b)|(clear zK;refine b.ld 0 aB ?_)|(clear zaf;refine b.cp 4 (an .u8 64 a.b) (gp _) ?_ (o:=by exact(uT a))))
 have zaq:t<zag.heap.size:=(b.ai 1 rfl).lt;have zx:∀d∈bg F,d≠t:=λd f l=>b.d d f (by rw[l];exact ca.2 ⟨_,bS (i:=1) rfl,rfl⟩);refine(z6.out _ b.aa W _ a.b _ w b.q (b.ai 3 rfl) zz.out.1 zz.out.2.2).mono ?_;rintro l zan ⟨o,rfl,A,r,Q⟩;refine QK ?_;clear b;intro G J b;go_wp2_with(refine cv (Q:=al (fj j a.b e E (rb h j m p q) 6) o) aB (b.ai 1 rfl) rfl (bo _ _) rfl rfl rfl rfl ?_;intro zao zab zD _)
 refine bB (eW rfl (kM _ _) zab rfl) ⟨o,rfl,A.S zD J,b.aa.trans zD (λd f=>QO),G⟩):k:=a
theorem RX(a:y)(b:y->k:=by intro zae;have w:=zT.out;refine(zL.out _ b.aa W (b.ai 2 rfl)).mono ?_;rintro l zH ⟨F,rfl,zG,zB,zn⟩;have I:∀d∈bg F,d<0\/c.heap.size<=d:=λd f=>.inr (b7 b.size ((zn d f).resolve_left (fT _)));replace b:=bC.ei b zB zG w.toOk λd f=>.inr ((zn d f).resolve_left (fT _));clear zG zB zn;revert w zH F I b;exact zae):k:=b a
theorem aff(h:aY)(a:aD)(E:Bool)(e:Int)(g j:aj)(m:cS)(L:dP)(p q:Nat)(zy:dA c)(zF:dD)(n:dV h g)(z:gP a.a 64=true/\hT a.a)(C:gP a.b 64=true/\hT a.b)(s:1<=e/\e<=31)(zb:hJ c m L)(zY:p<=4)(zM:q<=4)(f:g 0≠1)(P:j=lY h g)(zk:j 1≠0\/j 2≠0)(zA:∀zq,zq<6->∀zc,zc<64->-4095<=bO j zq zc/\bO j zq zc<=4095)(zi:∀u,u<2->j (1+u)≠0->Hb h m j p q u):Calls prog 122 #[bl h,ay a,.bool E,X e,ap g,bI m L,X p,X q] c (mB 0 (im h a E e g m p q) c):=by
 refine QJ λx B y D=>?_;have zz:ck (hT a.b/\eD a.a e=true/\eD a.b e=true):=⟨C.2,by unfold eD;rw[z.1,rU.2 s];rfl,by unfold eD;rw[C.1,rU.2 s];rfl⟩;have z6:=Y λK(r:V [] c K)(zh:Nat)(zad:aq)(zN:aj) o w k zt zW zak=>Qa K (zy.ad r) zad o zh j zN e E w k zt zF zW zak zA;have zL:=Y λK(r:V [] c K)(zh:Nat) zt=>adM K h m L zh j p q zt zY zM zk λu ak e=>Hd n.nV (zb.ad r) ak (zi u ak e);have zT:=Y (QI (k:=h) (b:=j) (E:=m) (zd:=p) (ze:=q) zk λu ak e=>(Hd (y:=0) (ze:=q) (zd:=p) n.nV zb ak (zi u ak e)).q');have O:=Y λc(k:g 0=0)=>show Calls prog 160 #[bl h] c λl H=>l=.returned (ap j)/\V [] c H by rw[P,lY,ae k];exact adm c h
 have zE:=Y (show im h a E e g m p q=fj j a.b e E (rb h j m p q) 6 by rw[P];exact M f);have zC:=n.k;have zp:=λk:g 0≠0=>show j=g by rw[P,lY,M k]
 rw[zE.out];clear zy zF n z C s zA zi zk P zb zE;by_cases zv:g 0=0
 .replace O:=Y λc=>O.out c zv;clear zp zC;have b:=ao.nil [] c;go_in;refine AT λzj zf zw zs zm zu za=>?_;go_wp2_with(first|(clear zj;refine b.aI _ (bl h) ?_;clear b;intro z8 z7 b)|(clear zf;refine b.aI _ (ay a) ?_;clear b;intro zaj z' b)|(clear zw;refine b.aI _ (ap g) ?_;clear b;intro W zP b)|(clear zs;refine b.aI _ (bI m L) ?_;clear b;intro zX zai b)|(clear zm;refine b.aH (_) bY ?_;clear b;intro t zS b)|(clear zu;refine b.ld 4 (cE _) ?_)|(clear za;refine b.ld 2 (cP _) ?_))
  refine b.aW (x.out _) ?_;clear b;intro zU b;have zr:=trivial;go_wp2_with(clear zr;refine b.cp 3 (an .u8 64 a.a) (gp _) ?_ (o:=by exact(uS a)))
  refine b.aW (B.out _) ?_;clear b;intro zah b;have zo:=trivial;go_wp2_with(clear zo;refine b.cp 3 (an .u8 64 a.b) (gp _) ?_ (o:=by exact(uT a)))
  refine b.aW (y.out _) ?_;clear b;intro zV b;go_wp2_with fail
  refine b.aW (D.out _) ?_;clear b;intro z1 b;have zd:=b.cl 2 0 rfl (fa R rfl);have ze:=trivial;go_wp2_with(clear ze;refine b.ld 4 (cE _) ?_)
  refine b.aW (O.out _) ?_;clear b;intro zZ b;clear zd;refine nb λzl zaa zR=>?_;go_wp2_with(first|(clear zl;refine b.aN 2 (ap j) (cP _) (gf _) ?_ (s:=jD);clear b;intro zal b)|(clear zaa;refine b.ld 4 (cE _) ?_)|(clear zR;refine b.ld 1 (lr _ _) ?_))
  refine RX ?_;clear b;intro w zH F I b;exact RW
 .have zar:g 0=2:=Z;have zO:=Y (zp zv);clear O zp zC zv;have b:=ao.nil [] c;go_in;refine AT λzj zf zw zs zm zu za=>?_;go_wp2_with(first|(clear zj;refine b.aI _ (bl h) ?_;clear b;intro z8 z7 b)|(clear zf;refine b.aI _ (ay a) ?_;clear b;intro zaj z' b)|(clear zw;refine b.aI _ (ap g) ?_;clear b;intro W zP b)|(clear zs;refine b.aI _ (bI m L) ?_;clear b;intro zX zai b)|(clear zm;refine b.aH (_) bY ?_;clear b;intro t zS b)|(clear zu;refine b.ld 4 (cE _) ?_)|(clear za;refine b.ld 2 (cP _) ?_))
  refine b.aW (x.out _) ?_;clear b;intro zU b;have zr:=trivial;go_wp2_with(clear zr;refine b.cp 3 (an .u8 64 a.a) (gp _) ?_ (o:=by exact(uS a)))
  refine b.aW (B.out _) ?_;clear b;intro zah b;have zo:=trivial;go_wp2_with(clear zo;refine b.cp 3 (an .u8 64 a.b) (gp _) ?_ (o:=by exact(uT a)))
  refine b.aW (y.out _) ?_;clear b;intro zV b;go_wp2_with fail
  refine b.aW (D.out _) ?_;clear b;intro z1 b;have zd:=b.cl 2 0 rfl (fa R rfl);refine fE λze zl=>?_;go_wp2_with(first|(clear ze;refine b.ld 4 (cE _) ?_)|(clear zl;refine b.ld 1 (lr _ _) ?_))
  rw[<-zO.out]at b;refine RX ?_;clear b;intro w zZ F I b;clear zd;exact RW
section
variable {d za:Int}{a E:aD}{s Q:Bool}{x P:Int}{w O:bx}{p:Qae}{m u:Nat}{t:Int}
theorem HQ:(bW d a s x w p m u t).setIfInBounds 0 (X za)=bW za a s x w p m u t:=by simp[bW]
theorem xZ{a c v b:Qam}(e:a.length=f)(d:v.length=b.length):cC (a++(v++c)).toArray f b=(a++(b++c)).toArray:=by subst e;refine Array.ext' ?_;show(a++(v++c)).take a.length++b++(a++(v++c)).drop (a.length+b.length)=a++(b++c);rw[tK,<-d,<-b5 a v c,List.drop_left' (by rw[aZ]),b5]
theorem iP(a:aD):(cO a).length=135:=CF
theorem afg:cC (bW d a s x w p m u t) 1 (ay E).toList=bW d E s x w p m u t:=by have:=xZ (a:=[.int .i64 d]) (f:=1) (v:=cO a) (b:=cO E) (c:=[.bool s,.bool false,.int .i64 x]++((ct w p m u).toList++[.int .i64 t])) rfl (by rw[iP,iP]);exact this
theorem afh:cC (bW d a s x w p m u t) 136 (ka Q false P).toList=bW d a Q P w p m u t:=by have:=xZ (a:=.int .i64 d::cO a) (f:=136) (v:=[.bool s,.bool false,.int .i64 x]) (b:=[.bool Q,.bool false,.int .i64 P]) (c:=(ct w p m u).toList++[.int .i64 t]) (by rw[cz,iP]) rfl;simpa[bW,ka,b5]using this
theorem afi:cC (bW d a s x w p m u t) 139 (a1 O).toList=bW d a s x O p m u t:=by have:=xZ (a:=.int .i64 d::(cO a++[.bool s,.bool false,.int .i64 x])) (f:=139) (v:=(a1 w).toList) (b:=(a1 O).toList) (c:=[.slice none 0 0,.slice p m u,.int .i64 t]) (by rw[cz,aZ,iP];rfl) rfl;simpa[bW,ct,a1,b5]using this
theorem HR(b:H<148):H<(bW d a s x w p m u t).size:=by rw[kq];exact b
end
theorem HS(a:k:=by exact bB (eW rfl (mK _ _ _ _ _ _ _ _ _) (b.ai 1 rfl) rfl) ⟨rfl,b.aa⟩):k:=a
theorem afj(e:aE)(d:Qae)(f:Nat)(B:gW a e)(F:dA c)(D:dD)(n:aF c d 1 (hM a e).2.length (aC (hM a e).2)):Calls prog 62 #[.agg (br ((hM a e).1:Int) d (hM a e).2.length f)] c λk j=>k=.returned (.tuple #[bW e.kind (e.xV a) e.cl e.pQ e.ej none 0 0 0,X 0])/\V [] c j:=by
 have m:=Y B;have E:=Y F;have C:=Y D;cases e
 case aQ=>
  have l:ck (aF c d 1 (bh (fc a)).length (aC (bh (fc a)))):=n;show Calls prog 62 #[.agg (br 179 d (bh (fc a)).length f)] c λk j=>k=.returned (.tuple #[bW 1 a false 0 dS none 0 0 0,X 0])/\V [] c j;have b:=ao.nil [] c;go_in;go_wp2_with(first|(refine b.aI _ (br 179 d (bh (fc a)).length f) ?_;intro u s b)|(refine b.aH (bW 0 b6 false 0 dS none 0 0 0) re ?_;intro y z b)|(refine b.aH (bW 0 b6 false 0 dS none 0 0 0) re ?_;intro p w b)|(refine b.aN 0 (bW 0 b6 false 0 dS none 0 0 0) (mK _ _ _ _ _ _ _ _ _) (l1 _ _ _ _ _ _ _ _ _) ?_;intro x b;have A:=b.ah 2 0)|(refine b.a6 0 (X 1) (bW 1 b6 false 0 dS none 0 0 0) ?_ (s:=HQ) (t:=HR R);intro o b)|(refine b.ld 2 en ?_))
  refine b.aW (aeO _ a d f m.out.aQ (E.out.ad b.aa) C.out (l.out.ad b.aa)) ?_;intro q b;go_wp2_with(first|(refine b.stM 0 (ay a) (bW 1 a false 0 dS none 0 0 0) (cH _) (pu _) ?_ (t:=afg) (u:=by rw[kq];first|(rw[gr];decide)|exact c9 rfl);intro t b)|(refine b.ld 0 (mK _ _ _ _ _ _ _ _ _) ?_)|(refine b.aN 1 (bW 1 a false 0 dS none 0 0 0) (mK _ _ _ _ _ _ _ _ _) (l1 _ _ _ _ _ _ _ _ _) ?_;intro r b))
  exact HS
 case aA h i=>
  have l:ck (aF c d 1 (bh (gU h false i)).length (aC (bh (gU h false i)))):=n;show Calls prog 62 #[.agg (br 184 d (bh (gU h false i)).length f)] c λk j=>k=.returned (.tuple #[bW 2 b6 h (i:Int) dS none 0 0 0,X 0])/\V [] c j;have b:=ao.nil [] c;go_in;go_wp2_with(first|(refine b.aI _ (br 184 d (bh (gU h false i)).length f) ?_;intro u s b)|(refine b.aH (bW 0 b6 false 0 dS none 0 0 0) re ?_;intro y z b)|(refine b.aH (bW 0 b6 false 0 dS none 0 0 0) re ?_;intro p w b)|(refine b.aN 0 (bW 0 b6 false 0 dS none 0 0 0) (mK _ _ _ _ _ _ _ _ _) (l1 _ _ _ _ _ _ _ _ _) ?_;intro x b;have A:=b.ah 2 0)|(refine b.a6 0 (X 2) (bW 2 b6 false 0 dS none 0 0 0) ?_ (s:=HQ) (t:=HR R);intro o b)|(refine b.ld 2 en ?_))
  refine b.aW (aeC _ h false i d f m.out.aA (l.out.ad b.aa)) ?_;intro q b;go_wp2_with(first|(refine b.stM 0 (ka h false (i:Int)) (bW 2 b6 h (i:Int) dS none 0 0 0) xO (Re _ _ _) ?_ (t:=afh) (u:=by rw[kq];first|(rw[gr];decide)|exact c9 rfl);intro t b)|(refine b.ld 0 (mK _ _ _ _ _ _ _ _ _) ?_)|(refine b.aN 1 (bW 2 b6 h (i:Int) dS none 0 0 0) (mK _ _ _ _ _ _ _ _ _) (l1 _ _ _ _ _ _ _ _ _) ?_;intro r b))
  exact HS
 case cD g G=>
  have l:ck (aF c d 1 (bh (gh g)).length (aC (bh (gh g)))):=n;show Calls prog 62 #[.agg (br 181 d (bh (gh g)).length f)] c λk j=>k=.returned (.tuple #[bW 3 b6 false 0 g none 0 0 0,X 0])/\V [] c j;have b:=ao.nil [] c;go_in;go_wp2_with(first|(refine b.aI _ (br 181 d (bh (gh g)).length f) ?_;intro u s b)|(refine b.aH (bW 0 b6 false 0 dS none 0 0 0) re ?_;intro y z b)|(refine b.aH (bW 0 b6 false 0 dS none 0 0 0) re ?_;intro p w b)|(refine b.aN 0 (bW 0 b6 false 0 dS none 0 0 0) (mK _ _ _ _ _ _ _ _ _) (l1 _ _ _ _ _ _ _ _ _) ?_;intro x b;have A:=b.ah 2 0)|(refine b.a6 0 (X 3) (bW 3 b6 false 0 dS none 0 0 0) ?_ (s:=HQ) (t:=HR R);intro o b)|(refine b.ld 2 en ?_))
  refine b.aW (aeD _ g d f (m.out.ej g G rfl) (l.out.ad b.aa)) ?_;intro q b;go_wp2_with(first|(refine b.stM 0 (a1 g) (bW 3 b6 false 0 g none 0 0 0) (cX _) (og _) ?_ (t:=afi) (u:=by rw[kq];first|(rw[gr];decide)|exact c9 rfl);intro t b)|(refine b.ld 0 (mK _ _ _ _ _ _ _ _ _) ?_)|(refine b.aN 1 (bW 3 b6 false 0 g none 0 0 0) (mK _ _ _ _ _ _ _ _ _) (l1 _ _ _ _ _ _ _ _ _) ?_;intro r b))
  exact HS
theorem RY(a:bx):Calls prog 114 #[a1 a] c λd e=>d=.returned (.bool (oW a))/\V [] c e:=by
 have d:oW a=(a.f==(a.s==1)):=rfl;have b:=ao.nil [] c;go_in;go_wp2_with(refine b.aI _ (a1 a) ?_;intro f g b;have i:=b.ah 0 3;have h:=b.ah 0 1)
 go_ret;exact⟨rfl,b.aa⟩
theorem RZ(d b:bx):Calls prog 115 #[a1 d,a1 b] c λf e=>f=.returned (.bool (lZ d b))/\V [] c e:=by exact RL
structure bG where
 c:aY
 s:aD
 h:bx
 q:Nat
 f:aq
 lb:aK
 hN:cS
 P:dP
 G:Nat->aq
 Q:Nat->aK
def bG.k1(a:bG):Qam:=[.int .i64 a.h.t,.int .i64 a.h.s,.int .i64 a.h.aa,.bool a.h.f,.bool a.h.r,.bool a.h.a,.int .i64 (a.q:Int)]++((al a.f a.lb).toList++((bI a.hN a.P).toList++((al (a.G 0) (a.Q 0)).toList++((al (a.G 1) (a.Q 1)).toList++((al (a.G 2) (a.Q 2)).toList++((al (a.G 3) (a.Q 3)).toList++((al (a.G 4) (a.Q 4)).toList++((al (a.G 5) (a.Q 5)).toList++(al (a.G 6) (a.Q 6)).toList))))))))
def cW(a:bG):Qad:=((bl a.c).toList++(cO a.s++a.k1)).toArray
theorem h3{b:bG}(a:Nat):(cW b)[139+a]? =b.k1[a]? :=by unfold cW;rw[b4,db (by simp[bl];omega),show 139+a-(bl b.c).toList.length=135+a by simp[bl];omega,db sL,iP,ki]
theorem p0{c:bG}:∀a,a<(ay c.s).size->(cW c)[4+a]? =(ay c.s)[a]? :=λa b=>by rw[gr]at b;unfold cW ay;rw[b4,db (by simp[bl]),show 4+a-(bl c.c).toList.length=a by simp[bl],eE x0,b4]
theorem p1{b:bG}:∀a,a<(bl b.c).size->(cW b)[0+a]? =(bl b.c)[a]? :=λa c=>by unfold cW;rw[c',b4,eE vQ,eo]
theorem o2{a:bG}:(cW a).size=201:=by unfold cW;simp only[mW,aZ,iP];rfl
theorem afk{a:bG}:(cW a)[8]? =some (.bool a.s.b8):=p0 4 (by rw[gr];decide)
theorem o3{c:bG}(b:Nat)(e:b<7):∀a,a<5->(cW c)[166+5*b+a]? =(al (c.G b) (c.Q b))[a]? :=λa d=>by
 rw[show 166+5*b+a=139+(27+5*b+a)from Z,h3];match b,e,a,d with
 |0,_,0,_|0,_,1,_|0,_,2,_|0,_,3,_|0,_,4,_=>rfl
 |1,_,0,_|1,_,1,_|1,_,2,_|1,_,3,_|1,_,4,_=>rfl
 |2,_,0,_|2,_,1,_|2,_,2,_|2,_,3,_|2,_,4,_=>rfl
 |3,_,0,_|3,_,1,_|3,_,2,_|3,_,3,_|3,_,4,_=>rfl
 |4,_,0,_|4,_,1,_|4,_,2,_|4,_,3,_|4,_,4,_=>rfl
 |5,_,0,_|5,_,1,_|5,_,2,_|5,_,3,_|5,_,4,_=>rfl
 |6,_,0,_|6,_,1,_|6,_,2,_|6,_,3,_|6,_,4,_=>rfl
theorem afl{b:bG}:∀a,a<5->(cW b)[146+a]? =(al b.f b.lb)[a]? :=λa c=>by
 rw[show 146+a=139+(7+a)from Z,h3];match a,c with
 |0,_|1,_|2,_|3,_|4,_=>rfl
theorem afm{b:bG}:∀a,a<(bI b.hN b.P).size->(cW b)[151+a]? =(bI b.hN b.P)[a]? :=λa c=>by
 have c:a<15:=c;rw[show 151+a=139+(12+a)from Z,h3];match a,c with
 |0,_|1,_|2,_|3,_|4,_|5,_|6,_|7,_|8,_|9,_|10,_|11,_|12,_|13,_|14,_=>rfl
def fW(a:Int):Int:=if a=2 then 1 else if a=3 then 2 else 0
def jl(a:bG):Bool:=a.s.b8&&a.h.s==3
theorem HT(a:k:=by have b:=ao.nil [] c;go_in;have m:c.cell? ⟨f,139,none⟩=some (.int .i64 a.h.t):=(h.out.S b.aa U).au _|>.trans (by exact h3 0);exact ft):k:=a
theorem HU(a:bG)(f:Nat)(g:ag c f 291 (cW a)):Calls prog 201 #[ab f] c λk l=>k=.returned (X (fW a.h.t))/\V [] c l:=by
 have h:=Y g;rcases Decidable.em (a.h.t=2)with d|d
 .have e:fW a.h.t=1:=by simp[fW,d]
  rw[e];have i:(a.h.t==2)=true:=r1;exact HT
 .have i:(a.h.t==2)=false:=r1;rcases Decidable.em (a.h.t=3)with q|q
  .have e:fW a.h.t=2:=by simp[fW,q]
   rw[e];have j:(a.h.t==3)=true:=oT;exact HT
  .have e:fW a.h.t=0:=by simp[fW,d,q]
   rw[e];have j:(a.h.t==3)=false:=oT;exact HT
theorem R0(d:bG)(a:Nat)(h:ag c a 291 (cW d)):Calls prog 255 #[ab a] c λj k=>j=.returned (.bool (jl d))/\V [] c k:=by
 have e:=Y h;unfold jl;cases f:d.s.b8
 .have g:=Y f;have b:=ao.nil [] c;go_in;have i:c.cell? ⟨a,8,none⟩=some (.bool false):=R1;exact ft
 .have g:=Y f;have b:=ao.nil [] c;go_in;have i:c.cell? ⟨a,8,none⟩=some (.bool true):=R1;have l:c.cell? ⟨a,140,none⟩=some (.int .i64 d.h.s):=(e.out.S b.aa U).au _|>.trans (by exact h3 1);exact ft
theorem R2(c a:Nat)(b:bj c->bj a->k:=by
 intro e d;have a:=ao.nil [] c;go_in;go_wp2_with(first|(refine a.aI _ (eK j h.length i g f A F) ?_;intro zr zn a)|(refine a.aI _ (bQ cf k) ?_;intro zy zx a)|(refine a.aH (bQ 0 0) sm ?_;intro zj zv a)|(refine de (al (b.G e) (b.Q e)) rfl aB (B.out.S a.aa U) (o3 e R) rfl rfl ?_)|(refine a.stM 2 (al (b.G e) (b.Q e)) (eK j h.length i g f (b.G e) (b.Q e)) aB (bo _ _) ?_ (d:=3) (t:=by rfl);intro zw a)|(refine a.ld 2 ls ?_)|(refine a.ld 1 dI ?_))
 refine(G9 _ j h i g f (b.G e) (b.Q e) (K.out.ad a.aa) cf k z D).mono ?_;rintro t zi ⟨o,p,C,rfl,Q,I,zm,zd⟩;replace a:=a.aS zd;go_wp2_with(first|(refine a.aH (cs 0 0 0) kP ?_;intro zt zk a)|(refine a.aN 0 (cs o p C) dC (h2 _ _ _) ?_;intro zq a)|(refine de (al (b.G d) (b.Q d)) rfl aB (B.out.S a.aa U) (o3 d R) rfl rfl ?_)|(refine a.stM 3 (al (b.G d) (b.Q d)) (eK j h.length i g f (b.G d) (b.Q d)) aB (bo _ _) ?_ (d:=3) (t:=by rfl);intro zl a)|(refine a.ld 3 ls ?_)|(refine a.ld 2 dI ?_))
 refine(G9 _ j h i g f (b.G d) (b.Q d) (L.out.ad a.aa) cf k z D).mono ?_;rintro t zB ⟨n,l,bV,rfl,zb,O,zs,P⟩;replace a:=a.aS P;by_cases x:bV<C
 .have H:=x;go_wp2_with(first|(refine a.aH (cs 0 0 0) kP ?_;intro zh zA a)|(refine a.aN 0 (cs n l bV) dC (h2 _ _ _) ?_;intro zf a;have zc:=a.ah 0 2;have W:=a.ah 1 2)|(refine a.cp 0 (#[X n,X l]) dI ?_)|(refine a.aN 2 (#[X n,X l]) dI (lN _ _) ?_;intro zC a;clear zc W))
  exact bB (eW rfl dI (a.ai 2 rfl) rfl) ⟨n,l,1,rfl,zb,O,Z,Z,a.aa⟩
 .have H:=x;go_wp2_with(first|(refine a.aH (cs 0 0 0) kP ?_;intro zz zo a)|(refine a.aN 0 (cs n l bV) dC (h2 _ _ _) ?_;intro zp a;have ze:=a.ah 0 2;have za:=a.ah 1 2)|(refine a.cp 1 (#[X o,X p]) dI ?_)|(refine a.aN 2 (#[X o,X p]) dI (lN _ _) ?_;intro zu a;clear ze za))
  exact bB (eW rfl dI (a.ai 2 rfl) rfl) ⟨o,p,0,rfl,Q,I,Z,Z,a.aa⟩):k:=b ⟨⟩ ⟨⟩
theorem HV(b:bG)(y:Nat)(G:ag c y 291 (cW b))(j:Qae)(h:af)(i g f:Nat)(A:aq)(F:aK)(m:Nat)(ak:m<2)(E:∀u,u<2->mG c j h i g f (b.G (2+2*m+u)) (b.Q (2+2*m+u)))(cf k:Int)(z:-63<=cf/\cf<=63)(D:-63<=k/\k<=63):Calls prog 290 #[ab y,eK j h.length i g f A F,X m,bQ cf k] c λt J=>∃r q s:Int,t=.returned (.tuple #[bQ r q,X s])/\(-63<=r/\r<=63)/\(-63<=q/\q<=63)/\0<=s/\s<=1/\V [] c J:=by
 have B:=Y G;have K:=Y (E 0 R);have L:=Y (E 1 R);match m,ak with
 |0,_=>exact R2 2 3
 |1,_=>exact R2 4 5
section
variable {r:Qak}{f:Nat}{A:Qai}{zb:Qaj}{q:Qax}{e:Act}{b:N}{i:Qab}{T:Qat}{W:Array (Nat×Operand)}
theorem rf(a:Qad)(g:ba (bA []) prog r i f A zb (e.put q.dst (a)) b)(o:q.op=.build T W:=by rfl)(d:prog.built T (W.map λ(h,k)=>(h,e.eval k)).toList=some a:=by kernel_rfl) (c:(match q.dst with|some n=>decide (n<e.tmps.size)|none=>false)=true:=by rfl) (l:jK q=true:=by rfl) (j:cB q r e:=by rfl):ba (bA []) prog r i f ((q,0)::A) zb e b:=⟨a,cr.vX c l j λs _ _ p m=>q0 T W o wa (by rw[d];exact m.out),g⟩
end
def c5(b:aD)(a:l0):Qad:=(cO b++([.bool a.known,.int .i64 a.dR,.bool a.reset,.int .i64 a.link]:Qam)).toArray
def c4(b:aD)(a:fA):Qad:=(([.int .i64 a.first,.int .i64 a.last]:Qam)++(cO b++((a1 a.head).toList++([.bool a.reset,.int .i64 a.link]:Qam)))).toArray
def j0:fA:=⟨0,0,dS,false,0⟩
theorem x1(b:l0):(c5 a b).size=139:=x2
theorem p2(b:fA):(c4 a b).size=145:=by simp[c4,iP,a1]
theorem afn(b:l0):bT prog 208 (c5 a b).size:=by rw[x1];exact⟨_,underlying208,rfl,ar⟩
theorem kg(b:fA):bT prog 158 (c4 a b).size:=by rw[p2];exact⟨_,underlying158,rfl,ar⟩
theorem nA:dJ 158 (.agg (c4 b6 j0)):=dM
theorem HW:∀v∈cO a,v.oneCell'=true:=by have:=pu a;rw[kw]at this;exact λv b=>this v (by simpa[ay]using b)
theorem afo(c:l0):(c5 a c).all (·.oneCell')=true:=by
 rw[kw];intro v b;simp only[c5,u',bc]at b;rcases b with b|b
 .exact HW a v b
 .simp at b;rcases b with rfl|rfl|rfl|rfl<;>rfl
theorem oj(c:fA):(c4 a c).all (·.oneCell')=true:=by
 rw[kw];intro v b;simp only[c4,u',bc]at b;rcases b with b|b|b|b
 .simp at b;rcases b with rfl|rfl<;>rfl
 .exact HW a v b
 .have:=og c.head;exact HC
 .simp at b;rcases b with rfl|rfl<;>rfl
section
variable {a E:aD}{e:l0}
theorem vd:(c5 a e)[135]? =some (.bool e.known):=x2
theorem CJ:(c5 a e)[136]? =some (.int .i64 e.dR):=x2
theorem R3:(c5 a e)[137]? =some (.bool e.reset):=x2
theorem R4:(c5 a e)[138]? =some (.int .i64 e.link):=x2
theorem R5:∀c,c<(ay a).size->(c5 a e)[0+c]? =(ay a)[c]? :=λc b=>by rw[gr]at b;unfold c5 ay;rw[c',b4,b4,eE x0]
theorem afp{v:Bool}:(c5 a e).setIfInBounds 135 (.bool v)=c5 a {e with known:=v}:=by unfold c5;rw[cb];congr 1
theorem sM:(c5 a e).setIfInBounds 136 (X v)=c5 a {e with dR:=v}:=by unfold c5;rw[cb];congr 1
theorem R6{v:Bool}:(c5 a e).setIfInBounds 137 (.bool v)=c5 a {e with reset:=v}:=by unfold c5;rw[cb];congr 1
theorem HX:(c5 a e).setIfInBounds 138 (X v)=c5 a {e with link:=v}:=by unfold c5;rw[cb];congr 1
theorem afq:cC (c5 a e) 0 (ay E).toList=c5 E e:=by have:=xZ (a:=[]) (f:=0) (v:=cO a) (b:=cO E) (c:=[.bool e.known,.int .i64 e.dR,.bool e.reset,.int .i64 e.link]) rfl (by rw[iP,iP]);exact this
theorem mL(b:H<139):H<(c5 a e).size:=by rw[x1];exact b
end
def HY(c:N)(a:Nat)(d:Qad)(v:Qas)(e:Ending)(b:N):Prop:=e=.returned v/\ag b a 208 d/\V [a] c b
theorem ao.one{b:N}{a:Nat}{T:Qat}(e:ag b a T z):ao [a] b b [(a,T,z)]:=⟨V.refl _ _,λd c=>by rw[df.1 c];exact e,U,λd c=>.inl (by rw[df.1 c];simp)⟩
theorem R7(e:Nat)(d:aD)(b:l0)(f:ag c e 208 (c5 d b)):Calls prog 149 #[ab e] c (HY c e (c5 d {b with reset:=true,link:=-1}) (.tuple #[])):=by
 have a:=ao.one f;go_in;go_wp2_with(first|(refine a.a6 0 (.bool true) (c5 d {b with reset:=true}) ?_ (s:=R6) (t:=mL R);intro g a)|(refine a.a6 0 (X (-1)) (c5 d { {b with reset:=true}with link:=(-1)}) ?_ (s:=HX) (t:=mL R);intro h a))
 exact jw (jW rfl _ _ _) rfl ⟨rfl,a.ai 0 rfl,a.aa⟩
theorem R8(i:Nat)(e:aD)(a:l0)(g h:Int)(f:bx)(l:ag c i 208 (c5 e a)):Calls prog 172 #[ab i,X g,X h,a1 f] c (HY c i (c5 e {a with reset:=false,link:=-1}) (.agg (c4 e ⟨g,h,f,a.reset,a.link⟩))):=by
 have b:=ao.one l;go_in;go_wp2_with(first|(refine b.aI _ (a1 f) ?_;intro q n b)|(refine b.aH (c4 b6 j0) nA ?_;intro t s b;have w:=b.cl 2 137 (v:=.bool a.reset) (g:=by exact R3);have r:=b.cl 2 138 (v:=X a.link) (g:=by exact R4)))
 have k:=b.cl 2 137 (g:=R3);have j:=b.cl 2 138 (g:=R4);replace b:=b.bd;refine rg [] [0,1,2,3,4,5,6,7,8,9,10,11,12,13,14,15,116,217] ?_;refine lx ?_;refine b.hZ 2 (ay e) (cH _) ?_ (o:=by exact R5);simp only[az];refine b.fw 1 (cX _) ?_;refine nI ?_;refine rf (c4 e ⟨g,h,f,a.reset,a.link⟩) ?_;simp only[az];refine b.sv (c4 b6 j0) nA ?_;clear b k j;intro p x b;simp only[az];refine b.dq 0 (c4 e ⟨g,h,f,a.reset,a.link⟩) (kg _ _) (oj _ _) ?_ (r:=by rw[p2,p2]);intro u b;refine ax ?_;go_wp2_with(first|(refine b.a6 3 (.bool false) (c5 e {a with reset:=false}) ?_ (s:=R6) (t:=mL R);intro m b)|(refine b.a6 3 (X (-1)) (c5 e { {a with reset:=false}with link:=(-1)}) ?_ (s:=HX) (t:=mL R);intro y b)|(refine b.ld 0 (kg _ _) ?_)|(refine b.aN 1 (c4 e ⟨g,h,f,a.reset,a.link⟩) (kg _ _) (oj _ _) ?_;intro o b))
 refine bB (eH rfl (kg _ _) (b.ai 1 rfl) rfl) ⟨rfl,b.ai 3 rfl,b.aa⟩
def rh(cI c:Nat)(v:Nat->Value)(a:Act):Act:=(List.range' cI c).foldl (λa b=>a.put (some b) (v b)) a
theorem HZ{g:Code}(cI h:Nat)(f:(Nat->Value)->World->Prop) (n:g.wp j (λk c a=>k=.normal/\c=rh cI h (λd=>c.tmps.getD d undef) e/\f (λd=>c.tmps.getD d undef) a) e b) (o:∀v a,f v a->i .normal (rh cI h v e) a):g.wp j i e b:=Code.wp_mono (λk c a m=>by obtain⟨rfl,p,l⟩:=m;rw[p];exact o _ _ l) n
theorem x3{f:Qab}{d:Qai}{c:Qaj}{a:Qax}(h:ba (bA []) j r f 0 d ((b.heap.size,b.heap.size)::c) (e.put a.dst undef) b)(i:Region.wanted a (yielded r e.tmps)=false:=by rfl):ba (bA []) j r f 0 ((a,1)::d) c e b:=gn λ_ g=>wpList_skip i (g _ _ (V.refl _ _) h)
def mM(a:aj):Bool:= !(h8 64 a λ_=>0)
theorem afr{d:aj}(e:∀a,a<64->d a=m a):mM d=mM m:=by
 have f:h8 64 d (λ_=>0)=h8 64 m λ_=>0:=by rw[Bool.eq_iff_iff,te,te];exact⟨λc a b=>(e a b)▸c a b,λc a b=>(e a b).symm▸c a b⟩
 unfold mM;rw[f]
theorem afs(e:aj)(c:N):(binOp .neq 230 (an .i64 64 e) (.agg (an .i64 64 λ_=>0))).run prog c=.ok (.bool (mM e)) c:=by refine Aj 3 λd b a=>?_;rw[run_neq_struct,show(10000:Nat)=9998+1+1 from rfl,DO c 9999 _ _ underlying230 a,DM c 9998 _ .i64 64 e _ underlying3 ar _ U];rfl
def o4(e d:aq)(b:Nat)(c:Bool):aj:=λa=>fQ e 0 0 b c a+-(fQ d 0 0 b c a)
def h4(a:bG)(f:aj)(d b:aq)(e:Bool)(c:Nat):aj:=lC (jb (aO (o4 d b c e)) f (a.q:Int)) a.h.a
def o5(aR:Qan)(a:Nat):Bool:=(List.range a).any λb=>mM (aR b)
theorem aft(aR:Qan)(a:Nat):o5 aR (a+1)=(o5 aR a||mM (aR a)):=by simp[o5,mm]
def fl(d:aj)(c:Bool)(aR:Qan)(b:Nat):aj:=λa=>if a=4 then c.toInt else if 18<=a/\a<18+b then(mM (aR (a-18))).toInt else if 24<=a/\a<24+64*b then aR ((a-24)/64) ((a-24)%64)else d a
theorem afu(b:aj)(a:Bool)(aR:Qan):ap (aV b 4 a.toInt)=ap (fl b a aR 0):=eY λc _=>by
 unfold aV fl;split
 .rfl
 .rw[M Z,M Z]
theorem CK{aR:Qan}:(ap (fl K J aR d))[4]? =some (.bool J):=by rw[hX R rfl];unfold fl;rw[ae rfl];cases J<;>rfl
theorem afv{aR:Qan}(h:d<6):ap (aV (cV (fl K J aR d) (24+d*64) 64 (aR d)) (18+d) (mM (aR d)).toInt)=ap (fl K J aR (d+1)):=eY λa _=>by
 unfold aV cV;by_cases f:a=18+d
 .subst f;unfold fl;rw[ae rfl,M Z,ae Z,show 18+d-18=d from Z]
 .rw[M f];unfold fl;by_cases b:a=4
  .rw[M Z,ae b,ae b]
  .by_cases g:24+d*64<=a/\a<24+d*64+64
   .rw[ae g,M b,M Z,ae Z,show(a-24)/64=d from Z,show(a-24)%64=a-(24+d*64)from Z]
   .rw[M g,M b,M b];by_cases e:18<=a/\a<18+d
    .rw[ae e,ae Z]
    .rw[M e];by_cases c:24<=a/\a<24+64*d
     .rw[ae c,M Z,ae Z]
     .rw[M c,M Z,M Z]
theorem afw{a b:aj}(c:d<6):cC (ap a) (24+d*64) (an .i64 64 b).toList=ap (cV a (24+d*64) 64 b):=by rw[eF d 64];exact Q7 a b c
theorem H0(a:d<6):hC (18+d)=true:=by simp[hC];omega
theorem aq.dN.fO(a:g.dN):g.dd/\0<g.w/16/\0<g.h/16:=⟨⟨a.toOk,by rw[a.eN],by rw[a.ev]⟩,by rw[a.eN];decide,by rw[a.ev];decide⟩
theorem R9{c:aq}(e:g.dN)(f:c.dN)(a:Nat)(b:Bool):nK (o4 g c a b) 255:=λd _=>by have h:=wV e.toOk 0 0 a b d;have i:=wV f.toOk 0 0 a b d;unfold o4;omega
theorem H2{d:bG}{a:aq}(f:g.dN)(k:a.dN)(j:hT m)(i:eD m (d.q:Int)=true)(e:Bool)(c b:Nat)(h:b<64):-4095<=h4 d m g a e c b/\h4 d m g a e c b<=4095:=pn.1 (Fx (R9 f k c e) j i) _ (pt _ h).1
def dc(b:aD)(a:e1):Qad:=(([.int .i64 a.first,.int .i64 a.last,.int .i64 a.t,.int .i64 a.hK,.int .i64 a.hL,.int .i64 a.shown]:Qam)++(cO b++(a1 a.head).toList)).toArray
def j1:e1:=⟨0,0,0,0,0,0,dS⟩
theorem lj(b:e1):(dc a b).size=147:=by simp[dc,iP,a1]
theorem afx{a:aD}:(dc a h).setIfInBounds 5 (X v)=dc a {h with shown:=v}:=by unfold dc;rw[cb];congr 1
def fZ(c:Qae)(b d:Nat)(a:cA):Qad:=#[.slice c b d,X a.ed,X a.b1,.bool a.waiting,X a.link,X a.shown]
def e2(h:af)(e:N)(j:aD)(f:N)(g:Nat)(a:cA):Prop:=∃(c:Qae)(b:Nat)(d:bX),av h e f ((g,153,fZ c a.es.length b a)::d) [] (λ_=>True)/\er 113 147 a.es.length (cq (λi=>dc j (a.es.getD i j1)) a.es.length) c b d
theorem afy{b:List e1}{e:e1->e1}{a:Nat}(f:d<b.length):(b.modify d e).getD a j1=if a=d then e (b.getD d j1)else b.getD a j1:=by
 rw[b9,List.getElem?_modify];by_cases c:a=d
 .subst c;rw[cu f,b9,cu f];simp
 .rw[M c,b9];simp only[M (hv c)];cases b[a]? <;>rfl
theorem R'(o:af)(j:aD)(l:Nat)(a:cA)(d:Nat)(x:e2 o c j c l a)(q:d<a.es.length)(r:0<=a.shown/\a.shown<=1000000)(z:a.es.length<=1000000):Calls prog 112 #[ab l,X d] c λf y=>f=.returned (.tuple #[])/\e2 o c j y l (a.show (d:Int)):=by
 obtain⟨Q,n,G,b,s⟩:=x;refine aG a.es.length λe u=>?_;refine aG (a.shown+1) λm t=>?_;have h:=Y (And.intro u t);rw[u]at b s q z;rcases s with⟨f,_⟩|⟨g,i,rfl,rfl,k⟩
 .omega
 have A:=Y k;have p:=Y q;have C:=Y (show d*147+5<i.size by have:=k.lV;have:=k.le;omega);have D:(d:Int)<(e:Int):=Z;have F:(e:Int)<=1000000:=Z;have W:a.shown+1=m:=t;have J:=r.1;have I:=r.2;go_in;have za:=b.ah 0 0;have O:=b.ah 0 5;go_wp2_with fail
 have E:=b.ah 0 0;have K:=b.ah 0 5;refine ve 8 9 10 212 ?_;clear b;intro b;refine ax ?_;refine b.h0 1 (X a.shown) (i.setIfInBounds (d*147+5) (X a.shown)) ?_ (e:=d*147+5) (t:=C.out);intro H b;refine ax ?_;have B:=b.ah 0 5;go_wp2_with(refine b.a6 0 (X m) (#[.slice (ab g) e n,X a.ed,X a.b1,.bool a.waiting,X a.link,X m]) ?_ (d:=5);intro P b;clear B)
 refine jw (jW rfl _ _ _) rfl ⟨rfl,some ⟨g,0,none⟩,n,[(g,113,i.setIfInBounds (d*147+5) (.int .i64 a.shown))],?_,?_⟩
 .rw[show(a.show (d:Int)).es.length=e from by rw[<-h.out.1];exact p3 _ _ _];rw[<-h.out.2]at b;exact b
 .rw[show(a.show (d:Int)).es.length=e from by rw[<-h.out.1];exact p3 _ _ _];refine .inr ⟨g,_,rfl,rfl,A.out.set (λ_=>lj _ _) p.out R λw L=>?_⟩;show dc j ((a.es.modify (d:Int).toNat λf=>{f with shown:=a.shown}).getD w j1)= _;rw[gx,afy (by rw[h.out.1];exact p.out)];split
  .rw[afx]
  .rfl
theorem Sa(i:af)(j:aD)(g:Nat)(a:cA)(t:e2 i c j c g a)(y:a.waiting=true->∃d:Nat,a.b1=(d:Int)/\d<a.es.length)(z:0<=a.shown/\a.shown<=1000000)(B:a.es.length<=1000000):Calls prog 67 #[ab g] c λo w=>o=.returned (.tuple #[])/\e2 i c j w g a.flush:=by
 obtain⟨r,k,n,b,e⟩:=t;by_cases f:a.waiting=true
 .obtain⟨d,l,E⟩:=y f;rw[show a.flush={a.show (d:Int)with waiting:=false} by unfold cA.flush;rw[ae f,l]];have p:=Y (And.intro l E);have A:=Y z;have x:=Y B;have h:=Y f;go_in;have D:=b.cl 0 3 (v:=.bool true) (g:=by exact aX (λe=>some (Value.bool e)) h.out);have G:=b.cl 0 2 (v:=X d) (g:=by exact aX (λe=>some (Value.int .i64 e)) p.out.1);go_wp2_with fail
  refine(R' _ i j g a d ⟨r,k,n,b,e⟩ p.out.2 A.out x.out).mono ?_;rintro o F ⟨rfl,m,q,u,s,C⟩;have b:=s;go_wp2_with(refine b.a6 0 (.bool false) (fZ m (a.show (d:Int)).es.length q {a.show (d:Int)with waiting:=false}) ?_ (d:=3);intro H b)
  exact jw (jW rfl _ _ _) rfl ⟨rfl,m,q,u,b,C⟩
 .rw[show a.flush=a by unfold cA.flush;rw[M f]];have h:=Y (show a.waiting=false by simpa using f);go_in;have D:=b.cl 0 3 (v:=.bool false) (g:=by exact aX (λe=>some (Value.bool e)) h.out);go_wp2_with fail
  exact jw (jW rfl _ _ _) rfl ⟨rfl,r,k,n,b,e⟩
theorem Sb:kz 113 (.agg (dc b6 j1)) 147 264:=k7
theorem H3:dJ 113 (.agg (dc b6 j1)):=dM
theorem vY(b:e1):bT prog 113 (dc a b).size:=by rw[lj];exact⟨_,underlying113,rfl,ar⟩
theorem afz:bT prog 111 6:=⟨_,underlying111,rfl,ar⟩
theorem x4(c:e1):(dc a c).all (·.oneCell')=true:=by
 rw[kw];intro v b;simp only[dc,u',bc]at b;rcases b with b|b|b
 .simp at b;rcases b with rfl|rfl|rfl|rfl|rfl|rfl<;>rfl
 .exact HW a v b
 .have:=og c.head;exact HC
section
variable {a:aD}{g:fA}{h:e1}{v:Int}
theorem afA:(c4 a g)[0]? =some (.int .i64 g.first):=rfl
theorem afB:(c4 a g)[1]? =some (.int .i64 g.last):=rfl
theorem H4:∀b,(c4 a g)[137+b]? =((a1 g.head).toList++([.bool g.reset,.int .i64 g.link]:Qam))[b]? :=λb=>by unfold c4;rw[b4,db aw,show 137+b-([.int .i64 g.first,.int .i64 g.last]:Qam).length=135+b from aw,db sL,iP,ki]
theorem H5:∀b,b<(a1 g.head).size->(c4 a g)[137+b]? =(a1 g.head)[b]? :=λb c=>by rw[H4,eE vQ,eo]
theorem afC:(c4 a g)[137]? =some (.int .i64 g.head.t):=H5 0 (c9 rfl)
theorem Sc:∀c,c<(ay a).size->(c4 a g)[2+c]? =(ay a)[c]? :=λc b=>by rw[gr]at b;unfold c4 ay;rw[b4,db U,show 2+c-([.int .i64 g.first,.int .i64 g.last]:Qam).length=c from U,eE x0,b4]
theorem afD:(dc a h).setIfInBounds 3 (X v)=dc a {h with hK:=v}:=by unfold dc;rw[cb];congr 1
theorem afE:(dc a h).setIfInBounds 4 (X v)=dc a {h with hL:=v}:=by unfold dc;rw[cb];congr 1
theorem afF{d g c e b f:Int}:cC (dc a h) 0 (#[X d,X g,X c,X e,X b,X f]:Qad).toList=dc a ⟨d,g,c,e,b,f,h.head⟩:=by have:=xZ (a:=[]) (f:=0) (v:=[.int .i64 h.first,.int .i64 h.last,.int .i64 h.t,.int .i64 h.hK,.int .i64 h.hL,.int .i64 h.shown]) (b:=[.int .i64 d,.int .i64 g,.int .i64 c,.int .i64 e,.int .i64 b,.int .i64 f]) (c:=cO a++(a1 h.head).toList) rfl rfl;exact this
theorem Sd(b:H<147):H<(dc a h).size:=by rw[lj];exact b
end
theorem av.CL{e:N}{c:bU}(a:av l e b C D c):av (C.map (·.1)++D) b b C D c:=⟨⟨V.refl _ _,a.h.b,a.h.d,λd f=>.inl (bc.2 (.inl (ca.2 ⟨d,f,rfl⟩)))⟩,⟨a.a.d,λh g=>.inl (bc.2 (.inr g)),a.a.l⟩,a.q,a.s⟩
theorem av.CM{d:N}{g:bU}(e:av l d b C D g):∀c∈C.map (·.1)++D,c∈l\/d.heap.size<=c:=λc a=>by
 rcases bc.1 a with a|a
 .obtain⟨f,h,rfl⟩:=ca.1 a;exact e.h.n f h
 .exact e.a.n c a
theorem av.afG{e:N}{h:bU}(a:av G b L C D h)(g:V l e b)(d:∀c∈G,c∈l\/e.heap.size<=c):av l e L C D h:=⟨⟨g.trans a.aa d,a.h.b,a.h.d,λi j=>(a.h.n i j).elim (d _) λf=>.inr (b7 g.size f)⟩,⟨a.a.d,λc k=>(a.a.n c k).elim (d _) λf=>.inr (b7 g.size f),a.a.l⟩,a.q,a.s⟩
theorem e2.at{a:N}{f:aD}(h:e2 l a f b I n):V l a b/\∃d,(∀e∈d,e∈l\/a.heap.size<=e)/\e2 d b f b I n:=by obtain⟨i,g,k,c,j⟩:=h;exact⟨c.aa,_,c.CM,i,g,k,c.CL,j⟩
theorem e2.back{a:N}{d:aD}(h:e2 G b d L I n)(k:V l a b)(e:∀c∈G,c∈l\/a.heap.size<=c):e2 l a d L I n:=by obtain⟨i,f,m,g,j⟩:=h;exact⟨i,f,m,g.afG k e,j⟩
theorem e2.push{g:N}{p:aD}{a d:Nat}(e:n.es.length=f)(j:av l g b ((I,153,fZ (some ⟨a,0,none⟩) (f+1) d n)::[(a,113,z)]) [] (λ_=>True)) (k:er 113 147 (f+1) (cq (λc=>dc p (n.es.getD c j1)) f++(dc p h).toList) (some ⟨a,0,none⟩) d [(a,113,z)]):e2 l g p b I {n with es:=n.es++[h]}:=by
 have i:(n.es++[h]).length=f+1:=by simp[e]
 refine⟨some ⟨a,0,none⟩,d,[(a,113,z)],?_,?_⟩
 .rw[i];exact j
 .rw[i,mE,od (b:=λc=>dc p (n.es.getD c j1)) λc m=>by rw[b9,eE Z,<-b9]];have:(n.es++[h]).getD f j1=h:=by rw[b9,db Z,e];simp
  simp only[this];exact k
theorem o6(b:z.all (·.oneCell')=true):∀a∈z.toList,a.oneCell'=true:=by rw[kw]at b;exact λa c=>b a (by simpa using c)
theorem afH(a:cA):a.flush.b1=a.b1/\a.flush.link=a.link/\a.flush.ed=a.ed:=by unfold cA.flush cA.show;split<;>exact⟨rfl,rfl,rfl⟩
theorem Se(a:k:=by
 have zl:fh.link=e.link:=by rw[<-u];exact(afH _).2.1
 have zu:=Y u;have zp:=Y (show -1<=fh.link/\fh.link<=1000000 by rw[zl];exact zc);clear u zl;rw[zd];clear zd;clear zc;obtain⟨p,s,zQ,b,zh⟩:=H;refine aG e.es.length λf zi=>?_;have q:=Y zi;rw[zi]at b zh W;have zz:=Y zh;have i:=Y W;have zx:=Y zf;have zA:=Y ze;clear zh zf ze zi W;go_in;go_wp2_with(first|(refine b.aI _ (c4 g a) ?_;clear b;intro zE zR b)|(refine b.cp 0 (ay g) (cH _) ?_ (o:=by exact Sc))|(refine b.cp 0 (a1 a.head) (cX _) ?_ (o:=by exact H5))|(refine fU (T:=113) (dc g ⟨0,0,0,0,0,0,a.head⟩) ?_)|(refine b.aH (dc b6 j1) H3 ?_;clear b;intro zK zT b)|(refine b.aN 0 (dc g ⟨0,0,0,0,0,0,a.head⟩) (vY _ _) (x4 _ _) ?_ (s:=by rw[lj,lj]);clear b;intro zO b))
 refine Sf ?_;clear b;intro x I O D b;clear b;intro zX b;refine ax ?_;clear x I O D;have zJ:=b.ah 2 0;have zC:=b.ah 0 2;have zt:=b.ah 2 2;go_wp2_with fail
 clear zJ zC zt;have zv:=b.ah 2 0;refine H6 ?_;clear b;intro b j h;refine e' underlying108 (dc g ⟨a.first,a.last,a.head.t,e.b1,-1,0,a.head⟩) rfl rfl ar ?_;refine ri ?_;clear b;intro F Q r B C b;clear h j zv;simp only[az];refine el λj h=>?_;refine av.fR [(F,113,dc g ⟨a.first,a.last,a.head.t,e.b1,-1,0,a.head⟩),(zK,113,dc g ⟨a.first,a.last,a.head.t,e.b1,-1,0,a.head⟩),(zE,158,c4 g a),(o,153,fZ p f s e)] b zz.out (dc b6 j1) 264 underlying108 Sb (lj _ _) R (r:=1) (aF.ai (C:=147) (e:=1) r (by rw[lj])) (o6 (x4 _ _)) H7 hG Z ?_;refine sN ?_;clear b r B C h j;intro l k K E n b;refine b.h0 3 (.slice (ab l) (f+1) k) (fZ (some ⟨l,0,none⟩) (f+1) k e) ?_ (e:=0);clear b;intro zP b;refine ax ?_;have ak:=e2.push (p:=g) (n:=e) (h:=⟨a.first,a.last,a.head.t,e.b1,-1,0,a.head⟩) q.out (b.drop 3) n;clear b n;obtain⟨zr,G,zo,ak⟩:=ak.at;have zq:({e with es:=e.es++[e1.mk a.first a.last a.head.t e.b1 (-1) 0 a.head]}:cA).waiting=true->∃d:Nat,({e with es:=e.es++[e1.mk a.first a.last a.head.t e.b1 (-1) 0 a.head]}:cA).b1=(d:Int)/\d<({e with es:=e.es++[e1.mk a.first a.last a.head.t e.b1 (-1) 0 a.head]}:cA).es.length:=λzI=>by obtain⟨d,zs,zW⟩:=zx.out zI;exact⟨d,zs,by simp only[aZ];omega⟩
 go_wp2_with fail
 refine(Sa _ G g o _ ak zq zA.out Sg).mono ?_;clear ak zq;rintro P zL ⟨rfl,ak⟩;replace ak:=ak.back zr zo;clear zr zo;rw[zu.out]at ak;obtain⟨y,z,zm,b,zk⟩:=ak;refine aG fh.es.length λt zb=>?_;have zj:=Y zb;rw[zb]at b zk;clear zb;have zS:=zp.out.1;have zU:=zp.out.2;refine aG (max 0 (fh.link-1)) λL za=>?_;refine aG (fh.link-1) λJ zH=>?_;rw[zH]at za;have zB:=Y za;have zG:=Y (show(if J>0 then J else 0)=L by rw[<-za];split<;>omega);clear za;have x:=b.ah 0 2;go_wp2_with(first|(refine b.a6 0 (X fh.b1) (fZ y t z {fh with ed:=fh.b1}) ?_ (d:=1);clear b;intro zY b;clear x)|(refine b.a6 0 (X f) (fZ y t z {fh with ed:=fh.b1,b1:=(f:Int)}) ?_ (d:=2);clear b;intro zM b)|(refine b.a6 0 (.bool true) (fZ y t z {fh with ed:=fh.b1,b1:=(f:Int),waiting:=true}) ?_ (d:=3);clear b;intro zV b;have I:=b.ah 0 4)|(refine lL 0 J L zG.out rfl rfl rfl rfl ?_)|(refine b.a6 0 (X L) (fZ y t z {fh with ed:=fh.b1,b1:=(f:Int),waiting:=true,link:=L}) ?_ (d:=4);clear b;intro zN b))
 refine jw (jW rfl _ _ _) rfl ⟨rfl,y,z,zm,?_,?_⟩
 .show av A c _ ((o,153,fZ y fh.es.length z {fh with ed:=fh.b1,b1:=(e.es.length:Int),waiting:=true,link:=max 0 J})::zm) [] _;rw[zj.out,q.out,zB.out];exact b
 .show er _ _ fh.es.length (cq _ fh.es.length) _ _ _;rw[zj.out];exact zk):k:=a
theorem afI(A:af)(g:aD)(o:Nat)(e:cA)(a:fA)(H:e2 A c g c o e)(zf:e.waiting=true->∃d:Nat,e.b1=(d:Int)/\d<e.es.length)(ze:0<=e.shown/\e.shown<=1000000)(W:e.es.length<=100000)(zc:-1<=e.link/\e.link<=1000000)(zw:(a.head.t==3)=false)(zn:(a.head.t==2)=false):Calls prog 68 #[ab o,c4 g a] c λP zF=>P=.returned (.tuple #[])/\e2 A c g zF o (e.frame a):=by
 refine aG (cA.flush {e with es:=e.es++[e1.mk a.first a.last a.head.t e.b1 (-1) 0 a.head]}) λfh u=>?_;have zd:e.frame a={fh with ed:=fh.b1,b1:=e.es.length,waiting:=true,link:=max 0 (fh.link-1)}:=by unfold cA.frame;rw[M (by simpa using zw),M (by simp only[sd]at zn;exact λH=>zn H.1),<-u]
 exact Se
theorem afJ(A:af)(g:aD)(o:Nat)(e:cA)(a:fA)(H:e2 A c g c o e)(zf:e.waiting=true->∃d:Nat,e.b1=(d:Int)/\d<e.es.length)(ze:0<=e.shown/\e.shown<=1000000)(W:e.es.length<=100000)(zc:-1<=e.link/\e.link<=1000000)(zn:(a.head.t==3)=false)(zF:(a.head.t==2)=true)(t:(e.b1==-1)=false):Calls prog 68 #[ab o,c4 g a] c λP zw=>P=.returned (.tuple #[])/\e2 A c g zw o (e.frame a):=by
 refine aG (cA.flush {e with es:=e.es++[e1.mk a.first a.last a.head.t e.b1 (-1) 0 a.head]}) λfh u=>?_;have zd:e.frame a={fh with ed:=fh.b1,b1:=e.es.length,waiting:=true,link:=max 0 (fh.link-1)}:=by unfold cA.frame;rw[M (by simpa using zn),M (by simp only[sd]at t;exact λH=>t H.2),<-u]
 exact Se
theorem afK(W:af)(g:aD)(m:Nat)(e:cA)(a:fA)(f:e2 W c g c m e)(zu:e.waiting=true->∃d:Nat,e.b1=(d:Int)/\d<e.es.length)(zr:0<=e.shown/\e.shown<=1000000)(za:e.es.length<=100000)(zi:(a.head.t==3)=true)(H:e.link=0)(P:(e.ed==-1)=false)(J:(e.b1==-1)=false):Calls prog 68 #[ab m,c4 g a] c λp zt=>p=.returned (.tuple #[])/\e2 W c g zt m (e.frame a):=by
 have zl:e.frame a=cA.show {e with es:=e.es++[e1.mk a.first a.last a.head.t e.ed e.b1 0 a.head]} (e.es.length:Int):=by
  unfold cA.frame;rw[ae (by simpa using zi),M];simp only[sd]at P J;rintro(f|f|f)
  .exact f H
  .exact P f
  .exact J f
 rw[zl];have zq:=Y H;obtain⟨zh,zj,zI,b,t⟩:=f;refine aG e.es.length λs zd=>?_;have q:=Y zd;rw[zd]at b t za;have zm:=Y t;have i:=Y za;have zB:=Y zu;have zn:=Y zr;go_in;go_wp2_with(first|(refine b.aI _ (c4 g a) ?_;intro zs zK b)|(refine b.cp 0 (ay g) (cH _) ?_ (o:=by exact Sc))|(refine b.cp 0 (a1 a.head) (cX _) ?_ (o:=by exact H5))|(refine fU (T:=113) (dc g ⟨0,0,0,0,0,0,a.head⟩) ?_)|(refine b.aH (dc b6 j1) H3 ?_;intro o zL b)|(refine b.aN 0 (dc g ⟨0,0,0,0,0,0,a.head⟩) (vY _ _) (x4 _ _) ?_ (s:=by rw[lj,lj]);intro zz b))
 refine Sf ?_;clear b;intro x I O D b;intro zP b;refine ax ?_;have zb:=b.ah 2 0;have zJ:=b.ah 0 2;have zx:=b.ah 2 2;have zH:=b.ah 2 1;have k:=b.cl 2 4 (v:=X 0) (g:=by exact aX (λt=>some (Value.int .i64 t)) zq.out);go_wp2_with fail
 have zc:m≠o:=λp=>by have:=b.h.d;simp[p]at this
 have D:=b.ah 2 1;have zb:=b.ah 2 2;have zk:=oa (C:=[o]) D (nn zc);have ze:=oa (C:=[o]) zb (nn zc);replace b:=b.bd;refine ly (aM:=bA [o]) [] (.inr rfl) [0,1,2,3,4,5,6,7,8,9,110,11,12,113] ?_;iterate 10 (first|(refine rK rfl ?_;simp only[az])|(refine mf (.inl rfl) rfl rfl rfl ?_;simp only[az])|(refine qB ?_ rfl rfl rfl (λu j h=>?_) ?_;rotate_left;(focus ((go_wp2_with fail)<;>exact h.out));simp only[az])|(refine mg ?_ rfl rfl rfl (λu L zF j h=>?_) ?_;rotate_left;(focus ((have zA:=zk u L;have zN:=ze u L;go_wp2_with fail)<;>exact h.out));simp only[az]))
 refine gn λj h=>?_;refine eI (X e.ed) rfl rfl rfl rfl (b.ai 0 rfl) (Sd R) rfl rfl ?_;intro zC z A zM;rw[afD]at z;replace b:=b.bk 0 z A;refine h _ _ A ?_;refine ax ?_;refine gn λj h=>?_;refine eI (X e.b1) rfl rfl rfl rfl (b.ai 0 rfl) (Sd R) rfl rfl ?_;intro zE G y zO;rw[afE]at G;replace b:=b.bk 0 G y;refine h _ _ y ?_;refine ax ?_;go_wp2_with fail
 have zf:=b.ah 2 0;refine H6 ?_;clear b;intro b j h;refine e' underlying108 (dc g ⟨a.first,a.last,a.head.t,e.ed,e.b1,0,a.head⟩) rfl rfl ar ?_;refine ri ?_;clear b;intro F Q r B C b;clear h j zf;simp only[az];refine el λj h=>?_;refine av.fR [(F,113,dc g ⟨a.first,a.last,a.head.t,e.ed,e.b1,0,a.head⟩),(o,113,dc g ⟨a.first,a.last,a.head.t,e.ed,e.b1,0,a.head⟩),(zs,158,c4 g a),(m,153,fZ zh s zj e)] b zm.out (dc b6 j1) 264 underlying108 Sb (lj _ _) R (r:=1) (aF.ai (C:=147) (e:=1) r (by rw[lj])) (o6 (x4 _ _)) H7 hG Z ?_;refine sN ?_;clear b r B C h j;intro l k K E n b;refine b.h0 3 (.slice (ab l) (s+1) k) (fZ (some ⟨l,0,none⟩) (s+1) k e) ?_ (e:=0);intro zG b;refine ax ?_;have ak:=e2.push (p:=g) (n:=e) (h:=⟨a.first,a.last,a.head.t,e.ed,e.b1,0,a.head⟩) q.out (b.drop 3) n;obtain⟨zv,zo,zp,ak⟩:=ak.at;go_wp2_with fail
 refine(R' _ zo g m _ s ak (by have:=q.out;simp only[aZ,cz,dv];omega) zn.out Sg).mono ?_;rintro p zw ⟨rfl,ak⟩;replace ak:=ak.back zv zp;go_wp2_with fail
 refine xT rfl ⟨rfl,?_⟩;rw[q.out];exact ak
def oy(a:Option Nat):Fence:={Fence.wide with round:=a}
theorem afL{c:FuncId}{a:rD}(d:Calls j c F b a):CallsIn (oy B) f j c F b a:=callsIn_wide.2 d
theorem afM{row:String}{a:Value->World->Prop}(e:Rows j row F b a):RowsIn (oy B) f j row F b a:=λd g _=>let⟨v,h,c,i⟩:=e d g;⟨v,h,c,stepsIn_wide.2 i⟩
def sO(a:Qax):Bool:=match a.op with
 |.defer _=>true
 |_=>false
theorem H8{f:Option Nat}{d:Qav}{j:Nat}{g:Qak}{k:Qaa}{l:Qal}(o:¬LetsOut k):∀(h:Qal),h.all (λq=> !sO q)=true->∀a c,wpList d g (Exit.then (wpListIn (oy f) j d g k l) k) h a c->wpListIn (oy f) j d g k (h++l) a c
 |[],_,a,c,i=>i
 |q::h,ak,a,c,i=>by
  simp only[yQ,dB,x5]at ak;have e:=H8 (f:=f) (d:=d) (j:=j) (g:=g) (l:=l) o h (by simpa using ak.2);unfold wpList at i;show wpListIn (oy f) j d g k (q::(h++l)) a c;unfold wpListIn;by_cases p:cB q g a
  .rw[ae p]at i⊢;rcases i with i|⟨_,m,n,i⟩
   .refine⟨λ_ _=>trivial,?_⟩;have x:q.semAt (oy f).round a.eval=execOp a.eval q:=Oper.semAt_eq _ _ _ λt s=>by have:=ak.1;unfold sO at this;rw[s]at this;cases this
    rw[x];unfold Oper.wp at i;generalize (execOp a.eval q).run d c=y at i⊢;have r:((oy f).depth.isSome=true->1<=j):=λi=>l';cases y with
    |ok cf u=>
     cases cf with
     |value v=>exact e _ _ i
     |skip=>exact e _ _ i
     |defer B=>exact e _ _ i
     |enter C F=>
      refine⟨r,afL (Calls.mono i ?_)⟩;intro w A b;cases w with
      |returned v=>exact e _ _ b
      |panicked t=>exact b
      |outgrown=>obtain⟨m,n,b⟩:=b;exact⟨m,n,b⟩
     |row row F=>exact⟨r,afM (i.mono λv A b=>e _ _ b)⟩
     |_=>exact i.elim
    |halt z u=>cases z<;>first|exact i|exact i.elim
   .exact absurd ⟨m,n,i⟩ o
  .rw[M p]at i⊢;exact⟨λ_ _=>trivial,e _ _ i⟩
theorem afN(b:Nat){a:Qal}{d:Act}{c:N}(e:¬LetsOut i)(ak:(a.take b).all (λh=> !sO h)=true)(g:wpList j r (Exit.then (wpListIn (oy B) f j r i (a.drop b)) i) (a.take b) d c):wpListIn (oy B) f j r i a d c:=by have:=H8 e (a.take b) ak d c g;rwa[AN]at this
theorem Sh(a:¬LetsOut i)(ak:o.all (λg=> !sO g)=true)(c:wpList j o.toArray i o e b):(Code.region id o.toArray false).wpIn (oy B) f j i e b:=by
 refine wpIn_region_lit ?_;have d:Exit.then (wpListIn (oy B) f j o.toArray i []) i=i:=by funext K e b;cases K<;>rfl
 have:=H8 (f:=B) (j:=f) (l:=[]) a o ak e b (by rw[d];exact c);rwa[eG]at this
theorem ol(a:¬LetsOut i)(ak:o.all (λd=> !sO d)=true)(c:wpList j o.toArray i o e b):(Code.region id o.toArray false).wpIn Fence.wide f j i e b:=Sh (B:=none) a ak c
theorem o7{a:Nat}(c:¬LetsOut i)(ak:o.all (λg=> !sO g)=true)(d:wpList j o.toArray i o e b):(Code.region id o.toArray false).wpIn (Fence.wide.inRound a) f j i e b:=Sh (B:=some a) c ak d
theorem afO(b:Nat){a:Qal}{d:Act}{c:N}(e:¬LetsOut i)(ak:(a.take b).all (λh=> !sO h)=true)(g:wpList j r (Exit.then (wpListIn Fence.wide f j r i (a.drop b)) i) (a.take b) d c):wpListIn Fence.wide f j r i a d c:=afN (B:=none) b e ak g
theorem Si:kz 5 (.int .u8 0) 1 1:=k7
theorem Sj(a:Nat):madeCells (Value.cells (.int .u8 0)) (a*1)=(aC (List.replicate a 0)).toArray:=by rw[tb _ rfl];simp[aC]
def sP:aq:=dl 16 16 0 0 0
def Sk(a:aq)(e:N)(f:Ending)(g:N):Prop:=∃c d b,f=.returned (al a (bb a c d b))/\hW a e c d b g
theorem vf(a d b:Nat)(c:bj a->bj d->bj b->k:=by
 intro r o q;refine x6 18 ?_;clear a f;intro f a;refine fU (T:=71) (al sP (bb sP m l k)) ?_;refine a _ _ (λ_=>g) ?_;clear a f;try simp only[az]
 refine H9 19 λf a=>?_;refine cv (Q:=al sP (bb sP m l k)) aB (b.ai 3 rfl) rfl (bo _ _) rfl rfl rfl rfl ?_;intro za j e aQ;replace b:=b.bk 3 j e;refine a _ _ (λh=>absurd U h) ?_;clear a f j e aQ g;try simp only[az]
 refine tC bm ?_ _;go_wp2_with fail
 exact bB (eH rfl aB (b.ai 3 rfl) rfl) ⟨m,l,k,rfl,b.ai r rfl,b.ai o rfl,b.ai q rfl,b.aa,(b.n (m,_,_) (bS (i:=r) rfl)).resolve_left U,(b.n (l,_,_) (bS (i:=o) rfl)).resolve_left U,(b.n (k,_,_) (bS (i:=q) rfl)).resolve_left U,b.ne r o rfl rfl R,b.ne r q rfl rfl R,b.ne o q rfl rfl R⟩):k:=c ⟨⟩ ⟨⟩ ⟨⟩
theorem afP(a:Nat)(c:y)(b:bj a->y->k:=by intro t F;refine q5 _ _ _ 5 (.int .u8 0) (aC (List.replicate t 0)).toArray 1 1 t underlying57 Si (Sj t) R R ?_;intro n j e;replace b:=b.aP j e (a' _);replace g:=g.ad e;clear j e;revert n b g;exact F):k:=b ⟨⟩ c
theorem vg(a c:Nat)(d:y)(b:bj a->bj c->y->k:=by
 intro z s y;refine a _ _ (λ_=>g) ?_;try simp only[az]
 refine tD (a:=z) bm rfl λf a=>?_;refine q5 _ _ _ 5 (.int .u8 0) (aC (List.replicate s 0)).toArray 1 1 s underlying57 Si (Sj s) R R ?_;intro u j e;replace b:=b.aP j e (a' _);replace g:=g.ad e;clear j e;revert f a u b g;exact y):k:=b ⟨⟩ ⟨⟩ d
theorem p4(a c:Nat)(d:y)(b:bj a->bj c->y->k:=by intro J D E;refine nN (l:=J) rfl λf a=>?_;refine afP D ?_;intro n b g;revert f a n b g;exact E):k:=b ⟨⟩ ⟨⟩ d
theorem afQ:Calls prog 43 #[X 16,X 16] c (Sk sP c):=by
 have b:=ao.nil [] c;go_in;go_wp2_with(refine b.aH eh bY ?_;clear b;intro P p b)
 replace b:=b.bd;have g:=V.refl [] p.drew;refine Au [0,1,2,3,4,6,7,8,9,10,12,13,14,15,16] [19] 5 ar ar ar ar rfl ?_;simp only[ga,nth,Nat.reduceMod,Nat.reduceDiv,cz,dv,c'];refine ax ?_;refine jt 5 [11,17] bm (bf.2 ⟨?_,bf.2 ⟨?_,bf.2 ⟨?_,λ_ h=>absurd h (eC)⟩⟩⟩)
 .refine p4 5 256 ?_;clear b g;intro f a n b g;generalize p.drew.heap.size=m at b⊢;refine vh ?_;clear a f;refine jt 11 [17] bm (bf.2 ⟨?_,bf.2 ⟨?_,λ_ h=>absurd h (eC)⟩⟩)
  .refine p4 11 64 ?_;clear b g;intro f a K b g;generalize n.heap.size=l at b⊢;refine vg 17 64 ?_;clear a f b g;intro f a u b g;generalize K.heap.size=k at b⊢;exact vf 2 1 0
  .refine p4 17 64 ?_;clear b g;intro f a B b g;generalize n.heap.size=k at b⊢;refine vg 11 64 ?_;clear a f b g;intro f a Q b g;generalize B.heap.size=l at b⊢;exact vf 2 0 1
 .refine p4 11 64 ?_;clear b g;intro f a x b g;generalize p.drew.heap.size=l at b⊢;refine vh ?_;clear a f;refine jt 5 [17] bm (bf.2 ⟨?_,bf.2 ⟨?_,λ_ h=>absurd h (eC)⟩⟩)
  .refine p4 5 256 ?_;clear b g;intro f a C b g;generalize x.heap.size=m at b⊢;refine vg 17 64 ?_;clear a f b g;intro f a zb b g;generalize C.heap.size=k at b⊢;exact vf 1 2 0
  .refine p4 17 64 ?_;clear b g;intro f a H b g;generalize x.heap.size=k at b⊢;refine vg 5 256 ?_;clear a f b g;intro f a W b g;generalize H.heap.size=m at b⊢;exact vf 0 2 1
 .refine p4 17 64 ?_;clear b g;intro f a w b g;generalize p.drew.heap.size=k at b⊢;refine vh ?_;clear a f;refine jt 5 [11] bm (bf.2 ⟨?_,bf.2 ⟨?_,λ_ h=>absurd h (eC)⟩⟩)
  .refine p4 5 256 ?_;clear b g;intro f a G b g;generalize w.heap.size=m at b⊢;refine vg 11 64 ?_;clear a f b g;intro f a O b g;generalize G.heap.size=l at b⊢;exact vf 1 0 2
  .refine p4 11 64 ?_;clear b g;intro f a I b g;generalize w.heap.size=l at b⊢;refine vg 5 256 ?_;clear a f b g;intro f a L b g;generalize I.heap.size=m at b⊢;exact vf 0 1 2
def jH(a b:Nat):af:=List.replicate a 128++List.replicate (b-a) 0
theorem H'(c:d<f):(aC (jH d f)).toArray.setIfInBounds d (.int .u8 128)=(aC (jH (d+1) f)).toArray:=by rw[cb];congr 1;unfold jH aC;obtain⟨a,b⟩:∃a,f-d=a+1:=⟨f-d-1,Z⟩;rw[b,show f-(d+1)=a from Z,r4,hf,hf,List.set_append,M U,ju,hy,lF,cj,cK,List.replicate_succ',hf,b5];rfl
theorem Ia(a:d<=f):(aC (jH d f)).toArray.size=f:=by unfold jH aC;simp;omega
theorem Sl:jH 0 f=List.replicate f 0:=by unfold jH;simp
theorem Sm:jH f f=List.replicate f 128:=by unfold jH;simp
def bZ:aq:=dl 16 16 128 128 128
theorem afR:Calls prog 17 #[X 16,X 16,.int .u8 128,.int .u8 128,.int .u8 128] c (Sk bZ c):=by
 have b:=ao.nil [] c;go_in;go_wp2_with(refine b.aH eh bY ?_;intro o J b)
 refine(afQ _).mono ?_;rintro K E ⟨f,a,e,rfl,D⟩;replace b:=b.kE D;refine aG (al sP (bb sP f a e)) λA w=>?_;have z:A=#[.int .i64 16,.int .i64 16,.slice (ab f) 256 256,.slice (ab a) 64 64,.slice (ab e) 64 64]:=by rw[<-w];rfl
 rw[w,z];have b:ao [] c E [(f,5,(aC (jH 0 256)).toArray),(a,5,(aC (jH 0 64)).toArray),(e,5,(aC (jH 0 64)).toArray),(o,71,eh)]:=by rw[Sl,Sl];exact b
 go_wp2_with(first|(refine b.aH eh bY ?_;intro p P b)|(refine b.aN 0 (#[X 16,X 16,.slice (ab f) 256 256,.slice (ab a) 64 64,.slice (ab e) 64 64]) aB fy ?_;intro Q b))
 go_loopw [12] (λg wr=>∃d:Nat,d<=256/\g=X d/\Hid (ao [] c wr [(p,71,#[X 16,X 16,.slice (ab f) 256 256,.slice (ab a) 64 64,.slice (ab e) 64 64]),(f,5,(aC (jH d 256)).toArray),(a,5,(aC (jH 0 64)).toArray),(e,5,(aC (jH 0 64)).toArray),(o,71,eh)])) (λg _=>256-(intOf g).toNat)
 .exact⟨0,Z,rfl,Y b⟩
 .obtain⟨d,B,rfl,n⟩:=hrel;have b:=n.out;have q:=b.ah 0 2;by_cases t:d<256
  .have x:(d:Int)<256:=Z;go_wp2_with(refine b.a6 1 (.int .u8 128) (aC (jH (d+1) 256)).toArray ?_ (d:=d) (s:=H' t) (t:=by rw[Ia B];exact t);clear b q;intro F b)
   exact sI
  .have x:¬((d:Int)<256):=Z;obtain rfl:d=256:=Z;go_wp2_with fail
   go_loopw [13] (λg wr=>∃d:Nat,d<=64/\g=X d/\Hid (ao [] c wr [(p,71,#[X 16,X 16,.slice (ab f) 256 256,.slice (ab a) 64 64,.slice (ab e) 64 64]),(f,5,(aC (jH 256 256)).toArray),(a,5,(aC (jH d 64)).toArray),(e,5,(aC (jH d 64)).toArray),(o,71,eh)])) (λg _=>64-(intOf g).toNat)
   .exact⟨0,Z,rfl,Y b⟩
   .obtain⟨d,u,rfl,n⟩:=hrel;have b:=n.out;have q:=b.ah 0 3;have C:=b.ah 0 4;by_cases l:d<64
    .have y:(d:Int)<64:=Z;go_wp2_with fail
     have r:p∉[a]:=by have s:=b.ne 0 2 rfl rfl R;simp only at s;simp[s]
     have I:=oa (C:=[a]) q r;have O:=oa (C:=[a]) C r;replace b:=b.bd;refine ly (aM:=bA [a]) [] (.inr rfl) [0,1,2,3,4,5,6,7,8,109,10,211] ?_;refine ax ?_;refine gn λm k=>?_;refine eI (.int .u8 128) rfl rfl rfl rfl (b.ai 2 rfl) (by rw[Ia u];exact l) rfl rfl ?_;intro G h j aQ;rw[H' l]at h;replace b:=b.bk 2 h j;refine k _ _ j ?_;clear k m h j aQ;refine ax ?_;refine el λm k=>?_;refine eI (.int .u8 128) rfl rfl rfl rfl (b.ai 3 rfl) (by rw[Ia u];exact l) rfl rfl ?_;intro L h j aQ;rw[H' l]at h;replace b:=b.bk 3 h j;refine k _ _ ?_;clear k m h j aQ;try simp only[az]
     refine ax ?_;go_wp2_with fail
     exact sI
    .have y:¬((d:Int)<64):=Z;obtain rfl:d=64:=Z;rw[Sm,Sm]at b;go_wp2_with(first|(refine b.ld 0 aB ?_)|(refine b.aN 4 (al bZ (bb bZ f a e)) aB (bo _ _) ?_;intro H b))
     exact bB (eH rfl aB (b.ai 4 rfl) rfl) ⟨f,a,e,rfl,b.ai 1 rfl,b.ai 2 rfl,b.ai 3 rfl,b.aa,(b.n (f,_,_) (bS (i:=1) rfl)).resolve_left U,(b.n (a,_,_) (bS (i:=2) rfl)).resolve_left U,(b.n (e,_,_) (bS (i:=3) rfl)).resolve_left U,b.ne 1 2 rfl rfl R,b.ne 1 3 rfl rfl R,b.ne 2 3 rfl rfl R⟩
