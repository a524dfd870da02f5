import Derived.Test.YtdmdbgabjcbjiaaGreatDoorA08
set_option maxHeartbeats 0
set_option maxRecDepth 100000
set_option linter.all false
namespace Go.Proofs.YtdmdbgabjcbjiaaGreatDoor
open Go.RowKit fD cr hs a7 _root_.Go.Proofs.Tryz
variable{d k:Qat}{b:Qak}{j:Qab}{g:Qai}{e:Qaj}{a:Act}{h:N}{i:Nat}{o p:Qau}(f:N)
theorem Qp(v:Int)(b:Nat)(m:1<=b)(n:b<=64):Calls prog 297 #[X v,X b] f λa l=>a=.returned (X (eP v b:Int))/\V [] f l:=by
 refine MG λc e d j i g h=>?_;clear e i;go_in;go_wp2_with(first|(refine lL v 0 c g.out rfl rfl rfl rfl ?_)|(refine A9 c d (eP v b:Int) h.out rfl rfl rfl rfl ?_))
 go_ret;exact⟨rfl,V.refl _ _⟩
theorem adq(f:prog.underlying d=some (.slice k))(g:(prog.info? k).map (·.size)=some 1)(c:N)(e h n a b:Nat)(p:b<=a)(o:0<a):(Instr.sliceAt d (.slice (some ⟨e,h,none⟩) n a) none (some (.int .i64 (b:Int))) none).run prog c=.ok (.slice (some ⟨e,h,none⟩) b a) c:=by exact Mv
theorem Qq{f:Qax}(z:prog.underlying d=some (.slice k))(u:(prog.info? k).map (·.size)=some 1){m n len c:Nat}(l:Nat)(t:l<=c)(y:0<c)(s:cB f b a)(x:f.op=.slice d o none (some p) none) (w:a.eval o=.slice (some ⟨m,n,none⟩) len c) (r:a.eval p=X l) (q:ba (bA []) prog b j i g e (a.put f.dst (.slice (some ⟨m,n,none⟩) l c)) h):ba (bA []) prog b j i ((f,0)::g) e a h:=by refine rL _ s (λA _=>?_) q;unfold execOp;simp only[x,hU,rW,w,r,eS,adq z u A m n len c l t y,gl];rfl
def eK(f:Qae)(e d c g:Nat)(b:aq)(a:aK):Qad:=#[.slice f e d,X c,X g,X (b.w:Int),X (b.h:Int),.slice a.a b.y.length a.cJ,.slice a.b b.u.length a.cT,.slice a.c b.v.length a.cm]
theorem ls:bT prog 401 8:=⟨_,underlying401,rfl,ar⟩
def cs(a b c:Int):Qad:=#[X a,X b,X c]
theorem dC:bT prog 405 3:=⟨_,underlying405,rfl,ar⟩
theorem kP:dJ 405 (.agg (cs 0 0 0)):=dM
theorem h2(a b c:Int):(cs a b c).all (·.oneCell')=true:=by simp[cs,Value.oneCell']
theorem Ck(e:Qae)(d b a f:Nat)(g:aq)(c:aK):(eK e d b a f g c).all (·.oneCell')=true:=by simp[eK,Value.oneCell']
structure mG(c:N)(h:Qae)(a:af)(f e i:Nat)(d:aq)(g:aK):Prop where
 rd:aF c h 1 a.length (aC a)
 adr:a.length<=f
 ads:∀v∈a,v<256
 oN:∃b,a.length=16*b/\1<=b/\b<=16
 adt:e<=64
 gy:i<=64
 cF:d.Ok
 Cl:aT c d g
theorem mG.ad{e i:N}{f:Qae}{j:af}{b c g:Nat}{h:aq}{d:aK}(a:mG e f j b c g h d)(k:V [] e i):mG i f j b c g h d:={a with rd:=a.rd.ad k,Cl:=a.Cl.ad k}
theorem Qr(zM:Qae)(zf:af)(P F D:Nat)(m:aq)(y:aK)(w t zQ:Int)(h:mG f zM zf P F D m y)(j:-63<=w/\w<=63/\-63<=t/\t<=63):Calls prog 296 #[eK zM zf.length P F D m y,bQ w t,X zQ] f λzaz zaM=>∃zs:Int,zaz=.returned (X zs)/\0<=zs/\zs<=65280/\V [] f zaM:=by
 obtain⟨G,zaK,zaZ,zbl⟩:=h.oN;refine aG zf.length λu zz=>?_;refine aG m.y.length λs zu=>?_;refine aG m.w λaO zB=>?_;refine aG m.h λk zy=>?_;have zal:=h.cF.gG;have zo:=h.cF.fH;have zaq:=h.cF.iY;have zl:=h.cF.fr;have z:=h.cF.d';have zbo:=h.adt;have zam:=h.gy;have zaG:=h.adr;have zF:=h.Cl.lG;have zX:0<m.y.length:=by rw[z];exact qs Z Z
 obtain⟨L,H,z',zJ⟩:=h.rd.plain Z R;obtain⟨p,l,zN,zI⟩:=h.Cl.y.plain zX R;have zat:=Y (show∀d,d<u->∃i:Nat,(∀g,V [] f g->g.cell? ⟨L,H+d,none⟩=some (.int .u8 (i:Int)))/\i<256 from λd zaP=>by obtain⟨v,j⟩:∃v,zf[d]? =some v:=⟨_,cu Z⟩;have Q:=zJ d (.int .u8 (v:Int)) (by simp[aC,j]);exact⟨v,λg n=>GC,h.ads v (bS j)⟩);have zd:=Y (show∀d,d<s->∃i:Nat,(∀g,V [] f g->g.cell? ⟨p,l+d,none⟩=some (.int .u8 (i:Int)))/\i<256 from λd zaP=>by obtain⟨v,j⟩:∃v,m.y[d]? =some v:=⟨_,cu Z⟩;have Q:=zI d (.int .u8 (v:Int)) (by simp[aC,j]);exact⟨v,λg n=>GC,h.cF.gy v (bS j)⟩);unfold eK;refine aG (Value.slice y.b m.u.length y.cT) λzp zV=>?_;obtain⟨a6,zT⟩:∃v,Value.slice y.c m.v.length y.cm=v:=⟨_,rfl⟩;refine aG y.cJ λzC zA=>?_;rw[z',zN,zz,zu,zB,zy,zV,zT,zA];rw[zu]at z zF zX;rw[zB]at zal zo z;rw[zy]at zaq zl z;rw[zA]at zF;rw[zz]at zaK zaG;have zL:=Y z;have za4:s<=64*64:=by rw[z];exact eL zo zl
 have zO:=Y λf v=>Qp f v k Z zl;have zP:=Y λf v=>Qp f v aO Z zo;refine aG (2*(F:Int)+w) λzj zbB=>?_;refine aG (2*(D:Int)+t) λzi zbp=>?_;refine aG (zi/2) λW zbj=>?_;refine aG ((zi+1)/2) λzc zbx=>?_;refine aG (zj/2) λzh zbt=>?_;refine aG ((zj+1)/2) λza zbw=>?_;have zbi:=j.1;have zaX:=j.2.1;have zaW:=j.2.2.1;have g':=j.2.2.2;have zbg:-200<=zj/\zj<=200:=Z;have zba:-200<=zi/\zi<=200:=Z;have zbC:-200<=W/\W<=200:=Z;have zbq:-200<=zc/\zc<=200:=Z;have zaV:-200<=zh/\zh<=200:=Z;have v10:-200<=za/\za<=200:=Z;have za0:(u:Int)/16=(G:Int):=Z;clear h j z' zJ zN zI zV zT zA zz zu zB zy z;have b:=ao.nil [] f;go_in;go_wp2_with(first|(refine b.aI _ (#[.slice (some ⟨L,H,none⟩) u P,X F,X D,X aO,X k,.slice (some ⟨p,l,none⟩) s zC,zp,a6]) ?_;clear b;intro zU zbh b)|(refine b.aI _ (#[X w,X t]) ?_;clear b;intro z8 zbr b;have zas:=b.ah 1 1;have zaR:=b.ah 0 0;have zav:=b.ah 1 2;have zaI:=b.ah 0 1;have zaQ:=b.ah 1 3;have E:=b.ah 1 0))
 clear zas zaR zav zaI zaQ E;have zao:=b.ah 1 1;have zaB:=b.ah 0 0;have zaD:=b.ah 1 2;refine GO 1 13 ?_;clear b;intro zar b;refine ax ?_;clear zao zaB zaD zar;have zaF:=b.ah 1 3;have zaC:=b.ah 1 0;go_wp2_with fail
 clear zaF zaC;go_loopw [38,10] (λr zq wr=>∃(e:Nat)(a:Int),e<=G/\r=X e/\zq=X a/\(0<=a/\a<=4080*(e:Int))/\Hid (ao [] f wr [(z8,225,#[X w,X t]),(zU,401,#[.slice (some ⟨L,H,none⟩) u P,X F,X D,X aO,X k,.slice (some ⟨p,l,none⟩) s zC,zp,a6])])) (λr _ _=>G-(intOf r).toNat)
 .exact GD
 .obtain⟨e,a,zbA,rfl,rfl,zk,zG⟩:=hrel;clear b;have b:=zG.out;clear zG;by_cases zbf:e<G
  .have zap:(e:Int)<(G:Int):=Z;refine aG (eP (W+(e:Int)) k) λzv zr=>?_;refine aG (eP (zc+(e:Int)) k) λzm zw=>?_;have zaA:zv<k:=by rw[<-zr];exact ue _ Z
   have zaw:zm<k:=by rw[<-zw];exact ue _ Z
   obtain⟨o,zn⟩:∃zE,zE=zv*aO:=⟨_,rfl⟩;obtain⟨q,zD⟩:∃zE,zE=zm*aO:=⟨_,rfl⟩;have zbs:(zv:Int)*(aO:Int)=(o:Int):=by rw[zn];push_cast;rfl
   have zbe:(zm:Int)*(aO:Int)=(q:Int):=by rw[zD];push_cast;rfl
   have zbn:o+aO<=s:=by rw[zn,zL.out,<-ia,eF aO k];exact ix _ zaA
   have zaY:q+aO<=s:=by rw[zD,zL.out,<-ia,eF aO k];exact ix _ zaw
   have zaJ:=Y λg=>by have:=zO.out g (W+(e:Int));rwa[zr]at this
   have zaE:=Y λg=>by have:=zO.out g (zc+(e:Int));rwa[zw]at this
   clear zr zw zn zD;go_wp2_with fail
   have ze:=b.ah 1 5;have K:=b.ah 1 4;refine xt 1 4 11 14 110 12 13 16 ?_;clear b;intro b;refine ax ?_;refine b.ec (zaJ.out _) ?_;clear b;intro za5 b;refine lv ?_;refine AX underlying57 jQ o (l+o) rfl Z Z rfl rfl rfl rfl ?_;simp only[az];refine Qq underlying57 jQ aO Z Z rfl rfl rfl rfl ?_;refine ax ?_;clear ze K;go_wp2_with fail
   have ze:=b.ah 1 5;have K:=b.ah 1 4;replace b:=b.bd;refine rg [] [0,1,2,3,4,5,6,7,8,9,10,12,15,111,13,14,16,17] ?_;refine ax ?_;refine b.ec (zaE.out _) ?_;clear b;intro za6 b;refine lv ?_;refine AX underlying57 jQ q (l+q) rfl Z Z rfl rfl rfl rfl ?_;simp only[az];refine Qq underlying57 jQ aO Z Z rfl rfl rfl rfl ?_;refine ax ?_;clear ze K;go_wp2_with fail
   go_loopw [74,10] (λr zq wr=>∃(c:Nat)(a:Int),c<=16/\r=X c/\zq=X a/\(0<=a/\a<=4080*(e:Int)+255*(c:Int))/\Hid (ao [] f wr [(z8,225,#[X w,X t]),(zU,401,#[.slice (some ⟨L,H,none⟩) u P,X F,X D,X aO,X k,.slice (some ⟨p,l,none⟩) s zC,zp,a6])])) (λr _ _=>16-(intOf r).toNat)
   .exact⟨0,a,Z,rfl,rfl,Z,Y b⟩
   .obtain⟨c,a,zbm,rfl,rfl,zk,zY⟩:=hrel;clear b;have b:=zY.out;clear zY;by_cases za2:c<16
    .have zax:(c:Int)<16:=Z;refine aG (eP (zh+(c:Int)) aO) λA zt=>?_;refine aG (eP (za+(c:Int)) aO) λi zx=>?_;have zbz:A<aO:=by rw[<-zt];exact ue _ Z
     have zbd:i<aO:=by rw[<-zx];exact ue _ Z
     have zau:=Y λg=>by have:=zP.out g (zh+(c:Int));rwa[zt]at this
     have zaT:=Y λg=>by have:=zP.out g (za+(c:Int));rwa[zx]at this
     clear zt zx;have zbv:(A:Int)<(aO:Int):=Z;have zbb:(i:Int)<(aO:Int):=Z;obtain⟨zW,zZ,zam⟩:=zd.out (o+A) Z;obtain⟨zR,z6,za7⟩:=zd.out (o+i) Z;obtain⟨z1,z7,ji⟩:=zd.out (q+A) Z;obtain⟨zK,zS,zbu⟩:=zd.out (q+i) Z;refine aG (((zW:Int)+(zR:Int)+(z1:Int)+(zK:Int)+2)/4) λB za9=>?_;have zbD:0<=B/\B<=255:=Z;obtain⟨x,zaN⟩:∃x,x=e*16+c:=⟨_,rfl⟩;have za8:(e:Int)*16+(c:Int)=(x:Int):=Z;have zay:x<u:=Z;have zbc:(x:Int)<(u:Int):=Z;obtain⟨I,zH,zbk⟩:=zat.out x zay;refine aG ((if -((I:Int)-B)>(I:Int)-B then -((I:Int)-B)else(I:Int)-B)) λzb C=>?_;have zaU:0<=zb/\zb<=255:=GF;have zaO:=Y C;have O:=Y (And.intro zZ (And.intro z6 (And.intro z7 (And.intro zS zH))));clear C zZ z6 z7 zS zH zaN;go_wp2_with fail
     refine b.aW (zau.out _) ?_;clear b;intro zby b;go_wp2_with fail
     refine b.aW (zaT.out _) ?_;clear b;intro J b;go_wp2_with fail
     have zaL:J.cell? ⟨p,l+o+A,none⟩=some (.int .u8 (zW:Int)):=by rw[gk];exact O.out.1 _ b.aa
     have zaS:J.cell? ⟨p,l+o+i,none⟩=some (.int .u8 (zR:Int)):=by rw[gk];exact O.out.2.1 _ b.aa
     have zaH:J.cell? ⟨p,l+q+A,none⟩=some (.int .u8 (z1:Int)):=by rw[gk];exact O.out.2.2.1 _ b.aa
     have K:J.cell? ⟨p,l+q+i,none⟩=some (.int .u8 (zK:Int)):=by rw[gk];exact O.out.2.2.2.1 _ b.aa
     replace b:=b.bd;refine rg [] [0,1,2,3,4,5,6,7,8,9,10,11,12,13,14,15,16,17,18,19,20,21,22,23,24,25] ?_;refine ax ?_;clear zaL zaS zaH K;have za3:=b.ah 1 0;have ze:J.drew.cell? ⟨L,H+x,none⟩=some (.int .u8 (I:Int)):=O.out.2.2.2.2 _ b.aa;go_wp2_with(refine lL _ _ zb zaO.out rfl rfl rfl rfl ?_)
     exact⟨⟨c+1,a+zb,Z,a8,a8,Z,Y b⟩,bF⟩
    .have zax:¬((c:Int)<16):=Z;obtain rfl:c=16:=Z;by_cases za1:a>=zQ
     .exact GG
     .go_wp2_with fail
      exact⟨⟨e+1,a,Z,a8,rfl,Z,Y b⟩,bF⟩
  .have zap:¬((e:Int)<(G:Int)):=Z;exact GG
theorem ra{c:Qax}{T:Qat}{parts:Array (Nat×Operand)}(f:Qad)(l:ba (bA []) prog b j i g e (a.put c.dst (f)) h)(s:c.op=.build T parts:=by rfl)(d:prog.built T (parts.map λ(m,p)=>(m,a.eval p)).toList=some f:=by kernel_rfl) (k:(match c.dst with|some n=>decide (n<a.tmps.size)|none=>false)=true:=by rfl) (q:jK c=true:=by rfl) (o:cB c b a:=by rfl):ba (bA []) prog b j i ((c,0)::g) e a h:=⟨f,cr.vX k q o λu _ _ t r=>q0 T parts s wa (by rw[d];exact r.out),l⟩
theorem Qs{q:Qal}{c:Qax}{i:N}{m:Qaa}{g p:Qau}{r:Array TypeId}(f e o:Int)(n:(if e>f then e else f)=o)(s:cB c b a)(l:c.op=.call {callee:=.builtin .max,args:=#[g,p],argTypes:=r})(k:a.eval g=X f)(h:a.eval p=X e) (d:wpList prog b m q (a.put c.dst (X o)) i):wpList prog b m (c::q) a i:=nf λt j=>by rw[ae s];exact Ew
theorem Qt(r:Qae)(p:af)(q n m:Nat)(s:aq)(i:aK)(O:mG f r p q n m s i)(b c d g e:Int)(l:-63<=b/\b<=63)(j:-63<=c/\c<=63)(k:0<=d/\d<=65280)(zo:-1000<=g/\g<=1000)(zp:-1000<=e/\e<=1000):Calls prog 316 #[eK r p.length q n m s i,cs b c d,X g,X e] f λE P=>∃u x z:Int,E=.returned (cs u x z)/\(-63<=u/\u<=63)/\(-63<=x/\x<=63)/\(0<=z/\z<=65280)/\V [] f P:=by
 refine aG ((if -g>g then -g else g)) λh D=>?_;refine aG ((if -e>e then -e else e)) λo B=>?_;have zm:-h<=g/\g<=h/\h<=1000:=by rw[<-D];split<;>omega
 have zi:-o<=e/\e<=o/\o<=1000:=by rw[<-B];split<;>omega
 have y:=Y D;have G:=Y B;have zc:=Y O;by_cases zk:h>63
 .have za:¬(h<=63):=Z;have a:=ao.nil [] f;go_in;go_wp2_with(first|(refine a.aI _ (eK r p.length q n m s i) ?_;intro F C a)|(refine a.aI _ (cs b c d) ?_;intro K J a)|(refine a.aH (cs 0 0 0) kP ?_;intro A H a)|(refine lL _ _ _ y.out rfl rfl rfl rfl ?_)|(apply dO;exact rfl;exact(a.ai 1 rfl);exact dC;exact rfl;exact rfl)|(refine a.aN 0 (cs b c d) dC (h2 _ _ _) ?_;intro I a))
  exact xB 0
 .by_cases zd:o>63
  .have Q:¬(o<=63):=Z;have a:=ao.nil [] f;go_in;go_wp2_with(first|(refine a.aI _ (eK r p.length q n m s i) ?_;intro F C a)|(refine a.aI _ (cs b c d) ?_;intro K J a)|(refine a.aH (cs 0 0 0) kP ?_;intro A H a)|(refine lL _ _ _ y.out rfl rfl rfl rfl ?_)|(refine Qs _ _ _ G.out rfl rfl rfl rfl ?_)|(refine a.ld 1 dC ?_)|(refine a.aN 0 (cs b c d) dC (h2 _ _ _) ?_;intro I a))
   exact xB 0
  .have za:h<=63:=Z;have Q:o<=63:=Z;have a:=ao.nil [] f;go_in;go_wp2_with(first|(refine a.aI _ (eK r p.length q n m s i) ?_;intro F C a)|(refine a.aI _ (cs b c d) ?_;intro K J a)|(refine a.aH (cs 0 0 0) kP ?_;intro A H a)|(refine lL _ _ _ y.out rfl rfl rfl rfl ?_)|(refine Qs _ _ _ G.out rfl rfl rfl rfl ?_)|(refine a.aH (bQ 0 0) sm ?_;intro zn I a)|(refine a.aN 0 (bQ g e) dI (lN _ _) ?_;intro ze a;have L:=a.ah 2 2)|(refine a.ld 3 ls ?_)|(refine a.ld 0 dI ?_))
   refine(Qr _ r p q n m s i g e d (zc.out.ad a.aa) Z).mono ?_;rintro E zf ⟨t,rfl,zq,zj,zb⟩;replace a:=a.aS zb;by_cases zl:t<d
   .clear L;have w:=a.ah 2 2;go_wp2_with(first|(refine a.ld 0 dI ?_)|(refine fU (T:=405) (cs g e t) ?_)|(refine a.aN 1 (cs g e t) dC (h2 _ _ _) ?_;intro W a;clear w))
    exact bB (eH rfl dC (a.ai 1 rfl) rfl) ⟨g,e,t,rfl,Z,Z,Z,a.aa⟩
   .clear L;have w:=a.ah 2 2;go_wp2_with(first|(refine a.ld 2 dC ?_)|(refine a.aN 1 (cs b c d) dC (h2 _ _ _) ?_;intro W a;clear w))
    exact xB 1
theorem G8(k:Qae)(i:af)(j h g:Nat)(l:aq)(e:aK)(s:mG f k i j h g l e)(c a:Int)(w:-63<=c/\c<=63)(x:-63<=a/\a<=63):Calls prog 295 #[eK k i.length j h g l e,bQ c a] f λr u=>∃n o p:Int,r=.returned (cs n o p)/\(-63<=n/\n<=63)/\(-63<=o/\o<=63)/\(0<=p/\p<=65280)/\V [] f u:=by
 have y:=Y s;have b:=ao.nil [] f;go_in;go_wp2_with(first|(refine b.aI _ (eK k i.length j h g l e) ?_;intro D C b)|(refine b.aI _ (bQ c a) ?_;intro H G b)|(refine b.aH (cs 0 0 0) kP ?_;intro A E b))
 replace b:=b.bd;refine rg [] [0,1,2,103,4,205] ?_;refine ax ?_;refine bN (Qr _ k i j h g l e c a 1073741824 (y.out.ad b.aa) Z) ?_;rintro r F ⟨m,rfl,z,t,q⟩;refine⟨_,rfl,q,?_⟩;simp only[az];replace b:=b.aS q;refine ra (cs c a m) ?_;simp only[az];refine b.dq 0 (cs c a m) dC (h2 _ _ _) ?_;intro B b;refine ax ?_;go_wp2_with fail
 exact bB (eH rfl dC (b.ai 0 rfl) rfl) ⟨c,a,m,rfl,w,x,⟨z,t⟩,b.aa⟩
theorem adu{c:Nat}(e:c<4):∃b d:Int,(-1<=b/\b<=1)/\(-1<=d/\d<=1)/\∀a,(Instr.index 432 (.agg #[X 1,X 0,X (-1),X 0,X 0,X 1,X 0,X (-1)]) (X c)).run prog a=.ok (.agg #[X b,X d]) a:=by
 match c,e with
 |0,_=>exact⟨1,0,Z,Z,λa=>ar⟩
 |1,_=>exact⟨-1,0,Z,Z,λa=>ar⟩
 |2,_=>exact⟨0,1,Z,Z,λa=>ar⟩
 |3,_=>exact⟨0,-1,Z,Z,λa=>ar⟩
theorem Qu(d f b a e c:Int)(g:N)(h:Bool)(j:(d==a&&(f==e&&b==c))=h):(binOp .eql 405 (cs d f b) (cs a e c)).run prog g=.ok (.bool h) g:=by subst j;unfold cs;go_simp;by_cases k:d=a<;>by_cases l:f=e<;>by_cases i:b=c<;>simp[k,l,i]
theorem adv(p:Qae)(o:af)(t s r:Nat)(u:aq)(x:aK)(W:mG f p o t s r u x)(w q:Int)(zj:-63<=w/\w<=63)(zn:-63<=q/\q<=63):Calls prog 315 #[.agg #[],eK p o.length t s r u x,bQ w q] f λB zO=>∃h g e:Int,B=.returned (cs h g e)/\(-63<=h/\h<=63)/\(-63<=g/\g<=63)/\(0<=e/\e<=65280)/\V [] f zO:=by
 have K:=Y W;clear W;have a:=ao.nil [] f;go_in;refine adw λzx zr zW zR zz zV=>?_;go_wp2_with(first|(clear zx;refine a.aI _ (#[]) ?_;clear a;intro O zaf a)|(clear zr;refine a.aI _ (eK p o.length t s r u x) ?_;clear a;intro zd zah a)|(clear zW;refine a.aI _ (bQ w q) ?_;clear a;intro D z6 a)|(clear zR;refine a.aH (cs 0 0 0) kP ?_;clear a;intro I zan a)|(clear zz;refine a.ld 2 ls ?_)|(clear zV;refine a.ld 1 dI ?_))
 refine(G8 _ p o t s r u x (K.out.ad a.aa) w q zj zn).mono ?_;rintro B z8 ⟨b,c,d,rfl,l,j,k,G⟩;replace a:=a.aS G;clear G;refine fE λzi zN=>?_;go_wp2_with(first|(clear zi;refine a.aH (cs 0 0 0) kP ?_;clear a;intro zc z' a)|(clear zN;refine a.aN 0 (cs b c d) dC (h2 _ _ _) ?_;clear a;intro zak a))
 skip;go_loopw [14] (λn wr=>∃(i:Nat)(b c d:Int),i<=16/\n=X i/\((-63<=b/\b<=63)/\(-63<=c/\c<=63)/\(0<=d/\d<=65280))/\Hid (ao [] f wr [(zc,405,cs b c d),(I,405,cs 0 0 0),(D,225,bQ w q),(zd,401,eK p o.length t s r u x),(O,410,#[])])) (λn _=>16-(intOf n).toNat)
 .exact Cm 0
 .clear l j k a;obtain⟨i,b,c,d,zal,rfl,⟨l,j,k⟩,H⟩:=hrel;have a:=H.out;clear H;by_cases zam:i<16
  .have zM:(i:Int)<16:=Z;refine nb λzB zq zy=>?_;go_wp2_with(first|(clear zB;refine a.ld 0 dC ?_)|(clear zq;refine a.aH (cs 0 0 0) kP ?_;clear a;intro zP zab a)|(clear zy;refine a.aN 0 (cs b c d) dC (h2 _ _ _) ?_;clear a;intro zae a))
   skip;go_loopw [22] (λn wr=>∃(m:Nat)(h g e:Int),m<=4/\n=X m/\((-63<=h/\h<=63)/\(-63<=g/\g<=63)/\(0<=e/\e<=65280))/\Hid (ao [] f wr [(zP,405,cs h g e),(zc,405,cs b c d),(I,405,cs 0 0 0),(D,225,bQ w q),(zd,401,eK p o.length t s r u x),(O,410,#[])])) (λn _=>4-(intOf n).toNat)
   .exact Cm 0
   .clear a;obtain⟨m,h,g,e,zag,rfl,⟨y,z,A⟩,Q⟩:=hrel;have a:=Q.out;clear Q;by_cases zo:m<4
    .have zu:(m:Int)<4:=Z;obtain⟨L,zb,zai,zaa,zac⟩:=adu zo;refine kD λzJ zm zk zK=>?_;go_wp2_with(first|(clear zJ;refine a.aH (bQ 0 0) sm ?_;clear a;intro zY zad a)|(clear zm;refine a.aN 0 (bQ L zb) dI (lN _ _) ?_;clear a;intro zX a;have zp:=a.ah 2 0;have zT:=a.ah 0 0;have zs:=a.ah 2 1;have zF:=a.ah 0 1)|(clear zk;refine a.ld 5 ls ?_)|(clear zK;refine a.ld 1 dC ?_))
     refine(Qt _ p o t s r u x (K.out.ad a.aa) h g e (b+L) (c+zb) y z A Z Z).mono ?_;rintro B zao ⟨J,E,ak,rfl,zI,zC,zw,F⟩;replace a:=a.aS F;clear F;clear zp zT zs zF;have ze:=trivial;go_wp2_with(clear ze;refine a.aN 1 (cs J E ak) dC (h2 _ _ _) ?_;clear a;intro zZ a)
     exact⟨⟨m+1,J,E,ak,Z,a8,⟨zI,zC,zw⟩,Y (a.drop 1)⟩,bF⟩
    .have zu:¬((m:Int)<4):=Z;obtain rfl:m=4:=Z;by_cases za:h=b/\g=c/\e=d
     .obtain⟨rfl,rfl,rfl⟩:=za;have zA:=λC=>Qu h g e h g e C true U;refine kD λzQ zD zf zv=>?_;go_wp2_with(first|(clear zQ;refine a.ld 0 dC ?_)|(clear zD;refine a.ld 1 dC ?_)|(clear zf;refine a.ld 1 dC ?_)|(clear zv;refine a.aN 2 (cs h g e) dC (h2 _ _ _) ?_;clear a;intro zaj a))
      exact bB (eH rfl dC (a.ai 2 rfl) rfl) ⟨h,g,e,rfl,y,z,A,a.aa⟩
     .have P:(h==b&&(g==c&&e==d))=false:=by simpa[and_assoc]using za
      have zA:=λC=>Qu h g e b c d C false P;clear P;refine kD λzt zE zU zG=>?_;go_wp2_with(first|(clear zt;refine a.ld 0 dC ?_)|(clear zE;refine a.ld 1 dC ?_)|(clear zU;refine a.ld 0 dC ?_)|(clear zG;refine a.aN 1 (cs h g e) dC (h2 _ _ _) ?_;clear a;intro z1 a))
      exact Qv 1
  .have zM:¬((i:Int)<16):=Z;obtain rfl:i=16:=Z;refine fE λzl zH=>?_;go_wp2_with(first|(clear zl;refine a.ld 0 dC ?_)|(clear zH;refine a.aN 1 (cs b c d) dC (h2 _ _ _) ?_;clear a;intro z7 a))
   exact xB 1
theorem adx(p:Qae)(o:af)(t s r:Nat)(u:aq)(x:aK)(zb:mG f p o t s r u x)(w q:Int)(zj:-63<=w/\w<=63)(zk:-63<=q/\q<=63):Calls prog 317 #[.agg #[],eK p o.length t s r u x,bQ w q] f λE zr=>∃i h m:Int,E=.returned (cs i h m)/\(-63<=i/\i<=63)/\(-63<=h/\h<=63)/\(0<=m/\m<=65280)/\V [] f zr:=by
 have O:=Y zb;clear zb;have a:=ao.nil [] f;go_in;go_wp2_with(first|(refine a.aI _ (#[]) ?_;clear a;intro G zG a)|(refine a.aI _ (eK p o.length t s r u x) ?_;clear a;intro I zH a)|(refine a.aI _ (bQ w q) ?_;clear a;intro D zw a)|(refine a.aH (cs 0 0 0) kP ?_;clear a;intro F zL a)|(refine a.ld 2 ls ?_)|(refine a.ld 1 dI ?_))
 refine(G8 _ p o t s r u x (O.out.ad a.aa) w q zj zk).mono ?_;rintro E zx ⟨b,c,d,rfl,l,j,k,K⟩;replace a:=a.aS K;clear K;go_wp2_with(first|(refine a.aH (cs 0 0 0) kP ?_;clear a;intro H zy a)|(refine a.aN 0 (cs b c d) dC (h2 _ _ _) ?_;clear a;intro zI a))
 go_loopw [8] (λg wr=>∃(e:Nat)(b c d:Int),e<=16/\g=X e/\((-63<=b/\b<=63)/\(-63<=c/\c<=63)/\(0<=d/\d<=65280))/\Hid (ao [] f wr [(H,405,cs b c d),(F,405,cs 0 0 0),(D,225,bQ w q),(I,401,eK p o.length t s r u x),(G,414,#[])])) (λg _=>(intOf g).toNat)
 .exact Cm 16
 .clear l j k a;obtain⟨e,b,c,d,zA,rfl,⟨l,j,k⟩,L⟩:=hrel;have a:=L.out;clear L;by_cases zK:0<e
  .have zq:(e:Int)>0:=Z;have zB:=And.intro l j;go_wp2_with(first|(refine a.cp 0 (#[X b,X c]) dI ?_)|(refine a.aH (bQ 0 0) sm ?_;clear a;intro ze zz a)|(refine a.aN 0 (#[X b,X c]) dI (lN _ _) ?_;clear a;intro zE a))
   go_loopw [10] (λg wr=>∃v i h m:Int,(-16<=v/\v<=32)/\g=X v/\((-63<=i/\i<=63)/\(-63<=h/\h<=63)/\(0<=m/\m<=65280))/\Hid (ao [] f wr [(ze,225,#[X b,X c]),(H,405,cs i h m),(F,405,cs 0 0 0),(D,225,bQ w q),(I,401,eK p o.length t s r u x),(G,414,#[])])) (λg _=>(64-intOf g).toNat)
   .exact⟨-(e:Int),b,c,d,Z,a8,⟨l,j,k⟩,Y a⟩
   .clear a k;obtain⟨v,i,h,m,zJ,rfl,⟨z,B,C⟩,za⟩:=hrel;have a:=za.out;clear za;by_cases aR:v<=(e:Int)
    .have zu:=aR;go_wp2_with fail
     go_loopw [11] (λg wr=>∃n A y ak:Int,(-16<=n/\n<=32)/\g=X n/\((-63<=A/\A<=63)/\(-63<=y/\y<=63)/\(0<=ak/\ak<=65280))/\Hid (ao [] f wr [(ze,225,#[X b,X c]),(H,405,cs A y ak),(F,405,cs 0 0 0),(D,225,bQ w q),(I,401,eK p o.length t s r u x),(G,414,#[])])) (λg _=>(64-intOf g).toNat)
     .exact⟨-(e:Int),i,h,m,Z,a8,⟨z,B,C⟩,Y a⟩
     .clear a z B C;obtain⟨n,A,y,ak,zC,rfl,⟨z,B,C⟩,J⟩:=hrel;have a:=J.out;clear J;by_cases Q:n<=(e:Int)
      .have zm:=Q;have zl:=a.ah 0 0;have zt:=a.ah 0 1;go_wp2_with(first|(refine a.ld 4 ls ?_)|(refine a.ld 1 dC ?_))
       refine(Qt _ p o t s r u x (O.out.ad a.aa) A y ak (b+n) (c+v) z B C Z Z).mono ?_;rintro E zD ⟨P,zd,zc,rfl,zp,zo,zn,W⟩;replace a:=a.aS W;clear W;clear zl zt;go_wp2_with(refine a.aN 1 (cs P zd zc) dC (h2 _ _ _) ?_;clear a;intro zv a)
       exact⟨⟨n+(e:Int),P,zd,zc,Z,a8,⟨zp,zo,zn⟩,Y a⟩,bF⟩
      .have zm:¬(n<=(e:Int)):=Q;go_wp2_with fail
       exact⟨⟨v+(e:Int),A,y,ak,Z,a8,⟨z,B,C⟩,Y a⟩,bF⟩
    .have zu:¬(v<=(e:Int)):=aR;obtain⟨zf,zi⟩:∃zs,zs=e/2:=⟨_,rfl⟩;have zF:(e:Int)/2=(zf:Int):=Z;clear zi;go_wp2_with fail
     exact⟨⟨zf,i,h,m,Z,a8,⟨z,B,C⟩,Y (a.drop 1)⟩,bF⟩
  .have zq:¬((e:Int)>0):=Z;go_wp2_with(first|(refine a.ld 0 dC ?_)|(refine a.aN 1 (cs b c d) dC (h2 _ _ _) ?_;clear a;intro zM a))
   exact xB 1
def Qw(d:N)(e:Ending)(f:N):Prop:=∃a c b:Int,e=.returned (cs a c b)/\(-63<=a/\a<=63)/\(-63<=c/\c<=63)/\(0<=b/\b<=65280)/\V [] d f
theorem ady(o:Nat)(r:o<2)(cf c:Int)(p:-63<=cf/\cf<=63)(q:-63<=c/\c<=63)(h:Qae)(m:af)(d e j:Nat)(l:aq)(f:aK):∃(T i:Nat)(g k:Int),(-63<=g/\g<=63)/\(-63<=k/\k<=63)/\(∀a,(Instr.index 415 (.agg #[.iface 410 (.agg #[]),X cf,X c,.iface 414 (.agg #[]),X 0,X 0]) (X o)).run prog a=.ok (.agg #[.iface T (.agg #[]),X g,X k]) a)/\(∀a,(method 535 T (.agg #[]) "cutroom/encoder.find").run prog a=.ok (i,.agg #[]) a)/\(∀args a,(callFunc i args).run prog a=.ok (.enter i args) a)/\∀b,mG b h m d e j l f->Calls prog i #[.agg #[],eK h m.length d e j l f,bQ g k] b (Qw b):=by
 match o,r with
 |0,_=>exact⟨410,315,cf,c,p,q,λa=>ar,λa=>ar,enters_of Tryz.func315 ar rfl,λb n=>adv b h m d e j l f n cf c p q⟩
 |1,_=>exact⟨414,317,0,0,Z,Z,λa=>ar,λa=>ar,enters_of Tryz.func317 ar rfl,λb n=>adx b h m d e j l f n 0 0 Z Z⟩
theorem Qx(aL:Qad)(a:aL.size=3):bT prog 413 aL.size:=by rw[a];exact⟨_,underlying413,rfl,ar⟩
theorem Qy(aL:Qad)(a:aL.size=6):bT prog 415 aL.size:=by rw[a];exact⟨_,underlying415,rfl,ar⟩
theorem Qz:dJ 413 (.agg #[.nilIface,X 0,X 0]):=dM
theorem adz:dJ 415 (.agg #[.nilIface,X 0,X 0,.nilIface,X 0,X 0]):=dM
theorem G9(o:Qae)(n:af)(r q p:Nat)(s:aq)(t:aK)(I:mG f o n r q p s t)(cf m:Int)(zb:-63<=cf/\cf<=63)(zh:-63<=m/\m<=63):Calls prog 291 #[eK o n.length r q p s t,bQ cf m] f (Qw f):=by
 have G:=Y I;clear I;have a:=ao.nil [] f;go_in;refine kD λzr zj zO zI=>?_;go_wp2_with(first|(clear zr;refine a.aI _ (eK o n.length r q p s t) ?_;clear a;intro zx zah a)|(clear zj;refine a.aI _ (bQ cf m) ?_;clear a;intro zM zai a)|(clear zO;refine a.aH (cs 0 0 0) kP ?_;clear a;intro O zX a)|(clear zI;refine a.ld 2 ls ?_))
 refine(G8 _ o n r q p s t (G.out.ad a.aa) 0 0 Z Z).mono ?_;rintro zo zan ⟨b,c,d,rfl,l,j,k,C⟩;replace a:=a.aS C;clear C;refine adA λzt zN za zF zu zi zs zB zf=>?_;go_wp2_with(first|(clear zt;refine a.aH (cs 0 0 0) kP ?_;clear a;intro zp z1 a)|(clear zN;refine a.aN 0 (cs b c d) dC (h2 _ _ _) ?_;clear a;intro z6 a)|(clear za;refine a.ld 2 dI ?_)|(clear zF;refine fU (T:=413) (#[.iface 410 (.agg #[]),X cf,X m]) ?_)|(clear zu;refine fU (T:=413) (#[.iface 414 (.agg #[]),X 0,X 0]) ?_)|(clear zi;refine fU (T:=415) (#[.iface 410 (.agg #[]),X cf,X m,.iface 414 (.agg #[]),X 0,X 0]) ?_)|(clear zs;refine a.aH (#[.nilIface,X 0,X 0,.nilIface,X 0,X 0]) adz ?_;clear a;intro zn zak a)|(clear zB;refine a.aN 0 (#[.iface 410 (.agg #[]),X cf,X m,.iface 414 (.agg #[]),X 0,X 0]) (Qy _ rfl) fy ?_;clear a;intro z7 a)|(clear zf;refine a.ld 0 (Qy _ rfl) ?_))
 go_loopw [23] (λu wr=>∃(i:Nat)(b c d:Int),i<=2/\u=X i/\((-63<=b/\b<=63)/\(-63<=c/\c<=63)/\(0<=d/\d<=65280))/\Hid (ao [] f wr [(zn,415,#[.iface 410 (.agg #[]),X cf,X m,.iface 414 (.agg #[]),X 0,X 0]),(zp,405,cs b c d),(O,405,cs 0 0 0),(zM,225,bQ cf m),(zx,401,eK o n.length r q p s t)])) (λu _=>2-(intOf u).toNat)
 .exact Cm 0
 .clear l j k a;obtain⟨i,b,c,d,zal,rfl,⟨l,j,k⟩,F⟩:=hrel;have a:=F.out;clear F;by_cases zK:i<2
  .have zE:(i:Int)<2:=Z;obtain⟨T,zaf,w,x,D,B,zab,zQ,zR,H⟩:=ady i zK cf m zb zh o n r q p s t;have zC:=Y H;clear H;by_cases L:d=0
   .obtain rfl:=L;refine kD λzc zD P zG=>?_;go_wp2_with(first|(clear zc;refine a.aH (#[.nilIface,X 0,X 0]) Qz ?_;clear a;intro z' zad a)|(clear zD;refine a.aN 0 (#[.iface T (.agg #[]),X w,X x]) (Qx _ rfl) fy ?_;clear a;intro zac a;have D:=a.ah 2 2)|(clear P;refine a.ld 2 dC ?_)|(clear zG;refine a.aN 3 (cs b c 0) dC (h2 _ _ _) ?_;clear a;intro zP a;clear D))
    refine bB (eH rfl dC (a.ai 3 rfl) rfl) ⟨b,c,0,rfl,l,j,k,a.aa⟩
   .have zY:(d==0)=false:=by simpa using L
    refine kD λzv Q zm zk=>?_;go_wp2_with(first|(clear zv;refine a.aH (#[.nilIface,X 0,X 0]) Qz ?_;clear a;intro zae zaq a)|(clear Q;refine a.aN 0 (#[.iface T (.agg #[]),X w,X x]) (Qx _ rfl) fy ?_;clear a;intro zU a;have B:=a.ah 2 2;have E:=a.ah 0 0)|(clear zm;refine a.ld 5 ls ?_)|(clear zk;refine a.cp 0 (#[X w,X x]) dI ?_))
    refine(zC.out _ (G.out.ad a.aa)).mono ?_;rintro zo zaj ⟨h,g,e,rfl,y,z,A,J⟩;replace a:=a.aS J;clear J;by_cases K:e<d
    .have zl:=K;clear B E;refine kD λzw zJ zy ze=>?_;go_wp2_with(first|(clear zw;refine a.aH (cs 0 0 0) kP ?_;clear a;intro z8 zW a)|(clear zJ;refine a.aN 0 (cs h g e) dC (h2 _ _ _) ?_;clear a;intro zZ a;have zz:=a.ah 0 2;have zH:=a.ah 3 2)|(clear zy;refine a.ld 0 dC ?_)|(clear ze;refine a.aN 3 (cs h g e) dC (h2 _ _ _) ?_;clear a;intro zV a;clear zz zH))
     exact Qv 2
    .have zl:=K;clear B E;refine fE λzA zd=>?_;go_wp2_with(first|(clear zA;refine a.aH (cs 0 0 0) kP ?_;clear a;intro zam zap a)|(clear zd;refine a.aN 0 (cs h g e) dC (h2 _ _ _) ?_;clear a;intro zaa a;have zag:=a.ah 0 2;have zT:=a.ah 3 2))
     exact⟨⟨i+1,b,c,d,Z,a8,⟨l,j,k⟩,Y (a.drop 2)⟩,bF⟩
  .have zE:¬((i:Int)<2):=Z;refine fE λW zq=>?_;go_wp2_with(first|(clear W;refine a.ld 1 dC ?_)|(clear zq;refine a.aN 2 (cs b c d) dC (h2 _ _ _) ?_;clear a;intro zao a))
   refine bB (eH rfl dC (a.ai 2 rfl) rfl) ⟨b,c,d,rfl,l,j,k,a.aa⟩
def qp(c f:Int)(b:Qae)(a d:Nat)(j:Qae)(g k:Nat)(e:Qae)(h i:Nat):Qad:=#[X c,X f,.slice b a d,.slice j g k,.slice e h i]
def G'(a b:Int)(c d e:Nat):Prop:=(2<=a/\a<=64/\a%2=0)/\(2<=b/\b<=64/\b%2=0)/\(c:Int)=a*b/\(d:Int)=a/2*(b/2)/\(e:Int)=a/2*(b/2)
def adB(c e:Int)(b f g:Nat)(d:N)(h:Ending)(i:N):Prop:=∃a,h=.returned (.bool a)/\(a=true->G' c e b f g)/\V [] d i
theorem QA{a b:Int}(d:0<=a/\a<=64)(c:0<=b/\b<=64):0<=a*b/\a*b<=4096:=⟨qF d.1 c.1,by have:=wm d.2 c.2 c.1 R;omega⟩
theorem adC(b a:Int)(n:Qae)(d i:Nat)(j:Qae)(e k:Nat)(o:Qae)(g m:Nat):Calls prog 78 #[qp b a n d i j e k o g m] f (adB b a d e g f):=by
 have c:=ao.nil [] f;go_in;have s:=trivial;go_wp2_with(clear s;refine c.aI _ (qp b a n d i j e k o g m) ?_;clear c;intro B y c;have H:=c.ah 0 0;have C:=c.ah 0 1;have J:=c.ah 0 2;have D:=c.ah 0 3;have z:=c.ah 0 4)
 all_goals
  refine gJ rfl ⟨_,rfl,?_,c.aa⟩;intro h;first
   |exact Bool.noConfusion h
   |(rename_i A w u E G q p l
     have I:=QA (a:=b) (b:=a) ⟨Z,Z⟩ ⟨Z,Z⟩;have x:=QA (a:=b/2) (b:=a/2) ⟨Z,Z⟩ ⟨Z,Z⟩;have t:wrap64 (b*a)=b*a:=y6 Z;have r:wrap64 (b/2*(a/2))=b/2*(a/2):=y6 Z;rw[t]at p;rw[r]at l h;have F:a%2=0:=by simpa using q.2
     exact⟨⟨Z,Z,Z⟩,⟨Z,Z,Z⟩,p,l,by simpa using h⟩)
theorem adD(c f:Int)(b:Qae)(a d:Nat)(j:Qae)(g k:Nat)(e:Qae)(h i:Nat):bT prog 71 (qp c f b a d j g k e h i).size:=aB
def adE(a b e j:Int)(d g h:Nat)(f:N)(i:Ending)(k:N):Prop:=∃c,i=.returned (.bool c)/\(c=true->G' a b d g h/\a=e/\b=j)/\V [] f k
theorem adF(a c q p:Int)(m:Qae)(d i:Nat)(j:Qae)(g k:Nat)(n:Qae)(h l:Nat):Calls prog 42 #[qp a c m d i j g k n h l,X q,X p] f (adE a c q p d g h f):=by
 have b:=ao.nil [] f;go_in;refine fE λw y=>?_;go_wp2_with(first|(clear w;refine b.aI _ (qp a c m d i j g k n h l) ?_;clear b;intro A z b)|(clear y;refine b.ld 0 (adD ..) ?_))
 refine(adC _ a c m d i j g k n h l).mono ?_;rintro e C ⟨x,rfl,s,o⟩;replace b:=b.aS o;have r:=Y s;clear o s;have D:=b.ah 0 0;have B:=b.ah 0 1;cases x
 .go_wp2_with fail
  exact nv
 .have t:=Y (r.out rfl);clear r;go_wp2_with fail
  all_goals
   refine gJ rfl ⟨_,rfl,λe=>?_,b.aa⟩;first
    |exact Bool.noConfusion e
    |(rename_i u;exact⟨t.out,u,by simpa using e⟩)
