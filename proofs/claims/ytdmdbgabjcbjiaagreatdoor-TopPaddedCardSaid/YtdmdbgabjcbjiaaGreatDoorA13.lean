import Derived.Test.YtdmdbgabjcbjiaaGreatDoorA12b
import Derived.LoopIn
import Derived.LoopNIn
import Derived.TacticsInMore
set_option maxHeartbeats 0
set_option maxRecDepth 100000
set_option linter.all false
namespace Go.Proofs.YtdmdbgabjcbjiaaGreatDoor
open Go.RowKit fD cr hs a7 _root_.Go.Proofs.Tryz
variable{b i:Prop}{e:bx}{m d s:Nat}{p r q:N}{n:Nat->aq}{o:Nat->aK}(c:N)(a:aD)
def li(a:aq)(b c:Int):Prop:=a.w=0\/(a.Ok/\(a.w:Int)=b/\(a.h:Int)=c)
structure o1(b:aD)(c:bx)(d:Bool)(a:cS):Prop where
 bp:li a.bp b.W b.H
 bP:li a.bP b.W b.H
 bs:li a.bs b.W (b.H/2)
 t1:c.t≠1->a.bp.w≠0
 t3:c.t=3->a.bP.w≠0
 t2:c.t=2->d=true->a.bs.w≠0
theorem HE(a:aq)(d:aK)(g h:Int)(o:li a g h):Calls prog 151 #[al a d,X g,X h] c λn k=>n=.returned (.bool true)/\V [] c k:=by
 rcases o with q|⟨f,rfl,rfl⟩
 .have l:((a.w:Int)==0)=true:=aw;clear q;have b:=ao.nil [] c;go_in;have e:=trivial;go_wp2_with(clear e;refine b.aI _ (al a d) ?_;clear b;intro p m b;have i:=b.ah 0 0)
  go_ret;exact⟨rfl,b.aa⟩
 .have j:=Y λc=>qQ a d f c;have l:((a.w:Int)==0)=false:=by have:=f.gG;simp;omega
  clear f;have b:=ao.nil [] c;go_in;refine fE λe r=>?_;go_wp2_with(first|(clear e;refine b.aI _ (al a d) ?_;clear b;intro p m b;have i:=b.ah 0 0)|(clear r;refine b.ld 0 aB ?_))
  refine b.aW (j.out _) ?_;clear b;intro t b;clear i;have s:=b.ah 0 0;have u:=b.ah 0 1;exact ft
theorem Ry(c:Nat)(a:bj c->b:=by
 intro zj;clear s B D J;have b:=ao.nil [] c;go_in;refine nh λu x y t z=>?_;go_wp2_with(first|(clear u;refine b.aI _ (ay a) ?_;clear b;intro C L b)|(clear x;refine b.aI _ (a1 f) ?_;clear b;intro I za b)|(clear y;refine b.aI _ (bI d e) ?_;clear b;intro E Q b)|(clear t;refine b.ld 2 (cH _) ?_)|(clear z;refine b.ld 1 (cX _) ?_))
 refine b.aW (F.out _) ?_;clear b;intro W b;refine HF λj k p=>?_;go_wp2_with(clear p;refine b.cp 0 (al d.bp e.bp) aB ?_ (o:=by exact(hY rfl)))
 refine HG ?_;clear b j k;intro A b o m n;go_wp2_with(clear n;refine b.cp 0 (al d.bP e.bP) aB ?_ (o:=by exact(hY rfl)))
 refine b.aW (G.out _) ?_;clear b;intro K b;clear o m;refine CD λl i h=>?_;go_wp2_with(clear h;refine b.cp 0 (al d.bs e.bs) aB ?_ (o:=by exact(hY rfl)))
 refine b.aW (H.out _) ?_;clear b;intro P b;clear l i;have O:=b.ah 1 0;have zk:=b.ah 0 0;have zl:=b.ah 0 zj;exact ft):b:=a ⟨⟩
theorem HF(a:i)(c:cZ i->b:=by intro zi;refine xI 2 λj=>?_;refine Cy 2 λk=>?_;have p:=trivial;revert j k p;exact zi.out):b:=c ⟨a⟩
theorem HG(a:i)(c:cZ i->b:=by intro zf;refine b.aW (zd.out _) ?_;intro A b;refine CD λo m n=>?_;revert A b o m n;exact zf.out):b:=c ⟨a⟩
theorem CD(a:i)(c:cZ i->b:=by intro zh;have l:=b.cl 2 0 (v:=X a.W) (g:=by simp[ay,cO,da]);refine Cy 2 λi=>?_;have h:=trivial;revert l i h;exact zh.out):b:=c ⟨a⟩
theorem aeV(f:bx)(r:Bool)(d:cS)(e:dP)(w:fI a f r)(g:o1 a f r d):Calls prog 116 #[ay a,a1 f,bI d e,.bool r] c λq ze=>q=.returned (X 0)/\V [] c ze:=by
 have F:=Y λc=>Hh c a f r w;have zd:=Y λc=>HE c d.bp e.bp a.W a.H g.bp;have G:=Y λc=>HE c d.bP e.bP a.W a.H g.bP;have H:=Y λc=>HE c d.bs e.bs a.W (a.H/2) g.bs;have zo:16<=a.H/\a.H<=64:=w.aQ.v.2.2.2.1|>λzb=>⟨zb,w.aQ.v.2.2.2.2.1⟩;have J:=w.ej.t;have s:=g.t1;have D:=g.t3;have B:=g.t2;clear g w;rcases(by omega:f.t=1\/f.t=3\/f.t=2)with q|q|q
 .clear s B D J;have b:=ao.nil [] c;go_in;refine nh λu x y t z=>?_;go_wp2_with(first|(clear u;refine b.aI _ (ay a) ?_;clear b;intro C L b)|(clear x;refine b.aI _ (a1 f) ?_;clear b;intro I za b)|(clear y;refine b.aI _ (bI d e) ?_;clear b;intro E Q b)|(clear t;refine b.ld 2 (cH _) ?_)|(clear z;refine b.ld 1 (cX _) ?_))
  refine b.aW (F.out _) ?_;clear b;intro W b;refine HF λj k p=>?_;go_wp2_with(clear p;refine b.cp 0 (al d.bp e.bp) aB ?_ (o:=by exact(hY rfl)))
  refine HG ?_;clear b j k;intro A b o m n;go_wp2_with(clear n;refine b.cp 0 (al d.bP e.bP) aB ?_ (o:=by exact(hY rfl)))
  refine b.aW (G.out _) ?_;clear b;intro K b;clear o m;refine CD λl i h=>?_;go_wp2_with(clear h;refine b.cp 0 (al d.bs e.bs) aB ?_ (o:=by exact(hY rfl)))
  refine b.aW (H.out _) ?_;clear b;intro P b;clear l i;have O:=b.ah 1 0;exact ft
 .have C:((d.bp.w:Int)==0)=false:=by have:=s Z;simp;omega
  have E:((d.bP.w:Int)==0)=false:=by have:=D q;simp;omega
  exact Ry 5
 .have C:((d.bp.w:Int)==0)=false:=by have:=s Z;simp;omega
  cases r
  .clear s B D J;have b:=ao.nil [] c;go_in;refine nh λu x y t z=>?_;go_wp2_with(first|(clear u;refine b.aI _ (ay a) ?_;clear b;intro C L b)|(clear x;refine b.aI _ (a1 f) ?_;clear b;intro I za b)|(clear y;refine b.aI _ (bI d e) ?_;clear b;intro E Q b)|(clear t;refine b.ld 2 (cH _) ?_)|(clear z;refine b.ld 1 (cX _) ?_))
   refine b.aW (F.out _) ?_;clear b;intro W b;refine HF λj k p=>?_;go_wp2_with(clear p;refine b.cp 0 (al d.bp e.bp) aB ?_ (o:=by exact(hY rfl)))
   refine HG ?_;clear b j k;intro A b o m n;go_wp2_with(clear n;refine b.cp 0 (al d.bP e.bP) aB ?_ (o:=by exact(hY rfl)))
   refine b.aW (G.out _) ?_;clear b;intro K b;clear o m;refine CD λl i h=>?_;go_wp2_with(clear h;refine b.cp 0 (al d.bs e.bs) aB ?_ (o:=by exact(hY rfl)))
   refine b.aW (H.out _) ?_;clear b;intro P b;clear l i;have O:=b.ah 1 0;have zk:=b.ah 0 0;exact ft
  .have I:((d.bs.w:Int)==0)=false:=by have:=B q rfl;simp;omega
   exact Ry 10
def jZ(c:aD)(b:bx)(a:aq):aq:=if a.w=0 then dl c.W.toNat (cc c b).toNat 128 128 128 else if b.s=1 then cL a 0 else if b.s=2 then cL a 1 else a
theorem CE{a:aD}{b:Bool}(c:fI a e b):8<=cc a e/\cc a e<=64/\cc a e%2=0:=by have d:=c.aQ.v;unfold et at d;unfold cc;split<;>omega
theorem pU{c:aD}{g:Bool}(a:fI c e g)(f:e.s≠3):c.H%32=0:=by have b:=a.aQ.v;have d:=a.b8.resolve_right (λh=>f h.1);unfold et at b;have:=b.2.2.2.2.2.2.1 d;omega
theorem Rz(c:Nat)(a:bj c->b:=by
 intro za;have b:=ao.nil [] c;go_in;go_wp2_with(first|(refine b.aI _ (ay a) ?_;clear b;intro zh zv b)|(refine b.aI _ (a1 h) ?_;clear b;intro zm zx b)|(refine b.aI _ (al k z) ?_;clear b;intro zp zs b)|(refine b.aH (_) bY ?_;clear b;intro I zl b;have j:=b.ah 1 0;have K:=b.ah 2 1)|(refine b.ld 1 aB ?_))
 refine(sc _ k z za J.out R (zy.out.ad b.aa)).mono ?_;rintro e zK ⟨zO,zD,zZ,rfl,zF⟩;replace b:=b.kE zF;clear j K;go_wp2_with(refine b.aN 3 (al (cL k za) (bb (cL k za) zO zD zZ)) aB (bo _ _) ?_;clear b;intro B b)
 exact RA):b:=a ⟨⟩
theorem RA(a:b:=by refine bB (eW rfl (kM _ _) (b.ai 3 rfl) rfl) ⟨_,rfl,b.fg 0 rfl rfl rfl,b.aa,sw b 0 rfl rfl rfl⟩):b:=a
theorem aeW(h:bx)(zV:Bool)(k:aq)(z:aK)(m:fI a h zV)(r:li k a.W a.H)(o:aT c k z):Calls prog 117 #[ay a,a1 h,al k z] c (mB 0 (jZ a h k) c):=by
 have z7:16<=a.H/\a.H<=64:=⟨m.aQ.v.2.2.2.1,m.aQ.v.2.2.2.2.1⟩;have zao:16<=a.W/\a.W<=64:=⟨m.aQ.v.1,m.aQ.v.2.1⟩;have zY:=Y λc=>QR c a h z7;by_cases x:k.w=0
 .have e:jZ a h k=dl a.W.toNat (cc a h).toNat 128 128 128:=ae x;have zah:8<=cc a h/\cc a h<=64/\cc a h%2=0:=CE m;have zE:=Y λc=>show Calls prog 152 #[X a.W,X (cc a h),.int .u8 128,.int .u8 128,.int .u8 128] c (λe zW=>∃zq zw zt,e=.returned (.tuple #[.agg (al (dl a.W.toNat (cc a h).toNat 128 128 128) (bb (dl a.W.toNat (cc a h).toNat 128 128 128) zq zw zt)),X 0])/\hW (dl a.W.toNat (cc a h).toNat 128 128 128) c zq zw zt zW) by have o:=A' c a.W.toNat (cc a h).toNat 128 128 128 Z Z (by have:=m.aQ.v.2.2.1;omega) Z Z Z;rw[show((a.W.toNat:Nat):Int)=a.W from Z,show(((cc a h).toNat:Nat):Int)=cc a h from Z]at o;exact o
  rw[e];clear o m r;have zX:((k.w:Int)==0)=true:=aw;clear x e;have b:=ao.nil [] c;go_in;go_wp2_with(first|(refine b.aI _ (ay a) ?_;clear b;intro zh zv b)|(refine b.aI _ (a1 h) ?_;clear b;intro zm zx b)|(refine b.aI _ (al k z) ?_;clear b;intro zp zs b)|(refine b.aH (_) bY ?_;clear b;intro I zl b;have j:=b.ah 1 0;have K:=b.cl 3 0 (v:=X a.W) (g:=by simp[ay,cO,da])))
  clear j K;refine xI 3 λzb=>?_;replace b:=b.bd;refine rg [] [0,1,2,3,104,105,6,7,208,9] ?_;refine ax ?_;refine b.ec (zY.out _) ?_;clear b;intro zK b;simp only[az];clear zb;refine bN (zE.out _) ?_;refine xA ?_;clear b;intro B zH zG zI zL b;refine b.dq 3 (al (dl a.W.toNat (cc a h).toNat 128 128 128) (bb (dl a.W.toNat (cc a h).toNat 128 128 128) zH zG zI)) aB (bo _ _) ?_;clear b;intro zap b;refine ax ?_;go_wp2_with fail
  exact RA
 obtain⟨L,zj,zf⟩:=r.resolve_left x;have zX:((k.w:Int)==0)=false:=aw;have zy:=Y o;have J:ck (h.s≠3->k.gQ):=λo=>⟨L,by have:=pU m o;omega⟩;by_cases G:h.s=1
 .have e:jZ a h k=cL k 0:=by unfold jZ;rw[M x,ae G]
  rw[e];have J:=Y (J.out Z);clear o m L zj zf r x e;exact Rz 0
 by_cases zk:h.s=2
 .have e:jZ a h k=cL k 1:=by unfold jZ;rw[M x,M G,ae zk]
  rw[e];have J:=Y (J.out Z);clear o m L zj zf r x e G;exact Rz 1
 .have e:jZ a h k=k:=by unfold jZ;rw[M x,M G,M zk]
  rw[e];have y:=Y (lens L);have zh:(h.s==1)=false:=aw;have zm:(h.s==2)=false:=aw;clear o m L zj zf r x e G zk;have b:=ao.nil [] c;go_in;go_wp2_with(first|(refine b.aI _ (ay a) ?_;clear b;intro zh zv b)|(refine b.aI _ (a1 h) ?_;clear b;intro zm zx b)|(refine b.aI _ (al k z) ?_;clear b;intro zp zs b)|(refine b.aH (_) bY ?_;clear b;intro I zl b;have j:=b.ah 1 0;have K:=b.ah 2 1;have zb:=b.ah 1 1;have zN:=b.ah 1 2))
  clear j K zb zN;have zae:=b.ah 1 0;have zaf:=b.ah 1 1;have z':=b.ah 1 2;have zab:=b.ah 1 3;have zam:=b.ah 1 4;have zo:ck (I<zl.drew.heap.size):=(b.ai 0 (h:=I) rfl).lt;replace b:=b.bd;have zn:=Y (zy.out.ad b.aa);refine rg [] [0,1,2,3,4,5,7,8,10,11,106,109,112,13,214,15] ?_;refine ax ?_;refine bN (uU _ _ _ _ (zn.out.y) y.out.1 y.out.2.2.2.1) ?_;rintro e zaa ⟨p,zd,rfl,zS,z6,O,zan⟩;refine⟨_,rfl,O,?_⟩;simp only[az];have zaj:=b.size;have z8:=O.size;replace b:=b.aS O;refine bN (uU _ _ _ _ ((zn.out.u.ad O)) y.out.2.1 y.out.2.2.2.2.1) ?_;rintro e zac ⟨s,zi,rfl,zM,zU,H,zai⟩;refine⟨_,rfl,H,?_⟩;simp only[az];have zad:=b.size;have zaq:=H.size;replace b:=b.aS H;refine bN (uU _ _ _ _ (((zn.out.v.ad O).ad H)) y.out.2.2.1 y.out.2.2.2.2.2) ?_;refine QM ?_;clear b;intro F l w A C n P W Q b D;have zB:aT F k ⟨some ⟨p,0,none⟩,some ⟨s,0,none⟩,some ⟨l,0,none⟩,zd,zi,w⟩:=⟨(zS.ad H).ad n,zM.ad n,A,z6,zU,C⟩;have zJ:∀d∈bg (⟨some ⟨p,0,none⟩,some ⟨s,0,none⟩,some ⟨l,0,none⟩,zd,zi,w⟩:aK),d∉[I]:=λd f r=>by exact QN
  refine el λzC zr=>?_;refine cv (Q:=al k ⟨some ⟨p,0,none⟩,some ⟨s,0,none⟩,some ⟨l,0,none⟩,zd,zi,w⟩) aB (b.ai 0 rfl) rfl (bo _ _) rfl rfl rfl rfl ?_;intro zag zT zz _;refine zr _ _ ?_;clear zr zC;refine ax ?_;go_wp2_with fail
  refine bB (eW rfl (kM _ _) zT rfl) ⟨_,rfl,zB.S zz zJ,b.aa.trans zz (λd f=>by rw[df.1 f];exact .inr ((b.n _ (bS (i:=0) rfl)).resolve_left U)),λd f=>.inr (D d (by simpa[bg]using f))⟩
section
variable {d:Int}{a:aD}{f:Bool}{h:Int}{e:bx}{j:Qae}{g k:Nat}{l:Int}
theorem nz:(bW d a f h e j g k l)[0]? =some (.int .i64 d):=rfl
theorem vb:(bW d a f h e j g k l)[147]? =some (.int .i64 l):=by unfold bW ct;rw[b4,dt,db CF];simp[cO,da,iy]
theorem RB:∀b,b<(ay a).size->(bW d a f h e j g k l)[1+b]? =(ay a)[b]? :=λb c=>by unfold bW ay;rw[gr]at c;rw[b4,b4,Ab,dt,eE (by simp[cO,da,iy];omega)]
theorem RC:∀b,(bW d a f h e j g k l)[136+b]? =([.bool f,.bool false,.int .i64 h]++((ct e j g k).toList++[.int .i64 l]):Qam)[b]? :=λb=>by unfold bW;rw[b4,show 136+b=(135+b)+1 from Z,dt,db CF,show 135+b-(cO a).length=b from CF]
theorem HH:∀b,b<(ka f false h).size->(bW d a f h e j g k l)[136+b]? =(ka f false h)[b]? :=λb c=>by rw[RC,eE (by simpa[ka]using c)];simp[ka]
theorem CG:∀b,b<(ct e j g k).size->(bW d a f h e j g k l)[139+b]? =(ct e j g k)[b]? :=λb c=>by rw[show 139+b=136+(3+b)from Z,RC,db (Nat.le_add_right 3 b),show 3+b-([.bool f,.bool false,.int .i64 h]:Qam).length=b from ki 3 b,eE vQ];simp
theorem RD:∀b,b<(a1 e).size->(bW d a f h e j g k l)[139+b]? =(a1 e)[b]? :=λb i=>by
 have c:b<6:=i;rw[CG b (by show b<8;omega)];match b,c with
 |0,_=>rfl
 |1,_=>rfl
 |2,_=>rfl
 |3,_=>rfl
 |4,_=>rfl
 |5,_=>rfl
end
theorem dz.base{b:N}{c:af}{v:Qas}(k:dz r p [] c v)(d:V [] b p):dz r b [] c v:=by obtain⟨j,h,f,l,a,i⟩:=k;refine⟨j,h,f,l,⟨⟨d.ad a.aa,a.h.b,a.h.d,λg m=>.inr (b7 d.size ((a.h.n g m).resolve_left U))⟩,⟨U,U,U⟩,trivial,λ_ _ _ _ _ e=>e⟩,i⟩
theorem RE{a:Nat×List Nat}(b:jP a):0<(gu a).length/\(gu a).length<=2147483652:=by have d:=qP a.2 0;have c:=b.oN;constructor<;>simp only[gu,cz]<;>omega
theorem HI{b:List (List Nat)}(c:∀d∈b,jP (1,d)/\d≠[]):∀a,a<=b.length->(gi b a).length<=2147483652*a
 |0,_=>by simp[gi]
 |a+1,e=>by
  have i:=HI c a Z;have g:b.getD a []=b[a]:=by rw[b9,cu e];rfl
  have f:=(c _ (la e)).1;have j:=qP b[a] 0;have h:b[a].length<=1073741824:=f.oN;rw[sK,aZ,g];simp only[gu,cz];omega
theorem HJ{e:aD}{b:aE}(c:gW e b):(jE e b).length<=10737418260:=by
 unfold jE;rw[aZ];have h:=(RE (va c)).2;cases b with
 |aQ=>simp only[aE.bE,gi,dv,HK,ee,HL];omega
 |aA f g=>simp only[aE.bE,gi,dv,HK,ee,HL];omega
 |cD d a=>have i:=HI (c.bE d a rfl).2.2 a.length (a' _);have:=(c.bE d a rfl).2.1;show _+(gi a a.length).length<= _;omega
theorem HM(a:i)(c:i->b:=by intro zp;refine(O.out _ _ _ (aF.aP (b.ai 0 rfl))).mono ?_;rintro e I ⟨v,rfl,i⟩;have zf:=b.aa;replace b:=b.aS i.aa;replace i:=i.base zf;clear zf;revert I v b i;exact zp):b:=c a
theorem RF(x:aE)(g:Qae)(s l:Nat)(u:gW a x)(zc:dA c)(Q:dD)(zr:x.bE≠[]->oZ c g x.bE)(b:l<=1048576):Calls prog 27 #[cd a x g s (l:Int)] c λe w=>∃v,e=.returned (.tuple #[v,X 0])/\dz w c [] (jE a x) v:=by
 have k:=Y u;have zo:=Y zc;have zm:=Y Q;have zv:decide ((l:Int)<0)=false:=U;have zs:decide (1048576<(l:Int))=false:=aw;clear u zc Q b;cases x
 case aQ=>
  refine aG (gu (hM a .aQ)) λr j=>?_;have O:=Y λh g t(u:aF h g 1 (bh (fc a)).length (aC (bh (fc a))))=>show Calls prog 55 #[.agg (br 179 g (bh (fc a)).length t)] h λe w=>∃v,e=.returned (.tuple #[v,X 0])/\dz w h [] r v from j▸B3 h 179 g t (bh (fc a)) u (va k.out);have A:=Y j;show Calls prog 27 #[bW 1 a false 0 dS g 0 s (l:Int)] c _;clear j;have b:=ao.nil [] c;go_in;go_wp2_with(first|(refine b.aI _ (bW 1 a false 0 dS g 0 s (l:Int)) ?_;clear b;intro zb W b;have F:=b.cl 0 0 (v:=X 1) (g:=by exact nz);have C:=b.cl 0 147 (v:=X l) (g:=by exact vb))|(refine b.aH (br 0 none 0 0) jV ?_;clear b;intro zh zi b;clear F C;have G:=b.cl 1 0 (v:=X 1) (g:=by exact nz))|(refine b.cp 1 (ay a) (cH _) ?_ (o:=by exact(RB))))
  refine(Rm _ a k.out.aQ (zo.out.ad b.aa) zm.out).mono ?_;refine sH ?_;clear b;intro zd aA o n m b;clear o n m;clear G;go_wp2_with(first|(refine b.aN 1 (br 179 (some ⟨aA,0,none⟩) (bh (fc a)).length (bh (fc a)).length) en (jA _ _) ?_;clear b;intro ze b)|(refine b.ld 1 en ?_))
  refine HM ?_;clear b;intro I v b i;obtain⟨z,H,E,rfl,B,D⟩:=i;have L:=b.cl 2 0 (v:=X 1) (g:=by exact nz);go_wp2_with fail
  refine lT rfl ⟨_,rfl,?_⟩;rw[show jE a .aQ=r from(eG _).trans A.out];exact⟨z,H,E,rfl,B,D⟩
 case aA p q=>
  refine aG (gu (hM a (.aA p q))) λr j=>?_;have O:=Y λh g t(u:aF h g 1 (bh (gU p false q)).length (aC (bh (gU p false q))))=>show Calls prog 55 #[.agg (br 184 g (bh (gU p false q)).length t)] h λe w=>∃v,e=.returned (.tuple #[v,X 0])/\dz w h [] r v from j▸B3 h 184 g t (bh (gU p false q)) u (va k.out);have A:=Y j;show Calls prog 27 #[bW 2 b6 p (q:Int) dS g 0 s (l:Int)] c _;clear j;have b:=ao.nil [] c;go_in;go_wp2_with(first|(refine b.aI _ (bW 2 b6 p (q:Int) dS g 0 s (l:Int)) ?_;clear b;intro zb W b;have F:=b.cl 0 0 (v:=X 2) (g:=by exact nz);have C:=b.cl 0 147 (v:=X l) (g:=by exact vb))|(refine b.aH (br 0 none 0 0) jV ?_;clear b;intro zh zi b;clear F C;have G:=b.cl 1 0 (v:=X 2) (g:=by exact nz))|(refine b.cp 1 (ka p false (q:Int)) xO ?_ (o:=by exact(HH))))
  refine(aex _ p false q k.out.aA).mono ?_;refine sH ?_;clear b;intro zd aA o n m b;clear o n m;clear G;go_wp2_with(first|(refine b.aN 1 (br 184 (some ⟨aA,0,none⟩) (bh (gU p false q)).length (bh (gU p false q)).length) en (jA _ _) ?_;clear b;intro ze b)|(refine b.ld 1 en ?_))
  refine HM ?_;clear b;intro I v b i;obtain⟨z,H,E,rfl,B,D⟩:=i;have L:=b.cl 2 0 (v:=X 2) (g:=by exact nz);go_wp2_with fail
  refine lT rfl ⟨_,rfl,?_⟩;rw[show jE a (.aA p q)=r from(eG _).trans A.out];exact⟨z,H,E,rfl,B,D⟩
 case cD d f=>
  refine aG (gu (hM a (.cD d f))) λr j=>?_;have O:=Y λh g t(u:aF h g 1 (bh (gh d)).length (aC (bh (gh d))))=>show Calls prog 55 #[.agg (br 181 g (bh (gh d)).length t)] h λe w=>∃v,e=.returned (.tuple #[v,X 0])/\dz w h [] r v from j▸B3 h 181 g t (bh (gh d)) u (va k.out);have A:=Y j;obtain⟨J,zn,zq,rfl,zj,ak⟩:=zr (k.out.bE d f rfl).1;have P:=Y (And.intro zj ak);have K:=Y (show f≠[]/\f.length<=4/\(∀za∈f,jP (1,za)/\za≠[])/\0<r.length/\r.length+(gi f f.length).length<=1099511627776 from⟨(k.out.bE d f rfl).1,(k.out.bE d f rfl).2.1,(k.out.bE d f rfl).2.2,by rw[<-j];simp[gu],by have zl:=(RE (va k.out)).2;have zt:=HI (k.out.bE d f rfl).2.2 f.length (a' _);have:=(k.out.bE d f rfl).2.1;rw[j]at zl;omega⟩);clear zj ak;show Calls prog 27 #[.agg (bW 3 b6 false 0 d (some ⟨J,0,none⟩) f.length s (l:Int))] c _;clear j;have b:=ao.nil [] c;go_in;go_wp2_with(first|(refine b.aI _ (bW 3 b6 false 0 d (some ⟨J,0,none⟩) f.length s (l:Int)) ?_;clear b;intro zb W b;have F:=b.cl 0 0 (v:=X 3) (g:=by exact nz);have C:=b.cl 0 147 (v:=X l) (g:=by exact vb))|(refine b.aH (br 0 none 0 0) jV ?_;clear b;intro zh zi b;clear F C;have G:=b.cl 1 0 (v:=X 3) (g:=by exact nz))|(refine b.cp 1 (a1 d) (cX _) ?_ (o:=by exact(RD))))
  refine(aey _ d (k.out.ej d f rfl)).mono ?_;refine sH ?_;clear b;intro zd aA o n m b;clear o n m;clear G;go_wp2_with(first|(refine b.aN 1 (br 181 (some ⟨aA,0,none⟩) (bh (gh d)).length (bh (gh d)).length) en (jA _ _) ?_;clear b;intro ze b)|(refine b.ld 1 en ?_))
  refine HM ?_;clear b;intro I v b i;obtain⟨z,H,E,rfl,B,D⟩:=i;have L:=b.cl 2 0 (v:=X 3) (g:=by exact nz);go_wp2_with(refine b.cp 2 (ct d (some ⟨J,0,none⟩) f.length s) lu ?_ (o:=by exact(CG)))
  refine(aeS _ c d z H J f.length s E f r zn zq B D P.out.1 P.out.2 rfl K.out.2.1 K.out.2.2.1 K.out.2.2.2.1 K.out.2.2.2.2).mono ?_;rintro e zu ⟨v,rfl,i⟩;clear L;go_wp2_with fail
  exact lT rfl ⟨_,rfl,by rw[<-A.out]at i;exact i⟩
theorem aeX(d:aE)(f:Qae)(h e:Nat)(k:gW a d)(p:dA c)(o:dD)(r:d.bE≠[]->oZ c f d.bE)(b:e<=1048576):Calls prog 20 #[cd a d f h (e:Int)] c λi l=>i=.returned (.tuple #[X (((jE a d).length+e:Nat):Int),X 0])/\V [] c l:=by
 have t:=HJ k;refine aG (jE a d) λj m=>?_;have y:=Y λg(n:V [] c g)=>show Calls prog 27 #[cd a d f h (e:Int)] g λi l=>∃v,i=.returned (.tuple #[v,X 0])/\dz l g [] j v from m▸RF g a d f h e k (p.ad n) o (λu=>(r u).ad n) b;rw[m]at t⊢;refine aG (j.length+e) λw q=>?_;rw[q];have E:(j.length:Int)+(e:Int)=(w:Int):=Z;clear k p o r m q;have b:=ao.nil [] c;go_in;go_wp2_with(first|(refine b.aI _ (cd a d f h (e:Int)) ?_;clear b;intro B A b)|(refine b.ld 0 (mK _ _ _ _ _ _ _ _ _) ?_))
 refine(y.out _ b.aa).mono ?_;rintro i D ⟨v,rfl,s⟩;obtain⟨z,G,rfl,C,x⟩:=s.rd;replace b:=b.aS x;have F:=b.cl 0 147 (v:=X e) (g:=by exact vb);go_wp2_with fail
 exact lT rfl ⟨rfl,b.aa⟩
def bq(b:List aE)(a:Nat):aE:=b.getD a .aQ
structure jG(b:N)(f:aD)(d:Nat)(a:List aE)(c:Nat->Option Addr)(e HN:Nat->Nat):Prop where
 row:dQ b d 148 a.length λk=>cd f (bq a k) (c k) (e k) (HN k:Int)
 bE:∀k,k<a.length->(bq a k).bE≠[]->oZ b (c k) (bq a k).bE
theorem jG.ad{b h:N}{j:aD}{a:Nat}{c:List aE}{d:Nat->Option Addr}{i g:Nat->Nat}(e:jG b j a c d i g)(f:V [] b h):jG h j a c d i g:=⟨e.row.ad f,λl m k=>(e.bE l m k).ad f⟩
def ek(c:aD)(b:List aE)(a:Nat->Nat):Nat->List Nat
 |0=>[]
 |d+1=>ek c b a d++(jE c (bq b d)++List.replicate (a d) 0)
theorem RG(c:List aE)(e:Nat->Nat){b d:Nat}(f:b<=d):(ek a c e b).length<=(ek a c e d).length:=by
 induction f with
 |refl=>exact a' _
 |step _ g=>rw[ek,aZ];omega
theorem RH{f:aD}{b:List aE}{d:Nat->Nat}(e:∀a,a<b.length->gW f (bq b a))(c:∀a,a<b.length->d a<=1048576):∀a,a<=b.length->(ek f b d a).length<=10738466836*a
 |0,_=>by simp[ek]
 |a+1,j=>by have h:=RH e c a Z;have i:=HJ (e a Z);have g:=c a Z;rw[ek,aZ,aZ,hy];omega
theorem y1(b:aE)(c:Qae)(d:Nat)(e:Int):bT prog 54 (cd a b c d e).size:=mK _ _ _ _ _ _ _ _ _
theorem aeY(b:aE):0<(jE a b).length:=by unfold jE gu;simp
theorem RI(r z g:Nat)(d:List aE)(l:Nat->Option Addr)(C e:Nat->Nat)(t:jG c a r d l C e)(zY:d.length=g)(zi:g<=64)(zd:∀b,b<d.length->gW a (bq d b))(ze:∀b,b<d.length->e b<=1048576)(zj:dA c)(zv:dD):Calls prog 9 #[.slice (ab r) g z] c λP zu=>((ek a d e g).length<=1048576/\∃v,P=.returned (.tuple #[v,X 0])/\dz zu c [] (ek a d e g) v)\/(1048576<(ek a d e g).length/\P=.returned (.tuple #[.slice none 0 0,X 5])/\V [] c zu):=by
 have zH:=Y λb(j:b<=g)=>show(ek a d e b).length<=687261877504 by have:=RH zd ze b Z;omega
 have zL:=Y λb(j:b<g) p(u:V [] c p)=>RF p a (bq d b) (l b) (C b) (e b) (zd b Z) (zj.ad u) zv (λzR=>(t.bE b Z zR).ad u) (ze b Z);have zT:=Y λb(j:b<g)=>show c.rangeAt r (b*148) (cd a (bq d b) (l b) (C b) (e b:Int)).toList from t.row b Z;have zN:=Y λb(j:b<g) p(u:V [] c p)=>show p.cell? ⟨r,b*148,none⟩=some (.int .i64 (bq d b).kind)/\p.cell? ⟨r,b*148+147,none⟩=some (.int .i64 (e b:Int))from⟨(t.row.ad u).cell0 Z nz,(t.row.ad u).au Z vb⟩;have zw:=Y zi;clear t zd ze zj zv zY zi;have f:=ao.nil [] c;replace f:=av.jh f;go_in;go_wp2_with fail
 have zA:=Y f;clear f;go_loopw [4,5,6,12] (λzS zF zJ H wr=>∃b:Nat,b<=g/\H=X b/\∃(h:af)(l:Qae)(z:Nat)(o:bX)(q T:Nat),zS=.slice l h.length z/\zF=X q/\zJ=X T/\Hid (h.length<=1048576/\(T<=1048576->h=ek a d e b)/\q<=b/\T=(ek a d e b).length)/\Hid (av [] c wr o [] λ_=>True)/\Hid (er 5 1 h.length (aC h) l z o)) (λ_ _ _ H _=>g-(intOf H).toNat)
 .exact⟨0,Z,rfl,[],none,0,[],0,0,rfl,rfl,rfl,Y ⟨R,λ_=>rfl,Z,rfl⟩,zA,Y .nil⟩
 .obtain⟨b,zaj,rfl,h,zo,zm,o,q,T,rfl,rfl,rfl,m,zp,Q⟩:=hrel;clear zA;have f:=zp.out;clear zp;by_cases j:b<g
  .have z1:(b:Int)<(g:Int):=Z;have zQ:=RG a d e (Nat.succ_le_of_lt j);have zE:=zH.out (b+1) j;have B:=zL.out b j;have O:=zT.out b j;have za:=zN.out b j;have s:ek a d e (b+1)=ek a d e b++(jE a (bq d b)++List.replicate (e b) 0):=rfl;have E:=aeY a (bq d b);refine aG (bq d b) λzb zc=>?_;refine aG (e b) λn zq=>?_;rw[zc,zq]at B O za s;rw[zc]at E;refine aG (jE a zb) λx zr=>?_;rw[zr]at B s E;refine aG (x.length+n) λy I=>?_;refine aG (T+y) λi zf=>?_;have zs:i=(ek a d e (b+1)).length:=by rw[s,aZ,aZ,hy,<-zf,m.out.2.2.2,<-I]
   have zn:i<=1099511627776:=Z;have zai:(x.length:Int)+(n:Int)=(y:Int):=Z;have zah:(y:Int)<=1099511627776:=Z;have zag:(i:Int)<=1099511627776:=Z;have zae:(T:Int)+(y:Int)=(i:Int):=Z;refine aG (q+1) λzW zl=>?_;have zaa:(q:Int)+1=(zW:Int):=Z;have zak:=zw.out;have zal:=m.out.2.2.1;have zC:=Y B;have zD:=Y O;have F:=Y za;have k:=Y (And.intro s (And.intro zs (And.intro I (And.intro zf (And.intro E (And.intro zn zl))))));clear zQ zE B O za s E zc zq zr I zf zs zn zl;refine aG zb.kind λG zK=>?_;rw[zK]at F;have zO:=trivial;go_wp2_with(clear zO;refine lg (y1 a zb (l b) (C b) (n:Int)) (iM zD.out f.aa) ?_)
   refine(zC.out _ f.aa).mono ?_;rintro P zaf ⟨v,rfl,zx⟩;obtain⟨z8,zad,rfl,zy,zt⟩:=zx.rd;replace f:=f.aS zt;have zV:=Y zy;clear zy zt zx;have zI:=F.out _ f.aa;obtain⟨K,W⟩:=zI;have J:(G==3)=true\/(G==3)=false:=by cases G==3<;>simp
   rcases J with J|J
   all_goals
    by_cases zz:i<=1048576
    .have zG:(i:Int)<=1048576:=Z;refine fE λzM z7=>?_;go_wp2_with(first|(clear zM;refine dz.fR (b:=[]) ⟨_,_,o,rfl,f,Q.out⟩ zV.out (by have:=m.out.1;have:=k.out;omega) (by have:=k.out;omega) ?_;clear f K W;intro _ zac D;have K:=(F.out _ D.aa).1;have W:=(F.out _ D.aa).2)|(clear z7;refine dz.acA D n (by rw[aZ];have:=k.out;omega) (by rw[aZ];have:=m.out.1;have:=k.out;omega) ?_;clear D K W;rintro _ zab ⟨zU,zX,zB,rfl,f,zP⟩))
     have w:=m.out;have A:=k.out;have zh:(h++x)++List.replicate n 0=ek a d e (b+1):=by rw[A.1,w.2.1 Z,b5]
     exact⟨⟨b+1,Z,a8,h++x++List.replicate n 0,zU,zX,zB,_,i,by simp only[aZ,hy,gk],rfl,rfl,Y ⟨by rw[zh,<-A.2.1];exact zz,λ_=>zh,by have:=A.2.2.2.2.2.2;omega,A.2.1⟩,Y f,Y zP⟩,bF⟩
    .have zG:decide ((i:Int)<=1048576)=false:=aw;go_wp2_with fail
     exact⟨⟨b+1,Z,a8,h,zo,zm,o,_,i,rfl,rfl,rfl,Y ⟨m.out.1,λz6=>absurd z6 zz,by have:=k.out.2.2.2.2.2.2;omega,k.out.2.1⟩,Y f,Q⟩,bF⟩
  .have z1:¬((b:Int)<(g:Int)):=Z;obtain rfl:g=b:=Z;have w:=m.out;have z':decide (256<(q:Int))=false:=by simp;have:=zw.out;omega
   by_cases zk:T<=1048576
   .have zZ:decide (1048576<(T:Int))=false:=aw;go_wp2_with fail
    exact lT rfl (.inl ⟨by rw[<-w.2.2.2];exact zk,_,rfl,by rw[<-w.2.1 zk];exact⟨zo,zm,o,rfl,f,Q.out⟩⟩)
   .have zZ:decide (1048576<(T:Int))=true:=aw;go_wp2_with fail
    exact lT rfl (.inr ⟨by rw[<-w.2.2.2];omega,rfl,f.aa⟩)
theorem RJ(a:Int)(f:1<=a)(g:a<=31):Calls prog 45 #[X a] c λd e=>d=.returned (.bool true)/\V [] c e:=by have b:=ao.nil [] c;go_in;exact ft
theorem RK(a:aq)(d:aK)(e:a.Ok):Calls prog 82 #[al a d,X (a.w:Int),X (a.h:Int)] c λg h=>g=.returned (.bool true)/\V [] c h:=by
 have f:=Y λc=>qQ a d e c;have b:=ao.nil [] c;go_in;go_wp2_with(first|(refine b.aI _ (al a d) ?_;intro i j b)|(refine b.ld 0 aB ?_))
 refine b.aW (f.out _) ?_;intro m b;have l:=b.ah 0 0;have k:=b.ah 0 1;exact ft
theorem aeZ(d b:bx):Calls prog 50 #[a1 d,a1 b] c λf e=>f=.returned (.bool (lZ d b))/\V [] c e:=by exact RL
theorem ae0(f:Nat)(k:ag c f 26 (ay a))(d:aq)(e:aK)(n:d.Ok)(l:(d.w:Int)=a.W)(m:(d.h:Int)=a.H):Calls prog 81 #[al d e,ab f] c λh g=>h=.returned (.bool false)/\V [] c g:=by
 have j:=Y k;have o:=Y λc=>show Calls prog 82 #[al d e,X a.W,X a.H] c λh g=>h=.returned (.bool true)/\V [] c g by have:=RK c d e n;rwa[l,m]at this
 have b:=ao.nil [] c;go_in;go_wp2_with(first|(refine b.aI _ (al d e) ?_;intro p i b;have s:i.cell? ⟨f,0,none⟩=some (.int .i64 a.W):=(j.out.S b.aa U).au _|>.trans mJ;have q:i.cell? ⟨f,1,none⟩=some (.int .i64 a.H):=(j.out.S b.aa U).au _|>.trans mJ)|(refine b.ld 0 aB ?_))
 refine b.aW (o.out _) ?_;intro r b;exact ft
structure vc(d:N)(f:aD)(g h c:Nat)(b:Nat->aq)(e:Nat->aK):Prop where
 row:∀a,a<c->d.rangeAt g (h+a*5) (al (b a) (e a)).toList
 is:∀a,a<c->aT d (b a) (e a)
 ok:∀a,a<c->(b a).Ok/\((b a).w:Int)=f.W/\((b a).h:Int)=f.H
 kN:c<=1000
theorem vc.ad{e j:N}{l:aD}{d k f:Nat}{g:Nat->aq}{h:Nat->aK}(a:vc e l d k f g h)(i:V [] e j):vc j l d k f g h:=⟨λc b=>iM (a.row c b) i,λc b=>(a.is c b).ad i,a.ok,a.kN⟩
theorem ae1(i:Nat)(s:ag c i 26 (ay a))(m o d q:Nat)(k:Nat->aq)(n:Nat->aK)(j:vc c a m o d k n):Calls prog 131 #[.slice (some ⟨m,o,none⟩) d q,.func (.func 81) #[] #[ab i]] c λl r=>l=.returned (X (-1))/\V [] c r:=by
 have w:=Y s;have e:=Y j;have A:=j.kN;have t:=ao.nil [] c;go_in;go_wp2_with fail
 go_loopw [8] (λh wr=>∃b:Nat,b<=d/\h=X b/\Hid (V [] c wr)) (λh _=>d-(intOf h).toNat)
 .exact⟨0,Z,rfl,Y t.aa⟩
 .obtain⟨b,z,rfl,f⟩:=hrel;by_cases g:b<d
  .have p:(b:Int)<(d:Int):=Z;have u:=Y ((e.out.ad f.out).row b g);go_wp2_with(refine lg aB u.out ?_)
   refine(ae0 _ a i (w.out.S f.out U) (k b) (n b) (e.out.ok b g).1 (e.out.ok b g).2.1 (e.out.ok b g).2.2).mono ?_;rintro l y ⟨rfl,x⟩;go_wp2_with fail
   exact⟨⟨b+1,Z,a8,Y (f.out.ad x)⟩,bF⟩
  .have p:¬((b:Int)<(d:Int)):=Z;go_wp2_with fail
   go_ret;exact⟨rfl,f.out⟩
theorem ae2(f:Nat)(k:ag c f 26 (ay a))(d g e h:Nat)(i:Nat->aq)(j:Nat->aK)(m:vc c a d g e i j):Calls prog 80 #[.slice (some ⟨d,g,none⟩) e h,.func (.func 81) #[] #[ab f]] c λn o=>n=.returned (.bool false)/\V [] c o:=by
 have l:=Y (ae1 c a f k d g e h i j m);have b:=ao.nil [] c;go_in;go_wp2_with fail
 refine b.aW (l.out) ?_;intro p b;exact ft
theorem J3:bT prog 79 3:=⟨_,underlying79,rfl,ar⟩
structure pZ(b:N)(a:aD)(h m g e c:Nat)(d:aj)(i:Nat->aq)(j:Nat->aK)(k l:Bool):Prop where
 aQ:ho a
 t:xo b g e c d
 f:vc b a h m c i j
 b8:a.b8=true\/(a.b8=false/\k=false/\l=true)
theorem pZ.ad{c:N}{j:aD}{e f d:Nat}{b:aj}{h i:Bool}(a:pZ c j e s f d m b n o h i)(g:V [] c q):pZ q j e s f d m b n o h i:=⟨a.aQ,a.t.ad g,a.f.ad g,a.b8⟩
theorem RM(a:b:=by
 go_wp2_with fail
 go_wp2_with fail
 refine b.aW (ae2 _ a u (b.ai 1 rfl) i j g n t w (D.out.f.ad b.aa)) ?_;intro I b;exact ft):b:=a
theorem ae3(i j o l g n bw:Nat)(q:aj)(t:Nat->aq)(w:Nat->aK)(k m p:Bool)(d:pZ c a i j o l g q t w k p):Calls prog 46 #[ay a,.slice (some ⟨i,j,none⟩) g n,.slice (some ⟨o,l,none⟩) g bw,.agg #[.bool k,.bool m,.bool p]] c λh f=>h=.returned (.bool true)/\V [] c f:=by
 have D:=Y d;refine QP λe=>?_;have s:=Y λr(y:V [] c r)=>acD r (some ⟨i,j,none⟩) g n o l bw q k (d.t.ad y);have B:=d.b8;rcases B with z|⟨z,rfl,rfl⟩
 .skip;have b:=ao.nil [] c;go_in;go_wp2_with(first|(refine b.aI _ (ay a) ?_;intro u A b)|(refine b.aI _ (#[.bool k,.bool m,.bool p]) ?_;intro H G b)|(refine b.ld 1 (cH _) ?_))
  refine b.aW (e.out _) ?_;intro E b;have P:=b.ah 0 0;go_wp2_with fail
  refine b.aW (s.out _ b.aa) ?_;intro F b;refine xH 1 λC=>?_;exact RM
 .skip;have b:=ao.nil [] c;go_in;go_wp2_with(first|(refine b.aI _ (ay a) ?_;intro u A b)|(refine b.aI _ (#[.bool false,.bool m,.bool true]) ?_;intro H G b)|(refine b.ld 1 (cH _) ?_))
  refine b.aW (e.out _) ?_;intro E b;have P:=b.ah 0 0;go_wp2_with fail
  refine b.aW (s.out _ b.aa) ?_;intro F b;refine xH 1 λC=>?_;have K:=b.ah 0 0;have J:=b.ah 0 2;exact RM
theorem HO(g a l:Nat)(s:a<=64)(q:aF c (some ⟨g,0,none⟩) 1 a (List.replicate a (.bool true))):Calls prog 71 #[.slice (ab g) a l] c λf m=>f=.returned (.bool true)/\V [] c m:=by
 have p:=Y λi(n:V [] c i) d(h:d<a)=>show i.cell? ⟨g,d,none⟩=some (.bool true) by
  obtain⟨u,f,j⟩:=(q.ad n).2 Z;cases f
  have:=j d (.bool true) (by rw[wx,ae h]);rwa[Pq]at this
 have b:=ao.nil [] c;go_in;go_wp2_with fail
 go_loopw [7] (λe wr=>∃d:Nat,d<=a/\e=X d/\Hid (ao [] c wr [])) (λe _=>a-(intOf e).toNat)
 .exact⟨0,Z,rfl,Y b⟩
 .obtain⟨d,r,rfl,o⟩:=hrel;try clear b
  have b:=o.out;by_cases h:d<a
  .have k:(d:Int)<(a:Int):=Z;have t:=p.out wr b.aa d h;go_wp2_with fail
   exact sI
  .have k:¬((d:Int)<(a:Int)):=Z;obtain rfl:a=d:=Z;exact ft
theorem CH{e:N}{c f:Nat}{d:bx}{g:Qae}{j k:Nat}(h:e.rangeAt c (f*8) (ct d g j k).toList):e.rangeAt c (f*8) (a1 d).toList:=λb i a=>by
 refine h b i ?_;rw[eo]at a⊢;have l:b<6:=(ht.1 a).1;rw[<-a];match b,l with
 |0,_=>rfl
 |1,_=>rfl
 |2,_=>rfl
 |3,_=>rfl
 |4,_=>rfl
 |5,_=>rfl
def iq(b:List iN)(c:Nat):List fA:=(List.range c).filterMap λa=>(gL b a (hp b a)).2
theorem xY(b:List iN)(a:Nat):iq b (a+1)=iq b a++(gL b a (hp b a)).2.toList:=by unfold iq;rw[mm,List.filterMap_append];cases h:(gL b a (hp b a)).2<;>simp[h]
theorem ae4(c:List iN){b a:Nat}(g:b<=a):∃post,iq c a=iq c b++post:=by
 induction a with
 |zero=>exact⟨[],by rw[show b=0 from Z];simp⟩
 |succ a d=>
  by_cases f:b=a+1
  .exact⟨[],by rw[f];simp⟩
  .obtain⟨post,e⟩:=d Z;exact⟨post++(gL c a (hp c a)).2.toList,by rw[xY,e,b5]⟩
theorem ae5(b:List iN){a c:Nat}{d:fA}(g:a<c)(e:(gL b a (hp b a)).2=some d):∃post,iq b c=iq b a++d::post:=by obtain⟨post,f⟩:=ae4 b (b:=a+1) (a:=c) Z;exact⟨post,by rw[f,xY,e];simp⟩
theorem ae6(b:List iN)(a:Nat):uW b a=(iq b a).foldl cA.step ⟨[],-1,-1,false,0,0⟩:=by
 induction a with
 |zero=>rfl
 |succ a d=>rw[xY,Ay,<-d];show(match(gL b a (hp b a)).2 with|some c=>(uW b a).step c|none=>uW b a)= _;cases(gL b a (hp b a)).2<;>rfl
theorem ae7(b c a:Qay)(d:N):CallsD prog 166 #[.pointer (some b),.pointer (some c),.pointer (some a)] .returning d λi f j=>i=.returned (.tuple #[])/\f=.returning/\j=d:=by
 refine BK Tryz.func166 rfl λl h e=>?_;apply wpS_seq;apply wpS_region;simp[wpOpsS,go_sem,recoverD,e,Tryz.ntmps166,Exit.thenS];refine wpS_of_wp ?_;rw[show #[Value.pointer (some b),Value.pointer (some c),Value.pointer (some a)]++((Array.replicate 4 undef).setIfInBounds 0 Value.nilIface).setIfInBounds 1 (Value.bool false)=#[Value.pointer (some b),Value.pointer (some c),Value.pointer (some a),Value.nilIface,Value.bool false,undef,undef]from rfl];have k:=Gb;have g:=Y e;go_wp2_with fail
 exact⟨rfl,.returning,aX (·::h) (Ga g.out),.tuple #[],by simp[results,Tryz.results166],rfl,rfl,rfl⟩
theorem ae8(b c a:Qay)(d:N):CallsD prog 44 #[.pointer (some b),.pointer (some c),.pointer (some a)] .returning d λi f j=>i=.returned (.tuple #[])/\f=.returning/\j=d:=by
 refine BK Tryz.func44 rfl λl h e=>?_;apply wpS_seq;apply wpS_region;simp[wpOpsS,go_sem,recoverD,e,Tryz.ntmps44,Exit.thenS];refine wpS_of_wp ?_;rw[show #[Value.pointer (some b),Value.pointer (some c),Value.pointer (some a)]++((Array.replicate 2 undef).setIfInBounds 0 Value.nilIface).setIfInBounds 1 (Value.bool false)=#[Value.pointer (some b),Value.pointer (some c),Value.pointer (some a),Value.nilIface,Value.bool false]from rfl];have k:=Gb;have g:=Y e;go_wp2_with fail
 exact⟨rfl,.returning,aX (·::h) (Ga g.out),.tuple #[],by simp[results,Tryz.results44],rfl,rfl,rfl⟩
def ae9(a:N)(c:Ending)(b:N):Prop:=c=.returned (.bool true)/\V [] a b
theorem RN(a:aq)(e d:aK)(i:aT c a e)(j:aT c a d)(h:a.Ok):Calls prog 15 #[al a e,al a d] c (ae9 c):=by
 have o:=Y λf(g:V [] c f)=>F1 f e.a d.a a.y.length a.y.length e.cJ d.cJ a.y a.y (i.y.ad g) (j.y.ad g) h.gy h.gy;have k:=Y λf(g:V [] c f)=>F1 f e.b d.b a.u.length a.u.length e.cT d.cT a.u a.u (i.u.ad g) (j.u.ad g) h.fP h.fP;have p:=Y λf(g:V [] c f)=>F1 f e.c d.c a.v.length a.v.length e.cm d.cm a.v a.v (i.v.ad g) (j.v.ad g) h.hV h.hV;simp only[decide_true]at o k p;have b:=ao.nil [] c;go_in;go_wp2_with(first|(refine b.aI _ (al a e) ?_;intro s r b)|(refine b.aI _ (al a d) ?_;intro z y b;have A:=b.ah 1 0;have t:=b.ah 0 0;have B:=b.ah 1 1;have u:=b.ah 0 1;have n:=b.ah 1 2;have l:=b.ah 0 2))
 refine(o.out _ b.aa).mono ?_;rintro m w ⟨rfl,rfl⟩;have n:=b.ah 1 3;have l:=b.ah 0 3;go_wp2_with fail
 refine(k.out _ b.aa).mono ?_;rintro m x ⟨rfl,rfl⟩;have n:=b.ah 1 4;have l:=b.ah 0 4;go_wp2_with fail
 refine(p.out _ b.aa).mono ?_;rintro m q ⟨rfl,rfl⟩;go_wp2_with fail
 exact gJ rfl ⟨rfl,b.aa⟩
def afa(a f:Nat)(b:aj)(i:Bool)(e:N)(g:Ending)(h:N):Prop:=∃d,g=.returned (.bool d)/\(d=true->1<=a/\a<=256/\f=a/\(∀c,c<a->1<=b c/\b c<=3)/\b 0=1/\b (a-1)≠3)/\V [] e h
theorem RO(a:b:=by
 have G:¬((a:Int)<(d:Int)):=Z;obtain rfl:d=a:=Z;refine aG (d-1) λg ze=>?_;have zr:(d:Int)-1=(g:Int):=Z;have zp:(g:Int)<(d:Int):=Z;have zn:(0:Int)<(d:Int):=Z;have m:=n.out _ j.out 0 Z;have zk:=n.out _ j.out g Z;rw[fs]at m;have zd:=Y ze;by_cases z:f 0=1
 .rw[z]at m;have zf:=Y z;by_cases u:f g=3
  .rw[u]at zk;exact HP
  .have zq:(f g !=3)=true:=by simpa using u
   have W:=Y u;go_wp2_with fail
   exact gJ rfl ⟨_,rfl,λ_=>⟨Z,Z,rfl,t.out,zf.out,by rw[zd.out];exact W.out⟩,j.out⟩
 .have u:(f 0==1)=false:=by simpa using z
  exact HP):b:=a
theorem RP(a:b:=by exact HP):b:=a
theorem RQ(a:b:=by exact⟨0,Z,rfl,Y λ_ l=>absurd l (fT _),Y b.aa⟩):b:=a
theorem RR(a:b:=by
 refine aG (f a) λv o=>?_;rw[o]at m r;by_cases I:v<1
 .clear r o;exact RP
 .have J:3<v:=Z;have zl:1<=v:=Z;exact RP):b:=a
theorem HP(a:b:=by
 go_wp2_with fail
 exact gJ rfl ⟨_,rfl,λe=>Bool.noConfusion e,j.out⟩):b:=a
theorem RS(a:b:=by
 go_wp2_with(refine b.aI _ (#[.bool false,.bool q,.bool s]) ?_;intro C y b;have E:=b.ah 0 0)
 exact nv):b:=a
theorem RT(a:b:=by
 go_wp2_with(refine b.aI _ (#[.bool true,.bool q,.bool s]) ?_;intro C y b;have E:=b.ah 0 0)
 exact nv):b:=a
theorem RU(a:i)(c:i->b:=by
 intro za;have n:=Y λp(w:V [] c p) a(D:a<d)=>show p.cell? ⟨K,O+a,none⟩=some (.int .i64 (f a))from by have l:=H a (X (f a)) (by simp[D]);exact RV
 revert n;exact za):b:=c a
theorem afb(zi:Qae)(h P d bw:Nat)(T:Qae)(f:aj)(x q s:Bool)(zo:h<=4)(zj:aF c T 1 d ((List.range d).map λa=>X (f a))):Calls prog 41 #[.slice zi h P,.slice T d bw,.agg #[.bool x,.bool q,.bool s]] c (afa h d f x c):=by
 have zm:(h:Int)<=4:=Z;have L:=Y zj;cases x
 .skip;have b:=ao.nil [] c;go_in;by_cases zb:1<=h
  .have Q:(1:Int)<=(h:Int):=Z;by_cases A:d=h
   .subst A;obtain⟨K,O,rfl,H⟩:=L.out.plain Z R;refine RU λn=>?_;go_wp2_with(refine b.aI _ (#[.bool false,.bool q,.bool s]) ?_;intro C y b;have E:=b.ah 0 0)
    go_loopw [8] (λk wr=>∃a:Nat,a<=d/\k=X a/\Hid (∀i,i<a->1<=f i/\f i<=3)/\Hid (V [] c wr)) (λk _=>d-(intOf k).toNat)
    .exact RQ
    .obtain⟨a,D,rfl,t,j⟩:=hrel;by_cases F:a<d
     .have G:(a:Int)<(d:Int):=Z;have m:=n.out _ j.out a F;by_cases r:1<=f a/\f a<=3
      .refine aG (f a) λv o=>?_;rw[o]at m;have I:1<=v:=Z;have J:v<=3:=Z;have B:=Y r;go_wp2_with fail
       exact⟨⟨a+1,Z,a8,Y λi zc=>by
        by_cases e:i=a
        .rw[e];exact B.out
        .exact t.out i Z,j⟩,bF⟩
      .exact RR
     .exact RO
   .have zh:((d:Int) !=(h:Int))=true:=aw;exact RS
  .obtain rfl:h=0:=Z;exact RS
 .skip;have b:=ao.nil [] c;go_in;by_cases zb:1<=h
  .have Q:(1:Int)<=(h:Int):=Z;by_cases A:d=h
   .subst A;obtain⟨K,O,rfl,H⟩:=L.out.plain Z R;refine RU λn=>?_;go_wp2_with(refine b.aI _ (#[.bool true,.bool q,.bool s]) ?_;intro C y b;have E:=b.ah 0 0)
    go_loopw [8] (λk wr=>∃a:Nat,a<=d/\k=X a/\Hid (∀i,i<a->1<=f i/\f i<=3)/\Hid (V [] c wr)) (λk _=>d-(intOf k).toNat)
    .exact RQ
    .obtain⟨a,D,rfl,t,j⟩:=hrel;by_cases F:a<d
     .have G:(a:Int)<(d:Int):=Z;have m:=n.out _ j.out a F;by_cases r:1<=f a/\f a<=3
      .refine aG (f a) λv o=>?_;rw[o]at m;have I:1<=v:=Z;have J:v<=3:=Z;have B:=Y r;go_wp2_with fail
       exact⟨⟨a+1,Z,a8,Y λi zc=>by
        by_cases e:i=a
        .rw[e];exact B.out
        .exact t.out i Z,j⟩,bF⟩
      .exact RR
     .exact RO
   .have zh:((d:Int) !=(h:Int))=true:=aw;exact RT
  .obtain rfl:h=0:=Z;exact RT
def ir(b:Nat):aD:=⟨16,16,25,1,false,100000,100000,λa=>if a<b then 16 else 0,λa=>if a<b then 16 else 0⟩
theorem afc:prog.built 26 [(0,.int .i64 16),(1,.int .i64 16),(2,.agg #[X 25,X 1]),(4,.int .i64 100000),(5,.int .i64 100000)]=some (ay (ir 0)):=ar
theorem afd(c:d<64):((ay (ir d)).setIfInBounds (7+d) (.int .u8 16)).setIfInBounds (71+d) (.int .u8 16)=ay (ir (d+1)):=by
 rw[Yn _ _ _ c,Yo _ _ _ c];have e:(λa=>if a<d+1 then(16:Int)else 0)=aV (λa=>if a<d then 16 else 0) d 16:=by
  funext a;show(if a<d+1 then(16:Int)else 0)=if a=d then 16 else if a<d then 16 else 0
  by_cases b:a=d
  .rw[ae b,ae Z]
  .exact GA
 unfold ir;rw[e]
def afe(a:N)(c:Ending)(b:N):Prop:=c=.returned (ay (ir 64))/\V [] a b
theorem CI:Calls prog 19 #[] c (afe c):=by
 have b:=ao.nil [] c;go_in;refine kD λl o p i=>?_;go_wp2_with(first|(clear l;refine b.aH (ay ⟨0,0,0,0,false,0,0,λ_=>0,λ_=>0⟩) CC ?_;clear b;intro j r b)|(clear o;refine fU (T:=26) (ay (ir 0)) ?_ (d:=afc))|(clear p;refine b.aH (ay ⟨0,0,0,0,false,0,0,λ_=>0,λ_=>0⟩) CC ?_;clear b;intro n u b)|(clear i;refine b.aN 0 (ay (ir 0)) (cH _) (pu _) ?_ (s:=FC);clear b;intro m b))
 go_loopw [2] (λa wr=>∃d:Nat,d<=64/\a=X d/\Hid (ao [] c wr [(n,26,ay (ir d)),(j,26,ay ⟨0,0,0,0,false,0,0,λ_=>0,λ_=>0⟩)])) (λa _=>64-(intOf a).toNat)
 .exact⟨0,Z,rfl,Y b⟩
 .obtain⟨d,s,rfl,g⟩:=hrel;clear b;have b:=g.out;clear g;by_cases k:d<64
  .have h:(d:Int)<64:=Z;refine fE λf e=>?_;go_wp2_with(first|(clear f;refine b.a6 0 (.int .u8 16) ((ay (ir d)).setIfInBounds (7+d) (.int .u8 16)) ?_ (d:=7+d) (t:=by rw[gr];omega);clear b;intro t b)|(clear e;refine b.a6 0 (.int .u8 16) (ay (ir (d+1))) ?_ (d:=71+d) (s:=afd k) (t:=by rw[xW,gr];omega);clear b;intro q b))
   exact sI
  .have h:¬((d:Int)<64):=Z;obtain rfl:d=64:=Z;refine fE λf e=>?_;go_wp2_with(first|(clear f;refine b.ld 0 (cH _) ?_)|(clear e;refine b.aN 1 (ay (ir 64)) (cH _) (pu _) ?_ (s:=FC);clear b;intro m b))
   exact bB (eH rfl (cH _) (b.ai 1 rfl) rfl) ⟨rfl,b.aa⟩
