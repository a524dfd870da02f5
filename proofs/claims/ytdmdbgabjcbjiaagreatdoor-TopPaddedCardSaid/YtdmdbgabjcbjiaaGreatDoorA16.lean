import Derived.Test.YtdmdbgabjcbjiaaGreatDoorA13
import Derived.Test.YtdmdbgabjcbjiaaGreatDoorA14
set_option maxHeartbeats 0
set_option maxRecDepth 100000
set_option linter.all false
namespace Go.Proofs.YtdmdbgabjcbjiaaGreatDoor
open Go.RowKit fD cr hs a7 _root_.Go.Proofs.Tryz
variable{i:aY}{j q z d u l:Nat}{a:aD}{t:aE}{e:N}{b:bx}{g:aq}{k:Qae}{h o:Prop}{p:Int}(c:N)
section
variable {y F s zaE:af}{c e m:N}{x:bX}{r zaF:bU}{f:Nat}{T:Qat}{D:Qad}{g:aq}{b:aK}
theorem av.hE(a:av y c e x s r)(l:ag m f T D)(d:V [] e m)(i:f∉x.map (·.1))(n:f∉s)(k:c.heap.size<=f):av y c m ((f,T,D)::x) s r:=⟨a.h.hE l d i k,⟨λg b=>by have h:=a.a.d g b;simp only[cj,bu,kd];exact⟨λj=>n (j▸b),h⟩,a.a.n,λg b=>gD (a.a.l g b) d.size⟩,a.s _ _ _ d U a.q,a.s⟩
theorem av.j5(k:av y c e x s r)(f:V [] e m)(a:aT m g b)(h:g.Ok)(j:∀d∈bg b,d<0\/e.heap.size<=d):av y c m x (s++bg b) λe=>r e/\aT e g b:=k.plus f (λd l=>(j d l).resolve_left (fT _)) (a.fv h) a λ_ _ _ f i a=>a.S f i
theorem hW.ge{d h c:Nat}(b:hW g e d h c m):∀a∈bg (bb g d h c),a<0\/e.heap.size<=a:=λa f=>by
 have i:a=d\/a=h\/a=c:=uF;rcases i with rfl|rfl|rfl
 .exact .inr b.iG
 .exact .inr b.lH
 .exact .inr b.lI
theorem Tg{d v:N}(h:∀a∈s,a<d.heap.size)(g:∀a∈bg b,a<0\/v.heap.size<=a)(e:∀a∈bg b,a<m.heap.size)(j:d.heap.size<=f)(i:f<v.heap.size\/m.heap.size<=f):f∉s++bg b:=λc=>by
 rcases bc.1 c with c|c
 .have:=h _ c;omega
 .have k:=g _ c;have l:=e _ c;omega
end
def om(b:aY)(f:cS)(a:aj)(d e:Nat):Prop:=a 0=1\/(a 0≠1/\(lY b a 1≠0\/lY b a 2≠0)/\∀c,c<2->lY b a (1+c)≠0->Hb b f (lY b a) d e c)
theorem agJ:bO (stM i) j q=0:=by unfold bO stM gT;repeat rw[M Z]
theorem Th(b:aY)(a:aD)(l:Bool)(d:Int)(g:aj)(i:cS)(k:dP)(f h:Nat)(p:dA c)(n:dD)(m:dV b g)(e:ho a)(o:1<=d/\d<=31)(r:hJ c i k)(w:f<=4)(u:h<=4)(j:om b i g f h):Calls prog 122 #[bl b,ay a,.bool l,X d,ap g,bI i k,X f,X h] c (mB 0 (im b a l d g i f h) c):=by
 have q:gP a.a 64=true:=e.v.2.2.2.2.2.2.2.2.2.2.2.2.2.2.2.2.1;have s:gP a.b 64=true:=e.v.2.2.2.2.2.2.2.2.2.2.2.2.2.2.2.2.2;rcases j with j|⟨j,x,t⟩
 .exact adN c b a l d g i k f h p n m ⟨q,e.kj⟩ ⟨s,e.fP⟩ o r j
 .refine aff c b a l d g _ i k f h p n m ⟨q,e.kj⟩ ⟨s,e.fP⟩ o r w u j rfl x (λy z B A=>?_) t;unfold lY;split
  .rw[agJ];omega
  .exact m.aR _ Z Z
theorem vo{j:Bool}{c:Int}{m:aj}{h:cS}{g:Nat}{o:N}{q:dP}(n:i.Ok)(u:hJ o h q)(b:om i h m g z):(im i a j c m h g z).dN:=by
 have l:∀e f k,aq.dN k->(fj e f c j k 6).dN:=λe f k t=>by obtain⟨p,s,d⟩:=G0 (b:=e) (g:=f) (e:=c) (f:=j) t 6 R;exact⟨p.toOk,s,d⟩
 unfold im;rcases b with b|⟨b,w,r⟩
 .rw[ae b];exact l _ _ _ ⟨sg R R R R R R R R R,rfl,rfl⟩
 .rw[M b];exact l _ _ _ (QI w λd ak c=>(Hd (y:=0) (ze:=z) (zd:=g) n u ak (r d ak c)).q')
def jm(b c:Nat):Qad:=((List.range c).map λa=>.bool (decide (a<b))).toArray
theorem Is:(jm d j).size=j:=by simp[jm]
theorem Ti:kz 4 (.bool false) 1 1:=k7
theorem Tj(a:Nat):madeCells (Value.bool false).cells (a*1)=jm 0 a:=by
 rw[tb _ rfl];apply kc;intro c;by_cases b:c<a
 .simp[jm,b]
 .simp[jm,b]
theorem agK(c:d<j):(jm d j).setIfInBounds d (.bool true)=jm (d+1) j:=by
 apply kc;intro a;rw[qu];by_cases e:d=a
 .subst e;rw[ae rfl,ae (by rw[Is];exact c)];simp[jm,c]
 .rw[M e];by_cases b:a<j
  .simp only[jm,b4,fx,qN b,hU];have:decide (a<d)=decide (a<d+1):=aw;rw[this]
  .simp[jm,b]
theorem agL(a:Nat):(jm a a).toList=List.replicate a (.bool true):=by
 apply oM;intro c;by_cases b:c<a
 .simp[jm,b]
 .simp[jm,b]
theorem CT{h:Func}{f:Qav}{T i:Qat}{b:Nat}{d:Qad}{c g v:Tmp}(l:h.results=#[.cell c T,.tmp g,.tmp v]){a:Qad}(j:bT f T d.size)(n:ag e b i d)(k:a.getD c undef=ab b):(results h a).run f e=.ok (.tuple #[d,a.getD g undef,a.getD v undef]) e:=by
 have m:a[c]?.getD undef=ab b:=by simpa using k
 simp only[results,l];simp[eS,Result.andThen,m,asAddr,j.load n]
def Tk(f:aq)(a:Nat)(c:N)(g:Ending)(e:N):Prop:=∃d b,g=.returned (.tuple #[al f d,.slice (ab b) a a,X 0])/\aT e f d/\aF e (some ⟨b,0,none⟩) 1 a (List.replicate a (.bool true))/\V [] c e/\(∀h∈bg d,c.heap.size<=h)/\c.heap.size<=b
theorem Tl{e:Bool}(c:fI a b e):cc a b%16=0/\16<=cc a b:=by
 have f:=c.aQ.v;unfold et at f;unfold cc;split
 .omega
 .rename_i d;have:=pU c d;omega
theorem It{l:Bool}(c:fI a b l)(s:li g a.W a.H):(jZ a b g).dd/\((jZ a b g).w:Int)=a.W/\((jZ a b g).h:Int)=cc a b:=by
 have p:=c.aQ.v;unfold et at p;have x:=CE c;have t:=Tl c;unfold jZ;by_cases f:g.w=0
 .rw[ae f];exact⟨⟨sg Z Z Z Z Z Z R R R,by show a.W.toNat%16=0;omega,by show(cc a b).toNat%16=0;omega⟩,by show((a.W.toNat:Nat):Int)= _;omega,by show(((cc a b).toNat:Nat):Int)= _;omega⟩
 .obtain⟨k,o,y⟩:=s.resolve_left f;rw[M f];have i:∀d,d<=1->b.s≠3->(cL g d).dd/\((cL g d).w:Int)=a.W/\((cL g d).h:Int)=cc a b:=λd r e=>by
   have w:=pU c e;have q:g.gQ:=⟨k,Z⟩;obtain⟨m,z,u⟩:=lJ q r;have n:cc a b=a.H/2:=by unfold cc;rw[M e]
   exact⟨⟨m,Z,Z⟩,Z,Z⟩
  by_cases h:b.s=1
  .rw[ae h];exact i 0 R Z
  .rw[M h];by_cases j:b.s=2
   .rw[ae j];exact i 1 R Z
   .rw[M j];have e:b.s=3:=by have:=c.ej.s;omega
    have n:cc a b=a.H:=by unfold cc;rw[ae e]
    exact⟨⟨k,Z,Z⟩,o,Z⟩
theorem Iu{b:aq}{c:Nat->aq}{d:Nat}(e:b.dd)(g:d<b.h/16)(h:∀a,a<b.w/16->(c a).dN):∀a,a<=b.w/16->(hj b c d a).dd/\(hj b c d a).w=b.w/\(hj b c d a).h=b.h
 |0,_=>⟨e,rfl,rfl⟩
 |a+1,j=>by obtain⟨n,f,i⟩:=Iu e g h a Z;exact⟨A1 n (h a Z) (by rw[f];omega) (by rw[i];exact g),f,i⟩
theorem Tm{a:aq}{c:Nat->Nat->aq}(f:a.dd)(h:∀b d,b<a.h/16->d<a.w/16->(c b d).dN):∀b,b<=a.h/16->(ew a c (a.w/16) b).dd/\(ew a c (a.w/16) b).w=a.w/\(ew a c (a.w/16) b).h=a.h
 |0,_=>⟨f,rfl,rfl⟩
 |b+1,j=>by obtain⟨n,e,i⟩:=Tm f h b Z;have:=Iu (c:=c b) n (d:=b) (by rw[i];omega) (λd g=>h b d Z (by rw[e]at g;exact g)) (a.w/16) (by rw[e];exact a' _);exact⟨this.1,this.2.1.trans e,this.2.2.trans i⟩
theorem Tn{a:aj}:(ap a).toList[0]? =some (.int .i64 (a 0)):=by rw[eo,uK R];rfl
theorem agM(j:aD)(h:bx)(u:Bool)(q:cS)(w:dP)(p g e L Q:Nat)(A:Nat->Nat->Nat->Int)(J:Nat->Option Addr)(D W:Nat->Nat)(zP:dA c)(zaC:dD)(z:fI j h u)(B:o1 j h u q)(zd:hJ c q w)(z8:1<=p/\p<=31)(zU:j.W/16=(g:Int))(zE:cc j h/16=(e:Int))(zq:∀a,a<e->∀d,d<g->dV (bD j h u) (A a d))(zu:∀a,a<e->∀d,d<g->om (bD j h u) q (A a d) d a)(zS:dQ c L 2 e λd=>br (1+(d:Int)) (J d) (D d) (W d))(zz:∀a,a<e->aF c (J a) 1 (D a) (aC (bh (iL (bD j h u) (A a) p g)))/\D a<=1099511627776):Calls prog 70 #[ay j,.agg (ct h (some ⟨L,0,none⟩) e Q),bI q w,.bool u] c (Tk (ew (jZ j h q.bp) (λa d=>im (bD j h u) j h.a p (A a d) q d a) g e) e c):=by
 refine To λzi zh=>?_;have zas:=Y λc=>Hj c j h u;refine Tp λzj=>?_;have zad:=Y zS;have zah:=Y zq;have zav:=Y (show 1<=(p:Int)/\(p:Int)<=31 from Z);have z':=z.aQ.v;unfold et at z';have zar:=CE z;have za:=Y (show e<=4 from Z);have zQ:=Y (show 0<g/\g<=4 from Z);have zay:=Y λk(n:V [] c k)(a:Nat)(s:a<e)=>aeo k j h u (a:Int) p g (A a) (J a) (D a) (W a) z ⟨Z,Z⟩ z8 zU (zq a s) ((zz a s).1.ad n) (zz a s).2;refine aG (jZ j h q.bp) λl zJ=>?_;obtain⟨i,zl⟩:∃i:Nat->Nat->aq,(λa d=>im (bD j h u) j h.a p (A a d) q d a)=i:=⟨_,rfl⟩;have zp:=It z B.bp;rw[zJ]at zp⊢;have zaA:=Y zJ;have zaq:=Y zp;have zt:=Y λa(s:a<e) d(C:d<g)=>show(i a d).dN by rw[<-zl];exact vo z.nV zd (zu a s d C)
 have zat:=Y λk(n:V [] c k) a(s:a<e) d(C:d<g)=>show Calls prog 122 #[bl (bD j h u),ay j,.bool h.a,X p,ap (A a d),bI q w,X d,X a] k (mB 0 (i a d) k) by rw[<-zl];exact Th k _ j h.a p (A a d) q w d a (zP.ad n) zaC (zq a s d C) z.aQ Z (zd.ad n) Z Z (zu a s d C)
 rw[zl];have zH:l.w/16=g:=Z;have zao:l.h/16=e:=Z;have zC:=Y λa(B:a<=e)=>show(ew l i g a).dd/\(ew l i g a).w/16=g/\(a<e->a<(ew l i g a).h/16) by have:=Tm zp.1 (c:=i) (λa d zaG za6=>zt.out a Z d Z) a Z;rw[zH]at this;exact⟨this.1,by rw[this.2.1];exact zH,λz=>by rw[this.2.2];omega⟩
 clear z B zd zU zE zq zu zS zz zP z' zar zp zJ zl zH zao z8;have b:=ao.nil [] c;go_in;go_wp2_with(first|(refine b.aI _ (ay j) ?_;clear b;intro zF zaY b)|(refine b.aI _ (ct h (some ⟨L,0,none⟩) e Q) ?_;clear b;intro zK za0 b)|(refine b.aI _ (bI q w) ?_;clear b;intro zs zaM b)|(refine b.aH (_) bY ?_;clear b;intro zB zba b))
 go_step3;go_wp2_with(first|(refine b.ld 3 (cH _) ?_)|(refine b.cp 2 (a1 h) (cX _) ?_ (o:=by exact(hY rfl)))|(refine b.ld 1 (lr _ _) ?_))
 refine b.aW (zi.out _) ?_;clear b;intro zaO b;go_wp2_with(first|(refine b.ld 3 (cH _) ?_)|(refine b.cp 2 (a1 h) (cX _) ?_ (o:=by exact(hY rfl)))|(refine b.cp 1 (al q.bp w.bp) aB ?_ (o:=by exact(hY rfl))))
 refine(zh.out _ b.aa).mono ?_;rintro K zaP ⟨r,rfl,zI,zZ,zX⟩;rw[zaA.out]at zI⊢;replace b:=(av.jh b).j5 zZ zI zaq.out.1.toOk zX;clear zI zZ zX;go_wp2_with(first|(refine b.aH (_) bY ?_;clear b;intro zw za5 b)|(refine b.aN 0 (al l r) aB (bo _ _) ?_;clear b;intro zaS b)|(refine b.ld 4 (cH _) ?_)|(refine b.cp 3 (a1 h) (cX _) ?_ (o:=by exact(hY rfl))))
 refine b.aW (zj.out _) ?_;clear b;intro zam b;go_wp2_with(refine q5 _ _ _ 4 (.bool false) (jm 0 e) 1 1 e underlying161 Ti (Tj e) sU CU ?_;intro zaW z6 n;replace b:=b.aP z6 n (a' _);clear z6 n;generalize zam.heap.size=zk at b⊢)
 refine Tq ?_;clear b;intro zr t I P ze b;clear I P ze;rw[show l=ew l i g 0 from rfl]at b;go_wp2_with fail
 go_step3;go_wp2_with fail
 go_loopw [60] (λH wr=>∃a:Nat,a<=e/\H=X a/\∃r:aK,Hid (av [] c wr [(zk,4,jm a e),(zw,71,al (ew l i g a) r),(zB,71,_),(zs,131,bI q w),(zK,52,ct h (some ⟨L,0,none⟩) e Q),(zF,26,ay j)] (t::bg r) λk=>lW e 4 t k/\aT k (ew l i g a) r)) (λH _=>e-(intOf H).toNat)
 .exact⟨0,Z,rfl,r,Y b⟩
 .obtain⟨a,B,rfl,r,z1⟩:=hrel;try clear b
  have b:=z1.out;clear z1;by_cases s:a<e
  .have zae:(a:Int)<(e:Int):=Z;have zbb:=za.out;have E:=And.intro (zC.out a B).1 (And.intro (zC.out a B).2.1 ((zC.out a B).2.2 s));go_wp2_with(refine b.ld 4 lu ?_)
   refine b.aW (adU _ h L t e Q a J D W (zad.out.ad b.aa) b.q.1 s za.out) ?_;clear b;intro zbe b;go_wp2_with(first|(refine b.aH (br 0 none 0 0) jV ?_;clear b;intro zV zaH b)|(refine b.aN 0 (br (1+(a:Int)) (J a) (D a) (W a)) en (jA _ _) ?_;clear b;intro za4 b)|(refine b.ld 6 (cH _) ?_)|(refine b.cp 5 (a1 h) (cX _) ?_ (o:=by exact(hY rfl)))|(refine b.ld 0 en ?_))
   refine(zay.out _ b.aa a s).mono ?_;rintro K zaJ ⟨F,rfl,zD,z7,zW⟩;replace b:=b.plus (zy:=[F]) (zu:=λk=>dQ k F 408 g λd=>ap (A a d)) z7 (by simpa using zW) (by simpa using f' _ _ (zD 0 zQ.out.1 0 _ Tn)) zD λ_ _ _ n x p=>p.S n (x _ U);clear zD z7 zW;go_wp2_with(first|(refine b.ld 2 aB ?_)|(refine b.aH (_) bY ?_;clear b;intro zf zb b)|(refine b.aN 0 (al (ew l i g a) r) aB (bo _ _) ?_;clear b;intro zaf b))
   have zac:ck (av [] c zaf [(zf,71,al (hj (ew l i g a) (i a) a 0) r),(zV,97,br (1+(a:Int)) (J a) (D a) (W a)),(zk,4,jm a e),(zw,71,al (ew l i g a) r),(zB,71,_),(zs,131,bI q w),(zK,52,ct h (some ⟨L,0,none⟩) e Q),(zF,26,ay j)] (t::F::bg r) λk=>(lW e 4 t k/\dQ k F 408 g λd=>ap (A a d))/\aT k (hj (ew l i g a) (i a) a 0) r):=b.ha _ (by grind) ⟨⟨b.q.1.1,b.q.2⟩,b.q.1.2⟩ λ_ _ _ n x p=>⟨⟨p.1.1.S n (x _ U),p.1.2.S n (x _ U)⟩,p.2.S n λd f=>x d jT⟩;go_loopw [19,87] (λzag H wr=>∃d:Nat,d<=g/\H=X d/\zag=X p/\∃O:aK,Hid (av [] c wr [(zf,71,al (hj (ew l i g a) (i a) a d) O),(zV,97,br (1+(a:Int)) (J a) (D a) (W a)),(zk,4,jm a e),(zw,71,al (ew l i g a) r),(zB,71,_),(zs,131,bI q w),(zK,52,ct h (some ⟨L,0,none⟩) e Q),(zF,26,ay j)] (t::F::bg O) λk=>(lW e 4 t k/\dQ k F 408 g λd=>ap (A a d))/\aT k (hj (ew l i g a) (i a) a d) O)) (λ_ H _=>g-(intOf H).toNat)
   .exact⟨0,Z,rfl,rfl,r,zac⟩
   .obtain⟨d,f,rfl,rfl,O,zT⟩:=hrel;clear zac;try clear b
    have b:=zT.out;clear zT;by_cases C:d<g
    .have zaz:(d:Int)<(g:Int):=Z;have zaN:=zQ.out.2;have zaT:=zav.out;have zal:=Y (zah.out a s d C).q;have zo:=zt.out a s d C;have G:=Iu (c:=i a) E.1 E.2.2 (λd f=>zt.out a s d (by have:=E.2.1;omega)) d (by have:=E.2.1;omega);have G:=Y G;go_wp2_with(first|(refine lg (cP _) (b.q.1.2 d C) ?_)|(refine b.aH (ap λ_=>0) i' ?_;clear b;intro za7 zbd b)|(refine b.aN 0 (ap (A a d)) (cP _) (gf _) ?_ (s:=jD);clear b;intro zak b;have zai:=b.cl 0 17 (v:=X 0) (g:=by exact(fa R rfl).trans (aX (λzaD=>some (Value.int .i64 zaD)) zal.out))))
     clear zai;have zaw:=b.ah 7 5;refine CV ?_;clear b;intro m o y b;refine rg [18] [0,1,2,3,5,6,7,8,9,10,11,12,13,104,114,15,16,317,418,219,20] ?_;refine b.fw 8 (cH _) ?_;refine lv ?_;refine b.hZ 7 (a1 h) (cX _) ?_;refine ax ?_;refine b.jf (λv b=>zas.out _) ?_;clear b;intro zaZ zaI b;simp only[az];refine n3 rfl (λk=>mF) (λv z=>zat.out _ (b.aS z).aa a s d C) ?_;rintro za2 zan K za8 ⟨zax,rfl,zG,zN,zv⟩;replace b:=b.aS zan;refine⟨_,rfl,zN,?_⟩;have zY:=zG.fv zo.toOk;replace b:=b.j5 zN zG zo.toOk zv;refine uH λzaL zbc zab zaa zn=>?_;have zx:=km zn (za:=zak.heap.size) U;simp only[az];have zM:=Tg y zv zY zx (by simp only[lq,bu]at zn;exact zn _ (.inl rfl));replace b:=b.hE zaa zab (m.off zx) zM (b7 o zx);clear zaa zab zn zM zY zv zG;refine b.dq 0 (al (i a d) zax) aB (bo _ _) ?_;clear b;intro za3 b;refine ax ?_;clear zaw;go_wp2_with(first|(refine b.ld 2 aB ?_)|(refine b.ld 0 aB ?_))
     refine(Mr _ _ _ _ _ d a G.out.1 zo (by rw[G.out.2.1];have:=E.2.1;omega) (by rw[G.out.2.2];exact E.2.2) b.q.1.2 b.q.2).mono ?_;rintro K za9 ⟨zR,zL,zO,rfl,zm⟩;replace b:=(b.ha (zu:=λk=>lW e 4 t k/\dQ k F 408 g λd=>ap (A a d)) [t,F] (by grind) b.q.1.1 λ_ _ _ n x p=>⟨p.1.S n (x _ U),p.2.S n (x _ U)⟩).j5 zm.S zm.is (A1 G.out.1 zo (by rw[G.out.2.1];have:=E.2.1;omega) (by rw[G.out.2.2];exact E.2.2)).toOk zm.ge;rw[show oO (hj (ew l i g a) (i a) a d) d a (i a d)=(hj (ew l i g a) (i a) a (d+1))from rfl]at b⊢;clear zm;go_wp2_with(refine b.aN 2 (al (hj (ew l i g a) (i a) a (d+1)) (bb (hj (ew l i g a) (i a) a (d+1)) zR zL zO)) aB (bo _ _) ?_;clear b;intro zaX b)
     exact⟨⟨d+1,Z,a8,rfl,(bb (hj (ew l i g a) (i a) a (d+1)) zR zL zO),Y (b.drop 2)⟩,bF⟩
    .have zaz:¬((d:Int)<(g:Int)):=Z;obtain rfl:g=d:=Z;rw[show(hj (ew l i g a) (i a) a g)=(ew l i g (a+1))from rfl]at b;go_wp2_with(first|(refine b.ld 0 aB ?_)|(refine b.aN 3 (al (ew l i g (a+1)) O) aB (bo _ _) ?_;clear b;intro zaV b)|(refine b.a6 2 (.bool true) (jm (a+1) e) ?_ (s:=agK s) (t:=by rw[Is];exact s);clear b;intro za1 b))
     exact⟨⟨a+1,Z,a8,O,Y ((b.drop 2).ha _ (by grind) ⟨b.q.1.1,b.q.2⟩ λ_ _ _ n x p=>⟨p.1.S n (x _ U),p.2.S n λd f=>x d jT⟩)⟩,bF⟩
  .have zae:¬((a:Int)<(e:Int)):=Z;obtain rfl:e=a:=Z;go_wp2_with(first|(refine b.ld 1 aB ?_)|(refine b.aN 2 (al (ew l i g e) r) aB (bo _ _) ?_;clear b;intro zaU b))
   refine bB (CT rfl (kM _ _) (b.ai 2 rfl) rfl) ⟨r,zk,rfl,b.q.2,by have:=aF.ai (e:=e) (C:=1) (b.ai 0 (h:=zk) rfl) (by rw[Is,k3]);rwa[agL]at this,b.aa,λd f=>(b.a.n d jT).resolve_left U,(b.h.n _ (bS (i:=0) rfl)).resolve_left U⟩
theorem oo(b:aq)(a:aK):Calls prog 84 #[al b a,X 0] c λd e=>d=.returned (al b a)/\V [] c e:=ach c _ _ _ _ _ (bo b a)
def Tr(c:aq)(b:N)(e:Ending)(d:N):Prop:=∃a,e=.returned (al c a)/\aT d c a/\V [] b d/\∀f∈bg a,b.heap.size<=f
structure bG.Ok(a:bG)(b:N):Prop where
 l:dA b
 aQ:ho a.s
 q:1<=a.q/\a.q<=31
 c:a.c.Ok
 r:hJ b a.hN a.P
theorem bG.Ok.ad{c:bG}{b d:N}(a:c.Ok b)(e:V [] b d):c.Ok d:=⟨a.l.ad e,a.aQ,a.q,a.c,a.r.ad e⟩
theorem Iv(a:bG)(i:Nat)(F:ag c i 291 (cW a))(l:a.Ok c)(I:dD)(g:aj)(j k:Nat)(za:j<=4)(O:k<=4)(zb:dV a.c g)(w:om a.c a.hN g j k):Calls prog 204 #[ab i,ap g,X j,X k] c (Tr (im a.c a.s a.h.a a.q g a.hN j k) c):=by
 have h:=Y F;refine aG (im a.c a.s a.h.a a.q g a.hN j k) λL W=>?_;have t:=Y (vo (a:=a.s) (j:=a.h.a) (c:=(a.q:Int)) l.c l.r w).toOk;have D:=Y λo(x:V [] c o)=>Th o a.c a.s a.h.a a.q g a.hN a.P j k (l.l.ad x) I zb l.aQ (by have:=l.q;omega) (l.r.ad x) za O w;rw[W]at t D⊢;have b:=ao.nil [] c;go_in;go_wp2_with(first|(refine b.aI _ (ap g) ?_;intro zf ze b)|(refine b.aH eh bY ?_;intro zl m b;have zm:m.cell? ⟨i,144,none⟩=some (.bool a.h.a):=(h.out.S b.aa U).au _|>.trans (by exact h3 5);have zh:m.cell? ⟨i,145,none⟩=some (.int .i64 (a.q:Int)):=(h.out.S b.aa U).au _|>.trans (by exact h3 6)))
 have zn:m.cell? ⟨i,144,none⟩=some (.bool a.h.a):=(h.out.S b.aa U).au _|>.trans (by exact h3 5);have zi:m.cell? ⟨i,145,none⟩=some (.int .i64 (a.q:Int)):=(h.out.S b.aa U).au _|>.trans (by exact h3 6);replace b:=b.bd;refine rg [] [0,1,2,3,4,5,6,7,8,9,10,11,12,13,14,15,16,17,18,19,20,21,22,23,124,25,26,127,228] ?_;refine iX ?_;refine hh (aL:=bl a.c) (cE _) (h.out.S b.aa U) p1 rfl rfl rfl ?_;refine iX ?_;refine hh (aL:=ay a.s) (cH _) (h.out.S b.aa U) p0 rfl rfl rfl ?_;refine J4 ?_;refine b.fw 1 (cP _) ?_;refine iX ?_;refine hh (aL:=bI a.hN a.P) (lr _ _) (h.out.S b.aa U) afm rfl rfl rfl ?_;refine ax ?_;refine bN (D.out _ b.aa) ?_;refine wS λzj E H K zd=>?_;replace b:=(av.jh b).j5 K H t.out zd;refine ax ?_;refine b.ec (oo _ _ _) ?_;intro zk b;simp only[az];refine b.dq 0 (al L E) aB (bo _ _) ?_;intro A b;refine ax ?_;go_wp2_with fail
 refine bB (eH rfl aB (b.ai 0 rfl) rfl) ⟨E,rfl,b.q.2,b.aa,λd f=>(b.a.n d jT).resolve_left U⟩
theorem CW.range{d:N}{c a b:Nat}{aL:Qam}(i:e.rangeAt a b aL)(l:V [c] e d)(f:c≠a):d.rangeAt a b aL:=λh k g=>by have:=i h k g;rw[l.au (f' _ _ this) (by simp;exact λj=>f j.symm)];exact this
section
variable {C:Qak}{j:Nat}{A:Qai}{E:Qaj}{w:Qax}{n:Act}{e:N}{r:Qab}{T:Qat}{B:Qau}{f b:Nat}{aL:Qad}
theorem iR(u:e.rangeAt f b aL.toList)(d:bT prog T aL.size)(g:ba (bA []) prog C r j A E (n.put w.dst (aL)) e)(s:w.op=.load T B:=by rfl)(q:n.eval B=.pointer (some ⟨f,b,none⟩):=by rfl) (c:(match w.dst with|some a=>decide (a<n.tmps.size)|none=>false)=true:=by rfl) (m:jK w=true:=by rfl) (k:cB w C n:=by rfl):ba (bA []) prog C r j ((w,0)::A) E n e:=by obtain⟨a,h,l,p⟩:=d;exact⟨aL,cr.vX c m k λx t _ i o=>wp_load_mid (K:=i) (Q:=λ_ _ _=>False) T B s f b q aL.toList a (iM u t) h (by cases a<;>first|rfl|cases l) mY (by simpa using o.out),g⟩
end
def vp(a:aD):Option fA->Array Value
 |some g=>c4 a g
 |none=>c4 b6 j0
def Ts(c:N)(b:aD)(d:Nat)(a:l0×Option fA):rD:=HY c d (c5 b a.1) (.tuple #[vp b a.2,.bool a.2.isSome])
theorem Iw{f:Nat}{j:List (List Nat)}{m:Nat}(h:e.rangeAt f (u*148) (cd a (.cD b j) k l (m:Int)).toList):e.rangeAt f (u*148+139) (a1 b).toList:=λc d i=>by
 have g:(a1 b)[c]? =some d:=by rw[<-eo];exact i
 exact Tt
theorem Ix(a:o)(b:o->h:=by intro zF;have s:=b.cl 2 135 (v:=.bool true) (g:=(vd (e:={e with dR:=-1})).trans (aX (λzN=>some (Value.bool zN)) zI.out));replace b:=b.bd;refine rg [] [0,1,2,3,4,5,6,7,8,9,10,111,12,13] ?_;refine J4 ?_;refine b.hZ 2 (ay j) (cH _) ?_ (o:=by exact R5);refine ax ?_;refine b.ec (zR.out _) ?_;clear b;intro O b;refine ax ?_;clear s;have t:=b.ah 0 1;revert O b t;exact zF):h:=b a
theorem Iy(a:o)(b:o->h:=by intro zC;refine lx ?_;refine iR (Iw y.out) (cX _) ?_;refine ax ?_;refine H9 10 λf a=>?_;refine cw _ (a1 ⟨0,0,0,false,false,false⟩) rfl rfl xF rfl ?_;intro K F zv o n;replace b:=b.aP zv o n;replace g:=g.ad o;refine a _ _ (λ_=>g) ?_;clear a f zv;revert K F o n b g;exact zC):h:=b a
theorem Iz(a:o)(b:o->h:=by intro zQ;refine x' 11 λf a=>?_;refine cv (Q:=a1 h) (cX _) (b.ai 0 rfl) rfl (og _) rfl rfl rfl rfl ?_;intro G zs zh zB;replace b:=b.bk 0 zs zh;replace g:=g.own zh n;refine a _ _ (λ_=>g) ?_;clear a f zs zh zB;revert G b g;exact zQ):h:=b a
theorem IA(a:o)(b:o->h:=by intro zA;have l:=b.cl 1 136 (g:=CJ);have y:=Y (zJ.out _ b.aa);replace b:=b.bd;have g:=V.refl [] za.drew;refine Au [0,1,2,3,4,5,6,7,8,9] [] 3 ar ar ar ar rfl ?_;revert l y b g;exact zA):h:=b a
theorem agN(p:Nat)(j:aD)(e:l0)(r:List iN)(x i u zG:Nat)(h:bx)(zk:List (List Nat))(zl:Qae)(zo zn:Nat)(zi:ag c p 208 (c5 j e))(L:e.known=true)(J:fI j h false)(w:r[i]? =some (.cD h))(zb:i<u)(H:u<=64)(zp:p≠x)(I:c.rangeAt x (i*148) (cd j (.cD h zk) zl zo (zn:Int)).toList)(zM:h.s=3\/(h.s≠3/\e.dR=-1/\oW h=true)\/(h.s≠3/\∃(d:Nat)(m:bx)(ze:List (List Nat))(zf:Qae)(zd zc:Nat),e.dR=(d:Int)/\d<u/\c.rangeAt x (d*148) (cd j (.cD m ze) zf zd (zc:Int)).toList/\(e.dR≠-1/\lZ (oh r e.dR) h=true)/\oh r e.dR=m)):Calls prog 148 #[ab p,.slice (ab x) u zG,X i] c (Ts c j p (gL r i e)):=by
 have zI:=Y L;have zR:=Y λc=>show Calls prog 113 #[ay j,a1 h] c λk D=>k=.returned (.bool true)/\V [] c D from xG c j h false J;have zJ:=Y λC(W:V [p] c C)=>show C.rangeAt x (i*148) (cd j (.cD h zk) zl zo (zn:Int)).toList from CW.range I W zp;have zX:(i:Int)<(u:Int):=Z;have zU:u<=64:=H;rcases zM with q|⟨q,Q,P⟩|⟨q,d,m,ze,zf,zd,zc,Q,zL,zt,E⟩
 .have k:gL r i e=(⟨e.known,-1,false,-1⟩,some ⟨i,i,h,e.reset,e.link⟩):=by unfold gL;rw[w];simp only[ae q]
  rw[k];have zj:(h.s==3)=true:=oT;clear J I L w q k zb H;have b:=ao.one zi;go_in;go_wp2_with(refine b.aH (c4 b6 j0) nA ?_;clear b;intro zq za b;have s:=b.cl 1 136 (v:=X e.dR) (g:=by exact CJ))
  refine IA ?_;clear s b;intro l y b g;simp only[ga,nth,Nat.reduceMod,Nat.reduceDiv,cz,dv,c'];refine Iy ?_;clear b g;intro K F o n b g;simp only[Act.put,cb,cK,cQ];refine Iz ?_;clear b g n o;intro G b g;try simp only[Act.put,cb,cK,cQ]
  refine x' 12 λf a=>?_;go_wp2_with fail
  refine a _ _ (λ_=>g) ?_;clear a f g l;refine tC bm ?_ _;go_wp2_with(refine b.a6 2 (X (-1)) (c5 j {e with dR:=(-1)}) ?_ (s:=sM) (t:=mL R);clear b;intro zm b;have l:=b.cl 2 135 (v:=.bool e.known) (g:=by exact vd))
  clear l;refine Ix ?_;clear b;intro O b t;go_wp2_with(refine b.ld 0 (cX _) ?_)
  refine(R8 _ p j _ (i:Int) (i:Int) h (b.ai 2 rfl)).mono ?_;rintro k zz ⟨rfl,B,z⟩;replace b:=b.bk 2 B z;clear B z;clear t;go_wp2_with(refine b.aN 1 (c4 j ⟨(i:Int),(i:Int),h,e.reset,e.link⟩) (kg _ _) (oj _ _) ?_;clear b;intro zu b)
  exact ya 1 2
 .have k:gL r i e=({e with dR:=(i:Int)},none):=by unfold gL;rw[w];simp only[M q];rw[M (by rw[Q];simp),ae P]
  rw[k];have zj:(h.s==3)=false:=oT;have zE:=Y λc=>show Calls prog 114 #[a1 h] c λk D=>k=.returned (.bool true)/\V [] c D by have:=RY c h;rwa[P]at this
  clear J I L w q k P zb H;have b:=ao.one zi;go_in;go_wp2_with(refine b.aH (c4 b6 j0) nA ?_;clear b;intro zq za b;have s:=b.cl 1 136 (v:=X e.dR) (g:=by exact CJ))
  refine IA ?_;clear s b;intro l y b g;simp only[ga,nth,Nat.reduceMod,Nat.reduceDiv,cz,dv,c'];refine Iy ?_;clear b g;intro K F o n b g;simp only[Act.put,cb,cK,cQ];refine Iz ?_;clear b g n o;intro G b g;try simp only[Act.put,cb,cK,cQ]
  refine x' 12 λf a=>?_;go_wp2_with fail
  refine a _ _ (λ_=>g) ?_;clear a f g l;refine tC bm ?_ _;go_wp2_with(refine b.a6 2 (X (-1)) (c5 j {e with dR:=(-1)}) ?_ (s:=sM) (t:=mL R);clear b;intro zm b;have l:=b.cl 2 135 (v:=.bool e.known) (g:=by exact vd))
  clear l;refine Ix ?_;clear b;intro O b t;go_wp2_with fail
  clear t;refine ve 8 9 110 12 ?_;clear b;intro b;refine ax ?_;refine gn λf a=>?_;go_wp2_with fail
  refine a _ _ (V.refl _ _) ?_;clear a f;refine ax ?_;go_wp2_with(refine b.ld 0 (cX _) ?_)
  refine b.aW (zE.out _) ?_;clear b;intro zz b;go_wp2_with(first|(refine b.a6 2 (X i) (c5 j { {e with dR:=(-1)}with dR:=(i:Int)}) ?_ (s:=sM) (t:=mL R);clear b;intro zu b)|(refine b.aN 1 (c4 b6 j0) (kg _ _) (oj _ _) ?_;clear b;intro zD b))
  exact ya 1 2
 .have k:gL r i e=(⟨e.known,-1,false,-1⟩,some ⟨(d:Int),i,m,e.reset,e.link⟩):=by unfold gL;rw[w];simp only[M q];rw[ae E.1,E.2,Q]
  rw[k];have zj:(h.s==3)=false:=oT;have zw:=Y λc=>show Calls prog 115 #[a1 m,a1 h] c λk D=>k=.returned (.bool true)/\V [] c D by have:=RZ c m h;rwa[show lZ m h=true by rw[<-E.2];exact E.1.2]at this
  have zr:=Y λC(W:V [p] c C)=>show C.rangeAt x (d*148) (cd j (.cD m ze) zf zd (zc:Int)).toList from CW.range zt W zp;have zT:(d:Int)<(u:Int):=Z;have zW:((d:Int) !=-1)=true:=by rw[qA];omega
  clear J I L w q k zt E zb H zL;have b:=ao.one zi;go_in;go_wp2_with(refine b.aH (c4 b6 j0) nA ?_;clear b;intro zq za b;have s:=b.cl 1 136 (v:=X e.dR) (g:=by exact CJ))
  refine IA ?_;clear s b;intro l y b g;simp only[ga,nth,Nat.reduceMod,Nat.reduceDiv,cz,dv,c'];refine Iy ?_;clear b g;intro K F o n b g;simp only[Act.put,cb,cK,cQ];refine Iz ?_;clear b g n o;intro G b g;try simp only[Act.put,cb,cK,cQ]
  refine x' 12 λf a=>?_;go_wp2_with fail
  refine a _ _ (λ_=>g) ?_;clear a f g l;refine tC bm ?_ _;go_wp2_with(refine b.a6 2 (X (-1)) (c5 j {e with dR:=(-1)}) ?_ (s:=sM) (t:=mL R);clear b;intro zm b;have l:=b.cl 2 135 (v:=.bool e.known) (g:=by exact vd))
  clear l;refine Ix ?_;clear b;intro O b t;go_wp2_with fail
  clear t;have zO:=Y (zr.out _ b.aa);refine ve 8 9 110 12 ?_;clear b;intro b;refine nI ?_;refine iR (Iw zO.out) (cX _) ?_;refine ax ?_;refine b.ec (zw.out _) ?_;clear b;intro zu b;refine ax ?_;go_wp2_with(refine lg (cX _) (Iw (zr.out _ b.aa)) ?_)
  refine(R8 _ p j _ (d:Int) (i:Int) m (b.ai 2 rfl)).mono ?_;rintro k zD ⟨rfl,B,z⟩;replace b:=b.bk 2 B z;clear B z;go_wp2_with(refine b.aN 1 (c4 j ⟨(d:Int),(i:Int),m,e.reset,e.link⟩) (kg _ _) (oj _ _) ?_;clear b;intro zV b)
  exact ya 1 2
theorem agO(b:aD)(a:Option fA):(vp b a).all (·.oneCell')=true:=by cases a<;>exact oj _ _
theorem Tu(b:aD)(a:Option fA):bT prog 158 (vp b a).size:=by cases a<;>exact kg _ _
theorem agP(b:aD)(a:Option fA):(vp b a).size=145:=by cases a<;>exact p2 _ _
theorem IB{d:Nat}{aL:Qad}(g:e.rangeAt d (u*148) (cd a t k l p).toList)(i:∀b,b<aL.size->(cd a t k l p)[q+b]? =aL[b]?):e.rangeAt d (u*148+q) aL.toList:=λb f h=>by
 have c:aL[b]? =some f:=by rw[<-eo];exact h
 have:=g (q+b) f (by rw[eo];exact(i b (ht.1 c).1).trans c);rwa[<-gk]at this
theorem IC:(cd a t k l p)[0]? =some (.int .i64 t.kind):=nz
theorem Tv:∀b,b<(ay a).size->(cd a .aQ k l p)[1+b]? =(ay a)[b]? :=RB (d:=1) (a:=a)
theorem Tw{b:Bool}{c:Nat}:(cd a (.aA b c) k l p)[136]? =some (.bool b)/\(cd a (.aA b c) k l p)[137]? =some (.bool false):=⟨HH (d:=2) (a:=b6) (f:=b) (h:=(c:Int)) 0 (c9 rfl),HH (d:=2) (a:=b6) (f:=b) (h:=(c:Int)) 1 (c9 rfl)⟩
theorem yb{b:Nat}{v:Qas}(c:e.rangeAt b (u*148) (cd a t k l p).toList)(d:(cd a t k l p)[q]? =some v):e.cell? ⟨b,u*148+q,none⟩=some v:=c q v (by rw[eo];exact d)
theorem Tx(a:h:=by
 go_wp2_with(refine b.aN 0 (c4 b6 j0) (kg _ _) (oj _ _) ?_;intro zA b)
 exact ya 0 1):h:=a
theorem agQ(i:Nat)(f C:aD)(e:l0)(n:List iN)(l g q zc:Nat)(s:aE)(F:Qae)(H G:Nat)(z:ag c i 208 (c5 C e))(y:n[g]? =some s.ak)(zn:g<q)(zd:q<=64)(I:i≠l)(zq:c.rangeAt l (g*148) (cd f s F H (G:Int)).toList)(r:(s=.aQ/\e.known=false/\ho f)\/(∃A zb,s=.aA A zb/\e.known=true/\f=C)\/∃o D,s=.cD o D/\e.known=true/\f=C/\fI f o false/\(o.s=3\/(o.s≠3/\e.dR=-1/\oW o=true)\/(o.s≠3/\∃(d:Nat)(B:bx)(Q:List (List Nat))(W:Qae)(P L:Nat),e.dR=(d:Int)/\d<q/\c.rangeAt l (d*148) (cd f (.cD B Q) W P (L:Int)).toList/\(e.dR≠-1/\lZ (oh n e.dR) o=true)/\oh n e.dR=B))):Calls prog 111 #[ab i,.slice (ab l) q zc,X g] c (Ts c f i (gL n g e)):=by
 have p:=Y λa(k:V [i] c a)=>show a.rangeAt l (g*148) (cd f s F H (G:Int)).toList from CW.range zq k I;have zB:(g:Int)<(q:Int):=Z;have zy:q<=64:=zd;rcases r with⟨rfl,x,ze⟩|⟨A,zb,rfl,x,rfl⟩|⟨o,D,rfl,x,rfl,zr,zi⟩
 .have t:∀a,V [i] c a->a.cell? ⟨l,g*148,none⟩=some (.int .i64 1):=λa k=>by have r:=yb (q:=0) (p.out a k) IC;exact r
  have h:=Y t;have zm:=Y x;have zf:=Y λc=>show Calls prog 39 #[ay f] c λm zs=>m=.returned (.bool true)/\V [] c zs by have:=wv c f ze.i;rwa[lD.2 ze.v]at this
  have m:gL n g e=(⟨true,-1,true,-1⟩,none):=by unfold gL;rw[y];simp only[aE.ak,x];rfl
  rw[m];have b:=ao.one z;go_in;have j:=h.out _ b.aa;go_wp2_with(first|(refine b.aH (c4 b6 j0) nA ?_;intro K J b;have j:=h.out _ b.aa)|(refine b.a6 1 (X (-1)) (c5 C {e with dR:=(-1)}) ?_ (s:=sM) (t:=mL R);intro O b;have zk:=b.cl 1 135 (v:=.bool e.known) (g:=by exact vd);have j:=h.out _ b.aa))
  have zk:=b.cl 1 135 (v:=.bool false) (g:=(vd (e:={e with dR:=-1})).trans (aX (λzv=>some (Value.bool zv)) zm.out));replace b:=b.bd;refine rg [] [0,1,2,3,4,5,6,7,8,9,10,11,12,13,14,15] ?_;refine ax ?_;go_wp2_with fail
  refine(R7 _ i _ _ (b.ai 1 rfl)).mono ?_;rintro m E ⟨rfl,w,u⟩;replace b:=b.bk 1 w u;go_wp2_with fail
  have za:=Y (p.out _ b.aa);refine xt 301 4 110 11 12 213 14 216 ?_;clear b;intro b;refine lx ?_;refine iR (IB za.out Tv) (cH _) ?_;refine iX ?_;refine iR (IB za.out Tv) (cH _) ?_;simp only[az];refine b.ec (zf.out _) ?_;intro zE b;refine ax ?_;refine b.ik 1 (ay f) (c5 f ⟨e.known,-1,true,-1⟩) (cH _) (pu _) ?_ (s:=afq) (u:=by rw[gr,x1];decide);intro zz b;refine ax ?_;refine b.h0 1 (.bool true) (c5 f ⟨true,-1,true,-1⟩) ?_ (r:=afp) (t:=mL R);intro zC b;refine ax ?_;exact Tx
 .have t:∀a,V [i] c a->a.cell? ⟨l,g*148,none⟩=some (.int .i64 2)/\a.cell? ⟨l,g*148+136,none⟩=some (.bool A)/\a.cell? ⟨l,g*148+136+1,none⟩=some (.bool false):=λa k=>by have r:=yb (q:=0) (p.out a k) IC;have zh:=yb (q:=136) (p.out a k) Tw.1;have zt:=yb (q:=137) (p.out a k) Tw.2;exact⟨r,zh,zt⟩
  have h:=Y t;cases A
  .have m:gL n g e=({e with dR:=-1,link:=0},none):=by unfold gL;rw[y];rfl
   rw[m];have b:=ao.one z;go_in;have j:=h.out _ b.aa;go_wp2_with(first|(refine b.aH (c4 b6 j0) nA ?_;intro K J b;have j:=h.out _ b.aa)|(refine b.a6 1 (X (-1)) (c5 f {e with dR:=(-1)}) ?_ (s:=sM) (t:=mL R);intro O b;have j:=h.out _ b.aa)|(refine b.a6 1 (X 0) (c5 f { {e with dR:=(-1)}with link:=0}) ?_ (s:=HX) (t:=mL R);intro E b;have j:=h.out _ b.aa)|(refine b.aN 0 (c4 b6 j0) (kg _ _) (oj _ _) ?_;intro zD b;have j:=h.out _ b.aa))
   exact ya 0 1
  .have m:gL n g e=({e with dR:=-1,reset:=true,link:=-1},none):=by unfold gL;rw[y];rfl
   rw[m];have b:=ao.one z;go_in;have j:=h.out _ b.aa;go_wp2_with(first|(refine b.aH (c4 b6 j0) nA ?_;intro K J b;have j:=h.out _ b.aa)|(refine b.a6 1 (X (-1)) (c5 f {e with dR:=(-1)}) ?_ (s:=sM) (t:=mL R);intro O b;have j:=h.out _ b.aa))
   refine(R7 _ i _ _ (b.ai 1 rfl)).mono ?_;rintro m E ⟨rfl,w,u⟩;replace b:=b.bk 1 w u;exact Tx
 .have t:∀a,V [i] c a->a.cell? ⟨l,g*148,none⟩=some (.int .i64 3):=λa k=>by have r:=yb (q:=0) (p.out a k) IC;exact r
  have h:=Y t;have zx:=Y λa(zp:ag a i 208 (c5 f e))(k:V [i] c a)=>agN a i f e n l g q zc o D F H G zp x zr y zn zd I (p.out a k) (zi.imp id (Or.imp id λ⟨zu,d,B,Q,W,P,L,zo,zl,zw,zj⟩=>⟨zu,d,B,Q,W,P,L,zo,zl,CW.range zw k I,zj⟩));have b:=ao.one z;go_in;have j:=h.out _ b.aa;go_wp2_with(refine b.aH (c4 b6 j0) nA ?_;intro K J b;have j:=h.out _ b.aa)
  refine(zx.out _ (b.ai 1 rfl) b.aa).mono ?_;rintro m O ⟨rfl,w,u⟩;replace b:=b.bk 1 w u;go_wp2_with(refine b.aN 0 (vp f (gL n g e).2) (Tu _ _) (agO _ _) ?_ (s:=by rw[p2,agP]);intro E b)
  exact bB (eW rfl (Tu _ _) (b.ai 0 rfl) rfl) ⟨rfl,b.ai 1 rfl,b.aa⟩
theorem agR:dJ 52 (.agg (ct dS none 0 0)):=dM
theorem agS{b:bx}{d:Qae}{e f:Nat}:∀a,a<(a1 b).size->(ct b d e f)[0+a]? =(a1 b)[a]? :=λa c=>by
 have g:a<6:=c;rw[c'];match a,g with
 |0,_=>rfl
 |1,_=>rfl
 |2,_=>rfl
 |3,_=>rfl
 |4,_=>rfl
 |5,_=>rfl
theorem Ty(h:aD)(k a u:Nat)(e:Nat->bx)(r:Nat->Option Addr)(o q:Nat->Nat)(B:∀d,d<a->fI h (e d) false)(H:∀d,d<a->c.rangeAt k (d*8) (ct (e d) (r d) (o d) (q d)).toList)(D:(a=1/\(e 0).s=3)\/(a=2/\oW (e 0)=true/\lZ (e 0) (e 1)=true)):Calls prog 69 #[ay h,.slice (ab k) a u] c λA x=>A=.returned (.bool true)/\V [] c x:=by
 have I:=Y λd(i:d<a) g=>xG g h (e d) false (B d i);have f:=Y H;have z:=Y D;have L:a<=2:=Z;have b:=ao.nil [] c;go_in;go_wp2_with(refine b.aI _ (ay h) ?_;intro E O b)
 go_loopw [9] (λj wr=>∃d:Nat,d<=a/\j=X d/\Hid (ao [] c wr [(E,26,ay h)])) (λj _=>a-(intOf j).toNat)
 .exact⟨0,Z,rfl,Y b⟩
 .obtain⟨d,P,rfl,y⟩:=hrel;try clear b
  have b:=y.out;by_cases i:d<a
  .have t:(d:Int)<(a:Int):=Z;have F:=Y (iM (f.out d i) b.aa);go_wp2_with(first|(refine lg lu F.out ?_)|(refine b.aH (ct dS none 0 0) agR ?_;intro zc zb b)|(refine b.aN 0 (ct (e d) (r d) (o d) (q d)) lu (xJ _ _ _ _) ?_;intro W b)|(refine b.ld 1 (cH _) ?_)|(refine b.cp 0 (a1 (e d)) (cX _) ?_ (o:=by exact agS)))
   refine b.aW (I.out d i _) ?_;intro za b;go_wp2_with fail
   exact QV
  .have t:¬((d:Int)<(a:Int)):=Z;obtain rfl:a=d:=Z;rcases z.out with⟨rfl,G⟩|⟨rfl,w,C⟩
   .have zd:wr.cell? ⟨k,1,none⟩=some (.int .i64 3):=by have m:=iM (f.out 0 Z) b.aa 1 (X (e 0).s) rfl;rw[G]at m;rwa[show 0*8+1=1 from rfl]at m
    exact ft
   .have l:=Y (CH (iM (f.out 0 Z) b.aa));have p:=Y (CH (iM (f.out 1 Z) b.aa));have s:=Y λg=>RY g (e 0);have n:=Y λg=>RZ g (e 0) (e 1);rw[w]at s;rw[C]at n;go_wp2_with fail
    have Q:=b.aa;refine xt 1 104 10 11 12 13 114 16 ?_;clear b;intro b;refine iX ?_;refine iR l.out (cX _) ?_;simp only[az];refine b.ec (s.out _) ?_;intro J b;have l:=Y (CH (iM (f.out 0 Z) b.aa));have p:=Y (CH (iM (f.out 1 Z) b.aa));refine pk ?_;refine iR l.out (cX _) ?_;refine iX ?_;refine iR p.out (cX _) ?_;simp only[az];refine b.ec (n.out _) ?_;intro K b;refine ax ?_;exact ft
def agT(b:N)(c:Ending)(f:N):Prop:=∃(e:aq)(a:aK)(d:Qas),c=.returned (.tuple #[al e a,d,X 0])/\V [] b f
theorem agU(j:aD)(h:bx)(u:Bool)(q:cS)(w:dP)(e:Nat)(z:fI j h u)(B:o1 j h u q)(zd:hJ c q w)(zE:cc j h/16=(e:Int)):Calls prog 70 #[ay j,ct h none 0 0,bI q w,.bool u] c (agT c):=by
 refine To λzi zh=>?_;refine Tp λzj=>?_;have zk:=CE z;have za:=Y (show e<=4 from Z);refine aG (jZ j h q.bp) λl m=>?_;have o:=It z B.bp;rw[m]at o;have C:=Y m;have E:=Y o;have b:=ao.nil [] c;go_in;go_wp2_with(first|(refine b.aI _ (ay j) ?_;intro G zl b)|(refine b.aI _ (ct h none 0 0) ?_;intro O zv b)|(refine b.aI _ (bI q w) ?_;intro y zs b)|(refine b.aH (_) bY ?_;intro H zt b))
 go_step3;go_wp2_with(first|(refine b.ld 3 (cH _) ?_)|(refine b.cp 2 (a1 h) (cX _) ?_ (o:=by exact(hY rfl)))|(refine b.ld 1 (lr _ _) ?_))
 refine b.aW (zi.out _) ?_;intro zb b;go_wp2_with(first|(refine b.ld 3 (cH _) ?_)|(refine b.cp 2 (a1 h) (cX _) ?_ (o:=by exact(hY rfl)))|(refine b.cp 1 (al q.bp w.bp) aB ?_ (o:=by exact(hY rfl))))
 refine(zh.out _ b.aa).mono ?_;rintro K zc ⟨r,rfl,i,J,A⟩;rw[C.out]at i⊢;replace b:=(av.jh b).j5 J i E.out.1.toOk A;go_wp2_with(first|(refine b.aH (_) bY ?_;intro F zo b)|(refine b.aN 0 (al l r) aB (bo _ _) ?_;intro zf b)|(refine b.ld 4 (cH _) ?_)|(refine b.cp 3 (a1 h) (cX _) ?_ (o:=by exact(hY rfl))))
 refine b.aW (zj.out _) ?_;intro W b;go_wp2_with(refine q5 _ _ _ 4 (.bool false) (jm 0 e) 1 1 e underlying161 Ti (Tj e) sU CU ?_;intro zx s n;replace b:=b.aP s n (a' _);clear s n;generalize W.heap.size=Q at b⊢)
 refine Tq ?_;clear b;intro zr t I P ze b;go_wp2_with fail
 go_step3;go_wp2_with fail
 go_loopw [60] (λg wr=>∃a:Nat,a<=e/\g=X a/\Hid (av [] c wr [(Q,4,jm 0 e),(F,71,al l r),(H,71,_),(y,131,bI q w),(O,52,ct h none 0 0),(G,26,ay j)] (t::bg r) λk=>lW e 4 t k/\aT k l r)) (λg _=>e-(intOf g).toNat)
 .exact⟨0,Z,rfl,Y b⟩
 .obtain⟨a,B,rfl,L⟩:=hrel;try clear b
  have b:=L.out;by_cases zp:a<e
  .have D:(a:Int)<(e:Int):=Z;have zu:=za.out;go_wp2_with(refine b.ld 4 lu ?_)
   refine b.aW (adV _ h t a) ?_;intro zy b;go_wp2_with(first|(refine b.aH (br 0 none 0 0) jV ?_;intro zw zm b)|(refine b.aN 0 (br 0 none 0 0) en (jA _ _) ?_;intro zn b))
   exact⟨⟨a+1,Z,a8,Y (b.drop 1)⟩,bF⟩
  .have D:¬((a:Int)<(e:Int)):=Z;obtain rfl:e=a:=Z;go_wp2_with(first|(refine b.ld 1 aB ?_)|(refine b.aN 2 (al l r) aB (bo _ _) ?_;intro zq b))
   exact bB (CT rfl (kM _ _) (b.ai 2 rfl) rfl) ⟨_,_,_,rfl,b.aa⟩
structure j6 where
 w:Int
 h:Int
 a:Qae
 n:Nat
 c:Nat
 b:Qae
 vq:Nat
 cT:Nat
 v:Qae
 vr:Nat
 yc:Nat
def kS(a:j6):Qad:=qp a.w a.h a.a a.n a.c a.b a.vq a.cT a.v a.vr a.yc
def Tz(a:j6)(b c:Int):Prop:=G' a.w a.h a.n a.vq a.vr/\a.w=b/\a.h=c
def CX(c:aD)(a g:Nat)(f:Nat->j6)(d:aj)(h i:Bool)(e:Int):Prop:=aL c=true/\(1<=e/\e<=31)/\(1<=a/\a<=256/\g=a/\(∀b,b<a->1<=d b/\d b<=3)/\d 0=1/\d (a-1)≠3)/\(∀b,b<a->Tz (f b) c.W c.H)/\(c.b8=true\/(c.b8=false/\h=false/\i=true))
def agV(l:aD)(f g:Nat)(b:Nat->j6)(d:aj)(i j:Bool)(c:Int)(e:N)(h:Ending)(k:N):Prop:=∃a,h=.returned (.bool a)/\(a=true->CX l f g b d i j c)/\V [] e k
theorem TA:bT prog 30 3:=⟨_,underlying30,rfl,ar⟩
theorem agW(a:aD)(O:nd a)(A:Qae)(h I s bw:Nat)(g:Nat->j6)(T:Qae)(t:aj)(p u q:Bool)(i:Int)(W:h<=4)(zf:aF c A 5 h (cq (λf=>kS (g f)) h))(H:aF c T 1 s ((List.range s).map λf=>X (t f))):Calls prog 16 #[ay a,.slice A h I,.slice T s bw,.agg #[.bool p,.bool u,.bool q],X i] c (agV a h s g t p q i c):=by
 have zJ:(h:Int)<=4:=Z;have F:=Y λr=>Lq r a O;have zo:=Y λr(w:V [] c r)=>afb r A h I s bw T t p u q W (H.ad w);have Q:=Y zf;clear O zf H W;have b:=ao.nil [] c;go_in;go_wp2_with(first|(refine b.aI _ (ay a) ?_;clear b;intro zx zI b)|(refine b.aI _ (#[.bool p,.bool u,.bool q]) ?_;clear b;intro zD zL b)|(refine b.ld 1 (cH _) ?_))
 refine hD F.out ?_;clear b;intro zG zw b;clear zw;refine aG (aL a) λzB D=>?_;have zq:=Y D;rw[D];clear D F;cases zB
 .go_wp2_with fail
  exact nv
 .by_cases y:1<=i/\i<=31
  .have zz:=Y y;have C:decide (i<1)=false:=aw;have J:decide (31<i)=false:=aw;clear y;go_wp2_with(refine dO rfl (b.ai 0 rfl) TA rfl rfl ?_)
   refine(zo.out _ b.aa).mono ?_;rintro e o ⟨zF,rfl,L,m⟩;replace b:=b.aS m;have zi:=Y L;clear m L C J;cases zF
   .go_wp2_with fail
    exact nv
   .have zk:=Y (zi.out rfl);obtain⟨zy,zu,rfl,P⟩:=Q.out.plain (by have:=zk.out.1;omega) R;have zA:=Y λr(w:V [] c r) f(za:f<h)=>show r.rangeAt zy (zu+f*5) (kS (g f)).toList from λn zp E=>by have zC:n<5:=(e8.1 E).1;have l:=P (f*5+n) zp (by rw[oe (f:=λf=>kS (g f)) (d:=5) (λ_=>rfl) h f n za zC,<-eo];exact E);rw[<-gk]at l;exact RV
    clear P zi Q;go_wp2_with fail
    go_loopw [11] (λz wr=>∃f:Nat,f<=h/\z=X f/\Hid (∀n,n<f->Tz (g n) a.W a.H)/\Hid (ao [] c wr [(zD,30,#[.bool p,.bool u,.bool q]),(zx,26,ay a)])) (λz _=>h-(intOf z).toNat)
    .exact⟨0,Z,rfl,Y λ_ l=>absurd l (fT _),Y b⟩
    .obtain⟨f,za,rfl,zj,ze⟩:=hrel;clear b;have b:=ze.out;clear ze;by_cases zs:f<h
     .have zv:(f:Int)<(h:Int):=Z;refine xI 1 λj=>?_;refine Cy 1 λk=>?_;go_wp2_with fail
      replace b:=b.bd;refine rg [] [0,1,2,3,4,5,6,7,108,9] ?_;refine iX ?_;refine iR (aL:=kS (g f)) (zA.out _ b.aa f zs) aB ?_;refine ax ?_;refine bN (adF _ (g f).w (g f).h a.W a.H (g f).a (g f).n (g f).c (g f).b (g f).vq (g f).cT (g f).v (g f).vr (g f).yc) ?_;rintro e zH ⟨zr,rfl,zd,B⟩;refine⟨_,rfl,B,?_⟩;replace b:=b.aS B;have zl:=Y zd;clear B zd j k;refine ax ?_;cases zr
      .go_wp2_with fail
       exact nv
      .go_wp2_with fail
       exact⟨⟨f+1,Z,a8,Y λn E=>by
        by_cases e:n=f
        .rw[e];exact zl.out rfl
        .exact zj.out n Z,Y b⟩,bF⟩
     .have zv:¬((f:Int)<(h:Int)):=Z;obtain rfl:h=f:=Z;refine aG a.b8 λzE zb=>?_;have x:=Y zb;have G:∀zh,V [] c zh->(a.b8=true\/(a.b8=false/\p=false/\q=true))->CX a h s g t p q i:=λzh _ l=>⟨zq.out,zz.out,zk.out,zj.out,l⟩;have K:=Y G;clear G zb;cases zE
      .have j:=b.cl 1 4 (v:=.bool false) (g:=by rw[show(ay a)[4]? =some (.bool a.b8)from mJ,x.out]);cases p
       .cases q
        .have k:=b.ah 0 0;have zt:=b.ah 0 2;go_wp2_with fail
         exact nv
        .have k:=b.ah 0 0;have zt:=b.ah 0 2;go_wp2_with fail
         exact gJ rfl ⟨_,rfl,λ_=>K.out _ b.aa (.inr (by simp[x.out])),b.aa⟩
       .have k:=b.ah 0 0;go_wp2_with fail
        exact nv
      .have j:=b.cl 1 4 (v:=.bool true) (g:=by rw[show(ay a)[4]? =some (.bool a.b8)from mJ,x.out]);go_wp2_with fail
       exact gJ rfl ⟨_,rfl,λ_=>K.out _ b.aa (.inl x.out),b.aa⟩
  .by_cases C:i<1
   .clear y;go_wp2_with fail
    exact nv
   .have J:31<i:=Z;have zK:1<=i:=Z;clear y C;go_wp2_with fail
    exact nv
